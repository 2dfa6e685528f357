/- The abstract machine: the end of a function, words, and the bounds of int. -/
import Derived.Test.YtddnnhlcpffbdaaGreatT6
import Derived.KernelRfl

namespace Go.AM

def retQ (T : Tab) (rs : List ResultVar) (m : Nat) (H1 : List Ob) (res : PV) (e : AExit) (st : St) : Prop := match e with | .exit _ => False | _ => RetOK T rs m st H1 res

section
variable {P : Program} {T : Tab}

theorem Ap_end_normal {rs : List ResultVar} {m : Nat} {H1 : List Ob} {res : PV} {st : St} {u : Tok _} : Ap (retQ T rs m H1 res) .normal st u = RetOK T rs m st H1 res := rfl
theorem Ap_end_ret {rs : List ResultVar} {m : Nat} {H1 : List Ob} {res : PV} {st : St} {u : Tok _} : Ap (retQ T rs m H1 res) .ret st u = RetOK T rs m st H1 res := rfl

theorem den_of (hT : TabOk P T) (hm : P.follows .mixedOrders = true) {k : FuncId} {fn : Func} {cd : Code} (hf : P.funcs[k]? = some fn) (hb : fn.body = some cd) (hname : (fn.name == "runtime.NumGoroutine") = false)
    {H0 : List Ob} {args : List PV} {H1 : List Ob} {res : PV} {rs : List ResultVar} (hr : fn.results = List.toArray rs) {n : Nat} (hn : fn.ntmps - args.length = n) {env : List PV} (he : args ++ List.replicate n .any = env) {m : Nat} (hm0 : H0.length = m)
    (h : WA P T m cd ⟨env, H0⟩ (retQ T rs m H1 res) ⟨⟩) : Den P k H0 args H1 res := by
  subst hn; subst he; subst hm0
  refine den_of_wpa hT hm hf hb hname ?_
  rw [hr]
  refine WPA.mono cd (fun e st hq => ?_) h
  cases e <;> exact hq

theorem RetOK.pure {st : St} {rs : List ResultVar} {res : PV} {cd : Prop} {vs : List PV} (h1 : resVs T st rs = some (cd, vs)) (hc : cd) (h2 : fzX st.heap [] (oneRes vs) = some res) : RetOK T rs 0 st [] res :=
  ⟨cd, vs, [], h1, hc, List.nodup_nil, fun i hi => absurd hi (Nat.not_lt_zero i), h2, rfl, fun j id hj => by simp at hj, fun o ho => by simp at ho⟩

theorem RetOK.own {st : St} {rs : List ResultVar} {id len s : Nat} {xs : List (List FV)} {cd : Prop} (h1 : resVs T st rs = some (cd, [.lsl id 0 len s])) (hc : cd) (h2 : st.heap[id]? = some (.row true xs)) :
    RetOK T rs 0 st [.row true xs] (.lsl 0 0 len s) := by
  refine ⟨cd, [.lsl id 0 len s], [id], h1, hc, by simp, fun i hi => absurd hi (Nat.not_lt_zero i), ?_, rfl, fun j k hj => ?_, fun o ho => ?_⟩
  · simp [oneRes, fzX, fzV, fzC, List.idxOf?_cons]
  · cases j with
    | zero =>
      simp at hj; subst hj
      simp [oneRes, idsX, idsV, idsC, List.idxOf?_cons, shutIds, h2]
    | succ j => simp at hj
  · simp at ho; subst ho; exact ⟨trivial, rfl⟩
end

theorem Den.freeze {P : Program} {k : FuncId} {args : List PV} {obs : List Ob} {res res' : PV} (h : Den P k [] args obs res) (hf : fzX obs [] res = some res') : Den P k [] args [] res' := by
  refine ⟨h.1, fun c X ρ vs hh hM hvs => ?_⟩
  have hρ0 : ρ = [] := List.eq_nil_of_length_eq_zero hh.len
  subst hρ0
  refine (h.2 c X [] vs hh hM hvs).mono (fun e w' hpost => ?_)
  obtain ⟨v, X', ρ', he, hk, hr, hp, hle, hnew⟩ := hpost
  obtain ⟨X1, h1, hs1, hn1⟩ := hr.shutIds (idsX obs [] res)
  refine ⟨v, X1, [], he, hk, ⟨rfl, by simp, by simp, by simp, h1.xo, h1.xlt, h1.ge, hh.base⟩, ?_, Places.Le.refl _, by simp⟩
  exact fzX_rd hr hp hf hs1 hn1 (fun id j p hj => by simp at hj)

theorem PRds.swap {w : World} {X : Nat → Prop} {ρ : Places} {vs : Array Value} {pre post : List PV} {x y : PV} (h : PRds w X ρ vs (pre ++ x :: post)) (hy : ∀ v, vs[pre.length]? = some v → PRd w X ρ v y) : PRds w X ρ vs (pre ++ y :: post) := by
  refine ⟨by rw [h.1]; simp, fun i v z hv hz => ?_⟩
  by_cases hi : i = pre.length
  · subst hi
    rw [List.getElem?_append_right (Nat.le_refl _), Nat.sub_self] at hz
    simp only [List.getElem?_cons_zero, Option.some.injEq] at hz
    subst hz
    exact hy v hv
  · refine h.2 i v z hv ?_
    rw [← hz]
    rcases Nat.lt_or_gt_of_ne hi with h1 | h1
    · rw [List.getElem?_append_left h1, List.getElem?_append_left h1]
    · rw [List.getElem?_append_right (by omega), List.getElem?_append_right (by omega)]
      obtain ⟨j, hj⟩ : ∃ j, i - pre.length = j + 1 := ⟨i - pre.length - 1, by omega⟩
      rw [hj]; rfl

theorem Den.empty {P : Program} {k : FuncId} {pre post : List PV} {H1 : List Ob} {res : PV} (h1 : Den P k [] (pre ++ .nilsl :: post) H1 res) (h2 : ∀ ad cap, Den P k [] (pre ++ .fv (.lit (.slice (some ad) 0 cap)) :: post) H1 res) :
    Den P k [] (pre ++ .fv (.sl []) :: post) H1 res := by
  refine ⟨h1.1, fun c X ρ vs hh hM hvs => ?_⟩
  have hlt : pre.length < vs.size := by rw [hvs.1]; simp
  have hv : vs[pre.length]? = some vs[pre.length] := by simp [hlt]
  have hrd := hvs.2 pre.length vs[pre.length] (.fv (.sl [])) hv (by simp)
  generalize vs[pre.length] = v at hv hrd
  cases hrd with
  | fv _ _ hf =>
    cases hf with
    | nil => exact h1.2 c X ρ vs hh hM (hvs.swap (fun u hu => by rw [hv] at hu; cases hu; exact .nilsl))
    | sl ad n cap s _ us hn hc =>
      have hn : n = 0 := by simpa using hn.symm
      subst hn
      exact (h2 ad cap).2 c X ρ vs hh hM (hvs.swap (fun u hu => by rw [hv] at hu; cases hu; exact .fv _ _ (.lit _ rfl)))

theorem shutIds_nil' {H : List Ob} : shutIds [] H = H := rfl
theorem shutIds_cons' {H : List Ob} {id : Nat} {ids : List Nat} : shutIds (id :: ids) H = shutIds ids (shut H id) := rfl
/- The bounds of int. -/
theorem wrap64 {x : Int} (h : -9223372036854775808 ≤ x ∧ x < 9223372036854775808) : IntKind.i64.wrap x = x := by
  simp [IntKind.wrap, IntKind.bits, IntKind.signed]
  split <;> omega
theorem wrap32 {x : Int} : IntKind.u32.wrap x = x % 4294967296 := by simp [IntKind.wrap, IntKind.bits, IntKind.signed]
theorem wrapU64 {x : Int} : IntKind.u64.wrap x = x % 18446744073709551616 := by simp [IntKind.wrap, IntKind.bits, IntKind.signed]

theorem wrap32c {x : Int} (h : 0 ≤ x ∧ x < 4294967296) : IntKind.u32.wrap x = x := by rw [wrap32]; omega
theorem wrapU64c {x : Int} (h : 0 ≤ x ∧ x < 18446744073709551616) : IntKind.u64.wrap x = x := by rw [wrapU64]; omega
theorem wrapU8c {x : Int} (h : 0 ≤ x ∧ x < 256) : IntKind.u8.wrap x = x := by
  simp [IntKind.wrap, IntKind.bits, IntKind.signed]; omega
theorem fdivc {x b : Int} (h : 0 ≤ b) : x.fdiv b = x / b := Int.fdiv_eq_ediv_of_nonneg x h
theorem tdivc {x b : Int} (h : 0 ≤ x) : x.tdiv b = x / b := Int.tdiv_eq_ediv_of_nonneg h
theorem tmodc {x b : Int} (h : 0 ≤ x) : x.tmod b = x % b := Int.tmod_eq_emod_of_nonneg h

def u32s (l : List Nat) : List (List FV) := l.map fun (n : Nat) => [.lit (.int .u32 (n : Int))]
theorem u32s_length {l : List Nat} : (u32s l).length = l.length := by simp [u32s]
theorem u32s_getD {l : List Nat} {i : Nat} (h : i < l.length) : (u32s l).getD i [] = [.lit (.int .u32 ((l.getD i 0 : Nat) : Int))] := by
  simp [u32s, h]
theorem u32s_set {l : List Nat} {i : Nat} {x : Int} (h : 0 ≤ x) : (u32s l).set i [.lit (.int .u32 x)] = u32s (l.set i x.toNat) := by
  have : ((x.toNat : Nat) : Int) = x := Int.toNat_of_nonneg h
  simp [u32s, List.map_set, this]
theorem u32s_take {l : List Nat} {n : Nat} : (u32s l).take n = u32s (l.take n) := by simp [u32s, List.map_take]
theorem u32s_drop {l : List Nat} {n : Nat} : (u32s l).drop n = u32s (l.drop n) := by simp [u32s, List.map_drop]
theorem u32s_append {l k : List Nat} : u32s l ++ u32s k = u32s (l ++ k) := by simp [u32s]
theorem u32s_zeros {n : Nat} : List.replicate n [FV.lit (.int .u32 0)] = u32s (List.replicate n 0) := by simp [u32s]
theorem u32s_size {l : List Nat} : (∀ y ∈ u32s l, y.length = 1) = True := by
  simp only [eq_iff_iff, iff_true]
  intro y hy
  simp only [u32s, List.mem_map] at hy
  obtain ⟨n, _, rfl⟩ := hy
  rfl

end Go.AM

namespace Go.AM
set_option maxRecDepth 100000
theorem rules0 : type_of% (And.intro @WA_seq (And.intro @WA_skip (And.intro @WA_label (And.intro @WA_exit (And.intro @WA_ret (And.intro @WA_block (And.intro @WA_cond (And.intro @WA_region (And.intro @WA_draw (And.intro @Ap_seq_normal (And.intro @Ap_seq_exit (And.intro @Ap_seq_ret (And.intro @Ap_block_normal (And.intro @Ap_block_exit (And.intro @Ap_block_ret (And.intro @Ap_loop_exit (And.intro @Ap_loop_ret (And.intro @Ap_cut_normal (And.intro @Ap_cut_exit (@Ap_cut_ret)))))))))))))))))))) := And.intro @WA_seq (And.intro @WA_skip (And.intro @WA_label (And.intro @WA_exit (And.intro @WA_ret (And.intro @WA_block (And.intro @WA_cond (And.intro @WA_region (And.intro @WA_draw (And.intro @Ap_seq_normal (And.intro @Ap_seq_exit (And.intro @Ap_seq_ret (And.intro @Ap_block_normal (And.intro @Ap_block_exit (And.intro @Ap_block_ret (And.intro @Ap_loop_exit (And.intro @Ap_loop_ret (And.intro @Ap_cut_normal (And.intro @Ap_cut_exit (@Ap_cut_ret)))))))))))))))))))
theorem rules1 : type_of% (And.intro @WO_nil (And.intro @WO_none (And.intro @WO_some (And.intro @WD_nil (And.intro @WD_none (And.intro @WD_some (And.intro @dK_store (And.intro @dK_else (And.intro @Grown_self (And.intro @Grown_append (And.intro @Grown_nil (And.intro @Grown_cons (And.intro @Br_true (And.intro @Br_false (And.intro @condV_bool (And.intro @guardK_t (And.intro @guardK_f (And.intro @guardK_tup (And.intro @guardT_zero (@guardT_succ)))))))))))))))))))) := And.intro @WO_nil (And.intro @WO_none (And.intro @WO_some (And.intro @WD_nil (And.intro @WD_none (And.intro @WD_some (And.intro @dK_store (And.intro @dK_else (And.intro @Grown_self (And.intro @Grown_append (And.intro @Grown_nil (And.intro @Grown_cons (And.intro @Br_true (And.intro @Br_false (And.intro @condV_bool (And.intro @guardK_t (And.intro @guardK_f (And.intro @guardK_tup (And.intro @guardT_zero (@guardT_succ)))))))))))))))))))
theorem rules2 : type_of% (And.intro @updE_some (And.intro @updE_none (And.intro @Aft_some (And.intro @Aft_pure (And.intro @Aft_if (And.intro @ev_tmp (And.intro @ev_const (And.intro @ev_func (And.intro @of_int (And.intro @of_bool (And.intro @of_nil (And.intro @of_nilFunc (And.intro @of_nilPtr (And.intro @W1_move (And.intro @W1_assign (And.intro @W1_pick (And.intro @rPick_bool (And.intro @W1_alloc (And.intro @W1_box (@W1_build)))))))))))))))))))) := And.intro @updE_some (And.intro @updE_none (And.intro @Aft_some (And.intro @Aft_pure (And.intro @Aft_if (And.intro @ev_tmp (And.intro @ev_const (And.intro @ev_func (And.intro @of_int (And.intro @of_bool (And.intro @of_nil (And.intro @of_nilFunc (And.intro @of_nilPtr (And.intro @W1_move (And.intro @W1_assign (And.intro @W1_pick (And.intro @rPick_bool (And.intro @W1_alloc (And.intro @W1_box (@W1_build)))))))))))))))))))
theorem rules3 : type_of% (And.intro @W1_buildSlice (And.intro @W1_load (And.intro @W1_store (And.intro @W1_nilCheck (And.intro @W1_binOp (And.intro @W1_unOp (And.intro @W1_convert (And.intro @W1_makeSlice (And.intro @W1_slice (And.intro @W1_fieldAddr (And.intro @W1_field (And.intro @W1_indexAddr (And.intro @W1_index (And.intro @W1_extract (And.intro @W1_makeFunc (And.intro @W1_lenc (And.intro @W1_clearc (And.intro @W1_bi (And.intro @biRes_lenv (@biRes_append)))))))))))))))))))) := And.intro @W1_buildSlice (And.intro @W1_load (And.intro @W1_store (And.intro @W1_nilCheck (And.intro @W1_binOp (And.intro @W1_unOp (And.intro @W1_convert (And.intro @W1_makeSlice (And.intro @W1_slice (And.intro @W1_fieldAddr (And.intro @W1_field (And.intro @W1_indexAddr (And.intro @W1_index (And.intro @W1_extract (And.intro @W1_makeFunc (And.intro @W1_lenc (And.intro @W1_clearc (And.intro @W1_bi (And.intro @biRes_lenv (@biRes_append)))))))))))))))))))
theorem rules4 : type_of% (And.intro @biRes_max (And.intro @biRes_min (And.intro @biRes_clear (And.intro @toL (And.intro @W1_value (And.intro @fnOf_func (And.intro @fnOf_fn (And.intro @shutIds_nil' (And.intro @shutIds_cons' (And.intro @List.modify_zero_cons.{0} (And.intro @List.modify_succ_cons.{0} (And.intro @List.flatMap_cons.{0, 0} (And.intro @List.flatMap_nil.{0, 0} (And.intro @List.flatten_cons.{0} (And.intro @List.flatten_nil.{0} (And.intro @List.set_cons_zero.{0} (And.intro @List.set_cons_succ.{0} (And.intro @List.getD_cons_zero.{0} (And.intro @List.getD_cons_succ.{0} (@List.getElem?_cons_zero.{0})))))))))))))))))))) := And.intro @biRes_max (And.intro @biRes_min (And.intro @biRes_clear (And.intro @toL (And.intro @W1_value (And.intro @fnOf_func (And.intro @fnOf_fn (And.intro @shutIds_nil' (And.intro @shutIds_cons' (And.intro @List.modify_zero_cons.{0} (And.intro @List.modify_succ_cons.{0} (And.intro @List.flatMap_cons.{0, 0} (And.intro @List.flatMap_nil.{0, 0} (And.intro @List.flatten_cons.{0} (And.intro @List.flatten_nil.{0} (And.intro @List.set_cons_zero.{0} (And.intro @List.set_cons_succ.{0} (And.intro @List.getD_cons_zero.{0} (And.intro @List.getD_cons_succ.{0} (@List.getElem?_cons_zero.{0})))))))))))))))))))
theorem rules5 : type_of% (And.intro @List.getElem?_cons_succ.{0} (And.intro @List.length_cons.{0} (And.intro @List.length_nil.{0} (And.intro @List.cons_append.{0} (And.intro @List.nil_append.{0} (And.intro @List.replicate_succ.{0} (And.intro @List.replicate_zero.{0} (And.intro @Bool.false_eq_true (And.intro @true_and (And.intro @and_true (And.intro @List.headD_cons.{0} (And.intro @List.take_succ_cons.{0} (And.intro @List.take_zero.{0} (And.intro @List.take_nil.{0} (And.intro @List.drop_zero.{0} (And.intro @List.drop_succ_cons.{0} (And.intro @Int.toNat_natCast (And.intro @Nat.zero_add (And.intro @u32s_length (@u32s_getD)))))))))))))))))))) := And.intro @List.getElem?_cons_succ.{0} (And.intro @List.length_cons.{0} (And.intro @List.length_nil.{0} (And.intro @List.cons_append.{0} (And.intro @List.nil_append.{0} (And.intro @List.replicate_succ.{0} (And.intro @List.replicate_zero.{0} (And.intro @Bool.false_eq_true (And.intro @true_and (And.intro @and_true (And.intro @List.headD_cons.{0} (And.intro @List.take_succ_cons.{0} (And.intro @List.take_zero.{0} (And.intro @List.take_nil.{0} (And.intro @List.drop_zero.{0} (And.intro @List.drop_succ_cons.{0} (And.intro @Int.toNat_natCast (And.intro @Nat.zero_add (And.intro @u32s_length (@u32s_getD)))))))))))))))))))
theorem rules6 : type_of% (And.intro @u32s_set (And.intro @u32s_take (And.intro @u32s_drop (And.intro @u32s_append (And.intro @u32s_zeros (And.intro @u32s_size (And.intro @List.getD_nil.{0} (And.intro @List.map_cons.{0, 0} (And.intro @List.map_nil.{0, 0} (And.intro @Option.map_none.{0, 0} (And.intro @Option.map_some.{0, 0} (And.intro @Ob.ro.eq_def (And.intro @PV.asInt.eq_def (And.intro @PV.cells.eq_def (And.intro @Tab.isBool.eq_def (And.intro @Tab.isSl.eq_def (And.intro @TyI.isAgg.eq_def (And.intro @appT.eq_def (And.intro @asI.eq_def (@binInt.eq_def)))))))))))))))))))) := And.intro @u32s_set (And.intro @u32s_take (And.intro @u32s_drop (And.intro @u32s_append (And.intro @u32s_zeros (And.intro @u32s_size (And.intro @List.getD_nil.{0} (And.intro @List.map_cons.{0, 0} (And.intro @List.map_nil.{0, 0} (And.intro @Option.map_none.{0, 0} (And.intro @Option.map_some.{0, 0} (And.intro @Ob.ro.eq_def (And.intro @PV.asInt.eq_def (And.intro @PV.cells.eq_def (And.intro @Tab.isBool.eq_def (And.intro @Tab.isSl.eq_def (And.intro @TyI.isAgg.eq_def (And.intro @appT.eq_def (And.intro @asI.eq_def (@binInt.eq_def)))))))))))))))))))
theorem rules7 : type_of% (And.intro @binInts.eq_def (And.intro @binShift.eq_def (And.intro @binV.eq_def (And.intro @bound.eq_def (And.intro @cellsAt.eq_def (And.intro @clip3.eq_def (And.intro @fz0.eq_def (And.intro @ids0.eq_def (And.intro @ids1.eq_def (And.intro @idsA.eq_def (And.intro @isStore.eq_def (And.intro @lenA.eq_def (And.intro @lenOf.eq_def (And.intro @nilV.eq_def (And.intro @noneV.eq_def (And.intro @oneOr.eq_def (And.intro @rAlloc.eq_def (And.intro @rAppend.eq_def (And.intro @rBox.eq_def (@rBuild.eq_def)))))))))))))))))))) := And.intro @binInts.eq_def (And.intro @binShift.eq_def (And.intro @binV.eq_def (And.intro @bound.eq_def (And.intro @cellsAt.eq_def (And.intro @clip3.eq_def (And.intro @fz0.eq_def (And.intro @ids0.eq_def (And.intro @ids1.eq_def (And.intro @idsA.eq_def (And.intro @isStore.eq_def (And.intro @lenA.eq_def (And.intro @lenOf.eq_def (And.intro @nilV.eq_def (And.intro @noneV.eq_def (And.intro @oneOr.eq_def (And.intro @rAlloc.eq_def (And.intro @rAppend.eq_def (And.intro @rBox.eq_def (@rBuild.eq_def)))))))))))))))))))
theorem rules8 : type_of% (And.intro @rBuildSlice.eq_def (And.intro @rClear.eq_def (And.intro @rConv.eq_def (And.intro @rExtract.eq_def (And.intro @rField.eq_def (And.intro @rFieldAddr.eq_def (And.intro @rIndex.eq_def (And.intro @rIndexAddr.eq_def (And.intro @rLen.eq_def (And.intro @rLit.eq_def (And.intro @rLoad.eq_def (And.intro @rMake.eq_def (And.intro @rMakeFunc.eq_def (And.intro @rMax.eq_def (And.intro @rMin.eq_def (And.intro @rNil.eq_def (And.intro @rNilC.eq_def (And.intro @rSlice.eq_def (And.intro @rStore.eq_def (@rUn.eq_def)))))))))))))))))))) := And.intro @rBuildSlice.eq_def (And.intro @rClear.eq_def (And.intro @rConv.eq_def (And.intro @rExtract.eq_def (And.intro @rField.eq_def (And.intro @rFieldAddr.eq_def (And.intro @rIndex.eq_def (And.intro @rIndexAddr.eq_def (And.intro @rLen.eq_def (And.intro @rLit.eq_def (And.intro @rLoad.eq_def (And.intro @rMake.eq_def (And.intro @rMakeFunc.eq_def (And.intro @rMax.eq_def (And.intro @rMin.eq_def (And.intro @rNil.eq_def (And.intro @rNilC.eq_def (And.intro @rSlice.eq_def (And.intro @rStore.eq_def (@rUn.eq_def)))))))))))))))))))
theorem rules9 : type_of% (And.intro @reloc.eq_def (And.intro @reloc1.eq_def (And.intro @relocOb.eq_def (And.intro @room.eq_def (And.intro @selfV.eq_def (And.intro @shut.eq_def (And.intro @shutAll.eq_def (And.intro @shutAs.eq_def (And.intro @splice.eq_def (And.intro @srcOf.eq_def (And.intro @storeAt.eq_def (And.intro @unV.eq_def (And.intro @fillP.eq_1 (And.intro @fillP.eq_2 (And.intro @groups.eq_1 (And.intro @groups.eq_2 (And.intro @fzs.eq_1 (@fzs.eq_2)))))))))))))))))) := And.intro @reloc.eq_def (And.intro @reloc1.eq_def (And.intro @relocOb.eq_def (And.intro @room.eq_def (And.intro @selfV.eq_def (And.intro @shut.eq_def (And.intro @shutAll.eq_def (And.intro @shutAs.eq_def (And.intro @splice.eq_def (And.intro @srcOf.eq_def (And.intro @storeAt.eq_def (And.intro @unV.eq_def (And.intro @fillP.eq_1 (And.intro @fillP.eq_2 (And.intro @groups.eq_1 (And.intro @groups.eq_2 (And.intro @fzs.eq_1 (@fzs.eq_2)))))))))))))))))
theorem rules : type_of% (And.intro rules0 (And.intro rules1 (And.intro rules2 (And.intro rules3 (And.intro rules4 (And.intro rules5 (And.intro rules6 (And.intro rules7 (And.intro rules8 (rules9)))))))))) := And.intro rules0 (And.intro rules1 (And.intro rules2 (And.intro rules3 (And.intro rules4 (And.intro rules5 (And.intro rules6 (And.intro rules7 (And.intro rules8 (rules9)))))))))
end Go.AM
