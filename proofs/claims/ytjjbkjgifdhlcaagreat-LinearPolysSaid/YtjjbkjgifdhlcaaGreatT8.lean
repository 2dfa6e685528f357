/- The abstract machine: the end of a function, words, and the bounds of int. -/
import Derived.Test.YtjjbkjgifdhlcaaGreatT7
import Derived.KernelRfl

namespace Go.AM
def mC (m : List Int) : List PV := m.map (fun n => PV.int .i64 n)
theorem keyVs_mC : ∀ {m : List Int}, keyVs (mC m) = some m
  | [] => rfl
  | n :: m => by
    have := keyVs_mC (m := m)
    unfold mC at this ⊢
    simp only [List.map_cons, keyVs, this]
    rfl

def retQ (T : Tab) (rs : List ResultVar) (m : Nat) (H1 : List Ob) (res : PV) (e : AExit) (st : St) : Prop := match e with | .exit _ => False | _ => RetOK T rs m st H1 res

section
variable {P : Program} {T : Tab}

theorem Ap_end_normal {rs : List ResultVar} {m : Nat} {H1 : List Ob} {res : PV} {st : St} {u : Tok _} : Ap (retQ T rs m H1 res) .normal st u = RetOK T rs m st H1 res := rfl
theorem Ap_end_ret {rs : List ResultVar} {m : Nat} {H1 : List Ob} {res : PV} {st : St} {u : Tok _} : Ap (retQ T rs m H1 res) .ret st u = RetOK T rs m st H1 res := rfl

theorem den_of (hT : TabOk P T) (hm : P.follows .mixedOrders = true) {k : FuncId} {fn : Func} {cd : Code} (hf : P.funcs[k]? = some fn) (hb : fn.body = some cd) (hname : (fn.name == "runtime.NumGoroutine") = false)
    {H0 : List Ob} {args : List PV} {H1 : List Ob} {res : PV} {rs : List ResultVar} (hr : fn.results = List.toArray rs) {n : Nat} (hn : fn.ntmps - args.length = n) {env : List PV} (he : args ++ List.replicate n .any = env) {m : Nat} (hm0 : H0.length = m)
    (h : WA P T m cd ⟨env, H0⟩ (retQ T rs m H1 res) ⟨⟩) : Den P k H0 args H1 res := by
  subst hn; subst he; subst hm0
  refine den_of_wpa hT hm hf hb hname ?_
  rw [hr]
  refine WPA.mono cd (fun e st hq => ?_) h
  cases e <;> exact hq

theorem RetOK.pure {st : St} {rs : List ResultVar} {res : PV} {cd : Prop} {vs : List PV} (h1 : resVs T st rs = some (cd, vs)) (hc : cd) (h2 : fzX st.heap [] (oneRes vs) = some res) : RetOK T rs 0 st [] res :=
  ⟨cd, vs, [], h1, hc, List.nodup_nil, fun i hi => absurd hi (Nat.not_lt_zero i), h2, rfl, fun j id hj => by simp at hj, fun o ho => by simp at ho⟩

theorem RetOK.own {st : St} {rs : List ResultVar} {id len s : Nat} {xs : List (List FV)} {cd : Prop} (h1 : resVs T st rs = some (cd, [.lsl id 0 len s])) (hc : cd) (h2 : st.heap[id]? = some (.row true xs)) :
    RetOK T rs 0 st [.row true xs] (.lsl 0 0 len s) := by
  refine ⟨cd, [.lsl id 0 len s], [id], h1, hc, by simp, fun i hi => absurd hi (Nat.not_lt_zero i), ?_, rfl, fun j k hj => ?_, fun o ho => ?_⟩
  · simp [oneRes, fzX, fzV, fzC, List.idxOf?_cons]
  · cases j with
    | zero =>
      simp at hj; subst hj
      simp [oneRes, idsX, idsV, idsC, List.idxOf?_cons, shutIds, h2]
    | succ j => simp at hj
  · simp at ho; subst ho; exact ⟨trivial, rfl⟩
end

theorem Den.freeze {P : Program} {k : FuncId} {args : List PV} {obs : List Ob} {res res' : PV} (h : Den P k [] args obs res) (hf : fzX obs [] res = some res') : Den P k [] args [] res' := by
  refine ⟨h.1, fun c X ρ vs hh hM hvs => ?_⟩
  have hρ0 : ρ = [] := List.eq_nil_of_length_eq_zero hh.len
  subst hρ0
  refine (h.2 c X [] vs hh hM hvs).mono (fun e w' hpost => ?_)
  obtain ⟨v, X', ρ', he, hk, hr, hp, hle, hnew⟩ := hpost
  obtain ⟨X1, h1, hs1, hn1⟩ := hr.shutIds (idsX obs [] res)
  refine ⟨v, X1, [], he, hk, ⟨rfl, by simp, by simp, by simp, h1.xo, h1.xlt, h1.ge, hh.base⟩, ?_, Places.Le.refl _, by simp⟩
  exact fzX_rd hr hp hf hs1 hn1 (fun id j p hj => by simp at hj)

theorem PRds.swap {w : World} {X : Nat → Prop} {ρ : Places} {vs : Array Value} {pre post : List PV} {x y : PV} (h : PRds w X ρ vs (pre ++ x :: post)) (hy : ∀ v, vs[pre.length]? = some v → PRd w X ρ v y) : PRds w X ρ vs (pre ++ y :: post) := by
  refine ⟨by rw [h.1]; simp, fun i v z hv hz => ?_⟩
  by_cases hi : i = pre.length
  · subst hi
    rw [List.getElem?_append_right (Nat.le_refl _), Nat.sub_self] at hz
    simp only [List.getElem?_cons_zero, Option.some.injEq] at hz
    subst hz
    exact hy v hv
  · refine h.2 i v z hv ?_
    rw [← hz]
    rcases Nat.lt_or_gt_of_ne hi with h1 | h1
    · rw [List.getElem?_append_left h1, List.getElem?_append_left h1]
    · rw [List.getElem?_append_right (by omega), List.getElem?_append_right (by omega)]
      obtain ⟨j, hj⟩ : ∃ j, i - pre.length = j + 1 := ⟨i - pre.length - 1, by omega⟩
      rw [hj]; rfl

theorem Den.empty {P : Program} {k : FuncId} {pre post : List PV} {H1 : List Ob} {res : PV} (h1 : Den P k [] (pre ++ .nilsl :: post) H1 res) (h2 : ∀ ad cap, Den P k [] (pre ++ .fv (.lit (.slice (some ad) 0 cap)) :: post) H1 res) :
    Den P k [] (pre ++ .fv (.sl []) :: post) H1 res := by
  refine ⟨h1.1, fun c X ρ vs hh hM hvs => ?_⟩
  have hlt : pre.length < vs.size := by rw [hvs.1]; simp
  have hv : vs[pre.length]? = some vs[pre.length] := by simp [hlt]
  have hrd := hvs.2 pre.length vs[pre.length] (.fv (.sl [])) hv (by simp)
  generalize vs[pre.length] = v at hv hrd
  cases hrd with
  | fv _ _ hf =>
    cases hf with
    | nil => exact h1.2 c X ρ vs hh hM (hvs.swap (fun u hu => by rw [hv] at hu; cases hu; exact .nilsl))
    | sl ad n cap s _ us hn hc =>
      have hn : n = 0 := by simpa using hn.symm
      subst hn
      exact (h2 ad cap).2 c X ρ vs hh hM (hvs.swap (fun u hu => by rw [hv] at hu; cases hu; exact .fv _ _ (.lit _ rfl)))

theorem shutIds_nil' {H : List Ob} : shutIds [] H = H := rfl
theorem shutIds_cons' {H : List Ob} {id : Nat} {ids : List Nat} : shutIds (id :: ids) H = shutIds ids (shut H id) := rfl
/- The bounds of int. -/
theorem wrap64 {x : Int} (h : -9223372036854775808 ≤ x ∧ x < 9223372036854775808) : IntKind.i64.wrap x = x := by
  simp [IntKind.wrap, IntKind.bits, IntKind.signed]
  split <;> omega
theorem wrap32 {x : Int} : IntKind.u32.wrap x = x % 4294967296 := by simp [IntKind.wrap, IntKind.bits, IntKind.signed]
theorem wrapU64 {x : Int} : IntKind.u64.wrap x = x % 18446744073709551616 := by simp [IntKind.wrap, IntKind.bits, IntKind.signed]

theorem wrap32c {x : Int} (h : 0 ≤ x ∧ x < 4294967296) : IntKind.u32.wrap x = x := by rw [wrap32]; omega
theorem wrapU64c {x : Int} (h : 0 ≤ x ∧ x < 18446744073709551616) : IntKind.u64.wrap x = x := by rw [wrapU64]; omega
theorem wrapU8c {x : Int} (h : 0 ≤ x ∧ x < 256) : IntKind.u8.wrap x = x := by
  simp [IntKind.wrap, IntKind.bits, IntKind.signed]; omega
theorem fdivc {x b : Int} (h : 0 ≤ b) : x.fdiv b = x / b := Int.fdiv_eq_ediv_of_nonneg x h
theorem tdivc {x b : Int} (h : 0 ≤ x) : x.tdiv b = x / b := Int.tdiv_eq_ediv_of_nonneg h
theorem tmodc {x b : Int} (h : 0 ≤ x) : x.tmod b = x % b := Int.tmod_eq_emod_of_nonneg h

def u32s (l : List Nat) : List (List FV) := l.map fun (n : Nat) => [.lit (.int .u32 (n : Int))]
theorem u32s_length {l : List Nat} : (u32s l).length = l.length := by simp [u32s]
theorem u32s_getD {l : List Nat} {i : Nat} (h : i < l.length) : (u32s l).getD i [] = [.lit (.int .u32 ((l.getD i 0 : Nat) : Int))] := by
  simp [u32s, h]
theorem u32s_set {l : List Nat} {i : Nat} {x : Int} (h : 0 ≤ x) : (u32s l).set i [.lit (.int .u32 x)] = u32s (l.set i x.toNat) := by
  have : ((x.toNat : Nat) : Int) = x := Int.toNat_of_nonneg h
  simp [u32s, List.map_set, this]
theorem u32s_take {l : List Nat} {n : Nat} : (u32s l).take n = u32s (l.take n) := by simp [u32s, List.map_take]
theorem u32s_drop {l : List Nat} {n : Nat} : (u32s l).drop n = u32s (l.drop n) := by simp [u32s, List.map_drop]
theorem u32s_append {l k : List Nat} : u32s l ++ u32s k = u32s (l ++ k) := by simp [u32s]
theorem u32s_zeros {n : Nat} : List.replicate n [FV.lit (.int .u32 0)] = u32s (List.replicate n 0) := by simp [u32s]
theorem u32s_size {l : List Nat} : (∀ y ∈ u32s l, y.length = 1) = True := by
  simp only [eq_iff_iff, iff_true]
  intro y hy
  simp only [u32s, List.mem_map] at hy
  obtain ⟨n, _, rfl⟩ := hy
  rfl

end Go.AM

namespace Go.AM
set_option maxRecDepth 100000
theorem rules0 : type_of% (And.intro @WA_seq (And.intro @WA_skip (And.intro @WA_label (And.intro @WA_exit (And.intro @WA_ret (And.intro @WA_block (And.intro @WA_cond (And.intro @WA_region (And.intro @WA_draw (And.intro @Ap_seq_normal (And.intro @Ap_seq_exit (And.intro @Ap_seq_ret (And.intro @Ap_block_normal (And.intro @Ap_block_exit (And.intro @Ap_block_ret (And.intro @Ap_loop_exit (And.intro @Ap_loop_ret (And.intro @Ap_cut_normal (And.intro @Ap_cut_exit (@Ap_cut_ret)))))))))))))))))))) := And.intro @WA_seq (And.intro @WA_skip (And.intro @WA_label (And.intro @WA_exit (And.intro @WA_ret (And.intro @WA_block (And.intro @WA_cond (And.intro @WA_region (And.intro @WA_draw (And.intro @Ap_seq_normal (And.intro @Ap_seq_exit (And.intro @Ap_seq_ret (And.intro @Ap_block_normal (And.intro @Ap_block_exit (And.intro @Ap_block_ret (And.intro @Ap_loop_exit (And.intro @Ap_loop_ret (And.intro @Ap_cut_normal (And.intro @Ap_cut_exit (@Ap_cut_ret)))))))))))))))))))
theorem rules1 : type_of% (And.intro @WO_nil (And.intro @WO_none (And.intro @WO_some (And.intro @WD_nil (And.intro @WD_none (And.intro @WD_some (And.intro @dK_store (And.intro @dK_else (And.intro @Grown_self (And.intro @Grown_append (And.intro @Grown_nil (And.intro @Grown_cons (And.intro @Br_true (And.intro @Br_false (And.intro @condV_bool (And.intro @guardK_t (And.intro @guardK_f (And.intro @guardK_tup (And.intro @guardT_zero (@guardT_succ)))))))))))))))))))) := And.intro @WO_nil (And.intro @WO_none (And.intro @WO_some (And.intro @WD_nil (And.intro @WD_none (And.intro @WD_some (And.intro @dK_store (And.intro @dK_else (And.intro @Grown_self (And.intro @Grown_append (And.intro @Grown_nil (And.intro @Grown_cons (And.intro @Br_true (And.intro @Br_false (And.intro @condV_bool (And.intro @guardK_t (And.intro @guardK_f (And.intro @guardK_tup (And.intro @guardT_zero (@guardT_succ)))))))))))))))))))
theorem rules2 : type_of% (And.intro @updE_some (And.intro @updE_none (And.intro @Aft_some (And.intro @Aft_pure (And.intro @Aft_if (And.intro @ev_tmp (And.intro @ev_const (And.intro @ev_func (And.intro @of_int (And.intro @of_bool (And.intro @of_nil (And.intro @of_nilFunc (And.intro @of_nilPtr (And.intro @W1_move (And.intro @W1_assign (And.intro @W1_pick (And.intro @rPick_bool (And.intro @W1_alloc (And.intro @W1_box (@W1_build)))))))))))))))))))) := And.intro @updE_some (And.intro @updE_none (And.intro @Aft_some (And.intro @Aft_pure (And.intro @Aft_if (And.intro @ev_tmp (And.intro @ev_const (And.intro @ev_func (And.intro @of_int (And.intro @of_bool (And.intro @of_nil (And.intro @of_nilFunc (And.intro @of_nilPtr (And.intro @W1_move (And.intro @W1_assign (And.intro @W1_pick (And.intro @rPick_bool (And.intro @W1_alloc (And.intro @W1_box (@W1_build)))))))))))))))))))
theorem rules3 : type_of% (And.intro @W1_buildSlice (And.intro @W1_load (And.intro @W1_store (And.intro @W1_nilCheck (And.intro @W1_makeMap (And.intro @W1_lookup (And.intro @W1_mapUpdate (And.intro @keyVs_mC (And.intro @W1_binOp (And.intro @rLit_some (And.intro @rLit_none (And.intro @W1_unOp (And.intro @W1_convert (And.intro @W1_makeSlice (And.intro @W1_slice (And.intro @W1_fieldAddr (And.intro @W1_field (And.intro @W1_indexAddr (And.intro @W1_index (@W1_extract)))))))))))))))))))) := And.intro @W1_buildSlice (And.intro @W1_load (And.intro @W1_store (And.intro @W1_nilCheck (And.intro @W1_makeMap (And.intro @W1_lookup (And.intro @W1_mapUpdate (And.intro @keyVs_mC (And.intro @W1_binOp (And.intro @rLit_some (And.intro @rLit_none (And.intro @W1_unOp (And.intro @W1_convert (And.intro @W1_makeSlice (And.intro @W1_slice (And.intro @W1_fieldAddr (And.intro @W1_field (And.intro @W1_indexAddr (And.intro @W1_index (@W1_extract)))))))))))))))))))
theorem rules4 : type_of% (And.intro @W1_makeFunc (And.intro @W1_lenc (And.intro @W1_clearc (And.intro @W1_bi (And.intro @biRes_lenv (And.intro @biRes_append (And.intro @biRes_max (And.intro @biRes_min (And.intro @biRes_clear (And.intro @toL (And.intro @W1_value (And.intro @fnOf_func (And.intro @fnOf_fn (And.intro @fnOf_meth (And.intro @of_aggb (And.intro @of_aggi (And.intro @shutIds_nil' (And.intro @shutIds_cons' (And.intro @List.modify_zero_cons.{0} (@List.modify_succ_cons.{0})))))))))))))))))))) := And.intro @W1_makeFunc (And.intro @W1_lenc (And.intro @W1_clearc (And.intro @W1_bi (And.intro @biRes_lenv (And.intro @biRes_append (And.intro @biRes_max (And.intro @biRes_min (And.intro @biRes_clear (And.intro @toL (And.intro @W1_value (And.intro @fnOf_func (And.intro @fnOf_fn (And.intro @fnOf_meth (And.intro @of_aggb (And.intro @of_aggi (And.intro @shutIds_nil' (And.intro @shutIds_cons' (And.intro @List.modify_zero_cons.{0} (@List.modify_succ_cons.{0})))))))))))))))))))
theorem rules5 : type_of% (And.intro @List.flatMap_cons.{0, 0} (And.intro @List.flatMap_nil.{0, 0} (And.intro @List.flatten_cons.{0} (And.intro @List.flatten_nil.{0} (And.intro @List.set_cons_zero.{0} (And.intro @List.set_cons_succ.{0} (And.intro @List.getD_cons_zero.{0} (And.intro @List.getD_cons_succ.{0} (And.intro @List.getElem?_cons_zero.{0} (And.intro @List.getElem?_cons_succ.{0} (And.intro @List.length_cons.{0} (And.intro @List.length_nil.{0} (And.intro @List.cons_append.{0} (And.intro @List.nil_append.{0} (And.intro @List.replicate_succ.{0} (And.intro @List.replicate_zero.{0} (And.intro @Bool.false_eq_true (And.intro @true_and (And.intro @and_true (@List.headD_cons.{0})))))))))))))))))))) := And.intro @List.flatMap_cons.{0, 0} (And.intro @List.flatMap_nil.{0, 0} (And.intro @List.flatten_cons.{0} (And.intro @List.flatten_nil.{0} (And.intro @List.set_cons_zero.{0} (And.intro @List.set_cons_succ.{0} (And.intro @List.getD_cons_zero.{0} (And.intro @List.getD_cons_succ.{0} (And.intro @List.getElem?_cons_zero.{0} (And.intro @List.getElem?_cons_succ.{0} (And.intro @List.length_cons.{0} (And.intro @List.length_nil.{0} (And.intro @List.cons_append.{0} (And.intro @List.nil_append.{0} (And.intro @List.replicate_succ.{0} (And.intro @List.replicate_zero.{0} (And.intro @Bool.false_eq_true (And.intro @true_and (And.intro @and_true (@List.headD_cons.{0})))))))))))))))))))
theorem rules6 : type_of% (And.intro @List.take_succ_cons.{0} (And.intro @List.take_zero.{0} (And.intro @List.take_nil.{0} (And.intro @List.drop_zero.{0} (And.intro @List.drop_succ_cons.{0} (And.intro @Int.toNat_natCast (And.intro @Nat.zero_add (And.intro @u32s_length (And.intro @u32s_getD (And.intro @u32s_set (And.intro @u32s_take (And.intro @u32s_drop (And.intro @u32s_append (And.intro @u32s_zeros (And.intro @u32s_size (And.intro @List.getD_nil.{0} (And.intro @List.map_cons.{0, 0} (And.intro @List.map_nil.{0, 0} (And.intro @Option.map_none.{0, 0} (@Option.map_some.{0, 0})))))))))))))))))))) := And.intro @List.take_succ_cons.{0} (And.intro @List.take_zero.{0} (And.intro @List.take_nil.{0} (And.intro @List.drop_zero.{0} (And.intro @List.drop_succ_cons.{0} (And.intro @Int.toNat_natCast (And.intro @Nat.zero_add (And.intro @u32s_length (And.intro @u32s_getD (And.intro @u32s_set (And.intro @u32s_take (And.intro @u32s_drop (And.intro @u32s_append (And.intro @u32s_zeros (And.intro @u32s_size (And.intro @List.getD_nil.{0} (And.intro @List.map_cons.{0, 0} (And.intro @List.map_nil.{0, 0} (And.intro @Option.map_none.{0, 0} (@Option.map_some.{0, 0})))))))))))))))))))
theorem rules7 : type_of% (And.intro @Ob.ro.eq_def (And.intro @PV.asInt.eq_def (And.intro @PV.cells.eq_def (And.intro @Tab.arN.eq_def (And.intro @Tab.isBool.eq_def (And.intro @Tab.isSl.eq_def (And.intro @TyI.isAgg.eq_def (And.intro @appT.eq_def (And.intro @arrV.eq_def (And.intro @asI.eq_def (And.intro @binInt.eq_def (And.intro @binInts.eq_def (And.intro @binShift.eq_def (And.intro @binV.eq_def (And.intro @bound.eq_def (And.intro @cellsAt.eq_def (And.intro @clip3.eq_def (And.intro @elemP.eq_def (And.intro @fz0.eq_def (@ids0.eq_def)))))))))))))))))))) := And.intro @Ob.ro.eq_def (And.intro @PV.asInt.eq_def (And.intro @PV.cells.eq_def (And.intro @Tab.arN.eq_def (And.intro @Tab.isBool.eq_def (And.intro @Tab.isSl.eq_def (And.intro @TyI.isAgg.eq_def (And.intro @appT.eq_def (And.intro @arrV.eq_def (And.intro @asI.eq_def (And.intro @binInt.eq_def (And.intro @binInts.eq_def (And.intro @binShift.eq_def (And.intro @binV.eq_def (And.intro @bound.eq_def (And.intro @cellsAt.eq_def (And.intro @clip3.eq_def (And.intro @elemP.eq_def (And.intro @fz0.eq_def (@ids0.eq_def)))))))))))))))))))
theorem rules8 : type_of% (And.intro @ids1.eq_def (And.intro @idsA.eq_def (And.intro @isI64.eq_def (And.intro @isNilZ.eq_def (And.intro @isStore.eq_def (And.intro @keyV.eq_def (And.intro @lenA.eq_def (And.intro @lenOf.eq_def (And.intro @litC.eq_def (And.intro @litV.eq_def (And.intro @nilV.eq_def (And.intro @noneV.eq_def (And.intro @oneOr.eq_def (And.intro @rAlloc.eq_def (And.intro @rAppend.eq_def (And.intro @rBox.eq_def (And.intro @rBuild.eq_def (And.intro @rBuildSlice.eq_def (And.intro @rClear.eq_def (@rConv.eq_def)))))))))))))))))))) := And.intro @ids1.eq_def (And.intro @idsA.eq_def (And.intro @isI64.eq_def (And.intro @isNilZ.eq_def (And.intro @isStore.eq_def (And.intro @keyV.eq_def (And.intro @lenA.eq_def (And.intro @lenOf.eq_def (And.intro @litC.eq_def (And.intro @litV.eq_def (And.intro @nilV.eq_def (And.intro @noneV.eq_def (And.intro @oneOr.eq_def (And.intro @rAlloc.eq_def (And.intro @rAppend.eq_def (And.intro @rBox.eq_def (And.intro @rBuild.eq_def (And.intro @rBuildSlice.eq_def (And.intro @rClear.eq_def (@rConv.eq_def)))))))))))))))))))
theorem rules9 : type_of% (And.intro @rExtract.eq_def (And.intro @rField.eq_def (And.intro @rFieldAddr.eq_def (And.intro @rIndex.eq_def (And.intro @rIndexAddr.eq_def (And.intro @rLen.eq_def (And.intro @rLoad.eq_def (And.intro @rLookup.eq_def (And.intro @rMake.eq_def (And.intro @rMakeFunc.eq_def (And.intro @rMakeMap.eq_def (And.intro @rMapUpdate.eq_def (And.intro @rMax.eq_def (And.intro @rMin.eq_def (And.intro @rNil.eq_def (And.intro @rNilC.eq_def (And.intro @rSlice.eq_def (And.intro @rStore.eq_def (And.intro @rUn.eq_def (@reloc.eq_def)))))))))))))))))))) := And.intro @rExtract.eq_def (And.intro @rField.eq_def (And.intro @rFieldAddr.eq_def (And.intro @rIndex.eq_def (And.intro @rIndexAddr.eq_def (And.intro @rLen.eq_def (And.intro @rLoad.eq_def (And.intro @rLookup.eq_def (And.intro @rMake.eq_def (And.intro @rMakeFunc.eq_def (And.intro @rMakeMap.eq_def (And.intro @rMapUpdate.eq_def (And.intro @rMax.eq_def (And.intro @rMin.eq_def (And.intro @rNil.eq_def (And.intro @rNilC.eq_def (And.intro @rSlice.eq_def (And.intro @rStore.eq_def (And.intro @rUn.eq_def (@reloc.eq_def)))))))))))))))))))
theorem rules10 : type_of% (And.intro @reloc1.eq_def (And.intro @relocOb.eq_def (And.intro @room.eq_def (And.intro @selfV.eq_def (And.intro @shut.eq_def (And.intro @shutAll.eq_def (And.intro @shutAs.eq_def (And.intro @splice.eq_def (And.intro @srcOf.eq_def (And.intro @storeAt.eq_def (And.intro @unV.eq_def (And.intro @fillP.eq_1 (And.intro @fillP.eq_2 (And.intro @groups.eq_1 (And.intro @groups.eq_2 (And.intro @fzs.eq_1 (And.intro @fzs.eq_2 (And.intro @litVs.eq_1 (And.intro @litVs.eq_2 (@litCs.eq_1)))))))))))))))))))) := And.intro @reloc1.eq_def (And.intro @relocOb.eq_def (And.intro @room.eq_def (And.intro @selfV.eq_def (And.intro @shut.eq_def (And.intro @shutAll.eq_def (And.intro @shutAs.eq_def (And.intro @splice.eq_def (And.intro @srcOf.eq_def (And.intro @storeAt.eq_def (And.intro @unV.eq_def (And.intro @fillP.eq_1 (And.intro @fillP.eq_2 (And.intro @groups.eq_1 (And.intro @groups.eq_2 (And.intro @fzs.eq_1 (And.intro @fzs.eq_2 (And.intro @litVs.eq_1 (And.intro @litVs.eq_2 (@litCs.eq_1)))))))))))))))))))
theorem rules11 : type_of% (@litCs.eq_2) := @litCs.eq_2
theorem rules : type_of% (And.intro rules0 (And.intro rules1 (And.intro rules2 (And.intro rules3 (And.intro rules4 (And.intro rules5 (And.intro rules6 (And.intro rules7 (And.intro rules8 (And.intro rules9 (And.intro rules10 (rules11)))))))))))) := And.intro rules0 (And.intro rules1 (And.intro rules2 (And.intro rules3 (And.intro rules4 (And.intro rules5 (And.intro rules6 (And.intro rules7 (And.intro rules8 (And.intro rules9 (And.intro rules10 (rules11)))))))))))
end Go.AM

namespace Go.AM

def tl (x : Nat → PV) (s : Nat) : Nat → List PV
  | 0 => []
  | n + 1 => x s :: tl x (s + 1) n

theorem tl_of : ∀ (l : List PV) (s : Nat) (x : Nat → PV), (∀ i, x (s + i) = l.getD i .any) → tl x s l.length = l
  | [], _, _, _ => rfl
  | v :: l, s, x, h => by
    simp only [List.length_cons, tl]
    have h0 := h 0
    simp only [Nat.add_zero, List.getD_cons_zero] at h0
    rw [h0, tl_of l (s + 1) x (fun i => by rw [Nat.add_assoc, Nat.add_comm 1 i, h (i + 1), List.getD_cons_succ])]
theorem exists_tl (l : List PV) (s n : Nat) (hn : l.length = n) : ∃ x, l = tl x s n :=
  ⟨fun i => l.getD (i - s) .any, by subst hn; exact (tl_of l s _ (fun i => by rw [Nat.add_sub_cancel_left])).symm⟩

theorem WA.blockcut {P : Program} {T : Tab} {m : Nat} {α : Type} (f : α → St) (G : α → Prop) {x y : Code} {id : Nat} {st : St} {Q : KQ} {u : Tok (y, Q)} {w : Tok (seqQ P T m y Q u)} {t : Tok (x, blockQ id (seqQ P T m y Q u) w)}
    (h1 : WA P T m x st (blockQ id (cutQ (Mid f G) Q ⟨⟩) ⟨⟩) ⟨⟩) (h2 : ∀ a, G a → WA P T m y (f a) Q ⟨⟩) : WA P T m x st (blockQ id (seqQ P T m y Q u) w) t := by
  refine WPA.mono x (fun e st1 h => ?_) h1
  have hm : ∀ st2, Mid f G st2 → WPA P T m y st2 Q := fun st2 ⟨a, hs, hg⟩ => by subst hs; exact h2 a hg
  cases e with
  | normal => exact hm _ h
  | exit i =>
    simp only [blockQ] at h ⊢
    split
    · rename_i hi; rw [if_pos hi] at h; exact hm _ h
    · rename_i hi; rw [if_neg hi] at h; exact h
  | ret => exact h
theorem Mid.tail {α : Type} {pre : α → List PV} {H : α → List Ob} {s n : Nat} {G : α → Prop} {st : St} (a : α) (l : List PV) (hn : l.length = n) (h : st = ⟨pre a ++ l, H a⟩) (g : G a) :
    Mid (fun (y : α × (Nat → PV)) => ⟨pre y.1 ++ tl y.2 s n, H y.1⟩) (fun y => G y.1) st := by
  obtain ⟨x, hx⟩ := exists_tl l s n hn
  exact ⟨(a, x), by rw [h, hx], g⟩
theorem Mid.ex {α : Type} {f : α × (Nat → PV) → St} {G : α × (Nat → PV) → Prop} {env : List PV} {H : List Ob} (a : α) (h : (⟨env, H⟩ : St) = f (a, fun i => env.getD i .any)) (hg : G (a, fun i => env.getD i .any)) : Mid f G ⟨env, H⟩ := ⟨_, h, hg⟩

theorem RetOK.lent {T : Tab} {st : St} {rs : List ResultVar} {res : PV} {xs : List (List FV)} {cd : Prop} {vs : List PV} (h1 : resVs T st rs = some (cd, vs)) (hc : cd) (hx : st.heap = [.row true xs])
    (h2 : fzX st.heap [0] (oneRes vs) = some res) (h3 : idsX st.heap [0] (oneRes vs) = []) : RetOK T rs 1 st [.row true xs] res := by
  refine ⟨cd, vs, [0], h1, hc, by simp, fun i hi => ?_, h2, rfl, fun j id hj => ?_, fun o ho => ?_⟩
  · have : i = 0 := by omega
    subst this; rfl
  · cases j with
    | zero =>
      simp at hj; subst hj
      rw [h3, hx]; rfl
    | succ j => simp at hj
  · simp at ho; subst ho; exact ⟨trivial, rfl⟩

theorem RetOK.lentB {T : Tab} {st : St} {rs : List ResultVar} {res : PV} {ob : Ob} {cd : Prop} {vs : List PV} (h1 : resVs T st rs = some (cd, vs)) (hc : cd) (hx : st.heap.head? = some ob) (hcl : ob.closed) (hrw : ob.rw = true)
    (h2 : fzX st.heap [0] (oneRes vs) = some res) (h3 : (shutIds (idsX st.heap [0] (oneRes vs)) st.heap).head? = some ob) : RetOK T rs 1 st [ob] res := by
  refine ⟨cd, vs, [0], h1, hc, by simp, fun i hi => ?_, h2, rfl, fun j id hj => ?_, fun o ho => ?_⟩
  · have : i = 0 := by omega
    subst this; rfl
  · cases j with
    | zero =>
      simp at hj; subst hj
      rw [← List.head?_eq_getElem?, h3]; rfl
    | succ j => simp at hj
  · simp at ho; subst ho; exact ⟨hcl, hrw⟩
end Go.AM

namespace Go.AM
variable {P : Program} {T : Tab} {m : Nat}

theorem WPcall.det {c : Call} {st : St} {K : PV → List Ob → Prop} (h : WPcall P T c st K) : ∃ v H, K v H ∧ WPcall P T c st (fun v2 H2 => v2 = v ∧ H2 = H) := by
  unfold WPcall at h ⊢
  split at h
  · rename_i b hb
    split at h
    · rename_i r hr
      refine ⟨r.val, r.heap, h.2, ?_⟩
      simp only []
      exact ⟨h.1, by simp⟩
    · exact h.elim
  · rename_i f hf
    split at h
    · rename_i k pre post hk
      obtain ⟨v, H', hc, hK⟩ := h
      refine ⟨v, H', hK, ?_⟩
      simp only []
      exact ⟨v, H', hc, rfl, rfl⟩
    · exact h.elim
  · exact h.elim
theorem WPop.det {o : Op} {st : St} {K : PV → List Ob → Prop} (h : WPop P T o st K) : ∃ v H, K v H ∧ WPop P T o st (fun v2 H2 => v2 = v ∧ H2 = H) := by
  unfold WPop at h ⊢
  split at h
  · exact WPcall.det h
  · split at h
    · rename_i r hr
      refine ⟨r.val, r.heap, h.2, ?_⟩
      simp only []
      exact ⟨h.1, by simp⟩
    · exact h.elim
theorem WPops.det {all : Array Oper} : ∀ (l : List Oper) {st : St} {K : St → Prop}, WPops P T all l st K → ∃ st', K st' ∧ WPops P T all l st (fun s => s = st')
  | [], st, K, h => ⟨st, h, rfl⟩
  | o :: rest, st, K, h => by
    unfold WPops at h
    split at h
    · rename_i hg
      obtain ⟨v, H, h1, h2⟩ := WPop.det h
      obtain ⟨s, hs, h3⟩ := WPops.det rest h1
      refine ⟨s, hs, ?_⟩
      unfold WPops
      simp only [hg]
      exact WPop.mono (fun v2 H2 e => by obtain ⟨rfl, rfl⟩ := e; exact h3) h2
    · rename_i j want hg
      split at h
      · rename_i t ht
        split at h
        · rename_i b hb
          by_cases hbw : b = want
          · obtain ⟨v, H, h1, h2⟩ := WPop.det (h.1 hbw)
            obtain ⟨s, hs, h3⟩ := WPops.det rest h1
            refine ⟨s, hs, ?_⟩
            unfold WPops
            simp only [hg, ht, hb]
            exact ⟨fun _ => WPop.mono (fun v2 H2 e => by obtain ⟨rfl, rfl⟩ := e; exact h3) h2, fun e => by subst hbw; cases b <;> simp at e⟩
          · have hbn : b = !want := by cases b <;> cases want <;> simp_all
            obtain ⟨s, hs, h3⟩ := WPops.det rest (h.2 hbn)
            refine ⟨s, hs, ?_⟩
            unfold WPops
            simp only [hg, ht, hb]
            exact ⟨fun e => absurd e hbw, fun _ => h3⟩
        · rename_i hb
          obtain ⟨s, hs, h3⟩ := WPops.det rest h
          refine ⟨s, hs, ?_⟩
          unfold WPops
          simp only [hg, ht, hb]
          exact h3
        · exact h.elim
      · exact h.elim
theorem WPdraw.det {all : Array Oper} : ∀ (l : List Oper) {st : St} {K : St → Prop}, WPdraw P T all l st K → ∃ st', K st' ∧ WPdraw P T all l st (fun s => s = st')
  | [], st, K, h => ⟨st, h, rfl⟩
  | o :: rest, st, K, h => by
    unfold WPdraw at h
    split at h
    · rename_i hg
      obtain ⟨v, H, ⟨h0, h1⟩, h2⟩ := WPop.det h
      obtain ⟨s, hs, h3⟩ := WPdraw.det rest h1
      refine ⟨s, hs, ?_⟩
      unfold WPdraw
      simp only [hg]
      exact WPop.mono (fun v2 H2 e => by obtain ⟨rfl, rfl⟩ := e; exact ⟨h0, h3⟩) h2
    · rename_i j want hg
      split at h
      · rename_i t ht
        split at h
        · rename_i b hb
          by_cases hbw : b = want
          · obtain ⟨v, H, ⟨h0, h1⟩, h2⟩ := WPop.det (h.1 hbw)
            obtain ⟨s, hs, h3⟩ := WPdraw.det rest h1
            refine ⟨s, hs, ?_⟩
            unfold WPdraw
            simp only [hg, ht, hb]
            exact ⟨fun _ => WPop.mono (fun v2 H2 e => by obtain ⟨rfl, rfl⟩ := e; exact ⟨h0, h3⟩) h2, fun e => by subst hbw; cases b <;> simp at e⟩
          · have hbn : b = !want := by cases b <;> cases want <;> simp_all
            obtain ⟨s, hs, h3⟩ := WPdraw.det rest (h.2 hbn)
            refine ⟨s, hs, ?_⟩
            unfold WPdraw
            simp only [hg, ht, hb]
            exact ⟨fun e => absurd e hbw, fun _ => h3⟩
        · rename_i hb
          obtain ⟨s, hs, h3⟩ := WPdraw.det rest h
          refine ⟨s, hs, ?_⟩
          unfold WPdraw
          simp only [hg, ht, hb]
          exact h3
        · exact h.elim
      · exact h.elim
theorem WPA.det : ∀ (cd : Code) {st : St} {Q : AExit → St → Prop}, WPA P T m cd st Q → ∃ e st', Q e st' ∧ WPA P T m cd st (fun e2 s2 => e2 = e ∧ s2 = st')
  | .skip, st, Q, h => ⟨_, _, h, rfl, rfl⟩
  | .label _, st, Q, h => ⟨_, _, h, rfl, rfl⟩
  | .exit _, st, Q, h => ⟨_, _, h, rfl, rfl⟩
  | .ret, st, Q, h => ⟨_, _, h, rfl, rfl⟩
  | .region n ops draw, st, Q, h => by
    unfold WPA at h ⊢
    split at h
    · rename_i hd
      rcases h with ⟨h0, ids, h1⟩ | ⟨s, h0, h1⟩
      · obtain ⟨s, hs, h2⟩ := WPdraw.det _ h1
        refine ⟨.normal, s, hs, ?_⟩
        rw [if_pos hd]
        exact .inl ⟨h0, ids, WPdraw.mono (fun _ e => ⟨rfl, e⟩) _ h2⟩
      · refine ⟨.normal, s, h1, ?_⟩
        rw [if_pos hd]
        exact .inr ⟨s, h0, rfl, rfl⟩
    · rename_i hd
      obtain ⟨s, hs, h2⟩ := WPops.det _ h
      refine ⟨.normal, s, hs, ?_⟩
      rw [if_neg hd]
      exact WPops.mono (fun _ e => ⟨rfl, e⟩) _ h2
  | .seq x y, st, Q, h => by
    unfold WPA at h
    obtain ⟨e, s, h1, h2⟩ := WPA.det x h
    cases e with
    | normal =>
      obtain ⟨e2, s2, h3, h4⟩ := WPA.det y h1
      refine ⟨e2, s2, h3, ?_⟩
      unfold WPA
      exact WPA.mono x (fun e3 s3 he => by obtain ⟨rfl, rfl⟩ := he; exact h4) h2
    | exit i =>
      refine ⟨_, _, h1, ?_⟩
      unfold WPA
      exact WPA.mono x (fun e3 s3 he => by obtain ⟨rfl, rfl⟩ := he; exact ⟨rfl, rfl⟩) h2
    | ret =>
      refine ⟨_, _, h1, ?_⟩
      unfold WPA
      exact WPA.mono x (fun e3 s3 he => by obtain ⟨rfl, rfl⟩ := he; exact ⟨rfl, rfl⟩) h2
  | .cond o x y, st, Q, h => by
    unfold WPA at h
    split at h
    · rename_i b hb
      cases b with
      | true =>
        obtain ⟨e, s, h1, h2⟩ := WPA.det x (h.1 rfl)
        refine ⟨e, s, h1, ?_⟩
        unfold WPA
        simp only [hb]
        exact ⟨fun _ => h2, fun e => by simp at e⟩
      | false =>
        obtain ⟨e, s, h1, h2⟩ := WPA.det y (h.2 rfl)
        refine ⟨e, s, h1, ?_⟩
        unfold WPA
        simp only [hb]
        exact ⟨fun e => by simp at e, fun _ => h2⟩
    · exact h.elim
  | .block id x, st, Q, h => by
    unfold WPA at h
    obtain ⟨e, s, h1, h2⟩ := WPA.det x h
    cases e with
    | normal =>
      refine ⟨_, _, h1, ?_⟩
      unfold WPA
      exact WPA.mono x (fun e3 s3 he => by obtain ⟨rfl, rfl⟩ := he; exact ⟨rfl, rfl⟩) h2
    | exit i =>
      by_cases hi : i = id
      · simp only [hi, if_true] at h1
        refine ⟨.normal, s, h1, ?_⟩
        unfold WPA
        refine WPA.mono x (fun e3 s3 he => ?_) h2
        obtain ⟨rfl, rfl⟩ := he
        simp [hi]
      · simp only [hi, if_false] at h1
        refine ⟨.exit i, s, h1, ?_⟩
        unfold WPA
        refine WPA.mono x (fun e3 s3 he => ?_) h2
        obtain ⟨rfl, rfl⟩ := he
        simp [hi]
    | ret =>
      refine ⟨_, _, h1, ?_⟩
      unfold WPA
      exact WPA.mono x (fun e3 s3 he => by obtain ⟨rfl, rfl⟩ := he; exact ⟨rfl, rfl⟩) h2
  | .loop x, st, Q, h => by
    unfold WPA at h
    obtain ⟨I, ⟨n0, st0, hw0, hi0⟩, hstep⟩ := h
    have key : ∀ n st1, I n st1 → ∃ e s, Q e s ∧ WPA P T m (.loop x) st1 (fun e2 s2 => e2 = e ∧ s2 = s) := by
      intro n
      induction n using Nat.strongRecOn with
      | _ n ih =>
        intro st1 hi
        obtain ⟨e, s, h1, h2⟩ := WPA.det x (hstep n st1 hi)
        cases e with
        | normal =>
          obtain ⟨n', s', hlt, hw, hi'⟩ := h1
          obtain ⟨e2, s2, hq, hl⟩ := ih n' hlt s' hi'
          refine ⟨e2, s2, hq, ?_⟩
          unfold WPA at hl ⊢
          obtain ⟨J, ⟨k0, t0, hwt, hj0⟩, hJ⟩ := hl
          refine ⟨fun k t => (k = k0 + 1 ∧ t = st1) ∨ (k ≤ k0 ∧ J k t), ⟨k0 + 1, st1, Weak.refl _ _, Or.inl ⟨rfl, rfl⟩⟩, ?_⟩
          intro k t hk
          rcases hk with ⟨rfl, rfl⟩ | ⟨hk, hj⟩
          · refine WPA.mono x (fun e3 s3 he => ?_) h2
            obtain ⟨rfl, rfl⟩ := he
            exact ⟨k0, t0, by omega, Weak.trans hw hwt, Or.inr ⟨Nat.le_refl _, hj0⟩⟩
          · refine WPA.mono x (fun e3 s3 he => ?_) (hJ k t hj)
            cases e3 with
            | normal =>
              obtain ⟨k', t', hlt', hw', hj'⟩ := he
              exact ⟨k', t', hlt', hw', Or.inr ⟨by omega, hj'⟩⟩
            | exit i => exact he
            | ret => exact he
        | exit i =>
          refine ⟨_, _, h1, ?_⟩
          unfold WPA
          refine ⟨fun k t => k = 0 ∧ t = st1, ⟨0, st1, Weak.refl _ _, rfl, rfl⟩, ?_⟩
          rintro k t ⟨rfl, rfl⟩
          exact WPA.mono x (fun e3 s3 he => by obtain ⟨rfl, rfl⟩ := he; exact ⟨rfl, rfl⟩) h2
        | ret =>
          refine ⟨_, _, h1, ?_⟩
          unfold WPA
          refine ⟨fun k t => k = 0 ∧ t = st1, ⟨0, st1, Weak.refl _ _, rfl, rfl⟩, ?_⟩
          rintro k t ⟨rfl, rfl⟩
          exact WPA.mono x (fun e3 s3 he => by obtain ⟨rfl, rfl⟩ := he; exact ⟨rfl, rfl⟩) h2
    obtain ⟨e, s, hq, hl⟩ := key n0 st0 hi0
    refine ⟨e, s, hq, ?_⟩
    unfold WPA at hl ⊢
    obtain ⟨J, ⟨k0, t0, hwt, hj0⟩, hJ⟩ := hl
    exact ⟨J, ⟨k0, t0, Weak.trans hw0 hwt, hj0⟩, hJ⟩

def retR (T : Tab) (rs : List ResultVar) (m : Nat) (R : List Ob → PV → Prop) (e : AExit) (st : St) : Prop := match e with | .exit _ => False | _ => ∃ H1 res, R H1 res ∧ RetOK T rs m st H1 res
theorem den_some (hT : TabOk P T) (hm : P.follows .mixedOrders = true) {k : FuncId} {fn : Func} {cd : Code} (hf : P.funcs[k]? = some fn) (hb : fn.body = some cd) (hname : (fn.name == "runtime.NumGoroutine") = false)
    {H0 : List Ob} {args : List PV} {R : List Ob → PV → Prop} {rs : List ResultVar} (hr : fn.results = List.toArray rs) {n : Nat} (hn : fn.ntmps - args.length = n) {env : List PV} (he : args ++ List.replicate n .any = env) {m : Nat} (hm0 : H0.length = m)
    (h : WA P T m cd ⟨env, H0⟩ (retR T rs m R) ⟨⟩) : ∃ H1 res, R H1 res ∧ Den P k H0 args H1 res := by
  obtain ⟨e, st, hq, hw⟩ := WPA.det cd h
  cases e with
  | normal =>
    obtain ⟨H1, res, hR, hret⟩ := hq
    exact ⟨H1, res, hR, den_of hT hm hf hb hname hr hn he hm0 (WPA.mono cd (fun e2 s2 hh => by obtain ⟨rfl, rfl⟩ := hh; exact hret) hw)⟩
  | exit i => exact hq.elim
  | ret =>
    obtain ⟨H1, res, hR, hret⟩ := hq
    exact ⟨H1, res, hR, den_of hT hm hf hb hname hr hn he hm0 (WPA.mono cd (fun e2 s2 hh => by obtain ⟨rfl, rfl⟩ := hh; exact hret) hw)⟩

end Go.AM

namespace Go.AM

theorem Weak.nil {m : Nat} {env : List PV} {H : List Ob} {st' : St} (t s : Nat) (hs : 0 < s) (ht : env[t]? = some .nilsl) (h2 : Weak m ⟨env.set t (.lsl H.length 0 0 s), H ++ [.row true []]⟩ st') : Weak m ⟨env, H⟩ st' := by
  intro c a w hml ⟨X, ρ, h, henv, hd, hkp⟩
  refine h2 c a w hml ⟨X, ρ ++ [some ⟨none, 0, s, 0⟩], ?_, ?_, hd, hkp⟩
  · have hle : ρ.Le (ρ ++ [some ⟨none, 0, s, 0⟩]) := Places.Le.append ρ _
    have key : ∀ (id : Nat) p o, (ρ ++ [some ⟨none, 0, s, 0⟩])[id]? = some (some p) → (H ++ [Ob.row true []])[id]? = some o → (ρ[id]? = some (some p) ∧ H[id]? = some o) ∨ (p = ⟨none, 0, s, 0⟩ ∧ o = .row true []) := by
      intro id p o hp ho
      by_cases hlt : id < ρ.length
      · rw [List.getElem?_append_left hlt] at hp
        rw [List.getElem?_append_left (by rw [← h.len]; exact hlt)] at ho
        exact .inl ⟨hp, ho⟩
      · rw [List.getElem?_append_right (by omega)] at hp
        rw [List.getElem?_append_right (by rw [← h.len]; omega), ← h.len] at ho
        right
        cases hi : id - ρ.length with
        | zero => rw [hi] at hp ho; simp at hp ho; exact ⟨hp.symm, ho.symm⟩
        | succ j => rw [hi] at hp; simp at hp
    refine ⟨by simp [h.len], ?_, ?_, ?_, h.xo, h.xlt, h.ge, h.base.trans hle⟩
    · intro id p o hp ho
      rcases key id p o hp ho with ⟨h3, h4⟩ | ⟨rfl, rfl⟩
      · exact (h.ob id p o h3 h4).keep (Same.refl X w) (fun _ _ hx => hx) hle (fun _ g _ _ => ⟨rfl, Iff.rfl⟩)
      · exact ⟨⟨hs, by simp, [], by simpa [Place.val] using World.ownsRow_nil w 0 0 s, by simp⟩, by simp⟩
    · intro i j p q o r g hp hq ho hr h3 h4 h5 h6
      rcases key i p o hp ho with ⟨h7, h8⟩ | ⟨rfl, rfl⟩
      · rcases key j q r hq hr with ⟨h9, h10⟩ | ⟨rfl, rfl⟩
        · exact h.inj i j p q o r g h7 h9 h8 h10 h3 h4 h5 h6
        · simp at h6
      · simp at h5
    · intro id p o g hp ho h3 h4
      rcases key id p o hp ho with ⟨h7, h8⟩ | ⟨rfl, rfl⟩
      · exact h.own id p o g h7 h8 h3 h4
      · simp at h4
  · have hle : ρ.Le (ρ ++ [some ⟨none, 0, s, 0⟩]) := Places.Le.append ρ _
    have henv2 := henv.mono hle
    refine ⟨by rw [List.length_set]; exact henv.1, fun i v x hv hx => ?_⟩
    by_cases hi : t = i
    · subst hi
      rw [List.getElem?_set_self (List.getElem?_eq_some_iff.1 ht).1] at hx
      cases hx
      have := henv.2 t v _ hv ht
      cases this with
      | nilsl =>
        exact .lsl0 H.length ⟨none, 0, s, 0⟩ (by rw [← h.len]; simp) rfl
    · rw [List.getElem?_set_ne hi] at hx
      exact henv2.2 i v x hv hx

section
variable {P : Program} {T : Tab}
end
end Go.AM

namespace Go.AM

def Plain (res : PV) : Prop := ∀ (w w' : World) (X X' : Nat → Prop) (ρ ρ' : Places) (v : Value), PRd w X ρ v res → PRd w' X' ρ' v res
theorem Plain.lit (v : Value) : Plain (.fv (.lit v)) := fun w w' X X' ρ ρ' u h => by
  cases h with
  | fv _ _ hf => cases hf with
    | lit _ h1 => exact .fv _ _ (.lit _ h1)
theorem Plain.tup {vs : List PV} (h : ∀ x ∈ vs, Plain x) : Plain (.tup vs) := fun w w' X X' ρ ρ' u hu => by
  cases hu with
  | tup us _ hn hr => exact .tup us vs hn (fun i v c h1 h2 => h c (List.mem_of_getElem? h2) _ _ _ _ _ _ _ (hr i v c h1 h2))

theorem Den.lendF {P : Program} {k : FuncId} {xs : List (List FV)} {n s : Nat} {post : List PV} {res : PV} (h : Den P k [] (.fv (.sl xs) :: post) [] res) (hn : n = xs.length) (hp : Plain res) (hpost : ∀ x ∈ post, Plain x) :
    Den P k [.row true xs] (.lsl 0 0 n s :: post) [.row true xs] res := by
  subst hn
  refine ⟨h.1, fun c X ρ vs hh hM hvs => ?_⟩
  obtain ⟨X1, h1, hs1, hn1⟩ := hh.shutIds [0]
  let c2 : Ctx := { w0 := c.w0, M := fun _ => False, Xo := c.Xo, base := [], hxo := fun b hb => ⟨(c.hxo b hb).1, fun h => h⟩ }
  have hh2 : HRd c2 c.w0 X1 [] [] := ⟨rfl, by simp, by simp, by simp, h1.xo, h1.xlt, h1.ge, Places.Le.refl _⟩
  have hsz : 0 < vs.size := by rw [hvs.1]; simp
  have hv0 : vs[0]? = some vs[0] := by simp [hsz]
  have hrd0 := hvs.2 0 vs[0] (.lsl 0 0 xs.length s) hv0 rfl
  have hfr : FRd c.w0 X1 vs[0] (.sl xs) := by
    refine fz0_rd (H := [.row true xs]) hh (fun j o ho => ho) hrd0 (by simp [fz0]) hs1 (fun id hid p o g hp ho ha hg => hn1 id (by simpa [ids0] using hid) p o g hp ho ha hg)
  have hvs2 : PRds c.w0 X1 [] vs (.fv (.sl xs) :: post) := by
    refine ⟨by rw [hvs.1]; simp, fun i v x hv hx => ?_⟩
    cases i with
    | zero =>
      simp at hx; subst hx
      rw [hv0] at hv; cases hv
      exact .fv _ _ hfr
    | succ i =>
      have hx2 : post[i]? = some x := by simpa using hx
      exact hpost x (List.mem_of_getElem? hx2) _ _ _ _ _ _ _ (hvs.2 (i + 1) v x hv (by simpa using hx2))
  refine (h.2 c2 X1 [] vs hh2 (fun b hb => hb.elim) hvs2).mono (fun e w' hpost2 => ?_)
  obtain ⟨v, X', ρ', he, hk, hr, hpv, hle, hnew⟩ := hpost2
  have hblk : ∀ b, b < c.w0.heap.size → w'.heap[b]? = c.w0.heap[b]? := fun b hb => hk.block b hb (fun h => h)
  have hsame : Same X c.w0 w' := ⟨hk.size, fun b hb _ => hblk b hb⟩
  refine ⟨v, X, ρ, he, ⟨⟨hk.os, hk.tape, hk.output, hk.size, fun b hb _ => hblk b hb⟩, hk.drawn⟩, ⟨hh.len, fun id p o h2 h3 => (hh.ob id p o h2 h3).keep hsame (fun _ _ h => h) (Places.Le.refl _) (fun _ g _ hg => ⟨hblk g hg, Iff.rfl⟩), hh.inj,
    fun id p o g h2 h3 h4 h5 => ⟨(hh.own id p o g h2 h3 h4 h5).1, Nat.lt_of_lt_of_le (hh.own id p o g h2 h3 h4 h5).2 hk.size⟩, hh.xo, fun b hb => Nat.lt_of_lt_of_le (hh.xlt b hb) hk.size, hk.size, hh.base⟩, hp _ _ _ _ _ _ _ hpv, Places.Le.refl _, fun id p h2 h3 => ?_⟩
  have := (List.getElem?_eq_some_iff.1 h3).1
  omega
theorem Weak.shut {m : Nat} {env : List PV} {H : List Ob} {st' : St} (ids : List Nat) (h2 : Weak m ⟨env, shutIds ids H⟩ st') : Weak m ⟨env, H⟩ st' := fun c a w hml h => h2 c a w hml (h.shut ids)
theorem shB1 {H : List Ob} {id off n s : Nat} : shutBs H id [.lsl id off n s] = H := by simp [shutBs, idsB, shutIds]
theorem lentB_lsl {H : List Ob} {id off n s : Nat} : fzBs H id [.lsl id off n s] = some [.lsl 0 off n s] := by simp [fzBs, fzB]
theorem set_here : ∀ {α : Type} {l : List α} {i : Nat} {x : α}, l[i]? = some x → l.set i x = l
  | _, [], _, _, h => by simp at h
  | _, a :: l, 0, x, h => by simp at h; subst h; rfl
  | _, a :: l, i + 1, x, h => by simp only [List.set_cons_succ]; rw [set_here (by simpa using h)]
theorem GoCall.show {P : Program} {env : List PV} {H : List Ob} {K : PV → List Ob → Prop} {k : FuncId} {id n s : Nat} {xs : List (List FV)} {res : PV} {t : Tok _} (hd : Den P k [] [.fv (.sl xs)] [] res) (hp : Plain res) (hn : n = xs.length)
    (ho : H[id]? = some (.row true xs)) (hk : K (reloc (lent id H.length) res) H) : GoCall P ⟨env, H⟩ (some (k, [], [])) [.lsl id 0 n s] K t := by
  refine GoCall.lend id (hd.lendF (s := s) hn hp (by simp)) ho rfl trivial (by simp [PV.refsTo]) (by simpa using lentB_lsl) ?_ ?_
  · simp only [List.nil_append, List.append_nil]
    rw [shB1]; exact ho
  · simp only [List.nil_append, List.append_nil, List.map_nil]
    rw [shB1]
    have : H.set id (relocOb (lent id H.length) (.row true xs)) = H := set_here (by simpa [relocOb] using ho)
    rw [this]
    exact hk
end Go.AM

namespace Go.AM

end Go.AM
