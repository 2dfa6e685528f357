/- Contracts: regions: Within. -/
import Derived.Test.YtddnnhlcpffbdaaGreatT13
import Derived.Test.YtddnnhlcpffbdaaGreatT11
import Derived.Test.YtddnnhlcpffbdaaGreatT10
import Derived.Test.YtddnnhlcpffbdaaGreatT12

namespace Go.Proofs.YtddnnhlcpffbdaaGreat
open Go.AM Go.Pl
set_option maxRecDepth 100000
set_option maxHeartbeats 4000000

theorem pd36 (a b : List (List Raw)) (ha : CsOk a) (hla : a.length ≤ 40) (hlb : b.length ≤ 40) (hb : ∀ l ∈ b, LOk 1000 l) (hT : ∀ l ∈ b, ¬ IsConst l → CsOk (a ++ [negR l])) :
    Den Tryz.prog 36 [] [.fv (.sl (rowsF a)), .fv (.sl (rowsF b))] [] (.tup [.bool (withinB a b), .int .i64 0]) := by
  obtain ⟨R, hR⟩ : ∃ R, withinB a b = R := ⟨_, rfl⟩
  rw [hR]
  unfold withinB at hR
  have rla := rowsF_length a
  have rlb := rowsF_length b
  have e1 : decide ((a.length : Int) > 40) = false := decide_eq_false (by omega)
  have e2 : decide ((b.length : Int) > 40) = false := decide_eq_false (by omega)
  have h60a := pd60 a ha
  cases hia : innerB a with
  | false =>
    rw [hia] at hR h60a
    have hR2 : R = true := by rw [← hR]; rfl
    subst hR2
    refine den_of tabOk mixed Tryz.func36 (cd := _) rfl (by decide) rfl (n := 40) rfl rfl (m := 0) rfl ?_
    simp (dsimp := false) (disch := omega) only [List.replicate, rla, rlb, e1, e2, rules, tys, eq_self, ↓reduceIte]
    refine GoCall.pure h60a rfl ?_
    simp (dsimp := false) (disch := omega) only [Bool.not_false, Ap_end_ret, rules]
    exact RetOK.pure rfl ⟨trivial, trivial, trivial⟩ rfl
  | true =>
    rw [hia, Bool.not_true, Bool.false_or] at hR
    rw [hia] at h60a
    have hm1 := den47 (-1) (by decide)
    change Den Tryz.prog 77 [] [.int .i64 (-1)] [] (cn ((-1 : Int) : Rat)).v at hm1
    have hcm : ∀ b : List Raw, LOk 1000 b → Den Tryz.prog 79 [] [RL b, (cn ((-1 : Int) : Rat)).v] [] (RL (negR b)) := fun b hb => by
      have := den23 b (cn ((-1 : Int) : Rat)) (hb.mono (by decide)) (cn_ok (Bd.mono (show Bd 1 ((-1 : Int) : Rat) from ⟨by decide, by decide⟩) (by decide)))
      rw [cn_q] at this
      exact this
    obtain ⟨c, hc⟩ : ∃ c, cn ((-1 : Int) : Rat) = c := ⟨_, rfl⟩
    rw [hc] at hm1 hcm
    unfold Raw.v at hm1 hcm
    have h78 := pd78 a ha.len9 (by omega)
    obtain ⟨na, hna⟩ : ∃ n, a.length = n := ⟨_, rfl⟩
    obtain ⟨n, hnn⟩ : ∃ n, b.length = n := ⟨_, rfl⟩
    rw [hna] at h78
    have tka := take_rows (ls := a) (n := na) (by omega)
    refine den_of tabOk mixed Tryz.func36 (cd := _) rfl (by decide) rfl (n := 40) rfl rfl (m := 0) rfl ?_
    simp (dsimp := false) (disch := omega) only [List.replicate, rla, rlb, e1, e2, rules, tys, eq_self, ↓reduceIte]
    refine GoCall.pure h60a rfl ?_
    simp (dsimp := false) (disch := omega) only [Bool.not_true, rules]
    refine GoCall.pure hm1 rfl ?_
    simp (dsimp := false) (disch := omega) only [rlb, hnn, rules, tys, eq_self, Nat.reduceAdd, Nat.reduceLT, Nat.reduceLeDiff]
    repeat refine And.intro (by omega) ?_
    rw [hna] at rla
    rw [hnn] at rlb
    refine WA.loop (α := Nat) (fun i => ⟨[.fv (.sl (rowsF a)), .any, .any, .any, .bool false, .int .i64 0, .ptr 0 0 0, .any, .any, .any, .any, .any, .any, .any, .any, .any, .any, .any, .any, .any, .any, .fv (.sl (rowsF b)), .int .i64 n, .int .i64 i] ++ List.replicate 18 .any, [.box true [.bool c.neg, .fv (.sl (u32s c.num)), .fv (.sl (u32s c.den))]]⟩)
      (fun i => n - i) (fun i => i ≤ n ∧ (b.take i).all (inWith a) = true) 0 ?_ ?_ ?_
    · refine Weak.keep [0] (by simp) rfl ?_ ?_
      · simp [leVs, leV, le1]
      · simp [leH, leO, le1s, le1]
    · exact ⟨Nat.zero_le _, rfl⟩
    · rintro i ⟨hi, hall⟩
      simp (dsimp := false) (disch := omega) only [List.replicate, rules, tys, eq_self, ↓reduceIte]
      refine Br.dec ?_ ?_
      · intro h1 h2
        have hsn := take_snoc (cs := b) (i := i) (by omega)
        have hmem := at_mem (ls := b) (i := i) (by omega)
        have r1 := rowsF_getD b i
        obtain ⟨x, hxx⟩ : ∃ x, b.getD i [] = x := ⟨_, rfl⟩
        rw [hxx] at hmem r1 hsn
        have hx := hb x hmem
        have lx := hx.len
        have x27 := flatF_take27 lx
        have fx := flatF_length x
        have gx := flat_length x
        have gx27 := flat_take27 lx
        have hcd := den25 x (hx.mono (by decide))
        have hfc := flat_const' lx
        have hnx : (b.take (i + 1)).all (inWith a) = inWith a x := by rw [hsn, List.all_append, hall]; simp
        have hout : inWith a x = false → R = false := fun h => by
          rw [← hR]
          rw [List.all_eq_false]
          exact ⟨x, hmem, by rw [h]; simp⟩
        unfold inWith at hnx hout
        obtain ⟨cb, hcb⟩ : ∃ b, constB x = b := ⟨_, rfl⟩
        rw [hcb] at hcd hnx hout
        unfold RL at hcd
        simp (dsimp := false) (disch := omega) only [List.append_nil, h2, r1, x27, flatF_fv, fx, gx, lx, gx27, rlb, rules, tys, eq_self, ↓reduceIte, Nat.reduceAdd, Nat.reduceMul, Nat.reduceLT, Nat.reduceLeDiff]
        repeat refine And.intro (by omega) ?_
        refine GoCall.pure hcd (by simp [fzAs, fzA, flat_fz, flatF_fv]) ?_
        cases cb with
        | true =>
          rw [if_pos rfl] at hnx hout
          have h36 := den36 (x.getD 8 rz) ((hx.at 8).mono (by decide))
          have hco : co x 8 = (x.getD 8 rz).q := rfl
          obtain ⟨r, hr⟩ : ∃ r, x.getD 8 rz = r := ⟨_, rfl⟩
          rw [hr] at h36 hfc hco
          unfold Raw.v at h36
          simp (dsimp := false) (disch := omega) only [flat_ids, List.append_nil, hfc, gx, lx, rules, tys, eq_self, ↓reduceIte, Nat.reduceAdd, Nat.reduceMul, Nat.reduceLeDiff]
          repeat refine And.intro (by omega) ?_
          refine GoCall.pure h36 rfl ?_
          simp (dsimp := false) (disch := omega) only [List.append_nil, rules, tys, eq_self, ↓reduceIte, Nat.reduceAdd]
          refine Br.dec ?_ ?_
          · intro h3 h4
            have hR2 := hout (by rw [hco, decide_eq_true (sgq_neg_iff.1 h3)]; rfl)
            subst hR2
            simp (dsimp := false) (disch := omega) only [h4, Ap_end_ret, rules]
            exact RetOK.pure rfl ⟨trivial, trivial, trivial⟩ rfl
          · intro h3 h4
            rw [hco, decide_eq_false (fun h => h3 (sgq_neg_iff.2 h))] at hnx
            simp (dsimp := false) (disch := omega) only [h4, wrap64, rules, tys, eq_self, ↓reduceIte, Nat.reduceBEq]
            refine Ap_loop (i + 1) (by omega) ?_ ⟨by omega, hnx⟩
            refine Weak.keep [0] (by simp) rfl ?_ ?_
            · simp [leVs, leV, le1]
              try omega
            · simp [leH, leO, le1s, le1]
        | false =>
          rw [if_neg (by simp)] at hnx hout
          have hnc : ¬ IsConst x := fun h => by rw [(constB_iff lx).2 h] at hcb; cases hcb
          have h60 := pd60 _ (hT x hmem hnc)
          obtain ⟨ib, hib⟩ : ∃ t, innerB (a ++ [negR x]) = t := ⟨_, rfl⟩
          rw [hib] at h60 hnx hout
          have h79 := hcm x hx
          have hnl := negR_len lx
          have hap := rows_snoc a (negR x)
          have hlen1 : (a ++ [negR x]).length = na + 1 := by rw [List.length_append, hna]; rfl
          obtain ⟨y, hy⟩ : ∃ y, negR x = y := ⟨_, rfl⟩
          rw [hy] at h60 h79 hnl hap hlen1
          have gy := flat_length y
          have y27 := flatF_take27 hnl
          have gy27 := flat_take27 hnl
          have rll := rowsF_length (a ++ [y])
          rw [hlen1] at rll
          unfold RL at h79
          simp (dsimp := false) (disch := omega) only [flat_ids, List.append_nil, rules, Nat.reduceAdd]
          refine Draw.intro (by kernel_rfl) ?_
          simp (dsimp := false) (disch := omega) only [rules]
          refine GoCall.pure h78 rfl ?_
          simp (dsimp := false) (disch := omega) only [List.append_nil, gx, lx, gx27, rules, tys, eq_self, ↓reduceIte, Nat.reduceAdd, Nat.reduceMul, Nat.reduceLeDiff]
          repeat refine And.intro (by omega) ?_
          refine GoCall.pure h79 (by simp [fzAs, fzA, flat_fz, flatF_fv, fzs, fz0]) ?_
          simp (dsimp := false) (disch := omega) only [flat_ids, flat_reloc, flat_fz, List.append_nil, gy, hnl, y27, rla, tka, hap, rules, tys, eq_self, ↓reduceIte, Nat.reduceAdd, Nat.reduceMul, Nat.reduceBEq, Nat.reduceLT, Nat.reduceLeDiff]
          repeat refine And.intro (by omega) ?_
          refine GoCall.show h60 (Plain.lit _) (by omega) rfl ?_
          cases ib with
          | true =>
            have hR2 := hout rfl
            subst hR2
            simp (dsimp := false) (disch := omega) only [Ap_end_ret, rules, Nat.reduceAdd]
            exact RetOK.pure rfl ⟨trivial, trivial, trivial⟩ rfl
          | false =>
            simp (dsimp := false) (disch := omega) only [wrap64, rules, tys, eq_self, ↓reduceIte, Nat.reduceAdd]
            refine Ap_loop (i + 1) (by omega) ?_ ⟨by omega, hnx⟩
            refine Weak.keep [0] (by simp) rfl ?_ ?_
            · simp [leVs, leV, le1]
              try omega
            · simp [leH, leO, le1s, le1]
      · intro h1 h2
        have htk : b.take i = b := List.take_of_length_le (by omega)
        rw [htk] at hall
        rw [hall] at hR
        subst hR
        simp (dsimp := false) (disch := omega) only [h2, Ap_end_ret, rules, Nat.reduceBEq]
        exact RetOK.pure rfl ⟨trivial, trivial, trivial⟩ rfl
end Go.Proofs.YtddnnhlcpffbdaaGreat

namespace Go.Proofs.YtddnnhlcpffbdaaGreat
open Go.AM Go.Pl
set_option maxRecDepth 100000
set_option maxHeartbeats 4000000

noncomputable def sameB (a b : List (List Raw)) : Bool := @decide (a = b) (Classical.propDecidable _)
theorem sameB_iff {a b : List (List Raw)} : sameB a b = true ↔ a = b := by unfold sameB; rw [@decide_eq_true_iff]
theorem sameB_self (a : List (List Raw)) : sameB a a = true := sameB_iff.2 rfl
theorem sameB_false {a b : List (List Raw)} : sameB a b = false ↔ a ≠ b := by
  constructor
  · intro h he
    rw [sameB_iff.2 he] at h; cases h
  · intro h
    cases h2 : sameB a b with
    | false => rfl
    | true => exact absurd (sameB_iff.1 h2) h
theorem pd40 (a b : List (List Raw)) (ha : ∀ l ∈ a, IsCn l ∧ LOk 1000 l) (hb : ∀ l ∈ b, IsCn l ∧ LOk 1000 l) (hna : a.length ≤ 1000) (hnb : b.length ≤ 1000) :
    Den Tryz.prog 40 [] [.fv (.sl (rowsF a)), .fv (.sl (rowsF b))] [] (.bool (sameB a b)) := by
  obtain ⟨R, hR⟩ : ∃ R, sameB a b = R := ⟨_, rfl⟩
  rw [hR]
  obtain ⟨n, hnn⟩ : ∃ n, a.length = n := ⟨_, rfl⟩
  obtain ⟨m, hmm⟩ : ∃ m, b.length = m := ⟨_, rfl⟩
  have rla := rowsF_length a
  have rlb := rowsF_length b
  rw [hnn] at rla hna
  rw [hmm] at rlb hnb
  refine den_of tabOk mixed Tryz.func40 (cd := _) rfl (by decide) rfl (n := 25) rfl rfl (m := 0) rfl ?_
  simp (dsimp := false) (disch := omega) only [List.replicate, rla, rlb, rules, tys, eq_self, ↓reduceIte]
  refine Br.bneInt ?_ ?_
  · intro h1 h2
    have hR2 : R = false := by rw [← hR, sameB_false]; intro he; rw [he] at hnn; omega
    subst hR2
    simp (dsimp := false) (disch := omega) only [h2, Ap_end_ret, rules]
    exact RetOK.pure rfl ⟨trivial, trivial⟩ rfl
  · intro h1 h2
    simp (dsimp := false) (disch := omega) only [h2, rules]
    refine WA.loop (α := Nat) (fun i => ⟨[.fv (.sl (rowsF a)), .fv (.sl (rowsF b)), .any, .any, .bool false, .int .i64 i] ++ List.replicate 21 .any, []⟩)
      (fun i => n - i) (fun i => i ≤ n ∧ ∀ j, j < i → a.getD j [] = b.getD j []) 0 ?_ ?_ ?_
    · refine Weak.keep [] (by simp) rfl ?_ ?_
      · simp [leVs, leV, le1]
      · simp [leH]
    · exact ⟨Nat.zero_le _, fun j hj => by omega⟩
    · rintro i ⟨hi, hin⟩
      simp (dsimp := false) (disch := omega) only [List.replicate, rla, rules, tys, eq_self, ↓reduceIte]
      refine Br.dec ?_ ?_
      · intro h3 h4
        have hma := at_mem (ls := a) (i := i) (by omega)
        have hmb := at_mem (ls := b) (i := i) (by omega)
        have r1 := rowsF_getD a i
        have r2 := rowsF_getD b i
        have hnext : a.getD i [] = b.getD i [] → ∀ j, j < i + 1 → a.getD j [] = b.getD j [] := fun h0 j hj => by
          by_cases hji : j = i
          · rw [hji]; exact h0
          · exact hin j (by omega)
        have hdiff : a.getD i [] ≠ b.getD i [] → R = false := fun h0 => by
          rw [← hR, sameB_false]; intro he; rw [he] at h0; exact h0 rfl
        obtain ⟨x, hxx⟩ : ∃ x, a.getD i [] = x := ⟨_, rfl⟩
        obtain ⟨y, hyy⟩ : ∃ x, b.getD i [] = x := ⟨_, rfl⟩
        rw [hxx] at hma r1 hnext hdiff
        rw [hyy] at hmb r2 hnext hdiff
        obtain ⟨⟨p, hp, hpl⟩, hxo⟩ := ha x hma
        obtain ⟨⟨q, hq, hql⟩, hyo⟩ := hb y hmb
        have hpb : ∀ z ∈ p, Bd 1000000000 z := fun z hz => by
          have := hxo.bd (by decide) (cn z) (by rw [hp]; exact List.mem_map.2 ⟨z, hz, rfl⟩)
          rw [cn_q] at this
          exact this.mono (by decide)
        have hqb : ∀ z ∈ q, Bd 1000000000 z := fun z hz => by
          have := hyo.bd (by decide) (cn z) (by rw [hq]; exact List.mem_map.2 ⟨z, hz, rfl⟩)
          rw [cn_q] at this
          exact this.mono (by decide)
        have h82 := den11 p q hpl hql hpb hqb
        unfold FL at h82
        rw [← hp, ← hq] at h82
        have hpq : p = q ↔ x = y := by
          constructor
          · intro h; rw [hp, hq, h]
          · intro h; rw [← map_cn_q p, ← map_cn_q q, ← hp, ← hq, h]
        obtain ⟨c, hc⟩ : ∃ c, decide (p = q) = c := ⟨_, rfl⟩
        rw [hc] at h82
        have lx := hxo.len
        have ly := hyo.len
        have x27 := flatF_take27 lx
        have y27 := flatF_take27 ly
        have fx := flatF_length x
        have fy := flatF_length y
        unfold RL at h82
        simp (dsimp := false) (disch := omega) only [h4, rules]
        refine Draw.intro (by kernel_rfl) ?_
        simp (dsimp := false) (disch := omega) only [r1, r2, x27, y27, flatF_fv, fx, fy, lx, ly, rla, rlb, rules, tys, eq_self, ↓reduceIte, Nat.reduceMul, Nat.reduceLT, Nat.reduceLeDiff]
        repeat refine And.intro (by omega) ?_
        refine GoCall.pure h82 (by simp [fzAs, fzA, flat_fz, flatF_fv]) ?_
        cases c with
        | true =>
          have he := hpq.1 (of_decide_eq_true hc)
          simp (dsimp := false) (disch := omega) only [flat_ids, List.append_nil, Bool.not_true, wrap64, rules, tys, eq_self, ↓reduceIte]
          refine Ap_loop (i + 1) (by omega) ?_ ⟨by omega, hnext he⟩
          refine Weak.keep [] (by simp) rfl ?_ ?_
          · simp [leVs, leV, le1]
          · simp [leH]
        | false =>
          have he : x ≠ y := fun h => (of_decide_eq_false hc) (hpq.2 h)
          have hR2 := hdiff he
          subst hR2
          simp (dsimp := false) (disch := omega) only [flat_ids, List.append_nil, Bool.not_false, Ap_end_ret, rules]
          exact RetOK.pure rfl ⟨trivial, trivial⟩ rfl
      · intro h3 h4
        have hR2 : R = true := by
          rw [← hR, sameB_iff]
          apply List.ext_getElem (by omega)
          intro j h5 h6
          have := hin j (by omega)
          rw [List.getD_eq_getElem?_getD, List.getElem?_eq_getElem h5, List.getD_eq_getElem?_getD, List.getElem?_eq_getElem h6] at this
          exact this
        subst hR2
        simp (dsimp := false) (disch := omega) only [h4, Ap_end_ret, rules, Nat.reduceBEq]
        exact RetOK.pure rfl ⟨trivial, trivial⟩ rfl
end Go.Proofs.YtddnnhlcpffbdaaGreat

namespace Go.Proofs.YtddnnhlcpffbdaaGreat
open Go.AM Go.Pl
set_option maxRecDepth 100000
set_option maxHeartbeats 2000000

end Go.Proofs.YtddnnhlcpffbdaaGreat

namespace Go.Proofs.YtddnnhlcpffbdaaGreat
open Go.AM Go.Pl
set_option maxRecDepth 100000
set_option maxHeartbeats 4000000

theorem w64_take4 {l : List Int} (h : W64 l) (n : Nat) : W64 (l.take n) := fun x hx => h x (List.mem_of_mem_take hx)
end Go.Proofs.YtddnnhlcpffbdaaGreat

namespace Go.AM

section
variable {P : Program} {T : Tab}

theorem opRes_congr {H : List Ob} {ρ ρ' : Operand → PV} {op : Op} (h : ∀ x ∈ op.operands.toList, ρ x = ρ' x) : opRes T H ρ op = opRes T H ρ' op := by
  cases op
  case build t parts =>
    have e : parts.toList.map (fun p => (p.1, ρ p.2)) = parts.toList.map (fun p => (p.1, ρ' p.2)) := List.map_congr_left (fun p hp => by
      rw [h p.2 (by simp only [Op.operands]; exact List.mem_map.2 ⟨p, hp, rfl⟩)])
    simp only [opRes]
    rw [e]
  case buildSlice t n parts =>
    have e : parts.toList.map (fun p => (p.1, ρ p.2)) = parts.toList.map (fun p => (p.1, ρ' p.2)) := List.map_congr_left (fun p hp => by
      rw [h p.2 (by simp only [Op.operands]; exact List.mem_map.2 ⟨p, hp, rfl⟩)])
    simp only [opRes]
    rw [e]
  case makeFunc fn first captured =>
    have e1 : first.toList.map ρ = first.toList.map ρ' := List.map_congr_left (fun p hp => h p (by simp only [Op.operands, Array.toList_append, List.mem_append]; exact .inl hp))
    have e2 : captured.toList.map ρ = captured.toList.map ρ' := List.map_congr_left (fun p hp => h p (by simp only [Op.operands, Array.toList_append, List.mem_append]; exact .inr hp))
    simp only [opRes]
    rw [e1, e2]
  case slice t x lo hi mx =>
    have e0 : ρ x = ρ' x := h x (by simp [Op.operands])
    have e1 : lo.map ρ = lo.map ρ' := by
      cases lo with
      | none => rfl
      | some y => simp only [Option.map_some]; rw [h y (by simp [Op.operands])]
    have e2 : hi.map ρ = hi.map ρ' := by
      cases hi with
      | none => rfl
      | some y => simp only [Option.map_some]; rw [h y (by simp [Op.operands])]
    have e3 : mx.map ρ = mx.map ρ' := by
      cases mx with
      | none => rfl
      | some y => simp only [Option.map_some]; rw [h y (by simp [Op.operands])]
    simp only [opRes]
    rw [e0, e1, e2, e3]
    cases T.at t with
    | none => rfl
    | some i =>
      obtain ⟨d, hd⟩ : ∃ d, i.d = d := ⟨_, rfl⟩
      cases mx with
      | none => simp only [hd]; cases d <;> rfl
      | some y =>
        have ey : ρ y = ρ' y := h y (by simp [Op.operands])
        simp only [hd]
        cases d <;> first | rfl | (simp only [ey])
  all_goals first
    | rfl
    | (simp [Op.operands] at h; simp only [opRes]; simp only [h]; done)
    | (simp [Op.operands] at h; simp only [opRes, h]; done)
theorem WPop_res {st : St} {op : Op} {K : PV → List Ob → Prop} (hc : ∀ c, op ≠ .call c) : WPop P T op st K = (match opRes T st.heap (ev st.env) op with | some r => r.cond ∧ K r.val r.heap | none => False) := by
  cases op <;> first | rfl | exact absurd rfl (hc _)
theorem WPop.congr {env env' : List PV} {H : List Ob} {op : Op} {K : PV → List Ob → Prop} (h : ∀ x ∈ op.operands.toList, ev env x = ev env' x) (hw : WPop P T op ⟨env, H⟩ K) : WPop P T op ⟨env', H⟩ K := by
  by_cases hc : ∃ c, op = .call c
  · obtain ⟨c, rfl⟩ := hc
    obtain ⟨callee, args, ts⟩ := c
    have ea : args.toList.map (ev env) = args.toList.map (ev env') := List.map_congr_left (fun x hx => h x (by
      simp only [Op.operands, Call.operands, Array.toList_append, List.mem_append]; exact .inr hx))
    simp only [WPop, WPcall] at hw ⊢
    cases callee with
    | builtin b =>
      simp only at hw ⊢
      rw [ea] at hw
      exact hw
    | value f =>
      have ef : ev env f = ev env' f := h f (by simp [Op.operands, Call.operands])
      simp only at hw ⊢
      rw [ea, ef] at hw
      exact hw
    | invoke r m => exact hw.elim
  · have hr := opRes_congr (T := T) (H := H) h
    rw [WPop_res (fun c e => hc ⟨c, e⟩)] at hw ⊢
    simp only at hw ⊢
    rw [hr] at hw
    exact hw
def freeOk (ops : Array Oper) (listed : Array Bool) (i d : Nat) (o : Oper) : Bool :=
  (List.range ops.size).all fun j => j == i || listed.getD j true || match ops[j]? with
    | none => true
    | some oj => (oj.after.toList.any fun e => plainEdge e && e.on == i) ||
      (!((oj.op.operands.toList.filterMap tmpOf).contains d) && (match oj.dst with | some dj => dj != d && !((o.op.operands.toList.filterMap tmpOf).contains dj) | none => true))
theorem freeOk_at {ops : Array Oper} {listed : Array Bool} {i d : Nat} {o : Oper} (h : freeOk ops listed i d o = true) {j : Nat} {oj : Oper} (hj : ops[j]? = some oj) (hne : j ≠ i) (hl : listed.getD j true = false) (hn : ∀ e ∈ oj.after, plainEdge e = true → e.on ≠ i) :
    (∀ x ∈ oj.op.operands.toList, x ≠ .tmp d) ∧ ∀ dj, oj.dst = some dj → dj ≠ d ∧ ∀ x ∈ o.op.operands.toList, x ≠ .tmp dj := by
  unfold freeOk at h
  rw [List.all_eq_true] at h
  have hlt := (Array.getElem?_eq_some_iff.1 hj).1
  have h1 := h j (List.mem_range.2 hlt)
  rw [hj, hl, Bool.or_false] at h1
  have hb : (j == i) = false := by simpa using hne
  rw [hb, Bool.false_or] at h1
  simp only [Bool.or_eq_true, Bool.and_eq_true, Bool.not_eq_true'] at h1
  rcases h1 with h1 | ⟨h1, h2⟩
  · exfalso
    rw [List.any_eq_true] at h1
    obtain ⟨e, he, h2⟩ := h1
    rw [Bool.and_eq_true] at h2
    exact hn e (Array.mem_toList_iff.1 he) h2.1 (by simpa using h2.2)
  · refine ⟨fun x hx hxe => ?_, fun dj hd => ?_⟩
    · subst hxe
      have hm : d ∈ oj.op.operands.toList.filterMap tmpOf := List.mem_filterMap.2 ⟨.tmp d, hx, rfl⟩
      rw [List.contains_iff_mem.2 hm] at h1
      cases h1
    · rw [hd] at h2
      simp only [Bool.and_eq_true, bne_iff_ne, ne_eq, Bool.not_eq_true'] at h2
      refine ⟨h2.1, fun x hx hxe => ?_⟩
      subst hxe
      have hm : dj ∈ o.op.operands.toList.filterMap tmpOf := List.mem_filterMap.2 ⟨.tmp dj, hx, rfl⟩
      rw [List.contains_iff_mem.2 hm] at h2
      cases h2.2
theorem ev_ne {env : List PV} {x : Operand} {d : Nat} {v : PV} (h : x ≠ .tmp d) : ev (env.set d v) x = ev env x := by
  cases x with
  | tmp t =>
    have hne : d ≠ t := fun e => h (by rw [e])
    show (env.set d v).getD t .any = env.getD t .any
    rw [List.getD_eq_getElem?_getD, List.getElem?_set_ne hne, ← List.getD_eq_getElem?_getD]
  | _ => rfl
theorem WPany.free {ops : Array Oper} {i d : Nat} {o : Oper} {v : PV} {K : St → Prop} (ho : ops[i]? = some o) (hg : o.guard = none) (hd : o.dst = some d) :
    ∀ (n : Nat) (listed : Array Bool) (env : List PV) (H : List Ob), listed.size = ops.size → freeOk ops listed i d o = true → i ∈ Region.ready .any ops listed → (∀ H, WPop P T o.op ⟨env, H⟩ (fun v' H' => v' = v ∧ H' = H)) →
      WPany P T ops n (listed.setIfInBounds i true) ⟨env.set d v, H⟩ K → WPany P T ops (n + 1) listed ⟨env, H⟩ K
  | n, listed, env, H, hsz, hfo, hi, hf, hw => by
    refine ⟨fun e => (by rw [e] at hi; cases hi), fun j hj => ?_⟩
    by_cases hji : j = i
    · subst hji
      rw [ho]
      refine ⟨hg, WPop.mono (fun v' H' h => ?_) (hf H)⟩
      obtain ⟨rfl, rfl⟩ := h
      rw [hd]
      exact hw
    · obtain ⟨hun, oj, hoj, hall⟩ := mem_ready.1 hj
      obtain ⟨huni, oi, hoi, halli⟩ := mem_ready.1 hi
      have hil : i < listed.size := by rw [hsz]; exact (Array.getElem?_eq_some_iff.1 ho).1
      have hjl : j < listed.size := by rw [hsz]; exact (Array.getElem?_eq_some_iff.1 hoj).1
      have set_get : ∀ (a b : Nat) (L : Array Bool), a < L.size → (L.setIfInBounds a true).getD b false = if a = b then true else L.getD b false := by
        intro a b L ha
        by_cases hab : a = b
        · subst hab; simp [ha]
        · rw [if_neg hab]
          simp [Array.getElem?_setIfInBounds_ne hab, hab]
      have set_getT : ∀ (a b : Nat) (L : Array Bool), a ≠ b → (L.setIfInBounds a true).getD b true = L.getD b true := by
        intro a b L hab
        simp [Array.getElem?_setIfInBounds_ne hab]
      have hj2 : j ∈ Region.ready .any ops (listed.setIfInBounds i true) := mem_ready.2 ⟨by rw [set_getT i j listed (fun e => hji e.symm)]; exact hun, oj, hoj, fun e he hb => by
        rw [set_get i _ listed hil]
        split
        · rfl
        · exact hall e he hb⟩
      have hi2 : i ∈ Region.ready .any ops (listed.setIfInBounds j true) := mem_ready.2 ⟨by rw [set_getT j i listed hji]; exact huni, oi, hoi, fun e he hb => by
        rw [set_get j _ listed hjl]
        split
        · rfl
        · exact halli e he hb⟩
      cases n with
      | zero => rw [hw.1] at hj2; cases hj2
      | succ m =>
        have h2 := hw.2 j hj2
        rw [hoj] at h2 ⊢
        obtain ⟨hgj, hwj⟩ := h2
        obtain ⟨k1, k2⟩ := freeOk_at hfo hoj hji hun (fun e he hp heq => by
          have := hall e he (by rw [binds_any]; exact hp)
          rw [heq, ← getD_tf hil, huni] at this
          cases this)
        have hwj2 : WPop P T oj.op ⟨env, H⟩ (fun v' H' => WPany P T ops m ((listed.setIfInBounds i true).setIfInBounds j true) (St.upd ⟨env.set d v, H⟩ oj.dst v' H') K) :=
          WPop.congr (fun x hx => ev_ne (k1 x hx)) hwj
        refine ⟨hgj, WPop.mono (fun v' H' h => ?_) hwj2⟩
        have hset : (listed.setIfInBounds i true).setIfInBounds j true = (listed.setIfInBounds j true).setIfInBounds i true := by
          exact Array.setIfInBounds_comm _ _ (fun e => hji e.symm)
        rw [hset] at h
        have hfo2 : freeOk ops (listed.setIfInBounds j true) i d o = true := by
          unfold freeOk at hfo ⊢
          rw [List.all_eq_true] at hfo ⊢
          intro q hq
          have := hfo q hq
          by_cases hqj : q = j
          · subst hqj
            have e : (listed.setIfInBounds q true).getD q true = true := by simp [hjl]
            rw [e]; simp
          · rw [set_getT j q listed (fun e => hqj e.symm)]
            exact this
        cases hdj : oj.dst with
        | none =>
          rw [hdj] at h
          exact WPany.free ho hg hd m _ env H' (by simpa using hsz) hfo2 hi2 hf h
        | some dj =>
          rw [hdj] at h
          obtain ⟨q1, q2⟩ := k2 dj hdj
          refine WPany.free ho hg hd m _ (env.set dj v') H' (by simpa using hsz) hfo2 hi2 (fun H => WPop.congr (fun x hx => (ev_ne (q2 x hx)).symm) (hf H)) ?_
          have e : (env.set d v).set dj v' = (env.set dj v').set d v := List.set_comm _ _ (fun e => q1 e.symm)
          show WPany P T ops m _ ⟨(env.set dj v').set d v, H'⟩ K
          rw [← e]
          exact h
theorem AN.free (i : Nat) (v : PV) {l : List Oper} {n : Nat} {listed : Array Bool} {env : List PV} {H : List Ob} {st1 : St} {t : Tok _} (rs : List Nat) (h : Region.ready .any (List.toArray l) listed = rs) (hi : i ∈ rs) (hsz : listed.size = l.length)
    {d : Nat} {op : Op} {ty : TypeId} {pos : String} {af : Array Edge} (ho : l[i]? = some { dst := some d, op := op, type := ty, pos := pos, after := af, guard := none })
    (hfo : freeOk (List.toArray l) listed i d { dst := some d, op := op, type := ty, pos := pos, after := af, guard := none } = true)
    (hf : ∀ H, W1 P T op ⟨env, H⟩ (fun v' H' => v' = v ∧ H' = H) ⟨⟩)
    (k : AN P T l n (listed.setIfInBounds i true) ⟨env.set d v, H⟩ st1 ⟨⟩) : AN P T l (n + 1) listed ⟨env, H⟩ st1 t :=
  WPany.free (o := { dst := some d, op := op, type := ty, pos := pos, after := af, guard := none }) (by rw [List.getElem?_toArray]; exact ho) rfl rfl n listed env H (by rw [hsz]; simp) hfo (by rw [h]; exact hi) hf k
end
end Go.AM

namespace Go.Proofs.YtddnnhlcpffbdaaGreat
open Go.AM Go.Pl
set_option maxRecDepth 100000
set_option maxHeartbeats 4000000

def sclR (k : Int) (x : List Raw) : List Raw := (x.map (fun r => r.q * ((k : Int) : Rat))).map cn
theorem sclR_ok {k : Int} {x : List Raw} (h : LOk 4 x) (hk : k.natAbs < 4294967296) : LOk 5 (sclR k x) :=
  LOk.map h.len (fun r hr => Bd.mul (j := 4) (k := 1) (h.bd (by decide) r hr) (bd_int hk) (by decide))
theorem sclR_co {k : Int} {x : List Raw} (h : x.length = 9) {i : Nat} (hi : i < 9) : co (sclR k x) i = co x i * ((k : Int) : Rat) := by
  unfold sclR co
  rw [List.getD_eq_getElem?_getD, List.getD_eq_getElem?_getD, List.getElem?_eq_getElem (by simp; omega), List.getElem?_eq_getElem (by omega)]
  simp only [Option.getD_some, List.getElem_map, cn_q]
theorem sclR_dim {k : Int} {x : List Raw} (h : x.length = 9) (hd : Dim 2 [x]) : Dim 2 [sclR k x] := fun l hl w hw hw8 => by
  rw [List.mem_singleton] at hl
  subst hl
  rw [sclR_co h (by omega), hd x (by simp) w hw hw8, Rat.zero_mul]
structure Fw (b : List (List Raw)) : Prop where
  ok : ∀ l ∈ b, LOk 5 l
  dim : Dim 2 b
  len : b.length ≤ 4
theorem Fw.ok6 {b : List (List Raw)} (h : Fw b) : ∀ l ∈ b, LOk 6 l := fun l hl => (h.ok l hl).mono (by decide)
theorem Fw.cs {b : List (List Raw)} (h : Fw b) : CsT b := by
  have h9 : ∀ l ∈ b, l.length = 9 := fun l hl => (h.ok l hl).len
  have hn := ncs_le b
  have hl := h.len
  exact ⟨ok_of (d := 2) h.ok6 h.dim (by omega) (by omega), goodT_of (k := 10) h9 (fun l hl _ => nrmR_ok (h.ok l hl) (by decide)) (by decide) (by decide) h.dim (by omega)⟩
theorem Fw.turn {a b : List (List Raw)} (ha : Fw a) (hb : Fw b) : ∀ l ∈ b, ¬ IsConst l → CsOk (a ++ [negR l]) := by
  intro l hl _
  have hn := ncs_le (a ++ [negR l])
  have h1 := ha.len
  rw [List.length_append, List.length_singleton] at hn
  refine ok_of (d := 2) (fun m hm => ?_) (ha.dim.append (Dim.neg (hb.ok l hl).len (Dim.one hb.dim hl))) (by rw [List.length_append, List.length_singleton]; omega) (by omega)
  rcases List.mem_append.1 hm with h | h
  · exact ha.ok6 m h
  · rw [List.mem_singleton] at h; rw [h]; exact negR_ok (hb.ok l hl) (by decide)
theorem Fw.lim {b : List (List Raw)} (h : Fw b) : ∀ l ∈ b, LOk 1000 l := fun l hl => (h.ok l hl).mono (by decide)
theorem canP_cn {cs : List (List Raw)} (h : CsT cs) : (∀ l ∈ canonP cs, IsCn l ∧ LOk 1000 l) ∧ (canonP cs).length ≤ 1000 := by
  unfold canonP
  split
  · have hg := canS_good h.good
    exact ⟨fun l hl => ⟨hg.good.cnf l hl, hg.good.lim l hl⟩, by have := hg.good.len; exact Nat.le_trans (show (canL (sysL cs []).length 0 (sysL cs [])).length ≤ 12 from this) (by decide)⟩
  · refine ⟨fun l hl => ?_, by decide⟩
    rw [List.mem_singleton] at hl
    subst hl
    exact ⟨⟨(List.replicate 9 (0 : Rat)).set 8 ((-1 : Int) : Rat), by simp [numL], by simp⟩, minus_okk.mono (by decide)⟩
end Go.Proofs.YtddnnhlcpffbdaaGreat

namespace Go.Proofs.YtddnnhlcpffbdaaGreat
open Go.AM Go.Pl
set_option maxRecDepth 100000
set_option maxHeartbeats 4000000

section
variable {P : Program} {T : Tab}
theorem AN.one' (i : Nat) {l : List Oper} {n : Nat} {listed : Array Bool} {env : List PV} {H : List Ob} {st1 : St} {t : Tok _} (h : Region.ready .any (List.toArray l) listed = [i]) {d : Option Nat} {op : Op} {ty : TypeId} {pos : String} {af : Array Edge}
    (ho : l[i]? = some { dst := d, op := op, type := ty, pos := pos, after := af, guard := none })
    (k : W1 P T op ⟨env, H⟩ (fun v H => AN P T l n (listed.setIfInBounds i true) ⟨updE env d v, H⟩ st1 ⟨⟩) ⟨⟩) : AN P T l (n + 1) listed ⟨env, H⟩ st1 t :=
  AN.step [i] h (by simp) (fun j hj => by rw [List.mem_singleton] at hj; subst hj; exact ⟨_, ho, rfl, k⟩)
theorem Draw.go' (f : St → St) {l : List Oper} {K : St → Prop} {st : St} {t : Tok _} (h : AN P T l l.length (Array.replicate l.length false) st (f st) ⟨⟩) (k : K (f st)) : Draw P T l st K t := Draw.any (f st) h k
end
theorem pd8 (l : List Int) (hl : l.length < 9223372036854775808) (hw : W64 l) : Den Tryz.prog 8 [] [.fv (.sl (ints l))] [] (.bool true) := by
  have h10 := den10 l hl
  have hw2 := w64_take4 hw 1000
  have hl2 : (l.take 1000).length ≤ 1000 := by rw [List.length_take]; omega
  obtain ⟨xs, hxs⟩ : ∃ t, l.take 1000 = t := ⟨_, rfl⟩
  rw [hxs] at h10 hw2 hl2
  have h18a := pd18 xs 2 4 0 (by decide) (by decide) hl2 (Nat.zero_le _) hw2
  have hla := nN_lt (xs := xs) (a := 0) (n := 5) (by decide)
  simp only [Nat.reduceAdd] at h18a
  have hp1 := consN_le (xs := xs) (n := 2) (k := nN xs 0 5) (b := nx xs 0) (nx_le (Nat.zero_le _))
  have hal := consS_len xs 2 (nN xs 0 5) (nx xs 0)
  have hao := consS_ok xs 2 (nN xs 0 5) (nx xs 0)
  have had := consS_dim xs 2 (nN xs 0 5) (nx xs 0)
  obtain ⟨a, hae⟩ : ∃ t, consS xs 2 (nN xs 0 5) (nx xs 0) = t := ⟨_, rfl⟩
  obtain ⟨p1, hp1e⟩ : ∃ t, consN xs 2 (nN xs 0 5) (nx xs 0) = t := ⟨_, rfl⟩
  rw [hae, hp1e] at h18a
  rw [hae] at hal hao had
  rw [hp1e] at hp1
  have h18b := pd18 xs 2 3 p1 (by decide) (by decide) hl2 hp1 hw2
  have hlb := nN_lt (xs := xs) (a := p1) (n := 4) (by decide)
  simp only [Nat.reduceAdd] at h18b
  have hp2 := consN_le (xs := xs) (n := 2) (k := nN xs p1 4) (b := nx xs p1) (nx_le hp1)
  have hbl := consS_len xs 2 (nN xs p1 4) (nx xs p1)
  have hbo := consS_ok xs 2 (nN xs p1 4) (nx xs p1)
  have hbd := consS_dim xs 2 (nN xs p1 4) (nx xs p1)
  obtain ⟨b, hbe⟩ : ∃ t, consS xs 2 (nN xs p1 4) (nx xs p1) = t := ⟨_, rfl⟩
  obtain ⟨p2, hp2e⟩ : ∃ t, consN xs 2 (nN xs p1 4) (nx xs p1) = t := ⟨_, rfl⟩
  rw [hbe, hp2e] at h18b
  rw [hbe] at hbl hbo hbd
  rw [hp2e] at hp2
  have h19 := denN xs p2 2 hl2 hp2 hw2 (by decide) (by decide)
  have hp3 := nx_le hp2
  obtain ⟨w, hwe⟩ : ∃ t, nN xs p2 2 = t := ⟨_, rfl⟩
  obtain ⟨p3, hp3e⟩ : ∃ t, nx xs p2 = t := ⟨_, rfl⟩
  rw [hwe, hp3e] at h19
  rw [hp3e] at hp3
  have c0 := S_closed xs 0
  have c1 := S_closed xs p1
  have c2 := S_closed xs p2
  have c3 := S_closed xs p3
  have hfa : Fw a := ⟨fun l hl => (hao l hl).mono (by decide), had, by omega⟩
  have hta := hfa.cs
  have h38a := pd38 a hta (by have := hfa.len; omega)
  have h38x := pd38 (canonP a) (canonP_cs hta) (canonP_len hta)
  rw [canonP_idem hta] at h38x
  obtain ⟨xc1, xc2⟩ := canP_cn hta
  have h40x := pd40 (canonP a) (canonP a) xc1 xc1 xc2 xc2
  rw [sameB_self] at h40x
  obtain ⟨xx, hxx⟩ : ∃ t, canonP a = t := ⟨_, rfl⟩
  have h16 := pd16
  have f0 : ((0 : Int) != 0) = false := rfl
  have eff : (false == false) = true := rfl
  rw [hxx] at h38a h38x h40x
  unfold S at h10 h18a h18b h19 c0 c1 c2 c3
  by_cases hw0 : w = 0
  · subst hw0
    have rla := rowsF_length a
    obtain ⟨m, hm⟩ : ∃ t, a.length = t := ⟨_, rfl⟩
    rw [hm] at rla
    have hm4 : m ≤ 4 := by have := hfa.len; omega
    have e1 : (((0 : Nat) : Int) == 0) = true := rfl
    refine den_of tabOk mixed Tryz.func8 (cd := _) rfl (by decide) rfl (n := 105) rfl rfl (m := 0) rfl ?_
    simp (dsimp := false) (disch := omega) only [List.replicate, rules]
    refine GoCall.pure h10 rfl ?_
    simp (dsimp := false) (disch := omega) only [List.append_nil, List.map_cons, List.map_nil, rules]
    refine GoCall.lend 0 h18a rfl rfl c0 rfl rfl rfl ?_
    simp (dsimp := false) (disch := omega) only [sh3, List.append_nil, rules]
    refine GoCall.lend 0 h18b rfl rfl c1 rfl rfl rfl ?_
    simp (dsimp := false) (disch := omega) only [sh3, List.append_nil, rules]
    refine GoCall.lend 0 h19 rfl rfl c2 rfl rfl rfl ?_
    simp (dsimp := false) (disch := omega) only [sh2, List.append_nil, e1, rla, wrap64, rules, tys, eq_self, ↓reduceIte]
    repeat refine And.intro (by omega) ?_
    refine WA.loop (α := Nat × Nat × List (List Raw)) (fun ⟨j, p, out⟩ => ⟨[.any, .any, .bool false, .ptr 0 0 0, .fv (.sl (rowsF a)), .lsl 1 0 out.length 27, .int .i64 ((j : Int) - 1)] ++ List.replicate 99 .any, [S xs p, .row true (rowsF out)]⟩)
      (fun ⟨j, _, _⟩ => j) (fun ⟨j, p, out⟩ => j ≤ m ∧ p ≤ xs.length ∧ out.length + j = m ∧ (∀ l ∈ out, LOk 5 l) ∧ Dim 2 out) (m, p3, []) ?_ ?_ ?_
    · refine Weak.nil 5 27 (by decide) rfl ?_
      refine Weak.keep [0, 1] (by simp) rfl ?_ ?_
      · simp [leVs, leV, le1]
      · simp [leH, leO, le1s, le1, S, rowsF]
    · exact ⟨Nat.le_refl _, hp3, by simp, fun l hl => by simp at hl, fun l hl => by simp at hl⟩
    · rintro ⟨j, p, out⟩ ⟨hj, hp, hol, hok, hdim⟩
      obtain ⟨L, hL⟩ : ∃ L, out.length = L := ⟨_, rfl⟩
      have rlo := rowsF_length out
      rw [hL] at rlo hol
      have tko := take_rows (ls := out) (n := L) (by omega)
      have hcb := S_closed xs p
      dsimp only
      rw [hL]
      unfold S at hcb ⊢
      simp (dsimp := false) (disch := omega) only [List.replicate, rules, tys, eq_self, ↓reduceIte]
      refine Br.dec ?_ ?_
      · intro h1 h2
        obtain ⟨i, rfl⟩ : ∃ i, j = i + 1 := ⟨j - 1, by omega⟩
        have ei : (((i + 1 : Nat) : Int) - 1) = (i : Int) := by omega
        rw [ei] at h2
        have hmem := at_mem (ls := a) (i := i) (by omega)
        have r1 := rowsF_getD a i
        obtain ⟨x, hxe⟩ : ∃ x, a.getD i [] = x := ⟨_, rfl⟩
        rw [hxe] at hmem r1
        have hx := hao x hmem
        have lx := hx.len
        have x27 := flatF_take27 lx
        have fx := flatF_length x
        have gx := flat_length x
        have gx27 := flat_take27 lx
        have h32 := den60 xs p 1 3 3 hl2 hp hw2 (by decide) (by decide) (by decide) (by decide) (by decide)
        have hk3 := nN_lt (xs := xs) (a := p) (n := 3) (by decide)
        have hpn := nx_le hp
        obtain ⟨k, hk⟩ : ∃ k : Int, (1 : Int) + (nN xs p 3 : Int) = k := ⟨_, rfl⟩
        rw [hk] at h32
        have hkb : k.natAbs < 4294967296 := by omega
        obtain ⟨pn, hpne⟩ : ∃ t, nx xs p = t := ⟨_, rfl⟩
        rw [hpne] at h32 hpn
        have h24 := den24 k (by omega)
        have h41 := den46 x (cn ((k : Int) : Rat)) (hx.mono (by decide)) ((cn_ok (bd_int hkb)).mono (by decide))
        rw [cn_q] at h41
        change Den Tryz.prog 41 [] [RL x, FR ((k : Int) : Rat)] [] (RL (sclR k x)) at h41
        rw [FR_eq] at h24 h41
        have hyk := sclR_ok hx hkb
        have hyd := sclR_dim (k := k) lx (Dim.one had hmem)
        obtain ⟨y, hy⟩ : ∃ y, sclR k x = y := ⟨_, rfl⟩
        rw [hy] at h41 hyk hyd
        have hyl := hyk.len
        have gy := flat_length y
        have y27 := flatF_take27 hyl
        have gy27 := flat_take27 hyl
        have hrs := rows_snoc out y
        unfold S at h32
        unfold RL at h41
        simp (dsimp := false) (disch := omega) only [ei, h2, rules]
        refine Draw.go' (fun s => ⟨(s.env.take 33 ++ ([.lsl 1 0 L 27, .fv (.sl (rowsF a)), .int .i64 (i : Int), .fv (.fp (flatF x)), .agg (flat x), .ptr 0 0 0, .int .i64 k, .agg [.bool (decide (((k : Int) : Rat).num < 0)), .fv (N ((k : Int) : Rat).num.natAbs), .fv (N ((k : Int) : Rat).den)], .agg (flat y), .lsl 2 0 1 27, .lsl 3 0 (L + 1) 27] : List PV) ++ s.env.drop 44).set 5 (.lsl 3 0 (L + 1) 27), [.box true [.fv (.sl (ints xs)), .int .i64 (pn : Int), .int .i64 0], .dead, .row true [flatF y], .row true (rowsF (out ++ [y]))]⟩) ?_ ?_
        · refine AN.free 0 (.lsl 1 0 L 27) [0, 1, 2, 5] (by kernel_rfl) (by simp) rfl rfl (by kernel_rfl) ?_ ?_
          · intro H
            simp (dsimp := false) (disch := omega) only [rules, eq_self]
          refine AN.free 1 (.fv (.sl (rowsF a))) [1, 2, 5] (by kernel_rfl) (by simp) rfl rfl (by kernel_rfl) ?_ ?_
          · intro H
            simp (dsimp := false) (disch := omega) only [rules, eq_self]
          refine AN.free 2 (.int .i64 (i : Int)) [2, 5] (by kernel_rfl) (by simp) rfl rfl (by kernel_rfl) ?_ ?_
          · intro H
            simp (dsimp := false) (disch := omega) only [rules, eq_self]
          refine AN.free 3 (.fv (.fp (flatF x))) [3, 5] (by kernel_rfl) (by simp) rfl rfl (by kernel_rfl) ?_ ?_
          · intro H
            simp (dsimp := false) (disch := omega) only [r1, fx, lx, rla, rules, tys, eq_self, Nat.reduceMul, Nat.reduceLT]
            exact ⟨by omega, by omega⟩
          refine AN.free 4 (.agg (flat x)) [4, 5] (by kernel_rfl) (by simp) rfl rfl (by kernel_rfl) ?_ ?_
          · intro H
            simp (dsimp := false) (disch := omega) only [x27, flatF_fv, fx, lx, rules, tys, eq_self, ↓reduceIte, Nat.reduceMul, Nat.reduceLeDiff]
          refine AN.free 5 (.ptr 0 0 0) [5] (by kernel_rfl) (by simp) rfl rfl (by kernel_rfl) ?_ ?_
          · intro H
            simp (dsimp := false) (disch := omega) only [rules, eq_self]
          refine AN.one' 6 (by kernel_rfl) rfl ?_
          simp (dsimp := false) (disch := omega) only [rules]
          refine GoCall.lend 0 h32 rfl rfl hcb rfl rfl rfl ?_
          simp (dsimp := false) (disch := omega) only [List.append_nil, sh3, rules, Nat.reduceAdd]
          refine AN.one' 7 (by kernel_rfl) rfl ?_
          simp (dsimp := false) (disch := omega) only [rules]
          refine GoCall.pure h24 rfl ?_
          simp (dsimp := false) (disch := omega) only [List.append_nil, rules, Nat.reduceAdd]
          refine AN.one' 8 (by kernel_rfl) rfl ?_
          simp (dsimp := false) (disch := omega) only [rules]
          refine GoCall.pure h41 (by simp [fzAs, fzA, flat_fz, flatF_fv, fzs, fz0]) ?_
          simp (dsimp := false) (disch := omega) only [flat_ids, flat_reloc, List.append_nil, rules, Nat.reduceAdd]
          refine AN.one' 9 (by kernel_rfl) rfl ?_
          simp (dsimp := false) (disch := omega) only [flat_ids, flat_fz, List.append_nil, gy, hyl, y27, rules, tys, eq_self, ↓reduceIte, Nat.reduceAdd, Nat.reduceMul, Nat.reduceLT, Nat.reduceLeDiff]
          refine AN.one' 10 (by kernel_rfl) rfl ?_
          simp (dsimp := false) (disch := omega) only [tko, hrs, rlo, rules, tys, eq_self, ↓reduceIte, Nat.reduceAdd, Nat.reduceBEq, Nat.reduceLT, Nat.reduceLeDiff]
          repeat refine And.intro (by omega) ?_
          refine AN.one' 11 (by kernel_rfl) rfl ?_
          simp (dsimp := false) (disch := omega) only [rules]
          exact AN.nil (by kernel_rfl) rfl
        · simp (dsimp := false) (disch := omega) only [wrap64, rules, tys, eq_self, ↓reduceIte]
          repeat refine And.intro (by omega) ?_
          refine Ap_loop (i, pn, out ++ [y]) (by dsimp only; omega) ?_ ⟨by omega, hpn, by rw [List.length_append, hL]; simp; omega, fun z hz => ?_, hdim.append hyd⟩
          · refine Weak.keep [0, 3] (by simp) rfl ?_ ?_
            · simp [leVs, leV, le1]
              try omega
            · simp [leH, leO, le1s, le1]
          · rcases List.mem_append.1 hz with h | h
            · exact hok z h
            · rw [List.mem_singleton] at h; rw [h]; exact hyk
      · intro h1 h2
        have hj0 : j = 0 := by omega
        subst hj0
        have hfb : Fw out := ⟨hok, hdim, by omega⟩
        have htb := hfb.cs
        have h38b := pd38 out htb (by have := hfb.len; omega)
        have h36a := pd36 a out hta.cs (by have := hfa.len; omega) (by have := hfb.len; omega) hfb.lim (hfa.turn hfb)
        have h36b := pd36 out a htb.cs (by have := hfb.len; omega) (by have := hfa.len; omega) hfa.lim (hfb.turn hfa)
        obtain ⟨yc1, yc2⟩ := canP_cn htb
        have h40y := pd40 (canonP a) (canonP out) xc1 yc1 xc2 yc2
        have es : sameB (canonP a) (canonP out) = (withinB a out && withinB out a) := by rw [Bool.eq_iff_iff, sameB_iff, within_both hta htb]
        obtain ⟨yy, hyy⟩ : ∃ t, canonP out = t := ⟨_, rfl⟩
        rw [hyy] at h38b h40y es
        rw [hxx] at h40y es
        obtain ⟨p, hpp⟩ : ∃ t, withinB a out = t := ⟨_, rfl⟩
        obtain ⟨q, hqq⟩ : ∃ t, withinB out a = t := ⟨_, rfl⟩
        rw [hpp] at h36a es
        rw [hqq] at h36b es
        obtain ⟨sm, hsm⟩ : ∃ t, sameB xx yy = t := ⟨_, rfl⟩
        rw [hsm] at h40y es
        simp (dsimp := false) (disch := omega) only [h2, rules, Nat.reduceBEq]
        refine GoCall.pure h38a rfl ?_
        simp (dsimp := false) (disch := omega) only [List.append_nil, rules, Nat.reduceAdd]
        refine GoCall.pure h38b (by simp [fzAs, fzA, fz1, fz0, rlo, tko]) ?_
        simp (dsimp := false) (disch := omega) only [List.append_nil, rules, Nat.reduceAdd]
        refine GoCall.pure h38x rfl ?_
        simp (dsimp := false) (disch := omega) only [List.append_nil, rules, Nat.reduceAdd]
        refine GoCall.pure h36a (by simp [fzAs, fzA, fz1, fz0, rlo, tko]) ?_
        simp (dsimp := false) (disch := omega) only [List.append_nil, rules, Nat.reduceAdd]
        refine GoCall.pure h36b (by simp [fzAs, fzA, fz1, fz0, rlo, tko]) ?_
        simp (dsimp := false) (disch := omega) only [List.append_nil, f0, rules, tys, eq_self, ↓reduceIte, Nat.reduceAdd]
        refine GoCall.pure h40x rfl ?_
        simp (dsimp := false) (disch := omega) only [List.append_nil, Bool.not_true, rules, ↓reduceIte, Nat.reduceAdd]
        refine GoCall.pure h40y rfl ?_
        cases p with
        | false =>
          have es2 : sm = false := by rw [es]; rfl
          subst es2
          simp (dsimp := false) (disch := omega) only [List.append_nil, eff, rules, tys, ↓reduceIte, reduceCtorEq, Nat.reduceAdd]
          refine GoCall.pure h16 rfl ?_
          simp (dsimp := false) (disch := omega) only [List.append_nil, Ap_end_ret, rules, eq_self, ↓reduceIte, Nat.reduceAdd]
          exact RetOK.pure rfl ⟨trivial, trivial⟩ rfl
        | true =>
          have es2 : sm = q := by rw [es]; rfl
          have eqq : (q == q) = true := by simp
          subst es2
          simp (dsimp := false) (disch := omega) only [List.append_nil, eqq, rules, tys, eq_self, ↓reduceIte, reduceCtorEq, Nat.reduceAdd]
          refine GoCall.pure h16 rfl ?_
          simp (dsimp := false) (disch := omega) only [List.append_nil, Ap_end_ret, rules, eq_self, ↓reduceIte, Nat.reduceAdd]
          exact RetOK.pure rfl ⟨trivial, trivial⟩ rfl
  · have e1 : ((w : Int) == 0) = false := by rw [beq_eq_false_iff_ne]; omega
    have hfb : Fw b := ⟨fun l hl => (hbo l hl).mono (by decide), hbd, by omega⟩
    have htb := hfb.cs
    have h38b := pd38 b htb (by have := hfb.len; omega)
    have h36a := pd36 a b hta.cs (by have := hfa.len; omega) (by have := hfb.len; omega) hfb.lim (hfa.turn hfb)
    have h36b := pd36 b a htb.cs (by have := hfb.len; omega) (by have := hfa.len; omega) hfa.lim (hfb.turn hfa)
    obtain ⟨yc1, yc2⟩ := canP_cn htb
    have h40y := pd40 (canonP a) (canonP b) xc1 yc1 xc2 yc2
    have es : sameB (canonP a) (canonP b) = (withinB a b && withinB b a) := by rw [Bool.eq_iff_iff, sameB_iff, within_both hta htb]
    obtain ⟨yy, hyy⟩ : ∃ t, canonP b = t := ⟨_, rfl⟩
    rw [hyy] at h38b h40y es
    rw [hxx] at h40y es
    obtain ⟨p, hpp⟩ : ∃ t, withinB a b = t := ⟨_, rfl⟩
    obtain ⟨q, hqq⟩ : ∃ t, withinB b a = t := ⟨_, rfl⟩
    rw [hpp] at h36a es
    rw [hqq] at h36b es
    obtain ⟨sm, hsm⟩ : ∃ t, sameB xx yy = t := ⟨_, rfl⟩
    rw [hsm] at h40y es
    refine den_of tabOk mixed Tryz.func8 (cd := _) rfl (by decide) rfl (n := 105) rfl rfl (m := 0) rfl ?_
    simp (dsimp := false) (disch := omega) only [List.replicate, rules]
    refine GoCall.pure h10 rfl ?_
    simp (dsimp := false) (disch := omega) only [List.append_nil, List.map_cons, List.map_nil, rules]
    refine GoCall.lend 0 h18a rfl rfl c0 rfl rfl rfl ?_
    simp (dsimp := false) (disch := omega) only [sh3, List.append_nil, rules]
    refine GoCall.lend 0 h18b rfl rfl c1 rfl rfl rfl ?_
    simp (dsimp := false) (disch := omega) only [sh3, List.append_nil, rules]
    refine GoCall.lend 0 h19 rfl rfl c2 rfl rfl rfl ?_
    simp (dsimp := false) (disch := omega) only [sh2, List.append_nil, e1, rules, tys, eq_self, ↓reduceIte]
    refine GoCall.pure h38a rfl ?_
    simp (dsimp := false) (disch := omega) only [List.append_nil, rules]
    refine GoCall.pure h38b (by simp [fzAs, fzA, fz1, fz0]) ?_
    simp (dsimp := false) (disch := omega) only [List.append_nil, rules]
    refine GoCall.pure h38x rfl ?_
    simp (dsimp := false) (disch := omega) only [List.append_nil, rules]
    refine GoCall.pure h36a (by simp [fzAs, fzA, fz1, fz0]) ?_
    simp (dsimp := false) (disch := omega) only [List.append_nil, rules]
    refine GoCall.pure h36b (by simp [fzAs, fzA, fz1, fz0]) ?_
    simp (dsimp := false) (disch := omega) only [List.append_nil, f0, rules, tys, eq_self, ↓reduceIte]
    refine GoCall.pure h40x rfl ?_
    simp (dsimp := false) (disch := omega) only [List.append_nil, Bool.not_true, rules, ↓reduceIte]
    refine GoCall.pure h40y rfl ?_
    cases p with
    | false =>
      have es2 : sm = false := by rw [es]; rfl
      subst es2
      simp (dsimp := false) (disch := omega) only [List.append_nil, eff, rules, tys, ↓reduceIte, reduceCtorEq]
      refine GoCall.pure h16 rfl ?_
      simp (dsimp := false) (disch := omega) only [List.append_nil, Ap_end_ret, rules, eq_self, ↓reduceIte]
      exact RetOK.pure rfl ⟨trivial, trivial⟩ rfl
    | true =>
      have es2 : sm = q := by rw [es]; rfl
      have eqq : (q == q) = true := by simp
      subst es2
      simp (dsimp := false) (disch := omega) only [List.append_nil, eqq, rules, tys, eq_self, ↓reduceIte, reduceCtorEq]
      refine GoCall.pure h16 rfl ?_
      simp (dsimp := false) (disch := omega) only [List.append_nil, Ap_end_ret, rules, eq_self, ↓reduceIte]
      exact RetOK.pure rfl ⟨trivial, trivial⟩ rfl
end Go.Proofs.YtddnnhlcpffbdaaGreat
