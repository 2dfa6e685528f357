/- Contracts: regions: Within. -/
import Derived.Test.YtddnnhlcpffbdaaGreatT13
import Derived.Test.YtddnnhlcpffbdaaGreatT11

namespace Go.Proofs.YtddnnhlcpffbdaaGreat
open Go.AM Go.Pl
set_option maxRecDepth 100000
set_option maxHeartbeats 4000000

theorem pd36 (a b : List (List Raw)) (ha : CsOk a) (hla : a.length ≤ 40) (hlb : b.length ≤ 40) (hb : ∀ l ∈ b, LOk 1000 l) (hT : ∀ l ∈ b, ¬ IsConst l → CsW (a ++ [negR l])) :
    Den Tryz.prog 36 [] [.fv (.sl (rowsF a)), .fv (.sl (rowsF b))] [] (.tup [.bool (withinB a b), .int .i64 0]) := by
  obtain ⟨R, hR⟩ : ∃ R, withinB a b = R := ⟨_, rfl⟩
  rw [hR]
  unfold withinB at hR
  have rla := rowsF_length a
  have rlb := rowsF_length b
  have e1 : decide ((a.length : Int) > 40) = false := decide_eq_false (by omega)
  have e2 : decide ((b.length : Int) > 40) = false := decide_eq_false (by omega)
  have h60a := pd60 a ha
  cases hia : innerB a with
  | false =>
    rw [hia] at hR h60a
    have hR2 : R = true := by rw [← hR]; rfl
    subst hR2
    refine den_of tabOk mixed Tryz.func36 (cd := _) rfl (by decide) rfl (n := 40) rfl rfl (m := 0) rfl ?_
    simp (dsimp := false) (disch := omega) only [List.replicate, rla, rlb, e1, e2, rules, tys, eq_self, ↓reduceIte]
    refine GoCall.pure h60a rfl ?_
    simp (dsimp := false) (disch := omega) only [Bool.not_false, Ap_end_ret, rules]
    exact RetOK.pure rfl ⟨trivial, trivial, trivial⟩ rfl
  | true =>
    rw [hia, Bool.not_true, Bool.false_or] at hR
    rw [hia] at h60a
    have hm1 := den47 (-1) (by decide)
    change Den Tryz.prog 77 [] [.int .i64 (-1)] [] (cn ((-1 : Int) : Rat)).v at hm1
    have hcm : ∀ b : List Raw, LOk 1000 b → Den Tryz.prog 79 [] [RL b, (cn ((-1 : Int) : Rat)).v] [] (RL (negR b)) := fun b hb => by
      have := den23 b (cn ((-1 : Int) : Rat)) (hb.mono (by decide)) (cn_ok (Bd.mono (show Bd 1 ((-1 : Int) : Rat) from ⟨by decide, by decide⟩) (by decide)))
      rw [cn_q] at this
      exact this
    obtain ⟨c, hc⟩ : ∃ c, cn ((-1 : Int) : Rat) = c := ⟨_, rfl⟩
    rw [hc] at hm1 hcm
    unfold Raw.v at hm1 hcm
    have h78 := pd78 a ha.len9 (by omega)
    obtain ⟨na, hna⟩ : ∃ n, a.length = n := ⟨_, rfl⟩
    obtain ⟨n, hnn⟩ : ∃ n, b.length = n := ⟨_, rfl⟩
    rw [hna] at h78
    have tka := take_rows (ls := a) (n := na) (by omega)
    refine den_of tabOk mixed Tryz.func36 (cd := _) rfl (by decide) rfl (n := 40) rfl rfl (m := 0) rfl ?_
    simp (dsimp := false) (disch := omega) only [List.replicate, rla, rlb, e1, e2, rules, tys, eq_self, ↓reduceIte]
    refine GoCall.pure h60a rfl ?_
    simp (dsimp := false) (disch := omega) only [Bool.not_true, rules]
    refine GoCall.pure hm1 rfl ?_
    simp (dsimp := false) (disch := omega) only [rlb, hnn, rules, tys, eq_self, Nat.reduceAdd, Nat.reduceLT, Nat.reduceLeDiff]
    repeat refine And.intro (by omega) ?_
    rw [hna] at rla
    rw [hnn] at rlb
    refine WA.loop (α := Nat) (fun i => ⟨[.fv (.sl (rowsF a)), .any, .any, .any, .bool false, .int .i64 0, .ptr 0 0 0, .any, .any, .any, .any, .any, .any, .any, .any, .any, .any, .any, .any, .any, .any, .fv (.sl (rowsF b)), .int .i64 n, .int .i64 i] ++ List.replicate 18 .any, [.box true [.bool c.neg, .fv (.sl (u32s c.num)), .fv (.sl (u32s c.den))]]⟩)
      (fun i => n - i) (fun i => i ≤ n ∧ (b.take i).all (inWith a) = true) 0 ?_ ?_ ?_
    · refine Weak.keep [0] (by simp) rfl ?_ ?_
      · simp [leVs, leV, le1]
      · simp [leH, leO, le1s, le1]
    · exact ⟨Nat.zero_le _, rfl⟩
    · rintro i ⟨hi, hall⟩
      simp (dsimp := false) (disch := omega) only [List.replicate, rules, tys, eq_self, ↓reduceIte]
      refine Br.dec ?_ ?_
      · intro h1 h2
        have hsn := take_snoc (cs := b) (i := i) (by omega)
        have hmem := at_mem (ls := b) (i := i) (by omega)
        have r1 := rowsF_getD b i
        obtain ⟨x, hxx⟩ : ∃ x, b.getD i [] = x := ⟨_, rfl⟩
        rw [hxx] at hmem r1 hsn
        have hx := hb x hmem
        have lx := hx.len
        have x27 := flatF_take27 lx
        have fx := flatF_length x
        have gx := flat_length x
        have gx27 := flat_take27 lx
        have hcd := den25 x (hx.mono (by decide))
        have hfc := flat_const' lx
        have hnx : (b.take (i + 1)).all (inWith a) = inWith a x := by rw [hsn, List.all_append, hall]; simp
        have hout : inWith a x = false → R = false := fun h => by
          rw [← hR]
          rw [List.all_eq_false]
          exact ⟨x, hmem, by rw [h]; simp⟩
        unfold inWith at hnx hout
        obtain ⟨cb, hcb⟩ : ∃ b, constB x = b := ⟨_, rfl⟩
        rw [hcb] at hcd hnx hout
        unfold RL at hcd
        simp (dsimp := false) (disch := omega) only [List.append_nil, h2, r1, x27, flatF_fv, fx, gx, lx, gx27, rlb, rules, tys, eq_self, ↓reduceIte, Nat.reduceAdd, Nat.reduceMul, Nat.reduceLT, Nat.reduceLeDiff]
        repeat refine And.intro (by omega) ?_
        refine GoCall.pure hcd (by simp [fzAs, fzA, flat_fz, flatF_fv]) ?_
        cases cb with
        | true =>
          rw [if_pos rfl] at hnx hout
          have h36 := den36 (x.getD 8 rz) ((hx.at 8).mono (by decide))
          have hco : co x 8 = (x.getD 8 rz).q := rfl
          obtain ⟨r, hr⟩ : ∃ r, x.getD 8 rz = r := ⟨_, rfl⟩
          rw [hr] at h36 hfc hco
          unfold Raw.v at h36
          simp (dsimp := false) (disch := omega) only [flat_ids, List.append_nil, hfc, gx, lx, rules, tys, eq_self, ↓reduceIte, Nat.reduceAdd, Nat.reduceMul, Nat.reduceLeDiff]
          repeat refine And.intro (by omega) ?_
          refine GoCall.pure h36 rfl ?_
          simp (dsimp := false) (disch := omega) only [List.append_nil, rules, tys, eq_self, ↓reduceIte, Nat.reduceAdd]
          refine Br.dec ?_ ?_
          · intro h3 h4
            have hR2 := hout (by rw [hco, decide_eq_true (sgq_neg_iff.1 h3)]; rfl)
            subst hR2
            simp (dsimp := false) (disch := omega) only [h4, Ap_end_ret, rules]
            exact RetOK.pure rfl ⟨trivial, trivial, trivial⟩ rfl
          · intro h3 h4
            rw [hco, decide_eq_false (fun h => h3 (sgq_neg_iff.2 h))] at hnx
            simp (dsimp := false) (disch := omega) only [h4, wrap64, rules, tys, eq_self, ↓reduceIte, Nat.reduceBEq]
            refine Ap_loop (i + 1) (by omega) ?_ ⟨by omega, hnx⟩
            refine Weak.keep [0] (by simp) rfl ?_ ?_
            · simp [leVs, leV, le1]
              try omega
            · simp [leH, leO, le1s, le1]
        | false =>
          rw [if_neg (by simp)] at hnx hout
          have hnc : ¬ IsConst x := fun h => by rw [(constB_iff lx).2 h] at hcb; cases hcb
          have h60 := pd60w _ (hT x hmem hnc)
          obtain ⟨ib, hib⟩ : ∃ t, innerB (a ++ [negR x]) = t := ⟨_, rfl⟩
          rw [hib] at h60 hnx hout
          have h79 := hcm x hx
          have hnl := negR_len lx
          have hap := rows_snoc a (negR x)
          have hlen1 : (a ++ [negR x]).length = na + 1 := by rw [List.length_append, hna]; rfl
          obtain ⟨y, hy⟩ : ∃ y, negR x = y := ⟨_, rfl⟩
          rw [hy] at h60 h79 hnl hap hlen1
          have gy := flat_length y
          have y27 := flatF_take27 hnl
          have gy27 := flat_take27 hnl
          have rll := rowsF_length (a ++ [y])
          rw [hlen1] at rll
          unfold RL at h79
          simp (dsimp := false) (disch := omega) only [flat_ids, List.append_nil, rules, Nat.reduceAdd]
          refine Draw.intro (by kernel_rfl) ?_
          simp (dsimp := false) (disch := omega) only [rules]
          refine GoCall.pure h78 rfl ?_
          simp (dsimp := false) (disch := omega) only [List.append_nil, gx, lx, gx27, rules, tys, eq_self, ↓reduceIte, Nat.reduceAdd, Nat.reduceMul, Nat.reduceLeDiff]
          repeat refine And.intro (by omega) ?_
          refine GoCall.pure h79 (by simp [fzAs, fzA, flat_fz, flatF_fv, fzs, fz0]) ?_
          simp (dsimp := false) (disch := omega) only [flat_ids, flat_reloc, flat_fz, List.append_nil, gy, hnl, y27, rla, tka, hap, rules, tys, eq_self, ↓reduceIte, Nat.reduceAdd, Nat.reduceMul, Nat.reduceBEq, Nat.reduceLT, Nat.reduceLeDiff]
          repeat refine And.intro (by omega) ?_
          refine GoCall.show h60 (Plain.lit _) (by omega) rfl ?_
          cases ib with
          | true =>
            have hR2 := hout rfl
            subst hR2
            simp (dsimp := false) (disch := omega) only [Ap_end_ret, rules, Nat.reduceAdd]
            exact RetOK.pure rfl ⟨trivial, trivial, trivial⟩ rfl
          | false =>
            simp (dsimp := false) (disch := omega) only [wrap64, rules, tys, eq_self, ↓reduceIte, Nat.reduceAdd]
            refine Ap_loop (i + 1) (by omega) ?_ ⟨by omega, hnx⟩
            refine Weak.keep [0] (by simp) rfl ?_ ?_
            · simp [leVs, leV, le1]
              try omega
            · simp [leH, leO, le1s, le1]
      · intro h1 h2
        have htk : b.take i = b := List.take_of_length_le (by omega)
        rw [htk] at hall
        rw [hall] at hR
        subst hR
        simp (dsimp := false) (disch := omega) only [h2, Ap_end_ret, rules, Nat.reduceBEq]
        exact RetOK.pure rfl ⟨trivial, trivial, trivial⟩ rfl
end Go.Proofs.YtddnnhlcpffbdaaGreat

namespace Go.Proofs.YtddnnhlcpffbdaaGreat
open Go.AM Go.Pl
set_option maxRecDepth 100000
set_option maxHeartbeats 4000000

end Go.Proofs.YtddnnhlcpffbdaaGreat

namespace Go.Pl
open Go.AM

theorem sys_turn {a : List (List Raw)} {y : List Raw} (hg : GoodR (sysL a [])) : sysL (sysL a [] ++ [y]) [] = sysL (a ++ [y]) [] := by
  rw [sysL_snoc, sysL_snoc, hg.self]
theorem strict_turn {a : List (List Raw)} {x : List Raw} (h9 : ∀ l ∈ a, l.length = 9) (h9x : x.length = 9) (hnc : ¬ IsConst x) (hg : GoodR (sysL a [])) (hi : innerB a = true) : feasB (sysL (sysL a [] ++ [negR x]) []) = innerB (a ++ [negR x]) := by
  have hn9 := negR_len h9x
  have hnn := neg_nc h9x hnc
  have h9t : ∀ l ∈ sysL a [] ++ [negR x], l.length = 9 := fun l hl => by
    rcases List.mem_append.1 hl with h | h
    · exact hg.len9 l h
    · rw [List.mem_singleton] at h; rw [h]; exact hn9
  have hnct : ∀ l ∈ sysL a [] ++ [negR x], ¬ IsConst l := fun l hl => by
    rcases List.mem_append.1 hl with h | h
    · exact hg.nc l h
    · rw [List.mem_singleton] at h; rw [h]; exact hnn
  have h9a : ∀ l ∈ a ++ [negR x], l.length = 9 := fun l hl => by
    rcases List.mem_append.1 hl with h | h
    · exact h9 l h
    · rw [List.mem_singleton] at h; rw [h]; exact hn9
  have pa := inner_pos h9 hi
  rw [Bool.eq_iff_iff, feas_sys h9t hnct, innerB_iff h9a]
  constructor
  · rintro ⟨z, hz⟩
    refine ⟨z, fun m hm => ?_⟩
    rcases List.mem_append.1 hm with h | h
    · exact (pa z).2 (fun l hl => hz l (List.mem_append_left _ hl)) m h
    · exact .inl (hz m (List.mem_append_right _ h))
  · rintro ⟨z, hz⟩
    refine ⟨z, fun m hm => ?_⟩
    rcases List.mem_append.1 hm with h | h
    · exact (pa z).1 (fun l hl => hz l (List.mem_append_left _ hl)) m h
    · rcases hz m (List.mem_append_right _ h) with h1 | h1
      · exact h1
      · rw [List.mem_singleton] at h
        rw [h] at h1
        exact absurd h1.1 hnn
theorem preR_turn {a : List (List Raw)} {x : List Raw} (hg : GoodR (sysL a [])) (hx : LOk 999 x) (hnc : ¬ IsConst x) (hw : CsW (a ++ [negR x])) : PreR (sysL a [] ++ [negR x]) := by
  refine ⟨fun l hl => ?_, fun l hl => ?_, fun l hl => ?_, ?_, ?_⟩
  · rcases List.mem_append.1 hl with h | h
    · exact hg.cnf l h
    · rw [List.mem_singleton] at h; rw [h]; exact negR_cn x hx.len
  · rcases List.mem_append.1 hl with h | h
    · exact hg.nc l h
    · rw [List.mem_singleton] at h; rw [h]; exact neg_nc hx.len hnc
  · rcases List.mem_append.1 hl with h | h
    · exact hg.lim l h
    · rw [List.mem_singleton] at h; rw [h]; exact negR_ok hx (by decide)
  · have := hg.len
    rw [List.length_append, List.length_singleton]; omega
  · rw [sys_turn hg]; exact hw.good.r
theorem pairwise_irr {s : List (List Raw)} (h : s.Pairwise (fun a b => cmpR a b < 0)) {i j : Nat} (hi : i < s.length) (hj : j < s.length) (hij : i ≠ j) : s[i] ≠ s[j] := by
  intro he
  rcases Nat.lt_or_gt_of_ne hij with h1 | h1
  · have := List.pairwise_iff_getElem.1 h i j hi hj h1
    rw [he, cmpR_self] at this
    omega
  · have := List.pairwise_iff_getElem.1 h j i hj hi h1
    rw [he, cmpR_self] at this
    omega
theorem cost_one {s : List (List Raw)} {u : Nat} {f : List Raw} (hs : s.Pairwise (fun a b => cmpR a b < 0)) (ho : occ s u = true) (h : ∀ l ∈ s, co l u ≠ 0 → l = f) : cost s u < 0 := by
  have key : ∀ p : List Raw → Bool, (∀ l ∈ s, p l = true → co l u ≠ 0) → (s.filter p).length ≤ 1 := by
    intro p hp
    refine filter_le_one (fun i j hi hj hij hh => ?_)
    have h1 := h _ (List.getElem_mem hi) (hp _ (List.getElem_mem hi) hh.1)
    have h2 := h _ (List.getElem_mem hj) (hp _ (List.getElem_mem hj) hh.2)
    exact pairwise_irr hs hi hj hij (h1.trans h2.symm)
  have hlo : (lowL s u).length ≤ 1 := by
    unfold lowL
    rw [List.length_map]
    exact key _ (fun l _ hl => by have := of_decide_eq_true hl; grind)
  have hhi : (highL s u).length ≤ 1 := by
    unfold highL
    rw [List.length_map]
    exact key _ (fun l _ hl => by have := of_decide_eq_true hl; grind)
  have hsum : 1 ≤ (lowL s u).length + (highL s u).length := by
    obtain ⟨l, hl, h0⟩ := occ_iff.1 ho
    by_cases hp : 0 < co l u
    · have : solR u l ∈ lowL s u := mem_low.2 ⟨l, hl, hp, rfl⟩
      have := List.length_pos_of_mem this
      omega
    · have : solR u l ∈ highL s u := mem_high.2 ⟨l, hl, by grind, rfl⟩
      have := List.length_pos_of_mem this
      omega
  have hnb : ¬ ((lowL s u).length = 1 ∧ (highL s u).length = 1) := by
    rintro ⟨h1, h2⟩
    obtain ⟨b, hb⟩ := List.exists_mem_of_length_pos (show 0 < (lowL s u).length by omega)
    obtain ⟨b2, hb2⟩ := List.exists_mem_of_length_pos (show 0 < (highL s u).length by omega)
    obtain ⟨l, hl, hp, _⟩ := mem_low.1 hb
    obtain ⟨m, hm, hn, _⟩ := mem_high.1 hb2
    have e1 := h l hl (by grind)
    have e2 := h m hm (by grind)
    rw [e1] at hp
    rw [e2] at hn
    grind
  unfold cost
  have : ((lowL s u).length = 1 ∧ (highL s u).length = 0) ∨ ((lowL s u).length = 0 ∧ (highL s u).length = 1) := by omega
  rcases this with ⟨h1, h2⟩ | ⟨h1, h2⟩ <;> rw [h1, h2] <;> decide
theorem Dim.up {d e : Nat} {cs : List (List Raw)} (h : Dim d cs) (hd : d ≤ e) : Dim e cs := fun l hl w hw hw8 => h l hl w (by omega) hw8
theorem turn_w {c : List (List Raw)} {x : List Raw} (hok : ∀ l ∈ c, LOk 4 l) (hlen : c.length ≤ 41) (hd : (Dim 3 c ∧ (ncs c).length ≤ 4) ∨ (Dim 2 c ∧ (ncs c).length ≤ 6)) (hx : LOk 4 x) (hdx : Dim 3 [x]) (hnc : ¬ IsConst x) : CsW (c ++ [negR x]) := by
  have h9x := hx.len
  have hnn := neg_nc h9x hnc
  have hok5 : ∀ l ∈ c ++ [negR x], LOk 5 l := fun l hl => by
    rcases List.mem_append.1 hl with h | h
    · exact (hok l h).mono (by decide)
    · rw [List.mem_singleton] at h; rw [h]; exact negR_ok hx (by decide)
  have h9 : ∀ l ∈ c ++ [negR x], l.length = 9 := fun l hl => (hok5 l hl).len
  have hncs : (ncs (c ++ [negR x])).length ≤ (ncs c).length + 1 := by
    unfold ncs
    rw [List.filter_append, List.length_append]
    have := List.length_filter_le (fun l => !constB l) [negR x]
    rw [List.length_singleton] at this
    omega
  have hdn : Dim 3 [negR x] := Dim.neg h9x hdx
  have hd3 : Dim 3 (c ++ [negR x]) := by
    rcases hd with ⟨h, _⟩ | ⟨h, _⟩
    · exact h.append hdn
    · exact (h.up (by decide)).append hdn
  have his := sysL_is h9
  have h1 := sys_nvars h9 his
  have h2 := nvars_dim hd3
  have h3 := sys_length h9 his
  have hs : SysF 10 (sysL (c ++ [negR x]) []) := SysF.of h9 his (fun l hl _ => nrmR_ok (hok5 l hl) (by decide))
  refine ⟨fun l hl => (hok5 l hl).mono (by decide), by rw [List.length_append, List.length_singleton]; omega, by omega, ⟨10, by decide, hs, ⟨by omega, fun _ => by omega, fun _ => by omega, fun _ => by omega⟩, fun h3v => ?_⟩, fun l hl _ => (hok5 l hl).mono (by decide)⟩
  rcases hd with ⟨hd, hn⟩ | ⟨hd, hn⟩
  · exact .inl (by omega)
  · have hocc : occ (sysL (c ++ [negR x]) []) 2 = true := by
      cases ho : occ (sysL (c ++ [negR x]) []) 2 with
      | true => rfl
      | false =>
        exfalso
        have hdim2 : Dim 2 (sysL (c ++ [negR x]) []) := fun l hl w hw hw8 => by
          by_cases hw2 : w = 2
          · rw [hw2]; exact occ_false ho l hl
          · obtain ⟨m, hm, hmc, rfl⟩ := (his.mem l).1 hl
            exact (nrmR_co (h9 m hm) hmc (by omega)).2 (hd3 m hm w (by omega) hw8)
        have := nvars_dim hdim2
        omega
    refine .inr ⟨2, by decide, hocc, cost_one hs.sorted hocc (f := nrmR (negR x)) (fun l hl h0 => ?_)⟩
    obtain ⟨m, hm, hmc, rfl⟩ := (his.mem l).1 hl
    rcases List.mem_append.1 hm with h | h
    · exact absurd ((nrmR_co (h9 m hm) hmc (by decide)).2 (hd m h 2 (by decide) (by decide))) h0
    · rw [List.mem_singleton] at h; rw [h]
end Go.Pl

namespace Go.Proofs.YtddnnhlcpffbdaaGreat
open Go.AM Go.Pl
set_option maxRecDepth 100000
set_option maxHeartbeats 4000000

theorem pd80 (a b : List (List Raw)) (ha : CsOk a) (hlb : b.length ≤ 40) (hb : ∀ l ∈ b, LOk 999 l) (hT : ∀ l ∈ b, ¬ IsConst l → CsW (a ++ [negR l])) :
    Den Tryz.prog 80 [] [.fv (.sl (rowsF a)), .fv (.sl (rowsF b))] [] (.bool (withinB a b)) := by
  obtain ⟨R, hR⟩ : ∃ R, withinB a b = R := ⟨_, rfl⟩
  rw [hR]
  unfold withinB at hR
  have h96 := pd96g a ha
  have h97 := pd97g _ ha.good
  cases hv : violB a with
  | true =>
    rw [hv, if_pos rfl] at h96
    have hia : innerB a = false := by unfold innerB; rw [hv]; rfl
    rw [hia] at hR
    have hR2 : R = true := by rw [← hR]; rfl
    subst hR2
    refine den_of tabOk mixed Tryz.func80 (cd := _) rfl (by decide) rfl (n := 46) rfl rfl (m := 0) rfl ?_
    simp (dsimp := false) (disch := omega) only [List.replicate, rules]
    refine GoCall.pure h96 rfl ?_
    simp (dsimp := false) (disch := omega) only [Bool.not_false, Ap_end_ret, rules, eq_self, ↓reduceIte]
    exact RetOK.pure rfl ⟨trivial, trivial⟩ rfl
  | false =>
    rw [hv, if_neg (by simp)] at h96
    cases hf : feasB (sysL a []) with
    | false =>
      rw [hf] at h97
      have hia : innerB a = false := by unfold innerB; rw [hv, hf]; rfl
      rw [hia] at hR
      have hR2 : R = true := by rw [← hR]; rfl
      subst hR2
      refine den_of tabOk mixed Tryz.func80 (cd := _) rfl (by decide) rfl (n := 46) rfl rfl (m := 0) rfl ?_
      simp (dsimp := false) (disch := omega) only [List.replicate, rules]
      refine GoCall.pure h96 rfl ?_
      simp (dsimp := false) (disch := omega) only [Bool.not_true, rules]
      refine GoCall.pure h97 rfl ?_
      simp (dsimp := false) (disch := omega) only [Bool.not_false, Ap_end_ret, rules, ↓reduceIte]
      exact RetOK.pure rfl ⟨trivial, trivial⟩ rfl
    | true =>
      rw [hf] at h97
      have hia : innerB a = true := by unfold innerB; rw [hv, hf]; rfl
      rw [hia, Bool.not_true, Bool.false_or] at hR
      have hgr := ha.good.w.r
      have h9a := ha.len9
      have hst : ∀ l ∈ b, ¬ IsConst l → Den Tryz.prog 97 [] [.fv (.sl (rowsF (sysL a [] ++ [negR l])))] [] (.bool (innerB (a ++ [negR l]))) := fun l hl hc => by
        have h1 := pd97r _ (preR_turn hgr (hb l hl) hc (hT l hl hc))
        rw [strict_turn h9a (hb l hl).len hc hgr hia] at h1
        exact h1
      have hsn12 := ha.good.len
      have hslim := ha.good.lim
      obtain ⟨s, hse⟩ : ∃ s, sysL a [] = s := ⟨_, rfl⟩
      rw [hse] at h96 h97 hst hsn12 hslim
      obtain ⟨m, hm⟩ : ∃ m, s.length = m := ⟨_, rfl⟩
      have rls := rowsF_length s
      have tks := take_rows (ls := s) (n := m) (by omega)
      have s27 := rows_27 (ls := s) (fun l hl => (hslim l hl).len)
      rw [hm] at rls hsn12
      obtain ⟨n, hnn⟩ : ∃ n, b.length = n := ⟨_, rfl⟩
      have rlb := rowsF_length b
      rw [hnn] at rlb hlb
      refine den_of tabOk mixed Tryz.func80 (cd := _) rfl (by decide) rfl (n := 46) rfl rfl (m := 0) rfl ?_
      simp (dsimp := false) (disch := omega) only [List.replicate, rules]
      refine GoCall.pure h96 rfl ?_
      simp (dsimp := false) (disch := omega) only [Bool.not_true, rules]
      refine GoCall.pure h97 rfl ?_
      simp (dsimp := false) (disch := omega) only [Bool.not_true, rules, ↓reduceIte]
      refine WA.loop (α := Nat) (fun i => ⟨[.any, .fv (.sl (rowsF b)), .any, .any, .bool false, .fv (.sl (rowsF s)), .any, .int .i64 i] ++ List.replicate 40 .any, []⟩)
        (fun i => n - i) (fun i => i ≤ n ∧ (b.take i).all (inWith a) = true) 0 ?_ ?_ ?_
      · refine Weak.keep [] (by simp) rfl ?_ ?_
        · simp [leVs, leV, le1]
        · simp [leH]
      · exact ⟨Nat.zero_le _, rfl⟩
      · rintro i ⟨hi, hall⟩
        simp (dsimp := false) (disch := omega) only [List.replicate, rlb, rules, tys, eq_self, ↓reduceIte]
        refine Br.dec ?_ ?_
        · intro h1 h2
          have hsn := take_snoc (cs := b) (i := i) (by omega)
          have hmem := at_mem (ls := b) (i := i) (by omega)
          have r1 := rowsF_getD b i
          obtain ⟨x, hxx⟩ : ∃ x, b.getD i [] = x := ⟨_, rfl⟩
          rw [hxx] at hmem r1 hsn
          have hx := hb x hmem
          have lx := hx.len
          have x27 := flatF_take27 lx
          have fx := flatF_length x
          have gx := flat_length x
          have gx27 := flat_take27 lx
          have hcd := pd76 x (hx.mono (by decide))
          have hfa : List.take 3 (List.drop 24 (flatF x)) = [.lit (.bool (x.getD 8 rz).neg), .sl (u32s (x.getD 8 rz).num), .sl (u32s (x.getD 8 rz).den)] := flatF_at (i := 8) (by omega)
          have hfl : (List.drop 24 (flatF x)).length = 3 := by rw [List.length_drop, fx, lx]
          have hnx : (b.take (i + 1)).all (inWith a) = inWith a x := by rw [hsn, List.all_append, hall]; simp
          have hout : inWith a x = false → R = false := fun h => by
            rw [← hR]
            rw [List.all_eq_false]
            exact ⟨x, hmem, by rw [h]; simp⟩
          unfold inWith at hnx hout
          obtain ⟨cb, hcb⟩ : ∃ b, constB x = b := ⟨_, rfl⟩
          rw [hcb] at hcd hnx hout
          unfold RL at hcd
          simp (dsimp := false) (disch := omega) only [h2, r1, x27, flatF_fv, fx, lx, rlb, rules, tys, eq_self, ↓reduceIte, Nat.reduceMul, Nat.reduceLT, Nat.reduceLeDiff]
          repeat refine And.intro (by omega) ?_
          refine GoCall.pure hcd (by simp [fzAs, fzA, flat_fz, flatF_fv]) ?_
          cases cb with
          | true =>
            rw [if_pos rfl] at hnx hout
            have h36 := den26 (x.getD 8 rz) ((hx.at 8).mono (by decide))
            have hco : co x 8 = (x.getD 8 rz).q := rfl
            obtain ⟨r, hr⟩ : ∃ r, x.getD 8 rz = r := ⟨_, rfl⟩
            rw [hr] at h36 hfa hco
            unfold Raw.v at h36
            simp (dsimp := false) (disch := omega) only [flat_ids, List.append_nil, r1, fx, lx, rlb, hfa, hfl, rules, tys, eq_self, ↓reduceIte, Nat.reduceAdd, Nat.reduceMul, Nat.reduceLT, Nat.reduceLeDiff]
            repeat refine And.intro (by omega) ?_
            refine GoCall.pure h36 rfl ?_
            simp (dsimp := false) (disch := omega) only [List.append_nil, rules, tys, eq_self, ↓reduceIte]
            refine Br.dec ?_ ?_
            · intro h3 h4
              have hR2 := hout (by rw [hco, decide_eq_true (sgq_neg_iff.1 h3)]; rfl)
              subst hR2
              simp (dsimp := false) (disch := omega) only [h4, Ap_end_ret, rules]
              exact RetOK.pure rfl ⟨trivial, trivial⟩ rfl
            · intro h3 h4
              rw [hco, decide_eq_false (fun h => h3 (sgq_neg_iff.2 h))] at hnx
              simp (dsimp := false) (disch := omega) only [h4, wrap64, rules, tys, eq_self, ↓reduceIte]
              refine Ap_loop (i + 1) (by omega) ?_ ⟨by omega, hnx⟩
              refine Weak.keep [] (by simp) rfl ?_ ?_
              · simp [leVs, leV, le1]
                try omega
              · simp [leH]
          | false =>
            rw [if_neg (by simp)] at hnx hout
            have hnc : ¬ IsConst x := fun h => by rw [(constB_iff lx).2 h] at hcb; cases hcb
            have h97x := hst x hmem hnc
            obtain ⟨ib, hib⟩ : ∃ t, innerB (a ++ [negR x]) = t := ⟨_, rfl⟩
            rw [hib] at h97x hnx hout
            have h57 := pd57 x (hx.mono (by decide))
            have hnl := negR_len lx
            have hap := rows_snoc s (negR x)
            have hlen1 : (s ++ [negR x]).length = m + 1 := by rw [List.length_append, hm]; rfl
            obtain ⟨y, hy⟩ : ∃ y, negR x = y := ⟨_, rfl⟩
            rw [hy] at h97x h57 hnl hap hlen1
            have gy := flat_length y
            have y27 := flatF_take27 hnl
            have gy27 := flat_take27 hnl
            have rll := rowsF_length (s ++ [y])
            rw [hlen1] at rll
            unfold RL at h57
            simp (dsimp := false) (disch := omega) only [flat_ids, List.append_nil, rules]
            refine Draw.intro (by kernel_rfl) ?_
            simp (dsimp := false) (disch := omega) only [r1, x27, flatF_fv, fx, lx, rlb, rls, s27, rules, tys, eq_self, ↓reduceIte, Nat.reduceMul, Nat.reduceLT, Nat.reduceLeDiff]
            repeat refine And.intro (by omega) ?_
            refine GoCall.pure h57 (by simp [fzAs, fzA, flat_fz, flatF_fv]) ?_
            simp (dsimp := false) (disch := omega) only [flat_ids, flat_reloc, flat_fz, List.append_nil, gy, hnl, y27, rls, tks, hap, rules, tys, eq_self, ↓reduceIte, Nat.reduceAdd, Nat.reduceMul, Nat.reduceBEq, Nat.reduceLT, Nat.reduceLeDiff]
            repeat refine And.intro (by omega) ?_
            refine GoCall.show h97x (Plain.lit _) (by omega) rfl ?_
            cases ib with
            | true =>
              have hR2 := hout rfl
              subst hR2
              simp (dsimp := false) (disch := omega) only [Ap_end_ret, rules, Nat.reduceAdd]
              exact RetOK.pure rfl ⟨trivial, trivial⟩ rfl
            | false =>
              simp (dsimp := false) (disch := omega) only [wrap64, rules, tys, eq_self, ↓reduceIte, Nat.reduceAdd]
              refine Ap_loop (i + 1) (by omega) ?_ ⟨by omega, hnx⟩
              refine Weak.keep [] (by simp) rfl ?_ ?_
              · simp [leVs, leV, le1]
                try omega
              · simp [leH]
        · intro h1 h2
          have htk : b.take i = b := List.take_of_length_le (by omega)
          rw [htk] at hall
          rw [hall] at hR
          subst hR
          simp (dsimp := false) (disch := omega) only [h2, Ap_end_ret, rules, Nat.reduceBEq]
          exact RetOK.pure rfl ⟨trivial, trivial⟩ rfl
theorem pd37 (a b : List (List Raw)) (ha : CsOk a) (hla : a.length ≤ 40) (hlb : b.length ≤ 40) (hb : ∀ l ∈ b, LOk 999 l) (hT : ∀ l ∈ b, ¬ IsConst l → CsW (a ++ [negR l])) :
    Den Tryz.prog 37 [] [.fv (.sl (rowsF a)), .fv (.sl (rowsF b))] [] (.tup [.bool (withinB a b), .int .i64 0]) := by
  have h80 := pd80 a b ha hlb hb hT
  have rla := rowsF_length a
  have rlb := rowsF_length b
  have e1 : decide ((a.length : Int) > 40) = false := decide_eq_false (by omega)
  have e2 : decide ((b.length : Int) > 40) = false := decide_eq_false (by omega)
  refine den_of tabOk mixed Tryz.func37 (cd := _) rfl (by decide) rfl (n := 15) rfl rfl (m := 0) rfl ?_
  simp (dsimp := false) (disch := omega) only [List.replicate, rla, rlb, e1, e2, rules, tys, eq_self, ↓reduceIte]
  refine GoCall.pure h80 rfl ?_
  simp (dsimp := false) (disch := omega) only [Ap_end_ret, rules]
  exact RetOK.pure rfl ⟨trivial, trivial, trivial⟩ rfl
theorem pd37z (a b : List (List Raw)) (h : 40 < a.length ∨ 40 < b.length) :
    Den Tryz.prog 37 [] [.fv (.sl (rowsF a)), .fv (.sl (rowsF b))] [] (.tup [.bool false, .int .i64 9]) ∧ Den Tryz.prog 36 [] [.fv (.sl (rowsF a)), .fv (.sl (rowsF b))] [] (.tup [.bool false, .int .i64 9]) := by
  have rla := rowsF_length a
  have rlb := rowsF_length b
  by_cases h1 : 40 < a.length
  · have e1 : decide ((a.length : Int) > 40) = true := decide_eq_true (by omega)
    constructor
    · refine den_of tabOk mixed Tryz.func37 (cd := _) rfl (by decide) rfl (n := 15) rfl rfl (m := 0) rfl ?_
      simp (dsimp := false) (disch := omega) only [List.replicate, rla, e1, Ap_end_ret, rules, tys, eq_self, ↓reduceIte]
      exact RetOK.pure rfl ⟨trivial, trivial, trivial⟩ rfl
    · refine den_of tabOk mixed Tryz.func36 (cd := _) rfl (by decide) rfl (n := 40) rfl rfl (m := 0) rfl ?_
      simp (dsimp := false) (disch := omega) only [List.replicate, rla, e1, Ap_end_ret, rules, tys, eq_self, ↓reduceIte]
      exact RetOK.pure rfl ⟨trivial, trivial, trivial⟩ rfl
  · have e1 : decide ((a.length : Int) > 40) = false := decide_eq_false (by omega)
    have e2 : decide ((b.length : Int) > 40) = true := decide_eq_true (by omega)
    constructor
    · refine den_of tabOk mixed Tryz.func37 (cd := _) rfl (by decide) rfl (n := 15) rfl rfl (m := 0) rfl ?_
      simp (dsimp := false) (disch := omega) only [List.replicate, rla, rlb, e1, e2, Ap_end_ret, rules, tys, eq_self, ↓reduceIte]
      exact RetOK.pure rfl ⟨trivial, trivial, trivial⟩ rfl
    · refine den_of tabOk mixed Tryz.func36 (cd := _) rfl (by decide) rfl (n := 40) rfl rfl (m := 0) rfl ?_
      simp (dsimp := false) (disch := omega) only [List.replicate, rla, rlb, e1, e2, Ap_end_ret, rules, tys, eq_self, ↓reduceIte]
      exact RetOK.pure rfl ⟨trivial, trivial, trivial⟩ rfl
end Go.Proofs.YtddnnhlcpffbdaaGreat

namespace Go.Proofs.YtddnnhlcpffbdaaGreat
open Go.AM Go.Pl
set_option maxRecDepth 100000
set_option maxHeartbeats 4000000

theorem w64_take6 {l : List Int} (h : W64 l) (n : Nat) : W64 (l.take n) := fun x hx => h x (List.mem_of_mem_take hx)
theorem few_mem {d : List (List Raw)} (h : Few d) : ∀ l ∈ d, LOk 4 l ∧ Dim 3 [l] := fun l hl => by
  obtain ⟨k, hk, hc⟩ := h.dim
  refine ⟨h.ok l hl, (Dim.one hk hl).up (by omega)⟩
theorem both_within {c d : List (List Raw)} (hc : Few c) (hd : ∀ l ∈ d, LOk 4 l ∧ Dim 3 [l]) : ∃ (r : Bool) (e : Int), Den Tryz.prog 36 [] [.fv (.sl (rowsF c)), .fv (.sl (rowsF d))] [] (.tup [.bool r, .int .i64 e]) ∧ Den Tryz.prog 37 [] [.fv (.sl (rowsF c)), .fv (.sl (rowsF d))] [] (.tup [.bool r, .int .i64 e]) := by
  by_cases h40 : 40 < c.length ∨ 40 < d.length
  · exact ⟨_, _, (pd37z c d h40).2, (pd37z c d h40).1⟩
  · have hT : ∀ l ∈ d, ¬ IsConst l → CsW (c ++ [negR l]) := fun l hl hnc => by
      obtain ⟨k, hk, hn⟩ := hc.dim
      refine turn_w hc.ok hc.len ?_ (hd l hl).1 (hd l hl).2 hnc
      rcases hn with ⟨rfl, h⟩ | ⟨rfl, h⟩
      · exact .inl ⟨hk, h⟩
      · exact .inr ⟨hk, h⟩
    exact ⟨_, _, pd36 c d hc.cs (by omega) (by omega) (fun l hl => (hd l hl).1.mono (by decide)) hT, pd37 c d hc.cs (by omega) (by omega) (fun l hl => (hd l hl).1.mono (by decide)) hT⟩
theorem pd6 (l : List Int) (hl : l.length < 9223372036854775808) (hw : W64 l) : Den Tryz.prog 6 [] [.fv (.sl (ints l))] [] (.bool true) := by
  have h10 := den10 l hl
  have hw2 := w64_take6 hw 1000
  have hl2 : (l.take 1000).length ≤ 1000 := by rw [List.length_take]; omega
  obtain ⟨xs, hxs⟩ : ∃ t, l.take 1000 = t := ⟨_, rfl⟩
  rw [hxs] at h10 hw2 hl2
  have h11 := pd11 xs 0 hl2 (Nat.zero_le _) hw2
  have hb1 := fewF_le (xs := xs) (a := 0) (Nat.zero_le _)
  have hfc := fewF_few xs 0
  obtain ⟨⟨c, b1⟩, hcs⟩ : ∃ t, fewF xs 0 = t := ⟨_, rfl⟩
  rw [hcs] at h11 hfc hb1
  dsimp only at h11 hfc hb1
  have h11b := pd11 xs b1 hl2 hb1 hw2
  have hb2 := fewF_le (xs := xs) hb1
  have hfd := fewF_few xs b1
  obtain ⟨⟨d, b2⟩, hds⟩ : ∃ t, fewF xs b1 = t := ⟨_, rfl⟩
  rw [hds] at h11b hfd hb2
  dsimp only at h11b hfd hb2
  have h19 := denN xs b2 3 hl2 hb2 hw2 (by decide) (by decide)
  have hb3 := nx_le hb2
  obtain ⟨w, hwe⟩ : ∃ t, nN xs b2 3 = t := ⟨_, rfl⟩
  obtain ⟨b3, hb3e⟩ : ∃ t, nx xs b2 = t := ⟨_, rfl⟩
  rw [hwe, hb3e] at h19
  rw [hb3e] at hb3
  have c0 := S_closed xs 0
  have c1 := S_closed xs b1
  have c2 := S_closed xs b2
  have c3 := S_closed xs b3
  have h16 := pd16
  have rlc := rowsF_length c
  have hlc := hfc.len
  have hok := hfc.ok
  have c27 := rows27 (ls := c) (fun l hl => (hok l hl).len)
  obtain ⟨n, hn⟩ : ∃ t, c.length = t := ⟨_, rfl⟩
  rw [hn] at rlc hlc
  have c27' : (∀ y, y ∈ rowsF c → y.length = 27) = True := eq_true c27
  have hN := denN xs b3 (n + 1) hl2 hb3 hw2 (by omega) (by omega)
  have hmn := nN_lt (xs := xs) (a := b3) (n := n + 1) (by omega)
  obtain ⟨m, hm⟩ : ∃ t, nN xs b3 (n + 1) = t := ⟨_, rfl⟩
  rw [hm] at hN hmn
  have en : (((n + 1 : Nat)) : Int) = (n : Int) + 1 := by omega
  rw [en] at hN
  have htk := rows_take c m
  have tk0 : List.take m (List.drop 0 (rowsF c)) = rowsF (c.take m) := by rw [List.drop_zero]; exact htk
  unfold S at h10 h11 h11b h19 hN c0 c1 c2 c3
  by_cases hw0 : w = 0
  · subst hw0
    obtain ⟨r, e, h36, h37⟩ := both_within hfc (d := c.take m) (fun l hl => few_mem hfc l (List.mem_of_mem_take hl))
    have er : (r == r) = true := by simp
    have ee : (e == e) = true := by simp
    have e1 : (((0 : Nat) : Int) == 0) = true := rfl
    refine den_of tabOk mixed Tryz.func6 (cd := _) rfl (by decide) rfl (n := 48) rfl rfl (m := 0) rfl ?_
    simp (dsimp := false) (disch := omega) only [List.replicate, rules]
    refine GoCall.pure h10 rfl ?_
    simp (dsimp := false) (disch := omega) only [List.append_nil, List.map_cons, List.map_nil, rules]
    refine GoCall.lend 0 h11 rfl rfl c0 rfl rfl rfl ?_
    simp (dsimp := false) (disch := omega) only [sh1, List.append_nil, rules]
    refine GoCall.lend 0 h11b rfl rfl c1 rfl rfl rfl ?_
    simp (dsimp := false) (disch := omega) only [sh1, List.append_nil, rules]
    refine GoCall.lend 0 h19 rfl rfl c2 rfl rfl rfl ?_
    simp (dsimp := false) (disch := omega) only [sh2, List.append_nil, e1, rlc, wrap64, rules, tys, eq_self, ↓reduceIte]
    repeat refine And.intro (by omega) ?_
    refine GoCall.lend 0 hN rfl rfl c3 rfl rfl rfl ?_
    simp (dsimp := false) (disch := omega) only [sh2, List.append_nil, rlc, c27', htk, List.drop_zero, Nat.sub_zero, rules, tys]
    repeat refine And.intro (by omega) ?_
    refine GoCall.pure h36 rfl ?_
    simp (dsimp := false) (disch := omega) only [List.append_nil, rules]
    refine GoCall.pure h37 rfl ?_
    simp (dsimp := false) (disch := omega) only [List.append_nil, er, ee, rules, tys, eq_self, ↓reduceIte, reduceCtorEq]
    refine GoCall.pure h16 rfl ?_
    simp (dsimp := false) (disch := omega) only [List.append_nil, Ap_end_ret, rules, eq_self, ↓reduceIte]
    exact RetOK.pure rfl ⟨trivial, trivial⟩ rfl
  · obtain ⟨r, e, h36, h37⟩ := both_within hfc (few_mem hfd)
    have er : (r == r) = true := by simp
    have ee : (e == e) = true := by simp
    have e1 : ((w : Int) == 0) = false := by rw [beq_eq_false_iff_ne]; omega
    refine den_of tabOk mixed Tryz.func6 (cd := _) rfl (by decide) rfl (n := 48) rfl rfl (m := 0) rfl ?_
    simp (dsimp := false) (disch := omega) only [List.replicate, rules]
    refine GoCall.pure h10 rfl ?_
    simp (dsimp := false) (disch := omega) only [List.append_nil, List.map_cons, List.map_nil, rules]
    refine GoCall.lend 0 h11 rfl rfl c0 rfl rfl rfl ?_
    simp (dsimp := false) (disch := omega) only [sh1, List.append_nil, rules]
    refine GoCall.lend 0 h11b rfl rfl c1 rfl rfl rfl ?_
    simp (dsimp := false) (disch := omega) only [sh1, List.append_nil, rules]
    refine GoCall.lend 0 h19 rfl rfl c2 rfl rfl rfl ?_
    simp (dsimp := false) (disch := omega) only [sh2, List.append_nil, e1, rules, tys, eq_self, ↓reduceIte]
    refine GoCall.pure h36 rfl ?_
    simp (dsimp := false) (disch := omega) only [List.append_nil, rules]
    refine GoCall.pure h37 rfl ?_
    simp (dsimp := false) (disch := omega) only [List.append_nil, er, ee, rules, tys, eq_self, ↓reduceIte, reduceCtorEq]
    refine GoCall.pure h16 rfl ?_
    simp (dsimp := false) (disch := omega) only [List.append_nil, Ap_end_ret, rules, eq_self, ↓reduceIte]
    exact RetOK.pure rfl ⟨trivial, trivial⟩ rfl
end Go.Proofs.YtddnnhlcpffbdaaGreat
