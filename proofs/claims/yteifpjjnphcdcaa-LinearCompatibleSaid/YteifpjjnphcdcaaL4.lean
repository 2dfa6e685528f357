/- Contracts: linear: Compare, Constant. -/
import Derived.Test.YteifpjjnphcdcaaL3
import Derived.Test.YteifpjjnphcdcaaP2

namespace Go.Proofs.Yteifpjjnphcdcaa
open Go.AM Go.Pl
set_option maxRecDepth 100000
set_option maxHeartbeats 2000000

theorem den22 (a b : List Raw) (ha : LOk 1000000000 a) (hb : LOk 1000000000 b) : Den Try.prog 22 [] [RL a, RL b] [] (.int .i64 (cmpR a b)) := by
  have la := ha.len
  have lb := hb.len
  have fa := flat_length a
  have fb := flat_length b
  unfold RL
  refine den_of tabOk mixed Try.func22 (cd := _) rfl (by decide) rfl (n := 26) rfl rfl (m := 0) rfl ?_
  simp (dsimp := false) (disch := omega) only [List.replicate, rules, tys, Nat.reduceLT]
  repeat refine And.intro (by omega) ?_
  refine WA.loop (α := Nat) (fun i => ⟨[.any, .any, .ptr 0 0 0, .ptr 1 0 0, .any, .any, .any, .int .i64 i] ++ List.replicate 20 .any, [.box true (flat a), .box true (flat b)]⟩)
    (fun i => 8 - i) (fun i => i ≤ 8 ∧ cmpR (a.drop i) (b.drop i) = cmpR a b) 0 ?_ ?_ ?_
  · refine Weak.keep [0, 1] (by simp) rfl ?_ ?_
    · simp [leVs, leV, le1]
    · simp [leH, leO, le_flat]
  · exact ⟨Nat.zero_le _, rfl⟩
  · rintro i ⟨hi, hinv⟩
    have hat1 := flat_at (rs := a) (i := i) (by omega)
    have hat2 := flat_at (rs := b) (i := i) (by omega)
    have hden := den52 (a.getD i rz) (b.getD i rz) (ha.at i) (hb.at i)
    have hcd := cmpR_drop (a := a) (b := b) (i := i) (by omega) (by omega)
    have hcl : i = 8 → cmpR (a.drop i) (b.drop i) = sgq ((a.getD i rz).q - (b.getD i rz).q) := fun h => cmpR_last (by omega) (by omega)
    obtain ⟨r, hr⟩ : ∃ r, a.getD i rz = r := ⟨_, rfl⟩
    obtain ⟨s, hs⟩ : ∃ r, b.getD i rz = r := ⟨_, rfl⟩
    rw [hr] at hat1 hden hcd hcl
    rw [hs] at hat2 hden hcd hcl
    obtain ⟨z, hz⟩ : ∃ z, sgq (r.q - s.q) = z := ⟨_, rfl⟩
    rw [hz] at hden hcd hcl
    unfold Raw.v at hden
    simp (dsimp := false) (disch := omega) only [List.replicate, rules, tys, eq_self, ↓reduceIte]
    refine Br.dec ?_ ?_
    · intro h1 h2
      simp (dsimp := false) (disch := omega) only [h2, rules]
      refine Draw.intro (by kernel_rfl) ?_
      simp (dsimp := false) (disch := omega) only [hat1, hat2, rules, tys, eq_self, ↓reduceIte, Nat.reduceLT]
      repeat refine And.intro (by omega) ?_
      refine GoCall.pure hden rfl ?_
      simp (dsimp := false) (disch := omega) only [List.append_nil, rules, tys, eq_self, ↓reduceIte, Nat.reduceAdd]
      refine Br.bneInt ?_ ?_
      · intro h3 h4
        rw [if_neg h3] at hcd
        rw [← hinv, hcd]
        simp (dsimp := false) (disch := omega) only [h4, Ap_end_ret, rules]
        refine RetOK.pure rfl ⟨trivial, trivial⟩ rfl
      · intro h3 h4
        rw [if_pos h3] at hcd
        simp (dsimp := false) (disch := omega) only [h4, wrap64, rules, tys, eq_self, ↓reduceIte]
        refine Ap_loop (i + 1) (by omega) ?_ ⟨by omega, by rw [← hcd, hinv]⟩
        refine Weak.keep [0, 1] (by simp) rfl ?_ ?_
        · simp [leVs, leV, le1]
        · simp [leH, leO, le_flat]
    · intro h1 h2
      have hi8 : i = 8 := by omega
      have hfin := hcl hi8
      subst hi8
      simp only [Nat.reduceMul] at hat1 hat2
      rw [← hinv, hfin]
      simp (dsimp := false) (disch := omega) only [h2, hat1, hat2, rules, tys, eq_self, ↓reduceIte, Nat.reduceAdd, Nat.reduceBEq]
      repeat refine And.intro (by omega) ?_
      refine GoCall.pure hden rfl ?_
      simp (dsimp := false) (disch := omega) only [List.append_nil, Ap_end_ret, rules, Nat.reduceAdd]
      refine RetOK.pure rfl ⟨trivial, trivial⟩ rfl

theorem constB_false {a : List Raw} {i : Nat} (ha : a.length = 9) (hi : i < 8) (h : (a.getD i rz).q ≠ 0) : constB a = false := by
  unfold constB
  rw [List.all_eq_false]
  refine ⟨a.getD i rz, ?_, fun h2 => h (of_decide_eq_true h2)⟩
  rw [List.getD_eq_getElem?_getD, List.getElem?_eq_getElem (by omega)]
  exact List.mem_take_iff_getElem.2 ⟨i, by omega, rfl⟩
theorem constB_true {a : List Raw} (h : ∀ i, i < 8 → (a.getD i rz).q = 0) : constB a = true := by
  unfold constB
  rw [List.all_eq_true]
  intro r hr
  obtain ⟨i, hi, rfl⟩ := List.mem_take_iff_getElem.1 hr
  have := h i (by omega)
  rw [List.getD_eq_getElem?_getD, List.getElem?_eq_getElem (by omega)] at this
  exact decide_eq_true this

theorem den25 (a : List Raw) (ha : LOk 1000000000 a) : Den Try.prog 25 [] [RL a] [] (.bool (constB a)) := by
  have la := ha.len
  have fa := flat_length a
  have htk : List.take 24 (flat a) = flat (a.take 8) := flat_take 8 a
  have f8 : (flat (a.take 8)).length = 24 := by rw [flat_length, List.length_take]; omega
  unfold RL
  refine den_of tabOk mixed Try.func25 (cd := _) rfl (by decide) rfl (n := 13) rfl rfl (m := 0) rfl ?_
  simp (dsimp := false) (disch := omega) only [List.replicate, htk, rules, tys, eq_self, ↓reduceIte, Nat.reduceLT]
  repeat refine And.intro (by omega) ?_
  refine WA.loop (α := Nat) (fun i => ⟨[.any, .ptr 0 0 0, .any, .any, .any, .any, .agg (flat (a.take 8)), .int .i64 i] ++ List.replicate 6 .any, [.box true (flat a)]⟩)
    (fun i => 8 - i) (fun i => i ≤ 8 ∧ ∀ j, j < i → (a.getD j rz).q = 0) 0 ?_ ?_ ?_
  · refine Weak.keep [0] (by simp) rfl ?_ ?_
    · simp [leVs, leV, le1, le_flat]
    · simp [leH, leO, le_flat]
  · exact ⟨Nat.zero_le _, fun j h => by omega⟩
  · rintro i ⟨hi, hinv⟩
    simp (dsimp := false) (disch := omega) only [List.replicate, rules, tys, eq_self, ↓reduceIte]
    refine Br.dec ?_ ?_
    · intro h1 h2
      have hat := flat_at (rs := a.take 8) (i := i) (by rw [List.length_take]; omega)
      have hgd : (a.take 8).getD i rz = a.getD i rz := by
        simp only [List.getD_eq_getElem?_getD, List.getElem?_take]
        rw [if_pos (by omega)]
      rw [hgd] at hat
      have hden := den36 (a.getD i rz) ((ha.at i).mono (by decide))
      obtain ⟨r, hr⟩ : ∃ r, a.getD i rz = r := ⟨_, rfl⟩
      rw [hr] at hat hden
      unfold Raw.v at hden
      simp (dsimp := false) (disch := omega) only [List.append_nil, h2, hat, rules, tys, eq_self, ↓reduceIte, Nat.reduceAdd, Nat.reduceLT, Nat.reduceLeDiff]
      repeat refine And.intro (by omega) ?_
      refine GoCall.pure hden rfl ?_
      simp (dsimp := false) (disch := omega) only [List.append_nil, rules, tys, eq_self, ↓reduceIte, Nat.reduceAdd]
      refine Br.bneInt ?_ ?_
      · intro h3 h4
        rw [constB_false (i := i) la (by omega) (by rw [hr]; exact fun h => h3 (sgq_eq_zero.2 h))]
        simp (dsimp := false) (disch := omega) only [h4, Ap_end_ret, rules]
        refine RetOK.pure rfl ⟨trivial, trivial⟩ rfl
      · intro h3 h4
        simp (dsimp := false) (disch := omega) only [h4, wrap64, rules, tys, eq_self, ↓reduceIte]
        refine Ap_loop (i + 1) (by omega) ?_ ⟨by omega, fun j hj => ?_⟩
        · refine Weak.keep [0] (by simp) rfl ?_ ?_
          · simp [leVs, leV, le1, le_flat]
          · simp [leH, leO, le_flat]
        · by_cases hji : j = i
          · rw [hji, hr]; exact sgq_eq_zero.1 h3
          · exact hinv j (by omega)
    · intro h1 h2
      rw [constB_true (fun j hj => hinv j (by omega))]
      simp (dsimp := false) (disch := omega) only [h2, Ap_end_ret, rules, Nat.reduceBEq]
      refine RetOK.pure rfl ⟨trivial, trivial⟩ rfl

end Go.Proofs.Yteifpjjnphcdcaa
