/- Contracts: place. -/
import Derived.Test.YteifpjjnphcdcaaS1

namespace Go.Proofs.Yteifpjjnphcdcaa
open Go.AM Go.Pl
set_option maxRecDepth 100000
set_option maxHeartbeats 2000000

def placeF (xs : List Int) (a : Nat) (v : Int) : Int × Nat := if nN xs a 6 > 0 then ((nN xs (nx xs a) 3 : Nat), nx xs (nx xs a)) else (v, nx xs a)
theorem placeF_le {xs : List Int} {a : Nat} (h : a ≤ xs.length) (v : Int) : (placeF xs a v).2 ≤ xs.length := by
  unfold placeF; split
  · exact nx_le (nx_le h)
  · exact nx_le h
theorem placeF_word {xs : List Int} {a : Nat} {v : Int} (h : -9223372036854775808 ≤ v ∧ v < 9223372036854775808) : -9223372036854775808 ≤ (placeF xs a v).1 ∧ (placeF xs a v).1 < 9223372036854775808 := by
  unfold placeF; split
  · have := nN_lt (xs := xs) (a := nx xs a) (n := 3) (by decide)
    dsimp only
    omega
  · exact h
theorem den15 (xs : List Int) (a : Nat) (v : Int) (hl : xs.length ≤ 1000) (ha : a ≤ xs.length) (hw : W64 xs) :
    Den Try.prog 15 [S xs a] [.ptr 0 0 0, .int .i64 v] [S xs (placeF xs a v).2] (.int .i64 (placeF xs a v).1) := by
  have h6 := denN xs a 6 hl ha hw (by decide) (by decide)
  have hc := S_closed xs a
  have ha1 := nx_le ha
  unfold placeF
  obtain ⟨m, hm⟩ : ∃ m, nN xs a 6 = m := ⟨_, rfl⟩
  obtain ⟨a1, e1⟩ : ∃ t, nx xs a = t := ⟨_, rfl⟩
  rw [hm, e1] at h6
  rw [e1] at ha1
  rw [hm, e1]
  have c1 := S_closed xs a1
  by_cases h0 : m > 0
  · rw [if_pos h0]
    have hb : decide ((m : Int) > 0) = true := decide_eq_true (by omega)
    have h3 := denN xs a1 3 hl ha1 hw (by decide) (by decide)
    unfold S at h6 h3 hc c1 ⊢
    refine den_of tabOk mixed Try.func15 (cd := _) rfl (by decide) rfl (n := 9) rfl rfl (m := 1) rfl ?_
    simp (dsimp := false) (disch := omega) only [List.replicate, rules]
    refine GoCall.lend 0 h6 rfl rfl hc rfl rfl rfl ?_
    simp (dsimp := false) (disch := omega) only [sh2, List.append_nil, hb, rules, tys, eq_self, ↓reduceIte]
    refine GoCall.lend 0 h3 rfl rfl c1 rfl rfl rfl ?_
    simp (dsimp := false) (disch := omega) only [sh2, List.append_nil, Ap_end_ret, rules]
    refine RetOK.lentB rfl ⟨trivial, trivial⟩ rfl (S_closed xs _) rfl rfl rfl
  · rw [if_neg h0]
    have hb : decide ((m : Int) > 0) = false := decide_eq_false (by omega)
    unfold S at h6 hc ⊢
    refine den_of tabOk mixed Try.func15 (cd := _) rfl (by decide) rfl (n := 9) rfl rfl (m := 1) rfl ?_
    simp (dsimp := false) (disch := omega) only [List.replicate, rules]
    refine GoCall.lend 0 h6 rfl rfl hc rfl rfl rfl ?_
    simp (dsimp := false) (disch := omega) only [sh2, List.append_nil, hb, Ap_end_ret, rules, tys, eq_self, ↓reduceIte]
    refine RetOK.lentB rfl ⟨trivial, trivial⟩ rfl (S_closed xs _) rfl rfl rfl

end Go.Proofs.Yteifpjjnphcdcaa
