/- Plain: the order of forms. -/
import Derived.Test.YteifpjjnphcdcaaP1

namespace Go.Pl
open Go.AM

/-- The first difference. -/
def cmpR : List Raw → List Raw → Int
  | r :: a, s :: b => if sgq (r.q - s.q) = 0 then cmpR a b else sgq (r.q - s.q)
  | _, _ => 0
theorem drop_getD {a : List Raw} {i : Nat} (h : i < a.length) : a.drop i = a.getD i rz :: a.drop (i + 1) := by
  rw [List.drop_eq_getElem_cons h, List.getD_eq_getElem?_getD, List.getElem?_eq_getElem h]; rfl
theorem cmpR_drop {a b : List Raw} {i : Nat} (ha : i < a.length) (hb : i < b.length) : cmpR (a.drop i) (b.drop i) =
    if sgq ((a.getD i rz).q - (b.getD i rz).q) = 0 then cmpR (a.drop (i + 1)) (b.drop (i + 1)) else sgq ((a.getD i rz).q - (b.getD i rz).q) := by
  rw [drop_getD ha, drop_getD hb]; rfl
theorem cmpR_last {a b : List Raw} {i : Nat} (ha : i + 1 = a.length) (hb : i + 1 = b.length) : cmpR (a.drop i) (b.drop i) = sgq ((a.getD i rz).q - (b.getD i rz).q) := by
  rw [cmpR_drop (by omega) (by omega), List.drop_of_length_le (i := i + 1) (by omega)]
  split
  · rename_i h; rw [h]; rfl
  · rfl
theorem num_neg_iff {q : Rat} : q.num < 0 ↔ q < 0 := by
  have h := Rat.num_nonneg (q := q)
  have h2 := @Rat.not_le 0 q
  constructor
  · intro h3
    exact h2.1 (fun h4 => by have := h.2 h4; omega)
  · intro h3
    have h4 := h2.2 h3
    have h5 : ¬ (0 ≤ q.num) := fun h6 => h4 (h.1 h6)
    omega
theorem sgq_lt {x y : Rat} : sgq (x - y) < 0 ↔ x < y := by
  unfold sgq
  rw [Int.sign_neg_iff, num_neg_iff]
  constructor <;> intro h <;> grind
theorem sgq_gt {x y : Rat} : 0 < sgq (x - y) ↔ y < x := by
  have h1 : sgq (x - y) < 0 ↔ x < y := sgq_lt
  have h2 : sgq (x - y) = 0 ↔ x = y := by
    rw [sgq_eq_zero]
    constructor <;> intro h <;> grind
  constructor
  · intro h
    have h3 : ¬ x < y := fun h4 => by have := h1.2 h4; omega
    have h4 : x ≠ y := fun h5 => by have := h2.2 h5; omega
    grind
  · intro h
    have h3 : ¬ sgq (x - y) < 0 := fun h4 => by have := h1.1 h4; grind
    have h4 : sgq (x - y) ≠ 0 := fun h5 => by have := h2.1 h5; grind
    omega
theorem sgq_eq {x y : Rat} : sgq (x - y) = 0 ↔ x = y := by
  rw [sgq_eq_zero]
  constructor <;> intro h <;> grind
theorem sgq_range (q : Rat) : sgq q = -1 ∨ sgq q = 0 ∨ sgq q = 1 := by
  unfold sgq
  rcases Int.lt_trichotomy q.num 0 with h | h | h
  · exact Or.inl (Int.sign_eq_neg_one_of_neg h)
  · exact Or.inr (Or.inl (by rw [h]; rfl))
  · exact Or.inr (Or.inr (Int.sign_eq_one_of_pos h))
theorem sgq_swap (x y : Rat) : sgq (x - y) = -sgq (y - x) := by
  have h1 := sgq_range (x - y)
  have h2 := sgq_range (y - x)
  have h3 := sgq_lt (x := x) (y := y)
  have h4 := sgq_gt (x := y) (y := x)
  have h5 := sgq_eq (x := x) (y := y)
  have h6 := sgq_eq (x := y) (y := x)
  by_cases h : x = y
  · rw [h5.2 h, h6.2 h.symm]; rfl
  · have h7 := fun h9 => h (h5.1 h9)
    have h8 := fun h9 => h (h6.1 h9).symm
    by_cases hl : x < y
    · have := h3.2 hl
      have := h4.2 hl
      omega
    · have g1 : ¬ sgq (x - y) < 0 := fun h9 => hl (h3.1 h9)
      have g2 : ¬ 0 < sgq (y - x) := fun h9 => hl (h4.1 h9)
      have g3 : ¬ sgq (x - y) = 0 := h7
      have g4 : ¬ sgq (y - x) = 0 := h8
      omega
theorem cmpR_range : ∀ a b : List Raw, cmpR a b = -1 ∨ cmpR a b = 0 ∨ cmpR a b = 1
  | r :: a, s :: b => by
    unfold cmpR
    split
    · exact cmpR_range a b
    · exact sgq_range _
  | [], _ => Or.inr (Or.inl (by simp [cmpR]))
  | _ :: _, [] => Or.inr (Or.inl (by simp [cmpR]))
theorem cmpR_swap : ∀ a b : List Raw, cmpR a b = -cmpR b a
  | r :: a, s :: b => by
    unfold cmpR
    rw [sgq_swap r.q s.q, cmpR_swap a b]
    by_cases h : sgq (s.q - r.q) = 0
    · rw [if_pos h, if_pos (by omega)]
    · rw [if_neg h, if_neg (by omega)]
  | [], b => by cases b <;> simp [cmpR]
  | _ :: _, [] => by simp [cmpR]
theorem cmpR_trans : ∀ a b c : List Raw, a.length = b.length → b.length = c.length → cmpR a b ≤ 0 → cmpR b c ≤ 0 → cmpR a c ≤ 0
  | r :: a, s :: b, t :: c, h1, h2, h3, h4 => by
    have h1' : a.length = b.length := by simpa using h1
    have h2' : b.length = c.length := by simpa using h2
    unfold cmpR at h3 h4 ⊢
    have e1 := sgq_eq (x := r.q) (y := s.q)
    have e2 := sgq_eq (x := s.q) (y := t.q)
    have e3 := sgq_eq (x := r.q) (y := t.q)
    have l1 := sgq_lt (x := r.q) (y := s.q)
    have l2 := sgq_lt (x := s.q) (y := t.q)
    have l3 := sgq_lt (x := r.q) (y := t.q)
    by_cases a1 : sgq (r.q - s.q) = 0
    · rw [if_pos a1] at h3
      have q1 := e1.1 a1
      by_cases a2 : sgq (s.q - t.q) = 0
      · rw [if_pos a2] at h4
        rw [if_pos (e3.2 (q1.trans (e2.1 a2)))]
        exact cmpR_trans a b c h1' h2' h3 h4
      · rw [if_neg a2] at h4
        rw [if_neg (fun h => a2 (by rw [← q1]; exact h)), q1]
        exact h4
    · rw [if_neg a1] at h3
      have q1 := l1.1 (by omega)
      by_cases a2 : sgq (s.q - t.q) = 0
      · have q2 := e2.1 a2
        rw [← q2, if_neg a1]
        exact h3
      · rw [if_neg a2] at h4
        have q2 := l2.1 (by omega)
        have q3 := l3.2 (by grind)
        rw [if_neg (by omega)]
        omega
  | [], _, c, _, _, _, _ => by cases c <;> simp [cmpR]
  | _ :: _, _, [], _, _, _, _ => by simp [cmpR]
  | _ :: _, [], _ :: _, h, _, _, _ => by simp at h
theorem cmpR_zero : ∀ a c : List Raw, a.length = c.length → (cmpR a c = 0 ↔ a.map Raw.q = c.map Raw.q)
  | r :: a, t :: c, h => by
    have h' : a.length = c.length := by simpa using h
    unfold cmpR
    have e3 := sgq_eq (x := r.q) (y := t.q)
    have ih := cmpR_zero a c h'
    by_cases a1 : sgq (r.q - t.q) = 0
    · rw [if_pos a1, ih]
      simp only [List.map_cons, List.cons.injEq]
      exact ⟨fun h => ⟨e3.1 a1, h⟩, fun h => h.2⟩
    · rw [if_neg a1]
      simp only [List.map_cons, List.cons.injEq]
      exact ⟨fun h => absurd h a1, fun h => absurd (e3.2 h.1) a1⟩
  | [], [], _ => by simp [cmpR]
  | [], _ :: _, h => by simp at h
  | _ :: _, [], h => by simp at h
/-- No variable counts. -/
def constB (a : List Raw) : Bool := (a.take 8).all (fun r => decide (r.q = 0))
end Go.Pl

/- Plain: the sign of a product; bounds of variables. -/
namespace Go.Pl
open Go.AM

theorem sgq_neg_iff {q : Rat} : sgq q < 0 ↔ q < 0 := by
  have h := sgq_lt (x := q) (y := 0)
  have e : q - 0 = q := by grind
  rw [e] at h; exact h
theorem sgq_pos_iff {q : Rat} : 0 < sgq q ↔ 0 < q := by
  have h := sgq_gt (x := q) (y := 0)
  have e : q - 0 = q := by grind
  rw [e] at h; exact h
theorem sgq_of_pos {q : Rat} (h : 0 < q) : sgq q = 1 := by
  have := sgq_pos_iff.2 h
  rcases sgq_range q with h1 | h1 | h1 <;> omega
theorem sgq_of_neg {q : Rat} (h : q < 0) : sgq q = -1 := by
  have := sgq_neg_iff.2 h
  rcases sgq_range q with h1 | h1 | h1 <;> omega
theorem sgq_zero' : sgq 0 = 0 := rfl
theorem sgq_mul (p q : Rat) : sgq (p * q) = sgq p * sgq q := by
  by_cases hp0 : p = 0
  · subst hp0; rw [Rat.zero_mul, sgq_zero', Int.zero_mul]
  by_cases hq0 : q = 0
  · subst hq0; rw [Rat.mul_zero, sgq_zero', Int.mul_zero]
  by_cases hp : 0 < p
  · by_cases hq : 0 < q
    · rw [sgq_of_pos hp, sgq_of_pos hq, sgq_of_pos (Rat.mul_pos hp hq)]; rfl
    · have hq2 : 0 < -q := by grind
      have h := Rat.mul_pos hp hq2
      rw [sgq_of_pos hp, sgq_of_neg (by grind : q < 0), sgq_of_neg (by grind : p * q < 0)]; rfl
  · have hp2 : 0 < -p := by grind
    by_cases hq : 0 < q
    · have h := Rat.mul_pos hp2 hq
      rw [sgq_of_neg (by grind : p < 0), sgq_of_pos hq, sgq_of_neg (by grind : p * q < 0)]; rfl
    · have hq2 : 0 < -q := by grind
      have h := Rat.mul_pos hp2 hq2
      rw [sgq_of_neg (by grind : p < 0), sgq_of_neg (by grind : q < 0), sgq_of_pos (by grind : 0 < p * q)]; rfl
/-- A number at a place, another put at one. -/
theorem set_getD {a : List Raw} {v i : Nat} (hi : i < a.length) : (a.set v rz).getD i rz = if v = i then rz else a.getD i rz := by
  simp only [List.getD_eq_getElem?_getD, List.getElem?_set]
  split
  · rename_i h; subst h; simp [hi]
  · rfl
theorem map_cn_getD {a : List Raw} {i : Nat} (g : Raw → Rat) (hi : i < a.length) : (((a.map g).map cn).getD i rz).q = g (a.getD i rz) := by
  have : ((a.map g).map cn).getD i rz = cn (g (a.getD i rz)) := by simp [List.getD_eq_getElem?_getD, hi]
  rw [this, cn_q]
end Go.Pl
