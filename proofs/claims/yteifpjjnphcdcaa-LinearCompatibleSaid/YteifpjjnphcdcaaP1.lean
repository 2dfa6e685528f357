/- Plain: limbs. -/
import Derived.Test.YteifpjjnphcdcaaA4

namespace Go.Pl

abbrev B : Nat := 4294967296

def val : List Nat → Nat
  | [] => 0
  | d :: l => d + B * val l

def Dig (l : List Nat) : Prop := ∀ d ∈ l, d < B

theorem Dig.nil : Dig [] := by simp [Dig]
theorem Dig.cons {d : Nat} {l : List Nat} (h : Dig (d :: l)) : d < B ∧ Dig l := ⟨h d (by simp), fun x hx => h x (by simp [hx])⟩
theorem Dig.mk {d : Nat} {l : List Nat} (h : d < B) (k : Dig l) : Dig (d :: l) := fun x hx => by
  simp only [List.mem_cons] at hx
  rcases hx with rfl | hx
  · exact h
  · exact k x hx
theorem Dig.take {l : List Nat} (h : Dig l) (n : Nat) : Dig (l.take n) := fun d hd => h d (List.mem_of_mem_take hd)
theorem Dig.drop {l : List Nat} (h : Dig l) (n : Nat) : Dig (l.drop n) := fun d hd => h d (List.mem_of_mem_drop hd)
theorem Dig.app {l k : List Nat} (h : Dig l) (h2 : Dig k) : Dig (l ++ k) := fun d hd => by
  rcases List.mem_append.1 hd with hd | hd
  · exact h d hd
  · exact h2 d hd
theorem Dig.set {l : List Nat} (h : Dig l) (i : Nat) {x : Nat} (hx : x < B) : Dig (l.set i x) := fun d hd => by
  rcases List.mem_or_eq_of_mem_set hd with hd | rfl
  · exact h d hd
  · exact hx
theorem Dig.getD {l : List Nat} (h : Dig l) (i : Nat) : l.getD i 0 < B := by
  by_cases hi : i < l.length
  · have : l.getD i 0 = l[i] := by simp [hi]
    rw [this]; exact h _ (List.getElem_mem hi)
  · have : l.getD i 0 = 0 := by simp [hi]
    rw [this]; decide

theorem Dig.zeros {n : Nat} : Dig (List.replicate n 0) := fun d hd => by
  rw [List.eq_of_mem_replicate hd]; decide

theorem val_append (l k : List Nat) : val (l ++ k) = val l + B ^ l.length * val k := by
  induction l with
  | nil => simp [val]
  | cons d l ih =>
    simp only [List.cons_append, val, ih, List.length_cons, Nat.pow_succ]
    rw [Nat.mul_add, ← Nat.mul_assoc, Nat.mul_comm B (B ^ l.length), Nat.add_assoc]

theorem val_lt {l : List Nat} (h : Dig l) : val l < B ^ l.length := by
  induction l with
  | nil => simp [val]
  | cons d l ih =>
    obtain ⟨h1, h2⟩ := h.cons
    have := ih h2
    simp only [val, List.length_cons, Nat.pow_succ]
    have h3 : val l + 1 ≤ B ^ l.length := this
    have h4 : (val l + 1) * B ≤ B ^ l.length * B := Nat.mul_le_mul_right _ h3
    rw [Nat.add_mul, Nat.mul_comm (val l) B] at h4
    omega

theorem val_zeros (n : Nat) : val (List.replicate n 0) = 0 := by
  induction n with
  | zero => rfl
  | succ n ih => simp [List.replicate_succ, val, ih]

/-- The limbs of a number, none of them zero at the end. -/
def limbs (n : Nat) : List Nat := if h : n = 0 then [] else n % B :: limbs (n / B)
termination_by n
decreasing_by exact Nat.div_lt_self (by omega) (by decide)

theorem limbs_zero : limbs 0 = [] := by rw [limbs]; simp
theorem limbs_pos {n : Nat} (h : n ≠ 0) : limbs n = n % B :: limbs (n / B) := by rw [limbs]; simp [h]

theorem limbs_dig (n : Nat) : Dig (limbs n) := by
  induction n using Nat.strongRecOn with
  | _ n ih =>
    by_cases h : n = 0
    · subst h; rw [limbs_zero]; exact Dig.nil
    · rw [limbs_pos h]
      exact Dig.mk (Nat.mod_lt _ (by decide)) (ih _ (Nat.div_lt_self (by omega) (by decide)))

theorem val_limbs (n : Nat) : val (limbs n) = n := by
  induction n using Nat.strongRecOn with
  | _ n ih =>
    by_cases h : n = 0
    · subst h; rw [limbs_zero]; rfl
    · rw [limbs_pos h]
      simp only [val]
      rw [ih _ (Nat.div_lt_self (by omega) (by decide))]
      exact Nat.mod_add_div n B

theorem limbs_inj {a b : Nat} (h : limbs a = limbs b) : a = b := by rw [← val_limbs a, ← val_limbs b, h]

/-- Without zero limbs at the end. -/
def trimL (l : List Nat) : List Nat := if h : 0 < l.length then (if l.getD (l.length - 1) 0 = 0 then trimL (l.take (l.length - 1)) else l) else l
termination_by l.length
decreasing_by simp [List.length_take]; omega

theorem limbs_of_cons {d : Nat} {l : List Nat} (hd : d < B) (h : d ≠ 0 ∨ val l ≠ 0) : limbs (val (d :: l)) = d :: limbs (val l) := by
  have hne : val (d :: l) ≠ 0 := by
    simp only [val]
    rcases h with h | h
    · omega
    · have : 0 < B * val l := Nat.mul_pos (by decide) (by omega)
      omega
  rw [limbs_pos hne]
  have h1 : (d + B * val l) % B = d := by rw [Nat.add_mul_mod_self_left, Nat.mod_eq_of_lt hd]
  have h2 : (d + B * val l) / B = val l := by rw [Nat.add_mul_div_left _ _ (by decide), Nat.div_eq_of_lt hd, Nat.zero_add]
  simp only [val, h1, h2]

/-- A list whose last limb is not zero is the list of its number. -/
theorem limbs_val {l : List Nat} (hd : Dig l) (h : l = [] ∨ l.getD (l.length - 1) 0 ≠ 0) : limbs (val l) = l := by
  induction l with
  | nil => exact limbs_zero
  | cons d l ih =>
    obtain ⟨h1, h2⟩ := hd.cons
    rcases h with h | h
    · cases h
    by_cases hl : l = []
    · subst hl
      simp at h
      rw [limbs_of_cons h1 (.inl h)]
      simp [val, limbs_zero]
    · obtain ⟨e, k, rfl⟩ := List.exists_cons_of_ne_nil hl
      have h3 : (e :: k).getD ((e :: k).length - 1) 0 ≠ 0 := by
        simpa using h
      have h4 := ih h2 (.inr h3)
      have h5 : val (e :: k) ≠ 0 := by
        intro h0
        rw [h0, limbs_zero] at h4
        cases h4
      rw [limbs_of_cons h1 (.inr h5), h4]

theorem trimL_eq (l : List Nat) (hd : Dig l) : trimL l = limbs (val l) := by
  generalize hn : l.length = n
  induction n generalizing l with
  | zero =>
    have := List.eq_nil_of_length_eq_zero hn
    subst this
    rw [trimL]; simp [val, limbs_zero]
  | succ n ih =>
    rw [trimL, dif_pos (by omega)]
    split
    · rename_i h0
      rw [ih _ (hd.take _) (by simp [hn])]
      have : l = l.take (l.length - 1) ++ [0] := by
        have h1 : l.drop (l.length - 1) = [0] := by
          have hlt : l.length - 1 < l.length := by omega
          rw [List.drop_eq_getElem_cons hlt]
          have h2 : l.getD (l.length - 1) 0 = l[l.length - 1] := by simp [hlt]
          rw [← h2, h0]
          simp
          omega
        conv => lhs; rw [← List.take_append_drop (l.length - 1) l, h1]
      conv => rhs; rw [this, val_append]
      simp [val]
    · rename_i h0
      exact (limbs_val hd (.inr h0)).symm

theorem trimL_limbs (n : Nat) : trimL (limbs n) = limbs n := by rw [trimL_eq _ (limbs_dig n), val_limbs]

theorem limbs_length_le {n k : Nat} (h : n < B ^ k) : (limbs n).length ≤ k := by
  induction k generalizing n with
  | zero =>
    have : n = 0 := by simpa using h
    subst this; rw [limbs_zero]; simp
  | succ k ih =>
    by_cases h0 : n = 0
    · subst h0; rw [limbs_zero]; simp
    · rw [limbs_pos h0, List.length_cons]
      have : n / B < B ^ k := by
        rw [Nat.div_lt_iff_lt_mul (by decide)]
        rw [Nat.pow_succ] at h; exact h
      have := ih this
      omega

theorem lt_of_limbs_length {n : Nat} : n < B ^ (limbs n).length := by
  have := val_lt (limbs_dig n)
  rwa [val_limbs] at this

theorem val_take_succ (l : List Nat) (i : Nat) : val (l.take (i + 1)) = val (l.take i) + B ^ i * l.getD i 0 := by
  by_cases hi : i < l.length
  · rw [List.take_succ_eq_append_getElem hi, val_append]
    have h1 : l.getD i 0 = l[i] := by simp [hi]
    have h2 : (l.take i).length = i := by rw [List.length_take]; omega
    rw [h1, h2]; simp [val]
  · rw [List.take_of_length_le (by omega), List.take_of_length_le (by omega)]
    have h1 : l.getD i 0 = 0 := by simp [hi]
    rw [h1]; simp

theorem val_set_take {l : List Nat} {i : Nat} (hi : i < l.length) (x : Nat) : val ((l.set i x).take (i + 1)) = val (l.take i) + B ^ i * x := by
  rw [val_take_succ]
  have h1 : (l.set i x).take i = l.take i := by rw [List.take_set_of_le (Nat.le_refl i)]
  have h2 : (l.set i x).getD i 0 = x := by simp [hi]
  rw [h1, h2]

theorem val_take_all {l : List Nat} {n : Nat} (h : l.length ≤ n) : val (l.take n) = val l := by rw [List.take_of_length_le h]

theorem carry_step (p s : Nat) : p * (s % B) + s / B * (p * B) = p * s := by
  conv => rhs; rw [← Nat.mod_add_div s B]
  rw [Nat.mul_add, ← Nat.mul_assoc p B, Nat.mul_comm (s / B) (p * B)]

theorem limbs_len_lt {x y : Nat} (h : (limbs x).length < (limbs y).length) : x < y := by
  rcases Nat.lt_or_ge x y with h1 | h1
  · exact h1
  · have h2 : y < B ^ (limbs x).length := Nat.lt_of_le_of_lt h1 lt_of_limbs_length
    have := limbs_length_le h2
    omega

theorem val_drop (l : List Nat) (k : Nat) (hk : k ≤ l.length) : val l = val (l.take k) + B ^ k * val (l.drop k) := by
  conv => lhs; rw [← List.take_append_drop k l, val_append]
  rw [List.length_take, Nat.min_eq_left hk]

/-- The first limb from above that differs decides. -/
theorem digit_lt {p q : List Nat} {j : Nat} (hp : Dig p) (hjp : j < p.length) (hjq : j < q.length) (hd : p.drop (j + 1) = q.drop (j + 1)) (h : p.getD j 0 < q.getD j 0) : val p < val q := by
  rw [val_drop p (j + 1) (by omega), val_drop q (j + 1) (by omega), hd, val_take_succ, val_take_succ]
  have h1 := val_lt (hp.take j)
  rw [List.length_take, Nat.min_eq_left (by omega)] at h1
  have h2 : B ^ j * (p.getD j 0 + 1) ≤ B ^ j * q.getD j 0 := Nat.mul_le_mul_left _ h
  rw [Nat.mul_add] at h2
  omega

/-- As Go's Cmp answers. -/
def cmpN (x y : Nat) : Int := if x < y then -1 else if y < x then 1 else 0
theorem cmpN_lt {x y : Nat} (h : x < y) : cmpN x y = -1 := by simp [cmpN, h]
theorem cmpN_gt {x y : Nat} (h : y < x) : cmpN x y = 1 := by simp [cmpN, h]; omega
theorem cmpN_eq {x : Nat} : cmpN x x = 0 := by simp [cmpN]

/-- A number's slice. -/
def N (n : Nat) : AM.FV := .sl (AM.u32s (limbs n))

end Go.Pl

/- Plain: words and bits. -/
namespace Go.Pl
open Go.AM

theorem or_add {x y : Nat} (k : Nat) (hx : x % 2 ^ k = 0) (hy : y < 2 ^ k) : x ||| y = x + y := by
  obtain ⟨h, rfl⟩ : ∃ h, x = 2 ^ k * h := ⟨x / 2 ^ k, by have := Nat.mod_add_div x (2 ^ k); omega⟩
  exact (Nat.two_pow_add_eq_or_of_lt hy h).symm

theorem toNat_ofInt64 {x : Int} (h : 0 ≤ x ∧ x < 18446744073709551616) : (BitVec.ofInt IntKind.u64.bits x).toNat = x.toNat := by
  show (BitVec.ofInt 64 x).toNat = x.toNat
  rw [BitVec.toNat_ofInt]
  have : ((2 ^ 64 : Nat) : Int) = 18446744073709551616 := by decide
  rw [this]
  omega
theorem toNat_ofInt32 {x : Int} (h : 0 ≤ x ∧ x < 4294967296) : (BitVec.ofInt IntKind.u32.bits x).toNat = x.toNat := by
  show (BitVec.ofInt 32 x).toNat = x.toNat
  rw [BitVec.toNat_ofInt]
  have : ((2 ^ 32 : Nat) : Int) = 4294967296 := by decide
  rw [this]
  omega

theorem wrapT64 (z : BitVec IntKind.u64.bits) : IntKind.u64.wrap (z.toNat : Int) = (z.toNat : Int) := by
  have : z.toNat < 2 ^ 64 := z.isLt
  rw [wrapU64c (by omega)]
theorem wrapT32 (z : BitVec IntKind.u32.bits) : IntKind.u32.wrap (z.toNat : Int) = (z.toNat : Int) := by
  have : z.toNat < 2 ^ 32 := z.isLt
  rw [wrap32c (by omega)]
theorem ofInt_toNat {w : Nat} (z : BitVec w) : BitVec.ofInt w (z.toNat : Int) = z := by
  rw [BitVec.ofInt_natCast, BitVec.ofNat_toNat, BitVec.setWidth_eq]

/-- Two words put together. -/
theorem or64s {x y : Int} (hx : 0 ≤ x ∧ x < 18446744073709551616 ∧ x % 4294967296 = 0) (hy : 0 ≤ y ∧ y < 4294967296) :
    IntKind.u64.wrap ((BitVec.ofInt IntKind.u64.bits x ||| BitVec.ofInt IntKind.u64.bits y).toNat : Int) = x + y := by
  rw [wrapT64, BitVec.toNat_or, toNat_ofInt64 (by omega), toNat_ofInt64 (by omega), or_add 32 (by omega) (by omega)]
  omega
theorem or64t {x y : Int} (hy : 0 ≤ y ∧ y < 18446744073709551616 ∧ y % 4294967296 = 0) (hx : 0 ≤ x ∧ x < 4294967296) :
    IntKind.u64.wrap ((BitVec.ofInt IntKind.u64.bits x ||| BitVec.ofInt IntKind.u64.bits y).toNat : Int) = x + y := by
  rw [wrapT64, BitVec.toNat_or, toNat_ofInt64 (by omega), toNat_ofInt64 (by omega), Nat.or_comm, or_add 32 (by omega) (by omega)]
  omega
/-- The low word. -/
theorem and64 {x : Int} (hx : 0 ≤ x ∧ x < 18446744073709551616) :
    IntKind.u64.wrap ((BitVec.ofInt IntKind.u64.bits x &&& BitVec.ofInt IntKind.u64.bits 4294967295).toNat : Int) = x % 4294967296 := by
  rw [wrapT64, BitVec.toNat_and, toNat_ofInt64 (by omega), toNat_ofInt64 (by omega)]
  have : (4294967295 : Int).toNat = 2 ^ 32 - 1 := by decide
  rw [this, Nat.and_two_pow_sub_one_eq_mod]
  omega

theorem msb32 (z : BitVec 32) : z.toNat / 2147483648 = if z.msb then 1 else 0 := by
  have h1 : z.toNat < 2 ^ 32 := z.isLt
  rw [BitVec.msb_eq_decide]
  by_cases h : 2 ^ (32 - 1) ≤ z.toNat
  · simp only [h, decide_true, if_true]; omega
  · simp only [h, decide_false]; simp; omega

theorem mul_step {v v0 P c x y o lo ca Q Bi Bk : Nat} (hP : P = Bi * Bk) (hv : v + c * P = v0 + x * Q * Bi) (hs : lo + ca * 4294967296 = x * y + o + c) :
    v + P * lo + ca * (P * 4294967296) = v0 + P * o + x * (Q + Bk * y) * Bi := by
  subst hP
  grind
theorem mul_digit {m o c : Nat} (hm : m ≤ 18446744065119617025) (ho : o < 4294967296) (hc : c < 4294967296) :
    ((m % 4294967296 + o + 0) % 4294967296 + c + 0) % 4294967296 + (m / 4294967296 + (m % 4294967296 + o + 0) / 4294967296 + ((m % 4294967296 + o + 0) % 4294967296 + c + 0) / 4294967296) * 4294967296 = m + o + c ∧
    m / 4294967296 + (m % 4294967296 + o + 0) / 4294967296 + ((m % 4294967296 + o + 0) % 4294967296 + c + 0) / 4294967296 < 4294967296 := by
  omega
theorem val_drop_succ {l : List Nat} {j : Nat} (h : j < l.length) : val (l.drop j) = l.getD j 0 + B * val (l.drop (j + 1)) := by
  rw [List.drop_eq_getElem_cons h]
  simp [val, h]
theorem val_drop_set {l : List Nat} {j x : Nat} (h : j < l.length) : val ((l.set j x).drop j) = x + B * val (l.drop (j + 1)) := by
  rw [val_drop_succ (by simpa using h)]
  have h1 : (l.set j x).getD j 0 = x := by simp [h]
  rw [h1, List.drop_set_of_lt (by omega)]
theorem or32 {x y : Nat} (k : Nat) (hx : x < 2 ^ k) (hy : y % 2 ^ k = 0) (hx2 : x < 4294967296) (hy2 : y < 4294967296) :
    IntKind.u32.wrap ((BitVec.ofInt IntKind.u32.bits (x : Int) ||| BitVec.ofInt IntKind.u32.bits (y : Int)).toNat : Int) = ((x + y : Nat) : Int) := by
  rw [wrapT32, BitVec.toNat_or, toNat_ofInt32 (by omega), toNat_ofInt32 (by omega), Int.toNat_natCast, Int.toNat_natCast, Nat.or_comm, or_add k hy hx, Nat.add_comm]
theorem mul_pow_mod {d k : Nat} (hk : k ≤ 32) : (d * 2 ^ k) % 4294967296 % 2 ^ k = 0 := by
  have h : 4294967296 = 2 ^ k * 2 ^ (32 - k) := by
    rw [← Nat.pow_add, show k + (32 - k) = 32 by omega]
  rw [h, Nat.mod_mul_right_mod, Nat.mul_mod_left]
theorem top_room {a k : Nat} (hk : k ≤ 32) (h : a % 2 ^ k = 0) (ha : a < 4294967296) : a + 2 ^ k ≤ 4294967296 := by
  have hb : 4294967296 = 2 ^ k * 2 ^ (32 - k) := by
    rw [← Nat.pow_add, show k + (32 - k) = 32 by omega]
  obtain ⟨t, rfl⟩ : ∃ t, a = 2 ^ k * t := ⟨a / 2 ^ k, by have := Nat.mod_add_div a (2 ^ k); omega⟩
  have h1 : 2 ^ k * t < 2 ^ k * 2 ^ (32 - k) := by rw [← hb]; exact ha
  have h2 : t < 2 ^ (32 - k) := Nat.lt_of_mul_lt_mul_left h1
  have h3 : 2 ^ k * (t + 1) ≤ 2 ^ k * 2 ^ (32 - k) := Nat.mul_le_mul_left _ h2
  rw [Nat.mul_add, Nat.mul_one, ← hb] at h3
  exact h3
/-- The n limbs of a number. -/
def digs : Nat → Nat → List Nat
  | 0, _ => []
  | n + 1, x => x % B :: digs n (x / B)
theorem digs_length (n x : Nat) : (digs n x).length = n := by
  induction n generalizing x with
  | zero => rfl
  | succ n ih => simp [digs, ih]
theorem digs_dig (n x : Nat) : Dig (digs n x) := by
  induction n generalizing x with
  | zero => exact Dig.nil
  | succ n ih => exact Dig.mk (Nat.mod_lt _ (by decide)) (ih _)
theorem digs_eq {l : List Nat} (h : Dig l) : l = digs l.length (val l) := by
  induction l with
  | nil => rfl
  | cons d l ih =>
    obtain ⟨h1, h2⟩ := h.cons
    simp only [List.length_cons, digs, val]
    rw [Nat.add_mul_mod_self_left, Nat.mod_eq_of_lt h1, Nat.add_mul_div_left _ _ (by decide), Nat.div_eq_of_lt h1, Nat.zero_add, ← ih h2]
theorem val_digs {n x : Nat} (h : x < B ^ n) : val (digs n x) = x := by
  induction n generalizing x with
  | zero => simp at h; subst h; rfl
  | succ n ih =>
    have h1 : x / B < B ^ n := by
      rw [Nat.div_lt_iff_lt_mul (by decide)]
      rw [Nat.pow_succ] at h; exact h
    simp only [digs, val]
    rw [ih h1]
    exact Nat.mod_add_div x B
/-- The borrow of math/bits.Sub32. -/
theorem borrow32 (a b c : Nat) (ha : a < 4294967296) (hb : b < 4294967296) (hc : c ≤ 1) :
    ((~~~(BitVec.ofNat 32 a) &&& BitVec.ofNat 32 b ||| ~~~(BitVec.ofNat 32 a ^^^ BitVec.ofNat 32 b) &&& BitVec.ofNat 32 (4294967296 + a - b - c)) : BitVec 32).toNat / 2147483648 = if a < b + c then 1 else 0 := by
  rw [msb32]
  simp only [BitVec.msb_or, BitVec.msb_and, BitVec.msb_not, BitVec.msb_xor]
  simp only [BitVec.msb_eq_decide, BitVec.toNat_ofNat]
  have e1 : a % 2 ^ 32 = a := Nat.mod_eq_of_lt (by omega)
  have e2 : b % 2 ^ 32 = b := Nat.mod_eq_of_lt (by omega)
  rw [e1, e2]
  generalize hd : (4294967296 + a - b - c) % 2 ^ 32 = d
  by_cases h1 : 2 ^ (32 - 1) ≤ a <;> by_cases h2 : 2 ^ (32 - 1) ≤ b <;> by_cases h3 : 2 ^ (32 - 1) ≤ d <;> by_cases h4 : a < b + c <;> simp [h1, h2, h3, h4] <;> omega

theorem umax32 : (if IntKind.u32.signed = true then (-1 : Int) else IntKind.u32.max) = 4294967295 := by decide
theorem xorT (x : BitVec IntKind.u32.bits) : BitVec.ofInt IntKind.u32.bits 4294967295 ^^^ x = ~~~x := by
  have : (BitVec.ofInt IntKind.u32.bits 4294967295) = BitVec.allOnes IntKind.u32.bits := by decide
  rw [this, BitVec.allOnes_xor]
theorem ofIntN (n : Nat) : BitVec.ofInt IntKind.u32.bits (n : Int) = BitVec.ofNat IntKind.u32.bits n := BitVec.ofInt_natCast _ _

end Go.Pl

/- Plain: a limb of the quotient (Knuth's algorithm D). -/
namespace Go.Pl

/-- No estimate is below the quotient: from the first limbs. -/
theorem kn_first {w v first low top vl P : Nat} (hP : 0 < P) (hw : w = first * P + low) (hl : low < P) (hv : v = top * P + vl) {q : Nat} (hq : q * v ≤ w) : q * top ≤ first := by
  have h1 : q * top * P ≤ q * v := by
    rw [hv, Nat.mul_add, Nat.mul_assoc]
    exact Nat.le_add_right _ _
  have h2 : q * top * P < (first + 1) * P := by
    rw [Nat.add_mul, Nat.one_mul]; omega
  have := Nat.lt_of_mul_lt_mul_right h2
  omega

/-- What the first two limbs allow, the quotient allows but for one. -/
theorem kn_exit {w v w2 v2 lw lv Q g : Nat} (hw : w = w2 * Q + lw) (hv : v = v2 * Q + lv) (hl : lv < Q) (hg : g * v2 ≤ w2) (hgb : g ≤ v2) : (g - 1) * v ≤ w := by
  rcases Nat.eq_zero_or_pos g with h0 | h0
  · subst h0; simp
  obtain ⟨k, rfl⟩ : ∃ k, g = k + 1 := ⟨g - 1, by omega⟩
  rw [Nat.add_sub_cancel, hw, hv]
  have h1 : k * lv ≤ k * Q := Nat.mul_le_mul_left _ (by omega)
  have h2 : (k + 1) * v2 * Q ≤ w2 * Q := Nat.mul_le_mul_right _ hg
  have h3 : k * Q ≤ v2 * Q := Nat.mul_le_mul_right _ (by omega)
  have h4 : (k + 1) * v2 * Q = k * (v2 * Q) + v2 * Q := by grind
  rw [Nat.mul_add]
  omega

/-- The quotient and the estimate: what is asked at the loop's head. -/
structure KnInv (first top q g r : Nat) : Prop where
  sum : g * top + r = first
  low : q ≤ g

theorem kn_start {first top q : Nat} (ht : 0 < top) (h : q * top ≤ first) : KnInv first top q (first / top) (first % top) :=
  ⟨by have := Nat.div_add_mod first top; rw [Nat.mul_comm] at this; exact this, (Nat.le_div_iff_mul_le ht).2 h⟩

theorem kn_next {first top q g r : Nat} (h : KnInv first top q g r) (hlt : q < g) : KnInv first top q (g - 1) (r + top) := by
  obtain ⟨k, rfl⟩ : ∃ k, g = k + 1 := ⟨g - 1, by omega⟩
  refine ⟨?_, by omega⟩
  have := h.sum
  rw [Nat.add_mul, Nat.one_mul] at this
  rw [Nat.add_sub_cancel]
  omega

/-- The test fails: the estimate is too great. -/
theorem kn_test {w v w2 first u2 top second lw lv Q q g r : Nat} (hQ : 0 < Q) (hw : w = w2 * Q + lw) (hlw : lw < Q) (hw2 : w2 = first * 4294967296 + u2) (hv : v = (top * 4294967296 + second) * Q + lv) (hq : q * v ≤ w)
    (h : KnInv first top q g r) (ht : r * 4294967296 + u2 < g * second) : q < g := by
  rcases Nat.lt_or_ge q g with h1 | h1
  · exact h1
  exfalso
  have h2 := kn_first hQ hw hlw hv hq
  have h3 : g * (top * 4294967296 + second) ≤ q * (top * 4294967296 + second) := Nat.mul_le_mul_right _ h1
  have h4 := h.sum
  have h5 : g * (top * 4294967296 + second) = (g * top) * 4294967296 + g * second := by grind
  omega

/-- The test is passed: the two limbs allow the estimate. -/
theorem kn_pass {first u2 top second g r q : Nat} (h : KnInv first top q g r) (ht : g * second ≤ r * 4294967296 + u2) : g * (top * 4294967296 + second) ≤ first * 4294967296 + u2 := by
  have h4 := h.sum
  have h5 : g * (top * 4294967296 + second) = (g * top) * 4294967296 + g * second := by grind
  omega

/-- The remainder of the estimate has outgrown a limb: the estimate is a limb, and the test is passed. -/
theorem kn_big {first top second g r q : Nat} (h : KnInv first top q g r) (hr : 4294967296 ≤ r) (hf : first ≤ top * 4294967296 + 4294967295) (hs : second < 4294967296) : g < 4294967296 ∧ g * second ≤ r * 4294967296 := by
  have h4 := h.sum
  have h1 : g * top < 4294967296 * top := by omega
  have hg : g < 4294967296 := Nat.lt_of_mul_lt_mul_right h1
  refine ⟨hg, ?_⟩
  have h2 : g * second ≤ r * second := Nat.mul_le_mul_right _ (by omega)
  have h3 : r * second ≤ r * 4294967296 := Nat.mul_le_mul_left _ (by omega)
  exact Nat.le_trans h2 h3

/-- The estimate starts at no more than a limb and one. -/
theorem kn_top {first top : Nat} (ht : 2147483648 ≤ top) (hf : first ≤ top * 4294967296 + 4294967295) : first / top ≤ 4294967297 := by
  have : first / top < 4294967298 := by
    rw [Nat.div_lt_iff_lt_mul (by omega)]
    omega
  omega

/-- One limb of the product taken off. -/
theorem kn_sub {ui c b p : Nat} (hu : ui < 4294967296) (hb : b ≤ 1) (hc : c < 18446744073709551616 - 2) (hcb : c / 4294967296 < 4294967296) :
    ∃ d b2, d < 4294967296 ∧ b2 ≤ 1 ∧ d + c % 4294967296 + b = ui + b2 * 4294967296 := by
  by_cases h : c % 4294967296 + b ≤ ui
  · exact ⟨ui - (c % 4294967296 + b), 0, by omega, by omega, by omega⟩
  · exact ⟨ui + 4294967296 - (c % 4294967296 + b), 1, by omega, by omega, by omega⟩

end Go.Pl

/- Plain: windows in a list of limbs, and the arithmetic of one round of the long division. -/
namespace Go.Pl
open Go.AM

/-- The number of the i limbs from j on. -/
def seg (u : List Nat) (j i : Nat) : Nat := val ((u.drop j).take i)

theorem getD_drop' (u : List Nat) (j i : Nat) : (u.drop j).getD i 0 = u.getD (j + i) 0 := by
  simp [List.getD_eq_getElem?_getD, List.getElem?_drop]
theorem seg_zero (u : List Nat) (j : Nat) : seg u j 0 = 0 := by simp [seg, val]
theorem seg_succ (u : List Nat) (j i : Nat) : seg u j (i + 1) = seg u j i + B ^ i * u.getD (j + i) 0 := by
  unfold seg
  rw [val_take_succ, getD_drop']
theorem seg_set {u : List Nat} {j i : Nat} (h : j + i < u.length) (x : Nat) : seg (u.set (j + i) x) j (i + 1) = seg u j i + B ^ i * x := by
  unfold seg
  have h1 : (u.set (j + i) x).drop j = (u.drop j).set i x := by
    rw [List.drop_set]
    rw [if_neg (by omega), Nat.add_sub_cancel_left]
  rw [h1, val_set_take (by rw [List.length_drop]; omega)]
theorem seg_lt {u : List Nat} (hu : Dig u) (j i : Nat) : seg u j i < B ^ i := by
  unfold seg
  have h := val_lt ((hu.drop j).take i)
  have h2 : ((u.drop j).take i).length ≤ i := by rw [List.length_take]; omega
  exact Nat.lt_of_lt_of_le h (Nat.pow_le_pow_right (by decide) h2)
/-- A whole list, a window of it apart. -/
theorem val_seg {u : List Nat} {j n : Nat} (h : j + n ≤ u.length) : val u = val (u.take j) + B ^ j * (seg u j n + B ^ n * val (u.drop (j + n))) := by
  rw [val_drop u j (by omega)]
  congr 2
  rw [val_drop (u.drop j) n (by rw [List.length_drop]; omega)]
  unfold seg
  rw [List.drop_drop]
theorem seg_congr {u w : List Nat} {j i : Nat} (h : ∀ t, j ≤ t → t < j + i → u.getD t 0 = w.getD t 0) : seg u j i = seg w j i := by
  induction i with
  | zero => rw [seg_zero, seg_zero]
  | succ i ih =>
    rw [seg_succ, seg_succ, ih (fun t h1 h2 => h t h1 (by omega)), h (j + i) (by omega) (by omega)]

theorem sub64 {a c b : Int} : IntKind.u64.wrap (IntKind.u64.wrap (a - c) - b) = (a - c - b) % 18446744073709551616 := by
  rw [wrapU64, wrapU64]; omega

/-- One limb of the product taken off: the new limb, the new borrow. -/
theorem sub_limb {a c b : Nat} (ha : a < 4294967296) (hc : c < 4294967296) (hb : b ≤ 1) :
    ∃ d b2 : Nat, d < 4294967296 ∧ b2 ≤ 1 ∧ d + c + b = a + b2 * 4294967296 ∧ ((a : Int) - c - b) % 18446744073709551616 % 4294967296 = (d : Int) ∧ ((a : Int) - c - b) % 18446744073709551616 / 9223372036854775808 = (b2 : Int) := by
  by_cases h : c + b ≤ a
  · exact ⟨a - (c + b), 0, by omega, by omega, by omega, by omega, by omega⟩
  · exact ⟨a + 4294967296 - (c + b), 1, by omega, by omega, by omega, by omega, by omega⟩

/-- A step of the loop that takes off. -/
theorem mulsub_step {S S0 P g Vt v c b a d b2 : Nat} (hv : S + g * Vt = S0 + (c + b) * P) (h : d + (c + g * v) % 4294967296 + b = a + b2 * 4294967296) :
    S + P * d + g * (Vt + P * v) = S0 + P * a + ((c + g * v) / 4294967296 + b2) * (P * 4294967296) := by
  have h1 := Nat.mod_add_div (c + g * v) 4294967296
  generalize (c + g * v) % 4294967296 = lo at *
  generalize (c + g * v) / 4294967296 = hi at *
  have h2 : P * d + P * lo + P * b = P * a + b2 * (P * 4294967296) := by
    have := congrArg (P * ·) h

    grind
  have h3 : P * lo + hi * (P * 4294967296) = P * c + g * (P * v) := by
    have := congrArg (P * ·) h1

    grind
  have h4 : (c + b) * P = P * c + P * b := by grind
  have h5 : (hi + b2) * (P * 4294967296) = hi * (P * 4294967296) + b2 * (P * 4294967296) := by rw [Nat.add_mul]
  rw [h5, Nat.mul_add g]
  omega

/-- A round's end, nothing borrowed: the estimate is the quotient's limb. -/
theorem round_ok {W W1 g V : Nat} (h : W1 + g * V = W) (hq : W < (g + 1) * V) : W1 < V := by
  rw [Nat.add_mul, Nat.one_mul] at hq
  omega

/-- A round's end, a borrow: one estimate less, the divisor added back. -/
theorem round_back {W W1 W2 g V M c : Nat} (hV : V ≤ M) (h : W1 + g * V = W + M) (hg : 0 < g) (hlow : (g - 1) * V ≤ W) (hhi : W < g * V) (h2 : W2 + c * M = W1 + V) (hW2 : W2 < M) : W2 + (g - 1) * V = W ∧ W2 < V := by
  obtain ⟨k, rfl⟩ : ∃ k, g = k + 1 := ⟨g - 1, by omega⟩
  rw [Nat.add_sub_cancel] at *
  rw [Nat.add_mul, Nat.one_mul] at h hhi
  have h3 : W2 + c * M + k * V = W + M := by omega
  rcases Nat.lt_trichotomy c 1 with hc | hc | hc
  · have : c = 0 := by omega
    subst this
    omega
  · subst hc
    omega
  · exfalso
    have : 2 * M ≤ c * M := Nat.mul_le_mul_right _ hc
    omega

end Go.Pl

/- Plain: the rounds of the long division. -/
namespace Go.Pl
open Go.AM

theorem seg_full {u : List Nat} {j n : Nat} (h : j + n ≤ u.length) : val (u.drop j) = seg u j n + B ^ n * val (u.drop (j + n)) := by
  unfold seg
  rw [val_drop (u.drop j) n (by rw [List.length_drop]; omega), List.drop_drop]

theorem getD_of_drop {u w : List Nat} {j : Nat} (hl : u.length = w.length) (h : ∀ t, j ≤ t → u.getD t 0 = w.getD t 0) : u.drop j = w.drop j := by
  apply List.ext_getElem?
  intro i
  rw [List.getElem?_drop, List.getElem?_drop]
  have := h (j + i) (by omega)
  by_cases hi : j + i < u.length
  · have hw : j + i < w.length := by omega
    simp [hi, hw] at this
    rw [List.getElem?_eq_getElem hi, List.getElem?_eq_getElem hw, this]
  · rw [List.getElem?_eq_none (by omega), List.getElem?_eq_none (by omega)]
theorem getD_of_take {u w : List Nat} {j : Nat} (hl : u.length = w.length) (h : ∀ t, t < j → u.getD t 0 = w.getD t 0) : u.take j = w.take j := by
  apply List.ext_getElem?
  intro i
  rw [List.getElem?_take, List.getElem?_take]
  split
  · have := h i (by omega)
    by_cases hi : i < u.length
    · have hw : i < w.length := by omega
      simp [hi, hw] at this
      rw [List.getElem?_eq_getElem hi, List.getElem?_eq_getElem hw, this]
    · rw [List.getElem?_eq_none (by omega), List.getElem?_eq_none (by omega)]
  · rfl

theorem lh_seg {s0 a1 a2 P : Nat} : s0 + P * a2 + P * 4294967296 * a1 = (a1 * 4294967296 + a2) * P + s0 := by grind
theorem lh_two {f P s a : Nat} : f * (P * 4294967296) + (s + P * a) = (f * 4294967296 + a) * P + s := by grind
theorem lh_first {V W f s r t P : Nat} (hk : V = t * P + r) (hr : r < P) (hW : W < V * 4294967296) (hf : W = f * P + s) : f ≤ t * 4294967296 + 4294967295 := by
  have h4 : V * 4294967296 ≤ (t * P + P) * 4294967296 := Nat.mul_le_mul_right _ (by omega)
  have h5 : (t * P + P) * 4294967296 = (t * 4294967296 + 4294967296) * P := by grind
  have h6 : f * P < (t * 4294967296 + 4294967296) * P := by omega
  have := Nat.lt_of_mul_lt_mul_right h6
  omega
theorem lh_all {d0 d1 V : Nat} (h0 : d0 < 4294967296) (h : d1 < V) : d0 + 4294967296 * d1 < V * 4294967296 := by omega
theorem lh_tail {s P x M : Nat} (h : s + P * x < M) (hM : M ≤ P) : x = 0 := by
  rcases Nat.eq_zero_or_pos x with h1 | h1
  · exact h1
  · exfalso
    have : P * 1 ≤ P * x := Nat.mul_le_mul_left _ h1
    omega
structure LongHead (u v : List Nat) (j n : Nat) : Prop where
  all : val (u.drop j) = seg u j (n + 1)
  tail : val (u.drop (j + n + 1)) = 0
  h1 : seg u j (n + 1) = (u.getD (j + n) 0 * 4294967296 + u.getD (j + n - 1) 0) * B ^ (n - 1) + seg u j (n - 1)
  h2 : seg u j (n + 1) = ((u.getD (j + n) 0 * 4294967296 + u.getD (j + n - 1) 0) * 4294967296 + u.getD (j + n - 2) 0) * B ^ (n - 2) + seg u j (n - 2)
  v1 : val v = v.getD (n - 1) 0 * B ^ (n - 1) + val (v.take (n - 1))
  v2 : val v = (v.getD (n - 1) 0 * 4294967296 + v.getD (n - 2) 0) * B ^ (n - 2) + val (v.take (n - 2))
  lt : seg u j (n + 1) < val v * B
  first : u.getD (j + n) 0 * 4294967296 + u.getD (j + n - 1) 0 ≤ v.getD (n - 1) 0 * 4294967296 + 4294967295
  l1 : val (v.take (n - 1)) < B ^ (n - 1)
  l2 : val (v.take (n - 2)) < B ^ (n - 2)
  s1 : seg u j (n - 1) < B ^ (n - 1)
  s2 : seg u j (n - 2) < B ^ (n - 2)

theorem long_head {u v : List Nat} {j n : Nat} (hu : Dig u) (hv : Dig v) (hvl : v.length = n) (hn : 2 ≤ n) (hj : j + n + 1 ≤ u.length) (hlt : val (u.drop (j + 1)) < val v) : LongHead u v j n := by
  obtain ⟨p, rfl⟩ : ∃ p, n = p + 2 := ⟨n - 2, by omega⟩
  have hV := val_lt hv
  rw [hvl] at hV
  have hf := seg_full (u := u) (j := j) (n := p + 2 + 1) (by omega)
  have hd := val_drop_succ (l := u) (j := j) (by omega)
  have hj0 : u.getD j 0 < 4294967296 := hu.getD j
  have hW : val (u.drop j) < val v * 4294967296 := by
    rw [hd]
    exact lh_all hj0 hlt
  have hW2 : val v * 4294967296 ≤ B ^ (p + 2 + 1) := by
    rw [Nat.pow_succ]
    exact Nat.mul_le_mul_right _ (Nat.le_of_lt hV)
  have ht : val (u.drop (j + (p + 2 + 1))) = 0 := by
    rw [hf] at hW
    exact lh_tail hW hW2
  have hall : val (u.drop j) = seg u j (p + 2 + 1) := by
    rw [hf, ht, Nat.mul_zero, Nat.add_zero]
  have c1 : p + 2 - 1 = p + 1 := by omega
  have c2 : p + 2 - 2 = p := by omega
  have c3 : j + (p + 2) - 1 = j + (p + 1) := by omega
  have c4 : j + (p + 2) - 2 = j + p := by omega
  have e1 := seg_succ u j (p + 2)
  have e2 := seg_succ u j (p + 1)
  have e3 := seg_succ u j p
  have w1 := val_take_succ v (p + 1)
  have w2 := val_take_succ v p
  have w0 : val (v.take (p + 1 + 1)) = val v := val_take_all (by omega)
  have hp1 : ∀ i, B ^ (i + 1) = B ^ i * 4294967296 := fun i => Nat.pow_succ _ _
  have g1 : seg u j (p + 2 + 1) = (u.getD (j + (p + 2)) 0 * 4294967296 + u.getD (j + (p + 1)) 0) * B ^ (p + 1) + seg u j (p + 1) := by
    rw [e1, e2, hp1 (p + 1)]
    exact lh_seg
  have k1 : val v = v.getD (p + 1) 0 * B ^ (p + 1) + val (v.take (p + 1)) := by
    rw [← w0, w1, Nat.add_comm, Nat.mul_comm]
  have q1 : val (v.take (p + 1)) < B ^ (p + 1) := by
    have := val_lt (hv.take (p + 1))
    rw [List.length_take, Nat.min_eq_left (by omega)] at this
    exact this
  have q2 : val (v.take p) < B ^ p := by
    have := val_lt (hv.take p)
    rw [List.length_take, Nat.min_eq_left (by omega)] at this
    exact this
  refine ⟨hall, ht, ?_, ?_, ?_, ?_, ?_, ?_, ?_, ?_, ?_, ?_⟩
  · rw [c1, c3]; exact g1
  · rw [c2, c3, c4, g1, e3, hp1]
    exact lh_two
  · rw [c1]; exact k1
  · rw [c1, c2, k1, w2, hp1]
    generalize B ^ p = P
    grind
  · rw [← hall]; exact hW
  · rw [c1, c3]
    rw [hall] at hW
    exact lh_first k1 q1 hW g1
  · rw [c1]; exact q1
  · rw [c2]; exact q2
  · rw [c1]; exact seg_lt hu _ _
  · rw [c2]; exact seg_lt hu _ _

theorem long_round {u u4 qd : List Nat} {j n A g V : Nat} (hl : u4.length = u.length) (hjn : j + n + 1 ≤ u.length) (hjq : j < qd.length)
    (hag : ∀ t, (t < j ∨ j + n + 1 ≤ t) → u4.getD t 0 = u.getD t 0) (htail : val (u.drop (j + n + 1)) = 0)
    (hW : seg u4 j (n + 1) + g * V = seg u j (n + 1)) (hlt : seg u4 j (n + 1) < V) (hinv : val u + V * (B ^ (j + 1) * val (qd.drop (j + 1))) = A) :
    val u4 + V * (B ^ j * val ((qd.set j g).drop j)) = A ∧ val (u4.drop j) < V := by
  have h1 : u4.drop (j + n + 1) = u.drop (j + n + 1) := getD_of_drop hl (fun t ht => hag t (Or.inr ht))
  have h2 : u4.take j = u.take j := getD_of_take hl (fun t ht => hag t (Or.inl ht))
  have h3 := val_seg (u := u) (j := j) (n := n + 1) (by omega)
  have h4 := val_seg (u := u4) (j := j) (n := n + 1) (by omega)
  have h5 := seg_full (u := u4) (j := j) (n := n + 1) (by omega)
  rw [show j + (n + 1) = j + n + 1 by omega] at h3 h4 h5
  rw [h1, htail] at h4 h5
  rw [htail] at h3
  rw [Nat.mul_zero, Nat.add_zero] at h3 h4 h5
  have h6 := val_drop_set (l := qd) (j := j) (x := g) hjq
  refine ⟨?_, by rw [h5]; exact hlt⟩
  rw [h6, h4, h2, ← hinv, h3, ← hW, Nat.pow_succ]
  generalize val (u.take j) = x1
  generalize B ^ j = x2
  generalize seg u4 j (n + 1) = x3
  generalize val (qd.drop (j + 1)) = x4
  grind

/-- What the estimate leaves to know. -/
theorem guess_low {u v : List Nat} {j n g : Nat} (h : LongHead u v j n) (hg : g < 4294967296) (htop : 2147483648 ≤ v.getD (n - 1) 0)
    (h2 : g * (v.getD (n - 1) 0 * 4294967296 + v.getD (n - 2) 0) ≤ (u.getD (j + n) 0 * 4294967296 + u.getD (j + n - 1) 0) * 4294967296 + u.getD (j + n - 2) 0) :
    (g - 1) * val v ≤ seg u j (n + 1) :=
  kn_exit h.h2 h.v2 h.l2 h2 (by omega)
theorem long_last {S1 S S0 U P g V c b x d b2 : Nat} (hset : S1 = S + P * d) (hss : U = S0 + P * x) (hsum : S + g * V = S0 + (c + b) * P) (hdb : d + c + b = x + b2 * 4294967296) :
    S1 + g * V = U + b2 * (P * 4294967296) := by
  have h1 : P * d + P * c + P * b = P * x + b2 * (P * 4294967296) := by
    have := congrArg (P * ·) hdb

    grind
  have h2 : (c + b) * P = P * c + P * b := by grind
  omega
theorem addback_step {S S0 P Vt c z y cc : Nat} (hs : S + c * P = S0 + Vt) (hcc : c + (z + y) = cc) :
    S + P * (cc % 4294967296) + cc / 4294967296 * (P * 4294967296) = S0 + P * z + (Vt + P * y) := by
  have h1 := Nat.mod_add_div cc 4294967296
  have h2 : P * (cc % 4294967296) + cc / 4294967296 * (P * 4294967296) = P * cc := by
    have := congrArg (P * ·) h1

    grind
  have h3 : P * cc = P * c + P * z + P * y := by rw [← hcc]; grind
  have h4 : P * c = c * P := Nat.mul_comm _ _
  omega
theorem addback_last {S1 S U S0 P V c z : Nat} (hset : S1 = S + P * ((z + c) % 4294967296)) (hss : U = S0 + P * z) (hs : S + c * P = S0 + V) :
    S1 + (z + c) / 4294967296 * (P * 4294967296) = U + V := by
  have h1 := Nat.mod_add_div (z + c) 4294967296
  have h2 : P * ((z + c) % 4294967296) + (z + c) / 4294967296 * (P * 4294967296) = P * (z + c) := by
    have := congrArg (P * ·) h1

    grind
  have h3 : P * (z + c) = P * z + c * P := by grind
  omega
theorem quot_hi {w v g : Nat} (hv : 0 < v) (h : w / v ≤ g) : w < (g + 1) * v := by
  rw [← Nat.div_lt_iff_lt_mul hv]; omega

/-- One limb of a number moved down. -/
theorem unshift_digit {l : List Nat} {i k : Nat} (hk : k ≤ 32) (hi : i < l.length) :
    (l.getD i 0 + l.getD (i + 1) 0 * 4294967296) / 2 ^ k % 4294967296 = val (l.drop i) / 2 ^ k % 4294967296 := by
  have h1 := val_drop_succ hi
  have h2 : ∃ r, val (l.drop (i + 1)) = l.getD (i + 1) 0 + B * r := by
    by_cases h : i + 1 < l.length
    · exact ⟨_, val_drop_succ h⟩
    · refine ⟨0, ?_⟩
      rw [List.drop_of_length_le (by omega), List.getD_eq_getElem?_getD, List.getElem?_eq_none (by omega)]; rfl
  obtain ⟨r, hr⟩ := h2
  have hb : 4294967296 = 2 ^ k * 2 ^ (32 - k) := by
    rw [← Nat.pow_add, show k + (32 - k) = 32 by omega]
  rw [h1, hr]
  generalize l.getD i 0 = x
  generalize l.getD (i + 1) 0 = y
  have h3 : x + B * (y + B * r) = x + y * 4294967296 + 2 ^ k * (2 ^ (32 - k) * 4294967296 * r) := by
    have : 2 ^ k * (2 ^ (32 - k) * 4294967296 * r) = (2 ^ k * 2 ^ (32 - k)) * 4294967296 * r := by grind
    rw [this, ← hb]
    simp only [B]; grind
  rw [h3, Nat.add_mul_div_left _ _ (Nat.two_pow_pos k)]
  have h4 : 2 ^ (32 - k) * 4294967296 * r = 4294967296 * (2 ^ (32 - k) * r) := by grind
  rw [h4, Nat.add_mul_mod_self_left]

theorem digs_take {n i x : Nat} (h : i ≤ n) : (digs n x).take i = digs i x := by
  induction i generalizing n x with
  | zero => simp [digs]
  | succ i ih =>
    obtain ⟨m, rfl⟩ : ∃ m, n = m + 1 := ⟨n - 1, by omega⟩
    simp only [digs, List.take_succ_cons]
    rw [ih (by omega)]

theorem digs_succ (i x : Nat) : digs (i + 1) x = digs i x ++ [x / B ^ i % B] := by
  induction i generalizing x with
  | zero => simp [digs]
  | succ i ih =>
    rw [digs, ih]
    conv => rhs; rw [digs]
    rw [Nat.div_div_eq_div_mul, Nat.pow_succ, Nat.mul_comm B]
    simp

theorem val_drop_div {l : List Nat} (hl : Dig l) {i : Nat} (hi : i ≤ l.length) : val l / B ^ i = val (l.drop i) := by
  rw [val_drop l i hi]
  have h := val_lt (hl.take i)
  rw [List.length_take, Nat.min_eq_left hi] at h
  rw [Nat.add_mul_div_left _ _ (Nat.pow_pos (by decide)), Nat.div_eq_of_lt h, Nat.zero_add]


theorem val_div_lt {x P V T K Bn Bm Bl : Nat} (hx : P < Bl) (hK : K ≤ T) (hV : T * Bn ≤ V) (hB : Bn * Bm = Bl) (hxe : x = P * K) (hT : 0 < T) (hm : 0 < Bm) : x / Bm < V := by
  rw [Nat.div_lt_iff_lt_mul hm, hxe]
  have h1 : P * K ≤ P * T := Nat.mul_le_mul_left _ hK
  have h2 : P * T < Bl * T := Nat.mul_lt_mul_of_pos_right hx hT
  have h3 : T * Bn * Bm ≤ V * Bm := Nat.mul_le_mul_right _ hV
  have h4 : T * Bn * Bm = Bl * T := by rw [← hB]; grind
  omega
theorem long_end {u q a b K V : Nat} (hV : V = b * K) (hK : 0 < K) (h : u + V * q = a * K) (hu : u < V) : q = a / b ∧ u / K = a % b := by
  have h1 : q = a * K / V := by rw [← h, Nat.add_mul_div_left _ _ (by omega), Nat.div_eq_of_lt hu, Nat.zero_add]
  have h2 : u = a * K % V := by rw [← h, Nat.add_mul_mod_self_left, Nat.mod_eq_of_lt hu]
  constructor
  · rw [h1, hV, Nat.mul_div_mul_right _ _ hK]
  · rw [h2, hV, Nat.mul_mod_mul_right, Nat.mul_div_cancel _ hK]

end Go.Pl

/- Plain: the top limb, and the shift that makes it great. -/
namespace Go.Pl
open Go.AM

theorem limbs_low {x n : Nat} (h : (limbs x).length = n + 1) : B ^ n ≤ x := by
  rcases Nat.lt_or_ge x (B ^ n) with h1 | h1
  · have := limbs_length_le h1
    omega
  · exact h1
theorem limbs_length_eq {x n : Nat} (h1 : B ^ n ≤ x) (h2 : x < B ^ (n + 1)) : (limbs x).length = n + 1 := by
  have h3 := limbs_length_le h2
  rcases Nat.lt_or_ge (limbs x).length (n + 1) with h4 | h4
  · exfalso
    have h5 := lt_of_limbs_length (n := x)
    have h6 : B ^ (limbs x).length ≤ B ^ n := Nat.pow_le_pow_right (by decide) (by omega)
    exact absurd (Nat.lt_of_lt_of_le h5 h6) (by omega)
  · omega
theorem limbs_top {x n : Nat} (h : (limbs x).length = n + 1) : (limbs x).getD n 0 = x / B ^ n := by
  have h1 := val_drop_div (limbs_dig x) (i := n) (by omega)
  have h2 := val_drop_succ (l := limbs x) (j := n) (by omega)
  rw [List.drop_of_length_le (i := n + 1) (by omega), show val [] = 0 from rfl, Nat.mul_zero, Nat.add_zero] at h2
  rw [← h2, ← h1, val_limbs]
theorem ns_ge {b top P K : Nat} (h : top * P ≤ b) (hk : 2147483648 ≤ top * K) : 2147483648 * P ≤ b * K := by
  have h1 : top * P * K ≤ b * K := Nat.mul_le_mul_right _ h
  have h2 : 2147483648 * P ≤ top * K * P := Nat.mul_le_mul_right _ hk
  have h3 : top * P * K = top * K * P := by grind
  omega
theorem ns_lt {b top P K : Nat} (h : b < (top + 1) * P) (hK : 0 < K) (hk : (top + 1) * K ≤ 4294967296) : b * K < P * 4294967296 := by
  have h1 : b * K < (top + 1) * P * K := Nat.mul_lt_mul_of_pos_right h hK
  have h2 : (top + 1) * K * P ≤ 4294967296 * P := Nat.mul_le_mul_right _ hk
  have h3 : (top + 1) * P * K = (top + 1) * K * P := by grind
  have h4 : 4294967296 * P = P * 4294967296 := Nat.mul_comm _ _
  omega
theorem norm_shift {b n k top : Nat} (h : (limbs b).length = n + 1) (ht : (limbs b).getD n 0 = top) (hk : k ≤ 32) (h1 : 2147483648 ≤ top * 2 ^ k) (h2 : top * 2 ^ k < 4294967296) :
    (limbs (b * 2 ^ k)).length = n + 1 ∧ 2147483648 ≤ (limbs (b * 2 ^ k)).getD n 0 := by
  have hp : 0 < 2 ^ k := Nat.two_pow_pos k
  have hP : 0 < B ^ n := Nat.pow_pos (by decide)
  have h3 : top = b / B ^ n := by rw [← ht, limbs_top h]
  have hlo : top * B ^ n ≤ b := by rw [h3]; exact Nat.div_mul_le_self _ _
  have hhi : b < (top + 1) * B ^ n := by rw [← Nat.div_lt_iff_lt_mul hP, ← h3]; omega
  have hroom : top * 2 ^ k + 2 ^ k ≤ 4294967296 := top_room hk (Nat.mul_mod_left _ _) h2
  have hroom2 : (top + 1) * 2 ^ k ≤ 4294967296 := by rw [Nat.add_mul, Nat.one_mul]; exact hroom
  have hge := ns_ge hlo h1
  have hlt : b * 2 ^ k < B ^ (n + 1) := by rw [Nat.pow_succ]; exact ns_lt hhi hp hroom2
  have hlen : (limbs (b * 2 ^ k)).length = n + 1 := limbs_length_eq (Nat.le_trans (Nat.le_mul_of_pos_left _ (by decide)) hge) hlt
  refine ⟨hlen, ?_⟩
  rw [limbs_top hlen, Nat.le_div_iff_mul_le hP]
  exact hge
theorem top_pos {b n : Nat} (h : (limbs b).length = n + 1) : 0 < (limbs b).getD n 0 := by
  rw [limbs_top h]
  exact Nat.div_pos (limbs_low h) (Nat.pow_pos (by decide))
theorem limbs_len0 {b : Nat} (h : (limbs b).length = 0) : b = 0 := by
  have := lt_of_limbs_length (n := b)
  rw [h] at this
  simpa using this
theorem limbs_len_mono {x y : Nat} (h : x ≤ y) : (limbs x).length ≤ (limbs y).length :=
  limbs_length_le (Nat.lt_of_le_of_lt h lt_of_limbs_length)

/-- A window put into a list. -/
def putSeg (u : List Nat) (j m x : Nat) : List Nat := u.take j ++ (digs m x ++ u.drop (j + m))
theorem putSeg_length {u : List Nat} {j m x : Nat} (h : j + m ≤ u.length) : (putSeg u j m x).length = u.length := by
  simp [putSeg, digs_length]; omega
theorem putSeg_dig {u : List Nat} {j m x : Nat} (h : Dig u) : Dig (putSeg u j m x) := (h.take j).app ((digs_dig _ _).app (h.drop _))
theorem putSeg_eq {u w : List Nat} {j m x : Nat} (hl : w.length = u.length) (hd : Dig w) (hj : j + m ≤ u.length) (hag : ∀ t, (t < j ∨ j + m ≤ t) → w.getD t 0 = u.getD t 0) (hs : seg w j m = x) : putSeg u j m x = w := by
  unfold putSeg
  have h1 : w.take j = u.take j := getD_of_take hl (fun t ht => hag t (Or.inl ht))
  have h2 : w.drop (j + m) = u.drop (j + m) := getD_of_drop hl (fun t ht => hag t (Or.inr ht))
  have h3 := digs_eq ((hd.drop j).take m)
  have h4 : ((w.drop j).take m).length = m := by rw [List.length_take, List.length_drop]; omega
  rw [h4] at h3
  have h5 : val ((w.drop j).take m) = x := hs
  rw [h5] at h3
  rw [← h1, ← h2, ← h3, ← List.drop_drop, List.take_append_drop, List.take_append_drop]
theorem putSeg_getD {u : List Nat} {j m x t : Nat} (hj : j + m ≤ u.length) (ht : t < j ∨ j + m ≤ t) : (putSeg u j m x).getD t 0 = u.getD t 0 := by
  unfold putSeg
  simp only [List.getD_eq_getElem?_getD]
  congr 1
  rcases ht with h | h
  · rw [List.getElem?_append_left (by rw [List.length_take]; omega), List.getElem?_take, if_pos h]
  · rw [List.getElem?_append_right (by rw [List.length_take]; omega), List.getElem?_append_right (by rw [List.length_take, digs_length]; omega), List.getElem?_drop]
    congr 1
    rw [List.length_take, digs_length]; omega
theorem putSeg_seg {u : List Nat} {j m x : Nat} (hj : j + m ≤ u.length) (hx : x < B ^ m) : seg (putSeg u j m x) j m = x := by
  unfold seg putSeg
  rw [List.drop_left' (by rw [List.length_take]; omega), List.take_left' (digs_length _ _), val_digs hx]

theorem div_mod_of {r g V W : Nat} (h : r + g * V = W) (hr : r < V) : W / V = g ∧ r = W % V := by
  have h1 : W = r + V * g := by rw [← h, Nat.mul_comm]
  rw [h1, Nat.add_mul_div_left _ _ (by omega), Nat.div_eq_of_lt hr, Nat.zero_add, Nat.add_mul_mod_self_left, Nat.mod_eq_of_lt hr]
  exact ⟨rfl, rfl⟩

theorem pow_room {t s : Nat} (ht : 0 < t) (h : t * 2 ^ s < 2147483648) : s < 31 := by
  rcases Nat.lt_or_ge s 31 with h1 | h1
  · exact h1
  · exfalso
    have h2 : 2 ^ 31 ≤ 2 ^ s := Nat.pow_le_pow_right (by decide) h1
    have h3 : 1 * 2 ^ s ≤ t * 2 ^ s := Nat.mul_le_mul_right _ ht
    omega

end Go.Pl

/- Plain: fractions as limbs, and the rational numbers that they are. -/
namespace Go.Pl
open Go.AM

def sg (s : Bool) (n : Nat) : Int := if s then -(n : Int) else (n : Int)
def mkq (s : Bool) (n d : Nat) : Rat := mkRat (sg s n) d

theorem sg_natAbs (s : Bool) (n : Nat) : (sg s n).natAbs = n := by unfold sg; split <;> simp
theorem sg_num (q : Rat) : sg (decide (q.num < 0)) q.num.natAbs = q.num := by
  unfold sg
  by_cases h : q.num < 0
  · simp only [h, decide_true, if_true]; omega
  · simp only [h, decide_false]; simp; omega
theorem mkq_self (q : Rat) : mkq (decide (q.num < 0)) q.num.natAbs q.den = q := by
  unfold mkq; rw [sg_num, Rat.mkRat_self]
theorem mkq_num0 {s : Bool} {n d : Nat} (h : n = 0) : mkq s n d = 0 := by
  subst h; unfold mkq sg
  have : (if s = true then -((0 : Nat) : Int) else ((0 : Nat) : Int)) = 0 := by split <;> rfl
  rw [this, Rat.zero_mkRat]
theorem mkq_den0 {s : Bool} {n d : Nat} (h : d = 0) : mkq s n d = 0 := by
  subst h; unfold mkq; rw [Rat.mkRat_zero]
theorem sg_div {s : Bool} {n g : Nat} (h : g ∣ n) : sg s n / (g : Int) = sg s (n / g) := by
  unfold sg
  split
  · rw [Int.neg_ediv_of_dvd (by exact Int.natCast_dvd_natCast.2 h), Int.natCast_ediv]
  · rw [Int.natCast_ediv]
theorem mkq_parts {s : Bool} {n d : Nat} (hd : d ≠ 0) : (mkq s n d).num = sg s (n / Nat.gcd n d) ∧ (mkq s n d).den = d / Nat.gcd n d := by
  unfold mkq
  rw [← Rat.normalize_eq_mkRat hd, Rat.normalize_eq hd]
  simp only [sg_natAbs]
  exact ⟨sg_div (Nat.gcd_dvd_left n d), trivial⟩
theorem sg_neg {s : Bool} {n : Nat} (h : n ≠ 0) : decide (sg s n < 0) = s := by
  unfold sg
  cases s
  · simp
  · simp; omega
theorem mkq_canon {s : Bool} {n d : Nat} (hn : n ≠ 0) (hd : d ≠ 0) : decide ((mkq s n d).num < 0) = s ∧ (mkq s n d).num.natAbs = n / Nat.gcd n d ∧ (mkq s n d).den = d / Nat.gcd n d := by
  obtain ⟨h1, h2⟩ := mkq_parts (s := s) (n := n) hd
  have h3 : n / Nat.gcd n d ≠ 0 := by
    have := Nat.div_pos (Nat.le_of_dvd (by omega) (Nat.gcd_dvd_left n d)) (Nat.gcd_pos_of_pos_left d (by omega))
    omega
  rw [h1, h2]
  exact ⟨sg_neg h3, sg_natAbs _ _, rfl⟩

/-- Numbers that are not great. -/
def Bd (k : Nat) (q : Rat) : Prop := q.num.natAbs < B ^ k ∧ q.den < B ^ k
theorem Bd.mono {j k : Nat} {q : Rat} (h : Bd j q) (hk : j ≤ k) : Bd k q :=
  ⟨Nat.lt_of_lt_of_le h.1 (Nat.pow_le_pow_right (by decide) hk), Nat.lt_of_lt_of_le h.2 (Nat.pow_le_pow_right (by decide) hk)⟩
theorem Bd.zero {k : Nat} (hk : 1 ≤ k) : Bd k 0 := by
  have : 1 < B ^ k := Nat.lt_of_lt_of_le (show 1 < B ^ 1 by decide) (Nat.pow_le_pow_right (by decide) hk)
  exact ⟨Nat.pow_pos (by decide), this⟩
theorem Bd.mk {k n d : Nat} {s : Bool} (hk : 1 ≤ k) (hn : n < B ^ k) (hd : d < B ^ k) : Bd k (mkq s n d) := by
  by_cases h : d = 0
  · rw [mkq_den0 h]; exact Bd.zero hk
  · obtain ⟨h1, h2⟩ := mkq_parts (s := s) (n := n) h
    unfold Bd
    rw [h1, h2, sg_natAbs]
    exact ⟨Nat.lt_of_le_of_lt (Nat.div_le_self _ _) hn, Nat.lt_of_le_of_lt (Nat.div_le_self _ _) hd⟩

/-- A fraction as it lies in the program. -/
structure Raw where
  neg : Bool
  num : List Nat
  den : List Nat
def Raw.q (r : Raw) : Rat := mkq r.neg (val r.num) (val r.den)
structure Raw.Ok (k : Nat) (r : Raw) : Prop where
  num : Dig r.num
  den : Dig r.den
  lnum : r.num.length ≤ k
  lden : r.den.length ≤ k
theorem Raw.Ok.mono {j k : Nat} {r : Raw} (h : r.Ok j) (hk : j ≤ k) : r.Ok k := ⟨h.num, h.den, Nat.le_trans h.lnum hk, Nat.le_trans h.lden hk⟩
theorem Raw.Ok.bd {k : Nat} {r : Raw} (h : r.Ok k) (hk : 1 ≤ k) : Bd k r.q :=
  Bd.mk hk (Nat.lt_of_lt_of_le (val_lt h.num) (Nat.pow_le_pow_right (by decide) h.lnum)) (Nat.lt_of_lt_of_le (val_lt h.den) (Nat.pow_le_pow_right (by decide) h.lden))
/-- The normal form. -/
def cn (q : Rat) : Raw := ⟨decide (q.num < 0), limbs q.num.natAbs, limbs q.den⟩
theorem cn_q (q : Rat) : (cn q).q = q := by
  unfold Raw.q cn; simp only [val_limbs]; exact mkq_self q
theorem cn_ok {k : Nat} {q : Rat} (h : Bd k q) : (cn q).Ok k := ⟨limbs_dig _, limbs_dig _, limbs_length_le h.1, limbs_length_le h.2⟩
theorem cn_zero : cn 0 = ⟨false, [], [1]⟩ := by
  unfold cn
  have h1 : limbs (0 : Rat).num.natAbs = [] := limbs_zero
  have h2 : limbs (0 : Rat).den = [1] := by
    have : (0 : Rat).den = val [1] := rfl
    rw [this]
    exact limbs_val (fun d hd => by simp at hd; subst hd; decide) (Or.inr (by decide))
  rw [h1, h2]; rfl

def Raw.v (r : Raw) : PV := .agg [.bool r.neg, .fv (.sl (u32s r.num)), .fv (.sl (u32s r.den))]
/-- A rational number in normal form. -/
def FR (q : Rat) : PV := (cn q).v
theorem FR_eq (q : Rat) : FR q = .agg [.bool (decide (q.num < 0)), .fv (N q.num.natAbs), .fv (N q.den)] := rfl

end Go.Pl

/- Plain: reckoning with fractions. -/
namespace Go.Pl
open Go.AM

theorem sg_mul (s t : Bool) (a c : Nat) : sg s a * sg t c = sg (s != t) (a * c) := by
  unfold sg
  cases s <;> cases t <;> simp [Int.neg_mul, Int.mul_neg]
theorem mkq_mul (s t : Bool) (a b c d : Nat) : mkq s a b * mkq t c d = mkq (s != t) (a * c) (b * d) := by
  unfold mkq
  rw [Rat.mkRat_mul_mkRat, sg_mul]
theorem mkq_one {n : Nat} (h : n ≠ 0) : mkq false n n = 1 := by
  unfold mkq sg
  have h1 : (1 : Rat) = mkRat 1 1 := rfl
  rw [h1, Rat.mkRat_eq_iff h (by decide)]
  simp
theorem rat_div_of {p q r : Rat} (h : q * r = 1) : p / q = p * r := by grind
theorem mkq_div {s t : Bool} {a b c d : Nat} (hc : c ≠ 0) (hd : d ≠ 0) : mkq s a b / mkq t c d = mkq (s != t) (a * d) (b * c) := by
  have h : mkq t c d * mkq t d c = 1 := by
    rw [mkq_mul, Nat.mul_comm d c, bne_self_eq_false, mkq_one (Nat.mul_ne_zero hc hd)]
  rw [rat_div_of h, mkq_mul]
theorem mkq_eq {n m : Int} {b d : Nat} (hb : b ≠ 0) (hd : d ≠ 0) (h : n * d = m * b) : mkRat n b = mkRat m d := (Rat.mkRat_eq_iff hb hd).2 h
theorem sg_add (s : Bool) (a c : Nat) : sg s a + sg s c = sg s (a + c) := by
  unfold sg; cases s <;> simp; omega
theorem sg_addlt {s t : Bool} (h : s ≠ t) {a c : Nat} (hl : a < c) : sg s a + sg t c = sg t (c - a) := by
  unfold sg; cases s <;> cases t <;> simp at h ⊢ <;> omega
theorem sg_addge {s t : Bool} (h : s ≠ t) {a c : Nat} (hl : ¬ a < c) : sg s a + sg t c = sg s (a - c) := by
  unfold sg; cases s <;> cases t <;> simp at h ⊢ <;> omega
theorem mkRat_add (n m : Int) {d : Nat} (hd : d ≠ 0) : mkRat n d + mkRat m d = mkRat (n + m) d := by
  rw [Rat.mkRat_add_mkRat _ _ hd hd]
  apply mkq_eq (Nat.mul_ne_zero hd hd) hd
  grind
theorem mkq_add {s t : Bool} (h : s = t) {a c d : Nat} (hd : d ≠ 0) : mkq s a d + mkq t c d = mkq s (a + c) d := by
  subst h; unfold mkq; rw [mkRat_add _ _ hd, sg_add]
theorem mkq_addlt {s t : Bool} (h : s ≠ t) {a c d : Nat} (hl : a < c) (hd : d ≠ 0) : mkq s a d + mkq t c d = mkq t (c - a) d := by
  unfold mkq; rw [mkRat_add _ _ hd, sg_addlt h hl]
theorem mkq_addge {s t : Bool} (h : s ≠ t) {a c d : Nat} (hl : ¬ a < c) (hd : d ≠ 0) : mkq s a d + mkq t c d = mkq s (a - c) d := by
  unfold mkq; rw [mkRat_add _ _ hd, sg_addge h hl]
theorem sg_scale (s : Bool) (a k : Nat) : sg s (a * k) = sg s a * k := by
  unfold sg; cases s <;> simp [Int.neg_mul]
theorem mkq_scale {s : Bool} {a b k : Nat} (hb : b ≠ 0) (hk : k ≠ 0) : mkq s (a * k) (b * k) = mkq s a b := by
  unfold mkq
  apply mkq_eq (Nat.mul_ne_zero hb hk) hb
  rw [sg_scale]
  grind

/-- The parts of a rational number. -/
theorem cn_val (q : Rat) : val (cn q).num = q.num.natAbs ∧ val (cn q).den = q.den := ⟨val_limbs _, val_limbs _⟩

theorem natAbs_pow_lt {a c j k : Nat} (ha : a < B ^ j) (hc : c < B ^ k) : a * c < B ^ (j + k) := by
  rw [Nat.pow_add]; exact Nat.mul_lt_mul'' ha hc
theorem add_pow_lt {a c k : Nat} (ha : a < B ^ k) (hc : c < B ^ k) : a + c < B ^ (k + 1) := by
  have h2 : 2 * B ^ k ≤ B ^ k * 4294967296 := by rw [Nat.mul_comm]; exact Nat.mul_le_mul_left _ (by decide)
  have h3 : B ^ (k + 1) = B ^ k * 4294967296 := Nat.pow_succ _ _
  rw [h3]
  omega

theorem Bd.neg {k : Nat} {q : Rat} (h : Bd k q) : Bd k (-q) := by
  unfold Bd
  have h1 : (-q).num = -q.num := rfl
  have h2 : (-q).den = q.den := rfl
  rw [h1, h2, Int.natAbs_neg]
  exact h
theorem Bd.mul {j k : Nat} {p q : Rat} (hp : Bd j p) (hq : Bd k q) (hk : 1 ≤ j + k) : Bd (j + k) (p * q) := by
  rw [← mkq_self p, ← mkq_self q, mkq_mul]
  exact Bd.mk hk (natAbs_pow_lt hp.1 hq.1) (natAbs_pow_lt hp.2 hq.2)
theorem Bd.div {j k : Nat} {p q : Rat} (hp : Bd j p) (hq : Bd k q) (h0 : q ≠ 0) (hk : 1 ≤ j + k) : Bd (j + k) (p / q) := by
  have hn : q.num.natAbs ≠ 0 := fun h => h0 (Rat.num_eq_zero.1 (by omega))
  rw [← mkq_self p, ← mkq_self q, mkq_div hn q.den_nz]
  exact Bd.mk hk (natAbs_pow_lt hp.1 hq.2) (natAbs_pow_lt hp.2 hq.1)
/-- Two fractions on one denominator. -/
theorem mkq_common (s t : Bool) {a b c d : Nat} (hb : b ≠ 0) (hd : d ≠ 0) : mkq s a b + mkq t c d = mkq s (a * d) (b * d) + mkq t (c * b) (b * d) := by
  rw [mkq_scale hb hd, Nat.mul_comm b d, mkq_scale hd hb]
theorem Bd.sum {k n d a c : Nat} {s t : Bool} (hk : 1 ≤ k) (ha : a < B ^ k) (hc : c < B ^ k) (hd : d < B ^ (k + 1)) (hd0 : d ≠ 0) (hn : n = k + 1) : Bd n (mkq s a d + mkq t c d) := by
  subst hn
  have h1 : c - a < B ^ (k + 1) := Nat.lt_of_le_of_lt (Nat.sub_le _ _) (Nat.lt_trans hc (Nat.pow_lt_pow_right (by decide) (by omega)))
  have h2 : a - c < B ^ (k + 1) := Nat.lt_of_le_of_lt (Nat.sub_le _ _) (Nat.lt_trans ha (Nat.pow_lt_pow_right (by decide) (by omega)))
  by_cases h : s = t
  · rw [mkq_add h hd0]; exact Bd.mk (by omega) (add_pow_lt ha hc) hd
  · by_cases hl : a < c
    · rw [mkq_addlt h hl hd0]; exact Bd.mk (by omega) h1 hd
    · rw [mkq_addge h hl hd0]; exact Bd.mk (by omega) h2 hd
theorem Bd.add {j k : Nat} {p q : Rat} (hp : Bd j p) (hq : Bd k q) (hk : 1 ≤ j + k) : Bd (j + k + 1) (p + q) := by
  rw [← mkq_self p, ← mkq_self q, mkq_common _ _ p.den_nz q.den_nz]
  refine Bd.sum hk (natAbs_pow_lt hp.1 hq.2) ?_ ?_ (Nat.mul_ne_zero p.den_nz q.den_nz) rfl
  · rw [Nat.add_comm]; exact natAbs_pow_lt hq.1 hp.2
  · exact Nat.lt_trans (natAbs_pow_lt hp.2 hq.2) (Nat.pow_lt_pow_right (by decide) (by omega))
theorem Bd.sub {j k : Nat} {p q : Rat} (hp : Bd j p) (hq : Bd k q) (hk : 1 ≤ j + k) : Bd (j + k + 1) (p - q) := by
  rw [Rat.sub_eq_add_neg]; exact hp.add hq.neg hk

/-- The sign. -/
def sgq (q : Rat) : Int := q.num.sign
theorem sgq_zero {q : Rat} (h : q.num.natAbs = 0) : sgq q = 0 := by
  unfold sgq; have : q.num = 0 := by omega
  rw [this]; rfl
theorem sgq_neg {q : Rat} (h : q.num < 0) : sgq q = -1 := Int.sign_eq_neg_one_of_neg h
theorem sgq_pos {q : Rat} (h0 : q.num.natAbs ≠ 0) (h : ¬ q.num < 0) : sgq q = 1 := Int.sign_eq_one_of_pos (by omega)

end Go.Pl

/- Plain: linear forms: nine fractions in a row. -/
namespace Go.Pl
open Go.AM

/-- The cells of a fraction; of fractions in a row. -/
def Raw.c (r : Raw) : List PV := [.bool r.neg, .fv (.sl (u32s r.num)), .fv (.sl (u32s r.den))]
def Raw.f (r : Raw) : List FV := [.lit (.bool r.neg), .sl (u32s r.num), .sl (u32s r.den)]
def flat : List Raw → List PV
  | [] => []
  | r :: rs => .bool r.neg :: .fv (.sl (u32s r.num)) :: .fv (.sl (u32s r.den)) :: flat rs
def flatF : List Raw → List FV
  | [] => []
  | r :: rs => .lit (.bool r.neg) :: .sl (u32s r.num) :: .sl (u32s r.den) :: flatF rs
def rz : Raw := ⟨false, [], []⟩

theorem flat_length : ∀ rs : List Raw, (flat rs).length = 3 * rs.length
  | [] => rfl
  | r :: rs => by simp only [flat, List.length_cons, flat_length rs]; omega
theorem flat_drop : ∀ (i : Nat) (rs : List Raw), (flat rs).drop (i * 3) = flat (rs.drop i)
  | 0, rs => by simp
  | i + 1, [] => by simp [flat]
  | i + 1, r :: rs => by
    rw [Nat.add_mul, Nat.one_mul]
    show List.drop (i * 3 + 2 + 1) _ = _
    simp only [flat, List.drop_succ_cons]
    exact flat_drop i rs
theorem flat_take : ∀ (i : Nat) (rs : List Raw), (flat rs).take (i * 3) = flat (rs.take i)
  | 0, rs => by simp [flat]
  | i + 1, [] => by simp [flat]
  | i + 1, r :: rs => by
    rw [Nat.add_mul, Nat.one_mul]
    show List.take (i * 3 + 2 + 1) _ = _
    simp only [flat, List.take_succ_cons]
    rw [flat_take i rs]
theorem flat_append : ∀ (a b : List Raw), flat (a ++ b) = flat a ++ flat b
  | [], _ => rfl
  | r :: a, b => by simp [flat, flat_append a b]
theorem flat_at {rs : List Raw} {i : Nat} (h : i < rs.length) : List.take 3 (List.drop (i * 3) (flat rs)) = [.bool (rs.getD i rz).neg, .fv (.sl (u32s (rs.getD i rz).num)), .fv (.sl (u32s (rs.getD i rz).den))] := by
  rw [flat_drop, List.drop_eq_getElem_cons h]
  simp only [flat, List.take_succ_cons, List.take_zero]
  rw [List.getD_eq_getElem?_getD, List.getElem?_eq_getElem h]
  rfl
theorem flat_set {rs : List Raw} {i : Nat} (h : i < rs.length) (s : Bool) (a b : List Nat) :
    List.take (i * 3) (flat rs) ++ [.bool s, .fv (.sl (u32s a)), .fv (.sl (u32s b))] ++ List.drop (i * 3 + 3) (flat rs) = flat (rs.set i ⟨s, a, b⟩) := by
  have e : i * 3 + 3 = (i + 1) * 3 := by omega
  rw [e, flat_drop, flat_take, List.set_eq_take_append_cons_drop, if_pos h, flat_append]
  simp [flat]
theorem flat_fz (H : List Ob) : ∀ rs : List Raw, fzs H (flat rs) = some (flatF rs)
  | [] => rfl
  | r :: rs => by
    simp only [flat, fzs, fz0, flat_fz H rs, flatF]
theorem flatF_groups : ∀ rs : List Raw, groups 3 rs.length (flatF rs) = rs.map Raw.f
  | [] => rfl
  | r :: rs => by
    simp only [flatF, List.length_cons, groups, List.take_succ_cons, List.take_zero, List.drop_succ_cons, List.drop_zero, List.map_cons]
    rw [flatF_groups rs]; rfl
/-- The first i numbers replaced. -/
def mapTo (g : Raw → Raw) (i : Nat) (rs : List Raw) : List Raw := (rs.take i).map g ++ rs.drop i
theorem mapTo_length (g : Raw → Raw) (i : Nat) (rs : List Raw) : (mapTo g i rs).length = rs.length := by
  unfold mapTo; rw [List.length_append, List.length_map, List.length_take, List.length_drop]; omega
theorem mapTo_zero (g : Raw → Raw) (rs : List Raw) : mapTo g 0 rs = rs := by simp [mapTo]
theorem mapTo_all (g : Raw → Raw) {n : Nat} (rs : List Raw) (h : rs.length = n) : mapTo g n rs = rs.map g := by
  subst h; simp [mapTo]
theorem mapTo_getD (g : Raw → Raw) {i j : Nat} (rs : List Raw) (h : j < rs.length) (hi : i ≤ j) : (mapTo g i rs).getD j rz = rs.getD j rz := by
  unfold mapTo
  rw [List.getD_eq_getElem?_getD, List.getElem?_append_right (by rw [List.length_map, List.length_take]; omega), List.getElem?_drop, List.getD_eq_getElem?_getD]
  congr 2
  rw [List.length_map, List.length_take]; omega
theorem mapTo_set (g : Raw → Raw) {i : Nat} (rs : List Raw) (h : i < rs.length) : (mapTo g i rs).set i (g (rs.getD i rz)) = mapTo g (i + 1) rs := by
  unfold mapTo
  rw [List.set_append_right _ _ (by rw [List.length_map, List.length_take]; omega)]
  have e : i - ((rs.take i).map g).length = 0 := by rw [List.length_map, List.length_take]; omega
  rw [e, List.drop_eq_getElem_cons h, List.set_cons_zero, List.take_succ_eq_append_getElem h, List.map_append]
  simp [List.getD_eq_getElem?_getD, h]

/-- A form in the program; in normal form. -/
def RL (rs : List Raw) : PV := .agg (flat rs)
def FL (qs : List Rat) : PV := RL (qs.map cn)
structure LOk (k : Nat) (rs : List Raw) : Prop where
  len : rs.length = 9
  ok : ∀ r ∈ rs, r.Ok k
theorem LOk.at {k : Nat} {rs : List Raw} (h : LOk k rs) (i : Nat) : (rs.getD i rz).Ok k := by
  by_cases hi : i < rs.length
  · rw [List.getD_eq_getElem?_getD, List.getElem?_eq_getElem hi]
    exact h.ok _ (List.getElem_mem hi)
  · rw [List.getD_eq_getElem?_getD, List.getElem?_eq_none (by omega)]
    exact ⟨Dig.nil, Dig.nil, Nat.zero_le _, Nat.zero_le _⟩
theorem LOk.mono {j k : Nat} {rs : List Raw} (h : LOk j rs) (hk : j ≤ k) : LOk k rs := ⟨h.len, fun r hr => (h.ok r hr).mono hk⟩
theorem LOk.map {k : Nat} {rs : List Raw} {g : Raw → Rat} (h : rs.length = 9) (hg : ∀ r ∈ rs, Bd k (g r)) : LOk k ((rs.map g).map cn) :=
  ⟨by simp [h], fun r hr => by
    simp only [List.mem_map] at hr
    obtain ⟨q, ⟨r', hr', rfl⟩, rfl⟩ := hr
    exact cn_ok (hg r' hr')⟩

end Go.Pl

/- Plain: the leading number of a form. -/
namespace Go.Pl
open Go.AM

/-- The first number that is not 0, or the last. -/
def leadL : List Raw → Raw
  | [] => rz
  | [c] => c
  | r :: s :: t => if r.q = 0 then leadL (s :: t) else r
theorem leadL_drop {rs : List Raw} {i : Nat} (h : i + 1 < rs.length) : leadL (rs.drop i) = if (rs.getD i rz).q = 0 then leadL (rs.drop (i + 1)) else rs.getD i rz := by
  have h1 : rs.drop i = rs.getD i rz :: rs.drop (i + 1) := by
    rw [List.drop_eq_getElem_cons (by omega)]
    rw [List.getD_eq_getElem?_getD, List.getElem?_eq_getElem (by omega)]; rfl
  have h2 : rs.drop (i + 1) = rs[i + 1] :: rs.drop (i + 2) := List.drop_eq_getElem_cons h
  rw [h1, h2]
  rfl
theorem leadL_last {rs : List Raw} {i : Nat} (h : i + 1 = rs.length) : leadL (rs.drop i) = rs.getD i rz := by
  have h1 : rs.drop i = rs.getD i rz :: rs.drop (i + 1) := by
    rw [List.drop_eq_getElem_cons (by omega)]
    rw [List.getD_eq_getElem?_getD, List.getElem?_eq_getElem (by omega)]; rfl
  have h2 : rs.drop (i + 1) = [] := List.drop_of_length_le (by omega)
  rw [h1, h2]; rfl
theorem leadL_zero : ∀ {rs : List Raw}, (leadL rs).q = 0 → ∀ r ∈ rs, r.q = 0
  | [], _, r, hr => by simp at hr
  | [c], h, r, hr => by
    simp at hr; subst hr; exact h
  | a :: s :: t, h, r, hr => by
    unfold leadL at h
    split at h
    · rename_i h0
      rcases List.mem_cons.1 hr with h1 | h1
      · subst h1; exact h0
      · exact leadL_zero h r h1
    · rename_i h0; exact absurd h h0
theorem leadL_mem : ∀ {rs : List Raw}, rs ≠ [] → leadL rs ∈ rs
  | [], h => absurd rfl h
  | [c], _ => by simp [leadL]
  | a :: s :: t, _ => by
    unfold leadL
    split
    · exact List.mem_cons_of_mem _ (leadL_mem (by simp))
    · simp
theorem sgq_eq_zero {q : Rat} : sgq q = 0 ↔ q = 0 := by
  unfold sgq; rw [Int.sign_eq_zero_iff_zero]; exact Rat.num_eq_zero
theorem rz_q' : rz.q = 0 := mkq_num0 rfl
def absq (c : Rat) : Rat := if c.num < 0 then -c else c
/-- A form divided by the size of its leading number. -/
def nrm (rs : List Raw) : List Rat := if (leadL rs).q = 0 then List.replicate 9 0 else rs.map (fun r => r.q / absq (leadL rs).q)
theorem absq_zero {c : Rat} (h : c ≠ 0) : absq c ≠ 0 := by
  unfold absq; split
  · intro h1; apply h; grind
  · exact h
theorem one_div_mul (x c : Rat) : x * (1 / c) = x / c := by grind
theorem nrm_zero {rs : List Raw} (h : (leadL rs).q = 0) : nrm rs = List.replicate 9 0 := if_pos h
theorem nrm_of {rs : List Raw} (h : (leadL rs).q ≠ 0) : nrm rs = rs.map (fun r => r.q / absq (leadL rs).q) := if_neg h
theorem nrm_zeros {rs : List Raw} (h : (leadL rs).q = 0) (hl : rs.length = 9) : nrm rs = rs.map Raw.q := by
  rw [nrm_zero h]
  have h1 : rs.map Raw.q = rs.map (fun _ => (0 : Rat)) := List.map_congr_left (fun r hr => leadL_zero h r hr)
  rw [h1, List.map_const', hl]
theorem sgq_one {c : Rat} (h0 : c ≠ 0) (h : ¬ c.num < 0) : sgq c = 1 := sgq_pos (fun h1 => h0 (Rat.num_eq_zero.1 (by omega))) h
/-- The first i numbers written, the others still 0. -/
def outTo (g : Raw → Raw) (i : Nat) (rs : List Raw) : List Raw := (rs.take i).map g ++ List.replicate (rs.length - i) rz
theorem outTo_length (g : Raw → Raw) {i : Nat} (rs : List Raw) (h : i ≤ rs.length) : (outTo g i rs).length = rs.length := by
  unfold outTo; rw [List.length_append, List.length_map, List.length_take, List.length_replicate]; omega
theorem outTo_set (g : Raw → Raw) {i : Nat} (rs : List Raw) (h : i < rs.length) : (outTo g i rs).set i (g (rs.getD i rz)) = outTo g (i + 1) rs := by
  unfold outTo
  rw [List.set_append_right _ _ (by rw [List.length_map, List.length_take]; omega)]
  have e : i - ((rs.take i).map g).length = 0 := by rw [List.length_map, List.length_take]; omega
  have e2 : rs.length - i = (rs.length - (i + 1)) + 1 := by omega
  rw [e, e2, List.replicate_succ, List.set_cons_zero, List.take_succ_eq_append_getElem h, List.map_append]
  simp [List.getD_eq_getElem?_getD, h]
theorem outTo_all (g : Raw → Raw) {n : Nat} (rs : List Raw) (h : rs.length = n) : outTo g n rs = rs.map g := by
  subst h; simp [outTo]
theorem outTo_zero (g : Raw → Raw) (rs : List Raw) : outTo g 0 rs = List.replicate rs.length rz := by simp [outTo]
theorem map_f_getD {rs : List Raw} {i : Nat} (h : i < rs.length) : (rs.map Raw.f).getD i [] = [FV.lit (Value.bool (rs.getD i rz).neg), FV.sl (u32s (rs.getD i rz).num), FV.sl (u32s (rs.getD i rz).den)] := by
  simp [List.getD_eq_getElem?_getD, h, Raw.f]
theorem map_f_last {rs : List Raw} {n : Nat} (h : rs.length = n + 1) : (rs.take n).map Raw.f ++ [[FV.lit (Value.bool (rs.getD n rz).neg), FV.sl (u32s (rs.getD n rz).num), FV.sl (u32s (rs.getD n rz).den)]] = rs.map Raw.f := by
  have h1 : rs.take (n + 1) = rs := List.take_of_length_le (by omega)
  conv => rhs; rw [← h1, List.take_succ_eq_append_getElem (by omega), List.map_append]
  simp [List.getD_eq_getElem?_getD, show n < rs.length by omega, Raw.f]
end Go.Pl

/- Plain: lists written from the front; sums of forms. -/
namespace Go.Pl
open Go.AM

/-- The first i numbers of T, then those of the other. -/
def tgt (T : List Raw) (i : Nat) (rest : List Raw) : List Raw := T.take i ++ rest.drop i
theorem tgt_length {T rest : List Raw} (i : Nat) (h : T.length = rest.length) : (tgt T i rest).length = rest.length := by
  unfold tgt; rw [List.length_append, List.length_take, List.length_drop]; omega
theorem tgt_zero (T rest : List Raw) : tgt T 0 rest = rest := by simp [tgt]
theorem tgt_all {T rest : List Raw} {n : Nat} (h : T.length = n) (h2 : rest.length = n) : tgt T n rest = T := by
  subst h; unfold tgt; rw [List.take_length, List.drop_of_length_le (by omega), List.append_nil]
theorem tgt_getD {T rest : List Raw} {i j : Nat} (h : T.length = rest.length) (hj : j < rest.length) (hi : i ≤ j) : (tgt T i rest).getD j rz = rest.getD j rz := by
  unfold tgt
  rw [List.getD_eq_getElem?_getD, List.getElem?_append_right (by rw [List.length_take]; omega), List.getElem?_drop, List.getD_eq_getElem?_getD]
  congr 2
  rw [List.length_take]; omega
theorem tgt_set {T rest : List Raw} {i : Nat} (h : T.length = rest.length) (hi : i < rest.length) : (tgt T i rest).set i (T.getD i rz) = tgt T (i + 1) rest := by
  unfold tgt
  rw [List.set_append_right _ _ (by rw [List.length_take]; omega)]
  have e : i - (T.take i).length = 0 := by rw [List.length_take]; omega
  have hT : i < T.length := by omega
  have h3 : T.take (i + 1) = T.take i ++ [T[i]] := List.take_succ_eq_append_getElem hT
  rw [e, List.drop_eq_getElem_cons hi, List.set_cons_zero, h3]
  have h4 : T.getD i rz = T[i] := by rw [List.getD_eq_getElem?_getD, List.getElem?_eq_getElem hT]; rfl
  rw [h4, List.append_assoc]
  rfl
/-- The sum of two forms. -/
def addL (a b : List Raw) : List Rat := List.zipWith (fun r s => r.q + s.q) a b
theorem addL_length {a b : List Raw} {n : Nat} (ha : a.length = n) (hb : b.length = n) : (addL a b).length = n := by simp [addL, ha, hb]
theorem addL_getD {a b : List Raw} {i : Nat} (ha : i < a.length) (hb : i < b.length) : ((addL a b).map cn).getD i rz = cn ((a.getD i rz).q + (b.getD i rz).q) := by
  simp [addL, List.getD_eq_getElem?_getD, List.getElem?_zipWith, ha, hb]
theorem addL_cn (a b : List Raw) : addL ((a.map Raw.q).map cn) b = addL a b := by
  unfold addL
  rw [List.map_map, List.zipWith_map_left]
  simp only [Function.comp, cn_q]
theorem addL_bd {a b : List Raw} {j k : Nat} (ha : ∀ r ∈ a, Bd j r.q) (hb : ∀ r ∈ b, Bd k r.q) (hk : 1 ≤ j + k) : ∀ x ∈ addL a b, Bd (j + k + 1) x := by
  intro x hx
  unfold addL at hx
  obtain ⟨i, hi, rfl⟩ := List.getElem_of_mem hx
  rw [List.getElem_zipWith]
  exact (ha _ (List.getElem_mem _)).add (hb _ (List.getElem_mem _)) hk
theorem LOk.of_map {k : Nat} {qs : List Rat} (hl : qs.length = 9) (h : ∀ q ∈ qs, Bd k q) : LOk k (qs.map cn) :=
  ⟨by simp [hl], fun r hr => by
    simp only [List.mem_map] at hr
    obtain ⟨q, hq, rfl⟩ := hr
    exact cn_ok (h q hq)⟩
theorem LOk.bd {k : Nat} {rs : List Raw} (h : LOk k rs) (hk : 1 ≤ k) : ∀ r ∈ rs, Bd k r.q := fun r hr => (h.ok r hr).bd hk
end Go.Pl
