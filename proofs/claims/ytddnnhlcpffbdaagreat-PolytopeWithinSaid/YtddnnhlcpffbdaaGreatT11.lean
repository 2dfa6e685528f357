/- The road from a contract to a law's statement: a list of numbers that came in. -/
import Derived.Test.YtddnnhlcpffbdaaGreatRows
import Derived.Test.YtddnnhlcpffbdaaGreatT10
import Derived.ProofKit
import Derived.Below
import Derived.Test.YtddnnhlcpffbdaaGreatT9

namespace Go.Proofs.YtddnnhlcpffbdaaGreat
open Go.ChangeShapes Go.WideShapes Go.ChangeAt Go.RowKit

theorem Tryz.own : ownKnob Tryz.prog.godebug = none := by kernel_rfl
theorem Tryz.laidOut : laidOutB Tryz.prog = true := by kernel_rfl
theorem Tryz.cells3 : Tryz.prog.cellsOf 3 = 1 := by kernel_rfl

theorem block_below {w : World} {a : Addr} {v : Value} (h : w.cell? a = some v) : a.block < w.heap.size := by
  unfold World.cell? at h
  split at h
  · rename_i hb; exact (Array.getElem?_eq_some_iff.1 hb).1
  · cases h
set_option maxRecDepth 100000 in
/-- A list of numbers that came in, as the abstract machine reads it. -/
theorem ints_read {W : World} {base : Nat} {v0 : Value} {H : Type} {enc : TypeId × Value → H} {fuel : Nat} {held : Bool} {x : DataW H × List MemPlace} (hok : Value.okWide Tryz.prog W .any base 22 v0)
    (hf : DataW.trod enc Tryz.prog W 0 (fun _ => true) held fuel 22 v0.cells.toList = some x) :
    ∃ l : List Int, W64 l ∧ l.length < 9223372036854775808 ∧ Go.AM.FRd W (fun _ => False) v0 (.sl (ints l)) := by
  obtain ⟨a0, len, cap, rfl⟩ := okWide_slice Tryz.underlying22 hok
  rcases open_ints Tryz.underlying22 Tryz.underlying3 Tryz.cells3 hf with ⟨hcs, hx⟩ | ⟨a, len', cap', zs, hcs, _, hl, hm, hz, hx, hcell, hwz⟩
  · simp [Value.cells] at hcs
    obtain ⟨rfl, rfl, rfl⟩ := hcs
    exact ⟨[], fun x h => by simp at h, by simp, .nil⟩
  · simp [Value.cells] at hcs
    obtain ⟨rfl, rfl, rfl⟩ := hcs
    simp only [if_true] at hz
    obtain ⟨b, off, spot⟩ := a
    have hspot : spot = none := by
      simp only [Value.okWide, Tryz.underlying22, Cell.okWide, Cell.ok] at hok
      exact hok.2.2.2.1
    subst hspot
    unfold maxLen at hm
    refine ⟨zs.take len, fun x h => ?_, ?_, ?_⟩
    · have h1 := hwz x (List.mem_of_mem_take h)
      simp [Lit.wf, IntKind.min, IntKind.max, IntKind.signed, IntKind.bits] at h1
      omega
    · rw [List.length_take]; omega
    · refine .sl ⟨b, off, none⟩ len cap 1 (ints (zs.take len)) (fun i _ => .int .i64 (zs.getD i 0)) ?_ hl ?_ rfl (fun _ h => h) (fun h => ?_) (fun i j x y hx hy => ?_) (fun i j x y hx hy => ?_)
      · rw [ints_length, List.length_take]; omega
      · intro x hx
        simp only [ints, List.mem_map] at hx
        obtain ⟨n, _, rfl⟩ := hx
        rfl
      · exact block_below (hcell 0 (by omega))
      · have hi : i < (ints (zs.take len)).length := (List.getElem?_eq_some_iff.1 hx).1
        rw [ints_length, List.length_take] at hi
        have hxe : x = [Go.AM.FV.lit (.int .i64 ((zs.take len).getD i 0))] := by
          have := hx
          simp only [ints, List.getElem?_map] at this
          rw [List.getElem?_eq_getElem (by rw [List.length_take]; omega)] at this
          simp at this
          rw [← this]
          simp [show i < len by omega, show i < zs.length by omega]
        subst hxe
        have hj : j = 0 := by
          have := (List.getElem?_eq_some_iff.1 hy).1
          simp at this
          exact this
        subst hj
        have h7 := hcell i (by omega)
        have h8 : (⟨b, off, none⟩ : Addr).add i = ⟨b, off + (i * 1 + 0), none⟩ := by
          unfold Addr.add
          split
          · rename_i h9; subst h9; simp
          · simp
        rw [h8] at h7
        exact h7
      · have hi : i < (ints (zs.take len)).length := (List.getElem?_eq_some_iff.1 hx).1
        rw [ints_length, List.length_take] at hi
        have hxe : x = [Go.AM.FV.lit (.int .i64 (zs.getD i 0))] := by
          have := hx
          simp only [ints, List.getElem?_map] at this
          rw [List.getElem?_eq_getElem (by rw [List.length_take]; omega)] at this
          simp at this
          rw [← this]
          simp [show i < zs.length by omega]
        subst hxe
        have hj : j = 0 := by
          have := (List.getElem?_eq_some_iff.1 hy).1
          simp at this
          exact this
        subst hj
        simp at hy
        subst hy
        exact .lit _ rfl

theorem law_one {k : FuncId} {l : List Int} {W : World} {v0 : Value} (hr : Go.AM.FRd W (fun _ => False) v0 (.sl (ints l))) (hd : Go.AM.Den Tryz.prog k [] [.fv (.sl (ints l))] [] (.bool true)) :
    Calls Tryz.prog k #[v0] W fun e W' => e = .returned (.bool true) ∧ Below W.heap.size W W' := by
  refine (hd.2 ⟨W, fun _ => False, fun _ => False, [], fun _ h => h.elim⟩ (fun _ => False) [] #[v0] ⟨rfl, fun id p o h _ => by simp at h, fun i j p q o r g h _ => by simp at h, fun id p o g h _ => by simp at h, fun b h => h.elim, fun b h => h.elim, Nat.le_refl _, Go.AM.Places.Le.refl _⟩ (fun b h => h.elim) ⟨rfl, fun i v x hv hx => ?_⟩).mono fun e W' ⟨v, X', ρ', he, hk, hh, hp, _, _⟩ => ?_
  · cases i with
    | zero => simp at hv hx; subst hv; subst hx; exact .fv _ _ hr
    | succ i => simp at hv
  · subst he
    have hv : v = .bool true := by
      cases hp with
      | fv _ _ h => cases h with
        | lit => rfl
    subst hv
    exact ⟨rfl, hk.os, hk.tape, hk.output, hk.size, fun k h => hk.block k h (fun h => h)⟩
end Go.Proofs.YtddnnhlcpffbdaaGreat

namespace Go.Pl
open Go.AM

def tgt (T : List Raw) (i : Nat) (rest : List Raw) : List Raw := T.take i ++ rest.drop i
theorem tgt_length {T rest : List Raw} (i : Nat) (h : T.length = rest.length) : (tgt T i rest).length = rest.length := by
  unfold tgt; rw [List.length_append, List.length_take, List.length_drop]; omega
theorem tgt_zero (T rest : List Raw) : tgt T 0 rest = rest := by simp [tgt]
theorem tgt_all {T rest : List Raw} {n : Nat} (h : T.length = n) (h2 : rest.length = n) : tgt T n rest = T := by
  subst h; unfold tgt; rw [List.take_length, List.drop_of_length_le (by omega), List.append_nil]
theorem tgt_getD {T rest : List Raw} {i j : Nat} (h : T.length = rest.length) (hj : j < rest.length) (hi : i ≤ j) : (tgt T i rest).getD j rz = rest.getD j rz := by
  unfold tgt
  rw [List.getD_eq_getElem?_getD, List.getElem?_append_right (by rw [List.length_take]; omega), List.getElem?_drop, List.getD_eq_getElem?_getD]
  congr 2
  rw [List.length_take]; omega
theorem tgt_set {T rest : List Raw} {i : Nat} (h : T.length = rest.length) (hi : i < rest.length) : (tgt T i rest).set i (T.getD i rz) = tgt T (i + 1) rest := by
  unfold tgt
  rw [List.set_append_right _ _ (by rw [List.length_take]; omega)]
  have e : i - (T.take i).length = 0 := by rw [List.length_take]; omega
  have hT : i < T.length := by omega
  have h3 : T.take (i + 1) = T.take i ++ [T[i]] := List.take_succ_eq_append_getElem hT
  rw [e, List.drop_eq_getElem_cons hi, List.set_cons_zero, h3]
  have h4 : T.getD i rz = T[i] := by rw [List.getD_eq_getElem?_getD, List.getElem?_eq_getElem hT]; rfl
  rw [h4, List.append_assoc]
  rfl
def addL (a b : List Raw) : List Rat := List.zipWith (fun r s => r.q + s.q) a b
theorem addL_length {a b : List Raw} {n : Nat} (ha : a.length = n) (hb : b.length = n) : (addL a b).length = n := by simp [addL, ha, hb]
theorem addL_getD {a b : List Raw} {i : Nat} (ha : i < a.length) (hb : i < b.length) : ((addL a b).map cn).getD i rz = cn ((a.getD i rz).q + (b.getD i rz).q) := by
  simp [addL, List.getD_eq_getElem?_getD, List.getElem?_zipWith, ha, hb]
theorem addL_bd {a b : List Raw} {j k : Nat} (ha : ∀ r ∈ a, Bd j r.q) (hb : ∀ r ∈ b, Bd k r.q) (hk : 1 ≤ j + k) : ∀ x ∈ addL a b, Bd (j + k + 1) x := by
  intro x hx
  unfold addL at hx
  obtain ⟨i, hi, rfl⟩ := List.getElem_of_mem hx
  rw [List.getElem_zipWith]
  exact (ha _ (List.getElem_mem _)).add (hb _ (List.getElem_mem _)) hk
theorem LOk.of_map {k : Nat} {qs : List Rat} (hl : qs.length = 9) (h : ∀ q ∈ qs, Bd k q) : LOk k (qs.map cn) :=
  ⟨by simp [hl], fun r hr => by
    simp only [List.mem_map] at hr
    obtain ⟨q, hq, rfl⟩ := hr
    exact cn_ok (h q hq)⟩
theorem LOk.bd {k : Nat} {rs : List Raw} (h : LOk k rs) (hk : 1 ≤ k) : ∀ r ∈ rs, Bd k r.q := fun r hr => (h.ok r hr).bd hk
end Go.Pl

namespace Go.Pl
open Go.AM

def cmpR : List Raw → List Raw → Int
  | r :: a, s :: b => if sgq (r.q - s.q) = 0 then cmpR a b else sgq (r.q - s.q)
  | _, _ => 0
theorem drop_getD {a : List Raw} {i : Nat} (h : i < a.length) : a.drop i = a.getD i rz :: a.drop (i + 1) := by
  rw [List.drop_eq_getElem_cons h, List.getD_eq_getElem?_getD, List.getElem?_eq_getElem h]; rfl
theorem cmpR_drop {a b : List Raw} {i : Nat} (ha : i < a.length) (hb : i < b.length) : cmpR (a.drop i) (b.drop i) =
    if sgq ((a.getD i rz).q - (b.getD i rz).q) = 0 then cmpR (a.drop (i + 1)) (b.drop (i + 1)) else sgq ((a.getD i rz).q - (b.getD i rz).q) := by
  rw [drop_getD ha, drop_getD hb]; rfl
theorem cmpR_last {a b : List Raw} {i : Nat} (ha : i + 1 = a.length) (hb : i + 1 = b.length) : cmpR (a.drop i) (b.drop i) = sgq ((a.getD i rz).q - (b.getD i rz).q) := by
  rw [cmpR_drop (by omega) (by omega), List.drop_of_length_le (i := i + 1) (by omega)]
  split
  · rename_i h; rw [h]; rfl
  · rfl
theorem num_neg_iff {q : Rat} : q.num < 0 ↔ q < 0 := by
  have h := Rat.num_nonneg (q := q)
  have h2 := @Rat.not_le 0 q
  constructor
  · intro h3
    exact h2.1 (fun h4 => by have := h.2 h4; omega)
  · intro h3
    have h4 := h2.2 h3
    have h5 : ¬ (0 ≤ q.num) := fun h6 => h4 (h.1 h6)
    omega
theorem sgq_lt {x y : Rat} : sgq (x - y) < 0 ↔ x < y := by
  unfold sgq
  rw [Int.sign_neg_iff, num_neg_iff]
  constructor <;> intro h <;> grind
theorem sgq_gt {x y : Rat} : 0 < sgq (x - y) ↔ y < x := by
  have h1 : sgq (x - y) < 0 ↔ x < y := sgq_lt
  have h2 : sgq (x - y) = 0 ↔ x = y := by
    rw [sgq_eq_zero]
    constructor <;> intro h <;> grind
  constructor
  · intro h
    have h3 : ¬ x < y := fun h4 => by have := h1.2 h4; omega
    have h4 : x ≠ y := fun h5 => by have := h2.2 h5; omega
    grind
  · intro h
    have h3 : ¬ sgq (x - y) < 0 := fun h4 => by have := h1.1 h4; grind
    have h4 : sgq (x - y) ≠ 0 := fun h5 => by have := h2.1 h5; grind
    omega
theorem sgq_eq {x y : Rat} : sgq (x - y) = 0 ↔ x = y := by
  rw [sgq_eq_zero]
  constructor <;> intro h <;> grind
theorem sgq_range (q : Rat) : sgq q = -1 ∨ sgq q = 0 ∨ sgq q = 1 := by
  unfold sgq
  rcases Int.lt_trichotomy q.num 0 with h | h | h
  · exact Or.inl (Int.sign_eq_neg_one_of_neg h)
  · exact Or.inr (Or.inl (by rw [h]; rfl))
  · exact Or.inr (Or.inr (Int.sign_eq_one_of_pos h))
theorem sgq_swap (x y : Rat) : sgq (x - y) = -sgq (y - x) := by
  have h1 := sgq_range (x - y)
  have h2 := sgq_range (y - x)
  have h3 := sgq_lt (x := x) (y := y)
  have h4 := sgq_gt (x := y) (y := x)
  have h5 := sgq_eq (x := x) (y := y)
  have h6 := sgq_eq (x := y) (y := x)
  by_cases h : x = y
  · rw [h5.2 h, h6.2 h.symm]; rfl
  · have h7 := fun h9 => h (h5.1 h9)
    have h8 := fun h9 => h (h6.1 h9).symm
    by_cases hl : x < y
    · have := h3.2 hl
      have := h4.2 hl
      omega
    · have g1 : ¬ sgq (x - y) < 0 := fun h9 => hl (h3.1 h9)
      have g2 : ¬ 0 < sgq (y - x) := fun h9 => hl (h4.1 h9)
      have g3 : ¬ sgq (x - y) = 0 := h7
      have g4 : ¬ sgq (y - x) = 0 := h8
      omega
theorem cmpR_swap : ∀ a b : List Raw, cmpR a b = -cmpR b a
  | r :: a, s :: b => by
    unfold cmpR
    rw [sgq_swap r.q s.q, cmpR_swap a b]
    by_cases h : sgq (s.q - r.q) = 0
    · rw [if_pos h, if_pos (by omega)]
    · rw [if_neg h, if_neg (by omega)]
  | [], b => by cases b <;> simp [cmpR]
  | _ :: _, [] => by simp [cmpR]
theorem cmpR_trans : ∀ a b c : List Raw, a.length = b.length → b.length = c.length → cmpR a b ≤ 0 → cmpR b c ≤ 0 → cmpR a c ≤ 0
  | r :: a, s :: b, t :: c, h1, h2, h3, h4 => by
    have h1' : a.length = b.length := by simpa using h1
    have h2' : b.length = c.length := by simpa using h2
    unfold cmpR at h3 h4 ⊢
    have e1 := sgq_eq (x := r.q) (y := s.q)
    have e2 := sgq_eq (x := s.q) (y := t.q)
    have e3 := sgq_eq (x := r.q) (y := t.q)
    have l1 := sgq_lt (x := r.q) (y := s.q)
    have l2 := sgq_lt (x := s.q) (y := t.q)
    have l3 := sgq_lt (x := r.q) (y := t.q)
    by_cases a1 : sgq (r.q - s.q) = 0
    · rw [if_pos a1] at h3
      have q1 := e1.1 a1
      by_cases a2 : sgq (s.q - t.q) = 0
      · rw [if_pos a2] at h4
        rw [if_pos (e3.2 (q1.trans (e2.1 a2)))]
        exact cmpR_trans a b c h1' h2' h3 h4
      · rw [if_neg a2] at h4
        rw [if_neg (fun h => a2 (by rw [← q1]; exact h)), q1]
        exact h4
    · rw [if_neg a1] at h3
      have q1 := l1.1 (by omega)
      by_cases a2 : sgq (s.q - t.q) = 0
      · have q2 := e2.1 a2
        rw [← q2, if_neg a1]
        exact h3
      · rw [if_neg a2] at h4
        have q2 := l2.1 (by omega)
        have q3 := l3.2 (by grind)
        rw [if_neg (by omega)]
        omega
  | [], _, c, _, _, _, _ => by cases c <;> simp [cmpR]
  | _ :: _, _, [], _, _, _, _ => by simp [cmpR]
  | _ :: _, [], _ :: _, h, _, _, _ => by simp at h
theorem cmpR_zero : ∀ a c : List Raw, a.length = c.length → (cmpR a c = 0 ↔ a.map Raw.q = c.map Raw.q)
  | r :: a, t :: c, h => by
    have h' : a.length = c.length := by simpa using h
    unfold cmpR
    have e3 := sgq_eq (x := r.q) (y := t.q)
    have ih := cmpR_zero a c h'
    by_cases a1 : sgq (r.q - t.q) = 0
    · rw [if_pos a1, ih]
      simp only [List.map_cons, List.cons.injEq]
      exact ⟨fun h => ⟨e3.1 a1, h⟩, fun h => h.2⟩
    · rw [if_neg a1]
      simp only [List.map_cons, List.cons.injEq]
      exact ⟨fun h => absurd h a1, fun h => absurd (e3.2 h.1) a1⟩
  | [], [], _ => by simp [cmpR]
  | [], _ :: _, h => by simp at h
  | _ :: _, [], h => by simp at h
def constB (a : List Raw) : Bool := (a.take 8).all (fun r => decide (r.q = 0))
end Go.Pl

namespace Go.Pl
open Go.AM

theorem sgq_neg_iff {q : Rat} : sgq q < 0 ↔ q < 0 := by
  have h := sgq_lt (x := q) (y := 0)
  have e : q - 0 = q := by grind
  rw [e] at h; exact h
theorem sgq_pos_iff {q : Rat} : 0 < sgq q ↔ 0 < q := by
  have h := sgq_gt (x := q) (y := 0)
  have e : q - 0 = q := by grind
  rw [e] at h; exact h
theorem sgq_of_pos {q : Rat} (h : 0 < q) : sgq q = 1 := by
  have := sgq_pos_iff.2 h
  rcases sgq_range q with h1 | h1 | h1 <;> omega
theorem sgq_of_neg {q : Rat} (h : q < 0) : sgq q = -1 := by
  have := sgq_neg_iff.2 h
  rcases sgq_range q with h1 | h1 | h1 <;> omega
theorem sgq_zero' : sgq 0 = 0 := rfl
theorem set_getD {a : List Raw} {v i : Nat} (hi : i < a.length) : (a.set v rz).getD i rz = if v = i then rz else a.getD i rz := by
  simp only [List.getD_eq_getElem?_getD, List.getElem?_set]
  split
  · rename_i h; subst h; simp [hi]
  · rfl
theorem map_cn_getD {a : List Raw} {i : Nat} (g : Raw → Rat) (hi : i < a.length) : (((a.map g).map cn).getD i rz).q = g (a.getD i rz) := by
  have : ((a.map g).map cn).getD i rz = cn (g (a.getD i rz)) := by simp [List.getD_eq_getElem?_getD, hi]
  rw [this, cn_q]
end Go.Pl

namespace Go.Pl
open Go.AM

def co (a : List Raw) (i : Nat) : Rat := (a.getD i rz).q
def lv (a : List Raw) (x : Nat → Rat) : Nat → Rat
  | 0 => co a 8
  | k + 1 => lv a x k + co a k * x k
def lval (a : List Raw) (x : Nat → Rat) : Rat := lv a x 8
def Feas (cs : List (List Raw)) : Prop := ∃ x : Nat → Rat, ∀ l ∈ cs, 0 < lval l x
def upd (x : Nat → Rat) (v : Nat) (t : Rat) : Nat → Rat := fun i => if i = v then t else x i

theorem lv_upd {a : List Raw} {x : Nat → Rat} {v : Nat} {t : Rat} : ∀ k, lv a (upd x v t) k = lv a x k + (if v < k then co a v * (t - x v) else 0)
  | 0 => by unfold lv; rw [if_neg (by omega)]; grind
  | k + 1 => by
    unfold lv
    rw [lv_upd k]
    by_cases h : v = k
    · subst h
      rw [if_neg (by omega), if_pos (by omega)]
      simp only [upd, if_pos]
      grind
    · have h2 : upd x v t k = x k := if_neg (fun h3 => h h3.symm)
      rw [h2]
      by_cases h3 : v < k
      · rw [if_pos h3, if_pos (by omega)]; grind
      · rw [if_neg h3, if_neg (by omega)]; grind
theorem lval_upd {a : List Raw} {x : Nat → Rat} {v : Nat} {t : Rat} (hv : v < 8) : lval a (upd x v t) = lval a x + co a v * (t - x v) := by
  unfold lval; rw [lv_upd, if_pos hv]
theorem lv_congr {a b : List Raw} {x : Nat → Rat} (h : ∀ i, i < 9 → co a i = co b i) : ∀ k, k ≤ 8 → lv a x k = lv b x k
  | 0, _ => h 8 (by omega)
  | k + 1, hk => by unfold lv; rw [lv_congr h k (by omega), h k (by omega)]
theorem lv_lin {a b c : List Raw} {r s : Rat} {x : Nat → Rat} (h : ∀ i, i < 9 → co c i = r * co a i + s * co b i) : ∀ k, k ≤ 8 → lv c x k = r * lv a x k + s * lv b x k
  | 0, _ => h 8 (by omega)
  | k + 1, hk => by unfold lv; rw [lv_lin h k (by omega), h k (by omega)]; grind
theorem lval_lin {a b c : List Raw} {r s : Rat} {x : Nat → Rat} (h : ∀ i, i < 9 → co c i = r * co a i + s * co b i) : lval c x = r * lval a x + s * lval b x := lv_lin h 8 (by omega)

theorem max_of : ∀ L : List Rat, L ≠ [] → ∃ m ∈ L, ∀ l ∈ L, l ≤ m
  | [], h => absurd rfl h
  | [a], _ => ⟨a, by simp, fun l hl => by simp at hl; subst hl; exact Rat.le_refl⟩
  | a :: b :: t, _ => by
    obtain ⟨m, hm, h⟩ := max_of (b :: t) (by simp)
    by_cases hc : a ≤ m
    · exact ⟨m, List.mem_cons_of_mem _ hm, fun l hl => by
        rcases List.mem_cons.1 hl with h1 | h1
        · rw [h1]; exact hc
        · exact h l h1⟩
    · exact ⟨a, by simp, fun l hl => by
        rcases List.mem_cons.1 hl with h1 | h1
        · rw [h1]; exact Rat.le_refl
        · have := h l h1
          grind⟩
theorem min_of : ∀ L : List Rat, L ≠ [] → ∃ m ∈ L, ∀ l ∈ L, m ≤ l
  | [], h => absurd rfl h
  | [a], _ => ⟨a, by simp, fun l hl => by simp at hl; subst hl; exact Rat.le_refl⟩
  | a :: b :: t, _ => by
    obtain ⟨m, hm, h⟩ := min_of (b :: t) (by simp)
    by_cases hc : m ≤ a
    · exact ⟨m, List.mem_cons_of_mem _ hm, fun l hl => by
        rcases List.mem_cons.1 hl with h1 | h1
        · rw [h1]; exact hc
        · exact h l h1⟩
    · exact ⟨a, by simp, fun l hl => by
        rcases List.mem_cons.1 hl with h1 | h1
        · rw [h1]; exact Rat.le_refl
        · have := h l h1
          grind⟩
theorem between (L U : List Rat) (h : ∀ l ∈ L, ∀ u ∈ U, l < u) : ∃ m, (∀ l ∈ L, l < m) ∧ (∀ u ∈ U, m < u) := by
  by_cases hL : L = []
  · by_cases hU : U = []
    · subst hL; subst hU; exact ⟨0, by simp, by simp⟩
    · obtain ⟨m, hm, hmin⟩ := min_of U hU
      subst hL
      exact ⟨m - 1, by simp, fun u hu => by have := hmin u hu; grind⟩
  · obtain ⟨m, hm, hmax⟩ := max_of L hL
    by_cases hU : U = []
    · subst hU
      exact ⟨m + 1, fun l hl => by have := hmax l hl; grind, by simp⟩
    · obtain ⟨w, hw, hmin⟩ := min_of U hU
      have hmw := h m hm w hw
      exact ⟨(m + w) / 2, fun l hl => by have := hmax l hl; grind, fun u hu => by have := hmin u hu; grind⟩

def Bound (a : List Raw) (v : Nat) (b : List Raw) : Prop := co a v ≠ 0 ∧ ∀ i, i < 9 → co b i = if v = i then 0 else co a i * (-1 / co a v)
theorem lv_bound {a b : List Raw} {v : Nat} {x : Nat → Rat} (hb : Bound a v b) (hv : v < 8) : ∀ k, k ≤ 8 → lv a x k = (if v < k then co a v * x v else 0) - co a v * lv b x k
  | 0, _ => by
    have h0 := hb.1
    unfold lv
    rw [hb.2 8 (by omega), if_neg (by omega), if_neg (by omega)]; grind
  | k + 1, hk => by
    have h0 := hb.1
    unfold lv
    rw [lv_bound hb hv k (by omega), hb.2 k (by omega)]
    generalize lv b x k = z
    by_cases h : v = k
    · subst h
      rw [if_neg (by omega), if_pos rfl, if_pos (by omega)]; grind
    · rw [if_neg h]
      by_cases h2 : v < k
      · rw [if_pos h2, if_pos (by omega)]; grind
      · rw [if_neg h2, if_neg (by omega)]; grind
theorem lval_bound {a b : List Raw} {v : Nat} {x : Nat → Rat} (hb : Bound a v b) (hv : v < 8) : lval a x = co a v * (x v - lval b x) := by
  unfold lval
  rw [lv_bound hb hv 8 (by omega), if_pos hv]; grind
theorem bound_pos {a b : List Raw} {v : Nat} {x : Nat → Rat} (hb : Bound a v b) (hv : v < 8) (h : 0 < co a v) : 0 < lval a x ↔ lval b x < x v := by
  rw [lval_bound hb hv]
  constructor
  · intro h1
    rcases Rat.not_le.1 (fun h2 : x v ≤ lval b x => by
      have h3 : 0 ≤ lval b x - x v := by grind
      have h4 := Rat.mul_nonneg (Rat.le_of_lt h) h3
      grind) with h5
    exact h5
  · intro h1
    exact Rat.mul_pos h (by grind)
theorem bound_neg {a b : List Raw} {v : Nat} {x : Nat → Rat} (hb : Bound a v b) (hv : v < 8) (h : co a v < 0) : 0 < lval a x ↔ x v < lval b x := by
  rw [lval_bound hb hv]
  have hn : 0 < -co a v := by grind
  constructor
  · intro h1
    rcases Rat.not_le.1 (fun h2 : lval b x ≤ x v => by
      have h3 : 0 ≤ x v - lval b x := by grind
      have h4 := Rat.mul_nonneg (Rat.le_of_lt hn) h3
      grind) with h5
    exact h5
  · intro h1
    have h2 := Rat.mul_pos hn (show 0 < lval b x - x v by grind)
    grind

end Go.Pl

namespace Go.Pl
open Go.AM

def Left (cs : List (List Raw)) (v : Nat) (B : List Raw → List Raw) (x : Nat → Rat) : Prop :=
  (∀ l ∈ cs, co l v = 0 → 0 < lval l x) ∧ ∀ l ∈ cs, ∀ u ∈ cs, 0 < co l v → co u v < 0 → lval (B l) x < lval (B u) x

theorem lval_keep {a : List Raw} {x : Nat → Rat} {v : Nat} {t : Rat} (hv : v < 8) (h : co a v = 0) : lval a (upd x v t) = lval a x := by
  rw [lval_upd hv, h]; grind
theorem bound_var {a b : List Raw} {v : Nat} (hb : Bound a v b) (hv : v < 8) : co b v = 0 := by
  rw [hb.2 v (by omega), if_pos rfl]
theorem left_of {cs : List (List Raw)} {v : Nat} {B : List Raw → List Raw} {x : Nat → Rat} (hv : v < 8) (hB : ∀ l ∈ cs, co l v ≠ 0 → Bound l v (B l)) (h : ∀ l ∈ cs, 0 < lval l x) : Left cs v B x := by
  refine ⟨fun l hl _ => h l hl, fun l hl u hu h1 h2 => ?_⟩
  have b1 := (bound_pos (hB l hl (by grind)) hv h1).1 (h l hl)
  have b2 := (bound_neg (hB u hu (by grind)) hv h2).1 (h u hu)
  grind
theorem of_left {cs : List (List Raw)} {v : Nat} {B : List Raw → List Raw} {x : Nat → Rat} (hv : v < 8) (hB : ∀ l ∈ cs, co l v ≠ 0 → Bound l v (B l)) (h : Left cs v B x) : ∃ t, ∀ l ∈ cs, 0 < lval l (upd x v t) := by
  obtain ⟨m, hL, hU⟩ := between ((cs.filter (fun l => decide (0 < co l v))).map (fun l => lval (B l) x)) ((cs.filter (fun l => decide (co l v < 0))).map (fun l => lval (B l) x)) (by
    intro p hp q hq
    simp only [List.mem_map, List.mem_filter, decide_eq_true_eq] at hp hq
    obtain ⟨l, ⟨hl, h1⟩, rfl⟩ := hp
    obtain ⟨u, ⟨hu, h2⟩, rfl⟩ := hq
    exact h.2 l hl u hu h1 h2)
  refine ⟨m, fun l hl => ?_⟩
  have hxv : upd x v m v = m := if_pos rfl
  by_cases h0 : co l v = 0
  · rw [lval_keep hv h0]; exact h.1 l hl h0
  · have hb := hB l hl h0
    have hkeep : lval (B l) (upd x v m) = lval (B l) x := lval_keep hv (bound_var hb hv)
    by_cases h1 : 0 < co l v
    · rw [bound_pos hb hv h1, hkeep, hxv]
      exact hL _ (List.mem_map.2 ⟨l, List.mem_filter.2 ⟨hl, decide_eq_true h1⟩, rfl⟩)
    · have h2 : co l v < 0 := by grind
      rw [bound_neg hb hv h2, hkeep, hxv]
      exact hU _ (List.mem_map.2 ⟨l, List.mem_filter.2 ⟨hl, decide_eq_true h2⟩, rfl⟩)

structure Proj (cs : List (List Raw)) (v : Nat) (out : List (List Raw)) : Prop where
  says : ∃ B : List Raw → List Raw, (∀ l ∈ cs, co l v ≠ 0 → Bound l v (B l)) ∧ ∀ x, (∀ o ∈ out, 0 < lval o x) ↔ Left cs v B x
theorem Proj.feas {cs out : List (List Raw)} {v : Nat} (hv : v < 8) (h : Proj cs v out) : Feas cs ↔ Feas out := by
  obtain ⟨B, hB, hs⟩ := h.says
  constructor
  · rintro ⟨x, hx⟩
    exact ⟨x, (hs x).2 (left_of hv hB hx)⟩
  · rintro ⟨x, hx⟩
    obtain ⟨t, ht⟩ := of_left hv hB ((hs x).1 hx)
    exact ⟨_, ht⟩
theorem lv_const {a : List Raw} {x : Nat → Rat} (h : ∀ i, i < 8 → co a i = 0) : ∀ k, k ≤ 8 → lv a x k = co a 8
  | 0, _ => rfl
  | k + 1, hk => by unfold lv; rw [lv_const h k (by omega), h k (by omega)]; grind
theorem lval_const {a : List Raw} {x : Nat → Rat} (h : ∀ i, i < 8 → co a i = 0) : lval a x = co a 8 := lv_const h 8 (by omega)
theorem lval_scale {a b : List Raw} {r : Rat} {x : Nat → Rat} (hr : 0 < r) (h : ∀ i, i < 9 → co b i = r * co a i) : 0 < lval b x ↔ 0 < lval a x := by
  have e : lval b x = r * lval a x + 0 * lval a x := lval_lin (fun i hi => by rw [h i hi]; grind)
  have e2 : lval b x = r * lval a x := by rw [e]; grind
  rw [e2]
  constructor
  · intro h1
    rcases Rat.not_le.1 (fun h2 : lval a x ≤ 0 => by
      have h3 := Rat.mul_nonneg (Rat.le_of_lt hr) (show 0 ≤ -lval a x by grind)
      grind) with h4
    exact h4
  · intro h1; exact Rat.mul_pos hr h1
theorem Proj.mk' {cs out : List (List Raw)} {v : Nat} (B : List Raw → List Raw) (hB : ∀ l ∈ cs, co l v ≠ 0 → Bound l v (B l))
    (h1 : ∀ l ∈ cs, co l v = 0 → ∃ o ∈ out, ∀ i, i < 9 → co o i = co l i) (h2 : ∀ l ∈ cs, ∀ u ∈ cs, 0 < co l v → co u v < 0 → ∃ o ∈ out, ∀ i, i < 9 → co o i = co (B u) i - co (B l) i)
    (h3 : ∀ o ∈ out, (∃ l ∈ cs, co l v = 0 ∧ ∀ i, i < 9 → co o i = co l i) ∨ ∃ l ∈ cs, ∃ u ∈ cs, 0 < co l v ∧ co u v < 0 ∧ ∀ i, i < 9 → co o i = co (B u) i - co (B l) i) : Proj cs v out := by
  refine ⟨B, hB, fun x => ⟨fun h => ⟨fun l hl h0 => ?_, fun l hl u hu hp hn => ?_⟩, fun h o ho => ?_⟩⟩
  · obtain ⟨o, ho, he⟩ := h1 l hl h0
    have e : lval o x = lval l x := lv_congr he 8 (by omega)
    rw [← e]; exact h o ho
  · obtain ⟨o, ho, he⟩ := h2 l hl u hu hp hn
    have e : lval o x = 1 * lval (B u) x + (-1) * lval (B l) x := lval_lin (fun i hi => by rw [he i hi]; grind)
    have := h o ho
    grind
  · rcases h3 o ho with ⟨l, hl, h0, he⟩ | ⟨l, hl, u, hu, hp, hn, he⟩
    · have e : lval o x = lval l x := lv_congr he 8 (by omega)
      rw [e]; exact h.1 l hl h0
    · have e : lval o x = 1 * lval (B u) x + (-1) * lval (B l) x := lval_lin (fun i hi => by rw [he i hi]; grind)
      have := h.2 l hl u hu hp hn
      grind

end Go.Pl

namespace Go.Pl
open Go.AM

theorem sorted_unique {α : Type} {lt : α → α → Prop} (asymm : ∀ a b, lt a b → ¬ lt b a) : ∀ s t : List α, s.Pairwise lt → t.Pairwise lt → (∀ f, f ∈ s ↔ f ∈ t) → s = t
  | [], [], _, _, _ => rfl
  | [], b :: t, _, _, h => by have := (h b).2 (by simp); simp at this
  | a :: s, [], _, _, h => by have := (h a).1 (by simp); simp at this
  | a :: s, b :: t, hs, ht, h => by
    have hs2 := List.pairwise_cons.1 hs
    have ht2 := List.pairwise_cons.1 ht
    have hab : a = b := by
      rcases List.mem_cons.1 ((h a).1 (by simp)) with h1 | h1
      · exact h1
      · rcases List.mem_cons.1 ((h b).2 (by simp)) with h2 | h2
        · exact h2.symm
        · exact absurd (ht2.1 a h1) (asymm _ _ (hs2.1 b h2))
    subst hab
    have hirr : ¬ lt a a := fun h1 => asymm _ _ h1 h1
    have hn1 : a ∉ s := fun h1 => hirr (hs2.1 a h1)
    have hn2 : a ∉ t := fun h1 => hirr (ht2.1 a h1)
    have hm : ∀ f, f ∈ s ↔ f ∈ t := fun f => by
      constructor
      · intro h1
        rcases List.mem_cons.1 ((h f).1 (List.mem_cons_of_mem _ h1)) with h2 | h2
        · subst h2; exact absurd h1 hn1
        · exact h2
      · intro h1
        rcases List.mem_cons.1 ((h f).2 (List.mem_cons_of_mem _ h1)) with h2 | h2
        · subst h2; exact absurd h1 hn2
        · exact h2
    rw [sorted_unique asymm s t hs2.2 ht2.2 hm]

def IsConst (a : List Raw) : Prop := ∀ i, i < 8 → co a i = 0
def nrmR (a : List Raw) : List Raw := (nrm a).map cn
structure IsSys (cs s : List (List Raw)) : Prop where
  sorted : s.Pairwise (fun a b => cmpR a b < 0)
  mem : ∀ f, f ∈ s ↔ ∃ l ∈ cs, ¬ IsConst l ∧ f = nrmR l
theorem IsSys.unique {cs s t : List (List Raw)} (h1 : IsSys cs s) (h2 : IsSys cs t) : s = t :=
  sorted_unique (lt := fun a b => cmpR a b < 0) (fun a b h h' => by rw [cmpR_swap] at h'; omega) s t h1.sorted h2.sorted (fun f => by rw [h1.mem, h2.mem])

def occ (cs : List (List Raw)) (v : Nat) : Bool := cs.any (fun l => decide (co l v ≠ 0))
def nvars (cs : List (List Raw)) : Nat := ((List.range 8).filter (occ cs)).length
theorem occ_iff {cs : List (List Raw)} {v : Nat} : occ cs v = true ↔ ∃ l ∈ cs, co l v ≠ 0 := by
  unfold occ
  rw [List.any_eq_true]
  constructor
  · rintro ⟨l, hl, h⟩; exact ⟨l, hl, of_decide_eq_true h⟩
  · rintro ⟨l, hl, h⟩; exact ⟨l, hl, decide_eq_true h⟩
theorem filter_lt {p q : Nat → Bool} : ∀ {l : List Nat} {v : Nat}, (∀ w ∈ l, q w = true → p w = true) → v ∈ l → p v = true → q v = false → (l.filter q).length < (l.filter p).length
  | [], v, _, hv, _, _ => by simp at hv
  | w :: l, v, h, hv, hp, hq => by
    have hle : ∀ l : List Nat, (∀ w ∈ l, q w = true → p w = true) → (l.filter q).length ≤ (l.filter p).length := by
      intro l
      induction l with
      | nil => intro _; simp
      | cons a l ih =>
        intro h
        have ih := ih (fun w hw => h w (List.mem_cons_of_mem _ hw))
        cases hqa : q a with
        | true =>
          have hpa := h a (by simp) hqa
          simp [hqa, hpa]; omega
        | false =>
          cases hpa : p a <;> simp [hqa, hpa] <;> omega
    have hl : ∀ w ∈ l, q w = true → p w = true := fun w hw => h w (List.mem_cons_of_mem _ hw)
    rcases List.mem_cons.1 hv with h1 | h1
    · subst h1
      have := hle l hl
      simp [hq, hp]; omega
    · have ih := filter_lt hl h1 hp hq
      cases hqa : q w with
      | true =>
        have hpa := h w (by simp) hqa
        simp [hqa, hpa]; omega
      | false =>
        cases hpa : p w <;> simp [hqa, hpa] <;> omega
theorem nvars_lt {cs out : List (List Raw)} {v : Nat} (hv : v < 8) (h : ∀ w, w < 8 → occ out w = true → occ cs w = true) (h1 : occ cs v = true) (h2 : occ out v = false) : nvars out < nvars cs :=
  filter_lt (l := List.range 8) (v := v) (fun w hw => h w (List.mem_range.1 hw)) (List.mem_range.2 hv) h1 h2
theorem nvars_pos {cs : List (List Raw)} {v : Nat} (hv : v < 8) (h : occ cs v = true) : 0 < nvars cs := by
  unfold nvars
  exact List.length_pos_iff.2 (fun h2 => by
    have : v ∈ (List.range 8).filter (occ cs) := List.mem_filter.2 ⟨List.mem_range.2 hv, h⟩
    rw [h2] at this; simp at this)
theorem not_const {a : List Raw} (h : ¬ IsConst a) : ∃ v, v < 8 ∧ co a v ≠ 0 := by
  rcases Classical.em (∃ v, v < 8 ∧ co a v ≠ 0) with h1 | h1
  · exact h1
  · exfalso
    apply h
    intro i hi
    rcases Classical.em (co a i = 0) with h2 | h2
    · exact h2
    · exact absurd ⟨i, hi, h2⟩ h1

end Go.Pl

namespace Go.Pl
open Go.AM

theorem lead_map2 {C : Rat} (hC : C ≠ 0) : ∀ {rs : List Raw}, (leadL ((rs.map (fun r => r.q / C)).map cn)).q = (leadL rs).q / C
  | [] => by simp only [List.map_nil, leadL]; rw [rz_q']; grind
  | [c] => by simp only [List.map_cons, List.map_nil, leadL, cn_q]
  | r :: s :: t => by
    have ih := lead_map2 hC (rs := s :: t)
    simp only [List.map_cons] at ih ⊢
    simp only [leadL]
    rw [cn_q]
    by_cases h : r.q = 0
    · rw [if_pos h, if_pos (by rw [h]; grind)]
      exact ih
    · rw [if_neg h, if_neg (by grind), cn_q]
theorem absq_pos2 {c : Rat} (h : c ≠ 0) : 0 < absq c := by
  have h1 : c.num < 0 ↔ c < 0 := num_neg_iff
  unfold absq
  split
  · rename_i h2
    have := h1.1 h2
    grind
  · rename_i h2
    have : ¬ c < 0 := fun h3 => h2 (h1.2 h3)
    grind
theorem absq_unit2 {c : Rat} (h : c ≠ 0) : absq (c / absq c) = 1 := by
  have hp := absq_pos2 h
  have h1 : (c / absq c).num < 0 ↔ c / absq c < 0 := num_neg_iff
  have h2 : c.num < 0 ↔ c < 0 := num_neg_iff
  by_cases hc : c.num < 0
  · have e : absq c = -c := if_pos hc
    have hc2 := h2.1 hc
    have e2 : c / absq c = -1 := by rw [e]; grind
    rw [e2]; rfl
  · have e : absq c = c := if_neg hc
    have e2 : c / absq c = 1 := by rw [e]; grind
    rw [e2]; rfl
theorem nrm_nrm2 {rs : List Raw} (_ : rs.length = 9) : nrm ((nrm rs).map cn) = nrm rs := by
  by_cases h : (leadL rs).q = 0
  · rw [nrm_zero h]
    apply nrm_zero
    have hm := leadL_mem (rs := (List.replicate 9 (0 : Rat)).map cn) (by simp)
    obtain ⟨q, hq, he⟩ := List.mem_map.1 hm
    rw [← he, cn_q]
    exact List.eq_of_mem_replicate hq
  · have h1 := nrm_of h
    have hC := absq_zero h
    have h2 : (leadL ((nrm rs).map cn)).q = (leadL rs).q / absq (leadL rs).q := by rw [h1]; exact lead_map2 hC
    have h3 : (leadL ((nrm rs).map cn)).q ≠ 0 := by rw [h2]; grind
    rw [nrm_of h3, h2, absq_unit2 h, List.map_map]
    have h4 : (fun r : Raw => r.q / 1) ∘ cn = id := by
      funext q
      simp only [Function.comp, cn_q, id]
      grind
    rw [h4, List.map_id]

theorem co_mem {a : List Raw} {i : Nat} (h : i < a.length) : a.getD i rz ∈ a := by
  rw [List.getD_eq_getElem?_getD, List.getElem?_eq_getElem h]; exact List.getElem_mem h
theorem lead_ne {l : List Raw} (hl : l.length = 9) (h : ¬ IsConst l) : (leadL l).q ≠ 0 := fun h0 => h (fun i hi => leadL_zero h0 _ (co_mem (by omega)))
theorem nrmR_len {l : List Raw} (hl : l.length = 9) : (nrmR l).length = 9 := by
  unfold nrmR nrm
  rw [List.length_map]
  split
  · simp
  · rw [List.length_map, hl]
theorem nrmR_at {l : List Raw} (hl : l.length = 9) (h : (leadL l).q ≠ 0) {i : Nat} (hi : i < 9) : co (nrmR l) i = co l i / absq (leadL l).q := by
  unfold co nrmR
  rw [nrm_of h]
  exact map_cn_getD (a := l) (fun r => r.q / absq (leadL l).q) (by omega)
theorem nrmR_pos {l : List Raw} (hl : l.length = 9) (h : ¬ IsConst l) : ∃ r : Rat, 0 < r ∧ ∀ i, i < 9 → co (nrmR l) i = r * co l i := by
  have h0 := lead_ne hl h
  have hp := absq_pos2 h0
  refine ⟨1 / absq (leadL l).q, ?_, fun i hi => by rw [nrmR_at hl h0 hi]; grind⟩
  have := Rat.inv_pos (a := absq (leadL l).q) |>.2 hp
  have e : 1 / absq (leadL l).q = (absq (leadL l).q)⁻¹ := by grind
  rw [e]; exact this
theorem nrmR_const {l : List Raw} (hl : l.length = 9) (h : ¬ IsConst l) : ¬ IsConst (nrmR l) := by
  obtain ⟨r, hr, he⟩ := nrmR_pos hl h
  intro h2
  apply h
  intro i hi
  have h3 := h2 i hi
  rw [he i (by omega)] at h3
  rcases Rat.mul_eq_zero.1 h3 with h4 | h4
  · rw [h4] at hr; exact absurd hr (Rat.lt_irrefl)
  · exact h4
theorem nrmR_co {l : List Raw} (hl : l.length = 9) (h : ¬ IsConst l) {i : Nat} (hi : i < 9) : (co (nrmR l) i = 0 ↔ co l i = 0) := by
  obtain ⟨r, hr, he⟩ := nrmR_pos hl h
  rw [he i hi]
  constructor
  · intro h3
    rcases Rat.mul_eq_zero.1 h3 with h4 | h4
    · rw [h4] at hr; exact absurd hr (Rat.lt_irrefl)
    · exact h4
  · intro h3; rw [h3, Rat.mul_zero]
theorem nrmR_val {l : List Raw} (hl : l.length = 9) (h : ¬ IsConst l) {x : Nat → Rat} : 0 < lval (nrmR l) x ↔ 0 < lval l x := by
  obtain ⟨r, hr, he⟩ := nrmR_pos hl h
  exact lval_scale hr he
theorem nrmR_idem {l : List Raw} (hl : l.length = 9) : nrmR (nrmR l) = nrmR l := by
  unfold nrmR; rw [nrm_nrm2 hl]
theorem nrmR_ok {k : Nat} {l : List Raw} (h : LOk k l) (hk : 1 ≤ k) : LOk (2 * k) (nrmR l) := by
  refine LOk.of_map ?_ ?_
  · have := nrmR_len h.len
    unfold nrmR at this
    rwa [List.length_map] at this
  · intro x hx
    by_cases h0 : (leadL l).q = 0
    · rw [nrm_zero h0] at hx
      rw [List.eq_of_mem_replicate hx]
      exact Bd.zero (by omega)
    · rw [nrm_of h0] at hx
      simp only [List.mem_map] at hx
      obtain ⟨r, hr, rfl⟩ := hx
      have hne : l ≠ [] := fun h2 => by rw [h2] at hr; simp at hr
      have b1 := (h.ok _ hr).bd hk
      have b2 := (h.ok _ (leadL_mem hne)).bd hk
      have b3 : Bd k (absq (leadL l).q) := by unfold absq; split; exact b2.neg; exact b2
      exact Bd.mono (b1.div b3 (absq_zero h0) (by omega)) (by omega)

def In (cs : List (List Raw)) (x : Nat → Rat) : Prop := ∀ l ∈ cs, 0 < lval l x ∨ (IsConst l ∧ lval l x = 0)
def Pos (cs : List (List Raw)) (x : Nat → Rat) : Prop := ∀ l ∈ cs, 0 < lval l x
def Viol (cs : List (List Raw)) : Prop := ∃ l ∈ cs, IsConst l ∧ co l 8 < 0
theorem viol_in {cs : List (List Raw)} (h : Viol cs) (x : Nat → Rat) : ¬ In cs x := by
  obtain ⟨l, hl, hc, hn⟩ := h
  intro hi
  have e : lval l x = co l 8 := lval_const hc
  rcases hi l hl with h1 | ⟨_, h1⟩ <;> rw [e] at h1 <;> grind
theorem sys_in {cs s : List (List Raw)} (h9 : ∀ l ∈ cs, l.length = 9) (h : IsSys cs s) (hv : ¬ Viol cs) (x : Nat → Rat) : In cs x ↔ Pos s x := by
  constructor
  · intro hi f hf
    obtain ⟨l, hl, hc, rfl⟩ := (h.mem f).1 hf
    rw [nrmR_val (h9 l hl) hc]
    rcases hi l hl with h1 | ⟨h1, _⟩
    · exact h1
    · exact absurd h1 hc
  · intro hp l hl
    rcases Classical.em (IsConst l) with hc | hc
    · have e : lval l x = co l 8 := lval_const hc
      rw [e]
      by_cases h0 : co l 8 = 0
      · exact Or.inr ⟨hc, h0⟩
      · left
        have : ¬ co l 8 < 0 := fun h1 => hv ⟨l, hl, hc, h1⟩
        grind
    · left
      rw [← nrmR_val (h9 l hl) hc]
      exact hp _ ((h.mem _).2 ⟨l, hl, hc, rfl⟩)
structure SysF (k : Nat) (s : List (List Raw)) : Prop where
  sorted : s.Pairwise (fun a b => cmpR a b < 0)
  ok : ∀ l ∈ s, LOk k l
  nc : ∀ l ∈ s, ¬ IsConst l
  nm : ∀ l ∈ s, nrmR l = l
theorem SysF.mono {j k : Nat} {s : List (List Raw)} (h : SysF j s) (hk : j ≤ k) : SysF k s := ⟨h.sorted, fun l hl => (h.ok l hl).mono hk, h.nc, h.nm⟩
theorem SysF.of {cs s : List (List Raw)} {k : Nat} (h9 : ∀ l ∈ cs, l.length = 9) (h : IsSys cs s) (hk : ∀ l ∈ cs, ¬ IsConst l → LOk k (nrmR l)) : SysF k s := by
  refine ⟨h.sorted, fun f hf => ?_, fun f hf => ?_, fun f hf => ?_⟩ <;> obtain ⟨l, hl, hc, rfl⟩ := (h.mem f).1 hf
  · exact hk l hl hc
  · exact nrmR_const (h9 l hl) hc
  · exact nrmR_idem (h9 l hl)
theorem SysF.self {k : Nat} {s : List (List Raw)} (h : SysF k s) : IsSys s s := ⟨h.sorted, fun f => ⟨fun hf => ⟨f, hf, h.nc f hf, (h.nm f hf).symm⟩, fun ⟨l, hl, _, he⟩ => by rw [he, h.nm l hl]; exact hl⟩⟩
theorem IsSys.congr {cs ds s : List (List Raw)} (h : IsSys cs s) (hm : ∀ l, l ∈ cs ↔ l ∈ ds) : IsSys ds s := ⟨h.sorted, fun f => by rw [h.mem]; constructor <;> (rintro ⟨l, hl, h2⟩; exact ⟨l, by first | exact (hm l).1 hl | exact (hm l).2 hl, h2⟩)⟩
theorem sys_occ {cs s : List (List Raw)} (h9 : ∀ l ∈ cs, l.length = 9) (h : IsSys cs s) {w : Nat} (hw : w < 8) : occ s w = true ↔ occ cs w = true := by
  rw [occ_iff, occ_iff]
  constructor
  · rintro ⟨f, hf, h0⟩
    obtain ⟨l, hl, hc, rfl⟩ := (h.mem f).1 hf
    exact ⟨l, hl, fun h1 => h0 ((nrmR_co (h9 l hl) hc (by omega)).2 h1)⟩
  · rintro ⟨l, hl, h0⟩
    have hc : ¬ IsConst l := fun h1 => h0 (h1 w hw)
    exact ⟨nrmR l, (h.mem _).2 ⟨l, hl, hc, rfl⟩, fun h1 => h0 ((nrmR_co (h9 l hl) hc (by omega)).1 h1)⟩
theorem constB_iff {a : List Raw} (ha : a.length = 9) : constB a = true ↔ IsConst a := by
  unfold constB IsConst
  rw [List.all_eq_true]
  constructor
  · intro h i hi
    refine of_decide_eq_true (h (a.getD i rz) ?_)
    rw [List.getD_eq_getElem?_getD, List.getElem?_eq_getElem (by omega)]
    exact List.mem_take_iff_getElem.2 ⟨i, by omega, rfl⟩
  · intro h r hr
    obtain ⟨i, hi, rfl⟩ := List.mem_take_iff_getElem.1 hr
    have := h i (by omega)
    unfold co at this
    rw [List.getD_eq_getElem?_getD, List.getElem?_eq_getElem (by omega)] at this
    exact decide_eq_true this
end Go.Pl

namespace Go.Pl
open Go.AM

def solR (v : Nat) (l : List Raw) : List Raw := ((l.set v rz).map (fun r => r.q * (-1 / (l.getD v rz).q))).map cn
def negR (l : List Raw) : List Raw := (l.map (fun r => r.q * ((-1 : Int) : Rat))).map cn
def comb (u l : List Raw) : List Raw := (addL u (negR l)).map cn
def lowL (s : List (List Raw)) (v : Nat) : List (List Raw) := (s.filter (fun l => decide (0 < co l v))).map (solR v)
def highL (s : List (List Raw)) (v : Nat) : List (List Raw) := (s.filter (fun l => decide (co l v < 0))).map (solR v)
def restL (s : List (List Raw)) (v : Nat) : List (List Raw) := s.filter (fun l => decide (co l v = 0))
def outL (s : List (List Raw)) (v : Nat) : List (List Raw) := restL s v ++ (highL s v).flatMap fun u => (lowL s v).map fun l => comb u l
def Bad (s : List (List Raw)) (v : Nat) : Prop := ∃ u ∈ highL s v, ∃ l ∈ lowL s v, IsConst (comb u l) ∧ co (comb u l) 8 ≤ 0

theorem solR_len {v : Nat} {l : List Raw} (h : l.length = 9) : (solR v l).length = 9 := by simp [solR, h]
theorem negR_len {l : List Raw} (h : l.length = 9) : (negR l).length = 9 := by simp [negR, h]
theorem comb_len {u l : List Raw} (hu : u.length = 9) (hl : l.length = 9) : (comb u l).length = 9 := by
  unfold comb; rw [List.length_map, addL_length hu (negR_len hl)]
theorem solR_bound {v : Nat} {l : List Raw} (h : l.length = 9) (h0 : co l v ≠ 0) : Bound l v (solR v l) := by
  refine ⟨h0, fun i hi => ?_⟩
  unfold co solR
  rw [map_cn_getD _ (by rw [List.length_set]; omega), set_getD (by omega)]
  by_cases hv : v = i
  · rw [if_pos hv, if_pos hv, rz_q']; grind
  · rw [if_neg hv, if_neg hv]
theorem negR_at {l : List Raw} (h : l.length = 9) {i : Nat} (hi : i < 9) : co (negR l) i = -co l i := by
  unfold co negR
  rw [map_cn_getD _ (by omega)]; grind
theorem comb_at {u l : List Raw} (hu : u.length = 9) (hl : l.length = 9) {i : Nat} (hi : i < 9) : co (comb u l) i = co u i - co l i := by
  have h1 := negR_at hl hi
  unfold co at h1 ⊢
  unfold comb
  rw [addL_getD (by omega) (by rw [negR_len hl]; omega), cn_q, h1]; grind
theorem mem_low {s : List (List Raw)} {v : Nat} {b : List Raw} : b ∈ lowL s v ↔ ∃ l ∈ s, 0 < co l v ∧ b = solR v l := by
  unfold lowL
  simp only [List.mem_map, List.mem_filter, decide_eq_true_eq]
  constructor
  · rintro ⟨l, ⟨h1, h2⟩, rfl⟩; exact ⟨l, h1, h2, rfl⟩
  · rintro ⟨l, h1, h2, rfl⟩; exact ⟨l, ⟨h1, h2⟩, rfl⟩
theorem mem_high {s : List (List Raw)} {v : Nat} {b : List Raw} : b ∈ highL s v ↔ ∃ l ∈ s, co l v < 0 ∧ b = solR v l := by
  unfold highL
  simp only [List.mem_map, List.mem_filter, decide_eq_true_eq]
  constructor
  · rintro ⟨l, ⟨h1, h2⟩, rfl⟩; exact ⟨l, h1, h2, rfl⟩
  · rintro ⟨l, h1, h2, rfl⟩; exact ⟨l, ⟨h1, h2⟩, rfl⟩
theorem mem_rest {s : List (List Raw)} {v : Nat} {b : List Raw} : b ∈ restL s v ↔ b ∈ s ∧ co b v = 0 := by
  unfold restL
  simp only [List.mem_filter, decide_eq_true_eq]
theorem mem_out {s : List (List Raw)} {v : Nat} {o : List Raw} : o ∈ outL s v ↔ (o ∈ s ∧ co o v = 0) ∨ ∃ l ∈ s, ∃ u ∈ s, 0 < co l v ∧ co u v < 0 ∧ o = comb (solR v u) (solR v l) := by
  unfold outL
  rw [List.mem_append, mem_rest, List.mem_flatMap]
  constructor
  · rintro (h | ⟨u, hu, h⟩)
    · exact Or.inl h
    · right
      obtain ⟨l, hl, rfl⟩ := List.mem_map.1 h
      obtain ⟨u', h1, h2, rfl⟩ := mem_high.1 hu
      obtain ⟨l', h3, h4, rfl⟩ := mem_low.1 hl
      exact ⟨l', h3, u', h1, h4, h2, rfl⟩
  · rintro (h | ⟨l, hl, u, hu, h1, h2, rfl⟩)
    · exact Or.inl h
    · exact Or.inr ⟨_, mem_high.2 ⟨u, hu, h2, rfl⟩, List.mem_map.2 ⟨_, mem_low.2 ⟨l, hl, h1, rfl⟩, rfl⟩⟩
theorem out_len {s : List (List Raw)} {v : Nat} (h9 : ∀ l ∈ s, l.length = 9) : ∀ o ∈ outL s v, o.length = 9 := by
  intro o ho
  rcases mem_out.1 ho with ⟨h, _⟩ | ⟨l, hl, u, hu, _, _, rfl⟩
  · exact h9 o h
  · exact comb_len (solR_len (h9 u hu)) (solR_len (h9 l hl))
theorem out_proj {s : List (List Raw)} {v : Nat} (h9 : ∀ l ∈ s, l.length = 9) : Proj s v (outL s v) := by
  refine Proj.mk' (solR v) (fun l hl h0 => solR_bound (h9 l hl) h0) (fun l hl h0 => ⟨l, mem_out.2 (Or.inl ⟨hl, h0⟩), fun _ _ => rfl⟩)
    (fun l hl u hu h1 h2 => ⟨_, mem_out.2 (Or.inr ⟨l, hl, u, hu, h1, h2, rfl⟩), fun i hi => comb_at (solR_len (h9 u hu)) (solR_len (h9 l hl)) hi⟩) (fun o ho => ?_)
  rcases mem_out.1 ho with ⟨h, h0⟩ | ⟨l, hl, u, hu, h1, h2, rfl⟩
  · exact Or.inl ⟨o, h, h0, fun _ _ => rfl⟩
  · exact Or.inr ⟨l, hl, u, hu, h1, h2, fun i hi => comb_at (solR_len (h9 u hu)) (solR_len (h9 l hl)) hi⟩
theorem out_var {s : List (List Raw)} {v : Nat} (hv : v < 8) (h9 : ∀ l ∈ s, l.length = 9) : ∀ o ∈ outL s v, co o v = 0 := by
  intro o ho
  rcases mem_out.1 ho with ⟨_, h⟩ | ⟨l, hl, u, hu, h1, h2, rfl⟩
  · exact h
  · rw [comb_at (solR_len (h9 u hu)) (solR_len (h9 l hl)) (by omega), bound_var (solR_bound (h9 u hu) (by grind)) hv, bound_var (solR_bound (h9 l hl) (by grind)) hv]; grind
theorem out_occ {s : List (List Raw)} {v w : Nat} (hw : w < 8) (h9 : ∀ l ∈ s, l.length = 9) (h : occ (outL s v) w = true) : occ s w = true := by
  rw [occ_iff] at h ⊢
  obtain ⟨o, ho, h0⟩ := h
  rcases mem_out.1 ho with ⟨h, _⟩ | ⟨l, hl, u, hu, h1, h2, rfl⟩
  · exact ⟨o, h, h0⟩
  · rw [comb_at (solR_len (h9 u hu)) (solR_len (h9 l hl)) (by omega)] at h0
    have e1 := (solR_bound (h9 u hu) (v := v) (by grind)).2 w (by omega)
    have e2 := (solR_bound (h9 l hl) (v := v) (by grind)).2 w (by omega)
    by_cases c1 : co u w = 0
    · by_cases c2 : co l w = 0
      · exfalso
        apply h0
        rw [e1, e2, c1, c2]
        split <;> grind
      · exact ⟨l, hl, c2⟩
    · exact ⟨u, hu, c1⟩
theorem sys_pos {k : Nat} {s s' : List (List Raw)} {v : Nat} (hs : SysF k s) (hb : ¬ Bad s v) (h : IsSys (outL s v) s') (x : Nat → Rat) : Pos s' x ↔ Pos (outL s v) x := by
  have h9 : ∀ l ∈ s, l.length = 9 := fun l hl => (hs.ok l hl).len
  have hcon : ∀ o ∈ outL s v, IsConst o → 0 < co o 8 := by
    intro o ho hc
    rcases mem_out.1 ho with ⟨h1, _⟩ | ⟨l, hl, u, hu, h1, h2, rfl⟩
    · exact absurd hc (hs.nc o h1)
    · rcases Rat.not_le.1 (fun h3 : co (comb (solR v u) (solR v l)) 8 ≤ 0 => hb ⟨_, mem_high.2 ⟨u, hu, h2, rfl⟩, _, mem_low.2 ⟨l, hl, h1, rfl⟩, hc, h3⟩) with h4
      exact h4
  have hv : ¬ Viol (outL s v) := fun ⟨o, ho, hc, hn⟩ => by have := hcon o ho hc; grind
  rw [← sys_in (out_len h9) h hv x]
  constructor
  · intro hi o ho
    rcases hi o ho with h1 | ⟨h1, h2⟩
    · exact h1
    · have e : lval o x = co o 8 := lval_const h1
      have := hcon o ho h1
      grind
  · intro hp o ho
    exact Or.inl (hp o ho)
theorem pos_keep {s : List (List Raw)} {v : Nat} (hv : v < 8) (h : ∀ o ∈ s, co o v = 0) (x : Nat → Rat) (t : Rat) : Pos s (upd x v t) ↔ Pos s x := by
  constructor <;> intro hp o ho <;> have := hp o ho
  · rwa [lval_keep hv (h o ho)] at this
  · rwa [lval_keep hv (h o ho)]
theorem step_pos {k : Nat} {s s' : List (List Raw)} {v : Nat} (hv : v < 8) (hs : SysF k s) (hb : ¬ Bad s v) (h : IsSys (outL s v) s') (x : Nat → Rat) : Pos s' x ↔ ∃ t, Pos s (upd x v t) := by
  have h9 : ∀ l ∈ s, l.length = 9 := fun l hl => (hs.ok l hl).len
  rw [sys_pos hs hb h x]
  obtain ⟨B, hB, hsay⟩ := (out_proj (v := v) h9).says
  constructor
  · intro hp
    exact of_left hv hB ((hsay x).1 hp)
  · rintro ⟨t, ht⟩
    rw [← pos_keep hv (out_var hv h9) x t]
    exact (hsay _).2 (left_of hv hB ht)
theorem bad_pos {k : Nat} {s : List (List Raw)} {v : Nat} (hv : v < 8) (hs : SysF k s) (hb : Bad s v) (x : Nat → Rat) : ¬ Pos s x := by
  intro hp
  have h9 : ∀ l ∈ s, l.length = 9 := fun l hl => (hs.ok l hl).len
  obtain ⟨B, hB, hsay⟩ := (out_proj (v := v) h9).says
  have ho := (hsay x).2 (left_of hv hB hp)
  obtain ⟨u, hu, l, hl, hc, hn⟩ := hb
  have hm : comb u l ∈ outL s v := List.mem_append.2 (Or.inr (List.mem_flatMap.2 ⟨u, hu, List.mem_map.2 ⟨l, hl, rfl⟩⟩))
  have h1 := ho _ hm
  have e : lval (comb u l) x = co (comb u l) 8 := lval_const hc
  grind
theorem filter_all {α : Type} {p : α → Bool} : ∀ {l : List α}, (∀ a ∈ l, p a = true) → l.filter p = l
  | [], _ => rfl
  | a :: l, h => by rw [List.filter_cons_of_pos (h a (by simp)), filter_all (fun b hb => h b (List.mem_cons_of_mem _ hb))]
theorem filter_none {α : Type} {p : α → Bool} : ∀ {l : List α}, (∀ a ∈ l, p a = false) → l.filter p = []
  | [], _ => rfl
  | a :: l, h => by rw [List.filter_cons_of_neg (by rw [h a (by simp)]; simp), filter_none (fun b hb => h b (List.mem_cons_of_mem _ hb))]
theorem occ_false {s : List (List Raw)} {v : Nat} (h : occ s v = false) : ∀ l ∈ s, co l v = 0 := by
  intro l hl
  rcases Classical.em (co l v = 0) with h1 | h1
  · exact h1
  · have := occ_iff.2 ⟨l, hl, h1⟩
    rw [h] at this; simp at this
theorem out_same {s : List (List Raw)} {v : Nat} (h : occ s v = false) : outL s v = s ∧ lowL s v = [] ∧ highL s v = [] := by
  have h0 := occ_false h
  have e1 : lowL s v = [] := by unfold lowL; rw [filter_none (fun l hl => by rw [h0 l hl]; decide)]; rfl
  have e2 : highL s v = [] := by unfold highL; rw [filter_none (fun l hl => by rw [h0 l hl]; decide)]; rfl
  refine ⟨?_, e1, e2⟩
  unfold outL
  rw [e2, List.flatMap_nil, List.append_nil]
  unfold restL
  exact filter_all (fun l hl => by rw [h0 l hl]; decide)
theorem step_same {k : Nat} {s s' : List (List Raw)} {v : Nat} (hs : SysF k s) (h : occ s v = false) (hi : IsSys (outL s v) s') : s' = s := by
  rw [(out_same h).1] at hi
  exact hi.unique hs.self
theorem solR_bd {k v : Nat} {l : List Raw} (h : LOk k l) (hk : 1 ≤ k) (h0 : co l v ≠ 0) : ∀ r ∈ solR v l, Bd (2 * k + 1) r.q := by
  intro r hr
  unfold solR at hr
  simp only [List.map_map, List.mem_map, Function.comp] at hr
  obtain ⟨a, ha, rfl⟩ := hr
  rw [cn_q]
  have b1 : Bd k a.q := by
    rcases List.mem_or_eq_of_mem_set ha with h1 | h1
    · exact (h.ok _ h1).bd hk
    · rw [h1, rz_q']; exact Bd.zero hk
  have b2 : Bd k (l.getD v rz).q := (h.at v).bd hk
  have b0 : Bd 1 ((-1 : Rat)) := ⟨by decide, by decide⟩
  exact Bd.mono (b1.mul (b0.div b2 h0 (by omega)) (by omega)) (by omega)
theorem negR_bd {k : Nat} {l : List Raw} (h : ∀ r ∈ l, Bd k r.q) : ∀ r ∈ negR l, Bd (k + 1) r.q := by
  intro r hr
  unfold negR at hr
  simp only [List.map_map, List.mem_map, Function.comp] at hr
  obtain ⟨a, ha, rfl⟩ := hr
  rw [cn_q]
  have b0 : Bd 1 (((-1 : Int) : Rat)) := ⟨by decide, by decide⟩
  exact (h a ha).mul b0 (by omega)
theorem solR_ok {k v : Nat} {l : List Raw} (h : LOk k l) (hk : 1 ≤ k) (h0 : co l v ≠ 0) : LOk (2 * k + 1) (solR v l) := by
  refine LOk.of_map (by rw [List.length_map, List.length_set]; exact h.len) (fun q hq => ?_)
  have := solR_bd h hk h0 (cn q) (by unfold solR; exact List.mem_map.2 ⟨q, hq, rfl⟩)
  rwa [cn_q] at this
theorem negR_ok {k : Nat} {l : List Raw} (h : LOk k l) (hk : 1 ≤ k) : LOk (k + 1) (negR l) := by
  refine LOk.of_map (by rw [List.length_map]; exact h.len) (fun q hq => ?_)
  have := negR_bd (h.bd hk) (cn q) (by unfold negR; exact List.mem_map.2 ⟨q, hq, rfl⟩)
  rwa [cn_q] at this
theorem comb_ok {k : Nat} {u l : List Raw} (hu : LOk k u) (hl : LOk k l) (hk : 1 ≤ k) : LOk (2 * k + 2) (comb u l) :=
  LOk.of_map (addL_length hu.len (negR_len hl.len)) (fun q hq => Bd.mono (addL_bd (hu.bd hk) (negR_bd (hl.bd hk)) (by omega) q hq) (by omega))
theorem low_ok {k v : Nat} {s : List (List Raw)} (h : ∀ l ∈ s, LOk k l) (hk : 1 ≤ k) : ∀ b ∈ lowL s v, LOk (2 * k + 1) b := by
  intro b hb
  obtain ⟨l, hl, h0, rfl⟩ := mem_low.1 hb
  exact solR_ok (h l hl) hk (by grind)
theorem high_ok {k v : Nat} {s : List (List Raw)} (h : ∀ l ∈ s, LOk k l) (hk : 1 ≤ k) : ∀ b ∈ highL s v, LOk (2 * k + 1) b := by
  intro b hb
  obtain ⟨l, hl, h0, rfl⟩ := mem_high.1 hb
  exact solR_ok (h l hl) hk (by grind)
theorem out_ok {k v : Nat} {s : List (List Raw)} (h : ∀ l ∈ s, LOk k l) (hk : 1 ≤ k) : ∀ o ∈ outL s v, LOk (4 * k + 4) o := by
  intro o ho
  unfold outL at ho
  rcases List.mem_append.1 ho with h1 | h1
  · exact (h o (mem_rest.1 h1).1).mono (by omega)
  · obtain ⟨u, hu, h2⟩ := List.mem_flatMap.1 h1
    obtain ⟨l, hl, rfl⟩ := List.mem_map.1 h2
    exact (comb_ok (high_ok h hk u hu) (low_ok h hk l hl) (by omega)).mono (by omega)
end Go.Pl

namespace Go.Pl
open Go.AM

theorem nodup_length {α : Type} : ∀ (s L : List α), s.Pairwise (fun a b => a ≠ b) → (∀ f ∈ s, f ∈ L) → s.length ≤ L.length
  | [], _, _, _ => Nat.zero_le _
  | a :: s, L, hp, h => by
    have h2 := List.pairwise_cons.1 hp
    obtain ⟨L1, L2, rfl⟩ := List.append_of_mem (h a (by simp))
    have ih := nodup_length s (L1 ++ L2) h2.2 (fun f hf => by
      have h3 := h f (List.mem_cons_of_mem _ hf)
      rw [List.mem_append, List.mem_cons] at h3
      rw [List.mem_append]
      rcases h3 with h3 | h3 | h3
      · exact Or.inl h3
      · exact absurd h3.symm (h2.1 f hf)
      · exact Or.inr h3)
    simp only [List.length_append, List.length_cons] at ih ⊢
    omega
def ncs (cs : List (List Raw)) : List (List Raw) := cs.filter (fun l => !constB l)
theorem mem_ncs {cs : List (List Raw)} (h9 : ∀ l ∈ cs, l.length = 9) {l : List Raw} : l ∈ ncs cs ↔ l ∈ cs ∧ ¬ IsConst l := by
  unfold ncs
  rw [List.mem_filter]
  constructor
  · rintro ⟨h1, h2⟩
    exact ⟨h1, fun h3 => by rw [(constB_iff (h9 l h1)).2 h3] at h2; simp at h2⟩
  · rintro ⟨h1, h2⟩
    refine ⟨h1, ?_⟩
    cases h : constB l with
    | false => rfl
    | true => exact absurd ((constB_iff (h9 l h1)).1 h) h2
theorem sys_length {cs s : List (List Raw)} (h9 : ∀ l ∈ cs, l.length = 9) (h : IsSys cs s) : s.length ≤ (ncs cs).length := by
  have := nodup_length s ((ncs cs).map nrmR) (h.sorted.imp (fun hab he => by subst he; have := cmpR_swap (by assumption) (by assumption); omega)) (fun f hf => by
    obtain ⟨l, hl, hc, rfl⟩ := (h.mem f).1 hf
    exact List.mem_map.2 ⟨l, (mem_ncs h9).2 ⟨hl, hc⟩, rfl⟩)
  rwa [List.length_map] at this
structure Sz (k : Nat) (s : List (List Raw)) : Prop where
  n3 : nvars s ≤ 3
  c3 : nvars s = 3 → s.length ≤ 5 ∧ k ≤ 14
  c2 : nvars s = 2 → s.length ≤ 7 ∧ k ≤ 120
  c1 : nvars s = 1 → s.length ≤ 12 ∧ k ≤ 1000
theorem occ_pos {s : List (List Raw)} {l : List Raw} (hl : l ∈ s) (hc : ¬ IsConst l) : 0 < nvars s := by
  obtain ⟨v, hv, h0⟩ := not_const hc
  exact nvars_pos hv (occ_iff.2 ⟨l, hl, h0⟩)
theorem Sz.all {k : Nat} {s : List (List Raw)} (h : Sz k s) (hp : 0 < nvars s) : s.length ≤ 12 ∧ k ≤ 1000 := by
  have h1 := h.n3
  have h2 := h.c3
  have h3 := h.c2
  have h4 := h.c1
  have : nvars s = 1 ∨ nvars s = 2 ∨ nvars s = 3 := by omega
  rcases this with h5 | h5 | h5
  · exact h4 h5
  · have := h3 h5; omega
  · have := h2 h5; omega
theorem Sz.len {k : Nat} {s : List (List Raw)} (h : Sz k s) (hs : SysF k s) : s.length ≤ 12 := by
  cases s with
  | nil => exact Nat.zero_le _
  | cons l t => exact (h.all (occ_pos (List.mem_cons_self ..) (hs.nc l (by simp)))).1
theorem Sz.lim {k : Nat} {s : List (List Raw)} (h : Sz k s) (hs : SysF k s) : ∀ l ∈ s, LOk 1000 l := fun l hl => (hs.ok l hl).mono (h.all (occ_pos hl (hs.nc l hl))).2
theorem split_length (s : List (List Raw)) (v : Nat) : (restL s v).length + (lowL s v).length + (highL s v).length = s.length := by
  unfold restL lowL highL
  rw [List.length_map, List.length_map]
  induction s with
  | nil => rfl
  | cons l t ih =>
    rcases Classical.em (co l v = 0) with h | h
    · rw [List.filter_cons_of_pos (by simp [h]), List.filter_cons_of_neg (by rw [h]; decide), List.filter_cons_of_neg (by rw [h]; decide)]
      simp only [List.length_cons]; omega
    · rw [List.filter_cons_of_neg (by simp [h])]
      rcases Classical.em (0 < co l v) with h1 | h1
      · rw [List.filter_cons_of_pos (by simp [h1]), List.filter_cons_of_neg (by simp; grind)]
        simp only [List.length_cons]; omega
      · rw [List.filter_cons_of_neg (by simp [h1]), List.filter_cons_of_pos (by simp; grind)]
        simp only [List.length_cons]; omega
theorem flat_length' {α β : Type} (f : α → β → β) : ∀ (H : List α) (L : List β), (H.flatMap fun u => L.map fun l => f u l).length = H.length * L.length
  | [], L => by simp
  | u :: H, L => by
    rw [List.flatMap_cons, List.length_append, List.length_map, flat_length' f H L, List.length_cons, Nat.add_mul]; omega
theorem out_length (s : List (List Raw)) (v : Nat) : (outL s v).length = (restL s v).length + (highL s v).length * (lowL s v).length := by
  unfold outL
  rw [List.length_append, flat_length' (fun u l => comb u l)]
theorem arith7 {p q r : Nat} (h : r + p + q ≤ 7) : r + q * p ≤ 12 := by
  have : p = 0 ∨ p = 1 ∨ p = 2 ∨ p = 3 ∨ p = 4 ∨ p = 5 ∨ p = 6 ∨ p = 7 := by omega
  rcases this with h1 | h1 | h1 | h1 | h1 | h1 | h1 | h1 <;> subst h1 <;> omega
theorem arith5 {p q r : Nat} (h : r + p + q ≤ 5) : r + q * p ≤ 7 := by
  have : p = 0 ∨ p = 1 ∨ p = 2 ∨ p = 3 ∨ p = 4 ∨ p = 5 := by omega
  rcases this with h1 | h1 | h1 | h1 | h1 | h1 <;> subst h1 <;> omega
theorem arith12 {p q r : Nat} (h : r + p + q ≤ 12) : r + q * p ≤ 100 := by
  have h1 : q * p ≤ 12 * p := Nat.mul_le_mul_right _ (by omega)
  have h2 : p = 0 ∨ p = 1 ∨ p = 2 ∨ p = 3 ∨ p = 4 ∨ p = 5 ∨ p = 6 ∨ p = 7 ∨ p = 8 ∨ p = 9 ∨ p = 10 ∨ p = 11 ∨ p = 12 := by omega
  rcases h2 with h1 | h1 | h1 | h1 | h1 | h1 | h1 | h1 | h1 | h1 | h1 | h1 | h1 <;> subst h1 <;> omega
theorem occ_out {k : Nat} {s : List (List Raw)} {v : Nat} (hv : v < 8) (hs : SysF k s) : occ (outL s v) v = false := by
  cases h : occ (outL s v) v with
  | false => rfl
  | true =>
    obtain ⟨o, ho, h0⟩ := occ_iff.1 h
    exact absurd (out_var hv (fun l hl => (hs.ok l hl).len) o ho) h0
theorem nvars_out {k : Nat} {s : List (List Raw)} {v : Nat} (hv : v < 8) (hs : SysF k s) (h : occ s v = true) : nvars (outL s v) < nvars s :=
  nvars_lt hv (fun _ hw h2 => out_occ hw (fun l hl => (hs.ok l hl).len) h2) h (occ_out hv hs)
theorem out_count {k : Nat} {s : List (List Raw)} {v : Nat} (hv : v < 8) (hs : SysF k s) (hz : Sz k s) : (ncs (outL s v)).length ≤ 12 := by
  have h9 : ∀ l ∈ s, l.length = 9 := fun l hl => (hs.ok l hl).len
  have hle : (ncs (outL s v)).length ≤ (outL s v).length := List.length_filter_le _ _
  cases ho : occ s v with
  | false =>
    have h1 := hz.len hs
    rw [(out_same ho).1] at hle ⊢
    omega
  | true =>
    have h1 := split_length s v
    have h2 := out_length s v
    have h3 := nvars_pos hv ho
    have h4 := hz.n3
    have : nvars s = 1 ∨ nvars s = 2 ∨ nvars s = 3 := by omega
    rcases this with h5 | h5 | h5
    · have h6 := nvars_out hv hs ho
      have h7 : ncs (outL s v) = [] := by
        cases h8 : ncs (outL s v) with
        | nil => rfl
        | cons o t =>
          have h10 := (mem_ncs (out_len h9)).1 (show o ∈ ncs (outL s v) by rw [h8]; simp)
          have := occ_pos h10.1 h10.2
          omega
      rw [h7]; exact Nat.zero_le _
    · have := (hz.c2 h5).1
      have := arith7 (p := (lowL s v).length) (q := (highL s v).length) (r := (restL s v).length) (by omega)
      omega
    · have := (hz.c3 h5).1
      have := arith7 (p := (lowL s v).length) (q := (highL s v).length) (r := (restL s v).length) (by omega)
      omega
theorem step_ok {k : Nat} {s s' : List (List Raw)} {v : Nat} (hk : 1 ≤ k) (hs : SysF k s) (hi : IsSys (outL s v) s') : SysF (8 * k + 8) s' :=
  SysF.of (out_len (fun l hl => (hs.ok l hl).len)) hi (fun o ho hc => (nrmR_ok (out_ok hs.ok hk o ho) (by omega)).mono (by omega))
theorem nvars_le {s t : List (List Raw)} (h : ∀ w, w < 8 → occ s w = true → occ t w = true) : nvars s ≤ nvars t := by
  unfold nvars
  have key : ∀ l : List Nat, (∀ w ∈ l, w < 8) → (l.filter (occ s)).length ≤ (l.filter (occ t)).length := by
    intro l
    induction l with
    | nil => intro _; simp
    | cons w l ih =>
      intro hl
      have ih2 := ih (fun u hu => hl u (List.mem_cons_of_mem _ hu))
      cases h1 : occ s w with
      | false =>
        rw [List.filter_cons_of_neg (by rw [h1]; simp)]
        have : (l.filter (occ t)).length ≤ ((w :: l).filter (occ t)).length := by
          cases h2 : occ t w with
          | false => rw [List.filter_cons_of_neg (by rw [h2]; simp)]; exact Nat.le_refl _
          | true => rw [List.filter_cons_of_pos h2, List.length_cons]; omega
        omega
      | true =>
        rw [List.filter_cons_of_pos h1, List.filter_cons_of_pos (h w (hl w (by simp)) h1), List.length_cons, List.length_cons]; omega
  exact key _ (fun w hw => List.mem_range.1 hw)
theorem sys_nvars {cs s : List (List Raw)} (h9 : ∀ l ∈ cs, l.length = 9) (h : IsSys cs s) : nvars s = nvars cs :=
  Nat.le_antisymm (nvars_le (fun _ hw h1 => (sys_occ h9 h hw).1 h1)) (nvars_le (fun _ hw h1 => (sys_occ h9 h hw).2 h1))
theorem step_sz {k : Nat} {s s' : List (List Raw)} {v : Nat} (hv : v < 8) (hs : SysF k s) (hz : Sz k s) (ho : occ s v = true) (hi : IsSys (outL s v) s') : Sz (8 * k + 8) s' ∧ nvars s' < nvars s := by
  have h9 : ∀ l ∈ s, l.length = 9 := fun l hl => (hs.ok l hl).len
  have hn := nvars_out hv hs ho
  rw [← sys_nvars (out_len h9) hi] at hn
  have hl := sys_length (out_len h9) hi
  have hle : (ncs (outL s v)).length ≤ (outL s v).length := List.length_filter_le _ _
  have h1 := split_length s v
  have h2 := out_length s v
  have h4 := hz.n3
  have hc := out_count hv hs hz
  refine ⟨⟨by omega, fun h => by omega, fun h => ?_, fun h => ?_⟩, hn⟩
  · have h5 : nvars s = 3 := by omega
    have := hz.c3 h5
    have := arith5 (p := (lowL s v).length) (q := (highL s v).length) (r := (restL s v).length) (by omega)
    omega
  · refine ⟨by omega, ?_⟩
    have : nvars s = 2 ∨ nvars s = 3 := by omega
    rcases this with h5 | h5
    · have := hz.c2 h5; omega
    · have := hz.c3 h5; omega
end Go.Pl

namespace Go.Pl
open Go.AM

def ins (f : List Raw) : List (List Raw) → List (List Raw)
  | [] => [f]
  | a :: s => if cmpR a f < 0 then a :: ins f s else if cmpR a f = 0 then a :: s else f :: a :: s
def IsCn (f : List Raw) : Prop := ∃ qs : List Rat, f = qs.map cn ∧ qs.length = 9
theorem IsCn.len {f : List Raw} (h : IsCn f) : f.length = 9 := by obtain ⟨qs, rfl, hl⟩ := h; simp [hl]
theorem nrmR_cn {l : List Raw} (h : l.length = 9) : IsCn (nrmR l) := by
  have := nrmR_len h
  exact ⟨nrm l, rfl, by simpa [nrmR] using this⟩
theorem map_cn_q (qs : List Rat) : (qs.map cn).map Raw.q = qs := by
  rw [List.map_map]
  conv => rhs; rw [← List.map_id qs]
  exact List.map_congr_left (fun q _ => cn_q q)
theorem cn_eq {f g : List Raw} (hf : IsCn f) (hg : IsCn g) (h : cmpR f g = 0) : f = g := by
  have h2 := (cmpR_zero f g (by rw [hf.len, hg.len])).1 h
  obtain ⟨p, rfl, _⟩ := hf
  obtain ⟨q, rfl, _⟩ := hg
  rw [map_cn_q, map_cn_q] at h2
  rw [h2]
theorem cmpR_self (f : List Raw) : cmpR f f = 0 := by have := cmpR_swap f f; omega
theorem cn_lt_trans {a b c : List Raw} (ha : IsCn a) (hb : IsCn b) (hc : IsCn c) (h1 : cmpR a b < 0) (h2 : cmpR b c < 0) : cmpR a c < 0 := by
  have h3 := cmpR_trans a b c (by rw [ha.len, hb.len]) (by rw [hb.len, hc.len]) (by omega) (by omega)
  rcases Int.lt_or_eq_of_le h3 with h4 | h4
  · exact h4
  · have h5 := cn_eq ha hc h4
    subst h5
    rw [cmpR_swap] at h2
    omega
theorem ins_mem {f : List Raw} (hf : IsCn f) : ∀ {s : List (List Raw)}, (∀ a ∈ s, IsCn a) → ∀ g, g ∈ ins f s ↔ g = f ∨ g ∈ s
  | [], _, g => by simp [ins]
  | a :: s, h, g => by
    unfold ins
    split
    · rw [List.mem_cons, ins_mem hf (fun b hb => h b (List.mem_cons_of_mem _ hb)), List.mem_cons]
      exact ⟨fun h1 => by rcases h1 with h1 | h1 | h1 <;> simp [h1], fun h1 => by rcases h1 with h1 | h1 | h1 <;> simp [h1]⟩
    · split
      · rename_i h1
        have := cn_eq (h a (by simp)) hf h1
        subst this
        simp
      · simp
theorem ins_sorted {f : List Raw} (hf : IsCn f) : ∀ {s : List (List Raw)}, (∀ a ∈ s, IsCn a) → s.Pairwise (fun a b => cmpR a b < 0) → (ins f s).Pairwise (fun a b => cmpR a b < 0)
  | [], _, _ => by simp [ins]
  | a :: s, h, hs => by
    have h2 := List.pairwise_cons.1 hs
    have hsc : ∀ b ∈ s, IsCn b := fun b hb => h b (List.mem_cons_of_mem _ hb)
    unfold ins
    split
    · rename_i h1
      refine List.pairwise_cons.2 ⟨fun b hb => ?_, ins_sorted hf hsc h2.2⟩
      rcases (ins_mem hf hsc b).1 hb with h3 | h3
      · rw [h3]; exact h1
      · exact h2.1 b h3
    · split
      · exact hs
      · rename_i h1 h3
        have hfa : cmpR f a < 0 := by rw [cmpR_swap]; omega
        refine List.pairwise_cons.2 ⟨fun b hb => ?_, hs⟩
        rcases List.mem_cons.1 hb with h4 | h4
        · rw [h4]; exact hfa
        · exact cn_lt_trans hf (h a (by simp)) (hsc b h4) hfa (h2.1 b h4)
def sysL : List (List Raw) → List (List Raw) → List (List Raw)
  | [], s => s
  | l :: cs, s => if constB l then sysL cs s else sysL cs (ins (nrmR l) s)
theorem sysL_is' : ∀ (cs s : List (List Raw)), (∀ l ∈ cs, l.length = 9) → (∀ a ∈ s, IsCn a) → s.Pairwise (fun a b => cmpR a b < 0) →
    (sysL cs s).Pairwise (fun a b => cmpR a b < 0) ∧ ∀ f, f ∈ sysL cs s ↔ f ∈ s ∨ ∃ l ∈ cs, ¬ IsConst l ∧ f = nrmR l
  | [], s, _, _, hp => ⟨hp, fun f => by simp [sysL]⟩
  | l :: cs, s, h9, hs, hp => by
    have hl := h9 l (by simp)
    have h9' : ∀ l ∈ cs, l.length = 9 := fun k hk => h9 k (List.mem_cons_of_mem _ hk)
    unfold sysL
    by_cases hc : constB l = true
    · rw [if_pos hc]
      obtain ⟨h1, h2⟩ := sysL_is' cs s h9' hs hp
      refine ⟨h1, fun f => ?_⟩
      rw [h2]
      have hk := (constB_iff hl).1 hc
      constructor
      · rintro (h3 | ⟨k, hk, h3⟩)
        · exact .inl h3
        · exact .inr ⟨k, List.mem_cons_of_mem _ hk, h3⟩
      · rintro (h3 | ⟨k, hk2, h3⟩)
        · exact .inl h3
        · rcases List.mem_cons.1 hk2 with h4 | h4
          · subst h4; exact absurd hk h3.1
          · exact .inr ⟨k, h4, h3⟩
    · rw [if_neg hc]
      have hnc := fun h => hc ((constB_iff hl).2 h)
      have hcn := nrmR_cn hl
      obtain ⟨h1, h2⟩ := sysL_is' cs (ins (nrmR l) s) h9' (fun a ha => by
        rcases (ins_mem hcn hs a).1 ha with h3 | h3
        · rw [h3]; exact hcn
        · exact hs a h3) (ins_sorted hcn hs hp)
      refine ⟨h1, fun f => ?_⟩
      rw [h2, ins_mem hcn hs]
      constructor
      · rintro ((h3 | h3) | ⟨k, hk, h3⟩)
        · exact .inr ⟨l, by simp, hnc, h3⟩
        · exact .inl h3
        · exact .inr ⟨k, List.mem_cons_of_mem _ hk, h3⟩
      · rintro (h3 | ⟨k, hk2, h3⟩)
        · exact .inl (.inr h3)
        · rcases List.mem_cons.1 hk2 with h4 | h4
          · subst h4; exact .inl (.inl h3.2)
          · exact .inr ⟨k, h4, h3⟩
theorem sysL_is {cs : List (List Raw)} (h9 : ∀ l ∈ cs, l.length = 9) : IsSys cs (sysL cs []) := by
  obtain ⟨h1, h2⟩ := sysL_is' cs [] h9 (by simp) List.Pairwise.nil
  exact ⟨h1, fun f => by rw [h2]; simp⟩
theorem IsSys.eq {cs s : List (List Raw)} (h9 : ∀ l ∈ cs, l.length = 9) (h : IsSys cs s) : s = sysL cs [] := h.unique (sysL_is h9)

def violB (cs : List (List Raw)) : Bool := cs.any (fun l => constB l && decide (co l 8 < 0))
theorem violB_iff {cs : List (List Raw)} (h9 : ∀ l ∈ cs, l.length = 9) : violB cs = true ↔ Viol cs := by
  unfold violB Viol
  rw [List.any_eq_true]
  constructor
  · rintro ⟨l, hl, h⟩
    rw [Bool.and_eq_true, constB_iff (h9 l hl), decide_eq_true_iff] at h
    exact ⟨l, hl, h⟩
  · rintro ⟨l, hl, h⟩
    refine ⟨l, hl, ?_⟩
    rw [Bool.and_eq_true, constB_iff (h9 l hl), decide_eq_true_iff]
    exact h
noncomputable def feasB (cs : List (List Raw)) : Bool := @decide (Feas cs) (Classical.propDecidable _)
theorem feasB_iff {cs : List (List Raw)} : feasB cs = true ↔ Feas cs := by unfold feasB; rw [@decide_eq_true_iff]
theorem feasB_false {cs : List (List Raw)} : feasB cs = false ↔ ¬ Feas cs := by
  rw [← feasB_iff]; cases feasB cs <;> simp
noncomputable def innerB (cs : List (List Raw)) : Bool := !violB cs && feasB (sysL cs [])
theorem innerB_iff {cs : List (List Raw)} (h9 : ∀ l ∈ cs, l.length = 9) : innerB cs = true ↔ ∃ x, In cs x := by
  unfold innerB
  rw [Bool.and_eq_true, feasB_iff, Bool.not_eq_true']
  constructor
  · rintro ⟨h1, x, hx⟩
    exact ⟨x, (sys_in h9 (sysL_is h9) (fun hv => by rw [(violB_iff h9).2 hv] at h1; cases h1) x).2 hx⟩
  · rintro ⟨x, hx⟩
    have hnv : ¬ Viol cs := fun hv => viol_in hv x hx
    refine ⟨?_, x, (sys_in h9 (sysL_is h9) hnv x).1 hx⟩
    cases h : violB cs with
    | false => rfl
    | true => exact absurd ((violB_iff h9).1 h) hnv
theorem feas_nil : Feas [] := ⟨fun _ => 0, by simp⟩
def badB (s : List (List Raw)) (v : Nat) : Bool := (highL s v).any (fun u => (lowL s v).any (fun l => constB (comb u l) && decide (co (comb u l) 8 ≤ 0)))
theorem badB_iff {s : List (List Raw)} {v : Nat} (h9 : ∀ l ∈ s, l.length = 9) : badB s v = true ↔ Bad s v := by
  unfold badB Bad
  rw [List.any_eq_true]
  have hl : ∀ u ∈ highL s v, ∀ l ∈ lowL s v, (comb u l).length = 9 := fun u hu l hl => by
    obtain ⟨a, ha, _, rfl⟩ := mem_high.1 hu
    obtain ⟨b, hb, _, rfl⟩ := mem_low.1 hl
    exact comb_len (solR_len (h9 a ha)) (solR_len (h9 b hb))
  constructor
  · rintro ⟨u, hu, h⟩
    rw [List.any_eq_true] at h
    obtain ⟨l, hl2, h⟩ := h
    rw [Bool.and_eq_true, constB_iff (hl u hu l hl2), decide_eq_true_iff] at h
    exact ⟨u, hu, l, hl2, h⟩
  · rintro ⟨u, hu, l, hl2, h⟩
    refine ⟨u, hu, ?_⟩
    rw [List.any_eq_true]
    refine ⟨l, hl2, ?_⟩
    rw [Bool.and_eq_true, constB_iff (hl u hu l hl2), decide_eq_true_iff]
    exact h
def stepL (s : List (List Raw)) (v : Nat) : List (List Raw) := sysL (outL s v) []
theorem stepL_is {k : Nat} {s : List (List Raw)} (v : Nat) (hs : SysF k s) : IsSys (outL s v) (stepL s v) := sysL_is (out_len (fun l hl => (hs.ok l hl).len))
theorem step_feas {k : Nat} {s : List (List Raw)} {v : Nat} (hv : v < 8) (hs : SysF k s) (hb : ¬ Bad s v) : Feas (stepL s v) ↔ Feas s := by
  constructor
  · rintro ⟨x, hx⟩
    obtain ⟨t, ht⟩ := (step_pos hv hs hb (stepL_is v hs) x).1 hx
    exact ⟨_, ht⟩
  · rintro ⟨x, hx⟩
    refine ⟨x, (step_pos hv hs hb (stepL_is v hs) x).2 ⟨x v, ?_⟩⟩
    have : upd x v (x v) = x := by funext i; unfold upd; split <;> simp_all
    rw [this]; exact hx
theorem bad_feas {k : Nat} {s : List (List Raw)} {v : Nat} (hv : v < 8) (hs : SysF k s) (hb : Bad s v) : ¬ Feas s := fun ⟨x, hx⟩ => bad_pos hv hs hb x hx
end Go.Pl

namespace Go.Pl
open Go.AM

def GoodS (s : List (List Raw)) : Prop := ∃ k, 1 ≤ k ∧ SysF k s ∧ Sz k s
theorem GoodS.step {s : List (List Raw)} {v : Nat} (hv : v < 8) (h : GoodS s) : GoodS (stepL s v) := by
  obtain ⟨k, hk, hs, hz⟩ := h
  cases ho : occ s v with
  | false =>
    rw [step_same hs ho (stepL_is v hs)]
    exact ⟨k, hk, hs, hz⟩
  | true => exact ⟨8 * k + 8, by omega, step_ok hk hs (stepL_is v hs), (step_sz hv hs hz ho (stepL_is v hs)).1⟩
theorem GoodS.len9 {s : List (List Raw)} (h : GoodS s) : ∀ l ∈ s, l.length = 9 := by
  obtain ⟨k, hk, hs, hz⟩ := h
  exact fun l hl => (hs.ok l hl).len
theorem GoodS.lim {s : List (List Raw)} (h : GoodS s) : ∀ l ∈ s, LOk 1000 l := by
  obtain ⟨k, hk, hs, hz⟩ := h
  exact hz.lim hs
theorem GoodS.len {s : List (List Raw)} (h : GoodS s) : s.length ≤ 12 := by
  obtain ⟨k, hk, hs, hz⟩ := h
  exact hz.len hs
theorem GoodS.nc {s : List (List Raw)} (h : GoodS s) : ∀ l ∈ s, ¬ IsConst l := by
  obtain ⟨k, hk, hs, hz⟩ := h
  exact hs.nc
theorem GoodS.feas {s : List (List Raw)} {v : Nat} (hv : v < 8) (h : GoodS s) (hb : badB s v = false) : feasB (stepL s v) = feasB s := by
  have h9 := h.len9
  obtain ⟨k, hk, hs, hz⟩ := h
  have := step_feas hv hs (fun hb2 => by rw [(badB_iff h9).2 hb2] at hb; cases hb)
  cases h1 : feasB s with
  | true => exact feasB_iff.2 (this.2 (feasB_iff.1 h1))
  | false => exact feasB_false.2 (fun h2 => feasB_false.1 h1 (this.1 h2))
theorem GoodS.bad {s : List (List Raw)} {v : Nat} (hv : v < 8) (h : GoodS s) (hb : badB s v = true) : feasB s = false := by
  have h9 := h.len9
  obtain ⟨k, hk, hs, hz⟩ := h
  exact feasB_false.2 (bad_feas hv hs ((badB_iff h9).1 hb))
theorem feasB_nil : feasB [] = true := feasB_iff.2 feas_nil
def elimL (v : Nat) : Nat → Nat → List (List Raw) → List (List Raw)
  | 0, _, s => s
  | n + 1, i, s => elimL v n (i + 1) (if i = v then s else stepL s i)
def maxL : Rat → List Rat → Rat
  | m, [] => m
  | m, q :: l => maxL (if 0 < sgq (q - m) then q else m) l
def minL : Rat → List Rat → Rat
  | m, [] => m
  | m, q :: l => minL (if sgq (q - m) < 0 then q else m) l
theorem maxL_mem : ∀ (l : List Rat) (m : Rat), maxL m l ∈ m :: l
  | [], m => by simp [maxL]
  | q :: l, m => by
    have := maxL_mem l (if 0 < sgq (q - m) then q else m)
    unfold maxL
    rcases List.mem_cons.1 this with h | h
    · rw [h]; split <;> simp
    · simp [h]
theorem maxL_ge : ∀ (l : List Rat) (m : Rat), ∀ q ∈ m :: l, q ≤ maxL m l
  | [], m, q, h => by simp at h; subst h; simp [maxL]
  | p :: l, m, q, h => by
    have ih := maxL_ge l (if 0 < sgq (p - m) then p else m)
    unfold maxL
    have h0 := ih _ (List.mem_cons_self ..)
    have h2 : p ≤ (if 0 < sgq (p - m) then p else m) ∧ m ≤ (if 0 < sgq (p - m) then p else m) := by
      split
      · rename_i h3
        rw [sgq_pos_iff] at h3
        constructor <;> grind
      · rename_i h3
        rw [sgq_pos_iff] at h3
        constructor <;> grind
    rcases List.mem_cons.1 h with h1 | h1
    · subst h1; exact Rat.le_trans h2.2 h0
    · rcases List.mem_cons.1 h1 with h4 | h4
      · subst h4; exact Rat.le_trans h2.1 h0
      · exact ih q (List.mem_cons_of_mem _ h4)
theorem minL_mem : ∀ (l : List Rat) (m : Rat), minL m l ∈ m :: l
  | [], m => by simp [minL]
  | q :: l, m => by
    have := minL_mem l (if sgq (q - m) < 0 then q else m)
    unfold minL
    rcases List.mem_cons.1 this with h | h
    · rw [h]; split <;> simp
    · simp [h]
theorem minL_le : ∀ (l : List Rat) (m : Rat), ∀ q ∈ m :: l, minL m l ≤ q
  | [], m, q, h => by simp at h; subst h; simp [minL]
  | p :: l, m, q, h => by
    have ih := minL_le l (if sgq (p - m) < 0 then p else m)
    unfold minL
    have h0 := ih _ (List.mem_cons_self ..)
    have h2 : (if sgq (p - m) < 0 then p else m) ≤ p ∧ (if sgq (p - m) < 0 then p else m) ≤ m := by
      split
      · rename_i h3
        rw [sgq_neg_iff] at h3
        constructor <;> grind
      · rename_i h3
        rw [sgq_neg_iff] at h3
        constructor <;> grind
    rcases List.mem_cons.1 h with h1 | h1
    · subst h1; exact Rat.le_trans h0 h2.2
    · rcases List.mem_cons.1 h1 with h4 | h4
      · subst h4; exact Rat.le_trans h0 h2.1
      · exact ih q (List.mem_cons_of_mem _ h4)
def lowQ (s : List (List Raw)) (v : Nat) : List Rat := (lowL s v).map (fun b => co b 8)
def highQ (s : List (List Raw)) (v : Nat) : List Rat := (highL s v).map (fun b => co b 8)
def ends (s : List (List Raw)) (v : Nat) : Option (Rat × Rat) := match lowQ s v, highQ s v with
  | a :: l, b :: h => some (maxL a l, minL b h)
  | _, _ => none
noncomputable def bndP (cs : List (List Raw)) (v : Nat) : Option (Rat × Rat) := if innerB cs then ends (elimL v 8 0 (sysL cs [])) v else none
theorem elimL_good {v : Nat} : ∀ (n i : Nat) {s : List (List Raw)}, i + n ≤ 8 → GoodS s → GoodS (elimL v n i s)
  | 0, _, _, _, h => h
  | n + 1, i, s, hi, h => by
    unfold elimL
    refine elimL_good n (i + 1) (by omega) ?_
    split
    · exact h
    · exact h.step (by omega)
structure CsOk (cs : List (List Raw)) : Prop where
  ok : ∀ l ∈ cs, LOk 10000 l
  len : cs.length ≤ 100
  nc : (ncs cs).length ≤ 12
  good : GoodS (sysL cs [])
  nok : ∀ l ∈ cs, ¬ IsConst l → LOk 1000 l
theorem CsOk.len9 {cs : List (List Raw)} (h : CsOk cs) : ∀ l ∈ cs, l.length = 9 := fun l hl => (h.ok l hl).len
end Go.Pl

namespace Go.Pl
open Go.AM

theorem upd_self (x : Nat → Rat) (v : Nat) : upd x v (x v) = x := by funext i; unfold upd; split <;> simp_all
theorem upd_at (x : Nat → Rat) (v : Nat) (t : Rat) : upd x v t v = t := by simp [upd]
theorem upd_ne {x : Nat → Rat} {v w : Nat} {t : Rat} (h : w ≠ v) : upd x v t w = x w := by simp [upd, h]
theorem upd_upd (x : Nat → Rat) (v : Nat) (t u : Rat) : upd (upd x v t) v u = upd x v u := by funext i; unfold upd; split <;> simp_all
theorem GoodS.pos {s : List (List Raw)} {v : Nat} (hv : v < 8) (h : GoodS s) (hb : badB s v = false) (x : Nat → Rat) : Pos (stepL s v) x ↔ ∃ t, Pos s (upd x v t) := by
  have h9 := h.len9
  obtain ⟨k, hk, hs, hz⟩ := h
  exact step_pos hv hs (fun hb2 => by rw [(badB_iff h9).2 hb2] at hb; cases hb) (stepL_is v hs) x
theorem GoodS.not_bad {s : List (List Raw)} {v : Nat} (hv : v < 8) (h : GoodS s) (hf : feasB s = true) : badB s v = false := by
  cases hb : badB s v with
  | false => rfl
  | true => rw [h.bad hv hb] at hf; cases hf
theorem elim_pos {v : Nat} : ∀ (n i : Nat) {s : List (List Raw)}, i + n ≤ 8 → GoodS s → feasB s = true → ∀ x, Pos (elimL v n i s) x ↔ ∃ y, (∀ w, (w < i ∨ i + n ≤ w ∨ w = v) → y w = x w) ∧ Pos s y
  | 0, i, s, _, _, _, x => by
    constructor
    · intro h; exact ⟨x, fun _ _ => rfl, h⟩
    · rintro ⟨y, hy, h⟩
      have : y = x := funext (fun w => hy w (by omega))
      rw [← this]; exact h
  | n + 1, i, s, hi, hg, hf, x => by
    unfold elimL
    by_cases hiv : i = v
    · rw [if_pos hiv, elim_pos n (i + 1) (by omega) hg hf x]
      constructor
      · rintro ⟨y, hy, h⟩
        exact ⟨y, fun w hw => hy w (by omega), h⟩
      · rintro ⟨y, hy, h⟩
        exact ⟨y, fun w hw => hy w (by omega), h⟩
    · rw [if_neg hiv]
      have hb := hg.not_bad (v := i) (by omega) hf
      rw [elim_pos n (i + 1) (by omega) (hg.step (by omega)) (by rw [hg.feas (by omega) hb]; exact hf) x]
      constructor
      · rintro ⟨y, hy, h⟩
        obtain ⟨t, ht⟩ := (hg.pos (by omega) hb y).1 h
        refine ⟨upd y i t, fun w hw => ?_, ht⟩
        rw [upd_ne (by omega)]
        exact hy w (by omega)
      · rintro ⟨y, hy, h⟩
        refine ⟨upd y i (x i), fun w hw => ?_, (hg.pos (by omega) hb _).2 ⟨y i, ?_⟩⟩
        · by_cases hwi : w = i
          · rw [hwi, upd_at]
          · rw [upd_ne hwi]; exact hy w (by omega)
        · rw [upd_upd, upd_self]; exact h
theorem occ_step {s : List (List Raw)} {v w : Nat} (hg : GoodS s) (hv : v < 8) (hw : w < 8) (h : occ (stepL s v) w = true) : w ≠ v ∧ occ s w = true := by
  have h9 := hg.len9
  obtain ⟨k, hk, hs, hz⟩ := hg
  have h2 := (sys_occ (out_len h9) (stepL_is v hs) hw).1 h
  refine ⟨fun he => ?_, out_occ hw h9 h2⟩
  subst he
  rw [occ_out hw hs] at h2; cases h2
theorem elim_occ {v : Nat} : ∀ (n i : Nat) {s : List (List Raw)}, i + n ≤ 8 → GoodS s → (∀ w, w < i → w ≠ v → occ s w = false) → ∀ w, w < i + n → w ≠ v → occ (elimL v n i s) w = false
  | 0, i, s, _, _, h, w, hw, hne => h w (by omega) hne
  | n + 1, i, s, hi, hg, h, w, hw, hne => by
    unfold elimL
    by_cases hiv : i = v
    · rw [if_pos hiv]
      exact elim_occ n (i + 1) (by omega) hg (fun u hu hne2 => h u (by omega) hne2) w (by omega) hne
    · rw [if_neg hiv]
      refine elim_occ n (i + 1) (by omega) (hg.step (by omega)) (fun u hu hne2 => ?_) w (by omega) hne
      cases ho : occ (stepL s i) u with
      | false => rfl
      | true =>
        obtain ⟨h1, h2⟩ := occ_step hg (by omega) (by omega) ho
        rw [h u (by omega) hne2] at h2; cases h2
theorem one_pos {s : List (List Raw)} {v : Nat} (hv : v < 8) (hg : GoodS s) (h : ∀ w, w < 8 → w ≠ v → occ s w = false) (x : Nat → Rat) :
    Pos s x ↔ (∀ q ∈ lowQ s v, q < x v) ∧ (∀ q ∈ highQ s v, x v < q) := by
  have key : ∀ l ∈ s, co l v ≠ 0 ∧ lval (solR v l) x = co (solR v l) 8 := by
    intro l hl
    have h9 := hg.len9 l hl
    have hz : ∀ w, w < 8 → w ≠ v → co l w = 0 := fun w hw hne => occ_false (h w hw hne) l hl
    have h0 : co l v ≠ 0 := by
      obtain ⟨u, hu, h1⟩ := not_const (hg.nc l hl)
      by_cases huv : u = v
      · rw [← huv]; exact h1
      · exact absurd (hz u hu huv) h1
    refine ⟨h0, lval_const (fun w hw => ?_)⟩
    rw [(solR_bound h9 h0).2 w (by omega)]
    by_cases hwv : v = w
    · rw [if_pos hwv]
    · rw [if_neg hwv, hz w hw (fun e => hwv e.symm)]; simp [Rat.zero_mul]
  unfold lowQ highQ
  constructor
  · intro hp
    constructor
    · intro q hq
      obtain ⟨b, hb, rfl⟩ := List.mem_map.1 hq
      obtain ⟨l, hl, h1, rfl⟩ := mem_low.1 hb
      have := (bound_pos (solR_bound (hg.len9 l hl) (key l hl).1) hv h1).1 (hp l hl)
      rwa [(key l hl).2] at this
    · intro q hq
      obtain ⟨b, hb, rfl⟩ := List.mem_map.1 hq
      obtain ⟨l, hl, h1, rfl⟩ := mem_high.1 hb
      have := (bound_neg (solR_bound (hg.len9 l hl) (key l hl).1) hv h1).1 (hp l hl)
      rwa [(key l hl).2] at this
  · rintro ⟨h1, h2⟩ l hl
    obtain ⟨h0, h3⟩ := key l hl
    by_cases hp : 0 < co l v
    · rw [bound_pos (solR_bound (hg.len9 l hl) h0) hv hp, h3]
      exact h1 _ (List.mem_map.2 ⟨_, mem_low.2 ⟨l, hl, hp, rfl⟩, rfl⟩)
    · have hn : co l v < 0 := by grind
      rw [bound_neg (solR_bound (hg.len9 l hl) h0) hv hn, h3]
      exact h2 _ (List.mem_map.2 ⟨_, mem_high.2 ⟨l, hl, hn, rfl⟩, rfl⟩)
def Val (cs : List (List Raw)) (v : Nat) (t : Rat) : Prop := ∃ x, In cs x ∧ x v = t
theorem val_iff {cs : List (List Raw)} {v : Nat} (hv : v < 8) (h : CsOk cs) (hi : innerB cs = true) (t : Rat) :
    Val cs v t ↔ (∀ q ∈ lowQ (elimL v 8 0 (sysL cs [])) v, q < t) ∧ (∀ q ∈ highQ (elimL v 8 0 (sysL cs [])) v, t < q) := by
  have h9 := h.len9
  have hg := h.good
  have hi2 := hi
  unfold innerB at hi2
  rw [Bool.and_eq_true, Bool.not_eq_true'] at hi2
  have hge := elimL_good (v := v) 8 0 (by omega) hg
  have hocc := elim_occ (v := v) 8 0 (by omega) hg (fun w hw => by omega)
  have hnv : ¬ Viol cs := fun hv2 => by have := (violB_iff h9).2 hv2; rw [this] at hi2; cases hi2.1
  have hin := fun y => sys_in h9 (sysL_is h9) hnv y
  have h1 := one_pos hv hge (fun w hw hne => hocc w (by omega) hne) (fun _ => t)
  rw [← h1, elim_pos 8 0 (by omega) hg hi2.2]
  unfold Val
  constructor
  · rintro ⟨x, hx, rfl⟩
    refine ⟨fun w => if w < 8 then x w else x v, fun w hw => ?_, ?_⟩
    · rcases hw with hw | hw | hw
      · omega
      · dsimp only; rw [if_neg (by omega)]
      · subst hw; dsimp only; rw [if_pos hv]
    · have h2 := (hin x).1 hx
      intro l hl
      have h3 := h2 l hl
      have e : lval l (fun w => if w < 8 then x w else x v) = lval l x := by
        unfold lval
        have : ∀ k, k ≤ 8 → lv l (fun w => if w < 8 then x w else x v) k = lv l x k := by
          intro k
          induction k with
          | zero => intro _; rfl
          | succ k ih =>
            intro hk
            unfold lv
            rw [ih (by omega), if_pos (by omega)]
        exact this 8 (by omega)
      rw [e]; exact h3
  · rintro ⟨y, hy, hp⟩
    exact ⟨y, (hin y).2 hp, hy v (.inr (.inr rfl))⟩
theorem bndP_some {cs : List (List Raw)} {v : Nat} (hv : v < 8) (h : CsOk cs) {a b : Rat} (hb : bndP cs v = some (a, b)) : innerB cs = true ∧ ∀ t, Val cs v t ↔ a < t ∧ t < b := by
  unfold bndP at hb
  split at hb
  rotate_left
  · cases hb
  rename_i hi
  refine ⟨hi, fun t => ?_⟩
  rw [val_iff hv h hi t]
  unfold ends at hb
  split at hb
  · rename_i a0 l b0 g hlo hhi
    cases hb
    rw [hlo, hhi]
    constructor
    · rintro ⟨h1, h2⟩
      exact ⟨h1 _ (maxL_mem l a0), h2 _ (minL_mem g b0)⟩
    · rintro ⟨h1, h2⟩
      exact ⟨fun q hq => by have := maxL_ge l a0 q hq; grind, fun q hq => by have := minL_le g b0 q hq; grind⟩
  · cases hb
theorem interval_eq {a b c d : Rat} (h : ∀ t, (a < t ∧ t < b) ↔ (c < t ∧ t < d)) (hab : a < b) : a = c ∧ b = d := by
  have mid : ∀ p q : Rat, p < q → p < (p + q) / 2 ∧ (p + q) / 2 < q := by
    intro p q hpq
    constructor <;> grind
  have hm := (h _).1 (mid a b hab)
  have hcd : c < d := by have := hm.1; have := hm.2; grind
  have key : ∀ {a b c d : Rat}, (∀ t, (a < t ∧ t < b) ↔ (c < t ∧ t < d)) → a < b → c < d → ¬ a < c := by
    intro a b c d h hab hcd hac
    by_cases hcb : c < b
    · have h1 := mid a c hac
      have := (h ((a + c) / 2)).1 ⟨h1.1, by have := h1.2; grind⟩
      grind
    · have h1 := mid a b hab
      have := (h ((a + b) / 2)).1 h1
      grind
  have key2 : ∀ {a b c d : Rat}, (∀ t, (a < t ∧ t < b) ↔ (c < t ∧ t < d)) → a < b → c < d → ¬ d < b := by
    intro a b c d h hab hcd hdb
    by_cases had : a < d
    · have h1 := mid d b hdb
      have := (h ((d + b) / 2)).1 ⟨by have := h1.1; grind, h1.2⟩
      grind
    · have h1 := mid a b hab
      have := (h ((a + b) / 2)).1 h1
      grind
  have h' := fun t => (h t).symm
  have k1 := key h hab hcd
  have k2 := key h' hcd hab
  have k3 := key2 h hab hcd
  have k4 := key2 h' hcd hab
  constructor <;> grind
theorem bndP_of {cs : List (List Raw)} {v : Nat} (hv : v < 8) (h : CsOk cs) {a b : Rat} (hab : a < b) (hval : ∀ t, Val cs v t ↔ a < t ∧ t < b) : bndP cs v = some (a, b) := by
  have h9 := h.len9
  have mid : a < (a + b) / 2 ∧ (a + b) / 2 < b := by constructor <;> grind
  have hi : innerB cs = true := by
    obtain ⟨x, hx, _⟩ := (hval _).2 mid
    exact (innerB_iff h9).2 ⟨x, hx⟩
  cases hb : bndP cs v with
  | some p =>
    obtain ⟨c, d⟩ := p
    have h2 := (bndP_some hv h hb).2
    obtain ⟨e1, e2⟩ := interval_eq (fun t => (hval t).symm.trans (h2 t)) hab
    rw [e1, e2]
  | none =>
    exfalso
    unfold bndP at hb
    rw [if_pos hi] at hb
    have hv2 := fun t => (hval t).symm.trans (val_iff hv h hi t)
    have hm := (hv2 _).1 mid
    unfold ends at hb
    split at hb
    · cases hb
    · rename_i hne
      cases hlo : lowQ (elimL v 8 0 (sysL cs [])) v with
      | nil =>
        have := (hv2 (a - 1)).2 ⟨by rw [hlo]; simp, fun q hq => by have := hm.2 q hq; grind⟩
        grind
      | cons p l =>
        cases hhi : highQ (elimL v 8 0 (sysL cs [])) v with
        | nil =>
          have := (hv2 (b + 1)).2 ⟨fun q hq => by have := hm.1 q hq; grind, by rw [hhi]; simp⟩
          grind
        | cons q g => exact hne _ _ _ _ hlo hhi
end Go.Pl

namespace Go.Pl
open Go.AM

theorem sysL_snoc {l : List Raw} : ∀ (cs s : List (List Raw)), sysL (cs ++ [l]) s = if constB l then sysL cs s else ins (nrmR l) (sysL cs s)
  | [], s => by simp [sysL]
  | k :: cs, s => by
    simp only [List.cons_append, sysL]
    split
    · exact sysL_snoc cs s
    · exact sysL_snoc cs _
theorem ins_at {f : List Raw} : ∀ (i : Nat) (out : List (List Raw)), i ≤ out.length → (∀ j, j < i → cmpR (out.getD j []) f < 0) → ins f out = out.take i ++ ins f (out.drop i)
  | 0, out, _, _ => by simp
  | i + 1, [], h, _ => by simp at h
  | i + 1, a :: out, h, hj => by
    have h0 : cmpR a f < 0 := hj 0 (by omega)
    have ih := ins_at i out (by simp at h; omega) (fun j hji => hj (j + 1) (by omega))
    simp only [List.take_succ_cons, List.drop_succ_cons, List.cons_append]
    conv => lhs; unfold ins
    rw [if_pos h0, ih]
theorem ins_end {f : List Raw} {out : List (List Raw)} (hj : ∀ j, j < out.length → cmpR (out.getD j []) f < 0) : ins f out = out ++ [f] := by
  rw [ins_at out.length out (Nat.le_refl _) hj]
  simp [ins]
theorem ins_there {f : List Raw} {out : List (List Raw)} {i : Nat} (hi : i < out.length) (hj : ∀ j, j < i → cmpR (out.getD j []) f < 0) (h : cmpR (out.getD i []) f = 0) : ins f out = out := by
  rw [ins_at i out (by omega) hj, List.drop_eq_getElem_cons hi]
  have e : out[i] = out.getD i [] := by rw [List.getD_eq_getElem?_getD, List.getElem?_eq_getElem hi]; rfl
  rw [e]
  unfold ins
  rw [if_neg (by omega), if_pos h, ← e, ← List.drop_eq_getElem_cons hi, List.take_append_drop]
theorem ins_new {f : List Raw} {out : List (List Raw)} {i : Nat} (hi : i < out.length) (hj : ∀ j, j < i → cmpR (out.getD j []) f < 0) (h : 0 < cmpR (out.getD i []) f) : ins f out = out.take i ++ [f] ++ out.drop i := by
  rw [ins_at i out (by omega) hj, List.drop_eq_getElem_cons hi]
  have e : out[i] = out.getD i [] := by rw [List.getD_eq_getElem?_getD, List.getElem?_eq_getElem hi]; rfl
  rw [e]
  unfold ins
  rw [if_neg (by omega), if_neg (by omega)]
  simp
theorem absq_pos3 {c : Rat} (h : c ≠ 0) : 0 < absq c := absq_pos2 h
theorem nrmR_pos' {l : List Raw} (hl : l.length = 9) : ∃ r : Rat, 0 < r ∧ ∀ i, i < 9 → co (nrmR l) i = r * co l i := by
  by_cases h : (leadL l).q = 0
  · refine ⟨1, by decide, fun i hi => ?_⟩
    have hz : co l i = 0 := leadL_zero h _ (co_mem (by omega))
    rw [hz, Rat.mul_zero]
    unfold nrmR co
    rw [nrm_zero h, zeros_map, List.getD_eq_getElem?_getD, List.getElem?_replicate, if_pos hi]
    exact cn_q 0
  · refine ⟨1 / absq (leadL l).q, ?_, fun i hi => ?_⟩
    · have := absq_pos3 h
      have h2 : (1 : Rat) / absq (leadL l).q * absq (leadL l).q = 1 := by grind
      by_cases h3 : 0 < 1 / absq (leadL l).q
      · exact h3
      · exfalso
        have h4 := Rat.mul_nonneg (show 0 ≤ -(1 / absq (leadL l).q) by grind) (show 0 ≤ absq (leadL l).q by grind)
        grind
    · rw [nrmR_at hl h hi]; grind
where
  zeros_map : (List.replicate 9 (0 : Rat)).map cn = List.replicate 9 (cn 0) := by simp
theorem nrmR_constB {l : List Raw} (hl : l.length = 9) : constB (nrmR l) = constB l := by
  obtain ⟨r, hr, h⟩ := nrmR_pos' hl
  have h2 : constB (nrmR l) = true ↔ constB l = true := by
    rw [constB_iff (nrmR_len hl), constB_iff hl]
    constructor
    · intro hc i hi
      have := hc i hi
      rw [h i (by omega)] at this
      rcases Rat.mul_eq_zero.1 this with h3 | h3
      · grind
      · exact h3
    · intro hc i hi
      rw [h i (by omega), hc i hi, Rat.mul_zero]
  cases h3 : constB l <;> cases h4 : constB (nrmR l) <;> simp_all
theorem nrmR_sign {l : List Raw} (hl : l.length = 9) : (co (nrmR l) 8 < 0 ↔ co l 8 < 0) ∧ (co (nrmR l) 8 ≤ 0 ↔ co l 8 ≤ 0) := by
  obtain ⟨r, hr, h⟩ := nrmR_pos' hl
  rw [h 8 (by omega)]
  have hp : 0 < co l 8 → 0 < r * co l 8 := fun h0 => Rat.mul_pos hr h0
  have hn : co l 8 < 0 → r * co l 8 < 0 := fun h0 => by
    have := Rat.mul_pos hr (show 0 < -(co l 8) by grind)
    grind
  have hz : co l 8 = 0 → r * co l 8 = 0 := fun h0 => by rw [h0, Rat.mul_zero]
  constructor <;> constructor <;> intro h1 <;> grind
theorem solR_scale {l m : List Raw} {v : Nat} {r : Rat} (hl : l.length = 9) (hm : m.length = 9) (hv : v < 8) (hr : 0 < r) (h : ∀ i, i < 9 → co m i = r * co l i) (h0 : co l v ≠ 0) : solR v m = solR v l := by
  unfold solR
  congr 1
  apply List.ext_getElem
  · simp [hl, hm]
  · intro i h1 h2
    simp only [List.length_map, List.length_set] at h1 h2
    simp only [List.getElem_map, List.getElem_set]
    have e1 : (m.getD v rz).q = r * (l.getD v rz).q := h v (by omega)
    have e2 : ∀ (k : List Raw) (hk : i < k.length), k[i].q = co k i := fun k hk => by unfold co; rw [List.getD_eq_getElem?_getD, List.getElem?_eq_getElem hk]; rfl
    have h0' : (l.getD v rz).q ≠ 0 := h0
    split
    · have : rz.q = 0 := rz_q
      rw [this, Rat.zero_mul, Rat.zero_mul]
    · rw [e2 m (by omega), e2 l (by omega), h i (by omega), e1]
      grind
where
  rz_q : rz.q = 0 := by
    have := cn_q 0
    unfold Raw.q rz mkq
    simp [val]
def outR (s : List (List Raw)) (v : Nat) : List (List Raw) := restL s v ++ (lowL s v).flatMap fun l => (highL s v).map fun u => comb u l
theorem mem_outR {s : List (List Raw)} {v : Nat} {o : List Raw} : o ∈ outR s v ↔ o ∈ outL s v := by
  unfold outR outL
  rw [List.mem_append, List.mem_append, List.mem_flatMap, List.mem_flatMap]
  constructor
  · rintro (h | ⟨l, hl, h⟩)
    · exact .inl h
    · obtain ⟨u, hu, rfl⟩ := List.mem_map.1 h
      exact .inr ⟨u, hu, List.mem_map.2 ⟨l, hl, rfl⟩⟩
  · rintro (h | ⟨u, hu, h⟩)
    · exact .inl h
    · obtain ⟨l, hl, rfl⟩ := List.mem_map.1 h
      exact .inr ⟨l, hl, List.mem_map.2 ⟨u, hu, rfl⟩⟩
theorem low_sys {cs s : List (List Raw)} {v : Nat} (hv : v < 8) (h9 : ∀ l ∈ cs, l.length = 9) (hnc : ∀ l ∈ cs, ¬ IsConst l) (h : IsSys cs s) (b : List Raw) : (b ∈ lowL s v ↔ b ∈ lowL cs v) ∧ (b ∈ highL s v ↔ b ∈ highL cs v) := by
  have key : ∀ l ∈ cs, (0 < co (nrmR l) v ↔ 0 < co l v) ∧ (co (nrmR l) v < 0 ↔ co l v < 0) ∧ (co l v ≠ 0 → solR v (nrmR l) = solR v l) := by
    intro l hl
    obtain ⟨r, hr, hc⟩ := nrmR_pos' (h9 l hl)
    have e := hc v (by omega)
    have hp : 0 < co l v → 0 < r * co l v := fun h0 => Rat.mul_pos hr h0
    have hn : co l v < 0 → r * co l v < 0 := fun h0 => by
      have := Rat.mul_pos hr (show 0 < -(co l v) by grind)
      grind
    have hz : co l v = 0 → r * co l v = 0 := fun h0 => by rw [h0, Rat.mul_zero]
    refine ⟨by rw [e]; constructor <;> intro h1 <;> grind, by rw [e]; constructor <;> intro h1 <;> grind, fun h0 => solR_scale (h9 l hl) (nrmR_len (h9 l hl)) hv hr hc h0⟩
  constructor
  · rw [mem_low, mem_low]
    constructor
    · rintro ⟨f, hf, h1, rfl⟩
      obtain ⟨l, hl, hc, rfl⟩ := (h.mem f).1 hf
      have hp := (key l hl).1.1 h1
      exact ⟨l, hl, hp, (key l hl).2.2 (by grind)⟩
    · rintro ⟨l, hl, h1, rfl⟩
      exact ⟨nrmR l, (h.mem _).2 ⟨l, hl, hnc l hl, rfl⟩, (key l hl).1.2 h1, ((key l hl).2.2 (by grind)).symm⟩
  · rw [mem_high, mem_high]
    constructor
    · rintro ⟨f, hf, h1, rfl⟩
      obtain ⟨l, hl, hc, rfl⟩ := (h.mem f).1 hf
      have hp := (key l hl).2.1.1 h1
      exact ⟨l, hl, hp, (key l hl).2.2 (by grind)⟩
    · rintro ⟨l, hl, h1, rfl⟩
      exact ⟨nrmR l, (h.mem _).2 ⟨l, hl, hnc l hl, rfl⟩, (key l hl).2.1.2 h1, ((key l hl).2.2 (by grind)).symm⟩
theorem bad_sys {cs s : List (List Raw)} {v : Nat} (hv : v < 8) (h9 : ∀ l ∈ cs, l.length = 9) (hnc : ∀ l ∈ cs, ¬ IsConst l) (h : IsSys cs s) : Bad s v ↔ Bad cs v := by
  unfold Bad
  constructor
  · rintro ⟨u, hu, l, hl, h2⟩
    exact ⟨u, (low_sys hv h9 hnc h u).2.1 hu, l, (low_sys hv h9 hnc h l).1.1 hl, h2⟩
  · rintro ⟨u, hu, l, hl, h2⟩
    exact ⟨u, (low_sys hv h9 hnc h u).2.2 hu, l, (low_sys hv h9 hnc h l).1.2 hl, h2⟩
theorem out_sys {cs s : List (List Raw)} {v : Nat} (hv : v < 8) (h9 : ∀ l ∈ cs, l.length = 9) (hnc : ∀ l ∈ cs, ¬ IsConst l) (h : IsSys cs s) : IsSys (outR cs v) (stepL s v) := by
  have h9s : ∀ l ∈ s, l.length = 9 := fun f hf => by
    obtain ⟨l, hl, _, rfl⟩ := (h.mem f).1 hf
    exact nrmR_len (h9 l hl)
  have hs := sysL_is (out_len (v := v) h9s)
  refine ⟨hs.sorted, fun f => ?_⟩
  change f ∈ sysL (outL s v) [] ↔ _
  rw [hs.mem]
  have hco : ∀ l ∈ cs, (co (nrmR l) v = 0 ↔ co l v = 0) := fun l hl => nrmR_co (h9 l hl) (hnc l hl) (by omega)
  constructor
  · rintro ⟨o, ho, hc, rfl⟩
    rcases mem_out.1 ho with ⟨h1, h2⟩ | ⟨l, hl, u, hu, h1, h2, rfl⟩
    · obtain ⟨l, hl, hlc, rfl⟩ := (h.mem o).1 h1
      refine ⟨l, mem_outR.2 (mem_out.2 (.inl ⟨hl, (hco l hl).1 h2⟩)), hlc, ?_⟩
      rw [nrmR_idem (h9 l hl)]
    · have hL := (low_sys hv h9 hnc h _).1.1 (mem_low.2 ⟨l, hl, h1, rfl⟩)
      have hU := (low_sys hv h9 hnc h _).2.1 (mem_high.2 ⟨u, hu, h2, rfl⟩)
      refine ⟨comb (solR v u) (solR v l), mem_outR.2 ?_, hc, rfl⟩
      unfold outL
      rw [List.mem_append, List.mem_flatMap]
      exact .inr ⟨_, hU, List.mem_map.2 ⟨_, hL, rfl⟩⟩
  · rintro ⟨o, ho, hc, rfl⟩
    rcases mem_out.1 (mem_outR.1 ho) with ⟨h1, h2⟩ | ⟨l, hl, u, hu, h1, h2, rfl⟩
    · refine ⟨nrmR o, mem_out.2 (.inl ⟨(h.mem _).2 ⟨o, h1, hc, rfl⟩, (hco o h1).2 h2⟩), nrmR_const (h9 o h1) hc, ?_⟩
      rw [nrmR_idem (h9 o h1)]
    · have hL := (low_sys hv h9 hnc h _).1.2 (mem_low.2 ⟨l, hl, h1, rfl⟩)
      have hU := (low_sys hv h9 hnc h _).2.2 (mem_high.2 ⟨u, hu, h2, rfl⟩)
      refine ⟨comb (solR v u) (solR v l), ?_, hc, rfl⟩
      unfold outL
      rw [List.mem_append, List.mem_flatMap]
      exact .inr ⟨_, hU, List.mem_map.2 ⟨_, hL, rfl⟩⟩
theorem sys_nrm {cs s : List (List Raw)} (h9 : ∀ l ∈ cs, l.length = 9) : IsSys ((ncs cs).map nrmR) s ↔ IsSys cs s := by
  have key : ∀ f, (∃ l ∈ (ncs cs).map nrmR, ¬ IsConst l ∧ f = nrmR l) ↔ ∃ l ∈ cs, ¬ IsConst l ∧ f = nrmR l := by
    intro f
    constructor
    · rintro ⟨g, hg, hc, rfl⟩
      obtain ⟨l, hl, rfl⟩ := List.mem_map.1 hg
      obtain ⟨h1, h2⟩ := (mem_ncs h9).1 hl
      exact ⟨l, h1, h2, by rw [nrmR_idem (h9 l h1)]⟩
    · rintro ⟨l, hl, hc, rfl⟩
      exact ⟨nrmR l, List.mem_map.2 ⟨l, (mem_ncs h9).2 ⟨hl, hc⟩, rfl⟩, nrmR_const (h9 l hl) hc, by rw [nrmR_idem (h9 l hl)]⟩
  exact ⟨fun h => ⟨h.sorted, fun f => by rw [h.mem, key]⟩, fun h => ⟨h.sorted, fun f => by rw [h.mem, key]⟩⟩
structure Pre (cs : List (List Raw)) : Prop where
  cnf : ∀ l ∈ cs, IsCn l
  nc : ∀ l ∈ cs, ¬ IsConst l
  ok : ∀ l ∈ cs, LOk 1000 l
  len : cs.length ≤ 13
  good : GoodS (sysL cs [])
theorem GoodS.cnf {s : List (List Raw)} (h : GoodS s) : ∀ l ∈ s, IsCn l := by
  have h9 := h.len9
  obtain ⟨k, hk, hs, hz⟩ := h
  exact fun l hl => by rw [← hs.nm l hl]; exact nrmR_cn (h9 l hl)
theorem GoodS.self {s : List (List Raw)} (h : GoodS s) : sysL s [] = s := by
  have h9 := h.len9
  obtain ⟨k, hk, hs, hz⟩ := h
  exact (hs.self.eq h9).symm
theorem GoodS.pre {s : List (List Raw)} (h : GoodS s) : Pre s := ⟨h.cnf, h.nc, h.lim, by have := h.len; omega, by rw [h.self]; exact h⟩
end Go.Pl

namespace Go.Pl

def cost (s : List (List Raw)) (v : Nat) : Int := ((lowL s v).length : Int) * (highL s v).length - (lowL s v).length - (highL s v).length
structure Sw (k : Nat) (s : List (List Raw)) : Prop where
  n3 : nvars s ≤ 3
  c3 : nvars s = 3 → s.length ≤ 7 ∧ k ≤ 14
  c2 : nvars s = 2 → s.length ≤ 7 ∧ k ≤ 120
  c1 : nvars s = 1 → s.length ≤ 12 ∧ k ≤ 1000
structure Sl (k : Nat) (s : List (List Raw)) : Prop where
  n3 : nvars s ≤ 3
  c3 : nvars s = 3 → s.length ≤ 7 ∧ k ≤ 14
  c2 : nvars s = 2 → s.length ≤ 12 ∧ k ≤ 120
  c1 : nvars s = 1 → s.length ≤ 36 ∧ k ≤ 1000
theorem Sz.w {k : Nat} {s : List (List Raw)} (h : Sz k s) : Sw k s := ⟨h.n3, fun e => by have := h.c3 e; omega, h.c2, h.c1⟩
theorem Sw.l {k : Nat} {s : List (List Raw)} (h : Sw k s) : Sl k s := ⟨h.n3, h.c3, fun e => by have := h.c2 e; omega, fun e => by have := h.c1 e; omega⟩
theorem Sl.all {k : Nat} {s : List (List Raw)} (h : Sl k s) (hp : 0 < nvars s) : s.length ≤ 36 ∧ k ≤ 1000 := by
  have h1 := h.n3
  have h2 := h.c3
  have h3 := h.c2
  have h4 := h.c1
  have : nvars s = 1 ∨ nvars s = 2 ∨ nvars s = 3 := by omega
  rcases this with h5 | h5 | h5
  · exact h4 h5
  · have := h3 h5; omega
  · have := h2 h5; omega
theorem Sl.len {k : Nat} {s : List (List Raw)} (h : Sl k s) (hs : SysF k s) : s.length ≤ 36 := by
  cases s with
  | nil => exact Nat.zero_le _
  | cons l t => exact (h.all (occ_pos (List.mem_cons_self ..) (hs.nc l (by simp)))).1
theorem Sl.lim {k : Nat} {s : List (List Raw)} (h : Sl k s) (hs : SysF k s) : ∀ l ∈ s, LOk 1000 l := fun l hl => (hs.ok l hl).mono (h.all (occ_pos hl (hs.nc l hl))).2
theorem Sw.len {k : Nat} {s : List (List Raw)} (h : Sw k s) (hs : SysF k s) : s.length ≤ 12 := by
  cases s with
  | nil => exact Nat.zero_le _
  | cons l t =>
    have hp : 0 < nvars (l :: t) := occ_pos (List.mem_cons_self ..) (hs.nc l (by simp))
    have h1 := h.n3
    have h2 := h.c3
    have h3 := h.c2
    have h4 := h.c1
    have : nvars (l :: t) = 1 ∨ nvars (l :: t) = 2 ∨ nvars (l :: t) = 3 := by omega
    rcases this with h5 | h5 | h5
    · exact (h4 h5).1
    · have := h3 h5; omega
    · have := h2 h5; omega
theorem outw_short {k : Nat} {s : List (List Raw)} {v : Nat} (hs : SysF k s) (hz : Sw k s) : (outL s v).length ≤ 100 := by
  have h1 := split_length s v
  have h2 := hz.len hs
  rw [out_length]
  exact arith12 (by omega)
theorem out_none {k : Nat} {s : List (List Raw)} {v : Nat} (hv : v < 8) (hs : SysF k s) (ho : occ s v = true) (h5 : nvars s = 1) : ncs (outL s v) = [] := by
  have h9 : ∀ l ∈ s, l.length = 9 := fun l hl => (hs.ok l hl).len
  have h6 := nvars_out hv hs ho
  cases h8 : ncs (outL s v) with
  | nil => rfl
  | cons o t =>
    have h10 := (mem_ncs (out_len h9)).1 (show o ∈ ncs (outL s v) by rw [h8]; simp)
    have := occ_pos h10.1 h10.2
    omega
theorem outw_count {k : Nat} {s : List (List Raw)} {v : Nat} (hv : v < 8) (hs : SysF k s) (hz : Sw k s) : (ncs (outL s v)).length ≤ 12 := by
  have hle : (ncs (outL s v)).length ≤ (outL s v).length := List.length_filter_le _ _
  cases ho : occ s v with
  | false =>
    have h1 := hz.len hs
    rw [(out_same ho).1] at hle ⊢
    omega
  | true =>
    have h1 := split_length s v
    have h2 := out_length s v
    have h3 := nvars_pos hv ho
    have h4 := hz.n3
    have : nvars s = 1 ∨ nvars s = 2 ∨ nvars s = 3 := by omega
    rcases this with h5 | h5 | h5
    · rw [out_none hv hs ho h5]; exact Nat.zero_le _
    · have := (hz.c2 h5).1
      have := arith7 (p := (lowL s v).length) (q := (highL s v).length) (r := (restL s v).length) (by omega)
      omega
    · have := (hz.c3 h5).1
      have := arith7 (p := (lowL s v).length) (q := (highL s v).length) (r := (restL s v).length) (by omega)
      omega
theorem outl_lim {k : Nat} {s : List (List Raw)} {v : Nat} (hv : v < 8) (hk : 1 ≤ k) (hs : SysF k s) (hz : Sl k s) : ∀ o ∈ outL s v, ¬ IsConst o → LOk 1000 o := by
  intro o ho hc
  cases hoc : occ s v with
  | false =>
    rw [(out_same hoc).1] at ho
    exact hz.lim hs o ho
  | true =>
    have h6 := nvars_out hv hs hoc
    have h7 := occ_pos ho hc
    have h8 := hz.n3
    have : k ≤ 120 := by
      have : nvars s = 2 ∨ nvars s = 3 := by omega
      rcases this with h5 | h5
      · exact (hz.c2 h5).2
      · have := (hz.c3 h5).2; omega
    exact (out_ok hs.ok hk o ho).mono (by omega)
def GoodW (s : List (List Raw)) : Prop := ∃ k, 1 ≤ k ∧ SysF k s ∧ Sw k s ∧ (nvars s = 3 → s.length ≤ 5 ∨ ∃ u, u < 8 ∧ occ s u = true ∧ cost s u < 0)
theorem GoodS.w {s : List (List Raw)} (h : GoodS s) : GoodW s := by
  obtain ⟨k, hk, hs, hz⟩ := h
  exact ⟨k, hk, hs, hz.w, fun e => .inl (hz.c3 e).1⟩
theorem GoodW.len9 {s : List (List Raw)} (h : GoodW s) : ∀ l ∈ s, l.length = 9 := by
  obtain ⟨k, hk, hs, hz, _⟩ := h
  exact fun l hl => (hs.ok l hl).len
theorem GoodW.lim {s : List (List Raw)} (h : GoodW s) : ∀ l ∈ s, LOk 1000 l := by
  obtain ⟨k, hk, hs, hz, _⟩ := h
  exact hz.l.lim hs
theorem GoodW.len {s : List (List Raw)} (h : GoodW s) : s.length ≤ 12 := by
  obtain ⟨k, hk, hs, hz, _⟩ := h
  exact hz.len hs
theorem GoodW.nc {s : List (List Raw)} (h : GoodW s) : ∀ l ∈ s, ¬ IsConst l := by
  obtain ⟨k, hk, hs, hz, _⟩ := h
  exact hs.nc
theorem GoodW.feas {s : List (List Raw)} {v : Nat} (hv : v < 8) (h : GoodW s) (hb : badB s v = false) : feasB (stepL s v) = feasB s := by
  obtain ⟨k, hk, hs, hz, _⟩ := h
  rw [Bool.eq_iff_iff, feasB_iff, feasB_iff]
  exact step_feas hv hs (fun hB => by rw [(badB_iff (fun l hl => (hs.ok l hl).len)).2 hB] at hb; cases hb)
theorem GoodW.bad {s : List (List Raw)} {v : Nat} (hv : v < 8) (h : GoodW s) (hb : badB s v = true) : feasB s = false := by
  obtain ⟨k, hk, hs, hz, _⟩ := h
  exact feasB_false.2 (bad_feas hv hs ((badB_iff (fun l hl => (hs.ok l hl).len)).1 hb))
theorem GoodW.step {s : List (List Raw)} {v : Nat} (hv : v < 8) (h : GoodW s) (ho : occ s v = true) (hmin : ∀ u, u < 8 → occ s u = true → cost s v ≤ cost s u) : GoodW (stepL s v) ∧ nvars (stepL s v) < nvars s := by
  obtain ⟨k, hk, hs, hz, h7⟩ := h
  have hi := stepL_is v hs
  have h9 : ∀ l ∈ s, l.length = 9 := fun l hl => (hs.ok l hl).len
  have hn := nvars_out hv hs ho
  rw [← sys_nvars (out_len h9) hi] at hn
  have hl := sys_length (out_len h9) hi
  have hle : (ncs (outL s v)).length ≤ (outL s v).length := List.length_filter_le _ _
  have h1 := split_length s v
  have h2 := out_length s v
  have h4 := hz.n3
  have hc := outw_count hv hs hz
  refine ⟨⟨8 * k + 8, by omega, step_ok hk hs hi, ⟨by omega, fun h => by omega, fun h => ?_, fun h => ?_⟩, fun h => by omega⟩, hn⟩
  · have h5 : nvars s = 3 := by omega
    have h6 := hz.c3 h5
    refine ⟨?_, by omega⟩
    rcases h7 h5 with h8 | ⟨u, hu, hou, hcu⟩
    · have := arith5 (p := (lowL s v).length) (q := (highL s v).length) (r := (restL s v).length) (by omega)
      omega
    · have h10 := hmin u hu hou
      have e : (((highL s v).length * (lowL s v).length : Nat) : Int) = ((lowL s v).length : Int) * (highL s v).length := by rw [Int.natCast_mul, Int.mul_comm]
      unfold cost at h10 hcu
      omega
  · refine ⟨by omega, ?_⟩
    have : nvars s = 2 ∨ nvars s = 3 := by omega
    rcases this with h5 | h5
    · have := hz.c2 h5; omega
    · have := hz.c3 h5; omega
def GoodR (s : List (List Raw)) : Prop := ∃ k, 1 ≤ k ∧ SysF k s ∧ Sl k s
theorem GoodW.r {s : List (List Raw)} (h : GoodW s) : GoodR s := by
  obtain ⟨k, hk, hs, hz, _⟩ := h
  exact ⟨k, hk, hs, hz.l⟩
theorem GoodR.len9 {s : List (List Raw)} (h : GoodR s) : ∀ l ∈ s, l.length = 9 := by
  obtain ⟨k, hk, hs, hz⟩ := h
  exact fun l hl => (hs.ok l hl).len
theorem GoodR.lim {s : List (List Raw)} (h : GoodR s) : ∀ l ∈ s, LOk 1000 l := by
  obtain ⟨k, hk, hs, hz⟩ := h
  exact hz.lim hs
theorem GoodR.len {s : List (List Raw)} (h : GoodR s) : s.length ≤ 36 := by
  obtain ⟨k, hk, hs, hz⟩ := h
  exact hz.len hs
theorem GoodR.nc {s : List (List Raw)} (h : GoodR s) : ∀ l ∈ s, ¬ IsConst l := by
  obtain ⟨k, hk, hs, hz⟩ := h
  exact hs.nc
theorem GoodR.feas {s : List (List Raw)} {v : Nat} (hv : v < 8) (h : GoodR s) (hb : badB s v = false) : feasB (stepL s v) = feasB s := by
  obtain ⟨k, hk, hs, hz⟩ := h
  rw [Bool.eq_iff_iff, feasB_iff, feasB_iff]
  exact step_feas hv hs (fun hB => by rw [(badB_iff (fun l hl => (hs.ok l hl).len)).2 hB] at hb; cases hb)
theorem GoodR.bad {s : List (List Raw)} {v : Nat} (hv : v < 8) (h : GoodR s) (hb : badB s v = true) : feasB s = false := by
  obtain ⟨k, hk, hs, hz⟩ := h
  exact feasB_false.2 (bad_feas hv hs ((badB_iff (fun l hl => (hs.ok l hl).len)).1 hb))
theorem arith36 {p q r : Nat} (h : r + p + q ≤ 12) : r + q * p ≤ 36 := by
  have h2 : p = 0 ∨ p = 1 ∨ p = 2 ∨ p = 3 ∨ p = 4 ∨ p = 5 ∨ p = 6 ∨ p = 7 ∨ p = 8 ∨ p = 9 ∨ p = 10 ∨ p = 11 ∨ p = 12 := by omega
  rcases h2 with h1 | h1 | h1 | h1 | h1 | h1 | h1 | h1 | h1 | h1 | h1 | h1 | h1 <;> subst h1 <;> omega
theorem GoodR.step {s : List (List Raw)} {v : Nat} (hv : v < 8) (h : GoodR s) : GoodR (stepL s v) := by
  obtain ⟨k, hk, hs, hz⟩ := h
  have hi := stepL_is v hs
  cases ho : occ s v with
  | false =>
    rw [step_same hs ho hi]
    exact ⟨k, hk, hs, hz⟩
  | true =>
    have h9 : ∀ l ∈ s, l.length = 9 := fun l hl => (hs.ok l hl).len
    have hn := nvars_out hv hs ho
    rw [← sys_nvars (out_len h9) hi] at hn
    have hl := sys_length (out_len h9) hi
    have hle : (ncs (outL s v)).length ≤ (outL s v).length := List.length_filter_le _ _
    have h1 := split_length s v
    have h2 := out_length s v
    have h4 := hz.n3
    refine ⟨8 * k + 8, by omega, step_ok hk hs hi, ⟨by omega, fun h => by omega, fun h => ?_, fun h => ?_⟩⟩
    · have h5 : nvars s = 3 := by omega
      have h6 := hz.c3 h5
      have := arith7 (p := (lowL s v).length) (q := (highL s v).length) (r := (restL s v).length) (by omega)
      omega
    · have : nvars s = 2 ∨ nvars s = 3 := by omega
      rcases this with h5 | h5
      · have := hz.c2 h5
        have := arith36 (p := (lowL s v).length) (q := (highL s v).length) (r := (restL s v).length) (by omega)
        omega
      · have := hz.c3 h5
        have := arith7 (p := (lowL s v).length) (q := (highL s v).length) (r := (restL s v).length) (by omega)
        omega
theorem occ_stepR {s : List (List Raw)} {v w : Nat} (hg : GoodR s) (hv : v < 8) (hw : w < 8) (h : occ (stepL s v) w = true) : w ≠ v ∧ occ s w = true := by
  have h9 := hg.len9
  obtain ⟨k, hk, hs, hz⟩ := hg
  have h2 := (sys_occ (out_len h9) (stepL_is v hs) hw).1 h
  refine ⟨fun he => ?_, out_occ hw h9 h2⟩
  subst he
  rw [occ_out hw hs] at h2; cases h2
theorem GoodR.cnf {s : List (List Raw)} (h : GoodR s) : ∀ l ∈ s, IsCn l := by
  have h9 := h.len9
  obtain ⟨k, hk, hs, hz⟩ := h
  exact fun l hl => by rw [← hs.nm l hl]; exact nrmR_cn (h9 l hl)
theorem GoodR.self {s : List (List Raw)} (h : GoodR s) : sysL s [] = s := by
  have h9 := h.len9
  obtain ⟨k, hk, hs, hz⟩ := h
  exact (hs.self.eq h9).symm
structure PreR (cs : List (List Raw)) : Prop where
  cnf : ∀ l ∈ cs, IsCn l
  nc : ∀ l ∈ cs, ¬ IsConst l
  ok : ∀ l ∈ cs, LOk 1000 l
  len : cs.length ≤ 37
  good : GoodR (sysL cs [])
theorem GoodR.pre {s : List (List Raw)} (h : GoodR s) : PreR s := ⟨h.cnf, h.nc, h.lim, by have := h.len; omega, by rw [h.self]; exact h⟩
theorem Pre.r {cs : List (List Raw)} (h : Pre cs) : PreR cs := ⟨h.cnf, h.nc, h.ok, by have := h.len; omega, h.good.w.r⟩
structure CsW (cs : List (List Raw)) : Prop where
  ok : ∀ l ∈ cs, LOk 10000 l
  len : cs.length ≤ 100
  nc : (ncs cs).length ≤ 12
  good : GoodW (sysL cs [])
  nok : ∀ l ∈ cs, ¬ IsConst l → LOk 1000 l
theorem CsOk.w {cs : List (List Raw)} (h : CsOk cs) : CsW cs := ⟨h.ok, h.len, h.nc, h.good.w, h.nok⟩
theorem CsW.len9 {cs : List (List Raw)} (h : CsW cs) : ∀ l ∈ cs, l.length = 9 := fun l hl => (h.ok l hl).len
end Go.Pl

namespace Go.Proofs.YtddnnhlcpffbdaaGreat
open Go.AM Go.Pl
set_option maxRecDepth 100000
set_option maxHeartbeats 2000000

theorem map_set_q (rs : List Raw) (v : Nat) : (rs.set v (cn 0)).map Raw.q = (rs.set v rz).map Raw.q := by
  rw [List.map_set, List.map_set, cn_q, rz_q]

theorem den73 (rs : List Raw) (v : Nat) (hrs : LOk 2000000000 rs) (hv : v < 8) : Den Tryz.prog 68 [] [RL rs, .int .i64 v] [] (FL ((rs.set v rz).map Raw.q)) := by
  have hlen := hrs.len
  have hfl := flat_length rs
  have hfl27 : (flat rs).length = 27 := by omega
  have h24 := den24 0 (by decide)
  rw [show ((0 : Int) : Rat) = 0 from rfl, FR_eq, N_val, N_val] at h24
  have hset := flat_set (rs := rs) (i := v) (by omega) (decide ((0 : Rat).num < 0)) (limbs (0 : Rat).num.natAbs) (limbs (0 : Rat).den)
  have hcn : (⟨decide ((0 : Rat).num < 0), limbs (0 : Rat).num.natAbs, limbs (0 : Rat).den⟩ : Raw) = cn 0 := rfl
  rw [hcn] at hset
  have hok : LOk 2000000000 (rs.set v (cn 0)) := ⟨by simp [hlen], fun r hr => by
    rcases List.mem_or_eq_of_mem_set hr with h1 | h1
    · exact hrs.ok r h1
    · rw [h1]; exact Raw.Ok.mono (cn_ok (Bd.zero (k := 1) (by decide))) (by decide)⟩
  have h71 := den71 (rs.set v (cn 0)) hok
  rw [map_set_q] at h71
  obtain ⟨ys, hy⟩ : ∃ t, rs.set v (cn 0) = t := ⟨_, rfl⟩
  rw [hy] at hset h71 hok
  have hyl := hok.len
  have hyf : (flat ys).length = 27 := by rw [flat_length]; omega
  unfold FL RL at h71 ⊢
  obtain ⟨zs, hz⟩ : ∃ t, ((rs.set v rz).map Raw.q).map cn = t := ⟨_, rfl⟩
  have hzl : zs.length = 9 := by rw [← hz]; simp [hlen]
  have h27 : (flat zs).length = 27 := by rw [flat_length]; omega
  rw [hz] at h71 ⊢
  refine den_of tabOk mixed Tryz.func68 (cd := _) rfl (by decide) rfl (n := 9) rfl rfl (m := 0) rfl ?_
  simp (dsimp := false) (disch := omega) only [List.replicate, rules, tys, Nat.reduceLT]
  repeat refine And.intro (by omega) ?_
  refine GoCall.pure h24 rfl ?_
  simp (dsimp := false) (disch := omega) only [List.append_nil, hset, flat_take27 hyl, hyf, rules, tys, eq_self, ↓reduceIte, Nat.reduceAdd, Nat.reduceLT, Nat.reduceLeDiff]
  repeat refine And.intro (by omega) ?_
  refine GoCall.pure h71 (by simp [fzAs, fzA, flat_fz, flatF_fv]) ?_
  simp (dsimp := false) (disch := omega) only [flat_ids, flat_reloc, List.append_nil, h27, Ap_end_ret, rules, tys, eq_self, Nat.reduceAdd, Nat.reduceLT, Nat.reduceLeDiff]
  repeat refine And.intro (by omega) ?_
  exact RetOK.form rfl rfl hzl

theorem den48n (rs : List Raw) (v : Nat) (hrs : LOk 1000 rs) (hv : v < 8) (h0 : (rs.getD v rz).q = 0) : Den Tryz.prog 53 [] [RL rs, .int .i64 v] [] (.tup [FL (rs.map Raw.q), .int .i64 0]) := by
  have hlen := hrs.len
  have hfl := flat_length rs
  have hat := flat_at (rs := rs) (i := v) (by omega)
  have h26 := den26 (rs.getD v rz) ((hrs.at v).mono (by decide))
  rw [sgq_eq_zero.2 h0] at h26
  obtain ⟨r, hr⟩ : ∃ r, rs.getD v rz = r := ⟨_, rfl⟩
  rw [hr] at hat h26
  unfold Raw.v at h26
  have h71 := den71 rs (hrs.mono (by decide))
  unfold FL RL at h71 ⊢
  obtain ⟨zs, hz⟩ : ∃ zs, (rs.map Raw.q).map cn = zs := ⟨_, rfl⟩
  have hzl : zs.length = 9 := by rw [← hz]; simp [hlen]
  have h27 : (flat zs).length = 27 := by rw [flat_length]; omega
  rw [hz] at h71 ⊢
  have e00 : ((0 : Int) == 0) = true := rfl
  refine den_of tabOk mixed Tryz.func53 (cd := _) rfl (by decide) rfl (n := 30) rfl rfl (m := 0) rfl ?_
  simp (dsimp := false) (disch := omega) only [List.append_nil, List.replicate, hat, rules, tys, eq_self, ↓reduceIte, Nat.reduceAdd, Nat.reduceLT, Nat.reduceLeDiff]
  repeat refine And.intro (by omega) ?_
  refine GoCall.pure h26 rfl ?_
  simp (dsimp := false) (disch := omega) only [List.append_nil, e00, flat_take27 hlen, rules, tys, eq_self, ↓reduceIte, Nat.reduceAdd]
  repeat refine And.intro (by omega) ?_
  refine GoCall.pure h71 (by simp [fzAs, fzA, flat_fz, flatF_fv]) ?_
  simp (dsimp := false) (disch := omega) only [flat_ids, flat_reloc, List.append_nil, h27, Ap_end_ret, rules, tys, eq_self, Nat.reduceAdd, Nat.reduceLT, Nat.reduceLeDiff]
  repeat refine And.intro (by omega) ?_
  exact RetOK.form2 rfl rfl hzl rfl

theorem den48 (rs : List Raw) (v : Nat) (hrs : LOk 1000 rs) (hv : v < 8) (h0 : (rs.getD v rz).q ≠ 0) :
    Den Tryz.prog 53 [] [RL rs, .int .i64 v] [] (.tup [FL ((rs.set v rz).map (fun r => r.q * (-1 / (rs.getD v rz).q))), .int .i64 (sgq (rs.getD v rz).q)]) := by
  have hlen := hrs.len
  have hfl := flat_length rs
  have hok := hrs.at v
  have hat := flat_at (rs := rs) (i := v) (by omega)
  have h26 := den26 (rs.getD v rz) (hok.mono (by decide))
  have h73 := den73 rs v (hrs.mono (by decide)) hv
  have hsok := set_ok hrs v
  have hq2 : ∀ r ∈ rs.set v rz, Bd 1000 r.q := fun r hr => (hsok.ok r hr).bd (by decide)
  obtain ⟨r, hr⟩ : ∃ r, rs.getD v rz = r := ⟨_, rfl⟩
  rw [hr] at hat h26 hok h0
  rw [hr]
  have hb1 : Bd 1 (((-1 : Int)) : Rat) := ⟨by decide, by decide⟩
  have h24 := den24 (-1) (by decide)
  have h45 := den45 (cn ((-1 : Int) : Rat)) r (Raw.Ok.mono (cn_ok hb1) (by decide)) (hok.mono (by decide)) h0
  rw [cn_q] at h45
  change Den Tryz.prog 101 [] [FR ((-1 : Int) : Rat), r.v] [] _ at h45
  have hbd := hb1.div (hok.bd (by decide)) h0 (by decide)
  have h46 := den46 (((rs.set v rz).map Raw.q).map cn) (cn (((-1 : Int) : Rat) / r.q)) (LOk.map hsok.len (fun x hx => (hq2 x hx).mono (by decide))) (Raw.Ok.mono (cn_ok hbd) (by decide))
  rw [cn_q] at h46
  have hmm : (((rs.set v rz).map Raw.q).map cn).map (fun x => x.q * (((-1 : Int) : Rat) / r.q)) = (rs.set v rz).map (fun x => x.q * (-1 / r.q)) := by
    rw [List.map_map, List.map_map]
    apply List.map_congr_left
    intro x _
    simp only [Function.comp, cn_q]
    rfl
  rw [hmm] at h46
  change Den Tryz.prog 41 [] [FL ((rs.set v rz).map Raw.q), FR (((-1 : Int) : Rat) / r.q)] [] _ at h46
  have e1 : ((-1 : Int) : Rat) = -1 := rfl
  rw [e1] at h46 h45 h24
  obtain ⟨zs, hz⟩ : ∃ zs, ((rs.set v rz).map (fun x => x.q * (-1 / r.q))).map cn = zs := ⟨_, rfl⟩
  have hzl : zs.length = 9 := by rw [← hz]; simp [hlen]
  have h27 : (flat zs).length = 27 := by rw [flat_length]; omega
  unfold FL RL at h46 h73 ⊢
  rw [hz] at h46 ⊢
  obtain ⟨ys, hy⟩ : ∃ t, ((rs.set v rz).map Raw.q).map cn = t := ⟨_, rfl⟩
  rw [hy] at h46 h73
  rw [FR_eq] at h24 h46
  rw [FR_eq, FR_eq] at h45
  unfold Raw.v at h26 h45
  have hs0 : (sgq r.q == 0) = false := by rw [beq_eq_false_iff_ne]; exact fun h => h0 (sgq_eq_zero.1 h)
  refine den_of tabOk mixed Tryz.func53 (cd := _) rfl (by decide) rfl (n := 30) rfl rfl (m := 0) rfl ?_
  simp (dsimp := false) (disch := omega) only [List.append_nil, List.replicate, hat, rules, tys, eq_self, ↓reduceIte, Nat.reduceAdd, Nat.reduceLT, Nat.reduceLeDiff]
  repeat refine And.intro (by omega) ?_
  refine GoCall.pure h26 rfl ?_
  simp (dsimp := false) (disch := omega) only [List.append_nil, hs0, rules, tys, eq_self, ↓reduceIte, Nat.reduceAdd]
  refine Draw.intro (by kernel_rfl) ?_
  simp (dsimp := false) (disch := omega) only [rules]
  refine GoCall.pure h24 rfl ?_
  simp (dsimp := false) (disch := omega) only [List.append_nil, rules, tys, eq_self, ↓reduceIte, Nat.reduceAdd, Nat.reduceLeDiff]
  refine GoCall.pure h45 rfl ?_
  simp (dsimp := false) (disch := omega) only [List.append_nil, rules, tys, eq_self, Nat.reduceAdd, Nat.reduceLT, Nat.reduceLeDiff]
  refine Draw.intro (by kernel_rfl) ?_
  simp (dsimp := false) (disch := omega) only [flat_take27 hlen, rules, tys, eq_self, ↓reduceIte]
  repeat refine And.intro (by omega) ?_
  refine GoCall.pure h73 (by simp [fzAs, fzA, flat_fz, flatF_fv, fz1, fz0]) ?_
  simp (dsimp := false) (disch := omega) only [flat_ids, flat_reloc, List.append_nil, rules, tys, eq_self, ↓reduceIte, Nat.reduceAdd, Nat.reduceLeDiff]
  refine GoCall.pure h46 (by simp [fzAs, fzA, flat_fz, flatF_fv, fzs, fz0]) ?_
  simp (dsimp := false) (disch := omega) only [flat_ids, flat_reloc, List.append_nil, h27, Ap_end_ret, rules, tys, eq_self, Nat.reduceAdd, Nat.reduceLT, Nat.reduceLeDiff]
  repeat refine And.intro (by omega) ?_
  exact RetOK.form2 rfl rfl hzl rfl

end Go.Proofs.YtddnnhlcpffbdaaGreat

namespace Go.Proofs.YtddnnhlcpffbdaaGreat
open Go.AM Go.Pl
set_option maxRecDepth 100000
set_option maxHeartbeats 2000000

theorem den21 (a b : List Raw) (ha : LOk 1000000000 a) (hb : LOk 1000000000 b) : Den Tryz.prog 91 [] [RL a, RL b] [] (FL (addL a b)) := by
  have la := ha.len
  have lb := hb.len
  have fa := flat_length a
  have fb := flat_length b
  unfold FL RL
  obtain ⟨T, hT⟩ : ∃ T, (addL a b).map cn = T := ⟨_, rfl⟩
  have lT : T.length = 9 := by rw [← hT, List.length_map]; exact addL_length la lb
  have hTg : ∀ i, i < 9 → T.getD i rz = cn ((a.getD i rz).q + (b.getD i rz).q) := fun i hi => by rw [← hT]; exact addL_getD (by omega) (by omega)
  obtain ⟨Z, hZ⟩ : ∃ Z, List.replicate 9 rz = Z := ⟨_, rfl⟩
  have lZ : Z.length = 9 := by rw [← hZ]; rfl
  rw [hT]
  refine den_of tabOk mixed Tryz.func91 (cd := _) rfl (by decide) rfl (n := 30) rfl rfl (m := 0) rfl ?_
  simp (dsimp := false) (disch := omega) only [List.replicate, rules, tys, Nat.reduceAdd, Nat.reduceLT]
  repeat refine And.intro (by omega) ?_
  refine WA.loop (α := Nat) (fun i => ⟨[.any, .any, .ptr 0 0 0, .ptr 1 0 0, .ptr 2 0 0, .ptr 2 0 0, .any, .any, .int .i64 i] ++ List.replicate 23 .any, [.box true (flat a), .box true (flat b), .box true (flat (tgt T i Z))]⟩)
    (fun i => 8 - i) (fun i => i ≤ 8) 0 ?_ ?_ ?_
  · refine Weak.keep [0, 1, 2] (by simp) rfl ?_ ?_
    · simp [leVs, leV, le1]
    · rw [tgt_zero, ← hZ]
      simp [leH, leO, le1s, le1, le_flat, List.replicate, flat, rz, u32s]
  · exact Nat.zero_le _
  · rintro i hi
    have hol := tgt_length (T := T) (rest := Z) i (by omega)
    have hof := flat_length (tgt T i Z)
    have hat1 := flat_at (rs := a) (i := i) (by omega)
    have hat2 := flat_at (rs := b) (i := i) (by omega)
    have hst := tgt_set (T := T) (rest := Z) (i := i) (by omega) (by omega)
    rw [hTg i (by omega)] at hst
    have hden := den51 (a.getD i rz) (b.getD i rz) (ha.at i) (hb.at i)
    obtain ⟨r, hr⟩ : ∃ r, a.getD i rz = r := ⟨_, rfl⟩
    obtain ⟨s, hs⟩ : ∃ r, b.getD i rz = r := ⟨_, rfl⟩
    rw [hr] at hat1 hst hden
    rw [hs] at hat2 hst hden
    have hset := flat_set (rs := tgt T i Z) (i := i) (by omega) (decide ((r.q + s.q).num < 0)) (limbs (r.q + s.q).num.natAbs) (limbs (r.q + s.q).den)
    have hcn : (⟨decide ((r.q + s.q).num < 0), limbs (r.q + s.q).num.natAbs, limbs (r.q + s.q).den⟩ : Raw) = cn (r.q + s.q) := rfl
    rw [hcn, hst] at hset
    rw [FR_eq, N_val, N_val] at hden
    unfold Raw.v at hden
    simp (dsimp := false) (disch := omega) only [List.replicate, rules, tys, eq_self, ↓reduceIte]
    refine Br.dec ?_ ?_
    · intro h1 h2
      simp (dsimp := false) (disch := omega) only [h2, rules]
      refine Draw.intro (by kernel_rfl) ?_
      simp (dsimp := false) (disch := omega) only [hat1, hat2, rules, tys, eq_self, ↓reduceIte, Nat.reduceLT]
      repeat refine And.intro (by omega) ?_
      refine GoCall.pure hden rfl ?_
      simp (dsimp := false) (disch := omega) only [List.append_nil, hset, wrap64, rules, tys, eq_self, ↓reduceIte, Nat.reduceAdd, Nat.reduceLT]
      repeat refine And.intro (by omega) ?_
      refine Ap_loop (i + 1) (by omega) ?_ (by omega)
      refine Weak.keep [0, 1, 2] (by simp) rfl ?_ ?_
      · simp [leVs, leV, le1]
      · simp [leH, leO, le_flat]
    · intro h1 h2
      have hi8 : i = 8 := by omega
      subst hi8
      rw [tgt_all (n := 8 + 1) lT lZ] at hset
      simp only [Nat.reduceMul, Nat.reduceAdd] at hat1 hat2 hset
      have h27 : (flat T).length = 27 := by rw [flat_length]; omega
      have hd27 : List.drop 27 (flat T) = [] := List.drop_of_length_le (by omega)
      simp (dsimp := false) (disch := omega) only [h2, hat1, hat2, rules, tys, eq_self, ↓reduceIte, Nat.reduceAdd, Nat.reduceBEq]
      repeat refine And.intro (by omega) ?_
      refine GoCall.pure hden rfl ?_
      simp (dsimp := false) (disch := omega) only [List.append_nil, hset, h27, flat_take27 lT, hd27, Ap_end_ret, rules, tys, eq_self, ↓reduceIte, Nat.reduceAdd, Nat.reduceLT, Nat.reduceLeDiff]
      repeat refine And.intro (by omega) ?_
      exact RetOK.form rfl rfl lT

theorem den74 (a b : List Raw) (ha : LOk 1000000000 a) (hb : LOk 1000000000 b) : Den Tryz.prog 56 [] [RL a, RL b] [] (FL (addL a b)) := by
  have la := ha.len
  have lb := hb.len
  have fa := flat_length a
  have fb := flat_length b
  have h24 := den24 0 (by decide)
  rw [show ((0 : Int) : Rat) = 0 from rfl, FR_eq, N_val, N_val] at h24
  unfold FL RL
  obtain ⟨T, hT⟩ : ∃ T, (addL a b).map cn = T := ⟨_, rfl⟩
  have lT : T.length = 9 := by rw [← hT, List.length_map]; exact addL_length la lb
  have hTg : ∀ i, i < 9 → T.getD i rz = cn ((a.getD i rz).q + (b.getD i rz).q) := fun i hi => by rw [← hT]; exact addL_getD (by omega) (by omega)
  rw [hT]
  refine den_of tabOk mixed Tryz.func56 (cd := _) rfl (by decide) rfl (n := 43) rfl rfl (m := 0) rfl ?_
  simp (dsimp := false) (disch := omega) only [List.replicate, rules, tys, Nat.reduceAdd, Nat.reduceLT]
  repeat refine And.intro (by omega) ?_
  refine WA.loop (α := Nat) (fun i => ⟨[.any, .any, .ptr 0 0 0, .ptr 1 0 0, .ptr 2 0 0, .int .i64 i] ++ List.replicate 39 .any, [.box true (flat (tgt T i a)), .box true (flat b), .box true (zcells 9)]⟩)
    (fun i => 8 - i) (fun i => i ≤ 8) 0 ?_ ?_ ?_
  · refine Weak.keep [0, 1, 2] (by simp) rfl ?_ ?_
    · simp [leVs, leV, le1]
    · rw [tgt_zero]
      simp [leH, leO, le1s, le1, le_flat, zcells]
  · exact Nat.zero_le _
  · rintro i hi
    have hol := tgt_length (T := T) (rest := a) i (by omega)
    have hof := flat_length (tgt T i a)
    have hat1 := flat_at (rs := tgt T i a) (i := i) (by omega)
    rw [tgt_getD (by omega) (by omega) (Nat.le_refl _)] at hat1
    have hat2 := flat_at (rs := b) (i := i) (by omega)
    have hst := tgt_set (T := T) (rest := a) (i := i) (by omega) (by omega)
    rw [hTg i (by omega)] at hst
    have hden := den31 (a.getD i rz) (b.getD i rz) (ha.at i) (hb.at i)
    obtain ⟨r, hr⟩ : ∃ r, a.getD i rz = r := ⟨_, rfl⟩
    obtain ⟨s, hs⟩ : ∃ r, b.getD i rz = r := ⟨_, rfl⟩
    rw [hr] at hat1 hst hden
    rw [hs] at hat2 hst hden
    have h70a := den70 r
    have h70b := den70 s
    have hset := flat_set (rs := tgt T i a) (i := i) (by omega) (decide ((r.q + s.q).num < 0)) (limbs (r.q + s.q).num.natAbs) (limbs (r.q + s.q).den)
    have hcn : (⟨decide ((r.q + s.q).num < 0), limbs (r.q + s.q).num.natAbs, limbs (r.q + s.q).den⟩ : Raw) = cn (r.q + s.q) := rfl
    rw [hcn, hst] at hset
    rw [FR_eq, N_val, N_val] at hden
    unfold Raw.v at hden h70a h70b
    simp (dsimp := false) (disch := omega) only [List.replicate, rules, tys, eq_self, ↓reduceIte]
    refine Br.dec ?_ ?_
    · intro h1 h2
      simp (dsimp := false) (disch := omega) only [h2, hat1, rules, tys, eq_self, ↓reduceIte, Nat.reduceLT]
      repeat refine And.intro (by omega) ?_
      refine GoCall.pure h70a rfl ?_
      simp (dsimp := false) (disch := omega) only [List.append_nil, rules, Nat.reduceAdd]
      by_cases h3 : (r.num.length : Int) = 0
      · have hb3 : ((r.num.length : Int) == 0) = true := by rw [beq_iff_eq]; exact h3
        simp (dsimp := false) (disch := omega) only [hb3, hat2, rules, tys, eq_self, ↓reduceIte, Nat.reduceLT]
        repeat refine And.intro (by omega) ?_
        refine GoCall.pure h70b rfl ?_
        by_cases h4 : (s.num.length : Int) = 0
        · have hb4 : ((s.num.length : Int) == 0) = true := by rw [beq_iff_eq]; exact h4
          have hsum : r.q + s.q = 0 := by rw [none_q h3, none_q h4, Rat.add_zero]
          rw [hsum] at hset
          simp (dsimp := false) (disch := omega) only [List.append_nil, hb4, rules, eq_self, ↓reduceIte, Nat.reduceAdd]
          refine GoCall.pure h24 rfl ?_
          simp (dsimp := false) (disch := omega) only [List.append_nil, hset, wrap64, rules, tys, eq_self, ↓reduceIte, Nat.reduceAdd, Nat.reduceLT]
          repeat refine And.intro (by omega) ?_
          refine Ap_loop (i + 1) (by omega) ?_ (by omega)
          refine Weak.keep [0, 1, 2] (by simp) rfl ?_ ?_
          · simp [leVs, leV, le1]
          · simp [leH, leO, le1s, le1, le_flat, zcells]
        · have hb4 : ((s.num.length : Int) == 0) = false := by rw [beq_eq_false_iff_ne]; exact h4
          simp (dsimp := false) (disch := omega) only [List.append_nil, hb4, rules, eq_self, ↓reduceIte, Nat.reduceAdd]
          refine Draw.intro (by kernel_rfl) ?_
          simp (dsimp := false) (disch := omega) only [hat1, hat2, rules, tys, eq_self, ↓reduceIte, Nat.reduceLT]
          repeat refine And.intro (by omega) ?_
          refine GoCall.pure hden rfl ?_
          simp (dsimp := false) (disch := omega) only [List.append_nil, hset, wrap64, rules, tys, eq_self, ↓reduceIte, Nat.reduceAdd, Nat.reduceLT]
          repeat refine And.intro (by omega) ?_
          refine Ap_loop (i + 1) (by omega) ?_ (by omega)
          refine Weak.keep [0, 1, 2] (by simp) rfl ?_ ?_
          · simp [leVs, leV, le1]
          · simp [leH, leO, le1s, le1, le_flat, zcells]
      · have hb3 : ((r.num.length : Int) == 0) = false := by rw [beq_eq_false_iff_ne]; exact h3
        simp (dsimp := false) (disch := omega) only [hb3, rules, ↓reduceIte]
        refine Draw.intro (by kernel_rfl) ?_
        simp (dsimp := false) (disch := omega) only [hat1, hat2, rules, tys, eq_self, ↓reduceIte, Nat.reduceLT]
        repeat refine And.intro (by omega) ?_
        refine GoCall.pure hden rfl ?_
        simp (dsimp := false) (disch := omega) only [List.append_nil, hset, wrap64, rules, tys, eq_self, ↓reduceIte, Nat.reduceAdd, Nat.reduceLT]
        repeat refine And.intro (by omega) ?_
        refine Ap_loop (i + 1) (by omega) ?_ (by omega)
        refine Weak.keep [0, 1, 2] (by simp) rfl ?_ ?_
        · simp [leVs, leV, le1]
        · simp [leH, leO, le1s, le1, le_flat, zcells]
    · intro h1 h2
      have hi8 : i = 8 := by omega
      subst hi8
      rw [tgt_all (n := 8 + 1) lT la] at hset
      simp only [Nat.reduceMul, Nat.reduceAdd] at hat1 hat2 hset
      have h27 : (flat T).length = 27 := by rw [flat_length]; omega
      simp (dsimp := false) (disch := omega) only [h2, hat1, hat2, rules, tys, eq_self, ↓reduceIte, Nat.reduceAdd, Nat.reduceBEq]
      repeat refine And.intro (by omega) ?_
      refine GoCall.pure hden rfl ?_
      simp (dsimp := false) (disch := omega) only [zcells_drop, zcells_length, List.append_nil, hset, h27, flat_take27 lT, Ap_end_ret, rules, tys, eq_self, ↓reduceIte, Nat.reduceAdd, Nat.reduceLT, Nat.reduceLeDiff]
      repeat refine And.intro (by omega) ?_
      exact RetOK.form rfl rfl lT

end Go.Proofs.YtddnnhlcpffbdaaGreat

namespace Go.Proofs.YtddnnhlcpffbdaaGreat
open Go.AM Go.Pl
set_option maxRecDepth 100000
set_option maxHeartbeats 2000000

theorem den22 (a b : List Raw) (ha : LOk 1000000000 a) (hb : LOk 1000000000 b) : Den Tryz.prog 87 [] [RL a, RL b] [] (.int .i64 (cmpR a b)) := by
  have la := ha.len
  have lb := hb.len
  have fa := flat_length a
  have fb := flat_length b
  unfold RL
  refine den_of tabOk mixed Tryz.func87 (cd := _) rfl (by decide) rfl (n := 26) rfl rfl (m := 0) rfl ?_
  simp (dsimp := false) (disch := omega) only [List.replicate, rules, tys, Nat.reduceLT]
  repeat refine And.intro (by omega) ?_
  refine WA.loop (α := Nat) (fun i => ⟨[.any, .any, .ptr 0 0 0, .ptr 1 0 0, .any, .any, .any, .int .i64 i] ++ List.replicate 20 .any, [.box true (flat a), .box true (flat b)]⟩)
    (fun i => 8 - i) (fun i => i ≤ 8 ∧ cmpR (a.drop i) (b.drop i) = cmpR a b) 0 ?_ ?_ ?_
  · refine Weak.keep [0, 1] (by simp) rfl ?_ ?_
    · simp [leVs, leV, le1]
    · simp [leH, leO, le_flat]
  · exact ⟨Nat.zero_le _, rfl⟩
  · rintro i ⟨hi, hinv⟩
    have hat1 := flat_at (rs := a) (i := i) (by omega)
    have hat2 := flat_at (rs := b) (i := i) (by omega)
    have hden := den52 (a.getD i rz) (b.getD i rz) (ha.at i) (hb.at i)
    have hcd := cmpR_drop (a := a) (b := b) (i := i) (by omega) (by omega)
    have hcl : i = 8 → cmpR (a.drop i) (b.drop i) = sgq ((a.getD i rz).q - (b.getD i rz).q) := fun h => cmpR_last (by omega) (by omega)
    obtain ⟨r, hr⟩ : ∃ r, a.getD i rz = r := ⟨_, rfl⟩
    obtain ⟨s, hs⟩ : ∃ r, b.getD i rz = r := ⟨_, rfl⟩
    rw [hr] at hat1 hden hcd hcl
    rw [hs] at hat2 hden hcd hcl
    obtain ⟨z, hz⟩ : ∃ z, sgq (r.q - s.q) = z := ⟨_, rfl⟩
    rw [hz] at hden hcd hcl
    unfold Raw.v at hden
    simp (dsimp := false) (disch := omega) only [List.replicate, rules, tys, eq_self, ↓reduceIte]
    refine Br.dec ?_ ?_
    · intro h1 h2
      simp (dsimp := false) (disch := omega) only [h2, rules]
      refine Draw.intro (by kernel_rfl) ?_
      simp (dsimp := false) (disch := omega) only [hat1, hat2, rules, tys, eq_self, ↓reduceIte, Nat.reduceLT]
      repeat refine And.intro (by omega) ?_
      refine GoCall.pure hden rfl ?_
      simp (dsimp := false) (disch := omega) only [List.append_nil, rules, tys, eq_self, ↓reduceIte, Nat.reduceAdd]
      refine Br.bneInt ?_ ?_
      · intro h3 h4
        rw [if_neg h3] at hcd
        rw [← hinv, hcd]
        simp (dsimp := false) (disch := omega) only [h4, Ap_end_ret, rules]
        refine RetOK.pure rfl ⟨trivial, trivial⟩ rfl
      · intro h3 h4
        rw [if_pos h3] at hcd
        simp (dsimp := false) (disch := omega) only [h4, wrap64, rules, tys, eq_self, ↓reduceIte]
        refine Ap_loop (i + 1) (by omega) ?_ ⟨by omega, by rw [← hcd, hinv]⟩
        refine Weak.keep [0, 1] (by simp) rfl ?_ ?_
        · simp [leVs, leV, le1]
        · simp [leH, leO, le_flat]
    · intro h1 h2
      have hi8 : i = 8 := by omega
      have hfin := hcl hi8
      subst hi8
      simp only [Nat.reduceMul] at hat1 hat2
      rw [← hinv, hfin]
      simp (dsimp := false) (disch := omega) only [h2, hat1, hat2, rules, tys, eq_self, ↓reduceIte, Nat.reduceAdd, Nat.reduceBEq]
      repeat refine And.intro (by omega) ?_
      refine GoCall.pure hden rfl ?_
      simp (dsimp := false) (disch := omega) only [List.append_nil, Ap_end_ret, rules, Nat.reduceAdd]
      refine RetOK.pure rfl ⟨trivial, trivial⟩ rfl

theorem constB_false {a : List Raw} {i : Nat} (ha : a.length = 9) (hi : i < 8) (h : (a.getD i rz).q ≠ 0) : constB a = false := by
  unfold constB
  rw [List.all_eq_false]
  refine ⟨a.getD i rz, ?_, fun h2 => h (of_decide_eq_true h2)⟩
  rw [List.getD_eq_getElem?_getD, List.getElem?_eq_getElem (by omega)]
  exact List.mem_take_iff_getElem.2 ⟨i, by omega, rfl⟩
theorem constB_true {a : List Raw} (h : ∀ i, i < 8 → (a.getD i rz).q = 0) : constB a = true := by
  unfold constB
  rw [List.all_eq_true]
  intro r hr
  obtain ⟨i, hi, rfl⟩ := List.mem_take_iff_getElem.1 hr
  have := h i (by omega)
  rw [List.getD_eq_getElem?_getD, List.getElem?_eq_getElem (by omega)] at this
  exact decide_eq_true this

theorem den25 (a : List Raw) (ha : LOk 1000000000 a) : Den Tryz.prog 74 [] [RL a] [] (.bool (constB a)) := by
  have la := ha.len
  have fa := flat_length a
  have htk : List.take 24 (flat a) = flat (a.take 8) := flat_take 8 a
  have f8 : (flat (a.take 8)).length = 24 := by rw [flat_length, List.length_take]; omega
  unfold RL
  refine den_of tabOk mixed Tryz.func74 (cd := _) rfl (by decide) rfl (n := 13) rfl rfl (m := 0) rfl ?_
  simp (dsimp := false) (disch := omega) only [List.replicate, htk, rules, tys, eq_self, ↓reduceIte, Nat.reduceLT]
  repeat refine And.intro (by omega) ?_
  refine WA.loop (α := Nat) (fun i => ⟨[.any, .ptr 0 0 0, .any, .any, .any, .any, .agg (flat (a.take 8)), .int .i64 i] ++ List.replicate 6 .any, [.box true (flat a)]⟩)
    (fun i => 8 - i) (fun i => i ≤ 8 ∧ ∀ j, j < i → (a.getD j rz).q = 0) 0 ?_ ?_ ?_
  · refine Weak.keep [0] (by simp) rfl ?_ ?_
    · simp [leVs, leV, le1, le_flat]
    · simp [leH, leO, le_flat]
  · exact ⟨Nat.zero_le _, fun j h => by omega⟩
  · rintro i ⟨hi, hinv⟩
    simp (dsimp := false) (disch := omega) only [List.replicate, rules, tys, eq_self, ↓reduceIte]
    refine Br.dec ?_ ?_
    · intro h1 h2
      have hat := flat_at (rs := a.take 8) (i := i) (by rw [List.length_take]; omega)
      have hgd : (a.take 8).getD i rz = a.getD i rz := by
        simp only [List.getD_eq_getElem?_getD, List.getElem?_take]
        rw [if_pos (by omega)]
      rw [hgd] at hat
      have hden := den36 (a.getD i rz) ((ha.at i).mono (by decide))
      obtain ⟨r, hr⟩ : ∃ r, a.getD i rz = r := ⟨_, rfl⟩
      rw [hr] at hat hden
      unfold Raw.v at hden
      simp (dsimp := false) (disch := omega) only [List.append_nil, h2, hat, rules, tys, eq_self, ↓reduceIte, Nat.reduceAdd, Nat.reduceLT, Nat.reduceLeDiff]
      repeat refine And.intro (by omega) ?_
      refine GoCall.pure hden rfl ?_
      simp (dsimp := false) (disch := omega) only [List.append_nil, rules, tys, eq_self, ↓reduceIte, Nat.reduceAdd]
      refine Br.bneInt ?_ ?_
      · intro h3 h4
        rw [constB_false (i := i) la (by omega) (by rw [hr]; exact fun h => h3 (sgq_eq_zero.2 h))]
        simp (dsimp := false) (disch := omega) only [h4, Ap_end_ret, rules]
        refine RetOK.pure rfl ⟨trivial, trivial⟩ rfl
      · intro h3 h4
        simp (dsimp := false) (disch := omega) only [h4, wrap64, rules, tys, eq_self, ↓reduceIte]
        refine Ap_loop (i + 1) (by omega) ?_ ⟨by omega, fun j hj => ?_⟩
        · refine Weak.keep [0] (by simp) rfl ?_ ?_
          · simp [leVs, leV, le1, le_flat]
          · simp [leH, leO, le_flat]
        · by_cases hji : j = i
          · rw [hji, hr]; exact sgq_eq_zero.1 h3
          · exact hinv j (by omega)
    · intro h1 h2
      rw [constB_true (fun j hj => hinv j (by omega))]
      simp (dsimp := false) (disch := omega) only [h2, Ap_end_ret, rules, Nat.reduceBEq]
      refine RetOK.pure rfl ⟨trivial, trivial⟩ rfl

end Go.Proofs.YtddnnhlcpffbdaaGreat

namespace Go.Proofs.YtddnnhlcpffbdaaGreat
open Go.AM Go.Pl
set_option maxRecDepth 100000
set_option maxHeartbeats 2000000

end Go.Proofs.YtddnnhlcpffbdaaGreat

namespace Go.Proofs.YtddnnhlcpffbdaaGreat
open Go.AM Go.Pl
set_option maxRecDepth 100000
set_option maxHeartbeats 4000000

def rats (ps : List Rat) : List (List FV) := ps.map (fun q => (cn q).f)
theorem rats_length (ps : List Rat) : (rats ps).length = ps.length := by simp [rats]
theorem rats_getD {ps : List Rat} {i : Nat} (h : i < ps.length) : (rats ps).getD i [] = [FV.lit (Value.bool (cn (ps.getD i 0)).neg), FV.sl (u32s (cn (ps.getD i 0)).num), FV.sl (u32s (cn (ps.getD i 0)).den)] := by
  simp [rats, List.getD_eq_getElem?_getD, h, Raw.f]
end Go.Proofs.YtddnnhlcpffbdaaGreat

namespace Go.AM
variable {P : Program} {T : Tab} {m : Nat}

theorem WPcall.det {c : Call} {st : St} {K : PV → List Ob → Prop} (h : WPcall P T c st K) : ∃ v H, K v H ∧ WPcall P T c st (fun v2 H2 => v2 = v ∧ H2 = H) := by
  unfold WPcall at h ⊢
  split at h
  · rename_i b hb
    split at h
    · rename_i r hr
      refine ⟨r.val, r.heap, h.2, ?_⟩
      simp only []
      exact ⟨h.1, by simp⟩
    · exact h.elim
  · rename_i f hf
    split at h
    · rename_i k pre post hk
      obtain ⟨v, H', hc, hK⟩ := h
      refine ⟨v, H', hK, ?_⟩
      simp only []
      exact ⟨v, H', hc, rfl, rfl⟩
    · exact h.elim
  · exact h.elim
theorem WPop.det {o : Op} {st : St} {K : PV → List Ob → Prop} (h : WPop P T o st K) : ∃ v H, K v H ∧ WPop P T o st (fun v2 H2 => v2 = v ∧ H2 = H) := by
  unfold WPop at h ⊢
  split at h
  · exact WPcall.det h
  · split at h
    · rename_i r hr
      refine ⟨r.val, r.heap, h.2, ?_⟩
      simp only []
      exact ⟨h.1, by simp⟩
    · exact h.elim
theorem WPops.det {all : Array Oper} : ∀ (l : List Oper) {st : St} {K : St → Prop}, WPops P T all l st K → ∃ st', K st' ∧ WPops P T all l st (fun s => s = st')
  | [], st, K, h => ⟨st, h, rfl⟩
  | o :: rest, st, K, h => by
    unfold WPops at h
    split at h
    · rename_i hg
      obtain ⟨v, H, h1, h2⟩ := WPop.det h
      obtain ⟨s, hs, h3⟩ := WPops.det rest h1
      refine ⟨s, hs, ?_⟩
      unfold WPops
      simp only [hg]
      exact WPop.mono (fun v2 H2 e => by obtain ⟨rfl, rfl⟩ := e; exact h3) h2
    · rename_i j want hg
      split at h
      · rename_i t ht
        split at h
        · rename_i b hb
          by_cases hbw : b = want
          · obtain ⟨v, H, h1, h2⟩ := WPop.det (h.1 hbw)
            obtain ⟨s, hs, h3⟩ := WPops.det rest h1
            refine ⟨s, hs, ?_⟩
            unfold WPops
            simp only [hg, ht, hb]
            exact ⟨fun _ => WPop.mono (fun v2 H2 e => by obtain ⟨rfl, rfl⟩ := e; exact h3) h2, fun e => by subst hbw; cases b <;> simp at e⟩
          · have hbn : b = !want := by cases b <;> cases want <;> simp_all
            obtain ⟨s, hs, h3⟩ := WPops.det rest (h.2 hbn)
            refine ⟨s, hs, ?_⟩
            unfold WPops
            simp only [hg, ht, hb]
            exact ⟨fun e => absurd e hbw, fun _ => h3⟩
        · rename_i hb
          obtain ⟨s, hs, h3⟩ := WPops.det rest h
          refine ⟨s, hs, ?_⟩
          unfold WPops
          simp only [hg, ht, hb]
          exact h3
        · exact h.elim
      · exact h.elim
theorem WPdraw.det {all : Array Oper} : ∀ (l : List Oper) {st : St} {K : St → Prop}, WPdraw P T all l st K → ∃ st', K st' ∧ WPdraw P T all l st (fun s => s = st')
  | [], st, K, h => ⟨st, h, rfl⟩
  | o :: rest, st, K, h => by
    unfold WPdraw at h
    split at h
    · rename_i hg
      obtain ⟨v, H, ⟨h0, h1⟩, h2⟩ := WPop.det h
      obtain ⟨s, hs, h3⟩ := WPdraw.det rest h1
      refine ⟨s, hs, ?_⟩
      unfold WPdraw
      simp only [hg]
      exact WPop.mono (fun v2 H2 e => by obtain ⟨rfl, rfl⟩ := e; exact ⟨h0, h3⟩) h2
    · rename_i j want hg
      split at h
      · rename_i t ht
        split at h
        · rename_i b hb
          by_cases hbw : b = want
          · obtain ⟨v, H, ⟨h0, h1⟩, h2⟩ := WPop.det (h.1 hbw)
            obtain ⟨s, hs, h3⟩ := WPdraw.det rest h1
            refine ⟨s, hs, ?_⟩
            unfold WPdraw
            simp only [hg, ht, hb]
            exact ⟨fun _ => WPop.mono (fun v2 H2 e => by obtain ⟨rfl, rfl⟩ := e; exact ⟨h0, h3⟩) h2, fun e => by subst hbw; cases b <;> simp at e⟩
          · have hbn : b = !want := by cases b <;> cases want <;> simp_all
            obtain ⟨s, hs, h3⟩ := WPdraw.det rest (h.2 hbn)
            refine ⟨s, hs, ?_⟩
            unfold WPdraw
            simp only [hg, ht, hb]
            exact ⟨fun e => absurd e hbw, fun _ => h3⟩
        · rename_i hb
          obtain ⟨s, hs, h3⟩ := WPdraw.det rest h
          refine ⟨s, hs, ?_⟩
          unfold WPdraw
          simp only [hg, ht, hb]
          exact h3
        · exact h.elim
      · exact h.elim
theorem WPA.det : ∀ (cd : Code) {st : St} {Q : AExit → St → Prop}, WPA P T m cd st Q → ∃ e st', Q e st' ∧ WPA P T m cd st (fun e2 s2 => e2 = e ∧ s2 = st')
  | .skip, st, Q, h => ⟨_, _, h, rfl, rfl⟩
  | .label _, st, Q, h => ⟨_, _, h, rfl, rfl⟩
  | .exit _, st, Q, h => ⟨_, _, h, rfl, rfl⟩
  | .ret, st, Q, h => ⟨_, _, h, rfl, rfl⟩
  | .region n ops draw, st, Q, h => by
    unfold WPA at h ⊢
    split at h
    · rename_i hd
      rcases h with ⟨h0, ids, h1⟩ | ⟨s, h0, h1⟩
      · obtain ⟨s, hs, h2⟩ := WPdraw.det _ h1
        refine ⟨.normal, s, hs, ?_⟩
        rw [if_pos hd]
        exact .inl ⟨h0, ids, WPdraw.mono (fun _ e => ⟨rfl, e⟩) _ h2⟩
      · refine ⟨.normal, s, h1, ?_⟩
        rw [if_pos hd]
        exact .inr ⟨s, h0, rfl, rfl⟩
    · rename_i hd
      obtain ⟨s, hs, h2⟩ := WPops.det _ h
      refine ⟨.normal, s, hs, ?_⟩
      rw [if_neg hd]
      exact WPops.mono (fun _ e => ⟨rfl, e⟩) _ h2
  | .seq x y, st, Q, h => by
    unfold WPA at h
    obtain ⟨e, s, h1, h2⟩ := WPA.det x h
    cases e with
    | normal =>
      obtain ⟨e2, s2, h3, h4⟩ := WPA.det y h1
      refine ⟨e2, s2, h3, ?_⟩
      unfold WPA
      exact WPA.mono x (fun e3 s3 he => by obtain ⟨rfl, rfl⟩ := he; exact h4) h2
    | exit i =>
      refine ⟨_, _, h1, ?_⟩
      unfold WPA
      exact WPA.mono x (fun e3 s3 he => by obtain ⟨rfl, rfl⟩ := he; exact ⟨rfl, rfl⟩) h2
    | ret =>
      refine ⟨_, _, h1, ?_⟩
      unfold WPA
      exact WPA.mono x (fun e3 s3 he => by obtain ⟨rfl, rfl⟩ := he; exact ⟨rfl, rfl⟩) h2
  | .cond o x y, st, Q, h => by
    unfold WPA at h
    split at h
    · rename_i b hb
      cases b with
      | true =>
        obtain ⟨e, s, h1, h2⟩ := WPA.det x (h.1 rfl)
        refine ⟨e, s, h1, ?_⟩
        unfold WPA
        simp only [hb]
        exact ⟨fun _ => h2, fun e => by simp at e⟩
      | false =>
        obtain ⟨e, s, h1, h2⟩ := WPA.det y (h.2 rfl)
        refine ⟨e, s, h1, ?_⟩
        unfold WPA
        simp only [hb]
        exact ⟨fun e => by simp at e, fun _ => h2⟩
    · exact h.elim
  | .block id x, st, Q, h => by
    unfold WPA at h
    obtain ⟨e, s, h1, h2⟩ := WPA.det x h
    cases e with
    | normal =>
      refine ⟨_, _, h1, ?_⟩
      unfold WPA
      exact WPA.mono x (fun e3 s3 he => by obtain ⟨rfl, rfl⟩ := he; exact ⟨rfl, rfl⟩) h2
    | exit i =>
      by_cases hi : i = id
      · simp only [hi, if_true] at h1
        refine ⟨.normal, s, h1, ?_⟩
        unfold WPA
        refine WPA.mono x (fun e3 s3 he => ?_) h2
        obtain ⟨rfl, rfl⟩ := he
        simp [hi]
      · simp only [hi, if_false] at h1
        refine ⟨.exit i, s, h1, ?_⟩
        unfold WPA
        refine WPA.mono x (fun e3 s3 he => ?_) h2
        obtain ⟨rfl, rfl⟩ := he
        simp [hi]
    | ret =>
      refine ⟨_, _, h1, ?_⟩
      unfold WPA
      exact WPA.mono x (fun e3 s3 he => by obtain ⟨rfl, rfl⟩ := he; exact ⟨rfl, rfl⟩) h2
  | .loop x, st, Q, h => by
    unfold WPA at h
    obtain ⟨I, ⟨n0, st0, hw0, hi0⟩, hstep⟩ := h
    have key : ∀ n st1, I n st1 → ∃ e s, Q e s ∧ WPA P T m (.loop x) st1 (fun e2 s2 => e2 = e ∧ s2 = s) := by
      intro n
      induction n using Nat.strongRecOn with
      | _ n ih =>
        intro st1 hi
        obtain ⟨e, s, h1, h2⟩ := WPA.det x (hstep n st1 hi)
        cases e with
        | normal =>
          obtain ⟨n', s', hlt, hw, hi'⟩ := h1
          obtain ⟨e2, s2, hq, hl⟩ := ih n' hlt s' hi'
          refine ⟨e2, s2, hq, ?_⟩
          unfold WPA at hl ⊢
          obtain ⟨J, ⟨k0, t0, hwt, hj0⟩, hJ⟩ := hl
          refine ⟨fun k t => (k = k0 + 1 ∧ t = st1) ∨ (k ≤ k0 ∧ J k t), ⟨k0 + 1, st1, Weak.refl _ _, Or.inl ⟨rfl, rfl⟩⟩, ?_⟩
          intro k t hk
          rcases hk with ⟨rfl, rfl⟩ | ⟨hk, hj⟩
          · refine WPA.mono x (fun e3 s3 he => ?_) h2
            obtain ⟨rfl, rfl⟩ := he
            exact ⟨k0, t0, by omega, Weak.trans hw hwt, Or.inr ⟨Nat.le_refl _, hj0⟩⟩
          · refine WPA.mono x (fun e3 s3 he => ?_) (hJ k t hj)
            cases e3 with
            | normal =>
              obtain ⟨k', t', hlt', hw', hj'⟩ := he
              exact ⟨k', t', hlt', hw', Or.inr ⟨by omega, hj'⟩⟩
            | exit i => exact he
            | ret => exact he
        | exit i =>
          refine ⟨_, _, h1, ?_⟩
          unfold WPA
          refine ⟨fun k t => k = 0 ∧ t = st1, ⟨0, st1, Weak.refl _ _, rfl, rfl⟩, ?_⟩
          rintro k t ⟨rfl, rfl⟩
          exact WPA.mono x (fun e3 s3 he => by obtain ⟨rfl, rfl⟩ := he; exact ⟨rfl, rfl⟩) h2
        | ret =>
          refine ⟨_, _, h1, ?_⟩
          unfold WPA
          refine ⟨fun k t => k = 0 ∧ t = st1, ⟨0, st1, Weak.refl _ _, rfl, rfl⟩, ?_⟩
          rintro k t ⟨rfl, rfl⟩
          exact WPA.mono x (fun e3 s3 he => by obtain ⟨rfl, rfl⟩ := he; exact ⟨rfl, rfl⟩) h2
    obtain ⟨e, s, hq, hl⟩ := key n0 st0 hi0
    refine ⟨e, s, hq, ?_⟩
    unfold WPA at hl ⊢
    obtain ⟨J, ⟨k0, t0, hwt, hj0⟩, hJ⟩ := hl
    exact ⟨J, ⟨k0, t0, Weak.trans hw0 hwt, hj0⟩, hJ⟩

def retR (T : Tab) (rs : List ResultVar) (m : Nat) (R : List Ob → PV → Prop) (e : AExit) (st : St) : Prop := match e with | .exit _ => False | _ => ∃ H1 res, R H1 res ∧ RetOK T rs m st H1 res
theorem Ap_endR_normal {rs : List ResultVar} {R : List Ob → PV → Prop} {st : St} {u : Tok _} : Ap (retR T rs m R) .normal st u = ∃ H1 res, R H1 res ∧ RetOK T rs m st H1 res := rfl
theorem Ap_endR_ret {rs : List ResultVar} {R : List Ob → PV → Prop} {st : St} {u : Tok _} : Ap (retR T rs m R) .ret st u = ∃ H1 res, R H1 res ∧ RetOK T rs m st H1 res := rfl
theorem den_some (hT : TabOk P T) (hm : P.follows .mixedOrders = true) {k : FuncId} {fn : Func} {cd : Code} (hf : P.funcs[k]? = some fn) (hb : fn.body = some cd) (hname : (fn.name == "runtime.NumGoroutine") = false)
    {H0 : List Ob} {args : List PV} {R : List Ob → PV → Prop} {rs : List ResultVar} (hr : fn.results = List.toArray rs) {n : Nat} (hn : fn.ntmps - args.length = n) {env : List PV} (he : args ++ List.replicate n .any = env) {m : Nat} (hm0 : H0.length = m)
    (h : WA P T m cd ⟨env, H0⟩ (retR T rs m R) ⟨⟩) : ∃ H1 res, R H1 res ∧ Den P k H0 args H1 res := by
  obtain ⟨e, st, hq, hw⟩ := WPA.det cd h
  cases e with
  | normal =>
    obtain ⟨H1, res, hR, hret⟩ := hq
    exact ⟨H1, res, hR, den_of hT hm hf hb hname hr hn he hm0 (WPA.mono cd (fun e2 s2 hh => by obtain ⟨rfl, rfl⟩ := hh; exact hret) hw)⟩
  | exit i => exact hq.elim
  | ret =>
    obtain ⟨H1, res, hR, hret⟩ := hq
    exact ⟨H1, res, hR, den_of hT hm hf hb hname hr hn he hm0 (WPA.mono cd (fun e2 s2 hh => by obtain ⟨rfl, rfl⟩ := hh; exact hret) hw)⟩

end Go.AM

namespace Go.AM

theorem Weak.nil {m : Nat} {env : List PV} {H : List Ob} {st' : St} (t s : Nat) (hs : 0 < s) (ht : env[t]? = some .nilsl) (h2 : Weak m ⟨env.set t (.lsl H.length 0 0 s), H ++ [.row true []]⟩ st') : Weak m ⟨env, H⟩ st' := by
  intro c a w hml ⟨X, ρ, h, henv, hd, hkp⟩
  refine h2 c a w hml ⟨X, ρ ++ [some ⟨none, 0, s, 0⟩], ?_, ?_, hd, hkp⟩
  · have hle : ρ.Le (ρ ++ [some ⟨none, 0, s, 0⟩]) := Places.Le.append ρ _
    have key : ∀ (id : Nat) p o, (ρ ++ [some ⟨none, 0, s, 0⟩])[id]? = some (some p) → (H ++ [Ob.row true []])[id]? = some o → (ρ[id]? = some (some p) ∧ H[id]? = some o) ∨ (p = ⟨none, 0, s, 0⟩ ∧ o = .row true []) := by
      intro id p o hp ho
      by_cases hlt : id < ρ.length
      · rw [List.getElem?_append_left hlt] at hp
        rw [List.getElem?_append_left (by rw [← h.len]; exact hlt)] at ho
        exact .inl ⟨hp, ho⟩
      · rw [List.getElem?_append_right (by omega)] at hp
        rw [List.getElem?_append_right (by rw [← h.len]; omega), ← h.len] at ho
        right
        cases hi : id - ρ.length with
        | zero => rw [hi] at hp ho; simp at hp ho; exact ⟨hp.symm, ho.symm⟩
        | succ j => rw [hi] at hp; simp at hp
    refine ⟨by simp [h.len], ?_, ?_, ?_, h.xo, h.xlt, h.ge, h.base.trans hle⟩
    · intro id p o hp ho
      rcases key id p o hp ho with ⟨h3, h4⟩ | ⟨rfl, rfl⟩
      · exact (h.ob id p o h3 h4).keep (Same.refl X w) (fun _ _ hx => hx) hle (fun _ g _ _ => ⟨rfl, Iff.rfl⟩)
      · exact ⟨⟨hs, by simp, [], by simpa [Place.val] using World.ownsRow_nil w 0 0 s, by simp⟩, by simp⟩
    · intro i j p q o r g hp hq ho hr h3 h4 h5 h6
      rcases key i p o hp ho with ⟨h7, h8⟩ | ⟨rfl, rfl⟩
      · rcases key j q r hq hr with ⟨h9, h10⟩ | ⟨rfl, rfl⟩
        · exact h.inj i j p q o r g h7 h9 h8 h10 h3 h4 h5 h6
        · simp at h6
      · simp at h5
    · intro id p o g hp ho h3 h4
      rcases key id p o hp ho with ⟨h7, h8⟩ | ⟨rfl, rfl⟩
      · exact h.own id p o g h7 h8 h3 h4
      · simp at h4
  · have hle : ρ.Le (ρ ++ [some ⟨none, 0, s, 0⟩]) := Places.Le.append ρ _
    have henv2 := henv.mono hle
    refine ⟨by rw [List.length_set]; exact henv.1, fun i v x hv hx => ?_⟩
    by_cases hi : t = i
    · subst hi
      rw [List.getElem?_set_self (List.getElem?_eq_some_iff.1 ht).1] at hx
      cases hx
      have := henv.2 t v _ hv ht
      cases this with
      | nilsl =>
        exact .lsl0 H.length ⟨none, 0, s, 0⟩ (by rw [← h.len]; simp) rfl
    · rw [List.getElem?_set_ne hi] at hx
      exact henv2.2 i v x hv hx

section
variable {P : Program} {T : Tab}
def retN (T : Tab) (rs : List ResultVar) (e : AExit) (st : St) : Prop := match e with | .exit _ => False | _ => ∃ cd, resVs T st rs = some (cd, [.nilsl]) ∧ cd
theorem Ap_endN_ret {rs : List ResultVar} {st : St} {u : Tok _} : Ap (retN T rs) .ret st u = ∃ cd, resVs T st rs = some (cd, [.nilsl]) ∧ cd := rfl
theorem den_nil (hT : TabOk P T) (hm : P.follows .mixedOrders = true) {k : FuncId} {fn : Func} {cd : Code} (hf : P.funcs[k]? = some fn) (hb : fn.body = some cd) (hname : (fn.name == "runtime.NumGoroutine") = false)
    {args : List PV} {rs : List ResultVar} (hr : fn.results = List.toArray rs) {n : Nat} (hn : fn.ntmps - args.length = n) {env : List PV} (he : args ++ List.replicate n .any = env)
    (h : WA P T 0 cd ⟨env, []⟩ (retN T rs) ⟨⟩) (s : Nat) (hs0 : 0 < s) : Den P k [] args [.row true []] (.lsl 0 0 0 s) := by
  subst hn; subst he
  refine ⟨⟨fn, cd, hf, hb, hname⟩, fun c X ρ vs hh hM hvs => ?_⟩
  have hρ0 : ρ = [] := List.eq_nil_of_length_eq_zero hh.len
  subst hρ0
  refine calls_of_wp hf hb ?_
  let c2 : Ctx := { c with base := [] }
  have hh2 : HRd c2 c.w0 X [] [] := ⟨hh.len, hh.ob, hh.inj, hh.own, hh.xo, hh.xlt, hh.ge, Places.Le.refl []⟩
  have hs : SRd c2 ⟨args ++ List.replicate (fn.ntmps - args.length) .any, []⟩ { tmps := vs ++ Array.replicate (fn.ntmps - vs.size) undef, defers := [] } c.w0 := by
    refine ⟨X, [], hh2, ⟨by simp [hvs.1], fun i v x hv hx => ?_⟩, rfl, Keeps.refl c2⟩
    by_cases hi : i < vs.size
    · rw [Array.getElem?_append_left hi] at hv
      rw [List.getElem?_append_left (by rw [← hvs.1]; exact hi)] at hx
      exact hvs.2 i v x hv hx
    · rw [List.getElem?_append_right (by rw [← hvs.1]; omega), List.getElem?_replicate] at hx
      split at hx
      · cases hx; exact .any _
      · cases hx
  have fin : ∀ st' a' w', (∃ cd, resVs T st' rs = some (cd, [.nilsl]) ∧ cd) → SRd c2 st' a' w' → a'.defers = [] ∧ ∃ v, (results fn a'.tmps).run P w' = .ok v w' ∧ ∃ v2 X' ρ', Ending.returned v = .returned v2 ∧ Keeps c w' ∧ HRd c w' X' ρ' [.row true []] ∧ PRd w' X' ρ' v2 (.lsl 0 0 0 s) ∧
      Places.Le [] ρ' ∧ (∀ (id : Nat) p, ([] : Places).length ≤ id → ρ'[id]? = some (some p) → ∀ g, p.b = some g → c.w0.heap.size ≤ g) := by
    intro st' a' w' ⟨cd', hres, hcd⟩ ⟨X', ρ', h', he', hd', hk'⟩
    obtain ⟨u, hrun, hu⟩ := results_run hT h' he' (by rw [hr]; exact hres) hcd
    refine ⟨hd', u, hrun, u, X', [some ⟨none, 0, s, 0⟩], rfl, ⟨hk'.os, hk'.tape, hk'.output, hk'.size, hk'.block⟩, ⟨rfl, ?_, ?_, ?_, h'.xo, h'.xlt, h'.ge, hh.base.trans (Places.Le.append [] _)⟩, ?_, Places.Le.append [] _, ?_⟩
    · intro id p o hp ho
      cases id with
      | succ j => simp at hp
      | zero =>
        simp at hp ho; subst hp; subst ho
        exact ⟨⟨hs0, by simp, [], by simpa [Place.val] using World.ownsRow_nil w' 0 0 s, by simp⟩, by simp⟩
    · intro i j p q o r g hp hq ho hr h3 h4 h5 h6
      cases i with
      | succ j => simp at hp
      | zero => simp at hp; subst hp; cases h5
    · intro i p o g hp ho h3 h4
      cases i with
      | succ j => simp at hp
      | zero => simp at hp; subst hp; cases h4
    · change PRd w' X' ρ' u .nilsl at hu
      cases hu with
      | nilsl => exact .lsl0 0 ⟨none, 0, s, 0⟩ rfl rfl
    · intro id p _ hp g hg
      cases id with
      | succ j => simp at hp
      | zero => simp at hp; subst hp; cases hg
  refine wpa_sound hT hm (m := 0) (by show ([] : Places).length ≤ _; exact Nat.le_refl _) cd h hs (fun e st' a' w' he hs' => ?_)
  cases e with
  | normal => exact fin st' a' w' he hs'
  | ret => exact fin st' a' w' he hs'
  | exit id => exact he.elim
end
theorem Den.empty' {P : Program} {k : FuncId} {pre post : List PV} {H1 : List Ob} {res : PV} (h1 : Den P k [] (pre ++ .nilsl :: post) H1 res) (h2 : ∀ b o cap, Den P k [] (pre ++ .fv (.lit (.slice (some ⟨b, o, none⟩) 0 cap)) :: post) H1 res) :
    Den P k [] (pre ++ .fv (.sl []) :: post) H1 res := by
  refine ⟨h1.1, fun c X ρ vs hh hM hvs => ?_⟩
  have hlt : pre.length < vs.size := by rw [hvs.1]; simp
  have hv : vs[pre.length]? = some vs[pre.length] := by simp [hlt]
  have hrd := hvs.2 pre.length vs[pre.length] (.fv (.sl [])) hv (by simp)
  generalize vs[pre.length] = v at hv hrd
  cases hrd with
  | fv _ _ hf =>
    cases hf with
    | nil => exact h1.2 c X ρ vs hh hM (hvs.swap (fun u hu => by rw [hv] at hu; cases hu; exact .nilsl))
    | sl ad n cap s _ us hn hc hss h0 =>
      have hn : n = 0 := by simpa using hn.symm
      subst hn
      obtain ⟨b, o, sp⟩ := ad
      cases h0
      exact (h2 b o cap).2 c X ρ vs hh hM (hvs.swap (fun u hu => by rw [hv] at hu; cases hu; exact .fv _ _ (.lit _ rfl)))

end Go.AM

namespace Go.Proofs.YtddnnhlcpffbdaaGreat
open Go.AM Go.Pl
set_option maxRecDepth 100000
set_option maxHeartbeats 4000000

def rowsF (ls : List (List Raw)) : List (List FV) := ls.map flatF
theorem rowsF_length (ls : List (List Raw)) : (rowsF ls).length = ls.length := by simp [rowsF]
theorem rowsF_getD (ls : List (List Raw)) (i : Nat) : (rowsF ls).getD i [] = flatF (ls.getD i []) := by
  by_cases h : i < ls.length
  · simp [rowsF, List.getD_eq_getElem?_getD, h]
  · simp [rowsF, List.getD_eq_getElem?_getD, List.getElem?_eq_none (show ls.length ≤ i by omega), flatF]
theorem flatF_length : ∀ rs : List Raw, (flatF rs).length = 3 * rs.length
  | [] => rfl
  | r :: rs => by simp only [flatF, List.length_cons, flatF_length rs]; omega
theorem rowsF_set (ls : List (List Raw)) (i : Nat) (x : List Raw) : (rowsF ls).set i (flatF x) = rowsF (ls.set i x) := by simp [rowsF, List.map_set]
def AOk (k : Nat) (ls : List (List Raw)) : Prop := ∀ l ∈ ls, LOk k l
theorem AOk.at {k : Nat} {ls : List (List Raw)} (h : AOk k ls) {i : Nat} (hi : i < ls.length) : LOk k (ls.getD i []) := by
  rw [List.getD_eq_getElem?_getD, List.getElem?_eq_getElem hi]
  exact h _ (List.getElem_mem hi)
theorem AOk.set {k : Nat} {ls : List (List Raw)} (h : AOk k ls) (i : Nat) {x : List Raw} (hx : LOk k x) : AOk k (ls.set i x) := fun l hl => by
  rcases List.mem_or_eq_of_mem_set hl with h1 | h1
  · exact h l h1
  · rw [h1]; exact hx
def swapL (ls : List (List Raw)) (j : Nat) : List (List Raw) := (ls.set j (ls.getD (j - 1) [])).set (j - 1) (ls.getD j [])
theorem swapL_length (ls : List (List Raw)) (j : Nat) : (swapL ls j).length = ls.length := by simp [swapL]
theorem swapL_getD {ls : List (List Raw)} {j : Nat} (h0 : 0 < j) (hj : j < ls.length) (q : Nat) : (swapL ls j).getD q [] = if q = j then ls.getD (j - 1) [] else if q = j - 1 then ls.getD j [] else ls.getD q [] := by
  unfold swapL
  simp only [List.getD_eq_getElem?_getD, List.getElem?_set, List.length_set]
  by_cases h1 : q = j
  · subst h1
    rw [if_neg (by omega), if_pos rfl, if_pos hj, if_pos rfl]; rfl
  · rw [if_neg h1]
    by_cases h2 : q = j - 1
    · subst h2
      rw [if_pos rfl, if_pos (by omega), if_pos rfl]; rfl
    · rw [if_neg (fun h => h2 h.symm), if_neg (fun h => h1 h.symm), if_neg h2]
theorem mem_getD {ls : List (List Raw)} {f : List Raw} : f ∈ ls ↔ ∃ i, i < ls.length ∧ ls.getD i [] = f := by
  rw [List.mem_iff_getElem]
  constructor
  · rintro ⟨i, hi, rfl⟩
    exact ⟨i, hi, by rw [List.getD_eq_getElem?_getD, List.getElem?_eq_getElem hi]; rfl⟩
  · rintro ⟨i, hi, h⟩
    rw [List.getD_eq_getElem?_getD, List.getElem?_eq_getElem hi] at h
    exact ⟨i, hi, h⟩
theorem swapL_mem {ls : List (List Raw)} {j : Nat} (h0 : 0 < j) (hj : j < ls.length) (f : List Raw) : f ∈ swapL ls j ↔ f ∈ ls := by
  rw [mem_getD, mem_getD, swapL_length]
  constructor
  · rintro ⟨q, hq, h⟩
    rw [swapL_getD h0 hj] at h
    by_cases h1 : q = j
    · rw [if_pos h1] at h; exact ⟨j - 1, by omega, h⟩
    · rw [if_neg h1] at h
      by_cases h2 : q = j - 1
      · rw [if_pos h2] at h; exact ⟨j, hj, h⟩
      · rw [if_neg h2] at h; exact ⟨q, hq, h⟩
  · rintro ⟨q, hq, h⟩
    by_cases h1 : q = j
    · subst h1
      exact ⟨q - 1, by omega, by rw [swapL_getD h0 hj, if_neg (by omega), if_pos rfl]; exact h⟩
    · by_cases h2 : q = j - 1
      · subst h2
        exact ⟨j, hj, by rw [swapL_getD h0 hj, if_pos rfl]; exact h⟩
      · exact ⟨q, hq, by rw [swapL_getD h0 hj, if_neg h1, if_neg h2]; exact h⟩
def Srt (ls : List (List Raw)) (i j : Nat) : Prop := ∀ p q, p < q → q ≤ i → q ≠ j → cmpR (ls.getD p []) (ls.getD q []) ≤ 0
theorem srt_swap {ls : List (List Raw)} {i j : Nat} (hj0 : 0 < j) (hji : j ≤ i) (hi : i < ls.length) (h : Srt ls i j) (hc : cmpR (ls.getD j []) (ls.getD (j - 1) []) < 0) : Srt (swapL ls j) i (j - 1) := by
  intro p q hpq hqi hq
  rw [swapL_getD hj0 (by omega), swapL_getD hj0 (by omega)]
  by_cases h1 : q = j
  · subst h1
    rw [if_pos rfl, if_neg (by omega : ¬ p = q)]
    by_cases h2 : p = q - 1
    · rw [if_pos h2]; omega
    · rw [if_neg h2]; exact h p (q - 1) (by omega) (by omega) (by omega)
  · rw [if_neg h1, if_neg hq]
    by_cases h2 : p = j
    · rw [if_pos h2]; exact h (j - 1) q (by omega) hqi h1
    · rw [if_neg h2]
      by_cases h3 : p = j - 1
      · rw [if_pos h3]; exact h j q (by omega) hqi h1
      · rw [if_neg h3]; exact h p q hpq hqi h1
theorem srt_done {k : Nat} {ls : List (List Raw)} {i j : Nat} (hok : AOk k ls) (hi : i < ls.length) (hji : j ≤ i) (h : Srt ls i j) (hc : j = 0 ∨ 0 ≤ cmpR (ls.getD j []) (ls.getD (j - 1) [])) : ∀ p q, p < q → q ≤ i → cmpR (ls.getD p []) (ls.getD q []) ≤ 0 := by
  intro p q hpq hqi
  by_cases hq : q = j
  · subst hq
    rcases hc with h0 | h0
    · omega
    · rw [cmpR_swap] at h0
      have h1 : cmpR (ls.getD (q - 1) []) (ls.getD q []) ≤ 0 := by omega
      by_cases hp : p = q - 1
      · rw [hp]; exact h1
      · have h2 := h p (q - 1) (by omega) (by omega) (by omega)
        exact cmpR_trans _ _ _ (by rw [(hok.at (i := p) (by omega)).len, (hok.at (i := q - 1) (by omega)).len]) (by rw [(hok.at (i := q - 1) (by omega)).len, (hok.at (i := q) (by omega)).len]) h2 h1
  · exact h p q hpq hqi hq

theorem flatF_drop27 {rs : List Raw} (h : rs.length = 9) : List.drop 27 (flatF rs) = [] := List.drop_of_length_le (by rw [flatF_length]; omega)
theorem flatF_take27 {rs : List Raw} (h : rs.length = 9) : List.take 27 (flatF rs) = flatF rs := List.take_of_length_le (by rw [flatF_length]; omega)
structure SortOf (ls ls' : List (List Raw)) : Prop where
  len : ls'.length = ls.length
  mem : ∀ f, f ∈ ls' ↔ f ∈ ls
  ord : ∀ p q, p < q → q < ls'.length → cmpR (ls'.getD p []) (ls'.getD q []) ≤ 0
abbrev cmpV : PV := .fv (.lit (.func (.func 87) #[] #[]))
theorem AOk.of_mem {k : Nat} {ls ls' : List (List Raw)} (h : AOk k ls) (hm : ∀ f, f ∈ ls' ↔ f ∈ ls) : AOk k ls' := fun l hl => h l ((hm l).1 hl)

theorem pd134 (ls : List (List Raw)) (hok : AOk 1000000000 ls) (hn : ls.length ≤ 1000) :
    ∃ H1 res, (fun H1 res => ∃ ls', H1 = [.row true (rowsF ls')] ∧ res = PV.tup [] ∧ SortOf ls ls') H1 res ∧ Den Tryz.prog 134 [.row true (rowsF ls)] [.lsl 0 0 ls.length 27, .int .i64 0, .int .i64 ls.length, cmpV] H1 res := by
  obtain ⟨n, hnn⟩ : ∃ n, ls.length = n := ⟨_, rfl⟩
  rw [hnn] at hn ⊢
  refine den_some tabOk mixed Tryz.func134 (cd := _) rfl (by decide) rfl (n := 49) rfl rfl (m := 1) rfl ?_
  simp (dsimp := false) (disch := omega) only [List.replicate, wrap64, rules, tys, eq_self, ↓reduceIte]
  refine WA.loop (α := Nat × List (List Raw)) (fun ⟨i, l⟩ => ⟨[.lsl 0 0 n 27, .int .i64 0, .int .i64 n, cmpV, .any, .any, .any, .any, .int .i64 i] ++ List.replicate 44 .any, [.row true (rowsF l)]⟩)
    (fun ⟨i, _⟩ => n + 1 - i) (fun ⟨i, l⟩ => 1 ≤ i ∧ (i ≤ n ∨ i = 1) ∧ l.length = n ∧ (∀ f, f ∈ l ↔ f ∈ ls) ∧ ∀ p q, p < q → q < i → q < n → cmpR (l.getD p []) (l.getD q []) ≤ 0) (1, ls) ?_ ?_ ?_
  · refine Weak.keep [0] (by simp) rfl ?_ ?_
    · simp [leVs, leV, le1]
    · simp [leH, leO]
  · exact ⟨Nat.le_refl _, Or.inr rfl, hnn, fun f => Iff.rfl, fun p q h1 h2 h3 => by omega⟩
  · rintro ⟨i, l⟩ ⟨hi1, hin, hll, hmem, hord⟩
    simp (dsimp := false) (disch := omega) only [List.replicate, rules, tys, eq_self, ↓reduceIte]
    refine Br.dec ?_ ?_
    · intro h1 h2
      simp (dsimp := false) (disch := omega) only [h2, rules]
      refine WA.loop (α := Nat × List (List Raw)) (fun ⟨j, l⟩ => ⟨[.lsl 0 0 n 27, .int .i64 0, .int .i64 n, cmpV, .any, .any, .any, .any, .int .i64 i, .int .i64 j] ++ List.replicate 43 .any, [.row true (rowsF l)]⟩)
        (fun ⟨j, _⟩ => j) (fun ⟨j, l⟩ => j ≤ i ∧ l.length = n ∧ (∀ f, f ∈ l ↔ f ∈ ls) ∧ Srt l i j) (i, l) ?_ ?_ ?_
      · refine Weak.keep [0] (by simp) rfl ?_ ?_
        · simp [leVs, leV, le1]
        · simp [leH, leO]
      · exact ⟨Nat.le_refl _, hll, hmem, fun p q h3 h4 h5 => hord p q h3 (by omega) (by omega)⟩
      · rintro ⟨j, l⟩ ⟨hj, hll, hmem, hsrt⟩
        have hokl := hok.of_mem hmem
        simp (dsimp := false) (disch := omega) only [List.replicate, rules]
        refine Draw.intro (by kernel_rfl) ?_
        simp (dsimp := false) (disch := omega) only [rules, tys, eq_self, ↓reduceIte]
        refine Br.dec ?_ ?_
        · intro h3 h4
          obtain ⟨p, rfl⟩ : ∃ p, j = p + 1 := ⟨j - 1, by omega⟩
          have hp1 : (((p + 1 : Nat) : Int) - 1) = (p : Int) := by omega
          have hx := hokl.at (i := p + 1) (by omega)
          have hy := hokl.at (i := p) (by omega)
          have hden := den22 _ _ hx hy
          have r1 := rowsF_getD l (p + 1)
          have r2 := rowsF_getD l p
          obtain ⟨x, hxx⟩ : ∃ x, l.getD (p + 1) [] = x := ⟨_, rfl⟩
          obtain ⟨y, hyy⟩ : ∃ x, l.getD p [] = x := ⟨_, rfl⟩
          rw [hxx] at hx hden r1
          rw [hyy] at hy hden r2
          have rl := rowsF_length l
          have x27 := flatF_take27 hx.len
          have y27 := flatF_take27 hy.len
          have fx := flatF_length x
          have fy := flatF_length y
          have lx := hx.len
          have ly := hy.len
          unfold RL at hden
          have dx := flatF_drop27 hx.len
          have dy := flatF_drop27 hy.len
          have gx := flat_length x
          have gy := flat_length y
          have hsw : ((rowsF l).set (p + 1) (flatF y)).set p (flatF x) = rowsF (swapL l (p + 1)) := by
            rw [rowsF_set, rowsF_set]
            unfold swapL
            rw [Nat.add_sub_cancel, hxx, hyy]
          have r3 : ((rowsF l).set (p + 1) (flatF y)).getD p [] = flatF y := by
            rw [rowsF_set, rowsF_getD, List.getD_eq_getElem?_getD, List.getElem?_set_ne (by omega), ← List.getD_eq_getElem?_getD, hyy]
          obtain ⟨z, hz⟩ : ∃ z, cmpR x y = z := ⟨_, rfl⟩
          rw [hz] at hden
          simp (dsimp := false) (disch := omega) only [h4, hp1, r1, r2, x27, y27, flatF_fv, rl, wrap64, rules, tys, eq_self, ↓reduceIte]
          repeat refine And.intro (by omega) ?_
          refine GoCall.pure hden (by simp [fzAs, fzA, flat_fz, flatF_fv]) ?_
          simp (dsimp := false) (disch := omega) only [flat_ids, List.append_nil, rules, tys, eq_self, ↓reduceIte]
          refine Br.dec ?_ ?_
          · intro h5 h6
            simp (dsimp := false) (disch := omega) only [h6, rules]
            refine Draw.intro (by kernel_rfl) ?_
            simp (dsimp := false) (disch := omega) only [flat_ids, flat_fz, List.append_nil, hp1, r1, r2, r3, x27, y27, flatF_fv, rl, fx, fy, gx, gy, lx, ly, dx, dy, hsw, List.length_set, wrap64, rules, tys, eq_self, ↓reduceIte, Nat.reduceMul, Nat.reduceLT, Nat.reduceLeDiff]
            repeat refine And.intro (by omega) ?_
            refine Ap_loop (p, swapL l (p + 1)) (by dsimp only; omega) ?_ ⟨by omega, by rw [swapL_length]; exact hll, fun f => by rw [swapL_mem (by omega) (by omega), hmem], ?_⟩
            · refine Weak.keep [0] (by simp) rfl ?_ ?_
              · simp [leVs, leV, le1]
              · simp [leH, leO]
            · have := srt_swap (j := p + 1) (by omega) hj (by omega) hsrt (by rw [hxx, Nat.add_sub_cancel, hyy, hz]; exact h5)
              rwa [Nat.add_sub_cancel] at this
          · intro h5 h6
            have hd := srt_done hokl (by omega) hj hsrt (Or.inr (by rw [hxx, Nat.add_sub_cancel, hyy, hz]; omega))
            simp (dsimp := false) (disch := omega) only [h6, wrap64, rules, tys, eq_self, ↓reduceIte, Nat.reduceBEq]
            refine Ap_loop (i + 1, l) (by dsimp only; omega) ?_ ⟨by omega, by omega, hll, hmem, fun p q h7 h8 h9 => hd p q h7 (by omega)⟩
            refine Weak.keep [0] (by simp) rfl ?_ ?_
            · simp [leVs, leV, le1]
            · simp [leH, leO]
        · intro h3 h4
          have hd := srt_done hokl (by omega) hj hsrt (Or.inl (by omega))
          simp (dsimp := false) (disch := omega) only [h4, wrap64, rules, tys, eq_self, ↓reduceIte, Nat.reduceBEq]
          refine Ap_loop (i + 1, l) (by dsimp only; omega) ?_ ⟨by omega, by omega, hll, hmem, fun p q h7 h8 h9 => hd p q h7 (by omega)⟩
          refine Weak.keep [0] (by simp) rfl ?_ ?_
          · simp [leVs, leV, le1]
          · simp [leH, leO]
    · intro h1 h2
      simp (dsimp := false) (disch := omega) only [h2, Ap_endR_normal, rules, Nat.reduceBEq]
      exact ⟨[.row true (rowsF l)], .tup [], ⟨l, rfl, rfl, by rw [hll, hnn], hmem, fun p q h3 h4 => hord p q h3 (by omega) (by omega)⟩, RetOK.lentB (cd := True) (vs := []) rfl trivial rfl trivial rfl rfl rfl⟩

end Go.Proofs.YtddnnhlcpffbdaaGreat
