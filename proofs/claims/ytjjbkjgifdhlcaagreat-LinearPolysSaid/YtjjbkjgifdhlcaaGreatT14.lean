/- The road from a contract to a law's statement: a list of numbers that came in. -/
import Derived.Test.YtjjbkjgifdhlcaaGreatRows
import Derived.Test.YtjjbkjgifdhlcaaGreatT13
import Derived.ProofKit
import Derived.Below
import Derived.Test.YtjjbkjgifdhlcaaGreatT12

namespace Go.Proofs.YtjjbkjgifdhlcaaGreat
open Go.ChangeShapes Go.WideShapes Go.ChangeAt Go.RowKit

theorem Tryz.own : ownKnob Tryz.prog.godebug = none := by kernel_rfl
theorem Tryz.laidOut : laidOutB Tryz.prog = true := by kernel_rfl
theorem Tryz.cells3 : Tryz.prog.cellsOf 3 = 1 := by kernel_rfl

theorem block_below {w : World} {a : Addr} {v : Value} (h : w.cell? a = some v) : a.block < w.heap.size := by
  unfold World.cell? at h
  split at h
  · rename_i hb; exact (Array.getElem?_eq_some_iff.1 hb).1
  · cases h
set_option maxRecDepth 100000 in
/-- A list of numbers that came in, as the abstract machine reads it. -/
theorem ints_read {W : World} {base : Nat} {v0 : Value} {H : Type} {enc : TypeId × Value → H} {fuel : Nat} {held : Bool} {x : DataW H × List MemPlace} (hok : Value.okWide Tryz.prog W .any base 22 v0)
    (hf : DataW.trod enc Tryz.prog W 0 (fun _ => true) held fuel 22 v0.cells.toList = some x) :
    ∃ l : List Int, W64 l ∧ l.length < 9223372036854775808 ∧ Go.AM.FRd W (fun _ => False) v0 (.sl (ints l)) := by
  obtain ⟨a0, len, cap, rfl⟩ := okWide_slice Tryz.underlying22 hok
  rcases open_ints Tryz.underlying22 Tryz.underlying3 Tryz.cells3 hf with ⟨hcs, hx⟩ | ⟨a, len', cap', zs, hcs, _, hl, hm, hz, hx, hcell, hwz⟩
  · simp [Value.cells] at hcs
    obtain ⟨rfl, rfl, rfl⟩ := hcs
    exact ⟨[], fun x h => by simp at h, by simp, .nil⟩
  · simp [Value.cells] at hcs
    obtain ⟨rfl, rfl, rfl⟩ := hcs
    simp only [if_true] at hz
    obtain ⟨b, off, spot⟩ := a
    have hspot : spot = none := by
      simp only [Value.okWide, Tryz.underlying22, Cell.okWide, Cell.ok] at hok
      exact hok.2.2.2.1
    subst hspot
    unfold maxLen at hm
    refine ⟨zs.take len, fun x h => ?_, ?_, ?_⟩
    · have h1 := hwz x (List.mem_of_mem_take h)
      simp [Lit.wf, IntKind.min, IntKind.max, IntKind.signed, IntKind.bits] at h1
      omega
    · rw [List.length_take]; omega
    · refine .sl ⟨b, off, none⟩ len cap 1 (ints (zs.take len)) (fun i _ => .int .i64 (zs.getD i 0)) ?_ hl ?_ rfl (fun _ h => h) (fun h => ?_) (fun i j x y hx hy => ?_) (fun i j x y hx hy => ?_)
      · rw [ints_length, List.length_take]; omega
      · intro x hx
        simp only [ints, List.mem_map] at hx
        obtain ⟨n, _, rfl⟩ := hx
        rfl
      · exact block_below (hcell 0 (by omega))
      · have hi : i < (ints (zs.take len)).length := (List.getElem?_eq_some_iff.1 hx).1
        rw [ints_length, List.length_take] at hi
        have hxe : x = [Go.AM.FV.lit (.int .i64 ((zs.take len).getD i 0))] := by
          have := hx
          simp only [ints, List.getElem?_map] at this
          rw [List.getElem?_eq_getElem (by rw [List.length_take]; omega)] at this
          simp at this
          rw [← this]
          simp [show i < len by omega, show i < zs.length by omega]
        subst hxe
        have hj : j = 0 := by
          have := (List.getElem?_eq_some_iff.1 hy).1
          simp at this
          exact this
        subst hj
        have h7 := hcell i (by omega)
        have h8 : (⟨b, off, none⟩ : Addr).add i = ⟨b, off + (i * 1 + 0), none⟩ := by
          unfold Addr.add
          split
          · rename_i h9; subst h9; simp
          · simp
        rw [h8] at h7
        exact h7
      · have hi : i < (ints (zs.take len)).length := (List.getElem?_eq_some_iff.1 hx).1
        rw [ints_length, List.length_take] at hi
        have hxe : x = [Go.AM.FV.lit (.int .i64 (zs.getD i 0))] := by
          have := hx
          simp only [ints, List.getElem?_map] at this
          rw [List.getElem?_eq_getElem (by rw [List.length_take]; omega)] at this
          simp at this
          rw [← this]
          simp [show i < zs.length by omega]
        subst hxe
        have hj : j = 0 := by
          have := (List.getElem?_eq_some_iff.1 hy).1
          simp at this
          exact this
        subst hj
        simp at hy
        subst hy
        exact .lit _ rfl

theorem law_one {k : FuncId} {l : List Int} {W : World} {v0 : Value} (hr : Go.AM.FRd W (fun _ => False) v0 (.sl (ints l))) (hd : Go.AM.Den Tryz.prog k [] [.fv (.sl (ints l))] [] (.bool true)) :
    Calls Tryz.prog k #[v0] W fun e W' => e = .returned (.bool true) ∧ Below W.heap.size W W' := by
  refine (hd.2 ⟨W, fun _ => False, fun _ => False, [], fun _ h => h.elim⟩ (fun _ => False) [] #[v0] ⟨rfl, fun id p o h _ => by simp at h, fun i j p q o r g h _ => by simp at h, fun id p o g h _ => by simp at h, fun b h => h.elim, fun b h => h.elim, Nat.le_refl _, Go.AM.Places.Le.refl _⟩ (fun b h => h.elim) ⟨rfl, fun i v x hv hx => ?_⟩).mono fun e W' ⟨v, X', ρ', he, hk, hh, hp, _, _⟩ => ?_
  · cases i with
    | zero => simp at hv hx; subst hv; subst hx; exact .fv _ _ hr
    | succ i => simp at hv
  · subst he
    have hv : v = .bool true := by
      cases hp with
      | fv _ _ h => cases h with
        | lit => rfl
    subst hv
    exact ⟨rfl, hk.os, hk.tape, hk.output, hk.size, fun k h => hk.block k h (fun h => h)⟩
end Go.Proofs.YtjjbkjgifdhlcaaGreat

namespace Go.Pl
open Go.AM

theorem LOk.bd {k : Nat} {rs : List Raw} (h : LOk k rs) (hk : 1 ≤ k) : ∀ r ∈ rs, Bd k r.q := fun r hr => (h.ok r hr).bd hk
end Go.Pl

namespace Go.Pl
open Go.AM

def cmpR : List Raw → List Raw → Int
  | r :: a, s :: b => if sgq (r.q - s.q) = 0 then cmpR a b else sgq (r.q - s.q)
  | _, _ => 0
theorem num_neg_iff {q : Rat} : q.num < 0 ↔ q < 0 := by
  have h := Rat.num_nonneg (q := q)
  have h2 := @Rat.not_le 0 q
  constructor
  · intro h3
    exact h2.1 (fun h4 => by have := h.2 h4; omega)
  · intro h3
    have h4 := h2.2 h3
    have h5 : ¬ (0 ≤ q.num) := fun h6 => h4 (h.1 h6)
    omega
end Go.Pl

namespace Go.Pl

abbrev Mn := List Int
abbrev Tm := List Int × Rat
def sumC (m : Mn) : List Tm → Rat
  | [] => 0
  | t :: ts => (if t.1 = m then t.2 else 0) + sumC m ts
theorem sumC_append (m : Mn) : ∀ a b : List Tm, sumC m (a ++ b) = sumC m a + sumC m b
  | [], b => by simp only [List.nil_append, sumC]; grind
  | t :: a, b => by simp only [List.cons_append, sumC, sumC_append m a b]; grind
theorem sumC_perm {m : Mn} {a b : List Tm} (h : a.Perm b) : sumC m a = sumC m b := by
  induction h with
  | nil => rfl
  | cons x _ ih => simp only [sumC, ih]
  | swap x y l => simp only [sumC]; grind
  | trans _ _ h1 h2 => exact h1.trans h2
theorem sumC_none {m : Mn} : ∀ {a : List Tm}, (∀ t ∈ a, t.1 ≠ m) → sumC m a = 0
  | [], _ => rfl
  | t :: a, h => by
    simp only [sumC, if_neg (h t (by simp)), sumC_none (fun t ht => h t (List.mem_cons_of_mem _ ht))]
    grind
theorem sumC_filter {m : Mn} : ∀ {a : List Tm}, sumC m (a.filter (fun t => decide (t.2 ≠ 0))) = sumC m a
  | [] => rfl
  | t :: a => by
    by_cases h : t.2 = 0
    · rw [List.filter_cons_of_neg (by simp [h]), sumC, sumC_filter, h]
      split <;> grind
    · rw [List.filter_cons_of_pos (by simp [h]), sumC, sumC, sumC_filter]

def gtM : Mn → Mn → Bool
  | x :: a, y :: b => if x = y then gtM a b else decide (x > y)
  | _, _ => false
theorem gtM_irr : ∀ a : Mn, gtM a a = false
  | [] => rfl
  | x :: a => by simp [gtM, gtM_irr a]
theorem gtM_trans : ∀ {a b c : Mn}, gtM a b = true → gtM b c = true → gtM a c = true
  | x :: a, y :: b, z :: c, h1, h2 => by
    unfold gtM at h1 h2 ⊢
    by_cases e1 : x = y
    · rw [if_pos e1] at h1
      by_cases e2 : y = z
      · rw [if_pos e2] at h2
        rw [if_pos (e1.trans e2)]
        exact gtM_trans h1 h2
      · rw [if_neg e2] at h2
        rw [if_neg (fun h => e2 (e1.symm.trans h)), e1]
        exact h2
    · rw [if_neg e1] at h1
      by_cases e2 : y = z
      · rw [← e2, if_neg e1]; exact h1
      · rw [if_neg e2] at h2
        have h3 := of_decide_eq_true h1
        have h4 := of_decide_eq_true h2
        rw [if_neg (by omega)]
        exact decide_eq_true (by omega)
  | [], _, _, h1, _ => by simp [gtM] at h1
  | _ :: _, [], _, h1, _ => by simp [gtM] at h1
  | _ :: _, _ :: _, [], _, h2 => by simp [gtM] at h2
theorem gtM_asymm {a b : Mn} (h : gtM a b = true) : gtM b a = false := by
  cases h2 : gtM b a with
  | false => rfl
  | true =>
    have := gtM_trans h h2
    rw [gtM_irr] at this
    cases this
theorem gtM_ne {a b : Mn} (h : gtM a b = true) : a ≠ b := fun he => by
  rw [he, gtM_irr] at h
  cases h
theorem gtM_total : ∀ {a b : Mn}, a.length = b.length → a ≠ b → gtM a b = true ∨ gtM b a = true
  | [], [], _, h => absurd rfl h
  | x :: a, y :: b, hl, h => by
    unfold gtM
    by_cases e : x = y
    · subst e
      rw [if_pos rfl, if_pos rfl]
      exact gtM_total (by simpa using hl) (fun he => h (by rw [he]))
    · rw [if_neg e, if_neg (fun h => e h.symm)]
      rcases Int.lt_trichotomy x y with h1 | h1 | h1
      · exact .inr (decide_eq_true h1)
      · exact absurd h1 e
      · exact .inl (decide_eq_true h1)
  | [], _ :: _, h, _ => by simp at h
  | _ :: _, [], h, _ => by simp at h
theorem gtM_not {a b : Mn} (hl : a.length = b.length) (h : gtM a b = false) : a = b ∨ gtM b a = true := by
  by_cases e : a = b
  · exact .inl e
  · rcases gtM_total hl e with h1 | h1
    · rw [h] at h1; cases h1
    · exact .inr h1

structure Canon (p : List Tm) : Prop where
  sorted : p.Pairwise (fun a b => gtM a.1 b.1 = true)
  nz : ∀ t ∈ p, t.2 ≠ 0
  len : ∀ t ∈ p, t.1.length = 8
theorem Canon.nil : Canon [] := ⟨.nil, by simp, by simp⟩
theorem Canon.tail {t : Tm} {p : List Tm} (h : Canon (t :: p)) : Canon p :=
  ⟨(List.pairwise_cons.1 h.sorted).2, fun u hu => h.nz u (List.mem_cons_of_mem _ hu), fun u hu => h.len u (List.mem_cons_of_mem _ hu)⟩
theorem Canon.head {t : Tm} {p : List Tm} (h : Canon (t :: p)) : ∀ u ∈ p, gtM t.1 u.1 = true := (List.pairwise_cons.1 h.sorted).1
theorem Canon.sum_head {t : Tm} {p : List Tm} (h : Canon (t :: p)) : sumC t.1 (t :: p) = t.2 := by
  rw [sumC, if_pos rfl, sumC_none (fun u hu he => gtM_ne (h.head u hu) he.symm)]
  grind
theorem Canon.sum_up {m : Mn} {t : Tm} {p : List Tm} (h : Canon (t :: p)) (hm : gtM m t.1 = true) : sumC m (t :: p) = 0 :=
  sumC_none (fun u hu he => by
    rcases List.mem_cons.1 hu with h1 | h1
    · exact gtM_ne hm (by rw [← he, h1])
    · exact gtM_ne (gtM_trans hm (h.head u h1)) he.symm)
theorem canon_uniq : ∀ {p q : List Tm}, Canon p → Canon q → (∀ m, sumC m p = sumC m q) → p = q
  | [], [], _, _, _ => rfl
  | [], y :: q, _, hq, h => absurd ((hq.sum_head.symm.trans (h y.1).symm)) (hq.nz y (by simp))
  | x :: p, [], hp, _, h => absurd ((hp.sum_head.symm.trans (h x.1))) (hp.nz x (by simp))
  | x :: p, y :: q, hp, hq, h => by
    have h1 : x.1 = y.1 := by
      by_cases e : x.1 = y.1
      · exact e
      · rcases gtM_total ((hp.len x (by simp)).trans (hq.len y (by simp)).symm) e with h2 | h2
        · have := h x.1
          rw [hp.sum_head, hq.sum_up h2] at this
          exact absurd this (hp.nz x (by simp))
        · have := h y.1
          rw [hq.sum_head, hp.sum_up h2] at this
          exact absurd this.symm (hq.nz y (by simp))
    have h2 : x.2 = y.2 := by
      have := h x.1
      rw [hp.sum_head, h1, hq.sum_head] at this
      exact this
    have hxy : x = y := Prod.ext h1 h2
    subst hxy
    rw [canon_uniq hp.tail hq.tail (fun m => by
      have := h m
      simp only [sumC] at this
      grind)]

def insT : List Tm → Tm → List Tm
  | [], t => if t.2 = 0 then [] else [t]
  | x :: p, t => if gtM x.1 t.1 = true then x :: insT p t else if x.1 = t.1 then (if t.2 + x.2 = 0 then p else (t.1, t.2 + x.2) :: p) else if t.2 = 0 then x :: p else t :: x :: p
theorem insT_sum (m : Mn) : ∀ (p : List Tm) (t : Tm), sumC m (insT p t) = sumC m p + (if t.1 = m then t.2 else 0)
  | [], t => by
    unfold insT
    split
    · rename_i h; simp only [sumC, h]; split <;> grind
    · simp only [sumC]; grind
  | x :: p, t => by
    unfold insT
    split
    · simp only [sumC, insT_sum m p t]; grind
    · split
      · rename_i h
        split
        · simp only [sumC, h]; split <;> grind
        · simp only [sumC, h]; split <;> grind
      · split
        · rename_i h; simp only [sumC, h]; grind
        · simp only [sumC]; grind
theorem insT_mem {p : List Tm} {t u : Tm} (h : u ∈ insT p t) : u ∈ p ∨ u.1 = t.1 := by
  induction p with
  | nil =>
    unfold insT at h
    split at h
    · simp at h
    · simp at h; exact .inr (by rw [h])
  | cons x p ih =>
    unfold insT at h
    split at h
    · rcases List.mem_cons.1 h with h | h
      · exact .inl (by rw [h]; simp)
      · rcases ih h with h | h
        · exact .inl (List.mem_cons_of_mem _ h)
        · exact .inr h
    · split at h
      · split at h
        · exact .inl (List.mem_cons_of_mem _ h)
        · rcases List.mem_cons.1 h with h | h
          · exact .inr (by rw [h])
          · exact .inl (List.mem_cons_of_mem _ h)
      · split at h
        · exact .inl h
        · rcases List.mem_cons.1 h with h | h
          · exact .inr (by rw [h])
          · exact .inl h
theorem insT_canon : ∀ {p : List Tm} {t : Tm}, Canon p → t.1.length = 8 → Canon (insT p t)
  | [], t, _, ht => by
    unfold insT
    split
    · exact Canon.nil
    · rename_i h
      exact ⟨List.pairwise_singleton _ _, by simpa using h, by simpa using ht⟩
  | x :: p, t, hp, ht => by
    have ih := insT_canon hp.tail ht
    have hd := hp.head
    unfold insT
    split
    · rename_i h
      refine ⟨List.pairwise_cons.2 ⟨fun u hu => ?_, ih.sorted⟩, ?_, ?_⟩
      · rcases insT_mem hu with h1 | h1
        · exact hd u h1
        · rw [h1]; exact h
      · intro u hu
        rcases List.mem_cons.1 hu with h1 | h1
        · exact hp.nz u (by rw [h1]; simp)
        · exact ih.nz u h1
      · intro u hu
        rcases List.mem_cons.1 hu with h1 | h1
        · exact hp.len u (by rw [h1]; simp)
        · exact ih.len u h1
    · rename_i hn
      split
      · rename_i he
        split
        · exact hp.tail
        · rename_i hz
          refine ⟨List.pairwise_cons.2 ⟨fun u hu => ?_, hp.tail.sorted⟩, ?_, ?_⟩
          · rw [← he]; exact hd u hu
          · intro u hu
            rcases List.mem_cons.1 hu with h1 | h1
            · rw [h1]; exact hz
            · exact hp.tail.nz u h1
          · intro u hu
            rcases List.mem_cons.1 hu with h1 | h1
            · rw [h1]; exact ht
            · exact hp.tail.len u h1
      · rename_i he
        split
        · exact hp
        · rename_i hz
          have hg : gtM t.1 x.1 = true := by
            rcases gtM_not ((hp.len x (by simp)).trans ht.symm) (by simpa using hn) with h1 | h1
            · exact absurd h1 he
            · exact h1
          refine ⟨List.pairwise_cons.2 ⟨fun u hu => ?_, hp.sorted⟩, ?_, ?_⟩
          · rcases List.mem_cons.1 hu with h1 | h1
            · rw [h1]; exact hg
            · exact gtM_trans hg (hd u h1)
          · intro u hu
            rcases List.mem_cons.1 hu with h1 | h1
            · rw [h1]; exact hz
            · exact hp.nz u h1
          · intro u hu
            rcases List.mem_cons.1 hu with h1 | h1
            · rw [h1]; exact ht
            · exact hp.len u h1
def nf (ts : List Tm) : List Tm := ts.foldl insT []
def addT (p ts : List Tm) : List Tm := ts.foldl insT p
theorem addT_sum (m : Mn) : ∀ (ts p : List Tm), sumC m (addT p ts) = sumC m p + sumC m ts
  | [], p => by simp only [addT, List.foldl_nil, sumC]; grind
  | t :: ts, p => by
    have := addT_sum m ts (insT p t)
    unfold addT at this ⊢
    rw [List.foldl_cons, this, insT_sum]
    simp only [sumC]; grind
def Len8 (ts : List Tm) : Prop := ∀ t ∈ ts, t.1.length = 8
theorem addT_canon : ∀ {ts p : List Tm}, Canon p → Len8 ts → Canon (addT p ts)
  | [], p, h, _ => h
  | t :: ts, p, h, hl => addT_canon (ts := ts) (p := insT p t) (insT_canon h (hl t (by simp))) (fun u hu => hl u (List.mem_cons_of_mem _ hu))
theorem nf_sum (m : Mn) (ts : List Tm) : sumC m (nf ts) = sumC m ts := by
  have := addT_sum m ts []
  rw [sumC] at this
  unfold nf
  unfold addT at this
  rw [this]; grind
theorem nf_canon {ts : List Tm} (h : Len8 ts) : Canon (nf ts) := addT_canon Canon.nil h
theorem nf_of {p ts : List Tm} (hp : Canon p) (hl : Len8 ts) (h : ∀ m, sumC m p = sumC m ts) : p = nf ts :=
  canon_uniq hp (nf_canon hl) (fun m => (h m).trans (nf_sum m ts).symm)
theorem nf_congr {a b : List Tm} (ha : Len8 a) (hb : Len8 b) (h : ∀ m, sumC m a = sumC m b) : nf a = nf b :=
  nf_of (nf_canon ha) hb (fun m => (nf_sum m a).trans (h m))
theorem insT_lt : ∀ {p : List Tm} {t : Tm} {k : Nat}, (∀ i (h : i < p.length), i < k → gtM (p[i]'h).1 t.1 = true) → k ≤ p.length → insT p t = p.take k ++ insT (p.drop k) t
  | p, t, 0, _, _ => by simp
  | [], t, k + 1, _, hk => by simp at hk
  | x :: p, t, k + 1, h, hk => by
    have h0 := h 0 (by simp) (by omega)
    rw [List.getElem_cons_zero] at h0
    have ih := insT_lt (p := p) (t := t) (k := k) (fun i hi hik => h (i + 1) (by simpa using hi) (by omega)) (by simpa using hk)
    rw [List.take_succ_cons, List.drop_succ_cons, List.cons_append, ← ih]
    rw [insT, if_pos h0]
end Go.Pl

namespace Go.Pl

def accAdd : List Tm → Mn → Rat → List Tm
  | [], m, q => [(m, q)]
  | t :: ts, m, q => if t.1 = m then (m, t.2 + q) :: ts else t :: accAdd ts m q
def accF (a : List Tm) (m : Mn) : Option Rat := (a.find? (fun t => decide (t.1 = m))).map (·.2)
def accL (ts : List Tm) : List Tm := ts.foldl (fun a t => accAdd a t.1 t.2) []
theorem accL_snoc (ts : List Tm) (t : Tm) : accL (ts ++ [t]) = accAdd (accL ts) t.1 t.2 := by simp [accL, List.foldl_append]
theorem accAdd_sum (n : Mn) : ∀ (a : List Tm) (m : Mn) (q : Rat), sumC n (accAdd a m q) = sumC n a + (if m = n then q else 0)
  | [], m, q => by simp only [accAdd, sumC]; grind
  | t :: ts, m, q => by
    unfold accAdd
    split
    · rename_i h
      simp only [sumC, h]
      split <;> grind
    · simp only [sumC, accAdd_sum n ts m q]; grind
theorem accL_sum (n : Mn) (ts : List Tm) : sumC n (accL ts) = sumC n ts := by
  have key : ∀ (ts a : List Tm), sumC n (ts.foldl (fun a t => accAdd a t.1 t.2) a) = sumC n a + sumC n ts := by
    intro ts
    induction ts with
    | nil => intro a; simp only [List.foldl_nil, sumC]; grind
    | cons t ts ih =>
      intro a
      rw [List.foldl_cons, ih, accAdd_sum]
      simp only [sumC]; grind
  unfold accL
  rw [key, sumC]; grind
theorem accAdd_keys (a : List Tm) (m : Mn) (q : Rat) : (accAdd a m q).map (·.1) = if m ∈ a.map (·.1) then a.map (·.1) else a.map (·.1) ++ [m] := by
  induction a with
  | nil => simp [accAdd]
  | cons t ts ih =>
    unfold accAdd
    split
    · rename_i h
      simp [h]
    · rename_i h
      rw [List.map_cons, ih, List.map_cons]
      by_cases h2 : m ∈ ts.map (·.1)
      · rw [if_pos h2, if_pos (List.mem_cons_of_mem _ h2)]
      · rw [if_neg h2, if_neg (by
          intro h3
          rcases List.mem_cons.1 h3 with h3 | h3
          · exact h h3.symm
          · exact h2 h3)]
        rfl
theorem accL_nodup (ts : List Tm) : ((accL ts).map (·.1)).Nodup := by
  have key : ∀ (ts a : List Tm), (a.map (·.1)).Nodup → ((ts.foldl (fun a t => accAdd a t.1 t.2) a).map (·.1)).Nodup := by
    intro ts
    induction ts with
    | nil => intro a h; exact h
    | cons t ts ih =>
      intro a h
      refine ih _ ?_
      rw [accAdd_keys]
      split
      · exact h
      · rename_i hm
        rw [List.nodup_append]
        refine ⟨h, by simp, ?_⟩
        intro x hx y hy he
        simp at hy
        subst hy
        exact hm (he ▸ hx)
  exact key ts [] (by simp)
theorem accL_key {ts : List Tm} {m : Mn} (h : m ∈ (accL ts).map (·.1)) : m ∈ ts.map (·.1) := by
  have key : ∀ (ts a : List Tm), m ∈ (ts.foldl (fun a t => accAdd a t.1 t.2) a).map (·.1) → m ∈ a.map (·.1) ∨ m ∈ ts.map (·.1) := by
    intro ts
    induction ts with
    | nil => intro a h; exact .inl h
    | cons t ts ih =>
      intro a h
      rw [List.foldl_cons] at h
      rcases ih _ h with h | h
      · rw [accAdd_keys] at h
        split at h
        · exact .inl h
        · rcases List.mem_append.1 h with h | h
          · exact .inl h
          · simp at h; exact .inr (by simp [h])
      · exact .inr (by simp at h ⊢; exact .inr h)
  rcases key ts [] h with h | h
  · simp at h
  · exact h
theorem accL_len (ts : List Tm) : (accL ts).length ≤ ts.length := by
  have key : ∀ (ts a : List Tm), (ts.foldl (fun a t => accAdd a t.1 t.2) a).length ≤ a.length + ts.length := by
    intro ts
    induction ts with
    | nil => intro a; simp
    | cons t ts ih =>
      intro a
      rw [List.foldl_cons]
      have h := ih (accAdd a t.1 t.2)
      have h2 : (accAdd a t.1 t.2).length ≤ a.length + 1 := by
        have := congrArg List.length (accAdd_keys a t.1 t.2)
        rw [List.length_map] at this
        rw [this]
        split <;> simp
      rw [List.length_cons]
      omega
  have := key ts []
  simpa [accL] using this
theorem nodup_sorted : ∀ {p : List Tm}, p.Pairwise (fun a b => gtM b.1 a.1 = false) → (p.map (·.1)).Nodup → (∀ t ∈ p, t.1.length = 8) → p.Pairwise (fun a b => gtM a.1 b.1 = true)
  | [], _, _, _ => .nil
  | t :: p, h, hn, hl => by
    rw [List.pairwise_cons] at h ⊢
    rw [List.map_cons, List.nodup_cons] at hn
    refine ⟨fun u hu => ?_, nodup_sorted h.2 hn.2 (fun u hu => hl u (List.mem_cons_of_mem _ hu))⟩
    have h1 := h.1 u hu
    rcases gtM_not ((hl u (List.mem_cons_of_mem _ hu)).trans (hl t (by simp)).symm) h1 with h2 | h2
    · exact absurd (List.mem_map.2 ⟨u, hu, h2⟩) hn.1
    · exact h2
theorem sort_nf {ts p : List Tm} (hl : Len8 ts) (hp : p.Perm ((accL ts).filter (fun t => decide (t.2 ≠ 0)))) (hs : p.Pairwise (fun a b => gtM b.1 a.1 = false)) : p = nf ts := by
  have hmem : ∀ t ∈ p, t ∈ accL ts ∧ t.2 ≠ 0 := fun t ht => by
    have := hp.mem_iff.1 ht
    rw [List.mem_filter] at this
    exact ⟨this.1, by simpa using this.2⟩
  have hlen : ∀ t ∈ p, t.1.length = 8 := fun t ht => by
    have := accL_key (List.mem_map.2 ⟨t, (hmem t ht).1, rfl⟩)
    obtain ⟨u, hu, he⟩ := List.mem_map.1 this
    rw [← he]; exact hl u hu
  have hnd : (p.map (·.1)).Nodup := by
    have h1 : (p.map (·.1)).Perm (((accL ts).filter (fun t => decide (t.2 ≠ 0))).map (·.1)) := hp.map _
    rw [h1.nodup_iff]
    exact List.Nodup.sublist ((List.filter_sublist).map _) (accL_nodup ts)
  refine nf_of ⟨nodup_sorted hs hnd hlen, fun t ht => (hmem t ht).2, hlen⟩ hl (fun m => ?_)
  rw [sumC_perm hp, sumC_filter, accL_sum]

def monoV : Mn → List Rat → Rat
  | [], _ => 1
  | e :: m, [] => 0 ^ e.toNat * monoV m []
  | e :: m, x :: xs => x ^ e.toNat * monoV m xs
def valP (x : List Rat) : List Tm → Rat
  | [] => 0
  | t :: ts => t.2 * monoV t.1 x + valP x ts
theorem valP_append (x : List Rat) : ∀ a b : List Tm, valP x (a ++ b) = valP x a + valP x b
  | [], b => by simp only [List.nil_append, valP]; grind
  | t :: a, b => by simp only [List.cons_append, valP, valP_append x a b]; grind
theorem valP_insT (x : List Rat) : ∀ (p : List Tm) (t : Tm), valP x (insT p t) = valP x p + t.2 * monoV t.1 x
  | [], t => by
    unfold insT
    split
    · rename_i h; simp only [valP, h]; grind
    · simp only [valP]; grind
  | u :: p, t => by
    unfold insT
    split
    · simp only [valP, valP_insT x p t]; grind
    · split
      · rename_i h
        split
        · rename_i h2
          simp only [valP, h]
          have : u.2 = - t.2 := by grind
          rw [this]; grind
        · simp only [valP, h]; grind
      · split
        · rename_i h; simp only [valP, h]; grind
        · simp only [valP]; grind
theorem valP_addT (x : List Rat) : ∀ (ts p : List Tm), valP x (addT p ts) = valP x p + valP x ts
  | [], p => by simp only [addT, List.foldl_nil, valP]; grind
  | t :: ts, p => by
    have := valP_addT x ts (insT p t)
    unfold addT at this ⊢
    rw [List.foldl_cons, this, valP_insT]
    simp only [valP]; grind
theorem valP_nf (x : List Rat) (ts : List Tm) : valP x (nf ts) = valP x ts := by
  have := valP_addT x ts []
  rw [valP] at this
  unfold nf
  unfold addT at this
  rw [this]; grind
end Go.Pl

namespace Go.Pl

def DM (D : Nat) : List Tm → Nat → Prop
  | [], _ => True
  | t :: ts, M => ∃ z : Int, ∃ N : Nat, t.2 = mkRat z D ∧ z.natAbs + N ≤ M ∧ DM D ts N
theorem DM.mono {D : Nat} : ∀ {ts : List Tm} {M N : Nat}, DM D ts M → M ≤ N → DM D ts N
  | [], _, _, _, _ => trivial
  | t :: ts, M, N, ⟨z, K, h1, h2, h3⟩, h => ⟨z, K, h1, by omega, h3⟩
theorem DM.append {D : Nat} : ∀ {a b : List Tm} {M N : Nat}, DM D a M → DM D b N → DM D (a ++ b) (M + N)
  | [], b, M, N, _, h => h.mono (by omega)
  | t :: a, b, M, N, ⟨z, K, h1, h2, h3⟩, h => ⟨z, K + N, h1, by omega, h3.append h⟩
theorem DM.tail {D : Nat} {t : Tm} {ts : List Tm} {M : Nat} (h : DM D (t :: ts) M) : DM D ts M := by
  obtain ⟨z, N, h1, h2, h3⟩ := h
  exact h3.mono (by omega)
theorem DM.mem {D : Nat} : ∀ {ts : List Tm} {M : Nat} {t : Tm}, DM D ts M → t ∈ ts → ∃ z : Int, t.2 = mkRat z D ∧ z.natAbs ≤ M
  | u :: ts, M, t, ⟨z, K, h1, h2, h3⟩, ht => by
    rcases List.mem_cons.1 ht with rfl | ht
    · exact ⟨z, h1, by omega⟩
    · obtain ⟨y, h4, h5⟩ := h3.mem ht
      exact ⟨y, h4, by omega⟩
  | [], _, _, _, ht => by simp at ht
theorem DM.one {D : Nat} {t : Tm} {z : Int} (h : t.2 = mkRat z D) : DM D [t] z.natAbs := ⟨z, 0, h, by omega, trivial⟩
theorem mkRat_lift {z : Int} {D E : Nat} (hE : E ≠ 0) : mkRat z D = mkRat (z * E) (D * E) := by
  rw [Rat.mkRat_mul_right hE]
theorem DM.lift {D E : Nat} (hE : E ≠ 0) : ∀ {ts : List Tm} {M : Nat}, DM D ts M → DM (D * E) ts (M * E)
  | [], _, _ => trivial
  | t :: ts, M, ⟨z, K, h1, h2, h3⟩ => ⟨z * E, K * E, by rw [h1, mkRat_lift hE], by
      rw [Int.natAbs_mul, Int.natAbs_natCast, ← Nat.add_mul]
      exact Nat.mul_le_mul_right _ h2, h3.lift hE⟩
theorem bd_mkRat {z : Int} {D k : Nat} (hk : 1 ≤ k) (hz : z.natAbs < B ^ k) (hD : D < B ^ k) : Bd k (mkRat z D) := by
  have : mkRat z D = mkq (decide (z < 0)) z.natAbs D := by
    unfold mkq sg
    congr 1
    by_cases h : z < 0
    · simp only [h, decide_true, if_true]; omega
    · simp only [h, decide_false]; simp; omega
  rw [this]
  exact Bd.mk hk hz hD
theorem DM.bd {D M k : Nat} {ts : List Tm} (h : DM D ts M) (hk : 1 ≤ k) (hD : D < B ^ k) (hM : M < B ^ k) : ∀ t ∈ ts, Bd k t.2 := fun t ht => by
  obtain ⟨z, h1, h2⟩ := h.mem ht
  rw [h1]
  exact bd_mkRat hk (by omega) hD
theorem mkRat_sum {z w : Int} {D : Nat} (hD : D ≠ 0) : mkRat z D + mkRat w D = mkRat (z + w) D := mkRat_add z w hD
theorem DM.insT {D : Nat} (hD : D ≠ 0) : ∀ {p : List Tm} {t : Tm} {M : Nat} {z : Int}, DM D p M → t.2 = mkRat z D → DM D (insT p t) (M + z.natAbs)
  | [], t, M, z, _, ht => by
    unfold Go.Pl.insT
    split
    · trivial
    · exact (DM.one ht).mono (by omega)
  | x :: p, t, M, z, ⟨y, K, h1, h2, h3⟩, ht => by
    have ih := DM.insT hD h3 ht
    unfold Go.Pl.insT
    split
    · exact ⟨y, K + z.natAbs, h1, by omega, ih⟩
    · split
      · split
        · exact h3.mono (by omega)
        · refine ⟨z + y, K, ?_, by omega, h3⟩
          show t.2 + x.2 = _
          rw [ht, h1, mkRat_sum hD]
      · split
        · exact ⟨y, K, h1, by omega, h3⟩
        · exact ⟨z, K + y.natAbs, ht, by omega, ⟨y, K, h1, by omega, h3⟩⟩
theorem DM.addT {D : Nat} (hD : D ≠ 0) : ∀ {ts p : List Tm} {M N : Nat}, DM D p M → DM D ts N → DM D (addT p ts) (M + N)
  | [], p, M, N, hp, _ => hp.mono (by omega)
  | t :: ts, p, M, N, hp, ⟨z, K, h1, h2, h3⟩ => by
    have := DM.addT hD (DM.insT hD hp h1) h3
    unfold Go.Pl.addT at this ⊢
    rw [List.foldl_cons]
    exact this.mono (by omega)
theorem DM.nf {D : Nat} (hD : D ≠ 0) {ts : List Tm} {M : Nat} (h : DM D ts M) : DM D (nf ts) M := (DM.addT hD (show DM D [] 0 from trivial) h).mono (by omega)
theorem DM.accAdd {D : Nat} (hD : D ≠ 0) : ∀ {a : List Tm} {m : Mn} {q : Rat} {M : Nat} {z : Int}, DM D a M → q = mkRat z D → DM D (accAdd a m q) (M + z.natAbs)
  | [], m, q, M, z, _, hq => (DM.one (t := (m, q)) hq).mono (by omega)
  | t :: ts, m, q, M, z, ⟨y, K, h1, h2, h3⟩, hq => by
    unfold Go.Pl.accAdd
    split
    · refine ⟨y + z, K, ?_, by omega, h3⟩
      show t.2 + q = _
      rw [hq, h1, mkRat_sum hD]
    · exact ⟨y, K + z.natAbs, h1, by omega, DM.accAdd hD h3 hq⟩
theorem DM.accL {D : Nat} (hD : D ≠ 0) {ts : List Tm} {M : Nat} (h : DM D ts M) : DM D (accL ts) M := by
  have key : ∀ (ts a : List Tm) (M N : Nat), DM D a M → DM D ts N → DM D (ts.foldl (fun a t => Go.Pl.accAdd a t.1 t.2) a) (M + N) := by
    intro ts
    induction ts with
    | nil => intro a M N ha _; exact ha.mono (by omega)
    | cons t ts ih =>
      rintro a M N ha ⟨z, K, h1, h2, h3⟩
      rw [List.foldl_cons]
      exact (ih _ _ _ (DM.accAdd hD ha h1) h3).mono (by omega)
  exact (key ts [] 0 M trivial h).mono (by omega)
theorem DM.take {D : Nat} : ∀ {ts : List Tm} {M : Nat} (i : Nat), DM D ts M → DM D (ts.take i) M
  | [], _, _, _ => by simp [DM]
  | t :: ts, M, 0, _ => trivial
  | t :: ts, M, i + 1, ⟨z, K, h1, h2, h3⟩ => ⟨z, K, h1, h2, h3.take i⟩
def PB (k : Nat) (ts : List Tm) : Prop := ∃ D M, 0 < D ∧ D < B ^ k ∧ M < B ^ k ∧ DM D ts M
theorem PB.mono {j k : Nat} {ts : List Tm} (h : PB j ts) (hk : j ≤ k) : PB k ts := by
  obtain ⟨D, M, h1, h2, h3, h4⟩ := h
  exact ⟨D, M, h1, Nat.lt_of_lt_of_le h2 (Nat.pow_le_pow_right (by decide) hk), Nat.lt_of_lt_of_le h3 (Nat.pow_le_pow_right (by decide) hk), h4⟩
theorem PB.bd {k : Nat} {ts : List Tm} (h : PB k ts) (hk : 1 ≤ k) : ∀ t ∈ ts, Bd k t.2 := by
  obtain ⟨D, M, h1, h2, h3, h4⟩ := h
  exact h4.bd hk h2 h3
theorem PB.nf {k : Nat} {ts : List Tm} (h : PB k ts) : PB k (nf ts) := by
  obtain ⟨D, M, h1, h2, h3, h4⟩ := h
  exact ⟨D, M, h1, h2, h3, h4.nf (by omega)⟩
theorem PB.accL {k : Nat} {ts : List Tm} (h : PB k ts) : PB k (accL ts) := by
  obtain ⟨D, M, h1, h2, h3, h4⟩ := h
  exact ⟨D, M, h1, h2, h3, h4.accL (by omega)⟩
theorem PB.take {k : Nat} {ts : List Tm} (h : PB k ts) (i : Nat) : PB k (ts.take i) := by
  obtain ⟨D, M, h1, h2, h3, h4⟩ := h
  exact ⟨D, M, h1, h2, h3, h4.take i⟩
theorem PB.append {j k : Nat} {a b : List Tm} (ha : PB j a) (hb : PB k b) : PB (j + k + 1) (a ++ b) := by
  obtain ⟨D, M, h1, h2, h3, h4⟩ := ha
  obtain ⟨E, N, g1, g2, g3, g4⟩ := hb
  refine ⟨D * E, M * E + N * D, Nat.mul_pos h1 g1, Nat.lt_of_lt_of_le (natAbs_pow_lt h2 g2) (Nat.pow_le_pow_right (by decide) (by omega)), ?_, ?_⟩
  · exact add_pow_lt (natAbs_pow_lt h3 g2) (by rw [Nat.add_comm j k]; exact natAbs_pow_lt g3 h2)
  · refine (h4.lift (by omega)).append ?_
    rw [Nat.mul_comm D E]
    exact g4.lift (by omega)
theorem PB.nil {k : Nat} (hk : 1 ≤ k) : PB k [] := ⟨1, 0, by decide, Nat.lt_of_lt_of_le (show 1 < B ^ 1 by decide) (Nat.pow_le_pow_right (by decide) hk), Nat.pow_pos (by decide), trivial⟩
theorem PB.one {k : Nat} {t : Tm} (h : Bd k t.2) : PB k [t] :=
  ⟨t.2.den, t.2.num.natAbs, t.2.den_pos, h.2, h.1, DM.one (Rat.mkRat_self _).symm⟩
theorem PB.list {k : Nat} (hk : 1 ≤ k) : ∀ {ts : List Tm}, (∀ t ∈ ts, Bd k t.2) → PB (ts.length * (k + 1) + 1) ts
  | [], _ => (PB.nil (k := 1) (Nat.le_refl _)).mono (by simp)
  | t :: ts, h => by
    have h1 := PB.one (h t (by simp))
    have h2 := PB.list hk (fun u hu => h u (List.mem_cons_of_mem _ hu))
    refine (h1.append h2).mono ?_
    rw [List.length_cons, Nat.add_mul]
    omega
end Go.Pl

namespace Go.Pl

def Eqv (a b : List Tm) : Prop := ∀ m, sumC m a = sumC m b
theorem Eqv.refl (a : List Tm) : Eqv a a := fun _ => rfl
theorem Eqv.symm {a b : List Tm} (h : Eqv a b) : Eqv b a := fun m => (h m).symm
theorem Eqv.trans {a b c : List Tm} (h : Eqv a b) (k : Eqv b c) : Eqv a c := fun m => (h m).trans (k m)
theorem Eqv.nf (a : List Tm) : Eqv (nf a) a := fun m => nf_sum m a
theorem Eqv.app {a b c d : List Tm} (h : Eqv a b) (k : Eqv c d) : Eqv (a ++ c) (b ++ d) := fun m => by rw [sumC_append, sumC_append, h m, k m]
theorem Len8.app {a b : List Tm} (ha : Len8 a) (hb : Len8 b) : Len8 (a ++ b) := fun t ht => by
  rcases List.mem_append.1 ht with h | h
  · exact ha t h
  · exact hb t h
theorem Len8.nil : Len8 [] := fun t ht => by simp at ht
theorem Len8.nf {a : List Tm} (h : Len8 a) : Len8 (nf a) := (nf_canon h).len

end Go.Pl

namespace Go.Pl

theorem insT_len : ∀ (p : List Tm) (t : Tm), (insT p t).length ≤ p.length + 1
  | [], t => by unfold insT; split <;> simp
  | x :: p, t => by
    have ih := insT_len p t
    unfold insT
    split
    · simp only [List.length_cons]; omega
    · split
      · split <;> simp <;> omega
      · split <;> simp
theorem addT_len : ∀ (ts p : List Tm), (addT p ts).length ≤ p.length + ts.length
  | [], p => by simp [addT]
  | t :: ts, p => by
    have h1 := addT_len ts (insT p t)
    have h2 := insT_len p t
    unfold addT at h1 ⊢
    rw [List.foldl_cons, List.length_cons]
    omega
theorem nf_len (ts : List Tm) : (nf ts).length ≤ ts.length := by
  have := addT_len ts []
  unfold nf
  unfold addT at this
  simpa using this
theorem insT_keys {p : List Tm} {t u : Tm} (h : u ∈ insT p t) : u.1 = t.1 ∨ ∃ x ∈ p, x.1 = u.1 := by
  rcases insT_mem h with h | h
  · exact .inr ⟨u, h, rfl⟩
  · exact .inl h
theorem addT_keys : ∀ {ts p : List Tm} {u : Tm}, u ∈ addT p ts → ∃ x, (x ∈ p ∨ x ∈ ts) ∧ x.1 = u.1
  | [], p, u, h => ⟨u, .inl h, rfl⟩
  | t :: ts, p, u, h => by
    obtain ⟨x, hx, he⟩ := addT_keys (ts := ts) (p := insT p t) (u := u) (by unfold addT at h ⊢; simpa using h)
    rcases hx with hx | hx
    · rcases insT_keys hx with h1 | ⟨y, hy, h1⟩
      · exact ⟨t, .inr (by simp), by rw [← he, h1]⟩
      · exact ⟨y, .inl hy, by rw [h1, he]⟩
    · exact ⟨x, .inr (List.mem_cons_of_mem _ hx), he⟩
theorem nf_keys {ts : List Tm} {u : Tm} (h : u ∈ nf ts) : ∃ x ∈ ts, x.1 = u.1 := by
  obtain ⟨x, hx, he⟩ := addT_keys (ts := ts) (p := []) (u := u) h
  rcases hx with hx | hx
  · simp at hx
  · exact ⟨x, hx, he⟩

def partT (v : Nat) (d : Int) (p : List Tm) : List Tm := (p.filter (fun t => decide (t.1.getD v 0 = d))).map (fun t => (t.1.set v 0, t.2))
theorem PB.sub {k : Nat} {p q : List Tm} (h : PB k p) (hq : q.Sublist p) : PB k q := by
  obtain ⟨D, M, h1, h2, h3, h4⟩ := h
  refine ⟨D, M, h1, h2, h3, ?_⟩
  clear h3
  induction hq generalizing M with
  | slnil => trivial
  | cons x _ ih => exact ih M h4.tail
  | cons_cons x _ ih =>
    obtain ⟨z, N, g1, g2, g3⟩ := h4
    exact ⟨z, N, g1, g2, ih N g3⟩
theorem DM.keys {D : Nat} {f : Tm → Mn} : ∀ {p : List Tm} {M : Nat}, DM D p M → DM D (p.map (fun t => (f t, t.2))) M
  | [], _, _ => trivial
  | _ :: _, _, ⟨z, N, g1, g2, g3⟩ => ⟨z, N, g1, g2, g3.keys⟩
theorem PB.keys {k : Nat} {p : List Tm} (f : Tm → Mn) (h : PB k p) : PB k (p.map (fun t => (f t, t.2))) := by
  obtain ⟨D, M, h1, h2, h3, h4⟩ := h
  exact ⟨D, M, h1, h2, h3, h4.keys⟩
theorem PB.part {k v : Nat} {d : Int} {p : List Tm} (h : PB k p) : PB k (partT v d p) := (h.sub List.filter_sublist).keys (fun t => t.1.set v 0)

end Go.Pl

namespace Go.Pl

section
variable {α : Type} (d : α)
def swapG (ls : List α) (j : Nat) : List α := (ls.set j (ls.getD (j - 1) d)).set (j - 1) (ls.getD j d)
theorem swapG_getD {ls : List α} {j : Nat} (h0 : 0 < j) (hj : j < ls.length) (q : Nat) : (swapG d ls j).getD q d = if q = j then ls.getD (j - 1) d else if q = j - 1 then ls.getD j d else ls.getD q d := by
  unfold swapG
  rw [List.getD_eq_getElem?_getD, List.getElem?_set, List.getElem?_set]
  by_cases h1 : q = j
  · subst h1
    rw [if_neg (by omega), if_pos rfl, if_pos hj, if_pos rfl]
    simp
  · rw [if_neg h1]
    by_cases h2 : q = j - 1
    · rw [if_pos h2.symm, if_pos (by simp; omega), if_pos h2]
      simp
    · rw [if_neg (fun h => h2 h.symm), if_neg (fun h => h1 h.symm), if_neg h2, List.getD_eq_getElem?_getD]
theorem swapG_perm {ls : List α} {j : Nat} (h0 : 0 < j) (hj : j < ls.length) : (swapG d ls j).Perm ls := by
  obtain ⟨i, rfl⟩ : ∃ i, j = i + 1 := ⟨j - 1, by omega⟩
  have h1 : ls = ls.take i ++ (ls[i] :: ls[i + 1] :: ls.drop (i + 2)) := by
    rw [← List.drop_eq_getElem_cons (by omega), ← List.drop_eq_getElem_cons (by omega), List.take_append_drop]
  have hl : (ls.take i).length = i := by rw [List.length_take]; omega
  have h2 : swapG d ls (i + 1) = ls.take i ++ (ls[i + 1] :: ls[i] :: ls.drop (i + 2)) := by
    unfold swapG
    rw [Nat.add_sub_cancel, List.getD_eq_getElem?_getD, List.getD_eq_getElem?_getD, List.getElem?_eq_getElem (by omega), List.getElem?_eq_getElem hj]
    simp only [Option.getD_some]
    generalize ls[i] = x at *
    generalize ls[i + 1] = y at *
    generalize List.drop (i + 2) ls = T at *
    generalize List.take i ls = A at *
    rw [h1, List.set_append_right _ _ (by omega), List.set_append_right _ _ (by omega)]
    rw [hl, show i + 1 - i = 1 by omega, Nat.sub_self]
    simp
  rw [h2]
  conv => rhs; rw [h1]
  exact List.Perm.append_left _ (List.Perm.swap _ _ _)
variable (lt : α → α → Prop)
def SrtG (ls : List α) (i j : Nat) : Prop := ∀ p q, p < q → q ≤ i → q ≠ j → ¬ lt (ls.getD q d) (ls.getD p d)
theorem srtG_swap (asym : ∀ x y, lt x y → ¬ lt y x) {ls : List α} {i j : Nat} (hj0 : 0 < j) (hji : j ≤ i) (hi : i < ls.length) (h : SrtG d lt ls i j) (hc : lt (ls.getD j d) (ls.getD (j - 1) d)) : SrtG d lt (swapG d ls j) i (j - 1) := by
  intro p q hpq hqi hq
  rw [swapG_getD d hj0 (by omega), swapG_getD d hj0 (by omega)]
  by_cases h1 : q = j
  · rw [if_pos h1, if_neg (by omega)]
    by_cases h2 : p = j - 1
    · rw [if_pos h2]; exact asym _ _ hc
    · rw [if_neg h2]; exact h p (j - 1) (by omega) (by omega) (by omega)
  · rw [if_neg h1, if_neg hq]
    by_cases h2 : p = j
    · rw [if_pos h2]; exact h (j - 1) q (by omega) hqi h1
    · rw [if_neg h2]
      by_cases h3 : p = j - 1
      · rw [if_pos h3]; exact h j q (by omega) hqi h1
      · rw [if_neg h3]; exact h p q hpq hqi h1
theorem srtG_done {ls : List α} (hnt : ∀ x ∈ ls, ∀ y ∈ ls, ∀ z ∈ ls, ¬ lt x y → ¬ lt y z → ¬ lt x z) {i j : Nat} (hi : i < ls.length) (hji : j ≤ i) (h : SrtG d lt ls i j) (hc : j = 0 ∨ ¬ lt (ls.getD j d) (ls.getD (j - 1) d)) :
    ∀ p q, p < q → q ≤ i → ¬ lt (ls.getD q d) (ls.getD p d) := by
  intro p q hpq hqi
  by_cases h1 : q = j
  · subst h1
    have hmem : ∀ k, k < ls.length → ls.getD k d ∈ ls := fun k hk => by
      rw [List.getD_eq_getElem?_getD, List.getElem?_eq_getElem hk]; simp
    rcases hc with hc | hc
    · omega
    · by_cases h2 : p = q - 1
      · rw [h2]; exact hc
      · exact hnt _ (hmem q (by omega)) _ (hmem (q - 1) (by omega)) _ (hmem p (by omega)) hc (h p (q - 1) (by omega) (by omega) (by omega))
  · exact h p q hpq hqi h1
theorem pairwise_getD {ls : List α} (h : ∀ p q, p < q → q < ls.length → ¬ lt (ls.getD q d) (ls.getD p d)) : ls.Pairwise (fun a b => ¬ lt b a) := by
  rw [List.pairwise_iff_getElem]
  intro i j hi hj hij
  have := h i j hij hj
  rw [List.getD_eq_getElem?_getD, List.getD_eq_getElem?_getD, List.getElem?_eq_getElem hi, List.getElem?_eq_getElem hj] at this
  exact this
end

def cmpM : Mn → Mn → Int
  | x :: a, y :: b => if x < y then -1 else if y < x then 1 else cmpM a b
  | _, _ => 0
theorem cmpM_gt : ∀ {a b : Mn}, 0 < cmpM a b ↔ gtM a b = true
  | x :: a, y :: b => by
    have ih := cmpM_gt (a := a) (b := b)
    unfold cmpM gtM
    rcases Int.lt_trichotomy x y with h | h | h
    · rw [if_pos h, if_neg (by omega)]
      simp
      omega
    · subst h
      rw [if_neg (by omega), if_neg (by omega), if_pos rfl]
      exact ih
    · rw [if_neg (by omega), if_pos h, if_neg (by omega)]
      simp
      omega
  | [], b => by simp [cmpM, gtM]
  | _ :: _, [] => by simp [cmpM, gtM]
theorem cmpM_range : ∀ a b : Mn, cmpM a b = -1 ∨ cmpM a b = 0 ∨ cmpM a b = 1
  | x :: a, y :: b => by
    unfold cmpM
    split
    · exact .inl rfl
    · split
      · exact .inr (.inr rfl)
      · exact cmpM_range a b
  | [], b => .inr (.inl (by simp [cmpM]))
  | _ :: _, [] => .inr (.inl (by simp [cmpM]))
theorem cmpM_drop {a b : Mn} {i : Nat} (ha : i < a.length) (hb : i < b.length) : cmpM (a.drop i) (b.drop i) = if a.getD i 0 < b.getD i 0 then -1 else if b.getD i 0 < a.getD i 0 then 1 else cmpM (a.drop (i + 1)) (b.drop (i + 1)) := by
  rw [List.drop_eq_getElem_cons ha, List.drop_eq_getElem_cons hb, cmpM, List.getD_eq_getElem?_getD, List.getD_eq_getElem?_getD, List.getElem?_eq_getElem ha, List.getElem?_eq_getElem hb]
  rfl
def ltT {β : Type} (s t : List Int × β) : Prop := gtM s.1 t.1 = true
theorem ltT_asym {β : Type} (s t : List Int × β) (h : ltT s t) : ¬ ltT t s := by
  unfold ltT at *
  rw [gtM_asymm h]
  simp
theorem ltT_nt {β : Type} {x y z : List Int × β} (hx : x.1.length = 8) (hy : y.1.length = 8) (_hz : z.1.length = 8) (h1 : ¬ ltT x y) (h2 : ¬ ltT y z) : ¬ ltT x z := by
  unfold ltT at *
  intro h3
  rcases gtM_not (hx.trans hy.symm) (by simpa using h1) with h4 | h4
  · rw [h4] at h3; exact h2 h3
  · exact h2 (gtM_trans h4 h3)
end Go.Pl

namespace Go.Pl

theorem insT_perm : ∀ {p : List Tm} {t : Tm}, t.2 ≠ 0 → (∀ x ∈ p, x.1 ≠ t.1) → (insT p t).Perm (t :: p)
  | [], t, h, _ => by
    unfold insT
    rw [if_neg h]
  | x :: p, t, h, hk => by
    unfold insT
    split
    · exact ((insT_perm h (fun y hy => hk y (List.mem_cons_of_mem _ hy))).cons x).trans (List.Perm.swap _ _ _)
    · simp only [hk x (by simp), if_false]
      exact List.Perm.refl _
theorem addT_perm : ∀ {ts p : List Tm}, (∀ t ∈ ts, t.2 ≠ 0) → ((p ++ ts).map (·.1)).Nodup → (addT p ts).Perm (p ++ ts)
  | [], p, _, _ => by simp [addT]
  | t :: ts, p, h, hn => by
    rw [List.map_append, List.map_cons, List.nodup_append] at hn
    obtain ⟨h1, h2, h3⟩ := hn
    rw [List.nodup_cons] at h2
    have hp := insT_perm (p := p) (t := t) (h t (by simp)) (fun x hx he => h3 x.1 (List.mem_map.2 ⟨x, hx, rfl⟩) t.1 (by simp) he)
    have hnd : ((insT p t ++ ts).map (·.1)).Nodup := by
      have hq : ((insT p t ++ ts).map (·.1)).Perm (((t :: p) ++ ts).map (·.1)) := (hp.append_right ts).map _
      rw [hq.nodup_iff, List.map_append, List.map_cons, List.cons_append, List.nodup_cons, List.nodup_append]
      refine ⟨?_, h1, h2.2, fun x hx y hy => h3 x hx y (List.mem_cons_of_mem _ hy)⟩
      intro hm
      rcases List.mem_append.1 hm with hm | hm
      · exact h3 t.1 hm t.1 (by simp) rfl
      · exact h2.1 hm
    have ih := addT_perm (ts := ts) (p := insT p t) (fun u hu => h u (List.mem_cons_of_mem _ hu)) hnd
    unfold addT at ih ⊢
    rw [List.foldl_cons]
    refine ih.trans ((hp.append_right ts).trans ?_)
    rw [List.cons_append]
    exact List.perm_middle.symm
def keepL (ts : List Tm) : List Tm := (accL ts).filter (fun t => decide (t.2 ≠ 0))
theorem accL_len8 {ts : List Tm} (h : Len8 ts) : Len8 (accL ts) := fun t ht => by
  obtain ⟨u, hu, he⟩ := List.mem_map.1 (accL_key (List.mem_map.2 ⟨t, ht, rfl⟩))
  rw [← he]; exact h u hu
theorem nf_keep {ts : List Tm} (h : Len8 ts) : (nf ts).Perm (keepL ts) := by
  have h8 : Len8 (keepL ts) := fun t ht => accL_len8 h t (List.mem_filter.1 ht).1
  have h1 : nf ts = nf (keepL ts) := nf_congr h h8 (fun m => by unfold keepL; rw [sumC_filter, accL_sum])
  rw [h1]
  have h2 := addT_perm (ts := keepL ts) (p := []) (fun t ht => by simpa using (List.mem_filter.1 ht).2) (by
    rw [List.nil_append]
    exact List.Nodup.sublist ((List.filter_sublist).map _) (accL_nodup ts))
  rw [List.nil_append] at h2
  exact h2
theorem keep_len {ts : List Tm} (h : Len8 ts) : (keepL ts).length = (nf ts).length := (nf_keep h).length_eq.symm
theorem accF_none {a : List Tm} {m : Mn} : accF a m = none ↔ m ∉ a.map (·.1) := by
  unfold accF
  rw [Option.map_eq_none_iff, List.find?_eq_none]
  constructor
  · intro h hm
    obtain ⟨t, ht, he⟩ := List.mem_map.1 hm
    exact h t ht (by simpa using he)
  · intro h t ht he
    exact h (List.mem_map.2 ⟨t, ht, by simpa using he⟩)
theorem accF_at {a : List Tm} {i : Nat} {t : Tm} (hn : (a.map (·.1)).Nodup) (hi : a[i]? = some t) : accF a t.1 = some t.2 := by
  induction a generalizing i with
  | nil => simp at hi
  | cons u a ih =>
    unfold accF
    rw [List.map_cons, List.nodup_cons] at hn
    cases i with
    | zero =>
      simp at hi
      subst hi
      rw [List.find?_cons_of_pos (by simp)]
      rfl
    | succ i =>
      have hi' : a[i]? = some t := by simpa using hi
      have hne : ¬ u.1 = t.1 := fun he => hn.1 (he ▸ List.mem_map.2 ⟨t, List.mem_of_getElem? hi', rfl⟩)
      rw [List.find?_cons_of_neg (by simpa using hne)]
      exact ih hn.2 hi'
end Go.Pl

namespace Go.Pl

theorem DM.split {D : Nat} : ∀ {a : List Tm} {t : Tm} {M : Nat}, DM D (a ++ [t]) M → ∃ M1, ∃ z : Int, DM D a M1 ∧ t.2 = mkRat z D ∧ M1 + z.natAbs ≤ M
  | [], t, M, ⟨z, K, h1, h2, _⟩ => ⟨0, z, trivial, h1, by omega⟩
  | u :: a, t, M, ⟨z, K, h1, h2, h3⟩ => by
    obtain ⟨M1, w, g1, g2, g3⟩ := h3.split
    exact ⟨z.natAbs + M1, w, ⟨z, M1, h1, by omega, g1⟩, g2, by omega⟩
theorem PB.snoc_bd {k : Nat} {a : List Tm} {t : Tm} (h : PB k (a ++ [t])) (hk : 1 ≤ k) : ∀ u ∈ Go.Pl.nf a, Bd k (t.2 + u.2) := fun u hu => by
  obtain ⟨D, M, h1, h2, h3, h4⟩ := h
  obtain ⟨M1, z, g1, g2, g3⟩ := h4.split
  obtain ⟨w, e1, e2⟩ := (g1.nf (by omega)).mem hu
  rw [g2, e1, mkRat_sum (by omega)]
  exact bd_mkRat hk (by omega) h2

theorem rat_pow_bd {x : Rat} {k : Nat} (h : Bd k x) (hk : 1 ≤ k) : ∀ n : Nat, Bd (k * n + 1) (x ^ n)
  | 0 => by
    rw [Rat.pow_zero]
    exact Bd.mono (j := 1) ⟨by decide, by decide⟩ (by omega)
  | n + 1 => by
    rw [Rat.pow_succ]
    refine Bd.mono (Bd.mul (rat_pow_bd h hk n) h (by omega)) ?_
    rw [Nat.mul_add]
    omega
theorem monoV_take : ∀ (m : Mn) (x : List Rat) (v : Nat), v < m.length → monoV (m.take (v + 1)) x = monoV (m.take v) x * (x.getD v 0) ^ (m.getD v 0).toNat
  | e :: m, [], 0, _ => by
    simp only [List.take_succ_cons, List.take_zero, monoV, List.getD_cons_zero]
    have : ([] : List Rat).getD 0 0 = 0 := rfl
    rw [this]; grind
  | e :: m, y :: x, 0, _ => by
    simp only [List.take_succ_cons, List.take_zero, monoV, List.getD_cons_zero]; grind
  | e :: m, [], v + 1, h => by
    have ih := monoV_take m [] v (by simpa using h)
    have h0 : ∀ v, ([] : List Rat).getD v 0 = 0 := fun v => by simp
    rw [h0] at ih ⊢
    simp only [List.take_succ_cons, monoV, List.getD_cons_succ, ih]; grind
  | e :: m, y :: x, v + 1, h => by
    have ih := monoV_take m x v (by simpa using h)
    simp only [List.take_succ_cons, monoV, List.getD_cons_succ, ih]; grind
  | [], _, _, h => by simp at h
theorem monoV_bd {m : Mn} {x : List Rat} (hx : ∀ q ∈ x, Bd 2 q) (hm : ∀ e ∈ m, e ≤ 1024) : ∀ v, v ≤ m.length → Bd (v * 2049 + 1) (monoV (m.take v) x)
  | 0, _ => by
    simp only [List.take_zero, monoV]
    exact Bd.mono (j := 1) ⟨by decide, by decide⟩ (by omega)
  | v + 1, h => by
    rw [monoV_take m x v (by omega)]
    have hb : Bd 2 (x.getD v 0) := by
      rw [List.getD_eq_getElem?_getD]
      cases hv : x[v]? with
      | none => exact Bd.zero (by decide)
      | some q => exact hx q (List.mem_of_getElem? hv)
    have he : (m.getD v 0).toNat ≤ 1024 := by
      have := hm (m.getD v 0) (by rw [List.getD_eq_getElem?_getD, List.getElem?_eq_getElem (by omega)]; simp)
      omega
    refine Bd.mono (Bd.mul (monoV_bd hx hm v (by omega)) (rat_pow_bd hb (by decide) _) (by omega)) ?_
    omega
theorem valP_take {x : List Rat} {p : List Tm} {i : Nat} (h : i < p.length) : valP x (p.take (i + 1)) = valP x (p.take i) + p[i].2 * monoV p[i].1 x := by
  rw [List.take_add_one, List.getElem?_eq_getElem h, valP_append]
  simp only [Option.toList_some, valP]; grind
theorem valP_bd {x : List Rat} {p : List Tm} {k : Nat} (hk : 1 ≤ k) (hx : ∀ q ∈ x, Bd 2 q) (hm : ∀ t ∈ p, t.1.length = 8 ∧ ∀ e ∈ t.1, e ≤ 1024) (hp : ∀ t ∈ p, Bd k t.2) : ∀ i, i ≤ p.length → Bd (i * (k + 16394) + 1) (valP x (p.take i))
  | 0, _ => by
    simp only [List.take_zero, valP]
    exact Bd.zero (by omega)
  | i + 1, h => by
    rw [valP_take (by omega)]
    obtain ⟨h1, h2⟩ := hm p[i] (by simp)
    have h3 := monoV_bd (m := p[i].1) hx h2 8 (by omega)
    rw [List.take_of_length_le (by omega)] at h3
    refine Bd.mono (Bd.add (valP_bd hk hx hm hp i (by omega)) (Bd.mul (hp p[i] (by simp)) h3 (by omega)) (by omega)) ?_
    rw [Nat.add_mul]
    omega
end Go.Pl

namespace Go.Proofs.YtjjbkjgifdhlcaaGreat
open Go.AM Go.Pl

abbrev RT := List Int × Raw
def monoF (m : List Int) : List FV := m.map (fun n => FV.lit (.int .i64 n))
def tmF (t : RT) : List FV := monoF t.1 ++ t.2.f
def tmC (t : RT) : List PV := mC t.1 ++ t.2.c
def tq (t : RT) : Tm := (t.1, t.2.q)
def tn (t : Tm) : RT := (t.1, cn t.2)
theorem monoF_fv (m : List Int) : (monoF m).map .fv = mC m := by simp [monoF, mC]
theorem tmF_fv (t : RT) : (tmF t).map .fv = tmC t := by
  unfold tmF tmC
  rw [List.map_append, monoF_fv]
  rfl
theorem monoF_length (m : List Int) : (monoF m).length = m.length := by simp [monoF]
theorem mC_length (m : List Int) : (mC m).length = m.length := by simp [mC]
theorem tmF_length {t : RT} (h : t.1.length = 8) : (tmF t).length = 11 := by simp [tmF, monoF_length, h, Raw.f]
theorem tmC_length {t : RT} (h : t.1.length = 8) : (tmC t).length = 11 := by simp [tmC, mC_length, h, Raw.c]
theorem fzs_mC (H : List Ob) : ∀ m : List Int, fzs H (mC m) = some (monoF m)
  | [] => rfl
  | n :: m => by
    have := fzs_mC H m
    unfold mC monoF at this ⊢
    simp only [List.map_cons, fzs, fz0, this]
theorem fzs_app (H : List Ob) : ∀ (a b : List PV) (x y : List FV), fzs H a = some x → fzs H b = some y → fzs H (a ++ b) = some (x ++ y)
  | [], b, x, y, h1, h2 => by
    simp only [fzs, Option.some.injEq] at h1
    subst h1
    simpa using h2
  | c :: a, b, x, y, h1, h2 => by
    simp only [fzs, List.cons_append] at h1 ⊢
    split at h1
    · rename_i u us h3 h4
      cases h1
      rw [h3, fzs_app H a b us y h4 h2]
      rfl
    · cases h1
theorem fzs_tmC (H : List Ob) (t : RT) : fzs H (tmC t) = some (tmF t) := fzs_app H _ _ _ _ (fzs_mC H t.1) rfl
theorem ids_mC (m : List Int) : (mC m).flatMap ids0 = [] := by
  unfold mC
  induction m with
  | nil => rfl
  | cons n m ih => rw [List.map_cons, List.flatMap_cons, ih]; rfl
theorem ids_tmC (t : RT) : (tmC t).flatMap ids0 = [] := by
  unfold tmC
  rw [List.flatMap_append, ids_mC]
  rfl
theorem mC_take {m : List Int} (h : m.length = 8) : List.take 8 (mC m) = mC m := List.take_of_length_le (by rw [mC_length]; omega)
theorem monoF_take {m : List Int} (h : m.length = 8) : List.take 8 (monoF m) = monoF m := List.take_of_length_le (by rw [monoF_length]; omega)
theorem tmC_take8 {t : RT} (h : t.1.length = 8) : List.take 8 (tmC t) = mC t.1 := by
  unfold tmC
  rw [List.take_append_of_le_length (by rw [mC_length]; omega), mC_take h]
theorem tmC_take11 {t : RT} (h : t.1.length = 8) : List.take 11 (tmC t) = tmC t := List.take_of_length_le (by rw [tmC_length h]; omega)
theorem tmF_take11 {t : RT} (h : t.1.length = 8) : List.take 11 (tmF t) = tmF t := List.take_of_length_le (by rw [tmF_length h]; omega)
theorem tmC_drop8 {t : RT} (h : t.1.length = 8) : List.drop 8 (tmC t) = t.2.c := by
  unfold tmC
  rw [List.drop_append_of_le_length (by rw [mC_length]; omega), List.drop_of_length_le (by rw [mC_length]; omega)]
  rfl
theorem tmF_drop8 {t : RT} (h : t.1.length = 8) : List.drop 8 (tmF t) = t.2.f := by
  unfold tmF
  rw [List.drop_append_of_le_length (by rw [monoF_length]; omega), List.drop_of_length_le (by rw [monoF_length]; omega)]
  rfl
theorem tmF_take8 {t : RT} (h : t.1.length = 8) : List.take 8 (tmF t) = monoF t.1 := by
  unfold tmF
  rw [List.take_append_of_le_length (by rw [monoF_length]; omega), monoF_take h]
theorem mC_at {m : List Int} {i : Nat} (h : i < m.length) : List.take 1 (List.drop i (mC m)) = [PV.int .i64 (m.getD i 0)] := by
  unfold mC
  rw [List.drop_eq_getElem_cons (by simpa using h), List.take_succ_cons, List.take_zero, List.getElem_map, List.getD_eq_getElem?_getD, List.getElem?_eq_getElem h]
  rfl
theorem mC_put {m : List Int} {i : Nat} {x : Int} (h : i < m.length) : List.take i (mC m) ++ [PV.int .i64 x] ++ List.drop (i + 1) (mC m) = mC (m.set i x) := by
  unfold mC
  rw [← List.map_take, ← List.map_drop, List.set_eq_take_append_cons_drop, if_pos h]
  simp
theorem tmC_put {t : RT} {i : Nat} {x : Int} (h : i < 8) (hl : t.1.length = 8) : List.take i (tmC t) ++ [PV.int .i64 x] ++ List.drop (i + 1) (tmC t) = tmC (t.1.set i x, t.2) := by
  have h1 := mC_put (m := t.1) (i := i) (x := x) (by omega)
  unfold tmC
  rw [List.take_append_of_le_length (by rw [mC_length]; omega), List.drop_append_of_le_length (by rw [mC_length]; omega), ← List.append_assoc, h1]
theorem le_mC (ids : List Nat) : ∀ m : List Int, le1s ids (mC m) (mC m)
  | [] => by simp [mC, le1s]
  | x :: m => by
    have := le_mC ids m
    unfold mC at this ⊢
    simp [le1s, le1, this]
theorem le_app (ids : List Nat) : ∀ (a b : List PV), le1s ids a a → le1s ids b b → le1s ids (a ++ b) (a ++ b)
  | [], _, _, h => h
  | _ :: a, b, h1, h2 => ⟨h1.1, le_app ids a b h1.2 h2⟩
theorem le_tmC (ids : List Nat) (t : RT) : le1s ids (tmC t) (tmC t) := le_app ids _ _ (le_mC ids t.1) (by simp [Raw.c, le1s, le1])
theorem tmC_coef {t : RT} (h : t.1.length = 8) : List.take 3 (List.drop 8 (tmC t)) = t.2.c := by rw [tmC_drop8 h]; rfl
theorem fzs_c (H : List Ob) (r : Raw) : fzs H r.c = some r.f := rfl
theorem f_fv (r : Raw) : r.f.map .fv = r.c := rfl
theorem ids_c (r : Raw) : r.c.flatMap ids0 = [] := rfl
theorem c_reloc (f : Nat → Nat) (r : Raw) : List.map (reloc1 f) r.c = r.c := rfl
theorem c_take (r : Raw) : List.take 3 r.c = r.c := rfl
theorem tmC_putc {t : RT} {r : Raw} (h : t.1.length = 8) : List.take 8 (tmC t) ++ r.c ++ List.drop 11 (tmC t) = tmC (t.1, r) := by
  rw [tmC_take8 h, List.drop_of_length_le (by rw [tmC_length h]; omega), List.append_nil]
  rfl
theorem f_length (r : Raw) : r.f.length = 3 := rfl
theorem f_take (r : Raw) : List.take 3 r.f = r.f := rfl
theorem le_c (ids : List Nat) (r : Raw) : le1s ids r.c r.c := by simp [Raw.c, le1s, le1]
theorem cdrop3 (r : Raw) : List.drop 3 r.c = [] := rfl
theorem monoF_at {m : List Int} {i : Nat} (h : i < m.length) : List.take 1 (List.drop i (monoF m)) = [FV.lit (.int .i64 (m.getD i 0))] := by
  unfold monoF
  rw [List.drop_eq_getElem_cons (by simpa using h), List.take_succ_cons, List.take_zero, List.getElem_map, List.getD_eq_getElem?_getD, List.getElem?_eq_getElem h]
  rfl
theorem tmF_at {t : RT} {i : Nat} (h : i < 8) (hl : t.1.length = 8) : List.take 1 (List.drop i (tmF t)) = [FV.lit (.int .i64 (t.1.getD i 0))] := by
  have h1 := monoF_at (m := t.1) (i := i) (by omega)
  unfold tmF
  rw [List.drop_append_of_le_length (by rw [monoF_length]; omega), List.take_append_of_le_length (by rw [List.length_drop, monoF_length]; omega), h1]
theorem still_c (r : Raw) : still (.agg r.c) = true := rfl
theorem c_length (r : Raw) : r.c.length = 3 := rfl

def rowsT (ts : List RT) : List (List FV) := ts.map tmF
def rowsM (ms : List (List Int)) : List (List FV) := ms.map monoF
theorem rowsT_length (ts : List RT) : (rowsT ts).length = ts.length := by simp [rowsT]
theorem rowsM_length (ms : List (List Int)) : (rowsM ms).length = ms.length := by simp [rowsM]
def rt0 : RT := ([], rz)
theorem rowsT_getD {ts : List RT} {i : Nat} (h : i < ts.length) : (rowsT ts).getD i [] = tmF (ts.getD i rt0) := by
  simp [rowsT, h]
theorem rowsM_getD {ms : List (List Int)} {i : Nat} (h : i < ms.length) : (rowsM ms).getD i [] = monoF (ms.getD i []) := by
  simp [rowsM, h]
theorem getD_memT {ts : List RT} {i : Nat} (h : i < ts.length) : ts.getD i rt0 ∈ ts := by
  rw [List.getD_eq_getElem?_getD, List.getElem?_eq_getElem h]
  simp
theorem rowsT_snoc (ts : List RT) (t : RT) : rowsT ts ++ [tmF t] = rowsT (ts ++ [t]) := by simp [rowsT]
theorem rowsM_snoc (ms : List (List Int)) (m : List Int) : rowsM ms ++ [monoF m] = rowsM (ms ++ [m]) := by simp [rowsM]
theorem take_rowsT {ts : List RT} {n : Nat} (h : ts.length ≤ n) : List.take n (rowsT ts) = rowsT ts := List.take_of_length_le (by rw [rowsT_length]; exact h)
theorem take_rowsM {ms : List (List Int)} {n : Nat} (h : ms.length ≤ n) : List.take n (rowsM ms) = rowsM ms := List.take_of_length_le (by rw [rowsM_length]; exact h)
structure TOk (k : Nat) (t : RT) : Prop where
  len : t.1.length = 8
  rng : ∀ x ∈ t.1, -1000000000000 ≤ x ∧ x ≤ 1000000000000
  raw : t.2.Ok k
theorem TOk.mono {j k : Nat} {t : RT} (h : TOk j t) (hk : j ≤ k) : TOk k t := ⟨h.len, h.rng, h.raw.mono hk⟩
def TsOk (k : Nat) (ts : List RT) : Prop := ∀ t ∈ ts, TOk k t
def validM (m : List Int) : Bool := m.all (fun d => decide (0 ≤ d) && decide (d ≤ 1024))
def validB (ts : List RT) : Bool := ts.all (fun t => validM t.1)
abbrev PL (ts : List RT) : PV := .fv (.sl (rowsT ts))
end Go.Proofs.YtjjbkjgifdhlcaaGreat

namespace Go.Proofs.YtjjbkjgifdhlcaaGreat
open Go.AM Go.Pl
set_option maxRecDepth 100000
set_option maxHeartbeats 2000000

theorem groups1 (m : List Int) (n : Nat) (h : m.length = n) : groups 1 n (monoF m) = ints m := by
  subst h
  induction m with
  | nil => rfl
  | cons x m ih =>
    unfold monoF ints at ih ⊢
    simp only [List.length_cons, List.map_cons, groups, List.take_succ_cons, List.take_zero, List.drop_succ_cons, List.drop_zero, ih]
theorem iq272 (x : Int) : Den Tryz.prog 272 [] [.int .i64 x] [] (.bool false) := by
  have e : (x != x) = false := by simp
  refine den_of tabOk mixed Tryz.func272 (cd := _) rfl (by decide) rfl (n := 5) rfl rfl (m := 0) rfl ?_
  simp (dsimp := false) (disch := omega) only [List.replicate, e, Ap_end_ret, rules, tys, eq_self, ↓reduceIte]
  refine RetOK.pure rfl ⟨trivial, trivial⟩ rfl
theorem iq246 (x y : Int) : Den Tryz.prog 246 [] [.int .i64 x, .int .i64 y] [] (.int .i64 (if x < y then -1 else if y < x then 1 else 0)) := by
  by_cases h1 : x < y
  · have e1 : decide (x < y) = true := decide_eq_true h1
    rw [if_pos h1]
    refine den_of tabOk mixed Tryz.func246 (cd := _) rfl (by decide) rfl (n := 18) rfl rfl (m := 0) rfl ?_
    simp (dsimp := false) (disch := omega) only [List.replicate, rules]
    refine GoCall.pure (iq272 x) rfl ?_
    simp (dsimp := false) (disch := omega) only [rules]
    refine GoCall.pure (iq272 y) rfl ?_
    simp (dsimp := false) (disch := omega) only [e1, Ap_end_ret, rules, tys, eq_self, ↓reduceIte]
    refine RetOK.pure rfl ⟨trivial, trivial⟩ rfl
  · have e1 : decide (x < y) = false := decide_eq_false h1
    rw [if_neg h1]
    by_cases h2 : y < x
    · have e2 : decide (x > y) = true := decide_eq_true h2
      rw [if_pos h2]
      refine den_of tabOk mixed Tryz.func246 (cd := _) rfl (by decide) rfl (n := 18) rfl rfl (m := 0) rfl ?_
      simp (dsimp := false) (disch := omega) only [List.replicate, rules]
      refine GoCall.pure (iq272 x) rfl ?_
      simp (dsimp := false) (disch := omega) only [rules]
      refine GoCall.pure (iq272 y) rfl ?_
      simp (dsimp := false) (disch := omega) only [e1, e2, Ap_end_ret, rules, tys, eq_self, ↓reduceIte]
      refine RetOK.pure rfl ⟨trivial, trivial⟩ rfl
    · have e2 : decide (x > y) = false := decide_eq_false h2
      rw [if_neg h2]
      refine den_of tabOk mixed Tryz.func246 (cd := _) rfl (by decide) rfl (n := 18) rfl rfl (m := 0) rfl ?_
      simp (dsimp := false) (disch := omega) only [List.replicate, rules]
      refine GoCall.pure (iq272 x) rfl ?_
      simp (dsimp := false) (disch := omega) only [rules]
      refine GoCall.pure (iq272 y) rfl ?_
      simp (dsimp := false) (disch := omega) only [e1, e2, Ap_end_ret, rules, tys, eq_self, ↓reduceIte]
      refine RetOK.pure rfl ⟨trivial, trivial⟩ rfl
theorem iq208 (a b : List Int) (n : Nat) (ha : a.length = n) (hb : b.length = n) (hn : n < 1000) : Den Tryz.prog 208 [] [.fv (.sl (ints a)), .fv (.sl (ints b))] [] (.int .i64 (cmpM a b)) := by
  have la := ints_length a
  have lb := ints_length b
  rw [ha] at la
  rw [hb] at lb
  refine den_of tabOk mixed Tryz.func208 (cd := _) rfl (by decide) rfl (n := 34) rfl rfl (m := 0) rfl ?_
  simp (dsimp := false) (disch := omega) only [List.replicate, la, rules, tys]
  refine WA.loop (α := Nat) (fun i => ⟨[.fv (.sl (ints a)), .fv (.sl (ints b)), .any, .any, .any, .any, .any, .any, .any, .fv (.sl (ints a)), .int .i64 n, .int .i64 i] ++ List.replicate 24 .any, []⟩) (fun i => n - i) (fun i => i ≤ n ∧ cmpM (a.drop i) (b.drop i) = cmpM a b) 0 ?_ ?_ ?_
  · refine Weak.keep [] (by simp) rfl ?_ ?_
    · simp [leVs, leV, le1]
    · simp [leH]
  · exact ⟨Nat.zero_le _, rfl⟩
  · rintro i ⟨hi, hc⟩
    simp (dsimp := false) (disch := omega) only [List.replicate, rules, tys, eq_self, ↓reduceIte]
    refine Br.dec ?_ ?_
    · intro h1 h2
      have ga := ints_getD (xs := a) (i := i) (by omega)
      have gb := ints_getD (xs := b) (i := i) (by omega)
      have hcd := cmpM_drop (a := a) (b := b) (i := i) (by omega) (by omega)
      obtain ⟨x, hx⟩ : ∃ x, a.getD i 0 = x := ⟨_, rfl⟩
      obtain ⟨y, hy⟩ : ∃ y, b.getD i 0 = y := ⟨_, rfl⟩
      rw [hx] at ga hcd
      rw [hy] at gb hcd
      have e1 : decide ((i : Int) ≥ (n : Int)) = false := decide_eq_false (by omega)
      have hcmp := iq246 x y
      obtain ⟨z, hz⟩ : ∃ z : Int, (if x < y then (-1 : Int) else if y < x then 1 else 0) = z := ⟨_, rfl⟩
      rw [hz] at hcmp
      simp (dsimp := false) (disch := omega) only [h2, la, lb, ga, gb, e1, rules, tys, eq_self, ↓reduceIte, Nat.reduceLT, Nat.reduceLeDiff]
      repeat refine And.intro (by omega) ?_
      refine GoCall.pure hcmp rfl ?_
      simp (dsimp := false) (disch := omega) only [rules, tys, eq_self, ↓reduceIte]
      refine Br.bneInt ?_ ?_
      · intro h3 h4
        have hzz : cmpM a b = z := by
          rw [← hc, hcd, ← hz]
          by_cases h5 : x < y
          · rw [if_pos h5, if_pos h5]
          · rw [if_neg h5, if_neg h5]
            by_cases h6 : y < x
            · rw [if_pos h6, if_pos h6]
            · rw [if_neg h5, if_neg h6] at hz
              omega
        rw [hzz]
        simp (dsimp := false) (disch := omega) only [h4, Ap_end_ret, rules]
        refine RetOK.pure rfl ⟨trivial, trivial⟩ rfl
      · intro h3 h4
        have h5 : ¬ x < y := fun h => by rw [if_pos h] at hz; omega
        have h6 : ¬ y < x := fun h => by rw [if_neg h5, if_pos h] at hz; omega
        rw [if_neg h5, if_neg h6] at hcd
        simp (dsimp := false) (disch := omega) only [h4, wrap64, rules, tys, eq_self, ↓reduceIte]
        refine Ap_loop (i + 1) (by omega) ?_ ⟨by omega, by rw [← hcd, hc]⟩
        refine Weak.keep [] (by simp) rfl ?_ ?_
        · simp [leVs, leV, le1]
        · simp [leH]
    · intro h1 h2
      have hz : cmpM a b = 0 := by
        rw [← hc, List.drop_of_length_le (by omega), List.drop_of_length_le (by omega)]
        rfl
      rw [hz]
      have e1 : decide ((n : Int) < (n : Int)) = false := decide_eq_false (by omega)
      simp (dsimp := false) (disch := omega) only [h2, la, lb, e1, Ap_end_ret, rules, tys, eq_self, ↓reduceIte, Nat.reduceBEq]
      refine RetOK.pure rfl ⟨trivial, trivial⟩ rfl
theorem iq170 (s t : RT) (hs : s.1.length = 8) (ht : t.1.length = 8) : Den Tryz.prog 170 [] [.agg [.bool true], .agg (tmC s), .agg (tmC t)] [] (.int .i64 (-(cmpM s.1 t.1))) := by
  have h1 := iq208 s.1 t.1 8 hs ht (by decide)
  have g1 := groups1 s.1 8 hs
  have g2 := groups1 t.1 8 ht
  have r := cmpM_range s.1 t.1
  obtain ⟨z, hz⟩ : ∃ z, cmpM s.1 t.1 = z := ⟨_, rfl⟩
  rw [hz] at h1 r ⊢
  have ls := tmC_length hs
  have lt := tmC_length ht
  have k1 := tmC_take8 hs
  have k2 := tmC_take8 ht
  have i1 : List.take 8 (ints s.1) = ints s.1 := List.take_of_length_le (by rw [ints_length]; omega)
  have i2 : List.take 8 (ints t.1) = ints t.1 := List.take_of_length_le (by rw [ints_length]; omega)
  have e0 : (0 : Int) - z = -z := by omega
  refine den_of tabOk mixed Tryz.func170 (cd := _) rfl (by decide) rfl (n := 15) rfl rfl (m := 0) rfl ?_
  simp (dsimp := false) (disch := omega) only [List.replicate, ls, lt, rules, tys, eq_self, Nat.reduceAdd, Nat.reduceLT]
  repeat refine And.intro (by omega) ?_
  refine Draw.freeze [1, 2] (by kernel_rfl) ?_
  simp (dsimp := false) (disch := omega) only [k1, k2, fzs_mC, ids_mC, ls, lt, g1, g2, Option.isSome_none, imp_self, i1, i2, rules, tys, eq_self, ↓reduceIte, Nat.reduceMul, Nat.reduceSub, Nat.reduceLT, Nat.reduceLeDiff]
  repeat refine And.intro (by omega) ?_
  refine GoCall.pure h1 (by simp [fzAs, fzA, fz1, fz0]) ?_
  simp (dsimp := false) (disch := omega) only [e0, wrap64, Ap_end_ret, rules, tys, eq_self, ↓reduceIte, Nat.reduceAdd, Nat.reduceLeDiff]
  repeat refine And.intro (by omega) ?_
  refine RetOK.pure rfl ⟨trivial, trivial⟩ rfl
end Go.Proofs.YtjjbkjgifdhlcaaGreat

namespace Go.Proofs.YtjjbkjgifdhlcaaGreat
open Go.AM Go.Pl
set_option maxRecDepth 100000
set_option maxHeartbeats 2000000

theorem sameR_self (r : Raw) : sameR r r = true := by simp [sameR]
end Go.Proofs.YtjjbkjgifdhlcaaGreat

namespace Go.Proofs.YtjjbkjgifdhlcaaGreat
open Go.AM Go.Pl
set_option maxRecDepth 100000
set_option maxHeartbeats 2000000

end Go.Proofs.YtjjbkjgifdhlcaaGreat

namespace Go.Proofs.YtjjbkjgifdhlcaaGreat
open Go.AM Go.Pl
set_option maxRecDepth 100000
set_option maxHeartbeats 2000000

end Go.Proofs.YtjjbkjgifdhlcaaGreat

namespace Go.Proofs.YtjjbkjgifdhlcaaGreat
open Go.AM Go.Pl
set_option maxRecDepth 100000
set_option maxHeartbeats 2000000

end Go.Proofs.YtjjbkjgifdhlcaaGreat

namespace Go.Proofs.YtjjbkjgifdhlcaaGreat
open Go.AM Go.Pl
set_option maxRecDepth 100000
set_option maxHeartbeats 4000000

def rats (ps : List Rat) : List (List FV) := ps.map (fun q => (cn q).f)
theorem rats_length (ps : List Rat) : (rats ps).length = ps.length := by simp [rats]
theorem rats_getD {ps : List Rat} {i : Nat} (h : i < ps.length) : (rats ps).getD i [] = [FV.lit (Value.bool (cn (ps.getD i 0)).neg), FV.sl (u32s (cn (ps.getD i 0)).num), FV.sl (u32s (cn (ps.getD i 0)).den)] := by
  simp [rats, List.getD_eq_getElem?_getD, h, Raw.f]
def evalN (a : List Raw) (ps : List Rat) : Nat → Rat
  | 0 => (a.getD 8 rz).q
  | i + 1 => evalN a ps i + (a.getD i rz).q * ps.getD i 0
theorem evalN_bd {a : List Raw} {ps : List Rat} {j : Nat} (ha : LOk j a) (hj : 1 ≤ j) (hp : ∀ q ∈ ps, Bd 2 q) (hl : ps.length = 8) : ∀ i, i ≤ 8 → Bd (j + i * (j + 3)) (evalN a ps i)
  | 0, _ => by simpa [evalN] using (ha.at 8).bd hj
  | i + 1, h => by
    have ih := evalN_bd ha hj hp hl i (by omega)
    have hq : Bd 2 (ps.getD i 0) := by
      rw [List.getD_eq_getElem?_getD, List.getElem?_eq_getElem (by omega)]
      exact hp _ (List.getElem_mem _)
    have hm := ((ha.at i).bd hj).mul hq (by omega)
    have hs := ih.add hm (by omega)
    unfold evalN
    have e : j + i * (j + 3) + (j + 2) + 1 = j + (i + 1) * (j + 3) := by rw [Nat.add_mul]; omega
    rw [← e]
    exact hs

theorem den28 (a : List Raw) (ps : List Rat) (ha : LOk 1000 a) (hp : ∀ q ∈ ps, Bd 2 q) (hl : ps.length = 8) : Den Tryz.prog 23 [] [RL a, .fv (.sl (rats ps))] [] (FR (evalN a ps 8)) := by
  have la := ha.len
  have fa := flat_length a
  have htk : List.take 24 (flat a) = flat (a.take 8) := flat_take 8 a
  have f8 : (flat (a.take 8)).length = 24 := by rw [flat_length, List.length_take]; omega
  have hat8 := flat_at (rs := a) (i := 8) (by omega)
  simp only [Nat.reduceMul] at hat8
  have h41 := den41 (a.getD 8 rz) ((ha.at 8).mono (by decide))
  have hrl := rats_length ps
  unfold RL
  obtain ⟨r8, hr8⟩ : ∃ t, a.getD 8 rz = t := ⟨_, rfl⟩
  have hz0 : evalN a ps 0 = r8.q := by unfold evalN; rw [hr8]
  rw [hr8] at hat8 h41
  rw [FR_eq] at h41
  unfold Raw.v at h41
  refine den_of tabOk mixed Tryz.func23 (cd := _) rfl (by decide) rfl (n := 29) rfl rfl (m := 0) rfl ?_
  simp (dsimp := false) (disch := omega) only [List.replicate, hat8, rules, tys, eq_self, ↓reduceIte, Nat.reduceAdd, Nat.reduceLT]
  repeat refine And.intro (by omega) ?_
  refine GoCall.pure h41 rfl ?_
  simp (dsimp := false) (disch := omega) only [List.append_nil, htk, rules, tys, eq_self, ↓reduceIte, Nat.reduceAdd, Nat.reduceLT, Nat.reduceLeDiff]
  repeat refine And.intro (by omega) ?_
  refine WA.loop (α := Nat) (fun i => ⟨[.any, .fv (.sl (rats ps)), .ptr 0 0 0, .any, .ptr 1 0 0, .ptr 2 0 0, .any, .any, .any, .any, .any, .any, .agg (flat (a.take 8)), .int .i64 i] ++ List.replicate 17 .any, [.box true (flat a), .box true [.bool false, .nilsl, .nilsl], .box true [.bool (cn (evalN a ps i)).neg, .fv (.sl (u32s (cn (evalN a ps i)).num)), .fv (.sl (u32s (cn (evalN a ps i)).den))]]⟩)
    (fun i => 8 - i) (fun i => i ≤ 8) 0 ?_ ?_ ?_
  · refine Weak.keep [0, 1, 2] (by simp) rfl ?_ ?_
    · simp [leVs, leV, le1, le_flat]
    · rw [hz0]
      simp [leH, leO, le1s, le1, le_flat, cn, N]
  · exact Nat.zero_le _
  · rintro i hi
    simp (dsimp := false) (disch := omega) only [List.replicate, rules, tys, eq_self, ↓reduceIte]
    refine Br.dec ?_ ?_
    · intro h1 h2
      have hi8 : i < 8 := by omega
      have hat := flat_at (rs := a.take 8) (i := i) (by rw [List.length_take]; omega)
      have hgd : (a.take 8).getD i rz = a.getD i rz := by
        simp only [List.getD_eq_getElem?_getD, List.getElem?_take]
        rw [if_pos (by omega)]
      rw [hgd] at hat
      have hrow := rats_getD (ps := ps) (i := i) (by omega)
      have hqb : Bd 2 (ps.getD i 0) := by
        rw [List.getD_eq_getElem?_getD, List.getElem?_eq_getElem (by omega)]
        exact hp _ (List.getElem_mem _)
      have hsb := evalN_bd ha (by decide) hp hl i (by omega)
      have h54 := den54 (a.getD i rz) (cn (ps.getD i 0)) ((ha.at i).mono (by decide)) (Raw.Ok.mono (cn_ok hqb) (by decide))
      rw [cn_q] at h54
      have hmb : Bd 1002 ((a.getD i rz).q * ps.getD i 0) := Bd.mul (j := 1000) (k := 2) ((ha.at i).bd (by decide)) hqb (by decide)
      have h51 := den51 (cn (evalN a ps i)) (cn ((a.getD i rz).q * ps.getD i 0)) (Raw.Ok.mono (cn_ok hsb) (by omega)) (Raw.Ok.mono (cn_ok hmb) (by decide))
      rw [cn_q, cn_q] at h51
      have hev : evalN a ps i + (a.getD i rz).q * ps.getD i 0 = evalN a ps (i + 1) := rfl
      rw [hev] at h51
      change Den Tryz.prog 69 [] [(cn (evalN a ps i)).v, FR ((a.getD i rz).q * ps.getD i 0)] [] (cn (evalN a ps (i + 1))).v at h51
      obtain ⟨r, hr⟩ : ∃ t, a.getD i rz = t := ⟨_, rfl⟩
      obtain ⟨p, hpp⟩ : ∃ t, cn (ps.getD i 0) = t := ⟨_, rfl⟩
      obtain ⟨e0, he0⟩ : ∃ t, cn (evalN a ps i) = t := ⟨_, rfl⟩
      obtain ⟨e1, he1⟩ : ∃ t, cn (evalN a ps (i + 1)) = t := ⟨_, rfl⟩
      rw [hr] at hat h54 h51
      rw [hpp] at hrow h54
      rw [he0, he1] at h51
      rw [he0]
      rw [FR_eq] at h54 h51
      unfold Raw.v at h54 h51
      have hl3 : ([FV.lit (Value.bool p.neg), FV.sl (u32s p.num), FV.sl (u32s p.den)] : List FV).length = 3 := rfl
      have hlen : decide ((i : Int) < ((rats ps).length : Int)) = true := decide_eq_true (by omega)
      simp (dsimp := false) (disch := omega) only [List.append_nil, h2, hat, rules, tys, eq_self, ↓reduceIte, Nat.reduceAdd, Nat.reduceLT, Nat.reduceLeDiff]
      repeat refine And.intro (by omega) ?_
      simp (dsimp := false) (disch := omega) only [hlen, rules]
      refine Draw.intro (by kernel_rfl) ?_
      simp (dsimp := false) (disch := omega) only [hrow, hl3, rules, tys, eq_self, ↓reduceIte, Nat.reduceAdd, Nat.reduceLT, Nat.reduceLeDiff]
      repeat refine And.intro (by omega) ?_
      refine GoCall.pure h54 rfl ?_
      simp (dsimp := false) (disch := omega) only [List.append_nil, rules, Nat.reduceAdd]
      repeat refine And.intro (by omega) ?_
      refine GoCall.pure h51 rfl ?_
      simp (dsimp := false) (disch := omega) only [List.append_nil, wrap64, rules, tys, eq_self, ↓reduceIte, Nat.reduceAdd, Nat.reduceLT, Nat.reduceLeDiff]
      repeat refine And.intro (by omega) ?_
      refine Ap_loop (i + 1) (by omega) ?_ (by omega)
      refine Weak.keep [0, 1, 2] (by simp) rfl ?_ ?_
      · simp [leVs, leV, le1, le_flat]
      · rw [he1]
        simp [leH, leO, le1s, le1, le_flat]
    · intro h1 h2
      have hi8 : i = 8 := by omega
      subst hi8
      simp (dsimp := false) (disch := omega) only [List.append_nil, h2, Ap_end_ret, rules, tys, eq_self, ↓reduceIte, Nat.reduceAdd, Nat.reduceBEq, Nat.reduceLT, Nat.reduceLeDiff]
      exact RetOK.pure rfl ⟨⟨rfl, Nat.le_refl 3⟩, trivial⟩ rfl

def pointF (xs : List Int) : Nat → Nat → List Rat
  | 0, _ => []
  | n + 1, a => ratR xs a :: pointF xs n (nx xs (nx xs a))
theorem pointF_length (xs : List Int) : ∀ n a, (pointF xs n a).length = n
  | 0, _ => rfl
  | n + 1, a => by simp [pointF, pointF_length xs n]
theorem pointF_bd (xs : List Int) : ∀ n a, ∀ q ∈ pointF xs n a, Bd 2 q
  | 0, _, q, h => by simp [pointF] at h
  | n + 1, a, q, h => by
    simp only [pointF, List.mem_cons] at h
    rcases h with h | h
    · rw [h]; exact ratR_bd xs a
    · exact pointF_bd xs n _ q h
def outP (out : List Rat) : PV := match out with | [] => .nilsl | _ => .lsl 1 0 out.length 3
def outPH (o : Ob) (out : List Rat) : List Ob := match out with | [] => [o] | _ => [o, .row true (rats out)]

theorem den27 (xs : List Int) (a n : Nat) (hl : xs.length ≤ 1000) (ha : a ≤ xs.length) (hw : W64 xs) (hn8 : n ≤ 8) :
    Den Tryz.prog 17 [S xs a] [.ptr 0 0 0, .int .i64 n] [S xs (nxs xs (2 * n) a)] (.fv (.sl (rats (pointF xs n a)))) := by
  obtain ⟨fin, hfin⟩ : ∃ t, nxs xs (2 * n) a = t := ⟨_, rfl⟩
  obtain ⟨tot, htot⟩ : ∃ t, pointF xs n a = t := ⟨_, rfl⟩
  rw [hfin, htot]
  unfold S
  refine den_of tabOk mixed Tryz.func17 (cd := _) rfl (by decide) rfl (n := 16) rfl rfl (m := 1) rfl ?_
  simp (dsimp := false) (disch := omega) only [List.replicate, rules]
  refine WA.loop (α := Nat × Nat × List Rat) (fun ⟨i, b, out⟩ => ⟨[.ptr 0 0 0, .int .i64 n, .any, .any, .nilsl, outP out, .int .i64 i] ++ List.replicate 11 .any, outPH (S xs b) out⟩)
    (fun ⟨i, _, _⟩ => n - i) (fun ⟨i, b, out⟩ => i ≤ n ∧ b ≤ xs.length ∧ out.length = i ∧ nxs xs (2 * (n - i)) b = fin ∧ out ++ pointF xs (n - i) b = tot) (0, a, []) ?_ ?_ ?_
  · refine Weak.keep [0] (by simp) rfl ?_ ?_
    · simp [leVs, leV, le1, outP]
    · simp [leH, leO, le1s, le1, outPH, S]
  · exact ⟨Nat.zero_le _, ha, rfl, hfin, by rw [List.nil_append]; exact htot⟩
  · rintro ⟨i, b, out⟩ ⟨hi, hb, hol, hnx, hap⟩
    have h30 := den30 xs b hl hb hw
    have hcb := S_closed xs b
    have hb2 := nx_le (nx_le hb)
    have hnxt : i < n → nxs xs (2 * (n - (i + 1))) (nx xs (nx xs b)) = fin ∧ (out ++ [ratR xs b]) ++ pointF xs (n - (i + 1)) (nx xs (nx xs b)) = tot := by
      intro h
      obtain ⟨k, hk⟩ : ∃ k, n - i = k + 1 := ⟨n - i - 1, by omega⟩
      have hk2 : n - (i + 1) = k := by omega
      rw [hk] at hnx hap
      rw [hk2]
      have e : 2 * (k + 1) = 2 * k + 1 + 1 := by omega
      rw [e] at hnx
      simp only [nxs] at hnx
      simp only [pointF] at hap
      exact ⟨hnx, by rw [← hap]; simp⟩
    obtain ⟨q, hq⟩ : ∃ q, ratR xs b = q := ⟨_, rfl⟩
    rw [hq] at h30 hnxt
    rw [FR_eq] at h30
    cases out with
    | nil =>
      simp only [outP, outPH]
      unfold S at h30 hcb ⊢
      simp (dsimp := false) (disch := omega) only [List.replicate, rules, tys, eq_self, ↓reduceIte]
      refine Br.dec ?_ ?_
      · intro h1 h2
        obtain ⟨hn1, hn2⟩ := hnxt (by omega)
        simp (dsimp := false) (disch := omega) only [h2, rules]
        refine GoCall.lend 0 h30 rfl rfl hcb rfl rfl rfl ?_
        simp (dsimp := false) (disch := omega) only [sh1, List.append_nil, List.length_cons, List.length_nil, wrap64, rules, tys, eq_self, ↓reduceIte, Nat.reduceAdd, Nat.reduceMul, Nat.reduceLT, Nat.reduceLeDiff]
        repeat refine And.intro (by omega) ?_
        refine Ap_loop (i + 1, nx xs (nx xs b), [q]) (by dsimp only; omega) ?_ ⟨by omega, hb2, by simp at hol ⊢; omega, hn1, hn2⟩
        refine Weak.keep [0, 2] (by simp) rfl ?_ ?_
        · simp [leVs, leV, le1]
        · simp [leH, leO, le1s, le1, rats, Raw.f, cn, N]
      · intro h1 h2
        have hin : i = n := by omega
        have hn0 : n - i = 0 := by omega
        rw [hn0] at hap hnx
        have htot2 : tot = [] := by rw [← hap]; rfl
        have hfb : fin = b := hnx.symm
        rw [htot2, hfb]
        simp (dsimp := false) (disch := omega) only [h2, Ap_end_ret, rules, Nat.reduceBEq]
        refine RetOK.lentB rfl ⟨trivial, trivial⟩ rfl (S_closed xs _) rfl rfl rfl
    | cons x out =>
      have hul : (rats (x :: out)).length = (x :: out).length := rats_length _
      have htk : List.take (x :: out).length (rats (x :: out)) = rats (x :: out) := List.take_of_length_le (by rw [hul]; exact Nat.le_refl _)
      have happ : rats (x :: out) ++ [[FV.lit (Value.bool (decide (q.num < 0))), N q.num.natAbs, N q.den]] = rats (x :: (out ++ [q])) := by simp [rats, Raw.f, cn, N]
      simp only [outP, outPH]
      obtain ⟨L, hL⟩ : ∃ L, (x :: out).length = L := ⟨_, rfl⟩
      obtain ⟨us, hus⟩ : ∃ us, rats (x :: out) = us := ⟨_, rfl⟩
      rw [hL, hus] at hul htk
      rw [hus] at happ
      rw [hL] at hol
      rw [hL, hus]
      unfold S at h30 hcb ⊢
      simp (dsimp := false) (disch := omega) only [List.replicate, rules, tys, eq_self, ↓reduceIte]
      refine Br.dec ?_ ?_
      · intro h1 h2
        obtain ⟨hn1, hn2⟩ := hnxt (by omega)
        simp (dsimp := false) (disch := omega) only [h2, rules]
        refine GoCall.lend 0 h30 rfl rfl hcb rfl rfl rfl ?_
        simp (dsimp := false) (disch := omega) only [sh1, List.append_nil, htk, happ, List.length_cons, List.length_nil, wrap64, rules, tys, eq_self, ↓reduceIte, Nat.reduceAdd, Nat.reduceMul, Nat.reduceBEq, Nat.reduceLT, Nat.reduceLeDiff]
        repeat refine And.intro (by omega) ?_
        refine Ap_loop (i + 1, nx xs (nx xs b), x :: (out ++ [q])) (by dsimp only; omega) ?_ ⟨by omega, hb2, by simp at hL ⊢; omega, hn1, hn2⟩
        refine Weak.keep [0, 3] (by simp) rfl ?_ ?_
        · simp [leVs, leV, le1]
          simp at hL
          omega
        · simp [leH, leO, le1s, le1]
      · intro h1 h2
        have hn0 : n - i = 0 := by omega
        rw [hn0] at hap hnx
        have htot2 : tot = x :: out := by rw [← hap]; simp [pointF]
        have hfb : fin = b := hnx.symm
        rw [htot2, hfb, hus]
        simp (dsimp := false) (disch := omega) only [h2, Ap_end_ret, rules, Nat.reduceBEq]
        refine RetOK.lentB rfl ⟨trivial, trivial⟩ rfl (S_closed xs _) rfl ?_ rfl
        have hi1 : List.idxOf? 1 [0] = none := rfl
        simp (disch := omega) only [hul, htk, hi1, List.drop_zero, Nat.zero_add, Nat.le_refl, ↓reduceIte, St.get, fzX, oneRes, fzV, fzC, fz1, fz0, Option.map_some, List.getD_cons_succ, List.getD_cons_zero, List.getElem?_cons_zero, List.getElem?_cons_succ]

end Go.Proofs.YtjjbkjgifdhlcaaGreat

namespace Go.Pl
open Go.AM

theorem map_cn_getD {a : List Raw} {i : Nat} (g : Raw → Rat) (hi : i < a.length) : (((a.map g).map cn).getD i rz).q = g (a.getD i rz) := by
  have : ((a.map g).map cn).getD i rz = cn (g (a.getD i rz)) := by simp [List.getD_eq_getElem?_getD, hi]
  rw [this, cn_q]
end Go.Pl

namespace Go.Pl
open Go.AM

def co (a : List Raw) (i : Nat) : Rat := (a.getD i rz).q
def lv (a : List Raw) (x : Nat → Rat) : Nat → Rat
  | 0 => co a 8
  | k + 1 => lv a x k + co a k * x k
def lval (a : List Raw) (x : Nat → Rat) : Rat := lv a x 8
def upd (x : Nat → Rat) (v : Nat) (t : Rat) : Nat → Rat := fun i => if i = v then t else x i

theorem max_of : ∀ L : List Rat, L ≠ [] → ∃ m ∈ L, ∀ l ∈ L, l ≤ m
  | [], h => absurd rfl h
  | [a], _ => ⟨a, by simp, fun l hl => by simp at hl; subst hl; exact Rat.le_refl⟩
  | a :: b :: t, _ => by
    obtain ⟨m, hm, h⟩ := max_of (b :: t) (by simp)
    by_cases hc : a ≤ m
    · exact ⟨m, List.mem_cons_of_mem _ hm, fun l hl => by
        rcases List.mem_cons.1 hl with h1 | h1
        · rw [h1]; exact hc
        · exact h l h1⟩
    · exact ⟨a, by simp, fun l hl => by
        rcases List.mem_cons.1 hl with h1 | h1
        · rw [h1]; exact Rat.le_refl
        · have := h l h1
          grind⟩
theorem min_of : ∀ L : List Rat, L ≠ [] → ∃ m ∈ L, ∀ l ∈ L, m ≤ l
  | [], h => absurd rfl h
  | [a], _ => ⟨a, by simp, fun l hl => by simp at hl; subst hl; exact Rat.le_refl⟩
  | a :: b :: t, _ => by
    obtain ⟨m, hm, h⟩ := min_of (b :: t) (by simp)
    by_cases hc : m ≤ a
    · exact ⟨m, List.mem_cons_of_mem _ hm, fun l hl => by
        rcases List.mem_cons.1 hl with h1 | h1
        · rw [h1]; exact hc
        · exact h l h1⟩
    · exact ⟨a, by simp, fun l hl => by
        rcases List.mem_cons.1 hl with h1 | h1
        · rw [h1]; exact Rat.le_refl
        · have := h l h1
          grind⟩
theorem between (L U : List Rat) (h : ∀ l ∈ L, ∀ u ∈ U, l < u) : ∃ m, (∀ l ∈ L, l < m) ∧ (∀ u ∈ U, m < u) := by
  by_cases hL : L = []
  · by_cases hU : U = []
    · subst hL; subst hU; exact ⟨0, by simp, by simp⟩
    · obtain ⟨m, hm, hmin⟩ := min_of U hU
      subst hL
      exact ⟨m - 1, by simp, fun u hu => by have := hmin u hu; grind⟩
  · obtain ⟨m, hm, hmax⟩ := max_of L hL
    by_cases hU : U = []
    · subst hU
      exact ⟨m + 1, fun l hl => by have := hmax l hl; grind, by simp⟩
    · obtain ⟨w, hw, hmin⟩ := min_of U hU
      have hmw := h m hm w hw
      exact ⟨(m + w) / 2, fun l hl => by have := hmax l hl; grind, fun u hu => by have := hmin u hu; grind⟩

def Bound (a : List Raw) (v : Nat) (b : List Raw) : Prop := co a v ≠ 0 ∧ ∀ i, i < 9 → co b i = if v = i then 0 else co a i * (-1 / co a v)
end Go.Pl

namespace Go.Pl
open Go.AM

def Left (cs : List (List Raw)) (v : Nat) (B : List Raw → List Raw) (x : Nat → Rat) : Prop :=
  (∀ l ∈ cs, co l v = 0 → 0 < lval l x) ∧ ∀ l ∈ cs, ∀ u ∈ cs, 0 < co l v → co u v < 0 → lval (B l) x < lval (B u) x

structure Proj (cs : List (List Raw)) (v : Nat) (out : List (List Raw)) : Prop where
  says : ∃ B : List Raw → List Raw, (∀ l ∈ cs, co l v ≠ 0 → Bound l v (B l)) ∧ ∀ x, (∀ o ∈ out, 0 < lval o x) ↔ Left cs v B x
end Go.Pl

namespace Go.Pl
open Go.AM

def IsConst (a : List Raw) : Prop := ∀ i, i < 8 → co a i = 0
def nrmR (a : List Raw) : List Raw := (nrm a).map cn
structure IsSys (cs s : List (List Raw)) : Prop where
  sorted : s.Pairwise (fun a b => cmpR a b < 0)
  mem : ∀ f, f ∈ s ↔ ∃ l ∈ cs, ¬ IsConst l ∧ f = nrmR l
def occ (cs : List (List Raw)) (v : Nat) : Bool := cs.any (fun l => decide (co l v ≠ 0))
def nvars (cs : List (List Raw)) : Nat := ((List.range 8).filter (occ cs)).length
theorem occ_iff {cs : List (List Raw)} {v : Nat} : occ cs v = true ↔ ∃ l ∈ cs, co l v ≠ 0 := by
  unfold occ
  rw [List.any_eq_true]
  constructor
  · rintro ⟨l, hl, h⟩; exact ⟨l, hl, of_decide_eq_true h⟩
  · rintro ⟨l, hl, h⟩; exact ⟨l, hl, decide_eq_true h⟩
theorem nvars_pos {cs : List (List Raw)} {v : Nat} (hv : v < 8) (h : occ cs v = true) : 0 < nvars cs := by
  unfold nvars
  exact List.length_pos_iff.2 (fun h2 => by
    have : v ∈ (List.range 8).filter (occ cs) := List.mem_filter.2 ⟨List.mem_range.2 hv, h⟩
    rw [h2] at this; simp at this)
theorem not_const {a : List Raw} (h : ¬ IsConst a) : ∃ v, v < 8 ∧ co a v ≠ 0 := by
  rcases Classical.em (∃ v, v < 8 ∧ co a v ≠ 0) with h1 | h1
  · exact h1
  · exfalso
    apply h
    intro i hi
    rcases Classical.em (co a i = 0) with h2 | h2
    · exact h2
    · exact absurd ⟨i, hi, h2⟩ h1

end Go.Pl

namespace Go.Pl
open Go.AM

theorem lead_map2 {C : Rat} (hC : C ≠ 0) : ∀ {rs : List Raw}, (leadL ((rs.map (fun r => r.q / C)).map cn)).q = (leadL rs).q / C
  | [] => by simp only [List.map_nil, leadL]; rw [rz_q']; grind
  | [c] => by simp only [List.map_cons, List.map_nil, leadL, cn_q]
  | r :: s :: t => by
    have ih := lead_map2 hC (rs := s :: t)
    simp only [List.map_cons] at ih ⊢
    simp only [leadL]
    rw [cn_q]
    by_cases h : r.q = 0
    · rw [if_pos h, if_pos (by rw [h]; grind)]
      exact ih
    · rw [if_neg h, if_neg (by grind), cn_q]
theorem absq_pos2 {c : Rat} (h : c ≠ 0) : 0 < absq c := by
  have h1 : c.num < 0 ↔ c < 0 := num_neg_iff
  unfold absq
  split
  · rename_i h2
    have := h1.1 h2
    grind
  · rename_i h2
    have : ¬ c < 0 := fun h3 => h2 (h1.2 h3)
    grind
theorem absq_unit2 {c : Rat} (h : c ≠ 0) : absq (c / absq c) = 1 := by
  have hp := absq_pos2 h
  have h1 : (c / absq c).num < 0 ↔ c / absq c < 0 := num_neg_iff
  have h2 : c.num < 0 ↔ c < 0 := num_neg_iff
  by_cases hc : c.num < 0
  · have e : absq c = -c := if_pos hc
    have hc2 := h2.1 hc
    have e2 : c / absq c = -1 := by rw [e]; grind
    rw [e2]; rfl
  · have e : absq c = c := if_neg hc
    have e2 : c / absq c = 1 := by rw [e]; grind
    rw [e2]; rfl
theorem nrm_nrm2 {rs : List Raw} (_ : rs.length = 9) : nrm ((nrm rs).map cn) = nrm rs := by
  by_cases h : (leadL rs).q = 0
  · rw [nrm_zero h]
    apply nrm_zero
    have hm := leadL_mem (rs := (List.replicate 9 (0 : Rat)).map cn) (by simp)
    obtain ⟨q, hq, he⟩ := List.mem_map.1 hm
    rw [← he, cn_q]
    exact List.eq_of_mem_replicate hq
  · have h1 := nrm_of h
    have hC := absq_zero h
    have h2 : (leadL ((nrm rs).map cn)).q = (leadL rs).q / absq (leadL rs).q := by rw [h1]; exact lead_map2 hC
    have h3 : (leadL ((nrm rs).map cn)).q ≠ 0 := by rw [h2]; grind
    rw [nrm_of h3, h2, absq_unit2 h, List.map_map]
    have h4 : (fun r : Raw => r.q / 1) ∘ cn = id := by
      funext q
      simp only [Function.comp, cn_q, id]
      grind
    rw [h4, List.map_id]

theorem co_mem {a : List Raw} {i : Nat} (h : i < a.length) : a.getD i rz ∈ a := by
  rw [List.getD_eq_getElem?_getD, List.getElem?_eq_getElem h]; exact List.getElem_mem h
theorem lead_ne {l : List Raw} (hl : l.length = 9) (h : ¬ IsConst l) : (leadL l).q ≠ 0 := fun h0 => h (fun i hi => leadL_zero h0 _ (co_mem (by omega)))
theorem nrmR_at {l : List Raw} (hl : l.length = 9) (h : (leadL l).q ≠ 0) {i : Nat} (hi : i < 9) : co (nrmR l) i = co l i / absq (leadL l).q := by
  unfold co nrmR
  rw [nrm_of h]
  exact map_cn_getD (a := l) (fun r => r.q / absq (leadL l).q) (by omega)
theorem nrmR_pos {l : List Raw} (hl : l.length = 9) (h : ¬ IsConst l) : ∃ r : Rat, 0 < r ∧ ∀ i, i < 9 → co (nrmR l) i = r * co l i := by
  have h0 := lead_ne hl h
  have hp := absq_pos2 h0
  refine ⟨1 / absq (leadL l).q, ?_, fun i hi => by rw [nrmR_at hl h0 hi]; grind⟩
  have := Rat.inv_pos (a := absq (leadL l).q) |>.2 hp
  have e : 1 / absq (leadL l).q = (absq (leadL l).q)⁻¹ := by grind
  rw [e]; exact this
theorem nrmR_const {l : List Raw} (hl : l.length = 9) (h : ¬ IsConst l) : ¬ IsConst (nrmR l) := by
  obtain ⟨r, hr, he⟩ := nrmR_pos hl h
  intro h2
  apply h
  intro i hi
  have h3 := h2 i hi
  rw [he i (by omega)] at h3
  rcases Rat.mul_eq_zero.1 h3 with h4 | h4
  · rw [h4] at hr; exact absurd hr (Rat.lt_irrefl)
  · exact h4
theorem nrmR_idem {l : List Raw} (hl : l.length = 9) : nrmR (nrmR l) = nrmR l := by
  unfold nrmR; rw [nrm_nrm2 hl]
structure SysF (k : Nat) (s : List (List Raw)) : Prop where
  sorted : s.Pairwise (fun a b => cmpR a b < 0)
  ok : ∀ l ∈ s, LOk k l
  nc : ∀ l ∈ s, ¬ IsConst l
  nm : ∀ l ∈ s, nrmR l = l
theorem SysF.mono {j k : Nat} {s : List (List Raw)} (h : SysF j s) (hk : j ≤ k) : SysF k s := ⟨h.sorted, fun l hl => (h.ok l hl).mono hk, h.nc, h.nm⟩
theorem SysF.of {cs s : List (List Raw)} {k : Nat} (h9 : ∀ l ∈ cs, l.length = 9) (h : IsSys cs s) (hk : ∀ l ∈ cs, ¬ IsConst l → LOk k (nrmR l)) : SysF k s := by
  refine ⟨h.sorted, fun f hf => ?_, fun f hf => ?_, fun f hf => ?_⟩ <;> obtain ⟨l, hl, hc, rfl⟩ := (h.mem f).1 hf
  · exact hk l hl hc
  · exact nrmR_const (h9 l hl) hc
  · exact nrmR_idem (h9 l hl)
theorem IsSys.congr {cs ds s : List (List Raw)} (h : IsSys cs s) (hm : ∀ l, l ∈ cs ↔ l ∈ ds) : IsSys ds s := ⟨h.sorted, fun f => by rw [h.mem]; constructor <;> (rintro ⟨l, hl, h2⟩; exact ⟨l, by first | exact (hm l).1 hl | exact (hm l).2 hl, h2⟩)⟩
end Go.Pl

namespace Go.Pl
open Go.AM

end Go.Pl

namespace Go.Pl
open Go.AM

structure Sz (k : Nat) (s : List (List Raw)) : Prop where
  n3 : nvars s ≤ 3
  c3 : nvars s = 3 → s.length ≤ 5 ∧ k ≤ 14
  c2 : nvars s = 2 → s.length ≤ 7 ∧ k ≤ 120
  c1 : nvars s = 1 → s.length ≤ 12 ∧ k ≤ 1000
theorem occ_pos {s : List (List Raw)} {l : List Raw} (hl : l ∈ s) (hc : ¬ IsConst l) : 0 < nvars s := by
  obtain ⟨v, hv, h0⟩ := not_const hc
  exact nvars_pos hv (occ_iff.2 ⟨l, hl, h0⟩)
theorem Sz.all {k : Nat} {s : List (List Raw)} (h : Sz k s) (hp : 0 < nvars s) : s.length ≤ 12 ∧ k ≤ 1000 := by
  have h1 := h.n3
  have h2 := h.c3
  have h3 := h.c2
  have h4 := h.c1
  have : nvars s = 1 ∨ nvars s = 2 ∨ nvars s = 3 := by omega
  rcases this with h5 | h5 | h5
  · exact h4 h5
  · have := h3 h5; omega
  · have := h2 h5; omega
theorem Sz.len {k : Nat} {s : List (List Raw)} (h : Sz k s) (hs : SysF k s) : s.length ≤ 12 := by
  cases s with
  | nil => exact Nat.zero_le _
  | cons l t => exact (h.all (occ_pos (List.mem_cons_self ..) (hs.nc l (by simp)))).1
theorem Sz.lim {k : Nat} {s : List (List Raw)} (h : Sz k s) (hs : SysF k s) : ∀ l ∈ s, LOk 1000 l := fun l hl => (hs.ok l hl).mono (h.all (occ_pos hl (hs.nc l hl))).2
end Go.Pl

namespace Go.Pl
open Go.AM

def IsCn (f : List Raw) : Prop := ∃ qs : List Rat, f = qs.map cn ∧ qs.length = 9
theorem IsCn.len {f : List Raw} (h : IsCn f) : f.length = 9 := by obtain ⟨qs, rfl, hl⟩ := h; simp [hl]
end Go.Pl
