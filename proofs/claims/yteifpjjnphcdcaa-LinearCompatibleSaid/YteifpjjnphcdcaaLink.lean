/- The road from a contract to a law's statement: a list of numbers that came in. -/
import Derived.Test.YteifpjjnphcdcaaRows
import Derived.Test.YteifpjjnphcdcaaNew
import Derived.ProofKit
import Derived.Below

namespace Go.Proofs.Yteifpjjnphcdcaa
open Go.ChangeShapes Go.WideShapes Go.ChangeAt Go.RowKit

theorem Try.own : ownKnob Try.prog.godebug = none := by kernel_rfl
theorem Try.laidOut : laidOutB Try.prog = true := by kernel_rfl
theorem Try.cells3 : Try.prog.cellsOf 3 = 1 := by kernel_rfl

theorem block_below {w : World} {a : Addr} {v : Value} (h : w.cell? a = some v) : a.block < w.heap.size := by
  unfold World.cell? at h
  split at h
  · rename_i hb; exact (Array.getElem?_eq_some_iff.1 hb).1
  · cases h
set_option maxRecDepth 100000 in
/-- A list of numbers that came in, as the abstract machine reads it. -/
theorem ints_read {W : World} {base : Nat} {v0 : Value} {H : Type} {enc : TypeId × Value → H} {fuel : Nat} {held : Bool} {x : DataW H × List MemPlace} (hok : Value.okWide Try.prog W .any base 22 v0)
    (hf : DataW.trod enc Try.prog W 0 (fun _ => true) held fuel 22 v0.cells.toList = some x) :
    ∃ l : List Int, W64 l ∧ l.length < 9223372036854775808 ∧ Go.AM.FRd W (fun _ => False) v0 (.sl (ints l)) := by
  obtain ⟨a0, len, cap, rfl⟩ := okWide_slice Try.underlying22 hok
  rcases open_ints Try.underlying22 Try.underlying3 Try.cells3 hf with ⟨hcs, hx⟩ | ⟨a, len', cap', zs, hcs, _, hl, hm, hz, hx, hcell, hwz⟩
  · simp [Value.cells] at hcs
    obtain ⟨rfl, rfl, rfl⟩ := hcs
    exact ⟨[], fun x h => by simp at h, by simp, .nil⟩
  · simp [Value.cells] at hcs
    obtain ⟨rfl, rfl, rfl⟩ := hcs
    simp only [if_true] at hz
    obtain ⟨b, off, spot⟩ := a
    have hspot : spot = none := by
      simp only [Value.okWide, Try.underlying22, Cell.okWide, Cell.ok] at hok
      exact hok.2.2.2.1
    subst hspot
    unfold maxLen at hm
    refine ⟨zs.take len, fun x h => ?_, ?_, ?_⟩
    · have h1 := hwz x (List.mem_of_mem_take h)
      simp [Lit.wf, IntKind.min, IntKind.max, IntKind.signed, IntKind.bits] at h1
      omega
    · rw [List.length_take]; omega
    · refine .sl ⟨b, off, none⟩ len cap 1 (ints (zs.take len)) (fun i _ => .int .i64 (zs.getD i 0)) ?_ hl ?_ rfl (fun _ h => h) (fun h => ?_) (fun i j x y hx hy => ?_) (fun i j x y hx hy => ?_)
      · rw [ints_length, List.length_take]; omega
      · intro x hx
        simp only [ints, List.mem_map] at hx
        obtain ⟨n, _, rfl⟩ := hx
        rfl
      · exact block_below (hcell 0 (by omega))
      · have hi : i < (ints (zs.take len)).length := (List.getElem?_eq_some_iff.1 hx).1
        rw [ints_length, List.length_take] at hi
        have hxe : x = [Go.AM.FV.lit (.int .i64 ((zs.take len).getD i 0))] := by
          have := hx
          simp only [ints, List.getElem?_map] at this
          rw [List.getElem?_eq_getElem (by rw [List.length_take]; omega)] at this
          simp at this
          rw [← this]
          simp [show i < len by omega, show i < zs.length by omega]
        subst hxe
        have hj : j = 0 := by
          have := (List.getElem?_eq_some_iff.1 hy).1
          simp at this
          exact this
        subst hj
        have h7 := hcell i (by omega)
        have h8 : (⟨b, off, none⟩ : Addr).add i = ⟨b, off + (i * 1 + 0), none⟩ := by
          unfold Addr.add
          split
          · rename_i h9; subst h9; simp
          · simp
        rw [h8] at h7
        exact h7
      · have hi : i < (ints (zs.take len)).length := (List.getElem?_eq_some_iff.1 hx).1
        rw [ints_length, List.length_take] at hi
        have hxe : x = [Go.AM.FV.lit (.int .i64 (zs.getD i 0))] := by
          have := hx
          simp only [ints, List.getElem?_map] at this
          rw [List.getElem?_eq_getElem (by rw [List.length_take]; omega)] at this
          simp at this
          rw [← this]
          simp [show i < zs.length by omega]
        subst hxe
        have hj : j = 0 := by
          have := (List.getElem?_eq_some_iff.1 hy).1
          simp at this
          exact this
        subst hj
        simp at hy
        subst hy
        exact .lit _ rfl


/-- The call of a law of one list. -/
theorem law_one {k : FuncId} {l : List Int} {W : World} {v0 : Value} (hr : Go.AM.FRd W (fun _ => False) v0 (.sl (ints l))) (hd : Go.AM.Den Try.prog k [] [.fv (.sl (ints l))] [] (.bool true)) :
    Calls Try.prog k #[v0] W fun e W' => e = .returned (.bool true) ∧ Below W.heap.size W W' := by
  refine (hd.2 ⟨W, fun _ => False, fun _ => False, [], fun _ h => h.elim⟩ (fun _ => False) [] #[v0] ⟨rfl, fun id p o h _ => by simp at h, fun i j p q o r g h _ => by simp at h, fun id p o g h _ => by simp at h, fun b h => h.elim, fun b h => h.elim, Nat.le_refl _, Go.AM.Places.Le.refl _⟩ (fun b h => h.elim) ⟨rfl, fun i v x hv hx => ?_⟩).mono fun e W' ⟨v, X', ρ', he, hk, hh, hp, _, _⟩ => ?_
  · cases i with
    | zero => simp at hv hx; subst hv; subst hx; exact .fv _ _ hr
    | succ i => simp at hv
  · subst he
    have hv : v = .bool true := by
      cases hp with
      | fv _ _ h => cases h with
        | lit => rfl
    subst hv
    exact ⟨rfl, hk.os, hk.tape, hk.output, hk.size, fun k h => hk.block k h (fun h => h)⟩
/-- The call of a law of a list and a number. -/
theorem law_two {k : FuncId} {l : List Int} {u : Int} {W : World} {v0 : Value} (hr : Go.AM.FRd W (fun _ => False) v0 (.sl (ints l))) (hd : Go.AM.Den Try.prog k [] [.fv (.sl (ints l)), .int .i64 u] [] (.bool true)) :
    Calls Try.prog k #[v0, .int .i64 u] W fun e W' => e = .returned (.bool true) ∧ Below W.heap.size W W' := by
  refine (hd.2 ⟨W, fun _ => False, fun _ => False, [], fun _ h => h.elim⟩ (fun _ => False) [] #[v0, .int .i64 u] ⟨rfl, fun id p o h _ => by simp at h, fun i j p q o r g h _ => by simp at h, fun id p o g h _ => by simp at h, fun b h => h.elim, fun b h => h.elim, Nat.le_refl _, Go.AM.Places.Le.refl _⟩ (fun b h => h.elim) ⟨rfl, fun i v x hv hx => ?_⟩).mono fun e W' ⟨v, X', ρ', he, hk, hh, hp, _, _⟩ => ?_
  · match i with
    | 0 => simp at hv hx; subst hv; subst hx; exact .fv _ _ hr
    | 1 => simp at hv hx; subst hv; subst hx; exact .fv _ _ (.lit _ rfl)
    | i + 2 => simp at hv
  · subst he
    have hv : v = .bool true := by
      cases hp with
      | fv _ _ h => cases h with
        | lit => rfl
    subst hv
    exact ⟨rfl, hk.os, hk.tape, hk.output, hk.size, fun k h => hk.block k h (fun h => h)⟩

end Go.Proofs.Yteifpjjnphcdcaa
