/- LinearPolys holds: for every list of numbers the law answers true, and the list reads behind the call as it read before. -/
import Derived.Test.YtjjbkjgifdhlcaaGreatT14
import Derived.Test.YtjjbkjgifdhlcaaGreatT15

namespace Go.Proofs.YtjjbkjgifdhlcaaGreat
open Go.ChangeShapes Go.WideShapes Go.ChangeAt Go.RowKit

set_option maxRecDepth 100000 in
theorem linearPolys_lifted (os : Os) (started : os.Started) (H : Type) (enc : TypeId × Value → H) :
    ReturnsInHanded {} Tryz.checked os 3 .any (Rows.linearPolysSpec.pre6 enc Tryz.prog Tryz.f3 Rows.linearPolysRow.domain false) (Rows.linearPolysSpec.post enc Tryz.prog Tryz.f3 false true false false) := by
  refine returnsInHanded_of_change (C := Tryz.checked) Tryz.own started (by kernel_rfl) Tryz.func3
    (ChangeSpec.witness6 (enc := enc) (C := Tryz.checked) false ⟨#[], #[.slice none 0 0], []⟩ 8 (by kernel_rfl) (by kernel_rfl) (by kernel_rfl) (by kernel_rfl)) ?_
  intro W base args ds gs before hval0 hW hcnd _
  have hval : ∀ (j : Nat) t v, Tryz.f3.params[j]? = some t → args[j]? = some v → Value.okWide Tryz.prog W .any base t v := hval0
  have hW' := hW
  obtain ⟨p, q, hA0, hV, rfl, hfz, hnd⟩ := hW
  have hA : DataW.TrodAll enc Tryz.prog W 0 (fun _ => true) true Tryz.f3.params.toList args.toList ds p := hA0
  rw [Tryz.params3] at hA hval
  obtain ⟨v0, d0, rfl, rfl, h0⟩ := trodAll_one hA
  obtain ⟨rfl, rfl⟩ := trodVars_none hV
  have h0k := h0
  obtain ⟨fuel, hf⟩ := h0
  clear hA0 hval0
  simp only [List.append_nil] at hW'
  have hlt : ∀ x ∈ p, x.block < W.heap.size := fun x hx => by simpa using hW'.lt x hx
  obtain ⟨l, hw, hl, hr⟩ := ints_read (hval 0 22 v0 rfl rfl) hf
  refine (law_one hr (iq3 l hl hw)).mono fun e W' ⟨he, hB⟩ => ?_
  subst he
  have hargs : DataW.Trod enc Tryz.prog W' 0 (fun b => decide (b < W.heap.size)) true 22 v0 d0 p := Below.trod Tryz.laidOut (by kernel_rfl) (of_decide_eq_true (by kernel_rfl)) h0k hB hlt
  exact ⟨_, rfl, ⟨_, _, _, [], _, [], hW', trodAll_mk1 (shut_bool Tryz.underlying4 true), trodAll_mk1 hargs, rfl, hB.frame _, fun h => by cases h⟩⟩

theorem j1 : Tryz.pinned.checked.prog.inPlace 3 = Rows.linearPolysRow.inPlace := by kernel_rfl
theorem j2 : Tryz.pinned.checked.prog.unfollowed 3 = Rows.linearPolysRow.unfollowed := by kernel_rfl
theorem j3 : Tryz.pinned.checked.prog.recurses 3 = Rows.linearPolysRow.recurses := by kernel_rfl
theorem j4 : Tryz.pinned.checked.prog.varsNamed 3 = Rows.linearPolysRow.named := by kernel_rfl
theorem j5 : joinedFacts Tryz.pinned.checked.prog 3 Tryz.f3 Rows.linearPolysSpec Rows.linearPolysRow = true := by
  unfold joinedFacts
  rw [j1, j2, j3, j4]
  kernel_rfl

theorem linearPolys_holds : Rows.LinearPolysSaid :=
  OpenClaim.holds_of_wide 3 Tryz.f3 rfl rfl rfl rfl rfl rfl rfl ⟨rfl, rfl, rfl, rfl, rfl⟩ rfl rfl rfl rfl rfl (by kernel_rfl) Tryz.func3 j5
    (of_decide_eq_true (by kernel_rfl)) (by unfold Func.isWrapper; first | (rw [if_pos (by decide +kernel)]; kernel_rfl) | (rw [if_neg (by decide +kernel)]; exact ⟨rfl, rfl⟩))
    (fun os started H enc _ => linearPolys_lifted os started H enc)

end Go.Proofs.YtjjbkjgifdhlcaaGreat
