/- Contracts: New; the law LinearNorms. -/
import Derived.Test.YteifpjjnphcdcaaS1

namespace Go.Proofs.Yteifpjjnphcdcaa
open Go.AM Go.Pl
set_option maxRecDepth 100000
set_option maxHeartbeats 2000000

/-- The end of a function that hands over an object, by a pointer. -/
theorem RetOK.ownB {T : Tab} {st : St} {rs : List ResultVar} {id : Nat} {ob : Ob} {cd : Prop} (h1 : resVs T st rs = some (cd, [.ptr id 0 0])) (hc : cd) (h2 : st.heap[id]? = some ob) (hcl : ob.closed) (hrw : ob.rw = true) :
    RetOK T rs 0 st [ob] (.ptr 0 0 0) := by
  refine ⟨cd, [.ptr id 0 0], [id], h1, hc, by simp, fun i hi => absurd hi (Nat.not_lt_zero i), ?_, rfl, fun j k hj => ?_, fun o ho => ?_⟩
  · simp [oneRes, fzX, fzV, fzC, List.idxOf?_cons]
  · cases j with
    | zero =>
      simp at hj; subst hj
      simp [oneRes, idsX, idsV, idsC, List.idxOf?_cons, shutIds, h2]
    | succ j => simp at hj
  · simp at ho; subst ho; exact ⟨hcl, hrw⟩

theorem den10 (l : List Int) (hl : l.length < 9223372036854775808) : Den Try.prog 10 [] [.fv (.sl (ints l))] [S (l.take 1000) 0] (.ptr 0 0 0) := by
  have hil := ints_length l
  have hc := S_closed (l.take 1000) 0
  have hone : ∀ y ∈ ints l, y.length = 1 := by
    intro y hy
    simp only [ints, List.mem_map] at hy
    obtain ⟨n, _, rfl⟩ := hy
    rfl
  unfold S at hc ⊢
  by_cases h : l.length > 1000
  · have h1 : decide ((l.length : Int) > 1000) = true := decide_eq_true (by omega)
    have htk : List.take 1000 (ints l) = ints (l.take 1000) := by simp [ints, List.map_take]
    refine den_of tabOk mixed Try.func10 (cd := _) rfl (by decide) rfl (n := 10) rfl rfl (m := 0) rfl ?_
    simp (dsimp := false) (disch := omega) only [List.replicate, hil, h1, htk, Int.reduceToNat, Ap_end_ret, rules, tys, eq_self, ↓reduceIte, Nat.reduceAdd, Nat.reduceSub, Nat.reduceLT, Nat.reduceLeDiff]
    refine ⟨⟨by omega, by omega, hone⟩, ?_⟩
    exact RetOK.ownB rfl ⟨trivial, trivial⟩ rfl hc rfl
  · have h1 : decide ((l.length : Int) > 1000) = false := decide_eq_false (by omega)
    rw [List.take_of_length_le (by omega)] at hc ⊢
    refine den_of tabOk mixed Try.func10 (cd := _) rfl (by decide) rfl (n := 10) rfl rfl (m := 0) rfl ?_
    simp (dsimp := false) (disch := omega) only [List.replicate, hil, h1, Ap_end_ret, rules, tys, eq_self, ↓reduceIte, Nat.reduceAdd, Nat.reduceLT, Nat.reduceLeDiff]
    exact RetOK.ownB rfl ⟨trivial, trivial⟩ rfl hc rfl

theorem nrm_bd {rs : List Raw} (h : LOk 4 rs) : ∀ x ∈ nrm rs, Bd 1000000000 x := by
  intro x hx
  by_cases h0 : (leadL rs).q = 0
  · rw [nrm_zero h0] at hx
    rw [List.eq_of_mem_replicate hx]
    exact Bd.zero (by decide)
  · rw [nrm_of h0] at hx
    simp only [List.mem_map] at hx
    obtain ⟨r, hr, rfl⟩ := hx
    have hne : rs ≠ [] := fun h2 => by rw [h2] at hr; simp at hr
    have b1 := (h.ok _ hr).bd (by decide)
    have b2 := (h.ok _ (leadL_mem hne)).bd (by decide)
    have b3 : Bd 4 (absq (leadL rs).q) := by unfold absq; split; exact b2.neg; exact b2
    exact Bd.mono (b1.div b3 (absq_zero h0) (by decide)) (by decide)
theorem nrm_length {rs : List Raw} (h : rs.length = 9) : (nrm rs).length = 9 := by
  unfold nrm; split
  · simp
  · simp [h]

theorem den3 (l : List Int) (hl : l.length < 9223372036854775808) (hw : W64 l) : Den Try.prog 3 [] [.fv (.sl (ints l))] [] (.bool true) := by
  have h10 := den10 l hl
  have hwt : W64 (l.take 1000) := fun x hx => hw x (List.mem_of_mem_take hx)
  have h9 := den9 (l.take 1000) 0 (by rw [List.length_take]; omega) (Nat.zero_le _) hwt
  have hc := S_closed (l.take 1000) 0
  have hok := looseF_ok (l.take 1000) 0
  obtain ⟨⟨rs, a1⟩, hr⟩ : ∃ t, looseF (l.take 1000) 0 = t := ⟨_, rfl⟩
  rw [hr] at h9 hok
  dsimp only at h9 hok
  have hlen := hok.len
  have hfl : (flat rs).length = 27 := by rw [flat_length]; omega
  have h12 := den12 rs (hok.mono (by decide))
  have h13 := den13 rs (hok.mono (by decide))
  have h11 := den11 (nrm rs) (nrm rs) (nrm_length hlen) (nrm_length hlen) (nrm_bd hok) (nrm_bd hok)
  have h14 := den14
  rw [decide_eq_true rfl] at h11
  unfold FL RL at h11 h12 h13
  unfold RL at h9
  obtain ⟨zs, hz⟩ : ∃ t, (nrm rs).map cn = t := ⟨_, rfl⟩
  have hzl : zs.length = 9 := by rw [← hz, List.length_map]; exact nrm_length hlen
  have h27 : (flat zs).length = 27 := by rw [flat_length]; omega
  rw [hz] at h11 h12 h13
  unfold S at h9 h10 hc
  refine den_of tabOk mixed Try.func3 (cd := _) rfl (by decide) rfl (n := 14) rfl rfl (m := 0) rfl ?_
  simp (dsimp := false) (disch := omega) only [List.replicate, rules]
  refine GoCall.pure h10 rfl ?_
  simp (dsimp := false) (disch := omega) only [List.append_nil, rules]
  refine GoCall.lend 0 h9 rfl rfl hc rfl rfl rfl ?_
  simp (dsimp := false) (disch := omega) only [sh1, List.append_nil, flat_reloc, hfl, rules, tys, eq_self, Nat.reduceAdd, Nat.reduceLT, Nat.reduceLeDiff]
  refine Draw.intro (by kernel_rfl) ?_
  simp (dsimp := false) (disch := omega) only [flat_take27 hlen, rules, tys, eq_self, ↓reduceIte]
  repeat refine And.intro (by omega) ?_
  refine GoCall.pure h12 (by simp [fzAs, fzA, flat_fz, flatF_fv]) ?_
  simp (dsimp := false) (disch := omega) only [flat_ids, flat_reloc, List.append_nil, flat_take27 hlen, rules, tys, eq_self, ↓reduceIte, Nat.reduceAdd]
  repeat refine And.intro (by omega) ?_
  refine GoCall.pure h13 (by simp [fzAs, fzA, flat_fz, flatF_fv]) ?_
  simp (dsimp := false) (disch := omega) only [flat_ids, flat_reloc, List.append_nil, rules, Nat.reduceAdd]
  refine GoCall.pure h11 (by simp [fzAs, fzA, flat_fz, flatF_fv]) ?_
  simp (dsimp := false) (disch := omega) only [flat_ids, List.append_nil, rules, Nat.reduceAdd]
  refine GoCall.pure h14 rfl ?_
  simp (dsimp := false) (disch := omega) only [List.append_nil, Ap_end_ret, rules, eq_self, ↓reduceIte, Nat.reduceAdd]
  repeat refine And.intro (by omega) ?_
  exact RetOK.pure rfl ⟨trivial, trivial⟩ rfl

end Go.Proofs.Yteifpjjnphcdcaa
