/- Plain: Eval and Substitute of sums, Norm of a normal form. -/
import Derived.Test.YteifpjjnphcdcaaE1
import Derived.Test.YteifpjjnphcdcaaOrders

namespace Go.Proofs.Yteifpjjnphcdcaa
open Go.AM Go.Pl

/-- r a + b. -/
def sumL (a : List Raw) (r : Rat) (b : List Raw) : List Raw := (addL ((a.map (fun x => x.q * r)).map cn) b).map cn
theorem sumL_at {a b : List Raw} {r : Rat} {i : Nat} (ha : i < a.length) (hb : i < b.length) : ((sumL a r b).getD i rz).q = (a.getD i rz).q * r + (b.getD i rz).q := by
  unfold sumL
  rw [addL_getD (by simp; omega) hb, cn_q, map_cn_getD _ ha]
theorem sumL_length {a b : List Raw} {r : Rat} (ha : a.length = 9) (hb : b.length = 9) : (sumL a r b).length = 9 := by
  unfold sumL; rw [List.length_map]; exact addL_length (by simp [ha]) hb
theorem eval_sum {a b : List Raw} {r : Rat} (ps : List Rat) (ha : a.length = 9) (hb : b.length = 9) : ∀ k, k ≤ 8 → evalN (sumL a r b) ps k = r * evalN a ps k + evalN b ps k
  | 0, _ => by
    unfold evalN
    rw [sumL_at (by omega) (by omega)]
    grind
  | k + 1, h => by
    unfold evalN
    rw [eval_sum ps ha hb k (by omega), sumL_at (by omega) (by omega)]
    grind
theorem subL_at {a b : List Raw} {v i : Nat} (ha : a.length = 9) (hb : b.length = 9) (hi : i < 9) :
    (((subL a v b).map cn).getD i rz).q = (if v = i then 0 else (a.getD i rz).q) + (b.getD i rz).q * (a.getD v rz).q := by
  unfold subL
  rw [addL_getD (by simp; omega) (by simp; omega), cn_q, map_cn_getD _ (by omega), set_getD (by omega)]
  by_cases h : v = i
  · rw [if_pos h, if_pos h, rz_q]
  · rw [if_neg h, if_neg h]
theorem sub_sum {a b y : List Raw} {r : Rat} {v : Nat} (ha : a.length = 9) (hb : b.length = 9) (hy : y.length = 9) (hv : v < 8) :
    cmpR ((subL (sumL a r b) v y).map cn) (sumL ((subL a v y).map cn) r ((subL b v y).map cn)) = 0 := by
  have hs := sumL_length (r := r) ha hb
  have l1 : ((subL (sumL a r b) v y).map cn).length = 9 := by rw [List.length_map]; exact subL_length v hs hy
  have l2 : ((subL a v y).map cn).length = 9 := by rw [List.length_map]; exact subL_length v ha hy
  have l3 : ((subL b v y).map cn).length = 9 := by rw [List.length_map]; exact subL_length v hb hy
  rw [cmpR_all (by rw [l1, sumL_length l2 l3])]
  intro i hi
  rw [l1] at hi
  rw [subL_at hs hy hi, sumL_at (a := (subL a v y).map cn) (by omega) (by omega), subL_at ha hy hi, subL_at hb hy hi, sumL_at (a := a) (i := i) (by omega) (by omega), sumL_at (a := a) (i := v) (by omega) (by omega)]
  by_cases h : v = i
  · rw [if_pos h, if_pos h, if_pos h]; grind
  · rw [if_neg h, if_neg h, if_neg h]; grind
theorem lead_map {C : Rat} (hC : C ≠ 0) : ∀ {rs : List Raw}, (leadL ((rs.map (fun r => r.q / C)).map cn)).q = (leadL rs).q / C
  | [] => by simp only [List.map_nil, leadL]; rw [rz_q]; grind
  | [c] => by simp only [List.map_cons, List.map_nil, leadL, cn_q]
  | r :: s :: t => by
    have ih := lead_map hC (rs := s :: t)
    simp only [List.map_cons] at ih ⊢
    simp only [leadL]
    rw [cn_q]
    by_cases h : r.q = 0
    · rw [if_pos h, if_pos (by rw [h]; grind)]
      exact ih
    · rw [if_neg h, if_neg (by grind), cn_q]
theorem absq_pos {c : Rat} (h : c ≠ 0) : 0 < absq c := by
  have h1 : c.num < 0 ↔ c < 0 := num_neg_iff
  unfold absq
  split
  · rename_i h2
    have := h1.1 h2
    grind
  · rename_i h2
    have : ¬ c < 0 := fun h3 => h2 (h1.2 h3)
    grind
theorem absq_unit {c : Rat} (h : c ≠ 0) : absq (c / absq c) = 1 := by
  have hp := absq_pos h
  have h1 : (c / absq c).num < 0 ↔ c / absq c < 0 := num_neg_iff
  have h2 : c.num < 0 ↔ c < 0 := num_neg_iff
  by_cases hc : c.num < 0
  · have e : absq c = -c := if_pos hc
    have hc2 := h2.1 hc
    have e2 : c / absq c = -1 := by rw [e]; grind
    rw [e2]; rfl
  · have e : absq c = c := if_neg hc
    have e2 : c / absq c = 1 := by rw [e]; grind
    rw [e2]; rfl
theorem nrm_nrm {rs : List Raw} (hl : rs.length = 9) : nrm ((nrm rs).map cn) = nrm rs := by
  by_cases h : (leadL rs).q = 0
  · rw [nrm_zero h]
    apply nrm_zero
    have hm := leadL_mem (rs := (List.replicate 9 (0 : Rat)).map cn) (by simp)
    obtain ⟨q, hq, he⟩ := List.mem_map.1 hm
    rw [← he, cn_q]
    exact List.eq_of_mem_replicate hq
  · have h1 := nrm_of h
    have hC := absq_zero h
    have h2 : (leadL ((nrm rs).map cn)).q = (leadL rs).q / absq (leadL rs).q := by rw [h1]; exact lead_map hC
    have h3 : (leadL ((nrm rs).map cn)).q ≠ 0 := by rw [h2]; grind
    rw [nrm_of h3, h2, absq_unit h, List.map_map]
    have h4 : (fun r : Raw => r.q / 1) ∘ cn = id := by
      funext q
      simp only [Function.comp, cn_q, id]
      grind
    rw [h4, List.map_id]
theorem nrm_at {rs : List Raw} {i : Nat} (hl : rs.length = 9) (hi : i < 9) : (((nrm rs).map cn).getD i rz).q = if (leadL rs).q = 0 then 0 else (rs.getD i rz).q / absq (leadL rs).q := by
  by_cases h : (leadL rs).q = 0
  · rw [if_pos h, nrm_zeros h hl, map_cn_getD _ (by omega)]
    apply leadL_zero h
    rw [List.getD_eq_getElem?_getD, List.getElem?_eq_getElem (by omega)]
    exact List.getElem_mem _
  · rw [if_neg h, nrm_of h, map_cn_getD _ (by omega)]
theorem eval_nrm {rs : List Raw} (ps : List Rat) (hl : rs.length = 9) : ∀ k, k ≤ 8 → evalN ((nrm rs).map cn) ps k = if (leadL rs).q = 0 then 0 else evalN rs ps k / absq (leadL rs).q
  | 0, _ => by
    unfold evalN
    exact nrm_at hl (by omega)
  | k + 1, h => by
    unfold evalN
    rw [eval_nrm ps hl k (by omega), nrm_at hl (by omega)]
    by_cases h0 : (leadL rs).q = 0
    · rw [if_pos h0, if_pos h0, if_pos h0]; grind
    · rw [if_neg h0, if_neg h0, if_neg h0]; grind
theorem eval_zero {rs : List Raw} (ps : List Rat) (hl : rs.length = 9) (h : (leadL rs).q = 0) : ∀ k, k ≤ 8 → evalN rs ps k = 0
  | 0, _ => by
    unfold evalN
    apply leadL_zero h
    rw [List.getD_eq_getElem?_getD, List.getElem?_eq_getElem (by omega)]
    exact List.getElem_mem _
  | k + 1, hk => by
    unfold evalN
    rw [eval_zero ps hl h k (by omega)]
    have : (rs.getD k rz).q = 0 := by
      apply leadL_zero h
      rw [List.getD_eq_getElem?_getD, List.getElem?_eq_getElem (by omega)]
      exact List.getElem_mem _
    rw [this]; grind
theorem sign_nrm {rs : List Raw} (ps : List Rat) (hl : rs.length = 9) : sgq (evalN ((nrm rs).map cn) ps 8) = sgq (evalN rs ps 8) := by
  rw [eval_nrm ps hl 8 (by decide)]
  by_cases h0 : (leadL rs).q = 0
  · rw [if_pos h0, eval_zero ps hl h0 8 (by decide)]
  · rw [if_neg h0]
    have hp := absq_pos h0
    have e : evalN rs ps 8 = evalN rs ps 8 / absq (leadL rs).q * absq (leadL rs).q := by grind
    conv => rhs; rw [e, sgq_mul, sgq_of_pos hp, Int.mul_one]

end Go.Proofs.Yteifpjjnphcdcaa
