/- Contracts: linear: Eval; the reader: Point. -/
import Derived.Test.YteifpjjnphcdcaaL4
import Derived.Test.YteifpjjnphcdcaaS2
import Derived.Test.YteifpjjnphcdcaaL3
import Derived.Test.YteifpjjnphcdcaaP2

namespace Go.Proofs.Yteifpjjnphcdcaa
open Go.AM Go.Pl
set_option maxRecDepth 100000
set_option maxHeartbeats 4000000

/-- Numbers in normal form, as a slice of fractions. -/
def rats (ps : List Rat) : List (List FV) := ps.map (fun q => (cn q).f)
theorem rats_length (ps : List Rat) : (rats ps).length = ps.length := by simp [rats]
theorem rats_getD {ps : List Rat} {i : Nat} (h : i < ps.length) : (rats ps).getD i [] = [FV.lit (Value.bool (cn (ps.getD i 0)).neg), FV.sl (u32s (cn (ps.getD i 0)).num), FV.sl (u32s (cn (ps.getD i 0)).den)] := by
  simp [rats, List.getD_eq_getElem?_getD, h, Raw.f]
/-- A form's value at a point: the first i variables. -/
def evalN (a : List Raw) (ps : List Rat) : Nat → Rat
  | 0 => (a.getD 8 rz).q
  | i + 1 => evalN a ps i + (a.getD i rz).q * ps.getD i 0
theorem evalN_bd {a : List Raw} {ps : List Rat} {j : Nat} (ha : LOk j a) (hj : 1 ≤ j) (hp : ∀ q ∈ ps, Bd 2 q) (hl : ps.length = 8) : ∀ i, i ≤ 8 → Bd (j + i * (j + 3)) (evalN a ps i)
  | 0, _ => by simpa [evalN] using (ha.at 8).bd hj
  | i + 1, h => by
    have ih := evalN_bd ha hj hp hl i (by omega)
    have hq : Bd 2 (ps.getD i 0) := by
      rw [List.getD_eq_getElem?_getD, List.getElem?_eq_getElem (by omega)]
      exact hp _ (List.getElem_mem _)
    have hm := ((ha.at i).bd hj).mul hq (by omega)
    have hs := ih.add hm (by omega)
    unfold evalN
    have e : j + i * (j + 3) + (j + 2) + 1 = j + (i + 1) * (j + 3) := by rw [Nat.add_mul]; omega
    rw [← e]
    exact hs

theorem den28 (a : List Raw) (ps : List Rat) (ha : LOk 1000 a) (hp : ∀ q ∈ ps, Bd 2 q) (hl : ps.length = 8) : Den Try.prog 28 [] [RL a, .fv (.sl (rats ps))] [] (FR (evalN a ps 8)) := by
  have la := ha.len
  have fa := flat_length a
  have htk : List.take 24 (flat a) = flat (a.take 8) := flat_take 8 a
  have f8 : (flat (a.take 8)).length = 24 := by rw [flat_length, List.length_take]; omega
  have hat8 := flat_at (rs := a) (i := 8) (by omega)
  simp only [Nat.reduceMul] at hat8
  have h41 := den41 (a.getD 8 rz) ((ha.at 8).mono (by decide))
  have hrl := rats_length ps
  unfold RL
  obtain ⟨r8, hr8⟩ : ∃ t, a.getD 8 rz = t := ⟨_, rfl⟩
  have hz0 : evalN a ps 0 = r8.q := by unfold evalN; rw [hr8]
  rw [hr8] at hat8 h41
  rw [FR_eq] at h41
  unfold Raw.v at h41
  refine den_of tabOk mixed Try.func28 (cd := _) rfl (by decide) rfl (n := 29) rfl rfl (m := 0) rfl ?_
  simp (dsimp := false) (disch := omega) only [List.replicate, hat8, rules, tys, eq_self, ↓reduceIte, Nat.reduceAdd, Nat.reduceLT]
  repeat refine And.intro (by omega) ?_
  refine GoCall.pure h41 rfl ?_
  simp (dsimp := false) (disch := omega) only [List.append_nil, htk, rules, tys, eq_self, ↓reduceIte, Nat.reduceAdd, Nat.reduceLT, Nat.reduceLeDiff]
  repeat refine And.intro (by omega) ?_
  refine WA.loop (α := Nat) (fun i => ⟨[.any, .fv (.sl (rats ps)), .ptr 0 0 0, .any, .ptr 1 0 0, .ptr 2 0 0, .any, .any, .any, .any, .any, .any, .agg (flat (a.take 8)), .int .i64 i] ++ List.replicate 17 .any, [.box true (flat a), .box true [.bool false, .nilsl, .nilsl], .box true [.bool (cn (evalN a ps i)).neg, .fv (.sl (u32s (cn (evalN a ps i)).num)), .fv (.sl (u32s (cn (evalN a ps i)).den))]]⟩)
    (fun i => 8 - i) (fun i => i ≤ 8) 0 ?_ ?_ ?_
  · refine Weak.keep [0, 1, 2] (by simp) rfl ?_ ?_
    · simp [leVs, leV, le1, le_flat]
    · rw [hz0]
      simp [leH, leO, le1s, le1, le_flat, cn, N]
  · exact Nat.zero_le _
  · rintro i hi
    simp (dsimp := false) (disch := omega) only [List.replicate, rules, tys, eq_self, ↓reduceIte]
    refine Br.dec ?_ ?_
    · intro h1 h2
      have hi8 : i < 8 := by omega
      have hat := flat_at (rs := a.take 8) (i := i) (by rw [List.length_take]; omega)
      have hgd : (a.take 8).getD i rz = a.getD i rz := by
        simp only [List.getD_eq_getElem?_getD, List.getElem?_take]
        rw [if_pos (by omega)]
      rw [hgd] at hat
      have hrow := rats_getD (ps := ps) (i := i) (by omega)
      have hqb : Bd 2 (ps.getD i 0) := by
        rw [List.getD_eq_getElem?_getD, List.getElem?_eq_getElem (by omega)]
        exact hp _ (List.getElem_mem _)
      have hsb := evalN_bd ha (by decide) hp hl i (by omega)
      have h54 := den54 (a.getD i rz) (cn (ps.getD i 0)) ((ha.at i).mono (by decide)) (Raw.Ok.mono (cn_ok hqb) (by decide))
      rw [cn_q] at h54
      have hmb : Bd 1002 ((a.getD i rz).q * ps.getD i 0) := Bd.mul (j := 1000) (k := 2) ((ha.at i).bd (by decide)) hqb (by decide)
      have h51 := den51 (cn (evalN a ps i)) (cn ((a.getD i rz).q * ps.getD i 0)) (Raw.Ok.mono (cn_ok hsb) (by omega)) (Raw.Ok.mono (cn_ok hmb) (by decide))
      rw [cn_q, cn_q] at h51
      have hev : evalN a ps i + (a.getD i rz).q * ps.getD i 0 = evalN a ps (i + 1) := rfl
      rw [hev] at h51
      change Den Try.prog 51 [] [(cn (evalN a ps i)).v, FR ((a.getD i rz).q * ps.getD i 0)] [] (cn (evalN a ps (i + 1))).v at h51
      obtain ⟨r, hr⟩ : ∃ t, a.getD i rz = t := ⟨_, rfl⟩
      obtain ⟨p, hpp⟩ : ∃ t, cn (ps.getD i 0) = t := ⟨_, rfl⟩
      obtain ⟨e0, he0⟩ : ∃ t, cn (evalN a ps i) = t := ⟨_, rfl⟩
      obtain ⟨e1, he1⟩ : ∃ t, cn (evalN a ps (i + 1)) = t := ⟨_, rfl⟩
      rw [hr] at hat h54 h51
      rw [hpp] at hrow h54
      rw [he0, he1] at h51
      rw [he0]
      rw [FR_eq] at h54 h51
      unfold Raw.v at h54 h51
      have hl3 : ([FV.lit (Value.bool p.neg), FV.sl (u32s p.num), FV.sl (u32s p.den)] : List FV).length = 3 := rfl
      have hlen : decide ((i : Int) < ((rats ps).length : Int)) = true := decide_eq_true (by omega)
      simp (dsimp := false) (disch := omega) only [List.append_nil, h2, hat, rules, tys, eq_self, ↓reduceIte, Nat.reduceAdd, Nat.reduceLT, Nat.reduceLeDiff]
      repeat refine And.intro (by omega) ?_
      simp (dsimp := false) (disch := omega) only [hlen, rules]
      refine Draw.intro (by kernel_rfl) ?_
      simp (dsimp := false) (disch := omega) only [hrow, hl3, rules, tys, eq_self, ↓reduceIte, Nat.reduceAdd, Nat.reduceLT, Nat.reduceLeDiff]
      repeat refine And.intro (by omega) ?_
      refine GoCall.pure h54 rfl ?_
      simp (dsimp := false) (disch := omega) only [List.append_nil, rules, Nat.reduceAdd]
      repeat refine And.intro (by omega) ?_
      refine GoCall.pure h51 rfl ?_
      simp (dsimp := false) (disch := omega) only [List.append_nil, wrap64, rules, tys, eq_self, ↓reduceIte, Nat.reduceAdd, Nat.reduceLT, Nat.reduceLeDiff]
      repeat refine And.intro (by omega) ?_
      refine Ap_loop (i + 1) (by omega) ?_ (by omega)
      refine Weak.keep [0, 1, 2] (by simp) rfl ?_ ?_
      · simp [leVs, leV, le1, le_flat]
      · rw [he1]
        simp [leH, leO, le1s, le1, le_flat]
    · intro h1 h2
      have hi8 : i = 8 := by omega
      subst hi8
      simp (dsimp := false) (disch := omega) only [List.append_nil, h2, Ap_end_ret, rules, tys, eq_self, ↓reduceIte, Nat.reduceAdd, Nat.reduceBEq, Nat.reduceLT, Nat.reduceLeDiff]
      exact RetOK.pure rfl ⟨⟨rfl, Nat.le_refl 3⟩, trivial⟩ rfl

/-- Numbers. -/
def pointF (xs : List Int) : Nat → Nat → List Rat
  | 0, _ => []
  | n + 1, a => ratR xs a :: pointF xs n (nx xs (nx xs a))
theorem pointF_length (xs : List Int) : ∀ n a, (pointF xs n a).length = n
  | 0, _ => rfl
  | n + 1, a => by simp [pointF, pointF_length xs n]
theorem pointF_bd (xs : List Int) : ∀ n a, ∀ q ∈ pointF xs n a, Bd 2 q
  | 0, _, q, h => by simp [pointF] at h
  | n + 1, a, q, h => by
    simp only [pointF, List.mem_cons] at h
    rcases h with h | h
    · rw [h]; exact ratR_bd xs a
    · exact pointF_bd xs n _ q h
def outP (out : List Rat) : PV := match out with | [] => .nilsl | _ => .lsl 1 0 out.length 3
def outPH (o : Ob) (out : List Rat) : List Ob := match out with | [] => [o] | _ => [o, .row true (rats out)]

theorem den27 (xs : List Int) (a n : Nat) (hl : xs.length ≤ 1000) (ha : a ≤ xs.length) (hw : W64 xs) (hn8 : n ≤ 8) :
    Den Try.prog 27 [S xs a] [.ptr 0 0 0, .int .i64 n] [S xs (nxs xs (2 * n) a)] (.fv (.sl (rats (pointF xs n a)))) := by
  obtain ⟨fin, hfin⟩ : ∃ t, nxs xs (2 * n) a = t := ⟨_, rfl⟩
  obtain ⟨tot, htot⟩ : ∃ t, pointF xs n a = t := ⟨_, rfl⟩
  rw [hfin, htot]
  unfold S
  refine den_of tabOk mixed Try.func27 (cd := _) rfl (by decide) rfl (n := 16) rfl rfl (m := 1) rfl ?_
  simp (dsimp := false) (disch := omega) only [List.replicate, rules]
  refine WA.loop (α := Nat × Nat × List Rat) (fun ⟨i, b, out⟩ => ⟨[.ptr 0 0 0, .int .i64 n, .any, .any, .nilsl, outP out, .int .i64 i] ++ List.replicate 11 .any, outPH (S xs b) out⟩)
    (fun ⟨i, _, _⟩ => n - i) (fun ⟨i, b, out⟩ => i ≤ n ∧ b ≤ xs.length ∧ out.length = i ∧ nxs xs (2 * (n - i)) b = fin ∧ out ++ pointF xs (n - i) b = tot) (0, a, []) ?_ ?_ ?_
  · refine Weak.keep [0] (by simp) rfl ?_ ?_
    · simp [leVs, leV, le1, outP]
    · simp [leH, leO, le1s, le1, outPH, S]
  · exact ⟨Nat.zero_le _, ha, rfl, hfin, by rw [List.nil_append]; exact htot⟩
  · rintro ⟨i, b, out⟩ ⟨hi, hb, hol, hnx, hap⟩
    have h30 := den30 xs b hl hb hw
    have hcb := S_closed xs b
    have hb2 := nx_le (nx_le hb)
    have hnxt : i < n → nxs xs (2 * (n - (i + 1))) (nx xs (nx xs b)) = fin ∧ (out ++ [ratR xs b]) ++ pointF xs (n - (i + 1)) (nx xs (nx xs b)) = tot := by
      intro h
      obtain ⟨k, hk⟩ : ∃ k, n - i = k + 1 := ⟨n - i - 1, by omega⟩
      have hk2 : n - (i + 1) = k := by omega
      rw [hk] at hnx hap
      rw [hk2]
      have e : 2 * (k + 1) = 2 * k + 1 + 1 := by omega
      rw [e] at hnx
      simp only [nxs] at hnx
      simp only [pointF] at hap
      exact ⟨hnx, by rw [← hap]; simp⟩
    obtain ⟨q, hq⟩ : ∃ q, ratR xs b = q := ⟨_, rfl⟩
    rw [hq] at h30 hnxt
    rw [FR_eq] at h30
    cases out with
    | nil =>
      simp only [outP, outPH]
      unfold S at h30 hcb ⊢
      simp (dsimp := false) (disch := omega) only [List.replicate, rules, tys, eq_self, ↓reduceIte]
      refine Br.dec ?_ ?_
      · intro h1 h2
        obtain ⟨hn1, hn2⟩ := hnxt (by omega)
        simp (dsimp := false) (disch := omega) only [h2, rules]
        refine GoCall.lend 0 h30 rfl rfl hcb rfl rfl rfl ?_
        simp (dsimp := false) (disch := omega) only [sh1, List.append_nil, List.length_cons, List.length_nil, wrap64, rules, tys, eq_self, ↓reduceIte, Nat.reduceAdd, Nat.reduceMul, Nat.reduceLT, Nat.reduceLeDiff]
        repeat refine And.intro (by omega) ?_
        refine Ap_loop (i + 1, nx xs (nx xs b), [q]) (by dsimp only; omega) ?_ ⟨by omega, hb2, by simp at hol ⊢; omega, hn1, hn2⟩
        refine Weak.keep [0, 2] (by simp) rfl ?_ ?_
        · simp [leVs, leV, le1]
        · simp [leH, leO, le1s, le1, rats, Raw.f, cn, N]
      · intro h1 h2
        have hin : i = n := by omega
        have hn0 : n - i = 0 := by omega
        rw [hn0] at hap hnx
        have htot2 : tot = [] := by rw [← hap]; rfl
        have hfb : fin = b := hnx.symm
        rw [htot2, hfb]
        simp (dsimp := false) (disch := omega) only [h2, Ap_end_ret, rules, Nat.reduceBEq]
        refine RetOK.lentB rfl ⟨trivial, trivial⟩ rfl (S_closed xs _) rfl rfl rfl
    | cons x out =>
      have hul : (rats (x :: out)).length = (x :: out).length := rats_length _
      have htk : List.take (x :: out).length (rats (x :: out)) = rats (x :: out) := List.take_of_length_le (by rw [hul]; exact Nat.le_refl _)
      have happ : rats (x :: out) ++ [[FV.lit (Value.bool (decide (q.num < 0))), N q.num.natAbs, N q.den]] = rats (x :: (out ++ [q])) := by simp [rats, Raw.f, cn, N]
      simp only [outP, outPH]
      obtain ⟨L, hL⟩ : ∃ L, (x :: out).length = L := ⟨_, rfl⟩
      obtain ⟨us, hus⟩ : ∃ us, rats (x :: out) = us := ⟨_, rfl⟩
      rw [hL, hus] at hul htk
      rw [hus] at happ
      rw [hL] at hol
      rw [hL, hus]
      unfold S at h30 hcb ⊢
      simp (dsimp := false) (disch := omega) only [List.replicate, rules, tys, eq_self, ↓reduceIte]
      refine Br.dec ?_ ?_
      · intro h1 h2
        obtain ⟨hn1, hn2⟩ := hnxt (by omega)
        simp (dsimp := false) (disch := omega) only [h2, rules]
        refine GoCall.lend 0 h30 rfl rfl hcb rfl rfl rfl ?_
        simp (dsimp := false) (disch := omega) only [sh1, List.append_nil, htk, happ, List.length_cons, List.length_nil, wrap64, rules, tys, eq_self, ↓reduceIte, Nat.reduceAdd, Nat.reduceMul, Nat.reduceLT, Nat.reduceLeDiff]
        repeat refine And.intro (by omega) ?_
        refine Ap_loop (i + 1, nx xs (nx xs b), x :: (out ++ [q])) (by dsimp only; omega) ?_ ⟨by omega, hb2, by simp at hL ⊢; omega, hn1, hn2⟩
        refine Weak.keep [0, 3] (by simp) rfl ?_ ?_
        · simp [leVs, leV, le1]
          simp at hL
          omega
        · simp [leH, leO, le1s, le1]
      · intro h1 h2
        have hn0 : n - i = 0 := by omega
        rw [hn0] at hap hnx
        have htot2 : tot = x :: out := by rw [← hap]; simp [pointF]
        have hfb : fin = b := hnx.symm
        rw [htot2, hfb, hus]
        simp (dsimp := false) (disch := omega) only [h2, Ap_end_ret, rules, Nat.reduceBEq]
        refine RetOK.lentB rfl ⟨trivial, trivial⟩ rfl (S_closed xs _) rfl ?_ rfl
        have hi1 : List.idxOf? 1 [0] = none := rfl
        simp (disch := omega) only [hul, htk, hi1, List.drop_zero, Nat.zero_add, Nat.le_refl, ↓reduceIte, St.get, fzX, oneRes, fzV, fzC, fz1, fz0, Option.map_some, List.getD_cons_succ, List.getD_cons_zero, List.getElem?_cons_zero, List.getElem?_cons_succ]

end Go.Proofs.Yteifpjjnphcdcaa

/- Plain: the bound of a variable. -/
namespace Go.Proofs.Yteifpjjnphcdcaa
open Go.AM Go.Pl

/-- What bounds a variable. -/
def bnd (a : List Raw) (v : Nat) : List Raw := ((a.set v rz).map (fun r => r.q * (-1 / (a.getD v rz).q))).map cn
theorem bnd_at {a : List Raw} {v i : Nat} (ha : a.length = 9) (hi : i < 9) : ((bnd a v).getD i rz).q = if v = i then 0 else (a.getD i rz).q * (-1 / (a.getD v rz).q) := by
  unfold bnd
  rw [map_cn_getD _ (by simp; omega), set_getD (by omega)]
  split
  · rw [rz_q]; grind
  · rfl
theorem eval_bnd {a : List Raw} {v : Nat} (ps : List Rat) (ha : a.length = 9) (hv : v < 8) (h0 : (a.getD v rz).q ≠ 0) : ∀ k, k ≤ 8 →
    evalN a ps k = (if v < k then (a.getD v rz).q * ps.getD v 0 else 0) - (a.getD v rz).q * evalN (bnd a v) ps k
  | 0, _ => by
    unfold evalN
    rw [bnd_at ha (by omega), if_neg (by omega), if_neg (by omega)]
    grind
  | k + 1, h => by
    have ih := eval_bnd ps ha hv h0 k (by omega)
    unfold evalN
    rw [bnd_at ha (by omega), ih]
    generalize evalN (bnd a v) ps k = z
    by_cases hk : v = k
    · subst hk
      rw [if_neg (by omega), if_pos (by omega), if_pos rfl]
      grind
    · rw [if_neg hk]
      by_cases hk2 : v < k
      · rw [if_pos hk2, if_pos (by omega)]
        grind
      · rw [if_neg hk2, if_neg (by omega)]
        grind
theorem sub_bnd {a : List Raw} {v i : Nat} (ha : a.length = 9) (hv : v < 8) (h0 : (a.getD v rz).q ≠ 0) (hi : i < 9) : (((subL a v (bnd a v)).map cn).getD i rz).q = 0 := by
  have hb : (bnd a v).length = 9 := by simp [bnd, ha]
  unfold subL
  rw [addL_getD (by simp; omega) (by simp; omega), cn_q, map_cn_getD _ (by omega), bnd_at ha hi, set_getD (by omega)]
  split
  · rw [rz_q]; grind
  · grind
theorem bnd_ok {a : List Raw} {v : Nat} (ha : LOk 4 a) (h0 : (a.getD v rz).q ≠ 0) : LOk 9 (bnd a v) := by
  have hs := set_ok ha v
  refine LOk.map hs.len (fun r hr => ?_)
  have h1 : Bd 1 (-1 : Rat) := ⟨by decide, by decide⟩
  exact Bd.mul (j := 4) (k := 5) ((hs.ok r hr).bd (by decide)) (Bd.div (j := 1) (k := 4) h1 ((ha.at v).bd (by decide)) h0 (by decide)) (by decide)
theorem eval_map {a : List Raw} (ps : List Rat) (ha : a.length = 9) : ∀ k, k ≤ 8 → evalN ((a.map Raw.q).map cn) ps k = evalN a ps k
  | 0, _ => by
    unfold evalN
    rw [map_cn_getD _ (by omega)]
  | k + 1, h => by
    unfold evalN
    rw [eval_map ps ha k (by omega), map_cn_getD _ (by omega)]

end Go.Proofs.Yteifpjjnphcdcaa
