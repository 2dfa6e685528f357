/- Contracts: rational: isZero, reduce, number, rat. -/
import Derived.Test.YteifpjjnphcdcaaN2
import Derived.Test.YteifpjjnphcdcaaP1

namespace Go.Proofs.Yteifpjjnphcdcaa
open Go.AM Go.Pl
set_option maxRecDepth 100000
set_option maxHeartbeats 1000000

theorem cmpN_zero {x : Nat} : (cmpN x 0 == 0) = decide (x = 0) := by
  unfold cmpN
  by_cases h : x = 0
  · subst h; rfl
  · have h1 : ¬ x < 0 := by omega
    have h2 : 0 < x := by omega
    simp [h, h2]

theorem den83 (l : List Nat) (hl : Dig l) (hll : l.length < 100000000000) : Den Try.prog 83 [] [.fv (.sl (u32s l))] [] (.bool (decide (val l = 0))) := by
  refine den_of tabOk mixed Try.func83 (cd := _) rfl (by decide) rfl (n := 5) rfl rfl (m := 0) rfl ?_
  simp (dsimp := false) (disch := omega) only [List.replicate, rules]
  have h := den91 l [] hl Dig.nil hll (by simp)
  refine GoCall.pure h rfl ?_
  have hv : val [] = 0 := rfl
  simp (dsimp := false) (disch := omega) only [hv, cmpN_zero, Ap_end_ret, rules, tys, eq_self, ↓reduceIte]
  refine RetOK.pure rfl ⟨trivial, trivial⟩ ?_
  simp (disch := omega) only [St.get, fzX, oneRes, fzV, fzC, fz1, fz0, Option.map_some, List.getD_cons_succ, List.getD_cons_zero]

theorem den68 (s : Bool) (n d : List Nat) (hn : Dig n) (hd : Dig d) (hln : n.length < 10000000000) (hld : d.length < 10000000000) (hd0 : val d ≠ 0) :
    Den Try.prog 68 [] [.bool s, .fv (.sl (u32s n)), .fv (.sl (u32s d))] [] (FR (mkq s (val n) (val d))) := by
  have hn2 := limbs_length_le (val_lt hn)
  have hd2 := limbs_length_le (val_lt hd)
  refine den_of tabOk mixed Try.func68 (cd := _) rfl (by decide) rfl (n := 47) rfl rfl (m := 0) rfl ?_
  simp (dsimp := false) (disch := omega) only [List.replicate, rules, tys]
  refine GoCall.pure (den84 n hn (by omega)) rfl ?_
  simp (dsimp := false) (disch := omega) only [rules]
  refine GoCall.pure (den84 d hd (by omega)) rfl ?_
  simp (dsimp := false) (disch := omega) only [N_val, rules, tys, eq_self, ↓reduceIte]
  refine Br.beqInt ?_ ?_
  · intro h1 h2
    have h0 : val n = 0 := limbs_len0 (by omega)
    simp (dsimp := false) (disch := omega) only [h2, Ap_end_ret, rules, tys, eq_self, ↓reduceIte, Nat.reduceAdd, Nat.reduceMul, Nat.reduceLT, Nat.reduceLeDiff]
    refine RetOK.pure rfl ⟨⟨rfl, Nat.le_refl 3⟩, trivial⟩ ?_
    rw [mkq_num0 h0, FR, cn_zero]
    rfl
  · intro h1 h2
    have hn0 : val n ≠ 0 := fun h => h1 (by rw [h, limbs_zero]; rfl)
    have hgn : Nat.gcd (val n) (val d) ≤ val n := Nat.le_of_dvd (by omega) (Nat.gcd_dvd_left _ _)
    have hg0 : Nat.gcd (val n) (val d) ≠ 0 := by
      have := Nat.gcd_pos_of_pos_left (val d) (show 0 < val n by omega)
      omega
    have hcan := mkq_canon (s := s) hn0 hd0
    have h85 := den85 (limbs (val n)) (limbs (val d)) (limbs_dig _) (limbs_dig _) (by omega) (by omega)
    rw [val_limbs, val_limbs, N_val] at h85
    have hgl := limbs_len_mono hgn
    have hdn := Nat.mul_div_cancel_left (val n) (Nat.pos_of_ne_zero hg0)
    obtain ⟨g, hg⟩ : ∃ g, Nat.gcd (val n) (val d) = g := ⟨_, rfl⟩
    rw [hg] at hcan h85 hg0 hgl
    have h86a := den86 (limbs (val n)) (limbs g) (limbs_dig _) (limbs_dig _) (by omega) (by omega) (by rw [val_limbs]; exact hg0)
    have h86b := den86 (limbs (val d)) (limbs g) (limbs_dig _) (limbs_dig _) (by omega) (by omega) (by rw [val_limbs]; exact hg0)
    rw [val_limbs, val_limbs, N_val, N_val] at h86a h86b
    have hFR : FR (mkq s (val n) (val d)) = .agg [.bool s, .fv (.sl (u32s (limbs (val n / g)))), .fv (.sl (u32s (limbs (val d / g))))] := by
      rw [FR_eq, hcan.1, hcan.2.1, hcan.2.2]; rfl
    rw [hFR]
    simp (dsimp := false) (disch := omega) only [h2, rules]
    refine GoCall.pure h85 rfl ?_
    simp (dsimp := false) (disch := omega) only [rules, tys, eq_self, ↓reduceIte]
    refine Br.bneInt ?_ ?_
    · intro h3 h4
      simp (dsimp := false) (disch := omega) only [h4, rules, eq_self, ↓reduceIte]
      refine GoCall.pure h86a rfl ?_
      simp (dsimp := false) (disch := omega) only [rules]
      refine GoCall.pure h86b rfl ?_
      simp (dsimp := false) (disch := omega) only [Ap_end_ret, rules, tys, eq_self, ↓reduceIte, Nat.reduceAdd, Nat.reduceLT, Nat.reduceLeDiff]
      refine RetOK.pure rfl ⟨⟨rfl, Nat.le_refl 3⟩, trivial⟩ rfl
    · intro h3 h4
      obtain ⟨y, hy⟩ : ∃ y, limbs g = [y] := List.length_eq_one_iff.1 (by omega)
      have hgy : g = y := by rw [← val_limbs g, hy]; simp [val]
      have hyg : (u32s [y]).getD 0 [] = [FV.lit (Value.int .u32 y)] := rfl
      have hy1 : ((1 : Int) != 1) = false := rfl
      have hln1 : ([y] : List Nat).length = 1 := rfl
      have hc1 : (((1 : Nat) : Int) != 1) = false := rfl
      simp (dsimp := false) (disch := omega) only [hy, hyg, hln1, hc1, Int.reduceToNat, rules, tys, eq_self, ↓reduceIte, Nat.reduceLT, Nat.reduceLeDiff]
      refine ⟨by simp, ?_⟩
      refine Br.bneInt ?_ ?_
      · intro h5 h6
        rw [hy] at h86a h86b
        simp (dsimp := false) (disch := omega) only [h6, rules]
        refine GoCall.pure h86a rfl ?_
        simp (dsimp := false) (disch := omega) only [rules]
        refine GoCall.pure h86b rfl ?_
        simp (dsimp := false) (disch := omega) only [Ap_end_ret, rules, tys, eq_self, ↓reduceIte, Nat.reduceAdd, Nat.reduceLT, Nat.reduceLeDiff]
        refine RetOK.pure rfl ⟨⟨rfl, Nat.le_refl 3⟩, trivial⟩ rfl
      · intro h5 h6
        have hg1 : g = 1 := by omega
        simp (dsimp := false) (disch := omega) only [h6, Ap_end_ret, rules, tys, eq_self, ↓reduceIte, Nat.reduceAdd, Nat.reduceLT, Nat.reduceLeDiff]
        refine RetOK.pure rfl ⟨⟨rfl, Nat.le_refl 3⟩, trivial⟩ ?_
        rw [hg1, Nat.div_one, Nat.div_one]
        rfl

/-- number. -/
theorem den66 (r : Raw) (hr : r.Ok 5000000000) : Den Try.prog 66 [] [r.v] [] (FR r.q) := by
  unfold Raw.v
  refine den_of tabOk mixed Try.func66 (cd := _) rfl (by decide) rfl (n := 14) rfl rfl (m := 0) rfl ?_
  simp (dsimp := false) (disch := omega) only [List.replicate, rules, tys, eq_self, ↓reduceIte, Nat.reduceAdd, Nat.reduceLT, Nat.reduceLeDiff]
  refine GoCall.pure (den83 r.den hr.den (by have := hr.lden; omega)) rfl ?_
  simp (dsimp := false) (disch := omega) only [rules, Nat.reduceAdd]
  refine Br.dec ?_ ?_
  · intro h1 h2
    have h68 := den68 false [] [1] Dig.nil (Dig.mk (by decide) Dig.nil) (by simp) (by simp) (by simp [val])
    rw [mkq_num0 (n := val []) rfl, FR_eq] at h68
    simp (dsimp := false) (disch := omega) only [h2, rules, tys, eq_self, ↓reduceIte, Nat.reduceAdd, Nat.reduceMul, Nat.reduceLT, Nat.reduceLeDiff]
    refine GoCall.pure h68 rfl ?_
    have h0 : val r.den = 0 := h1
    have hq : r.q = 0 := mkq_den0 h0
    rw [hq, FR_eq]
    simp (dsimp := false) (disch := omega) only [Ap_end_ret, rules, tys, eq_self, Nat.reduceAdd, Nat.reduceLT, Nat.reduceLeDiff]
    refine RetOK.pure rfl ⟨⟨rfl, Nat.le_refl 3⟩, trivial⟩ rfl
  · intro h1 h2
    have h68 := den68 r.neg r.num r.den hr.num hr.den (by have := hr.lnum; omega) (by have := hr.lden; omega) h1
    rw [FR_eq] at h68
    simp (dsimp := false) (disch := omega) only [h2, rules, tys, eq_self, ↓reduceIte, Nat.reduceAdd, Nat.reduceLeDiff]
    refine GoCall.pure h68 rfl ?_
    simp (dsimp := false) (disch := omega) only [Ap_end_ret, rules, tys, eq_self, Nat.reduceAdd, Nat.reduceLT, Nat.reduceLeDiff]
    refine RetOK.pure rfl ⟨⟨rfl, Nat.le_refl 3⟩, trivial⟩ rfl

end Go.Proofs.Yteifpjjnphcdcaa

/- Contracts: rational: rat, Sign, Neg, Norm, Div, Mul. -/
namespace Go.Proofs.Yteifpjjnphcdcaa
open Go.AM Go.Pl
set_option maxRecDepth 100000
set_option maxHeartbeats 1000000

theorem den67 (q : Rat) : Den Try.prog 67 [] [FR q] [] (FR q) := by
  rw [FR_eq]
  refine den_of tabOk mixed Try.func67 (cd := _) rfl (by decide) rfl (n := 12) rfl rfl (m := 0) rfl ?_
  simp (dsimp := false) (disch := omega) only [List.replicate, Ap_end_ret, rules, tys, eq_self, ↓reduceIte, Nat.reduceAdd, Nat.reduceLT, Nat.reduceLeDiff]
  refine RetOK.pure rfl ⟨⟨rfl, Nat.le_refl 3⟩, trivial⟩ rfl

theorem den41 (r : Raw) (hr : r.Ok 5000000000) : Den Try.prog 41 [] [r.v] [] (FR r.q) := by
  have h66 := den66 r hr
  have h67 := den67 r.q
  rw [FR_eq] at h66 h67 ⊢
  unfold Raw.v at h66 ⊢
  refine den_of tabOk mixed Try.func41 (cd := _) rfl (by decide) rfl (n := 5) rfl rfl (m := 0) rfl ?_
  simp (dsimp := false) (disch := omega) only [List.replicate, rules, tys, eq_self, ↓reduceIte, Nat.reduceAdd, Nat.reduceLT, Nat.reduceLeDiff]
  refine GoCall.pure h66 rfl ?_
  simp (dsimp := false) (disch := omega) only [rules, Nat.reduceAdd]
  refine GoCall.pure h67 rfl ?_
  simp (dsimp := false) (disch := omega) only [Ap_end_ret, rules, tys, eq_self, Nat.reduceAdd, Nat.reduceLT, Nat.reduceLeDiff]
  refine RetOK.pure rfl ⟨⟨rfl, Nat.le_refl 3⟩, trivial⟩ rfl

theorem den36 (r : Raw) (hr : r.Ok 5000000000) : Den Try.prog 36 [] [r.v] [] (.int .i64 (sgq r.q)) := by
  have h66 := den66 r hr
  rw [FR_eq] at h66
  unfold Raw.v at h66 ⊢
  obtain ⟨n, hn⟩ : ∃ n, r.q.num.natAbs = n := ⟨_, rfl⟩
  have hz : ((limbs n).length : Int) = 0 ↔ n = 0 := ⟨fun h => limbs_len0 (by omega), fun h => by rw [h, limbs_zero]; rfl⟩
  rw [hn, N_val] at h66
  refine den_of tabOk mixed Try.func36 (cd := _) rfl (by decide) rfl (n := 15) rfl rfl (m := 0) rfl ?_
  simp (dsimp := false) (disch := omega) only [List.replicate, rules, tys, eq_self, ↓reduceIte, Nat.reduceAdd, Nat.reduceLT, Nat.reduceLeDiff]
  refine GoCall.pure h66 rfl ?_
  simp (dsimp := false) (disch := omega) only [rules, tys, eq_self, ↓reduceIte, Nat.reduceAdd, Nat.reduceLT, Nat.reduceLeDiff]
  refine Br.beqInt ?_ ?_
  · intro h1 h2
    have hs := sgq_zero (hn.trans (hz.1 h1))
    simp (dsimp := false) (disch := omega) only [h2, Ap_end_ret, rules]
    refine RetOK.pure rfl ⟨trivial, trivial⟩ ?_
    simp (disch := omega) only [hs, St.get, fzX, oneRes, fzV, fzC, fz1, fz0, Option.map_some, List.getD_cons_succ, List.getD_cons_zero]
  · intro h1 h2
    simp (dsimp := false) (disch := omega) only [h2, rules, tys, eq_self, ↓reduceIte, Nat.reduceAdd, Nat.reduceLeDiff]
    refine Br.dec ?_ ?_
    · intro h3 h4
      have hs := sgq_neg h3
      simp (dsimp := false) (disch := omega) only [h4, Ap_end_ret, rules]
      refine RetOK.pure rfl ⟨trivial, trivial⟩ ?_
      simp (disch := omega) only [hs, St.get, fzX, oneRes, fzV, fzC, fz1, fz0, Option.map_some, List.getD_cons_succ, List.getD_cons_zero]
    · intro h3 h4
      have hs := sgq_pos (q := r.q) (fun h => h1 (hz.2 (hn.symm.trans h))) h3
      simp (dsimp := false) (disch := omega) only [h4, Ap_end_ret, rules]
      refine RetOK.pure rfl ⟨trivial, trivial⟩ ?_
      simp (disch := omega) only [hs, St.get, fzX, oneRes, fzV, fzC, fz1, fz0, Option.map_some, List.getD_cons_succ, List.getD_cons_zero]

end Go.Proofs.Yteifpjjnphcdcaa

/- Contracts: rational: Neg, Mul, Div. -/
namespace Go.Proofs.Yteifpjjnphcdcaa
open Go.AM Go.Pl
set_option maxRecDepth 100000
set_option maxHeartbeats 2000000

theorem limbs_len_zero {n : Nat} : ((limbs n).length : Int) = 0 ↔ n = 0 := ⟨fun h => limbs_len0 (by omega), fun h => by rw [h, limbs_zero]; rfl⟩
theorem limbs_lt_of {n k : Nat} (h : n < B ^ k) : (limbs n).length ≤ k := limbs_length_le h

theorem FR_neg (q : Rat) : FR (-q) = .agg [.bool (!decide (q.num < 0) && decide (((limbs q.num.natAbs).length : Int) > 0)), .fv (N q.num.natAbs), .fv (N q.den)] := by
  have h1 : (-q).num = -q.num := rfl
  have h2 : (-q).den = q.den := rfl
  rw [FR_eq, h1, h2, Int.natAbs_neg]
  congr 3
  by_cases h : q.num = 0
  · have h3 : ((limbs q.num.natAbs).length : Int) = 0 := limbs_len_zero.2 (by omega)
    rw [h3, h]; rfl
  · have h3 : ((limbs q.num.natAbs).length : Int) ≠ 0 := fun h4 => h (by have := limbs_len_zero.1 h4; omega)
    have h4 : ((limbs q.num.natAbs).length : Int) > 0 := by omega
    rw [decide_eq_true h4, Bool.and_true]
    by_cases h5 : q.num < 0
    · rw [decide_eq_true h5, decide_eq_false (show ¬ (-q.num < 0) by omega)]; rfl
    · rw [decide_eq_false h5, decide_eq_true (show -q.num < 0 by omega)]; rfl

theorem den37 (r : Raw) (hr : r.Ok 5000000000) : Den Try.prog 37 [] [r.v] [] (FR (-r.q)) := by
  have h66 := den66 r hr
  have h67 := den67 (-r.q)
  rw [FR_eq] at h66
  rw [FR_neg] at h67 ⊢
  unfold Raw.v at h66 ⊢
  obtain ⟨n, hn⟩ : ∃ n, r.q.num.natAbs = n := ⟨_, rfl⟩
  obtain ⟨s, hs⟩ : ∃ s, decide (r.q.num < 0) = s := ⟨_, rfl⟩
  obtain ⟨d, hd⟩ : ∃ d, N r.q.den = d := ⟨_, rfl⟩
  rw [hn, hs, hd, N_val] at h66 h67 ⊢
  refine den_of tabOk mixed Try.func37 (cd := _) rfl (by decide) rfl (n := 20) rfl rfl (m := 0) rfl ?_
  simp (dsimp := false) (disch := omega) only [List.replicate, rules, tys, eq_self, ↓reduceIte, Nat.reduceAdd, Nat.reduceLT, Nat.reduceLeDiff]
  refine GoCall.pure h66 rfl ?_
  cases s
  · have e1 : (!false) = true := rfl
    have e2 : ∀ b, (true && b) = b := fun _ => rfl
    rw [e1, e2] at h67 ⊢
    simp (dsimp := false) (disch := omega) only [e1, rules, tys, eq_self, ↓reduceIte, Nat.reduceAdd, Nat.reduceLT, Nat.reduceLeDiff]
    refine GoCall.pure h67 rfl ?_
    simp (dsimp := false) (disch := omega) only [Ap_end_ret, rules, tys, eq_self, Nat.reduceAdd, Nat.reduceLT, Nat.reduceLeDiff]
    refine RetOK.pure rfl ⟨⟨rfl, Nat.le_refl 3⟩, trivial⟩ rfl
  · have e1 : (!true) = false := rfl
    have e2 : ∀ b, (false && b) = false := fun _ => rfl
    rw [e1, e2] at h67 ⊢
    simp (dsimp := false) (disch := omega) only [e1, rules, tys, eq_self, ↓reduceIte, Nat.reduceAdd, Nat.reduceLT, Nat.reduceLeDiff]
    refine GoCall.pure h67 rfl ?_
    simp (dsimp := false) (disch := omega) only [Ap_end_ret, rules, tys, eq_self, Nat.reduceAdd, Nat.reduceLT, Nat.reduceLeDiff]
    refine RetOK.pure rfl ⟨⟨rfl, Nat.le_refl 3⟩, trivial⟩ rfl

theorem den54 (r1 r2 : Raw) (hr1 : r1.Ok 2000000000) (hr2 : r2.Ok 2000000000) : Den Try.prog 54 [] [r1.v, r2.v] [] (FR (r1.q * r2.q)) := by
  have ha := den66 r1 (hr1.mono (by decide))
  have hb := den66 r2 (hr2.mono (by decide))
  have b1 := hr1.bd (by decide)
  have b2 := hr2.bd (by decide)
  have c1 := cn_ok b1
  have c2 := cn_ok b2
  have hq : mkq (decide (r1.q.num < 0) != decide (r2.q.num < 0)) (r1.q.num.natAbs * r2.q.num.natAbs) (r1.q.den * r2.q.den) = r1.q * r2.q := by
    rw [← mkq_mul, mkq_self, mkq_self]
  have hm1 := den69 (limbs r1.q.num.natAbs) (limbs r2.q.num.natAbs) (limbs_dig _) (limbs_dig _) (by have := c1.lnum; simp only [cn] at this; omega) (by have := c2.lnum; simp only [cn] at this; omega)
  have hm2 := den69 (limbs r1.q.den) (limbs r2.q.den) (limbs_dig _) (limbs_dig _) (by have := c1.lden; simp only [cn] at this; omega) (by have := c2.lden; simp only [cn] at this; omega)
  have hl1 := limbs_lt_of (natAbs_pow_lt b1.1 b2.1)
  have hl2 := limbs_lt_of (natAbs_pow_lt b1.2 b2.2)
  have h68 := den68 (decide (r1.q.num < 0) != decide (r2.q.num < 0)) (limbs (r1.q.num.natAbs * r2.q.num.natAbs)) (limbs (r1.q.den * r2.q.den)) (limbs_dig _) (limbs_dig _) (by omega) (by omega) (by rw [val_limbs]; exact Nat.mul_ne_zero r1.q.den_nz r2.q.den_nz)
  rw [val_limbs, val_limbs, hq] at h68
  rw [val_limbs, val_limbs] at hm1 hm2
  have h67 := den67 (r1.q * r2.q)
  rw [FR_eq] at ha hb h68 h67 ⊢
  unfold Raw.v at ha hb ⊢
  rw [N_val] at hm1 hm2
  rw [N_val, N_val] at ha hb
  refine den_of tabOk mixed Try.func54 (cd := _) rfl (by decide) rfl (n := 32) rfl rfl (m := 0) rfl ?_
  simp (dsimp := false) (disch := omega) only [List.replicate, rules, tys, eq_self, Nat.reduceAdd, Nat.reduceLT]
  refine Draw.intro (by kernel_rfl) ?_
  simp (dsimp := false) (disch := omega) only [rules, tys, eq_self, ↓reduceIte, Nat.reduceAdd, Nat.reduceLeDiff]
  refine GoCall.pure ha rfl ?_
  simp (dsimp := false) (disch := omega) only [rules, tys, eq_self, ↓reduceIte, Nat.reduceAdd, Nat.reduceLeDiff]
  refine GoCall.pure hb rfl ?_
  simp (dsimp := false) (disch := omega) only [rules, tys, eq_self, Nat.reduceAdd, Nat.reduceLT, Nat.reduceLeDiff]
  refine Draw.intro (by kernel_rfl) ?_
  simp (dsimp := false) (disch := omega) only [rules, tys, eq_self, ↓reduceIte, reduceCtorEq, Nat.reduceAdd, Nat.reduceLeDiff]
  refine GoCall.pure hm1 rfl ?_
  simp (dsimp := false) (disch := omega) only [rules, tys, eq_self, ↓reduceIte, Nat.reduceAdd, Nat.reduceLeDiff]
  refine GoCall.pure hm2 rfl ?_
  simp (dsimp := false) (disch := omega) only [rules, Nat.reduceAdd]
  refine GoCall.pure h68 rfl ?_
  simp (dsimp := false) (disch := omega) only [rules, Nat.reduceAdd]
  refine GoCall.pure h67 rfl ?_
  simp (dsimp := false) (disch := omega) only [Ap_end_ret, rules, tys, eq_self, Nat.reduceAdd, Nat.reduceLT, Nat.reduceLeDiff]
  refine RetOK.pure rfl ⟨⟨rfl, Nat.le_refl 3⟩, trivial⟩ rfl

theorem den40z (r1 r2 : Raw) (hr1 : r1.Ok 2000000000) (hr2 : r2.Ok 2000000000) (h0 : r2.q = 0) : Den Try.prog 40 [] [r1.v, r2.v] [] (.tup [.agg [.bool false, .fv (.sl []), .fv (.sl [])], .int .i64 3]) := by
  have ha := den66 r1 (hr1.mono (by decide))
  have hb := den66 r2 (hr2.mono (by decide))
  have hz : limbs r2.q.num.natAbs = [] := by rw [h0]; exact limbs_zero
  rw [FR_eq] at ha hb
  unfold Raw.v at ha hb ⊢
  rw [N_val, N_val] at ha hb
  rw [hz] at hb
  have hl : (u32s []).length = 0 := rfl
  refine den_of tabOk mixed Try.func40 (cd := _) rfl (by decide) rfl (n := 39) rfl rfl (m := 0) rfl ?_
  simp (dsimp := false) (disch := omega) only [List.replicate, rules, tys, eq_self, Nat.reduceAdd, Nat.reduceLT]
  refine Draw.intro (by kernel_rfl) ?_
  simp (dsimp := false) (disch := omega) only [rules, tys, eq_self, ↓reduceIte, Nat.reduceAdd, Nat.reduceLeDiff]
  refine GoCall.pure ha rfl ?_
  simp (dsimp := false) (disch := omega) only [rules, tys, eq_self, ↓reduceIte, Nat.reduceAdd, Nat.reduceLeDiff]
  refine GoCall.pure hb rfl ?_
  have hz2 : (((0 : Nat) : Int) == 0) = true := rfl
  simp (dsimp := false) (disch := omega) only [hz2, Ap_end_ret, rules, tys, eq_self, ↓reduceIte, Nat.reduceAdd, Nat.reduceLT, Nat.reduceLeDiff]
  refine RetOK.pure rfl ⟨⟨rfl, Nat.le_refl 3⟩, trivial, trivial⟩ rfl

theorem den40 (r1 r2 : Raw) (hr1 : r1.Ok 2000000000) (hr2 : r2.Ok 2000000000) (h0 : r2.q ≠ 0) : Den Try.prog 40 [] [r1.v, r2.v] [] (.tup [FR (r1.q / r2.q), .int .i64 0]) := by
  have ha := den66 r1 (hr1.mono (by decide))
  have hb := den66 r2 (hr2.mono (by decide))
  have b1 := hr1.bd (by decide)
  have b2 := hr2.bd (by decide)
  have c1 := cn_ok b1
  have c2 := cn_ok b2
  have hn0 : r2.q.num.natAbs ≠ 0 := fun h => h0 (Rat.num_eq_zero.1 (by omega))
  have hq : mkq (decide (r1.q.num < 0) != decide (r2.q.num < 0)) (r1.q.num.natAbs * r2.q.den) (r1.q.den * r2.q.num.natAbs) = r1.q / r2.q := by
    rw [← mkq_div hn0 r2.q.den_nz, mkq_self, mkq_self]
  have hm1 := den69 (limbs r1.q.num.natAbs) (limbs r2.q.den) (limbs_dig _) (limbs_dig _) (by have := c1.lnum; simp only [cn] at this; omega) (by have := c2.lden; simp only [cn] at this; omega)
  have hm2 := den69 (limbs r1.q.den) (limbs r2.q.num.natAbs) (limbs_dig _) (limbs_dig _) (by have := c1.lden; simp only [cn] at this; omega) (by have := c2.lnum; simp only [cn] at this; omega)
  have hl1 := limbs_lt_of (natAbs_pow_lt b1.1 b2.2)
  have hl2 := limbs_lt_of (natAbs_pow_lt b1.2 b2.1)
  have h68 := den68 (decide (r1.q.num < 0) != decide (r2.q.num < 0)) (limbs (r1.q.num.natAbs * r2.q.den)) (limbs (r1.q.den * r2.q.num.natAbs)) (limbs_dig _) (limbs_dig _) (by omega) (by omega) (by rw [val_limbs]; exact Nat.mul_ne_zero r1.q.den_nz hn0)
  rw [val_limbs, val_limbs, hq] at h68
  rw [val_limbs, val_limbs] at hm1 hm2
  have h67 := den67 (r1.q / r2.q)
  have hz : (((limbs r2.q.num.natAbs).length : Int) == 0) = false := by
    rw [beq_eq_false_iff_ne]; exact fun h => hn0 (limbs_len_zero.1 h)
  rw [FR_eq] at ha hb h68 h67 ⊢
  unfold Raw.v at ha hb ⊢
  rw [N_val] at hm1 hm2
  rw [N_val, N_val] at ha hb
  refine den_of tabOk mixed Try.func40 (cd := _) rfl (by decide) rfl (n := 39) rfl rfl (m := 0) rfl ?_
  simp (dsimp := false) (disch := omega) only [List.replicate, rules, tys, eq_self, Nat.reduceAdd, Nat.reduceLT]
  refine Draw.intro (by kernel_rfl) ?_
  simp (dsimp := false) (disch := omega) only [rules, tys, eq_self, ↓reduceIte, Nat.reduceAdd, Nat.reduceLeDiff]
  refine GoCall.pure ha rfl ?_
  simp (dsimp := false) (disch := omega) only [rules, tys, eq_self, ↓reduceIte, Nat.reduceAdd, Nat.reduceLeDiff]
  refine GoCall.pure hb rfl ?_
  simp (dsimp := false) (disch := omega) only [hz, rules, tys, eq_self, ↓reduceIte, Nat.reduceAdd, Nat.reduceLT, Nat.reduceLeDiff]
  refine Draw.intro (by kernel_rfl) ?_
  simp (dsimp := false) (disch := omega) only [rules, tys, eq_self, ↓reduceIte, reduceCtorEq, Nat.reduceAdd, Nat.reduceLeDiff]
  refine GoCall.pure hm1 rfl ?_
  simp (dsimp := false) (disch := omega) only [rules, tys, eq_self, ↓reduceIte, Nat.reduceAdd, Nat.reduceLeDiff]
  refine GoCall.pure hm2 rfl ?_
  simp (dsimp := false) (disch := omega) only [rules, Nat.reduceAdd]
  refine GoCall.pure h68 rfl ?_
  simp (dsimp := false) (disch := omega) only [rules, Nat.reduceAdd]
  refine GoCall.pure h67 rfl ?_
  simp (dsimp := false) (disch := omega) only [Ap_end_ret, rules, tys, eq_self, Nat.reduceAdd, Nat.reduceLT, Nat.reduceLeDiff]
  refine RetOK.pure rfl ⟨⟨rfl, Nat.le_refl 3⟩, trivial, trivial⟩ rfl

end Go.Proofs.Yteifpjjnphcdcaa

/- Contracts: rational: one, combine, Add, Sub, Cmp. -/
namespace Go.Proofs.Yteifpjjnphcdcaa
open Go.AM Go.Pl
set_option maxRecDepth 100000
set_option maxHeartbeats 2000000

theorem den75 (d : Nat) (hd : (limbs d).length < 100000000000) : Den Try.prog 75 [] [.fv (.sl (u32s (limbs d)))] [] (.bool (decide (d = 1))) := by
  have hl1 : (limbs 1) = [1] := limbs_val (l := [1]) (fun d hd => by simp at hd; subst hd; decide) (Or.inr (by decide))
  have hv := val_limbs d
  obtain ⟨l, hl⟩ : ∃ l, limbs d = l := ⟨_, rfl⟩
  rw [hl] at hd hv
  rw [hl]
  refine den_of tabOk mixed Try.func75 (cd := _) rfl (by decide) rfl (n := 11) rfl rfl (m := 0) rfl ?_
  simp (dsimp := false) (disch := omega) only [List.replicate, rules, tys, eq_self, ↓reduceIte]
  refine Br.beqInt ?_ ?_
  · intro h1 h2
    obtain ⟨y, rfl⟩ : ∃ y, l = [y] := List.length_eq_one_iff.1 (by omega)
    have hdy : d = y := by rw [← hv]; simp [val]
    have hyg : (u32s [y]).getD 0 [] = [FV.lit (Value.int .u32 y)] := rfl
    have hb : ((y : Int) == 1) = decide (d = 1) := by
      rw [hdy]
      by_cases h : y = 1
      · subst h; rfl
      · rw [decide_eq_false h, beq_eq_false_iff_ne]; omega
    have hln1 : ([y] : List Nat).length = 1 := rfl
    have hc1 : (((1 : Nat) : Int) == 1) = true := rfl
    simp (dsimp := false) (disch := omega) only [hyg, hb, hln1, hc1, Int.reduceToNat, Ap_end_ret, rules, tys, eq_self, ↓reduceIte, Nat.reduceLT, Nat.reduceLeDiff]
    refine ⟨by simp, ?_⟩
    refine RetOK.pure rfl ⟨trivial, trivial⟩ ?_
    simp (disch := omega) only [St.get, fzX, oneRes, fzV, fzC, fz1, fz0, Option.map_some, List.getD_cons_succ, List.getD_cons_zero]
  · intro h1 h2
    have hb : decide (d = 1) = false := decide_eq_false (fun h => h1 (by rw [h, hl1] at hl; subst hl; rfl))
    simp (dsimp := false) (disch := omega) only [h2, Ap_end_ret, rules, ↓reduceIte]
    refine RetOK.pure rfl ⟨trivial, trivial⟩ ?_
    simp (disch := omega) only [hb, St.get, fzX, oneRes, fzV, fzC, fz1, fz0, Option.map_some, List.getD_cons_succ, List.getD_cons_zero]

theorem den76 (k : Nat) (hk : k ≤ 4000000000) (s t : Bool) (a c d : Nat) (ha : a < B ^ k) (hc : c < B ^ k) (hd : d < B ^ k) (hd0 : d ≠ 0) :
    Den Try.prog 76 [] [.bool s, .fv (.sl (u32s (limbs a))), .bool t, .fv (.sl (u32s (limbs c))), .fv (.sl (u32s (limbs d)))] [] (FR (mkq s a d + mkq t c d)) := by
  have hla := limbs_lt_of ha
  have hlc := limbs_lt_of hc
  have hld := limbs_lt_of hd
  have hls := limbs_lt_of (add_pow_lt ha hc)
  by_cases hst : s = t
  · have h90 := den90 (limbs a) (limbs c) (limbs_dig _) (limbs_dig _) (by omega) (by omega)
    rw [val_limbs, val_limbs, N_val] at h90
    have h68 := den68 s (limbs (a + c)) (limbs d) (limbs_dig _) (limbs_dig _) (by omega) (by omega) (by rw [val_limbs]; exact hd0)
    rw [val_limbs, val_limbs, ← mkq_add hst hd0, FR_eq] at h68
    rw [FR_eq]
    have hb : (s == t) = true := by rw [hst]; exact beq_self_eq_true _
    refine den_of tabOk mixed Try.func76 (cd := _) rfl (by decide) rfl (n := 34) rfl rfl (m := 0) rfl ?_
    simp (dsimp := false) (disch := omega) only [List.replicate, hb, rules, tys, ↓reduceIte, reduceCtorEq]
    refine GoCall.pure h90 rfl ?_
    simp (dsimp := false) (disch := omega) only [rules]
    refine GoCall.pure h68 rfl ?_
    simp (dsimp := false) (disch := omega) only [Ap_end_ret, rules, tys, eq_self, Nat.reduceAdd, Nat.reduceLT, Nat.reduceLeDiff]
    refine RetOK.pure rfl ⟨⟨rfl, Nat.le_refl 3⟩, trivial⟩ rfl
  · have hb : (s == t) = false := by rw [beq_eq_false_iff_ne]; exact hst
    have h91 := den91 (limbs a) (limbs c) (limbs_dig _) (limbs_dig _) (by omega) (by omega)
    rw [val_limbs, val_limbs] at h91
    refine den_of tabOk mixed Try.func76 (cd := _) rfl (by decide) rfl (n := 34) rfl rfl (m := 0) rfl ?_
    simp (dsimp := false) (disch := omega) only [List.replicate, hb, rules, tys, ↓reduceIte, reduceCtorEq]
    refine GoCall.pure h91 rfl ?_
    simp (dsimp := false) (disch := omega) only [rules, tys, eq_self, ↓reduceIte]
    refine Br.dec ?_ ?_
    · intro h1 h2
      rw [cmpN_neg] at h1
      have h92 := den92 (limbs c) (limbs a) (limbs_dig _) (limbs_dig _) (by omega) (by omega) (by rw [val_limbs, val_limbs]; omega)
      rw [val_limbs, val_limbs, N_val] at h92
      have hsub := limbs_len_mono (Nat.sub_le c a)
      have h68 := den68 t (limbs (c - a)) (limbs d) (limbs_dig _) (limbs_dig _) (by omega) (by omega) (by rw [val_limbs]; exact hd0)
      rw [val_limbs, val_limbs, ← mkq_addlt hst h1 hd0, FR_eq] at h68
      rw [FR_eq]
      simp (dsimp := false) (disch := omega) only [h2, rules]
      refine GoCall.pure h92 rfl ?_
      simp (dsimp := false) (disch := omega) only [rules]
      refine GoCall.pure h68 rfl ?_
      simp (dsimp := false) (disch := omega) only [Ap_end_ret, rules, tys, eq_self, Nat.reduceAdd, Nat.reduceLT, Nat.reduceLeDiff]
      refine RetOK.pure rfl ⟨⟨rfl, Nat.le_refl 3⟩, trivial⟩ rfl
    · intro h1 h2
      rw [cmpN_neg] at h1
      have h92 := den92 (limbs a) (limbs c) (limbs_dig _) (limbs_dig _) (by omega) (by omega) (by rw [val_limbs, val_limbs]; omega)
      rw [val_limbs, val_limbs, N_val] at h92
      have hsub := limbs_len_mono (Nat.sub_le a c)
      have h68 := den68 s (limbs (a - c)) (limbs d) (limbs_dig _) (limbs_dig _) (by omega) (by omega) (by rw [val_limbs]; exact hd0)
      rw [val_limbs, val_limbs, ← mkq_addge hst h1 hd0, FR_eq] at h68
      rw [FR_eq]
      simp (dsimp := false) (disch := omega) only [h2, rules]
      refine GoCall.pure h92 rfl ?_
      simp (dsimp := false) (disch := omega) only [rules]
      refine GoCall.pure h68 rfl ?_
      simp (dsimp := false) (disch := omega) only [Ap_end_ret, rules, tys, eq_self, Nat.reduceAdd, Nat.reduceLT, Nat.reduceLeDiff]
      refine RetOK.pure rfl ⟨⟨rfl, Nat.le_refl 3⟩, trivial⟩ rfl

theorem pow_up {x j m : Nat} (h : x < B ^ j) (hj : j ≤ m) : x < B ^ m := Nat.lt_of_lt_of_le h (Nat.pow_le_pow_right (by decide) hj)

theorem den51 (r1 r2 : Raw) (hr1 : r1.Ok 1000000000) (hr2 : r2.Ok 1000000000) : Den Try.prog 51 [] [r1.v, r2.v] [] (FR (r1.q + r2.q)) := by
  have ha := den66 r1 (hr1.mono (by decide))
  have hb := den66 r2 (hr2.mono (by decide))
  have b1 := hr1.bd (by decide)
  have b2 := hr2.bd (by decide)
  have c1 := cn_ok b1
  have c2 := cn_ok b2
  have o1 := den75 r1.q.den (by have := c1.lden; simp only [cn] at this; omega)
  have o2 := den75 r2.q.den (by have := c2.lden; simp only [cn] at this; omega)
  have hq := mkq_common (decide (r1.q.num < 0)) (decide (r2.q.num < 0)) (a := r1.q.num.natAbs) (c := r2.q.num.natAbs) r1.q.den_nz r2.q.den_nz
  rw [mkq_self, mkq_self] at hq
  have hm1 := den69 (limbs r1.q.num.natAbs) (limbs r2.q.den) (limbs_dig _) (limbs_dig _) (by have := c1.lnum; simp only [cn] at this; omega) (by have := c2.lden; simp only [cn] at this; omega)
  have hm2 := den69 (limbs r2.q.num.natAbs) (limbs r1.q.den) (limbs_dig _) (limbs_dig _) (by have := c2.lnum; simp only [cn] at this; omega) (by have := c1.lden; simp only [cn] at this; omega)
  have hm3 := den69 (limbs r1.q.den) (limbs r2.q.den) (limbs_dig _) (limbs_dig _) (by have := c1.lden; simp only [cn] at this; omega) (by have := c2.lden; simp only [cn] at this; omega)
  obtain ⟨k, hk⟩ : ∃ k, k = 2000000000 := ⟨_, rfl⟩
  have hc := den76 k (by omega) (decide (r1.q.num < 0)) (decide (r2.q.num < 0)) (r1.q.num.natAbs * r2.q.den) (r2.q.num.natAbs * r1.q.den) (r1.q.den * r2.q.den) (pow_up (natAbs_pow_lt b1.1 b2.2) (by omega)) (pow_up (natAbs_pow_lt b2.1 b1.2) (by omega)) (pow_up (natAbs_pow_lt b1.2 b2.2) (by omega)) (Nat.mul_ne_zero r1.q.den_nz r2.q.den_nz)
  have hc1 := den76 k (by omega) (decide (r1.q.num < 0)) (decide (r2.q.num < 0)) r1.q.num.natAbs r2.q.num.natAbs r1.q.den (pow_up b1.1 (by omega)) (pow_up b2.1 (by omega)) (pow_up b1.2 (by omega)) r1.q.den_nz
  rw [← hq] at hc
  rw [val_limbs, val_limbs] at hm1 hm2 hm3
  have h67 := den67 (r1.q + r2.q)
  have hsame : r1.q.den = 1 → r2.q.den = 1 → mkq (decide (r1.q.num < 0)) r1.q.num.natAbs r1.q.den + mkq (decide (r2.q.num < 0)) r2.q.num.natAbs r1.q.den = r1.q + r2.q := by
    intro h1 h2
    have e1 := mkq_self r1.q
    have e2 := mkq_self r2.q
    rw [h2] at e2
    rw [h1] at e1
    rw [h1, e1, e2]
  generalize hsum : r1.q + r2.q = z at *
  rw [FR_eq] at ha hb hc hc1 h67 ⊢
  unfold Raw.v at ha hb ⊢
  rw [N_val] at hm1 hm2 hm3
  rw [N_val, N_val] at ha hb
  refine den_of tabOk mixed Try.func51 (cd := _) rfl (by decide) rfl (n := 65) rfl rfl (m := 0) rfl ?_
  simp (dsimp := false) (disch := omega) only [List.replicate, rules, tys, eq_self, Nat.reduceAdd, Nat.reduceLT]
  refine Draw.intro (by kernel_rfl) ?_
  simp (dsimp := false) (disch := omega) only [rules, tys, eq_self, ↓reduceIte, Nat.reduceAdd, Nat.reduceLeDiff]
  refine GoCall.pure ha rfl ?_
  simp (dsimp := false) (disch := omega) only [rules, tys, eq_self, ↓reduceIte, Nat.reduceAdd, Nat.reduceLeDiff]
  refine GoCall.pure hb rfl ?_
  simp (dsimp := false) (disch := omega) only [rules, tys, eq_self, ↓reduceIte, Nat.reduceAdd, Nat.reduceLT, Nat.reduceLeDiff]
  refine GoCall.pure o1 rfl ?_
  simp (dsimp := false) (disch := omega) only [rules, Nat.reduceAdd]
  refine Br.dec ?_ ?_
  · intro h1 h2
    simp (dsimp := false) (disch := omega) only [h2, rules, tys, eq_self, ↓reduceIte, Nat.reduceAdd, Nat.reduceLeDiff]
    refine GoCall.pure o2 rfl ?_
    simp (dsimp := false) (disch := omega) only [rules, eq_self, ↓reduceIte, Nat.reduceAdd]
    refine Br.dec ?_ ?_
    · intro h3 h4
      rw [hsame h1 h3] at hc1
      simp (dsimp := false) (disch := omega) only [h4, rules, tys, eq_self, ↓reduceIte, Nat.reduceAdd, Nat.reduceLeDiff]
      refine GoCall.pure hc1 rfl ?_
      simp (dsimp := false) (disch := omega) only [rules, Nat.reduceAdd]
      refine GoCall.pure h67 rfl ?_
      simp (dsimp := false) (disch := omega) only [Ap_end_ret, rules, tys, eq_self, Nat.reduceAdd, Nat.reduceLT, Nat.reduceLeDiff]
      refine RetOK.pure rfl ⟨⟨rfl, Nat.le_refl 3⟩, trivial⟩ rfl
    · intro h3 h4
      simp (dsimp := false) (disch := omega) only [h4, rules]
      refine Draw.intro (by kernel_rfl) ?_
      simp (dsimp := false) (disch := omega) only [rules, tys, eq_self, ↓reduceIte, Nat.reduceAdd, Nat.reduceLeDiff]
      refine GoCall.pure hm1 rfl ?_
      simp (dsimp := false) (disch := omega) only [rules, tys, eq_self, ↓reduceIte, Nat.reduceAdd, Nat.reduceLeDiff]
      refine GoCall.pure hm2 rfl ?_
      simp (dsimp := false) (disch := omega) only [rules, tys, eq_self, ↓reduceIte, Nat.reduceAdd, Nat.reduceLeDiff]
      refine GoCall.pure hm3 rfl ?_
      simp (dsimp := false) (disch := omega) only [rules, Nat.reduceAdd]
      refine GoCall.pure hc rfl ?_
      simp (dsimp := false) (disch := omega) only [rules, Nat.reduceAdd]
      refine GoCall.pure h67 rfl ?_
      simp (dsimp := false) (disch := omega) only [Ap_end_ret, rules, tys, eq_self, Nat.reduceAdd, Nat.reduceLT, Nat.reduceLeDiff]
      refine RetOK.pure rfl ⟨⟨rfl, Nat.le_refl 3⟩, trivial⟩ rfl
  · intro h1 h2
    simp (dsimp := false) (disch := omega) only [h2, rules, ↓reduceIte]
    refine Draw.intro (by kernel_rfl) ?_
    simp (dsimp := false) (disch := omega) only [rules, tys, eq_self, ↓reduceIte, Nat.reduceAdd, Nat.reduceLeDiff]
    refine GoCall.pure hm1 rfl ?_
    simp (dsimp := false) (disch := omega) only [rules, tys, eq_self, ↓reduceIte, Nat.reduceAdd, Nat.reduceLeDiff]
    refine GoCall.pure hm2 rfl ?_
    simp (dsimp := false) (disch := omega) only [rules, tys, eq_self, ↓reduceIte, Nat.reduceAdd, Nat.reduceLeDiff]
    refine GoCall.pure hm3 rfl ?_
    simp (dsimp := false) (disch := omega) only [rules, Nat.reduceAdd]
    refine GoCall.pure hc rfl ?_
    simp (dsimp := false) (disch := omega) only [rules, Nat.reduceAdd]
    refine GoCall.pure h67 rfl ?_
    simp (dsimp := false) (disch := omega) only [Ap_end_ret, rules, tys, eq_self, Nat.reduceAdd, Nat.reduceLT, Nat.reduceLeDiff]
    refine RetOK.pure rfl ⟨⟨rfl, Nat.le_refl 3⟩, trivial⟩ rfl

theorem den77 (r1 r2 : Raw) (hr1 : r1.Ok 1000000000) (hr2 : r2.Ok 1000000000) : Den Try.prog 77 [] [r1.v, r2.v] [] (FR (r1.q - r2.q)) := by
  have h37 := den37 r2 (hr2.mono (by decide))
  have b2 := hr2.bd (by decide)
  have h51 := den51 r1 (cn (-r2.q)) hr1 (cn_ok b2.neg)
  rw [cn_q, ← Rat.sub_eq_add_neg] at h51
  change Den Try.prog 51 [] [r1.v, FR (-r2.q)] [] _ at h51
  rw [FR_eq] at h37
  rw [FR_eq, FR_eq] at h51
  rw [FR_eq]
  unfold Raw.v at h37 h51 ⊢
  refine den_of tabOk mixed Try.func77 (cd := _) rfl (by decide) rfl (n := 7) rfl rfl (m := 0) rfl ?_
  simp (dsimp := false) (disch := omega) only [List.replicate, rules, tys, eq_self, Nat.reduceAdd, Nat.reduceLT]
  refine Draw.intro (by kernel_rfl) ?_
  simp (dsimp := false) (disch := omega) only [rules, tys, eq_self, ↓reduceIte, Nat.reduceAdd, Nat.reduceLeDiff]
  refine GoCall.pure h37 rfl ?_
  simp (dsimp := false) (disch := omega) only [rules, Nat.reduceAdd]
  refine GoCall.pure h51 rfl ?_
  simp (dsimp := false) (disch := omega) only [Ap_end_ret, rules, tys, eq_self, Nat.reduceAdd, Nat.reduceLT, Nat.reduceLeDiff]
  refine RetOK.pure rfl ⟨⟨rfl, Nat.le_refl 3⟩, trivial⟩ rfl

theorem den52 (r1 r2 : Raw) (hr1 : r1.Ok 1000000000) (hr2 : r2.Ok 1000000000) : Den Try.prog 52 [] [r1.v, r2.v] [] (.int .i64 (sgq (r1.q - r2.q))) := by
  have b1 := hr1.bd (by decide)
  have b2 := hr2.bd (by decide)
  have h77 := den77 r1 r2 hr1 hr2
  have h36 := den36 (cn (r1.q - r2.q)) ((cn_ok (b1.sub b2 (by decide))).mono (by decide))
  rw [cn_q] at h36
  change Den Try.prog 36 [] [FR (r1.q - r2.q)] [] _ at h36
  rw [FR_eq] at h77 h36
  unfold Raw.v at h77 ⊢
  refine den_of tabOk mixed Try.func52 (cd := _) rfl (by decide) rfl (n := 7) rfl rfl (m := 0) rfl ?_
  simp (dsimp := false) (disch := omega) only [List.replicate, rules, tys, eq_self, ↓reduceIte, Nat.reduceAdd, Nat.reduceLT, Nat.reduceLeDiff]
  refine GoCall.pure h77 rfl ?_
  simp (dsimp := false) (disch := omega) only [rules, Nat.reduceAdd]
  refine GoCall.pure h36 rfl ?_
  simp (dsimp := false) (disch := omega) only [Ap_end_ret, rules, Nat.reduceAdd]
  refine RetOK.pure rfl ⟨trivial, trivial⟩ ?_
  simp (disch := omega) only [St.get, fzX, oneRes, fzV, fzC, fz1, fz0, Option.map_some, List.getD_cons_succ, List.getD_cons_zero]

theorem den72 (n : Int) (hn : -9223372036854775808 ≤ n ∧ n < 9223372036854775808) : Den Try.prog 72 [] [.int .i64 n] [] (.tup [.bool (decide (n < 0)), .fv (N n.natAbs)]) := by
  refine den_of tabOk mixed Try.func72 (cd := _) rfl (by decide) rfl (n := 19) rfl rfl (m := 0) rfl ?_
  simp (dsimp := false) (disch := omega) only [List.replicate, rules, tys, eq_self, ↓reduceIte]
  obtain ⟨x, hx⟩ : ∃ x, n.natAbs = x := ⟨_, rfl⟩
  rw [hx]
  have hlo : IntKind.u32.wrap (x : Int) = ((x % 4294967296 : Nat) : Int) := by rw [wrap32, Int.natCast_emod]; rfl
  have hhi : (x : Int) / 4294967296 = ((x / 4294967296 : Nat) : Int) := by rw [Int.natCast_ediv]; rfl
  have h84 := den84 [x % 4294967296, x / 4294967296] (Dig.mk (Nat.mod_lt _ (by decide)) (Dig.mk (by simp only [B]; omega) Dig.nil)) (by simp)
  have hv : val [x % 4294967296, x / 4294967296] = x := by
    simp only [val, B, Nat.mul_zero, Nat.add_zero]
    exact Nat.mod_add_div x 4294967296
  rw [hv] at h84
  obtain ⟨lo, hlo1⟩ : ∃ t, x % 4294967296 = t := ⟨_, rfl⟩
  obtain ⟨hi, hhi1⟩ : ∃ t, x / 4294967296 = t := ⟨_, rfl⟩
  rw [hlo1] at hlo
  rw [hhi1] at hhi
  rw [hlo1, hhi1] at h84
  refine Br.dec ?_ ?_
  · intro h1 h2
    have hw : IntKind.u64.wrap (0 - IntKind.u64.wrap n) = (x : Int) := by rw [wrapU64, wrapU64]; omega
    simp (dsimp := false) (disch := omega) only [h2, hw, hlo, hhi, wrap32c, fdivc, IntKind.bits, Int.reduceToNat, Nat.min_def, Int.reducePow, rules, tys, eq_self, ↓reduceIte, Nat.reduceAdd, Nat.reduceMul, Nat.reduceLT, Nat.reduceLeDiff]
    refine ⟨by omega, ?_⟩
    refine GoCall.pure h84 ?_ ?_
    · rfl
    simp (dsimp := false) (disch := omega) only [Ap_end_ret, rules]
    refine RetOK.pure rfl ⟨trivial, trivial, trivial⟩ ?_
    simp (disch := omega) only [St.get, fzX, oneRes, fzV, fzVs, fzC, fz1, fz0, Option.map_some, List.getD_cons_succ, List.getD_cons_zero]
    rw [h2]
  · intro h1 h2
    have hw : IntKind.u64.wrap n = (x : Int) := by rw [wrapU64]; omega
    simp (dsimp := false) (disch := omega) only [h2, hw, hlo, hhi, wrap32c, fdivc, IntKind.bits, Int.reduceToNat, Nat.min_def, Int.reducePow, rules, tys, eq_self, ↓reduceIte, Nat.reduceAdd, Nat.reduceMul, Nat.reduceLT, Nat.reduceLeDiff]
    refine ⟨by omega, ?_⟩
    refine GoCall.pure h84 ?_ ?_
    · rfl
    simp (dsimp := false) (disch := omega) only [Ap_end_ret, rules]
    refine RetOK.pure rfl ⟨trivial, trivial, trivial⟩ ?_
    simp (disch := omega) only [St.get, fzX, oneRes, fzV, fzVs, fzC, fz1, fz0, Option.map_some, List.getD_cons_succ, List.getD_cons_zero]
    rw [h2]

theorem mkq_int (n : Int) : mkq (decide (n < 0)) n.natAbs 1 = (n : Rat) := by
  unfold mkq
  have h : sg (decide (n < 0)) n.natAbs = n := by
    unfold sg
    by_cases h : n < 0
    · simp only [h, decide_true, if_true]; omega
    · simp only [h, decide_false]; simp; omega
  rw [h]
  exact Rat.mkRat_one n

theorem den47 (n : Int) (hn : -9223372036854775808 ≤ n ∧ n < 9223372036854775808) : Den Try.prog 47 [] [.int .i64 n] [] (FR (n : Rat)) := by
  have h72 := den72 n hn
  have hl : (limbs n.natAbs).length ≤ 2 := limbs_length_le (Nat.lt_of_lt_of_le (show n.natAbs < 18446744073709551616 by omega) (by decide))
  have h68 := den68 (decide (n < 0)) (limbs n.natAbs) [1] (limbs_dig _) (Dig.mk (by decide) Dig.nil) (by omega) (by simp) (by simp [val])
  have hv1 : val [1] = 1 := rfl
  rw [val_limbs, hv1, mkq_int] at h68
  have h67 := den67 (n : Rat)
  rw [FR_eq] at h67 h68 ⊢
  rw [N_val] at h72
  refine den_of tabOk mixed Try.func47 (cd := _) rfl (by decide) rfl (n := 14) rfl rfl (m := 0) rfl ?_
  simp (dsimp := false) (disch := omega) only [List.replicate, rules, tys]
  refine GoCall.pure h72 rfl ?_
  simp (dsimp := false) (disch := omega) only [rules, tys, eq_self, ↓reduceIte, Nat.reduceMul, Nat.reduceLT, Nat.reduceLeDiff]
  refine GoCall.pure h68 ?_ ?_
  · rfl
  simp (dsimp := false) (disch := omega) only [rules, Nat.reduceAdd]
  refine GoCall.pure h67 rfl ?_
  simp (dsimp := false) (disch := omega) only [Ap_end_ret, rules, tys, eq_self, Nat.reduceAdd, Nat.reduceLT, Nat.reduceLeDiff]
  refine RetOK.pure rfl ⟨⟨rfl, Nat.le_refl 3⟩, trivial⟩ rfl

end Go.Proofs.Yteifpjjnphcdcaa
