/- Contracts: the reference's fractions: lowest, Norm, Sign, Neg, Mul. -/
import Derived.Test.YteifpjjnphcdcaaQ1
import Derived.Test.YteifpjjnphcdcaaR2

namespace Go.Proofs.Yteifpjjnphcdcaa
open Go.AM Go.Pl
set_option maxRecDepth 100000
set_option maxHeartbeats 2000000

theorem FR_lowest {s : Bool} {n d : Nat} (hd : d ≠ 0) : FR (mkq s n d) = .agg [.bool (s && decide (((limbs (n / Nat.gcd n d)).length : Int) > 0)), .fv (N (n / Nat.gcd n d)), .fv (N (d / Nat.gcd n d))] := by
  by_cases hn : n = 0
  · subst hn
    rw [mkq_num0 rfl, FR, cn_zero, Nat.gcd_zero_left, Nat.zero_div, Nat.div_self (by omega)]
    have h1 : limbs 1 = [1] := limbs_val (l := [1]) (fun d hd => by simp at hd; subst hd; decide) (Or.inr (by decide))
    unfold N Raw.v
    rw [limbs_zero, h1]
    simp [u32s]
  · obtain ⟨h1, h2, h3⟩ := mkq_canon (s := s) hn hd
    rw [FR_eq, h1, h2, h3]
    have h4 : n / Nat.gcd n d ≠ 0 := by
      have := Nat.div_pos (Nat.le_of_dvd (by omega) (Nat.gcd_dvd_left n d)) (Nat.gcd_pos_of_pos_left d (by omega))
      omega
    have h5 : ((limbs (n / Nat.gcd n d)).length : Int) ≠ 0 := fun h => h4 (limbs_len_zero.1 h)
    rw [decide_eq_true (show ((limbs (n / Nat.gcd n d)).length : Int) > 0 by omega), Bool.and_true]

theorem den62 (s : Bool) (n d : List Nat) (hn : Dig n) (hd : Dig d) (hln : n.length < 10000000000) (hld : d.length < 10000000000) (hd0 : val d ≠ 0) :
    Den Try.prog 62 [] [.bool s, .fv (.sl (u32s n)), .fv (.sl (u32s d))] [] (FR (mkq s (val n) (val d))) := by
  have hd2 := limbs_length_le (val_lt hd)
  have hgd : Nat.gcd (val n) (val d) ≤ val d := Nat.le_of_dvd (by omega) (Nat.gcd_dvd_right _ _)
  have hg0 : Nat.gcd (val n) (val d) ≠ 0 := by
    have := Nat.gcd_pos_of_pos_right (val n) (show 0 < val d by omega)
    omega
  have hgl := limbs_len_mono hgd
  have h79 := den79 n d hn hd hln hld
  rw [FR_lowest hd0]
  obtain ⟨g, hg⟩ : ∃ g, Nat.gcd (val n) (val d) = g := ⟨_, rfl⟩
  rw [hg] at h79 hg0 hgl ⊢
  have h80a := den80 n (limbs g) hn (limbs_dig _) hln (by omega) (by rw [val_limbs]; exact hg0)
  have h80b := den80 d (limbs g) hd (limbs_dig _) hld (by omega) (by rw [val_limbs]; exact hg0)
  rw [val_limbs] at h80a h80b
  obtain ⟨x, hx⟩ : ∃ x, val n / g = x := ⟨_, rfl⟩
  rw [Nr_val] at h79
  rw [hx, Nr_val x] at h80a ⊢
  cases s
  · refine den_of tabOk mixed Try.func62 (cd := _) rfl (by decide) rfl (n := 37) rfl rfl (m := 0) rfl ?_
    simp (dsimp := false) (disch := omega) only [List.replicate, rules, tys]
    refine GoCall.pure h79 rfl ?_
    simp (dsimp := false) (disch := omega) only [rules]
    refine GoCall.pure h80a rfl ?_
    simp (dsimp := false) (disch := omega) only [rules]
    refine GoCall.pure h80b rfl ?_
    simp (dsimp := false) (disch := omega) only [Ap_end_ret, rules, tys, eq_self, ↓reduceIte, Nat.reduceAdd, Nat.reduceLT, Nat.reduceLeDiff]
    refine RetOK.pure rfl ⟨⟨rfl, Nat.le_refl 3⟩, trivial⟩ rfl
  · refine den_of tabOk mixed Try.func62 (cd := _) rfl (by decide) rfl (n := 37) rfl rfl (m := 0) rfl ?_
    simp (dsimp := false) (disch := omega) only [List.replicate, rules, tys]
    refine GoCall.pure h79 rfl ?_
    simp (dsimp := false) (disch := omega) only [rules]
    refine GoCall.pure h80a rfl ?_
    simp (dsimp := false) (disch := omega) only [rules]
    refine GoCall.pure h80b rfl ?_
    simp (dsimp := false) (disch := omega) only [Ap_end_ret, rules, tys, eq_self, ↓reduceIte, Nat.reduceAdd, Nat.reduceLT, Nat.reduceLeDiff]
    refine RetOK.pure rfl ⟨⟨rfl, Nat.le_refl 3⟩, trivial⟩ rfl

theorem den57 (r : Raw) (hr : r.Ok 5000000000) : Den Try.prog 57 [] [r.v] [] (FR r.q) := by
  have h78 := den78f r.den hr.den (by have := hr.lden; omega)
  rw [Nr_val] at h78
  by_cases h0 : val r.den = 0
  · have hq : r.q = 0 := mkq_den0 h0
    rw [h0, limbs_zero] at h78
    rw [hq, FR, cn_zero]
    unfold Raw.v
    have hz : (((0 : Nat) : Int) == 0) = true := rfl
    have hl : (u32s []).length = 0 := rfl
    have hl2 : ([] : List Nat).length = 0 := rfl
    refine den_of tabOk mixed Try.func57 (cd := _) rfl (by decide) rfl (n := 16) rfl rfl (m := 0) rfl ?_
    simp (dsimp := false) (disch := omega) only [List.replicate, rules, tys, eq_self, ↓reduceIte, Nat.reduceAdd, Nat.reduceLT, Nat.reduceLeDiff]
    refine GoCall.pure h78 rfl ?_
    simp (dsimp := false) (disch := omega) only [hl, hz, Ap_end_ret, rules, tys, eq_self, ↓reduceIte, Nat.reduceAdd, Nat.reduceMul, Nat.reduceLT, Nat.reduceLeDiff]
    refine RetOK.pure rfl ⟨⟨rfl, Nat.le_refl 3⟩, trivial⟩ rfl
  · have h62 := den62 r.neg r.num r.den hr.num hr.den (by have := hr.lnum; omega) (by have := hr.lden; omega) h0
    change Den Try.prog 62 [] _ [] (FR r.q) at h62
    have hz : (((limbs (val r.den)).length : Int) == 0) = false := by rw [beq_eq_false_iff_ne]; exact fun h => h0 (limbs_len_zero.1 h)
    rw [FR_eq] at h62 ⊢
    unfold Raw.v
    refine den_of tabOk mixed Try.func57 (cd := _) rfl (by decide) rfl (n := 16) rfl rfl (m := 0) rfl ?_
    simp (dsimp := false) (disch := omega) only [List.replicate, rules, tys, eq_self, ↓reduceIte, Nat.reduceAdd, Nat.reduceLT, Nat.reduceLeDiff]
    refine GoCall.pure h78 rfl ?_
    simp (dsimp := false) (disch := omega) only [hz, rules, tys, eq_self, ↓reduceIte, Nat.reduceAdd, Nat.reduceLeDiff]
    refine GoCall.pure h62 rfl ?_
    simp (dsimp := false) (disch := omega) only [Ap_end_ret, rules, tys, eq_self, Nat.reduceAdd, Nat.reduceLT, Nat.reduceLeDiff]
    refine RetOK.pure rfl ⟨⟨rfl, Nat.le_refl 3⟩, trivial⟩ rfl

theorem den26 (r : Raw) (hr : r.Ok 5000000000) : Den Try.prog 26 [] [r.v] [] (.int .i64 (sgq r.q)) := by
  have h57 := den57 r hr
  rw [FR_eq] at h57
  unfold Raw.v at h57 ⊢
  obtain ⟨n, hn⟩ : ∃ n, r.q.num.natAbs = n := ⟨_, rfl⟩
  rw [hn, Nr_val] at h57
  refine den_of tabOk mixed Try.func26 (cd := _) rfl (by decide) rfl (n := 10) rfl rfl (m := 0) rfl ?_
  simp (dsimp := false) (disch := omega) only [List.replicate, rules, tys, eq_self, ↓reduceIte, Nat.reduceAdd, Nat.reduceLT, Nat.reduceLeDiff]
  refine GoCall.pure h57 rfl ?_
  simp (dsimp := false) (disch := omega) only [rules, tys, eq_self, ↓reduceIte, Nat.reduceAdd, Nat.reduceLT, Nat.reduceLeDiff]
  refine Br.beqInt ?_ ?_
  · intro h1 h2
    have hs := sgq_zero (hn.trans (limbs_len_zero.1 h1))
    simp (dsimp := false) (disch := omega) only [h2, Ap_end_ret, rules]
    refine RetOK.pure rfl ⟨trivial, trivial⟩ ?_
    simp (disch := omega) only [hs, St.get, fzX, oneRes, fzV, fzC, fz1, fz0, Option.map_some, List.getD_cons_succ, List.getD_cons_zero]
  · intro h1 h2
    simp (dsimp := false) (disch := omega) only [h2, rules, tys, eq_self, ↓reduceIte, Nat.reduceAdd, Nat.reduceLeDiff]
    refine Br.dec ?_ ?_
    · intro h3 h4
      have hs := sgq_neg h3
      simp (dsimp := false) (disch := omega) only [h4, Ap_end_ret, rules]
      refine RetOK.pure rfl ⟨trivial, trivial⟩ ?_
      simp (disch := omega) only [hs, St.get, fzX, oneRes, fzV, fzC, fz1, fz0, Option.map_some, List.getD_cons_succ, List.getD_cons_zero]
    · intro h3 h4
      have hs := sgq_pos (q := r.q) (fun h => h1 (limbs_len_zero.2 (hn.symm.trans h))) h3
      simp (dsimp := false) (disch := omega) only [h4, Ap_end_ret, rules]
      refine RetOK.pure rfl ⟨trivial, trivial⟩ ?_
      simp (disch := omega) only [hs, St.get, fzX, oneRes, fzV, fzC, fz1, fz0, Option.map_some, List.getD_cons_succ, List.getD_cons_zero]

theorem den44 (r : Raw) (hr : r.Ok 5000000000) : Den Try.prog 44 [] [r.v] [] (FR (-r.q)) := by
  have h57 := den57 r hr
  rw [FR_eq] at h57
  rw [FR_neg]
  unfold Raw.v at h57 ⊢
  obtain ⟨n, hn⟩ : ∃ n, r.q.num.natAbs = n := ⟨_, rfl⟩
  obtain ⟨s, hs⟩ : ∃ s, decide (r.q.num < 0) = s := ⟨_, rfl⟩
  obtain ⟨d, hd⟩ : ∃ d, N r.q.den = d := ⟨_, rfl⟩
  rw [hn, hs, hd, Nr_val] at h57
  rw [hn, hs, hd, Nr_val]
  refine den_of tabOk mixed Try.func44 (cd := _) rfl (by decide) rfl (n := 15) rfl rfl (m := 0) rfl ?_
  simp (dsimp := false) (disch := omega) only [List.replicate, rules, tys, eq_self, ↓reduceIte, Nat.reduceAdd, Nat.reduceLT, Nat.reduceLeDiff]
  refine GoCall.pure h57 rfl ?_
  cases s
  · have e1 : (!false) = true := rfl
    simp (dsimp := false) (disch := omega) only [e1, Ap_end_ret, rules, tys, eq_self, ↓reduceIte, Nat.reduceAdd, Nat.reduceLT, Nat.reduceLeDiff]
    refine RetOK.pure rfl ⟨⟨rfl, Nat.le_refl 3⟩, trivial⟩ rfl
  · have e1 : (!true) = false := rfl
    simp (dsimp := false) (disch := omega) only [e1, Ap_end_ret, rules, tys, eq_self, ↓reduceIte, Nat.reduceAdd, Nat.reduceLT, Nat.reduceLeDiff]
    refine RetOK.pure rfl ⟨⟨rfl, Nat.le_refl 3⟩, trivial⟩ rfl

end Go.Proofs.Yteifpjjnphcdcaa

/- Contracts: the reference's fractions: Mul, Div, Add. -/
namespace Go.Proofs.Yteifpjjnphcdcaa
open Go.AM Go.Pl
set_option maxRecDepth 100000
set_option maxHeartbeats 2000000

theorem den32 (r1 r2 : Raw) (hr1 : r1.Ok 2000000000) (hr2 : r2.Ok 2000000000) : Den Try.prog 32 [] [r1.v, r2.v] [] (FR (r1.q * r2.q)) := by
  have ha := den57 r1 (hr1.mono (by decide))
  have hb := den57 r2 (hr2.mono (by decide))
  have b1 := hr1.bd (by decide)
  have b2 := hr2.bd (by decide)
  have c1 := cn_ok b1
  have c2 := cn_ok b2
  have hq : mkq (decide (r1.q.num < 0) != decide (r2.q.num < 0)) (r1.q.num.natAbs * r2.q.num.natAbs) (r1.q.den * r2.q.den) = r1.q * r2.q := by
    rw [← mkq_mul, mkq_self, mkq_self]
  have hm1 := den61 (limbs r1.q.num.natAbs) (limbs r2.q.num.natAbs) (limbs_dig _) (limbs_dig _) (by have := c1.lnum; simp only [cn] at this; omega) (by have := c2.lnum; simp only [cn] at this; omega)
  have hm2 := den61 (limbs r1.q.den) (limbs r2.q.den) (limbs_dig _) (limbs_dig _) (by have := c1.lden; simp only [cn] at this; omega) (by have := c2.lden; simp only [cn] at this; omega)
  have hl1 := limbs_lt_of (natAbs_pow_lt b1.1 b2.1)
  have hl2 := limbs_lt_of (natAbs_pow_lt b1.2 b2.2)
  have h62 := den62 (decide (r1.q.num < 0) != decide (r2.q.num < 0)) (limbs (r1.q.num.natAbs * r2.q.num.natAbs)) (limbs (r1.q.den * r2.q.den)) (limbs_dig _) (limbs_dig _) (by omega) (by omega) (by rw [val_limbs]; exact Nat.mul_ne_zero r1.q.den_nz r2.q.den_nz)
  rw [val_limbs, val_limbs, hq] at h62
  rw [val_limbs, val_limbs] at hm1 hm2
  rw [FR_eq] at ha hb h62 ⊢
  unfold Raw.v at ha hb ⊢
  rw [Nr_val] at hm1 hm2
  rw [Nr_val, Nr_val] at ha hb
  refine den_of tabOk mixed Try.func32 (cd := _) rfl (by decide) rfl (n := 23) rfl rfl (m := 0) rfl ?_
  simp (dsimp := false) (disch := omega) only [List.replicate, rules, tys, eq_self, Nat.reduceAdd, Nat.reduceLT]
  refine Draw.intro (by kernel_rfl) ?_
  simp (dsimp := false) (disch := omega) only [rules, tys, eq_self, ↓reduceIte, Nat.reduceAdd, Nat.reduceLeDiff]
  refine GoCall.pure ha rfl ?_
  simp (dsimp := false) (disch := omega) only [rules, tys, eq_self, ↓reduceIte, Nat.reduceAdd, Nat.reduceLeDiff]
  refine GoCall.pure hb rfl ?_
  simp (dsimp := false) (disch := omega) only [rules, tys, eq_self, Nat.reduceAdd, Nat.reduceLT, Nat.reduceLeDiff]
  refine Draw.intro (by kernel_rfl) ?_
  simp (dsimp := false) (disch := omega) only [rules, tys, eq_self, ↓reduceIte, reduceCtorEq, Nat.reduceAdd, Nat.reduceLeDiff]
  refine GoCall.pure hm1 rfl ?_
  simp (dsimp := false) (disch := omega) only [rules, tys, eq_self, ↓reduceIte, Nat.reduceAdd, Nat.reduceLeDiff]
  refine GoCall.pure hm2 rfl ?_
  simp (dsimp := false) (disch := omega) only [rules, Nat.reduceAdd]
  refine GoCall.pure h62 rfl ?_
  simp (dsimp := false) (disch := omega) only [Ap_end_ret, rules, tys, eq_self, Nat.reduceAdd, Nat.reduceLT, Nat.reduceLeDiff]
  refine RetOK.pure rfl ⟨⟨rfl, Nat.le_refl 3⟩, trivial⟩ rfl

theorem den45 (r1 r2 : Raw) (hr1 : r1.Ok 2000000000) (hr2 : r2.Ok 2000000000) (h0 : r2.q ≠ 0) : Den Try.prog 45 [] [r1.v, r2.v] [] (.tup [FR (r1.q / r2.q), .int .i64 0]) := by
  have ha := den57 r1 (hr1.mono (by decide))
  have hb := den57 r2 (hr2.mono (by decide))
  have b1 := hr1.bd (by decide)
  have b2 := hr2.bd (by decide)
  have c1 := cn_ok b1
  have c2 := cn_ok b2
  have hn0 : r2.q.num.natAbs ≠ 0 := fun h => h0 (Rat.num_eq_zero.1 (by omega))
  have hq : mkq (decide (r1.q.num < 0) != decide (r2.q.num < 0)) (r1.q.num.natAbs * r2.q.den) (r1.q.den * r2.q.num.natAbs) = r1.q / r2.q := by
    rw [← mkq_div hn0 r2.q.den_nz, mkq_self, mkq_self]
  have hm1 := den61 (limbs r1.q.num.natAbs) (limbs r2.q.den) (limbs_dig _) (limbs_dig _) (by have := c1.lnum; simp only [cn] at this; omega) (by have := c2.lden; simp only [cn] at this; omega)
  have hm2 := den61 (limbs r1.q.den) (limbs r2.q.num.natAbs) (limbs_dig _) (limbs_dig _) (by have := c1.lden; simp only [cn] at this; omega) (by have := c2.lnum; simp only [cn] at this; omega)
  have hl1 := limbs_lt_of (natAbs_pow_lt b1.1 b2.2)
  have hl2 := limbs_lt_of (natAbs_pow_lt b1.2 b2.1)
  have h62 := den62 (decide (r1.q.num < 0) != decide (r2.q.num < 0)) (limbs (r1.q.num.natAbs * r2.q.den)) (limbs (r1.q.den * r2.q.num.natAbs)) (limbs_dig _) (limbs_dig _) (by omega) (by omega) (by rw [val_limbs]; exact Nat.mul_ne_zero r1.q.den_nz hn0)
  rw [val_limbs, val_limbs, hq] at h62
  rw [val_limbs, val_limbs] at hm1 hm2
  have hz : (((limbs r2.q.num.natAbs).length : Int) == 0) = false := by
    rw [beq_eq_false_iff_ne]; exact fun h => hn0 (limbs_len_zero.1 h)
  rw [FR_eq] at ha hb h62 ⊢
  unfold Raw.v at ha hb ⊢
  rw [Nr_val] at hm1 hm2
  rw [Nr_val, Nr_val] at ha hb
  refine den_of tabOk mixed Try.func45 (cd := _) rfl (by decide) rfl (n := 29) rfl rfl (m := 0) rfl ?_
  simp (dsimp := false) (disch := omega) only [List.replicate, rules, tys, eq_self, Nat.reduceAdd, Nat.reduceLT]
  refine Draw.intro (by kernel_rfl) ?_
  simp (dsimp := false) (disch := omega) only [rules, tys, eq_self, ↓reduceIte, Nat.reduceAdd, Nat.reduceLeDiff]
  refine GoCall.pure ha rfl ?_
  simp (dsimp := false) (disch := omega) only [rules, tys, eq_self, ↓reduceIte, Nat.reduceAdd, Nat.reduceLeDiff]
  refine GoCall.pure hb rfl ?_
  simp (dsimp := false) (disch := omega) only [hz, rules, tys, eq_self, ↓reduceIte, Nat.reduceAdd, Nat.reduceLT, Nat.reduceLeDiff]
  refine Draw.intro (by kernel_rfl) ?_
  simp (dsimp := false) (disch := omega) only [rules, tys, eq_self, ↓reduceIte, reduceCtorEq, Nat.reduceAdd, Nat.reduceLeDiff]
  refine GoCall.pure hm1 rfl ?_
  simp (dsimp := false) (disch := omega) only [rules, tys, eq_self, ↓reduceIte, Nat.reduceAdd, Nat.reduceLeDiff]
  refine GoCall.pure hm2 rfl ?_
  simp (dsimp := false) (disch := omega) only [rules, Nat.reduceAdd]
  refine GoCall.pure h62 rfl ?_
  simp (dsimp := false) (disch := omega) only [Ap_end_ret, rules, tys, eq_self, Nat.reduceAdd, Nat.reduceLT, Nat.reduceLeDiff]
  refine RetOK.pure rfl ⟨⟨rfl, Nat.le_refl 3⟩, trivial, trivial⟩ rfl

theorem den45z (r1 r2 : Raw) (hr1 : r1.Ok 2000000000) (hr2 : r2.Ok 2000000000) (h0 : r2.q = 0) : Den Try.prog 45 [] [r1.v, r2.v] [] (.tup [.agg [.bool false, .fv (.sl []), .fv (.sl [])], .int .i64 3]) := by
  have ha := den57 r1 (hr1.mono (by decide))
  have hb := den57 r2 (hr2.mono (by decide))
  have hz : limbs r2.q.num.natAbs = [] := by rw [h0]; exact limbs_zero
  rw [FR_eq] at ha hb
  unfold Raw.v at ha hb ⊢
  rw [Nr_val, Nr_val] at ha hb
  rw [hz] at hb
  refine den_of tabOk mixed Try.func45 (cd := _) rfl (by decide) rfl (n := 29) rfl rfl (m := 0) rfl ?_
  simp (dsimp := false) (disch := omega) only [List.replicate, rules, tys, eq_self, Nat.reduceAdd, Nat.reduceLT]
  refine Draw.intro (by kernel_rfl) ?_
  simp (dsimp := false) (disch := omega) only [rules, tys, eq_self, ↓reduceIte, Nat.reduceAdd, Nat.reduceLeDiff]
  refine GoCall.pure ha rfl ?_
  simp (dsimp := false) (disch := omega) only [rules, tys, eq_self, ↓reduceIte, Nat.reduceAdd, Nat.reduceLeDiff]
  refine GoCall.pure hb rfl ?_
  have hz2 : (((0 : Nat) : Int) == 0) = true := rfl
  simp (dsimp := false) (disch := omega) only [hz2, Ap_end_ret, rules, tys, eq_self, ↓reduceIte, Nat.reduceAdd, Nat.reduceLT, Nat.reduceLeDiff]
  refine RetOK.pure rfl ⟨⟨rfl, Nat.le_refl 3⟩, trivial, trivial⟩ rfl

theorem limbs_add_le {a c j k m : Nat} (ha : a < B ^ j) (hc : c < B ^ k) (hj : j ≤ m) (hk : k ≤ m) : (limbs (a + c)).length ≤ m + 1 :=
  limbs_lt_of (add_pow_lt (pow_up ha hj) (pow_up hc hk))

theorem den31 (r1 r2 : Raw) (hr1 : r1.Ok 1000000000) (hr2 : r2.Ok 1000000000) : Den Try.prog 31 [] [r1.v, r2.v] [] (FR (r1.q + r2.q)) := by
  have ha := den57 r1 (hr1.mono (by decide))
  have hb := den57 r2 (hr2.mono (by decide))
  have b1 := hr1.bd (by decide)
  have b2 := hr2.bd (by decide)
  have c1 := cn_ok b1
  have c2 := cn_ok b2
  have hq := mkq_common (decide (r1.q.num < 0)) (decide (r2.q.num < 0)) (a := r1.q.num.natAbs) (c := r2.q.num.natAbs) r1.q.den_nz r2.q.den_nz
  rw [mkq_self, mkq_self] at hq
  have hd0 := Nat.mul_ne_zero r1.q.den_nz r2.q.den_nz
  have hm1 := den61 (limbs r1.q.num.natAbs) (limbs r2.q.den) (limbs_dig _) (limbs_dig _) (by have := c1.lnum; simp only [cn] at this; omega) (by have := c2.lden; simp only [cn] at this; omega)
  have hm2 := den61 (limbs r2.q.num.natAbs) (limbs r1.q.den) (limbs_dig _) (limbs_dig _) (by have := c2.lnum; simp only [cn] at this; omega) (by have := c1.lden; simp only [cn] at this; omega)
  have hm3 := den61 (limbs r1.q.den) (limbs r2.q.den) (limbs_dig _) (limbs_dig _) (by have := c1.lden; simp only [cn] at this; omega) (by have := c2.lden; simp only [cn] at this; omega)
  have hl1 := limbs_lt_of (natAbs_pow_lt b1.1 b2.2)
  have hl2 := limbs_lt_of (natAbs_pow_lt b2.1 b1.2)
  have hl3 := limbs_lt_of (natAbs_pow_lt b1.2 b2.2)
  have hls := limbs_add_le (m := 2000000000) (natAbs_pow_lt b1.1 b2.2) (natAbs_pow_lt b2.1 b1.2) (by decide) (by decide)
  rw [val_limbs, val_limbs] at hm1 hm2 hm3
  rw [FR_eq] at ha hb
  unfold Raw.v at ha hb ⊢
  rw [Nr_val] at hm1 hm2 hm3
  rw [Nr_val, Nr_val] at ha hb
  rw [hq]
  obtain ⟨x, hx⟩ : ∃ t, r1.q.num.natAbs * r2.q.den = t := ⟨_, rfl⟩
  obtain ⟨y, hy⟩ : ∃ t, r2.q.num.natAbs * r1.q.den = t := ⟨_, rfl⟩
  obtain ⟨z, hz⟩ : ∃ t, r1.q.den * r2.q.den = t := ⟨_, rfl⟩
  rw [hx] at hm1 hl1 hls
  rw [hy] at hm2 hl2 hls
  rw [hz] at hm3 hl3 hd0
  rw [hx, hy, hz]
  obtain ⟨s, hs⟩ : ∃ t, decide (r1.q.num < 0) = t := ⟨_, rfl⟩
  obtain ⟨t, ht⟩ : ∃ t, decide (r2.q.num < 0) = t := ⟨_, rfl⟩
  rw [hs] at ha
  rw [ht] at hb
  rw [hs, ht]
  refine den_of tabOk mixed Try.func31 (cd := _) rfl (by decide) rfl (n := 65) rfl rfl (m := 0) rfl ?_
  simp (dsimp := false) (disch := omega) only [List.replicate, rules, tys, eq_self, Nat.reduceAdd, Nat.reduceLT]
  refine Draw.intro (by kernel_rfl) ?_
  simp (dsimp := false) (disch := omega) only [rules, tys, eq_self, ↓reduceIte, Nat.reduceAdd, Nat.reduceLeDiff]
  refine GoCall.pure ha rfl ?_
  simp (dsimp := false) (disch := omega) only [rules, tys, eq_self, ↓reduceIte, Nat.reduceAdd, Nat.reduceLeDiff]
  refine GoCall.pure hb rfl ?_
  simp (dsimp := false) (disch := omega) only [rules, tys, eq_self, Nat.reduceAdd, Nat.reduceLT, Nat.reduceLeDiff]
  refine Draw.intro (by kernel_rfl) ?_
  simp (dsimp := false) (disch := omega) only [rules, tys, eq_self, ↓reduceIte, Nat.reduceAdd, Nat.reduceLeDiff]
  refine GoCall.pure hm1 rfl ?_
  simp (dsimp := false) (disch := omega) only [rules, tys, eq_self, ↓reduceIte, Nat.reduceAdd, Nat.reduceLeDiff]
  refine GoCall.pure hm2 rfl ?_
  simp (dsimp := false) (disch := omega) only [rules, tys, eq_self, ↓reduceIte, Nat.reduceAdd, Nat.reduceLeDiff]
  refine GoCall.pure hm3 rfl ?_
  by_cases hst : s = t
  · have hb : (s == t) = true := by rw [hst]; exact beq_self_eq_true _
    have h56 := den56 (limbs x) (limbs y) (limbs_dig _) (limbs_dig _) (by omega) (by omega)
    rw [val_limbs, val_limbs, Nr_val] at h56
    have h62 := den62 s (limbs (x + y)) (limbs z) (limbs_dig _) (limbs_dig _) (by omega) (by omega) (by rw [val_limbs]; exact hd0)
    rw [val_limbs, val_limbs, ← mkq_add hst hd0, FR_eq] at h62
    rw [FR_eq]
    simp (dsimp := false) (disch := omega) only [hb, rules, tys, eq_self, ↓reduceIte, reduceCtorEq, Nat.reduceAdd, Nat.reduceLeDiff]
    refine Draw.intro (by kernel_rfl) ?_
    simp (dsimp := false) (disch := omega) only [rules, tys, eq_self, ↓reduceIte, Nat.reduceAdd, Nat.reduceLeDiff]
    refine GoCall.pure h56 rfl ?_
    simp (dsimp := false) (disch := omega) only [rules, Nat.reduceAdd]
    refine GoCall.pure h62 rfl ?_
    simp (dsimp := false) (disch := omega) only [Ap_end_ret, rules, tys, eq_self, Nat.reduceAdd, Nat.reduceLT, Nat.reduceLeDiff]
    refine RetOK.pure rfl ⟨⟨rfl, Nat.le_refl 3⟩, trivial⟩ rfl
  · have hb : (s == t) = false := by rw [beq_eq_false_iff_ne]; exact hst
    by_cases hlt : x < y
    · have h63 := den63lt (limbs x) (limbs y) (limbs_dig _) (limbs_dig _) (by omega) (by omega) (by rw [val_limbs, val_limbs]; exact hlt)
      have h63b := den63 (limbs y) (limbs x) (limbs_dig _) (limbs_dig _) (by omega) (by omega) (by rw [val_limbs, val_limbs]; omega)
      rw [val_limbs, val_limbs, Nr_val] at h63b
      have hsub := limbs_len_mono (Nat.sub_le y x)
      have h62 := den62 t (limbs (y - x)) (limbs z) (limbs_dig _) (limbs_dig _) (by omega) (by omega) (by rw [val_limbs]; exact hd0)
      rw [val_limbs, val_limbs, ← mkq_addlt hst hlt hd0, FR_eq] at h62
      rw [FR_eq]
      have h10 : ((1 : Int) == 0) = false := rfl
      simp (dsimp := false) (disch := omega) only [hb, rules, tys, eq_self, ↓reduceIte, reduceCtorEq, Nat.reduceAdd, Nat.reduceLeDiff]
      refine GoCall.pure h63 rfl ?_
      simp (dsimp := false) (disch := omega) only [h10, rules, tys, eq_self, ↓reduceIte, Nat.reduceAdd]
      refine GoCall.pure h63b rfl ?_
      simp (dsimp := false) (disch := omega) only [rules, tys, eq_self, ↓reduceIte, Nat.reduceAdd, Nat.reduceLeDiff]
      refine GoCall.pure h62 rfl ?_
      simp (dsimp := false) (disch := omega) only [Ap_end_ret, rules, tys, eq_self, Nat.reduceAdd, Nat.reduceLT, Nat.reduceLeDiff]
      refine RetOK.pure rfl ⟨⟨rfl, Nat.le_refl 3⟩, trivial⟩ rfl
    · have h63 := den63 (limbs x) (limbs y) (limbs_dig _) (limbs_dig _) (by omega) (by omega) (by rw [val_limbs, val_limbs]; omega)
      rw [val_limbs, val_limbs, Nr_val] at h63
      have hsub := limbs_len_mono (Nat.sub_le x y)
      have h62 := den62 s (limbs (x - y)) (limbs z) (limbs_dig _) (limbs_dig _) (by omega) (by omega) (by rw [val_limbs]; exact hd0)
      rw [val_limbs, val_limbs, ← mkq_addge hst hlt hd0, FR_eq] at h62
      rw [FR_eq]
      have h00 : ((0 : Int) == 0) = true := rfl
      simp (dsimp := false) (disch := omega) only [hb, rules, tys, eq_self, ↓reduceIte, reduceCtorEq, Nat.reduceAdd, Nat.reduceLeDiff]
      refine GoCall.pure h63 rfl ?_
      simp (dsimp := false) (disch := omega) only [h00, rules, tys, eq_self, ↓reduceIte, Nat.reduceAdd, Nat.reduceLeDiff]
      refine GoCall.pure h62 rfl ?_
      simp (dsimp := false) (disch := omega) only [Ap_end_ret, rules, tys, eq_self, Nat.reduceAdd, Nat.reduceLT, Nat.reduceLeDiff]
      refine RetOK.pure rfl ⟨⟨rfl, Nat.le_refl 3⟩, trivial⟩ rfl

end Go.Proofs.Yteifpjjnphcdcaa

/- Contracts: the reference's fractions: Sub, Cmp, Same, Int, New. -/
namespace Go.Proofs.Yteifpjjnphcdcaa
open Go.AM Go.Pl
set_option maxRecDepth 100000
set_option maxHeartbeats 2000000

theorem den58 (r1 r2 : Raw) (hr1 : r1.Ok 1000000000) (hr2 : r2.Ok 1000000000) : Den Try.prog 58 [] [r1.v, r2.v] [] (FR (r1.q - r2.q)) := by
  have h44 := den44 r2 (hr2.mono (by decide))
  have b2 := hr2.bd (by decide)
  have h31 := den31 r1 (cn (-r2.q)) hr1 (cn_ok b2.neg)
  rw [cn_q, ← Rat.sub_eq_add_neg] at h31
  change Den Try.prog 31 [] [r1.v, FR (-r2.q)] [] _ at h31
  rw [FR_eq] at h44
  rw [FR_eq, FR_eq] at h31
  rw [FR_eq]
  unfold Raw.v at h44 h31 ⊢
  refine den_of tabOk mixed Try.func58 (cd := _) rfl (by decide) rfl (n := 7) rfl rfl (m := 0) rfl ?_
  simp (dsimp := false) (disch := omega) only [List.replicate, rules, tys, eq_self, Nat.reduceAdd, Nat.reduceLT]
  refine Draw.intro (by kernel_rfl) ?_
  simp (dsimp := false) (disch := omega) only [rules, tys, eq_self, ↓reduceIte, Nat.reduceAdd, Nat.reduceLeDiff]
  refine GoCall.pure h44 rfl ?_
  simp (dsimp := false) (disch := omega) only [rules, Nat.reduceAdd]
  refine GoCall.pure h31 rfl ?_
  simp (dsimp := false) (disch := omega) only [Ap_end_ret, rules, tys, eq_self, Nat.reduceAdd, Nat.reduceLT, Nat.reduceLeDiff]
  refine RetOK.pure rfl ⟨⟨rfl, Nat.le_refl 3⟩, trivial⟩ rfl

theorem den29 (r1 r2 : Raw) (hr1 : r1.Ok 1000000000) (hr2 : r2.Ok 1000000000) : Den Try.prog 29 [] [r1.v, r2.v] [] (.int .i64 (sgq (r1.q - r2.q))) := by
  have b1 := hr1.bd (by decide)
  have b2 := hr2.bd (by decide)
  have h58 := den58 r1 r2 hr1 hr2
  have h26 := den26 (cn (r1.q - r2.q)) ((cn_ok (b1.sub b2 (by decide))).mono (by decide))
  rw [cn_q] at h26
  change Den Try.prog 26 [] [FR (r1.q - r2.q)] [] _ at h26
  rw [FR_eq] at h58 h26
  unfold Raw.v at h58 ⊢
  refine den_of tabOk mixed Try.func29 (cd := _) rfl (by decide) rfl (n := 7) rfl rfl (m := 0) rfl ?_
  simp (dsimp := false) (disch := omega) only [List.replicate, rules, tys, eq_self, ↓reduceIte, Nat.reduceAdd, Nat.reduceLT, Nat.reduceLeDiff]
  refine GoCall.pure h58 rfl ?_
  simp (dsimp := false) (disch := omega) only [rules, Nat.reduceAdd]
  refine GoCall.pure h26 rfl ?_
  simp (dsimp := false) (disch := omega) only [Ap_end_ret, rules, Nat.reduceAdd]
  refine RetOK.pure rfl ⟨trivial, trivial⟩ ?_
  simp (disch := omega) only [St.get, fzX, oneRes, fzV, fzC, fz1, fz0, Option.map_some, List.getD_cons_succ, List.getD_cons_zero]

theorem den24 (n : Int) (hn : -9223372036854775808 ≤ n ∧ n < 9223372036854775808) : Den Try.prog 24 [] [.int .i64 n] [] (FR (n : Rat)) := by
  have l1 : limbs 1 = [1] := limbs_val (l := [1]) (fun d hd => by simp at hd; subst hd; decide) (Or.inr (by decide))
  have hnum : ((n : Int) : Rat).num = n := rfl
  have hden : ((n : Int) : Rat).den = 1 := rfl
  rw [FR_eq, hnum, hden]
  unfold N
  rw [l1]
  refine den_of tabOk mixed Try.func24 (cd := _) rfl (by decide) rfl (n := 28) rfl rfl (m := 0) rfl ?_
  simp (dsimp := false) (disch := omega) only [List.replicate, rules, tys, eq_self, ↓reduceIte]
  refine Br.dec ?_ ?_
  · intro h1 h2
    obtain ⟨k, hk⟩ : ∃ k : Nat, n = (k : Int) := ⟨n.toNat, by omega⟩
    have h55 := den55 k (by omega)
    rw [← hk, Nr_val] at h55
    rw [decide_eq_false (show ¬ n < 0 by omega), show n.natAbs = k by omega]
    simp (dsimp := false) (disch := omega) only [h2, rules]
    refine GoCall.pure h55 rfl ?_
    simp (dsimp := false) (disch := omega) only [Ap_end_ret, rules, tys, eq_self, ↓reduceIte, Nat.reduceAdd, Nat.reduceMul, Nat.reduceLT, Nat.reduceLeDiff]
    refine RetOK.pure rfl ⟨⟨rfl, Nat.le_refl 3⟩, trivial⟩ rfl
  · intro h1 h2
    obtain ⟨k, hk⟩ : ∃ k : Nat, n = -((k : Int) + 1) := ⟨(-n - 1).toNat, by omega⟩
    have h55 := den55 k (by omega)
    have hkl : (limbs k).length ≤ 2 := limbs_length_le (Nat.lt_of_lt_of_le (show k < 18446744073709551616 by omega) (by decide))
    have h56 := den56 (limbs k) [1] (limbs_dig _) (Dig.mk (by decide) Dig.nil) (by omega) (by simp)
    have hv1 : val [1] = 1 := rfl
    rw [val_limbs, hv1, Nr_val] at h56
    rw [Nr_val] at h55
    rw [decide_eq_true (show n < 0 by omega), show n.natAbs = k + 1 by omega]
    have e1 : 0 - (n + 1) = (k : Int) := by omega
    simp (dsimp := false) (disch := omega) only [h2, e1, wrap64, rules, tys, eq_self, ↓reduceIte]
    refine GoCall.pure h55 rfl ?_
    simp (dsimp := false) (disch := omega) only [rules, tys, eq_self, ↓reduceIte, Nat.reduceMul, Nat.reduceLT, Nat.reduceLeDiff]
    refine GoCall.pure h56 ?_ ?_
    · rfl
    simp (dsimp := false) (disch := omega) only [Ap_end_ret, rules, tys, eq_self, ↓reduceIte, Nat.reduceAdd, Nat.reduceMul, Nat.reduceLT, Nat.reduceLeDiff]
    refine RetOK.pure rfl ⟨⟨rfl, Nat.le_refl 3⟩, trivial⟩ rfl

end Go.Proofs.Yteifpjjnphcdcaa

/- Contracts: the reference's fractions: Same, New. -/
namespace Go.Proofs.Yteifpjjnphcdcaa
open Go.AM Go.Pl
set_option maxRecDepth 100000
set_option maxHeartbeats 2000000

def sameR (r1 r2 : Raw) : Bool := r1.neg == r2.neg && (r1.num == r2.num && r1.den == r2.den)
theorem sameR_cn (p q : Rat) : sameR (cn p) (cn q) = decide (p = q) := by
  by_cases h : p = q
  · subst h; simp [sameR]
  · rw [decide_eq_false h]
    rcases hb : sameR (cn p) (cn q) with _ | _
    · rfl
    · exfalso
      simp only [sameR, Bool.and_eq_true, beq_iff_eq] at hb
      apply h
      rw [← cn_q p, ← cn_q q]
      unfold Raw.q
      rw [hb.1, hb.2.1, hb.2.2]

theorem den35 (r1 r2 : Raw) (hr1 : r1.Ok 5000000000) (hr2 : r2.Ok 5000000000) : Den Try.prog 35 [] [r1.v, r2.v] [] (.bool (sameR r1 r2)) := by
  have h1 := den65 r1.num r2.num (by have := hr1.lnum; omega) (by have := hr2.lnum; omega)
  have h2 := den65 r1.den r2.den (by have := hr1.lden; omega) (by have := hr2.lden; omega)
  unfold Raw.v sameR
  obtain ⟨b1, hb1⟩ : ∃ b, (r1.num == r2.num) = b := ⟨_, rfl⟩
  obtain ⟨b2, hb2⟩ : ∃ b, (r1.den == r2.den) = b := ⟨_, rfl⟩
  obtain ⟨b0, hb0⟩ : ∃ b, (r1.neg == r2.neg) = b := ⟨_, rfl⟩
  rw [hb1] at h1
  rw [hb2] at h2
  rw [hb0, hb1, hb2]
  cases b0
  · refine den_of tabOk mixed Try.func35 (cd := _) rfl (by decide) rfl (n := 22) rfl rfl (m := 0) rfl ?_
    simp (dsimp := false) (disch := omega) only [List.replicate, hb0, Ap_end_ret, rules, tys, eq_self, ↓reduceIte, reduceCtorEq, Nat.reduceAdd, Nat.reduceLT, Nat.reduceLeDiff]
    refine RetOK.pure rfl ⟨trivial, trivial⟩ rfl
  · cases b1
    · refine den_of tabOk mixed Try.func35 (cd := _) rfl (by decide) rfl (n := 22) rfl rfl (m := 0) rfl ?_
      simp (dsimp := false) (disch := omega) only [List.replicate, hb0, rules, tys, eq_self, ↓reduceIte, reduceCtorEq, Nat.reduceAdd, Nat.reduceLT, Nat.reduceLeDiff]
      refine GoCall.pure h1 rfl ?_
      simp (dsimp := false) (disch := omega) only [Ap_end_ret, rules, eq_self, ↓reduceIte, Nat.reduceAdd]
      refine RetOK.pure rfl ⟨trivial, trivial⟩ rfl
    · refine den_of tabOk mixed Try.func35 (cd := _) rfl (by decide) rfl (n := 22) rfl rfl (m := 0) rfl ?_
      simp (dsimp := false) (disch := omega) only [List.replicate, hb0, rules, tys, eq_self, ↓reduceIte, reduceCtorEq, Nat.reduceAdd, Nat.reduceLT, Nat.reduceLeDiff]
      refine GoCall.pure h1 rfl ?_
      simp (dsimp := false) (disch := omega) only [rules, tys, eq_self, ↓reduceIte, Nat.reduceAdd, Nat.reduceLeDiff]
      refine GoCall.pure h2 rfl ?_
      simp (dsimp := false) (disch := omega) only [Ap_end_ret, rules, eq_self, ↓reduceIte, Nat.reduceAdd]
      refine RetOK.pure rfl ⟨trivial, trivial⟩ rfl

theorem den59z (p : Int) : Den Try.prog 59 [] [.int .i64 p, .int .i64 0] [] (.tup [.agg [.bool false, .fv (.sl []), .fv (.sl [])], .int .i64 3]) := by
  have h00 : ((0 : Int) == 0) = true := rfl
  refine den_of tabOk mixed Try.func59 (cd := _) rfl (by decide) rfl (n := 23) rfl rfl (m := 0) rfl ?_
  simp (dsimp := false) (disch := omega) only [List.replicate, h00, Ap_end_ret, rules, tys, eq_self, ↓reduceIte, Nat.reduceAdd, Nat.reduceLT, Nat.reduceLeDiff]
  refine RetOK.pure rfl ⟨⟨rfl, Nat.le_refl 3⟩, trivial, trivial⟩ rfl

theorem rat_div_int (p q : Int) (hq : q ≠ 0) : mkq (decide (p < 0) != decide (q < 0)) p.natAbs q.natAbs = (p : Rat) / (q : Rat) := by
  have h := mkq_div (s := decide (p < 0)) (t := decide (q < 0)) (a := p.natAbs) (b := 1) (c := q.natAbs) (d := 1) (by omega) (by decide)
  rw [Nat.mul_one, Nat.one_mul, mkq_int, mkq_int] at h
  exact h.symm

theorem den59 (p q : Int) (hp : -9223372036854775808 ≤ p ∧ p < 9223372036854775808) (hq : -9223372036854775808 ≤ q ∧ q < 9223372036854775808) (h0 : q ≠ 0) : Den Try.prog 59 [] [.int .i64 p, .int .i64 q] [] (.tup [FR ((p : Rat) / (q : Rat)), .int .i64 0]) := by
  have ha := den24 p hp
  have hb := den24 q hq
  have np : ((p : Int) : Rat).num = p := rfl
  have nq : ((q : Int) : Rat).num = q := rfl
  have hlp : (limbs p.natAbs).length ≤ 2 := limbs_length_le (Nat.lt_of_lt_of_le (show p.natAbs < 18446744073709551616 by omega) (by decide))
  have hlq : (limbs q.natAbs).length ≤ 2 := limbs_length_le (Nat.lt_of_lt_of_le (show q.natAbs < 18446744073709551616 by omega) (by decide))
  have h62 := den62 (decide (p < 0) != decide (q < 0)) (limbs p.natAbs) (limbs q.natAbs) (limbs_dig _) (limbs_dig _) (by omega) (by omega) (by rw [val_limbs]; omega)
  rw [val_limbs, val_limbs, rat_div_int p q h0] at h62
  rw [FR_eq] at ha hb h62 ⊢
  rw [np, Nr_val] at ha
  rw [nq, Nr_val] at hb
  have hz : (q == 0) = false := by rw [beq_eq_false_iff_ne]; exact h0
  refine den_of tabOk mixed Try.func59 (cd := _) rfl (by decide) rfl (n := 23) rfl rfl (m := 0) rfl ?_
  simp (dsimp := false) (disch := omega) only [List.replicate, hz, rules, tys, eq_self, ↓reduceIte]
  refine GoCall.pure ha rfl ?_
  simp (dsimp := false) (disch := omega) only [rules]
  refine GoCall.pure hb rfl ?_
  simp (dsimp := false) (disch := omega) only [rules, tys, eq_self, ↓reduceIte, reduceCtorEq, Nat.reduceAdd, Nat.reduceLT, Nat.reduceLeDiff]
  refine GoCall.pure h62 rfl ?_
  simp (dsimp := false) (disch := omega) only [Ap_end_ret, rules, tys, eq_self, Nat.reduceAdd, Nat.reduceLT, Nat.reduceLeDiff]
  refine RetOK.pure rfl ⟨⟨rfl, Nat.le_refl 3⟩, trivial, trivial⟩ rfl

end Go.Proofs.Yteifpjjnphcdcaa
