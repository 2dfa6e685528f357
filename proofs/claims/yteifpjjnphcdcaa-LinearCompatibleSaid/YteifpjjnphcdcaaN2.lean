/- Contracts: natural.long. -/
import Derived.Test.YteifpjjnphcdcaaN1
import Derived.Test.YteifpjjnphcdcaaP1
import Derived.Test.YteifpjjnphcdcaaA4

namespace Go.Proofs.Yteifpjjnphcdcaa
open Go.AM Go.Pl
set_option maxRecDepth 100000
set_option maxHeartbeats 4000000

theorem blen_lt (n : Nat) : n < 2 ^ blen n := by
  unfold blen
  split
  · subst_vars; simp
  · exact Nat.lt_log2_self
theorem blen_pow {n : Nat} (h : n ≠ 0) : 2 ^ (blen n - 1) ≤ n := by
  unfold blen
  rw [if_neg h, Nat.add_sub_cancel]
  exact Nat.log2_self_le h

theorem den101 (a b : List Nat) (k : Nat) (ha : Dig a) (hb : Dig b) (hla : a.length < 10000000000) (hlb2 : 2 ≤ b.length) (hlb : b.length ≤ a.length)
    (hk : k = 32 - blen (b.getD (b.length - 1) 0)) (hk32 : k < 32) (v : List Nat) (hv : limbs (val b * 2 ^ k) = v) (hvl : v.length = b.length) (htop : 2147483648 ≤ v.getD (v.length - 1) 0) :
    Den Try.prog 101 [] [.fv (.sl (u32s a)), .fv (.sl (u32s b))] [] (.tup [.fv (N (val a / val b)), .fv (N (val a % val b))]) := by
  have hbt : (((b.length : Nat) : Int) - 1).toNat = b.length - 1 := by omega
  have htb := hb.getD (b.length - 1)
  simp only [B] at htb
  have hkc : IntKind.u64.wrap ((k : Nat) : Int) = (k : Int) := wrapU64c (by omega)
  have h104 := den104 (b.getD (b.length - 1) 0) htb
  rw [← hk] at h104
  have hsb : val (digs (b.length + 1) (val b * 2 ^ k)) = val b * 2 ^ k := by
    apply val_digs
    rw [Nat.pow_succ]
    exact Nat.mul_lt_mul'' (val_lt hb) (Nat.lt_of_lt_of_le (Nat.pow_lt_pow_right (by decide) hk32) (by decide))
  have h87 := den87 (digs (b.length + 1) (val b * 2 ^ k)) (digs_dig _ _) (by rw [digs_length]; omega)
  rw [hsb] at h87
  refine den_of tabOk mixed Try.func101 (cd := _) rfl (by decide) rfl (n := 249) rfl rfl (m := 0) rfl ?_
  simp (dsimp := false) (disch := omega) only [List.replicate, hbt, wrap64, rules, tys, eq_self, ↓reduceIte, Nat.reduceLT, Nat.reduceLeDiff]
  refine ⟨by omega, ?_⟩
  refine GoCall.pure h104 rfl ?_
  simp (dsimp := false) (disch := omega) only [hkc, rules, tys]
  refine GoCall.pure (den105 a k ha (by omega) hk32) rfl ?_
  simp (dsimp := false) (disch := omega) only [rules]
  refine GoCall.pure (den105 b k hb (by omega) hk32) rfl ?_
  simp (dsimp := false) (disch := omega) only [rules, Nat.reduceAdd]
  refine GoCall.pure h87 ?_ ?_
  · simp [fzAs, fzA, fz1, fz0, u32s_length, digs_length]
    rw [List.take_of_length_le (by simp [u32s_length, digs_length])]
  simp (dsimp := false) (disch := omega) only [N_val, hv, rules, tys, Nat.reduceAdd]
  refine Draw.intro (by kernel_rfl) ?_
  obtain ⟨n, hn⟩ : ∃ n, v.length = n := ⟨_, rfl⟩
  have hbn : b.length = n := by omega
  have hn1 : ((n : Int) - 1).toNat = n - 1 := by omega
  have hn2 : ((n : Int) - 2).toNat = n - 2 := by omega
  have hlm : (((a.length + 1 : Nat) : Int) - (n : Int)).toNat = a.length + 1 - n := by omega
  have hvd : Dig v := by rw [← hv]; exact limbs_dig _
  have htb2 := hvd.getD (n - 1)
  have hsb2 := hvd.getD (n - 2)
  have hvv : val v = val b * 2 ^ k := by rw [← hv, val_limbs]
  simp only [B] at htb2 hsb2
  rw [hn] at htop
  obtain ⟨top, ht⟩ : ∃ t, v.getD (n - 1) 0 = t := ⟨_, rfl⟩
  obtain ⟨sec, hs⟩ : ∃ t, v.getD (n - 2) 0 = t := ⟨_, rfl⟩
  obtain ⟨m, hm⟩ : ∃ m, a.length + 1 - n = m := ⟨_, rfl⟩
  rw [ht] at htb2 htop
  rw [hs] at hsb2
  have hua : val (digs (a.length + 1) (val a * 2 ^ k)) = val a * 2 ^ k := by
    apply val_digs
    rw [Nat.pow_succ]
    exact Nat.mul_lt_mul'' (val_lt ha) (Nat.lt_of_lt_of_le (Nat.pow_lt_pow_right (by decide) hk32) (by decide))
  simp (dsimp := false) (disch := omega) only [hn, hn1, hn2, ht, hs, hlm, hm, wrap64, wrapU64c, rules, tys, eq_self, ↓reduceIte, Nat.reduceAdd, Nat.reduceLT, Nat.reduceLeDiff]
  refine ⟨by omega, by omega, by omega, ?_⟩
  refine WA.loop (α := Nat × List Nat × List Nat) (fun ⟨j1, qd, u⟩ => ⟨.fv (.sl (u32s a)) :: .fv (.sl (u32s b)) :: .any :: .any :: .lsl 1 0 m 1 :: .nilsl :: .int .u64 k :: .lsl 0 0 (a.length + 1) 1 :: .fv (.sl (u32s v)) :: .int .i64 n :: .int .u64 top :: .int .u64 sec :: .int .i64 ((j1 : Int) - 1) :: List.replicate 238 .any, [.row true (u32s u), .row true (u32s qd)]⟩)
    (fun ⟨j1, _, _⟩ => j1) (fun ⟨j1, qd, u⟩ => j1 ≤ m ∧ u.length = a.length + 1 ∧ qd.length = m ∧ Dig u ∧ Dig qd ∧ val (u.drop j1) < val v ∧ val u + val v * (B ^ j1 * val (qd.drop j1)) = val a * 2 ^ k) (m, List.replicate m 0, digs (a.length + 1) (val a * 2 ^ k)) ?_ ?_ ?_
  · refine Weak.keep [0, 2] (by simp) rfl ?_ ?_
    · simp [leVs, leV, le1]
    · simp [leH, leO]
  · refine ⟨Nat.le_refl _, digs_length _ _, by simp, digs_dig _ _, Dig.zeros, ?_, ?_⟩
    · rw [← val_drop_div (digs_dig _ _) (by rw [digs_length]; omega), hua]
      have h1 := val_take_succ v (n - 1)
      rw [val_take_all (by omega), ht] at h1
      refine val_div_lt (x := val a * 2 ^ k) (P := val a) (T := 2147483648) (K := 2 ^ k) (Bn := B ^ (n - 1)) (Bl := B ^ a.length) (val_lt ha) (Nat.pow_le_pow_right (by decide) (show k ≤ 31 by omega)) ?_ ?_ rfl (by decide) (Nat.pow_pos (by decide))
      · rw [h1, Nat.mul_comm]
        exact Nat.le_trans (Nat.mul_le_mul_left _ htop) (Nat.le_add_left _ _)
      · rw [← Nat.pow_add]; congr 1; omega
    · rw [hua, List.drop_of_length_le (by simp)]
      simp [val]
  · rintro ⟨j1, qd, u⟩ ⟨hj1, hul, hql, hud, hqd, hlt, hinv⟩
    simp (dsimp := false) (disch := omega) only [List.replicate, rules, tys, eq_self, ↓reduceIte]
    refine Br.dec ?_ ?_
    · intro h1 h2
      obtain ⟨j, rfl⟩ : ∃ j, j1 = j + 1 := ⟨j1 - 1, by omega⟩
      have i1 : (((j + 1 : Nat) : Int) - 1 + (n : Int)).toNat = j + n := by omega
      have i2 : (((j + 1 : Nat) : Int) - 1 + (n : Int) - 1).toNat = j + n - 1 := by omega
      have i3 : (((j + 1 : Nat) : Int) - 1 + (n : Int) - 2).toNat = j + n - 2 := by omega
      have i0 : (((j + 1 : Nat) : Int) - 1).toNat = j := by omega
      have LH := long_head (j := j) hud hvd hn (by omega) (by omega) hlt
      have d1 := hud.getD (j + n)
      have d2 := hud.getD (j + n - 1)
      have d3 := hud.getD (j + n - 2)
      simp only [B] at d1 d2 d3
      have hfirst := LH.first
      rw [ht] at hfirst
      obtain ⟨x1, hx1⟩ : ∃ t, u.getD (j + n) 0 = t := ⟨_, rfl⟩
      obtain ⟨x2, hx2⟩ : ∃ t, u.getD (j + n - 1) 0 = t := ⟨_, rfl⟩
      obtain ⟨x3, hx3⟩ : ∃ t, u.getD (j + n - 2) 0 = t := ⟨_, rfl⟩
      rw [hx1] at d1 hfirst
      rw [hx2] at d2 hfirst
      rw [hx3] at d3
      simp (dsimp := false) (disch := omega) only [h2, rules]
      refine Draw.intro (by kernel_rfl) ?_
      simp (dsimp := false) (disch := omega) only [i1, i2, hx1, hx2, or64s, wrap64, wrapU64c, IntKind.bits, Int.reduceToNat, Nat.min_def, Int.reducePow, rules, tys, eq_self, ↓reduceIte, Nat.reduceLeDiff]
      refine ⟨by omega, by omega, by omega, by omega, by omega, ?_⟩
      obtain ⟨F, hF⟩ : ∃ F, F = x1 * 4294967296 + x2 := ⟨_, rfl⟩
      have hFi : (x1 : Int) * 4294967296 + (x2 : Int) = (F : Int) := by omega
      rw [← hF] at hfirst
      have hFt : F / top ≤ 4294967297 := kn_top htop hfirst
      have hFm : F % top < top := Nat.mod_lt _ (by omega)
      have hpos : 0 < val v := by have := LH.v1; rw [ht] at this; have h0 : 0 < top * B ^ (n - 1) := Nat.mul_pos (by omega) (Nat.pow_pos (by decide)); omega
      obtain ⟨Q, hQ⟩ : ∃ Q, Q = seg u j (n + 1) / val v := ⟨_, rfl⟩
      have hQv : Q * val v ≤ seg u j (n + 1) := by rw [hQ]; exact Nat.div_mul_le_self _ _
      have LH1 := LH.h1
      rw [hx1, hx2, ← hF] at LH1
      have LHv := LH.v1
      rw [ht] at LHv
      have hst := kn_start (q := Q) (by omega) (kn_first (Nat.pow_pos (by decide)) LH1 LH.s1 LHv hQv)
      have hQb : Q < 4294967296 := by
        rw [hQ, Nat.div_lt_iff_lt_mul hpos, Nat.mul_comm]; exact LH.lt
      have hq : (F : Int) / (top : Int) = ((F / top : Nat) : Int) := by rw [Int.natCast_ediv]
      have hr : (F : Int) % (top : Int) = ((F % top : Nat) : Int) := by rw [Int.natCast_emod]
      generalize F / top = g0 at *
      generalize F % top = r0 at *
      simp (dsimp := false) (disch := omega) only [hFi]
      refine Draw.intro (by kernel_rfl) ?_
      simp (dsimp := false) (disch := omega) only [hq, hr, wrapU64c, tdivc, tmodc, rules, tys, eq_self, ↓reduceIte]
      refine ⟨by omega, by omega, ?_⟩
      refine WA.blockcut (fun (y : Nat × (Nat → PV)) => ⟨[.fv (.sl (u32s a)), .fv (.sl (u32s b)), .any, .any, .lsl 1 0 m 1, .nilsl, .int .u64 k, .lsl 0 0 (a.length + 1) 1, .fv (.sl (u32s v)), .int .i64 n, .int .u64 top, .int .u64 sec, .int .i64 (((j + 1 : Nat) : Int) - 1), .any, .int .u64 y.1] ++ tl y.2 15 236, [.row true (u32s u), .row true (u32s qd)]⟩)
        (fun y => Q ≤ y.1 ∧ y.1 < 4294967296 ∧ (y.1 - 1) * val v ≤ seg u j (n + 1)) ?_ ?_
      · refine WA.loop (α := Nat × Nat) (fun ⟨g, r⟩ => ⟨.fv (.sl (u32s a)) :: .fv (.sl (u32s b)) :: .any :: .any :: .lsl 1 0 m 1 :: .nilsl :: .int .u64 k :: .lsl 0 0 (a.length + 1) 1 :: .fv (.sl (u32s v)) :: .int .i64 n :: .int .u64 top :: .int .u64 sec :: .int .i64 (((j + 1 : Nat) : Int) - 1) :: .any :: .int .u64 g :: .int .u64 r :: List.replicate 235 .any, [.row true (u32s u), .row true (u32s qd)]⟩)
          (fun ⟨g, _⟩ => g) (fun ⟨g, r⟩ => KnInv F top Q g r ∧ r < 4294967296 ∧ g ≤ 4294967297) (g0, r0) ?_ ?_ ?_
        · refine Weak.keep [0, 1] (by simp) rfl ?_ ?_
          · simp [leVs, leV, le1]
          · simp [leH, leO]
        · exact ⟨hst, by omega, hFt⟩
        · rintro ⟨g, r⟩ ⟨hkn, hrb, hgb⟩
          have hgd : (g : Int) / 4294967296 = ((g / 4294967296 : Nat) : Int) := by rw [Int.natCast_ediv]; rfl
          simp (dsimp := false) (disch := omega) only [List.replicate, hgd, fdivc, IntKind.bits, Int.reduceToNat, Nat.min_def, Int.reducePow, rules, tys, eq_self, ↓reduceIte, Nat.reduceLeDiff]
          refine ⟨by omega, Br.bneInt ?_ ?_⟩
          · intro h3 h4
            have hlt' : Q < g := by omega
            obtain ⟨g', rfl⟩ : ∃ g', g = g' + 1 := ⟨g - 1, by omega⟩
            have hkn' := kn_next hkn hlt'
            rw [Nat.add_sub_cancel] at hkn'
            have hgi' : ((g' + 1 : Nat) : Int) - 1 = (g' : Int) := by omega
            simp (dsimp := false) (disch := omega) only [h4, hgi', wrapU64c, fdivc, IntKind.bits, Int.reduceToNat, Nat.min_def, Int.reducePow, rules, tys, eq_self, ↓reduceIte, Nat.reduceLeDiff]
            refine ⟨by omega, Br.bneInt ?_ ?_⟩
            · intro h5 h6
              simp (dsimp := false) (disch := omega) only [h6, rules, Nat.reduceBEq]
              have hbig := kn_big (second := sec) hkn' (by omega) hfirst (by omega)
              refine Mid.ex g' rfl ⟨by omega, hbig.1, ?_⟩
              refine guess_low LH hbig.1 (by omega) ?_
              rw [ht, hs, hx1, hx2, hx3, ← hF]
              exact kn_pass hkn' (Nat.le_trans hbig.2 (Nat.le_add_right _ _))
            · intro h5 h6
              simp (dsimp := false) (disch := omega) only [h6, rules]
              refine Ap_loop (g', r + top) (by dsimp only; omega) ?_ ⟨hkn', by omega, by omega⟩
              refine Weak.keep [0, 1] (by simp) rfl ?_ ?_
              · simp [leVs, leV, le1]
              · simp [leH, leO]
          · intro h3 h4
            have hgl : g < 4294967296 := by omega
            have hgs : g * sec ≤ 4294967295 * 4294967295 := Nat.mul_le_mul (by omega) (by omega)
            have hgi : (g : Int) * (sec : Int) = ((g * sec : Nat) : Int) := by rw [Int.natCast_mul]
            obtain ⟨gs, hgs2⟩ : ∃ t, g * sec = t := ⟨_, rfl⟩
            rw [hgs2] at hgs hgi
            simp (dsimp := false) (disch := omega) only [h4, hgi, i3, hx3, or64s, wrap64, wrapU64c, IntKind.bits, Int.reduceToNat, Nat.min_def, Int.reducePow, rules, tys, eq_self, ↓reduceIte, Nat.reduceLeDiff]
            refine ⟨by omega, by omega, by omega, Br.dec ?_ ?_⟩
            · intro h7 h8
              have hlt' : Q < g := by
                have LH2 := LH.h2
                have LHv2 := LH.v2
                rw [hx1, hx2, hx3, ← hF] at LH2
                rw [ht, hs] at LHv2
                exact kn_test (Nat.pow_pos (by decide)) LH2 LH.s2 rfl LHv2 hQv hkn (by rw [hgs2]; omega)
              obtain ⟨g', rfl⟩ : ∃ g', g = g' + 1 := ⟨g - 1, by omega⟩
              have hkn' := kn_next hkn hlt'
              rw [Nat.add_sub_cancel] at hkn'
              have hgi' : ((g' + 1 : Nat) : Int) - 1 = (g' : Int) := by omega
              simp (dsimp := false) (disch := omega) only [h8, hgi', wrapU64c, fdivc, IntKind.bits, Int.reduceToNat, Nat.min_def, Int.reducePow, rules, tys, eq_self, ↓reduceIte, Nat.reduceLeDiff]
              refine ⟨by omega, Br.bneInt ?_ ?_⟩
              · intro h5 h6
                simp (dsimp := false) (disch := omega) only [h6, rules, Nat.reduceBEq]
                have hbig := kn_big (second := sec) hkn' (by omega) hfirst (by omega)
                refine Mid.ex g' rfl ⟨by omega, hbig.1, ?_⟩
                refine guess_low LH hbig.1 (by omega) ?_
                rw [ht, hs, hx1, hx2, hx3, ← hF]
                exact kn_pass hkn' (Nat.le_trans hbig.2 (Nat.le_add_right _ _))
              · intro h5 h6
                simp (dsimp := false) (disch := omega) only [h6, rules]
                refine Ap_loop (g', r + top) (by dsimp only; omega) ?_ ⟨hkn', by omega, by omega⟩
                refine Weak.keep [0, 1] (by simp) rfl ?_ ?_
                · simp [leVs, leV, le1]
                · simp [leH, leO]
            · intro h7 h8
              simp (dsimp := false) (disch := omega) only [h8, rules, Nat.reduceBEq]
              refine Mid.ex g rfl ⟨hkn.low, hgl, ?_⟩
              refine guess_low LH hgl (by omega) ?_
              rw [ht, hs, hx1, hx2, hx3, ← hF]
              exact kn_pass hkn (by rw [hgs2]; omega)
      · rintro ⟨g, x⟩ ⟨hg1, hg2, hg3⟩
        have hpre : u.length = a.length + 1 := hul
        have hWhi := quot_hi (g := g) hpos (by rw [← hQ]; exact hg1)
        simp only [] at hg1 hg2 hg3
        simp (dsimp := false) (disch := omega) only [tl, rules, tys, Nat.reduceAdd]
        refine WA.loop (α := Nat × Nat × Nat × List Nat) (fun ⟨i, bo, c, u'⟩ => ⟨[.fv (.sl (u32s a)), .fv (.sl (u32s b)), .any, .any, .lsl 1 0 m 1, .nilsl, .int .u64 k, .lsl 0 0 (a.length + 1) 1, .fv (.sl (u32s v)), .int .i64 n, .int .u64 top, .int .u64 sec, .int .i64 (((j + 1 : Nat) : Int) - 1), .any, .int .u64 g, .any, .int .u64 bo, .int .u64 c] ++ List.replicate 99 .any ++ [.fv (.sl (u32s v)), .int .i64 n, .int .i64 i] ++ List.replicate 131 .any, [.row true (u32s u'), .row true (u32s qd)]⟩)
          (fun ⟨i, _, _, _⟩ => n - i) (fun ⟨i, bo, c, u'⟩ => i ≤ n ∧ bo ≤ 1 ∧ c < 4294967296 ∧ u'.length = a.length + 1 ∧ Dig u' ∧ (∀ t, (t < j ∨ j + i ≤ t) → u'.getD t 0 = u.getD t 0) ∧ seg u' j i + g * val (v.take i) = seg u j i + (c + bo) * B ^ i) (0, 0, 0, u) ?_ ?_ ?_
        · refine Weak.keep [0, 1] (by simp) rfl ?_ ?_
          · simp [leVs, leV, le1, hn]
          · simp [leH, leO]
        · refine ⟨by omega, by omega, by omega, hul, hud, fun _ _ => rfl, ?_⟩
          simp [seg_zero, val]
        · rintro ⟨i, bo, c, u'⟩ ⟨hi, hbo, hc, hul', hud', hag, hsum⟩
          simp (dsimp := false) (disch := omega) only [List.replicate, rules, tys, eq_self, ↓reduceIte]
          refine Br.dec ?_ ?_
          · intro h3 h4
            have dv := hvd.getD i
            have du := hud'.getD (j + i)
            simp only [B] at dv du
            have hvs := val_take_succ v i
            have hss := seg_succ u j i
            have hag1 := hag (j + i) (Or.inr (Nat.le_refl _))
            rw [← hag1] at hss
            obtain ⟨y, hy⟩ : ∃ t, v.getD i 0 = t := ⟨_, rfl⟩
            obtain ⟨z, hz⟩ : ∃ t, u'.getD (j + i) 0 = t := ⟨_, rfl⟩
            rw [hy] at hvs dv
            rw [hz] at hss du
            have ik : (((j + 1 : Nat) : Int) - 1 + (i : Int)).toNat = j + i := by omega
            have hgy : g * y ≤ 4294967295 * 4294967295 := Nat.mul_le_mul (by omega) (by omega)
            have hgyi : (g : Int) * (y : Int) = ((g * y : Nat) : Int) := by rw [Int.natCast_mul]
            obtain ⟨cc, hcc⟩ : ∃ t, c + g * y = t := ⟨_, rfl⟩
            obtain ⟨gy, hgy2⟩ : ∃ t, g * y = t := ⟨_, rfl⟩
            rw [hgy2] at hgy hgyi
            have hcci : (c : Int) + (gy : Int) = (cc : Int) := by omega
            have hccb : cc ≤ 18446744073709551616 - 4294967296 := by omega
            obtain ⟨d, b2, hd, hb2, hdb, hdi, hbi⟩ := sub_limb (a := z) (c := cc % 4294967296) (b := bo) du (by omega) hbo
            have hcm : (cc : Int) % 4294967296 = ((cc % 4294967296 : Nat) : Int) := by rw [Int.natCast_emod]; rfl
            have hcd : (cc : Int) / 4294967296 = ((cc / 4294967296 : Nat) : Int) := by rw [Int.natCast_ediv]; rfl
            have hst := mulsub_step (S := seg u' j i) (S0 := seg u j i) (P := B ^ i) (g := g) (Vt := val (v.take i)) (v := y) (c := c) (b := bo) (a := z) (d := d) (b2 := b2) hsum (by rw [hcc]; exact hdb)
            have hset := seg_set (u := u') (j := j) (i := i) (by omega) d
            obtain ⟨xx, hxx⟩ : ∃ t, ((z : Int) - ((cc % 4294967296 : Nat) : Int) - (bo : Int)) % 18446744073709551616 = t := ⟨_, rfl⟩
            have hxw : IntKind.u64.wrap (IntKind.u64.wrap ((z : Int) - ((cc % 4294967296 : Nat) : Int)) - (bo : Int)) = xx := by rw [sub64, hxx]
            have hxr : 0 ≤ xx ∧ xx < 18446744073709551616 := by omega
            rw [hxx] at hdi hbi
            have hw32 : IntKind.u32.wrap xx = (d : Int) := by rw [wrap32]; exact hdi
            simp (dsimp := false) (disch := omega) only [h4, hy, hz, ik, hgyi, hcci, and64, hcm, hcd, hxw, hw32, hbi, wrap64, wrapU64c, fdivc, IntKind.bits, Int.reduceToNat, Nat.min_def, Int.reducePow, rules, tys, eq_self, ↓reduceIte, Nat.reduceLT, Nat.reduceLeDiff]
            refine ⟨by omega, by omega, by omega, by omega, by omega, by omega, by omega, ?_⟩
            refine Ap_loop (i + 1, b2, cc / 4294967296, u'.set (j + i) d) (by dsimp only; omega) ?_ ⟨by omega, hb2, by omega, by simp [hul'], hud'.set _ hd, ?_, ?_⟩
            · refine Weak.keep [0, 1] (by simp) rfl ?_ ?_
              · simp [leVs, leV, le1]
              · simp [leH, leO]
            · intro t hto
              rw [← hag t (by omega), List.getD_eq_getElem?_getD, List.getElem?_set_ne (by omega), ← List.getD_eq_getElem?_getD]
            · rw [hset, hvs, hss, Nat.pow_succ, ← hcc]
              exact hst
          · intro h3 h4
            have hin : i = n := by omega
            subst hin
            have hvall : val (v.take i) = val v := val_take_all (by omega)
            rw [hvall] at hsum
            have du := hud'.getD (j + i)
            simp only [B] at du
            have hss := seg_succ u j i
            rw [← hag (j + i) (Or.inr (Nat.le_refl _))] at hss
            have hag1 := hag (j + i) (Or.inr (Nat.le_refl _))
            rw [hx1] at hag1
            rw [hag1] at du hss
            have ik : (((j + 1 : Nat) : Int) - 1 + (i : Int)).toNat = j + i := by omega
            obtain ⟨d, b2, hd, hb2, hdb, hdi, hbi⟩ := sub_limb (a := x1) (c := c) (b := bo) du hc hbo
            obtain ⟨xx, hxx⟩ : ∃ t, ((x1 : Int) - (c : Int) - (bo : Int)) % 18446744073709551616 = t := ⟨_, rfl⟩
            have hxw : IntKind.u64.wrap (IntKind.u64.wrap ((x1 : Int) - (c : Int)) - (bo : Int)) = xx := by rw [sub64, hxx]
            have hxr : 0 ≤ xx ∧ xx < 18446744073709551616 := by omega
            rw [hxx] at hdi hbi
            have hw32 : IntKind.u32.wrap xx = (d : Int) := by rw [wrap32]; exact hdi
            have hset := seg_set (u := u') (j := j) (i := i) (by omega) d
            have hlen2 : (u'.set (j + i) d).length = a.length + 1 := by simp [hul']
            have hd2 : Dig (u'.set (j + i) d) := hud'.set _ hd
            have hag2 : ∀ t, (t < j ∨ j + i + 1 ≤ t) → (u'.set (j + i) d).getD t 0 = u.getD t 0 := by
              intro t hto
              rw [← hag t (by omega), List.getD_eq_getElem?_getD, List.getElem?_set_ne (by omega), ← List.getD_eq_getElem?_getD]
            have hsum2 : seg (u'.set (j + i) d) j (i + 1) + g * val v = seg u j (i + 1) + b2 * B ^ (i + 1) := long_last hset hss hsum hdb
            obtain ⟨w, hw⟩ : ∃ w, u'.set (j + i) d = w := ⟨_, rfl⟩
            rw [hw] at hlen2 hd2 hag2 hsum2
            simp (dsimp := false) (disch := omega) only [h4, hag1, ik, hxw, hw32, hbi, hw, wrap64, wrapU64c, fdivc, IntKind.bits, Int.reduceToNat, Nat.min_def, Int.reducePow, rules, tys, eq_self, ↓reduceIte, Nat.reduceBEq, Nat.reduceLT, Nat.reduceLeDiff]
            refine ⟨by omega, by omega, by omega, by omega, by omega, Br.bneInt ?_ ?_⟩
            · intro h5 h6
              have hb1 : b2 = 1 := by omega
              subst hb1
              rw [Nat.one_mul] at hsum2
              have hwlt := seg_lt hd2 j (i + 1)
              have hVM : val v ≤ B ^ (i + 1) := by
                have h7 := val_lt hvd
                rw [hn] at h7
                exact Nat.le_trans (Nat.le_of_lt h7) (Nat.pow_le_pow_right (by decide) (by omega))
              have hhi : seg u j (i + 1) < g * val v := by omega
              have hg0 : 0 < g := by
                rcases Nat.eq_zero_or_pos g with h7 | h7
                · rw [h7, Nat.zero_mul] at hhi; omega
                · exact h7
              obtain ⟨g', rfl⟩ : ∃ g', g = g' + 1 := ⟨g - 1, by omega⟩
              have hgi' : ((g' + 1 : Nat) : Int) - 1 = (g' : Int) := by omega
              simp (dsimp := false) (disch := omega) only [h6, hgi', wrapU64c, rules, tys, eq_self, ↓reduceIte]
              refine WA.loop (α := Nat × Nat × List Nat) (fun ⟨t, c, w'⟩ => ⟨[.fv (.sl (u32s a)), .fv (.sl (u32s b)), .any, .any, .lsl 1 0 m 1, .nilsl, .int .u64 k, .lsl 0 0 (a.length + 1) 1, .fv (.sl (u32s v)), .int .i64 i, .int .u64 top, .int .u64 sec, .int .i64 (((j + 1 : Nat) : Int) - 1), .any, .int .u64 g', .any, .any, .int .u64 c] ++ List.replicate 159 .any ++ [.fv (.sl (u32s v)), .int .i64 i, .int .i64 t] ++ List.replicate 71 .any, [.row true (u32s w'), .row true (u32s qd)]⟩)
                (fun ⟨t, _, _⟩ => i - t) (fun ⟨t, c, w'⟩ => t ≤ i ∧ c ≤ 1 ∧ w'.length = a.length + 1 ∧ Dig w' ∧ (∀ s, (s < j ∨ j + t ≤ s) → w'.getD s 0 = w.getD s 0) ∧ seg w' j t + c * B ^ t = seg w j t + val (v.take t)) (0, 0, w) ?_ ?_ ?_
              · refine Weak.keep [0, 1] (by simp) rfl ?_ ?_
                · simp [leVs, leV, le1, hn]
                · simp [leH, leO]
              · refine ⟨by omega, by omega, hlen2, hd2, fun _ _ => rfl, ?_⟩
                simp [seg_zero, val]
              · rintro ⟨t, c', w'⟩ ⟨hti, hc', hwl, hwd, hwag, hwsum⟩
                have dv := hvd.getD t
                have du := hwd.getD (j + t)
                simp only [B] at dv du
                have hvs := val_take_succ v t
                have hss2 := seg_succ w j t
                have hag3 := hwag (j + t) (Or.inr (Nat.le_refl _))
                rw [← hag3] at hss2
                obtain ⟨y, hy⟩ : ∃ t', v.getD t 0 = t' := ⟨_, rfl⟩
                obtain ⟨z, hz⟩ : ∃ t', w'.getD (j + t) 0 = t' := ⟨_, rfl⟩
                rw [hy] at hvs dv
                rw [hz] at hss2 du
                have ik2 : (((j + 1 : Nat) : Int) - 1 + (t : Int)).toNat = j + t := by omega
                simp (dsimp := false) (disch := omega) only [List.replicate, rules, tys, eq_self, ↓reduceIte]
                refine Br.dec ?_ ?_
                · intro h7 h8
                  obtain ⟨cc, hcc⟩ : ∃ s, c' + (z + y) = s := ⟨_, rfl⟩
                  have hcci : (c' : Int) + ((z : Int) + (y : Int)) = (cc : Int) := by omega
                  have hcd : (cc : Int) / 4294967296 = ((cc / 4294967296 : Nat) : Int) := by rw [Int.natCast_ediv]; rfl
                  have hw3 : IntKind.u32.wrap (cc : Int) = ((cc % 4294967296 : Nat) : Int) := by rw [wrap32, Int.natCast_emod]; rfl
                  have hset2 := seg_set (u := w') (j := j) (i := t) (by omega) (cc % 4294967296)
                  simp (dsimp := false) (disch := omega) only [h8, hy, hz, ik2, hcci, hcd, hw3, wrap64, wrapU64c, fdivc, IntKind.bits, Int.reduceToNat, Nat.min_def, Int.reducePow, rules, tys, eq_self, ↓reduceIte, Nat.reduceLT, Nat.reduceLeDiff]
                  refine ⟨by omega, by omega, by omega, by omega, by omega, by omega, ?_⟩
                  refine Ap_loop (t + 1, cc / 4294967296, w'.set (j + t) (cc % 4294967296)) (by dsimp only; omega) ?_ ⟨by omega, by omega, by simp [hwl], hwd.set _ (Nat.mod_lt _ (by decide)), ?_, ?_⟩
                  · refine Weak.keep [0, 1] (by simp) rfl ?_ ?_
                    · simp [leVs, leV, le1]
                    · simp [leH, leO]
                  · intro s hs2
                    rw [← hwag s (by omega), List.getD_eq_getElem?_getD, List.getElem?_set_ne (by omega), ← List.getD_eq_getElem?_getD]
                  · rw [hset2, hvs, hss2, Nat.pow_succ]
                    exact addback_step hwsum hcc
                · intro h7 h8
                  have hti2 : t = i := by omega
                  subst hti2
                  rw [hvall] at hwsum
                  have hset2 := seg_set (u := w') (j := j) (i := t) (by omega) ((z + c') % 4294967296)
                  have hwc : IntKind.u32.wrap (c' : Int) = (c' : Int) := wrap32c (by omega)
                  have hw3 : IntKind.u32.wrap ((z : Int) + (c' : Int)) = (((z + c') % 4294967296 : Nat) : Int) := by rw [wrap32, Int.natCast_emod]; rfl
                  have hd4 : Dig (w'.set (j + t) ((z + c') % 4294967296)) := hwd.set _ (Nat.mod_lt _ (by decide))
                  have hl4 : (w'.set (j + t) ((z + c') % 4294967296)).length = a.length + 1 := by simp [hwl]
                  have hag4 : ∀ s, (s < j ∨ j + t + 1 ≤ s) → (w'.set (j + t) ((z + c') % 4294967296)).getD s 0 = u.getD s 0 := by
                    intro s hs2
                    rw [← hag2 s (by omega), ← hwag s (by omega), List.getD_eq_getElem?_getD, List.getElem?_set_ne (by omega), ← List.getD_eq_getElem?_getD]
                  have hs4 : seg (w'.set (j + t) ((z + c') % 4294967296)) j (t + 1) + ((z + c') / 4294967296) * B ^ (t + 1) = seg w j (t + 1) + val v := addback_last hset2 hss2 hwsum
                  obtain ⟨w4, hw4⟩ : ∃ w4, w'.set (j + t) ((z + c') % 4294967296) = w4 := ⟨_, rfl⟩
                  rw [hw4] at hd4 hl4 hag4 hs4
                  have hrb := round_back hVM hsum2 hg0 hg3 hhi hs4 (seg_lt hd4 _ _)
                  rw [Nat.add_sub_cancel] at hrb
                  have hwg : IntKind.u32.wrap (g' : Int) = (g' : Int) := wrap32c (by omega)
                  have hr := long_round (u := u) (u4 := w4) (qd := qd) (j := j) (n := t) (g := g') (V := val v) (by omega) (by omega) (by omega) hag4 LH.tail hrb.1 hrb.2 hinv
                  simp (dsimp := false) (disch := omega) only [h8, hz, ik2, hwc, hw3, hw4, hwg, i0, wrap64, rules, tys, eq_self, ↓reduceIte, Nat.reduceBEq, Nat.reduceLT, Nat.reduceLeDiff]
                  refine ⟨by omega, by omega, by omega, by omega, by omega, by omega, ?_⟩
                  refine Ap_loop (j, qd.set j g', w4) (by dsimp only; omega) ?_ ⟨by omega, hl4, by simp [hql], hd4, hqd.set _ (by simp only [B]; omega), hr.2, hr.1⟩
                  refine Weak.keep [0, 1] (by simp) rfl ?_ ?_
                  · simp [leVs, leV, le1]
                  · simp [leH, leO]
            · intro h5 h6
              have hb0 : b2 = 0 := by omega
              subst hb0
              rw [Nat.zero_mul, Nat.add_zero] at hsum2
              have hwg : IntKind.u32.wrap (g : Int) = (g : Int) := wrap32c (by omega)
              have hro := round_ok hsum2 hWhi
              have hr := long_round (u := u) (u4 := w) (qd := qd) (j := j) (n := i) (g := g) (V := val v) (by omega) (by omega) (by omega) hag2 LH.tail hsum2 hro hinv
              simp (dsimp := false) (disch := omega) only [h6, hwg, i0, wrap64, wrapU64c, rules, tys, eq_self, ↓reduceIte, Nat.reduceLT, Nat.reduceLeDiff]
              refine ⟨by omega, by omega, ?_⟩
              refine Ap_loop (j, qd.set j g, w) (by dsimp only; omega) ?_ ⟨by omega, hlen2, by simp [hql], hd2, hqd.set _ hg2, hr.2, hr.1⟩
              refine Weak.keep [0, 1] (by simp) rfl ?_ ?_
              · simp [leVs, leV, le1]
              · simp [leH, leO]
    · intro h1 h2
      have hj0 : j1 = 0 := by omega
      subst hj0
      rw [List.drop_zero] at hlt
      rw [List.drop_zero, Nat.pow_zero, Nat.one_mul] at hinv
      have hp0 : 0 < 2 ^ k := Nat.two_pow_pos k
      have hend := long_end hvv hp0 hinv hlt
      have hul2 : val u / 2 ^ k < B ^ n := by
        refine Nat.lt_of_le_of_lt (Nat.div_le_self _ _) (Nat.lt_trans hlt ?_)
        rw [← hn]; exact val_lt hvd
      simp (dsimp := false) (disch := omega) only [h2, rules, tys, eq_self, ↓reduceIte, Nat.reduceAdd, Nat.reduceBEq, Nat.reduceLT]
      refine ⟨by omega, ?_⟩
      refine WA.loop (α := Nat × List Nat) (fun ⟨i, out⟩ => ⟨[.fv (.sl (u32s a)), .fv (.sl (u32s b)), .any, .any, .lsl 1 0 m 1, .lsl 2 0 n 1, .int .u64 k, .lsl 0 0 (a.length + 1) 1] ++ List.replicate 215 .any ++ [.int .i64 n, .int .i64 i] ++ List.replicate 26 .any, [.row true (u32s u), .row true (u32s qd), .row true (u32s out)]⟩)
        (fun ⟨i, _⟩ => n - i) (fun ⟨i, out⟩ => i ≤ n ∧ out.length = n ∧ Dig out ∧ out.take i = digs i (val u / 2 ^ k)) (0, List.replicate n 0) ?_ ?_ ?_
      · refine Weak.keep [0, 1, 2] (by simp) rfl ?_ ?_
        · simp [leVs, leV, le1]
        · simp [leH, leO]
      · exact ⟨by omega, by simp, Dig.zeros, by simp [digs]⟩
      · rintro ⟨i, out⟩ ⟨hi, ho, hdo, hv3⟩
        simp (dsimp := false) (disch := omega) only [List.replicate, rules, tys, eq_self, ↓reduceIte]
        refine Br.dec ?_ ?_
        · intro h3 h4
          have hx := hud.getD i
          have hy := hud.getD (i + 1)
          have hudg : (u.getD i 0 + u.getD (i + 1) 0 * 4294967296) / 2 ^ k % 4294967296 = val u / 2 ^ k / B ^ i % 4294967296 := by
            rw [unshift_digit (l := u) (i := i) (k := k) (by omega) (by omega), ← val_drop_div hud (by omega), Nat.div_div_eq_div_mul, Nat.div_div_eq_div_mul, Nat.mul_comm (2 ^ k)]
          have hi1 : ((i : Int) + 1).toNat = i + 1 := by omega
          have hk64 : (k ≤ 64) = True := by simp; omega
          simp only [B] at hx hy
          obtain ⟨x, hxd⟩ : ∃ t, u.getD i 0 = t := ⟨_, rfl⟩
          obtain ⟨y, hyd⟩ : ∃ t, u.getD (i + 1) 0 = t := ⟨_, rfl⟩
          rw [hxd] at hx hudg
          rw [hyd] at hy hudg
          obtain ⟨s, hs⟩ : ∃ s, x + y * 4294967296 = s := ⟨_, rfl⟩
          rw [hs] at hudg
          have hsc : (y : Int) * 4294967296 + x = (s : Int) := by omega
          have hpc : ((s : Int)) / 2 ^ k = ((s / 2 ^ k : Nat) : Int) := by rw [Int.natCast_ediv, Int.natCast_pow]; rfl
          have hws : IntKind.u32.wrap ((s / 2 ^ k : Nat) : Int) = ((s / 2 ^ k % 4294967296 : Nat) : Int) := by rw [wrap32]; rfl
          have hpp : (0 : Int) ≤ 2 ^ k := by
            have : (2 : Int) ^ k = ((2 ^ k : Nat) : Int) := by rw [Int.natCast_pow]; rfl
            omega
          obtain ⟨dg, hdg⟩ : ∃ t, s / 2 ^ k % 4294967296 = t := ⟨_, rfl⟩
          have hdgb : dg < 4294967296 := by rw [← hdg]; exact Nat.mod_lt _ (by decide)
          rw [hdg] at hws hudg
          have hstep : (out.set i dg).take (i + 1) = digs (i + 1) (val u / 2 ^ k) := by
            rw [digs_succ, ← hv3, List.take_succ_eq_append_getElem (by simp; omega), List.take_set_of_le (Nat.le_refl i)]
            simp only [List.getElem_set_self, B] at *
            rw [hudg]
          simp (dsimp := false) (disch := omega) only [h4, rules]
          refine Draw.intro (by kernel_rfl) ?_
          simp (dsimp := false) (disch := omega) only [hxd, hyd, hi1, or64s, hsc, hk64, hpc, hws, wrap64, wrapU64c, fdivc, IntKind.bits, Int.reduceToNat, Nat.min_def, Int.reducePow, rules, tys, eq_self, ↓reduceIte, Nat.reduceLT, Nat.reduceLeDiff]
          refine ⟨by omega, by omega, by omega, by omega, by omega, by omega, by omega, by omega, ?_⟩
          refine Ap_loop (i + 1, out.set i dg) (by dsimp only; omega) ?_ ⟨by omega, by simp [ho], hdo.set _ hdgb, hstep⟩
          refine Weak.keep [0, 1, 2] (by simp) rfl ?_ ?_
          · simp [leVs, leV, le1]
          · simp [leH, leO]
        · intro h3 h4
          simp (dsimp := false) (disch := omega) only [h4, rules, Nat.reduceBEq]
          have hin : i = n := by omega
          have hvo : val out = val u / 2 ^ k := by
            rw [hin, List.take_of_length_le (by omega)] at hv3
            rw [hv3, val_digs hul2]
          refine GoCall.pure (den87 qd hqd (by omega)) ?_ ?_
          · simp [fzAs, fzA, fz1, fz0, u32s_length, hql]
            rw [List.take_of_length_le (by simp [u32s_length, hql])]
          · simp (dsimp := false) (disch := omega) only [rules, Nat.reduceAdd]
            refine GoCall.pure (den87 out hdo (by omega)) ?_ ?_
            · simp [fzAs, fzA, fz1, fz0, u32s_length, ho]
              rw [List.take_of_length_le (by simp [u32s_length, ho])]
            · simp (dsimp := false) (disch := omega) only [Ap_end_ret, rules, Nat.reduceAdd]
              refine RetOK.pure rfl ⟨trivial, trivial, trivial⟩ ?_
              rw [hend.1, hvo, hend.2]
              simp (disch := omega) only [St.get, fzX, oneRes, fzV, fzVs, fzC, fz1, fz0, Option.map_some, List.getD_cons_succ, List.getD_cons_zero]

end Go.Proofs.Yteifpjjnphcdcaa

/- Contracts: natural.DivMod. -/
namespace Go.Proofs.Yteifpjjnphcdcaa
open Go.AM Go.Pl
set_option maxRecDepth 100000
set_option maxHeartbeats 4000000

theorem cmpN_neg {x y : Nat} : cmpN x y < 0 ↔ x < y := by
  unfold cmpN; split
  · omega
  · split <;> omega

/-- Division of limbs of trimmed numbers. -/
theorem den101N (a b : Nat) (hla : (limbs a).length < 10000000000) (hlb2 : 2 ≤ (limbs b).length) (hlb : (limbs b).length ≤ (limbs a).length) :
    Den Try.prog 101 [] [.fv (N a), .fv (N b)] [] (.tup [.fv (N (a / b)), .fv (N (a % b))]) := by
  obtain ⟨n, hn⟩ : ∃ n, (limbs b).length = n + 1 := ⟨(limbs b).length - 1, by omega⟩
  have htop := top_pos hn
  have htd := (limbs_dig b).getD n
  simp only [B] at htd
  have hb1 := blen_lt ((limbs b).getD n 0)
  have hb2 := blen_pow (n := (limbs b).getD n 0) (by omega)
  have hb3 : blen ((limbs b).getD n 0) ≤ 32 := blen_le htd
  have hb4 : 1 ≤ blen ((limbs b).getD n 0) := by
    rcases Nat.eq_zero_or_pos (blen ((limbs b).getD n 0)) with h | h
    · rw [h] at hb1; omega
    · exact h
  have hns := norm_shift (k := 32 - blen ((limbs b).getD n 0)) hn rfl (by omega) ?_ ?_
  · have h := den101 (limbs a) (limbs b) (32 - blen ((limbs b).getD n 0)) (limbs_dig a) (limbs_dig b) hla hlb2 hlb (by rw [hn, Nat.add_sub_cancel]) (by omega) (limbs (b * 2 ^ (32 - blen ((limbs b).getD n 0)))) (by rw [val_limbs]) (by rw [hns.1, hn]) (by rw [hns.1, Nat.add_sub_cancel]; exact hns.2)
    rw [val_limbs, val_limbs] at h
    exact h
  · have h1 : 2 ^ (blen ((limbs b).getD n 0) - 1) * 2 ^ (32 - blen ((limbs b).getD n 0)) = 2147483648 := by
      rw [← Nat.pow_add, show blen ((limbs b).getD n 0) - 1 + (32 - blen ((limbs b).getD n 0)) = 31 by omega]
    rw [← h1]
    exact Nat.mul_le_mul_right _ hb2
  · have h1 : 2 ^ (blen ((limbs b).getD n 0)) * 2 ^ (32 - blen ((limbs b).getD n 0)) = 4294967296 := by
      rw [← Nat.pow_add, show blen ((limbs b).getD n 0) + (32 - blen ((limbs b).getD n 0)) = 32 by omega]
    have h2 := Nat.mul_lt_mul_of_pos_right hb1 (Nat.two_pow_pos (32 - blen ((limbs b).getD n 0)))
    omega

theorem den86z (a b : List Nat) (ha : Dig a) (hb : Dig b) (hla : a.length < 10000000000) (hlb : b.length < 10000000000) (h0 : val b = 0) :
    Den Try.prog 86 [] [.fv (.sl (u32s a)), .fv (.sl (u32s b))] [] (.tup [.fv (N 0), .fv (N 0), .int .i64 3]) := by
  refine den_of tabOk mixed Try.func86 (cd := _) rfl (by decide) rfl (n := 46) rfl rfl (m := 0) rfl ?_
  simp (dsimp := false) (disch := omega) only [List.replicate, rules]
  refine GoCall.pure (den87 a ha (by omega)) rfl ?_
  simp (dsimp := false) (disch := omega) only [rules]
  refine GoCall.pure (den87 b hb (by omega)) rfl ?_
  have hl0 : (limbs 0).length = 0 := by rw [limbs_zero]; rfl
  have hl1 : ((0 : Nat) : Int) = 0 := rfl
  have hl2 : ((0 : Int) == 0) = true := rfl
  simp (dsimp := false) (disch := omega) only [N_val, h0, hl0, hl1, hl2, Ap_end_ret, rules, tys, eq_self, ↓reduceIte]
  refine RetOK.pure rfl ⟨trivial, trivial, trivial, trivial⟩ ?_
  simp (disch := omega) only [St.get, fzX, oneRes, fzV, fzVs, fzC, fz1, fz0, Option.map_some, List.getD_cons_succ, List.getD_cons_zero]
  simp [limbs_zero, u32s]

theorem den86 (a b : List Nat) (ha : Dig a) (hb : Dig b) (hla : a.length < 10000000000) (hlb : b.length < 10000000000) (h0 : val b ≠ 0) :
    Den Try.prog 86 [] [.fv (.sl (u32s a)), .fv (.sl (u32s b))] [] (.tup [.fv (N (val a / val b)), .fv (N (val a % val b)), .int .i64 0]) := by
  have hla2 := limbs_length_le (val_lt ha)
  have hlb2 := limbs_length_le (val_lt hb)
  have hlb0 : (limbs (val b)).length ≠ 0 := fun h => h0 (limbs_len0 h)
  refine den_of tabOk mixed Try.func86 (cd := _) rfl (by decide) rfl (n := 46) rfl rfl (m := 0) rfl ?_
  simp (dsimp := false) (disch := omega) only [List.replicate, rules]
  refine GoCall.pure (den87 a ha (by omega)) rfl ?_
  simp (dsimp := false) (disch := omega) only [rules]
  refine GoCall.pure (den87 b hb (by omega)) rfl ?_
  have hz : (((limbs (val b)).length : Int) == 0) = false := by rw [beq_eq_false_iff_ne]; omega
  simp (dsimp := false) (disch := omega) only [N_val, hz, rules, tys, eq_self, ↓reduceIte]
  refine GoCall.pure (den91 (limbs (val a)) (limbs (val b)) (limbs_dig _) (limbs_dig _) (by omega) (by omega)) rfl ?_
  simp (dsimp := false) (disch := omega) only [val_limbs, rules, tys, eq_self, ↓reduceIte]
  refine Br.dec ?_ ?_
  · intro h1 h2
    rw [cmpN_neg] at h1
    simp (dsimp := false) (disch := omega) only [h2, rules]
    refine GoCall.pure (den97 (u32s (limbs (val a))) (by simp [u32s]) (by simp [u32s]; omega)) rfl ?_
    simp (dsimp := false) (disch := omega) only [Ap_end_ret, rules]
    refine RetOK.pure rfl ⟨trivial, trivial, trivial, trivial⟩ ?_
    simp (disch := omega) only [St.get, fzX, oneRes, fzV, fzVs, fzC, fz1, fz0, Option.map_some, List.getD_cons_succ, List.getD_cons_zero]
    rw [Nat.div_eq_of_lt h1, Nat.mod_eq_of_lt h1]
    simp [N, limbs_zero, u32s]
  · intro h1 h2
    rw [cmpN_neg] at h1
    simp (dsimp := false) (disch := omega) only [h2, rules, tys, eq_self, ↓reduceIte]
    refine Br.beqInt ?_ ?_
    · intro h3 h4
      obtain ⟨d, hd⟩ : ∃ d, limbs (val b) = [d] := List.length_eq_one_iff.1 (by omega)
      have hbv : val b = d := by rw [← val_limbs (val b), hd]; simp [val]
      have hdd : d < 4294967296 := by have := limbs_dig (val b); rw [hd] at this; exact this d (by simp)
      have hg0 : (u32s [d]).getD 0 [] = [FV.lit (Value.int .u32 d)] := rfl
      have hd0 : 0 < d := by omega
      have hb2 := Nat.mod_lt (val a) hd0
      have h100 := den100 (limbs (val a)) d (limbs_dig _) (by omega) hdd hd0
      rw [val_limbs] at h100
      simp (dsimp := false) (disch := omega) only [hd, hg0, Int.reduceToNat, rules, tys, eq_self, ↓reduceIte, Nat.reduceLT, Nat.reduceLeDiff]
      refine ⟨by simp, ?_⟩
      refine GoCall.pure h100 rfl ?_
      obtain ⟨r, hr⟩ : ∃ r, val a % d = r := ⟨_, rfl⟩
      rw [hr] at hb2
      have hrc : IntKind.u64.wrap (r : Int) = (r : Int) := wrapU64c (by omega)
      simp (dsimp := false) (disch := omega) only [hr, hrc, rules, tys]
      refine GoCall.pure (den99 r (by omega)) rfl ?_
      simp (dsimp := false) (disch := omega) only [Ap_end_ret, rules]
      refine RetOK.pure rfl ⟨trivial, trivial, trivial, trivial⟩ ?_
      simp (disch := omega) only [hbv, hr, St.get, fzX, oneRes, fzV, fzVs, fzC, fz1, fz0, Option.map_some, List.getD_cons_succ, List.getD_cons_zero]
    · intro h3 h4
      have hle : (limbs (val b)).length ≤ (limbs (val a)).length := limbs_len_mono (by omega)
      have h101 := den101N (val a) (val b) (by omega) (by omega) hle
      rw [N_val, N_val] at h101
      simp (dsimp := false) (disch := omega) only [h4, rules]
      refine GoCall.pure h101 rfl ?_
      simp (dsimp := false) (disch := omega) only [Ap_end_ret, rules]
      refine RetOK.pure rfl ⟨trivial, trivial, trivial, trivial⟩ ?_
      simp (disch := omega) only [St.get, fzX, oneRes, fzV, fzVs, fzC, fz1, fz0, Option.map_some, List.getD_cons_succ, List.getD_cons_zero]

theorem den85 (a b : List Nat) (ha : Dig a) (hb : Dig b) (hla : a.length < 10000000000) (hlb : b.length < 10000000000) :
    Den Try.prog 85 [] [.fv (.sl (u32s a)), .fv (.sl (u32s b))] [] (.fv (N (Nat.gcd (val a) (val b)))) := by
  have hla2 := limbs_length_le (val_lt ha)
  have hlb2 := limbs_length_le (val_lt hb)
  refine den_of tabOk mixed Try.func85 (cd := _) rfl (by decide) rfl (n := 45) rfl rfl (m := 0) rfl ?_
  simp (dsimp := false) (disch := omega) only [List.replicate, rules]
  refine GoCall.pure (den84 a ha (by omega)) rfl ?_
  simp (dsimp := false) (disch := omega) only [rules]
  refine GoCall.pure (den84 b hb (by omega)) rfl ?_
  simp (dsimp := false) (disch := omega) only [N_val, rules]
  generalize hg : Nat.gcd (val a) (val b) = g
  refine WA.loop (α := Nat × Nat) (fun ⟨x, y⟩ => ⟨.fv (.sl (u32s (limbs x))) :: .fv (.sl (u32s (limbs y))) :: .any :: .any :: .nilsl :: List.replicate 42 .any, []⟩)
    (fun ⟨_, y⟩ => y) (fun ⟨x, y⟩ => (limbs x).length < 10000000000 ∧ (limbs y).length < 10000000000 ∧ Nat.gcd x y = g) (val a, val b) ?_ ?_ ?_
  · refine Weak.keep [] (by simp) rfl ?_ ?_
    · simp [leVs, leV, le1]
    · trivial
  · exact ⟨by omega, by omega, hg⟩
  · rintro ⟨x, y⟩ ⟨hx, hy, hxy⟩
    simp (dsimp := false) (disch := omega) only [List.replicate, rules, tys, eq_self, ↓reduceIte]
    refine Br.dec ?_ ?_
    · intro h1 h2
      simp (dsimp := false) (disch := omega) only [h2, rules, tys, eq_self, ↓reduceIte]
      refine Br.beqInt ?_ ?_
      · intro h5 h6
        have hy0 : y = 0 := limbs_len0 (by omega)
        subst hy0
        simp (dsimp := false) (disch := omega) only [h6, Ap_end_ret, rules]
        refine RetOK.pure rfl ⟨trivial, trivial⟩ ?_
        rw [Nat.gcd_zero_right] at hxy
        simp (disch := omega) only [hxy, St.get, fzX, oneRes, fzV, fzC, fz1, fz0, Option.map_some, List.getD_cons_succ, List.getD_cons_zero]
        rfl
      · intro h5 h6
        have hy0 : y ≠ 0 := fun h => h5 (by rw [h, limbs_zero]; rfl)
        have h86 := den86 (limbs x) (limbs y) (limbs_dig _) (limbs_dig _) hx hy (by rw [val_limbs]; exact hy0)
        rw [val_limbs, val_limbs, N_val, N_val] at h86
        simp (dsimp := false) (disch := omega) only [h6, rules]
        refine GoCall.pure h86 rfl ?_
        simp (dsimp := false) (disch := omega) only [rules]
        have hlt := Nat.mod_lt x (Nat.pos_of_ne_zero hy0)
        refine Ap_loop (y, x % y) (by exact hlt) ?_ ⟨hy, Nat.lt_of_le_of_lt (limbs_len_mono (Nat.le_of_lt hlt)) hy, ?_⟩
        · refine Weak.keep [] (by simp) rfl ?_ ?_
          · simp [leVs, leV, le1]
          · trivial
        · rw [← hxy, Nat.gcd_comm y, ← Nat.gcd_rec, Nat.gcd_comm]
    · intro h1 h2
      simp (dsimp := false) (disch := omega) only [h2, rules, tys, eq_self, ↓reduceIte]
      refine Br.dec ?_ ?_
      · intro h3 h4
        simp (dsimp := false) (disch := omega) only [h4, rules, tys, eq_self, ↓reduceIte]
        refine Br.beqInt ?_ ?_
        · intro h5 h6
          have hy0 : y = 0 := limbs_len0 (by omega)
          subst hy0
          simp (dsimp := false) (disch := omega) only [h6, Ap_end_ret, rules]
          refine RetOK.pure rfl ⟨trivial, trivial⟩ ?_
          rw [Nat.gcd_zero_right] at hxy
          simp (disch := omega) only [hxy, St.get, fzX, oneRes, fzV, fzC, fz1, fz0, Option.map_some, List.getD_cons_succ, List.getD_cons_zero]
          rfl
        · intro h5 h6
          have hy0 : y ≠ 0 := fun h => h5 (by rw [h, limbs_zero]; rfl)
          have h86 := den86 (limbs x) (limbs y) (limbs_dig _) (limbs_dig _) hx hy (by rw [val_limbs]; exact hy0)
          rw [val_limbs, val_limbs, N_val, N_val] at h86
          simp (dsimp := false) (disch := omega) only [h6, rules]
          refine GoCall.pure h86 rfl ?_
          simp (dsimp := false) (disch := omega) only [rules]
          have hlt := Nat.mod_lt x (Nat.pos_of_ne_zero hy0)
          refine Ap_loop (y, x % y) (by exact hlt) ?_ ⟨hy, Nat.lt_of_le_of_lt (limbs_len_mono (Nat.le_of_lt hlt)) hy, ?_⟩
          · refine Weak.keep [] (by simp) rfl ?_ ?_
            · simp [leVs, leV, le1]
            · trivial
          · rw [← hxy, Nat.gcd_comm y, ← Nat.gcd_rec, Nat.gcd_comm]
      · intro h3 h4
        have hxv : x < 18446744073709551616 := Nat.lt_of_lt_of_le (lt_of_limbs_length (n := x)) (Nat.pow_le_pow_right (n := B) (by decide) (show (limbs x).length ≤ 2 by omega))
        have hyv : y < 18446744073709551616 := Nat.lt_of_lt_of_le (lt_of_limbs_length (n := y)) (Nat.pow_le_pow_right (n := B) (by decide) (show (limbs y).length ≤ 2 by omega))
        have h98x := den98 (limbs x) (limbs_dig x) (by omega)
        have h98y := den98 (limbs y) (limbs_dig y) (by omega)
        rw [val_limbs] at h98x h98y
        simp (dsimp := false) (disch := omega) only [h4, rules, Nat.reduceBEq]
        refine GoCall.pure h98x rfl ?_
        simp (dsimp := false) (disch := omega) only [rules]
        refine GoCall.pure h98y rfl ?_
        simp (dsimp := false) (disch := omega) only [rules]
        refine WA.loop (α := Nat × Nat) (fun ⟨p, q⟩ => ⟨.any :: .any :: .any :: .any :: .nilsl :: .any :: .any :: .any :: .int .u64 p :: .int .u64 q :: List.replicate 37 .any, []⟩)
          (fun ⟨_, q⟩ => q) (fun ⟨p, q⟩ => p < 18446744073709551616 ∧ q < 18446744073709551616 ∧ Nat.gcd p q = g) (x, y) ?_ ?_ ?_
        · refine Weak.keep [] (by simp) rfl ?_ ?_
          · simp [leVs, leV, le1]
          · trivial
        · exact ⟨hxv, hyv, hxy⟩
        · rintro ⟨p, q⟩ ⟨hp, hq, hpq⟩
          simp (dsimp := false) (disch := omega) only [List.replicate, rules, tys, eq_self, ↓reduceIte]
          refine Br.bneInt ?_ ?_
          · intro h5 h6
            have hlt := Nat.mod_lt p (show q > 0 by omega)
            have hmi : (p : Int) % (q : Int) = ((p % q : Nat) : Int) := by rw [Int.natCast_emod]
            obtain ⟨r, hr⟩ : ∃ r, p % q = r := ⟨_, rfl⟩
            rw [hr] at hlt hmi
            simp (dsimp := false) (disch := omega) only [h6, rules]
            refine Draw.intro (by kernel_rfl) ?_
            simp (dsimp := false) (disch := omega) only [hmi, tmodc, rules, tys, eq_self, ↓reduceIte]
            refine ⟨by omega, ?_⟩
            refine Ap_loop (q, r) (by exact hlt) ?_ ⟨hq, by omega, ?_⟩
            · refine Weak.keep [] (by simp) rfl ?_ ?_
              · simp [leVs, leV, le1]
              · trivial
            · rw [← hpq, ← hr, Nat.gcd_comm q, ← Nat.gcd_rec, Nat.gcd_comm]
          · intro h5 h6
            have hq0 : q = 0 := by omega
            subst hq0
            rw [Nat.gcd_zero_right] at hpq
            simp (dsimp := false) (disch := omega) only [h6, rules, Nat.reduceBEq]
            refine GoCall.pure (den99 p hp) rfl ?_
            simp (dsimp := false) (disch := omega) only [Ap_end_ret, rules]
            refine RetOK.pure rfl ⟨trivial, trivial⟩ ?_
            simp (disch := omega) only [hpq, St.get, fzX, oneRes, fzV, fzC, fz1, fz0, Option.map_some, List.getD_cons_succ, List.getD_cons_zero]

end Go.Proofs.Yteifpjjnphcdcaa
