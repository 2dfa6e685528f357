/- Contracts: the reference's naturals: digit. -/
import Derived.Test.YteifpjjnphcdcaaR1
import Derived.Test.YteifpjjnphcdcaaP1
import Derived.Test.YteifpjjnphcdcaaA4

namespace Go.Proofs.Yteifpjjnphcdcaa
open Go.AM Go.Pl
set_option maxRecDepth 100000
set_option maxHeartbeats 4000000

theorem den95 (u v : List Nat) (j n : Nat) (hud : Dig u) (hvd : Dig v) (hn : v.length = n) (hn2 : 2 ≤ n) (hj : j + n + 1 ≤ u.length) (hul : u.length < 10000000010) (htop : 2147483648 ≤ v.getD (n - 1) 0) (hlt : val (u.drop (j + 1)) < val v) :
    Den Try.prog 95 [.row true (u32s u)] [.lsl 0 0 u.length 1, .fv (.sl (u32s v)), .int .i64 j] [.row true (u32s (putSeg u j (n + 1) (seg u j (n + 1) % val v)))] (.int .u32 ((seg u j (n + 1) / val v : Nat) : Int)) := by
  obtain ⟨L, hL⟩ : ∃ L, u.length = L := ⟨_, rfl⟩
  have hn1' : ((n : Int) - 1).toNat = n - 1 := by omega
  have hn2' : ((n : Int) - 2).toNat = n - 2 := by omega
  have htb2 := hvd.getD (n - 1)
  have hsb2 := hvd.getD (n - 2)
  simp only [B] at htb2 hsb2
  obtain ⟨top, ht⟩ : ∃ t, v.getD (n - 1) 0 = t := ⟨_, rfl⟩
  obtain ⟨sec, hs⟩ : ∃ t, v.getD (n - 2) 0 = t := ⟨_, rfl⟩
  rw [ht] at htb2 htop
  rw [hs] at hsb2
  have i1 : ((j : Int) + (n : Int)).toNat = j + n := by omega
  have i2 : ((j : Int) + (n : Int) - 1).toNat = j + n - 1 := by omega
  have i3 : ((j : Int) + (n : Int) - 2).toNat = j + n - 2 := by omega
  have LH := long_head (j := j) hud hvd hn hn2 (by omega) hlt
  have d1 := hud.getD (j + n)
  have d2 := hud.getD (j + n - 1)
  have d3 := hud.getD (j + n - 2)
  simp only [B] at d1 d2 d3
  have hfirst := LH.first
  rw [ht] at hfirst
  obtain ⟨x1, hx1⟩ : ∃ t, u.getD (j + n) 0 = t := ⟨_, rfl⟩
  obtain ⟨x2, hx2⟩ : ∃ t, u.getD (j + n - 1) 0 = t := ⟨_, rfl⟩
  obtain ⟨x3, hx3⟩ : ∃ t, u.getD (j + n - 2) 0 = t := ⟨_, rfl⟩
  rw [hx1] at d1 hfirst
  rw [hx2] at d2 hfirst
  rw [hx3] at d3
  obtain ⟨F, hF⟩ : ∃ F, F = x1 * 4294967296 + x2 := ⟨_, rfl⟩
  have hFi : (x1 : Int) * 4294967296 + (x2 : Int) = (F : Int) := by omega
  rw [← hF] at hfirst
  have hFt : F / top ≤ 4294967297 := kn_top htop hfirst
  have hFm : F % top < top := Nat.mod_lt _ (by omega)
  have hpos : 0 < val v := by have := LH.v1; rw [ht] at this; have h0 : 0 < top * B ^ (n - 1) := Nat.mul_pos (by omega) (Nat.pow_pos (by decide)); omega
  obtain ⟨Q, hQ⟩ : ∃ Q, Q = seg u j (n + 1) / val v := ⟨_, rfl⟩
  have hQv : Q * val v ≤ seg u j (n + 1) := by rw [hQ]; exact Nat.div_mul_le_self _ _
  have LH1 := LH.h1
  rw [hx1, hx2, ← hF] at LH1
  have LHv := LH.v1
  rw [ht] at LHv
  have hst := kn_start (q := Q) (by omega) (kn_first (Nat.pow_pos (by decide)) LH1 LH.s1 LHv hQv)
  have hQb : Q < 4294967296 := by
    rw [hQ, Nat.div_lt_iff_lt_mul hpos, Nat.mul_comm]; exact LH.lt
  have hq : (F : Int) / (top : Int) = ((F / top : Nat) : Int) := by rw [Int.natCast_ediv]
  have hr : (F : Int) % (top : Int) = ((F % top : Nat) : Int) := by rw [Int.natCast_emod]
  generalize F / top = g0 at *
  generalize F % top = r0 at *
  refine den_of tabOk mixed Try.func95 (cd := _) rfl (by decide) rfl (n := 176) rfl rfl (m := 1) rfl ?_
  simp (dsimp := false) (disch := omega) only [hn, hL, rules, tys]
  refine Draw.intro (by kernel_rfl) ?_
  simp (dsimp := false) (disch := omega) only [i1, i2, hx1, hx2, or64s, hFi, wrap64, wrapU64c, IntKind.bits, Int.reduceToNat, Nat.min_def, Int.reducePow, rules, tys, eq_self, ↓reduceIte, Nat.reduceLeDiff]
  refine ⟨by omega, by omega, by omega, by omega, by omega, ?_⟩
  refine Draw.intro (by kernel_rfl) ?_
  simp (dsimp := false) (disch := omega) only [hn, hn1', ht, hq, hr, wrap64, wrapU64c, tdivc, tmodc, rules, tys, eq_self, ↓reduceIte, Nat.reduceLT, Nat.reduceLeDiff]
  refine ⟨by omega, by omega, by omega, by omega, ?_⟩
  refine WA.blockcut (fun (y : Nat × (Nat → PV)) => ⟨[.lsl 0 0 L 1, .fv (.sl (u32s v)), .int .i64 j, .any, .any, .any, .any, .int .i64 n, .any, .int .u64 y.1] ++ tl y.2 10 169, [.row true (u32s u)]⟩)
    (fun y => Q ≤ y.1 ∧ y.1 < 4294967296 ∧ (y.1 - 1) * val v ≤ seg u j (n + 1)) ?_ ?_
  · refine WA.loop (α := Nat × Nat) (fun ⟨g, r⟩ => ⟨.lsl 0 0 L 1 :: .fv (.sl (u32s v)) :: .int .i64 j :: .any :: .any :: .any :: .any :: .int .i64 n :: .any :: .int .u64 g :: .int .u64 r :: List.replicate 168 .any, [.row true (u32s u)]⟩)
      (fun ⟨g, _⟩ => g) (fun ⟨g, r⟩ => KnInv F top Q g r ∧ r < 4294967296 ∧ g ≤ 4294967297) (g0, r0) ?_ ?_ ?_
    · refine Weak.keep [0] (by simp) rfl ?_ ?_
      · simp [leVs, leV, le1]
      · simp [leH, leO]
    · exact ⟨hst, by omega, hFt⟩
    · rintro ⟨g, r⟩ ⟨hkn, hrb, hgb⟩
      simp (dsimp := false) (disch := omega) only [List.replicate, rules]
      refine Draw.intro (by kernel_rfl) ?_
      simp (dsimp := false) (disch := omega) only [rules, tys, eq_self, ↓reduceIte]
      refine Br.dec ?_ ?_
      · intro h3 h4
        have hlt' : Q < g := by omega
        obtain ⟨g', rfl⟩ : ∃ g', g = g' + 1 := ⟨g - 1, by omega⟩
        have hkn' := kn_next hkn hlt'
        rw [Nat.add_sub_cancel] at hkn'
        have hgi' : ((g' + 1 : Nat) : Int) - 1 = (g' : Int) := by omega
        simp (dsimp := false) (disch := omega) only [h4, hgi', hn, hn1', ht, wrap64, wrapU64c, rules, tys, eq_self, ↓reduceIte, Nat.reduceLT, Nat.reduceLeDiff]
        repeat refine And.intro (by omega) ?_
        refine Br.dec ?_ ?_
        · intro h5 h6
          simp (dsimp := false) (disch := omega) only [h6, rules, Nat.reduceBEq]
          have hbig := kn_big (second := sec) hkn' (by omega) hfirst (by omega)
          refine Mid.ex g' rfl ⟨by omega, hbig.1, ?_⟩
          refine guess_low LH hbig.1 (by omega) ?_
          rw [ht, hs, hx1, hx2, hx3, ← hF]
          exact kn_pass hkn' (Nat.le_trans hbig.2 (Nat.le_add_right _ _))
        · intro h5 h6
          simp (dsimp := false) (disch := omega) only [h6, rules]
          refine Ap_loop (g', r + top) (by dsimp only; omega) ?_ ⟨hkn', by omega, by omega⟩
          refine Weak.keep [0] (by simp) rfl ?_ ?_
          · simp [leVs, leV, le1]
          · simp [leH, leO]
      · intro h3 h4
        have hgl : g < 4294967296 := by omega
        have hgs : g * sec ≤ 4294967295 * 4294967295 := Nat.mul_le_mul (by omega) (by omega)
        have hgi : (g : Int) * (sec : Int) = ((g * sec : Nat) : Int) := by rw [Int.natCast_mul]
        obtain ⟨gs, hgs2⟩ : ∃ t, g * sec = t := ⟨_, rfl⟩
        rw [hgs2] at hgs hgi
        have hrd : decide ((r : Int) < 4294967296) = true := decide_eq_true (by omega)
        simp (dsimp := false) (disch := omega) only [h4, hrd, hgi, hn2', hs, i3, hx3, or64s, wrap64, wrapU64c, IntKind.bits, Int.reduceToNat, Nat.min_def, Int.reducePow, rules, tys, eq_self, ↓reduceIte, Nat.reduceLT, Nat.reduceLeDiff]
        repeat refine And.intro (by omega) ?_
        refine Br.dec ?_ ?_
        · intro h7 h8
          have hlt' : Q < g := by
                      have LH2 := LH.h2
                      have LHv2 := LH.v2
                      rw [hx1, hx2, hx3, ← hF] at LH2
                      rw [ht, hs] at LHv2
                      exact kn_test (Nat.pow_pos (by decide)) LH2 LH.s2 rfl LHv2 hQv hkn (by rw [hgs2]; omega)
          obtain ⟨g', rfl⟩ : ∃ g', g = g' + 1 := ⟨g - 1, by omega⟩
          have hkn' := kn_next hkn hlt'
          rw [Nat.add_sub_cancel] at hkn'
          have hgi' : ((g' + 1 : Nat) : Int) - 1 = (g' : Int) := by omega
          simp (dsimp := false) (disch := omega) only [h8, hgi', hn, hn1', ht, wrap64, wrapU64c, rules, tys, eq_self, ↓reduceIte, Nat.reduceLT, Nat.reduceLeDiff]
          repeat refine And.intro (by omega) ?_
          refine Br.dec ?_ ?_
          · intro h5 h6
            simp (dsimp := false) (disch := omega) only [h6, rules, Nat.reduceBEq]
            have hbig := kn_big (second := sec) hkn' (by omega) hfirst (by omega)
            refine Mid.ex g' rfl ⟨by omega, hbig.1, ?_⟩
            refine guess_low LH hbig.1 (by omega) ?_
            rw [ht, hs, hx1, hx2, hx3, ← hF]
            exact kn_pass hkn' (Nat.le_trans hbig.2 (Nat.le_add_right _ _))
          · intro h5 h6
            simp (dsimp := false) (disch := omega) only [h6, rules]
            refine Ap_loop (g', r + top) (by dsimp only; omega) ?_ ⟨hkn', by omega, by omega⟩
            refine Weak.keep [0] (by simp) rfl ?_ ?_
            · simp [leVs, leV, le1]
            · simp [leH, leO]
        · intro h7 h8
          simp (dsimp := false) (disch := omega) only [h8, rules, Nat.reduceBEq]
          refine Mid.ex g rfl ⟨hkn.low, hgl, ?_⟩
          refine guess_low LH hgl (by omega) ?_
          rw [ht, hs, hx1, hx2, hx3, ← hF]
          exact kn_pass hkn (by rw [hgs2]; omega)
  · rintro ⟨g, x⟩ ⟨hg1, hg2, hg3⟩
    have hWhi := quot_hi (g := g) hpos (by rw [← hQ]; exact hg1)
    simp only [] at hg1 hg2 hg3
    simp (dsimp := false) (disch := omega) only [tl, rules, Nat.reduceAdd]
    refine WA.loop (α := Nat × Nat × Nat × List Nat) (fun ⟨i, bo, c, w⟩ => ⟨[.lsl 0 0 L 1, .fv (.sl (u32s v)), .int .i64 j, .any, .any, .any, .any, .int .i64 n, .any, .int .u64 g, .any, .int .u64 bo, .int .u64 c, .int .i64 i] ++ List.replicate 165 .any, [.row true (u32s w)]⟩)
      (fun ⟨i, _, _, _⟩ => n + 1 - i) (fun ⟨i, bo, c, w⟩ => i ≤ n + 1 ∧ bo ≤ 1 ∧ c < 4294967296 ∧ w.length = L ∧ Dig w ∧ (∀ t, (t < j ∨ j + i ≤ t) → w.getD t 0 = u.getD t 0) ∧ seg w j i + g * val (v.take i) = seg u j i + (c + bo) * B ^ i ∧ (i = n + 1 → c = 0)) (0, 0, 0, u) ?_ ?_ ?_
    · refine Weak.keep [0] (by simp) rfl ?_ ?_
      · simp [leVs, leV, le1]
      · simp [leH, leO]
    · refine ⟨by omega, by omega, by omega, hL, hud, fun _ _ => rfl, ?_, fun _ => rfl⟩
      simp [seg_zero, val]
    · rintro ⟨i, bo, c, w⟩ ⟨hi, hbo, hc, hwl, hwd, hag, hsum, hce⟩
      simp (dsimp := false) (disch := omega) only [List.replicate, rules, tys, eq_self, ↓reduceIte]
      refine Br.dec ?_ ?_
      · intro h1 h2
        have dv := hvd.getD i
        have du := hwd.getD (j + i)
        simp only [B] at dv du
        have hvs := val_take_succ v i
        have hss := seg_succ u j i
        have hag1 := hag (j + i) (Or.inr (Nat.le_refl _))
        rw [← hag1] at hss
        have hv0 : n ≤ i → v.getD i 0 = 0 := fun h => by rw [List.getD_eq_getElem?_getD, List.getElem?_eq_none (by omega)]; rfl
        obtain ⟨y, hy⟩ : ∃ t, v.getD i 0 = t := ⟨_, rfl⟩
        obtain ⟨z, hz⟩ : ∃ t, w.getD (j + i) 0 = t := ⟨_, rfl⟩
        rw [hy] at hvs dv hv0
        rw [hz] at hss du
        have ik : ((j : Int) + (i : Int)).toNat = j + i := by omega
        simp (dsimp := false) (disch := omega) only [h2, rules, tys, eq_self, ↓reduceIte]
        refine Br.dec ?_ ?_
        · intro h3 h4
          have hgy : g * y ≤ 4294967295 * 4294967295 := Nat.mul_le_mul (by omega) (by omega)
          have hgyi : (g : Int) * (y : Int) = ((g * y : Nat) : Int) := by rw [Int.natCast_mul]
          obtain ⟨cc, hcc⟩ : ∃ t, c + g * y = t := ⟨_, rfl⟩
          obtain ⟨gy, hgy2⟩ : ∃ t, g * y = t := ⟨_, rfl⟩
          rw [hgy2] at hgy hgyi
          have hcci : (c : Int) + (gy : Int) = (cc : Int) := by omega
          have hccb : cc ≤ 18446744073709551616 - 4294967296 := by omega
          have hcm : (cc : Int) % 4294967296 = ((cc % 4294967296 : Nat) : Int) := by rw [Int.natCast_emod]; rfl
          have hcd : (cc : Int) / 4294967296 = ((cc / 4294967296 : Nat) : Int) := by rw [Int.natCast_ediv]; rfl
          obtain ⟨lo, hlo⟩ : ∃ t, cc % 4294967296 = t := ⟨_, rfl⟩
          obtain ⟨hi', hhi'⟩ : ∃ t, cc / 4294967296 = t := ⟨_, rfl⟩
          have hlo2 : lo < 4294967296 := by omega
          have hhi2 : hi' < 4294967296 := by omega
          rw [hlo] at hcm
          rw [hhi'] at hcd
          simp (dsimp := false) (disch := omega) only [h4, hn, hy, hgyi, hcci, and64, hcm, hcd, hz, ik, wrap64, wrapU64c, fdivc, IntKind.bits, Int.reduceToNat, Nat.min_def, Int.reducePow, rules, tys, eq_self, ↓reduceIte, Nat.reduceLT, Nat.reduceLeDiff]
          repeat refine And.intro (by omega) ?_
          refine Br.dec ?_ ?_
          · intro h7 h8
            obtain ⟨d, hdd⟩ : ∃ d, z + 4294967296 - (lo + bo) = d := ⟨_, rfl⟩
            have hdi : (z : Int) + 4294967296 - ((lo : Int) + (bo : Int)) = (d : Int) := by omega
            have hset := seg_set (u := w) (j := j) (i := i) (by omega) d
            have hw32 : IntKind.u32.wrap (d : Int) = (d : Int) := wrap32c (by omega)
            have hst := mulsub_step (S := seg w j i) (S0 := seg u j i) (P := B ^ i) (g := g) (Vt := val (v.take i)) (v := y) (c := c) (b := bo) (a := z) (d := d) (b2 := 1) hsum (by rw [hcc, hlo]; omega)
            simp (dsimp := false) (disch := omega) only [h8, ik, hdi, hw32, wrap64, wrapU64c, rules, tys, eq_self, ↓reduceIte, Nat.reduceLT, Nat.reduceLeDiff]
            repeat refine And.intro (by omega) ?_
            refine Ap_loop (i + 1, 1, hi', w.set (j + i) d) (by dsimp only; omega) ?_ ⟨by omega, by omega, hhi2, by simp [hwl], hwd.set _ (by simp only [B]; omega), ?_, ?_, by omega⟩
            · refine Weak.keep [0] (by simp) rfl ?_ ?_
              · simp [leVs, leV, le1]
              · simp [leH, leO]
            · intro t hto
              rw [← hag t (by omega), List.getD_eq_getElem?_getD, List.getElem?_set_ne (by omega), ← List.getD_eq_getElem?_getD]
            · rw [hset, hvs, hss, Nat.pow_succ, ← hhi', ← hcc]
              exact hst
          · intro h7 h8
            obtain ⟨d, hdd⟩ : ∃ d, z - (lo + bo) = d := ⟨_, rfl⟩
            have hdi : (z : Int) - ((lo : Int) + (bo : Int)) = (d : Int) := by omega
            have hset := seg_set (u := w) (j := j) (i := i) (by omega) d
            have hw32 : IntKind.u32.wrap (d : Int) = (d : Int) := wrap32c (by omega)
            have hst := mulsub_step (S := seg w j i) (S0 := seg u j i) (P := B ^ i) (g := g) (Vt := val (v.take i)) (v := y) (c := c) (b := bo) (a := z) (d := d) (b2 := 0) hsum (by rw [hcc, hlo]; omega)
            simp (dsimp := false) (disch := omega) only [h8, ik, hdi, hw32, wrap64, wrapU64c, rules, tys, eq_self, ↓reduceIte, Nat.reduceLT, Nat.reduceLeDiff]
            repeat refine And.intro (by omega) ?_
            refine Ap_loop (i + 1, 0, hi', w.set (j + i) d) (by dsimp only; omega) ?_ ⟨by omega, by omega, hhi2, by simp [hwl], hwd.set _ (by simp only [B]; omega), ?_, ?_, by omega⟩
            · refine Weak.keep [0] (by simp) rfl ?_ ?_
              · simp [leVs, leV, le1]
              · simp [leH, leO]
            · intro t hto
              rw [← hag t (by omega), List.getD_eq_getElem?_getD, List.getElem?_set_ne (by omega), ← List.getD_eq_getElem?_getD]
            · rw [hset, hvs, hss, Nat.pow_succ, ← hhi', ← hcc]
              exact hst
        · intro h3 h4
          have hy0 := hv0 (by omega)
          obtain ⟨cc, hcc'⟩ : ∃ t, c = t := ⟨_, rfl⟩
          have hcci : (c : Int) = (cc : Int) := by omega
          have hcc : c + g * y = cc := by rw [hy0, Nat.mul_zero, hcc']; rfl
          have hcm : (cc : Int) % 4294967296 = ((cc % 4294967296 : Nat) : Int) := by rw [Int.natCast_emod]; rfl
          have hcd : (cc : Int) / 4294967296 = ((cc / 4294967296 : Nat) : Int) := by rw [Int.natCast_ediv]; rfl
          obtain ⟨lo, hlo⟩ : ∃ t, cc % 4294967296 = t := ⟨_, rfl⟩
          obtain ⟨hi', hhi'⟩ : ∃ t, cc / 4294967296 = t := ⟨_, rfl⟩
          have hlo2 : lo < 4294967296 := by omega
          have hhi2 : hi' < 4294967296 := by omega
          rw [hlo] at hcm
          rw [hhi'] at hcd
          simp (dsimp := false) (disch := omega) only [h4, hcci, and64, hcm, hcd, hz, ik, wrap64, wrapU64c, fdivc, IntKind.bits, Int.reduceToNat, Nat.min_def, Int.reducePow, rules, tys, eq_self, ↓reduceIte, Nat.reduceLeDiff]
          repeat refine And.intro (by omega) ?_
          refine Br.dec ?_ ?_
          · intro h7 h8
            obtain ⟨d, hdd⟩ : ∃ d, z + 4294967296 - (lo + bo) = d := ⟨_, rfl⟩
            have hdi : (z : Int) + 4294967296 - ((lo : Int) + (bo : Int)) = (d : Int) := by omega
            have hset := seg_set (u := w) (j := j) (i := i) (by omega) d
            have hw32 : IntKind.u32.wrap (d : Int) = (d : Int) := wrap32c (by omega)
            have hst := mulsub_step (S := seg w j i) (S0 := seg u j i) (P := B ^ i) (g := g) (Vt := val (v.take i)) (v := y) (c := c) (b := bo) (a := z) (d := d) (b2 := 1) hsum (by rw [hcc, hlo]; omega)
            simp (dsimp := false) (disch := omega) only [h8, ik, hdi, hw32, wrap64, wrapU64c, rules, tys, eq_self, ↓reduceIte, Nat.reduceLT, Nat.reduceLeDiff]
            repeat refine And.intro (by omega) ?_
            refine Ap_loop (i + 1, 1, hi', w.set (j + i) d) (by dsimp only; omega) ?_ ⟨by omega, by omega, hhi2, by simp [hwl], hwd.set _ (by simp only [B]; omega), ?_, ?_, by omega⟩
            · refine Weak.keep [0] (by simp) rfl ?_ ?_
              · simp [leVs, leV, le1]
              · simp [leH, leO]
            · intro t hto
              rw [← hag t (by omega), List.getD_eq_getElem?_getD, List.getElem?_set_ne (by omega), ← List.getD_eq_getElem?_getD]
            · rw [hset, hvs, hss, Nat.pow_succ, ← hhi', ← hcc]
              exact hst
          · intro h7 h8
            obtain ⟨d, hdd⟩ : ∃ d, z - (lo + bo) = d := ⟨_, rfl⟩
            have hdi : (z : Int) - ((lo : Int) + (bo : Int)) = (d : Int) := by omega
            have hset := seg_set (u := w) (j := j) (i := i) (by omega) d
            have hw32 : IntKind.u32.wrap (d : Int) = (d : Int) := wrap32c (by omega)
            have hst := mulsub_step (S := seg w j i) (S0 := seg u j i) (P := B ^ i) (g := g) (Vt := val (v.take i)) (v := y) (c := c) (b := bo) (a := z) (d := d) (b2 := 0) hsum (by rw [hcc, hlo]; omega)
            simp (dsimp := false) (disch := omega) only [h8, ik, hdi, hw32, wrap64, wrapU64c, rules, tys, eq_self, ↓reduceIte, Nat.reduceLT, Nat.reduceLeDiff]
            repeat refine And.intro (by omega) ?_
            refine Ap_loop (i + 1, 0, hi', w.set (j + i) d) (by dsimp only; omega) ?_ ⟨by omega, by omega, hhi2, by simp [hwl], hwd.set _ (by simp only [B]; omega), ?_, ?_, by omega⟩
            · refine Weak.keep [0] (by simp) rfl ?_ ?_
              · simp [leVs, leV, le1]
              · simp [leH, leO]
            · intro t hto
              rw [← hag t (by omega), List.getD_eq_getElem?_getD, List.getElem?_set_ne (by omega), ← List.getD_eq_getElem?_getD]
            · rw [hset, hvs, hss, Nat.pow_succ, ← hhi', ← hcc]
              exact hst
      · intro h1 h2
        have hin : i = n + 1 := by omega
        have hc0 := hce hin
        subst hin
        subst hc0
        have hvall : val (v.take (n + 1)) = val v := val_take_all (by omega)
        rw [hvall, Nat.zero_add] at hsum
        simp (dsimp := false) (disch := omega) only [h2, rules, tys, eq_self, ↓reduceIte, Nat.reduceBEq]
        refine Br.beqInt ?_ ?_
        · intro h3 h4
          have hb0 : bo = 0 := by omega
          subst hb0
          rw [Nat.zero_mul, Nat.add_zero] at hsum
          have hro := round_ok hsum hWhi
          have hdm := div_mod_of hsum hro
          have hwg : IntKind.u32.wrap (g : Int) = (g : Int) := wrap32c (by omega)
          have hput := putSeg_eq (x := seg u j (n + 1) % val v) (by omega) hwd (by omega) hag hdm.2
          simp (dsimp := false) (disch := omega) only [h4, hwg, Ap_end_ret, rules, tys]
          refine RetOK.lent rfl ⟨trivial, trivial⟩ (by rw [hput]) ?_ rfl
          rw [← hdm.1]
          rfl
        · intro h3 h4
          have hb1 : bo = 1 := by omega
          subst hb1
          rw [Nat.one_mul] at hsum
          have hwlt := seg_lt hwd j (n + 1)
          have hVM : val v ≤ B ^ (n + 1) := by
            have h7 := val_lt hvd
            rw [hn] at h7
            exact Nat.le_trans (Nat.le_of_lt h7) (Nat.pow_le_pow_right (by decide) (by omega))
          have hhi : seg u j (n + 1) < g * val v := by omega
          have hg0 : 0 < g := by
            rcases Nat.eq_zero_or_pos g with h7 | h7
            · rw [h7, Nat.zero_mul] at hhi; omega
            · exact h7
          simp (dsimp := false) (disch := omega) only [h4, rules]
          refine WA.loop (α := Nat × Nat × List Nat) (fun ⟨t, c, w'⟩ => ⟨[.lsl 0 0 L 1, .fv (.sl (u32s v)), .int .i64 j, .any, .any, .any, .any, .int .i64 n, .any, .int .u64 g, .any, .any, .int .u64 c, .any, .any, .any, .any, .int .i64 t] ++ List.replicate 161 .any, [.row true (u32s w')]⟩)
            (fun ⟨t, _, _⟩ => n + 1 - t) (fun ⟨t, c, w'⟩ => t ≤ n + 1 ∧ c ≤ 1 ∧ w'.length = L ∧ Dig w' ∧ (∀ s, (s < j ∨ j + t ≤ s) → w'.getD s 0 = w.getD s 0) ∧ seg w' j t + c * B ^ t = seg w j t + val (v.take t)) (0, 0, w) ?_ ?_ ?_
          · refine Weak.keep [0] (by simp) rfl ?_ ?_
            · simp [leVs, leV, le1]
            · simp [leH, leO]
          · refine ⟨by omega, by omega, hwl, hwd, fun _ _ => rfl, ?_⟩
            simp [seg_zero, val]
          · rintro ⟨t, c', w'⟩ ⟨ht', hc', hwl', hwd', hag', hsum'⟩
            simp (dsimp := false) (disch := omega) only [List.replicate, rules, tys, eq_self, ↓reduceIte]
            refine Br.dec ?_ ?_
            · intro h5 h6
              have dv := hvd.getD t
              have du := hwd'.getD (j + t)
              simp only [B] at dv du
              have hvs := val_take_succ v t
              have hss2 := seg_succ w j t
              have hag3 := hag' (j + t) (Or.inr (Nat.le_refl _))
              rw [← hag3] at hss2
              have hv0 : n ≤ t → v.getD t 0 = 0 := fun h => by rw [List.getD_eq_getElem?_getD, List.getElem?_eq_none (by omega)]; rfl
              obtain ⟨y, hy⟩ : ∃ t', v.getD t 0 = t' := ⟨_, rfl⟩
              obtain ⟨z, hz⟩ : ∃ t', w'.getD (j + t) 0 = t' := ⟨_, rfl⟩
              rw [hy] at hvs dv hv0
              rw [hz] at hss2 du
              have ik2 : ((j : Int) + (t : Int)).toNat = j + t := by omega
              simp (dsimp := false) (disch := omega) only [h6, hz, ik2, wrap64, wrapU64c, rules, tys, eq_self, ↓reduceIte, Nat.reduceLeDiff]
              repeat refine And.intro (by omega) ?_
              refine Br.dec ?_ ?_
              · intro h7 h8
                obtain ⟨cc, hcc⟩ : ∃ s, c' + (z + y) = s := ⟨_, rfl⟩
                have hcci : (z : Int) + (c' : Int) + (y : Int) = (cc : Int) := by omega
                have hcd : (cc : Int) / 4294967296 = ((cc / 4294967296 : Nat) : Int) := by rw [Int.natCast_ediv]; rfl
                have hw3 : IntKind.u32.wrap (cc : Int) = ((cc % 4294967296 : Nat) : Int) := by rw [wrap32, Int.natCast_emod]; rfl
                have hset2 := seg_set (u := w') (j := j) (i := t) (by omega) (cc % 4294967296)
                simp (dsimp := false) (disch := omega) only [h8, hn, hy, hz, ik2, hcci, hcd, hw3, wrap64, wrapU64c, fdivc, IntKind.bits, Int.reduceToNat, Nat.min_def, Int.reducePow, rules, tys, eq_self, ↓reduceIte, Nat.reduceLT, Nat.reduceLeDiff]
                repeat refine And.intro (by omega) ?_
                refine Ap_loop (t + 1, cc / 4294967296, w'.set (j + t) (cc % 4294967296)) (by dsimp only; omega) ?_ ⟨by omega, by omega, by simp [hwl'], hwd'.set _ (Nat.mod_lt _ (by decide)), ?_, ?_⟩
                · refine Weak.keep [0] (by simp) rfl ?_ ?_
                  · simp [leVs, leV, le1]
                  · simp [leH, leO]
                · intro s hs2
                  rw [← hag' s (by omega), List.getD_eq_getElem?_getD, List.getElem?_set_ne (by omega), ← List.getD_eq_getElem?_getD]
                · rw [hset2, hvs, hss2, Nat.pow_succ]
                  exact addback_step hsum' hcc
              · intro h7 h8
                have hy0 := hv0 (by omega)
                obtain ⟨cc, hcc⟩ : ∃ s, c' + (z + y) = s := ⟨_, rfl⟩
                have hcci : (z : Int) + (c' : Int) = (cc : Int) := by omega
                have hcd : (cc : Int) / 4294967296 = ((cc / 4294967296 : Nat) : Int) := by rw [Int.natCast_ediv]; rfl
                have hw3 : IntKind.u32.wrap (cc : Int) = ((cc % 4294967296 : Nat) : Int) := by rw [wrap32, Int.natCast_emod]; rfl
                have hset2 := seg_set (u := w') (j := j) (i := t) (by omega) (cc % 4294967296)
                simp (dsimp := false) (disch := omega) only [h8, hz, ik2, hcci, hcd, hw3, wrap64, fdivc, IntKind.bits, Int.reduceToNat, Nat.min_def, Int.reducePow, rules, tys, eq_self, ↓reduceIte, Nat.reduceLT, Nat.reduceLeDiff]
                repeat refine And.intro (by omega) ?_
                refine Ap_loop (t + 1, cc / 4294967296, w'.set (j + t) (cc % 4294967296)) (by dsimp only; omega) ?_ ⟨by omega, by omega, by simp [hwl'], hwd'.set _ (Nat.mod_lt _ (by decide)), ?_, ?_⟩
                · refine Weak.keep [0] (by simp) rfl ?_ ?_
                  · simp [leVs, leV, le1]
                  · simp [leH, leO]
                · intro s hs2
                  rw [← hag' s (by omega), List.getD_eq_getElem?_getD, List.getElem?_set_ne (by omega), ← List.getD_eq_getElem?_getD]
                · rw [hset2, hvs, hss2, Nat.pow_succ]
                  exact addback_step hsum' hcc
            · intro h5 h6
              have htn : t = n + 1 := by omega
              subst htn
              rw [hvall] at hsum'
              have hrb := round_back hVM hsum hg0 hg3 hhi hsum' (seg_lt hwd' _ _)
              have hdm := div_mod_of hrb.1 hrb.2
              have hput := putSeg_eq (u := u) (x := seg u j (n + 1) % val v) (by omega) hwd' (by omega) (fun s hs2 => by rw [hag' s hs2, hag s hs2]) hdm.2
              have hgi : (g : Int) - 1 = ((g - 1 : Nat) : Int) := by omega
              have hwg : IntKind.u32.wrap ((g - 1 : Nat) : Int) = ((g - 1 : Nat) : Int) := wrap32c (by omega)
              simp (dsimp := false) (disch := omega) only [h6, hgi, hwg, wrapU64c, Ap_end_ret, rules, tys, eq_self, ↓reduceIte, Nat.reduceBEq]
              refine RetOK.lent rfl ⟨trivial, trivial⟩ (by rw [hput]) ?_ rfl
              rw [← hdm.1]
              rfl

end Go.Proofs.Yteifpjjnphcdcaa

/- Contracts: the reference's naturals: DivMod. -/
namespace Go.Proofs.Yteifpjjnphcdcaa
open Go.AM Go.Pl
set_option maxRecDepth 100000
set_option maxHeartbeats 4000000

theorem cmpN_neg' {x y : Nat} : cmpN x y < 0 ↔ x < y := by
  unfold cmpN; split
  · omega
  · split <;> omega
theorem Nr_val (n : Nat) : N n = .sl (u32s (limbs n)) := rfl

theorem den80z (a b : List Nat) (ha : Dig a) (hb : Dig b) (hla : a.length < 10000000000) (hlb : b.length < 10000000000) (h0 : val b = 0) :
    Den Try.prog 80 [] [.fv (.sl (u32s a)), .fv (.sl (u32s b))] [] (.tup [.fv (N 0), .fv (N 0), .int .i64 3]) := by
  refine den_of tabOk mixed Try.func80 (cd := _) rfl (by decide) rfl (n := 84) rfl rfl (m := 0) rfl ?_
  simp (dsimp := false) (disch := omega) only [List.replicate, rules]
  refine GoCall.pure (den78f a ha (by omega)) rfl ?_
  simp (dsimp := false) (disch := omega) only [rules]
  refine GoCall.pure (den78f b hb (by omega)) rfl ?_
  have hl0 : (limbs 0).length = 0 := by rw [limbs_zero]; rfl
  have hl1 : ((0 : Nat) : Int) = 0 := rfl
  have hl2 : ((0 : Int) == 0) = true := rfl
  simp (dsimp := false) (disch := omega) only [Nr_val, h0, hl0, hl1, hl2, Ap_end_ret, rules, tys, eq_self, ↓reduceIte]
  refine RetOK.pure rfl ⟨trivial, trivial, trivial, trivial⟩ ?_
  simp (disch := omega) only [St.get, fzX, oneRes, fzV, fzVs, fzC, fz1, fz0, Option.map_some, List.getD_cons_succ, List.getD_cons_zero]
  simp [limbs_zero, u32s]

theorem den80 (a b : List Nat) (ha : Dig a) (hb : Dig b) (hla : a.length < 10000000000) (hlb : b.length < 10000000000) (h0 : val b ≠ 0) :
    Den Try.prog 80 [] [.fv (.sl (u32s a)), .fv (.sl (u32s b))] [] (.tup [.fv (N (val a / val b)), .fv (N (val a % val b)), .int .i64 0]) := by
  have hla2 := limbs_length_le (val_lt ha)
  have hlb2 := limbs_length_le (val_lt hb)
  have hlb0 : (limbs (val b)).length ≠ 0 := fun h => h0 (limbs_len0 h)
  refine den_of tabOk mixed Try.func80 (cd := _) rfl (by decide) rfl (n := 84) rfl rfl (m := 0) rfl ?_
  simp (dsimp := false) (disch := omega) only [List.replicate, rules]
  refine GoCall.pure (den78f a ha (by omega)) rfl ?_
  simp (dsimp := false) (disch := omega) only [rules]
  refine GoCall.pure (den78f b hb (by omega)) rfl ?_
  have hz : (((limbs (val b)).length : Int) == 0) = false := by rw [beq_eq_false_iff_ne]; omega
  simp (dsimp := false) (disch := omega) only [Nr_val, hz, rules, tys, eq_self, ↓reduceIte]
  refine GoCall.pure (den81 (limbs (val a)) (limbs (val b)) (limbs_dig _) (limbs_dig _) (by omega) (by omega)) rfl ?_
  simp (dsimp := false) (disch := omega) only [val_limbs, rules, tys, eq_self, ↓reduceIte]
  refine Br.dec ?_ ?_
  · intro h1 h2
    rw [cmpN_neg'] at h1
    simp (dsimp := false) (disch := omega) only [h2, Ap_end_ret, rules]
    refine RetOK.pure rfl ⟨trivial, trivial, trivial, trivial⟩ ?_
    simp (disch := omega) only [St.get, fzX, oneRes, fzV, fzVs, fzC, fz1, fz0, Option.map_some, List.getD_cons_succ, List.getD_cons_zero]
    rw [Nat.div_eq_of_lt h1, Nat.mod_eq_of_lt h1]
    simp [N, limbs_zero, u32s]
  · intro h1 h2
    rw [cmpN_neg'] at h1
    simp (dsimp := false) (disch := omega) only [h2, rules, tys, eq_self, ↓reduceIte]
    refine Br.beqInt ?_ ?_
    · intro h3 h4
      obtain ⟨d, hd⟩ : ∃ d, limbs (val b) = [d] := List.length_eq_one_iff.1 (by omega)
      have hbv : val b = d := by rw [← val_limbs (val b), hd]; simp [val]
      have hdd : d < 4294967296 := by have := limbs_dig (val b); rw [hd] at this; exact this d (by simp)
      have hg0 : (u32s [d]).getD 0 [] = [FV.lit (Value.int .u32 d)] := rfl
      have hd0 : 0 < d := by omega
      have hb2 := Nat.mod_lt (val a) hd0
      have h93 := den93 (limbs (val a)) d (limbs_dig _) (by omega) hdd hd0
      rw [val_limbs] at h93
      simp (dsimp := false) (disch := omega) only [hd, hg0, Int.reduceToNat, rules, tys, eq_self, ↓reduceIte, Nat.reduceLT, Nat.reduceLeDiff]
      refine ⟨by simp, ?_⟩
      refine GoCall.pure h93 rfl ?_
      obtain ⟨r, hr⟩ : ∃ r, val a % d = r := ⟨_, rfl⟩
      rw [hr] at hb2
      have h78 := den78f [r] (Dig.mk (by simp only [B]; omega) Dig.nil) (by simp)
      have hvr : val [r] = r := by simp [val]
      rw [hvr] at h78
      simp (dsimp := false) (disch := omega) only [hr, rules, tys, eq_self, ↓reduceIte, Nat.reduceMul, Nat.reduceLT, Nat.reduceLeDiff]
      refine GoCall.pure h78 ?_ ?_
      · rfl
      simp (dsimp := false) (disch := omega) only [Ap_end_ret, rules]
      refine RetOK.pure rfl ⟨trivial, trivial, trivial, trivial⟩ ?_
      simp (disch := omega) only [hbv, hr, St.get, fzX, oneRes, fzV, fzVs, fzC, fz1, fz0, Option.map_some, List.getD_cons_succ, List.getD_cons_zero]
    · intro h3 h4
      have hle : (limbs (val b)).length ≤ (limbs (val a)).length := limbs_len_mono (by omega)
      obtain ⟨n, hn⟩ : ∃ n, (limbs (val b)).length = n + 1 := ⟨(limbs (val b)).length - 1, by omega⟩
      have htop := top_pos hn
      have htd := (limbs_dig (val b)).getD n
      simp only [B] at htd
      obtain ⟨top, ht⟩ : ∃ t, (limbs (val b)).getD n 0 = t := ⟨_, rfl⟩
      rw [ht] at htop htd
      have hn1 : (((n + 1 : Nat) : Int) - 1).toNat = n := by omega
      simp (dsimp := false) (disch := omega) only [h4, rules]
      refine WA.loop (α := Nat) (fun s => ⟨[.fv (N (val a)), .fv (N (val b)), .any, .any, .nilsl, .nilsl, .any, .any, .any, .int .i64 s] ++ List.replicate 76 .any, []⟩)
        (fun s => 32 - s) (fun s => s < 32 ∧ top * 2 ^ s < 4294967296) 0 ?_ ?_ ?_
      · refine Weak.keep [] (by simp) rfl ?_ ?_
        · simp [leVs, leV, le1, N]
        · trivial
      · exact ⟨by omega, by simpa using htd⟩
      · rintro s ⟨hs, hts⟩
        have hk64 : (s ≤ 32) = True := by simp; omega
        have hws : IntKind.u64.wrap (s : Int) = (s : Int) := wrapU64c (by omega)
        obtain ⟨w, hw⟩ : ∃ w, top * 2 ^ s = w := ⟨_, rfl⟩
        have hwi : (top : Int) * 2 ^ s = (w : Int) := by rw [← hw, Int.natCast_mul, Int.natCast_pow]; rfl
        rw [hw] at hts
        have hww : IntKind.u32.wrap (w : Int) = (w : Int) := wrap32c (by omega)
        simp (dsimp := false) (disch := omega) only [List.replicate, Nr_val, hn, hn1, ht, hk64, hws, hwi, hww, wrap64, IntKind.bits, Nat.min_def, rules, tys, eq_self, ↓reduceIte, Nat.reduceLT, Nat.reduceLeDiff]
        repeat refine And.intro (by omega) ?_
        refine Br.dec ?_ ?_
        · intro h5 h6
          simp (dsimp := false) (disch := omega) only [h6, wrap64, rules, tys, eq_self, ↓reduceIte]
          have hs31 := pow_room htop (by rw [hw]; omega : top * 2 ^ s < 2147483648)
          refine Ap_loop (s + 1) (by omega) ?_ ⟨by omega, by rw [Nat.pow_succ, ← Nat.mul_assoc, hw]; omega⟩
          · refine Weak.keep [] (by simp) rfl ?_ ?_
            · simp [leVs, leV, le1, N]
            · trivial
        · intro h5 h6
          simp (dsimp := false) (disch := omega) only [h6, rules, Nat.reduceBEq]
          have hns := norm_shift (k := s) hn ht (by omega) (by rw [hw]; omega) (by rw [hw]; omega)
          obtain ⟨V, hV⟩ : ∃ V, val b * 2 ^ s = V := ⟨_, rfl⟩
          rw [hV] at hns
          obtain ⟨la, hla'⟩ : ∃ t, (limbs (val a)).length = t := ⟨_, rfl⟩
          have h94a := den94 (limbs (val a)) s (limbs_dig _) (by omega) hs
          have h94b := den94 (limbs (val b)) s (limbs_dig _) (by omega) hs
          rw [val_limbs, hla'] at h94a
          rw [val_limbs, hn, hV] at h94b
          have h78 := den78f (digs (n + 1 + 1) V) (digs_dig _ _) (by rw [digs_length]; omega)
          have hVd : val (digs (n + 1 + 1) V) = V := by
            apply val_digs
            have := lt_of_limbs_length (n := V)
            rw [hns.1] at this
            exact Nat.lt_of_lt_of_le this (Nat.pow_le_pow_right (by decide) (by omega))
          rw [hVd] at h78
          have hua : val (digs (la + 1) (val a * 2 ^ s)) = val a * 2 ^ s := by
            apply val_digs
            rw [Nat.pow_succ]
            have := lt_of_limbs_length (n := val a)
            rw [hla'] at this
            exact Nat.mul_lt_mul'' this (Nat.lt_of_lt_of_le (Nat.pow_lt_pow_right (by decide) hs) (by decide))
          obtain ⟨v, hv⟩ : ∃ v, limbs V = v := ⟨_, rfl⟩
          have hvd : Dig v := by rw [← hv]; exact limbs_dig _
          have hvv : val v = V := by rw [← hv, val_limbs]
          rw [hv] at hns
          have hlm : ((la : Int) - ((n + 1 : Nat) : Int) + 1).toNat = la - n := by omega
          obtain ⟨m, hm⟩ : ∃ m, la - n = m := ⟨_, rfl⟩
          refine GoCall.pure h94a rfl ?_
          simp (dsimp := false) (disch := omega) only [rules]
          refine GoCall.pure h94b rfl ?_
          simp (dsimp := false) (disch := omega) only [rules, Nat.reduceAdd]
          refine GoCall.pure h78 ?_ ?_
          · simp [fzAs, fzA, fz1, fz0, u32s_length, digs_length]
            rw [List.take_of_length_le (by simp [u32s_length, digs_length])]
          simp (dsimp := false) (disch := omega) only [Nr_val, hv, hla', hn, hlm, hm, wrap64, rules, tys, eq_self, ↓reduceIte, Nat.reduceAdd, Nat.reduceLT]
          refine ⟨by omega, ?_⟩
          refine WA.loop (α := Nat × List Nat × List Nat) (fun ⟨j1, qd, u⟩ => ⟨[.any, .any, .any, .any, .nilsl, .nilsl, .any, .any, .any, .int .i64 s, .lsl 0 0 (la + 1) 1, .fv (.sl (u32s v)), .lsl 1 0 m 1, .int .i64 ((j1 : Int) - 1)] ++ List.replicate 72 .any, [.row true (u32s u), .row true (u32s qd)]⟩)
            (fun ⟨j1, _, _⟩ => j1) (fun ⟨j1, qd, u⟩ => j1 ≤ m ∧ u.length = la + 1 ∧ qd.length = m ∧ Dig u ∧ Dig qd ∧ val (u.drop j1) < val v ∧ val u + val v * (B ^ j1 * val (qd.drop j1)) = val a * 2 ^ s) (m, List.replicate m 0, digs (la + 1) (val a * 2 ^ s)) ?_ ?_ ?_
          · refine Weak.keep [0, 2] (by simp) rfl ?_ ?_
            · simp [leVs, leV, le1]
            · simp [leH, leO]
          · refine ⟨Nat.le_refl _, digs_length _ _, by simp, digs_dig _ _, Dig.zeros, ?_, ?_⟩
            · rw [← val_drop_div (digs_dig _ _) (by rw [digs_length]; omega), hua]
              have h7 := val_take_succ v n
              rw [val_take_all (by omega)] at h7
              have h8 := lt_of_limbs_length (n := val a)
              rw [hla'] at h8
              refine val_div_lt (x := val a * 2 ^ s) (P := val a) (T := 2147483648) (K := 2 ^ s) (Bn := B ^ n) (Bl := B ^ la) h8 (Nat.pow_le_pow_right (by decide) (show s ≤ 31 by omega)) ?_ ?_ rfl (by decide) (Nat.pow_pos (by decide))
              · rw [h7, Nat.mul_comm]
                exact Nat.le_trans (Nat.mul_le_mul_left _ hns.2) (Nat.le_add_left _ _)
              · rw [← Nat.pow_add, show n + m = la by omega]
            · rw [hua, List.drop_of_length_le (by simp)]
              simp [val]
          · rintro ⟨j1, qd, u⟩ ⟨hj1, hul, hql, hud, hqd, hlt, hinv⟩
            simp (dsimp := false) (disch := omega) only [List.replicate, rules, tys, eq_self, ↓reduceIte]
            refine Br.dec ?_ ?_
            · intro h7 h8
              obtain ⟨j, rfl⟩ : ∃ j, j1 = j + 1 := ⟨j1 - 1, by omega⟩
              have hj0 : ((j + 1 : Nat) : Int) - 1 = (j : Int) := by omega
              have hji : ((j : Nat) : Int).toNat = j := by omega
              have LH := long_head (j := j) hud hvd hns.1 (by omega) (by omega) hlt
              have hpos : 0 < val v := by omega
              have h95 := den95 u v j (n + 1) hud hvd hns.1 (by omega) (by omega) (by omega) hns.2 hlt
              have hml := Nat.mod_lt (seg u j (n + 1 + 1)) hpos
              have hVB : val v ≤ B ^ (n + 1 + 1) := by
                have h9 := val_lt hvd
                rw [hns.1] at h9
                exact Nat.le_trans (Nat.le_of_lt h9) (Nat.pow_le_pow_right (by decide) (by omega))
              have hsg := putSeg_seg (u := u) (j := j) (m := n + 1 + 1) (x := seg u j (n + 1 + 1) % val v) (by omega) (Nat.lt_of_lt_of_le hml hVB)
              have hpl := putSeg_length (u := u) (j := j) (m := n + 1 + 1) (x := seg u j (n + 1 + 1) % val v) (by omega)
              have hpd := putSeg_dig (j := j) (m := n + 1 + 1) (x := seg u j (n + 1 + 1) % val v) hud
              have hpg : ∀ t, (t < j ∨ j + (n + 1 + 1) ≤ t) → (putSeg u j (n + 1 + 1) (seg u j (n + 1 + 1) % val v)).getD t 0 = u.getD t 0 := fun t ht2 => putSeg_getD (by omega) ht2
              have hgB : seg u j (n + 1 + 1) / val v < 4294967296 := by
                rw [Nat.div_lt_iff_lt_mul hpos, Nat.mul_comm]; exact LH.lt
              have hdm := Nat.mod_add_div (seg u j (n + 1 + 1)) (val v)
              rw [Nat.mul_comm] at hdm
              obtain ⟨w, hw4⟩ : ∃ w, putSeg u j (n + 1 + 1) (seg u j (n + 1 + 1) % val v) = w := ⟨_, rfl⟩
              obtain ⟨g, hg⟩ : ∃ g, seg u j (n + 1 + 1) / val v = g := ⟨_, rfl⟩
              rw [hw4] at hsg hpl hpd hpg
              rw [hg] at hgB hdm
              rw [hw4, hg, hul] at h95
              rw [← hsg] at hdm hml
              have hr := long_round (u := u) (u4 := w) (qd := qd) (j := j) (n := n + 1) (g := g) (V := val v) hpl (by omega) (by omega) hpg LH.tail hdm hml hinv
              simp (dsimp := false) (disch := omega) only [hj0, rules]
              refine GoCall.lend 0 h95 rfl rfl trivial rfl rfl rfl ?_
              have hsh : shutBs [Ob.row true (u32s u), Ob.row true (u32s qd)] 0 [PV.lsl 0 0 (la + 1) 1, PV.fv (FV.sl (u32s v)), PV.int IntKind.i64 (j : Int)] = [Ob.row true (u32s u), Ob.row true (u32s qd)] := rfl
              simp (dsimp := false) (disch := omega) only [hsh, List.append_nil, wrap64, rules, tys, eq_self, ↓reduceIte, Nat.reduceAdd, Nat.reduceLT, Nat.reduceLeDiff]
              repeat refine And.intro (by omega) ?_
              refine Ap_loop (j, qd.set j g, w) (by dsimp only; omega) ?_ ⟨by omega, by omega, by simp [hql], hpd, hqd.set _ (by simp only [B]; omega), hr.2, hr.1⟩
              refine Weak.keep [0, 1] (by simp) rfl ?_ ?_
              · simp [leVs, leV, le1]
              · simp [leH, leO]
            · intro h7 h8
              have hj0 : j1 = 0 := by omega
              subst hj0
              rw [List.drop_zero] at hlt
              rw [List.drop_zero, Nat.pow_zero, Nat.one_mul] at hinv
              have hend := long_end (hvv.trans hV.symm) (Nat.two_pow_pos s) hinv hlt
              simp (dsimp := false) (disch := omega) only [h8, rules, Nat.reduceBEq]
              refine GoCall.pure (den78f qd hqd (by omega)) ?_ ?_
              · simp [fzAs, fzA, fz1, fz0, u32s_length, hql]
                rw [List.take_of_length_le (by simp [u32s_length, hql])]
              simp (dsimp := false) (disch := omega) only [rules, Nat.reduceAdd]
              refine GoCall.pure (den96 u s hud (by omega) hs) ?_ ?_
              · simp [fzAs, fzA, fz1, fz0, u32s_length, hul]
                rw [List.take_of_length_le (by simp [u32s_length, hul])]
              simp (dsimp := false) (disch := omega) only [Ap_end_ret, rules, Nat.reduceAdd]
              refine RetOK.pure rfl ⟨trivial, trivial, trivial, trivial⟩ ?_
              rw [hend.1, hend.2]
              simp (disch := omega) only [St.get, fzX, oneRes, fzV, fzVs, fzC, fz1, fz0, Option.map_some, List.getD_cons_succ, List.getD_cons_zero]

end Go.Proofs.Yteifpjjnphcdcaa

/- Contracts: the reference's naturals: GCD. -/
namespace Go.Proofs.Yteifpjjnphcdcaa
open Go.AM Go.Pl
set_option maxRecDepth 100000
set_option maxHeartbeats 4000000

theorem den79 (a b : List Nat) (ha : Dig a) (hb : Dig b) (hla : a.length < 10000000000) (hlb : b.length < 10000000000) :
    Den Try.prog 79 [] [.fv (.sl (u32s a)), .fv (.sl (u32s b))] [] (.fv (N (Nat.gcd (val a) (val b)))) := by
  have hla2 := limbs_length_le (val_lt ha)
  have hlb2 := limbs_length_le (val_lt hb)
  refine den_of tabOk mixed Try.func79 (cd := _) rfl (by decide) rfl (n := 23) rfl rfl (m := 0) rfl ?_
  simp (dsimp := false) (disch := omega) only [List.replicate, rules]
  refine GoCall.pure (den78f a ha (by omega)) rfl ?_
  simp (dsimp := false) (disch := omega) only [rules]
  refine GoCall.pure (den78f b hb (by omega)) rfl ?_
  simp (dsimp := false) (disch := omega) only [Nr_val, rules]
  generalize hg : Nat.gcd (val a) (val b) = g
  refine WA.loop (α := Nat × Nat) (fun ⟨x, y⟩ => ⟨.fv (.sl (u32s (limbs x))) :: .fv (.sl (u32s (limbs y))) :: .any :: .any :: .nilsl :: List.replicate 20 .any, []⟩)
    (fun ⟨_, y⟩ => y) (fun ⟨x, y⟩ => (limbs x).length < 10000000000 ∧ (limbs y).length < 10000000000 ∧ Nat.gcd x y = g) (val a, val b) ?_ ?_ ?_
  · refine Weak.keep [] (by simp) rfl ?_ ?_
    · simp [leVs, leV, le1]
    · trivial
  · exact ⟨by omega, by omega, hg⟩
  · rintro ⟨x, y⟩ ⟨hx, hy, hxy⟩
    simp (dsimp := false) (disch := omega) only [List.replicate, rules, tys, eq_self, ↓reduceIte]
    refine Br.dec ?_ ?_
    · intro h5 h6
      have hy0 : y ≠ 0 := fun h => by rw [h, limbs_zero] at h5; simp at h5
      have h80 := den80 (limbs x) (limbs y) (limbs_dig _) (limbs_dig _) hx hy (by rw [val_limbs]; exact hy0)
      rw [val_limbs, val_limbs, Nr_val, Nr_val] at h80
      simp (dsimp := false) (disch := omega) only [h6, rules]
      refine GoCall.pure h80 rfl ?_
      simp (dsimp := false) (disch := omega) only [rules]
      have hlt := Nat.mod_lt x (Nat.pos_of_ne_zero hy0)
      refine Ap_loop (y, x % y) (by exact hlt) ?_ ⟨hy, Nat.lt_of_le_of_lt (limbs_len_mono (Nat.le_of_lt hlt)) hy, ?_⟩
      · refine Weak.keep [] (by simp) rfl ?_ ?_
        · simp [leVs, leV, le1]
        · trivial
      · rw [← hxy, Nat.gcd_comm y, ← Nat.gcd_rec, Nat.gcd_comm]
    · intro h5 h6
      have hy0 : y = 0 := limbs_len0 (by omega)
      subst hy0
      simp (dsimp := false) (disch := omega) only [h6, Ap_end_ret, rules, Nat.reduceBEq]
      refine RetOK.pure rfl ⟨trivial, trivial⟩ ?_
      rw [Nat.gcd_zero_right] at hxy
      simp (disch := omega) only [hxy, St.get, fzX, oneRes, fzV, fzC, fz1, fz0, Option.map_some, List.getD_cons_succ, List.getD_cons_zero]
      rfl

end Go.Proofs.Yteifpjjnphcdcaa
