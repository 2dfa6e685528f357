/- Contracts: the reference's forms: Same of equal forms, without, Bound, Solve. -/
import Derived.Test.YteifpjjnphcdcaaL2
import Derived.Test.YteifpjjnphcdcaaP1

namespace Go.Proofs.Yteifpjjnphcdcaa
open Go.AM Go.Pl
set_option maxRecDepth 100000
set_option maxHeartbeats 2000000

theorem sameR_self (r : Raw) : sameR r r = true := by simp [sameR]
theorem den11r (rs : List Raw) (hrs : LOk 5000000000 rs) : Den Try.prog 11 [] [RL rs, RL rs] [] (.bool true) := by
  have hlen := hrs.len
  have hfl := flat_length rs
  unfold RL
  refine den_of tabOk mixed Try.func11 (cd := _) rfl (by decide) rfl (n := 23) rfl rfl (m := 0) rfl ?_
  simp (dsimp := false) (disch := omega) only [List.replicate, rules, tys, Nat.reduceLT]
  repeat refine And.intro (by omega) ?_
  refine WA.loop (α := Nat) (fun i => ⟨[.any, .any, .ptr 0 0 0, .ptr 1 0 0, .any, .int .i64 i] ++ List.replicate 19 .any, [.box true (flat rs), .box true (flat rs)]⟩)
    (fun i => 8 - i) (fun i => i ≤ 8) 0 ?_ ?_ ?_
  · refine Weak.keep [0, 1] (by simp) rfl ?_ ?_
    · simp [leVs, leV, le1]
    · simp [leH, leO, le_flat]
  · exact Nat.zero_le _
  · rintro i hi
    have hat := flat_at (rs := rs) (i := i) (by omega)
    have h35 := den35 (rs.getD i rz) (rs.getD i rz) (hrs.at i) (hrs.at i)
    rw [sameR_self] at h35
    obtain ⟨x, hx⟩ : ∃ x, rs.getD i rz = x := ⟨_, rfl⟩
    rw [hx] at hat h35
    unfold Raw.v at h35
    have hb : (!true) = false := rfl
    simp (dsimp := false) (disch := omega) only [List.replicate, rules, tys, eq_self, ↓reduceIte]
    refine Br.dec ?_ ?_
    · intro h1 h2
      simp (dsimp := false) (disch := omega) only [h2, rules]
      refine Draw.intro (by kernel_rfl) ?_
      simp (dsimp := false) (disch := omega) only [hat, rules, tys, eq_self, ↓reduceIte, Nat.reduceLT]
      repeat refine And.intro (by omega) ?_
      refine GoCall.pure h35 rfl ?_
      simp (dsimp := false) (disch := omega) only [hb, wrap64, rules, tys, eq_self, ↓reduceIte, Nat.reduceAdd]
      refine Ap_loop (i + 1) (by omega) ?_ (by omega)
      refine Weak.keep [0, 1] (by simp) rfl ?_ ?_
      · simp [leVs, leV, le1]
      · simp [leH, leO, le_flat]
    · intro h1 h2
      have hi8 : i = 8 := by omega
      subst hi8
      simp only [Nat.reduceMul] at hat
      simp (dsimp := false) (disch := omega) only [h2, hat, rules, tys, eq_self, ↓reduceIte, Nat.reduceAdd, Nat.reduceBEq]
      repeat refine And.intro (by omega) ?_
      refine GoCall.pure h35 rfl ?_
      simp (dsimp := false) (disch := omega) only [Ap_end_ret, rules, Nat.reduceAdd]
      refine RetOK.pure rfl ⟨trivial, trivial⟩ rfl

theorem map_set_q (rs : List Raw) (v : Nat) : (rs.set v (cn 0)).map Raw.q = (rs.set v rz).map Raw.q := by
  rw [List.map_set, List.map_set, cn_q, rz_q]

theorem den73 (rs : List Raw) (v : Nat) (hrs : LOk 2000000000 rs) (hv : v < 8) : Den Try.prog 73 [] [RL rs, .int .i64 v] [] (FL ((rs.set v rz).map Raw.q)) := by
  have hlen := hrs.len
  have hfl := flat_length rs
  have hfl27 : (flat rs).length = 27 := by omega
  have h24 := den24 0 (by decide)
  rw [show ((0 : Int) : Rat) = 0 from rfl, FR_eq, N_val, N_val] at h24
  have hset := flat_set (rs := rs) (i := v) (by omega) (decide ((0 : Rat).num < 0)) (limbs (0 : Rat).num.natAbs) (limbs (0 : Rat).den)
  have hcn : (⟨decide ((0 : Rat).num < 0), limbs (0 : Rat).num.natAbs, limbs (0 : Rat).den⟩ : Raw) = cn 0 := rfl
  rw [hcn] at hset
  have hok : LOk 2000000000 (rs.set v (cn 0)) := ⟨by simp [hlen], fun r hr => by
    rcases List.mem_or_eq_of_mem_set hr with h1 | h1
    · exact hrs.ok r h1
    · rw [h1]; exact Raw.Ok.mono (cn_ok (Bd.zero (k := 1) (by decide))) (by decide)⟩
  have h71 := den71 (rs.set v (cn 0)) hok
  rw [map_set_q] at h71
  obtain ⟨ys, hy⟩ : ∃ t, rs.set v (cn 0) = t := ⟨_, rfl⟩
  rw [hy] at hset h71 hok
  have hyl := hok.len
  have hyf : (flat ys).length = 27 := by rw [flat_length]; omega
  unfold FL RL at h71 ⊢
  obtain ⟨zs, hz⟩ : ∃ t, ((rs.set v rz).map Raw.q).map cn = t := ⟨_, rfl⟩
  have hzl : zs.length = 9 := by rw [← hz]; simp [hlen]
  have h27 : (flat zs).length = 27 := by rw [flat_length]; omega
  rw [hz] at h71 ⊢
  refine den_of tabOk mixed Try.func73 (cd := _) rfl (by decide) rfl (n := 9) rfl rfl (m := 0) rfl ?_
  simp (dsimp := false) (disch := omega) only [List.replicate, rules, tys, Nat.reduceLT]
  repeat refine And.intro (by omega) ?_
  refine GoCall.pure h24 rfl ?_
  simp (dsimp := false) (disch := omega) only [List.append_nil, hset, flat_take27 hyl, hyf, rules, tys, eq_self, ↓reduceIte, Nat.reduceAdd, Nat.reduceLT, Nat.reduceLeDiff]
  repeat refine And.intro (by omega) ?_
  refine GoCall.pure h71 (by simp [fzAs, fzA, flat_fz, flatF_fv]) ?_
  simp (dsimp := false) (disch := omega) only [flat_ids, flat_reloc, List.append_nil, h27, Ap_end_ret, rules, tys, eq_self, Nat.reduceAdd, Nat.reduceLT, Nat.reduceLeDiff]
  repeat refine And.intro (by omega) ?_
  exact RetOK.form rfl rfl hzl

theorem den48n (rs : List Raw) (v : Nat) (hrs : LOk 1000 rs) (hv : v < 8) (h0 : (rs.getD v rz).q = 0) : Den Try.prog 48 [] [RL rs, .int .i64 v] [] (.tup [FL (rs.map Raw.q), .int .i64 0]) := by
  have hlen := hrs.len
  have hfl := flat_length rs
  have hat := flat_at (rs := rs) (i := v) (by omega)
  have h26 := den26 (rs.getD v rz) ((hrs.at v).mono (by decide))
  rw [sgq_eq_zero.2 h0] at h26
  obtain ⟨r, hr⟩ : ∃ r, rs.getD v rz = r := ⟨_, rfl⟩
  rw [hr] at hat h26
  unfold Raw.v at h26
  have h71 := den71 rs (hrs.mono (by decide))
  unfold FL RL at h71 ⊢
  obtain ⟨zs, hz⟩ : ∃ zs, (rs.map Raw.q).map cn = zs := ⟨_, rfl⟩
  have hzl : zs.length = 9 := by rw [← hz]; simp [hlen]
  have h27 : (flat zs).length = 27 := by rw [flat_length]; omega
  rw [hz] at h71 ⊢
  have e00 : ((0 : Int) == 0) = true := rfl
  refine den_of tabOk mixed Try.func48 (cd := _) rfl (by decide) rfl (n := 30) rfl rfl (m := 0) rfl ?_
  simp (dsimp := false) (disch := omega) only [List.append_nil, List.replicate, hat, rules, tys, eq_self, ↓reduceIte, Nat.reduceAdd, Nat.reduceLT, Nat.reduceLeDiff]
  repeat refine And.intro (by omega) ?_
  refine GoCall.pure h26 rfl ?_
  simp (dsimp := false) (disch := omega) only [List.append_nil, e00, flat_take27 hlen, rules, tys, eq_self, ↓reduceIte, Nat.reduceAdd]
  repeat refine And.intro (by omega) ?_
  refine GoCall.pure h71 (by simp [fzAs, fzA, flat_fz, flatF_fv]) ?_
  simp (dsimp := false) (disch := omega) only [flat_ids, flat_reloc, List.append_nil, h27, Ap_end_ret, rules, tys, eq_self, Nat.reduceAdd, Nat.reduceLT, Nat.reduceLeDiff]
  repeat refine And.intro (by omega) ?_
  exact RetOK.form2 rfl rfl hzl rfl

theorem den48 (rs : List Raw) (v : Nat) (hrs : LOk 1000 rs) (hv : v < 8) (h0 : (rs.getD v rz).q ≠ 0) :
    Den Try.prog 48 [] [RL rs, .int .i64 v] [] (.tup [FL ((rs.set v rz).map (fun r => r.q * (-1 / (rs.getD v rz).q))), .int .i64 (sgq (rs.getD v rz).q)]) := by
  have hlen := hrs.len
  have hfl := flat_length rs
  have hok := hrs.at v
  have hat := flat_at (rs := rs) (i := v) (by omega)
  have h26 := den26 (rs.getD v rz) (hok.mono (by decide))
  have h73 := den73 rs v (hrs.mono (by decide)) hv
  have hsok := set_ok hrs v
  have hq2 : ∀ r ∈ rs.set v rz, Bd 1000 r.q := fun r hr => (hsok.ok r hr).bd (by decide)
  obtain ⟨r, hr⟩ : ∃ r, rs.getD v rz = r := ⟨_, rfl⟩
  rw [hr] at hat h26 hok h0
  rw [hr]
  have hb1 : Bd 1 (((-1 : Int)) : Rat) := ⟨by decide, by decide⟩
  have h24 := den24 (-1) (by decide)
  have h45 := den45 (cn ((-1 : Int) : Rat)) r (Raw.Ok.mono (cn_ok hb1) (by decide)) (hok.mono (by decide)) h0
  rw [cn_q] at h45
  change Den Try.prog 45 [] [FR ((-1 : Int) : Rat), r.v] [] _ at h45
  have hbd := hb1.div (hok.bd (by decide)) h0 (by decide)
  have h46 := den46 (((rs.set v rz).map Raw.q).map cn) (cn (((-1 : Int) : Rat) / r.q)) (LOk.map hsok.len (fun x hx => (hq2 x hx).mono (by decide))) (Raw.Ok.mono (cn_ok hbd) (by decide))
  rw [cn_q] at h46
  have hmm : (((rs.set v rz).map Raw.q).map cn).map (fun x => x.q * (((-1 : Int) : Rat) / r.q)) = (rs.set v rz).map (fun x => x.q * (-1 / r.q)) := by
    rw [List.map_map, List.map_map]
    apply List.map_congr_left
    intro x _
    simp only [Function.comp, cn_q]
    rfl
  rw [hmm] at h46
  change Den Try.prog 46 [] [FL ((rs.set v rz).map Raw.q), FR (((-1 : Int) : Rat) / r.q)] [] _ at h46
  have e1 : ((-1 : Int) : Rat) = -1 := rfl
  rw [e1] at h46 h45 h24
  obtain ⟨zs, hz⟩ : ∃ zs, ((rs.set v rz).map (fun x => x.q * (-1 / r.q))).map cn = zs := ⟨_, rfl⟩
  have hzl : zs.length = 9 := by rw [← hz]; simp [hlen]
  have h27 : (flat zs).length = 27 := by rw [flat_length]; omega
  unfold FL RL at h46 h73 ⊢
  rw [hz] at h46 ⊢
  obtain ⟨ys, hy⟩ : ∃ t, ((rs.set v rz).map Raw.q).map cn = t := ⟨_, rfl⟩
  rw [hy] at h46 h73
  rw [FR_eq] at h24 h46
  rw [FR_eq, FR_eq] at h45
  unfold Raw.v at h26 h45
  have hs0 : (sgq r.q == 0) = false := by rw [beq_eq_false_iff_ne]; exact fun h => h0 (sgq_eq_zero.1 h)
  refine den_of tabOk mixed Try.func48 (cd := _) rfl (by decide) rfl (n := 30) rfl rfl (m := 0) rfl ?_
  simp (dsimp := false) (disch := omega) only [List.append_nil, List.replicate, hat, rules, tys, eq_self, ↓reduceIte, Nat.reduceAdd, Nat.reduceLT, Nat.reduceLeDiff]
  repeat refine And.intro (by omega) ?_
  refine GoCall.pure h26 rfl ?_
  simp (dsimp := false) (disch := omega) only [List.append_nil, hs0, rules, tys, eq_self, ↓reduceIte, Nat.reduceAdd]
  refine Draw.intro (by kernel_rfl) ?_
  simp (dsimp := false) (disch := omega) only [rules]
  refine GoCall.pure h24 rfl ?_
  simp (dsimp := false) (disch := omega) only [List.append_nil, rules, tys, eq_self, ↓reduceIte, Nat.reduceAdd, Nat.reduceLeDiff]
  refine GoCall.pure h45 rfl ?_
  simp (dsimp := false) (disch := omega) only [List.append_nil, rules, tys, eq_self, Nat.reduceAdd, Nat.reduceLT, Nat.reduceLeDiff]
  refine Draw.intro (by kernel_rfl) ?_
  simp (dsimp := false) (disch := omega) only [flat_take27 hlen, rules, tys, eq_self, ↓reduceIte]
  repeat refine And.intro (by omega) ?_
  refine GoCall.pure h73 (by simp [fzAs, fzA, flat_fz, flatF_fv, fz1, fz0]) ?_
  simp (dsimp := false) (disch := omega) only [flat_ids, flat_reloc, List.append_nil, rules, tys, eq_self, ↓reduceIte, Nat.reduceAdd, Nat.reduceLeDiff]
  refine GoCall.pure h46 (by simp [fzAs, fzA, flat_fz, flatF_fv, fzs, fz0]) ?_
  simp (dsimp := false) (disch := omega) only [flat_ids, flat_reloc, List.append_nil, h27, Ap_end_ret, rules, tys, eq_self, Nat.reduceAdd, Nat.reduceLT, Nat.reduceLeDiff]
  repeat refine And.intro (by omega) ?_
  exact RetOK.form2 rfl rfl hzl rfl

theorem den17z (rs : List Raw) (v : Int) (hrs : rs.length = 9) (hv : v < 0 ∨ 8 ≤ v) : Den Try.prog 17 [] [RL rs, .int .i64 v] [] (.tup [RL (List.replicate 9 rz), .int .i64 0, .int .i64 1]) := by
  have hfl := flat_length rs
  unfold RL
  by_cases h : v < 0
  · have h1 : decide (v < 0) = true := decide_eq_true h
    refine den_of tabOk mixed Try.func17 (cd := _) rfl (by decide) rfl (n := 22) rfl rfl (m := 0) rfl ?_
    simp (dsimp := false) (disch := omega) only [List.append_nil, List.replicate, h1, Ap_end_ret, rules, tys, eq_self, ↓reduceIte, Nat.reduceAdd, Nat.reduceLT, Nat.reduceLeDiff]
    repeat refine And.intro (by omega) ?_
    refine RetOK.pure rfl ⟨⟨rfl, Nat.le_refl 27⟩, trivial, trivial, trivial⟩ rfl
  · have h1 : decide (v < 0) = false := decide_eq_false h
    have h2 : decide (v ≥ 8) = true := decide_eq_true (by omega)
    refine den_of tabOk mixed Try.func17 (cd := _) rfl (by decide) rfl (n := 22) rfl rfl (m := 0) rfl ?_
    simp (dsimp := false) (disch := omega) only [List.append_nil, List.replicate, h1, h2, Ap_end_ret, rules, tys, eq_self, ↓reduceIte, Nat.reduceAdd, Nat.reduceLT, Nat.reduceLeDiff]
    repeat refine And.intro (by omega) ?_
    refine RetOK.pure rfl ⟨⟨rfl, Nat.le_refl 27⟩, trivial, trivial, trivial⟩ rfl

theorem den17 (rs : List Raw) (v : Nat) (zs : List Raw) (s : Int) (hlen : rs.length = 9) (hv : v < 8) (hzl : zs.length = 9) (h48 : Den Try.prog 48 [] [RL rs, .int .i64 v] [] (.tup [RL zs, .int .i64 s])) :
    Den Try.prog 17 [] [RL rs, .int .i64 v] [] (.tup [RL zs, .int .i64 s, .int .i64 0]) := by
  have hfl := flat_length rs
  have h27 : (flat zs).length = 27 := by rw [flat_length]; omega
  have h1 : decide ((v : Int) < 0) = false := decide_eq_false (by omega)
  have h2 : decide ((v : Int) ≥ 8) = false := decide_eq_false (by omega)
  unfold RL at h48 ⊢
  refine den_of tabOk mixed Try.func17 (cd := _) rfl (by decide) rfl (n := 22) rfl rfl (m := 0) rfl ?_
  simp (dsimp := false) (disch := omega) only [List.replicate, h1, h2, flat_take27 hlen, rules, tys, eq_self, ↓reduceIte, Nat.reduceLT]
  repeat refine And.intro (by omega) ?_
  refine GoCall.pure h48 (by simp [fzAs, fzA, flat_fz, flatF_fv, fz1, fz0]) ?_
  simp (dsimp := false) (disch := omega) only [flat_ids, flat_reloc, List.append_nil, h27, flat_take27 hzl, Ap_end_ret, rules, tys, eq_self, ↓reduceIte, Nat.reduceAdd, Nat.reduceLT, Nat.reduceLeDiff]
  repeat refine And.intro (by omega) ?_
  exact RetOK.form3 rfl rfl hzl rfl rfl

end Go.Proofs.Yteifpjjnphcdcaa

/- Contracts: sums of forms, of both sides. -/
namespace Go.Proofs.Yteifpjjnphcdcaa
open Go.AM Go.Pl
set_option maxRecDepth 100000
set_option maxHeartbeats 2000000

theorem den21 (a b : List Raw) (ha : LOk 1000000000 a) (hb : LOk 1000000000 b) : Den Try.prog 21 [] [RL a, RL b] [] (FL (addL a b)) := by
  have la := ha.len
  have lb := hb.len
  have fa := flat_length a
  have fb := flat_length b
  unfold FL RL
  obtain ⟨T, hT⟩ : ∃ T, (addL a b).map cn = T := ⟨_, rfl⟩
  have lT : T.length = 9 := by rw [← hT, List.length_map]; exact addL_length la lb
  have hTg : ∀ i, i < 9 → T.getD i rz = cn ((a.getD i rz).q + (b.getD i rz).q) := fun i hi => by rw [← hT]; exact addL_getD (by omega) (by omega)
  obtain ⟨Z, hZ⟩ : ∃ Z, List.replicate 9 rz = Z := ⟨_, rfl⟩
  have lZ : Z.length = 9 := by rw [← hZ]; rfl
  rw [hT]
  refine den_of tabOk mixed Try.func21 (cd := _) rfl (by decide) rfl (n := 30) rfl rfl (m := 0) rfl ?_
  simp (dsimp := false) (disch := omega) only [List.replicate, rules, tys, Nat.reduceAdd, Nat.reduceLT]
  repeat refine And.intro (by omega) ?_
  refine WA.loop (α := Nat) (fun i => ⟨[.any, .any, .ptr 0 0 0, .ptr 1 0 0, .ptr 2 0 0, .ptr 2 0 0, .any, .any, .int .i64 i] ++ List.replicate 23 .any, [.box true (flat a), .box true (flat b), .box true (flat (tgt T i Z))]⟩)
    (fun i => 8 - i) (fun i => i ≤ 8) 0 ?_ ?_ ?_
  · refine Weak.keep [0, 1, 2] (by simp) rfl ?_ ?_
    · simp [leVs, leV, le1]
    · rw [tgt_zero, ← hZ]
      simp [leH, leO, le1s, le1, le_flat, List.replicate, flat, rz, u32s]
  · exact Nat.zero_le _
  · rintro i hi
    have hol := tgt_length (T := T) (rest := Z) i (by omega)
    have hof := flat_length (tgt T i Z)
    have hat1 := flat_at (rs := a) (i := i) (by omega)
    have hat2 := flat_at (rs := b) (i := i) (by omega)
    have hst := tgt_set (T := T) (rest := Z) (i := i) (by omega) (by omega)
    rw [hTg i (by omega)] at hst
    have hden := den51 (a.getD i rz) (b.getD i rz) (ha.at i) (hb.at i)
    obtain ⟨r, hr⟩ : ∃ r, a.getD i rz = r := ⟨_, rfl⟩
    obtain ⟨s, hs⟩ : ∃ r, b.getD i rz = r := ⟨_, rfl⟩
    rw [hr] at hat1 hst hden
    rw [hs] at hat2 hst hden
    have hset := flat_set (rs := tgt T i Z) (i := i) (by omega) (decide ((r.q + s.q).num < 0)) (limbs (r.q + s.q).num.natAbs) (limbs (r.q + s.q).den)
    have hcn : (⟨decide ((r.q + s.q).num < 0), limbs (r.q + s.q).num.natAbs, limbs (r.q + s.q).den⟩ : Raw) = cn (r.q + s.q) := rfl
    rw [hcn, hst] at hset
    rw [FR_eq, N_val, N_val] at hden
    unfold Raw.v at hden
    simp (dsimp := false) (disch := omega) only [List.replicate, rules, tys, eq_self, ↓reduceIte]
    refine Br.dec ?_ ?_
    · intro h1 h2
      simp (dsimp := false) (disch := omega) only [h2, rules]
      refine Draw.intro (by kernel_rfl) ?_
      simp (dsimp := false) (disch := omega) only [hat1, hat2, rules, tys, eq_self, ↓reduceIte, Nat.reduceLT]
      repeat refine And.intro (by omega) ?_
      refine GoCall.pure hden rfl ?_
      simp (dsimp := false) (disch := omega) only [List.append_nil, hset, wrap64, rules, tys, eq_self, ↓reduceIte, Nat.reduceAdd, Nat.reduceLT]
      repeat refine And.intro (by omega) ?_
      refine Ap_loop (i + 1) (by omega) ?_ (by omega)
      refine Weak.keep [0, 1, 2] (by simp) rfl ?_ ?_
      · simp [leVs, leV, le1]
      · simp [leH, leO, le_flat]
    · intro h1 h2
      have hi8 : i = 8 := by omega
      subst hi8
      rw [tgt_all (n := 8 + 1) lT lZ] at hset
      simp only [Nat.reduceMul, Nat.reduceAdd] at hat1 hat2 hset
      have h27 : (flat T).length = 27 := by rw [flat_length]; omega
      have hd27 : List.drop 27 (flat T) = [] := List.drop_of_length_le (by omega)
      simp (dsimp := false) (disch := omega) only [h2, hat1, hat2, rules, tys, eq_self, ↓reduceIte, Nat.reduceAdd, Nat.reduceBEq]
      repeat refine And.intro (by omega) ?_
      refine GoCall.pure hden rfl ?_
      simp (dsimp := false) (disch := omega) only [List.append_nil, hset, h27, flat_take27 lT, hd27, Ap_end_ret, rules, tys, eq_self, ↓reduceIte, Nat.reduceAdd, Nat.reduceLT, Nat.reduceLeDiff]
      repeat refine And.intro (by omega) ?_
      exact RetOK.form rfl rfl lT

theorem den74 (a b : List Raw) (ha : LOk 1000000000 a) (hb : LOk 1000000000 b) : Den Try.prog 74 [] [RL a, RL b] [] (FL (addL a b)) := by
  have la := ha.len
  have lb := hb.len
  have fa := flat_length a
  have fb := flat_length b
  have h24 := den24 0 (by decide)
  rw [show ((0 : Int) : Rat) = 0 from rfl, FR_eq, N_val, N_val] at h24
  unfold FL RL
  obtain ⟨T, hT⟩ : ∃ T, (addL a b).map cn = T := ⟨_, rfl⟩
  have lT : T.length = 9 := by rw [← hT, List.length_map]; exact addL_length la lb
  have hTg : ∀ i, i < 9 → T.getD i rz = cn ((a.getD i rz).q + (b.getD i rz).q) := fun i hi => by rw [← hT]; exact addL_getD (by omega) (by omega)
  rw [hT]
  refine den_of tabOk mixed Try.func74 (cd := _) rfl (by decide) rfl (n := 43) rfl rfl (m := 0) rfl ?_
  simp (dsimp := false) (disch := omega) only [List.replicate, rules, tys, Nat.reduceAdd, Nat.reduceLT]
  repeat refine And.intro (by omega) ?_
  refine WA.loop (α := Nat) (fun i => ⟨[.any, .any, .ptr 0 0 0, .ptr 1 0 0, .ptr 2 0 0, .int .i64 i] ++ List.replicate 39 .any, [.box true (flat (tgt T i a)), .box true (flat b), .box true (zcells 9)]⟩)
    (fun i => 8 - i) (fun i => i ≤ 8) 0 ?_ ?_ ?_
  · refine Weak.keep [0, 1, 2] (by simp) rfl ?_ ?_
    · simp [leVs, leV, le1]
    · rw [tgt_zero]
      simp [leH, leO, le1s, le1, le_flat, zcells]
  · exact Nat.zero_le _
  · rintro i hi
    have hol := tgt_length (T := T) (rest := a) i (by omega)
    have hof := flat_length (tgt T i a)
    have hat1 := flat_at (rs := tgt T i a) (i := i) (by omega)
    rw [tgt_getD (by omega) (by omega) (Nat.le_refl _)] at hat1
    have hat2 := flat_at (rs := b) (i := i) (by omega)
    have hst := tgt_set (T := T) (rest := a) (i := i) (by omega) (by omega)
    rw [hTg i (by omega)] at hst
    have hden := den31 (a.getD i rz) (b.getD i rz) (ha.at i) (hb.at i)
    obtain ⟨r, hr⟩ : ∃ r, a.getD i rz = r := ⟨_, rfl⟩
    obtain ⟨s, hs⟩ : ∃ r, b.getD i rz = r := ⟨_, rfl⟩
    rw [hr] at hat1 hst hden
    rw [hs] at hat2 hst hden
    have h70a := den70 r
    have h70b := den70 s
    have hset := flat_set (rs := tgt T i a) (i := i) (by omega) (decide ((r.q + s.q).num < 0)) (limbs (r.q + s.q).num.natAbs) (limbs (r.q + s.q).den)
    have hcn : (⟨decide ((r.q + s.q).num < 0), limbs (r.q + s.q).num.natAbs, limbs (r.q + s.q).den⟩ : Raw) = cn (r.q + s.q) := rfl
    rw [hcn, hst] at hset
    rw [FR_eq, N_val, N_val] at hden
    unfold Raw.v at hden h70a h70b
    simp (dsimp := false) (disch := omega) only [List.replicate, rules, tys, eq_self, ↓reduceIte]
    refine Br.dec ?_ ?_
    · intro h1 h2
      simp (dsimp := false) (disch := omega) only [h2, hat1, rules, tys, eq_self, ↓reduceIte, Nat.reduceLT]
      repeat refine And.intro (by omega) ?_
      refine GoCall.pure h70a rfl ?_
      simp (dsimp := false) (disch := omega) only [List.append_nil, rules, Nat.reduceAdd]
      by_cases h3 : (r.num.length : Int) = 0
      · have hb3 : ((r.num.length : Int) == 0) = true := by rw [beq_iff_eq]; exact h3
        simp (dsimp := false) (disch := omega) only [hb3, hat2, rules, tys, eq_self, ↓reduceIte, Nat.reduceLT]
        repeat refine And.intro (by omega) ?_
        refine GoCall.pure h70b rfl ?_
        by_cases h4 : (s.num.length : Int) = 0
        · have hb4 : ((s.num.length : Int) == 0) = true := by rw [beq_iff_eq]; exact h4
          have hsum : r.q + s.q = 0 := by rw [none_q h3, none_q h4, Rat.add_zero]
          rw [hsum] at hset
          simp (dsimp := false) (disch := omega) only [List.append_nil, hb4, rules, eq_self, ↓reduceIte, Nat.reduceAdd]
          refine GoCall.pure h24 rfl ?_
          simp (dsimp := false) (disch := omega) only [List.append_nil, hset, wrap64, rules, tys, eq_self, ↓reduceIte, Nat.reduceAdd, Nat.reduceLT]
          repeat refine And.intro (by omega) ?_
          refine Ap_loop (i + 1) (by omega) ?_ (by omega)
          refine Weak.keep [0, 1, 2] (by simp) rfl ?_ ?_
          · simp [leVs, leV, le1]
          · simp [leH, leO, le1s, le1, le_flat, zcells]
        · have hb4 : ((s.num.length : Int) == 0) = false := by rw [beq_eq_false_iff_ne]; exact h4
          simp (dsimp := false) (disch := omega) only [List.append_nil, hb4, rules, eq_self, ↓reduceIte, Nat.reduceAdd]
          refine Draw.intro (by kernel_rfl) ?_
          simp (dsimp := false) (disch := omega) only [hat1, hat2, rules, tys, eq_self, ↓reduceIte, Nat.reduceLT]
          repeat refine And.intro (by omega) ?_
          refine GoCall.pure hden rfl ?_
          simp (dsimp := false) (disch := omega) only [List.append_nil, hset, wrap64, rules, tys, eq_self, ↓reduceIte, Nat.reduceAdd, Nat.reduceLT]
          repeat refine And.intro (by omega) ?_
          refine Ap_loop (i + 1) (by omega) ?_ (by omega)
          refine Weak.keep [0, 1, 2] (by simp) rfl ?_ ?_
          · simp [leVs, leV, le1]
          · simp [leH, leO, le1s, le1, le_flat, zcells]
      · have hb3 : ((r.num.length : Int) == 0) = false := by rw [beq_eq_false_iff_ne]; exact h3
        simp (dsimp := false) (disch := omega) only [hb3, rules, ↓reduceIte]
        refine Draw.intro (by kernel_rfl) ?_
        simp (dsimp := false) (disch := omega) only [hat1, hat2, rules, tys, eq_self, ↓reduceIte, Nat.reduceLT]
        repeat refine And.intro (by omega) ?_
        refine GoCall.pure hden rfl ?_
        simp (dsimp := false) (disch := omega) only [List.append_nil, hset, wrap64, rules, tys, eq_self, ↓reduceIte, Nat.reduceAdd, Nat.reduceLT]
        repeat refine And.intro (by omega) ?_
        refine Ap_loop (i + 1) (by omega) ?_ (by omega)
        refine Weak.keep [0, 1, 2] (by simp) rfl ?_ ?_
        · simp [leVs, leV, le1]
        · simp [leH, leO, le1s, le1, le_flat, zcells]
    · intro h1 h2
      have hi8 : i = 8 := by omega
      subst hi8
      rw [tgt_all (n := 8 + 1) lT la] at hset
      simp only [Nat.reduceMul, Nat.reduceAdd] at hat1 hat2 hset
      have h27 : (flat T).length = 27 := by rw [flat_length]; omega
      simp (dsimp := false) (disch := omega) only [h2, hat1, hat2, rules, tys, eq_self, ↓reduceIte, Nat.reduceAdd, Nat.reduceBEq]
      repeat refine And.intro (by omega) ?_
      refine GoCall.pure hden rfl ?_
      simp (dsimp := false) (disch := omega) only [zcells_drop, zcells_length, List.append_nil, hset, h27, flat_take27 lT, Ap_end_ret, rules, tys, eq_self, ↓reduceIte, Nat.reduceAdd, Nat.reduceLT, Nat.reduceLeDiff]
      repeat refine And.intro (by omega) ?_
      exact RetOK.form rfl rfl lT

end Go.Proofs.Yteifpjjnphcdcaa

/- Contracts: Substitute, of both sides. -/
namespace Go.Proofs.Yteifpjjnphcdcaa
open Go.AM Go.Pl
set_option maxRecDepth 100000
set_option maxHeartbeats 2000000

/-- A form put in the place of a variable. -/
def subL (a : List Raw) (v : Nat) (b : List Raw) : List Rat := addL (a.set v rz) ((b.map (fun r => r.q * (a.getD v rz).q)).map cn)
theorem subL_length {a b : List Raw} (v : Nat) (ha : a.length = 9) (hb : b.length = 9) : (subL a v b).length = 9 := addL_length (by simp [ha]) (by simp [hb])

theorem den18 (a b : List Raw) (v : Nat) (ha : LOk 1000 a) (hb : LOk 1000 b) (hv : v < 8) : Den Try.prog 18 [] [RL a, .int .i64 v, RL b] [] (.tup [FL (subL a v b), .int .i64 0]) := by
  have la := ha.len
  have lb := hb.len
  have fa := flat_length a
  have fb := flat_length b
  have hfl27 : (flat a).length = 27 := by omega
  have hok := ha.at v
  have hat := flat_at (rs := a) (i := v) (by omega)
  have h23 := den23 b (a.getD v rz) (hb.mono (by decide)) (hok.mono (by decide))
  have hmb : ∀ q ∈ b.map (fun r => r.q * (a.getD v rz).q), Bd 2000 q := fun q hq => by
    simp only [List.mem_map] at hq
    obtain ⟨r, hr, rfl⟩ := hq
    exact ((hb.ok r hr).bd (by decide)).mul (hok.bd (by decide)) (by decide)
  have hYok := LOk.of_map (by simp [lb]) hmb
  have hs := set_ok ha v
  have h21 := den21 (a.set v rz) ((b.map (fun r => r.q * (a.getD v rz).q)).map cn) (hs.mono (by decide)) (hYok.mono (by decide))
  have hln := subL_length v la lb
  unfold subL at hln ⊢
  obtain ⟨r, hr⟩ : ∃ r, a.getD v rz = r := ⟨_, rfl⟩
  rw [hr] at hat h23 h21 hYok hln ⊢
  obtain ⟨X, hX⟩ : ∃ X, List.take (v * 3) (flat a) ++ [.fv (.lit (.bool false)), .nilsl, .nilsl] ++ List.drop (v * 3 + 3) (flat a) = X := ⟨_, rfl⟩
  have hXh : hole a v = X := hX
  have hXl : X.length = 27 := by rw [← hXh]; exact hole_length (by omega) la
  have hXt : List.take 27 X = X := List.take_of_length_le (by omega)
  have hXf : ∀ H, fzs H X = some (flatF (a.set v rz)) := fun H => by rw [← hXh]; exact fzs_hole H v a (by omega)
  have hXi : X.flatMap ids0 = [] := by rw [← hXh]; exact ids_hole v a (by omega)
  unfold FL RL at h23 h21 ⊢
  obtain ⟨Y, hY⟩ : ∃ Y, (b.map (fun x => x.q * r.q)).map cn = Y := ⟨_, rfl⟩
  rw [hY] at h23 h21 hYok hln ⊢
  have lY := hYok.len
  obtain ⟨zs, hz⟩ : ∃ zs, (addL (a.set v rz) Y).map cn = zs := ⟨_, rfl⟩
  have hzl : zs.length = 9 := by rw [← hz, List.length_map]; exact hln
  have h27 : (flat zs).length = 27 := by rw [flat_length]; omega
  rw [hz] at h21 ⊢
  unfold Raw.v at h23
  have h1 : decide ((v : Int) < 0) = false := decide_eq_false (by omega)
  have h2 : decide ((v : Int) ≥ 8) = false := decide_eq_false (by omega)
  refine den_of tabOk mixed Try.func18 (cd := _) rfl (by decide) rfl (n := 26) rfl rfl (m := 0) rfl ?_
  simp (dsimp := false) (disch := omega) only [List.append_nil, List.replicate, h1, h2, flat_take27 la, hfl27, hX, rules, tys, eq_self, ↓reduceIte, Nat.reduceAdd, Nat.reduceLT, Nat.reduceLeDiff]
  repeat refine And.intro (by omega) ?_
  refine Draw.intro (by kernel_rfl) ?_
  simp (dsimp := false) (disch := omega) only [hXt, hXl, flat_take27 lb, hat, rules, tys, eq_self, ↓reduceIte, Nat.reduceLT, Nat.reduceLeDiff]
  repeat refine And.intro (by omega) ?_
  refine GoCall.pure h23 (by simp [fzAs, fzA, flat_fz, flatF_fv, fzs, fz0]) ?_
  simp (dsimp := false) (disch := omega) only [flat_ids, flat_reloc, List.append_nil, rules, Nat.reduceAdd]
  repeat refine And.intro (by omega) ?_
  refine GoCall.pure h21 (by simp [fzAs, fzA, hXf, flat_fz, flatF_fv]) ?_
  simp (dsimp := false) (disch := omega) only [flat_ids, flat_reloc, List.append_nil, h27, hXi, Ap_end_ret, rules, tys, eq_self, Nat.reduceAdd, Nat.reduceLT, Nat.reduceLeDiff]
  repeat refine And.intro (by omega) ?_
  exact RetOK.form2 rfl rfl hzl rfl

theorem den18z (a b : List Raw) (v : Int) (ha : a.length = 9) (hb : b.length = 9) (hv : v < 0 ∨ 8 ≤ v) : Den Try.prog 18 [] [RL a, .int .i64 v, RL b] [] (.tup [RL (List.replicate 9 rz), .int .i64 1]) := by
  have fa := flat_length a
  have fb := flat_length b
  unfold RL
  by_cases h : v < 0
  · have h1 : decide (v < 0) = true := decide_eq_true h
    refine den_of tabOk mixed Try.func18 (cd := _) rfl (by decide) rfl (n := 26) rfl rfl (m := 0) rfl ?_
    simp (dsimp := false) (disch := omega) only [List.append_nil, List.replicate, h1, Ap_end_ret, rules, tys, eq_self, ↓reduceIte, Nat.reduceAdd, Nat.reduceLT, Nat.reduceLeDiff]
    repeat refine And.intro (by omega) ?_
    refine RetOK.pure rfl ⟨⟨rfl, Nat.le_refl 27⟩, trivial, trivial⟩ rfl
  · have h1 : decide (v < 0) = false := decide_eq_false h
    have h2 : decide (v ≥ 8) = true := decide_eq_true (by omega)
    refine den_of tabOk mixed Try.func18 (cd := _) rfl (by decide) rfl (n := 26) rfl rfl (m := 0) rfl ?_
    simp (dsimp := false) (disch := omega) only [List.append_nil, List.replicate, h1, h2, Ap_end_ret, rules, tys, eq_self, ↓reduceIte, Nat.reduceAdd, Nat.reduceLT, Nat.reduceLeDiff]
    repeat refine And.intro (by omega) ?_
    refine RetOK.pure rfl ⟨⟨rfl, Nat.le_refl 27⟩, trivial, trivial⟩ rfl

theorem den19z (a b : List Raw) (v : Int) (ha : a.length = 9) (hb : b.length = 9) (hv : v < 0 ∨ 8 ≤ v) : Den Try.prog 19 [] [RL a, .int .i64 v, RL b] [] (.tup [RL (List.replicate 9 rz), .int .i64 1]) := by
  have fa := flat_length a
  have fb := flat_length b
  unfold RL
  by_cases h : v < 0
  · have h1 : decide (v < 0) = true := decide_eq_true h
    refine den_of tabOk mixed Try.func19 (cd := _) rfl (by decide) rfl (n := 16) rfl rfl (m := 0) rfl ?_
    simp (dsimp := false) (disch := omega) only [List.append_nil, List.replicate, h1, Ap_end_ret, rules, tys, eq_self, ↓reduceIte, Nat.reduceAdd, Nat.reduceLT, Nat.reduceLeDiff]
    repeat refine And.intro (by omega) ?_
    refine RetOK.pure rfl ⟨⟨rfl, Nat.le_refl 27⟩, trivial, trivial⟩ rfl
  · have h1 : decide (v < 0) = false := decide_eq_false h
    have h2 : decide (v ≥ 8) = true := decide_eq_true (by omega)
    refine den_of tabOk mixed Try.func19 (cd := _) rfl (by decide) rfl (n := 16) rfl rfl (m := 0) rfl ?_
    simp (dsimp := false) (disch := omega) only [List.append_nil, List.replicate, h1, h2, Ap_end_ret, rules, tys, eq_self, ↓reduceIte, Nat.reduceAdd, Nat.reduceLT, Nat.reduceLeDiff]
    repeat refine And.intro (by omega) ?_
    refine RetOK.pure rfl ⟨⟨rfl, Nat.le_refl 27⟩, trivial, trivial⟩ rfl

theorem den49 (a b : List Raw) (v : Nat) (ha : LOk 1000 a) (hb : LOk 1000 b) (hv : v < 8) : Den Try.prog 49 [] [RL a, .int .i64 v, RL b] [] (FL (subL a v b)) := by
  have la := ha.len
  have lb := hb.len
  have fa := flat_length a
  have fb := flat_length b
  have hok := ha.at v
  have hat := flat_at (rs := a) (i := v) (by omega)
  have h46 := den46 b (a.getD v rz) (hb.mono (by decide)) (hok.mono (by decide))
  have h73 := den73 a v (ha.mono (by decide)) hv
  have hmb : ∀ q ∈ b.map (fun r => r.q * (a.getD v rz).q), Bd 2000 q := fun q hq => by
    simp only [List.mem_map] at hq
    obtain ⟨r, hr, rfl⟩ := hq
    exact ((hb.ok r hr).bd (by decide)).mul (hok.bd (by decide)) (by decide)
  have hYok := LOk.of_map (by simp [lb]) hmb
  have hs := set_ok ha v
  have hWok : LOk 1000 (((a.set v rz).map Raw.q).map cn) := LOk.map hs.len (fun r hr => (hs.ok r hr).bd (by decide))
  have h74 := den74 (((a.set v rz).map Raw.q).map cn) ((b.map (fun r => r.q * (a.getD v rz).q)).map cn) (hWok.mono (by decide)) (hYok.mono (by decide))
  rw [addL_cn] at h74
  have hln := subL_length v la lb
  unfold subL at hln ⊢
  obtain ⟨r, hr⟩ : ∃ r, a.getD v rz = r := ⟨_, rfl⟩
  rw [hr] at hat h46 h74 hYok hln ⊢
  unfold FL RL at h46 h73 h74 ⊢
  obtain ⟨Y, hY⟩ : ∃ Y, (b.map (fun x => x.q * r.q)).map cn = Y := ⟨_, rfl⟩
  rw [hY] at h46 h74 hYok hln ⊢
  obtain ⟨V, hV⟩ : ∃ V, ((a.set v rz).map Raw.q).map cn = V := ⟨_, rfl⟩
  rw [hV] at h73 h74
  obtain ⟨zs, hz⟩ : ∃ zs, (addL (a.set v rz) Y).map cn = zs := ⟨_, rfl⟩
  have hzl : zs.length = 9 := by rw [← hz, List.length_map]; exact hln
  have h27 : (flat zs).length = 27 := by rw [flat_length]; omega
  rw [hz] at h74 ⊢
  unfold Raw.v at h46
  refine den_of tabOk mixed Try.func49 (cd := _) rfl (by decide) rfl (n := 14) rfl rfl (m := 0) rfl ?_
  simp (dsimp := false) (disch := omega) only [List.replicate, rules, tys, Nat.reduceAdd, Nat.reduceLT]
  repeat refine And.intro (by omega) ?_
  refine Draw.intro (by kernel_rfl) ?_
  simp (dsimp := false) (disch := omega) only [flat_take27 la, rules, tys, eq_self, ↓reduceIte]
  repeat refine And.intro (by omega) ?_
  refine GoCall.pure h73 (by simp [fzAs, fzA, flat_fz, flatF_fv, fz1, fz0]) ?_
  simp (dsimp := false) (disch := omega) only [flat_ids, flat_reloc, List.append_nil, flat_take27 lb, hat, rules, tys, eq_self, ↓reduceIte, Nat.reduceAdd, Nat.reduceLT]
  repeat refine And.intro (by omega) ?_
  refine GoCall.pure h46 (by simp [fzAs, fzA, flat_fz, flatF_fv, fzs, fz0]) ?_
  simp (dsimp := false) (disch := omega) only [flat_ids, flat_reloc, List.append_nil, rules, Nat.reduceAdd]
  refine GoCall.pure h74 (by simp [fzAs, fzA, flat_fz, flatF_fv]) ?_
  simp (dsimp := false) (disch := omega) only [flat_ids, flat_reloc, List.append_nil, h27, Ap_end_ret, rules, tys, eq_self, Nat.reduceAdd, Nat.reduceLT, Nat.reduceLeDiff]
  repeat refine And.intro (by omega) ?_
  exact RetOK.form rfl rfl hzl

theorem den19 (a b : List Raw) (v : Nat) (ha : LOk 1000 a) (hb : LOk 1000 b) (hv : v < 8) : Den Try.prog 19 [] [RL a, .int .i64 v, RL b] [] (.tup [FL (subL a v b), .int .i64 0]) := by
  have la := ha.len
  have lb := hb.len
  have fa := flat_length a
  have fb := flat_length b
  have h49 := den49 a b v ha hb hv
  have hln := subL_length v la lb
  unfold FL RL at h49 ⊢
  obtain ⟨zs, hz⟩ : ∃ zs, (subL a v b).map cn = zs := ⟨_, rfl⟩
  have hzl : zs.length = 9 := by rw [← hz, List.length_map]; exact hln
  have h27 : (flat zs).length = 27 := by rw [flat_length]; omega
  rw [hz] at h49 ⊢
  have h1 : decide ((v : Int) < 0) = false := decide_eq_false (by omega)
  have h2 : decide ((v : Int) ≥ 8) = false := decide_eq_false (by omega)
  refine den_of tabOk mixed Try.func19 (cd := _) rfl (by decide) rfl (n := 16) rfl rfl (m := 0) rfl ?_
  simp (dsimp := false) (disch := omega) only [List.replicate, h1, h2, flat_take27 la, flat_take27 lb, rules, tys, eq_self, ↓reduceIte, Nat.reduceAdd, Nat.reduceLT]
  repeat refine And.intro (by omega) ?_
  refine GoCall.pure h49 (by simp [fzAs, fzA, flat_fz, flatF_fv, fz1, fz0]) ?_
  simp (dsimp := false) (disch := omega) only [flat_ids, flat_reloc, List.append_nil, h27, Ap_end_ret, rules, tys, eq_self, Nat.reduceAdd, Nat.reduceLT, Nat.reduceLeDiff]
  repeat refine And.intro (by omega) ?_
  exact RetOK.form2 rfl rfl hzl rfl

end Go.Proofs.Yteifpjjnphcdcaa
