/- Contracts: linear: Norm, Scale. -/
import Derived.Test.YteifpjjnphcdcaaL1

namespace Go.Proofs.Yteifpjjnphcdcaa
open Go.AM Go.Pl
set_option maxRecDepth 100000
set_option maxHeartbeats 4000000

theorem den53 (r c : Raw) (hr : r.Ok 2000000000) (hc : c.Ok 2000000000) : Den Try.prog 53 [] [r.v, .fv (.fp c.f)] [] (FR (r.q * c.q)) := by
  have h := den54 r c hr hc
  rw [FR_eq] at h ⊢
  unfold Raw.v at h ⊢
  unfold Raw.f
  refine den_of tabOk mixed Try.func53 (cd := _) rfl (by decide) rfl (n := 5) rfl rfl (m := 0) rfl ?_
  simp (dsimp := false) (disch := omega) only [List.replicate, rules, tys, eq_self, ↓reduceIte, Nat.reduceAdd, Nat.reduceLT, Nat.reduceLeDiff]
  refine GoCall.pure h rfl ?_
  simp (dsimp := false) (disch := omega) only [Ap_end_ret, rules, tys, eq_self, Nat.reduceAdd, Nat.reduceLT, Nat.reduceLeDiff]
  refine RetOK.pure rfl ⟨⟨rfl, Nat.le_refl 3⟩, trivial⟩ rfl

theorem den39 (r c : Raw) (hr : r.Ok 2000000000) (hc : c.Ok 2000000000) (h0 : c.q ≠ 0) : Den Try.prog 39 [] [r.v, .fv (.fp c.f)] [] (FR (r.q / c.q)) := by
  have h := den40 r c hr hc h0
  rw [FR_eq] at h ⊢
  unfold Raw.v at h ⊢
  unfold Raw.f
  refine den_of tabOk mixed Try.func39 (cd := _) rfl (by decide) rfl (n := 11) rfl rfl (m := 0) rfl ?_
  simp (dsimp := false) (disch := omega) only [List.replicate, rules, tys, eq_self, ↓reduceIte, Nat.reduceAdd, Nat.reduceLT, Nat.reduceLeDiff]
  refine GoCall.pure h rfl ?_
  simp (dsimp := false) (disch := omega) only [Ap_end_ret, rules, tys, eq_self, ↓reduceIte, Nat.reduceAdd, Nat.reduceLT, Nat.reduceLeDiff]
  refine RetOK.pure rfl ⟨⟨rfl, Nat.le_refl 3⟩, trivial⟩ rfl

theorem den23 (rs : List Raw) (c : Raw) (hrs : LOk 2000000000 rs) (hc : c.Ok 2000000000) : Den Try.prog 23 [] [RL rs, c.v] [] (FL (rs.map (fun r => r.q * c.q))) := by
  have hlen := hrs.len
  have hfl := flat_length rs
  have h38 := den38b rs 53 (.fp c.f) (fun r => r.q * c.q) hlen (fun r hr => den53 r c (hrs.ok r hr) hc)
  unfold FL RL at h38 ⊢
  unfold Raw.f at h38
  obtain ⟨zs, hz⟩ : ∃ zs, (rs.map (fun r => r.q * c.q)).map cn = zs := ⟨_, rfl⟩
  have hzl : zs.length = 9 := by rw [← hz]; simp [hlen]
  have h27 : (flat zs).length = 27 := by rw [flat_length]; omega
  rw [hz] at h38 ⊢
  unfold Raw.v
  refine den_of tabOk mixed Try.func23 (cd := _) rfl (by decide) rfl (n := 6) rfl rfl (m := 0) rfl ?_
  simp (dsimp := false) (disch := omega) only [fz1s_nil', fz1s_box, boxOf_box, mapFp_some, List.append_nil, List.replicate, flat_take27 hlen, rules, tys, eq_self, ↓reduceIte, Nat.reduceAdd, Nat.reduceLT]
  refine ⟨by omega, by omega, ?_⟩
  refine GoCall.pure h38 (by simp [fzAs, fzA, flat_fz, flatF_fv, fz1, fz0]) ?_
  simp (dsimp := false) (disch := omega) only [flat_ids, flat_reloc, List.append_nil, h27, Ap_end_ret, rules, tys, eq_self, Nat.reduceAdd, Nat.reduceLT, Nat.reduceLeDiff]
  exact RetOK.form rfl rfl hzl

theorem den12 (rs : List Raw) (hrs : LOk 1000 rs) : Den Try.prog 12 [] [RL rs] [] (FL (nrm rs)) := by
  have hlen := hrs.len
  have hfl := flat_length rs
  unfold RL
  refine den_of tabOk mixed Try.func12 (cd := _) rfl (by decide) rfl (n := 30) rfl rfl (m := 0) rfl ?_
  simp (dsimp := false) (disch := omega) only [List.replicate, rules, tys, Nat.reduceLT]
  have htk : List.take 24 (flat rs) = flat (rs.take 8) := flat_take 8 rs
  have hcl : [List.take 3 (flatF (rs.take 8)), List.take 3 (List.drop 3 (flatF (rs.take 8))), List.take 3 (List.drop 3 (List.drop 3 (flatF (rs.take 8)))), List.take 3 (List.drop 3 (List.drop 3 (List.drop 3 (flatF (rs.take 8))))), List.take 3 (List.drop 3 (List.drop 3 (List.drop 3 (List.drop 3 (flatF (rs.take 8)))))), List.take 3 (List.drop 3 (List.drop 3 (List.drop 3 (List.drop 3 (List.drop 3 (flatF (rs.take 8))))))), List.take 3 (List.drop 3 (List.drop 3 (List.drop 3 (List.drop 3 (List.drop 3 (List.drop 3 (flatF (rs.take 8)))))))), List.take 3 (List.drop 3 (List.drop 3 (List.drop 3 (List.drop 3 (List.drop 3 (List.drop 3 (List.drop 3 (flatF (rs.take 8)))))))))] = (rs.take 8).map Raw.f := by
    have h := flatF_groups (rs.take 8)
    rw [List.length_take, hlen] at h
    exact h
  have hat8 := flat_at (rs := rs) (i := 8) (by omega)
  simp only [Nat.reduceMul] at hat8
  have hx8 : (rs.take 8).map Raw.f ++ [[FV.lit (Value.bool (rs.getD 8 rz).neg), FV.sl (u32s (rs.getD 8 rz).num), FV.sl (u32s (rs.getD 8 rz).den)]] = rs.map Raw.f := map_f_last hlen
  have htk8 : List.take 8 ((rs.take 8).map Raw.f) = (rs.take 8).map Raw.f := List.take_of_length_le (by simp; omega)
  have hlk8 : ((rs.take 8).map Raw.f).length = 8 := by simp [hlen]
  have h3s : ∀ y ∈ (rs.take 8).map Raw.f, y.length = 3 := by
    intro y hy
    simp only [List.mem_map] at hy
    obtain ⟨r, _, rfl⟩ := hy
    rfl
  refine ⟨by omega, ?_⟩
  refine Draw.freeze [0] (by kernel_rfl) ?_
  simp (dsimp := false) (disch := omega) only [flat_ids, flat_fz, List.append_nil, htk, hcl, hat8, hx8, htk8, hlk8, Option.isSome_some, imp_self, Int.reduceToNat, rules, tys, eq_self, ↓reduceIte, Nat.reduceAdd, Nat.reduceMul, Nat.reduceSub, Nat.reduceLT, Nat.reduceLeDiff]
  have hlf : (rs.map Raw.f).length = 9 := by simp [hlen]
  refine ⟨by omega, by omega, h3s, ?_⟩
  refine WA.loop (α := Nat) (fun i => ⟨[.any, .ptr 0 0 0, .ptr 1 0 0, .any, .any, .any, .any, .any, .any, .any, .any, .lsl 2 0 9 3, .int .i64 9, .int .i64 i] ++ List.replicate 17 .any, [.box false (flat rs), .box true (zcells 9), .row true (rs.map Raw.f)]⟩)
    (fun i => 9 - i) (fun i => i ≤ 9 ∧ (i < 9 → leadL (rs.drop i) = leadL rs) ∧ (i = 9 → (leadL rs).q = 0)) 0 ?_ ?_ ?_
  · refine Weak.keep [0, 1, 3] (by simp) rfl ?_ ?_
    · simp [leVs, leV, le1]
    · simp [leH, leO, le1s, le1, le_flat, zcells]
  · exact ⟨Nat.zero_le _, fun _ => rfl, fun h => by omega⟩
  · rintro i ⟨hi, hle, hl9⟩
    simp (dsimp := false) (disch := omega) only [List.replicate, rules, tys, eq_self, ↓reduceIte]
    refine Br.dec ?_ ?_
    · intro h1 h2
      have hmf := map_f_getD (rs := rs) (i := i) (by omega)
      have hld : leadL (rs.drop i) = if (rs.getD i rz).q = 0 ∧ i < 8 then leadL (rs.drop (i + 1)) else rs.getD i rz := by
        by_cases h8 : i < 8
        · rw [leadL_drop (by omega)]; simp [h8]
        · rw [leadL_last (by omega)]; simp [h8]
      rw [hle (by omega)] at hld
      obtain ⟨r, hr⟩ : ∃ r, rs.getD i rz = r := ⟨_, rfl⟩
      have hok : r.Ok 1000 := by rw [← hr]; exact hrs.at i
      rw [hr] at hmf hld
      have h36 := den36 r (hok.mono (by decide))
      have h37 := den37 r (hok.mono (by decide))
      have br := hok.bd (by decide)
      have hl3 : ([FV.lit (Value.bool r.neg), FV.sl (u32s r.num), FV.sl (u32s r.den)] : List FV).length = 3 := rfl
      by_cases h0 : r.q = 0
      · rw [sgq_eq_zero.2 h0] at h36
        unfold Raw.v at h36
        have hb : ((0 : Int) != 0) = false := rfl
        simp (dsimp := false) (disch := omega) only [List.append_nil, h2, hmf, hl3, rules, tys, eq_self, ↓reduceIte, Nat.reduceAdd, Nat.reduceLT, Nat.reduceLeDiff]
        repeat refine And.intro (by omega) ?_
        refine GoCall.pure h36 rfl ?_
        simp (dsimp := false) (disch := omega) only [List.append_nil, hb, wrap64, rules, tys, eq_self, ↓reduceIte, Nat.reduceAdd]
        refine Ap_loop (i + 1) (by omega) ?_ ⟨by omega, fun h9 => ?_, fun h9 => ?_⟩
        · refine Weak.keep [0, 1, 2] (by simp) rfl ?_ ?_
          · simp [leVs, leV, le1]
          · simp [leH, leO, le1s, le1, le_flat, zcells]
        · rw [if_pos ⟨h0, by omega⟩] at hld; exact hld.symm
        · rw [if_neg (by omega)] at hld; rw [hld]; exact h0
      · rw [if_neg (fun h => h0 h.1)] at hld
        have hnr := nrm_of (rs := rs) (by rw [hld]; exact h0)
        rw [hld] at hnr
        rw [hnr]
        have hs0 : (sgq r.q != 0) = true := by rw [bne_iff_ne]; exact fun h => h0 (sgq_eq_zero.1 h)
        obtain ⟨zs, hz⟩ : ∃ zs, (rs.map (fun x => x.q / absq r.q)).map cn = zs := ⟨_, rfl⟩
        have hzl : zs.length = 9 := by rw [← hz]; simp [hlen]
        have h27 : (flat zs).length = 27 := by rw [flat_length]; omega
        by_cases hneg : r.q.num < 0
        · have habs : absq r.q = -r.q := if_pos hneg
          have hn0 : (cn (-r.q)).q ≠ 0 := by rw [cn_q, ← habs]; exact absq_zero h0
          have h38 := den38b rs 39 (.fp (cn (-r.q)).f) (fun x => x.q / (cn (-r.q)).q) hlen (fun x hx => den39 x (cn (-r.q)) ((hrs.ok x hx).mono (by decide)) (Raw.Ok.mono (cn_ok br.neg) (by decide)) hn0)
          rw [cn_q, ← habs] at h38
          rw [habs] at h38
          unfold FL RL at h38
          rw [← habs, hz] at h38
          rw [habs] at h38
          unfold Raw.f cn at h38
          rw [sgq_neg hneg] at h36 hs0
          rw [FR_eq, N_val, N_val] at h37
          unfold Raw.v at h36 h37
          have hs1 : decide ((-1 : Int) < 0) = true := rfl
          unfold FL RL
          rw [hz]
          simp (dsimp := false) (disch := omega) only [List.append_nil, h2, hmf, hl3, rules, tys, eq_self, ↓reduceIte, Nat.reduceAdd, Nat.reduceLT, Nat.reduceLeDiff]
          repeat refine And.intro (by omega) ?_
          refine GoCall.pure h36 rfl ?_
          simp (dsimp := false) (disch := omega) only [List.append_nil, hs0, hs1, rules, tys, eq_self, ↓reduceIte, Nat.reduceAdd, Nat.reduceLeDiff]
          refine GoCall.pure h37 rfl ?_
          simp (dsimp := false) (disch := omega) only [fz1s_nil', fz1s_box, boxOf_box, mapFp_some, List.append_nil, flat_take27 hlen, rules, tys, eq_self, ↓reduceIte, Nat.reduceAdd, Nat.reduceLT, Nat.reduceLeDiff]
          repeat refine And.intro (by omega) ?_
          refine GoCall.pure h38 (by simp [fzAs, fzA, flat_fz, flatF_fv, fz1, fz0]) ?_
          simp (dsimp := false) (disch := omega) only [flat_ids, flat_reloc, zcells_drop, zcells_length, List.append_nil, h27, Ap_end_ret, rules, tys, eq_self, Nat.reduceAdd, Nat.reduceLT, Nat.reduceLeDiff]
          repeat refine And.intro (by omega) ?_
          exact RetOK.form rfl rfl hzl
        · have habs : absq r.q = r.q := if_neg hneg
          have h38 := den38b rs 39 (.fp r.f) (fun x => x.q / r.q) hlen (fun x hx => den39 x r ((hrs.ok x hx).mono (by decide)) (hok.mono (by decide)) h0)
          rw [habs] at hz
          unfold FL RL at h38
          rw [hz] at h38
          unfold Raw.f at h38
          rw [sgq_one h0 hneg] at h36 hs0
          unfold Raw.v at h36
          have hs1 : decide ((1 : Int) < 0) = false := rfl
          unfold FL RL
          rw [habs, hz]
          simp (dsimp := false) (disch := omega) only [List.append_nil, h2, hmf, hl3, rules, tys, eq_self, ↓reduceIte, Nat.reduceAdd, Nat.reduceLT, Nat.reduceLeDiff]
          repeat refine And.intro (by omega) ?_
          refine GoCall.pure h36 rfl ?_
          simp (dsimp := false) (disch := omega) only [fz1s_nil', fz1s_box, boxOf_box, mapFp_some, List.append_nil, hs0, hs1, flat_take27 hlen, rules, tys, eq_self, ↓reduceIte, Nat.reduceAdd]
          repeat refine And.intro (by omega) ?_
          refine GoCall.pure h38 (by simp [fzAs, fzA, flat_fz, flatF_fv, fz1, fz0]) ?_
          simp (dsimp := false) (disch := omega) only [flat_ids, flat_reloc, zcells_drop, zcells_length, List.append_nil, h27, Ap_end_ret, rules, tys, eq_self, Nat.reduceAdd, Nat.reduceLT, Nat.reduceLeDiff]
          repeat refine And.intro (by omega) ?_
          exact RetOK.form rfl rfl hzl
    · intro h1 h2
      have hi9 : i = 9 := by omega
      subst hi9
      have h38 := den38a rs Raw.q hlen (fun r hr => den41 r ((hrs.ok r hr).mono (by decide)))
      rw [nrm_zeros (hl9 rfl) hlen]
      unfold FL RL at h38 ⊢
      obtain ⟨zs, hz⟩ : ∃ zs, (rs.map Raw.q).map cn = zs := ⟨_, rfl⟩
      have hzl : zs.length = 9 := by rw [← hz]; simp [hlen]
      have h27 : (flat zs).length = 27 := by rw [flat_length]; omega
      rw [hz] at h38 ⊢
      simp (dsimp := false) (disch := omega) only [h2, flat_take27 hlen, rules, tys, eq_self, ↓reduceIte, Nat.reduceBEq]
      repeat refine And.intro (by omega) ?_
      refine GoCall.pure h38 (by simp [fzAs, fzA, flat_fz, flatF_fv, fz1, fz0]) ?_
      simp (dsimp := false) (disch := omega) only [flat_ids, flat_reloc, zcells_drop, zcells_length, List.append_nil, h27, Ap_end_ret, rules, tys, eq_self, Nat.reduceAdd, Nat.reduceLT, Nat.reduceLeDiff]
      repeat refine And.intro (by omega) ?_
      exact RetOK.form rfl rfl hzl

end Go.Proofs.Yteifpjjnphcdcaa

/- Contracts: linear: Solve. -/
namespace Go.Proofs.Yteifpjjnphcdcaa
open Go.AM Go.Pl
set_option maxRecDepth 100000
set_option maxHeartbeats 4000000

theorem den16z (rs : List Raw) (v : Int) (hrs : rs.length = 9) (hv : v < 0 ∨ 8 ≤ v) : Den Try.prog 16 [] [RL rs, .int .i64 v] [] (.tup [RL (List.replicate 9 rz), .int .i64 0, .int .i64 1]) := by
  have hfl := flat_length rs
  unfold RL
  by_cases h : v < 0
  · have h1 : decide (v < 0) = true := decide_eq_true h
    refine den_of tabOk mixed Try.func16 (cd := _) rfl (by decide) rfl (n := 42) rfl rfl (m := 0) rfl ?_
    simp (dsimp := false) (disch := omega) only [List.append_nil, List.replicate, h1, Ap_end_ret, rules, tys, eq_self, ↓reduceIte, Nat.reduceAdd, Nat.reduceLT, Nat.reduceLeDiff]
    repeat refine And.intro (by omega) ?_
    refine RetOK.pure rfl ⟨⟨rfl, Nat.le_refl 27⟩, trivial, trivial, trivial⟩ rfl
  · have h1 : decide (v < 0) = false := decide_eq_false h
    have h2 : decide (v ≥ 8) = true := decide_eq_true (by omega)
    refine den_of tabOk mixed Try.func16 (cd := _) rfl (by decide) rfl (n := 42) rfl rfl (m := 0) rfl ?_
    simp (dsimp := false) (disch := omega) only [List.append_nil, List.replicate, h1, h2, Ap_end_ret, rules, tys, eq_self, ↓reduceIte, Nat.reduceAdd, Nat.reduceLT, Nat.reduceLeDiff]
    repeat refine And.intro (by omega) ?_
    refine RetOK.pure rfl ⟨⟨rfl, Nat.le_refl 27⟩, trivial, trivial, trivial⟩ rfl

theorem den16n (rs : List Raw) (v : Nat) (hrs : LOk 1000 rs) (hv : v < 8) (h0 : (rs.getD v rz).q = 0) : Den Try.prog 16 [] [RL rs, .int .i64 v] [] (.tup [FL (rs.map Raw.q), .int .i64 0, .int .i64 0]) := by
  have hlen := hrs.len
  have hfl := flat_length rs
  have hok := hrs.at v
  have hat := flat_at (rs := rs) (i := v) (by omega)
  have h36 := den36 (rs.getD v rz) (hok.mono (by decide))
  rw [sgq_eq_zero.2 h0] at h36
  obtain ⟨r, hr⟩ : ∃ r, rs.getD v rz = r := ⟨_, rfl⟩
  rw [hr] at hat h36
  unfold Raw.v at h36
  have h38 := den38a rs Raw.q hlen (fun r hr => den41 r ((hrs.ok r hr).mono (by decide)))
  unfold FL RL at h38 ⊢
  obtain ⟨zs, hz⟩ : ∃ zs, (rs.map Raw.q).map cn = zs := ⟨_, rfl⟩
  have hzl : zs.length = 9 := by rw [← hz]; simp [hlen]
  have h27 : (flat zs).length = 27 := by rw [flat_length]; omega
  rw [hz] at h38 ⊢
  have h1 : decide ((v : Int) < 0) = false := decide_eq_false (by omega)
  have h2 : decide ((v : Int) ≥ 8) = false := decide_eq_false (by omega)
  have e00 : ((0 : Int) == 0) = true := rfl
  refine den_of tabOk mixed Try.func16 (cd := _) rfl (by decide) rfl (n := 42) rfl rfl (m := 0) rfl ?_
  simp (dsimp := false) (disch := omega) only [List.replicate, h1, h2, hat, rules, tys, eq_self, ↓reduceIte, Nat.reduceLT]
  repeat refine And.intro (by omega) ?_
  refine GoCall.pure h36 rfl ?_
  simp (dsimp := false) (disch := omega) only [List.append_nil, e00, flat_take27 hlen, rules, tys, eq_self, ↓reduceIte, Nat.reduceAdd]
  repeat refine And.intro (by omega) ?_
  refine GoCall.pure h38 (by simp [fzAs, fzA, flat_fz, flatF_fv, fz1, fz0]) ?_
  simp (dsimp := false) (disch := omega) only [flat_ids, flat_reloc, List.append_nil, h27, Ap_end_ret, rules, tys, eq_self, Nat.reduceAdd, Nat.reduceLT, Nat.reduceLeDiff]
  repeat refine And.intro (by omega) ?_
  exact RetOK.form3 rfl rfl hzl rfl rfl

/-- A form without a variable. -/
theorem set_ok {k : Nat} {rs : List Raw} (h : LOk k rs) (v : Nat) : LOk k (rs.set v rz) :=
  ⟨by simp [h.len], fun r hr => by
    rcases List.mem_or_eq_of_mem_set hr with h1 | h1
    · exact h.ok r h1
    · rw [h1]; exact rz_ok⟩

theorem den16 (rs : List Raw) (v : Nat) (hrs : LOk 1000 rs) (hv : v < 8) (h0 : (rs.getD v rz).q ≠ 0) :
    Den Try.prog 16 [] [RL rs, .int .i64 v] [] (.tup [FL ((rs.set v rz).map (fun r => r.q * (-1 / (rs.getD v rz).q))), .int .i64 (sgq (rs.getD v rz).q), .int .i64 0]) := by
  have hlen := hrs.len
  have hfl := flat_length rs
  have hok := hrs.at v
  have hat := flat_at (rs := rs) (i := v) (by omega)
  have hfl27 : (flat rs).length = 27 := by omega
  obtain ⟨X, hX⟩ : ∃ X, List.take (v * 3) (flat rs) ++ [.fv (.lit (.bool false)), .nilsl, .nilsl] ++ List.drop (v * 3 + 3) (flat rs) = X := ⟨_, rfl⟩
  have hXh : hole rs v = X := hX
  have hXl : X.length = 27 := by rw [← hXh]; exact hole_length (by omega) hlen
  have hXt : List.take 27 X = X := List.take_of_length_le (by omega)
  have hXf : ∀ H, fzs H X = some (flatF (rs.set v rz)) := fun H => by rw [← hXh]; exact fzs_hole H v rs (by omega)
  have hXi : X.flatMap ids0 = [] := by rw [← hXh]; exact ids_hole v rs (by omega)
  have h36 := den36 (rs.getD v rz) (hok.mono (by decide))
  obtain ⟨r, hr⟩ : ∃ r, rs.getD v rz = r := ⟨_, rfl⟩
  rw [hr] at hat h36 hok h0
  rw [hr]
  have hb1 : Bd 1 (((-1 : Int)) : Rat) := ⟨by decide, by decide⟩
  have h47 := den47 (-1) (by decide)
  have h40 := den40 (cn ((-1 : Int) : Rat)) r (Raw.Ok.mono (cn_ok hb1) (by decide)) (hok.mono (by decide)) h0
  rw [cn_q] at h40
  change Den Try.prog 40 [] [FR ((-1 : Int) : Rat), r.v] [] _ at h40
  have hrok := set_ok hrs v
  have hbd := hb1.div (hok.bd (by decide)) h0 (by decide)
  have h23 := den23 (rs.set v rz) (cn (((-1 : Int) : Rat) / r.q)) (hrok.mono (by decide)) (Raw.Ok.mono (cn_ok hbd) (by decide))
  rw [cn_q] at h23
  change Den Try.prog 23 [] [RL (rs.set v rz), FR (((-1 : Int) : Rat) / r.q)] [] _ at h23
  have e1 : ((-1 : Int) : Rat) = -1 := rfl
  rw [e1] at h23 h40 h47
  obtain ⟨zs, hz⟩ : ∃ zs, ((rs.set v rz).map (fun x => x.q * (-1 / r.q))).map cn = zs := ⟨_, rfl⟩
  have hzl : zs.length = 9 := by rw [← hz]; simp [hlen]
  have h27 : (flat zs).length = 27 := by rw [flat_length]; omega
  have hsl : (rs.set v rz).length = 9 := hrok.len
  have hsf := flat_length (rs.set v rz)
  unfold FL RL at h23 ⊢
  rw [hz] at h23 ⊢
  rw [FR_eq] at h47 h23
  rw [FR_eq, FR_eq] at h40
  unfold Raw.v at h36 h40
  have h1 : decide ((v : Int) < 0) = false := decide_eq_false (by omega)
  have h2 : decide ((v : Int) ≥ 8) = false := decide_eq_false (by omega)
  have hs0 : (sgq r.q == 0) = false := by rw [beq_eq_false_iff_ne]; exact fun h => h0 (sgq_eq_zero.1 h)
  refine den_of tabOk mixed Try.func16 (cd := _) rfl (by decide) rfl (n := 42) rfl rfl (m := 0) rfl ?_
  simp (dsimp := false) (disch := omega) only [List.replicate, h1, h2, hat, rules, tys, eq_self, ↓reduceIte, Nat.reduceLT]
  repeat refine And.intro (by omega) ?_
  refine GoCall.pure h36 rfl ?_
  simp (dsimp := false) (disch := omega) only [List.append_nil, hs0, flat_take27 hlen, hfl27, hX, rules, tys, eq_self, ↓reduceIte, Nat.reduceAdd, Nat.reduceLT, Nat.reduceLeDiff]
  repeat refine And.intro (by omega) ?_
  refine Draw.intro (by kernel_rfl) ?_
  simp (dsimp := false) (disch := omega) only [rules]
  refine GoCall.pure h47 rfl ?_
  simp (dsimp := false) (disch := omega) only [List.append_nil, hat, rules, tys, eq_self, ↓reduceIte, Nat.reduceAdd, Nat.reduceLT]
  repeat refine And.intro (by omega) ?_
  refine GoCall.pure h40 rfl ?_
  simp (dsimp := false) (disch := omega) only [List.append_nil, hXt, hXl, rules, tys, eq_self, ↓reduceIte, Nat.reduceAdd, Nat.reduceLT, Nat.reduceLeDiff]
  repeat refine And.intro (by omega) ?_
  refine GoCall.pure h23 (by simp [fzAs, fzA, hXf, flatF_fv, fzs, fz0]) ?_
  simp (dsimp := false) (disch := omega) only [flat_reloc, List.append_nil, h27, hXi, Ap_end_ret, rules, tys, eq_self, Nat.reduceAdd, Nat.reduceLT, Nat.reduceLeDiff]
  repeat refine And.intro (by omega) ?_
  exact RetOK.form3 rfl rfl hzl rfl rfl

end Go.Proofs.Yteifpjjnphcdcaa

/- Contracts: awake. -/
namespace Go.Proofs.Yteifpjjnphcdcaa
open Go.AM Go.Pl
set_option maxRecDepth 100000
set_option maxHeartbeats 4000000

/-- The form 3 - 2 x. -/
def aw : List Raw := [cn ((-2 : Int) : Rat), rz, rz, rz, rz, rz, rz, rz, cn ((3 : Int) : Rat)]
theorem aw_ok : LOk 1000 aw := ⟨rfl, fun r hr => by
  have h2 : (cn ((-2 : Int) : Rat)).Ok 1000 := Raw.Ok.mono (cn_ok (k := 1) ⟨by decide, by decide⟩) (by decide)
  have h3 : (cn ((3 : Int) : Rat)).Ok 1000 := Raw.Ok.mono (cn_ok (k := 1) ⟨by decide, by decide⟩) (by decide)
  simp only [aw, List.mem_cons, List.not_mem_nil, or_false] at hr
  rcases hr with h | h | h | h | h | h | h | h | h <;> subst h <;> first | exact h2 | exact h3 | exact rz_ok⟩
theorem aw_lead : leadL aw = cn ((-2 : Int) : Rat) := by
  unfold aw leadL
  rw [cn_q, if_neg (by decide)]
theorem aw_norm : ((nrm aw).map cn).length = 9 ∧ ((nrm aw).map cn).getD 0 rz = cn ((-1 : Int) : Rat) := by
  have h : nrm aw = aw.map (fun r => r.q / absq ((-2 : Int) : Rat)) := by
    rw [nrm_of (by rw [aw_lead, cn_q]; decide), aw_lead, cn_q]
  rw [h]
  have h2 : (((-2 : Int) : Rat)) / absq ((-2 : Int) : Rat) = ((-1 : Int) : Rat) := by decide +kernel
  refine ⟨by simp [aw], ?_⟩
  simp only [aw, List.map_cons, List.getD_cons_zero, cn_q]
  rw [h2]
theorem aw_solve : (((aw.set 0 rz).map (fun r => r.q * (-1 / (aw.getD 0 rz).q))).map cn).length = 9 ∧ (((aw.set 0 rz).map (fun r => r.q * (-1 / (aw.getD 0 rz).q))).map cn).getD 8 rz = cn (((3 : Int) : Rat) / ((2 : Int) : Rat)) := by
  refine ⟨by simp [aw], ?_⟩
  have h2 : (((3 : Int) : Rat)) * (-1 / ((-2 : Int) : Rat)) = ((3 : Int) : Rat) / ((2 : Int) : Rat) := by decide +kernel
  simp only [aw, List.getD_cons_zero, cn_q, List.set_cons_zero, List.map_cons, List.getD_cons_succ]
  rw [h2]

theorem den14 : Den Try.prog 14 [] [] [] (.bool true) := by
  have h2 := den24 (-2) (by decide)
  have h3 := den24 3 (by decide)
  have hm1 := den24 (-1) (by decide)
  have hp2 := den24 2 (by decide)
  have h12 := den12 aw aw_ok
  have h16 := den16 aw 0 aw_ok (by decide) (by show (cn _).q ≠ 0; rw [cn_q]; decide)
  have hsg : sgq (aw.getD 0 rz).q = -1 := by show sgq (cn _).q = -1; rw [cn_q]; decide
  rw [hsg] at h16
  obtain ⟨n1, n2⟩ := aw_norm
  obtain ⟨s1, s2⟩ := aw_solve
  unfold FL RL at h12 h16
  obtain ⟨zs, hz⟩ : ∃ zs, (nrm aw).map cn = zs := ⟨_, rfl⟩
  obtain ⟨ys, hy⟩ : ∃ zs, ((aw.set 0 rz).map (fun r => r.q * (-1 / (aw.getD 0 rz).q))).map cn = zs := ⟨_, rfl⟩
  rw [hz] at h12 n1 n2
  rw [hy] at h16 s1 s2
  have hat0 := flat_at (rs := zs) (i := 0) (by omega)
  have hat8 := flat_at (rs := ys) (i := 8) (by omega)
  rw [n2] at hat0
  rw [s2] at hat8
  simp only [Nat.reduceMul, List.drop_zero] at hat0 hat8
  have z27 : (flat zs).length = 27 := by rw [flat_length]; omega
  have y27 : (flat ys).length = 27 := by rw [flat_length]; omega
  have b1 : Bd 1 ((-1 : Int) : Rat) := ⟨by decide, by decide⟩
  have b2 : Bd 1 ((2 : Int) : Rat) := ⟨by decide, by decide⟩
  have b3 : Bd 1 ((3 : Int) : Rat) := ⟨by decide, by decide⟩
  have hc1 := den29 (cn ((-1 : Int) : Rat)) (cn ((-1 : Int) : Rat)) (Raw.Ok.mono (cn_ok b1) (by decide)) (Raw.Ok.mono (cn_ok b1) (by decide))
  have hmu := den32 (cn (((3 : Int) : Rat) / ((2 : Int) : Rat))) (cn ((2 : Int) : Rat)) (Raw.Ok.mono (cn_ok (b3.div b2 (by decide) (by decide))) (by decide)) (Raw.Ok.mono (cn_ok b2) (by decide))
  have hc2 := den29 (cn ((3 : Int) : Rat)) (cn ((3 : Int) : Rat)) (Raw.Ok.mono (cn_ok b3) (by decide)) (Raw.Ok.mono (cn_ok b3) (by decide))
  rw [cn_q, sgq_eq_zero.2 (by grind)] at hc1 hc2
  rw [cn_q, cn_q, show ((3 : Int) : Rat) / ((2 : Int) : Rat) * ((2 : Int) : Rat) = ((3 : Int) : Rat) by decide +kernel] at hmu
  change Den Try.prog 29 [] [FR _, FR _] [] _ at hc1 hc2
  change Den Try.prog 32 [] [FR _, FR _] [] _ at hmu
  rw [FR_eq] at h2 h3 hm1 hp2
  rw [FR_eq] at hc1 hc2
  rw [FR_eq, FR_eq, FR_eq] at hmu
  unfold aw at h12 h16
  simp only [flat] at h12 h16
  refine den_of tabOk mixed Try.func14 (cd := _) rfl (by decide) rfl (n := 42) rfl rfl (m := 0) rfl ?_
  simp (dsimp := false) (disch := omega) only [List.replicate, rules, tys]
  refine GoCall.pure h2 rfl ?_
  simp (dsimp := false) (disch := omega) only [List.append_nil, rules]
  refine GoCall.pure h3 rfl ?_
  simp (dsimp := false) (disch := omega) only [List.append_nil, Int.reduceToNat, rules, tys, eq_self, ↓reduceIte, Nat.reduceAdd, Nat.reduceMul, Nat.reduceLT, Nat.reduceLeDiff]
  repeat refine And.intro (by omega) ?_
  refine GoCall.pure h12 rfl ?_
  simp (dsimp := false) (disch := omega) only [flat_reloc, List.append_nil, z27, rules, tys, eq_self, ↓reduceIte, Nat.reduceAdd, Nat.reduceLT, Nat.reduceLeDiff]
  repeat refine And.intro (by omega) ?_
  refine GoCall.pure h16 rfl ?_
  have e1 : ((0 : Int) == 0) = true := rfl
  have e2 : ((-1 : Int) == -1) = true := rfl
  simp (dsimp := false) (disch := omega) only [flat_reloc, List.append_nil, y27, rules, tys, eq_self, Nat.reduceAdd, Nat.reduceLT, Nat.reduceLeDiff]
  repeat refine And.intro (by omega) ?_
  refine Draw.intro (by kernel_rfl) ?_
  simp (dsimp := false) (disch := omega) only [e1, e2, hat0, Int.reduceToNat, rules, tys, eq_self, ↓reduceIte, Nat.reduceMul, Nat.reduceLT]
  repeat refine And.intro (by omega) ?_
  refine GoCall.pure hm1 rfl ?_
  simp (dsimp := false) (disch := omega) only [List.append_nil, rules, Nat.reduceAdd]
  refine GoCall.pure hc1 rfl ?_
  simp (dsimp := false) (disch := omega) only [List.append_nil, e1, hat8, rules, tys, eq_self, ↓reduceIte, Nat.reduceAdd]
  repeat refine And.intro (by omega) ?_
  refine GoCall.pure hp2 rfl ?_
  simp (dsimp := false) (disch := omega) only [List.append_nil, rules, Nat.reduceAdd]
  refine GoCall.pure hmu rfl ?_
  simp (dsimp := false) (disch := omega) only [List.append_nil, rules, Nat.reduceAdd]
  refine GoCall.pure h3 rfl ?_
  simp (dsimp := false) (disch := omega) only [List.append_nil, rules, Nat.reduceAdd]
  refine GoCall.pure hc2 rfl ?_
  simp (dsimp := false) (disch := omega) only [List.append_nil, e1, Ap_end_ret, rules, tys, eq_self, ↓reduceIte, Nat.reduceAdd]
  refine RetOK.pure rfl ⟨trivial, trivial⟩ rfl

end Go.Proofs.Yteifpjjnphcdcaa
