/- Contracts: the reference's naturals: Trim, Same. -/
import Derived.Test.YteifpjjnphcdcaaN1
import Derived.Test.YteifpjjnphcdcaaP1

namespace Go.Proofs.Yteifpjjnphcdcaa
open Go.AM Go.Pl
set_option maxRecDepth 100000
set_option maxHeartbeats 1000000

theorem den78 (l : List Nat) (hd : Dig l) (hl : l.length < 1000000000000) : Den Try.prog 78 [] [.fv (.sl (u32s l))] [.row true (u32s (limbs (val l)))] (.lsl 0 0 (limbs (val l)).length 1) := by
  refine den_of tabOk mixed Try.func78 (cd := _) rfl (by decide) rfl (n := 21) rfl rfl (m := 0) rfl ?_
  simp (dsimp := false) (disch := omega) only [List.replicate, rules, tys]
  refine WA.loop (α := Nat) (fun n => ⟨.fv (.sl (u32s l)) :: .any :: .nilsl :: .int .i64 n :: List.replicate 18 .any, []⟩) (fun n => n) (fun n => n ≤ l.length ∧ trimL (l.take n) = trimL l) l.length ?_ ?_ ?_
  · refine Weak.keep [] List.nodup_nil rfl ?_ ?_
    · simp [leVs, leV, le1]
    · trivial
  · exact ⟨Nat.le_refl _, by rw [List.take_length]⟩
  rintro n ⟨hn, ht⟩
  have hlt : (l.take n).length = n := by rw [List.length_take]; omega
  simp (dsimp := false) (disch := omega) only [List.replicate, rules, tys, eq_self, ↓reduceIte]
  refine Br.dec ?_ ?_
  · intro h1 h2
    obtain ⟨j, rfl⟩ : ∃ j, n = j + 1 := ⟨n - 1, by omega⟩
    have hj : (((j + 1 : Nat) : Int) - 1).toNat = j := by omega
    simp (dsimp := false) (disch := omega) only [h2, hj, wrap64, rules, tys, eq_self, ↓reduceIte, Nat.reduceLT, Nat.reduceLeDiff]
    refine ⟨by omega, ?_⟩
    have hg : (l.take (j + 1)).getD ((l.take (j + 1)).length - 1) 0 = l.getD j 0 := by
      rw [hlt, Nat.add_sub_cancel]
      simp only [List.getD_eq_getElem?_getD]
      rw [List.getElem?_take_of_lt (by omega)]
    refine Br.beqInt ?_ ?_
    · intro h3 h4
      simp (dsimp := false) (disch := omega) only [h4, wrap64, rules, tys, eq_self, ↓reduceIte]
      refine Ap_loop j (by omega) ?_ ⟨by omega, ?_⟩
      · refine Weak.keep [] List.nodup_nil rfl ?_ ?_
        · simp [leVs, leV, le1]
        · trivial
      · rw [← ht]
        conv => rhs; rw [trimL.eq_def]
        rw [dif_pos (by omega), if_pos (by rw [hg]; omega), hlt, Nat.add_sub_cancel, List.take_take, Nat.min_eq_left (by omega)]
    · intro h3 h4
      have hfin : l.take (j + 1) = limbs (val l) := by
        rw [← trimL_eq l hd, ← ht, trimL.eq_def, dif_pos (by omega), if_neg (by rw [hg]; omega)]
      simp (dsimp := false) (disch := omega) only [h4, Nat.sub_zero, hlt, Ap_end_ret, rules, tys, ↓reduceIte, Nat.reduceBEq, Nat.reduceLT, Nat.reduceLeDiff]
      refine ⟨by omega, by omega, ?_⟩
      rw [← hfin, hlt]
      exact RetOK.own rfl ⟨trivial, trivial⟩ rfl
  · intro h1 h2
    have hn0 : n = 0 := by omega
    have hfin : l.take n = limbs (val l) := by
      rw [← trimL_eq l hd, ← ht, trimL.eq_def, dif_neg (by omega)]
    simp (dsimp := false) (disch := omega) only [h2, Nat.sub_zero, hlt, Ap_end_ret, rules, tys, ↓reduceIte, Nat.reduceBEq, Nat.reduceLT]
    refine ⟨by omega, by omega, ?_⟩
    rw [← hfin, hlt]
    exact RetOK.own rfl ⟨trivial, trivial⟩ rfl

theorem den78f (l : List Nat) (hd : Dig l) (hl : l.length < 1000000000000) : Den Try.prog 78 [] [.fv (.sl (u32s l))] [] (.fv (N (val l))) := by
  refine (den78 l hd hl).freeze ?_
  simp [fzX, fzV, fzC, fz1, fz0, List.idxOf?_nil, u32s_length, N]
  rw [List.take_of_length_le (by simp [u32s_length])]

theorem den65 (a b : List Nat) (hla : a.length < 1000000000000) (hlb : b.length < 1000000000000) : Den Try.prog 65 [] [.fv (.sl (u32s a)), .fv (.sl (u32s b))] [] (.bool (a == b)) := by
  refine den_of tabOk mixed Try.func65 (cd := _) rfl (by decide) rfl (n := 24) rfl rfl (m := 0) rfl ?_
  simp (dsimp := false) (disch := omega) only [List.replicate, rules, tys, eq_self, ↓reduceIte]
  refine Br.bneInt ?_ ?_
  · intro h1 h2
    simp (dsimp := false) (disch := omega) only [h2, Ap_end_ret, rules]
    refine RetOK.pure rfl ⟨trivial, trivial⟩ ?_
    simp (disch := omega) only [St.get, fzX, oneRes, fzV, fzC, fz1, fz0, Option.map_some, List.getD_cons_succ, List.getD_cons_zero]
    have : a ≠ b := by intro h; subst h; exact h1 rfl
    simp [this]
  · intro h1 h2
    simp (dsimp := false) (disch := omega) only [h2, rules]
    refine WA.loop (α := Nat) (fun i => ⟨.fv (.sl (u32s a)) :: .fv (.sl (u32s b)) :: .any :: .any :: .fv (.lit (.bool false)) :: .int .i64 i :: List.replicate 20 .any, []⟩) (fun i => a.length - i) (fun i => i ≤ a.length ∧ a.take i = b.take i) 0 ?_ ?_ ?_
    · refine Weak.keep [] List.nodup_nil rfl ?_ ?_
      · simp [leVs, leV, le1]
      · trivial
    · exact ⟨by omega, by simp⟩
    · rintro i ⟨hi, ht⟩
      simp (dsimp := false) (disch := omega) only [List.replicate, rules, tys, eq_self, ↓reduceIte]
      refine Br.dec ?_ ?_
      · intro h3 h4
        simp (dsimp := false) (disch := omega) only [h4, rules]
        refine Draw.intro (by kernel_rfl) ?_
        simp (dsimp := false) (disch := omega) only [rules, tys, eq_self, ↓reduceIte, Nat.reduceLT, Nat.reduceLeDiff]
        refine ⟨by omega, by omega, ?_⟩
        refine Br.bneInt ?_ ?_
        · intro h5 h6
          simp (dsimp := false) (disch := omega) only [h6, Ap_end_ret, rules]
          refine RetOK.pure rfl ⟨trivial, trivial⟩ ?_
          simp (disch := omega) only [St.get, fzX, oneRes, fzV, fzC, fz1, fz0, Option.map_some, List.getD_cons_succ, List.getD_cons_zero]
          have : a ≠ b := by intro h; subst h; exact h5 rfl
          simp [this]
        · intro h5 h6
          simp (dsimp := false) (disch := omega) only [h6, wrap64, rules, tys, eq_self, ↓reduceIte]
          refine Ap_loop (i + 1) (by omega) ?_ ⟨by omega, ?_⟩
          · refine Weak.keep [] List.nodup_nil rfl ?_ ?_
            · simp [leVs, leV, le1]
            · trivial
          · have hia : i < a.length := by omega
            have hib : i < b.length := by omega
            rw [List.take_succ_eq_append_getElem hia, List.take_succ_eq_append_getElem hib, ht]
            have e1 : a.getD i 0 = a[i] := by simp [hia]
            have e2 : b.getD i 0 = b[i] := by simp [hib]
            rw [← e1, ← e2, show a.getD i 0 = b.getD i 0 by omega]
      · intro h3 h4
        simp (dsimp := false) (disch := omega) only [h4, Ap_end_ret, rules, Nat.reduceBEq]
        refine RetOK.pure rfl ⟨trivial, trivial⟩ ?_
        simp (disch := omega) only [St.get, fzX, oneRes, fzV, fzC, fz1, fz0, Option.map_some, List.getD_cons_succ, List.getD_cons_zero]
        rw [List.take_of_length_le (by omega), List.take_of_length_le (by omega)] at ht
        simp [ht]

theorem den81 (a b : List Nat) (ha : Dig a) (hb : Dig b) (hla : a.length < 100000000000) (hlb : b.length < 100000000000) : Den Try.prog 81 [] [.fv (.sl (u32s a)), .fv (.sl (u32s b))] [] (.int .i64 (cmpN (val a) (val b))) := by
  have hxa : (limbs (val a)).length ≤ a.length := limbs_length_le (val_lt ha)
  have hxb : (limbs (val b)).length ≤ b.length := limbs_length_le (val_lt hb)
  have hda := limbs_dig (val a)
  have hdb := limbs_dig (val b)
  refine den_of tabOk mixed Try.func81 (cd := _) rfl (by decide) rfl (n := 43) rfl rfl (m := 0) rfl ?_
  simp (dsimp := false) (disch := omega) only [List.replicate, rules]
  refine GoCall.pure (den78f a ha (by omega)) rfl ?_
  simp (dsimp := false) (disch := omega) only [rules]
  refine GoCall.pure (den78f b hb (by omega)) rfl ?_
  simp (dsimp := false) (disch := omega) only [N_val, rules, tys, eq_self, ↓reduceIte]
  refine Br.bneInt ?_ ?_
  · intro h1 h2
    simp (dsimp := false) (disch := omega) only [h2, rules, tys, eq_self, ↓reduceIte]
    refine Br.dec ?_ ?_
    · intro h3 h4
      simp (dsimp := false) (disch := omega) only [h4, Ap_end_ret, rules]
      refine RetOK.pure rfl ⟨trivial, trivial⟩ ?_
      simp (disch := omega) only [St.get, fzX, oneRes, fzV, fzC, fz1, fz0, Option.map_some, List.getD_cons_succ, List.getD_cons_zero]
      rw [cmpN_lt (limbs_len_lt (by omega))]
    · intro h3 h4
      simp (dsimp := false) (disch := omega) only [h4, Ap_end_ret, rules]
      refine RetOK.pure rfl ⟨trivial, trivial⟩ ?_
      simp (disch := omega) only [St.get, fzX, oneRes, fzV, fzC, fz1, fz0, Option.map_some, List.getD_cons_succ, List.getD_cons_zero]
      rw [cmpN_gt (limbs_len_lt (by omega))]
  · intro h1 h2
    simp (dsimp := false) (disch := omega) only [h2, wrap64, rules, tys, eq_self, ↓reduceIte]
    generalize hp : limbs (val a) = p at *
    generalize hq : limbs (val b) = q at *
    refine WA.loop (α := Nat) (fun k => ⟨.fv (.sl (u32s p)) :: .fv (.sl (u32s q)) :: .any :: .any :: .int .i64 0 :: .int .i64 ((k : Int) - 1) :: List.replicate 39 .any, []⟩) (fun k => k) (fun k => k ≤ p.length ∧ p.drop k = q.drop k) p.length ?_ ?_ ?_
    · refine Weak.keep [] (by simp) rfl ?_ ?_
      · simp [leVs, leV, le1]
      · trivial
    · exact ⟨Nat.le_refl _, by rw [List.drop_of_length_le (Nat.le_refl _), List.drop_of_length_le (by omega)]⟩
    · rintro k ⟨hk, hkd⟩
      simp (dsimp := false) (disch := omega) only [List.replicate, rules, tys, eq_self, ↓reduceIte]
      refine Br.dec ?_ ?_
      · intro h3 h4
        simp (dsimp := false) (disch := omega) only [h4, rules]
        refine Draw.intro (by kernel_rfl) ?_
        simp (dsimp := false) (disch := omega) only [rules, tys, eq_self, ↓reduceIte, Nat.reduceLT, Nat.reduceLeDiff]
        refine ⟨by omega, by omega, ?_⟩
        obtain ⟨j, rfl⟩ : ∃ j, k = j + 1 := ⟨k - 1, by omega⟩
        have hj : (((j + 1 : Nat) : Int) - 1).toNat = j := by omega
        rw [hj]
        have hpv : val p = val a := by rw [← hp, val_limbs]
        have hqv : val q = val b := by rw [← hq, val_limbs]
        refine Br.dec ?_ ?_
        · intro h5 h6
          simp (dsimp := false) (disch := omega) only [h6, Ap_end_ret, rules]
          refine RetOK.pure rfl ⟨trivial, trivial⟩ ?_
          simp (disch := omega) only [St.get, fzX, oneRes, fzV, fzC, fz1, fz0, Option.map_some, List.getD_cons_succ, List.getD_cons_zero]
          rw [← hpv, ← hqv, cmpN_lt (digit_lt hda (by omega) (by omega) hkd (by omega))]
        · intro h5 h6
          simp (dsimp := false) (disch := omega) only [h6, rules]
          refine Draw.intro (by kernel_rfl) ?_
          simp (dsimp := false) (disch := omega) only [hj, rules, tys, eq_self, ↓reduceIte, Nat.reduceLT, Nat.reduceLeDiff]
          refine ⟨by omega, by omega, ?_⟩
          refine Br.dec ?_ ?_
          · intro h7 h8
            simp (dsimp := false) (disch := omega) only [h8, Ap_end_ret, rules]
            refine RetOK.pure rfl ⟨trivial, trivial⟩ ?_
            simp (disch := omega) only [St.get, fzX, oneRes, fzV, fzC, fz1, fz0, Option.map_some, List.getD_cons_succ, List.getD_cons_zero]
            rw [← hpv, ← hqv, cmpN_gt (digit_lt hdb (by omega) (by omega) hkd.symm (by omega))]
          · intro h7 h8
            simp (dsimp := false) (disch := omega) only [h8, wrap64, rules, tys, eq_self, ↓reduceIte]
            refine Ap_loop j (by omega) ?_ ⟨by omega, ?_⟩
            · refine Weak.keep [] (by simp) rfl ?_ ?_
              · simp [leVs, leV, le1]
              · trivial
            · have hpj : p.drop j = p.getD j 0 :: p.drop (j + 1) := by rw [List.drop_eq_getElem_cons (by omega)]; simp [show j < p.length by omega]
              have hqj : q.drop j = q.getD j 0 :: q.drop (j + 1) := by rw [List.drop_eq_getElem_cons (by omega)]; simp [show j < q.length by omega]
              rw [hpj, hqj, hkd, show p.getD j 0 = q.getD j 0 by omega]
      · intro h3 h4
        simp (dsimp := false) (disch := omega) only [h4, Ap_end_ret, rules, Nat.reduceBEq]
        refine RetOK.pure rfl ⟨trivial, trivial⟩ ?_
        simp (disch := omega) only [St.get, fzX, oneRes, fzV, fzC, fz1, fz0, Option.map_some, List.getD_cons_succ, List.getD_cons_zero]
        have hk0 : k = 0 := by omega
        subst hk0
        simp only [List.drop_zero] at hkd
        subst hkd
        have : val a = val b := by rw [← val_limbs (val a), hp, ← hq, val_limbs]
        rw [this, cmpN_eq]

end Go.Proofs.Yteifpjjnphcdcaa

/- Contracts: the reference's naturals: short. -/
namespace Go.Proofs.Yteifpjjnphcdcaa
open Go.AM Go.Pl
set_option maxRecDepth 100000
set_option maxHeartbeats 1000000

theorem den93 (l : List Nat) (d : Nat) (hl : Dig l) (hll : l.length < 100000000000) (hd : d < 4294967296) (hd0 : 0 < d) :
    Den Try.prog 93 [] [.fv (.sl (u32s l)), .int .u32 d] [] (.tup [.fv (N (val l / d)), .int .u32 ((val l % d : Nat) : Int)]) := by
  refine den_of tabOk mixed Try.func93 (cd := _) rfl (by decide) rfl (n := 42) rfl rfl (m := 0) rfl ?_
  simp (dsimp := false) (disch := omega) only [List.replicate, wrap64, rules, tys, eq_self, ↓reduceIte, Nat.reduceLT]
  refine ⟨by omega, ?_⟩
  refine WA.loop (α := Nat × Nat × List Nat) (fun ⟨k, r, out⟩ => ⟨.fv (.sl (u32s l)) :: .int .u32 d :: .any :: .any :: .nilsl :: .fv (.lit (.int .u32 0)) :: .lsl 0 0 l.length 1 :: .int .u64 r :: .int .i64 ((k : Int) - 1) :: List.replicate 35 .any, [.row true (u32s out)]⟩)
    (fun ⟨k, _, _⟩ => k) (fun ⟨k, r, out⟩ => k ≤ l.length ∧ r < d ∧ out.length = l.length ∧ Dig out ∧ val (out.drop k) * d + r = val (l.drop k)) (l.length, 0, List.replicate l.length 0) ?_ ?_ ?_
  · refine Weak.keep [0] (by simp) rfl ?_ ?_
    · simp [leVs, leV, le1]
    · simp [leH, leO]
  · exact ⟨by omega, hd0, by simp, Dig.zeros, by simp [val]⟩
  · rintro ⟨k, r, out⟩ ⟨hk, hr, ho, hdo, hv⟩
    simp (dsimp := false) (disch := omega) only [List.replicate, rules, tys, eq_self, ↓reduceIte]
    refine Br.dec ?_ ?_
    · intro h1 h2
      obtain ⟨j, rfl⟩ : ∃ j, k = j + 1 := ⟨k - 1, by omega⟩
      have hj : (((j + 1 : Nat) : Int) - 1).toNat = j := by omega
      have hx := hl.getD j
      simp only [B] at hx
      have hld := val_drop_succ (l := l) (j := j) (by omega)
      generalize hxd : l.getD j 0 = x at *
      have hq : (r * 4294967296 + x) / d < 4294967296 := by
        rw [Nat.div_lt_iff_lt_mul (by omega)]
        have : (r + 1) * 4294967296 ≤ d * 4294967296 := Nat.mul_le_mul_right _ hr
        rw [Nat.mul_comm 4294967296 d]
        omega
      have hr2 : (r * 4294967296 + x) % d < d := Nat.mod_lt _ (by omega)
      have hqr := Nat.mod_add_div (r * 4294967296 + x) d
      have e1 : ((r : Int) * 4294967296 + x) / d = (((r * 4294967296 + x) / d : Nat) : Int) := by
        rw [Int.natCast_ediv, Int.natCast_add, Int.natCast_mul]; rfl
      have e2 : ((r : Int) * 4294967296 + x) % d = (((r * 4294967296 + x) % d : Nat) : Int) := by
        rw [Int.natCast_emod, Int.natCast_add, Int.natCast_mul]; rfl
      generalize (r * 4294967296 + x) / d = Q at *
      generalize (r * 4294967296 + x) % d = R at *
      simp (dsimp := false) (disch := omega) only [h2, hj, hxd, or64s, e1, e2, wrap64, wrap32c, wrapU64c, tdivc, tmodc, IntKind.bits, Int.reduceToNat, Nat.min_def, Int.reducePow, rules, tys, eq_self, ↓reduceIte, Nat.reduceLT, Nat.reduceLeDiff]
      refine ⟨by omega, by omega, by omega, by omega, by omega, by omega, ?_⟩
      have hds := val_drop_set (l := out) (j := j) (x := Q) (by omega)
      refine Ap_loop (j, R, out.set j Q) (by dsimp only; omega) ?_ ⟨by omega, hr2, by simp [ho], hdo.set _ hq, ?_⟩
      · refine Weak.keep [0] (by simp) rfl ?_ ?_
        · simp [leVs, leV, le1]
        · simp [leH, leO]
      · rw [hds, hld, ← hv]
        simp only [B]
        grind
    · intro h1 h2
      simp (dsimp := false) (disch := omega) only [h2, rules, Nat.reduceBEq]
      have hk0 : k = 0 := by omega
      subst hk0
      simp only [List.drop_zero] at hv
      have hdm : val out = val l / d ∧ r = val l % d := by
        rw [← hv, Nat.mul_comm, Nat.mul_add_div hd0, Nat.mul_add_mod, Nat.div_eq_of_lt hr, Nat.mod_eq_of_lt hr]
        exact ⟨rfl, rfl⟩
      refine GoCall.pure (den78f out hdo (by omega)) ?_ ?_
      · simp [fzAs, fzA, fz1, fz0, u32s_length, ho]
        rw [List.take_of_length_le (by simp [u32s_length, ho])]
      · simp (dsimp := false) (disch := omega) only [wrap32c, Ap_end_ret, rules, tys]
        refine RetOK.pure rfl ⟨trivial, trivial, trivial⟩ ?_
        rw [← hdm.1, ← hdm.2]
        simp (disch := omega) only [St.get, fzX, oneRes, fzV, fzVs, fzC, fz1, fz0, Option.map_some, List.getD_cons_succ, List.getD_cons_zero]

end Go.Proofs.Yteifpjjnphcdcaa

/- Contracts: the reference's naturals: Add. -/
namespace Go.Proofs.Yteifpjjnphcdcaa
open Go.AM Go.Pl
set_option maxRecDepth 100000
set_option maxHeartbeats 1000000

theorem den56 (p q : List Nat) (hp : Dig p) (hq : Dig q) (hlp : p.length < 100000000000) (hlq : q.length < 100000000000) : Den Try.prog 56 [] [.fv (.sl (u32s p)), .fv (.sl (u32s q))] [] (.fv (N (val p + val q))) := by
  refine den_of tabOk mixed Try.func56 (cd := _) rfl (by decide) rfl (n := 50) rfl rfl (m := 0) rfl ?_
  simp (dsimp := false) (disch := omega) only [List.replicate, wrap64, rules, tys, eq_self, ↓reduceIte, Nat.reduceLT]
  have hmx : ∃ M : Nat, M = max p.length q.length := ⟨_, rfl⟩
  obtain ⟨M, hM⟩ := hmx
  have hmi : (if (q.length : Int) > (p.length : Int) then (q.length : Int) else (p.length : Int)) = (M : Int) := by split <;> omega
  simp (dsimp := false) (disch := omega) only [hmi]
  have hn : ((M : Int) + 1).toNat = M + 1 := by omega
  refine ⟨by omega, ?_⟩
  refine WA.loop (α := Nat × Nat × List Nat) (fun ⟨i, c, out⟩ => ⟨.fv (.sl (u32s p)) :: .fv (.sl (u32s q)) :: .any :: .any :: .nilsl :: .lsl 0 0 (M + 1) 1 :: .int .u64 c :: .int .i64 i :: List.replicate 44 .any, [.row true (u32s out)]⟩)
    (fun ⟨i, _, _⟩ => M + 1 - i)
    (fun ⟨i, c, out⟩ => i ≤ M + 1 ∧ c ≤ 1 ∧ out.length = M + 1 ∧ Dig out ∧ val (out.take i) + c * B ^ i = val (p.take i) + val (q.take i)) (0, 0, List.replicate (M + 1) 0) ?_ ?_ ?_
  · refine Weak.keep [0] (by simp) rfl ?_ ?_
    · simp [leVs, leV, le1, hn]
    · simp [leH, leO, hn]
  · exact ⟨by omega, by omega, by simp, Dig.zeros, by simp [val]⟩
  · rintro ⟨i, c, out⟩ ⟨hi, hc, ho, hd, hv2⟩
    simp (dsimp := false) (disch := omega) only [List.replicate, rules, tys, eq_self, ↓reduceIte]
    refine Br.dec ?_ ?_
    · intro h1 h2
      have hdp := hp.getD i
      have hdq := hq.getD i
      have htp := val_take_succ p i
      have htq := val_take_succ q i
      have hp0 : p.length ≤ i → p.getD i 0 = 0 := fun h => by rw [List.getD_eq_getElem?_getD, List.getElem?_eq_none h]; rfl
      have hq0 : q.length ≤ i → q.getD i 0 = 0 := fun h => by rw [List.getD_eq_getElem?_getD, List.getElem?_eq_none h]; rfl
      simp only [B] at hdp hdq
      generalize hP : p.getD i 0 = x at *
      generalize hQ : q.getD i 0 = y at *
      obtain ⟨s, hs⟩ : ∃ s, s = c + x + y := ⟨_, rfl⟩
      have hst := val_set_take (l := out) (i := i) (by omega) (s % 4294967296)
      have hcs := carry_step (B ^ i) s
      have hstep : val ((out.set i (s % 4294967296)).take (i + 1)) + s / 4294967296 * B ^ (i + 1) = val (p.take (i + 1)) + val (q.take (i + 1)) := by
        rw [Nat.pow_succ, hst, htp, htq, Nat.add_assoc]
        have h7 : B ^ i * (s % 4294967296) + s / 4294967296 * (B ^ i * B) = B ^ i * s := hcs
        rw [h7, hs]
        grind
      have hdig : Dig (out.set i (s % 4294967296)) := hd.set i (Nat.mod_lt _ (by decide))
      simp (dsimp := false) (disch := omega) only [h2, rules, tys, eq_self, ↓reduceIte]
      refine Br.dec ?_ ?_
      · intro h3 h4
        simp (dsimp := false) (disch := omega) only [h4, hP, wrapU64c, rules, tys, eq_self, ↓reduceIte, Nat.reduceLT, Nat.reduceLeDiff]
        refine ⟨by omega, ?_⟩
        refine Br.dec ?_ ?_
        · intro h5 h6
          have hw : IntKind.u32.wrap ((c : Int) + x + y) = ((s % 4294967296 : Nat) : Int) := by rw [wrap32]; omega
          have hdv : ((c : Int) + x + y) / 4294967296 = ((s / 4294967296 : Nat) : Int) := by omega
          simp (dsimp := false) (disch := omega) only [h6, hQ, hw, hdv, wrap64, wrapU64c, fdivc, IntKind.bits, Int.reduceToNat, Nat.min_def, Int.reducePow, rules, tys, eq_self, ↓reduceIte, Nat.reduceLT, Nat.reduceLeDiff]
          refine ⟨by omega, by omega, by omega, by omega, ?_⟩
          refine Ap_loop (i + 1, s / 4294967296, out.set i (s % 4294967296)) (by dsimp only; omega) ?_ ⟨by omega, by omega, by simp [ho], hdig, hstep⟩
          refine Weak.keep [0] (by simp) rfl ?_ ?_
          · simp [leVs, leV, le1]
          · simp [leH, leO]
        · intro h5 h6
          have := hq0 (by omega)
          have hw : IntKind.u32.wrap ((c : Int) + x) = ((s % 4294967296 : Nat) : Int) := by rw [wrap32]; omega
          have hdv : ((c : Int) + x) / 4294967296 = ((s / 4294967296 : Nat) : Int) := by omega
          simp (dsimp := false) (disch := omega) only [h6, hw, hdv, wrap64, fdivc, IntKind.bits, Int.reduceToNat, Nat.min_def, Int.reducePow, rules, tys, eq_self, ↓reduceIte, Nat.reduceLT, Nat.reduceLeDiff]
          refine ⟨by omega, by omega, by omega, ?_⟩
          refine Ap_loop (i + 1, s / 4294967296, out.set i (s % 4294967296)) (by dsimp only; omega) ?_ ⟨by omega, by omega, by simp [ho], hdig, hstep⟩
          refine Weak.keep [0] (by simp) rfl ?_ ?_
          · simp [leVs, leV, le1]
          · simp [leH, leO]
      · intro h3 h4
        have := hp0 (by omega)
        simp (dsimp := false) (disch := omega) only [h4, rules, tys, eq_self, ↓reduceIte]
        refine Br.dec ?_ ?_
        · intro h5 h6
          have hw : IntKind.u32.wrap ((c : Int) + y) = ((s % 4294967296 : Nat) : Int) := by rw [wrap32]; omega
          have hdv : ((c : Int) + y) / 4294967296 = ((s / 4294967296 : Nat) : Int) := by omega
          simp (dsimp := false) (disch := omega) only [h6, hQ, hw, hdv, wrap64, wrapU64c, fdivc, IntKind.bits, Int.reduceToNat, Nat.min_def, Int.reducePow, rules, tys, eq_self, ↓reduceIte, Nat.reduceLT, Nat.reduceLeDiff]
          refine ⟨by omega, by omega, by omega, by omega, ?_⟩
          refine Ap_loop (i + 1, s / 4294967296, out.set i (s % 4294967296)) (by dsimp only; omega) ?_ ⟨by omega, by omega, by simp [ho], hdig, hstep⟩
          refine Weak.keep [0] (by simp) rfl ?_ ?_
          · simp [leVs, leV, le1]
          · simp [leH, leO]
        · intro h5 h6
          have := hq0 (by omega)
          have hw : IntKind.u32.wrap ((c : Int)) = ((s % 4294967296 : Nat) : Int) := by rw [wrap32]; omega
          have hdv : ((c : Int)) / 4294967296 = ((s / 4294967296 : Nat) : Int) := by omega
          simp (dsimp := false) (disch := omega) only [h6, hw, hdv, wrap64, fdivc, IntKind.bits, Int.reduceToNat, Nat.min_def, Int.reducePow, rules, tys, eq_self, ↓reduceIte, Nat.reduceLT, Nat.reduceLeDiff]
          refine ⟨by omega, by omega, by omega, ?_⟩
          refine Ap_loop (i + 1, s / 4294967296, out.set i (s % 4294967296)) (by dsimp only; omega) ?_ ⟨by omega, by omega, by simp [ho], hdig, hstep⟩
          refine Weak.keep [0] (by simp) rfl ?_ ?_
          · simp [leVs, leV, le1]
          · simp [leH, leO]
    · intro h1 h2
      simp (dsimp := false) (disch := omega) only [h2, rules, Nat.reduceBEq]
      have hiM : i = M + 1 := by omega
      have hvf : val out = val p + val q := by
        rw [hiM, val_take_all (by omega), val_take_all (by omega), val_take_all (by omega)] at hv2
        have h5 := Nat.lt_of_lt_of_le (val_lt hp) (Nat.pow_le_pow_right (show 0 < B by decide) (show p.length ≤ M by omega))
        have h6 := Nat.lt_of_lt_of_le (val_lt hq) (Nat.pow_le_pow_right (show 0 < B by decide) (show q.length ≤ M by omega))
        rw [Nat.pow_succ] at hv2
        rcases Nat.eq_zero_or_pos c with h | h
        · subst h; omega
        · exfalso
          have : c = 1 := by omega
          subst this
          simp only [B] at *
          omega
      refine GoCall.pure (den78f out hd (by omega)) ?_ ?_
      · simp [fzAs, fzA, fz1, fz0, u32s_length, ho]
        rw [List.take_of_length_le (by simp [u32s_length, ho])]
      · simp (dsimp := false) (disch := omega) only [Ap_end_ret, rules]
        refine RetOK.pure rfl ⟨trivial, trivial⟩ ?_
        simp (disch := omega) only [St.get, fzX, oneRes, fzV, fzC, fz1, fz0, Option.map_some, List.getD_cons_succ, List.getD_cons_zero]
        rw [hvf]

end Go.Proofs.Yteifpjjnphcdcaa

/- Contracts: the reference's naturals: FromInt. -/
namespace Go.Proofs.Yteifpjjnphcdcaa
open Go.AM Go.Pl
set_option maxRecDepth 100000
set_option maxHeartbeats 1000000

theorem toNat_ofIntS {x : Int} (h : 0 ≤ x ∧ x < 18446744073709551616) : (BitVec.ofInt IntKind.i64.bits x).toNat = x.toNat := by
  show (BitVec.ofInt 64 x).toNat = x.toNat
  rw [BitVec.toNat_ofInt]
  have : ((2 ^ 64 : Nat) : Int) = 18446744073709551616 := by decide
  rw [this]
  omega
theorem andS64 {x : Int} (hx : 0 ≤ x ∧ x < 9223372036854775808) :
    IntKind.i64.wrap ((BitVec.ofInt IntKind.i64.bits x &&& BitVec.ofInt IntKind.i64.bits 4294967295).toNat : Int) = x % 4294967296 := by
  rw [BitVec.toNat_and, toNat_ofIntS (by omega), toNat_ofIntS (by omega)]
  have : (4294967295 : Int).toNat = 2 ^ 32 - 1 := by decide
  rw [this, Nat.and_two_pow_sub_one_eq_mod, wrap64 (by omega)]
  omega

theorem den55 (n : Nat) (hn : n < 9223372036854775808) : Den Try.prog 55 [] [.int .i64 n] [] (.tup [.fv (N n), .int .i64 0]) := by
  have hv : val [n % 4294967296, n / 4294967296] = n := by
    simp only [val, B]; omega
  have hd : Dig [n % 4294967296, n / 4294967296] := by
    intro d hd
    simp at hd
    rcases hd with rfl | rfl <;> (simp only [B]; omega)
  have h78 := den78f [n % 4294967296, n / 4294967296] hd (by simp)
  rw [hv] at h78
  have hneg : decide ((n : Int) < 0) = false := by simp
  refine den_of tabOk mixed Try.func55 (cd := _) rfl (by decide) rfl (n := 13) rfl rfl (m := 0) rfl ?_
  simp (dsimp := false) (disch := omega) only [List.replicate, hneg, andS64, wrap32c, fdivc, IntKind.bits, Int.reduceToNat, Nat.min_def, Int.reducePow, rules, tys, eq_self, ↓reduceIte, Nat.reduceAdd, Nat.reduceMul, Nat.reduceLT, Nat.reduceLeDiff]
  refine ⟨by omega, ?_⟩
  refine GoCall.pure h78 ?_ ?_
  · simp [fzAs, fzA, fz1, fz0, u32s]
  · simp (dsimp := false) (disch := omega) only [Ap_end_ret, rules]
    refine RetOK.pure rfl ⟨trivial, trivial, trivial⟩ ?_
    simp (disch := omega) only [St.get, fzX, oneRes, fzV, fzVs, fzC, fz1, fz0, Option.map_some, List.getD_cons_succ, List.getD_cons_zero]

theorem den55neg (n : Int) (hn : n < 0) : Den Try.prog 55 [] [.int .i64 n] [] (.tup [.fv (.sl []), .int .i64 1]) := by
  have hneg : decide (n < 0) = true := by simp; omega
  refine den_of tabOk mixed Try.func55 (cd := _) rfl (by decide) rfl (n := 13) rfl rfl (m := 0) rfl ?_
  simp (dsimp := false) (disch := omega) only [List.replicate, hneg, Ap_end_ret, rules, tys, eq_self, ↓reduceIte]
  refine RetOK.pure rfl ⟨trivial, trivial, trivial⟩ ?_
  simp (disch := omega) only [St.get, fzX, oneRes, fzV, fzVs, fzC, fz1, fz0, Option.map_some, List.getD_cons_succ, List.getD_cons_zero]

end Go.Proofs.Yteifpjjnphcdcaa

/- Contracts: the reference's naturals: Sub. -/
namespace Go.Proofs.Yteifpjjnphcdcaa
open Go.AM Go.Pl
set_option maxRecDepth 100000
set_option maxHeartbeats 1000000

theorem den63lt (a b : List Nat) (ha : Dig a) (hb : Dig b) (hla : a.length < 100000000000) (hlb : b.length < 100000000000) (hlt : val a < val b) :
    Den Try.prog 63 [] [.fv (.sl (u32s a)), .fv (.sl (u32s b))] [] (.tup [.fv (.sl []), .int .i64 1]) := by
  refine den_of tabOk mixed Try.func63 (cd := _) rfl (by decide) rfl (n := 54) rfl rfl (m := 0) rfl ?_
  simp (dsimp := false) (disch := omega) only [List.replicate, rules]
  refine GoCall.pure (den81 a b ha hb hla hlb) rfl ?_
  simp (dsimp := false) (disch := omega) only [cmpN_lt hlt, rules, tys, eq_self, ↓reduceIte]
  refine Br.dec ?_ ?_
  · intro h1 h2
    simp (dsimp := false) (disch := omega) only [h2, Ap_end_ret, rules]
    refine RetOK.pure rfl ⟨trivial, trivial, trivial⟩ ?_
    simp (disch := omega) only [St.get, fzX, oneRes, fzV, fzVs, fzC, fz1, fz0, Option.map_some, List.getD_cons_succ, List.getD_cons_zero]
  · intro h1 h2
    omega

theorem den63 (a b : List Nat) (ha : Dig a) (hb : Dig b) (hla : a.length < 100000000000) (hlb : b.length < 100000000000) (hle : val b ≤ val a) :
    Den Try.prog 63 [] [.fv (.sl (u32s a)), .fv (.sl (u32s b))] [] (.tup [.fv (N (val a - val b)), .int .i64 0]) := by
  have hxa : (limbs (val a)).length ≤ a.length := limbs_length_le (val_lt ha)
  have hxb : (limbs (val b)).length ≤ (limbs (val a)).length := limbs_len_le hle
  have hp := limbs_dig (val a)
  have hq := limbs_dig (val b)
  have hpv := val_limbs (val a)
  have hqv := val_limbs (val b)
  have hcmp : decide (cmpN (val a) (val b) < 0) = false := by
    unfold cmpN
    rw [if_neg (by omega)]
    split <;> simp
  refine den_of tabOk mixed Try.func63 (cd := _) rfl (by decide) rfl (n := 54) rfl rfl (m := 0) rfl ?_
  simp (dsimp := false) (disch := omega) only [List.replicate, rules]
  refine GoCall.pure (den81 a b ha hb hla hlb) rfl ?_
  simp (dsimp := false) (disch := omega) only [hcmp, rules, tys, eq_self, ↓reduceIte]
  refine GoCall.pure (den78 a ha (by omega)) rfl ?_
  simp (dsimp := false) (disch := omega) only [rules]
  refine GoCall.pure (den78f b hb (by omega)) rfl ?_
  simp (dsimp := false) (disch := omega) only [N_val, rules]
  generalize limbs (val a) = p at *
  generalize limbs (val b) = q at *
  refine WA.loop (α := Nat × Nat × List Nat) (fun ⟨i, c, out⟩ => ⟨.fv (.sl (u32s a)) :: .fv (.sl (u32s q)) :: .any :: .any :: .nilsl :: .any :: .lsl 0 0 p.length 1 :: .int .u64 c :: .int .i64 i :: List.replicate 47 .any, [.row true (u32s out)]⟩)
      (fun ⟨i, _, _⟩ => p.length - i)
      (fun ⟨i, c, out⟩ => i ≤ p.length ∧ c ≤ 1 ∧ out.length = p.length ∧ Dig out ∧ (∀ j, i ≤ j → out.getD j 0 = p.getD j 0) ∧ val (out.take i) + val (q.take i) = val (p.take i) + c * B ^ i) (0, 0, p) ?_ ?_ ?_
  · refine Weak.keep [0] (by simp) rfl ?_ ?_
    · simp [leVs, leV, le1]
    · simp [leH, leO]
  · exact ⟨by omega, by omega, rfl, hp, fun _ _ => rfl, by simp [val]⟩
  · rintro ⟨i, c, out⟩ ⟨hi, hc, ho, hd, hrest, hv2⟩
    simp (dsimp := false) (disch := omega) only [List.replicate, rules, tys, eq_self, ↓reduceIte]
    refine Br.dec ?_ ?_
    · intro h1 h2
      have hdp := hp.getD i
      have hdq := hq.getD i
      have htp := val_take_succ p i
      have htq := val_take_succ q i
      have hO : out.getD i 0 = p.getD i 0 := hrest i (Nat.le_refl _)
      have hq0 : q.length ≤ i → q.getD i 0 = 0 := fun h => by rw [List.getD_eq_getElem?_getD, List.getElem?_eq_none h]; rfl
      simp only [B] at hdp hdq
      generalize p.getD i 0 = x at *
      generalize hQ : q.getD i 0 = y at *
      have fin : ∀ dg c2 : Nat, dg + y + c = x + c2 * 4294967296 → val ((out.set i dg).take (i + 1)) + val (q.take (i + 1)) = val (p.take (i + 1)) + c2 * B ^ (i + 1) := by
        intro dg c2 h
        rw [Nat.pow_succ, val_set_take (by omega), htp, htq]
        simp only [B] at *
        grind
      have rest : ∀ dg : Nat, ∀ j, i + 1 ≤ j → (out.set i dg).getD j 0 = p.getD j 0 := by
        intro dg j hj
        rw [← hrest j (by omega)]
        simp only [List.getD_eq_getElem?_getD]
        rw [List.getElem?_set_ne (by omega)]
      simp (dsimp := false) (disch := omega) only [h2, rules, tys, eq_self, ↓reduceIte]
      refine Br.dec ?_ ?_
      · intro h3 h4
        simp (dsimp := false) (disch := omega) only [h4, hO, hQ, wrapU64c, rules, tys, eq_self, ↓reduceIte, Nat.reduceLT, Nat.reduceLeDiff]
        refine ⟨by omega, by omega, by omega, ?_⟩
        refine Br.dec ?_ ?_
        · intro h5 h6
          obtain ⟨dg, hdg⟩ : ∃ dg, dg + (c + y) = x + 4294967296 := ⟨x + 4294967296 - ((c + y)), by omega⟩
          have hdig : Dig (out.set i dg) := hd.set i (by simp only [B]; omega)
          have hstep := fun (c2 : Nat) (h : dg + y + c = x + c2 * 4294967296) => fin dg c2 h
          have hrest2 := rest dg
          have hw : IntKind.u32.wrap ((x : Int) + 4294967296 - ((c : Int) + y)) = ((dg : Nat) : Int) := by rw [wrap32]; omega
          simp (dsimp := false) (disch := omega) only [h6, hO, hw, wrap64, wrapU64c, rules, tys, eq_self, ↓reduceIte, Nat.reduceLT, Nat.reduceLeDiff]
          refine ⟨by omega, by omega, ?_⟩
          refine Ap_loop (i + 1, 1, out.set i dg) (by dsimp only; omega) ?_ ⟨by omega, by omega, by simp [ho], hdig, hrest2, hstep _ (by omega)⟩
          refine Weak.keep [0] (by simp) rfl ?_ ?_
          · simp [leVs, leV, le1]
          · simp [leH, leO]
        · intro h5 h6
          obtain ⟨dg, hdg⟩ : ∃ dg, dg + (c + y) = x := ⟨x - ((c + y)), by omega⟩
          have hdig : Dig (out.set i dg) := hd.set i (by simp only [B]; omega)
          have hstep := fun (c2 : Nat) (h : dg + y + c = x + c2 * 4294967296) => fin dg c2 h
          have hrest2 := rest dg
          have hw : IntKind.u32.wrap ((x : Int) - ((c : Int) + y)) = ((dg : Nat) : Int) := by rw [wrap32]; omega
          simp (dsimp := false) (disch := omega) only [h6, hO, hw, wrap64, wrapU64c, rules, tys, eq_self, ↓reduceIte, Nat.reduceLT, Nat.reduceLeDiff]
          refine ⟨by omega, by omega, ?_⟩
          refine Ap_loop (i + 1, 0, out.set i dg) (by dsimp only; omega) ?_ ⟨by omega, by omega, by simp [ho], hdig, hrest2, hstep _ (by omega)⟩
          refine Weak.keep [0] (by simp) rfl ?_ ?_
          · simp [leVs, leV, le1]
          · simp [leH, leO]
      · intro h3 h4
        have := hq0 (by omega)
        simp (dsimp := false) (disch := omega) only [h4, hO, wrapU64c, rules, tys, eq_self, ↓reduceIte, Nat.reduceLeDiff]
        refine ⟨by omega, by omega, ?_⟩
        refine Br.dec ?_ ?_
        · intro h5 h6
          obtain ⟨dg, hdg⟩ : ∃ dg, dg + c = x + 4294967296 := ⟨x + 4294967296 - (c), by omega⟩
          have hdig : Dig (out.set i dg) := hd.set i (by simp only [B]; omega)
          have hstep := fun (c2 : Nat) (h : dg + y + c = x + c2 * 4294967296) => fin dg c2 h
          have hrest2 := rest dg
          have hw : IntKind.u32.wrap ((x : Int) + 4294967296 - ((c : Int))) = ((dg : Nat) : Int) := by rw [wrap32]; omega
          simp (dsimp := false) (disch := omega) only [h6, hO, hw, wrap64, wrapU64c, rules, tys, eq_self, ↓reduceIte, Nat.reduceLT, Nat.reduceLeDiff]
          refine ⟨by omega, by omega, ?_⟩
          refine Ap_loop (i + 1, 1, out.set i dg) (by dsimp only; omega) ?_ ⟨by omega, by omega, by simp [ho], hdig, hrest2, hstep _ (by omega)⟩
          refine Weak.keep [0] (by simp) rfl ?_ ?_
          · simp [leVs, leV, le1]
          · simp [leH, leO]
        · intro h5 h6
          obtain ⟨dg, hdg⟩ : ∃ dg, dg + c = x := ⟨x - (c), by omega⟩
          have hdig : Dig (out.set i dg) := hd.set i (by simp only [B]; omega)
          have hstep := fun (c2 : Nat) (h : dg + y + c = x + c2 * 4294967296) => fin dg c2 h
          have hrest2 := rest dg
          have hw : IntKind.u32.wrap ((x : Int) - ((c : Int))) = ((dg : Nat) : Int) := by rw [wrap32]; omega
          simp (dsimp := false) (disch := omega) only [h6, hO, hw, wrap64, wrapU64c, rules, tys, eq_self, ↓reduceIte, Nat.reduceLT, Nat.reduceLeDiff]
          refine ⟨by omega, by omega, ?_⟩
          refine Ap_loop (i + 1, 0, out.set i dg) (by dsimp only; omega) ?_ ⟨by omega, by omega, by simp [ho], hdig, hrest2, hstep _ (by omega)⟩
          refine Weak.keep [0] (by simp) rfl ?_ ?_
          · simp [leVs, leV, le1]
          · simp [leH, leO]
    · intro h1 h2
      simp (dsimp := false) (disch := omega) only [h2, rules, Nat.reduceBEq]
      have hip : i = p.length := by omega
      have hvf : val out = val a - val b := by
        rw [hip, val_take_all (by omega), val_take_all hxb, val_take_all (Nat.le_refl _), hpv, hqv] at hv2
        have h5 := val_lt hd
        rw [ho] at h5
        have h6 : c = 0 := by
          rcases Nat.eq_zero_or_pos c with h | h
          · exact h
          · exfalso
            have : c = 1 := by omega
            subst this
            omega
        subst h6
        omega
      refine GoCall.pure (den78f out hd (by omega)) ?_ ?_
      · simp [fzAs, fzA, fz1, fz0, u32s_length, ho]
        rw [List.take_of_length_le (by simp [u32s_length, ho])]
      · simp (dsimp := false) (disch := omega) only [Ap_end_ret, rules]
        refine RetOK.pure rfl ⟨trivial, trivial, trivial⟩ ?_
        simp (disch := omega) only [St.get, fzX, oneRes, fzV, fzVs, fzC, fz1, fz0, Option.map_some, List.getD_cons_succ, List.getD_cons_zero]
        rw [hvf]

end Go.Proofs.Yteifpjjnphcdcaa

/- Contracts: the reference's naturals: shift. -/
namespace Go.Proofs.Yteifpjjnphcdcaa
open Go.AM Go.Pl
set_option maxRecDepth 100000
set_option maxHeartbeats 1000000

theorem or64k {x y : Nat} (k : Nat) (hx : x % 2 ^ k = 0) (hy : y < 2 ^ k) (hx2 : x < 18446744073709551616) (hy2 : y < 18446744073709551616) :
    IntKind.u64.wrap ((BitVec.ofInt IntKind.u64.bits (x : Int) ||| BitVec.ofInt IntKind.u64.bits (y : Int)).toNat : Int) = ((x + y : Nat) : Int) := by
  rw [wrapT64, BitVec.toNat_or, toNat_ofInt64 (by omega), toNat_ofInt64 (by omega), Int.toNat_natCast, Int.toNat_natCast, or_add k hx hy]

theorem den94 (l : List Nat) (k : Nat) (hl : Dig l) (hll : l.length < 100000000000) (hk : k < 32) :
    Den Try.prog 94 [] [.fv (.sl (u32s l)), .int .i64 k] [.row true (u32s (digs (l.length + 1) (val l * 2 ^ k)))] (.lsl 0 0 (l.length + 1) 1) := by
  have hp2 : 2 ^ k ≤ 2147483648 := Nat.pow_le_pow_right (by decide) (show k ≤ 31 by omega)
  have hp0 : 0 < 2 ^ k := Nat.two_pow_pos k
  have hk64 : (k ≤ 64) = True := by simp; omega
  have hwk : IntKind.u64.wrap (k : Int) = (k : Int) := wrapU64c (by omega)
  refine den_of tabOk mixed Try.func94 (cd := _) rfl (by decide) rfl (n := 41) rfl rfl (m := 0) rfl ?_
  simp (dsimp := false) (disch := omega) only [List.replicate, wrap64, rules, tys, eq_self, ↓reduceIte, Nat.reduceLT]
  refine ⟨by omega, ?_⟩
  have hn : ((l.length : Int) + 1).toNat = l.length + 1 := by omega
  refine WA.loop (α := Nat × Nat × List Nat) (fun ⟨i, c, out⟩ => ⟨.fv (.sl (u32s l)) :: .int .i64 k :: .any :: .any :: .nilsl :: .lsl 0 0 (l.length + 1) 1 :: .int .u64 c :: .int .i64 i :: List.replicate 35 .any, [.row true (u32s out)]⟩)
    (fun ⟨i, _, _⟩ => l.length - i) (fun ⟨i, c, out⟩ => i ≤ l.length ∧ c < 2 ^ k ∧ out.length = l.length + 1 ∧ Dig out ∧ val (out.take i) + c * B ^ i = val (l.take i) * 2 ^ k) (0, 0, List.replicate (l.length + 1) 0) ?_ ?_ ?_
  · refine Weak.keep [0] (by simp) rfl ?_ ?_
    · simp [leVs, leV, le1, hn]
    · simp [leH, leO, hn]
  · exact ⟨by omega, hp0, by simp, Dig.zeros, by simp [val]⟩
  · rintro ⟨i, c, out⟩ ⟨hi, hc, ho, hdo, hv⟩
    simp (dsimp := false) (disch := omega) only [List.replicate, rules, tys, eq_self, ↓reduceIte]
    refine Br.dec ?_ ?_
    · intro h1 h2
      have hx := hl.getD i
      simp only [B] at hx
      have htk := val_take_succ l i
      generalize hxd : l.getD i 0 = x at *
      have hxv : x * 2 ^ k < 9223372036854775808 := by
        have : x * 2 ^ k ≤ 4294967295 * 2147483648 := Nat.mul_le_mul (by omega) hp2
        omega
      have hcast : (x : Int) * 2 ^ k = ((x * 2 ^ k : Nat) : Int) := by rw [Int.natCast_mul, Int.natCast_pow]; rfl
      have hmod : x * 2 ^ k % 2 ^ k = 0 := Nat.mul_mod_left _ _
      have hhi : (x * 2 ^ k + c) / 4294967296 < 2 ^ k := by
        rw [Nat.div_lt_iff_lt_mul (by decide)]
        have : (x + 1) * 2 ^ k ≤ 4294967296 * 2 ^ k := Nat.mul_le_mul_right _ hx
        rw [Nat.mul_comm 4294967296] at this
        rw [Nat.add_mul] at this
        omega
      generalize hvd : x * 2 ^ k = v at *
      have hor := or64k k hmod hc (by omega) (by omega)
      obtain ⟨s, hs⟩ : ∃ s, s = v + c := ⟨_, rfl⟩
      rw [← hs] at hhi hor
      have hws : IntKind.u32.wrap (s : Int) = ((s % 4294967296 : Nat) : Int) := by rw [wrap32]; rfl
      have hds : (s : Int) / 4294967296 = ((s / 4294967296 : Nat) : Int) := by rw [Int.natCast_ediv]; rfl
      have hst := val_set_take (l := out) (i := i) (by omega) (s % 4294967296)
      have hcs := carry_step (B ^ i) s
      simp (dsimp := false) (disch := omega) only [h2, hk64, hwk, hcast, hxd, hor, hws, hds, wrap64, wrapU64c, fdivc, IntKind.bits, Int.reduceToNat, Nat.min_def, Int.reducePow, rules, tys, eq_self, ↓reduceIte, Nat.reduceLT, Nat.reduceLeDiff]
      refine ⟨by omega, by omega, by omega, by omega, by omega, ?_⟩
      refine Ap_loop (i + 1, s / 4294967296, out.set i (s % 4294967296)) (by dsimp only; omega) ?_ ⟨by omega, hhi, by simp [ho], hdo.set _ (Nat.mod_lt _ (by decide)), ?_⟩
      · refine Weak.keep [0] (by simp) rfl ?_ ?_
        · simp [leVs, leV, le1]
        · simp [leH, leO]
      · rw [Nat.pow_succ, hst, htk, Nat.add_assoc]
        have h7 : B ^ i * (s % 4294967296) + s / 4294967296 * (B ^ i * B) = B ^ i * s := hcs
        rw [h7, hs]
        grind
    · intro h1 h2
      have hil : i = l.length := by omega
      have hwc : IntKind.u32.wrap (c : Int) = (c : Int) := wrap32c (by omega)
      simp (dsimp := false) (disch := omega) only [h2, hwc, Ap_end_ret, rules, tys, eq_self, ↓reduceIte, Nat.reduceBEq, Nat.reduceLT, Nat.reduceLeDiff]
      refine ⟨by omega, by omega, ?_⟩
      have hst := val_set_take (l := out) (i := l.length) (by omega) c
      have hlo : (out.set l.length c).length = l.length + 1 := by simp [ho]
      rw [val_take_all (by omega)] at hst
      rw [hil, val_take_all (Nat.le_refl _)] at hv
      have hvo : val (out.set l.length c) = val l * 2 ^ k := by rw [hst, ← hv, Nat.mul_comm]
      rw [← hvo, ← hlo, ← digs_eq (hdo.set _ (by simp only [B]; omega)), hlo]
      exact RetOK.own rfl ⟨trivial, trivial⟩ rfl

end Go.Proofs.Yteifpjjnphcdcaa

/- Contracts: the reference's naturals: Mul. -/
namespace Go.Proofs.Yteifpjjnphcdcaa
open Go.AM Go.Pl
set_option maxRecDepth 100000
set_option maxHeartbeats 1000000

theorem val_set {l : List Nat} {i : Nat} (hi : i < l.length) (x : Nat) : val (l.set i x) + B ^ i * l.getD i 0 = val l + B ^ i * x := by
  have h1 := val_drop (l.set i x) (i + 1) (by simp; omega)
  have h2 := val_drop l (i + 1) (by omega)
  rw [val_set_take hi, List.drop_set_of_lt (by omega)] at h1
  rw [val_take_succ] at h2
  omega

theorem den61 (p q : List Nat) (hp : Dig p) (hq : Dig q) (hlp : p.length < 10000000000) (hlq : q.length < 10000000000) :
    Den Try.prog 61 [] [.fv (.sl (u32s p)), .fv (.sl (u32s q))] [] (.fv (N (val p * val q))) := by
  refine den_of tabOk mixed Try.func61 (cd := _) rfl (by decide) rfl (n := 83) rfl rfl (m := 0) rfl ?_
  simp (dsimp := false) (disch := omega) only [List.replicate, wrap64, rules, tys, eq_self, ↓reduceIte, Nat.reduceLT]
  refine ⟨by omega, ?_⟩
  have hn : ((p.length : Int) + (q.length : Int) + 1).toNat = p.length + q.length + 1 := by omega
  obtain ⟨L, hL⟩ : ∃ L, L = p.length + q.length + 1 := ⟨_, rfl⟩
  refine WA.loop (α := Nat × List Nat) (fun ⟨i, out⟩ => ⟨.fv (.sl (u32s p)) :: .fv (.sl (u32s q)) :: .any :: .any :: .nilsl :: .lsl 0 0 L 1 :: .int .i64 i :: List.replicate 78 .any, [.row true (u32s out)]⟩)
      (fun ⟨i, _⟩ => p.length - i)
      (fun ⟨i, out⟩ => i ≤ p.length ∧ out.length = L ∧ Dig out ∧ val out = val (p.take i) * val q) (0, List.replicate L 0) ?_ ?_ ?_
  · refine Weak.keep [0] (by simp) rfl ?_ ?_
    · simp [leVs, leV, le1, hn, hL]
    · simp [leH, leO, hn, hL]
  · exact ⟨by omega, by simp, Dig.zeros, by simp [val, val_zeros]⟩
  · rintro ⟨i, out0⟩ ⟨hi, ho0, hd0, hv0⟩
    simp (dsimp := false) (disch := omega) only [List.replicate, rules, tys, eq_self, ↓reduceIte]
    refine Br.dec ?_ ?_
    · intro h1 h2
      simp (dsimp := false) (disch := omega) only [h2, rules]
      have hx := hp.getD i
      have htp := val_take_succ p i
      simp only [B] at hx
      generalize hxd : p.getD i 0 = x at *
      refine WA.loop (α := Nat × Nat × List Nat) (fun ⟨k, c, out⟩ => ⟨.fv (.sl (u32s p)) :: .fv (.sl (u32s q)) :: .any :: .any :: .nilsl :: .lsl 0 0 L 1 :: .int .i64 i :: .int .u64 c :: .int .i64 k :: List.replicate 76 .any, [.row true (u32s out)]⟩)
        (fun ⟨k, _, _⟩ => q.length - k)
        (fun ⟨k, c, out⟩ => k ≤ q.length ∧ c < 4294967296 ∧ out.length = L ∧ Dig out ∧ val out + c * B ^ (i + k) = val out0 + x * val (q.take k) * B ^ i) (0, 0, out0) ?_ ?_ ?_
      · refine Weak.keep [0] (by simp) rfl ?_ ?_
        · simp [leVs, leV, le1]
        · simp [leH, leO]
      · exact ⟨by omega, by omega, ho0, hd0, by simp [val]⟩
      · rintro ⟨k, c, out⟩ ⟨hk, hc, ho, hd, hv⟩
        simp (dsimp := false) (disch := omega) only [List.replicate, rules, tys, eq_self, ↓reduceIte]
        refine Br.dec ?_ ?_
        · intro h3 h4
          simp (dsimp := false) (disch := omega) only [h4, rules]
          refine Draw.intro (by kernel_rfl) ?_
          have hy := hq.getD k
          have hqk := val_take_succ q k
          simp only [B] at hy
          have hik : ((i : Int) + (k : Int)).toNat = i + k := by omega
          have hoo := hd.getD (i + k)
          simp only [B] at hoo
          have hst := fun z => val_set (l := out) (i := i + k) (by omega) z
          have hcs := carry_step (B ^ (i + k))
          generalize hyd : q.getD k 0 = y at *
          generalize hod : out.getD (i + k) 0 = o at *
          have hxy : x * y ≤ 18446744065119617025 := Nat.le_trans (Nat.mul_le_mul (show x ≤ 4294967295 by omega) (show y ≤ 4294967295 by omega)) (by decide)
          have hcast : (x : Int) * y = ((x * y : Nat) : Int) := by rw [Int.natCast_mul]
          generalize hm : x * y = m at *
          obtain ⟨s, hs⟩ : ∃ s, s = m + o + c := ⟨_, rfl⟩
          have hsc : (m : Int) + o + c = (s : Int) := by omega
          have hws : IntKind.u32.wrap (s : Int) = ((s % 4294967296 : Nat) : Int) := by rw [wrap32]; rfl
          have hds : (s : Int) / 4294967296 = ((s / 4294967296 : Nat) : Int) := by rw [Int.natCast_ediv]; rfl
          simp (dsimp := false) (disch := omega) only [hyd, hxd, hik, hod, hcast, hsc, hws, hds, wrap64, wrapU64c, fdivc, IntKind.bits, Int.reduceToNat, Nat.min_def, Int.reducePow, rules, tys, eq_self, ↓reduceIte, Nat.reduceLT, Nat.reduceLeDiff]
          refine ⟨by omega, by omega, by omega, by omega, by omega, by omega, by omega, ?_⟩
          have hstep : val (out.set (i + k) (s % 4294967296)) + s / 4294967296 * B ^ (i + (k + 1)) = val out0 + x * val (q.take (k + 1)) * B ^ i := by
            have h5 := hst (s % 4294967296)
            have h6 : B ^ (i + k) * (s % 4294967296) + s / 4294967296 * (B ^ (i + k) * B) = B ^ (i + k) * s := hcs s
            rw [hqk, ← Nat.add_assoc i k 1, Nat.pow_succ]
            have h7 : B ^ (i + k) * s = B ^ (i + k) * m + B ^ (i + k) * o + c * B ^ (i + k) := by rw [hs]; grind
            have h8 : x * (val (q.take k) + B ^ k * y) * B ^ i = x * val (q.take k) * B ^ i + B ^ (i + k) * m := by rw [Nat.pow_add, ← hm]; grind
            rw [h8]
            omega
          refine Ap_loop (k + 1, s / 4294967296, out.set (i + k) (s % 4294967296)) (by dsimp only; omega) ?_ ⟨by omega, by omega, by simp [ho], hd.set _ (Nat.mod_lt _ (by decide)), hstep⟩
          refine Weak.keep [0] (by simp) rfl ?_ ?_
          · simp [leVs, leV, le1]
          · simp [leH, leO]
        · intro h3 h4
          simp (dsimp := false) (disch := omega) only [h4, wrap64, rules, tys, eq_self, ↓reduceIte, Nat.reduceBEq]
          have hkq : k = q.length := by omega
          have hT : val out + c * B ^ (i + q.length) = val (p.take (i + 1)) * val q := by
            rw [hkq, val_take_all (Nat.le_refl _), hv0] at hv
            rw [hv, htp]; grind
          have hlt : val (p.take (i + 1)) * val q < B ^ (p.length + q.length) := by
            rw [Nat.pow_add]
            have h5 := val_lt (hp.take (i + 1))
            have h6 : B ^ (p.take (i + 1)).length ≤ B ^ p.length := Nat.pow_le_pow_right (by decide) (by rw [List.length_take]; omega)
            exact Nat.mul_lt_mul'' (Nat.lt_of_lt_of_le h5 h6) (val_lt hq)
          generalize hTT : val (p.take (i + 1)) * val q = TT at *
          refine WA.loop (α := Nat × Nat × List Nat) (fun ⟨k, c, out⟩ => ⟨.fv (.sl (u32s p)) :: .fv (.sl (u32s q)) :: .any :: .any :: .nilsl :: .lsl 0 0 L 1 :: .int .i64 i :: .int .u64 c :: .any :: .any :: .int .i64 k :: List.replicate 74 .any, [.row true (u32s out)]⟩)
            (fun ⟨k, _, _⟩ => L - k)
            (fun ⟨k, c, out⟩ => c < 4294967296 ∧ out.length = L ∧ Dig out ∧ val out + c * B ^ k = TT) (i + q.length, c, out) ?_ ?_ ?_
          · refine Weak.keep [0] (by simp) rfl ?_ ?_
            · simp [leVs, leV, le1]
            · simp [leH, leO]
          · exact ⟨hc, ho, hd, hT⟩
          · rintro ⟨j, c1, out1⟩ ⟨hc1, ho1, hd1, hv1⟩
            have hjlt : 0 < c1 → j < p.length + q.length := by
              intro h
              have h5 : 1 * B ^ j ≤ c1 * B ^ j := Nat.mul_le_mul_right _ h
              have h6 : B ^ j < B ^ (p.length + q.length) := by omega
              exact (Nat.pow_lt_pow_iff_right (by decide)).1 h6
            simp (dsimp := false) (disch := omega) only [List.replicate, rules, tys, eq_self, ↓reduceIte]
            refine Br.dec ?_ ?_
            · intro h5 h6
              have hj := hjlt (by omega)
              have hoo := hd1.getD j
              simp only [B] at hoo
              have hst := fun z => val_set (l := out1) (i := j) (by omega) z
              have hcs := carry_step (B ^ j)
              generalize hod : out1.getD j 0 = o at *
              obtain ⟨s, hs⟩ : ∃ s, s = o + c1 := ⟨_, rfl⟩
              have hsc : (o : Int) + c1 = (s : Int) := by omega
              have hws : IntKind.u32.wrap (s : Int) = ((s % 4294967296 : Nat) : Int) := by rw [wrap32]; rfl
              have hds : (s : Int) / 4294967296 = ((s / 4294967296 : Nat) : Int) := by rw [Int.natCast_ediv]; rfl
              simp (dsimp := false) (disch := omega) only [h6, hod, hsc, hws, hds, wrap64, wrapU64c, fdivc, IntKind.bits, Int.reduceToNat, Nat.min_def, Int.reducePow, rules, tys, eq_self, ↓reduceIte, Nat.reduceLT, Nat.reduceLeDiff]
              refine ⟨by omega, by omega, by omega, by omega, by omega, ?_⟩
              have hstep : val (out1.set j (s % 4294967296)) + s / 4294967296 * B ^ (j + 1) = TT := by
                have h7 := hst (s % 4294967296)
                have h8 : B ^ j * (s % 4294967296) + s / 4294967296 * (B ^ j * B) = B ^ j * s := hcs s
                rw [Nat.pow_succ]
                have h9 : B ^ j * s = B ^ j * o + c1 * B ^ j := by rw [hs]; grind
                omega
              refine Ap_loop (j + 1, s / 4294967296, out1.set j (s % 4294967296)) (by dsimp only; omega) ?_ ⟨by omega, by simp [ho1], hd1.set _ (Nat.mod_lt _ (by decide)), hstep⟩
              refine Weak.keep [0] (by simp) rfl ?_ ?_
              · simp [leVs, leV, le1]
              · simp [leH, leO]
            · intro h5 h6
              have hc0 : c1 = 0 := by omega
              subst hc0
              simp (dsimp := false) (disch := omega) only [h6, wrap64, rules, tys, eq_self, ↓reduceIte, Nat.reduceBEq]
              refine Ap_loop (i + 1, out1) (by dsimp only; omega) ?_ ⟨by omega, ho1, hd1, by rw [hTT]; simpa using hv1⟩
              refine Weak.keep [0] (by simp) rfl ?_ ?_
              · simp [leVs, leV, le1]
              · simp [leH, leO]
    · intro h1 h2
      simp (dsimp := false) (disch := omega) only [h2, rules, Nat.reduceBEq]
      have hip : i = p.length := by omega
      refine GoCall.pure (den78f out0 hd0 (by omega)) ?_ ?_
      · simp [fzAs, fzA, fz1, fz0, u32s_length, ho0]
        rw [List.take_of_length_le (by simp [u32s_length, ho0])]
      · simp (dsimp := false) (disch := omega) only [Ap_end_ret, rules]
        refine RetOK.pure rfl ⟨trivial, trivial⟩ ?_
        rw [hip, val_take_all (Nat.le_refl _)] at hv0
        simp (disch := omega) only [hv0, St.get, fzX, oneRes, fzV, fzC, fz1, fz0, Option.map_some, List.getD_cons_succ, List.getD_cons_zero]

end Go.Proofs.Yteifpjjnphcdcaa

/- Contracts: the reference's naturals: unshift. -/
namespace Go.Proofs.Yteifpjjnphcdcaa
open Go.AM Go.Pl
set_option maxRecDepth 100000
set_option maxHeartbeats 1000000

theorem den96 (l : List Nat) (k : Nat) (hl : Dig l) (hll : l.length < 100000000000) (hk : k < 32) :
    Den Try.prog 96 [] [.fv (.sl (u32s l)), .int .i64 k] [] (.fv (N (val l / 2 ^ k))) := by
  have hk64 : (k ≤ 64) = True := by simp; omega
  have hwk : IntKind.u64.wrap (k : Int) = (k : Int) := wrapU64c (by omega)
  refine den_of tabOk mixed Try.func96 (cd := _) rfl (by decide) rfl (n := 44) rfl rfl (m := 0) rfl ?_
  simp (dsimp := false) (disch := omega) only [List.replicate, rules, tys, eq_self, ↓reduceIte, Nat.reduceLT]
  refine ⟨by omega, ?_⟩
  refine WA.loop (α := Nat × List Nat) (fun ⟨i, out⟩ => ⟨.fv (.sl (u32s l)) :: .int .i64 k :: .any :: .any :: .nilsl :: .lsl 0 0 l.length 1 :: .int .i64 i :: List.replicate 39 .any, [.row true (u32s out)]⟩)
    (fun ⟨i, _⟩ => l.length - i) (fun ⟨i, out⟩ => i ≤ l.length ∧ out.length = l.length ∧ Dig out ∧ out.take i = digs i (val l / 2 ^ k)) (0, List.replicate l.length 0) ?_ ?_ ?_
  · refine Weak.keep [0] (by simp) rfl ?_ ?_
    · simp [leVs, leV, le1]
    · simp [leH, leO]
  · exact ⟨by omega, by simp, Dig.zeros, by simp [digs]⟩
  · rintro ⟨i, out⟩ ⟨hi, ho, hdo, hv⟩
    simp (dsimp := false) (disch := omega) only [List.replicate, rules, tys, eq_self, ↓reduceIte]
    refine Br.dec ?_ ?_
    · intro h1 h2
      have hx := hl.getD i
      have hy := hl.getD (i + 1)
      have hud : (l.getD i 0 + l.getD (i + 1) 0 * 4294967296) / 2 ^ k % 4294967296 = val l / 2 ^ k / B ^ i % 4294967296 := by
        rw [unshift_digit (l := l) (i := i) (k := k) (by omega) (by omega), ← val_drop_div hl hi, Nat.div_div_eq_div_mul, Nat.div_div_eq_div_mul, Nat.mul_comm (2 ^ k)]
      have hi1 : ((i : Int) + 1).toNat = i + 1 := by omega
      have hp0 : 0 < 2 ^ k := Nat.two_pow_pos k
      have hy0 : l.length ≤ i + 1 → l.getD (i + 1) 0 = 0 := fun h => by rw [List.getD_eq_getElem?_getD, List.getElem?_eq_none h]; rfl
      simp only [B] at hx hy
      generalize hxd : l.getD i 0 = x at *
      generalize hyd : l.getD (i + 1) 0 = y at *
      obtain ⟨s, hs⟩ : ∃ s, s = x + y * 4294967296 := ⟨_, rfl⟩
      rw [← hs] at hud
      have hsc : (x : Int) + y * 4294967296 = (s : Int) := by omega
      have hpc : ((s : Int)) / 2 ^ k = ((s / 2 ^ k : Nat) : Int) := by rw [Int.natCast_ediv, Int.natCast_pow]; rfl
      have hws : IntKind.u32.wrap ((s / 2 ^ k : Nat) : Int) = ((s / 2 ^ k % 4294967296 : Nat) : Int) := by rw [wrap32]; rfl
      have hpp : (0 : Int) ≤ 2 ^ k := by
        have : (2 : Int) ^ k = ((2 ^ k : Nat) : Int) := by rw [Int.natCast_pow]; rfl
        omega
      generalize hdg : s / 2 ^ k % 4294967296 = dg at *
      have hdgb : dg < 4294967296 := by rw [← hdg]; exact Nat.mod_lt _ (by decide)
      have hstep : (out.set i dg).take (i + 1) = digs (i + 1) (val l / 2 ^ k) := by
        rw [digs_succ, ← hv, List.take_succ_eq_append_getElem (by simp; omega), List.take_set_of_le (Nat.le_refl i)]
        simp only [List.getElem_set_self, B] at *
        rw [hud]
      simp (dsimp := false) (disch := omega) only [h2, hxd, wrap64, wrapU64c, rules, tys, eq_self, ↓reduceIte, Nat.reduceLT, Nat.reduceLeDiff]
      refine ⟨by omega, ?_⟩
      refine Br.dec ?_ ?_
      · intro h3 h4
        simp (dsimp := false) (disch := omega) only [h4, hi1, hyd, or64t, hsc, hk64, hwk, hpc, hws, wrap64, wrapU64c, fdivc, IntKind.bits, Int.reduceToNat, Nat.min_def, Int.reducePow, rules, tys, eq_self, ↓reduceIte, Nat.reduceLT, Nat.reduceLeDiff]
        refine ⟨by omega, by omega, by omega, by omega, by omega, ?_⟩
        refine Ap_loop (i + 1, out.set i dg) (by dsimp only; omega) ?_ ⟨by omega, by simp [ho], hdo.set _ hdgb, hstep⟩
        refine Weak.keep [0] (by simp) rfl ?_ ?_
        · simp [leVs, leV, le1]
        · simp [leH, leO]
      · intro h3 h4
        have hy1 := hy0 (by omega)
        have hsx : (x : Int) = (s : Int) := by omega
        simp (dsimp := false) (disch := omega) only [h4, hsx, hk64, hwk, hpc, hws, wrap64, fdivc, IntKind.bits, Nat.min_def, rules, tys, eq_self, ↓reduceIte, Nat.reduceLT, Nat.reduceLeDiff]
        refine ⟨by omega, by omega, by omega, ?_⟩
        refine Ap_loop (i + 1, out.set i dg) (by dsimp only; omega) ?_ ⟨by omega, by simp [ho], hdo.set _ hdgb, hstep⟩
        refine Weak.keep [0] (by simp) rfl ?_ ?_
        · simp [leVs, leV, le1]
        · simp [leH, leO]
    · intro h1 h2
      simp (dsimp := false) (disch := omega) only [h2, rules, Nat.reduceBEq]
      have hil : i = l.length := by omega
      have hvo : val out = val l / 2 ^ k := by
        rw [hil, List.take_of_length_le (by omega)] at hv
        rw [hv, val_digs]
        exact Nat.lt_of_le_of_lt (Nat.div_le_self _ _) (val_lt hl)
      refine GoCall.pure (den78f out hdo (by omega)) ?_ ?_
      · simp [fzAs, fzA, fz1, fz0, u32s_length, ho]
        rw [List.take_of_length_le (by simp [u32s_length, ho])]
      · simp (dsimp := false) (disch := omega) only [Ap_end_ret, rules]
        refine RetOK.pure rfl ⟨trivial, trivial⟩ ?_
        simp (disch := omega) only [hvo, St.get, fzX, oneRes, fzV, fzC, fz1, fz0, Option.map_some, List.getD_cons_succ, List.getD_cons_zero]

end Go.Proofs.Yteifpjjnphcdcaa
