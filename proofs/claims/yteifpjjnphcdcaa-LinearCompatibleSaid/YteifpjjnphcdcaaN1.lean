/- Contracts: the words of math/bits, slices.Clone, trim. -/
import Derived.Test.YteifpjjnphcdcaaTypes
import Derived.Test.YteifpjjnphcdcaaP1
import Derived.Lib.Tables

namespace Go.Proofs.Yteifpjjnphcdcaa
open Go.AM Go.Pl
set_option maxRecDepth 100000
set_option maxHeartbeats 1000000

theorem den87 (l : List Nat) (hd : Dig l) (hl : l.length < 1000000000000) : Den Try.prog 87 [] [.fv (.sl (u32s l))] [] (.fv (N (val l))) := by
  refine den_of tabOk mixed Try.func87 (cd := _) rfl (by decide) rfl (n := 20) rfl rfl (m := 0) rfl ?_
  simp (dsimp := false) (disch := omega) only [List.replicate, rules]
  refine WA.loop (α := List Nat) (fun l => ⟨.fv (.sl (u32s l)) :: .any :: .nilsl :: List.replicate 18 .any, []⟩) List.length (fun k => k.length < 1000000000000 ∧ trimL k = trimL l) l ?_ ?_ ?_
  · refine Weak.keep [] List.nodup_nil rfl ?_ ?_
    · simp [leVs, leV, le1]
    · trivial
  · exact ⟨hl, rfl⟩
  rintro k ⟨hk, hkl⟩
  simp (dsimp := false) (disch := omega) only [rules, tys, eq_self, ↓reduceIte]
  refine Br.dec ?_ ?_
  · intro h1 h2
    simp (dsimp := false) (disch := omega) only [h2, wrap64, rules, tys, eq_self, ↓reduceIte, Nat.reduceLT, Nat.reduceLeDiff]
    refine ⟨by omega, ?_⟩
    refine Br.beqInt ?_ ?_
    · intro h3 h4
      simp (dsimp := false) (disch := omega) only [h4, wrap64, rules, tys, eq_self, ↓reduceIte]
      refine ⟨by omega, ?_⟩
      refine Ap_loop (k.take (k.length - 1)) (by simp; omega) ?_ ⟨by simp; omega, ?_⟩
      · refine Weak.keep [] List.nodup_nil rfl ?_ ?_
        · have : ((k.length : Int) - 1).toNat = k.length - 1 := by omega
          simp [leVs, leV, le1, this]
        · trivial
      · rw [← hkl]
        rw [trimL.eq_def k, dif_pos (by omega), if_pos]
        have : ((k.length : Int) - 1).toNat = k.length - 1 := by omega
        rw [this] at h3
        simpa using h3
    · intro h3 h4
      simp (dsimp := false) (disch := omega) only [h4, Ap_end_ret, Ap_end_ret, rules, Nat.reduceBEq]
      refine RetOK.pure rfl ⟨trivial, trivial⟩ ?_
      simp (disch := omega) only [N, St.get, fzX, oneRes, fzV, fzC, fz1, fz0, Option.map_some, List.getD_cons_succ, List.getD_cons_zero]
      rw [← trimL_eq l hd, ← hkl, trimL.eq_def, dif_pos (by omega), if_neg]
      have : ((k.length : Int) - 1).toNat = k.length - 1 := by omega
      rw [this] at h3
      simpa using h3
  · intro h1 h2
    simp (dsimp := false) (disch := omega) only [h2, Ap_end_ret, Ap_end_ret, rules, ↓reduceIte, Nat.reduceBEq]
    refine RetOK.pure rfl ⟨trivial, trivial⟩ ?_
    simp (disch := omega) only [N, St.get, fzX, oneRes, fzV, fzC, fz1, fz0, Option.map_some, List.getD_cons_succ, List.getD_cons_zero]
    rw [← trimL_eq l hd, ← hkl, trimL.eq_def, dif_neg (by omega)]

/-- slices.Clone -/
theorem den97 (xs : List (List FV)) (hs : ∀ y ∈ xs, y.length = 1) (hl : xs.length < 1000000000000) : Den Try.prog 97 [] [.fv (.sl xs)] [] (.fv (.sl xs)) := by
  cases xs with
  | nil =>
    refine Den.empty (pre := []) (post := []) ?_ (fun ad cap => ?_)
    · refine den_of tabOk mixed Try.func97 (cd := _) rfl (by decide) rfl (n := 7) rfl rfl (m := 0) rfl ?_
      simp (dsimp := false) (disch := omega) only [List.replicate, Ap_end_ret, rules, tys, eq_self, ↓reduceIte]
      refine RetOK.pure rfl ⟨trivial, trivial⟩ ?_
      simp (disch := omega) only [St.get, fzX, oneRes, fzV, fzC, fz1, fz0, Option.map_some, List.getD_cons_succ, List.getD_cons_zero]
    · refine den_of tabOk mixed Try.func97 (cd := _) rfl (by decide) rfl (n := 7) rfl rfl (m := 0) rfl ?_
      simp (dsimp := false) (disch := omega) only [List.replicate, Ap_end_ret, Option.isNone_some, rules, tys, eq_self, ↓reduceIte, Nat.reduceMul, Nat.reduceLT, Nat.reduceLeDiff]
      refine RetOK.pure rfl ⟨trivial, trivial⟩ ?_
      simp (disch := omega) only [List.take_zero, List.length_nil, List.drop_zero, Nat.zero_add, Nat.le_refl, ↓reduceIte, List.idxOf?_nil, St.get, fzX, oneRes, fzV, fzC, fz1, fz0, Option.map_some, List.getD_cons_succ, List.getD_cons_zero, List.getElem?_cons_zero, List.getElem?_cons_succ]
  | cons x xs =>
    refine den_of tabOk mixed Try.func97 (cd := _) rfl (by decide) rfl (n := 7) rfl rfl (m := 0) rfl ?_
    simp (dsimp := false) (disch := omega) only [List.replicate, Ap_end_ret, rules, tys, eq_self, ↓reduceIte, Nat.reduceLT, Nat.reduceLeDiff]
    refine ⟨⟨hs, by simp only [List.length_cons] at hl; omega⟩, ?_⟩
    refine RetOK.pure rfl ⟨trivial, trivial⟩ ?_
    simp (disch := omega) only [List.drop_zero, Nat.zero_add, List.idxOf?_nil, St.get, fzX, oneRes, fzV, fzC, fz1, fz0, List.getD_cons_succ, List.getD_cons_zero, List.getElem?_cons_zero, List.getElem?_cons_succ]
    simp

theorem den89 (a b c : Nat) (ha : a < 4294967296) (hb : b < 4294967296) (hc : c ≤ 1) : Den Try.prog 89 [] [.int .u32 a, .int .u32 b, .int .u32 c] [] (.tup [.int .u32 ((a + b + c) % 4294967296 : Nat), .int .u32 ((a + b + c) / 4294967296 : Nat)]) := by
  refine den_of tabOk mixed Try.func89 (cd := _) rfl (by decide) rfl (n := 19) rfl rfl (m := 0) rfl ?_
  simp (dsimp := false) (disch := omega) only [List.replicate, wrap32c, wrapU64c, fdivc, IntKind.bits, Int.reduceToNat, Nat.min_def, Int.reducePow, Ap_end_ret, rules, tys, eq_self, ↓reduceIte, Nat.reduceLeDiff]
  refine ⟨by omega, ?_⟩
  refine RetOK.pure rfl ⟨trivial, trivial, trivial⟩ ?_
  simp (disch := omega) only [St.get, fzX, oneRes, fzV, fzVs, fzC, fz1, fz0, Option.map_some, List.getD_cons_succ, List.getD_cons_zero]
  simp [wrap32]
  
theorem den88 (a b : Nat) (ha : a < 4294967296) (hb : b < 4294967296) : Den Try.prog 88 [] [.int .u32 a, .int .u32 b] [] (.tup [.int .u32 ((a * b) / 4294967296 : Nat), .int .u32 ((a * b) % 4294967296 : Nat)]) := by
  have hm : a * b < 18446744073709551616 := by
    have : a * b ≤ 4294967295 * 4294967295 := Nat.mul_le_mul (by omega) (by omega)
    omega
  have hm2 : (a : Int) * b = ((a * b : Nat) : Int) := by simp
  refine den_of tabOk mixed Try.func88 (cd := _) rfl (by decide) rfl (n := 15) rfl rfl (m := 0) rfl ?_
  simp (dsimp := false) (disch := omega) only [List.replicate, hm2, wrap32c, wrapU64c, fdivc, IntKind.bits, Int.reduceToNat, Nat.min_def, Int.reducePow, Ap_end_ret, rules, tys, eq_self, ↓reduceIte, Nat.reduceLeDiff]
  refine ⟨by omega, ?_⟩
  refine RetOK.pure rfl ⟨trivial, trivial, trivial⟩ ?_
  simp (disch := omega) only [St.get, fzX, oneRes, fzV, fzVs, fzC, fz1, fz0, Option.map_some, List.getD_cons_succ, List.getD_cons_zero]
  simp [wrap32]

end Go.Proofs.Yteifpjjnphcdcaa

/- Contracts: natural.Add. -/
namespace Go.Proofs.Yteifpjjnphcdcaa
open Go.AM Go.Pl
set_option maxRecDepth 100000
set_option maxHeartbeats 1000000

theorem den90 (a b : List Nat) (ha : Dig a) (hb : Dig b) (hla : a.length < 100000000000) (hlb : b.length < 100000000000) : Den Try.prog 90 [] [.fv (.sl (u32s a)), .fv (.sl (u32s b))] [] (.fv (N (val a + val b))) := by
  refine den_of tabOk mixed Try.func90 (cd := _) rfl (by decide) rfl (n := 52) rfl rfl (m := 0) rfl ?_
  refine WA.assoc ?_
  refine WA.cut (α := List Nat × List Nat × List PV) (fun ⟨p, q, z⟩ => ⟨.fv (.sl (u32s p)) :: .fv (.sl (u32s q)) :: .any :: .any :: .nilsl :: .any :: .any :: .any :: .any :: .any :: (z ++ List.replicate 37 .any), []⟩)
    (fun ⟨p, q, z⟩ => Dig p ∧ Dig q ∧ q.length ≤ p.length ∧ p.length < 100000000000 ∧ val p + val q = val a + val b ∧ z.length = 7) ?_ ?_
  · simp (dsimp := false) (disch := omega) only [List.replicate, rules, tys, eq_self, ↓reduceIte]
    refine Br.dec ?_ ?_
    · intro h1 h2
      simp (dsimp := false) (disch := omega) only [h2, rules]
      refine Mid.mk (b, a, [_, _, _, _, _, _, _]) rfl ⟨hb, ha, by dsimp only; omega, hlb, by dsimp only; omega, rfl⟩
    · intro h1 h2
      simp (dsimp := false) (disch := omega) only [h2, rules]
      refine Mid.mk (a, b, [_, _, _, _, _, _, _]) rfl ⟨ha, hb, by dsimp only; omega, hla, rfl, rfl⟩
  · rintro ⟨p, q, z⟩ ⟨hp, hq, hlen, hlp, hv, hz⟩
    obtain ⟨z0, z1, z2, z3, z4, z5, z6, rfl⟩ : ∃ z0 z1 z2 z3 z4 z5 z6, z = [z0, z1, z2, z3, z4, z5, z6] := by
      match z, hz with
      | [z0, z1, z2, z3, z4, z5, z6], _ => exact ⟨_, _, _, _, _, _, _, rfl⟩
    simp (dsimp := false) (disch := omega) only [List.replicate, wrap64, rules, tys, eq_self, ↓reduceIte, Nat.reduceLT]
    refine ⟨by omega, ?_⟩
    have hn : ((p.length : Int) + 1).toNat = p.length + 1 := by omega
    refine WA.loop (α := Nat × Nat × List Nat) (fun ⟨i, c, out⟩ => ⟨.fv (.sl (u32s p)) :: .fv (.sl (u32s q)) :: .any :: .any :: .nilsl :: .lsl 0 0 (p.length + 1) 1 :: .int .u32 c :: (List.replicate 14 .any ++ .fv (.sl (u32s p)) :: .int .i64 p.length :: .int .i64 i :: List.replicate 30 .any), [.row true (u32s out)]⟩)
      (fun ⟨i, _, _⟩ => p.length - i)
      (fun ⟨i, c, out⟩ => i ≤ p.length ∧ c ≤ 1 ∧ out.length = p.length + 1 ∧ Dig out ∧ val (out.take i) + c * B ^ i = val (p.take i) + val (q.take i)) (0, 0, List.replicate (p.length + 1) 0) ?_ ?_ ?_
    · refine Weak.keep [0] (by simp) rfl ?_ ?_
      · simp [leVs, leV, le1, hn]
      · simp [leH, leO, hn]
    · exact ⟨by omega, by omega, by simp, Dig.zeros, by simp [val]⟩
    · rintro ⟨i, c, out⟩ ⟨hi, hc, ho, hd, hv2⟩
      simp (dsimp := false) (disch := omega) only [List.replicate, rules, tys, eq_self, ↓reduceIte]
      refine Br.dec ?_ ?_
      · intro h1 h2
        simp (dsimp := false) (disch := omega) only [h2, rules, tys, eq_self, ↓reduceIte, Nat.reduceLT, Nat.reduceLeDiff]
        refine ⟨by omega, ?_⟩
        have hdp := hp.getD i
        have hdq := hq.getD i
        have hst := val_set_take (l := out) (i := i) (by omega) ((p.getD i 0 + q.getD i 0 + c) % 4294967296)
        have hcs := carry_step (B ^ i) (p.getD i 0 + q.getD i 0 + c)
        have htp := val_take_succ p i
        have htq := val_take_succ q i
        have hstep : val ((out.set i ((p.getD i 0 + q.getD i 0 + c) % 4294967296)).take (i + 1)) + (p.getD i 0 + q.getD i 0 + c) / 4294967296 * B ^ (i + 1) = val (p.take (i + 1)) + val (q.take (i + 1)) := by
          rw [Nat.pow_succ, hst, htp, htq]
          rw [Nat.mul_add, Nat.mul_add] at hcs
          rw [Nat.mul_comm (B ^ i) c] at hcs
          simp only [B] at *
          omega
        have hdig : Dig (out.set i ((p.getD i 0 + q.getD i 0 + c) % 4294967296)) := hd.set i (Nat.mod_lt _ (by decide))
        have hc2 : (p.getD i 0 + q.getD i 0 + c) / 4294967296 ≤ 1 := by simp only [B] at *; omega
        simp only [B] at hdp hdq
        have fin : ∀ x : Int, x = ((q.getD i 0 : Nat) : Int) → fzAs [Ob.row true (u32s out)] ([] ++ [PV.fv (FV.lit (Value.int IntKind.u32 ((p.getD i 0 : Nat) : Int))), PV.int IntKind.u32 x, PV.int IntKind.u32 (c : Int)] ++ []) = some [.int .u32 ((p.getD i 0 : Nat) : Int), .int .u32 ((q.getD i 0 : Nat) : Int), .int .u32 (c : Int)] := by
          intro x hx; subst hx; rfl
        refine Br.dec ?_ ?_
        · intro h3 h4
          simp (dsimp := false) (disch := omega) only [h4, rules, tys, eq_self, ↓reduceIte, Nat.reduceLT, Nat.reduceLeDiff]
          refine ⟨by omega, ?_⟩
          refine GoCall.pure (den89 _ _ _ hdp hdq hc) (fin _ rfl) ?_
          simp (dsimp := false) (disch := omega) only [wrap64, rules, tys, eq_self, ↓reduceIte, Nat.reduceLT, Nat.reduceLeDiff]
          refine ⟨by omega, by omega, ?_⟩
          refine Ap_loop (i + 1, (p.getD i 0 + q.getD i 0 + c) / 4294967296, out.set i ((p.getD i 0 + q.getD i 0 + c) % 4294967296)) (by dsimp only; omega) ?_ ⟨by omega, hc2, by simp [ho], hdig, hstep⟩
          refine Weak.keep [0] (by simp) rfl ?_ ?_
          · simp [leVs, leV, le1]
          · simp [leH, leO]
        · intro h3 h4
          have h0 : (0 : Int) = ((q.getD i 0 : Nat) : Int) := by
            have : q.getD i 0 = 0 := by rw [List.getD_eq_getElem?_getD, List.getElem?_eq_none (by omega)]; rfl
            rw [this]; rfl
          simp (dsimp := false) (disch := omega) only [h4, rules]
          refine GoCall.pure (den89 _ _ _ hdp hdq hc) (fin _ h0) ?_
          simp (dsimp := false) (disch := omega) only [wrap64, rules, tys, eq_self, ↓reduceIte, Nat.reduceLT, Nat.reduceLeDiff]
          refine ⟨by omega, by omega, ?_⟩
          refine Ap_loop (i + 1, (p.getD i 0 + q.getD i 0 + c) / 4294967296, out.set i ((p.getD i 0 + q.getD i 0 + c) % 4294967296)) (by dsimp only; omega) ?_ ⟨by omega, hc2, by simp [ho], hdig, hstep⟩
          refine Weak.keep [0] (by simp) rfl ?_ ?_
          · simp [leVs, leV, le1]
          · simp [leH, leO]
      · intro h1 h2
        simp (dsimp := false) (disch := omega) only [h2, rules, tys, eq_self, ↓reduceIte, Nat.reduceBEq, Nat.reduceLT, Nat.reduceLeDiff]
        have hip : i = p.length := by omega
        subst hip
        refine ⟨by omega, by omega, ?_⟩
        have hvf : val (out.set p.length c) = val a + val b := by
          have h3 := val_set_take (l := out) (i := p.length) (by omega) c
          rw [val_take_all (by simp; omega)] at h3
          rw [val_take_all (Nat.le_refl _), val_take_all hlen] at hv2
          rw [h3, ← hv, ← hv2, Nat.mul_comm]
        have hdf : Dig (out.set p.length c) := hd.set _ (by simp only [B]; omega)
        refine GoCall.pure (den87 (out.set p.length c) hdf (by simp; omega)) ?_ ?_
        · simp [fzAs, fzA, fz1, fz0, u32s_length, ho]
          rw [List.take_of_length_le (by simp [u32s_length, ho])]
        · simp (dsimp := false) (disch := omega) only [Ap_end_ret, rules]
          refine RetOK.pure rfl ⟨trivial, trivial⟩ ?_
          simp (disch := omega) only [St.get, fzX, oneRes, fzV, fzC, fz1, fz0, Option.map_some, List.getD_cons_succ, List.getD_cons_zero]
          rw [hvf]

end Go.Proofs.Yteifpjjnphcdcaa

/- Contracts: natural.Cmp, Trim, fromUint. -/
namespace Go.Proofs.Yteifpjjnphcdcaa
open Go.AM Go.Pl
set_option maxRecDepth 100000
set_option maxHeartbeats 1000000

theorem N_val (n : Nat) : N n = .sl (u32s (limbs n)) := rfl

/-- trim of a number that is trimmed. -/
theorem den87N (n : Nat) (hn : (limbs n).length < 1000000000000) : Den Try.prog 87 [] [.fv (N n)] [] (.fv (N n)) := by
  have := den87 (limbs n) (limbs_dig n) hn
  rwa [val_limbs] at this

theorem den84 (l : List Nat) (hd : Dig l) (hl : l.length < 1000000000000) : Den Try.prog 84 [] [.fv (.sl (u32s l))] [] (.fv (N (val l))) := by
  refine den_of tabOk mixed Try.func84 (cd := _) rfl (by decide) rfl (n := 5) rfl rfl (m := 0) rfl ?_
  simp (dsimp := false) (disch := omega) only [List.replicate, rules]
  refine GoCall.pure (den87 l hd hl) rfl ?_
  simp (dsimp := false) (disch := omega) only [rules]
  have hlv : (limbs (val l)).length ≤ l.length := limbs_length_le (val_lt hd)
  refine GoCall.pure (den97 (u32s (limbs (val l))) (by simp [u32s]) (by simp [u32s]; omega)) rfl ?_
  simp (dsimp := false) (disch := omega) only [Ap_end_ret, rules]
  refine RetOK.pure rfl ⟨trivial, trivial⟩ ?_
  simp (disch := omega) only [N, St.get, fzX, oneRes, fzV, fzC, fz1, fz0, Option.map_some, List.getD_cons_succ, List.getD_cons_zero]

theorem den91 (a b : List Nat) (ha : Dig a) (hb : Dig b) (hla : a.length < 100000000000) (hlb : b.length < 100000000000) : Den Try.prog 91 [] [.fv (.sl (u32s a)), .fv (.sl (u32s b))] [] (.int .i64 (cmpN (val a) (val b))) := by
  have hxa : (limbs (val a)).length ≤ a.length := limbs_length_le (val_lt ha)
  have hxb : (limbs (val b)).length ≤ b.length := limbs_length_le (val_lt hb)
  have hda := limbs_dig (val a)
  have hdb := limbs_dig (val b)
  refine den_of tabOk mixed Try.func91 (cd := _) rfl (by decide) rfl (n := 45) rfl rfl (m := 0) rfl ?_
  simp (dsimp := false) (disch := omega) only [List.replicate, rules]
  refine GoCall.pure (den87 a ha (by omega)) rfl ?_
  simp (dsimp := false) (disch := omega) only [rules]
  refine GoCall.pure (den87 b hb (by omega)) rfl ?_
  simp (dsimp := false) (disch := omega) only [N_val, rules, tys, eq_self, ↓reduceIte]
  refine Br.bneInt ?_ ?_
  · intro h1 h2
    simp (dsimp := false) (disch := omega) only [h2, rules, tys, eq_self, ↓reduceIte]
    refine Br.dec ?_ ?_
    · intro h3 h4
      simp (dsimp := false) (disch := omega) only [h4, Ap_end_ret, rules]
      refine RetOK.pure rfl ⟨trivial, trivial⟩ ?_
      simp (disch := omega) only [St.get, fzX, oneRes, fzV, fzC, fz1, fz0, Option.map_some, List.getD_cons_succ, List.getD_cons_zero]
      rw [cmpN_lt (limbs_len_lt (by omega))]
    · intro h3 h4
      simp (dsimp := false) (disch := omega) only [h4, Ap_end_ret, rules]
      refine RetOK.pure rfl ⟨trivial, trivial⟩ ?_
      simp (disch := omega) only [St.get, fzX, oneRes, fzV, fzC, fz1, fz0, Option.map_some, List.getD_cons_succ, List.getD_cons_zero]
      rw [cmpN_gt (limbs_len_lt (by omega))]
  · intro h1 h2
    simp (dsimp := false) (disch := omega) only [h2, wrap64, rules, tys, eq_self, ↓reduceIte]
    generalize hp : limbs (val a) = p at *
    generalize hq : limbs (val b) = q at *
    refine WA.loop (α := Nat) (fun k => ⟨.fv (.sl (u32s p)) :: .fv (.sl (u32s q)) :: .any :: .any :: .int .i64 0 :: .int .i64 ((k : Int) - 1) :: List.replicate 41 .any, []⟩) (fun k => k) (fun k => k ≤ p.length ∧ p.drop k = q.drop k) p.length ?_ ?_ ?_
    · refine Weak.keep [] (by simp) rfl ?_ ?_
      · simp [leVs, leV, le1]
      · trivial
    · exact ⟨Nat.le_refl _, by rw [List.drop_of_length_le (Nat.le_refl _), List.drop_of_length_le (by omega)]⟩
    · rintro k ⟨hk, hkd⟩
      simp (dsimp := false) (disch := omega) only [List.replicate, rules, tys, eq_self, ↓reduceIte]
      refine Br.dec ?_ ?_
      · intro h3 h4
        simp (dsimp := false) (disch := omega) only [h4, rules]
        refine Draw.intro (by kernel_rfl) ?_
        simp (dsimp := false) (disch := omega) only [rules, tys, eq_self, ↓reduceIte, Nat.reduceLT, Nat.reduceLeDiff]
        refine ⟨by omega, by omega, ?_⟩
        obtain ⟨j, rfl⟩ : ∃ j, k = j + 1 := ⟨k - 1, by omega⟩
        have hj : (((j + 1 : Nat) : Int) - 1).toNat = j := by omega
        rw [hj]
        have hpv : val p = val a := by rw [← hp, val_limbs]
        have hqv : val q = val b := by rw [← hq, val_limbs]
        refine Br.dec ?_ ?_
        · intro h5 h6
          simp (dsimp := false) (disch := omega) only [h6, Ap_end_ret, rules]
          refine RetOK.pure rfl ⟨trivial, trivial⟩ ?_
          simp (disch := omega) only [St.get, fzX, oneRes, fzV, fzC, fz1, fz0, Option.map_some, List.getD_cons_succ, List.getD_cons_zero]
          rw [← hpv, ← hqv, cmpN_lt (digit_lt hda (by omega) (by omega) hkd (by omega))]
        · intro h5 h6
          simp (dsimp := false) (disch := omega) only [h6, rules]
          refine Draw.intro (by kernel_rfl) ?_
          simp (dsimp := false) (disch := omega) only [hj, rules, tys, eq_self, ↓reduceIte, Nat.reduceLT, Nat.reduceLeDiff]
          refine ⟨by omega, by omega, ?_⟩
          refine Br.dec ?_ ?_
          · intro h7 h8
            simp (dsimp := false) (disch := omega) only [h8, Ap_end_ret, rules]
            refine RetOK.pure rfl ⟨trivial, trivial⟩ ?_
            simp (disch := omega) only [St.get, fzX, oneRes, fzV, fzC, fz1, fz0, Option.map_some, List.getD_cons_succ, List.getD_cons_zero]
            rw [← hpv, ← hqv, cmpN_gt (digit_lt hdb (by omega) (by omega) hkd.symm (by omega))]
          · intro h7 h8
            simp (dsimp := false) (disch := omega) only [h8, wrap64, rules, tys, eq_self, ↓reduceIte]
            refine Ap_loop j (by omega) ?_ ⟨by omega, ?_⟩
            · refine Weak.keep [] (by simp) rfl ?_ ?_
              · simp [leVs, leV, le1]
              · trivial
            · have hpj : p.drop j = p.getD j 0 :: p.drop (j + 1) := by rw [List.drop_eq_getElem_cons (by omega)]; simp [show j < p.length by omega]
              have hqj : q.drop j = q.getD j 0 :: q.drop (j + 1) := by rw [List.drop_eq_getElem_cons (by omega)]; simp [show j < q.length by omega]
              rw [hpj, hqj, hkd, show p.getD j 0 = q.getD j 0 by omega]
      · intro h3 h4
        simp (dsimp := false) (disch := omega) only [h4, Ap_end_ret, rules, Nat.reduceBEq]
        refine RetOK.pure rfl ⟨trivial, trivial⟩ ?_
        simp (disch := omega) only [St.get, fzX, oneRes, fzV, fzC, fz1, fz0, Option.map_some, List.getD_cons_succ, List.getD_cons_zero]
        have hk0 : k = 0 := by omega
        subst hk0
        simp only [List.drop_zero] at hkd
        subst hkd
        have : val a = val b := by rw [← val_limbs (val a), hp, ← hq, val_limbs]
        rw [this, cmpN_eq]

theorem den103 (h l d : Nat) (hh : h < 4294967296) (hl : l < 4294967296) (hd : d < 4294967296) (hlt : h < d) :
    Den Try.prog 103 [] [.int .u32 h, .int .u32 l, .int .u32 d] [] (.tup [.int .u32 ((h * 4294967296 + l) / d : Nat), .int .u32 ((h * 4294967296 + l) % d : Nat)]) := by
  have hq : (h * 4294967296 + l) / d < 4294967296 := by
    rw [Nat.div_lt_iff_lt_mul (by omega)]
    have : (h + 1) * 4294967296 ≤ d * 4294967296 := Nat.mul_le_mul_right _ hlt
    rw [Nat.mul_comm 4294967296 d]
    omega
  have hr : (h * 4294967296 + l) % d < d := Nat.mod_lt _ (by omega)
  have e1 : ((h : Int) * 4294967296 + l) / d = (((h * 4294967296 + l) / d : Nat) : Int) := by
    rw [Int.natCast_ediv, Int.natCast_add, Int.natCast_mul]; rfl
  have e2 : ((h : Int) * 4294967296 + l) % d = (((h * 4294967296 + l) % d : Nat) : Int) := by
    rw [Int.natCast_emod, Int.natCast_add, Int.natCast_mul]; rfl
  generalize (h * 4294967296 + l) / d = Q at *
  generalize (h * 4294967296 + l) % d = R at *
  refine den_of tabOk mixed Try.func103 (cd := _) rfl (by decide) rfl (n := 30) rfl rfl (m := 0) rfl ?_
  simp (dsimp := false) (disch := omega) only [List.replicate, rules, tys, eq_self, ↓reduceIte]
  refine Br.bneInt ?_ ?_
  · intro h1 h2
    simp (dsimp := false) (disch := omega) only [h2, rules, tys, eq_self, ↓reduceIte]
    refine Br.dec ?_ ?_
    · intro h3 h4
      omega
    · intro h3 h4
      simp (dsimp := false) (disch := omega) only [h4, or64s, wrapU64c, IntKind.bits, Int.reduceToNat, Nat.min_def, Int.reducePow, rules, tys, eq_self, ↓reduceIte, Nat.reduceLeDiff]
      refine ⟨by omega, ?_⟩
      refine Draw.intro (by kernel_rfl) ?_
      simp (dsimp := false) (disch := omega) only [e1, e2, wrap32c, wrapU64c, tdivc, tmodc, Ap_end_ret, rules, tys, eq_self, ↓reduceIte]
      refine ⟨by omega, by omega, ?_⟩
      refine RetOK.pure rfl ⟨trivial, trivial, trivial⟩ ?_
      simp (disch := omega) only [St.get, fzX, oneRes, fzV, fzVs, fzC, fz1, fz0, Option.map_some, List.getD_cons_succ, List.getD_cons_zero]
  · intro h1 h2
    omega

theorem den102 (a b c : Nat) (ha : a < 4294967296) (hb : b < 4294967296) (hc : c ≤ 1) : Den Try.prog 102 [] [.int .u32 a, .int .u32 b, .int .u32 c] []
    (.tup [.int .u32 ((4294967296 + a - b - c) % 4294967296 : Nat), .int .u32 (if a < b + c then 1 else 0 : Nat)]) := by
  have hw : IntKind.u32.wrap (IntKind.u32.wrap ((a : Int) - b) - c) = ((4294967296 + a - b - c) % 4294967296 : Nat) := by
    rw [wrap32, wrap32]; omega
  have key := borrow32 a b c ha hb hc
  refine den_of tabOk mixed Try.func102 (cd := _) rfl (by decide) rfl (n := 22) rfl rfl (m := 0) rfl ?_
  simp (dsimp := false) (disch := omega) only [List.replicate, hw, fdivc, IntKind.bits, Int.reduceToNat, Nat.min_def, Int.reducePow, Ap_end_ret, rules, tys, eq_self, ↓reduceIte, Nat.reduceLeDiff]
  refine ⟨by omega, ?_⟩
  refine RetOK.pure rfl ⟨trivial, trivial, trivial⟩ ?_
  simp (disch := omega) only [umax32, wrapT32, ofInt_toNat, xorT, ofIntN, St.get, fzX, oneRes, fzV, fzVs, fzC, fz1, fz0, Option.map_some, List.getD_cons_succ, List.getD_cons_zero]
  have hmod : BitVec.ofNat 32 ((4294967296 + a - b - c) % 4294967296) = BitVec.ofNat 32 (4294967296 + a - b - c) := by
    apply BitVec.eq_of_toNat_eq
    simp
  rw [← hmod] at key
  have k2 := congrArg (fun z : Nat => (z : Int)) key
  simp only [Int.natCast_ediv] at k2
  exact congrArg (fun z : Int => some (PV.tup [PV.int .u32 (((4294967296 + a - b - c) % 4294967296 : Nat) : Int), PV.int .u32 z])) k2

end Go.Proofs.Yteifpjjnphcdcaa

/- Contracts: natural.Sub, fromUint. -/
namespace Go.Proofs.Yteifpjjnphcdcaa
open Go.AM Go.Pl
set_option maxRecDepth 100000
set_option maxHeartbeats 1000000

theorem limbs_len_le {x y : Nat} (h : x ≤ y) : (limbs x).length ≤ (limbs y).length :=
  limbs_length_le (Nat.lt_of_le_of_lt h lt_of_limbs_length)

theorem den92lt (a b : List Nat) (ha : Dig a) (hb : Dig b) (hla : a.length < 100000000000) (hlb : b.length < 100000000000) (hlt : val a < val b) :
    Den Try.prog 92 [] [.fv (.sl (u32s a)), .fv (.sl (u32s b))] [] (.tup [.fv (.sl []), .int .i64 1]) := by
  refine den_of tabOk mixed Try.func92 (cd := _) rfl (by decide) rfl (n := 48) rfl rfl (m := 0) rfl ?_
  simp (dsimp := false) (disch := omega) only [List.replicate, rules]
  refine GoCall.pure (den91 a b ha hb hla hlb) rfl ?_
  simp (dsimp := false) (disch := omega) only [cmpN_lt hlt, rules, tys, eq_self, ↓reduceIte]
  refine Br.dec ?_ ?_
  · intro h1 h2
    simp (dsimp := false) (disch := omega) only [h2, Ap_end_ret, rules]
    refine RetOK.pure rfl ⟨trivial, trivial, trivial⟩ ?_
    simp (disch := omega) only [St.get, fzX, oneRes, fzV, fzVs, fzC, fz1, fz0, Option.map_some, List.getD_cons_succ, List.getD_cons_zero]
  · intro h1 h2
    omega

theorem den92 (a b : List Nat) (ha : Dig a) (hb : Dig b) (hla : a.length < 100000000000) (hlb : b.length < 100000000000) (hle : val b ≤ val a) :
    Den Try.prog 92 [] [.fv (.sl (u32s a)), .fv (.sl (u32s b))] [] (.tup [.fv (N (val a - val b)), .int .i64 0]) := by
  have hxa : (limbs (val a)).length ≤ a.length := limbs_length_le (val_lt ha)
  have hxb : (limbs (val b)).length ≤ (limbs (val a)).length := limbs_len_le hle
  have hp := limbs_dig (val a)
  have hq := limbs_dig (val b)
  have hpv := val_limbs (val a)
  have hqv := val_limbs (val b)
  have hcmp : decide (cmpN (val a) (val b) < 0) = false := by
    unfold cmpN
    rw [if_neg (by omega)]
    split <;> simp
  refine den_of tabOk mixed Try.func92 (cd := _) rfl (by decide) rfl (n := 48) rfl rfl (m := 0) rfl ?_
  simp (dsimp := false) (disch := omega) only [List.replicate, rules]
  refine GoCall.pure (den91 a b ha hb hla hlb) rfl ?_
  simp (dsimp := false) (disch := omega) only [hcmp, rules, tys, eq_self, ↓reduceIte]
  refine GoCall.pure (den87 a ha (by omega)) rfl ?_
  simp (dsimp := false) (disch := omega) only [rules]
  refine GoCall.pure (den87 b hb (by omega)) rfl ?_
  simp (dsimp := false) (disch := omega) only [N_val, rules, tys, eq_self, ↓reduceIte, Nat.reduceLT]
  generalize limbs (val a) = p at *
  generalize limbs (val b) = q at *
  refine ⟨by omega, ?_⟩
  refine WA.loop (α := Nat × Nat × List Nat) (fun ⟨i, c, out⟩ => ⟨.fv (.sl (u32s p)) :: .fv (.sl (u32s q)) :: .any :: .any :: .nilsl :: .any :: .lsl 0 0 p.length 1 :: .int .u32 c :: (List.replicate 14 .any ++ .fv (.sl (u32s p)) :: .int .i64 p.length :: .int .i64 i :: List.replicate 25 .any), [.row true (u32s out)]⟩)
      (fun ⟨i, _, _⟩ => p.length - i)
      (fun ⟨i, c, out⟩ => i ≤ p.length ∧ c ≤ 1 ∧ out.length = p.length ∧ Dig out ∧ val (out.take i) + val (q.take i) = val (p.take i) + c * B ^ i) (0, 0, List.replicate p.length 0) ?_ ?_ ?_
  · refine Weak.keep [0] (by simp) rfl ?_ ?_
    · simp [leVs, leV, le1]
    · simp [leH, leO]
  · exact ⟨by omega, by omega, by simp, Dig.zeros, by simp [val]⟩
  · rintro ⟨i, c, out⟩ ⟨hi, hc, ho, hd, hv2⟩
    simp (dsimp := false) (disch := omega) only [List.replicate, rules, tys, eq_self, ↓reduceIte]
    refine Br.dec ?_ ?_
    · intro h1 h2
      simp (dsimp := false) (disch := omega) only [h2, rules, tys, eq_self, ↓reduceIte, Nat.reduceLT, Nat.reduceLeDiff]
      refine ⟨by omega, ?_⟩
      have hdp := hp.getD i
      have hdq := hq.getD i
      simp only [B] at hdp hdq
      have hst := val_set_take (l := out) (i := i) (by omega) ((4294967296 + p.getD i 0 - q.getD i 0 - c) % 4294967296)
      have htp := val_take_succ p i
      have htq := val_take_succ q i
      have hdig : Dig (out.set i ((4294967296 + p.getD i 0 - q.getD i 0 - c) % 4294967296)) := hd.set i (Nat.mod_lt _ (by decide))
      have hc2 : (if p.getD i 0 < q.getD i 0 + c then 1 else 0 : Nat) ≤ 1 := by split <;> omega
      have hdd : (4294967296 + p.getD i 0 - q.getD i 0 - c) % 4294967296 + q.getD i 0 + c = p.getD i 0 + (if p.getD i 0 < q.getD i 0 + c then 1 else 0 : Nat) * 4294967296 := by
        split <;> omega
      generalize hc2d : (if p.getD i 0 < q.getD i 0 + c then 1 else 0 : Nat) = c2 at *
      generalize hdg : (4294967296 + p.getD i 0 - q.getD i 0 - c) % 4294967296 = dg at *
      have hstep : val ((out.set i dg).take (i + 1)) + val (q.take (i + 1)) = val (p.take (i + 1)) + c2 * B ^ (i + 1) := by
        rw [Nat.pow_succ, hst, htp, htq]
        have h3 := congrArg (fun z => B ^ i * z) hdd
        simp only [Nat.mul_add] at h3
        rw [Nat.mul_comm c] at hv2
        rw [← Nat.mul_assoc (B ^ i) c2, Nat.mul_comm (B ^ i) c2, Nat.mul_assoc c2] at h3
        have h4 : B ^ i * B = B ^ i * 4294967296 := rfl
        rw [h4]
        omega
      have fin : ∀ x : Int, x = ((q.getD i 0 : Nat) : Int) → fzAs [Ob.row true (u32s out)] ([] ++ [PV.fv (FV.lit (Value.int IntKind.u32 ((p.getD i 0 : Nat) : Int))), PV.int IntKind.u32 x, PV.int IntKind.u32 (c : Int)] ++ []) = some [.int .u32 ((p.getD i 0 : Nat) : Int), .int .u32 ((q.getD i 0 : Nat) : Int), .int .u32 (c : Int)] := by
        intro x hx; subst hx; rfl
      have hden := den102 _ _ _ hdp hdq hc
      rw [hdg] at hden
      have hden2 : Den Try.prog 102 [] [.int .u32 ((p.getD i 0 : Nat) : Int), .int .u32 ((q.getD i 0 : Nat) : Int), .int .u32 (c : Int)] [] (.tup [.int .u32 (dg : Int), .int .u32 (c2 : Int)]) := by
        rw [hc2d] at hden; exact hden
      refine Br.dec ?_ ?_
      · intro h3 h4
        simp (dsimp := false) (disch := omega) only [h4, rules, tys, eq_self, ↓reduceIte, Nat.reduceLT, Nat.reduceLeDiff]
        refine ⟨by omega, ?_⟩
        refine GoCall.pure hden2 (fin _ rfl) ?_
        simp (dsimp := false) (disch := omega) only [wrap64, rules, tys, eq_self, ↓reduceIte, Nat.reduceLT, Nat.reduceLeDiff]
        refine ⟨by omega, by omega, ?_⟩
        refine Ap_loop (i + 1, c2, out.set i dg) (by dsimp only; omega) ?_ ⟨by omega, hc2, by simp [ho], hdig, hstep⟩
        refine Weak.keep [0] (by simp) rfl ?_ ?_
        · simp [leVs, leV, le1]
        · simp [leH, leO]
      · intro h3 h4
        have h0 : (0 : Int) = ((q.getD i 0 : Nat) : Int) := by
          have : q.getD i 0 = 0 := by rw [List.getD_eq_getElem?_getD, List.getElem?_eq_none (by omega)]; rfl
          rw [this]; rfl
        simp (dsimp := false) (disch := omega) only [h4, rules]
        refine GoCall.pure hden2 (fin _ h0) ?_
        simp (dsimp := false) (disch := omega) only [wrap64, rules, tys, eq_self, ↓reduceIte, Nat.reduceLT, Nat.reduceLeDiff]
        refine ⟨by omega, by omega, ?_⟩
        refine Ap_loop (i + 1, c2, out.set i dg) (by dsimp only; omega) ?_ ⟨by omega, hc2, by simp [ho], hdig, hstep⟩
        refine Weak.keep [0] (by simp) rfl ?_ ?_
        · simp [leVs, leV, le1]
        · simp [leH, leO]
    · intro h1 h2
      simp (dsimp := false) (disch := omega) only [h2, rules, Nat.reduceBEq]
      have hip : i = p.length := by omega
      have hvf : val out = val a - val b := by
        rw [hip, val_take_all (by omega), val_take_all hxb, val_take_all (Nat.le_refl _), hpv, hqv] at hv2
        have h5 := val_lt hd
        rw [ho] at h5
        have h6 : c = 0 := by
          rcases Nat.eq_zero_or_pos c with h | h
          · exact h
          · exfalso
            have : c = 1 := by omega
            subst this
            omega
        subst h6
        omega
      refine GoCall.pure (den87 out hd (by omega)) ?_ ?_
      · simp [fzAs, fzA, fz1, fz0, u32s_length, ho]
        rw [List.take_of_length_le (by simp [u32s_length, ho])]
      · simp (dsimp := false) (disch := omega) only [Ap_end_ret, rules]
        refine RetOK.pure rfl ⟨trivial, trivial, trivial⟩ ?_
        simp (disch := omega) only [St.get, fzX, oneRes, fzV, fzVs, fzC, fz1, fz0, Option.map_some, List.getD_cons_succ, List.getD_cons_zero]
        rw [hvf]

theorem den99 (u : Nat) (hu : u < 18446744073709551616) : Den Try.prog 99 [] [.int .u64 u] [] (.fv (N u)) := by
  have hv : val [u % 4294967296, u / 4294967296] = u := by
    simp only [val, B]; omega
  have hd : Dig [u % 4294967296, u / 4294967296] := by
    intro d hd
    simp at hd
    rcases hd with rfl | rfl <;> (simp only [B]; omega)
  refine den_of tabOk mixed Try.func99 (cd := _) rfl (by decide) rfl (n := 9) rfl rfl (m := 0) rfl ?_
  simp (dsimp := false) (disch := omega) only [List.replicate, wrap32c, fdivc, IntKind.bits, Int.reduceToNat, Nat.min_def, Int.reducePow, rules, tys, eq_self, ↓reduceIte, Nat.reduceAdd, Nat.reduceMul, Nat.reduceLT, Nat.reduceLeDiff]
  refine ⟨by omega, ?_⟩
  have := den87 [u % 4294967296, u / 4294967296] hd (by simp)
  rw [hv] at this
  refine GoCall.pure this ?_ ?_
  · simp [fzAs, fzA, fz1, fz0, u32s, wrap32]
  · simp (dsimp := false) (disch := omega) only [Ap_end_ret, rules]
    refine RetOK.pure rfl ⟨trivial, trivial⟩ ?_
    simp (disch := omega) only [St.get, fzX, oneRes, fzV, fzC, fz1, fz0, Option.map_some, List.getD_cons_succ, List.getD_cons_zero]

end Go.Proofs.Yteifpjjnphcdcaa

/- Contracts: natural.toUint, Mul. -/
namespace Go.Proofs.Yteifpjjnphcdcaa
open Go.AM Go.Pl
set_option maxRecDepth 100000
set_option maxHeartbeats 1000000

theorem den69 (a b : List Nat) (ha : Dig a) (hb : Dig b) (hla : a.length < 10000000000) (hlb : b.length < 10000000000) :
    Den Try.prog 69 [] [.fv (.sl (u32s a)), .fv (.sl (u32s b))] [] (.fv (N (val a * val b))) := by
  have hxa : (limbs (val a)).length ≤ a.length := limbs_length_le (val_lt ha)
  have hxb : (limbs (val b)).length ≤ b.length := limbs_length_le (val_lt hb)
  have hp := limbs_dig (val a)
  have hq := limbs_dig (val b)
  have hpv := val_limbs (val a)
  have hqv := val_limbs (val b)
  refine den_of tabOk mixed Try.func69 (cd := _) rfl (by decide) rfl (n := 82) rfl rfl (m := 0) rfl ?_
  simp (dsimp := false) (disch := omega) only [List.replicate, rules]
  refine GoCall.pure (den87 a ha (by omega)) rfl ?_
  simp (dsimp := false) (disch := omega) only [rules]
  refine GoCall.pure (den87 b hb (by omega)) rfl ?_
  simp (dsimp := false) (disch := omega) only [N_val, wrap64, rules, tys, eq_self, ↓reduceIte, Nat.reduceLT]
  generalize limbs (val a) = p at *
  generalize limbs (val b) = q at *
  refine ⟨by omega, ?_⟩
  have hn : ((p.length : Int) + (q.length : Int)).toNat = p.length + q.length := by omega
  refine WA.loop (α := Nat × List Nat) (fun ⟨i, out⟩ => ⟨.fv (.sl (u32s p)) :: .fv (.sl (u32s q)) :: .any :: .any :: .nilsl :: .lsl 0 0 (p.length + q.length) 1 :: (List.replicate 18 .any ++ .fv (.sl (u32s p)) :: .int .i64 p.length :: .int .i64 i :: List.replicate 57 .any), [.row true (u32s out)]⟩)
      (fun ⟨i, _⟩ => p.length - i)
      (fun ⟨i, out⟩ => i ≤ p.length ∧ out.length = p.length + q.length ∧ Dig out ∧ val (out.take (i + q.length)) = val (p.take i) * val q) (0, List.replicate (p.length + q.length) 0) ?_ ?_ ?_
  · refine Weak.keep [0] (by simp) rfl ?_ ?_
    · simp [leVs, leV, le1, hn]
    · simp [leH, leO, hn]
  · exact ⟨by omega, by simp, Dig.zeros, by simp [val, val_zeros]⟩
  · rintro ⟨i, out0⟩ ⟨hi, ho0, hd0, hv0⟩
    simp (dsimp := false) (disch := omega) only [List.replicate, rules, tys, eq_self, ↓reduceIte]
    refine Br.dec ?_ ?_
    · intro h1 h2
      simp (dsimp := false) (disch := omega) only [h2, rules, tys, eq_self, ↓reduceIte, Nat.reduceLT, Nat.reduceLeDiff]
      refine ⟨by omega, ?_⟩
      have hx := hp.getD i
      simp only [B] at hx
      generalize hxd : p.getD i 0 = x at *
      refine WA.loop (α := Nat × Nat × List Nat) (fun ⟨k, c, out⟩ => ⟨.fv (.sl (u32s p)) :: .fv (.sl (u32s q)) :: .any :: .any :: .nilsl :: .lsl 0 0 (p.length + q.length) 1 :: .int .i64 i :: .int .u32 x :: .int .u32 c :: (List.replicate 15 .any ++ .fv (.sl (u32s p)) :: .int .i64 p.length :: .int .i64 i ::
          .any :: .any :: .any :: .any :: .fv (.sl (u32s q)) :: .int .i64 q.length :: .int .i64 k :: List.replicate 50 .any), [.row true (u32s out)]⟩)
        (fun ⟨k, _, _⟩ => q.length - k)
        (fun ⟨k, c, out⟩ => k ≤ q.length ∧ c < 4294967296 ∧ out.length = p.length + q.length ∧ Dig out ∧ (∀ j, i + k ≤ j → out.getD j 0 = out0.getD j 0) ∧ val (out.take (i + k)) + c * B ^ (i + k) = val (out0.take (i + k)) + x * val (q.take k) * B ^ i) (0, 0, out0) ?_ ?_ ?_
      · refine Weak.keep [0] (by simp) rfl ?_ ?_
        · simp [leVs, leV, le1]
        · simp [leH, leO]
      · exact ⟨by omega, by omega, ho0, hd0, fun _ _ => rfl, by simp [val]⟩
      · rintro ⟨k, c, out⟩ ⟨hk, hc, ho, hd, hrest, hv⟩
        simp (dsimp := false) (disch := omega) only [List.replicate, rules, tys, eq_self, ↓reduceIte]
        refine Br.dec ?_ ?_
        · intro h3 h4
          simp (dsimp := false) (disch := omega) only [h4, rules, tys, eq_self, ↓reduceIte, Nat.reduceLT, Nat.reduceLeDiff]
          refine ⟨by omega, ?_⟩
          have hy := hq.getD k
          simp only [B] at hy
          generalize hyd : q.getD k 0 = y at *
          refine GoCall.pure (den88 x y hx hy) rfl ?_
          simp (dsimp := false) (disch := omega) only [wrap64, rules, tys, eq_self, ↓reduceIte, Nat.reduceLeDiff]
          have hik : ((i : Int) + (k : Int)).toNat = i + k := by omega
          rw [hik]
          refine ⟨by omega, by omega, ?_⟩
          have hoo := hd.getD (i + k)
          simp only [B] at hoo
          have hov : out.getD (i + k) 0 = out0.getD (i + k) 0 := hrest _ (Nat.le_refl _)
          have hxy : x * y ≤ 18446744065119617025 := Nat.le_trans (Nat.mul_le_mul (show x ≤ 4294967295 by omega) (show y ≤ 4294967295 by omega)) (by decide)
          have hmd := mul_digit hxy hoo hc
          have h89a := den89 (x * y % 4294967296) (out.getD (i + k) 0) 0 (Nat.mod_lt _ (by decide)) hoo (by omega)
          have h89b := den89 ((x * y % 4294967296 + out.getD (i + k) 0 + 0) % 4294967296) c 0 (Nat.mod_lt _ (by decide)) hc (by omega)
          generalize hlo1 : (x * y % 4294967296 + out.getD (i + k) 0 + 0) % 4294967296 = lo1 at *
          generalize hc1 : (x * y % 4294967296 + out.getD (i + k) 0 + 0) / 4294967296 = c1 at *
          generalize hlo2 : (lo1 + c + 0) % 4294967296 = lo2 at *
          generalize hc2 : (lo1 + c + 0) / 4294967296 = c2 at *
          generalize hmhi : x * y / 4294967296 = hi1 at *
          refine GoCall.pure h89a rfl ?_
          simp (dsimp := false) (disch := omega) only [wrap32c, rules, tys, eq_self, ↓reduceIte]
          refine GoCall.pure h89b rfl ?_
          simp (dsimp := false) (disch := omega) only [hik, wrap64, wrap32c, rules, tys, eq_self, ↓reduceIte, Nat.reduceLT, Nat.reduceLeDiff]
          refine ⟨by omega, by omega, ?_⟩
          have hst := val_set_take (l := out) (i := i + k) (by omega) lo2
          have hqk := val_take_succ q k
          have h0k := val_take_succ out0 (i + k)
          rw [hyd] at hqk
          have hstep : val ((out.set (i + k) lo2).take (i + (k + 1))) + (hi1 + c1 + c2) * B ^ (i + (k + 1)) = val (out0.take (i + (k + 1))) + x * val (q.take (k + 1)) * B ^ i := by
            rw [← Nat.add_assoc i k 1, hst, h0k, hqk, Nat.pow_succ]
            exact mul_step (Nat.pow_add B i k) hv (by rw [← hov]; exact hmd.1)
          refine Ap_loop (k + 1, hi1 + c1 + c2, out.set (i + k) lo2) (by dsimp only; omega) ?_ ⟨by omega, hmd.2, by simp [ho], hd.set _ (by simp only [B]; omega), fun j hj => ?_, hstep⟩
          · refine Weak.keep [0] (by simp) rfl ?_ ?_
            · simp [leVs, leV, le1]
            · simp [leH, leO]
          · rw [← hrest j (by omega)]
            simp only [List.getD_eq_getElem?_getD]
            rw [List.getElem?_set_ne (by omega)]
        · intro h3 h4
          simp (dsimp := false) (disch := omega) only [h4, wrap64, rules, tys, eq_self, ↓reduceIte, Nat.reduceBEq, Nat.reduceLT, Nat.reduceLeDiff]
          have hkq : k = q.length := by omega
          have hiq : ((i : Int) + (q.length : Int)).toNat = i + q.length := by omega
          rw [hiq]
          refine ⟨by omega, by omega, ?_⟩
          have hst := val_set_take (l := out) (i := i + q.length) (by omega) c
          have hpi := val_take_succ p i
          rw [hxd] at hpi
          have hstep : val ((out.set (i + q.length) c).take (i + 1 + q.length)) = val (p.take (i + 1)) * val q := by
            rw [show i + 1 + q.length = i + q.length + 1 by omega, hst, hpi]
            rw [hkq, val_take_all (Nat.le_refl _), hv0] at hv
            grind
          refine Ap_loop (i + 1, out.set (i + q.length) c) (by dsimp only; omega) ?_ ⟨by omega, by simp [ho], hd.set _ (by simp only [B]; omega), hstep⟩
          refine Weak.keep [0] (by simp) rfl ?_ ?_
          · simp [leVs, leV, le1]
          · simp [leH, leO]
    · intro h1 h2
      simp (dsimp := false) (disch := omega) only [h2, rules, Nat.reduceBEq]
      have hip : i = p.length := by omega
      refine GoCall.pure (den87 out0 hd0 (by omega)) ?_ ?_
      · simp [fzAs, fzA, fz1, fz0, u32s_length, ho0]
        rw [List.take_of_length_le (by simp [u32s_length, ho0])]
      · simp (dsimp := false) (disch := omega) only [Ap_end_ret, rules]
        refine RetOK.pure rfl ⟨trivial, trivial⟩ ?_
        rw [hip, val_take_all (by omega), val_take_all (Nat.le_refl _), hpv, hqv] at hv0
        simp (disch := omega) only [hv0, St.get, fzX, oneRes, fzV, fzC, fz1, fz0, Option.map_some, List.getD_cons_succ, List.getD_cons_zero]

end Go.Proofs.Yteifpjjnphcdcaa

/- Contracts: natural.short, shift. -/
namespace Go.Proofs.Yteifpjjnphcdcaa
open Go.AM Go.Pl
set_option maxRecDepth 100000
set_option maxHeartbeats 1000000

theorem den100 (l : List Nat) (d : Nat) (hl : Dig l) (hll : l.length < 100000000000) (hd : d < 4294967296) (hd0 : 0 < d) :
    Den Try.prog 100 [] [.fv (.sl (u32s l)), .int .u32 d] [] (.tup [.fv (N (val l / d)), .int .u32 ((val l % d : Nat) : Int)]) := by
  refine den_of tabOk mixed Try.func100 (cd := _) rfl (by decide) rfl (n := 33) rfl rfl (m := 0) rfl ?_
  simp (dsimp := false) (disch := omega) only [List.replicate, wrap64, rules, tys, eq_self, ↓reduceIte, Nat.reduceLT]
  refine ⟨by omega, ?_⟩
  refine WA.loop (α := Nat × Nat × List Nat) (fun ⟨k, r, out⟩ => ⟨.fv (.sl (u32s l)) :: .int .u32 d :: .any :: .any :: .nilsl :: .fv (.lit (.int .u32 0)) :: .lsl 0 0 l.length 1 :: .int .u32 r :: .int .i64 ((k : Int) - 1) :: List.replicate 26 .any, [.row true (u32s out)]⟩)
    (fun ⟨k, _, _⟩ => k) (fun ⟨k, r, out⟩ => k ≤ l.length ∧ r < d ∧ out.length = l.length ∧ Dig out ∧ val (out.drop k) * d + r = val (l.drop k)) (l.length, 0, List.replicate l.length 0) ?_ ?_ ?_
  · refine Weak.keep [0] (by simp) rfl ?_ ?_
    · simp [leVs, leV, le1]
    · simp [leH, leO]
  · exact ⟨by omega, hd0, by simp, Dig.zeros, by simp [val]⟩
  · rintro ⟨k, r, out⟩ ⟨hk, hr, ho, hdo, hv⟩
    simp (dsimp := false) (disch := omega) only [List.replicate, rules, tys, eq_self, ↓reduceIte]
    refine Br.dec ?_ ?_
    · intro h1 h2
      simp (dsimp := false) (disch := omega) only [h2, rules, tys, eq_self, ↓reduceIte, Nat.reduceLT, Nat.reduceLeDiff]
      obtain ⟨j, rfl⟩ : ∃ j, k = j + 1 := ⟨k - 1, by omega⟩
      have hj : (((j + 1 : Nat) : Int) - 1).toNat = j := by omega
      rw [hj]
      have hx := hl.getD j
      simp only [B] at hx
      have hld := val_drop_succ (l := l) (j := j) (by omega)
      generalize hxd : l.getD j 0 = x at *
      have h103 := den103 r x d (by omega) hx hd hr
      have hq : (r * 4294967296 + x) / d < 4294967296 := by
        rw [Nat.div_lt_iff_lt_mul (by omega)]
        have : (r + 1) * 4294967296 ≤ d * 4294967296 := Nat.mul_le_mul_right _ hr
        rw [Nat.mul_comm 4294967296 d]
        omega
      have hr2 : (r * 4294967296 + x) % d < d := Nat.mod_lt _ (by omega)
      have hqr := Nat.mod_add_div (r * 4294967296 + x) d
      generalize (r * 4294967296 + x) / d = Q at *
      generalize (r * 4294967296 + x) % d = R at *
      refine ⟨by omega, ?_⟩
      refine GoCall.pure h103 rfl ?_
      simp (dsimp := false) (disch := omega) only [hj, wrap64, rules, tys, eq_self, ↓reduceIte, Nat.reduceLT, Nat.reduceLeDiff]
      refine ⟨by omega, by omega, ?_⟩
      have hds := val_drop_set (l := out) (j := j) (x := Q) (by omega)
      refine Ap_loop (j, R, out.set j Q) (by dsimp only; omega) ?_ ⟨by omega, hr2, by simp [ho], hdo.set _ hq, ?_⟩
      · refine Weak.keep [0] (by simp) rfl ?_ ?_
        · simp [leVs, leV, le1]
        · simp [leH, leO]
      · rw [hds, hld, ← hv]
        simp only [B]
        grind
    · intro h1 h2
      simp (dsimp := false) (disch := omega) only [h2, rules, Nat.reduceBEq]
      have hk0 : k = 0 := by omega
      subst hk0
      simp only [List.drop_zero] at hv
      have hdm : val out = val l / d ∧ r = val l % d := by
        rw [← hv, Nat.mul_comm, Nat.mul_add_div hd0, Nat.mul_add_mod, Nat.div_eq_of_lt hr, Nat.mod_eq_of_lt hr]
        exact ⟨rfl, rfl⟩
      refine GoCall.pure (den87 out hdo (by omega)) ?_ ?_
      · simp [fzAs, fzA, fz1, fz0, u32s_length, ho]
        rw [List.take_of_length_le (by simp [u32s_length, ho])]
      · simp (dsimp := false) (disch := omega) only [Ap_end_ret, rules]
        refine RetOK.pure rfl ⟨trivial, trivial, trivial⟩ ?_
        rw [← hdm.1, ← hdm.2]
        simp (disch := omega) only [St.get, fzX, oneRes, fzV, fzVs, fzC, fz1, fz0, Option.map_some, List.getD_cons_succ, List.getD_cons_zero]

theorem den105 (l : List Nat) (k : Nat) (hl : Dig l) (hll : l.length < 100000000000) (hk : k < 32) :
    Den Try.prog 105 [] [.fv (.sl (u32s l)), .int .u64 k] [.row true (u32s (digs (l.length + 1) (val l * 2 ^ k)))] (.lsl 0 0 (l.length + 1) 1) := by
  have hp2 : 2 ^ k ≤ 2147483648 := Nat.pow_le_pow_right (by decide) (show k ≤ 31 by omega)
  have hp0 : 0 < 2 ^ k := Nat.two_pow_pos k
  have hk64 : (k ≤ 64) = True := by simp; omega
  refine den_of tabOk mixed Try.func105 (cd := _) rfl (by decide) rfl (n := 39) rfl rfl (m := 0) rfl ?_
  simp (dsimp := false) (disch := omega) only [List.replicate, wrap64, rules, tys, eq_self, ↓reduceIte, Nat.reduceLT]
  refine ⟨by omega, ?_⟩
  have hn : ((l.length : Int) + 1).toNat = l.length + 1 := by omega
  refine WA.loop (α := Nat × List Nat) (fun ⟨i, out⟩ => ⟨.fv (.sl (u32s l)) :: .int .u64 k :: .any :: .any :: .nilsl :: .lsl 0 0 (l.length + 1) 1 :: (List.replicate 7 .any ++ .fv (.sl (u32s l)) :: .int .i64 l.length :: .int .i64 i :: List.replicate 25 .any), [.row true (u32s out)]⟩)
    (fun ⟨i, _⟩ => l.length - i) (fun ⟨i, out⟩ => i ≤ l.length ∧ out.length = l.length + 1 ∧ Dig out ∧ val (out.take (i + 1)) = val (l.take i) * 2 ^ k ∧ out.getD i 0 < 2 ^ k) (0, List.replicate (l.length + 1) 0) ?_ ?_ ?_
  · refine Weak.keep [0] (by simp) rfl ?_ ?_
    · simp [leVs, leV, le1, hn]
    · simp [leH, leO, hn]
  · refine ⟨by omega, by simp, Dig.zeros, ?_, ?_⟩
    · simp [val, List.replicate_succ]
    · simp [List.replicate_succ]; omega
  · rintro ⟨i, out⟩ ⟨hi, ho, hdo, hv, hlow⟩
    simp (dsimp := false) (disch := omega) only [List.replicate, rules, tys, eq_self, ↓reduceIte]
    refine Br.dec ?_ ?_
    · intro h1 h2
      have hx := hl.getD i
      simp only [B] at hx
      have htk := val_take_succ l i
      have hto := val_take_succ out i
      generalize hxd : l.getD i 0 = x at *
      generalize hyd : out.getD i 0 = y at *
      have hxv : x * 2 ^ k < 9223372036854775808 := by
        have : x * 2 ^ k ≤ 4294967295 * 2147483648 := Nat.mul_le_mul (by omega) hp2
        omega
      have hcast : (x : Int) * 2 ^ k = ((x * 2 ^ k : Nat) : Int) := by rw [Int.natCast_mul, Int.natCast_pow]; rfl
      have hmod := mul_pow_mod (d := x) (k := k) (by omega)
      generalize hvd : x * 2 ^ k = v at *
      have hwv : IntKind.u32.wrap (v : Int) = ((v % 4294967296 : Nat) : Int) := by rw [wrap32]; rfl
      have hor := or32 k hlow hmod (by omega) (Nat.mod_lt _ (by decide))
      have hi1 : ((i : Int) + 1).toNat = i + 1 := by omega
      have hroom := top_room (k := k) (by omega) hmod (Nat.mod_lt _ (by decide))
      have hhi : v / 4294967296 < 2 ^ k := by
        rw [Nat.div_lt_iff_lt_mul (by decide), ← hvd, Nat.mul_comm]
        exact Nat.mul_lt_mul_of_pos_left hx hp0
      have hvh : (v : Int) / 4294967296 = ((v / 4294967296 : Nat) : Int) := by rw [Int.natCast_ediv]; rfl
      have hst := val_set_take (l := out) (i := i) (by omega) (y + v % 4294967296)
      have hst2 := val_set_take (l := out.set i (y + v % 4294967296)) (i := i + 1) (by simp; omega) (v / 4294967296)
      have hls : (out.set i (y + v % 4294967296)).length = l.length + 1 := by simp [ho]
      simp (dsimp := false) (disch := omega) only [h2, hk64, hcast, hxd, hyd, hwv, hor, hi1, hvh, wrap64, wrap32c, wrapU64c, fdivc, IntKind.bits, Int.reduceToNat, Nat.min_def, Int.reducePow, rules, tys, eq_self, ↓reduceIte, Nat.reduceLT, Nat.reduceLeDiff]
      refine ⟨by omega, by omega, by omega, by omega, by omega, by omega, by omega, by omega, by omega, ?_⟩
      refine Ap_loop (i + 1, (out.set i (y + v % 4294967296)).set (i + 1) (v / 4294967296)) (by dsimp only; omega) ?_ ⟨by omega, by simp [ho], (hdo.set _ (by simp only [B]; omega)).set _ (by simp only [B]; omega), ?_, ?_⟩
      · refine Weak.keep [0] (by simp) rfl ?_ ?_
        · simp [leVs, leV, le1]
        · simp [leH, leO]
      · rw [hst2, hst, htk]
        have hdm := Nat.mod_add_div v 4294967296
        rw [hto] at hv
        generalize v % 4294967296 = vl at *
        generalize v / 4294967296 = vh at *
        rw [Nat.pow_succ]
        simp only [B] at *
        grind
      · have : ((out.set i (y + v % 4294967296)).set (i + 1) (v / 4294967296)).getD (i + 1) 0 = v / 4294967296 := by
          rw [List.getD_eq_getElem?_getD, List.getElem?_set_self (by rw [hls]; omega)]; rfl
        rw [this]
        exact hhi
    · intro h1 h2
      simp (dsimp := false) (disch := omega) only [h2, Ap_end_ret, rules, Nat.reduceBEq]
      have hil : i = l.length := by omega
      have hv2 : val out = val l * 2 ^ k := by
        rw [hil, val_take_all (by omega), val_take_all (Nat.le_refl _)] at hv
        exact hv
      rw [← hv2, ← ho, ← digs_eq hdo, ho]
      exact RetOK.own rfl ⟨trivial, trivial⟩ rfl

end Go.Proofs.Yteifpjjnphcdcaa

/- Contracts: math/bits.Len32, LeadingZeros32. -/
namespace Go.Proofs.Yteifpjjnphcdcaa
open Go.AM Go.Pl
set_option maxRecDepth 100000
set_option maxHeartbeats 1000000

/-- The bits of a number. -/
def blen (n : Nat) : Nat := if n = 0 then 0 else Nat.log2 n + 1

theorem len8_all : ∀ n : Fin 256, (((Lib.len8tab[n.val]?).getD 0).toNat : Nat) = blen n.val := by decide +kernel
theorem of_string {s : ByteArray} : PV.ofValue (.string s) = .fv (.lit (.string s)) := rfl
theorem fold8 : (⟨List.toArray (List.append (List.append [0, 1, 2, 2, 3, 3, 3, 3, 4, 4, 4, 4, 4, 4, 4, 4, 5, 5, 5, 5, 5, 5, 5, 5, 5, 5, 5, 5, 5, 5, 5, 5, 6, 6, 6, 6, 6, 6, 6, 6, 6, 6, 6, 6, 6, 6, 6, 6, 6, 6, 6, 6, 6, 6, 6, 6, 6, 6, 6, 6, 6, 6, 6, 6] [7, 7, 7, 7, 7, 7, 7, 7, 7, 7, 7, 7, 7, 7, 7, 7, 7, 7, 7, 7, 7, 7, 7, 7, 7, 7, 7, 7, 7, 7, 7, 7, 7, 7, 7, 7, 7, 7, 7, 7, 7, 7, 7, 7, 7, 7, 7, 7, 7, 7, 7, 7, 7, 7, 7, 7, 7, 7, 7, 7, 7, 7, 7, 7]) (List.append [8, 8, 8, 8, 8, 8, 8, 8, 8, 8, 8, 8, 8, 8, 8, 8, 8, 8, 8, 8, 8, 8, 8, 8, 8, 8, 8, 8, 8, 8, 8, 8, 8, 8, 8, 8, 8, 8, 8, 8, 8, 8, 8, 8, 8, 8, 8, 8, 8, 8, 8, 8, 8, 8, 8, 8, 8, 8, 8, 8, 8, 8, 8, 8] [8, 8, 8, 8, 8, 8, 8, 8, 8, 8, 8, 8, 8, 8, 8, 8, 8, 8, 8, 8, 8, 8, 8, 8, 8, 8, 8, 8, 8, 8, 8, 8, 8, 8, 8, 8, 8, 8, 8, 8, 8, 8, 8, 8, 8, 8, 8, 8, 8, 8, 8, 8, 8, 8, 8, 8, 8, 8, 8, 8, 8, 8, 8, 8]))⟩ : ByteArray) = Lib.len8tab := by kernel_rfl
theorem blen_two {n : Nat} (h : 1 ≤ n) : blen n = 1 + blen (n / 2) := by
  unfold blen
  rw [if_neg (by omega), Nat.log2_def]
  split
  · rw [if_neg (by omega)]; omega
  · have : n / 2 = 0 := by omega
    rw [if_pos this]
theorem blen_shift {n : Nat} (k : Nat) (h : 2 ^ k ≤ n) : blen n = k + blen (n / 2 ^ k) := by
  induction k generalizing n with
  | zero => simp
  | succ k ih =>
    have hk := Nat.two_pow_pos k
    rw [Nat.pow_succ] at h ⊢
    rw [blen_two (by omega), ih (n := n / 2) (by omega), Nat.div_div_eq_div_mul, Nat.mul_comm 2]
    omega

theorem den106 (x : Nat) (hx : x < 4294967296) : Den Try.prog 106 [] [.int .u32 x] [] (.int .i64 (blen x : Int)) := by
  have h8 : ∀ n : Nat, n < 256 → (((Lib.len8tab[n]?).getD 0).toNat : Nat) = blen n := fun n hn => len8_all ⟨n, hn⟩
  have hsz : Lib.len8tab.size = 256 := Lib.len8tab_size
  have fin : ∀ (b y : Nat), y < 256 → b ≤ 24 → blen x = b + blen y → blen y < 100 → True := fun _ _ _ _ _ _ => trivial
  have hb8 : ∀ n : Nat, n < 256 → blen n ≤ 8 := by
    intro n hn
    have : ∀ m : Fin 256, blen m.val ≤ 8 := by decide +kernel
    exact this ⟨n, hn⟩
  refine den_of tabOk mixed Try.func106 (cd := _) rfl (by decide) rfl (n := 18) rfl rfl (m := 0) rfl ?_
  simp (dsimp := false) (disch := omega) only [List.replicate, rules, tys, eq_self, ↓reduceIte]
  refine Br.dec ?_ ?_
  · intro h1 h2
    have e1 := blen_shift (n := x) 16 (by omega)
    have c1 : (x : Int) / 65536 = ((x / 65536 : Nat) : Int) := by rw [Int.natCast_ediv]; rfl
    have e1' : blen x = 16 + blen (x / 65536) := e1
    have hy : x / 65536 < 65536 := by omega
    generalize x / 65536 = y at *
    simp (dsimp := false) (disch := omega) only [h2, c1, fdivc, IntKind.bits, Int.reduceToNat, Nat.min_def, Int.reducePow, rules, tys, eq_self, ↓reduceIte, Nat.reduceLeDiff]
    refine ⟨by omega, ?_⟩
    refine Br.dec ?_ ?_
    · intro h3 h4
      have e2 : blen y = 8 + blen (y / 256) := blen_shift (n := y) 8 (by omega)
      have c2 : (y : Int) / 256 = ((y / 256 : Nat) : Int) := by rw [Int.natCast_ediv]; rfl
      have hz : y / 256 < 256 := by omega
      generalize y / 256 = z at *
      have := hb8 z hz
      simp (dsimp := false) (disch := omega) only [h4, c2, fold8, of_string, h8, wrap64, wrapU8c, fdivc, IntKind.bits, Int.reduceToNat, Nat.min_def, Int.reducePow, Ap_end_ret, rules, tys, eq_self, ↓reduceIte, Nat.reduceLeDiff]
      refine ⟨by omega, by rw [hsz]; omega, ?_⟩
      refine RetOK.pure rfl ⟨trivial, trivial⟩ ?_
      simp (disch := omega) only [St.get, fzX, oneRes, fzV, fzC, fz1, fz0, Option.map_some, List.getD_cons_succ, List.getD_cons_zero]
      rw [e1', e2]; simp; omega
    · intro h3 h4
      have := hb8 y (by omega)
      simp (dsimp := false) (disch := omega) only [h4, fold8, of_string, h8, wrap64, wrapU8c, Ap_end_ret, rules, tys, eq_self, ↓reduceIte]
      refine ⟨by rw [hsz]; omega, ?_⟩
      refine RetOK.pure rfl ⟨trivial, trivial⟩ ?_
      simp (disch := omega) only [St.get, fzX, oneRes, fzV, fzC, fz1, fz0, Option.map_some, List.getD_cons_succ, List.getD_cons_zero]
      rw [e1']; simp
  · intro h1 h2
    simp (dsimp := false) (disch := omega) only [h2, rules, tys, eq_self, ↓reduceIte]
    refine Br.dec ?_ ?_
    · intro h3 h4
      have e2 : blen x = 8 + blen (x / 256) := blen_shift (n := x) 8 (by omega)
      have c2 : (x : Int) / 256 = ((x / 256 : Nat) : Int) := by rw [Int.natCast_ediv]; rfl
      have hz : x / 256 < 256 := by omega
      generalize x / 256 = z at *
      have := hb8 z hz
      simp (dsimp := false) (disch := omega) only [h4, c2, fold8, of_string, h8, wrap64, wrapU8c, fdivc, IntKind.bits, Int.reduceToNat, Nat.min_def, Int.reducePow, Ap_end_ret, rules, tys, eq_self, ↓reduceIte, Nat.reduceLeDiff]
      refine ⟨by omega, by rw [hsz]; omega, ?_⟩
      refine RetOK.pure rfl ⟨trivial, trivial⟩ ?_
      simp (disch := omega) only [St.get, fzX, oneRes, fzV, fzC, fz1, fz0, Option.map_some, List.getD_cons_succ, List.getD_cons_zero]
      rw [e2]; simp
    · intro h3 h4
      have := hb8 x (by omega)
      simp (dsimp := false) (disch := omega) only [h4, fold8, of_string, h8, wrap64, wrapU8c, Ap_end_ret, rules, tys, eq_self, ↓reduceIte]
      refine ⟨by rw [hsz]; omega, ?_⟩
      refine RetOK.pure rfl ⟨trivial, trivial⟩ ?_
      simp (disch := omega) only [St.get, fzX, oneRes, fzV, fzC, fz1, fz0, Option.map_some, List.getD_cons_succ, List.getD_cons_zero]
      simp

end Go.Proofs.Yteifpjjnphcdcaa

/- Contracts: LeadingZeros32, natural.toUint. -/
namespace Go.Proofs.Yteifpjjnphcdcaa
open Go.AM Go.Pl
set_option maxRecDepth 100000
set_option maxHeartbeats 1000000

theorem blen_le {x : Nat} (hx : x < 4294967296) : blen x ≤ 32 := by
  unfold blen
  split
  · omega
  · have : x.log2 < 32 := (Nat.log2_lt (by omega)).2 (by omega)
    omega

theorem den104 (x : Nat) (hx : x < 4294967296) : Den Try.prog 104 [] [.int .u32 x] [] (.int .i64 ((32 - blen x : Nat) : Int)) := by
  have hb := blen_le hx
  refine den_of tabOk mixed Try.func104 (cd := _) rfl (by decide) rfl (n := 5) rfl rfl (m := 0) rfl ?_
  simp (dsimp := false) (disch := omega) only [List.replicate, rules]
  refine GoCall.pure (den106 x hx) rfl ?_
  simp (dsimp := false) (disch := omega) only [wrap64, Ap_end_ret, rules, tys, eq_self, ↓reduceIte]
  refine RetOK.pure rfl ⟨trivial, trivial⟩ ?_
  simp (disch := omega) only [St.get, fzX, oneRes, fzV, fzC, fz1, fz0, Option.map_some, List.getD_cons_succ, List.getD_cons_zero]
  simp; omega

theorem den98 (l : List Nat) (hl : Dig l) (hll : l.length ≤ 2) : Den Try.prog 98 [] [.fv (.sl (u32s l))] [] (.int .u64 ((val l : Nat) : Int)) := by
  refine den_of tabOk mixed Try.func98 (cd := _) rfl (by decide) rfl (n := 21) rfl rfl (m := 0) rfl ?_
  simp (dsimp := false) (disch := omega) only [List.replicate, rules, tys]
  refine WA.loop (α := Nat) (fun i => ⟨.fv (.sl (u32s l)) :: .any :: .fv (.lit (.int .u64 0)) :: .int .u64 ((val (l.take i) : Nat) : Int) :: .any :: .any :: .fv (.sl (u32s l)) :: .int .i64 l.length :: .int .i64 i :: List.replicate 13 .any, []⟩)
    (fun i => l.length - i) (fun i => i ≤ l.length) 0 ?_ ?_ ?_
  · refine Weak.keep [] (by simp) rfl ?_ ?_
    · simp [leVs, leV, le1, val]
    · trivial
  · omega
  · intro i hi
    simp (dsimp := false) (disch := omega) only [List.replicate, rules, tys, eq_self, ↓reduceIte]
    refine Br.dec ?_ ?_
    · intro h1 h2
      have hx := hl.getD i
      have htk := val_take_succ l i
      have hvt := val_lt (hl.take i)
      rw [List.length_take, Nat.min_eq_left hi] at hvt
      simp only [B] at hx
      have hi2 : i = 0 ∨ i = 1 := by omega
      rcases hi2 with rfl | rfl
      · generalize hxd : l.getD 0 0 = x at *
        have ht0 : val (l.take 0) = 0 := by simp [val]
        rw [ht0] at htk ⊢
        simp (dsimp := false) (disch := omega) only [hxd, or64s, Int.natCast_zero, Int.mul_zero, Int.toNat_zero, wrap64, wrapU64c, IntKind.bits, Nat.min_def, Int.reducePow, rules, tys, eq_self, ↓reduceIte, Nat.reduceLT, Nat.reduceLeDiff]
        refine ⟨by omega, by omega, ?_⟩
        refine Ap_loop 1 (by omega) ?_ (by omega)
        refine Weak.keep [] (by simp) rfl ?_ ?_
        · have : (x : Int) = ((val (l.take 1) : Nat) : Int) := by rw [htk]; simp
          simp [leVs, leV, le1, ← this]
        · trivial
      · generalize hxd : l.getD 1 0 = x at *
        generalize val (l.take 1) = v at *
        have hv : v < 4294967296 := by simpa using hvt
        simp (dsimp := false) (disch := omega) only [hxd, or64t, Int.natCast_one, Int.mul_one, wrap64, wrapU64c, IntKind.bits, Int.reduceToNat, Nat.min_def, Int.reducePow, rules, tys, eq_self, ↓reduceIte, Nat.reduceLT, Nat.reduceLeDiff]
        refine ⟨by omega, by omega, ?_⟩
        refine Ap_loop 2 (by omega) ?_ (by omega)
        refine Weak.keep [] (by simp) rfl ?_ ?_
        · have : (v : Int) + x * 4294967296 = ((val (l.take 2) : Nat) : Int) := by rw [htk]; simp [B, Int.mul_comm]
          simp [leVs, leV, le1, ← this]
        · trivial
    · intro h1 h2
      simp (dsimp := false) (disch := omega) only [h2, Ap_end_ret, rules, Nat.reduceBEq]
      have hil : i = l.length := by omega
      refine RetOK.pure rfl ⟨trivial, trivial⟩ ?_
      simp (disch := omega) only [St.get, fzX, oneRes, fzV, fzC, fz1, fz0, Option.map_some, List.getD_cons_succ, List.getD_cons_zero]
      rw [hil, val_take_all (Nat.le_refl _)]

end Go.Proofs.Yteifpjjnphcdcaa
