/- Contracts: the law LinearSubstitutes. -/
import Derived.Test.YteifpjjnphcdcaaL3
import Derived.Test.YteifpjjnphcdcaaS2
import Derived.Test.YteifpjjnphcdcaaNew

namespace Go.Proofs.Yteifpjjnphcdcaa
open Go.AM Go.Pl
set_option maxRecDepth 100000
set_option maxHeartbeats 2000000

theorem subL_bd {a b : List Raw} (v : Nat) (ha : LOk 4 a) (hb : LOk 4 b) : ∀ q ∈ subL a v b, Bd 13 q := by
  have hmb : ∀ r ∈ (b.map (fun r => r.q * (a.getD v rz).q)).map cn, Bd 8 r.q := fun r hr => by
    simp only [List.mem_map] at hr
    obtain ⟨q, ⟨x, hx, rfl⟩, rfl⟩ := hr
    rw [cn_q]
    exact Bd.mul (j := 4) (k := 4) ((hb.ok x hx).bd (by decide)) ((ha.at v).bd (by decide)) (by decide)
  exact addL_bd (j := 4) (k := 8) ((set_ok ha v).bd (by decide)) hmb (by decide)

/-- Both sides substitute alike. -/
theorem sub_both (a b : List Raw) (v : Int) (ha : LOk 4 a) (hb : LOk 4 b) : ∃ (zs : List Raw) (e : Int), LOk 5000000000 zs ∧
    Den Try.prog 18 [] [RL a, .int .i64 v, RL b] [] (.tup [RL zs, .int .i64 e]) ∧ Den Try.prog 19 [] [RL a, .int .i64 v, RL b] [] (.tup [RL zs, .int .i64 e]) := by
  by_cases hv : v < 0 ∨ 8 ≤ v
  · exact ⟨_, _, zeros_ok, den18z a b v ha.len hb.len hv, den19z a b v ha.len hb.len hv⟩
  · obtain ⟨k, hk⟩ : ∃ k : Nat, v = (k : Int) := ⟨v.toNat, by omega⟩
    subst hk
    have hk8 : k < 8 := by omega
    exact ⟨_, _, (LOk.of_map (subL_length k ha.len hb.len) (subL_bd k ha hb)).mono (by decide), den18 a b k (ha.mono (by decide)) (hb.mono (by decide)) hk8, den19 a b k (ha.mono (by decide)) (hb.mono (by decide)) hk8⟩

theorem den5 (l : List Int) (v : Int) (hl : l.length < 9223372036854775808) (hw : W64 l) (_ : -9223372036854775808 ≤ v ∧ v < 9223372036854775808) : Den Try.prog 5 [] [.fv (.sl (ints l)), .int .i64 v] [] (.bool true) := by
  have h10 := den10 l hl
  have hwt : W64 (l.take 1000) := fun x hx => hw x (List.mem_of_mem_take hx)
  have hxl : (l.take 1000).length ≤ 1000 := by rw [List.length_take]; omega
  obtain ⟨xs, hxs⟩ : ∃ t, l.take 1000 = t := ⟨_, rfl⟩
  rw [hxs] at h10 hwt hxl
  have h9 := den9 xs 0 hxl (Nat.zero_le _) hwt
  have hc := S_closed xs 0
  have hok := looseF_ok xs 0
  have ha1 := looseF_le (xs := xs) (a := 0) (Nat.zero_le _)
  obtain ⟨⟨rs, a1⟩, hr⟩ : ∃ t, looseF xs 0 = t := ⟨_, rfl⟩
  rw [hr] at h9 hok ha1
  dsimp only at h9 hok ha1
  have c1 := S_closed xs a1
  have h9b := den9 xs a1 hxl ha1 hwt
  have hok2 := looseF_ok xs a1
  have ha2 := looseF_le ha1
  obtain ⟨⟨ss, a2⟩, hr2⟩ : ∃ t, looseF xs a1 = t := ⟨_, rfl⟩
  rw [hr2] at h9b hok2 ha2
  dsimp only at h9b hok2 ha2
  have c2 := S_closed xs a2
  have h15 := den15 xs a2 v hxl ha2 hwt
  obtain ⟨⟨u, a3⟩, hp⟩ : ∃ t, placeF xs a2 v = t := ⟨_, rfl⟩
  rw [hp] at h15
  dsimp only at h15
  have hlen := hok.len
  have hlen2 := hok2.len
  have hfl : (flat rs).length = 27 := by rw [flat_length]; omega
  have hfl2 : (flat ss).length = 27 := by rw [flat_length]; omega
  obtain ⟨zs, e, hzo, h18, h19⟩ := sub_both rs ss u hok hok2
  have h11 := den11r zs hzo
  have h14 := den14
  have hzl := hzo.len
  have h27 : (flat zs).length = 27 := by rw [flat_length]; omega
  have hee : (e == e) = true := beq_self_eq_true e
  unfold RL at h9 h9b h11 h18 h19
  unfold S at h9 h9b h10 h15 hc c1 c2
  refine den_of tabOk mixed Try.func5 (cd := _) rfl (by decide) rfl (n := 44) rfl rfl (m := 0) rfl ?_
  simp (dsimp := false) (disch := omega) only [List.replicate, rules]
  refine GoCall.pure h10 rfl ?_
  simp (dsimp := false) (disch := omega) only [List.append_nil, rules]
  refine GoCall.lend 0 h9 rfl rfl hc rfl rfl rfl ?_
  simp (dsimp := false) (disch := omega) only [sh1, List.append_nil, flat_reloc, rules]
  refine GoCall.lend 0 h9b rfl rfl c1 rfl rfl rfl ?_
  simp (dsimp := false) (disch := omega) only [sh1, List.append_nil, flat_reloc, hfl, hfl2, rules, tys, eq_self, Nat.reduceAdd, Nat.reduceLT, Nat.reduceLeDiff]
  repeat refine And.intro (by omega) ?_
  refine GoCall.lend 0 h15 rfl rfl c2 rfl rfl rfl ?_
  simp (dsimp := false) (disch := omega) only [sh2, List.append_nil, flat_take27 hlen, flat_take27 hlen2, rules, tys, eq_self, ↓reduceIte, Nat.reduceAdd]
  repeat refine And.intro (by omega) ?_
  refine GoCall.pure h18 (by simp [fzAs, fzA, flat_fz, flatF_fv, fz1, fz0]) ?_
  simp (dsimp := false) (disch := omega) only [flat_ids, flat_reloc, List.append_nil, flat_take27 hlen, flat_take27 hlen2, h27, rules, tys, eq_self, ↓reduceIte, Nat.reduceAdd, Nat.reduceLT, Nat.reduceLeDiff]
  repeat refine And.intro (by omega) ?_
  refine GoCall.pure h19 (by simp [fzAs, fzA, flat_fz, flatF_fv, fz1, fz0]) ?_
  simp (dsimp := false) (disch := omega) only [flat_ids, flat_reloc, List.append_nil, h27, hee, flat_take27 hzl, rules, tys, eq_self, ↓reduceIte, Nat.reduceAdd, Nat.reduceLT, Nat.reduceLeDiff]
  repeat refine And.intro (by omega) ?_
  refine GoCall.pure h11 (by simp [fzAs, fzA, flat_fz, flatF_fv]) ?_
  simp (dsimp := false) (disch := omega) only [flat_ids, List.append_nil, rules, eq_self, ↓reduceIte, Nat.reduceAdd]
  refine GoCall.pure h14 rfl ?_
  simp (dsimp := false) (disch := omega) only [List.append_nil, Ap_end_ret, rules, eq_self, ↓reduceIte, Nat.reduceAdd]
  exact RetOK.pure rfl ⟨trivial, trivial⟩ rfl

end Go.Proofs.Yteifpjjnphcdcaa
