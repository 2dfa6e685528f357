/- Contracts: the law LinearSolves. -/
import Derived.Test.YteifpjjnphcdcaaL3
import Derived.Test.YteifpjjnphcdcaaS2
import Derived.Test.YteifpjjnphcdcaaNew

namespace Go.Proofs.Yteifpjjnphcdcaa
open Go.AM Go.Pl
set_option maxRecDepth 100000
set_option maxHeartbeats 2000000

/-- Both sides solve alike. -/
theorem solve_both (rs : List Raw) (v : Int) (hrs : LOk 4 rs) : ∃ (zs : List Raw) (s e : Int), LOk 5000000000 zs ∧
    Den Try.prog 16 [] [RL rs, .int .i64 v] [] (.tup [RL zs, .int .i64 s, .int .i64 e]) ∧ Den Try.prog 17 [] [RL rs, .int .i64 v] [] (.tup [RL zs, .int .i64 s, .int .i64 e]) := by
  have hlen := hrs.len
  by_cases hv : v < 0 ∨ 8 ≤ v
  · exact ⟨_, _, _, zeros_ok, den16z rs v hlen hv, den17z rs v hlen hv⟩
  · obtain ⟨k, hk⟩ : ∃ k : Nat, v = (k : Int) := ⟨v.toNat, by omega⟩
    subst hk
    have hk8 : k < 8 := by omega
    have hr4 := hrs.mono (show 4 ≤ 1000 by decide)
    by_cases h0 : (rs.getD k rz).q = 0
    · refine ⟨_, _, _, ?_, den16n rs k hr4 hk8 h0, den17 rs k _ _ hlen hk8 (by simp [hlen]) (den48n rs k hr4 hk8 h0)⟩
      exact LOk.map hlen (fun r hr => Bd.mono ((hrs.ok r hr).bd (by decide)) (by decide))
    · have hs := set_ok hrs k
      refine ⟨_, _, _, ?_, den16 rs k hr4 hk8 h0, den17 rs k _ _ hlen hk8 (by simp [hlen]) (den48 rs k hr4 hk8 h0)⟩
      refine LOk.map hs.len (fun r hr => Bd.mono (Bd.mul ((hs.ok r hr).bd (by decide)) (Bd.div (j := 1) (p := -1) ⟨by decide, by decide⟩ ((hrs.at k).bd (by decide)) h0 (by decide)) (by decide)) (by decide))

theorem den4 (l : List Int) (v : Int) (hl : l.length < 9223372036854775808) (hw : W64 l) (_ : -9223372036854775808 ≤ v ∧ v < 9223372036854775808) : Den Try.prog 4 [] [.fv (.sl (ints l)), .int .i64 v] [] (.bool true) := by
  have h10 := den10 l hl
  have hwt : W64 (l.take 1000) := fun x hx => hw x (List.mem_of_mem_take hx)
  have hxl : (l.take 1000).length ≤ 1000 := by rw [List.length_take]; omega
  obtain ⟨xs, hxs⟩ : ∃ t, l.take 1000 = t := ⟨_, rfl⟩
  rw [hxs] at h10 hwt hxl
  have h9 := den9 xs 0 hxl (Nat.zero_le _) hwt
  have hc := S_closed xs 0
  have hok := looseF_ok xs 0
  have ha1 := looseF_le (xs := xs) (a := 0) (Nat.zero_le _)
  obtain ⟨⟨rs, a1⟩, hr⟩ : ∃ t, looseF xs 0 = t := ⟨_, rfl⟩
  rw [hr] at h9 hok ha1
  dsimp only at h9 hok ha1
  have c1 := S_closed xs a1
  have h15 := den15 xs a1 v hxl ha1 hwt
  obtain ⟨⟨u, a2⟩, hp⟩ : ∃ t, placeF xs a1 v = t := ⟨_, rfl⟩
  rw [hp] at h15
  dsimp only at h15
  have hlen := hok.len
  have hfl : (flat rs).length = 27 := by rw [flat_length]; omega
  obtain ⟨zs, s, e, hzo, h16, h17⟩ := solve_both rs u hok
  have h11 := den11r zs hzo
  have h14 := den14
  have hzl := hzo.len
  have h27 : (flat zs).length = 27 := by rw [flat_length]; omega
  have hee : (e == e) = true := beq_self_eq_true e
  have hss : (s == s) = true := beq_self_eq_true s
  unfold RL at h9 h11 h16 h17
  unfold S at h9 h10 h15 hc c1
  refine den_of tabOk mixed Try.func4 (cd := _) rfl (by decide) rfl (n := 48) rfl rfl (m := 0) rfl ?_
  simp (dsimp := false) (disch := omega) only [List.replicate, rules]
  refine GoCall.pure h10 rfl ?_
  simp (dsimp := false) (disch := omega) only [List.append_nil, rules]
  refine GoCall.lend 0 h9 rfl rfl hc rfl rfl rfl ?_
  simp (dsimp := false) (disch := omega) only [sh1, List.append_nil, flat_reloc, hfl, rules, tys, eq_self, Nat.reduceAdd, Nat.reduceLT, Nat.reduceLeDiff]
  refine GoCall.lend 0 h15 rfl rfl c1 rfl rfl rfl ?_
  simp (dsimp := false) (disch := omega) only [sh2, List.append_nil, flat_take27 hlen, rules, tys, eq_self, ↓reduceIte, Nat.reduceAdd]
  repeat refine And.intro (by omega) ?_
  refine GoCall.pure h16 (by simp [fzAs, fzA, flat_fz, flatF_fv, fz1, fz0]) ?_
  simp (dsimp := false) (disch := omega) only [flat_ids, flat_reloc, List.append_nil, flat_take27 hlen, h27, rules, tys, eq_self, ↓reduceIte, Nat.reduceAdd, Nat.reduceLT, Nat.reduceLeDiff]
  repeat refine And.intro (by omega) ?_
  refine GoCall.pure h17 (by simp [fzAs, fzA, flat_fz, flatF_fv, fz1, fz0]) ?_
  simp (dsimp := false) (disch := omega) only [flat_ids, flat_reloc, List.append_nil, h27, hee, hss, flat_take27 hzl, rules, tys, eq_self, ↓reduceIte, Nat.reduceAdd, Nat.reduceLT, Nat.reduceLeDiff]
  repeat refine And.intro (by omega) ?_
  refine GoCall.pure h11 (by simp [fzAs, fzA, flat_fz, flatF_fv]) ?_
  simp (dsimp := false) (disch := omega) only [flat_ids, List.append_nil, rules, eq_self, ↓reduceIte, Nat.reduceAdd]
  refine GoCall.pure h14 rfl ?_
  simp (dsimp := false) (disch := omega) only [List.append_nil, Ap_end_ret, rules, eq_self, ↓reduceIte, Nat.reduceAdd]
  exact RetOK.pure rfl ⟨trivial, trivial⟩ rfl

end Go.Proofs.Yteifpjjnphcdcaa
