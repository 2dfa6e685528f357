/- Contracts: the law LinearBounds. -/
import Derived.Test.YteifpjjnphcdcaaE1
import Derived.Test.YteifpjjnphcdcaaNew

namespace Go.Proofs.Yteifpjjnphcdcaa
open Go.AM Go.Pl
set_option maxRecDepth 100000
set_option maxHeartbeats 4000000

theorem den7 (l : List Int) (hl : l.length < 9223372036854775808) (hw : W64 l) : Den Try.prog 7 [] [.fv (.sl (ints l))] [] (.bool true) := by
  have h10 := den10 l hl
  have hwt : W64 (l.take 1000) := fun x hx => hw x (List.mem_of_mem_take hx)
  have hxl : (l.take 1000).length ≤ 1000 := by rw [List.length_take]; omega
  obtain ⟨xs, hxs⟩ : ∃ t, l.take 1000 = t := ⟨_, rfl⟩
  rw [hxs] at h10 hwt hxl
  have hc := S_closed xs 0
  have h9 := den9 xs 0 hxl (Nat.zero_le _) hwt
  have hok := looseF_ok xs 0
  have ha1 := looseF_le (xs := xs) (a := 0) (Nat.zero_le _)
  obtain ⟨⟨rs, a1⟩, hr⟩ : ∃ t, looseF xs 0 = t := ⟨_, rfl⟩
  rw [hr] at h9 hok ha1
  dsimp only at h9 hok ha1
  have c1 := S_closed xs a1
  have hN := denN xs a1 8 hxl ha1 hwt (by decide) (by decide)
  have hv := nN_lt (xs := xs) (a := a1) (n := 8) (by decide)
  have ha2 := nx_le ha1
  obtain ⟨v, hvv⟩ : ∃ t, nN xs a1 8 = t := ⟨_, rfl⟩
  obtain ⟨a2, e2⟩ : ∃ t, nx xs a1 = t := ⟨_, rfl⟩
  rw [hvv, e2] at hN
  rw [hvv] at hv
  rw [e2] at ha2
  have c2 := S_closed xs a2
  have h27 := den27 xs a2 8 hxl ha2 hwt (by decide)
  have hpl := pointF_length xs 8 a2
  have hpb := pointF_bd xs 8 a2
  obtain ⟨ps, hps⟩ : ∃ t, pointF xs 8 a2 = t := ⟨_, rfl⟩
  obtain ⟨a3, e3⟩ : ∃ t, nxs xs (2 * 8) a2 = t := ⟨_, rfl⟩
  rw [hps, e3] at h27
  rw [hps] at hpl hpb
  have hlen := hok.len
  have hfl : (flat rs).length = 27 := by rw [flat_length]; omega
  have h14 := den14
  have hev := den28 rs ps (hok.mono (by decide)) hpb hpl
  have hevb := evalN_bd hok (by decide) hpb hpl 8 (by decide)
  have e00 : ((0 : Int) != 0) = false := rfl
  have e01 : ((0 : Int) == 0) = true := rfl
  unfold RL at h9 hev
  unfold S at h9 h10 hN h27 hc c1 c2
  by_cases h0 : (rs.getD v rz).q = 0
  · have h16 := den16n rs v (hok.mono (by decide)) hv h0
    have hbok : LOk 4 ((rs.map Raw.q).map cn) := LOk.map hlen (fun r hr => (hok.ok r hr).bd (by decide))
    have hevB := den28 ((rs.map Raw.q).map cn) ps (hbok.mono (by decide)) hpb hpl
    rw [eval_map ps hlen 8 (by decide)] at hevB
    obtain ⟨z, hz⟩ : ∃ t, evalN rs ps 8 = t := ⟨_, rfl⟩
    rw [hz] at hev hevB hevb
    have h29 := den29 (cn z) (cn z) (Raw.Ok.mono (cn_ok hevb) (by decide)) (Raw.Ok.mono (cn_ok hevb) (by decide))
    rw [cn_q, sgq_eq_zero.2 Rat.sub_self] at h29
    change Den Try.prog 29 [] [FR z, FR z] [] _ at h29
    unfold FL RL at h16
    unfold RL at hevB
    obtain ⟨bs, hbs⟩ : ∃ t, (rs.map Raw.q).map cn = t := ⟨_, rfl⟩
    rw [hbs] at h16 hevB hbok
    have hbl := hbok.len
    have hb27 : (flat bs).length = 27 := by rw [flat_length]; omega
    rw [FR_eq] at hev hevB h29
    refine den_of tabOk mixed Try.func7 (cd := _) rfl (by decide) rfl (n := 84) rfl rfl (m := 0) rfl ?_
    simp (dsimp := false) (disch := omega) only [List.replicate, rules]
    refine GoCall.pure h10 rfl ?_
    simp (dsimp := false) (disch := omega) only [List.append_nil, rules]
    refine GoCall.lend 0 h9 rfl rfl hc rfl rfl rfl ?_
    simp (dsimp := false) (disch := omega) only [sh1, List.append_nil, flat_reloc, rules]
    refine GoCall.lend 0 hN rfl rfl c1 rfl rfl rfl ?_
    simp (dsimp := false) (disch := omega) only [sh2, List.append_nil, rules]
    refine GoCall.lend 0 h27 rfl rfl c2 rfl rfl rfl ?_
    simp (dsimp := false) (disch := omega) only [sh2, List.append_nil, hfl, flat_take27 hlen, rules, tys, eq_self, ↓reduceIte, Nat.reduceAdd, Nat.reduceLT, Nat.reduceLeDiff]
    repeat refine And.intro (by omega) ?_
    refine GoCall.pure h16 (by simp [fzAs, fzA, flat_fz, flatF_fv, fz1, fz0]) ?_
    simp (dsimp := false) (disch := omega) only [flat_ids, flat_reloc, List.append_nil, hb27, e00, rules, tys, eq_self, ↓reduceIte, Nat.reduceAdd, Nat.reduceLT, Nat.reduceLeDiff]
    repeat refine And.intro (by omega) ?_
    refine Draw.intro (by kernel_rfl) ?_
    simp (dsimp := false) (disch := omega) only [flat_take27 hlen, rules, tys, eq_self, ↓reduceIte]
    repeat refine And.intro (by omega) ?_
    refine GoCall.pure hev (by simp [fzAs, fzA, flat_fz, flatF_fv, fz1, fz0]) ?_
    simp (dsimp := false) (disch := omega) only [flat_ids, List.append_nil, flat_take27 hbl, rules, tys, eq_self, ↓reduceIte, Nat.reduceAdd]
    repeat refine And.intro (by omega) ?_
    refine GoCall.pure hevB (by simp [fzAs, fzA, flat_fz, flatF_fv, fz1, fz0]) ?_
    simp (dsimp := false) (disch := omega) only [flat_ids, List.append_nil, e01, rules, tys, eq_self, ↓reduceIte, Nat.reduceAdd, Nat.reduceLT, Nat.reduceLeDiff]
    repeat refine And.intro (by omega) ?_
    refine GoCall.pure h29 rfl ?_
    simp (dsimp := false) (disch := omega) only [List.append_nil, e01, rules, tys, eq_self, ↓reduceIte, Nat.reduceAdd]
    refine GoCall.pure h14 rfl ?_
    simp (dsimp := false) (disch := omega) only [List.append_nil, Ap_end_ret, rules, eq_self, ↓reduceIte, Nat.reduceAdd]
    exact RetOK.pure rfl ⟨trivial, trivial⟩ rfl
  · have h16 := den16 rs v (hok.mono (by decide)) hv h0
    change Den Try.prog 16 [] _ [] (.tup [RL (bnd rs v), _, _]) at h16
    have hbok := bnd_ok hok h0
    have hbl := hbok.len
    have hevB := den28 (bnd rs v) ps (hbok.mono (by decide)) hpb hpl
    have hevBb := evalN_bd hbok (by decide) hpb hpl 8 (by decide)
    have h18 := den18 rs (bnd rs v) v (hok.mono (by decide)) (hbok.mono (by decide)) hv
    have hcz : ∀ i, i < 9 → (((subL rs v (bnd rs v)).map cn).getD i rz).q = 0 := fun i hi => sub_bnd hlen hv h0 hi
    have hcl : ((subL rs v (bnd rs v)).map cn).length = 9 := by rw [List.length_map]; exact subL_length v hlen hbl
    have hcc := constB_true (a := (subL rs v (bnd rs v)).map cn) (fun i hi => hcz i (by omega))
    have heq := eval_bnd ps hlen hv h0 8 (by decide)
    rw [if_pos hv] at heq
    have hsg : sgq (evalN rs ps 8) = sgq (ps.getD v 0 - evalN (bnd rs v) ps 8) * sgq (rs.getD v rz).q := by
      rw [heq, ← sgq_mul]
      congr 1
      grind
    have hrow := rats_getD (ps := ps) (i := v) (by omega)
    have hqb : Bd 2 (ps.getD v 0) := by
      rw [List.getD_eq_getElem?_getD, List.getElem?_eq_getElem (by omega)]
      exact hpb _ (List.getElem_mem _)
    have hprl := rats_length ps
    obtain ⟨z, hz⟩ : ∃ t, evalN rs ps 8 = t := ⟨_, rfl⟩
    obtain ⟨y, hy⟩ : ∃ t, evalN (bnd rs v) ps 8 = t := ⟨_, rfl⟩
    obtain ⟨x, hx⟩ : ∃ t, ps.getD v 0 = t := ⟨_, rfl⟩
    obtain ⟨A, hA⟩ : ∃ t, (rs.getD v rz).q = t := ⟨_, rfl⟩
    rw [hz] at hev hevb hsg
    rw [hy] at hevB hevBb hsg
    rw [hx] at hrow hqb hsg
    rw [hA] at h16 hsg h0
    have h29 := den29 (cn x) (cn y) (Raw.Ok.mono (cn_ok hqb) (by decide)) (Raw.Ok.mono (cn_ok hevBb) (by decide))
    rw [cn_q, cn_q] at h29
    change Den Try.prog 29 [] [FR x, FR y] [] _ at h29
    have h26z := den26 (cn z) (Raw.Ok.mono (cn_ok hevb) (by decide))
    rw [cn_q] at h26z
    change Den Try.prog 26 [] [FR z] [] _ at h26z
    obtain ⟨bs, hbs⟩ : ∃ t, bnd rs v = t := ⟨_, rfl⟩
    rw [hbs] at h16 hevB h18 hcz hcl hcc hbl
    unfold FL at h18
    obtain ⟨cs, hcs⟩ : ∃ t, (subL rs v bs).map cn = t := ⟨_, rfl⟩
    rw [hcs] at h18 hcz hcl hcc
    have hb27 : (flat bs).length = 27 := by rw [flat_length]; omega
    have hc27 : (flat cs).length = 27 := by rw [flat_length]; omega
    have hcok : LOk 1000000000 cs := by
      rw [← hcs, ← hbs]
      have hq9 : ∀ q ∈ subL rs v (bnd rs v), Bd 18 q := by
        refine addL_bd (j := 4) (k := 13) ((set_ok hok v).bd (by decide)) ?_ (by decide)
        intro r hr
        simp only [List.mem_map] at hr
        obtain ⟨q, ⟨w, hw, rfl⟩, rfl⟩ := hr
        rw [cn_q]
        exact Bd.mul (j := 9) (k := 4) ((hbok.ok w hw).bd (by decide)) ((hok.at v).bd (by decide)) (by decide)
      exact (LOk.of_map (subL_length v hlen (by rw [hbs]; exact hbl)) hq9).mono (by decide)
    have h25 := den25 cs hcok
    rw [hcc] at h25
    have h26c := den26 (cs.getD 8 rz) ((hcok.at 8).mono (by decide))
    rw [sgq_eq_zero.2 (hcz 8 (by decide))] at h26c
    have hatC := flat_at (rs := cs) (i := 8) (by omega)
    simp only [Nat.reduceMul] at hatC
    unfold RL at h16 hevB h18 h25
    rw [FR_eq] at hev hevB h26z
    rw [FR_eq, FR_eq] at h29
    unfold Raw.v at h26c
    obtain ⟨s1, hs1⟩ : ∃ t, sgq (x - y) = t := ⟨_, rfl⟩
    obtain ⟨s2, hs2⟩ : ∃ t, sgq A = t := ⟨_, rfl⟩
    have r1 := sgq_range z
    rw [hs1, hs2] at hsg
    rw [hs2] at h16
    rw [hs1] at h29
    have hs20 : (s2 == 0) = false := by rw [beq_eq_false_iff_ne, ← hs2]; exact fun h => h0 (sgq_eq_zero.1 h)
    obtain ⟨sz, hsz⟩ : ∃ t, sgq z = t := ⟨_, rfl⟩
    rw [hsz] at r1 hsg h26z
    have hl3 : ([FV.lit (Value.bool (cn x).neg), FV.sl (u32s (cn x).num), FV.sl (u32s (cn x).den)] : List FV).length = 3 := rfl
    have hprod : s1 * s2 = sz := hsg.symm
    have hbb : (decide (sz ≥ 0) == decide (sz ≥ 0)) = true := beq_self_eq_true _
    refine den_of tabOk mixed Try.func7 (cd := _) rfl (by decide) rfl (n := 84) rfl rfl (m := 0) rfl ?_
    simp (dsimp := false) (disch := omega) only [List.replicate, rules]
    refine GoCall.pure h10 rfl ?_
    simp (dsimp := false) (disch := omega) only [List.append_nil, rules]
    refine GoCall.lend 0 h9 rfl rfl hc rfl rfl rfl ?_
    simp (dsimp := false) (disch := omega) only [sh1, List.append_nil, flat_reloc, rules]
    refine GoCall.lend 0 hN rfl rfl c1 rfl rfl rfl ?_
    simp (dsimp := false) (disch := omega) only [sh2, List.append_nil, rules]
    refine GoCall.lend 0 h27 rfl rfl c2 rfl rfl rfl ?_
    simp (dsimp := false) (disch := omega) only [sh2, List.append_nil, hfl, flat_take27 hlen, rules, tys, eq_self, ↓reduceIte, Nat.reduceAdd, Nat.reduceLT, Nat.reduceLeDiff]
    repeat refine And.intro (by omega) ?_
    refine GoCall.pure h16 (by simp [fzAs, fzA, flat_fz, flatF_fv, fz1, fz0]) ?_
    simp (dsimp := false) (disch := omega) only [flat_ids, flat_reloc, List.append_nil, hb27, e00, rules, tys, eq_self, ↓reduceIte, Nat.reduceAdd, Nat.reduceLT, Nat.reduceLeDiff]
    repeat refine And.intro (by omega) ?_
    refine Draw.intro (by kernel_rfl) ?_
    simp (dsimp := false) (disch := omega) only [flat_take27 hlen, rules, tys, eq_self, ↓reduceIte]
    repeat refine And.intro (by omega) ?_
    refine GoCall.pure hev (by simp [fzAs, fzA, flat_fz, flatF_fv, fz1, fz0]) ?_
    simp (dsimp := false) (disch := omega) only [flat_ids, List.append_nil, flat_take27 hbl, rules, tys, eq_self, ↓reduceIte, Nat.reduceAdd]
    repeat refine And.intro (by omega) ?_
    refine GoCall.pure hevB (by simp [fzAs, fzA, flat_fz, flatF_fv, fz1, fz0]) ?_
    simp (dsimp := false) (disch := omega) only [flat_ids, List.append_nil, hs20, flat_take27 hlen, flat_take27 hbl, rules, tys, eq_self, ↓reduceIte, Nat.reduceAdd, Nat.reduceLT, Nat.reduceLeDiff]
    repeat refine And.intro (by omega) ?_
    refine GoCall.pure h18 (by simp [fzAs, fzA, flat_fz, flatF_fv, fz1, fz0]) ?_
    simp (dsimp := false) (disch := omega) only [flat_ids, flat_reloc, List.append_nil, hc27, rules, tys, eq_self, Nat.reduceAdd, Nat.reduceLT, Nat.reduceLeDiff]
    repeat refine And.intro (by omega) ?_
    refine Draw.intro (by kernel_rfl) ?_
    simp (dsimp := false) (disch := omega) only [hrow, hl3, rules, tys, eq_self, ↓reduceIte, Nat.reduceAdd, Nat.reduceLT, Nat.reduceLeDiff]
    repeat refine And.intro (by omega) ?_
    refine GoCall.pure h29 rfl ?_
    simp (dsimp := false) (disch := omega) only [List.append_nil, hprod, e01, flat_take27 hcl, wrap64, rules, tys, eq_self, ↓reduceIte, Nat.reduceAdd]
    repeat refine And.intro (by omega) ?_
    refine GoCall.pure h25 (by simp [fzAs, fzA, flat_fz, flatF_fv]) ?_
    simp (dsimp := false) (disch := omega) only [flat_ids, List.append_nil, hatC, rules, tys, eq_self, ↓reduceIte, Nat.reduceAdd]
    repeat refine And.intro (by omega) ?_
    refine GoCall.pure h26c rfl ?_
    simp (dsimp := false) (disch := omega) only [List.append_nil, e01, rules, tys, eq_self, ↓reduceIte, Nat.reduceAdd, Nat.reduceLeDiff]
    repeat refine And.intro (by omega) ?_
    refine GoCall.pure h26z rfl ?_
    simp (dsimp := false) (disch := omega) only [List.append_nil, hbb, rules, tys, eq_self, ↓reduceIte, reduceCtorEq, Nat.reduceAdd]
    refine GoCall.pure h14 rfl ?_
    simp (dsimp := false) (disch := omega) only [List.append_nil, Ap_end_ret, rules, eq_self, ↓reduceIte, Nat.reduceAdd]
    exact RetOK.pure rfl ⟨trivial, trivial⟩ rfl

end Go.Proofs.Yteifpjjnphcdcaa
