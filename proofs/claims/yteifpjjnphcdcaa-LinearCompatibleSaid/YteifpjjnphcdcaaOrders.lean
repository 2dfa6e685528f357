/- Contracts: the law LinearOrders. -/
import Derived.Test.YteifpjjnphcdcaaL4
import Derived.Test.YteifpjjnphcdcaaNew

namespace Go.Proofs.Yteifpjjnphcdcaa
open Go.AM Go.Pl
set_option maxRecDepth 100000
set_option maxHeartbeats 4000000

/-- The difference of two forms. -/
def diffL (a c : List Raw) : List Raw := (addL a ((c.map (fun r => r.q * ((-1 : Int) : Rat))).map cn)).map cn
theorem diffL_at {a c : List Raw} {i : Nat} (ha : i < a.length) (hc : i < c.length) : ((diffL a c).getD i rz).q = (a.getD i rz).q - (c.getD i rz).q := by
  unfold diffL
  rw [addL_getD ha (by simp; exact hc), cn_q]
  have h : (((c.map (fun r => r.q * ((-1 : Int) : Rat))).map cn).getD i rz) = cn ((c.getD i rz).q * ((-1 : Int) : Rat)) := by
    simp [List.getD_eq_getElem?_getD, hc]
  rw [h, cn_q]
  have e : ((-1 : Int) : Rat) = -1 := rfl
  rw [e]
  grind
theorem cmpR_all {a c : List Raw} (h : a.length = c.length) : cmpR a c = 0 ↔ ∀ i, i < a.length → (a.getD i rz).q = (c.getD i rz).q := by
  rw [cmpR_zero a c h]
  constructor
  · intro h2 i hi
    have h3 := congrArg (fun l : List Rat => l[i]?) h2
    simpa [List.getD_eq_getElem?_getD, List.getElem?_eq_getElem hi, List.getElem?_eq_getElem (h ▸ hi)] using h3
  · intro h2
    apply List.ext_getElem?
    intro i
    by_cases hi : i < a.length
    · have := h2 i hi
      simp only [List.getD_eq_getElem?_getD, List.getElem?_eq_getElem hi, List.getElem?_eq_getElem (h ▸ hi), Option.getD_some] at this
      simp [List.getElem?_eq_getElem hi, List.getElem?_eq_getElem (h ▸ hi), this]
    · rw [List.getElem?_eq_none (by simp; omega), List.getElem?_eq_none (by simp; omega)]
theorem diff_law {a c : List Raw} (ha : a.length = 9) (hc : c.length = 9) : (constB (diffL a c) = false → cmpR a c ≠ 0) ∧ (constB (diffL a c) = true → (cmpR a c = 0 ↔ ((diffL a c).getD 8 rz).q = 0)) := by
  have hat : ∀ i, i < 9 → ((diffL a c).getD i rz).q = (a.getD i rz).q - (c.getD i rz).q := fun i hi => diffL_at (by omega) (by omega)
  have hl : (diffL a c).length = 9 := by unfold diffL; rw [List.length_map]; exact addL_length ha (by simp [hc])
  have hall := cmpR_all (a := a) (c := c) (by omega)
  constructor
  · intro h h0
    have h1 : constB (diffL a c) = true := constB_true (fun i hi => by rw [hat i (by omega), hall.1 h0 i (by omega)]; exact Rat.sub_self)
    rw [h1] at h; cases h
  · intro h
    have h1 : ∀ i, i < 8 → ((diffL a c).getD i rz).q = 0 := fun i hi => by
      by_cases h2 : ((diffL a c).getD i rz).q = 0
      · exact h2
      · rw [constB_false hl hi h2] at h; cases h
    rw [hat 8 (by omega)]
    constructor
    · intro h0
      rw [hall.1 h0 8 (by omega)]; exact Rat.sub_self
    · intro h8
      rw [hall]
      intro i hi
      by_cases hi8 : i < 8
      · have := h1 i hi8
        rw [hat i (by omega)] at this
        grind
      · have : i = 8 := by omega
        subst this
        grind

theorem den6 (l : List Int) (hl : l.length < 9223372036854775808) (hw : W64 l) : Den Try.prog 6 [] [.fv (.sl (ints l))] [] (.bool true) := by
  have h10 := den10 l hl
  have hwt : W64 (l.take 1000) := fun x hx => hw x (List.mem_of_mem_take hx)
  have hxl : (l.take 1000).length ≤ 1000 := by rw [List.length_take]; omega
  obtain ⟨xs, hxs⟩ : ∃ t, l.take 1000 = t := ⟨_, rfl⟩
  rw [hxs] at h10 hwt hxl
  have hc := S_closed xs 0
  have h9 := den9 xs 0 hxl (Nat.zero_le _) hwt
  have hok := looseF_ok xs 0
  have ha1 := looseF_le (xs := xs) (a := 0) (Nat.zero_le _)
  obtain ⟨⟨rs, a1⟩, hr⟩ : ∃ t, looseF xs 0 = t := ⟨_, rfl⟩
  rw [hr] at h9 hok ha1
  dsimp only at h9 hok ha1
  have c1 := S_closed xs a1
  have h9b := den9 xs a1 hxl ha1 hwt
  have hok2 := looseF_ok xs a1
  have ha2 := looseF_le ha1
  obtain ⟨⟨ss, a2⟩, hr2⟩ : ∃ t, looseF xs a1 = t := ⟨_, rfl⟩
  rw [hr2] at h9b hok2 ha2
  dsimp only at h9b hok2 ha2
  have c2 := S_closed xs a2
  have h9c := den9 xs a2 hxl ha2 hwt
  have hok3 := looseF_ok xs a2
  have ha3 := looseF_le ha2
  obtain ⟨⟨ts, a3⟩, hr3⟩ : ∃ t, looseF xs a2 = t := ⟨_, rfl⟩
  rw [hr3] at h9c hok3 ha3
  dsimp only at h9c hok3 ha3
  have c3 := S_closed xs a3
  have hN := denN xs a3 3 hxl ha3 hwt (by decide) (by decide)
  obtain ⟨m, hm⟩ : ∃ t, nN xs a3 3 = t := ⟨_, rfl⟩
  rw [hm] at hN
  have hlen := hok.len
  have hlen2 := hok2.len
  have hlen3 := hok3.len
  have hfl : (flat rs).length = 27 := by rw [flat_length]; omega
  have hfl2 : (flat ss).length = 27 := by rw [flat_length]; omega
  have hfl3 : (flat ts).length = 27 := by rw [flat_length]; omega
  have h14 := den14
  have h24 := den24 (-1) (by decide)
  rw [FR_eq] at h24
  -- the rest, for whatever third form
  have tail : ∀ us : List Raw, LOk 10 us → ∃ (AB BA BC AC : Int) (Ys Zs : List Raw),
      LOk 1000000000 Ys ∧ LOk 1000000000 Zs ∧
      Den Try.prog 22 [] [.agg (flat rs), .agg (flat ss)] [] (.int .i64 AB) ∧ Den Try.prog 22 [] [.agg (flat ss), .agg (flat rs)] [] (.int .i64 BA) ∧
      Den Try.prog 22 [] [.agg (flat ss), .agg (flat us)] [] (.int .i64 BC) ∧ Den Try.prog 22 [] [.agg (flat rs), .agg (flat us)] [] (.int .i64 AC) ∧
      Den Try.prog 23 [] [.agg (flat us), FR ((-1 : Int) : Rat)] [] (.agg (flat Ys)) ∧ Den Try.prog 21 [] [.agg (flat rs), .agg (flat Ys)] [] (.agg (flat Zs)) ∧
      (BA = -1 ∨ BA = 0 ∨ BA = 1) ∧ AB = 0 - BA ∧ (AB ≤ 0 → BC ≤ 0 → AC ≤ 0) ∧ (constB Zs = false → AC ≠ 0) ∧ (constB Zs = true → (AC = 0 ↔ (Zs.getD 8 rz).q = 0)) := by
    intro us hus
    have hb1 : Bd 1 ((-1 : Int) : Rat) := ⟨by decide, by decide⟩
    have h23 := den23 us (cn ((-1 : Int) : Rat)) (hus.mono (by decide)) (Raw.Ok.mono (cn_ok hb1) (by decide))
    rw [cn_q] at h23
    have hmb : ∀ q ∈ us.map (fun r => r.q * ((-1 : Int) : Rat)), Bd 11 q := fun q hq => by
      simp only [List.mem_map] at hq
      obtain ⟨r, hr, rfl⟩ := hq
      exact Bd.mul (j := 10) (k := 1) ((hus.ok r hr).bd (by decide)) hb1 (by decide)
    have hY := LOk.of_map (by simp [hus.len]) hmb
    have hsum := addL_bd (j := 4) (k := 11) (hok.bd (by decide)) (hY.bd (by decide)) (by decide)
    have hZ := LOk.of_map (addL_length hlen hY.len) hsum
    have dl := diff_law hlen hus.len
    exact ⟨_, _, _, _, _, _, hY.mono (by decide), hZ.mono (by decide), den22 rs ss (hok.mono (by decide)) (hok2.mono (by decide)), den22 ss rs (hok2.mono (by decide)) (hok.mono (by decide)),
      den22 ss us (hok2.mono (by decide)) (hus.mono (by decide)), den22 rs us (hok.mono (by decide)) (hus.mono (by decide)), h23, den21 rs _ (hok.mono (by decide)) (hY.mono (by decide)),
      cmpR_range _ _, by rw [cmpR_swap rs ss]; omega, cmpR_trans rs ss us (by omega) (by rw [hlen2, hus.len]), dl.1, dl.2⟩
  unfold RL at h9 h9b h9c
  unfold S at h9 h9b h9c h10 hN hc c1 c2 c3
  refine den_of tabOk mixed Try.func6 (cd := _) rfl (by decide) rfl (n := 72) rfl rfl (m := 0) rfl ?_
  simp (dsimp := false) (disch := omega) only [List.replicate, rules]
  refine GoCall.pure h10 rfl ?_
  simp (dsimp := false) (disch := omega) only [List.append_nil, rules]
  refine GoCall.lend 0 h9 rfl rfl hc rfl rfl rfl ?_
  simp (dsimp := false) (disch := omega) only [sh1, List.append_nil, flat_reloc, rules]
  refine GoCall.lend 0 h9b rfl rfl c1 rfl rfl rfl ?_
  simp (dsimp := false) (disch := omega) only [sh1, List.append_nil, flat_reloc, rules]
  refine GoCall.lend 0 h9c rfl rfl c2 rfl rfl rfl ?_
  simp (dsimp := false) (disch := omega) only [sh1, List.append_nil, flat_reloc, hfl, hfl2, hfl3, rules, tys, eq_self, Nat.reduceAdd, Nat.reduceLT, Nat.reduceLeDiff]
  repeat refine And.intro (by omega) ?_
  refine GoCall.lend 0 hN rfl rfl c3 rfl rfl rfl ?_
  by_cases hm0 : m = 0
  · have hb : ((m : Int) == 0) = true := by rw [hm0]; rfl
    have hok0 : LOk 1 (List.replicate 9 rz) := zeros_ok
    have hs0 := addL_bd (j := 4) (k := 1) (hok.bd (by decide)) (hok0.bd (by decide)) (by decide)
    have hU := LOk.of_map (addL_length hlen hok0.len) hs0
    have h21 := den21 rs (List.replicate 9 rz) (hok.mono (by decide)) zeros_ok
    unfold FL RL at h21
    obtain ⟨us, hus⟩ : ∃ t, (addL rs (List.replicate 9 rz)).map cn = t := ⟨_, rfl⟩
    rw [hus] at hU h21
    have hU10 := hU.mono (show 4 + 1 + 1 ≤ 10 by decide)
    have hUl := hU.len
    have hU27 : (flat us).length = 27 := by rw [flat_length]; omega
    have hzf : flat (List.replicate 9 rz) = [.bool false, .fv (.sl []), .fv (.sl []), .bool false, .fv (.sl []), .fv (.sl []), .bool false, .fv (.sl []), .fv (.sl []), .bool false, .fv (.sl []), .fv (.sl []), .bool false, .fv (.sl []), .fv (.sl []), .bool false, .fv (.sl []), .fv (.sl []), .bool false, .fv (.sl []), .fv (.sl []), .bool false, .fv (.sl []), .fv (.sl []), .bool false, .fv (.sl []), .fv (.sl [])] := rfl
    rw [hzf] at h21
    simp (dsimp := false) (disch := omega) only [sh2, List.append_nil, hb, flat_take27 hlen, rules, tys, eq_self, ↓reduceIte, Nat.reduceAdd]
    repeat refine And.intro (by omega) ?_
    refine GoCall.pure h21 (by simp [fzAs, fzA, flat_fz, flatF_fv, fzs, fz0]) ?_
    have hts27 : List.drop 27 (flat ts) = [] := List.drop_of_length_le (by omega)
    simp (dsimp := false) (disch := omega) only [flat_ids, flat_reloc, List.append_nil, hU27, hfl3, hts27, rules, tys, eq_self, Nat.reduceAdd, Nat.reduceLT, Nat.reduceLeDiff]
    repeat refine And.intro (by omega) ?_

    obtain ⟨AB, BA, BC, AC, Ys, Zs, hY, hZ, dAB, dBA, dBC, dAC, d23, d21, hBA, hsw, htr, p1, p2⟩ := tail us hU10
    rw [FR_eq] at d23
    have ZL := hZ.len
    have Z27 : (flat Zs).length = 27 := by rw [flat_length]; omega
    have d25 := den25 Zs hZ
    unfold RL at d25
    have d26 := den26 (Zs.getD 8 rz) ((hZ.at 8).mono (by decide))
    have hatZ := flat_at (rs := Zs) (i := 8) (by omega)
    simp only [Nat.reduceMul] at hatZ
    unfold Raw.v at d26
    have hne : (AB != AB) = false := by simp
    refine Draw.intro (by kernel_rfl) ?_
    simp (dsimp := false) (disch := omega) only [flat_take27 hlen, flat_take27 hlen2, rules, tys, eq_self, ↓reduceIte]
    repeat refine And.intro (by omega) ?_
    refine GoCall.pure dAB (by simp [fzAs, fzA, flat_fz, flatF_fv]) ?_
    simp (dsimp := false) (disch := omega) only [flat_ids, List.append_nil, flat_take27 hlen, flat_take27 hlen2, rules, tys, eq_self, ↓reduceIte, Nat.reduceAdd]
    repeat refine And.intro (by omega) ?_
    refine GoCall.pure dBA (by simp [fzAs, fzA, flat_fz, flatF_fv]) ?_
    simp (dsimp := false) (disch := omega) only [flat_ids, List.append_nil, flat_take27 hlen2, flat_take27 hUl, rules, tys, eq_self, ↓reduceIte, Nat.reduceAdd]
    repeat refine And.intro (by omega) ?_
    refine GoCall.pure dBC (by simp [fzAs, fzA, flat_fz, flatF_fv]) ?_
    simp (dsimp := false) (disch := omega) only [flat_ids, List.append_nil, flat_take27 hlen, flat_take27 hUl, rules, tys, eq_self, ↓reduceIte, Nat.reduceAdd]
    repeat refine And.intro (by omega) ?_
    refine GoCall.pure dAC (by simp [fzAs, fzA, flat_fz, flatF_fv]) ?_
    simp (dsimp := false) (disch := omega) only [flat_ids, List.append_nil, ← hsw, hne, wrap64, rules, tys, eq_self, ↓reduceIte, Nat.reduceAdd]
    refine Br.dec ?_ ?_
    · intro g1 g2
      simp (dsimp := false) (disch := omega) only [g2, rules, tys, eq_self, ↓reduceIte]
      refine Br.dec ?_ ?_
      · intro g3 g4
        have g5 : decide (AC > 0) = false := decide_eq_false (by have := htr g1 g3; omega)
        simp (dsimp := false) (disch := omega) only [g4, g5, rules, tys, eq_self, ↓reduceIte]
        refine Draw.intro (by kernel_rfl) ?_
        simp (dsimp := false) (disch := omega) only [flat_take27 hlen, flat_take27 hUl, rules, tys, eq_self, ↓reduceIte]
        repeat refine And.intro (by omega) ?_
        refine GoCall.pure h24 rfl ?_
        simp (dsimp := false) (disch := omega) only [List.append_nil, rules, Nat.reduceAdd]
        repeat refine And.intro (by omega) ?_
        refine GoCall.pure d23 (by simp [fzAs, fzA, flat_fz, flatF_fv, fzs, fz0]) ?_
        simp (dsimp := false) (disch := omega) only [flat_ids, flat_reloc, List.append_nil, rules, Nat.reduceAdd]
        repeat refine And.intro (by omega) ?_
        refine GoCall.pure d21 (by simp [fzAs, fzA, flat_fz, flatF_fv]) ?_
        simp (dsimp := false) (disch := omega) only [flat_ids, flat_reloc, List.append_nil, Z27, flat_take27 ZL, rules, tys, eq_self, ↓reduceIte, Nat.reduceAdd, Nat.reduceLT, Nat.reduceLeDiff]
        repeat refine And.intro (by omega) ?_
        refine GoCall.pure d25 (by simp [fzAs, fzA, flat_fz, flatF_fv]) ?_
        rcases hP : constB Zs with _ | _
        · have hA := p1 hP
          have hb : (AC == 0) = false := by rw [beq_eq_false_iff_ne]; exact hA
          simp (dsimp := false) (disch := omega) only [flat_ids, List.append_nil, hb, rules, tys, ↓reduceIte, reduceCtorEq, Nat.reduceAdd]
          have hff : (false == false) = true := rfl
          simp (dsimp := false) (disch := omega) only [hff, rules]
          refine GoCall.pure h14 rfl ?_
          simp (dsimp := false) (disch := omega) only [List.append_nil, Ap_end_ret, rules, Nat.reduceAdd]
          exact RetOK.pure rfl ⟨trivial, trivial⟩ rfl
        · have hA := p2 hP
          have hb : ((AC == 0) == (sgq (Zs.getD 8 rz).q == 0)) = true := by
            rw [beq_iff_eq]
            by_cases h0 : AC = 0
            · rw [h0, sgq_eq_zero.2 (hA.1 h0)]
            · have h1 : (AC == 0) = false := by rw [beq_eq_false_iff_ne]; exact h0
              have h2 : (sgq (Zs.getD 8 rz).q == 0) = false := by rw [beq_eq_false_iff_ne]; exact fun h => h0 (hA.2 (sgq_eq_zero.1 h))
              rw [h1, h2]
          simp (dsimp := false) (disch := omega) only [flat_ids, List.append_nil, hatZ, rules, tys, eq_self, ↓reduceIte, Nat.reduceAdd]
          repeat refine And.intro (by omega) ?_
          refine GoCall.pure d26 rfl ?_
          simp (dsimp := false) (disch := omega) only [List.append_nil, hb, rules, tys, eq_self, ↓reduceIte, reduceCtorEq, Nat.reduceAdd]
          refine GoCall.pure h14 rfl ?_
          simp (dsimp := false) (disch := omega) only [List.append_nil, Ap_end_ret, rules, eq_self, ↓reduceIte, Nat.reduceAdd]
          exact RetOK.pure rfl ⟨trivial, trivial⟩ rfl
      · intro g3 g4
        simp (dsimp := false) (disch := omega) only [g4, rules, ↓reduceIte]
        refine Draw.intro (by kernel_rfl) ?_
        simp (dsimp := false) (disch := omega) only [flat_take27 hlen, flat_take27 hUl, rules, tys, eq_self, ↓reduceIte]
        repeat refine And.intro (by omega) ?_
        refine GoCall.pure h24 rfl ?_
        simp (dsimp := false) (disch := omega) only [List.append_nil, rules, Nat.reduceAdd]
        repeat refine And.intro (by omega) ?_
        refine GoCall.pure d23 (by simp [fzAs, fzA, flat_fz, flatF_fv, fzs, fz0]) ?_
        simp (dsimp := false) (disch := omega) only [flat_ids, flat_reloc, List.append_nil, rules, Nat.reduceAdd]
        repeat refine And.intro (by omega) ?_
        refine GoCall.pure d21 (by simp [fzAs, fzA, flat_fz, flatF_fv]) ?_
        simp (dsimp := false) (disch := omega) only [flat_ids, flat_reloc, List.append_nil, Z27, flat_take27 ZL, rules, tys, eq_self, ↓reduceIte, Nat.reduceAdd, Nat.reduceLT, Nat.reduceLeDiff]
        repeat refine And.intro (by omega) ?_
        refine GoCall.pure d25 (by simp [fzAs, fzA, flat_fz, flatF_fv]) ?_
        rcases hP : constB Zs with _ | _
        · have hA := p1 hP
          have hb : (AC == 0) = false := by rw [beq_eq_false_iff_ne]; exact hA
          simp (dsimp := false) (disch := omega) only [flat_ids, List.append_nil, hb, rules, tys, ↓reduceIte, reduceCtorEq, Nat.reduceAdd]
          have hff : (false == false) = true := rfl
          simp (dsimp := false) (disch := omega) only [hff, rules]
          refine GoCall.pure h14 rfl ?_
          simp (dsimp := false) (disch := omega) only [List.append_nil, Ap_end_ret, rules, Nat.reduceAdd]
          exact RetOK.pure rfl ⟨trivial, trivial⟩ rfl
        · have hA := p2 hP
          have hb : ((AC == 0) == (sgq (Zs.getD 8 rz).q == 0)) = true := by
            rw [beq_iff_eq]
            by_cases h0 : AC = 0
            · rw [h0, sgq_eq_zero.2 (hA.1 h0)]
            · have h1 : (AC == 0) = false := by rw [beq_eq_false_iff_ne]; exact h0
              have h2 : (sgq (Zs.getD 8 rz).q == 0) = false := by rw [beq_eq_false_iff_ne]; exact fun h => h0 (hA.2 (sgq_eq_zero.1 h))
              rw [h1, h2]
          simp (dsimp := false) (disch := omega) only [flat_ids, List.append_nil, hatZ, rules, tys, eq_self, ↓reduceIte, Nat.reduceAdd]
          repeat refine And.intro (by omega) ?_
          refine GoCall.pure d26 rfl ?_
          simp (dsimp := false) (disch := omega) only [List.append_nil, hb, rules, tys, eq_self, ↓reduceIte, reduceCtorEq, Nat.reduceAdd]
          refine GoCall.pure h14 rfl ?_
          simp (dsimp := false) (disch := omega) only [List.append_nil, Ap_end_ret, rules, eq_self, ↓reduceIte, Nat.reduceAdd]
          exact RetOK.pure rfl ⟨trivial, trivial⟩ rfl
    · intro g1 g2
      simp (dsimp := false) (disch := omega) only [g2, rules, ↓reduceIte]
      refine Draw.intro (by kernel_rfl) ?_
      simp (dsimp := false) (disch := omega) only [flat_take27 hlen, flat_take27 hUl, rules, tys, eq_self, ↓reduceIte]
      repeat refine And.intro (by omega) ?_
      refine GoCall.pure h24 rfl ?_
      simp (dsimp := false) (disch := omega) only [List.append_nil, rules, Nat.reduceAdd]
      repeat refine And.intro (by omega) ?_
      refine GoCall.pure d23 (by simp [fzAs, fzA, flat_fz, flatF_fv, fzs, fz0]) ?_
      simp (dsimp := false) (disch := omega) only [flat_ids, flat_reloc, List.append_nil, rules, Nat.reduceAdd]
      repeat refine And.intro (by omega) ?_
      refine GoCall.pure d21 (by simp [fzAs, fzA, flat_fz, flatF_fv]) ?_
      simp (dsimp := false) (disch := omega) only [flat_ids, flat_reloc, List.append_nil, Z27, flat_take27 ZL, rules, tys, eq_self, ↓reduceIte, Nat.reduceAdd, Nat.reduceLT, Nat.reduceLeDiff]
      repeat refine And.intro (by omega) ?_
      refine GoCall.pure d25 (by simp [fzAs, fzA, flat_fz, flatF_fv]) ?_
      rcases hP : constB Zs with _ | _
      · have hA := p1 hP
        have hb : (AC == 0) = false := by rw [beq_eq_false_iff_ne]; exact hA
        simp (dsimp := false) (disch := omega) only [flat_ids, List.append_nil, hb, rules, tys, ↓reduceIte, reduceCtorEq, Nat.reduceAdd]
        have hff : (false == false) = true := rfl
        simp (dsimp := false) (disch := omega) only [hff, rules]
        refine GoCall.pure h14 rfl ?_
        simp (dsimp := false) (disch := omega) only [List.append_nil, Ap_end_ret, rules, Nat.reduceAdd]
        exact RetOK.pure rfl ⟨trivial, trivial⟩ rfl
      · have hA := p2 hP
        have hb : ((AC == 0) == (sgq (Zs.getD 8 rz).q == 0)) = true := by
          rw [beq_iff_eq]
          by_cases h0 : AC = 0
          · rw [h0, sgq_eq_zero.2 (hA.1 h0)]
          · have h1 : (AC == 0) = false := by rw [beq_eq_false_iff_ne]; exact h0
            have h2 : (sgq (Zs.getD 8 rz).q == 0) = false := by rw [beq_eq_false_iff_ne]; exact fun h => h0 (hA.2 (sgq_eq_zero.1 h))
            rw [h1, h2]
        simp (dsimp := false) (disch := omega) only [flat_ids, List.append_nil, hatZ, rules, tys, eq_self, ↓reduceIte, Nat.reduceAdd]
        repeat refine And.intro (by omega) ?_
        refine GoCall.pure d26 rfl ?_
        simp (dsimp := false) (disch := omega) only [List.append_nil, hb, rules, tys, eq_self, ↓reduceIte, reduceCtorEq, Nat.reduceAdd]
        refine GoCall.pure h14 rfl ?_
        simp (dsimp := false) (disch := omega) only [List.append_nil, Ap_end_ret, rules, eq_self, ↓reduceIte, Nat.reduceAdd]
        exact RetOK.pure rfl ⟨trivial, trivial⟩ rfl
  · have hb : ((m : Int) == 0) = false := by rw [beq_eq_false_iff_ne]; omega
    simp (dsimp := false) (disch := omega) only [sh2, List.append_nil, hb, rules, tys, eq_self, ↓reduceIte, Nat.reduceAdd]
    obtain ⟨AB, BA, BC, AC, Ys, Zs, hY, hZ, dAB, dBA, dBC, dAC, d23, d21, hBA, hsw, htr, p1, p2⟩ := tail ts (hok3.mono (by decide))
    rw [FR_eq] at d23
    have ZL := hZ.len
    have Z27 : (flat Zs).length = 27 := by rw [flat_length]; omega
    have d25 := den25 Zs hZ
    unfold RL at d25
    have d26 := den26 (Zs.getD 8 rz) ((hZ.at 8).mono (by decide))
    have hatZ := flat_at (rs := Zs) (i := 8) (by omega)
    simp only [Nat.reduceMul] at hatZ
    unfold Raw.v at d26
    have hne : (AB != AB) = false := by simp
    refine Draw.intro (by kernel_rfl) ?_
    simp (dsimp := false) (disch := omega) only [flat_take27 hlen, flat_take27 hlen2, rules, tys, eq_self, ↓reduceIte]
    repeat refine And.intro (by omega) ?_
    refine GoCall.pure dAB (by simp [fzAs, fzA, flat_fz, flatF_fv]) ?_
    simp (dsimp := false) (disch := omega) only [flat_ids, List.append_nil, flat_take27 hlen, flat_take27 hlen2, rules, tys, eq_self, ↓reduceIte, Nat.reduceAdd]
    repeat refine And.intro (by omega) ?_
    refine GoCall.pure dBA (by simp [fzAs, fzA, flat_fz, flatF_fv]) ?_
    simp (dsimp := false) (disch := omega) only [flat_ids, List.append_nil, flat_take27 hlen2, flat_take27 hlen3, rules, tys, eq_self, ↓reduceIte, Nat.reduceAdd]
    repeat refine And.intro (by omega) ?_
    refine GoCall.pure dBC (by simp [fzAs, fzA, flat_fz, flatF_fv]) ?_
    simp (dsimp := false) (disch := omega) only [flat_ids, List.append_nil, flat_take27 hlen, flat_take27 hlen3, rules, tys, eq_self, ↓reduceIte, Nat.reduceAdd]
    repeat refine And.intro (by omega) ?_
    refine GoCall.pure dAC (by simp [fzAs, fzA, flat_fz, flatF_fv]) ?_
    simp (dsimp := false) (disch := omega) only [flat_ids, List.append_nil, ← hsw, hne, wrap64, rules, tys, eq_self, ↓reduceIte, Nat.reduceAdd]
    refine Br.dec ?_ ?_
    · intro g1 g2
      simp (dsimp := false) (disch := omega) only [g2, rules, tys, eq_self, ↓reduceIte]
      refine Br.dec ?_ ?_
      · intro g3 g4
        have g5 : decide (AC > 0) = false := decide_eq_false (by have := htr g1 g3; omega)
        simp (dsimp := false) (disch := omega) only [g4, g5, rules, tys, eq_self, ↓reduceIte]
        refine Draw.intro (by kernel_rfl) ?_
        simp (dsimp := false) (disch := omega) only [flat_take27 hlen, flat_take27 hlen3, rules, tys, eq_self, ↓reduceIte]
        repeat refine And.intro (by omega) ?_
        refine GoCall.pure h24 rfl ?_
        simp (dsimp := false) (disch := omega) only [List.append_nil, rules, Nat.reduceAdd]
        repeat refine And.intro (by omega) ?_
        refine GoCall.pure d23 (by simp [fzAs, fzA, flat_fz, flatF_fv, fzs, fz0]) ?_
        simp (dsimp := false) (disch := omega) only [flat_ids, flat_reloc, List.append_nil, rules, Nat.reduceAdd]
        repeat refine And.intro (by omega) ?_
        refine GoCall.pure d21 (by simp [fzAs, fzA, flat_fz, flatF_fv]) ?_
        simp (dsimp := false) (disch := omega) only [flat_ids, flat_reloc, List.append_nil, Z27, flat_take27 ZL, rules, tys, eq_self, ↓reduceIte, Nat.reduceAdd, Nat.reduceLT, Nat.reduceLeDiff]
        repeat refine And.intro (by omega) ?_
        refine GoCall.pure d25 (by simp [fzAs, fzA, flat_fz, flatF_fv]) ?_
        rcases hP : constB Zs with _ | _
        · have hA := p1 hP
          have hb : (AC == 0) = false := by rw [beq_eq_false_iff_ne]; exact hA
          simp (dsimp := false) (disch := omega) only [flat_ids, List.append_nil, hb, rules, tys, ↓reduceIte, reduceCtorEq, Nat.reduceAdd]
          have hff : (false == false) = true := rfl
          simp (dsimp := false) (disch := omega) only [hff, rules]
          refine GoCall.pure h14 rfl ?_
          simp (dsimp := false) (disch := omega) only [List.append_nil, Ap_end_ret, rules, Nat.reduceAdd]
          exact RetOK.pure rfl ⟨trivial, trivial⟩ rfl
        · have hA := p2 hP
          have hb : ((AC == 0) == (sgq (Zs.getD 8 rz).q == 0)) = true := by
            rw [beq_iff_eq]
            by_cases h0 : AC = 0
            · rw [h0, sgq_eq_zero.2 (hA.1 h0)]
            · have h1 : (AC == 0) = false := by rw [beq_eq_false_iff_ne]; exact h0
              have h2 : (sgq (Zs.getD 8 rz).q == 0) = false := by rw [beq_eq_false_iff_ne]; exact fun h => h0 (hA.2 (sgq_eq_zero.1 h))
              rw [h1, h2]
          simp (dsimp := false) (disch := omega) only [flat_ids, List.append_nil, hatZ, rules, tys, eq_self, ↓reduceIte, Nat.reduceAdd]
          repeat refine And.intro (by omega) ?_
          refine GoCall.pure d26 rfl ?_
          simp (dsimp := false) (disch := omega) only [List.append_nil, hb, rules, tys, eq_self, ↓reduceIte, reduceCtorEq, Nat.reduceAdd]
          refine GoCall.pure h14 rfl ?_
          simp (dsimp := false) (disch := omega) only [List.append_nil, Ap_end_ret, rules, eq_self, ↓reduceIte, Nat.reduceAdd]
          exact RetOK.pure rfl ⟨trivial, trivial⟩ rfl
      · intro g3 g4
        simp (dsimp := false) (disch := omega) only [g4, rules, ↓reduceIte]
        refine Draw.intro (by kernel_rfl) ?_
        simp (dsimp := false) (disch := omega) only [flat_take27 hlen, flat_take27 hlen3, rules, tys, eq_self, ↓reduceIte]
        repeat refine And.intro (by omega) ?_
        refine GoCall.pure h24 rfl ?_
        simp (dsimp := false) (disch := omega) only [List.append_nil, rules, Nat.reduceAdd]
        repeat refine And.intro (by omega) ?_
        refine GoCall.pure d23 (by simp [fzAs, fzA, flat_fz, flatF_fv, fzs, fz0]) ?_
        simp (dsimp := false) (disch := omega) only [flat_ids, flat_reloc, List.append_nil, rules, Nat.reduceAdd]
        repeat refine And.intro (by omega) ?_
        refine GoCall.pure d21 (by simp [fzAs, fzA, flat_fz, flatF_fv]) ?_
        simp (dsimp := false) (disch := omega) only [flat_ids, flat_reloc, List.append_nil, Z27, flat_take27 ZL, rules, tys, eq_self, ↓reduceIte, Nat.reduceAdd, Nat.reduceLT, Nat.reduceLeDiff]
        repeat refine And.intro (by omega) ?_
        refine GoCall.pure d25 (by simp [fzAs, fzA, flat_fz, flatF_fv]) ?_
        rcases hP : constB Zs with _ | _
        · have hA := p1 hP
          have hb : (AC == 0) = false := by rw [beq_eq_false_iff_ne]; exact hA
          simp (dsimp := false) (disch := omega) only [flat_ids, List.append_nil, hb, rules, tys, ↓reduceIte, reduceCtorEq, Nat.reduceAdd]
          have hff : (false == false) = true := rfl
          simp (dsimp := false) (disch := omega) only [hff, rules]
          refine GoCall.pure h14 rfl ?_
          simp (dsimp := false) (disch := omega) only [List.append_nil, Ap_end_ret, rules, Nat.reduceAdd]
          exact RetOK.pure rfl ⟨trivial, trivial⟩ rfl
        · have hA := p2 hP
          have hb : ((AC == 0) == (sgq (Zs.getD 8 rz).q == 0)) = true := by
            rw [beq_iff_eq]
            by_cases h0 : AC = 0
            · rw [h0, sgq_eq_zero.2 (hA.1 h0)]
            · have h1 : (AC == 0) = false := by rw [beq_eq_false_iff_ne]; exact h0
              have h2 : (sgq (Zs.getD 8 rz).q == 0) = false := by rw [beq_eq_false_iff_ne]; exact fun h => h0 (hA.2 (sgq_eq_zero.1 h))
              rw [h1, h2]
          simp (dsimp := false) (disch := omega) only [flat_ids, List.append_nil, hatZ, rules, tys, eq_self, ↓reduceIte, Nat.reduceAdd]
          repeat refine And.intro (by omega) ?_
          refine GoCall.pure d26 rfl ?_
          simp (dsimp := false) (disch := omega) only [List.append_nil, hb, rules, tys, eq_self, ↓reduceIte, reduceCtorEq, Nat.reduceAdd]
          refine GoCall.pure h14 rfl ?_
          simp (dsimp := false) (disch := omega) only [List.append_nil, Ap_end_ret, rules, eq_self, ↓reduceIte, Nat.reduceAdd]
          exact RetOK.pure rfl ⟨trivial, trivial⟩ rfl
    · intro g1 g2
      simp (dsimp := false) (disch := omega) only [g2, rules, ↓reduceIte]
      refine Draw.intro (by kernel_rfl) ?_
      simp (dsimp := false) (disch := omega) only [flat_take27 hlen, flat_take27 hlen3, rules, tys, eq_self, ↓reduceIte]
      repeat refine And.intro (by omega) ?_
      refine GoCall.pure h24 rfl ?_
      simp (dsimp := false) (disch := omega) only [List.append_nil, rules, Nat.reduceAdd]
      repeat refine And.intro (by omega) ?_
      refine GoCall.pure d23 (by simp [fzAs, fzA, flat_fz, flatF_fv, fzs, fz0]) ?_
      simp (dsimp := false) (disch := omega) only [flat_ids, flat_reloc, List.append_nil, rules, Nat.reduceAdd]
      repeat refine And.intro (by omega) ?_
      refine GoCall.pure d21 (by simp [fzAs, fzA, flat_fz, flatF_fv]) ?_
      simp (dsimp := false) (disch := omega) only [flat_ids, flat_reloc, List.append_nil, Z27, flat_take27 ZL, rules, tys, eq_self, ↓reduceIte, Nat.reduceAdd, Nat.reduceLT, Nat.reduceLeDiff]
      repeat refine And.intro (by omega) ?_
      refine GoCall.pure d25 (by simp [fzAs, fzA, flat_fz, flatF_fv]) ?_
      rcases hP : constB Zs with _ | _
      · have hA := p1 hP
        have hb : (AC == 0) = false := by rw [beq_eq_false_iff_ne]; exact hA
        simp (dsimp := false) (disch := omega) only [flat_ids, List.append_nil, hb, rules, tys, ↓reduceIte, reduceCtorEq, Nat.reduceAdd]
        have hff : (false == false) = true := rfl
        simp (dsimp := false) (disch := omega) only [hff, rules]
        refine GoCall.pure h14 rfl ?_
        simp (dsimp := false) (disch := omega) only [List.append_nil, Ap_end_ret, rules, Nat.reduceAdd]
        exact RetOK.pure rfl ⟨trivial, trivial⟩ rfl
      · have hA := p2 hP
        have hb : ((AC == 0) == (sgq (Zs.getD 8 rz).q == 0)) = true := by
          rw [beq_iff_eq]
          by_cases h0 : AC = 0
          · rw [h0, sgq_eq_zero.2 (hA.1 h0)]
          · have h1 : (AC == 0) = false := by rw [beq_eq_false_iff_ne]; exact h0
            have h2 : (sgq (Zs.getD 8 rz).q == 0) = false := by rw [beq_eq_false_iff_ne]; exact fun h => h0 (hA.2 (sgq_eq_zero.1 h))
            rw [h1, h2]
        simp (dsimp := false) (disch := omega) only [flat_ids, List.append_nil, hatZ, rules, tys, eq_self, ↓reduceIte, Nat.reduceAdd]
        repeat refine And.intro (by omega) ?_
        refine GoCall.pure d26 rfl ?_
        simp (dsimp := false) (disch := omega) only [List.append_nil, hb, rules, tys, eq_self, ↓reduceIte, reduceCtorEq, Nat.reduceAdd]
        refine GoCall.pure h14 rfl ?_
        simp (dsimp := false) (disch := omega) only [List.append_nil, Ap_end_ret, rules, eq_self, ↓reduceIte, Nat.reduceAdd]
        exact RetOK.pure rfl ⟨trivial, trivial⟩ rfl

end Go.Proofs.Yteifpjjnphcdcaa
