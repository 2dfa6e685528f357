/- Contracts: the law LinearCompatible. -/
import Derived.Test.YteifpjjnphcdcaaE2

namespace Go.Proofs.Yteifpjjnphcdcaa
open Go.AM Go.Pl
set_option maxRecDepth 100000
set_option maxHeartbeats 8000000

theorem sumL_ok {a b : List Raw} {r : Rat} {i j k : Nat} (ha : LOk i a) (hb : LOk j b) (hr : Bd k r) (h1 : 1 ≤ i) (h2 : 1 ≤ j) : LOk (i + k + j + 1) (sumL a r b) := by
  have hm : ∀ x ∈ (a.map (fun x => x.q * r)).map cn, Bd (i + k) x.q := fun x hx => by
    simp only [List.mem_map] at hx
    obtain ⟨q, ⟨w, hw, rfl⟩, rfl⟩ := hx
    rw [cn_q]
    exact ((ha.ok w hw).bd h1).mul hr (by omega)
  exact LOk.of_map (addL_length (by simp [ha.len]) hb.len) (addL_bd hm (hb.bd h2) (by omega))
theorem subL_ok {a b : List Raw} (v : Nat) {i j : Nat} (ha : LOk i a) (hb : LOk j b) (h1 : 1 ≤ i) (h2 : 1 ≤ j) : LOk (i + (j + i) + 1) ((subL a v b).map cn) := by
  have hm : ∀ x ∈ (b.map (fun r => r.q * (a.getD v rz).q)).map cn, Bd (j + i) x.q := fun x hx => by
    simp only [List.mem_map] at hx
    obtain ⟨q, ⟨w, hw, rfl⟩, rfl⟩ := hx
    rw [cn_q]
    exact ((hb.ok w hw).bd h2).mul ((ha.at v).bd h1) (by omega)
  exact LOk.of_map (subL_length v ha.len hb.len) (addL_bd ((set_ok ha v).bd h1) hm (by omega))

/-- A multiple, and the sum with another. -/
theorem den_sum {a b : List Raw} {r : Rat} (ha : LOk 1000 a) (hb : LOk 1000 b) (hr : Bd 2 r) : ∃ Y : List Raw, Y.length = 9 ∧
    Den Try.prog 23 [] [.agg (flat a), FR r] [] (.agg (flat Y)) ∧ Den Try.prog 21 [] [.agg (flat Y), .agg (flat b)] [] (.agg (flat (sumL a r b))) := by
  have h23 := den23 a (cn r) (ha.mono (by decide)) (Raw.Ok.mono (cn_ok hr) (by decide))
  rw [cn_q] at h23
  have hm : ∀ q ∈ a.map (fun x => x.q * r), Bd 1002 q := fun q hq => by
    simp only [List.mem_map] at hq
    obtain ⟨w, hw, rfl⟩ := hq
    exact Bd.mul (j := 1000) (k := 2) ((ha.ok w hw).bd (by decide)) hr (by decide)
  have hY := LOk.of_map (by simp [ha.len]) hm
  exact ⟨_, hY.len, h23, den21 _ b (hY.mono (by decide)) (hb.mono (by decide))⟩

theorem den8 (l : List Int) (hl : l.length < 9223372036854775808) (hw : W64 l) : Den Try.prog 8 [] [.fv (.sl (ints l))] [] (.bool true) := by
  have h10 := den10 l hl
  have hwt : W64 (l.take 1000) := fun x hx => hw x (List.mem_of_mem_take hx)
  have hxl : (l.take 1000).length ≤ 1000 := by rw [List.length_take]; omega
  obtain ⟨xs, hxs⟩ : ∃ t, l.take 1000 = t := ⟨_, rfl⟩
  rw [hxs] at h10 hwt hxl
  have hc := S_closed xs 0
  have h9 := den9 xs 0 hxl (Nat.zero_le _) hwt
  have hok := looseF_ok xs 0
  have ha1 := looseF_le (xs := xs) (a := 0) (Nat.zero_le _)
  obtain ⟨⟨rs, a1⟩, hr⟩ : ∃ t, looseF xs 0 = t := ⟨_, rfl⟩
  rw [hr] at h9 hok ha1
  dsimp only at h9 hok ha1
  have c1 := S_closed xs a1
  have h9b := den9 xs a1 hxl ha1 hwt
  have hok2 := looseF_ok xs a1
  have ha2 := looseF_le ha1
  obtain ⟨⟨ss, a2⟩, hr2⟩ : ∃ t, looseF xs a1 = t := ⟨_, rfl⟩
  rw [hr2] at h9b hok2 ha2
  dsimp only at h9b hok2 ha2
  have c2 := S_closed xs a2
  have h9c := den9 xs a2 hxl ha2 hwt
  have hok3 := looseF_ok xs a2
  have ha3 := looseF_le ha2
  obtain ⟨⟨ts, a3⟩, hr3⟩ : ∃ t, looseF xs a2 = t := ⟨_, rfl⟩
  rw [hr3] at h9c hok3 ha3
  dsimp only at h9c hok3 ha3
  have c3 := S_closed xs a3
  have h30 := den30 xs a3 hxl ha3 hwt
  have hrb := ratR_bd xs a3
  have ha4 := nx_le (nx_le ha3)
  obtain ⟨a4, e4⟩ : ∃ t, nx xs (nx xs a3) = t := ⟨_, rfl⟩
  obtain ⟨r, hrr⟩ : ∃ t, ratR xs a3 = t := ⟨_, rfl⟩
  rw [hrr, e4] at h30
  rw [hrr] at hrb
  rw [e4] at ha4
  have c4 := S_closed xs a4
  have hN := denN xs a4 8 hxl ha4 hwt (by decide) (by decide)
  have hv := nN_lt (xs := xs) (a := a4) (n := 8) (by decide)
  have ha5 := nx_le ha4
  obtain ⟨v, hvv⟩ : ∃ t, nN xs a4 8 = t := ⟨_, rfl⟩
  obtain ⟨a5, e5⟩ : ∃ t, nx xs a4 = t := ⟨_, rfl⟩
  rw [hvv, e5] at hN
  rw [hvv] at hv
  rw [e5] at ha5
  have c5 := S_closed xs a5
  have h27 := den27 xs a5 8 hxl ha5 hwt (by decide)
  have hpl := pointF_length xs 8 a5
  have hpb := pointF_bd xs 8 a5
  obtain ⟨ps, hps⟩ : ∃ t, pointF xs 8 a5 = t := ⟨_, rfl⟩
  obtain ⟨a6, e6⟩ : ∃ t, nxs xs (2 * 8) a5 = t := ⟨_, rfl⟩
  rw [hps, e6] at h27
  rw [hps] at hpl hpb
  have hlen := hok.len
  have hlen2 := hok2.len
  have hlen3 := hok3.len
  have hfl : (flat rs).length = 27 := by rw [flat_length]; omega
  have hfl2 : (flat ss).length = 27 := by rw [flat_length]; omega
  have hfl3 : (flat ts).length = 27 := by rw [flat_length]; omega
  have h14 := den14
  -- the sum
  obtain ⟨Y, hYl, dY, dS⟩ := den_sum (hok.mono (by decide)) (hok2.mono (by decide)) hrb
  have hSok : LOk 11 (sumL rs r ss) := sumL_ok (i := 4) (j := 4) (k := 2) hok hok2 hrb (by decide) (by decide)
  -- the values
  have dEs := den28 (sumL rs r ss) ps (hSok.mono (by decide)) hpb hpl
  have dEa := den28 rs ps (hok.mono (by decide)) hpb hpl
  have dEb := den28 ss ps (hok2.mono (by decide)) hpb hpl
  have bEs := evalN_bd hSok (by decide) hpb hpl 8 (by decide)
  have bEa := evalN_bd hok (by decide) hpb hpl 8 (by decide)
  have bEb := evalN_bd hok2 (by decide) hpb hpl 8 (by decide)
  have hes := eval_sum (r := r) ps hlen hlen2 8 (by decide)
  -- the substitutions
  have dP := den18 rs ts v (hok.mono (by decide)) (hok3.mono (by decide)) hv
  have dQ := den18 ss ts v (hok2.mono (by decide)) (hok3.mono (by decide)) hv
  have dT := den18 (sumL rs r ss) ts v (hSok.mono (by decide)) (hok3.mono (by decide)) hv
  have hPok : LOk 13 ((subL rs v ts).map cn) := subL_ok v (i := 4) (j := 4) hok hok3 (by decide) (by decide)
  have hQok : LOk 13 ((subL ss v ts).map cn) := subL_ok v (i := 4) (j := 4) hok2 hok3 (by decide) (by decide)
  have hTok : LOk 27 ((subL (sumL rs r ss) v ts).map cn) := subL_ok v (i := 11) (j := 4) hSok hok3 (by decide) (by decide)
  have hcmp := sub_sum (r := r) hlen hlen2 hlen3 hv
  obtain ⟨Z, hZl, dZ, dU⟩ := den_sum (hPok.mono (by decide)) (hQok.mono (by decide)) hrb
  have hUok : LOk 29 (sumL ((subL rs v ts).map cn) r ((subL ss v ts).map cn)) := sumL_ok (i := 13) (j := 13) (k := 2) hPok hQok hrb (by decide) (by decide)
  have dC := den22 ((subL (sumL rs r ss) v ts).map cn) (sumL ((subL rs v ts).map cn) r ((subL ss v ts).map cn)) (hTok.mono (by decide)) (hUok.mono (by decide))
  rw [hcmp] at dC
  -- the normal form
  have dN := den12 rs (hok.mono (by decide))
  have hNok : LOk 8 ((nrm rs).map cn) := LOk.of_map (nrm_length hlen) (fun q hq => by
    by_cases h0 : (leadL rs).q = 0
    · rw [nrm_zero h0] at hq
      rw [List.eq_of_mem_replicate hq]
      exact Bd.zero (by decide)
    · rw [nrm_of h0] at hq
      simp only [List.mem_map] at hq
      obtain ⟨w, hw, rfl⟩ := hq
      have hne : rs ≠ [] := fun h2 => by rw [h2] at hw; simp at hw
      have b2 := (hok.ok _ (leadL_mem hne)).bd (by decide)
      have b3 : Bd 4 (absq (leadL rs).q) := by unfold absq; split; exact b2.neg; exact b2
      exact Bd.div (j := 4) (k := 4) ((hok.ok w hw).bd (by decide)) b3 (absq_zero h0) (by decide))
  have dNN := den12 ((nrm rs).map cn) (hNok.mono (by decide))
  rw [nrm_nrm hlen] at dNN
  have dEn := den28 ((nrm rs).map cn) ps (hNok.mono (by decide)) hpb hpl
  have bEn := evalN_bd hNok (by decide) hpb hpl 8 (by decide)
  have hsn := sign_nrm ps hlen
  have dSame := den11r ((nrm rs).map cn) (hNok.mono (by decide))
  -- names
  obtain ⟨S0, hS0⟩ : ∃ t, sumL rs r ss = t := ⟨_, rfl⟩
  rw [hS0] at dS hSok dEs bEs hes dT hTok dC
  obtain ⟨U0, hU0⟩ : ∃ t, sumL ((subL rs v ts).map cn) r ((subL ss v ts).map cn) = t := ⟨_, rfl⟩
  rw [hU0] at dU hUok dC
  unfold FL at dP dQ dT
  obtain ⟨P0, hP0⟩ : ∃ t, (subL rs v ts).map cn = t := ⟨_, rfl⟩
  obtain ⟨Q0, hQ0⟩ : ∃ t, (subL ss v ts).map cn = t := ⟨_, rfl⟩
  obtain ⟨T0, hT0⟩ : ∃ t, (subL S0 v ts).map cn = t := ⟨_, rfl⟩
  rw [hP0] at dP hPok dZ
  rw [hQ0] at dQ hQok dU
  rw [hT0] at dT hTok dC
  unfold FL at dN dNN
  obtain ⟨N0, hN0⟩ : ∃ t, (nrm rs).map cn = t := ⟨_, rfl⟩
  rw [hN0] at dN dNN hNok dEn bEn hsn dSame
  have lS := hSok.len
  have lP := hPok.len
  have lQ := hQok.len
  have lT := hTok.len
  have lU := hUok.len
  have lN := hNok.len
  have fS : (flat S0).length = 27 := by rw [flat_length]; omega
  have fP : (flat P0).length = 27 := by rw [flat_length]; omega
  have fQ : (flat Q0).length = 27 := by rw [flat_length]; omega
  have fT : (flat T0).length = 27 := by rw [flat_length]; omega
  have fN : (flat N0).length = 27 := by rw [flat_length]; omega
  obtain ⟨es, hes0⟩ : ∃ t, evalN S0 ps 8 = t := ⟨_, rfl⟩
  obtain ⟨ea, hea0⟩ : ∃ t, evalN rs ps 8 = t := ⟨_, rfl⟩
  obtain ⟨eb, heb0⟩ : ∃ t, evalN ss ps 8 = t := ⟨_, rfl⟩
  obtain ⟨en, hen0⟩ : ∃ t, evalN N0 ps 8 = t := ⟨_, rfl⟩
  rw [hes0] at dEs bEs hes
  rw [hea0] at dEa bEa hes hsn
  rw [heb0] at dEb bEb hes
  rw [hen0] at dEn bEn hsn
  have dM := den32 (cn r) (cn ea) (Raw.Ok.mono (cn_ok hrb) (by decide)) (Raw.Ok.mono (cn_ok bEa) (by decide))
  rw [cn_q, cn_q] at dM
  have bM : Bd 62 (r * ea) := Bd.mul (j := 2) (k := 60) hrb bEa (by decide)
  have dA := den31 (cn (r * ea)) (cn eb) (Raw.Ok.mono (cn_ok bM) (by decide)) (Raw.Ok.mono (cn_ok bEb) (by decide))
  rw [cn_q, cn_q, ← hes] at dA
  have dD := den29 (cn es) (cn es) (Raw.Ok.mono (cn_ok bEs) (by decide)) (Raw.Ok.mono (cn_ok bEs) (by decide))
  rw [cn_q, sgq_eq_zero.2 Rat.sub_self] at dD
  have d26n := den26 (cn en) (Raw.Ok.mono (cn_ok bEn) (by decide))
  have d26a := den26 (cn ea) (Raw.Ok.mono (cn_ok bEa) (by decide))
  rw [cn_q, hsn] at d26n
  rw [cn_q] at d26a
  change Den Try.prog 32 [] [FR r, FR ea] [] _ at dM
  change Den Try.prog 31 [] [FR (r * ea), FR eb] [] _ at dA
  change Den Try.prog 29 [] [FR es, FR es] [] _ at dD
  change Den Try.prog 26 [] [FR en] [] _ at d26n
  change Den Try.prog 26 [] [FR ea] [] _ at d26a
  obtain ⟨sz, hsz⟩ : ∃ t, sgq ea = t := ⟨_, rfl⟩
  rw [hsz] at d26n d26a
  have e00 : ((0 : Int) != 0) = false := rfl
  have ess : (sz == sz) = true := beq_self_eq_true sz
  rw [FR_eq] at h30 dY dZ dEs dEa dEb dEn d26n d26a dD
  rw [FR_eq, FR_eq, FR_eq] at dM dA
  unfold RL at h9 h9b h9c dP dQ dT dC dN dNN dEs dEa dEb dEn dSame
  unfold S at h9 h9b h9c h10 h30 hN h27 hc c1 c2 c3 c4 c5
  refine den_of tabOk mixed Try.func8 (cd := _) rfl (by decide) rfl (n := 111) rfl rfl (m := 0) rfl ?_
  simp (dsimp := false) (disch := omega) only [List.replicate, rules]
  refine GoCall.pure h10 rfl ?_
  simp (dsimp := false) (disch := omega) only [List.append_nil, rules]
  refine GoCall.lend 0 h9 rfl rfl hc rfl rfl rfl ?_
  simp (dsimp := false) (disch := omega) only [sh1, List.append_nil, flat_reloc, rules]
  refine GoCall.lend 0 h9b rfl rfl c1 rfl rfl rfl ?_
  simp (dsimp := false) (disch := omega) only [sh1, List.append_nil, flat_reloc, rules]
  refine GoCall.lend 0 h9c rfl rfl c2 rfl rfl rfl ?_
  simp (dsimp := false) (disch := omega) only [sh1, List.append_nil, flat_reloc, rules]
  refine GoCall.lend 0 h30 rfl rfl c3 rfl rfl rfl ?_
  simp (dsimp := false) (disch := omega) only [sh1, List.append_nil, rules]
  refine GoCall.lend 0 hN rfl rfl c4 rfl rfl rfl ?_
  simp (dsimp := false) (disch := omega) only [sh2, List.append_nil, rules]
  refine GoCall.lend 0 h27 rfl rfl c5 rfl rfl rfl ?_
  simp (dsimp := false) (disch := omega) only [sh2, List.append_nil, hfl, hfl2, hfl3, rules, tys, eq_self, Nat.reduceAdd, Nat.reduceLT, Nat.reduceLeDiff]
  repeat refine And.intro (by omega) ?_
  refine Draw.intro (by kernel_rfl) ?_
  simp (dsimp := false) (disch := omega) only [flat_take27 hlen, rules, tys, eq_self, ↓reduceIte, Nat.reduceAdd, Nat.reduceLeDiff]
  repeat refine And.intro (by omega) ?_
  refine GoCall.pure dY (by simp [fzAs, fzA, flat_fz, flatF_fv, fzs, fz0]) ?_
  simp (dsimp := false) (disch := omega) only [flat_ids, flat_reloc, List.append_nil, flat_take27 hlen2, rules, tys, eq_self, ↓reduceIte, Nat.reduceAdd]
  repeat refine And.intro (by omega) ?_
  refine GoCall.pure dS (by simp [fzAs, fzA, flat_fz, flatF_fv]) ?_
  simp (dsimp := false) (disch := omega) only [flat_ids, flat_reloc, List.append_nil, fS, rules, tys, eq_self, Nat.reduceAdd, Nat.reduceLT, Nat.reduceLeDiff]
  repeat refine And.intro (by omega) ?_
  refine Draw.intro (by kernel_rfl) ?_
  simp (dsimp := false) (disch := omega) only [flat_take27 lS, rules, tys, eq_self, ↓reduceIte]
  repeat refine And.intro (by omega) ?_
  refine GoCall.pure dEs (by simp [fzAs, fzA, flat_fz, flatF_fv, fz1, fz0]) ?_
  simp (dsimp := false) (disch := omega) only [flat_ids, List.append_nil, flat_take27 hlen, rules, tys, eq_self, ↓reduceIte, Nat.reduceAdd, Nat.reduceLeDiff]
  repeat refine And.intro (by omega) ?_
  refine GoCall.pure dEa (by simp [fzAs, fzA, flat_fz, flatF_fv, fz1, fz0]) ?_
  simp (dsimp := false) (disch := omega) only [flat_ids, List.append_nil, rules, Nat.reduceAdd]
  repeat refine And.intro (by omega) ?_
  refine GoCall.pure dM (by simp [fzAs, fzA, fzs, fz0]) ?_
  simp (dsimp := false) (disch := omega) only [List.append_nil, flat_take27 hlen2, rules, tys, eq_self, ↓reduceIte, Nat.reduceAdd]
  repeat refine And.intro (by omega) ?_
  refine GoCall.pure dEb (by simp [fzAs, fzA, flat_fz, flatF_fv, fz1, fz0]) ?_
  simp (dsimp := false) (disch := omega) only [flat_ids, List.append_nil, rules, Nat.reduceAdd]
  repeat refine And.intro (by omega) ?_
  refine GoCall.pure dA (by simp [fzAs, fzA, fzs, fz0]) ?_
  simp (dsimp := false) (disch := omega) only [List.append_nil, rules, Nat.reduceAdd]
  repeat refine And.intro (by omega) ?_
  refine GoCall.pure dD (by simp [fzAs, fzA, fzs, fz0]) ?_
  simp (dsimp := false) (disch := omega) only [List.append_nil, e00, flat_take27 hlen, flat_take27 hlen3, rules, tys, eq_self, ↓reduceIte, Nat.reduceAdd]
  repeat refine And.intro (by omega) ?_
  refine GoCall.pure dP (by simp [fzAs, fzA, flat_fz, flatF_fv, fz1, fz0]) ?_
  simp (dsimp := false) (disch := omega) only [flat_ids, flat_reloc, List.append_nil, fP, flat_take27 hlen2, flat_take27 hlen3, rules, tys, eq_self, ↓reduceIte, Nat.reduceAdd, Nat.reduceLT, Nat.reduceLeDiff]
  repeat refine And.intro (by omega) ?_
  refine GoCall.pure dQ (by simp [fzAs, fzA, flat_fz, flatF_fv, fz1, fz0]) ?_
  simp (dsimp := false) (disch := omega) only [flat_ids, flat_reloc, List.append_nil, fQ, flat_take27 lS, flat_take27 hlen3, rules, tys, eq_self, ↓reduceIte, Nat.reduceAdd, Nat.reduceLT, Nat.reduceLeDiff]
  repeat refine And.intro (by omega) ?_
  refine GoCall.pure dT (by simp [fzAs, fzA, flat_fz, flatF_fv, fz1, fz0]) ?_
  simp (dsimp := false) (disch := omega) only [flat_ids, flat_reloc, List.append_nil, fT, rules, tys, eq_self, Nat.reduceAdd, Nat.reduceLT, Nat.reduceLeDiff]
  repeat refine And.intro (by omega) ?_
  refine Draw.intro (by kernel_rfl) ?_
  simp (dsimp := false) (disch := omega) only [e00, flat_take27 lT, flat_take27 lP, rules, tys, eq_self, ↓reduceIte, Nat.reduceAdd, Nat.reduceLeDiff]
  repeat refine And.intro (by omega) ?_
  refine GoCall.pure dZ (by simp [fzAs, fzA, flat_fz, flatF_fv, fzs, fz0]) ?_
  simp (dsimp := false) (disch := omega) only [flat_ids, flat_reloc, List.append_nil, flat_take27 lQ, rules, tys, eq_self, ↓reduceIte, Nat.reduceAdd]
  repeat refine And.intro (by omega) ?_
  refine GoCall.pure dU (by simp [fzAs, fzA, flat_fz, flatF_fv]) ?_
  simp (dsimp := false) (disch := omega) only [flat_ids, flat_reloc, List.append_nil, rules, Nat.reduceAdd]
  repeat refine And.intro (by omega) ?_
  refine GoCall.pure dC (by simp [fzAs, fzA, flat_fz, flatF_fv]) ?_
  simp (dsimp := false) (disch := omega) only [flat_ids, List.append_nil, e00, flat_take27 hlen, rules, tys, eq_self, ↓reduceIte, Nat.reduceAdd]
  repeat refine And.intro (by omega) ?_
  refine GoCall.pure dN (by simp [fzAs, fzA, flat_fz, flatF_fv]) ?_
  simp (dsimp := false) (disch := omega) only [flat_ids, flat_reloc, List.append_nil, fN, rules, tys, eq_self, Nat.reduceAdd, Nat.reduceLT, Nat.reduceLeDiff]
  repeat refine And.intro (by omega) ?_
  refine Draw.intro (by kernel_rfl) ?_
  simp (dsimp := false) (disch := omega) only [flat_take27 lN, rules, tys, eq_self, ↓reduceIte]
  repeat refine And.intro (by omega) ?_
  refine GoCall.pure dEn (by simp [fzAs, fzA, flat_fz, flatF_fv, fz1, fz0]) ?_
  simp (dsimp := false) (disch := omega) only [flat_ids, List.append_nil, rules, Nat.reduceAdd]
  repeat refine And.intro (by omega) ?_
  refine GoCall.pure d26n (by simp [fzAs, fzA, fzs, fz0]) ?_
  simp (dsimp := false) (disch := omega) only [List.append_nil, flat_take27 hlen, rules, tys, eq_self, ↓reduceIte, Nat.reduceAdd]
  repeat refine And.intro (by omega) ?_
  refine GoCall.pure dEa (by simp [fzAs, fzA, flat_fz, flatF_fv, fz1, fz0]) ?_
  simp (dsimp := false) (disch := omega) only [flat_ids, List.append_nil, rules, Nat.reduceAdd]
  repeat refine And.intro (by omega) ?_
  refine GoCall.pure d26a (by simp [fzAs, fzA, fzs, fz0]) ?_
  simp (dsimp := false) (disch := omega) only [List.append_nil, ess, flat_take27 lN, rules, tys, eq_self, ↓reduceIte, Nat.reduceAdd]
  repeat refine And.intro (by omega) ?_
  refine GoCall.pure dNN (by simp [fzAs, fzA, flat_fz, flatF_fv]) ?_
  simp (dsimp := false) (disch := omega) only [flat_ids, flat_reloc, List.append_nil, flat_take27 lN, rules, tys, eq_self, ↓reduceIte, Nat.reduceAdd]
  repeat refine And.intro (by omega) ?_
  refine GoCall.pure dSame (by simp [fzAs, fzA, flat_fz, flatF_fv]) ?_
  simp (dsimp := false) (disch := omega) only [flat_ids, List.append_nil, rules, eq_self, ↓reduceIte, Nat.reduceAdd]
  repeat refine And.intro (by omega) ?_
  refine GoCall.pure h14 rfl ?_
  simp (dsimp := false) (disch := omega) only [List.append_nil, Ap_end_ret, rules, eq_self, ↓reduceIte, Nat.reduceAdd]
  exact RetOK.pure rfl ⟨trivial, trivial⟩ rfl

end Go.Proofs.Yteifpjjnphcdcaa
