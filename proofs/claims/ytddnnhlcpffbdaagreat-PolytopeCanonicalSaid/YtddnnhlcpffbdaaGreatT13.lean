/- Contracts: the reader: few, place, Chance. -/
import Derived.Test.YtddnnhlcpffbdaaGreatT12

namespace Go.Proofs.YtddnnhlcpffbdaaGreat
open Go.AM Go.Pl
set_option maxRecDepth 100000
set_option maxHeartbeats 4000000

end Go.Proofs.YtddnnhlcpffbdaaGreat

namespace Go.Proofs.YtddnnhlcpffbdaaGreat
open Go.AM Go.Pl
set_option maxRecDepth 100000
set_option maxHeartbeats 4000000

abbrev zR : PV := .agg [.bool false, .fv (.sl []), .fv (.sl [])]
def bndV : Option (Rat × Rat) → PV
  | none => .tup [zR, zR, .int .i64 15]
  | some (a, b) => .tup [FR a, FR b, .int .i64 0]
theorem lowQ_pos {s : List (List Raw)} {v : Nat} {x : List Raw} (h : 0 < co x v) : lowQ (s ++ [x]) v = lowQ s v ++ [co (solR v x) 8] := by simp [lowQ, lowL_pos h]
theorem lowQ_not {s : List (List Raw)} {v : Nat} {x : List Raw} (h : ¬ 0 < co x v) : lowQ (s ++ [x]) v = lowQ s v := by simp [lowQ, lowL_not h]
theorem highQ_neg {s : List (List Raw)} {v : Nat} {x : List Raw} (h : co x v < 0) : highQ (s ++ [x]) v = highQ s v ++ [co (solR v x) 8] := by simp [highQ, highL_neg h]
theorem highQ_not {s : List (List Raw)} {v : Nat} {x : List Raw} (h : ¬ co x v < 0) : highQ (s ++ [x]) v = highQ s v := by simp [highQ, highL_not h]
theorem solR_cn {v : Nat} {x : List Raw} (h : x.length = 9) : (solR v x).getD 8 rz = cn (co (solR v x) 8) := by
  have hl := solR_len (v := v) h
  unfold co
  obtain ⟨q, hq⟩ : ∃ q, (solR v x).getD 8 rz = cn q := by
    unfold solR at hl ⊢
    rw [List.getD_eq_getElem?_getD, List.getElem?_eq_getElem (by omega), Option.getD_some, List.getElem_map]
    exact ⟨_, rfl⟩
  rw [hq, cn_q]
theorem rats_snoc (ps : List Rat) (q : Rat) : rats ps ++ [[FV.lit (Value.bool (cn q).neg), FV.sl (u32s (cn q).num), FV.sl (u32s (cn q).den)]] = rats (ps ++ [q]) := by simp [rats, Raw.f]
theorem take_rats {ps : List Rat} {n : Nat} (h : ps.length ≤ n) : List.take n (rats ps) = rats ps := List.take_of_length_le (by rw [rats_length]; exact h)
abbrev Zb : Ob := .box true [.bool false, .nilsl, .nilsl]

theorem pd13 (cs : List (List Raw)) (v : Nat) (hv : v < 8) (h : CsOk cs) (hl : cs.length ≤ 40) : Den Tryz.prog 13 [] [.fv (.sl (rowsF cs)), .int .i64 v] [] (bndV (bndP cs v)) := by
  obtain ⟨R, hR⟩ : ∃ R, bndV (bndP cs v) = R := ⟨_, rfl⟩
  rw [hR]
  unfold bndP innerB at hR
  have rl := rowsF_length cs
  have e1 : decide ((cs.length : Int) > 40) = false := decide_eq_false (by omega)
  have e2 : decide ((v : Int) < 0) = false := decide_eq_false (by omega)
  have e3 : decide ((v : Int) ≥ 8) = false := decide_eq_false (by omega)
  have h44 := pd44g cs h
  have hg0 := h.good
  have h45 := pd45 _ hg0
  cases hvb : violB cs with
  | true =>
    rw [hvb, if_pos rfl] at h44
    rw [hvb] at hR
    have hR2 : R = bndV none := hR.symm
    subst hR2
    refine den_of tabOk mixed Tryz.func13 (cd := _) rfl (by decide) rfl (n := 99) rfl rfl (m := 0) rfl ?_
    simp (dsimp := false) (disch := omega) only [List.replicate, rl, e1, e2, e3, rules, tys, eq_self, ↓reduceIte]
    refine GoCall.pure h44 rfl ?_
    simp (dsimp := false) (disch := omega) only [Bool.not_false, Ap_end_ret, rules, tys, eq_self, ↓reduceIte, Nat.reduceAdd, Nat.reduceLT, Nat.reduceLeDiff]
    repeat refine And.intro (by omega) ?_
    exact RetOK.pure rfl ⟨⟨rfl, Nat.le_refl 3⟩, ⟨rfl, Nat.le_refl 3⟩, trivial, trivial⟩ rfl
  | false =>
    rw [hvb, if_neg (by simp)] at h44
    rw [hvb] at hR
    cases hfb : feasB (sysL cs []) with
    | false =>
      rw [hfb] at hR h45
      have hR2 : R = bndV none := hR.symm
      subst hR2
      refine den_of tabOk mixed Tryz.func13 (cd := _) rfl (by decide) rfl (n := 99) rfl rfl (m := 0) rfl ?_
      simp (dsimp := false) (disch := omega) only [List.replicate, rl, e1, e2, e3, rules, tys, eq_self, ↓reduceIte]
      refine GoCall.pure h44 rfl ?_
      simp (dsimp := false) (disch := omega) only [Bool.not_true, rules, Nat.reduceAdd]
      refine GoCall.pure h45 rfl ?_
      simp (dsimp := false) (disch := omega) only [Bool.not_false, Ap_end_ret, rules, tys, eq_self, ↓reduceIte, Nat.reduceAdd, Nat.reduceLT, Nat.reduceLeDiff]
      repeat refine And.intro (by omega) ?_
      exact RetOK.pure rfl ⟨⟨rfl, Nat.le_refl 3⟩, ⟨rfl, Nat.le_refl 3⟩, trivial, trivial⟩ rfl
    | true =>
      rw [hfb, Bool.not_false, Bool.and_true, if_pos rfl] at hR
      rw [hfb] at h45
      obtain ⟨s0, hs0⟩ : ∃ s, sysL cs [] = s := ⟨_, rfl⟩
      obtain ⟨fin, hfin⟩ : ∃ s, elimL v 8 0 s0 = s := ⟨_, rfl⟩
      rw [hs0] at h44 hg0 h45 hfb hR
      rw [hfin] at hR
      refine den_of tabOk mixed Tryz.func13 (cd := _) rfl (by decide) rfl (n := 99) rfl rfl (m := 0) rfl ?_
      simp (dsimp := false) (disch := omega) only [List.replicate, rl, e1, e2, e3, rules, tys, eq_self, ↓reduceIte]
      refine GoCall.pure h44 rfl ?_
      simp (dsimp := false) (disch := omega) only [Bool.not_true, rules, Nat.reduceAdd]
      refine GoCall.pure h45 rfl ?_
      simp (dsimp := false) (disch := omega) only [Bool.not_true, rules, ↓reduceIte, Nat.reduceAdd]
      refine WA.loop (α := Nat × List (List Raw)) (fun ⟨i, s⟩ => ⟨[.fv (.sl (rowsF cs)), .int .i64 v, .any, .any, .ptr 0 0 0, .ptr 1 0 0, .int .i64 0, .fv (.sl (rowsF s))] ++ List.replicate 36 .any ++ [.int .i64 i] ++ List.replicate 56 .any, [Zb, Zb]⟩)
        (fun ⟨i, _⟩ => 8 - i) (fun ⟨i, s⟩ => i ≤ 8 ∧ GoodS s ∧ feasB s = true ∧ elimL v (8 - i) i s = fin) (0, s0) ?_ ?_ ?_
      · refine Weak.keep [0, 1] (by simp) rfl ?_ ?_
        · simp [leVs, leV, le1]
        · simp [leH, leO, le1s, le1]
      · exact ⟨Nat.zero_le _, hg0, hfb, hfin⟩
      · rintro ⟨i, s⟩ ⟨hi, hg, hf, hel⟩
        simp (dsimp := false) (disch := omega) only [List.replicate, rules, tys, eq_self, ↓reduceIte]
        refine Br.dec ?_ ?_
        · intro h1 h2
          have h8 : 8 - i = (8 - (i + 1)) + 1 := by omega
          rw [h8] at hel
          unfold elimL at hel
          simp (dsimp := false) (disch := omega) only [h2, rules, tys, eq_self, ↓reduceIte]
          refine Br.bneInt ?_ ?_
          · intro h3 h4
            have hne : ¬ i = v := by omega
            rw [if_neg hne] at hel
            have hnb : badB s i = false := by
              cases hb : badB s i with
              | false => rfl
              | true => rw [hg.bad (by omega) hb] at hf; cases hf
            have h46 := pd46g s i (by omega) hg
            rw [hnb, if_neg (by simp)] at h46
            simp (dsimp := false) (disch := omega) only [h4, rules]
            refine GoCall.pure h46 rfl ?_
            simp (dsimp := false) (disch := omega) only [wrap64, rules, tys, eq_self, ↓reduceIte, Nat.reduceAdd]
            refine Ap_loop (i + 1, stepL s i) (by dsimp only; omega) ?_ ⟨by omega, hg.step (by omega), by rw [hg.feas (by omega) hnb]; exact hf, hel⟩
            refine Weak.keep [0, 1] (by simp) rfl ?_ ?_
            · simp [leVs, leV, le1]
            · simp [leH, leO, le1s, le1]
          · intro h3 h4
            have he : i = v := by omega
            rw [if_pos he] at hel
            simp (dsimp := false) (disch := omega) only [h4, wrap64, rules, tys, eq_self, ↓reduceIte]
            refine Ap_loop (i + 1, s) (by dsimp only; omega) ?_ ⟨by omega, hg, hf, hel⟩
            refine Weak.keep [0, 1] (by simp) rfl ?_ ?_
            · simp [leVs, leV, le1]
            · simp [leH, leO, le1s, le1]
        · intro h1 h2
          have h8 : 8 - i = 0 := by omega
          rw [h8] at hel
          have hel2 : s = fin := hel
          subst hel2
          have hlim := hg.lim
          have hn12 := hg.len
          obtain ⟨n, hnn⟩ : ∃ n, s.length = n := ⟨_, rfl⟩
          have rls := rowsF_length s
          rw [hnn] at rls hn12
          simp (dsimp := false) (disch := omega) only [h2, rls, rules, tys, Nat.reduceBEq]
          refine WA.loop (α := Nat × List Rat × List Rat) (fun ⟨j, lo, hi⟩ => ⟨[.fv (.sl (rowsF cs)), .int .i64 v, .any, .any, .ptr 0 0 0, .ptr 1 0 0, .int .i64 0, .fv (.sl (rowsF s)), .any, .any, .lsl 2 0 lo.length 3, .lsl 3 0 hi.length 3] ++ List.replicate 45 .any ++ [.fv (.sl (rowsF s)), .int .i64 n, .int .i64 j] ++ List.replicate 41 .any, [Zb, Zb, .row true (rats lo), .row true (rats hi)]⟩)
            (fun ⟨j, _⟩ => n - j) (fun ⟨j, lo, hi⟩ => j ≤ n ∧ lo = lowQ (s.take j) v ∧ hi = highQ (s.take j) v) (0, [], []) ?_ ?_ ?_
          · refine Weak.nil 10 3 (by decide) rfl ?_
            refine Weak.nil 11 3 (by decide) rfl ?_
            refine Weak.keep [0, 1, 2, 3] (by simp) rfl ?_ ?_
            · simp [leVs, leV, le1]
            · simp [leH, leO, le1s, le1]
              simp [rats]
          · exact ⟨Nat.zero_le _, rfl, rfl⟩
          · rintro ⟨j, lo, hi⟩ ⟨hj, hlo, hhi⟩
            have hsz := split_length (s.take j) v
            have hszl : lo.length = (lowL (s.take j) v).length := by rw [hlo]; simp [lowQ]
            have hszh : hi.length = (highL (s.take j) v).length := by rw [hhi]; simp [highQ]
            rw [← hszl, ← hszh, List.length_take, hnn] at hsz
            obtain ⟨A, hA⟩ : ∃ L, lo.length = L := ⟨_, rfl⟩
            obtain ⟨C, hC⟩ : ∃ L, hi.length = L := ⟨_, rfl⟩
            have rlo := rats_length lo
            have rhi := rats_length hi
            dsimp only
            rw [hA] at hsz rlo ⊢
            rw [hC] at hsz rhi ⊢
            have tkl := take_rats (ps := lo) (n := A) (by omega)
            have tkh := take_rats (ps := hi) (n := C) (by omega)
            simp (dsimp := false) (disch := omega) only [List.replicate, rules, tys, eq_self, ↓reduceIte]
            refine Br.dec ?_ ?_
            · intro h3 h4
              have hsn := take_snoc (cs := s) (i := j) (by omega)
              have hmem := at_mem (ls := s) (i := j) (by omega)
              have r1 := rowsF_getD s j
              obtain ⟨x, hxx⟩ : ∃ x, s.getD j [] = x := ⟨_, rfl⟩
              rw [hxx] at hmem r1 hsn
              have hx := hlim x hmem
              have lx := hx.len
              have x27 := flatF_take27 lx
              have fx := flatF_length x
              have gx := flat_length x
              have gx27 := flat_take27 lx
              by_cases h0 : co x v = 0
              · have h16 := den16n x v hx hv h0
                unfold FL RL at h16
                obtain ⟨zs, hzz⟩ : ∃ zs, (x.map Raw.q).map cn = zs := ⟨_, rfl⟩
                have hzl : zs.length = 9 := by rw [← hzz]; simp [lx]
                have gz := flat_length zs
                rw [hzz] at h16
                have e5 : decide ((0 : Int) > 0) = false := rfl
                have e6 : decide ((0 : Int) < 0) = false := rfl
                simp (dsimp := false) (disch := omega) only [List.append_nil, h4, r1, x27, flatF_fv, fx, gx, lx, gx27, rules, tys, eq_self, ↓reduceIte, Nat.reduceAdd, Nat.reduceMul, Nat.reduceLT, Nat.reduceLeDiff]
                repeat refine And.intro (by omega) ?_
                refine GoCall.pure h16 (by simp [fzAs, fzA, flat_fz, flatF_fv, fz1, fz0]) ?_
                simp (dsimp := false) (disch := omega) only [flat_ids, flat_reloc, List.append_nil, gz, hzl, e5, wrap64, rules, tys, eq_self, ↓reduceIte, Nat.reduceAdd, Nat.reduceMul, Nat.reduceLT, Nat.reduceLeDiff]
                repeat refine And.intro (by omega) ?_
                refine Ap_loop (j + 1, lo, hi) (by dsimp only; omega) ?_ ⟨by omega, by rw [hsn, lowQ_not (by grind), hlo], by rw [hsn, highQ_not (by grind), hhi]⟩
                refine Weak.keep [0, 1, 2, 3] (by simp) rfl ?_ ?_
                · simp [leVs, leV, le1]
                  omega
                · simp [leH, leO, le1s, le1]
              · have h16 := den16 x v hx hv h0
                have hsl : (solR v x).length = 9 := solR_len lx
                have hfc := flat_const' hsl
                rw [solR_cn lx] at hfc
                unfold FL RL at h16
                change Den Tryz.prog 47 [] [.agg (flat x), .int .i64 v] [] (.tup [.agg (flat (solR v x)), .int .i64 (sgq (x.getD v rz).q), .int .i64 0]) at h16
                by_cases hp : 0 < co x v
                · have hls := lowQ_pos (s := s.take j) hp
                  have hhs := highQ_not (s := s.take j) (v := v) (x := x) (by grind)
                  have hap := rats_snoc lo (co (solR v x) 8)
                  obtain ⟨q, hq⟩ : ∃ q, co (solR v x) 8 = q := ⟨_, rfl⟩
                  rw [hq] at hls hap hfc
                  obtain ⟨y, hy⟩ : ∃ y, solR v x = y := ⟨_, rfl⟩
                  rw [hy] at h16 hsl hfc
                  have gy := flat_length y
                  rw [show sgq (x.getD v rz).q = 1 from sgq_of_pos hp] at h16
                  have e5 : decide ((1 : Int) > 0) = true := rfl
                  simp (dsimp := false) (disch := omega) only [List.append_nil, h4, r1, x27, flatF_fv, fx, gx, lx, gx27, rules, tys, eq_self, ↓reduceIte, Nat.reduceAdd, Nat.reduceMul, Nat.reduceLT, Nat.reduceLeDiff]
                  repeat refine And.intro (by omega) ?_
                  refine GoCall.pure h16 (by simp [fzAs, fzA, flat_fz, flatF_fv, fz1, fz0]) ?_
                  simp (dsimp := false) (disch := omega) only [flat_ids, flat_reloc, List.append_nil, gy, hsl, e5, hfc, tkl, hap, rlo, wrap64, rules, tys, eq_self, ↓reduceIte, Nat.reduceAdd, Nat.reduceMul, Nat.reduceBEq, Nat.reduceLT, Nat.reduceLeDiff]
                  repeat refine And.intro (by omega) ?_
                  refine Ap_loop (j + 1, lo ++ [q], hi) (by dsimp only; omega) ?_ ⟨by omega, by rw [hsn, hls, hlo], by rw [hsn, hhs, hhi]⟩
                  refine Weak.keep [0, 1, 7, 3] (by simp) rfl ?_ ?_
                  · simp [leVs, leV, le1]
                    omega
                  · simp [leH, leO, le1s, le1]
                · have hneg : co x v < 0 := by grind
                  have hls := lowQ_not (s := s.take j) (v := v) (x := x) hp
                  have hhs := highQ_neg (s := s.take j) hneg
                  have hap := rats_snoc hi (co (solR v x) 8)
                  obtain ⟨q, hq⟩ : ∃ q, co (solR v x) 8 = q := ⟨_, rfl⟩
                  rw [hq] at hhs hap hfc
                  obtain ⟨y, hy⟩ : ∃ y, solR v x = y := ⟨_, rfl⟩
                  rw [hy] at h16 hsl hfc
                  have gy := flat_length y
                  rw [show sgq (x.getD v rz).q = -1 from sgq_of_neg hneg] at h16
                  have e5 : decide ((-1 : Int) > 0) = false := rfl
                  have e6 : decide ((-1 : Int) < 0) = true := rfl
                  simp (dsimp := false) (disch := omega) only [List.append_nil, h4, r1, x27, flatF_fv, fx, gx, lx, gx27, rules, tys, eq_self, ↓reduceIte, Nat.reduceAdd, Nat.reduceMul, Nat.reduceLT, Nat.reduceLeDiff]
                  repeat refine And.intro (by omega) ?_
                  refine GoCall.pure h16 (by simp [fzAs, fzA, flat_fz, flatF_fv, fz1, fz0]) ?_
                  simp (dsimp := false) (disch := omega) only [flat_ids, flat_reloc, List.append_nil, gy, hsl, e5, e6, hfc, tkh, hap, rhi, wrap64, rules, tys, eq_self, ↓reduceIte, Nat.reduceAdd, Nat.reduceMul, Nat.reduceBEq, Nat.reduceLT, Nat.reduceLeDiff]
                  repeat refine And.intro (by omega) ?_
                  refine Ap_loop (j + 1, lo, hi ++ [q]) (by dsimp only; omega) ?_ ⟨by omega, by rw [hsn, hls, hlo], by rw [hsn, hhs, hhi]⟩
                  refine Weak.keep [0, 1, 2, 7] (by simp) rfl ?_ ?_
                  · simp [leVs, leV, le1]
                    omega
                  · simp [leH, leO, le1s, le1]
            · intro h3 h4
              have htk : s.take j = s := List.take_of_length_le (by omega)
              rw [htk] at hlo hhi
              unfold ends at hR
              have hbd : (∀ q ∈ lo, Bd 10000 q) ∧ ∀ q ∈ hi, Bd 10000 q := by
                constructor
                · intro q hq
                  rw [hlo] at hq
                  obtain ⟨b, hb, rfl⟩ := List.mem_map.1 hq
                  exact (((low_ok hlim (by decide) b hb).at 8).bd (by decide)).mono (by decide)
                · intro q hq
                  rw [hhi] at hq
                  obtain ⟨b, hb, rfl⟩ := List.mem_map.1 hq
                  exact (((high_ok hlim (by decide) b hb).at 8).bd (by decide)).mono (by decide)
              rw [← hlo, ← hhi] at hR
              cases lo with
              | nil =>
                have hR2 : R = bndV none := hR.symm
                subst hR2
                have hA0 : A = 0 := hA.symm
                subst hA0
                have e5 : ((((0 : Nat) : Int)) == 0) = true := rfl
                simp (dsimp := false) (disch := omega) only [h4, e5, Ap_end_ret, rules, tys, eq_self, ↓reduceIte, Nat.reduceAdd, Nat.reduceBEq, Nat.reduceLT, Nat.reduceLeDiff]
                repeat refine And.intro (by omega) ?_
                exact RetOK.pure rfl ⟨⟨rfl, Nat.le_refl 3⟩, ⟨rfl, Nat.le_refl 3⟩, trivial, trivial⟩ rfl
              | cons a l =>
                have hA0 : ((A : Int) == 0) = false := by
                  have : A ≠ 0 := by rw [← hA]; simp
                  simp only [beq_eq_false_iff_ne]; omega
                cases hi with
                | nil =>
                  have hR2 : R = bndV none := hR.symm
                  subst hR2
                  have hC0 : C = 0 := hC.symm
                  subst hC0
                  have e5 : ((((0 : Nat) : Int)) == 0) = true := rfl
                  simp (dsimp := false) (disch := omega) only [h4, e5, hA0, Ap_end_ret, rules, tys, eq_self, ↓reduceIte, Nat.reduceAdd, Nat.reduceBEq, Nat.reduceLT, Nat.reduceLeDiff]
                  repeat refine And.intro (by omega) ?_
                  exact RetOK.pure rfl ⟨⟨rfl, Nat.le_refl 3⟩, ⟨rfl, Nat.le_refl 3⟩, trivial, trivial⟩ rfl
                | cons b g =>
                  have hC0 : ((C : Int) == 0) = false := by
                    have : C ≠ 0 := by rw [← hC]; simp
                    simp only [beq_eq_false_iff_ne]; omega
                  have hR2 : R = .tup [FR (maxL a l), FR (minL b g), .int .i64 0] := hR.symm
                  subst hR2
                  have h48 := pd48 a l hbd.1 (by simp at hA; omega)
                  have h50 := pd50 b g hbd.2 (by simp at hC; omega)
                  obtain ⟨us, hus⟩ : ∃ us, rats (a :: l) = us := ⟨_, rfl⟩
                  obtain ⟨ws, hws⟩ : ∃ us, rats (b :: g) = us := ⟨_, rfl⟩
                  rw [hus] at h48 tkl rlo
                  rw [hws] at h50 tkh rhi
                  rw [hus, hws]
                  rw [FR_eq] at h48 h50 ⊢
                  rw [FR_eq]
                  simp (dsimp := false) (disch := omega) only [h4, hA0, hC0, rules, tys, eq_self, ↓reduceIte, Nat.reduceBEq]
                  refine GoCall.pure h48 (by simp [fzAs, fzA, fz1, fz0, rlo, tkl]) ?_
                  simp (dsimp := false) (disch := omega) only [rules, Nat.reduceAdd]
                  refine GoCall.pure h50 (by simp [fzAs, fzA, fz1, fz0, rhi, tkh]) ?_
                  simp (dsimp := false) (disch := omega) only [Ap_end_ret, rules, tys, eq_self, Nat.reduceAdd, Nat.reduceLT, Nat.reduceLeDiff]
                  repeat refine And.intro (by omega) ?_
                  exact RetOK.pure rfl ⟨⟨rfl, Nat.le_refl 3⟩, ⟨rfl, Nat.le_refl 3⟩, trivial, trivial⟩ rfl
end Go.Proofs.YtddnnhlcpffbdaaGreat

namespace Go.Proofs.YtddnnhlcpffbdaaGreat
open Go.AM Go.Pl
set_option maxRecDepth 100000
set_option maxHeartbeats 4000000

end Go.Proofs.YtddnnhlcpffbdaaGreat

namespace Go.Proofs.YtddnnhlcpffbdaaGreat
open Go.AM Go.Pl
set_option maxRecDepth 100000
set_option maxHeartbeats 4000000

end Go.Proofs.YtddnnhlcpffbdaaGreat

namespace Go.Proofs.YtddnnhlcpffbdaaGreat
open Go.AM Go.Pl
set_option maxRecDepth 100000
set_option maxHeartbeats 4000000

theorem co_rz {w : Nat} : co (List.replicate 9 rz) w = 0 := by
  have rq : rz.q = 0 := by
    unfold Raw.q rz mkq
    simp [val]
  unfold co
  rw [List.getD_eq_getElem?_getD, List.getElem?_replicate]
  split
  · exact rq
  · exact rq
theorem co_setne {l : List Raw} {v w : Nat} {r : Raw} (h : w ≠ v) : co (l.set v r) w = co l w := by
  unfold co
  rw [List.getD_eq_getElem?_getD, List.getElem?_set_ne (fun e => h e.symm), ← List.getD_eq_getElem?_getD]
theorem linS_co (xs : List Int) : ∀ (n i a : Nat) (rs : List Raw) (w : Nat), i + n ≤ w → co (linS xs n i a rs) w = co rs w
  | 0, _, _, _, _, _ => rfl
  | n + 1, i, a, rs, w, h => by
    unfold linS
    rw [linS_co xs n (i + 1) _ _ w (by omega), co_setne (by omega)]
theorem linG_dim (xs : List Int) (n a : Nat) : Dim n [(linG xs n a).1] := by
  intro l hl w hw hw8
  rw [List.mem_singleton] at hl
  subst hl
  unfold linG
  split
  · rw [co_setne (by omega), co_setne (by omega), linS_co xs n 0 a _ w (by omega), co_rz]
  · rw [co_setne (by omega), linS_co xs n 0 a _ w (by omega), co_rz]
theorem consS_dim (xs : List Int) (n : Nat) : ∀ k b, Dim n (consS xs n k b)
  | 0, b => fun l h => by simp [consS] at h
  | k + 1, b => fun l h => by
    simp only [consS, List.mem_cons] at h
    rcases h with h | h
    · rw [h]; exact linG_dim xs n b _ (by simp)
    · exact consS_dim xs n k _ l h
structure Few (cs : List (List Raw)) : Prop where
  ok : ∀ l ∈ cs, LOk 4 l
  len : cs.length ≤ 41
  dim : ∃ d, Dim d cs ∧ ((d = 3 ∧ (ncs cs).length ≤ 4) ∨ (d = 2 ∧ (ncs cs).length ≤ 6))
theorem Few.cs {cs : List (List Raw)} (h : Few cs) : CsOk cs := by
  obtain ⟨d, hd, hl⟩ := h.dim
  have := h.len
  exact ok_of (d := d) (fun l hl => (h.ok l hl).mono (by decide)) hd (by omega) (by omega)
def unit2 : List (List Raw) := [varL 0, comb (numL ((1 : Int) : Rat)) (varL 0)]
def unit0 : List (List Raw) := [varL 0, negR (varL 0)]
theorem lval_var (x : Nat → Rat) : lval (varL 0) x = x 0 := by
  have c := fun w hw => co_var (v := 0) (w := w) (by decide) hw
  rw [lval_eq, c 8 (by decide), c 0 (by decide), c 1 (by decide), c 2 (by decide), c 3 (by decide), c 4 (by decide), c 5 (by decide), c 6 (by decide), c 7 (by decide)]
  simp
  try grind
theorem lval_neg {l : List Raw} (h9 : l.length = 9) (x : Nat → Rat) : lval (negR l) x = -lval l x := by
  have c := fun w hw => negR_at h9 (i := w) hw
  rw [lval_eq, lval_eq, c 8 (by decide), c 0 (by decide), c 1 (by decide), c 2 (by decide), c 3 (by decide), c 4 (by decide), c 5 (by decide), c 6 (by decide), c 7 (by decide)]
  grind
theorem lval_comb {u l : List Raw} (hu : u.length = 9) (hl : l.length = 9) (x : Nat → Rat) : lval (comb u l) x = lval u x - lval l x := by
  have c := fun w hw => comb_at hu hl (i := w) hw
  rw [lval_eq, lval_eq u, lval_eq l, c 8 (by decide), c 0 (by decide), c 1 (by decide), c 2 (by decide), c 3 (by decide), c 4 (by decide), c 5 (by decide), c 6 (by decide), c 7 (by decide)]
  grind
theorem lval_num (q : Rat) (x : Nat → Rat) : lval (numL q) x = q := by
  have c := fun w hw => co_num (q := q) (w := w) hw
  rw [lval_eq, c 8 (by decide), c 0 (by decide), c 1 (by decide), c 2 (by decide), c 3 (by decide), c 4 (by decide), c 5 (by decide), c 6 (by decide), c 7 (by decide)]
  simp
  try grind
theorem unit_ok : ∀ l ∈ unit2 ++ unit0, LOk 6 l ∧ Dim 2 [l] := by
  have v0 : Dim 2 [varL 0] := fun m hm w hw hw8 => by
    rw [List.mem_singleton] at hm
    subst hm
    rw [co_var (by omega) (by omega), if_neg (by omega)]
  intro l hl
  simp only [unit2, unit0, List.cons_append, List.nil_append, List.mem_cons, List.not_mem_nil, or_false] at hl
  rcases hl with h | h | h | h
  · rw [h]; exact ⟨(varL_ok 0).mono (by decide), v0⟩
  · rw [h]
    refine ⟨(comb_ok (k := 1) (numL_ok (bd_int (by decide))) (varL_ok 0) (by decide)).mono (by decide), fun m hm w hw hw8 => ?_⟩
    rw [List.mem_singleton] at hm
    subst hm
    rw [comb_at (numL_len _) (varL_len 0) (by omega), co_num (by omega), co_var (by omega) (by omega), if_neg (by omega), if_neg (by omega)]
    grind
  · rw [h]; exact ⟨(varL_ok 0).mono (by decide), v0⟩
  · rw [h]; exact ⟨(negR_ok (varL_ok 0) (by decide)).mono (by decide), v0.neg (varL_len 0)⟩
theorem unit2_cs : CsOk unit2 := by
  have hn := ncs_le unit2
  exact ok_of (d := 2) (fun l hl => (unit_ok l (List.mem_append_left _ hl)).1) (fun l hl => (unit_ok l (List.mem_append_left _ hl)).2 l (by simp)) (by decide) (.inr ⟨rfl, by have : unit2.length = 2 := rfl; omega⟩)
theorem unit0_cs : CsOk unit0 := by
  have hn := ncs_le unit0
  exact ok_of (d := 2) (fun l hl => (unit_ok l (List.mem_append_right _ hl)).1) (fun l hl => (unit_ok l (List.mem_append_right _ hl)).2 l (by simp)) (by decide) (.inr ⟨rfl, by have : unit0.length = 2 := rfl; omega⟩)
theorem var_nc : ¬ IsConst (varL 0) := fun h => by
  have := h 0 (by decide)
  rw [co_var (by decide) (by decide), if_pos rfl] at this
  exact absurd this (by decide)
theorem unit2_bnd : bndP unit2 0 = some ((0 : Rat), ((1 : Int) : Rat)) := by
  refine bndP_of (by decide) unit2_cs (by decide) (fun t => ?_)
  have e1 : ((1 : Int) : Rat) = 1 := rfl
  have hc : ∀ x, lval (comb (numL ((1 : Int) : Rat)) (varL 0)) x = 1 - x 0 := fun x => by rw [lval_comb (numL_len _) (varL_len 0), lval_num, lval_var, e1]
  have nc2 : ¬ IsConst (comb (numL ((1 : Int) : Rat)) (varL 0)) := fun h => by
    have := h 0 (by decide)
    rw [comb_at (numL_len _) (varL_len 0) (by decide), co_num (by decide), co_var (by decide) (by decide), if_neg (by decide), if_pos rfl] at this
    grind
  rw [e1]
  constructor
  · rintro ⟨x, hx, rfl⟩
    have h1 := hx (varL 0) (by simp [unit2])
    have h2 := hx (comb (numL ((1 : Int) : Rat)) (varL 0)) (by simp [unit2])
    rw [lval_var] at h1
    rw [hc] at h2
    rcases h1 with h1 | h1
    · rcases h2 with h2 | h2
      · exact ⟨h1, by grind⟩
      · exact absurd h2.1 nc2
    · exact absurd h1.1 var_nc
  · rintro ⟨h1, h2⟩
    refine ⟨fun _ => t, fun l hl => .inl ?_, rfl⟩
    simp only [unit2, List.mem_cons, List.not_mem_nil, or_false] at hl
    rcases hl with hl | hl
    · rw [hl, lval_var]; exact h1
    · rw [hl, hc]; grind
theorem unit2_inner : innerB unit2 = true := (bndP_some (by decide) unit2_cs unit2_bnd).1
theorem unit0_inner : innerB unit0 = false := by
  cases h : innerB unit0 with
  | false => rfl
  | true =>
    exfalso
    obtain ⟨x, hx⟩ := (innerB_iff unit0_cs.len9).1 h
    have h1 := hx (varL 0) (by simp [unit0])
    have h2 := hx (negR (varL 0)) (by simp [unit0])
    rw [lval_neg (varL_len 0)] at h2
    rw [lval_var] at h1 h2
    rcases h1 with h1 | h1
    · rcases h2 with h2 | h2
      · grind
      · have := h2.2; grind
    · exact absurd h1.1 var_nc

theorem flatF_append : ∀ a b : List Raw, flatF (a ++ b) = flatF a ++ flatF b
  | [], _ => rfl
  | r :: a, b => by simp only [List.cons_append, flatF, flatF_append a b]
theorem two_take {x y : List Raw} (hx : x.length = 9) : List.take 27 (flatF (x ++ y)) = flatF x := by
  rw [flatF_append]; exact List.take_left' (by rw [flatF_length, hx])
theorem two_drop {x y : List Raw} (hx : x.length = 9) (hy : y.length = 9) : List.take 27 (List.drop 27 (flatF (x ++ y))) = flatF y := by
  rw [flatF_append, List.drop_left' (by rw [flatF_length, hx])]; exact flatF_take27 hy
theorem two_head {x : List Raw} (hx : x.length = 9) (Z : List PV) : List.take 27 (flat x ++ Z) = flat x := List.take_left' (by rw [flat_length, hx])
theorem two_tail {x : List Raw} (hx : x.length = 9) : List.drop 54 (flat x ++ zcells 9) = [] := List.drop_of_length_le (by rw [List.length_append, flat_length, hx, zcells_length]; decide)

theorem pd16 : Den Tryz.prog 16 [] [] [] (.bool true) := by
  have h55 := pd55 0 (by decide)
  have h24 := den24 1 (by decide)
  change Den Tryz.prog 24 [] [.int .i64 1] [] (cn ((1 : Int) : Rat)).v at h24
  have h30 := pd30 (cn ((1 : Int) : Rat)) (Raw.Ok.mono (cn_ok (bd_int (by decide))) (by decide))
  rw [cn_q] at h30
  have h57 := pd57 (varL 0) ((varL_ok 0).mono (by decide))
  have h56 := den74 (numL ((1 : Int) : Rat)) (negR (varL 0)) ((numL_ok (bd_int (by decide))).mono (by decide)) ((negR_ok (varL_ok 0) (by decide)).mono (by decide))
  change Den Tryz.prog 56 [] [_, _] [] (RL (comb (numL ((1 : Int) : Rat)) (varL 0))) at h56
  have h13 := pd13 unit2 0 (by decide) unit2_cs (by decide)
  rw [unit2_bnd] at h13
  change Den Tryz.prog 13 [] [.fv (.sl (rowsF unit2)), .int .i64 0] [] (.tup [FR 0, FR ((1 : Int) : Rat), .int .i64 0]) at h13
  have h20 := pd20 unit2 unit2_cs (by decide)
  rw [unit2_inner] at h20
  have h20b := pd20 unit0 unit0_cs (by decide)
  rw [unit0_inner] at h20b
  have h22 := den26 (cn 0) (Raw.Ok.mono (cn_ok (Bd.zero (k := 1) (by decide))) (by decide))
  rw [cn_q, sgq_zero'] at h22
  have h23 := den29 (cn ((1 : Int) : Rat)) (cn ((1 : Int) : Rat)) (Raw.Ok.mono (cn_ok (bd_int (by decide))) (by decide)) (Raw.Ok.mono (cn_ok (bd_int (by decide))) (by decide))
  rw [cn_q, Rat.sub_self, sgq_zero'] at h23
  have r2 : rowsF unit2 = [flatF (varL 0), flatF (comb (numL ((1 : Int) : Rat)) (varL 0))] := rfl
  have r0 : rowsF unit0 = [flatF (varL 0), flatF (negR (varL 0))] := rfl
  rw [r2] at h13 h20
  rw [r0] at h20b
  change Den Tryz.prog 13 [] _ [] (.tup [(cn 0).v, (cn ((1 : Int) : Rat)).v, .int .i64 0]) at h13
  have lx := varL_len 0
  have ln := numL_len ((1 : Int) : Rat)
  have lg := negR_len lx
  have lc := comb_len ln lx
  obtain ⟨c0, hc0⟩ : ∃ t, cn 0 = t := ⟨_, rfl⟩
  obtain ⟨c1, hc1⟩ : ∃ t, cn ((1 : Int) : Rat) = t := ⟨_, rfl⟩
  rw [hc0, hc1] at h13
  rw [hc0] at h22
  rw [hc1] at h24 h30 h23
  obtain ⟨x, hx⟩ : ∃ t, varL 0 = t := ⟨_, rfl⟩
  obtain ⟨o, ho⟩ : ∃ t, numL ((1 : Int) : Rat) = t := ⟨_, rfl⟩
  rw [hx, ho] at h56 h13 h20 lc
  rw [hx] at h55 h57 h20b lx lg
  rw [ho] at h30 ln
  obtain ⟨g, hg⟩ : ∃ t, negR x = t := ⟨_, rfl⟩
  obtain ⟨y, hy⟩ : ∃ t, comb o x = t := ⟨_, rfl⟩
  rw [hg] at h57 h56 h20b lg
  rw [hy] at h56 h13 h20 lc
  have gx := flat_length x
  have gx27 := flat_take27 lx
  have x27 := flatF_take27 lx
  have go := flat_length o
  have go27 := flat_take27 ln
  have gg := flat_length g
  have gg27 := flat_take27 lg
  have g27 := flatF_take27 lg
  have gy := flat_length y
  have gy27 := flat_take27 lc
  have y27 := flatF_take27 lc
  unfold Raw.v at h24 h30 h13 h22 h23
  unfold RL at h55 h30 h57 h56
  have e0 : ((0 : Int) == 0) = true := rfl
  refine den_of tabOk mixed Tryz.func16 (cd := _) rfl (by decide) rfl (n := 67) rfl rfl (m := 0) rfl ?_
  simp (dsimp := false) (disch := omega) only [List.replicate, rules]
  refine GoCall.pure h55 rfl ?_
  simp (dsimp := false) (disch := omega) only [flat_reloc, List.append_nil, gx, lx, rules, tys, eq_self, Nat.reduceAdd, Nat.reduceMul, Nat.reduceLT, Nat.reduceLeDiff]
  repeat refine And.intro (by omega) ?_
  refine GoCall.pure h24 rfl ?_
  simp (dsimp := false) (disch := omega) only [List.append_nil, rules]
  refine GoCall.pure h30 rfl ?_
  simp (dsimp := false) (disch := omega) only [flat_reloc, List.append_nil, go, ln, rules, tys, eq_self, Nat.reduceAdd, Nat.reduceMul, Nat.reduceLT, Nat.reduceLeDiff]
  repeat refine And.intro (by omega) ?_
  refine Draw.intro (by kernel_rfl) ?_
  simp (dsimp := false) (disch := omega) only [gx, lx, gx27, go, ln, go27, rules, tys, eq_self, ↓reduceIte, Nat.reduceMul, Nat.reduceLeDiff]
  repeat refine And.intro (by omega) ?_
  refine GoCall.pure h57 (by simp [fzAs, fzA, flat_fz, flatF_fv]) ?_
  simp (dsimp := false) (disch := omega) only [flat_ids, flat_reloc, List.append_nil, rules, Nat.reduceAdd]
  refine GoCall.pure h56 (by simp [fzAs, fzA, flat_fz, flatF_fv]) ?_
  have hZ := two_head lx
  have hD := two_tail lx
  simp only [zcells] at hD
  have hxy : flat x ++ flat y = flat (x ++ y) := (flat_append x y).symm
  have hxg : flat x ++ flat g = flat (x ++ g) := (flat_append x g).symm
  have t1 := two_take (y := y) lx
  have t2 := two_drop lx lc
  have t3 := two_take (y := g) lx
  have t4 := two_drop lx lg
  simp (dsimp := false) (disch := omega) only [flat_ids, flat_reloc, flat_fz, List.append_nil, gx, lx, gy, lc, hZ, hD, hxy, t1, t2, List.length_append, rules, tys, eq_self, ↓reduceIte, Nat.reduceAdd, Nat.reduceMul, Nat.reduceLT, Nat.reduceLeDiff]
  repeat refine And.intro (by omega) ?_
  refine GoCall.pure h13 (by simp [fzAs, fzA, fz1, fz0]) ?_
  simp (dsimp := false) (disch := omega) only [List.append_nil, rules, tys, eq_self, Nat.reduceAdd, Nat.reduceLT, Nat.reduceLeDiff]
  repeat refine And.intro (by omega) ?_
  refine GoCall.pure h20 (by simp [fzAs, fzA, fz1, fz0]) ?_
  simp (dsimp := false) (disch := omega) only [List.append_nil, rules, Nat.reduceAdd]
  repeat refine And.intro (by omega) ?_
  refine Draw.intro (by kernel_rfl) ?_
  simp (dsimp := false) (disch := omega) only [gx, lx, gx27, rules, tys, eq_self, ↓reduceIte, Nat.reduceMul, Nat.reduceLeDiff]
  repeat refine And.intro (by omega) ?_
  refine GoCall.pure h57 (by simp [fzAs, fzA, flat_fz, flatF_fv]) ?_
  simp (dsimp := false) (disch := omega) only [flat_ids, flat_reloc, flat_fz, List.append_nil, gx, lx, gg, lg, hZ, hD, hxg, t3, t4, List.length_append, rules, tys, eq_self, ↓reduceIte, Nat.reduceAdd, Nat.reduceMul, Nat.reduceLT, Nat.reduceLeDiff]
  repeat refine And.intro (by omega) ?_
  refine GoCall.show h20b (Plain.tup (by simp; exact ⟨Plain.lit _, Plain.lit _⟩)) rfl rfl ?_
  simp (dsimp := false) (disch := omega) only [rules, Nat.reduceAdd]
  refine Draw.intro (by kernel_rfl) ?_
  simp (dsimp := false) (disch := omega) only [e0, Bool.not_false, rules, tys, eq_self, ↓reduceIte, Nat.reduceAdd, Nat.reduceLeDiff]
  repeat refine And.intro (by omega) ?_
  refine GoCall.pure h22 rfl ?_
  simp (dsimp := false) (disch := omega) only [List.append_nil, e0, rules, tys, eq_self, ↓reduceIte, Nat.reduceAdd, Nat.reduceLeDiff]
  repeat refine And.intro (by omega) ?_
  refine GoCall.pure h24 rfl ?_
  simp (dsimp := false) (disch := omega) only [List.append_nil, rules, Nat.reduceAdd]
  refine GoCall.pure h23 rfl ?_
  simp (dsimp := false) (disch := omega) only [List.append_nil, e0, Ap_end_ret, rules, tys, eq_self, ↓reduceIte, Nat.reduceAdd]
  exact RetOK.pure rfl ⟨trivial, trivial⟩ rfl
end Go.Proofs.YtddnnhlcpffbdaaGreat

namespace Go.Proofs.YtddnnhlcpffbdaaGreat
open Go.AM Go.Pl
set_option maxRecDepth 100000
set_option maxHeartbeats 4000000

def negF : List Raw := (List.replicate 9 rz).set 8 (cn ((-1 : Int) : Rat))
theorem negF_nrm : nrmR negF = numL ((-1 : Int) : Rat) := by
  have h9 : negF.length = 9 := by simp [negF]
  have hl : (leadL negF).q = ((-1 : Int) : Rat) := by
    decide +kernel
  have h0 : (leadL negF).q ≠ 0 := by rw [hl]; decide
  have ha : absq ((-1 : Int) : Rat) = 1 := by decide +kernel
  have hn : IsCn (numL ((-1 : Int) : Rat)) := ⟨(List.replicate 9 (0 : Rat)).set 8 ((-1 : Int) : Rat), by simp [numL], by simp⟩
  refine cn_ext (nrmR_cn h9) hn (fun i hi => ?_)
  rw [nrmR_at h9 h0 hi, hl, ha, co_num hi]
  by_cases h8 : i = 8
  · subst h8
    rw [if_pos rfl]
    unfold negF co
    rw [List.getD_eq_getElem?_getD, List.getElem?_set_self (by simp), Option.getD_some, cn_q]
    grind
  · rw [if_neg h8]
    unfold negF
    rw [co_setne h8, co_rz]
    grind
theorem negF_ok : LOk 1 negF := by
  refine ⟨by simp [negF], fun r hr => ?_⟩
  unfold negF at hr
  rcases List.mem_or_eq_of_mem_set hr with h1 | h1
  · rw [List.eq_of_mem_replicate h1]; exact ⟨Dig.nil, Dig.nil, Nat.zero_le _, Nat.zero_le _⟩
  · rw [h1]; exact cn_ok (bd_int (by decide))
theorem pd84 : Den Tryz.prog 84 [] [] [] (.fv (.sl (rowsF [numL ((-1 : Int) : Rat)]))) := by
  have h47 := den47 (-1) (by decide)
  change Den Tryz.prog 77 [] [.int .i64 (-1)] [] (cn ((-1 : Int) : Rat)).v at h47
  have hN := den12 negF (negF_ok.mono (by decide))
  change Den Tryz.prog 85 [] [RL negF] [] (RL (nrmR negF)) at hN
  rw [negF_nrm] at hN
  have hnl := numL_len ((-1 : Int) : Rat)
  have hF : flat negF = [.bool false, .fv (.sl []), .fv (.sl []), .bool false, .fv (.sl []), .fv (.sl []), .bool false, .fv (.sl []), .fv (.sl []), .bool false, .fv (.sl []), .fv (.sl []), .bool false, .fv (.sl []), .fv (.sl []), .bool false, .fv (.sl []), .fv (.sl []), .bool false, .fv (.sl []), .fv (.sl []), .bool false, .fv (.sl []), .fv (.sl []), .bool (cn ((-1 : Int) : Rat)).neg, .fv (.sl (u32s (cn ((-1 : Int) : Rat)).num)), .fv (.sl (u32s (cn ((-1 : Int) : Rat)).den))] := rfl
  unfold RL at hN
  rw [hF] at hN
  have r1 : rowsF [numL ((-1 : Int) : Rat)] = [flatF (numL ((-1 : Int) : Rat))] := rfl
  rw [r1]
  obtain ⟨c, hc⟩ : ∃ c, cn ((-1 : Int) : Rat) = c := ⟨_, rfl⟩
  rw [hc] at h47 hN
  obtain ⟨y, hy⟩ : ∃ y, numL ((-1 : Int) : Rat) = y := ⟨_, rfl⟩
  rw [hy] at hN hnl ⊢
  have gy := flat_length y
  have gy27 := flat_take27 hnl
  have y27 := flatF_take27 hnl
  unfold Raw.v at h47
  refine den_of tabOk mixed Tryz.func84 (cd := _) rfl (by decide) rfl (n := 5) rfl rfl (m := 0) rfl ?_
  simp (dsimp := false) (disch := omega) only [List.replicate, rules]
  refine GoCall.pure h47 rfl ?_
  simp (dsimp := false) (disch := omega) only [rules, tys, eq_self, ↓reduceIte, Nat.reduceAdd, Nat.reduceLeDiff]
  refine GoCall.pure hN rfl ?_
  simp (dsimp := false) (disch := omega) only [flat_ids, flat_reloc, flat_fz, List.append_nil, gy, hnl, y27, Ap_end_ret, rules, tys, eq_self, ↓reduceIte, Nat.reduceAdd, Nat.reduceMul, Nat.reduceLT, Nat.reduceLeDiff]
  exact RetOK.pure rfl ⟨trivial, trivial⟩ rfl
theorem turn_cs {s : List (List Raw)} {i : Nat} (hg : GoodT s) (hi : i < s.length) : CsOk (del s i ++ [negR (s.getD i [])]) ∧ innerB (del s i ++ [negR (s.getD i [])]) = redB s i ∧ Pre (del s i ++ [negR (s.getD i [])]) := by
  have hl := del_len hi
  obtain ⟨h1, h2⟩ := hg.turn (t := del s i) (fun l hl => del_mem hl) (at_mem hi) (by omega)
  have h9 : ∀ l ∈ del s i ++ [negR (s.getD i [])], l.length = 9 := fun l hl => (h2.ok l hl).len
  refine ⟨⟨fun l hl => (h2.ok l hl).mono (by decide), by have := h2.len; omega, ?_, h1, fun l hl _ => h2.ok l hl⟩, inner_nc h9 h2.nc, h2⟩
  have h3 := ncs_le (del s i ++ [negR (s.getD i [])])
  have h4 := hg.good.len
  rw [List.length_append, List.length_singleton] at h3
  omega
end Go.Proofs.YtddnnhlcpffbdaaGreat

namespace Go.Proofs.YtddnnhlcpffbdaaGreat
open Go.AM Go.Pl
set_option maxRecDepth 100000
set_option maxHeartbeats 4000000

theorem pd81 (cs : List (List Raw)) (h : CsT cs) : Den Tryz.prog 81 [] [.fv (.sl (rowsF cs))] [] (.fv (.sl (rowsF (canonP cs)))) := by
  obtain ⟨R, hR⟩ : ∃ R, canonP cs = R := ⟨_, rfl⟩
  rw [hR]
  unfold canonP innerB at hR
  have h44 := pd44g cs h.cs
  have hg0 := h.good
  have h45 := pd45 _ hg0.good
  have h84 := pd84
  cases hvb : violB cs with
  | true =>
    rw [hvb, if_pos rfl] at h44
    rw [hvb] at hR
    have hR2 : R = [numL ((-1 : Int) : Rat)] := hR.symm
    subst hR2
    refine den_of tabOk mixed Tryz.func81 (cd := _) rfl (by decide) rfl (n := 46) rfl rfl (m := 0) rfl ?_
    simp (dsimp := false) (disch := omega) only [List.replicate, rules]
    refine GoCall.pure h44 rfl ?_
    simp (dsimp := false) (disch := omega) only [Bool.not_false, rules, eq_self, ↓reduceIte]
    refine GoCall.pure h84 rfl ?_
    simp (dsimp := false) (disch := omega) only [Ap_end_ret, rules]
    exact RetOK.pure rfl ⟨trivial, trivial⟩ rfl
  | false =>
    rw [hvb, if_neg (by simp)] at h44
    rw [hvb] at hR
    cases hfb : feasB (sysL cs []) with
    | false =>
      rw [hfb] at hR h45
      have hR2 : R = [numL ((-1 : Int) : Rat)] := hR.symm
      subst hR2
      refine den_of tabOk mixed Tryz.func81 (cd := _) rfl (by decide) rfl (n := 46) rfl rfl (m := 0) rfl ?_
      simp (dsimp := false) (disch := omega) only [List.replicate, rules]
      refine GoCall.pure h44 rfl ?_
      simp (dsimp := false) (disch := omega) only [Bool.not_true, rules]
      refine GoCall.pure h45 rfl ?_
      simp (dsimp := false) (disch := omega) only [Bool.not_false, rules, ↓reduceIte]
      refine GoCall.pure h84 rfl ?_
      simp (dsimp := false) (disch := omega) only [Ap_end_ret, rules]
      exact RetOK.pure rfl ⟨trivial, trivial⟩ rfl
    | true =>
      rw [hfb, Bool.not_false, Bool.and_true, if_pos rfl] at hR
      rw [hfb] at h45
      obtain ⟨s0, hs0⟩ : ∃ s, sysL cs [] = s := ⟨_, rfl⟩
      rw [hs0] at h44 hg0 h45 hR
      have hm1 := den47 (-1) (by decide)
      change Den Tryz.prog 77 [] [.int .i64 (-1)] [] (cn ((-1 : Int) : Rat)).v at hm1
      have hcm : ∀ b : List Raw, LOk 1000 b → Den Tryz.prog 79 [] [RL b, (cn ((-1 : Int) : Rat)).v] [] (RL (negR b)) := fun b hb => by
        have := den23 b (cn ((-1 : Int) : Rat)) (hb.mono (by decide)) (cn_ok (Bd.mono (show Bd 1 ((-1 : Int) : Rat) from ⟨by decide, by decide⟩) (by decide)))
        rw [cn_q] at this
        exact this
      obtain ⟨c, hc⟩ : ∃ c, cn ((-1 : Int) : Rat) = c := ⟨_, rfl⟩
      rw [hc] at hm1 hcm
      unfold Raw.v at hm1 hcm
      refine den_of tabOk mixed Tryz.func81 (cd := _) rfl (by decide) rfl (n := 46) rfl rfl (m := 0) rfl ?_
      simp (dsimp := false) (disch := omega) only [List.replicate, rules]
      refine GoCall.pure h44 rfl ?_
      simp (dsimp := false) (disch := omega) only [Bool.not_true, rules]
      refine GoCall.pure h45 rfl ?_
      simp (dsimp := false) (disch := omega) only [Bool.not_true, rules, ↓reduceIte]
      refine GoCall.pure hm1 rfl ?_
      simp (dsimp := false) (disch := omega) only [rules, tys, eq_self, Nat.reduceAdd, Nat.reduceLT, Nat.reduceLeDiff]
      repeat refine And.intro (by omega) ?_
      refine WA.loop (α := Nat × List (List Raw)) (fun ⟨i, s⟩ => ⟨[.fv (.sl (rowsF cs)), .any, .nilsl, .fv (.sl (rowsF s)), .bool true, .ptr 0 0 0, .int .i64 i] ++ List.replicate 40 .any, [.box true [.bool c.neg, .fv (.sl (u32s c.num)), .fv (.sl (u32s c.den))]]⟩)
        (fun ⟨i, s⟩ => s.length - i) (fun ⟨i, s⟩ => i ≤ s.length ∧ GoodT s ∧ canL (s.length - i) i s = R) (0, s0) ?_ ?_ ?_
      · refine Weak.keep [0] (by simp) rfl ?_ ?_
        · simp [leVs, leV, le1]
        · simp [leH, leO, le1s, le1]
      · exact ⟨Nat.zero_le _, hg0, hR⟩
      · rintro ⟨i, s⟩ ⟨hi, hg, hcan⟩
        have hn12 := hg.good.len
        have hlim := hg.good.lim
        obtain ⟨n, hnn⟩ : ∃ n, s.length = n := ⟨_, rfl⟩
        have rl := rowsF_length s
        rw [hnn] at rl hn12 hi hcan
        simp (dsimp := false) (disch := omega) only [List.replicate, rl, rules, tys, eq_self, ↓reduceIte]
        refine Br.dec ?_ ?_
        · intro h1 h2
          have hin : i < s.length := by omega
          have hmem := at_mem (ls := s) (i := i) hin
          have r1 := rowsF_getD s i
          obtain ⟨hcs, hinn, _⟩ := turn_cs hg hin
          have h60 := pd60 _ hcs
          rw [hinn] at h60
          have h78 := pd78 s (fun l hl => (hlim l hl).len) (by omega)
          have h114 := pd114 s i hin (by omega)
          have hdl := del_len hin
          have h78b := pd78 (del s i) (fun l hl => (hlim l (del_mem hl)).len) (by omega)
          have hgd := hg.sub (del_sub (s := s) (i := i))
          have h8 : n - i = (n - (i + 1)) + 1 := by omega
          rw [h8] at hcan
          unfold canL at hcan
          rw [if_pos hin] at hcan
          obtain ⟨b, hb⟩ : ∃ b, redB s i = b := ⟨_, rfl⟩
          rw [hb] at h60 hcan
          obtain ⟨x, hxx⟩ : ∃ x, s.getD i [] = x := ⟨_, rfl⟩
          rw [hxx] at hmem r1 h60
          have hx := hlim x hmem
          have lx := hx.len
          have x27 := flatF_take27 lx
          have fx := flatF_length x
          have gx := flat_length x
          have gx27 := flat_take27 lx
          have h79 := hcm x hx
          have hnl := negR_len lx
          have rd := rowsF_length (del s i)
          have hap := rows_snoc (del s i) (negR x)
          have hdl2 : (del s i).length = n - 1 := by omega
          rw [hdl2] at rd h78b
          have tkd := take_rows (ls := del s i) (n := n - 1) (by omega)
          obtain ⟨dd, hdd⟩ : ∃ d, del s i = d := ⟨_, rfl⟩
          rw [hdd] at h60 h114 h78b hgd rd hap hcan hdl2 tkd
          obtain ⟨y, hy⟩ : ∃ y, negR x = y := ⟨_, rfl⟩
          rw [hy] at h60 h79 hnl hap
          have gy := flat_length y
          have y27 := flatF_take27 hnl
          have gy27 := flat_take27 hnl
          have hlen1 : (dd ++ [y]).length = n - 1 + 1 := by rw [List.length_append, hdl2]; rfl
          have rll := rowsF_length (dd ++ [y])
          rw [hlen1] at rll
          rw [hnn] at h78 h114
          have hsh : ∀ (H : List Ob) (a b : FV), shutBs H 1 [.lsl 1 0 n 27, .fv a, .fv b] = H := fun _ _ _ => rfl
          have h0n : 0 + (n - 1) ≤ (rowsF dd).length := by omega
          unfold RL at h79
          simp (dsimp := false) (disch := omega) only [h2, rules]
          refine GoCall.pure h78 rfl ?_
          simp (dsimp := false) (disch := omega) only [wrap64, rules, tys, eq_self, ↓reduceIte, Nat.reduceAdd]
          refine GoCall.lend 1 h114 rfl rfl trivial rfl rfl rfl ?_
          simp (dsimp := false) (disch := omega) only [List.append_nil, lent, hsh, rules, Nat.reduceAdd]
          refine Draw.freeze [1] (by kernel_rfl) ?_
          simp (dsimp := false) (disch := omega) only [rules]
          refine GoCall.pure h78b (by simp [fzAs, fzA, fz1, fz0, rd, tkd]) ?_
          simp (dsimp := false) (disch := omega) only [List.append_nil, r1, x27, flatF_fv, fx, lx, rl, rules, tys, eq_self, ↓reduceIte, Nat.reduceAdd, Nat.reduceMul, Nat.reduceLT, Nat.reduceLeDiff]
          repeat refine And.intro (by omega) ?_
          refine GoCall.pure h79 (by simp [fzAs, fzA, flat_fz, flatF_fv, fzs, fz0]) ?_
          simp (dsimp := false) (disch := omega) only [flat_ids, flat_reloc, flat_fz, List.append_nil, gy, hnl, y27, rd, tkd, hap, rules, tys, eq_self, ↓reduceIte, Nat.reduceAdd, Nat.reduceMul, Nat.reduceBEq, Nat.reduceLT, Nat.reduceLeDiff]
          repeat refine And.intro (by omega) ?_
          refine GoCall.show h60 (Plain.lit _) (by omega) rfl ?_
          cases b with
          | true =>
            rw [if_pos rfl] at hcan
            simp (dsimp := false) (disch := omega) only [wrap64, rules, tys, eq_self, ↓reduceIte, Nat.reduceAdd, Nat.reduceBEq]
            refine Ap_loop (i + 1, s) (by dsimp only; omega) ?_ ⟨by omega, hg, by rw [hnn]; exact hcan⟩
            refine Weak.keep [0] (by simp) rfl ?_ ?_
            · simp [leVs, leV, le1]
            · simp [leH, leO, le1s, le1]
          | false =>
            rw [if_neg (by simp)] at hcan
            simp (dsimp := false) (disch := omega) only [rules, Nat.reduceAdd]
            refine Ap_loop (i, dd) (by dsimp only; omega) ?_ ⟨by omega, hgd, by rw [hdl2, show n - 1 - i = n - (i + 1) by omega]; exact hcan⟩
            refine Weak.fz 3 1 0 (n - 1) 27 (rowsF dd) rfl rfl (by omega) ?_
            refine Weak.keep [0] (by simp) rfl ?_ ?_
            · simp [leVs, leV, le1, tkd]
            · simp [leH, leO, le1s, le1]
        · intro h1 h2
          have hin : i = n := by omega
          have h8 : n - i = 0 := by omega
          rw [h8] at hcan
          have hcan2 : s = R := hcan
          subst hcan2
          simp (dsimp := false) (disch := omega) only [h2, Ap_end_ret, rules, Nat.reduceBEq]
          exact RetOK.pure rfl ⟨trivial, trivial⟩ rfl

theorem pd38 (cs : List (List Raw)) (h : CsT cs) (hl : cs.length ≤ 40) : Den Tryz.prog 38 [] [.fv (.sl (rowsF cs))] [] (.tup [.fv (.sl (rowsF (canonP cs))), .int .i64 0]) := by
  have h81 := pd81 cs h
  have rl := rowsF_length cs
  have e1 : decide ((cs.length : Int) > 40) = false := decide_eq_false (by omega)
  refine den_of tabOk mixed Tryz.func38 (cd := _) rfl (by decide) rfl (n := 8) rfl rfl (m := 0) rfl ?_
  simp (dsimp := false) (disch := omega) only [List.replicate, rl, e1, rules, tys, eq_self, ↓reduceIte]
  refine GoCall.pure h81 rfl ?_
  simp (dsimp := false) (disch := omega) only [Ap_end_ret, rules]
  exact RetOK.pure rfl ⟨trivial, trivial, trivial⟩ rfl
end Go.Proofs.YtddnnhlcpffbdaaGreat

namespace Go.Pl
open Go.AM

theorem near (a c : Rat) (ha : 0 < a) : ∃ e : Rat, 0 < e ∧ ∀ t : Rat, -e ≤ t → t ≤ e → 0 < a + c * t := by
  by_cases h0 : c = 0
  · exact ⟨1, by decide, fun t _ _ => by rw [h0, Rat.zero_mul, Rat.add_zero]; exact ha⟩
  · by_cases hp : 0 < c
    · have hce : c * (a / (2 * c)) = a / 2 := by grind
      have he : 0 < a / (2 * c) := by
        by_cases h : 0 < a / (2 * c)
        · exact h
        · exfalso
          have := Rat.mul_nonneg (show 0 ≤ -(a / (2 * c)) by grind) (show 0 ≤ c by grind)
          grind
      refine ⟨a / (2 * c), he, fun t h1 _ => ?_⟩
      have := Rat.mul_nonneg (show 0 ≤ t + a / (2 * c) by grind) (show 0 ≤ c by grind)
      grind
    · have hn : 0 < -c := by grind
      have hce : (-c) * (a / (2 * (-c))) = a / 2 := by grind
      have he : 0 < a / (2 * (-c)) := by
        by_cases h : 0 < a / (2 * (-c))
        · exact h
        · exfalso
          have := Rat.mul_nonneg (show 0 ≤ -(a / (2 * (-c))) by grind) (show 0 ≤ -c by grind)
          grind
      refine ⟨a / (2 * (-c)), he, fun t _ h2 => ?_⟩
      have := Rat.mul_nonneg (show 0 ≤ a / (2 * (-c)) - t by grind) (show 0 ≤ -c by grind)
      grind
theorem pos_open {w : Nat} (hw : w < 8) : ∀ (s : List (List Raw)) (x : Nat → Rat), Pos s x → ∃ e : Rat, 0 < e ∧ ∀ t : Rat, -e ≤ t → t ≤ e → Pos s (upd x w (x w + t))
  | [], x, _ => ⟨1, by decide, fun t _ _ l hl => by simp at hl⟩
  | m :: s, x, h => by
    obtain ⟨e1, h1, k1⟩ := pos_open hw s x (fun l hl => h l (List.mem_cons_of_mem _ hl))
    obtain ⟨e2, h2, k2⟩ := near (lval m x) (co m w) (h m (by simp))
    by_cases h3 : e1 ≤ e2
    · refine ⟨e1, h1, fun t ht1 ht2 l hl => ?_⟩
      rcases List.mem_cons.1 hl with h4 | h4
      · subst h4
        rw [lval_upd hw]
        have := k2 t (by grind) (by grind)
        grind
      · exact k1 t ht1 ht2 l h4
    · refine ⟨e2, h2, fun t ht1 ht2 l hl => ?_⟩
      rcases List.mem_cons.1 hl with h4 | h4
      · subst h4
        rw [lval_upd hw]
        have := k2 t ht1 ht2
        grind
      · exact k1 t (by grind) (by grind) l h4
theorem pos_cross {s : List (List Raw)} {l : List Raw} {x : Nat → Rat} (hl : ¬ IsConst l) (hx : Pos s x) (h0 : lval l x = 0) : ∃ y, Pos s y ∧ lval l y < 0 := by
  obtain ⟨w, hw, hc⟩ := not_const hl
  obtain ⟨e, he, k⟩ := pos_open hw s x hx
  by_cases hp : 0 < co l w
  · refine ⟨upd x w (x w + -e), k _ (by grind) (by grind), ?_⟩
    rw [lval_upd hw, h0]
    have := Rat.mul_pos hp he
    grind
  · refine ⟨upd x w (x w + e), k _ (by grind) (by grind), ?_⟩
    rw [lval_upd hw, h0]
    have := Rat.mul_pos (show 0 < -(co l w) by grind) he
    grind
theorem lval_negR {l : List Raw} (h9 : l.length = 9) (x : Nat → Rat) : lval (negR l) x = -lval l x := by
  have c := fun w hw => negR_at h9 (i := w) hw
  rw [lval_eq, lval_eq, c 8 (by decide), c 0 (by decide), c 1 (by decide), c 2 (by decide), c 3 (by decide), c 4 (by decide), c 5 (by decide), c 6 (by decide), c 7 (by decide)]
  grind
theorem in_pos {t : List (List Raw)} (h : ∀ l ∈ t, ¬ IsConst l) (x : Nat → Rat) : In t x ↔ Pos t x :=
  ⟨fun hi l hl => by
    rcases hi l hl with h1 | h1
    · exact h1
    · exact absurd h1.1 (h l hl), fun hp l hl => .inl (hp l hl)⟩
theorem feas_sys {t : List (List Raw)} (h9 : ∀ l ∈ t, l.length = 9) (h : ∀ l ∈ t, ¬ IsConst l) : feasB (sysL t []) = true ↔ ∃ x, Pos t x := by
  rw [feasB_iff]
  have := fun x => (sys_in h9 (sysL_is h9) (turn_viol h) x).symm.trans (in_pos h x)
  exact ⟨fun ⟨x, hx⟩ => ⟨x, (this x).1 hx⟩, fun ⟨x, hx⟩ => ⟨x, (this x).2 hx⟩⟩
theorem red_iff {s : List (List Raw)} {i : Nat} (hg : GoodT s) (hi : i < s.length) : redB s i = true ↔ ∃ y, Pos (del s i) y ∧ lval (s.getD i []) y < 0 := by
  have hmem : s.getD i [] ∈ s := by rw [List.getD_eq_getElem?_getD, List.getElem?_eq_getElem hi]; exact List.getElem_mem _
  have hl := del_len hi
  obtain ⟨h1, h2⟩ := hg.turn (t := del s i) (fun l hl => del_mem hl) hmem (by omega)
  have h9 : ∀ l ∈ del s i ++ [negR (s.getD i [])], l.length = 9 := fun l hl => (h2.ok l hl).len
  have hx9 : (s.getD i []).length = 9 := hg.good.len9 _ hmem
  unfold redB
  rw [feas_sys h9 h2.nc]
  constructor
  · rintro ⟨y, hy⟩
    refine ⟨y, fun l hl => hy l (List.mem_append_left _ hl), ?_⟩
    have := hy (negR (s.getD i [])) (by simp)
    rw [lval_negR hx9] at this
    grind
  · rintro ⟨y, hy, hn⟩
    refine ⟨y, fun l hl => ?_⟩
    rcases List.mem_append.1 hl with h3 | h3
    · exact hy l h3
    · rw [List.mem_singleton.1 h3, lval_negR hx9]; grind
theorem del_pos {s : List (List Raw)} {i : Nat} (hg : GoodT s) (hi : i < s.length) (hr : redB s i = false) (x : Nat → Rat) : Pos (del s i) x ↔ Pos s x := by
  have hmem : s.getD i [] ∈ s := by rw [List.getD_eq_getElem?_getD, List.getElem?_eq_getElem hi]; exact List.getElem_mem _
  constructor
  · intro hp l hl
    rcases mem_del hi hl with h1 | h1
    · exact hp l h1
    · rw [h1]
      have hno : ∀ y, Pos (del s i) y → ¬ lval (s.getD i []) y < 0 := fun y hy hn => by
        have := (red_iff hg hi).2 ⟨y, hy, hn⟩
        rw [hr] at this; cases this
      by_cases h0 : lval (s.getD i []) x = 0
      · obtain ⟨y, hy, hn⟩ := pos_cross (hg.good.nc _ hmem) hp h0
        exact absurd hn (hno y hy)
      · have := hno x hp
        grind
  · exact fun hp l hl => hp l (del_mem hl)
theorem canL_pos : ∀ (n i : Nat) {s : List (List Raw)}, GoodT s → ∀ x, Pos (canL n i s) x ↔ Pos s x
  | 0, _, _, _, _ => Iff.rfl
  | n + 1, i, s, hg, x => by
    unfold canL
    split
    · rename_i hi
      split
      · exact canL_pos n (i + 1) hg x
      · rename_i hr
        rw [canL_pos n i (hg.sub del_sub) x]
        exact del_pos hg hi (by simpa using hr) x
    · exact Iff.rfl
theorem del_at {s : List (List Raw)} {i j : Nat} (hj : j < i) (hi : i < s.length) : (del s i).getD j [] = s.getD j [] := by
  unfold del
  rw [List.getD_eq_getElem?_getD, List.getElem?_append_left (by rw [List.length_take]; omega), List.getElem?_take, if_pos hj, ← List.getD_eq_getElem?_getD]
theorem del_del {s : List (List Raw)} {i j : Nat} (hj : j < i) (hi : i < s.length) : ∀ l ∈ del (del s i) j, l ∈ del s j := by
  intro l hl
  unfold del at hl ⊢
  rw [List.mem_append] at hl ⊢
  rcases hl with hl | hl
  · left
    rw [List.take_append_of_le_length (by rw [List.length_take]; omega), List.take_take] at hl
    rwa [Nat.min_eq_left (by omega)] at hl
  · right
    rw [List.drop_append_of_le_length (by rw [List.length_take]; omega), List.mem_append] at hl
    rcases hl with hl | hl
    · rw [List.drop_take] at hl
      exact List.mem_of_mem_take hl
    · have e : i + 1 = (j + 1) + (i - j) := by omega
      rw [e, ← List.drop_drop] at hl
      exact List.mem_of_mem_drop hl
theorem canL_irr : ∀ (n i : Nat) {s : List (List Raw)}, GoodT s → s.length ≤ n + i → (∀ j, j < i → j < s.length → redB s j = true) → ∀ j, j < (canL n i s).length → redB (canL n i s) j = true
  | 0, i, s, _, hn, h, j, hj => h j (by have : j < s.length := hj; omega) hj
  | n + 1, i, s, hg, hn, h, j, hj => by
    unfold canL at hj ⊢
    by_cases hi : i < s.length
    · rw [if_pos hi] at hj ⊢
      by_cases hr : redB s i = true
      · rw [if_pos hr] at hj ⊢
        refine canL_irr n (i + 1) hg (by omega) (fun q hq hql => ?_) j hj
        by_cases hqi : q = i
        · rw [hqi]; exact hr
        · exact h q (by omega) hql
      · rw [if_neg hr] at hj ⊢
        have hl := del_len hi
        have hgd := hg.sub (del_sub (s := s) (i := i))
        refine canL_irr n i hgd (by omega) (fun q hq hql => ?_) j hj
        obtain ⟨y, hy, hneg⟩ := (red_iff hg (show q < s.length by omega)).1 (h q hq (by omega))
        refine (red_iff hgd hql).2 ⟨y, fun l hl => hy l (del_del hq hi l hl), ?_⟩
        rw [del_at hq hi]; exact hneg
    · rw [if_neg hi] at hj ⊢
      exact h j (by omega) hj
end Go.Pl

namespace Go.Pl
open Go.AM

noncomputable def canS (s : List (List Raw)) : List (List Raw) := canL s.length 0 s
def Irr (s : List (List Raw)) : Prop := ∀ j, j < s.length → redB s j = true
theorem canS_sub (s : List (List Raw)) : (canS s).Sublist s := canL_sub _ _ _
theorem canS_good {s : List (List Raw)} (h : GoodT s) : GoodT (canS s) := h.sub (canS_sub s)
theorem canS_pos {s : List (List Raw)} (h : GoodT s) (x : Nat → Rat) : Pos (canS s) x ↔ Pos s x := canL_pos _ _ h x
theorem canS_irr {s : List (List Raw)} (h : GoodT s) : Irr (canS s) := canL_irr s.length 0 h (by omega) (fun j hj => by omega)
theorem canS_feas {s : List (List Raw)} (h : GoodT s) : feasB (canS s) = feasB s := by
  have key : Feas (canS s) ↔ Feas s := ⟨fun ⟨x, hx⟩ => ⟨x, (canS_pos h x).1 hx⟩, fun ⟨x, hx⟩ => ⟨x, (canS_pos h x).2 hx⟩⟩
  cases h1 : feasB s with
  | true => exact feasB_iff.2 (key.2 (feasB_iff.1 h1))
  | false => exact feasB_false.2 (fun h2 => feasB_false.1 h1 (key.1 h2))
structure Shad (c d : List (List Raw)) (i : Nat) : Prop where
  good : GoodT d
  feas : feasB d = true
  irr : Irr d
  pos : ∀ x, Pos d x ↔ ∃ t, Pos c (upd x i t)
  occs : ∀ w, w < 8 → w ≠ i → Pl.occ c w = false → Pl.occ d w = false
  gone : Pl.occ d i = false
structure Elim (v n i : Nat) (c d : List (List Raw)) : Prop where
  good : GoodT d
  irr : Irr d
  feas : feasB d = true
  pos : ∀ x, Pos d x ↔ ∃ y, (∀ w, (w < i ∨ i + n ≤ w ∨ w = v) → y w = x w) ∧ Pos c y
  occs : (∀ w, w < i → w ≠ v → Pl.occ c w = false) → ∀ w, w < i + n → w ≠ v → Pl.occ d w = false
end Go.Pl

namespace Go.Pl

theorem gs_cs {c : List (List Raw)} (h : GoodT c) : CsT c := by
  have hl := h.good.len
  have hn := ncs_le c
  refine ⟨⟨fun l hl => (h.good.lim l hl).mono (by decide), by omega, by omega, ?_, fun l hl _ => h.good.lim l hl⟩, ?_⟩
  · rw [h.good.self]; exact h.good
  · rw [h.good.self]; exact h
theorem gs_canon {c : List (List Raw)} (h : GoodT c) (hf : feasB c = true) : canonP c = canS c := by
  unfold canonP
  rw [inner_nc h.good.len9 h.good.nc, h.good.self, hf, if_pos rfl]
  rfl
theorem minus_in {x : Nat → Rat} : ¬ In [numL ((-1 : Int) : Rat)] x := by
  intro h
  have h1 := h _ (List.mem_singleton.2 rfl)
  have c := fun w hw => co_num (q := ((-1 : Int) : Rat)) (w := w) hw
  rw [lval_eq, c 8 (by decide), c 0 (by decide), c 1 (by decide), c 2 (by decide), c 3 (by decide), c 4 (by decide), c 5 (by decide), c 6 (by decide), c 7 (by decide)] at h1
  have e : ((-1 : Int) : Rat) = -1 := rfl
  simp [e] at h1
  rcases h1 with h1 | h1
  · exact absurd h1 (by grind)
  · exact absurd h1.2 (by grind)
theorem inner_pos {cs : List (List Raw)} (h9 : ∀ l ∈ cs, l.length = 9) (hi : innerB cs = true) (x : Nat → Rat) : In cs x ↔ Pos (sysL cs []) x := by
  have h2 := hi
  unfold innerB at h2
  rw [Bool.and_eq_true, Bool.not_eq_true'] at h2
  exact sys_in h9 (sysL_is h9) (fun hv => by rw [(violB_iff h9).2 hv] at h2; cases h2.1) x
theorem inner_feas {cs : List (List Raw)} (hi : innerB cs = true) : feasB (sysL cs []) = true := by
  unfold innerB at hi
  rw [Bool.and_eq_true] at hi
  exact hi.2
theorem canon_in {cs : List (List Raw)} (h : CsT cs) (x : Nat → Rat) : In (canonP cs) x ↔ In cs x := by
  have h9 := h.cs.len9
  unfold canonP
  cases hi : innerB cs with
  | true =>
    rw [if_pos rfl, inner_pos h9 hi]
    have hg := canS_good h.good
    have h1 := in_pos hg.good.nc x
    have h2 := canS_pos h.good x
    exact h1.trans h2
  | false =>
    rw [if_neg (by simp)]
    refine ⟨fun hx => absurd hx minus_in, fun hx => ?_⟩
    rw [(innerB_iff h9).2 ⟨x, hx⟩] at hi
    cases hi
end Go.Pl

namespace Go.Pl
open Go.AM

def way (x y : Nat → Rat) (t : Rat) : Nat → Rat := fun i => x i + t * (y i - x i)
theorem lv_way (a : List Raw) (x y : Nat → Rat) (t : Rat) : ∀ k, lv a (way x y t) k = lv a x k + t * (lv a y k - lv a x k)
  | 0 => by simp only [lv]; grind
  | k + 1 => by
    simp only [lv]
    rw [lv_way a x y t k]
    simp only [way]
    grind
theorem lval_way (a : List Raw) (x y : Nat → Rat) (t : Rat) : lval a (way x y t) = lval a x + t * (lval a y - lval a x) := lv_way a x y t 8
theorem pos_way (y : Nat → Rat) : ∀ (s : List (List Raw)) (x : Nat → Rat), Pos s x → ∃ e : Rat, 0 < e ∧ ∀ t : Rat, 0 ≤ t → t ≤ e → Pos s (way x y t)
  | [], x, _ => ⟨1, by decide, fun t _ _ l hl => by simp at hl⟩
  | m :: s, x, h => by
    obtain ⟨e1, h1, k1⟩ := pos_way y s x (fun l hl => h l (List.mem_cons_of_mem _ hl))
    obtain ⟨e2, h2, k2⟩ := near (lval m x) (lval m y - lval m x) (h m (by simp))
    by_cases h3 : e1 ≤ e2
    · refine ⟨e1, h1, fun t ht1 ht2 l hl => ?_⟩
      rcases List.mem_cons.1 hl with h4 | h4
      · subst h4
        rw [lval_way]
        have := k2 t (by grind) (by grind)
        grind
      · exact k1 t ht1 ht2 l h4
    · refine ⟨e2, h2, fun t ht1 ht2 l hl => ?_⟩
      rcases List.mem_cons.1 hl with h4 | h4
      · subst h4
        rw [lval_way]
        have := k2 t (by grind) ht2
        grind
      · exact k1 t ht1 (by grind) l h4
theorem touch {s : List (List Raw)} {l m : List Raw} {z x0 : Nat → Rat} (H : ∀ x, Pos s x → 0 < lval l x → 0 < lval m x) (hz : Pos s z) (hl : lval l z = 0) (hm : lval m z ≤ 0) (hx : 0 < lval l x0) :
    lval m z = 0 ∧ ∀ y, 0 < lval l y → 0 < lval m y := by
  have key : ∀ y, 0 < lval l y → ∃ e : Rat, 0 < e ∧ ∀ t : Rat, 0 < t → t ≤ e → 0 < lval m z + t * (lval m y - lval m z) := by
    intro y hy
    obtain ⟨e, he, k⟩ := pos_way y s z hz
    refine ⟨e, he, fun t h1 h2 => ?_⟩
    have h3 := H _ (k t (Rat.le_of_lt h1) h2) (by
      rw [lval_way, hl]
      have := Rat.mul_pos h1 hy
      grind)
    rw [lval_way] at h3
    exact h3
  have h0 : lval m z = 0 := by
    by_cases h : lval m z = 0
    · exact h
    · exfalso
      obtain ⟨e, he, k⟩ := key x0 hx
      obtain ⟨e2, he2, k2⟩ := near (-lval m z) (-(lval m x0 - lval m z)) (by grind)
      by_cases h3 : e ≤ e2
      · have a1 := k e he Rat.le_refl
        have a2 := k2 e (by grind) h3
        grind
      · have a1 := k e2 he2 (by grind)
        have a2 := k2 e2 (by grind) Rat.le_refl
        grind
  refine ⟨h0, fun y hy => ?_⟩
  obtain ⟨e, he, k⟩ := key y hy
  have a1 := k e he Rat.le_refl
  rw [h0] at a1
  by_cases h : 0 < lval m y
  · exact h
  · exfalso
    have := Rat.mul_nonneg (Rat.le_of_lt he) (show 0 ≤ -lval m y by grind)
    grind
theorem lin_all {a b : Rat} (h : ∀ k : Rat, 0 < a + k * b) : b = 0 := by
  by_cases hb : b = 0
  · exact hb
  · exfalso
    have h1 := h (-(a + 1) / b)
    have h2 : -(a + 1) / b * b = -(a + 1) := by grind
    grind
theorem half_lin {l m : List Raw} {z x0 : Nat → Rat} (hlc : ¬ IsConst l) (hmc : ¬ IsConst m) (h : ∀ y, 0 < lval l y → 0 < lval m y) (hl : lval l z = 0) (hm : lval m z = 0) (hx : 0 < lval l x0) :
    ∃ c : Rat, 0 < c ∧ ∀ i, i < 9 → co m i = c * co l i := by
  obtain ⟨u, hu, hcu⟩ := not_const hlc
  have key : ∀ w, w < 8 → co m w * co l u = co m u * co l w := by
    intro w hw
    by_cases huw : w = u
    · rw [huw]
    · have : co m w * co l u - co m u * co l w = 0 := lin_all (a := lval m x0) (fun k => by
        have h1 := h (upd (upd x0 w (x0 w + k * co l u)) u (x0 u - k * co l w)) (by
          rw [lval_upd hu, lval_upd hw, upd_ne (fun e => huw e.symm)]
          grind)
        rw [lval_upd hu, lval_upd hw, upd_ne (fun e => huw e.symm)] at h1
        grind)
      grind
  have hmu : co m u ≠ 0 := fun h0 => hmc (fun w hw => by
    have := key w hw
    rw [h0, Rat.zero_mul] at this
    rcases Rat.mul_eq_zero.1 this with h1 | h1
    · exact h1
    · exact absurd h1 hcu)
  have hsg : 0 ≤ co m u * co l u := by
    by_cases h0 : 0 ≤ co m u * co l u
    · exact h0
    · exfalso
      have hn : 0 < -(co m u * co l u) := by grind
      have hx2 := h x0 hx
      have hinv : 0 < (-(co m u * co l u))⁻¹ := Rat.inv_pos.2 hn
      have hk : 0 ≤ (lval m x0 + 1) * (-(co m u * co l u))⁻¹ := Rat.mul_nonneg (by grind) (Rat.le_of_lt hinv)
      have hkk : (lval m x0 + 1) * (-(co m u * co l u))⁻¹ * (co m u * co l u) = -(lval m x0 + 1) := by
        have := Rat.mul_inv_cancel (-(co m u * co l u)) (by grind)
        grind
      obtain ⟨k, hkd⟩ : ∃ k, (lval m x0 + 1) * (-(co m u * co l u))⁻¹ = k := ⟨_, rfl⟩
      rw [hkd] at hk hkk
      have h1 := h (upd x0 u (x0 u + k * co l u)) (by
        rw [lval_upd hu]
        have hsq : 0 ≤ co l u * co l u := by
          by_cases hp : 0 ≤ co l u
          · exact Rat.mul_nonneg hp hp
          · have := Rat.mul_nonneg (show 0 ≤ -co l u by grind) (show 0 ≤ -co l u by grind); grind
        have := Rat.mul_nonneg hk hsq
        grind)
      rw [lval_upd hu] at h1
      grind
  have hc : 0 < co m u / co l u := by
    have hne : co m u * co l u ≠ 0 := fun h0 => by
      rcases Rat.mul_eq_zero.1 h0 with h1 | h1
      · exact hmu h1
      · exact hcu h1
    by_cases hp : 0 < co m u / co l u
    · exact hp
    · exfalso
      have e : co m u / co l u * (co l u * co l u) = co m u * co l u := by grind
      have hsq : 0 ≤ co l u * co l u := by
        by_cases hp : 0 ≤ co l u
        · exact Rat.mul_nonneg hp hp
        · have := Rat.mul_nonneg (show 0 ≤ -co l u by grind) (show 0 ≤ -co l u by grind); grind
      have := Rat.mul_nonneg (show 0 ≤ -(co m u / co l u) by grind) hsq
      grind
  obtain ⟨c, hcd⟩ : ∃ c, co m u / co l u = c := ⟨_, rfl⟩
  have hcu2 : c * co l u = co m u := by rw [← hcd]; grind
  rw [hcd] at hc
  have hlin : ∀ w, w < 8 → co m w = c * co l w := by
    intro w hw
    have := key w hw
    have e : (co m w - c * co l w) * co l u = 0 := by rw [← hcu2] at this; grind
    rcases Rat.mul_eq_zero.1 e with h1 | h1
    · grind
    · exact absurd h1 hcu
  refine ⟨c, hc, fun i hi => ?_⟩
  by_cases h8 : i < 8
  · exact hlin i h8
  · have hi8 : i = 8 := by omega
    subst hi8
    rw [lval_eq] at hl hm
    rw [hlin 0 (by decide), hlin 1 (by decide), hlin 2 (by decide), hlin 3 (by decide), hlin 4 (by decide), hlin 5 (by decide), hlin 6 (by decide), hlin 7 (by decide)] at hm
    grind
theorem absq_div {x C : Rat} (hC : 0 < C) : absq (x / C) = absq x / C := by
  have h1 : (x / C).num < 0 ↔ x / C < 0 := num_neg_iff
  have h2 : x.num < 0 ↔ x < 0 := num_neg_iff
  have e : x / C * C = x := by grind
  have h3 : x / C < 0 ↔ x < 0 := by
    constructor
    · intro h
      have := Rat.mul_pos (show 0 < -(x / C) by grind) hC
      grind
    · intro h
      by_cases h4 : x / C < 0
      · exact h4
      · have := Rat.mul_nonneg (show 0 ≤ x / C by grind) (Rat.le_of_lt hC)
        grind
  unfold absq
  split <;> split <;> grind
theorem nrm_one {l m : List Raw} {c : Rat} (hl : IsCn l) (hm : IsCn m) (nl : nrmR l = l) (nm : nrmR m = m) (hlc : ¬ IsConst l) (hmc : ¬ IsConst m) (hc : 0 < c) (h : ∀ i, i < 9 → co m i = c * co l i) : m = l := by
  have h9l := hl.len
  have h9m := hm.len
  have hinv : 0 < c⁻¹ := Rat.inv_pos.2 hc
  have hcc : c * c⁻¹ = 1 := Rat.mul_inv_cancel c (by grind)
  have e : m = (l.map (fun r => r.q / c⁻¹)).map cn := by
    refine cn_ext hm ⟨_, rfl, by simp [h9l]⟩ (fun i hi => ?_)
    rw [h i hi]
    unfold co
    rw [List.getD_eq_getElem?_getD, List.getD_eq_getElem?_getD, List.getElem?_eq_getElem (by omega), List.getElem?_eq_getElem (by simp; omega)]
    simp only [Option.getD_some, List.getElem_map, cn_q]
    grind
  have hlead : (leadL m).q = (leadL l).q / c⁻¹ := by
    have := lead_map2 (C := c⁻¹) (by grind) (rs := l)
    rw [← e] at this
    exact this
  have l0 := lead_ne h9l hlc
  have m0 := lead_ne h9m hmc
  have habs : absq (leadL m).q = c * absq (leadL l).q := by rw [hlead, absq_div hinv]; grind
  have hp := absq_pos2 l0
  rw [← nl, ← nm]
  refine cn_ext (nrmR_cn h9m) (nrmR_cn h9l) (fun i hi => ?_)
  rw [nrmR_at h9m m0 hi, nrmR_at h9l l0 hi, habs, h i hi]
  grind
end Go.Pl

namespace Go.Pl

theorem numL_length (q : Rat) : (numL q).length = 9 := by simp [numL]
theorem numL_okk {k : Nat} {q : Rat} (hk : 1 ≤ k) (h : Bd k q) : LOk k (numL q) := by
  have : numL q = ((List.replicate 9 (0 : Rat)).set 8 q).map cn := by simp [numL, List.map_set]
  rw [this]
  refine LOk.of_map (by simp) (fun p hp => ?_)
  rcases List.mem_or_eq_of_mem_set hp with h1 | h1
  · rw [List.eq_of_mem_replicate h1]; exact Bd.zero hk
  · rw [h1]; exact h
theorem rz_ok (k : Nat) : rz.Ok k := by
  refine ⟨?_, ?_, ?_, ?_⟩ <;> simp [rz, Dig]
end Go.Pl

namespace Go.Pl
open Go.AM

theorem GoodT.nm {s : List (List Raw)} (h : GoodT s) : ∀ l ∈ s, nrmR l = l := by
  obtain ⟨k, hk, hs, hz⟩ := h
  exact hs.nm
theorem GoodT.sorted {s : List (List Raw)} (h : GoodT s) : s.Pairwise (fun a b => cmpR a b < 0) := by
  obtain ⟨k, hk, hs, hz⟩ := h
  exact hs.sorted
theorem facet_in {s t : List (List Raw)} (hs : GoodT s) (ht : GoodT t) (hirr : Irr s) {x0 : Nat → Rat} (h0 : Pos s x0) (hst : ∀ x, Pos s x ↔ Pos t x) : ∀ l ∈ s, l ∈ t := by
  intro l hl
  obtain ⟨i, hi, hil⟩ := List.mem_iff_getElem.1 hl
  have hgd : s.getD i [] = l := by rw [List.getD_eq_getElem?_getD, List.getElem?_eq_getElem hi, Option.getD_some, hil]
  obtain ⟨y, hy, hly⟩ := (red_iff hs hi).1 (hirr i hi)
  rw [hgd] at hly
  have hp : 0 < lval l x0 := h0 l hl
  have hd : 0 < lval l x0 - lval l y := by grind
  have hinv : 0 < (lval l x0 - lval l y)⁻¹ := Rat.inv_pos.2 hd
  have hcan : (lval l x0 - lval l y) * (lval l x0 - lval l y)⁻¹ = 1 := Rat.mul_inv_cancel _ (by grind)
  obtain ⟨t0, ht0⟩ : ∃ t0, lval l x0 * (lval l x0 - lval l y)⁻¹ = t0 := ⟨_, rfl⟩
  have ht0p : 0 < t0 := by rw [← ht0]; exact Rat.mul_pos hp hinv
  have h1t : 0 < 1 - t0 := by
    have : 1 - t0 = (-lval l y) * (lval l x0 - lval l y)⁻¹ := by rw [← ht0]; grind
    rw [this]; exact Rat.mul_pos (by grind) hinv
  have hlz : lval l (way x0 y t0) = 0 := by rw [lval_way, ← ht0]; grind
  have hz : Pos (del s i) (way x0 y t0) := by
    intro a ha
    rw [lval_way]
    have a1 := Rat.mul_pos h1t (h0 a (del_mem ha))
    have a2 := Rat.mul_pos ht0p (hy a ha)
    grind
  have hnt : ¬ Pos t (way x0 y t0) := fun h => by
    have := (hst _).2 h l hl
    rw [hlz] at this
    exact absurd this (by grind)
  obtain ⟨m, hm, hmz⟩ : ∃ m, m ∈ t ∧ ¬ 0 < lval m (way x0 y t0) := by
    apply Classical.byContradiction
    intro hne
    exact hnt (fun m hm => Classical.byContradiction (fun h => hne ⟨m, hm, h⟩))
  have H : ∀ x, Pos (del s i) x → 0 < lval l x → 0 < lval m x := by
    intro x hx hlx
    refine (hst x).1 (fun a ha => ?_) m hm
    rcases mem_del hi ha with h | h
    · exact hx a h
    · rw [h, hgd]; exact hlx
  obtain ⟨hmz0, hall⟩ := touch H hz hlz (by grind) hp
  obtain ⟨c, hc, hco⟩ := half_lin (hs.good.nc l hl) (ht.good.nc m hm) hall hlz hmz0 hp
  have := nrm_one (hs.good.cnf l hl) (ht.good.cnf m hm) (hs.nm l hl) (ht.nm m hm) (hs.good.nc l hl) (ht.good.nc m hm) hc hco
  rw [← this]
  exact hm
theorem canon_unique {s t : List (List Raw)} (hs : GoodT s) (ht : GoodT t) (is : Irr s) (it : Irr t) {x0 : Nat → Rat} (h0 : Pos s x0) (hst : ∀ x, Pos s x ↔ Pos t x) : s = t :=
  sorted_unique (lt := fun a b => cmpR a b < 0) (fun a b h h' => by rw [cmpR_swap] at h'; omega) s t hs.sorted ht.sorted
    (fun f => ⟨facet_in hs ht is h0 hst f, facet_in ht hs it ((hst x0).1 h0) (fun x => (hst x).symm) f⟩)
theorem minus_const : constB (numL ((-1 : Int) : Rat)) = true := (constB_iff (numL_length _)).2 (fun i hi => by rw [co_num (by omega), if_neg (by omega)])
theorem minus_okk : LOk 1 (numL ((-1 : Int) : Rat)) := numL_okk (by decide) ⟨by decide, by decide⟩
theorem minus_cs : CsT [numL ((-1 : Int) : Rat)] := by
  have hs : sysL [numL ((-1 : Int) : Rat)] [] = [] := by
    show (if constB (numL ((-1 : Int) : Rat)) then _ else _) = _
    rw [if_pos minus_const]; rfl
  have hnc : ncs [numL ((-1 : Int) : Rat)] = [] := ncs_const (fun l hl => by
    rw [List.mem_singleton] at hl; subst hl
    exact minus_const)
  have hg : GoodT (sysL [numL ((-1 : Int) : Rat)] []) := by
    rw [hs]
    have h0 : nvars [] = 0 := by decide
    exact ⟨1, Nat.le_refl _, ⟨List.Pairwise.nil, by simp, by simp, by simp⟩, ⟨by omega, fun h => by omega, fun h => by omega, fun h => by omega⟩⟩
  refine ⟨⟨fun l hl => ?_, by decide, by rw [hnc]; decide, hg.good, fun l hl _ => ?_⟩, hg⟩
  · rw [List.mem_singleton] at hl; subst hl; exact minus_okk.mono (by decide)
  · rw [List.mem_singleton] at hl; subst hl; exact minus_okk.mono (by decide)
theorem minus_inner : innerB [numL ((-1 : Int) : Rat)] = false := by
  cases h : innerB [numL ((-1 : Int) : Rat)] with
  | false => rfl
  | true =>
    obtain ⟨x, hx⟩ := (innerB_iff minus_cs.cs.len9).1 h
    exact absurd hx minus_in
theorem canonP_cs {a : List (List Raw)} (h : CsT a) : CsT (canonP a) := by
  unfold canonP
  split
  · exact gs_cs (canS_good h.good)
  · exact minus_cs
theorem canonP_len {a : List (List Raw)} (h : CsT a) : (canonP a).length ≤ 40 := by
  unfold canonP
  split
  · have := (canS_good h.good).good.len
    exact Nat.le_trans (show (canL (sysL a []).length 0 (sysL a [])).length ≤ 12 from this) (by decide)
  · decide
theorem canonP_idem {a : List (List Raw)} (h : CsT a) : canonP (canonP a) = canonP a := by
  cases hi : innerB a with
  | false =>
    have e : canonP a = [numL ((-1 : Int) : Rat)] := by unfold canonP; rw [hi]; rfl
    rw [e]
    unfold canonP
    rw [minus_inner]; rfl
  | true =>
    have e : canonP a = canS (sysL a []) := by unfold canonP; rw [hi]; rfl
    have hg := canS_good h.good
    have hf : feasB (canS (sysL a [])) = true := (canS_feas h.good).trans (inner_feas hi)
    rw [e, gs_canon hg hf]
    obtain ⟨x0, hx0⟩ := feasB_iff.1 hf
    exact canon_unique (canS_good hg) hg (canS_irr hg) (canS_irr h.good) ((canS_pos hg x0).2 hx0) (fun x => canS_pos hg x)
theorem canonP_iff {a b : List (List Raw)} (ha : CsT a) (hb : CsT b) : canonP a = canonP b ↔ ∀ x, In a x ↔ In b x := by
  constructor
  · intro h x
    rw [← canon_in ha, ← canon_in hb, h]
  · intro h
    cases hi : innerB a with
    | false =>
      have hib : innerB b = false := by
        cases hib : innerB b with
        | false => rfl
        | true =>
          obtain ⟨x, hx⟩ := (innerB_iff hb.cs.len9).1 hib
          rw [(innerB_iff ha.cs.len9).2 ⟨x, (h x).2 hx⟩] at hi
          cases hi
      unfold canonP
      rw [hi, hib]; rfl
    | true =>
      obtain ⟨x0, hx0⟩ := (innerB_iff ha.cs.len9).1 hi
      have hib : innerB b = true := (innerB_iff hb.cs.len9).2 ⟨x0, (h x0).1 hx0⟩
      have pa := inner_pos ha.cs.len9 hi
      have pb := inner_pos hb.cs.len9 hib
      have ea : canonP a = canS (sysL a []) := by unfold canonP; rw [hi]; rfl
      have eb : canonP b = canS (sysL b []) := by unfold canonP; rw [hib]; rfl
      rw [ea, eb]
      refine canon_unique (canS_good ha.good) (canS_good hb.good) (canS_irr ha.good) (canS_irr hb.good) ((canS_pos ha.good x0).2 ((pa x0).1 hx0)) (fun x => ?_)
      rw [canS_pos ha.good, canS_pos hb.good, ← pa, ← pb]
      exact h x
noncomputable def inWith (a : List (List Raw)) (l : List Raw) : Bool := if constB l then !decide (co l 8 < 0) else !innerB (a ++ [negR l])
noncomputable def withinB (a b : List (List Raw)) : Bool := !innerB a || b.all (inWith a)
theorem within_iff {a b : List (List Raw)} (ha : ∀ l ∈ a, l.length = 9) (hb : ∀ l ∈ b, l.length = 9) : withinB a b = true ↔ ∀ x, In a x → In b x := by
  have hneg : ∀ l ∈ b, ∀ m ∈ a ++ [negR l], m.length = 9 := fun l hl m hm => by
    rcases List.mem_append.1 hm with h | h
    · exact ha m h
    · rw [List.mem_singleton] at h; rw [h]; exact negR_len (hb l hl)
  unfold withinB
  cases hi : innerB a with
  | false =>
    simp only [Bool.not_false, Bool.true_or, true_iff]
    intro x hx
    rw [(innerB_iff ha).2 ⟨x, hx⟩] at hi
    cases hi
  | true =>
    obtain ⟨x0, hx0⟩ := (innerB_iff ha).1 hi
    have pa := inner_pos ha hi
    rw [Bool.not_true, Bool.false_or, List.all_eq_true]
    constructor
    · intro h x hx l hl
      have hl2 := h l hl
      unfold inWith at hl2
      cases hc : constB l with
      | true =>
        rw [hc, if_pos rfl] at hl2
        have hcc := (constB_iff (hb l hl)).1 hc
        have e : lval l x = co l 8 := lval_const hcc
        have hn : ¬ co l 8 < 0 := by simpa using hl2
        by_cases h0 : lval l x = 0
        · exact .inr ⟨hcc, h0⟩
        · exact .inl (by grind)
      | false =>
        rw [hc, if_neg (by simp), Bool.not_eq_true'] at hl2
        have hnc : ¬ IsConst l := fun h => by rw [(constB_iff (hb l hl)).2 h] at hc; cases hc
        have hno : ∀ y, In a y → ¬ lval l y < 0 := by
          intro y hy hneg2
          have : innerB (a ++ [negR l]) = true := (innerB_iff (hneg l hl)).2 ⟨y, fun m hm => by
            rcases List.mem_append.1 hm with h1 | h1
            · exact hy m h1
            · rw [List.mem_singleton] at h1
              rw [h1, lval_negR (hb l hl)]
              exact .inl (by grind)⟩
          rw [this] at hl2
          cases hl2
        by_cases hp : 0 < lval l x
        · exact .inl hp
        · exfalso
          have h0 : lval l x = 0 := by have := hno x hx; grind
          obtain ⟨y, hy, hly⟩ := pos_cross hnc ((pa x).1 hx) h0
          exact hno y ((pa y).2 hy) hly
    · intro h l hl
      unfold inWith
      cases hc : constB l with
      | true =>
        rw [if_pos rfl, Bool.not_eq_true', decide_eq_false_iff_not]
        have hcc := (constB_iff (hb l hl)).1 hc
        have e : lval l x0 = co l 8 := lval_const hcc
        rcases h x0 hx0 l hl with h1 | h1 <;> grind
      | false =>
        rw [if_neg (by simp), Bool.not_eq_true']
        have hnc : ¬ IsConst l := fun h => by rw [(constB_iff (hb l hl)).2 h] at hc; cases hc
        cases hin : innerB (a ++ [negR l]) with
        | false => rfl
        | true =>
          exfalso
          obtain ⟨x, hx⟩ := (innerB_iff (hneg l hl)).1 hin
          have h1 := h x (fun m hm => hx m (List.mem_append_left _ hm)) l hl
          have h2 := hx (negR l) (List.mem_append_right _ (by simp))
          rw [lval_negR (hb l hl)] at h2
          rcases h2 with h2 | h2
          · rcases h1 with h1 | h1
            · grind
            · exact hnc h1.1
          · exact neg_nc (hb l hl) hnc h2.1
theorem within_both {a b : List (List Raw)} (ha : CsT a) (hb : CsT b) : (withinB a b && withinB b a) = true ↔ canonP a = canonP b := by
  rw [Bool.and_eq_true, within_iff ha.cs.len9 hb.cs.len9, within_iff hb.cs.len9 ha.cs.len9, canonP_iff ha hb]
  exact ⟨fun h x => ⟨h.1 x, h.2 x⟩, fun h => ⟨fun x => (h x).1, fun x => (h x).2⟩⟩
end Go.Pl
