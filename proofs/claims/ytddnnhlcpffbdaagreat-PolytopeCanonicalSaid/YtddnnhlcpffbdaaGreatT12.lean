/- Contracts: regions: project. -/
import Derived.Test.YtddnnhlcpffbdaaGreatT11

namespace Go.Proofs.YtddnnhlcpffbdaaGreat
open Go.AM Go.Pl
set_option maxRecDepth 100000
set_option maxHeartbeats 4000000

theorem lowL_pos {s : List (List Raw)} {v : Nat} {x : List Raw} (h : 0 < co x v) : lowL (s ++ [x]) v = lowL s v ++ [solR v x] := by simp [lowL, List.filter_append, h]
theorem lowL_not {s : List (List Raw)} {v : Nat} {x : List Raw} (h : ¬ 0 < co x v) : lowL (s ++ [x]) v = lowL s v := by simp [lowL, List.filter_append, h]
theorem highL_neg {s : List (List Raw)} {v : Nat} {x : List Raw} (h : co x v < 0) : highL (s ++ [x]) v = highL s v ++ [solR v x] := by simp [highL, List.filter_append, h]
theorem highL_not {s : List (List Raw)} {v : Nat} {x : List Raw} (h : ¬ co x v < 0) : highL (s ++ [x]) v = highL s v := by simp [highL, List.filter_append, h]
theorem restL_zero {s : List (List Raw)} {v : Nat} {x : List Raw} (h : co x v = 0) : restL (s ++ [x]) v = restL s v ++ [x] := by simp [restL, List.filter_append, h]
theorem restL_not {s : List (List Raw)} {v : Nat} {x : List Raw} (h : ¬ co x v = 0) : restL (s ++ [x]) v = restL s v := by simp [restL, List.filter_append, h]
def combs (hi lo : List (List Raw)) : List (List Raw) := hi.flatMap fun u => lo.map fun l => comb u l
theorem combs_snoc {hi lo : List (List Raw)} {u : List Raw} : combs (hi ++ [u]) lo = combs hi lo ++ lo.map (comb u) := by simp [combs]
def badU (u : List Raw) (lo : List (List Raw)) : Bool := lo.any (fun l => constB (comb u l) && decide (co (comb u l) 8 ≤ 0))
def badS (hi lo : List (List Raw)) : Bool := hi.any (fun u => badU u lo)
theorem badU_snoc {u l : List Raw} {lo : List (List Raw)} : badU u (lo ++ [l]) = (badU u lo || (constB (comb u l) && decide (co (comb u l) 8 ≤ 0))) := by simp [badU, List.any_append]
theorem badS_snoc {u : List Raw} {hi lo : List (List Raw)} : badS (hi ++ [u]) lo = (badS hi lo || badU u lo) := by simp [badS, List.any_append]
theorem any_take {α : Type} {p : α → Bool} {l : List α} {i : Nat} (h : (l.take i).any p = true) : l.any p = true := by
  rw [List.any_eq_true] at h ⊢
  obtain ⟨x, hx, h2⟩ := h
  exact ⟨x, List.mem_of_mem_take hx, h2⟩
theorem any_mem {α : Type} {p : α → Bool} {l : List α} {x : α} (hx : x ∈ l) (h : p x = true) : l.any p = true := List.any_eq_true.2 ⟨x, hx, h⟩
theorem out_viol {k : Nat} {s : List (List Raw)} {v : Nat} (hs : SysF k s) (hb : ¬ Bad s v) : ¬ Viol (outL s v) := by
  rintro ⟨o, ho, hc, hn⟩
  rcases mem_out.1 ho with ⟨h1, _⟩ | ⟨l, hl, u, hu, h1, h2, rfl⟩
  · exact hs.nc o h1 hc
  · refine hb ⟨solR v u, mem_high.2 ⟨u, hu, h2, rfl⟩, solR v l, mem_low.2 ⟨l, hl, h1, rfl⟩, hc, ?_⟩
    grind

theorem pd46 (k : Nat) (s : List (List Raw)) (v : Nat) (hv : v < 8) (hk : 1 ≤ k) (hs : SysF k s) (hz : Sz k s) :
    Den Tryz.prog 46 [] [.fv (.sl (rowsF s)), .int .i64 v] [] (if badB s v then .tup [.fv (.sl []), .bool false] else .tup [.fv (.sl (rowsF (stepL s v))), .bool true]) := by
  have hlim := hz.lim hs
  have h9 : ∀ l ∈ s, l.length = 9 := fun l hl => (hlim l hl).len
  have hn12 := hz.len hs
  have hlow : ∀ b ∈ lowL s v, LOk 2001 b := low_ok hlim (by decide)
  have hhigh : ∀ b ∈ highL s v, LOk 2001 b := high_ok hlim (by decide)
  have hsplit := split_length s v
  obtain ⟨n, hnn⟩ : ∃ n, s.length = n := ⟨_, rfl⟩
  have rl := rowsF_length s
  rw [hnn] at rl hn12 hsplit
  obtain ⟨R, hR⟩ : ∃ R : PV, (if badB s v then .tup [.fv (.sl []), .bool false] else .tup [.fv (.sl (rowsF (stepL s v))), .bool true]) = R := ⟨_, rfl⟩
  rw [hR]
  have hm1 := den47 (-1) (by decide)
  rw [FR_eq] at hm1
  refine den_of tabOk mixed Tryz.func46 (cd := _) rfl (by decide) rfl (n := 86) rfl rfl (m := 0) rfl ?_
  simp (dsimp := false) (disch := omega) only [List.replicate, rl, rules, tys]
  refine WA.loop (α := Nat × List (List Raw) × List (List Raw) × List (List Raw)) (fun ⟨i, lo, hi, out⟩ => ⟨[.fv (.sl (rowsF s)), .int .i64 v, .any, .any, .nilsl, .bool false, .lsl 0 0 lo.length 27, .lsl 1 0 hi.length 27, .lsl 2 0 out.length 27, .any, .any, .any, .any, .any, .any, .any, .any, .any, .any, .any, .fv (.sl (rowsF s)), .int .i64 n, .int .i64 i] ++ List.replicate 65 .any, [.row true (rowsF lo), .row true (rowsF hi), .row true (rowsF out)]⟩)
    (fun ⟨i, _⟩ => n - i) (fun ⟨i, lo, hi, out⟩ => i ≤ n ∧ lo = lowL (s.take i) v ∧ hi = highL (s.take i) v ∧ out = restL (s.take i) v) (0, [], [], []) ?_ ?_ ?_
  · refine Weak.nil 6 27 (by decide) rfl ?_
    refine Weak.nil 7 27 (by decide) rfl ?_
    refine Weak.nil 8 27 (by decide) rfl ?_
    refine Weak.keep [0, 1, 2] (by simp) rfl ?_ ?_
    · simp [leVs, leV, le1]
    · simp [leH, leO]
      simp [rowsF]
  · exact ⟨Nat.zero_le _, rfl, rfl, rfl⟩
  · rintro ⟨i, lo, hi, out⟩ ⟨hi1, hlo, hhi, hout⟩
    have hsz := split_length (s.take i) v
    rw [← hlo, ← hhi, ← hout, List.length_take, hnn] at hsz
    obtain ⟨L1, hL1⟩ : ∃ L, lo.length = L := ⟨_, rfl⟩
    obtain ⟨L2, hL2⟩ : ∃ L, hi.length = L := ⟨_, rfl⟩
    obtain ⟨L3, hL3⟩ : ∃ L, out.length = L := ⟨_, rfl⟩
    have rl1 := rowsF_length lo
    have rl2 := rowsF_length hi
    have rl3 := rowsF_length out
    dsimp only
    rw [hL1] at hsz rl1 ⊢
    rw [hL2] at hsz rl2 ⊢
    rw [hL3] at hsz rl3 ⊢
    have tk1 := take_rows (ls := lo) (n := L1) (by omega)
    have tk2 := take_rows (ls := hi) (n := L2) (by omega)
    have tk3 := take_rows (ls := out) (n := L3) (by omega)
    simp (dsimp := false) (disch := omega) only [List.replicate, rules, tys, eq_self, ↓reduceIte]
    refine Br.dec ?_ ?_
    · intro h1 h2
      have hsn := take_snoc (cs := s) (i := i) (by omega)
      have hmem := at_mem (ls := s) (i := i) (by omega)
      have r1 := rowsF_getD s i
      obtain ⟨x, hxx⟩ : ∃ x, s.getD i [] = x := ⟨_, rfl⟩
      rw [hxx] at hmem r1 hsn
      have hx := hlim x hmem
      have lx := hx.len
      have x27 := flatF_take27 lx
      have fx := flatF_length x
      have gx := flat_length x
      have gx27 := flat_take27 lx
      by_cases h0 : co x v = 0
      · have h16 := den16n x v hx hv h0
        have hls := lowL_not (s := s.take i) (v := v) (x := x) (by grind)
        have hhs := highL_not (s := s.take i) (v := v) (x := x) (by grind)
        have hrs := restL_zero (s := s.take i) h0
        have hap := rows_snoc out x
        unfold FL RL at h16
        obtain ⟨zs, hzz⟩ : ∃ zs, (x.map Raw.q).map cn = zs := ⟨_, rfl⟩
        have hzl : zs.length = 9 := by rw [← hzz]; simp [lx]
        have gz := flat_length zs
        rw [hzz] at h16
        have e1 : decide ((0 : Int) > 0) = false := rfl
        have e2 : decide ((0 : Int) < 0) = false := rfl
        simp (dsimp := false) (disch := omega) only [List.append_nil, h2, r1, x27, flatF_fv, fx, gx, lx, gx27, rules, tys, eq_self, ↓reduceIte, Nat.reduceAdd, Nat.reduceMul, Nat.reduceLT, Nat.reduceLeDiff]
        repeat refine And.intro (by omega) ?_
        refine GoCall.pure h16 (by simp [fzAs, fzA, flat_fz, flatF_fv, fz1, fz0]) ?_
        simp (dsimp := false) (disch := omega) only [flat_ids, flat_reloc, flat_fz, List.append_nil, gz, hzl, e1, gx, lx, gx27, x27, tk3, hap, rl3, wrap64, rules, tys, eq_self, ↓reduceIte, Nat.reduceAdd, Nat.reduceMul, Nat.reduceBEq, Nat.reduceLT, Nat.reduceLeDiff]
        repeat refine And.intro (by omega) ?_
        refine Ap_loop (i + 1, lo, hi, out ++ [x]) (by dsimp only; omega) ?_ ⟨by omega, by rw [hsn, hls, hlo], by rw [hsn, hhs, hhi], by rw [hsn, hrs, hout]⟩
        refine Weak.keep [0, 1, 6] (by simp) rfl ?_ ?_
        · simp [leVs, leV, le1]
          omega
        · simp [leH, leO]
      · have h16 := den16 x v hx hv h0
        have hsl : (solR v x).length = 9 := solR_len lx
        have hrs := restL_not (s := s.take i) h0
        unfold FL RL at h16
        change Den Tryz.prog 47 [] [.agg (flat x), .int .i64 v] [] (.tup [.agg (flat (solR v x)), .int .i64 (sgq (x.getD v rz).q), .int .i64 0]) at h16
        by_cases hp : 0 < co x v
        · have hls := lowL_pos (s := s.take i) hp
          have hhs := highL_not (s := s.take i) (v := v) (x := x) (by grind)
          have hap := rows_snoc lo (solR v x)
          obtain ⟨y, hy⟩ : ∃ y, solR v x = y := ⟨_, rfl⟩
          rw [hy] at h16 hsl hls hap
          have gy := flat_length y
          have y27 := flatF_take27 hsl
          have gy27 := flat_take27 hsl
          rw [show sgq (x.getD v rz).q = 1 from sgq_of_pos hp] at h16
          have e1 : decide ((1 : Int) > 0) = true := rfl
          simp (dsimp := false) (disch := omega) only [List.append_nil, h2, r1, x27, flatF_fv, fx, gx, lx, gx27, rules, tys, eq_self, ↓reduceIte, Nat.reduceAdd, Nat.reduceMul, Nat.reduceLT, Nat.reduceLeDiff]
          repeat refine And.intro (by omega) ?_
          refine GoCall.pure h16 (by simp [fzAs, fzA, flat_fz, flatF_fv, fz1, fz0]) ?_
          simp (dsimp := false) (disch := omega) only [flat_ids, flat_reloc, flat_fz, List.append_nil, gy, hsl, e1, gy27, y27, tk1, hap, rl1, wrap64, rules, tys, eq_self, ↓reduceIte, Nat.reduceAdd, Nat.reduceMul, Nat.reduceBEq, Nat.reduceLT, Nat.reduceLeDiff]
          repeat refine And.intro (by omega) ?_
          refine Ap_loop (i + 1, lo ++ [y], hi, out) (by dsimp only; omega) ?_ ⟨by omega, by rw [hsn, hls, hlo], by rw [hsn, hhs, hhi], by rw [hsn, hrs, hout]⟩
          refine Weak.keep [6, 1, 2] (by simp) rfl ?_ ?_
          · simp [leVs, leV, le1]
            omega
          · simp [leH, leO]
        · have hneg : co x v < 0 := by grind
          have hls := lowL_not (s := s.take i) (v := v) (x := x) hp
          have hhs := highL_neg (s := s.take i) hneg
          have hap := rows_snoc hi (solR v x)
          obtain ⟨y, hy⟩ : ∃ y, solR v x = y := ⟨_, rfl⟩
          rw [hy] at h16 hsl hhs hap
          have gy := flat_length y
          have y27 := flatF_take27 hsl
          have gy27 := flat_take27 hsl
          rw [show sgq (x.getD v rz).q = -1 from sgq_of_neg hneg] at h16
          have e1 : decide ((-1 : Int) > 0) = false := rfl
          have e2 : decide ((-1 : Int) < 0) = true := rfl
          simp (dsimp := false) (disch := omega) only [List.append_nil, h2, r1, x27, flatF_fv, fx, gx, lx, gx27, rules, tys, eq_self, ↓reduceIte, Nat.reduceAdd, Nat.reduceMul, Nat.reduceLT, Nat.reduceLeDiff]
          repeat refine And.intro (by omega) ?_
          refine GoCall.pure h16 (by simp [fzAs, fzA, flat_fz, flatF_fv, fz1, fz0]) ?_
          simp (dsimp := false) (disch := omega) only [flat_ids, flat_reloc, flat_fz, List.append_nil, gy, hsl, e1, e2, gy27, y27, tk2, hap, rl2, wrap64, rules, tys, eq_self, ↓reduceIte, Nat.reduceAdd, Nat.reduceMul, Nat.reduceBEq, Nat.reduceLT, Nat.reduceLeDiff]
          repeat refine And.intro (by omega) ?_
          refine Ap_loop (i + 1, lo, hi ++ [y], out) (by dsimp only; omega) ?_ ⟨by omega, by rw [hsn, hls, hlo], by rw [hsn, hhs, hhi], by rw [hsn, hrs, hout]⟩
          refine Weak.keep [0, 6, 2] (by simp) rfl ?_ ?_
          · simp [leVs, leV, le1]
            omega
          · simp [leH, leO]
    · intro h1 h2
      have hin : i = n := by omega
      have htk : s.take i = s := List.take_of_length_le (by omega)
      rw [htk] at hlo hhi hout
      have hbad : badB s v = badS hi lo := by rw [hlo, hhi]; rfl
      have hfin : outL s v = out ++ combs hi lo := by rw [hlo, hhi, hout]; rfl
      have hlo2 : ∀ b ∈ lo, LOk 2001 b := by rw [hlo]; exact hlow
      have hhi2 : ∀ b ∈ hi, LOk 2001 b := by rw [hhi]; exact hhigh
      have hshort := out_short (v := v) hs hz
      rw [hfin, List.length_append, hL3] at hshort
      clear hlo hhi hout
      simp (dsimp := false) (disch := omega) only [h2, rules, Nat.reduceBEq]
      refine GoCall.pure hm1 rfl ?_
      simp (dsimp := false) (disch := omega) only [List.append_nil, rules, tys, eq_self, Nat.reduceAdd, Nat.reduceLT, Nat.reduceLeDiff]
      repeat refine And.intro (by omega) ?_
      obtain ⟨ng, hng⟩ : ∃ t, decide (((-1 : Int) : Rat).num < 0) = t := ⟨_, rfl⟩
      obtain ⟨nn, hnn2⟩ : ∃ t, N ((-1 : Int) : Rat).num.natAbs = t := ⟨_, rfl⟩
      obtain ⟨nd, hnd⟩ : ∃ t, N ((-1 : Int) : Rat).den = t := ⟨_, rfl⟩
      rw [hng, hnn2, hnd]
      have hcm : ∀ b : List Raw, LOk 2001 b → Den Tryz.prog 79 [] [RL b, .agg [.bool ng, .fv nn, .fv nd]] [] (RL (negR b)) := fun b hb => by
        have := den23 b (cn ((-1 : Int) : Rat)) (hb.mono (by decide)) (cn_ok (Bd.mono (show Bd 1 ((-1 : Int) : Rat) from ⟨by decide, by decide⟩) (by decide)))
        rw [cn_q] at this
        change Den Tryz.prog 79 [] [RL b, FR ((-1 : Int) : Rat)] [] (RL (negR b)) at this
        rw [FR_eq, hng, hnn2, hnd] at this
        exact this
      have hca : ∀ u l : List Raw, LOk 2001 u → LOk 2001 l → Den Tryz.prog 91 [] [RL u, RL (negR l)] [] (RL (comb u l)) := fun u l hu hl =>
        den21 u (negR l) (hu.mono (by decide)) ((negR_ok hl (by decide)).mono (by decide))
      clear hng hnn2 hnd hm1
      refine WA.loop (α := Nat × List (List Raw)) (fun ⟨j, out2⟩ => ⟨[.fv (.sl (rowsF s)), .int .i64 v, .any, .any, .nilsl, .bool false, .lsl 0 0 L1 27, .lsl 1 0 L2 27, .lsl 2 0 out2.length 27, .any, .any, .any, .any, .any, .ptr 3 0 0] ++ List.replicate 38 .any ++ [.lsl 1 0 L2 27, .int .i64 L2, .int .i64 j] ++ List.replicate 32 .any, [.row true (rowsF lo), .row true (rowsF hi), .row true (rowsF out2), .box true [.bool ng, .fv nn, .fv nd]]⟩)
        (fun ⟨j, _⟩ => L2 - j) (fun ⟨j, out2⟩ => j ≤ L2 ∧ out2 = out ++ combs (hi.take j) lo ∧ badS (hi.take j) lo = false) (0, out) ?_ ?_ ?_
      · refine Weak.keep [0, 1, 2, 3] (by simp) rfl ?_ ?_
        · simp [leVs, leV, le1]
          omega
        · simp [leH, leO, le1s, le1]
      · exact ⟨Nat.zero_le _, by simp [combs], rfl⟩
      · rintro ⟨j, out2⟩ ⟨hj, ho2, hb2⟩
        obtain ⟨M, hM⟩ : ∃ L, out2.length = L := ⟨_, rfl⟩
        dsimp only
        rw [hM]
        simp (dsimp := false) (disch := omega) only [List.replicate, rules, tys, eq_self, ↓reduceIte]
        refine Br.dec ?_ ?_
        · intro h3 h4
          have hsn := take_snoc (cs := hi) (i := j) (by omega)
          have hmem := at_mem (ls := hi) (i := j) (by omega)
          have r1 := rowsF_getD hi j
          obtain ⟨u, huu⟩ : ∃ x, hi.getD j [] = x := ⟨_, rfl⟩
          rw [huu] at hmem r1 hsn
          have hu := hhi2 u hmem
          have lu := hu.len
          have u27 := flatF_take27 lu
          have fu := flatF_length u
          have gu := flat_length u
          have gu27 := flat_take27 lu
          simp (dsimp := false) (disch := omega) only [List.append_nil, h4, r1, u27, flatF_fv, fu, gu, lu, rl2, rules, tys, eq_self, ↓reduceIte, Nat.reduceAdd, Nat.reduceMul, Nat.reduceLT, Nat.reduceLeDiff]
          repeat refine And.intro (by omega) ?_
          refine WA.loop (α := Nat × List (List Raw)) (fun ⟨q, out3⟩ => ⟨[.fv (.sl (rowsF s)), .int .i64 v, .any, .any, .nilsl, .bool false, .lsl 0 0 L1 27, .lsl 1 0 L2 27, .lsl 2 0 out3.length 27, .any, .any, .any, .any, .any, .ptr 3 0 0, .any, .ptr 4 0 0] ++ List.replicate 36 .any ++ [.lsl 1 0 L2 27, .int .i64 L2, .int .i64 j, .any, .any, .any, .lsl 0 0 L1 27, .int .i64 L1, .int .i64 q] ++ List.replicate 26 .any, [.row true (rowsF lo), .row true (rowsF hi), .row true (rowsF out3), .box true [.bool ng, .fv nn, .fv nd], .box true (flat u)]⟩)
            (fun ⟨q, _⟩ => L1 - q) (fun ⟨q, out3⟩ => q ≤ L1 ∧ out3 = out2 ++ (lo.take q).map (comb u) ∧ badU u (lo.take q) = false) (0, out2) ?_ ?_ ?_
          · refine Weak.keep [0, 1, 2, 3, 4] (by simp) rfl ?_ ?_
            · simp [leVs, leV, le1]
              omega
            · simp [leH, leO, le1s, le1, le_flat]
          · exact ⟨Nat.zero_le _, by simp, rfl⟩
          · rintro ⟨q, out3⟩ ⟨hq, ho3, hb3⟩
            have hM3 : out3.length ≤ 100 := by
              have e1 : out3.length = out2.length + q := by rw [ho3]; simp; omega
              have e2 : out2.length = L3 + (hi.take j).length * lo.length := by
                rw [ho2, List.length_append, hL3]; unfold combs; rw [flat_length']
              have e3 : (combs hi lo).length = hi.length * lo.length := by unfold combs; rw [flat_length']
              have e4 : (hi.take j).length = j := by rw [List.length_take]; omega
              rw [e3] at hshort
              rw [e4] at e2
              have e5 : (j + 1) * lo.length ≤ hi.length * lo.length := Nat.mul_le_mul_right _ (by omega)
              rw [Nat.add_mul] at e5
              omega
            obtain ⟨M3, hM3e⟩ : ∃ L, out3.length = L := ⟨_, rfl⟩
            have rl4 := rowsF_length out3
            rw [hM3e] at hM3 rl4
            dsimp only
            rw [hM3e]
            simp (dsimp := false) (disch := omega) only [List.replicate, rules, tys, eq_self, ↓reduceIte]
            refine Br.dec ?_ ?_
            · intro h5 h6
              have hsn3 := take_snoc (cs := lo) (i := q) (by omega)
              have hmem3 := at_mem (ls := lo) (i := q) (by omega)
              have r3 := rowsF_getD lo q
              obtain ⟨l, hll⟩ : ∃ x, lo.getD q [] = x := ⟨_, rfl⟩
              rw [hll] at hmem3 r3 hsn3
              have hl := hlo2 l hmem3
              have ll := hl.len
              have l27 := flatF_take27 ll
              have fl := flatF_length l
              have gl := flat_length l
              have gl27 := flat_take27 ll
              have h79 := hcm l hl
              have h91 := hca u l hu hl
              have hnl := negR_len ll
              have hcl := comb_len lu ll
              have hbs := badU_snoc (u := u) (l := l) (lo := lo.take q)
              have hcok := comb_ok hu hl (by decide)
              have hap := rows_snoc out3 (comb u l)
              have hmp : (lo.take (q + 1)).map (comb u) = (lo.take q).map (comb u) ++ [comb u l] := by rw [hsn3, List.map_append]; rfl
              have hbadall : badU u (lo.take (q + 1)) = true → badB s v = true := fun hb => by
                rw [hbad]
                exact any_mem hmem (any_take hb)
              obtain ⟨nl, hnle⟩ : ∃ x, negR l = x := ⟨_, rfl⟩
              obtain ⟨d, hd⟩ : ∃ x, comb u l = x := ⟨_, rfl⟩
              rw [hnle] at h79 h91 hnl
              rw [hd] at h91 hcl hbs hcok hap hmp
              have gnl := flat_length nl
              have gd := flat_length d
              have gd27 := flat_take27 hcl
              have d27 := flatF_take27 hcl
              have hfc := flat_const' hcl
              have h74 := den25 d (hcok.mono (by decide))
              have h36 := den36 (d.getD 8 rz) ((hcok.at 8).mono (by decide))
              have hco : co d 8 = (d.getD 8 rz).q := rfl
              have tk3 := take_rows (ls := out3) (n := M3) (by omega)
              obtain ⟨r, hr⟩ : ∃ r, d.getD 8 rz = r := ⟨_, rfl⟩
              rw [hr] at h36 hfc hco
              unfold Raw.v at h36
              obtain ⟨b, hb⟩ : ∃ b, constB d = b := ⟨_, rfl⟩
              rw [hb] at h74 hbs
              unfold RL at h79 h91 h74
              simp (dsimp := false) (disch := omega) only [List.append_nil, h6, r3, l27, flatF_fv, fl, gl, ll, rules, tys, eq_self, ↓reduceIte, Nat.reduceAdd, Nat.reduceMul, Nat.reduceLT, Nat.reduceLeDiff]
              repeat refine And.intro (by omega) ?_
              refine Draw.intro (by kernel_rfl) ?_
              simp (dsimp := false) (disch := omega) only [gu27, gl27, gu, lu, gl, ll, rules, tys, eq_self, ↓reduceIte, Nat.reduceAdd, Nat.reduceMul, Nat.reduceLeDiff]
              repeat refine And.intro (by omega) ?_
              refine GoCall.pure h79 (by simp [fzAs, fzA, flat_fz, flatF_fv, fzs, fz0]) ?_
              simp (dsimp := false) (disch := omega) only [flat_ids, flat_reloc, List.append_nil, rules, Nat.reduceAdd]
              repeat refine And.intro (by omega) ?_
              refine GoCall.pure h91 (by simp [fzAs, fzA, flat_fz, flatF_fv]) ?_
              simp (dsimp := false) (disch := omega) only [flat_ids, flat_reloc, List.append_nil, gd, hcl, gd27, rules, tys, eq_self, ↓reduceIte, Nat.reduceAdd, Nat.reduceMul, Nat.reduceLT, Nat.reduceLeDiff]
              repeat refine And.intro (by omega) ?_
              refine GoCall.pure h74 (by simp [fzAs, fzA, flat_fz, flatF_fv]) ?_
              cases b with
              | true =>
                simp (dsimp := false) (disch := omega) only [flat_ids, List.append_nil, hfc, gd, hcl, rules, tys, eq_self, ↓reduceIte, Nat.reduceAdd, Nat.reduceMul, Nat.reduceLeDiff]
                repeat refine And.intro (by omega) ?_
                refine GoCall.pure h36 rfl ?_
                simp (dsimp := false) (disch := omega) only [List.append_nil, rules, tys, eq_self, ↓reduceIte, Nat.reduceAdd]
                refine Br.dec ?_ ?_
                · intro g1 g2
                  have hv : badU u (lo.take (q + 1)) = true := by
                    have hle : r.q ≤ 0 := by
                      have := @sgq_pos_iff r.q
                      grind
                    rw [hsn3, hbs, hco, hb3, decide_eq_true hle]; rfl
                  rw [if_pos (hbadall hv)] at hR
                  subst hR
                  simp (dsimp := false) (disch := omega) only [g2, Ap_end_ret, rules]
                  refine RetOK.pure rfl ⟨trivial, trivial, trivial⟩ rfl
                · intro g1 g2
                  have hv : badU u (lo.take (q + 1)) = false := by
                    have hle : ¬ r.q ≤ 0 := by
                      have := @sgq_pos_iff r.q
                      grind
                    rw [hsn3, hbs, hco, hb3, decide_eq_false hle]; rfl
                  simp (dsimp := false) (disch := omega) only [flat_ids, flat_fz, List.append_nil, g2, gd, hcl, gd27, d27, tk3, hap, rl4, wrap64, rules, tys, eq_self, ↓reduceIte, Nat.reduceAdd, Nat.reduceMul, Nat.reduceBEq, Nat.reduceLT, Nat.reduceLeDiff]
                  repeat refine And.intro (by omega) ?_
                  refine Ap_loop (q + 1, out3 ++ [d]) (by dsimp only; omega) ?_ ⟨by omega, by rw [hmp, ho3, List.append_assoc], hv⟩
                  refine Weak.keep [0, 1, 8, 3, 4] (by simp) rfl ?_ ?_
                  · simp [leVs, leV, le1]
                    omega
                  · simp [leH, leO, le1s, le1, le_flat]
              | false =>
                have hv : badU u (lo.take (q + 1)) = false := by rw [hsn3, hbs, hb3]; rfl
                simp (dsimp := false) (disch := omega) only [flat_ids, flat_fz, List.append_nil, gd, hcl, gd27, d27, tk3, hap, rl4, wrap64, rules, tys, eq_self, ↓reduceIte, Nat.reduceAdd, Nat.reduceMul, Nat.reduceBEq, Nat.reduceLT, Nat.reduceLeDiff]
                repeat refine And.intro (by omega) ?_
                refine Ap_loop (q + 1, out3 ++ [d]) (by dsimp only; omega) ?_ ⟨by omega, by rw [hmp, ho3, List.append_assoc], hv⟩
                refine Weak.keep [0, 1, 8, 3, 4] (by simp) rfl ?_ ?_
                · simp [leVs, leV, le1]
                  omega
                · simp [leH, leO, le1s, le1, le_flat]
            · intro h5 h6
              have hqe : q = L1 := by omega
              have htk3 : lo.take q = lo := List.take_of_length_le (by omega)
              rw [htk3] at ho3 hb3
              simp (dsimp := false) (disch := omega) only [h6, wrap64, rules, tys, eq_self, ↓reduceIte, Nat.reduceBEq]
              refine Ap_loop (j + 1, out3) (by dsimp only; omega) ?_ ⟨by omega, by rw [hsn, combs_snoc, ho3, ho2, List.append_assoc], by rw [hsn, badS_snoc, hb2, hb3]; rfl⟩
              refine Weak.keep [0, 1, 2, 3] (by simp) rfl ?_ ?_
              · simp [leVs, leV, le1]
                omega
              · simp [leH, leO, le1s, le1]
        · intro h3 h4
          have hje : j = L2 := by omega
          have htk2 : hi.take j = hi := List.take_of_length_le (by omega)
          rw [htk2] at ho2 hb2
          rw [← hfin] at ho2
          rw [hbad, hb2, if_neg (by simp)] at hR
          have hbf : ¬ Bad s v := fun hb => by
            have := (badB_iff h9).2 hb
            rw [hbad, hb2] at this; cases this
          have hvf : violB out2 = false := by
            have h9o : ∀ o ∈ out2, o.length = 9 := by rw [ho2]; exact out_len h9
            cases hvb : violB out2 with
            | false => rfl
            | true => exact absurd (by have := (violB_iff h9o).1 hvb; rwa [ho2] at this) (out_viol hs hbf)
          have h44 := pd44 out2 (by rw [ho2]; exact fun o ho => (out_ok hlim (by decide) o ho).mono (by decide)) (by
              have := out_short (v := v) hs hz
              rw [ho2]; omega) (by rw [ho2]; exact out_lim hv hk hs hz) (by rw [ho2]; exact out_count hv hs hz)
          rw [hvf, if_neg (by simp)] at h44
          have rl5 := rowsF_length out2
          have tk5 := take_rows (ls := out2) (n := M) (by omega)
          have hstep : stepL s v = sysL out2 [] := by rw [ho2]; rfl
          rw [hstep] at hR
          subst hR
          rw [hM] at rl5
          simp (dsimp := false) (disch := omega) only [h4, rules, Nat.reduceBEq]
          refine GoCall.pure h44 (by simp [fzAs, fzA, fz1, fz0, rl5, tk5]) ?_
          simp (dsimp := false) (disch := omega) only [List.append_nil, Ap_end_ret, rules, Nat.reduceAdd]
          exact RetOK.pure rfl ⟨trivial, trivial, trivial⟩ rfl
end Go.Proofs.YtddnnhlcpffbdaaGreat

namespace Go.Pl
open Go.AM

def GoodS (s : List (List Raw)) : Prop := ∃ k, 1 ≤ k ∧ SysF k s ∧ Sz k s
theorem GoodS.step {s : List (List Raw)} {v : Nat} (hv : v < 8) (h : GoodS s) : GoodS (stepL s v) := by
  obtain ⟨k, hk, hs, hz⟩ := h
  cases ho : occ s v with
  | false =>
    rw [step_same hs ho (stepL_is v hs)]
    exact ⟨k, hk, hs, hz⟩
  | true => exact ⟨8 * k + 8, by omega, step_ok hk hs (stepL_is v hs), (step_sz hv hs hz ho (stepL_is v hs)).1⟩
theorem GoodS.len9 {s : List (List Raw)} (h : GoodS s) : ∀ l ∈ s, l.length = 9 := by
  obtain ⟨k, hk, hs, hz⟩ := h
  exact fun l hl => (hs.ok l hl).len
theorem GoodS.lim {s : List (List Raw)} (h : GoodS s) : ∀ l ∈ s, LOk 1000 l := by
  obtain ⟨k, hk, hs, hz⟩ := h
  exact hz.lim hs
theorem GoodS.len {s : List (List Raw)} (h : GoodS s) : s.length ≤ 12 := by
  obtain ⟨k, hk, hs, hz⟩ := h
  exact hz.len hs
theorem GoodS.nc {s : List (List Raw)} (h : GoodS s) : ∀ l ∈ s, ¬ IsConst l := by
  obtain ⟨k, hk, hs, hz⟩ := h
  exact hs.nc
theorem GoodS.feas {s : List (List Raw)} {v : Nat} (hv : v < 8) (h : GoodS s) (hb : badB s v = false) : feasB (stepL s v) = feasB s := by
  have h9 := h.len9
  obtain ⟨k, hk, hs, hz⟩ := h
  have := step_feas hv hs (fun hb2 => by rw [(badB_iff h9).2 hb2] at hb; cases hb)
  cases h1 : feasB s with
  | true => exact feasB_iff.2 (this.2 (feasB_iff.1 h1))
  | false => exact feasB_false.2 (fun h2 => feasB_false.1 h1 (this.1 h2))
theorem GoodS.bad {s : List (List Raw)} {v : Nat} (hv : v < 8) (h : GoodS s) (hb : badB s v = true) : feasB s = false := by
  have h9 := h.len9
  obtain ⟨k, hk, hs, hz⟩ := h
  exact feasB_false.2 (bad_feas hv hs ((badB_iff h9).1 hb))
theorem feasB_nil : feasB [] = true := feasB_iff.2 feas_nil
def elimL (v : Nat) : Nat → Nat → List (List Raw) → List (List Raw)
  | 0, _, s => s
  | n + 1, i, s => elimL v n (i + 1) (if i = v then s else stepL s i)
def maxL : Rat → List Rat → Rat
  | m, [] => m
  | m, q :: l => maxL (if 0 < sgq (q - m) then q else m) l
def minL : Rat → List Rat → Rat
  | m, [] => m
  | m, q :: l => minL (if sgq (q - m) < 0 then q else m) l
theorem maxL_mem : ∀ (l : List Rat) (m : Rat), maxL m l ∈ m :: l
  | [], m => by simp [maxL]
  | q :: l, m => by
    have := maxL_mem l (if 0 < sgq (q - m) then q else m)
    unfold maxL
    rcases List.mem_cons.1 this with h | h
    · rw [h]; split <;> simp
    · simp [h]
theorem maxL_ge : ∀ (l : List Rat) (m : Rat), ∀ q ∈ m :: l, q ≤ maxL m l
  | [], m, q, h => by simp at h; subst h; simp [maxL]
  | p :: l, m, q, h => by
    have ih := maxL_ge l (if 0 < sgq (p - m) then p else m)
    unfold maxL
    have h0 := ih _ (List.mem_cons_self ..)
    have h2 : p ≤ (if 0 < sgq (p - m) then p else m) ∧ m ≤ (if 0 < sgq (p - m) then p else m) := by
      split
      · rename_i h3
        rw [sgq_pos_iff] at h3
        constructor <;> grind
      · rename_i h3
        rw [sgq_pos_iff] at h3
        constructor <;> grind
    rcases List.mem_cons.1 h with h1 | h1
    · subst h1; exact Rat.le_trans h2.2 h0
    · rcases List.mem_cons.1 h1 with h4 | h4
      · subst h4; exact Rat.le_trans h2.1 h0
      · exact ih q (List.mem_cons_of_mem _ h4)
theorem minL_mem : ∀ (l : List Rat) (m : Rat), minL m l ∈ m :: l
  | [], m => by simp [minL]
  | q :: l, m => by
    have := minL_mem l (if sgq (q - m) < 0 then q else m)
    unfold minL
    rcases List.mem_cons.1 this with h | h
    · rw [h]; split <;> simp
    · simp [h]
theorem minL_le : ∀ (l : List Rat) (m : Rat), ∀ q ∈ m :: l, minL m l ≤ q
  | [], m, q, h => by simp at h; subst h; simp [minL]
  | p :: l, m, q, h => by
    have ih := minL_le l (if sgq (p - m) < 0 then p else m)
    unfold minL
    have h0 := ih _ (List.mem_cons_self ..)
    have h2 : (if sgq (p - m) < 0 then p else m) ≤ p ∧ (if sgq (p - m) < 0 then p else m) ≤ m := by
      split
      · rename_i h3
        rw [sgq_neg_iff] at h3
        constructor <;> grind
      · rename_i h3
        rw [sgq_neg_iff] at h3
        constructor <;> grind
    rcases List.mem_cons.1 h with h1 | h1
    · subst h1; exact Rat.le_trans h0 h2.2
    · rcases List.mem_cons.1 h1 with h4 | h4
      · subst h4; exact Rat.le_trans h0 h2.1
      · exact ih q (List.mem_cons_of_mem _ h4)
def lowQ (s : List (List Raw)) (v : Nat) : List Rat := (lowL s v).map (fun b => co b 8)
def highQ (s : List (List Raw)) (v : Nat) : List Rat := (highL s v).map (fun b => co b 8)
def ends (s : List (List Raw)) (v : Nat) : Option (Rat × Rat) := match lowQ s v, highQ s v with
  | a :: l, b :: h => some (maxL a l, minL b h)
  | _, _ => none
noncomputable def bndP (cs : List (List Raw)) (v : Nat) : Option (Rat × Rat) := if innerB cs then ends (elimL v 8 0 (sysL cs [])) v else none
theorem elimL_good {v : Nat} : ∀ (n i : Nat) {s : List (List Raw)}, i + n ≤ 8 → GoodS s → GoodS (elimL v n i s)
  | 0, _, _, _, h => h
  | n + 1, i, s, hi, h => by
    unfold elimL
    refine elimL_good n (i + 1) (by omega) ?_
    split
    · exact h
    · exact h.step (by omega)
structure CsOk (cs : List (List Raw)) : Prop where
  ok : ∀ l ∈ cs, LOk 10000 l
  len : cs.length ≤ 100
  nc : (ncs cs).length ≤ 12
  good : GoodS (sysL cs [])
  nok : ∀ l ∈ cs, ¬ IsConst l → LOk 1000 l
theorem CsOk.len9 {cs : List (List Raw)} (h : CsOk cs) : ∀ l ∈ cs, l.length = 9 := fun l hl => (h.ok l hl).len
end Go.Pl

namespace Go.Proofs.YtddnnhlcpffbdaaGreat
open Go.AM Go.Pl
set_option maxRecDepth 100000
set_option maxHeartbeats 4000000

theorem pd90 (s : List (List Raw)) (v : Nat) (hv : v < 8) (hg : ∀ l ∈ s, LOk 1000 l) (hn : s.length ≤ 1000) :
    Den Tryz.prog 90 [] [.fv (.sl (rowsF s)), .int .i64 v] [] (.tup [.int .i64 (((lowL s v).length : Int) * (highL s v).length - (lowL s v).length - (highL s v).length), .bool (occ s v)]) := by
  obtain ⟨n, hnn⟩ : ∃ n, s.length = n := ⟨_, rfl⟩
  have rl := rowsF_length s
  rw [hnn] at rl hn
  have hsplit := split_length s v
  have hocc : occ s v = decide (((lowL s v).length : Int) + (highL s v).length > 0) := by
    cases ho : occ s v with
    | false =>
      obtain ⟨_, h1, h2⟩ := out_same ho
      rw [h1, h2]; rfl
    | true =>
      obtain ⟨l, hl, h0⟩ := occ_iff.1 ho
      symm
      refine decide_eq_true ?_
      by_cases hp : 0 < co l v
      · have : solR v l ∈ lowL s v := mem_low.2 ⟨l, hl, hp, rfl⟩
        have := List.length_pos_of_mem this
        omega
      · have : solR v l ∈ highL s v := mem_high.2 ⟨l, hl, by grind, rfl⟩
        have := List.length_pos_of_mem this
        omega
  rw [hocc]
  obtain ⟨A, hA⟩ : ∃ A, (lowL s v).length = A := ⟨_, rfl⟩
  obtain ⟨C, hC⟩ : ∃ C, (highL s v).length = C := ⟨_, rfl⟩
  rw [hA, hC] at hsplit ⊢
  refine den_of tabOk mixed Tryz.func90 (cd := _) rfl (by decide) rfl (n := 39) rfl rfl (m := 0) rfl ?_
  simp (dsimp := false) (disch := omega) only [List.replicate, rl, rules, tys]
  refine WA.loop (α := Nat × Nat × Nat) (fun ⟨i, a, c⟩ => ⟨[.fv (.sl (rowsF s)), .int .i64 v, .any, .any, .int .i64 0, .bool false, .int .i64 a, .int .i64 c, .any, .any, .fv (.sl (rowsF s)), .int .i64 n, .int .i64 i] ++ List.replicate 28 .any, []⟩)
    (fun ⟨i, _⟩ => n - i) (fun ⟨i, a, c⟩ => i ≤ n ∧ a = (lowL (s.take i) v).length ∧ c = (highL (s.take i) v).length) (0, 0, 0) ?_ ?_ ?_
  · refine Weak.keep [] (by simp) rfl ?_ ?_
    · simp [leVs, leV, le1]
    · simp [leH]
  · exact ⟨Nat.zero_le _, rfl, rfl⟩
  · rintro ⟨i, a, c⟩ ⟨hi, ha, hc⟩
    have hsz := split_length (s.take i) v
    rw [← ha, ← hc, List.length_take, hnn] at hsz
    simp (dsimp := false) (disch := omega) only [List.replicate, rules, tys, eq_self, ↓reduceIte]
    refine Br.dec ?_ ?_
    · intro h1 h2
      have hsn := take_snoc (cs := s) (i := i) (by omega)
      have hmem := at_mem (ls := s) (i := i) (by omega)
      have r1 := rowsF_getD s i
      obtain ⟨x, hxx⟩ : ∃ x, s.getD i [] = x := ⟨_, rfl⟩
      rw [hxx] at hmem r1 hsn
      have hx := hg x hmem
      have lx := hx.len
      have x27 := flatF_take27 lx
      have fx := flatF_length x
      have gx := flat_length x
      have gx27 := flat_take27 lx
      have hat := flat_at (rs := x) (i := v) (by omega)
      have h36 := den36 (x.getD v rz) ((hx.at v).mono (by decide))
      have hco : co x v = (x.getD v rz).q := rfl
      obtain ⟨r, hr⟩ : ∃ r, x.getD v rz = r := ⟨_, rfl⟩
      rw [hr] at hat h36 hco
      unfold Raw.v at h36
      rcases sgq_range r.q with hq | hq | hq
      · have hneg : co x v < 0 := by rw [hco, ← sgq_neg_iff, hq]; decide
        have hls := lowL_not (s := s.take i) (v := v) (x := x) (by grind)
        have hhs := highL_neg (s := s.take i) hneg
        rw [hq] at h36
        have e1 : ((-1 : Int) == 1) = false := rfl
        have e2 : ((-1 : Int) == -1) = true := rfl
        simp (dsimp := false) (disch := omega) only [List.append_nil, h2, r1, x27, flatF_fv, fx, gx, lx, hat, rules, tys, eq_self, ↓reduceIte, Nat.reduceAdd, Nat.reduceMul, Nat.reduceLT, Nat.reduceLeDiff]
        repeat refine And.intro (by omega) ?_
        refine GoCall.pure h36 rfl ?_
        simp (dsimp := false) (disch := omega) only [List.append_nil, e1, e2, wrap64, rules, tys, eq_self, ↓reduceIte]
        repeat refine And.intro (by omega) ?_
        refine Ap_loop (i + 1, a, c + 1) (by dsimp only; omega) ?_ ⟨by omega, by rw [hsn, hls, ha], by rw [hsn, hhs, List.length_append, ← hc]; rfl⟩
        refine Weak.keep [] (by simp) rfl ?_ ?_
        · simp [leVs, leV, le1]
        · simp [leH]
      · have h0 : co x v = 0 := by rw [hco, ← sgq_eq_zero, hq]
        have hls := lowL_not (s := s.take i) (v := v) (x := x) (by grind)
        have hhs := highL_not (s := s.take i) (v := v) (x := x) (by grind)
        rw [hq] at h36
        have e1 : ((0 : Int) == 1) = false := rfl
        have e2 : ((0 : Int) == -1) = false := rfl
        simp (dsimp := false) (disch := omega) only [List.append_nil, h2, r1, x27, flatF_fv, fx, gx, lx, hat, rules, tys, eq_self, ↓reduceIte, Nat.reduceAdd, Nat.reduceMul, Nat.reduceLT, Nat.reduceLeDiff]
        repeat refine And.intro (by omega) ?_
        refine GoCall.pure h36 rfl ?_
        simp (dsimp := false) (disch := omega) only [List.append_nil, e1, e2, wrap64, rules, tys, eq_self, ↓reduceIte]
        repeat refine And.intro (by omega) ?_
        refine Ap_loop (i + 1, a, c) (by dsimp only; omega) ?_ ⟨by omega, by rw [hsn, hls, ha], by rw [hsn, hhs, hc]⟩
        refine Weak.keep [] (by simp) rfl ?_ ?_
        · simp [leVs, leV, le1]
        · simp [leH]
      · have hp : 0 < co x v := by rw [hco, ← sgq_pos_iff, hq]; decide
        have hls := lowL_pos (s := s.take i) hp
        have hhs := highL_not (s := s.take i) (v := v) (x := x) (by grind)
        rw [hq] at h36
        have e1 : ((1 : Int) == 1) = true := rfl
        simp (dsimp := false) (disch := omega) only [List.append_nil, h2, r1, x27, flatF_fv, fx, gx, lx, hat, rules, tys, eq_self, ↓reduceIte, Nat.reduceAdd, Nat.reduceMul, Nat.reduceLT, Nat.reduceLeDiff]
        repeat refine And.intro (by omega) ?_
        refine GoCall.pure h36 rfl ?_
        simp (dsimp := false) (disch := omega) only [List.append_nil, e1, wrap64, rules, tys, eq_self, ↓reduceIte]
        repeat refine And.intro (by omega) ?_
        refine Ap_loop (i + 1, a + 1, c) (by dsimp only; omega) ?_ ⟨by omega, by rw [hsn, hls, List.length_append, ← ha]; rfl, by rw [hsn, hhs, hc]⟩
        refine Weak.keep [] (by simp) rfl ?_ ?_
        · simp [leVs, leV, le1]
        · simp [leH]
    · intro h1 h2
      have htk : s.take i = s := List.take_of_length_le (by omega)
      rw [htk, hA] at ha
      rw [htk, hC] at hc
      subst ha hc
      have hmul : (0 : Int) ≤ (a : Int) * (c : Int) ∧ (a : Int) * (c : Int) ≤ 1000000 := by
        constructor
        · exact Int.mul_nonneg (by omega) (by omega)
        · have := Nat.mul_le_mul (show a ≤ 1000 by omega) (show c ≤ 1000 by omega)
          have e : ((a * c : Nat) : Int) = (a : Int) * c := by simp
          omega
      simp (dsimp := false) (disch := omega) only [h2, wrap64, Ap_end_ret, rules, tys, eq_self, ↓reduceIte, Nat.reduceBEq]
      repeat refine And.intro (by omega) ?_
      refine RetOK.pure rfl ⟨trivial, trivial, trivial⟩ ?_
      simp (disch := omega) only [St.get, fzX, oneRes, fzV, fzVs, fzC, fz1, fz0, Option.map_some, List.getD_cons_succ, List.getD_cons_zero]

theorem pd46g (s : List (List Raw)) (v : Nat) (hv : v < 8) (hg : GoodS s) :
    Den Tryz.prog 46 [] [.fv (.sl (rowsF s)), .int .i64 v] [] (if badB s v then .tup [.fv (.sl []), .bool false] else .tup [.fv (.sl (rowsF (stepL s v))), .bool true]) := by
  obtain ⟨k, hk, hs, hz⟩ := hg
  exact pd46 k s v hv hk hs hz

theorem pd45 (s0 : List (List Raw)) (hg0 : GoodS s0) : Den Tryz.prog 45 [] [.fv (.sl (rowsF s0))] [] (.bool (feasB s0)) := by
  obtain ⟨R, hR⟩ : ∃ R, feasB s0 = R := ⟨_, rfl⟩
  rw [hR]
  refine den_of tabOk mixed Tryz.func45 (cd := _) rfl (by decide) rfl (n := 41) rfl rfl (m := 0) rfl ?_
  simp (dsimp := false) (disch := omega) only [List.replicate, rules]
  refine WA.loop (α := List (List Raw)) (fun s => ⟨[.fv (.sl (rowsF s)), .any, .bool false] ++ List.replicate 39 .any, []⟩)
    nvars (fun s => GoodS s ∧ feasB s = R) s0 ?_ ?_ ?_
  · refine Weak.keep [] (by simp) rfl ?_ ?_
    · simp [leVs, leV, le1]
    · simp [leH]
  · exact ⟨hg0, hR⟩
  · rintro s ⟨hg, hf⟩
    have rl := rowsF_length s
    have hn12 := hg.len
    simp (dsimp := false) (disch := omega) only [List.replicate, rl, rules, tys, eq_self, ↓reduceIte]
    refine Br.dec ?_ ?_
    · intro h1 h2
      simp (dsimp := false) (disch := omega) only [h2, rules]
      refine WA.loop (α := Nat × Int × Int) (fun ⟨w, b, l⟩ => ⟨[.fv (.sl (rowsF s)), .any, .bool false, .int .i64 b, .int .i64 l] ++ List.replicate 7 .any ++ [.int .i64 w] ++ List.replicate 29 .any, []⟩)
        (fun ⟨w, _⟩ => 8 - w) (fun ⟨w, b, l⟩ => w ≤ 8 ∧ ((b = -1 ∧ ∀ u, u < w → occ s u = false) ∨ ∃ u, u < 8 ∧ b = (u : Nat) ∧ occ s u = true)) (0, -1, 0) ?_ ?_ ?_
      · refine Weak.keep [] (by simp) rfl ?_ ?_
        · simp [leVs, leV, le1]
        · simp [leH]
      · exact ⟨Nat.zero_le _, .inl ⟨rfl, fun u hu => by omega⟩⟩
      · rintro ⟨w, b, l⟩ ⟨hw, hb⟩
        simp (dsimp := false) (disch := omega) only [List.replicate, rules, tys, eq_self, ↓reduceIte]
        refine Br.dec ?_ ?_
        · intro h3 h4
          have h90 := pd90 s w (by omega) hg.lim (by omega)
          obtain ⟨c, hc⟩ : ∃ c, ((lowL s w).length : Int) * (highL s w).length - (lowL s w).length - (highL s w).length = c := ⟨_, rfl⟩
          obtain ⟨o, ho⟩ : ∃ o, occ s w = o := ⟨_, rfl⟩
          rw [hc, ho] at h90
          simp (dsimp := false) (disch := omega) only [h4, rules]
          refine GoCall.pure h90 rfl ?_
          cases o with
          | false =>
            simp (dsimp := false) (disch := omega) only [wrap64, rules, tys, eq_self, ↓reduceIte]
            refine Ap_loop (w + 1, b, l) (by dsimp only; omega) ?_ ⟨by omega, ?_⟩
            · refine Weak.keep [] (by simp) rfl ?_ ?_
              · simp [leVs, leV, le1]
              · simp [leH]
            · rcases hb with ⟨h5, h6⟩ | h5
              · refine .inl ⟨h5, fun u hu => ?_⟩
                by_cases huw : u = w
                · rw [huw]; exact ho
                · exact h6 u (by omega)
              · exact .inr h5
          | true =>
            simp (dsimp := false) (disch := omega) only [rules, tys, eq_self, ↓reduceIte]
            refine Br.dec ?_ ?_
            · intro h5 h6
              simp (dsimp := false) (disch := omega) only [h6, wrap64, rules, tys, eq_self, ↓reduceIte]
              refine Ap_loop (w + 1, (w : Int), c) (by dsimp only; omega) ?_ ⟨by omega, .inr ⟨w, by omega, rfl, ho⟩⟩
              refine Weak.keep [] (by simp) rfl ?_ ?_
              · simp [leVs, leV, le1]
              · simp [leH]
            · intro h5 h6
              simp (dsimp := false) (disch := omega) only [h6, rules, tys, eq_self, ↓reduceIte]
              have hb2 : ∃ u, u < 8 ∧ b = (u : Nat) ∧ occ s u = true := by
                rcases hb with ⟨h7, _⟩ | h7
                · omega
                · exact h7
              refine Br.dec ?_ ?_
              · intro h7 h8
                simp (dsimp := false) (disch := omega) only [h8, wrap64, rules, tys, eq_self, ↓reduceIte]
                refine Ap_loop (w + 1, (w : Int), c) (by dsimp only; omega) ?_ ⟨by omega, .inr ⟨w, by omega, rfl, ho⟩⟩
                refine Weak.keep [] (by simp) rfl ?_ ?_
                · simp [leVs, leV, le1]
                · simp [leH]
              · intro h7 h8
                simp (dsimp := false) (disch := omega) only [h8, wrap64, rules, tys, eq_self, ↓reduceIte]
                refine Ap_loop (w + 1, b, l) (by dsimp only; omega) ?_ ⟨by omega, .inr hb2⟩
                refine Weak.keep [] (by simp) rfl ?_ ?_
                · simp [leVs, leV, le1]
                · simp [leH]
        · intro h3 h4
          have hw8 : w = 8 := by omega
          have hb2 : ∃ u, u < 8 ∧ b = (u : Nat) ∧ occ s u = true := by
            rcases hb with ⟨h7, h8⟩ | h7
            · exfalso
              have hpos : 0 < s.length := by omega
              have hmem := at_mem (ls := s) (i := 0) hpos
              obtain ⟨u, hu, h0⟩ := not_const (hg.nc _ hmem)
              have := h8 u (by omega)
              rw [occ_iff.2 ⟨_, hmem, h0⟩] at this
              cases this
            · exact h7
          obtain ⟨u, hu, rfl, hou⟩ := hb2
          have h46 := pd46g s u hu hg
          cases hbad : badB s u with
          | true =>
            rw [hbad, if_pos rfl] at h46
            have hR2 : R = false := by rw [← hf]; exact hg.bad hu hbad
            subst hR2
            simp (dsimp := false) (disch := omega) only [h4, rules, Nat.reduceBEq]
            refine GoCall.pure h46 rfl ?_
            simp (dsimp := false) (disch := omega) only [Bool.not_false, Ap_end_ret, rules]
            exact RetOK.pure rfl ⟨trivial, trivial⟩ rfl
          | false =>
            rw [hbad, if_neg (by simp)] at h46
            have hR2 := hg.feas hu hbad
            have hgs := hg.step hu
            have hlt : nvars (stepL s u) < nvars s := by
              obtain ⟨k, hk, hs, hz⟩ := hg
              exact (step_sz hu hs hz hou (stepL_is u hs)).2
            simp (dsimp := false) (disch := omega) only [h4, rules, Nat.reduceBEq]
            refine GoCall.pure h46 rfl ?_
            simp (dsimp := false) (disch := omega) only [Bool.not_true, rules]
            refine Ap_loop (stepL s u) hlt ?_ ⟨hgs, by rw [hR2]; exact hf⟩
            refine Weak.keep [] (by simp) rfl ?_ ?_
            · simp [leVs, leV, le1]
            · simp [leH]
    · intro h1 h2
      have hs0 : s = [] := List.eq_nil_of_length_eq_zero (by omega)
      have hR2 : R = true := by rw [← hf, hs0]; exact feasB_nil
      subst hR2
      simp (dsimp := false) (disch := omega) only [h2, Ap_end_ret, rules, Nat.reduceBEq]
      exact RetOK.pure rfl ⟨trivial, trivial⟩ rfl

theorem pd44g (cs : List (List Raw)) (h : CsOk cs) : Den Tryz.prog 44 [] [.fv (.sl (rowsF cs))] [] (if violB cs then .tup [.fv (.sl []), .bool false] else .tup [.fv (.sl (rowsF (sysL cs []))), .bool true]) :=
  pd44 cs (fun l hl => (h.ok l hl).mono (by decide)) (by have := h.len; omega) h.nok h.nc

theorem pd60 (cs : List (List Raw)) (h : CsOk cs) : Den Tryz.prog 60 [] [.fv (.sl (rowsF cs))] [] (.bool (innerB cs)) := by
  have h44 := pd44g cs h
  have h45 := pd45 _ h.good
  unfold innerB
  obtain ⟨R, hR⟩ : ∃ R, feasB (sysL cs []) = R := ⟨_, rfl⟩
  rw [hR] at h45 ⊢
  cases hv : violB cs with
  | true =>
    rw [hv, if_pos rfl] at h44
    refine den_of tabOk mixed Tryz.func60 (cd := _) rfl (by decide) rfl (n := 14) rfl rfl (m := 0) rfl ?_
    simp (dsimp := false) (disch := omega) only [List.replicate, rules]
    refine GoCall.pure h44 rfl ?_
    simp (dsimp := false) (disch := omega) only [Ap_end_ret, rules, ↓reduceIte]
    exact RetOK.pure rfl ⟨trivial, trivial⟩ rfl
  | false =>
    rw [hv, if_neg (by simp)] at h44
    refine den_of tabOk mixed Tryz.func60 (cd := _) rfl (by decide) rfl (n := 14) rfl rfl (m := 0) rfl ?_
    simp (dsimp := false) (disch := omega) only [List.replicate, rules]
    refine GoCall.pure h44 rfl ?_
    simp (dsimp := false) (disch := omega) only [rules]
    refine GoCall.pure h45 rfl ?_
    simp (dsimp := false) (disch := omega) only [Ap_end_ret, rules, eq_self, ↓reduceIte]
    exact RetOK.pure rfl ⟨trivial, trivial⟩ rfl

theorem pd20 (cs : List (List Raw)) (h : CsOk cs) (hl : cs.length ≤ 40) : Den Tryz.prog 20 [] [.fv (.sl (rowsF cs))] [] (.tup [.bool (innerB cs), .int .i64 0]) := by
  have h60 := pd60 cs h
  have rl := rowsF_length cs
  have e1 : decide ((cs.length : Int) > 40) = false := decide_eq_false (by omega)
  refine den_of tabOk mixed Tryz.func20 (cd := _) rfl (by decide) rfl (n := 8) rfl rfl (m := 0) rfl ?_
  simp (dsimp := false) (disch := omega) only [List.replicate, rl, e1, rules, tys, eq_self, ↓reduceIte]
  refine GoCall.pure h60 rfl ?_
  simp (dsimp := false) (disch := omega) only [Ap_end_ret, rules]
  exact RetOK.pure rfl ⟨trivial, trivial, trivial⟩ rfl
end Go.Proofs.YtddnnhlcpffbdaaGreat

namespace Go.Pl
open Go.AM

theorem upd_self (x : Nat → Rat) (v : Nat) : upd x v (x v) = x := by funext i; unfold upd; split <;> simp_all
theorem upd_at (x : Nat → Rat) (v : Nat) (t : Rat) : upd x v t v = t := by simp [upd]
theorem upd_ne {x : Nat → Rat} {v w : Nat} {t : Rat} (h : w ≠ v) : upd x v t w = x w := by simp [upd, h]
theorem upd_upd (x : Nat → Rat) (v : Nat) (t u : Rat) : upd (upd x v t) v u = upd x v u := by funext i; unfold upd; split <;> simp_all
theorem GoodS.pos {s : List (List Raw)} {v : Nat} (hv : v < 8) (h : GoodS s) (hb : badB s v = false) (x : Nat → Rat) : Pos (stepL s v) x ↔ ∃ t, Pos s (upd x v t) := by
  have h9 := h.len9
  obtain ⟨k, hk, hs, hz⟩ := h
  exact step_pos hv hs (fun hb2 => by rw [(badB_iff h9).2 hb2] at hb; cases hb) (stepL_is v hs) x
theorem GoodS.not_bad {s : List (List Raw)} {v : Nat} (hv : v < 8) (h : GoodS s) (hf : feasB s = true) : badB s v = false := by
  cases hb : badB s v with
  | false => rfl
  | true => rw [h.bad hv hb] at hf; cases hf
theorem elim_pos {v : Nat} : ∀ (n i : Nat) {s : List (List Raw)}, i + n ≤ 8 → GoodS s → feasB s = true → ∀ x, Pos (elimL v n i s) x ↔ ∃ y, (∀ w, (w < i ∨ i + n ≤ w ∨ w = v) → y w = x w) ∧ Pos s y
  | 0, i, s, _, _, _, x => by
    constructor
    · intro h; exact ⟨x, fun _ _ => rfl, h⟩
    · rintro ⟨y, hy, h⟩
      have : y = x := funext (fun w => hy w (by omega))
      rw [← this]; exact h
  | n + 1, i, s, hi, hg, hf, x => by
    unfold elimL
    by_cases hiv : i = v
    · rw [if_pos hiv, elim_pos n (i + 1) (by omega) hg hf x]
      constructor
      · rintro ⟨y, hy, h⟩
        exact ⟨y, fun w hw => hy w (by omega), h⟩
      · rintro ⟨y, hy, h⟩
        exact ⟨y, fun w hw => hy w (by omega), h⟩
    · rw [if_neg hiv]
      have hb := hg.not_bad (v := i) (by omega) hf
      rw [elim_pos n (i + 1) (by omega) (hg.step (by omega)) (by rw [hg.feas (by omega) hb]; exact hf) x]
      constructor
      · rintro ⟨y, hy, h⟩
        obtain ⟨t, ht⟩ := (hg.pos (by omega) hb y).1 h
        refine ⟨upd y i t, fun w hw => ?_, ht⟩
        rw [upd_ne (by omega)]
        exact hy w (by omega)
      · rintro ⟨y, hy, h⟩
        refine ⟨upd y i (x i), fun w hw => ?_, (hg.pos (by omega) hb _).2 ⟨y i, ?_⟩⟩
        · by_cases hwi : w = i
          · rw [hwi, upd_at]
          · rw [upd_ne hwi]; exact hy w (by omega)
        · rw [upd_upd, upd_self]; exact h
theorem occ_step {s : List (List Raw)} {v w : Nat} (hg : GoodS s) (hv : v < 8) (hw : w < 8) (h : occ (stepL s v) w = true) : w ≠ v ∧ occ s w = true := by
  have h9 := hg.len9
  obtain ⟨k, hk, hs, hz⟩ := hg
  have h2 := (sys_occ (out_len h9) (stepL_is v hs) hw).1 h
  refine ⟨fun he => ?_, out_occ hw h9 h2⟩
  subst he
  rw [occ_out hw hs] at h2; cases h2
theorem elim_occ {v : Nat} : ∀ (n i : Nat) {s : List (List Raw)}, i + n ≤ 8 → GoodS s → (∀ w, w < i → w ≠ v → occ s w = false) → ∀ w, w < i + n → w ≠ v → occ (elimL v n i s) w = false
  | 0, i, s, _, _, h, w, hw, hne => h w (by omega) hne
  | n + 1, i, s, hi, hg, h, w, hw, hne => by
    unfold elimL
    by_cases hiv : i = v
    · rw [if_pos hiv]
      exact elim_occ n (i + 1) (by omega) hg (fun u hu hne2 => h u (by omega) hne2) w (by omega) hne
    · rw [if_neg hiv]
      refine elim_occ n (i + 1) (by omega) (hg.step (by omega)) (fun u hu hne2 => ?_) w (by omega) hne
      cases ho : occ (stepL s i) u with
      | false => rfl
      | true =>
        obtain ⟨h1, h2⟩ := occ_step hg (by omega) (by omega) ho
        rw [h u (by omega) hne2] at h2; cases h2
theorem one_pos {s : List (List Raw)} {v : Nat} (hv : v < 8) (hg : GoodS s) (h : ∀ w, w < 8 → w ≠ v → occ s w = false) (x : Nat → Rat) :
    Pos s x ↔ (∀ q ∈ lowQ s v, q < x v) ∧ (∀ q ∈ highQ s v, x v < q) := by
  have key : ∀ l ∈ s, co l v ≠ 0 ∧ lval (solR v l) x = co (solR v l) 8 := by
    intro l hl
    have h9 := hg.len9 l hl
    have hz : ∀ w, w < 8 → w ≠ v → co l w = 0 := fun w hw hne => occ_false (h w hw hne) l hl
    have h0 : co l v ≠ 0 := by
      obtain ⟨u, hu, h1⟩ := not_const (hg.nc l hl)
      by_cases huv : u = v
      · rw [← huv]; exact h1
      · exact absurd (hz u hu huv) h1
    refine ⟨h0, lval_const (fun w hw => ?_)⟩
    rw [(solR_bound h9 h0).2 w (by omega)]
    by_cases hwv : v = w
    · rw [if_pos hwv]
    · rw [if_neg hwv, hz w hw (fun e => hwv e.symm)]; simp [Rat.zero_mul]
  unfold lowQ highQ
  constructor
  · intro hp
    constructor
    · intro q hq
      obtain ⟨b, hb, rfl⟩ := List.mem_map.1 hq
      obtain ⟨l, hl, h1, rfl⟩ := mem_low.1 hb
      have := (bound_pos (solR_bound (hg.len9 l hl) (key l hl).1) hv h1).1 (hp l hl)
      rwa [(key l hl).2] at this
    · intro q hq
      obtain ⟨b, hb, rfl⟩ := List.mem_map.1 hq
      obtain ⟨l, hl, h1, rfl⟩ := mem_high.1 hb
      have := (bound_neg (solR_bound (hg.len9 l hl) (key l hl).1) hv h1).1 (hp l hl)
      rwa [(key l hl).2] at this
  · rintro ⟨h1, h2⟩ l hl
    obtain ⟨h0, h3⟩ := key l hl
    by_cases hp : 0 < co l v
    · rw [bound_pos (solR_bound (hg.len9 l hl) h0) hv hp, h3]
      exact h1 _ (List.mem_map.2 ⟨_, mem_low.2 ⟨l, hl, hp, rfl⟩, rfl⟩)
    · have hn : co l v < 0 := by grind
      rw [bound_neg (solR_bound (hg.len9 l hl) h0) hv hn, h3]
      exact h2 _ (List.mem_map.2 ⟨_, mem_high.2 ⟨l, hl, hn, rfl⟩, rfl⟩)
def Val (cs : List (List Raw)) (v : Nat) (t : Rat) : Prop := ∃ x, In cs x ∧ x v = t
theorem val_iff {cs : List (List Raw)} {v : Nat} (hv : v < 8) (h : CsOk cs) (hi : innerB cs = true) (t : Rat) :
    Val cs v t ↔ (∀ q ∈ lowQ (elimL v 8 0 (sysL cs [])) v, q < t) ∧ (∀ q ∈ highQ (elimL v 8 0 (sysL cs [])) v, t < q) := by
  have h9 := h.len9
  have hg := h.good
  have hi2 := hi
  unfold innerB at hi2
  rw [Bool.and_eq_true, Bool.not_eq_true'] at hi2
  have hge := elimL_good (v := v) 8 0 (by omega) hg
  have hocc := elim_occ (v := v) 8 0 (by omega) hg (fun w hw => by omega)
  have hnv : ¬ Viol cs := fun hv2 => by have := (violB_iff h9).2 hv2; rw [this] at hi2; cases hi2.1
  have hin := fun y => sys_in h9 (sysL_is h9) hnv y
  have h1 := one_pos hv hge (fun w hw hne => hocc w (by omega) hne) (fun _ => t)
  rw [← h1, elim_pos 8 0 (by omega) hg hi2.2]
  unfold Val
  constructor
  · rintro ⟨x, hx, rfl⟩
    refine ⟨fun w => if w < 8 then x w else x v, fun w hw => ?_, ?_⟩
    · rcases hw with hw | hw | hw
      · omega
      · dsimp only; rw [if_neg (by omega)]
      · subst hw; dsimp only; rw [if_pos hv]
    · have h2 := (hin x).1 hx
      intro l hl
      have h3 := h2 l hl
      have e : lval l (fun w => if w < 8 then x w else x v) = lval l x := by
        unfold lval
        have : ∀ k, k ≤ 8 → lv l (fun w => if w < 8 then x w else x v) k = lv l x k := by
          intro k
          induction k with
          | zero => intro _; rfl
          | succ k ih =>
            intro hk
            unfold lv
            rw [ih (by omega), if_pos (by omega)]
        exact this 8 (by omega)
      rw [e]; exact h3
  · rintro ⟨y, hy, hp⟩
    exact ⟨y, (hin y).2 hp, hy v (.inr (.inr rfl))⟩
theorem bndP_some {cs : List (List Raw)} {v : Nat} (hv : v < 8) (h : CsOk cs) {a b : Rat} (hb : bndP cs v = some (a, b)) : innerB cs = true ∧ ∀ t, Val cs v t ↔ a < t ∧ t < b := by
  unfold bndP at hb
  split at hb
  rotate_left
  · cases hb
  rename_i hi
  refine ⟨hi, fun t => ?_⟩
  rw [val_iff hv h hi t]
  unfold ends at hb
  split at hb
  · rename_i a0 l b0 g hlo hhi
    cases hb
    rw [hlo, hhi]
    constructor
    · rintro ⟨h1, h2⟩
      exact ⟨h1 _ (maxL_mem l a0), h2 _ (minL_mem g b0)⟩
    · rintro ⟨h1, h2⟩
      exact ⟨fun q hq => by have := maxL_ge l a0 q hq; grind, fun q hq => by have := minL_le g b0 q hq; grind⟩
  · cases hb
theorem interval_eq {a b c d : Rat} (h : ∀ t, (a < t ∧ t < b) ↔ (c < t ∧ t < d)) (hab : a < b) : a = c ∧ b = d := by
  have mid : ∀ p q : Rat, p < q → p < (p + q) / 2 ∧ (p + q) / 2 < q := by
    intro p q hpq
    constructor <;> grind
  have hm := (h _).1 (mid a b hab)
  have hcd : c < d := by have := hm.1; have := hm.2; grind
  have key : ∀ {a b c d : Rat}, (∀ t, (a < t ∧ t < b) ↔ (c < t ∧ t < d)) → a < b → c < d → ¬ a < c := by
    intro a b c d h hab hcd hac
    by_cases hcb : c < b
    · have h1 := mid a c hac
      have := (h ((a + c) / 2)).1 ⟨h1.1, by have := h1.2; grind⟩
      grind
    · have h1 := mid a b hab
      have := (h ((a + b) / 2)).1 h1
      grind
  have key2 : ∀ {a b c d : Rat}, (∀ t, (a < t ∧ t < b) ↔ (c < t ∧ t < d)) → a < b → c < d → ¬ d < b := by
    intro a b c d h hab hcd hdb
    by_cases had : a < d
    · have h1 := mid d b hdb
      have := (h ((d + b) / 2)).1 ⟨by have := h1.1; grind, h1.2⟩
      grind
    · have h1 := mid a b hab
      have := (h ((a + b) / 2)).1 h1
      grind
  have h' := fun t => (h t).symm
  have k1 := key h hab hcd
  have k2 := key h' hcd hab
  have k3 := key2 h hab hcd
  have k4 := key2 h' hcd hab
  constructor <;> grind
theorem bndP_of {cs : List (List Raw)} {v : Nat} (hv : v < 8) (h : CsOk cs) {a b : Rat} (hab : a < b) (hval : ∀ t, Val cs v t ↔ a < t ∧ t < b) : bndP cs v = some (a, b) := by
  have h9 := h.len9
  have mid : a < (a + b) / 2 ∧ (a + b) / 2 < b := by constructor <;> grind
  have hi : innerB cs = true := by
    obtain ⟨x, hx, _⟩ := (hval _).2 mid
    exact (innerB_iff h9).2 ⟨x, hx⟩
  cases hb : bndP cs v with
  | some p =>
    obtain ⟨c, d⟩ := p
    have h2 := (bndP_some hv h hb).2
    obtain ⟨e1, e2⟩ := interval_eq (fun t => (hval t).symm.trans (h2 t)) hab
    rw [e1, e2]
  | none =>
    exfalso
    unfold bndP at hb
    rw [if_pos hi] at hb
    have hv2 := fun t => (hval t).symm.trans (val_iff hv h hi t)
    have hm := (hv2 _).1 mid
    unfold ends at hb
    split at hb
    · cases hb
    · rename_i hne
      cases hlo : lowQ (elimL v 8 0 (sysL cs [])) v with
      | nil =>
        have := (hv2 (a - 1)).2 ⟨by rw [hlo]; simp, fun q hq => by have := hm.2 q hq; grind⟩
        grind
      | cons p l =>
        cases hhi : highQ (elimL v 8 0 (sysL cs [])) v with
        | nil =>
          have := (hv2 (b + 1)).2 ⟨fun q hq => by have := hm.1 q hq; grind, by rw [hhi]; simp⟩
          grind
        | cons q g => exact hne _ _ _ _ hlo hhi
end Go.Pl

namespace Go.Pl
open Go.AM

structure Pre (cs : List (List Raw)) : Prop where
  cnf : ∀ l ∈ cs, IsCn l
  nc : ∀ l ∈ cs, ¬ IsConst l
  ok : ∀ l ∈ cs, LOk 1000 l
  len : cs.length ≤ 13
  good : GoodS (sysL cs [])
theorem GoodS.cnf {s : List (List Raw)} (h : GoodS s) : ∀ l ∈ s, IsCn l := by
  have h9 := h.len9
  obtain ⟨k, hk, hs, hz⟩ := h
  exact fun l hl => by rw [← hs.nm l hl]; exact nrmR_cn (h9 l hl)
theorem GoodS.self {s : List (List Raw)} (h : GoodS s) : sysL s [] = s := by
  have h9 := h.len9
  obtain ⟨k, hk, hs, hz⟩ := h
  exact (hs.self.eq h9).symm
theorem GoodS.pre {s : List (List Raw)} (h : GoodS s) : Pre s := ⟨h.cnf, h.nc, h.lim, by have := h.len; omega, by rw [h.self]; exact h⟩
end Go.Pl

namespace Go.Pl
open Go.AM

def Dim (d : Nat) (cs : List (List Raw)) : Prop := ∀ l ∈ cs, ∀ w, d ≤ w → w < 8 → co l w = 0
theorem nvars_dim {cs : List (List Raw)} {d : Nat} (h : Dim d cs) : nvars cs ≤ d := by
  have := nodup_length ((List.range 8).filter (occ cs)) (List.range d) (List.Pairwise.filter _ List.nodup_range) (fun w hw => by
    rw [List.mem_filter, List.mem_range] at hw
    rw [List.mem_range]
    by_cases hd : w < d
    · exact hd
    · exfalso
      obtain ⟨l, hl, h0⟩ := occ_iff.1 hw.2
      exact h0 (h l hl w (by omega) hw.1))
  rw [List.length_range] at this
  exact this
theorem good_of {cs : List (List Raw)} {k d : Nat} (h9 : ∀ l ∈ cs, l.length = 9) (hk : ∀ l ∈ cs, ¬ IsConst l → LOk k (nrmR l)) (hk1 : 1 ≤ k) (hk14 : k ≤ 14) (hd : Dim d cs) (hl : (d = 3 ∧ (ncs cs).length ≤ 5) ∨ (d = 2 ∧ (ncs cs).length ≤ 7)) : GoodS (sysL cs []) := by
  have his := sysL_is h9
  have h1 := sys_nvars h9 his
  have h2 := nvars_dim hd
  have h3 := sys_length h9 his
  refine ⟨k, hk1, SysF.of h9 his hk, ⟨by omega, fun h => by omega, fun h => ?_, fun h => ?_⟩⟩
  · omega
  · omega
theorem ncs_le (cs : List (List Raw)) : (ncs cs).length ≤ cs.length := List.length_filter_le _ _
theorem ncs_const {cs : List (List Raw)} (h : ∀ l ∈ cs, constB l = true) : ncs cs = [] := by
  unfold ncs
  exact filter_none (fun l hl => by rw [h l hl]; rfl)
theorem ok_of {cs : List (List Raw)} {d : Nat} (h4 : ∀ l ∈ cs, LOk 6 l) (hd : Dim d cs) (hlen : cs.length ≤ 100) (hl : (d = 3 ∧ (ncs cs).length ≤ 5) ∨ (d = 2 ∧ (ncs cs).length ≤ 7)) : CsOk cs := by
  have h9 : ∀ l ∈ cs, l.length = 9 := fun l hl => (h4 l hl).len
  refine ⟨fun l hl => (h4 l hl).mono (by decide), hlen, by omega, good_of (k := 12) h9 (fun l hl _ => nrmR_ok (h4 l hl) (by decide)) (by decide) (by decide) hd hl, fun l hl _ => (h4 l hl).mono (by decide)⟩
theorem Dim.append {d : Nat} {a b : List (List Raw)} (ha : Dim d a) (hb : Dim d b) : Dim d (a ++ b) := fun l hl => by
  rcases List.mem_append.1 hl with h | h
  · exact ha l h
  · exact hb l h
theorem Dim.neg {d : Nat} {l : List Raw} (h9 : l.length = 9) (h : Dim d [l]) : Dim d [negR l] := fun m hm w hw hw8 => by
  rw [List.mem_singleton] at hm
  subst hm
  rw [negR_at h9 (by omega), h l (by simp) w hw hw8]
  rfl
theorem Dim.sub {d : Nat} {a b : List (List Raw)} (hb : Dim d b) (h : ∀ l ∈ a, l ∈ b) : Dim d a := fun l hl => hb l (h l hl)
theorem Dim.one {d : Nat} {a : List (List Raw)} (ha : Dim d a) {l : List Raw} (h : l ∈ a) : Dim d [l] := fun m hm => by
  rw [List.mem_singleton] at hm; subst hm; exact ha m h
def numL (q : Rat) : List Raw := (List.replicate 9 (cn 0)).set 8 (cn q)
def varL (v : Nat) : List Raw := (List.replicate 9 (cn 0)).set v (cn ((1 : Int) : Rat))
theorem co_set {v w : Nat} {q : Rat} (_ : v < 9) (hw : w < 9) : co ((List.replicate 9 (cn 0)).set v (cn q)) w = if w = v then q else 0 := by
  unfold co
  rw [List.getD_eq_getElem?_getD, List.getElem?_set]
  by_cases h : v = w
  · subst h
    rw [if_pos rfl, if_pos (by simp; omega), if_pos rfl, Option.getD_some, cn_q]
  · rw [if_neg h, if_neg (fun e => h e.symm), List.getElem?_replicate, if_pos hw, Option.getD_some, cn_q]
theorem co_num {w : Nat} {q : Rat} (hw : w < 9) : co (numL q) w = if w = 8 then q else 0 := co_set (by omega) hw
theorem co_var {v w : Nat} (hv : v < 9) (hw : w < 9) : co (varL v) w = if w = v then 1 else 0 := co_set hv hw
theorem lval_eq (l : List Raw) (x : Nat → Rat) : lval l x = co l 8 + co l 0 * x 0 + co l 1 * x 1 + co l 2 * x 2 + co l 3 * x 3 + co l 4 * x 4 + co l 5 * x 5 + co l 6 * x 6 + co l 7 * x 7 := rfl
end Go.Pl

namespace Go.Proofs.YtddnnhlcpffbdaaGreat
open Go.AM Go.Pl
set_option maxRecDepth 100000
set_option maxHeartbeats 4000000

theorem zeros_cn : (List.replicate 9 (0 : Rat)).map cn = List.replicate 9 (cn 0) := by simp
theorem numL_len (q : Rat) : (numL q).length = 9 := by simp [numL]
theorem varL_len (v : Nat) : (varL v).length = 9 := by simp [varL]
theorem pd30 (r : Raw) (hr : r.Ok 5000000000) : Den Tryz.prog 30 [] [r.v] [] (RL (numL r.q)) := by
  have h57 := den57 r hr
  have h43 := den43
  unfold FL at h43
  rw [zeros_cn] at h43
  have hset := flat_set (rs := List.replicate 9 (cn 0)) (i := 8) (by simp) (cn r.q).neg (cn r.q).num (cn r.q).den
  have hcn : (⟨(cn r.q).neg, (cn r.q).num, (cn r.q).den⟩ : Raw) = cn r.q := rfl
  rw [hcn] at hset
  change _ = flat (numL r.q) at hset
  have hnl := numL_len r.q
  obtain ⟨y, hy⟩ : ∃ y, numL r.q = y := ⟨_, rfl⟩
  obtain ⟨z, hz⟩ : ∃ z, List.replicate 9 (cn 0) = z := ⟨_, rfl⟩
  have hzl : z.length = 9 := by rw [← hz]; simp
  obtain ⟨c, hc⟩ : ∃ c, cn r.q = c := ⟨_, rfl⟩
  rw [hy] at hset hnl ⊢
  rw [hz] at h43 hset
  have h57b : Den Tryz.prog 61 [] [r.v] [] c.v := by rw [← hc]; exact h57
  rw [hc] at hset
  unfold Raw.v at h57b ⊢
  unfold RL at h43 ⊢
  have gz := flat_length z
  have gy := flat_length y
  have gy27 := flat_take27 hnl
  have gz27 := flat_take27 hzl
  simp only [Nat.reduceMul, Nat.reduceAdd] at hset
  refine den_of tabOk mixed Tryz.func30 (cd := _) rfl (by decide) rfl (n := 8) rfl rfl (m := 0) rfl ?_
  simp (dsimp := false) (disch := omega) only [List.replicate, rules, tys, eq_self, Nat.reduceAdd, Nat.reduceLT]
  refine GoCall.pure h43 rfl ?_
  simp (dsimp := false) (disch := omega) only [flat_reloc, List.append_nil, gz, hzl, rules, tys, eq_self, ↓reduceIte, Nat.reduceAdd, Nat.reduceMul, Nat.reduceLT, Nat.reduceLeDiff]
  repeat refine And.intro (by omega) ?_
  refine GoCall.pure h57b rfl ?_
  simp (dsimp := false) (disch := omega) only [List.append_nil, gz, hzl, hset, gy27, gy, hnl, Ap_end_ret, rules, tys, eq_self, ↓reduceIte, Nat.reduceAdd, Nat.reduceMul, Nat.reduceLT, Nat.reduceLeDiff]
  repeat refine And.intro (by omega) ?_
  exact RetOK.form rfl rfl hnl
theorem pd55 (v : Nat) (hv : v < 8) : Den Tryz.prog 55 [] [.int .i64 v] [] (RL (varL v)) := by
  have h24 := den24 1 (by decide)
  have h43 := den43
  unfold FL at h43
  rw [zeros_cn] at h43
  have hset := flat_set (rs := List.replicate 9 (cn 0)) (i := v) (by simp; omega) (cn ((1 : Int) : Rat)).neg (cn ((1 : Int) : Rat)).num (cn ((1 : Int) : Rat)).den
  have hcn : (⟨(cn ((1 : Int) : Rat)).neg, (cn ((1 : Int) : Rat)).num, (cn ((1 : Int) : Rat)).den⟩ : Raw) = cn ((1 : Int) : Rat) := rfl
  rw [hcn] at hset
  change _ = flat (varL v) at hset
  have hnl := varL_len v
  obtain ⟨y, hy⟩ : ∃ y, varL v = y := ⟨_, rfl⟩
  obtain ⟨z, hz⟩ : ∃ z, List.replicate 9 (cn 0) = z := ⟨_, rfl⟩
  have hzl : z.length = 9 := by rw [← hz]; simp
  obtain ⟨c, hc⟩ : ∃ c, cn ((1 : Int) : Rat) = c := ⟨_, rfl⟩
  rw [hy] at hset hnl ⊢
  rw [hz] at h43 hset
  have h24b : Den Tryz.prog 24 [] [.int .i64 1] [] c.v := by rw [← hc]; exact h24
  rw [hc] at hset
  unfold Raw.v at h24b
  unfold RL at h43 ⊢
  have gz := flat_length z
  have gy := flat_length y
  have gy27 := flat_take27 hnl
  have gz27 := flat_take27 hzl
  refine den_of tabOk mixed Tryz.func55 (cd := _) rfl (by decide) rfl (n := 9) rfl rfl (m := 0) rfl ?_
  simp (dsimp := false) (disch := omega) only [List.replicate, rules, tys]
  refine GoCall.pure h43 rfl ?_
  simp (dsimp := false) (disch := omega) only [flat_reloc, List.append_nil, gz, hzl, rules, tys, eq_self, Nat.reduceAdd, Nat.reduceMul, Nat.reduceLT, Nat.reduceLeDiff]
  repeat refine And.intro (by omega) ?_
  refine GoCall.pure h24b rfl ?_
  simp (dsimp := false) (disch := omega) only [List.append_nil, gz, hzl, hset, gy27, gy, hnl, Ap_end_ret, rules, tys, eq_self, ↓reduceIte, Nat.reduceAdd, Nat.reduceMul, Nat.reduceLT, Nat.reduceLeDiff]
  repeat refine And.intro (by omega) ?_
  exact RetOK.form rfl rfl hnl
theorem pd57 (l : List Raw) (h : LOk 1000000 l) : Den Tryz.prog 57 [] [RL l] [] (RL (negR l)) := by
  have h24 := den24 (-1) (by decide)
  have h46 := den46 l (cn ((-1 : Int) : Rat)) (h.mono (by decide)) (cn_ok (Bd.mono (show Bd 1 ((-1 : Int) : Rat) from ⟨by decide, by decide⟩) (by decide)))
  rw [cn_q] at h46
  change Den Tryz.prog 41 [] [RL l, (cn ((-1 : Int) : Rat)).v] [] (RL (negR l)) at h46
  have hll := h.len
  have hnl := negR_len hll
  obtain ⟨y, hy⟩ : ∃ y, negR l = y := ⟨_, rfl⟩
  obtain ⟨c, hc⟩ : ∃ c, cn ((-1 : Int) : Rat) = c := ⟨_, rfl⟩
  rw [hy] at h46 hnl ⊢
  have h24b : Den Tryz.prog 24 [] [.int .i64 (-1)] [] c.v := by rw [← hc]; exact h24
  rw [hc] at h46
  unfold Raw.v at h24b h46
  unfold RL at h46 ⊢
  have gl := flat_length l
  have gy := flat_length y
  have gy27 := flat_take27 hnl
  have gl27 := flat_take27 hll
  refine den_of tabOk mixed Tryz.func57 (cd := _) rfl (by decide) rfl (n := 5) rfl rfl (m := 0) rfl ?_
  simp (dsimp := false) (disch := omega) only [List.replicate, gl, hll, rules, tys, eq_self, Nat.reduceMul, Nat.reduceLT]
  repeat refine And.intro (by omega) ?_
  refine Draw.intro (by kernel_rfl) ?_
  simp (dsimp := false) (disch := omega) only [gl27, gl, hll, rules, tys, eq_self, ↓reduceIte, Nat.reduceMul, Nat.reduceLeDiff]
  repeat refine And.intro (by omega) ?_
  refine GoCall.pure h24b rfl ?_
  simp (dsimp := false) (disch := omega) only [List.append_nil, rules, Nat.reduceAdd]
  refine GoCall.pure h46 (by simp [fzAs, fzA, flat_fz, flatF_fv, fzs, fz0]) ?_
  simp (dsimp := false) (disch := omega) only [flat_ids, flat_reloc, List.append_nil, gy, hnl, Ap_end_ret, rules, tys, eq_self, Nat.reduceAdd, Nat.reduceMul, Nat.reduceLT, Nat.reduceLeDiff]
  repeat refine And.intro (by omega) ?_
  exact RetOK.form rfl rfl hnl

end Go.Proofs.YtddnnhlcpffbdaaGreat

namespace Go.AM

def Plain (res : PV) : Prop := ∀ (w w' : World) (X X' : Nat → Prop) (ρ ρ' : Places) (v : Value), PRd w X ρ v res → PRd w' X' ρ' v res
theorem Plain.lit (v : Value) : Plain (.fv (.lit v)) := fun w w' X X' ρ ρ' u h => by
  cases h with
  | fv _ _ hf => cases hf with
    | lit _ h1 => exact .fv _ _ (.lit _ h1)
theorem Plain.tup {vs : List PV} (h : ∀ x ∈ vs, Plain x) : Plain (.tup vs) := fun w w' X X' ρ ρ' u hu => by
  cases hu with
  | tup us _ hn hr => exact .tup us vs hn (fun i v c h1 h2 => h c (List.mem_of_getElem? h2) _ _ _ _ _ _ _ (hr i v c h1 h2))

theorem Den.lendF {P : Program} {k : FuncId} {xs : List (List FV)} {n s : Nat} {post : List PV} {res : PV} (h : Den P k [] (.fv (.sl xs) :: post) [] res) (hn : n = xs.length) (hp : Plain res) (hpost : ∀ x ∈ post, Plain x) :
    Den P k [.row true xs] (.lsl 0 0 n s :: post) [.row true xs] res := by
  subst hn
  refine ⟨h.1, fun c X ρ vs hh hM hvs => ?_⟩
  obtain ⟨X1, h1, hs1, hn1⟩ := hh.shutIds [0]
  let c2 : Ctx := { w0 := c.w0, M := fun _ => False, Xo := c.Xo, base := [], hxo := fun b hb => ⟨(c.hxo b hb).1, fun h => h⟩ }
  have hh2 : HRd c2 c.w0 X1 [] [] := ⟨rfl, by simp, by simp, by simp, h1.xo, h1.xlt, h1.ge, Places.Le.refl _⟩
  have hsz : 0 < vs.size := by rw [hvs.1]; simp
  have hv0 : vs[0]? = some vs[0] := by simp [hsz]
  have hrd0 := hvs.2 0 vs[0] (.lsl 0 0 xs.length s) hv0 rfl
  have hfr : FRd c.w0 X1 vs[0] (.sl xs) := by
    refine fz0_rd (H := [.row true xs]) hh (fun j o ho => ho) hrd0 (by simp [fz0]) hs1 (fun id hid p o g hp ho ha hg => hn1 id (by simpa [ids0] using hid) p o g hp ho ha hg)
  have hvs2 : PRds c.w0 X1 [] vs (.fv (.sl xs) :: post) := by
    refine ⟨by rw [hvs.1]; simp, fun i v x hv hx => ?_⟩
    cases i with
    | zero =>
      simp at hx; subst hx
      rw [hv0] at hv; cases hv
      exact .fv _ _ hfr
    | succ i =>
      have hx2 : post[i]? = some x := by simpa using hx
      exact hpost x (List.mem_of_getElem? hx2) _ _ _ _ _ _ _ (hvs.2 (i + 1) v x hv (by simpa using hx2))
  refine (h.2 c2 X1 [] vs hh2 (fun b hb => hb.elim) hvs2).mono (fun e w' hpost2 => ?_)
  obtain ⟨v, X', ρ', he, hk, hr, hpv, hle, hnew⟩ := hpost2
  have hblk : ∀ b, b < c.w0.heap.size → w'.heap[b]? = c.w0.heap[b]? := fun b hb => hk.block b hb (fun h => h)
  have hsame : Same X c.w0 w' := ⟨hk.size, fun b hb _ => hblk b hb⟩
  refine ⟨v, X, ρ, he, ⟨hk.os, hk.tape, hk.output, hk.size, fun b hb _ => hblk b hb⟩, ⟨hh.len, fun id p o h2 h3 => (hh.ob id p o h2 h3).keep hsame (fun _ _ h => h) (Places.Le.refl _) (fun _ g _ hg => ⟨hblk g hg, Iff.rfl⟩), hh.inj,
    fun id p o g h2 h3 h4 h5 => ⟨(hh.own id p o g h2 h3 h4 h5).1, Nat.lt_of_lt_of_le (hh.own id p o g h2 h3 h4 h5).2 hk.size⟩, hh.xo, fun b hb => Nat.lt_of_lt_of_le (hh.xlt b hb) hk.size, hk.size, hh.base⟩, hp _ _ _ _ _ _ _ hpv, Places.Le.refl _, fun id p h2 h3 => ?_⟩
  have := (List.getElem?_eq_some_iff.1 h3).1
  omega
theorem Weak.shut {m : Nat} {env : List PV} {H : List Ob} {st' : St} (ids : List Nat) (h2 : Weak m ⟨env, shutIds ids H⟩ st') : Weak m ⟨env, H⟩ st' := fun c a w hml h => h2 c a w hml (h.shut ids)
theorem Weak.fz {m : Nat} {env : List PV} {H : List Ob} {st' : St} (t id off len s : Nat) (xs : List (List FV)) (ht : env[t]? = some (.lsl id off len s)) (ho : H[id]? = some (.row false xs)) (hl : off + len ≤ xs.length)
    (h2 : Weak m ⟨env.set t (.fv (.sl ((xs.drop off).take len))), H⟩ st') : Weak m ⟨env, H⟩ st' := by
  intro c a w hml ⟨X, ρ, h, henv, hd, hkp⟩
  refine h2 c a w hml ⟨X, ρ, h, ⟨by rw [List.length_set]; exact henv.1, fun i v x hv hx => ?_⟩, hd, hkp⟩
  by_cases hi : t = i
  · subst hi
    rw [List.getElem?_set_self (List.getElem?_eq_some_iff.1 ht).1] at hx
    cases hx
    refine .fv _ _ (fz0_rd (H := H) h (fun j o h => h) (henv.2 t v _ hv ht) (by simp [fz0, ho, hl]) (fun b h => h) (fun id2 hid p o g hp ho2 ha hg => ?_))
    simp only [ids0, List.mem_singleton] at hid
    subst hid
    rw [ho] at ho2
    cases ho2
    have := (h.ob id2 p _ hp ho).2 g hg
    exact fun hx => by have := this.2 hx; cases this
  · rw [List.getElem?_set_ne hi] at hx
    exact henv.2 i v x hv hx
theorem shB1 {H : List Ob} {id off n s : Nat} : shutBs H id [.lsl id off n s] = H := by simp [shutBs, idsB, shutIds]
theorem lentB_lsl {H : List Ob} {id off n s : Nat} : fzBs H id [.lsl id off n s] = some [.lsl 0 off n s] := by simp [fzBs, fzB]
theorem set_here : ∀ {α : Type} {l : List α} {i : Nat} {x : α}, l[i]? = some x → l.set i x = l
  | _, [], _, _, h => by simp at h
  | _, a :: l, 0, x, h => by simp at h; subst h; rfl
  | _, a :: l, i + 1, x, h => by simp only [List.set_cons_succ]; rw [set_here (by simpa using h)]
theorem GoCall.show {P : Program} {env : List PV} {H : List Ob} {K : PV → List Ob → Prop} {k : FuncId} {id n s : Nat} {xs : List (List FV)} {res : PV} {t : Tok _} (hd : Den P k [] [.fv (.sl xs)] [] res) (hp : Plain res) (hn : n = xs.length)
    (ho : H[id]? = some (.row true xs)) (hk : K (reloc (lent id H.length) res) H) : GoCall P ⟨env, H⟩ (some (k, [], [])) [.lsl id 0 n s] K t := by
  refine GoCall.lend id (hd.lendF (s := s) hn hp (by simp)) ho rfl trivial (by simp [PV.refsTo]) (by simpa using lentB_lsl) ?_ ?_
  · simp only [List.nil_append, List.append_nil]
    rw [shB1]; exact ho
  · simp only [List.nil_append, List.append_nil, List.map_nil]
    rw [shB1]
    have : H.set id (relocOb (lent id H.length) (.row true xs)) = H := set_here (by simpa [relocOb] using ho)
    rw [this]
    exact hk
end Go.AM

namespace Go.Pl
open Go.AM

def del (s : List (List Raw)) (i : Nat) : List (List Raw) := s.take i ++ s.drop (i + 1)
theorem del_sub {s : List (List Raw)} {i : Nat} : (del s i).Sublist s := by
  unfold del
  have h := List.take_append_drop i s
  conv => rhs; rw [← h]
  refine List.Sublist.append (List.Sublist.refl _) ?_
  rw [← List.drop_drop]
  exact List.drop_sublist _ _
theorem del_len {s : List (List Raw)} {i : Nat} (h : i < s.length) : (del s i).length + 1 = s.length := by
  unfold del; rw [List.length_append, List.length_take, List.length_drop]; omega
theorem del_mem {s : List (List Raw)} {i : Nat} {l : List Raw} (h : l ∈ del s i) : l ∈ s := del_sub.subset h
theorem mem_del {s : List (List Raw)} {i : Nat} (hi : i < s.length) {l : List Raw} (h : l ∈ s) : l ∈ del s i ∨ l = s.getD i [] := by
  have h2 := List.take_append_drop i s
  rw [← h2, List.mem_append] at h
  unfold del
  rw [List.mem_append]
  rcases h with h | h
  · exact .inl (.inl h)
  · rw [List.drop_eq_getElem_cons hi] at h
    rcases List.mem_cons.1 h with h | h
    · right; rw [h, List.getD_eq_getElem?_getD, List.getElem?_eq_getElem hi]; rfl
    · exact .inl (.inr h)
def GoodT (s : List (List Raw)) : Prop := ∃ k, 1 ≤ k ∧ SysF k s ∧ Sz (k + 1) s
theorem Sz.mono {j k : Nat} {s : List (List Raw)} (h : Sz k s) (hk : j ≤ k) : Sz j s := ⟨h.n3, fun h3 => by have := h.c3 h3; omega, fun h2 => by have := h.c2 h2; omega, fun h1 => by have := h.c1 h1; omega⟩
theorem Sz.sub {k : Nat} {s t : List (List Raw)} (h : Sz k s) (hl : t.length ≤ s.length) (hn : nvars t ≤ nvars s) : Sz k t := by
  have h3 := h.n3
  have c3 := h.c3
  have c2 := h.c2
  have c1 := h.c1
  refine ⟨by omega, fun h => ?_, fun h => ?_, fun h => ?_⟩
  · have := c3 (by omega); omega
  · have : nvars s = 2 ∨ nvars s = 3 := by omega
    rcases this with h5 | h5
    · have := c2 h5; omega
    · have := c3 h5; omega
  · have : nvars s = 1 ∨ nvars s = 2 ∨ nvars s = 3 := by omega
    rcases this with h5 | h5 | h5
    · have := c1 h5; omega
    · have := c2 h5; omega
    · have := c3 h5; omega
theorem nvars_sub {s t : List (List Raw)} (h : ∀ l ∈ t, l ∈ s) : nvars t ≤ nvars s := nvars_le (fun w _ ho => by
  obtain ⟨l, hl, h0⟩ := occ_iff.1 ho
  exact occ_iff.2 ⟨l, h l hl, h0⟩)
theorem GoodT.good {s : List (List Raw)} (h : GoodT s) : GoodS s := by
  obtain ⟨k, hk, hs, hz⟩ := h
  exact ⟨k, hk, hs, hz.mono (by omega)⟩
theorem GoodT.sub {s t : List (List Raw)} (h : GoodT s) (ht : t.Sublist s) : GoodT t := by
  obtain ⟨k, hk, hs, hz⟩ := h
  exact ⟨k, hk, ⟨hs.sorted.sublist ht, fun l hl => hs.ok l (ht.subset hl), fun l hl => hs.nc l (ht.subset hl), fun l hl => hs.nm l (ht.subset hl)⟩, hz.sub ht.length_le (nvars_sub (fun l hl => ht.subset hl))⟩
theorem GoodT.step {s : List (List Raw)} {v : Nat} (hv : v < 8) (h : GoodT s) : GoodT (stepL s v) := by
  obtain ⟨k, hk, hs, hz⟩ := h
  cases ho : occ s v with
  | false =>
    rw [step_same hs ho (stepL_is v hs)]
    exact ⟨k, hk, hs, hz⟩
  | true =>
    have h2 := (step_sz hv (hs.mono (Nat.le_succ k)) hz ho (stepL_is v hs)).1
    exact ⟨8 * k + 8, by omega, step_ok hk hs (stepL_is v hs), h2.mono (by omega)⟩
theorem leadL_neg (l : List Raw) : (leadL (negR l)).q = -(leadL l).q := by
  have h := lead_map2 (C := -1) (by decide) (rs := l)
  have e : (l.map (fun r => r.q / (-1))) = l.map (fun r => r.q * ((-1 : Int) : Rat)) := List.map_congr_left (fun r _ => by
    have : ((-1 : Int) : Rat) = -1 := rfl
    rw [this]; grind)
  rw [e] at h
  show (leadL (((l.map (fun r => r.q * ((-1 : Int) : Rat))).map cn))).q = _
  rw [h]; grind
theorem absq_neg (c : Rat) : absq (-c) = absq c := by
  unfold absq
  have h1 : (-c).num < 0 ↔ -c < 0 := num_neg_iff
  have h2 : c.num < 0 ↔ c < 0 := num_neg_iff
  split <;> split <;> grind
theorem negR_cn (l : List Raw) (h : l.length = 9) : IsCn (negR l) := ⟨l.map (fun r => r.q * ((-1 : Int) : Rat)), rfl, by simp [h]⟩
theorem cn_ext {f g : List Raw} (hf : IsCn f) (hg : IsCn g) (h : ∀ i, i < 9 → co f i = co g i) : f = g := by
  have lf := hf.len
  have lg := hg.len
  obtain ⟨p, rfl, hp⟩ := hf
  obtain ⟨q, rfl, hq⟩ := hg
  congr 1
  apply List.ext_getElem (by omega)
  intro i h1 h2
  have := h i (by omega)
  unfold co at this
  rw [List.getD_eq_getElem?_getD, List.getElem?_eq_getElem (by simpa using h1), List.getD_eq_getElem?_getD, List.getElem?_eq_getElem (by simpa using h2)] at this
  simp only [Option.getD_some, List.getElem_map, cn_q] at this
  exact this
theorem nrmR_neg {l : List Raw} (h9 : l.length = 9) (hc : ¬ IsConst l) : nrmR (negR l) = negR (nrmR l) := by
  have hn9 := negR_len h9
  have h0 := lead_ne h9 hc
  have e := leadL_neg l
  have h0' : (leadL (negR l)).q ≠ 0 := by rw [e]; grind
  refine cn_ext (nrmR_cn hn9) (negR_cn _ (nrmR_len h9)) (fun i hi => ?_)
  rw [nrmR_at hn9 h0' hi, negR_at h9 hi, negR_at (nrmR_len h9) hi, nrmR_at h9 h0 hi, e, absq_neg]
  grind
theorem neg_nc {l : List Raw} (h9 : l.length = 9) (hc : ¬ IsConst l) : ¬ IsConst (negR l) := fun h => hc (fun i hi => by
  have := h i hi
  rw [negR_at h9 (by omega)] at this
  grind)
theorem GoodT.turn {s t : List (List Raw)} (h : GoodT s) (ht : ∀ l ∈ t, l ∈ s) {x : List Raw} (hx : x ∈ s) (hl : t.length + 1 ≤ s.length) : GoodS (sysL (t ++ [negR x]) []) ∧ Pre (t ++ [negR x]) := by
  have hlen := h.good.len
  have hlim := h.good.lim
  have hcn := h.good.cnf
  obtain ⟨k, hk, hs, hz⟩ := h
  have h9 : ∀ l ∈ s, l.length = 9 := fun l hl => (hs.ok l hl).len
  have h9t : ∀ l ∈ t ++ [negR x], l.length = 9 := fun l hl => by
    rcases List.mem_append.1 hl with h1 | h1
    · exact h9 l (ht l h1)
    · rw [List.mem_singleton.1 h1]; exact negR_len (h9 x hx)
  have hnc : ∀ l ∈ t ++ [negR x], ¬ IsConst l := fun l hl => by
    rcases List.mem_append.1 hl with h1 | h1
    · exact hs.nc l (ht l h1)
    · rw [List.mem_singleton.1 h1]; exact neg_nc (h9 x hx) (hs.nc x hx)
  have his := sysL_is h9t
  have hok : ∀ l ∈ t ++ [negR x], ¬ IsConst l → LOk (k + 1) (nrmR l) := fun l hl _ => by
    rcases List.mem_append.1 hl with h1 | h1
    · rw [hs.nm l (ht l h1)]; exact (hs.ok l (ht l h1)).mono (by omega)
    · rw [List.mem_singleton.1 h1, nrmR_neg (h9 x hx) (hs.nc x hx), hs.nm x hx]
      exact negR_ok (hs.ok x hx) hk
  have hnv : nvars (sysL (t ++ [negR x]) []) ≤ nvars s := by
    rw [sys_nvars h9t his]
    refine nvars_le (fun w hw ho => ?_)
    obtain ⟨l, hl, h0⟩ := occ_iff.1 ho
    rcases List.mem_append.1 hl with h1 | h1
    · exact occ_iff.2 ⟨l, ht l h1, h0⟩
    · rw [List.mem_singleton.1 h1, negR_at (h9 x hx) (by omega)] at h0
      exact occ_iff.2 ⟨x, hx, fun h2 => h0 (by rw [h2]; rfl)⟩
  have hln := sys_length h9t his
  have hle := ncs_le (t ++ [negR x])
  rw [List.length_append, List.length_singleton] at hle
  have hg : GoodS (sysL (t ++ [negR x]) []) := ⟨k + 1, by omega, SysF.of h9t his hok, hz.sub (by omega) hnv⟩
  refine ⟨hg, ?_, hnc, ?_, ?_, hg⟩
  · intro l hl
    rcases List.mem_append.1 hl with h1 | h1
    · exact hcn l (ht l h1)
    · rw [List.mem_singleton.1 h1]; exact negR_cn x (h9 x hx)
  · have hzk : k + 1 ≤ 1000 := (hz.all (occ_pos hx (hs.nc x hx))).2
    intro l hl
    rcases List.mem_append.1 hl with h1 | h1
    · exact hlim l (ht l h1)
    · rw [List.mem_singleton.1 h1]; exact (negR_ok (hs.ok x hx) hk).mono hzk
  · rw [List.length_append, List.length_singleton]; omega
noncomputable def redB (s : List (List Raw)) (i : Nat) : Bool := feasB (sysL (del s i ++ [negR (s.getD i [])]) [])
noncomputable def canL : Nat → Nat → List (List Raw) → List (List Raw)
  | 0, _, s => s
  | n + 1, i, s => if i < s.length then (if redB s i then canL n (i + 1) s else canL n i (del s i)) else s
noncomputable def canonP (cs : List (List Raw)) : List (List Raw) := if innerB cs then canL (sysL cs []).length 0 (sysL cs []) else [numL ((-1 : Int) : Rat)]
theorem canL_sub : ∀ (n i : Nat) (s : List (List Raw)), (canL n i s).Sublist s
  | 0, _, s => List.Sublist.refl s
  | n + 1, i, s => by
    unfold canL
    split
    · split
      · exact canL_sub n (i + 1) s
      · exact (canL_sub n i (del s i)).trans del_sub
    · exact List.Sublist.refl s
theorem turn_viol {t : List (List Raw)} (h : ∀ l ∈ t, ¬ IsConst l) : ¬ Viol t := fun ⟨l, hl, hc, _⟩ => h l hl hc
theorem inner_nc {t : List (List Raw)} (h9 : ∀ l ∈ t, l.length = 9) (h : ∀ l ∈ t, ¬ IsConst l) : innerB t = feasB (sysL t []) := by
  unfold innerB
  have : violB t = false := by
    cases hv : violB t with
    | false => rfl
    | true => exact absurd ((violB_iff h9).1 hv) (turn_viol h)
  rw [this]; rfl
theorem goodT_of {cs : List (List Raw)} {k d : Nat} (h9 : ∀ l ∈ cs, l.length = 9) (hk : ∀ l ∈ cs, ¬ IsConst l → LOk k (nrmR l)) (hk1 : 1 ≤ k) (hk13 : k ≤ 13) (hd : Dim d cs) (hl : (d = 3 ∧ (ncs cs).length ≤ 5) ∨ (d = 2 ∧ (ncs cs).length ≤ 7)) : GoodT (sysL cs []) := by
  have his := sysL_is h9
  have h1 := sys_nvars h9 his
  have h2 := nvars_dim hd
  have h3 := sys_length h9 his
  refine ⟨k, hk1, SysF.of h9 his hk, ⟨by omega, fun h => by omega, fun h => ?_, fun h => ?_⟩⟩
  · omega
  · omega
structure CsT (ds : List (List Raw)) : Prop where
  cs : CsOk ds
  good : GoodT (sysL ds [])
end Go.Pl

namespace Go.Proofs.YtddnnhlcpffbdaaGreat
open Go.AM Go.Pl
set_option maxRecDepth 100000
set_option maxHeartbeats 4000000

theorem rows_27 {ls : List (List Raw)} (h : ∀ l ∈ ls, l.length = 9) : (∀ y, y ∈ rowsF ls → y.length = 27) = True := by
  refine eq_true (fun y hy => ?_)
  obtain ⟨l, hl, rfl⟩ := List.mem_map.1 hy
  rw [flatF_length, h l hl]
theorem pd78 (ls : List (List Raw)) (h9 : ∀ l ∈ ls, l.length = 9) (hn : ls.length ≤ 1000) : Den Tryz.prog 78 [] [.fv (.sl (rowsF ls))] [.row true (rowsF ls)] (.lsl 0 0 ls.length 27) := by
  cases ls with
  | nil =>
    show Den Tryz.prog 78 [] ([] ++ .fv (.sl []) :: []) [.row true []] (.lsl 0 0 0 27)
    refine Den.empty' ?_ (fun b o cap => ?_)
    · show Den Tryz.prog 78 [] [.nilsl] [.row true []] (.lsl 0 0 0 27)
      refine den_nil tabOk mixed Tryz.func78 (cd := _) rfl (by decide) rfl (n := 7) rfl rfl ?_ 27 (by decide)
      simp (dsimp := false) (disch := omega) only [List.replicate, Ap_endN_ret, rules, tys, eq_self, ↓reduceIte]
      exact ⟨_, rfl, trivial, trivial⟩
    · show Den Tryz.prog 78 [] [.fv (.lit (.slice (some ⟨b, o, none⟩) 0 cap))] [.row true []] (.lsl 0 0 0 27)
      refine den_of tabOk mixed Tryz.func78 (cd := _) rfl (by decide) rfl (n := 7) rfl rfl (m := 0) rfl ?_
      simp (dsimp := false) (disch := omega) only [List.replicate, Ap_end_ret, Option.isNone_some, rules, tys, eq_self, ↓reduceIte, Nat.reduceMul, Nat.reduceLT, Nat.reduceLeDiff]
      exact RetOK.own rfl ⟨trivial, trivial⟩ rfl
  | cons a t =>
    have h27 := rows_27 h9
    have rl := rowsF_length (a :: t)
    have e : rowsF (a :: t) = flatF a :: rowsF t := rfl
    rw [e] at h27 rl ⊢
    obtain ⟨n, hnn⟩ : ∃ n, (a :: t).length = n := ⟨_, rfl⟩
    rw [hnn] at rl hn ⊢
    obtain ⟨us, hus⟩ : ∃ us, flatF a :: rowsF t = us := ⟨_, rfl⟩
    have hul : us.length = n := by rw [← hus]; exact rl
    refine den_of tabOk mixed Tryz.func78 (cd := _) rfl (by decide) rfl (n := 7) rfl rfl (m := 0) rfl ?_
    simp (dsimp := false) (disch := omega) only [List.replicate, Ap_end_ret, rules, tys, eq_self, ↓reduceIte, Nat.reduceLT, Nat.reduceLeDiff]
    rw [hus] at h27 ⊢
    have hl3 : (rowsF t).length + 1 = n := by simpa using rl
    simp (dsimp := false) (disch := omega) only [h27, hl3, rules]
    refine ⟨⟨by omega, by omega⟩, ?_⟩
    exact RetOK.own rfl ⟨trivial, trivial⟩ rfl

theorem rows_take (ls : List (List Raw)) (i : Nat) : List.take i (rowsF ls) = rowsF (ls.take i) := by simp [rowsF]
theorem rows_drop (ls : List (List Raw)) (i : Nat) : List.drop i (rowsF ls) = rowsF (ls.drop i) := by simp [rowsF]
theorem rows_del (ls : List (List Raw)) (i : Nat) : rowsF (ls.take i) ++ rowsF (ls.drop (i + 1)) = rowsF (del ls i) := by simp [rowsF, del]
theorem pd114 (ls : List (List Raw)) (i : Nat) (hi : i < ls.length) (hn : ls.length ≤ 1000) :
    Den Tryz.prog 114 [.row true (rowsF ls)] [.lsl 0 0 ls.length 27, .int .i64 i, .int .i64 ((i : Int) + 1)] [.row true (rowsF (del ls i))] (.lsl 0 0 (ls.length - 1) 27) := by
  obtain ⟨n, hnn⟩ : ∃ n, ls.length = n := ⟨_, rfl⟩
  have rl := rowsF_length ls
  rw [hnn] at rl hi hn ⊢
  have e1 : ((i : Int) + 1).toNat = i + 1 := by omega
  have e2 : ((i : Int) == (i : Int) + 1) = false := by rw [beq_eq_false_iff_ne]; omega
  have e3 : i + (n - (i + 1)) = n - 1 := by omega
  have t1 := rows_take ls i
  have d1 := rows_drop ls (i + 1)
  have dl : (rowsF (ls.drop (i + 1))).length = n - (i + 1) := by rw [rowsF_length, List.length_drop, hnn]
  have t2 : List.take (n - (i + 1)) (rowsF (ls.drop (i + 1))) = rowsF (ls.drop (i + 1)) := List.take_of_length_le (by omega)
  have dd := rows_del ls i
  have ddl : (rowsF (del ls i)).length = n - 1 := by rw [rowsF_length]; have := del_len (s := ls) (i := i) (by omega); omega
  obtain ⟨Z, hZ⟩ : ∃ Z, List.drop (n - 1) (rowsF ls) = Z := ⟨_, rfl⟩
  have Zl : Z.length = 1 := by rw [← hZ, List.length_drop, rl]; omega
  obtain ⟨D, hD⟩ : ∃ D, rowsF (del ls i) = D := ⟨_, rfl⟩
  rw [hD] at dd ddl ⊢
  have hWl : (D ++ Z).length = n := by rw [List.length_append, ddl, Zl]; omega
  have hWt : List.take (n - 1) (D ++ Z) = D := List.take_left' ddl
  refine den_of tabOk mixed Tryz.func114 (cd := _) rfl (by decide) rfl (n := 30) rfl rfl (m := 1) rfl ?_
  simp (dsimp := false) (disch := omega) only [List.replicate, e1, rules, tys, eq_self, ↓reduceIte]
  repeat refine And.intro (by omega) ?_
  simp (dsimp := false) (disch := omega) only [e2, rules, tys]
  refine Draw.intro (by kernel_rfl) ?_
  simp (dsimp := false) (disch := omega) only [Nat.sub_zero, e1, t1, d1, t2, dl, dd, e3, hZ, rl, Ap_end_ret, rules, tys, eq_self, ↓reduceIte, Nat.reduceBEq, Nat.reduceLT]
  repeat refine And.intro (by omega) ?_
  simp (dsimp := false) (disch := omega) only [hWt]
  repeat refine And.intro (by omega) ?_
  exact RetOK.lentB rfl ⟨trivial, trivial⟩ rfl trivial rfl rfl rfl
end Go.Proofs.YtddnnhlcpffbdaaGreat

namespace Go.Proofs.YtddnnhlcpffbdaaGreat
open Go.AM Go.Pl
set_option maxRecDepth 100000
set_option maxHeartbeats 4000000

abbrev cmpRV : PV := .fv (.lit (.func (.func 49) #[] #[]))

theorem pd48 (a : Rat) (l : List Rat) (hb : ∀ q ∈ a :: l, Bd 10000 q) (hn : l.length ≤ 1000) : Den Tryz.prog 48 [] [.fv (.sl (rats (a :: l))), cmpRV] [] (FR (maxL a l)) := by
  obtain ⟨M, hM⟩ : ∃ M, maxL a l = M := ⟨_, rfl⟩
  rw [hM]
  obtain ⟨ps, hps⟩ : ∃ ps, a :: l = ps := ⟨_, rfl⟩
  obtain ⟨n, hnn⟩ : ∃ n, ps.length = n := ⟨_, rfl⟩
  have hn1 : 1 ≤ n := by rw [← hnn, ← hps]; simp
  have hn2 : n ≤ 1001 := by rw [← hnn, ← hps]; simp; omega
  have rl := rats_length ps
  rw [hnn] at rl
  have hr0 := rats_getD (ps := ps) (i := 0) (by omega)
  have h0 : ps.getD 0 0 = a := by rw [← hps]; rfl
  rw [h0] at hr0
  have hd1 : ps.drop 1 = l := by rw [← hps]; rfl
  rw [hps] at hb ⊢
  have hba : Bd 10000 a := hb a (by rw [← hps]; simp)
  have hl3 : ∀ p : Raw, (p.f).length = 3 := fun p => rfl
  obtain ⟨ca, hca⟩ : ∃ t, cn a = t := ⟨_, rfl⟩
  rw [hca] at hr0
  have e1 : decide ((n : Int) < 1) = false := decide_eq_false (by omega)
  have hl30 : ([FV.lit (Value.bool ca.neg), FV.sl (u32s ca.num), FV.sl (u32s ca.den)] : List FV).length = 3 := rfl
  refine den_of tabOk mixed Tryz.func48 (cd := _) rfl (by decide) rfl (n := 31) rfl rfl (m := 0) rfl ?_
  simp (dsimp := false) (disch := omega) only [List.replicate, rl, e1, Int.reduceToNat, rules, tys, eq_self, ↓reduceIte, Nat.reduceAdd, Nat.reduceLT]
  simp (dsimp := false) (disch := omega) only [List.append_nil, hr0, hl30, rules, eq_self, Nat.reduceAdd, Nat.reduceLeDiff]
  repeat refine And.intro (by omega) ?_
  refine WA.loop (α := Nat × Rat) (fun ⟨i, m⟩ => ⟨[.fv (.sl (rats ps)), cmpRV, .any, .any, .ptr 0 0 0, .ptr 1 0 0, .int .i64 i] ++ List.replicate 26 .any, [.box true [.bool false, .nilsl, .nilsl], .box true [.bool (cn m).neg, .fv (.sl (u32s (cn m).num)), .fv (.sl (u32s (cn m).den))]]⟩)
    (fun ⟨i, _⟩ => n - i) (fun ⟨i, m⟩ => 1 ≤ i ∧ i ≤ n ∧ maxL m (ps.drop i) = M ∧ Bd 10000 m) (1, a) ?_ ?_ ?_
  · refine Weak.keep [0, 1] (by simp) rfl ?_ ?_
    · simp [leVs, leV, le1]
    · rw [hca]; simp [leH, leO, le1s, le1]
  · exact ⟨Nat.le_refl _, hn1, by rw [hd1]; exact hM, hba⟩
  · rintro ⟨i, m⟩ ⟨hi1, hi2, hm, hbm⟩
    obtain ⟨e0, he0⟩ : ∃ t, cn m = t := ⟨_, rfl⟩
    dsimp only
    rw [he0]
    simp (dsimp := false) (disch := omega) only [List.replicate, rl, rules, tys, eq_self, ↓reduceIte]
    refine Br.dec ?_ ?_
    · intro h1 h2
      have hi3 : i < ps.length := by omega
      have hrow := rats_getD (ps := ps) (i := i) hi3
      have hdr : ps.drop i = ps.getD i 0 :: ps.drop (i + 1) := by
        rw [List.drop_eq_getElem_cons hi3, List.getD_eq_getElem?_getD, List.getElem?_eq_getElem hi3]; rfl
      have hqb : Bd 10000 (ps.getD i 0) := by
        rw [List.getD_eq_getElem?_getD, List.getElem?_eq_getElem hi3]
        exact hb _ (List.getElem_mem _)
      obtain ⟨q, hq⟩ : ∃ t, ps.getD i 0 = t := ⟨_, rfl⟩
      rw [hq] at hrow hdr hqb
      rw [hdr] at hm
      have h52 := den52 (cn q) (cn m) (Raw.Ok.mono (cn_ok hqb) (by decide)) (Raw.Ok.mono (cn_ok hbm) (by decide))
      rw [cn_q, cn_q, he0] at h52
      obtain ⟨p, hpp⟩ : ∃ t, cn q = t := ⟨_, rfl⟩
      rw [hpp] at hrow h52
      unfold Raw.v at h52
      have hl3 : ([FV.lit (Value.bool p.neg), FV.sl (u32s p.num), FV.sl (u32s p.den)] : List FV).length = 3 := rfl
      unfold maxL at hm
      simp (dsimp := false) (disch := omega) only [h2, rules]
      repeat refine And.intro (by omega) ?_
      refine Draw.intro (by kernel_rfl) ?_
      simp (dsimp := false) (disch := omega) only [hrow, hl3, rl, rules, tys, eq_self, ↓reduceIte, Nat.reduceAdd, Nat.reduceLT, Nat.reduceLeDiff]
      repeat refine And.intro (by omega) ?_
      refine GoCall.pure h52 rfl ?_
      simp (dsimp := false) (disch := omega) only [List.append_nil, rules, tys, eq_self, ↓reduceIte, Nat.reduceAdd]
      refine Br.dec ?_ ?_
      · intro h3 h4
        rw [if_pos (by omega)] at hm
        simp (dsimp := false) (disch := omega) only [List.append_nil, h4, hrow, hl3, rl, wrap64, rules, tys, eq_self, ↓reduceIte, Nat.reduceAdd, Nat.reduceLT, Nat.reduceLeDiff]
        repeat refine And.intro (by omega) ?_
        refine Ap_loop (i + 1, q) (by dsimp only; omega) ?_ ⟨by omega, by omega, hm, hqb⟩
        refine Weak.keep [0, 1] (by simp) rfl ?_ ?_
        · simp [leVs, leV, le1]
        · rw [hpp]; simp [leH, leO, le1s, le1]
      · intro h3 h4
        rw [if_neg (by omega)] at hm
        simp (dsimp := false) (disch := omega) only [h4, wrap64, rules, tys, eq_self, ↓reduceIte]
        refine Ap_loop (i + 1, m) (by dsimp only; omega) ?_ ⟨by omega, by omega, hm, hbm⟩
        refine Weak.keep [0, 1] (by simp) rfl ?_ ?_
        · simp [leVs, leV, le1]
        · rw [he0]; simp [leH, leO, le1s, le1]
    · intro h1 h2
      have hin : i = n := by omega
      have hnil : ps.drop i = [] := List.drop_of_length_le (by omega)
      rw [hnil] at hm
      have hmM : m = M := hm
      simp (dsimp := false) (disch := omega) only [List.append_nil, h2, Ap_end_ret, rules, tys, eq_self, ↓reduceIte, Nat.reduceAdd, Nat.reduceBEq, Nat.reduceLT, Nat.reduceLeDiff]
      repeat refine And.intro (by omega) ?_
      rw [← hmM]
      unfold FR Raw.v
      rw [he0]
      exact RetOK.pure rfl ⟨⟨rfl, Nat.le_refl 3⟩, trivial⟩ rfl

theorem pd50 (a : Rat) (l : List Rat) (hb : ∀ q ∈ a :: l, Bd 10000 q) (hn : l.length ≤ 1000) : Den Tryz.prog 50 [] [.fv (.sl (rats (a :: l))), cmpRV] [] (FR (minL a l)) := by
  obtain ⟨M, hM⟩ : ∃ M, minL a l = M := ⟨_, rfl⟩
  rw [hM]
  obtain ⟨ps, hps⟩ : ∃ ps, a :: l = ps := ⟨_, rfl⟩
  obtain ⟨n, hnn⟩ : ∃ n, ps.length = n := ⟨_, rfl⟩
  have hn1 : 1 ≤ n := by rw [← hnn, ← hps]; simp
  have hn2 : n ≤ 1001 := by rw [← hnn, ← hps]; simp; omega
  have rl := rats_length ps
  rw [hnn] at rl
  have hr0 := rats_getD (ps := ps) (i := 0) (by omega)
  have h0 : ps.getD 0 0 = a := by rw [← hps]; rfl
  rw [h0] at hr0
  have hd1 : ps.drop 1 = l := by rw [← hps]; rfl
  rw [hps] at hb ⊢
  have hba : Bd 10000 a := hb a (by rw [← hps]; simp)
  have hl3 : ∀ p : Raw, (p.f).length = 3 := fun p => rfl
  obtain ⟨ca, hca⟩ : ∃ t, cn a = t := ⟨_, rfl⟩
  rw [hca] at hr0
  have e1 : decide ((n : Int) < 1) = false := decide_eq_false (by omega)
  have hl30 : ([FV.lit (Value.bool ca.neg), FV.sl (u32s ca.num), FV.sl (u32s ca.den)] : List FV).length = 3 := rfl
  refine den_of tabOk mixed Tryz.func50 (cd := _) rfl (by decide) rfl (n := 31) rfl rfl (m := 0) rfl ?_
  simp (dsimp := false) (disch := omega) only [List.replicate, rl, e1, Int.reduceToNat, rules, tys, eq_self, ↓reduceIte, Nat.reduceAdd, Nat.reduceLT]
  simp (dsimp := false) (disch := omega) only [List.append_nil, hr0, hl30, rules, eq_self, Nat.reduceAdd, Nat.reduceLeDiff]
  repeat refine And.intro (by omega) ?_
  refine WA.loop (α := Nat × Rat) (fun ⟨i, m⟩ => ⟨[.fv (.sl (rats ps)), cmpRV, .any, .any, .ptr 0 0 0, .ptr 1 0 0, .int .i64 i] ++ List.replicate 26 .any, [.box true [.bool false, .nilsl, .nilsl], .box true [.bool (cn m).neg, .fv (.sl (u32s (cn m).num)), .fv (.sl (u32s (cn m).den))]]⟩)
    (fun ⟨i, _⟩ => n - i) (fun ⟨i, m⟩ => 1 ≤ i ∧ i ≤ n ∧ minL m (ps.drop i) = M ∧ Bd 10000 m) (1, a) ?_ ?_ ?_
  · refine Weak.keep [0, 1] (by simp) rfl ?_ ?_
    · simp [leVs, leV, le1]
    · rw [hca]; simp [leH, leO, le1s, le1]
  · exact ⟨Nat.le_refl _, hn1, by rw [hd1]; exact hM, hba⟩
  · rintro ⟨i, m⟩ ⟨hi1, hi2, hm, hbm⟩
    obtain ⟨e0, he0⟩ : ∃ t, cn m = t := ⟨_, rfl⟩
    dsimp only
    rw [he0]
    simp (dsimp := false) (disch := omega) only [List.replicate, rl, rules, tys, eq_self, ↓reduceIte]
    refine Br.dec ?_ ?_
    · intro h1 h2
      have hi3 : i < ps.length := by omega
      have hrow := rats_getD (ps := ps) (i := i) hi3
      have hdr : ps.drop i = ps.getD i 0 :: ps.drop (i + 1) := by
        rw [List.drop_eq_getElem_cons hi3, List.getD_eq_getElem?_getD, List.getElem?_eq_getElem hi3]; rfl
      have hqb : Bd 10000 (ps.getD i 0) := by
        rw [List.getD_eq_getElem?_getD, List.getElem?_eq_getElem hi3]
        exact hb _ (List.getElem_mem _)
      obtain ⟨q, hq⟩ : ∃ t, ps.getD i 0 = t := ⟨_, rfl⟩
      rw [hq] at hrow hdr hqb
      rw [hdr] at hm
      have h52 := den52 (cn q) (cn m) (Raw.Ok.mono (cn_ok hqb) (by decide)) (Raw.Ok.mono (cn_ok hbm) (by decide))
      rw [cn_q, cn_q, he0] at h52
      obtain ⟨p, hpp⟩ : ∃ t, cn q = t := ⟨_, rfl⟩
      rw [hpp] at hrow h52
      unfold Raw.v at h52
      have hl3 : ([FV.lit (Value.bool p.neg), FV.sl (u32s p.num), FV.sl (u32s p.den)] : List FV).length = 3 := rfl
      unfold minL at hm
      simp (dsimp := false) (disch := omega) only [h2, rules]
      repeat refine And.intro (by omega) ?_
      refine Draw.intro (by kernel_rfl) ?_
      simp (dsimp := false) (disch := omega) only [hrow, hl3, rl, rules, tys, eq_self, ↓reduceIte, Nat.reduceAdd, Nat.reduceLT, Nat.reduceLeDiff]
      repeat refine And.intro (by omega) ?_
      refine GoCall.pure h52 rfl ?_
      simp (dsimp := false) (disch := omega) only [List.append_nil, rules, tys, eq_self, ↓reduceIte, Nat.reduceAdd]
      refine Br.dec ?_ ?_
      · intro h3 h4
        rw [if_pos (by omega)] at hm
        simp (dsimp := false) (disch := omega) only [List.append_nil, h4, hrow, hl3, rl, wrap64, rules, tys, eq_self, ↓reduceIte, Nat.reduceAdd, Nat.reduceLT, Nat.reduceLeDiff]
        repeat refine And.intro (by omega) ?_
        refine Ap_loop (i + 1, q) (by dsimp only; omega) ?_ ⟨by omega, by omega, hm, hqb⟩
        refine Weak.keep [0, 1] (by simp) rfl ?_ ?_
        · simp [leVs, leV, le1]
        · rw [hpp]; simp [leH, leO, le1s, le1]
      · intro h3 h4
        rw [if_neg (by omega)] at hm
        simp (dsimp := false) (disch := omega) only [h4, wrap64, rules, tys, eq_self, ↓reduceIte]
        refine Ap_loop (i + 1, m) (by dsimp only; omega) ?_ ⟨by omega, by omega, hm, hbm⟩
        refine Weak.keep [0, 1] (by simp) rfl ?_ ?_
        · simp [leVs, leV, le1]
        · rw [he0]; simp [leH, leO, le1s, le1]
    · intro h1 h2
      have hin : i = n := by omega
      have hnil : ps.drop i = [] := List.drop_of_length_le (by omega)
      rw [hnil] at hm
      have hmM : m = M := hm
      simp (dsimp := false) (disch := omega) only [List.append_nil, h2, Ap_end_ret, rules, tys, eq_self, ↓reduceIte, Nat.reduceAdd, Nat.reduceBEq, Nat.reduceLT, Nat.reduceLeDiff]
      repeat refine And.intro (by omega) ?_
      rw [← hmM]
      unfold FR Raw.v
      rw [he0]
      exact RetOK.pure rfl ⟨⟨rfl, Nat.le_refl 3⟩, trivial⟩ rfl
end Go.Proofs.YtddnnhlcpffbdaaGreat

namespace Go.Proofs.YtddnnhlcpffbdaaGreat
open Go.AM Go.Pl
set_option maxRecDepth 100000
set_option maxHeartbeats 4000000

end Go.Proofs.YtddnnhlcpffbdaaGreat

namespace Go.Proofs.YtddnnhlcpffbdaaGreat
open Go.AM Go.Pl
set_option maxRecDepth 100000
set_option maxHeartbeats 4000000

def linG (xs : List Int) (n a : Nat) : List Raw × Nat :=
  if nN xs (nx xs (nx xs (nxs xs n a))) 6 = 0 then
    (((linS xs n 0 a (List.replicate 9 rz)).set 8 (cn (ratR xs (nxs xs n a)))).set 8 (looseR xs (nx xs (nx xs (nx xs (nxs xs n a))))).1, (looseR xs (nx xs (nx xs (nx xs (nxs xs n a))))).2)
  else ((linS xs n 0 a (List.replicate 9 rz)).set 8 (cn (ratR xs (nxs xs n a))), nx xs (nx xs (nx xs (nxs xs n a))))
theorem linG_ok (xs : List Int) (n a : Nat) : LOk 4 (linG xs n a).1 := by
  have h1 := set_ok' (linS_ok xs n 0 a _ zeros_ok) 8 (Raw.Ok.mono (cn_ok (ratR_bd xs (nxs xs n a))) (by decide))
  unfold linG
  split
  · exact set_ok' h1 8 (looseR_ok _ _)
  · exact h1
theorem linG_le {xs : List Int} {n a : Nat} (h : a ≤ xs.length) : (linG xs n a).2 ≤ xs.length := by
  have h3 := nxs_le (n := n) h
  unfold linG
  split
  · exact looseR_le (nx_le (nx_le (nx_le h3)))
  · exact nx_le (nx_le (nx_le h3))

theorem pd58 (xs : List Int) (n a : Nat) (hn8 : n ≤ 8) (hl : xs.length ≤ 1000) (ha : a ≤ xs.length) (hw : W64 xs) :
    Den Tryz.prog 58 [S xs a] [.ptr 0 0 0, .int .i64 n] [S xs (linG xs n a).2] (RL (linG xs n a).1) := by
  have a3l := nxs_le (n := n) ha
  have hokS := linS_ok xs n 0 a _ zeros_ok
  unfold linG
  obtain ⟨rsf, hrsf⟩ : ∃ t, linS xs n 0 a (List.replicate 9 rz) = t := ⟨_, rfl⟩
  obtain ⟨a3, e3⟩ : ∃ t, nxs xs n a = t := ⟨_, rfl⟩
  rw [e3] at a3l
  rw [hrsf] at hokS
  rw [hrsf, e3]
  unfold S
  refine den_of tabOk mixed Tryz.func58 (cd := _) rfl (by decide) rfl (n := 26) rfl rfl (m := 1) rfl ?_
  simp (dsimp := false) (disch := omega) only [List.replicate, rules, tys, Nat.reduceAdd]
  refine WA.loop (α := Nat × Nat × List Raw) (fun ⟨i, b, rs⟩ => ⟨[.ptr 0 0 0, .int .i64 n, .any, .any, .ptr 1 0 0, .ptr 2 0 0, .int .i64 i] ++ List.replicate 21 .any, [.box true [.fv (.sl (ints xs)), .int .i64 b, .int .i64 0], .box true (zcells 9), .box true (flat rs)]⟩)
    (fun ⟨i, _, _⟩ => n - i) (fun ⟨i, b, rs⟩ => i ≤ n ∧ b ≤ xs.length ∧ LOk 4 rs ∧ linS xs (n - i) i b rs = rsf ∧ nxs xs (n - i) b = a3) (0, a, List.replicate 9 rz) ?_ ?_ ?_
  · refine Weak.keep [0, 1, 2] (by simp) rfl ?_ ?_
    · simp [leVs, leV, le1]
    · simp [leH, leO, le1s, le1, zcells, List.replicate, flat, rz, u32s]
  · exact ⟨by omega, ha, zeros_ok, hrsf, e3⟩
  · rintro ⟨i, b, rs⟩ ⟨hi, hb, hok, hS, hX⟩
    have hlen := hok.len
    have hfl := flat_length rs
    have cb := S_closed xs b
    simp (dsimp := false) (disch := omega) only [List.replicate, rules, tys, eq_self, ↓reduceIte]
    refine Br.dec ?_ ?_
    · intro h1 h2
      have h60 := den60 xs b (-2) 2 5 hl hb hw (by decide) (by decide) (by decide) (by decide) (by decide)
      have l5 := nN_lt (xs := xs) (a := b) (n := 5) (by decide)
      obtain ⟨k, hk⟩ : ∃ k, n - i = k + 1 := ⟨n - 1 - i, by omega⟩
      have hk2 : n - (i + 1) = k := by omega
      rw [hk] at hS hX
      unfold linS at hS
      unfold nxs at hX
      have h24 := den24 (-2 + (nN xs b 5 : Int)) (by omega)
      have hset := flat_set (rs := rs) (i := i) (by omega) (decide (((-2 + (nN xs b 5 : Int) : Int) : Rat).num < 0)) (limbs ((-2 + (nN xs b 5 : Int) : Int) : Rat).num.natAbs) (limbs ((-2 + (nN xs b 5 : Int) : Int) : Rat).den)
      have hcn : (⟨decide (((-2 + (nN xs b 5 : Int) : Int) : Rat).num < 0), limbs ((-2 + (nN xs b 5 : Int) : Int) : Rat).num.natAbs, limbs ((-2 + (nN xs b 5 : Int) : Int) : Rat).den⟩ : Raw) = cn ((-2 + (nN xs b 5 : Int) : Int) : Rat) := rfl
      have hokq : (cn ((-2 + (nN xs b 5 : Int) : Int) : Rat)).Ok 4 := Raw.Ok.mono (cn_ok (bd_int (by omega))) (by decide)
      rw [hcn] at hset
      obtain ⟨z, hz⟩ : ∃ z : Int, -2 + (nN xs b 5 : Int) = z := ⟨_, rfl⟩
      rw [hz] at h60 h24 hset hS hokq
      rw [FR_eq, N_val, N_val] at h24
      unfold S at h60 cb
      simp (dsimp := false) (disch := omega) only [h2, rules]
      refine GoCall.lend 0 h60 rfl rfl cb rfl rfl rfl ?_
      simp (dsimp := false) (disch := omega) only [sh3, List.append_nil, rules, Nat.reduceAdd]
      refine GoCall.pure h24 rfl ?_
      simp (dsimp := false) (disch := omega) only [List.append_nil, hset, wrap64, rules, tys, eq_self, ↓reduceIte, Nat.reduceAdd, Nat.reduceLT]
      repeat refine And.intro (by omega) ?_
      refine Ap_loop (i + 1, nx xs b, rs.set i (cn (z : Rat))) (by dsimp only; omega) ?_ ⟨by omega, nx_le hb, set_ok' hok i hokq, by rw [hk2]; exact hS, by rw [hk2]; exact hX⟩
      refine Weak.keep [0, 1, 2] (by simp) rfl ?_ ?_
      · simp [leVs, leV, le1]
      · simp [leH, leO, le1s, le1, le_flat, zcells]
    · intro h1 h2
      have hi3 : n - i = 0 := by omega
      rw [hi3] at hS hX
      have hrs : rs = rsf := hS
      have hba : b = a3 := hX
      subst hrs
      subst hba
      have h30 := den30 xs b hl hb hw
      have hb4 := nx_le (nx_le hb)
      obtain ⟨a4, e4⟩ : ∃ t, nx xs (nx xs b) = t := ⟨_, rfl⟩
      rw [e4] at h30 hb4 ⊢
      have c4 := S_closed xs a4
      have hn6 := denN xs a4 6 hl hb4 hw (by decide) (by decide)
      have hb5 := nx_le hb4
      obtain ⟨a5, e5⟩ : ∃ t, nx xs a4 = t := ⟨_, rfl⟩
      rw [e5] at hn6 hb5 ⊢
      have c5 := S_closed xs a5
      have h34 := den34 xs a5 hl hb5 hw
      obtain ⟨m, hm⟩ : ∃ t, nN xs a4 6 = t := ⟨_, rfl⟩
      rw [hm] at hn6 ⊢
      have hset := flat_set (rs := rs) (i := 8) (by omega) (decide ((ratR xs b).num < 0)) (limbs (ratR xs b).num.natAbs) (limbs (ratR xs b).den)
      have hcn : (⟨decide ((ratR xs b).num < 0), limbs (ratR xs b).num.natAbs, limbs (ratR xs b).den⟩ : Raw) = cn (ratR xs b) := rfl
      rw [hcn] at hset
      have hok8 := set_ok' hok 8 (Raw.Ok.mono (cn_ok (ratR_bd xs b)) (by decide))
      obtain ⟨rs8, hrs8⟩ : ∃ t, rs.set 8 (cn (ratR xs b)) = t := ⟨_, rfl⟩
      rw [hrs8] at hset hok8 ⊢
      simp only [Nat.reduceMul, Nat.reduceAdd] at hset
      have hl8 := hok8.len
      have hf8 := flat_length rs8
      have hf27 : (flat rs8).length = 27 := by omega
      rw [FR_eq, N_val, N_val] at h30
      unfold S at h30 hn6 h34 cb c4 c5
      by_cases h0 : m = 0
      · rw [if_pos h0]
        have hb0 : ((m : Int) == 0) = true := by rw [h0]; rfl
        obtain ⟨⟨r, a6⟩, hr6⟩ : ∃ t, looseR xs a5 = t := ⟨_, rfl⟩
        have hro := looseR_ok xs a5
        rw [hr6] at h34 hro ⊢
        dsimp only at h34 hro ⊢
        have hset2 := flat_set (rs := rs8) (i := 8) (by omega) r.neg r.num r.den
        have hr2 : (⟨r.neg, r.num, r.den⟩ : Raw) = r := rfl
        rw [hr2] at hset2
        have hok9 := set_ok' hok8 8 hro
        obtain ⟨rs9, hrs9⟩ : ∃ t, rs8.set 8 r = t := ⟨_, rfl⟩
        rw [hrs9] at hset2 hok9 ⊢
        simp only [Nat.reduceMul, Nat.reduceAdd] at hset2
        have hl9 := hok9.len
        have hf9 := flat_length rs9
        have hf27' : (flat rs9).length = 27 := by omega
        unfold Raw.v at h34
        simp (dsimp := false) (disch := omega) only [h2, rules, Nat.reduceBEq]
        refine GoCall.lend 0 h30 rfl rfl cb rfl rfl rfl ?_
        simp (dsimp := false) (disch := omega) only [sh1, List.append_nil, hset, rules, tys, eq_self, Nat.reduceAdd, Nat.reduceLT]
        repeat refine And.intro (by omega) ?_
        refine GoCall.lend 0 hn6 rfl rfl c4 rfl rfl rfl ?_
        simp (dsimp := false) (disch := omega) only [sh2, List.append_nil, hb0, rules, tys, eq_self, ↓reduceIte, Nat.reduceAdd]
        refine GoCall.lend 0 h34 rfl rfl c5 rfl rfl rfl ?_
        simp (dsimp := false) (disch := omega) only [sh1, List.append_nil, zcells_drop, zcells_length, hset2, flat_take27 hl9, hf27', Ap_end_ret, rules, tys, eq_self, ↓reduceIte, Nat.reduceAdd, Nat.reduceLT, Nat.reduceLeDiff]
        repeat refine And.intro (by omega) ?_
        exact RetOK.formL rfl rfl hl9 rfl (S_closed xs _) rfl
      · rw [if_neg h0]
        have hb0 : ((m : Int) == 0) = false := by rw [beq_eq_false_iff_ne]; omega
        simp (dsimp := false) (disch := omega) only [h2, rules, Nat.reduceBEq]
        refine GoCall.lend 0 h30 rfl rfl cb rfl rfl rfl ?_
        simp (dsimp := false) (disch := omega) only [sh1, List.append_nil, hset, rules, tys, eq_self, Nat.reduceAdd, Nat.reduceLT]
        repeat refine And.intro (by omega) ?_
        refine GoCall.lend 0 hn6 rfl rfl c4 rfl rfl rfl ?_
        simp (dsimp := false) (disch := omega) only [sh2, List.append_nil, zcells_drop, zcells_length, hb0, flat_take27 hl8, hf27, Ap_end_ret, rules, tys, eq_self, ↓reduceIte, Nat.reduceAdd, Nat.reduceLT, Nat.reduceLeDiff]
        repeat refine And.intro (by omega) ?_
        exact RetOK.formL rfl rfl hl8 rfl (S_closed xs _) rfl

def consS (xs : List Int) (n : Nat) : Nat → Nat → List (List Raw)
  | 0, _ => []
  | k + 1, b => (linG xs n b).1 :: consS xs n k (linG xs n b).2
def consN (xs : List Int) (n : Nat) : Nat → Nat → Nat
  | 0, b => b
  | k + 1, b => consN xs n k (linG xs n b).2
theorem consS_len (xs : List Int) (n : Nat) : ∀ k b, (consS xs n k b).length = k
  | 0, _ => rfl
  | k + 1, b => by simp [consS, consS_len xs n k]
theorem consS_ok (xs : List Int) (n : Nat) : ∀ k b, ∀ l ∈ consS xs n k b, LOk 4 l
  | 0, b, l, h => by simp [consS] at h
  | k + 1, b, l, h => by
    simp only [consS, List.mem_cons] at h
    rcases h with h | h
    · rw [h]; exact linG_ok xs n b
    · exact consS_ok xs n k _ l h
theorem consN_le {xs : List Int} {n : Nat} : ∀ {k b}, b ≤ xs.length → consN xs n k b ≤ xs.length
  | 0, _, h => h
  | k + 1, _, h => consN_le (k := k) (linG_le h)
theorem pd18 (xs : List Int) (n m a : Nat) (hn8 : n ≤ 8) (hm : m ≤ 100) (hl : xs.length ≤ 1000) (ha : a ≤ xs.length) (hw : W64 xs) :
    Den Tryz.prog 18 [S xs a] [.ptr 0 0 0, .int .i64 n, .int .i64 m] [S xs (consN xs n (nN xs a (m + 1)) (nx xs a))] (.fv (.sl (rowsF (consS xs n (nN xs a (m + 1)) (nx xs a))))) := by
  have hN := denN xs a (m + 1) hl ha hw (by omega) (by omega)
  have hlt := nN_lt (xs := xs) (a := a) (n := m + 1) (by omega)
  have hc := S_closed xs a
  have ha1 := nx_le ha
  obtain ⟨k0, hk0⟩ : ∃ t, nN xs a (m + 1) = t := ⟨_, rfl⟩
  obtain ⟨a1, e1⟩ : ∃ t, nx xs a = t := ⟨_, rfl⟩
  rw [hk0] at hN hlt ⊢
  rw [e1] at hN ha1 ⊢
  obtain ⟨fin, hfin⟩ : ∃ t, consN xs n k0 a1 = t := ⟨_, rfl⟩
  obtain ⟨tot, htot⟩ : ∃ t, consS xs n k0 a1 = t := ⟨_, rfl⟩
  rw [hfin, htot]
  have em : ((m : Int) + 1) = ((m + 1 : Nat) : Int) := by omega
  unfold S at hN hc ⊢
  refine den_of tabOk mixed Tryz.func18 (cd := _) rfl (by decide) rfl (n := 21) rfl rfl (m := 1) rfl ?_
  simp (dsimp := false) (disch := omega) only [List.replicate, wrap64, rules, tys, eq_self, ↓reduceIte]
  rw [em]
  refine GoCall.lend 0 hN rfl rfl hc rfl rfl rfl ?_
  simp (dsimp := false) (disch := omega) only [sh2, List.append_nil, rules]
  refine WA.loop (α := Nat × Nat × List (List Raw)) (fun ⟨i, b, out⟩ => ⟨[.ptr 0 0 0, .int .i64 n, .int .i64 m, .any, .any, .any, .nilsl, .lsl 1 0 out.length 27, .int .i64 i] ++ List.replicate 15 .any, [S xs b, .row true (rowsF out)]⟩)
    (fun ⟨i, _, _⟩ => i) (fun ⟨i, b, out⟩ => b ≤ xs.length ∧ out.length + i = k0 ∧ consN xs n i b = fin ∧ out ++ consS xs n i b = tot) (k0, a1, []) ?_ ?_ ?_
  · refine Weak.nil 7 27 (by decide) rfl ?_
    refine Weak.keep [0, 1] (by simp) rfl ?_ ?_
    · simp [leVs, leV, le1]
    · simp [leH, leO, le1s, le1, S, rowsF]
  · exact ⟨ha1, by simp, hfin, by rw [List.nil_append]; exact htot⟩
  · rintro ⟨i, b, out⟩ ⟨hb, hol, hnx, hap⟩
    obtain ⟨L, hL⟩ : ∃ L, out.length = L := ⟨_, rfl⟩
    have rlo := rowsF_length out
    rw [hL] at rlo hol
    have htk := take_rows (ls := out) (n := L) (by omega)
    have hcb := S_closed xs b
    dsimp only
    rw [hL]
    unfold S at hcb ⊢
    simp (dsimp := false) (disch := omega) only [List.replicate, rules, tys, eq_self, ↓reduceIte]
    refine Br.dec ?_ ?_
    · intro h1 h2
      obtain ⟨p, rfl⟩ : ∃ p, i = p + 1 := ⟨i - 1, by omega⟩
      have ep : (((p + 1 : Nat) : Int) - 1) = (p : Int) := by omega
      have h58 := pd58 xs n b hn8 hl hb hw
      have hok := linG_ok xs n b
      have hb2 := linG_le (n := n) hb
      simp only [consN] at hnx
      simp only [consS] at hap
      obtain ⟨⟨y, b2⟩, hy⟩ : ∃ t, linG xs n b = t := ⟨_, rfl⟩
      rw [hy] at h58 hok hb2 hnx hap
      dsimp only at h58 hok hb2 hnx hap
      have hyl := hok.len
      have gy := flat_length y
      have y27 := flatF_take27 hyl
      have gy27 := flat_take27 hyl
      have hrs := rows_snoc out y
      unfold S at h58
      unfold RL at h58
      simp (dsimp := false) (disch := omega) only [h2, rules]
      refine GoCall.lend 0 h58 rfl rfl hcb rfl rfl rfl ?_
      simp (dsimp := false) (disch := omega) only [flat_ids, flat_reloc, flat_fz, List.append_nil, sh2, gy, hyl, y27, htk, hrs, rlo, ep, wrap64, rules, tys, eq_self, ↓reduceIte, Nat.reduceAdd, Nat.reduceMul, Nat.reduceBEq, Nat.reduceLT, Nat.reduceLeDiff]
      repeat refine And.intro (by omega) ?_
      refine Ap_loop (p, b2, out ++ [y]) (by dsimp only; omega) ?_ ⟨hb2, by rw [List.length_append, hL]; simp; omega, hnx, by rw [← hap]; simp⟩
      refine Weak.keep [0, 3] (by simp) rfl ?_ ?_
      · simp [leVs, leV, le1]
        omega
      · simp [leH, leO, le1s, le1]
    · intro h1 h2
      have hi0 : i = 0 := by omega
      subst hi0
      have hfb : b = fin := hnx
      have htot2 : out = tot := by rw [← hap]; simp [consS]
      subst hfb
      subst htot2
      simp (dsimp := false) (disch := omega) only [h2, Ap_end_ret, rules, Nat.reduceBEq]
      refine RetOK.lentB rfl ⟨trivial, trivial⟩ rfl (S_closed xs _) rfl ?_ rfl
      have hi1 : List.idxOf? 1 [0] = none := rfl
      simp (disch := omega) only [rlo, htk, hi1, List.drop_zero, Nat.zero_add, Nat.le_refl, ↓reduceIte, St.get, fzX, oneRes, fzV, fzC, fz1, fz0, Option.map_some, List.getD_cons_succ, List.getD_cons_zero, List.getElem?_cons_zero, List.getElem?_cons_succ]
end Go.Proofs.YtddnnhlcpffbdaaGreat

namespace Go.Proofs.YtddnnhlcpffbdaaGreat
open Go.AM Go.Pl
set_option maxRecDepth 100000
set_option maxHeartbeats 4000000

theorem numL_ok {q : Rat} (h : Bd 1 q) : LOk 1 (numL q) := by
  refine ⟨numL_len q, fun r hr => ?_⟩
  unfold numL at hr
  rcases List.mem_or_eq_of_mem_set hr with h1 | h1
  · rw [List.eq_of_mem_replicate h1]; exact cn_ok (Bd.zero (by decide))
  · rw [h1]; exact cn_ok h
theorem varL_ok (v : Nat) : LOk 1 (varL v) := by
  refine ⟨varL_len v, fun r hr => ?_⟩
  unfold varL at hr
  rcases List.mem_or_eq_of_mem_set hr with h1 | h1
  · rw [List.eq_of_mem_replicate h1]; exact cn_ok (Bd.zero (by decide))
  · rw [h1]; exact cn_ok (bd_int (by decide))
end Go.Proofs.YtddnnhlcpffbdaaGreat
