/- Contracts: regions in the reference: Shadow, Bounds. -/
import Derived.Test.YtddnnhlcpffbdaaGreatT13
import Derived.Test.YtddnnhlcpffbdaaGreatT12

namespace Go.Proofs.YtddnnhlcpffbdaaGreat
open Go.AM Go.Pl
set_option maxRecDepth 100000
set_option maxHeartbeats 4000000

abbrev emptyC : List (List Raw) := [numL ((-1 : Int) : Rat)]
theorem num_const (q : Rat) : IsConst (numL q) := fun i hi => by rw [co_num (by omega), if_neg (by omega)]
theorem num_lok : LOk 1 (numL ((-1 : Int) : Rat)) := numL_ok (bd_int (by decide))
theorem empty_cs : CsT emptyC := by
  have hs : sysL emptyC [] = [] := by
    show (if constB (numL ((-1 : Int) : Rat)) then _ else _) = _
    rw [if_pos ((constB_iff (numL_len _)).2 (num_const _))]; rfl
  have hnc : ncs emptyC = [] := ncs_const (fun l hl => by
    rw [List.mem_singleton] at hl; subst hl
    exact (constB_iff (numL_len _)).2 (num_const _))
  have hg : GoodT (sysL emptyC []) := by
    rw [hs]
    have h0 : nvars [] = 0 := by decide
    exact ⟨1, Nat.le_refl _, ⟨List.Pairwise.nil, by simp, by simp, by simp⟩, ⟨by omega, fun h => by omega, fun h => by omega, fun h => by omega⟩⟩
  refine ⟨⟨fun l hl => ?_, by decide, by rw [hnc]; decide, hg.good, fun l hl _ => ?_⟩, hg⟩
  · rw [List.mem_singleton] at hl; subst hl; exact num_lok.mono (by decide)
  · rw [List.mem_singleton] at hl; subst hl; exact num_lok.mono (by decide)
theorem empty_inner : innerB emptyC = false := by
  cases h : innerB emptyC with
  | false => rfl
  | true =>
    exfalso
    obtain ⟨x, hx⟩ := (innerB_iff empty_cs.cs.len9).1 h
    have h1 := hx (numL ((-1 : Int) : Rat)) (by simp)
    rw [lval_num] at h1
    have e : ((-1 : Int) : Rat) = -1 := rfl
    rw [e] at h1
    rcases h1 with h1 | h1
    · exact absurd h1 (by decide)
    · exact absurd h1.2 (by decide)
theorem empty_canon : canonP emptyC = emptyC := by unfold canonP; rw [empty_inner]; rfl
theorem empty_ne {c : List (List Raw)} (h : ∀ l ∈ c, ¬ IsConst l) : c ≠ emptyC := fun he => by
  have := h (numL ((-1 : Int) : Rat)) (by rw [he]; simp)
  exact this (num_const _)
theorem good_cs {c : List (List Raw)} (h : GoodT c) : CsT c := by
  have hl := h.good.len
  have hn := ncs_le c
  refine ⟨⟨fun l hl => (h.good.lim l hl).mono (by decide), by omega, by omega, ?_, fun l hl _ => h.good.lim l hl⟩, ?_⟩
  · rw [h.good.self]; exact h.good
  · rw [h.good.self]; exact h
theorem good_canon {c : List (List Raw)} (h : GoodT c) (hf : feasB c = true) : canonP c = canS c := by
  unfold canonP
  rw [inner_nc h.good.len9 h.good.nc, h.good.self, hf, if_pos rfl]
  rfl
theorem good_sys {c : List (List Raw)} (h : GoodT c) : IsSys c c := by
  obtain ⟨k, hk, hs, hz⟩ := h
  exact hs.self
theorem outR_len (s : List (List Raw)) (v : Nat) : (outR s v).length = (restL s v).length + (lowL s v).length * (highL s v).length := by
  unfold outR
  rw [List.length_append, flat_length' (fun l u => comb u l)]
theorem out_cs {c : List (List Raw)} {i : Nat} (hi : i < 8) (h : GoodT c) (hf : feasB c = true) : CsT (outR c i) ∧ canonP (outR c i) = canS (stepL c i) := by
  have hgs := h.good
  have h9 := hgs.len9
  have hl12 := hgs.len
  have hsp := split_length c i
  have hol := outR_len c i
  have hsys : sysL (outR c i) [] = stepL c i := ((out_sys hi h9 hgs.nc (good_sys h)).eq (fun o ho => out_len h9 o (mem_outR.1 ho))).symm
  have hnb := hgs.not_bad hi hf
  have hst := h.step hi
  have ho9 : ∀ o ∈ outR c i, o.length = 9 := fun o ho => out_len h9 o (mem_outR.1 ho)
  have hnc : (ncs (outR c i)).length ≤ 12 := by
    have hle := ncs_le (outR c i)
    cases ho : occ c i with
    | false =>
      obtain ⟨_, h2, h3⟩ := out_same ho
      rw [h2] at hol
      simp at hol
      rw [h2, h3] at hsp
      simp at hsp
      omega
    | true =>
      obtain ⟨k, hk, hs, hz⟩ := h
      have h3 := nvars_pos hi ho
      have h4 := hz.n3
      have : nvars c = 1 ∨ nvars c = 2 ∨ nvars c = 3 := by omega
      rcases this with h5 | h5 | h5
      · have h6 := nvars_out hi hs ho
        have h7 : ncs (outR c i) = [] := by
          cases h8 : ncs (outR c i) with
          | nil => rfl
          | cons o t =>
            have h10 := (mem_ncs ho9).1 (show o ∈ ncs (outR c i) by rw [h8]; simp)
            have := occ_pos (mem_outR.1 h10.1) h10.2
            omega
        rw [h7]; exact Nat.zero_le _
      · have := (hz.c2 h5).1
        have := arith7 (p := (lowL c i).length) (q := (highL c i).length) (r := (restL c i).length) (by omega)
        have e : (lowL c i).length * (highL c i).length = (highL c i).length * (lowL c i).length := Nat.mul_comm _ _
        omega
      · have := (hz.c3 h5).1
        have := arith7 (p := (lowL c i).length) (q := (highL c i).length) (r := (restL c i).length) (by omega)
        have e : (lowL c i).length * (highL c i).length = (highL c i).length * (lowL c i).length := Nat.mul_comm _ _
        omega
  have hlen : (outR c i).length ≤ 100 := by
    have := arith12 (p := (lowL c i).length) (q := (highL c i).length) (r := (restL c i).length) (by omega)
    have e : (lowL c i).length * (highL c i).length = (highL c i).length * (lowL c i).length := Nat.mul_comm _ _
    omega
  have hlim := hgs.lim
  have hcs : CsT (outR c i) := by
    refine ⟨⟨fun o ho => (out_ok hlim (by decide) o (mem_outR.1 ho)).mono (by decide), hlen, hnc, ?_, fun o ho hc => ?_⟩, ?_⟩
    · rw [hsys]; exact hst.good
    · obtain ⟨k, hk, hs, hz⟩ := hgs
      exact out_lim hi hk hs hz o (mem_outR.1 ho) hc
    · rw [hsys]; exact hst
  refine ⟨hcs, ?_⟩
  have hv : violB (outR c i) = false := by
    cases hvb : violB (outR c i) with
    | false => rfl
    | true =>
      exfalso
      obtain ⟨o, ho, h2⟩ := (violB_iff ho9).1 hvb
      obtain ⟨k, hk, hs, hz⟩ := hgs
      exact out_viol hs (fun hb => by rw [(badB_iff h9).2 hb] at hnb; cases hnb) ⟨o, mem_outR.1 ho, h2⟩
  have hin : innerB (outR c i) = true := by
    unfold innerB
    rw [hv, hsys, hgs.feas hi hnb, hf]; rfl
  unfold canonP
  rw [hin, if_pos rfl, hsys]
  rfl
theorem pd52e (i : Int) : Den Tryz.prog 52 [] [.fv (.sl (rowsF emptyC)), .int .i64 i] [] (.fv (.sl (rowsF emptyC))) := by
  have h51 := pd51 emptyC empty_cs
  rw [empty_canon] at h51
  have h98 := pd98
  have hE : ∀ l ∈ emptyC, IsCn l ∧ LOk 1000 l := fun l hl => by
    rw [List.mem_singleton] at hl; subst hl
    exact ⟨⟨(List.replicate 9 (0 : Rat)).set 8 ((-1 : Int) : Rat), by simp [numL], by simp⟩, num_lok.mono (by decide)⟩
  have h40 := pd40 emptyC emptyC hE hE (by decide) (by decide)
  rw [sameB_self] at h40
  refine den_of tabOk mixed Tryz.func52 (cd := _) rfl (by decide) rfl (n := 14) rfl rfl (m := 0) rfl ?_
  simp (dsimp := false) (disch := omega) only [List.replicate, rules]
  refine GoCall.pure h51 rfl ?_
  simp (dsimp := false) (disch := omega) only [rules]
  refine GoCall.pure h98 rfl ?_
  simp (dsimp := false) (disch := omega) only [rules]
  refine GoCall.pure h40 rfl ?_
  simp (dsimp := false) (disch := omega) only [Ap_end_ret, rules]
  exact RetOK.pure rfl ⟨trivial, trivial⟩ rfl
theorem pd52 (c : List (List Raw)) (i : Nat) (hi : i < 8) (hg : GoodT c) (hf : feasB c = true) : Den Tryz.prog 52 [] [.fv (.sl (rowsF c)), .int .i64 i] [] (.fv (.sl (rowsF (shadF c i)))) := by
  have h51 := pd51 c (good_cs hg)
  rw [good_canon hg hf] at h51
  have hgc := canS_good hg
  have hfc : feasB (canS c) = true := by rw [canS_feas hg]; exact hf
  have h98 := pd98
  have hE : ∀ l ∈ emptyC, IsCn l ∧ LOk 1000 l := fun l hl => by
    rw [List.mem_singleton] at hl; subst hl
    exact ⟨⟨(List.replicate 9 (0 : Rat)).set 8 ((-1 : Int) : Rat), by simp [numL], by simp⟩, num_lok.mono (by decide)⟩
  have h40 := pd40 (canS c) emptyC (fun l hl => ⟨hgc.good.cnf l hl, hgc.good.lim l hl⟩) hE (by have := hgc.good.len; omega) (by decide)
  rw [sameB_false.2 (empty_ne hgc.good.nc)] at h40
  have h99 := pd99 (canS c) i hi hgc.good.cnf hgc.good.lim (by have := hgc.good.len; omega)
  obtain ⟨hcs, hcan⟩ := out_cs hi hgc hfc
  have h51b := pd51 _ hcs
  rw [hcan] at h51b
  change Den Tryz.prog 51 [] _ [] (.fv (.sl (rowsF (shadF c i)))) at h51b
  refine den_of tabOk mixed Tryz.func52 (cd := _) rfl (by decide) rfl (n := 14) rfl rfl (m := 0) rfl ?_
  simp (dsimp := false) (disch := omega) only [List.replicate, rules]
  refine GoCall.pure h51 rfl ?_
  simp (dsimp := false) (disch := omega) only [rules]
  refine GoCall.pure h98 rfl ?_
  simp (dsimp := false) (disch := omega) only [rules]
  refine GoCall.pure h40 rfl ?_
  simp (dsimp := false) (disch := omega) only [rules]
  refine GoCall.pure h99 rfl ?_
  simp (dsimp := false) (disch := omega) only [rules]
  refine GoCall.pure h51b rfl ?_
  simp (dsimp := false) (disch := omega) only [Ap_end_ret, rules]
  exact RetOK.pure rfl ⟨trivial, trivial⟩ rfl

section
variable {P : Program} {T : Tab}
theorem AN.one (i : Nat) {l : List Oper} {n : Nat} {listed : Array Bool} {env : List PV} {H : List Ob} {st1 : St} {t : Tok _} (h : Region.ready .any (List.toArray l) listed = [i]) {d : Option Nat} {op : Op} {ty : TypeId} {pos : String} {af : Array Edge}
    (ho : l[i]? = some { dst := d, op := op, type := ty, pos := pos, after := af, guard := none })
    (k : W1 P T op ⟨env, H⟩ (fun v H => AN P T l n (listed.setIfInBounds i true) ⟨updE env d v, H⟩ st1 ⟨⟩) ⟨⟩) : AN P T l (n + 1) listed ⟨env, H⟩ st1 t :=
  AN.step [i] h (by simp) (fun j hj => by rw [List.mem_singleton] at hj; subst hj; exact ⟨_, ho, rfl, k⟩)
theorem Draw.go (f : St → St) {l : List Oper} {K : St → Prop} {st : St} {t : Tok _} (h : AN P T l l.length (Array.replicate l.length false) st (f st) ⟨⟩) (k : K (f st)) : Draw P T l st K t := Draw.any (f st) h k
theorem AN.two (i i2 : Nat) {l : List Oper} {n : Nat} {listed : Array Bool} {env : List PV} {H : List Ob} {st1 : St} {t : Tok _} (h : Region.ready .any (List.toArray l) listed = [i, i2])
    {d : Option Nat} {op : Op} {ty : TypeId} {pos : String} {af : Array Edge} {d2 : Option Nat} {op2 : Op} {ty2 : TypeId} {pos2 : String} {af2 : Array Edge}
    (ho : l[i]? = some { dst := d, op := op, type := ty, pos := pos, after := af, guard := none })
    (ho2 : l[i2]? = some { dst := d2, op := op2, type := ty2, pos := pos2, after := af2, guard := none })
    (k : W1 P T op ⟨env, H⟩ (fun v H => AN P T l n (listed.setIfInBounds i true) ⟨updE env d v, H⟩ st1 ⟨⟩) ⟨⟩)
    (k2 : W1 P T op2 ⟨env, H⟩ (fun v H => AN P T l n (listed.setIfInBounds i2 true) ⟨updE env d2 v, H⟩ st1 ⟨⟩) ⟨⟩) : AN P T l (n + 1) listed ⟨env, H⟩ st1 t :=
  AN.step [i, i2] h (by simp) (fun j hj => by
    rw [List.mem_cons, List.mem_singleton] at hj
    rcases hj with rfl | rfl
    · exact ⟨_, ho, rfl, k⟩
    · exact ⟨_, ho2, rfl, k2⟩)
end
theorem pd14l (cs : List (List Raw)) (v : Int) (hl : 40 < cs.length) : Den Tryz.prog 14 [] [.fv (.sl (rowsF cs)), .int .i64 v] [] (.tup [zR, zR, .int .i64 9]) := by
  have rl := rowsF_length cs
  have e1 : decide ((cs.length : Int) > 40) = true := decide_eq_true (by omega)
  refine den_of tabOk mixed Tryz.func14 (cd := _) rfl (by decide) rfl (n := 79) rfl rfl (m := 0) rfl ?_
  simp (dsimp := false) (disch := omega) only [List.replicate, rl, e1, Ap_end_ret, rules, tys, eq_self, ↓reduceIte, Nat.reduceAdd, Nat.reduceLT, Nat.reduceLeDiff]
  repeat refine And.intro (by omega) ?_
  exact RetOK.pure rfl ⟨⟨rfl, Nat.le_refl 3⟩, ⟨rfl, Nat.le_refl 3⟩, trivial, trivial⟩ rfl
theorem pd14z (cs : List (List Raw)) (v : Int) (hl : cs.length ≤ 40) (hv : v < 0 ∨ 8 ≤ v) : Den Tryz.prog 14 [] [.fv (.sl (rowsF cs)), .int .i64 v] [] (.tup [zR, zR, .int .i64 1]) := by
  have rl := rowsF_length cs
  have e1 : decide ((cs.length : Int) > 40) = false := decide_eq_false (by omega)
  by_cases h : v < 0
  · have h1 : decide (v < 0) = true := decide_eq_true h
    refine den_of tabOk mixed Tryz.func14 (cd := _) rfl (by decide) rfl (n := 79) rfl rfl (m := 0) rfl ?_
    simp (dsimp := false) (disch := omega) only [List.replicate, rl, e1, h1, Ap_end_ret, rules, tys, eq_self, ↓reduceIte, Nat.reduceAdd, Nat.reduceLT, Nat.reduceLeDiff]
    repeat refine And.intro (by omega) ?_
    exact RetOK.pure rfl ⟨⟨rfl, Nat.le_refl 3⟩, ⟨rfl, Nat.le_refl 3⟩, trivial, trivial⟩ rfl
  · have h1 : decide (v < 0) = false := decide_eq_false h
    have h2 : decide (v ≥ 8) = true := decide_eq_true (by omega)
    refine den_of tabOk mixed Tryz.func14 (cd := _) rfl (by decide) rfl (n := 79) rfl rfl (m := 0) rfl ?_
    simp (dsimp := false) (disch := omega) only [List.replicate, rl, e1, h1, h2, Ap_end_ret, rules, tys, eq_self, ↓reduceIte, Nat.reduceAdd, Nat.reduceLT, Nat.reduceLeDiff]
    repeat refine And.intro (by omega) ?_
    exact RetOK.pure rfl ⟨⟨rfl, Nat.le_refl 3⟩, ⟨rfl, Nat.le_refl 3⟩, trivial, trivial⟩ rfl
def boxQ : List Rat → List PV
  | [] => [.bool false, .nilsl, .nilsl]
  | a :: _ => [.bool (cn a).neg, .fv (.sl (u32s (cn a).num)), .fv (.sl (u32s (cn a).den))]
theorem boxQ_len (l : List Rat) : (boxQ l).length = 3 := by cases l <;> rfl
theorem boxQ_nil : boxQ [] = [.bool false, .nilsl, .nilsl] := rfl
theorem boxQ_one (q : Rat) : boxQ [q] = [.bool (cn q).neg, .fv (.sl (u32s (cn q).num)), .fv (.sl (u32s (cn q).den))] := rfl
theorem boxQ_le (k : List Nat) (l : List Rat) : le1s k (boxQ l) (boxQ l) := by cases l <;> simp [boxQ, le1s, le1]
theorem lowQ_append (a b : List (List Raw)) (v : Nat) : lowQ (a ++ b) v = lowQ a v ++ lowQ b v := by simp [lowQ, lowL, List.filter_append]
theorem highQ_append (a b : List (List Raw)) (v : Nat) : highQ (a ++ b) v = highQ a v ++ highQ b v := by simp [highQ, highL, List.filter_append]
theorem pd14 (cs : List (List Raw)) (v : Nat) (hv : v < 8) (h : CsT cs) (hl : cs.length ≤ 40) : Den Tryz.prog 14 [] [.fv (.sl (rowsF cs)), .int .i64 v] [] (bndV (bndP cs v)) := by
  obtain ⟨R, hR⟩ : ∃ R, bndV (bndP cs v) = R := ⟨_, rfl⟩
  rw [hR]
  have rl := rowsF_length cs
  have e1 : decide ((cs.length : Int) > 40) = false := decide_eq_false (by omega)
  have e2 : decide ((v : Int) < 0) = false := decide_eq_false (by omega)
  have e3 : decide ((v : Int) ≥ 8) = false := decide_eq_false (by omega)
  have h51 := pd51 cs h
  cases hin : innerB cs with
  | false =>
    have hc : canonP cs = emptyC := by unfold canonP; rw [hin]; rfl
    rw [hc] at h51
    have hR2 : R = bndV none := by rw [← hR]; unfold bndP; rw [hin]; rfl
    subst hR2
    have h48 := den48n (numL ((-1 : Int) : Rat)) v (num_lok.mono (by decide)) hv (num_const _ v hv)
    unfold FL RL at h48
    have hnl := numL_len ((-1 : Int) : Rat)
    have rE : rowsF emptyC = [flatF (numL ((-1 : Int) : Rat))] := rfl
    have h52 := pd52e
    rw [rE] at h51 h52
    obtain ⟨x, hx⟩ : ∃ x, numL ((-1 : Int) : Rat) = x := ⟨_, rfl⟩
    rw [hx] at h51 h52 h48 hnl
    obtain ⟨zs, hzz⟩ : ∃ zs, (x.map Raw.q).map cn = zs := ⟨_, rfl⟩
    have hzl : zs.length = 9 := by rw [← hzz]; simp [hnl]
    have gz := flat_length zs
    rw [hzz] at h48
    have x27 := flatF_take27 hnl
    have fx := flatF_length x
    have gx := flat_length x
    have gx27 := flat_take27 hnl
    have e5 : ((0 : Int) == 1) = false := rfl
    have e6 : ((0 : Int) == -1) = false := rfl
    refine den_of tabOk mixed Tryz.func14 (cd := _) rfl (by decide) rfl (n := 79) rfl rfl (m := 0) rfl ?_
    simp (dsimp := false) (disch := omega) only [List.replicate, rl, e1, e2, e3, rules, tys, eq_self, ↓reduceIte]
    refine GoCall.pure h51 rfl ?_
    simp (dsimp := false) (disch := omega) only [rules, Nat.reduceAdd]
    refine WA.loop (α := Nat) (fun i => ⟨[.fv (.sl (rowsF cs)), .int .i64 v, .any, .any, .ptr 0 0 0, .ptr 1 0 0, .int .i64 0, .fv (.sl [flatF x]), .int .i64 i] ++ List.replicate 72 .any, [Zb, Zb]⟩)
      (fun i => 8 - i) (fun i => i ≤ 8) 0 ?_ ?_ ?_
    · refine Weak.keep [0, 1] (by simp) rfl ?_ ?_
      · simp [leVs, leV, le1]
      · simp [leH, leO, le1s, le1]
    · exact Nat.zero_le _
    · rintro i hi
      simp (dsimp := false) (disch := omega) only [List.replicate, rules, tys, eq_self, ↓reduceIte]
      refine Br.dec ?_ ?_
      · intro h1 h2
        simp (dsimp := false) (disch := omega) only [h2, rules, tys, eq_self, ↓reduceIte]
        refine Br.bneInt ?_ ?_
        · intro h3 h4
          simp (dsimp := false) (disch := omega) only [h4, rules]
          refine GoCall.pure (h52 i) rfl ?_
          simp (dsimp := false) (disch := omega) only [wrap64, rules, tys, eq_self, ↓reduceIte, Nat.reduceAdd]
          refine Ap_loop (i + 1) (by omega) ?_ (by omega)
          refine Weak.keep [0, 1] (by simp) rfl ?_ ?_
          · simp [leVs, leV, le1]
          · simp [leH, leO, le1s, le1]
        · intro h3 h4
          simp (dsimp := false) (disch := omega) only [h4, wrap64, rules, tys, eq_self, ↓reduceIte]
          refine Ap_loop (i + 1) (by omega) ?_ (by omega)
          refine Weak.keep [0, 1] (by simp) rfl ?_ ?_
          · simp [leVs, leV, le1]
          · simp [leH, leO, le1s, le1]
      · intro h1 h2
        simp (dsimp := false) (disch := omega) only [h2, rules, tys, Nat.reduceAdd, Nat.reduceBEq]
        refine WA.loop (α := Unit) (fun _ => ⟨[.fv (.sl (rowsF cs)), .int .i64 v, .any, .any, .ptr 0 0 0, .ptr 1 0 0, .int .i64 0, .fv (.sl [flatF x]), .any, .any, .any, .any, .any, .int .i64 0] ++ List.replicate 67 .any, [Zb, Zb]⟩)
          (fun _ => 0) (fun _ => True) () ?_ trivial ?_
        · refine Weak.keep [0, 1] (by simp) rfl ?_ ?_
          · simp [leVs, leV, le1]
          · simp [leH, leO, le1s, le1]
        · rintro ⟨⟩ _
          have e8 : decide ((0 : Int) < 1) = true := rfl
          have e9 : decide ((0 : Int) < ((1 : Nat) : Int)) = true := rfl
          have x270 : List.getD [flatF x] 0 [] = flatF x := rfl
          simp (dsimp := false) (disch := omega) only [List.replicate, List.length_cons, List.length_nil, e9, x27, flatF_fv, fx, hnl, Int.reduceToNat, rules, tys, eq_self, ↓reduceIte, Nat.reduceMul, Nat.reduceLT, Nat.reduceLeDiff]
          refine ⟨⟨by omega, by omega⟩, ?_⟩
          refine GoCall.pure h48 (by simp [fzAs, fzA, flat_fz, flatF_fv, fz1, fz0]) ?_
          simp (dsimp := false) (disch := omega) only [flat_ids, flat_reloc, List.append_nil, gz, hzl, e5, e6, Ap_end_ret, rules, tys, eq_self, ↓reduceIte, Nat.reduceAdd, Nat.reduceMul, Nat.reduceLT, Nat.reduceLeDiff]
          repeat refine And.intro (by omega) ?_
          exact RetOK.pure rfl ⟨⟨rfl, Nat.le_refl 3⟩, ⟨rfl, Nat.le_refl 3⟩, trivial, trivial⟩ rfl
  | true =>
    have hc : canonP cs = canS (sysL cs []) := by unfold canonP; rw [hin]; rfl
    rw [hc] at h51
    have hre := refEnds_is hv h hin
    rw [← hre] at hR
    have hi2 := hin
    unfold innerB at hi2
    rw [Bool.and_eq_true, Bool.not_eq_true'] at hi2
    have hg0 := canS_good h.good
    have hf0 : feasB (canS (sysL cs [])) = true := by rw [canS_feas h.good]; exact hi2.2
    have hirr0 := canS_irr h.good
    have hEl := refElim_is (v := v) 8 0 (by omega) hg0 hf0 hirr0
    obtain ⟨c0, hc0⟩ : ∃ c, canS (sysL cs []) = c := ⟨_, rfl⟩
    obtain ⟨fin, hfin⟩ : ∃ c, refElim v 8 0 c0 = c := ⟨_, rfl⟩
    rw [hc0] at h51 hg0 hf0 hR hEl
    rw [hfin] at hR hEl
    have hoccf : ∀ w, w < 8 → w ≠ v → occ fin w = false := fun w hw hne => hEl.occs (fun w hw => by omega) w (by omega) hne
    obtain ⟨hlo1, hhi1⟩ := low_le_one hv hEl.good hEl.irr hoccf
    have hgf := hEl.good
    clear hEl
    refine den_of tabOk mixed Tryz.func14 (cd := _) rfl (by decide) rfl (n := 79) rfl rfl (m := 0) rfl ?_
    simp (dsimp := false) (disch := omega) only [List.replicate, rl, e1, e2, e3, rules, tys, eq_self, ↓reduceIte]
    refine GoCall.pure h51 rfl ?_
    simp (dsimp := false) (disch := omega) only [rules, Nat.reduceAdd]
    refine WA.loop (α := Nat × List (List Raw)) (fun ⟨i, c⟩ => ⟨[.fv (.sl (rowsF cs)), .int .i64 v, .any, .any, .ptr 0 0 0, .ptr 1 0 0, .int .i64 0, .fv (.sl (rowsF c)), .int .i64 i] ++ List.replicate 72 .any, [Zb, Zb]⟩)
      (fun ⟨i, _⟩ => 8 - i) (fun ⟨i, c⟩ => i ≤ 8 ∧ GoodT c ∧ feasB c = true ∧ refElim v (8 - i) i c = fin) (0, c0) ?_ ?_ ?_
    · refine Weak.keep [0, 1] (by simp) rfl ?_ ?_
      · simp [leVs, leV, le1]
      · simp [leH, leO, le1s, le1]
    · exact ⟨Nat.zero_le _, hg0, hf0, hfin⟩
    · rintro ⟨i, c⟩ ⟨hi, hg, hf, hel⟩
      simp (dsimp := false) (disch := omega) only [List.replicate, rules, tys, eq_self, ↓reduceIte]
      refine Br.dec ?_ ?_
      · intro h1 h2
        have h8 : 8 - i = (8 - (i + 1)) + 1 := by omega
        rw [h8] at hel
        unfold refElim at hel
        simp (dsimp := false) (disch := omega) only [h2, rules, tys, eq_self, ↓reduceIte]
        refine Br.bneInt ?_ ?_
        · intro h3 h4
          have hne : ¬ i = v := by omega
          rw [if_neg hne] at hel
          have h52 := pd52 c i (by omega) hg hf
          have hs := shadF_is (i := i) (by omega) hg hf
          simp (dsimp := false) (disch := omega) only [h4, rules]
          refine GoCall.pure h52 rfl ?_
          simp (dsimp := false) (disch := omega) only [wrap64, rules, tys, eq_self, ↓reduceIte, Nat.reduceAdd]
          refine Ap_loop (i + 1, shadF c i) (by dsimp only; omega) ?_ ⟨by omega, hs.good, hs.feas, hel⟩
          refine Weak.keep [0, 1] (by simp) rfl ?_ ?_
          · simp [leVs, leV, le1]
          · simp [leH, leO, le1s, le1]
        · intro h3 h4
          have he : i = v := by omega
          rw [if_pos he] at hel
          simp (dsimp := false) (disch := omega) only [h4, wrap64, rules, tys, eq_self, ↓reduceIte]
          refine Ap_loop (i + 1, c) (by dsimp only; omega) ?_ ⟨by omega, hg, hf, hel⟩
          refine Weak.keep [0, 1] (by simp) rfl ?_ ?_
          · simp [leVs, leV, le1]
          · simp [leH, leO, le1s, le1]
      · intro h1 h2
        have h8 : 8 - i = 0 := by omega
        rw [h8] at hel
        have hel2 : c = fin := hel
        subst hel2
        have hlim := hgf.good.lim
        have hn12 := hgf.good.len
        have hncf := hgf.good.nc
        obtain ⟨n, hnn⟩ : ∃ n, c.length = n := ⟨_, rfl⟩
        have rls := rowsF_length c
        rw [hnn] at rls hn12
        simp (dsimp := false) (disch := omega) only [h2, rules, tys, Nat.reduceAdd, Nat.reduceBEq]
        refine WA.loop (α := Nat × List Rat × List Rat) (fun ⟨j, lo, hi⟩ => ⟨[.fv (.sl (rowsF cs)), .int .i64 v, .any, .any, .ptr 0 0 0, .ptr 1 0 0, .int .i64 0, .fv (.sl (rowsF c)), .any, .ptr 2 0 0, .ptr 3 0 0, .int .i64 lo.length, .int .i64 hi.length, .int .i64 j] ++ List.replicate 67 .any, [Zb, Zb, .box true (boxQ lo), .box true (boxQ hi)]⟩)
          (fun ⟨j, _⟩ => n - j) (fun ⟨j, lo, hi⟩ => j ≤ n ∧ lo = lowQ (c.take j) v ∧ hi = highQ (c.take j) v) (0, [], []) ?_ ?_ ?_
        · refine Weak.keep [0, 1, 2, 3] (by simp) rfl ?_ ?_
          · simp [leVs, leV, le1]
          · simp [leH, leO, le1s, le1, boxQ_nil]
        · exact ⟨Nat.zero_le _, rfl, rfl⟩
        · rintro ⟨j, lo, hi⟩ ⟨hj, hlo, hhi⟩
          have hsz := split_length (c.take j) v
          have hszl : lo.length = (lowL (c.take j) v).length := by rw [hlo]; simp [lowQ]
          have hszh : hi.length = (highL (c.take j) v).length := by rw [hhi]; simp [highQ]
          rw [← hszl, ← hszh, List.length_take, hnn] at hsz
          have bll := boxQ_len lo
          have blh := boxQ_len hi
          have bdl : List.drop 3 (boxQ lo) = [] := List.drop_of_length_le (by omega)
          have bdh : List.drop 3 (boxQ hi) = [] := List.drop_of_length_le (by omega)
          simp (dsimp := false) (disch := omega) only [List.replicate, rls, rules, tys, eq_self, ↓reduceIte]
          refine Br.dec ?_ ?_
          · intro h3 h4
            have hsn := take_snoc (cs := c) (i := j) (by omega)
            have hmem := at_mem (ls := c) (i := j) (by omega)
            have r1 := rowsF_getD c j
            obtain ⟨x, hxx⟩ : ∃ x, c.getD j [] = x := ⟨_, rfl⟩
            rw [hxx] at hmem r1 hsn
            have hx := hlim x hmem
            have lx := hx.len
            have x27 := flatF_take27 lx
            have fx := flatF_length x
            have gx := flat_length x
            have gx27 := flat_take27 lx
            have h0 : co x v ≠ 0 := by
              obtain ⟨u, hu, hu0⟩ := not_const (hncf x hmem)
              by_cases huv : u = v
              · rw [← huv]; exact hu0
              · exact absurd (occ_false (hoccf u hu huv) x hmem) hu0
            have h16 := den48 x v hx hv h0
            have hsl : (solR v x).length = 9 := solR_len lx
            have hfc := flat_const' hsl
            rw [solR_cn lx] at hfc
            unfold FL RL at h16
            change Den Tryz.prog 53 [] [.agg (flat x), .int .i64 v] [] (.tup [.agg (flat (solR v x)), .int .i64 (sgq (x.getD v rz).q)]) at h16
            have hpre : (lowQ (c.take (j + 1)) v).length ≤ 1 ∧ (highQ (c.take (j + 1)) v).length ≤ 1 := by
              have e5 := lowQ_append (c.take (j + 1)) (c.drop (j + 1)) v
              have e6 := highQ_append (c.take (j + 1)) (c.drop (j + 1)) v
              rw [List.take_append_drop] at e5 e6
              rw [e5, List.length_append] at hlo1
              rw [e6, List.length_append] at hhi1
              omega
            by_cases hp : 0 < co x v
            · have hls := lowQ_pos (s := c.take j) hp
              have hhs := highQ_not (s := c.take j) (v := v) (x := x) (by grind)
              rw [← hsn] at hls hhs
              rw [hls, List.length_append, ← hlo] at hpre
              have hlo0 : lo = [] := List.eq_nil_of_length_eq_zero (by have h7 := hpre.1; rw [List.length_singleton] at h7; omega)
              subst hlo0
              rw [← hlo, List.nil_append] at hls
              obtain ⟨q, hq⟩ : ∃ q, co (solR v x) 8 = q := ⟨_, rfl⟩
              rw [hq] at hls hfc
              obtain ⟨y, hy⟩ : ∃ y, solR v x = y := ⟨_, rfl⟩
              rw [hy] at h16 hsl hfc
              have gy := flat_length y
              rw [show sgq (x.getD v rz).q = 1 from sgq_of_pos hp] at h16
              have e5 : ((1 : Int) == 1) = true := rfl
              have e6 : ((([] : List Rat).length : Int) + 1) = (([q] : List Rat).length : Int) := rfl
              simp (dsimp := false) (disch := omega) only [h4, r1, x27, flatF_fv, fx, lx, rls, rules, tys, eq_self, ↓reduceIte, Nat.reduceMul, Nat.reduceLT, Nat.reduceLeDiff]
              repeat refine And.intro (by omega) ?_
              refine GoCall.pure h16 (by simp [fzAs, fzA, flat_fz, flatF_fv, fz1, fz0]) ?_
              simp (dsimp := false) (disch := omega) only [flat_ids, flat_reloc, List.append_nil, gy, hsl, e5, hfc, bll, bdl, wrap64, rules, tys, eq_self, ↓reduceIte, Nat.reduceAdd, Nat.reduceMul, Nat.reduceLT, Nat.reduceLeDiff]
              repeat refine And.intro (by omega) ?_
              refine Ap_loop (j + 1, [q], hi) (by dsimp only; omega) ?_ ⟨by omega, hls.symm, by rw [hhs]; exact hhi⟩
              refine Weak.keep [0, 1, 2, 3] (by simp) rfl ?_ ?_
              · simp [leVs, leV, le1]
              · simp [leH, leO, le1s, le1, boxQ_le, boxQ_one]
            · have hneg : co x v < 0 := by grind
              have hls := lowQ_not (s := c.take j) (v := v) (x := x) hp
              have hhs := highQ_neg (s := c.take j) hneg
              rw [← hsn] at hls hhs
              rw [hhs, List.length_append, ← hhi] at hpre
              have hhi0 : hi = [] := List.eq_nil_of_length_eq_zero (by have h7 := hpre.2; rw [List.length_singleton] at h7; omega)
              subst hhi0
              rw [← hhi, List.nil_append] at hhs
              obtain ⟨q, hq⟩ : ∃ q, co (solR v x) 8 = q := ⟨_, rfl⟩
              rw [hq] at hhs hfc
              obtain ⟨y, hy⟩ : ∃ y, solR v x = y := ⟨_, rfl⟩
              rw [hy] at h16 hsl hfc
              have gy := flat_length y
              rw [show sgq (x.getD v rz).q = -1 from sgq_of_neg hneg] at h16
              have e5 : ((-1 : Int) == 1) = false := rfl
              have e7 : ((-1 : Int) == -1) = true := rfl
              have e6 : ((([] : List Rat).length : Int) + 1) = (([q] : List Rat).length : Int) := rfl
              simp (dsimp := false) (disch := omega) only [h4, r1, x27, flatF_fv, fx, lx, rls, rules, tys, eq_self, ↓reduceIte, Nat.reduceMul, Nat.reduceLT, Nat.reduceLeDiff]
              repeat refine And.intro (by omega) ?_
              refine GoCall.pure h16 (by simp [fzAs, fzA, flat_fz, flatF_fv, fz1, fz0]) ?_
              simp (dsimp := false) (disch := omega) only [flat_ids, flat_reloc, List.append_nil, gy, hsl, e5, e7, hfc, blh, bdh, wrap64, rules, tys, eq_self, ↓reduceIte, Nat.reduceAdd, Nat.reduceMul, Nat.reduceLT, Nat.reduceLeDiff]
              repeat refine And.intro (by omega) ?_
              refine Ap_loop (j + 1, lo, [q]) (by dsimp only; omega) ?_ ⟨by omega, by rw [hls]; exact hlo, hhs.symm⟩
              refine Weak.keep [0, 1, 2, 3] (by simp) rfl ?_ ?_
              · simp [leVs, leV, le1]
              · simp [leH, leO, le1s, le1, boxQ_le, boxQ_one]
          · intro h3 h4
            have htk : c.take j = c := List.take_of_length_le (by omega)
            rw [htk] at hlo hhi
            unfold refEnds at hR
            rw [← hlo, ← hhi] at hR
            rw [← hlo] at hlo1
            rw [← hhi] at hhi1
            cases lo with
            | nil =>
              have hR2 : R = bndV none := hR.symm
              subst hR2
              have e5 : ((((0 : Nat) : Int)) != 1) = true := rfl
              simp (dsimp := false) (disch := omega) only [h4, e5, Ap_end_ret, rules, tys, eq_self, ↓reduceIte, Nat.reduceAdd, Nat.reduceBEq, Nat.reduceLT, Nat.reduceLeDiff]
              repeat refine And.intro (by omega) ?_
              exact RetOK.pure rfl ⟨⟨rfl, Nat.le_refl 3⟩, ⟨rfl, Nat.le_refl 3⟩, trivial, trivial⟩ rfl
            | cons a la =>
              have hla : la = [] := List.eq_nil_of_length_eq_zero (by rw [List.length_cons] at hlo1; omega)
              subst hla
              have e5 : ((((1 : Nat) : Int)) != 1) = false := rfl
              cases hi with
              | nil =>
                have hR2 : R = bndV none := hR.symm
                subst hR2
                have e6 : ((((0 : Nat) : Int)) != 1) = true := rfl
                simp (dsimp := false) (disch := omega) only [h4, e5, e6, Ap_end_ret, rules, tys, eq_self, ↓reduceIte, Nat.reduceAdd, Nat.reduceBEq, Nat.reduceLT, Nat.reduceLeDiff]
                repeat refine And.intro (by omega) ?_
                exact RetOK.pure rfl ⟨⟨rfl, Nat.le_refl 3⟩, ⟨rfl, Nat.le_refl 3⟩, trivial, trivial⟩ rfl
              | cons b lb =>
                have hlb : lb = [] := List.eq_nil_of_length_eq_zero (by rw [List.length_cons] at hhi1; omega)
                subst hlb
                have e6 : ((((1 : Nat) : Int)) != 1) = false := rfl
                have hR2 : R = .tup [FR a, FR b, .int .i64 0] := hR.symm
                subst hR2
                rw [boxQ_one, boxQ_one]
                unfold FR Raw.v
                simp (dsimp := false) (disch := omega) only [h4, e5, rules, tys, eq_self, ↓reduceIte, Nat.reduceBEq]
                refine Draw.go (fun s => ⟨((s.env.set 79 (FR a)).set 80 (FR b)).set 6 (.int .i64 0), (s.heap.set 0 (.box true [.bool (cn a).neg, .fv (.sl (u32s (cn a).num)), .fv (.sl (u32s (cn a).den))])).set 1 (.box true [.bool (cn b).neg, .fv (.sl (u32s (cn b).num)), .fv (.sl (u32s (cn b).den))])⟩) ?_ ?_
                · unfold FR Raw.v
                  refine AN.two 0 1 (by kernel_rfl) rfl rfl ?_ ?_
                  · simp (dsimp := false) (disch := omega) only [rules, tys, eq_self, ↓reduceIte, Nat.reduceAdd, Nat.reduceLeDiff]
                    repeat refine And.intro (by omega) ?_
                    refine AN.two 1 2 (by kernel_rfl) rfl rfl ?_ ?_
                    · simp (dsimp := false) (disch := omega) only [rules, tys, eq_self, ↓reduceIte, Nat.reduceAdd, Nat.reduceLeDiff]
                      repeat refine And.intro (by omega) ?_
                      refine AN.one 2 (by kernel_rfl) rfl ?_
                      simp (dsimp := false) (disch := omega) only [rules, tys, eq_self, Nat.reduceAdd, Nat.reduceLT, Nat.reduceLeDiff]
                      repeat refine And.intro (by omega) ?_
                      refine AN.one 3 (by kernel_rfl) rfl ?_
                      simp (dsimp := false) (disch := omega) only [rules, tys, eq_self, Nat.reduceAdd, Nat.reduceLT, Nat.reduceLeDiff]
                      repeat refine And.intro (by omega) ?_
                      refine AN.one 4 (by kernel_rfl) rfl ?_
                      simp (dsimp := false) (disch := omega) only [rules]
                      exact AN.nil (by kernel_rfl) rfl
                    · simp (dsimp := false) (disch := omega) only [rules, tys, eq_self, Nat.reduceAdd, Nat.reduceLT, Nat.reduceLeDiff]
                      repeat refine And.intro (by omega) ?_
                      refine AN.one 1 (by kernel_rfl) rfl ?_
                      simp (dsimp := false) (disch := omega) only [rules, tys, eq_self, ↓reduceIte, Nat.reduceAdd, Nat.reduceLeDiff]
                      repeat refine And.intro (by omega) ?_
                      refine AN.one 3 (by kernel_rfl) rfl ?_
                      simp (dsimp := false) (disch := omega) only [rules, tys, eq_self, Nat.reduceAdd, Nat.reduceLT, Nat.reduceLeDiff]
                      repeat refine And.intro (by omega) ?_
                      refine AN.one 4 (by kernel_rfl) rfl ?_
                      simp (dsimp := false) (disch := omega) only [rules]
                      exact AN.nil (by kernel_rfl) rfl
                  · simp (dsimp := false) (disch := omega) only [rules, tys, eq_self, ↓reduceIte, Nat.reduceAdd, Nat.reduceLeDiff]
                    repeat refine And.intro (by omega) ?_
                    refine AN.one 0 (by kernel_rfl) rfl ?_
                    simp (dsimp := false) (disch := omega) only [rules, tys, eq_self, ↓reduceIte, Nat.reduceAdd, Nat.reduceLeDiff]
                    repeat refine And.intro (by omega) ?_
                    refine AN.one 2 (by kernel_rfl) rfl ?_
                    simp (dsimp := false) (disch := omega) only [rules, tys, eq_self, Nat.reduceAdd, Nat.reduceLT, Nat.reduceLeDiff]
                    repeat refine And.intro (by omega) ?_
                    refine AN.one 3 (by kernel_rfl) rfl ?_
                    simp (dsimp := false) (disch := omega) only [rules, tys, eq_self, Nat.reduceAdd, Nat.reduceLT, Nat.reduceLeDiff]
                    repeat refine And.intro (by omega) ?_
                    refine AN.one 4 (by kernel_rfl) rfl ?_
                    simp (dsimp := false) (disch := omega) only [rules]
                    exact AN.nil (by kernel_rfl) rfl
                · unfold FR Raw.v
                  simp (dsimp := false) (disch := omega) only [Ap_end_ret, rules]
                  repeat refine And.intro (by omega) ?_
                  exact RetOK.pure rfl ⟨⟨rfl, Nat.le_refl 3⟩, ⟨rfl, Nat.le_refl 3⟩, trivial, trivial⟩ rfl
end Go.Proofs.YtddnnhlcpffbdaaGreat

namespace Go.Proofs.YtddnnhlcpffbdaaGreat
open Go.AM Go.Pl

theorem w64_take' {l : List Int} (h : W64 l) (n : Nat) : W64 (l.take n) := fun x hx => h x (List.mem_of_mem_take hx)
theorem Few.t {cs : List (List Raw)} (h : Few cs) : CsT cs := by
  obtain ⟨d, hd, hl⟩ := h.dim
  refine ⟨h.cs, goodT_of (k := 8) h.cs.len9 (fun l hl _ => nrmR_ok (h.ok l hl) (by decide)) (by decide) (by decide) hd (by omega)⟩
end Go.Proofs.YtddnnhlcpffbdaaGreat

namespace Go.Proofs.YtddnnhlcpffbdaaGreat
open Go.AM Go.Pl
set_option maxRecDepth 100000
set_option maxHeartbeats 4000000

theorem elimL_good' {v : Nat} {s : List (List Raw)} (h : GoodS s) : GoodS (elimL v 8 0 s) := elimL_good 8 0 (by decide) h
theorem bndP_bd {cs : List (List Raw)} {v : Nat} (h : CsOk cs) {a b : Rat} (hb : bndP cs v = some (a, b)) : Bd 2001 a ∧ Bd 2001 b := by
  unfold bndP at hb
  split at hb
  rotate_left
  · cases hb
  have hlim := (elimL_good' (v := v) h.good).lim
  unfold ends at hb
  have hlo : ∀ q ∈ lowQ (elimL v 8 0 (sysL cs [])) v, Bd 2001 q := by
    intro q hq
    obtain ⟨b, hb, rfl⟩ := List.mem_map.1 hq
    exact (((low_ok hlim (by decide) b hb).at 8).bd (by decide)).mono (by decide)
  have hhi : ∀ q ∈ highQ (elimL v 8 0 (sysL cs [])) v, Bd 2001 q := by
    intro q hq
    obtain ⟨b, hb, rfl⟩ := List.mem_map.1 hq
    exact (((high_ok hlim (by decide) b hb).at 8).bd (by decide)).mono (by decide)
  split at hb
  · rename_i x l y g h1 h2
    rw [h1] at hlo
    rw [h2] at hhi
    cases hb
    exact ⟨hlo _ (maxL_mem _ _), hhi _ (minL_mem _ _)⟩
  · cases hb
theorem pd3 (l : List Int) (u : Int) (hl : l.length < 9223372036854775808) (hw : W64 l) (hu : -9223372036854775808 ≤ u ∧ u < 9223372036854775808) : Den Tryz.prog 3 [] [.fv (.sl (ints l)), .int .i64 u] [] (.bool true) := by
  have h10 := den10 l hl
  have hw2 := w64_take' hw 1000
  have hl2 : (l.take 1000).length ≤ 1000 := by rw [List.length_take]; omega
  obtain ⟨xs, hxs⟩ : ∃ t, l.take 1000 = t := ⟨_, rfl⟩
  rw [hxs] at h10 hw2 hl2
  have h11 := pd11 xs 0 hl2 (Nat.zero_le _) hw2
  have hb1 := fewF_le (xs := xs) (a := 0) (Nat.zero_le _)
  have hfew := fewF_few xs 0
  obtain ⟨⟨cs, b1⟩, hcs⟩ : ∃ t, fewF xs 0 = t := ⟨_, rfl⟩
  rw [hcs] at h11 hfew hb1
  dsimp only at h11 hfew hb1
  have h12 := pd12 xs b1 u hl2 hb1 hw2
  have c0 := S_closed xs 0
  have c1 := S_closed xs b1
  have h16 := pd16
  obtain ⟨⟨w, b2⟩, hpl⟩ : ∃ t, placeF xs b1 u = t := ⟨_, rfl⟩
  rw [hpl] at h12
  dsimp only at h12
  have fin : ∀ (q1 q2 : Raw) (e : Int), Den Tryz.prog 13 [] [.fv (.sl (rowsF cs)), .int .i64 w] [] (.tup [q1.v, q2.v, .int .i64 e]) → Den Tryz.prog 14 [] [.fv (.sl (rowsF cs)), .int .i64 w] [] (.tup [q1.v, q2.v, .int .i64 e]) →
      (e = 0 → q1.Ok 5000000000 ∧ q2.Ok 5000000000) → Den Tryz.prog 3 [] [.fv (.sl (ints l)), .int .i64 u] [] (.bool true) := by
    intro q1 q2 e h13 h14 hq
    have ee : (e == e) = true := by simp
    unfold S at h10 h11 h12 c0 c1
    unfold Raw.v at h13 h14
    by_cases he : e = 0
    · obtain ⟨k1, k2⟩ := hq he
      have s1 := den35 q1 q1 k1 k1
      have s2 := den35 q2 q2 k2 k2
      rw [sameR_self] at s1 s2
      unfold Raw.v at s1 s2
      have en : (e != 0) = false := by subst he; rfl
      refine den_of tabOk mixed Tryz.func3 (cd := _) rfl (by decide) rfl (n := 52) rfl rfl (m := 0) rfl ?_
      simp (dsimp := false) (disch := omega) only [List.replicate, rules]
      refine GoCall.pure h10 rfl ?_
      simp (dsimp := false) (disch := omega) only [List.append_nil, List.map_cons, List.map_nil, rules]
      refine GoCall.lend 0 h11 rfl rfl c0 rfl rfl rfl ?_
      simp (dsimp := false) (disch := omega) only [sh1, List.append_nil, rules]
      refine GoCall.lend 0 h12 rfl rfl c1 rfl rfl rfl ?_
      simp (dsimp := false) (disch := omega) only [sh2, List.append_nil, rules]
      refine GoCall.pure h13 rfl ?_
      simp (dsimp := false) (disch := omega) only [rules, tys, eq_self, Nat.reduceAdd, Nat.reduceLT, Nat.reduceLeDiff]
      refine GoCall.pure h14 rfl ?_
      simp (dsimp := false) (disch := omega) only [ee, en, rules, tys, eq_self, ↓reduceIte, Nat.reduceAdd, Nat.reduceLT, Nat.reduceLeDiff]
      refine GoCall.pure s1 rfl ?_
      simp (dsimp := false) (disch := omega) only [rules, tys, eq_self, ↓reduceIte, Nat.reduceAdd, Nat.reduceLeDiff]
      refine GoCall.pure s2 rfl ?_
      simp (dsimp := false) (disch := omega) only [rules, eq_self, ↓reduceIte, Nat.reduceAdd]
      refine GoCall.pure h16 rfl ?_
      simp (dsimp := false) (disch := omega) only [Ap_end_ret, rules, eq_self, ↓reduceIte, Nat.reduceAdd]
      exact RetOK.pure rfl ⟨trivial, trivial⟩ rfl
    · have en : (e != 0) = true := by simpa using he
      refine den_of tabOk mixed Tryz.func3 (cd := _) rfl (by decide) rfl (n := 52) rfl rfl (m := 0) rfl ?_
      simp (dsimp := false) (disch := omega) only [List.replicate, rules]
      refine GoCall.pure h10 rfl ?_
      simp (dsimp := false) (disch := omega) only [List.append_nil, List.map_cons, List.map_nil, rules]
      refine GoCall.lend 0 h11 rfl rfl c0 rfl rfl rfl ?_
      simp (dsimp := false) (disch := omega) only [sh1, List.append_nil, rules]
      refine GoCall.lend 0 h12 rfl rfl c1 rfl rfl rfl ?_
      simp (dsimp := false) (disch := omega) only [sh2, List.append_nil, rules]
      refine GoCall.pure h13 rfl ?_
      simp (dsimp := false) (disch := omega) only [rules, tys, eq_self, Nat.reduceAdd, Nat.reduceLT, Nat.reduceLeDiff]
      refine GoCall.pure h14 rfl ?_
      simp (dsimp := false) (disch := omega) only [ee, en, rules, tys, eq_self, ↓reduceIte, Nat.reduceAdd, Nat.reduceLT, Nat.reduceLeDiff]
      refine GoCall.pure h16 rfl ?_
      simp (dsimp := false) (disch := omega) only [Ap_end_ret, rules, eq_self, ↓reduceIte, Nat.reduceAdd]
      exact RetOK.pure rfl ⟨trivial, trivial⟩ rfl
  have ezR : zR = rz.v := rfl
  by_cases h40 : 40 < cs.length
  · have h13 := pd13l cs w h40
    have h14 := pd14l cs w h40
    rw [ezR] at h13 h14
    exact fin rz rz 9 h13 h14 (fun h => by cases h)
  · by_cases hw8 : w < 0 ∨ 8 ≤ w
    · have h13 := pd13z cs w (by omega) hw8
      have h14 := pd14z cs w (by omega) hw8
      rw [ezR] at h13 h14
      exact fin rz rz 1 h13 h14 (fun h => by cases h)
    · obtain ⟨v, rfl⟩ : ∃ v : Nat, w = (v : Int) := ⟨w.toNat, by omega⟩
      have h13 := pd13 cs v (by omega) hfew.cs (by omega)
      have h14 := pd14 cs v (by omega) hfew.t (by omega)
      cases hb : bndP cs v with
      | none =>
        rw [hb] at h13 h14
        unfold bndV at h13 h14
        dsimp only at h13 h14
        rw [ezR] at h13 h14
        exact fin rz rz 15 h13 h14 (fun h => by cases h)
      | some ab =>
        obtain ⟨a, b⟩ := ab
        obtain ⟨ha2, hb2⟩ := bndP_bd hfew.cs hb
        rw [hb] at h13 h14
        exact fin (cn a) (cn b) 0 h13 h14 (fun _ => ⟨(cn_ok ha2).mono (by decide), (cn_ok hb2).mono (by decide)⟩)
end Go.Proofs.YtddnnhlcpffbdaaGreat
