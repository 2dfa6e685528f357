/- Contracts: the law PolytopePoints. -/
import Derived.Test.YtddnnhlcpffbdaaGreatT13
import Derived.Test.YtddnnhlcpffbdaaGreatT12

namespace Go.Proofs.YtddnnhlcpffbdaaGreat
open Go.AM Go.Pl
set_option maxRecDepth 100000
set_option maxHeartbeats 4000000

theorem eval_lv (l : List Raw) (ps : List Rat) : ∀ k, evalN l ps k = lv l (fun i => ps.getD i 0) k
  | 0 => rfl
  | k + 1 => by
    show evalN l ps k + _ = lv l _ k + _
    rw [eval_lv l ps k]; rfl
theorem inside_iff {cs : List (List Raw)} (h9 : ∀ l ∈ cs, l.length = 9) {ps : List Rat} : insideB cs ps = true ↔ In cs (fun i => ps.getD i 0) := by
  unfold insideB
  rw [List.all_eq_true]
  refine forall_congr' fun l => forall_congr' fun hl => ?_
  have e : evalN l ps 8 = lval l (fun i => ps.getD i 0) := eval_lv l ps 8
  unfold okB
  rw [e]
  have hc := constB_iff (h9 l hl)
  cases hb : constB l with
  | true =>
    have hcc := hc.1 hb
    simp only [Bool.not_true, Bool.and_false, Bool.or_false, Bool.not_eq_true', decide_eq_false_iff_not]
    constructor
    · intro h
      by_cases h0 : lval l (fun i => ps.getD i 0) = 0
      · exact .inr ⟨hcc, h0⟩
      · exact .inl (by grind)
    · rintro (h | h) <;> grind
  | false =>
    simp only [Bool.not_false, Bool.and_true, Bool.not_eq_true', Bool.or_eq_false_iff, decide_eq_false_iff_not]
    constructor
    · intro h
      exact .inl (by grind)
    · rintro (h | h)
      · constructor <;> grind
      · rw [hc.2 h.1] at hb; cases hb
theorem canS_lim {s : List (List Raw)} (h : GoodT s) : (∀ l ∈ canS s, LOk 1000 l) ∧ (canS s).length ≤ 1000 :=
  ⟨(canS_good h).good.lim, by have := (canS_good h).good.len; omega⟩
theorem minus_lim : (∀ l ∈ [numL ((-1 : Int) : Rat)], LOk 1000 l) ∧ [numL ((-1 : Int) : Rat)].length ≤ 1000 :=
  ⟨fun l hl => by rw [List.mem_singleton] at hl; subst hl; exact (numL_okk (k := 1) (by decide) (bd_int (by decide))).mono (by decide), by decide⟩
theorem canP_lim {cs : List (List Raw)} (h : CsT cs) : (∀ l ∈ canonP cs, LOk 1000 l) ∧ (canonP cs).length ≤ 1000 := by
  unfold canonP
  split
  · exact canS_lim h.good
  · exact minus_lim
theorem elimP_lim {cs : List (List Raw)} {v : Nat} (hv : v < 8) (h : CsT cs) : (∀ l ∈ elimP cs v, LOk 1000 l) ∧ (elimP cs v).length ≤ 1000 := by
  unfold elimP
  split
  · exact canS_lim (h.good.step hv)
  · exact minus_lim

theorem pd9 (l : List Int) (hl : l.length < 9223372036854775808) (hw : W64 l) : Den Tryz.prog 9 [] [.fv (.sl (ints l))] [] (.bool true) := by
  have h10 := den10 l hl
  have hw2 := w64_take4 hw 1000
  have hl2 : (l.take 1000).length ≤ 1000 := by rw [List.length_take]; omega
  obtain ⟨xs, hxs⟩ : ∃ t, l.take 1000 = t := ⟨_, rfl⟩
  rw [hxs] at h10 hw2 hl2
  have h17 := pd17 xs 2 0 (by decide) hl2 (Nat.zero_le _) hw2
  have ha2 := nxs_le (xs := xs) (n := 4) (Nat.zero_le xs.length)
  have hbi := fun (c : List (List Raw)) (x : Nat → Rat) (w : Nat) (hw : w < 2) (h : In (boxS xs 2 0 0 ++ c) x) => box_in hw h
  simp only [Nat.reduceMul] at h17
  obtain ⟨a2, e2⟩ : ∃ t, nxs xs 4 0 = t := ⟨_, rfl⟩
  rw [e2] at h17 ha2
  have h18 := pd18 xs 2 2 a2 (by decide) (by decide) hl2 ha2 hw2
  have hlt3 := nN_lt (xs := xs) (a := a2) (n := 3) (by decide)
  simp only [Nat.reduceAdd] at h18
  have hcl := consS_len xs 2 (nN xs a2 3) (nx xs a2)
  have hco := consS_ok xs 2 (nN xs a2 3) (nx xs a2)
  have hfew := boxcons_few xs (nN xs a2 3) 0 (nx xs a2) (by omega)
  have hdim : Dim 2 (boxS xs 2 0 0 ++ consS xs 2 (nN xs a2 3) (nx xs a2)) := (boxS_dim xs 2 2 0 0 (by decide) (by decide)).append (consS_dim xs 2 _ _)
  have ha3 := consN_le (xs := xs) (n := 2) (k := nN xs a2 3) (b := nx xs a2) (nx_le ha2)
  obtain ⟨a3, e3⟩ : ∃ t, consN xs 2 (nN xs a2 3) (nx xs a2) = t := ⟨_, rfl⟩
  rw [e3] at h18 ha3
  obtain ⟨cc, hcc⟩ : ∃ t, consS xs 2 (nN xs a2 3) (nx xs a2) = t := ⟨_, rfl⟩
  rw [hcc] at h18 hcl hco hfew hdim
  have hbl := boxS_len xs 2 0 0
  have hbi2 := hbi cc
  obtain ⟨bb, hbb⟩ : ∃ t, boxS xs 2 0 0 = t := ⟨_, rfl⟩
  rw [hbb] at h17 hbl hfew hdim hbi2
  have h31 := pd31 xs a3 2 hl2 ha3 hw2 (by decide)
  have hpl := pointF_length xs 2 a3
  have hpb := pointF_bd xs 2 a3
  obtain ⟨ps, hps⟩ : ∃ t, pointF xs 2 a3 = t := ⟨_, rfl⟩
  rw [hps] at h31 hpl hpb
  have haP := nxs_le (xs := xs) (n := 4) ha3
  simp only [Nat.reduceMul] at h31
  obtain ⟨aP, eP⟩ : ∃ t, nxs xs 4 a3 = t := ⟨_, rfl⟩
  rw [eP] at h31 haP
  have h19 := denN xs aP 2 hl2 haP hw2 (by decide) (by decide)
  have hv2 := nN_lt (xs := xs) (a := aP) (n := 2) (by decide)
  have ha4 := nx_le haP
  obtain ⟨v, hv⟩ : ∃ t, nN xs aP 2 = t := ⟨_, rfl⟩
  obtain ⟨a4, e4⟩ : ∃ t, nx xs aP = t := ⟨_, rfl⟩
  rw [hv, e4] at h19
  rw [e4] at ha4
  rw [hv] at hv2
  have c0 := S_closed xs 0
  have c2 := S_closed xs a2
  have c3 := S_closed xs a3
  have cP := S_closed xs aP
  have c4 := S_closed xs a4
  have rlb := rowsF_length bb
  have rlc := rowsF_length cc
  have tkb := take_rows (ls := bb) (n := 4) (by omega)
  have hr27 := rows27 (ls := cc) (fun l hl => (hco l hl).len)
  have hap := rows_append bb cc
  have rlt := rowsF_length (bb ++ cc)
  have tkt : ∀ k, k = 4 + cc.length → List.take k (rowsF (bb ++ cc)) = rowsF (bb ++ cc) := fun k hk => take_rows (by rw [List.length_append]; omega)
  have tkt2 := tkt (4 + cc.length) rfl
  have rlt2 : (bb ++ cc).length = 4 + cc.length := by rw [List.length_append]; omega
  have hcs := hfew.cs
  obtain ⟨cs, hcs0⟩ : ∃ t, bb ++ cc = t := ⟨_, rfl⟩
  rw [hcs0] at hap rlt tkt2 rlt2 hcs hdim hfew hbi2
  have h13 := pd13 cs v (by omega) hcs (by omega)
  have h20 := pd20 cs hcs (by omega)
  have h16 := pd16
  have h4ok := hfew.ok
  unfold S at h10 h17 h18 h19 h31 c0 c2 c3 c4 cP
  obtain ⟨n, hn⟩ : ∃ t, 4 + cc.length = t := ⟨_, rfl⟩
  rw [hn] at tkt2 rlt2
  have hl11 : lent 0 1 1 = 1 := rfl
  have hr27' : (∀ y, y ∈ rowsF cc → y.length = 27) = True := eq_true hr27
  have rls : (rowsF cs).length = n := by rw [rlt]; exact rlt2
  have ht := hfew.t
  have h38 := pd38 cs ht (by omega)
  have h42 := pd42 cs v (by omega) ht (by omega)
  have h34 := pd34 cs ps (fun l hl => (h4ok l hl).mono (by decide)) (by omega) hpb (by omega)
  obtain ⟨cl1, cl2⟩ := canP_lim ht
  obtain ⟨el1, el2⟩ := elimP_lim (v := v) (by omega) ht
  have h34n := pd34 (canonP cs) ps cl1 cl2 hpb (by omega)
  have h34p := pd34 (elimP cs v) ps el1 el2 hpb (by omega)
  have hsame : insideB (canonP cs) ps = insideB cs ps := by
    rw [Bool.eq_iff_iff, inside_iff (fun l hl => (cl1 l hl).len), inside_iff hcs.len9]
    exact canon_in ht _
  rw [hsame] at h34n
  have hel : insideB cs ps = true → insideB (elimP cs v) ps = true := fun h => (inside_iff (fun l hl => (el1 l hl).len)).2 (elim_in (by omega) ht ((inside_iff hcs.len9).1 h))
  have hin : insideB cs ps = true → In cs (fun i => ps.getD i 0) := fun h => (inside_iff hcs.len9).1 h
  obtain ⟨i1, hi1⟩ : ∃ t, insideB cs ps = t := ⟨_, rfl⟩
  rw [hi1] at h34 h34n hel hin
  obtain ⟨nn, hnn⟩ : ∃ t, canonP cs = t := ⟨_, rfl⟩
  rw [hnn] at h38 h34n
  obtain ⟨pp, hpp⟩ : ∃ t, elimP cs v = t := ⟨_, rfl⟩
  rw [hpp] at h42 h34p hel
  have f0 : ((0 : Int) != 0) = false := rfl
  cases i1 with
  | false =>
    refine den_of tabOk mixed Tryz.func9 (cd := _) rfl (by decide) rfl (n := 104) rfl rfl (m := 0) rfl ?_
    simp (dsimp := false) (disch := omega) only [List.replicate, rules]
    refine GoCall.pure h10 rfl ?_
    simp (dsimp := false) (disch := omega) only [List.append_nil, List.map_cons, List.map_nil, rules]
    refine GoCall.lend 0 h17 rfl rfl c0 rfl rfl rfl ?_
    simp (dsimp := false) (disch := omega) only [sh2, List.append_nil, rules]
    refine GoCall.lend 0 h18 rfl rfl c2 rfl rfl rfl ?_
    simp (dsimp := false) (disch := omega) only [sh3, List.append_nil, hl11, hr27', tkb, hap, rlb, rlc, List.map_cons, List.map_nil, rules, tys, eq_self, ↓reduceIte, Nat.reduceAdd, Nat.reduceLT]
    repeat refine And.intro (by omega) ?_
    refine GoCall.lend 0 h31 rfl rfl c3 rfl rfl rfl ?_
    simp (dsimp := false) (disch := omega) only [sh2, List.append_nil, hn, rules, Nat.reduceAdd]
    refine GoCall.lend 0 h19 rfl rfl cP rfl rfl rfl ?_
    simp (dsimp := false) (disch := omega) only [sh2, List.append_nil, rules, Nat.reduceAdd]
    refine GoCall.pure h38 (by simp [fzAs, fzA, fz1, fz0, rls, tkt2]) ?_
    simp (dsimp := false) (disch := omega) only [List.append_nil, rules, Nat.reduceAdd]
    refine GoCall.pure h42 (by simp [fzAs, fzA, fz1, fz0, rls, tkt2]) ?_
    simp (dsimp := false) (disch := omega) only [List.append_nil, rules, Nat.reduceAdd]
    refine GoCall.pure h20 (by simp [fzAs, fzA, fz1, fz0, rls, tkt2]) ?_
    simp (dsimp := false) (disch := omega) only [List.append_nil, rules, Nat.reduceAdd]
    refine GoCall.pure h34 (by simp [fzAs, fzA, fz1, fz0, rls, tkt2]) ?_
    simp (dsimp := false) (disch := omega) only [List.append_nil, f0, rules, tys, eq_self, ↓reduceIte, Nat.reduceAdd]
    refine GoCall.pure h34n rfl ?_
    have f2 : (false == false) = true := rfl
    simp (dsimp := false) (disch := omega) only [List.append_nil, f2, Bool.not_true, Bool.not_false, rules, tys, ↓reduceIte, reduceCtorEq, Nat.reduceAdd]
    refine GoCall.pure h16 rfl ?_
    simp (dsimp := false) (disch := omega) only [List.append_nil, Ap_end_ret, rules, Nat.reduceAdd]
    exact RetOK.pure rfl ⟨trivial, trivial⟩ rfl
  | true =>
    rw [hel rfl] at h34p
    have hx := hin rfl
    have hinner : innerB cs = true := (innerB_iff hcs.len9).2 ⟨_, hx⟩
    rw [hinner] at h20
    cases hb : bndP cs v with
    | none =>
      exfalso
      rw [bndP_none (by omega) hcs (fun x hx => hbi2 x v (by omega) hx) hb] at hinner
      cases hinner
    | some ab =>
      obtain ⟨a, b⟩ := ab
      obtain ⟨bda, bdb⟩ := bnd_145 (by omega) hdim h4ok hcs hb
      have hval := ((bndP_some (by omega) hcs hb).2 (ps.getD v 0)).1 ⟨_, hx, rfl⟩
      rw [hb] at h13
      unfold bndV at h13
      dsimp only at h13
      have hrow := rats_getD (ps := ps) (i := v) (by omega)
      have hqb := getD_bd hpb v
      have rlp := rats_length ps
      rw [hpl] at rlp
      obtain ⟨q, hq⟩ : ∃ q, ps.getD v 0 = q := ⟨_, rfl⟩
      rw [hq] at hval hrow hqb
      have ok0 : ∀ {q : Rat} {k : Nat}, Bd k q → k ≤ 1000 → (cn q).Ok 1000000000 := fun hq hk => (cn_ok hq).mono (by omega)
      have h23a := den29 (cn a) (cn q) (ok0 bda (by decide)) (ok0 hqb (by decide))
      have h23b := den29 (cn q) (cn b) (ok0 hqb (by decide)) (ok0 bdb (by decide))
      rw [cn_q, cn_q] at h23a h23b
      have e8 : decide (sgq (a - q) < 0) = true := decide_eq_true (sgq_lt.2 hval.1)
      have e9 : decide (sgq (q - b) < 0) = true := decide_eq_true (sgq_lt.2 hval.2)
      have e0 : ((0 : Int) == 0) = true := rfl
      unfold FR Raw.v at h13
      unfold Raw.v at h23a h23b
      refine den_of tabOk mixed Tryz.func9 (cd := _) rfl (by decide) rfl (n := 104) rfl rfl (m := 0) rfl ?_
      simp (dsimp := false) (disch := omega) only [List.replicate, rules]
      refine GoCall.pure h10 rfl ?_
      simp (dsimp := false) (disch := omega) only [List.append_nil, List.map_cons, List.map_nil, rules]
      refine GoCall.lend 0 h17 rfl rfl c0 rfl rfl rfl ?_
      simp (dsimp := false) (disch := omega) only [sh2, List.append_nil, rules]
      refine GoCall.lend 0 h18 rfl rfl c2 rfl rfl rfl ?_
      simp (dsimp := false) (disch := omega) only [sh3, List.append_nil, hl11, hr27', tkb, hap, rlb, rlc, List.map_cons, List.map_nil, rules, tys, eq_self, ↓reduceIte, Nat.reduceAdd, Nat.reduceLT]
      repeat refine And.intro (by omega) ?_
      refine GoCall.lend 0 h31 rfl rfl c3 rfl rfl rfl ?_
      simp (dsimp := false) (disch := omega) only [sh2, List.append_nil, hn, rules, Nat.reduceAdd]
      refine GoCall.lend 0 h19 rfl rfl cP rfl rfl rfl ?_
      simp (dsimp := false) (disch := omega) only [sh2, List.append_nil, rules, Nat.reduceAdd]
      refine GoCall.pure h38 (by simp [fzAs, fzA, fz1, fz0, rls, tkt2]) ?_
      simp (dsimp := false) (disch := omega) only [List.append_nil, rules, Nat.reduceAdd]
      refine GoCall.pure h42 (by simp [fzAs, fzA, fz1, fz0, rls, tkt2]) ?_
      simp (dsimp := false) (disch := omega) only [List.append_nil, rules, Nat.reduceAdd]
      refine GoCall.pure h20 (by simp [fzAs, fzA, fz1, fz0, rls, tkt2]) ?_
      simp (dsimp := false) (disch := omega) only [List.append_nil, rules, Nat.reduceAdd]
      refine GoCall.pure h34 (by simp [fzAs, fzA, fz1, fz0, rls, tkt2]) ?_
      simp (dsimp := false) (disch := omega) only [List.append_nil, f0, rules, tys, eq_self, ↓reduceIte, Nat.reduceAdd]
      refine GoCall.pure h34n rfl ?_
      have f2 : (true == true) = true := rfl
      simp (dsimp := false) (disch := omega) only [List.append_nil, f2, Bool.not_true, rules, tys, ↓reduceIte, reduceCtorEq, Nat.reduceAdd]
      refine GoCall.pure h13 (by simp [fzAs, fzA, fz1, fz0, rls, tkt2]) ?_
      simp (dsimp := false) (disch := omega) only [List.append_nil, rules, tys, eq_self, Nat.reduceAdd, Nat.reduceLT, Nat.reduceLeDiff]
      refine Draw.intro (by kernel_rfl) ?_
      simp (dsimp := false) (disch := omega) only [rules]
      refine GoCall.pure h34p rfl ?_
      simp (dsimp := false) (disch := omega) only [List.append_nil, e0, hrow, rlp, rules, tys, eq_self, ↓reduceIte, Nat.reduceAdd, Nat.reduceLT, Nat.reduceLeDiff]
      repeat refine And.intro (by omega) ?_
      refine GoCall.pure h23a rfl ?_
      simp (dsimp := false) (disch := omega) only [List.append_nil, e8, hrow, rlp, rules, tys, eq_self, ↓reduceIte, Nat.reduceAdd, Nat.reduceLT, Nat.reduceLeDiff]
      repeat refine And.intro (by omega) ?_
      refine GoCall.pure h23b rfl ?_
      simp (dsimp := false) (disch := omega) only [List.append_nil, e9, rules, tys, eq_self, ↓reduceIte, Nat.reduceAdd]
      refine GoCall.pure h16 rfl ?_
      simp (dsimp := false) (disch := omega) only [List.append_nil, Ap_end_ret, rules, eq_self, ↓reduceIte, Nat.reduceAdd]
      exact RetOK.pure rfl ⟨trivial, trivial⟩ rfl
end Go.Proofs.YtddnnhlcpffbdaaGreat
