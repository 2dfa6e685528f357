/- Contracts: the reader: few, place, Chance. -/
import Derived.Test.YtddnnhlcpffbdaaGreatT12

namespace Go.Proofs.YtddnnhlcpffbdaaGreat
open Go.AM Go.Pl
set_option maxRecDepth 100000
set_option maxHeartbeats 4000000

def fewC (n : Nat) : List (List Raw) := (List.range n).map (fun i => numL (((i % 2 : Nat) : Int) : Rat))
theorem fewC_len (n : Nat) : (fewC n).length = n := by simp [fewC]
theorem fewC_at {n i : Nat} (h : i < n) : (fewC n).getD i [] = numL (((i % 2 : Nat) : Int) : Rat) := by
  simp [fewC, List.getD_eq_getElem?_getD, h]
def fewF (xs : List Int) (a : Nat) : List (List Raw) × Nat := match nN xs a 10 with
  | 0 => (fewC (if nN xs (nx xs a) 2 = 0 then 40 else 41), nx xs (nx xs a))
  | 1 | 2 | 3 => (boxS xs 2 0 (nx xs a) ++ consS xs 2 (nN xs (nxs xs 4 (nx xs a)) 3) (nx xs (nxs xs 4 (nx xs a))), consN xs 2 (nN xs (nxs xs 4 (nx xs a)) 3) (nx xs (nxs xs 4 (nx xs a))))
  | 4 => (consS xs 3 (nN xs (nx xs a) 5) (nx xs (nx xs a)), consN xs 3 (nN xs (nx xs a) 5) (nx xs (nx xs a)))
  | _ => (consS xs 2 (nN xs (nx xs a) 5) (nx xs (nx xs a)), consN xs 2 (nN xs (nx xs a) 5) (nx xs (nx xs a)))
theorem fewF_le {xs : List Int} {a : Nat} (h : a ≤ xs.length) : (fewF xs a).2 ≤ xs.length := by
  unfold fewF
  split
  · exact nx_le (nx_le h)
  · exact consN_le (nx_le (nxs_le (nx_le h)))
  · exact consN_le (nx_le (nxs_le (nx_le h)))
  · exact consN_le (nx_le (nxs_le (nx_le h)))
  · exact consN_le (nx_le (nx_le h))
  · exact consN_le (nx_le (nx_le h))
theorem rows27 {ls : List (List Raw)} (h : ∀ l ∈ ls, l.length = 9) : ∀ y ∈ rowsF ls, y.length = 27 := by
  intro y hy
  obtain ⟨l, hl, rfl⟩ := List.mem_map.1 hy
  rw [flatF_length, h l hl]
theorem rows_append (a b : List (List Raw)) : rowsF a ++ rowsF b = rowsF (a ++ b) := by simp [rowsF]
theorem pd11 (xs : List Int) (a : Nat) (hl : xs.length ≤ 1000) (ha : a ≤ xs.length) (hw : W64 xs) :
    Den Tryz.prog 11 [S xs a] [.ptr 0 0 0] [S xs (fewF xs a).2] (.fv (.sl (rowsF (fewF xs a).1))) := by
  have h10 := denN xs a 10 hl ha hw (by decide) (by decide)
  have hlt := nN_lt (xs := xs) (a := a) (n := 10) (by decide)
  have hc := S_closed xs a
  have ha1 := nx_le ha
  unfold fewF
  obtain ⟨m, hm⟩ : ∃ t, nN xs a 10 = t := ⟨_, rfl⟩
  obtain ⟨a1, e1⟩ : ∃ t, nx xs a = t := ⟨_, rfl⟩
  rw [hm] at h10 hlt ⊢
  rw [e1] at h10 ha1 ⊢
  have c1 := S_closed xs a1
  have i00 : ((((0 : Nat) : Int)) == 0) = true := rfl
  match m, h10, hlt with
  | 0, h10, hlt =>
    have h82 := den82 xs a1 [40, 41] hl ha1 hw (by decide) (by decide)
    have hlt2 := nN_lt (xs := xs) (a := a1) (n := 2) (by decide)
    have ha2 := nx_le ha1
    show Den _ _ _ _ [S xs (nx xs a1)] (.fv (.sl (rowsF (fewC (if nN xs a1 2 = 0 then 40 else 41)))))
    obtain ⟨n, hn⟩ : ∃ n : Nat, (if nN xs a1 2 = 0 then 40 else 41) = n := ⟨_, rfl⟩
    have hn41 : n = 40 ∨ n = 41 := by rw [← hn]; split <;> simp
    have hpk : ([40, 41] : List Int).getD (nN xs a1 2) 0 = (n : Int) := by
      rw [← hn]
      have : nN xs a1 2 = 0 ∨ nN xs a1 2 = 1 := by omega
      rcases this with h | h <;> rw [h] <;> rfl
    rw [show ([40, 41] : List Int).length = 2 from rfl, hpk] at h82
    rw [hn]
    obtain ⟨a2, e2⟩ : ∃ t, nx xs a1 = t := ⟨_, rfl⟩
    rw [e2] at h82 ha2 ⊢
    have hz : List.replicate n [FV.lit (.bool false), .sl [], .sl [], .lit (.bool false), .sl [], .sl [], .lit (.bool false), .sl [], .sl [], .lit (.bool false), .sl [], .sl [], .lit (.bool false), .sl [], .sl [], .lit (.bool false), .sl [], .sl [], .lit (.bool false), .sl [], .sl [], .lit (.bool false), .sl [], .sl [], .lit (.bool false), .sl [], .sl []] = rowsF (List.replicate n (List.replicate 9 rz)) := by
      simp only [rowsF, List.map_replicate]; rfl
    unfold S at h10 h82 hc c1 ⊢
    refine den_of tabOk mixed Tryz.func11 (cd := _) rfl (by decide) rfl (n := 41) rfl rfl (m := 1) rfl ?_
    simp (dsimp := false) (disch := omega) only [List.replicate, rules]
    refine GoCall.lend 0 h10 rfl rfl hc rfl rfl rfl ?_
    simp (dsimp := false) (disch := omega) only [sh2, List.append_nil, i00, rules, tys, eq_self, ↓reduceIte, Nat.reduceAdd, Nat.reduceMul, Nat.reduceLT, Nat.reduceLeDiff]
    refine GoCall.lend 0 h82 rfl rfl c1 rfl rfl rfl ?_
    simp (dsimp := false) (disch := omega) only [List.append_nil, sh2l, hz, rules, tys, eq_self, ↓reduceIte, Nat.reduceAdd, Nat.reduceLT]
    repeat refine And.intro (by omega) ?_
    refine WA.loop (α := Nat × List (List Raw)) (fun ⟨i, l⟩ => ⟨[.ptr 0 0 0, .any, .nilsl, .lsl 1 0 n 27, .int .i64 i] ++ List.replicate 37 .any, [S xs a2, .row true (rowsF l)]⟩)
      (fun ⟨i, _⟩ => n - i) (fun ⟨i, l⟩ => i ≤ n ∧ l.length = n ∧ (∀ j, j < n → (l.getD j []).length = 9) ∧ ∀ j, j < i → l.getD j [] = numL (((j % 2 : Nat) : Int) : Rat)) (0, List.replicate n (List.replicate 9 rz)) ?_ ?_ ?_
    · refine Weak.keep [0, 2] (by simp) rfl ?_ ?_
      · simp [leVs, leV, le1]
      · simp [leH, leO, le1s, le1, S]
    · exact ⟨Nat.zero_le _, by simp, fun j hj => by simp [List.getD_eq_getElem?_getD, hj], fun j hj => by omega⟩
    · rintro ⟨i, l⟩ ⟨hi, hll, hl9, hld⟩
      have c2 := S_closed xs a2
      unfold S at c2
      dsimp only
      unfold S
      simp (dsimp := false) (disch := omega) only [List.replicate, rules, tys, eq_self, ↓reduceIte]
      refine Br.dec ?_ ?_
      · intro h1 h2
        have h24 := den24 (((i % 2 : Nat) : Int)) (by omega)
        change Den Tryz.prog 24 [] _ [] (cn (((i % 2 : Nat) : Int) : Rat)).v at h24
        have h30 := pd30 (cn (((i % 2 : Nat) : Int) : Rat)) (Raw.Ok.mono (cn_ok (bd_int (by omega))) (by decide))
        rw [cn_q] at h30
        have hnl := numL_len (((i % 2 : Nat) : Int) : Rat)
        have r4 := rowsF_getD l i
        have hil := hl9 i (by omega)
        have hld2 : ∀ j, j < i + 1 → (l.set i (numL (((i % 2 : Nat) : Int) : Rat))).getD j [] = numL (((j % 2 : Nat) : Int) : Rat) := fun j hj => by
          rw [getD_set (by omega)]
          by_cases hji : j = i
          · rw [if_pos hji, hji]
          · rw [if_neg hji]; exact hld j (by omega)
        have hl92 : ∀ j, j < n → ((l.set i (numL (((i % 2 : Nat) : Int) : Rat))).getD j []).length = 9 := fun j hj => by
          rw [getD_set (by omega)]
          by_cases hji : j = i
          · rw [if_pos hji]; exact hnl
          · rw [if_neg hji]; exact hl9 j hj
        have hst := rowsF_set l i (numL (((i % 2 : Nat) : Int) : Rat))
        obtain ⟨r, hr⟩ : ∃ t, cn (((i % 2 : Nat) : Int) : Rat) = t := ⟨_, rfl⟩
        rw [hr] at h24 h30
        obtain ⟨y, hy⟩ : ∃ t, numL (((i % 2 : Nat) : Int) : Rat) = t := ⟨_, rfl⟩
        rw [hy] at h30 hnl hld2 hl92 hst
        obtain ⟨c0, hc0⟩ : ∃ x, l.getD i [] = x := ⟨_, rfl⟩
        rw [hc0] at r4 hil
        have em : ((i : Int) % 2) = ((i % 2 : Nat) : Int) := by omega
        have rl := rowsF_length l
        have fi := flatF_length c0
        have di : List.drop 27 (flatF c0) = [] := flatF_drop27 hil
        have gy := flat_length y
        have gy27 := flat_take27 hnl
        have y27 := flatF_take27 hnl
        have fy := flatF_length y
        unfold Raw.v at h24 h30
        unfold RL at h30
        simp (dsimp := false) (disch := omega) only [h2, em, tmodc, rules, tys, eq_self, ↓reduceIte]
        repeat refine And.intro (by omega) ?_
        refine GoCall.pure h24 rfl ?_
        simp (dsimp := false) (disch := omega) only [List.append_nil, rules, Nat.reduceAdd]
        refine GoCall.pure h30 rfl ?_
        simp (dsimp := false) (disch := omega) only [flat_ids, flat_reloc, flat_fz, List.append_nil, gy, hnl, r4, fi, hil, di, fy, hst, rl, wrap64, rules, tys, eq_self, ↓reduceIte, Nat.reduceAdd, Nat.reduceMul, Nat.reduceLT, Nat.reduceLeDiff]
        repeat refine And.intro (by omega) ?_
        refine Ap_loop (i + 1, l.set i y) (by dsimp only; omega) ?_ ⟨by omega, by rw [List.length_set]; exact hll, hl92, hld2⟩
        refine Weak.keep [0, 1] (by simp) rfl ?_ ?_
        · simp [leVs, leV, le1]
        · simp [leH, leO, le1s, le1]
      · intro h1 h2
        have hin : i = n := by omega
        have hle : l = fewC n := by
          apply List.ext_getElem
          · rw [fewC_len, hll]
          · intro j hj1 hj2
            have e1 := hld j (by omega)
            have e2 := fewC_at (n := n) (i := j) (by omega)
            rw [List.getD_eq_getElem?_getD, List.getElem?_eq_getElem hj1] at e1
            rw [List.getD_eq_getElem?_getD, List.getElem?_eq_getElem hj2] at e2
            exact e1.trans e2.symm
        subst hle
        have rl := rowsF_length (fewC n)
        rw [fewC_len] at rl
        have tk := take_rows (ls := fewC n) (n := n) (by rw [fewC_len]; exact Nat.le_refl _)
        simp (dsimp := false) (disch := omega) only [h2, Ap_end_ret, rules, Nat.reduceBEq]
        refine RetOK.lentB rfl ⟨trivial, trivial⟩ rfl (S_closed xs _) rfl ?_ rfl
        have hi1 : List.idxOf? 1 [0] = none := rfl
        simp (disch := omega) only [rl, tk, hi1, List.drop_zero, Nat.zero_add, Nat.le_refl, ↓reduceIte, St.get, fzX, oneRes, fzV, fzC, fz1, fz0, Option.map_some, List.getD_cons_succ, List.getD_cons_zero, List.getElem?_cons_zero, List.getElem?_cons_succ]
  | 1, h10, hlt =>
    have h17 := pd17 xs 2 a1 (by decide) hl ha1 hw
    have ha2 := nxs_le (n := 4) ha1
    simp only [Nat.reduceMul] at h17
    obtain ⟨a2, e2⟩ : ∃ t, nxs xs 4 a1 = t := ⟨_, rfl⟩
    rw [e2] at h17 ha2
    show Den _ _ _ _ [S xs (consN xs 2 (nN xs (nxs xs 4 a1) 3) (nx xs (nxs xs 4 a1)))] (.fv (.sl (rowsF (boxS xs 2 0 a1 ++ consS xs 2 (nN xs (nxs xs 4 a1) 3) (nx xs (nxs xs 4 a1))))))
    rw [e2]
    have h18 := pd18 xs 2 2 a2 (by decide) (by decide) hl ha2 hw
    have hcl := consS_len xs 2 (nN xs a2 (2 + 1)) (nx xs a2)
    have hlt3 := nN_lt (xs := xs) (a := a2) (n := 3) (by decide)
    have hco := consS_ok xs 2 (nN xs a2 3) (nx xs a2)
    simp only [Nat.reduceAdd] at h18 hcl
    obtain ⟨a3, e3⟩ : ∃ t, consN xs 2 (nN xs a2 3) (nx xs a2) = t := ⟨_, rfl⟩
    rw [e3] at h18 ⊢
    obtain ⟨cc, hcc⟩ : ∃ t, consS xs 2 (nN xs a2 3) (nx xs a2) = t := ⟨_, rfl⟩
    rw [hcc] at h18 hcl hco ⊢
    have hbl := boxS_len xs 2 0 a1
    obtain ⟨bb, hbb⟩ : ∃ t, boxS xs 2 0 a1 = t := ⟨_, rfl⟩
    rw [hbb] at h17 hbl ⊢
    have c2 := S_closed xs a2
    have rlb := rowsF_length bb
    have rlc := rowsF_length cc
    have tkb := take_rows (ls := bb) (n := 4) (by omega)
    have hr27 := rows27 (ls := cc) (fun l hl => (hco l hl).len)
    have hap := rows_append bb cc
    have rlt := rowsF_length (bb ++ cc)
    have tkt : ∀ k, k = 4 + cc.length → List.take k (rowsF (bb ++ cc)) = rowsF (bb ++ cc) := fun k hk => take_rows (by rw [List.length_append]; omega)
    have tkt2 := tkt (4 + cc.length) rfl
    have b0 : (((1 : Nat) : Int) == 0) = false := rfl
    have b1 : (((1 : Nat) : Int) == 1) = true := rfl
    unfold S at h10 h17 h18 hc c1 c2 ⊢
    refine den_of tabOk mixed Tryz.func11 (cd := _) rfl (by decide) rfl (n := 41) rfl rfl (m := 1) rfl ?_
    simp (dsimp := false) (disch := omega) only [List.replicate, rules]
    refine GoCall.lend 0 h10 rfl rfl hc rfl rfl rfl ?_
    simp (dsimp := false) (disch := omega) only [sh2, List.append_nil, b0, b1, rules, tys, eq_self, ↓reduceIte]
    refine GoCall.lend 0 h17 rfl rfl c1 rfl rfl rfl ?_
    simp (dsimp := false) (disch := omega) only [sh2, List.append_nil, rules]
    refine GoCall.lend 0 h18 rfl rfl c2 rfl rfl rfl ?_
    have hl11 : lent 0 1 1 = 1 := rfl
    have hr27' : (∀ y, y ∈ rowsF cc → y.length = 27) = True := eq_true hr27
    simp (dsimp := false) (disch := omega) only [sh3, List.append_nil, hl11, hr27', tkb, hap, rlb, rlc, List.map_cons, List.map_nil, Ap_end_ret, rules, tys, eq_self, ↓reduceIte, Nat.reduceAdd, Nat.reduceLT]
    repeat refine And.intro (by omega) ?_
    refine RetOK.lentB rfl ⟨trivial, trivial⟩ rfl (S_closed xs _) rfl ?_ rfl
    have hi1 : List.idxOf? 2 [0] = none := rfl
    have rlt2 : (rowsF (bb ++ cc)).length = 4 + cc.length := by rw [rlt, List.length_append]; omega
    simp (disch := omega) only [rlt2, tkt2, hi1, List.drop_zero, Nat.zero_add, Nat.le_refl, ↓reduceIte, St.get, fzX, oneRes, fzV, fzC, fz1, fz0, Option.map_some, List.getD_cons_succ, List.getD_cons_zero, List.getElem?_cons_zero, List.getElem?_cons_succ]
  | 2, h10, hlt =>
    have h17 := pd17 xs 2 a1 (by decide) hl ha1 hw
    have ha2 := nxs_le (n := 4) ha1
    simp only [Nat.reduceMul] at h17
    obtain ⟨a2, e2⟩ : ∃ t, nxs xs 4 a1 = t := ⟨_, rfl⟩
    rw [e2] at h17 ha2
    show Den _ _ _ _ [S xs (consN xs 2 (nN xs (nxs xs 4 a1) 3) (nx xs (nxs xs 4 a1)))] (.fv (.sl (rowsF (boxS xs 2 0 a1 ++ consS xs 2 (nN xs (nxs xs 4 a1) 3) (nx xs (nxs xs 4 a1))))))
    rw [e2]
    have h18 := pd18 xs 2 2 a2 (by decide) (by decide) hl ha2 hw
    have hcl := consS_len xs 2 (nN xs a2 (2 + 1)) (nx xs a2)
    have hlt3 := nN_lt (xs := xs) (a := a2) (n := 3) (by decide)
    have hco := consS_ok xs 2 (nN xs a2 3) (nx xs a2)
    simp only [Nat.reduceAdd] at h18 hcl
    obtain ⟨a3, e3⟩ : ∃ t, consN xs 2 (nN xs a2 3) (nx xs a2) = t := ⟨_, rfl⟩
    rw [e3] at h18 ⊢
    obtain ⟨cc, hcc⟩ : ∃ t, consS xs 2 (nN xs a2 3) (nx xs a2) = t := ⟨_, rfl⟩
    rw [hcc] at h18 hcl hco ⊢
    have hbl := boxS_len xs 2 0 a1
    obtain ⟨bb, hbb⟩ : ∃ t, boxS xs 2 0 a1 = t := ⟨_, rfl⟩
    rw [hbb] at h17 hbl ⊢
    have c2 := S_closed xs a2
    have rlb := rowsF_length bb
    have rlc := rowsF_length cc
    have tkb := take_rows (ls := bb) (n := 4) (by omega)
    have hr27 := rows27 (ls := cc) (fun l hl => (hco l hl).len)
    have hap := rows_append bb cc
    have rlt := rowsF_length (bb ++ cc)
    have tkt : ∀ k, k = 4 + cc.length → List.take k (rowsF (bb ++ cc)) = rowsF (bb ++ cc) := fun k hk => take_rows (by rw [List.length_append]; omega)
    have tkt2 := tkt (4 + cc.length) rfl
    have b0 : (((2 : Nat) : Int) == 0) = false := rfl
    have b1 : (((2 : Nat) : Int) == 1) = false := rfl
    have b2 : (((2 : Nat) : Int) == 2) = true := rfl
    unfold S at h10 h17 h18 hc c1 c2 ⊢
    refine den_of tabOk mixed Tryz.func11 (cd := _) rfl (by decide) rfl (n := 41) rfl rfl (m := 1) rfl ?_
    simp (dsimp := false) (disch := omega) only [List.replicate, rules]
    refine GoCall.lend 0 h10 rfl rfl hc rfl rfl rfl ?_
    simp (dsimp := false) (disch := omega) only [sh2, List.append_nil, b0, b1, b2, rules, tys, eq_self, ↓reduceIte]
    refine GoCall.lend 0 h17 rfl rfl c1 rfl rfl rfl ?_
    simp (dsimp := false) (disch := omega) only [sh2, List.append_nil, rules]
    refine GoCall.lend 0 h18 rfl rfl c2 rfl rfl rfl ?_
    have hl11 : lent 0 1 1 = 1 := rfl
    have hr27' : (∀ y, y ∈ rowsF cc → y.length = 27) = True := eq_true hr27
    simp (dsimp := false) (disch := omega) only [sh3, List.append_nil, hl11, hr27', tkb, hap, rlb, rlc, List.map_cons, List.map_nil, Ap_end_ret, rules, tys, eq_self, ↓reduceIte, Nat.reduceAdd, Nat.reduceLT]
    repeat refine And.intro (by omega) ?_
    refine RetOK.lentB rfl ⟨trivial, trivial⟩ rfl (S_closed xs _) rfl ?_ rfl
    have hi1 : List.idxOf? 2 [0] = none := rfl
    have rlt2 : (rowsF (bb ++ cc)).length = 4 + cc.length := by rw [rlt, List.length_append]; omega
    simp (disch := omega) only [rlt2, tkt2, hi1, List.drop_zero, Nat.zero_add, Nat.le_refl, ↓reduceIte, St.get, fzX, oneRes, fzV, fzC, fz1, fz0, Option.map_some, List.getD_cons_succ, List.getD_cons_zero, List.getElem?_cons_zero, List.getElem?_cons_succ]
  | 3, h10, hlt =>
    have h17 := pd17 xs 2 a1 (by decide) hl ha1 hw
    have ha2 := nxs_le (n := 4) ha1
    simp only [Nat.reduceMul] at h17
    obtain ⟨a2, e2⟩ : ∃ t, nxs xs 4 a1 = t := ⟨_, rfl⟩
    rw [e2] at h17 ha2
    show Den _ _ _ _ [S xs (consN xs 2 (nN xs (nxs xs 4 a1) 3) (nx xs (nxs xs 4 a1)))] (.fv (.sl (rowsF (boxS xs 2 0 a1 ++ consS xs 2 (nN xs (nxs xs 4 a1) 3) (nx xs (nxs xs 4 a1))))))
    rw [e2]
    have h18 := pd18 xs 2 2 a2 (by decide) (by decide) hl ha2 hw
    have hcl := consS_len xs 2 (nN xs a2 (2 + 1)) (nx xs a2)
    have hlt3 := nN_lt (xs := xs) (a := a2) (n := 3) (by decide)
    have hco := consS_ok xs 2 (nN xs a2 3) (nx xs a2)
    simp only [Nat.reduceAdd] at h18 hcl
    obtain ⟨a3, e3⟩ : ∃ t, consN xs 2 (nN xs a2 3) (nx xs a2) = t := ⟨_, rfl⟩
    rw [e3] at h18 ⊢
    obtain ⟨cc, hcc⟩ : ∃ t, consS xs 2 (nN xs a2 3) (nx xs a2) = t := ⟨_, rfl⟩
    rw [hcc] at h18 hcl hco ⊢
    have hbl := boxS_len xs 2 0 a1
    obtain ⟨bb, hbb⟩ : ∃ t, boxS xs 2 0 a1 = t := ⟨_, rfl⟩
    rw [hbb] at h17 hbl ⊢
    have c2 := S_closed xs a2
    have rlb := rowsF_length bb
    have rlc := rowsF_length cc
    have tkb := take_rows (ls := bb) (n := 4) (by omega)
    have hr27 := rows27 (ls := cc) (fun l hl => (hco l hl).len)
    have hap := rows_append bb cc
    have rlt := rowsF_length (bb ++ cc)
    have tkt : ∀ k, k = 4 + cc.length → List.take k (rowsF (bb ++ cc)) = rowsF (bb ++ cc) := fun k hk => take_rows (by rw [List.length_append]; omega)
    have tkt2 := tkt (4 + cc.length) rfl
    have b0 : (((3 : Nat) : Int) == 0) = false := rfl
    have b1 : (((3 : Nat) : Int) == 1) = false := rfl
    have b2 : (((3 : Nat) : Int) == 2) = false := rfl
    have b3 : (((3 : Nat) : Int) == 3) = true := rfl
    unfold S at h10 h17 h18 hc c1 c2 ⊢
    refine den_of tabOk mixed Tryz.func11 (cd := _) rfl (by decide) rfl (n := 41) rfl rfl (m := 1) rfl ?_
    simp (dsimp := false) (disch := omega) only [List.replicate, rules]
    refine GoCall.lend 0 h10 rfl rfl hc rfl rfl rfl ?_
    simp (dsimp := false) (disch := omega) only [sh2, List.append_nil, b0, b1, b2, b3, rules, tys, eq_self, ↓reduceIte]
    refine GoCall.lend 0 h17 rfl rfl c1 rfl rfl rfl ?_
    simp (dsimp := false) (disch := omega) only [sh2, List.append_nil, rules]
    refine GoCall.lend 0 h18 rfl rfl c2 rfl rfl rfl ?_
    have hl11 : lent 0 1 1 = 1 := rfl
    have hr27' : (∀ y, y ∈ rowsF cc → y.length = 27) = True := eq_true hr27
    simp (dsimp := false) (disch := omega) only [sh3, List.append_nil, hl11, hr27', tkb, hap, rlb, rlc, List.map_cons, List.map_nil, Ap_end_ret, rules, tys, eq_self, ↓reduceIte, Nat.reduceAdd, Nat.reduceLT]
    repeat refine And.intro (by omega) ?_
    refine RetOK.lentB rfl ⟨trivial, trivial⟩ rfl (S_closed xs _) rfl ?_ rfl
    have hi1 : List.idxOf? 2 [0] = none := rfl
    have rlt2 : (rowsF (bb ++ cc)).length = 4 + cc.length := by rw [rlt, List.length_append]; omega
    simp (disch := omega) only [rlt2, tkt2, hi1, List.drop_zero, Nat.zero_add, Nat.le_refl, ↓reduceIte, St.get, fzX, oneRes, fzV, fzC, fz1, fz0, Option.map_some, List.getD_cons_succ, List.getD_cons_zero, List.getElem?_cons_zero, List.getElem?_cons_succ]
  | 4, h10, hlt =>
    have h18 := pd18 xs 3 4 a1 (by decide) (by decide) hl ha1 hw
    simp only [Nat.reduceAdd] at h18
    show Den _ _ _ _ [S xs (consN xs 3 (nN xs a1 5) (nx xs a1))] (.fv (.sl (rowsF (consS xs 3 (nN xs a1 5) (nx xs a1)))))
    obtain ⟨a3, e3⟩ : ∃ t, consN xs 3 (nN xs a1 5) (nx xs a1) = t := ⟨_, rfl⟩
    rw [e3] at h18 ⊢
    obtain ⟨cc, hcc⟩ : ∃ t, consS xs 3 (nN xs a1 5) (nx xs a1) = t := ⟨_, rfl⟩
    rw [hcc] at h18 ⊢
    have b0 : (((4 : Nat) : Int) == 0) = false := rfl
    have b1 : (((4 : Nat) : Int) == 1) = false := rfl
    have b2 : (((4 : Nat) : Int) == 2) = false := rfl
    have b3 : (((4 : Nat) : Int) == 3) = false := rfl
    have b4 : (((4 : Nat) : Int) == 4) = true := rfl
    unfold S at h10 h18 hc c1 ⊢
    refine den_of tabOk mixed Tryz.func11 (cd := _) rfl (by decide) rfl (n := 41) rfl rfl (m := 1) rfl ?_
    simp (dsimp := false) (disch := omega) only [List.replicate, rules]
    refine GoCall.lend 0 h10 rfl rfl hc rfl rfl rfl ?_
    simp (dsimp := false) (disch := omega) only [sh2, List.append_nil, b0, b1, b2, b3, b4, rules, tys, eq_self, ↓reduceIte]
    refine GoCall.lend 0 h18 rfl rfl c1 rfl rfl rfl ?_
    simp (dsimp := false) (disch := omega) only [sh3, List.append_nil, Ap_end_ret, rules]
    exact RetOK.lentB rfl ⟨trivial, trivial⟩ rfl (S_closed xs _) rfl rfl rfl
  | m + 5, h10, hlt =>
    have h18 := pd18 xs 2 4 a1 (by decide) (by decide) hl ha1 hw
    simp only [Nat.reduceAdd] at h18
    show Den _ _ _ _ [S xs (consN xs 2 (nN xs a1 5) (nx xs a1))] (.fv (.sl (rowsF (consS xs 2 (nN xs a1 5) (nx xs a1)))))
    obtain ⟨a3, e3⟩ : ∃ t, consN xs 2 (nN xs a1 5) (nx xs a1) = t := ⟨_, rfl⟩
    rw [e3] at h18 ⊢
    obtain ⟨cc, hcc⟩ : ∃ t, consS xs 2 (nN xs a1 5) (nx xs a1) = t := ⟨_, rfl⟩
    rw [hcc] at h18 ⊢
    have b0 : (((m + 5 : Nat) : Int) == 0) = false := by rw [beq_eq_false_iff_ne]; omega
    have b1 : (((m + 5 : Nat) : Int) == 1) = false := by rw [beq_eq_false_iff_ne]; omega
    have b2 : (((m + 5 : Nat) : Int) == 2) = false := by rw [beq_eq_false_iff_ne]; omega
    have b3 : (((m + 5 : Nat) : Int) == 3) = false := by rw [beq_eq_false_iff_ne]; omega
    have b4 : (((m + 5 : Nat) : Int) == 4) = false := by rw [beq_eq_false_iff_ne]; omega
    unfold S at h10 h18 hc c1 ⊢
    refine den_of tabOk mixed Tryz.func11 (cd := _) rfl (by decide) rfl (n := 41) rfl rfl (m := 1) rfl ?_
    simp (dsimp := false) (disch := omega) only [List.replicate, rules]
    refine GoCall.lend 0 h10 rfl rfl hc rfl rfl rfl ?_
    simp (dsimp := false) (disch := omega) only [sh2, List.append_nil, b0, b1, b2, b3, b4, rules, tys, eq_self, ↓reduceIte]
    refine GoCall.lend 0 h18 rfl rfl c1 rfl rfl rfl ?_
    simp (dsimp := false) (disch := omega) only [sh3, List.append_nil, Ap_end_ret, rules]
    exact RetOK.lentB rfl ⟨trivial, trivial⟩ rfl (S_closed xs _) rfl rfl rfl

theorem pd12 (xs : List Int) (a : Nat) (v : Int) (hl : xs.length ≤ 1000) (ha : a ≤ xs.length) (hw : W64 xs) :
    Den Tryz.prog 12 [S xs a] [.ptr 0 0 0, .int .i64 v] [S xs (placeF xs a v).2] (.int .i64 (placeF xs a v).1) := by
  have h6 := denN xs a 6 hl ha hw (by decide) (by decide)
  have hc := S_closed xs a
  have ha1 := nx_le ha
  unfold placeF
  obtain ⟨m, hm⟩ : ∃ m, nN xs a 6 = m := ⟨_, rfl⟩
  obtain ⟨a1, e1⟩ : ∃ t, nx xs a = t := ⟨_, rfl⟩
  rw [hm, e1] at h6
  rw [e1] at ha1
  rw [hm, e1]
  have c1 := S_closed xs a1
  by_cases h0 : m > 0
  · rw [if_pos h0]
    have hb : decide ((m : Int) > 0) = true := decide_eq_true (by omega)
    have h3 := denN xs a1 3 hl ha1 hw (by decide) (by decide)
    unfold S at h6 h3 hc c1 ⊢
    refine den_of tabOk mixed Tryz.func12 (cd := _) rfl (by decide) rfl (n := 9) rfl rfl (m := 1) rfl ?_
    simp (dsimp := false) (disch := omega) only [List.replicate, rules]
    refine GoCall.lend 0 h6 rfl rfl hc rfl rfl rfl ?_
    simp (dsimp := false) (disch := omega) only [sh2, List.append_nil, hb, rules, tys, eq_self, ↓reduceIte]
    refine GoCall.lend 0 h3 rfl rfl c1 rfl rfl rfl ?_
    simp (dsimp := false) (disch := omega) only [sh2, List.append_nil, Ap_end_ret, rules]
    refine RetOK.lentB rfl ⟨trivial, trivial⟩ rfl (S_closed xs _) rfl rfl rfl
  · rw [if_neg h0]
    have hb : decide ((m : Int) > 0) = false := decide_eq_false (by omega)
    unfold S at h6 hc ⊢
    refine den_of tabOk mixed Tryz.func12 (cd := _) rfl (by decide) rfl (n := 9) rfl rfl (m := 1) rfl ?_
    simp (dsimp := false) (disch := omega) only [List.replicate, rules]
    refine GoCall.lend 0 h6 rfl rfl hc rfl rfl rfl ?_
    simp (dsimp := false) (disch := omega) only [sh2, List.append_nil, hb, Ap_end_ret, rules, tys, eq_self, ↓reduceIte]
    refine RetOK.lentB rfl ⟨trivial, trivial⟩ rfl (S_closed xs _) rfl rfl rfl
end Go.Proofs.YtddnnhlcpffbdaaGreat

namespace Go.Proofs.YtddnnhlcpffbdaaGreat
open Go.AM Go.Pl
set_option maxRecDepth 100000
set_option maxHeartbeats 4000000

abbrev zR : PV := .agg [.bool false, .fv (.sl []), .fv (.sl [])]
def bndV : Option (Rat × Rat) → PV
  | none => .tup [zR, zR, .int .i64 15]
  | some (a, b) => .tup [FR a, FR b, .int .i64 0]
theorem lowQ_pos {s : List (List Raw)} {v : Nat} {x : List Raw} (h : 0 < co x v) : lowQ (s ++ [x]) v = lowQ s v ++ [co (solR v x) 8] := by simp [lowQ, lowL_pos h]
theorem lowQ_not {s : List (List Raw)} {v : Nat} {x : List Raw} (h : ¬ 0 < co x v) : lowQ (s ++ [x]) v = lowQ s v := by simp [lowQ, lowL_not h]
theorem highQ_neg {s : List (List Raw)} {v : Nat} {x : List Raw} (h : co x v < 0) : highQ (s ++ [x]) v = highQ s v ++ [co (solR v x) 8] := by simp [highQ, highL_neg h]
theorem highQ_not {s : List (List Raw)} {v : Nat} {x : List Raw} (h : ¬ co x v < 0) : highQ (s ++ [x]) v = highQ s v := by simp [highQ, highL_not h]
theorem solR_cn {v : Nat} {x : List Raw} (h : x.length = 9) : (solR v x).getD 8 rz = cn (co (solR v x) 8) := by
  have hl := solR_len (v := v) h
  unfold co
  obtain ⟨q, hq⟩ : ∃ q, (solR v x).getD 8 rz = cn q := by
    unfold solR at hl ⊢
    rw [List.getD_eq_getElem?_getD, List.getElem?_eq_getElem (by omega), Option.getD_some, List.getElem_map]
    exact ⟨_, rfl⟩
  rw [hq, cn_q]
theorem rats_snoc (ps : List Rat) (q : Rat) : rats ps ++ [[FV.lit (Value.bool (cn q).neg), FV.sl (u32s (cn q).num), FV.sl (u32s (cn q).den)]] = rats (ps ++ [q]) := by simp [rats, Raw.f]
theorem take_rats {ps : List Rat} {n : Nat} (h : ps.length ≤ n) : List.take n (rats ps) = rats ps := List.take_of_length_le (by rw [rats_length]; exact h)
abbrev Zb : Ob := .box true [.bool false, .nilsl, .nilsl]

theorem pd13l (cs : List (List Raw)) (v : Int) (hl : 40 < cs.length) : Den Tryz.prog 13 [] [.fv (.sl (rowsF cs)), .int .i64 v] [] (.tup [zR, zR, .int .i64 9]) := by
  have rl := rowsF_length cs
  have e1 : decide ((cs.length : Int) > 40) = true := decide_eq_true (by omega)
  refine den_of tabOk mixed Tryz.func13 (cd := _) rfl (by decide) rfl (n := 99) rfl rfl (m := 0) rfl ?_
  simp (dsimp := false) (disch := omega) only [List.replicate, rl, e1, Ap_end_ret, rules, tys, eq_self, ↓reduceIte, Nat.reduceAdd, Nat.reduceLT, Nat.reduceLeDiff]
  repeat refine And.intro (by omega) ?_
  exact RetOK.pure rfl ⟨⟨rfl, Nat.le_refl 3⟩, ⟨rfl, Nat.le_refl 3⟩, trivial, trivial⟩ rfl
theorem pd13z (cs : List (List Raw)) (v : Int) (hl : cs.length ≤ 40) (hv : v < 0 ∨ 8 ≤ v) : Den Tryz.prog 13 [] [.fv (.sl (rowsF cs)), .int .i64 v] [] (.tup [zR, zR, .int .i64 1]) := by
  have rl := rowsF_length cs
  have e1 : decide ((cs.length : Int) > 40) = false := decide_eq_false (by omega)
  by_cases h : v < 0
  · have h1 : decide (v < 0) = true := decide_eq_true h
    refine den_of tabOk mixed Tryz.func13 (cd := _) rfl (by decide) rfl (n := 99) rfl rfl (m := 0) rfl ?_
    simp (dsimp := false) (disch := omega) only [List.replicate, rl, e1, h1, Ap_end_ret, rules, tys, eq_self, ↓reduceIte, Nat.reduceAdd, Nat.reduceLT, Nat.reduceLeDiff]
    repeat refine And.intro (by omega) ?_
    exact RetOK.pure rfl ⟨⟨rfl, Nat.le_refl 3⟩, ⟨rfl, Nat.le_refl 3⟩, trivial, trivial⟩ rfl
  · have h1 : decide (v < 0) = false := decide_eq_false h
    have h2 : decide (v ≥ 8) = true := decide_eq_true (by omega)
    refine den_of tabOk mixed Tryz.func13 (cd := _) rfl (by decide) rfl (n := 99) rfl rfl (m := 0) rfl ?_
    simp (dsimp := false) (disch := omega) only [List.replicate, rl, e1, h1, h2, Ap_end_ret, rules, tys, eq_self, ↓reduceIte, Nat.reduceAdd, Nat.reduceLT, Nat.reduceLeDiff]
    repeat refine And.intro (by omega) ?_
    exact RetOK.pure rfl ⟨⟨rfl, Nat.le_refl 3⟩, ⟨rfl, Nat.le_refl 3⟩, trivial, trivial⟩ rfl
theorem pd13 (cs : List (List Raw)) (v : Nat) (hv : v < 8) (h : CsOk cs) (hl : cs.length ≤ 40) : Den Tryz.prog 13 [] [.fv (.sl (rowsF cs)), .int .i64 v] [] (bndV (bndP cs v)) := by
  obtain ⟨R, hR⟩ : ∃ R, bndV (bndP cs v) = R := ⟨_, rfl⟩
  rw [hR]
  unfold bndP innerB at hR
  have rl := rowsF_length cs
  have e1 : decide ((cs.length : Int) > 40) = false := decide_eq_false (by omega)
  have e2 : decide ((v : Int) < 0) = false := decide_eq_false (by omega)
  have e3 : decide ((v : Int) ≥ 8) = false := decide_eq_false (by omega)
  have h44 := pd44g cs h
  have hg0 := h.good
  have h45 := pd45 _ hg0
  cases hvb : violB cs with
  | true =>
    rw [hvb, if_pos rfl] at h44
    rw [hvb] at hR
    have hR2 : R = bndV none := hR.symm
    subst hR2
    refine den_of tabOk mixed Tryz.func13 (cd := _) rfl (by decide) rfl (n := 99) rfl rfl (m := 0) rfl ?_
    simp (dsimp := false) (disch := omega) only [List.replicate, rl, e1, e2, e3, rules, tys, eq_self, ↓reduceIte]
    refine GoCall.pure h44 rfl ?_
    simp (dsimp := false) (disch := omega) only [Bool.not_false, Ap_end_ret, rules, tys, eq_self, ↓reduceIte, Nat.reduceAdd, Nat.reduceLT, Nat.reduceLeDiff]
    repeat refine And.intro (by omega) ?_
    exact RetOK.pure rfl ⟨⟨rfl, Nat.le_refl 3⟩, ⟨rfl, Nat.le_refl 3⟩, trivial, trivial⟩ rfl
  | false =>
    rw [hvb, if_neg (by simp)] at h44
    rw [hvb] at hR
    cases hfb : feasB (sysL cs []) with
    | false =>
      rw [hfb] at hR h45
      have hR2 : R = bndV none := hR.symm
      subst hR2
      refine den_of tabOk mixed Tryz.func13 (cd := _) rfl (by decide) rfl (n := 99) rfl rfl (m := 0) rfl ?_
      simp (dsimp := false) (disch := omega) only [List.replicate, rl, e1, e2, e3, rules, tys, eq_self, ↓reduceIte]
      refine GoCall.pure h44 rfl ?_
      simp (dsimp := false) (disch := omega) only [Bool.not_true, rules, Nat.reduceAdd]
      refine GoCall.pure h45 rfl ?_
      simp (dsimp := false) (disch := omega) only [Bool.not_false, Ap_end_ret, rules, tys, eq_self, ↓reduceIte, Nat.reduceAdd, Nat.reduceLT, Nat.reduceLeDiff]
      repeat refine And.intro (by omega) ?_
      exact RetOK.pure rfl ⟨⟨rfl, Nat.le_refl 3⟩, ⟨rfl, Nat.le_refl 3⟩, trivial, trivial⟩ rfl
    | true =>
      rw [hfb, Bool.not_false, Bool.and_true, if_pos rfl] at hR
      rw [hfb] at h45
      obtain ⟨s0, hs0⟩ : ∃ s, sysL cs [] = s := ⟨_, rfl⟩
      obtain ⟨fin, hfin⟩ : ∃ s, elimL v 8 0 s0 = s := ⟨_, rfl⟩
      rw [hs0] at h44 hg0 h45 hfb hR
      rw [hfin] at hR
      refine den_of tabOk mixed Tryz.func13 (cd := _) rfl (by decide) rfl (n := 99) rfl rfl (m := 0) rfl ?_
      simp (dsimp := false) (disch := omega) only [List.replicate, rl, e1, e2, e3, rules, tys, eq_self, ↓reduceIte]
      refine GoCall.pure h44 rfl ?_
      simp (dsimp := false) (disch := omega) only [Bool.not_true, rules, Nat.reduceAdd]
      refine GoCall.pure h45 rfl ?_
      simp (dsimp := false) (disch := omega) only [Bool.not_true, rules, ↓reduceIte, Nat.reduceAdd]
      refine WA.loop (α := Nat × List (List Raw)) (fun ⟨i, s⟩ => ⟨[.fv (.sl (rowsF cs)), .int .i64 v, .any, .any, .ptr 0 0 0, .ptr 1 0 0, .int .i64 0, .fv (.sl (rowsF s))] ++ List.replicate 36 .any ++ [.int .i64 i] ++ List.replicate 56 .any, [Zb, Zb]⟩)
        (fun ⟨i, _⟩ => 8 - i) (fun ⟨i, s⟩ => i ≤ 8 ∧ GoodS s ∧ feasB s = true ∧ elimL v (8 - i) i s = fin) (0, s0) ?_ ?_ ?_
      · refine Weak.keep [0, 1] (by simp) rfl ?_ ?_
        · simp [leVs, leV, le1]
        · simp [leH, leO, le1s, le1]
      · exact ⟨Nat.zero_le _, hg0, hfb, hfin⟩
      · rintro ⟨i, s⟩ ⟨hi, hg, hf, hel⟩
        simp (dsimp := false) (disch := omega) only [List.replicate, rules, tys, eq_self, ↓reduceIte]
        refine Br.dec ?_ ?_
        · intro h1 h2
          have h8 : 8 - i = (8 - (i + 1)) + 1 := by omega
          rw [h8] at hel
          unfold elimL at hel
          simp (dsimp := false) (disch := omega) only [h2, rules, tys, eq_self, ↓reduceIte]
          refine Br.bneInt ?_ ?_
          · intro h3 h4
            have hne : ¬ i = v := by omega
            rw [if_neg hne] at hel
            have hnb : badB s i = false := by
              cases hb : badB s i with
              | false => rfl
              | true => rw [hg.bad (by omega) hb] at hf; cases hf
            have h46 := pd46g s i (by omega) hg
            rw [hnb, if_neg (by simp)] at h46
            simp (dsimp := false) (disch := omega) only [h4, rules]
            refine GoCall.pure h46 rfl ?_
            simp (dsimp := false) (disch := omega) only [wrap64, rules, tys, eq_self, ↓reduceIte, Nat.reduceAdd]
            refine Ap_loop (i + 1, stepL s i) (by dsimp only; omega) ?_ ⟨by omega, hg.step (by omega), by rw [hg.feas (by omega) hnb]; exact hf, hel⟩
            refine Weak.keep [0, 1] (by simp) rfl ?_ ?_
            · simp [leVs, leV, le1]
            · simp [leH, leO, le1s, le1]
          · intro h3 h4
            have he : i = v := by omega
            rw [if_pos he] at hel
            simp (dsimp := false) (disch := omega) only [h4, wrap64, rules, tys, eq_self, ↓reduceIte]
            refine Ap_loop (i + 1, s) (by dsimp only; omega) ?_ ⟨by omega, hg, hf, hel⟩
            refine Weak.keep [0, 1] (by simp) rfl ?_ ?_
            · simp [leVs, leV, le1]
            · simp [leH, leO, le1s, le1]
        · intro h1 h2
          have h8 : 8 - i = 0 := by omega
          rw [h8] at hel
          have hel2 : s = fin := hel
          subst hel2
          have hlim := hg.lim
          have hn12 := hg.len
          obtain ⟨n, hnn⟩ : ∃ n, s.length = n := ⟨_, rfl⟩
          have rls := rowsF_length s
          rw [hnn] at rls hn12
          simp (dsimp := false) (disch := omega) only [h2, rls, rules, tys, Nat.reduceBEq]
          refine WA.loop (α := Nat × List Rat × List Rat) (fun ⟨j, lo, hi⟩ => ⟨[.fv (.sl (rowsF cs)), .int .i64 v, .any, .any, .ptr 0 0 0, .ptr 1 0 0, .int .i64 0, .fv (.sl (rowsF s)), .any, .any, .lsl 2 0 lo.length 3, .lsl 3 0 hi.length 3] ++ List.replicate 45 .any ++ [.fv (.sl (rowsF s)), .int .i64 n, .int .i64 j] ++ List.replicate 41 .any, [Zb, Zb, .row true (rats lo), .row true (rats hi)]⟩)
            (fun ⟨j, _⟩ => n - j) (fun ⟨j, lo, hi⟩ => j ≤ n ∧ lo = lowQ (s.take j) v ∧ hi = highQ (s.take j) v) (0, [], []) ?_ ?_ ?_
          · refine Weak.nil 10 3 (by decide) rfl ?_
            refine Weak.nil 11 3 (by decide) rfl ?_
            refine Weak.keep [0, 1, 2, 3] (by simp) rfl ?_ ?_
            · simp [leVs, leV, le1]
            · simp [leH, leO, le1s, le1]
              simp [rats]
          · exact ⟨Nat.zero_le _, rfl, rfl⟩
          · rintro ⟨j, lo, hi⟩ ⟨hj, hlo, hhi⟩
            have hsz := split_length (s.take j) v
            have hszl : lo.length = (lowL (s.take j) v).length := by rw [hlo]; simp [lowQ]
            have hszh : hi.length = (highL (s.take j) v).length := by rw [hhi]; simp [highQ]
            rw [← hszl, ← hszh, List.length_take, hnn] at hsz
            obtain ⟨A, hA⟩ : ∃ L, lo.length = L := ⟨_, rfl⟩
            obtain ⟨C, hC⟩ : ∃ L, hi.length = L := ⟨_, rfl⟩
            have rlo := rats_length lo
            have rhi := rats_length hi
            dsimp only
            rw [hA] at hsz rlo ⊢
            rw [hC] at hsz rhi ⊢
            have tkl := take_rats (ps := lo) (n := A) (by omega)
            have tkh := take_rats (ps := hi) (n := C) (by omega)
            simp (dsimp := false) (disch := omega) only [List.replicate, rules, tys, eq_self, ↓reduceIte]
            refine Br.dec ?_ ?_
            · intro h3 h4
              have hsn := take_snoc (cs := s) (i := j) (by omega)
              have hmem := at_mem (ls := s) (i := j) (by omega)
              have r1 := rowsF_getD s j
              obtain ⟨x, hxx⟩ : ∃ x, s.getD j [] = x := ⟨_, rfl⟩
              rw [hxx] at hmem r1 hsn
              have hx := hlim x hmem
              have lx := hx.len
              have x27 := flatF_take27 lx
              have fx := flatF_length x
              have gx := flat_length x
              have gx27 := flat_take27 lx
              by_cases h0 : co x v = 0
              · have h16 := den16n x v hx hv h0
                unfold FL RL at h16
                obtain ⟨zs, hzz⟩ : ∃ zs, (x.map Raw.q).map cn = zs := ⟨_, rfl⟩
                have hzl : zs.length = 9 := by rw [← hzz]; simp [lx]
                have gz := flat_length zs
                rw [hzz] at h16
                have e5 : decide ((0 : Int) > 0) = false := rfl
                have e6 : decide ((0 : Int) < 0) = false := rfl
                simp (dsimp := false) (disch := omega) only [List.append_nil, h4, r1, x27, flatF_fv, fx, gx, lx, gx27, rules, tys, eq_self, ↓reduceIte, Nat.reduceAdd, Nat.reduceMul, Nat.reduceLT, Nat.reduceLeDiff]
                repeat refine And.intro (by omega) ?_
                refine GoCall.pure h16 (by simp [fzAs, fzA, flat_fz, flatF_fv, fz1, fz0]) ?_
                simp (dsimp := false) (disch := omega) only [flat_ids, flat_reloc, List.append_nil, gz, hzl, e5, wrap64, rules, tys, eq_self, ↓reduceIte, Nat.reduceAdd, Nat.reduceMul, Nat.reduceLT, Nat.reduceLeDiff]
                repeat refine And.intro (by omega) ?_
                refine Ap_loop (j + 1, lo, hi) (by dsimp only; omega) ?_ ⟨by omega, by rw [hsn, lowQ_not (by grind), hlo], by rw [hsn, highQ_not (by grind), hhi]⟩
                refine Weak.keep [0, 1, 2, 3] (by simp) rfl ?_ ?_
                · simp [leVs, leV, le1]
                  omega
                · simp [leH, leO, le1s, le1]
              · have h16 := den16 x v hx hv h0
                have hsl : (solR v x).length = 9 := solR_len lx
                have hfc := flat_const' hsl
                rw [solR_cn lx] at hfc
                unfold FL RL at h16
                change Den Tryz.prog 47 [] [.agg (flat x), .int .i64 v] [] (.tup [.agg (flat (solR v x)), .int .i64 (sgq (x.getD v rz).q), .int .i64 0]) at h16
                by_cases hp : 0 < co x v
                · have hls := lowQ_pos (s := s.take j) hp
                  have hhs := highQ_not (s := s.take j) (v := v) (x := x) (by grind)
                  have hap := rats_snoc lo (co (solR v x) 8)
                  obtain ⟨q, hq⟩ : ∃ q, co (solR v x) 8 = q := ⟨_, rfl⟩
                  rw [hq] at hls hap hfc
                  obtain ⟨y, hy⟩ : ∃ y, solR v x = y := ⟨_, rfl⟩
                  rw [hy] at h16 hsl hfc
                  have gy := flat_length y
                  rw [show sgq (x.getD v rz).q = 1 from sgq_of_pos hp] at h16
                  have e5 : decide ((1 : Int) > 0) = true := rfl
                  simp (dsimp := false) (disch := omega) only [List.append_nil, h4, r1, x27, flatF_fv, fx, gx, lx, gx27, rules, tys, eq_self, ↓reduceIte, Nat.reduceAdd, Nat.reduceMul, Nat.reduceLT, Nat.reduceLeDiff]
                  repeat refine And.intro (by omega) ?_
                  refine GoCall.pure h16 (by simp [fzAs, fzA, flat_fz, flatF_fv, fz1, fz0]) ?_
                  simp (dsimp := false) (disch := omega) only [flat_ids, flat_reloc, List.append_nil, gy, hsl, e5, hfc, tkl, hap, rlo, wrap64, rules, tys, eq_self, ↓reduceIte, Nat.reduceAdd, Nat.reduceMul, Nat.reduceBEq, Nat.reduceLT, Nat.reduceLeDiff]
                  repeat refine And.intro (by omega) ?_
                  refine Ap_loop (j + 1, lo ++ [q], hi) (by dsimp only; omega) ?_ ⟨by omega, by rw [hsn, hls, hlo], by rw [hsn, hhs, hhi]⟩
                  refine Weak.keep [0, 1, 7, 3] (by simp) rfl ?_ ?_
                  · simp [leVs, leV, le1]
                    omega
                  · simp [leH, leO, le1s, le1]
                · have hneg : co x v < 0 := by grind
                  have hls := lowQ_not (s := s.take j) (v := v) (x := x) hp
                  have hhs := highQ_neg (s := s.take j) hneg
                  have hap := rats_snoc hi (co (solR v x) 8)
                  obtain ⟨q, hq⟩ : ∃ q, co (solR v x) 8 = q := ⟨_, rfl⟩
                  rw [hq] at hhs hap hfc
                  obtain ⟨y, hy⟩ : ∃ y, solR v x = y := ⟨_, rfl⟩
                  rw [hy] at h16 hsl hfc
                  have gy := flat_length y
                  rw [show sgq (x.getD v rz).q = -1 from sgq_of_neg hneg] at h16
                  have e5 : decide ((-1 : Int) > 0) = false := rfl
                  have e6 : decide ((-1 : Int) < 0) = true := rfl
                  simp (dsimp := false) (disch := omega) only [List.append_nil, h4, r1, x27, flatF_fv, fx, gx, lx, gx27, rules, tys, eq_self, ↓reduceIte, Nat.reduceAdd, Nat.reduceMul, Nat.reduceLT, Nat.reduceLeDiff]
                  repeat refine And.intro (by omega) ?_
                  refine GoCall.pure h16 (by simp [fzAs, fzA, flat_fz, flatF_fv, fz1, fz0]) ?_
                  simp (dsimp := false) (disch := omega) only [flat_ids, flat_reloc, List.append_nil, gy, hsl, e5, e6, hfc, tkh, hap, rhi, wrap64, rules, tys, eq_self, ↓reduceIte, Nat.reduceAdd, Nat.reduceMul, Nat.reduceBEq, Nat.reduceLT, Nat.reduceLeDiff]
                  repeat refine And.intro (by omega) ?_
                  refine Ap_loop (j + 1, lo, hi ++ [q]) (by dsimp only; omega) ?_ ⟨by omega, by rw [hsn, hls, hlo], by rw [hsn, hhs, hhi]⟩
                  refine Weak.keep [0, 1, 2, 7] (by simp) rfl ?_ ?_
                  · simp [leVs, leV, le1]
                    omega
                  · simp [leH, leO, le1s, le1]
            · intro h3 h4
              have htk : s.take j = s := List.take_of_length_le (by omega)
              rw [htk] at hlo hhi
              unfold ends at hR
              have hbd : (∀ q ∈ lo, Bd 10000 q) ∧ ∀ q ∈ hi, Bd 10000 q := by
                constructor
                · intro q hq
                  rw [hlo] at hq
                  obtain ⟨b, hb, rfl⟩ := List.mem_map.1 hq
                  exact (((low_ok hlim (by decide) b hb).at 8).bd (by decide)).mono (by decide)
                · intro q hq
                  rw [hhi] at hq
                  obtain ⟨b, hb, rfl⟩ := List.mem_map.1 hq
                  exact (((high_ok hlim (by decide) b hb).at 8).bd (by decide)).mono (by decide)
              rw [← hlo, ← hhi] at hR
              cases lo with
              | nil =>
                have hR2 : R = bndV none := hR.symm
                subst hR2
                have hA0 : A = 0 := hA.symm
                subst hA0
                have e5 : ((((0 : Nat) : Int)) == 0) = true := rfl
                simp (dsimp := false) (disch := omega) only [h4, e5, Ap_end_ret, rules, tys, eq_self, ↓reduceIte, Nat.reduceAdd, Nat.reduceBEq, Nat.reduceLT, Nat.reduceLeDiff]
                repeat refine And.intro (by omega) ?_
                exact RetOK.pure rfl ⟨⟨rfl, Nat.le_refl 3⟩, ⟨rfl, Nat.le_refl 3⟩, trivial, trivial⟩ rfl
              | cons a l =>
                have hA0 : ((A : Int) == 0) = false := by
                  have : A ≠ 0 := by rw [← hA]; simp
                  simp only [beq_eq_false_iff_ne]; omega
                cases hi with
                | nil =>
                  have hR2 : R = bndV none := hR.symm
                  subst hR2
                  have hC0 : C = 0 := hC.symm
                  subst hC0
                  have e5 : ((((0 : Nat) : Int)) == 0) = true := rfl
                  simp (dsimp := false) (disch := omega) only [h4, e5, hA0, Ap_end_ret, rules, tys, eq_self, ↓reduceIte, Nat.reduceAdd, Nat.reduceBEq, Nat.reduceLT, Nat.reduceLeDiff]
                  repeat refine And.intro (by omega) ?_
                  exact RetOK.pure rfl ⟨⟨rfl, Nat.le_refl 3⟩, ⟨rfl, Nat.le_refl 3⟩, trivial, trivial⟩ rfl
                | cons b g =>
                  have hC0 : ((C : Int) == 0) = false := by
                    have : C ≠ 0 := by rw [← hC]; simp
                    simp only [beq_eq_false_iff_ne]; omega
                  have hR2 : R = .tup [FR (maxL a l), FR (minL b g), .int .i64 0] := hR.symm
                  subst hR2
                  have h48 := pd48 a l hbd.1 (by simp at hA; omega)
                  have h50 := pd50 b g hbd.2 (by simp at hC; omega)
                  obtain ⟨us, hus⟩ : ∃ us, rats (a :: l) = us := ⟨_, rfl⟩
                  obtain ⟨ws, hws⟩ : ∃ us, rats (b :: g) = us := ⟨_, rfl⟩
                  rw [hus] at h48 tkl rlo
                  rw [hws] at h50 tkh rhi
                  rw [hus, hws]
                  rw [FR_eq] at h48 h50 ⊢
                  rw [FR_eq]
                  simp (dsimp := false) (disch := omega) only [h4, hA0, hC0, rules, tys, eq_self, ↓reduceIte, Nat.reduceBEq]
                  refine GoCall.pure h48 (by simp [fzAs, fzA, fz1, fz0, rlo, tkl]) ?_
                  simp (dsimp := false) (disch := omega) only [rules, Nat.reduceAdd]
                  refine GoCall.pure h50 (by simp [fzAs, fzA, fz1, fz0, rhi, tkh]) ?_
                  simp (dsimp := false) (disch := omega) only [Ap_end_ret, rules, tys, eq_self, Nat.reduceAdd, Nat.reduceLT, Nat.reduceLeDiff]
                  repeat refine And.intro (by omega) ?_
                  exact RetOK.pure rfl ⟨⟨rfl, Nat.le_refl 3⟩, ⟨rfl, Nat.le_refl 3⟩, trivial, trivial⟩ rfl
end Go.Proofs.YtddnnhlcpffbdaaGreat

namespace Go.Proofs.YtddnnhlcpffbdaaGreat
open Go.AM Go.Pl
set_option maxRecDepth 100000
set_option maxHeartbeats 4000000

theorem pd120 (rs : List Raw) (hrs : LOk 100000 rs) : Den Tryz.prog 120 [] [RL rs] [] (FL (nrm rs)) := by
  have hlen := hrs.len
  have hfl := flat_length rs
  have hne : rs ≠ [] := fun h => by rw [h] at hlen; simp at hlen
  have hlo := hrs.ok _ (leadL_mem hne)
  have h42 := den42 rs (hrs.mono (by decide))
  have h26 := den26 (leadL rs) (hlo.mono (by decide))
  obtain ⟨c, hc⟩ : ∃ c, leadL rs = c := ⟨_, rfl⟩
  have b1 := hlo.bd (by decide)
  rw [hc] at hlo h42 h26 b1
  by_cases h0 : c.q = 0
  · have h43 := den43
    rw [nrm_zero (by rw [hc]; exact h0)]
    rw [sgq_eq_zero.2 h0] at h26
    have h27 := FL_len (List.replicate 9 0) rfl
    unfold FL RL at h43 ⊢
    unfold Raw.v at h42 h26
    obtain ⟨zs, hz⟩ : ∃ zs, (List.replicate 9 (0 : Rat)).map cn = zs := ⟨_, rfl⟩
    have hzl : zs.length = 9 := by rw [← hz]; simp
    rw [hz] at h43 h27 ⊢
    unfold RL at h42
    have e00 : ((0 : Int) == 0) = true := rfl
    refine den_of tabOk mixed Tryz.func120 (cd := _) rfl (by decide) rfl (n := 25) rfl rfl (m := 0) rfl ?_
    simp (dsimp := false) (disch := omega) only [flat_take27 hlen, rules, tys, eq_self, ↓reduceIte, Nat.reduceLT]
    refine ⟨by omega, by omega, ?_⟩
    refine GoCall.pure h42 (by simp [fzAs, fzA, flat_fz, flatF_fv]) ?_
    simp (dsimp := false) (disch := omega) only [flat_ids, List.append_nil, rules, tys, eq_self, ↓reduceIte, Nat.reduceAdd, Nat.reduceLT, Nat.reduceLeDiff]
    refine GoCall.pure h26 rfl ?_
    simp (dsimp := false) (disch := omega) only [List.append_nil, e00, rules, tys, eq_self, ↓reduceIte, Nat.reduceAdd]
    refine GoCall.pure h43 rfl ?_
    simp (dsimp := false) (disch := omega) only [flat_reloc, List.append_nil, h27, Ap_end_ret, rules, tys, eq_self, Nat.reduceAdd, Nat.reduceLT, Nat.reduceLeDiff]
    exact RetOK.form rfl rfl hzl
  · have h1 := den24 1 (by decide)
    have hb1 : Bd 1 ((1 : Int) : Rat) := ⟨by decide, by decide⟩
    have hnr := nrm_of (by rw [hc]; exact h0)
    rw [hc] at hnr
    have hmap : rs.map (fun r => r.q / absq c.q) = rs.map (fun r => r.q * (1 / absq c.q)) := by
      apply List.map_congr_left; intro r _; exact (one_div_mul _ _).symm
    rw [hnr, hmap]
    have hba : Bd 100000 (absq c.q) := by unfold absq; split; exact b1.neg; exact b1
    have ha0 := absq_zero h0
    have hok2 := cn_ok (hb1.div hba ha0 (by decide))
    have hsc := den46 rs (cn (1 / absq c.q)) (hrs.mono (by decide)) (Raw.Ok.mono hok2 (by decide))
    rw [cn_q] at hsc
    have hgl : (rs.map (fun r => r.q * (1 / absq c.q))).length = 9 := by simp [hlen]
    have h27 := FL_len _ hgl
    have e10 : ((-1 : Int) == 0) = false := rfl
    have e11 : ((-1 : Int) == -1) = true := rfl
    have e20 : ((1 : Int) == 0) = false := rfl
    have e21 : ((1 : Int) == -1) = false := rfl
    have hr1 : ∀ x : Rat, ((1 : Int) : Rat) / x = 1 / x := fun _ => rfl
    unfold FL RL at hsc ⊢
    unfold RL at h42
    change Den Tryz.prog 41 [] [.agg (flat rs), FR (1 / absq c.q)] [] _ at hsc
    obtain ⟨zs, hz⟩ : ∃ zs, (rs.map (fun r => r.q * (1 / absq c.q))).map cn = zs := ⟨_, rfl⟩
    have hzl : zs.length = 9 := by rw [← hz]; simp [hlen]
    rw [hz] at hsc h27 ⊢
    by_cases hneg : c.q.num < 0
    · have habs : absq c.q = -c.q := if_pos hneg
      rw [habs] at hsc ha0
      rw [sgq_neg hneg] at h26
      have h44 := den44 c (hlo.mono (by decide))
      have h45 := den45 (cn 1) (cn (-c.q)) (Raw.Ok.mono (cn_ok hb1) (by decide)) (Raw.Ok.mono (cn_ok b1.neg) (by decide)) (by rw [cn_q]; exact ha0)
      rw [cn_q, cn_q] at h45
      change Den Tryz.prog 101 [] [FR 1, FR (-c.q)] [] _ at h45
      change Den Tryz.prog 24 [] _ [] (FR 1) at h1
      rw [FR_eq] at h44 h1 hsc
      rw [FR_eq, FR_eq, FR_eq] at h45
      unfold Raw.v at h42 h26 h44
      refine den_of tabOk mixed Tryz.func120 (cd := _) rfl (by decide) rfl (n := 25) rfl rfl (m := 0) rfl ?_
      simp (dsimp := false) (disch := omega) only [flat_take27 hlen, rules, tys, eq_self, ↓reduceIte, Nat.reduceLT]
      refine ⟨by omega, by omega, ?_⟩
      refine GoCall.pure h42 (by simp [fzAs, fzA, flat_fz, flatF_fv]) ?_
      simp (dsimp := false) (disch := omega) only [flat_ids, List.append_nil, rules, tys, eq_self, ↓reduceIte, Nat.reduceAdd, Nat.reduceLT, Nat.reduceLeDiff]
      refine GoCall.pure h26 rfl ?_
      simp (dsimp := false) (disch := omega) only [List.append_nil, e10, e11, rules, tys, eq_self, ↓reduceIte, Nat.reduceAdd, Nat.reduceLeDiff]
      refine GoCall.pure h44 rfl ?_
      simp (dsimp := false) (disch := omega) only [List.append_nil, rules, tys, eq_self, Nat.reduceAdd, Nat.reduceLT, Nat.reduceLeDiff]
      refine Draw.intro (by kernel_rfl) ?_
      simp (dsimp := false) (disch := omega) only [rules]
      refine GoCall.pure h1 rfl ?_
      simp (dsimp := false) (disch := omega) only [List.append_nil, rules, tys, eq_self, ↓reduceIte, Nat.reduceAdd, Nat.reduceLeDiff]
      refine GoCall.pure h45 rfl ?_
      simp (dsimp := false) (disch := omega) only [List.append_nil, flat_take27 hlen, rules, tys, eq_self, ↓reduceIte, Nat.reduceAdd, Nat.reduceLT, Nat.reduceLeDiff]
      repeat refine And.intro (by omega) ?_
      refine GoCall.pure hsc (by simp [fzAs, fzA, flat_fz, flatF_fv, fzs, fz0]) ?_
      simp (dsimp := false) (disch := omega) only [flat_ids, flat_reloc, List.append_nil, h27, Ap_end_ret, rules, tys, eq_self, Nat.reduceAdd, Nat.reduceLT, Nat.reduceLeDiff]
      exact RetOK.form rfl rfl hzl
    · have habs : absq c.q = c.q := if_neg hneg
      rw [habs] at hsc ha0
      rw [sgq_one h0 hneg] at h26
      have h45 := den45 (cn 1) c (Raw.Ok.mono (cn_ok hb1) (by decide)) (hlo.mono (by decide)) h0
      rw [cn_q] at h45
      change Den Tryz.prog 101 [] [FR 1, c.v] [] _ at h45
      change Den Tryz.prog 24 [] _ [] (FR 1) at h1
      rw [FR_eq] at h1 hsc
      rw [FR_eq, FR_eq] at h45
      unfold Raw.v at h42 h26 h45
      refine den_of tabOk mixed Tryz.func120 (cd := _) rfl (by decide) rfl (n := 25) rfl rfl (m := 0) rfl ?_
      simp (dsimp := false) (disch := omega) only [flat_take27 hlen, rules, tys, eq_self, ↓reduceIte, Nat.reduceLT]
      refine ⟨by omega, by omega, ?_⟩
      refine GoCall.pure h42 (by simp [fzAs, fzA, flat_fz, flatF_fv]) ?_
      simp (dsimp := false) (disch := omega) only [flat_ids, List.append_nil, rules, tys, eq_self, ↓reduceIte, Nat.reduceAdd, Nat.reduceLT, Nat.reduceLeDiff]
      refine GoCall.pure h26 rfl ?_
      simp (dsimp := false) (disch := omega) only [List.append_nil, e20, e21, rules, tys, eq_self, ↓reduceIte, Nat.reduceAdd]
      refine Draw.intro (by kernel_rfl) ?_
      simp (dsimp := false) (disch := omega) only [rules]
      refine GoCall.pure h1 rfl ?_
      simp (dsimp := false) (disch := omega) only [List.append_nil, rules, tys, eq_self, ↓reduceIte, Nat.reduceAdd, Nat.reduceLeDiff]
      refine GoCall.pure h45 rfl ?_
      simp (dsimp := false) (disch := omega) only [List.append_nil, flat_take27 hlen, rules, tys, eq_self, ↓reduceIte, Nat.reduceAdd, Nat.reduceLT, Nat.reduceLeDiff]
      repeat refine And.intro (by omega) ?_
      refine GoCall.pure hsc (by simp [fzAs, fzA, flat_fz, flatF_fv, fzs, fz0]) ?_
      simp (dsimp := false) (disch := omega) only [flat_ids, flat_reloc, List.append_nil, h27, Ap_end_ret, rules, tys, eq_self, Nat.reduceAdd, Nat.reduceLT, Nat.reduceLeDiff]
      exact RetOK.form rfl rfl hzl

theorem flatF_drop : ∀ (i : Nat) (rs : List Raw), List.drop (i * 3) (flatF rs) = flatF (rs.drop i)
  | 0, rs => by simp
  | i + 1, [] => by simp [flatF]
  | i + 1, r :: rs => by
    have e : (i + 1) * 3 = i * 3 + 1 + 1 + 1 := by omega
    rw [e]
    simp only [flatF, List.drop_succ_cons]
    exact flatF_drop i rs
theorem flatF_at {rs : List Raw} {i : Nat} (h : i < rs.length) : List.take 3 (List.drop (i * 3) (flatF rs)) = [.lit (.bool (rs.getD i rz).neg), .sl (u32s (rs.getD i rz).num), .sl (u32s (rs.getD i rz).den)] := by
  rw [flatF_drop, List.drop_eq_getElem_cons h]
  simp only [flatF, List.take_succ_cons, List.take_zero]
  rw [List.getD_eq_getElem?_getD, List.getElem?_eq_getElem h]
  rfl
theorem pd122 (s : List (List Raw)) (v : Nat) (hv : v < 8) (hg : ∀ l ∈ s, LOk 1000000 l) (hn : s.length ≤ 1000) : Den Tryz.prog 122 [] [.fv (.sl (rowsF s)), .int .i64 v] [] (.bool (occ s v)) := by
  obtain ⟨R, hR⟩ : ∃ R, occ s v = R := ⟨_, rfl⟩
  rw [hR]
  obtain ⟨n, hnn⟩ : ∃ n, s.length = n := ⟨_, rfl⟩
  have rl := rowsF_length s
  rw [hnn] at rl hn
  refine den_of tabOk mixed Tryz.func122 (cd := _) rfl (by decide) rfl (n := 19) rfl rfl (m := 0) rfl ?_
  simp (dsimp := false) (disch := omega) only [List.replicate, rules]
  refine WA.loop (α := Nat) (fun i => ⟨[.fv (.sl (rowsF s)), .int .i64 v, .any, .any, .bool false, .int .i64 i] ++ List.replicate 15 .any, []⟩)
    (fun i => n - i) (fun i => i ≤ n ∧ ∀ j, j < i → co (s.getD j []) v = 0) 0 ?_ ?_ ?_
  · refine Weak.keep [] (by simp) rfl ?_ ?_
    · simp [leVs, leV, le1]
    · simp [leH]
  · exact ⟨Nat.zero_le _, fun j hj => by omega⟩
  · rintro i ⟨hi, hin⟩
    simp (dsimp := false) (disch := omega) only [List.replicate, rl, rules, tys, eq_self, ↓reduceIte]
    refine Br.dec ?_ ?_
    · intro h1 h2
      have hmem := at_mem (ls := s) (i := i) (by omega)
      have r1 := rowsF_getD s i
      have hin2 : co (s.getD i []) v = 0 → ∀ j, j < i + 1 → co (s.getD j []) v = 0 := fun h0 j hj => by
        by_cases hji : j = i
        · rw [hji]; exact h0
        · exact hin j (by omega)
      obtain ⟨x, hxx⟩ : ∃ x, s.getD i [] = x := ⟨_, rfl⟩
      rw [hxx] at hmem r1 hin2
      have hx := hg x hmem
      have lx := hx.len
      have x27 := flatF_take27 lx
      have fx := flatF_length x
      have hat := flatF_at (rs := x) (i := v) (by omega)
      have h26 := den26 (x.getD v rz) ((hx.at v).mono (by decide))
      have hco : co x v = (x.getD v rz).q := rfl
      obtain ⟨r, hr⟩ : ∃ r, x.getD v rz = r := ⟨_, rfl⟩
      rw [hr] at hat h26 hco
      unfold Raw.v at h26
      have x24 : List.drop 0 (flatF x) = flatF x := rfl
      simp (dsimp := false) (disch := omega) only [h2, r1, fx, lx, rl, hat, x24, List.length_drop, rules, tys, eq_self, ↓reduceIte, Nat.reduceMul, Nat.reduceLT, Nat.reduceLeDiff]
      repeat refine And.intro (by omega) ?_
      refine GoCall.pure h26 rfl ?_
      simp (dsimp := false) (disch := omega) only [List.append_nil, rules, tys, eq_self, ↓reduceIte]
      refine Br.bneInt ?_ ?_
      · intro h3 h4
        have hR2 : R = true := by
          rw [← hR]
          exact occ_iff.2 ⟨x, hmem, by rw [hco]; exact fun h => h3 (sgq_eq_zero.2 h)⟩
        subst hR2
        simp (dsimp := false) (disch := omega) only [h4, Ap_end_ret, rules]
        exact RetOK.pure rfl ⟨trivial, trivial⟩ rfl
      · intro h3 h4
        simp (dsimp := false) (disch := omega) only [h4, wrap64, rules, tys, eq_self, ↓reduceIte]
        refine Ap_loop (i + 1) (by omega) ?_ ⟨by omega, hin2 (by rw [hco]; exact sgq_eq_zero.1 h3)⟩
        refine Weak.keep [] (by simp) rfl ?_ ?_
        · simp [leVs, leV, le1]
        · simp [leH]
    · intro h1 h2
      have hR2 : R = false := by
        rw [← hR]
        cases ho : occ s v with
        | false => rfl
        | true =>
          obtain ⟨l, hl, h0⟩ := occ_iff.1 ho
          obtain ⟨j, hj, rfl⟩ := mem_getD.1 hl
          exact absurd (hin j (by omega)) h0
      subst hR2
      simp (dsimp := false) (disch := omega) only [h2, Ap_end_ret, rules, Nat.reduceBEq]
      exact RetOK.pure rfl ⟨trivial, trivial⟩ rfl

theorem pd96 (cs : List (List Raw)) (hok : ∀ l ∈ cs, LOk 100000 l) (hn : cs.length ≤ 1000) :
    Den Tryz.prog 96 [] [.fv (.sl (rowsF cs))] [] (if violB cs then .tup [.fv (.sl []), .bool false] else .tup [.fv (.sl (rowsF (sysL cs []))), .bool true]) := by
  have h9 : ∀ l ∈ cs, l.length = 9 := fun l hl => (hok l hl).len
  obtain ⟨n, hnn⟩ : ∃ n, cs.length = n := ⟨_, rfl⟩
  obtain ⟨R, hR⟩ : ∃ R : PV, (if violB cs then .tup [.fv (.sl []), .bool false] else .tup [.fv (.sl (rowsF (sysL cs []))), .bool true]) = R := ⟨_, rfl⟩
  rw [hR]
  have rl := rowsF_length cs
  rw [hnn] at rl hn
  refine den_of tabOk mixed Tryz.func96 (cd := _) rfl (by decide) rfl (n := 67) rfl rfl (m := 0) rfl ?_
  simp (dsimp := false) (disch := omega) only [List.replicate, rules]
  refine WA.loop (α := Nat × List (List Raw)) (fun ⟨i, out⟩ => ⟨[.fv (.sl (rowsF cs)), .any, .nilsl, .bool false, .lsl 0 0 out.length 27, .int .i64 i] ++ List.replicate 62 .any, [.row true (rowsF out)]⟩)
    (fun ⟨i, _⟩ => n - i) (fun ⟨i, out⟩ => i ≤ n ∧ out.length ≤ i ∧ out = sysL (cs.take i) [] ∧ violB (cs.take i) = false) (0, []) ?_ ?_ ?_
  · refine Weak.nil 4 27 (by decide) rfl ?_
    refine Weak.keep [0] (by simp) rfl ?_ ?_
    · simp [leVs, leV, le1]
    · simp [leH, leO]
      rfl
  · exact ⟨Nat.zero_le _, Nat.le_refl _, rfl, rfl⟩
  · rintro ⟨i, out⟩ ⟨hi, hol, hout, hviol⟩
    have hoo : ∀ f ∈ out, LOk 200000 f := fun f hf => by
      have hh := (sysL_is (cs := cs.take i) (fun l hl => h9 l (List.mem_of_mem_take hl))).mem f
      rw [hout] at hf
      obtain ⟨l, hl, _, rfl⟩ := hh.1 hf
      exact (nrmR_ok (hok l (List.mem_of_mem_take hl)) (by decide)).mono (by decide)
    obtain ⟨L, hL⟩ : ∃ L, out.length = L := ⟨_, rfl⟩
    have rlo := rowsF_length out
    rw [hL] at rlo hol
    dsimp only
    rw [hL]
    simp (dsimp := false) (disch := omega) only [List.replicate, rl, rules, tys, eq_self, ↓reduceIte]
    refine Br.dec ?_ ?_
    · intro h1 h2
      have hsn := take_snoc (cs := cs) (i := i) (by omega)
      have hmem := at_mem (ls := cs) (i := i) (by omega)
      have r1 := rowsF_getD cs i
      obtain ⟨x, hxx⟩ : ∃ x, cs.getD i [] = x := ⟨_, rfl⟩
      rw [hxx] at hmem r1 hsn
      have hx := hok x hmem
      have lx := hx.len
      have x27 := flatF_take27 lx
      have fx := flatF_length x
      have gx := flat_length x
      have gx27 := flat_take27 lx
      have hN := pd120 x hx
      change Den Tryz.prog 120 [] [RL x] [] (RL (nrmR x)) at hN
      have hny := nrmR_ok hx (by decide)
      have hnl := nrmR_len lx
      have hcb := nrmR_constB lx
      have hsg := nrmR_sign lx
      have hvs := violB_snoc (cs := cs.take i) (l := x)
      have hss := sysL_snoc (l := x) (cs.take i) []
      rw [← hsn] at hvs hss
      rw [hviol, Bool.false_or] at hvs
      rw [← hout] at hss
      obtain ⟨y, hy⟩ : ∃ y, nrmR x = y := ⟨_, rfl⟩
      rw [hy] at hN hny hnl hcb hsg hss
      have hc := pd76 y (hny.mono (by decide))
      rw [hcb] at hc
      obtain ⟨b, hb⟩ : ∃ b, constB x = b := ⟨_, rfl⟩
      rw [hb] at hc hvs hss
      have gy := flat_length y
      have gy27 := flat_take27 hnl
      have y27 := flatF_take27 hnl
      have fy := flatF_length y
      have hfc := flat_const' hnl
      unfold RL at hN hc
      simp (dsimp := false) (disch := omega) only [h2, r1, x27, flatF_fv, fx, lx, rl, rules, tys, eq_self, ↓reduceIte, Nat.reduceMul, Nat.reduceLT, Nat.reduceLeDiff]
      repeat refine And.intro (by omega) ?_
      refine GoCall.pure hN (by simp [fzAs, fzA, flat_fz, flatF_fv]) ?_
      simp (dsimp := false) (disch := omega) only [flat_ids, flat_reloc, List.append_nil, gy, hnl, gy27, rules, tys, eq_self, ↓reduceIte, Nat.reduceAdd, Nat.reduceMul, Nat.reduceLT, Nat.reduceLeDiff]
      repeat refine And.intro (by omega) ?_
      refine GoCall.pure hc (by simp [fzAs, fzA, flat_fz, flatF_fv]) ?_
      cases b with
      | true =>
        have h36 := den26 (y.getD 8 rz) ((hny.at 8).mono (by decide))
        have hco : co y 8 = (y.getD 8 rz).q := rfl
        obtain ⟨r, hr⟩ : ∃ r, y.getD 8 rz = r := ⟨_, rfl⟩
        rw [hr] at h36 hfc hco
        unfold Raw.v at h36
        simp (dsimp := false) (disch := omega) only [flat_ids, List.append_nil, hfc, gy, hnl, rules, tys, eq_self, ↓reduceIte, Nat.reduceAdd, Nat.reduceMul, Nat.reduceLeDiff]
        repeat refine And.intro (by omega) ?_
        refine GoCall.pure h36 rfl ?_
        simp (dsimp := false) (disch := omega) only [List.append_nil, rules, tys, eq_self, ↓reduceIte, Nat.reduceAdd]
        refine Br.dec ?_ ?_
        · intro h3 h4
          have hv : violB (cs.take (i + 1)) = true := by
            rw [hvs, Bool.true_and, decide_eq_true]
            exact hsg.1.1 (by rw [hco]; exact sgq_neg_iff.1 h3)
          rw [if_pos (violB_of hv)] at hR
          subst hR
          simp (dsimp := false) (disch := omega) only [h4, Ap_end_ret, rules]
          refine RetOK.pure rfl ⟨trivial, trivial, trivial⟩ rfl
        · intro h3 h4
          have hv : violB (cs.take (i + 1)) = false := by
            rw [hvs, Bool.true_and, decide_eq_false]
            exact fun h => h3 (sgq_neg_iff.2 (by rw [← hco]; exact hsg.1.2 h))
          rw [if_pos rfl] at hss
          simp (dsimp := false) (disch := omega) only [h4, wrap64, rules, tys, eq_self, ↓reduceIte, Nat.reduceBEq]
          refine Ap_loop (i + 1, out) (by dsimp only; omega) ?_ ⟨by omega, by rw [hL]; omega, hss.symm, hv⟩
          refine Weak.keep [0] (by simp) rfl ?_ ?_
          · simp [leVs, leV, le1]
            omega
          · simp [leH, leO]
      | false =>
        have hv : violB (cs.take (i + 1)) = false := by rw [hvs]; rfl
        rw [if_neg (by simp)] at hss
        simp (dsimp := false) (disch := omega) only [flat_ids, List.append_nil, rules, Nat.reduceAdd]
        refine WA.loop (α := Nat) (fun j => ⟨[.fv (.sl (rowsF cs)), .any, .nilsl, .bool false, .lsl 0 0 L 27, .int .i64 i, .ptr 1 0 0, .int .i64 j] ++ List.replicate 60 .any, [.row true (rowsF out), .box true (flat y)]⟩)
          (fun j => L - j) (fun j => j ≤ L ∧ ∀ q, q < j → cmpR (out.getD q []) y < 0) 0 ?_ ?_ ?_
        · refine Weak.keep [0, 1] (by simp) rfl ?_ ?_
          · simp [leVs, leV, le1]
          · simp [leH, leO, le_flat]
        · exact ⟨Nat.zero_le _, fun q hq => by omega⟩
        · rintro j ⟨hj, hlt⟩
          simp (dsimp := false) (disch := omega) only [List.replicate, rules]
          refine Draw.intro (by kernel_rfl) ?_
          simp (dsimp := false) (disch := omega) only [rules, tys, eq_self, ↓reduceIte]
          refine Br.dec ?_ ?_
          · intro h3 h4
            have hmem2 := at_mem (ls := out) (i := j) (by omega)
            have r2 := rowsF_getD out j
            have hthere := ins_there (f := y) (out := out) (i := j) (by omega) hlt
            have hnew := ins_new (f := y) (out := out) (i := j) (by omega) hlt
            have hlt2 : cmpR (out.getD j []) y < 0 → ∀ q, q < j + 1 → cmpR (out.getD q []) y < 0 := fun h0 q hq => by
              by_cases hqj : q = j
              · rw [hqj]; exact h0
              · exact hlt q (by omega)
            obtain ⟨a, haa⟩ : ∃ x, out.getD j [] = x := ⟨_, rfl⟩
            rw [haa] at hmem2 r2 hthere hnew hlt2
            have ha := hoo a hmem2
            have la := ha.len
            have a27 := flatF_take27 la
            have fa := flatF_length a
            have h121 := pd121 a y (ha.mono (by decide)) (hny.mono (by decide))
            obtain ⟨c, hcc⟩ : ∃ c, cmpR a y = c := ⟨_, rfl⟩
            rw [hcc] at h121 hthere hnew hlt2
            unfold RL at h121
            simp (dsimp := false) (disch := omega) only [h4, r2, a27, flatF_fv, fa, la, gy27, gy, hnl, rlo, rules, tys, eq_self, ↓reduceIte, Nat.reduceMul, Nat.reduceLeDiff]
            repeat refine And.intro (by omega) ?_
            refine GoCall.pure h121 (by simp [fzAs, fzA, flat_fz, flatF_fv]) ?_
            simp (dsimp := false) (disch := omega) only [flat_ids, List.append_nil, rules, tys, eq_self, ↓reduceIte, Nat.reduceAdd]
            refine Br.dec ?_ ?_
            · intro h5 h6
              simp (dsimp := false) (disch := omega) only [h6, wrap64, rules, tys, eq_self, ↓reduceIte]
              refine Ap_loop (j + 1) (by omega) ?_ ⟨by omega, hlt2 h5⟩
              refine Weak.keep [0, 1] (by simp) rfl ?_ ?_
              · simp [leVs, leV, le1]
              · simp [leH, leO, le_flat]
            · intro h5 h6
              simp (dsimp := false) (disch := omega) only [h6, rules, Nat.reduceBEq]
              refine Draw.intro (by kernel_rfl) ?_
              simp (dsimp := false) (disch := omega) only [h4, r2, a27, flatF_fv, fa, la, gy27, gy, hnl, rlo, rules, tys, eq_self, ↓reduceIte, Nat.reduceMul, Nat.reduceLeDiff]
              repeat refine And.intro (by omega) ?_
              refine GoCall.pure h121 (by simp [fzAs, fzA, flat_fz, flatF_fv]) ?_
              simp (dsimp := false) (disch := omega) only [flat_ids, List.append_nil, rules, tys, eq_self, ↓reduceIte, Nat.reduceAdd]
              refine Br.beqInt ?_ ?_
              · intro h7 h8
                rw [hthere h7] at hss
                simp (dsimp := false) (disch := omega) only [h8, wrap64, rules, tys, eq_self, ↓reduceIte, Nat.reduceBEq]
                refine Ap_loop (i + 1, out) (by dsimp only; omega) ?_ ⟨by omega, by rw [hL]; omega, hss.symm, hv⟩
                refine Weak.keep [0] (by simp) rfl ?_ ?_
                · simp [leVs, leV, le1]
                  omega
                · simp [leH, leO]
              · intro h7 h8
                rw [hnew (by omega)] at hss
                have htk : List.take j (rowsF out) = rowsF (out.take j) := by simp [rowsF]
                have hdr : List.drop j (rowsF out) = rowsF (out.drop j) := by simp [rowsF]
                have htl : (rowsF (out.take j)).length = j := by rw [rowsF_length, List.length_take]; omega
                have htk2 : List.take j (rowsF (out.take j)) = rowsF (out.take j) := List.take_of_length_le (by omega)
                have hap := rows_snoc (out.take j) y
                have htl3 : (rowsF (out.take j ++ [y])).length = j + 1 := by rw [rowsF_length, List.length_append, List.length_take, List.length_singleton]; omega
                have htk3 : List.take (j + 1) (rowsF (out.take j ++ [y])) = rowsF (out.take j ++ [y]) := List.take_of_length_le (by omega)
                have hdl : (rowsF (out.drop j)).length = L - j := by rw [rowsF_length, List.length_drop]; omega
                have htk4 : List.take (L - j) (rowsF (out.drop j)) = rowsF (out.drop j) := List.take_of_length_le (by omega)
                have hap2 : rowsF (out.take j ++ [y]) ++ rowsF (out.drop j) = rowsF (out.take j ++ [y] ++ out.drop j) := by simp [rowsF]
                have hlen2 : (out.take j ++ [y] ++ out.drop j).length = L + 1 := by rw [List.length_append, List.length_append, List.length_take, List.length_drop, List.length_singleton]; omega
                obtain ⟨o2, ho2⟩ : ∃ o, out.take j ++ [y] ++ out.drop j = o := ⟨_, rfl⟩
                rw [ho2] at hss hap2 hlen2
                simp (dsimp := false) (disch := omega) only [flat_ids, flat_fz, List.append_nil, h8, Nat.sub_zero, htk, htl, htk2, gy27, gy, hnl, y27, hap, htl3, htk3, hdr, hdl, htk4, hap2, rlo, wrap64, rules, tys, eq_self, ↓reduceIte, Nat.reduceAdd, Nat.reduceMul, Nat.reduceBEq, Nat.reduceLT, Nat.reduceLeDiff]
                repeat refine And.intro (by omega) ?_
                refine Ap_loop (i + 1, o2) (by dsimp only; omega) ?_ ⟨by omega, by dsimp only; omega, hss.symm, hv⟩
                refine Weak.keep [5] (by simp) rfl ?_ ?_
                · simp [leVs, leV, le1]
                  omega
                · simp [leH, leO]
          · intro h3 h4
            have hjL : j = L := by omega
            have hss2 : ins y out = out.take j ++ [y] ++ out.drop j := by
              rw [ins_end (fun q hq => hlt q (by omega)), List.take_of_length_le (by omega), List.drop_of_length_le (by omega), List.append_nil]
            rw [hss2] at hss
            have h6b := h4
            simp (dsimp := false) (disch := omega) only [h4, rules, ↓reduceIte, Nat.reduceBEq]
            refine Draw.intro (by kernel_rfl) ?_
            have htk : List.take j (rowsF out) = rowsF (out.take j) := by simp [rowsF]
            have hdr : List.drop j (rowsF out) = rowsF (out.drop j) := by simp [rowsF]
            have htl : (rowsF (out.take j)).length = j := by rw [rowsF_length, List.length_take]; omega
            have htk2 : List.take j (rowsF (out.take j)) = rowsF (out.take j) := List.take_of_length_le (by omega)
            have hap := rows_snoc (out.take j) y
            have htl3 : (rowsF (out.take j ++ [y])).length = j + 1 := by rw [rowsF_length, List.length_append, List.length_take, List.length_singleton]; omega
            have htk3 : List.take (j + 1) (rowsF (out.take j ++ [y])) = rowsF (out.take j ++ [y]) := List.take_of_length_le (by omega)
            have hdl : (rowsF (out.drop j)).length = L - j := by rw [rowsF_length, List.length_drop]; omega
            have htk4 : List.take (L - j) (rowsF (out.drop j)) = rowsF (out.drop j) := List.take_of_length_le (by omega)
            have hap2 : rowsF (out.take j ++ [y]) ++ rowsF (out.drop j) = rowsF (out.take j ++ [y] ++ out.drop j) := by simp [rowsF]
            have hlen2 : (out.take j ++ [y] ++ out.drop j).length = L + 1 := by rw [List.length_append, List.length_append, List.length_take, List.length_drop, List.length_singleton]; omega
            obtain ⟨o2, ho2⟩ : ∃ o, out.take j ++ [y] ++ out.drop j = o := ⟨_, rfl⟩
            rw [ho2] at hss hap2 hlen2
            simp (dsimp := false) (disch := omega) only [flat_ids, flat_fz, List.append_nil, h6b, Nat.sub_zero, htk, htl, htk2, gy27, gy, hnl, y27, hap, htl3, htk3, hdr, hdl, htk4, hap2, rlo, wrap64, rules, tys, eq_self, ↓reduceIte, Nat.reduceAdd, Nat.reduceMul, Nat.reduceBEq, Nat.reduceLT, Nat.reduceLeDiff]
            repeat refine And.intro (by omega) ?_
            refine Ap_loop (i + 1, o2) (by dsimp only; omega) ?_ ⟨by omega, by dsimp only; omega, hss.symm, hv⟩
            refine Weak.keep [5] (by simp) rfl ?_ ?_
            · simp [leVs, leV, le1]
              omega
            · simp [leH, leO]
    · intro h1 h2
      have hin : i = n := by omega
      have htk : cs.take i = cs := List.take_of_length_le (by omega)
      rw [htk] at hout hviol
      rw [hviol, if_neg (by simp), ← hout] at hR
      have htk2 := take_rows (ls := out) (n := L) (by omega)
      subst hR
      simp (dsimp := false) (disch := omega) only [h2, Ap_end_ret, rules, Nat.reduceBEq]
      refine RetOK.pure (vs := [.lsl 0 0 L 27, .bool true]) rfl ⟨trivial, trivial, trivial⟩ ?_
      simp (disch := omega) only [htk2, rlo, List.drop_zero, Nat.zero_add, Nat.le_refl, ↓reduceIte, List.idxOf?_nil, fzX, oneRes, fzV, fzVs, fzC, fz1, fz0, Option.map_some, List.getElem?_cons_zero]
end Go.Proofs.YtddnnhlcpffbdaaGreat

namespace Go.Proofs.YtddnnhlcpffbdaaGreat
open Go.AM Go.Pl
set_option maxRecDepth 100000
set_option maxHeartbeats 4000000

theorem cn_map {l : List Raw} (h : IsCn l) : (l.map Raw.q).map cn = l := by
  obtain ⟨qs, rfl, _⟩ := h
  rw [map_cn_q]
def combR (lo hi : List (List Raw)) : List (List Raw) := lo.flatMap fun l => hi.map fun u => comb u l
theorem combR_snoc {hi lo : List (List Raw)} {l : List Raw} : combR (lo ++ [l]) hi = combR lo hi ++ hi.map (fun u => comb u l) := by simp [combR]
theorem combR_len (lo hi : List (List Raw)) : (combR lo hi).length = lo.length * hi.length := by unfold combR; rw [flat_length' (fun l u => comb u l)]

theorem pd99 (s : List (List Raw)) (v : Nat) (hv : v < 8) (hcn : ∀ l ∈ s, IsCn l) (hlim : ∀ l ∈ s, LOk 1000 l) (hn : s.length ≤ 100) :
    Den Tryz.prog 99 [] [.fv (.sl (rowsF s)), .int .i64 v] [] (.fv (.sl (rowsF (outR s v)))) := by
  have h9 : ∀ l ∈ s, l.length = 9 := fun l hl => (hlim l hl).len
  have hlow : ∀ b ∈ lowL s v, LOk 2001 b := low_ok hlim (by decide)
  have hhigh : ∀ b ∈ highL s v, LOk 2001 b := high_ok hlim (by decide)
  have hsplit := split_length s v
  obtain ⟨n, hnn⟩ : ∃ n, s.length = n := ⟨_, rfl⟩
  have rl := rowsF_length s
  rw [hnn] at rl hn hsplit
  obtain ⟨R, hR⟩ : ∃ R, outR s v = R := ⟨_, rfl⟩
  rw [hR]
  refine den_of tabOk mixed Tryz.func99 (cd := _) rfl (by decide) rfl (n := 69) rfl rfl (m := 0) rfl ?_
  simp (dsimp := false) (disch := omega) only [List.replicate, rules]
  refine WA.loop (α := Nat × List (List Raw) × List (List Raw) × List (List Raw)) (fun ⟨i, lo, hi, out⟩ => ⟨[.fv (.sl (rowsF s)), .int .i64 v, .any, .any, .nilsl, .lsl 2 0 out.length 27, .lsl 0 0 lo.length 27, .lsl 1 0 hi.length 27, .int .i64 i] ++ List.replicate 62 .any, [.row true (rowsF lo), .row true (rowsF hi), .row true (rowsF out)]⟩)
    (fun ⟨i, _⟩ => n - i) (fun ⟨i, lo, hi, out⟩ => i ≤ n ∧ lo = lowL (s.take i) v ∧ hi = highL (s.take i) v ∧ out = restL (s.take i) v) (0, [], [], []) ?_ ?_ ?_
  · refine Weak.nil 6 27 (by decide) rfl ?_
    refine Weak.nil 7 27 (by decide) rfl ?_
    refine Weak.nil 5 27 (by decide) rfl ?_
    refine Weak.keep [0, 1, 2] (by simp) rfl ?_ ?_
    · simp [leVs, leV, le1]
    · simp [leH, leO]
      simp [rowsF]
  · exact ⟨Nat.zero_le _, rfl, rfl, rfl⟩
  · rintro ⟨i, lo, hi, out⟩ ⟨hi1, hlo, hhi, hout⟩
    have hsz := split_length (s.take i) v
    rw [← hlo, ← hhi, ← hout, List.length_take, hnn] at hsz
    obtain ⟨L1, hL1⟩ : ∃ L, lo.length = L := ⟨_, rfl⟩
    obtain ⟨L2, hL2⟩ : ∃ L, hi.length = L := ⟨_, rfl⟩
    obtain ⟨L3, hL3⟩ : ∃ L, out.length = L := ⟨_, rfl⟩
    have rl1 := rowsF_length lo
    have rl2 := rowsF_length hi
    have rl3 := rowsF_length out
    dsimp only
    rw [hL1] at hsz rl1 ⊢
    rw [hL2] at hsz rl2 ⊢
    rw [hL3] at hsz rl3 ⊢
    have tk1 := take_rows (ls := lo) (n := L1) (by omega)
    have tk2 := take_rows (ls := hi) (n := L2) (by omega)
    have tk3 := take_rows (ls := out) (n := L3) (by omega)
    simp (dsimp := false) (disch := omega) only [List.replicate, rl, rules, tys, eq_self, ↓reduceIte]
    refine Br.dec ?_ ?_
    · intro h1 h2
      have hsn := take_snoc (cs := s) (i := i) (by omega)
      have hmem := at_mem (ls := s) (i := i) (by omega)
      have r1 := rowsF_getD s i
      obtain ⟨x, hxx⟩ : ∃ x, s.getD i [] = x := ⟨_, rfl⟩
      rw [hxx] at hmem r1 hsn
      have hx := hlim x hmem
      have lx := hx.len
      have x27 := flatF_take27 lx
      have fx := flatF_length x
      have gx := flat_length x
      have gx27 := flat_take27 lx
      by_cases h0 : co x v = 0
      · have h16 := den48n x v hx hv h0
        have hls := lowL_not (s := s.take i) (v := v) (x := x) (by grind)
        have hhs := highL_not (s := s.take i) (v := v) (x := x) (by grind)
        have hrs := restL_zero (s := s.take i) h0
        have hap := rows_snoc out x
        unfold FL at h16
        rw [cn_map (hcn x hmem)] at h16
        unfold RL at h16
        have e1 : ((0 : Int) == 1) = false := rfl
        have e2 : ((0 : Int) == -1) = false := rfl
        simp (dsimp := false) (disch := omega) only [h2, r1, x27, flatF_fv, fx, lx, rl, rules, tys, eq_self, ↓reduceIte, Nat.reduceMul, Nat.reduceLT, Nat.reduceLeDiff]
        repeat refine And.intro (by omega) ?_
        refine GoCall.pure h16 (by simp [fzAs, fzA, flat_fz, flatF_fv, fz1, fz0]) ?_
        simp (dsimp := false) (disch := omega) only [flat_ids, flat_reloc, flat_fz, List.append_nil, e1, e2, gx, lx, gx27, x27, tk3, hap, rl3, wrap64, rules, tys, eq_self, ↓reduceIte, Nat.reduceAdd, Nat.reduceMul, Nat.reduceBEq, Nat.reduceLT, Nat.reduceLeDiff]
        repeat refine And.intro (by omega) ?_
        refine Ap_loop (i + 1, lo, hi, out ++ [x]) (by dsimp only; omega) ?_ ⟨by omega, by rw [hsn, hls, hlo], by rw [hsn, hhs, hhi], by rw [hsn, hrs, hout]⟩
        refine Weak.keep [0, 1, 5] (by simp) rfl ?_ ?_
        · simp [leVs, leV, le1]
          omega
        · simp [leH, leO]
      · have h16 := den48 x v hx hv h0
        have hsl : (solR v x).length = 9 := solR_len lx
        have hrs := restL_not (s := s.take i) h0
        unfold FL RL at h16
        change Den Tryz.prog 53 [] [.agg (flat x), .int .i64 v] [] (.tup [.agg (flat (solR v x)), .int .i64 (sgq (x.getD v rz).q)]) at h16
        by_cases hp : 0 < co x v
        · have hls := lowL_pos (s := s.take i) hp
          have hhs := highL_not (s := s.take i) (v := v) (x := x) (by grind)
          have hap := rows_snoc lo (solR v x)
          obtain ⟨y, hy⟩ : ∃ y, solR v x = y := ⟨_, rfl⟩
          rw [hy] at h16 hsl hls hap
          have gy := flat_length y
          have y27 := flatF_take27 hsl
          have gy27 := flat_take27 hsl
          rw [show sgq (x.getD v rz).q = 1 from sgq_of_pos hp] at h16
          have e1 : ((1 : Int) == 1) = true := rfl
          simp (dsimp := false) (disch := omega) only [h2, r1, x27, flatF_fv, fx, lx, rl, rules, tys, eq_self, ↓reduceIte, Nat.reduceMul, Nat.reduceLT, Nat.reduceLeDiff]
          repeat refine And.intro (by omega) ?_
          refine GoCall.pure h16 (by simp [fzAs, fzA, flat_fz, flatF_fv, fz1, fz0]) ?_
          simp (dsimp := false) (disch := omega) only [flat_ids, flat_reloc, flat_fz, List.append_nil, gy, hsl, e1, gy27, y27, tk1, hap, rl1, wrap64, rules, tys, eq_self, ↓reduceIte, Nat.reduceAdd, Nat.reduceMul, Nat.reduceBEq, Nat.reduceLT, Nat.reduceLeDiff]
          repeat refine And.intro (by omega) ?_
          refine Ap_loop (i + 1, lo ++ [y], hi, out) (by dsimp only; omega) ?_ ⟨by omega, by rw [hsn, hls, hlo], by rw [hsn, hhs, hhi], by rw [hsn, hrs, hout]⟩
          refine Weak.keep [5, 1, 2] (by simp) rfl ?_ ?_
          · simp [leVs, leV, le1]
            omega
          · simp [leH, leO]
        · have hneg : co x v < 0 := by grind
          have hls := lowL_not (s := s.take i) (v := v) (x := x) hp
          have hhs := highL_neg (s := s.take i) hneg
          have hap := rows_snoc hi (solR v x)
          obtain ⟨y, hy⟩ : ∃ y, solR v x = y := ⟨_, rfl⟩
          rw [hy] at h16 hsl hhs hap
          have gy := flat_length y
          have y27 := flatF_take27 hsl
          have gy27 := flat_take27 hsl
          rw [show sgq (x.getD v rz).q = -1 from sgq_of_neg hneg] at h16
          have e1 : ((-1 : Int) == 1) = false := rfl
          have e2 : ((-1 : Int) == -1) = true := rfl
          simp (dsimp := false) (disch := omega) only [h2, r1, x27, flatF_fv, fx, lx, rl, rules, tys, eq_self, ↓reduceIte, Nat.reduceMul, Nat.reduceLT, Nat.reduceLeDiff]
          repeat refine And.intro (by omega) ?_
          refine GoCall.pure h16 (by simp [fzAs, fzA, flat_fz, flatF_fv, fz1, fz0]) ?_
          simp (dsimp := false) (disch := omega) only [flat_ids, flat_reloc, flat_fz, List.append_nil, gy, hsl, e1, e2, gy27, y27, tk2, hap, rl2, wrap64, rules, tys, eq_self, ↓reduceIte, Nat.reduceAdd, Nat.reduceMul, Nat.reduceBEq, Nat.reduceLT, Nat.reduceLeDiff]
          repeat refine And.intro (by omega) ?_
          refine Ap_loop (i + 1, lo, hi ++ [y], out) (by dsimp only; omega) ?_ ⟨by omega, by rw [hsn, hls, hlo], by rw [hsn, hhs, hhi], by rw [hsn, hrs, hout]⟩
          refine Weak.keep [0, 5, 2] (by simp) rfl ?_ ?_
          · simp [leVs, leV, le1]
            omega
          · simp [leH, leO]
    · intro h1 h2
      have hin : i = n := by omega
      have htk : s.take i = s := List.take_of_length_le (by omega)
      rw [htk] at hlo hhi hout
      have hfin : R = out ++ combR lo hi := by rw [← hR, hlo, hhi, hout]; rfl
      have hlo2 : ∀ b ∈ lo, LOk 2001 b := by rw [hlo]; exact hlow
      have hhi2 : ∀ b ∈ hi, LOk 2001 b := by rw [hhi]; exact hhigh
      have hmul : L1 * L2 ≤ 10000 := Nat.mul_le_mul (show L1 ≤ 100 by omega) (show L2 ≤ 100 by omega)
      clear hlo hhi hout
      simp (dsimp := false) (disch := omega) only [h2, rules, Nat.reduceBEq]
      refine WA.loop (α := Nat × List (List Raw)) (fun ⟨j, out2⟩ => ⟨[.fv (.sl (rowsF s)), .int .i64 v, .any, .any, .nilsl, .lsl 2 0 out2.length 27, .lsl 0 0 L1 27, .lsl 1 0 L2 27, .any, .any, .any, .int .i64 j] ++ List.replicate 59 .any, [.row true (rowsF lo), .row true (rowsF hi), .row true (rowsF out2)]⟩)
        (fun ⟨j, _⟩ => L1 - j) (fun ⟨j, out2⟩ => j ≤ L1 ∧ out2 = out ++ combR (lo.take j) hi) (0, out) ?_ ?_ ?_
      · refine Weak.keep [0, 1, 2] (by simp) rfl ?_ ?_
        · simp [leVs, leV, le1]
          omega
        · simp [leH, leO]
      · exact ⟨Nat.zero_le _, by simp [combR]⟩
      · rintro ⟨j, out2⟩ ⟨hj, ho2⟩
        obtain ⟨M, hM⟩ : ∃ L, out2.length = L := ⟨_, rfl⟩
        dsimp only
        rw [hM]
        simp (dsimp := false) (disch := omega) only [List.replicate, rules, tys, eq_self, ↓reduceIte]
        refine Br.dec ?_ ?_
        · intro h3 h4
          have hsn := take_snoc (cs := lo) (i := j) (by omega)
          have hmem := at_mem (ls := lo) (i := j) (by omega)
          have r1 := rowsF_getD lo j
          obtain ⟨l, hll⟩ : ∃ x, lo.getD j [] = x := ⟨_, rfl⟩
          rw [hll] at hmem r1 hsn
          have hl := hlo2 l hmem
          have ll := hl.len
          have l27 := flatF_take27 ll
          have fl := flatF_length l
          have gl := flat_length l
          have gl27 := flat_take27 ll
          simp (dsimp := false) (disch := omega) only [h4, rules]
          refine WA.loop (α := Nat × List (List Raw)) (fun ⟨q, out3⟩ => ⟨[.fv (.sl (rowsF s)), .int .i64 v, .any, .any, .nilsl, .lsl 2 0 out3.length 27, .lsl 0 0 L1 27, .lsl 1 0 L2 27, .any, .any, .any, .int .i64 j, .int .i64 q] ++ List.replicate 58 .any, [.row true (rowsF lo), .row true (rowsF hi), .row true (rowsF out3)]⟩)
            (fun ⟨q, _⟩ => L2 - q) (fun ⟨q, out3⟩ => q ≤ L2 ∧ out3 = out2 ++ (hi.take q).map (fun u => comb u l)) (0, out2) ?_ ?_ ?_
          · refine Weak.keep [0, 1, 2] (by simp) rfl ?_ ?_
            · simp [leVs, leV, le1]
              omega
            · simp [leH, leO]
          · exact ⟨Nat.zero_le _, by simp⟩
          · rintro ⟨q, out3⟩ ⟨hq, ho3⟩
            have hM3 : out3.length ≤ 10200 := by
              have e1 : out3.length = out2.length + q := by rw [ho3]; simp; omega
              have e2 : out2.length = L3 + (lo.take j).length * hi.length := by
                rw [ho2, List.length_append, hL3, combR_len]
              have e4 : (lo.take j).length = j := by rw [List.length_take]; omega
              rw [e4, hL2] at e2
              have e5 : (j + 1) * L2 ≤ L1 * L2 := Nat.mul_le_mul_right _ (by omega)
              rw [Nat.add_mul] at e5
              omega
            obtain ⟨M3, hM3e⟩ : ∃ L, out3.length = L := ⟨_, rfl⟩
            have rl4 := rowsF_length out3
            rw [hM3e] at hM3 rl4
            dsimp only
            rw [hM3e]
            simp (dsimp := false) (disch := omega) only [List.replicate, rules, tys, eq_self, ↓reduceIte]
            refine Br.dec ?_ ?_
            · intro h5 h6
              have hsn3 := take_snoc (cs := hi) (i := q) (by omega)
              have hmem3 := at_mem (ls := hi) (i := q) (by omega)
              have r3 := rowsF_getD hi q
              obtain ⟨u, huu⟩ : ∃ x, hi.getD q [] = x := ⟨_, rfl⟩
              rw [huu] at hmem3 r3 hsn3
              have hu := hhi2 u hmem3
              have lu := hu.len
              have u27 := flatF_take27 lu
              have fu := flatF_length u
              have gu := flat_length u
              have gu27 := flat_take27 lu
              have h57 := pd57 l (hl.mono (by decide))
              have h56 := den74 u (negR l) (hu.mono (by decide)) ((negR_ok hl (by decide)).mono (by decide))
              change Den Tryz.prog 56 [] [RL u, RL (negR l)] [] (RL (comb u l)) at h56
              have hnl := negR_len ll
              have hcl := comb_len lu ll
              have hap := rows_snoc out3 (comb u l)
              have hmp : (hi.take (q + 1)).map (fun u => comb u l) = (hi.take q).map (fun u => comb u l) ++ [comb u l] := by rw [hsn3, List.map_append]; rfl
              obtain ⟨nl, hnle⟩ : ∃ x, negR l = x := ⟨_, rfl⟩
              obtain ⟨d, hd⟩ : ∃ x, comb u l = x := ⟨_, rfl⟩
              rw [hnle] at h57 h56 hnl
              rw [hd] at h56 hcl hap hmp
              have gnl := flat_length nl
              have gd := flat_length d
              have gd27 := flat_take27 hcl
              have d27 := flatF_take27 hcl
              have tk3 := take_rows (ls := out3) (n := M3) (by omega)
              unfold RL at h57 h56
              simp (dsimp := false) (disch := omega) only [h6, rules]
              refine Draw.intro (by kernel_rfl) ?_
              simp (dsimp := false) (disch := omega) only [r1, l27, flatF_fv, fl, ll, r3, u27, fu, lu, rl1, rl2, rules, tys, eq_self, ↓reduceIte, Nat.reduceMul, Nat.reduceLeDiff]
              repeat refine And.intro (by omega) ?_
              refine GoCall.pure h57 (by simp [fzAs, fzA, flat_fz, flatF_fv]) ?_
              simp (dsimp := false) (disch := omega) only [flat_ids, flat_reloc, List.append_nil, rules, Nat.reduceAdd]
              repeat refine And.intro (by omega) ?_
              refine GoCall.pure h56 (by simp [fzAs, fzA, flat_fz, flatF_fv]) ?_
              simp (dsimp := false) (disch := omega) only [flat_ids, flat_reloc, flat_fz, List.append_nil, gd, hcl, d27, tk3, hap, rl4, wrap64, rules, tys, eq_self, ↓reduceIte, Nat.reduceAdd, Nat.reduceMul, Nat.reduceBEq, Nat.reduceLT, Nat.reduceLeDiff]
              repeat refine And.intro (by omega) ?_
              refine Ap_loop (q + 1, out3 ++ [d]) (by dsimp only; omega) ?_ ⟨by omega, by rw [hmp, ho3, List.append_assoc]⟩
              refine Weak.keep [0, 1, 4] (by simp) rfl ?_ ?_
              · simp [leVs, leV, le1]
                omega
              · simp [leH, leO]
            · intro h5 h6
              have hqe : q = L2 := by omega
              have htk3 : hi.take q = hi := List.take_of_length_le (by omega)
              rw [htk3] at ho3
              simp (dsimp := false) (disch := omega) only [h6, wrap64, rules, tys, eq_self, ↓reduceIte, Nat.reduceBEq]
              refine Ap_loop (j + 1, out3) (by dsimp only; omega) ?_ ⟨by omega, by rw [hsn, combR_snoc, ho3, ho2, List.append_assoc]⟩
              refine Weak.keep [0, 1, 2] (by simp) rfl ?_ ?_
              · simp [leVs, leV, le1]
                omega
              · simp [leH, leO]
        · intro h3 h4
          have htk2 : lo.take j = lo := List.take_of_length_le (by omega)
          rw [htk2, ← hfin] at ho2
          subst ho2
          have rl5 := rowsF_length out2
          have tk5 := take_rows (ls := out2) (n := M) (by omega)
          rw [hM] at rl5
          simp (dsimp := false) (disch := omega) only [h4, Ap_end_ret, rules, Nat.reduceBEq]
          refine RetOK.pure (vs := [.lsl 2 0 M 27]) rfl ⟨trivial, trivial⟩ ?_
          simp (disch := omega) only [tk5, rl5, List.drop_zero, Nat.zero_add, Nat.le_refl, ↓reduceIte, List.idxOf?_nil, fzX, oneRes, fzV, fzC, fz1, fz0, Option.map_some, List.getElem?_cons_zero, List.getElem?_cons_succ]

theorem pd97 (cs0 : List (List Raw)) (hp0 : Pre cs0) : Den Tryz.prog 97 [] [.fv (.sl (rowsF cs0))] [] (.bool (feasB (sysL cs0 []))) := by
  obtain ⟨R, hR⟩ : ∃ R, feasB (sysL cs0 []) = R := ⟨_, rfl⟩
  rw [hR]
  refine den_of tabOk mixed Tryz.func97 (cd := _) rfl (by decide) rfl (n := 44) rfl rfl (m := 0) rfl ?_
  simp (dsimp := false) (disch := omega) only [List.replicate, rules]
  refine WA.loop (α := Nat × List (List Raw)) (fun ⟨v, cs⟩ => ⟨[.fv (.sl (rowsF cs)), .any, .bool false, .int .i64 v] ++ List.replicate 41 .any, []⟩)
    (fun ⟨v, _⟩ => 8 - v) (fun ⟨v, cs⟩ => v ≤ 8 ∧ Pre cs ∧ feasB (sysL cs []) = R ∧ ∀ w, w < v → occ cs w = false) (0, cs0) ?_ ?_ ?_
  · refine Weak.keep [] (by simp) rfl ?_ ?_
    · simp [leVs, leV, le1]
    · simp [leH]
  · exact ⟨Nat.zero_le _, hp0, hR, fun w hw => by omega⟩
  · rintro ⟨v, cs⟩ ⟨hv8, hp, hf, hocc⟩
    have h9 : ∀ l ∈ cs, l.length = 9 := fun l hl => (hp.ok l hl).len
    have hclen := hp.len
    simp (dsimp := false) (disch := omega) only [List.replicate, rules, tys, eq_self, ↓reduceIte]
    refine Br.dec ?_ ?_
    · intro h1 h2
      have hv : v < 8 := by omega
      have h122 := pd122 cs v hv (fun l hl => (hp.ok l hl).mono (by decide)) (by omega)
      obtain ⟨o, ho⟩ : ∃ o, occ cs v = o := ⟨_, rfl⟩
      rw [ho] at h122
      cases o with
      | false =>
        simp (dsimp := false) (disch := omega) only [h2, rules]
        refine GoCall.pure h122 rfl ?_
        simp (dsimp := false) (disch := omega) only [Bool.not_false, wrap64, rules, tys, eq_self, ↓reduceIte, Nat.reduceBEq]
        refine Ap_loop (v + 1, cs) (by dsimp only; omega) ?_ ⟨by omega, hp, hf, fun w hw => by
          by_cases hwv : w = v
          · rw [hwv]; exact ho
          · exact hocc w (by omega)⟩
        refine Weak.keep [] (by simp) rfl ?_ ?_
        · simp [leVs, leV, le1]
        · simp [leH]
      | true =>
        have h99 := pd99 cs v hv hp.cnf hp.ok (by omega)
        have his := sysL_is h9
        have hg := hp.good
        obtain ⟨s, hs⟩ : ∃ s, sysL cs [] = s := ⟨_, rfl⟩
        rw [hs] at his hg hf
        have hos := out_sys hv h9 hp.nc his
        have hbs := bad_sys hv h9 hp.nc his
        have hol : ∀ x ∈ outR cs v, LOk 4004 x := fun x hx => out_ok hp.ok (by decide) x (mem_outR.1 hx)
        have hlen : (outR cs v).length ≤ 200 := by
          have e1 := split_length cs v
          have e2 : (outR cs v).length = (restL cs v).length + (lowL cs v).length * (highL cs v).length := by
            unfold outR
            rw [List.length_append, flat_length' (fun l u => comb u l)]
          have e3 : (lowL cs v).length * (highL cs v).length ≤ 13 * 13 := Nat.mul_le_mul (by omega) (by omega)
          omega
        have hbadc : ∀ x ∈ outR cs v, IsConst x → co x 8 ≤ 0 → feasB s = false := by
          intro x hx hc h0
          have hb : Bad s v := by
            rw [hbs]
            rcases mem_out.1 (mem_outR.1 hx) with ⟨h3, _⟩ | ⟨l, hl, u, hu, h3, h4, rfl⟩
            · exact absurd hc (hp.nc x h3)
            · exact ⟨_, mem_high.2 ⟨u, hu, h4, rfl⟩, _, mem_low.2 ⟨l, hl, h3, rfl⟩, hc, h0⟩
          exact hg.bad hv ((badB_iff hg.len9).2 hb)
        obtain ⟨cc, hcc⟩ : ∃ c, outR cs v = c := ⟨_, rfl⟩
        rw [hcc] at h99 hos hol hlen hbadc
        have h9c : ∀ x ∈ cc, x.length = 9 := fun x hx => (hol x hx).len
        obtain ⟨n, hnn⟩ : ∃ n, cc.length = n := ⟨_, rfl⟩
        have rl := rowsF_length cc
        rw [hnn] at rl hlen
        simp (dsimp := false) (disch := omega) only [h2, rules]
        refine GoCall.pure h122 rfl ?_
        simp (dsimp := false) (disch := omega) only [Bool.not_true, rules]
        refine GoCall.pure h99 rfl ?_
        simp (dsimp := false) (disch := omega) only [rules]
        refine WA.loop (α := Nat × List (List Raw)) (fun ⟨i, kept⟩ => ⟨[.fv (.sl (rowsF cc)), .any, .bool false, .int .i64 v, .lsl 0 0 kept.length 27, .int .i64 i] ++ List.replicate 39 .any, [.row true (rowsF kept)]⟩)
          (fun ⟨i, _⟩ => n - i) (fun ⟨i, kept⟩ => i ≤ n ∧ kept = outS (cc.take i) ∧ ∀ j, j < i → IsConst (cc.getD j []) → 0 < co (cc.getD j []) 8) (0, []) ?_ ?_ ?_
        · refine Weak.nil 4 27 (by decide) rfl ?_
          refine Weak.keep [0] (by simp) rfl ?_ ?_
          · simp [leVs, leV, le1]
          · simp [leH, leO]
            rfl
        · exact ⟨Nat.zero_le _, rfl, fun j hj => by omega⟩
        · rintro ⟨i, kept⟩ ⟨hi, hk, hcon⟩
          have hkl : kept.length ≤ 200 := by
            have e1 := outS_len (cs := cc) (i := i)
            have e2 : (ncs cc).length ≤ cc.length := List.length_filter_le _ _
            rw [hk]; omega
          obtain ⟨K, hK⟩ : ∃ K, kept.length = K := ⟨_, rfl⟩
          have rlk := rowsF_length kept
          rw [hK] at rlk hkl
          dsimp only
          rw [hK]
          simp (dsimp := false) (disch := omega) only [List.replicate, rl, rules, tys, eq_self, ↓reduceIte]
          refine Br.dec ?_ ?_
          · intro h3 h4
            have hsn := take_snoc (cs := cc) (i := i) (by omega)
            have hmem := at_mem (ls := cc) (i := i) (by omega)
            have r1 := rowsF_getD cc i
            have hcon2 : (IsConst (cc.getD i []) → 0 < co (cc.getD i []) 8) → ∀ j, j < i + 1 → IsConst (cc.getD j []) → 0 < co (cc.getD j []) 8 := fun h0 j hj => by
              by_cases hji : j = i
              · rw [hji]; exact h0
              · exact hcon j (by omega)
            obtain ⟨x, hxx⟩ : ∃ x, cc.getD i [] = x := ⟨_, rfl⟩
            rw [hxx] at hmem r1 hsn hcon2
            have hx := hol x hmem
            have lx := hx.len
            have x27 := flatF_take27 lx
            have fx := flatF_length x
            have gx := flat_length x
            have gx27 := flat_take27 lx
            have hN := pd120 x (hx.mono (by decide))
            change Den Tryz.prog 120 [] [RL x] [] (RL (nrmR x)) at hN
            have hny := nrmR_ok hx (by decide)
            have hnl := nrmR_len lx
            have hcb := nrmR_constB lx
            have hsg := nrmR_sign lx
            have hosn := fun h => outS_snoc (cs := cc.take i) (l := x) h
            have hosc := fun h => outS_snoc_c (cs := cc.take i) (l := x) h
            obtain ⟨y, hy⟩ : ∃ y, nrmR x = y := ⟨_, rfl⟩
            rw [hy] at hN hny hnl hcb hsg hosn
            have hc := pd76 y (hny.mono (by decide))
            rw [hcb] at hc
            obtain ⟨b, hb⟩ : ∃ b, constB x = b := ⟨_, rfl⟩
            rw [hb] at hc hosn hosc
            have gy := flat_length y
            have gy27 := flat_take27 hnl
            have y27 := flatF_take27 hnl
            have hfc := flat_const' hnl
            have tkk := take_rows (ls := kept) (n := K) (by omega)
            have hap := rows_snoc kept y
            unfold RL at hN hc
            simp (dsimp := false) (disch := omega) only [h4, r1, x27, flatF_fv, fx, lx, rl, rules, tys, eq_self, ↓reduceIte, Nat.reduceMul, Nat.reduceLT, Nat.reduceLeDiff]
            repeat refine And.intro (by omega) ?_
            refine GoCall.pure hN (by simp [fzAs, fzA, flat_fz, flatF_fv]) ?_
            simp (dsimp := false) (disch := omega) only [flat_ids, flat_reloc, List.append_nil, gy, hnl, gy27, rules, tys, eq_self, ↓reduceIte, Nat.reduceAdd, Nat.reduceMul, Nat.reduceLT, Nat.reduceLeDiff]
            repeat refine And.intro (by omega) ?_
            refine GoCall.pure hc (by simp [fzAs, fzA, flat_fz, flatF_fv]) ?_
            cases b with
            | false =>
              have hnc : ¬ IsConst x := fun h => by rw [(constB_iff lx).2 h] at hb; cases hb
              simp (dsimp := false) (disch := omega) only [flat_ids, flat_fz, List.append_nil, Bool.not_false, gy, hnl, gy27, y27, tkk, hap, rlk, wrap64, rules, tys, eq_self, ↓reduceIte, Nat.reduceAdd, Nat.reduceMul, Nat.reduceBEq, Nat.reduceLT, Nat.reduceLeDiff]
              repeat refine And.intro (by omega) ?_
              refine Ap_loop (i + 1, kept ++ [y]) (by dsimp only; omega) ?_ ⟨by omega, by rw [hsn, hosn rfl, hk], hcon2 (fun h => absurd h hnc)⟩
              refine Weak.keep [3] (by simp) rfl ?_ ?_
              · simp [leVs, leV, le1]
                omega
              · simp [leH, leO]
            | true =>
              have hic : IsConst x := (constB_iff lx).1 hb
              have h36 := den26 (y.getD 8 rz) ((hny.at 8).mono (by decide))
              have hco : co y 8 = (y.getD 8 rz).q := rfl
              obtain ⟨r, hr⟩ : ∃ r, y.getD 8 rz = r := ⟨_, rfl⟩
              rw [hr] at h36 hfc hco
              unfold Raw.v at h36
              have hle : sgq r.q ≤ 0 ↔ co x 8 ≤ 0 := by
                rw [← hsg.2, hco]
                have := @sgq_pos_iff r.q
                grind
              simp (dsimp := false) (disch := omega) only [flat_ids, List.append_nil, Bool.not_true, hfc, gy, hnl, rules, tys, eq_self, ↓reduceIte, Nat.reduceAdd, Nat.reduceMul, Nat.reduceLeDiff]
              repeat refine And.intro (by omega) ?_
              refine GoCall.pure h36 rfl ?_
              simp (dsimp := false) (disch := omega) only [List.append_nil, rules, tys, eq_self, ↓reduceIte, Nat.reduceAdd]
              refine Br.dec ?_ ?_
              · intro h5 h6
                have hR2 : R = false := by rw [← hf]; exact hbadc x hmem hic (hle.1 h5)
                subst hR2
                simp (dsimp := false) (disch := omega) only [h6, Ap_end_ret, rules]
                exact RetOK.pure rfl ⟨trivial, trivial⟩ rfl
              · intro h5 h6
                simp (dsimp := false) (disch := omega) only [h6, wrap64, rules, tys, eq_self, ↓reduceIte]
                refine Ap_loop (i + 1, kept) (by dsimp only; omega) ?_ ⟨by omega, by rw [hsn, hosc rfl]; exact hk, hcon2 (fun _ => by
                  have := fun h => h5 (hle.2 h)
                  grind)⟩
                refine Weak.keep [0] (by simp) rfl ?_ ?_
                · simp [leVs, leV, le1]
                  omega
                · simp [leH, leO]
          · intro h3 h4
            have htk : cc.take i = cc := List.take_of_length_le (by omega)
            rw [htk] at hk
            have hko : ∀ f ∈ kept, LOk 100000 f ∧ ¬ IsConst f := fun f hf2 => by
              rw [hk] at hf2
              obtain ⟨l, hl, rfl⟩ := List.mem_map.1 hf2
              obtain ⟨h5, h6⟩ := (mem_ncs h9c).1 hl
              exact ⟨(nrmR_ok (hol l h5) (by decide)).mono (by decide), nrmR_const (h9c l h5) h6⟩
            have h96 := pd96 kept (fun f hf2 => (hko f hf2).1) (by omega)
            have hvk : violB kept = false := by
              cases hvb : violB kept with
              | false => rfl
              | true =>
                obtain ⟨l, hl, h5, _⟩ := (violB_iff (fun f hf2 => (hko f hf2).1.len)).1 hvb
                exact absurd h5 (hko l hl).2
            have hsk : sysL kept [] = stepL s v := by
              have e1 : IsSys kept (stepL s v) := by rw [hk]; exact (sys_nrm h9c).2 hos
              exact (e1.eq (fun f hf2 => (hko f hf2).1.len)).symm
            rw [hvk, if_neg (by simp), hsk] at h96
            have hnb : badB s v = false := by
              cases hb : badB s v with
              | false => rfl
              | true =>
                exfalso
                have hb2 := hbs.1 ((badB_iff hg.len9).1 hb)
                obtain ⟨u, hu, l, hl, h5, h6⟩ := hb2
                have hm : comb u l ∈ cc := by
                  rw [← hcc]
                  unfold outR
                  rw [List.mem_append, List.mem_flatMap]
                  exact .inr ⟨l, hl, List.mem_map.2 ⟨u, hu, rfl⟩⟩
                obtain ⟨j, hj, he⟩ := mem_getD.1 hm
                have := hcon j (by omega) (by rw [he]; exact h5)
                rw [he] at this
                grind
            have tkk := take_rows (ls := kept) (n := K) (by omega)
            have hgs := hg.step hv
            simp (dsimp := false) (disch := omega) only [h4, rules, Nat.reduceBEq]
            refine GoCall.pure h96 (by simp [fzAs, fzA, fz1, fz0, rlk, tkk]) ?_
            simp (dsimp := false) (disch := omega) only [List.append_nil, wrap64, rules, tys, eq_self, ↓reduceIte]
            refine Ap_loop (v + 1, stepL s v) (by dsimp only; omega) ?_ ⟨by omega, hgs.pre, by rw [hgs.self, hg.feas hv hnb]; exact hf, fun w hw => ?_⟩
            · refine Weak.keep [] (by simp) rfl ?_ ?_
              · simp [leVs, leV, le1]
              · simp [leH]
            · cases how : occ (stepL s v) w with
              | false => rfl
              | true =>
                obtain ⟨h5, h6⟩ := occ_step hg hv (by omega) how
                have h7 := (sys_occ h9 his (by omega)).1 h6
                rw [hocc w (by omega)] at h7; cases h7
    · intro h1 h2
      have hv : v = 8 := by omega
      have hnil : cs = [] := by
        cases hc : cs with
        | nil => rfl
        | cons l t =>
          exfalso
          have hl : l ∈ cs := by rw [hc]; simp
          obtain ⟨w, hw, h0⟩ := not_const (hp.nc l hl)
          have := hocc w (by omega)
          rw [occ_iff.2 ⟨l, hl, h0⟩] at this; cases this
      have hR2 : R = true := by
        rw [← hf, hnil]
        exact feasB_nil
      subst hR2
      simp (dsimp := false) (disch := omega) only [h2, Ap_end_ret, rules, Nat.reduceBEq]
      exact RetOK.pure rfl ⟨trivial, trivial⟩ rfl

theorem pd96g (cs : List (List Raw)) (h : CsOk cs) : Den Tryz.prog 96 [] [.fv (.sl (rowsF cs))] [] (if violB cs then .tup [.fv (.sl []), .bool false] else .tup [.fv (.sl (rowsF (sysL cs []))), .bool true]) :=
  pd96 cs (fun l hl => (h.ok l hl).mono (by decide)) (by have := h.len; omega)
theorem pd97g (s : List (List Raw)) (h : GoodS s) : Den Tryz.prog 97 [] [.fv (.sl (rowsF s))] [] (.bool (feasB s)) := by
  have := pd97 s h.pre
  rw [h.self] at this
  exact this
end Go.Proofs.YtddnnhlcpffbdaaGreat

namespace Go.Proofs.YtddnnhlcpffbdaaGreat
open Go.AM Go.Pl
set_option maxRecDepth 100000
set_option maxHeartbeats 4000000

theorem co_rz {w : Nat} : co (List.replicate 9 rz) w = 0 := by
  have rq : rz.q = 0 := by
    unfold Raw.q rz mkq
    simp [val]
  unfold co
  rw [List.getD_eq_getElem?_getD, List.getElem?_replicate]
  split
  · exact rq
  · exact rq
theorem co_setne {l : List Raw} {v w : Nat} {r : Raw} (h : w ≠ v) : co (l.set v r) w = co l w := by
  unfold co
  rw [List.getD_eq_getElem?_getD, List.getElem?_set_ne (fun e => h e.symm), ← List.getD_eq_getElem?_getD]
theorem linS_co (xs : List Int) : ∀ (n i a : Nat) (rs : List Raw) (w : Nat), i + n ≤ w → co (linS xs n i a rs) w = co rs w
  | 0, _, _, _, _, _ => rfl
  | n + 1, i, a, rs, w, h => by
    unfold linS
    rw [linS_co xs n (i + 1) _ _ w (by omega), co_setne (by omega)]
theorem linG_dim (xs : List Int) (n a : Nat) : Dim n [(linG xs n a).1] := by
  intro l hl w hw hw8
  rw [List.mem_singleton] at hl
  subst hl
  unfold linG
  split
  · rw [co_setne (by omega), co_setne (by omega), linS_co xs n 0 a _ w (by omega), co_rz]
  · rw [co_setne (by omega), linS_co xs n 0 a _ w (by omega), co_rz]
theorem consS_dim (xs : List Int) (n : Nat) : ∀ k b, Dim n (consS xs n k b)
  | 0, b => fun l h => by simp [consS] at h
  | k + 1, b => fun l h => by
    simp only [consS, List.mem_cons] at h
    rcases h with h | h
    · rw [h]; exact linG_dim xs n b _ (by simp)
    · exact consS_dim xs n k _ l h
theorem side_co {v w : Nat} {z : Int} (_ : v < 9) (hw : w < 9) : co (sideL v z) w = co (varL v) w + co (numL (z : Rat)) w ∧ co (sideH v z) w = -co (varL v) w + co (numL (z : Rat)) w := by
  have l1 := varL_len v
  have l2 := numL_len (z : Rat)
  have l3 := negR_len l1
  constructor
  · show ((List.map cn (addL (varL v) (numL (z : Rat)))).getD w rz).q = _
    rw [addL_getD (by omega) (by omega), cn_q]; rfl
  · show ((List.map cn (addL (negR (varL v)) (numL (z : Rat)))).getD w rz).q = _
    rw [addL_getD (by omega) (by omega), cn_q, ← negR_at l1 hw]; rfl
theorem boxS_dim (xs : List Int) (d : Nat) : ∀ k v b, v + k ≤ d → d ≤ 8 → Dim d (boxS xs k v b)
  | 0, v, b, _, _ => fun l h => by simp [boxS] at h
  | k + 1, v, b, hd, hd8 => fun l h w hw hw8 => by
    simp only [boxS, List.mem_cons] at h
    rcases h with h | h | h
    · rw [h, (side_co (by omega) (by omega)).1, co_var (by omega) (by omega), co_num (by omega), if_neg (by omega), if_neg (by omega)]; grind
    · rw [h, (side_co (by omega) (by omega)).2, co_var (by omega) (by omega), co_num (by omega), if_neg (by omega), if_neg (by omega)]; grind
    · exact boxS_dim xs d k (v + 1) _ (by omega) hd8 l h w hw hw8
structure Few (cs : List (List Raw)) : Prop where
  ok : ∀ l ∈ cs, LOk 4 l
  len : cs.length ≤ 41
  dim : ∃ d, Dim d cs ∧ ((d = 3 ∧ (ncs cs).length ≤ 4) ∨ (d = 2 ∧ (ncs cs).length ≤ 6))
theorem fewC_const (n : Nat) : ∀ l ∈ fewC n, constB l = true ∧ LOk 4 l ∧ Dim 2 [l] := by
  intro l hl
  obtain ⟨i, hi, rfl⟩ := List.mem_map.1 hl
  refine ⟨(constB_iff (numL_len _)).2 (fun w hw => by rw [co_num (by omega), if_neg (by omega)]), (numL_ok (bd_int (by omega))).mono (by decide), fun m hm w hw hw8 => ?_⟩
  rw [List.mem_singleton] at hm
  subst hm
  rw [co_num (by omega), if_neg (by omega)]
theorem cons_few (xs : List Int) (n m b : Nat) (h : (n = 3 ∧ m ≤ 4) ∨ (n = 2 ∧ m ≤ 6)) : Few (consS xs n m b) := by
  have hl := consS_len xs n m b
  have hn := ncs_le (consS xs n m b)
  exact ⟨consS_ok xs n m b, by omega, n, consS_dim xs n m b, by omega⟩
theorem boxcons_few (xs : List Int) (m a b : Nat) (h : m ≤ 2) : Few (boxS xs 2 0 a ++ consS xs 2 m b) := by
  have hl := consS_len xs 2 m b
  have hb := boxS_len xs 2 0 a
  have hn := ncs_le (boxS xs 2 0 a ++ consS xs 2 m b)
  rw [List.length_append] at hn
  refine ⟨fun l hl => ?_, by rw [List.length_append]; omega, 2, (boxS_dim xs 2 2 0 a (by decide) (by decide)).append (consS_dim xs 2 m b), by omega⟩
  rcases List.mem_append.1 hl with h1 | h1
  · exact boxS_ok xs 2 0 a l h1
  · exact consS_ok xs 2 m b l h1
theorem fewF_few (xs : List Int) (a : Nat) : Few (fewF xs a).1 := by
  unfold fewF
  have l5 := nN_lt (xs := xs) (a := nx xs a) (n := 5) (by decide)
  have l3 := nN_lt (xs := xs) (a := nxs xs 4 (nx xs a)) (n := 3) (by decide)
  split
  · refine ⟨fun l hl => (fewC_const _ l hl).2.1, by dsimp only; rw [fewC_len]; split <;> decide, 2, fun l hl => (fewC_const _ l hl).2.2 l (by simp), .inr ⟨rfl, ?_⟩⟩
    dsimp only
    rw [ncs_const (fun l hl => (fewC_const _ l hl).1)]; decide
  · exact boxcons_few xs _ _ _ (by omega)
  · exact boxcons_few xs _ _ _ (by omega)
  · exact boxcons_few xs _ _ _ (by omega)
  · exact cons_few xs 3 _ _ (by omega)
  · exact cons_few xs 2 _ _ (by omega)
theorem Few.cs {cs : List (List Raw)} (h : Few cs) : CsOk cs := by
  obtain ⟨d, hd, hl⟩ := h.dim
  have := h.len
  exact ok_of (d := d) (fun l hl => (h.ok l hl).mono (by decide)) hd (by omega) (by omega)
def unit2 : List (List Raw) := [varL 0, comb (numL ((1 : Int) : Rat)) (varL 0)]
def unit0 : List (List Raw) := [varL 0, negR (varL 0)]
theorem lval_var (x : Nat → Rat) : lval (varL 0) x = x 0 := by
  have c := fun w hw => co_var (v := 0) (w := w) (by decide) hw
  rw [lval_eq, c 8 (by decide), c 0 (by decide), c 1 (by decide), c 2 (by decide), c 3 (by decide), c 4 (by decide), c 5 (by decide), c 6 (by decide), c 7 (by decide)]
  simp
  try grind
theorem lval_neg {l : List Raw} (h9 : l.length = 9) (x : Nat → Rat) : lval (negR l) x = -lval l x := by
  have c := fun w hw => negR_at h9 (i := w) hw
  rw [lval_eq, lval_eq, c 8 (by decide), c 0 (by decide), c 1 (by decide), c 2 (by decide), c 3 (by decide), c 4 (by decide), c 5 (by decide), c 6 (by decide), c 7 (by decide)]
  grind
theorem lval_comb {u l : List Raw} (hu : u.length = 9) (hl : l.length = 9) (x : Nat → Rat) : lval (comb u l) x = lval u x - lval l x := by
  have c := fun w hw => comb_at hu hl (i := w) hw
  rw [lval_eq, lval_eq u, lval_eq l, c 8 (by decide), c 0 (by decide), c 1 (by decide), c 2 (by decide), c 3 (by decide), c 4 (by decide), c 5 (by decide), c 6 (by decide), c 7 (by decide)]
  grind
theorem lval_num (q : Rat) (x : Nat → Rat) : lval (numL q) x = q := by
  have c := fun w hw => co_num (q := q) (w := w) hw
  rw [lval_eq, c 8 (by decide), c 0 (by decide), c 1 (by decide), c 2 (by decide), c 3 (by decide), c 4 (by decide), c 5 (by decide), c 6 (by decide), c 7 (by decide)]
  simp
  try grind
theorem unit_ok : ∀ l ∈ unit2 ++ unit0, LOk 6 l ∧ Dim 2 [l] := by
  have v0 : Dim 2 [varL 0] := fun m hm w hw hw8 => by
    rw [List.mem_singleton] at hm
    subst hm
    rw [co_var (by omega) (by omega), if_neg (by omega)]
  intro l hl
  simp only [unit2, unit0, List.cons_append, List.nil_append, List.mem_cons, List.not_mem_nil, or_false] at hl
  rcases hl with h | h | h | h
  · rw [h]; exact ⟨(varL_ok 0).mono (by decide), v0⟩
  · rw [h]
    refine ⟨(comb_ok (k := 1) (numL_ok (bd_int (by decide))) (varL_ok 0) (by decide)).mono (by decide), fun m hm w hw hw8 => ?_⟩
    rw [List.mem_singleton] at hm
    subst hm
    rw [comb_at (numL_len _) (varL_len 0) (by omega), co_num (by omega), co_var (by omega) (by omega), if_neg (by omega), if_neg (by omega)]
    grind
  · rw [h]; exact ⟨(varL_ok 0).mono (by decide), v0⟩
  · rw [h]; exact ⟨(negR_ok (varL_ok 0) (by decide)).mono (by decide), v0.neg (varL_len 0)⟩
theorem unit2_cs : CsOk unit2 := by
  have hn := ncs_le unit2
  exact ok_of (d := 2) (fun l hl => (unit_ok l (List.mem_append_left _ hl)).1) (fun l hl => (unit_ok l (List.mem_append_left _ hl)).2 l (by simp)) (by decide) (.inr ⟨rfl, by have : unit2.length = 2 := rfl; omega⟩)
theorem unit0_cs : CsOk unit0 := by
  have hn := ncs_le unit0
  exact ok_of (d := 2) (fun l hl => (unit_ok l (List.mem_append_right _ hl)).1) (fun l hl => (unit_ok l (List.mem_append_right _ hl)).2 l (by simp)) (by decide) (.inr ⟨rfl, by have : unit0.length = 2 := rfl; omega⟩)
theorem var_nc : ¬ IsConst (varL 0) := fun h => by
  have := h 0 (by decide)
  rw [co_var (by decide) (by decide), if_pos rfl] at this
  exact absurd this (by decide)
theorem unit2_bnd : bndP unit2 0 = some ((0 : Rat), ((1 : Int) : Rat)) := by
  refine bndP_of (by decide) unit2_cs (by decide) (fun t => ?_)
  have e1 : ((1 : Int) : Rat) = 1 := rfl
  have hc : ∀ x, lval (comb (numL ((1 : Int) : Rat)) (varL 0)) x = 1 - x 0 := fun x => by rw [lval_comb (numL_len _) (varL_len 0), lval_num, lval_var, e1]
  have nc2 : ¬ IsConst (comb (numL ((1 : Int) : Rat)) (varL 0)) := fun h => by
    have := h 0 (by decide)
    rw [comb_at (numL_len _) (varL_len 0) (by decide), co_num (by decide), co_var (by decide) (by decide), if_neg (by decide), if_pos rfl] at this
    grind
  rw [e1]
  constructor
  · rintro ⟨x, hx, rfl⟩
    have h1 := hx (varL 0) (by simp [unit2])
    have h2 := hx (comb (numL ((1 : Int) : Rat)) (varL 0)) (by simp [unit2])
    rw [lval_var] at h1
    rw [hc] at h2
    rcases h1 with h1 | h1
    · rcases h2 with h2 | h2
      · exact ⟨h1, by grind⟩
      · exact absurd h2.1 nc2
    · exact absurd h1.1 var_nc
  · rintro ⟨h1, h2⟩
    refine ⟨fun _ => t, fun l hl => .inl ?_, rfl⟩
    simp only [unit2, List.mem_cons, List.not_mem_nil, or_false] at hl
    rcases hl with hl | hl
    · rw [hl, lval_var]; exact h1
    · rw [hl, hc]; grind
theorem unit2_inner : innerB unit2 = true := (bndP_some (by decide) unit2_cs unit2_bnd).1
theorem unit0_inner : innerB unit0 = false := by
  cases h : innerB unit0 with
  | false => rfl
  | true =>
    exfalso
    obtain ⟨x, hx⟩ := (innerB_iff unit0_cs.len9).1 h
    have h1 := hx (varL 0) (by simp [unit0])
    have h2 := hx (negR (varL 0)) (by simp [unit0])
    rw [lval_neg (varL_len 0)] at h2
    rw [lval_var] at h1 h2
    rcases h1 with h1 | h1
    · rcases h2 with h2 | h2
      · grind
      · have := h2.2; grind
    · exact absurd h1.1 var_nc

theorem flatF_append : ∀ a b : List Raw, flatF (a ++ b) = flatF a ++ flatF b
  | [], _ => rfl
  | r :: a, b => by simp only [List.cons_append, flatF, flatF_append a b]
theorem two_take {x y : List Raw} (hx : x.length = 9) : List.take 27 (flatF (x ++ y)) = flatF x := by
  rw [flatF_append]; exact List.take_left' (by rw [flatF_length, hx])
theorem two_drop {x y : List Raw} (hx : x.length = 9) (hy : y.length = 9) : List.take 27 (List.drop 27 (flatF (x ++ y))) = flatF y := by
  rw [flatF_append, List.drop_left' (by rw [flatF_length, hx])]; exact flatF_take27 hy
theorem two_head {x : List Raw} (hx : x.length = 9) (Z : List PV) : List.take 27 (flat x ++ Z) = flat x := List.take_left' (by rw [flat_length, hx])
theorem two_tail {x : List Raw} (hx : x.length = 9) : List.drop 54 (flat x ++ zcells 9) = [] := List.drop_of_length_le (by rw [List.length_append, flat_length, hx, zcells_length]; decide)

theorem pd16 : Den Tryz.prog 16 [] [] [] (.bool true) := by
  have h55 := pd55 0 (by decide)
  have h24 := den24 1 (by decide)
  change Den Tryz.prog 24 [] [.int .i64 1] [] (cn ((1 : Int) : Rat)).v at h24
  have h30 := pd30 (cn ((1 : Int) : Rat)) (Raw.Ok.mono (cn_ok (bd_int (by decide))) (by decide))
  rw [cn_q] at h30
  have h57 := pd57 (varL 0) ((varL_ok 0).mono (by decide))
  have h56 := den74 (numL ((1 : Int) : Rat)) (negR (varL 0)) ((numL_ok (bd_int (by decide))).mono (by decide)) ((negR_ok (varL_ok 0) (by decide)).mono (by decide))
  change Den Tryz.prog 56 [] [_, _] [] (RL (comb (numL ((1 : Int) : Rat)) (varL 0))) at h56
  have h13 := pd13 unit2 0 (by decide) unit2_cs (by decide)
  rw [unit2_bnd] at h13
  change Den Tryz.prog 13 [] [.fv (.sl (rowsF unit2)), .int .i64 0] [] (.tup [FR 0, FR ((1 : Int) : Rat), .int .i64 0]) at h13
  have h20 := pd20 unit2 unit2_cs (by decide)
  rw [unit2_inner] at h20
  have h20b := pd20 unit0 unit0_cs (by decide)
  rw [unit0_inner] at h20b
  have h22 := den26 (cn 0) (Raw.Ok.mono (cn_ok (Bd.zero (k := 1) (by decide))) (by decide))
  rw [cn_q, sgq_zero'] at h22
  have h23 := den29 (cn ((1 : Int) : Rat)) (cn ((1 : Int) : Rat)) (Raw.Ok.mono (cn_ok (bd_int (by decide))) (by decide)) (Raw.Ok.mono (cn_ok (bd_int (by decide))) (by decide))
  rw [cn_q, Rat.sub_self, sgq_zero'] at h23
  have r2 : rowsF unit2 = [flatF (varL 0), flatF (comb (numL ((1 : Int) : Rat)) (varL 0))] := rfl
  have r0 : rowsF unit0 = [flatF (varL 0), flatF (negR (varL 0))] := rfl
  rw [r2] at h13 h20
  rw [r0] at h20b
  change Den Tryz.prog 13 [] _ [] (.tup [(cn 0).v, (cn ((1 : Int) : Rat)).v, .int .i64 0]) at h13
  have lx := varL_len 0
  have ln := numL_len ((1 : Int) : Rat)
  have lg := negR_len lx
  have lc := comb_len ln lx
  obtain ⟨c0, hc0⟩ : ∃ t, cn 0 = t := ⟨_, rfl⟩
  obtain ⟨c1, hc1⟩ : ∃ t, cn ((1 : Int) : Rat) = t := ⟨_, rfl⟩
  rw [hc0, hc1] at h13
  rw [hc0] at h22
  rw [hc1] at h24 h30 h23
  obtain ⟨x, hx⟩ : ∃ t, varL 0 = t := ⟨_, rfl⟩
  obtain ⟨o, ho⟩ : ∃ t, numL ((1 : Int) : Rat) = t := ⟨_, rfl⟩
  rw [hx, ho] at h56 h13 h20 lc
  rw [hx] at h55 h57 h20b lx lg
  rw [ho] at h30 ln
  obtain ⟨g, hg⟩ : ∃ t, negR x = t := ⟨_, rfl⟩
  obtain ⟨y, hy⟩ : ∃ t, comb o x = t := ⟨_, rfl⟩
  rw [hg] at h57 h56 h20b lg
  rw [hy] at h56 h13 h20 lc
  have gx := flat_length x
  have gx27 := flat_take27 lx
  have x27 := flatF_take27 lx
  have go := flat_length o
  have go27 := flat_take27 ln
  have gg := flat_length g
  have gg27 := flat_take27 lg
  have g27 := flatF_take27 lg
  have gy := flat_length y
  have gy27 := flat_take27 lc
  have y27 := flatF_take27 lc
  unfold Raw.v at h24 h30 h13 h22 h23
  unfold RL at h55 h30 h57 h56
  have e0 : ((0 : Int) == 0) = true := rfl
  refine den_of tabOk mixed Tryz.func16 (cd := _) rfl (by decide) rfl (n := 67) rfl rfl (m := 0) rfl ?_
  simp (dsimp := false) (disch := omega) only [List.replicate, rules]
  refine GoCall.pure h55 rfl ?_
  simp (dsimp := false) (disch := omega) only [flat_reloc, List.append_nil, gx, lx, rules, tys, eq_self, Nat.reduceAdd, Nat.reduceMul, Nat.reduceLT, Nat.reduceLeDiff]
  repeat refine And.intro (by omega) ?_
  refine GoCall.pure h24 rfl ?_
  simp (dsimp := false) (disch := omega) only [List.append_nil, rules]
  refine GoCall.pure h30 rfl ?_
  simp (dsimp := false) (disch := omega) only [flat_reloc, List.append_nil, go, ln, rules, tys, eq_self, Nat.reduceAdd, Nat.reduceMul, Nat.reduceLT, Nat.reduceLeDiff]
  repeat refine And.intro (by omega) ?_
  refine Draw.intro (by kernel_rfl) ?_
  simp (dsimp := false) (disch := omega) only [gx, lx, gx27, go, ln, go27, rules, tys, eq_self, ↓reduceIte, Nat.reduceMul, Nat.reduceLeDiff]
  repeat refine And.intro (by omega) ?_
  refine GoCall.pure h57 (by simp [fzAs, fzA, flat_fz, flatF_fv]) ?_
  simp (dsimp := false) (disch := omega) only [flat_ids, flat_reloc, List.append_nil, rules, Nat.reduceAdd]
  refine GoCall.pure h56 (by simp [fzAs, fzA, flat_fz, flatF_fv]) ?_
  have hZ := two_head lx
  have hD := two_tail lx
  simp only [zcells] at hD
  have hxy : flat x ++ flat y = flat (x ++ y) := (flat_append x y).symm
  have hxg : flat x ++ flat g = flat (x ++ g) := (flat_append x g).symm
  have t1 := two_take (y := y) lx
  have t2 := two_drop lx lc
  have t3 := two_take (y := g) lx
  have t4 := two_drop lx lg
  simp (dsimp := false) (disch := omega) only [flat_ids, flat_reloc, flat_fz, List.append_nil, gx, lx, gy, lc, hZ, hD, hxy, t1, t2, List.length_append, rules, tys, eq_self, ↓reduceIte, Nat.reduceAdd, Nat.reduceMul, Nat.reduceLT, Nat.reduceLeDiff]
  repeat refine And.intro (by omega) ?_
  refine GoCall.pure h13 (by simp [fzAs, fzA, fz1, fz0]) ?_
  simp (dsimp := false) (disch := omega) only [List.append_nil, rules, tys, eq_self, Nat.reduceAdd, Nat.reduceLT, Nat.reduceLeDiff]
  repeat refine And.intro (by omega) ?_
  refine GoCall.pure h20 (by simp [fzAs, fzA, fz1, fz0]) ?_
  simp (dsimp := false) (disch := omega) only [List.append_nil, rules, Nat.reduceAdd]
  repeat refine And.intro (by omega) ?_
  refine Draw.intro (by kernel_rfl) ?_
  simp (dsimp := false) (disch := omega) only [gx, lx, gx27, rules, tys, eq_self, ↓reduceIte, Nat.reduceMul, Nat.reduceLeDiff]
  repeat refine And.intro (by omega) ?_
  refine GoCall.pure h57 (by simp [fzAs, fzA, flat_fz, flatF_fv]) ?_
  simp (dsimp := false) (disch := omega) only [flat_ids, flat_reloc, flat_fz, List.append_nil, gx, lx, gg, lg, hZ, hD, hxg, t3, t4, List.length_append, rules, tys, eq_self, ↓reduceIte, Nat.reduceAdd, Nat.reduceMul, Nat.reduceLT, Nat.reduceLeDiff]
  repeat refine And.intro (by omega) ?_
  refine GoCall.show h20b (Plain.tup (by simp; exact ⟨Plain.lit _, Plain.lit _⟩)) rfl rfl ?_
  simp (dsimp := false) (disch := omega) only [rules, Nat.reduceAdd]
  refine Draw.intro (by kernel_rfl) ?_
  simp (dsimp := false) (disch := omega) only [e0, Bool.not_false, rules, tys, eq_self, ↓reduceIte, Nat.reduceAdd, Nat.reduceLeDiff]
  repeat refine And.intro (by omega) ?_
  refine GoCall.pure h22 rfl ?_
  simp (dsimp := false) (disch := omega) only [List.append_nil, e0, rules, tys, eq_self, ↓reduceIte, Nat.reduceAdd, Nat.reduceLeDiff]
  repeat refine And.intro (by omega) ?_
  refine GoCall.pure h24 rfl ?_
  simp (dsimp := false) (disch := omega) only [List.append_nil, rules, Nat.reduceAdd]
  refine GoCall.pure h23 rfl ?_
  simp (dsimp := false) (disch := omega) only [List.append_nil, e0, Ap_end_ret, rules, tys, eq_self, ↓reduceIte, Nat.reduceAdd]
  exact RetOK.pure rfl ⟨trivial, trivial⟩ rfl
end Go.Proofs.YtddnnhlcpffbdaaGreat

namespace Go.Proofs.YtddnnhlcpffbdaaGreat
open Go.AM Go.Pl
set_option maxRecDepth 100000
set_option maxHeartbeats 4000000

theorem pd98 : Den Tryz.prog 98 [] [] [] (.fv (.sl (rowsF [numL ((-1 : Int) : Rat)]))) := by
  have h24 := den24 (-1) (by decide)
  change Den Tryz.prog 24 [] [.int .i64 (-1)] [] (cn ((-1 : Int) : Rat)).v at h24
  have h30 := pd30 (cn ((-1 : Int) : Rat)) (Raw.Ok.mono (cn_ok (bd_int (by decide))) (by decide))
  rw [cn_q] at h30
  have hnl := numL_len ((-1 : Int) : Rat)
  have r1 : rowsF [numL ((-1 : Int) : Rat)] = [flatF (numL ((-1 : Int) : Rat))] := rfl
  rw [r1]
  obtain ⟨c, hc⟩ : ∃ c, cn ((-1 : Int) : Rat) = c := ⟨_, rfl⟩
  rw [hc] at h24 h30
  obtain ⟨y, hy⟩ : ∃ y, numL ((-1 : Int) : Rat) = y := ⟨_, rfl⟩
  rw [hy] at h30 hnl ⊢
  have gy := flat_length y
  have gy27 := flat_take27 hnl
  have y27 := flatF_take27 hnl
  unfold Raw.v at h24 h30
  unfold RL at h30
  refine den_of tabOk mixed Tryz.func98 (cd := _) rfl (by decide) rfl (n := 4) rfl rfl (m := 0) rfl ?_
  simp (dsimp := false) (disch := omega) only [List.replicate, rules]
  refine GoCall.pure h24 rfl ?_
  simp (dsimp := false) (disch := omega) only [rules]
  refine GoCall.pure h30 rfl ?_
  simp (dsimp := false) (disch := omega) only [flat_ids, flat_reloc, flat_fz, List.append_nil, gy, hnl, y27, Ap_end_ret, rules, tys, eq_self, ↓reduceIte, Nat.reduceAdd, Nat.reduceMul, Nat.reduceLT, Nat.reduceLeDiff]
  exact RetOK.pure rfl ⟨trivial, trivial⟩ rfl

theorem turn_cs {s : List (List Raw)} {i : Nat} (hg : GoodT s) (hi : i < s.length) : CsOk (del s i ++ [negR (s.getD i [])]) ∧ innerB (del s i ++ [negR (s.getD i [])]) = redB s i ∧ Pre (del s i ++ [negR (s.getD i [])]) := by
  have hl := del_len hi
  obtain ⟨h1, h2⟩ := hg.turn (t := del s i) (fun l hl => del_mem hl) (at_mem hi) (by omega)
  have h9 : ∀ l ∈ del s i ++ [negR (s.getD i [])], l.length = 9 := fun l hl => (h2.ok l hl).len
  refine ⟨⟨fun l hl => (h2.ok l hl).mono (by decide), by have := h2.len; omega, ?_, h1, fun l hl _ => h2.ok l hl⟩, inner_nc h9 h2.nc, h2⟩
  have h3 := ncs_le (del s i ++ [negR (s.getD i [])])
  have h4 := hg.good.len
  rw [List.length_append, List.length_singleton] at h3
  omega
end Go.Proofs.YtddnnhlcpffbdaaGreat

namespace Go.Proofs.YtddnnhlcpffbdaaGreat
open Go.AM Go.Pl
set_option maxRecDepth 100000
set_option maxHeartbeats 4000000

theorem pd51 (cs : List (List Raw)) (h : CsT cs) : Den Tryz.prog 51 [] [.fv (.sl (rowsF cs))] [] (.fv (.sl (rowsF (canonP cs)))) := by
  obtain ⟨R, hR⟩ : ∃ R, canonP cs = R := ⟨_, rfl⟩
  rw [hR]
  unfold canonP innerB at hR
  have h44 := pd96g cs h.cs
  have hg0 := h.good
  have h45 := pd97g _ hg0.good
  have h84 := pd98
  cases hvb : violB cs with
  | true =>
    rw [hvb, if_pos rfl] at h44
    rw [hvb] at hR
    have hR2 : R = [numL ((-1 : Int) : Rat)] := hR.symm
    subst hR2
    refine den_of tabOk mixed Tryz.func51 (cd := _) rfl (by decide) rfl (n := 47) rfl rfl (m := 0) rfl ?_
    simp (dsimp := false) (disch := omega) only [List.replicate, rules]
    refine GoCall.pure h44 rfl ?_
    simp (dsimp := false) (disch := omega) only [Bool.not_false, rules, eq_self, ↓reduceIte]
    refine GoCall.pure h84 rfl ?_
    simp (dsimp := false) (disch := omega) only [Ap_end_ret, rules]
    exact RetOK.pure rfl ⟨trivial, trivial⟩ rfl
  | false =>
    rw [hvb, if_neg (by simp)] at h44
    rw [hvb] at hR
    cases hfb : feasB (sysL cs []) with
    | false =>
      rw [hfb] at hR h45
      have hR2 : R = [numL ((-1 : Int) : Rat)] := hR.symm
      subst hR2
      refine den_of tabOk mixed Tryz.func51 (cd := _) rfl (by decide) rfl (n := 47) rfl rfl (m := 0) rfl ?_
      simp (dsimp := false) (disch := omega) only [List.replicate, rules]
      refine GoCall.pure h44 rfl ?_
      simp (dsimp := false) (disch := omega) only [Bool.not_true, rules]
      refine GoCall.pure h45 rfl ?_
      simp (dsimp := false) (disch := omega) only [Bool.not_false, rules, ↓reduceIte]
      refine GoCall.pure h84 rfl ?_
      simp (dsimp := false) (disch := omega) only [Ap_end_ret, rules]
      exact RetOK.pure rfl ⟨trivial, trivial⟩ rfl
    | true =>
      rw [hfb, Bool.not_false, Bool.and_true, if_pos rfl] at hR
      rw [hfb] at h45
      obtain ⟨s0, hs0⟩ : ∃ s, sysL cs [] = s := ⟨_, rfl⟩
      rw [hs0] at h44 hg0 h45 hR
      refine den_of tabOk mixed Tryz.func51 (cd := _) rfl (by decide) rfl (n := 47) rfl rfl (m := 0) rfl ?_
      simp (dsimp := false) (disch := omega) only [List.replicate, rules]
      refine GoCall.pure h44 rfl ?_
      simp (dsimp := false) (disch := omega) only [Bool.not_true, rules]
      refine GoCall.pure h45 rfl ?_
      simp (dsimp := false) (disch := omega) only [Bool.not_true, rules, ↓reduceIte]
      refine WA.loop (α := Nat × List (List Raw)) (fun ⟨i, s⟩ => ⟨[.fv (.sl (rowsF cs)), .any, .nilsl, .fv (.sl (rowsF s)), .bool true, .int .i64 i] ++ List.replicate 42 .any, []⟩)
        (fun ⟨i, s⟩ => s.length - i) (fun ⟨i, s⟩ => i ≤ s.length ∧ GoodT s ∧ canL (s.length - i) i s = R) (0, s0) ?_ ?_ ?_
      · refine Weak.keep [] (by simp) rfl ?_ ?_
        · simp [leVs, leV, le1]
        · simp [leH]
      · exact ⟨Nat.zero_le _, hg0, hR⟩
      · rintro ⟨i, s⟩ ⟨hi, hg, hcan⟩
        have hn12 := hg.good.len
        have hlim := hg.good.lim
        obtain ⟨n, hnn⟩ : ∃ n, s.length = n := ⟨_, rfl⟩
        have rl := rowsF_length s
        have h27 := rows_27 (ls := s) (fun l hl => (hlim l hl).len)
        rw [hnn] at rl hn12 hi hcan
        simp (dsimp := false) (disch := omega) only [List.replicate, rl, rules, tys, eq_self, ↓reduceIte]
        refine Br.dec ?_ ?_
        · intro h1 h2
          have hin : i < s.length := by omega
          have hmem := at_mem (ls := s) (i := i) hin
          have r1 := rowsF_getD s i
          obtain ⟨hcs, hinn, hpre⟩ := turn_cs hg hin
          have h97 := pd97 _ hpre
          have hred : feasB (sysL (del s i ++ [negR (s.getD i [])]) []) = redB s i := rfl
          rw [hred] at h97
          have hdl := del_len hin
          have hgd := hg.sub (del_sub (s := s) (i := i))
          have h8 : n - i = (n - (i + 1)) + 1 := by omega
          rw [h8] at hcan
          unfold canL at hcan
          rw [if_pos hin] at hcan
          obtain ⟨b, hb⟩ : ∃ b, redB s i = b := ⟨_, rfl⟩
          rw [hb] at h97 hcan
          obtain ⟨x, hxx⟩ : ∃ x, s.getD i [] = x := ⟨_, rfl⟩
          rw [hxx] at hmem r1 h97
          have hx := hlim x hmem
          have lx := hx.len
          have x27 := flatF_take27 lx
          have fx := flatF_length x
          have gx := flat_length x
          have gx27 := flat_take27 lx
          have h57 := pd57 x (hx.mono (by decide))
          have hnl := negR_len lx
          have rd := rowsF_length (del s i)
          have hap := rows_snoc (del s i) (negR x)
          have hdl2 : (del s i).length = n - 1 := by omega
          rw [hdl2] at rd
          have tkd := take_rows (ls := del s i) (n := n - 1) (by omega)
          have e1 : ((i : Int) + 1).toNat = i + 1 := by omega
          have t1 := rows_take s i
          have t1l : (rowsF (s.take i)).length = i := by rw [rowsF_length, List.length_take]; omega
          have t1t : List.take i (rowsF (s.take i)) = rowsF (s.take i) := List.take_of_length_le (by omega)
          have t1r := rows_27 (ls := s.take i) (fun l hl => (hlim l (List.mem_of_mem_take hl)).len)
          have d1 := rows_drop s (i + 1)
          have d1l : (rowsF (s.drop (i + 1))).length = n - (i + 1) := by rw [rowsF_length, List.length_drop, hnn]
          have d1t : List.take (n - (i + 1)) (rowsF (s.drop (i + 1))) = rowsF (s.drop (i + 1)) := List.take_of_length_le (by omega)
          have d1r := rows_27 (ls := s.drop (i + 1)) (fun l hl => (hlim l (List.mem_of_mem_drop hl)).len)
          have hdel := rows_del s i
          have e3 : i + (n - (i + 1)) = n - 1 := by omega
          obtain ⟨dd, hdd⟩ : ∃ d, del s i = d := ⟨_, rfl⟩
          rw [hdd] at h97 hgd rd hap hcan hdl2 tkd hdel
          obtain ⟨y, hy⟩ : ∃ y, negR x = y := ⟨_, rfl⟩
          rw [hy] at h97 h57 hnl hap
          have gy := flat_length y
          have y27 := flatF_take27 hnl
          have gy27 := flat_take27 hnl
          have hlen1 : (dd ++ [y]).length = n - 1 + 1 := by rw [List.length_append, hdl2]; rfl
          have rll := rowsF_length (dd ++ [y])
          rw [hlen1] at rll
          have h0n : 0 + (n - 1) ≤ (rowsF dd).length := by omega
          unfold RL at h57
          simp (dsimp := false) (disch := omega) only [h2, wrap64, rules, tys, eq_self, ↓reduceIte, Nat.reduceLT]
          simp (dsimp := false) (disch := omega) only [Nat.sub_zero, rl, h27, t1, t1l, t1t, t1r, rules]
          repeat refine And.intro (by omega) ?_
          simp (dsimp := false) (disch := omega) only [e1, d1, d1l, d1t, d1r, hdel, e3, rules]
          repeat refine And.intro (by omega) ?_
          refine Draw.intro (by kernel_rfl) ?_
          simp (dsimp := false) (disch := omega) only [rl, r1, x27, flatF_fv, fx, lx, rd, tkd, rules, tys, eq_self, ↓reduceIte, Nat.reduceAdd, Nat.reduceMul, Nat.reduceLT, Nat.reduceLeDiff]
          repeat refine And.intro (by omega) ?_
          refine GoCall.pure h57 (by simp [fzAs, fzA, flat_fz, flatF_fv]) ?_
          simp (dsimp := false) (disch := omega) only [flat_ids, flat_reloc, flat_fz, List.append_nil, gy, hnl, y27, rd, tkd, hap, rules, tys, eq_self, ↓reduceIte, Nat.reduceAdd, Nat.reduceMul, Nat.reduceBEq, Nat.reduceLT, Nat.reduceLeDiff]
          repeat refine And.intro (by omega) ?_
          refine GoCall.show h97 (Plain.lit _) (by omega) rfl ?_
          cases b with
          | true =>
            rw [if_pos rfl] at hcan
            simp (dsimp := false) (disch := omega) only [wrap64, rules, tys, eq_self, ↓reduceIte, Nat.reduceAdd]
            refine Ap_loop (i + 1, s) (by dsimp only; omega) ?_ ⟨by omega, hg, by rw [hnn]; exact hcan⟩
            refine Weak.keep [] (by simp) rfl ?_ ?_
            · simp [leVs, leV, le1]
            · simp [leH]
          | false =>
            rw [if_neg (by simp)] at hcan
            simp (dsimp := false) (disch := omega) only [rules, Nat.reduceAdd]
            refine Ap_loop (i, dd) (by dsimp only; omega) ?_ ⟨by omega, hgd, by rw [hdl2, show n - 1 - i = n - (i + 1) by omega]; exact hcan⟩
            refine Weak.shut [1] ?_
            refine Weak.fz 3 1 0 (n - 1) 27 (rowsF dd) rfl rfl (by omega) ?_
            refine Weak.keep [] (by simp) rfl ?_ ?_
            · simp [leVs, leV, le1, tkd]
            · simp [leH]
        · intro h1 h2
          have hin : i = n := by omega
          have h8 : n - i = 0 := by omega
          rw [h8] at hcan
          have hcan2 : s = R := hcan
          subst hcan2
          simp (dsimp := false) (disch := omega) only [h2, Ap_end_ret, rules, Nat.reduceBEq]
          exact RetOK.pure rfl ⟨trivial, trivial⟩ rfl

noncomputable def sameB (a b : List (List Raw)) : Bool := @decide (a = b) (Classical.propDecidable _)
theorem sameB_iff {a b : List (List Raw)} : sameB a b = true ↔ a = b := by unfold sameB; rw [@decide_eq_true_iff]
theorem sameB_self (a : List (List Raw)) : sameB a a = true := sameB_iff.2 rfl
theorem sameB_false {a b : List (List Raw)} : sameB a b = false ↔ a ≠ b := by
  constructor
  · intro h he
    rw [sameB_iff.2 he] at h; cases h
  · intro h
    cases h2 : sameB a b with
    | false => rfl
    | true => exact absurd (sameB_iff.1 h2) h
theorem pd40 (a b : List (List Raw)) (ha : ∀ l ∈ a, IsCn l ∧ LOk 1000 l) (hb : ∀ l ∈ b, IsCn l ∧ LOk 1000 l) (hna : a.length ≤ 1000) (hnb : b.length ≤ 1000) :
    Den Tryz.prog 40 [] [.fv (.sl (rowsF a)), .fv (.sl (rowsF b))] [] (.bool (sameB a b)) := by
  obtain ⟨R, hR⟩ : ∃ R, sameB a b = R := ⟨_, rfl⟩
  rw [hR]
  obtain ⟨n, hnn⟩ : ∃ n, a.length = n := ⟨_, rfl⟩
  obtain ⟨m, hmm⟩ : ∃ m, b.length = m := ⟨_, rfl⟩
  have rla := rowsF_length a
  have rlb := rowsF_length b
  rw [hnn] at rla hna
  rw [hmm] at rlb hnb
  refine den_of tabOk mixed Tryz.func40 (cd := _) rfl (by decide) rfl (n := 25) rfl rfl (m := 0) rfl ?_
  simp (dsimp := false) (disch := omega) only [List.replicate, rla, rlb, rules, tys, eq_self, ↓reduceIte]
  refine Br.bneInt ?_ ?_
  · intro h1 h2
    have hR2 : R = false := by rw [← hR, sameB_false]; intro he; rw [he] at hnn; omega
    subst hR2
    simp (dsimp := false) (disch := omega) only [h2, Ap_end_ret, rules]
    exact RetOK.pure rfl ⟨trivial, trivial⟩ rfl
  · intro h1 h2
    simp (dsimp := false) (disch := omega) only [h2, rules]
    refine WA.loop (α := Nat) (fun i => ⟨[.fv (.sl (rowsF a)), .fv (.sl (rowsF b)), .any, .any, .bool false, .int .i64 i] ++ List.replicate 21 .any, []⟩)
      (fun i => n - i) (fun i => i ≤ n ∧ ∀ j, j < i → a.getD j [] = b.getD j []) 0 ?_ ?_ ?_
    · refine Weak.keep [] (by simp) rfl ?_ ?_
      · simp [leVs, leV, le1]
      · simp [leH]
    · exact ⟨Nat.zero_le _, fun j hj => by omega⟩
    · rintro i ⟨hi, hin⟩
      simp (dsimp := false) (disch := omega) only [List.replicate, rla, rules, tys, eq_self, ↓reduceIte]
      refine Br.dec ?_ ?_
      · intro h3 h4
        have hma := at_mem (ls := a) (i := i) (by omega)
        have hmb := at_mem (ls := b) (i := i) (by omega)
        have r1 := rowsF_getD a i
        have r2 := rowsF_getD b i
        have hnext : a.getD i [] = b.getD i [] → ∀ j, j < i + 1 → a.getD j [] = b.getD j [] := fun h0 j hj => by
          by_cases hji : j = i
          · rw [hji]; exact h0
          · exact hin j (by omega)
        have hdiff : a.getD i [] ≠ b.getD i [] → R = false := fun h0 => by
          rw [← hR, sameB_false]; intro he; rw [he] at h0; exact h0 rfl
        obtain ⟨x, hxx⟩ : ∃ x, a.getD i [] = x := ⟨_, rfl⟩
        obtain ⟨y, hyy⟩ : ∃ x, b.getD i [] = x := ⟨_, rfl⟩
        rw [hxx] at hma r1 hnext hdiff
        rw [hyy] at hmb r2 hnext hdiff
        obtain ⟨⟨p, hp, hpl⟩, hxo⟩ := ha x hma
        obtain ⟨⟨q, hq, hql⟩, hyo⟩ := hb y hmb
        have hpb : ∀ z ∈ p, Bd 1000000000 z := fun z hz => by
          have := hxo.bd (by decide) (cn z) (by rw [hp]; exact List.mem_map.2 ⟨z, hz, rfl⟩)
          rw [cn_q] at this
          exact this.mono (by decide)
        have hqb : ∀ z ∈ q, Bd 1000000000 z := fun z hz => by
          have := hyo.bd (by decide) (cn z) (by rw [hq]; exact List.mem_map.2 ⟨z, hz, rfl⟩)
          rw [cn_q] at this
          exact this.mono (by decide)
        have h82 := den11 p q hpl hql hpb hqb
        unfold FL at h82
        rw [← hp, ← hq] at h82
        have hpq : p = q ↔ x = y := by
          constructor
          · intro h; rw [hp, hq, h]
          · intro h; rw [← map_cn_q p, ← map_cn_q q, ← hp, ← hq, h]
        obtain ⟨c, hc⟩ : ∃ c, decide (p = q) = c := ⟨_, rfl⟩
        rw [hc] at h82
        have lx := hxo.len
        have ly := hyo.len
        have x27 := flatF_take27 lx
        have y27 := flatF_take27 ly
        have fx := flatF_length x
        have fy := flatF_length y
        unfold RL at h82
        simp (dsimp := false) (disch := omega) only [h4, rules]
        refine Draw.intro (by kernel_rfl) ?_
        simp (dsimp := false) (disch := omega) only [r1, r2, x27, y27, flatF_fv, fx, fy, lx, ly, rla, rlb, rules, tys, eq_self, ↓reduceIte, Nat.reduceMul, Nat.reduceLT, Nat.reduceLeDiff]
        repeat refine And.intro (by omega) ?_
        refine GoCall.pure h82 (by simp [fzAs, fzA, flat_fz, flatF_fv]) ?_
        cases c with
        | true =>
          have he := hpq.1 (of_decide_eq_true hc)
          simp (dsimp := false) (disch := omega) only [flat_ids, List.append_nil, Bool.not_true, wrap64, rules, tys, eq_self, ↓reduceIte]
          refine Ap_loop (i + 1) (by omega) ?_ ⟨by omega, hnext he⟩
          refine Weak.keep [] (by simp) rfl ?_ ?_
          · simp [leVs, leV, le1]
          · simp [leH]
        | false =>
          have he : x ≠ y := fun h => (of_decide_eq_false hc) (hpq.2 h)
          have hR2 := hdiff he
          subst hR2
          simp (dsimp := false) (disch := omega) only [flat_ids, List.append_nil, Bool.not_false, Ap_end_ret, rules]
          exact RetOK.pure rfl ⟨trivial, trivial⟩ rfl
      · intro h3 h4
        have hR2 : R = true := by
          rw [← hR, sameB_iff]
          apply List.ext_getElem (by omega)
          intro j h5 h6
          have := hin j (by omega)
          rw [List.getD_eq_getElem?_getD, List.getElem?_eq_getElem h5, List.getD_eq_getElem?_getD, List.getElem?_eq_getElem h6] at this
          exact this
        subst hR2
        simp (dsimp := false) (disch := omega) only [h4, Ap_end_ret, rules, Nat.reduceBEq]
        exact RetOK.pure rfl ⟨trivial, trivial⟩ rfl
end Go.Proofs.YtddnnhlcpffbdaaGreat

namespace Go.Pl
open Go.AM

theorem near (a c : Rat) (ha : 0 < a) : ∃ e : Rat, 0 < e ∧ ∀ t : Rat, -e ≤ t → t ≤ e → 0 < a + c * t := by
  by_cases h0 : c = 0
  · exact ⟨1, by decide, fun t _ _ => by rw [h0, Rat.zero_mul, Rat.add_zero]; exact ha⟩
  · by_cases hp : 0 < c
    · have hce : c * (a / (2 * c)) = a / 2 := by grind
      have he : 0 < a / (2 * c) := by
        by_cases h : 0 < a / (2 * c)
        · exact h
        · exfalso
          have := Rat.mul_nonneg (show 0 ≤ -(a / (2 * c)) by grind) (show 0 ≤ c by grind)
          grind
      refine ⟨a / (2 * c), he, fun t h1 _ => ?_⟩
      have := Rat.mul_nonneg (show 0 ≤ t + a / (2 * c) by grind) (show 0 ≤ c by grind)
      grind
    · have hn : 0 < -c := by grind
      have hce : (-c) * (a / (2 * (-c))) = a / 2 := by grind
      have he : 0 < a / (2 * (-c)) := by
        by_cases h : 0 < a / (2 * (-c))
        · exact h
        · exfalso
          have := Rat.mul_nonneg (show 0 ≤ -(a / (2 * (-c))) by grind) (show 0 ≤ -c by grind)
          grind
      refine ⟨a / (2 * (-c)), he, fun t _ h2 => ?_⟩
      have := Rat.mul_nonneg (show 0 ≤ a / (2 * (-c)) - t by grind) (show 0 ≤ -c by grind)
      grind
theorem pos_open {w : Nat} (hw : w < 8) : ∀ (s : List (List Raw)) (x : Nat → Rat), Pos s x → ∃ e : Rat, 0 < e ∧ ∀ t : Rat, -e ≤ t → t ≤ e → Pos s (upd x w (x w + t))
  | [], x, _ => ⟨1, by decide, fun t _ _ l hl => by simp at hl⟩
  | m :: s, x, h => by
    obtain ⟨e1, h1, k1⟩ := pos_open hw s x (fun l hl => h l (List.mem_cons_of_mem _ hl))
    obtain ⟨e2, h2, k2⟩ := near (lval m x) (co m w) (h m (by simp))
    by_cases h3 : e1 ≤ e2
    · refine ⟨e1, h1, fun t ht1 ht2 l hl => ?_⟩
      rcases List.mem_cons.1 hl with h4 | h4
      · subst h4
        rw [lval_upd hw]
        have := k2 t (by grind) (by grind)
        grind
      · exact k1 t ht1 ht2 l h4
    · refine ⟨e2, h2, fun t ht1 ht2 l hl => ?_⟩
      rcases List.mem_cons.1 hl with h4 | h4
      · subst h4
        rw [lval_upd hw]
        have := k2 t ht1 ht2
        grind
      · exact k1 t (by grind) (by grind) l h4
theorem pos_cross {s : List (List Raw)} {l : List Raw} {x : Nat → Rat} (hl : ¬ IsConst l) (hx : Pos s x) (h0 : lval l x = 0) : ∃ y, Pos s y ∧ lval l y < 0 := by
  obtain ⟨w, hw, hc⟩ := not_const hl
  obtain ⟨e, he, k⟩ := pos_open hw s x hx
  by_cases hp : 0 < co l w
  · refine ⟨upd x w (x w + -e), k _ (by grind) (by grind), ?_⟩
    rw [lval_upd hw, h0]
    have := Rat.mul_pos hp he
    grind
  · refine ⟨upd x w (x w + e), k _ (by grind) (by grind), ?_⟩
    rw [lval_upd hw, h0]
    have := Rat.mul_pos (show 0 < -(co l w) by grind) he
    grind
theorem lval_negR {l : List Raw} (h9 : l.length = 9) (x : Nat → Rat) : lval (negR l) x = -lval l x := by
  have c := fun w hw => negR_at h9 (i := w) hw
  rw [lval_eq, lval_eq, c 8 (by decide), c 0 (by decide), c 1 (by decide), c 2 (by decide), c 3 (by decide), c 4 (by decide), c 5 (by decide), c 6 (by decide), c 7 (by decide)]
  grind
theorem in_pos {t : List (List Raw)} (h : ∀ l ∈ t, ¬ IsConst l) (x : Nat → Rat) : In t x ↔ Pos t x :=
  ⟨fun hi l hl => by
    rcases hi l hl with h1 | h1
    · exact h1
    · exact absurd h1.1 (h l hl), fun hp l hl => .inl (hp l hl)⟩
theorem feas_sys {t : List (List Raw)} (h9 : ∀ l ∈ t, l.length = 9) (h : ∀ l ∈ t, ¬ IsConst l) : feasB (sysL t []) = true ↔ ∃ x, Pos t x := by
  rw [feasB_iff]
  have := fun x => (sys_in h9 (sysL_is h9) (turn_viol h) x).symm.trans (in_pos h x)
  exact ⟨fun ⟨x, hx⟩ => ⟨x, (this x).1 hx⟩, fun ⟨x, hx⟩ => ⟨x, (this x).2 hx⟩⟩
theorem red_iff {s : List (List Raw)} {i : Nat} (hg : GoodT s) (hi : i < s.length) : redB s i = true ↔ ∃ y, Pos (del s i) y ∧ lval (s.getD i []) y < 0 := by
  have hmem : s.getD i [] ∈ s := by rw [List.getD_eq_getElem?_getD, List.getElem?_eq_getElem hi]; exact List.getElem_mem _
  have hl := del_len hi
  obtain ⟨h1, h2⟩ := hg.turn (t := del s i) (fun l hl => del_mem hl) hmem (by omega)
  have h9 : ∀ l ∈ del s i ++ [negR (s.getD i [])], l.length = 9 := fun l hl => (h2.ok l hl).len
  have hx9 : (s.getD i []).length = 9 := hg.good.len9 _ hmem
  unfold redB
  rw [feas_sys h9 h2.nc]
  constructor
  · rintro ⟨y, hy⟩
    refine ⟨y, fun l hl => hy l (List.mem_append_left _ hl), ?_⟩
    have := hy (negR (s.getD i [])) (by simp)
    rw [lval_negR hx9] at this
    grind
  · rintro ⟨y, hy, hn⟩
    refine ⟨y, fun l hl => ?_⟩
    rcases List.mem_append.1 hl with h3 | h3
    · exact hy l h3
    · rw [List.mem_singleton.1 h3, lval_negR hx9]; grind
theorem del_pos {s : List (List Raw)} {i : Nat} (hg : GoodT s) (hi : i < s.length) (hr : redB s i = false) (x : Nat → Rat) : Pos (del s i) x ↔ Pos s x := by
  have hmem : s.getD i [] ∈ s := by rw [List.getD_eq_getElem?_getD, List.getElem?_eq_getElem hi]; exact List.getElem_mem _
  constructor
  · intro hp l hl
    rcases mem_del hi hl with h1 | h1
    · exact hp l h1
    · rw [h1]
      have hno : ∀ y, Pos (del s i) y → ¬ lval (s.getD i []) y < 0 := fun y hy hn => by
        have := (red_iff hg hi).2 ⟨y, hy, hn⟩
        rw [hr] at this; cases this
      by_cases h0 : lval (s.getD i []) x = 0
      · obtain ⟨y, hy, hn⟩ := pos_cross (hg.good.nc _ hmem) hp h0
        exact absurd hn (hno y hy)
      · have := hno x hp
        grind
  · exact fun hp l hl => hp l (del_mem hl)
theorem canL_pos : ∀ (n i : Nat) {s : List (List Raw)}, GoodT s → ∀ x, Pos (canL n i s) x ↔ Pos s x
  | 0, _, _, _, _ => Iff.rfl
  | n + 1, i, s, hg, x => by
    unfold canL
    split
    · rename_i hi
      split
      · exact canL_pos n (i + 1) hg x
      · rename_i hr
        rw [canL_pos n i (hg.sub del_sub) x]
        exact del_pos hg hi (by simpa using hr) x
    · exact Iff.rfl
theorem del_at {s : List (List Raw)} {i j : Nat} (hj : j < i) (hi : i < s.length) : (del s i).getD j [] = s.getD j [] := by
  unfold del
  rw [List.getD_eq_getElem?_getD, List.getElem?_append_left (by rw [List.length_take]; omega), List.getElem?_take, if_pos hj, ← List.getD_eq_getElem?_getD]
theorem del_del {s : List (List Raw)} {i j : Nat} (hj : j < i) (hi : i < s.length) : ∀ l ∈ del (del s i) j, l ∈ del s j := by
  intro l hl
  unfold del at hl ⊢
  rw [List.mem_append] at hl ⊢
  rcases hl with hl | hl
  · left
    rw [List.take_append_of_le_length (by rw [List.length_take]; omega), List.take_take] at hl
    rwa [Nat.min_eq_left (by omega)] at hl
  · right
    rw [List.drop_append_of_le_length (by rw [List.length_take]; omega), List.mem_append] at hl
    rcases hl with hl | hl
    · rw [List.drop_take] at hl
      exact List.mem_of_mem_take hl
    · have e : i + 1 = (j + 1) + (i - j) := by omega
      rw [e, ← List.drop_drop] at hl
      exact List.mem_of_mem_drop hl
theorem canL_irr : ∀ (n i : Nat) {s : List (List Raw)}, GoodT s → s.length ≤ n + i → (∀ j, j < i → j < s.length → redB s j = true) → ∀ j, j < (canL n i s).length → redB (canL n i s) j = true
  | 0, i, s, _, hn, h, j, hj => h j (by have : j < s.length := hj; omega) hj
  | n + 1, i, s, hg, hn, h, j, hj => by
    unfold canL at hj ⊢
    by_cases hi : i < s.length
    · rw [if_pos hi] at hj ⊢
      by_cases hr : redB s i = true
      · rw [if_pos hr] at hj ⊢
        refine canL_irr n (i + 1) hg (by omega) (fun q hq hql => ?_) j hj
        by_cases hqi : q = i
        · rw [hqi]; exact hr
        · exact h q (by omega) hql
      · rw [if_neg hr] at hj ⊢
        have hl := del_len hi
        have hgd := hg.sub (del_sub (s := s) (i := i))
        refine canL_irr n i hgd (by omega) (fun q hq hql => ?_) j hj
        obtain ⟨y, hy, hneg⟩ := (red_iff hg (show q < s.length by omega)).1 (h q hq (by omega))
        refine (red_iff hgd hql).2 ⟨y, fun l hl => hy l (del_del hq hi l hl), ?_⟩
        rw [del_at hq hi]; exact hneg
    · rw [if_neg hi] at hj ⊢
      exact h j (by omega) hj
end Go.Pl

namespace Go.Pl
open Go.AM

noncomputable def canS (s : List (List Raw)) : List (List Raw) := canL s.length 0 s
noncomputable def shadF (c : List (List Raw)) (i : Nat) : List (List Raw) := canS (stepL (canS c) i)
def Irr (s : List (List Raw)) : Prop := ∀ j, j < s.length → redB s j = true
theorem canS_sub (s : List (List Raw)) : (canS s).Sublist s := canL_sub _ _ _
theorem canS_good {s : List (List Raw)} (h : GoodT s) : GoodT (canS s) := h.sub (canS_sub s)
theorem canS_pos {s : List (List Raw)} (h : GoodT s) (x : Nat → Rat) : Pos (canS s) x ↔ Pos s x := canL_pos _ _ h x
theorem canS_irr {s : List (List Raw)} (h : GoodT s) : Irr (canS s) := canL_irr s.length 0 h (by omega) (fun j hj => by omega)
theorem canS_feas {s : List (List Raw)} (h : GoodT s) : feasB (canS s) = feasB s := by
  have key : Feas (canS s) ↔ Feas s := ⟨fun ⟨x, hx⟩ => ⟨x, (canS_pos h x).1 hx⟩, fun ⟨x, hx⟩ => ⟨x, (canS_pos h x).2 hx⟩⟩
  cases h1 : feasB s with
  | true => exact feasB_iff.2 (key.2 (feasB_iff.1 h1))
  | false => exact feasB_false.2 (fun h2 => feasB_false.1 h1 (key.1 h2))
theorem occ_sub {s t : List (List Raw)} (h : ∀ l ∈ t, l ∈ s) {w : Nat} (ho : occ s w = false) : occ t w = false := by
  cases h1 : occ t w with
  | false => rfl
  | true =>
    obtain ⟨l, hl, h0⟩ := occ_iff.1 h1
    rw [occ_iff.2 ⟨l, h l hl, h0⟩] at ho; cases ho
structure Shad (c d : List (List Raw)) (i : Nat) : Prop where
  good : GoodT d
  feas : feasB d = true
  irr : Irr d
  pos : ∀ x, Pos d x ↔ ∃ t, Pos c (upd x i t)
  occs : ∀ w, w < 8 → w ≠ i → Pl.occ c w = false → Pl.occ d w = false
  gone : Pl.occ d i = false
theorem shadF_is {c : List (List Raw)} {i : Nat} (hi : i < 8) (hg : GoodT c) (hf : feasB c = true) : Shad c (shadF c i) i := by
  have h1 := canS_good hg
  have hf1 : feasB (canS c) = true := by rw [canS_feas hg]; exact hf
  have hb := h1.good.not_bad hi hf1
  have h2 := h1.step hi
  have hf2 : feasB (stepL (canS c) i) = true := by rw [h1.good.feas hi hb]; exact hf1
  refine ⟨canS_good h2, by unfold shadF; rw [canS_feas h2]; exact hf2, canS_irr h2, fun x => ?_, fun w hw hne ho => ?_, ?_⟩
  · unfold shadF
    rw [canS_pos h2, h1.good.pos hi hb x]
    constructor
    · rintro ⟨t, ht⟩; exact ⟨t, (canS_pos hg _).1 ht⟩
    · rintro ⟨t, ht⟩; exact ⟨t, (canS_pos hg _).2 ht⟩
  · have h3 := occ_sub (fun l hl => (canS_sub c).subset hl) ho
    refine occ_sub (s := stepL (canS c) i) (fun l hl => (canS_sub _).subset hl) ?_
    cases h4 : Pl.occ (stepL (canS c) i) w with
    | false => rfl
    | true => rw [(occ_step h1.good hi hw h4).2] at h3; cases h3
  · refine occ_sub (s := stepL (canS c) i) (fun l hl => (canS_sub _).subset hl) ?_
    cases h4 : Pl.occ (stepL (canS c) i) i with
    | false => rfl
    | true => exact absurd rfl (occ_step h1.good hi hi h4).1
noncomputable def refElim (v : Nat) : Nat → Nat → List (List Raw) → List (List Raw)
  | 0, _, c => c
  | n + 1, i, c => refElim v n (i + 1) (if i = v then c else shadF c i)
structure Elim (v n i : Nat) (c d : List (List Raw)) : Prop where
  good : GoodT d
  irr : Irr d
  feas : feasB d = true
  pos : ∀ x, Pos d x ↔ ∃ y, (∀ w, (w < i ∨ i + n ≤ w ∨ w = v) → y w = x w) ∧ Pos c y
  occs : (∀ w, w < i → w ≠ v → Pl.occ c w = false) → ∀ w, w < i + n → w ≠ v → Pl.occ d w = false
theorem refElim_is {v : Nat} : ∀ (n i : Nat) {c : List (List Raw)}, i + n ≤ 8 → GoodT c → feasB c = true → Irr c → Elim v n i c (refElim v n i c)
  | 0, i, c, _, hg, hf, hi => ⟨hg, hi, hf, fun x => by
      constructor
      · intro h; exact ⟨x, fun _ _ => rfl, h⟩
      · rintro ⟨y, hy, h⟩
        have : y = x := funext (fun w => hy w (by omega))
        rw [← this]; exact h, fun h w hw hne => h w (by omega) hne⟩
  | n + 1, i, c, hin, hg, hf, hirr => by
    unfold refElim
    by_cases hiv : i = v
    · rw [if_pos hiv]
      have ih := refElim_is (v := v) n (i + 1) (c := c) (by omega) hg hf hirr
      refine ⟨ih.good, ih.irr, ih.feas, fun x => ?_, fun h w hw hne => ih.occs (fun u hu hne2 => h u (by omega) hne2) w (by omega) hne⟩
      rw [ih.pos]
      constructor
      · rintro ⟨y, hy, h⟩
        exact ⟨y, fun w hw => hy w (by omega), h⟩
      · rintro ⟨y, hy, h⟩
        exact ⟨y, fun w hw => hy w (by omega), h⟩
    · rw [if_neg hiv]
      have hs := shadF_is (i := i) (by omega) hg hf
      have ih := refElim_is (v := v) n (i + 1) (c := shadF c i) (by omega) hs.good hs.feas hs.irr
      refine ⟨ih.good, ih.irr, ih.feas, fun x => ?_, fun h w hw hne => ih.occs (fun u hu hne2 => ?_) w (by omega) hne⟩
      · rw [ih.pos]
        constructor
        · rintro ⟨y, hy, h⟩
          obtain ⟨t, ht⟩ := (hs.pos y).1 h
          refine ⟨upd y i t, fun w hw => ?_, ht⟩
          rw [upd_ne (by omega)]
          exact hy w (by omega)
        · rintro ⟨y, hy, h⟩
          refine ⟨upd y i (x i), fun w hw => ?_, (hs.pos _).2 ⟨y i, ?_⟩⟩
          · by_cases hwi : w = i
            · rw [hwi, upd_at]
            · rw [upd_ne hwi]; exact hy w (by omega)
          · rw [upd_upd, upd_self]; exact h
      · by_cases hui : u = i
        · rw [hui]; exact hs.gone
        · exact hs.occs u (by omega) hui (h u (by omega) hne2)
def refEnds (s : List (List Raw)) (v : Nat) : Option (Rat × Rat) := match lowQ s v, highQ s v with
  | [a], [b] => some (a, b)
  | _, _ => none
theorem val_gen {cs l : List (List Raw)} {v : Nat} (hv : v < 8) (h : CsOk cs) (hi : innerB cs = true) (hg : GoodS l) (hocc : ∀ w, w < 8 → w ≠ v → occ l w = false)
    (hpos : ∀ x, Pos l x ↔ ∃ y, (∀ w, (w < 0 ∨ 0 + 8 ≤ w ∨ w = v) → y w = x w) ∧ Pos (sysL cs []) y) (t : Rat) : Val cs v t ↔ (∀ q ∈ lowQ l v, q < t) ∧ (∀ q ∈ highQ l v, t < q) := by
  have h9 := h.len9
  have hi2 := hi
  unfold innerB at hi2
  rw [Bool.and_eq_true, Bool.not_eq_true'] at hi2
  have hnv : ¬ Viol cs := fun hv2 => by have := (violB_iff h9).2 hv2; rw [this] at hi2; cases hi2.1
  have hin := fun y => sys_in h9 (sysL_is h9) hnv y
  have h1 := one_pos hv hg hocc (fun _ => t)
  rw [← h1, hpos]
  unfold Val
  constructor
  · rintro ⟨x, hx, rfl⟩
    refine ⟨fun w => if w < 8 then x w else x v, fun w hw => ?_, ?_⟩
    · rcases hw with hw | hw | hw
      · omega
      · dsimp only; rw [if_neg (by omega)]
      · subst hw; dsimp only; rw [if_pos hv]
    · have h2 := (hin x).1 hx
      intro m hm
      have h3 := h2 m hm
      have e : lval m (fun w => if w < 8 then x w else x v) = lval m x := by
        rw [lval_eq, lval_eq]
        simp
      rw [e]; exact h3
  · rintro ⟨y, hy, hp⟩
    exact ⟨y, (hin y).2 hp, hy v (.inr (.inr rfl))⟩
theorem one_low {s : List (List Raw)} {v : Nat} (hv : v < 8) (hg : GoodT s) (hirr : Irr s) (hocc : ∀ w, w < 8 → w ≠ v → occ s w = false) {i j : Nat} (hi : i < s.length) (hj : j < s.length) (hij : i ≠ j) :
    (¬ (0 < co (s.getD i []) v ∧ 0 < co (s.getD j []) v)) ∧ ¬ (co (s.getD i []) v < 0 ∧ co (s.getD j []) v < 0) := by
  have hm : ∀ q, q < s.length → s.getD q [] ∈ s := fun q hq => by rw [List.getD_eq_getElem?_getD, List.getElem?_eq_getElem hq]; exact List.getElem_mem _
  have hval : ∀ q (hq : q < s.length), co (s.getD q []) v ≠ 0 → ∀ x, lval (s.getD q []) x = co (s.getD q []) v * (x v - co (solR v (s.getD q [])) 8) := by
    intro q hq h0 x
    have h9 := hg.good.len9 _ (hm q hq)
    have hb := solR_bound (v := v) h9 h0
    have hc : lval (solR v (s.getD q [])) x = co (solR v (s.getD q [])) 8 := lval_const (fun w hw => by
      rw [hb.2 w (by omega)]
      by_cases hwv : v = w
      · rw [if_pos hwv]
      · rw [if_neg hwv, occ_false (hocc w hw (fun e => hwv e.symm)) _ (hm q hq)]; simp [Rat.zero_mul])
    rw [← hc]; exact lval_bound hb hv
  have hmemd : ∀ p q, p < s.length → q < s.length → p ≠ q → s.getD q [] ∈ del s p := by
    intro p q hp hq hpq
    unfold del
    rw [List.mem_append]
    by_cases hlt : q < p
    · left
      rw [List.getD_eq_getElem?_getD, List.getElem?_eq_getElem hq]
      exact List.mem_take_iff_getElem.2 ⟨q, by omega, rfl⟩
    · right
      rw [List.getD_eq_getElem?_getD, List.getElem?_eq_getElem hq]
      refine List.mem_drop_iff_getElem.2 ⟨q - (p + 1), by omega, ?_⟩
      congr 1; omega
  have up : ∀ p q, p < s.length → q < s.length → p ≠ q → 0 < co (s.getD p []) v → 0 < co (s.getD q []) v → ¬ co (solR v (s.getD p [])) 8 ≤ co (solR v (s.getD q [])) 8 := by
    intro p q hp hq hpq h1 h2 hle
    obtain ⟨y, hy, hn⟩ := (red_iff hg hp).1 (hirr p hp)
    have h3 := hy _ (hmemd p q hp hq hpq)
    rw [hval q hq (by grind)] at h3
    rw [hval p hp (by grind)] at hn
    have h4 : co (solR v (s.getD q [])) 8 < y v := by
      by_cases h : co (solR v (s.getD q [])) 8 < y v
      · exact h
      · have := Rat.mul_nonneg (show 0 ≤ co (s.getD q []) v by grind) (show 0 ≤ co (solR v (s.getD q [])) 8 - y v by grind)
        grind
    have := Rat.mul_nonneg (show 0 ≤ co (s.getD p []) v by grind) (show 0 ≤ y v - co (solR v (s.getD p [])) 8 by grind)
    grind
  have dn : ∀ p q, p < s.length → q < s.length → p ≠ q → co (s.getD p []) v < 0 → co (s.getD q []) v < 0 → ¬ co (solR v (s.getD q [])) 8 ≤ co (solR v (s.getD p [])) 8 := by
    intro p q hp hq hpq h1 h2 hle
    obtain ⟨y, hy, hn⟩ := (red_iff hg hp).1 (hirr p hp)
    have h3 := hy _ (hmemd p q hp hq hpq)
    rw [hval q hq (by grind)] at h3
    rw [hval p hp (by grind)] at hn
    have h4 : y v < co (solR v (s.getD q [])) 8 := by
      by_cases h : y v < co (solR v (s.getD q [])) 8
      · exact h
      · have := Rat.mul_nonneg (show 0 ≤ -(co (s.getD q []) v) by grind) (show 0 ≤ y v - co (solR v (s.getD q [])) 8 by grind)
        grind
    have := Rat.mul_nonneg (show 0 ≤ -(co (s.getD p []) v) by grind) (show 0 ≤ co (solR v (s.getD p [])) 8 - y v by grind)
    grind
  constructor
  · rintro ⟨h1, h2⟩
    have a := up i j hi hj hij h1 h2
    have b := up j i hj hi (fun e => hij e.symm) h2 h1
    grind
  · rintro ⟨h1, h2⟩
    have a := dn i j hi hj hij h1 h2
    have b := dn j i hj hi (fun e => hij e.symm) h2 h1
    grind
theorem filter_le_one {α : Type} {p : α → Bool} : ∀ {l : List α}, (∀ (i j : Nat) (hi : i < l.length) (hj : j < l.length), i ≠ j → ¬ (p l[i] = true ∧ p l[j] = true)) → (l.filter p).length ≤ 1
  | [], _ => by simp
  | a :: l, h => by
    have ih := filter_le_one (l := l) (p := p) (fun i j hi hj hij => h (i + 1) (j + 1) (by simp; omega) (by simp; omega) (by omega))
    cases hp : p a with
    | false => rw [List.filter_cons_of_neg (by rw [hp]; simp)]; exact ih
    | true =>
      rw [List.filter_cons_of_pos hp]
      have : l.filter p = [] := by
        rw [List.filter_eq_nil_iff]
        intro b hb hpb
        obtain ⟨j, hj, rfl⟩ := List.mem_iff_getElem.1 hb
        exact h 0 (j + 1) (by simp) (by simp; omega) (by omega) ⟨hp, hpb⟩
      rw [this]; simp
theorem low_le_one {s : List (List Raw)} {v : Nat} (hv : v < 8) (hg : GoodT s) (hirr : Irr s) (hocc : ∀ w, w < 8 → w ≠ v → occ s w = false) : (lowQ s v).length ≤ 1 ∧ (highQ s v).length ≤ 1 := by
  have e : ∀ (i : Nat) (hi : i < s.length), s[i] = s.getD i [] := fun i hi => by rw [List.getD_eq_getElem?_getD, List.getElem?_eq_getElem hi]; rfl
  constructor
  · unfold lowQ lowL
    rw [List.length_map, List.length_map]
    refine filter_le_one (fun i j hi hj hij h => ?_)
    rw [decide_eq_true_iff, decide_eq_true_iff, e i hi, e j hj] at h
    exact (one_low hv hg hirr hocc hi hj hij).1 h
  · unfold highQ highL
    rw [List.length_map, List.length_map]
    refine filter_le_one (fun i j hi hj hij h => ?_)
    rw [decide_eq_true_iff, decide_eq_true_iff, e i hi, e j hj] at h
    exact (one_low hv hg hirr hocc hi hj hij).2 h
theorem refEnds_is {cs : List (List Raw)} {v : Nat} (hv : v < 8) (h : CsT cs) (hi : innerB cs = true) : refEnds (refElim v 8 0 (canS (sysL cs []))) v = bndP cs v := by
  have hi2 := hi
  unfold innerB at hi2
  rw [Bool.and_eq_true, Bool.not_eq_true'] at hi2
  have hg0 := canS_good h.good
  have he := refElim_is (v := v) 8 0 (by omega) hg0 (by rw [canS_feas h.good]; exact hi2.2) (canS_irr h.good)
  obtain ⟨l, hl⟩ : ∃ l, refElim v 8 0 (canS (sysL cs [])) = l := ⟨_, rfl⟩
  rw [hl] at he ⊢
  have hocc : ∀ w, w < 8 → w ≠ v → occ l w = false := fun w hw hne => he.occs (fun w hw => by omega) w (by omega) hne
  have hval := val_gen hv h.cs hi he.good.good hocc (fun x => by
    rw [he.pos]
    constructor
    · rintro ⟨y, hy, hp⟩; exact ⟨y, hy, (canS_pos h.good y).1 hp⟩
    · rintro ⟨y, hy, hp⟩; exact ⟨y, hy, (canS_pos h.good y).2 hp⟩)
  obtain ⟨h1, h2⟩ := low_le_one hv he.good he.irr hocc
  obtain ⟨z, hz⟩ := feasB_iff.1 he.feas
  have hone := (one_pos hv he.good.good hocc z).1 hz
  have hnone : (lowQ l v = [] ∨ highQ l v = []) → bndP cs v = none := by
    intro hh
    cases hb : bndP cs v with
    | none => rfl
    | some p =>
      exfalso
      obtain ⟨a, b⟩ := p
      have hs := (bndP_some hv h.cs hb).2
      have hv2 := fun t => (hs t).symm.trans (hval t)
      have hzv := (hv2 (z v)).2 hone
      rcases hh with hh | hh
      · have := (hv2 (a - 1)).2 ⟨by rw [hh]; simp, fun q hq => by have := hone.2 q hq; grind⟩
        grind
      · have := (hv2 (b + 1)).2 ⟨fun q hq => by have := hone.1 q hq; grind, by rw [hh]; simp⟩
        grind
  unfold refEnds
  cases hlo : lowQ l v with
  | nil => rw [hnone (.inl hlo)]
  | cons a la =>
    have hla : la = [] := List.eq_nil_of_length_eq_zero (by rw [hlo, List.length_cons] at h1; omega)
    subst hla
    cases hhi : highQ l v with
    | nil => rw [hnone (.inr hhi)]
    | cons b lb =>
      have hlb : lb = [] := List.eq_nil_of_length_eq_zero (by rw [hhi, List.length_cons] at h2; omega)
      subst hlb
      rw [hlo, hhi] at hone hval
      have ha := hone.1 a (by simp)
      have hb := hone.2 b (by simp)
      symm
      refine bndP_of hv h.cs (by grind) (fun t => ?_)
      rw [hval]
      simp
end Go.Pl
