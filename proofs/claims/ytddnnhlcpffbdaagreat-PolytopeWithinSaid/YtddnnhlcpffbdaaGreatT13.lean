/- Contracts: the reader: few, place, Chance. -/
import Derived.Test.YtddnnhlcpffbdaaGreatT12
import Derived.Test.YtddnnhlcpffbdaaGreatT11

namespace Go.Proofs.YtddnnhlcpffbdaaGreat
open Go.AM Go.Pl
set_option maxRecDepth 100000
set_option maxHeartbeats 4000000

def fewC (n : Nat) : List (List Raw) := (List.range n).map (fun i => numL (((i % 2 : Nat) : Int) : Rat))
theorem fewC_len (n : Nat) : (fewC n).length = n := by simp [fewC]
theorem fewC_at {n i : Nat} (h : i < n) : (fewC n).getD i [] = numL (((i % 2 : Nat) : Int) : Rat) := by
  simp [fewC, List.getD_eq_getElem?_getD, h]
def fewF (xs : List Int) (a : Nat) : List (List Raw) × Nat := match nN xs a 10 with
  | 0 => (fewC (if nN xs (nx xs a) 2 = 0 then 40 else 41), nx xs (nx xs a))
  | 1 | 2 | 3 => (boxS xs 2 0 (nx xs a) ++ consS xs 2 (nN xs (nxs xs 4 (nx xs a)) 3) (nx xs (nxs xs 4 (nx xs a))), consN xs 2 (nN xs (nxs xs 4 (nx xs a)) 3) (nx xs (nxs xs 4 (nx xs a))))
  | 4 => (consS xs 3 (nN xs (nx xs a) 5) (nx xs (nx xs a)), consN xs 3 (nN xs (nx xs a) 5) (nx xs (nx xs a)))
  | _ => (consS xs 2 (nN xs (nx xs a) 5) (nx xs (nx xs a)), consN xs 2 (nN xs (nx xs a) 5) (nx xs (nx xs a)))
theorem fewF_le {xs : List Int} {a : Nat} (h : a ≤ xs.length) : (fewF xs a).2 ≤ xs.length := by
  unfold fewF
  split
  · exact nx_le (nx_le h)
  · exact consN_le (nx_le (nxs_le (nx_le h)))
  · exact consN_le (nx_le (nxs_le (nx_le h)))
  · exact consN_le (nx_le (nxs_le (nx_le h)))
  · exact consN_le (nx_le (nx_le h))
  · exact consN_le (nx_le (nx_le h))
theorem rows27 {ls : List (List Raw)} (h : ∀ l ∈ ls, l.length = 9) : ∀ y ∈ rowsF ls, y.length = 27 := by
  intro y hy
  obtain ⟨l, hl, rfl⟩ := List.mem_map.1 hy
  rw [flatF_length, h l hl]
theorem rows_append (a b : List (List Raw)) : rowsF a ++ rowsF b = rowsF (a ++ b) := by simp [rowsF]
theorem pd11 (xs : List Int) (a : Nat) (hl : xs.length ≤ 1000) (ha : a ≤ xs.length) (hw : W64 xs) :
    Den Tryz.prog 11 [S xs a] [.ptr 0 0 0] [S xs (fewF xs a).2] (.fv (.sl (rowsF (fewF xs a).1))) := by
  have h10 := denN xs a 10 hl ha hw (by decide) (by decide)
  have hlt := nN_lt (xs := xs) (a := a) (n := 10) (by decide)
  have hc := S_closed xs a
  have ha1 := nx_le ha
  unfold fewF
  obtain ⟨m, hm⟩ : ∃ t, nN xs a 10 = t := ⟨_, rfl⟩
  obtain ⟨a1, e1⟩ : ∃ t, nx xs a = t := ⟨_, rfl⟩
  rw [hm] at h10 hlt ⊢
  rw [e1] at h10 ha1 ⊢
  have c1 := S_closed xs a1
  have i00 : ((((0 : Nat) : Int)) == 0) = true := rfl
  match m, h10, hlt with
  | 0, h10, hlt =>
    have h82 := den82 xs a1 [40, 41] hl ha1 hw (by decide) (by decide)
    have hlt2 := nN_lt (xs := xs) (a := a1) (n := 2) (by decide)
    have ha2 := nx_le ha1
    show Den _ _ _ _ [S xs (nx xs a1)] (.fv (.sl (rowsF (fewC (if nN xs a1 2 = 0 then 40 else 41)))))
    obtain ⟨n, hn⟩ : ∃ n : Nat, (if nN xs a1 2 = 0 then 40 else 41) = n := ⟨_, rfl⟩
    have hn41 : n = 40 ∨ n = 41 := by rw [← hn]; split <;> simp
    have hpk : ([40, 41] : List Int).getD (nN xs a1 2) 0 = (n : Int) := by
      rw [← hn]
      have : nN xs a1 2 = 0 ∨ nN xs a1 2 = 1 := by omega
      rcases this with h | h <;> rw [h] <;> rfl
    rw [show ([40, 41] : List Int).length = 2 from rfl, hpk] at h82
    rw [hn]
    obtain ⟨a2, e2⟩ : ∃ t, nx xs a1 = t := ⟨_, rfl⟩
    rw [e2] at h82 ha2 ⊢
    have hz : List.replicate n [FV.lit (.bool false), .sl [], .sl [], .lit (.bool false), .sl [], .sl [], .lit (.bool false), .sl [], .sl [], .lit (.bool false), .sl [], .sl [], .lit (.bool false), .sl [], .sl [], .lit (.bool false), .sl [], .sl [], .lit (.bool false), .sl [], .sl [], .lit (.bool false), .sl [], .sl [], .lit (.bool false), .sl [], .sl []] = rowsF (List.replicate n (List.replicate 9 rz)) := by
      simp only [rowsF, List.map_replicate]; rfl
    unfold S at h10 h82 hc c1 ⊢
    refine den_of tabOk mixed Tryz.func11 (cd := _) rfl (by decide) rfl (n := 41) rfl rfl (m := 1) rfl ?_
    simp (dsimp := false) (disch := omega) only [List.replicate, rules]
    refine GoCall.lend 0 h10 rfl rfl hc rfl rfl rfl ?_
    simp (dsimp := false) (disch := omega) only [sh2, List.append_nil, i00, rules, tys, eq_self, ↓reduceIte, Nat.reduceAdd, Nat.reduceMul, Nat.reduceLT, Nat.reduceLeDiff]
    refine GoCall.lend 0 h82 rfl rfl c1 rfl rfl rfl ?_
    simp (dsimp := false) (disch := omega) only [List.append_nil, sh2l, hz, rules, tys, eq_self, ↓reduceIte, Nat.reduceAdd, Nat.reduceLT]
    repeat refine And.intro (by omega) ?_
    refine WA.loop (α := Nat × List (List Raw)) (fun ⟨i, l⟩ => ⟨[.ptr 0 0 0, .any, .nilsl, .lsl 1 0 n 27, .int .i64 i] ++ List.replicate 37 .any, [S xs a2, .row true (rowsF l)]⟩)
      (fun ⟨i, _⟩ => n - i) (fun ⟨i, l⟩ => i ≤ n ∧ l.length = n ∧ (∀ j, j < n → (l.getD j []).length = 9) ∧ ∀ j, j < i → l.getD j [] = numL (((j % 2 : Nat) : Int) : Rat)) (0, List.replicate n (List.replicate 9 rz)) ?_ ?_ ?_
    · refine Weak.keep [0, 2] (by simp) rfl ?_ ?_
      · simp [leVs, leV, le1]
      · simp [leH, leO, le1s, le1, S]
    · exact ⟨Nat.zero_le _, by simp, fun j hj => by simp [List.getD_eq_getElem?_getD, hj], fun j hj => by omega⟩
    · rintro ⟨i, l⟩ ⟨hi, hll, hl9, hld⟩
      have c2 := S_closed xs a2
      unfold S at c2
      dsimp only
      unfold S
      simp (dsimp := false) (disch := omega) only [List.replicate, rules, tys, eq_self, ↓reduceIte]
      refine Br.dec ?_ ?_
      · intro h1 h2
        have h24 := den24 (((i % 2 : Nat) : Int)) (by omega)
        change Den Tryz.prog 24 [] _ [] (cn (((i % 2 : Nat) : Int) : Rat)).v at h24
        have h30 := pd30 (cn (((i % 2 : Nat) : Int) : Rat)) (Raw.Ok.mono (cn_ok (bd_int (by omega))) (by decide))
        rw [cn_q] at h30
        have hnl := numL_len (((i % 2 : Nat) : Int) : Rat)
        have r4 := rowsF_getD l i
        have hil := hl9 i (by omega)
        have hld2 : ∀ j, j < i + 1 → (l.set i (numL (((i % 2 : Nat) : Int) : Rat))).getD j [] = numL (((j % 2 : Nat) : Int) : Rat) := fun j hj => by
          rw [getD_set (by omega)]
          by_cases hji : j = i
          · rw [if_pos hji, hji]
          · rw [if_neg hji]; exact hld j (by omega)
        have hl92 : ∀ j, j < n → ((l.set i (numL (((i % 2 : Nat) : Int) : Rat))).getD j []).length = 9 := fun j hj => by
          rw [getD_set (by omega)]
          by_cases hji : j = i
          · rw [if_pos hji]; exact hnl
          · rw [if_neg hji]; exact hl9 j hj
        have hst := rowsF_set l i (numL (((i % 2 : Nat) : Int) : Rat))
        obtain ⟨r, hr⟩ : ∃ t, cn (((i % 2 : Nat) : Int) : Rat) = t := ⟨_, rfl⟩
        rw [hr] at h24 h30
        obtain ⟨y, hy⟩ : ∃ t, numL (((i % 2 : Nat) : Int) : Rat) = t := ⟨_, rfl⟩
        rw [hy] at h30 hnl hld2 hl92 hst
        obtain ⟨c0, hc0⟩ : ∃ x, l.getD i [] = x := ⟨_, rfl⟩
        rw [hc0] at r4 hil
        have em : ((i : Int) % 2) = ((i % 2 : Nat) : Int) := by omega
        have rl := rowsF_length l
        have fi := flatF_length c0
        have di : List.drop 27 (flatF c0) = [] := flatF_drop27 hil
        have gy := flat_length y
        have gy27 := flat_take27 hnl
        have y27 := flatF_take27 hnl
        have fy := flatF_length y
        unfold Raw.v at h24 h30
        unfold RL at h30
        simp (dsimp := false) (disch := omega) only [h2, em, tmodc, rules, tys, eq_self, ↓reduceIte]
        repeat refine And.intro (by omega) ?_
        refine GoCall.pure h24 rfl ?_
        simp (dsimp := false) (disch := omega) only [List.append_nil, rules, Nat.reduceAdd]
        refine GoCall.pure h30 rfl ?_
        simp (dsimp := false) (disch := omega) only [flat_ids, flat_reloc, flat_fz, List.append_nil, gy, hnl, r4, fi, hil, di, fy, hst, rl, wrap64, rules, tys, eq_self, ↓reduceIte, Nat.reduceAdd, Nat.reduceMul, Nat.reduceLT, Nat.reduceLeDiff]
        repeat refine And.intro (by omega) ?_
        refine Ap_loop (i + 1, l.set i y) (by dsimp only; omega) ?_ ⟨by omega, by rw [List.length_set]; exact hll, hl92, hld2⟩
        refine Weak.keep [0, 1] (by simp) rfl ?_ ?_
        · simp [leVs, leV, le1]
        · simp [leH, leO, le1s, le1]
      · intro h1 h2
        have hin : i = n := by omega
        have hle : l = fewC n := by
          apply List.ext_getElem
          · rw [fewC_len, hll]
          · intro j hj1 hj2
            have e1 := hld j (by omega)
            have e2 := fewC_at (n := n) (i := j) (by omega)
            rw [List.getD_eq_getElem?_getD, List.getElem?_eq_getElem hj1] at e1
            rw [List.getD_eq_getElem?_getD, List.getElem?_eq_getElem hj2] at e2
            exact e1.trans e2.symm
        subst hle
        have rl := rowsF_length (fewC n)
        rw [fewC_len] at rl
        have tk := take_rows (ls := fewC n) (n := n) (by rw [fewC_len]; exact Nat.le_refl _)
        simp (dsimp := false) (disch := omega) only [h2, Ap_end_ret, rules, Nat.reduceBEq]
        refine RetOK.lentB rfl ⟨trivial, trivial⟩ rfl (S_closed xs _) rfl ?_ rfl
        have hi1 : List.idxOf? 1 [0] = none := rfl
        simp (disch := omega) only [rl, tk, hi1, List.drop_zero, Nat.zero_add, Nat.le_refl, ↓reduceIte, St.get, fzX, oneRes, fzV, fzC, fz1, fz0, Option.map_some, List.getD_cons_succ, List.getD_cons_zero, List.getElem?_cons_zero, List.getElem?_cons_succ]
  | 1, h10, hlt =>
    have h17 := pd17 xs 2 a1 (by decide) hl ha1 hw
    have ha2 := nxs_le (n := 4) ha1
    simp only [Nat.reduceMul] at h17
    obtain ⟨a2, e2⟩ : ∃ t, nxs xs 4 a1 = t := ⟨_, rfl⟩
    rw [e2] at h17 ha2
    show Den _ _ _ _ [S xs (consN xs 2 (nN xs (nxs xs 4 a1) 3) (nx xs (nxs xs 4 a1)))] (.fv (.sl (rowsF (boxS xs 2 0 a1 ++ consS xs 2 (nN xs (nxs xs 4 a1) 3) (nx xs (nxs xs 4 a1))))))
    rw [e2]
    have h18 := pd18 xs 2 2 a2 (by decide) (by decide) hl ha2 hw
    have hcl := consS_len xs 2 (nN xs a2 (2 + 1)) (nx xs a2)
    have hlt3 := nN_lt (xs := xs) (a := a2) (n := 3) (by decide)
    have hco := consS_ok xs 2 (nN xs a2 3) (nx xs a2)
    simp only [Nat.reduceAdd] at h18 hcl
    obtain ⟨a3, e3⟩ : ∃ t, consN xs 2 (nN xs a2 3) (nx xs a2) = t := ⟨_, rfl⟩
    rw [e3] at h18 ⊢
    obtain ⟨cc, hcc⟩ : ∃ t, consS xs 2 (nN xs a2 3) (nx xs a2) = t := ⟨_, rfl⟩
    rw [hcc] at h18 hcl hco ⊢
    have hbl := boxS_len xs 2 0 a1
    obtain ⟨bb, hbb⟩ : ∃ t, boxS xs 2 0 a1 = t := ⟨_, rfl⟩
    rw [hbb] at h17 hbl ⊢
    have c2 := S_closed xs a2
    have rlb := rowsF_length bb
    have rlc := rowsF_length cc
    have tkb := take_rows (ls := bb) (n := 4) (by omega)
    have hr27 := rows27 (ls := cc) (fun l hl => (hco l hl).len)
    have hap := rows_append bb cc
    have rlt := rowsF_length (bb ++ cc)
    have tkt : ∀ k, k = 4 + cc.length → List.take k (rowsF (bb ++ cc)) = rowsF (bb ++ cc) := fun k hk => take_rows (by rw [List.length_append]; omega)
    have tkt2 := tkt (4 + cc.length) rfl
    have b0 : (((1 : Nat) : Int) == 0) = false := rfl
    have b1 : (((1 : Nat) : Int) == 1) = true := rfl
    unfold S at h10 h17 h18 hc c1 c2 ⊢
    refine den_of tabOk mixed Tryz.func11 (cd := _) rfl (by decide) rfl (n := 41) rfl rfl (m := 1) rfl ?_
    simp (dsimp := false) (disch := omega) only [List.replicate, rules]
    refine GoCall.lend 0 h10 rfl rfl hc rfl rfl rfl ?_
    simp (dsimp := false) (disch := omega) only [sh2, List.append_nil, b0, b1, rules, tys, eq_self, ↓reduceIte]
    refine GoCall.lend 0 h17 rfl rfl c1 rfl rfl rfl ?_
    simp (dsimp := false) (disch := omega) only [sh2, List.append_nil, rules]
    refine GoCall.lend 0 h18 rfl rfl c2 rfl rfl rfl ?_
    have hl11 : lent 0 1 1 = 1 := rfl
    have hr27' : (∀ y, y ∈ rowsF cc → y.length = 27) = True := eq_true hr27
    simp (dsimp := false) (disch := omega) only [sh3, List.append_nil, hl11, hr27', tkb, hap, rlb, rlc, List.map_cons, List.map_nil, Ap_end_ret, rules, tys, eq_self, ↓reduceIte, Nat.reduceAdd, Nat.reduceLT]
    repeat refine And.intro (by omega) ?_
    refine RetOK.lentB rfl ⟨trivial, trivial⟩ rfl (S_closed xs _) rfl ?_ rfl
    have hi1 : List.idxOf? 2 [0] = none := rfl
    have rlt2 : (rowsF (bb ++ cc)).length = 4 + cc.length := by rw [rlt, List.length_append]; omega
    simp (disch := omega) only [rlt2, tkt2, hi1, List.drop_zero, Nat.zero_add, Nat.le_refl, ↓reduceIte, St.get, fzX, oneRes, fzV, fzC, fz1, fz0, Option.map_some, List.getD_cons_succ, List.getD_cons_zero, List.getElem?_cons_zero, List.getElem?_cons_succ]
  | 2, h10, hlt =>
    have h17 := pd17 xs 2 a1 (by decide) hl ha1 hw
    have ha2 := nxs_le (n := 4) ha1
    simp only [Nat.reduceMul] at h17
    obtain ⟨a2, e2⟩ : ∃ t, nxs xs 4 a1 = t := ⟨_, rfl⟩
    rw [e2] at h17 ha2
    show Den _ _ _ _ [S xs (consN xs 2 (nN xs (nxs xs 4 a1) 3) (nx xs (nxs xs 4 a1)))] (.fv (.sl (rowsF (boxS xs 2 0 a1 ++ consS xs 2 (nN xs (nxs xs 4 a1) 3) (nx xs (nxs xs 4 a1))))))
    rw [e2]
    have h18 := pd18 xs 2 2 a2 (by decide) (by decide) hl ha2 hw
    have hcl := consS_len xs 2 (nN xs a2 (2 + 1)) (nx xs a2)
    have hlt3 := nN_lt (xs := xs) (a := a2) (n := 3) (by decide)
    have hco := consS_ok xs 2 (nN xs a2 3) (nx xs a2)
    simp only [Nat.reduceAdd] at h18 hcl
    obtain ⟨a3, e3⟩ : ∃ t, consN xs 2 (nN xs a2 3) (nx xs a2) = t := ⟨_, rfl⟩
    rw [e3] at h18 ⊢
    obtain ⟨cc, hcc⟩ : ∃ t, consS xs 2 (nN xs a2 3) (nx xs a2) = t := ⟨_, rfl⟩
    rw [hcc] at h18 hcl hco ⊢
    have hbl := boxS_len xs 2 0 a1
    obtain ⟨bb, hbb⟩ : ∃ t, boxS xs 2 0 a1 = t := ⟨_, rfl⟩
    rw [hbb] at h17 hbl ⊢
    have c2 := S_closed xs a2
    have rlb := rowsF_length bb
    have rlc := rowsF_length cc
    have tkb := take_rows (ls := bb) (n := 4) (by omega)
    have hr27 := rows27 (ls := cc) (fun l hl => (hco l hl).len)
    have hap := rows_append bb cc
    have rlt := rowsF_length (bb ++ cc)
    have tkt : ∀ k, k = 4 + cc.length → List.take k (rowsF (bb ++ cc)) = rowsF (bb ++ cc) := fun k hk => take_rows (by rw [List.length_append]; omega)
    have tkt2 := tkt (4 + cc.length) rfl
    have b0 : (((2 : Nat) : Int) == 0) = false := rfl
    have b1 : (((2 : Nat) : Int) == 1) = false := rfl
    have b2 : (((2 : Nat) : Int) == 2) = true := rfl
    unfold S at h10 h17 h18 hc c1 c2 ⊢
    refine den_of tabOk mixed Tryz.func11 (cd := _) rfl (by decide) rfl (n := 41) rfl rfl (m := 1) rfl ?_
    simp (dsimp := false) (disch := omega) only [List.replicate, rules]
    refine GoCall.lend 0 h10 rfl rfl hc rfl rfl rfl ?_
    simp (dsimp := false) (disch := omega) only [sh2, List.append_nil, b0, b1, b2, rules, tys, eq_self, ↓reduceIte]
    refine GoCall.lend 0 h17 rfl rfl c1 rfl rfl rfl ?_
    simp (dsimp := false) (disch := omega) only [sh2, List.append_nil, rules]
    refine GoCall.lend 0 h18 rfl rfl c2 rfl rfl rfl ?_
    have hl11 : lent 0 1 1 = 1 := rfl
    have hr27' : (∀ y, y ∈ rowsF cc → y.length = 27) = True := eq_true hr27
    simp (dsimp := false) (disch := omega) only [sh3, List.append_nil, hl11, hr27', tkb, hap, rlb, rlc, List.map_cons, List.map_nil, Ap_end_ret, rules, tys, eq_self, ↓reduceIte, Nat.reduceAdd, Nat.reduceLT]
    repeat refine And.intro (by omega) ?_
    refine RetOK.lentB rfl ⟨trivial, trivial⟩ rfl (S_closed xs _) rfl ?_ rfl
    have hi1 : List.idxOf? 2 [0] = none := rfl
    have rlt2 : (rowsF (bb ++ cc)).length = 4 + cc.length := by rw [rlt, List.length_append]; omega
    simp (disch := omega) only [rlt2, tkt2, hi1, List.drop_zero, Nat.zero_add, Nat.le_refl, ↓reduceIte, St.get, fzX, oneRes, fzV, fzC, fz1, fz0, Option.map_some, List.getD_cons_succ, List.getD_cons_zero, List.getElem?_cons_zero, List.getElem?_cons_succ]
  | 3, h10, hlt =>
    have h17 := pd17 xs 2 a1 (by decide) hl ha1 hw
    have ha2 := nxs_le (n := 4) ha1
    simp only [Nat.reduceMul] at h17
    obtain ⟨a2, e2⟩ : ∃ t, nxs xs 4 a1 = t := ⟨_, rfl⟩
    rw [e2] at h17 ha2
    show Den _ _ _ _ [S xs (consN xs 2 (nN xs (nxs xs 4 a1) 3) (nx xs (nxs xs 4 a1)))] (.fv (.sl (rowsF (boxS xs 2 0 a1 ++ consS xs 2 (nN xs (nxs xs 4 a1) 3) (nx xs (nxs xs 4 a1))))))
    rw [e2]
    have h18 := pd18 xs 2 2 a2 (by decide) (by decide) hl ha2 hw
    have hcl := consS_len xs 2 (nN xs a2 (2 + 1)) (nx xs a2)
    have hlt3 := nN_lt (xs := xs) (a := a2) (n := 3) (by decide)
    have hco := consS_ok xs 2 (nN xs a2 3) (nx xs a2)
    simp only [Nat.reduceAdd] at h18 hcl
    obtain ⟨a3, e3⟩ : ∃ t, consN xs 2 (nN xs a2 3) (nx xs a2) = t := ⟨_, rfl⟩
    rw [e3] at h18 ⊢
    obtain ⟨cc, hcc⟩ : ∃ t, consS xs 2 (nN xs a2 3) (nx xs a2) = t := ⟨_, rfl⟩
    rw [hcc] at h18 hcl hco ⊢
    have hbl := boxS_len xs 2 0 a1
    obtain ⟨bb, hbb⟩ : ∃ t, boxS xs 2 0 a1 = t := ⟨_, rfl⟩
    rw [hbb] at h17 hbl ⊢
    have c2 := S_closed xs a2
    have rlb := rowsF_length bb
    have rlc := rowsF_length cc
    have tkb := take_rows (ls := bb) (n := 4) (by omega)
    have hr27 := rows27 (ls := cc) (fun l hl => (hco l hl).len)
    have hap := rows_append bb cc
    have rlt := rowsF_length (bb ++ cc)
    have tkt : ∀ k, k = 4 + cc.length → List.take k (rowsF (bb ++ cc)) = rowsF (bb ++ cc) := fun k hk => take_rows (by rw [List.length_append]; omega)
    have tkt2 := tkt (4 + cc.length) rfl
    have b0 : (((3 : Nat) : Int) == 0) = false := rfl
    have b1 : (((3 : Nat) : Int) == 1) = false := rfl
    have b2 : (((3 : Nat) : Int) == 2) = false := rfl
    have b3 : (((3 : Nat) : Int) == 3) = true := rfl
    unfold S at h10 h17 h18 hc c1 c2 ⊢
    refine den_of tabOk mixed Tryz.func11 (cd := _) rfl (by decide) rfl (n := 41) rfl rfl (m := 1) rfl ?_
    simp (dsimp := false) (disch := omega) only [List.replicate, rules]
    refine GoCall.lend 0 h10 rfl rfl hc rfl rfl rfl ?_
    simp (dsimp := false) (disch := omega) only [sh2, List.append_nil, b0, b1, b2, b3, rules, tys, eq_self, ↓reduceIte]
    refine GoCall.lend 0 h17 rfl rfl c1 rfl rfl rfl ?_
    simp (dsimp := false) (disch := omega) only [sh2, List.append_nil, rules]
    refine GoCall.lend 0 h18 rfl rfl c2 rfl rfl rfl ?_
    have hl11 : lent 0 1 1 = 1 := rfl
    have hr27' : (∀ y, y ∈ rowsF cc → y.length = 27) = True := eq_true hr27
    simp (dsimp := false) (disch := omega) only [sh3, List.append_nil, hl11, hr27', tkb, hap, rlb, rlc, List.map_cons, List.map_nil, Ap_end_ret, rules, tys, eq_self, ↓reduceIte, Nat.reduceAdd, Nat.reduceLT]
    repeat refine And.intro (by omega) ?_
    refine RetOK.lentB rfl ⟨trivial, trivial⟩ rfl (S_closed xs _) rfl ?_ rfl
    have hi1 : List.idxOf? 2 [0] = none := rfl
    have rlt2 : (rowsF (bb ++ cc)).length = 4 + cc.length := by rw [rlt, List.length_append]; omega
    simp (disch := omega) only [rlt2, tkt2, hi1, List.drop_zero, Nat.zero_add, Nat.le_refl, ↓reduceIte, St.get, fzX, oneRes, fzV, fzC, fz1, fz0, Option.map_some, List.getD_cons_succ, List.getD_cons_zero, List.getElem?_cons_zero, List.getElem?_cons_succ]
  | 4, h10, hlt =>
    have h18 := pd18 xs 3 4 a1 (by decide) (by decide) hl ha1 hw
    simp only [Nat.reduceAdd] at h18
    show Den _ _ _ _ [S xs (consN xs 3 (nN xs a1 5) (nx xs a1))] (.fv (.sl (rowsF (consS xs 3 (nN xs a1 5) (nx xs a1)))))
    obtain ⟨a3, e3⟩ : ∃ t, consN xs 3 (nN xs a1 5) (nx xs a1) = t := ⟨_, rfl⟩
    rw [e3] at h18 ⊢
    obtain ⟨cc, hcc⟩ : ∃ t, consS xs 3 (nN xs a1 5) (nx xs a1) = t := ⟨_, rfl⟩
    rw [hcc] at h18 ⊢
    have b0 : (((4 : Nat) : Int) == 0) = false := rfl
    have b1 : (((4 : Nat) : Int) == 1) = false := rfl
    have b2 : (((4 : Nat) : Int) == 2) = false := rfl
    have b3 : (((4 : Nat) : Int) == 3) = false := rfl
    have b4 : (((4 : Nat) : Int) == 4) = true := rfl
    unfold S at h10 h18 hc c1 ⊢
    refine den_of tabOk mixed Tryz.func11 (cd := _) rfl (by decide) rfl (n := 41) rfl rfl (m := 1) rfl ?_
    simp (dsimp := false) (disch := omega) only [List.replicate, rules]
    refine GoCall.lend 0 h10 rfl rfl hc rfl rfl rfl ?_
    simp (dsimp := false) (disch := omega) only [sh2, List.append_nil, b0, b1, b2, b3, b4, rules, tys, eq_self, ↓reduceIte]
    refine GoCall.lend 0 h18 rfl rfl c1 rfl rfl rfl ?_
    simp (dsimp := false) (disch := omega) only [sh3, List.append_nil, Ap_end_ret, rules]
    exact RetOK.lentB rfl ⟨trivial, trivial⟩ rfl (S_closed xs _) rfl rfl rfl
  | m + 5, h10, hlt =>
    have h18 := pd18 xs 2 4 a1 (by decide) (by decide) hl ha1 hw
    simp only [Nat.reduceAdd] at h18
    show Den _ _ _ _ [S xs (consN xs 2 (nN xs a1 5) (nx xs a1))] (.fv (.sl (rowsF (consS xs 2 (nN xs a1 5) (nx xs a1)))))
    obtain ⟨a3, e3⟩ : ∃ t, consN xs 2 (nN xs a1 5) (nx xs a1) = t := ⟨_, rfl⟩
    rw [e3] at h18 ⊢
    obtain ⟨cc, hcc⟩ : ∃ t, consS xs 2 (nN xs a1 5) (nx xs a1) = t := ⟨_, rfl⟩
    rw [hcc] at h18 ⊢
    have b0 : (((m + 5 : Nat) : Int) == 0) = false := by rw [beq_eq_false_iff_ne]; omega
    have b1 : (((m + 5 : Nat) : Int) == 1) = false := by rw [beq_eq_false_iff_ne]; omega
    have b2 : (((m + 5 : Nat) : Int) == 2) = false := by rw [beq_eq_false_iff_ne]; omega
    have b3 : (((m + 5 : Nat) : Int) == 3) = false := by rw [beq_eq_false_iff_ne]; omega
    have b4 : (((m + 5 : Nat) : Int) == 4) = false := by rw [beq_eq_false_iff_ne]; omega
    unfold S at h10 h18 hc c1 ⊢
    refine den_of tabOk mixed Tryz.func11 (cd := _) rfl (by decide) rfl (n := 41) rfl rfl (m := 1) rfl ?_
    simp (dsimp := false) (disch := omega) only [List.replicate, rules]
    refine GoCall.lend 0 h10 rfl rfl hc rfl rfl rfl ?_
    simp (dsimp := false) (disch := omega) only [sh2, List.append_nil, b0, b1, b2, b3, b4, rules, tys, eq_self, ↓reduceIte]
    refine GoCall.lend 0 h18 rfl rfl c1 rfl rfl rfl ?_
    simp (dsimp := false) (disch := omega) only [sh3, List.append_nil, Ap_end_ret, rules]
    exact RetOK.lentB rfl ⟨trivial, trivial⟩ rfl (S_closed xs _) rfl rfl rfl

end Go.Proofs.YtddnnhlcpffbdaaGreat

namespace Go.Proofs.YtddnnhlcpffbdaaGreat
open Go.AM Go.Pl
set_option maxRecDepth 100000
set_option maxHeartbeats 4000000

abbrev zR : PV := .agg [.bool false, .fv (.sl []), .fv (.sl [])]
def bndV : Option (Rat × Rat) → PV
  | none => .tup [zR, zR, .int .i64 15]
  | some (a, b) => .tup [FR a, FR b, .int .i64 0]
theorem lowQ_pos {s : List (List Raw)} {v : Nat} {x : List Raw} (h : 0 < co x v) : lowQ (s ++ [x]) v = lowQ s v ++ [co (solR v x) 8] := by simp [lowQ, lowL_pos h]
theorem lowQ_not {s : List (List Raw)} {v : Nat} {x : List Raw} (h : ¬ 0 < co x v) : lowQ (s ++ [x]) v = lowQ s v := by simp [lowQ, lowL_not h]
theorem highQ_neg {s : List (List Raw)} {v : Nat} {x : List Raw} (h : co x v < 0) : highQ (s ++ [x]) v = highQ s v ++ [co (solR v x) 8] := by simp [highQ, highL_neg h]
theorem highQ_not {s : List (List Raw)} {v : Nat} {x : List Raw} (h : ¬ co x v < 0) : highQ (s ++ [x]) v = highQ s v := by simp [highQ, highL_not h]
theorem solR_cn {v : Nat} {x : List Raw} (h : x.length = 9) : (solR v x).getD 8 rz = cn (co (solR v x) 8) := by
  have hl := solR_len (v := v) h
  unfold co
  obtain ⟨q, hq⟩ : ∃ q, (solR v x).getD 8 rz = cn q := by
    unfold solR at hl ⊢
    rw [List.getD_eq_getElem?_getD, List.getElem?_eq_getElem (by omega), Option.getD_some, List.getElem_map]
    exact ⟨_, rfl⟩
  rw [hq, cn_q]
theorem rats_snoc (ps : List Rat) (q : Rat) : rats ps ++ [[FV.lit (Value.bool (cn q).neg), FV.sl (u32s (cn q).num), FV.sl (u32s (cn q).den)]] = rats (ps ++ [q]) := by simp [rats, Raw.f]
theorem take_rats {ps : List Rat} {n : Nat} (h : ps.length ≤ n) : List.take n (rats ps) = rats ps := List.take_of_length_le (by rw [rats_length]; exact h)
abbrev Zb : Ob := .box true [.bool false, .nilsl, .nilsl]

theorem pd13 (cs : List (List Raw)) (v : Nat) (hv : v < 8) (h : CsOk cs) (hl : cs.length ≤ 40) : Den Tryz.prog 13 [] [.fv (.sl (rowsF cs)), .int .i64 v] [] (bndV (bndP cs v)) := by
  obtain ⟨R, hR⟩ : ∃ R, bndV (bndP cs v) = R := ⟨_, rfl⟩
  rw [hR]
  unfold bndP innerB at hR
  have rl := rowsF_length cs
  have e1 : decide ((cs.length : Int) > 40) = false := decide_eq_false (by omega)
  have e2 : decide ((v : Int) < 0) = false := decide_eq_false (by omega)
  have e3 : decide ((v : Int) ≥ 8) = false := decide_eq_false (by omega)
  have h44 := pd44g cs h
  have hg0 := h.good
  have h45 := pd45 _ hg0
  cases hvb : violB cs with
  | true =>
    rw [hvb, if_pos rfl] at h44
    rw [hvb] at hR
    have hR2 : R = bndV none := hR.symm
    subst hR2
    refine den_of tabOk mixed Tryz.func13 (cd := _) rfl (by decide) rfl (n := 99) rfl rfl (m := 0) rfl ?_
    simp (dsimp := false) (disch := omega) only [List.replicate, rl, e1, e2, e3, rules, tys, eq_self, ↓reduceIte]
    refine GoCall.pure h44 rfl ?_
    simp (dsimp := false) (disch := omega) only [Bool.not_false, Ap_end_ret, rules, tys, eq_self, ↓reduceIte, Nat.reduceAdd, Nat.reduceLT, Nat.reduceLeDiff]
    repeat refine And.intro (by omega) ?_
    exact RetOK.pure rfl ⟨⟨rfl, Nat.le_refl 3⟩, ⟨rfl, Nat.le_refl 3⟩, trivial, trivial⟩ rfl
  | false =>
    rw [hvb, if_neg (by simp)] at h44
    rw [hvb] at hR
    cases hfb : feasB (sysL cs []) with
    | false =>
      rw [hfb] at hR h45
      have hR2 : R = bndV none := hR.symm
      subst hR2
      refine den_of tabOk mixed Tryz.func13 (cd := _) rfl (by decide) rfl (n := 99) rfl rfl (m := 0) rfl ?_
      simp (dsimp := false) (disch := omega) only [List.replicate, rl, e1, e2, e3, rules, tys, eq_self, ↓reduceIte]
      refine GoCall.pure h44 rfl ?_
      simp (dsimp := false) (disch := omega) only [Bool.not_true, rules, Nat.reduceAdd]
      refine GoCall.pure h45 rfl ?_
      simp (dsimp := false) (disch := omega) only [Bool.not_false, Ap_end_ret, rules, tys, eq_self, ↓reduceIte, Nat.reduceAdd, Nat.reduceLT, Nat.reduceLeDiff]
      repeat refine And.intro (by omega) ?_
      exact RetOK.pure rfl ⟨⟨rfl, Nat.le_refl 3⟩, ⟨rfl, Nat.le_refl 3⟩, trivial, trivial⟩ rfl
    | true =>
      rw [hfb, Bool.not_false, Bool.and_true, if_pos rfl] at hR
      rw [hfb] at h45
      obtain ⟨s0, hs0⟩ : ∃ s, sysL cs [] = s := ⟨_, rfl⟩
      obtain ⟨fin, hfin⟩ : ∃ s, elimL v 8 0 s0 = s := ⟨_, rfl⟩
      rw [hs0] at h44 hg0 h45 hfb hR
      rw [hfin] at hR
      refine den_of tabOk mixed Tryz.func13 (cd := _) rfl (by decide) rfl (n := 99) rfl rfl (m := 0) rfl ?_
      simp (dsimp := false) (disch := omega) only [List.replicate, rl, e1, e2, e3, rules, tys, eq_self, ↓reduceIte]
      refine GoCall.pure h44 rfl ?_
      simp (dsimp := false) (disch := omega) only [Bool.not_true, rules, Nat.reduceAdd]
      refine GoCall.pure h45 rfl ?_
      simp (dsimp := false) (disch := omega) only [Bool.not_true, rules, ↓reduceIte, Nat.reduceAdd]
      refine WA.loop (α := Nat × List (List Raw)) (fun ⟨i, s⟩ => ⟨[.fv (.sl (rowsF cs)), .int .i64 v, .any, .any, .ptr 0 0 0, .ptr 1 0 0, .int .i64 0, .fv (.sl (rowsF s))] ++ List.replicate 36 .any ++ [.int .i64 i] ++ List.replicate 56 .any, [Zb, Zb]⟩)
        (fun ⟨i, _⟩ => 8 - i) (fun ⟨i, s⟩ => i ≤ 8 ∧ GoodS s ∧ feasB s = true ∧ elimL v (8 - i) i s = fin) (0, s0) ?_ ?_ ?_
      · refine Weak.keep [0, 1] (by simp) rfl ?_ ?_
        · simp [leVs, leV, le1]
        · simp [leH, leO, le1s, le1]
      · exact ⟨Nat.zero_le _, hg0, hfb, hfin⟩
      · rintro ⟨i, s⟩ ⟨hi, hg, hf, hel⟩
        simp (dsimp := false) (disch := omega) only [List.replicate, rules, tys, eq_self, ↓reduceIte]
        refine Br.dec ?_ ?_
        · intro h1 h2
          have h8 : 8 - i = (8 - (i + 1)) + 1 := by omega
          rw [h8] at hel
          unfold elimL at hel
          simp (dsimp := false) (disch := omega) only [h2, rules, tys, eq_self, ↓reduceIte]
          refine Br.bneInt ?_ ?_
          · intro h3 h4
            have hne : ¬ i = v := by omega
            rw [if_neg hne] at hel
            have hnb : badB s i = false := by
              cases hb : badB s i with
              | false => rfl
              | true => rw [hg.bad (by omega) hb] at hf; cases hf
            have h46 := pd46g s i (by omega) hg
            rw [hnb, if_neg (by simp)] at h46
            simp (dsimp := false) (disch := omega) only [h4, rules]
            refine GoCall.pure h46 rfl ?_
            simp (dsimp := false) (disch := omega) only [wrap64, rules, tys, eq_self, ↓reduceIte, Nat.reduceAdd]
            refine Ap_loop (i + 1, stepL s i) (by dsimp only; omega) ?_ ⟨by omega, hg.step (by omega), by rw [hg.feas (by omega) hnb]; exact hf, hel⟩
            refine Weak.keep [0, 1] (by simp) rfl ?_ ?_
            · simp [leVs, leV, le1]
            · simp [leH, leO, le1s, le1]
          · intro h3 h4
            have he : i = v := by omega
            rw [if_pos he] at hel
            simp (dsimp := false) (disch := omega) only [h4, wrap64, rules, tys, eq_self, ↓reduceIte]
            refine Ap_loop (i + 1, s) (by dsimp only; omega) ?_ ⟨by omega, hg, hf, hel⟩
            refine Weak.keep [0, 1] (by simp) rfl ?_ ?_
            · simp [leVs, leV, le1]
            · simp [leH, leO, le1s, le1]
        · intro h1 h2
          have h8 : 8 - i = 0 := by omega
          rw [h8] at hel
          have hel2 : s = fin := hel
          subst hel2
          have hlim := hg.lim
          have hn12 := hg.len
          obtain ⟨n, hnn⟩ : ∃ n, s.length = n := ⟨_, rfl⟩
          have rls := rowsF_length s
          rw [hnn] at rls hn12
          simp (dsimp := false) (disch := omega) only [h2, rls, rules, tys, Nat.reduceBEq]
          refine WA.loop (α := Nat × List Rat × List Rat) (fun ⟨j, lo, hi⟩ => ⟨[.fv (.sl (rowsF cs)), .int .i64 v, .any, .any, .ptr 0 0 0, .ptr 1 0 0, .int .i64 0, .fv (.sl (rowsF s)), .any, .any, .lsl 2 0 lo.length 3, .lsl 3 0 hi.length 3] ++ List.replicate 45 .any ++ [.fv (.sl (rowsF s)), .int .i64 n, .int .i64 j] ++ List.replicate 41 .any, [Zb, Zb, .row true (rats lo), .row true (rats hi)]⟩)
            (fun ⟨j, _⟩ => n - j) (fun ⟨j, lo, hi⟩ => j ≤ n ∧ lo = lowQ (s.take j) v ∧ hi = highQ (s.take j) v) (0, [], []) ?_ ?_ ?_
          · refine Weak.nil 10 3 (by decide) rfl ?_
            refine Weak.nil 11 3 (by decide) rfl ?_
            refine Weak.keep [0, 1, 2, 3] (by simp) rfl ?_ ?_
            · simp [leVs, leV, le1]
            · simp [leH, leO, le1s, le1]
              simp [rats]
          · exact ⟨Nat.zero_le _, rfl, rfl⟩
          · rintro ⟨j, lo, hi⟩ ⟨hj, hlo, hhi⟩
            have hsz := split_length (s.take j) v
            have hszl : lo.length = (lowL (s.take j) v).length := by rw [hlo]; simp [lowQ]
            have hszh : hi.length = (highL (s.take j) v).length := by rw [hhi]; simp [highQ]
            rw [← hszl, ← hszh, List.length_take, hnn] at hsz
            obtain ⟨A, hA⟩ : ∃ L, lo.length = L := ⟨_, rfl⟩
            obtain ⟨C, hC⟩ : ∃ L, hi.length = L := ⟨_, rfl⟩
            have rlo := rats_length lo
            have rhi := rats_length hi
            dsimp only
            rw [hA] at hsz rlo ⊢
            rw [hC] at hsz rhi ⊢
            have tkl := take_rats (ps := lo) (n := A) (by omega)
            have tkh := take_rats (ps := hi) (n := C) (by omega)
            simp (dsimp := false) (disch := omega) only [List.replicate, rules, tys, eq_self, ↓reduceIte]
            refine Br.dec ?_ ?_
            · intro h3 h4
              have hsn := take_snoc (cs := s) (i := j) (by omega)
              have hmem := at_mem (ls := s) (i := j) (by omega)
              have r1 := rowsF_getD s j
              obtain ⟨x, hxx⟩ : ∃ x, s.getD j [] = x := ⟨_, rfl⟩
              rw [hxx] at hmem r1 hsn
              have hx := hlim x hmem
              have lx := hx.len
              have x27 := flatF_take27 lx
              have fx := flatF_length x
              have gx := flat_length x
              have gx27 := flat_take27 lx
              by_cases h0 : co x v = 0
              · have h16 := den16n x v hx hv h0
                unfold FL RL at h16
                obtain ⟨zs, hzz⟩ : ∃ zs, (x.map Raw.q).map cn = zs := ⟨_, rfl⟩
                have hzl : zs.length = 9 := by rw [← hzz]; simp [lx]
                have gz := flat_length zs
                rw [hzz] at h16
                have e5 : decide ((0 : Int) > 0) = false := rfl
                have e6 : decide ((0 : Int) < 0) = false := rfl
                simp (dsimp := false) (disch := omega) only [List.append_nil, h4, r1, x27, flatF_fv, fx, gx, lx, gx27, rules, tys, eq_self, ↓reduceIte, Nat.reduceAdd, Nat.reduceMul, Nat.reduceLT, Nat.reduceLeDiff]
                repeat refine And.intro (by omega) ?_
                refine GoCall.pure h16 (by simp [fzAs, fzA, flat_fz, flatF_fv, fz1, fz0]) ?_
                simp (dsimp := false) (disch := omega) only [flat_ids, flat_reloc, List.append_nil, gz, hzl, e5, wrap64, rules, tys, eq_self, ↓reduceIte, Nat.reduceAdd, Nat.reduceMul, Nat.reduceLT, Nat.reduceLeDiff]
                repeat refine And.intro (by omega) ?_
                refine Ap_loop (j + 1, lo, hi) (by dsimp only; omega) ?_ ⟨by omega, by rw [hsn, lowQ_not (by grind), hlo], by rw [hsn, highQ_not (by grind), hhi]⟩
                refine Weak.keep [0, 1, 2, 3] (by simp) rfl ?_ ?_
                · simp [leVs, leV, le1]
                  omega
                · simp [leH, leO, le1s, le1]
              · have h16 := den16 x v hx hv h0
                have hsl : (solR v x).length = 9 := solR_len lx
                have hfc := flat_const' hsl
                rw [solR_cn lx] at hfc
                unfold FL RL at h16
                change Den Tryz.prog 47 [] [.agg (flat x), .int .i64 v] [] (.tup [.agg (flat (solR v x)), .int .i64 (sgq (x.getD v rz).q), .int .i64 0]) at h16
                by_cases hp : 0 < co x v
                · have hls := lowQ_pos (s := s.take j) hp
                  have hhs := highQ_not (s := s.take j) (v := v) (x := x) (by grind)
                  have hap := rats_snoc lo (co (solR v x) 8)
                  obtain ⟨q, hq⟩ : ∃ q, co (solR v x) 8 = q := ⟨_, rfl⟩
                  rw [hq] at hls hap hfc
                  obtain ⟨y, hy⟩ : ∃ y, solR v x = y := ⟨_, rfl⟩
                  rw [hy] at h16 hsl hfc
                  have gy := flat_length y
                  rw [show sgq (x.getD v rz).q = 1 from sgq_of_pos hp] at h16
                  have e5 : decide ((1 : Int) > 0) = true := rfl
                  simp (dsimp := false) (disch := omega) only [List.append_nil, h4, r1, x27, flatF_fv, fx, gx, lx, gx27, rules, tys, eq_self, ↓reduceIte, Nat.reduceAdd, Nat.reduceMul, Nat.reduceLT, Nat.reduceLeDiff]
                  repeat refine And.intro (by omega) ?_
                  refine GoCall.pure h16 (by simp [fzAs, fzA, flat_fz, flatF_fv, fz1, fz0]) ?_
                  simp (dsimp := false) (disch := omega) only [flat_ids, flat_reloc, List.append_nil, gy, hsl, e5, hfc, tkl, hap, rlo, wrap64, rules, tys, eq_self, ↓reduceIte, Nat.reduceAdd, Nat.reduceMul, Nat.reduceBEq, Nat.reduceLT, Nat.reduceLeDiff]
                  repeat refine And.intro (by omega) ?_
                  refine Ap_loop (j + 1, lo ++ [q], hi) (by dsimp only; omega) ?_ ⟨by omega, by rw [hsn, hls, hlo], by rw [hsn, hhs, hhi]⟩
                  refine Weak.keep [0, 1, 7, 3] (by simp) rfl ?_ ?_
                  · simp [leVs, leV, le1]
                    omega
                  · simp [leH, leO, le1s, le1]
                · have hneg : co x v < 0 := by grind
                  have hls := lowQ_not (s := s.take j) (v := v) (x := x) hp
                  have hhs := highQ_neg (s := s.take j) hneg
                  have hap := rats_snoc hi (co (solR v x) 8)
                  obtain ⟨q, hq⟩ : ∃ q, co (solR v x) 8 = q := ⟨_, rfl⟩
                  rw [hq] at hhs hap hfc
                  obtain ⟨y, hy⟩ : ∃ y, solR v x = y := ⟨_, rfl⟩
                  rw [hy] at h16 hsl hfc
                  have gy := flat_length y
                  rw [show sgq (x.getD v rz).q = -1 from sgq_of_neg hneg] at h16
                  have e5 : decide ((-1 : Int) > 0) = false := rfl
                  have e6 : decide ((-1 : Int) < 0) = true := rfl
                  simp (dsimp := false) (disch := omega) only [List.append_nil, h4, r1, x27, flatF_fv, fx, gx, lx, gx27, rules, tys, eq_self, ↓reduceIte, Nat.reduceAdd, Nat.reduceMul, Nat.reduceLT, Nat.reduceLeDiff]
                  repeat refine And.intro (by omega) ?_
                  refine GoCall.pure h16 (by simp [fzAs, fzA, flat_fz, flatF_fv, fz1, fz0]) ?_
                  simp (dsimp := false) (disch := omega) only [flat_ids, flat_reloc, List.append_nil, gy, hsl, e5, e6, hfc, tkh, hap, rhi, wrap64, rules, tys, eq_self, ↓reduceIte, Nat.reduceAdd, Nat.reduceMul, Nat.reduceBEq, Nat.reduceLT, Nat.reduceLeDiff]
                  repeat refine And.intro (by omega) ?_
                  refine Ap_loop (j + 1, lo, hi ++ [q]) (by dsimp only; omega) ?_ ⟨by omega, by rw [hsn, hls, hlo], by rw [hsn, hhs, hhi]⟩
                  refine Weak.keep [0, 1, 2, 7] (by simp) rfl ?_ ?_
                  · simp [leVs, leV, le1]
                    omega
                  · simp [leH, leO, le1s, le1]
            · intro h3 h4
              have htk : s.take j = s := List.take_of_length_le (by omega)
              rw [htk] at hlo hhi
              unfold ends at hR
              have hbd : (∀ q ∈ lo, Bd 10000 q) ∧ ∀ q ∈ hi, Bd 10000 q := by
                constructor
                · intro q hq
                  rw [hlo] at hq
                  obtain ⟨b, hb, rfl⟩ := List.mem_map.1 hq
                  exact (((low_ok hlim (by decide) b hb).at 8).bd (by decide)).mono (by decide)
                · intro q hq
                  rw [hhi] at hq
                  obtain ⟨b, hb, rfl⟩ := List.mem_map.1 hq
                  exact (((high_ok hlim (by decide) b hb).at 8).bd (by decide)).mono (by decide)
              rw [← hlo, ← hhi] at hR
              cases lo with
              | nil =>
                have hR2 : R = bndV none := hR.symm
                subst hR2
                have hA0 : A = 0 := hA.symm
                subst hA0
                have e5 : ((((0 : Nat) : Int)) == 0) = true := rfl
                simp (dsimp := false) (disch := omega) only [h4, e5, Ap_end_ret, rules, tys, eq_self, ↓reduceIte, Nat.reduceAdd, Nat.reduceBEq, Nat.reduceLT, Nat.reduceLeDiff]
                repeat refine And.intro (by omega) ?_
                exact RetOK.pure rfl ⟨⟨rfl, Nat.le_refl 3⟩, ⟨rfl, Nat.le_refl 3⟩, trivial, trivial⟩ rfl
              | cons a l =>
                have hA0 : ((A : Int) == 0) = false := by
                  have : A ≠ 0 := by rw [← hA]; simp
                  simp only [beq_eq_false_iff_ne]; omega
                cases hi with
                | nil =>
                  have hR2 : R = bndV none := hR.symm
                  subst hR2
                  have hC0 : C = 0 := hC.symm
                  subst hC0
                  have e5 : ((((0 : Nat) : Int)) == 0) = true := rfl
                  simp (dsimp := false) (disch := omega) only [h4, e5, hA0, Ap_end_ret, rules, tys, eq_self, ↓reduceIte, Nat.reduceAdd, Nat.reduceBEq, Nat.reduceLT, Nat.reduceLeDiff]
                  repeat refine And.intro (by omega) ?_
                  exact RetOK.pure rfl ⟨⟨rfl, Nat.le_refl 3⟩, ⟨rfl, Nat.le_refl 3⟩, trivial, trivial⟩ rfl
                | cons b g =>
                  have hC0 : ((C : Int) == 0) = false := by
                    have : C ≠ 0 := by rw [← hC]; simp
                    simp only [beq_eq_false_iff_ne]; omega
                  have hR2 : R = .tup [FR (maxL a l), FR (minL b g), .int .i64 0] := hR.symm
                  subst hR2
                  have h48 := pd48 a l hbd.1 (by simp at hA; omega)
                  have h50 := pd50 b g hbd.2 (by simp at hC; omega)
                  obtain ⟨us, hus⟩ : ∃ us, rats (a :: l) = us := ⟨_, rfl⟩
                  obtain ⟨ws, hws⟩ : ∃ us, rats (b :: g) = us := ⟨_, rfl⟩
                  rw [hus] at h48 tkl rlo
                  rw [hws] at h50 tkh rhi
                  rw [hus, hws]
                  rw [FR_eq] at h48 h50 ⊢
                  rw [FR_eq]
                  simp (dsimp := false) (disch := omega) only [h4, hA0, hC0, rules, tys, eq_self, ↓reduceIte, Nat.reduceBEq]
                  refine GoCall.pure h48 (by simp [fzAs, fzA, fz1, fz0, rlo, tkl]) ?_
                  simp (dsimp := false) (disch := omega) only [rules, Nat.reduceAdd]
                  refine GoCall.pure h50 (by simp [fzAs, fzA, fz1, fz0, rhi, tkh]) ?_
                  simp (dsimp := false) (disch := omega) only [Ap_end_ret, rules, tys, eq_self, Nat.reduceAdd, Nat.reduceLT, Nat.reduceLeDiff]
                  repeat refine And.intro (by omega) ?_
                  exact RetOK.pure rfl ⟨⟨rfl, Nat.le_refl 3⟩, ⟨rfl, Nat.le_refl 3⟩, trivial, trivial⟩ rfl
end Go.Proofs.YtddnnhlcpffbdaaGreat

namespace Go.Proofs.YtddnnhlcpffbdaaGreat
open Go.AM Go.Pl
set_option maxRecDepth 100000
set_option maxHeartbeats 4000000

theorem pd120 (rs : List Raw) (hrs : LOk 100000 rs) : Den Tryz.prog 120 [] [RL rs] [] (FL (nrm rs)) := by
  have hlen := hrs.len
  have hfl := flat_length rs
  have hne : rs ≠ [] := fun h => by rw [h] at hlen; simp at hlen
  have hlo := hrs.ok _ (leadL_mem hne)
  have h42 := den42 rs (hrs.mono (by decide))
  have h26 := den26 (leadL rs) (hlo.mono (by decide))
  obtain ⟨c, hc⟩ : ∃ c, leadL rs = c := ⟨_, rfl⟩
  have b1 := hlo.bd (by decide)
  rw [hc] at hlo h42 h26 b1
  by_cases h0 : c.q = 0
  · have h43 := den43
    rw [nrm_zero (by rw [hc]; exact h0)]
    rw [sgq_eq_zero.2 h0] at h26
    have h27 := FL_len (List.replicate 9 0) rfl
    unfold FL RL at h43 ⊢
    unfold Raw.v at h42 h26
    obtain ⟨zs, hz⟩ : ∃ zs, (List.replicate 9 (0 : Rat)).map cn = zs := ⟨_, rfl⟩
    have hzl : zs.length = 9 := by rw [← hz]; simp
    rw [hz] at h43 h27 ⊢
    unfold RL at h42
    have e00 : ((0 : Int) == 0) = true := rfl
    refine den_of tabOk mixed Tryz.func120 (cd := _) rfl (by decide) rfl (n := 25) rfl rfl (m := 0) rfl ?_
    simp (dsimp := false) (disch := omega) only [flat_take27 hlen, rules, tys, eq_self, ↓reduceIte, Nat.reduceLT]
    refine ⟨by omega, by omega, ?_⟩
    refine GoCall.pure h42 (by simp [fzAs, fzA, flat_fz, flatF_fv]) ?_
    simp (dsimp := false) (disch := omega) only [flat_ids, List.append_nil, rules, tys, eq_self, ↓reduceIte, Nat.reduceAdd, Nat.reduceLT, Nat.reduceLeDiff]
    refine GoCall.pure h26 rfl ?_
    simp (dsimp := false) (disch := omega) only [List.append_nil, e00, rules, tys, eq_self, ↓reduceIte, Nat.reduceAdd]
    refine GoCall.pure h43 rfl ?_
    simp (dsimp := false) (disch := omega) only [flat_reloc, List.append_nil, h27, Ap_end_ret, rules, tys, eq_self, Nat.reduceAdd, Nat.reduceLT, Nat.reduceLeDiff]
    exact RetOK.form rfl rfl hzl
  · have h1 := den24 1 (by decide)
    have hb1 : Bd 1 ((1 : Int) : Rat) := ⟨by decide, by decide⟩
    have hnr := nrm_of (by rw [hc]; exact h0)
    rw [hc] at hnr
    have hmap : rs.map (fun r => r.q / absq c.q) = rs.map (fun r => r.q * (1 / absq c.q)) := by
      apply List.map_congr_left; intro r _; exact (one_div_mul _ _).symm
    rw [hnr, hmap]
    have hba : Bd 100000 (absq c.q) := by unfold absq; split; exact b1.neg; exact b1
    have ha0 := absq_zero h0
    have hok2 := cn_ok (hb1.div hba ha0 (by decide))
    have hsc := den46 rs (cn (1 / absq c.q)) (hrs.mono (by decide)) (Raw.Ok.mono hok2 (by decide))
    rw [cn_q] at hsc
    have hgl : (rs.map (fun r => r.q * (1 / absq c.q))).length = 9 := by simp [hlen]
    have h27 := FL_len _ hgl
    have e10 : ((-1 : Int) == 0) = false := rfl
    have e11 : ((-1 : Int) == -1) = true := rfl
    have e20 : ((1 : Int) == 0) = false := rfl
    have e21 : ((1 : Int) == -1) = false := rfl
    have hr1 : ∀ x : Rat, ((1 : Int) : Rat) / x = 1 / x := fun _ => rfl
    unfold FL RL at hsc ⊢
    unfold RL at h42
    change Den Tryz.prog 41 [] [.agg (flat rs), FR (1 / absq c.q)] [] _ at hsc
    obtain ⟨zs, hz⟩ : ∃ zs, (rs.map (fun r => r.q * (1 / absq c.q))).map cn = zs := ⟨_, rfl⟩
    have hzl : zs.length = 9 := by rw [← hz]; simp [hlen]
    rw [hz] at hsc h27 ⊢
    by_cases hneg : c.q.num < 0
    · have habs : absq c.q = -c.q := if_pos hneg
      rw [habs] at hsc ha0
      rw [sgq_neg hneg] at h26
      have h44 := den44 c (hlo.mono (by decide))
      have h45 := den45 (cn 1) (cn (-c.q)) (Raw.Ok.mono (cn_ok hb1) (by decide)) (Raw.Ok.mono (cn_ok b1.neg) (by decide)) (by rw [cn_q]; exact ha0)
      rw [cn_q, cn_q] at h45
      change Den Tryz.prog 101 [] [FR 1, FR (-c.q)] [] _ at h45
      change Den Tryz.prog 24 [] _ [] (FR 1) at h1
      rw [FR_eq] at h44 h1 hsc
      rw [FR_eq, FR_eq, FR_eq] at h45
      unfold Raw.v at h42 h26 h44
      refine den_of tabOk mixed Tryz.func120 (cd := _) rfl (by decide) rfl (n := 25) rfl rfl (m := 0) rfl ?_
      simp (dsimp := false) (disch := omega) only [flat_take27 hlen, rules, tys, eq_self, ↓reduceIte, Nat.reduceLT]
      refine ⟨by omega, by omega, ?_⟩
      refine GoCall.pure h42 (by simp [fzAs, fzA, flat_fz, flatF_fv]) ?_
      simp (dsimp := false) (disch := omega) only [flat_ids, List.append_nil, rules, tys, eq_self, ↓reduceIte, Nat.reduceAdd, Nat.reduceLT, Nat.reduceLeDiff]
      refine GoCall.pure h26 rfl ?_
      simp (dsimp := false) (disch := omega) only [List.append_nil, e10, e11, rules, tys, eq_self, ↓reduceIte, Nat.reduceAdd, Nat.reduceLeDiff]
      refine GoCall.pure h44 rfl ?_
      simp (dsimp := false) (disch := omega) only [List.append_nil, rules, tys, eq_self, Nat.reduceAdd, Nat.reduceLT, Nat.reduceLeDiff]
      refine Draw.intro (by kernel_rfl) ?_
      simp (dsimp := false) (disch := omega) only [rules]
      refine GoCall.pure h1 rfl ?_
      simp (dsimp := false) (disch := omega) only [List.append_nil, rules, tys, eq_self, ↓reduceIte, Nat.reduceAdd, Nat.reduceLeDiff]
      refine GoCall.pure h45 rfl ?_
      simp (dsimp := false) (disch := omega) only [List.append_nil, flat_take27 hlen, rules, tys, eq_self, ↓reduceIte, Nat.reduceAdd, Nat.reduceLT, Nat.reduceLeDiff]
      repeat refine And.intro (by omega) ?_
      refine GoCall.pure hsc (by simp [fzAs, fzA, flat_fz, flatF_fv, fzs, fz0]) ?_
      simp (dsimp := false) (disch := omega) only [flat_ids, flat_reloc, List.append_nil, h27, Ap_end_ret, rules, tys, eq_self, Nat.reduceAdd, Nat.reduceLT, Nat.reduceLeDiff]
      exact RetOK.form rfl rfl hzl
    · have habs : absq c.q = c.q := if_neg hneg
      rw [habs] at hsc ha0
      rw [sgq_one h0 hneg] at h26
      have h45 := den45 (cn 1) c (Raw.Ok.mono (cn_ok hb1) (by decide)) (hlo.mono (by decide)) h0
      rw [cn_q] at h45
      change Den Tryz.prog 101 [] [FR 1, c.v] [] _ at h45
      change Den Tryz.prog 24 [] _ [] (FR 1) at h1
      rw [FR_eq] at h1 hsc
      rw [FR_eq, FR_eq] at h45
      unfold Raw.v at h42 h26 h45
      refine den_of tabOk mixed Tryz.func120 (cd := _) rfl (by decide) rfl (n := 25) rfl rfl (m := 0) rfl ?_
      simp (dsimp := false) (disch := omega) only [flat_take27 hlen, rules, tys, eq_self, ↓reduceIte, Nat.reduceLT]
      refine ⟨by omega, by omega, ?_⟩
      refine GoCall.pure h42 (by simp [fzAs, fzA, flat_fz, flatF_fv]) ?_
      simp (dsimp := false) (disch := omega) only [flat_ids, List.append_nil, rules, tys, eq_self, ↓reduceIte, Nat.reduceAdd, Nat.reduceLT, Nat.reduceLeDiff]
      refine GoCall.pure h26 rfl ?_
      simp (dsimp := false) (disch := omega) only [List.append_nil, e20, e21, rules, tys, eq_self, ↓reduceIte, Nat.reduceAdd]
      refine Draw.intro (by kernel_rfl) ?_
      simp (dsimp := false) (disch := omega) only [rules]
      refine GoCall.pure h1 rfl ?_
      simp (dsimp := false) (disch := omega) only [List.append_nil, rules, tys, eq_self, ↓reduceIte, Nat.reduceAdd, Nat.reduceLeDiff]
      refine GoCall.pure h45 rfl ?_
      simp (dsimp := false) (disch := omega) only [List.append_nil, flat_take27 hlen, rules, tys, eq_self, ↓reduceIte, Nat.reduceAdd, Nat.reduceLT, Nat.reduceLeDiff]
      repeat refine And.intro (by omega) ?_
      refine GoCall.pure hsc (by simp [fzAs, fzA, flat_fz, flatF_fv, fzs, fz0]) ?_
      simp (dsimp := false) (disch := omega) only [flat_ids, flat_reloc, List.append_nil, h27, Ap_end_ret, rules, tys, eq_self, Nat.reduceAdd, Nat.reduceLT, Nat.reduceLeDiff]
      exact RetOK.form rfl rfl hzl

theorem flatF_drop : ∀ (i : Nat) (rs : List Raw), List.drop (i * 3) (flatF rs) = flatF (rs.drop i)
  | 0, rs => by simp
  | i + 1, [] => by simp [flatF]
  | i + 1, r :: rs => by
    have e : (i + 1) * 3 = i * 3 + 1 + 1 + 1 := by omega
    rw [e]
    simp only [flatF, List.drop_succ_cons]
    exact flatF_drop i rs
theorem flatF_at {rs : List Raw} {i : Nat} (h : i < rs.length) : List.take 3 (List.drop (i * 3) (flatF rs)) = [.lit (.bool (rs.getD i rz).neg), .sl (u32s (rs.getD i rz).num), .sl (u32s (rs.getD i rz).den)] := by
  rw [flatF_drop, List.drop_eq_getElem_cons h]
  simp only [flatF, List.take_succ_cons, List.take_zero]
  rw [List.getD_eq_getElem?_getD, List.getElem?_eq_getElem h]
  rfl
theorem pd122 (s : List (List Raw)) (v : Nat) (hv : v < 8) (hg : ∀ l ∈ s, LOk 1000000 l) (hn : s.length ≤ 1000) : Den Tryz.prog 122 [] [.fv (.sl (rowsF s)), .int .i64 v] [] (.bool (occ s v)) := by
  obtain ⟨R, hR⟩ : ∃ R, occ s v = R := ⟨_, rfl⟩
  rw [hR]
  obtain ⟨n, hnn⟩ : ∃ n, s.length = n := ⟨_, rfl⟩
  have rl := rowsF_length s
  rw [hnn] at rl hn
  refine den_of tabOk mixed Tryz.func122 (cd := _) rfl (by decide) rfl (n := 19) rfl rfl (m := 0) rfl ?_
  simp (dsimp := false) (disch := omega) only [List.replicate, rules]
  refine WA.loop (α := Nat) (fun i => ⟨[.fv (.sl (rowsF s)), .int .i64 v, .any, .any, .bool false, .int .i64 i] ++ List.replicate 15 .any, []⟩)
    (fun i => n - i) (fun i => i ≤ n ∧ ∀ j, j < i → co (s.getD j []) v = 0) 0 ?_ ?_ ?_
  · refine Weak.keep [] (by simp) rfl ?_ ?_
    · simp [leVs, leV, le1]
    · simp [leH]
  · exact ⟨Nat.zero_le _, fun j hj => by omega⟩
  · rintro i ⟨hi, hin⟩
    simp (dsimp := false) (disch := omega) only [List.replicate, rl, rules, tys, eq_self, ↓reduceIte]
    refine Br.dec ?_ ?_
    · intro h1 h2
      have hmem := at_mem (ls := s) (i := i) (by omega)
      have r1 := rowsF_getD s i
      have hin2 : co (s.getD i []) v = 0 → ∀ j, j < i + 1 → co (s.getD j []) v = 0 := fun h0 j hj => by
        by_cases hji : j = i
        · rw [hji]; exact h0
        · exact hin j (by omega)
      obtain ⟨x, hxx⟩ : ∃ x, s.getD i [] = x := ⟨_, rfl⟩
      rw [hxx] at hmem r1 hin2
      have hx := hg x hmem
      have lx := hx.len
      have x27 := flatF_take27 lx
      have fx := flatF_length x
      have hat := flatF_at (rs := x) (i := v) (by omega)
      have h26 := den26 (x.getD v rz) ((hx.at v).mono (by decide))
      have hco : co x v = (x.getD v rz).q := rfl
      obtain ⟨r, hr⟩ : ∃ r, x.getD v rz = r := ⟨_, rfl⟩
      rw [hr] at hat h26 hco
      unfold Raw.v at h26
      have x24 : List.drop 0 (flatF x) = flatF x := rfl
      simp (dsimp := false) (disch := omega) only [h2, r1, fx, lx, rl, hat, x24, List.length_drop, rules, tys, eq_self, ↓reduceIte, Nat.reduceMul, Nat.reduceLT, Nat.reduceLeDiff]
      repeat refine And.intro (by omega) ?_
      refine GoCall.pure h26 rfl ?_
      simp (dsimp := false) (disch := omega) only [List.append_nil, rules, tys, eq_self, ↓reduceIte]
      refine Br.bneInt ?_ ?_
      · intro h3 h4
        have hR2 : R = true := by
          rw [← hR]
          exact occ_iff.2 ⟨x, hmem, by rw [hco]; exact fun h => h3 (sgq_eq_zero.2 h)⟩
        subst hR2
        simp (dsimp := false) (disch := omega) only [h4, Ap_end_ret, rules]
        exact RetOK.pure rfl ⟨trivial, trivial⟩ rfl
      · intro h3 h4
        simp (dsimp := false) (disch := omega) only [h4, wrap64, rules, tys, eq_self, ↓reduceIte]
        refine Ap_loop (i + 1) (by omega) ?_ ⟨by omega, hin2 (by rw [hco]; exact sgq_eq_zero.1 h3)⟩
        refine Weak.keep [] (by simp) rfl ?_ ?_
        · simp [leVs, leV, le1]
        · simp [leH]
    · intro h1 h2
      have hR2 : R = false := by
        rw [← hR]
        cases ho : occ s v with
        | false => rfl
        | true =>
          obtain ⟨l, hl, h0⟩ := occ_iff.1 ho
          obtain ⟨j, hj, rfl⟩ := mem_getD.1 hl
          exact absurd (hin j (by omega)) h0
      subst hR2
      simp (dsimp := false) (disch := omega) only [h2, Ap_end_ret, rules, Nat.reduceBEq]
      exact RetOK.pure rfl ⟨trivial, trivial⟩ rfl

theorem pd96 (cs : List (List Raw)) (hok : ∀ l ∈ cs, LOk 100000 l) (hn : cs.length ≤ 100000) :
    Den Tryz.prog 96 [] [.fv (.sl (rowsF cs))] [] (if violB cs then .tup [.fv (.sl []), .bool false] else .tup [.fv (.sl (rowsF (sysL cs []))), .bool true]) := by
  have h9 : ∀ l ∈ cs, l.length = 9 := fun l hl => (hok l hl).len
  obtain ⟨n, hnn⟩ : ∃ n, cs.length = n := ⟨_, rfl⟩
  obtain ⟨R, hR⟩ : ∃ R : PV, (if violB cs then .tup [.fv (.sl []), .bool false] else .tup [.fv (.sl (rowsF (sysL cs []))), .bool true]) = R := ⟨_, rfl⟩
  rw [hR]
  have rl := rowsF_length cs
  rw [hnn] at rl hn
  refine den_of tabOk mixed Tryz.func96 (cd := _) rfl (by decide) rfl (n := 67) rfl rfl (m := 0) rfl ?_
  simp (dsimp := false) (disch := omega) only [List.replicate, rules]
  refine WA.loop (α := Nat × List (List Raw)) (fun ⟨i, out⟩ => ⟨[.fv (.sl (rowsF cs)), .any, .nilsl, .bool false, .lsl 0 0 out.length 27, .int .i64 i] ++ List.replicate 62 .any, [.row true (rowsF out)]⟩)
    (fun ⟨i, _⟩ => n - i) (fun ⟨i, out⟩ => i ≤ n ∧ out.length ≤ i ∧ out = sysL (cs.take i) [] ∧ violB (cs.take i) = false) (0, []) ?_ ?_ ?_
  · refine Weak.nil 4 27 (by decide) rfl ?_
    refine Weak.keep [0] (by simp) rfl ?_ ?_
    · simp [leVs, leV, le1]
    · simp [leH, leO]
      rfl
  · exact ⟨Nat.zero_le _, Nat.le_refl _, rfl, rfl⟩
  · rintro ⟨i, out⟩ ⟨hi, hol, hout, hviol⟩
    have hoo : ∀ f ∈ out, LOk 200000 f := fun f hf => by
      have hh := (sysL_is (cs := cs.take i) (fun l hl => h9 l (List.mem_of_mem_take hl))).mem f
      rw [hout] at hf
      obtain ⟨l, hl, _, rfl⟩ := hh.1 hf
      exact (nrmR_ok (hok l (List.mem_of_mem_take hl)) (by decide)).mono (by decide)
    obtain ⟨L, hL⟩ : ∃ L, out.length = L := ⟨_, rfl⟩
    have rlo := rowsF_length out
    rw [hL] at rlo hol
    dsimp only
    rw [hL]
    simp (dsimp := false) (disch := omega) only [List.replicate, rl, rules, tys, eq_self, ↓reduceIte]
    refine Br.dec ?_ ?_
    · intro h1 h2
      have hsn := take_snoc (cs := cs) (i := i) (by omega)
      have hmem := at_mem (ls := cs) (i := i) (by omega)
      have r1 := rowsF_getD cs i
      obtain ⟨x, hxx⟩ : ∃ x, cs.getD i [] = x := ⟨_, rfl⟩
      rw [hxx] at hmem r1 hsn
      have hx := hok x hmem
      have lx := hx.len
      have x27 := flatF_take27 lx
      have fx := flatF_length x
      have gx := flat_length x
      have gx27 := flat_take27 lx
      have hN := pd120 x hx
      change Den Tryz.prog 120 [] [RL x] [] (RL (nrmR x)) at hN
      have hny := nrmR_ok hx (by decide)
      have hnl := nrmR_len lx
      have hcb := nrmR_constB lx
      have hsg := nrmR_sign lx
      have hvs := violB_snoc (cs := cs.take i) (l := x)
      have hss := sysL_snoc (l := x) (cs.take i) []
      rw [← hsn] at hvs hss
      rw [hviol, Bool.false_or] at hvs
      rw [← hout] at hss
      obtain ⟨y, hy⟩ : ∃ y, nrmR x = y := ⟨_, rfl⟩
      rw [hy] at hN hny hnl hcb hsg hss
      have hc := pd76 y (hny.mono (by decide))
      rw [hcb] at hc
      obtain ⟨b, hb⟩ : ∃ b, constB x = b := ⟨_, rfl⟩
      rw [hb] at hc hvs hss
      have gy := flat_length y
      have gy27 := flat_take27 hnl
      have y27 := flatF_take27 hnl
      have fy := flatF_length y
      have hfc := flat_const' hnl
      unfold RL at hN hc
      simp (dsimp := false) (disch := omega) only [h2, r1, x27, flatF_fv, fx, lx, rl, rules, tys, eq_self, ↓reduceIte, Nat.reduceMul, Nat.reduceLT, Nat.reduceLeDiff]
      repeat refine And.intro (by omega) ?_
      refine GoCall.pure hN (by simp [fzAs, fzA, flat_fz, flatF_fv]) ?_
      simp (dsimp := false) (disch := omega) only [flat_ids, flat_reloc, List.append_nil, gy, hnl, gy27, rules, tys, eq_self, ↓reduceIte, Nat.reduceAdd, Nat.reduceMul, Nat.reduceLT, Nat.reduceLeDiff]
      repeat refine And.intro (by omega) ?_
      refine GoCall.pure hc (by simp [fzAs, fzA, flat_fz, flatF_fv]) ?_
      cases b with
      | true =>
        have h36 := den26 (y.getD 8 rz) ((hny.at 8).mono (by decide))
        have hco : co y 8 = (y.getD 8 rz).q := rfl
        obtain ⟨r, hr⟩ : ∃ r, y.getD 8 rz = r := ⟨_, rfl⟩
        rw [hr] at h36 hfc hco
        unfold Raw.v at h36
        simp (dsimp := false) (disch := omega) only [flat_ids, List.append_nil, hfc, gy, hnl, rules, tys, eq_self, ↓reduceIte, Nat.reduceAdd, Nat.reduceMul, Nat.reduceLeDiff]
        repeat refine And.intro (by omega) ?_
        refine GoCall.pure h36 rfl ?_
        simp (dsimp := false) (disch := omega) only [List.append_nil, rules, tys, eq_self, ↓reduceIte, Nat.reduceAdd]
        refine Br.dec ?_ ?_
        · intro h3 h4
          have hv : violB (cs.take (i + 1)) = true := by
            rw [hvs, Bool.true_and, decide_eq_true]
            exact hsg.1.1 (by rw [hco]; exact sgq_neg_iff.1 h3)
          rw [if_pos (violB_of hv)] at hR
          subst hR
          simp (dsimp := false) (disch := omega) only [h4, Ap_end_ret, rules]
          refine RetOK.pure rfl ⟨trivial, trivial, trivial⟩ rfl
        · intro h3 h4
          have hv : violB (cs.take (i + 1)) = false := by
            rw [hvs, Bool.true_and, decide_eq_false]
            exact fun h => h3 (sgq_neg_iff.2 (by rw [← hco]; exact hsg.1.2 h))
          rw [if_pos rfl] at hss
          simp (dsimp := false) (disch := omega) only [h4, wrap64, rules, tys, eq_self, ↓reduceIte, Nat.reduceBEq]
          refine Ap_loop (i + 1, out) (by dsimp only; omega) ?_ ⟨by omega, by rw [hL]; omega, hss.symm, hv⟩
          refine Weak.keep [0] (by simp) rfl ?_ ?_
          · simp [leVs, leV, le1]
            omega
          · simp [leH, leO]
      | false =>
        have hv : violB (cs.take (i + 1)) = false := by rw [hvs]; rfl
        rw [if_neg (by simp)] at hss
        simp (dsimp := false) (disch := omega) only [flat_ids, List.append_nil, rules, Nat.reduceAdd]
        refine WA.loop (α := Nat) (fun j => ⟨[.fv (.sl (rowsF cs)), .any, .nilsl, .bool false, .lsl 0 0 L 27, .int .i64 i, .ptr 1 0 0, .int .i64 j] ++ List.replicate 60 .any, [.row true (rowsF out), .box true (flat y)]⟩)
          (fun j => L - j) (fun j => j ≤ L ∧ ∀ q, q < j → cmpR (out.getD q []) y < 0) 0 ?_ ?_ ?_
        · refine Weak.keep [0, 1] (by simp) rfl ?_ ?_
          · simp [leVs, leV, le1]
          · simp [leH, leO, le_flat]
        · exact ⟨Nat.zero_le _, fun q hq => by omega⟩
        · rintro j ⟨hj, hlt⟩
          simp (dsimp := false) (disch := omega) only [List.replicate, rules]
          refine Draw.intro (by kernel_rfl) ?_
          simp (dsimp := false) (disch := omega) only [rules, tys, eq_self, ↓reduceIte]
          refine Br.dec ?_ ?_
          · intro h3 h4
            have hmem2 := at_mem (ls := out) (i := j) (by omega)
            have r2 := rowsF_getD out j
            have hthere := ins_there (f := y) (out := out) (i := j) (by omega) hlt
            have hnew := ins_new (f := y) (out := out) (i := j) (by omega) hlt
            have hlt2 : cmpR (out.getD j []) y < 0 → ∀ q, q < j + 1 → cmpR (out.getD q []) y < 0 := fun h0 q hq => by
              by_cases hqj : q = j
              · rw [hqj]; exact h0
              · exact hlt q (by omega)
            obtain ⟨a, haa⟩ : ∃ x, out.getD j [] = x := ⟨_, rfl⟩
            rw [haa] at hmem2 r2 hthere hnew hlt2
            have ha := hoo a hmem2
            have la := ha.len
            have a27 := flatF_take27 la
            have fa := flatF_length a
            have h121 := pd121 a y (ha.mono (by decide)) (hny.mono (by decide))
            obtain ⟨c, hcc⟩ : ∃ c, cmpR a y = c := ⟨_, rfl⟩
            rw [hcc] at h121 hthere hnew hlt2
            unfold RL at h121
            simp (dsimp := false) (disch := omega) only [h4, r2, a27, flatF_fv, fa, la, gy27, gy, hnl, rlo, rules, tys, eq_self, ↓reduceIte, Nat.reduceMul, Nat.reduceLeDiff]
            repeat refine And.intro (by omega) ?_
            refine GoCall.pure h121 (by simp [fzAs, fzA, flat_fz, flatF_fv]) ?_
            simp (dsimp := false) (disch := omega) only [flat_ids, List.append_nil, rules, tys, eq_self, ↓reduceIte, Nat.reduceAdd]
            refine Br.dec ?_ ?_
            · intro h5 h6
              simp (dsimp := false) (disch := omega) only [h6, wrap64, rules, tys, eq_self, ↓reduceIte]
              refine Ap_loop (j + 1) (by omega) ?_ ⟨by omega, hlt2 h5⟩
              refine Weak.keep [0, 1] (by simp) rfl ?_ ?_
              · simp [leVs, leV, le1]
              · simp [leH, leO, le_flat]
            · intro h5 h6
              simp (dsimp := false) (disch := omega) only [h6, rules, Nat.reduceBEq]
              refine Draw.intro (by kernel_rfl) ?_
              simp (dsimp := false) (disch := omega) only [h4, r2, a27, flatF_fv, fa, la, gy27, gy, hnl, rlo, rules, tys, eq_self, ↓reduceIte, Nat.reduceMul, Nat.reduceLeDiff]
              repeat refine And.intro (by omega) ?_
              refine GoCall.pure h121 (by simp [fzAs, fzA, flat_fz, flatF_fv]) ?_
              simp (dsimp := false) (disch := omega) only [flat_ids, List.append_nil, rules, tys, eq_self, ↓reduceIte, Nat.reduceAdd]
              refine Br.beqInt ?_ ?_
              · intro h7 h8
                rw [hthere h7] at hss
                simp (dsimp := false) (disch := omega) only [h8, wrap64, rules, tys, eq_self, ↓reduceIte, Nat.reduceBEq]
                refine Ap_loop (i + 1, out) (by dsimp only; omega) ?_ ⟨by omega, by rw [hL]; omega, hss.symm, hv⟩
                refine Weak.keep [0] (by simp) rfl ?_ ?_
                · simp [leVs, leV, le1]
                  omega
                · simp [leH, leO]
              · intro h7 h8
                rw [hnew (by omega)] at hss
                have htk : List.take j (rowsF out) = rowsF (out.take j) := by simp [rowsF]
                have hdr : List.drop j (rowsF out) = rowsF (out.drop j) := by simp [rowsF]
                have htl : (rowsF (out.take j)).length = j := by rw [rowsF_length, List.length_take]; omega
                have htk2 : List.take j (rowsF (out.take j)) = rowsF (out.take j) := List.take_of_length_le (by omega)
                have hap := rows_snoc (out.take j) y
                have htl3 : (rowsF (out.take j ++ [y])).length = j + 1 := by rw [rowsF_length, List.length_append, List.length_take, List.length_singleton]; omega
                have htk3 : List.take (j + 1) (rowsF (out.take j ++ [y])) = rowsF (out.take j ++ [y]) := List.take_of_length_le (by omega)
                have hdl : (rowsF (out.drop j)).length = L - j := by rw [rowsF_length, List.length_drop]; omega
                have htk4 : List.take (L - j) (rowsF (out.drop j)) = rowsF (out.drop j) := List.take_of_length_le (by omega)
                have hap2 : rowsF (out.take j ++ [y]) ++ rowsF (out.drop j) = rowsF (out.take j ++ [y] ++ out.drop j) := by simp [rowsF]
                have hlen2 : (out.take j ++ [y] ++ out.drop j).length = L + 1 := by rw [List.length_append, List.length_append, List.length_take, List.length_drop, List.length_singleton]; omega
                obtain ⟨o2, ho2⟩ : ∃ o, out.take j ++ [y] ++ out.drop j = o := ⟨_, rfl⟩
                rw [ho2] at hss hap2 hlen2
                simp (dsimp := false) (disch := omega) only [flat_ids, flat_fz, List.append_nil, h8, Nat.sub_zero, htk, htl, htk2, gy27, gy, hnl, y27, hap, htl3, htk3, hdr, hdl, htk4, hap2, rlo, wrap64, rules, tys, eq_self, ↓reduceIte, Nat.reduceAdd, Nat.reduceMul, Nat.reduceBEq, Nat.reduceLT, Nat.reduceLeDiff]
                repeat refine And.intro (by omega) ?_
                refine Ap_loop (i + 1, o2) (by dsimp only; omega) ?_ ⟨by omega, by dsimp only; omega, hss.symm, hv⟩
                refine Weak.keep [5] (by simp) rfl ?_ ?_
                · simp [leVs, leV, le1]
                  omega
                · simp [leH, leO]
          · intro h3 h4
            have hjL : j = L := by omega
            have hss2 : ins y out = out.take j ++ [y] ++ out.drop j := by
              rw [ins_end (fun q hq => hlt q (by omega)), List.take_of_length_le (by omega), List.drop_of_length_le (by omega), List.append_nil]
            rw [hss2] at hss
            have h6b := h4
            simp (dsimp := false) (disch := omega) only [h4, rules, ↓reduceIte, Nat.reduceBEq]
            refine Draw.intro (by kernel_rfl) ?_
            have htk : List.take j (rowsF out) = rowsF (out.take j) := by simp [rowsF]
            have hdr : List.drop j (rowsF out) = rowsF (out.drop j) := by simp [rowsF]
            have htl : (rowsF (out.take j)).length = j := by rw [rowsF_length, List.length_take]; omega
            have htk2 : List.take j (rowsF (out.take j)) = rowsF (out.take j) := List.take_of_length_le (by omega)
            have hap := rows_snoc (out.take j) y
            have htl3 : (rowsF (out.take j ++ [y])).length = j + 1 := by rw [rowsF_length, List.length_append, List.length_take, List.length_singleton]; omega
            have htk3 : List.take (j + 1) (rowsF (out.take j ++ [y])) = rowsF (out.take j ++ [y]) := List.take_of_length_le (by omega)
            have hdl : (rowsF (out.drop j)).length = L - j := by rw [rowsF_length, List.length_drop]; omega
            have htk4 : List.take (L - j) (rowsF (out.drop j)) = rowsF (out.drop j) := List.take_of_length_le (by omega)
            have hap2 : rowsF (out.take j ++ [y]) ++ rowsF (out.drop j) = rowsF (out.take j ++ [y] ++ out.drop j) := by simp [rowsF]
            have hlen2 : (out.take j ++ [y] ++ out.drop j).length = L + 1 := by rw [List.length_append, List.length_append, List.length_take, List.length_drop, List.length_singleton]; omega
            obtain ⟨o2, ho2⟩ : ∃ o, out.take j ++ [y] ++ out.drop j = o := ⟨_, rfl⟩
            rw [ho2] at hss hap2 hlen2
            simp (dsimp := false) (disch := omega) only [flat_ids, flat_fz, List.append_nil, h6b, Nat.sub_zero, htk, htl, htk2, gy27, gy, hnl, y27, hap, htl3, htk3, hdr, hdl, htk4, hap2, rlo, wrap64, rules, tys, eq_self, ↓reduceIte, Nat.reduceAdd, Nat.reduceMul, Nat.reduceBEq, Nat.reduceLT, Nat.reduceLeDiff]
            repeat refine And.intro (by omega) ?_
            refine Ap_loop (i + 1, o2) (by dsimp only; omega) ?_ ⟨by omega, by dsimp only; omega, hss.symm, hv⟩
            refine Weak.keep [5] (by simp) rfl ?_ ?_
            · simp [leVs, leV, le1]
              omega
            · simp [leH, leO]
    · intro h1 h2
      have hin : i = n := by omega
      have htk : cs.take i = cs := List.take_of_length_le (by omega)
      rw [htk] at hout hviol
      rw [hviol, if_neg (by simp), ← hout] at hR
      have htk2 := take_rows (ls := out) (n := L) (by omega)
      subst hR
      simp (dsimp := false) (disch := omega) only [h2, Ap_end_ret, rules, Nat.reduceBEq]
      refine RetOK.pure (vs := [.lsl 0 0 L 27, .bool true]) rfl ⟨trivial, trivial, trivial⟩ ?_
      simp (disch := omega) only [htk2, rlo, List.drop_zero, Nat.zero_add, Nat.le_refl, ↓reduceIte, List.idxOf?_nil, fzX, oneRes, fzV, fzVs, fzC, fz1, fz0, Option.map_some, List.getElem?_cons_zero]
end Go.Proofs.YtddnnhlcpffbdaaGreat

namespace Go.Proofs.YtddnnhlcpffbdaaGreat
open Go.AM Go.Pl
set_option maxRecDepth 100000
set_option maxHeartbeats 4000000

theorem cn_map {l : List Raw} (h : IsCn l) : (l.map Raw.q).map cn = l := by
  obtain ⟨qs, rfl, _⟩ := h
  rw [map_cn_q]
def combR (lo hi : List (List Raw)) : List (List Raw) := lo.flatMap fun l => hi.map fun u => comb u l
theorem combR_snoc {hi lo : List (List Raw)} {l : List Raw} : combR (lo ++ [l]) hi = combR lo hi ++ hi.map (fun u => comb u l) := by simp [combR]
theorem combR_len (lo hi : List (List Raw)) : (combR lo hi).length = lo.length * hi.length := by unfold combR; rw [flat_length' (fun l u => comb u l)]

theorem pd99 (s : List (List Raw)) (v : Nat) (hv : v < 8) (hcn : ∀ l ∈ s, IsCn l) (hlim : ∀ l ∈ s, LOk 1000 l) (hn : s.length ≤ 100) :
    Den Tryz.prog 99 [] [.fv (.sl (rowsF s)), .int .i64 v] [] (.fv (.sl (rowsF (outR s v)))) := by
  have h9 : ∀ l ∈ s, l.length = 9 := fun l hl => (hlim l hl).len
  have hlow : ∀ b ∈ lowL s v, LOk 2001 b := low_ok hlim (by decide)
  have hhigh : ∀ b ∈ highL s v, LOk 2001 b := high_ok hlim (by decide)
  have hsplit := split_length s v
  obtain ⟨n, hnn⟩ : ∃ n, s.length = n := ⟨_, rfl⟩
  have rl := rowsF_length s
  rw [hnn] at rl hn hsplit
  obtain ⟨R, hR⟩ : ∃ R, outR s v = R := ⟨_, rfl⟩
  rw [hR]
  refine den_of tabOk mixed Tryz.func99 (cd := _) rfl (by decide) rfl (n := 69) rfl rfl (m := 0) rfl ?_
  simp (dsimp := false) (disch := omega) only [List.replicate, rules]
  refine WA.loop (α := Nat × List (List Raw) × List (List Raw) × List (List Raw)) (fun ⟨i, lo, hi, out⟩ => ⟨[.fv (.sl (rowsF s)), .int .i64 v, .any, .any, .nilsl, .lsl 2 0 out.length 27, .lsl 0 0 lo.length 27, .lsl 1 0 hi.length 27, .int .i64 i] ++ List.replicate 62 .any, [.row true (rowsF lo), .row true (rowsF hi), .row true (rowsF out)]⟩)
    (fun ⟨i, _⟩ => n - i) (fun ⟨i, lo, hi, out⟩ => i ≤ n ∧ lo = lowL (s.take i) v ∧ hi = highL (s.take i) v ∧ out = restL (s.take i) v) (0, [], [], []) ?_ ?_ ?_
  · refine Weak.nil 6 27 (by decide) rfl ?_
    refine Weak.nil 7 27 (by decide) rfl ?_
    refine Weak.nil 5 27 (by decide) rfl ?_
    refine Weak.keep [0, 1, 2] (by simp) rfl ?_ ?_
    · simp [leVs, leV, le1]
    · simp [leH, leO]
      simp [rowsF]
  · exact ⟨Nat.zero_le _, rfl, rfl, rfl⟩
  · rintro ⟨i, lo, hi, out⟩ ⟨hi1, hlo, hhi, hout⟩
    have hsz := split_length (s.take i) v
    rw [← hlo, ← hhi, ← hout, List.length_take, hnn] at hsz
    obtain ⟨L1, hL1⟩ : ∃ L, lo.length = L := ⟨_, rfl⟩
    obtain ⟨L2, hL2⟩ : ∃ L, hi.length = L := ⟨_, rfl⟩
    obtain ⟨L3, hL3⟩ : ∃ L, out.length = L := ⟨_, rfl⟩
    have rl1 := rowsF_length lo
    have rl2 := rowsF_length hi
    have rl3 := rowsF_length out
    dsimp only
    rw [hL1] at hsz rl1 ⊢
    rw [hL2] at hsz rl2 ⊢
    rw [hL3] at hsz rl3 ⊢
    have tk1 := take_rows (ls := lo) (n := L1) (by omega)
    have tk2 := take_rows (ls := hi) (n := L2) (by omega)
    have tk3 := take_rows (ls := out) (n := L3) (by omega)
    simp (dsimp := false) (disch := omega) only [List.replicate, rl, rules, tys, eq_self, ↓reduceIte]
    refine Br.dec ?_ ?_
    · intro h1 h2
      have hsn := take_snoc (cs := s) (i := i) (by omega)
      have hmem := at_mem (ls := s) (i := i) (by omega)
      have r1 := rowsF_getD s i
      obtain ⟨x, hxx⟩ : ∃ x, s.getD i [] = x := ⟨_, rfl⟩
      rw [hxx] at hmem r1 hsn
      have hx := hlim x hmem
      have lx := hx.len
      have x27 := flatF_take27 lx
      have fx := flatF_length x
      have gx := flat_length x
      have gx27 := flat_take27 lx
      by_cases h0 : co x v = 0
      · have h16 := den48n x v hx hv h0
        have hls := lowL_not (s := s.take i) (v := v) (x := x) (by grind)
        have hhs := highL_not (s := s.take i) (v := v) (x := x) (by grind)
        have hrs := restL_zero (s := s.take i) h0
        have hap := rows_snoc out x
        unfold FL at h16
        rw [cn_map (hcn x hmem)] at h16
        unfold RL at h16
        have e1 : ((0 : Int) == 1) = false := rfl
        have e2 : ((0 : Int) == -1) = false := rfl
        simp (dsimp := false) (disch := omega) only [h2, r1, x27, flatF_fv, fx, lx, rl, rules, tys, eq_self, ↓reduceIte, Nat.reduceMul, Nat.reduceLT, Nat.reduceLeDiff]
        repeat refine And.intro (by omega) ?_
        refine GoCall.pure h16 (by simp [fzAs, fzA, flat_fz, flatF_fv, fz1, fz0]) ?_
        simp (dsimp := false) (disch := omega) only [flat_ids, flat_reloc, flat_fz, List.append_nil, e1, e2, gx, lx, gx27, x27, tk3, hap, rl3, wrap64, rules, tys, eq_self, ↓reduceIte, Nat.reduceAdd, Nat.reduceMul, Nat.reduceBEq, Nat.reduceLT, Nat.reduceLeDiff]
        repeat refine And.intro (by omega) ?_
        refine Ap_loop (i + 1, lo, hi, out ++ [x]) (by dsimp only; omega) ?_ ⟨by omega, by rw [hsn, hls, hlo], by rw [hsn, hhs, hhi], by rw [hsn, hrs, hout]⟩
        refine Weak.keep [0, 1, 5] (by simp) rfl ?_ ?_
        · simp [leVs, leV, le1]
          omega
        · simp [leH, leO]
      · have h16 := den48 x v hx hv h0
        have hsl : (solR v x).length = 9 := solR_len lx
        have hrs := restL_not (s := s.take i) h0
        unfold FL RL at h16
        change Den Tryz.prog 53 [] [.agg (flat x), .int .i64 v] [] (.tup [.agg (flat (solR v x)), .int .i64 (sgq (x.getD v rz).q)]) at h16
        by_cases hp : 0 < co x v
        · have hls := lowL_pos (s := s.take i) hp
          have hhs := highL_not (s := s.take i) (v := v) (x := x) (by grind)
          have hap := rows_snoc lo (solR v x)
          obtain ⟨y, hy⟩ : ∃ y, solR v x = y := ⟨_, rfl⟩
          rw [hy] at h16 hsl hls hap
          have gy := flat_length y
          have y27 := flatF_take27 hsl
          have gy27 := flat_take27 hsl
          rw [show sgq (x.getD v rz).q = 1 from sgq_of_pos hp] at h16
          have e1 : ((1 : Int) == 1) = true := rfl
          simp (dsimp := false) (disch := omega) only [h2, r1, x27, flatF_fv, fx, lx, rl, rules, tys, eq_self, ↓reduceIte, Nat.reduceMul, Nat.reduceLT, Nat.reduceLeDiff]
          repeat refine And.intro (by omega) ?_
          refine GoCall.pure h16 (by simp [fzAs, fzA, flat_fz, flatF_fv, fz1, fz0]) ?_
          simp (dsimp := false) (disch := omega) only [flat_ids, flat_reloc, flat_fz, List.append_nil, gy, hsl, e1, gy27, y27, tk1, hap, rl1, wrap64, rules, tys, eq_self, ↓reduceIte, Nat.reduceAdd, Nat.reduceMul, Nat.reduceBEq, Nat.reduceLT, Nat.reduceLeDiff]
          repeat refine And.intro (by omega) ?_
          refine Ap_loop (i + 1, lo ++ [y], hi, out) (by dsimp only; omega) ?_ ⟨by omega, by rw [hsn, hls, hlo], by rw [hsn, hhs, hhi], by rw [hsn, hrs, hout]⟩
          refine Weak.keep [5, 1, 2] (by simp) rfl ?_ ?_
          · simp [leVs, leV, le1]
            omega
          · simp [leH, leO]
        · have hneg : co x v < 0 := by grind
          have hls := lowL_not (s := s.take i) (v := v) (x := x) hp
          have hhs := highL_neg (s := s.take i) hneg
          have hap := rows_snoc hi (solR v x)
          obtain ⟨y, hy⟩ : ∃ y, solR v x = y := ⟨_, rfl⟩
          rw [hy] at h16 hsl hhs hap
          have gy := flat_length y
          have y27 := flatF_take27 hsl
          have gy27 := flat_take27 hsl
          rw [show sgq (x.getD v rz).q = -1 from sgq_of_neg hneg] at h16
          have e1 : ((-1 : Int) == 1) = false := rfl
          have e2 : ((-1 : Int) == -1) = true := rfl
          simp (dsimp := false) (disch := omega) only [h2, r1, x27, flatF_fv, fx, lx, rl, rules, tys, eq_self, ↓reduceIte, Nat.reduceMul, Nat.reduceLT, Nat.reduceLeDiff]
          repeat refine And.intro (by omega) ?_
          refine GoCall.pure h16 (by simp [fzAs, fzA, flat_fz, flatF_fv, fz1, fz0]) ?_
          simp (dsimp := false) (disch := omega) only [flat_ids, flat_reloc, flat_fz, List.append_nil, gy, hsl, e1, e2, gy27, y27, tk2, hap, rl2, wrap64, rules, tys, eq_self, ↓reduceIte, Nat.reduceAdd, Nat.reduceMul, Nat.reduceBEq, Nat.reduceLT, Nat.reduceLeDiff]
          repeat refine And.intro (by omega) ?_
          refine Ap_loop (i + 1, lo, hi ++ [y], out) (by dsimp only; omega) ?_ ⟨by omega, by rw [hsn, hls, hlo], by rw [hsn, hhs, hhi], by rw [hsn, hrs, hout]⟩
          refine Weak.keep [0, 5, 2] (by simp) rfl ?_ ?_
          · simp [leVs, leV, le1]
            omega
          · simp [leH, leO]
    · intro h1 h2
      have hin : i = n := by omega
      have htk : s.take i = s := List.take_of_length_le (by omega)
      rw [htk] at hlo hhi hout
      have hfin : R = out ++ combR lo hi := by rw [← hR, hlo, hhi, hout]; rfl
      have hlo2 : ∀ b ∈ lo, LOk 2001 b := by rw [hlo]; exact hlow
      have hhi2 : ∀ b ∈ hi, LOk 2001 b := by rw [hhi]; exact hhigh
      have hmul : L1 * L2 ≤ 10000 := Nat.mul_le_mul (show L1 ≤ 100 by omega) (show L2 ≤ 100 by omega)
      clear hlo hhi hout
      simp (dsimp := false) (disch := omega) only [h2, rules, Nat.reduceBEq]
      refine WA.loop (α := Nat × List (List Raw)) (fun ⟨j, out2⟩ => ⟨[.fv (.sl (rowsF s)), .int .i64 v, .any, .any, .nilsl, .lsl 2 0 out2.length 27, .lsl 0 0 L1 27, .lsl 1 0 L2 27, .any, .any, .any, .int .i64 j] ++ List.replicate 59 .any, [.row true (rowsF lo), .row true (rowsF hi), .row true (rowsF out2)]⟩)
        (fun ⟨j, _⟩ => L1 - j) (fun ⟨j, out2⟩ => j ≤ L1 ∧ out2 = out ++ combR (lo.take j) hi) (0, out) ?_ ?_ ?_
      · refine Weak.keep [0, 1, 2] (by simp) rfl ?_ ?_
        · simp [leVs, leV, le1]
          omega
        · simp [leH, leO]
      · exact ⟨Nat.zero_le _, by simp [combR]⟩
      · rintro ⟨j, out2⟩ ⟨hj, ho2⟩
        obtain ⟨M, hM⟩ : ∃ L, out2.length = L := ⟨_, rfl⟩
        dsimp only
        rw [hM]
        simp (dsimp := false) (disch := omega) only [List.replicate, rules, tys, eq_self, ↓reduceIte]
        refine Br.dec ?_ ?_
        · intro h3 h4
          have hsn := take_snoc (cs := lo) (i := j) (by omega)
          have hmem := at_mem (ls := lo) (i := j) (by omega)
          have r1 := rowsF_getD lo j
          obtain ⟨l, hll⟩ : ∃ x, lo.getD j [] = x := ⟨_, rfl⟩
          rw [hll] at hmem r1 hsn
          have hl := hlo2 l hmem
          have ll := hl.len
          have l27 := flatF_take27 ll
          have fl := flatF_length l
          have gl := flat_length l
          have gl27 := flat_take27 ll
          simp (dsimp := false) (disch := omega) only [h4, rules]
          refine WA.loop (α := Nat × List (List Raw)) (fun ⟨q, out3⟩ => ⟨[.fv (.sl (rowsF s)), .int .i64 v, .any, .any, .nilsl, .lsl 2 0 out3.length 27, .lsl 0 0 L1 27, .lsl 1 0 L2 27, .any, .any, .any, .int .i64 j, .int .i64 q] ++ List.replicate 58 .any, [.row true (rowsF lo), .row true (rowsF hi), .row true (rowsF out3)]⟩)
            (fun ⟨q, _⟩ => L2 - q) (fun ⟨q, out3⟩ => q ≤ L2 ∧ out3 = out2 ++ (hi.take q).map (fun u => comb u l)) (0, out2) ?_ ?_ ?_
          · refine Weak.keep [0, 1, 2] (by simp) rfl ?_ ?_
            · simp [leVs, leV, le1]
              omega
            · simp [leH, leO]
          · exact ⟨Nat.zero_le _, by simp⟩
          · rintro ⟨q, out3⟩ ⟨hq, ho3⟩
            have hM3 : out3.length ≤ 10200 := by
              have e1 : out3.length = out2.length + q := by rw [ho3]; simp; omega
              have e2 : out2.length = L3 + (lo.take j).length * hi.length := by
                rw [ho2, List.length_append, hL3, combR_len]
              have e4 : (lo.take j).length = j := by rw [List.length_take]; omega
              rw [e4, hL2] at e2
              have e5 : (j + 1) * L2 ≤ L1 * L2 := Nat.mul_le_mul_right _ (by omega)
              rw [Nat.add_mul] at e5
              omega
            obtain ⟨M3, hM3e⟩ : ∃ L, out3.length = L := ⟨_, rfl⟩
            have rl4 := rowsF_length out3
            rw [hM3e] at hM3 rl4
            dsimp only
            rw [hM3e]
            simp (dsimp := false) (disch := omega) only [List.replicate, rules, tys, eq_self, ↓reduceIte]
            refine Br.dec ?_ ?_
            · intro h5 h6
              have hsn3 := take_snoc (cs := hi) (i := q) (by omega)
              have hmem3 := at_mem (ls := hi) (i := q) (by omega)
              have r3 := rowsF_getD hi q
              obtain ⟨u, huu⟩ : ∃ x, hi.getD q [] = x := ⟨_, rfl⟩
              rw [huu] at hmem3 r3 hsn3
              have hu := hhi2 u hmem3
              have lu := hu.len
              have u27 := flatF_take27 lu
              have fu := flatF_length u
              have gu := flat_length u
              have gu27 := flat_take27 lu
              have h57 := pd57 l (hl.mono (by decide))
              have h56 := den74 u (negR l) (hu.mono (by decide)) ((negR_ok hl (by decide)).mono (by decide))
              change Den Tryz.prog 56 [] [RL u, RL (negR l)] [] (RL (comb u l)) at h56
              have hnl := negR_len ll
              have hcl := comb_len lu ll
              have hap := rows_snoc out3 (comb u l)
              have hmp : (hi.take (q + 1)).map (fun u => comb u l) = (hi.take q).map (fun u => comb u l) ++ [comb u l] := by rw [hsn3, List.map_append]; rfl
              obtain ⟨nl, hnle⟩ : ∃ x, negR l = x := ⟨_, rfl⟩
              obtain ⟨d, hd⟩ : ∃ x, comb u l = x := ⟨_, rfl⟩
              rw [hnle] at h57 h56 hnl
              rw [hd] at h56 hcl hap hmp
              have gnl := flat_length nl
              have gd := flat_length d
              have gd27 := flat_take27 hcl
              have d27 := flatF_take27 hcl
              have tk3 := take_rows (ls := out3) (n := M3) (by omega)
              unfold RL at h57 h56
              simp (dsimp := false) (disch := omega) only [h6, rules]
              refine Draw.intro (by kernel_rfl) ?_
              simp (dsimp := false) (disch := omega) only [r1, l27, flatF_fv, fl, ll, r3, u27, fu, lu, rl1, rl2, rules, tys, eq_self, ↓reduceIte, Nat.reduceMul, Nat.reduceLeDiff]
              repeat refine And.intro (by omega) ?_
              refine GoCall.pure h57 (by simp [fzAs, fzA, flat_fz, flatF_fv]) ?_
              simp (dsimp := false) (disch := omega) only [flat_ids, flat_reloc, List.append_nil, rules, Nat.reduceAdd]
              repeat refine And.intro (by omega) ?_
              refine GoCall.pure h56 (by simp [fzAs, fzA, flat_fz, flatF_fv]) ?_
              simp (dsimp := false) (disch := omega) only [flat_ids, flat_reloc, flat_fz, List.append_nil, gd, hcl, d27, tk3, hap, rl4, wrap64, rules, tys, eq_self, ↓reduceIte, Nat.reduceAdd, Nat.reduceMul, Nat.reduceBEq, Nat.reduceLT, Nat.reduceLeDiff]
              repeat refine And.intro (by omega) ?_
              refine Ap_loop (q + 1, out3 ++ [d]) (by dsimp only; omega) ?_ ⟨by omega, by rw [hmp, ho3, List.append_assoc]⟩
              refine Weak.keep [0, 1, 4] (by simp) rfl ?_ ?_
              · simp [leVs, leV, le1]
                omega
              · simp [leH, leO]
            · intro h5 h6
              have hqe : q = L2 := by omega
              have htk3 : hi.take q = hi := List.take_of_length_le (by omega)
              rw [htk3] at ho3
              simp (dsimp := false) (disch := omega) only [h6, wrap64, rules, tys, eq_self, ↓reduceIte, Nat.reduceBEq]
              refine Ap_loop (j + 1, out3) (by dsimp only; omega) ?_ ⟨by omega, by rw [hsn, combR_snoc, ho3, ho2, List.append_assoc]⟩
              refine Weak.keep [0, 1, 2] (by simp) rfl ?_ ?_
              · simp [leVs, leV, le1]
                omega
              · simp [leH, leO]
        · intro h3 h4
          have htk2 : lo.take j = lo := List.take_of_length_le (by omega)
          rw [htk2, ← hfin] at ho2
          subst ho2
          have rl5 := rowsF_length out2
          have tk5 := take_rows (ls := out2) (n := M) (by omega)
          rw [hM] at rl5
          simp (dsimp := false) (disch := omega) only [h4, Ap_end_ret, rules, Nat.reduceBEq]
          refine RetOK.pure (vs := [.lsl 2 0 M 27]) rfl ⟨trivial, trivial⟩ ?_
          simp (disch := omega) only [tk5, rl5, List.drop_zero, Nat.zero_add, Nat.le_refl, ↓reduceIte, List.idxOf?_nil, fzX, oneRes, fzV, fzC, fz1, fz0, Option.map_some, List.getElem?_cons_zero, List.getElem?_cons_succ]

theorem pd97r (cs0 : List (List Raw)) (hp0 : PreR cs0) : Den Tryz.prog 97 [] [.fv (.sl (rowsF cs0))] [] (.bool (feasB (sysL cs0 []))) := by
  obtain ⟨R, hR⟩ : ∃ R, feasB (sysL cs0 []) = R := ⟨_, rfl⟩
  rw [hR]
  refine den_of tabOk mixed Tryz.func97 (cd := _) rfl (by decide) rfl (n := 44) rfl rfl (m := 0) rfl ?_
  simp (dsimp := false) (disch := omega) only [List.replicate, rules]
  refine WA.loop (α := Nat × List (List Raw)) (fun ⟨v, cs⟩ => ⟨[.fv (.sl (rowsF cs)), .any, .bool false, .int .i64 v] ++ List.replicate 41 .any, []⟩)
    (fun ⟨v, _⟩ => 8 - v) (fun ⟨v, cs⟩ => v ≤ 8 ∧ PreR cs ∧ feasB (sysL cs []) = R ∧ ∀ w, w < v → occ cs w = false) (0, cs0) ?_ ?_ ?_
  · refine Weak.keep [] (by simp) rfl ?_ ?_
    · simp [leVs, leV, le1]
    · simp [leH]
  · exact ⟨Nat.zero_le _, hp0, hR, fun w hw => by omega⟩
  · rintro ⟨v, cs⟩ ⟨hv8, hp, hf, hocc⟩
    have h9 : ∀ l ∈ cs, l.length = 9 := fun l hl => (hp.ok l hl).len
    have hclen := hp.len
    simp (dsimp := false) (disch := omega) only [List.replicate, rules, tys, eq_self, ↓reduceIte]
    refine Br.dec ?_ ?_
    · intro h1 h2
      have hv : v < 8 := by omega
      have h122 := pd122 cs v hv (fun l hl => (hp.ok l hl).mono (by decide)) (by omega)
      obtain ⟨o, ho⟩ : ∃ o, occ cs v = o := ⟨_, rfl⟩
      rw [ho] at h122
      cases o with
      | false =>
        simp (dsimp := false) (disch := omega) only [h2, rules]
        refine GoCall.pure h122 rfl ?_
        simp (dsimp := false) (disch := omega) only [Bool.not_false, wrap64, rules, tys, eq_self, ↓reduceIte, Nat.reduceBEq]
        refine Ap_loop (v + 1, cs) (by dsimp only; omega) ?_ ⟨by omega, hp, hf, fun w hw => by
          by_cases hwv : w = v
          · rw [hwv]; exact ho
          · exact hocc w (by omega)⟩
        refine Weak.keep [] (by simp) rfl ?_ ?_
        · simp [leVs, leV, le1]
        · simp [leH]
      | true =>
        have h99 := pd99 cs v hv hp.cnf hp.ok (by omega)
        have his := sysL_is h9
        have hg := hp.good
        obtain ⟨s, hs⟩ : ∃ s, sysL cs [] = s := ⟨_, rfl⟩
        rw [hs] at his hg hf
        have hos := out_sys hv h9 hp.nc his
        have hbs := bad_sys hv h9 hp.nc his
        have hol : ∀ x ∈ outR cs v, LOk 4004 x := fun x hx => out_ok hp.ok (by decide) x (mem_outR.1 hx)
        have hlen : (outR cs v).length ≤ 2000 := by
          have e1 := split_length cs v
          have e2 : (outR cs v).length = (restL cs v).length + (lowL cs v).length * (highL cs v).length := by
            unfold outR
            rw [List.length_append, flat_length' (fun l u => comb u l)]
          have e3 : (lowL cs v).length * (highL cs v).length ≤ 37 * 37 := Nat.mul_le_mul (by omega) (by omega)
          omega
        have hbadc : ∀ x ∈ outR cs v, IsConst x → co x 8 ≤ 0 → feasB s = false := by
          intro x hx hc h0
          have hb : Bad s v := by
            rw [hbs]
            rcases mem_out.1 (mem_outR.1 hx) with ⟨h3, _⟩ | ⟨l, hl, u, hu, h3, h4, rfl⟩
            · exact absurd hc (hp.nc x h3)
            · exact ⟨_, mem_high.2 ⟨u, hu, h4, rfl⟩, _, mem_low.2 ⟨l, hl, h3, rfl⟩, hc, h0⟩
          exact hg.bad hv ((badB_iff hg.len9).2 hb)
        obtain ⟨cc, hcc⟩ : ∃ c, outR cs v = c := ⟨_, rfl⟩
        rw [hcc] at h99 hos hol hlen hbadc
        have h9c : ∀ x ∈ cc, x.length = 9 := fun x hx => (hol x hx).len
        obtain ⟨n, hnn⟩ : ∃ n, cc.length = n := ⟨_, rfl⟩
        have rl := rowsF_length cc
        rw [hnn] at rl hlen
        simp (dsimp := false) (disch := omega) only [h2, rules]
        refine GoCall.pure h122 rfl ?_
        simp (dsimp := false) (disch := omega) only [Bool.not_true, rules]
        refine GoCall.pure h99 rfl ?_
        simp (dsimp := false) (disch := omega) only [rules]
        refine WA.loop (α := Nat × List (List Raw)) (fun ⟨i, kept⟩ => ⟨[.fv (.sl (rowsF cc)), .any, .bool false, .int .i64 v, .lsl 0 0 kept.length 27, .int .i64 i] ++ List.replicate 39 .any, [.row true (rowsF kept)]⟩)
          (fun ⟨i, _⟩ => n - i) (fun ⟨i, kept⟩ => i ≤ n ∧ kept = outS (cc.take i) ∧ ∀ j, j < i → IsConst (cc.getD j []) → 0 < co (cc.getD j []) 8) (0, []) ?_ ?_ ?_
        · refine Weak.nil 4 27 (by decide) rfl ?_
          refine Weak.keep [0] (by simp) rfl ?_ ?_
          · simp [leVs, leV, le1]
          · simp [leH, leO]
            rfl
        · exact ⟨Nat.zero_le _, rfl, fun j hj => by omega⟩
        · rintro ⟨i, kept⟩ ⟨hi, hk, hcon⟩
          have hkl : kept.length ≤ 2000 := by
            have e1 := outS_len (cs := cc) (i := i)
            have e2 : (ncs cc).length ≤ cc.length := List.length_filter_le _ _
            rw [hk]; omega
          obtain ⟨K, hK⟩ : ∃ K, kept.length = K := ⟨_, rfl⟩
          have rlk := rowsF_length kept
          rw [hK] at rlk hkl
          dsimp only
          rw [hK]
          simp (dsimp := false) (disch := omega) only [List.replicate, rl, rules, tys, eq_self, ↓reduceIte]
          refine Br.dec ?_ ?_
          · intro h3 h4
            have hsn := take_snoc (cs := cc) (i := i) (by omega)
            have hmem := at_mem (ls := cc) (i := i) (by omega)
            have r1 := rowsF_getD cc i
            have hcon2 : (IsConst (cc.getD i []) → 0 < co (cc.getD i []) 8) → ∀ j, j < i + 1 → IsConst (cc.getD j []) → 0 < co (cc.getD j []) 8 := fun h0 j hj => by
              by_cases hji : j = i
              · rw [hji]; exact h0
              · exact hcon j (by omega)
            obtain ⟨x, hxx⟩ : ∃ x, cc.getD i [] = x := ⟨_, rfl⟩
            rw [hxx] at hmem r1 hsn hcon2
            have hx := hol x hmem
            have lx := hx.len
            have x27 := flatF_take27 lx
            have fx := flatF_length x
            have gx := flat_length x
            have gx27 := flat_take27 lx
            have hN := pd120 x (hx.mono (by decide))
            change Den Tryz.prog 120 [] [RL x] [] (RL (nrmR x)) at hN
            have hny := nrmR_ok hx (by decide)
            have hnl := nrmR_len lx
            have hcb := nrmR_constB lx
            have hsg := nrmR_sign lx
            have hosn := fun h => outS_snoc (cs := cc.take i) (l := x) h
            have hosc := fun h => outS_snoc_c (cs := cc.take i) (l := x) h
            obtain ⟨y, hy⟩ : ∃ y, nrmR x = y := ⟨_, rfl⟩
            rw [hy] at hN hny hnl hcb hsg hosn
            have hc := pd76 y (hny.mono (by decide))
            rw [hcb] at hc
            obtain ⟨b, hb⟩ : ∃ b, constB x = b := ⟨_, rfl⟩
            rw [hb] at hc hosn hosc
            have gy := flat_length y
            have gy27 := flat_take27 hnl
            have y27 := flatF_take27 hnl
            have hfc := flat_const' hnl
            have tkk := take_rows (ls := kept) (n := K) (by omega)
            have hap := rows_snoc kept y
            unfold RL at hN hc
            simp (dsimp := false) (disch := omega) only [h4, r1, x27, flatF_fv, fx, lx, rl, rules, tys, eq_self, ↓reduceIte, Nat.reduceMul, Nat.reduceLT, Nat.reduceLeDiff]
            repeat refine And.intro (by omega) ?_
            refine GoCall.pure hN (by simp [fzAs, fzA, flat_fz, flatF_fv]) ?_
            simp (dsimp := false) (disch := omega) only [flat_ids, flat_reloc, List.append_nil, gy, hnl, gy27, rules, tys, eq_self, ↓reduceIte, Nat.reduceAdd, Nat.reduceMul, Nat.reduceLT, Nat.reduceLeDiff]
            repeat refine And.intro (by omega) ?_
            refine GoCall.pure hc (by simp [fzAs, fzA, flat_fz, flatF_fv]) ?_
            cases b with
            | false =>
              have hnc : ¬ IsConst x := fun h => by rw [(constB_iff lx).2 h] at hb; cases hb
              simp (dsimp := false) (disch := omega) only [flat_ids, flat_fz, List.append_nil, Bool.not_false, gy, hnl, gy27, y27, tkk, hap, rlk, wrap64, rules, tys, eq_self, ↓reduceIte, Nat.reduceAdd, Nat.reduceMul, Nat.reduceBEq, Nat.reduceLT, Nat.reduceLeDiff]
              repeat refine And.intro (by omega) ?_
              refine Ap_loop (i + 1, kept ++ [y]) (by dsimp only; omega) ?_ ⟨by omega, by rw [hsn, hosn rfl, hk], hcon2 (fun h => absurd h hnc)⟩
              refine Weak.keep [3] (by simp) rfl ?_ ?_
              · simp [leVs, leV, le1]
                omega
              · simp [leH, leO]
            | true =>
              have hic : IsConst x := (constB_iff lx).1 hb
              have h36 := den26 (y.getD 8 rz) ((hny.at 8).mono (by decide))
              have hco : co y 8 = (y.getD 8 rz).q := rfl
              obtain ⟨r, hr⟩ : ∃ r, y.getD 8 rz = r := ⟨_, rfl⟩
              rw [hr] at h36 hfc hco
              unfold Raw.v at h36
              have hle : sgq r.q ≤ 0 ↔ co x 8 ≤ 0 := by
                rw [← hsg.2, hco]
                have := @sgq_pos_iff r.q
                grind
              simp (dsimp := false) (disch := omega) only [flat_ids, List.append_nil, Bool.not_true, hfc, gy, hnl, rules, tys, eq_self, ↓reduceIte, Nat.reduceAdd, Nat.reduceMul, Nat.reduceLeDiff]
              repeat refine And.intro (by omega) ?_
              refine GoCall.pure h36 rfl ?_
              simp (dsimp := false) (disch := omega) only [List.append_nil, rules, tys, eq_self, ↓reduceIte, Nat.reduceAdd]
              refine Br.dec ?_ ?_
              · intro h5 h6
                have hR2 : R = false := by rw [← hf]; exact hbadc x hmem hic (hle.1 h5)
                subst hR2
                simp (dsimp := false) (disch := omega) only [h6, Ap_end_ret, rules]
                exact RetOK.pure rfl ⟨trivial, trivial⟩ rfl
              · intro h5 h6
                simp (dsimp := false) (disch := omega) only [h6, wrap64, rules, tys, eq_self, ↓reduceIte]
                refine Ap_loop (i + 1, kept) (by dsimp only; omega) ?_ ⟨by omega, by rw [hsn, hosc rfl]; exact hk, hcon2 (fun _ => by
                  have := fun h => h5 (hle.2 h)
                  grind)⟩
                refine Weak.keep [0] (by simp) rfl ?_ ?_
                · simp [leVs, leV, le1]
                  omega
                · simp [leH, leO]
          · intro h3 h4
            have htk : cc.take i = cc := List.take_of_length_le (by omega)
            rw [htk] at hk
            have hko : ∀ f ∈ kept, LOk 100000 f ∧ ¬ IsConst f := fun f hf2 => by
              rw [hk] at hf2
              obtain ⟨l, hl, rfl⟩ := List.mem_map.1 hf2
              obtain ⟨h5, h6⟩ := (mem_ncs h9c).1 hl
              exact ⟨(nrmR_ok (hol l h5) (by decide)).mono (by decide), nrmR_const (h9c l h5) h6⟩
            have h96 := pd96 kept (fun f hf2 => (hko f hf2).1) (by omega)
            have hvk : violB kept = false := by
              cases hvb : violB kept with
              | false => rfl
              | true =>
                obtain ⟨l, hl, h5, _⟩ := (violB_iff (fun f hf2 => (hko f hf2).1.len)).1 hvb
                exact absurd h5 (hko l hl).2
            have hsk : sysL kept [] = stepL s v := by
              have e1 : IsSys kept (stepL s v) := by rw [hk]; exact (sys_nrm h9c).2 hos
              exact (e1.eq (fun f hf2 => (hko f hf2).1.len)).symm
            rw [hvk, if_neg (by simp), hsk] at h96
            have hnb : badB s v = false := by
              cases hb : badB s v with
              | false => rfl
              | true =>
                exfalso
                have hb2 := hbs.1 ((badB_iff hg.len9).1 hb)
                obtain ⟨u, hu, l, hl, h5, h6⟩ := hb2
                have hm : comb u l ∈ cc := by
                  rw [← hcc]
                  unfold outR
                  rw [List.mem_append, List.mem_flatMap]
                  exact .inr ⟨l, hl, List.mem_map.2 ⟨u, hu, rfl⟩⟩
                obtain ⟨j, hj, he⟩ := mem_getD.1 hm
                have := hcon j (by omega) (by rw [he]; exact h5)
                rw [he] at this
                grind
            have tkk := take_rows (ls := kept) (n := K) (by omega)
            have hgs := hg.step hv
            simp (dsimp := false) (disch := omega) only [h4, rules, Nat.reduceBEq]
            refine GoCall.pure h96 (by simp [fzAs, fzA, fz1, fz0, rlk, tkk]) ?_
            simp (dsimp := false) (disch := omega) only [List.append_nil, wrap64, rules, tys, eq_self, ↓reduceIte]
            refine Ap_loop (v + 1, stepL s v) (by dsimp only; omega) ?_ ⟨by omega, hgs.pre, by rw [hgs.self, hg.feas hv hnb]; exact hf, fun w hw => ?_⟩
            · refine Weak.keep [] (by simp) rfl ?_ ?_
              · simp [leVs, leV, le1]
              · simp [leH]
            · cases how : occ (stepL s v) w with
              | false => rfl
              | true =>
                obtain ⟨h5, h6⟩ := occ_stepR hg hv (by omega) how
                have h7 := (sys_occ h9 his (by omega)).1 h6
                rw [hocc w (by omega)] at h7; cases h7
    · intro h1 h2
      have hv : v = 8 := by omega
      have hnil : cs = [] := by
        cases hc : cs with
        | nil => rfl
        | cons l t =>
          exfalso
          have hl : l ∈ cs := by rw [hc]; simp
          obtain ⟨w, hw, h0⟩ := not_const (hp.nc l hl)
          have := hocc w (by omega)
          rw [occ_iff.2 ⟨l, hl, h0⟩] at this; cases this
      have hR2 : R = true := by
        rw [← hf, hnil]
        exact feasB_nil
      subst hR2
      simp (dsimp := false) (disch := omega) only [h2, Ap_end_ret, rules, Nat.reduceBEq]
      exact RetOK.pure rfl ⟨trivial, trivial⟩ rfl
theorem pd97 (cs0 : List (List Raw)) (hp0 : Pre cs0) : Den Tryz.prog 97 [] [.fv (.sl (rowsF cs0))] [] (.bool (feasB (sysL cs0 []))) := pd97r cs0 hp0.r

theorem pd96g (cs : List (List Raw)) (h : CsOk cs) : Den Tryz.prog 96 [] [.fv (.sl (rowsF cs))] [] (if violB cs then .tup [.fv (.sl []), .bool false] else .tup [.fv (.sl (rowsF (sysL cs []))), .bool true]) :=
  pd96 cs (fun l hl => (h.ok l hl).mono (by decide)) (by have := h.len; omega)
theorem pd97g (s : List (List Raw)) (h : GoodS s) : Den Tryz.prog 97 [] [.fv (.sl (rowsF s))] [] (.bool (feasB s)) := by
  have := pd97 s h.pre
  rw [h.self] at this
  exact this
end Go.Proofs.YtddnnhlcpffbdaaGreat

namespace Go.Proofs.YtddnnhlcpffbdaaGreat
open Go.AM Go.Pl
set_option maxRecDepth 100000
set_option maxHeartbeats 4000000

theorem co_rz {w : Nat} : co (List.replicate 9 rz) w = 0 := by
  have rq : rz.q = 0 := by
    unfold Raw.q rz mkq
    simp [val]
  unfold co
  rw [List.getD_eq_getElem?_getD, List.getElem?_replicate]
  split
  · exact rq
  · exact rq
theorem co_setne {l : List Raw} {v w : Nat} {r : Raw} (h : w ≠ v) : co (l.set v r) w = co l w := by
  unfold co
  rw [List.getD_eq_getElem?_getD, List.getElem?_set_ne (fun e => h e.symm), ← List.getD_eq_getElem?_getD]
theorem linS_co (xs : List Int) : ∀ (n i a : Nat) (rs : List Raw) (w : Nat), i + n ≤ w → co (linS xs n i a rs) w = co rs w
  | 0, _, _, _, _, _ => rfl
  | n + 1, i, a, rs, w, h => by
    unfold linS
    rw [linS_co xs n (i + 1) _ _ w (by omega), co_setne (by omega)]
theorem linG_dim (xs : List Int) (n a : Nat) : Dim n [(linG xs n a).1] := by
  intro l hl w hw hw8
  rw [List.mem_singleton] at hl
  subst hl
  unfold linG
  split
  · rw [co_setne (by omega), co_setne (by omega), linS_co xs n 0 a _ w (by omega), co_rz]
  · rw [co_setne (by omega), linS_co xs n 0 a _ w (by omega), co_rz]
theorem consS_dim (xs : List Int) (n : Nat) : ∀ k b, Dim n (consS xs n k b)
  | 0, b => fun l h => by simp [consS] at h
  | k + 1, b => fun l h => by
    simp only [consS, List.mem_cons] at h
    rcases h with h | h
    · rw [h]; exact linG_dim xs n b _ (by simp)
    · exact consS_dim xs n k _ l h
theorem side_co {v w : Nat} {z : Int} (_ : v < 9) (hw : w < 9) : co (sideL v z) w = co (varL v) w + co (numL (z : Rat)) w ∧ co (sideH v z) w = -co (varL v) w + co (numL (z : Rat)) w := by
  have l1 := varL_len v
  have l2 := numL_len (z : Rat)
  have l3 := negR_len l1
  constructor
  · show ((List.map cn (addL (varL v) (numL (z : Rat)))).getD w rz).q = _
    rw [addL_getD (by omega) (by omega), cn_q]; rfl
  · show ((List.map cn (addL (negR (varL v)) (numL (z : Rat)))).getD w rz).q = _
    rw [addL_getD (by omega) (by omega), cn_q, ← negR_at l1 hw]; rfl
theorem boxS_dim (xs : List Int) (d : Nat) : ∀ k v b, v + k ≤ d → d ≤ 8 → Dim d (boxS xs k v b)
  | 0, v, b, _, _ => fun l h => by simp [boxS] at h
  | k + 1, v, b, hd, hd8 => fun l h w hw hw8 => by
    simp only [boxS, List.mem_cons] at h
    rcases h with h | h | h
    · rw [h, (side_co (by omega) (by omega)).1, co_var (by omega) (by omega), co_num (by omega), if_neg (by omega), if_neg (by omega)]; grind
    · rw [h, (side_co (by omega) (by omega)).2, co_var (by omega) (by omega), co_num (by omega), if_neg (by omega), if_neg (by omega)]; grind
    · exact boxS_dim xs d k (v + 1) _ (by omega) hd8 l h w hw hw8
structure Few (cs : List (List Raw)) : Prop where
  ok : ∀ l ∈ cs, LOk 4 l
  len : cs.length ≤ 41
  dim : ∃ d, Dim d cs ∧ ((d = 3 ∧ (ncs cs).length ≤ 4) ∨ (d = 2 ∧ (ncs cs).length ≤ 6))
theorem fewC_const (n : Nat) : ∀ l ∈ fewC n, constB l = true ∧ LOk 4 l ∧ Dim 2 [l] := by
  intro l hl
  obtain ⟨i, hi, rfl⟩ := List.mem_map.1 hl
  refine ⟨(constB_iff (numL_len _)).2 (fun w hw => by rw [co_num (by omega), if_neg (by omega)]), (numL_ok (bd_int (by omega))).mono (by decide), fun m hm w hw hw8 => ?_⟩
  rw [List.mem_singleton] at hm
  subst hm
  rw [co_num (by omega), if_neg (by omega)]
theorem cons_few (xs : List Int) (n m b : Nat) (h : (n = 3 ∧ m ≤ 4) ∨ (n = 2 ∧ m ≤ 6)) : Few (consS xs n m b) := by
  have hl := consS_len xs n m b
  have hn := ncs_le (consS xs n m b)
  exact ⟨consS_ok xs n m b, by omega, n, consS_dim xs n m b, by omega⟩
theorem boxcons_few (xs : List Int) (m a b : Nat) (h : m ≤ 2) : Few (boxS xs 2 0 a ++ consS xs 2 m b) := by
  have hl := consS_len xs 2 m b
  have hb := boxS_len xs 2 0 a
  have hn := ncs_le (boxS xs 2 0 a ++ consS xs 2 m b)
  rw [List.length_append] at hn
  refine ⟨fun l hl => ?_, by rw [List.length_append]; omega, 2, (boxS_dim xs 2 2 0 a (by decide) (by decide)).append (consS_dim xs 2 m b), by omega⟩
  rcases List.mem_append.1 hl with h1 | h1
  · exact boxS_ok xs 2 0 a l h1
  · exact consS_ok xs 2 m b l h1
theorem fewF_few (xs : List Int) (a : Nat) : Few (fewF xs a).1 := by
  unfold fewF
  have l5 := nN_lt (xs := xs) (a := nx xs a) (n := 5) (by decide)
  have l3 := nN_lt (xs := xs) (a := nxs xs 4 (nx xs a)) (n := 3) (by decide)
  split
  · refine ⟨fun l hl => (fewC_const _ l hl).2.1, by dsimp only; rw [fewC_len]; split <;> decide, 2, fun l hl => (fewC_const _ l hl).2.2 l (by simp), .inr ⟨rfl, ?_⟩⟩
    dsimp only
    rw [ncs_const (fun l hl => (fewC_const _ l hl).1)]; decide
  · exact boxcons_few xs _ _ _ (by omega)
  · exact boxcons_few xs _ _ _ (by omega)
  · exact boxcons_few xs _ _ _ (by omega)
  · exact cons_few xs 3 _ _ (by omega)
  · exact cons_few xs 2 _ _ (by omega)
theorem Few.cs {cs : List (List Raw)} (h : Few cs) : CsOk cs := by
  obtain ⟨d, hd, hl⟩ := h.dim
  have := h.len
  exact ok_of (d := d) (fun l hl => (h.ok l hl).mono (by decide)) hd (by omega) (by omega)
def unit2 : List (List Raw) := [varL 0, comb (numL ((1 : Int) : Rat)) (varL 0)]
def unit0 : List (List Raw) := [varL 0, negR (varL 0)]
theorem lval_var (x : Nat → Rat) : lval (varL 0) x = x 0 := by
  have c := fun w hw => co_var (v := 0) (w := w) (by decide) hw
  rw [lval_eq, c 8 (by decide), c 0 (by decide), c 1 (by decide), c 2 (by decide), c 3 (by decide), c 4 (by decide), c 5 (by decide), c 6 (by decide), c 7 (by decide)]
  simp
  try grind
theorem lval_neg {l : List Raw} (h9 : l.length = 9) (x : Nat → Rat) : lval (negR l) x = -lval l x := by
  have c := fun w hw => negR_at h9 (i := w) hw
  rw [lval_eq, lval_eq, c 8 (by decide), c 0 (by decide), c 1 (by decide), c 2 (by decide), c 3 (by decide), c 4 (by decide), c 5 (by decide), c 6 (by decide), c 7 (by decide)]
  grind
theorem lval_comb {u l : List Raw} (hu : u.length = 9) (hl : l.length = 9) (x : Nat → Rat) : lval (comb u l) x = lval u x - lval l x := by
  have c := fun w hw => comb_at hu hl (i := w) hw
  rw [lval_eq, lval_eq u, lval_eq l, c 8 (by decide), c 0 (by decide), c 1 (by decide), c 2 (by decide), c 3 (by decide), c 4 (by decide), c 5 (by decide), c 6 (by decide), c 7 (by decide)]
  grind
theorem lval_num (q : Rat) (x : Nat → Rat) : lval (numL q) x = q := by
  have c := fun w hw => co_num (q := q) (w := w) hw
  rw [lval_eq, c 8 (by decide), c 0 (by decide), c 1 (by decide), c 2 (by decide), c 3 (by decide), c 4 (by decide), c 5 (by decide), c 6 (by decide), c 7 (by decide)]
  simp
  try grind
theorem unit_ok : ∀ l ∈ unit2 ++ unit0, LOk 6 l ∧ Dim 2 [l] := by
  have v0 : Dim 2 [varL 0] := fun m hm w hw hw8 => by
    rw [List.mem_singleton] at hm
    subst hm
    rw [co_var (by omega) (by omega), if_neg (by omega)]
  intro l hl
  simp only [unit2, unit0, List.cons_append, List.nil_append, List.mem_cons, List.not_mem_nil, or_false] at hl
  rcases hl with h | h | h | h
  · rw [h]; exact ⟨(varL_ok 0).mono (by decide), v0⟩
  · rw [h]
    refine ⟨(comb_ok (k := 1) (numL_ok (bd_int (by decide))) (varL_ok 0) (by decide)).mono (by decide), fun m hm w hw hw8 => ?_⟩
    rw [List.mem_singleton] at hm
    subst hm
    rw [comb_at (numL_len _) (varL_len 0) (by omega), co_num (by omega), co_var (by omega) (by omega), if_neg (by omega), if_neg (by omega)]
    grind
  · rw [h]; exact ⟨(varL_ok 0).mono (by decide), v0⟩
  · rw [h]; exact ⟨(negR_ok (varL_ok 0) (by decide)).mono (by decide), v0.neg (varL_len 0)⟩
theorem unit2_cs : CsOk unit2 := by
  have hn := ncs_le unit2
  exact ok_of (d := 2) (fun l hl => (unit_ok l (List.mem_append_left _ hl)).1) (fun l hl => (unit_ok l (List.mem_append_left _ hl)).2 l (by simp)) (by decide) (.inr ⟨rfl, by have : unit2.length = 2 := rfl; omega⟩)
theorem unit0_cs : CsOk unit0 := by
  have hn := ncs_le unit0
  exact ok_of (d := 2) (fun l hl => (unit_ok l (List.mem_append_right _ hl)).1) (fun l hl => (unit_ok l (List.mem_append_right _ hl)).2 l (by simp)) (by decide) (.inr ⟨rfl, by have : unit0.length = 2 := rfl; omega⟩)
theorem var_nc : ¬ IsConst (varL 0) := fun h => by
  have := h 0 (by decide)
  rw [co_var (by decide) (by decide), if_pos rfl] at this
  exact absurd this (by decide)
theorem unit2_bnd : bndP unit2 0 = some ((0 : Rat), ((1 : Int) : Rat)) := by
  refine bndP_of (by decide) unit2_cs (by decide) (fun t => ?_)
  have e1 : ((1 : Int) : Rat) = 1 := rfl
  have hc : ∀ x, lval (comb (numL ((1 : Int) : Rat)) (varL 0)) x = 1 - x 0 := fun x => by rw [lval_comb (numL_len _) (varL_len 0), lval_num, lval_var, e1]
  have nc2 : ¬ IsConst (comb (numL ((1 : Int) : Rat)) (varL 0)) := fun h => by
    have := h 0 (by decide)
    rw [comb_at (numL_len _) (varL_len 0) (by decide), co_num (by decide), co_var (by decide) (by decide), if_neg (by decide), if_pos rfl] at this
    grind
  rw [e1]
  constructor
  · rintro ⟨x, hx, rfl⟩
    have h1 := hx (varL 0) (by simp [unit2])
    have h2 := hx (comb (numL ((1 : Int) : Rat)) (varL 0)) (by simp [unit2])
    rw [lval_var] at h1
    rw [hc] at h2
    rcases h1 with h1 | h1
    · rcases h2 with h2 | h2
      · exact ⟨h1, by grind⟩
      · exact absurd h2.1 nc2
    · exact absurd h1.1 var_nc
  · rintro ⟨h1, h2⟩
    refine ⟨fun _ => t, fun l hl => .inl ?_, rfl⟩
    simp only [unit2, List.mem_cons, List.not_mem_nil, or_false] at hl
    rcases hl with hl | hl
    · rw [hl, lval_var]; exact h1
    · rw [hl, hc]; grind
theorem unit2_inner : innerB unit2 = true := (bndP_some (by decide) unit2_cs unit2_bnd).1
theorem unit0_inner : innerB unit0 = false := by
  cases h : innerB unit0 with
  | false => rfl
  | true =>
    exfalso
    obtain ⟨x, hx⟩ := (innerB_iff unit0_cs.len9).1 h
    have h1 := hx (varL 0) (by simp [unit0])
    have h2 := hx (negR (varL 0)) (by simp [unit0])
    rw [lval_neg (varL_len 0)] at h2
    rw [lval_var] at h1 h2
    rcases h1 with h1 | h1
    · rcases h2 with h2 | h2
      · grind
      · have := h2.2; grind
    · exact absurd h1.1 var_nc

theorem flatF_append : ∀ a b : List Raw, flatF (a ++ b) = flatF a ++ flatF b
  | [], _ => rfl
  | r :: a, b => by simp only [List.cons_append, flatF, flatF_append a b]
theorem two_take {x y : List Raw} (hx : x.length = 9) : List.take 27 (flatF (x ++ y)) = flatF x := by
  rw [flatF_append]; exact List.take_left' (by rw [flatF_length, hx])
theorem two_drop {x y : List Raw} (hx : x.length = 9) (hy : y.length = 9) : List.take 27 (List.drop 27 (flatF (x ++ y))) = flatF y := by
  rw [flatF_append, List.drop_left' (by rw [flatF_length, hx])]; exact flatF_take27 hy
theorem two_head {x : List Raw} (hx : x.length = 9) (Z : List PV) : List.take 27 (flat x ++ Z) = flat x := List.take_left' (by rw [flat_length, hx])
theorem two_tail {x : List Raw} (hx : x.length = 9) : List.drop 54 (flat x ++ zcells 9) = [] := List.drop_of_length_le (by rw [List.length_append, flat_length, hx, zcells_length]; decide)

theorem pd16 : Den Tryz.prog 16 [] [] [] (.bool true) := by
  have h55 := pd55 0 (by decide)
  have h24 := den24 1 (by decide)
  change Den Tryz.prog 24 [] [.int .i64 1] [] (cn ((1 : Int) : Rat)).v at h24
  have h30 := pd30 (cn ((1 : Int) : Rat)) (Raw.Ok.mono (cn_ok (bd_int (by decide))) (by decide))
  rw [cn_q] at h30
  have h57 := pd57 (varL 0) ((varL_ok 0).mono (by decide))
  have h56 := den74 (numL ((1 : Int) : Rat)) (negR (varL 0)) ((numL_ok (bd_int (by decide))).mono (by decide)) ((negR_ok (varL_ok 0) (by decide)).mono (by decide))
  change Den Tryz.prog 56 [] [_, _] [] (RL (comb (numL ((1 : Int) : Rat)) (varL 0))) at h56
  have h13 := pd13 unit2 0 (by decide) unit2_cs (by decide)
  rw [unit2_bnd] at h13
  change Den Tryz.prog 13 [] [.fv (.sl (rowsF unit2)), .int .i64 0] [] (.tup [FR 0, FR ((1 : Int) : Rat), .int .i64 0]) at h13
  have h20 := pd20 unit2 unit2_cs (by decide)
  rw [unit2_inner] at h20
  have h20b := pd20 unit0 unit0_cs (by decide)
  rw [unit0_inner] at h20b
  have h22 := den26 (cn 0) (Raw.Ok.mono (cn_ok (Bd.zero (k := 1) (by decide))) (by decide))
  rw [cn_q, sgq_zero'] at h22
  have h23 := den29 (cn ((1 : Int) : Rat)) (cn ((1 : Int) : Rat)) (Raw.Ok.mono (cn_ok (bd_int (by decide))) (by decide)) (Raw.Ok.mono (cn_ok (bd_int (by decide))) (by decide))
  rw [cn_q, Rat.sub_self, sgq_zero'] at h23
  have r2 : rowsF unit2 = [flatF (varL 0), flatF (comb (numL ((1 : Int) : Rat)) (varL 0))] := rfl
  have r0 : rowsF unit0 = [flatF (varL 0), flatF (negR (varL 0))] := rfl
  rw [r2] at h13 h20
  rw [r0] at h20b
  change Den Tryz.prog 13 [] _ [] (.tup [(cn 0).v, (cn ((1 : Int) : Rat)).v, .int .i64 0]) at h13
  have lx := varL_len 0
  have ln := numL_len ((1 : Int) : Rat)
  have lg := negR_len lx
  have lc := comb_len ln lx
  obtain ⟨c0, hc0⟩ : ∃ t, cn 0 = t := ⟨_, rfl⟩
  obtain ⟨c1, hc1⟩ : ∃ t, cn ((1 : Int) : Rat) = t := ⟨_, rfl⟩
  rw [hc0, hc1] at h13
  rw [hc0] at h22
  rw [hc1] at h24 h30 h23
  obtain ⟨x, hx⟩ : ∃ t, varL 0 = t := ⟨_, rfl⟩
  obtain ⟨o, ho⟩ : ∃ t, numL ((1 : Int) : Rat) = t := ⟨_, rfl⟩
  rw [hx, ho] at h56 h13 h20 lc
  rw [hx] at h55 h57 h20b lx lg
  rw [ho] at h30 ln
  obtain ⟨g, hg⟩ : ∃ t, negR x = t := ⟨_, rfl⟩
  obtain ⟨y, hy⟩ : ∃ t, comb o x = t := ⟨_, rfl⟩
  rw [hg] at h57 h56 h20b lg
  rw [hy] at h56 h13 h20 lc
  have gx := flat_length x
  have gx27 := flat_take27 lx
  have x27 := flatF_take27 lx
  have go := flat_length o
  have go27 := flat_take27 ln
  have gg := flat_length g
  have gg27 := flat_take27 lg
  have g27 := flatF_take27 lg
  have gy := flat_length y
  have gy27 := flat_take27 lc
  have y27 := flatF_take27 lc
  unfold Raw.v at h24 h30 h13 h22 h23
  unfold RL at h55 h30 h57 h56
  have e0 : ((0 : Int) == 0) = true := rfl
  refine den_of tabOk mixed Tryz.func16 (cd := _) rfl (by decide) rfl (n := 67) rfl rfl (m := 0) rfl ?_
  simp (dsimp := false) (disch := omega) only [List.replicate, rules]
  refine GoCall.pure h55 rfl ?_
  simp (dsimp := false) (disch := omega) only [flat_reloc, List.append_nil, gx, lx, rules, tys, eq_self, Nat.reduceAdd, Nat.reduceMul, Nat.reduceLT, Nat.reduceLeDiff]
  repeat refine And.intro (by omega) ?_
  refine GoCall.pure h24 rfl ?_
  simp (dsimp := false) (disch := omega) only [List.append_nil, rules]
  refine GoCall.pure h30 rfl ?_
  simp (dsimp := false) (disch := omega) only [flat_reloc, List.append_nil, go, ln, rules, tys, eq_self, Nat.reduceAdd, Nat.reduceMul, Nat.reduceLT, Nat.reduceLeDiff]
  repeat refine And.intro (by omega) ?_
  refine Draw.intro (by kernel_rfl) ?_
  simp (dsimp := false) (disch := omega) only [gx, lx, gx27, go, ln, go27, rules, tys, eq_self, ↓reduceIte, Nat.reduceMul, Nat.reduceLeDiff]
  repeat refine And.intro (by omega) ?_
  refine GoCall.pure h57 (by simp [fzAs, fzA, flat_fz, flatF_fv]) ?_
  simp (dsimp := false) (disch := omega) only [flat_ids, flat_reloc, List.append_nil, rules, Nat.reduceAdd]
  refine GoCall.pure h56 (by simp [fzAs, fzA, flat_fz, flatF_fv]) ?_
  have hZ := two_head lx
  have hD := two_tail lx
  simp only [zcells] at hD
  have hxy : flat x ++ flat y = flat (x ++ y) := (flat_append x y).symm
  have hxg : flat x ++ flat g = flat (x ++ g) := (flat_append x g).symm
  have t1 := two_take (y := y) lx
  have t2 := two_drop lx lc
  have t3 := two_take (y := g) lx
  have t4 := two_drop lx lg
  simp (dsimp := false) (disch := omega) only [flat_ids, flat_reloc, flat_fz, List.append_nil, gx, lx, gy, lc, hZ, hD, hxy, t1, t2, List.length_append, rules, tys, eq_self, ↓reduceIte, Nat.reduceAdd, Nat.reduceMul, Nat.reduceLT, Nat.reduceLeDiff]
  repeat refine And.intro (by omega) ?_
  refine GoCall.pure h13 (by simp [fzAs, fzA, fz1, fz0]) ?_
  simp (dsimp := false) (disch := omega) only [List.append_nil, rules, tys, eq_self, Nat.reduceAdd, Nat.reduceLT, Nat.reduceLeDiff]
  repeat refine And.intro (by omega) ?_
  refine GoCall.pure h20 (by simp [fzAs, fzA, fz1, fz0]) ?_
  simp (dsimp := false) (disch := omega) only [List.append_nil, rules, Nat.reduceAdd]
  repeat refine And.intro (by omega) ?_
  refine Draw.intro (by kernel_rfl) ?_
  simp (dsimp := false) (disch := omega) only [gx, lx, gx27, rules, tys, eq_self, ↓reduceIte, Nat.reduceMul, Nat.reduceLeDiff]
  repeat refine And.intro (by omega) ?_
  refine GoCall.pure h57 (by simp [fzAs, fzA, flat_fz, flatF_fv]) ?_
  simp (dsimp := false) (disch := omega) only [flat_ids, flat_reloc, flat_fz, List.append_nil, gx, lx, gg, lg, hZ, hD, hxg, t3, t4, List.length_append, rules, tys, eq_self, ↓reduceIte, Nat.reduceAdd, Nat.reduceMul, Nat.reduceLT, Nat.reduceLeDiff]
  repeat refine And.intro (by omega) ?_
  refine GoCall.show h20b (Plain.tup (by simp; exact ⟨Plain.lit _, Plain.lit _⟩)) rfl rfl ?_
  simp (dsimp := false) (disch := omega) only [rules, Nat.reduceAdd]
  refine Draw.intro (by kernel_rfl) ?_
  simp (dsimp := false) (disch := omega) only [e0, Bool.not_false, rules, tys, eq_self, ↓reduceIte, Nat.reduceAdd, Nat.reduceLeDiff]
  repeat refine And.intro (by omega) ?_
  refine GoCall.pure h22 rfl ?_
  simp (dsimp := false) (disch := omega) only [List.append_nil, e0, rules, tys, eq_self, ↓reduceIte, Nat.reduceAdd, Nat.reduceLeDiff]
  repeat refine And.intro (by omega) ?_
  refine GoCall.pure h24 rfl ?_
  simp (dsimp := false) (disch := omega) only [List.append_nil, rules, Nat.reduceAdd]
  refine GoCall.pure h23 rfl ?_
  simp (dsimp := false) (disch := omega) only [List.append_nil, e0, Ap_end_ret, rules, tys, eq_self, ↓reduceIte, Nat.reduceAdd]
  exact RetOK.pure rfl ⟨trivial, trivial⟩ rfl
end Go.Proofs.YtddnnhlcpffbdaaGreat

namespace Go.Proofs.YtddnnhlcpffbdaaGreat
open Go.AM Go.Pl
set_option maxRecDepth 100000
set_option maxHeartbeats 4000000

end Go.Proofs.YtddnnhlcpffbdaaGreat

namespace Go.Proofs.YtddnnhlcpffbdaaGreat
open Go.AM Go.Pl
set_option maxRecDepth 100000
set_option maxHeartbeats 4000000

end Go.Proofs.YtddnnhlcpffbdaaGreat

namespace Go.Pl
open Go.AM

theorem near (a c : Rat) (ha : 0 < a) : ∃ e : Rat, 0 < e ∧ ∀ t : Rat, -e ≤ t → t ≤ e → 0 < a + c * t := by
  by_cases h0 : c = 0
  · exact ⟨1, by decide, fun t _ _ => by rw [h0, Rat.zero_mul, Rat.add_zero]; exact ha⟩
  · by_cases hp : 0 < c
    · have hce : c * (a / (2 * c)) = a / 2 := by grind
      have he : 0 < a / (2 * c) := by
        by_cases h : 0 < a / (2 * c)
        · exact h
        · exfalso
          have := Rat.mul_nonneg (show 0 ≤ -(a / (2 * c)) by grind) (show 0 ≤ c by grind)
          grind
      refine ⟨a / (2 * c), he, fun t h1 _ => ?_⟩
      have := Rat.mul_nonneg (show 0 ≤ t + a / (2 * c) by grind) (show 0 ≤ c by grind)
      grind
    · have hn : 0 < -c := by grind
      have hce : (-c) * (a / (2 * (-c))) = a / 2 := by grind
      have he : 0 < a / (2 * (-c)) := by
        by_cases h : 0 < a / (2 * (-c))
        · exact h
        · exfalso
          have := Rat.mul_nonneg (show 0 ≤ -(a / (2 * (-c))) by grind) (show 0 ≤ -c by grind)
          grind
      refine ⟨a / (2 * (-c)), he, fun t _ h2 => ?_⟩
      have := Rat.mul_nonneg (show 0 ≤ a / (2 * (-c)) - t by grind) (show 0 ≤ -c by grind)
      grind
theorem in_pos {t : List (List Raw)} (h : ∀ l ∈ t, ¬ IsConst l) (x : Nat → Rat) : In t x ↔ Pos t x :=
  ⟨fun hi l hl => by
    rcases hi l hl with h1 | h1
    · exact h1
    · exact absurd h1.1 (h l hl), fun hp l hl => .inl (hp l hl)⟩
theorem feas_sys {t : List (List Raw)} (h9 : ∀ l ∈ t, l.length = 9) (h : ∀ l ∈ t, ¬ IsConst l) : feasB (sysL t []) = true ↔ ∃ x, Pos t x := by
  rw [feasB_iff]
  have := fun x => (sys_in h9 (sysL_is h9) (turn_viol h) x).symm.trans (in_pos h x)
  exact ⟨fun ⟨x, hx⟩ => ⟨x, (this x).1 hx⟩, fun ⟨x, hx⟩ => ⟨x, (this x).2 hx⟩⟩
end Go.Pl

namespace Go.Pl
open Go.AM

def Irr (s : List (List Raw)) : Prop := ∀ j, j < s.length → redB s j = true
structure Shad (c d : List (List Raw)) (i : Nat) : Prop where
  good : GoodT d
  feas : feasB d = true
  irr : Irr d
  pos : ∀ x, Pos d x ↔ ∃ t, Pos c (upd x i t)
  occs : ∀ w, w < 8 → w ≠ i → Pl.occ c w = false → Pl.occ d w = false
  gone : Pl.occ d i = false
structure Elim (v n i : Nat) (c d : List (List Raw)) : Prop where
  good : GoodT d
  irr : Irr d
  feas : feasB d = true
  pos : ∀ x, Pos d x ↔ ∃ y, (∀ w, (w < i ∨ i + n ≤ w ∨ w = v) → y w = x w) ∧ Pos c y
  occs : (∀ w, w < i → w ≠ v → Pl.occ c w = false) → ∀ w, w < i + n → w ≠ v → Pl.occ d w = false
theorem filter_le_one {α : Type} {p : α → Bool} : ∀ {l : List α}, (∀ (i j : Nat) (hi : i < l.length) (hj : j < l.length), i ≠ j → ¬ (p l[i] = true ∧ p l[j] = true)) → (l.filter p).length ≤ 1
  | [], _ => by simp
  | a :: l, h => by
    have ih := filter_le_one (l := l) (p := p) (fun i j hi hj hij => h (i + 1) (j + 1) (by simp; omega) (by simp; omega) (by omega))
    cases hp : p a with
    | false => rw [List.filter_cons_of_neg (by rw [hp]; simp)]; exact ih
    | true =>
      rw [List.filter_cons_of_pos hp]
      have : l.filter p = [] := by
        rw [List.filter_eq_nil_iff]
        intro b hb hpb
        obtain ⟨j, hj, rfl⟩ := List.mem_iff_getElem.1 hb
        exact h 0 (j + 1) (by simp) (by simp; omega) (by omega) ⟨hp, hpb⟩
      rw [this]; simp
end Go.Pl

namespace Go.Pl

theorem inner_pos {cs : List (List Raw)} (h9 : ∀ l ∈ cs, l.length = 9) (hi : innerB cs = true) (x : Nat → Rat) : In cs x ↔ Pos (sysL cs []) x := by
  have h2 := hi
  unfold innerB at h2
  rw [Bool.and_eq_true, Bool.not_eq_true'] at h2
  exact sys_in h9 (sysL_is h9) (fun hv => by rw [(violB_iff h9).2 hv] at h2; cases h2.1) x
end Go.Pl

namespace Go.Pl
open Go.AM

def way (x y : Nat → Rat) (t : Rat) : Nat → Rat := fun i => x i + t * (y i - x i)
theorem lv_way (a : List Raw) (x y : Nat → Rat) (t : Rat) : ∀ k, lv a (way x y t) k = lv a x k + t * (lv a y k - lv a x k)
  | 0 => by simp only [lv]; grind
  | k + 1 => by
    simp only [lv]
    rw [lv_way a x y t k]
    simp only [way]
    grind
theorem lval_way (a : List Raw) (x y : Nat → Rat) (t : Rat) : lval a (way x y t) = lval a x + t * (lval a y - lval a x) := lv_way a x y t 8
theorem pos_way (y : Nat → Rat) : ∀ (s : List (List Raw)) (x : Nat → Rat), Pos s x → ∃ e : Rat, 0 < e ∧ ∀ t : Rat, 0 ≤ t → t ≤ e → Pos s (way x y t)
  | [], x, _ => ⟨1, by decide, fun t _ _ l hl => by simp at hl⟩
  | m :: s, x, h => by
    obtain ⟨e1, h1, k1⟩ := pos_way y s x (fun l hl => h l (List.mem_cons_of_mem _ hl))
    obtain ⟨e2, h2, k2⟩ := near (lval m x) (lval m y - lval m x) (h m (by simp))
    by_cases h3 : e1 ≤ e2
    · refine ⟨e1, h1, fun t ht1 ht2 l hl => ?_⟩
      rcases List.mem_cons.1 hl with h4 | h4
      · subst h4
        rw [lval_way]
        have := k2 t (by grind) (by grind)
        grind
      · exact k1 t ht1 ht2 l h4
    · refine ⟨e2, h2, fun t ht1 ht2 l hl => ?_⟩
      rcases List.mem_cons.1 hl with h4 | h4
      · subst h4
        rw [lval_way]
        have := k2 t (by grind) ht2
        grind
      · exact k1 t ht1 (by grind) l h4
theorem touch {s : List (List Raw)} {l m : List Raw} {z x0 : Nat → Rat} (H : ∀ x, Pos s x → 0 < lval l x → 0 < lval m x) (hz : Pos s z) (hl : lval l z = 0) (hm : lval m z ≤ 0) (hx : 0 < lval l x0) :
    lval m z = 0 ∧ ∀ y, 0 < lval l y → 0 < lval m y := by
  have key : ∀ y, 0 < lval l y → ∃ e : Rat, 0 < e ∧ ∀ t : Rat, 0 < t → t ≤ e → 0 < lval m z + t * (lval m y - lval m z) := by
    intro y hy
    obtain ⟨e, he, k⟩ := pos_way y s z hz
    refine ⟨e, he, fun t h1 h2 => ?_⟩
    have h3 := H _ (k t (Rat.le_of_lt h1) h2) (by
      rw [lval_way, hl]
      have := Rat.mul_pos h1 hy
      grind)
    rw [lval_way] at h3
    exact h3
  have h0 : lval m z = 0 := by
    by_cases h : lval m z = 0
    · exact h
    · exfalso
      obtain ⟨e, he, k⟩ := key x0 hx
      obtain ⟨e2, he2, k2⟩ := near (-lval m z) (-(lval m x0 - lval m z)) (by grind)
      by_cases h3 : e ≤ e2
      · have a1 := k e he Rat.le_refl
        have a2 := k2 e (by grind) h3
        grind
      · have a1 := k e2 he2 (by grind)
        have a2 := k2 e2 (by grind) Rat.le_refl
        grind
  refine ⟨h0, fun y hy => ?_⟩
  obtain ⟨e, he, k⟩ := key y hy
  have a1 := k e he Rat.le_refl
  rw [h0] at a1
  by_cases h : 0 < lval m y
  · exact h
  · exfalso
    have := Rat.mul_nonneg (Rat.le_of_lt he) (show 0 ≤ -lval m y by grind)
    grind
end Go.Pl

namespace Go.Pl

theorem rz_ok (k : Nat) : rz.Ok k := by
  refine ⟨?_, ?_, ?_, ?_⟩ <;> simp [rz, Dig]
end Go.Pl

namespace Go.Pl
open Go.AM

theorem GoodT.nm {s : List (List Raw)} (h : GoodT s) : ∀ l ∈ s, nrmR l = l := by
  obtain ⟨k, hk, hs, hz⟩ := h
  exact hs.nm
theorem GoodT.sorted {s : List (List Raw)} (h : GoodT s) : s.Pairwise (fun a b => cmpR a b < 0) := by
  obtain ⟨k, hk, hs, hz⟩ := h
  exact hs.sorted
noncomputable def inWith (a : List (List Raw)) (l : List Raw) : Bool := if constB l then !decide (co l 8 < 0) else !innerB (a ++ [negR l])
noncomputable def withinB (a b : List (List Raw)) : Bool := !innerB a || b.all (inWith a)
end Go.Pl
