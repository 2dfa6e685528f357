/- Contracts: slices of forms: SortFunc of at most twelve, CompactFunc. -/
import Derived.Test.YtddnnhlcpffbdaaGreatT11

namespace Go.Proofs.YtddnnhlcpffbdaaGreat
open Go.AM Go.Pl
set_option maxRecDepth 100000
set_option maxHeartbeats 4000000

theorem pd143 (x : Nat) (hx : x < 256) : Den Tryz.prog 143 [] [.int .u64 x] [] (.int .i64 (blen x : Int)) := by
  have h8 : ∀ n : Nat, n < 256 → (((Lib.len8tab[n]?).getD 0).toNat : Nat) = blen n := fun n hn => len8_all ⟨n, hn⟩
  have hsz : Lib.len8tab.size = 256 := Lib.len8tab_size
  have hb8 : blen x ≤ 8 := by
    have : ∀ m : Fin 256, blen m.val ≤ 8 := by decide +kernel
    exact this ⟨x, hx⟩
  have e1 : decide ((x : Int) ≥ 4294967296) = false := decide_eq_false (by omega)
  have e2 : decide ((x : Int) ≥ 65536) = false := decide_eq_false (by omega)
  have e3 : decide ((x : Int) ≥ 256) = false := decide_eq_false (by omega)
  refine den_of tabOk mixed Tryz.func143 (cd := _) rfl (by decide) rfl (n := 24) rfl rfl (m := 0) rfl ?_
  simp (dsimp := false) (disch := omega) only [List.replicate, fold8, of_string, e1, e2, e3, h8, wrap64, wrapU8c, Ap_end_ret, rules, tys, eq_self, ↓reduceIte]
  refine ⟨by rw [hsz]; omega, ?_⟩
  refine RetOK.pure rfl ⟨trivial, trivial⟩ ?_
  simp (disch := omega) only [St.get, fzX, oneRes, fzV, fzC, fz1, fz0, Option.map_some, List.getD_cons_succ, List.getD_cons_zero]
  simp
theorem pd118 (x : Nat) (hx : x < 256) : Den Tryz.prog 118 [] [.int .u64 x] [] (.int .i64 (blen x : Int)) := by
  refine den_of tabOk mixed Tryz.func118 (cd := _) rfl (by decide) rfl (n := 7) rfl rfl (m := 0) rfl ?_
  simp (dsimp := false) (disch := omega) only [List.replicate, rules]
  refine GoCall.pure (pd143 x hx) rfl ?_
  simp (dsimp := false) (disch := omega) only [Ap_end_ret, rules]
  refine RetOK.pure rfl ⟨trivial, trivial⟩ rfl

theorem pd117 (ls ls' : List (List Raw)) (lim : Int) (hn : ls.length ≤ 12) (h : Den Tryz.prog 134 [.row true (rowsF ls)] [.lsl 0 0 ls.length 27, .int .i64 0, .int .i64 ls.length, cmpV] [.row true (rowsF ls')] (.tup [])) :
    Den Tryz.prog 117 [.row true (rowsF ls)] [.lsl 0 0 ls.length 27, .int .i64 0, .int .i64 ls.length, .int .i64 lim, cmpV] [.row true (rowsF ls')] (.tup []) := by
  obtain ⟨n, hnn⟩ : ∃ n, ls.length = n := ⟨_, rfl⟩
  rw [hnn] at h hn ⊢
  have e1 : decide ((n : Int) - 0 ≤ 12) = true := decide_eq_true (by omega)
  refine den_of tabOk mixed Tryz.func117 (cd := _) rfl (by decide) rfl (n := 143) rfl rfl (m := 1) rfl ?_
  simp (dsimp := false) (disch := omega) only [List.replicate, rules]
  refine WA.loop (α := Unit) (fun _ => ⟨[.lsl 0 0 n 27, .int .i64 0, .int .i64 n, .int .i64 lim, cmpV, .any, .any, .any, .any, .any, .bool true, .bool true] ++ List.replicate 136 .any, [.row true (rowsF ls)]⟩)
    (fun _ => 0) (fun _ => True) () ?_ trivial ?_
  · refine Weak.keep [0] (by simp) rfl ?_ ?_
    · simp [leVs, leV, le1]
    · simp [leH, leO]
  · rintro ⟨⟩ _
    simp (dsimp := false) (disch := omega) only [List.replicate, e1, wrap64, rules, tys, eq_self, ↓reduceIte]
    refine GoCall.lend 0 h rfl rfl trivial rfl rfl rfl ?_
    simp (dsimp := false) (disch := omega) only [List.append_nil, Ap_end_ret, rules]
    exact RetOK.lentB (cd := True) (vs := []) rfl trivial rfl trivial rfl rfl rfl

theorem pd86 (ls : List (List Raw)) (hok : AOk 1000000000 ls) (hn : ls.length ≤ 12) :
    ∃ ls', SortOf ls ls' ∧ Den Tryz.prog 86 [.row true (rowsF ls)] [.lsl 0 0 ls.length 27, cmpV] [.row true (rowsF ls')] (.tup []) := by
  obtain ⟨H1, res, ⟨ls', rfl, rfl, hs⟩, h⟩ := pd134 ls hok (by omega)
  refine ⟨ls', hs, ?_⟩
  have h2 := pd117 ls ls' (blen ls.length : Int) hn h
  obtain ⟨n, hnn⟩ : ∃ n, ls.length = n := ⟨_, rfl⟩
  rw [hnn] at h2 hn ⊢
  refine den_of tabOk mixed Tryz.func86 (cd := _) rfl (by decide) rfl (n := 12) rfl rfl (m := 1) rfl ?_
  simp (dsimp := false) (disch := omega) only [List.replicate, wrapU64c, rules, tys]
  refine GoCall.pure (pd118 n (by omega)) rfl ?_
  simp (dsimp := false) (disch := omega) only [rules]
  refine GoCall.lend 0 h2 rfl rfl trivial rfl rfl rfl ?_
  simp (dsimp := false) (disch := omega) only [List.append_nil, Ap_end_normal, rules]
  exact RetOK.lentB (cd := True) (vs := []) rfl trivial rfl trivial rfl rfl rfl

theorem pd89 (a b : List Raw) (ha : LOk 1000000000 a) (hb : LOk 1000000000 b) : Den Tryz.prog 89 [] [RL a, RL b] [] (.bool (cmpR a b == 0)) := by
  have hden := den22 a b ha hb
  have ga := flat_length a
  have gb := flat_length b
  have la := ha.len
  have lb := hb.len
  have a27 := flat_take27 la
  have b27 := flat_take27 lb
  obtain ⟨z, hz⟩ : ∃ z, cmpR a b = z := ⟨_, rfl⟩
  rw [hz] at hden ⊢
  unfold RL at hden ⊢
  refine den_of tabOk mixed Tryz.func89 (cd := _) rfl (by decide) rfl (n := 7) rfl rfl (m := 0) rfl ?_
  simp (dsimp := false) (disch := omega) only [List.replicate, a27, b27, rules, tys, eq_self, ↓reduceIte, Nat.reduceLT]
  repeat refine And.intro (by omega) ?_
  refine GoCall.pure hden (by simp [fzAs, fzA, flat_fz, flatF_fv]) ?_
  simp (dsimp := false) (disch := omega) only [flat_ids, List.append_nil, Ap_end_ret, rules, tys, eq_self, ↓reduceIte, Nat.reduceAdd]
  refine RetOK.pure rfl ⟨trivial, trivial⟩ rfl

end Go.Proofs.YtddnnhlcpffbdaaGreat

namespace Go.Proofs.YtddnnhlcpffbdaaGreat
open Go.AM Go.Pl
set_option maxRecDepth 100000
set_option maxHeartbeats 4000000

abbrev eqV : PV := .fv (.lit (.func (.func 89) #[] #[]))
def Asc (l : List (List Raw)) (i : Nat) : Prop := ∀ p q, p < q → q < i → cmpR (l.getD p []) (l.getD q []) < 0
structure Cmp (ls cur : List (List Raw)) (i j : Nat) : Prop where
  len : cur.length = ls.length
  pos : 1 ≤ i
  lt : i + 1 ≤ j
  le : j ≤ ls.length
  same : ∀ q, i ≤ q → cur.getD q [] = ls.getD q []
  asc : Asc cur i
  sub : ∀ q, q < i → cur.getD q [] ∈ ls
  sup : ∀ p, p < j → ∃ q, q < i ∧ cur.getD q [] = ls.getD p []
  last : cur.getD (i - 1) [] = ls.getD (j - 1) []
theorem at_mem {ls : List (List Raw)} {i : Nat} (h : i < ls.length) : ls.getD i [] ∈ ls := mem_getD.2 ⟨i, h, rfl⟩
theorem getD_set {ls : List (List Raw)} {i q : Nat} {x : List Raw} (h : i < ls.length) : (ls.set i x).getD q [] = if q = i then x else ls.getD q [] := by
  simp only [List.getD_eq_getElem?_getD, List.getElem?_set]
  by_cases hq : i = q
  · subst hq; rw [if_pos rfl, if_pos h, if_pos rfl]; rfl
  · rw [if_neg hq, if_neg (fun e => hq e.symm)]
theorem Cmp.skip {ls cur : List (List Raw)} {i j : Nat} (h : Cmp ls cur i j) (hj : j < ls.length) (he : ls.getD j [] = ls.getD (j - 1) []) : Cmp ls cur i (j + 1) := by
  have hp := h.pos
  have hlt := h.lt
  refine ⟨h.len, h.pos, by omega, by omega, h.same, h.asc, h.sub, fun p hp2 => ?_, ?_⟩
  · by_cases hpj : p = j
    · subst hpj
      rw [he]; exact h.sup (p - 1) (by omega)
    · exact h.sup p (by omega)
  · rw [Nat.add_sub_cancel, he]; exact h.last
theorem Cmp.take {ls cur : List (List Raw)} {i j : Nat} {k : Nat} (hok : AOk k ls) (h : Cmp ls cur i j) (hcan : ∀ a ∈ ls, ∀ b ∈ ls, cmpR a b = 0 → a = b) (hord : ∀ p q, p < q → q < ls.length → cmpR (ls.getD p []) (ls.getD q []) ≤ 0) (hj : j < ls.length)
    (he : cmpR (ls.getD j []) (ls.getD (j - 1) []) ≠ 0) : Cmp ls (cur.set i (ls.getD j [])) (i + 1) (j + 1) := by
  have hp := h.pos
  have hlt := h.lt
  have hl := h.len
  have hic : i < cur.length := by omega
  have hstep : cmpR (ls.getD (j - 1) []) (ls.getD j []) < 0 := by
    have h1 := hord (j - 1) j (by omega) hj
    have h2 := cmpR_swap (ls.getD j []) (ls.getD (j - 1) [])
    omega
  refine ⟨by rw [List.length_set]; exact hl, by omega, by omega, by omega, fun q hq => ?_, fun p q hpq hq => ?_, fun q hq => ?_, fun p hp2 => ?_, ?_⟩
  · rw [getD_set hic, if_neg (by omega)]; exact h.same q (by omega)
  · rw [getD_set hic, getD_set hic, if_neg (show ¬ p = i by omega)]
    by_cases hqi : q = i
    · rw [if_pos hqi]
      have h9 : ∀ f ∈ ls, f.length = 9 := fun f hf => (hok f hf).len
      have m1 := h.sub p (by omega)
      have m2 := at_mem (i := j) hj
      by_cases hpi : p = i - 1
      · rw [hpi, h.last]; exact hstep
      · have h1 := h.asc p (i - 1) (by omega) (by omega)
        rw [h.last] at h1
        have h3 := cmpR_trans _ _ _ (by rw [h9 _ m1, h9 _ (at_mem (i := j - 1) (by omega))]) (by rw [h9 _ (at_mem (i := j - 1) (by omega)), h9 _ m2]) (Int.le_of_lt h1) (Int.le_of_lt hstep)
        rcases Int.lt_or_eq_of_le h3 with h4 | h4
        · exact h4
        · exfalso
          have h5 := hcan _ m1 _ m2 h4
          rw [h5, cmpR_swap] at h1
          omega
    · rw [if_neg hqi]; exact h.asc p q hpq (by omega)
  · rw [getD_set hic]
    split
    · exact at_mem hj
    · exact h.sub q (by omega)
  · by_cases hpj : p = j
    · exact ⟨i, by omega, by rw [getD_set hic, if_pos rfl, hpj]⟩
    · obtain ⟨q, hq, hqe⟩ := h.sup p (by omega)
      exact ⟨q, by omega, by rw [getD_set hic, if_neg (by omega)]; exact hqe⟩
  · rw [getD_set hic, if_pos (by omega), Nat.add_sub_cancel]
structure CompOf (ls out : List (List Raw)) : Prop where
  sorted : out.Pairwise (fun a b => cmpR a b < 0)
  mem : ∀ f, f ∈ out ↔ f ∈ ls
theorem pairwise_of {l : List (List Raw)} (h : Asc l l.length) : l.Pairwise (fun a b => cmpR a b < 0) := by
  rw [List.pairwise_iff_getElem]
  intro p q hp hq hpq
  have := h p q hpq hq
  rw [List.getD_eq_getElem?_getD, List.getElem?_eq_getElem hp, List.getD_eq_getElem?_getD, List.getElem?_eq_getElem hq] at this
  exact this
theorem Cmp.done {ls cur : List (List Raw)} {i : Nat} (h : Cmp ls cur i ls.length) : CompOf ls (cur.take i) := by
  have hlt := h.lt
  have hl := h.len
  have hg : ∀ q, q < i → (cur.take i).getD q [] = cur.getD q [] := fun q hq => by
    rw [List.getD_eq_getElem?_getD, List.getElem?_take, if_pos hq, List.getD_eq_getElem?_getD]
  have hli : (cur.take i).length = i := by rw [List.length_take]; omega
  refine ⟨pairwise_of (fun p q hpq hq => ?_), fun f => ?_⟩
  · rw [hli] at hq
    rw [hg p (by omega), hg q hq]; exact h.asc p q hpq hq
  · rw [mem_getD]
    constructor
    · rintro ⟨q, hq, rfl⟩
      rw [hli] at hq
      rw [hg q hq]; exact h.sub q hq
    · intro hf
      obtain ⟨p, hp, rfl⟩ := mem_getD.1 hf
      obtain ⟨q, hq, he⟩ := h.sup p hp
      exact ⟨q, by rw [hli]; exact hq, by rw [hg q hq]; exact he⟩
theorem comp_all {ls : List (List Raw)} (h : Asc ls ls.length) : CompOf ls ls := ⟨pairwise_of h, fun _ => Iff.rfl⟩

theorem pd88 (ls : List (List Raw)) (hok : AOk 1000000000 ls) (hn : ls.length ≤ 1000) (hcan : ∀ a ∈ ls, ∀ b ∈ ls, cmpR a b = 0 → a = b) (hord : ∀ p q, p < q → q < ls.length → cmpR (ls.getD p []) (ls.getD q []) ≤ 0) :
    ∃ H1 res, (fun H1 res => ∃ out, H1 = [.row true (rowsF out)] ∧ res = PV.lsl 0 0 out.length 27 ∧ CompOf ls out) H1 res ∧ Den Tryz.prog 88 [.row true (rowsF ls)] [.lsl 0 0 ls.length 27, eqV] H1 res := by
  obtain ⟨n, hnn⟩ : ∃ n, ls.length = n := ⟨_, rfl⟩
  rw [hnn] at hn ⊢
  refine den_some tabOk mixed Tryz.func88 (cd := _) rfl (by decide) rfl (n := 64) rfl rfl (m := 1) rfl ?_
  simp (dsimp := false) (disch := omega) only [List.replicate, rules, tys, eq_self, ↓reduceIte]
  refine Br.dec ?_ ?_
  · intro h1 h2
    simp (dsimp := false) (disch := omega) only [h2, Ap_endR_ret, rules]
    exact ⟨[.row true (rowsF ls)], .lsl 0 0 n 27, ⟨ls, rfl, by rw [hnn], comp_all (fun p q h3 h4 => by omega)⟩, RetOK.lentB (cd := True ∧ True) (vs := [.lsl 0 0 n 27]) rfl ⟨trivial, trivial⟩ rfl trivial rfl rfl rfl⟩
  · intro h1 h2
    simp (dsimp := false) (disch := omega) only [h2, rules]
    refine WA.loop (α := Nat) (fun k => ⟨[.lsl 0 0 n 27, eqV, .any, .any, .nilsl, .int .i64 k] ++ List.replicate 60 .any, [.row true (rowsF ls)]⟩)
      (fun k => n + 1 - k) (fun k => 1 ≤ k ∧ k ≤ n ∧ Asc ls k) 1 ?_ ?_ ?_
    · refine Weak.keep [0] (by simp) rfl ?_ ?_
      · simp [leVs, leV, le1]
      · simp [leH, leO]
    · exact ⟨Nat.le_refl _, by omega, fun p q h3 h4 => by omega⟩
    · rintro k ⟨hk1, hkn, hasc⟩
      simp (dsimp := false) (disch := omega) only [List.replicate, rules, tys, eq_self, ↓reduceIte]
      refine Br.dec ?_ ?_
      · intro h3 h4
        obtain ⟨m, rfl⟩ : ∃ m, k = m + 1 := ⟨k - 1, by omega⟩
        have hp1 : (((m + 1 : Nat) : Int) - 1) = (m : Int) := by omega
        have hx := hok.at (i := m + 1) (by omega)
        have hy := hok.at (i := m) (by omega)
        have hden := pd89 _ _ hx hy
        have r1 := rowsF_getD ls (m + 1)
        have r2 := rowsF_getD ls m
        obtain ⟨x, hxx⟩ : ∃ x, ls.getD (m + 1) [] = x := ⟨_, rfl⟩
        obtain ⟨y, hyy⟩ : ∃ x, ls.getD m [] = x := ⟨_, rfl⟩
        rw [hxx] at hx hden r1
        rw [hyy] at hy hden r2
        have rl := rowsF_length ls
        have x27 := flatF_take27 hx.len
        have y27 := flatF_take27 hy.len
        have fx := flatF_length x
        have fy := flatF_length y
        have lx := hx.len
        have ly := hy.len
        obtain ⟨z, hz⟩ : ∃ z, cmpR x y = z := ⟨_, rfl⟩
        rw [hz] at hden
        unfold RL at hden
        simp (dsimp := false) (disch := omega) only [h4, rules]
        refine Draw.intro (by kernel_rfl) ?_
        simp (dsimp := false) (disch := omega) only [hp1, r1, r2, x27, y27, flatF_fv, rl, wrap64, rules, tys, eq_self, ↓reduceIte]
        repeat refine And.intro (by omega) ?_
        refine GoCall.pure hden (by simp [fzAs, fzA, flat_fz, flatF_fv]) ?_
        simp (dsimp := false) (disch := omega) only [flat_ids, List.append_nil, rules]
        refine Br.beqInt ?_ ?_
        · intro h5 h6
          simp (dsimp := false) (disch := omega) only [h6, rules, tys, eq_self, ↓reduceIte]
          repeat refine And.intro (by omega) ?_
          have hq0 : Cmp ls ls (m + 1) (m + 1 + 1) := by
            refine ⟨rfl, by omega, Nat.le_refl _, by omega, fun q _ => rfl, hasc, fun q hq => at_mem (by omega), fun p hp => ?_, ?_⟩
            · by_cases hpm : p = m + 1
              · refine ⟨m, by omega, ?_⟩
                rw [hpm, hxx, hyy]
                exact (hcan _ (hxx ▸ at_mem (by omega)) _ (hyy ▸ at_mem (by omega)) (by rw [hz]; exact h5)).symm
              · exact ⟨p, by omega, rfl⟩
            · rw [show m + 1 - 1 = m by omega, show m + 1 + 1 - 1 = m + 1 by omega, hxx, hyy]
              exact (hcan _ (hxx ▸ at_mem (by omega)) _ (hyy ▸ at_mem (by omega)) (by rw [hz]; exact h5)).symm
          clear hden hxx hyy hx hy x27 y27 fx fy lx ly r1 r2 hz
          refine WA.loop (α := Nat × Nat × List (List Raw)) (fun ⟨i, k2, cur⟩ => ⟨[.lsl 0 0 n 27, eqV, .any, .any, .nilsl, .int .i64 i, .lsl 0 (m + 1) (n - (m + 1)) 27, .int .i64 k2] ++ List.replicate 58 .any, [.row true (rowsF cur)]⟩)
            (fun ⟨_, k2, _⟩ => n - k2) (fun ⟨i, k2, cur⟩ => 1 ≤ k2 ∧ Cmp ls cur i (m + 1 + k2)) (m + 1, 1, ls) ?_ ?_ ?_
          · refine Weak.keep [0] (by simp) rfl ?_ ?_
            · simp [leVs, leV, le1]
            · simp [leH, leO]
          · exact ⟨Nat.le_refl _, hq0⟩
          · rintro ⟨i, k2, cur⟩ ⟨hk2, hc⟩
            have hcl := hc.len
            have hclt := hc.lt
            have hcle := hc.le
            simp (dsimp := false) (disch := omega) only [List.replicate, rules, tys, eq_self, ↓reduceIte]
            refine Br.dec ?_ ?_
            · intro g1 g2
              obtain ⟨p, rfl⟩ : ∃ p, k2 = p + 1 := ⟨k2 - 1, by omega⟩
              have hp1 : (((p + 1 : Nat) : Int) - 1) = (p : Int) := by omega
              have e1 : cur.getD (m + 1 + (p + 1)) [] = ls.getD (m + 1 + (p + 1)) [] := hc.same _ (by omega)
              have e2 : cur.getD (m + 1 + p) [] = ls.getD (m + 1 + p) [] := hc.same _ (by omega)
              have hx := hok.at (i := m + 1 + (p + 1)) (by omega)
              have hy := hok.at (i := m + 1 + p) (by omega)
              have hden := pd89 _ _ hx hy
              have r1 := rowsF_getD cur (m + 1 + (p + 1))
              have r2 := rowsF_getD cur (m + 1 + p)
              have r4 := rowsF_getD cur i
              have hil : (cur.getD i []).length = 9 := by rw [hc.same i (Nat.le_refl _)]; exact (hok.at (by omega)).len
              have fi := flatF_length (cur.getD i [])
              rw [e1] at r1
              rw [e2] at r2
              obtain ⟨x, hxx⟩ : ∃ x, ls.getD (m + 1 + (p + 1)) [] = x := ⟨_, rfl⟩
              obtain ⟨y, hyy⟩ : ∃ x, ls.getD (m + 1 + p) [] = x := ⟨_, rfl⟩
              obtain ⟨c0, hc0⟩ : ∃ x, cur.getD i [] = x := ⟨_, rfl⟩
              rw [hc0] at r4 hil fi
              rw [hxx] at hx hden r1
              rw [hyy] at hy hden r2
              have rl2 := rowsF_length cur
              have x27 := flatF_take27 hx.len
              have y27 := flatF_take27 hy.len
              have fx := flatF_length x
              have fy := flatF_length y
              have lx := hx.len
              have ly := hy.len
              have gx := flat_length x
              have di : List.drop 27 (flatF c0) = [] := flatF_drop27 hil
              have hst : (rowsF cur).set i (flatF x) = rowsF (cur.set i x) := rowsF_set cur i x
              obtain ⟨z, hz⟩ : ∃ z, cmpR x y = z := ⟨_, rfl⟩
              rw [hz] at hden
              obtain ⟨bz, hbz⟩ : ∃ b, (z == 0) = b := ⟨_, rfl⟩
              rw [hbz] at hden
              unfold RL at hden
              simp (dsimp := false) (disch := omega) only [g2, rules]
              refine Draw.intro (by kernel_rfl) ?_
              simp (dsimp := false) (disch := omega) only [hp1, r1, r2, x27, y27, flatF_fv, rl2, wrap64, rules, tys, eq_self, ↓reduceIte]
              repeat refine And.intro (by omega) ?_
              refine GoCall.pure hden (by simp [fzAs, fzA, flat_fz, flatF_fv]) ?_
              cases bz with
              | true =>
                have hz0 : z = 0 := by simpa using hbz
                simp (dsimp := false) (disch := omega) only [flat_ids, List.append_nil, Bool.not_true, wrap64, rules, tys, eq_self, ↓reduceIte]
                refine Ap_loop (i, p + 1 + 1, cur) (by dsimp only; omega) ?_ ⟨by omega, ?_⟩
                · refine Weak.keep [0] (by simp) rfl ?_ ?_
                  · simp [leVs, leV, le1]
                  · simp [leH, leO]
                · refine hc.skip (by omega) ?_
                  rw [show m + 1 + (p + 1) - 1 = m + 1 + p by omega, hxx, hyy]
                  exact hcan _ (hxx ▸ at_mem (by omega)) _ (hyy ▸ at_mem (by omega)) (by rw [hz]; exact hz0)
              | false =>
                have hz0 : z ≠ 0 := by simpa using hbz
                simp (dsimp := false) (disch := omega) only [flat_ids, flat_fz, List.append_nil, Bool.not_false, r1, r4, x27, flatF_fv, rl2, fi, hil, gx, lx, di, fx, hst, wrap64, rules, tys, eq_self, ↓reduceIte, Nat.reduceMul, Nat.reduceLT, Nat.reduceLeDiff]
                repeat refine And.intro (by omega) ?_
                refine Ap_loop (i + 1, p + 1 + 1, cur.set i x) (by dsimp only; omega) ?_ ⟨by omega, ?_⟩
                · refine Weak.keep [0] (by simp) rfl ?_ ?_
                  · simp [leVs, leV, le1]
                  · simp [leH, leO]
                · have := hc.take hok hcan hord (by omega) (by rw [show m + 1 + (p + 1) - 1 = m + 1 + p by omega, hxx, hyy, hz]; exact hz0)
                  rw [hxx] at this
                  exact this
            · intro g1 g2
              have hkk : m + 1 + k2 = ls.length := by omega
              rw [hkk] at hc
              have hdone := hc.done
              have rl2 := rowsF_length cur
              have htk : List.take i (rowsF cur) = rowsF (cur.take i) := by simp [rowsF]
              have htl : (cur.take i).length = i := by rw [List.length_take]; omega
              simp (dsimp := false) (disch := omega) only [g2, rl2, htk, Ap_endR_ret, rules, tys, eq_self, ↓reduceIte, Nat.reduceBEq]
              repeat refine And.intro (by omega) ?_
              exact ⟨[.row true (rowsF (cur.take i))], .lsl 0 0 i 27, ⟨cur.take i, rfl, by rw [htl], hdone⟩, RetOK.lentB (cd := True ∧ True) (vs := [.lsl 0 0 i 27]) rfl ⟨trivial, trivial⟩ rfl trivial rfl rfl rfl⟩
        · intro h5 h6
          simp (dsimp := false) (disch := omega) only [h6, wrap64, rules, tys, eq_self, ↓reduceIte]
          refine Ap_loop (m + 1 + 1) (by omega) ?_ ⟨by omega, by omega, fun p q h7 h8 => ?_⟩
          · refine Weak.keep [0] (by simp) rfl ?_ ?_
            · simp [leVs, leV, le1]
            · simp [leH, leO]
          · by_cases hq : q = m + 1
            · subst hq
              have hlt : cmpR (ls.getD m []) (ls.getD (m + 1) []) < 0 := by
                have e1 := hord m (m + 1) (by omega) (by omega)
                have e2 := cmpR_swap (ls.getD (m + 1) []) (ls.getD m [])
                rw [hxx, hyy] at e1 e2 ⊢
                omega
              by_cases hpm : p = m
              · rw [hpm]; exact hlt
              · have e1 := hasc p m (by omega) (by omega)
                have e2 := hord p (m + 1) (by omega) (by omega)
                rcases Int.lt_or_eq_of_le e2 with e3 | e3
                · exact e3
                · exfalso
                  have e4 := hcan _ (at_mem (by omega)) _ (at_mem (by omega)) e3
                  rw [e4, cmpR_swap] at e1
                  omega
            · exact hasc p q h7 (by omega)
      · intro h3 h4
        have hkn2 : k = n := by omega
        subst hkn2
        simp (dsimp := false) (disch := omega) only [h4, Ap_endR_ret, rules, Nat.reduceBEq]
        exact ⟨[.row true (rowsF ls)], .lsl 0 0 k 27, ⟨ls, rfl, by rw [hnn], comp_all (fun p q h5 h6 => hasc p q h5 (by omega))⟩, RetOK.lentB (cd := True ∧ True) (vs := [.lsl 0 0 k 27]) rfl ⟨trivial, trivial⟩ rfl trivial rfl rfl rfl⟩

end Go.Proofs.YtddnnhlcpffbdaaGreat

namespace Go.Proofs.YtddnnhlcpffbdaaGreat
open Go.AM Go.Pl
set_option maxRecDepth 100000
set_option maxHeartbeats 4000000

def outS (cs : List (List Raw)) : List (List Raw) := (ncs cs).map nrmR
theorem outS_snoc_c {cs : List (List Raw)} {l : List Raw} (h : constB l = true) : outS (cs ++ [l]) = outS cs := by simp [outS, ncs, List.filter_append, h]
theorem outS_snoc {cs : List (List Raw)} {l : List Raw} (h : constB l = false) : outS (cs ++ [l]) = outS cs ++ [nrmR l] := by simp [outS, ncs, List.filter_append, h]
theorem violB_snoc {cs : List (List Raw)} {l : List Raw} : violB (cs ++ [l]) = (violB cs || (constB l && decide (co l 8 < 0))) := by simp [violB, List.any_append]
theorem take_snoc {cs : List (List Raw)} {i : Nat} (h : i < cs.length) : cs.take (i + 1) = cs.take i ++ [cs.getD i []] := by
  rw [List.take_succ_eq_append_getElem h, List.getD_eq_getElem?_getD, List.getElem?_eq_getElem h]; rfl
theorem violB_of {cs : List (List Raw)} {i : Nat} (h : violB (cs.take i) = true) : violB cs = true := by
  unfold violB at h ⊢
  rw [List.any_eq_true] at h ⊢
  obtain ⟨l, hl, h2⟩ := h
  exact ⟨l, List.mem_of_mem_take hl, h2⟩
theorem outS_len {cs : List (List Raw)} {i : Nat} : (outS (cs.take i)).length ≤ (ncs cs).length := by
  unfold outS
  rw [List.length_map]
  unfold ncs
  exact List.Sublist.length_le (List.Sublist.filter _ (List.take_sublist i cs))
theorem take_rows {ls : List (List Raw)} {n : Nat} (h : ls.length ≤ n) : List.take n (rowsF ls) = rowsF ls := List.take_of_length_le (by rw [rowsF_length]; exact h)
theorem rows_snoc (ls : List (List Raw)) (x : List Raw) : rowsF ls ++ [flatF x] = rowsF (ls ++ [x]) := by simp [rowsF]
theorem flat_const' {l : List Raw} (h : l.length = 9) : ((flat l).drop 24) = [.fv (.lit (.bool (l.getD 8 rz).neg)), .fv (.sl (u32s (l.getD 8 rz).num)), .fv (.sl (u32s (l.getD 8 rz).den))] := by
  match l, h with
  | [a, b, c, d, e, f, g, i, j], _ => rfl

theorem pd44 (cs : List (List Raw)) (hok : AOk 1000000000 cs) (hn : cs.length ≤ 1000) (hlo : ∀ l ∈ cs, ¬ IsConst l → LOk 1000 l) (h12 : (ncs cs).length ≤ 12) :
    Den Tryz.prog 44 [] [.fv (.sl (rowsF cs))] [] (if violB cs then .tup [.fv (.sl []), .bool false] else .tup [.fv (.sl (rowsF (sysL cs []))), .bool true]) := by
  obtain ⟨n, hnn⟩ : ∃ n, cs.length = n := ⟨_, rfl⟩
  obtain ⟨R, hR⟩ : ∃ R : PV, (if violB cs then .tup [.fv (.sl []), .bool false] else .tup [.fv (.sl (rowsF (sysL cs []))), .bool true]) = R := ⟨_, rfl⟩
  rw [hR]
  have rl := rowsF_length cs
  rw [hnn] at rl
  refine den_of tabOk mixed Tryz.func44 (cd := _) rfl (by decide) rfl (n := 28) rfl rfl (m := 0) rfl ?_
  simp (dsimp := false) (disch := omega) only [List.replicate, rl, rules, tys]
  refine WA.loop (α := Nat × List (List Raw)) (fun ⟨i, out⟩ => ⟨[.fv (.sl (rowsF cs)), .any, .nilsl, .bool false, .lsl 0 0 out.length 27, .any, .any, .fv (.sl (rowsF cs)), .int .i64 n, .int .i64 i] ++ List.replicate 19 .any, [.row true (rowsF out)]⟩)
    (fun ⟨i, _⟩ => n - i) (fun ⟨i, out⟩ => i ≤ n ∧ out = outS (cs.take i) ∧ violB (cs.take i) = false) (0, []) ?_ ?_ ?_
  · refine Weak.nil 4 27 (by decide) rfl ?_
    refine Weak.keep [0] (by simp) rfl ?_ ?_
    · simp [leVs, leV, le1]
    · simp [leH, leO]
      rfl
  · exact ⟨Nat.zero_le _, rfl, rfl⟩
  · rintro ⟨i, out⟩ ⟨hi, hout, hviol⟩
    have hol : out.length ≤ 12 := by rw [hout]; exact Nat.le_trans outS_len h12
    obtain ⟨L, hL⟩ : ∃ L, out.length = L := ⟨_, rfl⟩
    have rlo := rowsF_length out
    rw [hL] at rlo hol
    dsimp only
    rw [hL]
    simp (dsimp := false) (disch := omega) only [List.replicate, rules, tys, eq_self, ↓reduceIte]
    refine Br.dec ?_ ?_
    · intro h1 h2
      have hsn := take_snoc (cs := cs) (i := i) (by omega)
      have hx := hok.at (i := i) (by omega)
      have hmem := at_mem (ls := cs) (i := i) (by omega)
      have r1 := rowsF_getD cs i
      obtain ⟨x, hxx⟩ : ∃ x, cs.getD i [] = x := ⟨_, rfl⟩
      rw [hxx] at hx hmem r1 hsn
      have hc := den25 x hx
      have lx := hx.len
      have x27 := flatF_take27 lx
      have fx := flatF_length x
      have gx := flat_length x
      have gx27 := flat_take27 lx
      have hfc := flat_const' lx
      obtain ⟨b, hb⟩ : ∃ b, constB x = b := ⟨_, rfl⟩
      rw [hb] at hc
      unfold RL at hc
      simp (dsimp := false) (disch := omega) only [List.append_nil, h2, r1, x27, flatF_fv, fx, gx, lx, gx27, rules, tys, eq_self, ↓reduceIte, Nat.reduceAdd, Nat.reduceMul, Nat.reduceLT, Nat.reduceLeDiff]
      repeat refine And.intro (by omega) ?_
      refine GoCall.pure hc (by simp [fzAs, fzA, flat_fz, flatF_fv]) ?_
      cases b with
      | true =>
        have h36 := den36 (x.getD 8 rz) ((hx.at 8).mono (by decide))
        have hco : co x 8 = (x.getD 8 rz).q := rfl
        obtain ⟨r, hr⟩ : ∃ r, x.getD 8 rz = r := ⟨_, rfl⟩
        rw [hr] at h36 hfc hco
        unfold Raw.v at h36
        simp (dsimp := false) (disch := omega) only [flat_ids, List.append_nil, hfc, gx, lx, rules, tys, eq_self, ↓reduceIte, Nat.reduceAdd, Nat.reduceMul, Nat.reduceLeDiff]
        repeat refine And.intro (by omega) ?_
        refine GoCall.pure h36 rfl ?_
        simp (dsimp := false) (disch := omega) only [List.append_nil, rules, tys, eq_self, ↓reduceIte, Nat.reduceAdd]
        refine Br.dec ?_ ?_
        · intro h3 h4
          have hv : violB (cs.take (i + 1)) = true := by
            rw [hsn, violB_snoc, hb, hco, decide_eq_true (sgq_neg_iff.1 h3)]; simp
          rw [if_pos (violB_of hv)] at hR
          subst hR
          simp (dsimp := false) (disch := omega) only [h4, Ap_end_ret, rules]
          refine RetOK.pure rfl ⟨trivial, trivial, trivial⟩ rfl
        · intro h3 h4
          have hv : violB (cs.take (i + 1)) = false := by
            rw [hsn, violB_snoc, hb, hco, decide_eq_false (fun h => h3 (sgq_neg_iff.2 h)), hviol]; simp
          simp (dsimp := false) (disch := omega) only [h4, wrap64, rules, tys, eq_self, ↓reduceIte, Nat.reduceBEq]
          refine Ap_loop (i + 1, out) (by dsimp only; omega) ?_ ⟨by omega, by rw [hsn, outS_snoc_c hb]; exact hout, hv⟩
          refine Weak.keep [0] (by simp) rfl ?_ ?_
          · simp [leVs, leV, le1]
            omega
          · simp [leH, leO]
      | false =>
        have hnc : ¬ IsConst x := fun h => by rw [(constB_iff lx).2 h] at hb; cases hb
        have hN := den12 x (hlo x hmem hnc)
        have hv : violB (cs.take (i + 1)) = false := by
          rw [hsn, violB_snoc, hb, hviol]; simp
        have hnl := nrmR_len lx
        change Den Tryz.prog _ [] [RL x] [] (RL (nrmR x)) at hN
        have hos := outS_snoc (cs := cs.take i) hb
        have hrs := rows_snoc out (nrmR x)
        obtain ⟨y, hy⟩ : ∃ y, nrmR x = y := ⟨_, rfl⟩
        rw [hy] at hN hnl hos hrs
        have gy := flat_length y
        have htk := take_rows (ls := out) (n := L) (by omega)
        have y27 := flatF_take27 hnl
        unfold RL at hN
        simp (dsimp := false) (disch := omega) only [flat_ids, List.append_nil, gx27, gx, lx, rules, tys, eq_self, ↓reduceIte, Nat.reduceAdd, Nat.reduceMul, Nat.reduceLeDiff]
        repeat refine And.intro (by omega) ?_
        refine GoCall.pure hN (by simp [fzAs, fzA, flat_fz, flatF_fv]) ?_
        simp (dsimp := false) (disch := omega) only [flat_ids, flat_reloc, flat_fz, List.append_nil, gy, hnl, htk, y27, hrs, rlo, wrap64, rules, tys, eq_self, ↓reduceIte, Nat.reduceAdd, Nat.reduceMul, Nat.reduceBEq, Nat.reduceLT, Nat.reduceLeDiff]
        repeat refine And.intro (by omega) ?_
        refine Ap_loop (i + 1, out ++ [y]) (by dsimp only; omega) ?_ ⟨by omega, by rw [hsn, hos, hout], hv⟩
        refine Weak.keep [3] (by simp) rfl ?_ ?_
        · simp [leVs, leV, le1]
          omega
        · simp [leH, leO]
    · intro h1 h2
      have hin : i = n := by omega
      have htk : cs.take i = cs := List.take_of_length_le (by omega)
      rw [htk] at hout hviol
      rw [hviol, if_neg (by simp)] at hR
      have h9 : ∀ l ∈ cs, l.length = 9 := fun l hl => (hok l hl).len
      have hoo : AOk 1000000000 out := fun f hf => by
        rw [hout] at hf
        obtain ⟨l, hl, rfl⟩ := List.mem_map.1 hf
        obtain ⟨h3, h4⟩ := (mem_ncs h9).1 hl
        exact (nrmR_ok (hlo l h3 h4) (by decide)).mono (by decide)
      obtain ⟨ls', hsrt, hs86⟩ := pd86 out hoo (by omega)
      have hok' := hoo.of_mem hsrt.mem
      have hl' := hsrt.len
      have hcan : ∀ a ∈ ls', ∀ b ∈ ls', cmpR a b = 0 → a = b := by
        intro a ha b hb hab
        have key : ∀ f ∈ ls', IsCn f := fun f hf => by
          have := (hsrt.mem f).1 hf
          rw [hout] at this
          obtain ⟨l, hl, rfl⟩ := List.mem_map.1 this
          exact nrmR_cn (h9 l ((mem_ncs h9).1 hl).1)
        exact cn_eq (key a ha) (key b hb) hab
      obtain ⟨H1, res, ⟨out2, rfl, rfl, hcomp⟩, h88⟩ := pd88 ls' hok' (by omega) hcan hsrt.ord
      have hsys : IsSys cs out2 := ⟨hcomp.sorted, fun f => by
        rw [hcomp.mem, hsrt.mem, hout]
        unfold outS
        rw [List.mem_map]
        constructor
        · rintro ⟨l, hl, rfl⟩
          obtain ⟨h3, h4⟩ := (mem_ncs h9).1 hl
          exact ⟨l, h3, h4, rfl⟩
        · rintro ⟨l, h3, h4, rfl⟩
          exact ⟨l, (mem_ncs h9).2 ⟨h3, h4⟩, rfl⟩⟩
      have he := hsys.eq h9
      rw [← he] at hR
      have hL2 : ls'.length = L := by omega
      rw [hL] at hs86
      rw [hL2] at h88
      have htk2 := take_rows (ls := out2) (Nat.le_refl _)
      have rl2 := rowsF_length out2
      subst hR
      simp (dsimp := false) (disch := omega) only [h2, rules, Nat.reduceBEq]
      refine GoCall.lend 0 hs86 rfl rfl trivial rfl rfl rfl ?_
      simp (dsimp := false) (disch := omega) only [List.append_nil, rules]
      refine GoCall.lend 0 h88 rfl rfl trivial rfl rfl rfl ?_
      simp (dsimp := false) (disch := omega) only [List.append_nil, Ap_end_ret, rules]
      refine RetOK.pure (vs := [.lsl 0 0 out2.length 27, .bool true]) rfl ⟨trivial, trivial, trivial⟩ (show fzX [Ob.row true (rowsF out2)] [] (.tup [.lsl 0 0 out2.length 27, .bool true]) = _ from ?_)
      simp (disch := omega) only [htk2, rl2, List.drop_zero, Nat.zero_add, Nat.le_refl, ↓reduceIte, List.idxOf?_nil, fzX, fzV, fzVs, fzC, fz1, fz0, Option.map_some, List.getElem?_cons_zero]
end Go.Proofs.YtddnnhlcpffbdaaGreat

namespace Go.Proofs.YtddnnhlcpffbdaaGreat
open Go.AM Go.Pl
set_option maxRecDepth 100000
set_option maxHeartbeats 4000000

theorem lowL_pos {s : List (List Raw)} {v : Nat} {x : List Raw} (h : 0 < co x v) : lowL (s ++ [x]) v = lowL s v ++ [solR v x] := by simp [lowL, List.filter_append, h]
theorem lowL_not {s : List (List Raw)} {v : Nat} {x : List Raw} (h : ¬ 0 < co x v) : lowL (s ++ [x]) v = lowL s v := by simp [lowL, List.filter_append, h]
theorem highL_neg {s : List (List Raw)} {v : Nat} {x : List Raw} (h : co x v < 0) : highL (s ++ [x]) v = highL s v ++ [solR v x] := by simp [highL, List.filter_append, h]
theorem highL_not {s : List (List Raw)} {v : Nat} {x : List Raw} (h : ¬ co x v < 0) : highL (s ++ [x]) v = highL s v := by simp [highL, List.filter_append, h]
theorem restL_zero {s : List (List Raw)} {v : Nat} {x : List Raw} (h : co x v = 0) : restL (s ++ [x]) v = restL s v ++ [x] := by simp [restL, List.filter_append, h]
theorem restL_not {s : List (List Raw)} {v : Nat} {x : List Raw} (h : ¬ co x v = 0) : restL (s ++ [x]) v = restL s v := by simp [restL, List.filter_append, h]
def combs (hi lo : List (List Raw)) : List (List Raw) := hi.flatMap fun u => lo.map fun l => comb u l
theorem combs_snoc {hi lo : List (List Raw)} {u : List Raw} : combs (hi ++ [u]) lo = combs hi lo ++ lo.map (comb u) := by simp [combs]
def badU (u : List Raw) (lo : List (List Raw)) : Bool := lo.any (fun l => constB (comb u l) && decide (co (comb u l) 8 ≤ 0))
def badS (hi lo : List (List Raw)) : Bool := hi.any (fun u => badU u lo)
theorem badU_snoc {u l : List Raw} {lo : List (List Raw)} : badU u (lo ++ [l]) = (badU u lo || (constB (comb u l) && decide (co (comb u l) 8 ≤ 0))) := by simp [badU, List.any_append]
theorem badS_snoc {u : List Raw} {hi lo : List (List Raw)} : badS (hi ++ [u]) lo = (badS hi lo || badU u lo) := by simp [badS, List.any_append]
theorem any_take {α : Type} {p : α → Bool} {l : List α} {i : Nat} (h : (l.take i).any p = true) : l.any p = true := by
  rw [List.any_eq_true] at h ⊢
  obtain ⟨x, hx, h2⟩ := h
  exact ⟨x, List.mem_of_mem_take hx, h2⟩
theorem any_mem {α : Type} {p : α → Bool} {l : List α} {x : α} (hx : x ∈ l) (h : p x = true) : l.any p = true := List.any_eq_true.2 ⟨x, hx, h⟩
theorem out_viol {k : Nat} {s : List (List Raw)} {v : Nat} (hs : SysF k s) (hb : ¬ Bad s v) : ¬ Viol (outL s v) := by
  rintro ⟨o, ho, hc, hn⟩
  rcases mem_out.1 ho with ⟨h1, _⟩ | ⟨l, hl, u, hu, h1, h2, rfl⟩
  · exact hs.nc o h1 hc
  · refine hb ⟨solR v u, mem_high.2 ⟨u, hu, h2, rfl⟩, solR v l, mem_low.2 ⟨l, hl, h1, rfl⟩, hc, ?_⟩
    grind

theorem pd46 (k : Nat) (s : List (List Raw)) (v : Nat) (hv : v < 8) (hk : 1 ≤ k) (hs : SysF k s) (hz : Sw k s) :
    Den Tryz.prog 46 [] [.fv (.sl (rowsF s)), .int .i64 v] [] (if badB s v then .tup [.fv (.sl []), .bool false] else .tup [.fv (.sl (rowsF (stepL s v))), .bool true]) := by
  have hlim := hz.l.lim hs
  have h9 : ∀ l ∈ s, l.length = 9 := fun l hl => (hlim l hl).len
  have hn12 := hz.len hs
  have hlow : ∀ b ∈ lowL s v, LOk 2001 b := low_ok hlim (by decide)
  have hhigh : ∀ b ∈ highL s v, LOk 2001 b := high_ok hlim (by decide)
  have hsplit := split_length s v
  obtain ⟨n, hnn⟩ : ∃ n, s.length = n := ⟨_, rfl⟩
  have rl := rowsF_length s
  rw [hnn] at rl hn12 hsplit
  obtain ⟨R, hR⟩ : ∃ R : PV, (if badB s v then .tup [.fv (.sl []), .bool false] else .tup [.fv (.sl (rowsF (stepL s v))), .bool true]) = R := ⟨_, rfl⟩
  rw [hR]
  have hm1 := den47 (-1) (by decide)
  rw [FR_eq] at hm1
  refine den_of tabOk mixed Tryz.func46 (cd := _) rfl (by decide) rfl (n := 86) rfl rfl (m := 0) rfl ?_
  simp (dsimp := false) (disch := omega) only [List.replicate, rl, rules, tys]
  refine WA.loop (α := Nat × List (List Raw) × List (List Raw) × List (List Raw)) (fun ⟨i, lo, hi, out⟩ => ⟨[.fv (.sl (rowsF s)), .int .i64 v, .any, .any, .nilsl, .bool false, .lsl 0 0 lo.length 27, .lsl 1 0 hi.length 27, .lsl 2 0 out.length 27, .any, .any, .any, .any, .any, .any, .any, .any, .any, .any, .any, .fv (.sl (rowsF s)), .int .i64 n, .int .i64 i] ++ List.replicate 65 .any, [.row true (rowsF lo), .row true (rowsF hi), .row true (rowsF out)]⟩)
    (fun ⟨i, _⟩ => n - i) (fun ⟨i, lo, hi, out⟩ => i ≤ n ∧ lo = lowL (s.take i) v ∧ hi = highL (s.take i) v ∧ out = restL (s.take i) v) (0, [], [], []) ?_ ?_ ?_
  · refine Weak.nil 6 27 (by decide) rfl ?_
    refine Weak.nil 7 27 (by decide) rfl ?_
    refine Weak.nil 8 27 (by decide) rfl ?_
    refine Weak.keep [0, 1, 2] (by simp) rfl ?_ ?_
    · simp [leVs, leV, le1]
    · simp [leH, leO]
      simp [rowsF]
  · exact ⟨Nat.zero_le _, rfl, rfl, rfl⟩
  · rintro ⟨i, lo, hi, out⟩ ⟨hi1, hlo, hhi, hout⟩
    have hsz := split_length (s.take i) v
    rw [← hlo, ← hhi, ← hout, List.length_take, hnn] at hsz
    obtain ⟨L1, hL1⟩ : ∃ L, lo.length = L := ⟨_, rfl⟩
    obtain ⟨L2, hL2⟩ : ∃ L, hi.length = L := ⟨_, rfl⟩
    obtain ⟨L3, hL3⟩ : ∃ L, out.length = L := ⟨_, rfl⟩
    have rl1 := rowsF_length lo
    have rl2 := rowsF_length hi
    have rl3 := rowsF_length out
    dsimp only
    rw [hL1] at hsz rl1 ⊢
    rw [hL2] at hsz rl2 ⊢
    rw [hL3] at hsz rl3 ⊢
    have tk1 := take_rows (ls := lo) (n := L1) (by omega)
    have tk2 := take_rows (ls := hi) (n := L2) (by omega)
    have tk3 := take_rows (ls := out) (n := L3) (by omega)
    simp (dsimp := false) (disch := omega) only [List.replicate, rules, tys, eq_self, ↓reduceIte]
    refine Br.dec ?_ ?_
    · intro h1 h2
      have hsn := take_snoc (cs := s) (i := i) (by omega)
      have hmem := at_mem (ls := s) (i := i) (by omega)
      have r1 := rowsF_getD s i
      obtain ⟨x, hxx⟩ : ∃ x, s.getD i [] = x := ⟨_, rfl⟩
      rw [hxx] at hmem r1 hsn
      have hx := hlim x hmem
      have lx := hx.len
      have x27 := flatF_take27 lx
      have fx := flatF_length x
      have gx := flat_length x
      have gx27 := flat_take27 lx
      by_cases h0 : co x v = 0
      · have h16 := den16n x v hx hv h0
        have hls := lowL_not (s := s.take i) (v := v) (x := x) (by grind)
        have hhs := highL_not (s := s.take i) (v := v) (x := x) (by grind)
        have hrs := restL_zero (s := s.take i) h0
        have hap := rows_snoc out x
        unfold FL RL at h16
        obtain ⟨zs, hzz⟩ : ∃ zs, (x.map Raw.q).map cn = zs := ⟨_, rfl⟩
        have hzl : zs.length = 9 := by rw [← hzz]; simp [lx]
        have gz := flat_length zs
        rw [hzz] at h16
        have e1 : decide ((0 : Int) > 0) = false := rfl
        have e2 : decide ((0 : Int) < 0) = false := rfl
        simp (dsimp := false) (disch := omega) only [List.append_nil, h2, r1, x27, flatF_fv, fx, gx, lx, gx27, rules, tys, eq_self, ↓reduceIte, Nat.reduceAdd, Nat.reduceMul, Nat.reduceLT, Nat.reduceLeDiff]
        repeat refine And.intro (by omega) ?_
        refine GoCall.pure h16 (by simp [fzAs, fzA, flat_fz, flatF_fv, fz1, fz0]) ?_
        simp (dsimp := false) (disch := omega) only [flat_ids, flat_reloc, flat_fz, List.append_nil, gz, hzl, e1, gx, lx, gx27, x27, tk3, hap, rl3, wrap64, rules, tys, eq_self, ↓reduceIte, Nat.reduceAdd, Nat.reduceMul, Nat.reduceBEq, Nat.reduceLT, Nat.reduceLeDiff]
        repeat refine And.intro (by omega) ?_
        refine Ap_loop (i + 1, lo, hi, out ++ [x]) (by dsimp only; omega) ?_ ⟨by omega, by rw [hsn, hls, hlo], by rw [hsn, hhs, hhi], by rw [hsn, hrs, hout]⟩
        refine Weak.keep [0, 1, 6] (by simp) rfl ?_ ?_
        · simp [leVs, leV, le1]
          omega
        · simp [leH, leO]
      · have h16 := den16 x v hx hv h0
        have hsl : (solR v x).length = 9 := solR_len lx
        have hrs := restL_not (s := s.take i) h0
        unfold FL RL at h16
        change Den Tryz.prog 47 [] [.agg (flat x), .int .i64 v] [] (.tup [.agg (flat (solR v x)), .int .i64 (sgq (x.getD v rz).q), .int .i64 0]) at h16
        by_cases hp : 0 < co x v
        · have hls := lowL_pos (s := s.take i) hp
          have hhs := highL_not (s := s.take i) (v := v) (x := x) (by grind)
          have hap := rows_snoc lo (solR v x)
          obtain ⟨y, hy⟩ : ∃ y, solR v x = y := ⟨_, rfl⟩
          rw [hy] at h16 hsl hls hap
          have gy := flat_length y
          have y27 := flatF_take27 hsl
          have gy27 := flat_take27 hsl
          rw [show sgq (x.getD v rz).q = 1 from sgq_of_pos hp] at h16
          have e1 : decide ((1 : Int) > 0) = true := rfl
          simp (dsimp := false) (disch := omega) only [List.append_nil, h2, r1, x27, flatF_fv, fx, gx, lx, gx27, rules, tys, eq_self, ↓reduceIte, Nat.reduceAdd, Nat.reduceMul, Nat.reduceLT, Nat.reduceLeDiff]
          repeat refine And.intro (by omega) ?_
          refine GoCall.pure h16 (by simp [fzAs, fzA, flat_fz, flatF_fv, fz1, fz0]) ?_
          simp (dsimp := false) (disch := omega) only [flat_ids, flat_reloc, flat_fz, List.append_nil, gy, hsl, e1, gy27, y27, tk1, hap, rl1, wrap64, rules, tys, eq_self, ↓reduceIte, Nat.reduceAdd, Nat.reduceMul, Nat.reduceBEq, Nat.reduceLT, Nat.reduceLeDiff]
          repeat refine And.intro (by omega) ?_
          refine Ap_loop (i + 1, lo ++ [y], hi, out) (by dsimp only; omega) ?_ ⟨by omega, by rw [hsn, hls, hlo], by rw [hsn, hhs, hhi], by rw [hsn, hrs, hout]⟩
          refine Weak.keep [6, 1, 2] (by simp) rfl ?_ ?_
          · simp [leVs, leV, le1]
            omega
          · simp [leH, leO]
        · have hneg : co x v < 0 := by grind
          have hls := lowL_not (s := s.take i) (v := v) (x := x) hp
          have hhs := highL_neg (s := s.take i) hneg
          have hap := rows_snoc hi (solR v x)
          obtain ⟨y, hy⟩ : ∃ y, solR v x = y := ⟨_, rfl⟩
          rw [hy] at h16 hsl hhs hap
          have gy := flat_length y
          have y27 := flatF_take27 hsl
          have gy27 := flat_take27 hsl
          rw [show sgq (x.getD v rz).q = -1 from sgq_of_neg hneg] at h16
          have e1 : decide ((-1 : Int) > 0) = false := rfl
          have e2 : decide ((-1 : Int) < 0) = true := rfl
          simp (dsimp := false) (disch := omega) only [List.append_nil, h2, r1, x27, flatF_fv, fx, gx, lx, gx27, rules, tys, eq_self, ↓reduceIte, Nat.reduceAdd, Nat.reduceMul, Nat.reduceLT, Nat.reduceLeDiff]
          repeat refine And.intro (by omega) ?_
          refine GoCall.pure h16 (by simp [fzAs, fzA, flat_fz, flatF_fv, fz1, fz0]) ?_
          simp (dsimp := false) (disch := omega) only [flat_ids, flat_reloc, flat_fz, List.append_nil, gy, hsl, e1, e2, gy27, y27, tk2, hap, rl2, wrap64, rules, tys, eq_self, ↓reduceIte, Nat.reduceAdd, Nat.reduceMul, Nat.reduceBEq, Nat.reduceLT, Nat.reduceLeDiff]
          repeat refine And.intro (by omega) ?_
          refine Ap_loop (i + 1, lo, hi ++ [y], out) (by dsimp only; omega) ?_ ⟨by omega, by rw [hsn, hls, hlo], by rw [hsn, hhs, hhi], by rw [hsn, hrs, hout]⟩
          refine Weak.keep [0, 6, 2] (by simp) rfl ?_ ?_
          · simp [leVs, leV, le1]
            omega
          · simp [leH, leO]
    · intro h1 h2
      have hin : i = n := by omega
      have htk : s.take i = s := List.take_of_length_le (by omega)
      rw [htk] at hlo hhi hout
      have hbad : badB s v = badS hi lo := by rw [hlo, hhi]; rfl
      have hfin : outL s v = out ++ combs hi lo := by rw [hlo, hhi, hout]; rfl
      have hlo2 : ∀ b ∈ lo, LOk 2001 b := by rw [hlo]; exact hlow
      have hhi2 : ∀ b ∈ hi, LOk 2001 b := by rw [hhi]; exact hhigh
      have hshort := outw_short (v := v) hs hz
      rw [hfin, List.length_append, hL3] at hshort
      clear hlo hhi hout
      simp (dsimp := false) (disch := omega) only [h2, rules, Nat.reduceBEq]
      refine GoCall.pure hm1 rfl ?_
      simp (dsimp := false) (disch := omega) only [List.append_nil, rules, tys, eq_self, Nat.reduceAdd, Nat.reduceLT, Nat.reduceLeDiff]
      repeat refine And.intro (by omega) ?_
      obtain ⟨ng, hng⟩ : ∃ t, decide (((-1 : Int) : Rat).num < 0) = t := ⟨_, rfl⟩
      obtain ⟨nn, hnn2⟩ : ∃ t, N ((-1 : Int) : Rat).num.natAbs = t := ⟨_, rfl⟩
      obtain ⟨nd, hnd⟩ : ∃ t, N ((-1 : Int) : Rat).den = t := ⟨_, rfl⟩
      rw [hng, hnn2, hnd]
      have hcm : ∀ b : List Raw, LOk 2001 b → Den Tryz.prog 79 [] [RL b, .agg [.bool ng, .fv nn, .fv nd]] [] (RL (negR b)) := fun b hb => by
        have := den23 b (cn ((-1 : Int) : Rat)) (hb.mono (by decide)) (cn_ok (Bd.mono (show Bd 1 ((-1 : Int) : Rat) from ⟨by decide, by decide⟩) (by decide)))
        rw [cn_q] at this
        change Den Tryz.prog 79 [] [RL b, FR ((-1 : Int) : Rat)] [] (RL (negR b)) at this
        rw [FR_eq, hng, hnn2, hnd] at this
        exact this
      have hca : ∀ u l : List Raw, LOk 2001 u → LOk 2001 l → Den Tryz.prog 91 [] [RL u, RL (negR l)] [] (RL (comb u l)) := fun u l hu hl =>
        den21 u (negR l) (hu.mono (by decide)) ((negR_ok hl (by decide)).mono (by decide))
      clear hng hnn2 hnd hm1
      refine WA.loop (α := Nat × List (List Raw)) (fun ⟨j, out2⟩ => ⟨[.fv (.sl (rowsF s)), .int .i64 v, .any, .any, .nilsl, .bool false, .lsl 0 0 L1 27, .lsl 1 0 L2 27, .lsl 2 0 out2.length 27, .any, .any, .any, .any, .any, .ptr 3 0 0] ++ List.replicate 38 .any ++ [.lsl 1 0 L2 27, .int .i64 L2, .int .i64 j] ++ List.replicate 32 .any, [.row true (rowsF lo), .row true (rowsF hi), .row true (rowsF out2), .box true [.bool ng, .fv nn, .fv nd]]⟩)
        (fun ⟨j, _⟩ => L2 - j) (fun ⟨j, out2⟩ => j ≤ L2 ∧ out2 = out ++ combs (hi.take j) lo ∧ badS (hi.take j) lo = false) (0, out) ?_ ?_ ?_
      · refine Weak.keep [0, 1, 2, 3] (by simp) rfl ?_ ?_
        · simp [leVs, leV, le1]
          omega
        · simp [leH, leO, le1s, le1]
      · exact ⟨Nat.zero_le _, by simp [combs], rfl⟩
      · rintro ⟨j, out2⟩ ⟨hj, ho2, hb2⟩
        obtain ⟨M, hM⟩ : ∃ L, out2.length = L := ⟨_, rfl⟩
        dsimp only
        rw [hM]
        simp (dsimp := false) (disch := omega) only [List.replicate, rules, tys, eq_self, ↓reduceIte]
        refine Br.dec ?_ ?_
        · intro h3 h4
          have hsn := take_snoc (cs := hi) (i := j) (by omega)
          have hmem := at_mem (ls := hi) (i := j) (by omega)
          have r1 := rowsF_getD hi j
          obtain ⟨u, huu⟩ : ∃ x, hi.getD j [] = x := ⟨_, rfl⟩
          rw [huu] at hmem r1 hsn
          have hu := hhi2 u hmem
          have lu := hu.len
          have u27 := flatF_take27 lu
          have fu := flatF_length u
          have gu := flat_length u
          have gu27 := flat_take27 lu
          simp (dsimp := false) (disch := omega) only [List.append_nil, h4, r1, u27, flatF_fv, fu, gu, lu, rl2, rules, tys, eq_self, ↓reduceIte, Nat.reduceAdd, Nat.reduceMul, Nat.reduceLT, Nat.reduceLeDiff]
          repeat refine And.intro (by omega) ?_
          refine WA.loop (α := Nat × List (List Raw)) (fun ⟨q, out3⟩ => ⟨[.fv (.sl (rowsF s)), .int .i64 v, .any, .any, .nilsl, .bool false, .lsl 0 0 L1 27, .lsl 1 0 L2 27, .lsl 2 0 out3.length 27, .any, .any, .any, .any, .any, .ptr 3 0 0, .any, .ptr 4 0 0] ++ List.replicate 36 .any ++ [.lsl 1 0 L2 27, .int .i64 L2, .int .i64 j, .any, .any, .any, .lsl 0 0 L1 27, .int .i64 L1, .int .i64 q] ++ List.replicate 26 .any, [.row true (rowsF lo), .row true (rowsF hi), .row true (rowsF out3), .box true [.bool ng, .fv nn, .fv nd], .box true (flat u)]⟩)
            (fun ⟨q, _⟩ => L1 - q) (fun ⟨q, out3⟩ => q ≤ L1 ∧ out3 = out2 ++ (lo.take q).map (comb u) ∧ badU u (lo.take q) = false) (0, out2) ?_ ?_ ?_
          · refine Weak.keep [0, 1, 2, 3, 4] (by simp) rfl ?_ ?_
            · simp [leVs, leV, le1]
              omega
            · simp [leH, leO, le1s, le1, le_flat]
          · exact ⟨Nat.zero_le _, by simp, rfl⟩
          · rintro ⟨q, out3⟩ ⟨hq, ho3, hb3⟩
            have hM3 : out3.length ≤ 100 := by
              have e1 : out3.length = out2.length + q := by rw [ho3]; simp; omega
              have e2 : out2.length = L3 + (hi.take j).length * lo.length := by
                rw [ho2, List.length_append, hL3]; unfold combs; rw [flat_length']
              have e3 : (combs hi lo).length = hi.length * lo.length := by unfold combs; rw [flat_length']
              have e4 : (hi.take j).length = j := by rw [List.length_take]; omega
              rw [e3] at hshort
              rw [e4] at e2
              have e5 : (j + 1) * lo.length ≤ hi.length * lo.length := Nat.mul_le_mul_right _ (by omega)
              rw [Nat.add_mul] at e5
              omega
            obtain ⟨M3, hM3e⟩ : ∃ L, out3.length = L := ⟨_, rfl⟩
            have rl4 := rowsF_length out3
            rw [hM3e] at hM3 rl4
            dsimp only
            rw [hM3e]
            simp (dsimp := false) (disch := omega) only [List.replicate, rules, tys, eq_self, ↓reduceIte]
            refine Br.dec ?_ ?_
            · intro h5 h6
              have hsn3 := take_snoc (cs := lo) (i := q) (by omega)
              have hmem3 := at_mem (ls := lo) (i := q) (by omega)
              have r3 := rowsF_getD lo q
              obtain ⟨l, hll⟩ : ∃ x, lo.getD q [] = x := ⟨_, rfl⟩
              rw [hll] at hmem3 r3 hsn3
              have hl := hlo2 l hmem3
              have ll := hl.len
              have l27 := flatF_take27 ll
              have fl := flatF_length l
              have gl := flat_length l
              have gl27 := flat_take27 ll
              have h79 := hcm l hl
              have h91 := hca u l hu hl
              have hnl := negR_len ll
              have hcl := comb_len lu ll
              have hbs := badU_snoc (u := u) (l := l) (lo := lo.take q)
              have hcok := comb_ok hu hl (by decide)
              have hap := rows_snoc out3 (comb u l)
              have hmp : (lo.take (q + 1)).map (comb u) = (lo.take q).map (comb u) ++ [comb u l] := by rw [hsn3, List.map_append]; rfl
              have hbadall : badU u (lo.take (q + 1)) = true → badB s v = true := fun hb => by
                rw [hbad]
                exact any_mem hmem (any_take hb)
              obtain ⟨nl, hnle⟩ : ∃ x, negR l = x := ⟨_, rfl⟩
              obtain ⟨d, hd⟩ : ∃ x, comb u l = x := ⟨_, rfl⟩
              rw [hnle] at h79 h91 hnl
              rw [hd] at h91 hcl hbs hcok hap hmp
              have gnl := flat_length nl
              have gd := flat_length d
              have gd27 := flat_take27 hcl
              have d27 := flatF_take27 hcl
              have hfc := flat_const' hcl
              have h74 := den25 d (hcok.mono (by decide))
              have h36 := den36 (d.getD 8 rz) ((hcok.at 8).mono (by decide))
              have hco : co d 8 = (d.getD 8 rz).q := rfl
              have tk3 := take_rows (ls := out3) (n := M3) (by omega)
              obtain ⟨r, hr⟩ : ∃ r, d.getD 8 rz = r := ⟨_, rfl⟩
              rw [hr] at h36 hfc hco
              unfold Raw.v at h36
              obtain ⟨b, hb⟩ : ∃ b, constB d = b := ⟨_, rfl⟩
              rw [hb] at h74 hbs
              unfold RL at h79 h91 h74
              simp (dsimp := false) (disch := omega) only [List.append_nil, h6, r3, l27, flatF_fv, fl, gl, ll, rules, tys, eq_self, ↓reduceIte, Nat.reduceAdd, Nat.reduceMul, Nat.reduceLT, Nat.reduceLeDiff]
              repeat refine And.intro (by omega) ?_
              refine Draw.intro (by kernel_rfl) ?_
              simp (dsimp := false) (disch := omega) only [gu27, gl27, gu, lu, gl, ll, rules, tys, eq_self, ↓reduceIte, Nat.reduceAdd, Nat.reduceMul, Nat.reduceLeDiff]
              repeat refine And.intro (by omega) ?_
              refine GoCall.pure h79 (by simp [fzAs, fzA, flat_fz, flatF_fv, fzs, fz0]) ?_
              simp (dsimp := false) (disch := omega) only [flat_ids, flat_reloc, List.append_nil, rules, Nat.reduceAdd]
              repeat refine And.intro (by omega) ?_
              refine GoCall.pure h91 (by simp [fzAs, fzA, flat_fz, flatF_fv]) ?_
              simp (dsimp := false) (disch := omega) only [flat_ids, flat_reloc, List.append_nil, gd, hcl, gd27, rules, tys, eq_self, ↓reduceIte, Nat.reduceAdd, Nat.reduceMul, Nat.reduceLT, Nat.reduceLeDiff]
              repeat refine And.intro (by omega) ?_
              refine GoCall.pure h74 (by simp [fzAs, fzA, flat_fz, flatF_fv]) ?_
              cases b with
              | true =>
                simp (dsimp := false) (disch := omega) only [flat_ids, List.append_nil, hfc, gd, hcl, rules, tys, eq_self, ↓reduceIte, Nat.reduceAdd, Nat.reduceMul, Nat.reduceLeDiff]
                repeat refine And.intro (by omega) ?_
                refine GoCall.pure h36 rfl ?_
                simp (dsimp := false) (disch := omega) only [List.append_nil, rules, tys, eq_self, ↓reduceIte, Nat.reduceAdd]
                refine Br.dec ?_ ?_
                · intro g1 g2
                  have hv : badU u (lo.take (q + 1)) = true := by
                    have hle : r.q ≤ 0 := by
                      have := @sgq_pos_iff r.q
                      grind
                    rw [hsn3, hbs, hco, hb3, decide_eq_true hle]; rfl
                  rw [if_pos (hbadall hv)] at hR
                  subst hR
                  simp (dsimp := false) (disch := omega) only [g2, Ap_end_ret, rules]
                  refine RetOK.pure rfl ⟨trivial, trivial, trivial⟩ rfl
                · intro g1 g2
                  have hv : badU u (lo.take (q + 1)) = false := by
                    have hle : ¬ r.q ≤ 0 := by
                      have := @sgq_pos_iff r.q
                      grind
                    rw [hsn3, hbs, hco, hb3, decide_eq_false hle]; rfl
                  simp (dsimp := false) (disch := omega) only [flat_ids, flat_fz, List.append_nil, g2, gd, hcl, gd27, d27, tk3, hap, rl4, wrap64, rules, tys, eq_self, ↓reduceIte, Nat.reduceAdd, Nat.reduceMul, Nat.reduceBEq, Nat.reduceLT, Nat.reduceLeDiff]
                  repeat refine And.intro (by omega) ?_
                  refine Ap_loop (q + 1, out3 ++ [d]) (by dsimp only; omega) ?_ ⟨by omega, by rw [hmp, ho3, List.append_assoc], hv⟩
                  refine Weak.keep [0, 1, 8, 3, 4] (by simp) rfl ?_ ?_
                  · simp [leVs, leV, le1]
                    omega
                  · simp [leH, leO, le1s, le1, le_flat]
              | false =>
                have hv : badU u (lo.take (q + 1)) = false := by rw [hsn3, hbs, hb3]; rfl
                simp (dsimp := false) (disch := omega) only [flat_ids, flat_fz, List.append_nil, gd, hcl, gd27, d27, tk3, hap, rl4, wrap64, rules, tys, eq_self, ↓reduceIte, Nat.reduceAdd, Nat.reduceMul, Nat.reduceBEq, Nat.reduceLT, Nat.reduceLeDiff]
                repeat refine And.intro (by omega) ?_
                refine Ap_loop (q + 1, out3 ++ [d]) (by dsimp only; omega) ?_ ⟨by omega, by rw [hmp, ho3, List.append_assoc], hv⟩
                refine Weak.keep [0, 1, 8, 3, 4] (by simp) rfl ?_ ?_
                · simp [leVs, leV, le1]
                  omega
                · simp [leH, leO, le1s, le1, le_flat]
            · intro h5 h6
              have hqe : q = L1 := by omega
              have htk3 : lo.take q = lo := List.take_of_length_le (by omega)
              rw [htk3] at ho3 hb3
              simp (dsimp := false) (disch := omega) only [h6, wrap64, rules, tys, eq_self, ↓reduceIte, Nat.reduceBEq]
              refine Ap_loop (j + 1, out3) (by dsimp only; omega) ?_ ⟨by omega, by rw [hsn, combs_snoc, ho3, ho2, List.append_assoc], by rw [hsn, badS_snoc, hb2, hb3]; rfl⟩
              refine Weak.keep [0, 1, 2, 3] (by simp) rfl ?_ ?_
              · simp [leVs, leV, le1]
                omega
              · simp [leH, leO, le1s, le1]
        · intro h3 h4
          have hje : j = L2 := by omega
          have htk2 : hi.take j = hi := List.take_of_length_le (by omega)
          rw [htk2] at ho2 hb2
          rw [← hfin] at ho2
          rw [hbad, hb2, if_neg (by simp)] at hR
          have hbf : ¬ Bad s v := fun hb => by
            have := (badB_iff h9).2 hb
            rw [hbad, hb2] at this; cases this
          have hvf : violB out2 = false := by
            have h9o : ∀ o ∈ out2, o.length = 9 := by rw [ho2]; exact out_len h9
            cases hvb : violB out2 with
            | false => rfl
            | true => exact absurd (by have := (violB_iff h9o).1 hvb; rwa [ho2] at this) (out_viol hs hbf)
          have h44 := pd44 out2 (by rw [ho2]; exact fun o ho => (out_ok hlim (by decide) o ho).mono (by decide)) (by
              have := outw_short (v := v) hs hz
              rw [ho2]; omega) (by rw [ho2]; exact outl_lim hv hk hs hz.l) (by rw [ho2]; exact outw_count hv hs hz)
          rw [hvf, if_neg (by simp)] at h44
          have rl5 := rowsF_length out2
          have tk5 := take_rows (ls := out2) (n := M) (by omega)
          have hstep : stepL s v = sysL out2 [] := by rw [ho2]; rfl
          rw [hstep] at hR
          subst hR
          rw [hM] at rl5
          simp (dsimp := false) (disch := omega) only [h4, rules, Nat.reduceBEq]
          refine GoCall.pure h44 (by simp [fzAs, fzA, fz1, fz0, rl5, tk5]) ?_
          simp (dsimp := false) (disch := omega) only [List.append_nil, Ap_end_ret, rules, Nat.reduceAdd]
          exact RetOK.pure rfl ⟨trivial, trivial, trivial⟩ rfl
end Go.Proofs.YtddnnhlcpffbdaaGreat

namespace Go.Proofs.YtddnnhlcpffbdaaGreat
open Go.AM Go.Pl
set_option maxRecDepth 100000
set_option maxHeartbeats 4000000

theorem pd90 (s : List (List Raw)) (v : Nat) (hv : v < 8) (hg : ∀ l ∈ s, LOk 1000 l) (hn : s.length ≤ 1000) :
    Den Tryz.prog 90 [] [.fv (.sl (rowsF s)), .int .i64 v] [] (.tup [.int .i64 (((lowL s v).length : Int) * (highL s v).length - (lowL s v).length - (highL s v).length), .bool (occ s v)]) := by
  obtain ⟨n, hnn⟩ : ∃ n, s.length = n := ⟨_, rfl⟩
  have rl := rowsF_length s
  rw [hnn] at rl hn
  have hsplit := split_length s v
  have hocc : occ s v = decide (((lowL s v).length : Int) + (highL s v).length > 0) := by
    cases ho : occ s v with
    | false =>
      obtain ⟨_, h1, h2⟩ := out_same ho
      rw [h1, h2]; rfl
    | true =>
      obtain ⟨l, hl, h0⟩ := occ_iff.1 ho
      symm
      refine decide_eq_true ?_
      by_cases hp : 0 < co l v
      · have : solR v l ∈ lowL s v := mem_low.2 ⟨l, hl, hp, rfl⟩
        have := List.length_pos_of_mem this
        omega
      · have : solR v l ∈ highL s v := mem_high.2 ⟨l, hl, by grind, rfl⟩
        have := List.length_pos_of_mem this
        omega
  rw [hocc]
  obtain ⟨A, hA⟩ : ∃ A, (lowL s v).length = A := ⟨_, rfl⟩
  obtain ⟨C, hC⟩ : ∃ C, (highL s v).length = C := ⟨_, rfl⟩
  rw [hA, hC] at hsplit ⊢
  refine den_of tabOk mixed Tryz.func90 (cd := _) rfl (by decide) rfl (n := 39) rfl rfl (m := 0) rfl ?_
  simp (dsimp := false) (disch := omega) only [List.replicate, rl, rules, tys]
  refine WA.loop (α := Nat × Nat × Nat) (fun ⟨i, a, c⟩ => ⟨[.fv (.sl (rowsF s)), .int .i64 v, .any, .any, .int .i64 0, .bool false, .int .i64 a, .int .i64 c, .any, .any, .fv (.sl (rowsF s)), .int .i64 n, .int .i64 i] ++ List.replicate 28 .any, []⟩)
    (fun ⟨i, _⟩ => n - i) (fun ⟨i, a, c⟩ => i ≤ n ∧ a = (lowL (s.take i) v).length ∧ c = (highL (s.take i) v).length) (0, 0, 0) ?_ ?_ ?_
  · refine Weak.keep [] (by simp) rfl ?_ ?_
    · simp [leVs, leV, le1]
    · simp [leH]
  · exact ⟨Nat.zero_le _, rfl, rfl⟩
  · rintro ⟨i, a, c⟩ ⟨hi, ha, hc⟩
    have hsz := split_length (s.take i) v
    rw [← ha, ← hc, List.length_take, hnn] at hsz
    simp (dsimp := false) (disch := omega) only [List.replicate, rules, tys, eq_self, ↓reduceIte]
    refine Br.dec ?_ ?_
    · intro h1 h2
      have hsn := take_snoc (cs := s) (i := i) (by omega)
      have hmem := at_mem (ls := s) (i := i) (by omega)
      have r1 := rowsF_getD s i
      obtain ⟨x, hxx⟩ : ∃ x, s.getD i [] = x := ⟨_, rfl⟩
      rw [hxx] at hmem r1 hsn
      have hx := hg x hmem
      have lx := hx.len
      have x27 := flatF_take27 lx
      have fx := flatF_length x
      have gx := flat_length x
      have gx27 := flat_take27 lx
      have hat := flat_at (rs := x) (i := v) (by omega)
      have h36 := den36 (x.getD v rz) ((hx.at v).mono (by decide))
      have hco : co x v = (x.getD v rz).q := rfl
      obtain ⟨r, hr⟩ : ∃ r, x.getD v rz = r := ⟨_, rfl⟩
      rw [hr] at hat h36 hco
      unfold Raw.v at h36
      rcases sgq_range r.q with hq | hq | hq
      · have hneg : co x v < 0 := by rw [hco, ← sgq_neg_iff, hq]; decide
        have hls := lowL_not (s := s.take i) (v := v) (x := x) (by grind)
        have hhs := highL_neg (s := s.take i) hneg
        rw [hq] at h36
        have e1 : ((-1 : Int) == 1) = false := rfl
        have e2 : ((-1 : Int) == -1) = true := rfl
        simp (dsimp := false) (disch := omega) only [List.append_nil, h2, r1, x27, flatF_fv, fx, gx, lx, hat, rules, tys, eq_self, ↓reduceIte, Nat.reduceAdd, Nat.reduceMul, Nat.reduceLT, Nat.reduceLeDiff]
        repeat refine And.intro (by omega) ?_
        refine GoCall.pure h36 rfl ?_
        simp (dsimp := false) (disch := omega) only [List.append_nil, e1, e2, wrap64, rules, tys, eq_self, ↓reduceIte]
        repeat refine And.intro (by omega) ?_
        refine Ap_loop (i + 1, a, c + 1) (by dsimp only; omega) ?_ ⟨by omega, by rw [hsn, hls, ha], by rw [hsn, hhs, List.length_append, ← hc]; rfl⟩
        refine Weak.keep [] (by simp) rfl ?_ ?_
        · simp [leVs, leV, le1]
        · simp [leH]
      · have h0 : co x v = 0 := by rw [hco, ← sgq_eq_zero, hq]
        have hls := lowL_not (s := s.take i) (v := v) (x := x) (by grind)
        have hhs := highL_not (s := s.take i) (v := v) (x := x) (by grind)
        rw [hq] at h36
        have e1 : ((0 : Int) == 1) = false := rfl
        have e2 : ((0 : Int) == -1) = false := rfl
        simp (dsimp := false) (disch := omega) only [List.append_nil, h2, r1, x27, flatF_fv, fx, gx, lx, hat, rules, tys, eq_self, ↓reduceIte, Nat.reduceAdd, Nat.reduceMul, Nat.reduceLT, Nat.reduceLeDiff]
        repeat refine And.intro (by omega) ?_
        refine GoCall.pure h36 rfl ?_
        simp (dsimp := false) (disch := omega) only [List.append_nil, e1, e2, wrap64, rules, tys, eq_self, ↓reduceIte]
        repeat refine And.intro (by omega) ?_
        refine Ap_loop (i + 1, a, c) (by dsimp only; omega) ?_ ⟨by omega, by rw [hsn, hls, ha], by rw [hsn, hhs, hc]⟩
        refine Weak.keep [] (by simp) rfl ?_ ?_
        · simp [leVs, leV, le1]
        · simp [leH]
      · have hp : 0 < co x v := by rw [hco, ← sgq_pos_iff, hq]; decide
        have hls := lowL_pos (s := s.take i) hp
        have hhs := highL_not (s := s.take i) (v := v) (x := x) (by grind)
        rw [hq] at h36
        have e1 : ((1 : Int) == 1) = true := rfl
        simp (dsimp := false) (disch := omega) only [List.append_nil, h2, r1, x27, flatF_fv, fx, gx, lx, hat, rules, tys, eq_self, ↓reduceIte, Nat.reduceAdd, Nat.reduceMul, Nat.reduceLT, Nat.reduceLeDiff]
        repeat refine And.intro (by omega) ?_
        refine GoCall.pure h36 rfl ?_
        simp (dsimp := false) (disch := omega) only [List.append_nil, e1, wrap64, rules, tys, eq_self, ↓reduceIte]
        repeat refine And.intro (by omega) ?_
        refine Ap_loop (i + 1, a + 1, c) (by dsimp only; omega) ?_ ⟨by omega, by rw [hsn, hls, List.length_append, ← ha]; rfl, by rw [hsn, hhs, hc]⟩
        refine Weak.keep [] (by simp) rfl ?_ ?_
        · simp [leVs, leV, le1]
        · simp [leH]
    · intro h1 h2
      have htk : s.take i = s := List.take_of_length_le (by omega)
      rw [htk, hA] at ha
      rw [htk, hC] at hc
      subst ha hc
      have hmul : (0 : Int) ≤ (a : Int) * (c : Int) ∧ (a : Int) * (c : Int) ≤ 1000000 := by
        constructor
        · exact Int.mul_nonneg (by omega) (by omega)
        · have := Nat.mul_le_mul (show a ≤ 1000 by omega) (show c ≤ 1000 by omega)
          have e : ((a * c : Nat) : Int) = (a : Int) * c := by simp
          omega
      simp (dsimp := false) (disch := omega) only [h2, wrap64, Ap_end_ret, rules, tys, eq_self, ↓reduceIte, Nat.reduceBEq]
      repeat refine And.intro (by omega) ?_
      refine RetOK.pure rfl ⟨trivial, trivial, trivial⟩ ?_
      simp (disch := omega) only [St.get, fzX, oneRes, fzV, fzVs, fzC, fz1, fz0, Option.map_some, List.getD_cons_succ, List.getD_cons_zero]

theorem pd46g (s : List (List Raw)) (v : Nat) (hv : v < 8) (hg : GoodS s) :
    Den Tryz.prog 46 [] [.fv (.sl (rowsF s)), .int .i64 v] [] (if badB s v then .tup [.fv (.sl []), .bool false] else .tup [.fv (.sl (rowsF (stepL s v))), .bool true]) := by
  obtain ⟨k, hk, hs, hz⟩ := hg
  exact pd46 k s v hv hk hs hz.w
theorem pd46w (s : List (List Raw)) (v : Nat) (hv : v < 8) (hg : GoodW s) :
    Den Tryz.prog 46 [] [.fv (.sl (rowsF s)), .int .i64 v] [] (if badB s v then .tup [.fv (.sl []), .bool false] else .tup [.fv (.sl (rowsF (stepL s v))), .bool true]) := by
  obtain ⟨k, hk, hs, hz, _⟩ := hg
  exact pd46 k s v hv hk hs hz

theorem pd45w (s0 : List (List Raw)) (hg0 : GoodW s0) : Den Tryz.prog 45 [] [.fv (.sl (rowsF s0))] [] (.bool (feasB s0)) := by
  obtain ⟨R, hR⟩ : ∃ R, feasB s0 = R := ⟨_, rfl⟩
  rw [hR]
  refine den_of tabOk mixed Tryz.func45 (cd := _) rfl (by decide) rfl (n := 41) rfl rfl (m := 0) rfl ?_
  simp (dsimp := false) (disch := omega) only [List.replicate, rules]
  refine WA.loop (α := List (List Raw)) (fun s => ⟨[.fv (.sl (rowsF s)), .any, .bool false] ++ List.replicate 39 .any, []⟩)
    nvars (fun s => GoodW s ∧ feasB s = R) s0 ?_ ?_ ?_
  · refine Weak.keep [] (by simp) rfl ?_ ?_
    · simp [leVs, leV, le1]
    · simp [leH]
  · exact ⟨hg0, hR⟩
  · rintro s ⟨hg, hf⟩
    have rl := rowsF_length s
    have hn12 := hg.len
    simp (dsimp := false) (disch := omega) only [List.replicate, rl, rules, tys, eq_self, ↓reduceIte]
    refine Br.dec ?_ ?_
    · intro h1 h2
      simp (dsimp := false) (disch := omega) only [h2, rules]
      refine WA.loop (α := Nat × Int × Int) (fun ⟨w, b, l⟩ => ⟨[.fv (.sl (rowsF s)), .any, .bool false, .int .i64 b, .int .i64 l] ++ List.replicate 7 .any ++ [.int .i64 w] ++ List.replicate 29 .any, []⟩)
        (fun ⟨w, _⟩ => 8 - w) (fun ⟨w, b, l⟩ => w ≤ 8 ∧ ((b = -1 ∧ ∀ u, u < w → occ s u = false) ∨ ∃ u, u < 8 ∧ b = (u : Nat) ∧ occ s u = true ∧ l = cost s u ∧ ∀ q, q < w → occ s q = true → cost s u ≤ cost s q)) (0, -1, 0) ?_ ?_ ?_
      · refine Weak.keep [] (by simp) rfl ?_ ?_
        · simp [leVs, leV, le1]
        · simp [leH]
      · exact ⟨Nat.zero_le _, .inl ⟨rfl, fun u hu => by omega⟩⟩
      · rintro ⟨w, b, l⟩ ⟨hw, hb⟩
        simp (dsimp := false) (disch := omega) only [List.replicate, rules, tys, eq_self, ↓reduceIte]
        refine Br.dec ?_ ?_
        · intro h3 h4
          have h90 := pd90 s w (by omega) hg.lim (by omega)
          obtain ⟨c, hc⟩ : ∃ c, ((lowL s w).length : Int) * (highL s w).length - (lowL s w).length - (highL s w).length = c := ⟨_, rfl⟩
          obtain ⟨o, ho⟩ : ∃ o, occ s w = o := ⟨_, rfl⟩
          rw [hc, ho] at h90
          simp (dsimp := false) (disch := omega) only [h4, rules]
          refine GoCall.pure h90 rfl ?_
          cases o with
          | false =>
            simp (dsimp := false) (disch := omega) only [wrap64, rules, tys, eq_self, ↓reduceIte]
            refine Ap_loop (w + 1, b, l) (by dsimp only; omega) ?_ ⟨by omega, ?_⟩
            · refine Weak.keep [] (by simp) rfl ?_ ?_
              · simp [leVs, leV, le1]
              · simp [leH]
            · rcases hb with ⟨h5, h6⟩ | h5
              · refine .inl ⟨h5, fun u hu => ?_⟩
                by_cases huw : u = w
                · rw [huw]; exact ho
                · exact h6 u (by omega)
              · obtain ⟨u, hu, hbu, hou, hlu, hmn⟩ := h5
                exact .inr ⟨u, hu, hbu, hou, hlu, fun q hq hoq => by
                  by_cases hqw : q = w
                  · rw [hqw, ho] at hoq; cases hoq
                  · exact hmn q (by omega) hoq⟩
          | true =>
            have hcc : cost s w = c := hc
            simp (dsimp := false) (disch := omega) only [rules, tys, eq_self, ↓reduceIte]
            refine Br.dec ?_ ?_
            · intro h5 h6
              simp (dsimp := false) (disch := omega) only [h6, wrap64, rules, tys, eq_self, ↓reduceIte]
              have hno : ∀ u, u < w → occ s u = false := by
                rcases hb with ⟨_, h8⟩ | ⟨u, _, h8, _⟩
                · exact h8
                · omega
              refine Ap_loop (w + 1, (w : Int), c) (by dsimp only; omega) ?_ ⟨by omega, .inr ⟨w, by omega, rfl, ho, hcc.symm, fun q hq hoq => by
                by_cases hqw : q = w
                · rw [hqw]; exact Int.le_refl _
                · rw [hno q (by omega)] at hoq; cases hoq⟩⟩
              refine Weak.keep [] (by simp) rfl ?_ ?_
              · simp [leVs, leV, le1]
              · simp [leH]
            · intro h5 h6
              simp (dsimp := false) (disch := omega) only [h6, rules, tys, eq_self, ↓reduceIte]
              have hb2 : ∃ u, u < 8 ∧ b = (u : Nat) ∧ occ s u = true ∧ l = cost s u ∧ ∀ q, q < w → occ s q = true → cost s u ≤ cost s q := by
                rcases hb with ⟨h7, _⟩ | h7
                · omega
                · exact h7
              refine Br.dec ?_ ?_
              · intro h7 h8
                simp (dsimp := false) (disch := omega) only [h8, wrap64, rules, tys, eq_self, ↓reduceIte]
                refine Ap_loop (w + 1, (w : Int), c) (by dsimp only; omega) ?_ ⟨by omega, .inr ⟨w, by omega, rfl, ho, hcc.symm, fun q hq hoq => by
                  by_cases hqw : q = w
                  · rw [hqw]; exact Int.le_refl _
                  · obtain ⟨u, _, _, _, hlu, hmn⟩ := hb2
                    have := hmn q (by omega) hoq
                    omega⟩⟩
                refine Weak.keep [] (by simp) rfl ?_ ?_
                · simp [leVs, leV, le1]
                · simp [leH]
              · intro h7 h8
                simp (dsimp := false) (disch := omega) only [h8, wrap64, rules, tys, eq_self, ↓reduceIte]
                refine Ap_loop (w + 1, b, l) (by dsimp only; omega) ?_ ⟨by omega, .inr (by
                  obtain ⟨u, hu, hbu, hou, hlu, hmn⟩ := hb2
                  refine ⟨u, hu, hbu, hou, hlu, fun q hq hoq => ?_⟩
                  by_cases hqw : q = w
                  · rw [hqw]; omega
                  · exact hmn q (by omega) hoq)⟩
                refine Weak.keep [] (by simp) rfl ?_ ?_
                · simp [leVs, leV, le1]
                · simp [leH]
        · intro h3 h4
          have hw8 : w = 8 := by omega
          have hb2 : ∃ u, u < 8 ∧ b = (u : Nat) ∧ occ s u = true ∧ l = cost s u ∧ ∀ q, q < w → occ s q = true → cost s u ≤ cost s q := by
            rcases hb with ⟨h7, h8⟩ | h7
            · exfalso
              have hpos : 0 < s.length := by omega
              have hmem := at_mem (ls := s) (i := 0) hpos
              obtain ⟨u, hu, h0⟩ := not_const (hg.nc _ hmem)
              have := h8 u (by omega)
              rw [occ_iff.2 ⟨_, hmem, h0⟩] at this
              cases this
            · exact h7
          obtain ⟨u, hu, rfl, hou, _, hmn⟩ := hb2
          have h46 := pd46w s u hu hg
          cases hbad : badB s u with
          | true =>
            rw [hbad, if_pos rfl] at h46
            have hR2 : R = false := by rw [← hf]; exact hg.bad hu hbad
            subst hR2
            simp (dsimp := false) (disch := omega) only [h4, rules, Nat.reduceBEq]
            refine GoCall.pure h46 rfl ?_
            simp (dsimp := false) (disch := omega) only [Bool.not_false, Ap_end_ret, rules]
            exact RetOK.pure rfl ⟨trivial, trivial⟩ rfl
          | false =>
            rw [hbad, if_neg (by simp)] at h46
            have hR2 := hg.feas hu hbad
            obtain ⟨hgs, hlt⟩ := hg.step hu hou (fun q hq hoq => hmn q (by omega) hoq)
            simp (dsimp := false) (disch := omega) only [h4, rules, Nat.reduceBEq]
            refine GoCall.pure h46 rfl ?_
            simp (dsimp := false) (disch := omega) only [Bool.not_true, rules]
            refine Ap_loop (stepL s u) hlt ?_ ⟨hgs, by rw [hR2]; exact hf⟩
            refine Weak.keep [] (by simp) rfl ?_ ?_
            · simp [leVs, leV, le1]
            · simp [leH]
    · intro h1 h2
      have hs0 : s = [] := List.eq_nil_of_length_eq_zero (by omega)
      have hR2 : R = true := by rw [← hf, hs0]; exact feasB_nil
      subst hR2
      simp (dsimp := false) (disch := omega) only [h2, Ap_end_ret, rules, Nat.reduceBEq]
      exact RetOK.pure rfl ⟨trivial, trivial⟩ rfl
theorem pd45 (s0 : List (List Raw)) (hg0 : GoodS s0) : Den Tryz.prog 45 [] [.fv (.sl (rowsF s0))] [] (.bool (feasB s0)) := pd45w s0 hg0.w

theorem pd44g (cs : List (List Raw)) (h : CsOk cs) : Den Tryz.prog 44 [] [.fv (.sl (rowsF cs))] [] (if violB cs then .tup [.fv (.sl []), .bool false] else .tup [.fv (.sl (rowsF (sysL cs []))), .bool true]) :=
  pd44 cs (fun l hl => (h.ok l hl).mono (by decide)) (by have := h.len; omega) h.nok h.nc

theorem pd60w (cs : List (List Raw)) (h : CsW cs) : Den Tryz.prog 60 [] [.fv (.sl (rowsF cs))] [] (.bool (innerB cs)) := by
  have h44 := pd44 cs (fun l hl => (h.ok l hl).mono (by decide)) (by have := h.len; omega) h.nok h.nc
  have h45 := pd45w _ h.good
  unfold innerB
  obtain ⟨R, hR⟩ : ∃ R, feasB (sysL cs []) = R := ⟨_, rfl⟩
  rw [hR] at h45 ⊢
  cases hv : violB cs with
  | true =>
    rw [hv, if_pos rfl] at h44
    refine den_of tabOk mixed Tryz.func60 (cd := _) rfl (by decide) rfl (n := 14) rfl rfl (m := 0) rfl ?_
    simp (dsimp := false) (disch := omega) only [List.replicate, rules]
    refine GoCall.pure h44 rfl ?_
    simp (dsimp := false) (disch := omega) only [Ap_end_ret, rules, ↓reduceIte]
    exact RetOK.pure rfl ⟨trivial, trivial⟩ rfl
  | false =>
    rw [hv, if_neg (by simp)] at h44
    refine den_of tabOk mixed Tryz.func60 (cd := _) rfl (by decide) rfl (n := 14) rfl rfl (m := 0) rfl ?_
    simp (dsimp := false) (disch := omega) only [List.replicate, rules]
    refine GoCall.pure h44 rfl ?_
    simp (dsimp := false) (disch := omega) only [rules]
    refine GoCall.pure h45 rfl ?_
    simp (dsimp := false) (disch := omega) only [Ap_end_ret, rules, eq_self, ↓reduceIte]
    exact RetOK.pure rfl ⟨trivial, trivial⟩ rfl

theorem pd60 (cs : List (List Raw)) (h : CsOk cs) : Den Tryz.prog 60 [] [.fv (.sl (rowsF cs))] [] (.bool (innerB cs)) := pd60w cs h.w
theorem pd20 (cs : List (List Raw)) (h : CsOk cs) (hl : cs.length ≤ 40) : Den Tryz.prog 20 [] [.fv (.sl (rowsF cs))] [] (.tup [.bool (innerB cs), .int .i64 0]) := by
  have h60 := pd60 cs h
  have rl := rowsF_length cs
  have e1 : decide ((cs.length : Int) > 40) = false := decide_eq_false (by omega)
  refine den_of tabOk mixed Tryz.func20 (cd := _) rfl (by decide) rfl (n := 8) rfl rfl (m := 0) rfl ?_
  simp (dsimp := false) (disch := omega) only [List.replicate, rl, e1, rules, tys, eq_self, ↓reduceIte]
  refine GoCall.pure h60 rfl ?_
  simp (dsimp := false) (disch := omega) only [Ap_end_ret, rules]
  exact RetOK.pure rfl ⟨trivial, trivial, trivial⟩ rfl
end Go.Proofs.YtddnnhlcpffbdaaGreat

namespace Go.Pl
open Go.AM

def Dim (d : Nat) (cs : List (List Raw)) : Prop := ∀ l ∈ cs, ∀ w, d ≤ w → w < 8 → co l w = 0
theorem nvars_dim {cs : List (List Raw)} {d : Nat} (h : Dim d cs) : nvars cs ≤ d := by
  have := nodup_length ((List.range 8).filter (occ cs)) (List.range d) (List.Pairwise.filter _ List.nodup_range) (fun w hw => by
    rw [List.mem_filter, List.mem_range] at hw
    rw [List.mem_range]
    by_cases hd : w < d
    · exact hd
    · exfalso
      obtain ⟨l, hl, h0⟩ := occ_iff.1 hw.2
      exact h0 (h l hl w (by omega) hw.1))
  rw [List.length_range] at this
  exact this
theorem good_of {cs : List (List Raw)} {k d : Nat} (h9 : ∀ l ∈ cs, l.length = 9) (hk : ∀ l ∈ cs, ¬ IsConst l → LOk k (nrmR l)) (hk1 : 1 ≤ k) (hk14 : k ≤ 14) (hd : Dim d cs) (hl : (d = 3 ∧ (ncs cs).length ≤ 5) ∨ (d = 2 ∧ (ncs cs).length ≤ 7)) : GoodS (sysL cs []) := by
  have his := sysL_is h9
  have h1 := sys_nvars h9 his
  have h2 := nvars_dim hd
  have h3 := sys_length h9 his
  refine ⟨k, hk1, SysF.of h9 his hk, ⟨by omega, fun h => by omega, fun h => ?_, fun h => ?_⟩⟩
  · omega
  · omega
theorem ncs_le (cs : List (List Raw)) : (ncs cs).length ≤ cs.length := List.length_filter_le _ _
theorem ncs_const {cs : List (List Raw)} (h : ∀ l ∈ cs, constB l = true) : ncs cs = [] := by
  unfold ncs
  exact filter_none (fun l hl => by rw [h l hl]; rfl)
theorem ok_of {cs : List (List Raw)} {d : Nat} (h4 : ∀ l ∈ cs, LOk 6 l) (hd : Dim d cs) (hlen : cs.length ≤ 100) (hl : (d = 3 ∧ (ncs cs).length ≤ 5) ∨ (d = 2 ∧ (ncs cs).length ≤ 7)) : CsOk cs := by
  have h9 : ∀ l ∈ cs, l.length = 9 := fun l hl => (h4 l hl).len
  refine ⟨fun l hl => (h4 l hl).mono (by decide), hlen, by omega, good_of (k := 12) h9 (fun l hl _ => nrmR_ok (h4 l hl) (by decide)) (by decide) (by decide) hd hl, fun l hl _ => (h4 l hl).mono (by decide)⟩
theorem Dim.append {d : Nat} {a b : List (List Raw)} (ha : Dim d a) (hb : Dim d b) : Dim d (a ++ b) := fun l hl => by
  rcases List.mem_append.1 hl with h | h
  · exact ha l h
  · exact hb l h
theorem Dim.neg {d : Nat} {l : List Raw} (h9 : l.length = 9) (h : Dim d [l]) : Dim d [negR l] := fun m hm w hw hw8 => by
  rw [List.mem_singleton] at hm
  subst hm
  rw [negR_at h9 (by omega), h l (by simp) w hw hw8]
  rfl
theorem Dim.sub {d : Nat} {a b : List (List Raw)} (hb : Dim d b) (h : ∀ l ∈ a, l ∈ b) : Dim d a := fun l hl => hb l (h l hl)
theorem Dim.one {d : Nat} {a : List (List Raw)} (ha : Dim d a) {l : List Raw} (h : l ∈ a) : Dim d [l] := fun m hm => by
  rw [List.mem_singleton] at hm; subst hm; exact ha m h
def numL (q : Rat) : List Raw := (List.replicate 9 (cn 0)).set 8 (cn q)
def varL (v : Nat) : List Raw := (List.replicate 9 (cn 0)).set v (cn ((1 : Int) : Rat))
theorem co_set {v w : Nat} {q : Rat} (_ : v < 9) (hw : w < 9) : co ((List.replicate 9 (cn 0)).set v (cn q)) w = if w = v then q else 0 := by
  unfold co
  rw [List.getD_eq_getElem?_getD, List.getElem?_set]
  by_cases h : v = w
  · subst h
    rw [if_pos rfl, if_pos (by simp; omega), if_pos rfl, Option.getD_some, cn_q]
  · rw [if_neg h, if_neg (fun e => h e.symm), List.getElem?_replicate, if_pos hw, Option.getD_some, cn_q]
theorem co_num {w : Nat} {q : Rat} (hw : w < 9) : co (numL q) w = if w = 8 then q else 0 := co_set (by omega) hw
theorem co_var {v w : Nat} (hv : v < 9) (hw : w < 9) : co (varL v) w = if w = v then 1 else 0 := co_set hv hw
theorem lval_eq (l : List Raw) (x : Nat → Rat) : lval l x = co l 8 + co l 0 * x 0 + co l 1 * x 1 + co l 2 * x 2 + co l 3 * x 3 + co l 4 * x 4 + co l 5 * x 5 + co l 6 * x 6 + co l 7 * x 7 := rfl
end Go.Pl

namespace Go.Proofs.YtddnnhlcpffbdaaGreat
open Go.AM Go.Pl
set_option maxRecDepth 100000
set_option maxHeartbeats 4000000

theorem zeros_cn : (List.replicate 9 (0 : Rat)).map cn = List.replicate 9 (cn 0) := by simp
theorem numL_len (q : Rat) : (numL q).length = 9 := by simp [numL]
theorem varL_len (v : Nat) : (varL v).length = 9 := by simp [varL]
theorem pd30 (r : Raw) (hr : r.Ok 5000000000) : Den Tryz.prog 30 [] [r.v] [] (RL (numL r.q)) := by
  have h57 := den57 r hr
  have h43 := den43
  unfold FL at h43
  rw [zeros_cn] at h43
  have hset := flat_set (rs := List.replicate 9 (cn 0)) (i := 8) (by simp) (cn r.q).neg (cn r.q).num (cn r.q).den
  have hcn : (⟨(cn r.q).neg, (cn r.q).num, (cn r.q).den⟩ : Raw) = cn r.q := rfl
  rw [hcn] at hset
  change _ = flat (numL r.q) at hset
  have hnl := numL_len r.q
  obtain ⟨y, hy⟩ : ∃ y, numL r.q = y := ⟨_, rfl⟩
  obtain ⟨z, hz⟩ : ∃ z, List.replicate 9 (cn 0) = z := ⟨_, rfl⟩
  have hzl : z.length = 9 := by rw [← hz]; simp
  obtain ⟨c, hc⟩ : ∃ c, cn r.q = c := ⟨_, rfl⟩
  rw [hy] at hset hnl ⊢
  rw [hz] at h43 hset
  have h57b : Den Tryz.prog 61 [] [r.v] [] c.v := by rw [← hc]; exact h57
  rw [hc] at hset
  unfold Raw.v at h57b ⊢
  unfold RL at h43 ⊢
  have gz := flat_length z
  have gy := flat_length y
  have gy27 := flat_take27 hnl
  have gz27 := flat_take27 hzl
  simp only [Nat.reduceMul, Nat.reduceAdd] at hset
  refine den_of tabOk mixed Tryz.func30 (cd := _) rfl (by decide) rfl (n := 8) rfl rfl (m := 0) rfl ?_
  simp (dsimp := false) (disch := omega) only [List.replicate, rules, tys, eq_self, Nat.reduceAdd, Nat.reduceLT]
  refine GoCall.pure h43 rfl ?_
  simp (dsimp := false) (disch := omega) only [flat_reloc, List.append_nil, gz, hzl, rules, tys, eq_self, ↓reduceIte, Nat.reduceAdd, Nat.reduceMul, Nat.reduceLT, Nat.reduceLeDiff]
  repeat refine And.intro (by omega) ?_
  refine GoCall.pure h57b rfl ?_
  simp (dsimp := false) (disch := omega) only [List.append_nil, gz, hzl, hset, gy27, gy, hnl, Ap_end_ret, rules, tys, eq_self, ↓reduceIte, Nat.reduceAdd, Nat.reduceMul, Nat.reduceLT, Nat.reduceLeDiff]
  repeat refine And.intro (by omega) ?_
  exact RetOK.form rfl rfl hnl
theorem pd55 (v : Nat) (hv : v < 8) : Den Tryz.prog 55 [] [.int .i64 v] [] (RL (varL v)) := by
  have h24 := den24 1 (by decide)
  have h43 := den43
  unfold FL at h43
  rw [zeros_cn] at h43
  have hset := flat_set (rs := List.replicate 9 (cn 0)) (i := v) (by simp; omega) (cn ((1 : Int) : Rat)).neg (cn ((1 : Int) : Rat)).num (cn ((1 : Int) : Rat)).den
  have hcn : (⟨(cn ((1 : Int) : Rat)).neg, (cn ((1 : Int) : Rat)).num, (cn ((1 : Int) : Rat)).den⟩ : Raw) = cn ((1 : Int) : Rat) := rfl
  rw [hcn] at hset
  change _ = flat (varL v) at hset
  have hnl := varL_len v
  obtain ⟨y, hy⟩ : ∃ y, varL v = y := ⟨_, rfl⟩
  obtain ⟨z, hz⟩ : ∃ z, List.replicate 9 (cn 0) = z := ⟨_, rfl⟩
  have hzl : z.length = 9 := by rw [← hz]; simp
  obtain ⟨c, hc⟩ : ∃ c, cn ((1 : Int) : Rat) = c := ⟨_, rfl⟩
  rw [hy] at hset hnl ⊢
  rw [hz] at h43 hset
  have h24b : Den Tryz.prog 24 [] [.int .i64 1] [] c.v := by rw [← hc]; exact h24
  rw [hc] at hset
  unfold Raw.v at h24b
  unfold RL at h43 ⊢
  have gz := flat_length z
  have gy := flat_length y
  have gy27 := flat_take27 hnl
  have gz27 := flat_take27 hzl
  refine den_of tabOk mixed Tryz.func55 (cd := _) rfl (by decide) rfl (n := 9) rfl rfl (m := 0) rfl ?_
  simp (dsimp := false) (disch := omega) only [List.replicate, rules, tys]
  refine GoCall.pure h43 rfl ?_
  simp (dsimp := false) (disch := omega) only [flat_reloc, List.append_nil, gz, hzl, rules, tys, eq_self, Nat.reduceAdd, Nat.reduceMul, Nat.reduceLT, Nat.reduceLeDiff]
  repeat refine And.intro (by omega) ?_
  refine GoCall.pure h24b rfl ?_
  simp (dsimp := false) (disch := omega) only [List.append_nil, gz, hzl, hset, gy27, gy, hnl, Ap_end_ret, rules, tys, eq_self, ↓reduceIte, Nat.reduceAdd, Nat.reduceMul, Nat.reduceLT, Nat.reduceLeDiff]
  repeat refine And.intro (by omega) ?_
  exact RetOK.form rfl rfl hnl
theorem pd57 (l : List Raw) (h : LOk 1000000 l) : Den Tryz.prog 57 [] [RL l] [] (RL (negR l)) := by
  have h24 := den24 (-1) (by decide)
  have h46 := den46 l (cn ((-1 : Int) : Rat)) (h.mono (by decide)) (cn_ok (Bd.mono (show Bd 1 ((-1 : Int) : Rat) from ⟨by decide, by decide⟩) (by decide)))
  rw [cn_q] at h46
  change Den Tryz.prog 41 [] [RL l, (cn ((-1 : Int) : Rat)).v] [] (RL (negR l)) at h46
  have hll := h.len
  have hnl := negR_len hll
  obtain ⟨y, hy⟩ : ∃ y, negR l = y := ⟨_, rfl⟩
  obtain ⟨c, hc⟩ : ∃ c, cn ((-1 : Int) : Rat) = c := ⟨_, rfl⟩
  rw [hy] at h46 hnl ⊢
  have h24b : Den Tryz.prog 24 [] [.int .i64 (-1)] [] c.v := by rw [← hc]; exact h24
  rw [hc] at h46
  unfold Raw.v at h24b h46
  unfold RL at h46 ⊢
  have gl := flat_length l
  have gy := flat_length y
  have gy27 := flat_take27 hnl
  have gl27 := flat_take27 hll
  refine den_of tabOk mixed Tryz.func57 (cd := _) rfl (by decide) rfl (n := 5) rfl rfl (m := 0) rfl ?_
  simp (dsimp := false) (disch := omega) only [List.replicate, gl, hll, rules, tys, eq_self, Nat.reduceMul, Nat.reduceLT]
  repeat refine And.intro (by omega) ?_
  refine Draw.intro (by kernel_rfl) ?_
  simp (dsimp := false) (disch := omega) only [gl27, gl, hll, rules, tys, eq_self, ↓reduceIte, Nat.reduceMul, Nat.reduceLeDiff]
  repeat refine And.intro (by omega) ?_
  refine GoCall.pure h24b rfl ?_
  simp (dsimp := false) (disch := omega) only [List.append_nil, rules, Nat.reduceAdd]
  refine GoCall.pure h46 (by simp [fzAs, fzA, flat_fz, flatF_fv, fzs, fz0]) ?_
  simp (dsimp := false) (disch := omega) only [flat_ids, flat_reloc, List.append_nil, gy, hnl, Ap_end_ret, rules, tys, eq_self, Nat.reduceAdd, Nat.reduceMul, Nat.reduceLT, Nat.reduceLeDiff]
  repeat refine And.intro (by omega) ?_
  exact RetOK.form rfl rfl hnl

theorem pd76 (a : List Raw) (ha : LOk 1000000000 a) : Den Tryz.prog 76 [] [RL a] [] (.bool (constB a)) := by
  obtain ⟨R, hR⟩ : ∃ R, constB a = R := ⟨_, rfl⟩
  rw [hR]
  have la := ha.len
  have fa := flat_length a
  unfold RL
  refine den_of tabOk mixed Tryz.func76 (cd := _) rfl (by decide) rfl (n := 21) rfl rfl (m := 0) rfl ?_
  simp (dsimp := false) (disch := omega) only [List.replicate, fa, la, rules, tys, eq_self, Nat.reduceMul, Nat.reduceLT]
  repeat refine And.intro (by omega) ?_
  refine WA.loop (α := Nat) (fun i => ⟨[.any, .ptr 0 0 0, .bool false, .int .i64 i] ++ List.replicate 18 .any, [.box true (flat a)]⟩)
    (fun i => 8 - i) (fun i => i ≤ 8 ∧ ∀ j, j < i → co a j = 0) 0 ?_ ?_ ?_
  · refine Weak.keep [0] (by simp) rfl ?_ ?_
    · simp [leVs, leV, le1]
    · simp [leH, leO, le_flat]
  · exact ⟨Nat.zero_le _, fun j h => by omega⟩
  · rintro i ⟨hi, hinv⟩
    simp (dsimp := false) (disch := omega) only [List.replicate, rules, tys, eq_self, ↓reduceIte]
    refine Br.dec ?_ ?_
    · intro h1 h2
      have hat := flat_at (rs := a) (i := i) (by omega)
      have hok := ha.at i
      have hco : co a i = (a.getD i rz).q := rfl
      obtain ⟨r, hr⟩ : ∃ r, a.getD i rz = r := ⟨_, rfl⟩
      rw [hr] at hat hok hco
      have h70 := den70 r
      have h26 := den26 r (hok.mono (by decide))
      unfold Raw.v at h70 h26
      have hnext : r.q = 0 → ∀ j, j < i + 1 → co a j = 0 := fun h0 j hj => by
        by_cases hji : j = i
        · rw [hji, hco]; exact h0
        · exact hinv j (by omega)
      simp (dsimp := false) (disch := omega) only [h2, hat, rules, tys, eq_self, ↓reduceIte, Nat.reduceLT]
      repeat refine And.intro (by omega) ?_
      refine GoCall.pure h70 rfl ?_
      by_cases h3 : (r.num.length : Int) = 0
      · have hb : ((r.num.length : Int) == 0) = true := by rw [beq_iff_eq]; exact h3
        simp (dsimp := false) (disch := omega) only [hb, Bool.not_true, wrap64, rules, tys, eq_self, ↓reduceIte]
        refine Ap_loop (i + 1) (by omega) ?_ ⟨by omega, hnext (none_q h3)⟩
        refine Weak.keep [0] (by simp) rfl ?_ ?_
        · simp [leVs, leV, le1]
        · simp [leH, leO, le_flat]
      · have hb : ((r.num.length : Int) == 0) = false := by rw [beq_eq_false_iff_ne]; exact h3
        simp (dsimp := false) (disch := omega) only [hb, Bool.not_false, hat, rules, tys, eq_self, ↓reduceIte, Nat.reduceLT]
        repeat refine And.intro (by omega) ?_
        refine GoCall.pure h26 rfl ?_
        simp (dsimp := false) (disch := omega) only [rules, tys, eq_self, ↓reduceIte]
        refine Br.bneInt ?_ ?_
        · intro h5 h6
          have hR2 : R = false := by
            rw [← hR]
            cases hcb : constB a with
            | false => rfl
            | true =>
              exfalso
              have := (constB_iff la).1 hcb i (by omega)
              rw [hco] at this
              exact h5 (sgq_eq_zero.2 this)
          subst hR2
          simp (dsimp := false) (disch := omega) only [h6, Ap_end_ret, rules]
          exact RetOK.pure rfl ⟨trivial, trivial⟩ rfl
        · intro h5 h6
          simp (dsimp := false) (disch := omega) only [h6, wrap64, rules, tys, eq_self, ↓reduceIte]
          refine Ap_loop (i + 1) (by omega) ?_ ⟨by omega, hnext (sgq_eq_zero.1 h5)⟩
          refine Weak.keep [0] (by simp) rfl ?_ ?_
          · simp [leVs, leV, le1]
          · simp [leH, leO, le_flat]
    · intro h1 h2
      have hR2 : R = true := by
        rw [← hR]
        exact (constB_iff la).2 (fun j hj => hinv j (by omega))
      subst hR2
      simp (dsimp := false) (disch := omega) only [h2, Ap_end_ret, rules, Nat.reduceBEq]
      exact RetOK.pure rfl ⟨trivial, trivial⟩ rfl
theorem pd121 (a b : List Raw) (ha : LOk 1000000000 a) (hb : LOk 1000000000 b) : Den Tryz.prog 121 [] [RL a, RL b] [] (.int .i64 (cmpR a b)) := by
  obtain ⟨R, hR⟩ : ∃ R, cmpR a b = R := ⟨_, rfl⟩
  rw [hR]
  have la := ha.len
  have lb := hb.len
  have fa := flat_length a
  have fb := flat_length b
  unfold RL
  refine den_of tabOk mixed Tryz.func121 (cd := _) rfl (by decide) rfl (n := 38) rfl rfl (m := 0) rfl ?_
  simp (dsimp := false) (disch := omega) only [List.replicate, fa, la, fb, lb, rules, tys, eq_self, Nat.reduceMul, Nat.reduceLT]
  repeat refine And.intro (by omega) ?_
  refine WA.loop (α := Nat) (fun i => ⟨[.any, .any, .ptr 0 0 0, .ptr 1 0 0, .int .i64 0, .int .i64 i] ++ List.replicate 34 .any, [.box true (flat a), .box true (flat b)]⟩)
    (fun i => 8 - i) (fun i => i ≤ 8 ∧ cmpR (a.drop i) (b.drop i) = R) 0 ?_ ?_ ?_
  · refine Weak.keep [0, 1] (by simp) rfl ?_ ?_
    · simp [leVs, leV, le1]
    · simp [leH, leO, le_flat]
  · exact ⟨Nat.zero_le _, hR⟩
  · rintro i ⟨hi, hinv⟩
    simp (dsimp := false) (disch := omega) only [List.replicate, rules, tys, eq_self, ↓reduceIte]
    refine Br.dec ?_ ?_
    · intro h1 h2
      have hat := flat_at (rs := a) (i := i) (by omega)
      have hbt := flat_at (rs := b) (i := i) (by omega)
      have hoka := ha.at i
      have hokb := hb.at i
      rw [cmpR_drop (by omega) (by omega)] at hinv
      obtain ⟨r, hr⟩ : ∃ r, a.getD i rz = r := ⟨_, rfl⟩
      obtain ⟨t, ht⟩ : ∃ r, b.getD i rz = r := ⟨_, rfl⟩
      rw [hr] at hat hoka hinv
      rw [ht] at hbt hokb hinv
      have h70 := den70 r
      have h70b := den70 t
      have h29 := den29 r t (hoka.mono (by decide)) (hokb.mono (by decide))
      unfold Raw.v at h70 h70b h29
      obtain ⟨g, hg⟩ : ∃ g, sgq (r.q - t.q) = g := ⟨_, rfl⟩
      rw [hg] at h29 hinv
      have hboth : (r.num.length : Int) = 0 → (t.num.length : Int) = 0 → g = 0 := fun h3 h4 => by
        rw [← hg, none_q h3, none_q h4, Rat.sub_self]; rfl
      by_cases h3 : (r.num.length : Int) = 0
      · have hb1 : ((r.num.length : Int) == 0) = true := by rw [beq_iff_eq]; exact h3
        by_cases h4 : (t.num.length : Int) = 0
        · have hb2 : ((t.num.length : Int) == 0) = true := by rw [beq_iff_eq]; exact h4
          rw [if_pos (hboth h3 h4)] at hinv
          simp (dsimp := false) (disch := omega) only [h2, hat, rules, tys, eq_self, ↓reduceIte, Nat.reduceLT]
          repeat refine And.intro (by omega) ?_
          refine GoCall.pure h70 rfl ?_
          simp (dsimp := false) (disch := omega) only [hb1, hbt, rules, tys, eq_self, ↓reduceIte, Nat.reduceAdd, Nat.reduceLT]
          repeat refine And.intro (by omega) ?_
          refine GoCall.pure h70b rfl ?_
          simp (dsimp := false) (disch := omega) only [hb2, wrap64, rules, tys, eq_self, ↓reduceIte, Nat.reduceAdd, Nat.reduceBEq]
          refine Ap_loop (i + 1) (by omega) ?_ ⟨by omega, hinv⟩
          refine Weak.keep [0, 1] (by simp) rfl ?_ ?_
          · simp [leVs, leV, le1]
          · simp [leH, leO, le_flat]
        · have hb2 : ((t.num.length : Int) == 0) = false := by rw [beq_eq_false_iff_ne]; exact h4
          simp (dsimp := false) (disch := omega) only [h2, hat, rules, tys, eq_self, ↓reduceIte, Nat.reduceLT]
          repeat refine And.intro (by omega) ?_
          refine GoCall.pure h70 rfl ?_
          simp (dsimp := false) (disch := omega) only [hb1, hbt, rules, tys, eq_self, ↓reduceIte, Nat.reduceAdd, Nat.reduceLT]
          repeat refine And.intro (by omega) ?_
          refine GoCall.pure h70b rfl ?_
          simp (dsimp := false) (disch := omega) only [hb2, rules, eq_self, ↓reduceIte, Nat.reduceAdd]
          refine Draw.intro (by kernel_rfl) ?_
          simp (dsimp := false) (disch := omega) only [hat, hbt, rules, tys, eq_self, ↓reduceIte, Nat.reduceLT]
          repeat refine And.intro (by omega) ?_
          refine GoCall.pure h29 rfl ?_
          simp (dsimp := false) (disch := omega) only [rules, tys, eq_self, ↓reduceIte, Nat.reduceAdd]
          refine Br.bneInt ?_ ?_
          · intro h5 h6
            rw [if_neg h5] at hinv
            subst hinv
            simp (dsimp := false) (disch := omega) only [h6, Ap_end_ret, rules]
            exact RetOK.pure rfl ⟨trivial, trivial⟩ rfl
          · intro h5 h6
            rw [if_pos h5] at hinv
            simp (dsimp := false) (disch := omega) only [h6, wrap64, rules, tys, eq_self, ↓reduceIte]
            refine Ap_loop (i + 1) (by omega) ?_ ⟨by omega, hinv⟩
            refine Weak.keep [0, 1] (by simp) rfl ?_ ?_
            · simp [leVs, leV, le1]
            · simp [leH, leO, le_flat]
      · have hb1 : ((r.num.length : Int) == 0) = false := by rw [beq_eq_false_iff_ne]; exact h3
        simp (dsimp := false) (disch := omega) only [h2, hat, rules, tys, eq_self, ↓reduceIte, Nat.reduceLT]
        repeat refine And.intro (by omega) ?_
        refine GoCall.pure h70 rfl ?_
        simp (dsimp := false) (disch := omega) only [hb1, rules, ↓reduceIte, Nat.reduceAdd]
        refine Draw.intro (by kernel_rfl) ?_
        simp (dsimp := false) (disch := omega) only [hat, hbt, rules, tys, eq_self, ↓reduceIte, Nat.reduceLT]
        repeat refine And.intro (by omega) ?_
        refine GoCall.pure h29 rfl ?_
        simp (dsimp := false) (disch := omega) only [rules, tys, eq_self, ↓reduceIte, Nat.reduceAdd]
        refine Br.bneInt ?_ ?_
        · intro h5 h6
          rw [if_neg h5] at hinv
          subst hinv
          simp (dsimp := false) (disch := omega) only [h6, Ap_end_ret, rules]
          exact RetOK.pure rfl ⟨trivial, trivial⟩ rfl
        · intro h5 h6
          rw [if_pos h5] at hinv
          simp (dsimp := false) (disch := omega) only [h6, wrap64, rules, tys, eq_self, ↓reduceIte]
          refine Ap_loop (i + 1) (by omega) ?_ ⟨by omega, hinv⟩
          refine Weak.keep [0, 1] (by simp) rfl ?_ ?_
          · simp [leVs, leV, le1]
          · simp [leH, leO, le_flat]
    · intro h1 h2
      have hi8 : i = 8 := by omega
      subst hi8
      rw [cmpR_last (by omega) (by omega)] at hinv
      have hat := flat_at (rs := a) (i := 8) (by omega)
      have hbt := flat_at (rs := b) (i := 8) (by omega)
      simp only [Nat.reduceMul] at hat hbt
      have h29 := den29 (a.getD 8 rz) (b.getD 8 rz) ((ha.at 8).mono (by decide)) ((hb.at 8).mono (by decide))
      rw [hinv] at h29
      obtain ⟨r, hr⟩ : ∃ r, a.getD 8 rz = r := ⟨_, rfl⟩
      obtain ⟨t, ht⟩ : ∃ r, b.getD 8 rz = r := ⟨_, rfl⟩
      rw [hr] at hat h29
      rw [ht] at hbt h29
      unfold Raw.v at h29
      simp (dsimp := false) (disch := omega) only [h2, hat, hbt, rules, tys, eq_self, ↓reduceIte, Nat.reduceAdd, Nat.reduceBEq]
      repeat refine And.intro (by omega) ?_
      refine GoCall.pure h29 rfl ?_
      simp (dsimp := false) (disch := omega) only [Ap_end_ret, rules, Nat.reduceAdd]
      exact RetOK.pure rfl ⟨trivial, trivial⟩ rfl
end Go.Proofs.YtddnnhlcpffbdaaGreat

namespace Go.AM

def Plain (res : PV) : Prop := ∀ (w w' : World) (X X' : Nat → Prop) (ρ ρ' : Places) (v : Value), PRd w X ρ v res → PRd w' X' ρ' v res
theorem Plain.lit (v : Value) : Plain (.fv (.lit v)) := fun w w' X X' ρ ρ' u h => by
  cases h with
  | fv _ _ hf => cases hf with
    | lit _ h1 => exact .fv _ _ (.lit _ h1)
theorem Plain.tup {vs : List PV} (h : ∀ x ∈ vs, Plain x) : Plain (.tup vs) := fun w w' X X' ρ ρ' u hu => by
  cases hu with
  | tup us _ hn hr => exact .tup us vs hn (fun i v c h1 h2 => h c (List.mem_of_getElem? h2) _ _ _ _ _ _ _ (hr i v c h1 h2))

theorem Den.lendF {P : Program} {k : FuncId} {xs : List (List FV)} {n s : Nat} {post : List PV} {res : PV} (h : Den P k [] (.fv (.sl xs) :: post) [] res) (hn : n = xs.length) (hp : Plain res) (hpost : ∀ x ∈ post, Plain x) :
    Den P k [.row true xs] (.lsl 0 0 n s :: post) [.row true xs] res := by
  subst hn
  refine ⟨h.1, fun c X ρ vs hh hM hvs => ?_⟩
  obtain ⟨X1, h1, hs1, hn1⟩ := hh.shutIds [0]
  let c2 : Ctx := { w0 := c.w0, M := fun _ => False, Xo := c.Xo, base := [], hxo := fun b hb => ⟨(c.hxo b hb).1, fun h => h⟩ }
  have hh2 : HRd c2 c.w0 X1 [] [] := ⟨rfl, by simp, by simp, by simp, h1.xo, h1.xlt, h1.ge, Places.Le.refl _⟩
  have hsz : 0 < vs.size := by rw [hvs.1]; simp
  have hv0 : vs[0]? = some vs[0] := by simp [hsz]
  have hrd0 := hvs.2 0 vs[0] (.lsl 0 0 xs.length s) hv0 rfl
  have hfr : FRd c.w0 X1 vs[0] (.sl xs) := by
    refine fz0_rd (H := [.row true xs]) hh (fun j o ho => ho) hrd0 (by simp [fz0]) hs1 (fun id hid p o g hp ho ha hg => hn1 id (by simpa [ids0] using hid) p o g hp ho ha hg)
  have hvs2 : PRds c.w0 X1 [] vs (.fv (.sl xs) :: post) := by
    refine ⟨by rw [hvs.1]; simp, fun i v x hv hx => ?_⟩
    cases i with
    | zero =>
      simp at hx; subst hx
      rw [hv0] at hv; cases hv
      exact .fv _ _ hfr
    | succ i =>
      have hx2 : post[i]? = some x := by simpa using hx
      exact hpost x (List.mem_of_getElem? hx2) _ _ _ _ _ _ _ (hvs.2 (i + 1) v x hv (by simpa using hx2))
  refine (h.2 c2 X1 [] vs hh2 (fun b hb => hb.elim) hvs2).mono (fun e w' hpost2 => ?_)
  obtain ⟨v, X', ρ', he, hk, hr, hpv, hle, hnew⟩ := hpost2
  have hblk : ∀ b, b < c.w0.heap.size → w'.heap[b]? = c.w0.heap[b]? := fun b hb => hk.block b hb (fun h => h)
  have hsame : Same X c.w0 w' := ⟨hk.size, fun b hb _ => hblk b hb⟩
  refine ⟨v, X, ρ, he, ⟨hk.os, hk.tape, hk.output, hk.size, fun b hb _ => hblk b hb⟩, ⟨hh.len, fun id p o h2 h3 => (hh.ob id p o h2 h3).keep hsame (fun _ _ h => h) (Places.Le.refl _) (fun _ g _ hg => ⟨hblk g hg, Iff.rfl⟩), hh.inj,
    fun id p o g h2 h3 h4 h5 => ⟨(hh.own id p o g h2 h3 h4 h5).1, Nat.lt_of_lt_of_le (hh.own id p o g h2 h3 h4 h5).2 hk.size⟩, hh.xo, fun b hb => Nat.lt_of_lt_of_le (hh.xlt b hb) hk.size, hk.size, hh.base⟩, hp _ _ _ _ _ _ _ hpv, Places.Le.refl _, fun id p h2 h3 => ?_⟩
  have := (List.getElem?_eq_some_iff.1 h3).1
  omega
theorem Weak.shut {m : Nat} {env : List PV} {H : List Ob} {st' : St} (ids : List Nat) (h2 : Weak m ⟨env, shutIds ids H⟩ st') : Weak m ⟨env, H⟩ st' := fun c a w hml h => h2 c a w hml (h.shut ids)
theorem shB1 {H : List Ob} {id off n s : Nat} : shutBs H id [.lsl id off n s] = H := by simp [shutBs, idsB, shutIds]
theorem lentB_lsl {H : List Ob} {id off n s : Nat} : fzBs H id [.lsl id off n s] = some [.lsl 0 off n s] := by simp [fzBs, fzB]
theorem set_here : ∀ {α : Type} {l : List α} {i : Nat} {x : α}, l[i]? = some x → l.set i x = l
  | _, [], _, _, h => by simp at h
  | _, a :: l, 0, x, h => by simp at h; subst h; rfl
  | _, a :: l, i + 1, x, h => by simp only [List.set_cons_succ]; rw [set_here (by simpa using h)]
theorem GoCall.show {P : Program} {env : List PV} {H : List Ob} {K : PV → List Ob → Prop} {k : FuncId} {id n s : Nat} {xs : List (List FV)} {res : PV} {t : Tok _} (hd : Den P k [] [.fv (.sl xs)] [] res) (hp : Plain res) (hn : n = xs.length)
    (ho : H[id]? = some (.row true xs)) (hk : K (reloc (lent id H.length) res) H) : GoCall P ⟨env, H⟩ (some (k, [], [])) [.lsl id 0 n s] K t := by
  refine GoCall.lend id (hd.lendF (s := s) hn hp (by simp)) ho rfl trivial (by simp [PV.refsTo]) (by simpa using lentB_lsl) ?_ ?_
  · simp only [List.nil_append, List.append_nil]
    rw [shB1]; exact ho
  · simp only [List.nil_append, List.append_nil, List.map_nil]
    rw [shB1]
    have : H.set id (relocOb (lent id H.length) (.row true xs)) = H := set_here (by simpa [relocOb] using ho)
    rw [this]
    exact hk
end Go.AM

namespace Go.Pl
open Go.AM

def del (s : List (List Raw)) (i : Nat) : List (List Raw) := s.take i ++ s.drop (i + 1)
def GoodT (s : List (List Raw)) : Prop := ∃ k, 1 ≤ k ∧ SysF k s ∧ Sz (k + 1) s
theorem Sz.mono {j k : Nat} {s : List (List Raw)} (h : Sz k s) (hk : j ≤ k) : Sz j s := ⟨h.n3, fun h3 => by have := h.c3 h3; omega, fun h2 => by have := h.c2 h2; omega, fun h1 => by have := h.c1 h1; omega⟩
theorem Sz.sub {k : Nat} {s t : List (List Raw)} (h : Sz k s) (hl : t.length ≤ s.length) (hn : nvars t ≤ nvars s) : Sz k t := by
  have h3 := h.n3
  have c3 := h.c3
  have c2 := h.c2
  have c1 := h.c1
  refine ⟨by omega, fun h => ?_, fun h => ?_, fun h => ?_⟩
  · have := c3 (by omega); omega
  · have : nvars s = 2 ∨ nvars s = 3 := by omega
    rcases this with h5 | h5
    · have := c2 h5; omega
    · have := c3 h5; omega
  · have : nvars s = 1 ∨ nvars s = 2 ∨ nvars s = 3 := by omega
    rcases this with h5 | h5 | h5
    · have := c1 h5; omega
    · have := c2 h5; omega
    · have := c3 h5; omega
theorem nvars_sub {s t : List (List Raw)} (h : ∀ l ∈ t, l ∈ s) : nvars t ≤ nvars s := nvars_le (fun w _ ho => by
  obtain ⟨l, hl, h0⟩ := occ_iff.1 ho
  exact occ_iff.2 ⟨l, h l hl, h0⟩)
theorem GoodT.good {s : List (List Raw)} (h : GoodT s) : GoodS s := by
  obtain ⟨k, hk, hs, hz⟩ := h
  exact ⟨k, hk, hs, hz.mono (by omega)⟩
theorem GoodT.sub {s t : List (List Raw)} (h : GoodT s) (ht : t.Sublist s) : GoodT t := by
  obtain ⟨k, hk, hs, hz⟩ := h
  exact ⟨k, hk, ⟨hs.sorted.sublist ht, fun l hl => hs.ok l (ht.subset hl), fun l hl => hs.nc l (ht.subset hl), fun l hl => hs.nm l (ht.subset hl)⟩, hz.sub ht.length_le (nvars_sub (fun l hl => ht.subset hl))⟩
theorem GoodT.step {s : List (List Raw)} {v : Nat} (hv : v < 8) (h : GoodT s) : GoodT (stepL s v) := by
  obtain ⟨k, hk, hs, hz⟩ := h
  cases ho : occ s v with
  | false =>
    rw [step_same hs ho (stepL_is v hs)]
    exact ⟨k, hk, hs, hz⟩
  | true =>
    have h2 := (step_sz hv (hs.mono (Nat.le_succ k)) hz ho (stepL_is v hs)).1
    exact ⟨8 * k + 8, by omega, step_ok hk hs (stepL_is v hs), h2.mono (by omega)⟩
theorem negR_cn (l : List Raw) (h : l.length = 9) : IsCn (negR l) := ⟨l.map (fun r => r.q * ((-1 : Int) : Rat)), rfl, by simp [h]⟩
theorem neg_nc {l : List Raw} (h9 : l.length = 9) (hc : ¬ IsConst l) : ¬ IsConst (negR l) := fun h => hc (fun i hi => by
  have := h i hi
  rw [negR_at h9 (by omega)] at this
  grind)
noncomputable def redB (s : List (List Raw)) (i : Nat) : Bool := feasB (sysL (del s i ++ [negR (s.getD i [])]) [])
theorem turn_viol {t : List (List Raw)} (h : ∀ l ∈ t, ¬ IsConst l) : ¬ Viol t := fun ⟨l, hl, hc, _⟩ => h l hl hc
structure CsT (ds : List (List Raw)) : Prop where
  cs : CsOk ds
  good : GoodT (sysL ds [])
end Go.Pl

namespace Go.Proofs.YtddnnhlcpffbdaaGreat
open Go.AM Go.Pl
set_option maxRecDepth 100000
set_option maxHeartbeats 4000000

theorem rows_27 {ls : List (List Raw)} (h : ∀ l ∈ ls, l.length = 9) : (∀ y, y ∈ rowsF ls → y.length = 27) = True := by
  refine eq_true (fun y hy => ?_)
  obtain ⟨l, hl, rfl⟩ := List.mem_map.1 hy
  rw [flatF_length, h l hl]
theorem pd78 (ls : List (List Raw)) (h9 : ∀ l ∈ ls, l.length = 9) (hn : ls.length ≤ 1000) : Den Tryz.prog 78 [] [.fv (.sl (rowsF ls))] [.row true (rowsF ls)] (.lsl 0 0 ls.length 27) := by
  cases ls with
  | nil =>
    show Den Tryz.prog 78 [] ([] ++ .fv (.sl []) :: []) [.row true []] (.lsl 0 0 0 27)
    refine Den.empty' ?_ (fun b o cap => ?_)
    · show Den Tryz.prog 78 [] [.nilsl] [.row true []] (.lsl 0 0 0 27)
      refine den_nil tabOk mixed Tryz.func78 (cd := _) rfl (by decide) rfl (n := 7) rfl rfl ?_ 27 (by decide)
      simp (dsimp := false) (disch := omega) only [List.replicate, Ap_endN_ret, rules, tys, eq_self, ↓reduceIte]
      exact ⟨_, rfl, trivial, trivial⟩
    · show Den Tryz.prog 78 [] [.fv (.lit (.slice (some ⟨b, o, none⟩) 0 cap))] [.row true []] (.lsl 0 0 0 27)
      refine den_of tabOk mixed Tryz.func78 (cd := _) rfl (by decide) rfl (n := 7) rfl rfl (m := 0) rfl ?_
      simp (dsimp := false) (disch := omega) only [List.replicate, Ap_end_ret, Option.isNone_some, rules, tys, eq_self, ↓reduceIte, Nat.reduceMul, Nat.reduceLT, Nat.reduceLeDiff]
      exact RetOK.own rfl ⟨trivial, trivial⟩ rfl
  | cons a t =>
    have h27 := rows_27 h9
    have rl := rowsF_length (a :: t)
    have e : rowsF (a :: t) = flatF a :: rowsF t := rfl
    rw [e] at h27 rl ⊢
    obtain ⟨n, hnn⟩ : ∃ n, (a :: t).length = n := ⟨_, rfl⟩
    rw [hnn] at rl hn ⊢
    obtain ⟨us, hus⟩ : ∃ us, flatF a :: rowsF t = us := ⟨_, rfl⟩
    have hul : us.length = n := by rw [← hus]; exact rl
    refine den_of tabOk mixed Tryz.func78 (cd := _) rfl (by decide) rfl (n := 7) rfl rfl (m := 0) rfl ?_
    simp (dsimp := false) (disch := omega) only [List.replicate, Ap_end_ret, rules, tys, eq_self, ↓reduceIte, Nat.reduceLT, Nat.reduceLeDiff]
    rw [hus] at h27 ⊢
    have hl3 : (rowsF t).length + 1 = n := by simpa using rl
    simp (dsimp := false) (disch := omega) only [h27, hl3, rules]
    refine ⟨⟨by omega, by omega⟩, ?_⟩
    exact RetOK.own rfl ⟨trivial, trivial⟩ rfl

theorem rows_take (ls : List (List Raw)) (i : Nat) : List.take i (rowsF ls) = rowsF (ls.take i) := by simp [rowsF]
end Go.Proofs.YtddnnhlcpffbdaaGreat

namespace Go.Proofs.YtddnnhlcpffbdaaGreat
open Go.AM Go.Pl
set_option maxRecDepth 100000
set_option maxHeartbeats 4000000

abbrev cmpRV : PV := .fv (.lit (.func (.func 49) #[] #[]))

theorem pd48 (a : Rat) (l : List Rat) (hb : ∀ q ∈ a :: l, Bd 10000 q) (hn : l.length ≤ 1000) : Den Tryz.prog 48 [] [.fv (.sl (rats (a :: l))), cmpRV] [] (FR (maxL a l)) := by
  obtain ⟨M, hM⟩ : ∃ M, maxL a l = M := ⟨_, rfl⟩
  rw [hM]
  obtain ⟨ps, hps⟩ : ∃ ps, a :: l = ps := ⟨_, rfl⟩
  obtain ⟨n, hnn⟩ : ∃ n, ps.length = n := ⟨_, rfl⟩
  have hn1 : 1 ≤ n := by rw [← hnn, ← hps]; simp
  have hn2 : n ≤ 1001 := by rw [← hnn, ← hps]; simp; omega
  have rl := rats_length ps
  rw [hnn] at rl
  have hr0 := rats_getD (ps := ps) (i := 0) (by omega)
  have h0 : ps.getD 0 0 = a := by rw [← hps]; rfl
  rw [h0] at hr0
  have hd1 : ps.drop 1 = l := by rw [← hps]; rfl
  rw [hps] at hb ⊢
  have hba : Bd 10000 a := hb a (by rw [← hps]; simp)
  have hl3 : ∀ p : Raw, (p.f).length = 3 := fun p => rfl
  obtain ⟨ca, hca⟩ : ∃ t, cn a = t := ⟨_, rfl⟩
  rw [hca] at hr0
  have e1 : decide ((n : Int) < 1) = false := decide_eq_false (by omega)
  have hl30 : ([FV.lit (Value.bool ca.neg), FV.sl (u32s ca.num), FV.sl (u32s ca.den)] : List FV).length = 3 := rfl
  refine den_of tabOk mixed Tryz.func48 (cd := _) rfl (by decide) rfl (n := 31) rfl rfl (m := 0) rfl ?_
  simp (dsimp := false) (disch := omega) only [List.replicate, rl, e1, Int.reduceToNat, rules, tys, eq_self, ↓reduceIte, Nat.reduceAdd, Nat.reduceLT]
  simp (dsimp := false) (disch := omega) only [List.append_nil, hr0, hl30, rules, eq_self, Nat.reduceAdd, Nat.reduceLeDiff]
  repeat refine And.intro (by omega) ?_
  refine WA.loop (α := Nat × Rat) (fun ⟨i, m⟩ => ⟨[.fv (.sl (rats ps)), cmpRV, .any, .any, .ptr 0 0 0, .ptr 1 0 0, .int .i64 i] ++ List.replicate 26 .any, [.box true [.bool false, .nilsl, .nilsl], .box true [.bool (cn m).neg, .fv (.sl (u32s (cn m).num)), .fv (.sl (u32s (cn m).den))]]⟩)
    (fun ⟨i, _⟩ => n - i) (fun ⟨i, m⟩ => 1 ≤ i ∧ i ≤ n ∧ maxL m (ps.drop i) = M ∧ Bd 10000 m) (1, a) ?_ ?_ ?_
  · refine Weak.keep [0, 1] (by simp) rfl ?_ ?_
    · simp [leVs, leV, le1]
    · rw [hca]; simp [leH, leO, le1s, le1]
  · exact ⟨Nat.le_refl _, hn1, by rw [hd1]; exact hM, hba⟩
  · rintro ⟨i, m⟩ ⟨hi1, hi2, hm, hbm⟩
    obtain ⟨e0, he0⟩ : ∃ t, cn m = t := ⟨_, rfl⟩
    dsimp only
    rw [he0]
    simp (dsimp := false) (disch := omega) only [List.replicate, rl, rules, tys, eq_self, ↓reduceIte]
    refine Br.dec ?_ ?_
    · intro h1 h2
      have hi3 : i < ps.length := by omega
      have hrow := rats_getD (ps := ps) (i := i) hi3
      have hdr : ps.drop i = ps.getD i 0 :: ps.drop (i + 1) := by
        rw [List.drop_eq_getElem_cons hi3, List.getD_eq_getElem?_getD, List.getElem?_eq_getElem hi3]; rfl
      have hqb : Bd 10000 (ps.getD i 0) := by
        rw [List.getD_eq_getElem?_getD, List.getElem?_eq_getElem hi3]
        exact hb _ (List.getElem_mem _)
      obtain ⟨q, hq⟩ : ∃ t, ps.getD i 0 = t := ⟨_, rfl⟩
      rw [hq] at hrow hdr hqb
      rw [hdr] at hm
      have h52 := den52 (cn q) (cn m) (Raw.Ok.mono (cn_ok hqb) (by decide)) (Raw.Ok.mono (cn_ok hbm) (by decide))
      rw [cn_q, cn_q, he0] at h52
      obtain ⟨p, hpp⟩ : ∃ t, cn q = t := ⟨_, rfl⟩
      rw [hpp] at hrow h52
      unfold Raw.v at h52
      have hl3 : ([FV.lit (Value.bool p.neg), FV.sl (u32s p.num), FV.sl (u32s p.den)] : List FV).length = 3 := rfl
      unfold maxL at hm
      simp (dsimp := false) (disch := omega) only [h2, rules]
      repeat refine And.intro (by omega) ?_
      refine Draw.intro (by kernel_rfl) ?_
      simp (dsimp := false) (disch := omega) only [hrow, hl3, rl, rules, tys, eq_self, ↓reduceIte, Nat.reduceAdd, Nat.reduceLT, Nat.reduceLeDiff]
      repeat refine And.intro (by omega) ?_
      refine GoCall.pure h52 rfl ?_
      simp (dsimp := false) (disch := omega) only [List.append_nil, rules, tys, eq_self, ↓reduceIte, Nat.reduceAdd]
      refine Br.dec ?_ ?_
      · intro h3 h4
        rw [if_pos (by omega)] at hm
        simp (dsimp := false) (disch := omega) only [List.append_nil, h4, hrow, hl3, rl, wrap64, rules, tys, eq_self, ↓reduceIte, Nat.reduceAdd, Nat.reduceLT, Nat.reduceLeDiff]
        repeat refine And.intro (by omega) ?_
        refine Ap_loop (i + 1, q) (by dsimp only; omega) ?_ ⟨by omega, by omega, hm, hqb⟩
        refine Weak.keep [0, 1] (by simp) rfl ?_ ?_
        · simp [leVs, leV, le1]
        · rw [hpp]; simp [leH, leO, le1s, le1]
      · intro h3 h4
        rw [if_neg (by omega)] at hm
        simp (dsimp := false) (disch := omega) only [h4, wrap64, rules, tys, eq_self, ↓reduceIte]
        refine Ap_loop (i + 1, m) (by dsimp only; omega) ?_ ⟨by omega, by omega, hm, hbm⟩
        refine Weak.keep [0, 1] (by simp) rfl ?_ ?_
        · simp [leVs, leV, le1]
        · rw [he0]; simp [leH, leO, le1s, le1]
    · intro h1 h2
      have hin : i = n := by omega
      have hnil : ps.drop i = [] := List.drop_of_length_le (by omega)
      rw [hnil] at hm
      have hmM : m = M := hm
      simp (dsimp := false) (disch := omega) only [List.append_nil, h2, Ap_end_ret, rules, tys, eq_self, ↓reduceIte, Nat.reduceAdd, Nat.reduceBEq, Nat.reduceLT, Nat.reduceLeDiff]
      repeat refine And.intro (by omega) ?_
      rw [← hmM]
      unfold FR Raw.v
      rw [he0]
      exact RetOK.pure rfl ⟨⟨rfl, Nat.le_refl 3⟩, trivial⟩ rfl

theorem pd50 (a : Rat) (l : List Rat) (hb : ∀ q ∈ a :: l, Bd 10000 q) (hn : l.length ≤ 1000) : Den Tryz.prog 50 [] [.fv (.sl (rats (a :: l))), cmpRV] [] (FR (minL a l)) := by
  obtain ⟨M, hM⟩ : ∃ M, minL a l = M := ⟨_, rfl⟩
  rw [hM]
  obtain ⟨ps, hps⟩ : ∃ ps, a :: l = ps := ⟨_, rfl⟩
  obtain ⟨n, hnn⟩ : ∃ n, ps.length = n := ⟨_, rfl⟩
  have hn1 : 1 ≤ n := by rw [← hnn, ← hps]; simp
  have hn2 : n ≤ 1001 := by rw [← hnn, ← hps]; simp; omega
  have rl := rats_length ps
  rw [hnn] at rl
  have hr0 := rats_getD (ps := ps) (i := 0) (by omega)
  have h0 : ps.getD 0 0 = a := by rw [← hps]; rfl
  rw [h0] at hr0
  have hd1 : ps.drop 1 = l := by rw [← hps]; rfl
  rw [hps] at hb ⊢
  have hba : Bd 10000 a := hb a (by rw [← hps]; simp)
  have hl3 : ∀ p : Raw, (p.f).length = 3 := fun p => rfl
  obtain ⟨ca, hca⟩ : ∃ t, cn a = t := ⟨_, rfl⟩
  rw [hca] at hr0
  have e1 : decide ((n : Int) < 1) = false := decide_eq_false (by omega)
  have hl30 : ([FV.lit (Value.bool ca.neg), FV.sl (u32s ca.num), FV.sl (u32s ca.den)] : List FV).length = 3 := rfl
  refine den_of tabOk mixed Tryz.func50 (cd := _) rfl (by decide) rfl (n := 31) rfl rfl (m := 0) rfl ?_
  simp (dsimp := false) (disch := omega) only [List.replicate, rl, e1, Int.reduceToNat, rules, tys, eq_self, ↓reduceIte, Nat.reduceAdd, Nat.reduceLT]
  simp (dsimp := false) (disch := omega) only [List.append_nil, hr0, hl30, rules, eq_self, Nat.reduceAdd, Nat.reduceLeDiff]
  repeat refine And.intro (by omega) ?_
  refine WA.loop (α := Nat × Rat) (fun ⟨i, m⟩ => ⟨[.fv (.sl (rats ps)), cmpRV, .any, .any, .ptr 0 0 0, .ptr 1 0 0, .int .i64 i] ++ List.replicate 26 .any, [.box true [.bool false, .nilsl, .nilsl], .box true [.bool (cn m).neg, .fv (.sl (u32s (cn m).num)), .fv (.sl (u32s (cn m).den))]]⟩)
    (fun ⟨i, _⟩ => n - i) (fun ⟨i, m⟩ => 1 ≤ i ∧ i ≤ n ∧ minL m (ps.drop i) = M ∧ Bd 10000 m) (1, a) ?_ ?_ ?_
  · refine Weak.keep [0, 1] (by simp) rfl ?_ ?_
    · simp [leVs, leV, le1]
    · rw [hca]; simp [leH, leO, le1s, le1]
  · exact ⟨Nat.le_refl _, hn1, by rw [hd1]; exact hM, hba⟩
  · rintro ⟨i, m⟩ ⟨hi1, hi2, hm, hbm⟩
    obtain ⟨e0, he0⟩ : ∃ t, cn m = t := ⟨_, rfl⟩
    dsimp only
    rw [he0]
    simp (dsimp := false) (disch := omega) only [List.replicate, rl, rules, tys, eq_self, ↓reduceIte]
    refine Br.dec ?_ ?_
    · intro h1 h2
      have hi3 : i < ps.length := by omega
      have hrow := rats_getD (ps := ps) (i := i) hi3
      have hdr : ps.drop i = ps.getD i 0 :: ps.drop (i + 1) := by
        rw [List.drop_eq_getElem_cons hi3, List.getD_eq_getElem?_getD, List.getElem?_eq_getElem hi3]; rfl
      have hqb : Bd 10000 (ps.getD i 0) := by
        rw [List.getD_eq_getElem?_getD, List.getElem?_eq_getElem hi3]
        exact hb _ (List.getElem_mem _)
      obtain ⟨q, hq⟩ : ∃ t, ps.getD i 0 = t := ⟨_, rfl⟩
      rw [hq] at hrow hdr hqb
      rw [hdr] at hm
      have h52 := den52 (cn q) (cn m) (Raw.Ok.mono (cn_ok hqb) (by decide)) (Raw.Ok.mono (cn_ok hbm) (by decide))
      rw [cn_q, cn_q, he0] at h52
      obtain ⟨p, hpp⟩ : ∃ t, cn q = t := ⟨_, rfl⟩
      rw [hpp] at hrow h52
      unfold Raw.v at h52
      have hl3 : ([FV.lit (Value.bool p.neg), FV.sl (u32s p.num), FV.sl (u32s p.den)] : List FV).length = 3 := rfl
      unfold minL at hm
      simp (dsimp := false) (disch := omega) only [h2, rules]
      repeat refine And.intro (by omega) ?_
      refine Draw.intro (by kernel_rfl) ?_
      simp (dsimp := false) (disch := omega) only [hrow, hl3, rl, rules, tys, eq_self, ↓reduceIte, Nat.reduceAdd, Nat.reduceLT, Nat.reduceLeDiff]
      repeat refine And.intro (by omega) ?_
      refine GoCall.pure h52 rfl ?_
      simp (dsimp := false) (disch := omega) only [List.append_nil, rules, tys, eq_self, ↓reduceIte, Nat.reduceAdd]
      refine Br.dec ?_ ?_
      · intro h3 h4
        rw [if_pos (by omega)] at hm
        simp (dsimp := false) (disch := omega) only [List.append_nil, h4, hrow, hl3, rl, wrap64, rules, tys, eq_self, ↓reduceIte, Nat.reduceAdd, Nat.reduceLT, Nat.reduceLeDiff]
        repeat refine And.intro (by omega) ?_
        refine Ap_loop (i + 1, q) (by dsimp only; omega) ?_ ⟨by omega, by omega, hm, hqb⟩
        refine Weak.keep [0, 1] (by simp) rfl ?_ ?_
        · simp [leVs, leV, le1]
        · rw [hpp]; simp [leH, leO, le1s, le1]
      · intro h3 h4
        rw [if_neg (by omega)] at hm
        simp (dsimp := false) (disch := omega) only [h4, wrap64, rules, tys, eq_self, ↓reduceIte]
        refine Ap_loop (i + 1, m) (by dsimp only; omega) ?_ ⟨by omega, by omega, hm, hbm⟩
        refine Weak.keep [0, 1] (by simp) rfl ?_ ?_
        · simp [leVs, leV, le1]
        · rw [he0]; simp [leH, leO, le1s, le1]
    · intro h1 h2
      have hin : i = n := by omega
      have hnil : ps.drop i = [] := List.drop_of_length_le (by omega)
      rw [hnil] at hm
      have hmM : m = M := hm
      simp (dsimp := false) (disch := omega) only [List.append_nil, h2, Ap_end_ret, rules, tys, eq_self, ↓reduceIte, Nat.reduceAdd, Nat.reduceBEq, Nat.reduceLT, Nat.reduceLeDiff]
      repeat refine And.intro (by omega) ?_
      rw [← hmM]
      unfold FR Raw.v
      rw [he0]
      exact RetOK.pure rfl ⟨⟨rfl, Nat.le_refl 3⟩, trivial⟩ rfl
end Go.Proofs.YtddnnhlcpffbdaaGreat

namespace Go.Proofs.YtddnnhlcpffbdaaGreat
open Go.AM Go.Pl
set_option maxRecDepth 100000
set_option maxHeartbeats 4000000

end Go.Proofs.YtddnnhlcpffbdaaGreat

namespace Go.Proofs.YtddnnhlcpffbdaaGreat
open Go.AM Go.Pl
set_option maxRecDepth 100000
set_option maxHeartbeats 4000000

def linG (xs : List Int) (n a : Nat) : List Raw × Nat :=
  if nN xs (nx xs (nx xs (nxs xs n a))) 6 = 0 then
    (((linS xs n 0 a (List.replicate 9 rz)).set 8 (cn (ratR xs (nxs xs n a)))).set 8 (looseR xs (nx xs (nx xs (nx xs (nxs xs n a))))).1, (looseR xs (nx xs (nx xs (nx xs (nxs xs n a))))).2)
  else ((linS xs n 0 a (List.replicate 9 rz)).set 8 (cn (ratR xs (nxs xs n a))), nx xs (nx xs (nx xs (nxs xs n a))))
theorem linG_ok (xs : List Int) (n a : Nat) : LOk 4 (linG xs n a).1 := by
  have h1 := set_ok' (linS_ok xs n 0 a _ zeros_ok) 8 (Raw.Ok.mono (cn_ok (ratR_bd xs (nxs xs n a))) (by decide))
  unfold linG
  split
  · exact set_ok' h1 8 (looseR_ok _ _)
  · exact h1
theorem linG_le {xs : List Int} {n a : Nat} (h : a ≤ xs.length) : (linG xs n a).2 ≤ xs.length := by
  have h3 := nxs_le (n := n) h
  unfold linG
  split
  · exact looseR_le (nx_le (nx_le (nx_le h3)))
  · exact nx_le (nx_le (nx_le h3))

theorem pd58 (xs : List Int) (n a : Nat) (hn8 : n ≤ 8) (hl : xs.length ≤ 1000) (ha : a ≤ xs.length) (hw : W64 xs) :
    Den Tryz.prog 58 [S xs a] [.ptr 0 0 0, .int .i64 n] [S xs (linG xs n a).2] (RL (linG xs n a).1) := by
  have a3l := nxs_le (n := n) ha
  have hokS := linS_ok xs n 0 a _ zeros_ok
  unfold linG
  obtain ⟨rsf, hrsf⟩ : ∃ t, linS xs n 0 a (List.replicate 9 rz) = t := ⟨_, rfl⟩
  obtain ⟨a3, e3⟩ : ∃ t, nxs xs n a = t := ⟨_, rfl⟩
  rw [e3] at a3l
  rw [hrsf] at hokS
  rw [hrsf, e3]
  unfold S
  refine den_of tabOk mixed Tryz.func58 (cd := _) rfl (by decide) rfl (n := 26) rfl rfl (m := 1) rfl ?_
  simp (dsimp := false) (disch := omega) only [List.replicate, rules, tys, Nat.reduceAdd]
  refine WA.loop (α := Nat × Nat × List Raw) (fun ⟨i, b, rs⟩ => ⟨[.ptr 0 0 0, .int .i64 n, .any, .any, .ptr 1 0 0, .ptr 2 0 0, .int .i64 i] ++ List.replicate 21 .any, [.box true [.fv (.sl (ints xs)), .int .i64 b, .int .i64 0], .box true (zcells 9), .box true (flat rs)]⟩)
    (fun ⟨i, _, _⟩ => n - i) (fun ⟨i, b, rs⟩ => i ≤ n ∧ b ≤ xs.length ∧ LOk 4 rs ∧ linS xs (n - i) i b rs = rsf ∧ nxs xs (n - i) b = a3) (0, a, List.replicate 9 rz) ?_ ?_ ?_
  · refine Weak.keep [0, 1, 2] (by simp) rfl ?_ ?_
    · simp [leVs, leV, le1]
    · simp [leH, leO, le1s, le1, zcells, List.replicate, flat, rz, u32s]
  · exact ⟨by omega, ha, zeros_ok, hrsf, e3⟩
  · rintro ⟨i, b, rs⟩ ⟨hi, hb, hok, hS, hX⟩
    have hlen := hok.len
    have hfl := flat_length rs
    have cb := S_closed xs b
    simp (dsimp := false) (disch := omega) only [List.replicate, rules, tys, eq_self, ↓reduceIte]
    refine Br.dec ?_ ?_
    · intro h1 h2
      have h60 := den60 xs b (-2) 2 5 hl hb hw (by decide) (by decide) (by decide) (by decide) (by decide)
      have l5 := nN_lt (xs := xs) (a := b) (n := 5) (by decide)
      obtain ⟨k, hk⟩ : ∃ k, n - i = k + 1 := ⟨n - 1 - i, by omega⟩
      have hk2 : n - (i + 1) = k := by omega
      rw [hk] at hS hX
      unfold linS at hS
      unfold nxs at hX
      have h24 := den24 (-2 + (nN xs b 5 : Int)) (by omega)
      have hset := flat_set (rs := rs) (i := i) (by omega) (decide (((-2 + (nN xs b 5 : Int) : Int) : Rat).num < 0)) (limbs ((-2 + (nN xs b 5 : Int) : Int) : Rat).num.natAbs) (limbs ((-2 + (nN xs b 5 : Int) : Int) : Rat).den)
      have hcn : (⟨decide (((-2 + (nN xs b 5 : Int) : Int) : Rat).num < 0), limbs ((-2 + (nN xs b 5 : Int) : Int) : Rat).num.natAbs, limbs ((-2 + (nN xs b 5 : Int) : Int) : Rat).den⟩ : Raw) = cn ((-2 + (nN xs b 5 : Int) : Int) : Rat) := rfl
      have hokq : (cn ((-2 + (nN xs b 5 : Int) : Int) : Rat)).Ok 4 := Raw.Ok.mono (cn_ok (bd_int (by omega))) (by decide)
      rw [hcn] at hset
      obtain ⟨z, hz⟩ : ∃ z : Int, -2 + (nN xs b 5 : Int) = z := ⟨_, rfl⟩
      rw [hz] at h60 h24 hset hS hokq
      rw [FR_eq, N_val, N_val] at h24
      unfold S at h60 cb
      simp (dsimp := false) (disch := omega) only [h2, rules]
      refine GoCall.lend 0 h60 rfl rfl cb rfl rfl rfl ?_
      simp (dsimp := false) (disch := omega) only [sh3, List.append_nil, rules, Nat.reduceAdd]
      refine GoCall.pure h24 rfl ?_
      simp (dsimp := false) (disch := omega) only [List.append_nil, hset, wrap64, rules, tys, eq_self, ↓reduceIte, Nat.reduceAdd, Nat.reduceLT]
      repeat refine And.intro (by omega) ?_
      refine Ap_loop (i + 1, nx xs b, rs.set i (cn (z : Rat))) (by dsimp only; omega) ?_ ⟨by omega, nx_le hb, set_ok' hok i hokq, by rw [hk2]; exact hS, by rw [hk2]; exact hX⟩
      refine Weak.keep [0, 1, 2] (by simp) rfl ?_ ?_
      · simp [leVs, leV, le1]
      · simp [leH, leO, le1s, le1, le_flat, zcells]
    · intro h1 h2
      have hi3 : n - i = 0 := by omega
      rw [hi3] at hS hX
      have hrs : rs = rsf := hS
      have hba : b = a3 := hX
      subst hrs
      subst hba
      have h30 := den30 xs b hl hb hw
      have hb4 := nx_le (nx_le hb)
      obtain ⟨a4, e4⟩ : ∃ t, nx xs (nx xs b) = t := ⟨_, rfl⟩
      rw [e4] at h30 hb4 ⊢
      have c4 := S_closed xs a4
      have hn6 := denN xs a4 6 hl hb4 hw (by decide) (by decide)
      have hb5 := nx_le hb4
      obtain ⟨a5, e5⟩ : ∃ t, nx xs a4 = t := ⟨_, rfl⟩
      rw [e5] at hn6 hb5 ⊢
      have c5 := S_closed xs a5
      have h34 := den34 xs a5 hl hb5 hw
      obtain ⟨m, hm⟩ : ∃ t, nN xs a4 6 = t := ⟨_, rfl⟩
      rw [hm] at hn6 ⊢
      have hset := flat_set (rs := rs) (i := 8) (by omega) (decide ((ratR xs b).num < 0)) (limbs (ratR xs b).num.natAbs) (limbs (ratR xs b).den)
      have hcn : (⟨decide ((ratR xs b).num < 0), limbs (ratR xs b).num.natAbs, limbs (ratR xs b).den⟩ : Raw) = cn (ratR xs b) := rfl
      rw [hcn] at hset
      have hok8 := set_ok' hok 8 (Raw.Ok.mono (cn_ok (ratR_bd xs b)) (by decide))
      obtain ⟨rs8, hrs8⟩ : ∃ t, rs.set 8 (cn (ratR xs b)) = t := ⟨_, rfl⟩
      rw [hrs8] at hset hok8 ⊢
      simp only [Nat.reduceMul, Nat.reduceAdd] at hset
      have hl8 := hok8.len
      have hf8 := flat_length rs8
      have hf27 : (flat rs8).length = 27 := by omega
      rw [FR_eq, N_val, N_val] at h30
      unfold S at h30 hn6 h34 cb c4 c5
      by_cases h0 : m = 0
      · rw [if_pos h0]
        have hb0 : ((m : Int) == 0) = true := by rw [h0]; rfl
        obtain ⟨⟨r, a6⟩, hr6⟩ : ∃ t, looseR xs a5 = t := ⟨_, rfl⟩
        have hro := looseR_ok xs a5
        rw [hr6] at h34 hro ⊢
        dsimp only at h34 hro ⊢
        have hset2 := flat_set (rs := rs8) (i := 8) (by omega) r.neg r.num r.den
        have hr2 : (⟨r.neg, r.num, r.den⟩ : Raw) = r := rfl
        rw [hr2] at hset2
        have hok9 := set_ok' hok8 8 hro
        obtain ⟨rs9, hrs9⟩ : ∃ t, rs8.set 8 r = t := ⟨_, rfl⟩
        rw [hrs9] at hset2 hok9 ⊢
        simp only [Nat.reduceMul, Nat.reduceAdd] at hset2
        have hl9 := hok9.len
        have hf9 := flat_length rs9
        have hf27' : (flat rs9).length = 27 := by omega
        unfold Raw.v at h34
        simp (dsimp := false) (disch := omega) only [h2, rules, Nat.reduceBEq]
        refine GoCall.lend 0 h30 rfl rfl cb rfl rfl rfl ?_
        simp (dsimp := false) (disch := omega) only [sh1, List.append_nil, hset, rules, tys, eq_self, Nat.reduceAdd, Nat.reduceLT]
        repeat refine And.intro (by omega) ?_
        refine GoCall.lend 0 hn6 rfl rfl c4 rfl rfl rfl ?_
        simp (dsimp := false) (disch := omega) only [sh2, List.append_nil, hb0, rules, tys, eq_self, ↓reduceIte, Nat.reduceAdd]
        refine GoCall.lend 0 h34 rfl rfl c5 rfl rfl rfl ?_
        simp (dsimp := false) (disch := omega) only [sh1, List.append_nil, zcells_drop, zcells_length, hset2, flat_take27 hl9, hf27', Ap_end_ret, rules, tys, eq_self, ↓reduceIte, Nat.reduceAdd, Nat.reduceLT, Nat.reduceLeDiff]
        repeat refine And.intro (by omega) ?_
        exact RetOK.formL rfl rfl hl9 rfl (S_closed xs _) rfl
      · rw [if_neg h0]
        have hb0 : ((m : Int) == 0) = false := by rw [beq_eq_false_iff_ne]; omega
        simp (dsimp := false) (disch := omega) only [h2, rules, Nat.reduceBEq]
        refine GoCall.lend 0 h30 rfl rfl cb rfl rfl rfl ?_
        simp (dsimp := false) (disch := omega) only [sh1, List.append_nil, hset, rules, tys, eq_self, Nat.reduceAdd, Nat.reduceLT]
        repeat refine And.intro (by omega) ?_
        refine GoCall.lend 0 hn6 rfl rfl c4 rfl rfl rfl ?_
        simp (dsimp := false) (disch := omega) only [sh2, List.append_nil, zcells_drop, zcells_length, hb0, flat_take27 hl8, hf27, Ap_end_ret, rules, tys, eq_self, ↓reduceIte, Nat.reduceAdd, Nat.reduceLT, Nat.reduceLeDiff]
        repeat refine And.intro (by omega) ?_
        exact RetOK.formL rfl rfl hl8 rfl (S_closed xs _) rfl

theorem RetOK.lentOwn {T : Tab} {st : St} {rs : List ResultVar} {ob : Ob} {id len s : Nat} {xs : List (List FV)} {cd : Prop} (h1 : resVs T st rs = some (cd, [.lsl id 0 len s])) (hc : cd) (hx : st.heap[0]? = some ob) (hcl : ob.closed) (hrw : ob.rw = true)
    (hid : id ≠ 0) (h2 : st.heap[id]? = some (.row true xs)) : RetOK T rs 1 st [ob, .row true xs] (.lsl 1 0 len s) := by
  have hi : List.idxOf? id [0, id] = some 1 := by
    simp [List.idxOf?_cons, Ne.symm hid]
  refine ⟨cd, [.lsl id 0 len s], [0, id], h1, hc, by simp [Ne.symm hid], fun i hi2 => ?_, ?_, rfl, fun j k hj => ?_, fun o ho => ?_⟩
  · have : i = 0 := by omega
    subst this; rfl
  · simp [oneRes, fzX, fzV, fzC, hi]
  · have hids : idsX st.heap [0, id] (oneRes [.lsl id 0 len s]) = [] := by simp [oneRes, idsX, idsV, idsC, hi]
    rw [hids]
    match j, hj with
    | 0, hj => simp at hj; subst hj; simpa [shutIds] using hx
    | 1, hj => simp at hj; subst hj; simpa [shutIds] using h2
    | j + 2, hj => simp at hj
  · simp at ho
    rcases ho with ho | ho
    · subst ho; exact ⟨hcl, hrw⟩
    · subst ho; exact ⟨trivial, rfl⟩
def consS (xs : List Int) (n : Nat) : Nat → Nat → List (List Raw)
  | 0, _ => []
  | k + 1, b => (linG xs n b).1 :: consS xs n k (linG xs n b).2
def consN (xs : List Int) (n : Nat) : Nat → Nat → Nat
  | 0, b => b
  | k + 1, b => consN xs n k (linG xs n b).2
theorem consS_len (xs : List Int) (n : Nat) : ∀ k b, (consS xs n k b).length = k
  | 0, _ => rfl
  | k + 1, b => by simp [consS, consS_len xs n k]
theorem consS_ok (xs : List Int) (n : Nat) : ∀ k b, ∀ l ∈ consS xs n k b, LOk 4 l
  | 0, b, l, h => by simp [consS] at h
  | k + 1, b, l, h => by
    simp only [consS, List.mem_cons] at h
    rcases h with h | h
    · rw [h]; exact linG_ok xs n b
    · exact consS_ok xs n k _ l h
theorem consN_le {xs : List Int} {n : Nat} : ∀ {k b}, b ≤ xs.length → consN xs n k b ≤ xs.length
  | 0, _, h => h
  | k + 1, _, h => consN_le (k := k) (linG_le h)
theorem pd18 (xs : List Int) (n m a : Nat) (hn8 : n ≤ 8) (hm : m ≤ 100) (hl : xs.length ≤ 1000) (ha : a ≤ xs.length) (hw : W64 xs) :
    Den Tryz.prog 18 [S xs a] [.ptr 0 0 0, .int .i64 n, .int .i64 m] [S xs (consN xs n (nN xs a (m + 1)) (nx xs a))] (.fv (.sl (rowsF (consS xs n (nN xs a (m + 1)) (nx xs a))))) := by
  have hN := denN xs a (m + 1) hl ha hw (by omega) (by omega)
  have hlt := nN_lt (xs := xs) (a := a) (n := m + 1) (by omega)
  have hc := S_closed xs a
  have ha1 := nx_le ha
  obtain ⟨k0, hk0⟩ : ∃ t, nN xs a (m + 1) = t := ⟨_, rfl⟩
  obtain ⟨a1, e1⟩ : ∃ t, nx xs a = t := ⟨_, rfl⟩
  rw [hk0] at hN hlt ⊢
  rw [e1] at hN ha1 ⊢
  obtain ⟨fin, hfin⟩ : ∃ t, consN xs n k0 a1 = t := ⟨_, rfl⟩
  obtain ⟨tot, htot⟩ : ∃ t, consS xs n k0 a1 = t := ⟨_, rfl⟩
  rw [hfin, htot]
  have em : ((m : Int) + 1) = ((m + 1 : Nat) : Int) := by omega
  unfold S at hN hc ⊢
  refine den_of tabOk mixed Tryz.func18 (cd := _) rfl (by decide) rfl (n := 21) rfl rfl (m := 1) rfl ?_
  simp (dsimp := false) (disch := omega) only [List.replicate, wrap64, rules, tys, eq_self, ↓reduceIte]
  rw [em]
  refine GoCall.lend 0 hN rfl rfl hc rfl rfl rfl ?_
  simp (dsimp := false) (disch := omega) only [sh2, List.append_nil, rules]
  refine WA.loop (α := Nat × Nat × List (List Raw)) (fun ⟨i, b, out⟩ => ⟨[.ptr 0 0 0, .int .i64 n, .int .i64 m, .any, .any, .any, .nilsl, .lsl 1 0 out.length 27, .int .i64 i] ++ List.replicate 15 .any, [S xs b, .row true (rowsF out)]⟩)
    (fun ⟨i, _, _⟩ => i) (fun ⟨i, b, out⟩ => b ≤ xs.length ∧ out.length + i = k0 ∧ consN xs n i b = fin ∧ out ++ consS xs n i b = tot) (k0, a1, []) ?_ ?_ ?_
  · refine Weak.nil 7 27 (by decide) rfl ?_
    refine Weak.keep [0, 1] (by simp) rfl ?_ ?_
    · simp [leVs, leV, le1]
    · simp [leH, leO, le1s, le1, S, rowsF]
  · exact ⟨ha1, by simp, hfin, by rw [List.nil_append]; exact htot⟩
  · rintro ⟨i, b, out⟩ ⟨hb, hol, hnx, hap⟩
    obtain ⟨L, hL⟩ : ∃ L, out.length = L := ⟨_, rfl⟩
    have rlo := rowsF_length out
    rw [hL] at rlo hol
    have htk := take_rows (ls := out) (n := L) (by omega)
    have hcb := S_closed xs b
    dsimp only
    rw [hL]
    unfold S at hcb ⊢
    simp (dsimp := false) (disch := omega) only [List.replicate, rules, tys, eq_self, ↓reduceIte]
    refine Br.dec ?_ ?_
    · intro h1 h2
      obtain ⟨p, rfl⟩ : ∃ p, i = p + 1 := ⟨i - 1, by omega⟩
      have ep : (((p + 1 : Nat) : Int) - 1) = (p : Int) := by omega
      have h58 := pd58 xs n b hn8 hl hb hw
      have hok := linG_ok xs n b
      have hb2 := linG_le (n := n) hb
      simp only [consN] at hnx
      simp only [consS] at hap
      obtain ⟨⟨y, b2⟩, hy⟩ : ∃ t, linG xs n b = t := ⟨_, rfl⟩
      rw [hy] at h58 hok hb2 hnx hap
      dsimp only at h58 hok hb2 hnx hap
      have hyl := hok.len
      have gy := flat_length y
      have y27 := flatF_take27 hyl
      have gy27 := flat_take27 hyl
      have hrs := rows_snoc out y
      unfold S at h58
      unfold RL at h58
      simp (dsimp := false) (disch := omega) only [h2, rules]
      refine GoCall.lend 0 h58 rfl rfl hcb rfl rfl rfl ?_
      simp (dsimp := false) (disch := omega) only [flat_ids, flat_reloc, flat_fz, List.append_nil, sh2, gy, hyl, y27, htk, hrs, rlo, ep, wrap64, rules, tys, eq_self, ↓reduceIte, Nat.reduceAdd, Nat.reduceMul, Nat.reduceBEq, Nat.reduceLT, Nat.reduceLeDiff]
      repeat refine And.intro (by omega) ?_
      refine Ap_loop (p, b2, out ++ [y]) (by dsimp only; omega) ?_ ⟨hb2, by rw [List.length_append, hL]; simp; omega, hnx, by rw [← hap]; simp⟩
      refine Weak.keep [0, 3] (by simp) rfl ?_ ?_
      · simp [leVs, leV, le1]
        omega
      · simp [leH, leO, le1s, le1]
    · intro h1 h2
      have hi0 : i = 0 := by omega
      subst hi0
      have hfb : b = fin := hnx
      have htot2 : out = tot := by rw [← hap]; simp [consS]
      subst hfb
      subst htot2
      simp (dsimp := false) (disch := omega) only [h2, Ap_end_ret, rules, Nat.reduceBEq]
      refine RetOK.lentB rfl ⟨trivial, trivial⟩ rfl (S_closed xs _) rfl ?_ rfl
      have hi1 : List.idxOf? 1 [0] = none := rfl
      simp (disch := omega) only [rlo, htk, hi1, List.drop_zero, Nat.zero_add, Nat.le_refl, ↓reduceIte, St.get, fzX, oneRes, fzV, fzC, fz1, fz0, Option.map_some, List.getD_cons_succ, List.getD_cons_zero, List.getElem?_cons_zero, List.getElem?_cons_succ]
end Go.Proofs.YtddnnhlcpffbdaaGreat

namespace Go.Proofs.YtddnnhlcpffbdaaGreat
open Go.AM Go.Pl
set_option maxRecDepth 100000
set_option maxHeartbeats 4000000

theorem numL_ok {q : Rat} (h : Bd 1 q) : LOk 1 (numL q) := by
  refine ⟨numL_len q, fun r hr => ?_⟩
  unfold numL at hr
  rcases List.mem_or_eq_of_mem_set hr with h1 | h1
  · rw [List.eq_of_mem_replicate h1]; exact cn_ok (Bd.zero (by decide))
  · rw [h1]; exact cn_ok h
theorem varL_ok (v : Nat) : LOk 1 (varL v) := by
  refine ⟨varL_len v, fun r hr => ?_⟩
  unfold varL at hr
  rcases List.mem_or_eq_of_mem_set hr with h1 | h1
  · rw [List.eq_of_mem_replicate h1]; exact cn_ok (Bd.zero (by decide))
  · rw [h1]; exact cn_ok (bd_int (by decide))
def sideL (v : Nat) (z : Int) : List Raw := (addL (varL v) (numL (z : Rat))).map cn
def sideH (v : Nat) (z : Int) : List Raw := (addL (negR (varL v)) (numL (z : Rat))).map cn
theorem sideL_ok (v : Nat) {z : Int} (h : z.natAbs < 4294967296) : LOk 4 (sideL v z) :=
  LOk.of_map (addL_length (varL_len v) (numL_len _)) (fun q hq => Bd.mono (addL_bd ((varL_ok v).bd (by decide)) ((numL_ok (bd_int h)).bd (by decide)) (by decide) q hq) (by decide))
theorem sideH_ok (v : Nat) {z : Int} (h : z.natAbs < 4294967296) : LOk 4 (sideH v z) :=
  LOk.of_map (addL_length (negR_len (varL_len v)) (numL_len _)) (fun q hq => Bd.mono (addL_bd (negR_bd ((varL_ok v).bd (by decide))) ((numL_ok (bd_int h)).bd (by decide)) (by decide) q hq) (by decide))
def boxLo (xs : List Int) (b : Nat) : Int := -1 + (nN xs b 3 : Int)
def boxHi (xs : List Int) (b : Nat) : Int := boxLo xs b + (1 + (nN xs (nx xs b) 2 : Int))
def boxS (xs : List Int) : Nat → Nat → Nat → List (List Raw)
  | 0, _, _ => []
  | k + 1, v, b => sideL v (-boxLo xs b) :: sideH v (boxHi xs b) :: boxS xs k (v + 1) (nx xs (nx xs b))
theorem box_small (xs : List Int) (b : Nat) : -1 ≤ boxLo xs b ∧ boxLo xs b ≤ 1 ∧ boxLo xs b < boxHi xs b ∧ boxHi xs b ≤ 3 := by
  have h1 := nN_lt (xs := xs) (a := b) (n := 3) (by decide)
  have h2 := nN_lt (xs := xs) (a := nx xs b) (n := 2) (by decide)
  unfold boxHi boxLo
  omega
theorem boxS_len (xs : List Int) : ∀ k v b, (boxS xs k v b).length = 2 * k
  | 0, _, _ => rfl
  | k + 1, v, b => by simp only [boxS, List.length_cons, boxS_len xs k]; omega
theorem boxS_ok (xs : List Int) : ∀ k v b, ∀ l ∈ boxS xs k v b, LOk 4 l
  | 0, v, b, l, h => by simp [boxS] at h
  | k + 1, v, b, l, h => by
    have hb := box_small xs b
    simp only [boxS, List.mem_cons] at h
    rcases h with h | h | h
    · rw [h]; exact sideL_ok v (by omega)
    · rw [h]; exact sideH_ok v (by omega)
    · exact boxS_ok xs k _ _ l h
theorem pd17 (xs : List Int) (n a : Nat) (hn8 : n ≤ 8) (hl : xs.length ≤ 1000) (ha : a ≤ xs.length) (hw : W64 xs) :
    Den Tryz.prog 17 [S xs a] [.ptr 0 0 0, .int .i64 n] [S xs (nxs xs (2 * n) a), .row true (rowsF (boxS xs n 0 a))] (.lsl 1 0 (2 * n) 27) := by
  have hc := S_closed xs a
  obtain ⟨fin, hfin⟩ : ∃ t, nxs xs (2 * n) a = t := ⟨_, rfl⟩
  obtain ⟨tot, htot⟩ : ∃ t, boxS xs n 0 a = t := ⟨_, rfl⟩
  have htl : tot.length = 2 * n := by rw [← htot, boxS_len]
  rw [hfin, htot]
  unfold S at hc ⊢
  refine den_of tabOk mixed Tryz.func17 (cd := _) rfl (by decide) rfl (n := 40) rfl rfl (m := 1) rfl ?_
  simp (dsimp := false) (disch := omega) only [List.replicate, rules]
  refine WA.loop (α := Nat × Nat × List (List Raw)) (fun ⟨i, b, out⟩ => ⟨[.ptr 0 0 0, .int .i64 n, .any, .any, .nilsl, .lsl 1 0 out.length 27, .int .i64 i] ++ List.replicate 35 .any, [S xs b, .row true (rowsF out)]⟩)
    (fun ⟨i, _, _⟩ => n - i) (fun ⟨i, b, out⟩ => i ≤ n ∧ b ≤ xs.length ∧ out.length = 2 * i ∧ nxs xs (2 * (n - i)) b = fin ∧ out ++ boxS xs (n - i) i b = tot) (0, a, []) ?_ ?_ ?_
  · refine Weak.nil 5 27 (by decide) rfl ?_
    refine Weak.keep [0, 1] (by simp) rfl ?_ ?_
    · simp [leVs, leV, le1]
    · simp [leH, leO, le1s, le1, S, rowsF]
  · exact ⟨Nat.zero_le _, ha, rfl, hfin, by rw [List.nil_append]; exact htot⟩
  · rintro ⟨i, b, out⟩ ⟨hi, hb, hol, hnx, hap⟩
    obtain ⟨L, hL⟩ : ∃ L, out.length = L := ⟨_, rfl⟩
    have rlo := rowsF_length out
    rw [hL] at rlo hol
    have htk := take_rows (ls := out) (n := L) (by omega)
    have hcb := S_closed xs b
    dsimp only
    rw [hL]
    unfold S at hcb ⊢
    simp (dsimp := false) (disch := omega) only [List.replicate, rules, tys, eq_self, ↓reduceIte]
    refine Br.dec ?_ ?_
    · intro h1 h2
      obtain ⟨p, hp⟩ : ∃ p, n - i = p + 1 := ⟨n - i - 1, by omega⟩
      have hp2 : n - (i + 1) = p := by omega
      have e2 : 2 * (p + 1) = 2 * p + 1 + 1 := by omega
      rw [hp] at hnx hap
      rw [e2] at hnx
      simp only [nxs] at hnx
      simp only [boxS] at hap
      have h60a := den60 xs b (-1) 1 3 hl hb hw (by decide) (by decide) (by decide) (by decide) (by decide)
      have hb1 := nx_le hb
      have hb2 := nx_le hb1
      have h60b := den60 xs (nx xs b) 1 2 2 hl hb1 hw (by decide) (by decide) (by decide) (by decide) (by decide)
      have hsm := box_small xs b
      have hlo : boxLo xs b = -1 + (nN xs b 3 : Int) := rfl
      have hhi : boxHi xs b = boxLo xs b + (1 + (nN xs (nx xs b) 2 : Int)) := rfl
      obtain ⟨b1, hb1e⟩ : ∃ t, nx xs b = t := ⟨_, rfl⟩
      rw [hb1e] at h60a h60b hb1 hb2 hnx hap hhi
      obtain ⟨b2, hb2e⟩ : ∃ t, nx xs b1 = t := ⟨_, rfl⟩
      rw [hb2e] at h60b hb2 hnx hap
      have c1 := S_closed xs b1
      have c2 := S_closed xs b2
      obtain ⟨w, hw2⟩ : ∃ t : Int, 1 + (nN xs b1 2 : Int) = t := ⟨_, rfl⟩
      rw [hw2] at h60b hhi
      obtain ⟨lo, hlo2⟩ : ∃ t, boxLo xs b = t := ⟨_, rfl⟩
      rw [hlo2] at hsm hlo hhi hap
      rw [← hlo] at h60a
      obtain ⟨hi', hhi2⟩ : ∃ t, boxHi xs b = t := ⟨_, rfl⟩
      rw [hhi2] at hsm hhi hap
      have eneg : (0 : Int) - lo = -lo := by omega
      have h55 := pd55 i (by omega)
      have h24a := den24 (-lo) (by omega)
      have h24b := den24 hi' (by omega)
      have h30a := pd30 (cn ((-lo : Int) : Rat)) (Raw.Ok.mono (cn_ok (bd_int (by omega))) (by decide))
      have h30b := pd30 (cn ((hi' : Int) : Rat)) (Raw.Ok.mono (cn_ok (bd_int (by omega))) (by decide))
      rw [cn_q] at h30a h30b
      have h57 := pd57 (varL i) ((varL_ok i).mono (by decide))
      have h56a := den74 (varL i) (numL ((-lo : Int) : Rat)) ((varL_ok i).mono (by decide)) ((numL_ok (bd_int (by omega))).mono (by decide))
      have h56b := den74 (negR (varL i)) (numL ((hi' : Int) : Rat)) ((negR_ok (varL_ok i) (by decide)).mono (by decide)) ((numL_ok (bd_int (by omega))).mono (by decide))
      change Den Tryz.prog 56 [] [_, _] [] (RL (sideL i (-lo))) at h56a
      change Den Tryz.prog 56 [] [_, _] [] (RL (sideH i hi')) at h56b
      have oka := sideL_ok i (z := -lo) (by omega)
      have okb := sideH_ok i (z := hi') (by omega)
      change Den Tryz.prog 24 [] _ [] (cn ((-lo : Int) : Rat)).v at h24a
      change Den Tryz.prog 24 [] _ [] (cn ((hi' : Int) : Rat)).v at h24b
      obtain ⟨ra, hra⟩ : ∃ t, cn ((-lo : Int) : Rat) = t := ⟨_, rfl⟩
      obtain ⟨rb, hrb⟩ : ∃ t, cn ((hi' : Int) : Rat) = t := ⟨_, rfl⟩
      rw [hra] at h24a h30a
      rw [hrb] at h24b h30b
      have lx := varL_len i
      have lna := numL_len ((-lo : Int) : Rat)
      have lnb := numL_len ((hi' : Int) : Rat)
      have lng := negR_len lx
      obtain ⟨x, hx⟩ : ∃ t, varL i = t := ⟨_, rfl⟩
      rw [hx] at h55 h57 h56a h56b lx lng
      obtain ⟨na, hna⟩ : ∃ t, numL ((-lo : Int) : Rat) = t := ⟨_, rfl⟩
      rw [hna] at h30a h56a lna
      obtain ⟨nb, hnb⟩ : ∃ t, numL ((hi' : Int) : Rat) = t := ⟨_, rfl⟩
      rw [hnb] at h30b h56b lnb
      obtain ⟨ng, hng⟩ : ∃ t, negR x = t := ⟨_, rfl⟩
      rw [hng] at h57 h56b lng
      obtain ⟨ya, hya⟩ : ∃ t, sideL i (-lo) = t := ⟨_, rfl⟩
      rw [hya] at h56a oka hap
      obtain ⟨yb, hyb⟩ : ∃ t, sideH i hi' = t := ⟨_, rfl⟩
      rw [hyb] at h56b okb hap
      have lya := oka.len
      have lyb := okb.len
      have gx := flat_length x
      have gx27 := flat_take27 lx
      have gna := flat_length na
      have gna27 := flat_take27 lna
      have gnb := flat_length nb
      have gnb27 := flat_take27 lnb
      have gng := flat_length ng
      have gng27 := flat_take27 lng
      have gya := flat_length ya
      have gya27 := flat_take27 lya
      have ya27 := flatF_take27 lya
      have gyb := flat_length yb
      have gyb27 := flat_take27 lyb
      have yb27 := flatF_take27 lyb
      have hrs := rows_snoc out ya
      have hrs2 := rows_snoc (out ++ [ya]) yb
      have rl2 : (rowsF (out ++ [ya])).length = L + 1 := by rw [rowsF_length, List.length_append, hL]; rfl
      have htk2 : List.take (L + 1) (rowsF (out ++ [ya])) = rowsF (out ++ [ya]) := List.take_of_length_le (by omega)
      have elen : L + 1 + 1 = L + 2 := rfl
      unfold S at h60a h60b c1 c2
      unfold Raw.v at h24a h24b h30a h30b
      unfold RL at h55 h57 h56a h56b h30a h30b
      simp (dsimp := false) (disch := omega) only [h2, rules]
      refine GoCall.lend 0 h60a rfl rfl hcb rfl rfl rfl ?_
      simp (dsimp := false) (disch := omega) only [sh3, List.append_nil, rules, Nat.reduceAdd]
      refine GoCall.lend 0 h60b rfl rfl c1 rfl rfl rfl ?_
      simp (dsimp := false) (disch := omega) only [sh3, List.append_nil, wrap64, rules, tys, eq_self, ↓reduceIte, Nat.reduceAdd]
      repeat refine And.intro (by omega) ?_
      refine GoCall.pure h55 rfl ?_
      simp (dsimp := false) (disch := omega) only [flat_reloc, List.append_nil, gx, lx, rules, tys, eq_self, Nat.reduceAdd, Nat.reduceMul, Nat.reduceLT, Nat.reduceLeDiff]
      repeat refine And.intro (by omega) ?_
      refine Draw.intro (by kernel_rfl) ?_
      simp (dsimp := false) (disch := omega) only [gx, lx, gx27, eneg, wrap64, rules, tys, eq_self, ↓reduceIte, Nat.reduceMul, Nat.reduceLeDiff]
      repeat refine And.intro (by omega) ?_
      have ehi : lo + w = hi' := hhi.symm
      refine GoCall.pure h24a rfl ?_
      simp (dsimp := false) (disch := omega) only [List.append_nil, rules, Nat.reduceAdd]
      refine GoCall.pure h30a rfl ?_
      simp (dsimp := false) (disch := omega) only [flat_reloc, List.append_nil, rules, Nat.reduceAdd]
      repeat refine And.intro (by omega) ?_
      refine GoCall.pure h56a (by simp [fzAs, fzA, flat_fz, flatF_fv]) ?_
      simp (dsimp := false) (disch := omega) only [flat_ids, flat_reloc, flat_fz, List.append_nil, gya, lya, ya27, htk, hrs, rlo, gx, lx, gx27, rules, tys, eq_self, ↓reduceIte, Nat.reduceAdd, Nat.reduceMul, Nat.reduceBEq, Nat.reduceLT, Nat.reduceLeDiff]
      repeat refine And.intro (by omega) ?_
      refine GoCall.pure h57 (by simp [fzAs, fzA, flat_fz, flatF_fv]) ?_
      simp (dsimp := false) (disch := omega) only [flat_ids, flat_reloc, List.append_nil, ehi, rules, Nat.reduceAdd]
      refine GoCall.pure h24b rfl ?_
      simp (dsimp := false) (disch := omega) only [List.append_nil, rules, Nat.reduceAdd]
      refine GoCall.pure h30b rfl ?_
      simp (dsimp := false) (disch := omega) only [flat_reloc, List.append_nil, rules, Nat.reduceAdd]
      refine GoCall.pure h56b (by simp [fzAs, fzA, flat_fz, flatF_fv]) ?_
      simp (dsimp := false) (disch := omega) only [flat_ids, flat_reloc, flat_fz, List.append_nil, gyb, lyb, yb27, htk2, hrs2, rl2, elen, wrap64, rules, tys, eq_self, ↓reduceIte, Nat.reduceAdd, Nat.reduceMul, Nat.reduceBEq, Nat.reduceLT, Nat.reduceLeDiff]
      repeat refine And.intro (by omega) ?_
      refine Ap_loop (i + 1, b2, out ++ [ya] ++ [yb]) (by dsimp only; omega) ?_ ⟨by omega, hb2, by simp; omega, by rw [hp2]; exact hnx, by rw [hp2, ← hap]; simp⟩
      refine Weak.keep [0, 6] (by simp) rfl ?_ ?_
      · simp [leVs, leV, le1]
        omega
      · simp [leH, leO, le1s, le1]
    · intro h1 h2
      have hn0 : n - i = 0 := by omega
      rw [hn0] at hap hnx
      have htot2 : out = tot := by rw [← hap]; simp [boxS]
      have hfb : b = fin := hnx
      have hL2 : L = 2 * n := by omega
      subst htot2
      subst hfb
      subst hL2
      simp (dsimp := false) (disch := omega) only [h2, Ap_end_ret, rules, Nat.reduceBEq]
      exact RetOK.lentOwn rfl ⟨trivial, trivial⟩ rfl (S_closed xs _) rfl (by decide) rfl

end Go.Proofs.YtddnnhlcpffbdaaGreat
