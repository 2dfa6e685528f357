/- Contracts: the reader of numbers: Lin; loose. -/
import Derived.Test.YtjjbkjgifdhlcaaGreatT12

namespace Go.Proofs.YtjjbkjgifdhlcaaGreat
open Go.AM Go.Pl
set_option maxRecDepth 100000
set_option maxHeartbeats 2000000

theorem flat_idsC (H : List Ob) (keep : List Nat) : ∀ rs : List Raw, (flat rs).flatMap (idsC H keep) = []
  | [] => rfl
  | r :: rs => by simp only [flat, List.flatMap_cons, idsC, ids1, ids0, List.nil_append, flat_idsC H keep rs]
theorem RetOK.formL {st : St} {ob : Ob} {a id : Nat} {w : Bool} {rs : List Raw} (ha : st.get a = .ptr id 0 0) (hb : st.heap[id]? = some (.box w (flat rs))) (hl : rs.length = 9) (hx : st.heap.head? = some ob) (hcl : ob.closed) (hrw : ob.rw = true) :
    RetOK tab [.cell a 30] 1 st [ob] (RL rs) := by
  refine RetOK.lentB (vs := [.agg (flat rs)]) (cd := (0 = 0 ∧ 0 + 27 ≤ (flat rs).length) ∧ True) ?_ ⟨⟨rfl, by rw [flat_length]; omega⟩, trivial⟩ hx hcl hrw ?_ ?_
  · simp [resVs, resV1, ha, at30, cellsAt, hb, oneOr, flat_take27 hl, TyI.isAgg]
  · simp [oneRes, fzX, fzV, flat_fzCs, RL]
  · simp only [oneRes, idsX, idsV, flat_idsC]
    rw [← hx]; rfl

def linS (xs : List Int) : Nat → Nat → Nat → List Raw → List Raw
  | 0, _, _, rs => rs
  | n + 1, i, a, rs => linS xs n (i + 1) (nx xs a) (rs.set i (cn ((-2 + (nN xs a 5 : Int) : Int) : Rat)))
theorem set_ok' {k : Nat} {rs : List Raw} (h : LOk k rs) (v : Nat) {r : Raw} (hr : r.Ok k) : LOk k (rs.set v r) :=
  ⟨by simp [h.len], fun x hx => by
    rcases List.mem_or_eq_of_mem_set hx with h1 | h1
    · exact h.ok x h1
    · rw [h1]; exact hr⟩
theorem linS_ok (xs : List Int) : ∀ n i a rs, LOk 4 rs → LOk 4 (linS xs n i a rs)
  | 0, _, _, _, h => h
  | n + 1, i, a, rs, h => by
    unfold linS
    have h1 := nN_lt (xs := xs) (a := a) (n := 5) (by decide)
    exact linS_ok xs n _ _ _ (set_ok' h i (Raw.Ok.mono (cn_ok (bd_int (by omega))) (by decide)))
def linF (xs : List Int) (a : Nat) : List Raw × Nat :=
  if nN xs (nx xs (nx xs (nxs xs 3 a))) 6 = 0 then
    (((linS xs 3 0 a (List.replicate 9 rz)).set 8 (cn (ratR xs (nxs xs 3 a)))).set 8 (looseR xs (nx xs (nx xs (nx xs (nxs xs 3 a))))).1, (looseR xs (nx xs (nx xs (nx xs (nxs xs 3 a))))).2)
  else ((linS xs 3 0 a (List.replicate 9 rz)).set 8 (cn (ratR xs (nxs xs 3 a))), nx xs (nx xs (nx xs (nxs xs 3 a))))
theorem linF_ok (xs : List Int) (a : Nat) : LOk 4 (linF xs a).1 := by
  have h1 := set_ok' (linS_ok xs 3 0 a _ zeros_ok) 8 (Raw.Ok.mono (cn_ok (ratR_bd xs (nxs xs 3 a))) (by decide))
  unfold linF
  split
  · exact set_ok' h1 8 (looseR_ok _ _)
  · exact h1
theorem linF_le {xs : List Int} {a : Nat} (h : a ≤ xs.length) : (linF xs a).2 ≤ xs.length := by
  have h3 := nxs_le (n := 3) h
  unfold linF
  split
  · exact looseR_le (nx_le (nx_le (nx_le h3)))
  · exact nx_le (nx_le (nx_le h3))

theorem den33 (xs : List Int) (a : Nat) (hl : xs.length ≤ 1000) (ha : a ≤ xs.length) (hw : W64 xs) :
    Den Tryz.prog 30 [S xs a] [.ptr 0 0 0, .int .i64 3] [S xs (linF xs a).2] (RL (linF xs a).1) := by
  have a3l := nxs_le (n := 3) ha
  have hokS := linS_ok xs 3 0 a _ zeros_ok
  unfold linF
  obtain ⟨rsf, hrsf⟩ : ∃ t, linS xs 3 0 a (List.replicate 9 rz) = t := ⟨_, rfl⟩
  obtain ⟨a3, e3⟩ : ∃ t, nxs xs 3 a = t := ⟨_, rfl⟩
  rw [e3] at a3l
  rw [hrsf] at hokS
  rw [hrsf, e3]
  unfold S
  refine den_of tabOk mixed Tryz.func30 (cd := _) rfl (by decide) rfl (n := 26) rfl rfl (m := 1) rfl ?_
  simp (dsimp := false) (disch := omega) only [List.replicate, rules, tys, Nat.reduceAdd]
  refine WA.loop (α := Nat × Nat × List Raw) (fun ⟨i, b, rs⟩ => ⟨[.ptr 0 0 0, .int .i64 3, .any, .any, .ptr 1 0 0, .ptr 2 0 0, .int .i64 i] ++ List.replicate 21 .any, [.box true [.fv (.sl (ints xs)), .int .i64 b, .int .i64 0], .box true (zcells 9), .box true (flat rs)]⟩)
    (fun ⟨i, _, _⟩ => 3 - i) (fun ⟨i, b, rs⟩ => i ≤ 3 ∧ b ≤ xs.length ∧ LOk 4 rs ∧ linS xs (3 - i) i b rs = rsf ∧ nxs xs (3 - i) b = a3) (0, a, List.replicate 9 rz) ?_ ?_ ?_
  · refine Weak.keep [0, 1, 2] (by simp) rfl ?_ ?_
    · simp [leVs, leV, le1]
    · simp [leH, leO, le1s, le1, zcells, List.replicate, flat, rz, u32s]
  · exact ⟨by omega, ha, zeros_ok, hrsf, e3⟩
  · rintro ⟨i, b, rs⟩ ⟨hi, hb, hok, hS, hX⟩
    have hlen := hok.len
    have hfl := flat_length rs
    have cb := S_closed xs b
    simp (dsimp := false) (disch := omega) only [List.replicate, rules, tys, eq_self, ↓reduceIte]
    refine Br.dec ?_ ?_
    · intro h1 h2
      have h60 := den60 xs b (-2) 2 5 hl hb hw (by decide) (by decide) (by decide) (by decide) (by decide)
      have l5 := nN_lt (xs := xs) (a := b) (n := 5) (by decide)
      obtain ⟨k, hk⟩ : ∃ k, 3 - i = k + 1 := ⟨2 - i, by omega⟩
      have hk2 : 3 - (i + 1) = k := by omega
      rw [hk] at hS hX
      unfold linS at hS
      unfold nxs at hX
      have h24 := den24 (-2 + (nN xs b 5 : Int)) (by omega)
      have hset := flat_set (rs := rs) (i := i) (by omega) (decide (((-2 + (nN xs b 5 : Int) : Int) : Rat).num < 0)) (limbs ((-2 + (nN xs b 5 : Int) : Int) : Rat).num.natAbs) (limbs ((-2 + (nN xs b 5 : Int) : Int) : Rat).den)
      have hcn : (⟨decide (((-2 + (nN xs b 5 : Int) : Int) : Rat).num < 0), limbs ((-2 + (nN xs b 5 : Int) : Int) : Rat).num.natAbs, limbs ((-2 + (nN xs b 5 : Int) : Int) : Rat).den⟩ : Raw) = cn ((-2 + (nN xs b 5 : Int) : Int) : Rat) := rfl
      have hokq : (cn ((-2 + (nN xs b 5 : Int) : Int) : Rat)).Ok 4 := Raw.Ok.mono (cn_ok (bd_int (by omega))) (by decide)
      rw [hcn] at hset
      obtain ⟨z, hz⟩ : ∃ z : Int, -2 + (nN xs b 5 : Int) = z := ⟨_, rfl⟩
      rw [hz] at h60 h24 hset hS hokq
      rw [FR_eq, N_val, N_val] at h24
      unfold S at h60 cb
      simp (dsimp := false) (disch := omega) only [h2, rules]
      refine GoCall.lend 0 h60 rfl rfl cb rfl rfl rfl ?_
      simp (dsimp := false) (disch := omega) only [sh3, List.append_nil, rules, Nat.reduceAdd]
      refine GoCall.pure h24 rfl ?_
      simp (dsimp := false) (disch := omega) only [List.append_nil, hset, wrap64, rules, tys, eq_self, ↓reduceIte, Nat.reduceAdd, Nat.reduceLT]
      repeat refine And.intro (by omega) ?_
      refine Ap_loop (i + 1, nx xs b, rs.set i (cn (z : Rat))) (by dsimp only; omega) ?_ ⟨by omega, nx_le hb, set_ok' hok i hokq, by rw [hk2]; exact hS, by rw [hk2]; exact hX⟩
      refine Weak.keep [0, 1, 2] (by simp) rfl ?_ ?_
      · simp [leVs, leV, le1]
      · simp [leH, leO, le1s, le1, le_flat, zcells]
    · intro h1 h2
      have hi3 : i = 3 := by omega
      subst hi3
      have hrs : rs = rsf := hS
      have hba : b = a3 := hX
      subst hrs
      subst hba
      have h30 := den30 xs b hl hb hw
      have hb4 := nx_le (nx_le hb)
      obtain ⟨a4, e4⟩ : ∃ t, nx xs (nx xs b) = t := ⟨_, rfl⟩
      rw [e4] at h30 hb4 ⊢
      have c4 := S_closed xs a4
      have hn6 := denN xs a4 6 hl hb4 hw (by decide) (by decide)
      have hb5 := nx_le hb4
      obtain ⟨a5, e5⟩ : ∃ t, nx xs a4 = t := ⟨_, rfl⟩
      rw [e5] at hn6 hb5 ⊢
      have c5 := S_closed xs a5
      have h34 := den34 xs a5 hl hb5 hw
      obtain ⟨m, hm⟩ : ∃ t, nN xs a4 6 = t := ⟨_, rfl⟩
      rw [hm] at hn6 ⊢
      have hset := flat_set (rs := rs) (i := 8) (by omega) (decide ((ratR xs b).num < 0)) (limbs (ratR xs b).num.natAbs) (limbs (ratR xs b).den)
      have hcn : (⟨decide ((ratR xs b).num < 0), limbs (ratR xs b).num.natAbs, limbs (ratR xs b).den⟩ : Raw) = cn (ratR xs b) := rfl
      rw [hcn] at hset
      have hok8 := set_ok' hok 8 (Raw.Ok.mono (cn_ok (ratR_bd xs b)) (by decide))
      obtain ⟨rs8, hrs8⟩ : ∃ t, rs.set 8 (cn (ratR xs b)) = t := ⟨_, rfl⟩
      rw [hrs8] at hset hok8 ⊢
      simp only [Nat.reduceMul, Nat.reduceAdd] at hset
      have hl8 := hok8.len
      have hf8 := flat_length rs8
      have hf27 : (flat rs8).length = 27 := by omega
      rw [FR_eq, N_val, N_val] at h30
      unfold S at h30 hn6 h34 cb c4 c5
      by_cases h0 : m = 0
      · rw [if_pos h0]
        have hb0 : ((m : Int) == 0) = true := by rw [h0]; rfl
        obtain ⟨⟨r, a6⟩, hr6⟩ : ∃ t, looseR xs a5 = t := ⟨_, rfl⟩
        have hro := looseR_ok xs a5
        rw [hr6] at h34 hro ⊢
        dsimp only at h34 hro ⊢
        have hset2 := flat_set (rs := rs8) (i := 8) (by omega) r.neg r.num r.den
        have hr2 : (⟨r.neg, r.num, r.den⟩ : Raw) = r := rfl
        rw [hr2] at hset2
        have hok9 := set_ok' hok8 8 hro
        obtain ⟨rs9, hrs9⟩ : ∃ t, rs8.set 8 r = t := ⟨_, rfl⟩
        rw [hrs9] at hset2 hok9 ⊢
        simp only [Nat.reduceMul, Nat.reduceAdd] at hset2
        have hl9 := hok9.len
        have hf9 := flat_length rs9
        have hf27' : (flat rs9).length = 27 := by omega
        unfold Raw.v at h34
        simp (dsimp := false) (disch := omega) only [h2, rules, Nat.reduceBEq]
        refine GoCall.lend 0 h30 rfl rfl cb rfl rfl rfl ?_
        simp (dsimp := false) (disch := omega) only [sh1, List.append_nil, hset, rules, tys, eq_self, Nat.reduceAdd, Nat.reduceLT]
        repeat refine And.intro (by omega) ?_
        refine GoCall.lend 0 hn6 rfl rfl c4 rfl rfl rfl ?_
        simp (dsimp := false) (disch := omega) only [sh2, List.append_nil, hb0, rules, tys, eq_self, ↓reduceIte, Nat.reduceAdd]
        refine GoCall.lend 0 h34 rfl rfl c5 rfl rfl rfl ?_
        simp (dsimp := false) (disch := omega) only [sh1, List.append_nil, zcells_drop, zcells_length, hset2, flat_take27 hl9, hf27', Ap_end_ret, rules, tys, eq_self, ↓reduceIte, Nat.reduceAdd, Nat.reduceLT, Nat.reduceLeDiff]
        repeat refine And.intro (by omega) ?_
        exact RetOK.formL rfl rfl hl9 rfl (S_closed xs _) rfl
      · rw [if_neg h0]
        have hb0 : ((m : Int) == 0) = false := by rw [beq_eq_false_iff_ne]; omega
        simp (dsimp := false) (disch := omega) only [h2, rules, Nat.reduceBEq]
        refine GoCall.lend 0 h30 rfl rfl cb rfl rfl rfl ?_
        simp (dsimp := false) (disch := omega) only [sh1, List.append_nil, hset, rules, tys, eq_self, Nat.reduceAdd, Nat.reduceLT]
        repeat refine And.intro (by omega) ?_
        refine GoCall.lend 0 hn6 rfl rfl c4 rfl rfl rfl ?_
        simp (dsimp := false) (disch := omega) only [sh2, List.append_nil, zcells_drop, zcells_length, hb0, flat_take27 hl8, hf27, Ap_end_ret, rules, tys, eq_self, ↓reduceIte, Nat.reduceAdd, Nat.reduceLT, Nat.reduceLeDiff]
        repeat refine And.intro (by omega) ?_
        exact RetOK.formL rfl rfl hl8 rfl (S_closed xs _) rfl

def looseS (xs : List Int) : Nat → Nat → List Raw → List Raw × Nat
  | 0, a, rs => (rs, a)
  | n + 1, a, rs => looseS xs n (looseR xs (nx xs a)).2 (rs.set (nN xs a 8) (looseR xs (nx xs a)).1)
theorem looseS_ok (xs : List Int) : ∀ n a rs, LOk 4 rs → LOk 4 (looseS xs n a rs).1
  | 0, _, _, h => h
  | n + 1, a, rs, h => by
    unfold looseS
    exact looseS_ok xs n _ _ (set_ok' h _ (looseR_ok _ _))
theorem looseS_le (xs : List Int) : ∀ n a rs, a ≤ xs.length → (looseS xs n a rs).2 ≤ xs.length
  | 0, _, _, h => h
  | n + 1, a, rs, h => by
    unfold looseS
    exact looseS_le xs n _ _ (looseR_le (nx_le h))
def looseF (xs : List Int) (a : Nat) : List Raw × Nat := looseS xs (nN xs (linF xs a).2 3) (nx xs (linF xs a).2) (linF xs a).1
theorem looseF_ok (xs : List Int) (a : Nat) : LOk 4 (looseF xs a).1 := looseS_ok _ _ _ _ (linF_ok xs a)
theorem looseF_le {xs : List Int} {a : Nat} (h : a ≤ xs.length) : (looseF xs a).2 ≤ xs.length := looseS_le _ _ _ _ (nx_le (linF_le h))

theorem den9 (xs : List Int) (a : Nat) (hl : xs.length ≤ 1000) (ha : a ≤ xs.length) (hw : W64 xs) :
    Den Tryz.prog 16 [S xs a] [.ptr 0 0 0] [S xs (looseF xs a).2] (RL (looseF xs a).1) := by
  have h33 := den33 xs a hl ha hw
  have hc := S_closed xs a
  have hok := linF_ok xs a
  have ha1 := linF_le ha
  unfold looseF
  obtain ⟨⟨rs, a1⟩, hr⟩ : ∃ t, linF xs a = t := ⟨_, rfl⟩
  rw [hr] at h33 hok ha1 ⊢
  dsimp only at h33 hok ha1 ⊢
  have c1 := S_closed xs a1
  have h3 := denN xs a1 3 hl ha1 hw (by decide) (by decide)
  have ha2 := nx_le ha1
  obtain ⟨a2, e2⟩ : ∃ t, nx xs a1 = t := ⟨_, rfl⟩
  have hm3 : nN xs a1 3 ≤ 3 := Nat.le_of_lt (nN_lt (by decide))
  obtain ⟨m, hm⟩ : ∃ t, nN xs a1 3 = t := ⟨_, rfl⟩
  rw [hm] at hm3
  rw [e2] at h3 ha2 ⊢
  rw [hm] at h3 ⊢
  obtain ⟨⟨rsf, af⟩, hf⟩ : ∃ t, looseS xs m a2 rs = t := ⟨_, rfl⟩
  rw [hf]
  dsimp only
  have hlen := hok.len
  have hfl : (flat rs).length = 27 := by rw [flat_length]; omega
  unfold RL at h33
  unfold S at h33 h3 hc c1 ⊢
  refine den_of tabOk mixed Tryz.func16 (cd := _) rfl (by decide) rfl (n := 19) rfl rfl (m := 1) rfl ?_
  simp (dsimp := false) (disch := omega) only [List.replicate, rules, tys]
  refine GoCall.lend 0 h33 rfl rfl hc rfl rfl rfl ?_
  simp (dsimp := false) (disch := omega) only [sh2, List.append_nil, flat_reloc, hfl, rules, tys, eq_self, Nat.reduceAdd, Nat.reduceLT, Nat.reduceLeDiff]
  repeat refine And.intro (by omega) ?_
  refine GoCall.lend 0 h3 rfl rfl c1 rfl rfl rfl ?_
  simp (dsimp := false) (disch := omega) only [sh2, List.append_nil, rules, Nat.reduceAdd]
  refine WA.loop (α := Nat × Nat × List Raw) (fun ⟨n, b, rs⟩ => ⟨[.ptr 0 0 0, .any, .ptr 1 0 0, .ptr 2 0 0, .int .i64 n] ++ List.replicate 15 .any, [.box true [.fv (.sl (ints xs)), .int .i64 b, .int .i64 0], .box true (zcells 9), .box true (flat rs)]⟩)
    (fun ⟨n, _, _⟩ => n) (fun ⟨n, b, rs⟩ => n ≤ 3 ∧ b ≤ xs.length ∧ LOk 4 rs ∧ looseS xs n b rs = (rsf, af)) (m, a2, rs) ?_ ?_ ?_
  · refine Weak.keep [0, 1, 2] (by simp) rfl ?_ ?_
    · simp [leVs, leV, le1]
    · simp [leH, leO, le1s, le1, le_flat, zcells]
  · exact ⟨hm3, ha2, hok, hf⟩
  · rintro ⟨n, b, rs⟩ ⟨hn3, hb, hok, hS⟩
    have hlen := hok.len
    have hfl := flat_length rs
    have cb := S_closed xs b
    simp (dsimp := false) (disch := omega) only [List.replicate, rules, tys, eq_self, ↓reduceIte]
    refine Br.dec ?_ ?_
    · intro h1 h2
      obtain ⟨k, rfl⟩ : ∃ k, n = k + 1 := ⟨n - 1, by omega⟩
      have hk : ((k + 1 : Nat) : Int) - 1 = (k : Int) := by omega
      have h8 := denN xs b 8 hl hb hw (by decide) (by decide)
      have l8 := nN_lt (xs := xs) (a := b) (n := 8) (by decide)
      have hb1 := nx_le hb
      have h34 := den34 xs (nx xs b) hl hb1 hw
      have c1 := S_closed xs (nx xs b)
      unfold looseS at hS
      have hro := looseR_ok xs (nx xs b)
      have hrl := looseR_le hb1
      obtain ⟨⟨r, a6⟩, hr6⟩ : ∃ t, looseR xs (nx xs b) = t := ⟨_, rfl⟩
      rw [hr6] at h34 hS hro hrl
      dsimp only at h34 hS hro hrl
      obtain ⟨i, hi⟩ : ∃ t, nN xs b 8 = t := ⟨_, rfl⟩
      rw [hi] at h8 l8 hS
      have hset := flat_set (rs := rs) (i := i) (by omega) r.neg r.num r.den
      have hr2 : (⟨r.neg, r.num, r.den⟩ : Raw) = r := rfl
      rw [hr2] at hset
      unfold Raw.v at h34
      unfold S at h8 h34 cb c1
      simp (dsimp := false) (disch := omega) only [h2, rules]
      refine GoCall.lend 0 h8 rfl rfl cb rfl rfl rfl ?_
      simp (dsimp := false) (disch := omega) only [sh2, List.append_nil, rules, Nat.reduceAdd]
      refine GoCall.lend 0 h34 rfl rfl c1 rfl rfl rfl ?_
      simp (dsimp := false) (disch := omega) only [sh1, List.append_nil, hset, hk, wrap64, rules, tys, eq_self, ↓reduceIte, Nat.reduceAdd, Nat.reduceLT]
      repeat refine And.intro (by omega) ?_
      refine Ap_loop (k, a6, rs.set i r) (by dsimp only; omega) ?_ ⟨by omega, hrl, set_ok' hok i hro, hS⟩
      refine Weak.keep [0, 1, 2] (by simp) rfl ?_ ?_
      · simp [leVs, leV, le1]
      · simp [leH, leO, le1s, le1, le_flat, zcells]
    · intro h1 h2
      have hn0 : n = 0 := by omega
      subst hn0
      obtain ⟨e1, e2⟩ : rs = rsf ∧ b = af := by
        have := hS
        simp only [looseS, Prod.mk.injEq] at this
        exact this
      subst e1
      subst e2
      have hf27 : (flat rs).length = 27 := by omega
      simp (dsimp := false) (disch := omega) only [List.append_nil, zcells_drop, zcells_length, h2, flat_take27 hlen, hf27, Ap_end_ret, rules, tys, eq_self, ↓reduceIte, Nat.reduceBEq, Nat.reduceLT, Nat.reduceLeDiff]
      repeat refine And.intro (by omega) ?_
      exact RetOK.formL rfl rfl hlen rfl (S_closed xs _) rfl

end Go.Proofs.YtjjbkjgifdhlcaaGreat

namespace Go.Proofs.YtjjbkjgifdhlcaaGreat
open Go.AM Go.Pl
set_option maxRecDepth 100000
set_option maxHeartbeats 2000000

theorem RetOK.ownB {T : Tab} {st : St} {rs : List ResultVar} {id : Nat} {ob : Ob} {cd : Prop} (h1 : resVs T st rs = some (cd, [.ptr id 0 0])) (hc : cd) (h2 : st.heap[id]? = some ob) (hcl : ob.closed) (hrw : ob.rw = true) :
    RetOK T rs 0 st [ob] (.ptr 0 0 0) := by
  refine ⟨cd, [.ptr id 0 0], [id], h1, hc, by simp, fun i hi => absurd hi (Nat.not_lt_zero i), ?_, rfl, fun j k hj => ?_, fun o ho => ?_⟩
  · simp [oneRes, fzX, fzV, fzC, List.idxOf?_cons]
  · cases j with
    | zero =>
      simp at hj; subst hj
      simp [oneRes, idsX, idsV, idsC, List.idxOf?_cons, shutIds, h2]
    | succ j => simp at hj
  · simp at ho; subst ho; exact ⟨hcl, hrw⟩

theorem den10 (l : List Int) (hl : l.length < 9223372036854775808) : Den Tryz.prog 15 [] [.fv (.sl (ints l))] [S (l.take 1000) 0] (.ptr 0 0 0) := by
  have hil := ints_length l
  have hc := S_closed (l.take 1000) 0
  have hone : ∀ y ∈ ints l, y.length = 1 := by
    intro y hy
    simp only [ints, List.mem_map] at hy
    obtain ⟨n, _, rfl⟩ := hy
    rfl
  unfold S at hc ⊢
  by_cases h : l.length > 1000
  · have h1 : decide ((l.length : Int) > 1000) = true := decide_eq_true (by omega)
    have htk : List.take 1000 (ints l) = ints (l.take 1000) := by simp [ints, List.map_take]
    refine den_of tabOk mixed Tryz.func15 (cd := _) rfl (by decide) rfl (n := 10) rfl rfl (m := 0) rfl ?_
    simp (dsimp := false) (disch := omega) only [List.replicate, hil, h1, htk, Int.reduceToNat, Ap_end_ret, rules, tys, eq_self, ↓reduceIte, Nat.reduceAdd, Nat.reduceSub, Nat.reduceLT, Nat.reduceLeDiff]
    refine ⟨⟨by omega, by omega, hone⟩, ?_⟩
    exact RetOK.ownB rfl ⟨trivial, trivial⟩ rfl hc rfl
  · have h1 : decide ((l.length : Int) > 1000) = false := decide_eq_false (by omega)
    rw [List.take_of_length_le (by omega)] at hc ⊢
    refine den_of tabOk mixed Tryz.func15 (cd := _) rfl (by decide) rfl (n := 10) rfl rfl (m := 0) rfl ?_
    simp (dsimp := false) (disch := omega) only [List.replicate, hil, h1, Ap_end_ret, rules, tys, eq_self, ↓reduceIte, Nat.reduceAdd, Nat.reduceLT, Nat.reduceLeDiff]
    exact RetOK.ownB rfl ⟨trivial, trivial⟩ rfl hc rfl

end Go.Proofs.YtjjbkjgifdhlcaaGreat
