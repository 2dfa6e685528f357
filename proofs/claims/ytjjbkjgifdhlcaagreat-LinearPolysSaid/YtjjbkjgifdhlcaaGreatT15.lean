/- Contracts: slices of forms: insertion sort. -/
import Derived.Test.YtjjbkjgifdhlcaaGreatT14
import Derived.Test.YtjjbkjgifdhlcaaGreatT8
import Derived.Test.YtjjbkjgifdhlcaaGreatT11
import Derived.Test.YtjjbkjgifdhlcaaGreatT12
import Derived.Test.YtjjbkjgifdhlcaaGreatT13

namespace Go.Proofs.YtjjbkjgifdhlcaaGreat
open Go.AM Go.Pl
set_option maxRecDepth 100000
set_option maxHeartbeats 4000000

def AOk (k : Nat) (ls : List (List Raw)) : Prop := ∀ l ∈ ls, LOk k l
theorem AOk.at {k : Nat} {ls : List (List Raw)} (h : AOk k ls) {i : Nat} (hi : i < ls.length) : LOk k (ls.getD i []) := by
  rw [List.getD_eq_getElem?_getD, List.getElem?_eq_getElem hi]
  exact h _ (List.getElem_mem hi)
theorem AOk.set {k : Nat} {ls : List (List Raw)} (h : AOk k ls) (i : Nat) {x : List Raw} (hx : LOk k x) : AOk k (ls.set i x) := fun l hl => by
  rcases List.mem_or_eq_of_mem_set hl with h1 | h1
  · exact h l h1
  · rw [h1]; exact hx
structure SortOf (ls ls' : List (List Raw)) : Prop where
  len : ls'.length = ls.length
  mem : ∀ f, f ∈ ls' ↔ f ∈ ls
  ord : ∀ p q, p < q → q < ls'.length → cmpR (ls'.getD p []) (ls'.getD q []) ≤ 0
end Go.Proofs.YtjjbkjgifdhlcaaGreat

namespace Go.Proofs.YtjjbkjgifdhlcaaGreat
open Go.AM Go.Pl
set_option maxRecDepth 100000
set_option maxHeartbeats 4000000

theorem pd143 (x : Nat) (hx : x < 256) : Den Tryz.prog 245 [] [.int .u64 x] [] (.int .i64 (blen x : Int)) := by
  have h8 : ∀ n : Nat, n < 256 → (((Lib.len8tab[n]?).getD 0).toNat : Nat) = blen n := fun n hn => len8_all ⟨n, hn⟩
  have hsz : Lib.len8tab.size = 256 := Lib.len8tab_size
  have hb8 : blen x ≤ 8 := by
    have : ∀ m : Fin 256, blen m.val ≤ 8 := by decide +kernel
    exact this ⟨x, hx⟩
  have e1 : decide ((x : Int) ≥ 4294967296) = false := decide_eq_false (by omega)
  have e2 : decide ((x : Int) ≥ 65536) = false := decide_eq_false (by omega)
  have e3 : decide ((x : Int) ≥ 256) = false := decide_eq_false (by omega)
  refine den_of tabOk mixed Tryz.func245 (cd := _) rfl (by decide) rfl (n := 24) rfl rfl (m := 0) rfl ?_
  simp (dsimp := false) (disch := omega) only [List.replicate, fold8, of_string, e1, e2, e3, h8, wrap64, wrapU8c, Ap_end_ret, rules, tys, eq_self, ↓reduceIte]
  refine ⟨by rw [hsz]; omega, ?_⟩
  refine RetOK.pure rfl ⟨trivial, trivial⟩ ?_
  simp (disch := omega) only [St.get, fzX, oneRes, fzV, fzC, fz1, fz0, Option.map_some, List.getD_cons_succ, List.getD_cons_zero]
  simp
theorem pd118 (x : Nat) (hx : x < 256) : Den Tryz.prog 207 [] [.int .u64 x] [] (.int .i64 (blen x : Int)) := by
  refine den_of tabOk mixed Tryz.func207 (cd := _) rfl (by decide) rfl (n := 7) rfl rfl (m := 0) rfl ?_
  simp (dsimp := false) (disch := omega) only [List.replicate, rules]
  refine GoCall.pure (pd143 x hx) rfl ?_
  simp (dsimp := false) (disch := omega) only [Ap_end_ret, rules]
  refine RetOK.pure rfl ⟨trivial, trivial⟩ rfl

end Go.Proofs.YtjjbkjgifdhlcaaGreat

namespace Go.Proofs.YtjjbkjgifdhlcaaGreat
open Go.AM Go.Pl
set_option maxRecDepth 100000
set_option maxHeartbeats 4000000

theorem rowsT_set (ts : List RT) (i : Nat) (t : RT) : (rowsT ts).set i (tmF t) = rowsT (ts.set i t) := by simp [rowsT, List.map_set]
theorem tmF_drop11 {t : RT} (h : t.1.length = 8) : List.drop 11 (tmF t) = [] := List.drop_of_length_le (by rw [tmF_length h]; omega)
abbrev mV (g : Nat) (v : Value) : PV := .fv (.lit (.func (.func g) #[v] #[]))
theorem iq236 (g : Nat) (v : Value) (u : FV) (hv : PV.ofValue v = .agg [.fv u]) (ls : List RT) (hl : ∀ t ∈ ls, t.1.length = 8) (hn : ls.length ≤ 1000000)
    (hcmp : ∀ s ∈ ls, ∀ t ∈ ls, Den Tryz.prog g [] [.agg [.fv u], .agg (tmC s), .agg (tmC t)] [] (.int .i64 (-(cmpM s.1 t.1)))) :
    ∃ H1 res, (fun H1 res => ∃ ls', H1 = [.row true (rowsT ls')] ∧ res = PV.tup [] ∧ ls'.Perm ls ∧ ls'.Pairwise (fun a b => ¬ ltT b a)) H1 res ∧
      Den Tryz.prog 236 [.row true (rowsT ls)] [.lsl 0 0 ls.length 11, .int .i64 0, .int .i64 ls.length, mV g v] H1 res := by
  obtain ⟨n, hnn⟩ : ∃ n, ls.length = n := ⟨_, rfl⟩
  rw [hnn] at hn ⊢
  refine den_some tabOk mixed Tryz.func236 (cd := _) rfl (by decide) rfl (n := 49) rfl rfl (m := 1) rfl ?_
  simp (dsimp := false) (disch := omega) only [List.replicate, wrap64, rules, tys, eq_self, ↓reduceIte]
  refine WA.loop (α := Nat × List RT) (fun ⟨i, l⟩ => ⟨[.lsl 0 0 n 11, .int .i64 0, .int .i64 n, mV g v, .any, .any, .any, .any, .int .i64 i] ++ List.replicate 44 .any, [.row true (rowsT l)]⟩)
    (fun ⟨i, _⟩ => n + 1 - i) (fun ⟨i, l⟩ => 1 ≤ i ∧ (i ≤ n ∨ i = 1) ∧ l.Perm ls ∧ ∀ p q, p < q → q < i → q < n → ¬ ltT (l.getD q rt0) (l.getD p rt0)) (1, ls) ?_ ?_ ?_
  · refine Weak.keep [0] (by simp) rfl ?_ ?_
    · simp [leVs, leV, le1]
    · simp [leH, leO]
  · exact ⟨Nat.le_refl _, Or.inr rfl, List.Perm.refl _, fun p q h1 h2 h3 => by omega⟩
  · rintro ⟨i, l⟩ ⟨hi1, hin, hperm, hord⟩
    have hll : l.length = n := by rw [hperm.length_eq, hnn]
    simp (dsimp := false) (disch := omega) only [List.replicate, rules, tys, eq_self, ↓reduceIte]
    refine Br.dec ?_ ?_
    · intro h1 h2
      simp (dsimp := false) (disch := omega) only [h2, rules]
      refine WA.loop (α := Nat × List RT) (fun ⟨j, l⟩ => ⟨[.lsl 0 0 n 11, .int .i64 0, .int .i64 n, mV g v, .any, .any, .any, .any, .int .i64 i, .int .i64 j] ++ List.replicate 43 .any, [.row true (rowsT l)]⟩)
        (fun ⟨j, _⟩ => j) (fun ⟨j, l⟩ => j ≤ i ∧ l.Perm ls ∧ SrtG rt0 ltT l i j) (i, l) ?_ ?_ ?_
      · refine Weak.keep [0] (by simp) rfl ?_ ?_
        · simp [leVs, leV, le1]
        · simp [leH, leO]
      · exact ⟨Nat.le_refl _, hperm, fun p q h3 h4 h5 => hord p q h3 (by omega) (by omega)⟩
      · rintro ⟨j, l⟩ ⟨hj, hperm, hsrt⟩
        have hll : l.length = n := by rw [hperm.length_eq, hnn]
        have hl8 : ∀ t ∈ l, t.1.length = 8 := fun t ht => hl t (hperm.mem_iff.1 ht)
        have hnt : ∀ x ∈ l, ∀ y ∈ l, ∀ z ∈ l, ¬ ltT x y → ¬ ltT y z → ¬ ltT x z := fun x hx y hy z hz => ltT_nt (hl8 x hx) (hl8 y hy) (hl8 z hz)
        simp (dsimp := false) (disch := omega) only [List.replicate, rules]
        refine Draw.intro (by kernel_rfl) ?_
        simp (dsimp := false) (disch := omega) only [rules, tys, eq_self, ↓reduceIte]
        refine Br.dec ?_ ?_
        · intro h3 h4
          obtain ⟨p, rfl⟩ : ∃ p, j = p + 1 := ⟨j - 1, by omega⟩
          have hp1 : (((p + 1 : Nat) : Int) - 1) = (p : Int) := by omega
          have m1 := getD_memT (ts := l) (i := p + 1) (by omega)
          have m2 := getD_memT (ts := l) (i := p) (by omega)
          have hden := hcmp _ (hperm.mem_iff.1 m1) _ (hperm.mem_iff.1 m2)
          have r1 := rowsT_getD (ts := l) (i := p + 1) (by omega)
          have r2 := rowsT_getD (ts := l) (i := p) (by omega)
          have lx := hl8 _ m1
          have ly := hl8 _ m2
          have hlt : ltT (l.getD (p + 1) rt0) (l.getD p rt0) ↔ -(cmpM (l.getD (p + 1) rt0).1 (l.getD p rt0).1) < 0 := by
            unfold ltT
            rw [← cmpM_gt]
            omega
          have hsw : ((rowsT l).set (p + 1) (tmF (l.getD p rt0))).set p (tmF (l.getD (p + 1) rt0)) = rowsT (swapG rt0 l (p + 1)) := by
            rw [rowsT_set, rowsT_set]
            unfold swapG
            rw [Nat.add_sub_cancel]
          have r3 : ((rowsT l).set (p + 1) (tmF (l.getD p rt0))).getD p [] = tmF (l.getD p rt0) := by
            rw [List.getD_eq_getElem?_getD, List.getElem?_set_ne (by omega), ← List.getD_eq_getElem?_getD, r2]
          have hswap := fun h => srtG_swap rt0 ltT ltT_asym (ls := l) (i := i) (j := p + 1) (by omega) hj (by omega) hsrt h
          have hdone := fun h => srtG_done rt0 ltT (ls := l) hnt (i := i) (j := p + 1) (by omega) hj hsrt h
          have hsp := swapG_perm rt0 (ls := l) (j := p + 1) (by omega) (by omega)
          rw [Nat.add_sub_cancel] at hswap hdone
          obtain ⟨x, hxx⟩ : ∃ x, l.getD (p + 1) rt0 = x := ⟨_, rfl⟩
          obtain ⟨y, hyy⟩ : ∃ x, l.getD p rt0 = x := ⟨_, rfl⟩
          rw [hxx] at hden r1 lx hlt hsw hswap hdone
          rw [hyy] at hden r2 r3 ly hlt hsw hswap hdone
          have rl := rowsT_length l
          have x11 := tmF_take11 lx
          have y11 := tmF_take11 ly
          have fx := tmF_length lx
          have fy := tmF_length ly
          have dx := tmF_drop11 lx
          have dy := tmF_drop11 ly
          have gx := tmC_length lx
          have gy := tmC_length ly
          obtain ⟨z, hz⟩ : ∃ z, -(cmpM x.1 y.1) = z := ⟨_, rfl⟩
          rw [hz] at hden hlt
          simp (dsimp := false) (disch := omega) only [h4, hp1, r1, r2, x11, y11, tmF_fv, rl, hv, fx, fy, wrap64, rules, tys, eq_self, ↓reduceIte, Nat.reduceLeDiff]
          repeat refine And.intro (by omega) ?_
          refine GoCall.pure hden (by simp [fzAs, fzA, fzs_tmC, tmF_fv, fzs, fz0]) ?_
          simp (dsimp := false) (disch := omega) only [ids_tmC, rules, tys, eq_self, ↓reduceIte]
          refine Br.dec ?_ ?_
          · intro h5 h6
            simp (dsimp := false) (disch := omega) only [h6, rules]
            refine Draw.intro (by kernel_rfl) ?_
            simp (dsimp := false) (disch := omega) only [hp1, r1, r2, r3, x11, y11, tmF_fv, rl, fx, fy, gx, gy, dx, dy, hsw, List.length_set, fzs_tmC, ids_tmC, List.append_nil, wrap64, rules, tys, eq_self, ↓reduceIte, Nat.reduceLT, Nat.reduceLeDiff]
            repeat refine And.intro (by omega) ?_
            refine Ap_loop (p, swapG rt0 l (p + 1)) (by dsimp only; omega) ?_ ⟨by omega, hsp.trans hperm, hswap (hlt.2 h5)⟩
            refine Weak.keep [0] (by simp) rfl ?_ ?_
            · simp [leVs, leV, le1]
            · simp [leH, leO]
          · intro h5 h6
            have hd := hdone (Or.inr (fun h => h5 (hlt.1 h)))
            simp (dsimp := false) (disch := omega) only [h6, wrap64, rules, tys, eq_self, ↓reduceIte, Nat.reduceBEq]
            refine Ap_loop (i + 1, l) (by dsimp only; omega) ?_ ⟨by omega, by omega, hperm, fun p q h7 h8 h9 => hd p q h7 (by omega)⟩
            refine Weak.keep [0] (by simp) rfl ?_ ?_
            · simp [leVs, leV, le1]
            · simp [leH, leO]
        · intro h3 h4
          have hd := srtG_done rt0 ltT (ls := l) hnt (i := i) (j := j) (by omega) hj hsrt (Or.inl (by omega))
          simp (dsimp := false) (disch := omega) only [h4, wrap64, rules, tys, eq_self, ↓reduceIte, Nat.reduceBEq]
          refine Ap_loop (i + 1, l) (by dsimp only; omega) ?_ ⟨by omega, by omega, hperm, fun p q h7 h8 h9 => hd p q h7 (by omega)⟩
          refine Weak.keep [0] (by simp) rfl ?_ ?_
          · simp [leVs, leV, le1]
          · simp [leH, leO]
    · intro h1 h2
      have hpw : l.Pairwise (fun a b => ¬ ltT b a) := pairwise_getD rt0 ltT (fun p q h3 h4 => hord p q h3 (by omega) (by omega))
      simp (dsimp := false) (disch := omega) only [h2, rules, Nat.reduceBEq]
      exact ⟨[.row true (rowsT l)], .tup [], ⟨l, rfl, rfl, hperm, hpw⟩, RetOK.lentB (cd := True) (vs := []) rfl trivial rfl trivial rfl rfl rfl⟩
theorem iq206 (V : PV) (ls ls' : List RT) (lim : Int) (hn : ls.length ≤ 12) (h : Den Tryz.prog 236 [.row true (rowsT ls)] [.lsl 0 0 ls.length 11, .int .i64 0, .int .i64 ls.length, V] [.row true (rowsT ls')] (.tup [])) (hV : ∃ v g, V = mV g v) :
    Den Tryz.prog 206 [.row true (rowsT ls)] [.lsl 0 0 ls.length 11, .int .i64 0, .int .i64 ls.length, .int .i64 lim, V] [.row true (rowsT ls')] (.tup []) := by
  obtain ⟨v, g, rfl⟩ := hV
  obtain ⟨n, hnn⟩ : ∃ n, ls.length = n := ⟨_, rfl⟩
  rw [hnn] at h hn ⊢
  have e1 : decide ((n : Int) - 0 ≤ 12) = true := decide_eq_true (by omega)
  refine den_of tabOk mixed Tryz.func206 (cd := _) rfl (by decide) rfl (n := 143) rfl rfl (m := 1) rfl ?_
  simp (dsimp := false) (disch := omega) only [List.replicate, rules]
  refine WA.loop (α := Unit) (fun _ => ⟨[.lsl 0 0 n 11, .int .i64 0, .int .i64 n, .int .i64 lim, mV g v, .any, .any, .any, .any, .any, .bool true, .bool true] ++ List.replicate 136 .any, [.row true (rowsT ls)]⟩)
    (fun _ => 0) (fun _ => True) () ?_ trivial ?_
  · refine Weak.keep [0] (by simp) rfl ?_ ?_
    · simp [leVs, leV, le1]
    · simp [leH, leO]
  · rintro ⟨⟩ _
    simp (dsimp := false) (disch := omega) only [List.replicate, e1, wrap64, rules, tys, eq_self, ↓reduceIte]
    refine GoCall.lend 0 h rfl rfl trivial rfl rfl rfl ?_
    simp (dsimp := false) (disch := omega) only [List.append_nil, Ap_end_ret, rules]
    exact RetOK.lentB (cd := True) (vs := []) rfl trivial rfl trivial rfl rfl rfl
def sortMax : Nat := 12
theorem iq169 (g : Nat) (v : Value) (u : FV) (hv : PV.ofValue v = .agg [.fv u]) (ls : List RT) (hl : ∀ t ∈ ls, t.1.length = 8) (hn : ls.length ≤ sortMax)
    (hcmp : ∀ s ∈ ls, ∀ t ∈ ls, Den Tryz.prog g [] [.agg [.fv u], .agg (tmC s), .agg (tmC t)] [] (.int .i64 (-(cmpM s.1 t.1)))) :
    ∃ ls', ls'.Perm ls ∧ ls'.Pairwise (fun a b => ¬ ltT b a) ∧ Den Tryz.prog 169 [.row true (rowsT ls)] [.lsl 0 0 ls.length 11, mV g v] [.row true (rowsT ls')] (.tup []) := by
  unfold sortMax at hn
  obtain ⟨H1, res, ⟨ls', rfl, rfl, hp, hs⟩, h⟩ := iq236 g v u hv ls hl (by omega) hcmp
  refine ⟨ls', hp, hs, ?_⟩
  have h2 := iq206 (mV g v) ls ls' (blen ls.length : Int) hn h ⟨v, g, rfl⟩
  obtain ⟨n, hnn⟩ : ∃ n, ls.length = n := ⟨_, rfl⟩
  rw [hnn] at h2 hn ⊢
  refine den_of tabOk mixed Tryz.func169 (cd := _) rfl (by decide) rfl (n := 12) rfl rfl (m := 1) rfl ?_
  simp (dsimp := false) (disch := omega) only [List.replicate, wrapU64c, rules, tys]
  refine GoCall.pure (pd118 n (by omega)) rfl ?_
  simp (dsimp := false) (disch := omega) only [rules]
  refine GoCall.lend 0 h2 rfl rfl trivial rfl rfl rfl ?_
  simp (dsimp := false) (disch := omega) only [List.append_nil, Ap_end_normal, rules]
  exact RetOK.lentB (cd := True) (vs := []) rfl trivial rfl trivial rfl rfl rfl
end Go.Proofs.YtjjbkjgifdhlcaaGreat

namespace Go.Proofs.YtjjbkjgifdhlcaaGreat
open Go.AM Go.Pl
set_option maxRecDepth 100000
set_option maxHeartbeats 4000000

theorem validM_drop {m : List Int} {i : Nat} (h : i < m.length) : validM (m.drop i) = (decide (0 ≤ m.getD i 0) && decide (m.getD i 0 ≤ 1024) && validM (m.drop (i + 1))) := by
  rw [List.drop_eq_getElem_cons h, List.getD_eq_getElem?_getD, List.getElem?_eq_getElem h]
  rfl
theorem validB_drop {ts : List RT} {i : Nat} (h : i < ts.length) : validB (ts.drop i) = (validM (ts.getD i rt0).1 && validB (ts.drop (i + 1))) := by
  rw [List.drop_eq_getElem_cons h, List.getD_eq_getElem?_getD, List.getElem?_eq_getElem h]
  rfl
theorem iq118 (ts : List RT) (hl : ∀ t ∈ ts, t.1.length = 8) (hn : ts.length ≤ 1000000000000) : Den Tryz.prog 118 [] [PL ts] [] (.bool (validB ts)) := by
  have rl := rowsT_length ts
  obtain ⟨n, hnn⟩ : ∃ n, ts.length = n := ⟨_, rfl⟩
  rw [hnn] at rl hn
  obtain ⟨R, hR⟩ : ∃ R, validB ts = R := ⟨_, rfl⟩
  rw [hR]
  refine den_of tabOk mixed Tryz.func118 (cd := _) rfl (by decide) rfl (n := 25) rfl rfl (m := 0) rfl ?_
  simp (dsimp := false) (disch := omega) only [List.replicate, rl, rules, tys]
  refine WA.loop (α := Nat) (fun i => ⟨[PL ts, .any, .any, .any, .any, .any, .any, PL ts, .int .i64 n, .int .i64 i] ++ List.replicate 16 .any, []⟩) (fun i => n - i) (fun i => i ≤ n ∧ validB (ts.drop i) = R) 0 ?_ ?_ ?_
  · refine Weak.keep [] (by simp) rfl ?_ ?_
    · simp [leVs, leV, le1]
    · simp [leH]
  · exact ⟨Nat.zero_le _, hR⟩
  · rintro i ⟨hi, hv⟩
    simp (dsimp := false) (disch := omega) only [List.replicate, rules, tys, eq_self, ↓reduceIte]
    refine Br.dec ?_ ?_
    · intro h1 h2
      have r1 := rowsT_getD (ts := ts) (i := i) (by omega)
      have hm := hl _ (getD_memT (ts := ts) (i := i) (by omega))
      have hd := validB_drop (ts := ts) (i := i) (by omega)
      obtain ⟨t, ht⟩ : ∃ t, ts.getD i rt0 = t := ⟨_, rfl⟩
      rw [ht] at r1 hm hd
      rw [hv] at hd
      have t11 := tmF_take11 hm
      have fl := tmF_length hm
      have c8 := tmC_take8 hm
      have cl := tmC_length hm
      have ml := mC_length t.1
      rw [hm] at ml
      simp (dsimp := false) (disch := omega) only [h2, r1, t11, tmF_fv, fl, c8, cl, rl, List.append_nil, rules, tys, eq_self, ↓reduceIte, Nat.reduceAdd, Nat.reduceLT, Nat.reduceLeDiff]
      repeat refine And.intro (by omega) ?_
      refine WA.loop (α := Nat) (fun k => ⟨[PL ts, .any, .any, .any, .any, .any, .any, PL ts, .int .i64 n, .int .i64 i, .any, .any, .any, .any, .agg (mC t.1), .int .i64 k] ++ List.replicate 10 .any, []⟩) (fun k => 8 - k) (fun k => k ≤ 8 ∧ validM (t.1.drop k) = validM t.1) 0 ?_ ?_ ?_
      · refine Weak.keep [] (by simp) rfl ?_ ?_
        · simp [leVs, leV, le1, le_mC]
        · simp [leH]
      · exact ⟨Nat.zero_le _, rfl⟩
      · rintro k ⟨hk, hvm⟩
        simp (dsimp := false) (disch := omega) only [List.replicate, rules, tys, eq_self, ↓reduceIte]
        refine Br.dec ?_ ?_
        · intro h3 h4
          have hat := mC_at (m := t.1) (i := k) (by omega)
          have hdm := validM_drop (m := t.1) (i := k) (by omega)
          obtain ⟨x, hx⟩ : ∃ x, t.1.getD k 0 = x := ⟨_, rfl⟩
          rw [hx] at hat hdm
          rw [hvm] at hdm
          simp (dsimp := false) (disch := omega) only [h4, hat, ml, Nat.mul_one, rules, tys, eq_self, ↓reduceIte, Nat.reduceLeDiff]
          repeat refine And.intro (by omega) ?_
          by_cases hx0 : x < 0
          · have e1 : decide (x < 0) = true := decide_eq_true hx0
            have hRf : R = false := by rw [hd, hdm, decide_eq_false (show ¬ 0 ≤ x by omega)]; rfl
            rw [hRf]
            simp (dsimp := false) (disch := omega) only [e1, Ap_end_ret, rules, eq_self, ↓reduceIte]
            refine RetOK.pure rfl ⟨trivial, trivial⟩ rfl
          · have e1 : decide (x < 0) = false := decide_eq_false hx0
            by_cases hx1 : 1024 < x
            · have e2 : decide (x > 1024) = true := decide_eq_true hx1
              have hRf : R = false := by rw [hd, hdm, decide_eq_false (show ¬ x ≤ 1024 by omega)]; simp
              rw [hRf]
              simp (dsimp := false) (disch := omega) only [e1, e2, Ap_end_ret, rules, tys, eq_self, ↓reduceIte]
              refine RetOK.pure rfl ⟨trivial, trivial⟩ rfl
            · have e2 : decide (x > 1024) = false := decide_eq_false hx1
              rw [decide_eq_true (show 0 ≤ x by omega), decide_eq_true (show x ≤ 1024 by omega)] at hdm
              simp (dsimp := false) (disch := omega) only [e1, e2, wrap64, rules, tys, eq_self, ↓reduceIte]
              refine Ap_loop (k + 1) (by omega) ?_ ⟨by omega, by rw [hdm]; rfl⟩
              refine Weak.keep [] (by simp) rfl ?_ ?_
              · simp [leVs, leV, le1, le_mC]
              · simp [leH]
        · intro h3 h4
          have hvt : validM t.1 = true := by rw [← hvm, List.drop_of_length_le (by omega)]; rfl
          rw [hvt] at hd
          simp (dsimp := false) (disch := omega) only [h4, wrap64, rules, tys, eq_self, ↓reduceIte, Nat.reduceBEq]
          refine Ap_loop (i + 1) (by omega) ?_ ⟨by omega, by rw [hd]; rfl⟩
          refine Weak.keep [] (by simp) rfl ?_ ?_
          · simp [leVs, leV, le1]
          · simp [leH]
    · intro h1 h2
      have hRt : R = true := by rw [← hv, List.drop_of_length_le (by omega)]; rfl
      rw [hRt]
      simp (dsimp := false) (disch := omega) only [h2, Ap_end_ret, rules, Nat.reduceBEq]
      refine RetOK.pure rfl ⟨trivial, trivial⟩ rfl
end Go.Proofs.YtjjbkjgifdhlcaaGreat

namespace Go.Proofs.YtjjbkjgifdhlcaaGreat
open Go.AM Go.Pl
set_option maxRecDepth 100000
set_option maxHeartbeats 4000000

def tabE (acc : List Tm) : List (List Int × PV) := acc.map (fun t => (t.1, PV.agg (cn t.2).c))
def curR (acc : List Tm) (m : Mn) : Raw := match accF acc m with | some q => cn q | none => rz
theorem tabFind_E : ∀ (acc : List Tm) (m : Mn), tabFind (tabE acc) m = (accF acc m).map (fun q => PV.agg (cn q).c)
  | [], m => rfl
  | t :: acc, m => by
    have ih := tabFind_E acc m
    unfold tabFind tabE accF at ih ⊢
    by_cases h : t.1 = m
    · rw [List.map_cons, List.find?_cons_of_pos (by simpa using h), List.find?_cons_of_pos (by simpa using h)]
      rfl
    · rw [List.map_cons, List.find?_cons_of_neg (by simpa using h), List.find?_cons_of_neg (by simpa using h)]
      exact ih
theorem tabGet_E (acc : List Tm) (m : Mn) : (tabFind (tabE acc) m).getD (.agg [.bool false, .fv (.sl []), .fv (.sl [])]) = .agg (curR acc m).c := by
  rw [tabFind_E]
  unfold curR
  cases accF acc m <;> rfl
theorem tabIs_E (acc : List Tm) (m : Mn) : (tabFind (tabE acc) m).isSome = decide (m ∈ acc.map (·.1)) := by
  rw [tabFind_E]
  have h := accF_none (a := acc) (m := m)
  cases hf : accF acc m with
  | none => rw [decide_eq_false (h.1 hf)]; rfl
  | some q =>
    rw [decide_eq_true (by
      cases hd : decide (m ∈ acc.map (·.1)) with
      | true => exact of_decide_eq_true hd
      | false => rw [h.2 (of_decide_eq_false hd)] at hf; cases hf)]
    rfl
theorem curR_q (acc : List Tm) (m : Mn) : (curR acc m).q = (accF acc m).getD 0 := by
  unfold curR
  cases accF acc m with
  | none => exact rz_q'
  | some q => exact cn_q q
theorem tabPut_E : ∀ (acc : List Tm) (m : Mn) (q : Rat), tabPut (tabE acc) m (.agg (cn ((curR acc m).q + q)).c) = tabE (accAdd acc m q)
  | [], m, q => by
    rw [curR_q]
    show [(m, PV.agg (cn (0 + q)).c)] = [(m, PV.agg (cn q).c)]
    rw [show (0 : Rat) + q = q by grind]
  | t :: acc, m, q => by
    have ih := tabPut_E acc m q
    rw [curR_q] at ih ⊢
    unfold accAdd
    by_cases h : t.1 = m
    · have h1 : accF (t :: acc) m = some t.2 := by
        unfold accF
        rw [List.find?_cons_of_pos (by simpa using h)]
        rfl
      rw [h1, if_pos h]
      show (if (t.1 == m) = true then (m, PV.agg (cn (t.2 + q)).c) :: tabE acc else _) = _
      rw [if_pos (by simpa using h)]
      rfl
    · have h1 : accF (t :: acc) m = accF acc m := by
        unfold accF
        rw [List.find?_cons_of_neg (by simpa using h)]
      rw [h1, if_neg h]
      show (if (t.1 == m) = true then _ else (t.1, PV.agg (cn t.2).c) :: tabPut (tabE acc) m _) = _
      rw [if_neg (by simpa using h), ih]
      rfl
theorem accF_mem {acc : List Tm} {m : Mn} {q : Rat} (h : accF acc m = some q) : (m, q) ∈ acc := by
  unfold accF at h
  rw [Option.map_eq_some_iff] at h
  obtain ⟨t, ht, rfl⟩ := h
  have h1 := List.find?_some ht
  have h2 := List.mem_of_find?_eq_some ht
  have h3 : t.1 = m := of_decide_eq_true h1
  rw [← h3]
  exact h2
theorem rz_okk (k : Nat) : rz.Ok k := ⟨fun d hd => by simp [rz] at hd, fun d hd => by simp [rz] at hd, by simp [rz], by simp [rz]⟩
theorem curR_ok {acc : List Tm} {k : Nat} (h : ∀ t ∈ acc, Bd k t.2) (m : Mn) : (curR acc m).Ok k := by
  unfold curR
  cases hf : accF acc m with
  | none => exact rz_okk k
  | some q => exact cn_ok (h _ (accF_mem hf))
theorem tq_tn (t : Tm) : tq (tn t) = t := by
  unfold tq tn
  rw [cn_q]
theorem map_tq_tn (ts : List Tm) : (ts.map tn).map tq = ts := by
  rw [List.map_map]
  conv => rhs; rw [← List.map_id ts]
  exact List.map_congr_left (fun t _ => tq_tn t)
theorem shB2 {H : List Ob} {id off n s : Nat} {v : FV} : shutBs H id [.lsl id off n s, .fv v] = H := by simp [shutBs, idsB, shutIds, idsA, ids1, ids0]
theorem iq119 (ts : List RT) (h8 : TsOk 1000000000 ts) (hb : PB 1000000000 (ts.map tq)) (hn : ts.length ≤ 10000000000) (hs : (nf (ts.map tq)).length ≤ sortMax) :
    Den Tryz.prog 119 [] [PL ts] [] (PL ((nf (ts.map tq)).map tn)) := by
  have rl := rowsT_length ts
  obtain ⟨n, hnn⟩ : ∃ n, ts.length = n := ⟨_, rfl⟩
  rw [hnn] at rl hn
  obtain ⟨T, hT⟩ : ∃ T, ts.map tq = T := ⟨_, rfl⟩
  have hTl : T.length = n := by rw [← hT, List.length_map, hnn]
  have hT8 : Len8 T := fun t ht => by
    rw [← hT] at ht
    obtain ⟨u, hu, rfl⟩ := List.mem_map.1 ht
    exact (h8 u hu).len
  have hTrng : ∀ t ∈ T, ∀ x ∈ t.1, -1000000000000 ≤ x ∧ x ≤ 1000000000000 := fun t ht => by
    rw [← hT] at ht
    obtain ⟨u, hu, rfl⟩ := List.mem_map.1 ht
    exact (h8 u hu).rng
  rw [hT] at hb hs ⊢
  refine den_of tabOk mixed Tryz.func119 (cd := _) rfl (by decide) rfl (n := 68) rfl rfl (m := 0) rfl ?_
  simp (dsimp := false) (disch := omega) only [List.replicate, rl, rules, tys]
  refine WA.loop (α := Nat) (fun i => ⟨[PL ts, .any, .any, .tab 0, .lsl 1 0 (accL (T.take i)).length 8, .any, .any, .any, .any, .any, .any, .any, .any, PL ts, .int .i64 n, .int .i64 i] ++ List.replicate 53 .any, [.tab 8 (tabE (accL (T.take i))), .row true (rowsM ((accL (T.take i)).map (·.1)))]⟩) (fun i => n - i) (fun i => i ≤ n) 0 ?_ (Nat.zero_le _) ?_
  · refine Weak.nil 4 8 (by decide) rfl ?_
    refine Weak.keep [0, 1] (by simp) rfl ?_ ?_
    · simp [leVs, leV, le1]
      simp [accL]
    · simp [leH, leO]
      simp [accL, tabE, rowsM]
  · rintro i hi
    have hkl : (accL (T.take i)).length ≤ i := by
      have := accL_len (T.take i)
      rw [List.length_take] at this
      omega
    obtain ⟨acc, hacc⟩ : ∃ acc, accL (T.take i) = acc := ⟨_, rfl⟩
    have hbA : ∀ t ∈ acc, Bd 1000000000 t.2 := by rw [← hacc]; exact ((hb.take i).accL).bd (by decide)

    rw [hacc] at hkl ⊢
    obtain ⟨K, hK⟩ : ∃ K, acc.length = K := ⟨_, rfl⟩
    have rm := rowsM_length (acc.map (·.1))
    rw [List.length_map, hK] at rm
    have tkm := take_rowsM (ms := acc.map (·.1)) (n := K) (by rw [List.length_map]; omega)
    rw [hK] at hkl ⊢
    simp (dsimp := false) (disch := omega) only [List.replicate, rules, tys, eq_self, ↓reduceIte]
    refine Br.dec ?_ ?_
    · intro h1 h2
      have r1 := rowsT_getD (ts := ts) (i := i) (by omega)
      have hmem := getD_memT (ts := ts) (i := i) (by omega)
      have hok := h8 _ hmem
      have hsn : T.take (i + 1) = T.take i ++ [tq (ts.getD i rt0)] := by
        rw [List.take_add_one, ← hT, List.getElem?_map, List.getD_eq_getElem?_getD, List.getElem?_eq_getElem (by omega)]
        rfl
      obtain ⟨t, ht⟩ : ∃ t, ts.getD i rt0 = t := ⟨_, rfl⟩
      rw [ht] at r1 hok hsn
      have hac := accL_snoc (T.take i) (tq t)
      rw [← hsn, hacc] at hac
      change accL (T.take (i + 1)) = accAdd acc t.1 t.2.q at hac
      have hm := hok.len
      have hrg := hok.rng
      have hky := accAdd_keys acc t.1 t.2.q
      have hlen := congrArg List.length hky
      rw [List.length_map] at hlen
      have t11 := tmF_take11 hm
      have fl := tmF_length hm
      have c8 := tmC_take8 hm
      have cl := tmC_length hm
      have ml := mC_length t.1
      rw [hm] at ml
      have m8 := monoF_take hm
      have mfl := monoF_length t.1
      rw [hm] at mfl
      have cc := tmC_coef hm
      have h51 := den51 (curR acc t.1) t.2 (curR_ok hbA t.1) hok.raw
      change Den Tryz.prog 69 [] [.agg (curR acc t.1).c, .agg t.2.c] [] (.agg (cn ((curR acc t.1).q + t.2.q)).c) at h51
      have hput := tabPut_E acc t.1 t.2.q
      have hget := tabGet_E acc t.1
      have his := tabIs_E acc t.1
      obtain ⟨cur, hcur⟩ : ∃ r, curR acc t.1 = r := ⟨_, rfl⟩
      obtain ⟨sm, hsm⟩ : ∃ r, cn (cur.q + t.2.q) = r := ⟨_, rfl⟩
      rw [hcur] at h51 hput hget
      rw [hsm] at h51 hput
      have hbnd : (∀ x ∈ t.1, -9223372036854775808 ≤ x ∧ x < 9223372036854775808) := fun x hx => by have := hrg x hx; omega
      by_cases hk : t.1 ∈ acc.map (·.1)
      · rw [decide_eq_true hk] at his
        rw [if_pos hk] at hky hlen
        simp (dsimp := false) (disch := omega) only [h2, r1, t11, tmF_fv, fl, c8, cl, rl, List.append_nil, hm, hget, his, c_length, Bool.not_true, rules, tys, eq_self, ↓reduceIte, Nat.reduceAdd, Nat.reduceLT, Nat.reduceLeDiff]
        repeat refine And.intro (by omega) ?_
        refine Draw.intro (by kernel_rfl) ?_
        simp (dsimp := false) (disch := omega) only [c8, cl, hm, hget, cc, rules, tys, eq_self, ↓reduceIte, Nat.reduceAdd, Nat.reduceLeDiff]
        repeat refine And.intro (by omega) ?_
        refine GoCall.pure h51 (by simp [fzAs, fzA, fzs_c, f_fv]) ?_
        simp (dsimp := false) (disch := omega) only [ids_c, List.append_nil, c_reloc, hput, hm, still_c, wrap64, rules, tys, eq_self, ↓reduceIte, Nat.reduceAdd]
        repeat refine And.intro (by omega) ?_
        refine Ap_loop (i + 1) (by omega) ?_ (by omega)
        rw [hac, hlen, List.length_map, hK, hky]
        refine Weak.keep [0, 1] (by simp) rfl ?_ ?_
        · simp [leVs, leV, le1]
        · simp [leH, leO]
      · rw [decide_eq_false hk] at his
        rw [if_neg hk] at hky hlen
        have hap := rowsM_snoc (acc.map (·.1)) t.1
        simp (dsimp := false) (disch := omega) only [h2, r1, t11, tmF_fv, fl, c8, cl, rl, List.append_nil, hm, hget, his, c_length, Bool.not_false, ml, fzs_mC, ids_mC, m8, rm, tkm, hap, rules, tys, eq_self, ↓reduceIte, Nat.reduceAdd, Nat.reduceMul, Nat.reduceBEq, Nat.reduceLT, Nat.reduceLeDiff]
        repeat refine And.intro (by omega) ?_
        refine Draw.intro (by kernel_rfl) ?_
        simp (dsimp := false) (disch := omega) only [c8, cl, hm, hget, cc, rules, tys, eq_self, ↓reduceIte, Nat.reduceAdd, Nat.reduceLeDiff]
        repeat refine And.intro (by omega) ?_
        refine GoCall.pure h51 (by simp [fzAs, fzA, fzs_c, f_fv]) ?_
        simp (dsimp := false) (disch := omega) only [ids_c, List.append_nil, c_reloc, hput, hm, still_c, wrap64, rules, tys, eq_self, ↓reduceIte, Nat.reduceAdd]
        repeat refine And.intro (by omega) ?_
        refine Ap_loop (i + 1) (by omega) ?_ (by omega)
        rw [hac, hlen, hky, List.length_append, List.length_map, hK]
        refine Weak.keep [0, 5] (by simp) rfl ?_ ?_
        · simp [leVs, leV, le1]
        · simp [leH, leO]
    · intro h1 h2
      have hin : i = n := by omega
      have hTT : T.take i = T := List.take_of_length_le (by omega)
      rw [hTT] at hacc
      have hnd := accL_nodup T
      have hacc8 := accL_len8 hT8
      have haccr : ∀ u ∈ acc, ∀ x ∈ u.1, -1000000000000 ≤ x ∧ x ≤ 1000000000000 := fun u hu => by
        rw [← hacc] at hu
        obtain ⟨w, hw, he⟩ := List.mem_map.1 (accL_key (List.mem_map.2 ⟨u, hu, rfl⟩))
        rw [← he]
        exact hTrng w hw
      have hkeep : keepL T = acc.filter (fun t => decide (t.2 ≠ 0)) := by unfold keepL; rw [hacc]
      rw [hacc] at hnd hacc8
      have hO : (keepL T).length ≤ n := by
        rw [hkeep]
        have := List.length_filter_le (fun t : Tm => decide (t.2 ≠ 0)) acc
        omega
      simp (dsimp := false) (disch := omega) only [h2, rules, tys, Nat.reduceBEq]
      refine WA.loop (α := Nat) (fun j => ⟨[.any, .any, .any, .tab 0, .any, .any, .any, .any, .any, .lsl 2 0 ((acc.take j).filter (fun t => decide (t.2 ≠ 0))).length 11] ++ List.replicate 34 .any ++ [.lsl 1 0 K 8, .int .i64 K, .int .i64 j] ++ List.replicate 22 .any,
        [.tab 8 (tabE acc), .row true (rowsM (acc.map (·.1))), .row true (rowsT (((acc.take j).filter (fun t => decide (t.2 ≠ 0))).map tn))]⟩) (fun j => K - j) (fun j => j ≤ K) 0 ?_ (Nat.zero_le _) ?_
      · refine Weak.nil 9 11 (by decide) rfl ?_
        refine Weak.keep [0, 1, 2] (by simp) rfl ?_ ?_
        · simp [leVs, leV, le1]
        · simp [leH, leO]
          simp [rowsT]
      · intro j hj
        obtain ⟨out, hout⟩ : ∃ o, (acc.take j).filter (fun t => decide (t.2 ≠ 0)) = o := ⟨_, rfl⟩
        have hol : out.length ≤ j := by
          rw [← hout]
          have := List.length_filter_le (fun t : Tm => decide (t.2 ≠ 0)) (acc.take j)
          rw [List.length_take] at this
          omega
        rw [hout]
        obtain ⟨O, hOl⟩ : ∃ O, out.length = O := ⟨_, rfl⟩
        have ro := rowsT_length (out.map tn)
        rw [List.length_map, hOl] at ro
        have tko := take_rowsT (ts := out.map tn) (n := O) (by rw [List.length_map]; omega)
        rw [hOl] at hol ⊢
        simp (dsimp := false) (disch := omega) only [List.replicate, rules, tys, eq_self, ↓reduceIte]
        refine Br.dec ?_ ?_
        · intro h3 h4
          obtain ⟨u, hu⟩ : ∃ u, acc[j]? = some u := ⟨acc[j]'(by omega), by simp⟩
          have hju := List.mem_of_getElem? hu
          have rmg := rowsM_getD (ms := acc.map (·.1)) (i := j) (by rw [List.length_map]; omega)
          have hkj : (acc.map (·.1)).getD j [] = u.1 := by rw [List.getD_eq_getElem?_getD, List.getElem?_map, hu]; rfl
          rw [hkj] at rmg
          have hm := hacc8 u hju
          have hrg := haccr u hju
          have hcu : curR acc u.1 = cn u.2 := by
            unfold curR
            rw [accF_at hnd hu]
          have hget := tabGet_E acc u.1
          rw [hcu] at hget
          have hrok := cn_ok (hbA u hju)
          have h36 := den36 (cn u.2) (hrok.mono (by decide))
          rw [cn_q] at h36
          change Den Tryz.prog 84 [] [.agg (cn u.2).c] [] _ at h36
          have htk : acc.take (j + 1) = acc.take j ++ [u] := by
            rw [List.take_add_one, hu]
            rfl
          have ml := mC_length u.1
          rw [hm] at ml
          have mfl := monoF_length u.1
          rw [hm] at mfl
          have m8 := mC_take hm
          have mf8 := monoF_take hm
          have hbnd : (∀ x ∈ u.1, -9223372036854775808 ≤ x ∧ x < 9223372036854775808) := fun x hx => by have := hrg x hx; omega
          simp (dsimp := false) (disch := omega) only [h4, rm, rmg, mf8, mfl, monoF_fv, ml, m8, List.append_nil, hm, hget, rules, tys, eq_self, ↓reduceIte, Nat.reduceAdd, Nat.reduceLT, Nat.reduceLeDiff]
          repeat refine And.intro (by omega) ?_
          refine GoCall.pure h36 (by simp [fzAs, fzA, fzs_c, f_fv]) ?_
          simp (dsimp := false) (disch := omega) only [ids_c, rules, tys, eq_self, ↓reduceIte, Nat.reduceAdd]
          refine Br.bneInt ?_ ?_
          · intro h5 h6
            have hnz : u.2 ≠ 0 := fun h => h5 (sgq_eq_zero.2 h)
            have hout2 : (acc.take (j + 1)).filter (fun t => decide (t.2 ≠ 0)) = out ++ [u] := by
              rw [htk, List.filter_append, hout, List.filter_cons_of_pos (by simpa using hnz)]
              rfl
            have hap := rowsT_snoc (out.map tn) (tn u)
            have hmap : (out ++ [u]).map tn = out.map tn ++ [tn u] := by simp
            rw [← hmap] at hap
            have htn : (tn u).1.length = 8 := hm
            have b1 : List.take 8 (mC u.1 ++ [PV.bool false, .nilsl, .nilsl]) = mC u.1 := by rw [List.take_append_of_le_length (by omega), m8]
            have b2 : List.drop 11 (mC u.1 ++ [PV.bool false, .nilsl, .nilsl]) = [] := List.drop_of_length_le (by simp [ml])
            have b3 : mC u.1 ++ (cn u.2).c = tmC (tn u) := rfl
            have b4 := tmF_take11 htn
            have b5 := tmC_length htn
            have b6 := tmF_length htn
            have b7 : (mC u.1 ++ [PV.bool false, .nilsl, .nilsl]).length = 11 := by simp [ml]
            simp (dsimp := false) (disch := omega) only [h6, rules]
            refine Draw.intro (by kernel_rfl) ?_
            simp (dsimp := false) (disch := omega) only [m8, ml, hm, hget, c_length, b1, b2, b3, b4, b5, b7, List.append_nil, fzs_tmC, ids_tmC, ro, tko, hap, wrap64, rules, tys, eq_self, ↓reduceIte, Nat.reduceAdd, Nat.reduceMul, Nat.reduceBEq, Nat.reduceLT, Nat.reduceLeDiff]
            repeat refine And.intro (by omega) ?_
            refine Ap_loop (j + 1) (by omega) ?_ (by omega)
            rw [hout2, List.length_append, hOl]
            refine Weak.keep [0, 1, 5] (by simp) rfl ?_ ?_
            · simp [leVs, leV, le1]
            · simp [leH, leO]
          · intro h5 h6
            have hz : u.2 = 0 := sgq_eq_zero.1 h5
            have hout2 : (acc.take (j + 1)).filter (fun t => decide (t.2 ≠ 0)) = out := by
              rw [htk, List.filter_append, hout, List.filter_cons_of_neg (by simpa using hz)]
              simp
            simp (dsimp := false) (disch := omega) only [h6, wrap64, rules, tys, eq_self, ↓reduceIte]
            refine Ap_loop (j + 1) (by omega) ?_ (by omega)
            rw [hout2, hOl]
            refine Weak.keep [0, 1, 2] (by simp) rfl ?_ ?_
            · simp [leVs, leV, le1]
            · simp [leH, leO]
        · intro h3 h4
          have hjk : acc.take j = acc := List.take_of_length_le (by omega)
          rw [hjk] at hout
          rw [hout] at hkeep
          have hkl2 := keep_len hT8
          rw [hkeep, hOl] at hkl2
          have ho8 : ∀ t ∈ out.map tn, t.1.length = 8 := fun t ht => by
            obtain ⟨u, hu, rfl⟩ := List.mem_map.1 ht
            rw [← hout] at hu
            exact hacc8 u (List.mem_filter.1 hu).1
          obtain ⟨ls', hp, hso, h169⟩ := iq169 170 (.agg #[.bool true]) (.lit (.bool true)) rfl (out.map tn) ho8 (by rw [List.length_map]; omega) (fun s hs t ht => iq170 s t (ho8 s hs) (ho8 t ht))
          have hres : ls' = (nf T).map tn := by
            have h5 : (ls'.map tq).Perm (keepL T) := by
              rw [hkeep]
              have := hp.map tq
              rw [map_tq_tn] at this
              exact this
            have h6 : (ls'.map tq).Pairwise (fun a b => gtM b.1 a.1 = false) := by
              rw [List.pairwise_map]
              refine hso.imp ?_
              intro a b hab
              have : ¬ gtM b.1 a.1 = true := hab
              exact Bool.eq_false_iff.2 this
            rw [← sort_nf hT8 h5 h6, List.map_map]
            conv => lhs; rw [← List.map_id ls']
            refine List.map_congr_left (fun t ht => ?_)
            obtain ⟨w, _, rfl⟩ := List.mem_map.1 (hp.mem_iff.1 ht)
            show tn w = tn (tq (tn w))
            rw [tq_tn]
          rw [hres] at h169
          have hfl : ((nf T).map tn).length = O := by rw [List.length_map, ← hkl2]
          have tkf := take_rowsT (ts := (nf T).map tn) (n := O) (by omega)
          have rf := rowsT_length ((nf T).map tn)
          rw [hfl] at rf
          rw [List.length_map, hOl] at h169
          have hfa : ∀ cs l (H : List Ob), fz1s H (.agg cs :: l) = none := fun cs l H => by simp [fz1s, fz1, fz0]
          simp (dsimp := false) (disch := omega) only [h4, hfa, rules, tys, eq_self, ↓reduceIte, Nat.reduceBEq, Nat.reduceLeDiff]
          refine GoCall.lend 2 h169 rfl rfl trivial rfl rfl rfl ?_
          simp (dsimp := false) (disch := omega) only [List.append_nil, shB2, Ap_end_ret, rules, Nat.reduceAdd]
          refine RetOK.pure rfl ⟨trivial, trivial⟩ ?_
          simp (disch := omega) only [tkf, rf, List.drop_zero, Nat.zero_add, Nat.le_refl, ↓reduceIte, List.idxOf?_nil, St.get, fzX, oneRes, fzV, fzC, fz1, fz0, Option.map_some, List.getD_cons_succ, List.getD_cons_zero, List.getElem?_cons_zero, List.getElem?_cons_succ]
end Go.Proofs.YtjjbkjgifdhlcaaGreat

namespace Go.Proofs.YtjjbkjgifdhlcaaGreat
open Go.AM Go.Pl
set_option maxRecDepth 100000
set_option maxHeartbeats 4000000

theorem TsOk.l8 {k : Nat} {ts : List RT} (h : TsOk k ts) : ∀ t ∈ ts, t.1.length = 8 := fun t ht => (h t ht).len
theorem iq61 (ts : List RT) (h8 : TsOk 1000000000 ts) (hb : PB 1000000000 (ts.map tq)) (hn : ts.length ≤ 10000000000) (hs : (nf (ts.map tq)).length ≤ sortMax) (hv : validB ts = true) :
    Den Tryz.prog 61 [] [PL ts] [] (.tup [PL ((nf (ts.map tq)).map tn), .int .i64 0]) := by
  have h1 := iq118 ts h8.l8 (by omega)
  rw [hv] at h1
  refine den_of tabOk mixed Tryz.func61 (cd := _) rfl (by decide) rfl (n := 8) rfl rfl (m := 0) rfl ?_
  simp (dsimp := false) (disch := omega) only [List.replicate, rules]
  refine GoCall.pure h1 rfl ?_
  simp (dsimp := false) (disch := omega) only [Bool.not_true, rules]
  refine GoCall.pure (iq119 ts h8 hb hn hs) rfl ?_
  simp (dsimp := false) (disch := omega) only [Ap_end_ret, rules]
  refine RetOK.pure rfl ⟨trivial, trivial, trivial⟩ rfl
def z8 : List Int := List.replicate 8 0
theorem z8_length : z8.length = 8 := rfl
theorem z8_c (r : Raw) : PV.int .i64 0 :: PV.int .i64 0 :: PV.int .i64 0 :: PV.int .i64 0 :: PV.int .i64 0 :: PV.int .i64 0 :: PV.int .i64 0 :: PV.int .i64 0 :: r.c = tmC (z8, r) := rfl
def formT (rs : List Raw) (i : Nat) : List RT := (List.range i).map (fun j => (z8.set j 1, rs.getD j rz))
def polyR (rs : List Raw) : List RT := formT rs 8 ++ [(z8, rs.getD 8 rz)]
theorem formT_succ (rs : List Raw) (i : Nat) : formT rs (i + 1) = formT rs i ++ [(z8.set i 1, rs.getD i rz)] := by
  unfold formT
  rw [List.range_succ, List.map_append]
  rfl
theorem formT_length (rs : List Raw) (i : Nat) : (formT rs i).length = i := by simp [formT]
theorem set_rng {m : List Int} {i : Nat} {x : Int} (h : ∀ y ∈ m, -1000000000000 ≤ y ∧ y ≤ 1000000000000) (hx : -1000000000000 ≤ x ∧ x ≤ 1000000000000) : ∀ y ∈ m.set i x, -1000000000000 ≤ y ∧ y ≤ 1000000000000 := fun y hy => by
  rcases List.mem_or_eq_of_mem_set hy with h1 | h1
  · exact h y h1
  · rw [h1]; exact hx
theorem z8_rng : ∀ y ∈ z8, -1000000000000 ≤ y ∧ y ≤ (1000000000000 : Int) := fun y hy => by
  rw [List.eq_of_mem_replicate hy]
  omega
theorem polyR_ok {k : Nat} {rs : List Raw} (h : LOk k rs) : TsOk k (polyR rs) := by
  intro t ht
  unfold polyR at ht
  rcases List.mem_append.1 ht with ht | ht
  · obtain ⟨j, _, rfl⟩ := List.mem_map.1 ht
    exact ⟨by simp [z8], set_rng z8_rng (by omega), h.at j⟩
  · rw [List.mem_singleton] at ht
    subst ht
    exact ⟨rfl, z8_rng, h.at 8⟩
theorem polyR_valid (rs : List Raw) : validB (polyR rs) = true := by
  unfold validB
  rw [List.all_eq_true]
  intro t ht
  have hz : ∀ y ∈ t.1, y = 0 ∨ y = 1 := by
    unfold polyR at ht
    rcases List.mem_append.1 ht with ht | ht
    · obtain ⟨j, _, rfl⟩ := List.mem_map.1 ht
      intro y hy
      rcases List.mem_or_eq_of_mem_set hy with h1 | h1
      · exact .inl (List.eq_of_mem_replicate h1)
      · exact .inr h1
    · rw [List.mem_singleton] at ht
      subst ht
      intro y hy
      exact .inl (List.eq_of_mem_replicate hy)
  unfold validM
  rw [List.all_eq_true]
  intro y hy
  rcases hz y hy with h | h <;> rw [h] <;> rfl
theorem polyR_length (rs : List Raw) : (polyR rs).length = 9 := by simp [polyR, formT_length]
theorem flat_coefs {rs : List Raw} {i : Nat} (h : i < 8) (hl : rs.length = 9) : List.take 3 (List.drop (i * 3) (List.take 24 (flat rs))) = (rs.getD i rz).c := by
  have h1 := flat_at (rs := rs) (i := i) (by omega)
  rw [List.drop_take, List.take_take, Nat.min_eq_left (by omega)]
  exact h1
theorem flat_last {rs : List Raw} (hl : rs.length = 9) : List.take 3 (List.drop 24 (flat rs)) = (rs.getD 8 rz).c := by
  have h1 := flat_at (rs := rs) (i := 8) (by omega)
  exact h1
theorem le_tk (ids : List Nat) : ∀ (n : Nat) (a : List PV), le1s ids a a → le1s ids (a.take n) (a.take n)
  | 0, a, _ => by simp [le1s]
  | n + 1, [], _ => by simp [le1s]
  | n + 1, x :: a, h => ⟨h.1, le_tk ids n a h.2⟩
theorem le_tkflat (ids : List Nat) (n : Nat) (rs : List Raw) : le1s ids ((flat rs).take n) ((flat rs).take n) := le_tk ids n _ (le_flat ids rs)
def polyT (rs : List Raw) : List Tm := nf ((polyR rs).map tq)

theorem iq18 (rs : List Raw) (h : LOk 10000000 rs) : Den Tryz.prog 18 [] [RL rs] [] (PL ((polyT rs).map tn)) := by
  have hl := h.len
  have hok : TsOk 1000000000 (polyR rs) := fun t ht => (polyR_ok h t ht).mono (by decide)
  have hb : PB 1000000000 ((polyR rs).map tq) := by
    refine (PB.list (k := 10000000) (by decide) (fun t ht => ?_)).mono ?_
    · obtain ⟨u, hu, rfl⟩ := List.mem_map.1 ht
      exact (polyR_ok h u hu).raw.bd (by decide)
    · rw [List.length_map, polyR_length]
      decide
  have h61 := iq61 (polyR rs) hok hb (by rw [polyR_length]; decide) (Nat.le_trans (nf_len _) (by rw [List.length_map, polyR_length]; decide)) (polyR_valid rs)
  unfold RL
  have fl := flat_length rs
  rw [hl] at fl
  have pl9 := rowsT_length (polyR rs)
  rw [polyR_length] at pl9
  have tk9 := take_rowsT (ts := polyR rs) (n := 9) (by rw [polyR_length]; omega)
  change Den Tryz.prog 61 [] [PL (polyR rs)] [] (.tup [PL ((polyT rs).map tn), .int .i64 0]) at h61
  obtain ⟨Q, hQ⟩ : ∃ Q, (polyT rs).map tn = Q := ⟨_, rfl⟩
  rw [hQ] at h61 ⊢
  refine den_of tabOk mixed Tryz.func18 (cd := _) rfl (by decide) rfl (n := 35) rfl rfl (m := 0) rfl ?_
  simp (dsimp := false) (disch := omega) only [List.replicate, fl, rules, tys, eq_self, ↓reduceIte, Nat.reduceMul, Nat.reduceLT, Nat.reduceLeDiff]
  repeat refine And.intro (by omega) ?_
  refine WA.loop (α := Nat) (fun i => ⟨[.any, .ptr 0 0 0, .any, .lsl 1 0 i 11, .any, .any, .any, .any, .any, .any, .agg (List.take 24 (flat rs)), .int .i64 i] ++ List.replicate 24 .any, [.box true (flat rs), .row true (rowsT (formT rs i))]⟩) (fun i => 8 - i) (fun i => i ≤ 8) 0 ?_ (Nat.zero_le _) ?_
  · refine Weak.nil 3 11 (by decide) rfl ?_
    refine Weak.keep [0, 1] (by simp) rfl ?_ ?_
    · simp [leVs, leV, le1, le_tkflat]
    · simp [leH, leO, le_flat, formT, rowsT]
  · intro i hi
    have tki := take_rowsT (ts := formT rs i) (n := i) (by rw [formT_length]; omega)
    have rli := rowsT_length (formT rs i)
    rw [formT_length] at rli
    simp (dsimp := false) (disch := omega) only [List.replicate, rules, tys, eq_self, ↓reduceIte]
    refine Br.dec ?_ ?_
    · intro h1 h2
      have fc := flat_coefs (rs := rs) (i := i) (by omega) hl
      have fl24 : (List.take 24 (flat rs)).length = 24 := by rw [List.length_take, fl]; rfl
      have hsn := formT_succ rs i
      obtain ⟨r, hr⟩ : ∃ r, rs.getD i rz = r := ⟨_, rfl⟩
      rw [hr] at fc hsn
      have hap := rowsT_snoc (formT rs i) (z8.set i 1, r)
      rw [← hsn] at hap
      have hput := tmC_put (t := (z8, r)) (i := i) (x := 1) (by omega) z8_length
      have t1 : ((z8.set i 1, r) : RT).1.length = 8 := by simp [z8]
      have t0 : ((z8, r) : RT).1.length = 8 := z8_length
      have c11 := tmC_take11 t1
      have f11 := tmF_take11 t1
      have cl := tmC_length t1
      have cl0 := tmC_length t0
      have fl1 := tmF_length t1
      simp (dsimp := false) (disch := omega) only [h2, fc, fl24, c_length, c_take, z8_c, List.append_nil, cl0, cl, hput, c11, f11, fzs_tmC, ids_tmC, tki, rli, hap, Nat.mul_one, Nat.zero_add, wrap64, rules, tys, eq_self, ↓reduceIte, Nat.reduceAdd, Nat.reduceMul, Nat.reduceBEq, Nat.reduceLT, Nat.reduceLeDiff]
      repeat refine And.intro (by omega) ?_
      refine Ap_loop (i + 1) (by omega) ?_ (by omega)
      refine Weak.keep [0, 5] (by simp) rfl ?_ ?_
      · simp [leVs, leV, le1, le_tkflat]
      · simp [leH, leO, le_flat]
    · intro h1 h2
      have hi8 : i = 8 := by omega
      subst hi8
      have hap := rowsT_snoc (formT rs 8) (z8, rs.getD 8 rz)
      change rowsT (formT rs 8) ++ [tmF (z8, rs.getD 8 rz)] = rowsT (polyR rs) at hap
      have fc := flat_last hl
      obtain ⟨r, hr⟩ : ∃ r, rs.getD 8 rz = r := ⟨_, rfl⟩
      rw [hr] at fc hap
      have t0 : ((z8, r) : RT).1.length = 8 := z8_length
      have f11 := tmF_take11 t0
      have fl1 := tmF_length t0
      have cl0 := tmC_length t0
      simp (dsimp := false) (disch := omega) only [h2, fl, fc, cl0, c_length, z8_c, List.append_nil, f11, fzs_tmC, ids_tmC, tki, rli, hap, rules, tys, eq_self, ↓reduceIte, Nat.reduceAdd, Nat.reduceMul, Nat.reduceBEq, Nat.reduceLT, Nat.reduceLeDiff]
      repeat refine And.intro (by omega) ?_
      refine GoCall.pure h61 (by simp [fzAs, fzA, fz1, fz0, tk9, pl9]) ?_
      simp (dsimp := false) (disch := omega) only [Ap_end_ret, rules, Nat.reduceAdd]
      refine RetOK.pure rfl ⟨trivial, trivial⟩ rfl
end Go.Proofs.YtjjbkjgifdhlcaaGreat

namespace Go.Proofs.YtjjbkjgifdhlcaaGreat
open Go.AM Go.Pl
set_option maxRecDepth 100000
set_option maxHeartbeats 4000000

theorem gtM_drop {a b : List Int} {i : Nat} (ha : i < a.length) (hb : i < b.length) : gtM (a.drop i) (b.drop i) = if a.getD i 0 = b.getD i 0 then gtM (a.drop (i + 1)) (b.drop (i + 1)) else decide (a.getD i 0 > b.getD i 0) := by
  rw [List.drop_eq_getElem_cons ha, List.drop_eq_getElem_cons hb, gtM, List.getD_eq_getElem?_getD, List.getD_eq_getElem?_getD, List.getElem?_eq_getElem ha, List.getElem?_eq_getElem hb]
  rfl
theorem iq153 (a b : List Int) (ha : a.length = 8) (hb : b.length = 8) : Den Tryz.prog 153 [] [.agg (mC a), .agg (mC b)] [] (.bool (gtM a b)) := by
  have la := mC_length a
  have lb := mC_length b
  rw [ha] at la
  rw [hb] at lb
  obtain ⟨R, hR⟩ : ∃ R, gtM a b = R := ⟨_, rfl⟩
  rw [hR]
  refine den_of tabOk mixed Tryz.func153 (cd := _) rfl (by decide) rfl (n := 22) rfl rfl (m := 0) rfl ?_
  simp (dsimp := false) (disch := omega) only [List.replicate, la, lb, rules, tys, eq_self, Nat.reduceLT]
  repeat refine And.intro (by omega) ?_
  refine WA.loop (α := Nat) (fun i => ⟨[.any, .any, .ptr 0 0 0, .ptr 1 0 0, .any, .int .i64 i] ++ List.replicate 18 .any, [.box true (mC a), .box true (mC b)]⟩) (fun i => 8 - i) (fun i => i ≤ 8 ∧ gtM (a.drop i) (b.drop i) = R) 0 ?_ ?_ ?_
  · refine Weak.keep [0, 1] (by simp) rfl ?_ ?_
    · simp [leVs, leV, le1]
    · simp [leH, leO, le_mC]
  · exact ⟨Nat.zero_le _, hR⟩
  · rintro i ⟨hi, hv⟩
    simp (dsimp := false) (disch := omega) only [List.replicate, rules, tys, eq_self, ↓reduceIte]
    refine Br.dec ?_ ?_
    · intro h1 h2
      have aa := mC_at (m := a) (i := i) (by omega)
      have ab := mC_at (m := b) (i := i) (by omega)
      have hd := gtM_drop (a := a) (b := b) (i := i) (by omega) (by omega)
      obtain ⟨x, hx⟩ : ∃ x, a.getD i 0 = x := ⟨_, rfl⟩
      obtain ⟨y, hy⟩ : ∃ x, b.getD i 0 = x := ⟨_, rfl⟩
      rw [hx] at aa hd
      rw [hy] at ab hd
      rw [hv] at hd
      simp (dsimp := false) (disch := omega) only [h2, rules]
      refine Draw.intro (by kernel_rfl) ?_
      simp (dsimp := false) (disch := omega) only [aa, ab, la, lb, Nat.mul_one, Nat.zero_add, rules, tys, eq_self, ↓reduceIte, Nat.reduceLT, Nat.reduceLeDiff]
      repeat refine And.intro (by omega) ?_
      refine Br.bneInt ?_ ?_
      · intro h3 h4
        rw [if_neg h3] at hd
        rw [hd]
        simp (dsimp := false) (disch := omega) only [h4, rules]
        refine Draw.intro (by kernel_rfl) ?_
        simp (dsimp := false) (disch := omega) only [aa, ab, la, lb, Nat.mul_one, Nat.zero_add, Ap_end_ret, rules, tys, eq_self, ↓reduceIte, Nat.reduceLT, Nat.reduceLeDiff]
        repeat refine And.intro (by omega) ?_
        refine RetOK.pure rfl ⟨trivial, trivial⟩ rfl
      · intro h3 h4
        rw [if_pos h3] at hd
        simp (dsimp := false) (disch := omega) only [h4, wrap64, rules, tys, eq_self, ↓reduceIte]
        refine Ap_loop (i + 1) (by omega) ?_ ⟨by omega, hd.symm⟩
        refine Weak.keep [0, 1] (by simp) rfl ?_ ?_
        · simp [leVs, leV, le1]
        · simp [leH, leO, le_mC]
    · intro h1 h2
      have hRf : R = false := by
        rw [← hv, List.drop_of_length_le (by omega), List.drop_of_length_le (by omega)]
        rfl
      rw [hRf]
      simp (dsimp := false) (disch := omega) only [h2, Ap_end_ret, rules, Nat.reduceBEq]
      refine RetOK.pure rfl ⟨trivial, trivial⟩ rfl

theorem insT_eq {p : List Tm} {m : Mn} {q : Rat} {k : Nat} (hlow : ∀ i (h : i < p.length), i < k → gtM (p[i]'h).1 m = true) (hhigh : ∀ i (h : i < p.length), k ≤ i → gtM (p[i]'h).1 m = false) (hk : k ≤ p.length) :
    insT p (m, q) = if _h : k < p.length ∧ (p.getD k ([], 0)).1 = m then
      (if q + (p.getD k ([], 0)).2 = 0 then p.take k ++ p.drop (k + 1) else p.take k ++ [(m, q + (p.getD k ([], 0)).2)] ++ p.drop (k + 1)) else
      (if q = 0 then p.take k ++ p.drop k else p.take k ++ [(m, q)] ++ p.drop k) := by
  rw [insT_lt (p := p) (t := (m, q)) (k := k) (fun i h hik => hlow i h hik) hk]
  by_cases hkl : k < p.length
  · have hx := hhigh k hkl (Nat.le_refl _)
    have hgd : p.getD k ([], 0) = p[k] := by rw [List.getD_eq_getElem?_getD, List.getElem?_eq_getElem hkl]; rfl
    rw [hgd]
    rw [List.drop_eq_getElem_cons hkl]
    unfold insT
    rw [hx]
    by_cases he : p[k].1 = m
    · rw [dif_pos ⟨hkl, he⟩]
      simp only [he]
      by_cases hz : q + p[k].2 = 0
      · simp [hz]
      · simp [hz]
    · rw [dif_neg (fun h => he h.2)]
      simp only [he]
      by_cases hz : q = 0
      · simp [hz]
      · simp [hz]
  · rw [dif_neg (fun h => hkl h.1), List.drop_of_length_le (by omega)]
    unfold insT
    by_cases hz : q = 0
    · simp [hz]
    · simp [hz]
theorem canon_at {p : List Tm} (h : Canon p) {i j : Nat} (hj : j < p.length) (hij : i < j) : gtM (p[i]'(by omega)).1 p[j].1 = true := List.pairwise_iff_getElem.1 h.sorted i j (by omega) hj hij

theorem iq98 (p : List Tm) (t : RT) (hp : Canon p) (hb : ∀ u ∈ p, Bd 1000000000 u.2) (hok : TOk 1000000000 t) (hn : p.length ≤ 10000000000)
    (hs : ∀ u ∈ p, u.1 = t.1 → Bd 1000000000 (t.2.q + u.2)) :
    Den Tryz.prog 98 [] [PL (p.map tn), .agg (tmC t)] [] (PL ((insT p (tq t)).map tn)) := by
  have hm := hok.len
  have cl := tmC_length hm
  have rl := rowsT_length (p.map tn)
  have p8 : ∀ u ∈ p.map tn, u.1.length = 8 := fun u hu => by
    obtain ⟨w, hw, rfl⟩ := List.mem_map.1 hu
    exact hp.len w hw
  have r11 : ∀ y ∈ rowsT (p.map tn), y.length = 11 := fun y hy => by
    obtain ⟨u, hu, rfl⟩ := List.mem_map.1 hy
    exact tmF_length (p8 u hu)
  obtain ⟨n, hnn⟩ : ∃ n, p.length = n := ⟨_, rfl⟩
  rw [List.length_map, hnn] at rl
  rw [hnn] at hn
  have c8 := tmC_take8 hm
  refine den_of tabOk mixed Tryz.func98 (cd := _) rfl (by decide) rfl (n := 73) rfl rfl (m := 0) rfl ?_
  simp (dsimp := false) (disch := omega) only [List.replicate, cl, rl, rules, tys, eq_self, Nat.reduceLT]
  repeat refine And.intro (by omega) ?_
  refine WA.loop (α := Nat × Nat) (fun ⟨lo, hi⟩ => ⟨[PL (p.map tn), .any, .any, .ptr 0 0 0, .any, .int .i64 lo, .int .i64 hi] ++ List.replicate 68 .any, [.box true (tmC t)]⟩) (fun ⟨lo, hi⟩ => hi - lo)
    (fun ⟨lo, hi⟩ => lo ≤ hi ∧ hi ≤ n ∧ (∀ i (h : i < p.length), i < lo → gtM (p[i]'h).1 t.1 = true) ∧ (∀ i (h : i < p.length), hi ≤ i → gtM (p[i]'h).1 t.1 = false)) (0, n) ?_ ?_ ?_
  · refine Weak.keep [0] (by simp) rfl ?_ ?_
    · simp [leVs, leV, le1]
    · simp [leH, leO, le_tmC]
  · exact ⟨Nat.zero_le _, Nat.le_refl _, fun i _ h => by omega, fun i h h2 => by omega⟩
  · rintro ⟨lo, hi⟩ ⟨h1, h2, hlo, hhi⟩
    simp (dsimp := false) (disch := omega) only [List.replicate, rules, tys, eq_self, ↓reduceIte]
    refine Br.dec ?_ ?_
    · intro h3 h4
      obtain ⟨mid, hmid⟩ : ∃ m : Nat, (lo + hi) / 2 = m := ⟨_, rfl⟩
      have e1 : ((lo : Int) + (hi : Int)) / 2 = (mid : Int) := by omega
      have hml : mid < p.length := by omega
      have r1 := rowsT_getD (ts := p.map tn) (i := mid) (by rw [List.length_map]; omega)
      have hx8 := p8 _ (getD_memT (ts := p.map tn) (i := mid) (by rw [List.length_map]; omega))
      have hgx : ((p.map tn).getD mid rt0).1 = p[mid].1 := by
        rw [List.getD_eq_getElem?_getD, List.getElem?_map, List.getElem?_eq_getElem hml]
        rfl
      obtain ⟨x, hx⟩ : ∃ x, (p.map tn).getD mid rt0 = x := ⟨_, rfl⟩
      rw [hx] at r1 hx8 hgx
      have x11 := tmF_take8 hx8
      have xl := tmF_length hx8
      have hg := iq153 x.1 t.1 hx8 hm
      have hgt : gtM x.1 t.1 = gtM p[mid].1 t.1 := by rw [hgx]
      simp (dsimp := false) (disch := omega) only [h4, e1, wrap64, tdivc, rules, tys, eq_self, ↓reduceIte]
      refine ⟨by decide, ?_⟩
      refine Draw.intro (by kernel_rfl) ?_
      simp (dsimp := false) (disch := omega) only [r1, x11, xl, monoF_fv, rl, c8, cl, rules, tys, eq_self, ↓reduceIte, Nat.reduceLT, Nat.reduceLeDiff]
      repeat refine And.intro (by omega) ?_
      refine GoCall.pure hg (by simp [fzAs, fzA, fzs_mC, monoF_fv]) ?_
      simp (dsimp := false) (disch := omega) only [ids_mC, rules]
      cases hgv : gtM x.1 t.1 with
      | true =>
        rw [hgv] at hgt
        simp (dsimp := false) (disch := omega) only [wrap64, rules, tys, eq_self, ↓reduceIte]
        refine Ap_loop (mid + 1, hi) (by dsimp only; omega) ?_ ⟨by omega, h2, fun i h hi2 => ?_, hhi⟩
        · refine Weak.keep [0] (by simp) rfl ?_ ?_
          · simp [leVs, leV, le1]
          · simp [leH, leO, le_tmC]
        · by_cases hie : i = mid
          · subst hie; exact hgt.symm
          · exact gtM_trans (canon_at hp hml (by omega)) hgt.symm
      | false =>
        rw [hgv] at hgt
        simp (dsimp := false) (disch := omega) only [rules]
        refine Ap_loop (lo, mid) (by dsimp only; omega) ?_ ⟨by omega, by omega, hlo, fun i h hi2 => ?_⟩
        · refine Weak.keep [0] (by simp) rfl ?_ ?_
          · simp [leVs, leV, le1]
          · simp [leH, leO, le_tmC]
        · by_cases hie : i = mid
          · subst hie; exact hgt.symm
          · cases hgi : gtM p[i].1 t.1 with
            | false => rfl
            | true =>
              have := gtM_trans (canon_at hp h (show mid < i by omega)) hgi
              rw [← hgt] at this
              cases this
    · intro h3 h4
      have hle : lo = hi := by omega
      subst hle
      have heq := insT_eq (q := t.2.q) hlo hhi (by omega)
      have htl : List.take lo (rowsT (p.map tn)) = rowsT ((p.take lo).map tn) := by simp [rowsT, List.map_take]
      have dl0 : List.drop lo (rowsT (p.map tn)) = rowsT ((p.drop lo).map tn) := by simp [rowsT, List.map_drop]
      have dl1 : List.drop (lo + 1) (rowsT (p.map tn)) = rowsT ((p.drop (lo + 1)).map tn) := by simp [rowsT, List.map_drop]
      have lt_ : (rowsT ((p.take lo).map tn)).length = lo := by rw [rowsT_length, List.length_map, List.length_take]; omega
      have dn0 : (rowsT ((p.drop lo).map tn)).length = n - lo := by rw [rowsT_length, List.length_map, List.length_drop, hnn]
      have dn1 : (rowsT ((p.drop (lo + 1)).map tn)).length = n - (lo + 1) := by rw [rowsT_length, List.length_map, List.length_drop, hnn]
      have tk_ : List.take lo (rowsT ((p.take lo).map tn)) = rowsT ((p.take lo).map tn) := List.take_of_length_le (by omega)
      have tkd0 : List.take (n - lo) (rowsT ((p.drop lo).map tn)) = rowsT ((p.drop lo).map tn) := List.take_of_length_le (by omega)
      have tkd1 : List.take (n - (lo + 1)) (rowsT ((p.drop (lo + 1)).map tn)) = rowsT ((p.drop (lo + 1)).map tn) := List.take_of_length_le (by omega)
      have tn1 : ((lo : Int) + 1).toNat = lo + 1 := by omega
      have r11a : ∀ y ∈ rowsT ((p.take lo).map tn), y.length = 11 := fun y hy => r11 y (by rw [← htl] at hy; exact List.mem_of_mem_take hy)
      have r11b : ∀ y ∈ rowsT ((p.drop lo).map tn), y.length = 11 := fun y hy => r11 y (by rw [← dl0] at hy; exact List.mem_of_mem_drop hy)
      have r11c : ∀ y ∈ rowsT ((p.drop (lo + 1)).map tn), y.length = 11 := fun y hy => r11 y (by rw [← dl1] at hy; exact List.mem_of_mem_drop hy)
      by_cases hln : lo < n
      · have hlp : lo < p.length := by omega
        have r1 := rowsT_getD (ts := p.map tn) (i := lo) (by rw [List.length_map]; omega)
        have hx8 := p8 _ (getD_memT (ts := p.map tn) (i := lo) (by rw [List.length_map]; omega))
        have hxe : (p.map tn).getD lo rt0 = tn p[lo] := by
          rw [List.getD_eq_getElem?_getD, List.getElem?_map, List.getElem?_eq_getElem hlp]
          rfl
        have hgd : p.getD lo ([], 0) = p[lo] := by rw [List.getD_eq_getElem?_getD, List.getElem?_eq_getElem hlp]; rfl
        rw [hxe] at r1 hx8
        rw [hgd] at heq
        have hsu := hs p[lo] (List.getElem_mem hlp)
        have hbu := hb p[lo] (List.getElem_mem hlp)
        obtain ⟨u, hu⟩ : ∃ u, p[lo] = u := ⟨_, rfl⟩
        rw [hu] at r1 hx8 heq hsu hbu
        have x11 := tmF_take8 hx8
        have xl := tmF_length hx8
        have hx1 : (tn u).1 = u.1 := rfl
        rw [hx1] at x11 hx8
        have hd1 : decide ((lo : Int) < (n : Int)) = true := decide_eq_true (by omega)
        have xc := tmF_drop8 (t := tn u) hx8
        by_cases hee : u.1 = t.1
        · have hb1 : (u.1 == t.1) = true := by rw [hee]; exact beq_self_eq_true _
          simp (dsimp := false) (disch := omega) only [h4, htl, lt_, Nat.sub_zero, rules, tys, ↓reduceIte, Nat.reduceBEq, Nat.reduceLT]
          refine ⟨⟨by omega, by omega, by omega, r11⟩, ⟨r11a, by omega, by omega⟩, ?_⟩
          refine Draw.intro (by kernel_rfl) ?_
          simp (dsimp := false) (disch := omega) only [rl, hd1, r1, x11, xl, monoF_fv, c8, cl, hx8, hm, hb1, Bool.and_self, rules, tys, eq_self, ↓reduceIte, Nat.reduceBEq, Nat.reduceLT, Nat.reduceLeDiff]
          repeat refine And.intro (by omega) ?_
          have hbs := hsu hee
          have h31 := den31 t.2 (cn u.2) hok.raw (cn_ok hbu)
          rw [cn_q] at h31
          change Den Tryz.prog 67 [] [.agg t.2.c, .agg (cn u.2).c] [] (.agg (cn (t.2.q + u.2)).c) at h31
          have hput1 := tmC_putc (t := t) (r := cn (t.2.q + u.2)) hm
          have tcc := tmC_coef hm
          have xcc : (tn u).2.f.map .fv = (cn u.2).c := rfl
          rw [dif_pos ⟨by omega, hee⟩] at heq
          obtain ⟨c, hc⟩ : ∃ c, t.2.q + u.2 = c := ⟨_, rfl⟩
          rw [hc] at heq h31 hput1 hbs
          obtain ⟨r, hr⟩ : ∃ r, cn c = r := ⟨_, rfl⟩
          have hrq : r.q = c := by rw [← hr, cn_q]
          have hrok : r.Ok 1000000000 := by rw [← hr]; exact cn_ok hbs
          rw [hr] at h31 hput1
          refine Draw.intro (by kernel_rfl) ?_
          simp (dsimp := false) (disch := omega) only [tcc, cl, r1, rl, xc, xcc, xl, f_length, f_take, rules, tys, eq_self, ↓reduceIte, Nat.reduceAdd, Nat.reduceLT, Nat.reduceLeDiff]
          repeat refine And.intro (by omega) ?_
          refine GoCall.pure h31 (by simp [fzAs, fzA, fzs_c, f_fv]) ?_
          simp (dsimp := false) (disch := omega) only [ids_c, c_reloc, List.append_nil, cl, c_length, hput1, wrap64, rules, tys, eq_self, ↓reduceIte, Nat.reduceAdd, Nat.reduceLT, Nat.reduceLeDiff]
          repeat refine And.intro (by omega) ?_
          have h57 := den57 r (hrok.mono (by decide))
          change Den Tryz.prog 121 [] [.agg r.c] [] (.agg (cn r.q).c) at h57
          rw [hrq] at h57
          have hbc : Bd 1000000000 c := hbs
          have h26 := den26 (cn c) ((cn_ok hbc).mono (by decide))
          rw [cn_q] at h26
          change Den Tryz.prog 63 [] [.agg (cn c).c] [] (.int .i64 (sgq c)) at h26
          have htt : ((t.1, cn c) : RT).1.length = 8 := hm
          have kk1 := tmC_take11 htt
          have kk2 := tmF_take11 htt
          have kk3 := tmC_length htt
          have kk4 := tmF_length htt
          have kk5 := tmC_coef htt
          have hput2 := tmC_putc (t := (t.1, r)) (r := cn c) hm
          have c8r : List.take 3 (List.drop 8 (tmC (t.1, r))) = r.c := tmC_coef (t := (t.1, r)) hm
          have clr : (tmC (t.1, r)).length = 11 := tmC_length (t := (t.1, r)) hm
          simp (dsimp := false) (disch := omega) only [c8r, clr, rules, Nat.reduceLeDiff]
          repeat refine And.intro (by omega) ?_
          refine GoCall.pure h57 (by simp [fzAs, fzA, fzs_c, f_fv]) ?_
          simp (dsimp := false) (disch := omega) only [ids_c, c_reloc, clr, c_length, hput2, kk3, kk5, rules, tys, eq_self, ↓reduceIte, Nat.reduceAdd, Nat.reduceLT, Nat.reduceLeDiff]
          repeat refine And.intro (by omega) ?_
          refine GoCall.pure h26 (by simp [fzAs, fzA, fzs_c, f_fv]) ?_
          simp (dsimp := false) (disch := omega) only [ids_c, rules, tys, eq_self, ↓reduceIte, Nat.reduceAdd]
          refine Br.bneInt ?_ ?_
          · intro h5 h6
            have hnz : c ≠ 0 := fun h => h5 (sgq_eq_zero.2 h)
            have hap : rowsT ((p.take lo).map tn) ++ [tmF (t.1, cn c)] ++ rowsT ((p.drop (lo + 1)).map tn) = rowsT ((insT p (tq t)).map tn) := by
              have : insT p (tq t) = p.take lo ++ [(t.1, c)] ++ p.drop (lo + 1) := by show insT p (t.1, t.2.q) = _; rw [heq, if_neg hnz]
              rw [this]
              simp [rowsT, tn]
            have hfin := rowsT_length ((insT p (tq t)).map tn)
            have hln : (rowsT ((p.take lo).map tn)).length + 1 + (n - (lo + 1)) = (rowsT ((insT p (tq t)).map tn)).length := by
              rw [← hap]
              simp only [List.length_append, List.length_cons, List.length_nil, rowsT_length, List.length_map, List.length_drop, hnn]
            rw [lt_] at hln
            obtain ⟨FN, hFN⟩ : ∃ F, rowsT ((insT p (tq t)).map tn) = F := ⟨_, rfl⟩
            rw [hFN] at hap hln
            have ap1 : (rowsT ((p.take lo).map tn) ++ [tmF (t.1, cn c)]).length = lo + 1 := by rw [List.length_append, lt_]; rfl
            have tkap : List.take (lo + 1) (rowsT ((p.take lo).map tn) ++ [tmF (t.1, cn c)]) = rowsT ((p.take lo).map tn) ++ [tmF (t.1, cn c)] := List.take_of_length_le (by omega)
            have tkF : List.take (lo + 1 + (n - (lo + 1))) FN = FN := List.take_of_length_le (by omega)
            simp (dsimp := false) (disch := omega) only [h6, kk1, kk2, kk3, fzs_tmC, ids_tmC, rl, lt_, tk_, dl1, dn1, tkd1, ap1, tkap, tn1, hap, List.append_nil, Ap_end_ret, rules, tys, eq_self, ↓reduceIte, Nat.reduceAdd, Nat.reduceMul, Nat.reduceBEq, Nat.reduceLT, Nat.reduceLeDiff]
            repeat refine And.intro (by repeat' (first | omega | exact r11 | exact r11c | apply And.intro)) ?_
            refine RetOK.pure rfl ⟨trivial, trivial⟩ ?_
            simp (disch := omega) only [hln, List.drop_zero, List.take_length, Nat.zero_add, Nat.le_refl, ↓reduceIte, List.idxOf?_nil, St.get, fzX, oneRes, fzV, fzC, fz1, fz0, Option.map_some, List.getD_cons_succ, List.getD_cons_zero, List.getElem?_cons_zero, List.getElem?_cons_succ]
            rw [← hFN]
          · intro h5 h6
            have hz : c = 0 := sgq_eq_zero.1 h5
            have hap : rowsT ((p.take lo).map tn) ++ rowsT ((p.drop (lo + 1)).map tn) = rowsT ((insT p (tq t)).map tn) := by
              have : insT p (tq t) = p.take lo ++ p.drop (lo + 1) := by show insT p (t.1, t.2.q) = _; rw [heq, if_pos hz]
              rw [this]
              simp [rowsT]
            have hln : (rowsT ((p.take lo).map tn)).length + (n - (lo + 1)) = (rowsT ((insT p (tq t)).map tn)).length := by
              rw [← hap]
              simp only [List.length_append, rowsT_length, List.length_map, List.length_drop, hnn]
            rw [lt_] at hln
            obtain ⟨FN, hFN⟩ : ∃ F, rowsT ((insT p (tq t)).map tn) = F := ⟨_, rfl⟩
            rw [hFN] at hap hln
            have tkF : List.take (lo + (n - (lo + 1))) FN = FN := List.take_of_length_le (by omega)
            simp (dsimp := false) (disch := omega) only [h6, rl, lt_, tk_, dl1, dn1, tkd1, tn1, hap, Ap_end_ret, rules, tys, eq_self, ↓reduceIte, Nat.reduceAdd, Nat.reduceLT]
            repeat refine And.intro (by repeat' (first | omega | exact r11 | exact r11c | apply And.intro)) ?_
            refine RetOK.pure rfl ⟨trivial, trivial⟩ ?_
            simp (disch := omega) only [hln, List.drop_zero, List.take_length, Nat.zero_add, Nat.le_refl, ↓reduceIte, List.idxOf?_nil, St.get, fzX, oneRes, fzV, fzC, fz1, fz0, Option.map_some, List.getD_cons_succ, List.getD_cons_zero, List.getElem?_cons_zero, List.getElem?_cons_succ]
            rw [← hFN]
        · have hb1 : (u.1 == t.1) = false := by rw [beq_eq_false_iff_ne]; exact hee
          simp (dsimp := false) (disch := omega) only [h4, htl, lt_, Nat.sub_zero, rules, tys, ↓reduceIte, Nat.reduceBEq, Nat.reduceLT]
          refine ⟨⟨by omega, by omega, by omega, r11⟩, ⟨r11a, by omega, by omega⟩, ?_⟩
          refine Draw.intro (by kernel_rfl) ?_
          simp (dsimp := false) (disch := omega) only [rl, hd1, r1, x11, xl, monoF_fv, c8, cl, hx8, hm, hb1, Bool.and_self, rules, tys, eq_self, ↓reduceIte, Nat.reduceAdd, Nat.reduceBEq, Nat.reduceLT, Nat.reduceLeDiff]
          repeat refine And.intro (by omega) ?_
          rw [dif_neg (fun h => hee h.2)] at heq
          obtain ⟨r, hr⟩ : ∃ r, t.2 = r := ⟨_, rfl⟩
          have hrq : r.q = t.2.q := by rw [← hr]
          have hrok : r.Ok 1000000000 := by rw [← hr]; exact hok.raw
          have htr : tmC t = tmC (t.1, r) := by rw [← hr]
          have hbs : Bd 1000000000 t.2.q := hok.raw.bd (by decide)
          obtain ⟨c, hc⟩ : ∃ c, t.2.q = c := ⟨_, rfl⟩
          rw [hc] at heq hrq hbs
          rw [htr]
          have h57 := den57 r (hrok.mono (by decide))
          change Den Tryz.prog 121 [] [.agg r.c] [] (.agg (cn r.q).c) at h57
          rw [hrq] at h57
          have hbc : Bd 1000000000 c := hbs
          have h26 := den26 (cn c) ((cn_ok hbc).mono (by decide))
          rw [cn_q] at h26
          change Den Tryz.prog 63 [] [.agg (cn c).c] [] (.int .i64 (sgq c)) at h26
          have htt : ((t.1, cn c) : RT).1.length = 8 := hm
          have kk1 := tmC_take11 htt
          have kk2 := tmF_take11 htt
          have kk3 := tmC_length htt
          have kk4 := tmF_length htt
          have kk5 := tmC_coef htt
          have hput2 := tmC_putc (t := (t.1, r)) (r := cn c) hm
          have c8r : List.take 3 (List.drop 8 (tmC (t.1, r))) = r.c := tmC_coef (t := (t.1, r)) hm
          have clr : (tmC (t.1, r)).length = 11 := tmC_length (t := (t.1, r)) hm
          simp (dsimp := false) (disch := omega) only [c8r]
          repeat refine And.intro (by omega) ?_
          refine GoCall.pure h57 (by simp [fzAs, fzA, fzs_c, f_fv]) ?_
          simp (dsimp := false) (disch := omega) only [ids_c, c_reloc, clr, c_length, hput2, kk3, kk5, rules, tys, eq_self, ↓reduceIte, Nat.reduceAdd, Nat.reduceLT, Nat.reduceLeDiff]
          repeat refine And.intro (by omega) ?_
          refine GoCall.pure h26 (by simp [fzAs, fzA, fzs_c, f_fv]) ?_
          simp (dsimp := false) (disch := omega) only [ids_c, rules, tys, eq_self, ↓reduceIte, Nat.reduceAdd]
          refine Br.bneInt ?_ ?_
          · intro h5 h6
            have hnz : c ≠ 0 := fun h => h5 (sgq_eq_zero.2 h)
            have hap : rowsT ((p.take lo).map tn) ++ [tmF (t.1, cn c)] ++ rowsT ((p.drop lo).map tn) = rowsT ((insT p (tq t)).map tn) := by
              have : insT p (tq t) = p.take lo ++ [(t.1, c)] ++ p.drop lo := by show insT p (t.1, t.2.q) = _; rw [show t.2.q = c from hc, heq, if_neg hnz]
              rw [this]
              simp [rowsT, tn]
            have hfin := rowsT_length ((insT p (tq t)).map tn)
            have hln : (rowsT ((p.take lo).map tn)).length + 1 + (n - lo) = (rowsT ((insT p (tq t)).map tn)).length := by
              rw [← hap]
              simp only [List.length_append, List.length_cons, List.length_nil, rowsT_length, List.length_map, List.length_drop, hnn]
            rw [lt_] at hln
            obtain ⟨FN, hFN⟩ : ∃ F, rowsT ((insT p (tq t)).map tn) = F := ⟨_, rfl⟩
            rw [hFN] at hap hln
            have ap1 : (rowsT ((p.take lo).map tn) ++ [tmF (t.1, cn c)]).length = lo + 1 := by rw [List.length_append, lt_]; rfl
            have tkap : List.take (lo + 1) (rowsT ((p.take lo).map tn) ++ [tmF (t.1, cn c)]) = rowsT ((p.take lo).map tn) ++ [tmF (t.1, cn c)] := List.take_of_length_le (by omega)
            have tkF : List.take (lo + 1 + (n - lo)) FN = FN := List.take_of_length_le (by omega)
            simp (dsimp := false) (disch := omega) only [h6, kk1, kk2, kk3, fzs_tmC, ids_tmC, rl, lt_, tk_, dl0, dn0, tkd0, ap1, tkap, hap, List.append_nil, Ap_end_ret, rules, tys, eq_self, ↓reduceIte, Nat.reduceAdd, Nat.reduceMul, Nat.reduceBEq, Nat.reduceLT, Nat.reduceLeDiff]
            repeat refine And.intro (by repeat' (first | omega | exact r11 | exact r11b | apply And.intro)) ?_
            refine RetOK.pure rfl ⟨trivial, trivial⟩ ?_
            simp (disch := omega) only [hln, List.drop_zero, List.take_length, Nat.zero_add, Nat.le_refl, ↓reduceIte, List.idxOf?_nil, St.get, fzX, oneRes, fzV, fzC, fz1, fz0, Option.map_some, List.getD_cons_succ, List.getD_cons_zero, List.getElem?_cons_zero, List.getElem?_cons_succ]
            rw [← hFN]
          · intro h5 h6
            have hz : c = 0 := sgq_eq_zero.1 h5
            have hap : rowsT ((p.take lo).map tn) ++ rowsT ((p.drop lo).map tn) = rowsT ((insT p (tq t)).map tn) := by
              have : insT p (tq t) = p.take lo ++ p.drop lo := by show insT p (t.1, t.2.q) = _; rw [show t.2.q = c from hc, heq, if_pos hz]
              rw [this]
              simp [rowsT]
            have hln : (rowsT ((p.take lo).map tn)).length + (n - lo) = (rowsT ((insT p (tq t)).map tn)).length := by
              rw [← hap]
              simp only [List.length_append, rowsT_length, List.length_map, List.length_drop, hnn]
            rw [lt_] at hln
            obtain ⟨FN, hFN⟩ : ∃ F, rowsT ((insT p (tq t)).map tn) = F := ⟨_, rfl⟩
            rw [hFN] at hap hln
            have tkF : List.take (lo + (n - lo)) FN = FN := List.take_of_length_le (by omega)
            simp (dsimp := false) (disch := omega) only [h6, rl, lt_, tk_, dl0, dn0, tkd0, hap, Ap_end_ret, rules, tys, eq_self, ↓reduceIte, Nat.reduceAdd, Nat.reduceLT]
            repeat refine And.intro (by repeat' (first | omega | exact r11 | exact r11b | apply And.intro)) ?_
            refine RetOK.pure rfl ⟨trivial, trivial⟩ ?_
            simp (disch := omega) only [hln, List.drop_zero, List.take_length, Nat.zero_add, Nat.le_refl, ↓reduceIte, List.idxOf?_nil, St.get, fzX, oneRes, fzV, fzC, fz1, fz0, Option.map_some, List.getD_cons_succ, List.getD_cons_zero, List.getElem?_cons_zero, List.getElem?_cons_succ]
            rw [← hFN]
      · have hd1 : decide ((lo : Int) < (n : Int)) = false := decide_eq_false (by omega)
        simp (dsimp := false) (disch := omega) only [h4, htl, lt_, Nat.sub_zero, rules, tys, ↓reduceIte, Nat.reduceBEq, Nat.reduceLT]
        refine ⟨⟨by omega, by omega, by omega, r11⟩, ⟨r11a, by omega, by omega⟩, ?_⟩
        refine Draw.intro (by kernel_rfl) ?_
        simp (dsimp := false) (disch := omega) only [rl, hd1, rules, tys, eq_self, ↓reduceIte, Nat.reduceAdd]
        rw [dif_neg (fun h => hln (by omega))] at heq
        obtain ⟨r, hr⟩ : ∃ r, t.2 = r := ⟨_, rfl⟩
        have hrq : r.q = t.2.q := by rw [← hr]
        have hrok : r.Ok 1000000000 := by rw [← hr]; exact hok.raw
        have htr : tmC t = tmC (t.1, r) := by rw [← hr]
        have hbs : Bd 1000000000 t.2.q := hok.raw.bd (by decide)
        obtain ⟨c, hc⟩ : ∃ c, t.2.q = c := ⟨_, rfl⟩
        rw [hc] at heq hrq hbs
        rw [htr]
        have h57 := den57 r (hrok.mono (by decide))
        change Den Tryz.prog 121 [] [.agg r.c] [] (.agg (cn r.q).c) at h57
        rw [hrq] at h57
        have hbc : Bd 1000000000 c := hbs
        have h26 := den26 (cn c) ((cn_ok hbc).mono (by decide))
        rw [cn_q] at h26
        change Den Tryz.prog 63 [] [.agg (cn c).c] [] (.int .i64 (sgq c)) at h26
        have htt : ((t.1, cn c) : RT).1.length = 8 := hm
        have kk1 := tmC_take11 htt
        have kk2 := tmF_take11 htt
        have kk3 := tmC_length htt
        have kk4 := tmF_length htt
        have kk5 := tmC_coef htt
        have hput2 := tmC_putc (t := (t.1, r)) (r := cn c) hm
        have c8r : List.take 3 (List.drop 8 (tmC (t.1, r))) = r.c := tmC_coef (t := (t.1, r)) hm
        have clr : (tmC (t.1, r)).length = 11 := tmC_length (t := (t.1, r)) hm
        simp (dsimp := false) (disch := omega) only [c8r, clr, rules, Nat.reduceLeDiff]
        repeat refine And.intro (by omega) ?_
        refine GoCall.pure h57 (by simp [fzAs, fzA, fzs_c, f_fv]) ?_
        simp (dsimp := false) (disch := omega) only [ids_c, c_reloc, clr, c_length, hput2, kk3, kk5, rules, tys, eq_self, ↓reduceIte, Nat.reduceAdd, Nat.reduceLT, Nat.reduceLeDiff]
        repeat refine And.intro (by omega) ?_
        refine GoCall.pure h26 (by simp [fzAs, fzA, fzs_c, f_fv]) ?_
        simp (dsimp := false) (disch := omega) only [ids_c, rules, tys, eq_self, ↓reduceIte, Nat.reduceAdd]
        refine Br.bneInt ?_ ?_
        · intro h5 h6
          have hnz : c ≠ 0 := fun h => h5 (sgq_eq_zero.2 h)
          have hap : rowsT ((p.take lo).map tn) ++ [tmF (t.1, cn c)] ++ rowsT ((p.drop lo).map tn) = rowsT ((insT p (tq t)).map tn) := by
            have : insT p (tq t) = p.take lo ++ [(t.1, c)] ++ p.drop lo := by show insT p (t.1, t.2.q) = _; rw [show t.2.q = c from hc, heq, if_neg hnz]
            rw [this]
            simp [rowsT, tn]
          have hfin := rowsT_length ((insT p (tq t)).map tn)
          have hln : (rowsT ((p.take lo).map tn)).length + 1 + (n - lo) = (rowsT ((insT p (tq t)).map tn)).length := by
            rw [← hap]
            simp only [List.length_append, List.length_cons, List.length_nil, rowsT_length, List.length_map, List.length_drop, hnn]
          rw [lt_] at hln
          obtain ⟨FN, hFN⟩ : ∃ F, rowsT ((insT p (tq t)).map tn) = F := ⟨_, rfl⟩
          rw [hFN] at hap hln
          have ap1 : (rowsT ((p.take lo).map tn) ++ [tmF (t.1, cn c)]).length = lo + 1 := by rw [List.length_append, lt_]; rfl
          have tkap : List.take (lo + 1) (rowsT ((p.take lo).map tn) ++ [tmF (t.1, cn c)]) = rowsT ((p.take lo).map tn) ++ [tmF (t.1, cn c)] := List.take_of_length_le (by omega)
          have tkF : List.take (lo + 1 + (n - lo)) FN = FN := List.take_of_length_le (by omega)
          simp (dsimp := false) (disch := omega) only [h6, kk1, kk2, kk3, fzs_tmC, ids_tmC, rl, lt_, tk_, dl0, dn0, tkd0, ap1, tkap, hap, List.append_nil, Ap_end_ret, rules, tys, eq_self, ↓reduceIte, Nat.reduceAdd, Nat.reduceMul, Nat.reduceBEq, Nat.reduceLT, Nat.reduceLeDiff]
          repeat refine And.intro (by repeat' (first | omega | exact r11 | exact r11b | apply And.intro)) ?_
          refine RetOK.pure rfl ⟨trivial, trivial⟩ ?_
          simp (disch := omega) only [hln, List.drop_zero, List.take_length, Nat.zero_add, Nat.le_refl, ↓reduceIte, List.idxOf?_nil, St.get, fzX, oneRes, fzV, fzC, fz1, fz0, Option.map_some, List.getD_cons_succ, List.getD_cons_zero, List.getElem?_cons_zero, List.getElem?_cons_succ]
          rw [← hFN]
        · intro h5 h6
          have hz : c = 0 := sgq_eq_zero.1 h5
          have hap : rowsT ((p.take lo).map tn) ++ rowsT ((p.drop lo).map tn) = rowsT ((insT p (tq t)).map tn) := by
            have : insT p (tq t) = p.take lo ++ p.drop lo := by show insT p (t.1, t.2.q) = _; rw [show t.2.q = c from hc, heq, if_pos hz]
            rw [this]
            simp [rowsT]
          have hln : (rowsT ((p.take lo).map tn)).length + (n - lo) = (rowsT ((insT p (tq t)).map tn)).length := by
            rw [← hap]
            simp only [List.length_append, rowsT_length, List.length_map, List.length_drop, hnn]
          rw [lt_] at hln
          obtain ⟨FN, hFN⟩ : ∃ F, rowsT ((insT p (tq t)).map tn) = F := ⟨_, rfl⟩
          rw [hFN] at hap hln
          have tkF : List.take (lo + (n - lo)) FN = FN := List.take_of_length_le (by omega)
          simp (dsimp := false) (disch := omega) only [h6, rl, lt_, tk_, dl0, dn0, tkd0, hap, Ap_end_ret, rules, tys, eq_self, ↓reduceIte, Nat.reduceAdd, Nat.reduceLT]
          repeat refine And.intro (by repeat' (first | omega | exact r11 | exact r11b | apply And.intro)) ?_
          refine RetOK.pure rfl ⟨trivial, trivial⟩ ?_
          simp (disch := omega) only [hln, List.drop_zero, List.take_length, Nat.zero_add, Nat.le_refl, ↓reduceIte, List.idxOf?_nil, St.get, fzX, oneRes, fzV, fzC, fz1, fz0, Option.map_some, List.getD_cons_succ, List.getD_cons_zero, List.getElem?_cons_zero, List.getElem?_cons_succ]
          rw [← hFN]
end Go.Proofs.YtjjbkjgifdhlcaaGreat

namespace Go.Proofs.YtjjbkjgifdhlcaaGreat
open Go.AM Go.Pl
set_option maxRecDepth 100000
set_option maxHeartbeats 4000000

theorem iq44 (ts : List RT) (h8 : TsOk 1000000000 ts) (hb : PB 1000000000 (ts.map tq)) (hn : ts.length ≤ 10000000000) : Den Tryz.prog 44 [] [PL ts] [] (PL ((nf (ts.map tq)).map tn)) := by
  have rl := rowsT_length ts
  obtain ⟨n, hnn⟩ : ∃ n, ts.length = n := ⟨_, rfl⟩
  rw [hnn] at rl hn
  obtain ⟨T, hT⟩ : ∃ T, ts.map tq = T := ⟨_, rfl⟩
  have hTl : T.length = n := by rw [← hT, List.length_map, hnn]
  have hT8 : Len8 T := fun t ht => by
    rw [← hT] at ht
    obtain ⟨u, hu, rfl⟩ := List.mem_map.1 ht
    exact (h8 u hu).len
  rw [hT] at hb ⊢
  refine den_of tabOk mixed Tryz.func44 (cd := _) rfl (by decide) rfl (n := 17) rfl rfl (m := 0) rfl ?_
  simp (dsimp := false) (disch := omega) only [List.replicate, rules]
  refine WA.loop (α := Nat) (fun i => ⟨[PL ts, .any, .any, PL ((nf (T.take i)).map tn), .int .i64 i] ++ List.replicate 13 .any, []⟩) (fun i => n - i) (fun i => i ≤ n) 0 ?_ (Nat.zero_le _) ?_
  · refine Weak.keep [] (by simp) rfl ?_ ?_
    · simp [leVs, leV, le1]
      simp [nf]
      trivial
    · simp [leH]
  · intro i hi
    simp (dsimp := false) (disch := omega) only [List.replicate, rl, rules, tys, eq_self, ↓reduceIte]
    refine Br.dec ?_ ?_
    · intro h1 h2
      have r1 := rowsT_getD (ts := ts) (i := i) (by omega)
      have hok := h8 _ (getD_memT (ts := ts) (i := i) (by omega))
      have hsn : T.take (i + 1) = T.take i ++ [tq (ts.getD i rt0)] := by
        rw [List.take_add_one, ← hT, List.getElem?_map, List.getD_eq_getElem?_getD, List.getElem?_eq_getElem (by omega)]
        rfl
      obtain ⟨t, ht⟩ : ∃ t, ts.getD i rt0 = t := ⟨_, rfl⟩
      rw [ht] at r1 hok hsn
      have hb1 := hb.take (i + 1)
      rw [hsn] at hb1
      have hT8i : Len8 (T.take i) := fun u hu => hT8 u (List.mem_of_mem_take hu)
      have hlen : (nf (T.take i)).length ≤ 10000000000 := by
        have := nf_len (T.take i)
        rw [List.length_take] at this
        omega
      have h98 := iq98 (nf (T.take i)) t (nf_canon hT8i) ((hb.take i).nf.bd (by decide)) hok hlen (fun u hu _ => hb1.snoc_bd (by decide) u hu)
      have hni : insT (nf (T.take i)) (tq t) = nf (T.take (i + 1)) := by
        rw [hsn]
        unfold nf
        rw [List.foldl_append]
        rfl
      rw [hni] at h98
      have hm := hok.len
      have t11 := tmF_take11 hm
      have fl := tmF_length hm
      have cl := tmC_length hm
      obtain ⟨P, hP⟩ : ∃ P, (nf (T.take i)).map tn = P := ⟨_, rfl⟩
      rw [hP] at h98 ⊢
      simp (dsimp := false) (disch := omega) only [h2, r1, rl, t11, tmF_fv, fl, rules, tys, eq_self, ↓reduceIte, Nat.reduceLT, Nat.reduceLeDiff]
      repeat refine And.intro (by omega) ?_
      refine GoCall.pure h98 (by simp [fzAs, fzA, fz1, fz0, fzs_tmC, tmF_fv]) ?_
      simp (dsimp := false) (disch := omega) only [ids_tmC, wrap64, rules, tys, eq_self, ↓reduceIte]
      refine Ap_loop (i + 1) (by omega) ?_ (by omega)
      refine Weak.keep [] (by simp) rfl ?_ ?_
      · simp [leVs, leV, le1]
      · simp [leH]
    · intro h1 h2
      have hTT : T.take i = T := List.take_of_length_le (by omega)
      rw [hTT]
      simp (dsimp := false) (disch := omega) only [h2, Ap_end_ret, rules, Nat.reduceBEq]
      refine RetOK.pure rfl ⟨trivial, trivial⟩ rfl
theorem z8_m : [PV.int .i64 0, PV.int .i64 0, PV.int .i64 0, PV.int .i64 0, PV.int .i64 0, PV.int .i64 0, PV.int .i64 0, PV.int .i64 0] = mC z8 := rfl
theorem iq19 (ts : List RT) (h8 : TsOk 5000000000 ts) (hn : ts.length ≤ 10000000000) : Den Tryz.prog 19 [] [PL ts, PL ts] [] (.bool true) := by
  have rl := rowsT_length ts
  obtain ⟨n, hnn⟩ : ∃ n, ts.length = n := ⟨_, rfl⟩
  rw [hnn] at rl hn
  have e1 : ((n : Int) != (n : Int)) = false := by simp
  refine den_of tabOk mixed Tryz.func19 (cd := _) rfl (by decide) rfl (n := 40) rfl rfl (m := 0) rfl ?_
  simp (dsimp := false) (disch := omega) only [List.replicate, rl, e1, rules, tys, eq_self, ↓reduceIte]
  refine WA.loop (α := Nat) (fun i => ⟨[PL ts, PL ts, .any, .any, .any, .int .i64 i] ++ List.replicate 36 .any, []⟩) (fun i => n - i) (fun i => i ≤ n) 0 ?_ (Nat.zero_le _) ?_
  · refine Weak.keep [] (by simp) rfl ?_ ?_
    · simp [leVs, leV, le1]
    · simp [leH]
  · intro i hi
    simp (dsimp := false) (disch := omega) only [List.replicate, rl, rules, tys, eq_self, ↓reduceIte]
    refine Br.dec ?_ ?_
    · intro h1 h2
      have r1 := rowsT_getD (ts := ts) (i := i) (by omega)
      have hok := h8 _ (getD_memT (ts := ts) (i := i) (by omega))
      obtain ⟨t, ht⟩ : ∃ t, ts.getD i rt0 = t := ⟨_, rfl⟩
      rw [ht] at r1 hok
      have hm := hok.len
      have f8 := tmF_take8 hm
      have fl := tmF_length hm
      have fd := tmF_drop8 hm
      have hb1 : (t.1 == t.1) = true := beq_self_eq_true _
      have h35 := den35 t.2 t.2 hok.raw hok.raw
      rw [sameR_self] at h35
      change Den Tryz.prog 62 [] [.agg t.2.c, .agg t.2.c] [] _ at h35
      simp (dsimp := false) (disch := omega) only [h2, rules]
      refine Draw.intro (by kernel_rfl) ?_
      simp (dsimp := false) (disch := omega) only [r1, rl, f8, fl, fd, monoF_fv, hm, hb1, Bool.and_self, Bool.not_true, f_take, f_length, f_fv, rules, tys, eq_self, ↓reduceIte, Nat.reduceAdd, Nat.reduceBEq, Nat.reduceLT, Nat.reduceLeDiff]
      repeat refine And.intro (by omega) ?_
      refine GoCall.pure h35 (by simp [fzAs, fzA, fzs_c, f_fv]) ?_
      simp (dsimp := false) (disch := omega) only [ids_c, List.append_nil, Bool.not_true, wrap64, rules, tys, eq_self, ↓reduceIte]
      repeat refine And.intro (by omega) ?_
      refine Ap_loop (i + 1) (by omega) ?_ (by omega)
      refine Weak.keep [] (by simp) rfl ?_ ?_
      · simp [leVs, leV, le1]
      · simp [leH]
    · intro h1 h2
      simp (dsimp := false) (disch := omega) only [h2, Ap_end_ret, rules, Nat.reduceBEq]
      refine RetOK.pure rfl ⟨trivial, trivial⟩ rfl
def polyS (rs : List Raw) : List RT := (z8, rs.getD 8 rz) :: formT rs 8
theorem poly_same (rs : List Raw) : nf ((polyS rs).map tq) = polyT rs := by
  unfold polyT
  have hp : (polyS rs).Perm (polyR rs) := by
    unfold polyS polyR
    exact (List.perm_append_singleton _ _).symm
  refine nf_congr ?_ ?_ (fun m => sumC_perm (hp.map tq))
  · intro t ht
    obtain ⟨u, hu, rfl⟩ := List.mem_map.1 ht
    rcases List.mem_cons.1 hu with rfl | hu
    · rfl
    · obtain ⟨j, _, rfl⟩ := List.mem_map.1 hu
      simp [tq, z8]
  · intro t ht
    obtain ⟨u, hu, rfl⟩ := List.mem_map.1 ht
    have := hp.mem_iff.2 hu
    rcases List.mem_cons.1 this with rfl | hu
    · rfl
    · obtain ⟨j, _, rfl⟩ := List.mem_map.1 hu
      simp [tq, z8]
theorem polyS_ok {k : Nat} {rs : List Raw} (h : LOk k rs) : TsOk k (polyS rs) := fun t ht => polyR_ok h t (by
  unfold polyR
  rcases List.mem_cons.1 ht with h1 | h1
  · exact List.mem_append.2 (.inr (by rw [h1]; simp))
  · exact List.mem_append.2 (.inl h1))
theorem iq20 (rs : List Raw) (h : LOk 10000000 rs) : Den Tryz.prog 20 [] [RL rs] [] (PL ((polyT rs).map tn)) := by
  have hl := h.len
  have hok : TsOk 1000000000 (polyS rs) := fun t ht => (polyS_ok h t ht).mono (by decide)
  have hln : (polyS rs).length = 9 := by simp [polyS, formT_length]
  have hb : PB 1000000000 ((polyS rs).map tq) := by
    refine (PB.list (k := 10000000) (by decide) (fun t ht => ?_)).mono ?_
    · obtain ⟨u, hu, rfl⟩ := List.mem_map.1 ht
      exact (polyS_ok h u hu).raw.bd (by decide)
    · rw [List.length_map, hln]
      decide
  have h44 := iq44 (polyS rs) hok hb (by rw [hln]; decide)
  rw [poly_same] at h44
  unfold RL
  have fl := flat_length rs
  rw [hl] at fl
  have pl9 := rowsT_length (polyS rs)
  rw [hln] at pl9
  have tk9 := take_rowsT (ts := polyS rs) (n := 9) (by rw [hln]; omega)
  obtain ⟨Q, hQ⟩ : ∃ Q, (polyT rs).map tn = Q := ⟨_, rfl⟩
  rw [hQ] at h44 ⊢
  have fc := flat_last hl
  have t0 : ((z8, rs.getD 8 rz) : RT).1.length = 8 := z8_length
  obtain ⟨r8, hr8⟩ : ∃ r, rs.getD 8 rz = r := ⟨_, rfl⟩
  rw [hr8] at fc t0
  have f11 := tmF_take11 t0
  have fl1 := tmF_length t0
  have cl0 := tmC_length t0
  have hone : [tmF (z8, r8)] = rowsT ((z8, r8) :: formT rs 0) := rfl
  refine den_of tabOk mixed Tryz.func20 (cd := _) rfl (by decide) rfl (n := 26) rfl rfl (m := 0) rfl ?_
  simp (dsimp := false) (disch := omega) only [List.replicate, fl, fc, c_length, z8_c, List.append_nil, f11, cl0, fzs_tmC, ids_tmC, rules, tys, eq_self, ↓reduceIte, Nat.reduceAdd, Nat.reduceMul, Nat.reduceLT, Nat.reduceLeDiff]
  repeat refine And.intro (by omega) ?_
  refine WA.loop (α := Nat) (fun i => ⟨[.any, .ptr 0 0 0, .any, .lsl 1 0 (i + 1) 11, .int .i64 i] ++ List.replicate 22 .any, [.box true (flat rs), .row true (rowsT ((z8, r8) :: formT rs i))]⟩) (fun i => 8 - i) (fun i => i ≤ 8) 0 ?_ (Nat.zero_le _) ?_
  · refine Weak.keep [0, 1] (by simp) rfl ?_ ?_
    · simp [leVs, leV, le1]
    · simp [leH, leO, le_flat, hone]
  · intro i hi
    have hli : ((z8, r8) :: formT rs i).length = i + 1 := by simp [formT_length]
    have tki := take_rowsT (ts := (z8, r8) :: formT rs i) (n := i + 1) (by omega)
    have rli := rowsT_length ((z8, r8) :: formT rs i)
    rw [hli] at rli
    simp (dsimp := false) (disch := omega) only [List.replicate, rules, tys, eq_self, ↓reduceIte]
    refine Br.dec ?_ ?_
    · intro h1 h2
      have fci := flat_at (rs := rs) (i := i) (by omega)
      have hsn := formT_succ rs i
      obtain ⟨r, hr⟩ : ∃ r, rs.getD i rz = r := ⟨_, rfl⟩
      rw [hr] at fci hsn
      change List.take 3 (List.drop (i * 3) (flat rs)) = r.c at fci
      have hap := rowsT_snoc ((z8, r8) :: formT rs i) (z8.set i 1, r)
      rw [List.cons_append, ← hsn] at hap
      have hput := mC_put (m := z8) (i := i) (x := 1) (by rw [z8_length]; omega)
      have t1 : ((z8.set i 1, r) : RT).1.length = 8 := by simp [z8]
      have m1 : (z8.set i 1).length = 8 := t1
      have ml := mC_length (z8.set i 1)
      rw [m1] at ml
      have ml0 := mC_length z8
      rw [z8_length] at ml0
      have m8 := mC_take m1
      have c11 := tmC_take11 t1
      have f11 := tmF_take11 t1
      have cl := tmC_length t1
      have fl1' := tmF_length t1
      have b1 : List.take 8 (mC (z8.set i 1) ++ [PV.bool false, .nilsl, .nilsl]) = mC (z8.set i 1) := by rw [List.take_append_of_le_length (by omega), m8]
      have b2 : List.drop 11 (mC (z8.set i 1) ++ [PV.bool false, .nilsl, .nilsl]) = [] := List.drop_of_length_le (by simp [ml])
      have b3 : mC (z8.set i 1) ++ r.c = tmC (z8.set i 1, r) := rfl
      have b7 : (mC (z8.set i 1) ++ [PV.bool false, .nilsl, .nilsl]).length = 11 := by simp [ml]
      simp (dsimp := false) (disch := omega) only [h2, z8_m, ml0, hput, Nat.mul_one, Nat.zero_add, rules, tys, eq_self, ↓reduceIte, Nat.reduceAdd, Nat.reduceLT, Nat.reduceLeDiff]
      repeat refine And.intro (by omega) ?_
      refine Draw.intro (by kernel_rfl) ?_
      simp (dsimp := false) (disch := omega) only [m8, ml, fl, fci, c_length, b1, b2, b3, b7, List.append_nil, cl, f11, fzs_tmC, ids_tmC, tki, rli, hap, Nat.zero_add, wrap64, rules, tys, eq_self, ↓reduceIte, Nat.reduceAdd, Nat.reduceMul, Nat.reduceBEq, Nat.reduceLT, Nat.reduceLeDiff]
      repeat refine And.intro (by omega) ?_
      refine Ap_loop (i + 1) (by omega) ?_ (by omega)
      refine Weak.keep [0, 4] (by simp) rfl ?_ ?_
      · simp [leVs, leV, le1]
      · simp [leH, leO, le_flat]
    · intro h1 h2
      have hi8 : i = 8 := by omega
      subst hi8
      change rowsT ((z8, r8) :: formT rs 8) = _ at tki
      have hpS : (z8, r8) :: formT rs 8 = polyS rs := by unfold polyS; rw [hr8]
      rw [hpS]
      simp (dsimp := false) (disch := omega) only [h2, rules, Nat.reduceAdd, Nat.reduceBEq]
      refine GoCall.pure h44 (by simp [fzAs, fzA, fz1, fz0, tk9, pl9]) ?_
      simp (dsimp := false) (disch := omega) only [Ap_end_ret, rules, Nat.reduceAdd]
      refine RetOK.pure rfl ⟨trivial, trivial⟩ rfl
theorem iq66 (r : Raw) (k n : Nat) (hr : r.Ok k) (hk : 1 ≤ k) (hk2 : k * n ≤ 1000000000 ∧ k ≤ 1000000000) (hn : n ≤ 1000000000) : Den Tryz.prog 66 [] [.agg r.c, .int .i64 n] [] (.agg (cn (r.q ^ n)).c) := by
  have h24 := den24 1 (by omega)
  change Den Tryz.prog 32 [] _ [] (.agg (cn ((1 : Int) : Rat)).c) at h24
  obtain ⟨R, hR⟩ : ∃ R, (cn (r.q ^ n)).c = R := ⟨_, rfl⟩
  rw [hR]
  refine den_of tabOk mixed Tryz.func66 (cd := _) rfl (by decide) rfl (n := 15) rfl rfl (m := 0) rfl ?_
  simp (dsimp := false) (disch := omega) only [List.replicate, c_length, rules, tys, eq_self, Nat.reduceLT]
  repeat refine And.intro (by omega) ?_
  refine GoCall.pure h24 rfl ?_
  simp (dsimp := false) (disch := omega) only [c_length, c_reloc, List.append_nil, rules, tys, eq_self, Nat.reduceAdd, Nat.reduceLT, Nat.reduceLeDiff]
  repeat refine And.intro (by omega) ?_
  refine WA.loop (α := Nat) (fun i => ⟨[.any, .int .i64 n, .ptr 0 0 0, .any, .ptr 1 0 0, .ptr 2 0 0, .int .i64 i] ++ List.replicate 10 .any, [.box true r.c, .box true [.bool false, .nilsl, .nilsl], .box true (cn (r.q ^ i)).c]⟩) (fun i => n - i) (fun i => i ≤ n) 0 ?_ (Nat.zero_le _) ?_
  · have h0 : r.q ^ 0 = ((1 : Int) : Rat) := by rw [Rat.pow_zero]; rfl
    rw [h0]
    refine Weak.keep [0, 1, 2] (by simp) rfl ?_ ?_
    · simp [leVs, leV, le1]
    · simp [leH, leO, le_c, le1s, le1]
  · intro i hi
    simp (dsimp := false) (disch := omega) only [List.replicate, rules, tys, eq_self, ↓reduceIte]
    refine Br.dec ?_ ?_
    · intro h1 h2
      have hbi := rat_pow_bd (hr.bd hk) hk i
      have hki : k * i ≤ k * n := Nat.mul_le_mul_left _ hi
      have h32 := den32 (cn (r.q ^ i)) r ((cn_ok hbi).mono (by omega)) (hr.mono (by omega))
      rw [cn_q, ← Rat.pow_succ] at h32
      change Den Tryz.prog 65 [] [.agg (cn (r.q ^ i)).c, .agg r.c] [] (.agg (cn (r.q ^ (i + 1))).c) at h32
      simp (dsimp := false) (disch := omega) only [h2, c_length, c_take, rules, tys, eq_self, ↓reduceIte, Nat.reduceLeDiff]
      repeat refine And.intro (by omega) ?_
      refine GoCall.pure h32 (by simp [fzAs, fzA, fzs_c, f_fv]) ?_
      simp (dsimp := false) (disch := omega) only [ids_c, c_reloc, List.append_nil, c_length, cdrop3, wrap64, rules, tys, eq_self, ↓reduceIte, Nat.reduceAdd, Nat.reduceLT, Nat.reduceLeDiff]
      repeat refine And.intro (by omega) ?_
      refine Ap_loop (i + 1) (by omega) ?_ (by omega)
      refine Weak.keep [0, 1, 2] (by simp) rfl ?_ ?_
      · simp [leVs, leV, le1]
      · simp [leH, leO, le_c, le1s, le1]
    · intro h1 h2
      have hin : i = n := by omega
      subst hin
      rw [hR]
      have hRl : R.length = 3 := by rw [← hR]; rfl
      have hRt : List.take 3 R = R := List.take_of_length_le (by omega)
      simp (dsimp := false) (disch := omega) only [h2, hRl, hRt, List.append_nil, Ap_end_ret, rules, tys, eq_self, ↓reduceIte, Nat.reduceAdd, Nat.reduceBEq, Nat.reduceLT, Nat.reduceLeDiff]
      repeat refine And.intro (by omega) ?_
      refine RetOK.pure rfl ⟨⟨rfl, by rw [hRl]; exact Nat.le_refl 3⟩, trivial⟩ ?_
      rw [← hR]
      rfl
theorem iq22 (p : List Tm) (x : List Rat) (k : Nat) (hp : ∀ t ∈ p, t.1.length = 8 ∧ ∀ e ∈ t.1, 0 ≤ e ∧ e ≤ 1024) (hb : ∀ t ∈ p, Bd k t.2) (hk : 1 ≤ k ∧ k ≤ 100000) (hx : ∀ q ∈ x, Bd 2 q) (_hxl : x.length ≤ 1000) (hn : p.length ≤ 1000) :
    Den Tryz.prog 22 [] [PL (p.map tn), .fv (.sl (rats x))] [] (.agg (cn (valP x p)).c) := by
  have h24 := den24 0 (by omega)
  change Den Tryz.prog 32 [] _ [] (.agg (cn ((0 : Int) : Rat)).c) at h24
  have rl := rowsT_length (p.map tn)
  obtain ⟨n, hnn⟩ : ∃ n, p.length = n := ⟨_, rfl⟩
  rw [List.length_map, hnn] at rl
  rw [hnn] at hn
  have hxr := rats_length x
  obtain ⟨xl, hxll⟩ : ∃ n, x.length = n := ⟨_, rfl⟩
  rw [hxll] at hxr
  have hm1 : ∀ t ∈ p, t.1.length = 8 ∧ ∀ e ∈ t.1, e ≤ 1024 := fun t ht => ⟨(hp t ht).1, fun e he => ((hp t ht).2 e he).2⟩
  obtain ⟨R, hR⟩ : ∃ R, (cn (valP x p)).c = R := ⟨_, rfl⟩
  rw [hR]
  refine den_of tabOk mixed Tryz.func22 (cd := _) rfl (by decide) rfl (n := 48) rfl rfl (m := 0) rfl ?_
  simp (dsimp := false) (disch := omega) only [List.replicate, rules, tys]
  refine GoCall.pure h24 rfl ?_
  simp (dsimp := false) (disch := omega) only [c_length, c_reloc, List.append_nil, rules, tys, eq_self, Nat.reduceAdd, Nat.reduceLT, Nat.reduceLeDiff]
  repeat refine And.intro (by omega) ?_
  refine WA.loop (α := Nat) (fun i => ⟨[PL (p.map tn), .fv (.sl (rats x)), .any, .any, .ptr 0 0 0, .ptr 1 0 0, .int .i64 i] ++ List.replicate 43 .any, [.box true [.bool false, .nilsl, .nilsl], .box true (cn (valP x (p.take i))).c]⟩) (fun i => n - i) (fun i => i ≤ n) 0 ?_ (Nat.zero_le _) ?_
  · have h0 : valP x (p.take 0) = ((0 : Int) : Rat) := rfl
    rw [h0]
    refine Weak.keep [0, 1] (by simp) rfl ?_ ?_
    · simp [leVs, leV, le1]
    · simp [leH, leO, le_c, le1s, le1]
  · intro i hi
    simp (dsimp := false) (disch := omega) only [List.replicate, rl, rules, tys, eq_self, ↓reduceIte]
    refine Br.dec ?_ ?_
    · intro h1 h2
      have hip : i < p.length := by omega
      have r1 := rowsT_getD (ts := p.map tn) (i := i) (by rw [List.length_map]; omega)
      have hxe : (p.map tn).getD i rt0 = tn p[i] := by
        rw [List.getD_eq_getElem?_getD, List.getElem?_map, List.getElem?_eq_getElem hip]
        rfl
      rw [hxe] at r1
      obtain ⟨hm, hrg⟩ := hp p[i] (by simp)
      have hbi := hb p[i] (by simp)
      have hvt := valP_take (x := x) hip
      have hvb := valP_bd hk.1 hx hm1 hb i (by omega)
      have hmul : i * (k + 16394) ≤ 1000 * 116394 := Nat.mul_le_mul (by omega) (by omega)
      obtain ⟨t, ht⟩ : ∃ t, p[i] = t := ⟨_, rfl⟩
      rw [ht] at r1 hm hrg hbi hvt
      have hm' : (tn t).1.length = 8 := hm
      have fl := tmF_length hm'
      have fd := tmF_drop8 hm'
      have hc0 : (tn t).2.f.map .fv = (cn t.2).c := rfl
      simp (dsimp := false) (disch := omega) only [h2, r1, rl, fl, fd, hc0, f_take, f_length, c_length, List.append_nil, rules, tys, eq_self, ↓reduceIte, Nat.reduceAdd, Nat.reduceLT, Nat.reduceLeDiff]
      repeat refine And.intro (by omega) ?_
      refine WA.loop (α := Nat) (fun v => ⟨[PL (p.map tn), .fv (.sl (rats x)), .any, .any, .ptr 0 0 0, .ptr 1 0 0, .int .i64 i, .ptr 2 0 0, .int .i64 v] ++ List.replicate 41 .any, [.box true [.bool false, .nilsl, .nilsl], .box true (cn (valP x (p.take i))).c, .box true (cn (t.2 * monoV (t.1.take v) x)).c]⟩) (fun v => 8 - v) (fun v => v ≤ 8) 0 ?_ (Nat.zero_le _) ?_
      · have h0 : t.2 * monoV (t.1.take 0) x = t.2 := by
          simp only [List.take_zero, monoV]; grind
        rw [h0]
        refine Weak.keep [0, 1, 2] (by simp) rfl ?_ ?_
        · simp [leVs, leV, le1]
        · simp [leH, leO, le_c, le1s, le1]
      · intro v hv
        simp (dsimp := false) (disch := omega) only [List.replicate, rules, tys, eq_self, ↓reduceIte]
        refine Br.dec ?_ ?_
        · intro h3 h4
          have tat := tmF_at (t := tn t) (i := v) (by omega) hm'
          have hege : 0 ≤ t.1.getD v 0 ∧ t.1.getD v 0 ≤ 1024 := hrg _ (by rw [List.getD_eq_getElem?_getD, List.getElem?_eq_getElem (by omega)]; simp)
          have hmt := monoV_take t.1 x v (by omega)
          have hmb := monoV_bd hx (fun e he => (hrg e he).2) v (by omega)
          change List.take 1 (List.drop v (tmF (tn t))) = [FV.lit (Value.int .i64 (t.1.getD v 0))] at tat
          obtain ⟨e, he⟩ : ∃ e : Nat, t.1.getD v 0 = (e : Int) := ⟨(t.1.getD v 0).toNat, by omega⟩
          have hte : (t.1.getD v 0).toNat = e := by omega
          rw [hte] at hmt
          rw [he] at tat hege
          have hb1 : Bd (k + (v * 2049 + 1)) (t.2 * monoV (t.1.take v) x) := Bd.mul hbi hmb (by omega)
          have hassoc : t.2 * monoV (t.1.take v) x * x.getD v 0 ^ e = t.2 * monoV (t.1.take (v + 1)) x := by rw [hmt]; grind
          by_cases hvx : v < xl
          · have hd1 : decide ((v : Int) < (xl : Int)) = true := decide_eq_true (by omega)
            have rg : (rats x).getD v [] = (cn (x.getD v 0)).f := by
              unfold rats
              rw [List.getD_eq_getElem?_getD, List.getElem?_map, List.getD_eq_getElem?_getD, List.getElem?_eq_getElem (by omega)]
              rfl
            have hby : Bd 2 (x.getD v 0) := by
              rw [List.getD_eq_getElem?_getD, List.getElem?_eq_getElem (by omega)]
              exact hx _ (by simp)
            obtain ⟨y, hy⟩ : ∃ y, x.getD v 0 = y := ⟨_, rfl⟩
            rw [hy] at rg hby hassoc
            have hpw := iq66 (cn y) 2 e (cn_ok hby) (by omega) (by omega) (by omega)
            rw [cn_q] at hpw
            have hpb := rat_pow_bd hby (by decide) e
            have h32 := den32 (cn (t.2 * monoV (t.1.take v) x)) (cn (y ^ e)) ((cn_ok hb1).mono (by omega)) ((cn_ok hpb).mono (by omega))
            rw [cn_q, cn_q, hassoc] at h32
            change Den Tryz.prog 65 [] [.agg (cn (t.2 * monoV (t.1.take v) x)).c, .agg (cn (y ^ e)).c] [] (.agg (cn (t.2 * monoV (t.1.take (v + 1)) x)).c) at h32
            simp (dsimp := false) (disch := omega) only [h4, hxr, hd1, rg, f_take, f_length, f_fv, c_length, List.append_nil, rules, tys, eq_self, ↓reduceIte, Nat.reduceAdd, Nat.reduceLT, Nat.reduceLeDiff]
            repeat refine And.intro (by omega) ?_
            refine Draw.intro (by kernel_rfl) ?_
            simp (dsimp := false) (disch := omega) only [r1, rl, fl, tat, c_length, c_take, Nat.mul_one, Nat.zero_add, List.drop_zero, List.length_drop, rules, tys, eq_self, ↓reduceIte, Nat.reduceLT, Nat.reduceLeDiff]
            repeat refine And.intro (by omega) ?_
            refine GoCall.pure hpw (by simp [fzAs, fzA, fzs_c, f_fv, fz0, fz1]) ?_
            simp (dsimp := false) (disch := omega) only [ids_c, c_reloc, List.append_nil, rules, Nat.reduceAdd]
            repeat refine And.intro (by omega) ?_
            refine GoCall.pure h32 (by simp [fzAs, fzA, fzs_c, f_fv]) ?_
            simp (dsimp := false) (disch := omega) only [ids_c, c_reloc, List.append_nil, c_length, cdrop3, wrap64, rules, tys, eq_self, ↓reduceIte, Nat.reduceAdd, Nat.reduceLT, Nat.reduceLeDiff]
            repeat refine And.intro (by omega) ?_
            refine Ap_loop (v + 1) (by omega) ?_ (by omega)
            refine Weak.keep [0, 1, 2] (by simp) rfl ?_ ?_
            · simp [leVs, leV, le1]
            · simp [leH, leO, le_c, le1s, le1]
          · have hd1 : decide ((v : Int) < (xl : Int)) = false := decide_eq_false (by omega)
            have hy0 : x.getD v 0 = rz.q := by
              rw [rz_q', List.getD_eq_getElem?_getD, List.getElem?_eq_none (by omega)]
              rfl
            rw [hy0] at hassoc
            have hpw := iq66 rz 2 e (rz_okk 2) (by omega) (by omega) (by omega)
            have hpb := rat_pow_bd (show Bd 2 rz.q by rw [rz_q']; exact Bd.zero (by decide)) (by decide) e
            have h32 := den32 (cn (t.2 * monoV (t.1.take v) x)) (cn (rz.q ^ e)) ((cn_ok hb1).mono (by omega)) ((cn_ok hpb).mono (by omega))
            rw [cn_q, cn_q, hassoc] at h32
            change Den Tryz.prog 65 [] [.agg (cn (t.2 * monoV (t.1.take v) x)).c, .agg (cn (rz.q ^ e)).c] [] (.agg (cn (t.2 * monoV (t.1.take (v + 1)) x)).c) at h32
            simp (dsimp := false) (disch := omega) only [h4, hxr, hd1, rules, tys, eq_self, ↓reduceIte, Nat.reduceAdd, Nat.reduceLT, Nat.reduceLeDiff]
            refine Draw.intro (by kernel_rfl) ?_
            simp (dsimp := false) (disch := omega) only [r1, rl, fl, tat, c_length, c_take, Nat.mul_one, Nat.zero_add, List.drop_zero, List.length_drop, rules, tys, eq_self, ↓reduceIte, Nat.reduceAdd, Nat.reduceLT, Nat.reduceLeDiff]
            repeat refine And.intro (by omega) ?_
            refine GoCall.pure hpw (by simp [fzAs, fzA, fzs, fz0, fz1] <;> rfl) ?_
            simp (dsimp := false) (disch := omega) only [c_reloc, List.append_nil, rules, Nat.reduceAdd]
            repeat refine And.intro (by omega) ?_
            refine GoCall.pure h32 (by simp [fzAs, fzA, fzs_c, f_fv]) ?_
            simp (dsimp := false) (disch := omega) only [ids_c, c_reloc, List.append_nil, c_length, cdrop3, wrap64, rules, tys, eq_self, ↓reduceIte, Nat.reduceAdd, Nat.reduceLT, Nat.reduceLeDiff]
            repeat refine And.intro (by omega) ?_
            refine Ap_loop (v + 1) (by omega) ?_ (by omega)
            refine Weak.keep [0, 1, 2] (by simp) rfl ?_ ?_
            · simp [leVs, leV, le1]
            · simp [leH, leO, le_c, le1s, le1]
        · intro h3 h4
          have hv8 : t.1.take v = t.1 := List.take_of_length_le (by omega)
          rw [hv8]
          have hvv : i + 1 ≤ n := by omega
          have hmb8 := monoV_bd hx (fun e he => (hrg e he).2) 8 (by omega)
          rw [List.take_of_length_le (by omega)] at hmb8
          have hb2 : Bd (k + (8 * 2049 + 1)) (t.2 * monoV t.1 x) := Bd.mul hbi hmb8 (by omega)
          have h31 := den31 (cn (valP x (p.take i))) (cn (t.2 * monoV t.1 x)) ((cn_ok hvb).mono (by omega)) ((cn_ok hb2).mono (by omega))
          rw [cn_q, cn_q, ← hvt] at h31
          change Den Tryz.prog 67 [] [.agg (cn (valP x (p.take i))).c, .agg (cn (t.2 * monoV t.1 x)).c] [] (.agg (cn (valP x (p.take (i + 1)))).c) at h31
          simp (dsimp := false) (disch := omega) only [h4, c_length, c_take, rules, tys, eq_self, ↓reduceIte, Nat.reduceBEq, Nat.reduceLeDiff]
          repeat refine And.intro (by omega) ?_
          refine GoCall.pure h31 (by simp [fzAs, fzA, fzs_c, f_fv]) ?_
          simp (dsimp := false) (disch := omega) only [ids_c, c_reloc, List.append_nil, c_length, cdrop3, wrap64, rules, tys, eq_self, ↓reduceIte, Nat.reduceAdd, Nat.reduceLT, Nat.reduceLeDiff]
          repeat refine And.intro (by omega) ?_
          refine Ap_loop (i + 1) (by omega) ?_ (by omega)
          refine Weak.keep [0, 1] (by simp) rfl ?_ ?_
          · simp [leVs, leV, le1]
          · simp [leH, leO, le_c, le1s, le1]
    · intro h1 h2
      have hTT : p.take i = p := List.take_of_length_le (by omega)
      rw [hTT, hR]
      have hRl : R.length = 3 := by rw [← hR]; rfl
      have hRt : List.take 3 R = R := List.take_of_length_le (by omega)
      simp (dsimp := false) (disch := omega) only [h2, hRl, hRt, List.append_nil, Ap_end_ret, rules, tys, eq_self, ↓reduceIte, Nat.reduceAdd, Nat.reduceBEq, Nat.reduceLT, Nat.reduceLeDiff]
      repeat refine And.intro (by omega) ?_
      refine RetOK.pure rfl ⟨⟨rfl, by rw [hRl]; exact Nat.le_refl 3⟩, trivial⟩ ?_
      rw [← hR]
      rfl
end Go.Proofs.YtjjbkjgifdhlcaaGreat

namespace Go.Proofs.YtjjbkjgifdhlcaaGreat
open Go.AM Go.Pl
set_option maxRecDepth 100000
set_option maxHeartbeats 4000000

theorem monoV_zero : ∀ (n : Nat) (x : List Rat), monoV (List.replicate n 0) x = 1
  | 0, _ => rfl
  | n + 1, [] => by
    rw [List.replicate_succ, monoV, monoV_zero n]
    have : ((0 : Int)).toNat = 0 := rfl
    rw [this, Rat.pow_zero]; grind
  | n + 1, y :: x => by
    rw [List.replicate_succ, monoV, monoV_zero n]
    have : ((0 : Int)).toNat = 0 := rfl
    rw [this, Rat.pow_zero]; grind
theorem monoV_unit : ∀ (n j : Nat) (x : List Rat), j < n → monoV ((List.replicate n 0).set j 1) x = x.getD j 0
  | n + 1, 0, [], _ => by
    rw [List.replicate_succ, List.set_cons_zero, monoV, monoV_zero n]
    have : ((1 : Int)).toNat = 1 := rfl
    rw [this]
    show (0 : Rat) ^ 1 * 1 = 0
    rw [Rat.pow_succ, Rat.pow_zero]; grind
  | n + 1, 0, y :: x, _ => by
    rw [List.replicate_succ, List.set_cons_zero, monoV, monoV_zero n]
    have : ((1 : Int)).toNat = 1 := rfl
    rw [this, Rat.pow_succ, Rat.pow_zero]
    show 1 * y * 1 = y
    grind
  | n + 1, j + 1, [], h => by
    rw [List.replicate_succ, List.set_cons_succ, monoV, monoV_unit n j [] (by omega)]
    have : ((0 : Int)).toNat = 0 := rfl
    rw [this, Rat.pow_zero]
    have h1 : ∀ v, ([] : List Rat).getD v 0 = 0 := fun v => by simp
    rw [h1, h1]; grind
  | n + 1, j + 1, y :: x, h => by
    rw [List.replicate_succ, List.set_cons_succ, monoV, monoV_unit n j x (by omega)]
    have : ((0 : Int)).toNat = 0 := rfl
    rw [this, Rat.pow_zero, List.getD_cons_succ]; grind
  | 0, _, _, h => by omega
theorem form_val (rs : List Raw) (x : List Rat) : ∀ i, i ≤ 8 → (rs.getD 8 rz).q + valP x ((formT rs i).map tq) = evalN rs x i
  | 0, _ => by simp only [formT, List.range_zero, List.map_nil, valP, evalN]; grind
  | i + 1, h => by
    have ih := form_val rs x i (by omega)
    have hm : monoV (z8.set i 1) x = x.getD i 0 := monoV_unit 8 i x (by omega)
    rw [formT_succ, List.map_append, valP_append, evalN, ← ih]
    show _ + (_ + ((rs.getD i rz).q * monoV (z8.set i 1) x + 0)) = _
    rw [hm]; grind
theorem poly_val (rs : List Raw) (x : List Rat) : valP x (polyT rs) = evalN rs x 8 := by
  unfold polyT
  rw [valP_nf, ← form_val rs x 8 (Nat.le_refl _)]
  unfold polyR
  rw [List.map_append, valP_append]
  have hm : monoV z8 x = 1 := monoV_zero 8 x
  show _ + ((rs.getD 8 rz).q * monoV z8 x + 0) = _
  rw [hm]; grind
theorem polyT_mem {rs : List Raw} {t : Tm} (h : t ∈ polyT rs) : t.1.length = 8 ∧ ∀ e ∈ t.1, 0 ≤ e ∧ e ≤ 1024 := by
  obtain ⟨u, hu, he⟩ := nf_keys h
  obtain ⟨w, hw, rfl⟩ := List.mem_map.1 hu
  rw [← he]
  show w.1.length = 8 ∧ ∀ e ∈ w.1, 0 ≤ e ∧ e ≤ 1024
  have hv := polyR_valid rs
  unfold validB at hv
  rw [List.all_eq_true] at hv
  have h1 := hv w hw
  unfold validM at h1
  rw [List.all_eq_true] at h1
  refine ⟨?_, fun e he2 => by simpa using h1 e he2⟩
  unfold polyR at hw
  rcases List.mem_append.1 hw with hw | hw
  · obtain ⟨j, _, rfl⟩ := List.mem_map.1 hw
    simp [z8]
  · rw [List.mem_singleton] at hw
    rw [hw]; rfl
theorem polyT_bd {rs : List Raw} {k : Nat} (h : LOk k rs) (hk : 1 ≤ k) : PB (9 * (k + 1) + 1) (polyT rs) := by
  have := (PB.list hk (ts := (polyR rs).map tq) (fun t ht => by
    obtain ⟨u, hu, rfl⟩ := List.mem_map.1 ht
    exact (polyR_ok h u hu).raw.bd hk)).nf
  rw [List.length_map, polyR_length] at this
  exact this
theorem polyT_len (rs : List Raw) : (polyT rs).length ≤ 9 := by
  have := nf_len ((polyR rs).map tq)
  rw [List.length_map, polyR_length] at this
  exact this
theorem tn_ok {p : List Tm} {k : Nat} (h8 : ∀ t ∈ p, t.1.length = 8 ∧ ∀ e ∈ t.1, 0 ≤ e ∧ e ≤ 1024) (hb : ∀ t ∈ p, Bd k t.2) : TsOk k (p.map tn) := fun t ht => by
  obtain ⟨u, hu, rfl⟩ := List.mem_map.1 ht
  exact ⟨(h8 u hu).1, fun x hx => by have := (h8 u hu).2 x hx; omega, cn_ok (hb u hu)⟩

theorem iq3 (l : List Int) (hl : l.length < 9223372036854775808) (hw : W64 l) : Den Tryz.prog 3 [] [.fv (.sl (ints l))] [] (.bool true) := by
  have h10 := den10 l hl
  have hwt : W64 (l.take 1000) := fun x hx => hw x (List.mem_of_mem_take hx)
  have hxl : (l.take 1000).length ≤ 1000 := by rw [List.length_take]; omega
  obtain ⟨xs, hxs⟩ : ∃ t, l.take 1000 = t := ⟨_, rfl⟩
  rw [hxs] at h10 hwt hxl
  have h9 := den9 xs 0 hxl (Nat.zero_le _) hwt
  have hc := S_closed xs 0
  have hok := looseF_ok xs 0
  have ha1 := looseF_le (xs := xs) (a := 0) (Nat.zero_le _)
  obtain ⟨⟨rs, a1⟩, hr⟩ : ∃ t, looseF xs 0 = t := ⟨_, rfl⟩
  rw [hr] at h9 hok ha1
  dsimp only at h9 hok ha1
  have c1 := S_closed xs a1
  have h27 := den27 xs a1 8 hxl ha1 hwt (Nat.le_refl _)
  have hpl := pointF_length xs 8 a1
  have hpb := pointF_bd xs 8 a1
  obtain ⟨x, hx⟩ : ∃ x, pointF xs 8 a1 = x := ⟨_, rfl⟩
  rw [hx] at h27 hpl hpb
  have hlen := hok.len
  have hfl : (flat rs).length = 27 := by rw [flat_length]; omega
  have h18 := iq18 rs (hok.mono (by decide))
  have h20 := iq20 rs (hok.mono (by decide))
  have hPB := (polyT_bd hok (by decide)).bd (by decide)
  have hP8 : ∀ t ∈ polyT rs, t.1.length = 8 ∧ ∀ e ∈ t.1, 0 ≤ e ∧ e ≤ 1024 := fun t ht => polyT_mem ht
  have hpln := polyT_len rs
  have hts := tn_ok (k := 9*(4+1)+1) hP8 (fun t ht => hPB t ht)
  have h19 := iq19 ((polyT rs).map tn) (fun t ht => (hts t ht).mono (by decide)) (by rw [List.length_map]; omega)
  have h22 := iq22 (polyT rs) x _ hP8 hPB (by decide) hpb (by omega) (by omega)
  have h28 := den28 rs x (hok.mono (by decide)) hpb hpl
  have hev := evalN_bd hok (by decide) hpb hpl 8 (Nat.le_refl _)
  rw [poly_val] at h22
  have h29 := den29 (cn (evalN rs x 8)) (cn (evalN rs x 8)) ((cn_ok hev).mono (by decide)) ((cn_ok hev).mono (by decide))
  rw [cn_q, show evalN rs x 8 - evalN rs x 8 = 0 by grind] at h29
  have hs0 : sgq 0 = 0 := rfl
  rw [hs0] at h29
  change Den Tryz.prog 21 [] [.agg (cn (evalN rs x 8)).c, .agg (cn (evalN rs x 8)).c] [] _ at h29
  change Den Tryz.prog 23 [] [RL rs, .fv (.sl (rats x))] [] (.agg (cn (evalN rs x 8)).c) at h28
  have h14 := den14
  have h00 : ((0 : Int) == 0) = true := rfl
  obtain ⟨P, hP⟩ : ∃ P, (polyT rs).map tn = P := ⟨_, rfl⟩
  rw [hP] at h18 h20 h19 h22
  obtain ⟨y, hy⟩ : ∃ y, cn (evalN rs x 8) = y := ⟨_, rfl⟩
  rw [hy] at h22 h28 h29
  unfold RL at h9 h18 h20 h28
  unfold S at h9 h10 h27 hc c1
  have tk := flat_take27 hlen
  refine den_of tabOk mixed Tryz.func3 (cd := _) rfl (by decide) rfl (n := 31) rfl rfl (m := 0) rfl ?_
  simp (dsimp := false) (disch := omega) only [List.replicate, rules]
  refine GoCall.pure h10 rfl ?_
  simp (dsimp := false) (disch := omega) only [List.append_nil, rules]
  refine GoCall.lend 0 h9 rfl rfl hc rfl rfl rfl ?_
  simp (dsimp := false) (disch := omega) only [sh1, List.append_nil, flat_reloc, rules]
  refine GoCall.lend 0 h27 rfl rfl c1 rfl rfl rfl ?_
  simp (dsimp := false) (disch := omega) only [sh2, List.append_nil, hfl, tk, List.append_nil, rules, tys, eq_self, ↓reduceIte, Nat.reduceAdd, Nat.reduceMul, Nat.reduceLT, Nat.reduceLeDiff]
  repeat refine And.intro (by omega) ?_
  refine GoCall.pure h18 (by simp [fzAs, fzA, flat_fz, flatF_fv]) ?_
  simp (dsimp := false) (disch := omega) only [flat_ids, List.append_nil, rules, Nat.reduceAdd]
  refine Draw.intro (by kernel_rfl) ?_
  simp (dsimp := false) (disch := omega) only [tk, hfl, rules, tys, eq_self, ↓reduceIte, Nat.reduceLeDiff]
  repeat refine And.intro (by omega) ?_
  refine GoCall.pure h20 (by simp [fzAs, fzA, flat_fz, flatF_fv]) ?_
  simp (dsimp := false) (disch := omega) only [flat_ids, List.append_nil, rules, Nat.reduceAdd]
  refine GoCall.pure h19 rfl ?_
  simp (dsimp := false) (disch := omega) only [List.append_nil, rules, Nat.reduceAdd]
  refine GoCall.pure h22 rfl ?_
  simp (dsimp := false) (disch := omega) only [List.append_nil, tk, hfl, c_reloc, rules, tys, eq_self, ↓reduceIte, Nat.reduceAdd, Nat.reduceLeDiff]
  repeat refine And.intro (by omega) ?_
  refine GoCall.pure h28 (by simp [fzAs, fzA, flat_fz, flatF_fv, fz1, fz0]) ?_
  simp (dsimp := false) (disch := omega) only [flat_ids, List.append_nil, c_reloc, rules, Nat.reduceAdd]
  refine GoCall.pure h29 (by simp [fzAs, fzA, fzs_c, f_fv]) ?_
  simp (dsimp := false) (disch := omega) only [List.append_nil, h00, ids_c, rules, tys, eq_self, ↓reduceIte, Nat.reduceAdd]
  refine GoCall.pure h14 rfl ?_
  simp (dsimp := false) (disch := omega) only [List.append_nil, Ap_end_ret, rules, eq_self, ↓reduceIte, Nat.reduceAdd]
  exact RetOK.pure rfl ⟨trivial, trivial⟩ rfl
end Go.Proofs.YtjjbkjgifdhlcaaGreat
