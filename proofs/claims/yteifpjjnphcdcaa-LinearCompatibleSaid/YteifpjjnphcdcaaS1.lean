/- Contracts: the reader of numbers: Raw, N. -/
import Derived.Test.YteifpjjnphcdcaaL2

namespace Go.Proofs.Yteifpjjnphcdcaa
open Go.AM Go.Pl
set_option maxRecDepth 100000
set_option maxHeartbeats 2000000

def ints (xs : List Int) : List (List FV) := xs.map (fun n => [FV.lit (Value.int .i64 n)])
theorem ints_length (xs : List Int) : (ints xs).length = xs.length := by simp [ints]
theorem ints_getD {xs : List Int} {i : Nat} (h : i < xs.length) : (ints xs).getD i [] = [FV.lit (Value.int .i64 (xs.getD i 0))] := by
  simp [ints, List.getD_eq_getElem?_getD, h]
/-- The reader of numbers. -/
def S (xs : List Int) (a : Nat) : Ob := .box true [.fv (.sl (ints xs)), .int .i64 a, .int .i64 0]
def nx (xs : List Int) (a : Nat) : Nat := if a < xs.length then a + 1 else a
theorem S_closed (xs : List Int) (a : Nat) : (S xs a).closed := by
  intro c hc
  simp only [List.mem_cons, List.not_mem_nil, or_false] at hc
  rcases hc with h | h | h <;> exact ⟨_, h⟩
/-- The numbers are words. -/
def W64 (xs : List Int) : Prop := ∀ x ∈ xs, -9223372036854775808 ≤ x ∧ x < 9223372036854775808
theorem W64.at {xs : List Int} (h : W64 xs) (a : Nat) : -9223372036854775808 ≤ xs.getD a 0 ∧ xs.getD a 0 < 9223372036854775808 := by
  by_cases ha : a < xs.length
  · rw [List.getD_eq_getElem?_getD, List.getElem?_eq_getElem ha]
    exact h _ (List.getElem_mem ha)
  · rw [List.getD_eq_getElem?_getD, List.getElem?_eq_none (by omega)]
    simp

theorem sh1 (o : Ob) (l : List Ob) : shutBs (o :: l) 0 [.ptr 0 0 0] = o :: l := rfl
theorem sh2 (o : Ob) (l : List Ob) (v : FV) : shutBs (o :: l) 0 [.ptr 0 0 0, .fv v] = o :: l := rfl
theorem sh3 (o : Ob) (l : List Ob) (v u : FV) : shutBs (o :: l) 0 [.ptr 0 0 0, .fv v, .fv u] = o :: l := rfl
theorem tmod_emod (x : Int) (n : Int) (hn : 0 < n) : (x.tmod n < 0 → x.tmod n + n = x % n) ∧ (¬ x.tmod n < 0 → x.tmod n = x % n) := by
  have h1 := Int.mul_tdiv_add_tmod x n
  have h2 := Int.tmod_lt_of_pos x hn
  have h3 := Int.lt_tmod_of_pos x hn
  have h4 : x % n = x.tmod n % n := by
    conv => lhs; rw [← h1]
    rw [Int.add_comm, Int.add_mul_emod_self_left]
  rw [h4]
  generalize x.tmod n = t at *
  constructor
  · intro h
    rw [← Int.add_emod_right, Int.emod_eq_of_lt (by omega) (by omega)]
  · intro h
    rw [Int.emod_eq_of_lt (by omega) (by omega)]

theorem den50 (xs : List Int) (a : Nat) (hl : xs.length ≤ 1000) (ha : a ≤ xs.length) : Den Try.prog 50 [S xs a] [.ptr 0 0 0] [S xs (nx xs a)] (.int .i64 (xs.getD a 0)) := by
  have hil := ints_length xs
  unfold S nx
  by_cases h : a < xs.length
  · have hg := ints_getD h
    have h1 : decide ((a : Int) ≥ (xs.length : Int)) = false := decide_eq_false (by omega)
    have e1 : ((a : Int) + 1 - 1) = (a : Int) := by omega
    have e2 : (a : Int) + 1 = ((a + 1 : Nat) : Int) := by omega
    have e3 : ((a + 1 : Nat) : Int) - 1 = (a : Int) := by omega
    rw [if_pos h]
    refine den_of tabOk mixed Try.func50 (cd := _) rfl (by decide) rfl (n := 30) rfl rfl (m := 1) rfl ?_
    simp (dsimp := false) (disch := omega) only [List.replicate, rules]
    refine Draw.intro (by kernel_rfl) ?_
    simp (dsimp := false) (disch := omega) only [hil, h1, wrap64, rules, tys, eq_self, ↓reduceIte, Nat.reduceAdd, Nat.reduceLT, Nat.reduceLeDiff]
    refine Draw.intro (by kernel_rfl) ?_
    simp (dsimp := false) (disch := omega) only [hil, e2, e3, hg, wrap64, Ap_end_ret, rules, tys, eq_self, ↓reduceIte, Nat.reduceAdd, Nat.reduceLT, Nat.reduceLeDiff]
    refine ⟨by omega, ?_⟩
    refine RetOK.lentB rfl ⟨trivial, trivial⟩ rfl (S_closed xs (a + 1)) rfl rfl rfl
  · have h1 : decide ((a : Int) ≥ (xs.length : Int)) = true := decide_eq_true (by omega)
    have h0 : xs.getD a 0 = 0 := by rw [List.getD_eq_getElem?_getD, List.getElem?_eq_none (by omega)]; rfl
    rw [if_neg h, h0]
    refine den_of tabOk mixed Try.func50 (cd := _) rfl (by decide) rfl (n := 30) rfl rfl (m := 1) rfl ?_
    simp (dsimp := false) (disch := omega) only [List.replicate, rules]
    refine Draw.intro (by kernel_rfl) ?_
    simp (dsimp := false) (disch := omega) only [hil, h1, Ap_end_ret, rules, tys, eq_self, ↓reduceIte, Nat.reduceAdd, Nat.reduceLeDiff]
    refine RetOK.lentB rfl ⟨trivial, trivial⟩ rfl (S_closed xs a) rfl rfl rfl

theorem den20 (xs : List Int) (a : Nat) (n : Nat) (hl : xs.length ≤ 1000) (ha : a ≤ xs.length) (hw : W64 xs) (hn : 1 ≤ n) (hn2 : n < 1000000) : Den Try.prog 20 [S xs a] [.ptr 0 0 0, .int .i64 n] [S xs (nx xs a)] (.int .i64 (xs.getD a 0 % n)) := by
  have h50 := den50 xs a hl ha
  have hx := hw.at a
  obtain ⟨x, hx2⟩ : ∃ x, xs.getD a 0 = x := ⟨_, rfl⟩
  rw [hx2] at h50 hx ⊢
  have hc := S_closed xs a
  have h1 : decide ((n : Int) < 1) = false := decide_eq_false (by omega)
  unfold S at h50 hc ⊢
  refine den_of tabOk mixed Try.func20 (cd := _) rfl (by decide) rfl (n := 16) rfl rfl (m := 1) rfl ?_
  simp (dsimp := false) (disch := omega) only [List.replicate, h1, rules, tys, eq_self, ↓reduceIte]
  refine GoCall.lend 0 h50 rfl rfl hc rfl rfl rfl ?_
  have htm := tmod_emod x (n : Int) (by omega)
  have hb := Int.lt_tmod_of_pos x (show (0 : Int) < n by omega)
  simp (dsimp := false) (disch := omega) only [sh1, List.append_nil, rules, tys, eq_self, ↓reduceIte]
  refine ⟨by omega, Br.dec ?_ ?_⟩
  · intro h3 h4
    rw [← htm.1 h3]
    generalize x.tmod (n : Int) = t at *
    simp (dsimp := false) (disch := omega) only [h4, wrap64, Ap_end_ret, rules, tys, eq_self, ↓reduceIte]
    refine RetOK.lentB rfl ⟨trivial, trivial⟩ rfl (S_closed xs _) rfl rfl rfl
  · intro h3 h4
    rw [← htm.2 h3]
    generalize x.tmod (n : Int) = t at *
    simp (dsimp := false) (disch := omega) only [h4, Ap_end_ret, rules]
    refine RetOK.lentB rfl ⟨trivial, trivial⟩ rfl (S_closed xs _) rfl rfl rfl

end Go.Proofs.Yteifpjjnphcdcaa

/- Contracts: the reader of numbers: Range, Pick, Rat. -/
namespace Go.Proofs.Yteifpjjnphcdcaa
open Go.AM Go.Pl
set_option maxRecDepth 100000
set_option maxHeartbeats 2000000

theorem nx_le {xs : List Int} {a : Nat} (h : a ≤ xs.length) : nx xs a ≤ xs.length := by unfold nx; split <;> omega
/-- The next number below n. -/
def nN (xs : List Int) (a n : Nat) : Nat := (xs.getD a 0 % n).toNat
theorem nN_cast {xs : List Int} {a n : Nat} (hn : 1 ≤ n) : xs.getD a 0 % (n : Int) = (nN xs a n : Int) := by
  unfold nN
  have := Int.emod_nonneg (xs.getD a 0) (show (n : Int) ≠ 0 by omega)
  omega
theorem nN_lt {xs : List Int} {a n : Nat} (hn : 1 ≤ n) : nN xs a n < n := by
  have h := nN_cast (xs := xs) (a := a) hn
  have := Int.emod_lt_of_pos (xs.getD a 0) (show (0 : Int) < n by omega)
  omega

theorem denN (xs : List Int) (a n : Nat) (hl : xs.length ≤ 1000) (ha : a ≤ xs.length) (hw : W64 xs) (hn : 1 ≤ n) (hn2 : n < 1000000) : Den Try.prog 20 [S xs a] [.ptr 0 0 0, .int .i64 n] [S xs (nx xs a)] (.int .i64 (nN xs a n)) := by
  have h := den20 xs a n hl ha hw hn hn2
  rw [nN_cast hn] at h
  exact h

theorem den60 (xs : List Int) (a : Nat) (lo hi : Int) (n : Nat) (hl : xs.length ≤ 1000) (ha : a ≤ xs.length) (hw : W64 xs) (hn : hi - lo + 1 = n) (hn1 : 1 ≤ n) (hn2 : n < 1000000) (hlo : -1000000 < lo) (hhi : lo < 1000000) :
    Den Try.prog 60 [S xs a] [.ptr 0 0 0, .int .i64 lo, .int .i64 hi] [S xs (nx xs a)] (.int .i64 (lo + nN xs a n)) := by
  have h := denN xs a n hl ha hw hn1 hn2
  have hc := S_closed xs a
  have hlt := nN_lt (xs := xs) (a := a) hn1
  generalize nN xs a n = m at *
  unfold S at h hc ⊢
  refine den_of tabOk mixed Try.func60 (cd := _) rfl (by decide) rfl (n := 12) rfl rfl (m := 1) rfl ?_
  simp (dsimp := false) (disch := omega) only [List.replicate, hn, wrap64, rules, tys, eq_self, ↓reduceIte]
  refine GoCall.lend 0 h rfl rfl hc rfl rfl rfl ?_
  simp (dsimp := false) (disch := omega) only [sh2, List.append_nil, wrap64, Ap_end_ret, rules, tys, eq_self, ↓reduceIte]
  refine RetOK.lentB rfl ⟨trivial, trivial⟩ rfl (S_closed xs _) rfl rfl rfl

theorem den82 (xs : List Int) (a : Nat) (l : List Int) (hl : xs.length ≤ 1000) (ha : a ≤ xs.length) (hw : W64 xs) (hn1 : 1 ≤ l.length) (hn2 : l.length < 1000) :
    Den Try.prog 82 [S xs a] [.ptr 0 0 0, .fv (.sl (ints l))] [S xs (nx xs a)] (.int .i64 (l.getD (nN xs a l.length) 0)) := by
  have h := denN xs a l.length hl ha hw hn1 (by omega)
  have hc := S_closed xs a
  have hlt := nN_lt (xs := xs) (a := a) hn1
  have hil := ints_length l
  have hg := ints_getD (xs := l) hlt
  obtain ⟨m, hm⟩ : ∃ m, nN xs a l.length = m := ⟨_, rfl⟩
  rw [hm] at h hlt hg ⊢
  unfold S at h hc ⊢
  refine den_of tabOk mixed Try.func82 (cd := _) rfl (by decide) rfl (n := 10) rfl rfl (m := 1) rfl ?_
  simp (dsimp := false) (disch := omega) only [List.replicate, hil, rules, tys]
  refine GoCall.lend 0 h rfl rfl hc rfl rfl rfl ?_
  simp (dsimp := false) (disch := omega) only [sh2, List.append_nil, hg, hil, Ap_end_ret, rules, tys, eq_self, ↓reduceIte, Nat.reduceLT, Nat.reduceLeDiff]
  repeat refine And.intro (by omega) ?_
  refine RetOK.lentB rfl ⟨trivial, trivial⟩ rfl (S_closed xs _) rfl rfl rfl

/-- A small fraction. -/
def ratR (xs : List Int) (a : Nat) : Rat := ((-6 + (nN xs a 13 : Int) : Int) : Rat) / ((1 + (nN xs (nx xs a) 5 : Int) : Int) : Rat)
theorem bd_int {n : Int} (h : n.natAbs < 4294967296) : Bd 1 (n : Rat) := ⟨h, (by decide : (1 : Nat) < B ^ 1)⟩
theorem ratR_bd (xs : List Int) (a : Nat) : Bd 2 (ratR xs a) := by
  have h1 := nN_lt (xs := xs) (a := a) (n := 13) (by decide)
  have h2 := nN_lt (xs := xs) (a := nx xs a) (n := 5) (by decide)
  refine Bd.div (j := 1) (k := 1) (bd_int (by omega)) (bd_int (by omega)) ?_ (by decide)
  intro h
  have := congrArg Rat.num h
  change (1 + (nN xs (nx xs a) 5 : Int)) = 0 at this
  omega
theorem den30 (xs : List Int) (a : Nat) (hl : xs.length ≤ 1000) (ha : a ≤ xs.length) (hw : W64 xs) : Den Try.prog 30 [S xs a] [.ptr 0 0 0] [S xs (nx xs (nx xs a))] (FR (ratR xs a)) := by
  have h1 := den60 xs a (-6) 6 13 hl ha hw (by decide) (by decide) (by decide) (by decide) (by decide)
  have h2 := den60 xs (nx xs a) 1 5 5 hl (nx_le ha) hw (by decide) (by decide) (by decide) (by decide) (by decide)
  have hc := S_closed xs a
  have hc2 := S_closed xs (nx xs a)
  have l1 := nN_lt (xs := xs) (a := a) (n := 13) (by decide)
  have l2 := nN_lt (xs := xs) (a := nx xs a) (n := 5) (by decide)
  unfold ratR
  generalize nN xs a 13 = m1 at *
  generalize nN xs (nx xs a) 5 = m2 at *
  have h59 := den59 (-6 + (m1 : Int)) (1 + (m2 : Int)) (by omega) (by omega) (by omega)
  rw [FR_eq] at h59 ⊢
  unfold S at h1 h2 hc hc2 ⊢
  refine den_of tabOk mixed Try.func30 (cd := _) rfl (by decide) rfl (n := 13) rfl rfl (m := 1) rfl ?_
  simp (dsimp := false) (disch := omega) only [List.replicate, rules, tys]
  refine GoCall.lend 0 h1 rfl rfl hc rfl rfl rfl ?_
  simp (dsimp := false) (disch := omega) only [sh3, List.append_nil, rules, Nat.reduceAdd]
  refine GoCall.lend 0 h2 rfl rfl hc2 rfl rfl rfl ?_
  simp (dsimp := false) (disch := omega) only [sh3, List.append_nil, rules, Nat.reduceAdd]
  refine GoCall.pure h59 rfl ?_
  simp (dsimp := false) (disch := omega) only [List.append_nil, Ap_end_ret, rules, tys, eq_self, ↓reduceIte, Nat.reduceAdd, Nat.reduceLT, Nat.reduceLeDiff]
  refine RetOK.lentB rfl ⟨⟨rfl, Nat.le_refl 3⟩, trivial⟩ rfl (S_closed xs _) rfl rfl rfl

end Go.Proofs.Yteifpjjnphcdcaa

/- Contracts: the reader of numbers: Limbs. -/
namespace Go.Proofs.Yteifpjjnphcdcaa
open Go.AM Go.Pl
set_option maxRecDepth 100000
set_option maxHeartbeats 2000000

def pickN : List Nat := [0, 1, 2, 3, 10, 97, 65536, 2147483648, 4294967295, 4294967291, 123456789, 4000000007]
def pickT : List Int := [0, 1, 2, 3, 10, 97, 65536, 2147483648, 4294967295, 4294967291, 123456789, 4000000007]
theorem pick_cast (i : Nat) : pickT.getD i 0 = ((pickN.getD i 0 : Nat) : Int) := by
  have h : pickT = pickN.map (fun n : Nat => (n : Int)) := rfl
  rw [h]
  simp only [List.getD_eq_getElem?_getD, List.getElem?_map]
  cases pickN[i]? <;> rfl
theorem pick_lt (i : Nat) : pickN.getD i 0 < 4294967296 := by
  by_cases h : i < pickN.length
  · have hm : pickN.getD i 0 ∈ pickN := by rw [List.getD_eq_getElem?_getD, List.getElem?_eq_getElem h]; exact List.getElem_mem h
    have : ∀ x ∈ pickN, x < 4294967296 := by decide
    exact this _ hm
  · rw [List.getD_eq_getElem?_getD, List.getElem?_eq_none (by omega)]; decide
def limbsF (xs : List Int) : Nat → Nat → List Nat
  | 0, _ => []
  | n + 1, a => pickN.getD (nN xs a 12) 0 :: limbsF xs n (nx xs a)
def nxs (xs : List Int) : Nat → Nat → Nat
  | 0, a => a
  | n + 1, a => nxs xs n (nx xs a)
theorem limbsF_dig (xs : List Int) : ∀ n a, Dig (limbsF xs n a)
  | 0, _ => Dig.nil
  | n + 1, a => Dig.mk (pick_lt _) (limbsF_dig xs n (nx xs a))
theorem limbsF_length (xs : List Int) : ∀ n a, (limbsF xs n a).length = n
  | 0, _ => rfl
  | n + 1, a => by simp [limbsF, limbsF_length xs n]
theorem nxs_le {xs : List Int} : ∀ {n a : Nat}, a ≤ xs.length → nxs xs n a ≤ xs.length
  | 0, _, h => h
  | n + 1, _, h => nxs_le (n := n) (nx_le h)
theorem sh2l (o : Ob) (l : List Ob) (k off n s : Nat) : shutBs (o :: l) 0 [.ptr 0 0 0, .lsl (k + 1) off n s] = shutIds [k + 1] (o :: l) := rfl

/-- The slice that is being made. -/
def outV (out : List Nat) : PV := match out with | [] => .nilsl | _ => .lsl 1 0 out.length 1
def outH (o : Ob) (out : List Nat) : List Ob := match out with | [] => [o] | _ => [o, .row true (u32s out)]

theorem den64 (xs : List Int) (a : Nat) (hl : xs.length ≤ 1000) (ha : a ≤ xs.length) (hw : W64 xs) :
    Den Try.prog 64 [S xs a] [.ptr 0 0 0] [S xs (nxs xs (nN xs a 5) (nx xs a))] (.fv (.sl (u32s (limbsF xs (nN xs a 5) (nx xs a))))) := by
  have h5 := denN xs a 5 hl ha hw (by decide) (by decide)
  have hlt := nN_lt (xs := xs) (a := a) (n := 5) (by decide)
  have hc := S_closed xs a
  have ha1 := nx_le ha
  obtain ⟨a1, ha1'⟩ : ∃ t, nx xs a = t := ⟨_, rfl⟩
  obtain ⟨m, hm⟩ : ∃ t, nN xs a 5 = t := ⟨_, rfl⟩
  rw [hm] at h5 hlt ⊢
  rw [ha1'] at h5 ha1 ⊢
  obtain ⟨fin, hfin⟩ : ∃ t, nxs xs m a1 = t := ⟨_, rfl⟩
  obtain ⟨tot, htot⟩ : ∃ t, limbsF xs m a1 = t := ⟨_, rfl⟩
  rw [hfin, htot]
  unfold S at h5 hc ⊢
  refine den_of tabOk mixed Try.func64 (cd := _) rfl (by decide) rfl (n := 18) rfl rfl (m := 1) rfl ?_
  simp (dsimp := false) (disch := omega) only [List.replicate, rules]
  refine GoCall.lend 0 h5 rfl rfl hc rfl rfl rfl ?_
  simp (dsimp := false) (disch := omega) only [sh2, List.append_nil, rules]
  refine WA.loop (α := Nat × Nat × List Nat) (fun ⟨n, b, out⟩ => ⟨[.ptr 0 0 0, .any, .nilsl, outV out, .int .i64 n] ++ List.replicate 14 .any, outH (S xs b) out⟩)
    (fun ⟨n, _, _⟩ => n) (fun ⟨n, b, out⟩ => b ≤ xs.length ∧ n + out.length ≤ 4 ∧ nxs xs n b = fin ∧ out ++ limbsF xs n b = tot) (m, a1, []) ?_ ?_ ?_
  · refine Weak.keep [0] (by simp) rfl ?_ ?_
    · simp [leVs, leV, le1, outV]
    · simp [leH, leO, le1s, le1, outH, S]
  · exact ⟨ha1, by simp; omega, hfin, by rw [List.nil_append]; exact htot⟩
  · rintro ⟨n, b, out⟩ ⟨hb, hno, hnx, hap⟩
    have h82 := den82 xs b pickT hl hb hw (by decide) (by decide)
    have hcb := S_closed xs b
    have hpl := pick_lt (nN xs b 12)
    rw [show pickT.length = 12 from rfl, pick_cast] at h82
    obtain ⟨d, hd⟩ : ∃ d, pickN.getD (nN xs b 12) 0 = d := ⟨_, rfl⟩
    rw [hd] at h82 hpl
    have hwd : IntKind.u32.wrap (d : Int) = (d : Int) := wrap32c (by omega)
    have hnxt : ∀ k, n = k + 1 → nxs xs k (nx xs b) = fin ∧ (out ++ [d]) ++ limbsF xs k (nx xs b) = tot := by
      intro k hk
      subst hk
      rw [← hnx, ← hap, limbsF, hd]
      exact ⟨rfl, by simp⟩
    have hbn := nx_le hb
    cases out with
    | nil =>
      simp only [outV, outH]
      unfold S at h82 hcb ⊢
      simp (dsimp := false) (disch := omega) only [List.replicate, rules, tys, eq_self, ↓reduceIte]
      refine Br.dec ?_ ?_
      · intro h1 h2
        obtain ⟨k, rfl⟩ : ∃ k, n = k + 1 := ⟨n - 1, by omega⟩
        obtain ⟨hn1, hn2⟩ := hnxt k rfl
        have hk : ((k + 1 : Nat) : Int) - 1 = (k : Int) := by omega
        simp (dsimp := false) (disch := omega) only [List.append_nil, h2, rules, tys, eq_self, ↓reduceIte, Nat.reduceAdd, Nat.reduceMul, Nat.reduceLT, Nat.reduceLeDiff]
        refine GoCall.lend 0 h82 rfl rfl hcb rfl rfl rfl ?_
        simp (dsimp := false) (disch := omega) only [List.append_nil, sh2l, hwd, hk, List.length_cons, List.length_nil, wrap64, rules, tys, eq_self, ↓reduceIte, Nat.reduceAdd, Nat.reduceMul, Nat.reduceLT, Nat.reduceLeDiff]
        repeat refine And.intro (by omega) ?_
        refine Ap_loop (k, nx xs b, [d]) (by dsimp only; omega) ?_ ⟨hbn, by simp at hno ⊢; omega, hn1, hn2⟩
        refine Weak.keep [0, 3] (by simp) rfl ?_ ?_
        · simp [leVs, leV, le1]
        · simp [leH, leO, le1s, le1, u32s]
      · intro h1 h2
        have hn0 : n = 0 := by omega
        subst hn0
        have htot2 : tot = [] := by rw [← hap]; rfl
        have hfb : fin = b := hnx.symm
        rw [htot2, hfb]
        simp (dsimp := false) (disch := omega) only [h2, Ap_end_ret, rules, Nat.reduceBEq]
        refine RetOK.lentB rfl ⟨trivial, trivial⟩ rfl (S_closed xs _) rfl rfl rfl
    | cons x out =>
      have hul : (u32s (x :: out)).length = (x :: out).length := u32s_length
      have htk : List.take (x :: out).length (u32s (x :: out)) = u32s (x :: out) := List.take_of_length_le (by rw [hul]; exact Nat.le_refl _)
      have happ : u32s (x :: out) ++ [[FV.lit (Value.int .u32 d)]] = u32s (x :: (out ++ [d])) := by simp [u32s]
      simp only [outV, outH]
      obtain ⟨L, hL⟩ : ∃ L, (x :: out).length = L := ⟨_, rfl⟩
      obtain ⟨us, hus⟩ : ∃ us, u32s (x :: out) = us := ⟨_, rfl⟩
      rw [hL, hus] at hul htk
      rw [hus] at happ
      rw [hL] at hno
      rw [hL, hus]
      unfold S at h82 hcb ⊢
      simp (dsimp := false) (disch := omega) only [List.replicate, rules, tys, eq_self, ↓reduceIte]
      refine Br.dec ?_ ?_
      · intro h1 h2
        obtain ⟨k, rfl⟩ : ∃ k, n = k + 1 := ⟨n - 1, by omega⟩
        obtain ⟨hn1, hn2⟩ := hnxt k rfl
        have hk : ((k + 1 : Nat) : Int) - 1 = (k : Int) := by omega
        simp (dsimp := false) (disch := omega) only [List.append_nil, h2, rules, tys, eq_self, ↓reduceIte, Nat.reduceAdd, Nat.reduceMul, Nat.reduceLT, Nat.reduceLeDiff]
        refine GoCall.lend 0 h82 rfl rfl hcb rfl rfl rfl ?_
        simp (dsimp := false) (disch := omega) only [List.append_nil, sh2l, hwd, hk, htk, happ, List.length_cons, List.length_nil, wrap64, rules, tys, eq_self, ↓reduceIte, Nat.reduceAdd, Nat.reduceMul, Nat.reduceLT, Nat.reduceLeDiff]
        repeat refine And.intro (by omega) ?_
        refine Ap_loop (k, nx xs b, x :: (out ++ [d])) (by dsimp only; omega) ?_ ⟨hbn, by simp at hL ⊢; omega, hn1, hn2⟩
        refine Weak.keep [0, 4] (by simp) rfl ?_ ?_
        · simp [leVs, leV, le1]
          simp at hL
          omega
        · simp [leH, leO, le1s, le1]
      · intro h1 h2
        have hn0 : n = 0 := by omega
        subst hn0
        have htot2 : tot = x :: out := by rw [← hap]; simp [limbsF]
        have hfb : fin = b := hnx.symm
        rw [htot2, hfb, hus]
        simp (dsimp := false) (disch := omega) only [h2, Ap_end_ret, rules, Nat.reduceBEq]
        refine RetOK.lentB rfl ⟨trivial, trivial⟩ rfl (S_closed xs _) rfl ?_ rfl
        have hi : List.idxOf? 1 [0] = none := rfl
        simp (disch := omega) only [hul, htk, hi, List.drop_zero, Nat.zero_add, Nat.le_refl, ↓reduceIte, St.get, fzX, oneRes, fzV, fzC, fz1, fz0, Option.map_some, List.getD_cons_succ, List.getD_cons_zero, List.getElem?_cons_zero, List.getElem?_cons_succ]

end Go.Proofs.Yteifpjjnphcdcaa

/- Contracts: the reader of numbers: Loose. -/
namespace Go.Proofs.Yteifpjjnphcdcaa
open Go.AM Go.Pl
set_option maxRecDepth 100000
set_option maxHeartbeats 2000000

def looseR (xs : List Int) (a : Nat) : Raw × Nat :=
  if nN xs a 4 = 0 then (cn (ratR xs (nx xs a)), nx xs (nx xs (nx xs a)))
  else if nN xs a 4 = 1 then
    (⟨decide (nN xs (nx xs a) 2 = 0), limbsF xs (nN xs (nx xs (nx xs a)) 5) (nx xs (nx xs (nx xs a))),
      limbsF xs (nN xs (nxs xs (nN xs (nx xs (nx xs a)) 5) (nx xs (nx xs (nx xs a)))) 5) (nx xs (nxs xs (nN xs (nx xs (nx xs a)) 5) (nx xs (nx xs (nx xs a)))))⟩,
      nxs xs (nN xs (nxs xs (nN xs (nx xs (nx xs a)) 5) (nx xs (nx xs (nx xs a)))) 5) (nx xs (nxs xs (nN xs (nx xs (nx xs a)) 5) (nx xs (nx xs (nx xs a))))))
  else (⟨decide (nN xs (nx xs (nx xs a)) 2 = 0), [(1 + nN xs (nx xs a) 6) * nN xs (nx xs (nx xs (nx xs a))) 9, 0], [(1 + nN xs (nx xs a) 6) * nN xs (nx xs (nx xs (nx xs (nx xs a)))) 6]⟩, nx xs (nx xs (nx xs (nx xs (nx xs a)))))

theorem dec0 (m : Nat) : ((m : Int) == 0) = decide (m = 0) := by
  by_cases h : m = 0
  · subst h; rfl
  · rw [decide_eq_false h, beq_eq_false_iff_ne]; omega
theorem dig1 {x : Nat} (h : x < 4294967296) : Dig [x] := Dig.mk h Dig.nil

theorem looseR_ok (xs : List Int) (a : Nat) : (looseR xs a).1.Ok 4 := by
  unfold looseR
  split
  · exact Raw.Ok.mono (cn_ok (ratR_bd xs _)) (by decide)
  · split
    · have h1 := nN_lt (xs := xs) (a := nx xs (nx xs a)) (n := 5) (by decide)
      have h2 := nN_lt (xs := xs) (a := nxs xs (nN xs (nx xs (nx xs a)) 5) (nx xs (nx xs (nx xs a)))) (n := 5) (by decide)
      exact ⟨limbsF_dig _ _ _, limbsF_dig _ _ _, by rw [limbsF_length]; omega, by rw [limbsF_length]; omega⟩
    · have h1 := nN_lt (xs := xs) (a := nx xs a) (n := 6) (by decide)
      have h2 := nN_lt (xs := xs) (a := nx xs (nx xs (nx xs a))) (n := 9) (by decide)
      have h3 := nN_lt (xs := xs) (a := nx xs (nx xs (nx xs (nx xs a)))) (n := 6) (by decide)
      have h4 : (1 + nN xs (nx xs a) 6) * nN xs (nx xs (nx xs (nx xs a))) 9 ≤ 6 * 8 := Nat.mul_le_mul (by omega) (by omega)
      have h5 : (1 + nN xs (nx xs a) 6) * nN xs (nx xs (nx xs (nx xs (nx xs a)))) 6 ≤ 6 * 5 := Nat.mul_le_mul (by omega) (by omega)
      exact ⟨Dig.mk (by simp only [B]; omega) (dig1 (by omega)), dig1 (by omega), by simp, by simp⟩
theorem looseR_le {xs : List Int} {a : Nat} (h : a ≤ xs.length) : (looseR xs a).2 ≤ xs.length := by
  unfold looseR
  split
  · exact nx_le (nx_le (nx_le h))
  · split
    · exact nxs_le (nx_le (nxs_le (nx_le (nx_le (nx_le h)))))
    · exact nx_le (nx_le (nx_le (nx_le (nx_le h))))

theorem den34 (xs : List Int) (a : Nat) (hl : xs.length ≤ 1000) (ha : a ≤ xs.length) (hw : W64 xs) :
    Den Try.prog 34 [S xs a] [.ptr 0 0 0] [S xs (looseR xs a).2] (looseR xs a).1.v := by
  have h4 := denN xs a 4 hl ha hw (by decide) (by decide)
  have hc := S_closed xs a
  have ha1 := nx_le ha
  unfold looseR
  obtain ⟨m, hm⟩ : ∃ m, nN xs a 4 = m := ⟨_, rfl⟩
  obtain ⟨a1, e1⟩ : ∃ t, nx xs a = t := ⟨_, rfl⟩
  rw [hm, e1] at h4
  rw [e1] at ha1
  rw [hm, e1]
  have c1 := S_closed xs a1
  by_cases h0 : m = 0
  · rw [if_pos h0]
    have h30 := den30 xs a1 hl ha1 hw
    have hb : ((m : Int) == 0) = true := by rw [h0]; rfl
    dsimp only
    change Den Try.prog 34 _ _ _ (FR (ratR xs a1))
    rw [FR_eq] at h30 ⊢
    unfold S at h4 h30 hc c1 ⊢
    refine den_of tabOk mixed Try.func34 (cd := _) rfl (by decide) rfl (n := 38) rfl rfl (m := 1) rfl ?_
    simp (dsimp := false) (disch := omega) only [List.replicate, rules, tys]
    refine GoCall.lend 0 h4 rfl rfl hc rfl rfl rfl ?_
    simp (dsimp := false) (disch := omega) only [sh2, List.append_nil, hb, rules, tys, eq_self, ↓reduceIte, Nat.reduceAdd]
    refine GoCall.lend 0 h30 rfl rfl c1 rfl rfl rfl ?_
    simp (dsimp := false) (disch := omega) only [sh1, List.append_nil, Ap_end_ret, rules, tys, eq_self, Nat.reduceAdd, Nat.reduceLT, Nat.reduceLeDiff]
    refine RetOK.lentB rfl ⟨⟨rfl, Nat.le_refl 3⟩, trivial⟩ rfl (S_closed xs _) rfl rfl rfl
  · rw [if_neg h0]
    have hb : ((m : Int) == 0) = false := by rw [beq_eq_false_iff_ne]; omega
    have ha2 := nx_le ha1
    obtain ⟨a2, e2⟩ : ∃ t, nx xs a1 = t := ⟨_, rfl⟩
    have c2 := S_closed xs a2
    have ha3 := nx_le (a := a2) (by rw [← e2]; exact ha2)
    by_cases h1 : m = 1
    · rw [if_pos h1]
      have hb1 : ((m : Int) == 1) = true := by rw [h1]; rfl
      have hn2 := denN xs a1 2 hl ha1 hw (by decide) (by decide)
      rw [e2] at ha2 hn2 ⊢
      have hx := den64 xs a2 hl ha2 hw
      have ha4 : nxs xs (nN xs a2 5) (nx xs a2) ≤ xs.length := nxs_le ha3
      obtain ⟨a3, e3⟩ : ∃ t, nxs xs (nN xs a2 5) (nx xs a2) = t := ⟨_, rfl⟩
      have c3 := S_closed xs a3
      rw [e3] at hx ha4 ⊢
      have hy := den64 xs a3 hl ha4 hw
      obtain ⟨p, hp⟩ : ∃ t, nN xs a1 2 = t := ⟨_, rfl⟩
      obtain ⟨u, hu⟩ : ∃ t, limbsF xs (nN xs a2 5) (nx xs a2) = t := ⟨_, rfl⟩
      obtain ⟨w, hw2⟩ : ∃ t, limbsF xs (nN xs a3 5) (nx xs a3) = t := ⟨_, rfl⟩
      obtain ⟨a4, e4⟩ : ∃ t, nxs xs (nN xs a3 5) (nx xs a3) = t := ⟨_, rfl⟩
      rw [hp] at hn2 ⊢
      rw [hu] at hx ⊢
      rw [hw2, e4] at hy ⊢
      have hbp := dec0 p
      unfold Raw.v
      unfold S at h4 hn2 hx hy hc c1 c2 c3 ⊢
      refine den_of tabOk mixed Try.func34 (cd := _) rfl (by decide) rfl (n := 38) rfl rfl (m := 1) rfl ?_
      simp (dsimp := false) (disch := omega) only [List.replicate, rules, tys]
      refine GoCall.lend 0 h4 rfl rfl hc rfl rfl rfl ?_
      simp (dsimp := false) (disch := omega) only [sh2, List.append_nil, hb, hb1, rules, tys, eq_self, ↓reduceIte, Nat.reduceAdd]
      refine GoCall.lend 0 hn2 rfl rfl c1 rfl rfl rfl ?_
      simp (dsimp := false) (disch := omega) only [sh2, List.append_nil, hbp, rules, tys, eq_self, ↓reduceIte, Nat.reduceAdd]
      refine GoCall.lend 0 hx rfl rfl c2 rfl rfl rfl ?_
      simp (dsimp := false) (disch := omega) only [sh1, List.append_nil, rules, Nat.reduceAdd]
      refine GoCall.lend 0 hy rfl rfl c3 rfl rfl rfl ?_
      simp (dsimp := false) (disch := omega) only [sh1, List.append_nil, Ap_end_ret, rules, tys, eq_self, ↓reduceIte, Nat.reduceAdd, Nat.reduceLT, Nat.reduceLeDiff]
      refine RetOK.lentB rfl ⟨⟨rfl, Nat.le_refl 3⟩, trivial⟩ rfl (S_closed xs _) rfl rfl rfl
    · rw [if_neg h1]
      have hb1 : ((m : Int) == 1) = false := by rw [beq_eq_false_iff_ne]; omega
      have hn1 := den60 xs a1 1 6 6 hl ha1 hw (by decide) (by decide) (by decide) (by decide) (by decide)
      have l1 := nN_lt (xs := xs) (a := a1) (n := 6) (by decide)
      rw [e2] at ha2 hn1 ⊢
      have hn2 := denN xs a2 2 hl ha2 hw (by decide) (by decide)
      obtain ⟨a3, e3⟩ : ∃ t, nx xs a2 = t := ⟨_, rfl⟩
      have c3 := S_closed xs a3
      rw [e3] at ha3 hn2 ⊢
      have hn3 := denN xs a3 9 hl ha3 hw (by decide) (by decide)
      have l3 := nN_lt (xs := xs) (a := a3) (n := 9) (by decide)
      have ha4 := nx_le ha3
      obtain ⟨a4, e4⟩ : ∃ t, nx xs a3 = t := ⟨_, rfl⟩
      have c4 := S_closed xs a4
      rw [e4] at ha4 hn3 ⊢
      have hn4 := denN xs a4 6 hl ha4 hw (by decide) (by decide)
      have l4 := nN_lt (xs := xs) (a := a4) (n := 6) (by decide)
      obtain ⟨k, hk⟩ : ∃ t, nN xs a1 6 = t := ⟨_, rfl⟩
      obtain ⟨p, hp⟩ : ∃ t, nN xs a2 2 = t := ⟨_, rfl⟩
      obtain ⟨x, hx⟩ : ∃ t, nN xs a3 9 = t := ⟨_, rfl⟩
      obtain ⟨y, hy⟩ : ∃ t, nN xs a4 6 = t := ⟨_, rfl⟩
      rw [hk] at hn1 l1 ⊢
      rw [hp] at hn2 ⊢
      rw [hx] at hn3 l3 ⊢
      rw [hy] at hn4 l4 ⊢
      have hbp := dec0 p
      have q1 : (1 + k) * x ≤ 6 * 8 := Nat.mul_le_mul (by omega) (by omega)
      have q2 : (1 + k) * y ≤ 6 * 5 := Nat.mul_le_mul (by omega) (by omega)
      have g1 : ((1 : Int) + (k : Int)) * (x : Int) = (((1 + k) * x : Nat) : Int) := by rw [Int.natCast_mul, Int.natCast_add]; rfl
      have g2 : ((1 : Int) + (k : Int)) * (y : Int) = (((1 + k) * y : Nat) : Int) := by rw [Int.natCast_mul, Int.natCast_add]; rfl
      obtain ⟨kx, hkx⟩ : ∃ t, (1 + k) * x = t := ⟨_, rfl⟩
      obtain ⟨ky, hky⟩ : ∃ t, (1 + k) * y = t := ⟨_, rfl⟩
      rw [hkx] at q1 g1 ⊢
      rw [hky] at q2 g2 ⊢
      unfold Raw.v
      unfold S at h4 hn1 hn2 hn3 hn4 hc c1 c2 c3 c4 ⊢
      refine den_of tabOk mixed Try.func34 (cd := _) rfl (by decide) rfl (n := 38) rfl rfl (m := 1) rfl ?_
      simp (dsimp := false) (disch := omega) only [List.replicate, rules, tys]
      refine GoCall.lend 0 h4 rfl rfl hc rfl rfl rfl ?_
      simp (dsimp := false) (disch := omega) only [sh2, List.append_nil, hb, hb1, rules, tys, eq_self, ↓reduceIte, Nat.reduceAdd]
      refine GoCall.lend 0 hn1 rfl rfl c1 rfl rfl rfl ?_
      simp (dsimp := false) (disch := omega) only [sh3, List.append_nil, wrap32c, rules, tys, Nat.reduceAdd]
      refine GoCall.lend 0 hn2 rfl rfl c2 rfl rfl rfl ?_
      simp (dsimp := false) (disch := omega) only [sh2, List.append_nil, hbp, rules, tys, eq_self, ↓reduceIte, Nat.reduceAdd]
      refine GoCall.lend 0 hn3 rfl rfl c3 rfl rfl rfl ?_
      simp (dsimp := false) (disch := omega) only [sh2, List.append_nil, g1, wrap32c, rules, tys, eq_self, ↓reduceIte, Nat.reduceAdd, Nat.reduceMul, Nat.reduceLT, Nat.reduceLeDiff]
      refine GoCall.lend 0 hn4 rfl rfl c4 rfl rfl rfl ?_
      simp (dsimp := false) (disch := omega) only [sh2, List.append_nil, g2, wrap32c, Ap_end_ret, rules, tys, eq_self, ↓reduceIte, Nat.reduceAdd, Nat.reduceMul, Nat.reduceLT, Nat.reduceLeDiff]
      repeat refine And.intro (by omega) ?_
      refine RetOK.lentB rfl ⟨⟨rfl, Nat.le_refl 3⟩, trivial⟩ rfl (S_closed xs _) rfl rfl rfl

end Go.Proofs.Yteifpjjnphcdcaa

/- Contracts: the reader of numbers: Lin; loose. -/
namespace Go.Proofs.Yteifpjjnphcdcaa
open Go.AM Go.Pl
set_option maxRecDepth 100000
set_option maxHeartbeats 2000000

theorem flat_idsC (H : List Ob) (keep : List Nat) : ∀ rs : List Raw, (flat rs).flatMap (idsC H keep) = []
  | [] => rfl
  | r :: rs => by simp only [flat, List.flatMap_cons, idsC, ids1, ids0, List.nil_append, flat_idsC H keep rs]
theorem RetOK.formL {st : St} {ob : Ob} {a id : Nat} {w : Bool} {rs : List Raw} (ha : st.get a = .ptr id 0 0) (hb : st.heap[id]? = some (.box w (flat rs))) (hl : rs.length = 9) (hx : st.heap.head? = some ob) (hcl : ob.closed) (hrw : ob.rw = true) :
    RetOK tab [.cell a 28] 1 st [ob] (RL rs) := by
  refine RetOK.lentB (vs := [.agg (flat rs)]) (cd := (0 = 0 ∧ 0 + 27 ≤ (flat rs).length) ∧ True) ?_ ⟨⟨rfl, by rw [flat_length]; omega⟩, trivial⟩ hx hcl hrw ?_ ?_
  · simp [resVs, resV1, ha, at28, cellsAt, hb, oneOr, flat_take27 hl, TyI.isAgg]
  · simp [oneRes, fzX, fzV, flat_fzCs, RL]
  · simp only [oneRes, idsX, idsV, flat_idsC]
    rw [← hx]; rfl

def linS (xs : List Int) : Nat → Nat → Nat → List Raw → List Raw
  | 0, _, _, rs => rs
  | n + 1, i, a, rs => linS xs n (i + 1) (nx xs a) (rs.set i (cn ((-2 + (nN xs a 5 : Int) : Int) : Rat)))
theorem set_ok' {k : Nat} {rs : List Raw} (h : LOk k rs) (v : Nat) {r : Raw} (hr : r.Ok k) : LOk k (rs.set v r) :=
  ⟨by simp [h.len], fun x hx => by
    rcases List.mem_or_eq_of_mem_set hx with h1 | h1
    · exact h.ok x h1
    · rw [h1]; exact hr⟩
theorem linS_ok (xs : List Int) : ∀ n i a rs, LOk 4 rs → LOk 4 (linS xs n i a rs)
  | 0, _, _, _, h => h
  | n + 1, i, a, rs, h => by
    unfold linS
    have h1 := nN_lt (xs := xs) (a := a) (n := 5) (by decide)
    exact linS_ok xs n _ _ _ (set_ok' h i (Raw.Ok.mono (cn_ok (bd_int (by omega))) (by decide)))
def linF (xs : List Int) (a : Nat) : List Raw × Nat :=
  if nN xs (nx xs (nx xs (nxs xs 3 a))) 6 = 0 then
    (((linS xs 3 0 a (List.replicate 9 rz)).set 8 (cn (ratR xs (nxs xs 3 a)))).set 8 (looseR xs (nx xs (nx xs (nx xs (nxs xs 3 a))))).1, (looseR xs (nx xs (nx xs (nx xs (nxs xs 3 a))))).2)
  else ((linS xs 3 0 a (List.replicate 9 rz)).set 8 (cn (ratR xs (nxs xs 3 a))), nx xs (nx xs (nx xs (nxs xs 3 a))))
theorem linF_ok (xs : List Int) (a : Nat) : LOk 4 (linF xs a).1 := by
  have h1 := set_ok' (linS_ok xs 3 0 a _ zeros_ok) 8 (Raw.Ok.mono (cn_ok (ratR_bd xs (nxs xs 3 a))) (by decide))
  unfold linF
  split
  · exact set_ok' h1 8 (looseR_ok _ _)
  · exact h1
theorem linF_le {xs : List Int} {a : Nat} (h : a ≤ xs.length) : (linF xs a).2 ≤ xs.length := by
  have h3 := nxs_le (n := 3) h
  unfold linF
  split
  · exact looseR_le (nx_le (nx_le (nx_le h3)))
  · exact nx_le (nx_le (nx_le h3))

theorem den33 (xs : List Int) (a : Nat) (hl : xs.length ≤ 1000) (ha : a ≤ xs.length) (hw : W64 xs) :
    Den Try.prog 33 [S xs a] [.ptr 0 0 0, .int .i64 3] [S xs (linF xs a).2] (RL (linF xs a).1) := by
  have a3l := nxs_le (n := 3) ha
  have hokS := linS_ok xs 3 0 a _ zeros_ok
  unfold linF
  obtain ⟨rsf, hrsf⟩ : ∃ t, linS xs 3 0 a (List.replicate 9 rz) = t := ⟨_, rfl⟩
  obtain ⟨a3, e3⟩ : ∃ t, nxs xs 3 a = t := ⟨_, rfl⟩
  rw [e3] at a3l
  rw [hrsf] at hokS
  rw [hrsf, e3]
  unfold S
  refine den_of tabOk mixed Try.func33 (cd := _) rfl (by decide) rfl (n := 26) rfl rfl (m := 1) rfl ?_
  simp (dsimp := false) (disch := omega) only [List.replicate, rules, tys, Nat.reduceAdd]
  refine WA.loop (α := Nat × Nat × List Raw) (fun ⟨i, b, rs⟩ => ⟨[.ptr 0 0 0, .int .i64 3, .any, .any, .ptr 1 0 0, .ptr 2 0 0, .int .i64 i] ++ List.replicate 21 .any, [.box true [.fv (.sl (ints xs)), .int .i64 b, .int .i64 0], .box true (zcells 9), .box true (flat rs)]⟩)
    (fun ⟨i, _, _⟩ => 3 - i) (fun ⟨i, b, rs⟩ => i ≤ 3 ∧ b ≤ xs.length ∧ LOk 4 rs ∧ linS xs (3 - i) i b rs = rsf ∧ nxs xs (3 - i) b = a3) (0, a, List.replicate 9 rz) ?_ ?_ ?_
  · refine Weak.keep [0, 1, 2] (by simp) rfl ?_ ?_
    · simp [leVs, leV, le1]
    · simp [leH, leO, le1s, le1, zcells, List.replicate, flat, rz, u32s]
  · exact ⟨by omega, ha, zeros_ok, hrsf, e3⟩
  · rintro ⟨i, b, rs⟩ ⟨hi, hb, hok, hS, hX⟩
    have hlen := hok.len
    have hfl := flat_length rs
    have cb := S_closed xs b
    simp (dsimp := false) (disch := omega) only [List.replicate, rules, tys, eq_self, ↓reduceIte]
    refine Br.dec ?_ ?_
    · intro h1 h2
      have h60 := den60 xs b (-2) 2 5 hl hb hw (by decide) (by decide) (by decide) (by decide) (by decide)
      have l5 := nN_lt (xs := xs) (a := b) (n := 5) (by decide)
      obtain ⟨k, hk⟩ : ∃ k, 3 - i = k + 1 := ⟨2 - i, by omega⟩
      have hk2 : 3 - (i + 1) = k := by omega
      rw [hk] at hS hX
      unfold linS at hS
      unfold nxs at hX
      have h24 := den24 (-2 + (nN xs b 5 : Int)) (by omega)
      have hset := flat_set (rs := rs) (i := i) (by omega) (decide (((-2 + (nN xs b 5 : Int) : Int) : Rat).num < 0)) (limbs ((-2 + (nN xs b 5 : Int) : Int) : Rat).num.natAbs) (limbs ((-2 + (nN xs b 5 : Int) : Int) : Rat).den)
      have hcn : (⟨decide (((-2 + (nN xs b 5 : Int) : Int) : Rat).num < 0), limbs ((-2 + (nN xs b 5 : Int) : Int) : Rat).num.natAbs, limbs ((-2 + (nN xs b 5 : Int) : Int) : Rat).den⟩ : Raw) = cn ((-2 + (nN xs b 5 : Int) : Int) : Rat) := rfl
      have hokq : (cn ((-2 + (nN xs b 5 : Int) : Int) : Rat)).Ok 4 := Raw.Ok.mono (cn_ok (bd_int (by omega))) (by decide)
      rw [hcn] at hset
      obtain ⟨z, hz⟩ : ∃ z : Int, -2 + (nN xs b 5 : Int) = z := ⟨_, rfl⟩
      rw [hz] at h60 h24 hset hS hokq
      rw [FR_eq, N_val, N_val] at h24
      unfold S at h60 cb
      simp (dsimp := false) (disch := omega) only [h2, rules]
      refine GoCall.lend 0 h60 rfl rfl cb rfl rfl rfl ?_
      simp (dsimp := false) (disch := omega) only [sh3, List.append_nil, rules, Nat.reduceAdd]
      refine GoCall.pure h24 rfl ?_
      simp (dsimp := false) (disch := omega) only [List.append_nil, hset, wrap64, rules, tys, eq_self, ↓reduceIte, Nat.reduceAdd, Nat.reduceLT]
      repeat refine And.intro (by omega) ?_
      refine Ap_loop (i + 1, nx xs b, rs.set i (cn (z : Rat))) (by dsimp only; omega) ?_ ⟨by omega, nx_le hb, set_ok' hok i hokq, by rw [hk2]; exact hS, by rw [hk2]; exact hX⟩
      refine Weak.keep [0, 1, 2] (by simp) rfl ?_ ?_
      · simp [leVs, leV, le1]
      · simp [leH, leO, le1s, le1, le_flat, zcells]
    · intro h1 h2
      have hi3 : i = 3 := by omega
      subst hi3
      have hrs : rs = rsf := hS
      have hba : b = a3 := hX
      subst hrs
      subst hba
      have h30 := den30 xs b hl hb hw
      have hb4 := nx_le (nx_le hb)
      obtain ⟨a4, e4⟩ : ∃ t, nx xs (nx xs b) = t := ⟨_, rfl⟩
      rw [e4] at h30 hb4 ⊢
      have c4 := S_closed xs a4
      have hn6 := denN xs a4 6 hl hb4 hw (by decide) (by decide)
      have hb5 := nx_le hb4
      obtain ⟨a5, e5⟩ : ∃ t, nx xs a4 = t := ⟨_, rfl⟩
      rw [e5] at hn6 hb5 ⊢
      have c5 := S_closed xs a5
      have h34 := den34 xs a5 hl hb5 hw
      obtain ⟨m, hm⟩ : ∃ t, nN xs a4 6 = t := ⟨_, rfl⟩
      rw [hm] at hn6 ⊢
      have hset := flat_set (rs := rs) (i := 8) (by omega) (decide ((ratR xs b).num < 0)) (limbs (ratR xs b).num.natAbs) (limbs (ratR xs b).den)
      have hcn : (⟨decide ((ratR xs b).num < 0), limbs (ratR xs b).num.natAbs, limbs (ratR xs b).den⟩ : Raw) = cn (ratR xs b) := rfl
      rw [hcn] at hset
      have hok8 := set_ok' hok 8 (Raw.Ok.mono (cn_ok (ratR_bd xs b)) (by decide))
      obtain ⟨rs8, hrs8⟩ : ∃ t, rs.set 8 (cn (ratR xs b)) = t := ⟨_, rfl⟩
      rw [hrs8] at hset hok8 ⊢
      simp only [Nat.reduceMul, Nat.reduceAdd] at hset
      have hl8 := hok8.len
      have hf8 := flat_length rs8
      have hf27 : (flat rs8).length = 27 := by omega
      rw [FR_eq, N_val, N_val] at h30
      unfold S at h30 hn6 h34 cb c4 c5
      by_cases h0 : m = 0
      · rw [if_pos h0]
        have hb0 : ((m : Int) == 0) = true := by rw [h0]; rfl
        obtain ⟨⟨r, a6⟩, hr6⟩ : ∃ t, looseR xs a5 = t := ⟨_, rfl⟩
        have hro := looseR_ok xs a5
        rw [hr6] at h34 hro ⊢
        dsimp only at h34 hro ⊢
        have hset2 := flat_set (rs := rs8) (i := 8) (by omega) r.neg r.num r.den
        have hr2 : (⟨r.neg, r.num, r.den⟩ : Raw) = r := rfl
        rw [hr2] at hset2
        have hok9 := set_ok' hok8 8 hro
        obtain ⟨rs9, hrs9⟩ : ∃ t, rs8.set 8 r = t := ⟨_, rfl⟩
        rw [hrs9] at hset2 hok9 ⊢
        simp only [Nat.reduceMul, Nat.reduceAdd] at hset2
        have hl9 := hok9.len
        have hf9 := flat_length rs9
        have hf27' : (flat rs9).length = 27 := by omega
        unfold Raw.v at h34
        simp (dsimp := false) (disch := omega) only [h2, rules, Nat.reduceBEq]
        refine GoCall.lend 0 h30 rfl rfl cb rfl rfl rfl ?_
        simp (dsimp := false) (disch := omega) only [sh1, List.append_nil, hset, rules, tys, eq_self, Nat.reduceAdd, Nat.reduceLT]
        repeat refine And.intro (by omega) ?_
        refine GoCall.lend 0 hn6 rfl rfl c4 rfl rfl rfl ?_
        simp (dsimp := false) (disch := omega) only [sh2, List.append_nil, hb0, rules, tys, eq_self, ↓reduceIte, Nat.reduceAdd]
        refine GoCall.lend 0 h34 rfl rfl c5 rfl rfl rfl ?_
        simp (dsimp := false) (disch := omega) only [sh1, List.append_nil, zcells_drop, zcells_length, hset2, flat_take27 hl9, hf27', Ap_end_ret, rules, tys, eq_self, ↓reduceIte, Nat.reduceAdd, Nat.reduceLT, Nat.reduceLeDiff]
        repeat refine And.intro (by omega) ?_
        exact RetOK.formL rfl rfl hl9 rfl (S_closed xs _) rfl
      · rw [if_neg h0]
        have hb0 : ((m : Int) == 0) = false := by rw [beq_eq_false_iff_ne]; omega
        simp (dsimp := false) (disch := omega) only [h2, rules, Nat.reduceBEq]
        refine GoCall.lend 0 h30 rfl rfl cb rfl rfl rfl ?_
        simp (dsimp := false) (disch := omega) only [sh1, List.append_nil, hset, rules, tys, eq_self, Nat.reduceAdd, Nat.reduceLT]
        repeat refine And.intro (by omega) ?_
        refine GoCall.lend 0 hn6 rfl rfl c4 rfl rfl rfl ?_
        simp (dsimp := false) (disch := omega) only [sh2, List.append_nil, zcells_drop, zcells_length, hb0, flat_take27 hl8, hf27, Ap_end_ret, rules, tys, eq_self, ↓reduceIte, Nat.reduceAdd, Nat.reduceLT, Nat.reduceLeDiff]
        repeat refine And.intro (by omega) ?_
        exact RetOK.formL rfl rfl hl8 rfl (S_closed xs _) rfl

def looseS (xs : List Int) : Nat → Nat → List Raw → List Raw × Nat
  | 0, a, rs => (rs, a)
  | n + 1, a, rs => looseS xs n (looseR xs (nx xs a)).2 (rs.set (nN xs a 8) (looseR xs (nx xs a)).1)
theorem looseS_ok (xs : List Int) : ∀ n a rs, LOk 4 rs → LOk 4 (looseS xs n a rs).1
  | 0, _, _, h => h
  | n + 1, a, rs, h => by
    unfold looseS
    exact looseS_ok xs n _ _ (set_ok' h _ (looseR_ok _ _))
theorem looseS_le (xs : List Int) : ∀ n a rs, a ≤ xs.length → (looseS xs n a rs).2 ≤ xs.length
  | 0, _, _, h => h
  | n + 1, a, rs, h => by
    unfold looseS
    exact looseS_le xs n _ _ (looseR_le (nx_le h))
/-- A form whose numbers need not be in normal form. -/
def looseF (xs : List Int) (a : Nat) : List Raw × Nat := looseS xs (nN xs (linF xs a).2 3) (nx xs (linF xs a).2) (linF xs a).1
theorem looseF_ok (xs : List Int) (a : Nat) : LOk 4 (looseF xs a).1 := looseS_ok _ _ _ _ (linF_ok xs a)
theorem looseF_le {xs : List Int} {a : Nat} (h : a ≤ xs.length) : (looseF xs a).2 ≤ xs.length := looseS_le _ _ _ _ (nx_le (linF_le h))

theorem den9 (xs : List Int) (a : Nat) (hl : xs.length ≤ 1000) (ha : a ≤ xs.length) (hw : W64 xs) :
    Den Try.prog 9 [S xs a] [.ptr 0 0 0] [S xs (looseF xs a).2] (RL (looseF xs a).1) := by
  have h33 := den33 xs a hl ha hw
  have hc := S_closed xs a
  have hok := linF_ok xs a
  have ha1 := linF_le ha
  unfold looseF
  obtain ⟨⟨rs, a1⟩, hr⟩ : ∃ t, linF xs a = t := ⟨_, rfl⟩
  rw [hr] at h33 hok ha1 ⊢
  dsimp only at h33 hok ha1 ⊢
  have c1 := S_closed xs a1
  have h3 := denN xs a1 3 hl ha1 hw (by decide) (by decide)
  have ha2 := nx_le ha1
  obtain ⟨a2, e2⟩ : ∃ t, nx xs a1 = t := ⟨_, rfl⟩
  have hm3 : nN xs a1 3 ≤ 3 := Nat.le_of_lt (nN_lt (by decide))
  obtain ⟨m, hm⟩ : ∃ t, nN xs a1 3 = t := ⟨_, rfl⟩
  rw [hm] at hm3
  rw [e2] at h3 ha2 ⊢
  rw [hm] at h3 ⊢
  obtain ⟨⟨rsf, af⟩, hf⟩ : ∃ t, looseS xs m a2 rs = t := ⟨_, rfl⟩
  rw [hf]
  dsimp only
  have hlen := hok.len
  have hfl : (flat rs).length = 27 := by rw [flat_length]; omega
  unfold RL at h33
  unfold S at h33 h3 hc c1 ⊢
  refine den_of tabOk mixed Try.func9 (cd := _) rfl (by decide) rfl (n := 19) rfl rfl (m := 1) rfl ?_
  simp (dsimp := false) (disch := omega) only [List.replicate, rules, tys]
  refine GoCall.lend 0 h33 rfl rfl hc rfl rfl rfl ?_
  simp (dsimp := false) (disch := omega) only [sh2, List.append_nil, flat_reloc, hfl, rules, tys, eq_self, Nat.reduceAdd, Nat.reduceLT, Nat.reduceLeDiff]
  repeat refine And.intro (by omega) ?_
  refine GoCall.lend 0 h3 rfl rfl c1 rfl rfl rfl ?_
  simp (dsimp := false) (disch := omega) only [sh2, List.append_nil, rules, Nat.reduceAdd]
  refine WA.loop (α := Nat × Nat × List Raw) (fun ⟨n, b, rs⟩ => ⟨[.ptr 0 0 0, .any, .ptr 1 0 0, .ptr 2 0 0, .int .i64 n] ++ List.replicate 15 .any, [.box true [.fv (.sl (ints xs)), .int .i64 b, .int .i64 0], .box true (zcells 9), .box true (flat rs)]⟩)
    (fun ⟨n, _, _⟩ => n) (fun ⟨n, b, rs⟩ => n ≤ 3 ∧ b ≤ xs.length ∧ LOk 4 rs ∧ looseS xs n b rs = (rsf, af)) (m, a2, rs) ?_ ?_ ?_
  · refine Weak.keep [0, 1, 2] (by simp) rfl ?_ ?_
    · simp [leVs, leV, le1]
    · simp [leH, leO, le1s, le1, le_flat, zcells]
  · exact ⟨hm3, ha2, hok, hf⟩
  · rintro ⟨n, b, rs⟩ ⟨hn3, hb, hok, hS⟩
    have hlen := hok.len
    have hfl := flat_length rs
    have cb := S_closed xs b
    simp (dsimp := false) (disch := omega) only [List.replicate, rules, tys, eq_self, ↓reduceIte]
    refine Br.dec ?_ ?_
    · intro h1 h2
      obtain ⟨k, rfl⟩ : ∃ k, n = k + 1 := ⟨n - 1, by omega⟩
      have hk : ((k + 1 : Nat) : Int) - 1 = (k : Int) := by omega
      have h8 := denN xs b 8 hl hb hw (by decide) (by decide)
      have l8 := nN_lt (xs := xs) (a := b) (n := 8) (by decide)
      have hb1 := nx_le hb
      have h34 := den34 xs (nx xs b) hl hb1 hw
      have c1 := S_closed xs (nx xs b)
      unfold looseS at hS
      have hro := looseR_ok xs (nx xs b)
      have hrl := looseR_le hb1
      obtain ⟨⟨r, a6⟩, hr6⟩ : ∃ t, looseR xs (nx xs b) = t := ⟨_, rfl⟩
      rw [hr6] at h34 hS hro hrl
      dsimp only at h34 hS hro hrl
      obtain ⟨i, hi⟩ : ∃ t, nN xs b 8 = t := ⟨_, rfl⟩
      rw [hi] at h8 l8 hS
      have hset := flat_set (rs := rs) (i := i) (by omega) r.neg r.num r.den
      have hr2 : (⟨r.neg, r.num, r.den⟩ : Raw) = r := rfl
      rw [hr2] at hset
      unfold Raw.v at h34
      unfold S at h8 h34 cb c1
      simp (dsimp := false) (disch := omega) only [h2, rules]
      refine GoCall.lend 0 h8 rfl rfl cb rfl rfl rfl ?_
      simp (dsimp := false) (disch := omega) only [sh2, List.append_nil, rules, Nat.reduceAdd]
      refine GoCall.lend 0 h34 rfl rfl c1 rfl rfl rfl ?_
      simp (dsimp := false) (disch := omega) only [sh1, List.append_nil, hset, hk, wrap64, rules, tys, eq_self, ↓reduceIte, Nat.reduceAdd, Nat.reduceLT]
      repeat refine And.intro (by omega) ?_
      refine Ap_loop (k, a6, rs.set i r) (by dsimp only; omega) ?_ ⟨by omega, hrl, set_ok' hok i hro, hS⟩
      refine Weak.keep [0, 1, 2] (by simp) rfl ?_ ?_
      · simp [leVs, leV, le1]
      · simp [leH, leO, le1s, le1, le_flat, zcells]
    · intro h1 h2
      have hn0 : n = 0 := by omega
      subst hn0
      obtain ⟨e1, e2⟩ : rs = rsf ∧ b = af := by
        have := hS
        simp only [looseS, Prod.mk.injEq] at this
        exact this
      subst e1
      subst e2
      have hf27 : (flat rs).length = 27 := by omega
      simp (dsimp := false) (disch := omega) only [List.append_nil, zcells_drop, zcells_length, h2, flat_take27 hlen, hf27, Ap_end_ret, rules, tys, eq_self, ↓reduceIte, Nat.reduceBEq, Nat.reduceLT, Nat.reduceLeDiff]
      repeat refine And.intro (by omega) ?_
      exact RetOK.formL rfl rfl hlen rfl (S_closed xs _) rfl

end Go.Proofs.Yteifpjjnphcdcaa
