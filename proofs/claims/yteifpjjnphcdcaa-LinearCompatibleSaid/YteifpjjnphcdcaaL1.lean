/- Forms in the abstract machine: frozen, handed over. -/
import Derived.Test.YteifpjjnphcdcaaP1
import Derived.Test.YteifpjjnphcdcaaA4
import Derived.Test.YteifpjjnphcdcaaTypes
import Derived.Test.YteifpjjnphcdcaaQ2

namespace Go.Proofs.Yteifpjjnphcdcaa
open Go.AM Go.Pl

theorem flatF_fv : ∀ rs : List Raw, (flatF rs).map PV.fv = flat rs
  | [] => rfl
  | r :: rs => by simp only [flatF, flat, List.map_cons, flatF_fv rs]
theorem flat_ids : ∀ rs : List Raw, (flat rs).flatMap ids0 = []
  | [] => rfl
  | r :: rs => by simp only [flat, List.flatMap_cons, ids0, List.nil_append, flat_ids rs]
theorem flat_reloc (f : Nat → Nat) : ∀ rs : List Raw, (flat rs).map (reloc1 f) = flat rs
  | [] => rfl
  | r :: rs => by simp only [flat, List.map_cons, reloc1, flat_reloc f rs]
theorem flat_fzA (H : List Ob) (rs : List Raw) : fzA H (.agg (flat rs)) = some (.agg (flat rs)) := by
  simp only [fzA, flat_fz, Option.map_some, flatF_fv]
theorem flat_fzCs (H : List Ob) (keep : List Nat) : ∀ rs : List Raw, fzCs H keep (flat rs) = some (flat rs)
  | [] => rfl
  | r :: rs => by simp only [flat, fzCs, fzC, fz1, fz0, Option.map_some, flat_fzCs H keep rs]
theorem flat_take27 {rs : List Raw} (h : rs.length = 9) : List.take 27 (flat rs) = flat rs :=
  List.take_of_length_le (by rw [flat_length]; omega)
theorem flat_fresh (rs : List Raw) : fzAs [] [.agg (flat rs)] = some [.agg (flat rs)] := by simp only [fzAs, flat_fzA]

theorem le_flat (ids : List Nat) : ∀ rs : List Raw, le1s ids (flat rs) (flat rs)
  | [] => by simp [flat, le1s]
  | r :: rs => by simp [flat, le1s, le1, le_flat ids rs]
def mapFp : Option (List FV) → Option (List FV)
  | some x => some [.fp x]
  | none => none
def boxOf : Option Ob → Option (List PV)
  | some (.box _ cs) => some cs
  | _ => none
theorem fz1s_nil' (H : List Ob) : fz1s H [] = some [] := rfl
theorem fz1s_box (H : List Ob) (id : Nat) : fz1s H [.ptr id 0 0] = match boxOf (H[id]?) with | some cs => mapFp (fzs H cs) | none => none := by
  simp only [fz1s, fz1]
  cases h : H[id]? with
  | none => rfl
  | some o => cases o with
    | box w cs =>
      simp only [boxOf]
      cases fzs H cs <;> rfl
    | row w xs => rfl
    | dead => rfl
theorem boxOf_box (w : Bool) (cs : List PV) : boxOf (some (.box w cs)) = some cs := rfl
theorem mapFp_some (x : List FV) : mapFp (some x) = some [.fp x] := rfl
/-- A form with a number that is the zero value of its type. -/
def hole (rs : List Raw) (v : Nat) : List PV := List.take (v * 3) (flat rs) ++ [.bool false, .nilsl, .nilsl] ++ List.drop (v * 3 + 3) (flat rs)
theorem hole_succ (r : Raw) (rs : List Raw) (v : Nat) : hole (r :: rs) (v + 1) = .bool r.neg :: .fv (.sl (u32s r.num)) :: .fv (.sl (u32s r.den)) :: hole rs v := by
  unfold hole
  have e1 : (v + 1) * 3 = v * 3 + 2 + 1 := by omega
  have e2 : (v + 1) * 3 + 3 = (v * 3 + 3) + 2 + 1 := by omega
  rw [e2, e1]
  simp only [flat, List.take_succ_cons, List.drop_succ_cons, List.cons_append]
theorem fzs_hole (H : List Ob) : ∀ (v : Nat) (rs : List Raw), v < rs.length → fzs H (hole rs v) = some (flatF (rs.set v rz))
  | 0, r :: rs, _ => by
    have h := flat_fz H rs
    simp [hole, flat, flatF, fzs, fz0, h, rz, u32s]
  | v + 1, r :: rs, h => by
    rw [hole_succ]
    have h2 := fzs_hole H v rs (by simpa using h)
    simp only [fzs, fz0, h2, List.set_cons_succ, flatF]
  | _, [], h => by simp at h
theorem ids_hole : ∀ (v : Nat) (rs : List Raw), v < rs.length → (hole rs v).flatMap ids0 = []
  | 0, r :: rs, _ => by
    have h := flat_ids rs
    simp only [hole, flat, Nat.zero_mul, List.take_zero, List.nil_append, Nat.zero_add, List.drop_succ_cons, List.drop_zero, List.cons_append, List.flatMap_cons, ids0, h]
  | v + 1, r :: rs, h => by
    rw [hole_succ]
    have h2 := ids_hole v rs (by simpa using h)
    simp only [List.flatMap_cons, ids0, h2, List.nil_append]
  | _, [], h => by simp at h
theorem hole_length {rs : List Raw} {v : Nat} (h : v < rs.length) (hl : rs.length = 9) : (hole rs v).length = 27 := by
  have := flat_length rs
  unfold hole
  simp only [List.length_append, List.length_take, List.length_drop, List.length_cons, List.length_nil]
  omega
/-- Cells of a form that is not yet written. -/
def zcells : Nat → List PV
  | 0 => []
  | n + 1 => .bool false :: .nilsl :: .nilsl :: zcells n
theorem zcells_drop : List.drop 27 (zcells 9) = [] := rfl
theorem zcells_length : (zcells 9).length = 27 := rfl
theorem zcells_take : List.take 27 (zcells 9) = zcells 9 := rfl

theorem le_zcells (ids : List Nat) : ∀ n, le1s ids (zcells n) (zcells n)
  | 0 => by simp [zcells, le1s]
  | n + 1 => by simp [zcells, le1s, le1, le_zcells ids n]
theorem RetOK.form {st : St} {a id : Nat} {w : Bool} {rs : List Raw} (ha : st.get a = .ptr id 0 0) (hb : st.heap[id]? = some (.box w (flat rs))) (hl : rs.length = 9) : RetOK tab [.cell a 28] 0 st [] (RL rs) := by
  refine RetOK.pure (vs := [.agg (flat rs)]) (cd := (0 = 0 ∧ 0 + 27 ≤ (flat rs).length) ∧ True) ?_ ⟨⟨rfl, by rw [flat_length]; omega⟩, trivial⟩ ?_
  · simp [resVs, resV1, ha, at28, cellsAt, hb, oneOr, flat_take27 hl, TyI.isAgg]
  · simp [oneRes, fzX, fzV, flat_fzCs, RL]
theorem RetOK.form2 {st : St} {a id x : Nat} {w : Bool} {rs : List Raw} {v : FV} (ha : st.get a = .ptr id 0 0) (hb : st.heap[id]? = some (.box w (flat rs))) (hl : rs.length = 9) (hx : st.get x = .fv v) :
    RetOK tab [.cell a 28, .tmp x] 0 st [] (.tup [RL rs, .fv v]) := by
  refine RetOK.pure (vs := [.agg (flat rs), .fv v]) (cd := (0 = 0 ∧ 0 + 27 ≤ (flat rs).length) ∧ True ∧ True) ?_ ⟨⟨rfl, by rw [flat_length]; omega⟩, trivial, trivial⟩ ?_
  · simp [resVs, resV1, ha, at28, cellsAt, hb, oneOr, flat_take27 hl, TyI.isAgg, hx]
  · simp [oneRes, fzX, fzVs, fzV, flat_fzCs, RL, fzC, fz1, fz0]
theorem RetOK.form3 {st : St} {a id x y : Nat} {w : Bool} {rs : List Raw} {v u : FV} (ha : st.get a = .ptr id 0 0) (hb : st.heap[id]? = some (.box w (flat rs))) (hl : rs.length = 9) (hx : st.get x = .fv v) (hy : st.get y = .fv u) :
    RetOK tab [.cell a 28, .tmp x, .tmp y] 0 st [] (.tup [RL rs, .fv v, .fv u]) := by
  refine RetOK.pure (vs := [.agg (flat rs), .fv v, .fv u]) (cd := (0 = 0 ∧ 0 + 27 ≤ (flat rs).length) ∧ True ∧ True ∧ True) ?_ ⟨⟨rfl, by rw [flat_length]; omega⟩, trivial, trivial, trivial⟩ ?_
  · simp [resVs, resV1, ha, at28, cellsAt, hb, oneOr, flat_take27 hl, TyI.isAgg, hx, hy]
  · simp [oneRes, fzX, fzVs, fzV, flat_fzCs, RL, fzC, fz1, fz0]

end Go.Proofs.Yteifpjjnphcdcaa

/- Contracts: the reference's forms: none, Clean, Zero, Scale. -/
namespace Go.Proofs.Yteifpjjnphcdcaa
open Go.AM Go.Pl
set_option maxRecDepth 100000
set_option maxHeartbeats 2000000

theorem den70 (r : Raw) : Den Try.prog 70 [] [r.v] [] (.bool ((r.num.length : Int) == 0)) := by
  unfold Raw.v
  refine den_of tabOk mixed Try.func70 (cd := _) rfl (by decide) rfl (n := 6) rfl rfl (m := 0) rfl ?_
  simp (dsimp := false) (disch := omega) only [List.replicate, Ap_end_ret, rules, tys, eq_self, ↓reduceIte, Nat.reduceAdd, Nat.reduceLT, Nat.reduceLeDiff]
  refine RetOK.pure rfl ⟨trivial, trivial⟩ rfl

theorem none_q {r : Raw} (h : (r.num.length : Int) = 0) : r.q = 0 := by
  have : r.num = [] := List.length_eq_zero_iff.1 (by omega)
  unfold Raw.q
  rw [this]
  exact mkq_num0 rfl

theorem den46 (rs : List Raw) (c : Raw) (hrs : LOk 2000000000 rs) (hc : c.Ok 2000000000) : Den Try.prog 46 [] [RL rs, c.v] [] (FL (rs.map (fun r => r.q * c.q))) := by
  have hlen := hrs.len
  have hfl := flat_length rs
  have h24 := den24 0 (by decide)
  rw [show ((0 : Int) : Rat) = 0 from rfl, FR_eq, N_val, N_val] at h24
  obtain ⟨g, hg⟩ : ∃ g : Raw → Raw, g = fun r => cn (r.q * c.q) := ⟨_, rfl⟩
  have hgm : (rs.map (fun r => r.q * c.q)).map cn = rs.map g := by rw [hg, List.map_map]; rfl
  unfold FL RL Raw.v
  rw [hgm]
  refine den_of tabOk mixed Try.func46 (cd := _) rfl (by decide) rfl (n := 32) rfl rfl (m := 0) rfl ?_
  simp (dsimp := false) (disch := omega) only [List.replicate, rules, tys, eq_self, Nat.reduceAdd, Nat.reduceLT]
  refine ⟨by omega, ?_⟩
  refine WA.loop (α := Nat) (fun i => ⟨[.any, .any, .ptr 0 0 0, .ptr 1 0 0, .ptr 2 0 0, .int .i64 i] ++ List.replicate 28 .any, [.box true (flat (mapTo g i rs)), .box true [.bool c.neg, .fv (.sl (u32s c.num)), .fv (.sl (u32s c.den))], .box true (zcells 9)]⟩)
    (fun i => 8 - i) (fun i => i ≤ 8) 0 ?_ ?_ ?_
  · refine Weak.keep [0, 1, 2] (by simp) rfl ?_ ?_
    · simp [leVs, leV, le1]
    · simp [leH, leO, le1s, le1, le_flat, mapTo_zero, zcells]
  · exact Nat.zero_le _
  · rintro i hi
    have hml := mapTo_length g i rs
    have hfm := flat_length (mapTo g i rs)
    simp (dsimp := false) (disch := omega) only [List.replicate, rules, tys, eq_self, ↓reduceIte]
    refine Br.dec ?_ ?_
    · intro h1 h2
      have hat := flat_at (rs := mapTo g i rs) (i := i) (by omega)
      rw [mapTo_getD g rs (by omega) (Nat.le_refl _)] at hat
      have hst := mapTo_set g rs (i := i) (by omega)
      obtain ⟨r, hr⟩ : ∃ r, rs.getD i rz = r := ⟨_, rfl⟩
      have hok : r.Ok 2000000000 := by rw [← hr]; exact hrs.at i
      rw [hr] at hat hst
      have h70 := den70 r
      unfold Raw.v at h70
      simp (dsimp := false) (disch := omega) only [h2, hat, rules, tys, eq_self, ↓reduceIte, Nat.reduceLT]
      refine ⟨by omega, by omega, ?_⟩
      refine GoCall.pure h70 rfl ?_
      simp (dsimp := false) (disch := omega) only [rules, Nat.reduceAdd]
      refine Br.beqInt ?_ ?_
      · intro h3 h4
        have hset := flat_set (rs := mapTo g i rs) (i := i) (by omega) (decide ((0 : Rat).num < 0)) (limbs (0 : Rat).num.natAbs) (limbs (0 : Rat).den)
        have hgr : g r = ⟨decide ((0 : Rat).num < 0), limbs (0 : Rat).num.natAbs, limbs (0 : Rat).den⟩ := by
          rw [hg]; dsimp only; rw [none_q h3, Rat.zero_mul]; rfl
        rw [← hgr, hst] at hset
        simp (dsimp := false) (disch := omega) only [h4, rules]
        refine GoCall.pure h24 rfl ?_
        simp (dsimp := false) (disch := omega) only [List.append_nil, hset, wrap64, rules, tys, eq_self, ↓reduceIte, Nat.reduceAdd, Nat.reduceLT]
        repeat refine And.intro (by omega) ?_
        refine Ap_loop (i + 1) (by omega) ?_ (by omega)
        refine Weak.keep [0, 1, 2] (by simp) rfl ?_ ?_
        · simp [leVs, leV, le1]
        · simp [leH, leO, le1s, le1, le_flat, zcells]
      · intro h3 h4
        have h32 := den32 r c hok hc
        have hgr : g r = ⟨decide ((r.q * c.q).num < 0), limbs (r.q * c.q).num.natAbs, limbs (r.q * c.q).den⟩ := by
          rw [hg]; rfl
        have hset := flat_set (rs := mapTo g i rs) (i := i) (by omega) (decide ((r.q * c.q).num < 0)) (limbs (r.q * c.q).num.natAbs) (limbs (r.q * c.q).den)
        rw [← hgr, hst] at hset
        rw [FR_eq, N_val, N_val] at h32
        unfold Raw.v at h32
        simp (dsimp := false) (disch := omega) only [h4, rules]
        refine Draw.intro (by kernel_rfl) ?_
        simp (dsimp := false) (disch := omega) only [hat, rules, tys, eq_self, ↓reduceIte, Nat.reduceAdd, Nat.reduceLT, Nat.reduceLeDiff]
        repeat refine And.intro (by omega) ?_
        refine GoCall.pure h32 rfl ?_
        simp (dsimp := false) (disch := omega) only [List.append_nil, hset, wrap64, rules, tys, eq_self, ↓reduceIte, Nat.reduceAdd, Nat.reduceLT]
        repeat refine And.intro (by omega) ?_
        refine Ap_loop (i + 1) (by omega) ?_ (by omega)
        refine Weak.keep [0, 1, 2] (by simp) rfl ?_ ?_
        · simp [leVs, leV, le1]
        · simp [leH, leO, le1s, le1, le_flat, zcells]
    · intro h1 h2
      have hi8 : i = 8 := by omega
      subst hi8
      have hat := flat_at (rs := mapTo g 8 rs) (i := 8) (by omega)
      rw [mapTo_getD g rs (by omega) (Nat.le_refl _)] at hat
      have hst := mapTo_set g rs (i := 8) (by omega)
      have hall := mapTo_all g rs hlen
      obtain ⟨r, hr⟩ : ∃ r, rs.getD 8 rz = r := ⟨_, rfl⟩
      have hok : r.Ok 2000000000 := by rw [← hr]; exact hrs.at 8
      rw [hr] at hat hst
      have h32 := den32 r c hok hc
      have hgr : g r = ⟨decide ((r.q * c.q).num < 0), limbs (r.q * c.q).num.natAbs, limbs (r.q * c.q).den⟩ := by
        rw [hg]; rfl
      have hset := flat_set (rs := mapTo g 8 rs) (i := 8) (by omega) (decide ((r.q * c.q).num < 0)) (limbs (r.q * c.q).num.natAbs) (limbs (r.q * c.q).den)
      rw [← hgr, hst, hall] at hset
      rw [FR_eq, N_val, N_val] at h32
      unfold Raw.v at h32
      simp only [Nat.reduceMul, Nat.reduceAdd] at hat hset
      have hgl : (rs.map g).length = 9 := by simp [hlen]
      have h27 : (flat (rs.map g)).length = 27 := by rw [flat_length]; omega
      have ht := flat_take27 hgl
      simp (dsimp := false) (disch := omega) only [h2, hat, rules, tys, eq_self, ↓reduceIte, Nat.reduceAdd, Nat.reduceBEq, Nat.reduceLeDiff]
      repeat refine And.intro (by omega) ?_
      refine GoCall.pure h32 rfl ?_
      simp (dsimp := false) (disch := omega) only [zcells_drop, zcells_length, List.append_nil, hset, ht, h27, Ap_end_ret, rules, tys, eq_self, ↓reduceIte, Nat.reduceAdd, Nat.reduceLT, Nat.reduceLeDiff]
      repeat refine And.intro (by omega) ?_
      exact RetOK.form rfl rfl hgl

end Go.Proofs.Yteifpjjnphcdcaa

/- Contracts: the reference's forms: Clean, Zero, leading, Norm. -/
namespace Go.Proofs.Yteifpjjnphcdcaa
open Go.AM Go.Pl
set_option maxRecDepth 100000
set_option maxHeartbeats 2000000

theorem den71 (rs : List Raw) (hrs : LOk 2000000000 rs) : Den Try.prog 71 [] [RL rs] [] (FL (rs.map Raw.q)) := by
  have hlen := hrs.len
  have hfl := flat_length rs
  have h24 := den24 0 (by decide)
  rw [show ((0 : Int) : Rat) = 0 from rfl, FR_eq, N_val, N_val] at h24
  obtain ⟨g, hg⟩ : ∃ g : Raw → Raw, g = fun r => cn r.q := ⟨_, rfl⟩
  have hgm : (rs.map Raw.q).map cn = rs.map g := by rw [hg, List.map_map]; rfl
  unfold FL RL
  rw [hgm]
  refine den_of tabOk mixed Try.func71 (cd := _) rfl (by decide) rfl (n := 29) rfl rfl (m := 0) rfl ?_
  simp (dsimp := false) (disch := omega) only [List.replicate, rules, tys, Nat.reduceLT]
  refine ⟨by omega, ?_⟩
  refine WA.loop (α := Nat) (fun i => ⟨[.any, .ptr 0 0 0, .ptr 1 0 0, .int .i64 i] ++ List.replicate 26 .any, [.box true (flat (mapTo g i rs)), .box true (zcells 9)]⟩)
    (fun i => 8 - i) (fun i => i ≤ 8) 0 ?_ ?_ ?_
  · refine Weak.keep [0, 1] (by simp) rfl ?_ ?_
    · simp [leVs, leV, le1]
    · simp [leH, leO, le1s, le1, le_flat, mapTo_zero, zcells]
  · exact Nat.zero_le _
  · rintro i hi
    have hml := mapTo_length g i rs
    have hfm := flat_length (mapTo g i rs)
    simp (dsimp := false) (disch := omega) only [List.replicate, rules, tys, eq_self, ↓reduceIte]
    refine Br.dec ?_ ?_
    · intro h1 h2
      have hat := flat_at (rs := mapTo g i rs) (i := i) (by omega)
      rw [mapTo_getD g rs (by omega) (Nat.le_refl _)] at hat
      have hst := mapTo_set g rs (i := i) (by omega)
      obtain ⟨r, hr⟩ : ∃ r, rs.getD i rz = r := ⟨_, rfl⟩
      have hok : r.Ok 2000000000 := by rw [← hr]; exact hrs.at i
      rw [hr] at hat hst
      have h70 := den70 r
      unfold Raw.v at h70
      simp (dsimp := false) (disch := omega) only [h2, hat, rules, tys, eq_self, ↓reduceIte, Nat.reduceLT]
      refine ⟨by omega, by omega, ?_⟩
      refine GoCall.pure h70 rfl ?_
      simp (dsimp := false) (disch := omega) only [rules, Nat.reduceAdd]
      refine Br.beqInt ?_ ?_
      · intro h3 h4
        have hset := flat_set (rs := mapTo g i rs) (i := i) (by omega) (decide ((0 : Rat).num < 0)) (limbs (0 : Rat).num.natAbs) (limbs (0 : Rat).den)
        have hgr : g r = ⟨decide ((0 : Rat).num < 0), limbs (0 : Rat).num.natAbs, limbs (0 : Rat).den⟩ := by
          rw [hg]; dsimp only; rw [none_q h3]; rfl
        rw [← hgr, hst] at hset
        simp (dsimp := false) (disch := omega) only [h4, rules]
        refine GoCall.pure h24 rfl ?_
        simp (dsimp := false) (disch := omega) only [List.append_nil, hset, wrap64, rules, tys, eq_self, ↓reduceIte, Nat.reduceAdd, Nat.reduceLT]
        repeat refine And.intro (by omega) ?_
        refine Ap_loop (i + 1) (by omega) ?_ (by omega)
        refine Weak.keep [0, 1] (by simp) rfl ?_ ?_
        · simp [leVs, leV, le1]
        · simp [leH, leO, le1s, le1, le_flat, zcells]
      · intro h3 h4
        have h57 := den57 r (hok.mono (by decide))
        have hgr : g r = ⟨decide (r.q.num < 0), limbs r.q.num.natAbs, limbs r.q.den⟩ := by
          rw [hg]; rfl
        have hset := flat_set (rs := mapTo g i rs) (i := i) (by omega) (decide (r.q.num < 0)) (limbs r.q.num.natAbs) (limbs r.q.den)
        rw [← hgr, hst] at hset
        rw [FR_eq, N_val, N_val] at h57
        unfold Raw.v at h57
        simp (dsimp := false) (disch := omega) only [h4, hat, rules, tys, eq_self, ↓reduceIte, Nat.reduceLT]
        repeat refine And.intro (by omega) ?_
        refine GoCall.pure h57 rfl ?_
        simp (dsimp := false) (disch := omega) only [List.append_nil, hset, wrap64, rules, tys, eq_self, ↓reduceIte, Nat.reduceAdd, Nat.reduceLT]
        repeat refine And.intro (by omega) ?_
        refine Ap_loop (i + 1) (by omega) ?_ (by omega)
        refine Weak.keep [0, 1] (by simp) rfl ?_ ?_
        · simp [leVs, leV, le1]
        · simp [leH, leO, le1s, le1, le_flat, zcells]
    · intro h1 h2
      have hi8 : i = 8 := by omega
      subst hi8
      have hat := flat_at (rs := mapTo g 8 rs) (i := 8) (by omega)
      rw [mapTo_getD g rs (by omega) (Nat.le_refl _)] at hat
      have hst := mapTo_set g rs (i := 8) (by omega)
      have hall := mapTo_all g rs hlen
      obtain ⟨r, hr⟩ : ∃ r, rs.getD 8 rz = r := ⟨_, rfl⟩
      have hok : r.Ok 2000000000 := by rw [← hr]; exact hrs.at 8
      rw [hr] at hat hst
      have h57 := den57 r (hok.mono (by decide))
      have hgr : g r = ⟨decide (r.q.num < 0), limbs r.q.num.natAbs, limbs r.q.den⟩ := by
        rw [hg]; rfl
      have hset := flat_set (rs := mapTo g 8 rs) (i := 8) (by omega) (decide (r.q.num < 0)) (limbs r.q.num.natAbs) (limbs r.q.den)
      rw [← hgr, hst, hall] at hset
      rw [FR_eq, N_val, N_val] at h57
      unfold Raw.v at h57
      simp only [Nat.reduceMul, Nat.reduceAdd] at hat hset
      have hgl : (rs.map g).length = 9 := by simp [hlen]
      have h27 : (flat (rs.map g)).length = 27 := by rw [flat_length]; omega
      have ht := flat_take27 hgl
      simp (dsimp := false) (disch := omega) only [h2, hat, rules, tys, eq_self, ↓reduceIte, Nat.reduceAdd, Nat.reduceBEq]
      repeat refine And.intro (by omega) ?_
      refine GoCall.pure h57 rfl ?_
      simp (dsimp := false) (disch := omega) only [zcells_drop, zcells_length, List.append_nil, hset, ht, h27, Ap_end_ret, rules, tys, eq_self, ↓reduceIte, Nat.reduceAdd, Nat.reduceLT, Nat.reduceLeDiff]
      repeat refine And.intro (by omega) ?_
      exact RetOK.form rfl rfl hgl

theorem rz_ok {k : Nat} : rz.Ok k := ⟨Dig.nil, Dig.nil, Nat.zero_le _, Nat.zero_le _⟩
theorem rz_q : rz.q = 0 := mkq_num0 rfl
theorem zeros_ok {k : Nat} : LOk k (List.replicate 9 rz) := ⟨rfl, fun r hr => by rw [List.eq_of_mem_replicate hr]; exact rz_ok⟩

theorem den43 : Den Try.prog 43 [] [] [] (FL (List.replicate 9 0)) := by
  have h71 := den71 (List.replicate 9 rz) zeros_ok
  have e : (List.replicate 9 rz).map Raw.q = List.replicate 9 0 := by rw [List.map_replicate, rz_q]
  rw [e] at h71
  unfold FL RL at h71 ⊢
  obtain ⟨zs, hz⟩ : ∃ zs, (List.replicate 9 (0 : Rat)).map cn = zs := ⟨_, rfl⟩
  have hzl : zs.length = 9 := by rw [← hz]; simp
  rw [hz] at h71 ⊢
  have h27 : (flat zs).length = 27 := by rw [flat_length]; omega
  refine den_of tabOk mixed Try.func43 (cd := _) rfl (by decide) rfl (n := 3) rfl rfl (m := 0) rfl ?_
  simp (dsimp := false) (disch := omega) only [List.replicate, rules, tys]
  refine GoCall.pure h71 rfl ?_
  simp (dsimp := false) (disch := omega) only [flat_reloc, List.append_nil, h27, Ap_end_ret, rules, tys, eq_self, Nat.reduceAdd, Nat.reduceLT, Nat.reduceLeDiff]
  repeat refine And.intro (by omega) ?_
  exact RetOK.form rfl rfl hzl

end Go.Proofs.Yteifpjjnphcdcaa

/- Contracts: the reference's forms: leading, Norm, Same. -/
namespace Go.Proofs.Yteifpjjnphcdcaa
open Go.AM Go.Pl
set_option maxRecDepth 100000
set_option maxHeartbeats 2000000

theorem den42 (rs : List Raw) (hrs : LOk 2000000000 rs) : Den Try.prog 42 [] [RL rs] [] (leadL rs).v := by
  have hlen := hrs.len
  have hfl := flat_length rs
  unfold RL
  refine den_of tabOk mixed Try.func42 (cd := _) rfl (by decide) rfl (n := 27) rfl rfl (m := 0) rfl ?_
  simp (dsimp := false) (disch := omega) only [List.replicate, rules, tys, Nat.reduceLT]
  refine ⟨by omega, ?_⟩
  refine WA.loop (α := Nat) (fun i => ⟨[.any, .ptr 0 0 0, .ptr 1 0 0, .int .i64 i] ++ List.replicate 24 .any, [.box true (flat rs), .box true [.bool false, .nilsl, .nilsl]]⟩)
    (fun i => 8 - i) (fun i => i ≤ 8 ∧ leadL (rs.drop i) = leadL rs) 0 ?_ ?_ ?_
  · refine Weak.keep [0, 1] (by simp) rfl ?_ ?_
    · simp [leVs, leV, le1]
    · simp [leH, leO, le1s, le1, le_flat]
  · exact ⟨Nat.zero_le _, rfl⟩
  · rintro i ⟨hi, hle⟩
    simp (dsimp := false) (disch := omega) only [List.replicate, rules, tys, eq_self, ↓reduceIte]
    refine Br.dec ?_ ?_
    · intro h1 h2
      have hat := flat_at (rs := rs) (i := i) (by omega)
      have hld := leadL_drop (rs := rs) (i := i) (by omega)
      obtain ⟨r, hr⟩ : ∃ r, rs.getD i rz = r := ⟨_, rfl⟩
      have hok : r.Ok 2000000000 := by rw [← hr]; exact hrs.at i
      rw [hr] at hat hld
      have h70 := den70 r
      have h26 := den26 r (hok.mono (by decide))
      unfold Raw.v at h70 h26
      simp (dsimp := false) (disch := omega) only [h2, hat, rules, tys, eq_self, ↓reduceIte, Nat.reduceLT]
      refine ⟨by omega, by omega, ?_⟩
      refine GoCall.pure h70 rfl ?_
      simp (dsimp := false) (disch := omega) only [rules, Nat.reduceAdd]
      by_cases h3 : (r.num.length : Int) = 0
      · have hb : ((r.num.length : Int) == 0) = true := by rw [beq_iff_eq]; exact h3
        have hb2 : (!true) = false := rfl
        rw [if_pos (none_q h3)] at hld
        simp (dsimp := false) (disch := omega) only [hb, hb2, wrap64, rules, tys, eq_self, ↓reduceIte]
        refine Ap_loop (i + 1) (by omega) ?_ ⟨by omega, by rw [← hld, hle]⟩
        refine Weak.keep [0, 1] (by simp) rfl ?_ ?_
        · simp [leVs, leV, le1]
        · simp [leH, leO, le1s, le1, le_flat]
      · have hb : ((r.num.length : Int) == 0) = false := by rw [beq_eq_false_iff_ne]; exact h3
        have hb2 : (!false) = true := rfl
        simp (dsimp := false) (disch := omega) only [hb, hb2, hat, rules, tys, eq_self, ↓reduceIte, Nat.reduceLT]
        refine ⟨by omega, by omega, ?_⟩
        refine GoCall.pure h26 rfl ?_
        simp (dsimp := false) (disch := omega) only [rules, tys, eq_self, ↓reduceIte, Nat.reduceAdd]
        refine Br.bneInt ?_ ?_
        · intro h5 h6
          have hq : r.q ≠ 0 := fun h => h5 (sgq_eq_zero.2 h)
          rw [if_neg hq] at hld
          rw [← hle, hld]
          simp (dsimp := false) (disch := omega) only [h6, hat, Ap_end_ret, rules, tys, eq_self, ↓reduceIte, Nat.reduceAdd, Nat.reduceLT, Nat.reduceLeDiff]
          repeat refine And.intro (by omega) ?_
          refine RetOK.pure rfl ⟨⟨rfl, Nat.le_refl 3⟩, trivial⟩ rfl
        · intro h5 h6
          rw [if_pos (sgq_eq_zero.1 h5)] at hld
          simp (dsimp := false) (disch := omega) only [h6, wrap64, rules, tys, eq_self, ↓reduceIte]
          refine Ap_loop (i + 1) (by omega) ?_ ⟨by omega, by rw [← hld, hle]⟩
          refine Weak.keep [0, 1] (by simp) rfl ?_ ?_
          · simp [leVs, leV, le1]
          · simp [leH, leO, le1s, le1, le_flat]
    · intro h1 h2
      have hi8 : i = 8 := by omega
      subst hi8
      have hat := flat_at (rs := rs) (i := 8) (by omega)
      simp only [Nat.reduceMul] at hat
      have hld := leadL_last (rs := rs) (i := 8) (by omega)
      rw [← hle, hld]
      simp (dsimp := false) (disch := omega) only [h2, hat, Ap_end_ret, rules, tys, eq_self, ↓reduceIte, Nat.reduceAdd, Nat.reduceBEq, Nat.reduceLT, Nat.reduceLeDiff]
      repeat refine And.intro (by omega) ?_
      refine RetOK.pure rfl ⟨⟨rfl, Nat.le_refl 3⟩, trivial⟩ rfl

end Go.Proofs.Yteifpjjnphcdcaa

/- Contracts: the reference's forms: Norm, Same. -/
namespace Go.Proofs.Yteifpjjnphcdcaa
open Go.AM Go.Pl
set_option maxRecDepth 100000
set_option maxHeartbeats 2000000

theorem FL_len (qs : List Rat) (h : qs.length = 9) : (flat (qs.map cn)).length = 27 := by rw [flat_length, List.length_map]; omega

theorem den13 (rs : List Raw) (hrs : LOk 1000 rs) : Den Try.prog 13 [] [RL rs] [] (FL (nrm rs)) := by
  have hlen := hrs.len
  have hfl := flat_length rs
  have hne : rs ≠ [] := fun h => by rw [h] at hlen; simp at hlen
  have hlo := hrs.ok _ (leadL_mem hne)
  have h42 := den42 rs (hrs.mono (by decide))
  have h26 := den26 (leadL rs) (hlo.mono (by decide))
  obtain ⟨c, hc⟩ : ∃ c, leadL rs = c := ⟨_, rfl⟩
  have b1 := hlo.bd (by decide)
  rw [hc] at hlo h42 h26 b1
  by_cases h0 : c.q = 0
  · have h43 := den43
    rw [nrm_zero (by rw [hc]; exact h0)]
    rw [sgq_eq_zero.2 h0] at h26
    have h27 := FL_len (List.replicate 9 0) rfl
    unfold FL RL at h43 ⊢
    unfold Raw.v at h42 h26
    obtain ⟨zs, hz⟩ : ∃ zs, (List.replicate 9 (0 : Rat)).map cn = zs := ⟨_, rfl⟩
    have hzl : zs.length = 9 := by rw [← hz]; simp
    rw [hz] at h43 h27 ⊢
    unfold RL at h42
    have e00 : ((0 : Int) == 0) = true := rfl
    refine den_of tabOk mixed Try.func13 (cd := _) rfl (by decide) rfl (n := 25) rfl rfl (m := 0) rfl ?_
    simp (dsimp := false) (disch := omega) only [flat_take27 hlen, rules, tys, eq_self, ↓reduceIte, Nat.reduceLT]
    refine ⟨by omega, by omega, ?_⟩
    refine GoCall.pure h42 (by simp [fzAs, fzA, flat_fz, flatF_fv]) ?_
    simp (dsimp := false) (disch := omega) only [flat_ids, List.append_nil, rules, tys, eq_self, ↓reduceIte, Nat.reduceAdd, Nat.reduceLT, Nat.reduceLeDiff]
    refine GoCall.pure h26 rfl ?_
    simp (dsimp := false) (disch := omega) only [List.append_nil, e00, rules, tys, eq_self, ↓reduceIte, Nat.reduceAdd]
    refine GoCall.pure h43 rfl ?_
    simp (dsimp := false) (disch := omega) only [flat_reloc, List.append_nil, h27, Ap_end_ret, rules, tys, eq_self, Nat.reduceAdd, Nat.reduceLT, Nat.reduceLeDiff]
    exact RetOK.form rfl rfl hzl
  · have h1 := den24 1 (by decide)
    have hb1 : Bd 1 ((1 : Int) : Rat) := ⟨by decide, by decide⟩
    have hnr := nrm_of (by rw [hc]; exact h0)
    rw [hc] at hnr
    have hmap : rs.map (fun r => r.q / absq c.q) = rs.map (fun r => r.q * (1 / absq c.q)) := by
      apply List.map_congr_left; intro r _; exact (one_div_mul _ _).symm
    rw [hnr, hmap]
    have hba : Bd 1000 (absq c.q) := by unfold absq; split; exact b1.neg; exact b1
    have ha0 := absq_zero h0
    have hok2 := cn_ok (hb1.div hba ha0 (by decide))
    have hsc := den46 rs (cn (1 / absq c.q)) (hrs.mono (by decide)) (Raw.Ok.mono hok2 (by decide))
    rw [cn_q] at hsc
    have hgl : (rs.map (fun r => r.q * (1 / absq c.q))).length = 9 := by simp [hlen]
    have h27 := FL_len _ hgl
    have e10 : ((-1 : Int) == 0) = false := rfl
    have e11 : ((-1 : Int) == -1) = true := rfl
    have e20 : ((1 : Int) == 0) = false := rfl
    have e21 : ((1 : Int) == -1) = false := rfl
    have hr1 : ∀ x : Rat, ((1 : Int) : Rat) / x = 1 / x := fun _ => rfl
    unfold FL RL at hsc ⊢
    unfold RL at h42
    change Den Try.prog 46 [] [.agg (flat rs), FR (1 / absq c.q)] [] _ at hsc
    obtain ⟨zs, hz⟩ : ∃ zs, (rs.map (fun r => r.q * (1 / absq c.q))).map cn = zs := ⟨_, rfl⟩
    have hzl : zs.length = 9 := by rw [← hz]; simp [hlen]
    rw [hz] at hsc h27 ⊢
    by_cases hneg : c.q.num < 0
    · have habs : absq c.q = -c.q := if_pos hneg
      rw [habs] at hsc ha0
      rw [sgq_neg hneg] at h26
      have h44 := den44 c (hlo.mono (by decide))
      have h45 := den45 (cn 1) (cn (-c.q)) (Raw.Ok.mono (cn_ok hb1) (by decide)) (Raw.Ok.mono (cn_ok b1.neg) (by decide)) (by rw [cn_q]; exact ha0)
      rw [cn_q, cn_q] at h45
      change Den Try.prog 45 [] [FR 1, FR (-c.q)] [] _ at h45
      change Den Try.prog 24 [] _ [] (FR 1) at h1
      rw [FR_eq] at h44 h1 hsc
      rw [FR_eq, FR_eq, FR_eq] at h45
      unfold Raw.v at h42 h26 h44
      refine den_of tabOk mixed Try.func13 (cd := _) rfl (by decide) rfl (n := 25) rfl rfl (m := 0) rfl ?_
      simp (dsimp := false) (disch := omega) only [flat_take27 hlen, rules, tys, eq_self, ↓reduceIte, Nat.reduceLT]
      refine ⟨by omega, by omega, ?_⟩
      refine GoCall.pure h42 (by simp [fzAs, fzA, flat_fz, flatF_fv]) ?_
      simp (dsimp := false) (disch := omega) only [flat_ids, List.append_nil, rules, tys, eq_self, ↓reduceIte, Nat.reduceAdd, Nat.reduceLT, Nat.reduceLeDiff]
      refine GoCall.pure h26 rfl ?_
      simp (dsimp := false) (disch := omega) only [List.append_nil, e10, e11, rules, tys, eq_self, ↓reduceIte, Nat.reduceAdd, Nat.reduceLeDiff]
      refine GoCall.pure h44 rfl ?_
      simp (dsimp := false) (disch := omega) only [List.append_nil, rules, tys, eq_self, Nat.reduceAdd, Nat.reduceLT, Nat.reduceLeDiff]
      refine Draw.intro (by kernel_rfl) ?_
      simp (dsimp := false) (disch := omega) only [rules]
      refine GoCall.pure h1 rfl ?_
      simp (dsimp := false) (disch := omega) only [List.append_nil, rules, tys, eq_self, ↓reduceIte, Nat.reduceAdd, Nat.reduceLeDiff]
      refine GoCall.pure h45 rfl ?_
      simp (dsimp := false) (disch := omega) only [List.append_nil, flat_take27 hlen, rules, tys, eq_self, ↓reduceIte, Nat.reduceAdd, Nat.reduceLT, Nat.reduceLeDiff]
      repeat refine And.intro (by omega) ?_
      refine GoCall.pure hsc (by simp [fzAs, fzA, flat_fz, flatF_fv, fzs, fz0]) ?_
      simp (dsimp := false) (disch := omega) only [flat_ids, flat_reloc, List.append_nil, h27, Ap_end_ret, rules, tys, eq_self, Nat.reduceAdd, Nat.reduceLT, Nat.reduceLeDiff]
      exact RetOK.form rfl rfl hzl
    · have habs : absq c.q = c.q := if_neg hneg
      rw [habs] at hsc ha0
      rw [sgq_one h0 hneg] at h26
      have h45 := den45 (cn 1) c (Raw.Ok.mono (cn_ok hb1) (by decide)) (hlo.mono (by decide)) h0
      rw [cn_q] at h45
      change Den Try.prog 45 [] [FR 1, c.v] [] _ at h45
      change Den Try.prog 24 [] _ [] (FR 1) at h1
      rw [FR_eq] at h1 hsc
      rw [FR_eq, FR_eq] at h45
      unfold Raw.v at h42 h26 h45
      refine den_of tabOk mixed Try.func13 (cd := _) rfl (by decide) rfl (n := 25) rfl rfl (m := 0) rfl ?_
      simp (dsimp := false) (disch := omega) only [flat_take27 hlen, rules, tys, eq_self, ↓reduceIte, Nat.reduceLT]
      refine ⟨by omega, by omega, ?_⟩
      refine GoCall.pure h42 (by simp [fzAs, fzA, flat_fz, flatF_fv]) ?_
      simp (dsimp := false) (disch := omega) only [flat_ids, List.append_nil, rules, tys, eq_self, ↓reduceIte, Nat.reduceAdd, Nat.reduceLT, Nat.reduceLeDiff]
      refine GoCall.pure h26 rfl ?_
      simp (dsimp := false) (disch := omega) only [List.append_nil, e20, e21, rules, tys, eq_self, ↓reduceIte, Nat.reduceAdd]
      refine Draw.intro (by kernel_rfl) ?_
      simp (dsimp := false) (disch := omega) only [rules]
      refine GoCall.pure h1 rfl ?_
      simp (dsimp := false) (disch := omega) only [List.append_nil, rules, tys, eq_self, ↓reduceIte, Nat.reduceAdd, Nat.reduceLeDiff]
      refine GoCall.pure h45 rfl ?_
      simp (dsimp := false) (disch := omega) only [List.append_nil, flat_take27 hlen, rules, tys, eq_self, ↓reduceIte, Nat.reduceAdd, Nat.reduceLT, Nat.reduceLeDiff]
      repeat refine And.intro (by omega) ?_
      refine GoCall.pure hsc (by simp [fzAs, fzA, flat_fz, flatF_fv, fzs, fz0]) ?_
      simp (dsimp := false) (disch := omega) only [flat_ids, flat_reloc, List.append_nil, h27, Ap_end_ret, rules, tys, eq_self, Nat.reduceAdd, Nat.reduceLT, Nat.reduceLeDiff]
      exact RetOK.form rfl rfl hzl

end Go.Proofs.Yteifpjjnphcdcaa

/- Contracts: the reference's forms: Same; linear: each. -/
namespace Go.Proofs.Yteifpjjnphcdcaa
open Go.AM Go.Pl
set_option maxRecDepth 100000
set_option maxHeartbeats 2000000

theorem getD_map_cn {p : List Rat} {i : Nat} (h : i < p.length) : (p.map cn).getD i rz = cn (p.getD i 0) := by
  simp [List.getD_eq_getElem?_getD, h]

theorem den11 (p q : List Rat) (hp : p.length = 9) (hq : q.length = 9) (bp : ∀ x ∈ p, Bd 1000000000 x) (bq : ∀ x ∈ q, Bd 1000000000 x) : Den Try.prog 11 [] [FL p, FL q] [] (.bool (decide (p = q))) := by
  have hlp : (p.map cn).length = 9 := by simp [hp]
  have hlq : (q.map cn).length = 9 := by simp [hq]
  have fp := FL_len p hp
  have fq := FL_len q hq
  have okp : ∀ i, i < 9 → (cn (p.getD i 0)).Ok 5000000000 := fun i hi => by
    refine Raw.Ok.mono (cn_ok (bp _ ?_)) (by decide)
    rw [List.getD_eq_getElem?_getD, List.getElem?_eq_getElem (by omega)]; exact List.getElem_mem _
  have okq : ∀ i, i < 9 → (cn (q.getD i 0)).Ok 5000000000 := fun i hi => by
    refine Raw.Ok.mono (cn_ok (bq _ ?_)) (by decide)
    rw [List.getD_eq_getElem?_getD, List.getElem?_eq_getElem (by omega)]; exact List.getElem_mem _
  unfold FL RL
  refine den_of tabOk mixed Try.func11 (cd := _) rfl (by decide) rfl (n := 23) rfl rfl (m := 0) rfl ?_
  simp (dsimp := false) (disch := omega) only [List.replicate, rules, tys, Nat.reduceLT]
  refine ⟨by omega, by omega, ?_⟩
  refine WA.loop (α := Nat) (fun i => ⟨[.any, .any, .ptr 0 0 0, .ptr 1 0 0, .any, .int .i64 i] ++ List.replicate 19 .any, [.box true (flat (p.map cn)), .box true (flat (q.map cn))]⟩)
    (fun i => 8 - i) (fun i => i ≤ 8 ∧ p.take i = q.take i) 0 ?_ ?_ ?_
  · refine Weak.keep [0, 1] (by simp) rfl ?_ ?_
    · simp [leVs, leV, le1]
    · simp [leH, leO, le_flat]
  · exact ⟨Nat.zero_le _, rfl⟩
  · rintro i ⟨hi, hpq⟩
    have hat1 := flat_at (rs := p.map cn) (i := i) (by omega)
    have hat2 := flat_at (rs := q.map cn) (i := i) (by omega)
    rw [getD_map_cn (by omega)] at hat1 hat2
    have h35 := den35 (cn (p.getD i 0)) (cn (q.getD i 0)) (okp i (by omega)) (okq i (by omega))
    rw [sameR_cn] at h35
    have htk : p.getD i 0 = q.getD i 0 → p.take (i + 1) = q.take (i + 1) := fun h => by
      rw [List.take_succ_eq_append_getElem (by omega), List.take_succ_eq_append_getElem (by omega), hpq]
      simp only [List.getD_eq_getElem?_getD, List.getElem?_eq_getElem (show i < p.length by omega), List.getElem?_eq_getElem (show i < q.length by omega), Option.getD_some] at h
      rw [h]
    have hne : p.getD i 0 ≠ q.getD i 0 → p ≠ q := fun h h2 => h (by rw [h2])
    obtain ⟨x, hx⟩ : ∃ x, cn (p.getD i 0) = x := ⟨_, rfl⟩
    obtain ⟨y, hy⟩ : ∃ x, cn (q.getD i 0) = x := ⟨_, rfl⟩
    rw [hx] at hat1 h35
    rw [hy] at hat2 h35
    unfold Raw.v at h35
    simp (dsimp := false) (disch := omega) only [List.replicate, rules, tys, eq_self, ↓reduceIte]
    refine Br.dec ?_ ?_
    · intro h1 h2
      simp (dsimp := false) (disch := omega) only [h2, rules]
      refine Draw.intro (by kernel_rfl) ?_
      simp (dsimp := false) (disch := omega) only [hat1, hat2, rules, tys, eq_self, ↓reduceIte, Nat.reduceLT]
      repeat refine And.intro (by omega) ?_
      refine GoCall.pure h35 rfl ?_
      by_cases he : p.getD i 0 = q.getD i 0
      · have hb : (!decide (p.getD i 0 = q.getD i 0)) = false := by rw [decide_eq_true he]; rfl
        simp (dsimp := false) (disch := omega) only [hb, wrap64, rules, tys, eq_self, ↓reduceIte, Nat.reduceAdd]
        refine Ap_loop (i + 1) (by omega) ?_ ⟨by omega, htk he⟩
        refine Weak.keep [0, 1] (by simp) rfl ?_ ?_
        · simp [leVs, leV, le1]
        · simp [leH, leO, le_flat]
      · have hb : (!decide (p.getD i 0 = q.getD i 0)) = true := by rw [decide_eq_false he]; rfl
        rw [decide_eq_false (hne he)]
        simp (dsimp := false) (disch := omega) only [hb, Ap_end_ret, rules, Nat.reduceAdd]
        refine RetOK.pure rfl ⟨trivial, trivial⟩ rfl
    · intro h1 h2
      have hi8 : i = 8 := by omega
      subst hi8
      simp only [Nat.reduceMul] at hat1 hat2
      simp (dsimp := false) (disch := omega) only [h2, hat1, hat2, rules, tys, eq_self, ↓reduceIte, Nat.reduceAdd, Nat.reduceBEq]
      repeat refine And.intro (by omega) ?_
      refine GoCall.pure h35 rfl ?_
      simp (dsimp := false) (disch := omega) only [Ap_end_ret, rules, Nat.reduceAdd]
      have hd : decide (p = q) = decide (p.getD 8 0 = q.getD 8 0) := by
        by_cases he : p.getD 8 0 = q.getD 8 0
        · rw [decide_eq_true he]
          have h9 := htk he
          rw [List.take_of_length_le (by omega), List.take_of_length_le (by omega)] at h9
          exact decide_eq_true h9
        · rw [decide_eq_false he, decide_eq_false (hne he)]
      rw [hd]
      refine RetOK.pure rfl ⟨trivial, trivial⟩ rfl

theorem den38a (rs : List Raw) (g : Raw → Rat) (hrs : rs.length = 9)
    (hf : ∀ r ∈ rs, Den Try.prog 41 [] [r.v] [] (FR (g r))) : Den Try.prog 38 [] [RL rs, .fv (.lit (.func (.func 41) #[] #[]))] [] (FL (rs.map g)) := by
  have hfl := flat_length rs
  have hmem : ∀ i, i < 9 → rs.getD i rz ∈ rs := fun i hi => by
    rw [List.getD_eq_getElem?_getD, List.getElem?_eq_getElem (by omega)]; exact List.getElem_mem _
  obtain ⟨g', hg'⟩ : ∃ g' : Raw → Raw, g' = fun r => cn (g r) := ⟨_, rfl⟩
  have hgm : (rs.map g).map cn = rs.map g' := by rw [hg', List.map_map]; rfl
  have hz0 : outTo g' 0 rs = List.replicate 9 rz := by rw [outTo_zero, hrs]
  unfold FL RL
  rw [hgm]
  refine den_of tabOk mixed Try.func38 (cd := _) rfl (by decide) rfl (n := 26) rfl rfl (m := 0) rfl ?_
  simp (dsimp := false) (disch := omega) only [List.replicate, rules, tys, Nat.reduceLT]
  refine ⟨by omega, ?_⟩
  refine WA.loop (α := Nat) (fun i => ⟨[.any, .fv (.lit (.func (.func 41) #[] #[])), .ptr 0 0 0, .any, .ptr 1 0 0, .ptr 1 0 0, .any, .any, .int .i64 i] ++ List.replicate 19 .any, [.box true (flat rs), .box true (flat (outTo g' i rs))]⟩)
    (fun i => 8 - i) (fun i => i ≤ 8) 0 ?_ ?_ ?_
  · refine Weak.keep [0, 1] (by simp) rfl ?_ ?_
    · simp [leVs, leV, le1]
    · simp [leH, leO, le1s, le1, le_flat, hz0, List.replicate, flat, rz, u32s]
  · exact Nat.zero_le _
  · rintro i hi
    have hol := outTo_length g' rs (i := i) (by omega)
    have hof := flat_length (outTo g' i rs)
    have hat := flat_at (rs := rs) (i := i) (by omega)
    have hst := outTo_set g' rs (i := i) (by omega)
    have hden := hf _ (hmem i (by omega))
    obtain ⟨r, hr⟩ : ∃ r, rs.getD i rz = r := ⟨_, rfl⟩
    rw [hr] at hat hst hden
    have hgr : g' r = ⟨decide ((g r).num < 0), limbs (g r).num.natAbs, limbs (g r).den⟩ := by rw [hg']; rfl
    have hset := flat_set (rs := outTo g' i rs) (i := i) (by omega) (decide ((g r).num < 0)) (limbs (g r).num.natAbs) (limbs (g r).den)
    rw [← hgr, hst] at hset
    rw [FR_eq, N_val, N_val] at hden
    unfold Raw.v at hden
    simp (dsimp := false) (disch := omega) only [List.replicate, rules, tys, eq_self, ↓reduceIte]
    refine Br.dec ?_ ?_
    · intro h1 h2
      simp (dsimp := false) (disch := omega) only [h2, rules]
      refine Draw.intro (by kernel_rfl) ?_
      simp (dsimp := false) (disch := omega) only [hat, rules, tys, eq_self, ↓reduceIte, Nat.reduceLT]
      repeat refine And.intro (by omega) ?_
      refine GoCall.pure hden rfl ?_
      simp (dsimp := false) (disch := omega) only [List.append_nil, hset, wrap64, rules, tys, eq_self, ↓reduceIte, Nat.reduceAdd, Nat.reduceLT]
      repeat refine And.intro (by omega) ?_
      refine Ap_loop (i + 1) (by omega) ?_ (by omega)
      refine Weak.keep [0, 1] (by simp) rfl ?_ ?_
      · simp [leVs, leV, le1]
      · simp [leH, leO, le_flat]
    · intro h1 h2
      have hi8 : i = 8 := by omega
      subst hi8
      rw [outTo_all g' (n := 8 + 1) rs hrs] at hset
      simp only [Nat.reduceMul, Nat.reduceAdd] at hat hset
      have hgl : (rs.map g').length = 9 := by simp [hrs]
      have h27 : (flat (rs.map g')).length = 27 := by rw [flat_length]; omega
      have hd27 : List.drop 27 (flat (rs.map g')) = [] := List.drop_of_length_le (by omega)
      simp (dsimp := false) (disch := omega) only [h2, hat, rules, tys, eq_self, ↓reduceIte, Nat.reduceAdd, Nat.reduceBEq]
      repeat refine And.intro (by omega) ?_
      refine GoCall.pure hden rfl ?_
      simp (dsimp := false) (disch := omega) only [List.append_nil, hset, h27, flat_take27 hgl, hd27, Ap_end_ret, rules, tys, eq_self, ↓reduceIte, Nat.reduceAdd, Nat.reduceLT, Nat.reduceLeDiff]
      repeat refine And.intro (by omega) ?_
      exact RetOK.form rfl rfl hgl

theorem den38b (rs : List Raw) (k : Nat) (x : FV) (g : Raw → Rat) (hrs : rs.length = 9)
    (hf : ∀ r ∈ rs, Den Try.prog k [] [r.v, .fv x] [] (FR (g r))) : Den Try.prog 38 [] [RL rs, .fv (.fn (.func k) [] [x])] [] (FL (rs.map g)) := by
  have hfl := flat_length rs
  have hmem : ∀ i, i < 9 → rs.getD i rz ∈ rs := fun i hi => by
    rw [List.getD_eq_getElem?_getD, List.getElem?_eq_getElem (by omega)]; exact List.getElem_mem _
  obtain ⟨g', hg'⟩ : ∃ g' : Raw → Raw, g' = fun r => cn (g r) := ⟨_, rfl⟩
  have hgm : (rs.map g).map cn = rs.map g' := by rw [hg', List.map_map]; rfl
  have hz0 : outTo g' 0 rs = List.replicate 9 rz := by rw [outTo_zero, hrs]
  unfold FL RL
  rw [hgm]
  refine den_of tabOk mixed Try.func38 (cd := _) rfl (by decide) rfl (n := 26) rfl rfl (m := 0) rfl ?_
  simp (dsimp := false) (disch := omega) only [List.replicate, rules, tys, Nat.reduceLT]
  refine ⟨by omega, ?_⟩
  refine WA.loop (α := Nat) (fun i => ⟨[.any, .fv (.fn (.func k) [] [x]), .ptr 0 0 0, .any, .ptr 1 0 0, .ptr 1 0 0, .any, .any, .int .i64 i] ++ List.replicate 19 .any, [.box true (flat rs), .box true (flat (outTo g' i rs))]⟩)
    (fun i => 8 - i) (fun i => i ≤ 8) 0 ?_ ?_ ?_
  · refine Weak.keep [0, 1] (by simp) rfl ?_ ?_
    · simp [leVs, leV, le1]
    · simp [leH, leO, le1s, le1, le_flat, hz0, List.replicate, flat, rz, u32s]
  · exact Nat.zero_le _
  · rintro i hi
    have hol := outTo_length g' rs (i := i) (by omega)
    have hof := flat_length (outTo g' i rs)
    have hat := flat_at (rs := rs) (i := i) (by omega)
    have hst := outTo_set g' rs (i := i) (by omega)
    have hden := hf _ (hmem i (by omega))
    obtain ⟨r, hr⟩ : ∃ r, rs.getD i rz = r := ⟨_, rfl⟩
    rw [hr] at hat hst hden
    have hgr : g' r = ⟨decide ((g r).num < 0), limbs (g r).num.natAbs, limbs (g r).den⟩ := by rw [hg']; rfl
    have hset := flat_set (rs := outTo g' i rs) (i := i) (by omega) (decide ((g r).num < 0)) (limbs (g r).num.natAbs) (limbs (g r).den)
    rw [← hgr, hst] at hset
    rw [FR_eq, N_val, N_val] at hden
    unfold Raw.v at hden
    simp (dsimp := false) (disch := omega) only [List.replicate, rules, tys, eq_self, ↓reduceIte]
    refine Br.dec ?_ ?_
    · intro h1 h2
      simp (dsimp := false) (disch := omega) only [h2, rules]
      refine Draw.intro (by kernel_rfl) ?_
      simp (dsimp := false) (disch := omega) only [hat, rules, tys, eq_self, ↓reduceIte, Nat.reduceLT]
      repeat refine And.intro (by omega) ?_
      refine GoCall.pure hden rfl ?_
      simp (dsimp := false) (disch := omega) only [List.append_nil, hset, wrap64, rules, tys, eq_self, ↓reduceIte, Nat.reduceAdd, Nat.reduceLT]
      repeat refine And.intro (by omega) ?_
      refine Ap_loop (i + 1) (by omega) ?_ (by omega)
      refine Weak.keep [0, 1] (by simp) rfl ?_ ?_
      · simp [leVs, leV, le1]
      · simp [leH, leO, le_flat]
    · intro h1 h2
      have hi8 : i = 8 := by omega
      subst hi8
      rw [outTo_all g' (n := 8 + 1) rs hrs] at hset
      simp only [Nat.reduceMul, Nat.reduceAdd] at hat hset
      have hgl : (rs.map g').length = 9 := by simp [hrs]
      have h27 : (flat (rs.map g')).length = 27 := by rw [flat_length]; omega
      have hd27 : List.drop 27 (flat (rs.map g')) = [] := List.drop_of_length_le (by omega)
      simp (dsimp := false) (disch := omega) only [h2, hat, rules, tys, eq_self, ↓reduceIte, Nat.reduceAdd, Nat.reduceBEq]
      repeat refine And.intro (by omega) ?_
      refine GoCall.pure hden rfl ?_
      simp (dsimp := false) (disch := omega) only [List.append_nil, hset, h27, flat_take27 hgl, hd27, Ap_end_ret, rules, tys, eq_self, ↓reduceIte, Nat.reduceAdd, Nat.reduceLT, Nat.reduceLeDiff]
      repeat refine And.intro (by omega) ?_
      exact RetOK.form rfl rfl hgl

end Go.Proofs.Yteifpjjnphcdcaa
