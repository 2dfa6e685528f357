/- The abstract machine: values that are built, literals of slices, frozen variables. -/
import Derived.Test.YtddnnhlcpffbdaaGreatT4
import Derived.Laws.Tables

namespace Go.AM

section
variable {P : Program} {T : Tab}

structure CellsRd (w : World) (X : Nat → Prop) (ρ : Places) (us : Array Value) (cs : List PV) : Prop where
  n : us.size = cs.length
  one : ∀ (i : Nat) u, us[i]? = some u → u.oneCell' = true
  rd : ∀ (i : Nat) u x, us[i]? = some u → cs[i]? = some x → PRd w X ρ u x

theorem fill_rd {w : World} {X : Nat → Prop} {ρ : Places} {pl : Nat → Option (Nat × Nat)} (hpl : ∀ i off s, pl i = some (off, s) → 0 < s) :
    ∀ (pc : List (Nat × Value)) (pv : List (Nat × PV)) (us : Array Value) (cs cs' : List PV), pc.length = pv.length → (∀ (k : Nat) a b, pc[k]? = some a → pv[k]? = some b → a.1 = b.1 ∧ PRd w X ρ a.2 b.2) →
      CellsRd w X ρ us cs → fillP pl cs pv = some cs' → ∃ us', Instr.fill pl us pc = some us' ∧ CellsRd w X ρ us' cs'
  | [], [], us, cs, cs', _, _, h, hf => by
    simp only [fillP, Option.some.injEq] at hf
    subst hf
    exact ⟨us, rfl, h⟩
  | (i, u) :: pc, (j, x) :: pv, us, cs, cs', hl, hp, h, hf => by
    obtain ⟨h1, h2⟩ := hp 0 _ _ rfl rfl
    simp only at h1 h2
    subst h1
    simp only [fillP] at hf
    split at hf
    · cases hf
    · rename_i off size hpi
      split at hf
      · rename_i hc
        have hpos := hpl _ _ _ hpi
        obtain ⟨hsz, hone⟩ := cells_size h2 (by omega)
        have hrd := cells_rd h2
        have hnew : CellsRd w X ρ (u.cells.zipIdx.foldl (fun cs (p : Value × Nat) => cs.setIfInBounds (off + p.2) p.1) us) (splice cs off x.cells) := by
          have hg : ∀ m, (u.cells.zipIdx.foldl (fun cs (p : Value × Nat) => cs.setIfInBounds (off + p.2) p.1) us)[m]? = if off ≤ m ∧ m < off + u.cells.size ∧ m < us.size then u.cells[m - off]? else us[m]? := by
            intro m
            have := setAll_get u.cells.toList 0 off us m
            rw [← Array.foldl_toList, Array.toList_zipIdx]
            simpa using this
          have hsp := fun m => splice_get (l := cs) (new := x.cells) (off := off) (by omega) m
          have hn := h.n
          refine ⟨?_, fun m v hv => ?_, fun m v y hv hy => ?_⟩
          · rw [splice_length (by omega), ← hn]
            have hind : ∀ (l : List (Value × Nat)) (a : Array Value), (l.foldl (fun cs (p : Value × Nat) => cs.setIfInBounds (off + p.2) p.1) a).size = a.size := by
              intro l
              induction l with
              | nil => intro a; rfl
              | cons q l ih => intro a; rw [List.foldl_cons, ih]; simp
            rw [← Array.foldl_toList]
            exact hind _ _
          · rw [hg] at hv
            split at hv
            · exact hone _ _ hv
            · exact h.one _ _ hv
          · rw [hg] at hv
            rw [hsp] at hy
            by_cases hm : off ≤ m ∧ m < off + u.cells.size ∧ m < us.size
            · rw [if_pos hm] at hv
              rw [if_neg (by omega), if_pos (by omega)] at hy
              exact hrd _ _ _ hv hy
            · rw [if_neg hm] at hv
              have hmlt : m < us.size := (Array.getElem?_eq_some_iff.1 hv).1
              by_cases hmo : m < off
              · rw [if_pos hmo] at hy
                exact h.rd _ _ _ hv hy
              · rw [if_neg hmo, if_neg (by omega)] at hy
                exact h.rd _ _ _ hv hy
        obtain ⟨us', hus, hrest⟩ := fill_rd hpl pc pv _ _ _ (by simpa using hl) (fun k a b ha hb => hp (k + 1) a b (by simpa using ha) (by simpa using hb)) hnew hf
        refine ⟨us', ?_, hrest⟩
        simp only [Instr.fill, hpi]
        rw [if_neg (by have := h.n; simp; omega)]
        exact hus
      · cases hf
  | [], _ :: _, _, _, _, hl, _, _, _ => by simp at hl
  | _ :: _, [], _, _, _, hl, _, _, _ => by simp at hl

theorem parts_rd {w : World} {X : Nat → Prop} {ρ : Places} {e : Operand → Value} {ρv : Operand → PV} (parts : List (Nat × Operand)) (h : ∀ p ∈ parts, PRd w X ρ (e p.2) (ρv p.2)) :
    ∀ (k : Nat) a b, (parts.map fun (i, x) => (i, e x))[k]? = some a → (parts.map fun (j, x) => (j, ρv x))[k]? = some b → a.1 = b.1 ∧ PRd w X ρ a.2 b.2 := by
  intro k a b ha hb
  rw [List.getElem?_map, Option.map_eq_some_iff] at ha hb
  obtain ⟨p, hp, rfl⟩ := ha
  obtain ⟨q, hq, rfl⟩ := hb
  rw [hp] at hq; cases hq
  exact ⟨rfl, h p (List.mem_of_getElem? hp)⟩

theorem mapM_places {fs : List Fld} : ∀ (ffs : List Field) (k : Nat), (∀ (j : Nat) f, ffs[j]? = some f → ∃ fd, fs[k + j]? = some fd ∧ f.offset = fd.off ∧ ∃ ti, P.info? f.type = some ti ∧ ti.size = fd.size) →
    ∃ places, ffs.mapM (fun f => (P.info? f.type).map fun i => (f.offset, i.size)) = some places ∧ places.length = ffs.length ∧ ∀ (j : Nat), j < ffs.length → places[j]? = (fs[k + j]?).map fun fd => (fd.off, fd.size)
  | [], k, _ => ⟨[], rfl, rfl, by simp⟩
  | f :: ffs, k, h => by
    obtain ⟨fd, hfd, ho, ti, hti, hs⟩ := h 0 f rfl
    obtain ⟨places, hp, hl, hg⟩ := mapM_places ffs (k + 1) (fun j f' hj => by
      have := h (j + 1) f' (by simpa using hj)
      rwa [show k + (j + 1) = k + 1 + j by omega] at this)
    refine ⟨(fd.off, fd.size) :: places, by simp [List.mapM_cons, hti, hp, ho, hs], by simp [hl], fun j hj => ?_⟩
    cases j with
    | zero => simp at hfd ⊢; simp [hfd]
    | succ j =>
      simp only [List.getElem?_cons_succ]
      rw [hg j (by simpa using hj), show k + 1 + j = k + (j + 1) by omega]

theorem still_build (hT : TabOk P T) (t : TypeId) (parts : Array (Nat × Operand)) : StillOp P T (.build t parts) := by
  intro c w X ρ H F o e ρv r lo hi ho h hH hρ hres hc
  simp only [opRes] at hres
  split at hres
  rotate_left
  · cases hres
  rename_i i hi
  split at hres
  rotate_left
  · cases hres
  rename_i fs hfs
  split at hres
  rotate_left
  · cases hres
  rename_i cs hcs
  simp only [Res.pure, Option.some.injEq] at hres
  subst hres
  have hd := (hT _ _ hi).desc
  rw [hfs] at hd
  obtain ⟨ffs, hu, hsz, hfld⟩ := hd
  obtain ⟨ti, z, hti, hts, _, hz, hzs, hil, hone, hrd⟩ := zero_rd (hT _ _ hi) (w := w) (X := X) (ρ := ρ)
  have hpl : ∀ (i off s : Nat), ((fs[i]?).map fun (f : Fld) => (f.off, f.size)) = some (off, s) → 0 < s := by
    intro i off s hi
    rw [Option.map_eq_some_iff] at hi
    obtain ⟨fd, hfd, he⟩ := hi
    cases he
    have hlt : i < ffs.size := by rw [hsz]; exact (List.getElem?_eq_some_iff.1 hfd).1
    exact (hfld i _ _ (Array.getElem?_eq_getElem hlt) hfd).2.1
  obtain ⟨us', hus, hrest⟩ := fill_rd (w := w) (X := X) (ρ := ρ) (pl := fun (i : Nat) => (fs[i]?).map fun (f : Fld) => (f.off, f.size)) hpl (parts.toList.map fun (i, x) => (i, e x)) (parts.toList.map fun (j, x) => (j, ρv x)) z.cells i.zero cs (by simp)
    (parts_rd parts.toList (fun p hp => hρ p.2 (by
      simp only [Op.operands, List.mem_toArray, List.mem_map]
      exact ⟨p, hp, rfl⟩))) ⟨by omega, hone, fun j u x hu hx => (hrd j u x hu hx).1⟩ hcs
  obtain ⟨places, hp, hl, hg⟩ := mapM_places (P := P) (fs := fs) ffs.toList 0 (fun j f hj => by
    have hj' : ffs[j]? = some f := by simpa using hj
    have hlt : j < fs.length := by rw [← hsz]; exact (Array.getElem?_eq_some_iff.1 hj').1
    obtain ⟨h1, _, ti, d, h3, h4, _⟩ := hfld j f fs[j] hj' (by simp [hlt])
    exact ⟨fs[j], by simp [hlt], h1, ti, h3, h4⟩)
  have hfun : (fun (i : Nat) => (fs[i]?).map fun (f : Fld) => (f.off, f.size)) = fun (i : Nat) => (places.toArray[i]? : Option (Nat × Nat)) := by
    funext j
    simp only [List.getElem?_toArray]
    by_cases hj : j < ffs.size
    · rw [hg j (by simpa using hj)]; simp
    · rw [List.getElem?_eq_none (by omega), List.getElem?_eq_none (by rw [hl]; simp; omega)]; rfl
  rw [hfun] at hus
  refine ⟨rfl, OpOK.still h (u := .agg us') ?_ (.agg _ _ hrest.n hrest.one hrest.rd)⟩
  have hb : P.built t (parts.map fun (i, x) => (i, e x)).toList = some us' := by
    simp only [Program.built, hti, hu, hz, hp]
    simpa using hus
  simp only [execOp, ho, Sem.run_bind, run_build w t _ us' hb, Result.andThen_ok]
  rfl

theorem fz1s_get {H : List Ob} : ∀ {xs : List PV} {ys : List FV}, fz1s H xs = some ys → ys.length = xs.length ∧ ∀ (i : Nat) y, ys[i]? = some y → ∃ x, xs[i]? = some x ∧ fz1 H x = some y
  | [], ys, h => by simp [fz1s] at h; subst h; simp
  | x :: xs, ys, h => by
    simp only [fz1s] at h
    split at h
    · rename_i y ys' h1 h2
      cases h
      obtain ⟨hl, hg⟩ := fz1s_get h2
      refine ⟨by simp [hl], fun i z hz => ?_⟩
      cases i with
      | zero => simp at hz; subst hz; exact ⟨x, rfl, h1⟩
      | succ i => simp at hz ⊢; exact hg i z hz
    · cases h

theorem shutIds_append {G : List Ob} : ∀ (ids : List Nat) {F : List Ob}, (∀ id ∈ ids, id < F.length) → shutIds ids (F ++ G) = shutIds ids F ++ G
  | [], F, _ => rfl
  | id :: ids, F, h => by
    show shutIds ids (shut (F ++ G) id) = shutIds ids (shut F id) ++ G
    rw [shut_append (h id (by simp)), shutIds_append ids (fun j hj => by simp [shut]; exact h j (by simp [hj]))]

theorem fz0_ids {H : List Ob} {x : PV} {y : FV} (h : fz0 H x = some y) : ∀ id ∈ ids0 x, id < H.length := by
  cases x with
  | lsl id off len s =>
    intro j hj
    simp only [ids0, List.mem_singleton] at hj
    subst hj
    simp only [fz0] at h
    cases ho : H[j]? with
    | none => rw [ho] at h; cases h
    | some o => exact (List.getElem?_eq_some_iff.1 ho).1
  | _ => intro j hj; simp [ids0] at hj

theorem fzs_ids {H : List Ob} : ∀ {xs : List PV} {ys : List FV}, fzs H xs = some ys → ∀ id ∈ xs.flatMap ids0, id < H.length
  | [], ys, h => by simp
  | x :: xs, ys, h => by
    simp only [fzs] at h
    split at h
    · rename_i y ys' h1 h2
      intro id hid
      rw [List.flatMap_cons, List.mem_append] at hid
      rcases hid with hid | hid
      · exact fz0_ids h1 id hid
      · exact fzs_ids h2 id hid
    · cases h

theorem fz1_ids {H : List Ob} {x : PV} {y : FV} (h : fz1 H x = some y) : ∀ id ∈ ids1 H x, id < H.length := by
  unfold fz1 at h
  unfold ids1
  split at h
  · rename_i id
    cases ho : H[id]? with
    | none => rw [ho] at h; cases h
    | some o =>
      rw [ho] at h
      cases o with
      | box rw cs =>
        simp only [Option.map_eq_some_iff] at h
        obtain ⟨ys, hys, _⟩ := h
        intro j hj
        simp only [List.mem_cons] at hj
        rcases hj with rfl | hj
        · exact (List.getElem?_eq_some_iff.1 ho).1
        · exact fzs_ids hys j hj
      | _ => cases h
  · exact fz0_ids h

theorem fzA_ids {H : List Ob} {x y : PV} (h : fzA H x = some y) : ∀ id ∈ idsA H x, id < H.length := by
  unfold fzA at h
  unfold idsA
  split at h
  · simp only [Option.map_eq_some_iff] at h
    obtain ⟨ys, hys, _⟩ := h
    exact fzs_ids hys
  · rw [Option.map_eq_some_iff] at h
    obtain ⟨z, hz, _⟩ := h
    exact fz1_ids hz

theorem fzAs_ids {H : List Ob} : ∀ {xs ys : List PV}, fzAs H xs = some ys → ∀ id ∈ xs.flatMap (idsA H), id < H.length
  | [], ys, h => by simp
  | x :: xs, ys, h => by
    simp only [fzAs] at h
    split at h
    · rename_i y ys' h1 h2
      intro id hid
      rw [List.flatMap_cons, List.mem_append] at hid
      rcases hid with hid | hid
      · exact fzA_ids h1 id hid
      · exact fzAs_ids h2 id hid
    · cases h

theorem OpOK.shutting {c : Ctx} {w : World} {X : Nat → Prop} {ρ : Places} {H G : List Ob} {lo hi : Nat} {ids : List Nat} (hids : ∀ id ∈ ids, id < H.length) (h : HRd c w X ρ (H ++ G)) {r : Result Next} {u : Value} {v : PV} (hr : r = .ok (.value u) w)
    (hu : ∀ X', (∀ b, X' b → X b) → (∀ id ∈ ids, ∀ p o g, ρ[id]? = some (some p) → (H ++ G)[id]? = some o → o.alive → p.b = some g → ¬ X' g) → PRd w X' ρ u v) : OpOK c w X ρ lo hi (shutIds ids H ++ G) r v := by
  obtain ⟨X', h', hs, hn⟩ := h.shutIds ids
  rw [shutIds_append ids hids] at h'
  exact ⟨u, w, X', ρ, .inl hr, Stp.same_world hs, h', hu X' hs hn, fun _ _ => rfl⟩

theorem eff_makeFunc (fn : Fn) (first captured : Array Operand) : EffOp P T (.makeFunc fn first captured) := by
  intro c w X ρ H D R o e ρv r ho h hD hρ hres hc hlen
  simp only [opRes] at hres
  split at hres
  rotate_left
  · cases hres
  rename_i c1 c2 h1 h2
  cases hres
  have h5 : (shutIds ((first.toList.map ρv ++ captured.toList.map ρv).flatMap (ids1 H)) H).length = H.length + D.length := hlen
  rw [shutIds_length] at h5
  have hd : D = [] := List.eq_nil_of_length_eq_zero (by omega)
  subst hd
  obtain ⟨hl1, hg1⟩ := fz1s_get h1
  obtain ⟨hl2, hg2⟩ := fz1s_get h2
  have hids : ∀ id ∈ (first.toList.map ρv ++ captured.toList.map ρv).flatMap (ids1 H), id < H.length := by
    intro id hid
    rw [List.mem_flatMap] at hid
    obtain ⟨x, hx, hid⟩ := hid
    rw [List.mem_append] at hx
    rcases hx with hx | hx
    · obtain ⟨k, hk⟩ := List.getElem?_of_mem hx
      have hlt : k < c1.length := by rw [hl1]; exact (List.getElem?_eq_some_iff.1 hk).1
      obtain ⟨x', hx', hf⟩ := hg1 k c1[k] (by simp [hlt])
      rw [hk] at hx'; cases hx'
      exact fz1_ids hf id hid
    · obtain ⟨k, hk⟩ := List.getElem?_of_mem hx
      have hlt : k < c2.length := by rw [hl2]; exact (List.getElem?_eq_some_iff.1 hk).1
      obtain ⟨x', hx', hf⟩ := hg2 k c2[k] (by simp [hlt])
      rw [hk] at hx'; cases hx'
      exact fz1_ids hf id hid
  refine OpOK.shutting hids h (u := .func fn (first.map e) (captured.map e)) (by simp [execOp, ho, Instr.makeFunc]) (fun X' hX hn => .fv _ _ (.fn fn _ _ _ _ (by simpa using hl1.symm) (by simpa using hl2.symm) ?_ ?_))
  · intro j u y hu hy
    obtain ⟨x, hx, hf⟩ := hg1 j y hy
    simp at hu
    obtain ⟨a, ha, rfl⟩ := hu
    rw [List.getElem?_map] at hx
    simp only [Array.getElem?_toList, ha, Option.map_some, Option.some.injEq] at hx
    subst hx
    refine fz1_rd h look_append (hρ a (by simp [Op.operands]; exact .inl (Array.mem_of_getElem? ha))) hf hX (fun id hid => hn id ?_)
    rw [List.mem_flatMap]
    exact ⟨ρv a, List.mem_append.2 (.inl (List.mem_map.2 ⟨a, Array.mem_toList_iff.2 (Array.mem_of_getElem? ha), rfl⟩)), hid⟩
  · intro j u y hu hy
    obtain ⟨x, hx, hf⟩ := hg2 j y hy
    simp at hu
    obtain ⟨a, ha, rfl⟩ := hu
    rw [List.getElem?_map] at hx
    simp only [Array.getElem?_toList, ha, Option.map_some, Option.some.injEq] at hx
    subst hx
    refine fz1_rd h look_append (hρ a (by simp [Op.operands]; exact .inr (Array.mem_of_getElem? ha))) hf hX (fun id hid => hn id ?_)
    rw [List.mem_flatMap]
    exact ⟨ρv a, List.mem_append.2 (.inr (List.mem_map.2 ⟨a, Array.mem_toList_iff.2 (Array.mem_of_getElem? ha), rfl⟩)), hid⟩

end
end Go.AM

namespace Go.AM

theorem groups_length (s : Nat) : ∀ (n : Nat) (l : List FV), (groups s n l).length = n
  | 0, _ => rfl
  | n + 1, l => by simp [groups, groups_length s n]

theorem groups_get (s : Nat) : ∀ (n : Nat) (l : List FV) (i : Nat) x, (groups s n l)[i]? = some x → x = (l.drop (i * s)).take s
  | 0, _, _, _, h => by simp [groups] at h
  | n + 1, l, i, x, h => by
    cases i with
    | zero => simp [groups] at h; simp [h]
    | succ i =>
      simp only [groups, List.getElem?_cons_succ] at h
      rw [groups_get s n _ i x h, List.drop_drop]
      congr 2
      rw [Nat.add_mul]; omega

theorem groups_len {s n : Nat} {l : List FV} (h : l.length = n * s) : ∀ x ∈ groups s n l, x.length = s := by
  intro x hx
  obtain ⟨i, hi⟩ := List.getElem?_of_mem hx
  have hlt : i < n := by have := (List.getElem?_eq_some_iff.1 hi).1; rwa [groups_length] at this
  rw [groups_get s n l i x hi]
  have : (i + 1) * s ≤ n * s := Nat.mul_le_mul_right _ hlt
  rw [Nat.add_mul] at this
  simp
  omega

theorem groups_cell {s n : Nat} {l : List FV} {i j : Nat} {x : List FV} {y : FV} (hx : (groups s n l)[i]? = some x) (hy : x[j]? = some y) : l[i * s + j]? = some y ∧ j < s := by
  rw [groups_get s n l i x hx, List.getElem?_take] at hy
  split at hy
  · rw [List.getElem?_drop] at hy
    exact ⟨hy, by assumption⟩
  · cases hy

section
variable {P : Program} {T : Tab}

def SrcRd (w : World) (X : Nat → Prop) (size : Nat) (v : Value) (ys : List (List FV)) : Prop :=
  (∀ y ∈ ys, y.length = size) ∧ ((v = .slice none 0 0 ∧ ys = []) ∨ ∃ (a : Addr) (c : Nat) (news : List Value), v = .slice (some a) ys.length c ∧ news.length = ys.length * size ∧ (∀ (j : Nat) u, news[j]? = some u → w.cell? (a.add j) = some u) ∧
    (∀ u ∈ news, u.oneCell' = true) ∧ ∀ (i j : Nat) x y, ys[i]? = some x → x[j]? = some y → ∃ u, news[i * size + j]? = some u ∧ FRd w X u y)

theorem src_frd {w : World} {X : Nat → Prop} {size : Nat} (hpos : 0 < size) {v : Value} {ys : List (List FV)} (h : FRd w X v (.sl ys)) (hl : ∀ y ∈ ys, y.length = size) : SrcRd w X size v ys := by
  refine ⟨hl, ?_⟩
  cases h with
  | nil => exact .inl ⟨rfl, rfl⟩
  | sl ad n cap s _ us hn hc hs h0 hX hb hcell hrd =>
    right
    have hdiv : ∀ k, k < ys.length * size → ∃ x y, ys[k / size]? = some x ∧ x[k % size]? = some y ∧ size = s := by
      intro k hk
      have h1 : k / size < ys.length := (Nat.div_lt_iff_lt_mul hpos).2 hk
      have hx := List.getElem_mem h1
      have h2 : k % size < ys[k / size].length := by rw [hl _ hx]; exact Nat.mod_lt _ hpos
      exact ⟨ys[k / size], ys[k / size][k % size], by simp [h1], by simp [h2], by rw [← hl _ hx, hs _ hx]⟩
    refine ⟨ad, cap, (List.range (ys.length * size)).map fun k => us (k / size) (k % size), by rw [hn], by simp, fun j u hu => ?_, fun u hu => ?_, fun i j x y hx hy => ?_⟩
    · rw [List.getElem?_map, Option.map_eq_some_iff] at hu
      obtain ⟨k, hk, rfl⟩ := hu
      obtain ⟨hk1, hk2⟩ := List.getElem?_eq_some_iff.1 hk
      rw [List.getElem_range] at hk2
      subst hk2
      have hk : j < ys.length * size := by simpa using hk1
      obtain ⟨x, y, hx, hy, rfl⟩ := hdiv j hk
      rw [addr_add' h0, ← hcell _ _ x y hx hy]
      congr 2
      rw [Nat.mul_comm (j / size) size, Nat.div_add_mod]
    · rw [List.mem_map] at hu
      obtain ⟨k, hk, rfl⟩ := hu
      rw [List.mem_range] at hk
      obtain ⟨x, y, hx, hy, _⟩ := hdiv k hk
      exact (hrd _ _ x y hx hy).one
    · have hlt : i < ys.length := (List.getElem?_eq_some_iff.1 hx).1
      have hj : j < size := by rw [← hl x (List.mem_of_getElem? hx)]; exact (List.getElem?_eq_some_iff.1 hy).1
      have h1 : (i + 1) * size ≤ ys.length * size := Nat.mul_le_mul_right _ hlt
      rw [Nat.add_mul] at h1
      have h2 : i * size + j < ys.length * size := by omega
      refine ⟨us i j, ?_, hrd i j x y hx hy⟩
      have e1 : (i * size + j) / size = i := by
        rw [Nat.mul_comm, Nat.mul_add_div hpos, Nat.div_eq_of_lt hj, Nat.add_zero]
      have e2 : (i * size + j) % size = j := by
        rw [Nat.mul_comm, Nat.mul_add_mod, Nat.mod_eq_of_lt hj]
      rw [List.getElem?_map, List.getElem?_range h2]
      simp only [Option.map_some, e1, e2]

theorem src_lsl {w : World} {X : Nat → Prop} {ρ : Places} {p : Place} {xs : List (List FV)} (hr : RowRd w X p xs) {id off len : Nat} {v : Value}
    (hv : PRd w X ρ v (.lsl id off len p.size)) (hp : ρ[id]? = some (some p)) (hl : off + len ≤ xs.length) : SrcRd w X p.size v ((xs.drop off).take len) := by
  refine ⟨fun x hx => hr.len x (List.mem_of_mem_drop (List.mem_of_mem_take hx)), ?_⟩
  obtain ⟨us, hus, hcell⟩ := hr.cells
  obtain ⟨q, hq, hqs, ⟨hg, hv2, rfl, rfl⟩ | ⟨g, og, hg, hv2, hl2, hoo⟩⟩ := hv.lslInv
  · left
    rw [List.take_zero]
    exact ⟨hv2, rfl⟩
  · right
    rw [hp] at hq; cases hq
    have hlen : ((xs.drop off).take len).length = len := by simp; omega
    have hown : World.ownsRow w 0 p.e p.size (.slice (some ⟨g, 0, none⟩) xs.length p.cap) xs.length us := by simpa [Place.val, hg] using hus
    have hul : us.length = xs.length * p.size := hown.1
    have hmul : (off + len) * p.size ≤ xs.length * p.size := Nat.mul_le_mul_right _ hl
    rw [Nat.add_mul] at hmul
    have hone : ∀ (k : Nat) u, us[k]? = some u → u.oneCell' = true := by
      intro k u hu
      have hk : k < xs.length * p.size := by rw [← hul]; exact (List.getElem?_eq_some_iff.1 hu).1
      have h1 : k / p.size < xs.length := (Nat.div_lt_iff_lt_mul hr.pos).2 hk
      have h2 : k % p.size < xs[k / p.size].length := by rw [hr.len _ (List.getElem_mem h1)]; exact Nat.mod_lt _ hr.pos
      obtain ⟨u', hu', hf⟩ := hcell (k / p.size) (k % p.size) xs[k / p.size] xs[k / p.size][k % p.size] (by simp [h1]) (by simp [h2])
      rw [Nat.mul_comm (k / p.size), Nat.div_add_mod, hu] at hu'
      cases hu'
      exact hf.one
    refine ⟨_, _, (us.drop (off * p.size)).take (len * p.size), by rw [hlen]; exact hv2, by rw [hlen]; simp; omega, fun j u hu => ?_, fun u hu => ?_, fun i j x y hx hy => ?_⟩
    · rw [List.getElem?_take] at hu
      split at hu
      · rename_i hj
        rw [List.getElem?_drop] at hu
        have := hown.cells (g := g) rfl _ u hu
        rw [addr_add, Nat.zero_add] at this
        have hog : og = off * p.size := by
          rcases hoo with hoo | hoo
          · exact hoo
          · have : len = 0 := by omega
            subst this
            omega
        rw [addr_add, hog]
        exact this
      · cases hu
    · obtain ⟨k, hk⟩ := List.getElem?_of_mem (List.mem_of_mem_drop (List.mem_of_mem_take hu))
      exact hone k u hk
    · rw [List.getElem?_take] at hx
      split at hx
      · rename_i hi
        rw [List.getElem?_drop] at hx
        obtain ⟨u, hu, hf⟩ := hcell _ j x y hx hy
        refine ⟨u, ?_, hf⟩
        have hj : j < p.size := by rw [← hr.len x (List.mem_of_getElem? hx)]; exact (List.getElem?_eq_some_iff.1 hy).1
        have h1 : (i + 1) * p.size ≤ len * p.size := Nat.mul_le_mul_right _ hi
        rw [Nat.add_mul] at h1
        rw [List.getElem?_take, if_pos (by omega), List.getElem?_drop, ← hu]
        congr 1
        rw [Nat.add_mul]; omega
      · cases hx

theorem src_rd {c : Ctx} {w : World} {X : Nat → Prop} {ρ : Places} {F H : List Ob} (h : HRd c w X ρ F) (hH : ∀ (j : Nat) o, H[j]? = some o → F[j]? = some o) {size : Nat} (hpos : 0 < size) {v : Value} {x : PV} (hv : PRd w X ρ v x)
    {cd : Prop} {ys : List (List FV)} (hs : srcOf H size x = some (cd, ys)) (hc : cd) : SrcRd w X size v ys := by
  cases x with
  | fv z =>
    cases z with
    | sl xs =>
      simp only [srcOf, Option.some.injEq, Prod.mk.injEq] at hs
      obtain ⟨rfl, rfl⟩ := hs
      cases hv with | fv _ _ hf => exact src_frd hpos hf hc
    | lit u =>
      unfold srcOf at hs
      split at hs
      all_goals first | (cases hs; done) | skip
      all_goals rename_i he
      all_goals first | (cases he; done) | skip
      injection he with he; injection he with he
      subst he
      simp only [Option.some.injEq, Prod.mk.injEq] at hs
      obtain ⟨rfl, rfl⟩ := hs
      rw [hv.litInv]
      exact ⟨by simp, .inr ⟨_, _, [], rfl, by simp, by simp, by simp, by simp⟩⟩
    | _ => simp [srcOf] at hs
  | nilsl =>
    simp only [srcOf, Option.some.injEq, Prod.mk.injEq] at hs
    obtain ⟨rfl, rfl⟩ := hs
    cases hv with | nilsl => exact ⟨by simp, .inl ⟨rfl, rfl⟩⟩
  | clip xs =>
    simp only [srcOf, Option.some.injEq, Prod.mk.injEq] at hs
    obtain ⟨rfl, rfl⟩ := hs
    cases hv with | clip _ _ _ hf => exact src_frd hpos hf hc
  | lsl id off len s =>
    simp only [srcOf] at hs
    split at hs
    · rename_i rw xs ho
      split at hs
      · rename_i hsz
        subst hsz
        simp only [Option.some.injEq, Prod.mk.injEq] at hs
        obtain ⟨rfl, rfl⟩ := hs
        obtain ⟨p, hp, hps, _⟩ := hv.lslInv
        subst hps
        exact src_lsl (h.ob id p _ hp (hH id _ ho)).1 hv hp hc
      · cases hs
    · cases hs
  | any => simp [srcOf] at hs
  | ptr _ _ _ => simp [srcOf] at hs
  | agg _ => simp [srcOf] at hs
  | tup _ => simp [srcOf] at hs

end
end Go.AM

namespace Go.AM

section
variable {P : Program} {T : Tab}

theorem grown_owns {w : World} {el size k cap : Nat} {z : Value} (hzs : z.cells.size = size) {xs news : List Value} (hl : (xs ++ news).length = k * size) (hk : k ≤ cap) (hcap : cap ≤ maxLen) :
    (w.drew.alloc (.cells (xs.toArray ++ news.toArray ++ Builtin.zeroCells z.cells (cap - k)) el)).ownsRow 0 el size (.slice (some ⟨w.heap.size, 0, none⟩) k cap) k (xs ++ news) := by
  refine ⟨hl, .inr ⟨w.heap.size, cap, _, rfl, Nat.zero_le _, heap_alloc_new w.drew _, hk, hcap, ?_, ?_⟩⟩
  · rw [List.length_append] at hl
    simp only [Array.size_append, List.size_toArray, size_zeroCells, hzs, hl, ← Nat.add_mul]
    congr 1
    omega
  · simp only [Array.toList_append, List.append_assoc]
    rw [← List.append_assoc, ← hl]
    exact List.take_left

theorem grownBy_drew_alloc (w : World) (o : Obj) (row : Option Nat) : w.grownBy (w.drew.alloc o) row :=
  ⟨rfl, rfl, rfl, by simp, fun k hk _ => heap_alloc_old w.drew o k hk⟩

theorem ownsRow_take {w : World} {el size n k g cap : Nat} {us : List Value} (h : w.ownsRow 0 el size (.slice (some ⟨g, 0, none⟩) n cap) n us) (hk : k ≤ n) :
    w.ownsRow 0 el size (.slice (some ⟨g, 0, none⟩) k cap) k (us.take (k * size)) := by
  obtain ⟨h1, h2⟩ := h
  rcases h2 with ⟨h2, _⟩ | ⟨g', cap', cur, h2, h3, h4, h5, h6, h7, h8⟩
  · cases h2
  · cases h2
    have hm : k * size ≤ n * size := Nat.mul_le_mul_right _ hk
    refine ⟨by rw [List.length_take, h1, Nat.min_eq_left hm], .inr ⟨g, cap, cur, rfl, h3, h4, by omega, h6, h7, ?_⟩⟩
    rw [← h8, List.take_take, Nat.min_eq_left hm]

theorem run_bi {w : World} {o : Oper} {e : Operand → Value} {b : Builtin} {args : Array Operand} {ts : Array TypeId} (ho : o.op = .call { callee := .builtin b, args, argTypes := ts }) :
    ∃ consts, (execOp e o).run P w = (builtin b ts o.type consts (args.map e)).run P w := by
  refine ⟨args.map fun | .const _ => true | _ => false, ?_⟩
  unfold execOp
  simp only [ho, resolve, invoke, Sem.run_bind, Sem.run_pure, Result.andThen_ok]
  rfl

theorem cells_append {w : World} {X : Nat → Prop} {size : Nat} {xs ys : List (List FV)} {us news : List Value} (hxl : us.length = xs.length * size) (_ : ∀ x ∈ ys, x.length = size)
    (h1 : ∀ (i j : Nat) x y, xs[i]? = some x → x[j]? = some y → ∃ u, us[i * size + j]? = some u ∧ FRd w X u y) (h2 : ∀ (i j : Nat) x y, ys[i]? = some x → x[j]? = some y → ∃ u, news[i * size + j]? = some u ∧ FRd w X u y) :
    ∀ (i j : Nat) x y, (xs ++ ys)[i]? = some x → x[j]? = some y → ∃ u, (us ++ news)[i * size + j]? = some u ∧ FRd w X u y := by
  intro i j x y hx hy
  by_cases hi : i < xs.length
  · rw [List.getElem?_append_left hi] at hx
    obtain ⟨u, hu, hf⟩ := h1 i j x y hx hy
    exact ⟨u, by rw [List.getElem?_append_left (List.getElem?_eq_some_iff.1 hu).1]; exact hu, hf⟩
  · rw [List.getElem?_append_right (by omega)] at hx
    obtain ⟨u, hu, hf⟩ := h2 (i - xs.length) j x y hx hy
    refine ⟨u, ?_, hf⟩
    have hle : xs.length * size ≤ i * size := Nat.mul_le_mul_right _ (by omega)
    rw [List.getElem?_append_right (by omega), hxl, ← hu]
    congr 1
    rw [Nat.sub_mul]
    omega

theorem grownBy_refl (w : World) (row : Option Nat) : w.grownBy w row := ⟨rfl, rfl, rfl, Nat.le_refl _, fun _ _ _ => rfl⟩

def EffBi (P : Program) (T : Tab) (b : Builtin) (args : Array Operand) (ts : Array TypeId) : Prop :=
  ∀ {c : Ctx} {w : World} {X : Nat → Prop} {ρ : Places} {H D R : List Ob} {o : Oper} {e : Operand → Value} {ρv : Operand → PV} {r : Res},
    o.op = .call { callee := .builtin b, args := args, argTypes := ts } → HRd c w X ρ (H ++ (D ++ R)) → (∀ id, H.length ≤ id → id < H.length + D.length → ρ[id]? = some none) → (∀ x ∈ args, PRd w X ρ (e x) (ρv x)) →
    biRes T H b ts.toList (args.toList.map ρv) = some r → r.cond → r.heap.length = H.length + D.length → OpOK c w X ρ H.length (H.length + D.length) (r.heap ++ R) ((execOp e o).run P w) r.val

theorem run_append_room' {w : World} (t ty e e' : TypeId) (i : TypeInfo) (ht : P.underlying t = some (.slice e)) (hi : P.info? e = some i)
    (g sLen sCap : Nat) (cur : Array Value) (hg : w.heap[g]? = some (.cells cur e' (0, 0)))
    (a : Addr) (m c : Nat) (news : List Value) (hl : news.length = m * i.size) (hnews : ∀ (j : Nat) u, news[j]? = some u → w.cell? (a.add j) = some u) (h1 : ∀ u ∈ news, u.oneCell' = true)
    (hroom : sLen + m ≤ sCap) (hfit : sLen * i.size + news.length ≤ cur.size) :
    (Builtin.append_ #[t, t] ty #[.slice (some ⟨g, 0, none⟩) sLen sCap, .slice (some a) m c]).run P w =
      .ok (.slice (some ⟨g, 0, none⟩) (sLen + m) sCap) (w.setRow g (cur.toList.take (sLen * i.size) ++ news ++ cur.toList.drop (sLen * i.size + news.length)).toArray) := by
  have hf := run_firstCells_some (P := P) w i.size m a m c news hl hnews
  have hst := run_storeCells_at P g (sLen * i.size) e' news 0 cur w hg (by simpa using hfit) h1
  simp only [Nat.add_zero] at hst
  simp [Builtin.append_, run_underlying ht, sizeOf, typeInfo, hi, Builtin.lenOf, hroom, hf, Addr.add_lit, hst]

theorem run_append_none' {w : World} (t ty e : TypeId) (i : TypeInfo) (ht : P.underlying t = some (.slice e)) (hi : P.info? e = some i) (g n cap : Nat) (hnc : n ≤ cap) :
    (Builtin.append_ #[t, t] ty #[.slice (some ⟨g, 0, none⟩) n cap, .slice none 0 0]).run P w = .ok (.slice (some ⟨g, 0, none⟩) n cap) w := by
  simp [Builtin.append_, run_underlying ht, sizeOf, typeInfo, hi, Builtin.lenOf, Builtin.firstCells, hnc, storeCells]

theorem kill_append {H G : List Ob} {id : Nat} (h : id < H.length) : (H ++ G).set id .dead = H.set id .dead ++ G := by
  rw [List.set_append_left _ _ h]

theorem set_self {ρ : Places} {id : Nat} {p : Place} (h : ρ[id]? = some (some p)) : ρ.set id (some p) = ρ := by
  apply List.ext_getElem?
  intro j
  by_cases hj : id = j
  · subst hj
    rw [List.getElem?_set_self (List.getElem?_eq_some_iff.1 h).1, h]
  · rw [List.getElem?_set_ne hj]

theorem grownBy_setRow (w : World) (g : Nat) (cs : Array Value) : w.grownBy (w.setRow g cs) (some g) :=
  ⟨rfl, rfl, rfl, by simp, fun k _ hk => setRow_other w g k _ (fun e => hk (by simp [e]))⟩

theorem arr_splice_get {cur : Array Value} {o : Nat} {vs : List Value} (h : o + vs.length ≤ cur.size) (i : Nat) :
    (cur.toList.take o ++ vs ++ cur.toList.drop (o + vs.length)).toArray[i]? = if i < o then cur[i]? else if i < o + vs.length then vs[i - o]? else cur[i]? := by
  have := splice_get (l := cur.toList) (new := vs) (off := o) (by simpa using h) i
  simpa [splice] using this

theorem HRd.reRow {c : Ctx} {w : World} {X : Nat → Prop} {ρ : Places} {F : List Ob} (h : HRd c w X ρ F) {id : Nat} {p : Place} {xs zs : List (List FV)} {g : Nat} (hp : ρ[id]? = some (some p)) (hob : F[id]? = some (.row true xs))
    (hgp : p.b = some g) {cur new : Array Value} (hcur : w.heap[g]? = some (.cells cur p.e (0, 0))) (hsz : new.size = cur.size) (hzl : zs.length ≤ xs.length) (hzs : ∀ z ∈ zs, z.length = p.size)
    (hcells : ∀ (i j : Nat) x y, zs[i]? = some x → x[j]? = some y → ∃ u, new[i * p.size + j]? = some u ∧ FRd w X u y) :
    ∃ X', HRd c (w.setRow g new) X' ρ (F.set id (.row true zs)) ∧ Stp c w (w.setRow g new) X X' ρ ρ := by
  have hgb := grownBy_setRow w g new
  have hnew := setRow_heap w g cur new p.e (0, 0) hcur
  obtain ⟨⟨hppos, hxlen, us, hus, huc⟩, hrwX⟩ := h.ob id p _ hp hob
  have hXg : X g := (hrwX g hgp).1 rfl
  have hown0 : w.ownsRow 0 p.e p.size (.slice (some ⟨g, 0, none⟩) xs.length p.cap) xs.length us := by simpa [Place.val, hgp] using hus
  obtain ⟨hul, hcase⟩ := hown0
  rcases hcase with ⟨h5, _⟩ | ⟨g', cap', cur2, h5, _, hcur2, hnc, hcm, hcsz, htake⟩
  · cases h5
  cases h5
  rw [hcur] at hcur2
  cases hcur2
  have hmul : zs.length * p.size ≤ xs.length * p.size := Nat.mul_le_mul_right _ hzl
  have hmulc : xs.length * p.size ≤ p.cap * p.size := Nat.mul_le_mul_right _ hnc
  have hown2 : (w.setRow g new).ownsRow 0 p.e p.size (.slice (some ⟨g, 0, none⟩) zs.length p.cap) zs.length (new.toList.take (zs.length * p.size)) := by
    refine ⟨by have e9 : new.toList.length = cur.size := hsz; rw [List.length_take, e9, hcsz]; omega, .inr ⟨g, p.cap, new, rfl, Nat.zero_le _, hnew, by omega, hcm, by rw [hsz, hcsz], rfl⟩⟩
  have hput := h.put (id := id) (p := p) (ob := .row true zs) (row := some g) (w' := w.setRow g new) (List.getElem?_eq_some_iff.1 hob).1 (.inr hp) hgb
    (by intro g' hg'; cases hg'; exact hXg)
    (fun j2 q o2 g2 hj2 hq ho2 hr2 hb2 => by
      have hne : g2 ≠ g := by
        intro he; subst he
        exact hj2 (h.inj j2 id q p o2 _ g2 hq hp ho2 hob hr2 rfl hb2 hgp)
      exact ⟨by simp [hne], by rw [hgp]; simp; exact fun he => hne he.symm⟩)
    (fun g2 hg2 => by rw [hgp] at hg2; cases hg2; exact .inr hXg)
    (fun g2 hg2 => by rw [hgp] at hg2; cases hg2; exact ⟨(h.own id p _ g hp hob rfl hgp).1, Nat.lt_of_lt_of_le (h.own id p _ g hp hob rfl hgp).2 hgb.size⟩)
    (fun g2 hg2 => by cases hg2; exact (h.own id p _ g hp hob rfl hgp).1)
    ⟨⟨hppos, hzs, new.toList.take (zs.length * p.size), by simpa [Place.val, hgp] using hown2, by
        intro i2 k y1 y2 hy1 hy2
        have hi2 : i2 < zs.length := (List.getElem?_eq_some_iff.1 hy1).1
        have hmul2 : (i2 + 1) * p.size ≤ zs.length * p.size := Nat.mul_le_mul_right _ hi2
        rw [Nat.add_mul] at hmul2
        have hk : k < p.size := by rw [← hzs y1 (List.mem_of_getElem? hy1)]; exact (List.getElem?_eq_some_iff.1 hy2).1
        obtain ⟨u, hu, hf⟩ := hcells i2 k y1 y2 hy1 hy2
        refine ⟨u, ?_, hf.mono ⟨hgb.size, fun b hb hxb => hgb.block b hb (fun he => hxb (by cases he; exact hXg))⟩ (fun b hb hxb => by
          rcases hxb with hxb | hxb
          · exact hxb
          · rw [hgp] at hxb; cases hxb; exact hXg)⟩
        rw [List.getElem?_take, if_pos (by omega), Array.getElem?_toList, hu]⟩,
      fun g2 hg2 => ⟨fun _ => .inr hg2, fun _ => rfl⟩⟩
  rw [set_self hp] at hput
  exact ⟨_, hput.1, hput.2⟩
theorem run_append_zero {w : World} (t ty e : TypeId) (i : TypeInfo) (ht : P.underlying t = some (.slice e)) (hi : P.info? e = some i) (a : Option Addr) (n : Nat) (b : Option Addr) (c : Nat) :
    (Builtin.append_ #[t, t] ty #[.slice a n n, .slice b 0 c]).run P w = .ok (.slice a n n) w := by
  have hf : (Builtin.firstCells i.size 0 (.slice b 0 c)).run P w = .ok #[] w := by
    cases b with
    | none => rfl
    | some b => exact run_firstCells_some (P := P) w i.size 0 b 0 c [] (by simp) (by simp)
  cases a with
  | none => simp [Builtin.append_, run_underlying ht, sizeOf, typeInfo, hi, Builtin.lenOf, hf]
  | some a => simp [Builtin.append_, run_underlying ht, sizeOf, typeInfo, hi, Builtin.lenOf, hf, storeCells]
theorem row_nil {c : Ctx} {w : World} {X : Nat → Prop} {ρ : Places} {F : List Ob} (h : HRd c w X ρ F) {id : Nat} {p : Place} {r : Bool} {xs : List (List FV)} (hp : ρ[id]? = some (some p)) (hob : F[id]? = some (.row r xs)) (hgp : p.b = none) : xs = [] := by
  obtain ⟨⟨_, _, us, hus, _⟩, _⟩ := h.ob id p _ hp hob
  obtain ⟨_, hcase⟩ := hus
  rcases hcase with ⟨_, h6⟩ | ⟨g', cap', cur2, h5, _⟩
  · exact List.eq_nil_of_length_eq_zero h6
  · simp [Place.val, hgp] at h5
theorem set_same {α : Type} {l : List α} {i : Nat} {x : α} (h : l[i]? = some x) : l.set i x = l := by
  apply List.ext_getElem?
  intro j
  by_cases hj : i = j
  · subst hj; rw [List.getElem?_set_self (List.getElem?_eq_some_iff.1 h).1, h]
  · rw [List.getElem?_set_ne hj]

theorem bi_append (hT : TabOk P T) (s x : Operand) (t : TypeId) : EffBi P T .append #[s, x] #[t, t] := by
  intro c w X ρ H D R o e ρv r ho h hD hρ hres hc hlen
  have hs := hρ s (by simp)
  have hx := hρ x (by simp)
  simp only [biRes, List.map_cons, List.map_nil, if_true] at hres
  split at hres
  rotate_left
  · cases hres
  rename_i i hi
  split at hres
  rotate_left
  · cases hres
  rename_i el hel
  have hd := (hT _ _ hi).desc
  rw [hel] at hd
  simp only [TyDesc] at hd
  split at hres
  rotate_left
  · cases hres
  rename_i ie hie
  split at hres
  rotate_left
  · cases hres
  rename_i hpos
  split at hres
  rotate_left
  · cases hres
  rename_i cd ys hsrc
  obtain ⟨ti, z, hti, hts, htb, hz, hzs, hil, hone, hrd⟩ := zero_rd (hT _ _ hie) (w := w) (X := X) (ρ := ρ)
  obtain ⟨consts, hrun⟩ := run_bi (P := P) (w := w) (e := e) ho
  have hrun2 : (execOp e o).run P w = ((Builtin.append_ #[t, t] o.type #[e s, e x]).run P w).andThen fun v w' => .ok (.value v) w' := by
    rw [hrun]
    simp [builtin]
  have hnodead : ∀ (j : Nat) q o2 g, j ≠ H.length → ρ[j]? = some (some q) → (H ++ (D ++ R))[j]? = some o2 → o2.rw = true → q.b = some g → some g ≠ none := by
    intros; simp
  split at hres
  · -- onto nil
    rename_i hv
    rw [hv] at hs
    cases hres
    obtain ⟨d, rfl⟩ := single (D := D) (by simp at hlen; omega)
    obtain ⟨hcd, hby, hmx⟩ := hc
    obtain ⟨hyl, hsc⟩ := src_rd h look_append hpos hx hsrc hcd
    have hes : e s = .slice none 0 0 := by
      generalize e s = u at hs
      cases hs; rfl
    rcases hsc with ⟨hex, rfl⟩ | ⟨a, cc, news, hex, hnl, hnews, hn1, hcell⟩
    · have hr := run_append_owned_none (P := P) w 0 t o.type el ti ie.size hd hti (.slice none 0 0) 0 [] (World.ownsRow_nil w 0 el ie.size)
      obtain ⟨X', ρ', h1, h2, h3, h4⟩ := place_row (xs := []) (us := []) (size := ie.size) (el := el) (v := .slice none 0 0) (row := none) h (hD _ (Nat.le_refl _) (by simp)) (grownBy_refl w none) (by simp) hnodead (by simp) hpos (by simp)
        (World.ownsRow_nil w 0 el ie.size) (by simp [Value.ownBlock]) (by simp)
      refine ⟨_, _, X', ρ', .inl ?_, h1, h2, h3, fun id hid => h4 id (by simp at hid; omega)⟩
      rw [hrun2, hes, hex, hr]; rfl
    · by_cases hm : ys.length = 0
      · have hy0 : ys = [] := List.eq_nil_of_length_eq_zero hm
        subst hy0
        obtain ⟨v', w', hr, hown, hg, hiff⟩ := run_append_own (P := P) w 0 t o.type el ti z ie.size ie.bytes hd hti hz hts htb hzs hpos (.slice none 0 0) 0 [] (World.ownsRow_nil w 0 el ie.size) a 0 cc news (by simpa using hnl) hnews hn1 (by simp [maxLen]) (by simp) (Nat.zero_le _)
        have hv' := hiff.2 ⟨rfl, rfl⟩
        have hnn : news = [] := List.eq_nil_of_length_eq_zero (by simpa using hnl)
        subst hnn
        obtain ⟨X', ρ', h1, h2, h3, h4⟩ := place_row (xs := []) (us := []) (size := ie.size) (el := el) (v := v') (row := none) h (hD _ (Nat.le_refl _) (by simp)) hg (by simp) hnodead (by simp) hpos (by simp)
          (by simpa using hown) (by rw [hv']; simp [Value.ownBlock]) (by simp)
        refine ⟨_, _, X', ρ', .inl ?_, h1, h2, h3, fun id hid => h4 id (by simp at hid; omega)⟩
        rw [hrun2, hes, hex]
        simp only [List.length_nil]
        rw [hr]; rfl
      · have hr := run_append_nil (P := P) w t o.type el ti z hd hti hz a ys.length cc news (by rw [hts]; exact hnl) hnews (by omega) (by omega) (by rw [htb]; omega)
        have hge := grownCap_ge w ys.length 0 el
        have hcm := grownCap_le_maxLen w ys.length 0 el (by simp only [maxLen]; omega)
        have hown := grown_owns (w := w) (el := el) hzs (xs := []) (news := news) (by simpa using hnl) hge hcm
        simp only [Array.empty_append, List.nil_append] at hown
        obtain ⟨X', ρ', h1, h2, h3, h4⟩ := place_row (xs := ys) (size := ie.size) (el := el) (v := .slice (some ⟨w.heap.size, 0, none⟩) ys.length (grownCap w ys.length 0 el)) (row := none) h (hD _ (Nat.le_refl _) (by simp))
          (grownBy_drew_alloc w _ none) (by simp) hnodead (by simp) hpos hyl hown (by
            intro g hg
            simp only [Value.ownBlock, Option.some.injEq] at hg
            left; omega) hcell
        refine ⟨_, _, X', ρ', .inl ?_, h1, h2, h3, fun id hid => h4 id (by simp at hid; omega)⟩
        rw [hrun2, hes, hex, hr]; rfl
  · -- onto a slice without room
    rename_i xs hv
    rw [hv] at hs
    split at hres
    · rename_i hno
      cases hres
      have hl5 : H.length = H.length + D.length := hlen
      have hD0 : D = [] := List.eq_nil_of_length_eq_zero (by omega)
      subst hD0
      have hxe : ∃ b k, e x = .slice b 0 k := by
        unfold noneV at hno
        split at hno
        · rename_i heq
          rw [heq] at hx
          exact ⟨_, _, hx.litInv⟩
        · rename_i heq
          rw [heq] at hx
          generalize e x = u at hx
          cases hx; exact ⟨_, _, rfl⟩
        · cases hno
      obtain ⟨b0, k0, hex⟩ := hxe
      generalize hes : e s = u at hs
      have hs' := hs
      cases hs with
      | clip b n _ hf =>
        refine OpOK.still (by simpa using h) (u := .slice b n n) ?_ hs'
        rw [hrun2, hes, hex, run_append_zero t o.type el ti hd hti]; rfl
    cases hres
    obtain ⟨d, rfl⟩ := single (D := D) (by simp at hlen; omega)
    obtain ⟨hcd, hm0, hxl, hby, hmx⟩ := hc
    obtain ⟨hyl, hsc⟩ := src_rd h look_append hpos hx hsrc hcd
    rcases hsc with ⟨_, rfl⟩ | ⟨a, cc, news, hex, hnl, hnews, hn1, hcell⟩
    · simp at hm0
    generalize hes : e s = u at hs
    cases hs with
    | clip b n _ hf =>
      have hn : xs.length = n := by
        cases hf with
        | nil => rfl
        | sl ad n cap s _ us hn hcap => exact hn
      subst hn
      obtain ⟨_, hbase⟩ := src_frd hpos hf hxl
      rcases hbase with ⟨hb, rfl⟩ | ⟨a0, c0, olds, hb, hol, hold, ho1, hocell⟩
      · have hr := run_append_nil (P := P) w t o.type el ti z hd hti hz a ys.length cc news (by rw [hts]; exact hnl) hnews (by omega) (by omega) (by rw [htb]; simp at hby; omega)
        have hge := grownCap_ge w ys.length 0 el
        have hcm := grownCap_le_maxLen w ys.length 0 el (by simp only [maxLen]; omega)
        have hown := grown_owns (w := w) (el := el) hzs (xs := []) (news := news) (by simpa using hnl) hge hcm
        simp only [Array.empty_append, List.nil_append] at hown
        obtain ⟨X', ρ', h1, h2, h3, h4⟩ := place_row (xs := ys) (size := ie.size) (el := el) (v := .slice (some ⟨w.heap.size, 0, none⟩) ys.length (grownCap w ys.length 0 el)) (row := none) h (hD _ (Nat.le_refl _) (by simp))
          (grownBy_drew_alloc w _ none) (by simp) hnodead (by simp) hpos hyl hown (by
            intro g hg
            simp only [Value.ownBlock, Option.some.injEq] at hg
            left; omega) hcell
        simp only [List.length_nil, Nat.zero_add, List.nil_append] at h2 h3 ⊢
        refine ⟨_, _, X', ρ', .inl ?_, h1, h2, h3, fun id hid => h4 id (by simp at hid; omega)⟩
        rw [hrun2, hes, hex]
        rw [hb, hr]; rfl
      · cases hb
        have hr := run_append_grow (P := P) w t o.type el ti z hd hti hz a0 xs.length xs.length olds (by rw [hts]; exact hol) hold a ys.length cc news (by rw [hts]; exact hnl) hnews (by omega) (by omega)
          (growslice_fits (by omega) (by rw [htb]; exact hby))
        have hge := grownCap_ge w (xs.length + ys.length) xs.length el
        have hcm := grownCap_le_maxLen w (xs.length + ys.length) xs.length el (by simp only [maxLen]; omega)
        have hown := grown_owns (w := w) (el := el) hzs (xs := olds) (news := news) (by rw [List.length_append, hol, hnl, Nat.add_mul]) hge hcm
        obtain ⟨X', ρ', h1, h2, h3, h4⟩ := place_row (xs := xs ++ ys) (size := ie.size) (el := el) (v := .slice (some ⟨w.heap.size, 0, none⟩) (xs.length + ys.length) (grownCap w (xs.length + ys.length) xs.length el)) (row := none) h (hD _ (Nat.le_refl _) (by simp))
          (grownBy_drew_alloc w _ none) (by simp) hnodead (by simp) hpos (by
            intro y hy
            rw [List.mem_append] at hy
            rcases hy with hy | hy
            · exact hxl y hy
            · exact hyl y hy) (by rw [List.length_append]; exact hown) (by
            intro g hg
            simp only [Value.ownBlock, Option.some.injEq] at hg
            left; omega) (cells_append hol hyl hocell hcell)
        rw [List.length_append] at h3
        refine ⟨_, _, X', ρ', .inl ?_, h1, h2, h3, fun id hid => h4 id (by simp at hid; omega)⟩
        rw [hrun2, hes, hex, hr]; rfl
  · -- onto a slice of the call's own
    rename_i id len sz hv
    rw [hv] at hs
    split at hres
    rotate_left
    · cases hres
    rename_i xs hob
    split at hres
    rotate_left
    · cases hres
    rename_i hsz
    subst hsz
    split at hres
    · rename_i hself
      cases hres
      have hl5 : (H.set id (Ob.row true (xs.take len ++ ys ++ xs.drop (len + ys.length)))).length = H.length + D.length := hlen
      rw [List.length_set] at hl5
      have hD0 : D = [] := List.eq_nil_of_length_eq_zero (by omega)
      subst hD0
      obtain ⟨hcd, hroom⟩ := hc
      obtain ⟨hyl, hsc⟩ := src_rd h look_append hpos hx hsrc hcd
      obtain ⟨p, hp, hps, hcase⟩ := hs.lslInv
      have hidl : id < H.length := (List.getElem?_eq_some_iff.1 hob).1
      have hfull : (H ++ ([] ++ R))[id]? = some (.row true xs) := look_append id _ hob
      have hFs : ∀ ob, (H ++ ([] ++ R)).set id ob = H.set id ob ++ R := fun ob => by rw [List.nil_append, List.set_append_left _ _ hidl]
      rcases hcase with ⟨hg, hes, _, rfl⟩ | ⟨g, og, hg, hes, hl2, hoo⟩
      · have hx0 := row_nil h hp hfull hg
        subst hx0
        have hy0 : ys = [] := List.eq_nil_of_length_eq_zero (by rw [List.length_nil] at hroom; omega)
        subst hy0
        have hid : H.set id (.row true (List.take 0 ([] : List (List FV)) ++ ([] : List (List FV)) ++ List.drop (0 + List.length ([] : List (List FV))) ([] : List (List FV)))) = H := set_same hob
        show OpOK c w X ρ H.length (H.length + ([] : List Ob).length) (H.set id (.row true (List.take 0 ([] : List (List FV)) ++ ([] : List (List FV)) ++ List.drop (0 + List.length ([] : List (List FV))) ([] : List (List FV)))) ++ R) _ _
        rw [hid]
        refine OpOK.still (by simpa using h) (u := .slice none 0 0) ?_ (by rw [← hps]; exact .lsl0 id p hp hg)
        rcases hsc with ⟨hex, _⟩ | ⟨a, cc, news, hex, hnl, hnews, hn1, hcell⟩
        · have hr := run_append_owned_none (P := P) w 0 t o.type el ti ie.size hd hti (.slice none 0 0) 0 [] (World.ownsRow_nil w 0 el ie.size)
          rw [hrun2, hes, hex, hr]; rfl
        · rw [hrun2, hes, hex, List.length_nil, run_append_zero t o.type el ti hd hti]; rfl
      · have hog : og = 0 := by
          rcases hoo with hoo | hoo
          · rw [hoo]; simp
          · exact absurd rfl hoo.2
        subst hog
        simp only [Nat.sub_zero] at hes
        obtain ⟨⟨hppos, hxlen, us, hus, huc⟩, hrwX⟩ := h.ob id p _ hp hfull
        have hown0 : w.ownsRow 0 p.e p.size (.slice (some ⟨g, 0, none⟩) xs.length p.cap) xs.length us := by simpa [Place.val, hg] using hus
        have hzl : (xs.take len ++ ys ++ xs.drop (len + ys.length)).length = xs.length := by simp; omega
        have hzs : ∀ z ∈ xs.take len ++ ys ++ xs.drop (len + ys.length), z.length = p.size := by
          intro z hz
          rw [List.mem_append, List.mem_append] at hz
          rcases hz with (hz | hz) | hz
          · exact hxlen z (List.mem_of_mem_take hz)
          · rw [hyl z hz, hps]
          · exact hxlen z (List.mem_of_mem_drop hz)
        obtain ⟨hul, hcase⟩ := hown0
        rcases hcase with ⟨h5, _⟩ | ⟨g', cap', cur, h5, _, hcur, hnc, hcm, hcsz, htake⟩
        · cases h5
        cases h5
        rcases hsc with ⟨hex, rfl⟩ | ⟨a, cc, news, hex, hnl, hnews, hn1, hcell⟩
        · have hr := run_append_none' (P := P) (w := w) t o.type el ti hd hti g len p.cap (by simp at hroom; omega)
          simp only [List.length_nil, Nat.add_zero, List.append_nil, List.take_append_drop] at hzl hzs ⊢
          rw [set_same hob]
          refine OpOK.still (by simpa using h) (u := .slice (some ⟨g, 0, none⟩) len p.cap) (by rw [hrun2, hes, hex, hr]; rfl) ?_
          have hv2 := hs
          rw [hes] at hv2
          exact hv2
        · have hfit0 : (len + ys.length) * ie.size ≤ cur.size := by rw [hcsz, hps]; exact Nat.mul_le_mul_right _ (by omega)
          have hfit : len * ti.size + news.length ≤ cur.size := by rw [hts, hnl, ← Nat.add_mul]; exact hfit0
          have hr := run_append_room' (P := P) (w := w) t o.type el p.e ti hd hti g len p.cap cur hcur a ys.length cc news (by rw [hts]; exact hnl) hnews hn1 (by omega) hfit
          have hget := fun k => arr_splice_get (cur := cur) (o := len * ti.size) (vs := news) hfit k
          generalize hnew : (cur.toList.take (len * ti.size) ++ news ++ cur.toList.drop (len * ti.size + news.length)).toArray = new at hr hget
          have hnsz : new.size = cur.size := by
            rw [← hnew]
            simp only [List.size_toArray, List.length_append, List.length_take, List.length_drop, Array.length_toList]
            omega
          have hcs : ∀ (i j : Nat) x y, xs[i]? = some x → x[j]? = some y → ∃ u, cur[i * p.size + j]? = some u ∧ FRd w X u y := by
            intro i j x y hx1 hy1
            obtain ⟨u, hu, hf⟩ := huc i j x y hx1 hy1
            rw [← htake, List.getElem?_take] at hu
            split at hu
            · exact ⟨u, by rw [← hu, Array.getElem?_toList], hf⟩
            · cases hu
          have hjlt : ∀ (i j : Nat) z y, (xs.take len ++ ys ++ xs.drop (len + ys.length))[i]? = some z → z[j]? = some y → j < p.size := by
            intro i j z y hz hy
            rw [← hzs z (List.mem_of_getElem? hz)]; exact (List.getElem?_eq_some_iff.1 hy).1
          obtain ⟨X', h1, h2⟩ := h.reRow hp hfull hg hcur hnsz (zs := xs.take len ++ ys ++ xs.drop (len + ys.length)) (by omega) hzs (by
            intro i j z y hz hy
            have hj := hjlt i j z y hz hy
            have htl : (xs.take len).length = len := by rw [List.length_take]; omega
            rw [hts, ← hps] at hget
            rw [hnl, ← hps] at hget
            by_cases h7 : i < len
            · rw [List.append_assoc, List.getElem?_append_left (by omega), List.getElem?_take, if_pos h7] at hz
              obtain ⟨u, hu, hf⟩ := hcs i j z y hz hy
              have h8 : (i + 1) * p.size ≤ len * p.size := Nat.mul_le_mul_right _ h7
              rw [Nat.add_mul] at h8
              exact ⟨u, by rw [hget, if_pos (by omega)]; exact hu, hf⟩
            · have h8 : len * p.size ≤ i * p.size := Nat.mul_le_mul_right _ (by omega)
              by_cases h9 : i < len + ys.length
              · rw [List.getElem?_append_left (by rw [List.length_append]; omega), List.getElem?_append_right (by omega), htl] at hz
                obtain ⟨u, hu, hf⟩ := hcell (i - len) j z y hz hy
                have h10 : (i - len + 1) * p.size ≤ ys.length * p.size := Nat.mul_le_mul_right _ (by omega)
                rw [Nat.add_mul, Nat.sub_mul] at h10
                refine ⟨u, ?_, hf⟩
                rw [hget, if_neg (by omega), if_pos (by omega)]
                rw [← hps, Nat.sub_mul] at hu
                rw [← hu]
                congr 1
                omega
              · rw [List.getElem?_append_right (by rw [List.length_append]; omega), List.length_append, htl, List.getElem?_drop, show len + ys.length + (i - (len + ys.length)) = i by omega] at hz
                obtain ⟨u, hu, hf⟩ := hcs i j z y hz hy
                have h10 : (len + ys.length) * p.size ≤ i * p.size := Nat.mul_le_mul_right _ (by omega)
                rw [Nat.add_mul] at h10
                exact ⟨u, by rw [hget, if_neg (by omega), if_neg (by omega)]; exact hu, hf⟩)
          rw [hFs] at h1
          refine ⟨.slice (some ⟨g, 0, none⟩) (len + ys.length) p.cap, w.setRow g new, X', ρ, .inl ?_, h2, h1, ?_, fun _ _ => rfl⟩
          · rw [hrun2, hes, hex, hr]; rfl
          · have := PRd.lsl (w := w.setRow g new) (X := X') (ρ := ρ) id 0 (len + ys.length) 0 g p hp hg (by omega) (.inl (by simp))
            rw [← hps]
            simpa using this
    cases hres
    obtain ⟨d, rfl⟩ := single (D := D) (by simp at hlen; omega)
    obtain ⟨hcd, hlx, hby, hmx⟩ := hc
    obtain ⟨hyl, hsc⟩ := src_rd h look_append hpos hx hsrc hcd
    obtain ⟨p, hp, hps, hcase⟩ := hs.lslInv
    have hidl : id < H.length := (List.getElem?_eq_some_iff.1 hob).1
    have hfull := look_append (G := [d] ++ R) id _ hob
    obtain ⟨⟨_, hxlen, us, hus, huc⟩, hrwX⟩ := h.ob id p _ hp hfull
    have hkill := h.kill id
    rw [kill_append hidl] at hkill
    have hlk : (H.set id .dead).length = H.length := by simp
    have hρ' : ρ[(H.set id Ob.dead).length]? = some none := by rw [hlk]; exact hD _ (Nat.le_refl _) (by simp)
    have htl : ∀ y ∈ xs.take len ++ ys, y.length = ie.size := by
      intro y hy
      rw [List.mem_append] at hy
      rcases hy with hy | hy
      · rw [hxlen y (List.mem_of_mem_take hy), hps]
      · exact hyl y hy
    have htlen : (xs.take len ++ ys).length = len + ys.length := by simp; omega
    rcases hcase with ⟨hg, hes, _, rfl⟩ | ⟨g, og, hg, hes, hl2, hoo⟩
    · -- nothing yet
      rw [List.take_zero, List.nil_append] at htl
      simp only [List.take_zero, List.nil_append, Nat.zero_add] at hby hmx ⊢
      rcases hsc with ⟨hex, rfl⟩ | ⟨a, cc, news, hex, hnl, hnews, hn1, hcell⟩
      · have hr := run_append_owned_none (P := P) w 0 t o.type el ti ie.size hd hti (.slice none 0 0) 0 [] (World.ownsRow_nil w 0 el ie.size)
        obtain ⟨X', ρ', h1, h2, h3, h4⟩ := place_row (xs := []) (us := []) (size := ie.size) (el := el) (v := .slice none 0 0) (row := none) hkill hρ' (grownBy_refl w none) (by simp) (by intros; simp) (by simp) hpos (by simp)
          (World.ownsRow_nil w 0 el ie.size) (by simp [Value.ownBlock]) (by simp)
        rw [hlk] at h3 h4
        refine ⟨_, _, X', ρ', .inl ?_, h1, h2, h3, fun id hid => h4 id (by simp at hid; omega)⟩
        rw [hrun2, hes, hex, hr]; rfl
      · by_cases hm : ys.length = 0
        · have hy0 : ys = [] := List.eq_nil_of_length_eq_zero hm
          subst hy0
          obtain ⟨v', w', hr, hown, hg, hiff⟩ := run_append_own (P := P) w 0 t o.type el ti z ie.size ie.bytes hd hti hz hts htb hzs hpos (.slice none 0 0) 0 [] (World.ownsRow_nil w 0 el ie.size) a 0 cc news (by simpa using hnl) hnews hn1 (by simp [maxLen]) (by simp) (Nat.zero_le _)
          have hv' := hiff.2 ⟨rfl, rfl⟩
          have hnn : news = [] := List.eq_nil_of_length_eq_zero (by simpa using hnl)
          subst hnn
          obtain ⟨X', ρ', h1, h2, h3, h4⟩ := place_row (xs := []) (us := []) (size := ie.size) (el := el) (v := v') (row := none) hkill hρ' hg (by simp) (by intros; simp) (by simp) hpos (by simp)
            (by simpa using hown) (by rw [hv']; simp [Value.ownBlock]) (by simp)
          rw [hlk] at h3 h4
          refine ⟨_, _, X', ρ', .inl ?_, h1, h2, h3, fun id hid => h4 id (by simp at hid; omega)⟩
          rw [hrun2, hes, hex]
          simp only [List.length_nil]
          rw [hr]; rfl
        · have hr := run_append_nil (P := P) w t o.type el ti z hd hti hz a ys.length cc news (by rw [hts]; exact hnl) hnews (by omega) (by omega) (by rw [htb]; omega)
          have hge := grownCap_ge w ys.length 0 el
          have hcm := grownCap_le_maxLen w ys.length 0 el (by simp only [maxLen]; omega)
          have hown := grown_owns (w := w) (el := el) hzs (xs := []) (news := news) (by simpa using hnl) hge hcm
          simp only [Array.empty_append, List.nil_append] at hown
          obtain ⟨X', ρ', h1, h2, h3, h4⟩ := place_row (xs := ys) (size := ie.size) (el := el) (v := .slice (some ⟨w.heap.size, 0, none⟩) ys.length (grownCap w ys.length 0 el)) (row := none) hkill hρ'
            (grownBy_drew_alloc w _ none) (by simp) (by intros; simp) (by simp) hpos hyl hown (by
              intro g hg
              simp only [Value.ownBlock, Option.some.injEq] at hg
              left; omega) hcell
          rw [hlk] at h3 h4
          refine ⟨_, _, X', ρ', .inl ?_, h1, h2, h3, fun id hid => h4 id (by simp at hid; omega)⟩
          rw [hrun2, hes, hex, hr]; rfl
    · have hog : og = 0 := by
        rcases hoo with hoo | hoo
        · rw [hoo]; simp
        · exact absurd rfl hoo.2
      subst hog
      simp only [Nat.sub_zero] at hes
      have hown0 : w.ownsRow 0 p.e p.size (.slice (some ⟨g, 0, none⟩) xs.length p.cap) xs.length us := by simpa [Place.val, hg] using hus
      have hown1 := ownsRow_take hown0 hlx
      rw [hps] at hown1 hown0
      have hucell : ∀ (i j : Nat) x y, (xs.take len)[i]? = some x → x[j]? = some y → ∃ u, (us.take (len * ie.size))[i * ie.size + j]? = some u ∧ FRd w X u y := by
        intro i j x y hx hy
        rw [List.getElem?_take] at hx
        split at hx
        · rename_i hil
          obtain ⟨u, hu, hf⟩ := huc i j x y hx hy
          rw [hps] at hu
          have hj : j < ie.size := by rw [← hps, ← hxlen x (List.mem_of_getElem? hx)]; exact (List.getElem?_eq_some_iff.1 hy).1
          have h1 : (i + 1) * ie.size ≤ len * ie.size := Nat.mul_le_mul_right _ hil
          rw [Nat.add_mul] at h1
          exact ⟨u, by rw [List.getElem?_take, if_pos (by omega)]; exact hu, hf⟩
        · cases hx
      have hul : (us.take (len * ie.size)).length = (xs.take len).length * ie.size := by
        rw [hown1.1, List.length_take, Nat.min_eq_left hlx]
      have hXg : X g := (hrwX g hg).1 rfl
      have hotherg : ∀ (j : Nat) q o2 g2, j ≠ (H.set id Ob.dead).length → ρ[j]? = some (some q) → (H.set id .dead ++ ([d] ++ R))[j]? = some o2 → o2.rw = true → q.b = some g2 → some g2 ≠ some g := by
        intro j q o2 g2 _ hq ho2 hr2 hb2 he
        cases he
        by_cases hj : id = j
        · subst hj
          rw [List.getElem?_append_left (by simpa using hidl), List.getElem?_set_self hidl] at ho2
          cases ho2; cases hr2
        · have ho3 : (H ++ ([d] ++ R))[j]? = some o2 := by
            rw [← kill_append hidl, List.getElem?_set_ne hj] at ho2
            exact ho2
          exact hj (h.inj id j p q _ o2 g hp hq hfull ho3 rfl hr2 hg hb2)
      rcases hsc with ⟨hex, rfl⟩ | ⟨a, cc, news, hex, hnl, hnews, hn1, hcell⟩
      · have hr := run_append_none' (P := P) (w := w) t o.type el ti hd hti g len p.cap (by omega)
        simp only [List.append_nil, List.length_nil, Nat.add_zero] at htl htlen ⊢
        obtain ⟨X', ρ', h1, h2, h3, h4⟩ := place_row (xs := xs.take len) (size := ie.size) (el := p.e) (v := .slice (some ⟨g, 0, none⟩) len p.cap) (row := some g) hkill hρ' (grownBy_refl w (some g)) (by intro g' hg'; cases hg'; exact hXg)
          hotherg (by intro g' hg'; cases hg'; exact (h.own id p _ g hp hfull rfl hg).1) hpos htl (by rw [htlen]; exact hown1) (by intro g' hg'; simp only [Value.ownBlock, Option.some.injEq] at hg'; right; rw [hg']) hucell
        rw [hlk] at h3 h4
        rw [htlen] at h3
        refine ⟨_, _, X', ρ', .inl ?_, h1, h2, h3, fun id hid => h4 id (by simp at hid; omega)⟩
        rw [hrun2, hes, hex, hr]; rfl
      · by_cases hroom : len + ys.length ≤ p.cap
        · obtain ⟨hl1, hcase⟩ := hown1
          rcases hcase with ⟨h5, _⟩ | ⟨g', cap', cur, h5, _, hcur, hnc, hcm, hcs, htake⟩
          · cases h5
          cases h5
          have hfit : len * ti.size + news.length ≤ cur.size := by rw [hts, hnl, hcs, ← Nat.add_mul]; exact Nat.mul_le_mul_right _ hroom
          have hr := run_append_room' (P := P) (w := w) t o.type el p.e ti hd hti g len p.cap cur hcur a ys.length cc news (by rw [hts]; exact hnl) hnews hn1 hroom hfit
          have hown2 : (w.setRow g (cur.toList.take (len * ti.size) ++ news ++ cur.toList.drop (len * ti.size + news.length)).toArray).ownsRow 0 p.e ie.size (.slice (some ⟨g, 0, none⟩) (len + ys.length) p.cap) (len + ys.length) (us.take (len * ie.size) ++ news) := by
            have hlen2 : (us.take (len * ie.size) ++ news).length = (len + ys.length) * ie.size := by rw [List.length_append, hl1, hnl, Nat.add_mul]
            refine ⟨hlen2, .inr ⟨g, p.cap, _, rfl, Nat.zero_le _, setRow_heap w g cur _ p.e _ hcur, hroom, hcm, ?_, ?_⟩⟩
            · rw [hts] at hfit ⊢
              simp only [List.size_toArray, List.length_append, List.length_take, List.length_drop, Array.length_toList]
              omega
            · rw [hts, htake, ← hlen2]
              exact List.take_left
          have hgb : w.grownBy (w.setRow g (cur.toList.take (len * ti.size) ++ news ++ cur.toList.drop (len * ti.size + news.length)).toArray) (some g) :=
            ⟨rfl, rfl, rfl, by simp, fun k _ hk => setRow_other w g k _ (fun e => hk (by simp [e]))⟩
          obtain ⟨X', ρ', h1, h2, h3, h4⟩ := place_row (xs := xs.take len ++ ys) (size := ie.size) (el := p.e) (v := .slice (some ⟨g, 0, none⟩) (len + ys.length) p.cap) (row := some g) hkill hρ'
            hgb (by intro g' hg'; cases hg'; exact hXg)
            hotherg (by intro g' hg'; cases hg'; exact (h.own id p _ g hp hfull rfl hg).1) hpos htl (by rw [htlen]; exact hown2) (by intro g' hg'; simp only [Value.ownBlock, Option.some.injEq] at hg'; right; rw [hg']) (cells_append hul hyl hucell hcell)
          rw [hlk] at h3 h4
          rw [htlen] at h3
          refine ⟨_, _, X', ρ', .inl ?_, h1, h2, h3, fun id hid => h4 id (by simp at hid; omega)⟩
          rw [hrun2, hes, hex, hr]; rfl
        · have hcells : ∀ (j : Nat) v, (us.take (len * ie.size))[j]? = some v → w.cell? ((⟨g, 0, none⟩ : Addr).add j) = some v := hown1.cells (g := g) rfl
          have hr := run_append_grow (P := P) w t o.type el ti z hd hti hz ⟨g, 0, none⟩ len p.cap (us.take (len * ie.size)) (by rw [hts]; exact hown1.1) hcells a ys.length cc news (by rw [hts]; exact hnl) hnews (by omega) (by omega)
            (growslice_fits (by omega) (by rw [htb]; exact hby))
          have hge := grownCap_ge w (len + ys.length) p.cap el
          have hcm := grownCap_le_maxLen w (len + ys.length) p.cap el (by simp only [maxLen]; omega)
          have hown := grown_owns (w := w) (el := el) hzs (xs := us.take (len * ie.size)) (news := news) (by rw [List.length_append, hown1.1, hnl, Nat.add_mul]) hge hcm
          obtain ⟨X', ρ', h1, h2, h3, h4⟩ := place_row (xs := xs.take len ++ ys) (size := ie.size) (el := el) (v := .slice (some ⟨w.heap.size, 0, none⟩) (len + ys.length) (grownCap w (len + ys.length) p.cap el)) (row := none) hkill hρ'
            (grownBy_drew_alloc w _ none) (by simp) (by intros; simp) (by simp) hpos htl (by rw [htlen]; exact hown) (by
              intro g hg
              simp only [Value.ownBlock, Option.some.injEq] at hg
              left; omega) (cells_append hul hyl hucell hcell)
          rw [hlk] at h3 h4
          rw [htlen] at h3
          refine ⟨_, _, X', ρ', .inl ?_, h1, h2, h3, fun id hid => h4 id (by simp at hid; omega)⟩
          rw [hrun2, hes, hex, hr]; rfl
  · cases hres

end
end Go.AM

namespace Go.AM

section
variable {P : Program} {T : Tab}

theorem bi_len (hT : TabOk P T) (s : Operand) (t : TypeId) : EffBi P T .len #[s] #[t] := by
  intro c w X ρ H D R o e ρv r ho h hD hρ hres hc hlen
  have hs := hρ s (by simp)
  simp only [biRes, List.map_cons, List.map_nil] at hres
  split at hres
  rotate_left
  · cases hres
  rename_i i hi
  have hd := (hT _ _ hi).desc
  obtain ⟨consts, hrun⟩ := run_bi (P := P) (w := w) (e := e) ho
  have hrun2 : (execOp e o).run P w = ((Builtin.len_ #[t] o.type #[e s]).run P w).andThen fun v w' => .ok (.value v) w' := by
    rw [hrun]
    simp [builtin]
  split at hres
  · rename_i el hel
    rw [hel] at hd
    simp only [TyDesc] at hd
    split at hres
    rotate_left
    · cases hres
    rename_i n hn
    cases hres
    have hd0 : D = [] := List.eq_nil_of_length_eq_zero (by simp at hlen; simpa using hlen)
    subst hd0
    have hsl : ∃ b cap, e s = .slice b n cap := by
      generalize e s = u at hs
      generalize ρv s = v at hs hn
      cases hs with
      | fv _ _ hf => cases hf with
        | nil => simp [lenOf] at hn; subst hn; exact ⟨_, _, rfl⟩
        | sl ad m cap s xs us hxs => simp only [lenOf, Option.some.injEq] at hn; subst hn; rw [hxs]; exact ⟨_, _, rfl⟩
        | lit v _ => simp [lenOf] at hn
        | fp => simp [lenOf] at hn
        | fn => simp [lenOf] at hn
      | nilsl => simp [lenOf] at hn; subst hn; exact ⟨_, _, rfl⟩
      | clip a m xs hf => cases hf with
        | nil => simp [lenOf] at hn; subst hn; exact ⟨_, _, rfl⟩
        | sl ad m cap s xs us hxs => simp only [lenOf, Option.some.injEq] at hn; subst hn; rw [hxs]; exact ⟨_, _, rfl⟩
      | lsl0 => simp [lenOf] at hn; subst hn; exact ⟨_, _, rfl⟩
      | lsl => simp [lenOf] at hn; subst hn; exact ⟨_, _, rfl⟩
      | any => simp [lenOf] at hn
      | ptr => simp [lenOf] at hn
      | agg => simp [lenOf] at hn
      | tup => simp [lenOf] at hn
    obtain ⟨b, cap, hes⟩ := hsl
    exact OpOK.still h (u := .int .i64 n) (by rw [hrun2, hes]; simp [Builtin.len_, run_underlying hd, goInt]) (.fv _ _ (.lit _ rfl))
  · rename_i n el hel
    rw [hel] at hd
    simp only [TyDesc] at hd
    cases hres
    have hd0 : D = [] := List.eq_nil_of_length_eq_zero (by simp at hlen; simpa using hlen)
    subst hd0
    exact OpOK.still h (u := .int .i64 n) (by rw [hrun2]; simp [Builtin.len_, run_underlying hd, goInt]) (.fv _ _ (.lit _ rfl))
  · rename_i hel
    rw [hel] at hd
    simp only [TyDesc] at hd
    split at hres
    rotate_left
    · cases hres
    rename_i str hv
    cases hres
    have hd0 : D = [] := List.eq_nil_of_length_eq_zero (by simp at hlen; simpa using hlen)
    subst hd0
    rw [hv] at hs
    have hes := hs.litInv
    exact OpOK.still h (u := .int .i64 str.size) (by rw [hrun2, hes]; simp [Builtin.len_, run_underlying hd, goInt]) (.fv _ _ (.lit _ rfl))
  · cases hres

theorem binInts_rd {w : World} {X : Nat → Prop} {ρ : Places} {u v : Value} {x y : PV} {k : IntKind} {a b : Int} (h : binInts x y = some (k, a, b)) (hu : PRd w X ρ u x) (hv : PRd w X ρ v y) : u = .int k a ∧ v = .int k b := by
  unfold binInts at h
  split at h
  · split at h
    · rename_i hk
      subst hk
      cases h
      exact ⟨hu.litInv, hv.litInv⟩
    · cases h
  · cases h

theorem bi_max (x y : Operand) (t t' : TypeId) : EffBi P T .max #[x, y] #[t, t'] := by
  intro c w X ρ H D R o e ρv r ho h hD hρ hres hc hlen
  have hx := hρ x (by simp)
  have hy := hρ y (by simp)
  obtain ⟨consts, hrun⟩ := run_bi (P := P) (w := w) (e := e) ho
  simp only [biRes, List.map_cons, List.map_nil] at hres
  split at hres
  rotate_left
  · cases hres
  rename_i k a b hb
  cases hres
  have hd0 : D = [] := List.eq_nil_of_length_eq_zero (by simp at hlen; simpa using hlen)
  subst hd0
  obtain ⟨e1, e2⟩ := binInts_rd hb hx hy
  exact OpOK.still h (u := .int k (if b > a then b else a)) (by rw [hrun]; simp [builtin, Builtin.max_, Builtin.max2, e1, e2]) (.fv _ _ (.lit _ rfl))

theorem bi_min (x y : Operand) (t t' : TypeId) : EffBi P T .min #[x, y] #[t, t'] := by
  intro c w X ρ H D R o e ρv r ho h hD hρ hres hc hlen
  have hx := hρ x (by simp)
  have hy := hρ y (by simp)
  obtain ⟨consts, hrun⟩ := run_bi (P := P) (w := w) (e := e) ho
  simp only [biRes, List.map_cons, List.map_nil] at hres
  split at hres
  rotate_left
  · cases hres
  rename_i k a b hb
  cases hres
  have hd0 : D = [] := List.eq_nil_of_length_eq_zero (by simp at hlen; simpa using hlen)
  subst hd0
  obtain ⟨e1, e2⟩ := binInts_rd hb hx hy
  exact OpOK.still h (u := .int k (if b < a then b else a)) (by rw [hrun]; simp [builtin, Builtin.min_, Builtin.min2, e1, e2]) (.fv _ _ (.lit _ rfl))

theorem HRd.shrink {c : Ctx} {w w' : World} {X : Nat → Prop} {ρ : Places} {F : List Ob} (h : HRd c w X ρ F) {id : Nat} {p : Place} {xs : List (List FV)} {n g : Nat} (hp : ρ[id]? = some (some p)) (hob : F[id]? = some (.row true xs)) (hn : n ≤ xs.length)
    (hgp : p.b = some g) (hgb : w.grownBy w' (some g)) {cur new : Array Value} (hcur : w.heap[g]? = some (.cells cur p.e (0, 0))) (hnew : w'.heap[g]? = some (.cells new p.e (0, 0))) (hsz : new.size = cur.size) (hsame : ∀ (k : Nat), k < n * p.size → new[k]? = cur[k]?) :
    ∃ X', HRd c w' X' ρ (F.set id (.row true (xs.take n))) ∧ Stp c w w' X X' ρ ρ := by
  obtain ⟨⟨hppos, hxlen, us, hus, huc⟩, hrwX⟩ := h.ob id p _ hp hob
  have hXg : X g := (hrwX g hgp).1 rfl
  have hown0 : w.ownsRow 0 p.e p.size (.slice (some ⟨g, 0, none⟩) xs.length p.cap) xs.length us := by simpa [Place.val, hgp] using hus
  obtain ⟨hul, hcase⟩ := hown0
  rcases hcase with ⟨h5, _⟩ | ⟨g', cap', cur2, h5, _, hcur2, hnc, hcm, hcsz, htake⟩
  · cases h5
  cases h5
  rw [hcur] at hcur2
  cases hcur2
  have hmul : n * p.size ≤ xs.length * p.size := Nat.mul_le_mul_right _ hn
  have hmulc : xs.length * p.size ≤ p.cap * p.size := Nat.mul_le_mul_right _ hnc
  have hown2 : w'.ownsRow 0 p.e p.size (.slice (some ⟨g, 0, none⟩) n p.cap) n (new.toList.take (n * p.size)) := by
    refine ⟨by have e9 : new.toList.length = cur.size := hsz; rw [List.length_take, e9, hcsz]; omega, .inr ⟨g, p.cap, new, rfl, Nat.zero_le _, hnew, by omega, hcm, by rw [hsz, hcsz], rfl⟩⟩
  have hl2 : (xs.take n).length = n := by rw [List.length_take]; omega
  have hput := h.put (id := id) (p := p) (ob := .row true (xs.take n)) (row := some g) (w' := w') (List.getElem?_eq_some_iff.1 hob).1 (.inr hp) hgb
    (by intro g' hg'; cases hg'; exact hXg)
    (fun j2 q o2 g2 hj2 hq ho2 hr2 hb2 => by
      have hne : g2 ≠ g := by
        intro he; subst he
        exact hj2 (h.inj j2 id q p o2 _ g2 hq hp ho2 hob hr2 rfl hb2 hgp)
      exact ⟨by simp [hne], by rw [hgp]; simp; exact fun he => hne he.symm⟩)
    (fun g2 hg2 => by rw [hgp] at hg2; cases hg2; exact .inr hXg)
    (fun g2 hg2 => by rw [hgp] at hg2; cases hg2; exact ⟨(h.own id p _ g hp hob rfl hgp).1, Nat.lt_of_lt_of_le (h.own id p _ g hp hob rfl hgp).2 hgb.size⟩)
    (fun g2 hg2 => by cases hg2; exact (h.own id p _ g hp hob rfl hgp).1)
    ⟨⟨hppos, fun x hx => hxlen x (List.mem_of_mem_take hx), new.toList.take (n * p.size), by rw [hl2]; simpa [Place.val, hgp] using hown2, by
        intro i2 k y1 y2 hy1 hy2
        have hi2 : i2 < n := by have := (List.getElem?_eq_some_iff.1 hy1).1; rw [hl2] at this; exact this
        rw [List.getElem?_take, if_pos hi2] at hy1
        have hmul2 : (i2 + 1) * p.size ≤ n * p.size := Nat.mul_le_mul_right _ hi2
        rw [Nat.add_mul] at hmul2
        have hk : k < p.size := by rw [← hxlen y1 (List.mem_of_getElem? hy1)]; exact (List.getElem?_eq_some_iff.1 hy2).1
        obtain ⟨u, hu, hf⟩ := huc i2 k y1 y2 hy1 hy2
        refine ⟨u, ?_, hf.mono ⟨hgb.size, fun b hb hxb => hgb.block b hb (fun he => hxb (by cases he; exact hXg))⟩ (fun b hb hxb => by
          rcases hxb with hxb | hxb
          · exact hxb
          · rw [hgp] at hxb; cases hxb; exact hXg)⟩
        rw [← htake, List.getElem?_take, if_pos (by omega), Array.getElem?_toList] at hu
        rw [List.getElem?_take, if_pos (by omega), Array.getElem?_toList, hsame _ (by omega), hu]⟩,
      fun g2 hg2 => ⟨fun _ => .inr hg2, fun _ => rfl⟩⟩
  rw [set_self hp] at hput
  exact ⟨_, hput.1, hput.2⟩

theorem bi_clear (hT : TabOk P T) (x : Operand) (t : TypeId) : EffBi P T .clear #[x] #[t] := by
  intro c w X ρ H D R o e ρv r ho h hD hρ hres hc hlen
  have hx := hρ x (by simp)
  simp only [biRes, List.map_cons, List.map_nil] at hres
  split at hres
  rotate_left
  · cases hres
  rename_i i hi
  split at hres
  rotate_left
  · cases hres
  rename_i el hel
  have hd := (hT _ _ hi).desc
  rw [hel] at hd
  simp only [TyDesc] at hd
  split at hres
  rotate_left
  · cases hres
  rename_i ie hie
  split at hres
  rotate_left
  · cases hres
  rename_i id off len s hv
  split at hres
  rotate_left
  · cases hres
  rename_i xs hob
  split at hres
  rotate_left
  · cases hres
  rename_i hs
  cases hres
  obtain ⟨ti, z, hti, hts, htb, hz, hzs, hil, hone, hrd⟩ := zero_rd (hT _ _ hie) (w := w) (X := X) (ρ := ρ)
  obtain ⟨consts, hrun⟩ := run_bi (P := P) (w := w) (e := e) ho
  have hrun2 : (execOp e o).run P w = ((Builtin.clear_ #[t] o.type #[e x]).run P w).andThen fun v w' => .ok (.value v) w' := by
    rw [hrun]
    simp [builtin]
  have hl5 : (H.set id (Ob.row true (xs.take off))).length = H.length + D.length := hlen
  rw [List.length_set] at hl5
  have hd0 : D = [] := List.eq_nil_of_length_eq_zero (by omega)
  subst hd0
  have hidl := (List.getElem?_eq_some_iff.1 hob).1
  have hfull : (H ++ ([] ++ R))[id]? = some (.row true xs) := look_append id _ hob
  have hFs : (H ++ ([] ++ R)).set id (.row true (xs.take off)) = H.set id (.row true (xs.take off)) ++ R := by
    rw [List.nil_append, List.set_append_left _ _ hidl]
  rw [hv] at hx
  generalize hue : e x = u at hx
  cases hx with
  | lsl0 _ p hp hgp =>
    have h0 : H.set id (Ob.row true (xs.take 0)) = H := by
      obtain ⟨⟨_, _, us, hus, _⟩, _⟩ := h.ob id p _ hp hfull
      have hx0 : xs = [] := by
        obtain ⟨_, hcase⟩ := hus
        rcases hcase with ⟨_, h6⟩ | ⟨g', cap', cur2, h5, _⟩
        · exact List.eq_nil_of_length_eq_zero h6
        · simp [Place.val, hgp] at h5
      subst hx0
      apply List.ext_getElem?
      intro j
      by_cases hj : id = j
      · subst hj; rw [List.getElem?_set_self hidl, hob]; rfl
      · rw [List.getElem?_set_ne hj]
    show OpOK c w X ρ H.length (H.length + ([] : List Ob).length) (H.set id (Ob.row true (xs.take 0)) ++ R) _ _
    rw [h0]
    exact OpOK.still (by simpa using h) (u := .tuple #[]) (by rw [hrun2, hue]; simp [Builtin.clear_, run_underlying hd]) (.tup #[] [] rfl (by simp))
  | lsl _ _ _ oo g p hp hgp hl hoo =>
    have hcl : off + len ≤ xs.length := hc
    obtain ⟨⟨hppos, hxlen, us, hus, huc⟩, hrwX⟩ := h.ob id p _ hp hfull
    have hown0 : w.ownsRow 0 p.e p.size (.slice (some ⟨g, 0, none⟩) xs.length p.cap) xs.length us := by simpa [Place.val, hgp] using hus
    obtain ⟨hul, hcase⟩ := hown0
    rcases hcase with ⟨h5, _⟩ | ⟨g', cap', cur, h5, _, hcur, hnc, hcm, hcsz, htake⟩
    · cases h5
    cases h5
    by_cases hlen0 : len = 0
    · subst hlen0
      obtain ⟨X', h1, h2⟩ := h.shrink hp hfull (n := off) (by omega) hgp (w' := w) (grownBy_refl w (some g)) hcur hcur rfl (fun _ _ => rfl)
      rw [hFs] at h1
      refine ⟨.tuple #[], w, X', ρ, .inl (by rw [hrun2, hue]; simp [Builtin.clear_, run_underlying hd]), h2, h1, .tup #[] [] rfl (by simp), fun _ _ => rfl⟩
    · have hoo2 : oo = off * p.size := by rcases hoo with h6 | ⟨h6, _⟩ <;> omega
      subst hoo2
      have hzc : (Builtin.zeroCells z.cells len).size = len * p.size := by rw [size_zeroCells, hzs, ← hs]
      have hmulc : (off + len) * p.size ≤ p.cap * p.size := Nat.mul_le_mul_right _ hl
      rw [Nat.add_mul] at hmulc
      have hone2 : ∀ v ∈ (Builtin.zeroCells z.cells len).toList, v.oneCell' = true := by
        intro v hvm
        rw [Array.mem_toList_iff] at hvm
        unfold Builtin.zeroCells at hvm
        rw [Array.mem_map] at hvm
        obtain ⟨k, hk, rfl⟩ := hvm
        have hzp : 0 < z.cells.size := by
          rcases Nat.eq_zero_or_pos z.cells.size with h0 | h0
          · rw [h0] at hk; omega
          · exact h0
        have hlt : k % z.cells.size < z.cells.size := Nat.mod_lt _ hzp
        refine hone (k % z.cells.size) _ ?_
        simp [hlt]
      have hst := run_storeCells_at P g (off * p.size) p.e (Builtin.zeroCells z.cells len).toList 0 cur w hcur (by simp only [Array.length_toList, hzc]; omega) hone2
      simp only [Nat.add_zero, Array.length_toList] at hst
      have hget := fun k => arr_splice_get (cur := cur) (o := off * p.size) (vs := (Builtin.zeroCells z.cells len).toList) (by simp only [Array.length_toList, hzc]; omega) k
      simp only [Array.length_toList] at hget
      have hgb := grownBy_setRow w g (cur.toList.take (off * p.size) ++ (Builtin.zeroCells z.cells len).toList ++ cur.toList.drop (off * p.size + (Builtin.zeroCells z.cells len).size)).toArray
      have hheap := setRow_heap w g cur (cur.toList.take (off * p.size) ++ (Builtin.zeroCells z.cells len).toList ++ cur.toList.drop (off * p.size + (Builtin.zeroCells z.cells len).size)).toArray p.e (0, 0) hcur
      have hrun3 : (execOp e o).run P w = .ok (.value (.tuple #[])) (w.setRow g (cur.toList.take (off * p.size) ++ (Builtin.zeroCells z.cells len).toList ++ cur.toList.drop (off * p.size + (Builtin.zeroCells z.cells len).size)).toArray) := by
        rw [hrun2, hue]
        obtain ⟨n, rfl⟩ : ∃ n, len = n + 1 := ⟨len - 1, by omega⟩
        simp [Builtin.clear_, run_underlying hd, zeroValue, typeInfo, hti, hz, hst]
      generalize hnew : (cur.toList.take (off * p.size) ++ (Builtin.zeroCells z.cells len).toList ++ cur.toList.drop (off * p.size + (Builtin.zeroCells z.cells len).size)).toArray = new at hrun3 hgb hget hheap
      have hnsz : new.size = cur.size := by
        rw [← hnew]
        simp only [List.size_toArray, List.length_append, List.length_take, List.length_drop, Array.length_toList, hzc]
        omega
      obtain ⟨X', h1, h2⟩ := h.shrink hp hfull (n := off) (by omega) hgp (w' := w.setRow g new) hgb hcur hheap hnsz (fun k hk => by rw [hget, if_pos hk])
      rw [hFs] at h1
      exact ⟨.tuple #[], _, X', ρ, .inl hrun3, h2, h1, .tup #[] [] rfl (by simp), fun _ _ => rfl⟩

theorem eff_bi (hT : TabOk P T) (b : Builtin) (args : Array Operand) (ts : Array TypeId) : EffBi P T b args ts := by
  intro c w X ρ H D R o e ρv r ho h hD hρ hres hc hlen
  have hres' := hres
  unfold biRes at hres'
  split at hres'
  · rename_i t v hts hvs
    obtain ⟨args⟩ := args
    obtain ⟨ts⟩ := ts
    simp only at hts
    subst hts
    simp only at hvs
    match args, hvs with
    | [s], _ => exact bi_len hT s t ho h hD hρ hres hc hlen
  · rename_i t t' s x hts hvs
    obtain ⟨args⟩ := args
    obtain ⟨ts⟩ := ts
    simp only at hts
    subst hts
    simp only at hvs
    split at hres'
    · rename_i htt
      subst htt
      match args, hvs with
      | [s, x], _ => exact bi_append hT s x t ho h hD hρ hres hc hlen
    · cases hres'
  · rename_i t t' x y hts hvs
    obtain ⟨args⟩ := args
    obtain ⟨ts⟩ := ts
    simp only at hts
    subst hts
    simp only at hvs
    match args, hvs with
    | [x, y], _ => exact bi_max x y t t' ho h hD hρ hres hc hlen
  · rename_i t t' x y hts hvs
    obtain ⟨args⟩ := args
    obtain ⟨ts⟩ := ts
    simp only at hts
    subst hts
    simp only at hvs
    match args, hvs with
    | [x, y], _ => exact bi_min x y t t' ho h hD hρ hres hc hlen
  · rename_i t x hts hvs
    obtain ⟨args⟩ := args
    obtain ⟨ts⟩ := ts
    simp only at hts
    subst hts
    simp only at hvs
    match args, hvs with
    | [x], _ => exact bi_clear hT x t ho h hD hρ hres hc hlen
  · cases hres'

theorem flat_get {l : List PV} {s : Nat} (hl : l.length = s) (hs : 0 < s) : ∀ (n k : Nat), k < n * s → (List.replicate n l).flatten[k]? = l[k % s]?
  | 0, k, h => by simp at h
  | n + 1, k, h => by
    rw [List.replicate_succ, List.flatten_cons]
    by_cases hk : k < s
    · rw [List.getElem?_append_left (by omega), Nat.mod_eq_of_lt hk]
    · have e1 : (n + 1) * s = n * s + s := Nat.succ_mul n s
      have e2 : k % s = (k - s) % s := Nat.mod_eq_sub_mod (by omega)
      rw [List.getElem?_append_right (by omega), hl, flat_get hl hs n (k - s) (by omega), e2]

theorem eff_buildSlice (hT : TabOk P T) (t : TypeId) (len : Nat) (parts : Array (Nat × Operand)) : EffOp P T (.buildSlice t len parts) := by
  intro c w X ρ H D R o e ρv r ho h hD hρ hres hc hlen
  simp only [opRes] at hres
  split at hres
  rotate_left
  · cases hres
  rename_i i hi
  split at hres
  rotate_left
  · cases hres
  rename_i el hel
  have hd := (hT _ _ hi).desc
  rw [hel] at hd
  simp only [TyDesc] at hd
  split at hres
  rotate_left
  · cases hres
  rename_i ie hie
  split at hres
  rotate_left
  · cases hres
  rename_i cs hcs
  split at hres
  rotate_left
  · cases hres
  rename_i fs hfs
  split at hres
  rotate_left
  · cases hres
  rename_i hg
  obtain ⟨hg2, hg3, hg4⟩ := hg
  cases hres
  have hids := fzs_ids hfs
  have hl5 : (shutAll H cs ++ [Ob.row true (groups ie.size len fs)]).length = H.length + D.length := hlen
  rw [List.length_append] at hl5
  unfold shutAll at hl5
  rw [shutIds_length] at hl5
  obtain ⟨d, rfl⟩ := single (D := D) (by simp at hl5; omega)
  obtain ⟨X1, h1, hs1, hn1⟩ := h.shutIds (cs.flatMap ids0)
  rw [shutIds_append _ hids] at h1
  obtain ⟨ti, z, hti, hts, htb, hz, hzs, hil, hone, hrd⟩ := zero_rd (hT _ _ hie) (w := w) (X := X) (ρ := ρ)
  -- the zero cells
  have hzpos : 0 < z.cells.size := by omega
  have hzero : CellsRd w X ρ ((Array.range (len * ti.size)).map fun k => (z.cells[k % z.cells.size]!)) (List.replicate len ie.zero).flatten := by
    have hget : ∀ (j : Nat) u, ((Array.range (len * ti.size)).map fun k => (z.cells[k % z.cells.size]!))[j]? = some u → j < len * ie.size ∧ z.cells[j % ie.size]? = some u := by
      intro j u hu
      rw [Array.getElem?_map, Option.map_eq_some_iff] at hu
      obtain ⟨k, hk, rfl⟩ := hu
      have hk1 := (Array.getElem?_eq_some_iff.1 hk).1
      have hk2 := (Array.getElem?_eq_some_iff.1 hk).2
      simp only [Array.getElem_range] at hk2
      subst hk2
      have hlt : j % z.cells.size < z.cells.size := Nat.mod_lt _ hzpos
      refine ⟨by simpa [hts] using hk1, ?_⟩
      rw [← hzs]
      simp [hlt]
    refine ⟨by simp [hts, hil], fun j u hu => hone _ u (hget j u hu).2, fun j u x hu hx => ?_⟩
    obtain ⟨h2, h3⟩ := hget j u hu
    rw [flat_get hil hg3 len j h2] at hx
    exact (hrd _ u x h3 hx).1
  obtain ⟨us', hus, hrest⟩ := fill_rd (w := w) (X := X) (ρ := ρ) (pl := fun j => some (j * ie.size, ie.size)) (by intro i off s hi; cases hi; exact hg3) (parts.toList.map fun (i, x) => (i, e x)) (parts.toList.map fun (j, x) => (j, ρv x)) _ _ cs (by simp)
    (parts_rd parts.toList (fun p hp => hρ p.2 (by
      simp only [Op.operands, List.mem_toArray, List.mem_map]
      exact ⟨p, hp, rfl⟩))) hzero hcs
  have hcl : cs.length = len * ie.size := by
    have h2 := hrest.n
    have h3 : ∀ (pv : List (Nat × PV)) (a b : List PV), fillP (fun j => some (j * ie.size, ie.size)) a pv = some b → b.length = a.length := by
      intro pv
      induction pv with
      | nil => intro a b hab; simp [fillP] at hab; rw [hab]
      | cons p pv ih =>
        intro a b hab
        obtain ⟨i, x⟩ := p
        simp only [fillP] at hab
        split at hab
        · rename_i hcond
          rw [ih _ _ hab, splice_length (by omega)]
        · cases hab
    rw [h3 _ _ _ hcs]
    simp [hil]
  have hfl : fs.length = len * ie.size := by rw [fzs_length hfs, hcl]
  have hXs : Stp c w w X X1 ρ ρ := Stp.same_world hs1
  have hfr : ∀ (k : Nat) u y, us'[k]? = some u → fs[k]? = some y → FRd w X1 u y := by
    intro k u y hu hy
    have hlt : k < cs.length := by rw [hcl, ← hfl]; exact (List.getElem?_eq_some_iff.1 hy).1
    obtain ⟨y', hy', hfy⟩ := fzs_get hfs k cs[k] (by simp [hlt])
    rw [hy] at hy'; cases hy'
    refine fz0_rd h look_append (hrest.rd k u cs[k] hu (by simp [hlt])) hfy hs1 (fun id hid => hn1 id ?_)
    rw [List.mem_flatMap]
    exact ⟨cs[k], by simp, hid⟩
  have hρ1 : ρ[(shutIds (cs.flatMap ids0) H).length]? = some none := by rw [shutIds_length]; exact hD _ (Nat.le_refl _) (by simp)
  have hmx : len ≤ maxLen := by simp only [maxLen]; omega
  have hown := World.ownsRow_lit (base := 0) (size := ie.size) (e := el) w us' len (Nat.zero_le _) hmx (by rw [hrest.n, hcl])
  obtain ⟨X', ρ', h2, h3, h4, h5⟩ := place_row (xs := groups ie.size len fs) (size := ie.size) (el := el) (v := .slice (some ⟨w.heap.size, 0, none⟩) len len) (row := none) h1 hρ1 (World.grownBy_alloc w _ none) (by simp) (by intros; simp) (by simp) hg3 (groups_len hfl)
    (by rw [groups_length]; exact hown) (by
      intro g hg
      simp only [Value.ownBlock, Option.some.injEq] at hg
      left; omega) (by
      intro i' j x y hx hy
      obtain ⟨hy', hj⟩ := groups_cell hx hy
      have hlt : i' * ie.size + j < us'.size := by rw [hrest.n, hcl, ← hfl]; exact (List.getElem?_eq_some_iff.1 hy').1
      exact ⟨us'[i' * ie.size + j], by simp [hlt], hfr _ _ _ (by simp [hlt]) hy'⟩)
  rw [shutIds_length, groups_length] at h4
  rw [shutIds_length] at h5
  refine ⟨_, _, X', ρ', .inl ?_, hXs.trans h2, h3, h4, fun id hid => h5 id (by simp at hid; omega)⟩
  have hn24 : ¬ (16777216 < len * ti.size) := by
    rw [hts]
    have : len * ie.size ≤ 1000 * 1000 := Nat.mul_le_mul (by omega) (by omega)
    omega
  by_cases hl0 : len = 0
  · subst hl0
    have hr0 : Array.range 0 = #[] := rfl
    simp only [Nat.zero_mul, hr0, Array.map_empty] at hus
    simp [execOp, ho, Instr.buildSlice, run_underlying hd, sizeOf, typeInfo, hti, hts, hr0, hus, newRow]
  have hne : ¬ (len * ti.size = 0) := by
    rw [hts]
    exact Nat.mul_ne_zero hl0 (by omega)
  rw [hts] at hus
  simp only [hts] at hn24 hne
  simp [execOp, ho, Instr.buildSlice, run_underlying hd, sizeOf, typeInfo, hti, hts, zeroValue, hz, hn24, hne, hus, newRow]

end
end Go.AM

namespace Go.AM

section
variable {P : Program} {T : Tab}

theorem bound3_rd {w : World} {n l h m : Nat} {lo hi mx : Option Operand} {e : Operand → Value} {ρv : Operand → PV} {X : Nat → Prop} {ρ : Places}
    (hlo : ∀ x ∈ lo.toArray, PRd w X ρ (e x) (ρv x)) (hhi : ∀ x ∈ hi.toArray, PRd w X ρ (e x) (ρv x)) (hmx : ∀ x ∈ mx.toArray, PRd w X ρ (e x) (ρv x)) {c1 c2 c3 : Prop} (hmn : mx.isSome = true → hi.isSome = true)
    (hb1 : bound (lo.map ρv) 0 = some (c1, l)) (hb2 : bound (hi.map ρv) n = some (c2, h)) (hb3 : bound (mx.map ρv) n = some (c3, m)) (hc1 : c1) (hc2 : c2) (hc3 : c3) (hlh : l ≤ h) (hhm : h ≤ m) (hmn2 : m ≤ n) :
    (Instr.sliceBounds false n n (lo.map e) (hi.map e) (mx.map e)).run P w = .ok (l, h, m) w := by
  rcases bound_rd hlo hb1 with ⟨rfl, rfl, _⟩ | ⟨x, k, a, rfl, hx, rfl, rfl⟩ <;>
    rcases bound_rd hhi hb2 with ⟨rfl, rfl, _⟩ | ⟨y, k', b, rfl, hy, rfl, rfl⟩ <;>
      rcases bound_rd hmx hb3 with ⟨rfl, rfl, _⟩ | ⟨z, k2, d, rfl, hz, rfl, rfl⟩
  · simp [Instr.sliceBounds]
  · simp at hmn
  · have h1 : 0 ≤ b ∧ b ≤ (m : Int) := by omega
    simp [Instr.sliceBounds, Instr.sliceBound, hy, asIntOf, h1]
  · have h1 : 0 ≤ d ∧ d ≤ (n : Int) := by omega
    have h2 : 0 ≤ b ∧ b ≤ max d 0 := by omega
    simp [Instr.sliceBounds, Instr.sliceBound, hy, hz, asIntOf, h1, h2]
  · have h1 : 0 ≤ a ∧ a ≤ (m : Int) := by omega
    simp [Instr.sliceBounds, Instr.sliceBound, hx, asIntOf, h1]
  · simp at hmn
  · have h1 : 0 ≤ b ∧ b ≤ (m : Int) := by omega
    have h2 : 0 ≤ a ∧ a ≤ max b 0 := by omega
    simp [Instr.sliceBounds, Instr.sliceBound, hx, hy, asIntOf, h1, h2]
  · have h1 : 0 ≤ d ∧ d ≤ (n : Int) := by omega
    have h2 : 0 ≤ b ∧ b ≤ max d 0 := by omega
    have h3 : 0 ≤ a ∧ a ≤ max b 0 := by omega
    simp [Instr.sliceBounds, Instr.sliceBound, hx, hy, hz, asIntOf, h1, h2, h3]

theorem frd_take {w : World} {X : Nat → Prop} {ad : Addr} {n m : Nat} {xs : List (List FV)} (hf : FRd w X (.slice (some ad) n n) (.sl xs)) (hm : m ≤ n) : FRd w X (.slice (some ad) m m) (.sl (xs.take m)) := by
  cases hf with
  | sl _ _ _ s _ us hn hc hs h0 hX hb hcell hrd =>
    refine .sl ad m m s _ us (by simp; omega) (Nat.le_refl _) (fun x hx => hs x (List.mem_of_mem_take hx)) h0 (fun hz => hX (by omega)) (fun hz => hb (by omega)) (fun i j x y hx hy => ?_) (fun i j x y hx hy => ?_)
    · rw [List.getElem?_take] at hx
      split at hx
      · exact hcell i j x y hx hy
      · cases hx
    · rw [List.getElem?_take] at hx
      split at hx
      · exact hrd i j x y hx hy
      · cases hx

theorem eff_sliceArr (hT : TabOk P T) {t : TypeId} {i : TyI} (hi : T.at t = some i) {n el : Nat} (hel : i.d = .arr n el) (x : Operand) (lo hi' mx : Option Operand) : EffOp P T (.slice t x lo hi' mx) := by
  intro c w X ρ H D R o e ρv r ho h hD hρ hres hc hlen
  have hx := hρ x (by simp [Op.operands])
  have hlo : ∀ y ∈ lo.toArray, PRd w X ρ (e y) (ρv y) := fun y hy => hρ y (by simp [Op.operands] at hy ⊢; simp [hy])
  have hhi : ∀ y ∈ hi'.toArray, PRd w X ρ (e y) (ρv y) := fun y hy => hρ y (by simp [Op.operands] at hy ⊢; simp [hy])
  have hmx : ∀ y ∈ mx.toArray, PRd w X ρ (e y) (ρv y) := fun y hy => hρ y (by simp [Op.operands] at hy ⊢; simp [hy])
  have hd := (hT _ _ hi).desc
  rw [hel] at hd
  simp only [TyDesc] at hd
  simp only [opRes, hi, hel] at hres
  split at hres
  rotate_left
  · cases hres
  rename_i ie id j off c1 l c2 hh c3 m hie hv hb1 hb2 hb3
  rw [hv] at hx
  split at hres
  rotate_left
  · cases hres
  rename_i rw cs hob
  split at hres
  rotate_left
  · cases hres
  rename_i fs hfs
  split at hres
  rotate_left
  · cases hres
  rename_i hg
  obtain ⟨rfl, hpos, hn0, hmn⟩ := hg
  cases hres
  have h5 : (shutIds (id :: ((cs.drop off).take (n * ie.size)).flatMap ids0) H).length = H.length + D.length := hlen
  rw [shutIds_length] at h5
  have hd0 : D = [] := List.eq_nil_of_length_eq_zero (by omega)
  subst hd0
  obtain ⟨hc1, hc2, hc3, hlh, hhm, hmn2, hoff⟩ := hc
  obtain ⟨ti, z, hti, hts, _⟩ := (hT _ _ hie).info
  have hids : ∀ k ∈ id :: ((cs.drop off).take (n * ie.size)).flatMap ids0, k < H.length := by
    intro k hk
    rw [List.mem_cons] at hk
    rcases hk with rfl | hk
    · exact (List.getElem?_eq_some_iff.1 hob).1
    · exact fzs_ids hfs k hk
  generalize hue : e x = u at hx
  cases hx with
  | ptr _ _ _ g p hp hgp =>
    have hb3' := bound3_rd (P := P) (w := w) hlo hhi hmx hmn hb1 hb2 hb3 hc1 hc2 hc3 hlh hhm hmn2
    refine OpOK.shutting hids h (u := .slice (if m = l then some ⟨g, off, none⟩ else (some (⟨g, off, none⟩ : Addr)).map (·.add (l * ie.size))) (hh - l) (m - l)) ?_ (fun X' hX hn => ?_)
    · have he : (0 * p.size + off) = off := by omega
      rw [he] at hue
      simp only [execOp, ho, hue]
      simp only [Instr.sliceAt, Sem.run_bind, run_underlying hd, Result.andThen_ok, Instr.sureAddr, Sem.run_pure, hb3', sizeOf, typeInfo, run_program, hti, hts]
      split <;> simp
    · obtain ⟨⟨g', us, hg', hhp, hsz, hone, hcell⟩, _⟩ := h.ob id p _ hp (look_append id _ hob)
      rw [hgp] at hg'; cases hg'
      have hfl : fs.length = n * ie.size := by rw [fzs_length hfs]; simp; omega
      have hfr : ∀ (k : Nat) y, fs[k]? = some y → w.cell? ⟨g, off + k, none⟩ = some (us.getD (off + k) undef) ∧ FRd w X' (us.getD (off + k) undef) y := by
        intro k y hy
        have hk : k < n * ie.size := by rw [← hfl]; exact (List.getElem?_eq_some_iff.1 hy).1
        have hlt : off + k < us.size := by omega
        have hc5 : ((cs.drop off).take (n * ie.size))[k]? = some cs[off + k] := by
          rw [List.getElem?_take, if_pos hk, List.getElem?_drop]
          simp [show off + k < cs.length by omega]
        obtain ⟨y', hy', hfy⟩ := fzs_get hfs k _ hc5
        rw [hy] at hy'; cases hy'
        rw [show us.getD (off + k) undef = us[off + k] by simp [hlt]]
        refine ⟨by rw [cell_of_row w g _ us _ _ hhp]; simp [hlt], ?_⟩
        refine fz0_rd h look_append (hcell _ _ _ (Array.getElem?_eq_getElem hlt) (by simp [show off + k < cs.length by omega])) hfy hX (fun k2 hk2 => hn k2 ?_)
        rw [List.mem_cons, List.mem_flatMap]
        exact .inr ⟨_, List.mem_of_getElem? hc5, hk2⟩
      have hbase : FRd w X' (.slice (some ⟨g, off, none⟩) n n) (.sl (groups ie.size n fs)) := by
        refine .sl _ n n ie.size _ (fun i j => us.getD (off + (i * ie.size + j)) undef) (groups_length _ _ _) (Nat.le_refl _) (groups_len hfl) rfl (fun _ => hn id (by simp) p _ g hp (look_append id _ hob) trivial hgp) (fun _ => (Array.getElem?_eq_some_iff.1 hhp).1) (fun i j x y hx hy => ?_) (fun i j x y hx hy => ?_)
        · exact (hfr _ _ (groups_cell hx hy).1).1
        · exact (hfr _ _ (groups_cell hx hy).1).2
      have hsub := frd_sub (frd_take hbase hmn2) (sz := ie.size) (fun x hx => groups_len hfl x (List.mem_of_mem_take hx)) (cap := m) hlh hhm
      have hte : (((groups ie.size n fs).take m).drop l).take (hh - l) = ((groups ie.size n fs).drop l).take (hh - l) := by
        rw [List.drop_take, List.take_take, Nat.min_eq_left (by omega)]
      rw [hte] at hsub
      show PRd w X' ρ _ (if m = hh then _ else _)
      by_cases hmh : m = hh
      · rw [if_pos hmh]
        have e1 : m - l = hh - l := by rw [hmh]
        rw [e1] at hsub ⊢
        exact .clip _ _ _ hsub
      · rw [if_neg hmh]
        exact .fv _ _ hsub

theorem run_storeAt {w : World} {t : TypeId} {ti : TypeInfo} (hti : P.info? t = some ti) {v : Value} (hv : v.cells.size = ti.size) {g o e' : Nat} {cur : Array Value} (hg : w.heap[g]? = some (.cells cur e' (0, 0)))
    (hl : o + v.cells.size ≤ cur.size) (h1 : ∀ (i : Nat) u, v.cells[i]? = some u → u.oneCell' = true) :
    (Instr.storeAt t (.pointer (some ⟨g, o, none⟩)) v).run P w = .ok () (w.setRow g (cur.toList.take o ++ v.cells.toList ++ cur.toList.drop (o + v.cells.size)).toArray) := by
  have hst := run_storeCells_at P g o e' v.cells.toList 0 cur w hg (by simpa using hl) (fun u hu => by
    obtain ⟨i, hi⟩ := List.getElem?_of_mem hu
    exact h1 i u (by simpa using hi))
  simp only [Nat.add_zero, Array.length_toList] at hst
  simp [Instr.storeAt, Instr.sureAddr, storeVar, sizeOf, typeInfo, hti, hv, hst]

theorem eff_store (hT : TabOk P T) (t : TypeId) (a x : Operand) : EffOp P T (.store t a x) := by
  intro c w X ρ H D R o e ρv r ho h hD hρ hres hc hlen
  have ha := hρ a (by simp [Op.operands])
  have hx := hρ x (by simp [Op.operands])
  simp only [opRes] at hres
  split at hres
  rotate_left
  · cases hres
  rename_i i hi
  obtain ⟨ti, z, hti, hts, _⟩ := (hT _ _ hi).info
  split at hres
  rotate_left
  · cases hres
  rename_i id j off hv
  rw [hv] at ha
  split at hres
  rotate_left
  · cases hres
  rename_i cd H' hst
  cases hres
  obtain ⟨hcd, hcl, hpos⟩ := hc
  obtain ⟨hcs, hone⟩ := cells_size hx (by omega)
  have hcr := cells_rd hx
  generalize hue : e a = u at ha
  cases ha with
  | ptr _ _ _ g p hp hgp =>
    unfold storeAt at hst
    split at hst
    · -- a row
      rename_i xs0 hob
      split at hst
      rotate_left
      · cases hst
      rename_i fs xs hfs hob1
      cases hst
      have hids := fzs_ids hfs
      have hl5 : ((shutAll H (ρv x).cells).set id (Ob.row true (xs.set j (splice (xs.getD j []) off fs)))).length = H.length + D.length := hlen
      rw [List.length_set] at hl5
      unfold shutAll at hl5
      rw [shutIds_length] at hl5
      have hd0 : D = [] := List.eq_nil_of_length_eq_zero (by omega)
      subst hd0
      obtain ⟨X1, h1, hs1, hn1⟩ := h.shutIds ((ρv x).cells.flatMap ids0)
      rw [shutIds_append _ hids] at h1
      obtain ⟨hjl, hoff⟩ := hcd
      have hfull : (shutIds ((ρv x).cells.flatMap ids0) H ++ ([] ++ R))[id]? = some (.row true xs) := look_append id _ hob1
      obtain ⟨⟨hppos, hxlen, us, hus, huc⟩, hrwX⟩ := h1.ob id p _ hp hfull
      have hXg : X1 g := (hrwX g hgp).1 rfl
      have hown0 : w.ownsRow 0 p.e p.size (.slice (some ⟨g, 0, none⟩) xs.length p.cap) xs.length us := by simpa [Place.val, hgp] using hus
      obtain ⟨hul, hcase⟩ := hown0
      rcases hcase with ⟨h5, _⟩ | ⟨g', cap', cur, h5, _, hcur, hnc, hcm, hcsz, htake⟩
      · cases h5
      cases h5
      have hgj : xs[j]? = some (xs.getD j []) := by simp [hjl]
      have hxj : (xs.getD j []).length = p.size := hxlen _ (List.mem_of_getElem? hgj)
      have hmul : (j + 1) * p.size ≤ xs.length * p.size := Nat.mul_le_mul_right _ hjl
      have hmulc : xs.length * p.size ≤ p.cap * p.size := Nat.mul_le_mul_right _ hnc
      rw [Nat.add_mul] at hmul
      have hfsl := fzs_length hfs
      have hrun := run_storeAt (P := P) (w := w) hti (v := e x) (by omega) (o := j * p.size + off) hcur (by omega) hone
      have hgb := grownBy_setRow w g (cur.toList.take (j * p.size + off) ++ (e x).cells.toList ++ cur.toList.drop (j * p.size + off + (e x).cells.size)).toArray
      have hget := fun k => arr_splice_get (cur := cur) (o := j * p.size + off) (vs := (e x).cells.toList) (by simp; omega) k
      simp only [Array.length_toList, Array.getElem?_toList] at hget
      have hheap := setRow_heap w g cur (cur.toList.take (j * p.size + off) ++ (e x).cells.toList ++ cur.toList.drop (j * p.size + off + (e x).cells.size)).toArray p.e (0, 0) hcur
      have hrun2 : (execOp e o).run P w = .ok .skip (w.setRow g (cur.toList.take (j * p.size + off) ++ (e x).cells.toList ++ cur.toList.drop (j * p.size + off + (e x).cells.size)).toArray) := by
        simp only [execOp, ho, hue, Sem.run_bind, hrun, Result.andThen_ok, Sem.run_pure]
      generalize hnew : (cur.toList.take (j * p.size + off) ++ (e x).cells.toList ++ cur.toList.drop (j * p.size + off + (e x).cells.size)).toArray = new at hrun2 hgb hget hheap
      have hnsz : new.size = cur.size := by
        rw [← hnew]
        simp
        omega
      have husg : ∀ (k : Nat), k < xs.length * p.size → us[k]? = cur[k]? := by
        intro k hk
        rw [← htake, List.getElem?_take, if_pos hk]
        simp
      have hown2 : (w.setRow g new).ownsRow 0 p.e p.size (.slice (some ⟨g, 0, none⟩) xs.length p.cap) xs.length (new.toList.take (xs.length * p.size)) := by
        refine ⟨by have e9 : new.toList.length = cur.size := hnsz; rw [List.length_take, e9, hcsz, Nat.min_eq_left hmulc], .inr ⟨g, p.cap, new, rfl, Nat.zero_le _, hheap, hnc, hcm, by rw [hnsz, hcsz], rfl⟩⟩
      have hfrd : ∀ (k : Nat) u y, (e x).cells[k]? = some u → fs[k]? = some y → FRd w X1 u y := by
        intro k u y hu hy
        have hlt : k < (ρv x).cells.length := by rw [← hfsl]; exact (List.getElem?_eq_some_iff.1 hy).1
        obtain ⟨y', hy', hfy⟩ := fzs_get hfs k (ρv x).cells[k] (by simp [hlt])
        rw [hy] at hy'; cases hy'
        refine fz0_rd h look_append (hcr k u _ hu (by simp [hlt])) hfy hs1 (fun k2 hk2 => hn1 k2 ?_)
        rw [List.mem_flatMap]
        exact ⟨_, by simp, hk2⟩
      have hput := h1.put (id := id) (p := p) (ob := .row true (xs.set j (splice (xs.getD j []) off fs))) (row := some g) (w' := w.setRow g new) (by have := (List.getElem?_eq_some_iff.1 hfull).1; exact this) (.inr hp) hgb
        (by intro g' hg'; cases hg'; exact hXg)
        (fun j2 q o2 g2 hj2 hq ho2 hr2 hb2 => by
          have hne : g2 ≠ g := by
            intro he; subst he
            exact hj2 (h1.inj j2 id q p o2 _ g2 hq hp ho2 hfull hr2 rfl hb2 hgp)
          exact ⟨by simp [hne], by rw [hgp]; simp; exact fun he => hne he.symm⟩)
        (fun g2 hg2 => by rw [hgp] at hg2; cases hg2; exact .inr hXg)
        (fun g2 hg2 => by rw [hgp] at hg2; cases hg2; exact ⟨(h1.own id p _ g hp hfull rfl hgp).1, Nat.lt_of_lt_of_le (h1.own id p _ g hp hfull rfl hgp).2 hgb.size⟩)
        (fun g2 hg2 => by cases hg2; exact (h1.own id p _ g hp hfull rfl hgp).1)
        ⟨⟨hppos, by
            intro y hy
            obtain ⟨k, hk⟩ := List.getElem?_of_mem hy
            by_cases hkj : j = k
            · subst hkj
              rw [List.getElem?_set_self hjl] at hk
              cases hk
              rw [splice_length (by omega)]
              exact hxj
            · rw [List.getElem?_set_ne hkj] at hk
              exact hxlen y (List.mem_of_getElem? hk), new.toList.take (xs.length * p.size), by rw [List.length_set]; simpa [Place.val, hgp] using hown2, by
            intro i2 k y1 y2 hy1 hy2
            have hmono : ∀ {u y}, FRd w X1 u y → FRd (w.setRow g new) (fun b => X1 b ∨ p.b = some b) u y := fun hf => hf.mono ⟨hgb.size, fun b hb hxb => hgb.block b hb (fun he => hxb (by cases he; exact hXg))⟩ (fun b hb hxb => by
              rcases hxb with hxb | hxb
              · exact hxb
              · rw [hgp] at hxb; cases hxb; exact hXg)
            have hi2 : i2 < xs.length := by have := (List.getElem?_eq_some_iff.1 hy1).1; simpa using this
            have hmul2 : (i2 + 1) * p.size ≤ xs.length * p.size := Nat.mul_le_mul_right _ hi2
            rw [Nat.add_mul] at hmul2
            by_cases hij : j = i2
            · subst hij
              rw [List.getElem?_set_self hjl] at hy1
              cases hy1
              have hk : k < p.size := by
                have := (List.getElem?_eq_some_iff.1 hy2).1
                rw [splice_length (by omega)] at this
                omega
              rw [splice_get (by omega)] at hy2
              have hidx : (new.toList.take (xs.length * p.size))[j * p.size + k]? = new[j * p.size + k]? := by
                rw [List.getElem?_take, if_pos (by omega)]
                simp
              rw [hidx, hget]
              by_cases hk1 : k < off
              · rw [if_pos hk1] at hy2
                rw [if_pos (by omega)]
                obtain ⟨u, hu, hf⟩ := huc j k _ y2 hgj hy2
                rw [husg _ (by omega)] at hu
                exact ⟨u, hu, hmono hf⟩
              · rw [if_neg hk1] at hy2
                rw [if_neg (by omega)]
                by_cases hk2 : k < off + fs.length
                · rw [if_pos hk2] at hy2
                  rw [if_pos (by omega)]
                  have hlt : k - off < (e x).cells.size := by omega
                  rw [show j * p.size + k - (j * p.size + off) = k - off by omega]
                  exact ⟨(e x).cells[k - off], by simp [hlt], hmono (hfrd _ _ _ (by simp [hlt]) hy2)⟩
                · rw [if_neg hk2] at hy2
                  rw [if_neg (by omega)]
                  obtain ⟨u, hu, hf⟩ := huc j k _ y2 hgj hy2
                  rw [husg _ (by omega)] at hu
                  exact ⟨u, hu, hmono hf⟩
            · rw [List.getElem?_set_ne hij] at hy1
              have hk : k < p.size := by rw [← hxlen y1 (List.mem_of_getElem? hy1)]; exact (List.getElem?_eq_some_iff.1 hy2).1
              obtain ⟨u, hu, hf⟩ := huc i2 k y1 y2 hy1 hy2
              refine ⟨u, ?_, hmono hf⟩
              rw [List.getElem?_take, if_pos (by omega), Array.getElem?_toList, hget, ← hu, husg _ (by omega)]
              have hdis : i2 * p.size + k < j * p.size + off ∨ j * p.size + off + (e x).cells.size ≤ i2 * p.size + k := by
                rcases Nat.lt_or_gt_of_ne hij with hlt | hgt
                · right
                  have : (j + 1) * p.size ≤ i2 * p.size := Nat.mul_le_mul_right _ hlt
                  rw [Nat.add_mul] at this
                  omega
                · left
                  have : (i2 + 1) * p.size ≤ j * p.size := Nat.mul_le_mul_right _ hgt
                  rw [Nat.add_mul] at this
                  omega
              rcases hdis with hdis | hdis
              · rw [if_pos hdis]
              · rw [if_neg (by omega), if_neg (by omega)]⟩,
          fun g2 hg2 => ⟨fun _ => .inr hg2, fun _ => rfl⟩⟩
      rw [set_self hp] at hput
      have hFs : (shutIds ((ρv x).cells.flatMap ids0) H ++ ([] ++ R)).set id (.row true (xs.set j (splice (xs.getD j []) off fs))) = (shutAll H (ρv x).cells).set id (.row true (xs.set j (splice (xs.getD j []) off fs))) ++ R := by
        rw [List.nil_append, List.set_append_left _ _ (by rw [shutIds_length]; exact (List.getElem?_eq_some_iff.1 hob).1)]
        rfl
      rw [hFs] at hput
      exact ⟨undef, _, _, ρ, .inr ⟨hrun2, rfl⟩, (Stp.same_world hs1).trans hput.2, hput.1, .tup #[] [] rfl (by simp), fun _ _ => rfl⟩
    · -- a variable
      rename_i cs hob
      cases hst
      have hl5 : (H.set id (Ob.box true (splice cs off (ρv x).cells))).length = H.length + D.length := hlen
      rw [List.length_set] at hl5
      have hd0 : D = [] := List.eq_nil_of_length_eq_zero (by omega)
      subst hd0
      obtain ⟨rfl, hoff⟩ := hcd
      have hfull : (H ++ ([] ++ R))[id]? = some (.box true cs) := look_append id _ hob
      obtain ⟨⟨g', cur, hg', hcur, hcsz, hone0, hcell⟩, hrwX⟩ := h.ob id p _ hp hfull
      rw [hgp] at hg'; cases hg'
      have hXg : X g := (hrwX g hgp).1 rfl
      have he : (0 * p.size + off) = off := by omega
      rw [he] at hue
      have hrun := run_storeAt (P := P) (w := w) hti (v := e x) (by omega) (o := off) hcur (by omega) hone
      have hgb := grownBy_setRow w g (cur.toList.take off ++ (e x).cells.toList ++ cur.toList.drop (off + (e x).cells.size)).toArray
      have hget := fun k => arr_splice_get (cur := cur) (o := off) (vs := (e x).cells.toList) (by simp; omega) k
      simp only [Array.length_toList, Array.getElem?_toList] at hget
      have hheap := setRow_heap w g cur (cur.toList.take off ++ (e x).cells.toList ++ cur.toList.drop (off + (e x).cells.size)).toArray p.e (0, 0) hcur
      have hrun2 : (execOp e o).run P w = .ok .skip (w.setRow g (cur.toList.take off ++ (e x).cells.toList ++ cur.toList.drop (off + (e x).cells.size)).toArray) := by
        simp only [execOp, ho, hue, Sem.run_bind, hrun, Result.andThen_ok, Sem.run_pure]
      generalize hnew : (cur.toList.take off ++ (e x).cells.toList ++ cur.toList.drop (off + (e x).cells.size)).toArray = new at hrun2 hgb hget hheap
      have hnsz : new.size = cur.size := by
        rw [← hnew]
        simp
        omega
      have hput := h.put (id := id) (p := p) (ob := .box true (splice cs off (ρv x).cells)) (row := some g) (w' := w.setRow g new) (by have := (List.getElem?_eq_some_iff.1 hfull).1; exact this) (.inr hp) hgb
        (by intro g' hg'; cases hg'; exact hXg)
        (fun j2 q o2 g2 hj2 hq ho2 hr2 hb2 => by
          have hne : g2 ≠ g := by
            intro he; subst he
            exact hj2 (h.inj j2 id q p o2 _ g2 hq hp ho2 hfull hr2 rfl hb2 hgp)
          exact ⟨by simp [hne], by rw [hgp]; simp; exact fun he => hne he.symm⟩)
        (fun g2 hg2 => by rw [hgp] at hg2; cases hg2; exact .inr hXg)
        (fun g2 hg2 => by rw [hgp] at hg2; cases hg2; exact ⟨(h.own id p _ g hp hfull rfl hgp).1, Nat.lt_of_lt_of_le (h.own id p _ g hp hfull rfl hgp).2 hgb.size⟩)
        (fun g2 hg2 => by cases hg2; exact (h.own id p _ g hp hfull rfl hgp).1)
        ⟨⟨g, new, hgp, hheap, by rw [hnsz, hcsz, splice_length (by omega)], by
            intro k u hu
            rw [hget] at hu
            split at hu
            · exact hone0 _ _ hu
            · split at hu
              · exact hone _ _ hu
              · exact hone0 _ _ hu, by
            intro k u y hu hy
            have hmono : ∀ {u y}, PRd w X ρ u y → PRd (w.setRow g new) (fun b => X b ∨ p.b = some b) (ρ.set id (some p)) u y := fun hf => hf.mono ⟨hgb.size, fun b hb hxb => hgb.block b hb (fun he => hxb (by cases he; exact hXg))⟩ (fun b hb hxb => by
              rcases hxb with hxb | hxb
              · exact hxb
              · rw [hgp] at hxb; cases hxb; exact hXg) (Places.Le.set (.inr hp))
            rw [hget] at hu
            rw [splice_get (by omega)] at hy
            by_cases hk1 : k < off
            · rw [if_pos hk1] at hu hy
              exact hmono (hcell _ _ _ hu hy)
            · rw [if_neg hk1] at hu hy
              by_cases hk2 : k < off + (ρv x).cells.length
              · rw [if_pos (by omega)] at hu
                rw [if_pos hk2] at hy
                exact hmono (hcr _ _ _ hu hy)
              · rw [if_neg (by omega)] at hu
                rw [if_neg hk2] at hy
                exact hmono (hcell _ _ _ hu hy)⟩,
          fun g2 hg2 => ⟨fun _ => .inr hg2, fun _ => rfl⟩⟩
      rw [set_self hp] at hput
      have hFs : (H ++ ([] ++ R)).set id (.box true (splice cs off (ρv x).cells)) = H.set id (.box true (splice cs off (ρv x).cells)) ++ R := by
        rw [List.nil_append, List.set_append_left _ _ (List.getElem?_eq_some_iff.1 hob).1]
      rw [hFs] at hput
      exact ⟨undef, _, _, ρ, .inr ⟨hrun2, rfl⟩, hput.2, hput.1, .tup #[] [] rfl (by simp), fun _ _ => rfl⟩
    · cases hst

theorem op_sound (hT : TabOk P T) (op : Op) : EffOp P T op := by
  intro c w X ρ H D R o e ρv r ho h hD hρ hres hc hlen
  have hres' := hres
  unfold opRes at hres'
  cases op with
  | move x => exact EffOp.of_still (still_move x) ho h hD hρ hres hc hlen
  | assign x => exact EffOp.of_still (still_assign x) ho h hD hρ hres hc hlen
  | pick x a b => exact EffOp.of_still (still_pick x a b) ho h hD hρ hres hc hlen
  | alloc t => exact eff_alloc hT t ho h hD hρ hres hc hlen
  | box t x => exact eff_box t x ho h hD hρ hres hc hlen
  | build t parts => exact EffOp.of_still (still_build hT t parts) ho h hD hρ hres hc hlen
  | buildSlice t len parts => exact eff_buildSlice hT t len parts ho h hD hρ hres hc hlen
  | load t a => exact EffOp.of_still (still_load hT t a) ho h hD hρ hres hc hlen
  | store t a x => exact eff_store hT t a x ho h hD hρ hres hc hlen
  | nilCheck x => exact EffOp.of_still (still_nilCheck x) ho h hD hρ hres hc hlen
  | binOp op t x y t' => exact EffOp.of_still (still_binOp hT op t x y t') ho h hD hρ hres hc hlen
  | unOp op t x => exact EffOp.of_still (still_unOp op t x) ho h hD hρ hres hc hlen
  | convert s d x => exact EffOp.of_still (still_convert hT s d x) ho h hD hρ hres hc hlen
  | makeSlice t l k => exact eff_makeSlice hT t l k ho h hD hρ hres hc hlen
  | makeFunc fn a b => exact eff_makeFunc fn a b ho h hD hρ hres hc hlen
  | fieldAddr t x f => exact EffOp.of_still (still_fieldAddr hT t x f) ho h hD hρ hres hc hlen
  | field t x f => exact EffOp.of_still (still_field hT t x f) ho h hD hρ hres hc hlen
  | indexAddr t x ix => exact EffOp.of_still (still_indexAddr hT t x ix) ho h hD hρ hres hc hlen
  | index t x ix => exact EffOp.of_still (still_index hT t x ix) ho h hD hρ hres hc hlen
  | extract x ix => exact EffOp.of_still (still_extract x ix) ho h hD hρ hres hc hlen
  | slice t x lo hi mx =>
    simp only at hres'
    split at hres'
    rotate_left
    · cases hres'
    rename_i i hi
    split at hres'
    · rename_i el hel
      exact EffOp.of_still (still_slice hT hi hel x lo _) ho h hD hρ hres hc hlen
    · rename_i el mv hel
      exact EffOp.of_still (still_slice3 hT (by assumption) hel x lo _ _) ho h hD hρ hres hc hlen
    · rename_i n el hel
      exact eff_sliceArr hT (by assumption) hel x lo _ _ ho h hD hρ hres hc hlen
    · cases hres'
  | _ => simp only at hres'; cases hres'

end
end Go.AM

namespace Go.AM

section
variable {P : Program} {T : Tab}

theorem PRd.reloc1 {w : World} {X X' : Nat → Prop} {ρ ρ' : Places} {u : Value} {x : PV} (f : Nat → Nat) (h : PRd w X ρ u x) (hX : ∀ b, b < w.heap.size → X' b → X b) (hρ : ∀ (j : Nat) p, ρ[j]? = some (some p) → ρ'[f j]? = some (some p))
    (h1 : u.oneCell' = true) : PRd w X' ρ' u (reloc1 f x) := by
  cases h with
  | any => exact .any _
  | fv _ _ h => exact .fv _ _ (h.mono (Same.refl X w) hX)
  | nilsl => exact .nilsl
  | clip a n xs h => exact .clip a n xs (h.mono (Same.refl X w) hX)
  | ptr id i off g p hp hg => exact .ptr (f id) i off g p (hρ _ _ hp) hg
  | lsl0 id p hp hg => exact .lsl0 (f id) p (hρ _ _ hp) hg
  | lsl id off len o g p hp hg hl ho => exact .lsl (f id) off len o g p (hρ _ _ hp) hg hl ho
  | agg => cases h1
  | tup => cases h1

theorem PRd.reloc {w : World} {X X' : Nat → Prop} {ρ ρ' : Places} {u : Value} {x : PV} (f : Nat → Nat) (h : PRd w X ρ u x) (hX : ∀ b, b < w.heap.size → X' b → X b) (hρ : ∀ (j : Nat) p, ρ[j]? = some (some p) → ρ'[f j]? = some (some p)) :
    PRd w X' ρ' u (reloc f x) := by
  have hagg : ∀ (us : Array Value) (cs : List PV), us.size = cs.length → (∀ (i : Nat) u, us[i]? = some u → u.oneCell' = true) → (∀ (i : Nat) u c, us[i]? = some u → cs[i]? = some c → PRd w X ρ u c) → PRd w X' ρ' (.agg us) (.agg (cs.map (AM.reloc1 f))) := by
    intro us cs hn h1 hr
    refine .agg us _ (by simpa using hn) h1 (fun i u y hu hy => ?_)
    rw [List.getElem?_map, Option.map_eq_some_iff] at hy
    obtain ⟨z, hz, rfl⟩ := hy
    exact (hr i u z hu hz).reloc1 f hX hρ (h1 i u hu)
  cases h with
  | any => exact .any _
  | fv _ _ h => exact .fv _ _ (h.mono (Same.refl X w) hX)
  | nilsl => exact .nilsl
  | clip a n xs h => exact .clip a n xs (h.mono (Same.refl X w) hX)
  | ptr id i off g p hp hg => exact .ptr (f id) i off g p (hρ _ _ hp) hg
  | lsl0 id p hp hg => exact .lsl0 (f id) p (hρ _ _ hp) hg
  | lsl id off len o g p hp hg hl ho => exact .lsl (f id) off len o g p (hρ _ _ hp) hg hl ho
  | agg us cs hn h1 hr => exact hagg us cs hn h1 hr
  | tup us cs hn hr =>
    refine .tup us _ (by simpa using hn) (fun i u y hu hy => ?_)
    rw [List.getElem?_map, Option.map_eq_some_iff] at hy
    obtain ⟨z, hz, rfl⟩ := hy
    have hz2 := hr i u z hu hz
    cases hz2 with
    | any => exact .any _
    | fv _ _ h => exact .fv _ _ (h.mono (Same.refl X w) hX)
    | nilsl => exact .nilsl
    | clip a n xs h => exact .clip a n xs (h.mono (Same.refl X w) hX)
    | ptr id i off g p hp hg => exact .ptr (f id) i off g p (hρ _ _ hp) hg
    | lsl0 id p hp hg => exact .lsl0 (f id) p (hρ _ _ hp) hg
    | lsl id off len o g p hp hg hl ho => exact .lsl (f id) off len o g p (hρ _ _ hp) hg hl ho
    | agg us cs hn h1 hr => exact hagg us cs hn h1 hr
    | tup us cs hn hr => exact .any _

theorem ObRd.keep {w w' : World} {X X' : Nat → Prop} {ρ ρ' : Places} {p : Place} {o : Ob} (h : ObRd w X ρ p o) (hs : Same X w w') (hX : ∀ b, b < w.heap.size → X' b → X b) (hρ : ρ.Le ρ')
    (hblk : o.alive → ∀ g, p.b = some g → g < w.heap.size → w'.heap[g]? = w.heap[g]? ∧ (X' g ↔ X g)) : ObRd w' X' ρ' p o := by
  cases o with
  | dead => trivial
  | row rw xs =>
    obtain ⟨⟨hpos, hlen, us, hus, hc⟩, hf⟩ := h
    refine ⟨⟨hpos, hlen, us, ?_, fun i j x y hx hy => ?_⟩, fun g hg => ?_⟩
    · refine ⟨hus.1, ?_⟩
      rcases hus.2 with h1 | ⟨g, cap, cur, h1, h2, h3, h4⟩
      · exact .inl h1
      · refine .inr ⟨g, cap, cur, h1, h2, ?_, h4⟩
        have hpb : p.b = some g := by
          unfold Place.val at h1
          cases hb : p.b with
          | none => rw [hb] at h1; cases h1
          | some g' => rw [hb] at h1; cases h1; rfl
        rw [(hblk trivial g hpb (Array.getElem?_eq_some_iff.1 h3).1).1]
        exact h3
    · obtain ⟨u, hu, hfu⟩ := hc i j x y hx hy
      exact ⟨u, hu, hfu.mono hs hX⟩
    · have hlt := ownsRow_block hus hg
      rw [(hblk trivial g hg hlt).2]
      exact hf g hg
  | box rw cs =>
    obtain ⟨⟨g, us, hg, hh, hsz, h1, hc⟩, hf⟩ := h
    have hlt : g < w.heap.size := (Array.getElem?_eq_some_iff.1 hh).1
    refine ⟨⟨g, us, hg, by rw [(hblk trivial g hg hlt).1]; exact hh, hsz, h1, fun i u x hu hx => (hc i u x hu hx).mono hs hX hρ⟩, fun g2 hg2 => ?_⟩
    rw [hg] at hg2; cases hg2
    rw [(hblk trivial g hg hlt).2]
    exact hf g hg

theorem Ob.alive_of_rw {o : Ob} (h : o.rw = true) : o.alive := by
  cases o with
  | dead => cases h
  | row => trivial
  | box => trivial

theorem relocOb_rw (f : Nat → Nat) (o : Ob) : (relocOb f o).rw = o.rw := by cases o <;> rfl

theorem ObRd.moved {w : World} {X X' : Nat → Prop} {ρ ρ' : Places} {p : Place} {o : Ob} (f : Nat → Nat) (h : ObRd w X ρ p o) (hX : ∀ b, b < w.heap.size → X' b → X b) (hρ : ∀ (j : Nat) p, ρ[j]? = some (some p) → ρ'[f j]? = some (some p))
    (hblk : o.alive → ∀ g, p.b = some g → (X' g ↔ X g)) : ObRd w X' ρ' p (relocOb f o) := by
  cases o with
  | dead => trivial
  | row rw xs =>
    obtain ⟨⟨hpos, hlen, us, hus, hc⟩, hf⟩ := h
    refine ⟨⟨hpos, hlen, us, hus, fun i j x y hx hy => ?_⟩, fun g hg => ?_⟩
    · obtain ⟨u, hu, hfu⟩ := hc i j x y hx hy
      exact ⟨u, hu, hfu.mono (Same.refl X w) hX⟩
    · rw [hblk trivial g hg]; exact hf g hg
  | box rw cs =>
    obtain ⟨⟨g, us, hg, hh, hsz, h1, hc⟩, hf⟩ := h
    refine ⟨⟨g, us, hg, hh, by simpa using hsz, h1, fun i u x hu hx => ?_⟩, fun g2 hg2 => ?_⟩
    · rw [List.getElem?_map, Option.map_eq_some_iff] at hx
      obtain ⟨y, hy, rfl⟩ := hx
      exact (hc i u y hu hy).reloc1 f hX hρ (h1 i u hu)
    · rw [hblk trivial g2 hg2]; exact hf g2 hg2

theorem call_core {c c1 : Ctx} {w w' : World} {X1 X2 : Nat → Prop} {ρ ρ2 ρ3 : Places} {F F' H1 : List Ob} (f : Nat → Nat) (hc1 : c1.w0 = w) (h : HRd c w X1 ρ F) (hk1 : Keeps c1 w') (h2 : HRd c1 w' X2 ρ2 H1)
    (hXo : ∀ b, X1 b → ¬ c1.M b → c1.Xo b) (hMX : ∀ b, c1.M b → X1 b) (hMown : ∀ b, c1.M b → (c.w0.heap.size ≤ b ∨ c.M b) ∧ b < w.heap.size)
    (hold : ∀ (i : Nat) p o g, (∀ j, j < H1.length → f j ≠ i) → ρ[i]? = some (some p) → F[i]? = some o → o.alive → p.b = some g → ¬ c1.M g)
    (hnew : ∀ (j : Nat) p g, ρ2[j]? = some (some p) → p.b = some g → w.heap.size ≤ g ∨ c1.M g)
    (hlen : ρ3.length = F'.length) (hF1 : ∀ (j : Nat) o, H1[j]? = some o → F'[f j]? = some (relocOb f o)) (hF2 : ∀ i, (∀ j, j < H1.length → f j ≠ i) → F'[i]? = F[i]?)
    (hρ1 : ∀ j, j < H1.length → ρ3[f j]? = ρ2[j]?) (hρ2 : ∀ i, (∀ j, j < H1.length → f j ≠ i) → ρ3[i]? = ρ[i]?) (hle : ρ.Le ρ3) :
    ∃ X3, HRd c w' X3 ρ3 F' ∧ Stp c w w' X1 X3 ρ ρ3 ∧ ∀ u x, PRd w' X2 ρ2 u x → PRd w' X3 ρ3 u (reloc f x) := by
  subst hc1
  let X3 (b : Nat) : Prop := (b < c1.w0.heap.size ∧ X1 b ∧ ¬ c1.M b) ∨ ((c1.M b ∨ c1.w0.heap.size ≤ b) ∧ X2 b)
  have hsame : Same X1 c1.w0 w' := ⟨hk1.size, fun b hb hx => hk1.block b hb (fun hm => hx (hMX b hm))⟩
  have hsub1 : ∀ b, b < c1.w0.heap.size → X3 b → X1 b := by
    intro b hb hx
    rcases hx with ⟨_, hx, _⟩ | ⟨hm | hm, _⟩
    · exact hx
    · exact hMX b hm
    · omega
  have hsub2 : ∀ b, X3 b → X2 b := by
    intro b hx
    rcases hx with ⟨_, hx, hm⟩ | ⟨_, hx⟩
    · exact h2.xo b (hXo b hx hm)
    · exact hx
  have hρ21 : ∀ (j : Nat) p, ρ2[j]? = some (some p) → ρ3[f j]? = some (some p) := by
    intro j p hj
    rw [hρ1 j (by rw [← h2.len]; exact (List.getElem?_eq_some_iff.1 hj).1)]
    exact hj
  have hcase : ∀ i, (∃ j, j < H1.length ∧ f j = i) ∨ (∀ j, j < H1.length → f j ≠ i) := by
    intro i
    by_cases he : ∃ j, j < H1.length ∧ f j = i
    · exact .inl he
    · exact .inr fun j hj hf => he ⟨j, hj, hf⟩
  have hfl : ∀ (j : Nat) p g, ρ2[j]? = some (some p) → p.b = some g → (X3 g ↔ X2 g) := by
    intro j p g hp hg
    constructor
    · exact hsub2 g
    · intro hx
      rcases hnew j p g hp hg with h3 | h3
      · exact .inr ⟨.inr h3, hx⟩
      · exact .inr ⟨.inl h3, hx⟩
  have hob1 : ∀ (j : Nat) o, H1[j]? = some o → ∀ o', F'[f j]? = some o' → o' = relocOb f o := fun j o hj o' ho' => by
    rw [hF1 j o hj] at ho'; cases ho'; rfl
  have get1 : ∀ j, j < H1.length → ∃ o, H1[j]? = some o := fun j hj => ⟨H1[j], by simp [hj]⟩
  refine ⟨X3, ⟨hlen, ?_, ?_, ?_, ?_, ?_, Nat.le_trans h.ge hk1.size, h.base.trans hle⟩, ⟨hsame, hsub1, hle, fun hk => ?_⟩, fun u x hu => hu.reloc f (fun b _ => hsub2 b) hρ21⟩
  · intro i p o hp ho
    rcases hcase i with ⟨j, hj, rfl⟩ | hno
    · obtain ⟨o2, ho2⟩ := get1 j hj
      have := hob1 j o2 ho2 o ho
      subst this
      rw [hρ1 j hj] at hp
      exact (h2.ob j p o2 hp ho2).moved f (fun b _ => hsub2 b) hρ21 (fun _ g hg => hfl j p g hp hg)
    · rw [hρ2 i hno] at hp
      rw [hF2 i hno] at ho
      refine (h.ob i p o hp ho).keep hsame hsub1 hle (fun ha g hg hlt => ?_)
      have hm := hold i p o g hno hp ho ha hg
      exact ⟨hk1.block g hlt hm, ⟨hsub1 g hlt, fun hx => .inl ⟨hlt, hx, hm⟩⟩⟩
  · intro i k p q o r g hp hq ho hr ho1 hr1 hb1 hb2
    rcases hcase i with ⟨j, hj, rfl⟩ | hno
    · obtain ⟨o2, ho2⟩ := get1 j hj
      have := hob1 j o2 ho2 o ho
      subst this
      rw [hρ1 j hj] at hp
      rw [relocOb_rw] at ho1
      rcases hcase k with ⟨j', hj', rfl⟩ | hno'
      · obtain ⟨r2, hr2⟩ := get1 j' hj'
        have := hob1 j' r2 hr2 r hr
        subst this
        rw [hρ1 j' hj'] at hq
        rw [relocOb_rw] at hr1
        rw [h2.inj j j' p q o2 r2 g hp hq ho2 hr2 ho1 hr1 hb1 hb2]
      · rw [hρ2 k hno'] at hq
        rw [hF2 k hno'] at hr
        have hra : r.alive := Ob.alive_of_rw hr1
        have h3 := hold k q r g hno' hq hr hra hb2
        have h4 := (h.own k q r g hq hr hr1 hb2).2
        rcases hnew j p g hp hb1 with h5 | h5
        · omega
        · exact absurd h5 h3
    · rw [hρ2 i hno] at hp
      rw [hF2 i hno] at ho
      have hoa : o.alive := Ob.alive_of_rw ho1
      rcases hcase k with ⟨j', hj', rfl⟩ | hno'
      · obtain ⟨r2, hr2⟩ := get1 j' hj'
        rw [hρ1 j' hj'] at hq
        have h3 := hold i p o g hno hp ho hoa hb1
        have h4 := (h.own i p o g hp ho ho1 hb1).2
        rcases hnew j' q g hq hb2 with h5 | h5
        · omega
        · exact absurd h5 h3
      · rw [hρ2 k hno'] at hq
        rw [hF2 k hno'] at hr
        exact h.inj i k p q o r g hp hq ho hr ho1 hr1 hb1 hb2
  · intro i p o g hp ho ho1 hb1
    rcases hcase i with ⟨j, hj, rfl⟩ | hno
    · obtain ⟨o2, ho2⟩ := get1 j hj
      have := hob1 j o2 ho2 o ho
      subst this
      rw [hρ1 j hj] at hp
      rw [relocOb_rw] at ho1
      have h3 := h2.own j p o2 g hp ho2 ho1 hb1
      refine ⟨?_, h3.2⟩
      rcases hnew j p g hp hb1 with h5 | h5
      · left; have := h.ge; omega
      · exact (hMown g h5).1
    · rw [hρ2 i hno] at hp
      rw [hF2 i hno] at ho
      have h3 := h.own i p o g hp ho ho1 hb1
      exact ⟨h3.1, Nat.lt_of_lt_of_le h3.2 hk1.size⟩
  · intro b hb
    have h3 := c.hxo b hb
    refine .inl ⟨h.xlt b (h.xo b hb), h.xo b hb, fun hm => ?_⟩
    rcases (hMown b hm).1 with h4 | h4
    · omega
    · exact h3.2 h4
  · intro b hb
    rcases hb with ⟨hb, _⟩ | ⟨_, hb⟩
    · exact Nat.lt_of_lt_of_le hb hk1.size
    · exact h2.xlt b hb
  · refine ⟨hk1.os.trans hk.os, hk1.tape.trans hk.tape, hk1.output.trans hk.output, Nat.le_trans hk.size hk1.size, fun b hb hm => ?_⟩
    rw [hk1.block b (Nat.lt_of_lt_of_le hb hk.size) (fun hm1 => ?_)]
    · exact hk.block b hb hm
    · rcases (hMown b hm1).1 with h4 | h4
      · omega
      · exact hm h4

theorem ObRd.rwX {w : World} {X : Nat → Prop} {ρ : Places} {p : Place} {o : Ob} (h : ObRd w X ρ p o) (hr : o.rw = true) {g : Nat} (hg : p.b = some g) : X g := by
  cases o with
  | dead => cases hr
  | row rw xs => exact (h.2 g hg).1 hr
  | box rw cs => exact (h.2 g hg).1 hr

theorem ObRd.roX {w : World} {X : Nat → Prop} {ρ : Places} {p : Place} {o : Ob} (h : ObRd w X ρ p o) (ha : o.alive) (hr : o.rw = false) {g : Nat} (hg : p.b = some g) : ¬ X g := by
  intro hx
  cases o with
  | dead => exact ha
  | row rw xs => have := (h.2 g hg).2 hx; simp only [Ob.rw] at hr; rw [hr] at this; cases this
  | box rw cs => have := (h.2 g hg).2 hx; simp only [Ob.rw] at hr; rw [hr] at this; cases this

theorem ObRd.closed {w : World} {X : Nat → Prop} {ρ ρ' : Places} {p : Place} {o : Ob} (h : ObRd w X ρ p o) (hc : o.closed) : ObRd w X ρ' p o := by
  cases o with
  | dead => trivial
  | row rw xs => exact h
  | box rw cs =>
    obtain ⟨⟨g, us, hg, hh, hs, h1, hr⟩, hf⟩ := h
    refine ⟨⟨g, us, hg, hh, hs, h1, fun i u x hu hx => ?_⟩, hf⟩
    obtain ⟨y, rfl⟩ := hc x (List.mem_of_getElem? hx)
    cases hr i u _ hu hx with
    | fv _ _ h => exact .fv _ _ h

theorem fzB_other {H : List Ob} {id : Nat} {x : PV} (h : x.refsTo id = false) : fzB H id x = fzA H x ∧ idsB H id x = idsA H x := by
  cases x <;> simp only [PV.refsTo, beq_eq_false_iff_ne, ne_eq] at h <;> simp [fzB, idsB, h]

theorem fzBs_get {H : List Ob} {id : Nat} : ∀ {xs ys : List PV}, fzBs H id xs = some ys → ys.length = xs.length ∧ ∀ (i : Nat) y, ys[i]? = some y → ∃ x, xs[i]? = some x ∧ fzB H id x = some y
  | [], ys, h => by simp [fzBs] at h; subst h; simp
  | x :: xs, ys, h => by
    simp only [fzBs] at h
    split at h
    · rename_i y ys' h1 h2
      cases h
      obtain ⟨hl, hg⟩ := fzBs_get h2
      refine ⟨by simp [hl], fun i z hz => ?_⟩
      cases i with
      | zero => simp at hz; subst hz; exact ⟨x, rfl, h1⟩
      | succ i => simp at hz ⊢; exact hg i z hz
    · cases h

theorem fzBs_ids {H : List Ob} {id : Nat} : ∀ {xs ys : List PV}, fzBs H id xs = some ys → ∀ j ∈ xs.flatMap (idsB H id), j < H.length
  | [], ys, h => by simp
  | x :: xs, ys, h => by
    simp only [fzBs] at h
    split at h
    · rename_i y ys' h1 h2
      intro j hj
      rw [List.flatMap_cons, List.mem_append] at hj
      rcases hj with hj | hj
      · cases hr : x.refsTo id with
        | false =>
          obtain ⟨e1, e2⟩ := fzB_other (H := H) hr
          rw [e1] at h1; rw [e2] at hj
          exact fzA_ids h1 j hj
        | true => cases x <;> simp [PV.refsTo] at hr <;> simp [idsB, hr] at hj
      · exact fzBs_ids h2 j hj
    · cases h

theorem fzBs_rd {c : Ctx} {w : World} {X X' : Nat → Prop} {ρ : Places} {F H : List Ob} (h : HRd c w X ρ F) (hH : ∀ (j : Nat) o, H[j]? = some o → F[j]? = some o) {vs : Array Value} {xs ys : List PV} {id : Nat} {p : Place} (hp : ρ[id]? = some (some p))
    (hv : PRds w X ρ vs xs) (hf : fzBs H id xs = some ys) (hX : ∀ b, X' b → X b)
    (hn : ∀ j ∈ xs.flatMap (idsB H id), ∀ p o g, ρ[j]? = some (some p) → F[j]? = some o → o.alive → p.b = some g → ¬ X' g) : PRds w X' [some p] vs ys := by
  obtain ⟨hl, hg⟩ := fzBs_get hf
  refine ⟨by rw [hl]; exact hv.1, fun i v y hi hy => ?_⟩
  obtain ⟨x, hx, hfx⟩ := hg i y hy
  have hvx := hv.2 i v x hi hx
  cases hr : x.refsTo id with
  | false =>
    obtain ⟨e1, e2⟩ := fzB_other (H := H) hr
    rw [e1] at hfx
    refine fzA_rd h hH [some p] hvx hfx hX (fun k hk => hn k ?_)
    rw [List.mem_flatMap]
    exact ⟨x, List.mem_of_getElem? hx, by rw [e2]; exact hk⟩
  | true =>
    cases hvx with
    | ptr j i off g q hq hg =>
      simp only [PV.refsTo, beq_iff_eq] at hr
      subst hr
      rw [hp] at hq; cases hq
      simp only [fzB, if_true, Option.some.injEq] at hfx
      subst hfx
      exact .ptr 0 i off g p rfl hg
    | lsl0 j q hq hg =>
      simp only [PV.refsTo, beq_iff_eq] at hr
      subst hr
      rw [hp] at hq; cases hq
      simp only [fzB, if_true, Option.some.injEq] at hfx
      subst hfx
      exact .lsl0 0 p rfl hg
    | lsl j off len o g q hq hg hl ho =>
      simp only [PV.refsTo, beq_iff_eq] at hr
      subst hr
      rw [hp] at hq; cases hq
      simp only [fzB, if_true, Option.some.injEq] at hfx
      subst hfx
      exact .lsl 0 off len o g p rfl hg hl ho
    | _ => simp [PV.refsTo] at hr

theorem call_sound {c : Ctx} {w : World} {X : Nat → Prop} {ρ : Places} {H D R : List Ob} {k : FuncId} {args : List PV} {vs : Array Value} {v : PV} {H' : List Ob} (h : HRd c w X ρ (H ++ (D ++ R)))
    (hD : ∀ id, H.length ≤ id → id < H.length + D.length → ρ[id]? = some none) (hvs : PRds w X ρ vs args) (hcr : CallRel P H k args v H') (hlen : H'.length = H.length + D.length) :
    Goes P k ∧ Calls P k vs w fun e w' => ∃ u X' ρ', e = .returned u ∧ Stp c w w' X X' ρ ρ' ∧ HRd c w' X' ρ' (H' ++ R) ∧ PRd w' X' ρ' u v ∧ ∀ id, (id < H.length ∨ H.length + D.length ≤ id) → ρ'[id]? = ρ[id]? := by
  cases hcr with
  | pure args' obs res hf hd =>
    obtain ⟨hgo, hd⟩ := hd
    refine ⟨hgo, ?_⟩
    unfold shutAs at hlen ⊢
    rw [List.length_append, shutIds_length, List.length_map] at hlen
    have hDl : D.length = obs.length := by omega
    have hids := fzAs_ids hf
    obtain ⟨X1, h1, hs1, hn1⟩ := h.shutIds (args.flatMap (idsA H))
    rw [shutIds_append _ hids] at h1
    have hSl : (shutIds (args.flatMap (idsA H)) H).length = H.length := shutIds_length _ _
    generalize hS : shutIds (args.flatMap (idsA H)) H = S at *
    have hargs : PRds w X1 [] vs args' := fzAs_rd h look_append [] hvs hf hs1 hn1
    let c1 : Ctx := ⟨w, fun _ => False, X1, [], fun b hb => ⟨h1.xlt b hb, fun hm => hm⟩⟩
    have h01 : HRd c1 w X1 [] [] := ⟨rfl, by simp, by simp, by simp, fun b hb => hb, h1.xlt, Nat.le_refl _, Places.Le.refl _⟩
    refine (hd c1 X1 [] vs h01 (fun b hb => hb.elim) hargs).mono ?_
    rintro e w' ⟨u, X2, ρ2, rfl, hk1, h2, hu, _, hfresh⟩
    have hl2 : ρ2.length = obs.length := h2.len
    have hl1 : ρ.length = H.length + (D.length + R.length) := by rw [h1.len]; simp [hSl]
    let ρ3 : Places := ρ.take H.length ++ ρ2 ++ ρ.drop (H.length + obs.length)
    have hg3 : ∀ i, ρ3[i]? = if i < H.length then ρ[i]? else if i < H.length + obs.length then ρ2[i - H.length]? else ρ[i]? := by
      intro i
      have := splice_get (l := ρ) (new := ρ2) (off := H.length) (by omega) i
      simp only [splice, hl2] at this
      exact this
    have hF : ∀ i, ((S ++ obs.map (relocOb (H.length + ·))) ++ R)[i]? = if i < H.length then (S ++ (D ++ R))[i]? else if i < H.length + obs.length then (obs.map (relocOb (H.length + ·)))[i - H.length]? else (S ++ (D ++ R))[i]? := by
      intro i
      by_cases hi : i < H.length
      · rw [if_pos hi, List.append_assoc, List.getElem?_append_left (by omega), List.getElem?_append_left (by omega)]
      · rw [if_neg hi]
        by_cases hi2 : i < H.length + obs.length
        · rw [if_pos hi2, List.append_assoc, List.getElem?_append_right (by omega), List.getElem?_append_left (by simp; omega), hSl]
        · rw [if_neg hi2, List.append_assoc, List.getElem?_append_right (by omega), List.getElem?_append_right (by simp; omega), List.getElem?_append_right (by omega), List.getElem?_append_right (by omega)]
          congr 1
          simp
          omega
    have hout : ∀ i, (∀ j, j < obs.length → H.length + j ≠ i) → i < H.length ∨ H.length + obs.length ≤ i := by
      intro i hi
      by_cases h3 : i < H.length
      · exact .inl h3
      · right
        apply Nat.le_of_not_lt
        intro h4
        exact hi (i - H.length) (by omega) (by omega)
    have hle : ρ.Le ρ3 := by
      intro i p hp
      rw [hg3]
      by_cases hi : i < H.length
      · rw [if_pos hi]; exact hp
      · rw [if_neg hi]
        by_cases hi2 : i < H.length + obs.length
        · rw [hD i (by omega) (by omega)] at hp; cases hp
        · rw [if_neg hi2]; exact hp
    obtain ⟨X3, h3, hs3, hr3⟩ := call_core (c := c) (c1 := c1) (w := w) (w' := w') (X1 := X1) (X2 := X2) (ρ := ρ) (ρ2 := ρ2) (ρ3 := ρ3) (F := S ++ (D ++ R)) (F' := (S ++ obs.map (relocOb (H.length + ·))) ++ R) (H1 := obs) (H.length + ·) rfl h1 hk1 h2
      (fun b hb _ => hb) (fun b hb => hb.elim) (fun b hb => hb.elim) (fun i p o g _ _ _ _ _ hm => hm) (fun j p g hp hg => .inl (hfresh j p (Nat.zero_le _) hp g hg))
      (by simp [ρ3, hl2, hSl, hl1]; omega)
      (fun j o hj => by
        have hjl := (List.getElem?_eq_some_iff.1 hj).1
        rw [hF, if_neg (by omega), if_pos (by omega), Nat.add_sub_cancel_left, List.getElem?_map, hj]; rfl)
      (fun i hi => by
        rw [hF]
        rcases hout i hi with h5 | h5
        · rw [if_pos h5]
        · rw [if_neg (by omega), if_neg (by omega)])
      (fun j hj => by rw [hg3, if_neg (by omega), if_pos (by omega), Nat.add_sub_cancel_left])
      (fun i hi => by
        rw [hg3]
        rcases hout i hi with h5 | h5
        · rw [if_pos h5]
        · rw [if_neg (by omega), if_neg (by omega)]) hle
    refine ⟨u, X3, ρ3, rfl, (Stp.same_world hs1).trans hs3, h3, hr3 u res hu, fun id hid => ?_⟩
    rw [hg3]
    rcases hid with h5 | h5
    · rw [if_pos h5]
    · rw [if_neg (by omega), if_neg (by omega)]
  | lend id args' ob ob' obs res ho hrw hcl href hf hs hd =>
    obtain ⟨hgo, hd⟩ := hd
    refine ⟨hgo, ?_⟩
    unfold shutBs at hlen hs ⊢
    rw [List.length_append, List.length_set, shutIds_length, List.length_map] at hlen
    have hDl : D.length = obs.length := by omega
    have hidl : id < H.length := (List.getElem?_eq_some_iff.1 ho).1
    obtain ⟨p, hp⟩ : ∃ p, ρ[id]? = some (some p) := by
      rw [List.any_eq_true] at href
      obtain ⟨a, ha, har⟩ := href
      obtain ⟨i, hi⟩ := List.getElem?_of_mem ha
      have hlt : i < vs.size := by rw [hvs.1]; exact (List.getElem?_eq_some_iff.1 hi).1
      have hpa := hvs.2 i vs[i] a (by simp [hlt]) hi
      generalize vs[i] = ui at hpa
      cases hpa with
      | ptr j i off g q hq hg => simp only [PV.refsTo, beq_iff_eq] at har; subst har; exact ⟨q, hq⟩
      | lsl0 j q hq hg => simp only [PV.refsTo, beq_iff_eq] at har; subst har; exact ⟨q, hq⟩
      | lsl j off len o g q hq hg hl ho => simp only [PV.refsTo, beq_iff_eq] at har; subst har; exact ⟨q, hq⟩
      | _ => simp [PV.refsTo] at har
    have hids : ∀ j ∈ args.flatMap (idsB H id), j < H.length := fzBs_ids hf
    obtain ⟨X1, h1, hs1, hn1⟩ := h.shutIds (args.flatMap (idsB H id))
    rw [shutIds_append _ hids] at h1
    have hSl : (shutIds (args.flatMap (idsB H id)) H).length = H.length := shutIds_length _ _
    generalize hS : shutIds (args.flatMap (idsB H id)) H = S at *
    have hSid : (S ++ (D ++ R))[id]? = some ob := by rw [List.getElem?_append_left (by omega)]; exact hs
    have hob := h1.ob id p ob hp hSid
    have hXp : ∀ g, p.b = some g → X1 g := fun g hg => hob.rwX hrw hg
    let c1 : Ctx := ⟨w, fun b => p.b = some b, fun b => X1 b ∧ p.b ≠ some b, [], fun b hb => ⟨h1.xlt b hb.1, hb.2⟩⟩
    have h01 : HRd c1 w X1 [some p] [ob] := by
      refine ⟨rfl, ?_, ?_, ?_, fun b hb => hb.1, h1.xlt, Nat.le_refl _, fun i p hp => by simp [c1] at hp⟩
      · intro i q o hq ho2
        cases i with
        | zero =>
          simp only [List.getElem?_cons_zero, Option.some.injEq] at hq ho2
          subst hq; subst ho2
          exact hob.closed hcl
        | succ i => simp at hq
      · intro i j q1 q2 o1 o2 g hq1 hq2 ho1 ho2 _ _ _ _
        cases i with
        | zero => cases j with
          | zero => rfl
          | succ j => simp at hq2
        | succ i => simp at hq1
      · intro i q o g hq ho2 ho3 hg
        cases i with
        | zero =>
          simp only [List.getElem?_cons_zero, Option.some.injEq] at hq
          subst hq
          exact ⟨.inr hg, (h1.own id _ ob g hp hSid hrw hg).2⟩
        | succ i => simp at hq
    have hargs : PRds w X1 [some p] vs args' := fzBs_rd h look_append hp hvs hf hs1 hn1
    refine (hd c1 X1 [some p] vs h01 (fun b hb => ⟨0, p, rfl, hb⟩) hargs).mono ?_
    rintro e w' ⟨u, X2, ρ2, rfl, hk1, h2, hu, hle0, hfresh⟩
    have hl2 : ρ2.length = obs.length + 1 := by simpa using h2.len
    have hρ20 : ρ2[0]? = some (some p) := hle0 0 p rfl
    have hl1 : ρ.length = H.length + (D.length + R.length) := by rw [h1.len]; simp [hSl]
    let ρ3 : Places := ρ.take H.length ++ ρ2.drop 1 ++ ρ.drop (H.length + obs.length)
    have hg3 : ∀ i, ρ3[i]? = if i < H.length then ρ[i]? else if i < H.length + obs.length then ρ2[i - H.length + 1]? else ρ[i]? := by
      intro i
      have hdl : (ρ2.drop 1).length = obs.length := by simp [hl2]
      have := splice_get (l := ρ) (new := ρ2.drop 1) (off := H.length) (by omega) i
      simp only [splice, hdl] at this
      rw [this]
      simp only [List.getElem?_drop, Nat.add_comm 1]
    have hF : ∀ i, ((S.set id (relocOb (lent id H.length) ob') ++ obs.map (relocOb (lent id H.length))) ++ R)[i]? = if i = id then some (relocOb (lent id H.length) ob') else if i < H.length then (S ++ (D ++ R))[i]? else
        if i < H.length + obs.length then (obs.map (relocOb (lent id H.length)))[i - H.length]? else (S ++ (D ++ R))[i]? := by
      intro i
      by_cases hi0 : i = id
      · subst hi0
        rw [if_pos rfl, List.append_assoc, List.getElem?_append_left (by simp; omega), List.getElem?_set_self (by omega)]
      · rw [if_neg hi0]
        by_cases hi : i < H.length
        · rw [if_pos hi, List.append_assoc, List.getElem?_append_left (by simp; omega), List.getElem?_set_ne (Ne.symm hi0), List.getElem?_append_left (by omega)]
        · rw [if_neg hi]
          by_cases hi2 : i < H.length + obs.length
          · rw [if_pos hi2, List.append_assoc, List.getElem?_append_right (by simp; omega), List.getElem?_append_left (by simp; omega), List.length_set, hSl]
          · rw [if_neg hi2, List.append_assoc, List.getElem?_append_right (by simp; omega), List.getElem?_append_right (by simp; omega), List.getElem?_append_right (by omega), List.getElem?_append_right (by omega)]
            congr 1
            simp
            omega
    have hout : ∀ i, (∀ j, j < (ob' :: obs).length → lent id H.length j ≠ i) → i ≠ id ∧ (i < H.length ∨ H.length + obs.length ≤ i) := by
      intro i hi
      refine ⟨fun he => hi 0 (by simp) he.symm, ?_⟩
      by_cases h3 : i < H.length
      · exact .inl h3
      · right
        apply Nat.le_of_not_lt
        intro h4
        exact hi (i - H.length + 1) (by simp; omega) (by simp only [lent]; omega)
    have hle : ρ.Le ρ3 := by
      intro i q hq
      rw [hg3]
      by_cases hi : i < H.length
      · rw [if_pos hi]; exact hq
      · rw [if_neg hi]
        by_cases hi2 : i < H.length + obs.length
        · rw [hD i (by omega) (by omega)] at hq; cases hq
        · rw [if_neg hi2]; exact hq
    obtain ⟨X3, h3, hs3, hr3⟩ := call_core (c := c) (c1 := c1) (w := w) (w' := w') (X1 := X1) (X2 := X2) (ρ := ρ) (ρ2 := ρ2) (ρ3 := ρ3) (F := S ++ (D ++ R)) (F' := (S.set id (relocOb (lent id H.length) ob') ++ obs.map (relocOb (lent id H.length))) ++ R) (H1 := ob' :: obs) (lent id H.length) rfl h1 hk1 h2
      (fun b hb hm => ⟨hb, hm⟩) (fun b hb => hXp b hb) (fun b hb => h1.own id p ob b hp hSid hrw hb)
      (fun i q o g hi hq ho2 ha hg hm => by
        have hne := (hout i hi).1
        cases hro : o.rw with
        | true => exact hne (h1.inj i id q p o ob g hq hp ho2 hSid hro hrw hg hm)
        | false =>
          have hfl := h1.ob i q o hq ho2
          exact (hfl.roX ha hro hg) (hXp g hm))
      (fun j q g hq hg => by
        cases j with
        | zero => rw [hρ20] at hq; cases hq; exact .inr hg
        | succ j => exact .inl (hfresh (j + 1) q (by simp) hq g hg))
      (by simp [ρ3, hl2, hSl, hl1]; omega)
      (fun j o hj => by
        have hjl := (List.getElem?_eq_some_iff.1 hj).1
        cases j with
        | zero =>
          show ((S.set id (relocOb (lent id H.length) ob') ++ obs.map (relocOb (lent id H.length))) ++ R)[id]? = _
          rw [hF, if_pos rfl]
          simp at hj; rw [hj]
        | succ j =>
          simp only [List.length_cons] at hjl
          show ((S.set id (relocOb (lent id H.length) ob') ++ obs.map (relocOb (lent id H.length))) ++ R)[H.length + j]? = _
          rw [hF, if_neg (show ¬ (H.length + j = id) by omega), if_neg (show ¬ (H.length + j < H.length) by omega), if_pos (show H.length + j < H.length + obs.length by omega), Nat.add_sub_cancel_left, List.getElem?_map]
          simp at hj
          rw [hj]; rfl)
      (fun i hi => by
        rw [hF]
        obtain ⟨h4, h5 | h5⟩ := hout i hi
        · rw [if_neg h4, if_pos h5]
        · rw [if_neg h4, if_neg (by omega), if_neg (by omega)])
      (fun j hj => by
        cases j with
        | zero =>
          show ρ3[id]? = _
          rw [hg3, if_pos hidl, hp, hρ20]
        | succ j =>
          simp only [List.length_cons] at hj
          show ρ3[H.length + j]? = _
          rw [hg3, if_neg (by omega), if_pos (by omega), Nat.add_sub_cancel_left])
      (fun i hi => by
        rw [hg3]
        obtain ⟨h4, h5 | h5⟩ := hout i hi
        · rw [if_pos h5]
        · rw [if_neg (by omega), if_neg (by omega)]) hle
    refine ⟨u, X3, ρ3, rfl, (Stp.same_world hs1).trans hs3, h3, hr3 u res hu, fun j hj => ?_⟩
    rw [hg3]
    rcases hj with h5 | h5
    · rw [if_pos h5]
    · rw [if_neg (by omega), if_neg (by omega)]

end
end Go.AM

namespace Go.AM

section
variable {P : Program} {T : Tab}

theorem opRes_len {H : List Ob} {ρ : Operand → PV} {op : Op} {r : Res} (h : opRes T H ρ op = some r) : H.length ≤ r.heap.length := by
  unfold opRes at h
  cases op <;> simp only [Res.pure, Res.if] at h
  all_goals repeat' (split at h)
  all_goals first
    | (cases h; done)
    | (cases h; simp [shutAll, shutIds_length]; done)
    | skip
  all_goals
    rename_i hst
    cases h
    unfold storeAt at hst
    repeat' (split at hst)
    all_goals first
      | (cases hst; done)
      | (cases hst; simp [shutAll, shutIds_length])

theorem biRes_len {H : List Ob} {b : Builtin} {ts : List TypeId} {vs : List PV} {r : Res} (h : biRes T H b ts vs = some r) : H.length ≤ r.heap.length := by
  unfold biRes at h
  simp only [Res.pure] at h
  repeat' (split at h)
  all_goals first
    | (cases h; done)
    | (cases h; simp)

theorem callRel_len {H : List Ob} {k : FuncId} {args : List PV} {v : PV} {H' : List Ob} (h : CallRel P H k args v H') : H.length ≤ H'.length := by
  cases h with
  | pure => simp [shutAs, shutIds_length]
  | lend => simp [shutBs, shutIds_length]

theorem HRd.room {c : Ctx} {w : World} {X : Nat → Prop} {ρ : Places} {H : List Ob} (h : HRd c w X ρ H) (n : Nat) :
    HRd c w X (ρ ++ List.replicate n none) (H ++ (List.replicate n .dead ++ [])) ∧ ∀ id, H.length ≤ id → id < H.length + (List.replicate n Ob.dead).length → (ρ ++ List.replicate n none)[id]? = some none := by
  have h1 := h.extend (List.replicate n .dead)
  rw [List.length_replicate] at h1
  refine ⟨by simpa using h1, fun id h2 h3 => ?_⟩
  rw [List.length_replicate] at h3
  rw [List.getElem?_append_right (by rw [h.len]; exact h2), List.getElem?_replicate, if_pos (by rw [h.len]; omega)]

theorem EnvRd.mono {w : World} {X : Nat → Prop} {ρ ρ' : Places} {t : Array Value} {env : List PV} (h : EnvRd w X ρ t env) (hρ : ρ.Le ρ') : EnvRd w X ρ' t env :=
  ⟨h.1, fun i v x hv hx => (h.2 i v x hv hx).mono (Same.refl X w) (fun _ _ h => h) hρ⟩

theorem EnvRd.put {w : World} {X : Nat → Prop} {ρ : Places} {a : Act} {env : List PV} (h : EnvRd w X ρ a.tmps env) (d : Option Nat) {u : Value} {v : PV} (hu : PRd w X ρ u v) :
    EnvRd w X ρ (a.put d u).tmps (match d with | some t => env.set t v | none => env) := by
  cases d with
  | none => exact h
  | some t =>
    refine ⟨by simp [Act.put, h.1], fun i v' x hv hx => ?_⟩
    simp only [Act.put] at hv
    by_cases hi : t = i
    · subst hi
      have hlt : t < a.tmps.size := by have := (Array.getElem?_eq_some_iff.1 hv).1; simpa using this
      simp [hlt] at hv
      have hlt' : t < env.length := by rw [← h.1]; exact hlt
      rw [List.getElem?_set_self hlt'] at hx
      cases hx
      subst hv
      exact hu
    · rw [Array.getElem?_setIfInBounds_ne hi] at hv
      rw [List.getElem?_set_ne hi] at hx
      exact h.2 i v' x hv hx

def After (c : Ctx) (a : Act) (env : List PV) (d : Option Nat) (K : PV → List Ob → Prop) (next : Act → World → Prop) : Prop :=
  ∀ v H u w' X' ρ', K v H → HRd c w' X' ρ' H → EnvRd w' X' ρ' a.tmps env → PRd w' X' ρ' u v → Keeps c w' → next (a.put d u) w'

theorem run_callF {w : World} {o : Oper} {e : Operand → Value} {f : Operand} {args : Array Operand} {ts : Array TypeId} {k : FuncId} {u1 u2 : Array Value}
    (ho : o.op = .call { callee := .value f, args := args, argTypes := ts }) (hf : e f = .func (.func k) u1 u2) (hg : Goes P k) : (execOp e o).run P w = .ok (.enter k (u1 ++ args.map e ++ u2)) w := by
  obtain ⟨fn, cd, h1, h2, h3⟩ := hg
  unfold execOp
  simp only [ho, resolve, hf, Deferred.ofValue, Sem.run_bind, Sem.run_pure, Result.andThen_ok, invoke, callFunc, run_program, h1, h2, h3, Option.isNone_some]
  simp

theorem wpop_sound (hT : TabOk P T) {o : Oper} {c : Ctx} {a : Act} {w : World} {X : Nat → Prop} {ρ : Places} {st : St} {K : PV → List Ob → Prop} {next : Act → World → Prop} {Q : Exit → Act → World → Prop}
    (h : WPop P T o.op st K) (hh : HRd c w X ρ st.heap) (he : EnvRd w X ρ a.tmps st.env) (hk : Keeps c w) (hn : After c a st.env o.dst K next) : o.wp P a w next Q := by
  have fin : ∀ {r : Result Next} {v : PV} {H : List Ob} {ρ1 : Places} {lo hi : Nat}, ρ.Le ρ1 → K v H → OpOK c w X ρ1 lo hi H r v → (execOp a.eval o).run P w = r → o.wp P a w next Q := by
    intro r v H ρ1 lo hi hle hK ⟨u, w', X', ρ', hr, hs, hh', hu, _⟩ hrun
    have hnext := hn v H u w' X' ρ' hK hh' ((he.mono hle).stp hs) hu (hs.keeps hk)
    unfold Oper.wp
    rw [hrun]
    rcases hr with hr | ⟨hr, rfl⟩
    · rw [hr]; exact hnext
    · rw [hr]; exact hnext
  by_cases hcall : ∃ cl, o.op = .call cl
  · obtain ⟨cl, ho⟩ := hcall
    rw [ho] at h
    simp only [WPop, WPcall] at h
    obtain ⟨callee, args, ts⟩ := cl
    cases callee with
    | builtin b =>
      simp only at h
      split at h
      · rename_i r hr
        obtain ⟨hc, hK⟩ := h
        have hlen := biRes_len hr
        obtain ⟨h1, h2⟩ := hh.room (r.heap.length - st.heap.length)
        have hle := Places.Le.append ρ (List.replicate (r.heap.length - st.heap.length) none)
        have hok := eff_bi hT b args ts (o := o) (e := a.eval) (ρv := ev st.env) ho h1 h2 (fun x _ => eval_rd (he.mono hle) x) hr hc (by simp; omega)
        rw [List.append_nil] at hok
        exact fin hle hK hok rfl
      · exact h.elim
    | value f =>
      simp only at h
      split at h
      · rename_i k pre post hfn
        obtain ⟨v, H', hcr, hK⟩ := h
        have hlen := callRel_len hcr
        obtain ⟨h1, h2⟩ := hh.room (H'.length - st.heap.length)
        have hle := Places.Le.append ρ (List.replicate (H'.length - st.heap.length) none)
        have hf := eval_rd (he.mono hle) f
        have hfv : ∃ u1 u2, a.eval f = .func (.func k) u1 u2 ∧ PRds w X (ρ ++ List.replicate (H'.length - st.heap.length) none) u1 pre ∧ PRds w X (ρ ++ List.replicate (H'.length - st.heap.length) none) u2 post := by
          generalize ev st.env f = pf at hf hfn
          unfold fnOf at hfn
          split at hfn
          · split at hfn
            · rename_i hz
              cases hfn
              refine ⟨_, _, hf.litInv, ?_, ?_⟩
              · exact ⟨by simpa using hz.1, fun i v x hv hx => by simp at hx⟩
              · exact ⟨by simpa using hz.2, fun i v x hv hx => by simp at hx⟩
            · cases hfn
          · cases hfn
            generalize hue : a.eval f = uf at hf
            cases hf with
            | fv _ _ hfr =>
              cases hfr with
              | fn _ u1 u2 c1 c2 h1 h2 r1 r2 =>
                refine ⟨u1, u2, rfl, ⟨by simpa using h1, fun i v x hv hx => ?_⟩, ⟨by simpa using h2, fun i v x hv hx => ?_⟩⟩
                · rw [List.getElem?_map, Option.map_eq_some_iff] at hx
                  obtain ⟨y, hy, rfl⟩ := hx
                  exact .fv _ _ (r1 i v y hv hy)
                · rw [List.getElem?_map, Option.map_eq_some_iff] at hx
                  obtain ⟨y, hy, rfl⟩ := hx
                  exact .fv _ _ (r2 i v y hv hy)
          · cases hfn
        obtain ⟨u1, u2, hfe, hp1, hp2⟩ := hfv
        have happ : ∀ {va vb : Array Value} {xa xb : List PV}, PRds w X (ρ ++ List.replicate (H'.length - st.heap.length) none) va xa → PRds w X (ρ ++ List.replicate (H'.length - st.heap.length) none) vb xb →
            PRds w X (ρ ++ List.replicate (H'.length - st.heap.length) none) (va ++ vb) (xa ++ xb) := by
          intro va vb xa xb ⟨ha1, ha2⟩ ⟨hb1, hb2⟩
          refine ⟨by simp [ha1, hb1], fun i v x hv hx => ?_⟩
          by_cases hi : i < va.size
          · rw [Array.getElem?_append_left hi] at hv
            rw [List.getElem?_append_left (by rw [← ha1]; exact hi)] at hx
            exact ha2 i v x hv hx
          · rw [Array.getElem?_append_right (by omega)] at hv
            rw [List.getElem?_append_right (by rw [← ha1]; omega), ← ha1] at hx
            exact hb2 _ v x hv hx
        have hargs : PRds w X (ρ ++ List.replicate (H'.length - st.heap.length) none) (args.map a.eval) (args.toList.map (ev st.env)) := by
          refine ⟨by simp, fun i v x hv hx => ?_⟩
          simp at hv
          obtain ⟨y, hy, rfl⟩ := hv
          rw [List.getElem?_map] at hx
          simp only [Array.getElem?_toList, hy, Option.map_some, Option.some.injEq] at hx
          subst hx
          exact eval_rd (he.mono hle) y
        obtain ⟨hgo, hcalls⟩ := call_sound h1 h2 (happ (happ hp1 hargs) hp2) hcr (by simp; omega)
        unfold Oper.wp
        rw [run_callF ho hfe hgo]
        refine hcalls.mono ?_
        rintro e w' ⟨u, X', ρ', rfl, hs, hh', hu, _⟩
        rw [List.append_nil] at hh'
        exact hn v H' u w' X' ρ' hK hh' ((he.mono hle).stp hs) hu (hs.keeps hk)
      · exact h.elim
    | invoke r m => exact h.elim
  · have hres : ∃ r, opRes T st.heap (ev st.env) o.op = some r ∧ r.cond ∧ K r.val r.heap := by
      unfold WPop at h
      split at h
      · rename_i cl hcl; exact absurd ⟨cl, hcl⟩ hcall
      · split at h
        · rename_i r hr; exact ⟨r, hr, h.1, h.2⟩
        · exact h.elim
    obtain ⟨r, hr, hc, hK⟩ := hres
    have hlen := opRes_len hr
    obtain ⟨h1, h2⟩ := hh.room (r.heap.length - st.heap.length)
    have hle := Places.Le.append ρ (List.replicate (r.heap.length - st.heap.length) none)
    have hok := op_sound hT o.op (o := o) (e := a.eval) (ρv := ev st.env) rfl h1 h2 (fun x _ => eval_rd (he.mono hle) x) hr hc (by simp; omega)
    rw [List.append_nil] at hok
    exact fin hle hK hok rfl

theorem yields_of {w : World} {X : Nat → Prop} {ρ : Places} {ops : Array Oper} {tmps : Array Value} {env : List PV} (he : EnvRd w X ρ tmps env) {j t : Nat} (hj : (ops[j]?).bind (·.dst) = some t) :
    (∀ b, env.getD t .any = .fv (.lit (.bool b)) → yielded ops tmps j = some b) ∧ (env.getD t .any = .tup [] → yielded ops tmps j = none) := by
  unfold yielded
  rw [hj]
  simp only [Option.bind_some]
  have key : ∀ x, env.getD t .any = x → x ≠ .any → ∃ v, tmps[t]? = some v ∧ PRd w X ρ v x := by
    intro x hx hne
    rw [List.getD_eq_getElem?_getD] at hx
    cases hg : env[t]? with
    | none => rw [hg] at hx; exact absurd hx.symm hne
    | some y =>
      rw [hg] at hx
      simp only [Option.getD_some] at hx
      subst hx
      have hlt : t < tmps.size := by rw [he.1]; exact (List.getElem?_eq_some_iff.1 hg).1
      exact ⟨tmps[t], by simp [hlt], he.2 t _ _ (by simp [hlt]) hg⟩
  constructor
  · intro b hb
    obtain ⟨v, hv, hp⟩ := key _ hb (by simp)
    rw [hv, hp.litInv]
  · intro hb
    obtain ⟨v, hv, hp⟩ := key _ hb (by simp)
    rw [hv]
    cases hp; rfl

theorem wpops_sound (hT : TabOk P T) {ops : Array Oper} {Q : Exit → Act → World → Prop} {c : Ctx} {K : St → Prop} (hK : ∀ st a w, K st → SRd c st a w → Q .normal a w) :
    ∀ (l : List Oper) (k : Nat) (st : St) (a : Act) (w : World), (∀ j, l[j]? = ops[k + j]?) → WPops P T ops l st K → SRd c st a w → wpOps P ops Q (List.range' k l.length) a w
  | [], k, st, a, w, _, h, hs => hK st a w h hs
  | o :: l, k, st, a, w, hl, h, hs => by
    have h0 : ops[k]? = some o := by simpa using (hl 0).symm
    have hl' : ∀ j, l[j]? = ops[k + 1 + j]? := fun j => by
      have := hl (j + 1)
      rw [List.getElem?_cons_succ] at this
      rw [this]; congr 1; omega
    rw [List.length_cons, List.range'_succ]
    unfold wpOps
    simp only [h0]
    obtain ⟨X, ρ, hh, he, hd, hk⟩ := hs
    have run : ∀ {Kp : St → Prop}, WPop P T o.op st (fun v H => WPops P T ops l (st.upd o.dst v H) K) → o.wp P a w (wpOps P ops Q (List.range' (k + 1) l.length)) Q := by
      intro _ hw
      refine wpop_sound hT hw hh he hk (fun v H u w' X' ρ' hv hh' he' hu hk' => ?_)
      refine wpops_sound hT hK l (k + 1) _ _ _ hl' hv ⟨X', ρ', hh', he'.put o.dst hu, ?_, hk'⟩
      cases o.dst <;> exact hd
    have skip : WPops P T ops l (st.upd o.dst (.tup []) st.heap) K → wpOps P ops Q (List.range' (k + 1) l.length) (a.put o.dst undef) w := by
      intro hw
      refine wpops_sound hT hK l (k + 1) _ _ _ hl' hw ⟨X, ρ, hh, he.put o.dst (.tup #[] [] rfl (by simp)), ?_, hk⟩
      cases o.dst <;> exact hd
    unfold WPops at h
    cases hg : o.guard with
    | none =>
      simp only [hg] at h
      have hwant : Region.wanted o (yielded ops a.tmps) = true := by simp [Region.wanted, hg]
      rw [hwant]
      exact .inl (run (Kp := K) h)
    | some gd =>
      obtain ⟨j, want⟩ := gd
      simp only [hg] at h
      cases hj : (ops[j]?).bind (·.dst) with
      | none => rw [hj] at h; exact h.elim
      | some t =>
        rw [hj] at h
        simp only at h
        obtain ⟨hy1, hy2⟩ := yields_of (ops := ops) he hj
        split at h
        · rename_i b hb
          have hy := hy1 b hb
          by_cases hbw : b = want
          · have hwant : Region.wanted o (yielded ops a.tmps) = true := by simp [Region.wanted, hg, hy, hbw]
            rw [hwant]
            exact .inl (run (Kp := K) (h.1 hbw))
          · have hwant : Region.wanted o (yielded ops a.tmps) = false := by simp [Region.wanted, hg, hy, hbw]
            rw [hwant]
            exact skip (h.2 (by cases b <;> cases want <;> simp_all))
        · rename_i hb
          have hy := hy2 hb
          have hwant : Region.wanted o (yielded ops a.tmps) = false := by simp [Region.wanted, hg, hy]
          rw [hwant]
          exact skip h
        · exact h.elim

theorem any_sound (hT : TabOk P T) {ops : Array Oper} {Q : Exit → Act → World → Prop} {c : Ctx} {K : St → Prop} (hK : ∀ st a w, K st → SRd c st a w → Q .normal a w) :
    ∀ (n : Nat) (listed : Array Bool) (st : St) (a : Act) (w : World), WPany P T ops n listed st K → SRd c st a w → wpAny P .any ops Q n listed a w
  | 0, listed, st, a, w, h, hs => ⟨h.1, hK st a w h.2 hs⟩
  | n + 1, listed, st, a, w, h, hs => by
    refine ⟨fun e => hK st a w (h.1 e) hs, fun i hi => ?_⟩
    have h2 := h.2 i hi
    unfold wpOp
    cases ho : ops[i]? with
    | none => rw [ho] at h2; exact h2.elim
    | some o =>
      rw [ho] at h2
      obtain ⟨hg, hw⟩ := h2
      have hwant : Region.wanted o (yielded ops a.tmps) = true := by simp [Region.wanted, hg]
      simp only [hwant, if_true]
      obtain ⟨X, ρ, hh, he, hd, hk⟩ := hs
      refine .inl (wpop_sound hT hw hh he hk (fun v H u w' X' ρ' hv hh' he' hu hk' => ?_))
      refine any_sound hT hK n _ _ _ _ hv ⟨X', ρ', hh', he'.put o.dst hu, ?_, hk'⟩
      cases o.dst <;> exact hd

end
end Go.AM

namespace Go.AM

section
variable {P : Program} {T : Tab}

theorem wpop_gen (hT : TabOk P T) {o : Oper} {c : Ctx} {a : Act} {w : World} {X : Nat → Prop} {ρ : Places} {s : St} {D R : List Ob} {v : PV} {H' : List Ob} {next : Act → World → Prop} {Q : Exit → Act → World → Prop}
    (h : WPop P T o.op s fun v' H'' => v' = v ∧ H'' = H') (hh : HRd c w X ρ (s.heap ++ (D ++ R))) (hD : ∀ id, s.heap.length ≤ id → id < s.heap.length + D.length → ρ[id]? = some none) (hlen : H'.length = s.heap.length + D.length)
    (hops : ∀ x ∈ o.op.operands, PRd w X ρ (a.eval x) (ev s.env x))
    (hn : ∀ u w' X' ρ', Stp c w w' X X' ρ ρ' → HRd c w' X' ρ' (H' ++ R) → PRd w' X' ρ' u v → (∀ id, (id < s.heap.length ∨ s.heap.length + D.length ≤ id) → ρ'[id]? = ρ[id]?) → next (a.put o.dst u) w') : o.wp P a w next Q := by
  have fin : ∀ {r : Result Next}, OpOK c w X ρ s.heap.length (s.heap.length + D.length) (H' ++ R) r v → (execOp a.eval o).run P w = r → o.wp P a w next Q := by
    intro r ⟨u, w', X', ρ', hr, hs, hh', hu, hout⟩ hrun
    have hnext := hn u w' X' ρ' hs hh' hu hout
    unfold Oper.wp
    rw [hrun]
    rcases hr with hr | ⟨hr, rfl⟩
    · rw [hr]; exact hnext
    · rw [hr]; exact hnext
  by_cases hcall : ∃ cl, o.op = .call cl
  · obtain ⟨cl, ho⟩ := hcall
    rw [ho] at h hops
    simp only [WPop, WPcall] at h
    obtain ⟨callee, args, ts⟩ := cl
    cases callee with
    | builtin b =>
      simp only at h
      split at h
      · rename_i r hr
        obtain ⟨hc, rfl, rfl⟩ := h
        exact fin (eff_bi hT b args ts (o := o) (e := a.eval) (ρv := ev s.env) ho hh hD (fun x hx => hops x (by simp [Op.operands, Call.operands]; exact hx)) hr hc hlen) rfl
      · exact h.elim
    | value f =>
      simp only at h
      split at h
      · rename_i k pre post hfn
        obtain ⟨v1, H1, hcr, rfl, rfl⟩ := h
        have hf := hops f (by simp [Op.operands, Call.operands])
        have hfv : ∃ u1 u2, a.eval f = .func (.func k) u1 u2 ∧ PRds w X ρ u1 pre ∧ PRds w X ρ u2 post := by
          generalize ev s.env f = pf at hf hfn
          unfold fnOf at hfn
          split at hfn
          · split at hfn
            · rename_i hz
              cases hfn
              exact ⟨_, _, hf.litInv, ⟨by simpa using hz.1, fun i v x hv hx => by simp at hx⟩, ⟨by simpa using hz.2, fun i v x hv hx => by simp at hx⟩⟩
            · cases hfn
          · cases hfn
            generalize hue : a.eval f = uf at hf
            cases hf with
            | fv _ _ hfr =>
              cases hfr with
              | fn _ u1 u2 c1 c2 h1 h2 r1 r2 =>
                refine ⟨u1, u2, rfl, ⟨by simpa using h1, fun i v x hv hx => ?_⟩, ⟨by simpa using h2, fun i v x hv hx => ?_⟩⟩
                · rw [List.getElem?_map, Option.map_eq_some_iff] at hx
                  obtain ⟨y, hy, rfl⟩ := hx
                  exact .fv _ _ (r1 i v y hv hy)
                · rw [List.getElem?_map, Option.map_eq_some_iff] at hx
                  obtain ⟨y, hy, rfl⟩ := hx
                  exact .fv _ _ (r2 i v y hv hy)
          · cases hfn
        obtain ⟨u1, u2, hfe, hp1, hp2⟩ := hfv
        have happ : ∀ {va vb : Array Value} {xa xb : List PV}, PRds w X ρ va xa → PRds w X ρ vb xb → PRds w X ρ (va ++ vb) (xa ++ xb) := by
          intro va vb xa xb ⟨ha1, ha2⟩ ⟨hb1, hb2⟩
          refine ⟨by simp [ha1, hb1], fun i v x hv hx => ?_⟩
          by_cases hi : i < va.size
          · rw [Array.getElem?_append_left hi] at hv
            rw [List.getElem?_append_left (by rw [← ha1]; exact hi)] at hx
            exact ha2 i v x hv hx
          · rw [Array.getElem?_append_right (by omega)] at hv
            rw [List.getElem?_append_right (by rw [← ha1]; omega), ← ha1] at hx
            exact hb2 _ v x hv hx
        have hargs : PRds w X ρ (args.map a.eval) (args.toList.map (ev s.env)) := by
          refine ⟨by simp, fun i v x hv hx => ?_⟩
          simp at hv
          obtain ⟨y, hy, rfl⟩ := hv
          rw [List.getElem?_map] at hx
          simp only [Array.getElem?_toList, hy, Option.map_some, Option.some.injEq] at hx
          subst hx
          exact hops y (by simp [Op.operands, Call.operands]; exact .inr (Array.mem_of_getElem? hy))
        obtain ⟨hgo, hcalls⟩ := call_sound hh hD (happ (happ hp1 hargs) hp2) hcr hlen
        unfold Oper.wp
        rw [run_callF ho hfe hgo]
        refine hcalls.mono ?_
        rintro e w' ⟨u, X', ρ', rfl, hs, hh', hu, hout⟩
        exact hn u w' X' ρ' hs hh' hu hout
      · exact h.elim
    | invoke r m => exact h.elim
  · have hres : ∃ r, opRes T s.heap (ev s.env) o.op = some r ∧ r.cond ∧ r.val = v ∧ r.heap = H' := by
      unfold WPop at h
      split at h
      · rename_i cl hcl; exact absurd ⟨cl, hcl⟩ hcall
      · split at h
        · rename_i r hr; exact ⟨r, hr, h.1, h.2⟩
        · exact h.elim
    obtain ⟨r, hr, hc, rfl, rfl⟩ := hres
    exact fin (op_sound hT o.op (o := o) (e := a.eval) (ρv := ev s.env) rfl hh hD hops hr hc hlen) rfl

theorem WPop_elim {op : Op} {s : St} {K : PV → List Ob → Prop} (h : WPop P T op s K) : ∃ v H', WPop P T op s (fun v' H'' => v' = v ∧ H'' = H') ∧ K v H' := by
  unfold WPop at h
  split at h
  · rename_i c
    unfold WPcall at h
    split at h
    · rename_i b hb
      split at h
      · rename_i r hr
        exact ⟨r.val, r.heap, by simp only [WPop, WPcall, hb, hr]; exact ⟨h.1, trivial, trivial⟩, h.2⟩
      · exact h.elim
    · rename_i f hf
      split at h
      · rename_i k pre post hfn
        obtain ⟨v, H', hcr, hK⟩ := h
        exact ⟨v, H', by simp only [WPop, WPcall, hf, hfn]; exact ⟨v, H', hcr, rfl, rfl⟩, hK⟩
      · exact h.elim
    · exact h.elim
  · rename_i hnc
    split at h
    · rename_i r hr
      refine ⟨r.val, r.heap, ?_, h.2⟩
      unfold WPop
      split
      · rename_i c; exact absurd rfl (hnc c)
      · rw [hr]; exact ⟨h.1, rfl, rfl⟩
    · exact h.elim

theorem WPop_len {op : Op} {s : St} {v : PV} {H' : List Ob} (h : WPop P T op s fun v' H'' => v' = v ∧ H'' = H') : s.heap.length ≤ H'.length := by
  unfold WPop at h
  split at h
  · rename_i c
    unfold WPcall at h
    split at h
    · split at h
      · rename_i r hr
        rw [← h.2.2]; exact biRes_len hr
      · exact h.elim
    · split at h
      · obtain ⟨v, H', hcr, _, rfl⟩ := h
        exact callRel_len hcr
      · exact h.elim
    · exact h.elim
  · split at h
    · rename_i r hr
      rw [← h.2.2]; exact opRes_len hr
    · exact h.elim

theorem class0_sound (hT : TabOk P T) {op : Op} (h0 : opClass op = 0) {w : World} {X : Nat → Prop} {ρ : Places} {s : St} {v : PV} {H' : List Ob} {o : Oper} (ho : o.op = op) {e : Operand → Value} (h : WPop P T op s fun v' H'' => v' = v ∧ H'' = H')
    (hops : ∀ x ∈ op.operands, PRd w X ρ (e x) (ev s.env x)) : H' = s.heap ∧ ∃ u, (execOp e o).run P w = .ok (.value u) w ∧ PRd w X ρ u v := by
  cases op <;> simp only [opClass, reduceCtorEq] at h0 <;> try first | (cases h0; done) | (split at h0 <;> cases h0; done)
  case move x =>
    simp only [WPop, opRes, Res.pure] at h
    obtain ⟨_, rfl, rfl⟩ := h
    exact ⟨rfl, e x, by simp [execOp, ho], hops x (by simp [Op.operands])⟩
  case assign x =>
    simp only [WPop, opRes, Res.pure] at h
    obtain ⟨_, rfl, rfl⟩ := h
    exact ⟨rfl, e x, by simp [execOp, ho], hops x (by simp [Op.operands])⟩
  case extract x ix =>
    have hx := hops x (by simp [Op.operands])
    simp only [WPop, opRes] at h
    cases hv : ev s.env x with
    | tup vs =>
      rw [hv] at h hx
      simp only at h
      cases hvs : vs[ix]? with
      | none => rw [hvs] at h; exact h.elim
      | some y =>
        rw [hvs] at h
        simp only [Res.pure] at h
        obtain ⟨_, rfl, rfl⟩ := h
        generalize hu : e x = u at hx
        cases hx with
        | tup us _ hn hr =>
          have hlt : ix < us.size := by rw [hn]; exact (List.getElem?_eq_some_iff.1 hvs).1
          exact ⟨rfl, us[ix], by simp [execOp, ho, hu, Instr.extract, Array.getElem?_eq_getElem hlt], hr ix _ _ (Array.getElem?_eq_getElem hlt) hvs⟩
    | _ => rw [hv] at h; exact h.elim
  case binOp bop t x y t' =>
    have hx := hops x (by simp [Op.operands])
    have hy := hops y (by simp [Op.operands])
    simp only [WPop] at h
    split at h
    · rename_i r hr
      obtain ⟨hc, rfl, rfl⟩ := h
      exact pure_binOp hT bop t x y t' ho hx hy hr hc
    · exact h.elim

end
end Go.AM

namespace Go.AM

section
variable {P : Program} {T : Tab} {ops : Array Oper}

def wantA (ops : Array Oper) (s : St) (o : Oper) : Option Bool :=
  match o.guard with
  | none => some true
  | some (j, want) => match (ops[j]?).bind (·.dst) with
    | some t => match s.get t with
      | .fv (.lit (.bool b)) => some (b == want)
      | .tup [] => some false
      | _ => none
    | none => none

def Step1 (P : Program) (T : Tab) (ops : Array Oper) (o : Oper) (s s' : St) : Prop :=
  (wantA ops s o = some true ∧ ∃ v H', (WPop P T o.op s fun v' H'' => v' = v ∧ H'' = H') ∧ (isStore o.op = true ∨ ∃ obs, H' = s.heap ++ obs) ∧ s' = s.upd o.dst v H') ∨
  (wantA ops s o = some false ∧ s' = s.upd o.dst (.tup []) s.heap)

theorem runs {K : St → Prop} : ∀ (l : List Oper) (st : St), WPdraw P T ops l st K → ∃ S : Nat → St, S 0 = st ∧ (∀ (j : Nat) o, l[j]? = some o → Step1 P T ops o (S j) (S (j + 1))) ∧ K (S l.length)
  | [], st, h => ⟨fun _ => st, rfl, by simp, h⟩
  | o :: l, st, h => by
    have fin : ∀ s', Step1 P T ops o st s' → WPdraw P T ops l s' K → ∃ S : Nat → St, S 0 = st ∧ (∀ (j : Nat) o', (o :: l)[j]? = some o' → Step1 P T ops o' (S j) (S (j + 1))) ∧ K (S (o :: l).length) := by
      intro s' hs hw
      obtain ⟨S, h0, h1, h2⟩ := runs l s' hw
      refine ⟨fun j => match j with | 0 => st | j + 1 => S j, rfl, fun j o' hj => ?_, h2⟩
      cases j with
      | zero => simp at hj; subst hj; simp only [h0]; exact hs
      | succ j => exact h1 j o' (by simpa using hj)
    unfold WPdraw at h
    cases hg : o.guard with
    | none =>
      simp only [hg] at h
      obtain ⟨v, H', h1, h2, h3⟩ := WPop_elim h
      exact fin _ (.inl ⟨by simp [wantA, hg], v, H', h1, h2, rfl⟩) h3
    | some gd =>
      obtain ⟨j, want⟩ := gd
      simp only [hg] at h
      cases hj : (ops[j]?).bind (·.dst) with
      | none => rw [hj] at h; exact h.elim
      | some t =>
        rw [hj] at h
        simp only at h
        split at h
        · rename_i b hb
          by_cases hbw : b = want
          · obtain ⟨v, H', h1, h2, h3⟩ := WPop_elim (h.1 hbw)
            exact fin _ (.inl ⟨by simp [wantA, hg, hj, hb, hbw], v, H', h1, h2, rfl⟩) h3
          · exact fin _ (.inr ⟨by simp [wantA, hg, hj, hb, hbw], rfl⟩) (h.2 (by cases b <;> cases want <;> simp_all))
        · rename_i hb
          exact fin _ (.inr ⟨by simp [wantA, hg, hj, hb], rfl⟩) h
        · exact h.elim

def Closed (ops : Array Oper) (listed : Array Bool) : Prop :=
  ∀ (j : Nat) oj, ops[j]? = some oj → listed.getD j false = true → ∀ e ∈ oj.after, plainEdge e = true → listed.getD e.on false = true

def GoodMasks (ops : Array Oper) (acc : List Nat) : Prop :=
  ∀ (j : Nat) oj i, j < acc.length → ops[j]? = some oj → (acc.getD j 0).testBit i = true → ∀ listed, Closed ops listed → (∀ e ∈ oj.after, plainEdge e = true → listed.getD e.on false = true) → listed.getD i false = true

theorem maskStep_bits (acc : List Nat) : ∀ (es : List Edge) (s i : Nat), (es.foldl (fun s e => if plainEdge e then s ||| 2 ^ e.on ||| acc.getD e.on 0 else s) s).testBit i = true →
    s.testBit i = true ∨ ∃ e ∈ es, plainEdge e = true ∧ (i = e.on ∨ (acc.getD e.on 0).testBit i = true)
  | [], s, i, h => .inl h
  | e :: es, s, i, h => by
    rw [List.foldl_cons] at h
    rcases maskStep_bits acc es _ i h with h1 | ⟨e', he', hp, h1⟩
    · split at h1
      · rename_i hp
        simp only [Nat.testBit_or, Bool.or_eq_true] at h1
        rcases h1 with (h1 | h1) | h1
        · exact .inl h1
        · right
          refine ⟨e, by simp, hp, .inl ?_⟩
          rw [Nat.testBit_two_pow] at h1
          have h2 : e.on = i := by simpa using h1
          exact h2.symm
        · exact .inr ⟨e, by simp, hp, .inr h1⟩
      · exact .inl h1
    · exact .inr ⟨e', by simp [he'], hp, h1⟩

theorem masks_good : ∀ (l : List Oper) (acc : List Nat), (∀ j, l[j]? = ops[acc.length + j]?) → GoodMasks ops acc → GoodMasks ops (masks l acc)
  | [], acc, _, h => h
  | o :: l, acc, hl, h => by
    have h0 : ops[acc.length]? = some o := by simpa using (hl 0).symm
    refine masks_good l _ (fun j => ?_) ?_
    · have := hl (j + 1)
      rw [List.getElem?_cons_succ] at this
      rw [this]
      congr 1
      simp
      omega
    · intro j oj i hj hoj hb listed hc hp
      by_cases hlt : j < acc.length
      · rw [List.getD_eq_getElem?_getD, List.getElem?_append_left hlt, ← List.getD_eq_getElem?_getD] at hb
        exact h j oj i hlt hoj hb listed hc hp
      · have hje : j = acc.length := by simp at hj; omega
        subst hje
        rw [h0] at hoj; cases hoj
        simp only [List.getD_eq_getElem?_getD, List.getElem?_append_right (Nat.le_refl _), Nat.sub_self, List.getElem?_cons_zero, Option.getD_some] at hb
        unfold maskStep at hb
        rcases maskStep_bits acc _ 0 i hb with h1 | ⟨e, he, hpe, h1⟩
        · simp at h1
        · have hle := hp e (Array.mem_toList_iff.1 he) hpe
          rcases h1 with rfl | h1
          · exact hle
          · have helt : e.on < acc.length := by
              apply Nat.lt_of_not_le
              intro hge
              rw [List.getD_eq_getElem?_getD, List.getElem?_eq_none hge] at h1
              simp at h1
            have hes : ∃ oe, ops[e.on]? = some oe := by
              have hlt2 : acc.length < ops.size := (Array.getElem?_eq_some_iff.1 h0).1
              exact ⟨ops[e.on]'(by omega), by simp [show e.on < ops.size by omega]⟩
            obtain ⟨oe, hoe⟩ := hes
            exact h e.on oe i helt hoe h1 listed hc (fun e' he' hpe' => hc e.on oe hoe hle e' he' hpe')

structure DrawFacts (ops : Array Oper) : Prop where
  cls : ∀ (j : Nat) oj, ops[j]? = some oj → opClass oj.op < 3
  low : ∀ (j : Nat) oj, ops[j]? = some oj → ∀ e ∈ oj.after, plainEdge e = true → e.on < j
  ord : ∀ (i j : Nat) oi oj, i < j → ops[i]? = some oi → ops[j]? = some oj → clash ops oi oj = true → ∀ listed, Closed ops listed → (∀ e ∈ oj.after, plainEdge e = true → listed.getD e.on false = true) → listed.getD i false = true

theorem masks_length : ∀ (l : List Oper) (acc : List Nat), (masks l acc).length = acc.length + l.length
  | [], acc => by simp [masks]
  | o :: l, acc => by rw [masks, masks_length l]; simp; omega

theorem drawFacts (h : drawOk ops = true) : DrawFacts ops := by
  unfold drawOk at h
  rw [List.all_eq_true] at h
  have hm : GoodMasks ops (masks ops.toList []) := masks_good ops.toList [] (by simp) (by intro j oj i hj; simp at hj)
  have key : ∀ (j : Nat) oj, ops[j]? = some oj → (opClass oj.op < 3 ∧ ∀ e ∈ oj.after, plainEdge e = true → e.on < j) ∧ ∀ i, i < j → ∀ oi, ops[i]? = some oi → clash ops oi oj = true → ((masks ops.toList []).getD j 0).testBit i = true := by
    intro j oj hj
    have hlt : j < ops.size := (Array.getElem?_eq_some_iff.1 hj).1
    have h1 := h j (List.mem_range.2 hlt)
    simp only [hj, Bool.and_eq_true, decide_eq_true_eq, List.all_eq_true] at h1
    obtain ⟨⟨h2, h3⟩, h4⟩ := h1
    refine ⟨⟨h2, fun e he hp => ?_⟩, fun i hi oi hoi hcl => ?_⟩
    · have := h3 e (Array.mem_toList_iff.2 he)
      simpa [hp] using this
    · have := h4 i (List.mem_range.2 hi)
      simpa [hoi, hcl] using this
  refine ⟨fun j oj hj => (key j oj hj).1.1, fun j oj hj => (key j oj hj).1.2, fun i j oi oj hij hi hj hcl listed hc hp => ?_⟩
  exact hm j oj i (by rw [masks_length]; simp; exact (Array.getElem?_eq_some_iff.1 hj).1) hj ((key j oj hj).2 i hij oi hi hcl) listed hc hp

end
end Go.AM

namespace Go.AM

section
variable {P : Program} {T : Tab} {ops : Array Oper}

theorem binds_any (e : Edge) : Region.binds .any e = plainEdge e := by
  unfold Region.binds plainEdge
  cases e.ground <;> rfl

theorem upd_env (s : St) (d : Option Nat) (v : PV) (H : List Ob) (t : Nat) (h : d ≠ some t) : (s.upd d v H).env.getD t .any = s.env.getD t .any := by
  unfold St.upd
  cases d with
  | none => rfl
  | some t' =>
    have : t' ≠ t := fun he => h (by rw [he])
    simp only [List.getD_eq_getElem?_getD, List.getElem?_set_ne this]

theorem upd_env_self (s : St) (v : PV) (H : List Ob) (t : Nat) (h : t < s.env.length) : (s.upd (some t) v H).env.getD t .any = v := by
  unfold St.upd
  simp [List.getD_eq_getElem?_getD, h]

theorem upd_len (s : St) (d : Option Nat) (v : PV) (H : List Ob) : (s.upd d v H).env.length = s.env.length := by
  unfold St.upd
  cases d <;> simp

structure Run (P : Program) (T : Tab) (ops : Array Oper) (S : Nat → St) : Prop where
  step : ∀ (j : Nat) o, ops[j]? = some o → Step1 P T ops o (S j) (S (j + 1))

variable {S : Nat → St}

theorem Step1.env {o : Oper} {s s' : St} (h : Step1 P T ops o s s') (t : Nat) (ht : o.dst ≠ some t) : s'.env.getD t .any = s.env.getD t .any := by
  rcases h with ⟨_, v, H', _, _, rfl⟩ | ⟨_, rfl⟩ <;> exact upd_env _ _ _ _ _ ht

theorem Step1.len {o : Oper} {s s' : St} (h : Step1 P T ops o s s') : s'.env.length = s.env.length := by
  rcases h with ⟨_, v, H', _, _, rfl⟩ | ⟨_, rfl⟩ <;> exact upd_len _ _ _ _

theorem Step1.heap {o : Oper} {s s' : St} (h : Step1 P T ops o s s') : s.heap.length ≤ s'.heap.length ∧ True ∧ (isStore o.op = false → s'.heap = s.heap ++ s'.heap.drop s.heap.length) := by
  rcases h with ⟨_, v, H', hw, hob, rfl⟩ | ⟨_, rfl⟩
  · refine ⟨WPop_len hw, trivial, fun hs => ?_⟩
    rcases hob with hob | ⟨obs, rfl⟩
    · rw [hs] at hob; cases hob
    · simp [St.upd]
  · simp [St.upd]

def later (n : Nat) (S : Nat → St) : Nat → List Ob
  | 0 => []
  | m + 1 => (S (n - m)).heap.drop (S (n - m - 1)).heap.length ++ later n S m

def full (n : Nat) (S : Nat → St) (i : Nat) : List Ob := (S i).heap ++ later n S (n - i)

theorem later_step {n i : Nat} (h : i < n) : later n S (n - i) = (S (i + 1)).heap.drop (S i).heap.length ++ later n S (n - (i + 1)) := by
  have e : n - i = (n - (i + 1)) + 1 := by omega
  rw [e, later]
  rw [show n - (n - (i + 1)) = i + 1 by omega, show i + 1 - 1 = i by omega]

theorem full_step (hr : Run P T ops S) {i : Nat} {o : Oper} (ho : ops[i]? = some o) :
    (isStore o.op = false → full ops.size S i = full ops.size S (i + 1)) ∧ full ops.size S i = (S i).heap ++ ((S (i + 1)).heap.drop (S i).heap.length ++ later ops.size S (ops.size - (i + 1))) := by
  have hlt : i < ops.size := (Array.getElem?_eq_some_iff.1 ho).1
  have h2 : full ops.size S i = (S i).heap ++ ((S (i + 1)).heap.drop (S i).heap.length ++ later ops.size S (ops.size - (i + 1))) := by
    unfold full
    rw [later_step hlt]
  refine ⟨fun hs => ?_, h2⟩
  rw [h2, ← List.append_assoc, ← ((hr.step i o ho).heap.2.2 hs)]
  rfl

theorem env_same (hr : Run P T ops S) {t : Nat} : ∀ (d i : Nat), i + d ≤ ops.size → (∀ k o, i ≤ k → k < i + d → ops[k]? = some o → o.dst ≠ some t) → (S (i + d)).env.getD t .any = (S i).env.getD t .any
  | 0, i, _, _ => rfl
  | d + 1, i, hl, h => by
    have hlt : i + d < ops.size := by omega
    have h1 := hr.step (i + d) ops[i + d] (by simp [hlt])
    rw [show i + (d + 1) = (i + d) + 1 by omega, h1.env t (h (i + d) _ (by omega) (by omega) (by simp [hlt]))]
    exact env_same hr d i (by omega) (fun k o hk hk2 ho => h k o hk (by omega) ho)

theorem full_same (hr : Run P T ops S) : ∀ (d i : Nat), i + d ≤ ops.size → (∀ k o, i ≤ k → k < i + d → ops[k]? = some o → isStore o.op = false) → full ops.size S (i + d) = full ops.size S i
  | 0, i, _, _ => rfl
  | d + 1, i, hl, h => by
    have hlt : i + d < ops.size := by omega
    have h1 := (full_step hr (i := i + d) (o := ops[i + d]) (by simp [hlt])).1 (h (i + d) _ (by omega) (by omega) (by simp [hlt]))
    rw [show i + (d + 1) = (i + d) + 1 by omega, ← h1]
    exact full_same hr d i (by omega) (fun k o hk hk2 ho => h k o hk (by omega) ho)

theorem heap_mono (hr : Run P T ops S) : ∀ (d i : Nat), i + d ≤ ops.size → (S i).heap.length ≤ (S (i + d)).heap.length
  | 0, i, _ => Nat.le_refl _
  | d + 1, i, hl => by
    have hlt : i + d < ops.size := by omega
    have h1 := (hr.step (i + d) ops[i + d] (by simp [hlt])).heap.1
    exact Nat.le_trans (heap_mono hr d i (by omega)) h1

theorem env_len (hr : Run P T ops S) : ∀ (i : Nat), i ≤ ops.size → (S i).env.length = (S 0).env.length
  | 0, _ => rfl
  | i + 1, h => by
    have hlt : i < ops.size := by omega
    rw [(hr.step i ops[i] (by simp [hlt])).len]
    exact env_len hr i (by omega)

def Cut (ops : Array Oper) (listed : Array Bool) (t i : Nat) : Prop := ∀ (k : Nat) o, ops[k]? = some o → o.dst = some t → (listed.getD k true = true ↔ k < i)
def HCut (ops : Array Oper) (listed : Array Bool) (i : Nat) : Prop := ∀ (k : Nat) o, ops[k]? = some o → isStore o.op = true → (listed.getD k true = true ↔ k < i)

structure Inv (ops : Array Oper) (S : Nat → St) (c : Ctx) (listed : Array Bool) (a : Act) (w : World) (X : Nat → Prop) (ρ : Places) : Prop where
  sz : listed.size = ops.size
  closed : Closed ops listed
  defers : a.defers = []
  keeps : Keeps c w
  tl : a.tmps.size = (S 0).env.length
  env : ∀ (t i : Nat) u, i ≤ ops.size → Cut ops listed t i → a.tmps[t]? = some u → PRd w X ρ u ((S i).env.getD t .any)
  heap : ∀ i, i ≤ ops.size → HCut ops listed i → HRd c w X ρ (full ops.size S i)
  places : ∀ i, i < ops.size → listed.getD i true = false → ∀ id, (S i).heap.length ≤ id → id < (S (i + 1)).heap.length → ρ[id]? = some none

end
end Go.AM
