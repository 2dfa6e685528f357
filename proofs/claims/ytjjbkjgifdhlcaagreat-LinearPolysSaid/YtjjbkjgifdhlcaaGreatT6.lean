/- The abstract machine: maps. -/
import Derived.Test.YtjjbkjgifdhlcaaGreatT5
import Derived.MapKept

namespace Go.AM

section
variable {P : Program} {T : Tab}

theorem keyC_is {c : PV} {n : Int} (h : keyC c = some n) : c = .fv (.lit (.int .i64 n)) := by
  unfold keyC at h
  split at h
  · cases h; rfl
  · cases h
theorem mapM_ints : ∀ (cs : List PV) (ks : List Int), keyVs cs = some ks → cs = ks.map (fun n => .fv (.lit (.int .i64 n)))
  | [], ks, h => by simp [keyVs] at h; subst h; rfl
  | c :: cs, ks, h => by
    simp only [keyVs] at h
    split at h
    · rename_i n ns h1 h2
      cases h
      rw [List.map_cons, ← mapM_ints cs ns h2, keyC_is h1]
    · cases h
theorem keyV_rd {w : World} {X : Nat → Prop} {ρ : Places} {u : Value} {x : PV} {ks : List Int} (h : PRd w X ρ u x) (hk : keyV x = some ks) : u = .agg (ks.map (Value.int .i64)).toArray := by
  unfold keyV at hk
  split at hk
  rotate_left
  · cases hk
  have := mapM_ints _ _ hk
  subst this
  cases h with
  | agg us _ hn h1 hr =>
    congr 1
    apply Array.ext
    · simpa using hn
    · intro i hi1 hi2
      have := hr i us[i] (.fv (.lit (.int .i64 (ks[i]'(by simpa using hi2))))) (by simp [hi1]) (by simp at hi2; simp [hi2])
      have h2 := this.litInv
      rw [h2]
      simp
theorem ints_inj {a b : List Int} (h : (Value.agg (a.map (Value.int .i64)).toArray) = .agg (b.map (Value.int .i64)).toArray) : a = b := by
  injection h with h
  have h2 : a.map (Value.int .i64) = b.map (Value.int .i64) := by
    have := congrArg Array.toList h
    simpa using this
  exact (List.map_inj_right (fun x y e => by injection e)).1 h2
theorem tabFind_none {es : List (List Int × PV)} {k : List Int} (h : ∀ e ∈ es, e.1 ≠ k) : tabFind es k = none := by
  unfold tabFind
  rw [Option.map_eq_none_iff, List.find?_eq_none]
  intro e he hk
  exact h e he (by simpa using hk)
theorem tabFind_some : ∀ {es : List (List Int × PV)} {k : List Int} {v : PV} {i : Nat}, (es.map (·.1)).Nodup → es[i]? = some (k, v) → tabFind es k = some v
  | [], k, v, i, _, h => by simp at h
  | e :: es, k, v, i, hn, h => by
    unfold tabFind
    rw [List.map_cons, List.nodup_cons] at hn
    cases i with
    | zero =>
      simp at h
      subst h
      simp
    | succ i =>
      simp at h
      have hmem : k ∈ es.map (·.1) := List.mem_map.2 ⟨(k, v), List.mem_of_getElem? h, rfl⟩
      have hne : (e.1 == k) = false := by
        rw [beq_eq_false_iff_ne]
        intro he
        exact hn.1 (he ▸ hmem)
      rw [List.find?_cons, hne]
      exact tabFind_some hn.2 h
theorem still_rd {w : World} {X : Nat → Prop} {ρ ρ' : Places} {u : Value} {x : PV} (h : PRd w X ρ u x) (hs : still x = true) : PRd w X ρ' u x := by
  unfold still at hs
  split at hs
  · cases h with | fv _ _ hf => exact .fv _ _ hf
  · rename_i cs
    rw [List.all_eq_true] at hs
    cases h with
    | agg us _ hn h1 hr =>
      refine .agg us cs hn h1 (fun i v c hv hc => ?_)
      have hc2 := hs c (List.mem_of_getElem? hc)
      have hp := hr i v c hv hc
      split at hc2
      · cases hp with | fv _ _ hf => exact .fv _ _ hf
      · cases hc2
  · cases hs
theorem tab_inv {w : World} {X : Nat → Prop} {ρ : Places} {u : Value} {id : Nat} (h : PRd w X ρ u (.tab id)) : ∃ g p, u = .map (some g) ∧ ρ[id]? = some (some p) ∧ p.b = some g := by
  cases h with | tab _ g p hp hg => exact ⟨g, p, rfl, hp, hg⟩

theorem eff_makeMap (_hT : TabOk P T) (t : TypeId) : EffOp P T (.makeMap t none) := by
  intro c w X ρ H D R o e ρv r ho h hD hρ hres hc hlen
  simp only [opRes] at hres
  split at hres
  rotate_left
  · cases hres
  rename_i i hi
  split at hres
  rotate_left
  · cases hres
  rename_i n _ hd
  cases hres
  obtain ⟨d, rfl⟩ := single (D := D) (by simp at hlen; omega)
  have hρ0 := hD H.length (Nat.le_refl _) (by simp)
  let p : Place := ⟨some w.heap.size, 0, 0, 0⟩
  have hlt : H.length < ρ.length := (List.getElem?_eq_some_iff.1 hρ0).1
  have hg := World.grownBy_alloc w (.map #[] 0) none
  have hF : (H ++ ([d] ++ R)).set H.length (.tab n []) = (H ++ [.tab n []]) ++ R := by simp
  have hput := h.put (id := H.length) (p := p) (ob := .tab n []) (row := none) (w' := w.alloc (.map #[] 0)) (by simp) (.inl hρ0) hg (by simp)
    (fun j q o g hj hq ho hr hb => ⟨by simp, by
      have := (h.own j q o g hq ho hr hb).2
      intro he
      simp only [p, Option.some.injEq] at he
      omega⟩)
    (fun g hg => by simp only [p, Option.some.injEq] at hg; left; omega)
    (fun g hg => by simp only [p, Option.some.injEq] at hg; subst hg; exact ⟨.inl h.ge, by simp⟩)
    (by simp)
    ⟨⟨by simp, w.heap.size, 0, #[], rfl, heap_alloc_new w _, rfl, by simp, fun i e k v he hv => by simp at he⟩, fun g hg => .inr hg⟩
  rw [hF] at hput
  refine ⟨_, _, _, _, .inl ?_, hput.2, hput.1, .tab H.length w.heap.size p (by simp [hlt]) rfl, fun id hid => by
    rw [List.getElem?_set_ne (by simp at hid; omega)]⟩
  simp [execOp, ho, Instr.makeMap]

theorem still_lookup (hT : TabOk P T) (t : TypeId) (m k : Operand) (ok : Bool) : StillOp P T (.lookup t m k ok) := by
  intro c w X ρ H F o e ρv r lo hi ho h hH hρ hres hc
  have hm := hρ m (by simp [Op.operands])
  have hk := hρ k (by simp [Op.operands])
  simp only [opRes] at hres
  split at hres
  rotate_left
  · cases hres
  rename_i i id ks hi hmv hkv
  split at hres
  rotate_left
  · cases hres
  rename_i n zv n2 es hd hob
  split at hres
  rotate_left
  · cases hres
  rename_i hlen2
  obtain ⟨hlen, rfl⟩ := hlen2
  simp only [Res.if, Option.some.injEq] at hres
  subst hres
  rw [hmv] at hm
  obtain ⟨g, p, hmu, hp, hpg⟩ := tab_inv hm
  have hku := keyV_rd hk hkv
  obtain ⟨⟨hks, g2, clock, vs, hg2, hh, hsz, hnd, hcell⟩, _⟩ := h.ob id p _ hp (hH id _ hob)
  rw [hpg] at hg2; cases hg2
  have htd := (hT _ _ hi).desc
  rw [hd] at htd
  obtain ⟨kt, el, ti, z, hu, hti, hz, hst, hzr, hlaw, hkey⟩ := htd
  obtain ⟨lk, hlk⟩ := hkey ks hlen hc
  have hcheck := fun em => hlaw.check w em hlk
  have hget : (getObj g).run P w = .ok (.map vs clock) w := by simp [getObj, Sem.run, hh]
  have hent : ∀ (j : Nat) ent, vs[j]? = some ent → ∃ k' v', es[j]? = some (k', v') ∧ ent.key = .agg (k'.map (Value.int .i64)).toArray ∧ still v' = true ∧ PRd w X [] ent.val v' := by
    intro j ent hj
    have hlt : j < es.length := by rw [← hsz]; exact (Array.getElem?_eq_some_iff.1 hj).1
    obtain ⟨a1, a2, a3⟩ := hcell j ent es[j].1 es[j].2 hj (by simp [hlt])
    exact ⟨_, _, by simp [hlt], a1, a2, a3⟩
  have hall : ∀ e ∈ vs.toList, ∃ l, keyOf P kt e.key = some l := by
    intro ent he
    obtain ⟨j, hj, hje⟩ := List.mem_iff_getElem.1 he
    obtain ⟨k', v', h1, h2, _⟩ := hent j ent (by rw [← hje]; simp at hj; simp [hj])
    obtain ⟨b1, b2⟩ := hks _ (List.mem_of_getElem? h1)
    rw [h2]
    exact hkey k' b1 b2
  have hzv : (zeroValue el).run P w = .ok z w := by simp [zeroValue, typeInfo, hti, hz]
  rcases hlaw.find w hlk vs.toList hall with ⟨hf, hno⟩ | ⟨j, ent, hf, hj, hjk⟩
  · have hnone : tabFind es ks = none := by
      refine tabFind_none (fun e he hek => ?_)
      obtain ⟨j, hj, hje⟩ := List.mem_iff_getElem.1 he
      have hjv : j < vs.size := by rw [hsz]; exact hj
      obtain ⟨a1, _, _⟩ := hcell j vs[j] e.1 e.2 (by simp [hjv]) (by rw [List.getElem?_eq_getElem hj, hje])
      exact hno vs[j] (Array.mem_toList_iff.2 (Array.getElem_mem hjv)) (by rw [a1, hek])
    refine ⟨rfl, OpOK.still (u := if ok then .tuple #[z, .bool false] else z) h ?_ ?_⟩
    · simp only [execOp, ho, hmu, hku]
      cases ok <;> simp [Instr.lookup, run_underlying hu, hget, hcheck, hf, hzv]
    · rw [hnone]
      cases ok with
      | false => exact hzr w X ρ
      | true => exact .tup _ _ rfl (fun i u c hu hc => by
          match i with
          | 0 => simp at hu hc; subst hu; subst hc; exact hzr w X ρ
          | 1 => simp at hu hc; subst hu; subst hc; exact .fv _ _ (.lit _ rfl)
          | i + 2 => simp at hu)
  · obtain ⟨k', v', h1, h2, h3, h4⟩ := hent j ent (by simpa using hj)
    have hkk : k' = ks := ints_inj (h2.symm.trans hjk)
    rw [hkk] at h1
    have hsome := tabFind_some hnd h1
    have hv : PRd w X ρ ent.val v' := still_rd h4 h3
    refine ⟨rfl, OpOK.still (u := if ok then .tuple #[ent.val, .bool true] else ent.val) h ?_ ?_⟩
    · simp only [execOp, ho, hmu, hku]
      cases ok <;> simp [Instr.lookup, run_underlying hu, hget, hcheck, hf]
    · rw [hsome]
      cases ok with
      | false => exact hv
      | true => exact .tup _ _ rfl (fun i u c hu hc => by
          match i with
          | 0 => simp at hu hc; subst hu; subst hc; exact hv
          | 1 => simp at hu hc; subst hu; subst hc; exact .fv _ _ (.lit _ rfl)
          | i + 2 => simp at hu)

theorem tabPut_none : ∀ {es : List (List Int × PV)} {k : List Int} {v : PV}, (∀ e ∈ es, e.1 ≠ k) → tabPut es k v = es ++ [(k, v)]
  | [], k, v, _ => rfl
  | e :: es, k, v, h => by
    have hne : (e.1 == k) = false := by rw [beq_eq_false_iff_ne]; exact h e (by simp)
    simp only [tabPut, hne]
    rw [tabPut_none (fun e he => h e (List.mem_cons_of_mem _ he))]
    rfl
theorem tabPut_some : ∀ {es : List (List Int × PV)} {k : List Int} {v u : PV} {i : Nat}, (es.map (·.1)).Nodup → es[i]? = some (k, u) → tabPut es k v = es.set i (k, v)
  | [], k, v, u, i, _, h => by simp at h
  | e :: es, k, v, u, i, hn, h => by
    rw [List.map_cons, List.nodup_cons] at hn
    cases i with
    | zero =>
      simp at h
      subst h
      simp [tabPut]
    | succ i =>
      simp at h
      have hmem : k ∈ es.map (·.1) := List.mem_map.2 ⟨(k, u), List.mem_of_getElem? h, rfl⟩
      have hne : (e.1 == k) = false := by
        rw [beq_eq_false_iff_ne]
        intro he
        exact hn.1 (he ▸ hmem)
      simp only [tabPut, hne]
      rw [tabPut_some hn.2 h]
      rfl
theorem HRd.reTab {c : Ctx} {w : World} {X : Nat → Prop} {ρ : Places} {F : List Ob} (h : HRd c w X ρ F) {id g n : Nat} {p : Place} {es es' : List (List Int × PV)} {vs vs' : Array MapEntry} {clock clock' : Nat}
    (hp : ρ[id]? = some (some p)) (hob : F[id]? = some (.tab n es)) (hpg : p.b = some g) (hh : w.heap[g]? = some (.map vs clock))
    (hks : ∀ e ∈ es', e.1.length = n ∧ ∀ x ∈ e.1, -9223372036854775808 ≤ x ∧ x < 9223372036854775808) (hsz : vs'.size = es'.length) (hnd : (es'.map (·.1)).Nodup)
    (hcell : ∀ (i : Nat) e k v, vs'[i]? = some e → es'[i]? = some (k, v) → e.key = .agg (k.map (Value.int .i64)).toArray ∧ still v = true ∧ PRd w X [] e.val v) :
    ∃ X', Stp c w { w with heap := w.heap.setIfInBounds g (.map vs' clock') } X X' ρ ρ ∧ HRd c { w with heap := w.heap.setIfInBounds g (.map vs' clock') } X' ρ (F.set id (.tab n es')) := by
  have hlt : g < w.heap.size := (Array.getElem?_eq_some_iff.1 hh).1
  have hXg : X g := (h.ob id p _ hp hob).2 g hpg
  have hgb : w.grownBy { w with heap := w.heap.setIfInBounds g (.map vs' clock') } (some g) :=
    ⟨rfl, rfl, rfl, by simp, fun k _ hk => by simp [Array.getElem?_setIfInBounds_ne (show g ≠ k from fun e => hk (by rw [e]))]⟩
  have hsub : ∀ b, (X b ∨ p.b = some b) → X b := fun b hb => by
    rcases hb with hb | hb
    · exact hb
    · rw [hpg] at hb; cases hb; exact hXg
  have hput := h.put (id := id) (p := p) (ob := .tab n es') (row := some g) (w' := { w with heap := w.heap.setIfInBounds g (.map vs' clock') }) (List.getElem?_eq_some_iff.1 hob).1 (.inr hp) hgb
    (by intro g' hg'; cases hg'; exact hXg)
    (fun j2 q o2 g2 hj2 hq ho2 hr2 hb2 => by
      have hne : g2 ≠ g := by
        intro he; subst he
        exact hj2 (h.inj j2 id q p o2 _ g2 hq hp ho2 hob hr2 rfl hb2 hpg)
      exact ⟨by simp [hne], by rw [hpg]; simp; exact fun he => hne he.symm⟩)
    (fun g2 hg2 => by rw [hpg] at hg2; cases hg2; exact .inr hXg)
    (fun g2 hg2 => by rw [hpg] at hg2; cases hg2; exact ⟨(h.own id p _ g hp hob rfl hpg).1, Nat.lt_of_lt_of_le (h.own id p _ g hp hob rfl hpg).2 hgb.size⟩)
    (fun g2 hg2 => by cases hg2; exact (h.own id p _ g hp hob rfl hpg).1)
    ⟨⟨hks, g, clock', vs', hpg, by simp [hlt], hsz, hnd, fun i e k v he hv => by
        obtain ⟨a1, a2, a3⟩ := hcell i e k v he hv
        exact ⟨a1, a2, a3.mono ⟨hgb.size, fun b hb hxb => hgb.block b hb (fun he => hxb (by cases he; exact hXg))⟩ (fun b _ hb => hsub b hb) (Places.Le.refl [])⟩⟩, fun g2 hg2 => .inr hg2⟩
  rw [set_self hp] at hput
  exact ⟨_, hput.2, hput.1⟩
theorem eff_mapUpdate (hT : TabOk P T) (t : TypeId) (m k x : Operand) : EffOp P T (.mapUpdate t m k x) := by
  intro c w X ρ H D R o e ρv r ho h hD hρ hres hc hlen
  have hm := hρ m (by simp [Op.operands])
  have hk := hρ k (by simp [Op.operands])
  have hx := hρ x (by simp [Op.operands])
  simp only [opRes] at hres
  split at hres
  rotate_left
  · cases hres
  rename_i i id ks hi hmv hkv
  split at hres
  rotate_left
  · cases hres
  rename_i n zv n2 es hd hob
  split at hres
  rotate_left
  · cases hres
  rename_i hlen2
  obtain ⟨hkl, rfl, hsx⟩ := hlen2
  cases hres
  simp only at hc hlen
  have hd0 : D = [] := List.eq_nil_of_length_eq_zero (by simp at hlen; simpa using hlen)
  subst hd0
  rw [hmv] at hm
  obtain ⟨g, p, hmu, hp, hpg⟩ := tab_inv hm
  have hku := keyV_rd hk hkv
  have hobF : (H ++ ([] ++ R))[id]? = some (.tab n2 es) := look_append id _ hob
  obtain ⟨⟨hks, g2, clock, vs, hg2, hh, hsz, hnd, hcell⟩, _⟩ := h.ob id p _ hp hobF
  rw [hpg] at hg2; cases hg2
  have htd := (hT _ _ hi).desc
  rw [hd] at htd
  obtain ⟨kt, el, ti, z, hu, hti, hz, hst, hzr, hlaw, hkey⟩ := htd
  obtain ⟨lk, hlk⟩ := hkey ks hkl hc
  have hcheck := fun em => hlaw.check w em hlk
  have hstay := hlaw.stays w hlk
  have hget : (getObj g).run P w = .ok (.map vs clock) w := by simp [getObj, Sem.run, hh]
  have hset : ∀ ob : Obj, (setObj g ob).run P w = .ok () { w with heap := w.heap.setIfInBounds g ob } := fun ob => by simp [setObj, Sem.run, hh]
  have hxr : PRd w X [] (e x) (ρv x) := still_rd hx hsx
  have hent : ∀ (j : Nat) ent, vs[j]? = some ent → ∃ k' v', es[j]? = some (k', v') ∧ ent.key = .agg (k'.map (Value.int .i64)).toArray ∧ still v' = true ∧ PRd w X [] ent.val v' := by
    intro j ent hj
    have hlt : j < es.length := by rw [← hsz]; exact (Array.getElem?_eq_some_iff.1 hj).1
    obtain ⟨a1, a2, a3⟩ := hcell j ent es[j].1 es[j].2 hj (by simp [hlt])
    exact ⟨_, _, by simp [hlt], a1, a2, a3⟩
  have hall : ∀ e ∈ vs.toList, ∃ l, keyOf P kt e.key = some l := by
    intro ent he
    obtain ⟨j, hj, hje⟩ := List.mem_iff_getElem.1 he
    obtain ⟨k', v', h1, h2, _⟩ := hent j ent (by rw [← hje]; simp at hj; simp [hj])
    obtain ⟨b1, b2⟩ := hks _ (List.mem_of_getElem? h1)
    rw [h2]
    exact hkey k' b1 b2
  have hFs : ∀ ob : Ob, (H ++ ([] ++ R)).set id ob = H.set id ob ++ R := fun ob => by
    rw [List.nil_append, List.set_append_left _ _ (List.getElem?_eq_some_iff.1 hob).1]
  rcases hlaw.find w hlk vs.toList hall with ⟨hf, hno⟩ | ⟨j, ent, hf, hj, hjk⟩
  · have hnk : ∀ e ∈ es, e.1 ≠ ks := fun e he hek => by
      obtain ⟨j, hj, hje⟩ := List.mem_iff_getElem.1 he
      have hjv : j < vs.size := by rw [hsz]; exact hj
      obtain ⟨a1, _, _⟩ := hcell j vs[j] e.1 e.2 (by simp [hjv]) (by rw [List.getElem?_eq_getElem hj, hje])
      exact hno vs[j] (Array.mem_toList_iff.2 (Array.getElem_mem hjv)) (by rw [a1, hek])
    rw [tabPut_none hnk]
    obtain ⟨X', hs, hh'⟩ := h.reTab (es' := es ++ [(ks, ρv x)]) (vs' := vs.push { key := .agg (ks.map (Value.int .i64)).toArray, val := e x, born := clock }) (clock' := clock + 1) hp hobF hpg hh
      (fun e he => by
        rcases List.mem_append.1 he with he | he
        · exact hks e he
        · rw [List.mem_singleton] at he; subst he; exact ⟨hkl, hc⟩)
      (by simp [hsz])
      (by
        rw [List.map_append, List.nodup_append]
        refine ⟨hnd, by simp, fun a ha b hb => ?_⟩
        simp at hb
        subst hb
        obtain ⟨e, he, rfl⟩ := List.mem_map.1 ha
        exact hnk e he)
      (fun i e2 k2 v2 he2 hv2 => by
        by_cases hi2 : i < vs.size
        · rw [Array.getElem?_push_lt hi2] at he2
          rw [List.getElem?_append_left (by omega)] at hv2
          exact hcell i e2 k2 v2 (by rw [← he2]; simp [hi2]) hv2
        · have hil : i = vs.size := by
            have := (List.getElem?_eq_some_iff.1 hv2).1
            simp at this; omega
          subst hil
          rw [List.getElem?_append_right (by omega), hsz] at hv2
          simp at he2 hv2
          obtain ⟨rfl, rfl⟩ := hv2
          subst he2
          exact ⟨rfl, hsx, hxr⟩)
    rw [hFs] at hh'
    refine ⟨undef, _, X', ρ, .inr ⟨?_, rfl⟩, hs, hh', .tup #[] [] rfl (by simp), fun _ _ => rfl⟩
    simp only [execOp, ho, hmu, hku]
    simp [Instr.mapUpdate, run_underlying hu, hget, hcheck, hf, hset]
  · obtain ⟨k', v', h1, h2, h3, h4⟩ := hent j ent (by simpa using hj)
    have hkk : k' = ks := ints_inj (h2.symm.trans hjk)
    rw [hkk] at h1
    rw [tabPut_some hnd h1]
    have hjs : j < vs.size := by rw [hsz]; exact (List.getElem?_eq_some_iff.1 h1).1
    have hvj : vs[j]? = some ent := by simpa using hj
    obtain ⟨X', hs, hh'⟩ := h.reTab (es' := es.set j (ks, ρv x)) (vs' := vs.modify j fun q => { q with key := .agg (ks.map (Value.int .i64)).toArray, val := e x }) (clock' := clock) hp hobF hpg hh
      (fun e he => by
        rcases List.mem_or_eq_of_mem_set he with he | he
        · exact hks e he
        · subst he; exact ⟨hkl, hc⟩)
      (by simp [hsz])
      (by
        have : (es.set j (ks, ρv x)).map (·.1) = es.map (·.1) := by
          apply List.ext_getElem?
          intro q
          rw [List.getElem?_map, List.getElem?_map]
          by_cases hq : j = q
          · subst hq
            rw [List.getElem?_set_self (by omega), h1]; rfl
          · rw [List.getElem?_set_ne hq]
        rw [this]; exact hnd)
      (fun i e2 k2 v2 he2 hv2 => by
        by_cases hij : j = i
        · subst hij
          rw [List.getElem?_set_self (by omega)] at hv2
          cases hv2
          rw [Array.getElem?_modify, if_pos rfl, hvj] at he2
          cases he2
          exact ⟨rfl, hsx, hxr⟩
        · rw [List.getElem?_set_ne hij] at hv2
          rw [Array.getElem?_modify, if_neg hij] at he2
          exact hcell i e2 k2 v2 he2 hv2)
    rw [hFs] at hh'
    refine ⟨undef, _, X', ρ, .inr ⟨?_, rfl⟩, hs, hh', .tup #[] [] rfl (by simp), fun _ _ => rfl⟩
    have hvk : ent.key = .agg (ks.map (Value.int .i64)).toArray := hjk
    simp only [execOp, ho, hmu, hku]
    simp [Instr.mapUpdate, run_underlying hu, hget, hcheck, hf, hset, hvj, hvk, hstay]
end
end Go.AM

namespace Go.AM

section
variable {P : Program} {T : Tab}

theorem bound3_rd {w : World} {n l h m : Nat} {lo hi mx : Option Operand} {e : Operand → Value} {ρv : Operand → PV} {X : Nat → Prop} {ρ : Places}
    (hlo : ∀ x ∈ lo.toArray, PRd w X ρ (e x) (ρv x)) (hhi : ∀ x ∈ hi.toArray, PRd w X ρ (e x) (ρv x)) (hmx : ∀ x ∈ mx.toArray, PRd w X ρ (e x) (ρv x)) {c1 c2 c3 : Prop} (hmn : mx.isSome = true → hi.isSome = true)
    (hb1 : bound (lo.map ρv) 0 = some (c1, l)) (hb2 : bound (hi.map ρv) n = some (c2, h)) (hb3 : bound (mx.map ρv) n = some (c3, m)) (hc1 : c1) (hc2 : c2) (hc3 : c3) (hlh : l ≤ h) (hhm : h ≤ m) (hmn2 : m ≤ n) :
    (Instr.sliceBounds false n n (lo.map e) (hi.map e) (mx.map e)).run P w = .ok (l, h, m) w := by
  rcases bound_rd hlo hb1 with ⟨rfl, rfl, _⟩ | ⟨x, k, a, rfl, hx, rfl, rfl⟩ <;>
    rcases bound_rd hhi hb2 with ⟨rfl, rfl, _⟩ | ⟨y, k', b, rfl, hy, rfl, rfl⟩ <;>
      rcases bound_rd hmx hb3 with ⟨rfl, rfl, _⟩ | ⟨z, k2, d, rfl, hz, rfl, rfl⟩
  · simp [Instr.sliceBounds]
  · simp at hmn
  · have h1 : 0 ≤ b ∧ b ≤ (m : Int) := by omega
    simp [Instr.sliceBounds, Instr.sliceBound, hy, asIntOf, h1]
  · have h1 : 0 ≤ d ∧ d ≤ (n : Int) := by omega
    have h2 : 0 ≤ b ∧ b ≤ max d 0 := by omega
    simp [Instr.sliceBounds, Instr.sliceBound, hy, hz, asIntOf, h1, h2]
  · have h1 : 0 ≤ a ∧ a ≤ (m : Int) := by omega
    simp [Instr.sliceBounds, Instr.sliceBound, hx, asIntOf, h1]
  · simp at hmn
  · have h1 : 0 ≤ b ∧ b ≤ (m : Int) := by omega
    have h2 : 0 ≤ a ∧ a ≤ max b 0 := by omega
    simp [Instr.sliceBounds, Instr.sliceBound, hx, hy, asIntOf, h1, h2]
  · have h1 : 0 ≤ d ∧ d ≤ (n : Int) := by omega
    have h2 : 0 ≤ b ∧ b ≤ max d 0 := by omega
    have h3 : 0 ≤ a ∧ a ≤ max b 0 := by omega
    simp [Instr.sliceBounds, Instr.sliceBound, hx, hy, hz, asIntOf, h1, h2, h3]

theorem frd_take {w : World} {X : Nat → Prop} {ad : Addr} {n m : Nat} {xs : List (List FV)} (hf : FRd w X (.slice (some ad) n n) (.sl xs)) (hm : m ≤ n) : FRd w X (.slice (some ad) m m) (.sl (xs.take m)) := by
  cases hf with
  | sl _ _ _ s _ us hn hc hs h0 hX hb hcell hrd =>
    refine .sl ad m m s _ us (by simp; omega) (Nat.le_refl _) (fun x hx => hs x (List.mem_of_mem_take hx)) h0 (fun hz => hX (by omega)) (fun hz => hb (by omega)) (fun i j x y hx hy => ?_) (fun i j x y hx hy => ?_)
    · rw [List.getElem?_take] at hx
      split at hx
      · exact hcell i j x y hx hy
      · cases hx
    · rw [List.getElem?_take] at hx
      split at hx
      · exact hrd i j x y hx hy
      · cases hx

theorem eff_sliceArr (hT : TabOk P T) {t : TypeId} {i : TyI} (hi : T.at t = some i) {n el : Nat} (hel : i.d = .arr n el) (x : Operand) (lo hi' mx : Option Operand) : EffOp P T (.slice t x lo hi' mx) := by
  intro c w X ρ H D R o e ρv r ho h hD hρ hres hc hlen
  have hx := hρ x (by simp [Op.operands])
  have hlo : ∀ y ∈ lo.toArray, PRd w X ρ (e y) (ρv y) := fun y hy => hρ y (by simp [Op.operands] at hy ⊢; simp [hy])
  have hhi : ∀ y ∈ hi'.toArray, PRd w X ρ (e y) (ρv y) := fun y hy => hρ y (by simp [Op.operands] at hy ⊢; simp [hy])
  have hmx : ∀ y ∈ mx.toArray, PRd w X ρ (e y) (ρv y) := fun y hy => hρ y (by simp [Op.operands] at hy ⊢; simp [hy])
  have hd := (hT _ _ hi).desc
  rw [hel] at hd
  simp only [TyDesc] at hd
  simp only [opRes, hi, hel] at hres
  split at hres
  rotate_left
  · cases hres
  rename_i ie id j off c1 l c2 hh c3 m hie hv hb1 hb2 hb3
  rw [hv] at hx
  split at hres
  rotate_left
  · cases hres
  rename_i rw cs hob
  split at hres
  rotate_left
  · cases hres
  rename_i fs hfs
  split at hres
  rotate_left
  · cases hres
  rename_i hg
  obtain ⟨rfl, hpos, hn0, hmn⟩ := hg
  cases hres
  have h5 : (shutIds (id :: ((cs.drop off).take (n * ie.size)).flatMap ids0) H).length = H.length + D.length := hlen
  rw [shutIds_length] at h5
  have hd0 : D = [] := List.eq_nil_of_length_eq_zero (by omega)
  subst hd0
  obtain ⟨hc1, hc2, hc3, hlh, hhm, hmn2, hoff⟩ := hc
  obtain ⟨ti, z, hti, hts, _⟩ := (hT _ _ hie).info
  have hids : ∀ k ∈ id :: ((cs.drop off).take (n * ie.size)).flatMap ids0, k < H.length := by
    intro k hk
    rw [List.mem_cons] at hk
    rcases hk with rfl | hk
    · exact (List.getElem?_eq_some_iff.1 hob).1
    · exact fzs_ids hfs k hk
  generalize hue : e x = u at hx
  cases hx with
  | ptr _ _ _ g p hp hgp =>
    have hb3' := bound3_rd (P := P) (w := w) hlo hhi hmx hmn hb1 hb2 hb3 hc1 hc2 hc3 hlh hhm hmn2
    refine OpOK.shutting hids h (u := .slice (if m = l then some ⟨g, off, none⟩ else (some (⟨g, off, none⟩ : Addr)).map (·.add (l * ie.size))) (hh - l) (m - l)) ?_ (fun X' hX hn => ?_)
    · have he : (0 * p.size + off) = off := by omega
      rw [he] at hue
      simp only [execOp, ho, hue]
      simp only [Instr.sliceAt, Sem.run_bind, run_underlying hd, Result.andThen_ok, Instr.sureAddr, Sem.run_pure, hb3', sizeOf, typeInfo, run_program, hti, hts]
      split <;> simp
    · obtain ⟨⟨g', us, hg', hhp, hsz, hone, hcell⟩, _⟩ := h.ob id p _ hp (look_append id _ hob)
      rw [hgp] at hg'; cases hg'
      have hfl : fs.length = n * ie.size := by rw [fzs_length hfs]; simp; omega
      have hfr : ∀ (k : Nat) y, fs[k]? = some y → w.cell? ⟨g, off + k, none⟩ = some (us.getD (off + k) undef) ∧ FRd w X' (us.getD (off + k) undef) y := by
        intro k y hy
        have hk : k < n * ie.size := by rw [← hfl]; exact (List.getElem?_eq_some_iff.1 hy).1
        have hlt : off + k < us.size := by omega
        have hc5 : ((cs.drop off).take (n * ie.size))[k]? = some cs[off + k] := by
          rw [List.getElem?_take, if_pos hk, List.getElem?_drop]
          simp [show off + k < cs.length by omega]
        obtain ⟨y', hy', hfy⟩ := fzs_get hfs k _ hc5
        rw [hy] at hy'; cases hy'
        rw [show us.getD (off + k) undef = us[off + k] by simp [hlt]]
        refine ⟨by rw [cell_of_row w g _ us _ _ hhp]; simp [hlt], ?_⟩
        refine fz0_rd h look_append (hcell _ _ _ (Array.getElem?_eq_getElem hlt) (by simp [show off + k < cs.length by omega])) hfy hX (fun k2 hk2 => hn k2 ?_)
        rw [List.mem_cons, List.mem_flatMap]
        exact .inr ⟨_, List.mem_of_getElem? hc5, hk2⟩
      have hbase : FRd w X' (.slice (some ⟨g, off, none⟩) n n) (.sl (groups ie.size n fs)) := by
        refine .sl _ n n ie.size _ (fun i j => us.getD (off + (i * ie.size + j)) undef) (groups_length _ _ _) (Nat.le_refl _) (groups_len hfl) rfl (fun _ => hn id (by simp) p _ g hp (look_append id _ hob) trivial hgp) (fun _ => (Array.getElem?_eq_some_iff.1 hhp).1) (fun i j x y hx hy => ?_) (fun i j x y hx hy => ?_)
        · exact (hfr _ _ (groups_cell hx hy).1).1
        · exact (hfr _ _ (groups_cell hx hy).1).2
      have hsub := frd_sub (frd_take hbase hmn2) (sz := ie.size) (fun x hx => groups_len hfl x (List.mem_of_mem_take hx)) (cap := m) hlh hhm
      have hte : (((groups ie.size n fs).take m).drop l).take (hh - l) = ((groups ie.size n fs).drop l).take (hh - l) := by
        rw [List.drop_take, List.take_take, Nat.min_eq_left (by omega)]
      rw [hte] at hsub
      show PRd w X' ρ _ (if m = hh then _ else _)
      by_cases hmh : m = hh
      · rw [if_pos hmh]
        have e1 : m - l = hh - l := by rw [hmh]
        rw [e1] at hsub ⊢
        exact .clip _ _ _ hsub
      · rw [if_neg hmh]
        exact .fv _ _ hsub

theorem run_storeAt {w : World} {t : TypeId} {ti : TypeInfo} (hti : P.info? t = some ti) {v : Value} (hv : v.cells.size = ti.size) {g o e' : Nat} {cur : Array Value} (hg : w.heap[g]? = some (.cells cur e' (0, 0)))
    (hl : o + v.cells.size ≤ cur.size) (h1 : ∀ (i : Nat) u, v.cells[i]? = some u → u.oneCell' = true) :
    (Instr.storeAt t (.pointer (some ⟨g, o, none⟩)) v).run P w = .ok () (w.setRow g (cur.toList.take o ++ v.cells.toList ++ cur.toList.drop (o + v.cells.size)).toArray) := by
  have hst := run_storeCells_at P g o e' v.cells.toList 0 cur w hg (by simpa using hl) (fun u hu => by
    obtain ⟨i, hi⟩ := List.getElem?_of_mem hu
    exact h1 i u (by simpa using hi))
  simp only [Nat.add_zero, Array.length_toList] at hst
  simp [Instr.storeAt, Instr.sureAddr, storeVar, sizeOf, typeInfo, hti, hv, hst]

theorem eff_store (hT : TabOk P T) (t : TypeId) (a x : Operand) : EffOp P T (.store t a x) := by
  intro c w X ρ H D R o e ρv r ho h hD hρ hres hc hlen
  have ha := hρ a (by simp [Op.operands])
  have hx := hρ x (by simp [Op.operands])
  simp only [opRes] at hres
  split at hres
  rotate_left
  · cases hres
  rename_i i hi
  obtain ⟨ti, z, hti, hts, _⟩ := (hT _ _ hi).info
  split at hres
  rotate_left
  · cases hres
  rename_i id j off hv
  rw [hv] at ha
  split at hres
  rotate_left
  · cases hres
  rename_i cd H' hst
  cases hres
  obtain ⟨hcd, hcl, hpos⟩ := hc
  obtain ⟨hcs, hone⟩ := cells_size hx (by omega)
  have hcr := cells_rd hx
  generalize hue : e a = u at ha
  cases ha with
  | ptr _ _ _ g p hp hgp =>
    unfold storeAt at hst
    split at hst
    · -- a row
      rename_i xs0 hob
      split at hst
      rotate_left
      · cases hst
      rename_i fs xs hfs hob1
      cases hst
      have hids := fzs_ids hfs
      have hl5 : ((shutAll H (ρv x).cells).set id (Ob.row true (xs.set j (splice (xs.getD j []) off fs)))).length = H.length + D.length := hlen
      rw [List.length_set] at hl5
      unfold shutAll at hl5
      rw [shutIds_length] at hl5
      have hd0 : D = [] := List.eq_nil_of_length_eq_zero (by omega)
      subst hd0
      obtain ⟨X1, h1, hs1, hn1⟩ := h.shutIds ((ρv x).cells.flatMap ids0)
      rw [shutIds_append _ hids] at h1
      obtain ⟨hjl, hoff⟩ := hcd
      have hfull : (shutIds ((ρv x).cells.flatMap ids0) H ++ ([] ++ R))[id]? = some (.row true xs) := look_append id _ hob1
      obtain ⟨⟨hppos, hxlen, us, hus, huc⟩, hrwX⟩ := h1.ob id p _ hp hfull
      have hXg : X1 g := (hrwX g hgp).1 rfl
      have hown0 : w.ownsRow 0 p.e p.size (.slice (some ⟨g, 0, none⟩) xs.length p.cap) xs.length us := by simpa [Place.val, hgp] using hus
      obtain ⟨hul, hcase⟩ := hown0
      rcases hcase with ⟨h5, _⟩ | ⟨g', cap', cur, h5, _, hcur, hnc, hcm, hcsz, htake⟩
      · cases h5
      cases h5
      have hgj : xs[j]? = some (xs.getD j []) := by simp [hjl]
      have hxj : (xs.getD j []).length = p.size := hxlen _ (List.mem_of_getElem? hgj)
      have hmul : (j + 1) * p.size ≤ xs.length * p.size := Nat.mul_le_mul_right _ hjl
      have hmulc : xs.length * p.size ≤ p.cap * p.size := Nat.mul_le_mul_right _ hnc
      rw [Nat.add_mul] at hmul
      have hfsl := fzs_length hfs
      have hrun := run_storeAt (P := P) (w := w) hti (v := e x) (by omega) (o := j * p.size + off) hcur (by omega) hone
      have hgb := grownBy_setRow w g (cur.toList.take (j * p.size + off) ++ (e x).cells.toList ++ cur.toList.drop (j * p.size + off + (e x).cells.size)).toArray
      have hget := fun k => arr_splice_get (cur := cur) (o := j * p.size + off) (vs := (e x).cells.toList) (by simp; omega) k
      simp only [Array.length_toList, Array.getElem?_toList] at hget
      have hheap := setRow_heap w g cur (cur.toList.take (j * p.size + off) ++ (e x).cells.toList ++ cur.toList.drop (j * p.size + off + (e x).cells.size)).toArray p.e (0, 0) hcur
      have hrun2 : (execOp e o).run P w = .ok .skip (w.setRow g (cur.toList.take (j * p.size + off) ++ (e x).cells.toList ++ cur.toList.drop (j * p.size + off + (e x).cells.size)).toArray) := by
        simp only [execOp, ho, hue, Sem.run_bind, hrun, Result.andThen_ok, Sem.run_pure]
      generalize hnew : (cur.toList.take (j * p.size + off) ++ (e x).cells.toList ++ cur.toList.drop (j * p.size + off + (e x).cells.size)).toArray = new at hrun2 hgb hget hheap
      have hnsz : new.size = cur.size := by
        rw [← hnew]
        simp
        omega
      have husg : ∀ (k : Nat), k < xs.length * p.size → us[k]? = cur[k]? := by
        intro k hk
        rw [← htake, List.getElem?_take, if_pos hk]
        simp
      have hown2 : (w.setRow g new).ownsRow 0 p.e p.size (.slice (some ⟨g, 0, none⟩) xs.length p.cap) xs.length (new.toList.take (xs.length * p.size)) := by
        refine ⟨by have e9 : new.toList.length = cur.size := hnsz; rw [List.length_take, e9, hcsz, Nat.min_eq_left hmulc], .inr ⟨g, p.cap, new, rfl, Nat.zero_le _, hheap, hnc, hcm, by rw [hnsz, hcsz], rfl⟩⟩
      have hfrd : ∀ (k : Nat) u y, (e x).cells[k]? = some u → fs[k]? = some y → FRd w X1 u y := by
        intro k u y hu hy
        have hlt : k < (ρv x).cells.length := by rw [← hfsl]; exact (List.getElem?_eq_some_iff.1 hy).1
        obtain ⟨y', hy', hfy⟩ := fzs_get hfs k (ρv x).cells[k] (by simp [hlt])
        rw [hy] at hy'; cases hy'
        refine fz0_rd h look_append (hcr k u _ hu (by simp [hlt])) hfy hs1 (fun k2 hk2 => hn1 k2 ?_)
        rw [List.mem_flatMap]
        exact ⟨_, by simp, hk2⟩
      have hput := h1.put (id := id) (p := p) (ob := .row true (xs.set j (splice (xs.getD j []) off fs))) (row := some g) (w' := w.setRow g new) (by have := (List.getElem?_eq_some_iff.1 hfull).1; exact this) (.inr hp) hgb
        (by intro g' hg'; cases hg'; exact hXg)
        (fun j2 q o2 g2 hj2 hq ho2 hr2 hb2 => by
          have hne : g2 ≠ g := by
            intro he; subst he
            exact hj2 (h1.inj j2 id q p o2 _ g2 hq hp ho2 hfull hr2 rfl hb2 hgp)
          exact ⟨by simp [hne], by rw [hgp]; simp; exact fun he => hne he.symm⟩)
        (fun g2 hg2 => by rw [hgp] at hg2; cases hg2; exact .inr hXg)
        (fun g2 hg2 => by rw [hgp] at hg2; cases hg2; exact ⟨(h1.own id p _ g hp hfull rfl hgp).1, Nat.lt_of_lt_of_le (h1.own id p _ g hp hfull rfl hgp).2 hgb.size⟩)
        (fun g2 hg2 => by cases hg2; exact (h1.own id p _ g hp hfull rfl hgp).1)
        ⟨⟨hppos, by
            intro y hy
            obtain ⟨k, hk⟩ := List.getElem?_of_mem hy
            by_cases hkj : j = k
            · subst hkj
              rw [List.getElem?_set_self hjl] at hk
              cases hk
              rw [splice_length (by omega)]
              exact hxj
            · rw [List.getElem?_set_ne hkj] at hk
              exact hxlen y (List.mem_of_getElem? hk), new.toList.take (xs.length * p.size), by rw [List.length_set]; simpa [Place.val, hgp] using hown2, by
            intro i2 k y1 y2 hy1 hy2
            have hmono : ∀ {u y}, FRd w X1 u y → FRd (w.setRow g new) (fun b => X1 b ∨ p.b = some b) u y := fun hf => hf.mono ⟨hgb.size, fun b hb hxb => hgb.block b hb (fun he => hxb (by cases he; exact hXg))⟩ (fun b hb hxb => by
              rcases hxb with hxb | hxb
              · exact hxb
              · rw [hgp] at hxb; cases hxb; exact hXg)
            have hi2 : i2 < xs.length := by have := (List.getElem?_eq_some_iff.1 hy1).1; simpa using this
            have hmul2 : (i2 + 1) * p.size ≤ xs.length * p.size := Nat.mul_le_mul_right _ hi2
            rw [Nat.add_mul] at hmul2
            by_cases hij : j = i2
            · subst hij
              rw [List.getElem?_set_self hjl] at hy1
              cases hy1
              have hk : k < p.size := by
                have := (List.getElem?_eq_some_iff.1 hy2).1
                rw [splice_length (by omega)] at this
                omega
              rw [splice_get (by omega)] at hy2
              have hidx : (new.toList.take (xs.length * p.size))[j * p.size + k]? = new[j * p.size + k]? := by
                rw [List.getElem?_take, if_pos (by omega)]
                simp
              rw [hidx, hget]
              by_cases hk1 : k < off
              · rw [if_pos hk1] at hy2
                rw [if_pos (by omega)]
                obtain ⟨u, hu, hf⟩ := huc j k _ y2 hgj hy2
                rw [husg _ (by omega)] at hu
                exact ⟨u, hu, hmono hf⟩
              · rw [if_neg hk1] at hy2
                rw [if_neg (by omega)]
                by_cases hk2 : k < off + fs.length
                · rw [if_pos hk2] at hy2
                  rw [if_pos (by omega)]
                  have hlt : k - off < (e x).cells.size := by omega
                  rw [show j * p.size + k - (j * p.size + off) = k - off by omega]
                  exact ⟨(e x).cells[k - off], by simp [hlt], hmono (hfrd _ _ _ (by simp [hlt]) hy2)⟩
                · rw [if_neg hk2] at hy2
                  rw [if_neg (by omega)]
                  obtain ⟨u, hu, hf⟩ := huc j k _ y2 hgj hy2
                  rw [husg _ (by omega)] at hu
                  exact ⟨u, hu, hmono hf⟩
            · rw [List.getElem?_set_ne hij] at hy1
              have hk : k < p.size := by rw [← hxlen y1 (List.mem_of_getElem? hy1)]; exact (List.getElem?_eq_some_iff.1 hy2).1
              obtain ⟨u, hu, hf⟩ := huc i2 k y1 y2 hy1 hy2
              refine ⟨u, ?_, hmono hf⟩
              rw [List.getElem?_take, if_pos (by omega), Array.getElem?_toList, hget, ← hu, husg _ (by omega)]
              have hdis : i2 * p.size + k < j * p.size + off ∨ j * p.size + off + (e x).cells.size ≤ i2 * p.size + k := by
                rcases Nat.lt_or_gt_of_ne hij with hlt | hgt
                · right
                  have : (j + 1) * p.size ≤ i2 * p.size := Nat.mul_le_mul_right _ hlt
                  rw [Nat.add_mul] at this
                  omega
                · left
                  have : (i2 + 1) * p.size ≤ j * p.size := Nat.mul_le_mul_right _ hgt
                  rw [Nat.add_mul] at this
                  omega
              rcases hdis with hdis | hdis
              · rw [if_pos hdis]
              · rw [if_neg (by omega), if_neg (by omega)]⟩,
          fun g2 hg2 => ⟨fun _ => .inr hg2, fun _ => rfl⟩⟩
      rw [set_self hp] at hput
      have hFs : (shutIds ((ρv x).cells.flatMap ids0) H ++ ([] ++ R)).set id (.row true (xs.set j (splice (xs.getD j []) off fs))) = (shutAll H (ρv x).cells).set id (.row true (xs.set j (splice (xs.getD j []) off fs))) ++ R := by
        rw [List.nil_append, List.set_append_left _ _ (by rw [shutIds_length]; exact (List.getElem?_eq_some_iff.1 hob).1)]
        rfl
      rw [hFs] at hput
      exact ⟨undef, _, _, ρ, .inr ⟨hrun2, rfl⟩, (Stp.same_world hs1).trans hput.2, hput.1, .tup #[] [] rfl (by simp), fun _ _ => rfl⟩
    · -- a variable
      rename_i cs hob
      cases hst
      have hl5 : (H.set id (Ob.box true (splice cs off (ρv x).cells))).length = H.length + D.length := hlen
      rw [List.length_set] at hl5
      have hd0 : D = [] := List.eq_nil_of_length_eq_zero (by omega)
      subst hd0
      obtain ⟨rfl, hoff⟩ := hcd
      have hfull : (H ++ ([] ++ R))[id]? = some (.box true cs) := look_append id _ hob
      obtain ⟨⟨g', cur, hg', hcur, hcsz, hone0, hcell⟩, hrwX⟩ := h.ob id p _ hp hfull
      rw [hgp] at hg'; cases hg'
      have hXg : X g := (hrwX g hgp).1 rfl
      have he : (0 * p.size + off) = off := by omega
      rw [he] at hue
      have hrun := run_storeAt (P := P) (w := w) hti (v := e x) (by omega) (o := off) hcur (by omega) hone
      have hgb := grownBy_setRow w g (cur.toList.take off ++ (e x).cells.toList ++ cur.toList.drop (off + (e x).cells.size)).toArray
      have hget := fun k => arr_splice_get (cur := cur) (o := off) (vs := (e x).cells.toList) (by simp; omega) k
      simp only [Array.length_toList, Array.getElem?_toList] at hget
      have hheap := setRow_heap w g cur (cur.toList.take off ++ (e x).cells.toList ++ cur.toList.drop (off + (e x).cells.size)).toArray p.e (0, 0) hcur
      have hrun2 : (execOp e o).run P w = .ok .skip (w.setRow g (cur.toList.take off ++ (e x).cells.toList ++ cur.toList.drop (off + (e x).cells.size)).toArray) := by
        simp only [execOp, ho, hue, Sem.run_bind, hrun, Result.andThen_ok, Sem.run_pure]
      generalize hnew : (cur.toList.take off ++ (e x).cells.toList ++ cur.toList.drop (off + (e x).cells.size)).toArray = new at hrun2 hgb hget hheap
      have hnsz : new.size = cur.size := by
        rw [← hnew]
        simp
        omega
      have hput := h.put (id := id) (p := p) (ob := .box true (splice cs off (ρv x).cells)) (row := some g) (w' := w.setRow g new) (by have := (List.getElem?_eq_some_iff.1 hfull).1; exact this) (.inr hp) hgb
        (by intro g' hg'; cases hg'; exact hXg)
        (fun j2 q o2 g2 hj2 hq ho2 hr2 hb2 => by
          have hne : g2 ≠ g := by
            intro he; subst he
            exact hj2 (h.inj j2 id q p o2 _ g2 hq hp ho2 hfull hr2 rfl hb2 hgp)
          exact ⟨by simp [hne], by rw [hgp]; simp; exact fun he => hne he.symm⟩)
        (fun g2 hg2 => by rw [hgp] at hg2; cases hg2; exact .inr hXg)
        (fun g2 hg2 => by rw [hgp] at hg2; cases hg2; exact ⟨(h.own id p _ g hp hfull rfl hgp).1, Nat.lt_of_lt_of_le (h.own id p _ g hp hfull rfl hgp).2 hgb.size⟩)
        (fun g2 hg2 => by cases hg2; exact (h.own id p _ g hp hfull rfl hgp).1)
        ⟨⟨g, new, hgp, hheap, by rw [hnsz, hcsz, splice_length (by omega)], by
            intro k u hu
            rw [hget] at hu
            split at hu
            · exact hone0 _ _ hu
            · split at hu
              · exact hone _ _ hu
              · exact hone0 _ _ hu, by
            intro k u y hu hy
            have hmono : ∀ {u y}, PRd w X ρ u y → PRd (w.setRow g new) (fun b => X b ∨ p.b = some b) (ρ.set id (some p)) u y := fun hf => hf.mono ⟨hgb.size, fun b hb hxb => hgb.block b hb (fun he => hxb (by cases he; exact hXg))⟩ (fun b hb hxb => by
              rcases hxb with hxb | hxb
              · exact hxb
              · rw [hgp] at hxb; cases hxb; exact hXg) (Places.Le.set (.inr hp))
            rw [hget] at hu
            rw [splice_get (by omega)] at hy
            by_cases hk1 : k < off
            · rw [if_pos hk1] at hu hy
              exact hmono (hcell _ _ _ hu hy)
            · rw [if_neg hk1] at hu hy
              by_cases hk2 : k < off + (ρv x).cells.length
              · rw [if_pos (by omega)] at hu
                rw [if_pos hk2] at hy
                exact hmono (hcr _ _ _ hu hy)
              · rw [if_neg (by omega)] at hu
                rw [if_neg hk2] at hy
                exact hmono (hcell _ _ _ hu hy)⟩,
          fun g2 hg2 => ⟨fun _ => .inr hg2, fun _ => rfl⟩⟩
      rw [set_self hp] at hput
      have hFs : (H ++ ([] ++ R)).set id (.box true (splice cs off (ρv x).cells)) = H.set id (.box true (splice cs off (ρv x).cells)) ++ R := by
        rw [List.nil_append, List.set_append_left _ _ (List.getElem?_eq_some_iff.1 hob).1]
      rw [hFs] at hput
      exact ⟨undef, _, _, ρ, .inr ⟨hrun2, rfl⟩, hput.2, hput.1, .tup #[] [] rfl (by simp), fun _ _ => rfl⟩
    · cases hst

theorem op_sound (hT : TabOk P T) (op : Op) : EffOp P T op := by
  intro c w X ρ H D R o e ρv r ho h hD hρ hres hc hlen
  have hres' := hres
  unfold opRes at hres'
  cases op with
  | move x => exact EffOp.of_still (still_move x) ho h hD hρ hres hc hlen
  | assign x => exact EffOp.of_still (still_assign x) ho h hD hρ hres hc hlen
  | pick x a b => exact EffOp.of_still (still_pick x a b) ho h hD hρ hres hc hlen
  | alloc t => exact eff_alloc hT t ho h hD hρ hres hc hlen
  | box t x => exact eff_box t x ho h hD hρ hres hc hlen
  | build t parts => exact EffOp.of_still (still_build hT t parts) ho h hD hρ hres hc hlen
  | buildSlice t len parts => exact eff_buildSlice hT t len parts ho h hD hρ hres hc hlen
  | load t a => exact EffOp.of_still (still_load hT t a) ho h hD hρ hres hc hlen
  | store t a x => exact eff_store hT t a x ho h hD hρ hres hc hlen
  | nilCheck x => exact EffOp.of_still (still_nilCheck x) ho h hD hρ hres hc hlen
  | binOp op t x y t' => exact EffOp.of_still (still_binOp hT op t x y t') ho h hD hρ hres hc hlen
  | unOp op t x => exact EffOp.of_still (still_unOp op t x) ho h hD hρ hres hc hlen
  | convert s d x => exact EffOp.of_still (still_convert hT s d x) ho h hD hρ hres hc hlen
  | makeSlice t l k => exact eff_makeSlice hT t l k ho h hD hρ hres hc hlen
  | makeFunc fn a b => exact eff_makeFunc fn a b ho h hD hρ hres hc hlen
  | fieldAddr t x f => exact EffOp.of_still (still_fieldAddr hT t x f) ho h hD hρ hres hc hlen
  | field t x f => exact EffOp.of_still (still_field hT t x f) ho h hD hρ hres hc hlen
  | indexAddr t x ix => exact EffOp.of_still (still_indexAddr hT t x ix) ho h hD hρ hres hc hlen
  | index t x ix => exact EffOp.of_still (still_index hT t x ix) ho h hD hρ hres hc hlen
  | extract x ix => exact EffOp.of_still (still_extract x ix) ho h hD hρ hres hc hlen
  | slice t x lo hi mx =>
    simp only at hres'
    split at hres'
    rotate_left
    · cases hres'
    rename_i i hi
    split at hres'
    · rename_i el hel
      exact EffOp.of_still (still_slice hT hi hel x lo _) ho h hD hρ hres hc hlen
    · rename_i el mv hel
      exact EffOp.of_still (still_slice3 hT (by assumption) hel x lo _ _) ho h hD hρ hres hc hlen
    · rename_i n el hel
      exact eff_sliceArr hT (by assumption) hel x lo _ _ ho h hD hρ hres hc hlen
    · cases hres'
  | makeMap t r =>
    cases r with
    | none => exact eff_makeMap hT t ho h hD hρ hres hc hlen
    | some r => simp only at hres'; cases hres'
  | lookup t m k ok => exact EffOp.of_still (still_lookup hT t m k ok) ho h hD hρ hres hc hlen
  | mapUpdate t m k x => exact eff_mapUpdate hT t m k x ho h hD hρ hres hc hlen
  | _ => simp only at hres'; cases hres'

end
end Go.AM

namespace Go.AM

section
variable {P : Program} {T : Tab}

theorem PRd.reloc1 {w : World} {X X' : Nat → Prop} {ρ ρ' : Places} {u : Value} {x : PV} (f : Nat → Nat) (h : PRd w X ρ u x) (hX : ∀ b, b < w.heap.size → X' b → X b) (hρ : ∀ (j : Nat) p, ρ[j]? = some (some p) → ρ'[f j]? = some (some p))
    (h1 : u.oneCell' = true) : PRd w X' ρ' u (reloc1 f x) := by
  cases h with
  | any => exact .any _
  | fv _ _ h => exact .fv _ _ (h.mono (Same.refl X w) hX)
  | nilsl => exact .nilsl
  | clip a n xs h => exact .clip a n xs (h.mono (Same.refl X w) hX)
  | ptr id i off g p hp hg => exact .ptr (f id) i off g p (hρ _ _ hp) hg
  | lsl0 id p hp hg => exact .lsl0 (f id) p (hρ _ _ hp) hg
  | lsl id off len o g p hp hg hl ho => exact .lsl (f id) off len o g p (hρ _ _ hp) hg hl ho
  | agg => cases h1
  | tup => cases h1
  | tab id g p hp hg => exact .tab (f id) g p (hρ _ _ hp) hg

theorem PRd.reloc {w : World} {X X' : Nat → Prop} {ρ ρ' : Places} {u : Value} {x : PV} (f : Nat → Nat) (h : PRd w X ρ u x) (hX : ∀ b, b < w.heap.size → X' b → X b) (hρ : ∀ (j : Nat) p, ρ[j]? = some (some p) → ρ'[f j]? = some (some p)) :
    PRd w X' ρ' u (reloc f x) := by
  have hagg : ∀ (us : Array Value) (cs : List PV), us.size = cs.length → (∀ (i : Nat) u, us[i]? = some u → u.oneCell' = true) → (∀ (i : Nat) u c, us[i]? = some u → cs[i]? = some c → PRd w X ρ u c) → PRd w X' ρ' (.agg us) (.agg (cs.map (AM.reloc1 f))) := by
    intro us cs hn h1 hr
    refine .agg us _ (by simpa using hn) h1 (fun i u y hu hy => ?_)
    rw [List.getElem?_map, Option.map_eq_some_iff] at hy
    obtain ⟨z, hz, rfl⟩ := hy
    exact (hr i u z hu hz).reloc1 f hX hρ (h1 i u hu)
  cases h with
  | any => exact .any _
  | fv _ _ h => exact .fv _ _ (h.mono (Same.refl X w) hX)
  | nilsl => exact .nilsl
  | clip a n xs h => exact .clip a n xs (h.mono (Same.refl X w) hX)
  | ptr id i off g p hp hg => exact .ptr (f id) i off g p (hρ _ _ hp) hg
  | lsl0 id p hp hg => exact .lsl0 (f id) p (hρ _ _ hp) hg
  | lsl id off len o g p hp hg hl ho => exact .lsl (f id) off len o g p (hρ _ _ hp) hg hl ho
  | agg us cs hn h1 hr => exact hagg us cs hn h1 hr
  | tup us cs hn hr =>
    refine .tup us _ (by simpa using hn) (fun i u y hu hy => ?_)
    rw [List.getElem?_map, Option.map_eq_some_iff] at hy
    obtain ⟨z, hz, rfl⟩ := hy
    have hz2 := hr i u z hu hz
    cases hz2 with
    | any => exact .any _
    | fv _ _ h => exact .fv _ _ (h.mono (Same.refl X w) hX)
    | nilsl => exact .nilsl
    | clip a n xs h => exact .clip a n xs (h.mono (Same.refl X w) hX)
    | ptr id i off g p hp hg => exact .ptr (f id) i off g p (hρ _ _ hp) hg
    | lsl0 id p hp hg => exact .lsl0 (f id) p (hρ _ _ hp) hg
    | lsl id off len o g p hp hg hl ho => exact .lsl (f id) off len o g p (hρ _ _ hp) hg hl ho
    | agg us cs hn h1 hr => exact hagg us cs hn h1 hr
    | tup us cs hn hr => exact .any _
    | tab id g p hp hg => exact .tab (f id) g p (hρ _ _ hp) hg
  | tab id g p hp hg => exact .tab (f id) g p (hρ _ _ hp) hg

theorem ObRd.keep {w w' : World} {X X' : Nat → Prop} {ρ ρ' : Places} {p : Place} {o : Ob} (h : ObRd w X ρ p o) (hs : Same X w w') (hX : ∀ b, b < w.heap.size → X' b → X b) (hρ : ρ.Le ρ')
    (hblk : o.alive → ∀ g, p.b = some g → g < w.heap.size → w'.heap[g]? = w.heap[g]? ∧ (X' g ↔ X g)) : ObRd w' X' ρ' p o := by
  cases o with
  | dead => trivial
  | row rw xs =>
    obtain ⟨⟨hpos, hlen, us, hus, hc⟩, hf⟩ := h
    refine ⟨⟨hpos, hlen, us, ?_, fun i j x y hx hy => ?_⟩, fun g hg => ?_⟩
    · refine ⟨hus.1, ?_⟩
      rcases hus.2 with h1 | ⟨g, cap, cur, h1, h2, h3, h4⟩
      · exact .inl h1
      · refine .inr ⟨g, cap, cur, h1, h2, ?_, h4⟩
        have hpb : p.b = some g := by
          unfold Place.val at h1
          cases hb : p.b with
          | none => rw [hb] at h1; cases h1
          | some g' => rw [hb] at h1; cases h1; rfl
        rw [(hblk trivial g hpb (Array.getElem?_eq_some_iff.1 h3).1).1]
        exact h3
    · obtain ⟨u, hu, hfu⟩ := hc i j x y hx hy
      exact ⟨u, hu, hfu.mono hs hX⟩
    · have hlt := ownsRow_block hus hg
      rw [(hblk trivial g hg hlt).2]
      exact hf g hg
  | box rw cs =>
    obtain ⟨⟨g, us, hg, hh, hsz, h1, hc⟩, hf⟩ := h
    have hlt : g < w.heap.size := (Array.getElem?_eq_some_iff.1 hh).1
    refine ⟨⟨g, us, hg, by rw [(hblk trivial g hg hlt).1]; exact hh, hsz, h1, fun i u x hu hx => (hc i u x hu hx).mono hs hX hρ⟩, fun g2 hg2 => ?_⟩
    rw [hg] at hg2; cases hg2
    rw [(hblk trivial g hg hlt).2]
    exact hf g hg
  | tab n es =>
    obtain ⟨⟨hks, g, clock, vs, hg, hh, hsz, hnd, hc⟩, hf⟩ := h
    have hlt : g < w.heap.size := (Array.getElem?_eq_some_iff.1 hh).1
    refine ⟨⟨hks, g, clock, vs, hg, by rw [(hblk trivial g hg hlt).1]; exact hh, hsz, hnd, fun i e k v he hv => ?_⟩, fun g2 hg2 => ?_⟩
    · obtain ⟨a1, a2, a3⟩ := hc i e k v he hv
      exact ⟨a1, a2, a3.mono hs hX (Places.Le.refl [])⟩
    · rw [hg] at hg2; cases hg2
      exact (hblk trivial g hg hlt).2.2 (hf g hg)

theorem Ob.alive_of_rw {o : Ob} (h : o.rw = true) : o.alive := by
  cases o with
  | dead => cases h
  | row => trivial
  | box => trivial
  | tab => trivial

theorem relocOb_rw (f : Nat → Nat) (o : Ob) : (relocOb f o).rw = o.rw := by cases o <;> rfl

theorem ObRd.moved {w : World} {X X' : Nat → Prop} {ρ ρ' : Places} {p : Place} {o : Ob} (f : Nat → Nat) (h : ObRd w X ρ p o) (hX : ∀ b, b < w.heap.size → X' b → X b) (hρ : ∀ (j : Nat) p, ρ[j]? = some (some p) → ρ'[f j]? = some (some p))
    (hblk : o.alive → ∀ g, p.b = some g → (X' g ↔ X g)) : ObRd w X' ρ' p (relocOb f o) := by
  cases o with
  | dead => trivial
  | row rw xs =>
    obtain ⟨⟨hpos, hlen, us, hus, hc⟩, hf⟩ := h
    refine ⟨⟨hpos, hlen, us, hus, fun i j x y hx hy => ?_⟩, fun g hg => ?_⟩
    · obtain ⟨u, hu, hfu⟩ := hc i j x y hx hy
      exact ⟨u, hu, hfu.mono (Same.refl X w) hX⟩
    · rw [hblk trivial g hg]; exact hf g hg
  | box rw cs =>
    obtain ⟨⟨g, us, hg, hh, hsz, h1, hc⟩, hf⟩ := h
    refine ⟨⟨g, us, hg, hh, by simpa using hsz, h1, fun i u x hu hx => ?_⟩, fun g2 hg2 => ?_⟩
    · rw [List.getElem?_map, Option.map_eq_some_iff] at hx
      obtain ⟨y, hy, rfl⟩ := hx
      exact (hc i u y hu hy).reloc1 f hX hρ (h1 i u hu)
    · rw [hblk trivial g2 hg2]; exact hf g2 hg2
  | tab n es =>
    obtain ⟨⟨hks, g, clock, vs, hg, hh, hsz, hnd, hc⟩, hf⟩ := h
    refine ⟨⟨hks, g, clock, vs, hg, hh, hsz, hnd, fun i e k v he hv => ?_⟩, fun g2 hg2 => (hblk trivial g2 hg2).2 (hf g2 hg2)⟩
    obtain ⟨a1, a2, a3⟩ := hc i e k v he hv
    exact ⟨a1, a2, a3.mono (Same.refl X w) hX (Places.Le.refl [])⟩

theorem call_core {c c1 : Ctx} {w w' : World} {X1 X2 : Nat → Prop} {ρ ρ2 ρ3 : Places} {F F' H1 : List Ob} (f : Nat → Nat) (hc1 : c1.w0 = w) (h : HRd c w X1 ρ F) (hk1 : Keeps c1 w') (h2 : HRd c1 w' X2 ρ2 H1)
    (hXo : ∀ b, X1 b → ¬ c1.M b → c1.Xo b) (hMX : ∀ b, c1.M b → X1 b) (hMown : ∀ b, c1.M b → (c.w0.heap.size ≤ b ∨ c.M b) ∧ b < w.heap.size)
    (hold : ∀ (i : Nat) p o g, (∀ j, j < H1.length → f j ≠ i) → ρ[i]? = some (some p) → F[i]? = some o → o.alive → p.b = some g → ¬ c1.M g)
    (hnew : ∀ (j : Nat) p g, ρ2[j]? = some (some p) → p.b = some g → w.heap.size ≤ g ∨ c1.M g)
    (hlen : ρ3.length = F'.length) (hF1 : ∀ (j : Nat) o, H1[j]? = some o → F'[f j]? = some (relocOb f o)) (hF2 : ∀ i, (∀ j, j < H1.length → f j ≠ i) → F'[i]? = F[i]?)
    (hρ1 : ∀ j, j < H1.length → ρ3[f j]? = ρ2[j]?) (hρ2 : ∀ i, (∀ j, j < H1.length → f j ≠ i) → ρ3[i]? = ρ[i]?) (hle : ρ.Le ρ3) :
    ∃ X3, HRd c w' X3 ρ3 F' ∧ Stp c w w' X1 X3 ρ ρ3 ∧ ∀ u x, PRd w' X2 ρ2 u x → PRd w' X3 ρ3 u (reloc f x) := by
  subst hc1
  let X3 (b : Nat) : Prop := (b < c1.w0.heap.size ∧ X1 b ∧ ¬ c1.M b) ∨ ((c1.M b ∨ c1.w0.heap.size ≤ b) ∧ X2 b)
  have hsame : Same X1 c1.w0 w' := ⟨hk1.size, fun b hb hx => hk1.block b hb (fun hm => hx (hMX b hm))⟩
  have hsub1 : ∀ b, b < c1.w0.heap.size → X3 b → X1 b := by
    intro b hb hx
    rcases hx with ⟨_, hx, _⟩ | ⟨hm | hm, _⟩
    · exact hx
    · exact hMX b hm
    · omega
  have hsub2 : ∀ b, X3 b → X2 b := by
    intro b hx
    rcases hx with ⟨_, hx, hm⟩ | ⟨_, hx⟩
    · exact h2.xo b (hXo b hx hm)
    · exact hx
  have hρ21 : ∀ (j : Nat) p, ρ2[j]? = some (some p) → ρ3[f j]? = some (some p) := by
    intro j p hj
    rw [hρ1 j (by rw [← h2.len]; exact (List.getElem?_eq_some_iff.1 hj).1)]
    exact hj
  have hcase : ∀ i, (∃ j, j < H1.length ∧ f j = i) ∨ (∀ j, j < H1.length → f j ≠ i) := by
    intro i
    by_cases he : ∃ j, j < H1.length ∧ f j = i
    · exact .inl he
    · exact .inr fun j hj hf => he ⟨j, hj, hf⟩
  have hfl : ∀ (j : Nat) p g, ρ2[j]? = some (some p) → p.b = some g → (X3 g ↔ X2 g) := by
    intro j p g hp hg
    constructor
    · exact hsub2 g
    · intro hx
      rcases hnew j p g hp hg with h3 | h3
      · exact .inr ⟨.inr h3, hx⟩
      · exact .inr ⟨.inl h3, hx⟩
  have hob1 : ∀ (j : Nat) o, H1[j]? = some o → ∀ o', F'[f j]? = some o' → o' = relocOb f o := fun j o hj o' ho' => by
    rw [hF1 j o hj] at ho'; cases ho'; rfl
  have get1 : ∀ j, j < H1.length → ∃ o, H1[j]? = some o := fun j hj => ⟨H1[j], by simp [hj]⟩
  refine ⟨X3, ⟨hlen, ?_, ?_, ?_, ?_, ?_, Nat.le_trans h.ge hk1.size, h.base.trans hle⟩, ⟨hsame, hsub1, hle, fun hk => ?_⟩, fun u x hu => hu.reloc f (fun b _ => hsub2 b) hρ21⟩
  · intro i p o hp ho
    rcases hcase i with ⟨j, hj, rfl⟩ | hno
    · obtain ⟨o2, ho2⟩ := get1 j hj
      have := hob1 j o2 ho2 o ho
      subst this
      rw [hρ1 j hj] at hp
      exact (h2.ob j p o2 hp ho2).moved f (fun b _ => hsub2 b) hρ21 (fun _ g hg => hfl j p g hp hg)
    · rw [hρ2 i hno] at hp
      rw [hF2 i hno] at ho
      refine (h.ob i p o hp ho).keep hsame hsub1 hle (fun ha g hg hlt => ?_)
      have hm := hold i p o g hno hp ho ha hg
      exact ⟨hk1.block g hlt hm, ⟨hsub1 g hlt, fun hx => .inl ⟨hlt, hx, hm⟩⟩⟩
  · intro i k p q o r g hp hq ho hr ho1 hr1 hb1 hb2
    rcases hcase i with ⟨j, hj, rfl⟩ | hno
    · obtain ⟨o2, ho2⟩ := get1 j hj
      have := hob1 j o2 ho2 o ho
      subst this
      rw [hρ1 j hj] at hp
      rw [relocOb_rw] at ho1
      rcases hcase k with ⟨j', hj', rfl⟩ | hno'
      · obtain ⟨r2, hr2⟩ := get1 j' hj'
        have := hob1 j' r2 hr2 r hr
        subst this
        rw [hρ1 j' hj'] at hq
        rw [relocOb_rw] at hr1
        rw [h2.inj j j' p q o2 r2 g hp hq ho2 hr2 ho1 hr1 hb1 hb2]
      · rw [hρ2 k hno'] at hq
        rw [hF2 k hno'] at hr
        have hra : r.alive := Ob.alive_of_rw hr1
        have h3 := hold k q r g hno' hq hr hra hb2
        have h4 := (h.own k q r g hq hr hr1 hb2).2
        rcases hnew j p g hp hb1 with h5 | h5
        · omega
        · exact absurd h5 h3
    · rw [hρ2 i hno] at hp
      rw [hF2 i hno] at ho
      have hoa : o.alive := Ob.alive_of_rw ho1
      rcases hcase k with ⟨j', hj', rfl⟩ | hno'
      · obtain ⟨r2, hr2⟩ := get1 j' hj'
        rw [hρ1 j' hj'] at hq
        have h3 := hold i p o g hno hp ho hoa hb1
        have h4 := (h.own i p o g hp ho ho1 hb1).2
        rcases hnew j' q g hq hb2 with h5 | h5
        · omega
        · exact absurd h5 h3
      · rw [hρ2 k hno'] at hq
        rw [hF2 k hno'] at hr
        exact h.inj i k p q o r g hp hq ho hr ho1 hr1 hb1 hb2
  · intro i p o g hp ho ho1 hb1
    rcases hcase i with ⟨j, hj, rfl⟩ | hno
    · obtain ⟨o2, ho2⟩ := get1 j hj
      have := hob1 j o2 ho2 o ho
      subst this
      rw [hρ1 j hj] at hp
      rw [relocOb_rw] at ho1
      have h3 := h2.own j p o2 g hp ho2 ho1 hb1
      refine ⟨?_, h3.2⟩
      rcases hnew j p g hp hb1 with h5 | h5
      · left; have := h.ge; omega
      · exact (hMown g h5).1
    · rw [hρ2 i hno] at hp
      rw [hF2 i hno] at ho
      have h3 := h.own i p o g hp ho ho1 hb1
      exact ⟨h3.1, Nat.lt_of_lt_of_le h3.2 hk1.size⟩
  · intro b hb
    have h3 := c.hxo b hb
    refine .inl ⟨h.xlt b (h.xo b hb), h.xo b hb, fun hm => ?_⟩
    rcases (hMown b hm).1 with h4 | h4
    · omega
    · exact h3.2 h4
  · intro b hb
    rcases hb with ⟨hb, _⟩ | ⟨_, hb⟩
    · exact Nat.lt_of_lt_of_le hb hk1.size
    · exact h2.xlt b hb
  · refine ⟨hk1.os.trans hk.os, hk1.tape.trans hk.tape, hk1.output.trans hk.output, Nat.le_trans hk.size hk1.size, fun b hb hm => ?_⟩
    rw [hk1.block b (Nat.lt_of_lt_of_le hb hk.size) (fun hm1 => ?_)]
    · exact hk.block b hb hm
    · rcases (hMown b hm1).1 with h4 | h4
      · omega
      · exact hm h4

theorem ObRd.rwX {w : World} {X : Nat → Prop} {ρ : Places} {p : Place} {o : Ob} (h : ObRd w X ρ p o) (hr : o.rw = true) {g : Nat} (hg : p.b = some g) : X g := by
  cases o with
  | dead => cases hr
  | row rw xs => exact (h.2 g hg).1 hr
  | box rw cs => exact (h.2 g hg).1 hr
  | tab n es => exact h.2 g hg

theorem ObRd.roX {w : World} {X : Nat → Prop} {ρ : Places} {p : Place} {o : Ob} (h : ObRd w X ρ p o) (ha : o.alive) (hr : o.rw = false) {g : Nat} (hg : p.b = some g) : ¬ X g := by
  intro hx
  cases o with
  | dead => exact ha
  | row rw xs => have := (h.2 g hg).2 hx; simp only [Ob.rw] at hr; rw [hr] at this; cases this
  | box rw cs => have := (h.2 g hg).2 hx; simp only [Ob.rw] at hr; rw [hr] at this; cases this
  | tab n es => cases hr

theorem ObRd.closed {w : World} {X : Nat → Prop} {ρ ρ' : Places} {p : Place} {o : Ob} (h : ObRd w X ρ p o) (hc : o.closed) : ObRd w X ρ' p o := by
  cases o with
  | dead => trivial
  | row rw xs => exact h
  | tab n es => exact h
  | box rw cs =>
    obtain ⟨⟨g, us, hg, hh, hs, h1, hr⟩, hf⟩ := h
    refine ⟨⟨g, us, hg, hh, hs, h1, fun i u x hu hx => ?_⟩, hf⟩
    obtain ⟨y, rfl⟩ := hc x (List.mem_of_getElem? hx)
    cases hr i u _ hu hx with
    | fv _ _ h => exact .fv _ _ h

theorem fzB_other {H : List Ob} {id : Nat} {x : PV} (h : x.refsTo id = false) : fzB H id x = fzA H x ∧ idsB H id x = idsA H x := by
  cases x <;> simp only [PV.refsTo, beq_eq_false_iff_ne, ne_eq] at h <;> simp [fzB, idsB, h]

theorem fzBs_get {H : List Ob} {id : Nat} : ∀ {xs ys : List PV}, fzBs H id xs = some ys → ys.length = xs.length ∧ ∀ (i : Nat) y, ys[i]? = some y → ∃ x, xs[i]? = some x ∧ fzB H id x = some y
  | [], ys, h => by simp [fzBs] at h; subst h; simp
  | x :: xs, ys, h => by
    simp only [fzBs] at h
    split at h
    · rename_i y ys' h1 h2
      cases h
      obtain ⟨hl, hg⟩ := fzBs_get h2
      refine ⟨by simp [hl], fun i z hz => ?_⟩
      cases i with
      | zero => simp at hz; subst hz; exact ⟨x, rfl, h1⟩
      | succ i => simp at hz ⊢; exact hg i z hz
    · cases h

theorem fzBs_ids {H : List Ob} {id : Nat} : ∀ {xs ys : List PV}, fzBs H id xs = some ys → ∀ j ∈ xs.flatMap (idsB H id), j < H.length
  | [], ys, h => by simp
  | x :: xs, ys, h => by
    simp only [fzBs] at h
    split at h
    · rename_i y ys' h1 h2
      intro j hj
      rw [List.flatMap_cons, List.mem_append] at hj
      rcases hj with hj | hj
      · cases hr : x.refsTo id with
        | false =>
          obtain ⟨e1, e2⟩ := fzB_other (H := H) hr
          rw [e1] at h1; rw [e2] at hj
          exact fzA_ids h1 j hj
        | true => cases x <;> simp [PV.refsTo] at hr <;> simp [idsB, hr] at hj
      · exact fzBs_ids h2 j hj
    · cases h

theorem fzBs_rd {c : Ctx} {w : World} {X X' : Nat → Prop} {ρ : Places} {F H : List Ob} (h : HRd c w X ρ F) (hH : ∀ (j : Nat) o, H[j]? = some o → F[j]? = some o) {vs : Array Value} {xs ys : List PV} {id : Nat} {p : Place} (hp : ρ[id]? = some (some p))
    (hv : PRds w X ρ vs xs) (hf : fzBs H id xs = some ys) (hX : ∀ b, X' b → X b)
    (hn : ∀ j ∈ xs.flatMap (idsB H id), ∀ p o g, ρ[j]? = some (some p) → F[j]? = some o → o.alive → p.b = some g → ¬ X' g) : PRds w X' [some p] vs ys := by
  obtain ⟨hl, hg⟩ := fzBs_get hf
  refine ⟨by rw [hl]; exact hv.1, fun i v y hi hy => ?_⟩
  obtain ⟨x, hx, hfx⟩ := hg i y hy
  have hvx := hv.2 i v x hi hx
  cases hr : x.refsTo id with
  | false =>
    obtain ⟨e1, e2⟩ := fzB_other (H := H) hr
    rw [e1] at hfx
    refine fzA_rd h hH [some p] hvx hfx hX (fun k hk => hn k ?_)
    rw [List.mem_flatMap]
    exact ⟨x, List.mem_of_getElem? hx, by rw [e2]; exact hk⟩
  | true =>
    cases hvx with
    | ptr j i off g q hq hg =>
      simp only [PV.refsTo, beq_iff_eq] at hr
      subst hr
      rw [hp] at hq; cases hq
      simp only [fzB, if_true, Option.some.injEq] at hfx
      subst hfx
      exact .ptr 0 i off g p rfl hg
    | lsl0 j q hq hg =>
      simp only [PV.refsTo, beq_iff_eq] at hr
      subst hr
      rw [hp] at hq; cases hq
      simp only [fzB, if_true, Option.some.injEq] at hfx
      subst hfx
      exact .lsl0 0 p rfl hg
    | lsl j off len o g q hq hg hl ho =>
      simp only [PV.refsTo, beq_iff_eq] at hr
      subst hr
      rw [hp] at hq; cases hq
      simp only [fzB, if_true, Option.some.injEq] at hfx
      subst hfx
      exact .lsl 0 off len o g p rfl hg hl ho
    | _ => simp [PV.refsTo] at hr

theorem call_sound {c : Ctx} {w : World} {X : Nat → Prop} {ρ : Places} {H D R : List Ob} {k : FuncId} {args : List PV} {vs : Array Value} {v : PV} {H' : List Ob} (h : HRd c w X ρ (H ++ (D ++ R)))
    (hD : ∀ id, H.length ≤ id → id < H.length + D.length → ρ[id]? = some none) (hvs : PRds w X ρ vs args) (hcr : CallRel P H k args v H') (hlen : H'.length = H.length + D.length) :
    Goes P k ∧ Calls P k vs w fun e w' => ∃ u X' ρ', e = .returned u ∧ Stp c w w' X X' ρ ρ' ∧ w.drawn ≤ w'.drawn ∧ HRd c w' X' ρ' (H' ++ R) ∧ PRd w' X' ρ' u v ∧ ∀ id, (id < H.length ∨ H.length + D.length ≤ id) → ρ'[id]? = ρ[id]? := by
  cases hcr with
  | pure args' obs res hf hd =>
    obtain ⟨hgo, hd⟩ := hd
    refine ⟨hgo, ?_⟩
    unfold shutAs at hlen ⊢
    rw [List.length_append, shutIds_length, List.length_map] at hlen
    have hDl : D.length = obs.length := by omega
    have hids := fzAs_ids hf
    obtain ⟨X1, h1, hs1, hn1⟩ := h.shutIds (args.flatMap (idsA H))
    rw [shutIds_append _ hids] at h1
    have hSl : (shutIds (args.flatMap (idsA H)) H).length = H.length := shutIds_length _ _
    generalize hS : shutIds (args.flatMap (idsA H)) H = S at *
    have hargs : PRds w X1 [] vs args' := fzAs_rd h look_append [] hvs hf hs1 hn1
    let c1 : Ctx := ⟨w, fun _ => False, X1, [], fun b hb => ⟨h1.xlt b hb, fun hm => hm⟩⟩
    have h01 : HRd c1 w X1 [] [] := ⟨rfl, by simp, by simp, by simp, fun b hb => hb, h1.xlt, Nat.le_refl _, Places.Le.refl _⟩
    refine (hd c1 X1 [] vs h01 (fun b hb => hb.elim) hargs).mono ?_
    rintro e w' ⟨u, X2, ρ2, rfl, hk1, h2, hu, _, hfresh⟩
    have hl2 : ρ2.length = obs.length := h2.len
    have hl1 : ρ.length = H.length + (D.length + R.length) := by rw [h1.len]; simp [hSl]
    let ρ3 : Places := ρ.take H.length ++ ρ2 ++ ρ.drop (H.length + obs.length)
    have hg3 : ∀ i, ρ3[i]? = if i < H.length then ρ[i]? else if i < H.length + obs.length then ρ2[i - H.length]? else ρ[i]? := by
      intro i
      have := splice_get (l := ρ) (new := ρ2) (off := H.length) (by omega) i
      simp only [splice, hl2] at this
      exact this
    have hF : ∀ i, ((S ++ obs.map (relocOb (H.length + ·))) ++ R)[i]? = if i < H.length then (S ++ (D ++ R))[i]? else if i < H.length + obs.length then (obs.map (relocOb (H.length + ·)))[i - H.length]? else (S ++ (D ++ R))[i]? := by
      intro i
      by_cases hi : i < H.length
      · rw [if_pos hi, List.append_assoc, List.getElem?_append_left (by omega), List.getElem?_append_left (by omega)]
      · rw [if_neg hi]
        by_cases hi2 : i < H.length + obs.length
        · rw [if_pos hi2, List.append_assoc, List.getElem?_append_right (by omega), List.getElem?_append_left (by simp; omega), hSl]
        · rw [if_neg hi2, List.append_assoc, List.getElem?_append_right (by omega), List.getElem?_append_right (by simp; omega), List.getElem?_append_right (by omega), List.getElem?_append_right (by omega)]
          congr 1
          simp
          omega
    have hout : ∀ i, (∀ j, j < obs.length → H.length + j ≠ i) → i < H.length ∨ H.length + obs.length ≤ i := by
      intro i hi
      by_cases h3 : i < H.length
      · exact .inl h3
      · right
        apply Nat.le_of_not_lt
        intro h4
        exact hi (i - H.length) (by omega) (by omega)
    have hle : ρ.Le ρ3 := by
      intro i p hp
      rw [hg3]
      by_cases hi : i < H.length
      · rw [if_pos hi]; exact hp
      · rw [if_neg hi]
        by_cases hi2 : i < H.length + obs.length
        · rw [hD i (by omega) (by omega)] at hp; cases hp
        · rw [if_neg hi2]; exact hp
    obtain ⟨X3, h3, hs3, hr3⟩ := call_core (c := c) (c1 := c1) (w := w) (w' := w') (X1 := X1) (X2 := X2) (ρ := ρ) (ρ2 := ρ2) (ρ3 := ρ3) (F := S ++ (D ++ R)) (F' := (S ++ obs.map (relocOb (H.length + ·))) ++ R) (H1 := obs) (H.length + ·) rfl h1 hk1 h2
      (fun b hb _ => hb) (fun b hb => hb.elim) (fun b hb => hb.elim) (fun i p o g _ _ _ _ _ hm => hm) (fun j p g hp hg => .inl (hfresh j p (Nat.zero_le _) hp g hg))
      (by simp [ρ3, hl2, hSl, hl1]; omega)
      (fun j o hj => by
        have hjl := (List.getElem?_eq_some_iff.1 hj).1
        rw [hF, if_neg (by omega), if_pos (by omega), Nat.add_sub_cancel_left, List.getElem?_map, hj]; rfl)
      (fun i hi => by
        rw [hF]
        rcases hout i hi with h5 | h5
        · rw [if_pos h5]
        · rw [if_neg (by omega), if_neg (by omega)])
      (fun j hj => by rw [hg3, if_neg (by omega), if_pos (by omega), Nat.add_sub_cancel_left])
      (fun i hi => by
        rw [hg3]
        rcases hout i hi with h5 | h5
        · rw [if_pos h5]
        · rw [if_neg (by omega), if_neg (by omega)]) hle
    refine ⟨u, X3, ρ3, rfl, (Stp.same_world hs1).trans hs3, hk1.drawn, h3, hr3 u res hu, fun id hid => ?_⟩
    rw [hg3]
    rcases hid with h5 | h5
    · rw [if_pos h5]
    · rw [if_neg (by omega), if_neg (by omega)]
  | lend id args' ob ob' obs res ho hrw hcl href hf hs hd =>
    obtain ⟨hgo, hd⟩ := hd
    refine ⟨hgo, ?_⟩
    unfold shutBs at hlen hs ⊢
    rw [List.length_append, List.length_set, shutIds_length, List.length_map] at hlen
    have hDl : D.length = obs.length := by omega
    have hidl : id < H.length := (List.getElem?_eq_some_iff.1 ho).1
    obtain ⟨p, hp⟩ : ∃ p, ρ[id]? = some (some p) := by
      rw [List.any_eq_true] at href
      obtain ⟨a, ha, har⟩ := href
      obtain ⟨i, hi⟩ := List.getElem?_of_mem ha
      have hlt : i < vs.size := by rw [hvs.1]; exact (List.getElem?_eq_some_iff.1 hi).1
      have hpa := hvs.2 i vs[i] a (by simp [hlt]) hi
      generalize vs[i] = ui at hpa
      cases hpa with
      | ptr j i off g q hq hg => simp only [PV.refsTo, beq_iff_eq] at har; subst har; exact ⟨q, hq⟩
      | lsl0 j q hq hg => simp only [PV.refsTo, beq_iff_eq] at har; subst har; exact ⟨q, hq⟩
      | lsl j off len o g q hq hg hl ho => simp only [PV.refsTo, beq_iff_eq] at har; subst har; exact ⟨q, hq⟩
      | _ => simp [PV.refsTo] at har
    have hids : ∀ j ∈ args.flatMap (idsB H id), j < H.length := fzBs_ids hf
    obtain ⟨X1, h1, hs1, hn1⟩ := h.shutIds (args.flatMap (idsB H id))
    rw [shutIds_append _ hids] at h1
    have hSl : (shutIds (args.flatMap (idsB H id)) H).length = H.length := shutIds_length _ _
    generalize hS : shutIds (args.flatMap (idsB H id)) H = S at *
    have hSid : (S ++ (D ++ R))[id]? = some ob := by rw [List.getElem?_append_left (by omega)]; exact hs
    have hob := h1.ob id p ob hp hSid
    have hXp : ∀ g, p.b = some g → X1 g := fun g hg => hob.rwX hrw hg
    let c1 : Ctx := ⟨w, fun b => p.b = some b, fun b => X1 b ∧ p.b ≠ some b, [], fun b hb => ⟨h1.xlt b hb.1, hb.2⟩⟩
    have h01 : HRd c1 w X1 [some p] [ob] := by
      refine ⟨rfl, ?_, ?_, ?_, fun b hb => hb.1, h1.xlt, Nat.le_refl _, fun i p hp => by simp [c1] at hp⟩
      · intro i q o hq ho2
        cases i with
        | zero =>
          simp only [List.getElem?_cons_zero, Option.some.injEq] at hq ho2
          subst hq; subst ho2
          exact hob.closed hcl
        | succ i => simp at hq
      · intro i j q1 q2 o1 o2 g hq1 hq2 ho1 ho2 _ _ _ _
        cases i with
        | zero => cases j with
          | zero => rfl
          | succ j => simp at hq2
        | succ i => simp at hq1
      · intro i q o g hq ho2 ho3 hg
        cases i with
        | zero =>
          simp only [List.getElem?_cons_zero, Option.some.injEq] at hq
          subst hq
          exact ⟨.inr hg, (h1.own id _ ob g hp hSid hrw hg).2⟩
        | succ i => simp at hq
    have hargs : PRds w X1 [some p] vs args' := fzBs_rd h look_append hp hvs hf hs1 hn1
    refine (hd c1 X1 [some p] vs h01 (fun b hb => ⟨0, p, rfl, hb⟩) hargs).mono ?_
    rintro e w' ⟨u, X2, ρ2, rfl, hk1, h2, hu, hle0, hfresh⟩
    have hl2 : ρ2.length = obs.length + 1 := by simpa using h2.len
    have hρ20 : ρ2[0]? = some (some p) := hle0 0 p rfl
    have hl1 : ρ.length = H.length + (D.length + R.length) := by rw [h1.len]; simp [hSl]
    let ρ3 : Places := ρ.take H.length ++ ρ2.drop 1 ++ ρ.drop (H.length + obs.length)
    have hg3 : ∀ i, ρ3[i]? = if i < H.length then ρ[i]? else if i < H.length + obs.length then ρ2[i - H.length + 1]? else ρ[i]? := by
      intro i
      have hdl : (ρ2.drop 1).length = obs.length := by simp [hl2]
      have := splice_get (l := ρ) (new := ρ2.drop 1) (off := H.length) (by omega) i
      simp only [splice, hdl] at this
      rw [this]
      simp only [List.getElem?_drop, Nat.add_comm 1]
    have hF : ∀ i, ((S.set id (relocOb (lent id H.length) ob') ++ obs.map (relocOb (lent id H.length))) ++ R)[i]? = if i = id then some (relocOb (lent id H.length) ob') else if i < H.length then (S ++ (D ++ R))[i]? else
        if i < H.length + obs.length then (obs.map (relocOb (lent id H.length)))[i - H.length]? else (S ++ (D ++ R))[i]? := by
      intro i
      by_cases hi0 : i = id
      · subst hi0
        rw [if_pos rfl, List.append_assoc, List.getElem?_append_left (by simp; omega), List.getElem?_set_self (by omega)]
      · rw [if_neg hi0]
        by_cases hi : i < H.length
        · rw [if_pos hi, List.append_assoc, List.getElem?_append_left (by simp; omega), List.getElem?_set_ne (Ne.symm hi0), List.getElem?_append_left (by omega)]
        · rw [if_neg hi]
          by_cases hi2 : i < H.length + obs.length
          · rw [if_pos hi2, List.append_assoc, List.getElem?_append_right (by simp; omega), List.getElem?_append_left (by simp; omega), List.length_set, hSl]
          · rw [if_neg hi2, List.append_assoc, List.getElem?_append_right (by simp; omega), List.getElem?_append_right (by simp; omega), List.getElem?_append_right (by omega), List.getElem?_append_right (by omega)]
            congr 1
            simp
            omega
    have hout : ∀ i, (∀ j, j < (ob' :: obs).length → lent id H.length j ≠ i) → i ≠ id ∧ (i < H.length ∨ H.length + obs.length ≤ i) := by
      intro i hi
      refine ⟨fun he => hi 0 (by simp) he.symm, ?_⟩
      by_cases h3 : i < H.length
      · exact .inl h3
      · right
        apply Nat.le_of_not_lt
        intro h4
        exact hi (i - H.length + 1) (by simp; omega) (by simp only [lent]; omega)
    have hle : ρ.Le ρ3 := by
      intro i q hq
      rw [hg3]
      by_cases hi : i < H.length
      · rw [if_pos hi]; exact hq
      · rw [if_neg hi]
        by_cases hi2 : i < H.length + obs.length
        · rw [hD i (by omega) (by omega)] at hq; cases hq
        · rw [if_neg hi2]; exact hq
    obtain ⟨X3, h3, hs3, hr3⟩ := call_core (c := c) (c1 := c1) (w := w) (w' := w') (X1 := X1) (X2 := X2) (ρ := ρ) (ρ2 := ρ2) (ρ3 := ρ3) (F := S ++ (D ++ R)) (F' := (S.set id (relocOb (lent id H.length) ob') ++ obs.map (relocOb (lent id H.length))) ++ R) (H1 := ob' :: obs) (lent id H.length) rfl h1 hk1 h2
      (fun b hb hm => ⟨hb, hm⟩) (fun b hb => hXp b hb) (fun b hb => h1.own id p ob b hp hSid hrw hb)
      (fun i q o g hi hq ho2 ha hg hm => by
        have hne := (hout i hi).1
        cases hro : o.rw with
        | true => exact hne (h1.inj i id q p o ob g hq hp ho2 hSid hro hrw hg hm)
        | false =>
          have hfl := h1.ob i q o hq ho2
          exact (hfl.roX ha hro hg) (hXp g hm))
      (fun j q g hq hg => by
        cases j with
        | zero => rw [hρ20] at hq; cases hq; exact .inr hg
        | succ j => exact .inl (hfresh (j + 1) q (by simp) hq g hg))
      (by simp [ρ3, hl2, hSl, hl1]; omega)
      (fun j o hj => by
        have hjl := (List.getElem?_eq_some_iff.1 hj).1
        cases j with
        | zero =>
          show ((S.set id (relocOb (lent id H.length) ob') ++ obs.map (relocOb (lent id H.length))) ++ R)[id]? = _
          rw [hF, if_pos rfl]
          simp at hj; rw [hj]
        | succ j =>
          simp only [List.length_cons] at hjl
          show ((S.set id (relocOb (lent id H.length) ob') ++ obs.map (relocOb (lent id H.length))) ++ R)[H.length + j]? = _
          rw [hF, if_neg (show ¬ (H.length + j = id) by omega), if_neg (show ¬ (H.length + j < H.length) by omega), if_pos (show H.length + j < H.length + obs.length by omega), Nat.add_sub_cancel_left, List.getElem?_map]
          simp at hj
          rw [hj]; rfl)
      (fun i hi => by
        rw [hF]
        obtain ⟨h4, h5 | h5⟩ := hout i hi
        · rw [if_neg h4, if_pos h5]
        · rw [if_neg h4, if_neg (by omega), if_neg (by omega)])
      (fun j hj => by
        cases j with
        | zero =>
          show ρ3[id]? = _
          rw [hg3, if_pos hidl, hp, hρ20]
        | succ j =>
          simp only [List.length_cons] at hj
          show ρ3[H.length + j]? = _
          rw [hg3, if_neg (by omega), if_pos (by omega), Nat.add_sub_cancel_left])
      (fun i hi => by
        rw [hg3]
        obtain ⟨h4, h5 | h5⟩ := hout i hi
        · rw [if_pos h5]
        · rw [if_neg (by omega), if_neg (by omega)]) hle
    refine ⟨u, X3, ρ3, rfl, (Stp.same_world hs1).trans hs3, hk1.drawn, h3, hr3 u res hu, fun j hj => ?_⟩
    rw [hg3]
    rcases hj with h5 | h5
    · rw [if_pos h5]
    · rw [if_neg (by omega), if_neg (by omega)]

end
end Go.AM

namespace Go.AM

section
variable {P : Program} {T : Tab}

theorem opRes_len {H : List Ob} {ρ : Operand → PV} {op : Op} {r : Res} (h : opRes T H ρ op = some r) : H.length ≤ r.heap.length := by
  unfold opRes at h
  cases op <;> simp only [Res.pure, Res.if] at h
  all_goals repeat' (split at h)
  all_goals first
    | (cases h; done)
    | (cases h; simp [shutAll, shutIds_length]; done)
    | skip
  all_goals
    rename_i hst
    cases h
    unfold storeAt at hst
    repeat' (split at hst)
    all_goals first
      | (cases hst; done)
      | (cases hst; simp [shutAll, shutIds_length])

theorem biRes_len {H : List Ob} {b : Builtin} {ts : List TypeId} {vs : List PV} {r : Res} (h : biRes T H b ts vs = some r) : H.length ≤ r.heap.length := by
  unfold biRes at h
  simp only [Res.pure] at h
  repeat' (split at h)
  all_goals first
    | (cases h; done)
    | (cases h; simp)

theorem callRel_len {H : List Ob} {k : FuncId} {args : List PV} {v : PV} {H' : List Ob} (h : CallRel P H k args v H') : H.length ≤ H'.length := by
  cases h with
  | pure => simp [shutAs, shutIds_length]
  | lend => simp [shutBs, shutIds_length]

theorem HRd.room {c : Ctx} {w : World} {X : Nat → Prop} {ρ : Places} {H : List Ob} (h : HRd c w X ρ H) (n : Nat) :
    HRd c w X (ρ ++ List.replicate n none) (H ++ (List.replicate n .dead ++ [])) ∧ ∀ id, H.length ≤ id → id < H.length + (List.replicate n Ob.dead).length → (ρ ++ List.replicate n none)[id]? = some none := by
  have h1 := h.extend (List.replicate n .dead)
  rw [List.length_replicate] at h1
  refine ⟨by simpa using h1, fun id h2 h3 => ?_⟩
  rw [List.length_replicate] at h3
  rw [List.getElem?_append_right (by rw [h.len]; exact h2), List.getElem?_replicate, if_pos (by rw [h.len]; omega)]

theorem EnvRd.mono {w : World} {X : Nat → Prop} {ρ ρ' : Places} {t : Array Value} {env : List PV} (h : EnvRd w X ρ t env) (hρ : ρ.Le ρ') : EnvRd w X ρ' t env :=
  ⟨h.1, fun i v x hv hx => (h.2 i v x hv hx).mono (Same.refl X w) (fun _ _ h => h) hρ⟩

theorem EnvRd.put {w : World} {X : Nat → Prop} {ρ : Places} {a : Act} {env : List PV} (h : EnvRd w X ρ a.tmps env) (d : Option Nat) {u : Value} {v : PV} (hu : PRd w X ρ u v) :
    EnvRd w X ρ (a.put d u).tmps (match d with | some t => env.set t v | none => env) := by
  cases d with
  | none => exact h
  | some t =>
    refine ⟨by simp [Act.put, h.1], fun i v' x hv hx => ?_⟩
    simp only [Act.put] at hv
    by_cases hi : t = i
    · subst hi
      have hlt : t < a.tmps.size := by have := (Array.getElem?_eq_some_iff.1 hv).1; simpa using this
      simp [hlt] at hv
      have hlt' : t < env.length := by rw [← h.1]; exact hlt
      rw [List.getElem?_set_self hlt'] at hx
      cases hx
      subst hv
      exact hu
    · rw [Array.getElem?_setIfInBounds_ne hi] at hv
      rw [List.getElem?_set_ne hi] at hx
      exact h.2 i v' x hv hx

def After (c : Ctx) (a : Act) (env : List PV) (d : Option Nat) (K : PV → List Ob → Prop) (next : Act → World → Prop) : Prop :=
  ∀ v H u w' X' ρ', K v H → HRd c w' X' ρ' H → EnvRd w' X' ρ' a.tmps env → PRd w' X' ρ' u v → Keeps c w' → next (a.put d u) w'

theorem run_callF {w : World} {o : Oper} {e : Operand → Value} {f : Operand} {args : Array Operand} {ts : Array TypeId} {k : FuncId} {u1 u2 : Array Value}
    (ho : o.op = .call { callee := .value f, args := args, argTypes := ts }) (hf : e f = .func (.func k) u1 u2) (hg : Goes P k) : (execOp e o).run P w = .ok (.enter k (u1 ++ args.map e ++ u2)) w := by
  obtain ⟨fn, cd, h1, h2, h3⟩ := hg
  unfold execOp
  simp only [ho, resolve, hf, Deferred.ofValue, Sem.run_bind, Sem.run_pure, Result.andThen_ok, invoke, callFunc, run_program, h1, h2, h3, Option.isNone_some]
  simp

theorem wpop_sound (hT : TabOk P T) {o : Oper} {c : Ctx} {a : Act} {w : World} {X : Nat → Prop} {ρ : Places} {st : St} {K : PV → List Ob → Prop} {next : Act → World → Prop} {Q : Exit → Act → World → Prop}
    (h : WPop P T o.op st K) (hh : HRd c w X ρ st.heap) (he : EnvRd w X ρ a.tmps st.env) (hk : Keeps c w) (hn : After c a st.env o.dst K next) : o.wp P a w next Q := by
  have fin : ∀ {r : Result Next} {v : PV} {H : List Ob} {ρ1 : Places} {lo hi : Nat}, ρ.Le ρ1 → K v H → OpOK c w X ρ1 lo hi H r v → (execOp a.eval o).run P w = r → o.wp P a w next Q := by
    intro r v H ρ1 lo hi hle hK ⟨u, w', X', ρ', hr, hs, hh', hu, _⟩ hrun
    have hdr : w.drawn ≤ w'.drawn := by
      rcases hr with hr | ⟨hr, _⟩
      · exact run_drawn _ _ (hrun.trans hr)
      · exact run_drawn _ _ (hrun.trans hr)
    have hnext := hn v H u w' X' ρ' hK hh' ((he.mono hle).stp hs) hu ⟨hs.keeps hk.toKeepsB, Nat.le_trans hk.drawn hdr⟩
    unfold Oper.wp
    rw [hrun]
    rcases hr with hr | ⟨hr, rfl⟩
    · rw [hr]; exact hnext
    · rw [hr]; exact hnext
  by_cases hcall : ∃ cl, o.op = .call cl
  · obtain ⟨cl, ho⟩ := hcall
    rw [ho] at h
    simp only [WPop, WPcall] at h
    obtain ⟨callee, args, ts⟩ := cl
    cases callee with
    | builtin b =>
      simp only at h
      split at h
      · rename_i r hr
        obtain ⟨hc, hK⟩ := h
        have hlen := biRes_len hr
        obtain ⟨h1, h2⟩ := hh.room (r.heap.length - st.heap.length)
        have hle := Places.Le.append ρ (List.replicate (r.heap.length - st.heap.length) none)
        have hok := eff_bi hT b args ts (o := o) (e := a.eval) (ρv := ev st.env) ho h1 h2 (fun x _ => eval_rd (he.mono hle) x) hr hc (by simp; omega)
        rw [List.append_nil] at hok
        exact fin hle hK hok rfl
      · exact h.elim
    | value f =>
      simp only at h
      split at h
      · rename_i k pre post hfn
        obtain ⟨v, H', hcr, hK⟩ := h
        have hlen := callRel_len hcr
        obtain ⟨h1, h2⟩ := hh.room (H'.length - st.heap.length)
        have hle := Places.Le.append ρ (List.replicate (H'.length - st.heap.length) none)
        have hf := eval_rd (he.mono hle) f
        have hfv : ∃ u1 u2, a.eval f = .func (.func k) u1 u2 ∧ PRds w X (ρ ++ List.replicate (H'.length - st.heap.length) none) u1 pre ∧ PRds w X (ρ ++ List.replicate (H'.length - st.heap.length) none) u2 post := by
          generalize ev st.env f = pf at hf hfn
          unfold fnOf at hfn
          split at hfn
          · split at hfn
            · rename_i hz
              cases hfn
              refine ⟨_, _, hf.litInv, ⟨by simp, fun i v x hv hx => ?_⟩, ⟨by simpa using hz, fun i v x hv hx => by simp at hx⟩⟩
              rw [List.getElem?_map, Option.map_eq_some_iff] at hx
              obtain ⟨y, hy, rfl⟩ := hx
              rw [Array.getElem?_toList, hv] at hy
              cases hy
              exact PRd_ofValue _
            · cases hfn
          · cases hfn
            generalize hue : a.eval f = uf at hf
            cases hf with
            | fv _ _ hfr =>
              cases hfr with
              | fn _ u1 u2 c1 c2 h1 h2 r1 r2 =>
                refine ⟨u1, u2, rfl, ⟨by simpa using h1, fun i v x hv hx => ?_⟩, ⟨by simpa using h2, fun i v x hv hx => ?_⟩⟩
                · rw [List.getElem?_map, Option.map_eq_some_iff] at hx
                  obtain ⟨y, hy, rfl⟩ := hx
                  exact .fv _ _ (r1 i v y hv hy)
                · rw [List.getElem?_map, Option.map_eq_some_iff] at hx
                  obtain ⟨y, hy, rfl⟩ := hx
                  exact .fv _ _ (r2 i v y hv hy)
          · cases hfn
        obtain ⟨u1, u2, hfe, hp1, hp2⟩ := hfv
        have happ : ∀ {va vb : Array Value} {xa xb : List PV}, PRds w X (ρ ++ List.replicate (H'.length - st.heap.length) none) va xa → PRds w X (ρ ++ List.replicate (H'.length - st.heap.length) none) vb xb →
            PRds w X (ρ ++ List.replicate (H'.length - st.heap.length) none) (va ++ vb) (xa ++ xb) := by
          intro va vb xa xb ⟨ha1, ha2⟩ ⟨hb1, hb2⟩
          refine ⟨by simp [ha1, hb1], fun i v x hv hx => ?_⟩
          by_cases hi : i < va.size
          · rw [Array.getElem?_append_left hi] at hv
            rw [List.getElem?_append_left (by rw [← ha1]; exact hi)] at hx
            exact ha2 i v x hv hx
          · rw [Array.getElem?_append_right (by omega)] at hv
            rw [List.getElem?_append_right (by rw [← ha1]; omega), ← ha1] at hx
            exact hb2 _ v x hv hx
        have hargs : PRds w X (ρ ++ List.replicate (H'.length - st.heap.length) none) (args.map a.eval) (args.toList.map (ev st.env)) := by
          refine ⟨by simp, fun i v x hv hx => ?_⟩
          simp at hv
          obtain ⟨y, hy, rfl⟩ := hv
          rw [List.getElem?_map] at hx
          simp only [Array.getElem?_toList, hy, Option.map_some, Option.some.injEq] at hx
          subst hx
          exact eval_rd (he.mono hle) y
        obtain ⟨hgo, hcalls⟩ := call_sound h1 h2 (happ (happ hp1 hargs) hp2) hcr (by simp; omega)
        unfold Oper.wp
        rw [run_callF ho hfe hgo]
        refine hcalls.mono ?_
        rintro e w' ⟨u, X', ρ', rfl, hs, hdr, hh', hu, _⟩
        rw [List.append_nil] at hh'
        exact hn v H' u w' X' ρ' hK hh' ((he.mono hle).stp hs) hu ⟨hs.keeps hk.toKeepsB, Nat.le_trans hk.drawn hdr⟩
      · exact h.elim
    | invoke r m => exact h.elim
  · have hres : ∃ r, opRes T st.heap (ev st.env) o.op = some r ∧ r.cond ∧ K r.val r.heap := by
      unfold WPop at h
      split at h
      · rename_i cl hcl; exact absurd ⟨cl, hcl⟩ hcall
      · split at h
        · rename_i r hr; exact ⟨r, hr, h.1, h.2⟩
        · exact h.elim
    obtain ⟨r, hr, hc, hK⟩ := hres
    have hlen := opRes_len hr
    obtain ⟨h1, h2⟩ := hh.room (r.heap.length - st.heap.length)
    have hle := Places.Le.append ρ (List.replicate (r.heap.length - st.heap.length) none)
    have hok := op_sound hT o.op (o := o) (e := a.eval) (ρv := ev st.env) rfl h1 h2 (fun x _ => eval_rd (he.mono hle) x) hr hc (by simp; omega)
    rw [List.append_nil] at hok
    exact fin hle hK hok rfl

theorem yields_of {w : World} {X : Nat → Prop} {ρ : Places} {ops : Array Oper} {tmps : Array Value} {env : List PV} (he : EnvRd w X ρ tmps env) {j t : Nat} (hj : (ops[j]?).bind (·.dst) = some t) :
    (∀ b, env.getD t .any = .fv (.lit (.bool b)) → yielded ops tmps j = some b) ∧ (env.getD t .any = .tup [] → yielded ops tmps j = none) := by
  unfold yielded
  rw [hj]
  simp only [Option.bind_some]
  have key : ∀ x, env.getD t .any = x → x ≠ .any → ∃ v, tmps[t]? = some v ∧ PRd w X ρ v x := by
    intro x hx hne
    rw [List.getD_eq_getElem?_getD] at hx
    cases hg : env[t]? with
    | none => rw [hg] at hx; exact absurd hx.symm hne
    | some y =>
      rw [hg] at hx
      simp only [Option.getD_some] at hx
      subst hx
      have hlt : t < tmps.size := by rw [he.1]; exact (List.getElem?_eq_some_iff.1 hg).1
      exact ⟨tmps[t], by simp [hlt], he.2 t _ _ (by simp [hlt]) hg⟩
  constructor
  · intro b hb
    obtain ⟨v, hv, hp⟩ := key _ hb (by simp)
    rw [hv, hp.litInv]
  · intro hb
    obtain ⟨v, hv, hp⟩ := key _ hb (by simp)
    rw [hv]
    cases hp; rfl

theorem wpops_sound (hT : TabOk P T) {ops : Array Oper} {Q : Exit → Act → World → Prop} {c : Ctx} {K : St → Prop} (hK : ∀ st a w, K st → SRd c st a w → Q .normal a w) :
    ∀ (l : List Oper) (k : Nat) (st : St) (a : Act) (w : World), (∀ j, l[j]? = ops[k + j]?) → WPops P T ops l st K → SRd c st a w → wpOps P ops Q (List.range' k l.length) a w
  | [], k, st, a, w, _, h, hs => hK st a w h hs
  | o :: l, k, st, a, w, hl, h, hs => by
    have h0 : ops[k]? = some o := by simpa using (hl 0).symm
    have hl' : ∀ j, l[j]? = ops[k + 1 + j]? := fun j => by
      have := hl (j + 1)
      rw [List.getElem?_cons_succ] at this
      rw [this]; congr 1; omega
    rw [List.length_cons, List.range'_succ]
    unfold wpOps
    simp only [h0]
    obtain ⟨X, ρ, hh, he, hd, hk⟩ := hs
    have run : ∀ {Kp : St → Prop}, WPop P T o.op st (fun v H => WPops P T ops l (st.upd o.dst v H) K) → o.wp P a w (wpOps P ops Q (List.range' (k + 1) l.length)) Q := by
      intro _ hw
      refine wpop_sound hT hw hh he hk (fun v H u w' X' ρ' hv hh' he' hu hk' => ?_)
      refine wpops_sound hT hK l (k + 1) _ _ _ hl' hv ⟨X', ρ', hh', he'.put o.dst hu, ?_, hk'⟩
      cases o.dst <;> exact hd
    have skip : WPops P T ops l (st.upd o.dst (.tup []) st.heap) K → wpOps P ops Q (List.range' (k + 1) l.length) (a.put o.dst undef) w := by
      intro hw
      refine wpops_sound hT hK l (k + 1) _ _ _ hl' hw ⟨X, ρ, hh, he.put o.dst (.tup #[] [] rfl (by simp)), ?_, hk⟩
      cases o.dst <;> exact hd
    unfold WPops at h
    cases hg : o.guard with
    | none =>
      simp only [hg] at h
      have hwant : Region.wanted o (yielded ops a.tmps) = true := by simp [Region.wanted, hg]
      rw [hwant]
      exact .inl (run (Kp := K) h)
    | some gd =>
      obtain ⟨j, want⟩ := gd
      simp only [hg] at h
      cases hj : (ops[j]?).bind (·.dst) with
      | none => rw [hj] at h; exact h.elim
      | some t =>
        rw [hj] at h
        simp only at h
        obtain ⟨hy1, hy2⟩ := yields_of (ops := ops) he hj
        split at h
        · rename_i b hb
          have hy := hy1 b hb
          by_cases hbw : b = want
          · have hwant : Region.wanted o (yielded ops a.tmps) = true := by simp [Region.wanted, hg, hy, hbw]
            rw [hwant]
            exact .inl (run (Kp := K) (h.1 hbw))
          · have hwant : Region.wanted o (yielded ops a.tmps) = false := by simp [Region.wanted, hg, hy, hbw]
            rw [hwant]
            exact skip (h.2 (by cases b <;> cases want <;> simp_all))
        · rename_i hb
          have hy := hy2 hb
          have hwant : Region.wanted o (yielded ops a.tmps) = false := by simp [Region.wanted, hg, hy]
          rw [hwant]
          exact skip h
        · exact h.elim

theorem any_sound (hT : TabOk P T) {ops : Array Oper} {Q : Exit → Act → World → Prop} {c : Ctx} {K : St → Prop} (hK : ∀ st a w, K st → SRd c st a w → Q .normal a w) :
    ∀ (n : Nat) (listed : Array Bool) (st : St) (a : Act) (w : World), WPany P T ops n listed st K → SRd c st a w → wpAny P .any ops Q n listed a w
  | 0, listed, st, a, w, h, hs => ⟨h.1, hK st a w h.2 hs⟩
  | n + 1, listed, st, a, w, h, hs => by
    refine ⟨fun e => hK st a w (h.1 e) hs, fun i hi => ?_⟩
    have h2 := h.2 i hi
    unfold wpOp
    cases ho : ops[i]? with
    | none => rw [ho] at h2; exact h2.elim
    | some o =>
      rw [ho] at h2
      obtain ⟨hg, hw⟩ := h2
      have hwant : Region.wanted o (yielded ops a.tmps) = true := by simp [Region.wanted, hg]
      simp only [hwant, if_true]
      obtain ⟨X, ρ, hh, he, hd, hk⟩ := hs
      refine .inl (wpop_sound hT hw hh he hk (fun v H u w' X' ρ' hv hh' he' hu hk' => ?_))
      refine any_sound hT hK n _ _ _ _ hv ⟨X', ρ', hh', he'.put o.dst hu, ?_, hk'⟩
      cases o.dst <;> exact hd

end
end Go.AM

namespace Go.AM

section
variable {P : Program} {T : Tab}

theorem wpop_gen (hT : TabOk P T) {o : Oper} {c : Ctx} {a : Act} {w : World} {X : Nat → Prop} {ρ : Places} {s : St} {D R : List Ob} {v : PV} {H' : List Ob} {next : Act → World → Prop} {Q : Exit → Act → World → Prop}
    (h : WPop P T o.op s fun v' H'' => v' = v ∧ H'' = H') (hh : HRd c w X ρ (s.heap ++ (D ++ R))) (hD : ∀ id, s.heap.length ≤ id → id < s.heap.length + D.length → ρ[id]? = some none) (hlen : H'.length = s.heap.length + D.length)
    (hops : ∀ x ∈ o.op.operands, PRd w X ρ (a.eval x) (ev s.env x))
    (hn : ∀ u w' X' ρ', Stp c w w' X X' ρ ρ' → w.drawn ≤ w'.drawn → HRd c w' X' ρ' (H' ++ R) → PRd w' X' ρ' u v → (∀ id, (id < s.heap.length ∨ s.heap.length + D.length ≤ id) → ρ'[id]? = ρ[id]?) → next (a.put o.dst u) w') : o.wp P a w next Q := by
  have fin : ∀ {r : Result Next}, OpOK c w X ρ s.heap.length (s.heap.length + D.length) (H' ++ R) r v → (execOp a.eval o).run P w = r → o.wp P a w next Q := by
    intro r ⟨u, w', X', ρ', hr, hs, hh', hu, hout⟩ hrun
    have hdr : w.drawn ≤ w'.drawn := by
      rcases hr with hr | ⟨hr, _⟩
      · exact run_drawn _ _ (hrun.trans hr)
      · exact run_drawn _ _ (hrun.trans hr)
    have hnext := hn u w' X' ρ' hs hdr hh' hu hout
    unfold Oper.wp
    rw [hrun]
    rcases hr with hr | ⟨hr, rfl⟩
    · rw [hr]; exact hnext
    · rw [hr]; exact hnext
  by_cases hcall : ∃ cl, o.op = .call cl
  · obtain ⟨cl, ho⟩ := hcall
    rw [ho] at h hops
    simp only [WPop, WPcall] at h
    obtain ⟨callee, args, ts⟩ := cl
    cases callee with
    | builtin b =>
      simp only at h
      split at h
      · rename_i r hr
        obtain ⟨hc, rfl, rfl⟩ := h
        exact fin (eff_bi hT b args ts (o := o) (e := a.eval) (ρv := ev s.env) ho hh hD (fun x hx => hops x (by simp [Op.operands, Call.operands]; exact hx)) hr hc hlen) rfl
      · exact h.elim
    | value f =>
      simp only at h
      split at h
      · rename_i k pre post hfn
        obtain ⟨v1, H1, hcr, rfl, rfl⟩ := h
        have hf := hops f (by simp [Op.operands, Call.operands])
        have hfv : ∃ u1 u2, a.eval f = .func (.func k) u1 u2 ∧ PRds w X ρ u1 pre ∧ PRds w X ρ u2 post := by
          generalize ev s.env f = pf at hf hfn
          unfold fnOf at hfn
          split at hfn
          · split at hfn
            · rename_i hz
              cases hfn
              refine ⟨_, _, hf.litInv, ⟨by simp, fun i v x hv hx => ?_⟩, ⟨by simpa using hz, fun i v x hv hx => by simp at hx⟩⟩
              rw [List.getElem?_map, Option.map_eq_some_iff] at hx
              obtain ⟨y, hy, rfl⟩ := hx
              rw [Array.getElem?_toList, hv] at hy
              cases hy
              exact PRd_ofValue _
            · cases hfn
          · cases hfn
            generalize hue : a.eval f = uf at hf
            cases hf with
            | fv _ _ hfr =>
              cases hfr with
              | fn _ u1 u2 c1 c2 h1 h2 r1 r2 =>
                refine ⟨u1, u2, rfl, ⟨by simpa using h1, fun i v x hv hx => ?_⟩, ⟨by simpa using h2, fun i v x hv hx => ?_⟩⟩
                · rw [List.getElem?_map, Option.map_eq_some_iff] at hx
                  obtain ⟨y, hy, rfl⟩ := hx
                  exact .fv _ _ (r1 i v y hv hy)
                · rw [List.getElem?_map, Option.map_eq_some_iff] at hx
                  obtain ⟨y, hy, rfl⟩ := hx
                  exact .fv _ _ (r2 i v y hv hy)
          · cases hfn
        obtain ⟨u1, u2, hfe, hp1, hp2⟩ := hfv
        have happ : ∀ {va vb : Array Value} {xa xb : List PV}, PRds w X ρ va xa → PRds w X ρ vb xb → PRds w X ρ (va ++ vb) (xa ++ xb) := by
          intro va vb xa xb ⟨ha1, ha2⟩ ⟨hb1, hb2⟩
          refine ⟨by simp [ha1, hb1], fun i v x hv hx => ?_⟩
          by_cases hi : i < va.size
          · rw [Array.getElem?_append_left hi] at hv
            rw [List.getElem?_append_left (by rw [← ha1]; exact hi)] at hx
            exact ha2 i v x hv hx
          · rw [Array.getElem?_append_right (by omega)] at hv
            rw [List.getElem?_append_right (by rw [← ha1]; omega), ← ha1] at hx
            exact hb2 _ v x hv hx
        have hargs : PRds w X ρ (args.map a.eval) (args.toList.map (ev s.env)) := by
          refine ⟨by simp, fun i v x hv hx => ?_⟩
          simp at hv
          obtain ⟨y, hy, rfl⟩ := hv
          rw [List.getElem?_map] at hx
          simp only [Array.getElem?_toList, hy, Option.map_some, Option.some.injEq] at hx
          subst hx
          exact hops y (by simp [Op.operands, Call.operands]; exact .inr (Array.mem_of_getElem? hy))
        obtain ⟨hgo, hcalls⟩ := call_sound hh hD (happ (happ hp1 hargs) hp2) hcr hlen
        unfold Oper.wp
        rw [run_callF ho hfe hgo]
        refine hcalls.mono ?_
        rintro e w' ⟨u, X', ρ', rfl, hs, hdr, hh', hu, hout⟩
        exact hn u w' X' ρ' hs hdr hh' hu hout
      · exact h.elim
    | invoke r m => exact h.elim
  · have hres : ∃ r, opRes T s.heap (ev s.env) o.op = some r ∧ r.cond ∧ r.val = v ∧ r.heap = H' := by
      unfold WPop at h
      split at h
      · rename_i cl hcl; exact absurd ⟨cl, hcl⟩ hcall
      · split at h
        · rename_i r hr; exact ⟨r, hr, h.1, h.2⟩
        · exact h.elim
    obtain ⟨r, hr, hc, rfl, rfl⟩ := hres
    exact fin (op_sound hT o.op (o := o) (e := a.eval) (ρv := ev s.env) rfl hh hD hops hr hc hlen) rfl

theorem WPop_elim {op : Op} {s : St} {K : PV → List Ob → Prop} (h : WPop P T op s K) : ∃ v H', WPop P T op s (fun v' H'' => v' = v ∧ H'' = H') ∧ K v H' := by
  unfold WPop at h
  split at h
  · rename_i c
    unfold WPcall at h
    split at h
    · rename_i b hb
      split at h
      · rename_i r hr
        exact ⟨r.val, r.heap, by simp only [WPop, WPcall, hb, hr]; exact ⟨h.1, trivial, trivial⟩, h.2⟩
      · exact h.elim
    · rename_i f hf
      split at h
      · rename_i k pre post hfn
        obtain ⟨v, H', hcr, hK⟩ := h
        exact ⟨v, H', by simp only [WPop, WPcall, hf, hfn]; exact ⟨v, H', hcr, rfl, rfl⟩, hK⟩
      · exact h.elim
    · exact h.elim
  · rename_i hnc
    split at h
    · rename_i r hr
      refine ⟨r.val, r.heap, ?_, h.2⟩
      unfold WPop
      split
      · rename_i c; exact absurd rfl (hnc c)
      · rw [hr]; exact ⟨h.1, rfl, rfl⟩
    · exact h.elim

theorem WPop_len {op : Op} {s : St} {v : PV} {H' : List Ob} (h : WPop P T op s fun v' H'' => v' = v ∧ H'' = H') : s.heap.length ≤ H'.length := by
  unfold WPop at h
  split at h
  · rename_i c
    unfold WPcall at h
    split at h
    · split at h
      · rename_i r hr
        rw [← h.2.2]; exact biRes_len hr
      · exact h.elim
    · split at h
      · obtain ⟨v, H', hcr, _, rfl⟩ := h
        exact callRel_len hcr
      · exact h.elim
    · exact h.elim
  · split at h
    · rename_i r hr
      rw [← h.2.2]; exact opRes_len hr
    · exact h.elim

theorem class0_sound (hT : TabOk P T) {op : Op} (h0 : opClass op = 0) {w : World} {X : Nat → Prop} {ρ : Places} {s : St} {v : PV} {H' : List Ob} {o : Oper} (ho : o.op = op) {e : Operand → Value} (h : WPop P T op s fun v' H'' => v' = v ∧ H'' = H')
    (hops : ∀ x ∈ op.operands, PRd w X ρ (e x) (ev s.env x)) : H' = s.heap ∧ ∃ u, (execOp e o).run P w = .ok (.value u) w ∧ PRd w X ρ u v := by
  cases op <;> simp only [opClass, reduceCtorEq] at h0 <;> try first | (cases h0; done) | (split at h0 <;> cases h0; done)
  case move x =>
    simp only [WPop, opRes, Res.pure] at h
    obtain ⟨_, rfl, rfl⟩ := h
    exact ⟨rfl, e x, by simp [execOp, ho], hops x (by simp [Op.operands])⟩
  case assign x =>
    simp only [WPop, opRes, Res.pure] at h
    obtain ⟨_, rfl, rfl⟩ := h
    exact ⟨rfl, e x, by simp [execOp, ho], hops x (by simp [Op.operands])⟩
  case extract x ix =>
    have hx := hops x (by simp [Op.operands])
    simp only [WPop, opRes] at h
    cases hv : ev s.env x with
    | tup vs =>
      rw [hv] at h hx
      simp only at h
      cases hvs : vs[ix]? with
      | none => rw [hvs] at h; exact h.elim
      | some y =>
        rw [hvs] at h
        simp only [Res.pure] at h
        obtain ⟨_, rfl, rfl⟩ := h
        generalize hu : e x = u at hx
        cases hx with
        | tup us _ hn hr =>
          have hlt : ix < us.size := by rw [hn]; exact (List.getElem?_eq_some_iff.1 hvs).1
          exact ⟨rfl, us[ix], by simp [execOp, ho, hu, Instr.extract, Array.getElem?_eq_getElem hlt], hr ix _ _ (Array.getElem?_eq_getElem hlt) hvs⟩
    | _ => rw [hv] at h; exact h.elim
  case binOp bop t x y t' =>
    have hx := hops x (by simp [Op.operands])
    have hy := hops y (by simp [Op.operands])
    simp only [WPop] at h
    split at h
    · rename_i r hr
      obtain ⟨hc, rfl, rfl⟩ := h
      exact pure_binOp hT bop t x y t' ho hx hy hr hc
    · exact h.elim

end
end Go.AM

namespace Go.AM

section
variable {P : Program} {T : Tab} {ops : Array Oper}

def wantA (ops : Array Oper) (s : St) (o : Oper) : Option Bool :=
  match o.guard with
  | none => some true
  | some (j, want) => match (ops[j]?).bind (·.dst) with
    | some t => match s.get t with
      | .fv (.lit (.bool b)) => some (b == want)
      | .tup [] => some false
      | _ => none
    | none => none

def Step1 (P : Program) (T : Tab) (ops : Array Oper) (o : Oper) (s s' : St) : Prop :=
  (wantA ops s o = some true ∧ ∃ v H', (WPop P T o.op s fun v' H'' => v' = v ∧ H'' = H') ∧ (isStore o.op = true ∨ ∃ obs, H' = s.heap ++ obs) ∧ s' = s.upd o.dst v H') ∨
  (wantA ops s o = some false ∧ s' = s.upd o.dst (.tup []) s.heap)

theorem runs {K : St → Prop} : ∀ (l : List Oper) (st : St), WPdraw P T ops l st K → ∃ S : Nat → St, S 0 = st ∧ (∀ (j : Nat) o, l[j]? = some o → Step1 P T ops o (S j) (S (j + 1))) ∧ K (S l.length)
  | [], st, h => ⟨fun _ => st, rfl, by simp, h⟩
  | o :: l, st, h => by
    have fin : ∀ s', Step1 P T ops o st s' → WPdraw P T ops l s' K → ∃ S : Nat → St, S 0 = st ∧ (∀ (j : Nat) o', (o :: l)[j]? = some o' → Step1 P T ops o' (S j) (S (j + 1))) ∧ K (S (o :: l).length) := by
      intro s' hs hw
      obtain ⟨S, h0, h1, h2⟩ := runs l s' hw
      refine ⟨fun j => match j with | 0 => st | j + 1 => S j, rfl, fun j o' hj => ?_, h2⟩
      cases j with
      | zero => simp at hj; subst hj; simp only [h0]; exact hs
      | succ j => exact h1 j o' (by simpa using hj)
    unfold WPdraw at h
    cases hg : o.guard with
    | none =>
      simp only [hg] at h
      obtain ⟨v, H', h1, h2, h3⟩ := WPop_elim h
      exact fin _ (.inl ⟨by simp [wantA, hg], v, H', h1, h2, rfl⟩) h3
    | some gd =>
      obtain ⟨j, want⟩ := gd
      simp only [hg] at h
      cases hj : (ops[j]?).bind (·.dst) with
      | none => rw [hj] at h; exact h.elim
      | some t =>
        rw [hj] at h
        simp only at h
        split at h
        · rename_i b hb
          by_cases hbw : b = want
          · obtain ⟨v, H', h1, h2, h3⟩ := WPop_elim (h.1 hbw)
            exact fin _ (.inl ⟨by simp [wantA, hg, hj, hb, hbw], v, H', h1, h2, rfl⟩) h3
          · exact fin _ (.inr ⟨by simp [wantA, hg, hj, hb, hbw], rfl⟩) (h.2 (by cases b <;> cases want <;> simp_all))
        · rename_i hb
          exact fin _ (.inr ⟨by simp [wantA, hg, hj, hb], rfl⟩) h
        · exact h.elim

def Closed (ops : Array Oper) (listed : Array Bool) : Prop :=
  ∀ (j : Nat) oj, ops[j]? = some oj → listed.getD j false = true → ∀ e ∈ oj.after, plainEdge e = true → listed.getD e.on false = true

def GoodMasks (ops : Array Oper) (acc : List Nat) : Prop :=
  ∀ (j : Nat) oj i, j < acc.length → ops[j]? = some oj → (acc.getD j 0).testBit i = true → ∀ listed, Closed ops listed → (∀ e ∈ oj.after, plainEdge e = true → listed.getD e.on false = true) → listed.getD i false = true

theorem maskStep_bits (acc : List Nat) : ∀ (es : List Edge) (s i : Nat), (es.foldl (fun s e => if plainEdge e then s ||| 2 ^ e.on ||| acc.getD e.on 0 else s) s).testBit i = true →
    s.testBit i = true ∨ ∃ e ∈ es, plainEdge e = true ∧ (i = e.on ∨ (acc.getD e.on 0).testBit i = true)
  | [], s, i, h => .inl h
  | e :: es, s, i, h => by
    rw [List.foldl_cons] at h
    rcases maskStep_bits acc es _ i h with h1 | ⟨e', he', hp, h1⟩
    · split at h1
      · rename_i hp
        simp only [Nat.testBit_or, Bool.or_eq_true] at h1
        rcases h1 with (h1 | h1) | h1
        · exact .inl h1
        · right
          refine ⟨e, by simp, hp, .inl ?_⟩
          rw [Nat.testBit_two_pow] at h1
          have h2 : e.on = i := by simpa using h1
          exact h2.symm
        · exact .inr ⟨e, by simp, hp, .inr h1⟩
      · exact .inl h1
    · exact .inr ⟨e', by simp [he'], hp, h1⟩

theorem masks_good : ∀ (l : List Oper) (acc : List Nat), (∀ j, l[j]? = ops[acc.length + j]?) → GoodMasks ops acc → GoodMasks ops (masks l acc)
  | [], acc, _, h => h
  | o :: l, acc, hl, h => by
    have h0 : ops[acc.length]? = some o := by simpa using (hl 0).symm
    refine masks_good l _ (fun j => ?_) ?_
    · have := hl (j + 1)
      rw [List.getElem?_cons_succ] at this
      rw [this]
      congr 1
      simp
      omega
    · intro j oj i hj hoj hb listed hc hp
      by_cases hlt : j < acc.length
      · rw [List.getD_eq_getElem?_getD, List.getElem?_append_left hlt, ← List.getD_eq_getElem?_getD] at hb
        exact h j oj i hlt hoj hb listed hc hp
      · have hje : j = acc.length := by simp at hj; omega
        subst hje
        rw [h0] at hoj; cases hoj
        simp only [List.getD_eq_getElem?_getD, List.getElem?_append_right (Nat.le_refl _), Nat.sub_self, List.getElem?_cons_zero, Option.getD_some] at hb
        unfold maskStep at hb
        rcases maskStep_bits acc _ 0 i hb with h1 | ⟨e, he, hpe, h1⟩
        · simp at h1
        · have hle := hp e (Array.mem_toList_iff.1 he) hpe
          rcases h1 with rfl | h1
          · exact hle
          · have helt : e.on < acc.length := by
              apply Nat.lt_of_not_le
              intro hge
              rw [List.getD_eq_getElem?_getD, List.getElem?_eq_none hge] at h1
              simp at h1
            have hes : ∃ oe, ops[e.on]? = some oe := by
              have hlt2 : acc.length < ops.size := (Array.getElem?_eq_some_iff.1 h0).1
              exact ⟨ops[e.on]'(by omega), by simp [show e.on < ops.size by omega]⟩
            obtain ⟨oe, hoe⟩ := hes
            exact h e.on oe i helt hoe h1 listed hc (fun e' he' hpe' => hc e.on oe hoe hle e' he' hpe')

structure DrawFacts (ops : Array Oper) : Prop where
  cls : ∀ (j : Nat) oj, ops[j]? = some oj → opClass oj.op < 3
  low : ∀ (j : Nat) oj, ops[j]? = some oj → ∀ e ∈ oj.after, plainEdge e = true → e.on < j
  ord : ∀ (i j : Nat) oi oj, i < j → ops[i]? = some oi → ops[j]? = some oj → clash ops oi oj = true → ∀ listed, Closed ops listed → (∀ e ∈ oj.after, plainEdge e = true → listed.getD e.on false = true) → listed.getD i false = true

theorem masks_length : ∀ (l : List Oper) (acc : List Nat), (masks l acc).length = acc.length + l.length
  | [], acc => by simp [masks]
  | o :: l, acc => by rw [masks, masks_length l]; simp; omega

theorem drawFacts (h : drawOk ops = true) : DrawFacts ops := by
  unfold drawOk at h
  rw [List.all_eq_true] at h
  have hm : GoodMasks ops (masks ops.toList []) := masks_good ops.toList [] (by simp) (by intro j oj i hj; simp at hj)
  have key : ∀ (j : Nat) oj, ops[j]? = some oj → (opClass oj.op < 3 ∧ ∀ e ∈ oj.after, plainEdge e = true → e.on < j) ∧ ∀ i, i < j → ∀ oi, ops[i]? = some oi → clash ops oi oj = true → ((masks ops.toList []).getD j 0).testBit i = true := by
    intro j oj hj
    have hlt : j < ops.size := (Array.getElem?_eq_some_iff.1 hj).1
    have h1 := h j (List.mem_range.2 hlt)
    simp only [hj, Bool.and_eq_true, decide_eq_true_eq, List.all_eq_true] at h1
    obtain ⟨⟨h2, h3⟩, h4⟩ := h1
    refine ⟨⟨h2, fun e he hp => ?_⟩, fun i hi oi hoi hcl => ?_⟩
    · have := h3 e (Array.mem_toList_iff.2 he)
      simpa [hp] using this
    · have := h4 i (List.mem_range.2 hi)
      simpa [hoi, hcl] using this
  refine ⟨fun j oj hj => (key j oj hj).1.1, fun j oj hj => (key j oj hj).1.2, fun i j oi oj hij hi hj hcl listed hc hp => ?_⟩
  exact hm j oj i (by rw [masks_length]; simp; exact (Array.getElem?_eq_some_iff.1 hj).1) hj ((key j oj hj).2 i hij oi hi hcl) listed hc hp

end
end Go.AM

namespace Go.AM

section
variable {P : Program} {T : Tab} {ops : Array Oper}

theorem binds_any (e : Edge) : Region.binds .any e = plainEdge e := by
  unfold Region.binds plainEdge
  cases e.ground <;> rfl

theorem upd_env (s : St) (d : Option Nat) (v : PV) (H : List Ob) (t : Nat) (h : d ≠ some t) : (s.upd d v H).env.getD t .any = s.env.getD t .any := by
  unfold St.upd
  cases d with
  | none => rfl
  | some t' =>
    have : t' ≠ t := fun he => h (by rw [he])
    simp only [List.getD_eq_getElem?_getD, List.getElem?_set_ne this]

theorem upd_env_self (s : St) (v : PV) (H : List Ob) (t : Nat) (h : t < s.env.length) : (s.upd (some t) v H).env.getD t .any = v := by
  unfold St.upd
  simp [List.getD_eq_getElem?_getD, h]

theorem upd_len (s : St) (d : Option Nat) (v : PV) (H : List Ob) : (s.upd d v H).env.length = s.env.length := by
  unfold St.upd
  cases d <;> simp

structure Run (P : Program) (T : Tab) (ops : Array Oper) (S : Nat → St) : Prop where
  step : ∀ (j : Nat) o, ops[j]? = some o → Step1 P T ops o (S j) (S (j + 1))

variable {S : Nat → St}

theorem Step1.env {o : Oper} {s s' : St} (h : Step1 P T ops o s s') (t : Nat) (ht : o.dst ≠ some t) : s'.env.getD t .any = s.env.getD t .any := by
  rcases h with ⟨_, v, H', _, _, rfl⟩ | ⟨_, rfl⟩ <;> exact upd_env _ _ _ _ _ ht

theorem Step1.len {o : Oper} {s s' : St} (h : Step1 P T ops o s s') : s'.env.length = s.env.length := by
  rcases h with ⟨_, v, H', _, _, rfl⟩ | ⟨_, rfl⟩ <;> exact upd_len _ _ _ _

theorem Step1.heap {o : Oper} {s s' : St} (h : Step1 P T ops o s s') : s.heap.length ≤ s'.heap.length ∧ True ∧ (isStore o.op = false → s'.heap = s.heap ++ s'.heap.drop s.heap.length) := by
  rcases h with ⟨_, v, H', hw, hob, rfl⟩ | ⟨_, rfl⟩
  · refine ⟨WPop_len hw, trivial, fun hs => ?_⟩
    rcases hob with hob | ⟨obs, rfl⟩
    · rw [hs] at hob; cases hob
    · simp [St.upd]
  · simp [St.upd]

def later (n : Nat) (S : Nat → St) : Nat → List Ob
  | 0 => []
  | m + 1 => (S (n - m)).heap.drop (S (n - m - 1)).heap.length ++ later n S m

def full (n : Nat) (S : Nat → St) (i : Nat) : List Ob := (S i).heap ++ later n S (n - i)

theorem later_step {n i : Nat} (h : i < n) : later n S (n - i) = (S (i + 1)).heap.drop (S i).heap.length ++ later n S (n - (i + 1)) := by
  have e : n - i = (n - (i + 1)) + 1 := by omega
  rw [e, later]
  rw [show n - (n - (i + 1)) = i + 1 by omega, show i + 1 - 1 = i by omega]

theorem full_step (hr : Run P T ops S) {i : Nat} {o : Oper} (ho : ops[i]? = some o) :
    (isStore o.op = false → full ops.size S i = full ops.size S (i + 1)) ∧ full ops.size S i = (S i).heap ++ ((S (i + 1)).heap.drop (S i).heap.length ++ later ops.size S (ops.size - (i + 1))) := by
  have hlt : i < ops.size := (Array.getElem?_eq_some_iff.1 ho).1
  have h2 : full ops.size S i = (S i).heap ++ ((S (i + 1)).heap.drop (S i).heap.length ++ later ops.size S (ops.size - (i + 1))) := by
    unfold full
    rw [later_step hlt]
  refine ⟨fun hs => ?_, h2⟩
  rw [h2, ← List.append_assoc, ← ((hr.step i o ho).heap.2.2 hs)]
  rfl

theorem env_same (hr : Run P T ops S) {t : Nat} : ∀ (d i : Nat), i + d ≤ ops.size → (∀ k o, i ≤ k → k < i + d → ops[k]? = some o → o.dst ≠ some t) → (S (i + d)).env.getD t .any = (S i).env.getD t .any
  | 0, i, _, _ => rfl
  | d + 1, i, hl, h => by
    have hlt : i + d < ops.size := by omega
    have h1 := hr.step (i + d) ops[i + d] (by simp [hlt])
    rw [show i + (d + 1) = (i + d) + 1 by omega, h1.env t (h (i + d) _ (by omega) (by omega) (by simp [hlt]))]
    exact env_same hr d i (by omega) (fun k o hk hk2 ho => h k o hk (by omega) ho)

theorem full_same (hr : Run P T ops S) : ∀ (d i : Nat), i + d ≤ ops.size → (∀ k o, i ≤ k → k < i + d → ops[k]? = some o → isStore o.op = false) → full ops.size S (i + d) = full ops.size S i
  | 0, i, _, _ => rfl
  | d + 1, i, hl, h => by
    have hlt : i + d < ops.size := by omega
    have h1 := (full_step hr (i := i + d) (o := ops[i + d]) (by simp [hlt])).1 (h (i + d) _ (by omega) (by omega) (by simp [hlt]))
    rw [show i + (d + 1) = (i + d) + 1 by omega, ← h1]
    exact full_same hr d i (by omega) (fun k o hk hk2 ho => h k o hk (by omega) ho)

theorem heap_mono (hr : Run P T ops S) : ∀ (d i : Nat), i + d ≤ ops.size → (S i).heap.length ≤ (S (i + d)).heap.length
  | 0, i, _ => Nat.le_refl _
  | d + 1, i, hl => by
    have hlt : i + d < ops.size := by omega
    have h1 := (hr.step (i + d) ops[i + d] (by simp [hlt])).heap.1
    exact Nat.le_trans (heap_mono hr d i (by omega)) h1

theorem env_len (hr : Run P T ops S) : ∀ (i : Nat), i ≤ ops.size → (S i).env.length = (S 0).env.length
  | 0, _ => rfl
  | i + 1, h => by
    have hlt : i < ops.size := by omega
    rw [(hr.step i ops[i] (by simp [hlt])).len]
    exact env_len hr i (by omega)

def Cut (ops : Array Oper) (listed : Array Bool) (t i : Nat) : Prop := ∀ (k : Nat) o, ops[k]? = some o → o.dst = some t → (listed.getD k true = true ↔ k < i)
def HCut (ops : Array Oper) (listed : Array Bool) (i : Nat) : Prop := ∀ (k : Nat) o, ops[k]? = some o → isStore o.op = true → (listed.getD k true = true ↔ k < i)

structure Inv (ops : Array Oper) (S : Nat → St) (c : Ctx) (listed : Array Bool) (a : Act) (w : World) (X : Nat → Prop) (ρ : Places) : Prop where
  sz : listed.size = ops.size
  closed : Closed ops listed
  defers : a.defers = []
  keeps : Keeps c w
  tl : a.tmps.size = (S 0).env.length
  env : ∀ (t i : Nat) u, i ≤ ops.size → Cut ops listed t i → a.tmps[t]? = some u → PRd w X ρ u ((S i).env.getD t .any)
  heap : ∀ i, i ≤ ops.size → HCut ops listed i → HRd c w X ρ (full ops.size S i)
  places : ∀ i, i < ops.size → listed.getD i true = false → ∀ id, (S i).heap.length ≤ id → id < (S (i + 1)).heap.length → ρ[id]? = some none

end
end Go.AM

namespace Go.AM

section
variable {P : Program} {T : Tab} {ops : Array Oper} {S : Nat → St}

theorem isStore_class {op : Op} (h : isStore op = true) : opClass op = 2 := by
  cases op <;> first | rfl | (simp [isStore] at h; done) | (simp only [isStore] at h; simp [opClass, h])

theorem mem_reads {o : Oper} {t : Nat} (h : Operand.tmp t ∈ o.op.operands) : t ∈ reads ops o := by
  unfold reads
  rw [List.mem_append, List.mem_filterMap]
  exact .inl ⟨.tmp t, Array.mem_toList_iff.2 h, rfl⟩

theorem guard_reads {o : Oper} {g : Nat} {want : Bool} {t : Nat} (h : o.guard = some (g, want)) (ht : (ops[g]?).bind (·.dst) = some t) : t ∈ reads ops o := by
  unfold reads guardTmp
  rw [List.mem_append, h]
  right
  simp only [ht]
  simp

theorem clash_rd1 {x y : Oper} {d : Nat} (h : x.dst = some d) (hr : d ∈ reads ops y) : clash ops x y = true := by
  unfold clash
  simp [h, hr]

theorem clash_rd2 {x y : Oper} {d : Nat} (h : y.dst = some d) (hr : d ∈ reads ops x) : clash ops x y = true := by
  unfold clash
  simp [h, hr]

theorem clash_dd {x y : Oper} {d : Nat} (h : x.dst = some d) (h2 : y.dst = some d) : clash ops x y = true := by
  unfold clash
  simp [h, h2]

theorem clash_s1 {x y : Oper} (h : opClass x.op = 2) (h2 : 1 ≤ opClass y.op) : clash ops x y = true := by
  unfold clash
  simp [h, h2]

theorem clash_s2 {x y : Oper} (h : 1 ≤ opClass x.op) (h2 : opClass y.op = 2) : clash ops x y = true := by
  unfold clash
  simp [h, h2]

theorem getD_tf {listed : Array Bool} {k : Nat} (h : k < listed.size) : listed.getD k true = listed.getD k false := by
  simp [h]

variable {c : Ctx} {listed : Array Bool} {a : Act} {w : World} {X : Nat → Prop} {ρ : Places} {i : Nat} {o : Oper}

theorem cut_before (hf : DrawFacts ops) (hcl : Closed ops listed) (hp : ∀ e ∈ o.after, plainEdge e = true → listed.getD e.on false = true) (ho : ops[i]? = some o) {k : Nat} {ok : Oper} (hk : k < i) (hok : ops[k]? = some ok)
    (h : clash ops ok o = true) : listed.getD k false = true := hf.ord k i ok o hk hok ho h listed hcl hp

theorem cut_behind (hf : DrawFacts ops) (hsz : listed.size = ops.size) (hcl : Closed ops listed) (hun : listed.getD i true = false) (ho : ops[i]? = some o) {k : Nat} {ok : Oper} (hk : i < k) (hok : ops[k]? = some ok) (h : clash ops o ok = true) :
    listed.getD k true = false := by
  cases hl : listed.getD k true with
  | false => rfl
  | true =>
    have hkl : k < listed.size := by rw [hsz]; exact (Array.getElem?_eq_some_iff.1 hok).1
    rw [getD_tf hkl] at hl
    have h1 := hf.ord i k o ok hk ho hok h listed hcl (fun e he hpe => hcl k ok hok hl e he hpe)
    have hil : i < listed.size := by rw [hsz]; exact (Array.getElem?_eq_some_iff.1 ho).1
    rw [getD_tf hil, h1] at hun
    cases hun

theorem inv_next (hr : Run P T ops S) (hf : DrawFacts ops) (hinv : Inv ops S c listed a w X ρ) (ho : ops[i]? = some o) (hun : listed.getD i true = false) (hp : ∀ e ∈ o.after, plainEdge e = true → listed.getD e.on false = true)
    {u : Value} {v : PV} {H' : List Ob} {w' : World} {X' : Nat → Prop} {ρ' : Places} (hS : S (i + 1) = (S i).upd o.dst v H') (hs : Stp c w w' X X' ρ ρ') (hdr : w.drawn ≤ w'.drawn) (hu : PRd w' X' ρ' u v)
    (hout : ∀ id, (id < (S i).heap.length ∨ (S (i + 1)).heap.length ≤ id) → ρ'[id]? = ρ[id]?)
    (hheap : ∀ i2, i2 ≤ ops.size → HCut ops (listed.setIfInBounds i true) i2 → HRd c w' X' ρ' (full ops.size S i2)) : Inv ops S c (listed.setIfInBounds i true) (a.put o.dst u) w' X' ρ' := by
  have hil : i < ops.size := (Array.getElem?_eq_some_iff.1 ho).1
  have hils : i < listed.size := by rw [hinv.sz]; exact hil
  have hself : ∀ d, (listed.setIfInBounds i true).getD i d = true := by intro d; simp [hils]
  have hne : ∀ k d, k ≠ i → (listed.setIfInBounds i true).getD k d = listed.getD k d := fun k d hk => getD_set_ne d (Ne.symm hk)
  refine ⟨by simp [hinv.sz], ?_, by cases hd : o.dst <;> simp [Act.put, hinv.defers], ⟨hs.keeps hinv.keeps.toKeepsB, Nat.le_trans hinv.keeps.drawn hdr⟩, by cases hd : o.dst <;> simp [Act.put, hinv.tl], ?_, hheap, ?_⟩
  · intro j oj hj hl e he hpe
    by_cases hji : j = i
    · subst hji
      rw [ho] at hj; cases hj
      exact getD_set_true (hp e he hpe)
    · rw [hne j false hji] at hl
      exact getD_set_true (hinv.closed j oj hj hl e he hpe)
  · intro t i2 u2 hi2 hcut hu2
    by_cases hd : o.dst = some t
    · have hii : i < i2 := (hcut i o ho hd).1 (hself true)
      rw [hd] at hu2
      simp only [Act.put] at hu2
      have hlt : t < a.tmps.size := by have := (Array.getElem?_eq_some_iff.1 hu2).1; simpa using this
      simp [hlt] at hu2
      subst hu2
      have he : (S i2).env.getD t .any = (S (i + 1)).env.getD t .any := by
        have := env_same hr (t := t) (i2 - (i + 1)) (i + 1) (by omega) (fun k ok hk hk2 hok hdk => by
          have h1 := (hcut k ok hok hdk).2 (by omega)
          rw [hne k true (by omega)] at h1
          have h2 := cut_behind hf hinv.sz hinv.closed hun ho (show i < k by omega) hok (clash_dd hd hdk)
          rw [h1] at h2; cases h2)
        rw [show i + 1 + (i2 - (i + 1)) = i2 by omega] at this
        exact this
      rw [he, hS, hd, upd_env_self]
      · exact hu
      · rw [env_len hr i (by omega), ← hinv.tl]; exact hlt
    · have hu3 : a.tmps[t]? = some u2 := by
        cases hdo : o.dst with
        | none => rw [hdo] at hu2; exact hu2
        | some d =>
          rw [hdo] at hu2 hd
          simp only [Act.put] at hu2
          rw [Array.getElem?_setIfInBounds_ne (by intro he; exact hd (by rw [he]))] at hu2
          exact hu2
      refine (hinv.env t i2 u2 hi2 (fun k ok hok hdk => ?_) hu3).stp hs
      have hki : k ≠ i := by
        intro he; subst he
        rw [ho] at hok; cases hok
        exact hd hdk
      rw [← hne k true hki]
      exact hcut k ok hok hdk
  · intro i2 hi2 hun2 id h1 h2
    have hne2 : i2 ≠ i := by intro he; subst he; rw [hself] at hun2; cases hun2
    rw [hne i2 true hne2] at hun2
    rw [hout id ?_]
    · exact hinv.places i2 hi2 hun2 id h1 h2
    · rcases Nat.lt_or_gt_of_ne hne2 with hlt | hgt
      · left
        have := heap_mono hr (i - (i2 + 1)) (i2 + 1) (by omega)
        rw [show i2 + 1 + (i - (i2 + 1)) = i by omega] at this
        omega
      · right
        have := heap_mono hr (i2 - (i + 1)) (i + 1) (by omega)
        rw [show i + 1 + (i2 - (i + 1)) = i2 by omega] at this
        omega

theorem inv_step (hT : TabOk P T) {Q : Exit → Act → World → Prop} (hr : Run P T ops S) (hf : DrawFacts ops) (hinv : Inv ops S c listed a w X ρ) (hi : i ∈ Region.ready .any ops listed) :
    wpOp P ops Q i (fun a' w' => ∃ X' ρ', Inv ops S c (listed.setIfInBounds i true) a' w' X' ρ') a w := by
  obtain ⟨hun, o, ho, hall⟩ := mem_ready.1 hi
  have hp : ∀ e ∈ o.after, plainEdge e = true → listed.getD e.on false = true := fun e he hpe => hall e he (by rw [binds_any]; exact hpe)
  have hil : i < ops.size := (Array.getElem?_eq_some_iff.1 ho).1
  have hils : i < listed.size := by rw [hinv.sz]; exact hil
  have hcutr : ∀ t, t ∈ reads ops o → Cut ops listed t i := by
    intro t ht k ok hok hdk
    rcases Nat.lt_trichotomy k i with hlt | heq | hgt
    · have h1 := cut_before hf hinv.closed hp ho hlt hok (clash_rd1 hdk ht)
      rw [← getD_tf (by rw [hinv.sz]; omega)] at h1
      simp [h1, hlt]
    · subst heq; simp [hun]
    · have h1 := cut_behind hf hinv.sz hinv.closed hun ho hgt hok (clash_rd2 hdk ht)
      simp [h1]; omega
  have hrel : ∀ t, t ∈ reads ops o → PRd w X ρ (a.tmps.getD t undef) ((S i).env.getD t .any) := by
    intro t ht
    by_cases hlt : t < a.tmps.size
    · have := hinv.env t i a.tmps[t] (by omega) (hcutr t ht) (by simp [hlt])
      simpa [hlt] using this
    · have hge : (S i).env.length ≤ t := by rw [env_len hr i (by omega), ← hinv.tl]; omega
      rw [List.getD_eq_getElem?_getD, List.getElem?_eq_none hge]
      exact .any _
  have hops : ∀ x ∈ o.op.operands, PRd w X ρ (a.eval x) (ev (S i).env x) := by
    intro x hx
    cases x with
    | tmp t => exact hrel t (mem_reads hx)
    | const v => exact PRd_ofValue v
    | global g => exact .any _
    | func f => exact .fv _ _ (.lit _ rfl)
  -- is it wanted?
  have hwant : ∀ b, wantA ops (S i) o = some b → Region.wanted o (yielded ops a.tmps) = b := by
    intro b hb
    unfold wantA at hb
    unfold Region.wanted
    cases hg : o.guard with
    | none => rw [hg] at hb; simp at hb; simp [hb]
    | some gd =>
      obtain ⟨j, want⟩ := gd
      rw [hg] at hb
      simp only at hb ⊢
      cases hj : (ops[j]?).bind (·.dst) with
      | none => rw [hj] at hb; cases hb
      | some t =>
        rw [hj] at hb
        simp only at hb
        have ht := hrel t (guard_reads hg hj)
        have hy : yielded ops a.tmps j = (match a.tmps[t]? with | some (.bool b) => some b | _ => none) := by
          unfold yielded
          rw [hj]
          rfl
        rw [hy]
        unfold St.get at hb
        split at hb
        · rename_i b2 hb2
          rw [hb2] at ht
          have hlt := ht.litInv
          simp at hb
          cases hg2 : a.tmps[t]? with
          | none => simp [hg2, undef] at hlt
          | some v2 =>
            simp [hg2] at hlt
            subst hlt
            simp only
            rw [← hb]
            simp
        · rename_i hb2
          rw [hb2] at ht
          simp at hb
          cases hg2 : a.tmps[t]? with
          | none => simp [← hb]
          | some v2 =>
            simp [hg2] at ht
            cases ht
            simp [← hb]
        · cases hb
  unfold wpOp
  simp only [ho]
  rcases hr.step i o ho with ⟨hw, v, H', hwp, hob, hS⟩ | ⟨hw, hS⟩
  · rw [hwant true hw]
    refine .inl ?_
    have hSh : (S (i + 1)).heap = H' := by rw [hS]; rfl
    by_cases h0 : opClass o.op = 0
    · obtain ⟨hH, u, hrun, hu⟩ := class0_sound (P := P) (T := T) hT h0 rfl (o := o) (e := a.eval) hwp hops
      unfold Oper.wp
      rw [hrun]
      refine ⟨X, ρ, inv_next hr hf hinv ho hun hp hS Stp.refl (Nat.le_refl _) hu (fun _ _ => rfl) (fun i2 hi2 hcut => hinv.heap i2 hi2 (fun k ok hok hst => ?_))⟩
      have hki : k ≠ i := by
        intro he; subst he
        rw [ho] at hok; cases hok
        rw [isStore_class hst] at h0; cases h0
      rw [← getD_set_ne true (Ne.symm hki)]
      exact hcut k ok hok hst
    · have hcl1 : 1 ≤ opClass o.op := by omega
      have hhc : HCut ops listed i := by
        intro k ok hok hst
        have hk2 := isStore_class hst
        rcases Nat.lt_trichotomy k i with hlt | heq | hgt
        · have h1 := cut_before hf hinv.closed hp ho hlt hok (clash_s1 hk2 hcl1)
          rw [← getD_tf (by rw [hinv.sz]; omega)] at h1
          simp [h1, hlt]
        · subst heq; simp [hun]
        · have h1 := cut_behind hf hinv.sz hinv.closed hun ho hgt hok (clash_s2 hcl1 hk2)
          simp [h1]; omega
      have hh := hinv.heap i (by omega) hhc
      obtain ⟨hfs, hfe⟩ := full_step hr ho
      rw [hfe] at hh
      have hlen := WPop_len hwp
      rw [hSh] at hh hfe
      refine wpop_gen hT hwp hh (fun id h1 h2 => hinv.places i hil hun id h1 (by rw [hSh]; simp at h2; omega)) (by simp; omega) hops (fun u w' X' ρ' hs hdr hh' hu hout => ?_)
      have hfull : full ops.size S (i + 1) = H' ++ later ops.size S (ops.size - (i + 1)) := by unfold full; rw [hSh]
      refine ⟨X', ρ', inv_next hr hf hinv ho hun hp hS hs hdr hu (fun id hid => hout id (by rw [hSh] at hid; simp; omega)) (fun i2 hi2 hcut => ?_)⟩
      have hself : (listed.setIfInBounds i true).getD i true = true := by simp [hils]
      have hfi : HRd c w' X' ρ' (full ops.size S (i + 1)) := by rw [hfull]; exact hh'
      by_cases hst : isStore o.op = true
      · have hii : i < i2 := (hcut i o ho hst).1 hself
        have := full_same hr (i2 - (i + 1)) (i + 1) (by omega) (fun k ok hk hk2 hok => by
          cases hsk : isStore ok.op with
          | false => rfl
          | true =>
            have h1 := (hcut k ok hok hsk).2 (by omega)
            rw [getD_set_ne true (by omega)] at h1
            have h2 := cut_behind hf hinv.sz hinv.closed hun ho (show i < k by omega) hok (clash_s1 (isStore_class hst) (by rw [isStore_class hsk]; omega))
            rw [h1] at h2; cases h2)
        rw [show i + 1 + (i2 - (i + 1)) = i2 by omega] at this
        rw [this]
        exact hfi
      · have hst' : isStore o.op = false := by simpa using hst
        have hcut2 : HCut ops listed i2 := by
          intro k ok hok hsk
          have hki : k ≠ i := by
            intro he; subst he
            rw [ho] at hok; cases hok
            exact hst hsk
          rw [← getD_set_ne true (Ne.symm hki)]
          exact hcut k ok hok hsk
        have hsame : full ops.size S i2 = full ops.size S i := by
          rcases Nat.le_total i i2 with hle | hle
          · have := full_same hr (i2 - i) i (by omega) (fun k ok hk hk2 hok => by
              cases hsk : isStore ok.op with
              | false => rfl
              | true =>
                have h1 := (hcut2 k ok hok hsk).2 (by omega)
                have h2 := (hhc k ok hok hsk).1 h1
                omega)
            rw [show i + (i2 - i) = i2 by omega] at this
            exact this
          · have := full_same hr (i - i2) i2 (by omega) (fun k ok hk hk2 hok => by
              cases hsk : isStore ok.op with
              | false => rfl
              | true =>
                have h1 := (hhc k ok hok hsk).2 (by omega)
                have h2 := (hcut2 k ok hok hsk).1 h1
                omega)
            rw [show i2 + (i - i2) = i by omega] at this
            exact this.symm
        rw [hsame, hfs hst']
        exact hfi
  · rw [hwant false hw]
    refine ⟨X, ρ, inv_next hr hf hinv ho hun hp hS Stp.refl (Nat.le_refl _) (.tup #[] [] rfl (by simp)) (fun _ _ => rfl) (fun i2 hi2 hcut => ?_)⟩
    have hSh : (S (i + 1)).heap = (S i).heap := by rw [hS]; rfl
    have hself : (listed.setIfInBounds i true).getD i true = true := by simp [hils]
    by_cases hst : isStore o.op = true
    · have hhc : HCut ops listed i := by
        intro k ok hok hsk
        have hk2 := isStore_class hsk
        have ho2 := isStore_class hst
        rcases Nat.lt_trichotomy k i with hlt | heq | hgt
        · have h1 := cut_before hf hinv.closed hp ho hlt hok (clash_s1 hk2 (by omega))
          rw [← getD_tf (by rw [hinv.sz]; omega)] at h1
          simp [h1, hlt]
        · subst heq; simp [hun]
        · have h1 := cut_behind hf hinv.sz hinv.closed hun ho hgt hok (clash_s2 (by omega) hk2)
          simp [h1]; omega
      have hii : i < i2 := (hcut i o ho hst).1 hself
      have hsame := full_same hr (i2 - (i + 1)) (i + 1) (by omega) (fun k ok hk hk2 hok => by
        cases hsk : isStore ok.op with
        | false => rfl
        | true =>
          have h1 := (hcut k ok hok hsk).2 (by omega)
          rw [getD_set_ne true (by omega)] at h1
          have h2 := cut_behind hf hinv.sz hinv.closed hun ho (show i < k by omega) hok (clash_s1 (isStore_class hst) (by rw [isStore_class hsk]; omega))
          rw [h1] at h2; cases h2)
      rw [show i + 1 + (i2 - (i + 1)) = i2 by omega] at hsame
      have hfe := (full_step hr ho).2
      rw [hSh, List.drop_length, List.nil_append] at hfe
      have hf1 : full ops.size S (i + 1) = full ops.size S i := by
        rw [hfe]; unfold full; rw [hSh]
      rw [hsame, hf1]
      exact hinv.heap i (by omega) hhc
    · refine hinv.heap i2 hi2 (fun k ok hok hsk => ?_)
      have hki : k ≠ i := by
        intro he; subst he
        rw [ho] at hok; cases hok
        exact hst hsk
      rw [← getD_set_ne true (Ne.symm hki)]
      exact hcut k ok hok hsk

theorem all_listed (hf : DrawFacts ops) (hsz : listed.size = ops.size) (hrd : Region.ready .any ops listed = []) : ∀ k, k < ops.size → listed.getD k true = true := by
  intro k
  induction k using Nat.strongRecOn with
  | _ k ih =>
    intro hk
    cases hl : listed.getD k true with
    | true => rfl
    | false =>
      have hmem : k ∈ Region.ready .any ops listed := by
        refine mem_ready.2 ⟨hl, ops[k], by simp [hk], fun e he hb => ?_⟩
        rw [binds_any] at hb
        have hlt := hf.low k ops[k] (by simp [hk]) e he hb
        rw [← getD_tf (by omega)]
        exact ih e.on hlt (by omega)
      rw [hrd] at hmem
      cases hmem

theorem inv_any (hT : TabOk P T) {Q : Exit → Act → World → Prop} (hr : Run P T ops S) (hf : DrawFacts ops) (hQ : ∀ a w, SRd c (S ops.size) a w → Q .normal a w) :
    ∀ (fuel : Nat) (listed : Array Bool) (a : Act) (w : World), (∃ X ρ, Inv ops S c listed a w X ρ) → listed.toList.count false ≤ fuel → wpAny P .any ops Q fuel listed a w := by
  have fin : ∀ (listed : Array Bool) (a : Act) (w : World), (∃ X ρ, Inv ops S c listed a w X ρ) → (∀ k, k < ops.size → listed.getD k true = true) → Q .normal a w := by
    intro listed a w ⟨X, ρ, hinv⟩ hal
    refine hQ a w ⟨X, ρ, ?_, ⟨by rw [hinv.tl, env_len hr _ (Nat.le_refl _)], fun t u x hu hx => ?_⟩, hinv.defers, hinv.keeps⟩
    · have := hinv.heap ops.size (Nat.le_refl _) (fun k o hok _ => by
        have hlt : k < ops.size := (Array.getElem?_eq_some_iff.1 hok).1
        simp [hal k hlt, hlt])
      unfold full at this
      rw [Nat.sub_self, later, List.append_nil] at this
      exact this
    · have := hinv.env t ops.size u (Nat.le_refl _) (fun k o hok _ => by
        have hlt : k < ops.size := (Array.getElem?_eq_some_iff.1 hok).1
        simp [hal k hlt, hlt]) hu
      rw [List.getD_eq_getElem?_getD, hx] at this
      exact this
  intro fuel
  induction fuel with
  | zero =>
    intro listed a w hinv hc
    obtain ⟨X, ρ, hi⟩ := hinv
    have hal : ∀ k, k < ops.size → listed.getD k true = true := by
      intro k hk
      have hkl : k < listed.size := by rw [hi.sz]; exact hk
      have h0 : listed.toList.count false = 0 := by omega
      rw [List.count_eq_zero] at h0
      cases hl : listed.getD k true with
      | true => rfl
      | false =>
        exfalso
        apply h0
        have : listed[k] = false := by simpa [hkl] using hl
        rw [← this]
        exact Array.mem_toList_iff.2 (Array.getElem_mem hkl)
    refine ⟨?_, fin listed a w ⟨X, ρ, hi⟩ hal⟩
    cases hrd : Region.ready .any ops listed with
    | nil => rfl
    | cons j l =>
      have hj : j ∈ Region.ready .any ops listed := by rw [hrd]; simp
      obtain ⟨hun, oj, hoj, _⟩ := mem_ready.1 hj
      rw [hal j (Array.getElem?_eq_some_iff.1 hoj).1] at hun
      cases hun
  | succ fuel ih =>
    intro listed a w hinv hc
    obtain ⟨X, ρ, hi⟩ := hinv
    refine ⟨fun hrd => fin listed a w ⟨X, ρ, hi⟩ (all_listed hf hi.sz hrd), fun i hir => ?_⟩
    refine wpOp_mono (fun a' w' hinv' => ih _ a' w' hinv' ?_) (inv_step hT hr hf hi hir)
    obtain ⟨hun, o, ho, _⟩ := mem_ready.1 hir
    have hil : i < listed.size := by rw [hi.sz]; exact (Array.getElem?_eq_some_iff.1 ho).1
    have hlf : listed.toList[i]'(by simpa using hil) = false := by
      have : listed[i] = false := by simpa [hil] using hun
      simpa using this
    rw [Array.toList_setIfInBounds, List.count_set (by simpa using hil)]
    have hpos : 0 < listed.toList.count false := by
      rw [List.count_pos_iff]
      rw [← hlf]
      exact List.getElem_mem _
    rw [hlf]
    show (List.count false listed.toList - 1) + 0 ≤ fuel
    omega

theorem draw_sound (hT : TabOk P T) {Q : Exit → Act → World → Prop} (hok : drawOk ops = true) {st : St} {K : St → Prop} (h : WPdraw P T ops ops.toList st K) (hK : ∀ st a w, K st → SRd c st a w → Q .normal a w) (hs : SRd c st a w) :
    wpAny P .any ops Q ops.size (Array.replicate ops.size false) a w := by
  have hf := drawFacts hok
  obtain ⟨S, h0, h1, h2⟩ := runs ops.toList st h
  rw [Array.length_toList] at h2
  have hr : Run P T ops S := ⟨fun j o hj => h1 j o (by simpa using hj)⟩
  obtain ⟨X, ρ, hh, he, hd, hk⟩ := hs
  refine inv_any hT hr hf (c := c) (fun a w hs => hK _ a w h2 hs) ops.size _ a w ⟨X, ρ ++ List.replicate (later ops.size S ops.size).length none, ?_⟩ (by simp)
  have hun : ∀ k, k < ops.size → (Array.replicate ops.size false).getD k true = false := by intro k hk; simp [hk]
  have hle := Places.Le.append ρ (List.replicate (later ops.size S ops.size).length none)
  refine ⟨by simp, ?_, hd, hk, by rw [h0]; exact he.1, ?_, ?_, ?_⟩
  · intro j oj hj hl
    have hlt : j < ops.size := (Array.getElem?_eq_some_iff.1 hj).1
    simp [hlt] at hl
  · intro t i u hi hcut hu
    have hsame := env_same hr (t := t) i 0 (by omega) (fun k o _ hk hok hdk => by
      have hlt : k < ops.size := (Array.getElem?_eq_some_iff.1 hok).1
      have := (hcut k o hok hdk).2 (by omega)
      rw [hun k hlt] at this
      cases this)
    rw [Nat.zero_add] at hsame
    rw [hsame, h0]
    have hlt : t < st.env.length := by rw [← he.1]; exact (Array.getElem?_eq_some_iff.1 hu).1
    have := he.2 t u st.env[t] hu (by simp [hlt])
    rw [List.getD_eq_getElem?_getD]
    simp only [List.getElem?_eq_getElem hlt, Option.getD_some]
    exact this.mono (Same.refl X _) (fun _ _ h => h) hle
  · intro i hi hcut
    have hsame := full_same hr i 0 (by omega) (fun k o _ hk hok => by
      have hlt : k < ops.size := (Array.getElem?_eq_some_iff.1 hok).1
      cases hsk : isStore o.op with
      | false => rfl
      | true =>
        have := (hcut k o hok hsk).2 (by omega)
        rw [hun k hlt] at this
        cases this)
    rw [Nat.zero_add] at hsame
    rw [hsame]
    unfold full
    rw [h0, Nat.sub_zero]
    exact hh.extend _
  · intro i hi _ id h3 h4
    have hm := heap_mono hr i 0 (by omega)
    rw [Nat.zero_add, h0] at hm
    rw [List.getElem?_append_right (by rw [hh.len]; omega), List.getElem?_replicate]
    rw [if_pos]
    -- the places that are laid beforehand are enough
    have hfl : (full ops.size S ops.size).length ≤ (full ops.size S 0).length := by
      have hlen : ∀ d i, i + d ≤ ops.size → (full ops.size S (i + d)).length = (full ops.size S i).length := by
        intro d
        induction d with
        | zero => intro i _; rfl
        | succ d ih =>
          intro i hid
          have hlt : i + d < ops.size := by omega
          have ho : ops[i + d]? = some ops[i + d] := by simp [hlt]
          have hst := (hr.step (i + d) _ ho).heap
          obtain ⟨hf1, hf2⟩ := full_step hr ho
          rw [show i + (d + 1) = (i + d) + 1 by omega, ← ih i (by omega)]
          cases hsk : isStore ops[i + d].op with
          | false => rw [hf1 hsk]
          | true =>
            rw [hf2]
            unfold full
            have := hst.1
            simp
            omega
      have := hlen ops.size 0 (by omega)
      rw [Nat.zero_add] at this
      omega
    have hme := heap_mono hr (ops.size - (i + 1)) (i + 1) (by omega)
    rw [show i + 1 + (ops.size - (i + 1)) = ops.size by omega] at hme
    unfold full at hfl
    rw [Nat.sub_self, later, List.append_nil, List.length_append, Nat.sub_zero, h0] at hfl
    rw [hh.len]
    omega

end
end Go.AM

namespace Go.AM

def fzC (H : List Ob) (keep : List Nat) : PV → Option PV
  | .ptr id i off => match keep.idxOf? id with
    | some j => some (.ptr j i off)
    | none => (fz1 H (.ptr id i off)).map .fv
  | .lsl id off len s => match keep.idxOf? id with
    | some j => some (.lsl j off len s)
    | none => (fz1 H (.lsl id off len s)).map .fv
  | v => (fz1 H v).map .fv
def fzCs (H : List Ob) (keep : List Nat) : List PV → Option (List PV)
  | [] => some []
  | v :: vs => match fzC H keep v, fzCs H keep vs with | some x, some xs => some (x :: xs) | _, _ => none
def fzV (H : List Ob) (keep : List Nat) : PV → Option PV
  | .agg cs => (fzCs H keep cs).map .agg
  | v => fzC H keep v
def fzVs (H : List Ob) (keep : List Nat) : List PV → Option (List PV)
  | [] => some []
  | v :: vs => match fzV H keep v, fzVs H keep vs with | some x, some xs => some (x :: xs) | _, _ => none
def fzX (H : List Ob) (keep : List Nat) : PV → Option PV
  | .tup vs => (fzVs H keep vs).map .tup
  | v => fzV H keep v
def idsC (H : List Ob) (keep : List Nat) : PV → List Nat
  | .ptr id i off => if keep.idxOf? id = none then ids1 H (.ptr id i off) else []
  | .lsl id off len s => if keep.idxOf? id = none then ids1 H (.lsl id off len s) else []
  | v => ids1 H v
def idsV (H : List Ob) (keep : List Nat) : PV → List Nat
  | .agg cs => cs.flatMap (idsC H keep)
  | v => idsC H keep v
def idsX (H : List Ob) (keep : List Nat) : PV → List Nat
  | .tup vs => vs.flatMap (idsV H keep)
  | v => idsV H keep v

def resV1 (T : Tab) (st : St) : ResultVar → Option (Prop × PV)
  | .tmp t => some (True, st.get t)
  | .cell a t => match T.at t, st.get a with
    | some i, .ptr id j off => match cellsAt st.heap id j off i.size with
      | some (cd, cs) => match oneOr i cs with
        | some v => some (cd, v)
        | none => none
      | none => none
    | _, _ => none
def resVs (T : Tab) (st : St) : List ResultVar → Option (Prop × List PV)
  | [] => some (True, [])
  | r :: rs => match resV1 T st r, resVs T st rs with
    | some (c1, v), some (c2, vs) => some (c1 ∧ c2, v :: vs)
    | _, _ => none
def oneRes : List PV → PV
  | [v] => v
  | vs => .tup vs

def RetOK (T : Tab) (rs : List ResultVar) (m : Nat) (st : St) (H1 : List Ob) (res : PV) : Prop :=
  ∃ cd vs keep, resVs T st rs = some (cd, vs) ∧ cd ∧ keep.Nodup ∧ (∀ i, i < m → keep[i]? = some i) ∧ fzX st.heap keep (oneRes vs) = some res ∧
    H1.length = keep.length ∧ (∀ (j id : Nat), keep[j]? = some id → (shutIds (idsX st.heap keep (oneRes vs)) st.heap)[id]? = H1[j]?) ∧ ∀ o ∈ H1, o.closed ∧ o.rw = true

section
variable {P : Program} {T : Tab}

theorem HRd.world {c : Ctx} {w w' : World} {X : Nat → Prop} {ρ : Places} {H : List Ob} (h : HRd c w X ρ H) (hw : w'.heap = w.heap) : HRd c w' X ρ H := by
  have hs : Same X w w' := ⟨by rw [hw]; exact Nat.le_refl _, fun b _ _ => by rw [hw]⟩
  refine ⟨h.len, fun id p o hp ho => (h.ob id p o hp ho).keep hs (fun _ _ h => h) (Places.Le.refl ρ) (fun _ g _ _ => ⟨by rw [hw], Iff.rfl⟩), h.inj, fun id p o g hp ho hr hg => by rw [hw]; exact h.own id p o g hp ho hr hg, h.xo,
    fun b hb => by rw [hw]; exact h.xlt b hb, by rw [hw]; exact h.ge, h.base⟩

theorem SRd.drew {c : Ctx} {st : St} {a : Act} {w : World} (h : SRd c st a w) : SRd c st a { w with drawn := w.drawn + 1 } := by
  obtain ⟨X, ρ, hh, he, hd, hk⟩ := h
  refine ⟨X, ρ, hh.world rfl, ⟨he.1, fun i v x hv hx => (he.2 i v x hv hx).mono ⟨Nat.le_refl _, fun _ _ _ => rfl⟩ (fun _ _ h => h) (Places.Le.refl ρ)⟩, hd, ⟨⟨hk.os, hk.tape, hk.output, hk.size, hk.block⟩, Nat.le_trans hk.drawn (Nat.le_succ _)⟩⟩

theorem SRd.shut {c : Ctx} {st : St} {a : Act} {w : World} (h : SRd c st a w) (ids : List Nat) : SRd c { st with heap := shutIds ids st.heap } a w := by
  obtain ⟨X, ρ, hh, he, hd, hk⟩ := h
  obtain ⟨X', hh', hs, _⟩ := hh.shutIds ids
  exact ⟨X', ρ, hh', he.stp (c := c) (Stp.same_world hs), hd, hk⟩

theorem wp_loop_n {cd : Code} {Q : Exit → Act → World → Prop} (J : Nat → Act → World → Prop) {n : Nat} {a : Act} {w : World} (h₀ : J n a w)
    (round : ∀ n a w, J n a w → cd.wp P (Exit.then (fun a' w' => ∃ m, m < n ∧ J m a' w') Q) a w) : (Code.loop cd).wp P Q a w := by
  intro b k cs
  have key : ∀ n a w, J n a w → ∃ e a' w', Q e a' w' ∧ Arrives P (lone (b.at a (.code cd :: .inLoop cd :: k)) cs w) b k cs e a' w' := by
    intro n
    induction n using Nat.strongRecOn with
    | _ n ih =>
      intro a w hI
      obtain ⟨e, a₁, w₁, hq, harr⟩ := round n a w hI b (.inLoop cd :: k) cs
      cases e with
      | normal =>
        obtain ⟨m, hlt, hI₁⟩ := hq
        obtain ⟨e₂, a₂, w₂, hq₂, harr₂⟩ := ih m hlt a₁ w₁ hI₁
        exact ⟨e₂, a₂, w₂, hq₂, .of_steps (Steps.trans harr (.one step_inLoop)) harr₂⟩
      | exit id => exact ⟨_, a₁, w₁, hq, .pass (x := .inLoop cd) rfl (fun _ _ => .inl (by simp)) harr⟩
      | goto l => exact ⟨_, a₁, w₁, hq, .pass (x := .inLoop cd) rfl (fun _ _ => .inl (by simp)) harr⟩
      | ret => exact ⟨_, a₁, w₁, hq, .pass (x := .inLoop cd) rfl (fun _ _ => .inl (by simp)) harr⟩
      | panic ch => exact ⟨_, a₁, w₁, hq, .pass (x := .inLoop cd) rfl (fun _ _ => .inl (by simp)) harr⟩
      | outgrown => exact ⟨_, a₁, w₁, hq, .pass (x := .inLoop cd) rfl (fun _ _ => .inl (by simp)) harr⟩
  obtain ⟨e, a', w', hq, harr⟩ := key n a w h₀
  exact ⟨e, a', w', hq, .of_steps (.one step_loop) harr⟩

def AExit.conv : AExit → Exit
  | .normal => .normal
  | .exit id => .exit id
  | .ret => .ret

theorem wpa_sound (hT : TabOk P T) (hm : P.follows .mixedOrders = true) {m : Nat} {c : Ctx} (hml : c.base.length ≤ m) : ∀ (cd : Code) {st : St} {Q : AExit → St → Prop} {a : Act} {w : World} {Q' : Exit → Act → World → Prop}, WPA P T m cd st Q → SRd c st a w →
    (∀ e st' a' w', Q e st' → SRd c st' a' w' → Q' e.conv a' w') → cd.wp P Q' a w
  | .skip, st, Q, a, w, Q', h, hs, hq => wp_skip (hq .normal st a w h hs)
  | .label _, st, Q, a, w, Q', h, hs, hq => wp_label (hq .normal st a w h hs)
  | .exit id, st, Q, a, w, Q', h, hs, hq => wp_exit (hq (.exit id) st a w h hs)
  | .ret, st, Q, a, w, Q', h, hs, hq => wp_ret (hq .ret st a w h hs)
  | .seq x y, st, Q, a, w, Q', h, hs, hq => by
    refine wp_seq (wpa_sound hT hm hml x h hs (fun e st' a' w' he hs' => ?_))
    cases e with
    | normal => exact wpa_sound hT hm hml y he hs' hq
    | exit id => exact hq (.exit id) st' a' w' he hs'
    | ret => exact hq .ret st' a' w' he hs'
  | .cond o x y, st, Q, a, w, Q', h, hs, hq => by
    simp only [WPA] at h
    split at h
    · rename_i b hb
      obtain ⟨X, ρ, hh, he, hd, hk⟩ := hs
      have hv := eval_rd he o
      rw [hb] at hv
      refine wp_cond hv.litInv ?_
      cases b with
      | true => exact wpa_sound hT hm hml x (h.1 rfl) ⟨X, ρ, hh, he, hd, hk⟩ hq
      | false => exact wpa_sound hT hm hml y (h.2 rfl) ⟨X, ρ, hh, he, hd, hk⟩ hq
    · exact h.elim
  | .block id x, st, Q, a, w, Q', h, hs, hq => by
    refine wp_block (wpa_sound hT hm hml x h hs (fun e st' a' w' he hs' => ?_))
    cases e with
    | normal => exact hq .normal st' a' w' he hs'
    | exit i =>
      simp only at he
      simp only [AExit.conv, Exit.inBlock]
      split
      · rename_i hi; rw [if_pos hi] at he; exact hq .normal st' a' w' he hs'
      · rename_i hi; rw [if_neg hi] at he; exact hq (.exit i) st' a' w' he hs'
    | ret => exact hq .ret st' a' w' he hs'
  | .loop x, st, Q, a, w, Q', h, hs, hq => by
    obtain ⟨I, ⟨n, st0, hw, hi⟩, hround⟩ := h
    refine wp_loop_n (fun n a w => ∃ st, I n st ∧ SRd c st a w) (n := n) ⟨st0, hi, hw c a w hml hs⟩ (fun n a w ⟨st1, hi1, hs1⟩ => ?_)
    refine wpa_sound hT hm hml x (hround n st1 hi1) hs1 (fun e st' a' w' he hs' => ?_)
    cases e with
    | normal =>
      obtain ⟨m, st2, hlt, hw2, hi2⟩ := he
      exact ⟨m, hlt, st2, hi2, hw2 c a' w' hml hs'⟩
    | exit id => exact hq (.exit id) st' a' w' he hs'
    | ret => exact hq .ret st' a' w' he hs'
  | .region _ ops draw, st, Q, a, w, Q', h, hs, hq => by
    simp only [WPA] at h
    cases draw with
    | false =>
      simp only [Bool.false_eq_true, if_false] at h
      refine wp_region ?_
      have := wpops_sound hT (Q := Q') (c := c) (K := Q .normal) (fun st a w hk hs => hq .normal st a w hk hs) ops.toList 0 st a w (by simp) h hs
      rw [Array.length_toList] at this
      rwa [List.range_eq_range']
    | true =>
      simp only [if_true] at h
      rcases h with ⟨hok, ids, h⟩ | ⟨st1, h, h1⟩
      · exact wp_region_any hm (draw_sound hT hok h (fun st a w hk hs => hq .normal st a w hk hs) (hs.shut ids).drew)
      · exact wp_region_any hm (any_sound hT (K := fun s => s = st1) (fun st a w hk hs => by subst hk; exact hq .normal st a w h1 hs) _ _ _ _ _ h hs.drew)
  | .rangeFunc .., _, _, _, _, _, h, _, _ => h.elim
  | .scope _, _, _, _, _, _, h, _, _ => h.elim
  | .goto _, _, _, _, _, _, h, _, _ => h.elim
  | .refuse _, _, _, _, _, _, h, _, _ => h.elim

end
end Go.AM

namespace Go.AM

section
variable {P : Program} {T : Tab}

theorem load_at (hT : TabOk P T) {t : TypeId} {i : TyI} (hi : T.at t = some i) {c : Ctx} {w : World} {X : Nat → Prop} {ρ : Places} {F : List Ob} (h : HRd c w X ρ F) {id j off : Nat} {u0 : Value} (hx : PRd w X ρ u0 (.ptr id j off))
    {cd : Prop} {cs : List PV} (hcs : cellsAt F id j off i.size = some (cd, cs)) (hc : cd) {v : PV} (hone : oneOr i cs = some v) :
    ∃ ad u, u0 = .pointer (some ad) ∧ (loadVar t ad).run P w = .ok u w ∧ PRd w X ρ u v := by
  cases hx with
  | ptr _ _ _ g p hp hg =>
    unfold cellsAt at hcs
    split at hcs
    · rename_i rw xs hob
      simp only [Option.some.injEq, Prod.mk.injEq] at hcs
      obtain ⟨rfl, rfl⟩ := hcs
      obtain ⟨hjl, hoff⟩ := hc
      obtain ⟨⟨hpos, hlen, us, hus, hcell⟩, _⟩ := h.ob id p _ hp hob
      have hgj : xs[j]? = some (xs.getD j []) := by simp [hjl]
      have hown : World.ownsRow w 0 p.e p.size (.slice (some ⟨g, 0, none⟩) xs.length p.cap) xs.length us := by simpa [Place.val, hg] using hus
      have hfl : (((xs.getD j []).drop off).take i.size).length = i.size := by simp only [List.length_take, List.length_drop]; omega
      have hget : ∀ (k : Nat) y, ((((xs.getD j []).drop off).take i.size).map PV.fv)[k]? = some y → ∃ z u, y = .fv z ∧ us[j * p.size + (off + k)]? = some u ∧ FRd w X u z := by
        intro k y hy
        rw [List.getElem?_map, Option.map_eq_some_iff] at hy
        obtain ⟨z, hz, rfl⟩ := hy
        rw [List.getElem?_take] at hz
        split at hz
        · rw [List.getElem?_drop] at hz
          obtain ⟨u, hu, hfu⟩ := hcell j (off + k) _ z hgj hz
          exact ⟨z, u, rfl, hu, hfu⟩
        · cases hz
      obtain ⟨u, hrun, hrd⟩ := load_rd hT hi (w := w) (X := X) (ρ := ρ) (ad := ⟨g, j * p.size + off, none⟩) rfl (us := fun k => us.getD (j * p.size + (off + k)) undef) (by simpa using hfl)
        (fun k y hy => by
          obtain ⟨z, u, _, hu, _⟩ := hget k y hy
          have := hown.cells (g := g) rfl _ u hu
          rw [addr_add, Nat.zero_add] at this
          simp only [List.getD_eq_getElem?_getD, hu, Option.getD_some, Nat.add_assoc]
          exact this)
        (fun k y hy => by
          obtain ⟨z, u, _, hu, hfu⟩ := hget k y hy
          simp only [List.getD_eq_getElem?_getD, hu, Option.getD_some]
          exact hfu.one)
        (fun k y hy => by
          obtain ⟨z, u, rfl, hu, hfu⟩ := hget k y hy
          simp only [List.getD_eq_getElem?_getD, hu, Option.getD_some]
          exact .fv _ _ hfu) hone
      exact ⟨_, u, rfl, hrun, hrd⟩
    · rename_i rw bs hob
      simp only [Option.some.injEq, Prod.mk.injEq] at hcs
      obtain ⟨rfl, rfl⟩ := hcs
      obtain ⟨rfl, hoff⟩ := hc
      obtain ⟨⟨g', us, hg', hh, hsz, h1, hcell⟩, _⟩ := h.ob id p _ hp hob
      rw [hg] at hg'; cases hg'
      have hfl : ((bs.drop off).take i.size).length = i.size := by simp only [List.length_take, List.length_drop]; omega
      have hget : ∀ (k : Nat) y, ((bs.drop off).take i.size)[k]? = some y → ∃ u, us[off + k]? = some u ∧ PRd w X ρ u y := by
        intro k y hy
        rw [List.getElem?_take] at hy
        split at hy
        · rw [List.getElem?_drop] at hy
          have hlt : off + k < us.size := by rw [hsz]; exact (List.getElem?_eq_some_iff.1 hy).1
          exact ⟨us[off + k], Array.getElem?_eq_getElem hlt, hcell _ _ _ (Array.getElem?_eq_getElem hlt) hy⟩
        · cases hy
      obtain ⟨u, hrun, hrd⟩ := load_rd hT hi (w := w) (X := X) (ρ := ρ) (ad := ⟨g, 0 * p.size + off, none⟩) rfl (us := fun k => us.getD (off + k) undef) hfl
        (fun k y hy => by
          obtain ⟨u, hu, _⟩ := hget k y hy
          rw [cell_of_row w g _ us _ _ hh]
          simp only [Nat.zero_mul, Nat.zero_add, Array.getD_eq_getD_getElem?, hu, Option.getD_some])
        (fun k y hy => by
          obtain ⟨u, hu, _⟩ := hget k y hy
          simp only [Array.getD_eq_getD_getElem?, hu, Option.getD_some]
          exact h1 _ _ hu)
        (fun k y hy => by
          obtain ⟨u, hu, hfu⟩ := hget k y hy
          simp only [Array.getD_eq_getD_getElem?, hu, Option.getD_some]
          exact hfu) hone
      exact ⟨_, u, rfl, hrun, hrd⟩
    · cases hcs

def readRes (tmps : Array Value) : ResultVar → Sem Value
  | .tmp t => pure (tmps.getD t undef)
  | .cell a t => do loadVar t (← asAddr (tmps.getD a undef))

theorem res1_rd (hT : TabOk P T) {c : Ctx} {w : World} {X : Nat → Prop} {ρ : Places} {st : St} {tmps : Array Value} (h : HRd c w X ρ st.heap) (he : EnvRd w X ρ tmps st.env) {r : ResultVar} {cd : Prop} {v : PV}
    (hr : resV1 T st r = some (cd, v)) (hc : cd) : ∃ u, (readRes tmps r).run P w = .ok u w ∧ PRd w X ρ u v := by
  have hev := fun t => eval_rd (a := { tmps, defers := [] }) he (.tmp t)
  simp only [Act.eval, ev] at hev
  cases r with
  | tmp t =>
    simp only [resV1, Option.some.injEq, Prod.mk.injEq] at hr
    obtain ⟨rfl, rfl⟩ := hr
    exact ⟨_, rfl, hev t⟩
  | cell a t =>
    simp only [resV1] at hr
    split at hr
    · rename_i i id j off hi hv
      split at hr
      · rename_i cd' cs hcs
        split at hr
        · rename_i v' hone
          simp only [Option.some.injEq, Prod.mk.injEq] at hr
          obtain ⟨rfl, rfl⟩ := hr
          have ha := hev a
          unfold St.get at hv
          rw [hv] at ha
          obtain ⟨ad, u, hu, hrun, hrd⟩ := load_at hT hi h ha hcs hc hone
          refine ⟨u, ?_, hrd⟩
          simp only [readRes, hu, asAddr, Sem.run_bind, Sem.run_pure, Result.andThen_ok, hrun]
        · cases hr
      · cases hr
    · cases hr

theorem ress_rd (hT : TabOk P T) {c : Ctx} {w : World} {X : Nat → Prop} {ρ : Places} {st : St} {tmps : Array Value} (h : HRd c w X ρ st.heap) (he : EnvRd w X ρ tmps st.env) :
    ∀ (rs : List ResultVar) (cd : Prop) (vs : List PV), resVs T st rs = some (cd, vs) → cd → ∃ us : List Value, (rs.mapM (readRes tmps)).run P w = .ok us w ∧ us.length = vs.length ∧ ∀ (i : Nat) u v, us[i]? = some u → vs[i]? = some v → PRd w X ρ u v
  | [], cd, vs, hr, _ => by
    simp only [resVs, Option.some.injEq, Prod.mk.injEq] at hr
    obtain ⟨rfl, rfl⟩ := hr
    exact ⟨[], rfl, rfl, by simp⟩
  | r :: rs, cd, vs, hr, hc => by
    simp only [resVs] at hr
    split at hr
    · rename_i c1 v c2 vs' h1 h2
      simp only [Option.some.injEq, Prod.mk.injEq] at hr
      obtain ⟨rfl, rfl⟩ := hr
      obtain ⟨u, hu, hur⟩ := res1_rd hT h he h1 hc.1
      obtain ⟨us, hus, hl, hrel⟩ := ress_rd hT h he rs c2 vs' h2 hc.2
      refine ⟨u :: us, by simp [List.mapM_cons, hu, hus], by simp [hl], fun i u' v' hi hv => ?_⟩
      cases i with
      | zero => simp at hi hv; subst hi; subst hv; exact hur
      | succ i => simp at hi hv; exact hrel i u' v' hi hv
    · cases hr

theorem results_run (hT : TabOk P T) {fn : Func} {c : Ctx} {w : World} {X : Nat → Prop} {ρ : Places} {st : St} {tmps : Array Value} (h : HRd c w X ρ st.heap) (he : EnvRd w X ρ tmps st.env) {cd : Prop} {vs : List PV}
    (hr : resVs T st fn.results.toList = some (cd, vs)) (hc : cd) : ∃ u, (results fn tmps).run P w = .ok u w ∧ PRd w X ρ u (oneRes vs) := by
  obtain ⟨us, hus, hl, hrel⟩ := ress_rd hT h he _ cd vs hr hc
  have e : results fn tmps = (do let vs ← fn.results.mapM (readRes tmps); pure (if h : vs.size = 1 then vs[0] else .tuple vs)) := by
    unfold results
    congr 1
  have hmap : (fn.results.mapM (readRes tmps)).run P w = .ok us.toArray w := by
    rw [Array.mapM_eq_mapM_toList]
    simp [hus]
  rw [e]
  simp only [Sem.run_bind, hmap, Result.andThen_ok, Sem.run_pure]
  by_cases h1 : us.length = 1
  · match us, vs, h1, hl, hrel with
    | [u], [v], _, _, hrel => exact ⟨u, by simp, hrel 0 u v rfl rfl⟩
  · refine ⟨.tuple us.toArray, by simp [h1], ?_⟩
    have : oneRes vs = .tup vs := by
      unfold oneRes
      split
      · rename_i v; simp at hl; exact absurd hl h1
      · rfl
    rw [this]
    refine .tup _ _ (by simpa using hl) (fun i u v hu hv => hrel i u v (by simpa using hu) hv)

theorem fzC_rd {c : Ctx} {w : World} {X X' : Nat → Prop} {ρ ρ' : Places} {H : List Ob} {keep : List Nat} (h : HRd c w X ρ H) {u : Value} {x y : PV} (hv : PRd w X ρ u x) (hf : fzC H keep x = some y) (hX : ∀ b, X' b → X b)
    (hn : ∀ id ∈ idsC H keep x, ∀ p o g, ρ[id]? = some (some p) → H[id]? = some o → o.alive → p.b = some g → ¬ X' g) (hρ : ∀ (id j : Nat) p, keep.idxOf? id = some j → ρ[id]? = some (some p) → ρ'[j]? = some (some p)) : PRd w X' ρ' u y := by
  have plain : ∀ z, fz1 H x = some z → (∀ id ∈ ids1 H x, ∀ p o g, ρ[id]? = some (some p) → H[id]? = some o → o.alive → p.b = some g → ¬ X' g) → PRd w X' ρ' u (.fv z) :=
    fun z hz hn => .fv _ _ (fz1_rd h (fun _ _ h => h) hv hz hX hn)
  cases x with
  | ptr id i off =>
    simp only [fzC] at hf
    split at hf
    · rename_i j hj
      cases hf
      cases hv with
      | ptr _ _ _ g p hp hg => exact .ptr j i off g p (hρ id j p hj hp) hg
    · rename_i hj
      rw [Option.map_eq_some_iff] at hf
      obtain ⟨z, hz, rfl⟩ := hf
      exact plain z hz (fun k hk => hn k (by simp only [idsC, hj, if_true]; exact hk))
  | lsl id off len s =>
    simp only [fzC] at hf
    split at hf
    · rename_i j hj
      cases hf
      obtain ⟨p, hp, hps, ⟨hg, rfl, rfl, rfl⟩ | ⟨g, og, hg, rfl, hl, hoo⟩⟩ := hv.lslInv
      · subst hps; exact .lsl0 j p (hρ id j p hj hp) hg
      · subst hps; exact .lsl j off len og g p (hρ id j p hj hp) hg hl hoo
    · rename_i hj
      rw [Option.map_eq_some_iff] at hf
      obtain ⟨z, hz, rfl⟩ := hf
      exact plain z hz (fun k hk => hn k (by simp only [idsC, hj, if_true]; exact hk))
  | any => simp [fzC, fz1, fz0] at hf
  | agg _ => simp [fzC, fz1, fz0] at hf
  | tup _ => simp [fzC, fz1, fz0] at hf
  | tab _ => simp [fzC, fz1, fz0] at hf
  | fv z =>
    simp only [fzC, Option.map_eq_some_iff] at hf
    obtain ⟨z, hz, rfl⟩ := hf
    exact plain z hz (fun k hk => hn k hk)
  | nilsl =>
    simp only [fzC, Option.map_eq_some_iff] at hf
    obtain ⟨z, hz, rfl⟩ := hf
    exact plain z hz (fun k hk => hn k hk)
  | clip xs =>
    simp only [fzC, Option.map_eq_some_iff] at hf
    obtain ⟨z, hz, rfl⟩ := hf
    exact plain z hz (fun k hk => hn k hk)

theorem fzCs_get {H : List Ob} {keep : List Nat} : ∀ {xs ys : List PV}, fzCs H keep xs = some ys → ys.length = xs.length ∧ ∀ (i : Nat) y, ys[i]? = some y → ∃ x, xs[i]? = some x ∧ fzC H keep x = some y
  | [], ys, h => by simp [fzCs] at h; subst h; simp
  | x :: xs, ys, h => by
    simp only [fzCs] at h
    split at h
    · rename_i y ys' h1 h2
      cases h
      obtain ⟨hl, hg⟩ := fzCs_get h2
      refine ⟨by simp [hl], fun i z hz => ?_⟩
      cases i with
      | zero => simp at hz; subst hz; exact ⟨x, rfl, h1⟩
      | succ i => simp at hz ⊢; exact hg i z hz
    · cases h

theorem fzVs_get {H : List Ob} {keep : List Nat} : ∀ {xs ys : List PV}, fzVs H keep xs = some ys → ys.length = xs.length ∧ ∀ (i : Nat) y, ys[i]? = some y → ∃ x, xs[i]? = some x ∧ fzV H keep x = some y
  | [], ys, h => by simp [fzVs] at h; subst h; simp
  | x :: xs, ys, h => by
    simp only [fzVs] at h
    split at h
    · rename_i y ys' h1 h2
      cases h
      obtain ⟨hl, hg⟩ := fzVs_get h2
      refine ⟨by simp [hl], fun i z hz => ?_⟩
      cases i with
      | zero => simp at hz; subst hz; exact ⟨x, rfl, h1⟩
      | succ i => simp at hz ⊢; exact hg i z hz
    · cases h

theorem fzV_rd {c : Ctx} {w : World} {X X' : Nat → Prop} {ρ ρ' : Places} {H : List Ob} {keep : List Nat} (h : HRd c w X ρ H) {u : Value} {x y : PV} (hv : PRd w X ρ u x) (hf : fzV H keep x = some y) (hX : ∀ b, X' b → X b)
    (hn : ∀ id ∈ idsV H keep x, ∀ p o g, ρ[id]? = some (some p) → H[id]? = some o → o.alive → p.b = some g → ¬ X' g) (hρ : ∀ (id j : Nat) p, keep.idxOf? id = some j → ρ[id]? = some (some p) → ρ'[j]? = some (some p)) : PRd w X' ρ' u y := by
  by_cases hagg : ∃ cs, x = .agg cs
  · obtain ⟨cs, rfl⟩ := hagg
    simp only [fzV, Option.map_eq_some_iff] at hf
    obtain ⟨ys, hys, rfl⟩ := hf
    obtain ⟨hl, hg⟩ := fzCs_get hys
    cases hv with
    | agg us _ hsz h1 hr =>
      refine .agg us ys (by rw [hl]; exact hsz) h1 (fun i u' y hu hy => ?_)
      obtain ⟨x, hx, hfx⟩ := hg i y hy
      refine fzC_rd h (hr i u' x hu hx) hfx hX (fun k hk => hn k ?_) hρ
      simp only [idsV, List.mem_flatMap]
      exact ⟨x, List.mem_of_getElem? hx, hk⟩
  · have e1 : fzV H keep x = fzC H keep x := by
      unfold fzV
      split
      · exact absurd ⟨_, rfl⟩ hagg
      · rfl
    have e2 : idsV H keep x = idsC H keep x := by
      unfold idsV
      split
      · exact absurd ⟨_, rfl⟩ hagg
      · rfl
    rw [e1] at hf
    rw [e2] at hn
    exact fzC_rd h hv hf hX hn hρ

theorem fzX_rd {c : Ctx} {w : World} {X X' : Nat → Prop} {ρ ρ' : Places} {H : List Ob} {keep : List Nat} (h : HRd c w X ρ H) {u : Value} {x y : PV} (hv : PRd w X ρ u x) (hf : fzX H keep x = some y) (hX : ∀ b, X' b → X b)
    (hn : ∀ id ∈ idsX H keep x, ∀ p o g, ρ[id]? = some (some p) → H[id]? = some o → o.alive → p.b = some g → ¬ X' g) (hρ : ∀ (id j : Nat) p, keep.idxOf? id = some j → ρ[id]? = some (some p) → ρ'[j]? = some (some p)) : PRd w X' ρ' u y := by
  by_cases htup : ∃ cs, x = .tup cs
  · obtain ⟨cs, rfl⟩ := htup
    simp only [fzX, Option.map_eq_some_iff] at hf
    obtain ⟨ys, hys, rfl⟩ := hf
    obtain ⟨hl, hg⟩ := fzVs_get hys
    cases hv with
    | tup us _ hsz hr =>
      refine .tup us ys (by rw [hl]; exact hsz) (fun i u' y hu hy => ?_)
      obtain ⟨x, hx, hfx⟩ := hg i y hy
      refine fzV_rd h (hr i u' x hu hx) hfx hX (fun k hk => hn k ?_) hρ
      simp only [idsX, List.mem_flatMap]
      exact ⟨x, List.mem_of_getElem? hx, hk⟩
  · have e1 : fzX H keep x = fzV H keep x := by
      unfold fzX
      split
      · exact absurd ⟨_, rfl⟩ htup
      · rfl
    have e2 : idsX H keep x = idsV H keep x := by
      unfold idsX
      split
      · exact absurd ⟨_, rfl⟩ htup
      · rfl
    rw [e1] at hf
    rw [e2] at hn
    exact fzV_rd h hv hf hX hn hρ

theorem den_of_wpa (hT : TabOk P T) (hm : P.follows .mixedOrders = true) {k : FuncId} {fn : Func} {cd : Code} (hf : P.funcs[k]? = some fn) (hb : fn.body = some cd) (hname : (fn.name == "runtime.NumGoroutine") = false)
    {H0 : List Ob} {args : List PV} {H1 : List Ob} {res : PV}
    (h : WPA P T H0.length cd ⟨args ++ List.replicate (fn.ntmps - args.length) .any, H0⟩ fun e st => match e with | .exit _ => False | _ => RetOK T fn.results.toList H0.length st H1 res) : Den P k H0 args H1 res := by
  refine ⟨⟨fn, cd, hf, hb, hname⟩, fun c X ρ vs hh hM hvs => ?_⟩
  refine calls_of_wp hf hb ?_
  let c2 : Ctx := { c with base := ρ }
  have hh2 : HRd c2 c.w0 X ρ H0 := ⟨hh.len, hh.ob, hh.inj, hh.own, hh.xo, hh.xlt, hh.ge, Places.Le.refl ρ⟩
  have hs : SRd c2 ⟨args ++ List.replicate (fn.ntmps - args.length) .any, H0⟩ { tmps := vs ++ Array.replicate (fn.ntmps - vs.size) undef, defers := [] } c.w0 := by
    refine ⟨X, ρ, hh2, ⟨by simp [hvs.1], fun i v x hv hx => ?_⟩, rfl, Keeps.refl c2⟩
    by_cases hi : i < vs.size
    · rw [Array.getElem?_append_left hi] at hv
      rw [List.getElem?_append_left (by rw [← hvs.1]; exact hi)] at hx
      exact hvs.2 i v x hv hx
    · rw [List.getElem?_append_right (by rw [← hvs.1]; omega), List.getElem?_replicate] at hx
      split at hx
      · cases hx; exact .any _
      · cases hx
  have fin : ∀ st' a' w', RetOK T fn.results.toList H0.length st' H1 res → SRd c2 st' a' w' → a'.defers = [] ∧ ∃ v, (results fn a'.tmps).run P w' = .ok v w' ∧ ∃ v2 X' ρ', Ending.returned v = .returned v2 ∧ Keeps c w' ∧ HRd c w' X' ρ' H1 ∧ PRd w' X' ρ' v2 res ∧
      ρ.Le ρ' ∧ (∀ (id : Nat) p, ρ.length ≤ id → ρ'[id]? = some (some p) → ∀ g, p.b = some g → c.w0.heap.size ≤ g) := by
    intro st' a' w' hret ⟨X', ρ', h', he', hd', hk'⟩
    obtain ⟨cd', vs', keep, hres, hcd, hnd, hkeep, hfz, hlen, hobs, hcl⟩ := hret
    obtain ⟨u, hrun, hu⟩ := results_run hT h' he' hres hcd
    obtain ⟨X1, h1, hs1, hn1⟩ := h'.shutIds (idsX st'.heap keep (oneRes vs'))
    have hkl : ∀ (j id : Nat), keep[j]? = some id → ∃ o, (shutIds (idsX st'.heap keep (oneRes vs')) st'.heap)[id]? = some o ∧ H1[j]? = some o ∧ o.closed ∧ o.rw = true := by
      intro j id hj
      have hjl : j < H1.length := by rw [hlen]; exact (List.getElem?_eq_some_iff.1 hj).1
      have hoj := hobs j id hj
      have hg : H1[j]? = some H1[j] := by simp [hjl]
      rw [hg] at hoj
      exact ⟨H1[j], hoj, hg, hcl _ (List.getElem_mem _)⟩
    have hinjk : ∀ i j id, keep[i]? = some id → keep[j]? = some id → i = j := fun i j id hi hj => by
      obtain ⟨hi1, hi2⟩ := List.getElem?_eq_some_iff.1 hi
      obtain ⟨hj1, hj2⟩ := List.getElem?_eq_some_iff.1 hj
      exact (List.getElem_inj hnd).1 (hi2.trans hj2.symm)
    let ρk : Places := keep.map fun id => (ρ'[id]?).getD none
    have hρk : ∀ (j id : Nat) p, keep[j]? = some id → ρk[j]? = some (some p) → ρ'[id]? = some (some p) := by
      intro j id p hj hp
      simp only [ρk, List.getElem?_map, hj, Option.map_some, Option.some.injEq] at hp
      cases hg : ρ'[id]? with
      | none => rw [hg] at hp; cases hp
      | some q => rw [hg] at hp; simp at hp; rw [hp]
    have hρk2 : ∀ (id j : Nat) p, keep.idxOf? id = some j → ρ'[id]? = some (some p) → ρk[j]? = some (some p) := by
      intro id j p hj hp
      have hkj : keep[j]? = some id := by
        rw [List.idxOf?, List.findIdx?_eq_some_iff_getElem] at hj
        obtain ⟨hjl, h2, _⟩ := hj
        simp only [beq_iff_eq] at h2
        simp [hjl, h2]
      simp only [ρk, List.getElem?_map, hkj, Option.map_some, hp, Option.getD_some]
    have hget : ∀ (j : Nat) p, ρk[j]? = some (some p) → ∃ id, keep[j]? = some id ∧ ρ'[id]? = some (some p) := by
      intro j p hp
      have hjl : j < keep.length := by have := (List.getElem?_eq_some_iff.1 hp).1; simpa [ρk] using this
      exact ⟨keep[j], by simp [hjl], hρk j _ p (by simp [hjl]) hp⟩
    have hle : ρ.Le ρk := by
      intro i p hp
      have hil : i < H0.length := by rw [← hh.len]; exact (List.getElem?_eq_some_iff.1 hp).1
      have := h'.base i p hp
      simp only [ρk, List.getElem?_map, hkeep i hil, Option.map_some, this, Option.getD_some]
    refine ⟨hd', u, hrun, u, X1, ρk, rfl, ⟨⟨hk'.os, hk'.tape, hk'.output, hk'.size, hk'.block⟩, hk'.drawn⟩, ⟨by simp [ρk, hlen], ?_, ?_, ?_, h1.xo, h1.xlt, h1.ge, hh.base.trans hle⟩, ?_, hle, ?_⟩
    · intro j p o hp ho
      obtain ⟨id, hj, hp'⟩ := hget j p hp
      obtain ⟨o', h3, h4, h5, _⟩ := hkl j id hj
      rw [ho] at h4; cases h4
      exact (h1.ob id p o hp' h3).closed h5
    · intro i j p q o r g hp hq ho hr ho1 hr1 hb1 hb2
      obtain ⟨id1, hi, hp'⟩ := hget i p hp
      obtain ⟨id2, hj, hq'⟩ := hget j q hq
      obtain ⟨o', h3, h4, _, _⟩ := hkl i id1 hi
      obtain ⟨r', h5, h6, _, _⟩ := hkl j id2 hj
      rw [ho] at h4; cases h4
      rw [hr] at h6; cases h6
      have := h1.inj id1 id2 p q o r g hp' hq' h3 h5 ho1 hr1 hb1 hb2
      subst this
      exact hinjk i j id1 hi hj
    · intro j p o g hp ho ho1 hb1
      obtain ⟨id, hj, hp'⟩ := hget j p hp
      obtain ⟨o', h3, h4, _, _⟩ := hkl j id hj
      rw [ho] at h4; cases h4
      exact h1.own id p o g hp' h3 ho1 hb1
    · exact fzX_rd h' hu hfz hs1 hn1 hρk2
    · intro j p hjm hp g hg
      obtain ⟨id, hj, hp'⟩ := hget j p hp
      obtain ⟨o, h3, h4, _, hrw⟩ := hkl j id hj
      rcases (h1.own id p o g hp' h3 hrw hg).1 with h5 | h5
      · exact h5
      · exfalso
        obtain ⟨id2, q, hq, hqg⟩ := hM g h5
        have hil : id2 < H0.length := by rw [← hh.len]; exact (List.getElem?_eq_some_iff.1 hq).1
        have hq' := h'.base id2 q hq
        obtain ⟨o2, h6, _, _, hrw2⟩ := hkl id2 id2 (hkeep id2 hil)
        have := h1.inj id id2 p q o o2 g hp' hq' h3 h6 hrw hrw2 hg hqg
        subst this
        have := hinjk j id id hj (hkeep id hil)
        rw [hh.len] at hjm
        omega
  refine wpa_sound hT hm (m := H0.length) (by show ρ.length ≤ _; rw [hh.len]; exact Nat.le_refl _) cd h hs (fun e st' a' w' he hs' => ?_)
  cases e with
  | normal => exact fin st' a' w' he hs'
  | ret => exact fin st' a' w' he hs'
  | exit id => exact he.elim

end
end Go.AM

namespace Go.AM

theorem Weak.refl (m : Nat) (st : St) : Weak m st st := fun _ _ _ _ h => h
theorem Weak.trans {m : Nat} {a b c : St} (h : Weak m a b) (k : Weak m b c) : Weak m a c := fun x y z hl hs => k x y z hl (h x y z hl hs)

def le1 (keep : List Nat) : PV → PV → Prop
  | .fv x, .fv y => x = y
  | .nilsl, .nilsl => True
  | .nilsl, .fv (.sl []) => True
  | .clip xs, .clip ys => xs = ys
  | .clip xs, .fv (.sl ys) => xs = ys
  | .ptr id i off, .ptr j i' off' => keep[j]? = some id ∧ i = i' ∧ off = off'
  | .lsl id off len s, .lsl j off' len' s' => keep[j]? = some id ∧ off = off' ∧ len = len' ∧ s = s'
  | .tup [], .tup [] => True
  | .tab id, .tab j => keep[j]? = some id
  | _, .any => True
  | _, _ => False
def le1s (keep : List Nat) : List PV → List PV → Prop
  | [], [] => True
  | a :: as, b :: bs => le1 keep a b ∧ le1s keep as bs
  | _, _ => False
def leV (keep : List Nat) : PV → PV → Prop
  | .agg cs, .agg ds => le1s keep cs ds
  | a, b => le1 keep a b
def leVs (keep : List Nat) : List PV → List PV → Prop
  | [], [] => True
  | a :: as, b :: bs => leV keep a b ∧ leVs keep as bs
  | _, _ => False
def leO (keep : List Nat) : Ob → Ob → Prop
  | .row r xs, .row r' ys => r = r' ∧ xs = ys
  | .box r cs, .box r' ds => r = r' ∧ le1s keep cs ds
  | .tab n es, .tab n' es' => n = n' ∧ es = es'
  | _, .dead => True
  | _, _ => False
def leH (keep : List Nat) (H : List Ob) : List Nat → List Ob → Prop
  | [], [] => True
  | id :: ids, o :: os => (match H[id]? with | some o' => leO keep o' o | none => False) ∧ leH keep H ids os
  | _, _ => False

section
variable {w : World} {X : Nat → Prop} {ρ ρ' : Places} {keep : List Nat}

theorem le1_rd (hk : ∀ (j id : Nat), keep[j]? = some id → ρ'[j]? = ρ[id]?) {v : Value} : ∀ {x y : PV}, le1 keep x y → PRd w X ρ v x → PRd w X ρ' v y := by
  intro x y h hv
  unfold le1 at h
  split at h
  · subst h; cases hv; exact .fv _ _ ‹_›
  · cases hv; exact .nilsl
  · cases hv; exact .fv _ _ .nil
  · subst h; cases hv; exact .clip _ _ _ ‹_›
  · subst h; cases hv; exact .fv _ _ ‹_›
  · obtain ⟨h1, rfl, rfl⟩ := h
    cases hv with
    | ptr _ _ _ g p hp hg => exact .ptr _ _ _ g p (by rw [hk _ _ h1]; exact hp) hg
  · obtain ⟨h1, rfl, rfl, rfl⟩ := h
    cases hv with
    | lsl0 _ p hp hg => exact .lsl0 _ p (by rw [hk _ _ h1]; exact hp) hg
    | lsl _ _ _ o g p hp hg hl ho => exact .lsl _ _ _ o g p (by rw [hk _ _ h1]; exact hp) hg hl ho
  · cases hv with
    | tup us _ hn hr => exact .tup us [] hn (by simp)
  · cases hv with
    | tab _ g p hp hg => exact .tab _ g p (by rw [hk _ _ h]; exact hp) hg
  · exact .any _
  · exact h.elim

theorem le1s_get : ∀ {as bs : List PV}, le1s keep as bs → as.length = bs.length ∧ ∀ (i : Nat) a b, as[i]? = some a → bs[i]? = some b → le1 keep a b
  | [], [], _ => ⟨rfl, by simp⟩
  | a :: as, b :: bs, h => by
    obtain ⟨h1, h2⟩ := h
    obtain ⟨hl, hg⟩ := le1s_get h2
    refine ⟨by simp [hl], fun i x y hx hy => ?_⟩
    cases i with
    | zero => simp at hx hy; subst hx; subst hy; exact h1
    | succ i => exact hg i x y (by simpa using hx) (by simpa using hy)
  | [], _ :: _, h => h.elim
  | _ :: _, [], h => h.elim

theorem leV_rd (hk : ∀ (j id : Nat), keep[j]? = some id → ρ'[j]? = ρ[id]?) {v : Value} {x y : PV} (h : leV keep x y) (hv : PRd w X ρ v x) : PRd w X ρ' v y := by
  unfold leV at h
  split at h
  · obtain ⟨hl, hg⟩ := le1s_get h
    cases hv with
    | agg us _ hn h1 hr =>
      refine .agg us _ (hn.trans hl) h1 (fun i u c hu hc => ?_)
      rename_i cs ds
      have hi : i < cs.length := by rw [hl]; exact (List.getElem?_eq_some_iff.1 hc).1
      exact le1_rd hk (hg i cs[i] c (by simp [hi]) hc) (hr i u cs[i] hu (by simp [hi]))
  · exact le1_rd hk h hv

theorem leVs_get : ∀ {as bs : List PV}, leVs keep as bs → as.length = bs.length ∧ ∀ (i : Nat) a b, as[i]? = some a → bs[i]? = some b → leV keep a b
  | [], [], _ => ⟨rfl, by simp⟩
  | a :: as, b :: bs, h => by
    obtain ⟨h1, h2⟩ := h
    obtain ⟨hl, hg⟩ := leVs_get h2
    refine ⟨by simp [hl], fun i x y hx hy => ?_⟩
    cases i with
    | zero => simp at hx hy; subst hx; subst hy; exact h1
    | succ i => exact hg i x y (by simpa using hx) (by simpa using hy)
  | [], _ :: _, h => h.elim
  | _ :: _, [], h => h.elim

theorem leO_rd (hk : ∀ (j id : Nat), keep[j]? = some id → ρ'[j]? = ρ[id]?) {p : Place} {o o' : Ob} (h : leO keep o o') (ho : ObRd w X ρ p o) : ObRd w X ρ' p o' := by
  unfold leO at h
  split at h
  · obtain ⟨rfl, rfl⟩ := h; exact ho
  · obtain ⟨rfl, h⟩ := h
    obtain ⟨⟨g, us, hg, hb, hsz, h1, hr⟩, hx⟩ := ho
    obtain ⟨hl, hgt⟩ := le1s_get h
    refine ⟨⟨g, us, hg, hb, hsz.trans hl, h1, fun i u c hu hc => ?_⟩, hx⟩
    rename_i cs ds
    have hi : i < cs.length := by rw [hl]; exact (List.getElem?_eq_some_iff.1 hc).1
    exact le1_rd hk (hgt i cs[i] c (by simp [hi]) hc) (hr i u cs[i] hu (by simp [hi]))
  · obtain ⟨rfl, rfl⟩ := h; exact ho
  · trivial
  · exact h.elim

theorem leO_rw {o o' : Ob} (h : leO keep o o') (hr : o'.rw = true) : o.rw = true := by
  unfold leO at h
  split at h
  · obtain ⟨rfl, rfl⟩ := h; exact hr
  · obtain ⟨rfl, h⟩ := h; exact hr
  · obtain ⟨rfl, rfl⟩ := h; exact hr
  · cases hr
  · exact h.elim

theorem leH_get {H : List Ob} : ∀ {ids : List Nat} {os : List Ob}, leH keep H ids os → ids.length = os.length ∧ ∀ (j : Nat) id o, ids[j]? = some id → os[j]? = some o → ∃ o', H[id]? = some o' ∧ leO keep o' o
  | [], [], _ => ⟨rfl, by simp⟩
  | a :: as, b :: bs, h => by
    obtain ⟨h1, h2⟩ := h
    obtain ⟨hl, hg⟩ := leH_get h2
    refine ⟨by simp [hl], fun i x y hx hy => ?_⟩
    cases i with
    | zero =>
      simp at hx hy; subst hx; subst hy
      split at h1
      · exact ⟨_, ‹_›, h1⟩
      · exact h1.elim
    | succ i => exact hg i x y (by simpa using hx) (by simpa using hy)
  | [], _ :: _, h => h.elim
  | _ :: _, [], h => h.elim
end

def starts (m : Nat) (keep : List Nat) : Bool := (List.range m).all fun i => keep[i]? == some i

theorem starts_get {m : Nat} {keep : List Nat} (h : starts m keep = true) {i : Nat} (hi : i < m) : keep[i]? = some i := by
  unfold starts at h
  rw [List.all_eq_true] at h
  simpa using h i (List.mem_range.2 hi)

theorem Weak.keep {m : Nat} {env env' : List PV} {H H' : List Ob} (keep : List Nat) (hnd : keep.Nodup) (hm : starts m keep = true) (he : leVs keep env env') (hh : leH keep H keep H') : Weak m ⟨env, H⟩ ⟨env', H'⟩ := by
  intro c a w hml ⟨X, ρ, h, henv, hd, hkp⟩
  obtain ⟨hl, hg⟩ := leH_get hh
  let ρk : Places := keep.map fun id => (ρ[id]?).getD none
  have hinjk : ∀ i j id, keep[i]? = some id → keep[j]? = some id → i = j := fun i j id hi hj => by
    obtain ⟨hi1, hi2⟩ := List.getElem?_eq_some_iff.1 hi
    obtain ⟨hj1, hj2⟩ := List.getElem?_eq_some_iff.1 hj
    exact (List.getElem_inj hnd).1 (hi2.trans hj2.symm)
  have hget0 : ∀ (j id : Nat), keep[j]? = some id → ∃ o o', H'[j]? = some o ∧ H[id]? = some o' ∧ leO keep o' o := by
    intro j id hj
    have hjl : j < H'.length := by rw [← hl]; exact (List.getElem?_eq_some_iff.1 hj).1
    obtain ⟨o', h1, h2⟩ := hg j id H'[j] hj (by simp [hjl])
    exact ⟨H'[j], o', by simp [hjl], h1, h2⟩
  have hk : ∀ (j id : Nat), keep[j]? = some id → ρk[j]? = ρ[id]? := by
    intro j id hj
    obtain ⟨o, o', _, h2, _⟩ := hget0 j id hj
    have hid : id < ρ.length := by rw [h.len]; exact (List.getElem?_eq_some_iff.1 h2).1
    simp only [ρk, List.getElem?_map, hj, Option.map_some]
    simp [hid]
  have hget : ∀ (j : Nat) p, ρk[j]? = some (some p) → ∃ id, keep[j]? = some id ∧ ρ[id]? = some (some p) := by
    intro j p hp
    have hjl : j < keep.length := by have := (List.getElem?_eq_some_iff.1 hp).1; simpa [ρk] using this
    have hj : keep[j]? = some keep[j] := by simp [hjl]
    exact ⟨keep[j], hj, by rw [← hk j _ hj]; exact hp⟩
  refine ⟨X, ρk, ⟨by simp [ρk, hl], ?_, ?_, ?_, h.xo, h.xlt, h.ge, ?_⟩, ?_, hd, hkp⟩
  · intro j p o hp ho
    obtain ⟨id, hj, hp'⟩ := hget j p hp
    obtain ⟨o1, o', h1, h2, h3⟩ := hget0 j id hj
    rw [ho] at h1; cases h1
    exact leO_rd hk h3 (h.ob id p o' hp' h2)
  · intro i j p q o r g hp hq ho hr ho1 hr1 hb1 hb2
    obtain ⟨id1, hi, hp'⟩ := hget i p hp
    obtain ⟨id2, hj, hq'⟩ := hget j q hq
    obtain ⟨_, o', h1, h2, h3⟩ := hget0 i id1 hi
    obtain ⟨_, r', h4, h5, h6⟩ := hget0 j id2 hj
    rw [ho] at h1; cases h1
    rw [hr] at h4; cases h4
    have := h.inj id1 id2 p q o' r' g hp' hq' h2 h5 (leO_rw h3 ho1) (leO_rw h6 hr1) hb1 hb2
    subst this
    exact hinjk i j id1 hi hj
  · intro j p o g hp ho ho1 hb1
    obtain ⟨id, hj, hp'⟩ := hget j p hp
    obtain ⟨_, o', h1, h2, h3⟩ := hget0 j id hj
    rw [ho] at h1; cases h1
    exact h.own id p o' g hp' h2 (leO_rw h3 ho1) hb1
  · intro i p hp
    have hi : i < m := by have := (List.getElem?_eq_some_iff.1 hp).1; omega
    rw [hk i i (starts_get hm hi)]
    exact h.base i p hp
  · obtain ⟨hle, hlg⟩ := leVs_get he
    refine ⟨henv.1.trans hle, fun t v y hv hy => ?_⟩
    have ht : t < env.length := by rw [hle]; exact (List.getElem?_eq_some_iff.1 hy).1
    exact leV_rd hk (hlg t env[t] y (by simp [ht]) hy) (henv.2 t v env[t] hv (by simp [ht]))

def after (r : Option Res) (K : PV → List Ob → Prop) : Prop := match r with | some r => r.cond ∧ K r.val r.heap | none => False

theorem after.mono {r : Option Res} {K K' : PV → List Ob → Prop} (hk : ∀ v H, K v H → K' v H) (h : after r K) : after r K' := by
  cases r with
  | none => exact h
  | some r => exact ⟨h.1, hk _ _ h.2⟩

theorem WPop_op {P : Program} {T : Tab} {o : Op} {st : St} {K : PV → List Ob → Prop} (ho : ∀ c, o ≠ .call c) : WPop P T o st K = after (opRes T st.heap (ev st.env) o) K := by
  cases o with
  | call c => exact absurd rfl (ho c)
  | _ => rfl

theorem WPop.mono {P : Program} {T : Tab} {o : Op} {st : St} {K K' : PV → List Ob → Prop} (hk : ∀ v H, K v H → K' v H) (h : WPop P T o st K) : WPop P T o st K' := by
  by_cases ho : ∀ c, o ≠ .call c
  · rw [WPop_op ho] at h ⊢
    exact h.mono hk
  · have : ∃ c, o = .call c := Classical.byContradiction fun hn => ho fun c hc => hn ⟨c, hc⟩
    obtain ⟨c, rfl⟩ := this
    simp only [WPop] at h ⊢
    unfold WPcall at h ⊢
    cases hc : c.callee with
    | builtin b => rw [hc] at h; exact after.mono (r := biRes T st.heap b c.argTypes.toList (c.args.toList.map (ev st.env))) hk h
    | value f =>
      rw [hc] at h
      simp only at h ⊢
      cases hf : fnOf (ev st.env f) with
      | none => rw [hf] at h; exact h
      | some r =>
        rw [hf] at h
        obtain ⟨v, H', h1, h2⟩ := h
        exact ⟨v, H', h1, hk _ _ h2⟩
    | invoke x y => rw [hc] at h; exact h

theorem WPops.mono {P : Program} {T : Tab} {all : Array Oper} {K K' : St → Prop} (hk : ∀ st, K st → K' st) : ∀ (l : List Oper) {st : St}, WPops P T all l st K → WPops P T all l st K'
  | [], st, h => hk st h
  | o :: rest, st, h => by
    unfold WPops at h ⊢
    split
    · rename_i hg
      simp only [hg] at h
      exact WPop.mono (fun v H h => WPops.mono hk rest h) h
    · rename_i j want hg
      simp only [hg] at h
      split
      · rename_i t ht
        simp only [ht] at h
        split
        · rename_i b hb
          simp only [hb] at h
          exact ⟨fun e => WPop.mono (fun v H h => WPops.mono hk rest h) (h.1 e), fun e => WPops.mono hk rest (h.2 e)⟩
        · rename_i hb
          simp only [hb] at h
          exact WPops.mono hk rest h
        · rename_i h1 h2
          split at h
          · exact absurd ‹_› (h1 _)
          · exact absurd ‹_› h2
          · exact h
      · rename_i ht
        simp only [ht] at h

theorem WPdraw.mono {P : Program} {T : Tab} {all : Array Oper} {K K' : St → Prop} (hk : ∀ st, K st → K' st) : ∀ (l : List Oper) {st : St}, WPdraw P T all l st K → WPdraw P T all l st K'
  | [], st, h => hk st h
  | o :: rest, st, h => by
    unfold WPdraw at h ⊢
    split
    · rename_i hg
      simp only [hg] at h
      exact WPop.mono (fun v H h => ⟨h.1, WPdraw.mono hk rest h.2⟩) h
    · rename_i j want hg
      simp only [hg] at h
      split
      · rename_i t ht
        simp only [ht] at h
        split
        · rename_i b hb
          simp only [hb] at h
          exact ⟨fun e => WPop.mono (fun v H h => ⟨h.1, WPdraw.mono hk rest h.2⟩) (h.1 e), fun e => WPdraw.mono hk rest (h.2 e)⟩
        · rename_i hb
          simp only [hb] at h
          exact WPdraw.mono hk rest h
        · rename_i h1 h2
          split at h
          · exact absurd ‹_› (h1 _)
          · exact absurd ‹_› h2
          · exact h
      · rename_i ht
        simp only [ht] at h

theorem WPA.mono {P : Program} {T : Tab} {m : Nat} : ∀ (cd : Code) {st : St} {Q Q' : AExit → St → Prop}, (∀ e st, Q e st → Q' e st) → WPA P T m cd st Q → WPA P T m cd st Q'
  | .skip, st, Q, Q', hq, h => hq _ _ h
  | .label _, st, Q, Q', hq, h => hq _ _ h
  | .exit _, st, Q, Q', hq, h => hq _ _ h
  | .ret, st, Q, Q', hq, h => hq _ _ h
  | .seq x y, st, Q, Q', hq, h => by
    unfold WPA at h ⊢
    refine WPA.mono x (fun e st h => ?_) h
    cases e with
    | normal => exact WPA.mono y hq h
    | exit id => exact hq _ _ h
    | ret => exact hq _ _ h
  | .cond o x y, st, Q, Q', hq, h => by
    unfold WPA at h ⊢
    split
    · rename_i b hb
      simp only [hb] at h
      exact ⟨fun e => WPA.mono x hq (h.1 e), fun e => WPA.mono y hq (h.2 e)⟩
    · rename_i hb
      split at h
      · exact absurd ‹_› (hb _)
      · exact h
  | .block id x, st, Q, Q', hq, h => by
    unfold WPA at h ⊢
    refine WPA.mono x (fun e st h => ?_) h
    cases e with
    | normal => exact hq _ _ h
    | exit i =>
      simp only at h ⊢
      split
      · rename_i hi; rw [if_pos hi] at h; exact hq _ _ h
      · rename_i hi; rw [if_neg hi] at h; exact hq _ _ h
    | ret => exact hq _ _ h
  | .loop x, st, Q, Q', hq, h => by
    unfold WPA at h ⊢
    obtain ⟨I, h1, h2⟩ := h
    refine ⟨I, h1, fun n st0 hi => WPA.mono x (fun e st h => ?_) (h2 n st0 hi)⟩
    cases e with
    | normal => exact h
    | exit id => exact hq _ _ h
    | ret => exact hq _ _ h
  | .region _ ops draw, st, Q, Q', hq, h => by
    unfold WPA at h ⊢
    split
    · rename_i hd
      rw [if_pos hd] at h
      rcases h with ⟨h1, ids, h2⟩ | ⟨st1, h1, h2⟩
      · exact .inl ⟨h1, ids, WPdraw.mono (fun st h => hq _ _ h) _ h2⟩
      · exact .inr ⟨st1, h1, hq _ _ h2⟩
    · rename_i hd
      rw [if_neg hd] at h
      exact WPops.mono (fun st h => hq _ _ h) _ h
  | .rangeFunc .., _, _, _, _, h => h
  | .scope _, _, _, _, _, h => h
  | .goto _, _, _, _, _, h => h
  | .refuse _, _, _, _, _, h => h

theorem WPA.cut {P : Program} {T : Tab} {m : Nat} {x y : Code} {st : St} {Q : AExit → St → Prop} (R : St → Prop) (h1 : WPA P T m x st fun e st' => match e with | .normal => R st' | e => Q e st') (h2 : ∀ st', R st' → WPA P T m y st' Q) : WPA P T m (.seq x y) st Q := by
  unfold WPA
  refine WPA.mono x (fun e st' h => ?_) h1
  cases e with
  | normal => exact h2 st' h
  | exit id => exact h
  | ret => exact h

end Go.AM
