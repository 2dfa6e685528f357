/- The abstract machine: weakening (forgetting temporaries, dropping and renumbering objects), and monotony of the weakest precondition. -/
import Derived.Test.YteifpjjnphcdcaaA3
import Derived.KernelRfl

namespace Go.AM

theorem Weak.refl (m : Nat) (st : St) : Weak m st st := fun _ _ _ _ h => h
theorem Weak.trans {m : Nat} {a b c : St} (h : Weak m a b) (k : Weak m b c) : Weak m a c := fun x y z hl hs => k x y z hl (h x y z hl hs)

/-- The second value says no more than the first, its references looked up in the list. -/
def le1 (keep : List Nat) : PV → PV → Prop
  | .fv x, .fv y => x = y
  | .nilsl, .nilsl => True
  | .nilsl, .fv (.sl []) => True
  | .clip xs, .clip ys => xs = ys
  | .clip xs, .fv (.sl ys) => xs = ys
  | .ptr id i off, .ptr j i' off' => keep[j]? = some id ∧ i = i' ∧ off = off'
  | .lsl id off len s, .lsl j off' len' s' => keep[j]? = some id ∧ off = off' ∧ len = len' ∧ s = s'
  | .tup [], .tup [] => True
  | _, .any => True
  | _, _ => False
def le1s (keep : List Nat) : List PV → List PV → Prop
  | [], [] => True
  | a :: as, b :: bs => le1 keep a b ∧ le1s keep as bs
  | _, _ => False
def leV (keep : List Nat) : PV → PV → Prop
  | .agg cs, .agg ds => le1s keep cs ds
  | a, b => le1 keep a b
def leVs (keep : List Nat) : List PV → List PV → Prop
  | [], [] => True
  | a :: as, b :: bs => leV keep a b ∧ leVs keep as bs
  | _, _ => False
def leO (keep : List Nat) : Ob → Ob → Prop
  | .row r xs, .row r' ys => r = r' ∧ xs = ys
  | .box r cs, .box r' ds => r = r' ∧ le1s keep cs ds
  | _, .dead => True
  | _, _ => False
/-- The objects of the new heap, one by one, where they lie in the old. -/
def leH (keep : List Nat) (H : List Ob) : List Nat → List Ob → Prop
  | [], [] => True
  | id :: ids, o :: os => (match H[id]? with | some o' => leO keep o' o | none => False) ∧ leH keep H ids os
  | _, _ => False

section
variable {w : World} {X : Nat → Prop} {ρ ρ' : Places} {keep : List Nat}

theorem le1_rd (hk : ∀ (j id : Nat), keep[j]? = some id → ρ'[j]? = ρ[id]?) {v : Value} : ∀ {x y : PV}, le1 keep x y → PRd w X ρ v x → PRd w X ρ' v y := by
  intro x y h hv
  unfold le1 at h
  split at h
  · subst h; cases hv; exact .fv _ _ ‹_›
  · cases hv; exact .nilsl
  · cases hv; exact .fv _ _ .nil
  · subst h; cases hv; exact .clip _ _ _ ‹_›
  · subst h; cases hv; exact .fv _ _ ‹_›
  · obtain ⟨h1, rfl, rfl⟩ := h
    cases hv with
    | ptr _ _ _ g p hp hg => exact .ptr _ _ _ g p (by rw [hk _ _ h1]; exact hp) hg
  · obtain ⟨h1, rfl, rfl, rfl⟩ := h
    cases hv with
    | lsl0 _ p hp hg => exact .lsl0 _ p (by rw [hk _ _ h1]; exact hp) hg
    | lsl _ _ _ o g p hp hg hl ho => exact .lsl _ _ _ o g p (by rw [hk _ _ h1]; exact hp) hg hl ho
  · cases hv with
    | tup us _ hn hr => exact .tup us [] hn (by simp)
  · exact .any _
  · exact h.elim

theorem le1s_get : ∀ {as bs : List PV}, le1s keep as bs → as.length = bs.length ∧ ∀ (i : Nat) a b, as[i]? = some a → bs[i]? = some b → le1 keep a b
  | [], [], _ => ⟨rfl, by simp⟩
  | a :: as, b :: bs, h => by
    obtain ⟨h1, h2⟩ := h
    obtain ⟨hl, hg⟩ := le1s_get h2
    refine ⟨by simp [hl], fun i x y hx hy => ?_⟩
    cases i with
    | zero => simp at hx hy; subst hx; subst hy; exact h1
    | succ i => exact hg i x y (by simpa using hx) (by simpa using hy)
  | [], _ :: _, h => h.elim
  | _ :: _, [], h => h.elim

theorem leV_rd (hk : ∀ (j id : Nat), keep[j]? = some id → ρ'[j]? = ρ[id]?) {v : Value} {x y : PV} (h : leV keep x y) (hv : PRd w X ρ v x) : PRd w X ρ' v y := by
  unfold leV at h
  split at h
  · obtain ⟨hl, hg⟩ := le1s_get h
    cases hv with
    | agg us _ hn h1 hr =>
      refine .agg us _ (hn.trans hl) h1 (fun i u c hu hc => ?_)
      rename_i cs ds
      have hi : i < cs.length := by rw [hl]; exact (List.getElem?_eq_some_iff.1 hc).1
      exact le1_rd hk (hg i cs[i] c (by simp [hi]) hc) (hr i u cs[i] hu (by simp [hi]))
  · exact le1_rd hk h hv

theorem leVs_get : ∀ {as bs : List PV}, leVs keep as bs → as.length = bs.length ∧ ∀ (i : Nat) a b, as[i]? = some a → bs[i]? = some b → leV keep a b
  | [], [], _ => ⟨rfl, by simp⟩
  | a :: as, b :: bs, h => by
    obtain ⟨h1, h2⟩ := h
    obtain ⟨hl, hg⟩ := leVs_get h2
    refine ⟨by simp [hl], fun i x y hx hy => ?_⟩
    cases i with
    | zero => simp at hx hy; subst hx; subst hy; exact h1
    | succ i => exact hg i x y (by simpa using hx) (by simpa using hy)
  | [], _ :: _, h => h.elim
  | _ :: _, [], h => h.elim

theorem leO_rd (hk : ∀ (j id : Nat), keep[j]? = some id → ρ'[j]? = ρ[id]?) {p : Place} {o o' : Ob} (h : leO keep o o') (ho : ObRd w X ρ p o) : ObRd w X ρ' p o' := by
  unfold leO at h
  split at h
  · obtain ⟨rfl, rfl⟩ := h; exact ho
  · obtain ⟨rfl, h⟩ := h
    obtain ⟨⟨g, us, hg, hb, hsz, h1, hr⟩, hx⟩ := ho
    obtain ⟨hl, hgt⟩ := le1s_get h
    refine ⟨⟨g, us, hg, hb, hsz.trans hl, h1, fun i u c hu hc => ?_⟩, hx⟩
    rename_i cs ds
    have hi : i < cs.length := by rw [hl]; exact (List.getElem?_eq_some_iff.1 hc).1
    exact le1_rd hk (hgt i cs[i] c (by simp [hi]) hc) (hr i u cs[i] hu (by simp [hi]))
  · trivial
  · exact h.elim

theorem leO_rw {o o' : Ob} (h : leO keep o o') (hr : o'.rw = true) : o.rw = true := by
  unfold leO at h
  split at h
  · obtain ⟨rfl, rfl⟩ := h; exact hr
  · obtain ⟨rfl, h⟩ := h; exact hr
  · cases hr
  · exact h.elim

theorem leH_get {H : List Ob} : ∀ {ids : List Nat} {os : List Ob}, leH keep H ids os → ids.length = os.length ∧ ∀ (j : Nat) id o, ids[j]? = some id → os[j]? = some o → ∃ o', H[id]? = some o' ∧ leO keep o' o
  | [], [], _ => ⟨rfl, by simp⟩
  | a :: as, b :: bs, h => by
    obtain ⟨h1, h2⟩ := h
    obtain ⟨hl, hg⟩ := leH_get h2
    refine ⟨by simp [hl], fun i x y hx hy => ?_⟩
    cases i with
    | zero =>
      simp at hx hy; subst hx; subst hy
      split at h1
      · exact ⟨_, ‹_›, h1⟩
      · exact h1.elim
    | succ i => exact hg i x y (by simpa using hx) (by simpa using hy)
  | [], _ :: _, h => h.elim
  | _ :: _, [], h => h.elim
end

/-- The list begins with 0, 1, …, m - 1. -/
def starts (m : Nat) (keep : List Nat) : Bool := (List.range m).all fun i => keep[i]? == some i

theorem starts_get {m : Nat} {keep : List Nat} (h : starts m keep = true) {i : Nat} (hi : i < m) : keep[i]? = some i := by
  unfold starts at h
  rw [List.all_eq_true] at h
  simpa using h i (List.mem_range.2 hi)

/-- WEAKENING: temporaries are forgotten, objects dropped and renumbered. -/
theorem Weak.keep {m : Nat} {env env' : List PV} {H H' : List Ob} (keep : List Nat) (hnd : keep.Nodup) (hm : starts m keep = true) (he : leVs keep env env') (hh : leH keep H keep H') : Weak m ⟨env, H⟩ ⟨env', H'⟩ := by
  intro c a w hml ⟨X, ρ, h, henv, hd, hkp⟩
  obtain ⟨hl, hg⟩ := leH_get hh
  let ρk : Places := keep.map fun id => (ρ[id]?).getD none
  have hinjk : ∀ i j id, keep[i]? = some id → keep[j]? = some id → i = j := fun i j id hi hj => by
    obtain ⟨hi1, hi2⟩ := List.getElem?_eq_some_iff.1 hi
    obtain ⟨hj1, hj2⟩ := List.getElem?_eq_some_iff.1 hj
    exact (List.getElem_inj hnd).1 (hi2.trans hj2.symm)
  have hget0 : ∀ (j id : Nat), keep[j]? = some id → ∃ o o', H'[j]? = some o ∧ H[id]? = some o' ∧ leO keep o' o := by
    intro j id hj
    have hjl : j < H'.length := by rw [← hl]; exact (List.getElem?_eq_some_iff.1 hj).1
    obtain ⟨o', h1, h2⟩ := hg j id H'[j] hj (by simp [hjl])
    exact ⟨H'[j], o', by simp [hjl], h1, h2⟩
  have hk : ∀ (j id : Nat), keep[j]? = some id → ρk[j]? = ρ[id]? := by
    intro j id hj
    obtain ⟨o, o', _, h2, _⟩ := hget0 j id hj
    have hid : id < ρ.length := by rw [h.len]; exact (List.getElem?_eq_some_iff.1 h2).1
    simp only [ρk, List.getElem?_map, hj, Option.map_some]
    simp [hid]
  have hget : ∀ (j : Nat) p, ρk[j]? = some (some p) → ∃ id, keep[j]? = some id ∧ ρ[id]? = some (some p) := by
    intro j p hp
    have hjl : j < keep.length := by have := (List.getElem?_eq_some_iff.1 hp).1; simpa [ρk] using this
    have hj : keep[j]? = some keep[j] := by simp [hjl]
    exact ⟨keep[j], hj, by rw [← hk j _ hj]; exact hp⟩
  refine ⟨X, ρk, ⟨by simp [ρk, hl], ?_, ?_, ?_, h.xo, h.xlt, h.ge, ?_⟩, ?_, hd, hkp⟩
  · intro j p o hp ho
    obtain ⟨id, hj, hp'⟩ := hget j p hp
    obtain ⟨o1, o', h1, h2, h3⟩ := hget0 j id hj
    rw [ho] at h1; cases h1
    exact leO_rd hk h3 (h.ob id p o' hp' h2)
  · intro i j p q o r g hp hq ho hr ho1 hr1 hb1 hb2
    obtain ⟨id1, hi, hp'⟩ := hget i p hp
    obtain ⟨id2, hj, hq'⟩ := hget j q hq
    obtain ⟨_, o', h1, h2, h3⟩ := hget0 i id1 hi
    obtain ⟨_, r', h4, h5, h6⟩ := hget0 j id2 hj
    rw [ho] at h1; cases h1
    rw [hr] at h4; cases h4
    have := h.inj id1 id2 p q o' r' g hp' hq' h2 h5 (leO_rw h3 ho1) (leO_rw h6 hr1) hb1 hb2
    subst this
    exact hinjk i j id1 hi hj
  · intro j p o g hp ho ho1 hb1
    obtain ⟨id, hj, hp'⟩ := hget j p hp
    obtain ⟨_, o', h1, h2, h3⟩ := hget0 j id hj
    rw [ho] at h1; cases h1
    exact h.own id p o' g hp' h2 (leO_rw h3 ho1) hb1
  · intro i p hp
    have hi : i < m := by have := (List.getElem?_eq_some_iff.1 hp).1; omega
    rw [hk i i (starts_get hm hi)]
    exact h.base i p hp
  · obtain ⟨hle, hlg⟩ := leVs_get he
    refine ⟨henv.1.trans hle, fun t v y hv hy => ?_⟩
    have ht : t < env.length := by rw [hle]; exact (List.getElem?_eq_some_iff.1 hy).1
    exact leV_rd hk (hlg t env[t] y (by simp [ht]) hy) (henv.2 t v env[t] hv (by simp [ht]))

theorem PRd.nilInv {w : World} {X : Nat → Prop} {ρ : Places} {v : Value} (h : PRd w X ρ v .nilsl) : v = .slice none 0 0 := by cases h; rfl

/-- WEAKENING: the nil slice in a temporary counts as an object of its own, with no elements. -/
theorem Weak.nilrow {m : Nat} {env : List PV} {H : List Ob} (t s : Nat) (hs : 0 < s) (ht : env.getD t .any = .nilsl) : Weak m ⟨env, H⟩ ⟨env.set t (.lsl H.length 0 0 s), H ++ [.row true []]⟩ := by
  intro c a w hml ⟨X, ρ, h, henv, hd, hkp⟩
  let p : Place := ⟨none, 0, s, 0⟩
  have hle : ρ.Le (ρ ++ [some p]) := Places.Le.append ρ _
  have hat : ∀ (id : Nat) q, (ρ ++ [some p])[id]? = some (some q) → ρ[id]? = some (some q) ∨ (id = ρ.length ∧ q = p) := by
    intro id q hq
    by_cases hid : id < ρ.length
    · left; rwa [List.getElem?_append_left hid] at hq
    · right
      rw [List.getElem?_append_right (by omega)] at hq
      have : id - ρ.length = 0 := by
        have := (List.getElem?_eq_some_iff.1 hq).1
        simp at this; omega
      rw [this] at hq
      simp at hq
      exact ⟨by omega, hq.symm⟩
  have hob : ∀ (id : Nat) (o : Ob), id < ρ.length → (H ++ [Ob.row true []])[id]? = some o → H[id]? = some o := by
    intro id o hid ho
    rwa [List.getElem?_append_left (by rw [← h.len]; exact hid)] at ho
  have hlt : ∀ (id : Nat) q, ρ[id]? = some (some q) → id < ρ.length := fun id q hq => (List.getElem?_eq_some_iff.1 hq).1
  have hsame : Same X w w := Same.refl X w
  refine ⟨X, ρ ++ [some p], ⟨by simp [h.len], ?_, ?_, ?_, h.xo, h.xlt, h.ge, h.base.trans hle⟩, ?_, hd, hkp⟩
  · intro id q o hq ho
    rcases hat id q hq with hq | ⟨rfl, rfl⟩
    · exact (h.ob id q o hq (hob id o (hlt id q hq) ho)).keep hsame (fun _ _ h => h) hle (fun _ g _ _ => ⟨rfl, Iff.rfl⟩)
    · rw [h.len] at ho
      simp at ho
      subst ho
      exact ⟨⟨hs, by simp, [], World.ownsRow_nil w 0 0 s, by simp⟩, fun g hg => by simp [p] at hg⟩
  · intro i j q r o o2 g hq hr ho ho2 h1 h2 h3 h4
    rcases hat i q hq with hq | ⟨rfl, rfl⟩
    · rcases hat j r hr with hr | ⟨rfl, rfl⟩
      · exact h.inj i j q r o o2 g hq hr (hob i o (hlt i q hq) ho) (hob j o2 (hlt j r hr) ho2) h1 h2 h3 h4
      · simp [p] at h4
    · simp [p] at h3
  · intro id q o g hq ho h1 h2
    rcases hat id q hq with hq | ⟨rfl, rfl⟩
    · exact h.own id q o g hq (hob id o (hlt id q hq) ho) h1 h2
    · simp [p] at h2
  · refine ⟨by simpa using henv.1, fun i v x hv hx => ?_⟩
    have hmono : ∀ {y : PV}, PRd w X ρ v y → PRd w X (ρ ++ [some p]) v y := fun hy => hy.mono hsame (fun _ _ h => h) hle
    rw [List.getElem?_set] at hx
    split at hx
    · rename_i hti
      subst hti
      split at hx
      · rename_i hlt2
        cases hx
        have := henv.2 t v env[t] hv (by simp [hlt2])
        have hg : env[t] = .nilsl := by simpa [hlt2] using ht
        rw [hg] at this
        have hvn := this.nilInv
        subst hvn
        rw [← h.len]
        exact .lsl0 ρ.length p (by simp) rfl
      · cases hx
    · exact hmono (henv.2 i v x hv hx)

/-- What an operation's result leaves to show. -/
def after (r : Option Res) (K : PV → List Ob → Prop) : Prop := match r with | some r => r.cond ∧ K r.val r.heap | none => False

theorem after.mono {r : Option Res} {K K' : PV → List Ob → Prop} (hk : ∀ v H, K v H → K' v H) (h : after r K) : after r K' := by
  cases r with
  | none => exact h
  | some r => exact ⟨h.1, hk _ _ h.2⟩

theorem WPop_op {P : Program} {T : Tab} {o : Op} {st : St} {K : PV → List Ob → Prop} (ho : ∀ c, o ≠ .call c) : WPop P T o st K = after (opRes T st.heap (ev st.env) o) K := by
  cases o with
  | call c => exact absurd rfl (ho c)
  | _ => rfl

theorem WPop_builtin {P : Program} {T : Tab} {b : Builtin} {args : Array Operand} {ts : Array TypeId} {st : St} {K : PV → List Ob → Prop} :
    WPop P T (.call { callee := .builtin b, args := args, argTypes := ts }) st K = after (biRes T st.heap b ts.toList (args.toList.map (ev st.env))) K := rfl

/-- Monotony. -/
theorem WPop.mono {P : Program} {T : Tab} {o : Op} {st : St} {K K' : PV → List Ob → Prop} (hk : ∀ v H, K v H → K' v H) (h : WPop P T o st K) : WPop P T o st K' := by
  by_cases ho : ∀ c, o ≠ .call c
  · rw [WPop_op ho] at h ⊢
    exact h.mono hk
  · have : ∃ c, o = .call c := Classical.byContradiction fun hn => ho fun c hc => hn ⟨c, hc⟩
    obtain ⟨c, rfl⟩ := this
    simp only [WPop] at h ⊢
    unfold WPcall at h ⊢
    cases hc : c.callee with
    | builtin b => rw [hc] at h; exact after.mono (r := biRes T st.heap b c.argTypes.toList (c.args.toList.map (ev st.env))) hk h
    | value f =>
      rw [hc] at h
      simp only at h ⊢
      cases hf : fnOf (ev st.env f) with
      | none => rw [hf] at h; exact h
      | some r =>
        rw [hf] at h
        obtain ⟨v, H', h1, h2⟩ := h
        exact ⟨v, H', h1, hk _ _ h2⟩
    | invoke x y => rw [hc] at h; exact h

theorem WPops.mono {P : Program} {T : Tab} {all : Array Oper} {K K' : St → Prop} (hk : ∀ st, K st → K' st) : ∀ (l : List Oper) {st : St}, WPops P T all l st K → WPops P T all l st K'
  | [], st, h => hk st h
  | o :: rest, st, h => by
    unfold WPops at h ⊢
    split
    · rename_i hg
      simp only [hg] at h
      exact WPop.mono (fun v H h => WPops.mono hk rest h) h
    · rename_i j want hg
      simp only [hg] at h
      split
      · rename_i t ht
        simp only [ht] at h
        split
        · rename_i b hb
          simp only [hb] at h
          exact ⟨fun e => WPop.mono (fun v H h => WPops.mono hk rest h) (h.1 e), fun e => WPops.mono hk rest (h.2 e)⟩
        · rename_i hb
          simp only [hb] at h
          exact WPops.mono hk rest h
        · rename_i h1 h2
          split at h
          · exact absurd ‹_› (h1 _)
          · exact absurd ‹_› h2
          · exact h
      · rename_i ht
        simp only [ht] at h

theorem WPdraw.mono {P : Program} {T : Tab} {all : Array Oper} {K K' : St → Prop} (hk : ∀ st, K st → K' st) : ∀ (l : List Oper) {st : St}, WPdraw P T all l st K → WPdraw P T all l st K'
  | [], st, h => hk st h
  | o :: rest, st, h => by
    unfold WPdraw at h ⊢
    split
    · rename_i hg
      simp only [hg] at h
      exact WPop.mono (fun v H h => ⟨h.1, WPdraw.mono hk rest h.2⟩) h
    · rename_i j want hg
      simp only [hg] at h
      split
      · rename_i t ht
        simp only [ht] at h
        split
        · rename_i b hb
          simp only [hb] at h
          exact ⟨fun e => WPop.mono (fun v H h => ⟨h.1, WPdraw.mono hk rest h.2⟩) (h.1 e), fun e => WPdraw.mono hk rest (h.2 e)⟩
        · rename_i hb
          simp only [hb] at h
          exact WPdraw.mono hk rest h
        · rename_i h1 h2
          split at h
          · exact absurd ‹_› (h1 _)
          · exact absurd ‹_› h2
          · exact h
      · rename_i ht
        simp only [ht] at h

theorem WPA.mono {P : Program} {T : Tab} {m : Nat} : ∀ (cd : Code) {st : St} {Q Q' : AExit → St → Prop}, (∀ e st, Q e st → Q' e st) → WPA P T m cd st Q → WPA P T m cd st Q'
  | .skip, st, Q, Q', hq, h => hq _ _ h
  | .label _, st, Q, Q', hq, h => hq _ _ h
  | .exit _, st, Q, Q', hq, h => hq _ _ h
  | .ret, st, Q, Q', hq, h => hq _ _ h
  | .seq x y, st, Q, Q', hq, h => by
    unfold WPA at h ⊢
    refine WPA.mono x (fun e st h => ?_) h
    cases e with
    | normal => exact WPA.mono y hq h
    | exit id => exact hq _ _ h
    | ret => exact hq _ _ h
  | .cond o x y, st, Q, Q', hq, h => by
    unfold WPA at h ⊢
    split
    · rename_i b hb
      simp only [hb] at h
      exact ⟨fun e => WPA.mono x hq (h.1 e), fun e => WPA.mono y hq (h.2 e)⟩
    · rename_i hb
      split at h
      · exact absurd ‹_› (hb _)
      · exact h
  | .block id x, st, Q, Q', hq, h => by
    unfold WPA at h ⊢
    refine WPA.mono x (fun e st h => ?_) h
    cases e with
    | normal => exact hq _ _ h
    | exit i =>
      simp only at h ⊢
      split
      · rename_i hi; rw [if_pos hi] at h; exact hq _ _ h
      · rename_i hi; rw [if_neg hi] at h; exact hq _ _ h
    | ret => exact hq _ _ h
  | .loop x, st, Q, Q', hq, h => by
    unfold WPA at h ⊢
    obtain ⟨I, h1, h2⟩ := h
    refine ⟨I, h1, fun n st0 hi => WPA.mono x (fun e st h => ?_) (h2 n st0 hi)⟩
    cases e with
    | normal => exact h
    | exit id => exact hq _ _ h
    | ret => exact hq _ _ h
  | .region _ ops draw, st, Q, Q', hq, h => by
    unfold WPA at h ⊢
    split
    · rename_i hd
      rw [if_pos hd] at h
      obtain ⟨h1, ids, h2⟩ := h
      exact ⟨h1, ids, WPdraw.mono (fun st h => hq _ _ h) _ h2⟩
    · rename_i hd
      rw [if_neg hd] at h
      exact WPops.mono (fun st h => hq _ _ h) _ h
  | .rangeFunc .., _, _, _, _, h => h
  | .scope _, _, _, _, _, h => h
  | .goto _, _, _, _, _, h => h
  | .refuse _, _, _, _, _, h => h

/-- A cut between two codes. -/
theorem WPA.cut {P : Program} {T : Tab} {m : Nat} {x y : Code} {st : St} {Q : AExit → St → Prop} (R : St → Prop) (h1 : WPA P T m x st fun e st' => match e with | .normal => R st' | e => Q e st') (h2 : ∀ st', R st' → WPA P T m y st' Q) : WPA P T m (.seq x y) st Q := by
  unfold WPA
  refine WPA.mono x (fun e st' h => ?_) h1
  cases e with
  | normal => exact h2 st' h
  | exit id => exact h
  | ret => exact h

end Go.AM

/- The abstract machine: rules for stepping. What must not be simplified hangs on a token, and is so out of reach. -/
namespace Go.AM

/-- A token: what it names is out of the simplifier's reach. -/
structure Tok {α : Type} (a : α) : Type where

/-- A branch. -/
def Br (b : Bool) (p q : Prop) (_ : Tok (p, q)) : Prop := (b = true → p) ∧ (b = false → q)
theorem Br.intro {b : Bool} {p q : Prop} {t : Tok (p, q)} (h1 : b = true → p) (h2 : b = false → q) : Br b p q t := ⟨h1, h2⟩
theorem Br.dec {c : Prop} {_ : Decidable c} {p q : Prop} {t : Tok (p, q)} (h1 : c → decide c = true → p) (h2 : ¬ c → decide c = false → q) : Br (decide c) p q t :=
  ⟨fun h => h1 (of_decide_eq_true h) h, fun h => h2 (of_decide_eq_false h) h⟩
theorem Br.beqInt {a b : Int} {p q : Prop} {t : Tok (p, q)} (h1 : a = b → (a == b) = true → p) (h2 : a ≠ b → (a == b) = false → q) : Br (a == b) p q t :=
  ⟨fun h => h1 (by simpa using h) h, fun h => h2 (by simpa using h) h⟩
theorem Br.bneInt {a b : Int} {p q : Prop} {t : Tok (p, q)} (h1 : a ≠ b → (a != b) = true → p) (h2 : a = b → (a != b) = false → q) : Br (a != b) p q t :=
  ⟨fun h => h1 (by simpa using h) h, fun h => h2 (by simpa using h) h⟩
theorem Br_true {p q : Prop} {t : Tok (p, q)} : Br true p q t = p := by simp [Br]
theorem Br_false {p q : Prop} {t : Tok (p, q)} : Br false p q t = q := by simp [Br]

def condV (v : PV) (p q : Prop) (_ : Tok (p, q)) : Prop := match v with | .fv (.lit (.bool b)) => Br b p q ⟨⟩ | _ => False
theorem condV_bool {b : Bool} {p q : Prop} {t : Tok (p, q)} : condV (.fv (.lit (.bool b))) p q t = Br b p q ⟨⟩ := rfl

def guardK (v : PV) (want : Bool) (p q : Prop) (_ : Tok (p, q)) : Prop := match v with
  | .fv (.lit (.bool b)) => (b = want → p) ∧ (b = !want → q)
  | .tup [] => q
  | _ => False
theorem guardK_t {b : Bool} {p q : Prop} {t : Tok (p, q)} : guardK (.fv (.lit (.bool b))) true p q t = Br b p q ⟨⟩ := rfl
theorem guardK_f {b : Bool} {p q : Prop} {t : Tok (p, q)} : guardK (.fv (.lit (.bool b))) false p q t = Br b q p ⟨⟩ := by
  simp [guardK, Br, and_comm]
theorem guardK_tup {want : Bool} {p q : Prop} {t : Tok (p, q)} : guardK (.tup []) want p q t = q := rfl

def dstL : List Oper → Nat → Option Nat
  | [], _ => none
  | o :: _, 0 => o.dst
  | _ :: l, j + 1 => dstL l j
theorem dstL_eq : ∀ (l : List Oper) (j : Nat), (l[j]?).bind (·.dst) = dstL l j
  | [], _ => by simp [dstL]
  | o :: _, 0 => by simp [dstL]
  | _ :: l, j + 1 => by simp [dstL, dstL_eq l j]

def updE (env : List PV) (d : Option Nat) (v : PV) : List PV := match d with | some t => env.set t v | none => env
theorem updE_some {env : List PV} {t : Nat} {v : PV} : updE env (some t) v = env.set t v := rfl
theorem updE_none {env : List PV} {v : PV} : updE env none v = env := rfl

def getG (env : List PV) (o : Option Nat) : PV := match o with | some t => env.getD t .any | none => .any
/-- The temporary that the guard looks at. -/
def guardT (l : List Oper) (j : Nat) (env : List PV) (_ : Tok l) : PV := getG env (dstL l j)
theorem guardT_zero {env : List PV} {d : Nat} {op : Op} {ty : TypeId} {pos : String} {af : Array Edge} {g : Option (Nat × Bool)} {l : List Oper} {t : Tok _} : guardT ({ dst := some d, op := op, type := ty, pos := pos, after := af, guard := g } :: l) 0 env t = env.getD d .any := rfl
theorem guardT_succ {env : List PV} {o : Oper} {l : List Oper} {j : Nat} {t : Tok _} : guardT (o :: l) (j + 1) env t = guardT l j env ⟨⟩ := rfl

abbrev KQ := AExit → St → Prop
def WA (P : Program) (T : Tab) (m : Nat) (cd : Code) (st : St) (Q : KQ) (_ : Tok (cd, Q)) : Prop := WPA P T m cd st Q
def WO (P : Program) (T : Tab) (all l : List Oper) (st : St) (K : St → Prop) (_ : Tok (all, l, K)) : Prop := WPops P T (List.toArray all) l st K
def WD (P : Program) (T : Tab) (all l : List Oper) (st : St) (K : St → Prop) (_ : Tok (all, l, K)) : Prop := WPdraw P T (List.toArray all) l st K
def W1 (P : Program) (T : Tab) (o : Op) (st : St) (K : PV → List Ob → Prop) (_ : Tok (o, K)) : Prop := WPop P T o st K
def Aft (r : Option Res) (K : PV → List Ob → Prop) (_ : Tok K) : Prop := after r K
def Draw (P : Program) (T : Tab) (ops : List Oper) (st : St) (K : St → Prop) (_ : Tok (ops, K)) : Prop := drawOk (List.toArray ops) = true ∧ ∃ ids, WPdraw P T (List.toArray ops) ops { st with heap := shutIds ids st.heap } K
def seqQ (P : Program) (T : Tab) (m : Nat) (y : Code) (Q : KQ) (_ : Tok (y, Q)) (e : AExit) (st : St) : Prop := match e with | .normal => WPA P T m y st Q | e => Q e st
def blockQ (id : Nat) (Q : KQ) (_ : Tok Q) (e : AExit) (st : St) : Prop := match e with | .exit i => if i = id then Q .normal st else Q (.exit i) st | e => Q e st
/-- A continuation applied. -/
def Ap (Q : KQ) (e : AExit) (st : St) (_ : Tok Q) : Prop := Q e st

section
variable {P : Program} {T : Tab} {m : Nat} {st : St} {env : List PV} {H : List Ob} {Q : KQ} {K : St → Prop} {K2 : PV → List Ob → Prop}

theorem WA.of {cd : Code} (h : WA P T m cd st Q ⟨⟩) : WPA P T m cd st Q := h
theorem Ap_seq_normal {y : Code} {t : Tok (y, Q)} {u : Tok _} : Ap (seqQ P T m y Q t) .normal st u = WA P T m y st Q ⟨⟩ := rfl
theorem Ap_seq_exit {y : Code} {i : Nat} {t : Tok (y, Q)} {u : Tok _} : Ap (seqQ P T m y Q t) (.exit i) st u = Ap Q (.exit i) st ⟨⟩ := rfl
theorem Ap_seq_ret {y : Code} {t : Tok (y, Q)} {u : Tok _} : Ap (seqQ P T m y Q t) .ret st u = Ap Q .ret st ⟨⟩ := rfl
theorem Ap_block_normal {i : Nat} {t : Tok Q} {u : Tok _} : Ap (blockQ i Q t) .normal st u = Ap Q .normal st ⟨⟩ := rfl
theorem Ap_block_exit {i id : Nat} {t : Tok Q} {u : Tok _} : Ap (blockQ id Q t) (.exit i) st u = Br (i == id) (Ap Q .normal st ⟨⟩) (Ap Q (.exit i) st ⟨⟩) ⟨⟩ := by
  by_cases h : i = id
  · subst h; simp [blockQ, Br, Ap]
  · simp [blockQ, Br, h, Ap]
theorem Ap_block_ret {i : Nat} {t : Tok Q} {u : Tok _} : Ap (blockQ i Q t) .ret st u = Ap Q .ret st ⟨⟩ := rfl

theorem WA_seq {x y : Code} {t : Tok _} : WA P T m (.seq x y) st Q t = WA P T m x st (seqQ P T m y Q ⟨⟩) ⟨⟩ := rfl
theorem WA_skip {t : Tok _} : WA P T m .skip st Q t = Ap Q .normal st ⟨⟩ := rfl
theorem WA_label {s : Nat} {t : Tok _} : WA P T m (.label s) st Q t = Ap Q .normal st ⟨⟩ := rfl
theorem WA_exit {i : Nat} {t : Tok _} : WA P T m (.exit i) st Q t = Ap Q (.exit i) st ⟨⟩ := rfl
theorem WA_ret {t : Tok _} : WA P T m .ret st Q t = Ap Q .ret st ⟨⟩ := rfl
theorem WA_block {i : Nat} {x : Code} {t : Tok _} : WA P T m (.block i x) st Q t = WA P T m x st (blockQ i Q ⟨⟩) ⟨⟩ := rfl
theorem WA_cond {c : Operand} {x y : Code} {t : Tok _} : WA P T m (.cond c x y) ⟨env, H⟩ Q t = condV (ev env c) (WA P T m x ⟨env, H⟩ Q ⟨⟩) (WA P T m y ⟨env, H⟩ Q ⟨⟩) ⟨⟩ := rfl
theorem WA_region {n : Nat} {l : List Oper} {t : Tok _} : WA P T m (.region n (List.toArray l) false) st Q t = WO P T l l st (fun st => Ap Q .normal st ⟨⟩) ⟨⟩ := rfl
theorem WA_draw {n : Nat} {l : List Oper} {t : Tok _} : WA P T m (.region n (List.toArray l) true) st Q t = Draw P T l st (fun st => Ap Q .normal st ⟨⟩) ⟨⟩ := rfl
theorem Draw.intro {l : List Oper} {t : Tok _} (h : drawOk (List.toArray l) = true) (k : WD P T l l st K ⟨⟩) : Draw P T l st K t := ⟨h, [], k⟩
theorem Draw.freeze (ids : List Nat) {l : List Oper} {t : Tok _} (h : drawOk (List.toArray l) = true) (k : WD P T l l { st with heap := shutIds ids st.heap } K ⟨⟩) : Draw P T l st K t := ⟨h, ids, k⟩

/-- What a round of a loop leaves to show. -/
def loopQ {α : Type} (m : Nat) (f : α → St) (μ : α → Nat) (G : α → Prop) (a : α) (Q : KQ) (_ : Tok Q) (e : AExit) (st : St) : Prop := match e with | .normal => ∃ a', μ a' < μ a ∧ Weak m st (f a') ∧ G a' | e => Q e st
theorem Ap_loop_exit {α : Type} {f : α → St} {μ : α → Nat} {G : α → Prop} {a : α} {i : Nat} {t : Tok _} {u : Tok _} : Ap (loopQ m f μ G a Q t) (.exit i) st u = Ap Q (.exit i) st ⟨⟩ := rfl
theorem Ap_loop_ret {α : Type} {f : α → St} {μ : α → Nat} {G : α → Prop} {a : α} {t : Tok _} {u : Tok _} : Ap (loopQ m f μ G a Q t) .ret st u = Ap Q .ret st ⟨⟩ := rfl
theorem Ap_loop {α : Type} {f : α → St} {μ : α → Nat} {G : α → Prop} {a : α} {t : Tok _} {u : Tok _} (a' : α) (h1 : μ a' < μ a) (h2 : Weak m st (f a')) (h3 : G a') : Ap (loopQ m f μ G a Q t) .normal st u := ⟨a', h1, h2, h3⟩
/-- The loop, its invariant given by a state that depends on what changes. -/
theorem WA.loop {α : Type} (f : α → St) (μ : α → Nat) (G : α → Prop) {x : Code} {t : Tok _} (a0 : α) (hw : Weak m st (f a0)) (hg : G a0)
    (hr : ∀ a, G a → WA P T m x (f a) (loopQ m f μ G a Q ⟨⟩) ⟨⟩) : WA P T m (.loop x) st Q t := by
  refine ⟨fun n st => ∃ a, n = μ a ∧ st = f a ∧ G a, ⟨μ a0, f a0, hw, a0, rfl, rfl, hg⟩, ?_⟩
  rintro n st0 ⟨a, rfl, rfl, hga⟩
  refine WPA.mono x (fun e st1 h => ?_) (hr a hga)
  cases e with
  | normal => obtain ⟨a', h1, h2, h3⟩ := h; exact ⟨μ a', f a', h1, h2, a', rfl, rfl, h3⟩
  | exit i => exact h
  | ret => exact h
/-- A cut: what is shown of the state between two codes. -/
def cutQ (R : St → Prop) (Q : KQ) (_ : Tok (R, Q)) (e : AExit) (st : St) : Prop := match e with | .normal => R st | e => Q e st
theorem Ap_cut_normal {R : St → Prop} {t : Tok (R, Q)} {u : Tok _} : Ap (cutQ R Q t) .normal st u = R st := rfl
theorem Ap_cut_exit {R : St → Prop} {i : Nat} {t : Tok (R, Q)} {u : Tok _} : Ap (cutQ R Q t) (.exit i) st u = Ap Q (.exit i) st ⟨⟩ := rfl
theorem Ap_cut_ret {R : St → Prop} {t : Tok (R, Q)} {u : Tok _} : Ap (cutQ R Q t) .ret st u = Ap Q .ret st ⟨⟩ := rfl
/-- The states between two codes, one for each a. -/
def Mid {α : Type} (f : α → St) (G : α → Prop) (st : St) : Prop := ∃ a, st = f a ∧ G a
theorem Mid.mk {α : Type} {f : α → St} {G : α → Prop} {st : St} (a : α) (h : st = f a) (g : G a) : Mid f G st := ⟨a, h, g⟩
theorem WA.cut {α : Type} (f : α → St) (G : α → Prop) {x y : Code} {t : Tok _} (h1 : WA P T m x st (cutQ (Mid f G) Q ⟨⟩) ⟨⟩) (h2 : ∀ a, G a → WA P T m y (f a) Q ⟨⟩) : WA P T m (.seq x y) st Q t :=
  WPA.cut (Mid f G) (WPA.mono x (fun e st h => by cases e <;> exact h) h1) (fun st' ⟨a, hs, hg⟩ => by subst hs; exact h2 a hg)
/-- A sequence taken apart later. -/
theorem WA.assoc {x y z : Code} {t : Tok _} (h : WA P T m (.seq (.seq x y) z) st Q ⟨⟩) : WA P T m (.seq x (.seq y z)) st Q t := by
  show WPA P T m (.seq x (.seq y z)) st Q
  have h : WPA P T m (.seq (.seq x y) z) st Q := h
  unfold WPA at h ⊢
  unfold WPA at h
  refine WPA.mono x (fun e st' he => ?_) h
  cases e with
  | normal => exact he
  | exit i => exact he
  | ret => exact he
/-- One step of a sequence. -/
theorem WA.seq {x y : Code} {t : Tok _} (h : WA P T m x st (seqQ P T m y Q ⟨⟩) ⟨⟩) : WA P T m (.seq x y) st Q t := h

theorem WO_nil {all : List Oper} {t : Tok _} : WO P T all [] st K t = K st := rfl
theorem WO_none {all : List Oper} {d : Option Nat} {op : Op} {ty : TypeId} {pos : String} {af : Array Edge} {rest : List Oper} {t : Tok _} :
    WO P T all ({ dst := d, op := op, type := ty, pos := pos, after := af, guard := none } :: rest) ⟨env, H⟩ K t = W1 P T op ⟨env, H⟩ (fun v H' => WO P T all rest ⟨updE env d v, H'⟩ K ⟨⟩) ⟨⟩ := rfl
theorem WO_some {l : List Oper} {d : Option Nat} {op : Op} {ty : TypeId} {pos : String} {af : Array Edge} {rest : List Oper} {j : Nat} {want : Bool} {t : Tok _} :
    WO P T l ({ dst := d, op := op, type := ty, pos := pos, after := af, guard := some (j, want) } :: rest) ⟨env, H⟩ K t =
      guardK (guardT l j env ⟨⟩) want (W1 P T op ⟨env, H⟩ (fun v H' => WO P T l rest ⟨updE env d v, H'⟩ K ⟨⟩) ⟨⟩) (WO P T l rest ⟨updE env d (.tup []), H⟩ K ⟨⟩) ⟨⟩ := by
  unfold WO
  rw [WPops.eq_def]
  simp only [List.getElem?_toArray, dstL_eq, guardT]
  cases dstL l j with
  | none => rfl
  | some t =>
    simp only [getG, St.get, guardK]
    generalize env.getD t .any = v
    split
    · rfl
    · rfl
    · rename_i h1 h2
      split
      · exact absurd rfl (h1 _)
      · exact absurd rfl h2
      · rfl

/-- Objects were only added. -/
def Grown (H H' : List Ob) : Prop := ∃ obs, H' = H ++ obs
theorem Grown_self : Grown H H = True := by simp only [eq_iff_iff, iff_true]; exact ⟨[], by simp⟩
theorem Grown_append {l : List Ob} : Grown H (H ++ l) = True := by simp only [eq_iff_iff, iff_true]; exact ⟨l, rfl⟩
theorem Grown_nil : Grown [] H = True := by simp only [eq_iff_iff, iff_true]; exact ⟨H, rfl⟩
theorem Grown_cons {o : Ob} {H' : List Ob} : Grown (o :: H) (o :: H') = Grown H H' := by simp [Grown]
/-- A step in a drawn region. -/
def dK (s : Bool) (H H' : List Ob) (p : Prop) (_ : Tok p) : Prop := (s = true ∨ Grown H H') ∧ p
theorem dK_store {H' : List Ob} {p : Prop} {t : Tok p} : dK true H H' p t = p := by simp [dK]
theorem dK_else {H' : List Ob} {p : Prop} {t : Tok p} : dK false H H' p t = (Grown H H' ∧ p) := by simp [dK]
theorem isStore_store {t : TypeId} {a x : Operand} : isStore (.store t a x) = true := rfl

theorem WD_nil {all : List Oper} {t : Tok _} : WD P T all [] st K t = K st := rfl
theorem WD_none {all : List Oper} {d : Option Nat} {op : Op} {ty : TypeId} {pos : String} {af : Array Edge} {rest : List Oper} {t : Tok _} :
    WD P T all ({ dst := d, op := op, type := ty, pos := pos, after := af, guard := none } :: rest) ⟨env, H⟩ K t = W1 P T op ⟨env, H⟩ (fun v H' => dK (isStore op) H H' (WD P T all rest ⟨updE env d v, H'⟩ K ⟨⟩) ⟨⟩) ⟨⟩ := rfl
theorem WD_some {l : List Oper} {d : Option Nat} {op : Op} {ty : TypeId} {pos : String} {af : Array Edge} {rest : List Oper} {j : Nat} {want : Bool} {t : Tok _} :
    WD P T l ({ dst := d, op := op, type := ty, pos := pos, after := af, guard := some (j, want) } :: rest) ⟨env, H⟩ K t =
      guardK (guardT l j env ⟨⟩) want (W1 P T op ⟨env, H⟩ (fun v H' => dK (isStore op) H H' (WD P T l rest ⟨updE env d v, H'⟩ K ⟨⟩) ⟨⟩) ⟨⟩) (WD P T l rest ⟨updE env d (.tup []), H⟩ K ⟨⟩) ⟨⟩ := by
  unfold WD
  rw [WPdraw.eq_def]
  simp only [List.getElem?_toArray, dstL_eq, guardT]
  cases dstL l j with
  | none => rfl
  | some t =>
    simp only [getG, St.get, guardK]
    generalize env.getD t .any = v
    split
    · rfl
    · rfl
    · rename_i h1 h2
      split
      · exact absurd rfl (h1 _)
      · exact absurd rfl h2
      · rfl

/- The operations. -/
theorem Aft_some {c : Prop} {v : PV} {t : Tok _} : Aft (some ⟨c, v, H⟩) K2 t = (c ∧ K2 v H) := rfl
theorem Aft_pure {v : PV} {t : Tok _} : Aft (Res.pure H v) K2 t = K2 v H := by simp [Aft, after, Res.pure]
theorem Aft_if {c : Prop} {v : PV} {t : Tok _} : Aft (Res.if c H v) K2 t = (c ∧ K2 v H) := rfl

theorem ev_tmp {t : Nat} : ev env (.tmp t) = env.getD t .any := rfl
theorem ev_const {v : Value} : ev env (.const v) = PV.ofValue v := rfl
theorem ev_func {f : FuncId} : ev env (.func f) = .fv (.lit (.func (.func f) #[] #[])) := rfl
theorem of_int {k : IntKind} {n : Int} : PV.ofValue (.int k n) = .fv (.lit (.int k n)) := rfl
theorem of_bool {b : Bool} : PV.ofValue (.bool b) = .fv (.lit (.bool b)) := rfl
theorem of_nil : PV.ofValue (.slice none 0 0) = .nilsl := rfl
theorem of_nilFunc : PV.ofValue .nilFunc = .fv (.lit .nilFunc) := rfl
theorem of_nilPtr : PV.ofValue (.pointer none) = .fv (.lit (.pointer none)) := rfl

def rPick (H : List Ob) (c a b : PV) : Option Res := match c with | .fv (.lit (.bool t)) => Res.pure H (if t then a else b) | _ => none
theorem W1_move {x : Operand} {u : Tok _} : W1 P T (.move x) ⟨env, H⟩ K2 u = K2 (ev env x) H := by simp [W1, WPop, opRes, Res.pure]
theorem W1_assign {x : Operand} {u : Tok _} : W1 P T (.assign x) ⟨env, H⟩ K2 u = K2 (ev env x) H := by simp [W1, WPop, opRes, Res.pure]
theorem W1_pick {c a b : Operand} {u : Tok _} : W1 P T (.pick c a b) ⟨env, H⟩ K2 u = Aft (rPick H (ev env c) (ev env a) (ev env b)) K2 ⟨⟩ := rfl
theorem rPick_bool {t : Bool} {a b : PV} : rPick H (.fv (.lit (.bool t))) a b = Res.pure H (if t then a else b) := rfl
def rAlloc (H : List Ob) (i : Option TyI) : Option Res := match i with | some i => some ⟨True, .ptr H.length 0 0, H ++ [.box true i.zero]⟩ | none => none
theorem W1_alloc {t : TypeId} {u : Tok _} : W1 P T (.alloc t) ⟨env, H⟩ K2 u = Aft (rAlloc H (T.at t)) K2 ⟨⟩ := rfl
def rBox (H : List Ob) (i : Option TyI) (x : PV) : Option Res := match i with | some i => some ⟨x.cells.length = i.size ∧ 0 < i.size, .ptr H.length 0 0, H ++ [.box true x.cells]⟩ | none => none
theorem W1_box {t : TypeId} {x : Operand} {u : Tok _} : W1 P T (.box t x) ⟨env, H⟩ K2 u = Aft (rBox H (T.at t) (ev env x)) K2 ⟨⟩ := rfl
def rBuild (H : List Ob) (i : Option TyI) (parts : List (Nat × PV)) : Option Res := match i with
    | some i => match i.d with
      | .st fs => match fillP (fun j => (fs[j]?).map fun f => (f.off, f.size)) i.zero parts with
        | some cs => Res.pure H (.agg cs)
        | none => none
      | _ => none
    | none => none
theorem W1_build {t : TypeId} {l : List (Nat × Operand)} {u : Tok _} : W1 P T (.build t (List.toArray l)) ⟨env, H⟩ K2 u = Aft (rBuild H (T.at t) (l.map fun (j, x) => (j, ev env x))) K2 ⟨⟩ := rfl
def rBuildSlice (T : Tab) (H : List Ob) (i : Option TyI) (len : Nat) (parts : List (Nat × PV)) : Option Res := match i with
    | some i => match i.d with
      | .sl e => match T.at e with
        | some ie =>
          match fillP (fun j => some (j * ie.size, ie.size)) (List.replicate len ie.zero).flatten parts with
          | some cs => match fzs H cs with
            | some fs => if len < 1000 ∧ 0 < ie.size ∧ ie.size < 1000 then some ⟨True, .lsl H.length 0 len ie.size, shutAll H cs ++ [.row true (groups ie.size len fs)]⟩ else none
            | none => none
          | none => none
        | none => none
      | _ => none
    | none => none
theorem W1_buildSlice {t : TypeId} {n : Nat} {l : List (Nat × Operand)} {u : Tok _} : W1 P T (.buildSlice t n (List.toArray l)) ⟨env, H⟩ K2 u = Aft (rBuildSlice T H (T.at t) n (l.map fun (j, x) => (j, ev env x))) K2 ⟨⟩ := rfl
def rLoad (H : List Ob) (i : Option TyI) (a : PV) : Option Res := match i with
    | some i => match a with
      | .ptr id j off => match cellsAt H id j off i.size with
        | some (cd, cs) => match oneOr i cs with
          | some v => Res.if cd H v
          | none => none
        | none => none
      | .fv (.fp cs) => match oneOr i ((cs.take i.size).map .fv) with
          | some v => Res.if (i.size ≤ cs.length) H v
          | none => none
      | _ => none
    | none => none
theorem W1_load {t : TypeId} {a : Operand} {u : Tok _} : W1 P T (.load t a) ⟨env, H⟩ K2 u = Aft (rLoad H (T.at t) (ev env a)) K2 ⟨⟩ := rfl
def rStore (H : List Ob) (i : Option TyI) (a x : PV) : Option Res := match i with
    | some i => match a with
      | .ptr id j off => match storeAt H id j off x.cells with
          | some (cd, H') => some ⟨cd ∧ x.cells.length = i.size ∧ 0 < i.size, .tup [], H'⟩
          | none => none
      | _ => none
    | none => none
theorem W1_store {t : TypeId} {a x : Operand} {u : Tok _} : W1 P T (.store t a x) ⟨env, H⟩ K2 u = Aft (rStore H (T.at t) (ev env a) (ev env x)) K2 ⟨⟩ := rfl
def rNil (H : List Ob) (x : PV) : Option Res := match x with
    | .ptr id j off => Res.pure H (.ptr id j off)
    | .fv (.fp cs) => Res.pure H (.fv (.fp cs))
    | _ => none
theorem W1_nilCheck {x : Operand} {u : Tok _} : W1 P T (.nilCheck x) ⟨env, H⟩ K2 u = Aft (rNil H (ev env x)) K2 ⟨⟩ := rfl
def rNilC (H : List Ob) (sl : Bool) (o : Option Bool) : Option Res := match o with | some b => if sl then Res.pure H (.bool b) else none | none => none
def rLit (H : List Ob) (o : Option (Prop × Value)) (q : Option Res) : Option Res := match o with | some (c, v) => Res.if c H (.lit v) | none => q
theorem W1_binOp {op : BinOp} {t t2 : TypeId} {x y : Operand} {u : Tok _} : W1 P T (.binOp op t x y t2) ⟨env, H⟩ K2 u = Aft (rLit H (binV (T.isBool t) op (ev env x) (ev env y)) (rNilC H (T.isSl t) (nilV op (ev env x) (ev env y)))) K2 ⟨⟩ := rfl
def rUn (H : List Ob) (o : Option Value) : Option Res := match o with | some v => Res.pure H (.lit v) | none => none
theorem W1_unOp {op : UnOp} {t : TypeId} {x : Operand} {u : Tok _} : W1 P T (.unOp op t x) ⟨env, H⟩ K2 u = Aft (rUn H (unV op (ev env x))) K2 ⟨⟩ := rfl
def rConv (H : List Ob) (a b : Option TyI) (x : PV) : Option Res := match a, b, x with
    | some i, some j, .fv (.lit (.int _ n)) => match i.d, j.d with
      | .int _, .int k => Res.pure H (.int k (k.wrap n))
      | _, _ => none
    | _, _, _ => none
theorem W1_convert {a b : TypeId} {x : Operand} {u : Tok _} : W1 P T (.convert a b x) ⟨env, H⟩ K2 u = Aft (rConv H (T.at a) (T.at b) (ev env x)) K2 ⟨⟩ := rfl
def rMake (T : Tab) (H : List Ob) (i : Option TyI) (l c : PV) : Option Res := match i, l, c with
    | some i, .fv (.lit (.int _ n)), .fv (.lit (.int _ m)) => match i.d with
      | .sl e => match T.at e with
        | some ie => match fzs H ie.zero with
          | some z => if z.length = ie.size ∧ 0 < ie.size then some ⟨0 ≤ n ∧ n ≤ m ∧ m * ie.bytes ≤ 140737488355328 ∧ m ≤ 140737488355328, .lsl H.length 0 n.toNat ie.size, H ++ [.row true (List.replicate n.toNat z)]⟩ else none
          | none => none
        | none => none
      | _ => none
    | _, _, _ => none
theorem W1_makeSlice {t : TypeId} {l c : Operand} {u : Tok _} : W1 P T (.makeSlice t l c) ⟨env, H⟩ K2 u = Aft (rMake T H (T.at t) (ev env l) (ev env c)) K2 ⟨⟩ := rfl
def rSlice (T : Tab) (H : List Ob) (i : Option TyI) (x : PV) (lo hi mx : Option PV) : Option Res := match i with
    | some i => match i.d, mx with
      | .sl e, none => match T.at e, x with
        | some ie, .lsl id off len s => if s = ie.size then (match bound lo 0, bound hi len with
          | some (c1, l), some (c2, h) => Res.if (c1 ∧ c2 ∧ l ≤ h ∧ h ≤ len) H (.lsl id (off + l) (h - l) s)
          | _, _ => none) else none
        | some ie, .fv (.sl xs) => match bound lo 0, bound hi xs.length with
          | some (c1, l), some (c2, h) => Res.if (c1 ∧ c2 ∧ l ≤ h ∧ h ≤ xs.length ∧ ∀ y ∈ xs, y.length = ie.size) H (.fv (.sl ((xs.drop l).take (h - l))))
          | _, _ => none
        | some ie, .clip xs => match bound lo 0, bound hi xs.length with
          | some (c1, l), some (c2, h) => Res.if (c1 ∧ c2 ∧ l ≤ h ∧ h ≤ xs.length ∧ ∀ y ∈ xs, y.length = ie.size) H (.fv (.sl ((xs.drop l).take (h - l))))
          | _, _ => none
        | _, _ => none
      | .arr n e, _ => match T.at e, x, bound lo 0, bound hi n, bound mx n with
        | some ie, .ptr id j off, some (c1, l), some (c2, h), some (c3, m) =>
          match H[id]? with
          | some (.box _ cs) => match fzs H ((cs.drop off).take (n * ie.size)) with
            | some fs => if j = 0 ∧ 0 < ie.size ∧ 0 < n ∧ (mx.isSome = true → hi.isSome = true) then some ⟨c1 ∧ c2 ∧ c3 ∧ l ≤ h ∧ h ≤ m ∧ m ≤ n ∧ off + n * ie.size ≤ cs.length, if m = h then .clip (((groups ie.size n fs).drop l).take (h - l)) else .fv (.sl (((groups ie.size n fs).drop l).take (h - l))), shutIds (id :: ((cs.drop off).take (n * ie.size)).flatMap ids0) H⟩ else none
            | none => none
          | _ => none
        | _, _, _, _, _ => none
      | _, _ => none
    | none => none
theorem W1_slice {t : TypeId} {x : Operand} {lo hi mx : Option Operand} {u : Tok _} : W1 P T (.slice t x lo hi mx) ⟨env, H⟩ K2 u = Aft (rSlice T H (T.at t) (ev env x) (lo.map (ev env)) (hi.map (ev env)) (mx.map (ev env))) K2 ⟨⟩ := by
  unfold W1 Aft
  rw [WPop_op (by simp)]
  simp only [opRes, rSlice]
  cases T.at t with
  | none => rfl
  | some i =>
    dsimp only
    cases i.d <;> cases mx <;> cases hi <;> rfl
def rFieldAddr (H : List Ob) (i : Option TyI) (x : PV) (f : Nat) : Option Res := match i with
    | some i => match i.d with
      | .st fs => match fs[f]?, x with
        | some fd, .ptr id j o => Res.pure H (.ptr id j (o + fd.off))
        | some fd, .fv (.fp cs) => Res.if (fd.off + fd.size ≤ cs.length) H (.fv (.fp (cs.drop fd.off)))
        | _, _ => none
      | _ => none
    | none => none
theorem W1_fieldAddr {t : TypeId} {x : Operand} {f : Nat} {u : Tok _} : W1 P T (.fieldAddr t x f) ⟨env, H⟩ K2 u = Aft (rFieldAddr H (T.at t) (ev env x) f) K2 ⟨⟩ := rfl
def rField (H : List Ob) (i : Option TyI) (x : PV) (f : Nat) : Option Res := match i with
    | some i => match i.d with
      | .st fs => match fs[f]?, x with
        | some fd, .agg cs => if fd.agg then Res.if (fd.off + fd.size ≤ cs.length) H (.agg ((cs.drop fd.off).take fd.size)) else
            if fd.size = 1 then Res.if (fd.off < cs.length) H (cs.getD fd.off .any) else none
        | _, _ => none
      | _ => none
    | none => none
theorem W1_field {t : TypeId} {x : Operand} {f : Nat} {u : Tok _} : W1 P T (.field t x f) ⟨env, H⟩ K2 u = Aft (rField H (T.at t) (ev env x) f) K2 ⟨⟩ := rfl
def rIndexAddr (T : Tab) (H : List Ob) (i : Option TyI) (x : PV) (ix : Option Int) : Option Res := match i, ix with
    | some i, some n => match i.d with
      | .sl e => match T.at e, x with
        | some ie, .lsl id off len s => if s = ie.size then Res.if (0 ≤ n ∧ n < len) H (.ptr id (off + n.toNat) 0) else none
        | some ie, .fv (.sl xs) => Res.if (0 ≤ n ∧ n < xs.length ∧ (xs.getD n.toNat []).length = ie.size ∧ 0 < ie.size) H (.fv (.fp (xs.getD n.toNat [])))
        | some ie, .clip xs => Res.if (0 ≤ n ∧ n < xs.length ∧ (xs.getD n.toNat []).length = ie.size ∧ 0 < ie.size) H (.fv (.fp (xs.getD n.toNat [])))
        | _, _ => none
      | .arr k e => match T.at e, x with
        | some ie, .ptr id j off => if 1 < k then Res.if (0 ≤ n ∧ n < k) H (.ptr id j (off + n.toNat * ie.size)) else none
        | some ie, .fv (.fp cs) => if 1 < k then Res.if (0 ≤ n ∧ n < k ∧ n.toNat * ie.size + ie.size ≤ cs.length ∧ 0 < ie.size) H (.fv (.fp (cs.drop (n.toNat * ie.size)))) else none
        | _, _ => none
      | _ => none
    | _, _ => none
theorem W1_indexAddr {t : TypeId} {x ix : Operand} {u : Tok _} : W1 P T (.indexAddr t x ix) ⟨env, H⟩ K2 u = Aft (rIndexAddr T H (T.at t) (ev env x) (ev env ix).asInt) K2 ⟨⟩ := rfl
def rIndex (T : Tab) (H : List Ob) (i : Option TyI) (x : PV) (ix : Option Int) : Option Res := match i, ix with
    | some i, some n => match i.d with
      | .arr k e => match T.at e, x with
        | some ie, .agg cs => match oneOr ie ((cs.drop (n.toNat * ie.size)).take ie.size) with
            | some v => Res.if (0 ≤ n ∧ n < k ∧ n.toNat * ie.size + ie.size ≤ cs.length) H v
            | none => none
        | _, _ => none
      | .str => match x with
        | .fv (.lit (.string s)) => Res.if (0 ≤ n ∧ n < (s.size : Int)) H (.int .u8 ((s[n.toNat]?).getD 0).toNat)
        | _ => none
      | _ => none
    | _, _ => none
theorem W1_index {t : TypeId} {x ix : Operand} {u : Tok _} : W1 P T (.index t x ix) ⟨env, H⟩ K2 u = Aft (rIndex T H (T.at t) (ev env x) (ev env ix).asInt) K2 ⟨⟩ := rfl
def rExtract (H : List Ob) (x : PV) (ix : Nat) : Option Res := match x with
    | .tup vs => match vs[ix]? with
      | some v => Res.pure H v
      | none => none
    | _ => none
theorem W1_extract {x : Operand} {ix : Nat} {u : Tok _} : W1 P T (.extract x ix) ⟨env, H⟩ K2 u = Aft (rExtract H (ev env x) ix) K2 ⟨⟩ := rfl
def rMakeFunc (H : List Ob) (fn : Fn) (first captured : List PV) : Option Res := match fz1s H first, fz1s H captured with
    | some c1, some c2 => some ⟨True, .fv (.fn fn c1 c2), shutIds ((first ++ captured).flatMap (ids1 H)) H⟩
    | _, _ => none
theorem W1_makeFunc {fn : Fn} {l1 l2 : List Operand} {u : Tok _} : W1 P T (.makeFunc fn (List.toArray l1) (List.toArray l2)) ⟨env, H⟩ K2 u = Aft (rMakeFunc H fn (l1.map (ev env)) (l2.map (ev env))) K2 ⟨⟩ := rfl

theorem W1_lenc {x : Operand} {t : TypeId} {u : Tok _} : W1 P T (.call { callee := .builtin .len, args := List.toArray [x], argTypes := List.toArray [t] }) ⟨env, H⟩ K2 u = Aft (biRes T H .len [t] [ev env x]) K2 ⟨⟩ := rfl
theorem W1_bi {b : Builtin} {x y : Operand} {t t' : TypeId} {u : Tok _} : W1 P T (.call { callee := .builtin b, args := List.toArray [x, y], argTypes := List.toArray [t, t'] }) ⟨env, H⟩ K2 u = Aft (biRes T H b [t, t'] [ev env x, ev env y]) K2 ⟨⟩ := rfl
def rLen (H : List Ob) (i : Option TyI) (v : PV) : Option Res := match i with
    | some i => match i.d with
      | .sl _ => match lenOf v with | some n => Res.pure H (.int .i64 n) | none => none
      | .arr n _ => Res.pure H (.int .i64 n)
      | .str => match v with | .fv (.lit (.string s)) => Res.pure H (.int .i64 s.size) | _ => none
      | _ => none
    | none => none
theorem biRes_lenv {t : TypeId} {v : PV} : biRes T H .len [t] [v] = rLen H (T.at t) v := rfl
def rAppend (T : Tab) (H : List Ob) (i : Option TyI) (s x : PV) : Option Res := match i with
    | some i => match i.d with
      | .sl e => match T.at e with
        | some ie => if 0 < ie.size then (match srcOf H ie.size x with
          | some (cd, ys) => match s with
            | .nilsl => some ⟨cd ∧ ys.length * ie.bytes ≤ 140737488355328 ∧ ys.length ≤ 140737488355328, .lsl H.length 0 ys.length ie.size, H ++ [.row true ys]⟩
            | .clip xs => some ⟨cd ∧ 0 < ys.length ∧ (∀ y ∈ xs, y.length = ie.size) ∧ (xs.length + ys.length) * ie.bytes ≤ 140737488355328 ∧ xs.length + ys.length ≤ 140737488355328, .lsl H.length 0 (xs.length + ys.length) ie.size, H ++ [.row true (xs ++ ys)]⟩
            | .lsl id 0 len s => match H[id]? with
              | some (.row true xs) => if s = ie.size then some ⟨cd ∧ len ≤ xs.length ∧ (len + ys.length) * ie.bytes ≤ 140737488355328 ∧ len + ys.length ≤ 140737488355328, .lsl H.length 0 (len + ys.length) ie.size, H.set id .dead ++ [.row true (xs.take len ++ ys)]⟩ else none
              | _ => none
            | _ => none
          | none => none) else none
        | none => none
      | _ => none
    | none => none
theorem biRes_append {t : TypeId} {s x : PV} : biRes T H .append [t, t] [s, x] = rAppend T H (T.at t) s x := by
  show (if t = t then _ else none) = _
  rw [if_pos rfl]
  rfl
def rMax (H : List Ob) (o : Option (IntKind × Int × Int)) : Option Res := match o with | some (k, a, b) => Res.pure H (.int k (if b > a then b else a)) | none => none
def rMin (H : List Ob) (o : Option (IntKind × Int × Int)) : Option Res := match o with | some (k, a, b) => Res.pure H (.int k (if b < a then b else a)) | none => none
theorem biRes_max {t t' : TypeId} {x y : PV} : biRes T H .max [t, t'] [x, y] = rMax H (binInts x y) := rfl
theorem biRes_min {t t' : TypeId} {x y : PV} : biRes T H .min [t, t'] [x, y] = rMin H (binInts x y) := rfl

/-- A call of a Go function. -/
def GoCall (P : Program) (st : St) (f : Option (FuncId × List PV × List PV)) (args : List PV) (K : PV → List Ob → Prop) (_ : Tok K) : Prop := match f with
  | some (k, pre, post) => ∃ v H', CallRel P st.heap k (pre ++ args ++ post) v H' ∧ K v H'
  | none => False
theorem W1_value {f : Operand} {l : List Operand} {ts : Array TypeId} {u : Tok _} : W1 P T (.call { callee := .value f, args := List.toArray l, argTypes := ts }) ⟨env, H⟩ K2 u = GoCall P ⟨env, H⟩ (fnOf (ev env f)) (l.map (ev env)) K2 ⟨⟩ := rfl
theorem fnOf_func {k : FuncId} : fnOf (.fv (.lit (.func (.func k) #[] #[]))) = some (k, [], []) := rfl
theorem fnOf_fn {k : FuncId} {a b : List FV} : fnOf (.fv (.fn (.func k) a b)) = some (k, a.map .fv, b.map .fv) := rfl

theorem GoCall.pure {k : FuncId} {pre post args : List PV} {args' : List PV} {obs : List Ob} {res : PV} {t : Tok _} (hd : Den P k [] args' obs res) (hf : fzAs H (pre ++ args ++ post) = some args')
    (hk : K2 (reloc (H.length + ·) res) (shutAs H (pre ++ args ++ post) ++ obs.map (relocOb (H.length + ·)))) : GoCall P ⟨env, H⟩ (some (k, pre, post)) args K2 t := ⟨_, _, .pure _ _ _ hf hd, hk⟩
theorem GoCall.lend (id : Nat) {k : FuncId} {pre post args : List PV} {args' : List PV} {ob ob' : Ob} {obs : List Ob} {res : PV} {t : Tok _} (hd : Den P k [ob] args' (ob' :: obs) res) (ho : H[id]? = some ob) (hrw : ob.rw = true) (hc : ob.closed)
    (hr : (pre ++ args ++ post).any (PV.refsTo id) = true) (hf : fzBs H id (pre ++ args ++ post) = some args') (hs : (shutBs H id (pre ++ args ++ post))[id]? = some ob)
    (hk : K2 (reloc (lent id H.length) res) ((shutBs H id (pre ++ args ++ post)).set id (relocOb (lent id H.length) ob') ++ obs.map (relocOb (lent id H.length)))) : GoCall P ⟨env, H⟩ (some (k, pre, post)) args K2 t :=
  ⟨_, _, .lend id _ _ _ _ _ ho hrw hc hr hf hs hd, hk⟩
end

end Go.AM

/- The abstract machine: the end of a function, words, and the bounds of int. -/
namespace Go.AM

/-- What is asked at the end of a function. -/
def retQ (T : Tab) (rs : List ResultVar) (m : Nat) (H1 : List Ob) (res : PV) (e : AExit) (st : St) : Prop := match e with | .exit _ => False | _ => RetOK T rs m st H1 res

section
variable {P : Program} {T : Tab}

theorem Ap_end_normal {rs : List ResultVar} {m : Nat} {H1 : List Ob} {res : PV} {st : St} {u : Tok _} : Ap (retQ T rs m H1 res) .normal st u = RetOK T rs m st H1 res := rfl
theorem Ap_end_ret {rs : List ResultVar} {m : Nat} {H1 : List Ob} {res : PV} {st : St} {u : Tok _} : Ap (retQ T rs m H1 res) .ret st u = RetOK T rs m st H1 res := rfl

theorem den_of (hT : TabOk P T) (hm : P.follows .mixedOrders = true) {k : FuncId} {fn : Func} {cd : Code} (hf : P.funcs[k]? = some fn) (hb : fn.body = some cd) (hname : (fn.name == "runtime.NumGoroutine") = false)
    {H0 : List Ob} {args : List PV} {H1 : List Ob} {res : PV} {rs : List ResultVar} (hr : fn.results = List.toArray rs) {n : Nat} (hn : fn.ntmps - args.length = n) {env : List PV} (he : args ++ List.replicate n .any = env) {m : Nat} (hm0 : H0.length = m)
    (h : WA P T m cd ⟨env, H0⟩ (retQ T rs m H1 res) ⟨⟩) : Den P k H0 args H1 res := by
  subst hn; subst he; subst hm0
  refine den_of_wpa hT hm hf hb hname ?_
  rw [hr]
  refine WPA.mono cd (fun e st hq => ?_) h
  cases e <;> exact hq

/-- The end of a function that hands over no object. -/
theorem RetOK.pure {st : St} {rs : List ResultVar} {res : PV} {cd : Prop} {vs : List PV} (h1 : resVs T st rs = some (cd, vs)) (hc : cd) (h2 : fzX st.heap [] (oneRes vs) = some res) : RetOK T rs 0 st [] res :=
  ⟨cd, vs, [], h1, hc, List.nodup_nil, fun i hi => absurd hi (Nat.not_lt_zero i), h2, rfl, fun j id hj => by simp at hj, fun o ho => by simp at ho⟩

/-- The end of a function that hands over a fresh slice. -/
theorem RetOK.own {st : St} {rs : List ResultVar} {id len s : Nat} {xs : List (List FV)} {cd : Prop} (h1 : resVs T st rs = some (cd, [.lsl id 0 len s])) (hc : cd) (h2 : st.heap[id]? = some (.row true xs)) :
    RetOK T rs 0 st [.row true xs] (.lsl 0 0 len s) := by
  refine ⟨cd, [.lsl id 0 len s], [id], h1, hc, by simp, fun i hi => absurd hi (Nat.not_lt_zero i), ?_, rfl, fun j k hj => ?_, fun o ho => ?_⟩
  · simp [oneRes, fzX, fzV, fzC, List.idxOf?_cons]
  · cases j with
    | zero =>
      simp at hj; subst hj
      simp [oneRes, idsX, idsV, idsC, List.idxOf?_cons, shutIds, h2]
    | succ j => simp at hj
  · simp at ho; subst ho; exact ⟨trivial, rfl⟩
end

/-- What is handed over may be taken as frozen. -/
theorem Den.freeze {P : Program} {k : FuncId} {args : List PV} {obs : List Ob} {res res' : PV} (h : Den P k [] args obs res) (hf : fzX obs [] res = some res') : Den P k [] args [] res' := by
  refine ⟨h.1, fun c X ρ vs hh hM hvs => ?_⟩
  have hρ0 : ρ = [] := List.eq_nil_of_length_eq_zero hh.len
  subst hρ0
  refine (h.2 c X [] vs hh hM hvs).mono (fun e w' hpost => ?_)
  obtain ⟨v, X', ρ', he, hk, hr, hp, hle, hnew⟩ := hpost
  obtain ⟨X1, h1, hs1, hn1⟩ := hr.shutIds (idsX obs [] res)
  refine ⟨v, X1, [], he, hk, ⟨rfl, by simp, by simp, by simp, h1.xo, h1.xlt, h1.ge, hh.base⟩, ?_, Places.Le.refl _, by simp⟩
  exact fzX_rd hr hp hf hs1 hn1 (fun id j p hj => by simp at hj)

theorem PRds.swap {w : World} {X : Nat → Prop} {ρ : Places} {vs : Array Value} {pre post : List PV} {x y : PV} (h : PRds w X ρ vs (pre ++ x :: post)) (hy : ∀ v, vs[pre.length]? = some v → PRd w X ρ v y) : PRds w X ρ vs (pre ++ y :: post) := by
  refine ⟨by rw [h.1]; simp, fun i v z hv hz => ?_⟩
  by_cases hi : i = pre.length
  · subst hi
    rw [List.getElem?_append_right (Nat.le_refl _), Nat.sub_self] at hz
    simp only [List.getElem?_cons_zero, Option.some.injEq] at hz
    subst hz
    exact hy v hv
  · refine h.2 i v z hv ?_
    rw [← hz]
    rcases Nat.lt_or_gt_of_ne hi with h1 | h1
    · rw [List.getElem?_append_left h1, List.getElem?_append_left h1]
    · rw [List.getElem?_append_right (by omega), List.getElem?_append_right (by omega)]
      obtain ⟨j, hj⟩ : ∃ j, i - pre.length = j + 1 := ⟨i - pre.length - 1, by omega⟩
      rw [hj]; rfl

/-- A slice with no elements is nil, or is not. -/
theorem Den.empty {P : Program} {k : FuncId} {pre post : List PV} {H1 : List Ob} {res : PV} (h1 : Den P k [] (pre ++ .nilsl :: post) H1 res) (h2 : ∀ ad cap, Den P k [] (pre ++ .fv (.lit (.slice (some ad) 0 cap)) :: post) H1 res) :
    Den P k [] (pre ++ .fv (.sl []) :: post) H1 res := by
  refine ⟨h1.1, fun c X ρ vs hh hM hvs => ?_⟩
  have hlt : pre.length < vs.size := by rw [hvs.1]; simp
  have hv : vs[pre.length]? = some vs[pre.length] := by simp [hlt]
  have hrd := hvs.2 pre.length vs[pre.length] (.fv (.sl [])) hv (by simp)
  generalize vs[pre.length] = v at hv hrd
  cases hrd with
  | fv _ _ hf =>
    cases hf with
    | nil => exact h1.2 c X ρ vs hh hM (hvs.swap (fun u hu => by rw [hv] at hu; cases hu; exact .nilsl))
    | sl ad n cap s _ us hn hc =>
      have hn : n = 0 := by simpa using hn.symm
      subst hn
      exact (h2 ad cap).2 c X ρ vs hh hM (hvs.swap (fun u hu => by rw [hv] at hu; cases hu; exact .fv _ _ (.lit _ rfl)))

theorem shutIds_nil' {H : List Ob} : shutIds [] H = H := rfl
theorem shutIds_cons' {H : List Ob} {id : Nat} {ids : List Nat} : shutIds (id :: ids) H = shutIds ids (shut H id) := rfl
theorem fzAs_nil {H : List Ob} : fzAs H [] = some [] := rfl
/- The bounds of int. -/
theorem wrap64 {x : Int} (h : -9223372036854775808 ≤ x ∧ x < 9223372036854775808) : IntKind.i64.wrap x = x := by
  simp [IntKind.wrap, IntKind.bits, IntKind.signed]
  split <;> omega
theorem wrap32 {x : Int} : IntKind.u32.wrap x = x % 4294967296 := by simp [IntKind.wrap, IntKind.bits, IntKind.signed]
theorem wrapU64 {x : Int} : IntKind.u64.wrap x = x % 18446744073709551616 := by simp [IntKind.wrap, IntKind.bits, IntKind.signed]

theorem wrap32c {x : Int} (h : 0 ≤ x ∧ x < 4294967296) : IntKind.u32.wrap x = x := by rw [wrap32]; omega
theorem wrapU64c {x : Int} (h : 0 ≤ x ∧ x < 18446744073709551616) : IntKind.u64.wrap x = x := by rw [wrapU64]; omega
theorem wrapU8c {x : Int} (h : 0 ≤ x ∧ x < 256) : IntKind.u8.wrap x = x := by
  simp [IntKind.wrap, IntKind.bits, IntKind.signed]; omega
theorem fdivc {x b : Int} (h : 0 ≤ b) : x.fdiv b = x / b := Int.fdiv_eq_ediv_of_nonneg x h
theorem tdivc {x b : Int} (h : 0 ≤ x) : x.tdiv b = x / b := Int.tdiv_eq_ediv_of_nonneg h
theorem tmodc {x b : Int} (h : 0 ≤ x) : x.tmod b = x % b := Int.tmod_eq_emod_of_nonneg h

theorem splice_one {a b : FV} : splice [a] 0 [b] = [b] := rfl
theorem fz0_row {H : List Ob} {id n s : Nat} {r : Bool} {xs : List (List FV)} (h : H[id]? = some (.row r xs)) (hn : n = xs.length) : fz0 H (.lsl id 0 n s) = some (.sl xs) := by
  subst hn
  simp [fz0, h]
/-- A row of uint32. -/
def u32s (l : List Nat) : List (List FV) := l.map fun (n : Nat) => [.lit (.int .u32 (n : Int))]
theorem u32s_nil : u32s [] = [] := rfl
theorem u32s_length {l : List Nat} : (u32s l).length = l.length := by simp [u32s]
theorem u32s_getD {l : List Nat} {i : Nat} (h : i < l.length) : (u32s l).getD i [] = [.lit (.int .u32 ((l.getD i 0 : Nat) : Int))] := by
  simp [u32s, h]
theorem u32s_set {l : List Nat} {i : Nat} {x : Int} (h : 0 ≤ x) : (u32s l).set i [.lit (.int .u32 x)] = u32s (l.set i x.toNat) := by
  have : ((x.toNat : Nat) : Int) = x := Int.toNat_of_nonneg h
  simp [u32s, List.map_set, this]
theorem u32s_take {l : List Nat} {n : Nat} : (u32s l).take n = u32s (l.take n) := by simp [u32s, List.map_take]
theorem u32s_drop {l : List Nat} {n : Nat} : (u32s l).drop n = u32s (l.drop n) := by simp [u32s, List.map_drop]
theorem u32s_append {l k : List Nat} : u32s l ++ u32s k = u32s (l ++ k) := by simp [u32s]
theorem u32s_one {x : Int} (h : 0 ≤ x) : [[FV.lit (.int .u32 x)]] = u32s [x.toNat] := by
  have : ((x.toNat : Nat) : Int) = x := Int.toNat_of_nonneg h
  simp [u32s, this]
theorem u32s_zeros {n : Nat} : List.replicate n [FV.lit (.int .u32 0)] = u32s (List.replicate n 0) := by simp [u32s]
theorem u32s_size {l : List Nat} : (∀ y ∈ u32s l, y.length = 1) = True := by
  simp only [eq_iff_iff, iff_true]
  intro y hy
  simp only [u32s, List.mem_map] at hy
  obtain ⟨n, _, rfl⟩ := hy
  rfl

end Go.AM

/- The abstract machine: the rules for stepping, bound into one. -/
namespace Go.AM
set_option maxRecDepth 100000
theorem rules0 : type_of% (And.intro @WA_seq (And.intro @WA_skip (And.intro @WA_label (And.intro @WA_exit (And.intro @WA_ret (And.intro @WA_block (And.intro @WA_cond (And.intro @WA_region (And.intro @WA_draw (And.intro @Ap_seq_normal (And.intro @Ap_seq_exit (And.intro @Ap_seq_ret (And.intro @Ap_block_normal (And.intro @Ap_block_exit (And.intro @Ap_block_ret (And.intro @Ap_loop_exit (And.intro @Ap_loop_ret (And.intro @Ap_cut_normal (And.intro @Ap_cut_exit (@Ap_cut_ret)))))))))))))))))))) := And.intro @WA_seq (And.intro @WA_skip (And.intro @WA_label (And.intro @WA_exit (And.intro @WA_ret (And.intro @WA_block (And.intro @WA_cond (And.intro @WA_region (And.intro @WA_draw (And.intro @Ap_seq_normal (And.intro @Ap_seq_exit (And.intro @Ap_seq_ret (And.intro @Ap_block_normal (And.intro @Ap_block_exit (And.intro @Ap_block_ret (And.intro @Ap_loop_exit (And.intro @Ap_loop_ret (And.intro @Ap_cut_normal (And.intro @Ap_cut_exit (@Ap_cut_ret)))))))))))))))))))
theorem rules1 : type_of% (And.intro @WO_nil (And.intro @WO_none (And.intro @WO_some (And.intro @WD_nil (And.intro @WD_none (And.intro @WD_some (And.intro @dK_store (And.intro @dK_else (And.intro @Grown_self (And.intro @Grown_append (And.intro @Grown_nil (And.intro @Grown_cons (And.intro @Br_true (And.intro @Br_false (And.intro @condV_bool (And.intro @guardK_t (And.intro @guardK_f (And.intro @guardK_tup (And.intro @guardT_zero (@guardT_succ)))))))))))))))))))) := And.intro @WO_nil (And.intro @WO_none (And.intro @WO_some (And.intro @WD_nil (And.intro @WD_none (And.intro @WD_some (And.intro @dK_store (And.intro @dK_else (And.intro @Grown_self (And.intro @Grown_append (And.intro @Grown_nil (And.intro @Grown_cons (And.intro @Br_true (And.intro @Br_false (And.intro @condV_bool (And.intro @guardK_t (And.intro @guardK_f (And.intro @guardK_tup (And.intro @guardT_zero (@guardT_succ)))))))))))))))))))
theorem rules2 : type_of% (And.intro @updE_some (And.intro @updE_none (And.intro @Aft_some (And.intro @Aft_pure (And.intro @Aft_if (And.intro @ev_tmp (And.intro @ev_const (And.intro @ev_func (And.intro @of_int (And.intro @of_bool (And.intro @of_nil (And.intro @of_nilFunc (And.intro @of_nilPtr (And.intro @W1_move (And.intro @W1_assign (And.intro @W1_pick (And.intro @rPick_bool (And.intro @W1_alloc (And.intro @W1_box (@W1_build)))))))))))))))))))) := And.intro @updE_some (And.intro @updE_none (And.intro @Aft_some (And.intro @Aft_pure (And.intro @Aft_if (And.intro @ev_tmp (And.intro @ev_const (And.intro @ev_func (And.intro @of_int (And.intro @of_bool (And.intro @of_nil (And.intro @of_nilFunc (And.intro @of_nilPtr (And.intro @W1_move (And.intro @W1_assign (And.intro @W1_pick (And.intro @rPick_bool (And.intro @W1_alloc (And.intro @W1_box (@W1_build)))))))))))))))))))
theorem rules3 : type_of% (And.intro @W1_buildSlice (And.intro @W1_load (And.intro @W1_store (And.intro @W1_nilCheck (And.intro @W1_binOp (And.intro @W1_unOp (And.intro @W1_convert (And.intro @W1_makeSlice (And.intro @W1_slice (And.intro @W1_fieldAddr (And.intro @W1_field (And.intro @W1_indexAddr (And.intro @W1_index (And.intro @W1_extract (And.intro @W1_makeFunc (And.intro @W1_lenc (And.intro @W1_bi (And.intro @biRes_lenv (And.intro @biRes_append (@biRes_max)))))))))))))))))))) := And.intro @W1_buildSlice (And.intro @W1_load (And.intro @W1_store (And.intro @W1_nilCheck (And.intro @W1_binOp (And.intro @W1_unOp (And.intro @W1_convert (And.intro @W1_makeSlice (And.intro @W1_slice (And.intro @W1_fieldAddr (And.intro @W1_field (And.intro @W1_indexAddr (And.intro @W1_index (And.intro @W1_extract (And.intro @W1_makeFunc (And.intro @W1_lenc (And.intro @W1_bi (And.intro @biRes_lenv (And.intro @biRes_append (@biRes_max)))))))))))))))))))
theorem rules4 : type_of% (And.intro @biRes_min (And.intro @W1_value (And.intro @fnOf_func (And.intro @fnOf_fn (And.intro @shutIds_nil' (And.intro @shutIds_cons' (And.intro @List.modify_zero_cons.{0} (And.intro @List.modify_succ_cons.{0} (And.intro @List.flatMap_cons.{0, 0} (And.intro @List.flatMap_nil.{0, 0} (And.intro @List.flatten_cons.{0} (And.intro @List.flatten_nil.{0} (And.intro @List.set_cons_zero.{0} (And.intro @List.set_cons_succ.{0} (And.intro @List.getD_cons_zero.{0} (And.intro @List.getD_cons_succ.{0} (And.intro @List.getElem?_cons_zero.{0} (And.intro @List.getElem?_cons_succ.{0} (And.intro @List.length_cons.{0} (@List.length_nil.{0})))))))))))))))))))) := And.intro @biRes_min (And.intro @W1_value (And.intro @fnOf_func (And.intro @fnOf_fn (And.intro @shutIds_nil' (And.intro @shutIds_cons' (And.intro @List.modify_zero_cons.{0} (And.intro @List.modify_succ_cons.{0} (And.intro @List.flatMap_cons.{0, 0} (And.intro @List.flatMap_nil.{0, 0} (And.intro @List.flatten_cons.{0} (And.intro @List.flatten_nil.{0} (And.intro @List.set_cons_zero.{0} (And.intro @List.set_cons_succ.{0} (And.intro @List.getD_cons_zero.{0} (And.intro @List.getD_cons_succ.{0} (And.intro @List.getElem?_cons_zero.{0} (And.intro @List.getElem?_cons_succ.{0} (And.intro @List.length_cons.{0} (@List.length_nil.{0})))))))))))))))))))
theorem rules5 : type_of% (And.intro @List.cons_append.{0} (And.intro @List.nil_append.{0} (And.intro @List.replicate_succ.{0} (And.intro @List.replicate_zero.{0} (And.intro @Bool.false_eq_true (And.intro @true_and (And.intro @and_true (And.intro @List.headD_cons.{0} (And.intro @List.take_succ_cons.{0} (And.intro @List.take_zero.{0} (And.intro @List.take_nil.{0} (And.intro @List.drop_zero.{0} (And.intro @List.drop_succ_cons.{0} (And.intro @Int.toNat_natCast (And.intro @Nat.zero_add (And.intro @u32s_length (And.intro @u32s_getD (And.intro @u32s_set (And.intro @u32s_take (@u32s_drop)))))))))))))))))))) := And.intro @List.cons_append.{0} (And.intro @List.nil_append.{0} (And.intro @List.replicate_succ.{0} (And.intro @List.replicate_zero.{0} (And.intro @Bool.false_eq_true (And.intro @true_and (And.intro @and_true (And.intro @List.headD_cons.{0} (And.intro @List.take_succ_cons.{0} (And.intro @List.take_zero.{0} (And.intro @List.take_nil.{0} (And.intro @List.drop_zero.{0} (And.intro @List.drop_succ_cons.{0} (And.intro @Int.toNat_natCast (And.intro @Nat.zero_add (And.intro @u32s_length (And.intro @u32s_getD (And.intro @u32s_set (And.intro @u32s_take (@u32s_drop)))))))))))))))))))
theorem rules6 : type_of% (And.intro @u32s_append (And.intro @u32s_zeros (And.intro @u32s_size (And.intro @List.getD_nil.{0} (And.intro @List.map_cons.{0, 0} (And.intro @List.map_nil.{0, 0} (And.intro @Option.map_none.{0, 0} (And.intro @Option.map_some.{0, 0} (And.intro @Ob.ro.eq_def (And.intro @PV.asInt.eq_def (And.intro @PV.cells.eq_def (And.intro @Tab.isBool.eq_def (And.intro @Tab.isSl.eq_def (And.intro @TyI.isAgg.eq_def (And.intro @binInt.eq_def (And.intro @binInts.eq_def (And.intro @binShift.eq_def (And.intro @binV.eq_def (And.intro @bound.eq_def (@cellsAt.eq_def)))))))))))))))))))) := And.intro @u32s_append (And.intro @u32s_zeros (And.intro @u32s_size (And.intro @List.getD_nil.{0} (And.intro @List.map_cons.{0, 0} (And.intro @List.map_nil.{0, 0} (And.intro @Option.map_none.{0, 0} (And.intro @Option.map_some.{0, 0} (And.intro @Ob.ro.eq_def (And.intro @PV.asInt.eq_def (And.intro @PV.cells.eq_def (And.intro @Tab.isBool.eq_def (And.intro @Tab.isSl.eq_def (And.intro @TyI.isAgg.eq_def (And.intro @binInt.eq_def (And.intro @binInts.eq_def (And.intro @binShift.eq_def (And.intro @binV.eq_def (And.intro @bound.eq_def (@cellsAt.eq_def)))))))))))))))))))
theorem rules7 : type_of% (And.intro @fz0.eq_def (And.intro @ids0.eq_def (And.intro @ids1.eq_def (And.intro @idsA.eq_def (And.intro @isStore.eq_def (And.intro @lenOf.eq_def (And.intro @nilV.eq_def (And.intro @oneOr.eq_def (And.intro @rAlloc.eq_def (And.intro @rAppend.eq_def (And.intro @rBox.eq_def (And.intro @rBuild.eq_def (And.intro @rBuildSlice.eq_def (And.intro @rConv.eq_def (And.intro @rExtract.eq_def (And.intro @rField.eq_def (And.intro @rFieldAddr.eq_def (And.intro @rIndex.eq_def (And.intro @rIndexAddr.eq_def (@rLen.eq_def)))))))))))))))))))) := And.intro @fz0.eq_def (And.intro @ids0.eq_def (And.intro @ids1.eq_def (And.intro @idsA.eq_def (And.intro @isStore.eq_def (And.intro @lenOf.eq_def (And.intro @nilV.eq_def (And.intro @oneOr.eq_def (And.intro @rAlloc.eq_def (And.intro @rAppend.eq_def (And.intro @rBox.eq_def (And.intro @rBuild.eq_def (And.intro @rBuildSlice.eq_def (And.intro @rConv.eq_def (And.intro @rExtract.eq_def (And.intro @rField.eq_def (And.intro @rFieldAddr.eq_def (And.intro @rIndex.eq_def (And.intro @rIndexAddr.eq_def (@rLen.eq_def)))))))))))))))))))
theorem rules8 : type_of% (And.intro @rLit.eq_def (And.intro @rLoad.eq_def (And.intro @rMake.eq_def (And.intro @rMakeFunc.eq_def (And.intro @rMax.eq_def (And.intro @rMin.eq_def (And.intro @rNil.eq_def (And.intro @rNilC.eq_def (And.intro @rSlice.eq_def (And.intro @rStore.eq_def (And.intro @rUn.eq_def (And.intro @reloc.eq_def (And.intro @reloc1.eq_def (And.intro @relocOb.eq_def (And.intro @shut.eq_def (And.intro @shutAll.eq_def (And.intro @shutAs.eq_def (And.intro @splice.eq_def (And.intro @srcOf.eq_def (@storeAt.eq_def)))))))))))))))))))) := And.intro @rLit.eq_def (And.intro @rLoad.eq_def (And.intro @rMake.eq_def (And.intro @rMakeFunc.eq_def (And.intro @rMax.eq_def (And.intro @rMin.eq_def (And.intro @rNil.eq_def (And.intro @rNilC.eq_def (And.intro @rSlice.eq_def (And.intro @rStore.eq_def (And.intro @rUn.eq_def (And.intro @reloc.eq_def (And.intro @reloc1.eq_def (And.intro @relocOb.eq_def (And.intro @shut.eq_def (And.intro @shutAll.eq_def (And.intro @shutAs.eq_def (And.intro @splice.eq_def (And.intro @srcOf.eq_def (@storeAt.eq_def)))))))))))))))))))
theorem rules9 : type_of% (And.intro @unV.eq_def (And.intro @fillP.eq_1 (And.intro @fillP.eq_2 (And.intro @groups.eq_1 (And.intro @groups.eq_2 (And.intro @fzs.eq_1 (@fzs.eq_2))))))) := And.intro @unV.eq_def (And.intro @fillP.eq_1 (And.intro @fillP.eq_2 (And.intro @groups.eq_1 (And.intro @groups.eq_2 (And.intro @fzs.eq_1 (@fzs.eq_2))))))
theorem rules : type_of% (And.intro rules0 (And.intro rules1 (And.intro rules2 (And.intro rules3 (And.intro rules4 (And.intro rules5 (And.intro rules6 (And.intro rules7 (And.intro rules8 (rules9)))))))))) := And.intro rules0 (And.intro rules1 (And.intro rules2 (And.intro rules3 (And.intro rules4 (And.intro rules5 (And.intro rules6 (And.intro rules7 (And.intro rules8 (rules9)))))))))
end Go.AM

/- The abstract machine: cuts behind a block, and tails of temporaries that nobody knows. -/
namespace Go.AM

/-- Temporaries that nobody knows. -/
def tl (x : Nat → PV) (s : Nat) : Nat → List PV
  | 0 => []
  | n + 1 => x s :: tl x (s + 1) n

theorem tl_of : ∀ (l : List PV) (s : Nat) (x : Nat → PV), (∀ i, x (s + i) = l.getD i .any) → tl x s l.length = l
  | [], _, _, _ => rfl
  | v :: l, s, x, h => by
    simp only [List.length_cons, tl]
    have h0 := h 0
    simp only [Nat.add_zero, List.getD_cons_zero] at h0
    rw [h0, tl_of l (s + 1) x (fun i => by rw [Nat.add_assoc, Nat.add_comm 1 i, h (i + 1), List.getD_cons_succ])]
/-- Any list is a tail. -/
theorem exists_tl (l : List PV) (s n : Nat) (hn : l.length = n) : ∃ x, l = tl x s n :=
  ⟨fun i => l.getD (i - s) .any, by subst hn; exact (tl_of l s _ (fun i => by rw [Nat.add_sub_cancel_left])).symm⟩

theorem WA.blockcut {P : Program} {T : Tab} {m : Nat} {α : Type} (f : α → St) (G : α → Prop) {x y : Code} {id : Nat} {st : St} {Q : KQ} {u : Tok (y, Q)} {w : Tok (seqQ P T m y Q u)} {t : Tok (x, blockQ id (seqQ P T m y Q u) w)}
    (h1 : WA P T m x st (blockQ id (cutQ (Mid f G) Q ⟨⟩) ⟨⟩) ⟨⟩) (h2 : ∀ a, G a → WA P T m y (f a) Q ⟨⟩) : WA P T m x st (blockQ id (seqQ P T m y Q u) w) t := by
  refine WPA.mono x (fun e st1 h => ?_) h1
  have hm : ∀ st2, Mid f G st2 → WPA P T m y st2 Q := fun st2 ⟨a, hs, hg⟩ => by subst hs; exact h2 a hg
  cases e with
  | normal => exact hm _ h
  | exit i =>
    simp only [blockQ] at h ⊢
    split
    · rename_i hi; rw [if_pos hi] at h; exact hm _ h
    · rename_i hi; rw [if_neg hi] at h; exact h
  | ret => exact h
/-- The state between, given by what is known and a tail. -/
theorem Mid.tail {α : Type} {pre : α → List PV} {H : α → List Ob} {s n : Nat} {G : α → Prop} {st : St} (a : α) (l : List PV) (hn : l.length = n) (h : st = ⟨pre a ++ l, H a⟩) (g : G a) :
    Mid (fun (y : α × (Nat → PV)) => ⟨pre y.1 ++ tl y.2 s n, H y.1⟩) (fun y => G y.1) st := by
  obtain ⟨x, hx⟩ := exists_tl l s n hn
  exact ⟨(a, x), by rw [h, hx], g⟩
theorem Mid.ex {α : Type} {f : α × (Nat → PV) → St} {G : α × (Nat → PV) → Prop} {env : List PV} {H : List Ob} (a : α) (h : (⟨env, H⟩ : St) = f (a, fun i => env.getD i .any)) (hg : G (a, fun i => env.getD i .any)) : Mid f G ⟨env, H⟩ := ⟨_, h, hg⟩

/-- The end of a function that was lent a slice, and hands over no object. -/
theorem RetOK.lent {T : Tab} {st : St} {rs : List ResultVar} {res : PV} {xs : List (List FV)} {cd : Prop} {vs : List PV} (h1 : resVs T st rs = some (cd, vs)) (hc : cd) (hx : st.heap = [.row true xs])
    (h2 : fzX st.heap [0] (oneRes vs) = some res) (h3 : idsX st.heap [0] (oneRes vs) = []) : RetOK T rs 1 st [.row true xs] res := by
  refine ⟨cd, vs, [0], h1, hc, by simp, fun i hi => ?_, h2, rfl, fun j id hj => ?_, fun o ho => ?_⟩
  · have : i = 0 := by omega
    subst this; rfl
  · cases j with
    | zero =>
      simp at hj; subst hj
      rw [h3, hx]; rfl
    | succ j => simp at hj
  · simp at ho; subst ho; exact ⟨trivial, rfl⟩

/-- The end of a function that was lent an object, and hands over no other. -/
theorem RetOK.lentB {T : Tab} {st : St} {rs : List ResultVar} {res : PV} {ob : Ob} {cd : Prop} {vs : List PV} (h1 : resVs T st rs = some (cd, vs)) (hc : cd) (hx : st.heap.head? = some ob) (hcl : ob.closed) (hrw : ob.rw = true)
    (h2 : fzX st.heap [0] (oneRes vs) = some res) (h3 : (shutIds (idsX st.heap [0] (oneRes vs)) st.heap).head? = some ob) : RetOK T rs 1 st [ob] res := by
  refine ⟨cd, vs, [0], h1, hc, by simp, fun i hi => ?_, h2, rfl, fun j id hj => ?_, fun o ho => ?_⟩
  · have : i = 0 := by omega
    subst this; rfl
  · cases j with
    | zero =>
      simp at hj; subst hj
      rw [← List.head?_eq_getElem?, h3]; rfl
    | succ j => simp at hj
  · simp at ho; subst ho; exact ⟨hcl, hrw⟩
end Go.AM
