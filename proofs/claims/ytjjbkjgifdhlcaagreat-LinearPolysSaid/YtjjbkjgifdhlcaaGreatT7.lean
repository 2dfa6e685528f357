/- The abstract machine: rules for stepping. What must not be simplified hangs on a token, and is so out of reach. -/
import Derived.Test.YtjjbkjgifdhlcaaGreatT6

namespace Go.AM

structure Tok {α : Type} (a : α) : Type where

def Br (b : Bool) (p q : Prop) (_ : Tok (p, q)) : Prop := (b = true → p) ∧ (b = false → q)
theorem Br.intro {b : Bool} {p q : Prop} {t : Tok (p, q)} (h1 : b = true → p) (h2 : b = false → q) : Br b p q t := ⟨h1, h2⟩
theorem Br.dec {c : Prop} {_ : Decidable c} {p q : Prop} {t : Tok (p, q)} (h1 : c → decide c = true → p) (h2 : ¬ c → decide c = false → q) : Br (decide c) p q t :=
  ⟨fun h => h1 (of_decide_eq_true h) h, fun h => h2 (of_decide_eq_false h) h⟩
theorem Br.beqInt {a b : Int} {p q : Prop} {t : Tok (p, q)} (h1 : a = b → (a == b) = true → p) (h2 : a ≠ b → (a == b) = false → q) : Br (a == b) p q t :=
  ⟨fun h => h1 (by simpa using h) h, fun h => h2 (by simpa using h) h⟩
theorem Br.bneInt {a b : Int} {p q : Prop} {t : Tok (p, q)} (h1 : a ≠ b → (a != b) = true → p) (h2 : a = b → (a != b) = false → q) : Br (a != b) p q t :=
  ⟨fun h => h1 (by simpa using h) h, fun h => h2 (by simpa using h) h⟩
theorem Br_true {p q : Prop} {t : Tok (p, q)} : Br true p q t = p := by simp [Br]
theorem Br_false {p q : Prop} {t : Tok (p, q)} : Br false p q t = q := by simp [Br]

def condV (v : PV) (p q : Prop) (_ : Tok (p, q)) : Prop := match v with | .fv (.lit (.bool b)) => Br b p q ⟨⟩ | _ => False
theorem condV_bool {b : Bool} {p q : Prop} {t : Tok (p, q)} : condV (.fv (.lit (.bool b))) p q t = Br b p q ⟨⟩ := rfl

def guardK (v : PV) (want : Bool) (p q : Prop) (_ : Tok (p, q)) : Prop := match v with
  | .fv (.lit (.bool b)) => (b = want → p) ∧ (b = !want → q)
  | .tup [] => q
  | _ => False
theorem guardK_t {b : Bool} {p q : Prop} {t : Tok (p, q)} : guardK (.fv (.lit (.bool b))) true p q t = Br b p q ⟨⟩ := rfl
theorem guardK_f {b : Bool} {p q : Prop} {t : Tok (p, q)} : guardK (.fv (.lit (.bool b))) false p q t = Br b q p ⟨⟩ := by
  simp [guardK, Br, and_comm]
theorem guardK_tup {want : Bool} {p q : Prop} {t : Tok (p, q)} : guardK (.tup []) want p q t = q := rfl

def dstL : List Oper → Nat → Option Nat
  | [], _ => none
  | o :: _, 0 => o.dst
  | _ :: l, j + 1 => dstL l j
theorem dstL_eq : ∀ (l : List Oper) (j : Nat), (l[j]?).bind (·.dst) = dstL l j
  | [], _ => by simp [dstL]
  | o :: _, 0 => by simp [dstL]
  | _ :: l, j + 1 => by simp [dstL, dstL_eq l j]

def updE (env : List PV) (d : Option Nat) (v : PV) : List PV := match d with | some t => env.set t v | none => env
theorem updE_some {env : List PV} {t : Nat} {v : PV} : updE env (some t) v = env.set t v := rfl
theorem updE_none {env : List PV} {v : PV} : updE env none v = env := rfl

def getG (env : List PV) (o : Option Nat) : PV := match o with | some t => env.getD t .any | none => .any
def guardT (l : List Oper) (j : Nat) (env : List PV) (_ : Tok l) : PV := getG env (dstL l j)
theorem guardT_zero {env : List PV} {d : Nat} {op : Op} {ty : TypeId} {pos : String} {af : Array Edge} {g : Option (Nat × Bool)} {l : List Oper} {t : Tok _} : guardT ({ dst := some d, op := op, type := ty, pos := pos, after := af, guard := g } :: l) 0 env t = env.getD d .any := rfl
theorem guardT_succ {env : List PV} {o : Oper} {l : List Oper} {j : Nat} {t : Tok _} : guardT (o :: l) (j + 1) env t = guardT l j env ⟨⟩ := rfl

abbrev KQ := AExit → St → Prop
def WA (P : Program) (T : Tab) (m : Nat) (cd : Code) (st : St) (Q : KQ) (_ : Tok (cd, Q)) : Prop := WPA P T m cd st Q
def WO (P : Program) (T : Tab) (all l : List Oper) (st : St) (K : St → Prop) (_ : Tok (all, l, K)) : Prop := WPops P T (List.toArray all) l st K
def WD (P : Program) (T : Tab) (all l : List Oper) (st : St) (K : St → Prop) (_ : Tok (all, l, K)) : Prop := WPdraw P T (List.toArray all) l st K
def W1 (P : Program) (T : Tab) (o : Op) (st : St) (K : PV → List Ob → Prop) (_ : Tok (o, K)) : Prop := WPop P T o st K
def Aft (r : Option Res) (K : PV → List Ob → Prop) (_ : Tok K) : Prop := after r K
def Draw (P : Program) (T : Tab) (ops : List Oper) (st : St) (K : St → Prop) (_ : Tok (ops, K)) : Prop := (drawOk (List.toArray ops) = true ∧ ∃ ids, WPdraw P T (List.toArray ops) ops { st with heap := shutIds ids st.heap } K) ∨
  ∃ st1, WPany P T (List.toArray ops) ops.length (Array.replicate ops.length false) st (fun s => s = st1) ∧ K st1
def AN (P : Program) (T : Tab) (l : List Oper) (n : Nat) (listed : Array Bool) (st st1 : St) (_ : Tok l) : Prop := WPany P T (List.toArray l) n listed st (fun s => s = st1)
def seqQ (P : Program) (T : Tab) (m : Nat) (y : Code) (Q : KQ) (_ : Tok (y, Q)) (e : AExit) (st : St) : Prop := match e with | .normal => WPA P T m y st Q | e => Q e st
def blockQ (id : Nat) (Q : KQ) (_ : Tok Q) (e : AExit) (st : St) : Prop := match e with | .exit i => if i = id then Q .normal st else Q (.exit i) st | e => Q e st
def Ap (Q : KQ) (e : AExit) (st : St) (_ : Tok Q) : Prop := Q e st

section
variable {P : Program} {T : Tab} {m : Nat} {st : St} {env : List PV} {H : List Ob} {Q : KQ} {K : St → Prop} {K2 : PV → List Ob → Prop}

theorem WA.of {cd : Code} (h : WA P T m cd st Q ⟨⟩) : WPA P T m cd st Q := h
theorem Ap_seq_normal {y : Code} {t : Tok (y, Q)} {u : Tok _} : Ap (seqQ P T m y Q t) .normal st u = WA P T m y st Q ⟨⟩ := rfl
theorem Ap_seq_exit {y : Code} {i : Nat} {t : Tok (y, Q)} {u : Tok _} : Ap (seqQ P T m y Q t) (.exit i) st u = Ap Q (.exit i) st ⟨⟩ := rfl
theorem Ap_seq_ret {y : Code} {t : Tok (y, Q)} {u : Tok _} : Ap (seqQ P T m y Q t) .ret st u = Ap Q .ret st ⟨⟩ := rfl
theorem Ap_block_normal {i : Nat} {t : Tok Q} {u : Tok _} : Ap (blockQ i Q t) .normal st u = Ap Q .normal st ⟨⟩ := rfl
theorem Ap_block_exit {i id : Nat} {t : Tok Q} {u : Tok _} : Ap (blockQ id Q t) (.exit i) st u = Br (i == id) (Ap Q .normal st ⟨⟩) (Ap Q (.exit i) st ⟨⟩) ⟨⟩ := by
  by_cases h : i = id
  · subst h; simp [blockQ, Br, Ap]
  · simp [blockQ, Br, h, Ap]
theorem Ap_block_ret {i : Nat} {t : Tok Q} {u : Tok _} : Ap (blockQ i Q t) .ret st u = Ap Q .ret st ⟨⟩ := rfl

theorem WA_seq {x y : Code} {t : Tok _} : WA P T m (.seq x y) st Q t = WA P T m x st (seqQ P T m y Q ⟨⟩) ⟨⟩ := rfl
theorem WA_skip {t : Tok _} : WA P T m .skip st Q t = Ap Q .normal st ⟨⟩ := rfl
theorem WA_label {s : Nat} {t : Tok _} : WA P T m (.label s) st Q t = Ap Q .normal st ⟨⟩ := rfl
theorem WA_exit {i : Nat} {t : Tok _} : WA P T m (.exit i) st Q t = Ap Q (.exit i) st ⟨⟩ := rfl
theorem WA_ret {t : Tok _} : WA P T m .ret st Q t = Ap Q .ret st ⟨⟩ := rfl
theorem WA_block {i : Nat} {x : Code} {t : Tok _} : WA P T m (.block i x) st Q t = WA P T m x st (blockQ i Q ⟨⟩) ⟨⟩ := rfl
theorem WA_cond {c : Operand} {x y : Code} {t : Tok _} : WA P T m (.cond c x y) ⟨env, H⟩ Q t = condV (ev env c) (WA P T m x ⟨env, H⟩ Q ⟨⟩) (WA P T m y ⟨env, H⟩ Q ⟨⟩) ⟨⟩ := rfl
theorem WA_region {n : Nat} {l : List Oper} {t : Tok _} : WA P T m (.region n (List.toArray l) false) st Q t = WO P T l l st (fun st => Ap Q .normal st ⟨⟩) ⟨⟩ := rfl
theorem WA_draw {n : Nat} {l : List Oper} {t : Tok _} : WA P T m (.region n (List.toArray l) true) st Q t = Draw P T l st (fun st => Ap Q .normal st ⟨⟩) ⟨⟩ := rfl
theorem Draw.intro {l : List Oper} {t : Tok _} (h : drawOk (List.toArray l) = true) (k : WD P T l l st K ⟨⟩) : Draw P T l st K t := .inl ⟨h, [], k⟩
theorem Draw.freeze (ids : List Nat) {l : List Oper} {t : Tok _} (h : drawOk (List.toArray l) = true) (k : WD P T l l { st with heap := shutIds ids st.heap } K ⟨⟩) : Draw P T l st K t := .inl ⟨h, ids, k⟩
theorem Draw.any (st1 : St) {l : List Oper} {t : Tok _} (h : AN P T l l.length (Array.replicate l.length false) st st1 ⟨⟩) (k : K st1) : Draw P T l st K t := .inr ⟨st1, h, k⟩
theorem AN.nil {l : List Oper} {n : Nat} {listed : Array Bool} {st1 : St} {t : Tok _} (h : Region.ready .any (List.toArray l) listed = []) (k : st = st1) : AN P T l n listed st st1 t := by
  cases n with
  | zero => exact ⟨h, k⟩
  | succ n => exact ⟨fun _ => k, fun i hi => by rw [h] at hi; cases hi⟩
theorem AN.step (rs : List Nat) {l : List Oper} {n : Nat} {listed : Array Bool} {st1 : St} {t : Tok _} (h : Region.ready .any (List.toArray l) listed = rs) (h0 : rs ≠ [])
    (k : ∀ i ∈ rs, ∃ o, l[i]? = some o ∧ o.guard = none ∧ W1 P T o.op st (fun v H => AN P T l n (listed.setIfInBounds i true) ⟨updE st.env o.dst v, H⟩ st1 ⟨⟩) ⟨⟩) : AN P T l (n + 1) listed st st1 t := by
  refine ⟨fun e => absurd (h.symm.trans e) h0, fun i hi => ?_⟩
  rw [h] at hi
  obtain ⟨o, ho, hg, hw⟩ := k i hi
  rw [List.getElem?_toArray, ho]
  exact ⟨hg, hw⟩

def loopQ {α : Type} (m : Nat) (f : α → St) (μ : α → Nat) (G : α → Prop) (a : α) (Q : KQ) (_ : Tok Q) (e : AExit) (st : St) : Prop := match e with | .normal => ∃ a', μ a' < μ a ∧ Weak m st (f a') ∧ G a' | e => Q e st
theorem Ap_loop_exit {α : Type} {f : α → St} {μ : α → Nat} {G : α → Prop} {a : α} {i : Nat} {t : Tok _} {u : Tok _} : Ap (loopQ m f μ G a Q t) (.exit i) st u = Ap Q (.exit i) st ⟨⟩ := rfl
theorem Ap_loop_ret {α : Type} {f : α → St} {μ : α → Nat} {G : α → Prop} {a : α} {t : Tok _} {u : Tok _} : Ap (loopQ m f μ G a Q t) .ret st u = Ap Q .ret st ⟨⟩ := rfl
theorem Ap_loop {α : Type} {f : α → St} {μ : α → Nat} {G : α → Prop} {a : α} {t : Tok _} {u : Tok _} (a' : α) (h1 : μ a' < μ a) (h2 : Weak m st (f a')) (h3 : G a') : Ap (loopQ m f μ G a Q t) .normal st u := ⟨a', h1, h2, h3⟩
theorem WA.loop {α : Type} (f : α → St) (μ : α → Nat) (G : α → Prop) {x : Code} {t : Tok _} (a0 : α) (hw : Weak m st (f a0)) (hg : G a0)
    (hr : ∀ a, G a → WA P T m x (f a) (loopQ m f μ G a Q ⟨⟩) ⟨⟩) : WA P T m (.loop x) st Q t := by
  refine ⟨fun n st => ∃ a, n = μ a ∧ st = f a ∧ G a, ⟨μ a0, f a0, hw, a0, rfl, rfl, hg⟩, ?_⟩
  rintro n st0 ⟨a, rfl, rfl, hga⟩
  refine WPA.mono x (fun e st1 h => ?_) (hr a hga)
  cases e with
  | normal => obtain ⟨a', h1, h2, h3⟩ := h; exact ⟨μ a', f a', h1, h2, a', rfl, rfl, h3⟩
  | exit i => exact h
  | ret => exact h
def cutQ (R : St → Prop) (Q : KQ) (_ : Tok (R, Q)) (e : AExit) (st : St) : Prop := match e with | .normal => R st | e => Q e st
theorem Ap_cut_normal {R : St → Prop} {t : Tok (R, Q)} {u : Tok _} : Ap (cutQ R Q t) .normal st u = R st := rfl
theorem Ap_cut_exit {R : St → Prop} {i : Nat} {t : Tok (R, Q)} {u : Tok _} : Ap (cutQ R Q t) (.exit i) st u = Ap Q (.exit i) st ⟨⟩ := rfl
theorem Ap_cut_ret {R : St → Prop} {t : Tok (R, Q)} {u : Tok _} : Ap (cutQ R Q t) .ret st u = Ap Q .ret st ⟨⟩ := rfl
def Mid {α : Type} (f : α → St) (G : α → Prop) (st : St) : Prop := ∃ a, st = f a ∧ G a
theorem Mid.mk {α : Type} {f : α → St} {G : α → Prop} {st : St} (a : α) (h : st = f a) (g : G a) : Mid f G st := ⟨a, h, g⟩
theorem WA.cut {α : Type} (f : α → St) (G : α → Prop) {x y : Code} {t : Tok _} (h1 : WA P T m x st (cutQ (Mid f G) Q ⟨⟩) ⟨⟩) (h2 : ∀ a, G a → WA P T m y (f a) Q ⟨⟩) : WA P T m (.seq x y) st Q t :=
  WPA.cut (Mid f G) (WPA.mono x (fun e st h => by cases e <;> exact h) h1) (fun st' ⟨a, hs, hg⟩ => by subst hs; exact h2 a hg)
theorem WA.assoc {x y z : Code} {t : Tok _} (h : WA P T m (.seq (.seq x y) z) st Q ⟨⟩) : WA P T m (.seq x (.seq y z)) st Q t := by
  show WPA P T m (.seq x (.seq y z)) st Q
  have h : WPA P T m (.seq (.seq x y) z) st Q := h
  unfold WPA at h ⊢
  unfold WPA at h
  refine WPA.mono x (fun e st' he => ?_) h
  cases e with
  | normal => exact he
  | exit i => exact he
  | ret => exact he
theorem WA.seq {x y : Code} {t : Tok _} (h : WA P T m x st (seqQ P T m y Q ⟨⟩) ⟨⟩) : WA P T m (.seq x y) st Q t := h

theorem WO_nil {all : List Oper} {t : Tok _} : WO P T all [] st K t = K st := rfl
theorem WO_none {all : List Oper} {d : Option Nat} {op : Op} {ty : TypeId} {pos : String} {af : Array Edge} {rest : List Oper} {t : Tok _} :
    WO P T all ({ dst := d, op := op, type := ty, pos := pos, after := af, guard := none } :: rest) ⟨env, H⟩ K t = W1 P T op ⟨env, H⟩ (fun v H' => WO P T all rest ⟨updE env d v, H'⟩ K ⟨⟩) ⟨⟩ := rfl
theorem WO_some {l : List Oper} {d : Option Nat} {op : Op} {ty : TypeId} {pos : String} {af : Array Edge} {rest : List Oper} {j : Nat} {want : Bool} {t : Tok _} :
    WO P T l ({ dst := d, op := op, type := ty, pos := pos, after := af, guard := some (j, want) } :: rest) ⟨env, H⟩ K t =
      guardK (guardT l j env ⟨⟩) want (W1 P T op ⟨env, H⟩ (fun v H' => WO P T l rest ⟨updE env d v, H'⟩ K ⟨⟩) ⟨⟩) (WO P T l rest ⟨updE env d (.tup []), H⟩ K ⟨⟩) ⟨⟩ := by
  unfold WO
  rw [WPops.eq_def]
  simp only [List.getElem?_toArray, dstL_eq, guardT]
  cases dstL l j with
  | none => rfl
  | some t =>
    simp only [getG, St.get, guardK]
    generalize env.getD t .any = v
    split
    · rfl
    · rfl
    · rename_i h1 h2
      split
      · exact absurd rfl (h1 _)
      · exact absurd rfl h2
      · rfl

def Grown (H H' : List Ob) : Prop := ∃ obs, H' = H ++ obs
theorem Grown_self : Grown H H = True := by simp only [eq_iff_iff, iff_true]; exact ⟨[], by simp⟩
theorem Grown_append {l : List Ob} : Grown H (H ++ l) = True := by simp only [eq_iff_iff, iff_true]; exact ⟨l, rfl⟩
theorem Grown_nil : Grown [] H = True := by simp only [eq_iff_iff, iff_true]; exact ⟨H, rfl⟩
theorem Grown_cons {o : Ob} {H' : List Ob} : Grown (o :: H) (o :: H') = Grown H H' := by simp [Grown]
def dK (s : Bool) (H H' : List Ob) (p : Prop) (_ : Tok p) : Prop := (s = true ∨ Grown H H') ∧ p
theorem dK_store {H' : List Ob} {p : Prop} {t : Tok p} : dK true H H' p t = p := by simp [dK]
theorem dK_else {H' : List Ob} {p : Prop} {t : Tok p} : dK false H H' p t = (Grown H H' ∧ p) := by simp [dK]
theorem toL {l : List Operand} : (List.toArray l).toList = l := rfl
theorem WD_nil {all : List Oper} {t : Tok _} : WD P T all [] st K t = K st := rfl
theorem WD_none {all : List Oper} {d : Option Nat} {op : Op} {ty : TypeId} {pos : String} {af : Array Edge} {rest : List Oper} {t : Tok _} :
    WD P T all ({ dst := d, op := op, type := ty, pos := pos, after := af, guard := none } :: rest) ⟨env, H⟩ K t = W1 P T op ⟨env, H⟩ (fun v H' => dK (isStore op) H H' (WD P T all rest ⟨updE env d v, H'⟩ K ⟨⟩) ⟨⟩) ⟨⟩ := rfl
theorem WD_some {l : List Oper} {d : Option Nat} {op : Op} {ty : TypeId} {pos : String} {af : Array Edge} {rest : List Oper} {j : Nat} {want : Bool} {t : Tok _} :
    WD P T l ({ dst := d, op := op, type := ty, pos := pos, after := af, guard := some (j, want) } :: rest) ⟨env, H⟩ K t =
      guardK (guardT l j env ⟨⟩) want (W1 P T op ⟨env, H⟩ (fun v H' => dK (isStore op) H H' (WD P T l rest ⟨updE env d v, H'⟩ K ⟨⟩) ⟨⟩) ⟨⟩) (WD P T l rest ⟨updE env d (.tup []), H⟩ K ⟨⟩) ⟨⟩ := by
  unfold WD
  rw [WPdraw.eq_def]
  simp only [List.getElem?_toArray, dstL_eq, guardT]
  cases dstL l j with
  | none => rfl
  | some t =>
    simp only [getG, St.get, guardK]
    generalize env.getD t .any = v
    split
    · rfl
    · rfl
    · rename_i h1 h2
      split
      · exact absurd rfl (h1 _)
      · exact absurd rfl h2
      · rfl

/- The operations. -/
theorem Aft_some {c : Prop} {v : PV} {t : Tok _} : Aft (some ⟨c, v, H⟩) K2 t = (c ∧ K2 v H) := rfl
theorem Aft_pure {v : PV} {t : Tok _} : Aft (Res.pure H v) K2 t = K2 v H := by simp [Aft, after, Res.pure]
theorem Aft_if {c : Prop} {v : PV} {t : Tok _} : Aft (Res.if c H v) K2 t = (c ∧ K2 v H) := rfl

theorem ev_tmp {t : Nat} : ev env (.tmp t) = env.getD t .any := rfl
theorem ev_const {v : Value} : ev env (.const v) = PV.ofValue v := rfl
theorem ev_func {f : FuncId} : ev env (.func f) = .fv (.lit (.func (.func f) #[] #[])) := rfl
theorem of_int {k : IntKind} {n : Int} : PV.ofValue (.int k n) = .fv (.lit (.int k n)) := rfl
theorem of_bool {b : Bool} : PV.ofValue (.bool b) = .fv (.lit (.bool b)) := rfl
theorem of_nil : PV.ofValue (.slice none 0 0) = .nilsl := rfl
theorem of_nilFunc : PV.ofValue .nilFunc = .fv (.lit .nilFunc) := rfl
theorem of_nilPtr : PV.ofValue (.pointer none) = .fv (.lit (.pointer none)) := rfl

def rPick (H : List Ob) (c a b : PV) : Option Res := match c with | .fv (.lit (.bool t)) => Res.pure H (if t then a else b) | _ => none
theorem W1_move {x : Operand} {u : Tok _} : W1 P T (.move x) ⟨env, H⟩ K2 u = K2 (ev env x) H := by simp [W1, WPop, opRes, Res.pure]
theorem W1_assign {x : Operand} {u : Tok _} : W1 P T (.assign x) ⟨env, H⟩ K2 u = K2 (ev env x) H := by simp [W1, WPop, opRes, Res.pure]
theorem W1_pick {c a b : Operand} {u : Tok _} : W1 P T (.pick c a b) ⟨env, H⟩ K2 u = Aft (rPick H (ev env c) (ev env a) (ev env b)) K2 ⟨⟩ := rfl
theorem rPick_bool {t : Bool} {a b : PV} : rPick H (.fv (.lit (.bool t))) a b = Res.pure H (if t then a else b) := rfl
def rAlloc (H : List Ob) (i : Option TyI) : Option Res := match i with | some i => some ⟨True, .ptr H.length 0 0, H ++ [.box true i.zero]⟩ | none => none
theorem W1_alloc {t : TypeId} {u : Tok _} : W1 P T (.alloc t) ⟨env, H⟩ K2 u = Aft (rAlloc H (T.at t)) K2 ⟨⟩ := rfl
def rBox (H : List Ob) (i : Option TyI) (x : PV) : Option Res := match i with | some i => some ⟨x.cells.length = i.size ∧ 0 < i.size, .ptr H.length 0 0, H ++ [.box true x.cells]⟩ | none => none
theorem W1_box {t : TypeId} {x : Operand} {u : Tok _} : W1 P T (.box t x) ⟨env, H⟩ K2 u = Aft (rBox H (T.at t) (ev env x)) K2 ⟨⟩ := rfl
def rBuild (H : List Ob) (i : Option TyI) (parts : List (Nat × PV)) : Option Res := match i with
    | some i => match i.d with
      | .st fs => match fillP (fun j => (fs[j]?).map fun f => (f.off, f.size)) i.zero parts with
        | some cs => Res.pure H (.agg cs)
        | none => none
      | _ => none
    | none => none
theorem W1_build {t : TypeId} {l : List (Nat × Operand)} {u : Tok _} : W1 P T (.build t (List.toArray l)) ⟨env, H⟩ K2 u = Aft (rBuild H (T.at t) (l.map fun (j, x) => (j, ev env x))) K2 ⟨⟩ := rfl
def rBuildSlice (T : Tab) (H : List Ob) (i : Option TyI) (len : Nat) (parts : List (Nat × PV)) : Option Res := match i with
    | some i => match i.d with
      | .sl e => match T.at e with
        | some ie =>
          match fillP (fun j => some (j * ie.size, ie.size)) (List.replicate len ie.zero).flatten parts with
          | some cs => match fzs H cs with
            | some fs => if len < 1000 ∧ 0 < ie.size ∧ ie.size < 1000 then some ⟨True, .lsl H.length 0 len ie.size, shutAll H cs ++ [.row true (groups ie.size len fs)]⟩ else none
            | none => none
          | none => none
        | none => none
      | _ => none
    | none => none
theorem W1_buildSlice {t : TypeId} {n : Nat} {l : List (Nat × Operand)} {u : Tok _} : W1 P T (.buildSlice t n (List.toArray l)) ⟨env, H⟩ K2 u = Aft (rBuildSlice T H (T.at t) n (l.map fun (j, x) => (j, ev env x))) K2 ⟨⟩ := rfl
def rLoad (H : List Ob) (i : Option TyI) (a : PV) : Option Res := match i with
    | some i => match a with
      | .ptr id j off => match cellsAt H id j off i.size with
        | some (cd, cs) => match oneOr i cs with
          | some v => Res.if cd H v
          | none => none
        | none => none
      | .fv (.fp cs) => match oneOr i ((cs.take i.size).map .fv) with
          | some v => Res.if (i.size ≤ cs.length) H v
          | none => none
      | _ => none
    | none => none
theorem W1_load {t : TypeId} {a : Operand} {u : Tok _} : W1 P T (.load t a) ⟨env, H⟩ K2 u = Aft (rLoad H (T.at t) (ev env a)) K2 ⟨⟩ := rfl
def rMakeMap (H : List Ob) (i : Option TyI) : Option Res := match i with
    | some i => match i.d with
      | .mp n _ => some ⟨True, .tab H.length, H ++ [.tab n []]⟩
      | _ => none
    | none => none
theorem W1_makeMap {t : TypeId} {u : Tok _} : W1 P T (.makeMap t none) ⟨env, H⟩ K2 u = Aft (rMakeMap H (T.at t)) K2 ⟨⟩ := rfl
def rLookup (H : List Ob) (i : Option TyI) (m : PV) (ks : Option (List Int)) (ok : Bool) : Option Res := match i, m, ks with
    | some i, .tab id, some ks => match i.d, H[id]? with
      | .mp n z, some (.tab n' es) => if ks.length = n ∧ n' = n then Res.if (∀ x ∈ ks, -9223372036854775808 ≤ x ∧ x < 9223372036854775808) H (if ok then .tup [(tabFind es ks).getD z, .bool (tabFind es ks).isSome] else (tabFind es ks).getD z) else none
      | _, _ => none
    | _, _, _ => none
theorem W1_lookup {t : TypeId} {m k : Operand} {ok : Bool} {u : Tok _} : W1 P T (.lookup t m k ok) ⟨env, H⟩ K2 u = Aft (rLookup H (T.at t) (ev env m) (keyV (ev env k)) ok) K2 ⟨⟩ := rfl
def rMapUpdate (H : List Ob) (i : Option TyI) (m : PV) (ks : Option (List Int)) (x : PV) : Option Res := match i, m, ks with
    | some i, .tab id, some ks => match i.d, H[id]? with
      | .mp n _, some (.tab n' es) => if ks.length = n ∧ n' = n ∧ still x = true then some ⟨∀ x ∈ ks, -9223372036854775808 ≤ x ∧ x < 9223372036854775808, .tup [], H.set id (.tab n (tabPut es ks x))⟩ else none
      | _, _ => none
    | _, _, _ => none
theorem W1_mapUpdate {t : TypeId} {m k x : Operand} {u : Tok _} : W1 P T (.mapUpdate t m k x) ⟨env, H⟩ K2 u = Aft (rMapUpdate H (T.at t) (ev env m) (keyV (ev env k)) (ev env x)) K2 ⟨⟩ := rfl
def rStore (H : List Ob) (i : Option TyI) (a x : PV) : Option Res := match i with
    | some i => match a with
      | .ptr id j off => match storeAt H id j off x.cells with
          | some (cd, H') => some ⟨cd ∧ x.cells.length = i.size ∧ 0 < i.size, .tup [], H'⟩
          | none => none
      | _ => none
    | none => none
theorem W1_store {t : TypeId} {a x : Operand} {u : Tok _} : W1 P T (.store t a x) ⟨env, H⟩ K2 u = Aft (rStore H (T.at t) (ev env a) (ev env x)) K2 ⟨⟩ := rfl
def rNil (H : List Ob) (x : PV) : Option Res := match x with
    | .ptr id j off => Res.pure H (.ptr id j off)
    | .fv (.fp cs) => Res.pure H (.fv (.fp cs))
    | _ => none
theorem W1_nilCheck {x : Operand} {u : Tok _} : W1 P T (.nilCheck x) ⟨env, H⟩ K2 u = Aft (rNil H (ev env x)) K2 ⟨⟩ := rfl
def rNilC (H : List Ob) (sl : Bool) (o q : Option Bool) : Option Res := match o with | some b => if sl then Res.pure H (.bool b) else none | none => match q with | some b => Res.pure H (.bool b) | none => none
def rLit (H : List Ob) (o : Option (Prop × Value)) (q : Option Res) (_ : Tok q) : Option Res := match o with | some (c, v) => Res.if c H (.lit v) | none => q
theorem rLit_some {c : Prop} {v : Value} {q : Option Res} {u : Tok q} : rLit H (some (c, v)) q u = Res.if c H (.lit v) := rfl
theorem rLit_none {q : Option Res} {u : Tok q} : rLit H none q u = q := rfl
theorem W1_binOp {op : BinOp} {t t2 : TypeId} {x y : Operand} {u : Tok _} : W1 P T (.binOp op t x y t2) ⟨env, H⟩ K2 u = Aft (rLit H (binV (T.isBool t) op (ev env x) (ev env y)) (rNilC H (T.isSl t) (nilV op (ev env x) (ev env y)) (arrV (T.arN t) op (keyV (ev env x)) (keyV (ev env y)))) ⟨⟩) K2 ⟨⟩ := rfl
def rUn (H : List Ob) (o : Option Value) : Option Res := match o with | some v => Res.pure H (.lit v) | none => none
theorem W1_unOp {op : UnOp} {t : TypeId} {x : Operand} {u : Tok _} : W1 P T (.unOp op t x) ⟨env, H⟩ K2 u = Aft (rUn H (unV op (ev env x))) K2 ⟨⟩ := rfl
def rConv (H : List Ob) (a b : Option TyI) (x : PV) : Option Res := match a, b, x with
    | some i, some j, .fv (.lit (.int _ n)) => match i.d, j.d with
      | .int _, .int k => Res.pure H (.int k (k.wrap n))
      | _, _ => none
    | _, _, _ => none
theorem W1_convert {a b : TypeId} {x : Operand} {u : Tok _} : W1 P T (.convert a b x) ⟨env, H⟩ K2 u = Aft (rConv H (T.at a) (T.at b) (ev env x)) K2 ⟨⟩ := rfl
def rMake (T : Tab) (H : List Ob) (i : Option TyI) (l c : PV) : Option Res := match i, l, c with
    | some i, .fv (.lit (.int _ n)), .fv (.lit (.int _ m)) => match i.d with
      | .sl e => match T.at e with
        | some ie => if isNilZ ie.zero then some ⟨0 ≤ n ∧ n = m ∧ m * ie.bytes ≤ 140737488355328 ∧ m ≤ 140737488355328, .lsl H.length 0 n.toNat 1, H ++ [.box true (List.replicate n.toNat .nilsl)]⟩ else
          match fzs H ie.zero with
          | some z => if z.length = ie.size ∧ 0 < ie.size then some ⟨0 ≤ n ∧ n ≤ m ∧ m * ie.bytes ≤ 140737488355328 ∧ m ≤ 140737488355328, .lsl H.length 0 n.toNat ie.size, H ++ [.row true (List.replicate n.toNat z)]⟩ else none
          | none => none
        | none => none
      | _ => none
    | _, _, _ => none
theorem W1_makeSlice {t : TypeId} {l c : Operand} {u : Tok _} : W1 P T (.makeSlice t l c) ⟨env, H⟩ K2 u = Aft (rMake T H (T.at t) (ev env l) (ev env c)) K2 ⟨⟩ := rfl
def rSlice (T : Tab) (H : List Ob) (i : Option TyI) (x : PV) (lo hi mx : Option PV) : Option Res := match i with
    | some i => match i.d, mx with
      | .sl e, none => match T.at e, x with
        | some ie, .lsl id off len s => if s = ie.size then (match bound lo 0, bound hi len with
          | some (c1, l), some (c2, h) => Res.if (c1 ∧ c2 ∧ l ≤ h ∧ h ≤ room H id off len lo hi) H (.lsl id (off + l) (h - l) s)
          | _, _ => none) else none
        | some ie, .fv (.sl xs) => match bound lo 0, bound hi xs.length with
          | some (c1, l), some (c2, h) => Res.if (c1 ∧ c2 ∧ l ≤ h ∧ h ≤ xs.length ∧ ∀ y ∈ xs, y.length = ie.size) H (.fv (.sl ((xs.drop l).take (h - l))))
          | _, _ => none
        | some ie, .clip xs => match bound lo 0, bound hi xs.length with
          | some (c1, l), some (c2, h) => Res.if (c1 ∧ c2 ∧ l ≤ h ∧ h ≤ xs.length ∧ ∀ y ∈ xs, y.length = ie.size) H (.fv (.sl ((xs.drop l).take (h - l))))
          | _, _ => none
        | _, _ => none
      | .sl e, some mv => match T.at e, lenA x, bound lo 0, asI hi, mv.asInt with
        | some _, some len, some (c1, l), some h, some m => Res.if (c1 ∧ 0 ≤ h ∧ h ≤ m ∧ l ≤ h.toNat ∧ m ≤ len) H (clip3 lo h m)
        | _, _, _, _, _ => none
      | .arr n e, _ => match T.at e, x, bound lo 0, bound hi n, bound mx n with
        | some ie, .ptr id j off, some (c1, l), some (c2, h), some (c3, m) =>
          match H[id]? with
          | some (.box _ cs) => match fzs H ((cs.drop off).take (n * ie.size)) with
            | some fs => if j = 0 ∧ 0 < ie.size ∧ 0 < n ∧ (mx.isSome = true → hi.isSome = true) then some ⟨c1 ∧ c2 ∧ c3 ∧ l ≤ h ∧ h ≤ m ∧ m ≤ n ∧ off + n * ie.size ≤ cs.length, if m = h then .clip (((groups ie.size n fs).drop l).take (h - l)) else .fv (.sl (((groups ie.size n fs).drop l).take (h - l))), shutIds (id :: ((cs.drop off).take (n * ie.size)).flatMap ids0) H⟩ else none
            | none => none
          | _ => none
        | _, _, _, _, _ => none
      | _, _ => none
    | none => none
theorem W1_slice {t : TypeId} {x : Operand} {lo hi mx : Option Operand} {u : Tok _} : W1 P T (.slice t x lo hi mx) ⟨env, H⟩ K2 u = Aft (rSlice T H (T.at t) (ev env x) (lo.map (ev env)) (hi.map (ev env)) (mx.map (ev env))) K2 ⟨⟩ := by
  unfold W1 Aft
  rw [WPop_op (by simp)]
  simp only [opRes, rSlice]
  cases T.at t with
  | none => rfl
  | some i =>
    dsimp only
    cases i.d <;> cases mx <;> cases hi <;> rfl
def rFieldAddr (H : List Ob) (i : Option TyI) (x : PV) (f : Nat) : Option Res := match i with
    | some i => match i.d with
      | .st fs => match fs[f]?, x with
        | some fd, .ptr id j o => Res.pure H (.ptr id j (o + fd.off))
        | some fd, .fv (.fp cs) => Res.if (fd.off + fd.size ≤ cs.length) H (.fv (.fp (cs.drop fd.off)))
        | _, _ => none
      | _ => none
    | none => none
theorem W1_fieldAddr {t : TypeId} {x : Operand} {f : Nat} {u : Tok _} : W1 P T (.fieldAddr t x f) ⟨env, H⟩ K2 u = Aft (rFieldAddr H (T.at t) (ev env x) f) K2 ⟨⟩ := rfl
def rField (H : List Ob) (i : Option TyI) (x : PV) (f : Nat) : Option Res := match i with
    | some i => match i.d with
      | .st fs => match fs[f]?, x with
        | some fd, .agg cs => if fd.agg then Res.if (fd.off + fd.size ≤ cs.length) H (.agg ((cs.drop fd.off).take fd.size)) else
            if fd.size = 1 then Res.if (fd.off < cs.length) H (cs.getD fd.off .any) else none
        | _, _ => none
      | _ => none
    | none => none
theorem W1_field {t : TypeId} {x : Operand} {f : Nat} {u : Tok _} : W1 P T (.field t x f) ⟨env, H⟩ K2 u = Aft (rField H (T.at t) (ev env x) f) K2 ⟨⟩ := rfl
def rIndexAddr (T : Tab) (H : List Ob) (i : Option TyI) (x : PV) (ix : Option Int) : Option Res := match i, ix with
    | some i, some n => match i.d with
      | .sl e => match T.at e, x with
        | some ie, .lsl id off len s => if s = ie.size then Res.if (0 ≤ n ∧ n < len) H (elemP s (H[id]?) id (off + n.toNat)) else none
        | some ie, .fv (.sl xs) => Res.if (0 ≤ n ∧ n < xs.length ∧ (xs.getD n.toNat []).length = ie.size ∧ 0 < ie.size) H (.fv (.fp (xs.getD n.toNat [])))
        | some ie, .clip xs => Res.if (0 ≤ n ∧ n < xs.length ∧ (xs.getD n.toNat []).length = ie.size ∧ 0 < ie.size) H (.fv (.fp (xs.getD n.toNat [])))
        | _, _ => none
      | .arr k e => match T.at e, x with
        | some ie, .ptr id j off => if 1 < k then Res.if (0 ≤ n ∧ n < k) H (.ptr id j (off + n.toNat * ie.size)) else none
        | some ie, .fv (.fp cs) => if 1 < k then Res.if (0 ≤ n ∧ n < k ∧ n.toNat * ie.size + ie.size ≤ cs.length ∧ 0 < ie.size) H (.fv (.fp (cs.drop (n.toNat * ie.size)))) else none
        | _, _ => none
      | _ => none
    | _, _ => none
theorem W1_indexAddr {t : TypeId} {x ix : Operand} {u : Tok _} : W1 P T (.indexAddr t x ix) ⟨env, H⟩ K2 u = Aft (rIndexAddr T H (T.at t) (ev env x) (ev env ix).asInt) K2 ⟨⟩ := rfl
def rIndex (T : Tab) (H : List Ob) (i : Option TyI) (x : PV) (ix : Option Int) : Option Res := match i, ix with
    | some i, some n => match i.d with
      | .arr k e => match T.at e, x with
        | some ie, .agg cs => match oneOr ie ((cs.drop (n.toNat * ie.size)).take ie.size) with
            | some v => Res.if (0 ≤ n ∧ n < k ∧ n.toNat * ie.size + ie.size ≤ cs.length) H v
            | none => none
        | _, _ => none
      | .str => match x with
        | .fv (.lit (.string s)) => Res.if (0 ≤ n ∧ n < (s.size : Int)) H (.int .u8 ((s[n.toNat]?).getD 0).toNat)
        | _ => none
      | _ => none
    | _, _ => none
theorem W1_index {t : TypeId} {x ix : Operand} {u : Tok _} : W1 P T (.index t x ix) ⟨env, H⟩ K2 u = Aft (rIndex T H (T.at t) (ev env x) (ev env ix).asInt) K2 ⟨⟩ := rfl
def rExtract (H : List Ob) (x : PV) (ix : Nat) : Option Res := match x with
    | .tup vs => match vs[ix]? with
      | some v => Res.pure H v
      | none => none
    | _ => none
theorem W1_extract {x : Operand} {ix : Nat} {u : Tok _} : W1 P T (.extract x ix) ⟨env, H⟩ K2 u = Aft (rExtract H (ev env x) ix) K2 ⟨⟩ := rfl
def rMakeFunc (H : List Ob) (fn : Fn) (first captured : List PV) : Option Res := match fz1s H first, fz1s H captured with
    | some c1, some c2 => some ⟨True, .fv (.fn fn c1 c2), shutIds ((first ++ captured).flatMap (ids1 H)) H⟩
    | _, _ => match litVs first, captured with
      | some vs, [] => some ⟨True, .fv (.lit (.func fn (List.toArray vs) #[])), H⟩
      | _, _ => none
theorem W1_makeFunc {fn : Fn} {l1 l2 : List Operand} {u : Tok _} : W1 P T (.makeFunc fn (List.toArray l1) (List.toArray l2)) ⟨env, H⟩ K2 u = Aft (rMakeFunc H fn (l1.map (ev env)) (l2.map (ev env))) K2 ⟨⟩ := rfl

theorem W1_lenc {x : Operand} {t : TypeId} {u : Tok _} : W1 P T (.call { callee := .builtin .len, args := List.toArray [x], argTypes := List.toArray [t] }) ⟨env, H⟩ K2 u = Aft (biRes T H .len [t] [ev env x]) K2 ⟨⟩ := rfl
theorem W1_bi {b : Builtin} {x y : Operand} {t t' : TypeId} {u : Tok _} : W1 P T (.call { callee := .builtin b, args := List.toArray [x, y], argTypes := List.toArray [t, t'] }) ⟨env, H⟩ K2 u = Aft (biRes T H b [t, t'] [ev env x, ev env y]) K2 ⟨⟩ := rfl
def rLen (H : List Ob) (i : Option TyI) (v : PV) : Option Res := match i with
    | some i => match i.d with
      | .sl _ => match lenOf v with | some n => Res.pure H (.int .i64 n) | none => none
      | .arr n _ => Res.pure H (.int .i64 n)
      | .str => match v with | .fv (.lit (.string s)) => Res.pure H (.int .i64 s.size) | _ => none
      | _ => none
    | none => none
theorem biRes_lenv {t : TypeId} {v : PV} : biRes T H .len [t] [v] = rLen H (T.at t) v := rfl
def rAppend (T : Tab) (H : List Ob) (i : Option TyI) (s x : PV) : Option Res := match i with
    | some i => match i.d with
      | .sl e => match T.at e with
        | some ie => if 0 < ie.size then (match srcOf H ie.size x with
          | some (cd, ys) => match s with
            | .nilsl => some ⟨cd ∧ ys.length * ie.bytes ≤ 140737488355328 ∧ ys.length ≤ 140737488355328, .lsl H.length 0 ys.length ie.size, H ++ [.row true ys]⟩
            | .clip xs => if noneV x then some ⟨True, .clip xs, H⟩ else some ⟨cd ∧ 0 < ys.length ∧ (∀ y ∈ xs, y.length = ie.size) ∧ (xs.length + ys.length) * ie.bytes ≤ 140737488355328 ∧ xs.length + ys.length ≤ 140737488355328, .lsl H.length 0 (xs.length + ys.length) ie.size, H ++ [.row true (xs ++ ys)]⟩
            | .lsl id 0 len s => match H[id]? with
              | some (.row true xs) => if s = ie.size then if selfV id x then some ⟨cd ∧ len + ys.length ≤ xs.length, .lsl id 0 (len + ys.length) ie.size, H.set id (.row true (xs.take len ++ ys ++ xs.drop (len + ys.length)))⟩ else some ⟨cd ∧ len ≤ xs.length ∧ (len + ys.length) * ie.bytes ≤ 140737488355328 ∧ len + ys.length ≤ 140737488355328, .lsl H.length 0 (len + ys.length) ie.size, H.set id .dead ++ [.row true (xs.take len ++ ys)]⟩ else none
              | _ => none
            | _ => none
          | none => none) else none
        | none => none
      | _ => none
    | none => none
theorem biRes_append {t : TypeId} {s x : PV} : biRes T H .append [t, t] [s, x] = rAppend T H (T.at t) s x := by
  show (if t = t then _ else none) = _
  rw [if_pos rfl]
  rfl
theorem W1_clearc {x : Operand} {t : TypeId} {u : Tok _} : W1 P T (.call { callee := .builtin .clear, args := List.toArray [x], argTypes := List.toArray [t] }) ⟨env, H⟩ K2 u = Aft (biRes T H .clear [t] [ev env x]) K2 ⟨⟩ := rfl
def rClear (T : Tab) (H : List Ob) (i : Option TyI) (x : PV) : Option Res := match i with
    | some i => match i.d with
      | .sl e => match T.at e with
        | some ie => match x with
          | .lsl id off len s => match H[id]? with
            | some (.row true xs) => if s = ie.size then some ⟨off + len ≤ xs.length, .tup [], H.set id (.row true (xs.take off))⟩ else none
            | _ => none
          | _ => none
        | none => none
      | _ => none
    | none => none
theorem biRes_clear {t : TypeId} {x : PV} : biRes T H .clear [t] [x] = rClear T H (T.at t) x := rfl
def rMax (H : List Ob) (o : Option (IntKind × Int × Int)) : Option Res := match o with | some (k, a, b) => Res.pure H (.int k (if b > a then b else a)) | none => none
def rMin (H : List Ob) (o : Option (IntKind × Int × Int)) : Option Res := match o with | some (k, a, b) => Res.pure H (.int k (if b < a then b else a)) | none => none
theorem biRes_max {t t' : TypeId} {x y : PV} : biRes T H .max [t, t'] [x, y] = rMax H (binInts x y) := rfl
theorem biRes_min {t t' : TypeId} {x y : PV} : biRes T H .min [t, t'] [x, y] = rMin H (binInts x y) := rfl

def GoCall (P : Program) (st : St) (f : Option (FuncId × List PV × List PV)) (args : List PV) (K : PV → List Ob → Prop) (_ : Tok K) : Prop := match f with
  | some (k, pre, post) => ∃ v H', CallRel P st.heap k (pre ++ args ++ post) v H' ∧ K v H'
  | none => False
theorem W1_value {f : Operand} {l : List Operand} {ts : Array TypeId} {u : Tok _} : W1 P T (.call { callee := .value f, args := List.toArray l, argTypes := ts }) ⟨env, H⟩ K2 u = GoCall P ⟨env, H⟩ (fnOf (ev env f)) (l.map (ev env)) K2 ⟨⟩ := rfl
theorem fnOf_func {k : FuncId} : fnOf (.fv (.lit (.func (.func k) #[] #[]))) = some (k, [], []) := rfl
theorem fnOf_meth {k : FuncId} {v : Value} : fnOf (.fv (.lit (.func (.func k) #[v] #[]))) = some (k, [PV.ofValue v], []) := rfl
theorem of_aggb {b : Bool} : PV.ofValue (.agg #[.bool b]) = .agg [.fv (.lit (.bool b))] := rfl
theorem of_aggi {n : Int} : PV.ofValue (.agg #[.int .i64 n]) = .agg [.fv (.lit (.int .i64 n))] := rfl
theorem fnOf_fn {k : FuncId} {a b : List FV} : fnOf (.fv (.fn (.func k) a b)) = some (k, a.map .fv, b.map .fv) := rfl

theorem GoCall.pure {k : FuncId} {pre post args : List PV} {args' : List PV} {obs : List Ob} {res : PV} {t : Tok _} (hd : Den P k [] args' obs res) (hf : fzAs H (pre ++ args ++ post) = some args')
    (hk : K2 (reloc (H.length + ·) res) (shutAs H (pre ++ args ++ post) ++ obs.map (relocOb (H.length + ·)))) : GoCall P ⟨env, H⟩ (some (k, pre, post)) args K2 t := ⟨_, _, .pure _ _ _ hf hd, hk⟩
theorem GoCall.lend (id : Nat) {k : FuncId} {pre post args : List PV} {args' : List PV} {ob ob' : Ob} {obs : List Ob} {res : PV} {t : Tok _} (hd : Den P k [ob] args' (ob' :: obs) res) (ho : H[id]? = some ob) (hrw : ob.rw = true) (hc : ob.closed)
    (hr : (pre ++ args ++ post).any (PV.refsTo id) = true) (hf : fzBs H id (pre ++ args ++ post) = some args') (hs : (shutBs H id (pre ++ args ++ post))[id]? = some ob)
    (hk : K2 (reloc (lent id H.length) res) ((shutBs H id (pre ++ args ++ post)).set id (relocOb (lent id H.length) ob') ++ obs.map (relocOb (lent id H.length)))) : GoCall P ⟨env, H⟩ (some (k, pre, post)) args K2 t :=
  ⟨_, _, .lend id _ _ _ _ _ ho hrw hc hr hf hs hd, hk⟩
end

end Go.AM
