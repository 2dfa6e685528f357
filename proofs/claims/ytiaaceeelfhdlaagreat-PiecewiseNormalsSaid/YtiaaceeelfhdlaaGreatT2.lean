/- The abstract machine:when an abstract state stands for a world;contracts;the weakest precondition. -/
import Derived.Test.YtiaaceeelfhdlaaGreatT1
import Derived.Laws.OwnMore
import Derived.Below
set_option linter.all false
open List (getElem?_append_right getElem?_modify_eq getElem?_modify_ne getElem?_set_ne replicate)
namespace Go.AM
inductive FRd (w:World) (X:Nat->Prop):Value->FV->Prop where
 | lit (v:Value) (h:v.oneCell'=true):FRd w X v (.lit v)
 | nil:FRd w X (.slice none 0 0) (.sl [])
 | sl (ad:Addr) (n cap s:Nat) (xs:List (List FV)) (us:Nat->Nat->Value)
  (hn:xs.length=n) (hc:n<=cap) (hs: ∀ x∈xs,x.length=s) (h0:ad.spot=none) (hX:n≠0-> ¬X ad.block) (hb:n≠0->ad.block<w.heap.size)
  (hcell: ∀ (i j:Nat) x y,xs[i]?=some x->x[j]?=some y->w.cell? ⟨ad.block,ad.off+(i*s+j),none⟩=some (us i j))
  (hrd: ∀ (i j:Nat) x y,xs[i]?=some x->x[j]?=some y->FRd w X (us i j) y):FRd w X (.slice (some ad) n cap) (.sl xs)
 | fp (ad:Addr) (cs:List FV) (us:Nat->Value) (h0:ad.spot=none) (hX: ¬X ad.block) (hb:ad.block<w.heap.size)
  (hcell: ∀ (j:Nat) y,cs[j]?=some y->w.cell? ⟨ad.block,ad.off+j,none⟩=some (us j))
  (hrd: ∀ (j:Nat) y,cs[j]?=some y->FRd w X (us j) y):FRd w X (.pointer (some ad)) (.fp cs)
 | fn (f:Fn) (u1 u2:Array Value) (c1 c2:List FV) (h1:u1.size=c1.length) (h2:u2.size=c2.length)
  (r1: ∀ (j:Nat) u y,u1[j]?=some u->c1[j]?=some y->FRd w X u y)
  (r2: ∀ (j:Nat) u y,u2[j]?=some u->c2[j]?=some y->FRd w X u y):FRd w X (.func f u1 u2) (.fn f c1 c2)
theorem FRd.one {w:World} {X:Nat->Prop} {v:Value} {x:FV} (h:FRd w X v x):v.oneCell'=true:=by
 cases h<;>first | assumption | rfl
def Same (X:Nat->Prop) (w w':World):Prop:=w.heap.size<=w'.heap.size/\ ∀ b,b<w.heap.size-> ¬X b->w'.heap[b]?=w.heap[b]?
theorem Same.refl (X:Nat->Prop) (w:World):Same X w w:=⟨qp _,fun _ _ _=>rfl⟩
theorem Same.cell {X:Nat->Prop} {w w':World} (h:Same X w w') {a:Addr} (hb:a.block<w.heap.size) (hx: ¬X a.block):w'.cell? a=w.cell? a:=
 World.cell?_of_block (h.2 _ hb hx)
theorem FRd.mono {w w':World} {X X':Nat->Prop} {v:Value} {x:FV} (h:FRd w X v x) (hs:Same X w w') (hX: ∀ b,b<w.heap.size->X' b->X b):FRd w' X' v x:=by
 induction h with
 | lit v h=>exact .lit v h
 | nil=>exact .nil
 | sl ad n cap s xs us hn hc k7 h0 hx hb hcell hrd ih=>
  refine .sl ad n cap s xs us hn hc k7 h0 (fun hz O1=>hx hz (hX _ (hb hz) O1)) (fun hz=>Nat.lt_of_lt_of_le (hb hz) hs.1) (fun i j x y h1 h2=>?_) ih;have hz:n≠0:=by
   intro hz;subst hz;have:=List.eq_nil_of_length_eq_zero hn;subst this;simp at h1
  rw[hs.cell (a:=⟨ad.block,_,none⟩) (hb hz) (hx hz)];exact hcell i j x y h1 h2
 | fp ad cs us h0 hx hb hcell hrd ih=>
  refine .fp ad cs us h0 (fun O1=>hx (hX _ hb O1)) (Nat.lt_of_lt_of_le hb hs.1) (fun j y h1=>?_) ih;rw[hs.cell (a:=⟨ad.block,_,none⟩) hb hx];exact hcell j y h1
 | fn f u1 u2 c1 c2 h1 h2 r1 r2 ih1 ih2=>exact .fn f u1 u2 c1 c2 h1 h2 ih1 ih2
structure Place where
 b:Option Nat
 e:Nat
 size:Nat
 cap:Nat
abbrev Places:=List (Option Place)
def Place.val (p:Place) (n:Nat):Value:=match p.b with | none=> .slice none 0 0 | some g=> .slice (some ⟨g,0,none⟩) n p.cap
inductive PRd (w:World) (X:Nat->Prop) (ρ:Places):Value->PV->Prop where
 | any (v:Value):PRd w X ρ v .any
 | fv (v:Value) (x:FV) (h:FRd w X v x):PRd w X ρ v (.fv x)
 | nilsl:PRd w X ρ (.slice none 0 0) .nilsl
 | clip (a:Option Addr) (n:Nat) (xs:List (List FV)) (h:FRd w X (.slice a n n) (.sl xs)):PRd w X ρ (.slice a n n) (.clip xs)
 | ptr (id i off g:Nat) (p:Place) (hp:ρ[id]?=some (some p)) (hg:p.b=some g):PRd w X ρ (.pointer (some ⟨g,i*p.size+off,none⟩)) (.ptr id i off)
 | lsl0 (id:Nat) (p:Place) (hp:ρ[id]?=some (some p)) (hg:p.b=none):PRd w X ρ (.slice none 0 0) (.lsl id 0 0 p.size)
 | lsl (id off len o g:Nat) (p:Place) (hp:ρ[id]?=some (some p)) (hg:p.b=some g) (hl:off+len<=p.cap) (ho:o=off*p.size\/(off=p.cap/\off≠0)):
  PRd w X ρ (.slice (some ⟨g,o,none⟩) len (p.cap - off)) (.lsl id off len p.size)
 | agg (us:Array Value) (cs:List PV) (hn:us.size=cs.length) (h1: ∀ (i:Nat) u,us[i]?=some u->u.oneCell'=true)
  (hr: ∀ (i:Nat) u c,us[i]?=some u->cs[i]?=some c->PRd w X ρ u c):PRd w X ρ (.agg us) (.agg cs)
 | tup (us:Array Value) (cs:List PV) (hn:us.size=cs.length)
  (hr: ∀ (i:Nat) u c,us[i]?=some u->cs[i]?=some c->PRd w X ρ u c):PRd w X ρ (.tuple us) (.tup cs)
 | tab (id g:Nat) (p:Place) (hp:ρ[id]?=some (some p)) (hg:p.b=some g):PRd w X ρ (.map (some g)) (.tab id)
def Places.Le (ρ ρ':Places):Prop:= ∀ (id:Nat) p,ρ[id]?=some (some p)->ρ'[id]?=some (some p)
theorem Places.Le.refl (ρ:Places):ρ.Le ρ:=fun _ _ h=>h
theorem Places.Le.trans {a b c:Places} (h:a.Le b) (k:b.Le c):a.Le c:=fun id p hp=>k id p (h id p hp)
theorem Places.Le.append (ρ l:Places):ρ.Le (ρ++l):=fun id p h=>by
 have aG:id<ρ.length:=(List.getElem?_eq_some_iff.1 h).1;rw[qi aG];exact h
theorem PRd.mono {w w':World} {X X':Nat->Prop} {ρ ρ':Places} {v:Value} {x:PV} (h:PRd w X ρ v x) (hs:Same X w w') (hX: ∀ b,b<w.heap.size->X' b->X b) (hρ:ρ.Le ρ'):PRd w' X' ρ' v x:=by
 induction h with
 | any v=>exact .any v
 | fv v x h=>exact .fv v x (h.mono hs hX)
 | nilsl=>exact .nilsl
 | clip a n xs h=>exact .clip a n xs (h.mono hs hX)
 | ptr id i off g p hp hg=>exact .ptr id i off g p (hρ _ _ hp) hg
 | lsl0 id p hp hg=>exact .lsl0 id p (hρ _ _ hp) hg
 | lsl id off len o g p hp hg hl ho=>exact .lsl id off len o g p (hρ _ _ hp) hg hl ho
 | agg us cs hn h1 hr ih=>exact .agg us cs hn h1 ih
 | tup us cs hn hr ih=>exact .tup us cs hn ih
 | tab id g p hp hg=>exact .tab id g p (hρ _ _ hp) hg
def Ob.rw:Ob->Bool
 | .dead=>false
 | .row r _=>r
 | .box r _=>r
 | .tab _ _=>true
structure Ns (w:World) (X:Nat->Prop) (p:Place) (xs:List (List FV)):Prop where
 pos:0<p.size
 len: ∀ x∈xs,x.length=p.size
 cells: ∃ us,w.ownsRow 0 p.e p.size (p.val xs.length) xs.length us/\
  ∀ (i j:Nat) x y,xs[i]?=some x->x[j]?=some y-> ∃ u,us[i*p.size+j]?=some u/\FRd w X u y
structure abb (w:World) (X:Nat->Prop) (ρ:Places) (p:Place) (cs:List PV):Prop where
 cells: ∃ g us,p.b=some g/\w.heap[g]?=some (.cells us p.e (0,0))/\us.size=cs.length/\(∀ (i:Nat) u,us[i]?=some u->u.oneCell'=true)/\
  ∀ (i:Nat) u c,us[i]?=some u->cs[i]?=some c->PRd w X ρ u c
structure abc (w:World) (X:Nat->Prop) (p:Place) (n:Nat) (es:List (List Int×PV)):Prop where
 keys: ∀ e∈es,e.1.length=n/\ ∀ x∈e.1,-9223372036854775808<=x/\x<9223372036854775808
 ents: ∃ g clock,∃ vs:Array MapEntry,p.b=some g/\w.heap[g]?=some (.map vs clock)/\vs.size=es.length/\(es.map (·.1)).Nodup/\
  ∀ (i:Nat) e k v,vs[i]?=some e->es[i]?=some (k,v)->e.key= .agg (k.map (Value.int .i64)).toArray/\still v=true/\PRd w X [] e.val v
def ObRd (w:World) (X:Nat->Prop) (ρ:Places) (p:Place):Ob->Prop
 | .dead=>True
 | .row rw xs=>Ns w X p xs/\ ∀ g,p.b=some g->(rw=true↔X g)
 | .box rw cs=>abb w X ρ p cs/\ ∀ g,p.b=some g->(rw=true↔X g)
 | .tab n es=>abc w X p n es/\ ∀ g,p.b=some g->X g
structure fR where
 w0:World
 M:Nat->Prop
 Xo:Nat->Prop
 base:List (Option Place)
 hxo: ∀ b,Xo b->b<w0.heap.size/\ ¬M b
structure KeepsB (c:fR) (w:World):Prop where
 os:w.os=c.w0.os
 tape:w.tape=c.w0.tape
 output:w.output=c.w0.output
 size:c.w0.heap.size<=w.heap.size
 block: ∀ b,b<c.w0.heap.size-> ¬c.M b->w.heap[b]?=c.w0.heap[b]?
structure Keeps (c:fR) (w:World):Prop extends KeepsB c w where
 drawn:c.w0.drawn<=w.drawn
theorem Keeps.refl (c:fR):Keeps c c.w0:=⟨⟨rfl,rfl,rfl,qp _,fun _ _ _=>rfl⟩,qp _⟩
structure HRd (c:fR) (w:World) (X:Nat->Prop) (ρ:Places) (H:List Ob):Prop where
 len:ρ.length=H.length
 ob: ∀ (id:Nat) p o,ρ[id]?=some (some p)->H[id]?=some o->ObRd w X ρ p o
 inj: ∀ (i j:Nat) p q o r g,ρ[i]?=some (some p)->ρ[j]?=some (some q)->H[i]?=some o->H[j]?=some r->o.rw=true->r.rw=true->p.b=some g->q.b=some g->i=j
 own: ∀ (id:Nat) p o g,ρ[id]?=some (some p)->H[id]?=some o->o.rw=true->p.b=some g->(c.w0.heap.size<=g\/c.M g)/\g<w.heap.size
 xo: ∀ b,c.Xo b->X b
 xlt: ∀ b,X b->b<w.heap.size
 ge:c.w0.heap.size<=w.heap.size
 base:Places.Le c.base ρ
def EnvRd (w:World) (X:Nat->Prop) (ρ:Places) (tmps:Array Value) (env:List PV):Prop:=
 tmps.size=env.length/\ ∀ (t:Nat) v x,tmps[t]?=some v->env[t]?=some x->PRd w X ρ v x
def SRd (c:fR) (st:St) (a:Act) (w:World):Prop:=
 ∃ X ρ,HRd c w X ρ st.heap/\EnvRd w X ρ a.tmps st.env/\a.defers=[]/\Keeps c w
def PRds (w:World) (X:Nat->Prop) (ρ:Places) (vs:Array Value) (xs:List PV):Prop:=
 vs.size=xs.length/\ ∀ (i:Nat) v x,vs[i]?=some v->xs[i]?=some x->PRd w X ρ v x
def Nt (P:Program) (k:FuncId):Prop:= ∃ fn cd,P.funcs[k]?=some fn/\fn.body=some cd/\(fn.name== "runtime.NumGoroutine")=false
def Den (P:Program) (k:FuncId) (H0:List Ob) (args:List PV) (H1:List Ob) (res:PV):Prop:=Nt P k/\
 ∀ (c:fR) (X:Nat->Prop) (ρ:Places) (vs:Array Value),HRd c c.w0 X ρ H0->(∀ b,c.M b-> ∃ (id:Nat) (p:Place),ρ[id]?=some (some p)/\p.b=some b)->PRds c.w0 X ρ vs args->
  Calls P k vs c.w0 fun e w'=> ∃ v X' ρ',e= .returned v/\Keeps c w'/\HRd c w' X' ρ' H1/\PRd w' X' ρ' v res/\ρ.Le ρ'/\(∀ (id:Nat) p,ρ.length<=id->ρ'[id]?=some (some p)-> ∀ g,p.b=some g->c.w0.heap.size<=g)
def reloc1 (f:Nat->Nat):PV->PV
 | .ptr id i off=> .ptr (f id) i off
 | .lsl id off len s=> .lsl (f id) off len s
 | .tab id=> .tab (f id)
 | v=>v
def reloc (f:Nat->Nat):PV->PV
 | .agg cs=> .agg (cs.map (reloc1 f))
 | .tup cs=> .tup (cs.map fun v=>match v with | .agg ds=> .agg (ds.map (reloc1 f)) | .tup _=> .any | v=>reloc1 f v)
 | v=>reloc1 f v
def relocOb (f:Nat->Nat):Ob->Ob
 | .box r cs=> .box r (cs.map (reloc1 f))
 | o=>o
def eS (H:List Ob):PV->Option PV
 | .agg cs=>(kc H cs).map fun xs=> .agg (xs.map .fv)
 | v=>(dS H v).map .fv
def bH (H:List Ob):List PV->Option (List PV)
 | []=>some []
 | v::vs=>match eS H v,bH H vs with | some x,some xs=>some (x::xs) | _,_=>none
def jb (H:List Ob):PV->List Nat
 | .agg cs=>cs.flatMap eu
 | v=>j7 H v
def shutAs (H:List Ob) (vs:List PV):List Ob:=shutIds (vs.flatMap (jb H)) H
def Ob.closed:Ob->Prop
 | .box _ cs=> ∀ c∈cs,∃ x,c= .fv x
 | _=>True
def TU (H:List Ob) (id:Nat):PV->Option PV
 | .ptr j i off=>if j=id then some (.ptr 0 i off) else eS H (.ptr j i off)
 | .lsl j off len s=>if j=id then some (.lsl 0 off len s) else eS H (.lsl j off len s)
 | v=>eS H v
def te (H:List Ob) (id:Nat):List PV->Option (List PV)
 | []=>some []
 | v::vs=>match TU H id v,te H id vs with | some x,some xs=>some (x::xs) | _,_=>none
def tf (H:List Ob) (id:Nat):PV->List Nat
 | .ptr j i off=>if j=id then [] else jb H (.ptr j i off)
 | .lsl j off len s=>if j=id then [] else jb H (.lsl j off len s)
 | v=>jb H v
def shutBs (H:List Ob) (id:Nat) (vs:List PV):List Ob:=shutIds (vs.flatMap (tf H id)) H
def PV.refsTo (id:Nat):PV->Bool
 | .ptr j _ _=>j==id
 | .lsl j _ _ _=>j==id
 | _=>false
def lent (id n:Nat):Nat->Nat
 | 0=>id
 | j+1=>n+j
def fzN (H:List Ob):PV->Option PV
 | .nilsl=>some .nilsl
 | v=>eS H v
def Fu (H:List Ob):List PV->Option (List PV)
 | []=>some []
 | v::vs=>match fzN H v,Fu H vs with | some x,some xs=>some (x::xs) | _,_=>none
inductive CallRel (P:Program) (H:List Ob) (k:FuncId) (args:List PV):PV->List Ob->Prop where
 | pure (args':List PV) (obs:List Ob) (res:PV) (hf:bH H args=some args') (hd:Den P k [] args' obs res):
  CallRel P H k args (reloc (H.length+ ·) res) (shutAs H args++obs.map (relocOb (H.length+ ·)))
 | nilp (args':List PV) (obs:List Ob) (res:PV) (hf:Fu H args=some args') (hd:Den P k [] args' obs res):
  CallRel P H k args (reloc (H.length+ ·) res) (shutAs H args++obs.map (relocOb (H.length+ ·)))
 | lend (id:Nat) (args':List PV) (ob ob':Ob) (obs:List Ob) (res:PV) (ho:H[id]?=some ob) (hrw:ob.rw=true) (hc:ob.closed) (hr:args.any (PV.refsTo id)=true) (hf:te H id args=some args')
  (hs:(shutBs H id args)[id]?=some ob) (hd:Den P k [ob] args' (ob'::obs) res):
  CallRel P H k args (reloc (lent id H.length) res) ((shutBs H id args).set id (relocOb (lent id H.length) ob')++obs.map (relocOb (lent id H.length)))
def A5:PV->Option (FuncId×List PV×List PV)
 | .fv (.lit (.func (.func k) first captured))=>if captured.size=0 then some (k,first.toList.map PV.ofValue,[]) else none
 | .fv (.fn (.func k) first captured)=>some (k,first.map .fv,captured.map .fv)
 | _=>none
def ir (H:List Ob) (size:Nat):PV->Option (Prop×List (List FV))
 | .fv (.sl xs)=>some (∀ y∈xs,y.length=size,xs)
 | .fv (.lit (.slice (some _) 0 _))=>some (True,[])
 | .nilsl=>some (True,[])
 | .clip xs=>some (∀ y∈xs,y.length=size,xs)
 | .lsl id off len s=>match H[id]? with
  | some (.row _ xs)=>if s=size then some (off+len<=xs.length,(xs.drop off).take len) else none
  | _=>none
 | _=>none
def lenOf:PV->Option Nat
 | .fv (.sl xs)=>some xs.length
 | .nilsl=>some 0
 | .clip xs=>some xs.length
 | .lsl _ _ len _=>some len
 | _=>none
def mH:PV->PV->Option (IntKind×Int×Int)
 | .fv (.lit (.int k a)),.fv (.lit (.int k' b))=>if k=k' then some (k,a,b) else none
 | _,_=>none
def Dk:PV->Bool
 | .fv (.lit (.slice (some _) 0 _))=>true
 | .nilsl=>true
 | _=>false
def HX (id:Nat):PV->Bool
 | .lsl j _ _ _=>j==id
 | _=>false
def fK (T:Tab) (H:List Ob) (b:Builtin) (ts:List TypeId) (vs:List PV):Option Res:=
 match b,ts,vs with
 | .len,[t],[v]=>match T.at t with
  | some i=>match i.d with
   | .sl _=>match lenOf v with | some n=>Res.pure H (.int .i64 n) | none=>none
   | .arr n _=>Res.pure H (.int .i64 n)
   | .str=>match v with | .fv (.lit (.string s))=>Res.pure H (.int .i64 s.size) | _=>none
   | _=>none
  | none=>none
 | .append,[t,t'],[s,x]=>if t=t' then(match T.at t with
  | some i=>match i.d with
   | .sl e=>match T.at e with
    | some ie=>if 0<ie.size then(match ir H ie.size x with
     | some (cd,ys)=>match s with
      | .nilsl=>some ⟨cd/\ys.length*ie.bytes<=140737488355328/\ys.length<=140737488355328,.lsl H.length 0 ys.length ie.size,H++[.row true ys]⟩
      | .clip xs=>if Dk x then some ⟨True,.clip xs,H⟩ else some ⟨cd/\0<ys.length/\(∀ y∈xs,y.length=ie.size)/\(xs.length+ys.length)*ie.bytes<=140737488355328/\xs.length+ys.length<=140737488355328,.lsl H.length 0 (xs.length+ys.length) ie.size,H++[.row true (xs++ys)]⟩
      | .lsl id 0 len s=>match H[id]? with
       | some (.row true xs)=>if s=ie.size then if HX id x then some ⟨cd/\len+ys.length<=xs.length,.lsl id 0 (len+ys.length) ie.size,H.set id (.row true (xs.take len++ys++xs.drop (len+ys.length)))⟩ else some ⟨cd/\len<=xs.length/\(len+ys.length)*ie.bytes<=140737488355328/\len+ys.length<=140737488355328,.lsl H.length 0 (len+ys.length) ie.size,H.set id .dead++[.row true (xs.take len++ys)]⟩ else none
       | _=>none
      | _=>none
     | none=>none) else none
    | none=>none
   | _=>none
  | none=>none) else none
 | .max,[_,_],[x,y]=>match mH x y with | some (k,a,b)=>Res.pure H (.int k (if b>a then b else a)) | none=>none
 | .min,[_,_],[x,y]=>match mH x y with | some (k,a,b)=>Res.pure H (.int k (if b<a then b else a)) | none=>none
 | .clear,[t],[x]=>match T.at t with
  | some i=>match i.d with
   | .sl e=>match T.at e with
    | some ie=>match x with
     | .lsl id off len s=>match H[id]? with
      | some (.row true xs)=>if s=ie.size then some ⟨off+len<=xs.length,.tup [],H.set id (.row true (xs.take off))⟩ else none
      | _=>none
     | _=>none
    | none=>none
   | _=>none
  | none=>none
 | _,_,_=>none
def WPcall (P:Program) (T:Tab) (c:Call) (st:St) (K:PV->List Ob->Prop):Prop:=
 match c.callee with
 | .builtin b=>match fK T st.heap b c.argTypes.toList (c.args.toList.map (ev st.env)) with
  | some r=>r.cond/\K r.val r.heap
  | none=>False
 | .value f=>match A5 (ev st.env f) with
  | some (k,pre,post)=> ∃ v H',CallRel P st.heap k (pre++c.args.toList.map (ev st.env)++post) v H'/\K v H'
  | none=>False
 | .invoke ..=>False
def WPop (P:Program) (T:Tab) (o:Op) (st:St) (K:PV->List Ob->Prop):Prop:=
 match o with
 | .call c=>WPcall P T c st K
 | op=>match aP T st.heap (ev st.env) op with
  | some r=>r.cond/\K r.val r.heap
  | none=>False
def St.upd (st:St) (d:Option Nat) (v:PV) (H:List Ob):St:=
 {env:=match d with | some t=>st.env.set t v | none=>st.env,heap:=H}
def WPops (P:Program) (T:Tab) (all:Array Oper):List Oper->St->(St->Prop)->Prop
 | [],st,K=>K st
 | o::rest,st,K=>
  match o.guard with
  | none=>WPop P T o.op st fun v H=>WPops P T all rest (st.upd o.dst v H) K
  | some (j,want)=>match (all[j]?).bind (·.dst) with
   | some t=>match st.get t with
    | .fv (.lit (.bool b))=>(b=want->WPop P T o.op st fun v H=>WPops P T all rest (st.upd o.dst v H) K)/\
     (b=!want->WPops P T all rest (st.upd o.dst (.tup []) st.heap) K)
    | .tup []=>WPops P T all rest (st.upd o.dst (.tup []) st.heap) K
    | _=>False
   | none=>False
def Nu (c:Call):Bool:=match c.callee,c.args.toList with
 | .builtin .append,.tmp _::_=>true
 | _,_=>false
def aY:Op->Bool
 | .store .. | .mapUpdate ..=>true
 | .call c=>Nu c
 | _=>false
def WPdraw (P:Program) (T:Tab) (all:Array Oper):List Oper->St->(St->Prop)->Prop
 | [],st,K=>K st
 | o::rest,st,K=>
  match o.guard with
  | none=>WPop P T o.op st fun v H=>(aY o.op=true\/ ∃ obs,H=st.heap++obs)/\WPdraw P T all rest (st.upd o.dst v H) K
  | some (j,want)=>match (all[j]?).bind (·.dst) with
   | some t=>match st.get t with
    | .fv (.lit (.bool b))=>(b=want->WPop P T o.op st fun v H=>(aY o.op=true\/ ∃ obs,H=st.heap++obs)/\WPdraw P T all rest (st.upd o.dst v H) K)/\
     (b=!want->WPdraw P T all rest (st.upd o.dst (.tup []) st.heap) K)
    | .tup []=>WPdraw P T all rest (st.upd o.dst (.tup []) st.heap) K
    | _=>False
   | none=>False
def mark (ρ:Operand->PV) (o:Op):List Nat:=match o with
 | .load _ a=>(match ρ a with | .ptr id _ _=>[id] | _=>[])
 | .call c=>(match c.args.toList with | s::_=>(match ρ s with | .lsl id _ _ _=>[id] | _=>[]) | []=>[])
 | _=>[]
def WPdrawS (P:Program) (T:Tab) (all:Array Oper):List Oper->List (List Nat)->List (List Nat)->St->(St->List (List Nat)->Prop)->Prop
 | [],_,tr,st,K=>K st tr
 | o::rest,sh,tr,st,K=>
  match o.guard with
  | none=>WPop P T o.op st fun v H=>(aY o.op=true\/(sh.headD []=[]/\ ∃ obs,H=st.heap++obs))/\WPdrawS P T all rest sh.tail (tr++[mark (ev st.env) o.op++sh.headD []]) (st.upd o.dst v (shutIds (sh.headD []) H)) K
  | some (j,want)=>match (all[j]?).bind (·.dst) with
   | some t=>match st.get t with
    | .fv (.lit (.bool b))=>(b=want->WPop P T o.op st fun v H=>(aY o.op=true\/(sh.headD []=[]/\ ∃ obs,H=st.heap++obs))/\WPdrawS P T all rest sh.tail (tr++[mark (ev st.env) o.op++sh.headD []]) (st.upd o.dst v (shutIds (sh.headD []) H)) K)/\
     (b=!want->WPdrawS P T all rest sh.tail (tr++[[]]) (st.upd o.dst (.tup []) st.heap) K)
    | .tup []=>WPdrawS P T all rest sh.tail (tr++[[]]) (st.upd o.dst (.tup []) st.heap) K
    | _=>False
   | none=>False
def cm:Op->Nat
 | .move _ | .assign _ | .extract .. | .binOp ..=>0
 | .store .. | .mapUpdate ..=>2
 | .pick .. | .alloc _ | .box .. | .build .. | .buildSlice .. | .load .. | .nilCheck _ | .unOp .. | .convert .. | .makeSlice .. | .slice .. | .fieldAddr .. | .field ..
 | .indexAddr .. | .index .. | .makeFunc .. | .lookup .. | .makeMap ..=>1
 | .call c=>if Nu c then 2 else 1
 | _=>3
def Dl:Operand->Option Nat
 | .tmp t=>some t
 | _=>none
def Dm (ops:Array Oper) (o:Oper):Option Nat:=match o.guard with
 | none=>none
 | some (g,_)=>(ops[g]?).bind (·.dst)
def m6 (ops:Array Oper) (o:Oper):List Nat:=o.op.operands.toList.filterMap Dl++(Dm ops o).toList
def cj (e:Edge):Bool:=match e.ground with | .textOnly _ | .gcOnly _=>false | _=>true
def Dn (acc:List Nat) (o:Oper):Nat:=o.after.toList.foldl (fun s e=>if cj e then s||| 2^e.on||| acc.getD e.on 0 else s) 0
def masks:List Oper->List Nat->List Nat
 | [],acc=>acc
 | o::l,acc=>masks l (acc++[Dn acc o])
def gY:Op->Bool
 | .alloc _=>true
 | _=>false
def Dp (ops:Array Oper) (x y:Oper):Bool:=
 (match x.dst with | some d=>(m6 ops y).contains d||y.dst==some d | none=>false)||
 (match y.dst with | some d=>(m6 ops x).contains d | none=>false)||
 (cm x.op==2&&decide (1<=cm y.op)&&!gY y.op)||(decide (1<=cm x.op)&&cm y.op==2)
def wU (ops:Array Oper):Bool:=
 let m:=masks ops.toList []
 (List.range ops.size).all fun j=>match ops[j]? with
  | none=>false
  | some oj=>decide (cm oj.op<3)&&(oj.after.toList.all fun e=>!cj e||decide (e.on<j))&&
   (List.range j).all fun i=>match ops[i]? with
    | none=>false
    | some oi=>!Dp ops oi oj||(m.getD j 0).testBit i
def isRead:Op->Bool
 | .load .. | .fieldAddr ..=>true
 | _=>false
def isApp:Op->Bool
 | .call c=>Nu c
 | _=>false
def eb (ops:Array Oper) (x y:Oper):Bool:=
 (match x.dst with | some d=>(m6 ops y).contains d||y.dst==some d | none=>false)||
 (match y.dst with | some d=>(m6 ops x).contains d | none=>false)||
 (cm x.op==2&&decide (1<=cm y.op)&&!gY y.op&&!(isApp x.op&&isRead y.op))||(decide (1<=cm x.op)&&cm y.op==2&&!(isRead x.op&&isApp y.op))
def kF (ops:Array Oper):Bool:=
 let m:=masks ops.toList []
 (List.range ops.size).all fun j=>match ops[j]? with
  | none=>false
  | some oj=>decide (cm oj.op<3)&&(oj.after.toList.all fun e=>!cj e||decide (e.on<j))&&
   (List.range j).all fun i=>match ops[i]? with
    | none=>false
    | some oi=>!eb ops oi oj||(m.getD j 0).testBit i
def Fv (ops:Array Oper) (tr:List (List Nat)):Bool:=
 (List.range ops.size).all fun j=>(List.range j).all fun i=>match ops[i]?,ops[j]? with
  | some oi,some oj=>!((isApp oi.op&&isRead oj.op)||(isRead oi.op&&isApp oj.op))||((masks ops.toList []).getD j 0).testBit i||(tr.getD i []).all fun id=>!(tr.getD j []).contains id
  | _,_=>true
def WPany (P:Program) (T:Tab) (ops:Array Oper):Nat->Array Bool->St->(St->Prop)->Prop
 | 0,listed,st,K=>Region.ready .any ops listed=[]/\K st
 | n+1,listed,st,K=>(Region.ready .any ops listed=[]->K st)/\ ∀ i∈Region.ready .any ops listed,
  match ops[i]? with
  | none=>False
  | some o=>o.guard=none/\WPop P T o.op st fun v H=>WPany P T ops n (listed.setIfInBounds i true) (st.upd o.dst v H) K
inductive AExit where
 | normal
 | exit (id:Nat)
 | ret
def Weak (m:Nat) (st st':St):Prop:= ∀ (c:fR) a w,c.base.length<=m->SRd c st a w->SRd c st' a w
def WPA (P:Program) (T:Tab) (m:Nat):Code->St->(AExit->St->Prop)->Prop
 | .skip,st,Q=>Q .normal st
 | .region _ ops draw,st,Q=>
  if draw then(kF ops=true/\ ∃ ids sh,WPdrawS P T ops ops.toList sh [] {st with heap:=shutIds ids st.heap} (fun s tr=>Fv ops tr=true/\Q .normal s))\/
   (∃ ff,WPany P T ops ops.size (Array.replicate ops.size false) st (fun s=>Weak m s ff)/\Q .normal ff)
  else WPops P T ops ops.toList st (Q .normal)
 | .seq x y,st,Q=>WPA P T m x st fun e st'=>match e with | .normal=>WPA P T m y st' Q | e=>Q e st'
 | .cond c x y,st,Q=>match ev st.env c with
  | .fv (.lit (.bool b))=>(b=true->WPA P T m x st Q)/\(b=false->WPA P T m y st Q)
  | _=>False
 | .block id x,st,Q=>WPA P T m x st fun e st'=>match e with | .exit i=>if i=id then Q .normal st' else Q (.exit i) st' | e=>Q e st'
 | .loop x,st,Q=> ∃ I:Nat->St->Prop,(∃ n K6,Weak m st K6/\I n K6)/\
  ∀ n K6,I n K6->WPA P T m x K6 fun e ff=>match e with | .normal=> ∃ n' Uq,n'<n/\Weak m ff Uq/\I n' Uq | e=>Q e ff
 | .exit id,st,Q=>Q (.exit id) st
 | .ret,st,Q=>Q .ret st
 | .label _,st,Q=>Q .normal st
 | .scope x,st,Q=>WPA P T m x st Q
 | _,_,_=>False
theorem kV {w:World} {e size n:Nat} {p:Place} {us:List Value} (h:w.ownsRow 0 e size (p.val n) n us) {g:Nat} (hg:p.b=some g):g<w.heap.size:=by
 have:=h.lt g (by simp[Place.val,hg,Value.ownBlock]);exact this.2
theorem uL {P:Program} {w w2:World} {at_:Addr} {u:TypeId} {k:Addr} {v:Value} {atomic:Bool} {l:List Addr} (h:w.viewStore P at_ u k v atomic= .ok (w2,l)):w2.drawn=w.drawn:=by
 unfold World.viewStore at h;simp only[bind,Except.bind,pure,Except.pure,throw,throwThe,MonadExceptOf.throw] at h
 repeat(split at h<;>first | (cases h;done) | skip)
 all_goals first | (cases h;rfl) | (simp at h;rw[<-h.1])
theorem wV {P:Program} {w w2:World} {a:Addr} {v:Value} {atomic:Bool} {l:List Addr} (h:w.farStore P a v atomic= .ok (w2,l)):w.drawn<=w2.drawn:=by
 unfold World.farStore at h;split at h
 .split at h
  .rename_i r hr;cases h;exact Nat.le_of_eq (uL hr).symm
  cases h
 cases h
theorem tg {α:Type}: ∀ (k:Ask α) (w:World),w.drawn<=(w.ask k).2.drawn
 | .done a,w=>qp _
 | .ask what range k,w=>by
  unfold World.ask;dsimp only;split
  .exact tg (k 0) w
  exact ka (Nat.le_succ _) (tg _ {w with drawn:=w.drawn+1})
theorem JM (w:World) (c:Sys):w.drawn<=(w.sys c).2.drawn:=by
 have h:=tg (Kernel.perform c w.os) w;unfold World.sys;split
 .exact qp _
 rename_i r os w2 _ heq;rw[heq] at h;exact h
theorem cy {P:Program} {α:Type}: ∀ (m:Sem α) (w:World) {a:α} {w':World},m.run P w= .ok a w'->w.drawn<=w'.drawn
 | .pure a,w,b,w',h=>by simp only[Sem.run,Result.ok.injEq] at h;rw[h.2];exact qp _
 | .load m a k,w,b,w',h=>by
  simp only[Sem.run] at h;split at h
  .have:=cy _ _ h;exact this
  .split at h
   .have:=cy _ _ h;exact this
   .cases h
 | .store m a v k,w,b,w',h=>by
  have key:(match w.cell? a with
   | some _=>if w.frozen? a then Result.halt (.unsupported (.unsafePointer "a write to bytes that a string shares")) w else k.run P (w.setCell a v)
   | none=>match w.farStore P a v (m==Mode.atomic) with
    | .ok (w,_)=>k.run P w
    | .error h=> .halt h w)= .ok b w'->w.drawn<=w'.drawn:=by
   intro h
   split at h
   .split at h
    .cases h
    have:=cy _ _ h;exact this
   split at h
   .rename_i w2 l hf
    exact ka (wV hf) (cy k _ h)
   cases h
  cases v<;>simp only[Sem.run] at h<;>first | (cases h;done) | exact key h
 | .new o k,w,b,w',h=>by simp only[Sem.run] at h;have:=cy _ _ h;exact this
 | .shape r k,w,b,w',h=>by simp only[Sem.run] at h;have:=cy _ _ h;exact this
 | .freeze a n k,w,b,w',h=>by
  simp only[Sem.run] at h;have h2:=cy _ _ h;have h3:(w.freeze a n).drawn=w.drawn:=by
   unfold World.freeze
   repeat(first | rfl | split)
  rw[h3] at h2;exact h2
 | .frozen a k,w,b,w',h=>by simp only[Sem.run] at h;have:=cy _ _ h;exact this
 | .getObj r k,w,b,w',h=>by
  simp only[Sem.run] at h;split at h
  .cases h
  .have:=cy _ _ h;exact this
  .cases h
 | .setObj r o k,w,b,w',h=>by
  simp only[Sem.run] at h;split at h
  .cases h
  .have:=cy _ _ h;exact this
  .cases h
 | .choose q k,w,b,w',h=>by
  simp only[Sem.run] at h;split at h
  .have:=cy _ _ h;exact this
  .have:=cy _ _ h;exact ka (Nat.le_succ _) this
 | .sys c k,w,b,w',h=>by
  simp only[Sem.run] at h;have:=cy _ _ h;exact ka (JM w c) this
 | .program k,w,b,w',h=>by simp only[Sem.run] at h;have:=cy _ _ h;exact this
 | .mark m k,w,b,w',h=>by simp only[Sem.run] at h;have:=cy _ _ h;exact this
 | .halt x,w,b,w',h=>by simp only[Sem.run] at h;cases h
structure Stp (c:fR) (w w':World) (X X':Nat->Prop) (ρ ρ':Places):Prop where
 same:Same X w w'
 sub: ∀ b,b<w.heap.size->X' b->X b
 le:ρ.Le ρ'
 keeps:KeepsB c w->KeepsB c w'
theorem Stp.refl {c:fR} {w:World} {X:Nat->Prop} {ρ:Places}:Stp c w w X X ρ ρ:=⟨Same.refl X w,fun _ _ h=>h,Places.Le.refl ρ,id⟩
theorem PRd.stp {c:fR} {w w':World} {X X':Nat->Prop} {ρ ρ':Places} {v:Value} {x:PV} (h:PRd w X ρ v x) (s:Stp c w w' X X' ρ ρ'):PRd w' X' ρ' v x:=
 h.mono s.same s.sub s.le
theorem Stp.trans {c:fR} {w w' w2:World} {X X' X2:Nat->Prop} {ρ ρ' ρ2:Places} (h:Stp c w w' X X' ρ ρ') (k:Stp c w' w2 X' X2 ρ' ρ2):Stp c w w2 X X2 ρ ρ2:=
 ⟨⟨ka h.same.1 k.same.1,fun b hb hx=>(k.same.2 b (Nat.lt_of_lt_of_le hb h.same.1) (fun O1=>hx (h.sub b hb O1))).trans (h.same.2 b hb hx)⟩,
  fun b hb hx=>h.sub b hb (k.sub b (Nat.lt_of_lt_of_le hb h.same.1) hx),h.le.trans k.le,fun hk=>k.keeps (h.keeps hk)⟩
theorem EnvRd.stp {c:fR} {w w':World} {X X':Nat->Prop} {ρ ρ':Places} {t:Array Value} {env:List PV} (h:EnvRd w X ρ t env) (s:Stp c w w' X X' ρ ρ'):EnvRd w' X' ρ' t env:=
 ⟨h.1,fun i v x hv hx=>(h.2 i v x hv hx).stp s⟩
theorem Places.Le.set {ρ:Places} {id:Nat} {p:Place} (h:ρ[id]?=some none\/ρ[id]?=some (some p)):ρ.Le (ρ.set id (some p)):=by
 intro i q hq;by_cases hi:id=i
 .subst hi;rcases h with h | h
  .rw[h] at hq;cases hq
  rw[h] at hq;cases hq;have aG:id<ρ.length:=(List.getElem?_eq_some_iff.1 h).1;simp[aG]
 rw[getElem?_set_ne hi];exact hq
theorem HRd.put {c:fR} {w w':World} {X:Nat->Prop} {ρ:Places} {F:List Ob} (h:HRd c w X ρ F) {id:Nat} {p:Place} {ob:Ob} {row:Option Nat}
 (cF:id<F.length) (hρ:ρ[id]?=some none\/ρ[id]?=some (some p)) (hg:w.grownBy w' row) (uE: ∀ g,row=some g->X g)
 (oC: ∀ (j:Nat) q o g,j≠id->ρ[j]?=some (some q)->F[j]?=some o->o.rw=true->q.b=some g->some g≠row/\p.b≠some g)
 (jg: ∀ g,p.b=some g->w.heap.size<=g\/X g)
 (eW: ∀ g,p.b=some g->(c.w0.heap.size<=g\/c.M g)/\g<w'.heap.size)
 (BJ: ∀ g,row=some g->(c.w0.heap.size<=g\/c.M g))
 (fr:ObRd w' (fun b=>X b\/p.b=some b) (ρ.set id (some p)) p ob):
 HRd c w' (fun b=>X b\/p.b=some b) (ρ.set id (some p)) (F.set id ob)/\Stp c w w' X (fun b=>X b\/p.b=some b) ρ (ρ.set id (some p)):=by
 have cX:ρ.Le (ρ.set id (some p)):=Places.Le.set hρ
 have eD:Same X w w':=⟨hg.size,fun b hb hx=>hg.block b hb (fun e=>hx (uE b e.symm))⟩
 have ia: ∀ b,b<w.heap.size->(X b\/p.b=some b)->X b:=by
  intro b hb hx;rcases hx with hx | hx
  .exact hx
  rcases jg b hx with h1 | h1
  .omega
  exact h1
 have ahc:Stp c w w' X (fun b=>X b\/p.b=some b) ρ (ρ.set id (some p)):=by
  refine⟨eD,ia,cX,fun hk=>⟨hg.os.trans hk.os,hg.tape.trans hk.tape,hg.output.trans hk.output,ka hk.size hg.size,fun b hb hm=>?_⟩⟩;rw[hg.block b (Nat.lt_of_lt_of_le hb hk.size) ?_]
  .exact hk.block b hb hm
  intro e;rcases BJ b e.symm with h1 | h1
  .omega
  exact hm h1
 refine⟨⟨by simp[h.len],?_,?_,?_,fun b hb=> .inl (h.xo b hb),?_,ka h.ge hg.size,h.base.trans cX⟩,ahc⟩
 ·
  intro j q o hq ho
  by_cases hj:id=j
  .subst hj
   have aG:id<ρ.length:=by rw[h.len];exact cF
   rw[qv aG] at hq
   rw[qv cF] at ho
   cases hq;cases ho
   exact fr
  rw[getElem?_set_ne hj] at hq ho
  have mT:=h.ob j q o hq ho
  cases o with
  | dead=>trivial
  | row rw xs=>
   obtain⟨hr,hf⟩:=mT;obtain⟨us,gf,hcell⟩:=hr.cells;have fX: ∀ g,q.b=some g->some g≠row:=by
    intro g uZ xF;cases Gw:rw with
    | true=>exact(oC j q (.row rw xs) g (Ne.symm hj) hq ho (by simp[Ob.rw,Gw]) uZ).1 xF
    | false=>
     have:=(hf g uZ).2 (uE g xF.symm);rw[Gw] at this;cases this
   refine⟨⟨hr.pos,hr.len,us,gf.kept hg ?_,fun i k x y hx hy=>?_⟩,fun g uZ=>?_⟩
   .cases WU:q.b with
    | none=>left;simp[Place.val,WU,Value.ownBlock]
    | some g=>right;simp only[Place.val,WU,Value.ownBlock];exact fX g WU
   .obtain⟨u,hu,sA⟩:=hcell i k x y hx hy;exact⟨u,hu,sA.mono eD ia⟩
   .constructor
    .intro hh;exact .inl ((hf g uZ).1 hh)
    .intro hx;rcases hx with hx | hx
     .exact(hf g uZ).2 hx
     .have aG:=kV gf uZ;rcases jg g hx with h1 | h1
      .omega
      .exact(hf g uZ).2 h1
  | box rw cs=>
   obtain⟨hr,hf⟩:=mT;obtain⟨g,us,uZ,hh,dh,h1,hcell⟩:=hr.cells;have aG:g<w.heap.size:=(Array.getElem?_eq_some_iff.1 hh).1;have fX:some g≠row:=by
    intro xF;cases Gw:rw with
    | true=>exact(oC j q (.box rw cs) g (Ne.symm hj) hq ho (by simp[Ob.rw,Gw]) uZ).1 xF
    | false=>
     have:=(hf g uZ).2 (uE g xF.symm);rw[Gw] at this;cases this
   refine⟨⟨g,us,uZ,?_,dh,h1,fun i u c' hu hc=>(hcell i u c' hu hc).mono eD ia cX⟩,fun g2 eC=>?_⟩
   .rw[hg.block g aG fX];exact hh
   .rw[uZ] at eC;cases eC;constructor
    .intro hh;exact .inl ((hf g uZ).1 hh)
    .intro hx;rcases hx with hx | hx
     .exact(hf g uZ).2 hx
     .rcases jg g hx with h1 | h1
      .omega
      .exact(hf g uZ).2 h1
  | tab n es=>
   obtain⟨hr,hf⟩:=mT;obtain⟨g,clock,vs,uZ,hh,dh,l6,hcell⟩:=hr.ents;have aG:g<w.heap.size:=(Array.getElem?_eq_some_iff.1 hh).1;have fX:some g≠row:=fun xF=>(oC j q (.tab n es) g (Ne.symm hj) hq ho rfl uZ).1 xF
   refine⟨⟨hr.keys,g,clock,vs,uZ,?_,dh,l6,fun i e k v he hv=>?_⟩,fun g2 eC=> .inl (hf g2 eC)⟩
   .rw[hg.block g aG fX];exact hh
   obtain⟨h1,h2,h3⟩:=hcell i e k v he hv;exact⟨h1,h2,h3.mono eD ia (Places.Le.refl [])⟩
 ·
  intro i j q1 q2 o r g Xd Pz ho hr h_ gL dp dN
  by_cases hi:id=i
  .subst hi
   by_cases hj:id=j
   .exact hj
   have aG:id<ρ.length:=by rw[h.len];exact cF
   rw[qv aG] at Xd
   rw[getElem?_set_ne hj] at Pz hr
   cases Xd
   exact absurd dp (oC j q2 r g (Ne.symm hj) Pz hr gL dN).2
  rw[getElem?_set_ne hi] at Xd ho
  by_cases hj:id=j
  .subst hj
   have aG:id<ρ.length:=by rw[h.len];exact cF
   rw[qv aG] at Pz
   cases Pz
   exact absurd dN (oC i q1 o g (Ne.symm hi) Xd ho h_ dp).2
  rw[getElem?_set_ne hj] at Pz hr
  exact h.inj i j q1 q2 o r g Xd Pz ho hr h_ gL dp dN
 .intro j q o g hq ho h_ dp
  by_cases hj:id=j
  .subst hj
   have aG:id<ρ.length:=by rw[h.len];exact cF
   rw[qv aG] at hq
   cases hq
   exact eW g dp
  rw[getElem?_set_ne hj] at hq ho
  have:=h.own j q o g hq ho h_ dp
  exact⟨this.1,Nat.lt_of_lt_of_le this.2 hg.size⟩
 intro b hb
 rcases hb with hb | hb
 .exact Nat.lt_of_lt_of_le (h.xlt b hb) hg.size
 exact(eW b hb).2
theorem HRd.extend {c:fR} {w:World} {X:Nat->Prop} {ρ:Places} {F:List Ob} (h:HRd c w X ρ F) (D:List Ob):HRd c w X (ρ++replicate D.length none) (F++D):=by
 have key: ∀ (id:Nat) p,(ρ++replicate D.length (none:Option Place))[id]?=some (some p)->id<ρ.length/\ρ[id]?=some (some p):=by
  intro id p hp;by_cases aG:id<ρ.length
  .rw[qi aG] at hp;exact⟨aG,hp⟩
  rw[getElem?_append_right (by omega),List.getElem?_replicate] at hp;split at hp<;>cases hp
 have cX:ρ.Le (ρ++replicate D.length none):=Places.Le.append _ _;refine⟨by simp[h.len],?_,?_,?_,h.xo,h.xlt,h.ge,h.base.trans cX⟩
 .intro id p o hp ho;obtain⟨aG,hp⟩:=key id p hp;rw[qi (by rw[<-h.len];exact aG)] at ho;have:=h.ob id p o hp ho;cases o with
  | dead=>trivial
  | row rw xs=>exact this
  | tab n es=>exact this
  | box rw cs=>
   obtain⟨⟨g,us,hg,hh,hs,h1,hc⟩,hf⟩:=this;exact⟨⟨g,us,hg,hh,hs,h1,fun i u x hu hx=>(hc i u x hu hx).mono (Same.refl X w) (fun _ _ h=>h) cX⟩,hf⟩
 .intro i j p q o r g hp hq ho hr h_ gL dp dN;obtain⟨vB,hp⟩:=key i p hp;obtain⟨nI,hq⟩:=key j q hq;rw[qi (by rw[<-h.len];exact vB)] at ho;rw[qi (by rw[<-h.len];exact nI)] at hr;exact h.inj i j p q o r g hp hq ho hr h_ gL dp dN
 intro id p o g hp ho h_ dp;obtain⟨vB,hp⟩:=key id p hp;rw[qi (by rw[<-h.len];exact vB)] at ho;exact h.own id p o g hp ho h_ dp
theorem HRd.kill {c:fR} {w:World} {X:Nat->Prop} {ρ:Places} {F:List Ob} (h:HRd c w X ρ F) (id:Nat):HRd c w X ρ (F.set id .dead):=by
 have key: ∀ (j:Nat) o,(F.set id .dead)[j]?=some o->o= .dead\/F[j]?=some o:=by
  intro j o ho;by_cases hj:id=j
  .subst hj;by_cases aG:id<F.length
   .rw[qv aG] at ho;cases ho;exact .inl rfl
   rw[List.getElem?_eq_none (by simpa using aG)] at ho;cases ho
  rw[getElem?_set_ne hj] at ho;exact .inr ho
 refine⟨by simp[h.len],?_,?_,?_,h.xo,h.xlt,h.ge,h.base⟩
 .intro j p o hp ho;rcases key j o ho with rfl | ho
  .trivial
  exact h.ob j p o hp ho
 .intro i j p q o r g hp hq ho hr h_ gL dp dN;rcases key i o ho with rfl | ho
  .cases h_
  rcases key j r hr with rfl | hr
  .cases gL
  exact h.inj i j p q o r g hp hq ho hr h_ gL dp dN
 intro j p o g hp ho h_ dp;rcases key j o ho with rfl | ho
 .cases h_
 exact h.own j p o g hp ho h_ dp
theorem Vx {w:World} {X X':Nat->Prop} {p:Place} {xs:List (List FV)} (hr:Ns w X p xs) {id off len:Nat} {v:Value} {ρ:Places}
 {sz:Nat} (hv:PRd w X ρ v (.lsl id off len sz)) (hp:ρ[id]?=some (some p)) (hl:off+len<=xs.length) (hX: ∀ b,X' b->X b) (hX': ∀ g,p.b=some g-> ¬X' g):
 FRd w X' v (.sl ((xs.drop off).take len)):=by
 obtain⟨us,gf,hcell⟩:=hr.cells
 generalize yA:PV.lsl id off len sz=pv at hv
 cases hv<;>cases yA
 case lsl0 q uZ hq=>
  simp only[List.drop_zero,List.take_zero];exact .nil
 case lsl o g q uZ hq ho nI=>
  rw[hp] at hq;cases hq;have tH:xs.length<=p.cap:=by
   rcases gf.2 with⟨h1,_⟩ | ⟨g',cap,cur,h1,_,_,h3,_⟩
   .simp[Place.val,uZ] at h1
   simp[Place.val,uZ] at h1;obtain⟨_,h1⟩:=h1;omega
  by_cases hz:len=0
  .subst hz;simp only[List.take_zero];refine .sl _ 0 _ 0 [] (fun _ _=>undef) rfl (dU _) (by simp) rfl (fun h=>absurd rfl h) (fun h=>absurd rfl h) (by simp) (by simp)
  have Iq:o=off*p.size:=by
   rcases ho with ho | ho
   .exact ho
   omega
  subst Iq;have hb:=kV gf uZ;have aA:((xs.drop off).take len).length=len:=by simp;omega
  refine .sl _ len _ p.size _ (fun i j=>(us.getD ((off+i)*p.size+j) undef)) aA (by omega) ?_ rfl (fun _=>hX' g uZ) (fun _=>hb) ?_ ?_
  .intro x hx;exact hr.len x (Yf (xY hx))
  .intro i j x y hx hy;rw[List.getElem?_take] at hx;split at hx
   .rw[List.getElem?_drop] at hx;obtain⟨u,hu,sA⟩:=hcell (off+i) j x y hx hy;have eP:World.ownsRow w 0 p.e p.size (.slice (some ⟨g,0,none⟩) xs.length p.cap) xs.length us:=by simpa [Place.val,uZ] using gf
    have:=eP.cells (g:=g) rfl _ u hu;simp only[qa,hu,Option.getD_some];rw[show off*p.size+(i*p.size+j)=(off+i)*p.size+j by rw[Nat.add_mul];omega];rw[<-this];congr 1;unfold Addr.add;split<;>simp_all
   cases hx
  intro i j x y hx hy;rw[List.getElem?_take] at hx;split at hx
  .rw[List.getElem?_drop] at hx;obtain⟨u,hu,sA⟩:=hcell (off+i) j x y hx hy;simp only[qa,hu,Option.getD_some];exact sA.mono (Same.refl X w) (fun b _ h=>hX b h)
  cases hx
theorem Stp.same_world {c:fR} {w:World} {X X':Nat->Prop} {ρ:Places} (h: ∀ b,X' b->X b):Stp c w w X X' ρ ρ:=
 ⟨Same.refl X w,fun b _ hb=>h b hb,Places.Le.refl ρ,id⟩
def Ob.alive:Ob->Prop
 | .dead=>False
 | _=>True
theorem Ob.rw_ro (o:Ob):o.ro.rw=false:=by cases o<;>rfl
theorem HRd.shut {c:fR} {w:World} {X:Nat->Prop} {ρ:Places} {F:List Ob} (h:HRd c w X ρ F) (id:Nat):
 ∃ X',HRd c w X' ρ (shut F id)/\(∀ b,X' b->X b)/\ ∀ p o g,ρ[id]?=some (some p)->F[id]?=some o->o.alive->p.b=some g-> ¬X' g:=by
 let Blk (b:Nat):Prop:= ∃ p o,ρ[id]?=some (some p)/\F[id]?=some o/\o.rw=true/\p.b=some b
 have key: ∀ (j:Nat) o,(AM.shut F id)[j]?=some o->(j≠id/\F[j]?=some o)\/(j=id/\ ∃ o',F[j]?=some o'/\o=o'.ro):=by
  intro j o ho;unfold AM.shut at ho;by_cases hj:j=id
  .subst hj;right;rw[getElem?_modify_eq] at ho;cases hf:F[j]? with
   | none=>rw[hf] at ho;cases ho
   | some o'=>rw[hf] at ho;simp at ho;exact⟨rfl,o',rfl,ho.symm⟩
  left;rw[getElem?_modify_ne _ _ (Ne.symm hj)] at ho;exact⟨hj,ho⟩
 have ia: ∀ b,(X b/\ ¬Blk b)->X b:=fun b hb=>hb.1
 refine⟨fun b=>X b/\ ¬Blk b,⟨by simp[AM.shut,h.len],?_,?_,?_,?_,fun b hb=>h.xlt b hb.1,h.ge,h.base⟩,ia,?_⟩
 .intro j p o hp ho
  rcases key j o ho with⟨hj,ho⟩ | ⟨rfl,o',gg,rfl⟩
  .have mT:=h.ob j p o hp ho
   have hrw:o.rw=true-> ∀ g,p.b=some g-> ¬Blk g:=by
    intro hr g hg ⟨q,r,hq,gL,f1,Ui⟩;exact hj (h.inj j id p q o r g hp hq ho gL hr f1 hg Ui)
   cases o with
   | dead=>trivial
   | row rw xs=>
    obtain⟨⟨cY,aA,us,gf,hc⟩,hf⟩:=mT;refine⟨⟨cY,aA,us,gf,fun i k x y hx hy=>?_⟩,fun g hg=>⟨fun hr=>⟨(hf g hg).1 hr,hrw hr g hg⟩,fun hx=>(hf g hg).2 hx.1⟩⟩;obtain⟨u,hu,sA⟩:=hc i k x y hx hy;exact⟨u,hu,sA.mono (Same.refl X w) (fun b _=>ia b)⟩
   | box rw cs=>
    obtain⟨⟨g,us,hg,hh,hs,h1,hc⟩,hf⟩:=mT;exact⟨⟨g,us,hg,hh,hs,h1,fun i u x hu hx=>(hc i u x hu hx).mono (Same.refl X w) (fun b _=>ia b) (Places.Le.refl ρ)⟩,
     fun g hg=>⟨fun hr=>⟨(hf g hg).1 hr,hrw hr g hg⟩,fun hx=>(hf g hg).2 hx.1⟩⟩
   | tab n es=>
    obtain⟨⟨KJ,g,clock,vs,hg,hh,hs,l6,hc⟩,hf⟩:=mT;exact⟨⟨KJ,g,clock,vs,hg,hh,hs,l6,fun i e k v he hv=>by
     obtain⟨a1,a2,a3⟩:=hc i e k v he hv;exact⟨a1,a2,a3.mono (Same.refl X w) (fun b _=>ia b) (Places.Le.refl [])⟩⟩,fun g hg=>⟨hf g hg,hrw rfl g hg⟩⟩
  clear ho
  have mT:=h.ob j p o' hp gg
  cases o' with
  | dead=>trivial
  | tab n es=>trivial
  | row rw xs=>
   obtain⟨⟨cY,aA,us,gf,hc⟩,hf⟩:=mT;refine⟨⟨cY,aA,us,gf,fun i k x y hx hy=>?_⟩,fun g hg=>⟨fun hr=>(by cases hr),fun hx=>?_⟩⟩
   .obtain⟨u,hu,sA⟩:=hc i k x y hx hy;exact⟨u,hu,sA.mono (Same.refl X w) (fun b _=>ia b)⟩
   .exact absurd ⟨p,_,hp,gg,(hf g hg).2 hx.1,hg⟩ hx.2
  | box rw cs=>
   obtain⟨⟨g,us,hg,hh,hs,h1,hc⟩,hf⟩:=mT;exact⟨⟨g,us,hg,hh,hs,h1,fun i u x hu hx=>(hc i u x hu hx).mono (Same.refl X w) (fun b _=>ia b) (Places.Le.refl ρ)⟩,
    fun g hg=>⟨fun hr=>(by cases hr),fun hx=>absurd ⟨p,_,hp,gg,(hf g hg).2 hx.1,hg⟩ hx.2⟩⟩
 .intro i j p q o r g hp hq ho hr h_ gL dp dN
  rcases key i o ho with⟨_,ho⟩ | ⟨_,o',_,rfl⟩
  .rcases key j r hr with⟨_,hr⟩ | ⟨_,r',_,rfl⟩
   .exact h.inj i j p q o r g hp hq ho hr h_ gL dp dN
   rw[Ob.rw_ro] at gL;cases gL
  rw[Ob.rw_ro] at h_;cases h_
 .intro j p o g hp ho h_ dp
  rcases key j o ho with⟨_,ho⟩ | ⟨_,o',_,rfl⟩
  .exact h.own j p o g hp ho h_ dp
  rw[Ob.rw_ro] at h_;cases h_
 .intro b hb
  refine⟨h.xo b hb,?_⟩
  rintro⟨p,o,hp,ho,hr,hg⟩
  have h1:=c.hxo b hb
  rcases(h.own id p o b hp ho hr hg).1 with h2 | h2
  .omega
  exact h1.2 h2
 intro p o g hp ho ha hg hx
 have mT:=h.ob id p o hp ho
 cases o with
 | dead=>exact ha
 | tab n es=>exact hx.2 ⟨p,_,hp,ho,rfl,hg⟩
 | row rw xs=>exact hx.2 ⟨p,_,hp,ho,(mT.2 g hg).2 hx.1,hg⟩
 | box rw cs=>exact hx.2 ⟨p,_,hp,ho,(mT.2 g hg).2 hx.1,hg⟩
theorem Nx {F:List Ob} {id j:Nat} {o:Ob} (h:F[j]?=some o) (hj:j≠id):(shut F id)[j]?=some o:=by
 unfold shut;rw[getElem?_modify_ne _ _ (Ne.symm hj)];exact h
theorem HRd.shutIds {c:fR} {w:World} {ρ:Places}: ∀ (ids:List Nat) {X:Nat->Prop} {F:List Ob},HRd c w X ρ F->
 ∃ X',HRd c w X' ρ (shutIds ids F)/\(∀ b,X' b->X b)/\ ∀ id∈ids,∀ p o g,ρ[id]?=some (some p)->F[id]?=some o->o.alive->p.b=some g-> ¬X' g
 | [],X,F,h=>⟨X,h,fun _ h=>h,fun id cF=>by cases cF⟩
 | id::ids,X,F,h=>by
  obtain⟨X1,h1,pj,jd⟩:=h.shut id;obtain⟨X2,h2,BU,qN⟩:=HRd.shutIds ids h1;refine⟨X2,h2,fun b hb=>pj b (BU b hb),fun j hj p o g hp ho ha hg hx=>?_⟩;rcases List.mem_cons.1 hj with rfl | hj
  .exact jd p o g hp ho ha hg (BU g hx)
  by_cases o5:j=id
  .subst o5;exact jd p o g hp ho ha hg (BU g hx)
  exact qN j hj p o g hp (Nx ho o5) ha hg hx
theorem aV (ids:List Nat): ∀ (F:List Ob),(shutIds ids F).length=F.length:=by
 induction ids with
 | nil=>intro F;rfl
 | cons id ids ih=>intro F;show(shutIds ids (shut F id)).length=_;rw[ih];simp[shut]
theorem Dq {F G:List Ob} {id:Nat} (h:id<F.length):shut (F++G) id=shut F id++G:=by
 unfold shut;apply List.ext_getElem?;intro j;by_cases hj:j<F.length
 .rw[qi (by simpa using hj)];by_cases o5:j=id
  .subst o5;rw[getElem?_modify_eq,getElem?_modify_eq,qi hj]
  rw[getElem?_modify_ne _ _ (Ne.symm o5),getElem?_modify_ne _ _ (Ne.symm o5),qi hj]
 rw[getElem?_append_right (by simp;omega),getElem?_modify_ne _ _ (by omega),getElem?_append_right (by omega)];simp
theorem mI {c:fR} {w:World} {X X':Nat->Prop} {ρ:Places} {F H:List Ob} (h:HRd c w X ρ F) (hH: ∀ (j:Nat) o,H[j]?=some o->F[j]?=some o) {v:Value} {x:PV} {y:FV}
 (hv:PRd w X ρ v x) (hf:dI H x=some y) (hX: ∀ b,X' b->X b) (hn: ∀ id∈eu x,∀ p o g,ρ[id]?=some (some p)->F[id]?=some o->o.alive->p.b=some g-> ¬X' g):FRd w X' v y:=by
 cases x with
 | fv z=>
  simp only[dI,qo] at hf;subst hf;cases hv with | fv _ _ h=>exact h.mono (Same.refl X w) (fun b _=>hX b)
 | nilsl=>
  simp only[dI,qo] at hf;subst hf;cases hv with | nilsl=>exact .nil
 | clip xs=>
  simp only[dI,qo] at hf;subst hf;cases hv with | clip _ _ _ h=>exact h.mono (Same.refl X w) (fun b _=>hX b)
 | lsl id off len sz=>
  simp only[dI] at hf;cases ho:H[id]? with
  | none=>rw[ho] at hf;cases hf
  | some o=>
   rw[ho] at hf;cases o with
   | dead=>cases hf
   | tab _ _=>cases hf
   | box _ _=>cases hf
   | row rw xs=>
    simp only at hf;split at hf
    .rename_i hl;cases hf;have Iq:=hH id _ ho;have Ec: ∃ p,ρ[id]?=some (some p):=by cases hv<;>exact⟨_,by assumption⟩
     obtain⟨p,hp⟩:=Ec;exact Vx (h.ob id p _ hp Iq).1 hv hp hl hX (fun g hg=>hn id (by simp[eu]) p _ g hp Iq trivial hg)
    .cases hf
 | any=>cases hf
 | ptr _ _ _=>cases hf
 | agg _=>cases hf
 | tup _=>cases hf
 | tab _=>cases hf
theorem gk {H:List Ob}: ∀ {xs:List PV} {ys:List FV},kc H xs=some ys->ys.length=xs.length
 | [],ys,h=>by simp[kc] at h;subst h;rfl
 | x::xs,ys,h=>by
  simp only[kc] at h;split at h
  .rename_i y ys' h1 h2;cases h;simp[gk h2]
  cases h
theorem mJ {H:List Ob}: ∀ {xs:List PV} {ys:List FV},kc H xs=some ys-> ∀ (i:Nat) x,xs[i]?=some x-> ∃ y,ys[i]?=some y/\dI H x=some y
 | [],ys,h=>fun i x hx=>by simp at hx
 | x::xs,ys,h=>by
  simp only[kc] at h;split at h
  .rename_i y ys' h1 h2;cases h;intro i z hz;cases i with
   | zero=>simp at hz;subst hz;exact⟨y,rfl,h1⟩
   | succ i=>simp at hz ⊢;exact mJ h2 i z hz
  cases h
theorem PRd.fvs {w:World} {X:Nat->Prop} (ρ:Places) {us:Array Value} {ys:List FV} (hn:us.size=ys.length)
 (h: ∀ (i:Nat) u y,us[i]?=some u->ys[i]?=some y->FRd w X u y):PRd w X ρ (.agg us) (.agg (ys.map .fv)):=by
 refine .agg us _ (by simpa using hn) (fun i u hu=>?_) (fun i u x hu hx=>?_)
 .have aG:i<ys.length:=by rw[<-hn];exact(Array.getElem?_eq_some_iff.1 hu).1
  exact(h i u ys[i] hu (by simp[aG])).one
 rw[List.getElem?_map] at hx
 cases hy:ys[i]? with
 | none=>rw[hy] at hx;cases hx
 | some y=>rw[hy] at hx;cases hx;exact .fv _ _ (h i u y hu hy)
theorem A6 {c:fR} {w:World} {X X':Nat->Prop} {ρ:Places} {F H:List Ob} (h:HRd c w X ρ F) (hH: ∀ (j:Nat) o,H[j]?=some o->F[j]?=some o) {v:Value} {x:PV} {y:FV}
 (hv:PRd w X ρ v x) (hf:dS H x=some y) (hX: ∀ b,X' b->X b) (hn: ∀ id∈j7 H x,∀ p o g,ρ[id]?=some (some p)->F[id]?=some o->o.alive->p.b=some g-> ¬X' g):FRd w X' v y:=by
 by_cases Xe: ∃ id,x= .ptr id 0 0
 .obtain⟨id,rfl⟩:=Xe
  simp only[dS] at hf
  cases ho:H[id]? with
  | none=>rw[ho] at hf;cases hf
  | some o=>
   rw[ho] at hf;cases o with
   | dead=>cases hf
   | tab _ _=>cases hf
   | row _ _=>cases hf
   | box rw cs=>
    simp only[Option.map_eq_some_iff] at hf;obtain⟨ys,vE,rfl⟩:=hf;have Iq:=hH id _ ho;generalize hz:PV.ptr id 0 0=z at hv;cases hv<;>cases hz;rename_i g p hg hp;obtain⟨⟨g',us,kP,hh,hs,h1,hc⟩,_⟩:=h.ob id p _ hp Iq;rw[hg] at kP;cases kP;refine .fp _ ys (fun j=>us.getD j undef) rfl (hn id (by simp[j7,ho]) p _ g hp Iq trivial hg) (Array.getElem?_eq_some_iff.1 hh).1 (fun j z hz=>?_) (fun j z hz=>?_)
    .have aG:j<us.size:=by rw[hs,<-gk vE];exact(List.getElem?_eq_some_iff.1 hz).1
     simp only[Nat.zero_mul,Nat.zero_add];rw[cell_of_row w g j us _ _ hh];simp[aG]
    have aG:j<us.size:=by rw[hs,<-gk vE];exact(List.getElem?_eq_some_iff.1 hz).1
    have XO:j<cs.length:=by rw[<-hs];exact aG
    obtain⟨y,hy,O2⟩:=mJ vE j cs[j] (by simp[XO]);rw[hz] at hy;cases hy;have:=hc j us[j] cs[j] (by simp[aG]) (by simp[XO]);rw[show us.getD j undef=us[j] by simp[aG]];refine mI h hH this O2 hX (fun k hk=>hn k ?_);simp only[j7,ho,uI,List.mem_flatMap];exact .inr ⟨cs[j],by simp,hk⟩
 have e1:dS H x=dI H x:=by
  unfold dS;split
  .exact absurd ⟨_,rfl⟩ Xe
  rfl
 have e2:j7 H x=eu x:=by
  unfold j7;split
  .exact absurd ⟨_,rfl⟩ Xe
  rfl
 rw[e1] at hf
 rw[e2] at hn
 exact mI h hH hv hf hX hn
theorem Fw {c:fR} {w:World} {X X':Nat->Prop} {ρ:Places} {F H:List Ob} (h:HRd c w X ρ F) (hH: ∀ (j:Nat) o,H[j]?=some o->F[j]?=some o) {v:Value} {x y:PV} (ρ':Places)
 (hv:PRd w X ρ v x) (hf:eS H x=some y) (hX: ∀ b,X' b->X b) (hn: ∀ id∈jb H x,∀ p o g,ρ[id]?=some (some p)->F[id]?=some o->o.alive->p.b=some g-> ¬X' g):PRd w X' ρ' v y:=by
 by_cases jx: ∃ cs,x= .agg cs
 .obtain⟨cs,rfl⟩:=jx
  simp only[eS,Option.map_eq_some_iff] at hf
  obtain⟨ys,vE,rfl⟩:=hf
  cases hv with
  | agg us _ dh h1 hr=>
   have aA:=gk vE;refine PRd.fvs ρ' (by rw[aA];exact dh) (fun i u y hu hy=>?_);have aG:i<cs.length:=by rw[<-dh];exact(Array.getElem?_eq_some_iff.1 hu).1
   obtain⟨y',Eo,O2⟩:=mJ vE i cs[i] (by simp[aG]);rw[hy] at Eo;cases Eo;refine mI h hH (hr i u cs[i] hu (by simp[aG])) O2 hX (fun k hk=>hn k ?_);simp only[jb,List.mem_flatMap];exact⟨cs[i],by simp,hk⟩
 have e1:eS H x=(dS H x).map .fv:=by
  unfold eS;split
  .exact absurd ⟨_,rfl⟩ jx
  rfl
 have e2:jb H x=j7 H x:=by
  unfold jb;split
  .exact absurd ⟨_,rfl⟩ jx
  rfl
 rw[e1,Option.map_eq_some_iff] at hf
 rw[e2] at hn
 obtain⟨z,hz,rfl⟩:=hf
 exact .fv _ _ (A6 h hH hv hz hX hn)
theorem ue {H:List Ob}: ∀ {xs ys:List PV},bH H xs=some ys->ys.length=xs.length
 | [],ys,h=>by simp[bH] at h;subst h;rfl
 | x::xs,ys,h=>by
  simp only[bH] at h;split at h
  .rename_i y ys' h1 h2;cases h;simp[ue h2]
  cases h
theorem Dr {H:List Ob}: ∀ {xs ys:List PV},bH H xs=some ys-> ∀ (i:Nat) y,ys[i]?=some y-> ∃ x,xs[i]?=some x/\eS H x=some y
 | [],ys,h=>fun i x hx=>by simp[bH] at h;subst h;simp at hx
 | x::xs,ys,h=>by
  simp only[bH] at h;split at h
  .rename_i y ys' h1 h2;cases h;intro i z hz;cases i with
   | zero=>simp at hz;subst hz;exact⟨x,rfl,h1⟩
   | succ i=>simp at hz ⊢;exact Dr h2 i z hz
  cases h
theorem Q4 {c:fR} {w:World} {X X':Nat->Prop} {ρ:Places} {F H:List Ob} (h:HRd c w X ρ F) (hH: ∀ (j:Nat) o,H[j]?=some o->F[j]?=some o) {vs:Array Value} {xs ys:List PV} (ρ':Places)
 (hv:PRds w X ρ vs xs) (hf:bH H xs=some ys) (hX: ∀ b,X' b->X b)
 (hn: ∀ id∈xs.flatMap (jb H),∀ p o g,ρ[id]?=some (some p)->F[id]?=some o->o.alive->p.b=some g-> ¬X' g):PRds w X' ρ' vs ys:=by
 refine⟨by rw[ue hf];exact hv.1,fun i v y hi hy=>?_⟩
 obtain⟨x,hx,Ir⟩:=Dr hf i y hy
 refine Fw h hH ρ' (hv.2 i v x hi hx) Ir hX (fun k hk=>hn k ?_)
 rw[List.mem_flatMap]
 exact⟨x,List.mem_of_getElem? hx,hk⟩
end Go.AM
