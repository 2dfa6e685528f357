/- The abstract machine:pure values,live objects,and the weakest precondition of code over abstract states. Definitions only;nothing is claimed here. -/
import Derived.Calls
import Derived.Orders
import Derived.Laws.Sem
set_option linter.all false
theorem b':True:=trivial
abbrev qa:=@List.getD_eq_getElem?_getD
abbrev qb:=@List.getElem?_eq_getElem
abbrev dm:=@List.take_of_length_le
abbrev qe:=@List.length_append
abbrev qf:=@List.length_take
abbrev qh:=@List.getElem?_append_right
abbrev qi:=@List.getElem?_append_left
abbrev qj:=@List.drop_eq_getElem_cons
abbrev qk:=@List.getD_cons_succ
abbrev ql:=@List.mem_cons_of_mem
abbrev qm:=@List.getElem?_set_ne
abbrev qn:=@Nat.mul_le_mul_right
abbrev qo:=@Option.some.injEq
abbrev qp:=@Nat.le_refl
abbrev qr:=@List.mem_append
abbrev dU:=@Nat.zero_le
abbrev qt:=@List.length_drop
abbrev qv:=@List.getElem?_set_self
abbrev qx:=@beq_eq_false_iff_ne
abbrev qy:=@And.intro
abbrev qz:=@List.mem_singleton
abbrev IA:=@List.length_singleton
abbrev iK:=@decide_eq_true
abbrev mU:=@decide_eq_false
abbrev IB:=@Nat.pow_pos
abbrev xY:=@List.mem_of_mem_take
abbrev Yf:=@List.mem_of_mem_drop
abbrev uI:=@List.mem_cons
abbrev Ux:=@List.length_replicate
abbrev Uy:=@List.length_set
abbrev qlb:=@List.append_assoc
abbrev GH:=@Nat.lt_of_le_of_lt
abbrev ka:=@Nat.le_trans
abbrev nF:=@List.all_eq_true
abbrev qpb:=@List.any_eq_true
abbrev pP:=@List.getElem_mem
abbrev EL:=@Bool.or_eq_true
abbrev hG:=@Bool.and_eq_true
abbrev qvb:=@List.all_append
abbrev BM:=@List.map_append
open List (replicate)
namespace Go.AM
theorem K_ {α:Sort _} (a:α): ∃ b,a=b:=⟨_,rfl⟩
inductive FV where
 | lit (v:Value)
 | sl (xs:List (List FV))
 | fp (cs:List FV)
 | fn (f:Fn) (first captured:List FV)
inductive PV where
 | any
 | fv (x:FV)
 | nilsl
 | clip (xs:List (List FV))
 | ptr (id i off:Nat)
 | lsl (id off len s:Nat)
 | agg (cs:List PV)
 | tup (vs:List PV)
 | tab (id:Nat)
inductive Ob where
 | dead
 | row (rw:Bool) (xs:List (List FV))
 | box (rw:Bool) (cs:List PV)
 | tab (n:Nat) (es:List (List Int×PV))
structure St where
 env:List PV
 heap:List Ob
structure Yg where
 off:Nat
 size:Nat
 agg:Bool
inductive Ty where
 | int (k:IntKind)
 | bool
 | str
 | sl (e:Nat)
 | arr (n e:Nat)
 | st (fs:List Yg)
 | mp (n:Nat) (z:PV)
 | other
structure TyI where
 d:Ty
 size:Nat
 bytes:Nat
 zero:List PV
abbrev Tab:=List (Nat×TyI)
def Tab.at (T:Tab) (t:Nat):Option TyI:=(T.find? (fun e=>e.1==t)).map (·.2)
def TyI.isAgg (i:TyI):Bool:=match i.d with | .arr _ _ | .st _=>true | _=>false
def PV.cells:PV->List PV
 | .agg cs=>cs
 | .any | .tup _=>[]
 | v=>[v]
abbrev PV.lit (v:Value):PV:= .fv (.lit v)
abbrev PV.int (k:IntKind) (n:Int):PV:= .fv (.lit (.int k n))
abbrev PV.bool (b:Bool):PV:= .fv (.lit (.bool b))
def PV.ofCell:Value->PV
 | .slice none 0 0=> .nilsl
 | .slice .. | .agg _ | .tuple _=> .any
 | v=> .fv (.lit v)
def PV.ofValue:Value->PV
 | .agg cs=>if cs.toList.all Value.oneCell' then .agg (cs.toList.map PV.ofCell) else .any
 | .tuple vs=> .tup (vs.toList.map PV.ofCell)
 | v=>PV.ofCell v
def St.get (st:St) (t:Nat):PV:=st.env.getD t .any
def ev (env:List PV):Operand->PV
 | .tmp t=>env.getD t .any
 | .const v=>PV.ofValue v
 | .global _=> .any
 | .func f=> .fv (.lit (.func (.func f) #[] #[]))
def dI (H:List Ob):PV->Option FV
 | .fv x=>some x
 | .nilsl=>some (.sl [])
 | .clip xs=>some (.sl xs)
 | .lsl id off len _=>match H[id]? with
  | some (.row _ xs)=>if off+len<=xs.length then some (.sl ((xs.drop off).take len)) else none
  | _=>none
 | _=>none
def kc (H:List Ob):List PV->Option (List FV)
 | []=>some []
 | c::cs=>match dI H c,kc H cs with | some x,some xs=>some (x::xs) | _,_=>none
def dS (H:List Ob):PV->Option FV
 | .ptr id 0 0=>match H[id]? with
  | some (.box _ cs)=>(kc H cs).map .fp
  | _=>none
 | v=>dI H v
def Ob.ro:Ob->Ob
 | .row _ xs=> .row false xs
 | .box _ cs=> .box false cs
 | .tab _ _=> .dead
 | .dead=> .dead
def shut (H:List Ob) (id:Nat):List Ob:=H.modify id Ob.ro
def shutIds (ids:List Nat) (H:List Ob):List Ob:=ids.foldl shut H
def eu:PV->List Nat
 | .lsl id _ _ _=>[id]
 | _=>[]
def j7 (H:List Ob):PV->List Nat
 | .ptr id 0 0=>match H[id]? with
  | some (.box _ cs)=>id::cs.flatMap eu
  | _=>[]
 | v=>eu v
def ft (H:List Ob) (vs:List PV):List Ob:=shutIds (vs.flatMap eu) H
def pQ (H:List Ob):List PV->Option (List FV)
 | []=>some []
 | c::cs=>match dS H c,pQ H cs with | some x,some xs=>some (x::xs) | _,_=>none
structure Res where
 cond:Prop
 val:PV
 heap:List Ob
def Res.pure (H:List Ob) (v:PV):Option Res:=some ⟨True,v,H⟩
def Res.if (c:Prop) (H:List Ob) (v:PV):Option Res:=some ⟨c,v,H⟩
def PV.asInt:PV->Option Int | .fv (.lit (.int _ n))=>some n | _=>none
def ig (i:TyI) (cs:List PV):Option PV:=if i.isAgg then some (.agg cs) else if i.size=1 then some (cs.headD .any) else none
def vG (op:BinOp) (k:IntKind) (a b:Int):Option (Prop×Value):=
 match op with
 | .add=>some (True,.int k (k.wrap (a+b)))
 | .sub=>some (True,.int k (k.wrap (a - b)))
 | .mul=>some (True,.int k (k.wrap (a*b)))
 | .quo=>some (b≠0,.int k (k.wrap (a.tdiv b)))
 | .rem=>some (b≠0,.int k (a.tmod b))
 | .and=>some (True,.int k (k.wrap (BitVec.ofInt k.bits a&&& BitVec.ofInt k.bits b).toNat))
 | .or=>some (True,.int k (k.wrap (BitVec.ofInt k.bits a||| BitVec.ofInt k.bits b).toNat))
 | .xor=>some (True,.int k (k.wrap (BitVec.ofInt k.bits a^^^BitVec.ofInt k.bits b).toNat))
 | .eql=>some (True,.bool (a==b))
 | .neq=>some (True,.bool (a !=b))
 | .lss=>some (True,.bool (a<b))
 | .leq=>some (True,.bool (a<=b))
 | .gtr=>some (True,.bool (a>b))
 | .geq=>some (True,.bool (a>=b))
 | _=>none
def k9 (op:BinOp) (k:IntKind) (a b:Int):Option (Prop×Value):=
 match op with
 | .shl=>some (0<=b,.int k (k.wrap (a*2^(min b.toNat k.bits))))
 | .shr=>some (0<=b,.int k (a.fdiv (2^(min b.toNat k.bits))))
 | _=>none
def Tab.isBool (T:Tab) (t:Nat):Bool:=match T.at t with | some i=>(match i.d with | .bool=>true | _=>false) | none=>false
def Tab.isSl (T:Tab) (t:Nat):Bool:=match T.at t with | some i=>(match i.d with | .sl _=>true | _=>false) | none=>false
def La (op:BinOp) (x y:PV):Option Bool:=
 match op,x,y with
 | .eql,.fv (.lit (.slice a _ _)),.nilsl=>some a.isNone
 | .eql,.fv (.sl (_::_)),.nilsl=>some false
 | .eql,.nilsl,.nilsl=>some true
 | .neq,.fv (.lit (.slice a _ _)),.nilsl=>some (!a.isNone)
 | .neq,.fv (.sl (_::_)),.nilsl=>some true
 | .neq,.nilsl,.nilsl=>some false
 | _,_,_=>none
def IC (n:Option Nat) (op:BinOp) (a b:Option (List Int)):Option Bool:=
 match n,op,a,b with
 | some n,.eql,some a,some b=>if a.length=n/\b.length=n then some (a==b) else none
 | some n,.neq,some a,some b=>if a.length=n/\b.length=n then some (!(a==b)) else none
 | _,_,_,_=>none
def vH:List PV->Bool
 | [.nilsl]=>true
 | _=>false
def Lb:Ty->Bool
 | .int .i64=>true
 | _=>false
def Tab.arN (T:Tab) (t:Nat):Option Nat:=match T.at t with
 | some i=>match i.d with
  | .arr n e=>match T.at e with
   | some ie=>if Lb ie.d&&ie.size==1 then some n else none
   | none=>none
  | _=>none
 | none=>none
def EM (tb:Bool) (op:BinOp) (x y:PV):Option (Prop×Value):=
 match x,y with
 | .fv (.lit (.int k a)),.fv (.lit (.int k' b))=>
  match op with
  | .shl | .shr=>k9 op k a b
  | _=>if k=k' then vG op k a b else none
 | .fv (.lit (.bool a)),.fv (.lit (.bool b))=>if tb=false then none else
  match op with
  | .eql=>some (True,.bool (a==b))
  | .neq=>some (True,.bool (!(a==b)))
  | _=>none
 | _,_=>none
def Yh (op:UnOp) (x:PV):Option Value:=
 match op,x with
 | .neg,.fv (.lit (.int k n))=>some (.int k (k.wrap (0 - n)))
 | .xor,.fv (.lit (.int k n))=>some (.int k (k.wrap (BitVec.ofInt k.bits (if k.signed then -1 else k.max)^^^BitVec.ofInt k.bits n).toNat))
 | .not,.fv (.lit (.bool b))=>some (.bool !b)
 | _,_=>none
def ee (H:List Ob) (id i off n:Nat):Option (Prop×List PV):=
 match H[id]? with
 | some (.row _ xs)=>some (i<xs.length/\off+n<=(xs.getD i []).length,((((xs.getD i []).drop off).take n).map .fv))
 | some (.box _ cs)=>some (i=0/\off+n<=cs.length,(cs.drop off).take n)
 | _=>none
def eH {α:Type} (l:List α) (off:Nat) (new:List α):List α:=l.take off++new++l.drop (off+new.length)
def storeAt (H:List Ob) (id i off:Nat) (new:List PV):Option (Prop×List Ob):=
 match H[id]? with
 | some (.row true _)=>match kc H new,(ft H new)[id]? with
  | some fs,some (.row true xs)=>some (i<xs.length/\off+new.length<=(xs.getD i []).length,(ft H new).set id (.row true (xs.set i (eH (xs.getD i []) off fs))))
  | _,_=>none
 | some (.box true cs)=>some (i=0/\off+new.length<=cs.length,H.set id (.box true (eH cs off new)))
 | _=>none
def kd (place:Nat->Option (Nat×Nat)) (cells:List PV):List (Nat×PV)->Option (List PV)
 | []=>some cells
 | (i,v)::rest=>match place i with
  | none=>none
  | some (off,size)=>if v.cells.length=size/\off+size<=cells.length then kd place (eH cells off v.cells) rest else none
def dr (s:Nat):Nat->List FV->List (List FV)
 | 0,_=>[]
 | n+1,l=>l.take s::dr s n (l.drop s)
def cS (o:Option PV) (d:Nat):Option (Prop×Nat):=
 match o with
 | none=>some (True,d)
 | some v=>match v.asInt with | some n=>some (0<=n,n.toNat) | none=>none
def room (H:List Ob) (id off len:Nat) (lo hi:Option PV):Nat:=match lo,hi with
 | some _,some _=>(match H[id]? with
  | some (.row _ xs)=>max len (xs.length - off)
  | _=>len)
 | _,_=>len
def ma:PV->Option Nat
 | .fv (.sl xs)=>some xs.length
 | .nilsl=>some 0
 | .clip xs=>some xs.length
 | .lsl _ _ len _=>some len
 | .fv (.lit (.slice (some ⟨_,_,none⟩) 0 _))=>some 0
 | _=>none
def XB:Option PV->Option Int
 | some v=>v.asInt
 | none=>none
def GI (lo:Option PV) (h m:Int):PV:=match lo with
 | none=>if m=0 then(if h=0 then .clip [] else .any) else .any
 | some _=> .any
def B1 (s:Nat) (o:Option Ob) (id k:Nat):PV:=match o with
 | some (.box _ _)=>if s=1 then .ptr id 0 k else .any
 | _=> .ptr id k 0
def ID:PV->Option Value
 | .fv (.lit v)=>some v
 | _=>none
def vI:List PV->Option (List Value)
 | []=>some []
 | c::cs=>match ID c,vI cs with | some v,some vs=>some (v::vs) | _,_=>none
def Lc:PV->Option Value
 | .agg cs=>(vI cs).map fun vs=> .agg (List.toArray vs)
 | v=>ID v
def tL:List PV->Option (List Value)
 | []=>some []
 | c::cs=>match Lc c,tL cs with | some v,some vs=>some (v::vs) | _,_=>none
def PQ:PV->Option Int
 | .fv (.lit (.int .i64 n))=>some n
 | _=>none
def pq:List PV->Option (List Int)
 | []=>some []
 | c::cs=>match PQ c,pq cs with | some n,some ns=>some (n::ns) | _,_=>none
def i5:PV->Option (List Int)
 | .agg cs=>pq cs
 | _=>none
def still:PV->Bool
 | .fv _=>true
 | .agg cs=>cs.all fun c=>match c with | .fv _=>true | _=>false
 | _=>false
def dC (es:List (List Int×PV)) (k:List Int):Option PV:=(es.find? fun e=>e.1==k).map (·.2)
def i6:List (List Int×PV)->List Int->PV->List (List Int×PV)
 | [],k,v=>[(k,v)]
 | e::es,k,v=>if e.1==k then(k,v)::es else e::i6 es k v
def aP (T:Tab) (H:List Ob) (ρ:Operand->PV) (o:Op):Option Res:=
 match o with
 | .move x | .assign x=>Res.pure H (ρ x)
 | .pick c a b=>match ρ c with
  | .fv (.lit (.bool t))=>Res.pure H (if t then ρ a else ρ b)
  | _=>none
 | .alloc t=>match T.at t with
  | some i=>some ⟨True,.ptr H.length 0 0,H++[.box true i.zero]⟩
  | none=>none
 | .box t x=>match T.at t with
  | some i=>some ⟨(ρ x).cells.length=i.size/\0<i.size,.ptr H.length 0 0,H++[.box true (ρ x).cells]⟩
  | none=>none
 | .build t parts=>match T.at t with
  | some i=>match i.d with
   | .st fs=>match kd (fun j=>(fs[j]?).map fun f=>(f.off,f.size)) i.zero (parts.toList.map fun(j,x)=>(j,ρ x)) with
    | some cs=>Res.pure H (.agg cs)
    | none=>none
   | _=>none
  | none=>none
 | .buildSlice t len parts=>match T.at t with
  | some i=>match i.d with
   | .sl e=>match T.at e with
    | some ie=>
     match kd (fun j=>some (j*ie.size,ie.size)) (replicate len ie.zero).flatten (parts.toList.map fun(j,x)=>(j,ρ x)) with
     | some cs=>match kc H cs with
      | some fs=>if len<1000/\0<ie.size/\ie.size<1000 then some ⟨True,.lsl H.length 0 len ie.size,ft H cs++[.row true (dr ie.size len fs)]⟩ else none
      | none=>none
     | none=>none
    | none=>none
   | _=>none
  | none=>none
 | .load t a=>match T.at t with
  | some i=>match ρ a with
   | .ptr id j off=>match ee H id j off i.size with
    | some (cd,cs)=>match ig i cs with
     | some v=>Res.if cd H v
     | none=>none
    | none=>none
   | .fv (.fp cs)=>match ig i ((cs.take i.size).map .fv) with
    | some v=>Res.if (i.size<=cs.length) H v
    | none=>none
   | _=>none
  | none=>none
 | .store t a x=>match T.at t with
  | some i=>match ρ a with
   | .ptr id j off=>match storeAt H id j off (ρ x).cells with
    | some (cd,H')=>some ⟨cd/\(ρ x).cells.length=i.size/\0<i.size,.tup [],H'⟩
    | none=>none
   | _=>none
  | none=>none
 | .nilCheck x=>match ρ x with
  | .ptr id j off=>Res.pure H (.ptr id j off)
  | .fv (.fp cs)=>Res.pure H (.fv (.fp cs))
  | _=>none
 | .binOp op t x y _=>match EM (T.isBool t) op (ρ x) (ρ y) with
  | some (c,v)=>Res.if c H (.lit v)
  | none=>match La op (ρ x) (ρ y) with
   | some b=>if T.isSl t then Res.pure H (.bool b) else none
   | none=>match IC (T.arN t) op (i5 (ρ x)) (i5 (ρ y)) with
    | some b=>Res.pure H (.bool b)
    | none=>none
 | .unOp op _ x=>match Yh op (ρ x) with
  | some v=>Res.pure H (.lit v)
  | none=>none
 | .convert src dst x=>match T.at src,T.at dst,ρ x with
  | some i,some j,.fv (.lit (.int _ n))=>match i.d,j.d with
   | .int _,.int k=>Res.pure H (.int k (k.wrap n))
   | _,_=>none
  | _,_,_=>none
 | .makeSlice t l c=>match T.at t,ρ l,ρ c with
  | some i,.fv (.lit (.int _ n)),.fv (.lit (.int _ m))=>match i.d with
   | .sl e=>match T.at e with
    | some ie=>if vH ie.zero then some ⟨0<=n/\n=m/\m*ie.bytes<=140737488355328/\m<=140737488355328,.lsl H.length 0 n.toNat 1,H++[.box true (replicate n.toNat .nilsl)]⟩ else
     match kc H ie.zero with
     | some z=>if z.length=ie.size/\0<ie.size then some ⟨0<=n/\n<=m/\m*ie.bytes<=140737488355328/\m<=140737488355328,.lsl H.length 0 n.toNat ie.size,H++[.row true (replicate n.toNat z)]⟩ else none
     | none=>none
    | none=>none
   | _=>none
  | _,_,_=>none
 | .slice t x lo hi mx=>match T.at t with
  | some i=>match i.d,mx with
   | .sl e,none=>match T.at e,ρ x with
    | some ie,.lsl id off len s=>if s=ie.size then(match cS (lo.map ρ) 0,cS (hi.map ρ) len with
     | some (c1,l),some (c2,h)=>Res.if (c1/\c2/\l<=h/\h<=room H id off len (lo.map ρ) (hi.map ρ)) H (.lsl id (off+l) (h - l) s)
     | _,_=>none) else none
    | some ie,.fv (.sl xs)=>match cS (lo.map ρ) 0,cS (hi.map ρ) xs.length with
     | some (c1,l),some (c2,h)=>Res.if (c1/\c2/\l<=h/\h<=xs.length/\ ∀ y∈xs,y.length=ie.size) H (.fv (.sl ((xs.drop l).take (h - l))))
     | _,_=>none
    | some ie,.clip xs=>match cS (lo.map ρ) 0,cS (hi.map ρ) xs.length with
     | some (c1,l),some (c2,h)=>Res.if (c1/\c2/\l<=h/\h<=xs.length/\ ∀ y∈xs,y.length=ie.size) H (.fv (.sl ((xs.drop l).take (h - l))))
     | _,_=>none
    | _,_=>none
   | .sl e,some mv=>match T.at e,ma (ρ x),cS (lo.map ρ) 0,XB (hi.map ρ),(ρ mv).asInt with
    | some _,some len,some (c1,l),some h,some m=>Res.if (c1/\0<=h/\h<=m/\l<=h.toNat/\m<=len) H (GI (lo.map ρ) h m)
    | _,_,_,_,_=>none
   | .arr n e,_=>match T.at e,ρ x,cS (lo.map ρ) 0,cS (hi.map ρ) n,cS (mx.map ρ) n with
    | some ie,.ptr id j off,some (c1,l),some (c2,h),some (c3,m)=>
     match H[id]? with
     | some (.box _ cs)=>match kc H ((cs.drop off).take (n*ie.size)) with
      | some fs=>if j=0/\0<ie.size/\0<n/\(mx.isSome=true->hi.isSome=true) then some ⟨c1/\c2/\c3/\l<=h/\h<=m/\m<=n/\off+n*ie.size<=cs.length,if m=h then .clip (((dr ie.size n fs).drop l).take (h - l)) else .fv (.sl (((dr ie.size n fs).drop l).take (h - l))),shutIds (id::((cs.drop off).take (n*ie.size)).flatMap eu) H⟩ else none
      | none=>none
     | _=>none
    | _,_,_,_,_=>none
   | _,_=>none
  | none=>none
 | .fieldAddr t x f=>match T.at t with
  | some i=>match i.d with
   | .st fs=>match fs[f]?,ρ x with
    | some fd,.ptr id j o=>Res.pure H (.ptr id j (o+fd.off))
    | some fd,.fv (.fp cs)=>Res.if (fd.off+fd.size<=cs.length) H (.fv (.fp (cs.drop fd.off)))
    | _,_=>none
   | _=>none
  | none=>none
 | .field t x f=>match T.at t with
  | some i=>match i.d with
   | .st fs=>match fs[f]?,ρ x with
    | some fd,.agg cs=>if fd.agg then Res.if (fd.off+fd.size<=cs.length) H (.agg ((cs.drop fd.off).take fd.size)) else
     if fd.size=1 then Res.if (fd.off<cs.length) H (cs.getD fd.off .any) else none
    | _,_=>none
   | _=>none
  | none=>none
 | .indexAddr t x ix=>match T.at t,(ρ ix).asInt with
  | some i,some n=>match i.d with
   | .sl e=>match T.at e,ρ x with
    | some ie,.lsl id off len s=>if s=ie.size then Res.if (0<=n/\n<len) H (B1 s (H[id]?) id (off+n.toNat)) else none
    | some ie,.fv (.sl xs)=>Res.if (0<=n/\n<xs.length/\(xs.getD n.toNat []).length=ie.size/\0<ie.size) H (.fv (.fp (xs.getD n.toNat [])))
    | some ie,.clip xs=>Res.if (0<=n/\n<xs.length/\(xs.getD n.toNat []).length=ie.size/\0<ie.size) H (.fv (.fp (xs.getD n.toNat [])))
    | _,_=>none
   | .arr k e=>match T.at e,ρ x with
    | some ie,.ptr id j off=>if 1<k then Res.if (0<=n/\n<k) H (.ptr id j (off+n.toNat*ie.size)) else none
    | some ie,.fv (.fp cs)=>if 1<k then Res.if (0<=n/\n<k/\n.toNat*ie.size+ie.size<=cs.length/\0<ie.size) H (.fv (.fp (cs.drop (n.toNat*ie.size)))) else none
    | _,_=>none
   | _=>none
  | _,_=>none
 | .index t x ix=>match T.at t,(ρ ix).asInt with
  | some i,some n=>match i.d with
   | .arr k e=>match T.at e,ρ x with
    | some ie,.agg cs=>match ig ie ((cs.drop (n.toNat*ie.size)).take ie.size) with
     | some v=>Res.if (0<=n/\n<k/\n.toNat*ie.size+ie.size<=cs.length) H v
     | none=>none
    | _,_=>none
   | .str=>match ρ x with
    | .fv (.lit (.string s))=>Res.if (0<=n/\n<(s.size:Int)) H (.int .u8 ((s[n.toNat]?).getD 0).toNat)
    | _=>none
   | _=>none
  | _,_=>none
 | .extract x ix=>match ρ x with
  | .tup vs=>match vs[ix]? with
   | some v=>Res.pure H v
   | none=>none
  | _=>none
 | .makeMap t none=>match T.at t with
  | some i=>match i.d with
   | .mp n _=>some ⟨True,.tab H.length,H++[.tab n []]⟩
   | _=>none
  | none=>none
 | .lookup t m k ok=>match T.at t,ρ m,i5 (ρ k) with
  | some i,.tab id,some ks=>match i.d,H[id]? with
   | .mp n z,some (.tab n' es)=>if ks.length=n/\n'=n then Res.if (∀ x∈ks,-9223372036854775808<=x/\x<9223372036854775808) H (if ok then .tup [(dC es ks).getD z,.bool (dC es ks).isSome] else(dC es ks).getD z) else none
   | _,_=>none
  | _,_,_=>none
 | .mapUpdate t m k x=>match T.at t,ρ m,i5 (ρ k) with
  | some i,.tab id,some ks=>match i.d,H[id]? with
   | .mp n _,some (.tab n' es)=>if ks.length=n/\n'=n/\still (ρ x)=true then some ⟨∀ x∈ks,-9223372036854775808<=x/\x<9223372036854775808,.tup [],H.set id (.tab n (i6 es ks (ρ x)))⟩ else none
   | _,_=>none
  | _,_,_=>none
 | .makeFunc fn first captured=>match pQ H (first.toList.map ρ),pQ H (captured.toList.map ρ) with
  | some c1,some c2=>some ⟨True,.fv (.fn fn c1 c2),shutIds ((first.toList.map ρ++captured.toList.map ρ).flatMap (j7 H)) H⟩
  | _,_=>match tL (first.toList.map ρ),captured.toList.map ρ with
   | some vs,[]=>some ⟨True,.fv (.lit (.func fn (List.toArray vs) #[])),H⟩
   | _,_=>none
 | _=>none
end Go.AM
