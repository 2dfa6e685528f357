/- The road from a contract to a law's statement:a list of numbers that came in. -/
import Derived.Test.YtjjbkjgifdhlcaaGreatRows
import Derived.Test.YtjjbkjgifdhlcaaGreatT12
import Derived.ProofKit
import Derived.Below
import Derived.Test.YtjjbkjgifdhlcaaGreatT1
set_option linter.all false
open Nat (reduceAdd reduceMul)
open List (any_eq_true append_nil drop_append_of_le_length drop_eq_getElem_cons filter_cons_of_neg filter_sublist foldl_cons getElem?_set length_cons length_map length_take map_cons mem_cons_of_mem mem_filter mem_map mem_take_iff_getElem nil_append nodup_append pairwise_cons replicate set_cons_zero take_succ_cons)
namespace Go.Proofs.YtjjbkjgifdhlcaaGreat
open Go.ChangeShapes Go.WideShapes Go.ChangeAt Go.RowKit
theorem Tryz.own:ownKnob Tryz.prog.godebug=none:=by kernel_rfl
theorem Tryz.laidOut:laidOutB Tryz.prog=true:=by kernel_rfl
theorem Tryz.cells3:Tryz.prog.cellsOf 3=1:=by kernel_rfl
theorem EA {w:World} {a:Addr} {v:Value} (h:w.cell? a=some v):a.block<w.heap.size:=by
 unfold World.cell? at h;split at h
 .rename_i hb;exact(Array.getElem?_eq_some_iff.1 hb).1
 cases h
set_option maxRecDepth 100000 in
theorem LX {W:World} {base:Nat} {v0:Value} {H:Type} {enc:TypeId×Value->H} {fuel:Nat} {aiT:Bool} {x:DataW H×List MemPlace} (bg:Value.okWide Tryz.prog W .any base 22 v0)
 (hf:DataW.trod enc Tryz.prog W 0 (fun _=>true) aiT fuel 22 v0.cells.toList=some x):
 ∃ l:List Int,W64 l/\l.length<9223372036854775808/\Go.AM.FRd W (fun _=>False) v0 (.sl (ints l)):=by
 obtain⟨a0,len,cap,rfl⟩:=okWide_slice Tryz.underlying22 bg
 rcases open_ints Tryz.underlying22 Tryz.underlying3 Tryz.cells3 hf with⟨eR,hx⟩ | ⟨a,len',cap',zs,eR,_,hl,hm,hz,hx,hcell,hwz⟩
 .simp[Value.cells] at eR
  obtain⟨rfl,rfl,rfl⟩:=eR
  exact⟨[],fun x h=>by simp at h,by simp,.nil⟩
 simp[Value.cells] at eR
 obtain⟨rfl,rfl,rfl⟩:=eR
 simp only[if_true] at hz
 obtain⟨b,off,spot⟩:=a
 have aeq:spot=none:=by
  simp only[Value.okWide,Tryz.underlying22,Cell.okWide,Cell.ok] at bg;exact bg.2.2.2.1
 subst aeq
 unfold maxLen at hm
 refine⟨zs.take len,fun x h=>?_,?_,?_⟩
 .have h1:=hwz x (AY h)
  simp[Lit.wf,IntKind.min,IntKind.max,IntKind.signed,IntKind.bits] at h1
  omega
 .rw[length_take];omega
 refine .sl ⟨b,off,none⟩ len cap 1 (ints (zs.take len)) (fun i _=> .int .i64 (zs.getD i 0)) ?_ hl ?_ rfl (fun _ h=>h) (fun h=>?_) (fun i j x y hx hy=>?_) (fun i j x y hx hy=>?_)
 .rw[cu,length_take];omega
 .intro x hx
  simp only[ints,mem_map] at hx
  obtain⟨n,_,rfl⟩:=hx
  rfl
 .exact EA (hcell 0 (by omega))
 .have hi:i<(ints (zs.take len)).length:=(List.getElem?_eq_some_iff.1 hx).1
  rw[cu,length_take] at hi
  have US:x=[Go.AM.FV.lit (.int .i64 ((zs.take len).getD i 0))]:=by
   have:=hx;simp only[ints,List.getElem?_map] at this;rw[qb (by rw[length_take];omega)] at this;simp at this;rw[<-this];simp[show i<len by omega,show i<zs.length by omega]
  subst US
  have hj:j=0:=by
   have:=(List.getElem?_eq_some_iff.1 hy).1;simp at this;exact this
  subst hj
  have h7:=hcell i (by omega)
  have h8:(⟨b,off,none⟩:Addr).add i=⟨b,off+(i*1+0),none⟩:=by
   unfold Addr.add;split
   .rename_i h9;subst h9;simp
   simp
  rw[h8] at h7
  exact h7
 have hi:i<(ints (zs.take len)).length:=(List.getElem?_eq_some_iff.1 hx).1
 rw[cu,length_take] at hi
 have US:x=[Go.AM.FV.lit (.int .i64 (zs.getD i 0))]:=by
  have:=hx;simp only[ints,List.getElem?_map] at this;rw[qb (by rw[length_take];omega)] at this;simp at this;rw[<-this];simp[show i<zs.length by omega]
 subst US
 have hj:j=0:=by
  have:=(List.getElem?_eq_some_iff.1 hy).1;simp at this;exact this
 subst hj
 simp at hy
 subst hy
 exact .lit _ rfl
theorem S2 {k:FuncId} {l:List Int} {W:World} {v0:Value} (hr:Go.AM.FRd W (fun _=>False) v0 (.sl (ints l))) (hd:Go.AM.Den Tryz.prog k [] [.fv (.sl (ints l))] [] (.bool true)):
 Calls Tryz.prog k #[v0] W fun e W'=>e= .returned (.bool true)/\Below W.heap.size W W':=by
 refine(hd.2 ⟨W,fun _=>False,fun _=>False,[],fun _ h=>h.elim⟩ (fun _=>False) [] #[v0] ⟨rfl,fun id p o h _=>by simp at h,fun i j p q o r g h _=>by simp at h,fun id p o g h _=>by simp at h,fun b h=>h.elim,fun b h=>h.elim,qp _,Go.AM.Places.Le.refl _⟩ (fun b h=>h.elim) ⟨rfl,fun i v x hv hx=>?_⟩).mono fun e W' ⟨v,X',ρ',he,hk,hh,hp,_,_⟩=>?_
 .cases i with
  | zero=>simp at hv hx;subst hv;subst hx;exact .fv _ _ hr
  | succ i=>simp at hv
 subst he
 have hv:v= .bool true:=by
  cases hp with
  | fv _ _ h=>cases h with
   | lit=>rfl
 subst hv
 exact⟨rfl,hk.os,hk.tape,hk.output,hk.size,fun k h=>hk.block k h (fun h=>h)⟩
end Go.Proofs.YtjjbkjgifdhlcaaGreat
namespace Go.Pl
open Go.AM
def D2 (T:List Raw) (i:Nat) (rest:List Raw):List Raw:=T.take i++rest.drop i
theorem xp {T rest:List Raw} (i:Nat) (h:T.length=rest.length):(D2 T i rest).length=rest.length:=by
 unfold D2;rw[qe,length_take,qt];omega
theorem EB (T rest:List Raw):D2 T 0 rest=rest:=by simp[D2]
theorem J2 {T rest:List Raw} {n:Nat} (h:T.length=n) (h2:rest.length=n):D2 T n rest=T:=by
 subst h;unfold D2;rw[List.take_length,List.drop_of_length_le (by omega),append_nil]
theorem O4 {T rest:List Raw} {i j:Nat} (h:T.length=rest.length) (hj:j<rest.length) (hi:i<=j):(D2 T i rest).getD j rz=rest.getD j rz:=by
 unfold D2;rw[qa,qh (by rw[length_take];omega),List.getElem?_drop,qa];congr 2;rw[length_take];omega
theorem J3 {T rest:List Raw} {i:Nat} (h:T.length=rest.length) (hi:i<rest.length):(D2 T i rest).set i (T.getD i rz)=D2 T (i+1) rest:=by
 unfold D2;rw[List.set_append_right _ _ (by rw[length_take];omega)];have e:i - (T.take i).length=0:=by rw[length_take];omega
 have hT:i<T.length:=by omega
 have h3:T.take (i+1)=T.take i++[T[i]]:=List.take_succ_eq_append_getElem hT;rw[e,drop_eq_getElem_cons hi,set_cons_zero,h3];have h4:T.getD i rz=T[i]:=by rw[qa,qb hT];rfl
 rw[h4,qlb];rfl
def nh (a b:List Raw):List Rat:=List.zipWith (fun r s=>r.q+s.q) a b
theorem fY {a b:List Raw} {n:Nat} (ha:a.length=n) (hb:b.length=n):(nh a b).length=n:=by simp[nh,ha,hb]
theorem p5 {a b:List Raw} {i:Nat} (ha:i<a.length) (hb:i<b.length):((nh a b).map cn).getD i rz=cn ((a.getD i rz).q+(b.getD i rz).q):=by
 simp[nh,qa,List.getElem?_zipWith,ha,hb]
theorem CH {a b:List Raw} {j k:Nat} (ha: ∀ r∈a,Bd j r.q) (hb: ∀ r∈b,Bd k r.q) (hk:1<=j+k): ∀ x∈nh a b,Bd (j+k+1) x:=by
 intro x hx;unfold nh at hx;obtain⟨i,hi,rfl⟩:=List.getElem_of_mem hx;rw[List.getElem_zipWith];exact(ha _ (ki _)).add (hb _ (ki _)) hk
theorem LOk.of_map {k:Nat} {qs:List Rat} (hl:qs.length=9) (h: ∀ q∈qs,Bd k q):LOk k (qs.map cn):=
 ⟨by simp[hl],fun r hr=>by
  simp only[mem_map] at hr;obtain⟨q,hq,rfl⟩:=hr;exact bC (h q hq)⟩
theorem LOk.bd {k:Nat} {rs:List Raw} (h:LOk k rs) (hk:1<=k): ∀ r∈rs,Bd k r.q:=fun r hr=>(h.ok r hr).bd hk
def bV:List Raw->List Raw->Int
 | r::a,s::b=>if gA (r.q - s.q)=0 then bV a b else gA (r.q - s.q)
 | _,_=>0
theorem Bf {a:List Raw} {i:Nat} (h:i<a.length):a.drop i=a.getD i rz::a.drop (i+1):=by
 rw[drop_eq_getElem_cons h,qa,qb h];rfl
theorem Bg {a b:List Raw} {i:Nat} (ha:i<a.length) (hb:i<b.length):bV (a.drop i) (b.drop i)=
 if gA ((a.getD i rz).q - (b.getD i rz).q)=0 then bV (a.drop (i+1)) (b.drop (i+1)) else gA ((a.getD i rz).q - (b.getD i rz).q):=by
 rw[Bf ha,Bf hb];rfl
theorem LY {a b:List Raw} {i:Nat} (ha:i+1=a.length) (hb:i+1=b.length):bV (a.drop i) (b.drop i)=gA ((a.getD i rz).q - (b.getD i rz).q):=by
 rw[Bg (by omega) (by omega),List.drop_of_length_le (i:=i+1) (by omega)];split
 .rename_i h;rw[h];rfl
 rfl
theorem eV {q:Rat}:q.num<0↔q<0:=by
 have h:=Rat.num_nonneg (q:=q);have h2:=@Rat.not_le 0 q;constructor
 .intro h3;exact h2.1 (fun h4=>by have:=h.2 h4;omega)
 intro h3;have h4:=h2.2 h3;have h5: ¬(0<=q.num):=fun h6=>h4 (h.1 h6)
 omega
theorem uC {x y:Rat}:gA (x - y)<0↔x<y:=by
 unfold gA;rw[Int.sign_neg_iff,eV];constructor<;>intro h<;>grind
theorem O5 {x y:Rat}:0<gA (x - y)↔y<x:=by
 have h1:gA (x - y)<0↔x<y:=uC;have h2:gA (x - y)=0↔x=y:=by
  rw[bh];constructor<;>intro h<;>grind
 constructor
 .intro h;have h3: ¬x<y:=fun h4=>by have:=h1.2 h4;omega
  have h4:x≠y:=fun h5=>by have:=h2.2 h5;omega
  grind
 intro h;have h3: ¬gA (x - y)<0:=fun h4=>by have:=h1.1 h4;grind
 have h4:gA (x - y)≠0:=fun h5=>by have:=h2.1 h5;grind
 omega
theorem uD {x y:Rat}:gA (x - y)=0↔x=y:=by
 rw[bh];constructor<;>intro h<;>grind
theorem j9 (q:Rat):gA q= -1\/gA q=0\/gA q=1:=by
 unfold gA;rcases Int.lt_trichotomy q.num 0 with h | h | h
 .exact Or.inl (Int.sign_eq_neg_one_of_neg h)
 .exact Or.inr (Or.inl (by rw[h];rfl))
 exact Or.inr (Or.inr (Int.sign_eq_one_of_pos h))
theorem O6 (x y:Rat):gA (x - y)= -gA (y - x):=by
 have h1:=j9 (x - y);have h2:=j9 (y - x);have h3:=uC (x:=x) (y:=y);have h4:=O5 (x:=y) (y:=x);have h5:=uD (x:=x) (y:=y);have h6:=uD (x:=y) (y:=x);by_cases h:x=y
 .rw[h5.2 h,h6.2 h.symm];rfl
 have h7:=fun h9=>h (h5.1 h9)
 have h8:=fun h9=>h (h6.1 h9).symm
 by_cases hl:x<y
 .have:=h3.2 hl;have:=h4.2 hl;omega
 have g1: ¬gA (x - y)<0:=fun h9=>hl (h3.1 h9)
 have g2: ¬0<gA (y - x):=fun h9=>hl (h4.1 h9)
 have g3: ¬gA (x - y)=0:=h7;have g4: ¬gA (y - x)=0:=h8;omega
theorem HJ: ∀ a b:List Raw,bV a b= -1\/bV a b=0\/bV a b=1
 | r::a,s::b=>by
  unfold bV;split
  .exact HJ a b
  .exact j9 _
 | [],_=>Or.inr (Or.inl (by simp[bV]))
 | _::_,[]=>Or.inr (Or.inl (by simp[bV]))
theorem dM: ∀ a b:List Raw,bV a b= -bV b a
 | r::a,s::b=>by
  unfold bV;rw[O6 r.q s.q,dM a b];by_cases h:gA (s.q - r.q)=0
  .rw[if_pos h,if_pos (by omega)]
  .rw[if_neg h,if_neg (by omega)]
 | [],b=>by cases b<;>simp[bV]
 | _::_,[]=>by simp[bV]
theorem ni: ∀ a b c:List Raw,a.length=b.length->b.length=c.length->bV a b<=0->bV b c<=0->bV a c<=0
 | r::a,s::b,t::c,h1,h2,h3,h4=>by
  have h1':a.length=b.length:=by simpa using h1
  have h2':b.length=c.length:=by simpa using h2
  unfold bV at h3 h4 ⊢;have e1:=uD (x:=r.q) (y:=s.q);have e2:=uD (x:=s.q) (y:=t.q);have e3:=uD (x:=r.q) (y:=t.q);have l1:=uC (x:=r.q) (y:=s.q);have l2:=uC (x:=s.q) (y:=t.q);have l3:=uC (x:=r.q) (y:=t.q);by_cases a1:gA (r.q - s.q)=0
  .rw[if_pos a1] at h3;have q1:=e1.1 a1;by_cases a2:gA (s.q - t.q)=0
   .rw[if_pos a2] at h4;rw[if_pos (e3.2 (q1.trans (e2.1 a2)))];exact ni a b c h1' h2' h3 h4
   rw[if_neg a2] at h4;rw[if_neg (fun h=>a2 (by rw[<-q1];exact h)),q1];exact h4
  .rw[if_neg a1] at h3;have q1:=l1.1 (by omega);by_cases a2:gA (s.q - t.q)=0
   .have q2:=e2.1 a2;rw[<-q2,if_neg a1];exact h3
   .rw[if_neg a2] at h4;have q2:=l2.1 (by omega);have q3:=l3.2 (by grind);rw[if_neg (by omega)];omega
 | [],_,c,_,_,_,_=>by cases c<;>simp[bV]
 | _::_,_,[],_,_,_,_=>by simp[bV]
 | _::_,[],_::_,h,_,_,_=>by simp at h
theorem Bh: ∀ a c:List Raw,a.length=c.length->(bV a c=0↔a.map Raw.q=c.map Raw.q)
 | r::a,t::c,h=>by
  have h':a.length=c.length:=by simpa using h
  unfold bV;have e3:=uD (x:=r.q) (y:=t.q);have ih:=Bh a c h';by_cases a1:gA (r.q - t.q)=0
  .rw[if_pos a1,ih];simp only[map_cons,List.cons.injEq];exact⟨fun h=>⟨e3.1 a1,h⟩,fun h=>h.2⟩
  .rw[if_neg a1];simp only[map_cons,List.cons.injEq];exact⟨fun h=>absurd h a1,fun h=>absurd (e3.2 h.1) a1⟩
 | [],[],_=>by simp[bV]
 | [],_::_,h=>by simp at h
 | _::_,[],h=>by simp at h
def cQ (a:List Raw):Bool:=(a.take 8).all (fun r=>decide (r.q=0))
end Go.Pl
namespace Go.Pl
abbrev Mn:=List Int
abbrev Tm:=List Int×Rat
def bP (m:Mn):List Tm->Rat
 | []=>0
 | t::ts=>(if t.1=m then t.2 else 0)+bP m ts
theorem fZ (m:Mn): ∀ a b:List Tm,bP m (a++b)=bP m a+bP m b
 | [],b=>by simp only[nil_append,bP];grind
 | t::a,b=>by simp only[List.cons_append,bP,fZ m a b];grind
theorem LZ {m:Mn} {a b:List Tm} (h:a.Perm b):bP m a=bP m b:=by
 induction h with
 | nil=>rfl
 | cons x _ ih=>simp only[bP,ih]
 | swap x y l=>simp only[bP];grind
 | trans _ _ h1 h2=>exact h1.trans h2
theorem uE {m:Mn}: ∀ {a:List Tm},(∀ t∈a,t.1≠m)->bP m a=0
 | [],_=>rfl
 | t::a,h=>by
  simp only[bP,if_neg (h t (by simp)),uE (fun t ht=>h t (mem_cons_of_mem _ ht))];grind
theorem kU {m:Mn}: ∀ {a:List Tm},bP m (a.filter (fun t=>decide (t.2≠0)))=bP m a
 | []=>rfl
 | t::a=>by
  by_cases h:t.2=0
  .rw[filter_cons_of_neg (by simp[h]),bP,kU,h];split<;>grind
  rw[List.filter_cons_of_pos (by simp[h]),bP,bP,kU]
def g5:Mn->Mn->Bool
 | x::a,y::b=>if x=y then g5 a b else decide (x>y)
 | _,_=>false
theorem CI: ∀ a:Mn,g5 a a=false
 | []=>rfl
 | x::a=>by simp[g5,CI a]
theorem iX: ∀ {a b c:Mn},g5 a b=true->g5 b c=true->g5 a c=true
 | x::a,y::b,z::c,h1,h2=>by
  unfold g5 at h1 h2 ⊢;by_cases e1:x=y
  .rw[if_pos e1] at h1;by_cases e2:y=z
   .rw[if_pos e2] at h2;rw[if_pos (e1.trans e2)];exact iX h1 h2
   rw[if_neg e2] at h2;rw[if_neg (fun h=>e2 (e1.symm.trans h)),e1];exact h2
  .rw[if_neg e1] at h1;by_cases e2:y=z
   .rw[<-e2,if_neg e1];exact h1
   .rw[if_neg e2] at h2;have h3:=of_decide_eq_true h1;have h4:=of_decide_eq_true h2;rw[if_neg (by omega)];exact ir (by omega)
 | [],_,_,h1,_=>by simp[g5] at h1
 | _::_,[],_,h1,_=>by simp[g5] at h1
 | _::_,_::_,[],_,h2=>by simp[g5] at h2
theorem L0 {a b:Mn} (h:g5 a b=true):g5 b a=false:=by
 cases h2:g5 b a with
 | false=>rfl
 | true=>
  have:=iX h h2;rw[CI] at this;cases this
theorem uF {a b:Mn} (h:g5 a b=true):a≠b:=fun he=>by
 rw[he,CI] at h;cases h
theorem uG: ∀ {a b:Mn},a.length=b.length->a≠b->g5 a b=true\/g5 b a=true
 | [],[],_,h=>absurd rfl h
 | x::a,y::b,hl,h=>by
  unfold g5;by_cases e:x=y
  .subst e;rw[if_pos rfl,if_pos rfl];exact uG (by simpa using hl) (fun he=>h (by rw[he]))
  .rw[if_neg e,if_neg (fun h=>e h.symm)];rcases Int.lt_trichotomy x y with h1 | h1 | h1
   .exact .inr (ir h1)
   .exact absurd h1 e
   .exact .inl (ir h1)
 | [],_::_,h,_=>by simp at h
 | _::_,[],h,_=>by simp at h
theorem CJ {a b:Mn} (hl:a.length=b.length) (h:g5 a b=false):a=b\/g5 b a=true:=by
 by_cases e:a=b
 .exact .inl e
 rcases uG hl e with h1 | h1
 .rw[h] at h1;cases h1
 exact .inr h1
structure Canon (p:List Tm):Prop where
 sorted:p.Pairwise (fun a b=>g5 a.1 b.1=true)
 nz: ∀ t∈p,t.2≠0
 len: ∀ t∈p,t.1.length=8
theorem Canon.nil:Canon []:=⟨.nil,by simp,by simp⟩
theorem Canon.tail {t:Tm} {p:List Tm} (h:Canon (t::p)):Canon p:=
 ⟨(pairwise_cons.1 h.sorted).2,fun u hu=>h.nz u (mem_cons_of_mem _ hu),fun u hu=>h.len u (mem_cons_of_mem _ hu)⟩
theorem Canon.head {t:Tm} {p:List Tm} (h:Canon (t::p)): ∀ u∈p,g5 t.1 u.1=true:=(pairwise_cons.1 h.sorted).1
theorem Canon.sum_head {t:Tm} {p:List Tm} (h:Canon (t::p)):bP t.1 (t::p)=t.2:=by
 rw[bP,if_pos rfl,uE (fun u hu he=>uF (h.head u hu) he.symm)];grind
theorem Canon.sum_up {m:Mn} {t:Tm} {p:List Tm} (h:Canon (t::p)) (hm:g5 m t.1=true):bP m (t::p)=0:=
 uE (fun u hu he=>by
  rcases List.mem_cons.1 hu with h1 | h1
  .exact uF hm (by rw[<-he,h1])
  exact uF (iX hm (h.head u h1)) he.symm)
theorem ku: ∀ {p q:List Tm},Canon p->Canon q->(∀ m,bP m p=bP m q)->p=q
 | [],[],_,_,_=>rfl
 | [],y::q,_,hq,h=>absurd ((hq.sum_head.symm.trans (h y.1).symm)) (hq.nz y (by simp))
 | x::p,[],hp,_,h=>absurd ((hp.sum_head.symm.trans (h x.1))) (hp.nz x (by simp))
 | x::p,y::q,hp,hq,h=>by
  have h1:x.1=y.1:=by
   by_cases e:x.1=y.1
   .exact e
   rcases uG ((hp.len x (by simp)).trans (hq.len y (by simp)).symm) e with h2 | h2
   .have:=h x.1;rw[hp.sum_head,hq.sum_up h2] at this;exact absurd this (hp.nz x (by simp))
   have:=h y.1;rw[hq.sum_head,hp.sum_up h2] at this;exact absurd this.symm (hq.nz y (by simp))
  have h2:x.2=y.2:=by
   have:=h x.1;rw[hp.sum_head,h1,hq.sum_head] at this;exact this
  have Hj:x=y:=Prod.ext h1 h2;subst Hj;rw[ku hp.tail hq.tail (fun m=>by
   have:=h m;simp only[bP] at this;grind)]
def insT:List Tm->Tm->List Tm
 | [],t=>if t.2=0 then [] else [t]
 | x::p,t=>if g5 x.1 t.1=true then x::insT p t else if x.1=t.1 then(if t.2+x.2=0 then p else(t.1,t.2+x.2)::p) else if t.2=0 then x::p else t::x::p
theorem EC (m:Mn): ∀ (p:List Tm) (t:Tm),bP m (insT p t)=bP m p+(if t.1=m then t.2 else 0)
 | [],t=>by
  unfold insT;split
  .rename_i h;simp only[bP,h];split<;>grind
  .simp only[bP];grind
 | x::p,t=>by
  unfold insT;split
  .simp only[bP,EC m p t];grind
  split
  .rename_i h;split
   .simp only[bP,h];split<;>grind
   simp only[bP,h];split<;>grind
  split
  .rename_i h;simp only[bP,h];grind
  simp only[bP];grind
theorem ED {p:List Tm} {t u:Tm} (h:u∈insT p t):u∈p\/u.1=t.1:=by
 induction p with
 | nil=>
  unfold insT at h;split at h
  .simp at h
  .simp at h;exact .inr (by rw[h])
 | cons x p ih=>
  unfold insT at h;split at h
  .rcases List.mem_cons.1 h with h | h
   .exact .inl (by rw[h];simp)
   rcases ih h with h | h
   .exact .inl (mem_cons_of_mem _ h)
   exact .inr h
  split at h
  .split at h
   .exact .inl (mem_cons_of_mem _ h)
   rcases List.mem_cons.1 h with h | h
   .exact .inr (by rw[h])
   exact .inl (mem_cons_of_mem _ h)
  split at h
  .exact .inl h
  rcases List.mem_cons.1 h with h | h
  .exact .inr (by rw[h])
  exact .inl h
theorem xq: ∀ {p:List Tm} {t:Tm},Canon p->t.1.length=8->Canon (insT p t)
 | [],t,_,ht=>by
  unfold insT;split
  .exact Canon.nil
  .rename_i h;exact⟨List.pairwise_singleton _ _,by simpa using h,by simpa using ht⟩
 | x::p,t,hp,ht=>by
  have ih:=xq hp.tail ht;have hd:=hp.head;unfold insT;split
  .rename_i h;refine⟨pairwise_cons.2 ⟨fun u hu=>?_,ih.sorted⟩,?_,?_⟩
   .rcases ED hu with h1 | h1
    .exact hd u h1
    rw[h1];exact h
   .intro u hu;rcases List.mem_cons.1 hu with h1 | h1
    .exact hp.nz u (by rw[h1];simp)
    exact ih.nz u h1
   intro u hu;rcases List.mem_cons.1 hu with h1 | h1
   .exact hp.len u (by rw[h1];simp)
   exact ih.len u h1
  rename_i hn;split
  .rename_i he;split
   .exact hp.tail
   rename_i hz;refine⟨pairwise_cons.2 ⟨fun u hu=>?_,hp.tail.sorted⟩,?_,?_⟩
   .rw[<-he];exact hd u hu
   .intro u hu;rcases List.mem_cons.1 hu with h1 | h1
    .rw[h1];exact hz
    exact hp.tail.nz u h1
   intro u hu;rcases List.mem_cons.1 hu with h1 | h1
   .rw[h1];exact ht
   exact hp.tail.len u h1
  rename_i he;split
  .exact hp
  rename_i hz;have hg:g5 t.1 x.1=true:=by
   rcases CJ ((hp.len x (by simp)).trans ht.symm) (by simpa using hn) with h1 | h1
   .exact absurd h1 he
   exact h1
  refine⟨pairwise_cons.2 ⟨fun u hu=>?_,hp.sorted⟩,?_,?_⟩
  .rcases List.mem_cons.1 hu with h1 | h1
   .rw[h1];exact hg
   exact iX hg (hd u h1)
  .intro u hu;rcases List.mem_cons.1 hu with h1 | h1
   .rw[h1];exact hz
   exact hp.nz u h1
  intro u hu;rcases List.mem_cons.1 hu with h1 | h1
  .rw[h1];exact ht
  exact hp.len u h1
def nf (ts:List Tm):List Tm:=ts.foldl insT []
def addT (p ts:List Tm):List Tm:=ts.foldl insT p
theorem xr (m:Mn): ∀ (ts p:List Tm),bP m (addT p ts)=bP m p+bP m ts
 | [],p=>by simp only[addT,List.foldl_nil,bP];grind
 | t::ts,p=>by
  have:=xr m ts (insT p t);unfold addT at this ⊢;rw[foldl_cons,this,EC];simp only[bP];grind
def Len8 (ts:List Tm):Prop:= ∀ t∈ts,t.1.length=8
theorem nj: ∀ {ts p:List Tm},Canon p->Len8 ts->Canon (addT p ts)
 | [],p,h,_=>h
 | t::ts,p,h,hl=>nj (ts:=ts) (p:=insT p t) (xq h (hl t (by simp))) (fun u hu=>hl u (mem_cons_of_mem _ hu))
theorem L4 (p ts:List Tm) (t:Tm):addT p (ts++[t])=insT (addT p ts) t:=by simp[addT,List.foldl_append]
theorem rN (m:Mn) (ts:List Tm):bP m (nf ts)=bP m ts:=by
 have:=xr m ts [];rw[bP] at this;unfold nf;unfold addT at this;rw[this];grind
theorem cS {ts:List Tm} (h:Len8 ts):Canon (nf ts):=nj Canon.nil h
theorem J4 {p ts:List Tm} (hp:Canon p) (hl:Len8 ts) (h: ∀ m,bP m p=bP m ts):p=nf ts:=
 ku hp (cS hl) (fun m=>(h m).trans (rN m ts).symm)
theorem EE {a b:List Tm} (ha:Len8 a) (hb:Len8 b) (h: ∀ m,bP m a=bP m b):nf a=nf b:=
 J4 (cS ha) hb (fun m=>(rN m a).trans (h m))
theorem e_ {p:List Tm} (hp:Canon p):nf p=p:=(J4 hp hp.len (fun _=>rfl)).symm
theorem J5 {p ts:List Tm} (hp:Canon p) (hl:Len8 ts):addT p ts=nf (p++ts):=
 J4 (nj hp hl) (fun t ht=>by rcases List.mem_append.1 ht with h | h;exact hp.len t h;exact hl t h) (fun m=>by rw[xr,fZ])
theorem J6: ∀ {p:List Tm} {t:Tm} {k:Nat},(∀ i (h:i<p.length),i<k->g5 (p[i]'h).1 t.1=true)->k<=p.length->insT p t=p.take k++insT (p.drop k) t
 | p,t,0,_,_=>by simp
 | [],t,k+1,_,hk=>by simp at hk
 | x::p,t,k+1,h,hk=>by
  have h0:=h 0 (by simp) (by omega);rw[List.getElem_cons_zero] at h0;have ih:=J6 (p:=p) (t:=t) (k:=k) (fun i hi Za=>h (i+1) (by simpa using hi) (by omega)) (by simpa using hk);rw[take_succ_cons,List.drop_succ_cons,List.cons_append,<-ih];rw[insT,if_pos h0]
def accAdd:List Tm->Mn->Rat->List Tm
 | [],m,q=>[(m,q)]
 | t::ts,m,q=>if t.1=m then(m,t.2+q)::ts else t::accAdd ts m q
def nk (a:List Tm) (m:Mn):Option Rat:=(a.find? (fun t=>decide (t.1=m))).map (·.2)
def accL (ts:List Tm):List Tm:=ts.foldl (fun a t=>accAdd a t.1 t.2) []
theorem Bj (ts:List Tm) (t:Tm):accL (ts++[t])=accAdd (accL ts) t.1 t.2:=by simp[accL,List.foldl_append]
theorem xt (n:Mn): ∀ (a:List Tm) (m:Mn) (q:Rat),bP n (accAdd a m q)=bP n a+(if m=n then q else 0)
 | [],m,q=>by simp only[accAdd,bP];grind
 | t::ts,m,q=>by
  unfold accAdd;split
  .rename_i h;simp only[bP,h];split<;>grind
  simp only[bP,xt n ts m q];grind
theorem EF (n:Mn) (ts:List Tm):bP n (accL ts)=bP n ts:=by
 have key: ∀ (ts a:List Tm),bP n (ts.foldl (fun a t=>accAdd a t.1 t.2) a)=bP n a+bP n ts:=by
  intro ts
  induction ts with
  | nil=>intro a;simp only[List.foldl_nil,bP];grind
  | cons t ts ih=>
   intro a;rw[foldl_cons,ih,xt];simp only[bP];grind
 unfold accL;rw[key,bP];grind
theorem kV (a:List Tm) (m:Mn) (q:Rat):(accAdd a m q).map (·.1)=if m∈a.map (·.1) then a.map (·.1) else a.map (·.1)++[m]:=by
 induction a with
 | nil=>simp[accAdd]
 | cons t ts ih=>
  unfold accAdd;split
  .rename_i h;simp[h]
  rename_i h;rw[map_cons,ih,map_cons];by_cases h2:m∈ts.map (·.1)
  .rw[if_pos h2,if_pos (mem_cons_of_mem _ h2)]
  rw[if_neg h2,if_neg (by
   intro h3;rcases List.mem_cons.1 h3 with h3 | h3
   .exact h h3.symm
   exact h2 h3)]
  rfl
theorem rO (ts:List Tm):((accL ts).map (·.1)).Nodup:=by
 have key: ∀ (ts a:List Tm),(a.map (·.1)).Nodup->((ts.foldl (fun a t=>accAdd a t.1 t.2) a).map (·.1)).Nodup:=by
  intro ts
  induction ts with
  | nil=>intro a h;exact h
  | cons t ts ih=>
   intro a h;refine ih _ ?_;rw[kV];split
   .exact h
   rename_i hm;rw[nodup_append];refine⟨h,by simp,?_⟩;intro x hx y hy he;simp at hy;subst hy;exact hm (he ▸ hx)
 exact key ts [] (by simp)
theorem xu {ts:List Tm} {m:Mn} (h:m∈(accL ts).map (·.1)):m∈ts.map (·.1):=by
 have key: ∀ (ts a:List Tm),m∈(ts.foldl (fun a t=>accAdd a t.1 t.2) a).map (·.1)->m∈a.map (·.1)\/m∈ts.map (·.1):=by
  intro ts
  induction ts with
  | nil=>intro a h;exact .inl h
  | cons t ts ih=>
   intro a h;rw[foldl_cons] at h;rcases ih _ h with h | h
   .rw[kV] at h;split at h
    .exact .inl h
    rcases List.mem_append.1 h with h | h
    .exact .inl h
    simp at h;exact .inr (by simp[h])
   exact .inr (by simp at h ⊢;exact .inr h)
 rcases key ts [] h with h | h
 .simp at h
 exact h
theorem EG (ts:List Tm):(accL ts).length<=ts.length:=by
 have key: ∀ (ts a:List Tm),(ts.foldl (fun a t=>accAdd a t.1 t.2) a).length<=a.length+ts.length:=by
  intro ts
  induction ts with
  | nil=>intro a;simp
  | cons t ts ih=>
   intro a;rw[foldl_cons];have h:=ih (accAdd a t.1 t.2);have h2:(accAdd a t.1 t.2).length<=a.length+1:=by
    have:=congrArg List.length (kV a t.1 t.2);rw[length_map] at this;rw[this];split<;>simp
   rw[length_cons];omega
 have:=key ts [];simpa [accL] using this
theorem sU: ∀ {p:List Tm},p.Pairwise (fun a b=>g5 b.1 a.1=false)->(p.map (·.1)).Nodup->(∀ t∈p,t.1.length=8)->p.Pairwise (fun a b=>g5 a.1 b.1=true)
 | [],_,_,_=> .nil
 | t::p,h,hn,hl=>by
  rw[pairwise_cons] at h ⊢;rw[map_cons,List.nodup_cons] at hn;refine⟨fun u hu=>?_,sU h.2 hn.2 (fun u hu=>hl u (mem_cons_of_mem _ hu))⟩;have h1:=h.1 u hu;rcases CJ ((hl u (mem_cons_of_mem _ hu)).trans (hl t (by simp)).symm) h1 with h2 | h2
  .exact absurd (mem_map.2 ⟨u,hu,h2⟩) hn.1
  exact h2
theorem J7 {ts p:List Tm} (hl:Len8 ts) (hp:p.Perm ((accL ts).filter (fun t=>decide (t.2≠0)))) (hs:p.Pairwise (fun a b=>g5 b.1 a.1=false)):p=nf ts:=by
 have bm: ∀ t∈p,t∈accL ts/\t.2≠0:=fun t ht=>by
  have:=hp.mem_iff.1 ht;rw[mem_filter] at this;exact⟨this.1,by simpa using this.2⟩
 have aD: ∀ t∈p,t.1.length=8:=fun t ht=>by
  have:=xu (mem_map.2 ⟨t,(bm t ht).1,rfl⟩);obtain⟨u,hu,he⟩:=mem_map.1 this;rw[<-he];exact hl u hu
 have mb:(p.map (·.1)).Nodup:=by
  have h1:(p.map (·.1)).Perm (((accL ts).filter (fun t=>decide (t.2≠0))).map (·.1)):=hp.map _;rw[h1.nodup_iff];exact List.Nodup.sublist ((filter_sublist).map _) (rO ts)
 refine J4 ⟨sU hs mb aD,fun t ht=>(bm t ht).2,aD⟩ hl (fun m=>?_);rw[LZ hp,kU,EF]
def DM (D:Nat):List Tm->Nat->Prop
 | [],_=>True
 | t::ts,M=> ∃ z:Int,∃ N:Nat,t.2=mkRat z D/\z.natAbs+N<=M/\DM D ts N
theorem DM.mono {D:Nat}: ∀ {ts:List Tm} {M N:Nat},DM D ts M->M<=N->DM D ts N
 | [],_,_,_,_=>trivial
 | t::ts,M,N,⟨z,K,h1,h2,h3⟩,h=>⟨z,K,h1,by omega,h3⟩
theorem DM.append {D:Nat}: ∀ {a b:List Tm} {M N:Nat},DM D a M->DM D b N->DM D (a++b) (M+N)
 | [],b,M,N,_,h=>h.mono (by omega)
 | t::a,b,M,N,⟨z,K,h1,h2,h3⟩,h=>⟨z,K+N,h1,by omega,h3.append h⟩
theorem DM.tail {D:Nat} {t:Tm} {ts:List Tm} {M:Nat} (h:DM D (t::ts) M):DM D ts M:=by
 obtain⟨z,N,h1,h2,h3⟩:=h;exact h3.mono (by omega)
theorem DM.mem {D:Nat}: ∀ {ts:List Tm} {M:Nat} {t:Tm},DM D ts M->t∈ts-> ∃ z:Int,t.2=mkRat z D/\z.natAbs<=M
 | u::ts,M,t,⟨z,K,h1,h2,h3⟩,ht=>by
  rcases List.mem_cons.1 ht with rfl | ht
  .exact⟨z,h1,by omega⟩
  .obtain⟨y,h4,h5⟩:=h3.mem ht;exact⟨y,h4,by omega⟩
 | [],_,_,_,ht=>by simp at ht
theorem DM.one {D:Nat} {t:Tm} {z:Int} (h:t.2=mkRat z D):DM D [t] z.natAbs:=⟨z,0,h,by omega,cW⟩
theorem rP {z:Int} {D E:Nat} (hE:E≠0):mkRat z D=mkRat (z*E) (D*E):=by
 rw[Rat.mkRat_mul_right hE]
theorem DM.lift {D E:Nat} (hE:E≠0): ∀ {ts:List Tm} {M:Nat},DM D ts M->DM (D*E) ts (M*E)
 | [],_,_=>trivial
 | t::ts,M,⟨z,K,h1,h2,h3⟩=>⟨z*E,K*E,by rw[h1,rP hE],by
  rw[Int.natAbs_mul,Int.natAbs_natCast,<-Nat.add_mul];exact qn _ h2,h3.lift hE⟩
theorem EH {z:Int} {D k:Nat} (hk:1<=k) (hz:z.natAbs<B^k) (hD:D<B^k):Bd k (mkRat z D):=by
 have:mkRat z D=gY (decide (z<0)) z.natAbs D:=by
  unfold gY sg;congr 1;by_cases h:z<0
  .simp only[h,decide_true,if_true];omega
  simp only[h,decide_false];simp;omega
 rw[this];exact Bd.mk hk hz hD
theorem DM.bd {D M k:Nat} {ts:List Tm} (h:DM D ts M) (hk:1<=k) (hD:D<B^k) (hM:M<B^k): ∀ t∈ts,Bd k t.2:=fun t ht=>by
 obtain⟨z,h1,h2⟩:=h.mem ht;rw[h1];exact EH hk (by omega) hD
theorem uH {z w:Int} {D:Nat} (hD:D≠0):mkRat z D+mkRat w D=mkRat (z+w) D:=pV z w hD
theorem DM.insT {D:Nat} (hD:D≠0): ∀ {p:List Tm} {t:Tm} {M:Nat} {z:Int},DM D p M->t.2=mkRat z D->DM D (insT p t) (M+z.natAbs)
 | [],t,M,z,_,ht=>by
  unfold Go.Pl.insT;split
  .trivial
  .exact(DM.one ht).mono (by omega)
 | x::p,t,M,z,⟨y,K,h1,h2,h3⟩,ht=>by
  have ih:=DM.insT hD h3 ht;unfold Go.Pl.insT;split
  .exact⟨y,K+z.natAbs,h1,by omega,ih⟩
  split
  .split
   .exact h3.mono (by omega)
   refine⟨z+y,K,?_,by omega,h3⟩;show t.2+x.2=_;rw[ht,h1,uH hD]
  split
  .exact⟨y,K,h1,by omega,h3⟩
  exact⟨z,K+y.natAbs,ht,by omega,⟨y,K,h1,by omega,h3⟩⟩
theorem DM.addT {D:Nat} (hD:D≠0): ∀ {ts p:List Tm} {M N:Nat},DM D p M->DM D ts N->DM D (addT p ts) (M+N)
 | [],p,M,N,hp,_=>hp.mono (by omega)
 | t::ts,p,M,N,hp,⟨z,K,h1,h2,h3⟩=>by
  have:=DM.addT hD (DM.insT hD hp h1) h3;unfold Go.Pl.addT at this ⊢;rw[foldl_cons];exact this.mono (by omega)
theorem DM.nf {D:Nat} (hD:D≠0) {ts:List Tm} {M:Nat} (h:DM D ts M):DM D (nf ts) M:=(DM.addT hD (show DM D [] 0 from trivial) h).mono (by omega)
theorem DM.accAdd {D:Nat} (hD:D≠0): ∀ {a:List Tm} {m:Mn} {q:Rat} {M:Nat} {z:Int},DM D a M->q=mkRat z D->DM D (accAdd a m q) (M+z.natAbs)
 | [],m,q,M,z,_,hq=>(DM.one (t:=(m,q)) hq).mono (by omega)
 | t::ts,m,q,M,z,⟨y,K,h1,h2,h3⟩,hq=>by
  unfold Go.Pl.accAdd;split
  .refine⟨y+z,K,?_,by omega,h3⟩;show t.2+q=_;rw[hq,h1,uH hD]
  exact⟨y,K+z.natAbs,h1,by omega,DM.accAdd hD h3 hq⟩
theorem DM.accL {D:Nat} (hD:D≠0) {ts:List Tm} {M:Nat} (h:DM D ts M):DM D (accL ts) M:=by
 have key: ∀ (ts a:List Tm) (M N:Nat),DM D a M->DM D ts N->DM D (ts.foldl (fun a t=>Go.Pl.accAdd a t.1 t.2) a) (M+N):=by
  intro ts
  induction ts with
  | nil=>intro a M N ha _;exact ha.mono (by omega)
  | cons t ts ih=>
   rintro a M N ha ⟨z,K,h1,h2,h3⟩;rw[foldl_cons];exact(ih _ _ _ (DM.accAdd hD ha h1) h3).mono (by omega)
 exact(key ts [] 0 M trivial h).mono (by omega)
theorem DM.take {D:Nat}: ∀ {ts:List Tm} {M:Nat} (i:Nat),DM D ts M->DM D (ts.take i) M
 | [],_,_,_=>by simp[DM]
 | t::ts,M,0,_=>trivial
 | t::ts,M,i+1,⟨z,K,h1,h2,h3⟩=>⟨z,K,h1,h2,h3.take i⟩
def PB (k:Nat) (ts:List Tm):Prop:= ∃ D M,0<D/\D<B^k/\M<B^k/\DM D ts M
theorem PB.mono {j k:Nat} {ts:List Tm} (h:PB j ts) (hk:j<=k):PB k ts:=by
 obtain⟨D,M,h1,h2,h3,h4⟩:=h;exact⟨D,M,h1,Nat.lt_of_lt_of_le h2 (Nat.pow_le_pow_right (by decide) hk),Nat.lt_of_lt_of_le h3 (Nat.pow_le_pow_right (by decide) hk),h4⟩
theorem PB.bd {k:Nat} {ts:List Tm} (h:PB k ts) (hk:1<=k): ∀ t∈ts,Bd k t.2:=by
 obtain⟨D,M,h1,h2,h3,h4⟩:=h;exact h4.bd hk h2 h3
theorem PB.nf {k:Nat} {ts:List Tm} (h:PB k ts):PB k (nf ts):=by
 obtain⟨D,M,h1,h2,h3,h4⟩:=h;exact⟨D,M,h1,h2,h3,h4.nf (by omega)⟩
theorem PB.accL {k:Nat} {ts:List Tm} (h:PB k ts):PB k (accL ts):=by
 obtain⟨D,M,h1,h2,h3,h4⟩:=h;exact⟨D,M,h1,h2,h3,h4.accL (by omega)⟩
theorem PB.take {k:Nat} {ts:List Tm} (h:PB k ts) (i:Nat):PB k (ts.take i):=by
 obtain⟨D,M,h1,h2,h3,h4⟩:=h;exact⟨D,M,h1,h2,h3,h4.take i⟩
theorem PB.append {j k:Nat} {a b:List Tm} (ha:PB j a) (hb:PB k b):PB (j+k+1) (a++b):=by
 obtain⟨D,M,h1,h2,h3,h4⟩:=ha;obtain⟨E,N,g1,g2,g3,g4⟩:=hb;refine⟨D*E,M*E+N*D,Nat.mul_pos h1 g1,Nat.lt_of_lt_of_le (aL h2 g2) (Nat.pow_le_pow_right (by decide) (by omega)),?_,?_⟩
 .exact m9 (aL h3 g2) (by rw[Nat.add_comm j k];exact aL g3 h2)
 refine(h4.lift (by omega)).append ?_;rw[Nat.mul_comm D E];exact g4.lift (by omega)
theorem PB.nil {k:Nat} (hk:1<=k):PB k []:=⟨1,0,by decide,Nat.lt_of_lt_of_le (show 1<B^1 by decide) (Nat.pow_le_pow_right (by decide) hk),JI (by decide),cW⟩
theorem PB.one {k:Nat} {t:Tm} (h:Bd k t.2):PB k [t]:=
 ⟨t.2.den,t.2.num.natAbs,t.2.den_pos,h.2,h.1,DM.one (Rat.mkRat_self _).symm⟩
theorem PB.list {k:Nat} (hk:1<=k): ∀ {ts:List Tm},(∀ t∈ts,Bd k t.2)->PB (ts.length*(k+1)+1) ts
 | [],_=>(PB.nil (k:=1) (qp _)).mono (by simp)
 | t::ts,h=>by
  have h1:=PB.one (h t (by simp));have h2:=PB.list hk (fun u hu=>h u (mem_cons_of_mem _ hu));refine(h1.append h2).mono ?_;rw[length_cons,Nat.add_mul];omega
def vD (f:Mn->Rat):List Tm->Rat
 | []=>0
 | t::ts=>t.2*f t.1+vD f ts
theorem xv (f:Mn->Rat): ∀ a b:List Tm,vD f (a++b)=vD f a+vD f b
 | [],b=>by simp only[nil_append,vD];grind
 | t::a,b=>by simp only[List.cons_append,vD,xv f a b];grind
theorem EI (f:Mn->Rat): ∀ (p:List Tm) (t:Tm),vD f (insT p t)=vD f p+t.2*f t.1
 | [],t=>by
  unfold insT;split
  .rename_i h;simp only[vD,h];grind
  .simp only[vD];grind
 | u::p,t=>by
  unfold insT;split
  .simp only[vD,EI f p t];grind
  split
  .rename_i h;split
   .rename_i h2;simp only[vD,h];have:u.2= - t.2:=by grind
    rw[this];grind
   simp only[vD,h];grind
  split
  .rename_i h;simp only[vD,h];grind
  simp only[vD];grind
theorem EJ (f:Mn->Rat): ∀ (ts p:List Tm),vD f (addT p ts)=vD f p+vD f ts
 | [],p=>by simp only[addT,List.foldl_nil,vD];grind
 | t::ts,p=>by
  have:=EJ f ts (insT p t);unfold addT at this ⊢;rw[foldl_cons,this,EI];simp only[vD];grind
theorem O7 (f:Mn->Rat) (ts:List Tm):vD f (nf ts)=vD f ts:=by
 have:=EJ f ts [];rw[vD] at this;unfold nf;unfold addT at this;rw[this];grind
def Eqv (a b:List Tm):Prop:= ∀ m,bP m a=bP m b
theorem Eqv.refl (a:List Tm):Eqv a a:=fun _=>rfl
theorem Eqv.nf (a:List Tm):Eqv (nf a) a:=fun m=>rN m a
theorem Eqv.app {a b c d:List Tm} (h:Eqv a b) (k:Eqv c d):Eqv (a++c) (b++d):=fun m=>by rw[fZ,fZ,h m,k m]
theorem Eqv.nf_eq {a b:List Tm} (h:Eqv a b) (ha:Len8 a) (hb:Len8 b):Go.Pl.nf a=Go.Pl.nf b:=EE ha hb h
theorem Len8.app {a b:List Tm} (ha:Len8 a) (hb:Len8 b):Len8 (a++b):=fun t ht=>by
 rcases List.mem_append.1 ht with h | h
 .exact ha t h
 exact hb t h
theorem Len8.nf {a:List Tm} (h:Len8 a):Len8 (nf a):=(cS h).len
def fe (a b:Mn):Mn:=List.zipWith (· + ·) a b
theorem g_ {a b:Mn} (ha:a.length=8) (hb:b.length=8):(fe a b).length=8:=by simp[fe,ha,hb]
def CK (p:List Tm) (t:Tm):List Tm:=p.map (fun s=>(fe s.1 t.1,s.2*t.2))
def prodT (p q:List Tm):List Tm:=p.flatMap (fun s=>q.map (fun t=>(fe s.1 t.1,s.2*t.2)))
theorem xw (s:Tm) (p q:List Tm):prodT (s::p) q=q.map (fun t=>(fe s.1 t.1,s.2*t.2))++prodT p q:=rfl
theorem Len8.map1 {q:List Tm} {s:Tm} (hs:s.1.length=8) (h:Len8 q):Len8 (q.map (fun t=>(fe s.1 t.1,s.2*t.2))):=fun t ht=>by
 obtain⟨u,hu,rfl⟩:=mem_map.1 ht;exact g_ hs (h u hu)
theorem Len8.prod {p q:List Tm} (hp:Len8 p) (hq:Len8 q):Len8 (prodT p q):=fun t ht=>by
 obtain⟨s,hs,ht⟩:=List.mem_flatMap.1 ht;exact Len8.map1 (hp s hs) hq t ht
def c9 (p:List Tm) (r:Rat):List Tm:=p.map (fun t=>(t.1,t.2*r))
theorem Len8.scale {p:List Tm} {r:Rat} (h:Len8 p):Len8 (c9 p r):=fun u hu=>by
 obtain⟨s,hs,rfl⟩:=mem_map.1 hu;exact h s hs
theorem rQ {z w:Int} {D E:Nat}:mkRat z D*mkRat w E=mkRat (z*w) (D*E):=Rat.mkRat_mul_mkRat z w D E
theorem DM.map1 {D E:Nat} {s:Tm} {z:Int} (hs:s.2=mkRat z D): ∀ {q:List Tm} {N:Nat},DM E q N->DM (D*E) (q.map (fun t=>(fe s.1 t.1,s.2*t.2))) (z.natAbs*N)
 | [],_,_=>trivial
 | t::q,N,⟨w,K,h1,h2,h3⟩=>⟨z*w,z.natAbs*K,by show s.2*t.2=_;rw[hs,h1,rQ],by
  rw[Int.natAbs_mul,<-Nat.mul_add];exact Nat.mul_le_mul_left _ h2,DM.map1 hs h3⟩
theorem DM.prod {D E:Nat}: ∀ {p q:List Tm} {M N:Nat},DM D p M->DM E q N->DM (D*E) (prodT p q) (M*N)
 | [],_,_,_,_,_=>trivial
 | s::p,q,M,N,⟨z,K,h1,h2,h3⟩,hq=>by
  rw[xw];refine((DM.map1 h1 hq).append (h3.prod hq)).mono ?_;rw[<-Nat.add_mul];exact qn _ h2
theorem PB.prod {j k:Nat} {p q:List Tm} (hp:PB j p) (hq:PB k q):PB (j+k) (prodT p q):=by
 obtain⟨D,M,h1,h2,h3,h4⟩:=hp;obtain⟨E,N,g1,g2,g3,g4⟩:=hq;exact⟨D*E,M*N,Nat.mul_pos h1 g1,aL h2 g2,aL h3 g3,h4.prod g4⟩
theorem DM.scale {D E:Nat} {r:Rat} {w:Int} (hr:r=mkRat w E): ∀ {p:List Tm} {M:Nat},DM D p M->DM (D*E) (c9 p r) (M*w.natAbs)
 | [],_,_=>trivial
 | t::p,M,⟨z,K,h1,h2,h3⟩=>⟨z*w,K*w.natAbs,by show t.2*r=_;rw[hr,h1,rQ],by
  rw[Int.natAbs_mul,<-Nat.add_mul];exact qn _ h2,DM.scale hr h3⟩
theorem PB.scale {j k:Nat} {p:List Tm} {r:Rat} (hp:PB j p) (hr:Bd k r):PB (j+k) (c9 p r):=by
 obtain⟨D,M,h1,h2,h3,h4⟩:=hp;exact⟨D*r.den,M*r.num.natAbs,Nat.mul_pos h1 r.den_pos,aL h2 hr.2,aL h3 hr.1,h4.scale (Rat.mkRat_self _).symm⟩
theorem EK: ∀ (p:List Tm) (t:Tm),(insT p t).length<=p.length+1
 | [],t=>by unfold insT;split<;>simp
 | x::p,t=>by
  have ih:=EK p t;unfold insT;split
  .simp only[length_cons];omega
  split
  .split<;>simp<;>omega
  split<;>simp
theorem EL: ∀ (ts p:List Tm),(addT p ts).length<=p.length+ts.length
 | [],p=>by simp[addT]
 | t::ts,p=>by
  have h1:=EL ts (insT p t);have h2:=EK p t;unfold addT at h1 ⊢;rw[foldl_cons,length_cons];omega
theorem xy (ts:List Tm):(nf ts).length<=ts.length:=by
 have:=EL ts [];unfold nf;unfold addT at this;simpa using this
theorem uI: ∀ p q:List Tm,(prodT p q).length=p.length*q.length
 | [],q=>by simp[prodT]
 | s::p,q=>by
  rw[xw,qe,uI p q,length_map,length_cons,Nat.add_mul];omega
theorem L5 {p:List Tm} {t u:Tm} (h:u∈insT p t):u.1=t.1\/ ∃ x∈p,x.1=u.1:=by
 rcases ED h with h | h
 .exact .inr ⟨u,h,rfl⟩
 exact .inl h
theorem Bo: ∀ {ts p:List Tm} {u:Tm},u∈addT p ts-> ∃ x,(x∈p\/x∈ts)/\x.1=u.1
 | [],p,u,h=>⟨u,.inl h,rfl⟩
 | t::ts,p,u,h=>by
  obtain⟨x,hx,he⟩:=Bo (ts:=ts) (p:=insT p t) (u:=u) (by unfold addT at h ⊢;simpa using h);rcases hx with hx | hx
  .rcases L5 hx with h1 | ⟨y,hy,h1⟩
   .exact⟨t,.inr (by simp),by rw[<-he,h1]⟩
   exact⟨y,.inl hy,by rw[h1,he]⟩
  exact⟨x,.inr (mem_cons_of_mem _ hx),he⟩
theorem jc {ts:List Tm} {u:Tm} (h:u∈nf ts): ∃ x∈ts,x.1=u.1:=by
 obtain⟨x,hx,he⟩:=Bo (ts:=ts) (p:=[]) (u:=u) h;rcases hx with hx | hx
 .simp at hx
 exact⟨x,hx,he⟩
theorem J8: ∀ {a b:Mn} {v:Nat} (x:Int),g5 a b=true->a.getD v 0=b.getD v 0->a.length=b.length->g5 (a.set v x) (b.set v x)=true
 | y::a,z::b,0,x,h,he,_=>by
  simp only[List.getD_cons_zero] at he;subst he;simp only[set_cons_zero,g5,if_pos] at h ⊢;exact h
 | y::a,z::b,v+1,x,h,he,hl=>by
  simp only[qk] at he;simp only[List.set_cons_succ];unfold g5 at h ⊢;by_cases e:y=z
  .rw[if_pos e] at h ⊢;exact J8 x h he (by simpa using hl)
  .rw[if_neg e] at h ⊢;exact h
 | [],_,_,_,h,_,_=>by simp[g5] at h
 | _::_,[],_,_,h,_,_=>by simp[g5] at h
def bn (v:Nat) (d:Int) (p:List Tm):List Tm:=(p.filter (fun t=>decide (t.1.getD v 0=d))).map (fun t=>(t.1.set v 0,t.2))
theorem oX {v:Nat} {d:Int} {p:List Tm} (h:Canon p):Canon (bn v d p):=by
 refine⟨?_,?_,?_⟩
 .unfold bn;rw[List.pairwise_map];refine List.Pairwise.imp_of_mem ?_ (h.sorted.sublist filter_sublist);intro a b ha hb hg;rw[mem_filter] at ha hb;exact J8 0 hg ((of_decide_eq_true ha.2).trans (of_decide_eq_true hb.2).symm) ((h.len a ha.1).trans (h.len b hb.1).symm)
 .intro t ht;obtain⟨u,hu,rfl⟩:=mem_map.1 ht;exact h.nz u (mem_filter.1 hu).1
 intro t ht;obtain⟨u,hu,rfl⟩:=mem_map.1 ht;simp[h.len u (mem_filter.1 hu).1]
theorem Bp {v:Nat} {d:Int} {p:List Tm}:(bn v d p).length<=p.length:=by
 unfold bn;rw[length_map];exact List.length_filter_le _ _
theorem HK {v:Nat} {d:Int} {p:List Tm} {t:Tm}:bn v d (p++[t])=if t.1.getD v 0=d then bn v d p++[(t.1.set v 0,t.2)] else bn v d p:=by
 unfold bn;rw[List.filter_append,vw];by_cases h:t.1.getD v 0=d
 .rw[if_pos h,List.filter_cons_of_pos (by simp only[decide_eq_true_eq];exact h)];rfl
 rw[if_neg h,filter_cons_of_neg (by simp only[decide_eq_true_eq];exact h)];simp
def lL (v:Nat) (p:List Tm):Int:=p.foldl (fun d t=>max d (t.1.getD v 0)) (-1)
theorem L6 {v:Nat} {p:List Tm} {t:Tm}:lL v (p++[t])=max (lL v p) (t.1.getD v 0):=by simp[lL,List.foldl_append]
theorem uJ: ∀ (p:List Tm) (v:Nat) (d:Int),d<=p.foldl (fun d t=>max d (t.1.getD v 0)) d/\ ∀ t∈p,t.1.getD v 0<=p.foldl (fun d t=>max d (t.1.getD v 0)) d
 | [],v,d=>⟨Int.le_refl _,fun t ht=>by simp at ht⟩
 | x::p,v,d=>by
  obtain⟨h1,h2⟩:=uJ p v (max d (x.1.getD v 0));rw[foldl_cons];refine⟨by omega,fun t ht=>?_⟩;rcases List.mem_cons.1 ht with rfl | ht
  .omega
  exact h2 t ht
theorem wE {v:Nat} {p:List Tm}: -1<=lL v p:=(uJ p v (-1)).1
theorem J9 {v:Nat} {p:List Tm} {t:Tm} (h:t∈p):t.1.getD v 0<=lL v p:=(uJ p v (-1)).2 t h
theorem sV: ∀ (p:List Tm) (v:Nat) (d N:Int),d<=N->(∀ t∈p,t.1.getD v 0<=N)->p.foldl (fun d t=>max d (t.1.getD v 0)) d<=N
 | [],_,_,_,h,_=>h
 | x::p,v,d,N,h,h2=>by
  rw[foldl_cons];exact sV p v _ N (by have:=h2 x (by simp);omega) (fun t ht=>h2 t (mem_cons_of_mem _ ht))
theorem CL {v:Nat} {p:List Tm} {N:Int} (hN: -1<=N) (h: ∀ t∈p,t.1.getD v 0<=N):lL v p<=N:=sV p v (-1) N hN h
def eE (v:Nat) (p:List Tm):List (List Tm):=(List.range (lL v p+1).toNat).map (fun(i:Nat)=>bn v (i:Int) p)
theorem xz (v:Nat) (p:List Tm):(eE v p).length=(lL v p+1).toNat:=by simp[eE]
def hornT (q:List Tm):List (List Tm)->List Tm
 | []=>[]
 | c::cs=>nf (prodT (hornT q cs) q++c)
def ff (v:Nat) (q p:List Tm):List Tm:=hornT q (eE v p)
theorem oY {q:List Tm} (hq:Len8 q): ∀ {cs:List (List Tm)},(∀ c∈cs,Len8 c)->Canon (hornT q cs)
 | [],_=>Canon.nil
 | c::cs,h=>cS (Len8.app (Len8.prod (oY hq (fun c hc=>h c (mem_cons_of_mem _ hc))).len hq) (h c (by simp)))
theorem sW {v:Nat} {p q:List Tm} (hp:Canon p) (hq:Len8 q):Canon (ff v q p):=oY hq (fun c hc=>by
 obtain⟨i,_,rfl⟩:=mem_map.1 hc;exact(oX hp).len)
theorem L7 {out q c:List Tm} (ho:Len8 out) (hq:Len8 q) (hc:Len8 c):nf (nf (prodT out q)++c)=nf (prodT out q++c):=
 Eqv.nf_eq ((Eqv.nf _).app (Eqv.refl c)) (Len8.app (cS (Len8.prod ho hq)).len hc) (Len8.app (Len8.prod ho hq) hc)
theorem J_ {q:List Tm} {kq kc:Nat} (hq:PB kq q): ∀ {cs:List (List Tm)},(∀ c∈cs,PB kc c)->PB (cs.length*(kq+kc+1)+1) (hornT q cs)
 | [],_=>(PB.nil (qp 1)).mono (by simp)
 | c::cs,h=>by
  have ih:=J_ hq (fun c hc=>h c (mem_cons_of_mem _ hc));refine((((ih.prod hq).append (h c (by simp))).nf)).mono ?_;rw[length_cons,Nat.add_mul];omega
theorem PB.sub {k:Nat} {p q:List Tm} (h:PB k p) (hq:q.Sublist p):PB k q:=by
 obtain⟨D,M,h1,h2,h3,h4⟩:=h;refine⟨D,M,h1,h2,h3,?_⟩;clear h3
 induction hq generalizing M with
 | slnil=>trivial
 | cons x _ ih=>exact ih M h4.tail
 | cons_cons x _ ih=>
  obtain⟨z,N,g1,g2,g3⟩:=h4;exact⟨z,N,g1,g2,ih N g3⟩
theorem DM.keys {D:Nat} {f:Tm->Mn}: ∀ {p:List Tm} {M:Nat},DM D p M->DM D (p.map (fun t=>(f t,t.2))) M
 | [],_,_=>trivial
 | _::_,_,⟨z,N,g1,g2,g3⟩=>⟨z,N,g1,g2,g3.keys⟩
theorem PB.keys {k:Nat} {p:List Tm} (f:Tm->Mn) (h:PB k p):PB k (p.map (fun t=>(f t,t.2))):=by
 obtain⟨D,M,h1,h2,h3,h4⟩:=h;exact⟨D,M,h1,h2,h3,h4.keys⟩
theorem PB.part {k v:Nat} {d:Int} {p:List Tm} (h:PB k p):PB k (bn v d p):=(h.sub filter_sublist).keys (fun t=>t.1.set v 0)
def a_ (v:Nat) (p:List Tm):List Tm:=p.map (fun t=>(t.1.set v (t.1.getD v 0+1),t.2 / (t.1.getD v 0+1)))
theorem Len8.prim {v:Nat} {p:List Tm} (h:Len8 p):Len8 (a_ v p):=fun t ht=>by
 obtain⟨u,hu,rfl⟩:=mem_map.1 ht;simp[h u hu]
end Go.Pl
namespace Go.Pl
section
variable {α:Type} (d:α)
def n6 (ls:List α) (j:Nat):List α:=(ls.set j (ls.getD (j - 1) d)).set (j - 1) (ls.getD j d)
theorem xA {ls:List α} {j:Nat} (h0:0<j) (hj:j<ls.length) (q:Nat):(n6 d ls j).getD q d=if q=j then ls.getD (j - 1) d else if q=j - 1 then ls.getD j d else ls.getD q d:=by
 unfold n6;rw[qa,getElem?_set,getElem?_set];by_cases h1:q=j
 .subst h1;rw[if_neg (by omega),if_pos rfl,if_pos hj,if_pos rfl];simp
 rw[if_neg h1];by_cases h2:q=j - 1
 .rw[if_pos h2.symm,if_pos (by simp;omega),if_pos h2];simp
 rw[if_neg (fun h=>h2 h.symm),if_neg (fun h=>h1 h.symm),if_neg h2,qa]
theorem xB {ls:List α} {j:Nat} (h0:0<j) (hj:j<ls.length):(n6 d ls j).Perm ls:=by
 obtain⟨i,rfl⟩: ∃ i,j=i+1:=⟨j - 1,by omega⟩;have h1:ls=ls.take i++(ls[i]::ls[i+1]::ls.drop (i+2)):=by
  rw[<-drop_eq_getElem_cons (by omega),<-drop_eq_getElem_cons (by omega),List.take_append_drop]
 have hl:(ls.take i).length=i:=by rw[length_take];omega
 have h2:n6 d ls (i+1)=ls.take i++(ls[i+1]::ls[i]::ls.drop (i+2)):=by
  unfold n6;rw[Nat.add_sub_cancel,qa,qa,qb (by omega),qb hj];simp only[Option.getD_some];generalize ls[i]=x at*;generalize ls[i+1]=y at*;generalize List.drop (i+2) ls=T at*;generalize List.take i ls=A at*;rw[h1,List.set_append_right _ _ (by omega),List.set_append_right _ _ (by omega)];rw[hl,show i+1 - i=1 by omega,Nat.sub_self];simp
 rw[h2]
 conv=>rhs;rw[h1]
 exact List.Perm.append_left _ (List.Perm.swap _ _ _)
variable (lt:α->α->Prop)
def O8 (ls:List α) (i j:Nat):Prop:= ∀ p q,p<q->q<=i->q≠j-> ¬lt (ls.getD q d) (ls.getD p d)
theorem Bq (asym: ∀ x y,lt x y-> ¬lt y x) {ls:List α} {i j:Nat} (wt:0<j) (AI:j<=i) (hi:i<ls.length) (h:O8 d lt ls i j) (hc:lt (ls.getD j d) (ls.getD (j - 1) d)):O8 d lt (n6 d ls j) i (j - 1):=by
 intro p q wY Hp hq;rw[xA d wt (by omega),xA d wt (by omega)];by_cases h1:q=j
 .rw[if_pos h1,if_neg (by omega)];by_cases h2:p=j - 1
  .rw[if_pos h2];exact asym _ _ hc
  rw[if_neg h2];exact h p (j - 1) (by omega) (by omega) (by omega)
 rw[if_neg h1,if_neg hq];by_cases h2:p=j
 .rw[if_pos h2];exact h (j - 1) q (by omega) Hp h1
 rw[if_neg h2];by_cases h3:p=j - 1
 .rw[if_pos h3];exact h j q (by omega) Hp h1
 rw[if_neg h3];exact h p q wY Hp h1
theorem p6 {ls:List α} (Ve: ∀ x∈ls,∀ y∈ls,∀ z∈ls,¬lt x y-> ¬lt y z-> ¬lt x z) {i j:Nat} (hi:i<ls.length) (AI:j<=i) (h:O8 d lt ls i j) (hc:j=0\/ ¬lt (ls.getD j d) (ls.getD (j - 1) d)):
 ∀ p q,p<q->q<=i-> ¬lt (ls.getD q d) (ls.getD p d):=by
 intro p q wY Hp
 by_cases h1:q=j
 .subst h1
  have bm: ∀ k,k<ls.length->ls.getD k d∈ls:=fun k hk=>by
   rw[qa,qb hk];simp
  rcases hc with hc | hc
  .omega
  by_cases h2:p=q - 1
  .rw[h2];exact hc
  exact Ve _ (bm q (by omega)) _ (bm (q - 1) (by omega)) _ (bm p (by omega)) hc (h p (q - 1) (by omega) (by omega) (by omega))
 exact h p q wY Hp h1
theorem q_ {ls:List α} (h: ∀ p q,p<q->q<ls.length-> ¬lt (ls.getD q d) (ls.getD p d)):ls.Pairwise (fun a b=>¬lt b a):=by
 rw[List.pairwise_iff_getElem];intro i j hi hj pL;have:=h i j pL hj;rw[qa,qa,qb hi,qb hj] at this;exact this
end
def iY:Mn->Mn->Int
 | x::a,y::b=>if x<y then -1 else if y<x then 1 else iY a b
 | _,_=>0
theorem J': ∀ {a b:Mn},0<iY a b↔g5 a b=true
 | x::a,y::b=>by
  have ih:=J' (a:=a) (b:=b);unfold iY g5;rcases Int.lt_trichotomy x y with h | h | h
  .rw[if_pos h,if_neg (by omega)];simp;omega
  .subst h;rw[if_neg (by omega),if_neg (by omega),if_pos rfl];exact ih
  .rw[if_neg (by omega),if_pos h,if_neg (by omega)];simp;omega
 | [],b=>by simp[iY,g5]
 | _::_,[]=>by simp[iY,g5]
theorem rR: ∀ a b:Mn,iY a b= -1\/iY a b=0\/iY a b=1
 | x::a,y::b=>by
  unfold iY;split
  .exact .inl rfl
  .split
   .exact .inr (.inr rfl)
   .exact rR a b
 | [],b=> .inr (.inl (by simp[iY]))
 | _::_,[]=> .inr (.inl (by simp[iY]))
theorem L8 {a b:Mn} {i:Nat} (ha:i<a.length) (hb:i<b.length):iY (a.drop i) (b.drop i)=if a.getD i 0<b.getD i 0 then -1 else if b.getD i 0<a.getD i 0 then 1 else iY (a.drop (i+1)) (b.drop (i+1)):=by
 rw[drop_eq_getElem_cons ha,drop_eq_getElem_cons hb,iY,qa,qa,qb ha,qb hb];rfl
def Aa {β:Type} (s t:List Int×β):Prop:=g5 s.1 t.1=true
theorem O9 {β:Type} (s t:List Int×β) (h:Aa s t): ¬Aa t s:=by
 unfold Aa at*;rw[L0 h];simp
theorem XZ {β:Type} {x y z:List Int×β} (hx:x.1.length=8) (hy:y.1.length=8) (_hz:z.1.length=8) (h1: ¬Aa x y) (h2: ¬Aa y z): ¬Aa x z:=by
 unfold Aa at*;intro h3;rcases CJ (hx.trans hy.symm) (by simpa using h1) with h4 | h4
 .rw[h4] at h3;exact h2 h3
 exact h2 (iX h4 h3)
end Go.Pl
namespace Go.Pl
theorem Bs: ∀ {p:List Tm} {t:Tm},t.2≠0->(∀ x∈p,x.1≠t.1)->(insT p t).Perm (t::p)
 | [],t,h,_=>by
  unfold insT;rw[if_neg h]
 | x::p,t,h,hk=>by
  unfold insT;split
  .exact((Bs h (fun y hy=>hk y (mem_cons_of_mem _ hy))).cons x).trans (List.Perm.swap _ _ _)
  simp only[hk x (by simp),if_false];exact List.Perm.refl _
theorem Bt: ∀ {ts p:List Tm},(∀ t∈ts,t.2≠0)->((p++ts).map (·.1)).Nodup->(addT p ts).Perm (p++ts)
 | [],p,_,_=>by simp[addT]
 | t::ts,p,h,hn=>by
  rw[vw,map_cons,nodup_append] at hn;obtain⟨h1,h2,h3⟩:=hn;rw[List.nodup_cons] at h2;have hp:=Bs (p:=p) (t:=t) (h t (by simp)) (fun x hx he=>h3 x.1 (mem_map.2 ⟨x,hx,rfl⟩) t.1 (by simp) he);have mb:((insT p t++ts).map (·.1)).Nodup:=by
   have hq:((insT p t++ts).map (·.1)).Perm (((t::p)++ts).map (·.1)):=(hp.append_right ts).map _;rw[hq.nodup_iff,vw,map_cons,List.cons_append,List.nodup_cons,nodup_append];refine⟨?_,h1,h2.2,fun x hx y hy=>h3 x hx y (mem_cons_of_mem _ hy)⟩;intro hm;rcases List.mem_append.1 hm with hm | hm
   .exact h3 t.1 hm t.1 (by simp) rfl
   exact h2.1 hm
  have ih:=Bt (ts:=ts) (p:=insT p t) (fun u hu=>h u (mem_cons_of_mem _ hu)) mb;unfold addT at ih ⊢;rw[foldl_cons];refine ih.trans ((hp.append_right ts).trans ?_);rw[List.cons_append];exact List.perm_middle.symm
def n8 (ts:List Tm):List Tm:=(accL ts).filter (fun t=>decide (t.2≠0))
theorem uK {ts:List Tm} (h:Len8 ts):Len8 (accL ts):=fun t ht=>by
 obtain⟨u,hu,he⟩:=mem_map.1 (xu (mem_map.2 ⟨t,ht,rfl⟩));rw[<-he];exact h u hu
theorem S3 {ts:List Tm} (h:Len8 ts):(nf ts).Perm (n8 ts):=by
 have h8:Len8 (n8 ts):=fun t ht=>uK h t (mem_filter.1 ht).1
 have h1:nf ts=nf (n8 ts):=EE h h8 (fun m=>by unfold n8;rw[kU,EF]);rw[h1];have h2:=Bt (ts:=n8 ts) (p:=[]) (fun t ht=>by simpa using(mem_filter.1 ht).2) (by
  rw[nil_append];exact List.Nodup.sublist ((filter_sublist).map _) (rO ts))
 rw[nil_append] at h2;exact h2
theorem EM {ts:List Tm} (h:Len8 ts):(n8 ts).length=(nf ts).length:=(S3 h).length_eq.symm
theorem O_ {ts:List Tm} {P:Mn->Prop} (h: ∀ t∈ts,P t.1): ∀ t∈nf ts,P t.1:=fun t ht=>by
 obtain⟨x,hx,he⟩:=jc ht;rw[<-he];exact h x hx
theorem L9 {a:List Tm} {m:Mn}:nk a m=none↔m∉a.map (·.1):=by
 unfold nk;rw[Option.map_eq_none_iff,List.find?_eq_none];constructor
 .intro h hm;obtain⟨t,ht,he⟩:=mem_map.1 hm;exact h t ht (by simpa using he)
 intro h t ht he;exact h (mem_map.2 ⟨t,ht,by simpa using he⟩)
theorem S4 {a:List Tm} {i:Nat} {t:Tm} (hn:(a.map (·.1)).Nodup) (hi:a[i]?=some t):nk a t.1=some t.2:=by
 induction a generalizing i with
 | nil=>simp at hi
 | cons u a ih=>
  unfold nk;rw[map_cons,List.nodup_cons] at hn;cases i with
  | zero=>
   simp at hi;subst hi;rw[List.find?_cons_of_pos (by simp)];rfl
  | succ i=>
   have oL:a[i]?=some t:=by simpa using hi
   have cX: ¬u.1=t.1:=fun he=>hn.1 (he ▸ mem_map.2 ⟨t,List.mem_of_getElem? oL,rfl⟩)
   rw[List.find?_cons_of_neg (by simpa using cX)];exact ih hn.2 oL
theorem DM.split {D:Nat}: ∀ {a:List Tm} {t:Tm} {M:Nat},DM D (a++[t]) M-> ∃ M1,∃ z:Int,DM D a M1/\t.2=mkRat z D/\M1+z.natAbs<=M
 | [],t,M,⟨z,K,h1,h2,_⟩=>⟨0,z,cW,h1,by omega⟩
 | u::a,t,M,⟨z,K,h1,h2,h3⟩=>by
  obtain⟨M1,w,g1,g2,g3⟩:=h3.split;exact⟨z.natAbs+M1,w,⟨z,M1,h1,by omega,g1⟩,g2,by omega⟩
theorem PB.snoc_bd {k:Nat} {a:List Tm} {t:Tm} (h:PB k (a++[t])) (hk:1<=k): ∀ u∈Go.Pl.nf a,Bd k (t.2+u.2):=fun u hu=>by
 obtain⟨D,M,h1,h2,h3,h4⟩:=h;obtain⟨M1,z,g1,g2,g3⟩:=h4.split;obtain⟨w,e1,e2⟩:=(g1.nf (by omega)).mem hu;rw[g2,e1,uH (by omega)];exact EH hk (by omega) h2
theorem Bu: ∀ {a b:Mn} {v:Nat} (d:Int),v<a.length->a.length=b.length->g5 (a.set v (a.getD v 0+d)) (b.set v (b.getD v 0+d))=g5 a b
 | y::a,z::b,0,d,_,_=>by
  simp only[set_cons_zero,List.getD_cons_zero,g5];by_cases h:y=z
  .rw[if_pos h,if_pos (by omega)]
  .rw[if_neg h,if_neg (by omega)];by_cases h2:y>z
   .rw[ir h2,ir (by omega)]
   .rw[m5 h2,m5 (by omega)]
 | y::a,z::b,v+1,d,h,hl=>by
  simp only[List.set_cons_succ,qk,g5];simp only[length_cons] at h hl;rw[Bu d (by omega) (by omega)]
 | [],_,_,_,h,_=>by simp at h
 | _::_,[],_,_,_,hl=>by simp at hl
theorem nt {x:Int} (h:x≠0):(x:Rat)≠0:=fun h2=>h (by exact_mod_cast h2)
theorem X0 {q:Rat} {x:Int} (hq:q≠0) (hx:x≠0):q / (x:Rat)≠0:=fun h=>by
 have:=nt hx;apply hq;have h2:q / (x:Rat)*x=q:=by grind
 rw[h] at h2;grind
theorem mr (x:Int):(x:Rat)+1=((x+1:Int):Rat):=by rw[Rat.intCast_add];rfl
theorem xC {v:Nat} {p:List Tm} (hv:v<8) (hp:Canon p) (he: ∀ t∈p,0<=t.1.getD v 0):Canon (a_ v p):=by
 refine⟨?_,?_,Len8.prim hp.len⟩
 .unfold a_;rw[List.pairwise_map];refine(List.Pairwise.and_mem.1 hp.sorted).imp ?_;rintro a b ⟨ha,hb,h⟩;rw[Bu 1 (by rw[hp.len a ha];exact hv) (by rw[hp.len a ha,hp.len b hb])];exact h
 intro t ht;obtain⟨u,hu,rfl⟩:=mem_map.1 ht;dsimp only;rw[mr];exact X0 (hp.nz u hu) (by have:=he u hu;omega)
theorem PB.terms {j n k:Nat} {p:List Tm} (hj:1<=j) (h: ∀ t∈p,Bd j t.2) (hn:p.length<=n) (hk:n*(j+1)+1<=k):PB k p:=
 (PB.list hj h).mono (gI (Nat.succ_le_succ (qn _ hn)) hk)
theorem bd_int {x:Int} (h:x.natAbs<B):Bd 1 (x:Rat):=by
 refine⟨?_,?_⟩
 .rw[Rat.num_intCast,Nat.pow_one];exact h
 rw[Rat.den_intCast];decide
theorem S5 {v j:Nat} {p:List Tm} (h: ∀ t∈p,Bd j t.2) (he: ∀ t∈p,0<=t.1.getD v 0/\t.1.getD v 0<=1000000): ∀ t∈a_ v p,Bd (j+1) t.2:=fun t ht=>by
 obtain⟨u,hu,rfl⟩:=mem_map.1 ht;dsimp only;have h1:=he u hu;rw[mr];exact Bd.div (h u hu) (bd_int (Hw (show _<=1000001 by omega) (by decide))) (nt (by omega)) (by omega)
theorem jm {v:Nat} {p:List Tm}:(a_ v p).length=p.length:=by simp[a_]
end Go.Pl
namespace Go.Proofs.YtjjbkjgifdhlcaaGreat
open Go.AM Go.Pl
abbrev RT:=List Int×Raw
def kv (m:List Int):List FV:=m.map (fun n=>FV.lit (.int .i64 n))
def iz (t:RT):List FV:=kv t.1++t.2.f
def fM (t:RT):List PV:=mC t.1++t.2.c
def tq (t:RT):Tm:=(t.1,t.2.q)
def tn (t:Tm):RT:=(t.1,cn t.2)
theorem jn (m:List Int):(kv m).map .fv=mC m:=by simp[kv,mC]
theorem dQ (t:RT):(iz t).map .fv=fM t:=by
 unfold iz fM;rw[vw,jn];rfl
theorem fg (m:List Int):(kv m).length=m.length:=by simp[kv]
theorem bN (m:List Int):(mC m).length=m.length:=by simp[mC]
theorem aK {t:RT} (h:t.1.length=8):(iz t).length=11:=by simp[iz,fg,h,Raw.f]
theorem aG {t:RT} (h:t.1.length=8):(fM t).length=11:=by simp[fM,bN,h,Raw.c]
theorem nu (H:List Ob): ∀ m:List Int,lJ H (mC m)=some (kv m)
 | []=>rfl
 | n::m=>by
  have:=nu H m;unfold mC kv at this ⊢;simp only[map_cons,lJ,fB,this]
theorem Ka (H:List Ob): ∀ (a b:List PV) (x y:List FV),lJ H a=some x->lJ H b=some y->lJ H (a++b)=some (x++y)
 | [],b,x,y,h1,h2=>by
  simp only[lJ,qo] at h1;subst h1;simpa using h2
 | c::a,b,x,y,h1,h2=>by
  simp only[lJ,List.cons_append] at h1 ⊢;split at h1
  .rename_i u us h3 h4;cases h1;rw[h3,Ka H a b us y h4 h2];rfl
  cases h1
theorem dm (H:List Ob) (t:RT):lJ H (fM t)=some (iz t):=Ka H _ _ _ _ (nu H t.1) rfl
theorem oZ (m:List Int):(mC m).flatMap eZ=[]:=by
 unfold mC
 induction m with
 | nil=>rfl
 | cons n m ih=>rw[map_cons,List.flatMap_cons,ih];rfl
theorem dD (t:RT):(fM t).flatMap eZ=[]:=by
 unfold fM;rw[qyb,oZ];rfl
theorem jN {m:List Int} (h:m.length=8):List.take 8 (mC m)=mC m:=eo (by rw[bN];omega)
theorem rS {m:List Int} (h:m.length=8):List.take 8 (kv m)=kv m:=eo (by rw[fg];omega)
theorem dN {t:RT} (h:t.1.length=8):List.take 8 (fM t)=mC t.1:=by
 unfold fM;rw[List.take_append_of_le_length (by rw[bN];omega),jN h]
theorem dt {t:RT} (h:t.1.length=8):List.take 11 (fM t)=fM t:=eo (by rw[aG h];omega)
theorem aW {t:RT} (h:t.1.length=8):List.take 11 (iz t)=iz t:=eo (by rw[aK h];omega)
theorem L_ {t:RT} (h:t.1.length=8):List.drop 8 (fM t)=t.2.c:=by
 unfold fM;rw[drop_append_of_le_length (by rw[bN];omega),List.drop_of_length_le (by rw[bN];omega)];rfl
theorem uL {t:RT} (h:t.1.length=8):List.drop 8 (iz t)=t.2.f:=by
 unfold iz;rw[drop_append_of_le_length (by rw[fg];omega),List.drop_of_length_le (by rw[fg];omega)];rfl
theorem p7 {t:RT} (h:t.1.length=8):List.take 8 (iz t)=kv t.1:=by
 unfold iz;rw[List.take_append_of_le_length (by rw[fg];omega),rS h]
theorem Bv {m:List Int} {i:Nat} (h:i<m.length):List.take 1 (List.drop i (mC m))=[PV.int .i64 (m.getD i 0)]:=by
 unfold mC;rw[drop_eq_getElem_cons (by simpa using h),take_succ_cons,List.take_zero,List.getElem_map,qa,qb h];rfl
theorem uM {t:RT} {i:Nat} (h:i<8) (hl:t.1.length=8):List.take 1 (List.drop i (fM t))=[PV.int .i64 (t.1.getD i 0)]:=by
 have h1:=Bv (m:=t.1) (i:=i) (by omega);unfold fM;rw[drop_append_of_le_length (by rw[bN];omega),List.take_append_of_le_length (by rw[qt,bN];omega),h1]
theorem O' {m:List Int} {i:Nat} {x:Int} (h:i<m.length):List.take i (mC m)++[PV.int .i64 x]++List.drop (i+1) (mC m)=mC (m.set i x):=by
 unfold mC;rw[<-List.map_take,<-List.map_drop,List.set_eq_take_append_cons_drop,if_pos h];simp
theorem p9 {t:RT} {i:Nat} {x:Int} (h:i<8) (hl:t.1.length=8):List.take i (fM t)++[PV.int .i64 x]++List.drop (i+1) (fM t)=fM (t.1.set i x,t.2):=by
 have h1:=O' (m:=t.1) (i:=i) (x:=x) (by omega);unfold fM;rw[List.take_append_of_le_length (by rw[bN];omega),drop_append_of_le_length (by rw[bN];omega),<-qlb,h1]
theorem sX (ids:List Nat): ∀ m:List Int,dp ids (mC m) (mC m)
 | []=>by simp[mC,dp]
 | x::m=>by
  have:=sX ids m;unfold mC at this ⊢;simp[dp,cC,this]
theorem Pa (ids:List Nat): ∀ (a b:List PV),dp ids a a->dp ids b b->dp ids (a++b) (a++b)
 | [],_,_,h=>h
 | _::a,b,h1,h2=>⟨h1.1,Pa ids a b h1.2 h2⟩
theorem g6 (ids:List Nat) (t:RT):dp ids (fM t) (fM t):=Pa ids _ _ (sX ids t.1) (by simp[Raw.c,dp,cC])
theorem dU {t:RT} (h:t.1.length=8):List.take 3 (List.drop 8 (fM t))=t.2.c:=by rw[L_ h];rfl
theorem EN (H:List Ob) (r:Raw):lJ H r.c=some r.f:=rfl
theorem Ma (r:Raw):r.f.map .fv=r.c:=rfl
theorem gj (r:Raw):r.c.flatMap eZ=[]:=rfl
theorem dP (f:Nat->Nat) (r:Raw):List.map (reloc1 f) r.c=r.c:=rfl
theorem xD (r:Raw):List.take 3 r.c=r.c:=rfl
theorem mw {t:RT} {r:Raw} (h:t.1.length=8):List.take 8 (fM t)++r.c++List.drop 11 (fM t)=fM (t.1,r):=by
 rw[dN h,List.drop_of_length_le (by rw[aG h];omega),append_nil];rfl
theorem EO (r:Raw):r.f.length=3:=rfl
theorem Pb (r:Raw):List.take 3 r.f=r.f:=rfl
theorem acK (ids:List Nat) (r:Raw):dp ids r.c r.c:=by simp[Raw.c,dp,cC]
theorem Kb (r:Raw):still (.agg r.c)=true:=rfl
theorem cJ (r:Raw):r.c.length=3:=rfl
def aq (ts:List RT):List (List FV):=ts.map iz
def n_ (ms:List (List Int)):List (List FV):=ms.map kv
theorem av (ts:List RT):(aq ts).length=ts.length:=by simp[aq]
theorem sY (ms:List (List Int)):(n_ ms).length=ms.length:=by simp[n_]
def oO:RT:=([],rz)
theorem c_ {ts:List RT} {i:Nat} (h:i<ts.length):(aq ts).getD i []=iz (ts.getD i oO):=by
 simp[aq,h]
theorem HL {ms:List (List Int)} {i:Nat} (h:i<ms.length):(n_ ms).getD i []=kv (ms.getD i []):=by
 simp[n_,h]
theorem f9 {ts:List RT} {i:Nat} (h:i<ts.length):ts.getD i oO∈ts:=by
 rw[qa,qb h];simp
theorem eF (ts:List RT) (t:RT):aq ts++[iz t]=aq (ts++[t]):=by simp[aq]
theorem HM (ms:List (List Int)) (m:List Int):n_ ms++[kv m]=n_ (ms++[m]):=by simp[n_]
theorem bO {ts:List RT} {n:Nat} (h:ts.length<=n):List.take n (aq ts)=aq ts:=eo (by rw[av];exact h)
theorem HN {ms:List (List Int)} {n:Nat} (h:ms.length<=n):List.take n (n_ ms)=n_ ms:=eo (by rw[sY];exact h)
structure TOk (k:Nat) (t:RT):Prop where
 len:t.1.length=8
 rng: ∀ x∈t.1,-1000000000000<=x/\x<=1000000000000
 raw:t.2.Ok k
theorem TOk.mono {j k:Nat} {t:RT} (h:TOk j t) (hk:j<=k):TOk k t:=⟨h.len,h.rng,h.raw.mono hk⟩
def TsOk (k:Nat) (ts:List RT):Prop:= ∀ t∈ts,TOk k t
def iA (m:List Int):Bool:=m.all (fun d=>decide (0<=d)&&decide (d<=1024))
def validB (ts:List RT):Bool:=ts.all (fun t=>iA t.1)
abbrev PL (ts:List RT):PV:= .fv (.sl (aq ts))
set_option maxRecDepth 100000
set_option maxHeartbeats 2000000
theorem sZ (m:List Int) (n:Nat) (h:m.length=n):dG 1 n (kv m)=ints m:=by
 subst h
 induction m with
 | nil=>rfl
 | cons x m ih=>
  unfold kv ints at ih ⊢;simp only[length_cons,map_cons,dG,take_succ_cons,List.take_zero,List.drop_succ_cons,List.drop_zero,ih]
theorem Bw (x:Int):Den Tryz.prog 272 [] [.int .i64 x] [] (.bool false):=by
 have e:(x !=x)=false:=by simp
 refine dq Tryz.func272 5 0 ?_;refine bU e ?_;refine bj rfl
theorem acL (x y:Int):Den Tryz.prog 246 [] [.int .i64 x,.int .i64 y] [] (.int .i64 (if x<y then -1 else if y<x then 1 else 0)):=by
 by_cases h1:x<y
 .have e1:decide (x<y)=true:=ir h1;rw[if_pos h1];refine dq Tryz.func246 18 0 ?_;refine aY ?_;refine gp (Bw x) rfl ?_;refine ba ?_;refine gp (Bw y) rfl ?_;refine ae e1 ?_;refine bj rfl
 have e1:decide (x<y)=false:=m5 h1;rw[if_neg h1];by_cases h2:y<x
 .have e2:decide (x>y)=true:=ir h2;rw[if_pos h2];refine dq Tryz.func246 18 0 ?_;refine aY ?_;refine gp (Bw x) rfl ?_;refine ba ?_;refine gp (Bw y) rfl ?_;refine ae (aP e1 e2) ?_;refine bj rfl
 have e2:decide (x>y)=false:=m5 h2;rw[if_neg h2];refine dq Tryz.func246 18 0 ?_;refine aY ?_;refine gp (Bw x) rfl ?_;refine ba ?_;refine gp (Bw y) rfl ?_;refine ae (aP e1 e2) ?_;refine bj rfl
theorem Wz (a b:List Int) (n:Nat) (ha:a.length=n) (hb:b.length=n) (hn:n<1000):Den Tryz.prog 208 [] [.fv (.sl (ints a)),.fv (.sl (ints b))] [] (.int .i64 (iY a b)):=by
 have la:=cu a;have lb:=cu b;rw[ha] at la;rw[hb] at lb;refine dq Tryz.func208 34 0 ?_;refine bU la ?_;refine wl (α:=Nat) (fun i=>⟨[.fv (.sl (ints a)),.fv (.sl (ints b)),.any,.any,.any,.any,.any,.any,.any,.fv (.sl (ints a)),.int .i64 n,.int .i64 i]++replicate 24 .any,[]⟩) (fun i=>n - i) (fun i=>i<=n/\iY (a.drop i) (b.drop i)=iY a b) 0 ?_ ?_ ?_
 .exact bQ []
 .exact⟨eB _,rfl⟩
 rintro i ⟨hi,hc⟩;refine aY ?_;refine bS ?_ ?_
 .intro h1 h2;have ga:=iW (xs:=a) (i:=i) (by omega);have gb:=iW (xs:=b) (i:=i) (by omega);have kK:=L8 (a:=a) (b:=b) (i:=i) (by omega) (by omega);obtain⟨x,hx⟩:=ax (a.getD i 0);obtain⟨y,hy⟩:=ax (b.getD i 0);rw[hx] at ga kK;rw[hy] at gb kK;have e1:decide ((i:Int)>=(n:Int))=false:=sA;have Ay:=acL x y;obtain⟨z,hz⟩: ∃ z:Int,(if x<y then(-1:Int) else if y<x then 1 else 0)=z:=⟨_,rfl⟩;rw[hz] at Ay;refine ae (fE h2 la lb ga gb e1) ?_
  repeat refine ag ?_
  refine aV Ay ?_;refine ba ?_;refine Br.bneInt ?_ ?_
  .intro h3 h4;have SB:iY a b=z:=by
    rw[<-hc,kK,<-hz];by_cases h5:x<y
    .rw[if_pos h5,if_pos h5]
    rw[if_neg h5,if_neg h5];by_cases h6:y<x
    .rw[if_pos h6,if_pos h6]
    rw[if_neg h5,if_neg h6] at hz;omega
   rw[SB];refine ae h4 ?_;refine bj rfl
  intro h3 h4;have h5: ¬x<y:=fun h=>by rw[if_pos h] at hz;omega
  have h6: ¬y<x:=fun h=>by rw[if_neg h5,if_pos h] at hz;omega
  rw[if_neg h5,if_neg h6] at kK;refine ae h4 ?_;refine aw (i+1) ?_ ⟨by omega,by rw[<-kK,hc]⟩;exact bQ []
 intro h1 h2;have hz:iY a b=0:=by
  rw[<-hc,List.drop_of_length_le (by omega),List.drop_of_length_le (by omega)];rfl
 rw[hz];have e1:decide ((n:Int)<(n:Int))=false:=sA;refine ae (eg h2 la lb e1) ?_;refine bj rfl
theorem acM (s t:RT) (hs:s.1.length=8) (ht:t.1.length=8):Den Tryz.prog 170 [] [.agg [.bool true],.agg (fM s),.agg (fM t)] [] (.int .i64 (-(iY s.1 t.1))):=by
 have h1:=Wz s.1 t.1 8 hs ht (by decide);have g1:=sZ s.1 8 hs;have g2:=sZ t.1 8 ht;have r:=rR s.1 t.1;obtain⟨z,hz⟩:=ax (iY s.1 t.1);rw[hz] at h1 r ⊢;have ls:=aG hs;have lt:=aG ht;have k1:=dN hs;have k2:=dN ht;have i1:List.take 8 (ints s.1)=ints s.1:=eo (by rw[cu];omega);have i2:List.take 8 (ints t.1)=ints t.1:=eo (by rw[cu];omega);have e0:(0:Int) - z= -z:=by omega
 refine dq Tryz.func170 15 0 ?_;refine bU (aP ls lt) ?_
 repeat refine ag ?_
 refine Draw.freeze [1,2] (by kernel_rfl) ?_;simp -dsimp(disch:=omega) only[k1,k2,nu,oZ,ls,lt,g1,g2,Option.isSome_none,imp_self,i1,i2,↓reduceIte,reduceMul,Nat.reduceSub,Nat.reduceLT,Nat.reduceLeDiff,ru]
 repeat refine ag ?_
 refine gp h1 (by simp[cw,gW,fS,fB]) ?_;refine ae e0 ?_
 repeat refine ag ?_
 refine bj rfl
theorem HO (r:Raw):vB r r=true:=by simp[vB]
theorem WB (a b:List Raw) (ha:LOk 1000000000 a) (hb:LOk 1000000000 b):Den Tryz.prog 162 [] [RL a,RL b] [] (FL (nh a b)):=by
 have la:=ha.len;have lb:=hb.len;have fa:=ah a;have fb:=ah b;unfold FL RL;obtain⟨T,hT⟩:=ax ((nh a b).map cn);have lT:T.length=9:=by rw[<-hT,length_map];exact fY la lb
 have hTg: ∀ i,i<9->T.getD i rz=cn ((a.getD i rz).q+(b.getD i rz).q):=fun i hi=>by rw[<-hT];exact p5 (by omega) (by omega)
 obtain⟨Z,hZ⟩:=ax (replicate 9 rz);have lZ:Z.length=9:=by rw[<-hZ];rfl
 rw[hT];refine dq Tryz.func162 30 0 ?_;refine aY ?_
 repeat refine ag ?_
 refine wl (α:=Nat) (fun i=>⟨[.any,.any,.ptr 0 0 0,.ptr 1 0 0,.ptr 2 0 0,.ptr 2 0 0,.any,.any,.int .i64 i]++replicate 23 .any,[.box true (flat a),.box true (flat b),.box true (flat (D2 T i Z))]⟩)
  (fun i=>8 - i) (fun i=>i<=8) 0 ?_ ?_ ?_
 .refine eS [0,1,2] ?_ ?_
  .simp[bk,dV,cC]
  rw[EB,<-hZ];simp[et,fK,dp,cC,dL,replicate,flat,rz,u32s]
 .exact eB _
 rintro i hi;have vm:=xp (T:=T) (rest:=Z) i (by omega);have hof:=ah (D2 T i Z);have iO:=cU (rs:=a) (i:=i) (by omega);have kS:=cU (rs:=b) (i:=i) (by omega);have bM:=J3 (T:=T) (rest:=Z) (i:=i) (by omega) (by omega);rw[hTg i (by omega)] at bM;have bW:=JV (a.getD i rz) (b.getD i rz) (ha.at i) (hb.at i);obtain⟨r,hr⟩:=ax (a.getD i rz);obtain⟨s,hs⟩:=ax (b.getD i rz);rw[hr] at iO bM bW;rw[hs] at kS bM bW;have bc:=d9 (rs:=D2 T i Z) (i:=i) (by omega) (decide ((r.q+s.q).num<0)) (ai (r.q+s.q).num.natAbs) (ai (r.q+s.q).den);have ug:(⟨decide ((r.q+s.q).num<0),ai (r.q+s.q).num.natAbs,ai (r.q+s.q).den⟩:Raw)=cn (r.q+s.q):=rfl;rw[ug,bM] at bc;rw[bu,bE,bE] at bW;unfold Raw.v at bW;refine aY ?_;refine bS ?_ ?_
 .intro h1 h2;refine ae h2 ?_;refine dw (by kernel_rfl) ?_;refine ae (aP iO kS) ?_
  repeat refine ag ?_
  refine aV bW ?_;refine ae (aP bc @append_nil.{0}) ?_
  repeat refine ag ?_
  refine aw (i+1) ?_ (by omega);exact tN [0,1,2]
 intro h1 h2;have uc:i=8:=by omega
 subst uc;rw[J2 (n:=8+1) lT lZ] at bc;simp only[reduceMul,reduceAdd] at iO kS bc;have qW:(flat T).length=27:=by rw[ah];omega
 have RG:List.drop 27 (flat T)=[]:=List.drop_of_length_le (by omega);refine ae (bR h2 iO kS) ?_
 repeat refine ag ?_
 refine aV bW ?_;simp -dsimp(disch:=omega) only[append_nil,bc,qW,ar lT,RG,↓reduceIte,reduceAdd,Nat.reduceLT,Nat.reduceLeDiff,ru]
 repeat refine ag ?_
 exact RetOK.form rfl rfl lT
theorem Kd (a b:List Raw) (ha:LOk 1000000000 a) (hb:LOk 1000000000 b):Den Tryz.prog 101 [] [RL a,RL b] [] (FL (nh a b)):=by
 have la:=ha.len;have lb:=hb.len;have fa:=ah a;have fb:=ah b;have tS:=mn 0 (by decide);rw[show((0:Int):Rat)=0 from rfl,bu,bE,bE] at tS;unfold FL RL;obtain⟨T,hT⟩:=ax ((nh a b).map cn);have lT:T.length=9:=by rw[<-hT,length_map];exact fY la lb
 have hTg: ∀ i,i<9->T.getD i rz=cn ((a.getD i rz).q+(b.getD i rz).q):=fun i hi=>by rw[<-hT];exact p5 (by omega) (by omega)
 rw[hT];refine dq Tryz.func101 43 0 ?_;refine aY ?_
 repeat refine ag ?_
 refine wl (α:=Nat) (fun i=>⟨[.any,.any,.ptr 0 0 0,.ptr 1 0 0,.ptr 2 0 0,.int .i64 i]++replicate 39 .any,[.box true (flat (D2 T i a)),.box true (flat b),.box true (gZ 9)]⟩)
  (fun i=>8 - i) (fun i=>i<=8) 0 ?_ ?_ ?_
 .refine eS [0,1,2] ?_ ?_
  .simp[bk,dV,cC]
  rw[EB];simp[et,fK,dp,cC,dL,gZ]
 .exact eB _
 rintro i hi;have vm:=xp (T:=T) (rest:=a) i (by omega);have hof:=ah (D2 T i a);have iO:=cU (rs:=D2 T i a) (i:=i) (by omega);rw[O4 (by omega) (by omega) (qp _)] at iO;have kS:=cU (rs:=b) (i:=i) (by omega);have bM:=J3 (T:=T) (rest:=a) (i:=i) (by omega) (by omega);rw[hTg i (by omega)] at bM;have bW:=OW (a.getD i rz) (b.getD i rz) (ha.at i) (hb.at i);obtain⟨r,hr⟩:=ax (a.getD i rz);obtain⟨s,hs⟩:=ax (b.getD i rz);rw[hr] at iO bM bW;rw[hs] at kS bM bW;have aer:=Ey r;have aes:=Ey s;have bc:=d9 (rs:=D2 T i a) (i:=i) (by omega) (decide ((r.q+s.q).num<0)) (ai (r.q+s.q).num.natAbs) (ai (r.q+s.q).den);have ug:(⟨decide ((r.q+s.q).num<0),ai (r.q+s.q).num.natAbs,ai (r.q+s.q).den⟩:Raw)=cn (r.q+s.q):=rfl;rw[ug,bM] at bc;rw[bu,bE,bE] at bW;unfold Raw.v at bW aer aes;refine aY ?_
 refine bS ?_ ?_
 .intro h1 h2;refine ae (aP h2 iO) ?_
  repeat refine ag ?_
  refine aV aer ?_;refine ae @append_nil.{0} ?_;by_cases h3:(r.num.length:Int)=0
  .have Lo:((r.num.length:Int)==0)=true:=by rw[beq_iff_eq];exact h3
   refine ae (aP Lo kS) ?_
   repeat refine ag ?_
   refine aV aes ?_;by_cases h4:(s.num.length:Int)=0
   .have Xg:((s.num.length:Int)==0)=true:=by rw[beq_iff_eq];exact h4
    have jD:r.q+s.q=0:=by rw[xk h3,xk h4,Rat.add_zero]
    rw[jD] at bc;refine ae (aP Xg @append_nil.{0}) ?_;refine aV tS ?_;refine ae (aP bc @append_nil.{0}) ?_
    repeat refine ag ?_
    refine aw (i+1) ?_ (by omega);exact tN [0,1,2]
   have Xg:((s.num.length:Int)==0)=false:=by rw[qx];exact h4
   refine ae (aP Xg @append_nil.{0}) ?_;refine dw (by kernel_rfl) ?_;refine ae (aP iO kS) ?_
   repeat refine ag ?_
   refine aV bW ?_;refine ae (aP bc @append_nil.{0}) ?_
   repeat refine ag ?_
   refine aw (i+1) ?_ (by omega);exact tN [0,1,2]
  have Lo:((r.num.length:Int)==0)=false:=by rw[qx];exact h3
  refine ae Lo ?_;refine dw (by kernel_rfl) ?_;refine ae (aP iO kS) ?_
  repeat refine ag ?_
  refine aV bW ?_;refine ae (aP bc @append_nil.{0}) ?_
  repeat refine ag ?_
  refine aw (i+1) ?_ (by omega);exact tN [0,1,2]
 intro h1 h2;have uc:i=8:=by omega
 subst uc;rw[J2 (n:=8+1) lT la] at bc;simp only[reduceMul,reduceAdd] at iO kS bc;have qW:(flat T).length=27:=by rw[ah];omega
 refine ae (bR h2 iO kS) ?_
 repeat refine ag ?_
 refine aV bW ?_;simp -dsimp(disch:=omega) only[bc,qW,ar lT,↓reduceIte,reduceAdd,Nat.reduceLT,Nat.reduceLeDiff,ru,zu]
 repeat refine ag ?_
 exact RetOK.form rfl rfl lT
theorem Pd (a b:List Raw) (ha:LOk 1000000000 a) (hb:LOk 1000000000 b):Den Tryz.prog 201 [] [RL a,RL b] [] (.int .i64 (bV a b)):=by
 have la:=ha.len;have lb:=hb.len;have fa:=ah a;have fb:=ah b;unfold RL;refine dq Tryz.func201 26 0 ?_;refine aY ?_
 repeat refine ag ?_
 refine wl (α:=Nat) (fun i=>⟨[.any,.any,.ptr 0 0 0,.ptr 1 0 0,.any,.any,.any,.int .i64 i]++replicate 20 .any,[.box true (flat a),.box true (flat b)]⟩)
  (fun i=>8 - i) (fun i=>i<=8/\bV (a.drop i) (b.drop i)=bV a b) 0 ?_ ?_ ?_
 .exact tN [0,1]
 .exact⟨eB _,rfl⟩
 rintro i ⟨hi,bA⟩;have iO:=cU (rs:=a) (i:=i) (by omega);have kS:=cU (rs:=b) (i:=i) (by omega);have bW:=acs (a.getD i rz) (b.getD i rz) (ha.at i) (hb.at i);have kK:=Bg (a:=a) (b:=b) (i:=i) (by omega) (by omega);have fC:i=8->bV (a.drop i) (b.drop i)=gA ((a.getD i rz).q - (b.getD i rz).q):=fun h=>LY (by omega) (by omega)
 obtain⟨r,hr⟩:=ax (a.getD i rz);obtain⟨s,hs⟩:=ax (b.getD i rz);rw[hr] at iO bW kK fC;rw[hs] at kS bW kK fC;obtain⟨z,hz⟩:=ax (gA (r.q - s.q));rw[hz] at bW kK fC;unfold Raw.v at bW;refine aY ?_;refine bS ?_ ?_
 .intro h1 h2;refine ae h2 ?_;refine dw (by kernel_rfl) ?_;refine ae (aP iO kS) ?_
  repeat refine ag ?_
  refine aV bW ?_;refine ae @append_nil.{0} ?_;refine Br.bneInt ?_ ?_
  .intro h3 h4;rw[if_neg h3] at kK;rw[<-bA,kK];refine ae h4 ?_;refine bj rfl
  intro h3 h4;rw[if_pos h3] at kK;refine ae h4 ?_;refine aw (i+1) ?_ ⟨by omega,by rw[<-kK,bA]⟩;exact tN [0,1]
 intro h1 h2;have uc:i=8:=by omega
 have kR:=fC uc;subst uc;simp only[reduceMul] at iO kS;rw[<-bA,kR];refine ae (bR h2 iO kS) ?_
 repeat refine ag ?_
 refine aV bW ?_;refine ae @append_nil.{0} ?_;refine bj rfl
theorem CM {a:List Raw} {i:Nat} (ha:a.length=9) (hi:i<8) (h:(a.getD i rz).q≠0):cQ a=false:=by
 unfold cQ;rw[List.all_eq_false];refine⟨a.getD i rz,?_,fun h2=>h (of_decide_eq_true h2)⟩;rw[qa,qb (by omega)];exact mem_take_iff_getElem.2 ⟨i,by omega,rfl⟩
theorem EP {a:List Raw} (h: ∀ i,i<8->(a.getD i rz).q=0):cQ a=true:=by
 unfold cQ;rw[pR];intro r hr;obtain⟨i,hi,rfl⟩:=mem_take_iff_getElem.1 hr;have:=h i (by omega);rw[qa,qb (by omega)] at this;exact ir this
theorem Pe (a:List Raw) (ha:LOk 1000000000 a):Den Tryz.prog 145 [] [RL a] [] (.bool (cQ a)):=by
 have la:=ha.len;have fa:=ah a;have gv:List.take 24 (flat a)=flat (a.take 8):=pW 8 a;have f8:(flat (a.take 8)).length=24:=by rw[ah,length_take];omega
 unfold RL;refine dq Tryz.func145 13 0 ?_;refine bU gv ?_
 repeat refine ag ?_
 refine wl (α:=Nat) (fun i=>⟨[.any,.ptr 0 0 0,.any,.any,.any,.any,.agg (flat (a.take 8)),.int .i64 i]++replicate 6 .any,[.box true (flat a)]⟩)
  (fun i=>8 - i) (fun i=>i<=8/\ ∀ j,j<i->(a.getD j rz).q=0) 0 ?_ ?_ ?_
 .refine eS [0] ?_ ?_
  .simp[bk,dV,cC,dL]
  simp[et,fK,dL]
 .exact⟨eB _,fun j h=>by omega⟩
 rintro i ⟨hi,bA⟩;refine aY ?_;refine bS ?_ ?_
 .intro h1 h2;have gG:=cU (rs:=a.take 8) (i:=i) (by rw[length_take];omega);have AE:(a.take 8).getD i rz=a.getD i rz:=by
   simp only[qa,List.getElem?_take];rw[if_pos (by omega)]
  rw[AE] at gG;have bW:=mm (a.getD i rz) ((ha.at i).mono (by decide));obtain⟨r,hr⟩:=ax (a.getD i rz);rw[hr] at gG bW;unfold Raw.v at bW;refine ae (bR h2 gG @append_nil.{0}) ?_
  repeat refine ag ?_
  refine aV bW ?_;refine ae @append_nil.{0} ?_;refine Br.bneInt ?_ ?_
  .intro h3 h4;rw[CM (i:=i) la (by omega) (by rw[hr];exact fun h=>h3 (bh.2 h))];refine ae h4 ?_;refine bj rfl
  intro h3 h4;refine ae h4 ?_;refine aw (i+1) ?_ ⟨by omega,fun j hj=>?_⟩
  .refine eS [0] ?_ ?_
   .simp[bk,dV,cC,dL]
   simp[et,fK,dL]
  by_cases AI:j=i
  .rw[AI,hr];exact bh.1 h3
  exact bA j (by omega)
 intro h1 h2;rw[EP (fun j hj=>bA j (by omega))];refine ae h2 ?_;refine bj rfl
set_option maxHeartbeats 4000000
end Go.Proofs.YtjjbkjgifdhlcaaGreat
namespace Go.Pl
open Go.AM
theorem kW {q:Rat}:gA q<0↔q<0:=by
 have h:=uC (x:=q) (y:=0);have e:q - 0=q:=by grind
 rw[e] at h;exact h
theorem kX {q:Rat}:0<gA q↔0<q:=by
 have h:=O5 (x:=q) (y:=0);have e:q - 0=q:=by grind
 rw[e] at h;exact h
theorem rU {q:Rat} (h:0<q):gA q=1:=by
 have:=kX.2 h;rcases j9 q with h1 | h1 | h1<;>omega
theorem xE {q:Rat} (h:q<0):gA q= -1:=by
 have:=kW.2 h;rcases j9 q with h1 | h1 | h1<;>omega
theorem Pf {a:List Raw} {v i:Nat} (hi:i<a.length):(a.set v rz).getD i rz=if v=i then rz else a.getD i rz:=by
 simp only[qa,getElem?_set];split
 .rename_i h;subst h;simp[hi]
 rfl
theorem o0 {a:List Raw} {i:Nat} (g:Raw->Rat) (hi:i<a.length):(((a.map g).map cn).getD i rz).q=g (a.getD i rz):=by
 have:((a.map g).map cn).getD i rz=cn (g (a.getD i rz)):=by simp[qa,hi]
 rw[this,de]
def co (a:List Raw) (i:Nat):Rat:=(a.getD i rz).q
def lv (a:List Raw) (x:Nat->Rat):Nat->Rat
 | 0=>co a 8
 | k+1=>lv a x k+co a k*x k
def aB (a:List Raw) (x:Nat->Rat):Rat:=lv a x 8
def CN (cs:List (List Raw)):Prop:= ∃ x:Nat->Rat,∀ l∈cs,0<aB l x
def upd (x:Nat->Rat) (v:Nat) (t:Rat):Nat->Rat:=fun i=>if i=v then t else x i
theorem Pg {a:List Raw} {x:Nat->Rat} {v:Nat} {t:Rat}: ∀ k,lv a (upd x v t) k=lv a x k+(if v<k then co a v*(t - x v) else 0)
 | 0=>by unfold lv;rw[if_neg (by omega)];grind
 | k+1=>by
  unfold lv;rw[Pg k];by_cases h:v=k
  .subst h;rw[if_neg (by omega),if_pos (by omega)];simp only[upd,if_pos];grind
  have h2:upd x v t k=x k:=if_neg (fun h3=>h h3.symm);rw[h2];by_cases h3:v<k
  .rw[if_pos h3,if_pos (by omega)];grind
  rw[if_neg h3,if_neg (by omega)];grind
theorem f0 {a:List Raw} {x:Nat->Rat} {v:Nat} {t:Rat} (hv:v<8):aB a (upd x v t)=aB a x+co a v*(t - x v):=by
 unfold aB;rw[Pg,if_pos hv]
theorem xF {a b:List Raw} {x:Nat->Rat} (h: ∀ i,i<9->co a i=co b i): ∀ k,k<=8->lv a x k=lv b x k
 | 0,_=>h 8 (by omega)
 | k+1,hk=>by unfold lv;rw[xF h k (by omega),h k (by omega)]
theorem Ph {a b c:List Raw} {r s:Rat} {x:Nat->Rat} (h: ∀ i,i<9->co c i=r*co a i+s*co b i): ∀ k,k<=8->lv c x k=r*lv a x k+s*lv b x k
 | 0,_=>h 8 (by omega)
 | k+1,hk=>by unfold lv;rw[Ph h k (by omega),h k (by omega)];grind
theorem s4 {a b c:List Raw} {r s:Rat} {x:Nat->Rat} (h: ∀ i,i<9->co c i=r*co a i+s*co b i):aB c x=r*aB a x+s*aB b x:=Ph h 8 (by omega)
theorem Pj: ∀ L:List Rat,L≠[]-> ∃ m∈L,∀ l∈L,l<=m
 | [],h=>absurd rfl h
 | [a],_=>⟨a,by simp,fun l hl=>by simp at hl;subst hl;exact Rat.le_refl⟩
 | a::b::t,_=>by
  obtain⟨m,hm,h⟩:=Pj (b::t) (by simp);by_cases hc:a<=m
  .exact⟨m,mem_cons_of_mem _ hm,fun l hl=>by
    rcases List.mem_cons.1 hl with h1 | h1
    .rw[h1];exact hc
    exact h l h1⟩
  exact⟨a,by simp,fun l hl=>by
   rcases List.mem_cons.1 hl with h1 | h1
   .rw[h1];exact Rat.le_refl
   have:=h l h1;grind⟩
theorem HP: ∀ L:List Rat,L≠[]-> ∃ m∈L,∀ l∈L,m<=l
 | [],h=>absurd rfl h
 | [a],_=>⟨a,by simp,fun l hl=>by simp at hl;subst hl;exact Rat.le_refl⟩
 | a::b::t,_=>by
  obtain⟨m,hm,h⟩:=HP (b::t) (by simp);by_cases hc:m<=a
  .exact⟨m,mem_cons_of_mem _ hm,fun l hl=>by
    rcases List.mem_cons.1 hl with h1 | h1
    .rw[h1];exact hc
    exact h l h1⟩
  exact⟨a,by simp,fun l hl=>by
   rcases List.mem_cons.1 hl with h1 | h1
   .rw[h1];exact Rat.le_refl
   have:=h l h1;grind⟩
theorem S6 (L U:List Rat) (h: ∀ l∈L,∀ u∈U,l<u): ∃ m,(∀ l∈L,l<m)/\(∀ u∈U,m<u):=by
 by_cases hL:L=[]
 .by_cases hU:U=[]
  .subst hL;subst hU;exact⟨0,by simp,by simp⟩
  obtain⟨m,hm,zF⟩:=HP U hU;subst hL;exact⟨m - 1,by simp,fun u hu=>by have:=zF u hu;grind⟩
 obtain⟨m,hm,AP⟩:=Pj L hL;by_cases hU:U=[]
 .subst hU;exact⟨m+1,fun l hl=>by have:=AP l hl;grind,by simp⟩
 obtain⟨w,hw,zF⟩:=HP U hU;have hmw:=h m hm w hw;exact⟨(m+w) / 2,fun l hl=>by have:=AP l hl;grind,fun u hu=>by have:=zF u hu;grind⟩
def q' (a:List Raw) (v:Nat) (b:List Raw):Prop:=co a v≠0/\ ∀ i,i<9->co b i=if v=i then 0 else co a i*(-1 / co a v)
theorem ER {a b:List Raw} {v:Nat} {x:Nat->Rat} (hb:q' a v b) (hv:v<8): ∀ k,k<=8->lv a x k=(if v<k then co a v*x v else 0) - co a v*lv b x k
 | 0,_=>by
  have h0:=hb.1;unfold lv;rw[hb.2 8 (by omega),if_neg (by omega),if_neg (by omega)];grind
 | k+1,hk=>by
  have h0:=hb.1;unfold lv;rw[ER hb hv k (by omega),hb.2 k (by omega)];generalize lv b x k=z;by_cases h:v=k
  .subst h;rw[if_neg (by omega),if_pos rfl,if_pos (by omega)];grind
  rw[if_neg h];by_cases h2:v<k
  .rw[if_pos h2,if_pos (by omega)];grind
  rw[if_neg h2,if_neg (by omega)];grind
theorem kz {a b:List Raw} {v:Nat} {x:Nat->Rat} (hb:q' a v b) (hv:v<8):aB a x=co a v*(x v - aB b x):=by
 unfold aB;rw[ER hb hv 8 (by omega),if_pos hv];grind
theorem Bx {a b:List Raw} {v:Nat} {x:Nat->Rat} (hb:q' a v b) (hv:v<8) (h:0<co a v):0<aB a x↔aB b x<x v:=by
 rw[kz hb hv];constructor
 .intro h1;rcases Rat.not_le.1 (fun h2:x v<=aB b x=>by
   have h3:0<=aB b x - x v:=by grind
   have h4:=Rat.mul_nonneg (Rat.le_of_lt h) h3;grind) with h5
  exact h5
 intro h1;exact Rat.mul_pos h (by grind)
theorem Bz {a b:List Raw} {v:Nat} {x:Nat->Rat} (hb:q' a v b) (hv:v<8) (h:co a v<0):0<aB a x↔x v<aB b x:=by
 rw[kz hb hv];have hn:0< -co a v:=by grind
 constructor
 .intro h1;rcases Rat.not_le.1 (fun h2:aB b x<=x v=>by
   have h3:0<=x v - aB b x:=by grind
   have h4:=Rat.mul_nonneg (Rat.le_of_lt hn) h3;grind) with h5
  exact h5
 intro h1;have h2:=Rat.mul_pos hn (show 0<aB b x - x v by grind);grind
def X4 (cs:List (List Raw)) (v:Nat) (B:List Raw->List Raw) (x:Nat->Rat):Prop:=
 (∀ l∈cs,co l v=0->0<aB l x)/\ ∀ l∈cs,∀ u∈cs,0<co l v->co u v<0->aB (B l) x<aB (B u) x
theorem f_ {a:List Raw} {x:Nat->Rat} {v:Nat} {t:Rat} (hv:v<8) (h:co a v=0):aB a (upd x v t)=aB a x:=by
 rw[f0 hv,h];grind
theorem mz {a b:List Raw} {v:Nat} (hb:q' a v b) (hv:v<8):co b v=0:=by
 rw[hb.2 v (by omega),if_pos rfl]
theorem Ke {cs:List (List Raw)} {v:Nat} {B:List Raw->List Raw} {x:Nat->Rat} (hv:v<8) (hB: ∀ l∈cs,co l v≠0->q' l v (B l)) (h: ∀ l∈cs,0<aB l x):X4 cs v B x:=by
 refine⟨fun l hl _=>h l hl,fun l hl u hu h1 h2=>?_⟩;have b1:=(Bx (hB l hl (by grind)) hv h1).1 (h l hl);have b2:=(Bz (hB u hu (by grind)) hv h2).1 (h u hu);grind
theorem S7 {cs:List (List Raw)} {v:Nat} {B:List Raw->List Raw} {x:Nat->Rat} (hv:v<8) (hB: ∀ l∈cs,co l v≠0->q' l v (B l)) (h:X4 cs v B x): ∃ t,∀ l∈cs,0<aB l (upd x v t):=by
 obtain⟨m,hL,hU⟩:=S6 ((cs.filter (fun l=>decide (0<co l v))).map (fun l=>aB (B l) x)) ((cs.filter (fun l=>decide (co l v<0))).map (fun l=>aB (B l) x)) (by
  intro p hp q hq;simp only[mem_map,mem_filter,decide_eq_true_eq] at hp hq;obtain⟨l,⟨hl,h1⟩,rfl⟩:=hp;obtain⟨u,⟨hu,h2⟩,rfl⟩:=hq;exact h.2 l hl u hu h1 h2)
 refine⟨m,fun l hl=>?_⟩;have hxv:upd x v m v=m:=if_pos rfl;by_cases h0:co l v=0
 .rw[f_ hv h0];exact h.1 l hl h0
 have hb:=hB l hl h0;have kL:aB (B l) (upd x v m)=aB (B l) x:=f_ hv (mz hb hv);by_cases h1:0<co l v
 .rw[Bx hb hv h1,kL,hxv];exact hL _ (mem_map.2 ⟨l,mem_filter.2 ⟨hl,ir h1⟩,rfl⟩)
 have h2:co l v<0:=by grind
 rw[Bz hb hv h2,kL,hxv];exact hU _ (mem_map.2 ⟨l,mem_filter.2 ⟨hl,ir h2⟩,rfl⟩)
structure Proj (cs:List (List Raw)) (v:Nat) (out:List (List Raw)):Prop where
 says: ∃ B:List Raw->List Raw,(∀ l∈cs,co l v≠0->q' l v (B l))/\ ∀ x,(∀ o∈out,0<aB o x)↔X4 cs v B x
theorem ES {a:List Raw} {x:Nat->Rat} (h: ∀ i,i<8->co a i=0): ∀ k,k<=8->lv a x k=co a 8
 | 0,_=>rfl
 | k+1,hk=>by unfold lv;rw[ES h k (by omega),h k (by omega)];grind
theorem d_ {a:List Raw} {x:Nat->Rat} (h: ∀ i,i<8->co a i=0):aB a x=co a 8:=ES h 8 (by omega)
theorem HQ {a b:List Raw} {r:Rat} {x:Nat->Rat} (hr:0<r) (h: ∀ i,i<9->co b i=r*co a i):0<aB b x↔0<aB a x:=by
 have e:aB b x=r*aB a x+0*aB a x:=s4 (fun i hi=>by rw[h i hi];grind);have e2:aB b x=r*aB a x:=by rw[e];grind
 rw[e2];constructor
 .intro h1;rcases Rat.not_le.1 (fun h2:aB a x<=0=>by
   have h3:=Rat.mul_nonneg (Rat.le_of_lt hr) (show 0<= -aB a x by grind);grind) with h4
  exact h4
 intro h1;exact Rat.mul_pos hr h1
theorem Proj.mk' {cs out:List (List Raw)} {v:Nat} (B:List Raw->List Raw) (hB: ∀ l∈cs,co l v≠0->q' l v (B l))
 (h1: ∀ l∈cs,co l v=0-> ∃ o∈out,∀ i,i<9->co o i=co l i) (h2: ∀ l∈cs,∀ u∈cs,0<co l v->co u v<0-> ∃ o∈out,∀ i,i<9->co o i=co (B u) i - co (B l) i)
 (h3: ∀ o∈out,(∃ l∈cs,co l v=0/\ ∀ i,i<9->co o i=co l i)\/ ∃ l∈cs,∃ u∈cs,0<co l v/\co u v<0/\ ∀ i,i<9->co o i=co (B u) i - co (B l) i):Proj cs v out:=by
 refine⟨B,hB,fun x=>⟨fun h=>⟨fun l hl h0=>?_,fun l hl u hu hp hn=>?_⟩,fun h o ho=>?_⟩⟩
 .obtain⟨o,ho,he⟩:=h1 l hl h0
  have e:aB o x=aB l x:=xF he 8 (by omega)
  rw[<-e];exact h o ho
 .obtain⟨o,ho,he⟩:=h2 l hl u hu hp hn
  have e:aB o x=1*aB (B u) x+(-1)*aB (B l) x:=s4 (fun i hi=>by rw[he i hi];grind)
  have:=h o ho
  grind
 rcases h3 o ho with⟨l,hl,h0,he⟩ | ⟨l,hl,u,hu,hp,hn,he⟩
 .have e:aB o x=aB l x:=xF he 8 (by omega)
  rw[e];exact h.1 l hl h0
 have e:aB o x=1*aB (B u) x+(-1)*aB (B l) x:=s4 (fun i hi=>by rw[he i hi];grind)
 have:=h.2 l hl u hu hp hn
 grind
theorem lM {α:Type} {lt:α->α->Prop} (asymm: ∀ a b,lt a b-> ¬lt b a): ∀ s t:List α,s.Pairwise lt->t.Pairwise lt->(∀ f,f∈s↔f∈t)->s=t
 | [],[],_,_,_=>rfl
 | [],b::t,_,_,h=>by have:=(h b).2 (by simp);simp at this
 | a::s,[],_,_,h=>by have:=(h a).1 (by simp);simp at this
 | a::s,b::t,hs,ht,h=>by
  have wW:=pairwise_cons.1 hs;have Jh:=pairwise_cons.1 ht;have vo:a=b:=by
   rcases List.mem_cons.1 ((h a).1 (by simp)) with h1 | h1
   .exact h1
   rcases List.mem_cons.1 ((h b).2 (by simp)) with h2 | h2
   .exact h2.symm
   exact absurd (Jh.1 a h1) (asymm _ _ (wW.1 b h2))
  subst vo;have AQ: ¬lt a a:=fun h1=>asymm _ _ h1 h1
  have kJ:a∉s:=fun h1=>AQ (wW.1 a h1)
  have ub:a∉t:=fun h1=>AQ (Jh.1 a h1)
  have hm: ∀ f,f∈s↔f∈t:=fun f=>by
   constructor
   .intro h1;rcases List.mem_cons.1 ((h f).1 (mem_cons_of_mem _ h1)) with h2 | h2
    .subst h2;exact absurd h1 kJ
    exact h2
   intro h1;rcases List.mem_cons.1 ((h f).2 (mem_cons_of_mem _ h1)) with h2 | h2
   .subst h2;exact absurd h1 ub
   exact h2
  rw[lM asymm s t wW.2 Jh.2 hm]
def aN (a:List Raw):Prop:= ∀ i,i<8->co a i=0
def eL (a:List Raw):List Raw:=(nrm a).map cn
structure IsSys (cs s:List (List Raw)):Prop where
 sorted:s.Pairwise (fun a b=>bV a b<0)
 mem: ∀ f,f∈s↔ ∃ l∈cs,¬aN l/\f=eL l
theorem IsSys.unique {cs s t:List (List Raw)} (h1:IsSys cs s) (h2:IsSys cs t):s=t:=
 lM (lt:=fun a b=>bV a b<0) (fun a b h h'=>by rw[dM] at h';omega) s t h1.sorted h2.sorted (fun f=>by rw[h1.mem,h2.mem])
def occ (cs:List (List Raw)) (v:Nat):Bool:=cs.any (fun l=>decide (co l v≠0))
def bD (cs:List (List Raw)):Nat:=((List.range 8).filter (occ cs)).length
theorem fh {cs:List (List Raw)} {v:Nat}:occ cs v=true↔ ∃ l∈cs,co l v≠0:=by
 unfold occ;rw[any_eq_true];constructor
 .rintro⟨l,hl,h⟩;exact⟨l,hl,of_decide_eq_true h⟩
 rintro⟨l,hl,h⟩;exact⟨l,hl,ir h⟩
theorem BA {p q:Nat->Bool}: ∀ {l:List Nat} {v:Nat},(∀ w∈l,q w=true->p w=true)->v∈l->p v=true->q v=false->(l.filter q).length<(l.filter p).length
 | [],v,_,hv,_,_=>by simp at hv
 | w::l,v,h,hv,hp,hq=>by
  have dT: ∀ l:List Nat,(∀ w∈l,q w=true->p w=true)->(l.filter q).length<=(l.filter p).length:=by
   intro l
   induction l with
   | nil=>intro _;simp
   | cons a l ih=>
    intro h;have ih:=ih (fun w hw=>h w (mem_cons_of_mem _ hw));cases Zz:q a with
    | true=>
     have SC:=h a (by simp) Zz;simp[Zz,SC];omega
    | false=>
     cases SC:p a<;>simp[Zz,SC]<;>omega
  have hl: ∀ w∈l,q w=true->p w=true:=fun w hw=>h w (mem_cons_of_mem _ hw)
  rcases List.mem_cons.1 hv with h1 | h1
  .subst h1;have:=dT l hl;simp[hq,hp];omega
  have ih:=BA hl h1 hp hq;cases Zz:q w with
  | true=>
   have SC:=h w (by simp) Zz;simp[Zz,SC];omega
  | false=>
   cases SC:p w<;>simp[Zz,SC]<;>omega
theorem Pk {cs out:List (List Raw)} {v:Nat} (hv:v<8) (h: ∀ w,w<8->occ out w=true->occ cs w=true) (h1:occ cs v=true) (h2:occ out v=false):bD out<bD cs:=
 BA (l:=List.range 8) (v:=v) (fun w hw=>h w (List.mem_range.1 hw)) (List.mem_range.2 hv) h1 h2
theorem BB {cs:List (List Raw)} {v:Nat} (hv:v<8) (h:occ cs v=true):0<bD cs:=by
 unfold bD;exact List.length_pos_iff.2 (fun h2=>by
  have:v∈(List.range 8).filter (occ cs):=mem_filter.2 ⟨List.mem_range.2 hv,h⟩;rw[h2] at this;simp at this)
theorem p_ {a:List Raw} (h: ¬aN a): ∃ v,v<8/\co a v≠0:=by
 rcases Classical.em (∃ v,v<8/\co a v≠0) with h1 | h1
 .exact h1
 exfalso;apply h;intro i hi;rcases Classical.em (co a i=0) with h2 | h2
 .exact h2
 exact absurd ⟨i,hi,h2⟩ h1
theorem p' {C:Rat} (hC:C≠0): ∀ {rs:List Raw},(b' ((rs.map (fun r=>r.q / C)).map cn)).q=(b' rs).q / C
 | []=>by simp only[List.map_nil,b'];rw[JX];grind
 | [c]=>by simp only[map_cons,List.map_nil,b',de]
 | r::s::t=>by
  have ih:=p' hC (rs:=s::t);simp only[map_cons] at ih ⊢;simp only[b'];rw[de];by_cases h:r.q=0
  .rw[if_pos h,if_pos (by rw[h];grind)];exact ih
  rw[if_neg h,if_neg (by grind),de]
theorem uN {c:Rat} (h:c≠0):0<fX c:=by
 have h1:c.num<0↔c<0:=eV;unfold fX;split
 .rename_i h2;have:=h1.1 h2;grind
 rename_i h2;have: ¬c<0:=fun h3=>h2 (h1.2 h3)
 grind
theorem HR {c:Rat} (h:c≠0):fX (c / fX c)=1:=by
 have hp:=uN h;have h1:(c / fX c).num<0↔c / fX c<0:=eV;have h2:c.num<0↔c<0:=eV;by_cases hc:c.num<0
 .have e:fX c= -c:=if_pos hc;have oH:=h2.1 hc;have e2:c / fX c= -1:=by rw[e];grind
  rw[e2];rfl
 have e:fX c=c:=if_neg hc;have e2:c / fX c=1:=by rw[e];grind
 rw[e2];rfl
theorem Pm {rs:List Raw} (_:rs.length=9):nrm ((nrm rs).map cn)=nrm rs:=by
 by_cases h:(b' rs).q=0
 .rw[sR h];apply sR;have hm:=uy (rs:=(replicate 9 (0:Rat)).map cn) (by simp);obtain⟨q,hq,he⟩:=mem_map.1 hm;rw[<-he,de];exact List.eq_of_mem_replicate hq
 have h1:=xm h;have hC:=uA h;have h2:(b' ((nrm rs).map cn)).q=(b' rs).q / fX (b' rs).q:=by rw[h1];exact p' hC
 have h3:(b' ((nrm rs).map cn)).q≠0:=by rw[h2];grind
 rw[xm h3,h2,HR h,List.map_map];have h4:(fun r:Raw=>r.q / 1) ∘ cn=id:=by
  funext q;simp only[Function.comp,de,id];grind
 rw[h4,List.map_id]
theorem X5 {a:List Raw} {i:Nat} (h:i<a.length):a.getD i rz∈a:=by
 rw[qa,qb h];exact ki h
theorem wF {l:List Raw} (hl:l.length=9) (h: ¬aN l):(b' l).q≠0:=fun h0=>h (fun i hi=>rJ h0 _ (X5 (by omega)))
theorem o4 {l:List Raw} (hl:l.length=9):(eL l).length=9:=by
 unfold eL nrm;rw[length_map];split
 .simp
 rw[length_map,hl]
theorem qc {l:List Raw} (hl:l.length=9) (h:(b' l).q≠0) {i:Nat} (hi:i<9):co (eL l) i=co l i / fX (b' l).q:=by
 unfold co eL;rw[xm h];exact o0 (a:=l) (fun r=>r.q / fX (b' l).q) (by omega)
theorem xG {l:List Raw} (hl:l.length=9) (h: ¬aN l): ∃ r:Rat,0<r/\ ∀ i,i<9->co (eL l) i=r*co l i:=by
 have h0:=wF hl h;have hp:=uN h0;refine⟨1 / fX (b' l).q,?_,fun i hi=>by rw[qc hl h0 hi];grind⟩;have:=Rat.inv_pos (a:=fX (b' l).q) |>.2 hp;have e:1 / fX (b' l).q=(fX (b' l).q)⁻¹:=by grind
 rw[e];exact this
theorem rV {l:List Raw} (hl:l.length=9) (h: ¬aN l): ¬aN (eL l):=by
 obtain⟨r,hr,he⟩:=xG hl h;intro h2;apply h;intro i hi;have h3:=h2 i hi;rw[he i (by omega)] at h3;rcases Rat.mul_eq_zero.1 h3 with h4 | h4
 .rw[h4] at hr;exact absurd hr (Rat.lt_irrefl)
 exact h4
theorem CO {l:List Raw} (hl:l.length=9) (h: ¬aN l) {i:Nat} (hi:i<9):(co (eL l) i=0↔co l i=0):=by
 obtain⟨r,hr,he⟩:=xG hl h;rw[he i hi];constructor
 .intro h3;rcases Rat.mul_eq_zero.1 h3 with h4 | h4
  .rw[h4] at hr;exact absurd hr (Rat.lt_irrefl)
  exact h4
 intro h3;rw[h3,Rat.mul_zero]
theorem ET {l:List Raw} (hl:l.length=9) (h: ¬aN l) {x:Nat->Rat}:0<aB (eL l) x↔0<aB l x:=by
 obtain⟨r,hr,he⟩:=xG hl h;exact HQ hr he
theorem Mb {l:List Raw} (hl:l.length=9):eL (eL l)=eL l:=by
 unfold eL;rw[Pm hl]
theorem wG {k:Nat} {l:List Raw} (h:LOk k l) (hk:1<=k):LOk (2*k) (eL l):=by
 refine LOk.of_map ?_ ?_
 .have:=o4 h.len;unfold eL at this;rwa [length_map] at this
 intro x hx;by_cases h0:(b' l).q=0
 .rw[sR h0] at hx;rw[List.eq_of_mem_replicate hx];exact Bd.zero (by omega)
 rw[xm h0] at hx;simp only[mem_map] at hx;obtain⟨r,hr,rfl⟩:=hx;have cX:l≠[]:=fun h2=>by rw[h2] at hr;simp at hr
 have b1:=(h.ok _ hr).bd hk;have b2:=(h.ok _ (uy cX)).bd hk;have b3:Bd k (fX (b' l).q):=by unfold fX;split;exact b2.neg;exact b2
 exact Bd.mono (b1.div b3 (uA h0) (by omega)) (by omega)
def In (cs:List (List Raw)) (x:Nat->Rat):Prop:= ∀ l∈cs,0<aB l x\/(aN l/\aB l x=0)
def jd (cs:List (List Raw)) (x:Nat->Rat):Prop:= ∀ l∈cs,0<aB l x
def EU (cs:List (List Raw)):Prop:= ∃ l∈cs,aN l/\co l 8<0
theorem S8 {cs:List (List Raw)} (h:EU cs) (x:Nat->Rat): ¬In cs x:=by
 obtain⟨l,hl,hc,hn⟩:=h;intro hi;have e:aB l x=co l 8:=d_ hc;rcases hi l hl with h1 | ⟨_,h1⟩<;>rw[e] at h1<;>grind
theorem xH {cs s:List (List Raw)} (h9: ∀ l∈cs,l.length=9) (h:IsSys cs s) (hv: ¬EU cs) (x:Nat->Rat):In cs x↔jd s x:=by
 constructor
 .intro hi f hf;obtain⟨l,hl,hc,rfl⟩:=(h.mem f).1 hf;rw[ET (h9 l hl) hc];rcases hi l hl with h1 | ⟨h1,_⟩
  .exact h1
  exact absurd h1 hc
 intro hp l hl;rcases Classical.em (aN l) with hc | hc
 .have e:aB l x=co l 8:=d_ hc;rw[e];by_cases h0:co l 8=0
  .exact Or.inr ⟨hc,h0⟩
  left;have: ¬co l 8<0:=fun h1=>hv ⟨l,hl,hc,h1⟩
  grind
 left;rw[<-ET (h9 l hl) hc];exact hp _ ((h.mem _).2 ⟨l,hl,hc,rfl⟩)
structure SysF (k:Nat) (s:List (List Raw)):Prop where
 sorted:s.Pairwise (fun a b=>bV a b<0)
 ok: ∀ l∈s,LOk k l
 nc: ∀ l∈s,¬aN l
 nm: ∀ l∈s,eL l=l
theorem SysF.of {cs s:List (List Raw)} {k:Nat} (h9: ∀ l∈cs,l.length=9) (h:IsSys cs s) (hk: ∀ l∈cs,¬aN l->LOk k (eL l)):SysF k s:=by
 refine⟨h.sorted,fun f hf=>?_,fun f hf=>?_,fun f hf=>?_⟩<;>obtain⟨l,hl,hc,rfl⟩:=(h.mem f).1 hf
 .exact hk l hl hc
 .exact rV (h9 l hl) hc
 exact Mb (h9 l hl)
theorem SysF.self {k:Nat} {s:List (List Raw)} (h:SysF k s):IsSys s s:=⟨h.sorted,fun f=>⟨fun hf=>⟨f,hf,h.nc f hf,(h.nm f hf).symm⟩,fun⟨l,hl,_,he⟩=>by rw[he,h.nm l hl];exact hl⟩⟩
theorem Kf {cs s:List (List Raw)} (h9: ∀ l∈cs,l.length=9) (h:IsSys cs s) {w:Nat} (hw:w<8):occ s w=true↔occ cs w=true:=by
 rw[fh,fh];constructor
 .rintro⟨f,hf,h0⟩;obtain⟨l,hl,hc,rfl⟩:=(h.mem f).1 hf;exact⟨l,hl,fun h1=>h0 ((CO (h9 l hl) hc (by omega)).2 h1)⟩
 rintro⟨l,hl,h0⟩;have hc: ¬aN l:=fun h1=>h0 (h1 w hw)
 exact⟨eL l,(h.mem _).2 ⟨l,hl,hc,rfl⟩,fun h1=>h0 ((CO (h9 l hl) hc (by omega)).1 h1)⟩
theorem cv {a:List Raw} (ha:a.length=9):cQ a=true↔aN a:=by
 unfold cQ aN;rw[pR];constructor
 .intro h i hi;refine of_decide_eq_true (h (a.getD i rz) ?_);rw[qa,qb (by omega)];exact mem_take_iff_getElem.2 ⟨i,by omega,rfl⟩
 intro h r hr;obtain⟨i,hi,rfl⟩:=mem_take_iff_getElem.1 hr;have:=h i (by omega);unfold co at this;rw[qa,qb (by omega)] at this;exact ir this
def bZ (v:Nat) (l:List Raw):List Raw:=((l.set v rz).map (fun r=>r.q*(-1 / (l.getD v rz).q))).map cn
def cK (l:List Raw):List Raw:=(l.map (fun r=>r.q*((-1:Int):Rat))).map cn
def cB (u l:List Raw):List Raw:=(nh u (cK l)).map cn
def aR (s:List (List Raw)) (v:Nat):List (List Raw):=(s.filter (fun l=>decide (0<co l v))).map (bZ v)
def aE (s:List (List Raw)) (v:Nat):List (List Raw):=(s.filter (fun l=>decide (co l v<0))).map (bZ v)
def d5 (s:List (List Raw)) (v:Nat):List (List Raw):=s.filter (fun l=>decide (co l v=0))
def fT (s:List (List Raw)) (v:Nat):List (List Raw):=d5 s v++(aE s v).flatMap fun u=>(aR s v).map fun l=>cB u l
def S9 (s:List (List Raw)) (v:Nat):Prop:= ∃ u∈aE s v,∃ l∈aR s v,aN (cB u l)/\co (cB u l) 8<=0
theorem cL {v:Nat} {l:List Raw} (h:l.length=9):(bZ v l).length=9:=by simp[bZ,h]
theorem d' {l:List Raw} (h:l.length=9):(cK l).length=9:=by simp[cK,h]
theorem gL {u l:List Raw} (hu:u.length=9) (hl:l.length=9):(cB u l).length=9:=by
 unfold cB;rw[length_map,fY hu (d' hl)]
theorem dA {v:Nat} {l:List Raw} (h:l.length=9) (h0:co l v≠0):q' l v (bZ v l):=by
 refine⟨h0,fun i hi=>?_⟩;unfold co bZ;rw[o0 _ (by rw[qkb];omega),Pf (by omega)];by_cases hv:v=i
 .rw[if_pos hv,if_pos hv,JX];grind
 rw[if_neg hv,if_neg hv]
theorem iB {l:List Raw} (h:l.length=9) {i:Nat} (hi:i<9):co (cK l) i= -co l i:=by
 unfold co cK;rw[o0 _ (by omega)];grind
theorem nv {u l:List Raw} (hu:u.length=9) (hl:l.length=9) {i:Nat} (hi:i<9):co (cB u l) i=co u i - co l i:=by
 have h1:=iB hl hi;unfold co at h1 ⊢;unfold cB;rw[p5 (by omega) (by rw[d' hl];omega),de,h1];grind
theorem fj {s:List (List Raw)} {v:Nat} {b:List Raw}:b∈aR s v↔ ∃ l∈s,0<co l v/\b=bZ v l:=by
 unfold aR;simp only[mem_map,mem_filter,decide_eq_true_eq];constructor
 .rintro⟨l,⟨h1,h2⟩,rfl⟩;exact⟨l,h1,h2,rfl⟩
 rintro⟨l,h1,h2,rfl⟩;exact⟨l,⟨h1,h2⟩,rfl⟩
theorem ea {s:List (List Raw)} {v:Nat} {b:List Raw}:b∈aE s v↔ ∃ l∈s,co l v<0/\b=bZ v l:=by
 unfold aE;simp only[mem_map,mem_filter,decide_eq_true_eq];constructor
 .rintro⟨l,⟨h1,h2⟩,rfl⟩;exact⟨l,h1,h2,rfl⟩
 rintro⟨l,h1,h2,rfl⟩;exact⟨l,⟨h1,h2⟩,rfl⟩
theorem iC {s:List (List Raw)} {v:Nat} {b:List Raw}:b∈d5 s v↔b∈s/\co b v=0:=by
 unfold d5;simp only[mem_filter,decide_eq_true_eq]
theorem kY {s:List (List Raw)} {v:Nat} {o:List Raw}:o∈fT s v↔(o∈s/\co o v=0)\/ ∃ l∈s,∃ u∈s,0<co l v/\co u v<0/\o=cB (bZ v u) (bZ v l):=by
 unfold fT;rw[qr,iC,List.mem_flatMap];constructor
 .rintro(h | ⟨u,hu,h⟩)
  .exact Or.inl h
  right;obtain⟨l,hl,rfl⟩:=mem_map.1 h;obtain⟨u',h1,h2,rfl⟩:=ea.1 hu;obtain⟨l',h3,h4,rfl⟩:=fj.1 hl;exact⟨l',h3,u',h1,h4,h2,rfl⟩
 rintro(h | ⟨l,hl,u,hu,h1,h2,rfl⟩)
 .exact Or.inl h
 exact Or.inr ⟨_,ea.2 ⟨u,hu,h2,rfl⟩,mem_map.2 ⟨_,fj.2 ⟨l,hl,h1,rfl⟩,rfl⟩⟩
theorem nw {s:List (List Raw)} {v:Nat} (h9: ∀ l∈s,l.length=9): ∀ o∈fT s v,o.length=9:=by
 intro o ho;rcases kY.1 ho with⟨h,_⟩ | ⟨l,hl,u,hu,_,_,rfl⟩
 .exact h9 o h
 exact gL (cL (h9 u hu)) (cL (h9 l hl))
theorem EV {s:List (List Raw)} {v:Nat} (h9: ∀ l∈s,l.length=9):Proj s v (fT s v):=by
 refine Proj.mk' (bZ v) (fun l hl h0=>dA (h9 l hl) h0) (fun l hl h0=>⟨l,kY.2 (Or.inl ⟨hl,h0⟩),fun _ _=>rfl⟩)
  (fun l hl u hu h1 h2=>⟨_,kY.2 (Or.inr ⟨l,hl,u,hu,h1,h2,rfl⟩),fun i hi=>nv (cL (h9 u hu)) (cL (h9 l hl)) hi⟩) (fun o ho=>?_)
 rcases kY.1 ho with⟨h,h0⟩ | ⟨l,hl,u,hu,h1,h2,rfl⟩
 .exact Or.inl ⟨o,h,h0,fun _ _=>rfl⟩
 exact Or.inr ⟨l,hl,u,hu,h1,h2,fun i hi=>nv (cL (h9 u hu)) (cL (h9 l hl)) hi⟩
theorem Kg {s:List (List Raw)} {v:Nat} (hv:v<8) (h9: ∀ l∈s,l.length=9): ∀ o∈fT s v,co o v=0:=by
 intro o ho;rcases kY.1 ho with⟨_,h⟩ | ⟨l,hl,u,hu,h1,h2,rfl⟩
 .exact h
 rw[nv (cL (h9 u hu)) (cL (h9 l hl)) (by omega),mz (dA (h9 u hu) (by grind)) hv,mz (dA (h9 l hl) (by grind)) hv];grind
theorem S_ {s:List (List Raw)} {v w:Nat} (hw:w<8) (h9: ∀ l∈s,l.length=9) (h:occ (fT s v) w=true):occ s w=true:=by
 rw[fh] at h ⊢;obtain⟨o,ho,h0⟩:=h;rcases kY.1 ho with⟨h,_⟩ | ⟨l,hl,u,hu,h1,h2,rfl⟩
 .exact⟨o,h,h0⟩
 rw[nv (cL (h9 u hu)) (cL (h9 l hl)) (by omega)] at h0;have e1:=(dA (h9 u hu) (v:=v) (by grind)).2 w (by omega);have e2:=(dA (h9 l hl) (v:=v) (by grind)).2 w (by omega);by_cases c1:co u w=0
 .by_cases c2:co l w=0
  .exfalso;apply h0;rw[e1,e2,c1,c2];split<;>grind
  exact⟨l,hl,c2⟩
 exact⟨u,hu,c1⟩
theorem Ta {k:Nat} {s s':List (List Raw)} {v:Nat} (hs:SysF k s) (hb: ¬S9 s v) (h:IsSys (fT s v) s') (x:Nat->Rat):jd s' x↔jd (fT s v) x:=by
 have h9: ∀ l∈s,l.length=9:=fun l hl=>(hs.ok l hl).len
 have aet: ∀ o∈fT s v,aN o->0<co o 8:=by
  intro o ho hc;rcases kY.1 ho with⟨h1,_⟩ | ⟨l,hl,u,hu,h1,h2,rfl⟩
  .exact absurd hc (hs.nc o h1)
  rcases Rat.not_le.1 (fun h3:co (cB (bZ v u) (bZ v l)) 8<=0=>hb ⟨_,ea.2 ⟨u,hu,h2,rfl⟩,_,fj.2 ⟨l,hl,h1,rfl⟩,hc,h3⟩) with h4
  exact h4
 have hv: ¬EU (fT s v):=fun⟨o,ho,hc,hn⟩=>by have:=aet o ho hc;grind
 rw[<-xH (nw h9) h hv x];constructor
 .intro hi o ho;rcases hi o ho with h1 | ⟨h1,h2⟩
  .exact h1
  have e:aB o x=co o 8:=d_ h1;have:=aet o ho h1;grind
 intro hp o ho;exact Or.inl (hp o ho)
theorem Pn {s:List (List Raw)} {v:Nat} (hv:v<8) (h: ∀ o∈s,co o v=0) (x:Nat->Rat) (t:Rat):jd s (upd x v t)↔jd s x:=by
 constructor<;>intro hp o ho<;>have:=hp o ho
 .rwa [f_ hv (h o ho)] at this
 rwa [f_ hv (h o ho)]
theorem EW {k:Nat} {s s':List (List Raw)} {v:Nat} (hv:v<8) (hs:SysF k s) (hb: ¬S9 s v) (h:IsSys (fT s v) s') (x:Nat->Rat):jd s' x↔ ∃ t,jd s (upd x v t):=by
 have h9: ∀ l∈s,l.length=9:=fun l hl=>(hs.ok l hl).len
 rw[Ta hs hb h x];obtain⟨B,hB,Vf⟩:=(EV (v:=v) h9).says;constructor
 .intro hp;exact S7 hv hB ((Vf x).1 hp)
 rintro⟨t,ht⟩;rw[<-Pn hv (Kg hv h9) x t];exact(Vf _).2 (Ke hv hB ht)
theorem Tb {k:Nat} {s:List (List Raw)} {v:Nat} (hv:v<8) (hs:SysF k s) (hb:S9 s v) (x:Nat->Rat): ¬jd s x:=by
 intro hp;have h9: ∀ l∈s,l.length=9:=fun l hl=>(hs.ok l hl).len
 obtain⟨B,hB,Vf⟩:=(EV (v:=v) h9).says;have ho:=(Vf x).2 (Ke hv hB hp);obtain⟨u,hu,l,hl,hc,hn⟩:=hb;have hm:cB u l∈fT s v:=List.mem_append.2 (Or.inr (List.mem_flatMap.2 ⟨u,hu,mem_map.2 ⟨l,hl,rfl⟩⟩));have h1:=ho _ hm;have e:aB (cB u l) x=co (cB u l) 8:=d_ hc;grind
theorem rX {α:Type} {p:α->Bool}: ∀ {l:List α},(∀ a∈l,p a=true)->l.filter p=l
 | [],_=>rfl
 | a::l,h=>by rw[List.filter_cons_of_pos (h a (by simp)),rX (fun b hb=>h b (mem_cons_of_mem _ hb))]
theorem hG {α:Type} {p:α->Bool}: ∀ {l:List α},(∀ a∈l,p a=false)->l.filter p=[]
 | [],_=>rfl
 | a::l,h=>by rw[filter_cons_of_neg (by rw[h a (by simp)];simp),hG (fun b hb=>h b (mem_cons_of_mem _ hb))]
theorem BC {s:List (List Raw)} {v:Nat} (h:occ s v=false): ∀ l∈s,co l v=0:=by
 intro l hl;rcases Classical.em (co l v=0) with h1 | h1
 .exact h1
 have:=fh.2 ⟨l,hl,h1⟩;rw[h] at this;simp at this
theorem xI {s:List (List Raw)} {v:Nat} (h:occ s v=false):fT s v=s/\aR s v=[]/\aE s v=[]:=by
 have h0:=BC h;have e1:aR s v=[]:=by unfold aR;rw[hG (fun l hl=>by rw[h0 l hl];decide)];rfl
 have e2:aE s v=[]:=by unfold aE;rw[hG (fun l hl=>by rw[h0 l hl];decide)];rfl
 refine⟨?_,e1,e2⟩;unfold fT;rw[e2,List.flatMap_nil,append_nil];unfold d5;exact rX (fun l hl=>by rw[h0 l hl];decide)
theorem Tc {k v:Nat} {l:List Raw} (h:LOk k l) (hk:1<=k) (h0:co l v≠0): ∀ r∈bZ v l,Bd (2*k+1) r.q:=by
 intro r hr;unfold bZ at hr;simp only[List.map_map,mem_map,Function.comp] at hr;obtain⟨a,ha,rfl⟩:=hr;rw[de];have b1:Bd k a.q:=by
  rcases List.mem_or_eq_of_mem_set ha with h1 | h1
  .exact(h.ok _ h1).bd hk
  rw[h1,JX];exact Bd.zero hk
 have b2:Bd k (l.getD v rz).q:=(h.at v).bd hk;have b0:Bd 1 ((-1:Rat)):=⟨by decide,by decide⟩;exact Bd.mono (b1.mul (b0.div b2 h0 (by omega)) (by omega)) (by omega)
theorem CP {k:Nat} {l:List Raw} (h: ∀ r∈l,Bd k r.q): ∀ r∈cK l,Bd (k+1) r.q:=by
 intro r hr;unfold cK at hr;simp only[List.map_map,mem_map,Function.comp] at hr;obtain⟨a,ha,rfl⟩:=hr;rw[de];have b0:Bd 1 (((-1:Int):Rat)):=⟨by decide,by decide⟩;exact(h a ha).mul b0 (by omega)
theorem Kh {k v:Nat} {l:List Raw} (h:LOk k l) (hk:1<=k) (h0:co l v≠0):LOk (2*k+1) (bZ v l):=by
 refine LOk.of_map (by rw[length_map,qkb];exact h.len) (fun q hq=>?_);have:=Tc h hk h0 (cn q) (by unfold bZ;exact mem_map.2 ⟨q,hq,rfl⟩);rwa [de] at this
theorem s5 {k:Nat} {l:List Raw} (h:LOk k l) (hk:1<=k):LOk (k+1) (cK l):=by
 refine LOk.of_map (by rw[length_map];exact h.len) (fun q hq=>?_);have:=CP (h.bd hk) (cn q) (by unfold cK;exact mem_map.2 ⟨q,hq,rfl⟩);rwa [de] at this
theorem wH {k:Nat} {u l:List Raw} (hu:LOk k u) (hl:LOk k l) (hk:1<=k):LOk (2*k+2) (cB u l):=
 LOk.of_map (fY hu.len (d' hl.len)) (fun q hq=>Bd.mono (CH (hu.bd hk) (CP (hl.bd hk)) (by omega) q hq) (by omega))
theorem CQ {k v:Nat} {s:List (List Raw)} (h: ∀ l∈s,LOk k l) (hk:1<=k): ∀ b∈aR s v,LOk (2*k+1) b:=by
 intro b hb;obtain⟨l,hl,h0,rfl⟩:=fj.1 hb;exact Kh (h l hl) hk (by grind)
theorem wI {k v:Nat} {s:List (List Raw)} (h: ∀ l∈s,LOk k l) (hk:1<=k): ∀ b∈aE s v,LOk (2*k+1) b:=by
 intro b hb;obtain⟨l,hl,h0,rfl⟩:=ea.1 hb;exact Kh (h l hl) hk (by grind)
theorem HT {k v:Nat} {s:List (List Raw)} (h: ∀ l∈s,LOk k l) (hk:1<=k): ∀ o∈fT s v,LOk (4*k+4) o:=by
 intro o ho;unfold fT at ho;rcases List.mem_append.1 ho with h1 | h1
 .exact(h o (iC.1 h1).1).mono (by omega)
 obtain⟨u,hu,h2⟩:=List.mem_flatMap.1 h1;obtain⟨l,hl,rfl⟩:=mem_map.1 h2;exact(wH (wI h hk u hu) (CQ h hk l hl) (by omega)).mono (by omega)
theorem jO {α:Type}: ∀ (s L:List α),s.Pairwise (fun a b=>a≠b)->(∀ f∈s,f∈L)->s.length<=L.length
 | [],_,_,_=>eB _
 | a::s,L,hp,h=>by
  have h2:=pairwise_cons.1 hp;obtain⟨L1,L2,rfl⟩:=List.append_of_mem (h a (by simp));have ih:=jO s (L1++L2) h2.2 (fun f hf=>by
   have h3:=h f (mem_cons_of_mem _ hf);rw[qr,w7] at h3;rw[qr];rcases h3 with h3 | h3 | h3
   .exact Or.inl h3
   .exact absurd h3.symm (h2.1 f hf)
   exact Or.inr h3)
  simp only[qe,length_cons] at ih ⊢;omega
def ncs (cs:List (List Raw)):List (List Raw):=cs.filter (fun l=>!cQ l)
theorem jP {cs:List (List Raw)} (h9: ∀ l∈cs,l.length=9) {l:List Raw}:l∈ncs cs↔l∈cs/\ ¬aN l:=by
 unfold ncs;rw[mem_filter];constructor
 .rintro⟨h1,h2⟩;exact⟨h1,fun h3=>by rw[(cv (h9 l h1)).2 h3] at h2;simp at h2⟩
 rintro⟨h1,h2⟩;refine⟨h1,?_⟩;cases h:cQ l with
 | false=>rfl
 | true=>exact absurd ((cv (h9 l h1)).1 h) h2
theorem ny {cs s:List (List Raw)} (h9: ∀ l∈cs,l.length=9) (h:IsSys cs s):s.length<=(ncs cs).length:=by
 have:=jO s ((ncs cs).map eL) (h.sorted.imp (fun vo he=>by subst he;have:=dM (by assumption) (by assumption);omega)) (fun f hf=>by
  obtain⟨l,hl,hc,rfl⟩:=(h.mem f).1 hf;exact mem_map.2 ⟨l,(jP h9).2 ⟨hl,hc⟩,rfl⟩)
 rwa [length_map] at this
structure Sz (k:Nat) (s:List (List Raw)):Prop where
 n3:bD s<=3
 c3:bD s=3->s.length<=5/\k<=14
 c2:bD s=2->s.length<=7/\k<=120
 c1:bD s=1->s.length<=12/\k<=1000
theorem nA {s:List (List Raw)} {l:List Raw} (hl:l∈s) (hc: ¬aN l):0<bD s:=by
 obtain⟨v,hv,h0⟩:=p_ hc;exact BB hv (fh.2 ⟨l,hl,h0⟩)
theorem Sz.all {k:Nat} {s:List (List Raw)} (h:Sz k s) (hp:0<bD s):s.length<=12/\k<=1000:=by
 have h1:=h.n3;have h2:=h.c3;have h3:=h.c2;have h4:=h.c1;have:bD s=1\/bD s=2\/bD s=3:=by omega
 rcases this with h5 | h5 | h5
 .exact h4 h5
 .have:=h3 h5;omega
 have:=h2 h5;omega
theorem Sz.len {k:Nat} {s:List (List Raw)} (h:Sz k s) (hs:SysF k s):s.length<=12:=by
 cases s with
 | nil=>exact eB _
 | cons l t=>exact(h.all (nA (List.mem_cons_self ..) (hs.nc l (by simp)))).1
theorem Sz.lim {k:Nat} {s:List (List Raw)} (h:Sz k s) (hs:SysF k s): ∀ l∈s,LOk 1000 l:=fun l hl=>(hs.ok l hl).mono (h.all (nA hl (hs.nc l hl))).2
theorem da (s:List (List Raw)) (v:Nat):(d5 s v).length+(aR s v).length+(aE s v).length=s.length:=by
 unfold d5 aR aE;rw[length_map,length_map]
 induction s with
 | nil=>rfl
 | cons l t ih=>
  rcases Classical.em (co l v=0) with h | h
  .rw[List.filter_cons_of_pos (by simp[h]),filter_cons_of_neg (by rw[h];decide),filter_cons_of_neg (by rw[h];decide)];simp only[length_cons];omega
  rw[filter_cons_of_neg (by simp[h])];rcases Classical.em (0<co l v) with h1 | h1
  .rw[List.filter_cons_of_pos (by simp[h1]),filter_cons_of_neg (by simp;grind)];simp only[length_cons];omega
  rw[filter_cons_of_neg (by simp[h1]),List.filter_cons_of_pos (by simp;grind)];simp only[length_cons];omega
theorem jQ {α β:Type} (f:α->β->β): ∀ (H:List α) (L:List β),(H.flatMap fun u=>L.map fun l=>f u l).length=H.length*L.length
 | [],L=>by simp
 | u::H,L=>by
  rw[List.flatMap_cons,qe,length_map,jQ f H L,length_cons,Nat.add_mul];omega
theorem rY (s:List (List Raw)) (v:Nat):(fT s v).length=(d5 s v).length+(aE s v).length*(aR s v).length:=by
 unfold fT;rw[qe,jQ (fun u l=>cB u l)]
theorem Po {p q r:Nat} (h:r+p+q<=7):r+q*p<=12:=by
 have:p=0\/p=1\/p=2\/p=3\/p=4\/p=5\/p=6\/p=7:=by omega
 rcases this with h1 | h1 | h1 | h1 | h1 | h1 | h1 | h1<;>subst h1<;>omega
theorem X6 {p q r:Nat} (h:r+p+q<=5):r+q*p<=7:=by
 have:p=0\/p=1\/p=2\/p=3\/p=4\/p=5:=by omega
 rcases this with h1 | h1 | h1 | h1 | h1 | h1<;>subst h1<;>omega
theorem Td {p q r:Nat} (h:r+p+q<=12):r+q*p<=100:=by
 have h1:q*p<=12*p:=qn _ (by omega);have h2:p=0\/p=1\/p=2\/p=3\/p=4\/p=5\/p=6\/p=7\/p=8\/p=9\/p=10\/p=11\/p=12:=by omega
 rcases h2 with h1 | h1 | h1 | h1 | h1 | h1 | h1 | h1 | h1 | h1 | h1 | h1 | h1<;>subst h1<;>omega
theorem Te {k:Nat} {s:List (List Raw)} {v:Nat} (hv:v<8) (hs:SysF k s):occ (fT s v) v=false:=by
 cases h:occ (fT s v) v with
 | false=>rfl
 | true=>
  obtain⟨o,ho,h0⟩:=fh.1 h;exact absurd (Kg hv (fun l hl=>(hs.ok l hl).len) o ho) h0
theorem uO {k:Nat} {s:List (List Raw)} {v:Nat} (hv:v<8) (hs:SysF k s) (h:occ s v=true):bD (fT s v)<bD s:=
 Pk hv (fun _ hw h2=>S_ hw (fun l hl=>(hs.ok l hl).len) h2) h (Te hv hs)
theorem Tf {k:Nat} {s s':List (List Raw)} {v:Nat} (hk:1<=k) (hs:SysF k s) (hi:IsSys (fT s v) s'):SysF (8*k+8) s':=
 SysF.of (nw (fun l hl=>(hs.ok l hl).len)) hi (fun o ho hc=>(wG (HT hs.ok hk o ho) (by omega)).mono (by omega))
theorem s6 {s t:List (List Raw)} (h: ∀ w,w<8->occ s w=true->occ t w=true):bD s<=bD t:=by
 unfold bD;have key: ∀ l:List Nat,(∀ w∈l,w<8)->(l.filter (occ s)).length<=(l.filter (occ t)).length:=by
  intro l
  induction l with
  | nil=>intro _;simp
  | cons w l ih=>
   intro hl;have ih2:=ih (fun u hu=>hl u (mem_cons_of_mem _ hu));cases h1:occ s w with
   | false=>
    rw[filter_cons_of_neg (by rw[h1];simp)];have:(l.filter (occ t)).length<=((w::l).filter (occ t)).length:=by
     cases h2:occ t w with
     | false=>rw[filter_cons_of_neg (by rw[h2];simp)];exact qp _
     | true=>rw[List.filter_cons_of_pos h2,length_cons];omega
    omega
   | true=>
    rw[List.filter_cons_of_pos h1,List.filter_cons_of_pos (h w (hl w (by simp)) h1),length_cons,length_cons];omega
 exact key _ (fun w hw=>List.mem_range.1 hw)
theorem uQ {cs s:List (List Raw)} (h9: ∀ l∈cs,l.length=9) (h:IsSys cs s):bD s=bD cs:=
 Nat.le_antisymm (s6 (fun _ hw h1=>(Kf h9 h hw).1 h1)) (s6 (fun _ hw h1=>(Kf h9 h hw).2 h1))
def Tg (f:List Raw):List (List Raw)->List (List Raw)
 | []=>[f]
 | a::s=>if bV a f<0 then a::Tg f s else if bV a f=0 then a::s else f::a::s
def IsCn (f:List Raw):Prop:= ∃ qs:List Rat,f=qs.map cn/\qs.length=9
theorem IsCn.len {f:List Raw} (h:IsCn f):f.length=9:=by obtain⟨qs,rfl,hl⟩:=h;simp[hl]
theorem jR {l:List Raw} (h:l.length=9):IsCn (eL l):=by
 have:=o4 h;exact⟨nrm l,rfl,by simpa [eL] using this⟩
theorem EX (qs:List Rat):(qs.map cn).map Raw.q=qs:=by
 rw[List.map_map]
 conv=>rhs;rw[<-List.map_id qs]
 exact List.map_congr_left (fun q _=>de q)
theorem BD {f g:List Raw} (hf:IsCn f) (hg:IsCn g) (h:bV f g=0):f=g:=by
 have h2:=(Bh f g (by rw[hf.len,hg.len])).1 h;obtain⟨p,rfl,_⟩:=hf;obtain⟨q,rfl,_⟩:=hg;rw[EX,EX] at h2;rw[h2]
theorem Mc (f:List Raw):bV f f=0:=by have:=dM f f;omega
theorem vE {a b c:List Raw} (ha:IsCn a) (hb:IsCn b) (hc:IsCn c) (h1:bV a b<0) (h2:bV b c<0):bV a c<0:=by
 have h3:=ni a b c (by rw[ha.len,hb.len]) (by rw[hb.len,hc.len]) (by omega) (by omega);rcases Int.lt_or_eq_of_le h3 with h4 | h4
 .exact h4
 have h5:=BD ha hc h4;subst h5;rw[dM] at h2;omega
theorem wJ {f:List Raw} (hf:IsCn f): ∀ {s:List (List Raw)},(∀ a∈s,IsCn a)-> ∀ g,g∈Tg f s↔g=f\/g∈s
 | [],_,g=>by simp[Tg]
 | a::s,h,g=>by
  unfold Tg;split
  .rw[w7,wJ hf (fun b hb=>h b (mem_cons_of_mem _ hb)),w7];exact⟨fun h1=>by rcases h1 with h1 | h1 | h1<;>simp[h1],fun h1=>by rcases h1 with h1 | h1 | h1<;>simp[h1]⟩
  split
  .rename_i h1;have:=BD (h a (by simp)) hf h1;subst this;simp
  simp
theorem xJ {f:List Raw} (hf:IsCn f): ∀ {s:List (List Raw)},(∀ a∈s,IsCn a)->s.Pairwise (fun a b=>bV a b<0)->(Tg f s).Pairwise (fun a b=>bV a b<0)
 | [],_,_=>by simp[Tg]
 | a::s,h,hs=>by
  have h2:=pairwise_cons.1 hs;have AF: ∀ b∈s,IsCn b:=fun b hb=>h b (mem_cons_of_mem _ hb)
  unfold Tg;split
  .rename_i h1;refine pairwise_cons.2 ⟨fun b hb=>?_,xJ hf AF h2.2⟩;rcases(wJ hf AF b).1 hb with h3 | h3
   .rw[h3];exact h1
   exact h2.1 b h3
  split
  .exact hs
  rename_i h1 h3;have hfa:bV f a<0:=by rw[dM];omega
  refine pairwise_cons.2 ⟨fun b hb=>?_,hs⟩;rcases List.mem_cons.1 hb with h4 | h4
  .rw[h4];exact hfa
  exact vE hf (h a (by simp)) (AF b h4) hfa (h2.1 b h4)
def sysL:List (List Raw)->List (List Raw)->List (List Raw)
 | [],s=>s
 | l::cs,s=>if cQ l then sysL cs s else sysL cs (Tg (eL l) s)
theorem xK: ∀ (cs s:List (List Raw)),(∀ l∈cs,l.length=9)->(∀ a∈s,IsCn a)->s.Pairwise (fun a b=>bV a b<0)->
 (sysL cs s).Pairwise (fun a b=>bV a b<0)/\ ∀ f,f∈sysL cs s↔f∈s\/ ∃ l∈cs,¬aN l/\f=eL l
 | [],s,_,_,hp=>⟨hp,fun f=>by simp[sysL]⟩
 | l::cs,s,h9,hs,hp=>by
  have hl:=h9 l (by simp);have h9': ∀ l∈cs,l.length=9:=fun k hk=>h9 k (mem_cons_of_mem _ hk)
  unfold sysL;by_cases hc:cQ l=true
  .rw[if_pos hc];obtain⟨h1,h2⟩:=xK cs s h9' hs hp;refine⟨h1,fun f=>?_⟩;rw[h2];have hk:=(cv hl).1 hc;constructor
   .rintro(h3 | ⟨k,hk,h3⟩)
    .exact .inl h3
    exact .inr ⟨k,mem_cons_of_mem _ hk,h3⟩
   rintro(h3 | ⟨k,iQ,h3⟩)
   .exact .inl h3
   rcases List.mem_cons.1 iQ with h4 | h4
   .subst h4;exact absurd hk h3.1
   exact .inr ⟨k,h4,h3⟩
  rw[if_neg hc];have qY:=fun h=>hc ((cv hl).2 h)
  have ug:=jR hl;obtain⟨h1,h2⟩:=xK cs (Tg (eL l) s) h9' (fun a ha=>by
   rcases(wJ ug hs a).1 ha with h3 | h3
   .rw[h3];exact ug
   exact hs a h3) (xJ ug hs hp)
  refine⟨h1,fun f=>?_⟩;rw[h2,wJ ug hs];constructor
  .rintro((h3 | h3) | ⟨k,hk,h3⟩)
   .exact .inr ⟨l,by simp,qY,h3⟩
   .exact .inl h3
   exact .inr ⟨k,mem_cons_of_mem _ hk,h3⟩
  rintro(h3 | ⟨k,iQ,h3⟩)
  .exact .inl (.inr h3)
  rcases List.mem_cons.1 iQ with h4 | h4
  .subst h4;exact .inl (.inl h3.2)
  exact .inr ⟨k,h4,h3⟩
theorem iD {cs:List (List Raw)} (h9: ∀ l∈cs,l.length=9):IsSys cs (sysL cs []):=by
 obtain⟨h1,h2⟩:=xK cs [] h9 (by simp) List.Pairwise.nil;exact⟨h1,fun f=>by rw[h2];simp⟩
theorem IsSys.eq {cs s:List (List Raw)} (h9: ∀ l∈cs,l.length=9) (h:IsSys cs s):s=sysL cs []:=h.unique (iD h9)
def fQ (cs:List (List Raw)):Bool:=cs.any (fun l=>cQ l&&decide (co l 8<0))
theorem mA {cs:List (List Raw)} (h9: ∀ l∈cs,l.length=9):fQ cs=true↔EU cs:=by
 unfold fQ EU;rw[any_eq_true];constructor
 .rintro⟨l,hl,h⟩;rw[w8,cv (h9 l hl),decide_eq_true_iff] at h;exact⟨l,hl,h⟩
 rintro⟨l,hl,h⟩;refine⟨l,hl,?_⟩;rw[w8,cv (h9 l hl),decide_eq_true_iff];exact h
noncomputable def ei (cs:List (List Raw)):Bool:=@decide (CN cs) (Classical.propDecidable _)
theorem er {cs:List (List Raw)}:ei cs=true↔CN cs:=by unfold ei;rw[@decide_eq_true_iff]
theorem o5 {cs:List (List Raw)}:ei cs=false↔ ¬CN cs:=by
 rw[<-er];cases ei cs<;>simp
noncomputable def aZ (cs:List (List Raw)):Bool:=!fQ cs&&ei (sysL cs [])
theorem fk {cs:List (List Raw)} (h9: ∀ l∈cs,l.length=9):aZ cs=true↔ ∃ x,In cs x:=by
 unfold aZ;rw[w8,er,Bool.not_eq_true'];constructor
 .rintro⟨h1,x,hx⟩;exact⟨x,(xH h9 (iD h9) (fun hv=>by rw[(mA h9).2 hv] at h1;cases h1) x).2 hx⟩
 rintro⟨x,hx⟩;have hnv: ¬EU cs:=fun hv=>S8 hv x hx
 refine⟨?_,x,(xH h9 (iD h9) hnv x).1 hx⟩;cases h:fQ cs with
 | false=>rfl
 | true=>exact absurd ((mA h9).1 h) hnv
theorem EY:CN []:=⟨fun _=>0,by simp⟩
def Ab (s:List (List Raw)) (v:Nat):Bool:=(aE s v).any (fun u=>(aR s v).any (fun l=>cQ (cB u l)&&decide (co (cB u l) 8<=0)))
theorem xL {s:List (List Raw)} {v:Nat} (h9: ∀ l∈s,l.length=9):Ab s v=true↔S9 s v:=by
 unfold Ab S9;rw[any_eq_true];have hl: ∀ u∈aE s v,∀ l∈aR s v,(cB u l).length=9:=fun u hu l hl=>by
  obtain⟨a,ha,_,rfl⟩:=ea.1 hu;obtain⟨b,hb,_,rfl⟩:=fj.1 hl;exact gL (cL (h9 a ha)) (cL (h9 b hb))
 constructor
 .rintro⟨u,hu,h⟩;rw[any_eq_true] at h;obtain⟨l,qL,h⟩:=h;rw[w8,cv (hl u hu l qL),decide_eq_true_iff] at h;exact⟨u,hu,l,qL,h⟩
 rintro⟨u,hu,l,qL,h⟩;refine⟨u,hu,?_⟩;rw[any_eq_true];refine⟨l,qL,?_⟩;rw[w8,cv (hl u hu l qL),decide_eq_true_iff];exact h
def re (s:List (List Raw)) (v:Nat):List (List Raw):=sysL (fT s v) []
theorem xM {k:Nat} {s:List (List Raw)} (v:Nat) (hs:SysF k s):IsSys (fT s v) (re s v):=iD (nw (fun l hl=>(hs.ok l hl).len))
theorem Md {k:Nat} {s:List (List Raw)} {v:Nat} (hv:v<8) (hs:SysF k s) (hb: ¬S9 s v):CN (re s v)↔CN s:=by
 constructor
 .rintro⟨x,hx⟩;obtain⟨t,ht⟩:=(EW hv hs hb (xM v hs) x).1 hx;exact⟨_,ht⟩
 rintro⟨x,hx⟩;refine⟨x,(EW hv hs hb (xM v hs) x).2 ⟨x v,?_⟩⟩;have:upd x v (x v)=x:=by funext i;unfold upd;split<;>simp_all
 rw[this];exact hx
theorem Pp {k:Nat} {s:List (List Raw)} {v:Nat} (hv:v<8) (hs:SysF k s) (hb:S9 s v): ¬CN s:=fun⟨x,hx⟩=>Tb hv hs hb x hx
end Go.Pl
