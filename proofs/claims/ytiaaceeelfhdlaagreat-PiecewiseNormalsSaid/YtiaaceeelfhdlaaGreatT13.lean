/- The road from a contract to a law's statement:a list of numbers that came in. -/
import Derived.Test.YtiaaceeelfhdlaaGreatRows
import Derived.Test.YtiaaceeelfhdlaaGreatT12
import Derived.ProofKit
import Derived.Below
import Derived.Test.YtiaaceeelfhdlaaGreatT1
set_option linter.all false
open Nat (reduceAdd reduceEqDiff reduceLT reduceLeDiff reduceMul reduceSub)
open List (any_eq_true append_nil drop_append_of_le_length drop_eq_getElem_cons filter_cons_of_neg foldl_cons getElem?_set length_cons length_drop length_map length_take map_cons mem_cons_of_mem mem_filter mem_map mem_take_iff_getElem nil_append nodup_append pairwise_cons replicate take_succ_cons)
namespace Go.Proofs.YtiaaceeelfhdlaaGreat
open Go.ChangeShapes Go.WideShapes Go.ChangeAt Go.RowKit
theorem Tryz.own:ownKnob Tryz.prog.godebug=none:=by kernel_rfl
theorem Tryz.laidOut:laidOutB Tryz.prog=true:=by kernel_rfl
theorem Tryz.cells3:Tryz.prog.cellsOf 3=1:=by kernel_rfl
theorem Cn {w:World} {a:Addr} {v:Value} (h:w.cell? a=some v):a.block<w.heap.size:=by
 unfold World.cell? at h;split at h
 .rename_i hb;exact(Array.getElem?_eq_some_iff.1 hb).1
 cases h
set_option maxRecDepth 100000 in
theorem IU {W:World} {base:Nat} {v0:Value} {H:Type} {enc:TypeId×Value->H} {fuel:Nat} {af4:Bool} {x:DataW H×List MemPlace} (bf:Value.okWide Tryz.prog W .any base 22 v0)
 (hf:DataW.trod enc Tryz.prog W 0 (fun _=>true) af4 fuel 22 v0.cells.toList=some x):
 ∃ l:List Int,W64 l/\l.length<9223372036854775808/\Go.AM.FRd W (fun _=>False) v0 (.sl (ints l)):=by
 obtain⟨a0,len,cap,rfl⟩:=okWide_slice Tryz.underlying22 bf
 rcases open_ints Tryz.underlying22 Tryz.underlying3 Tryz.cells3 hf with⟨f_,hx⟩ | ⟨a,len',cap',zs,f_,_,hl,hm,hz,hx,hcell,hwz⟩
 .simp[Value.cells] at f_
  obtain⟨rfl,rfl,rfl⟩:=f_
  exact⟨[],fun x h=>by simp at h,by simp,.nil⟩
 simp[Value.cells] at f_
 obtain⟨rfl,rfl,rfl⟩:=f_
 simp only[if_true] at hz
 obtain⟨b,off,spot⟩:=a
 have abP:spot=none:=by
  simp only[Value.okWide,Tryz.underlying22,Cell.okWide,Cell.ok] at bf;exact bf.2.2.2.1
 subst abP
 unfold maxLen at hm
 refine⟨zs.take len,fun x h=>?_,?_,?_⟩
 .have h1:=hwz x (xY h)
  simp[Lit.wf,IntKind.min,IntKind.max,IntKind.signed,IntKind.bits] at h1
  omega
 .rw[length_take];omega
 refine .sl ⟨b,off,none⟩ len cap 1 (ints (zs.take len)) (fun i _=> .int .i64 (zs.getD i 0)) ?_ hl ?_ rfl (fun _ h=>h) (fun h=>?_) (fun i j x y hx hy=>?_) (fun i j x y hx hy=>?_)
 .rw[cD,length_take];omega
 .intro x hx
  simp only[ints,mem_map] at hx
  obtain⟨n,_,rfl⟩:=hx
  rfl
 .exact Cn (hcell 0 (by omega))
 .have hi:i<(ints (zs.take len)).length:=(List.getElem?_eq_some_iff.1 hx).1
  rw[cD,length_take] at hi
  have Kl:x=[Go.AM.FV.lit (.int .i64 ((zs.take len).getD i 0))]:=by
   have:=hx;simp only[ints,List.getElem?_map] at this;rw[qb (by rw[length_take];omega)] at this;simp at this;rw[<-this];simp[show i<len by omega,show i<zs.length by omega]
  subst Kl
  have hj:j=0:=by
   have:=(List.getElem?_eq_some_iff.1 hy).1;simp at this;exact this
  subst hj
  have h7:=hcell i (by omega)
  have h8:(⟨b,off,none⟩:Addr).add i=⟨b,off+(i*1+0),none⟩:=by
   unfold Addr.add;split
   .rename_i h9;subst h9;simp
   simp
  rw[h8] at h7
  exact h7
 have hi:i<(ints (zs.take len)).length:=(List.getElem?_eq_some_iff.1 hx).1
 rw[cD,length_take] at hi
 have Kl:x=[Go.AM.FV.lit (.int .i64 (zs.getD i 0))]:=by
  have:=hx;simp only[ints,List.getElem?_map] at this;rw[qb (by rw[length_take];omega)] at this;simp at this;rw[<-this];simp[show i<zs.length by omega]
 subst Kl
 have hj:j=0:=by
  have:=(List.getElem?_eq_some_iff.1 hy).1;simp at this;exact this
 subst hj
 simp at hy
 subst hy
 exact .lit _ rfl
theorem P1 {k:FuncId} {l:List Int} {W:World} {v0:Value} (hr:Go.AM.FRd W (fun _=>False) v0 (.sl (ints l))) (hd:Go.AM.Den Tryz.prog k [] [.fv (.sl (ints l))] [] (.bool true)):
 Calls Tryz.prog k #[v0] W fun e W'=>e= .returned (.bool true)/\Below W.heap.size W W':=by
 refine(hd.2 ⟨W,fun _=>False,fun _=>False,[],fun _ h=>h.elim⟩ (fun _=>False) [] #[v0] ⟨rfl,fun id p o h _=>by simp at h,fun i j p q o r g h _=>by simp at h,fun id p o g h _=>by simp at h,fun b h=>h.elim,fun b h=>h.elim,qp _,Go.AM.Places.Le.refl _⟩ (fun b h=>h.elim) ⟨rfl,fun i v x hv hx=>?_⟩).mono fun e W' ⟨v,X',ρ',he,hk,hh,hp,_,_⟩=>?_
 .cases i with
  | zero=>simp at hv hx;subst hv;subst hx;exact .fv _ _ hr
  | succ i=>simp at hv
 subst he
 have hv:v= .bool true:=by
  cases hp with
  | fv _ _ h=>cases h with
   | lit=>rfl
 subst hv
 exact⟨rfl,hk.os,hk.tape,hk.output,hk.size,fun k h=>hk.block k h (fun h=>h)⟩
end Go.Proofs.YtiaaceeelfhdlaaGreat
namespace Go.Pl
open Go.AM
def BO (T:List Raw) (i:Nat) (rest:List Raw):List Raw:=T.take i++rest.drop i
theorem vV {T rest:List Raw} (i:Nat) (h:T.length=rest.length):(BO T i rest).length=rest.length:=by
 unfold BO;rw[qe,length_take,length_drop];omega
theorem Co (T rest:List Raw):BO T 0 rest=rest:=by simp[BO]
theorem G1 {T rest:List Raw} {n:Nat} (h:T.length=n) (h2:rest.length=n):BO T n rest=T:=by
 subst h;unfold BO;rw[List.take_length,List.drop_of_length_le (by omega),append_nil]
theorem LS {T rest:List Raw} {i j:Nat} (h:T.length=rest.length) (hj:j<rest.length) (hi:i<=j):(BO T i rest).getD j rz=rest.getD j rz:=by
 unfold BO;rw[qa,qh (by rw[length_take];omega),List.getElem?_drop,qa];congr 2;rw[length_take];omega
theorem G2 {T rest:List Raw} {i:Nat} (h:T.length=rest.length) (hi:i<rest.length):(BO T i rest).set i (T.getD i rz)=BO T (i+1) rest:=by
 unfold BO;rw[List.set_append_right _ _ (by rw[length_take];omega)];have e:i - (T.take i).length=0:=by rw[length_take];omega
 have hT:i<T.length:=by omega
 have h3:T.take (i+1)=T.take i++[T[i]]:=List.take_succ_eq_append_getElem hT;rw[e,drop_eq_getElem_cons hi,List.set_cons_zero,h3];have h4:T.getD i rz=T[i]:=by rw[qa,qb hT];rfl
 rw[h4,qlb];rfl
def mg (a b:List Raw):List Rat:=List.zipWith (fun r s=>r.q+s.q) a b
theorem gA {a b:List Raw} {n:Nat} (ha:a.length=n) (hb:b.length=n):(mg a b).length=n:=by simp[mg,ha,hb]
theorem oM {a b:List Raw} {i:Nat} (ha:i<a.length) (hb:i<b.length):((mg a b).map cn).getD i rz=cn ((a.getD i rz).q+(b.getD i rz).q):=by
 simp[mg,qa,List.getElem?_zipWith,ha,hb]
theorem Ar {a b:List Raw} {j k:Nat} (ha: ∀ r∈a,Bd j r.q) (hb: ∀ r∈b,Bd k r.q) (hk:1<=j+k): ∀ x∈mg a b,Bd (j+k+1) x:=by
 intro x hx;unfold mg at hx;obtain⟨i,hi,rfl⟩:=List.getElem_of_mem hx;rw[List.getElem_zipWith];exact(ha _ (pP _)).add (hb _ (pP _)) hk
theorem LOk.of_map {k:Nat} {qs:List Rat} (hl:qs.length=9) (h: ∀ q∈qs,Bd k q):LOk k (qs.map cn):=
 ⟨by simp[hl],fun r hr=>by
  simp only[mem_map] at hr;obtain⟨q,hq,rfl⟩:=hr;exact bn (h q hq)⟩
theorem LOk.bd {k:Nat} {rs:List Raw} (h:LOk k rs) (hk:1<=k): ∀ r∈rs,Bd k r.q:=fun r hr=>(h.ok r hr).bd hk
def bu:List Raw->List Raw->Int
 | r::a,s::b=>if eg (r.q - s.q)=0 then bu a b else eg (r.q - s.q)
 | _,_=>0
theorem y7 {a:List Raw} {i:Nat} (h:i<a.length):a.drop i=a.getD i rz::a.drop (i+1):=by
 rw[drop_eq_getElem_cons h,qa,qb h];rfl
theorem sK {a b:List Raw} {i:Nat} (ha:i<a.length) (hb:i<b.length):bu (a.drop i) (b.drop i)=
 if eg ((a.getD i rz).q - (b.getD i rz).q)=0 then bu (a.drop (i+1)) (b.drop (i+1)) else eg ((a.getD i rz).q - (b.getD i rz).q):=by
 rw[y7 ha,y7 hb];rfl
theorem y8 {a b:List Raw} {i:Nat} (ha:i+1=a.length) (hb:i+1=b.length):bu (a.drop i) (b.drop i)=eg ((a.getD i rz).q - (b.getD i rz).q):=by
 rw[sK (by omega) (by omega),List.drop_of_length_le (i:=i+1) (by omega)];split
 .rename_i h;rw[h];rfl
 rfl
theorem gB {q:Rat}:q.num<0↔q<0:=by
 have h:=Rat.num_nonneg (q:=q);have h2:=@Rat.not_le 0 q;constructor
 .intro h3;exact h2.1 (fun h4=>by have:=h.2 h4;omega)
 intro h3;have h4:=h2.2 h3;have h5: ¬(0<=q.num):=fun h6=>h4 (h.1 h6)
 omega
theorem sL {x y:Rat}:eg (x - y)<0↔x<y:=by
 unfold eg;rw[Int.sign_neg_iff,gB];constructor<;>intro h<;>grind
theorem LU {x y:Rat}:0<eg (x - y)↔y<x:=by
 have h1:eg (x - y)<0↔x<y:=sL;have h2:eg (x - y)=0↔x=y:=by
  rw[aQ];constructor<;>intro h<;>grind
 constructor
 .intro h;have h3: ¬x<y:=fun h4=>by have:=h1.2 h4;omega
  have h4:x≠y:=fun h5=>by have:=h2.2 h5;omega
  grind
 intro h;have h3: ¬eg (x - y)<0:=fun h4=>by have:=h1.1 h4;grind
 have h4:eg (x - y)≠0:=fun h5=>by have:=h2.1 h5;grind
 omega
theorem sM {x y:Rat}:eg (x - y)=0↔x=y:=by
 rw[aQ];constructor<;>intro h<;>grind
theorem jA (q:Rat):eg q= -1\/eg q=0\/eg q=1:=by
 unfold eg;rcases Int.lt_trichotomy q.num 0 with h | h | h
 .exact Or.inl (Int.sign_eq_neg_one_of_neg h)
 .exact Or.inr (Or.inl (by rw[h];rfl))
 exact Or.inr (Or.inr (Int.sign_eq_one_of_pos h))
theorem LV (x y:Rat):eg (x - y)= -eg (y - x):=by
 have h1:=jA (x - y);have h2:=jA (y - x);have h3:=sL (x:=x) (y:=y);have h4:=LU (x:=y) (y:=x);have h5:=sM (x:=x) (y:=y);have h6:=sM (x:=y) (y:=x);by_cases h:x=y
 .rw[h5.2 h,h6.2 h.symm];rfl
 have h7:=fun h9=>h (h5.1 h9)
 have h8:=fun h9=>h (h6.1 h9).symm
 by_cases hl:x<y
 .have:=h3.2 hl;have:=h4.2 hl;omega
 have g1: ¬eg (x - y)<0:=fun h9=>hl (h3.1 h9)
 have g2: ¬0<eg (y - x):=fun h9=>hl (h4.1 h9)
 have g3: ¬eg (x - y)=0:=h7;have g4: ¬eg (y - x)=0:=h8;omega
theorem EV: ∀ a b:List Raw,bu a b= -1\/bu a b=0\/bu a b=1
 | r::a,s::b=>by
  unfold bu;split
  .exact EV a b
  .exact jA _
 | [],_=>Or.inr (Or.inl (by simp[bu]))
 | _::_,[]=>Or.inr (Or.inl (by simp[bu]))
theorem ed: ∀ a b:List Raw,bu a b= -bu b a
 | r::a,s::b=>by
  unfold bu;rw[LV r.q s.q,ed a b];by_cases h:eg (s.q - r.q)=0
  .rw[if_pos h,if_pos (by omega)]
  .rw[if_neg h,if_neg (by omega)]
 | [],b=>by cases b<;>simp[bu]
 | _::_,[]=>by simp[bu]
theorem mh: ∀ a b c:List Raw,a.length=b.length->b.length=c.length->bu a b<=0->bu b c<=0->bu a c<=0
 | r::a,s::b,t::c,h1,h2,h3,h4=>by
  have h1':a.length=b.length:=by simpa using h1
  have h2':b.length=c.length:=by simpa using h2
  unfold bu at h3 h4 ⊢;have e1:=sM (x:=r.q) (y:=s.q);have e2:=sM (x:=s.q) (y:=t.q);have e3:=sM (x:=r.q) (y:=t.q);have l1:=sL (x:=r.q) (y:=s.q);have l2:=sL (x:=s.q) (y:=t.q);have l3:=sL (x:=r.q) (y:=t.q);by_cases a1:eg (r.q - s.q)=0
  .rw[if_pos a1] at h3;have q1:=e1.1 a1;by_cases a2:eg (s.q - t.q)=0
   .rw[if_pos a2] at h4;rw[if_pos (e3.2 (q1.trans (e2.1 a2)))];exact mh a b c h1' h2' h3 h4
   rw[if_neg a2] at h4;rw[if_neg (fun h=>a2 (by rw[<-q1];exact h)),q1];exact h4
  .rw[if_neg a1] at h3;have q1:=l1.1 (by omega);by_cases a2:eg (s.q - t.q)=0
   .have q2:=e2.1 a2;rw[<-q2,if_neg a1];exact h3
   .rw[if_neg a2] at h4;have q2:=l2.1 (by omega);have q3:=l3.2 (by grind);rw[if_neg (by omega)];omega
 | [],_,c,_,_,_,_=>by cases c<;>simp[bu]
 | _::_,_,[],_,_,_,_=>by simp[bu]
 | _::_,[],_::_,h,_,_,_=>by simp at h
theorem y9: ∀ a c:List Raw,a.length=c.length->(bu a c=0↔a.map Raw.q=c.map Raw.q)
 | r::a,t::c,h=>by
  have h':a.length=c.length:=by simpa using h
  unfold bu;have e3:=sM (x:=r.q) (y:=t.q);have ih:=y9 a c h';by_cases a1:eg (r.q - t.q)=0
  .rw[if_pos a1,ih];simp only[map_cons,List.cons.injEq];exact⟨fun h=>⟨e3.1 a1,h⟩,fun h=>h.2⟩
  .rw[if_neg a1];simp only[map_cons,List.cons.injEq];exact⟨fun h=>absurd h a1,fun h=>absurd (e3.2 h.1) a1⟩
 | [],[],_=>by simp[bu]
 | [],_::_,h=>by simp at h
 | _::_,[],h=>by simp at h
def b8 (a:List Raw):Bool:=(a.take 8).all (fun r=>decide (r.q=0))
end Go.Pl
namespace Go.Pl
open Go.AM
abbrev Mn:=List Int
abbrev Tm:=List Int×Rat
def b_ (m:Mn):List Tm->Rat
 | []=>0
 | t::ts=>(if t.1=m then t.2 else 0)+b_ m ts
theorem fF (m:Mn): ∀ a b:List Tm,b_ m (a++b)=b_ m a+b_ m b
 | [],b=>by simp only[nil_append,b_];grind
 | t::a,b=>by simp only[List.cons_append,b_,fF m a b];grind
theorem IV {m:Mn} {a b:List Tm} (h:a.Perm b):b_ m a=b_ m b:=by
 induction h with
 | nil=>rfl
 | cons x _ ih=>simp only[b_,ih]
 | swap x y l=>simp only[b_];grind
 | trans _ _ h1 h2=>exact h1.trans h2
theorem sN {m:Mn}: ∀ {a:List Tm},(∀ t∈a,t.1≠m)->b_ m a=0
 | [],_=>rfl
 | t::a,h=>by
  simp only[b_,if_neg (h t (by simp)),sN (fun t ht=>h t (mem_cons_of_mem _ ht))];grind
theorem kj {m:Mn}: ∀ {a:List Tm},b_ m (a.filter (fun t=>decide (t.2≠0)))=b_ m a
 | []=>rfl
 | t::a=>by
  by_cases h:t.2=0
  .rw[filter_cons_of_neg (by simp[h]),b_,kj,h];split<;>grind
  rw[List.filter_cons_of_pos (by simp[h]),b_,b_,kj]
def iV:Mn->Mn->Bool
 | x::a,y::b=>if x=y then iV a b else decide (x>y)
 | _,_=>false
theorem Au: ∀ a:Mn,iV a a=false
 | []=>rfl
 | x::a=>by simp[iV,Au a]
theorem iw: ∀ {a b c:Mn},iV a b=true->iV b c=true->iV a c=true
 | x::a,y::b,z::c,h1,h2=>by
  unfold iV at h1 h2 ⊢;by_cases e1:x=y
  .rw[if_pos e1] at h1;by_cases e2:y=z
   .rw[if_pos e2] at h2;rw[if_pos (e1.trans e2)];exact iw h1 h2
   rw[if_neg e2] at h2;rw[if_neg (fun h=>e2 (e1.symm.trans h)),e1];exact h2
  .rw[if_neg e1] at h1;by_cases e2:y=z
   .rw[<-e2,if_neg e1];exact h1
   .rw[if_neg e2] at h2;have h3:=of_decide_eq_true h1;have h4:=of_decide_eq_true h2;rw[if_neg (by omega)];exact iK (by omega)
 | [],_,_,h1,_=>by simp[iV] at h1
 | _::_,[],_,h1,_=>by simp[iV] at h1
 | _::_,_::_,[],_,h2=>by simp[iV] at h2
theorem IW {a b:Mn} (h:iV a b=true):iV b a=false:=by
 cases h2:iV b a with
 | false=>rfl
 | true=>
  have:=iw h h2;rw[Au] at this;cases this
theorem Av {a b:Mn} (h:iV a b=true):a≠b:=fun he=>by
 rw[he,Au] at h;cases h
theorem sO: ∀ {a b:Mn},a.length=b.length->a≠b->iV a b=true\/iV b a=true
 | [],[],_,h=>absurd rfl h
 | x::a,y::b,hl,h=>by
  unfold iV;by_cases e:x=y
  .subst e;rw[if_pos rfl,if_pos rfl];exact sO (by simpa using hl) (fun he=>h (by rw[he]))
  .rw[if_neg e,if_neg (fun h=>e h.symm)];rcases Int.lt_trichotomy x y with h1 | h1 | h1
   .exact .inr (iK h1)
   .exact absurd h1 e
   .exact .inl (iK h1)
 | [],_::_,h,_=>by simp at h
 | _::_,[],h,_=>by simp at h
theorem Aw {a b:Mn} (hl:a.length=b.length) (h:iV a b=false):a=b\/iV b a=true:=by
 by_cases e:a=b
 .exact .inl e
 rcases sO hl e with h1 | h1
 .rw[h] at h1;cases h1
 exact .inr h1
structure Canon (p:List Tm):Prop where
 sorted:p.Pairwise (fun a b=>iV a.1 b.1=true)
 nz: ∀ t∈p,t.2≠0
 len: ∀ t∈p,t.1.length=8
theorem Canon.nil:Canon []:=⟨.nil,by simp,by simp⟩
theorem Canon.tail {t:Tm} {p:List Tm} (h:Canon (t::p)):Canon p:=
 ⟨(pairwise_cons.1 h.sorted).2,fun u hu=>h.nz u (mem_cons_of_mem _ hu),fun u hu=>h.len u (mem_cons_of_mem _ hu)⟩
theorem Canon.head {t:Tm} {p:List Tm} (h:Canon (t::p)): ∀ u∈p,iV t.1 u.1=true:=(pairwise_cons.1 h.sorted).1
theorem Canon.sum_head {t:Tm} {p:List Tm} (h:Canon (t::p)):b_ t.1 (t::p)=t.2:=by
 rw[b_,if_pos rfl,sN (fun u hu he=>Av (h.head u hu) he.symm)];grind
theorem Canon.sum_up {m:Mn} {t:Tm} {p:List Tm} (h:Canon (t::p)) (hm:iV m t.1=true):b_ m (t::p)=0:=
 sN (fun u hu he=>by
  rcases List.mem_cons.1 hu with h1 | h1
  .exact Av hm (by rw[<-he,h1])
  exact Av (iw hm (h.head u h1)) he.symm)
theorem mi: ∀ {p q:List Tm},Canon p->Canon q->(∀ m,b_ m p=b_ m q)->p=q
 | [],[],_,_,_=>rfl
 | [],y::q,_,hq,h=>absurd ((hq.sum_head.symm.trans (h y.1).symm)) (hq.nz y (by simp))
 | x::p,[],hp,_,h=>absurd ((hp.sum_head.symm.trans (h x.1))) (hp.nz x (by simp))
 | x::p,y::q,hp,hq,h=>by
  have h1:x.1=y.1:=by
   by_cases e:x.1=y.1
   .exact e
   rcases sO ((hp.len x (by simp)).trans (hq.len y (by simp)).symm) e with h2 | h2
   .have:=h x.1;rw[hp.sum_head,hq.sum_up h2] at this;exact absurd this (hp.nz x (by simp))
   have:=h y.1;rw[hq.sum_head,hp.sum_up h2] at this;exact absurd this.symm (hq.nz y (by simp))
  have h2:x.2=y.2:=by
   have:=h x.1;rw[hp.sum_head,h1,hq.sum_head] at this;exact this
  have EB:x=y:=Prod.ext h1 h2;subst EB;rw[mi hp.tail hq.tail (fun m=>by
   have:=h m;simp only[b_] at this;grind)]
def insT:List Tm->Tm->List Tm
 | [],t=>if t.2=0 then [] else [t]
 | x::p,t=>if iV x.1 t.1=true then x::insT p t else if x.1=t.1 then(if t.2+x.2=0 then p else(t.1,t.2+x.2)::p) else if t.2=0 then x::p else t::x::p
theorem Cp (m:Mn): ∀ (p:List Tm) (t:Tm),b_ m (insT p t)=b_ m p+(if t.1=m then t.2 else 0)
 | [],t=>by
  unfold insT;split
  .rename_i h;simp only[b_,h];split<;>grind
  .simp only[b_];grind
 | x::p,t=>by
  unfold insT;split
  .simp only[b_,Cp m p t];grind
  split
  .rename_i h;split
   .simp only[b_,h];split<;>grind
   simp only[b_,h];split<;>grind
  split
  .rename_i h;simp only[b_,h];grind
  simp only[b_];grind
theorem Cq {p:List Tm} {t u:Tm} (h:u∈insT p t):u∈p\/u.1=t.1:=by
 induction p with
 | nil=>
  unfold insT at h;split at h
  .simp at h
  .simp at h;exact .inr (by rw[h])
 | cons x p ih=>
  unfold insT at h;split at h
  .rcases List.mem_cons.1 h with h | h
   .exact .inl (by rw[h];simp)
   rcases ih h with h | h
   .exact .inl (mem_cons_of_mem _ h)
   exact .inr h
  split at h
  .split at h
   .exact .inl (mem_cons_of_mem _ h)
   rcases List.mem_cons.1 h with h | h
   .exact .inr (by rw[h])
   exact .inl (mem_cons_of_mem _ h)
  split at h
  .exact .inl h
  rcases List.mem_cons.1 h with h | h
  .exact .inr (by rw[h])
  exact .inl h
theorem vW: ∀ {p:List Tm} {t:Tm},Canon p->t.1.length=8->Canon (insT p t)
 | [],t,_,ht=>by
  unfold insT;split
  .exact Canon.nil
  .rename_i h;exact⟨List.pairwise_singleton _ _,by simpa using h,by simpa using ht⟩
 | x::p,t,hp,ht=>by
  have ih:=vW hp.tail ht;have hd:=hp.head;unfold insT;split
  .rename_i h;refine⟨pairwise_cons.2 ⟨fun u hu=>?_,ih.sorted⟩,?_,?_⟩
   .rcases Cq hu with h1 | h1
    .exact hd u h1
    rw[h1];exact h
   .intro u hu;rcases List.mem_cons.1 hu with h1 | h1
    .exact hp.nz u (by rw[h1];simp)
    exact ih.nz u h1
   intro u hu;rcases List.mem_cons.1 hu with h1 | h1
   .exact hp.len u (by rw[h1];simp)
   exact ih.len u h1
  rename_i hn;split
  .rename_i he;split
   .exact hp.tail
   rename_i hz;refine⟨pairwise_cons.2 ⟨fun u hu=>?_,hp.tail.sorted⟩,?_,?_⟩
   .rw[<-he];exact hd u hu
   .intro u hu;rcases List.mem_cons.1 hu with h1 | h1
    .rw[h1];exact hz
    exact hp.tail.nz u h1
   intro u hu;rcases List.mem_cons.1 hu with h1 | h1
   .rw[h1];exact ht
   exact hp.tail.len u h1
  rename_i he;split
  .exact hp
  rename_i hz;have hg:iV t.1 x.1=true:=by
   rcases Aw ((hp.len x (by simp)).trans ht.symm) (by simpa using hn) with h1 | h1
   .exact absurd h1 he
   exact h1
  refine⟨pairwise_cons.2 ⟨fun u hu=>?_,hp.sorted⟩,?_,?_⟩
  .rcases List.mem_cons.1 hu with h1 | h1
   .rw[h1];exact hg
   exact iw hg (hd u h1)
  .intro u hu;rcases List.mem_cons.1 hu with h1 | h1
   .rw[h1];exact hz
   exact hp.nz u h1
  intro u hu;rcases List.mem_cons.1 hu with h1 | h1
  .rw[h1];exact ht
  exact hp.len u h1
def nf (ts:List Tm):List Tm:=ts.foldl insT []
def addT (p ts:List Tm):List Tm:=ts.foldl insT p
theorem vX (m:Mn): ∀ (ts p:List Tm),b_ m (addT p ts)=b_ m p+b_ m ts
 | [],p=>by simp only[addT,List.foldl_nil,b_];grind
 | t::ts,p=>by
  have:=vX m ts (insT p t);unfold addT at this ⊢;rw[foldl_cons,this,Cp];simp only[b_];grind
def Len8 (ts:List Tm):Prop:= ∀ t∈ts,t.1.length=8
theorem mj: ∀ {ts p:List Tm},Canon p->Len8 ts->Canon (addT p ts)
 | [],p,h,_=>h
 | t::ts,p,h,hl=>mj (ts:=ts) (p:=insT p t) (vW h (hl t (by simp))) (fun u hu=>hl u (mem_cons_of_mem _ hu))
theorem IX (p ts:List Tm) (t:Tm):addT p (ts++[t])=insT (addT p ts) t:=by simp[addT,List.foldl_append]
theorem sP (m:Mn) (ts:List Tm):b_ m (nf ts)=b_ m ts:=by
 have:=vX m ts [];rw[b_] at this;unfold nf;unfold addT at this;rw[this];grind
theorem dW {ts:List Tm} (h:Len8 ts):Canon (nf ts):=mj Canon.nil h
theorem G3 {p ts:List Tm} (hp:Canon p) (hl:Len8 ts) (h: ∀ m,b_ m p=b_ m ts):p=nf ts:=
 mi hp (dW hl) (fun m=>(h m).trans (sP m ts).symm)
theorem Cr {a b:List Tm} (ha:Len8 a) (hb:Len8 b) (h: ∀ m,b_ m a=b_ m b):nf a=nf b:=
 G3 (dW ha) hb (fun m=>(sP m a).trans (h m))
theorem oN {p:List Tm} (hp:Canon p):nf p=p:=(G3 hp hp.len (fun _=>rfl)).symm
theorem G4 {p ts:List Tm} (hp:Canon p) (hl:Len8 ts):addT p ts=nf (p++ts):=
 G3 (mj hp hl) (fun t ht=>by rcases List.mem_append.1 ht with h | h;exact hp.len t h;exact hl t h) (fun m=>by rw[vX,fF])
theorem G5: ∀ {p:List Tm} {t:Tm} {k:Nat},(∀ i (h:i<p.length),i<k->iV (p[i]'h).1 t.1=true)->k<=p.length->insT p t=p.take k++insT (p.drop k) t
 | p,t,0,_,_=>by simp
 | [],t,k+1,_,hk=>by simp at hk
 | x::p,t,k+1,h,hk=>by
  have h0:=h 0 (by simp) (by omega);rw[List.getElem_cons_zero] at h0;have ih:=G5 (p:=p) (t:=t) (k:=k) (fun i hi V4=>h (i+1) (by simpa using hi) (by omega)) (by simpa using hk);rw[take_succ_cons,List.drop_succ_cons,List.cons_append,<-ih];rw[insT,if_pos h0]
def accAdd:List Tm->Mn->Rat->List Tm
 | [],m,q=>[(m,q)]
 | t::ts,m,q=>if t.1=m then(m,t.2+q)::ts else t::accAdd ts m q
def mm (a:List Tm) (m:Mn):Option Rat:=(a.find? (fun t=>decide (t.1=m))).map (·.2)
def accL (ts:List Tm):List Tm:=ts.foldl (fun a t=>accAdd a t.1 t.2) []
theorem y_ (ts:List Tm) (t:Tm):accL (ts++[t])=accAdd (accL ts) t.1 t.2:=by simp[accL,List.foldl_append]
theorem vY (n:Mn): ∀ (a:List Tm) (m:Mn) (q:Rat),b_ n (accAdd a m q)=b_ n a+(if m=n then q else 0)
 | [],m,q=>by simp only[accAdd,b_];grind
 | t::ts,m,q=>by
  unfold accAdd;split
  .rename_i h;simp only[b_,h];split<;>grind
  simp only[b_,vY n ts m q];grind
theorem Cs (n:Mn) (ts:List Tm):b_ n (accL ts)=b_ n ts:=by
 have key: ∀ (ts a:List Tm),b_ n (ts.foldl (fun a t=>accAdd a t.1 t.2) a)=b_ n a+b_ n ts:=by
  intro ts
  induction ts with
  | nil=>intro a;simp only[List.foldl_nil,b_];grind
  | cons t ts ih=>
   intro a;rw[foldl_cons,ih,vY];simp only[b_];grind
 unfold accL;rw[key,b_];grind
theorem kn (a:List Tm) (m:Mn) (q:Rat):(accAdd a m q).map (·.1)=if m∈a.map (·.1) then a.map (·.1) else a.map (·.1)++[m]:=by
 induction a with
 | nil=>simp[accAdd]
 | cons t ts ih=>
  unfold accAdd;split
  .rename_i h;simp[h]
  rename_i h;rw[map_cons,ih,map_cons];by_cases h2:m∈ts.map (·.1)
  .rw[if_pos h2,if_pos (mem_cons_of_mem _ h2)]
  rw[if_neg h2,if_neg (by
   intro h3;rcases List.mem_cons.1 h3 with h3 | h3
   .exact h h3.symm
   exact h2 h3)]
  rfl
theorem pY (ts:List Tm):((accL ts).map (·.1)).Nodup:=by
 have key: ∀ (ts a:List Tm),(a.map (·.1)).Nodup->((ts.foldl (fun a t=>accAdd a t.1 t.2) a).map (·.1)).Nodup:=by
  intro ts
  induction ts with
  | nil=>intro a h;exact h
  | cons t ts ih=>
   intro a h;refine ih _ ?_;rw[kn];split
   .exact h
   rename_i hm;rw[nodup_append];refine⟨h,by simp,?_⟩;intro x hx y hy he;simp at hy;subst hy;exact hm (he ▸ hx)
 exact key ts [] (by simp)
theorem vZ {ts:List Tm} {m:Mn} (h:m∈(accL ts).map (·.1)):m∈ts.map (·.1):=by
 have key: ∀ (ts a:List Tm),m∈(ts.foldl (fun a t=>accAdd a t.1 t.2) a).map (·.1)->m∈a.map (·.1)\/m∈ts.map (·.1):=by
  intro ts
  induction ts with
  | nil=>intro a h;exact .inl h
  | cons t ts ih=>
   intro a h;rw[foldl_cons] at h;rcases ih _ h with h | h
   .rw[kn] at h;split at h
    .exact .inl h
    rcases List.mem_append.1 h with h | h
    .exact .inl h
    simp at h;exact .inr (by simp[h])
   exact .inr (by simp at h ⊢;exact .inr h)
 rcases key ts [] h with h | h
 .simp at h
 exact h
theorem Ct (ts:List Tm):(accL ts).length<=ts.length:=by
 have key: ∀ (ts a:List Tm),(ts.foldl (fun a t=>accAdd a t.1 t.2) a).length<=a.length+ts.length:=by
  intro ts
  induction ts with
  | nil=>intro a;simp
  | cons t ts ih=>
   intro a;rw[foldl_cons];have h:=ih (accAdd a t.1 t.2);have h2:(accAdd a t.1 t.2).length<=a.length+1:=by
    have:=congrArg List.length (kn a t.1 t.2);rw[length_map] at this;rw[this];split<;>simp
   rw[length_cons];omega
 have:=key ts [];simpa [accL] using this
theorem rj: ∀ {p:List Tm},p.Pairwise (fun a b=>iV b.1 a.1=false)->(p.map (·.1)).Nodup->(∀ t∈p,t.1.length=8)->p.Pairwise (fun a b=>iV a.1 b.1=true)
 | [],_,_,_=> .nil
 | t::p,h,hn,hl=>by
  rw[pairwise_cons] at h ⊢;rw[map_cons,List.nodup_cons] at hn;refine⟨fun u hu=>?_,rj h.2 hn.2 (fun u hu=>hl u (mem_cons_of_mem _ hu))⟩;have h1:=h.1 u hu;rcases Aw ((hl u (mem_cons_of_mem _ hu)).trans (hl t (by simp)).symm) h1 with h2 | h2
  .exact absurd (mem_map.2 ⟨u,hu,h2⟩) hn.1
  exact h2
theorem G6 {ts p:List Tm} (hl:Len8 ts) (hp:p.Perm ((accL ts).filter (fun t=>decide (t.2≠0)))) (hs:p.Pairwise (fun a b=>iV b.1 a.1=false)):p=nf ts:=by
 have bC: ∀ t∈p,t∈accL ts/\t.2≠0:=fun t ht=>by
  have:=hp.mem_iff.1 ht;rw[mem_filter] at this;exact⟨this.1,by simpa using this.2⟩
 have aA: ∀ t∈p,t.1.length=8:=fun t ht=>by
  have:=vZ (mem_map.2 ⟨t,(bC t ht).1,rfl⟩);obtain⟨u,hu,he⟩:=mem_map.1 this;rw[<-he];exact hl u hu
 have l6:(p.map (·.1)).Nodup:=by
  have h1:(p.map (·.1)).Perm (((accL ts).filter (fun t=>decide (t.2≠0))).map (·.1)):=hp.map _;rw[h1.nodup_iff];exact List.Nodup.sublist ((List.filter_sublist).map _) (pY ts)
 refine G3 ⟨rj hs l6 aA,fun t ht=>(bC t ht).2,aA⟩ hl (fun m=>?_);rw[IV hp,kj,Cs]
def DM (D:Nat):List Tm->Nat->Prop
 | [],_=>True
 | t::ts,M=> ∃ z:Int,∃ N:Nat,t.2=mkRat z D/\z.natAbs+N<=M/\DM D ts N
theorem DM.mono {D:Nat}: ∀ {ts:List Tm} {M N:Nat},DM D ts M->M<=N->DM D ts N
 | [],_,_,_,_=>trivial
 | t::ts,M,N,⟨z,K,h1,h2,h3⟩,h=>⟨z,K,h1,by omega,h3⟩
theorem DM.append {D:Nat}: ∀ {a b:List Tm} {M N:Nat},DM D a M->DM D b N->DM D (a++b) (M+N)
 | [],b,M,N,_,h=>h.mono (by omega)
 | t::a,b,M,N,⟨z,K,h1,h2,h3⟩,h=>⟨z,K+N,h1,by omega,h3.append h⟩
theorem DM.mem {D:Nat}: ∀ {ts:List Tm} {M:Nat} {t:Tm},DM D ts M->t∈ts-> ∃ z:Int,t.2=mkRat z D/\z.natAbs<=M
 | u::ts,M,t,⟨z,K,h1,h2,h3⟩,ht=>by
  rcases List.mem_cons.1 ht with rfl | ht
  .exact⟨z,h1,by omega⟩
  .obtain⟨y,h4,h5⟩:=h3.mem ht;exact⟨y,h4,by omega⟩
 | [],_,_,_,ht=>by simp at ht
theorem DM.one {D:Nat} {t:Tm} {z:Int} (h:t.2=mkRat z D):DM D [t] z.natAbs:=⟨z,0,h,by omega,b'⟩
theorem EW {z:Int} {D E:Nat} (hE:E≠0):mkRat z D=mkRat (z*E) (D*E):=by
 rw[Rat.mkRat_mul_right hE]
theorem DM.lift {D E:Nat} (hE:E≠0): ∀ {ts:List Tm} {M:Nat},DM D ts M->DM (D*E) ts (M*E)
 | [],_,_=>trivial
 | t::ts,M,⟨z,K,h1,h2,h3⟩=>⟨z*E,K*E,by rw[h1,EW hE],by
  rw[Int.natAbs_mul,Int.natAbs_natCast,<-Nat.add_mul];exact qn _ h2,h3.lift hE⟩
theorem Cu {z:Int} {D k:Nat} (hk:1<=k) (hz:z.natAbs<B^k) (hD:D<B^k):Bd k (mkRat z D):=by
 have:mkRat z D=f2 (decide (z<0)) z.natAbs D:=by
  unfold f2 sg;congr 1;by_cases h:z<0
  .simp only[h,decide_true,if_true];omega
  simp only[h,decide_false];simp;omega
 rw[this];exact Bd.mk hk hz hD
theorem DM.bd {D M k:Nat} {ts:List Tm} (h:DM D ts M) (hk:1<=k) (hD:D<B^k) (hM:M<B^k): ∀ t∈ts,Bd k t.2:=fun t ht=>by
 obtain⟨z,h1,h2⟩:=h.mem ht;rw[h1];exact Cu hk (by omega) hD
theorem sQ {z w:Int} {D:Nat} (hD:D≠0):mkRat z D+mkRat w D=mkRat (z+w) D:=oG z w hD
theorem DM.insT {D:Nat} (hD:D≠0): ∀ {p:List Tm} {t:Tm} {M:Nat} {z:Int},DM D p M->t.2=mkRat z D->DM D (insT p t) (M+z.natAbs)
 | [],t,M,z,_,ht=>by
  unfold Go.Pl.insT;split
  .trivial
  .exact(DM.one ht).mono (by omega)
 | x::p,t,M,z,⟨y,K,h1,h2,h3⟩,ht=>by
  have ih:=DM.insT hD h3 ht;unfold Go.Pl.insT;split
  .exact⟨y,K+z.natAbs,h1,by omega,ih⟩
  split
  .split
   .exact h3.mono (by omega)
   refine⟨z+y,K,?_,by omega,h3⟩;show t.2+x.2=_;rw[ht,h1,sQ hD]
  split
  .exact⟨y,K,h1,by omega,h3⟩
  exact⟨z,K+y.natAbs,ht,by omega,⟨y,K,h1,by omega,h3⟩⟩
theorem DM.addT {D:Nat} (hD:D≠0): ∀ {ts p:List Tm} {M N:Nat},DM D p M->DM D ts N->DM D (addT p ts) (M+N)
 | [],p,M,N,hp,_=>hp.mono (by omega)
 | t::ts,p,M,N,hp,⟨z,K,h1,h2,h3⟩=>by
  have:=DM.addT hD (DM.insT hD hp h1) h3;unfold Go.Pl.addT at this ⊢;rw[foldl_cons];exact this.mono (by omega)
theorem DM.nf {D:Nat} (hD:D≠0) {ts:List Tm} {M:Nat} (h:DM D ts M):DM D (nf ts) M:=(DM.addT hD (show DM D [] 0 from trivial) h).mono (by omega)
theorem DM.accAdd {D:Nat} (hD:D≠0): ∀ {a:List Tm} {m:Mn} {q:Rat} {M:Nat} {z:Int},DM D a M->q=mkRat z D->DM D (accAdd a m q) (M+z.natAbs)
 | [],m,q,M,z,_,hq=>(DM.one (t:=(m,q)) hq).mono (by omega)
 | t::ts,m,q,M,z,⟨y,K,h1,h2,h3⟩,hq=>by
  unfold Go.Pl.accAdd;split
  .refine⟨y+z,K,?_,by omega,h3⟩;show t.2+q=_;rw[hq,h1,sQ hD]
  exact⟨y,K+z.natAbs,h1,by omega,DM.accAdd hD h3 hq⟩
theorem DM.accL {D:Nat} (hD:D≠0) {ts:List Tm} {M:Nat} (h:DM D ts M):DM D (accL ts) M:=by
 have key: ∀ (ts a:List Tm) (M N:Nat),DM D a M->DM D ts N->DM D (ts.foldl (fun a t=>Go.Pl.accAdd a t.1 t.2) a) (M+N):=by
  intro ts
  induction ts with
  | nil=>intro a M N ha _;exact ha.mono (by omega)
  | cons t ts ih=>
   rintro a M N ha ⟨z,K,h1,h2,h3⟩;rw[foldl_cons];exact(ih _ _ _ (DM.accAdd hD ha h1) h3).mono (by omega)
 exact(key ts [] 0 M trivial h).mono (by omega)
theorem DM.take {D:Nat}: ∀ {ts:List Tm} {M:Nat} (i:Nat),DM D ts M->DM D (ts.take i) M
 | [],_,_,_=>by simp[DM]
 | t::ts,M,0,_=>trivial
 | t::ts,M,i+1,⟨z,K,h1,h2,h3⟩=>⟨z,K,h1,h2,h3.take i⟩
def PB (k:Nat) (ts:List Tm):Prop:= ∃ D M,0<D/\D<B^k/\M<B^k/\DM D ts M
theorem PB.mono {j k:Nat} {ts:List Tm} (h:PB j ts) (hk:j<=k):PB k ts:=by
 obtain⟨D,M,h1,h2,h3,h4⟩:=h;exact⟨D,M,h1,Nat.lt_of_lt_of_le h2 (Nat.pow_le_pow_right (by decide) hk),Nat.lt_of_lt_of_le h3 (Nat.pow_le_pow_right (by decide) hk),h4⟩
theorem PB.bd {k:Nat} {ts:List Tm} (h:PB k ts) (hk:1<=k): ∀ t∈ts,Bd k t.2:=by
 obtain⟨D,M,h1,h2,h3,h4⟩:=h;exact h4.bd hk h2 h3
theorem PB.nf {k:Nat} {ts:List Tm} (h:PB k ts):PB k (nf ts):=by
 obtain⟨D,M,h1,h2,h3,h4⟩:=h;exact⟨D,M,h1,h2,h3,h4.nf (by omega)⟩
theorem PB.accL {k:Nat} {ts:List Tm} (h:PB k ts):PB k (accL ts):=by
 obtain⟨D,M,h1,h2,h3,h4⟩:=h;exact⟨D,M,h1,h2,h3,h4.accL (by omega)⟩
theorem PB.take {k:Nat} {ts:List Tm} (h:PB k ts) (i:Nat):PB k (ts.take i):=by
 obtain⟨D,M,h1,h2,h3,h4⟩:=h;exact⟨D,M,h1,h2,h3,h4.take i⟩
theorem PB.append {j k:Nat} {a b:List Tm} (ha:PB j a) (hb:PB k b):PB (j+k+1) (a++b):=by
 obtain⟨D,M,h1,h2,h3,h4⟩:=ha;obtain⟨E,N,g1,g2,g3,g4⟩:=hb;refine⟨D*E,M*E+N*D,Nat.mul_pos h1 g1,Nat.lt_of_lt_of_le (aK h2 g2) (Nat.pow_le_pow_right (by decide) (by omega)),?_,?_⟩
 .exact md (aK h3 g2) (by rw[Nat.add_comm j k];exact aK g3 h2)
 refine(h4.lift (by omega)).append ?_;rw[Nat.mul_comm D E];exact g4.lift (by omega)
theorem PB.nil {k:Nat} (hk:1<=k):PB k []:=⟨1,0,by decide,Nat.lt_of_lt_of_le (show 1<B^1 by decide) (Nat.pow_le_pow_right (by decide) hk),IB (by decide),b'⟩
theorem PB.one {k:Nat} {t:Tm} (h:Bd k t.2):PB k [t]:=
 ⟨t.2.den,t.2.num.natAbs,t.2.den_pos,h.2,h.1,DM.one (Rat.mkRat_self _).symm⟩
theorem PB.list {k:Nat} (hk:1<=k): ∀ {ts:List Tm},(∀ t∈ts,Bd k t.2)->PB (ts.length*(k+1)+1) ts
 | [],_=>(PB.nil (k:=1) (qp _)).mono (by simp)
 | t::ts,h=>by
  have h1:=PB.one (h t (by simp));have h2:=PB.list hk (fun u hu=>h u (mem_cons_of_mem _ hu));refine(h1.append h2).mono ?_;rw[length_cons,Nat.add_mul];omega
def lin (f:Mn->Rat):List Tm->Rat
 | []=>0
 | t::ts=>t.2*f t.1+lin f ts
def Eqv (a b:List Tm):Prop:= ∀ m,b_ m a=b_ m b
theorem Eqv.refl (a:List Tm):Eqv a a:=fun _=>rfl
theorem Eqv.nf (a:List Tm):Eqv (nf a) a:=fun m=>sP m a
theorem Eqv.app {a b c d:List Tm} (h:Eqv a b) (k:Eqv c d):Eqv (a++c) (b++d):=fun m=>by rw[fF,fF,h m,k m]
theorem Eqv.nf_eq {a b:List Tm} (h:Eqv a b) (ha:Len8 a) (hb:Len8 b):Go.Pl.nf a=Go.Pl.nf b:=Cr ha hb h
theorem Len8.app {a b:List Tm} (ha:Len8 a) (hb:Len8 b):Len8 (a++b):=fun t ht=>by
 rcases List.mem_append.1 ht with h | h
 .exact ha t h
 exact hb t h
theorem Len8.nf {a:List Tm} (h:Len8 a):Len8 (nf a):=(dW h).len
def o8 (a b:Mn):Mn:=List.zipWith (· + ·) a b
theorem Cv {a b:Mn} (ha:a.length=8) (hb:b.length=8):(o8 a b).length=8:=by simp[o8,ha,hb]
def Ax (p:List Tm) (t:Tm):List Tm:=p.map (fun s=>(o8 s.1 t.1,s.2*t.2))
def prodT (p q:List Tm):List Tm:=p.flatMap (fun s=>q.map (fun t=>(o8 s.1 t.1,s.2*t.2)))
theorem Cw: ∀ (p:List Tm) (t:Tm),(insT p t).length<=p.length+1
 | [],t=>by unfold insT;split<;>simp
 | x::p,t=>by
  have ih:=Cw p t;unfold insT;split
  .simp only[length_cons];omega
  split
  .split<;>simp<;>omega
  split<;>simp
theorem Cx: ∀ (ts p:List Tm),(addT p ts).length<=p.length+ts.length
 | [],p=>by simp[addT]
 | t::ts,p=>by
  have h1:=Cx ts (insT p t);have h2:=Cw p t;unfold addT at h1 ⊢;rw[foldl_cons,length_cons];omega
theorem Ay (ts:List Tm):(nf ts).length<=ts.length:=by
 have:=Cx ts [];unfold nf;unfold addT at this;simpa using this
theorem IY {p:List Tm} {t u:Tm} (h:u∈insT p t):u.1=t.1\/ ∃ x∈p,x.1=u.1:=by
 rcases Cq h with h | h
 .exact .inr ⟨u,h,rfl⟩
 exact .inl h
theorem za: ∀ {ts p:List Tm} {u:Tm},u∈addT p ts-> ∃ x,(x∈p\/x∈ts)/\x.1=u.1
 | [],p,u,h=>⟨u,.inl h,rfl⟩
 | t::ts,p,u,h=>by
  obtain⟨x,hx,he⟩:=za (ts:=ts) (p:=insT p t) (u:=u) (by unfold addT at h ⊢;simpa using h);rcases hx with hx | hx
  .rcases IY hx with h1 | ⟨y,hy,h1⟩
   .exact⟨t,.inr (by simp),by rw[<-he,h1]⟩
   exact⟨y,.inl hy,by rw[h1,he]⟩
  exact⟨x,.inr (mem_cons_of_mem _ hx),he⟩
theorem ve {ts:List Tm} {u:Tm} (h:u∈nf ts): ∃ x∈ts,x.1=u.1:=by
 obtain⟨x,hx,he⟩:=za (ts:=ts) (p:=[]) (u:=u) h;rcases hx with hx | hx
 .simp at hx
 exact⟨x,hx,he⟩
def hornT (q:List Tm):List (List Tm)->List Tm
 | []=>[]
 | c::cs=>nf (prodT (hornT q cs) q++c)
end Go.Pl
namespace Go.Pl
open Go.AM
section
variable {α:Type} (d:α)
def mW (ls:List α) (j:Nat):List α:=(ls.set j (ls.getD (j - 1) d)).set (j - 1) (ls.getD j d)
theorem v3 {ls:List α} {j:Nat} (h0:0<j) (hj:j<ls.length) (q:Nat):(mW d ls j).getD q d=if q=j then ls.getD (j - 1) d else if q=j - 1 then ls.getD j d else ls.getD q d:=by
 unfold mW;rw[qa,getElem?_set,getElem?_set];by_cases h1:q=j
 .subst h1;rw[if_neg (by omega),if_pos rfl,if_pos hj,if_pos rfl];simp
 rw[if_neg h1];by_cases h2:q=j - 1
 .rw[if_pos h2.symm,if_pos (by simp;omega),if_pos h2];simp
 rw[if_neg (fun h=>h2 h.symm),if_neg (fun h=>h1 h.symm),if_neg h2,qa]
theorem v5 {ls:List α} {j:Nat} (h0:0<j) (hj:j<ls.length):(mW d ls j).Perm ls:=by
 obtain⟨i,rfl⟩: ∃ i,j=i+1:=⟨j - 1,by omega⟩;have h1:ls=ls.take i++(ls[i]::ls[i+1]::ls.drop (i+2)):=by
  rw[<-drop_eq_getElem_cons (by omega),<-drop_eq_getElem_cons (by omega),List.take_append_drop]
 have hl:(ls.take i).length=i:=by rw[length_take];omega
 have h2:mW d ls (i+1)=ls.take i++(ls[i+1]::ls[i]::ls.drop (i+2)):=by
  unfold mW;rw[Nat.add_sub_cancel,qa,qa,qb (by omega),qb hj];simp only[Option.getD_some];generalize ls[i]=x at*;generalize ls[i+1]=y at*;generalize List.drop (i+2) ls=T at*;generalize List.take i ls=A at*;rw[h1,List.set_append_right _ _ (by omega),List.set_append_right _ _ (by omega)];rw[hl,show i+1 - i=1 by omega,Nat.sub_self];simp
 rw[h2]
 conv=>rhs;rw[h1]
 exact List.Perm.append_left _ (List.Perm.swap _ _ _)
variable (lt:α->α->Prop)
def LW (ls:List α) (i j:Nat):Prop:= ∀ p q,p<q->q<=i->q≠j-> ¬lt (ls.getD q d) (ls.getD p d)
theorem zb (asym: ∀ x y,lt x y-> ¬lt y x) {ls:List α} {i j:Nat} (BS:0<j) (o5:j<=i) (hi:i<ls.length) (h:LW d lt ls i j) (hc:lt (ls.getD j d) (ls.getD (j - 1) d)):LW d lt (mW d ls j) i (j - 1):=by
 intro p q x_ Ik hq;rw[v3 d BS (by omega),v3 d BS (by omega)];by_cases h1:q=j
 .rw[if_pos h1,if_neg (by omega)];by_cases h2:p=j - 1
  .rw[if_pos h2];exact asym _ _ hc
  rw[if_neg h2];exact h p (j - 1) (by omega) (by omega) (by omega)
 rw[if_neg h1,if_neg hq];by_cases h2:p=j
 .rw[if_pos h2];exact h (j - 1) q (by omega) Ik h1
 rw[if_neg h2];by_cases h3:p=j - 1
 .rw[if_pos h3];exact h j q (by omega) Ik h1
 rw[if_neg h3];exact h p q x_ Ik h1
theorem oO {ls:List α} (Ws: ∀ x∈ls,∀ y∈ls,∀ z∈ls,¬lt x y-> ¬lt y z-> ¬lt x z) {i j:Nat} (hi:i<ls.length) (o5:j<=i) (h:LW d lt ls i j) (hc:j=0\/ ¬lt (ls.getD j d) (ls.getD (j - 1) d)):
 ∀ p q,p<q->q<=i-> ¬lt (ls.getD q d) (ls.getD p d):=by
 intro p q x_ Ik
 by_cases h1:q=j
 .subst h1
  have bC: ∀ k,k<ls.length->ls.getD k d∈ls:=fun k hk=>by
   rw[qa,qb hk];simp
  rcases hc with hc | hc
  .omega
  by_cases h2:p=q - 1
  .rw[h2];exact hc
  exact Ws _ (bC q (by omega)) _ (bC (q - 1) (by omega)) _ (bC p (by omega)) hc (h p (q - 1) (by omega) (by omega) (by omega))
 exact h p q x_ Ik h1
theorem py {ls:List α} (h: ∀ p q,p<q->q<ls.length-> ¬lt (ls.getD q d) (ls.getD p d)):ls.Pairwise (fun a b=>¬lt b a):=by
 rw[List.pairwise_iff_getElem];intro i j hi hj uX;have:=h i j uX hj;rw[qa,qa,qb hi,qb hj] at this;exact this
end
def iy:Mn->Mn->Int
 | x::a,y::b=>if x<y then -1 else if y<x then 1 else iy a b
 | _,_=>0
theorem G7: ∀ {a b:Mn},0<iy a b↔iV a b=true
 | x::a,y::b=>by
  have ih:=G7 (a:=a) (b:=b);unfold iy iV;rcases Int.lt_trichotomy x y with h | h | h
  .rw[if_pos h,if_neg (by omega)];simp;omega
  .subst h;rw[if_neg (by omega),if_neg (by omega),if_pos rfl];exact ih
  .rw[if_neg (by omega),if_pos h,if_neg (by omega)];simp;omega
 | [],b=>by simp[iy,iV]
 | _::_,[]=>by simp[iy,iV]
theorem pZ: ∀ a b:Mn,iy a b= -1\/iy a b=0\/iy a b=1
 | x::a,y::b=>by
  unfold iy;split
  .exact .inl rfl
  .split
   .exact .inr (.inr rfl)
   .exact pZ a b
 | [],b=> .inr (.inl (by simp[iy]))
 | _::_,[]=> .inr (.inl (by simp[iy]))
theorem IZ {a b:Mn} {i:Nat} (ha:i<a.length) (hb:i<b.length):iy (a.drop i) (b.drop i)=if a.getD i 0<b.getD i 0 then -1 else if b.getD i 0<a.getD i 0 then 1 else iy (a.drop (i+1)) (b.drop (i+1)):=by
 rw[drop_eq_getElem_cons ha,drop_eq_getElem_cons hb,iy,qa,qa,qb ha,qb hb];rfl
def yi {β:Type} (s t:List Int×β):Prop:=iV s.1 t.1=true
theorem LX {β:Type} (s t:List Int×β) (h:yi s t): ¬yi t s:=by
 unfold yi at*;rw[IW h];simp
theorem UR {β:Type} {x y z:List Int×β} (hx:x.1.length=8) (hy:y.1.length=8) (_hz:z.1.length=8) (h1: ¬yi x y) (h2: ¬yi y z): ¬yi x z:=by
 unfold yi at*;intro h3;rcases Aw (hx.trans hy.symm) (by simpa using h1) with h4 | h4
 .rw[h4] at h3;exact h2 h3
 exact h2 (iw h4 h3)
end Go.Pl
namespace Go.Pl
open Go.AM
theorem zc: ∀ {p:List Tm} {t:Tm},t.2≠0->(∀ x∈p,x.1≠t.1)->(insT p t).Perm (t::p)
 | [],t,h,_=>by
  unfold insT;rw[if_neg h]
 | x::p,t,h,hk=>by
  unfold insT;split
  .exact((zc h (fun y hy=>hk y (mem_cons_of_mem _ hy))).cons x).trans (List.Perm.swap _ _ _)
  simp only[hk x (by simp),h,if_false];exact List.Perm.refl _
theorem zd: ∀ {ts p:List Tm},(∀ t∈ts,t.2≠0)->((p++ts).map (·.1)).Nodup->(addT p ts).Perm (p++ts)
 | [],p,_,_=>by simp[addT]
 | t::ts,p,h,hn=>by
  rw[BM,map_cons,nodup_append] at hn;obtain⟨h1,h2,h3⟩:=hn;rw[List.nodup_cons] at h2;have hp:=zc (p:=p) (t:=t) (h t (by simp)) (fun x hx he=>h3 x.1 (mem_map.2 ⟨x,hx,rfl⟩) t.1 (by simp) he);have l6:((insT p t++ts).map (·.1)).Nodup:=by
   have hq:((insT p t++ts).map (·.1)).Perm (((t::p)++ts).map (·.1)):=(hp.append_right ts).map _;rw[hq.nodup_iff,BM,map_cons,List.cons_append,List.nodup_cons,nodup_append];refine⟨?_,h1,h2.2,fun x hx y hy=>h3 x hx y (mem_cons_of_mem _ hy)⟩;intro hm;rcases List.mem_append.1 hm with hm | hm
   .exact h3 t.1 hm t.1 (by simp) rfl
   exact h2.1 hm
  have ih:=zd (ts:=ts) (p:=insT p t) (fun u hu=>h u (mem_cons_of_mem _ hu)) l6;unfold addT at ih ⊢;rw[foldl_cons];refine ih.trans ((hp.append_right ts).trans ?_);rw[List.cons_append];exact List.perm_middle.symm
def mX (ts:List Tm):List Tm:=(accL ts).filter (fun t=>decide (t.2≠0))
theorem sR {ts:List Tm} (h:Len8 ts):Len8 (accL ts):=fun t ht=>by
 obtain⟨u,hu,he⟩:=mem_map.1 (vZ (mem_map.2 ⟨t,ht,rfl⟩));rw[<-he];exact h u hu
theorem P2 {ts:List Tm} (h:Len8 ts):(nf ts).Perm (mX ts):=by
 have h8:Len8 (mX ts):=fun t ht=>sR h t (mem_filter.1 ht).1
 have h1:nf ts=nf (mX ts):=Cr h h8 (fun m=>by unfold mX;rw[kj,Cs]);rw[h1];have h2:=zd (ts:=mX ts) (p:=[]) (fun t ht=>by simpa using(mem_filter.1 ht).2) (by
  rw[nil_append];exact List.Nodup.sublist ((List.filter_sublist).map _) (pY ts))
 rw[nil_append] at h2;exact h2
theorem Cy {ts:List Tm} (h:Len8 ts):(mX ts).length=(nf ts).length:=(P2 h).length_eq.symm
theorem LY {ts:List Tm} {P:Mn->Prop} (h: ∀ t∈ts,P t.1): ∀ t∈nf ts,P t.1:=fun t ht=>by
 obtain⟨x,hx,he⟩:=ve ht;rw[<-he];exact h x hx
theorem I0 {a:List Tm} {m:Mn}:mm a m=none↔m∉a.map (·.1):=by
 unfold mm;rw[Option.map_eq_none_iff,List.find?_eq_none];constructor
 .intro h hm;obtain⟨t,ht,he⟩:=mem_map.1 hm;exact h t ht (by simpa using he)
 intro h t ht he;exact h (mem_map.2 ⟨t,ht,by simpa using he⟩)
theorem P3 {a:List Tm} {i:Nat} {t:Tm} (hn:(a.map (·.1)).Nodup) (hi:a[i]?=some t):mm a t.1=some t.2:=by
 induction a generalizing i with
 | nil=>simp at hi
 | cons u a ih=>
  unfold mm;rw[map_cons,List.nodup_cons] at hn;cases i with
  | zero=>
   simp at hi;subst hi;rw[List.find?_cons_of_pos (by simp)];rfl
  | succ i=>
   have oy:a[i]?=some t:=by simpa using hi
   have fX: ¬u.1=t.1:=fun he=>hn.1 (he ▸ mem_map.2 ⟨t,List.mem_of_getElem? oy,rfl⟩)
   rw[List.find?_cons_of_neg (by simpa using fX)];exact ih hn.2 oy
theorem DM.split {D:Nat}: ∀ {a:List Tm} {t:Tm} {M:Nat},DM D (a++[t]) M-> ∃ M1,∃ z:Int,DM D a M1/\t.2=mkRat z D/\M1+z.natAbs<=M
 | [],t,M,⟨z,K,h1,h2,_⟩=>⟨0,z,b',h1,by omega⟩
 | u::a,t,M,⟨z,K,h1,h2,h3⟩=>by
  obtain⟨M1,w,g1,g2,g3⟩:=h3.split;exact⟨z.natAbs+M1,w,⟨z,M1,h1,by omega,g1⟩,g2,by omega⟩
theorem PB.snoc_bd {k:Nat} {a:List Tm} {t:Tm} (h:PB k (a++[t])) (hk:1<=k): ∀ u∈Go.Pl.nf a,Bd k (t.2+u.2):=fun u hu=>by
 obtain⟨D,M,h1,h2,h3,h4⟩:=h;obtain⟨M1,z,g1,g2,g3⟩:=h4.split;obtain⟨w,e1,e2⟩:=(g1.nf (by omega)).mem hu;rw[g2,e1,sQ (by omega)];exact Cu hk (by omega) h2
theorem PB.terms {j n k:Nat} {p:List Tm} (hj:1<=j) (h: ∀ t∈p,Bd j t.2) (hn:p.length<=n) (hk:n*(j+1)+1<=k):PB k p:=
 (PB.list hj h).mono (ka (Nat.succ_le_succ (qn _ hn)) hk)
theorem bd_int {x:Int} (h:x.natAbs<B):Bd 1 (x:Rat):=by
 refine⟨?_,?_⟩
 .rw[Rat.num_intCast,Nat.pow_one];exact h
 rw[Rat.den_intCast];decide
end Go.Pl
namespace Go.Proofs.YtiaaceeelfhdlaaGreat
open Go.AM Go.Pl
abbrev RT:=List Int×Raw
def ij (m:List Int):List FV:=m.map (fun n=>FV.lit (.int .i64 n))
def gI (t:RT):List FV:=ij t.1++t.2.f
def gH (t:RT):List PV:=mC t.1++t.2.c
def tq (t:RT):Tm:=(t.1,t.2.q)
def tn (t:Tm):RT:=(t.1,cn t.2)
theorem jL (m:List Int):(ij m).map .fv=mC m:=by simp[ij,mC]
theorem eY (t:RT):(gI t).map .fv=gH t:=by
 unfold gI gH;rw[BM,jL];rfl
theorem dn (m:List Int):(ij m).length=m.length:=by simp[ij]
theorem cO (m:List Int):(mC m).length=m.length:=by simp[mC]
theorem aR {t:RT} (h:t.1.length=8):(gI t).length=11:=by simp[gI,dn,h,Raw.f]
theorem aL {t:RT} (h:t.1.length=8):(gH t).length=11:=by simp[gH,cO,h,Raw.c]
theorem mn (H:List Ob): ∀ m:List Int,kc H (mC m)=some (ij m)
 | []=>rfl
 | n::m=>by
  have:=mn H m;unfold mC ij at this ⊢;simp only[map_cons,kc,dI,this]
theorem G8 (H:List Ob): ∀ (a b:List PV) (x y:List FV),kc H a=some x->kc H b=some y->kc H (a++b)=some (x++y)
 | [],b,x,y,h1,h2=>by
  simp only[kc,qo] at h1;subst h1;simpa using h2
 | c::a,b,x,y,h1,h2=>by
  simp only[kc,List.cons_append] at h1 ⊢;split at h1
  .rename_i u us h3 h4;cases h1;rw[h3,G8 H a b us y h4 h2];rfl
  cases h1
theorem eh (H:List Ob) (t:RT):kc H (gH t)=some (gI t):=G8 H _ _ _ _ (mn H t.1) rfl
theorem nU (m:List Int):(mC m).flatMap eu=[]:=by
 unfold mC
 induction m with
 | nil=>rfl
 | cons n m ih=>rw[map_cons,List.flatMap_cons,ih];rfl
theorem eG (t:RT):(gH t).flatMap eu=[]:=by
 unfold gH;rw[List.flatMap_append,nU];rfl
theorem vf {m:List Int} (h:m.length=8):List.take 8 (mC m)=mC m:=dm (by rw[cO];omega)
theorem p5 {m:List Int} (h:m.length=8):List.take 8 (ij m)=ij m:=dm (by rw[dn];omega)
theorem eJ {t:RT} (h:t.1.length=8):List.take 8 (gH t)=mC t.1:=by
 unfold gH;rw[List.take_append_of_le_length (by rw[cO];omega),vf h]
theorem eZ {t:RT} (h:t.1.length=8):List.take 11 (gH t)=gH t:=dm (by rw[aL h];omega)
theorem bM {t:RT} (h:t.1.length=8):List.take 11 (gI t)=gI t:=dm (by rw[aR h];omega)
theorem I1 {t:RT} (h:t.1.length=8):List.drop 8 (gH t)=t.2.c:=by
 unfold gH;rw[drop_append_of_le_length (by rw[cO];omega),List.drop_of_length_le (by rw[cO];omega)];rfl
theorem sS {t:RT} (h:t.1.length=8):List.drop 8 (gI t)=t.2.f:=by
 unfold gI;rw[drop_append_of_le_length (by rw[dn];omega),List.drop_of_length_le (by rw[dn];omega)];rfl
theorem lB {t:RT} (h:t.1.length=8):List.take 8 (gI t)=ij t.1:=by
 unfold gI;rw[List.take_append_of_le_length (by rw[dn];omega),p5 h]
theorem G9 {m:List Int} {i:Nat} (h:i<m.length):List.take 1 (List.drop i (mC m))=[PV.int .i64 (m.getD i 0)]:=by
 unfold mC;rw[drop_eq_getElem_cons (by simpa using h),take_succ_cons,List.take_zero,List.getElem_map,qa,qb h];rfl
theorem LZ {t:RT} {i:Nat} (h:i<8) (hl:t.1.length=8):List.take 1 (List.drop i (gH t))=[PV.int .i64 (t.1.getD i 0)]:=by
 have h1:=G9 (m:=t.1) (i:=i) (by omega);unfold gH;rw[drop_append_of_le_length (by rw[cO];omega),List.take_append_of_le_length (by rw[length_drop,cO];omega),h1]
theorem US {m:List Int} {i:Nat} {x:Int} (h:i<m.length):List.take i (mC m)++[PV.int .i64 x]++List.drop (i+1) (mC m)=mC (m.set i x):=by
 unfold mC;rw[<-List.map_take,<-List.map_drop,List.set_eq_take_append_cons_drop,if_pos h];simp
theorem Az {t:RT} {i:Nat} {x:Int} (h:i<8) (hl:t.1.length=8):List.take i (gH t)++[PV.int .i64 x]++List.drop (i+1) (gH t)=gH (t.1.set i x,t.2):=by
 have h1:=US (m:=t.1) (i:=i) (x:=x) (by omega);unfold gH;rw[List.take_append_of_le_length (by rw[cO];omega),drop_append_of_le_length (by rw[cO];omega),<-qlb,h1]
theorem ze (ids:List Nat): ∀ m:List Int,aU ids (mC m) (mC m)
 | []=>by simp[mC,aU]
 | x::m=>by
  have:=ze ids m;unfold mC at this ⊢;simp[aU,cJ,this]
theorem L0 (ids:List Nat): ∀ (a b:List PV),aU ids a a->aU ids b b->aU ids (a++b) (a++b)
 | [],_,_,h=>h
 | _::a,b,h1,h2=>⟨h1.1,L0 ids a b h1.2 h2⟩
theorem iz (ids:List Nat) (t:RT):aU ids (gH t) (gH t):=L0 ids _ _ (ze ids t.1) (by simp[Raw.c,aU,cJ])
theorem eK {t:RT} (h:t.1.length=8):List.take 3 (List.drop 8 (gH t))=t.2.c:=by rw[I1 h];rfl
theorem L4 (H:List Ob) (r:Raw):kc H r.c=some r.f:=rfl
theorem L5 (r:Raw):r.f.map .fv=r.c:=rfl
theorem im (r:Raw):r.c.flatMap eu=[]:=rfl
theorem fw (f:Nat->Nat) (r:Raw):List.map (reloc1 f) r.c=r.c:=rfl
theorem p6 (r:Raw):List.take 3 r.c=r.c:=rfl
theorem lC {t:RT} {r:Raw} (h:t.1.length=8):List.take 8 (gH t)++r.c++List.drop 11 (gH t)=gH (t.1,r):=by
 rw[eJ h,List.drop_of_length_le (by rw[aL h];omega),append_nil];rfl
theorem Cz (r:Raw):r.f.length=3:=rfl
theorem L6 (r:Raw):List.take 3 r.f=r.f:=rfl
theorem UT (r:Raw):List.drop 3 r.c=[]:=rfl
theorem L7 {m:List Int} {i:Nat} (h:i<m.length):List.take 1 (List.drop i (ij m))=[FV.lit (.int .i64 (m.getD i 0))]:=by
 unfold ij;rw[drop_eq_getElem_cons (by simpa using h),take_succ_cons,List.take_zero,List.getElem_map,qa,qb h];rfl
theorem UU {t:RT} {i:Nat} (h:i<8) (hl:t.1.length=8):List.take 1 (List.drop i (gI t))=[FV.lit (.int .i64 (t.1.getD i 0))]:=by
 have h1:=L7 (m:=t.1) (i:=i) (by omega);unfold gI;rw[drop_append_of_le_length (by rw[dn];omega),List.take_append_of_le_length (by rw[length_drop,dn];omega),h1]
theorem oP (r:Raw):still (.agg r.c)=true:=rfl
theorem bS (r:Raw):r.c.length=3:=rfl
def au (ts:List RT):List (List FV):=ts.map gI
def mY (ms:List (List Int)):List (List FV):=ms.map ij
theorem ay (ts:List RT):(au ts).length=ts.length:=by simp[au]
theorem rr (ms:List (List Int)):(mY ms).length=ms.length:=by simp[mY]
def kT:RT:=([],rz)
theorem cM {ts:List RT} {i:Nat} (h:i<ts.length):(au ts).getD i []=gI (ts.getD i kT):=by
 simp[au,h]
theorem EX {ms:List (List Int)} {i:Nat} (h:i<ms.length):(mY ms).getD i []=ij (ms.getD i []):=by
 simp[mY,h]
theorem eL {ts:List RT} {i:Nat} (h:i<ts.length):ts.getD i kT∈ts:=by
 rw[qa,qb h];simp
theorem jM (ts:List RT) (t:RT):au ts++[gI t]=au (ts++[t]):=by simp[au]
theorem EY (ms:List (List Int)) (m:List Int):mY ms++[ij m]=mY (ms++[m]):=by simp[mY]
theorem c_ {ts:List RT} {n:Nat} (h:ts.length<=n):List.take n (au ts)=au ts:=dm (by rw[ay];exact h)
theorem EZ {ms:List (List Int)} {n:Nat} (h:ms.length<=n):List.take n (mY ms)=mY ms:=dm (by rw[rr];exact h)
structure TOk (k:Nat) (t:RT):Prop where
 len:t.1.length=8
 rng: ∀ x∈t.1,-1000000000000<=x/\x<=1000000000000
 raw:t.2.Ok k
theorem TOk.mono {j k:Nat} {t:RT} (h:TOk j t) (hk:j<=k):TOk k t:=⟨h.len,h.rng,h.raw.mono hk⟩
def TsOk (k:Nat) (ts:List RT):Prop:= ∀ t∈ts,TOk k t
def iA (m:List Int):Bool:=m.all (fun d=>decide (0<=d)&&decide (d<=1024))
def validB (ts:List RT):Bool:=ts.all (fun t=>iA t.1)
abbrev PL (ts:List RT):PV:= .fv (.sl (au ts))
set_option maxRecDepth 100000
set_option maxHeartbeats 2000000
theorem rv (m:List Int) (n:Nat) (h:m.length=n):dr 1 n (ij m)=ints m:=by
 subst h
 induction m with
 | nil=>rfl
 | cons x m ih=>
  unfold ij ints at ih ⊢;simp only[length_cons,map_cons,dr,take_succ_cons,List.take_zero,List.drop_succ_cons,List.drop_zero,ih]
theorem zg (x:Int):Den Tryz.prog 279 [] [.int .i64 x] [] (.bool false):=by
 have e:(x !=x)=false:=by simp
 refine dq Tryz.func279 5 0 ?_;refine cz e ?_;refine bc rfl
theorem ZJ (x y:Int):Den Tryz.prog 267 [] [.int .i64 x,.int .i64 y] [] (.int .i64 (if x<y then -1 else if y<x then 1 else 0)):=by
 by_cases h1:x<y
 .have e1:decide (x<y)=true:=iK h1;rw[if_pos h1];refine dq Tryz.func267 18 0 ?_;refine aW ?_;refine gp (zg x) rfl ?_;refine a9 ?_;refine gp (zg y) rfl ?_;simp -dsimp(disch:=omega) only[e1,IntKind.bits,Int.reduceToNat,Int.reducePow,Option.isNone_none,↓reduceIte,reduceCtorEq,reduceAdd,reduceMul,reduceSub,Nat.reduceBEq,reduceEqDiff,reduceLT,reduceLeDiff,ru];refine bc rfl
 have e1:decide (x<y)=false:=mU h1;rw[if_neg h1];by_cases h2:y<x
 .have e2:decide (x>y)=true:=iK h2;rw[if_pos h2];refine dq Tryz.func267 18 0 ?_;refine aW ?_;refine gp (zg x) rfl ?_;refine a9 ?_;refine gp (zg y) rfl ?_;simp -dsimp(disch:=omega) only[e1,e2,IntKind.bits,Int.reduceToNat,Int.reducePow,Option.isNone_none,↓reduceIte,reduceCtorEq,reduceAdd,reduceMul,reduceSub,Nat.reduceBEq,reduceEqDiff,reduceLT,reduceLeDiff,ru];refine bc rfl
 have e2:decide (x>y)=false:=mU h2;rw[if_neg h2];refine dq Tryz.func267 18 0 ?_;refine aW ?_;refine gp (zg x) rfl ?_;refine a9 ?_;refine gp (zg y) rfl ?_;simp -dsimp(disch:=omega) only[e1,e2,IntKind.bits,Int.reduceToNat,Int.reducePow,Option.isNone_none,↓reduceIte,reduceCtorEq,reduceAdd,reduceMul,reduceSub,Nat.reduceBEq,reduceEqDiff,reduceLT,reduceLeDiff,ru];refine bc rfl
theorem Tx (a b:List Int) (n:Nat) (ha:a.length=n) (hb:b.length=n) (hn:n<1000):Den Tryz.prog 228 [] [.fv (.sl (ints a)),.fv (.sl (ints b))] [] (.int .i64 (iy a b)):=by
 have la:=cD a;have lb:=cD b;rw[ha] at la;rw[hb] at lb;refine dq Tryz.func228 34 0 ?_;refine cz la ?_;refine wl (α:=Nat) (fun i=>⟨[.fv (.sl (ints a)),.fv (.sl (ints b)),.any,.any,.any,.any,.any,.any,.any,.fv (.sl (ints a)),.int .i64 n,.int .i64 i]++replicate 24 .any,[]⟩) (fun i=>n - i) (fun i=>i<=n/\iy (a.drop i) (b.drop i)=iy a b) 0 ?_ ?_ ?_
 .exact bP []
 .exact⟨dU _,rfl⟩
 rintro i ⟨hi,hc⟩;refine aW ?_;refine bK ?_ ?_
 .intro h1 h2;have ga:=jz (xs:=a) (i:=i) (by omega);have gb:=jz (xs:=b) (i:=i) (by omega);have jv:=IZ (a:=a) (b:=b) (i:=i) (by omega) (by omega);obtain⟨x,hx⟩:=ax (a.getD i 0);obtain⟨y,hy⟩:=ax (b.getD i 0);rw[hx] at ga jv;rw[hy] at gb jv;have e1:decide ((i:Int)>=(n:Int))=false:=qV;have yB:=ZJ x y;obtain⟨z,hz⟩: ∃ z:Int,(if x<y then(-1:Int) else if y<x then 1 else 0)=z:=⟨_,rfl⟩;rw[hz] at yB;simp -dsimp(disch:=omega) only[h2,la,lb,ga,gb,e1,IntKind.bits,Int.reduceToNat,Int.reducePow,Option.isNone_none,↓reduceIte,reduceCtorEq,reduceAdd,reduceMul,reduceSub,Nat.reduceBEq,reduceEqDiff,reduceLT,reduceLeDiff,ru]
  repeat refine ae ?_
  refine aM yB ?_;refine a9 ?_;refine Br.bneInt ?_ ?_
  .intro h3 h4;have Wt:iy a b=z:=by
    rw[<-hc,jv,<-hz];by_cases h5:x<y
    .rw[if_pos h5,if_pos h5]
    rw[if_neg h5,if_neg h5];by_cases h6:y<x
    .rw[if_pos h6,if_pos h6]
    rw[if_neg h5,if_neg h6] at hz;omega
   rw[Wt];refine ah h4 ?_;refine bc rfl
  intro h3 h4;have h5: ¬x<y:=fun h=>by rw[if_pos h] at hz;omega
  have h6: ¬y<x:=fun h=>by rw[if_neg h5,if_pos h] at hz;omega
  rw[if_neg h5,if_neg h6] at jv;refine ah h4 ?_;refine aw (i+1) ?_ ⟨by omega,by rw[<-jv,hc]⟩;exact bP []
 intro h1 h2;have hz:iy a b=0:=by
  rw[<-hc,List.drop_of_length_le (by omega),List.drop_of_length_le (by omega)];rfl
 rw[hz];have e1:decide ((n:Int)<(n:Int))=false:=qV;simp -dsimp(disch:=omega) only[h2,la,lb,e1,IntKind.bits,Int.reduceToNat,Int.reducePow,Option.isNone_none,↓reduceIte,reduceCtorEq,reduceAdd,reduceMul,reduceSub,Nat.reduceBEq,reduceEqDiff,reduceLT,reduceLeDiff,ru];refine bc rfl
theorem ZK (s t:RT) (hs:s.1.length=8) (ht:t.1.length=8):Den Tryz.prog 184 [] [.agg [.bool true],.agg (gH s),.agg (gH t)] [] (.int .i64 (-(iy s.1 t.1))):=by
 have h1:=Tx s.1 t.1 8 hs ht (by decide);have g1:=rv s.1 8 hs;have g2:=rv t.1 8 ht;have r:=pZ s.1 t.1;obtain⟨z,hz⟩:=ax (iy s.1 t.1);rw[hz] at h1 r ⊢;have ls:=aL hs;have lt:=aL ht;have k1:=eJ hs;have k2:=eJ ht;have i1:List.take 8 (ints s.1)=ints s.1:=dm (by rw[cD];omega);have i2:List.take 8 (ints t.1)=ints t.1:=dm (by rw[cD];omega);have e0:(0:Int) - z= -z:=by omega
 refine dq Tryz.func184 15 0 ?_;refine cz (a8 ls lt) ?_
 repeat refine ae ?_
 refine Draw.freeze [1,2] (by kernel_rfl) ?_;simp -dsimp(disch:=omega) only[k1,k2,mn,nU,ls,lt,g1,g2,Option.isSome_none,imp_self,i1,i2,IntKind.bits,Int.reduceToNat,Int.reducePow,Option.isNone_none,↓reduceIte,reduceCtorEq,reduceAdd,reduceMul,reduceSub,Nat.reduceBEq,reduceEqDiff,reduceLT,reduceLeDiff,ru]
 repeat refine ae ?_
 refine gp h1 (by simp[bH,eS,dS,dI]) ?_;simp -dsimp(disch:=omega) only[e0,IntKind.bits,Int.reduceToNat,Int.reducePow,Option.isNone_none,↓reduceIte,reduceCtorEq,reduceAdd,reduceMul,reduceSub,Nat.reduceBEq,reduceEqDiff,reduceLT,reduceLeDiff,ru]
 repeat refine ae ?_
 refine bc rfl
theorem v7 (r:Raw):tQ r r=true:=by simp[tQ]
theorem aeI (rs:List Raw) (e8:LOk 5000000000 rs):Den Tryz.prog 151 [] [RL rs,RL rs] [] (.bool true):=by
 have aA:=e8.len;have k4:=ag rs;unfold RL;refine dq Tryz.func151 23 0 ?_;refine aW ?_
 repeat refine ae ?_
 refine wl (α:=Nat) (fun i=>⟨[.any,.any,.ptr 0 0 0,.ptr 1 0 0,.any,.int .i64 i]++replicate 19 .any,[.box true (flat rs),.box true (flat rs)]⟩)
  (fun i=>8 - i) (fun i=>i<=8) 0 ?_ ?_ ?_
 .exact bP [0,1]
 .exact dU _
 rintro i hi;have dZ:=b9 (rs:=rs) (i:=i) (by omega);have BW:=LI (rs.getD i rz) (rs.getD i rz) (e8.at i) (e8.at i);rw[v7] at BW;obtain⟨x,hx⟩:=ax (rs.getD i rz);rw[hx] at dZ BW;unfold Raw.v at BW;have hb:(!true)=false:=rfl;refine aW ?_;refine bK ?_ ?_
 .intro h1 h2;refine ah h2 ?_;refine dw (by kernel_rfl) ?_;refine ah dZ ?_
  repeat refine ae ?_
  refine aM BW ?_;refine ah hb ?_;refine aw (i+1) ?_ (by omega);exact bP [0,1]
 intro h1 h2;have yc:i=8:=by omega
 subst yc;simp only[reduceMul] at dZ;refine ah (a8 h2 dZ) ?_
 repeat refine ae ?_
 refine aM BW ?_;refine a9 ?_;refine bc rfl
theorem I2 (rs:List Raw) (v:Nat):(rs.set v (cn 0)).map Raw.q=(rs.set v rz).map Raw.q:=by
 rw[List.map_set,List.map_set,cK,PZ]
theorem ZL (rs:List Raw) (v:Nat) (e8:LOk 2000000000 rs) (hv:v<8):Den Tryz.prog 219 [] [RL rs,.int .i64 v] [] (FL ((rs.set v rz).map Raw.q)):=by
 have aA:=e8.len;have k4:=ag rs;have T5:(flat rs).length=27:=by omega
 have nB:=iP 0 (by decide);rw[show((0:Int):Rat)=0 from rfl,a_,bx,bx] at nB;have bg:=dF (rs:=rs) (i:=v) (by omega) (decide ((0:Rat).num<0)) (ai (0:Rat).num.natAbs) (ai (0:Rat).den);have sx:(⟨decide ((0:Rat).num<0),ai (0:Rat).num.natAbs,ai (0:Rat).den⟩:Raw)=cn 0:=rfl;rw[sx] at bg;have bf:LOk 2000000000 (rs.set v (cn 0)):=⟨by simp[aA],fun r hr=>by
  rcases List.mem_or_eq_of_mem_set hr with h1 | h1
  .exact e8.ok r h1
  rw[h1];exact Raw.Ok.mono (bn (Bd.zero (k:=1) (by decide))) (by decide)⟩
 have Ii:=LL (rs.set v (cn 0)) bf;rw[I2] at Ii;obtain⟨ys,hy⟩:=ax (rs.set v (cn 0));rw[hy] at bg Ii bf;have BZ:=bf.len;have hyf:(flat ys).length=27:=by rw[ag];omega
 unfold FL RL at Ii ⊢;obtain⟨zs,hz⟩:=ax (((rs.set v rz).map Raw.q).map cn);have l7:zs.length=9:=by rw[<-hz];simp[aA]
 have kO:(flat zs).length=27:=by rw[ag];omega
 rw[hz] at Ii ⊢;refine dq Tryz.func219 9 0 ?_;refine kI ?_
 repeat refine ae ?_
 refine aM nB ?_;simp -dsimp(disch:=omega) only[bg,ar BZ,hyf,IntKind.bits,Int.reduceToNat,Int.reducePow,Option.isNone_none,↓reduceIte,reduceCtorEq,reduceAdd,reduceMul,reduceSub,Nat.reduceBEq,reduceEqDiff,reduceLT,reduceLeDiff,ru,zu]
 repeat refine ae ?_
 refine hY Ii ?_;refine aF kO ?_
 repeat refine ae ?_
 exact RetOK.form rfl rfl l7
theorem UW (rs:List Raw) (v:Nat) (e8:LOk 1000 rs) (hv:v<8) (h0:(rs.getD v rz).q=0):Den Tryz.prog 210 [] [RL rs,.int .i64 v] [] (.tup [FL (rs.map Raw.q),.int .i64 0]):=by
 have aA:=e8.len;have k4:=ag rs;have dZ:=b9 (rs:=rs) (i:=v) (by omega);have iX:=kh (rs.getD v rz) ((e8.at v).mono (by decide));rw[aQ.2 h0] at iX;obtain⟨r,hr⟩:=ax (rs.getD v rz);rw[hr] at dZ iX;unfold Raw.v at iX;have Ii:=LL rs (e8.mono (by decide));unfold FL RL at Ii ⊢;obtain⟨zs,hz⟩:=ax ((rs.map Raw.q).map cn);have l7:zs.length=9:=by rw[<-hz];simp[aA]
 have kO:(flat zs).length=27:=by rw[ag];omega
 rw[hz] at Ii ⊢;have e00:((0:Int)==0)=true:=rfl;refine dq Tryz.func210 30 0 ?_;refine aF dZ ?_
 repeat refine ae ?_
 refine aM iX ?_;simp -dsimp(disch:=omega) only[e00,ar aA,IntKind.bits,Int.reduceToNat,Int.reducePow,Option.isNone_none,↓reduceIte,reduceCtorEq,reduceAdd,reduceMul,reduceSub,Nat.reduceBEq,reduceEqDiff,reduceLT,reduceLeDiff,ru,zu]
 repeat refine ae ?_
 refine hY Ii ?_;refine aF kO ?_
 repeat refine ae ?_
 exact RetOK.form2 rfl rfl l7 rfl
theorem ZM (rs:List Raw) (v:Nat) (e8:LOk 1000 rs) (hv:v<8) (h0:(rs.getD v rz).q≠0):
 Den Tryz.prog 210 [] [RL rs,.int .i64 v] [] (.tup [FL ((rs.set v rz).map (fun r=>r.q*(-1 / (rs.getD v rz).q))),.int .i64 (eg (rs.getD v rz).q)]):=by
 have aA:=e8.len
 have k4:=ag rs
 have bf:=e8.at v
 have dZ:=b9 (rs:=rs) (i:=v) (by omega)
 have iX:=kh (rs.getD v rz) (bf.mono (by decide))
 have h73:=ZL rs v (e8.mono (by decide)) hv
 have Ed:=LQ e8 v
 have Pz: ∀ r∈rs.set v rz,Bd 1000 r.q:=fun r hr=>(Ed.ok r hr).bd (by decide)
 obtain⟨r,hr⟩:=ax (rs.getD v rz)
 rw[hr] at dZ iX bf h0
 rw[hr]
 have dp:Bd 1 (((-1:Int)):Rat):=⟨by decide,by decide⟩
 have nB:=iP (-1) (by decide)
 have nJ:=LC (cn ((-1:Int):Rat)) r (Raw.Ok.mono (bn dp) (by decide)) (bf.mono (by decide)) h0
 rw[cK] at nJ
 change Den Tryz.prog 209 [] [FR ((-1:Int):Rat),r.v] [] _ at nJ
 have Wp:=dp.div (bf.bd (by decide)) h0 (by decide)
 have uY:=LK (((rs.set v rz).map Raw.q).map cn) (cn (((-1:Int):Rat) / r.q)) (LOk.map Ed.len (fun x hx=>(Pz x hx).mono (by decide))) (Raw.Ok.mono (bn Wp) (by decide))
 rw[cK] at uY
 have xI:(((rs.set v rz).map Raw.q).map cn).map (fun x=>x.q*(((-1:Int):Rat) / r.q))=(rs.set v rz).map (fun x=>x.q*(-1 / r.q)):=by
  rw[List.map_map,List.map_map];apply List.map_congr_left;intro x _;simp only[Function.comp,cK];rfl
 rw[xI] at uY
 change Den Tryz.prog 90 [] [FL ((rs.set v rz).map Raw.q),FR (((-1:Int):Rat) / r.q)] [] _ at uY
 have e1:((-1:Int):Rat)= -1:=rfl
 rw[e1] at uY nJ nB
 obtain⟨zs,hz⟩:=K_ (((rs.set v rz).map (fun x=>x.q*(-1 / r.q))).map cn)
 have l7:zs.length=9:=by rw[<-hz];simp[aA]
 have kO:(flat zs).length=27:=by rw[ag];omega
 unfold FL RL at uY h73 ⊢
 rw[hz] at uY ⊢
 obtain⟨ys,hy⟩:=ax (((rs.set v rz).map Raw.q).map cn)
 rw[hy] at uY h73
 rw[a_] at nB uY
 rw[a_,a_] at nJ
 unfold Raw.v at iX nJ
 have EI:(eg r.q==0)=false:=by rw[qx];exact fun h=>h0 (aQ.1 h)
 refine dq Tryz.func210 30 0 ?_
 refine aF dZ ?_
 repeat refine ae ?_
 refine aM iX ?_
 refine aF EI ?_
 refine dw (by kernel_rfl) ?_
 refine kI ?_
 refine aM nB ?_
 refine kI ?_
 refine aM nJ ?_
 refine kI ?_
 refine dw (by kernel_rfl) ?_
 simp -dsimp(disch:=omega) only[ar aA,IntKind.bits,Int.reduceToNat,Int.reducePow,Option.isNone_none,↓reduceIte,reduceCtorEq,reduceAdd,reduceMul,reduceSub,Nat.reduceBEq,reduceEqDiff,reduceLT,reduceLeDiff,ru,zu]
 repeat refine ae ?_
 refine hY h73 ?_
 refine kI ?_
 refine hY uY ?_
 refine aF kO ?_
 repeat refine ae ?_
 exact RetOK.form2 rfl rfl l7 rfl
theorem Tz (a b:List Raw) (ha:LOk 1000000000 a) (hb:LOk 1000000000 b):Den Tryz.prog 171 [] [RL a,RL b] [] (FL (mg a b)):=by
 have la:=ha.len;have lb:=hb.len;have fa:=ag a;have fb:=ag b;unfold FL RL;obtain⟨T,hT⟩:=ax ((mg a b).map cn);have lT:T.length=9:=by rw[<-hT,length_map];exact gA la lb
 have hTg: ∀ i,i<9->T.getD i rz=cn ((a.getD i rz).q+(b.getD i rz).q):=fun i hi=>by rw[<-hT];exact oM (by omega) (by omega)
 obtain⟨Z,hZ⟩:=ax (replicate 9 rz);have lZ:Z.length=9:=by rw[<-hZ];rfl
 rw[hT];refine dq Tryz.func171 30 0 ?_;refine aW ?_
 repeat refine ae ?_
 refine wl (α:=Nat) (fun i=>⟨[.any,.any,.ptr 0 0 0,.ptr 1 0 0,.ptr 2 0 0,.ptr 2 0 0,.any,.any,.int .i64 i]++replicate 23 .any,[.box true (flat a),.box true (flat b),.box true (flat (BO T i Z))]⟩)
  (fun i=>8 - i) (fun i=>i<=8) 0 ?_ ?_ ?_
 .refine fW [0,1,2] ?_ ?_
  .simp[bO,eT,cJ,aU]
  rw[Co,<-hZ];simp[fM,fC,aU,cJ,bA,replicate,flat,rz,u32s]
 .exact dU _
 rintro i hi;have sc:=vV (T:=T) (rest:=Z) i (by omega);have hof:=ag (BO T i Z);have jW:=b9 (rs:=a) (i:=i) (by omega);have j9:=b9 (rs:=b) (i:=i) (by omega);have bQ:=G2 (T:=T) (rest:=Z) (i:=i) (by omega) (by omega);rw[hTg i (by omega)] at bQ;have bW:=Ce (a.getD i rz) (b.getD i rz) (ha.at i) (hb.at i);obtain⟨r,hr⟩:=ax (a.getD i rz);obtain⟨s,hs⟩:=ax (b.getD i rz);rw[hr] at jW bQ bW;rw[hs] at j9 bQ bW;have bg:=dF (rs:=BO T i Z) (i:=i) (by omega) (decide ((r.q+s.q).num<0)) (ai (r.q+s.q).num.natAbs) (ai (r.q+s.q).den);have sx:(⟨decide ((r.q+s.q).num<0),ai (r.q+s.q).num.natAbs,ai (r.q+s.q).den⟩:Raw)=cn (r.q+s.q):=rfl;rw[sx,bQ] at bg;rw[a_,bx,bx] at bW;unfold Raw.v at bW;refine aW ?_;refine bK ?_ ?_
 .intro h1 h2;refine aF h2 ?_;refine dw (by kernel_rfl) ?_;refine aF (a8 jW j9) ?_
  repeat refine ae ?_
  refine aM bW ?_;refine aF bg ?_
  repeat refine ae ?_
  refine aw (i+1) ?_ (by omega);exact bP [0,1,2]
 intro h1 h2;have yc:i=8:=by omega
 subst yc;rw[G1 (n:=8+1) lT lZ] at bg;simp only[reduceMul,reduceAdd] at jW j9 bg;have kO:(flat T).length=27:=by rw[ag];omega
 have Ox:List.drop 27 (flat T)=[]:=List.drop_of_length_le (by omega);refine aF (bB h2 jW j9) ?_
 repeat refine ae ?_
 refine aM bW ?_;simp -dsimp(disch:=omega) only[bg,kO,ar lT,Ox,IntKind.bits,Int.reduceToNat,Int.reducePow,Option.isNone_none,↓reduceIte,reduceCtorEq,reduceAdd,reduceMul,reduceSub,Nat.reduceBEq,reduceEqDiff,reduceLT,reduceLeDiff,ru,zu]
 repeat refine ae ?_
 exact RetOK.form rfl rfl lT
theorem G_ (a b:List Raw) (ha:LOk 1000000000 a) (hb:LOk 1000000000 b):Den Tryz.prog 106 [] [RL a,RL b] [] (FL (mg a b)):=by
 have la:=ha.len;have lb:=hb.len;have fa:=ag a;have fb:=ag b;have nB:=iP 0 (by decide);rw[show((0:Int):Rat)=0 from rfl,a_,bx,bx] at nB;unfold FL RL;obtain⟨T,hT⟩:=ax ((mg a b).map cn);have lT:T.length=9:=by rw[<-hT,length_map];exact gA la lb
 have hTg: ∀ i,i<9->T.getD i rz=cn ((a.getD i rz).q+(b.getD i rz).q):=fun i hi=>by rw[<-hT];exact oM (by omega) (by omega)
 rw[hT];refine dq Tryz.func106 43 0 ?_;refine aW ?_
 repeat refine ae ?_
 refine wl (α:=Nat) (fun i=>⟨[.any,.any,.ptr 0 0 0,.ptr 1 0 0,.ptr 2 0 0,.int .i64 i]++replicate 39 .any,[.box true (flat (BO T i a)),.box true (flat b),.box true (bJ 9)]⟩)
  (fun i=>8 - i) (fun i=>i<=8) 0 ?_ ?_ ?_
 .refine fW [0,1,2] ?_ ?_
  .simp[bO,eT,cJ,aU]
  rw[Co];simp[fM,fC,aU,cJ,bA,bh,aZ,bJ]
 .exact dU _
 rintro i hi;have sc:=vV (T:=T) (rest:=a) i (by omega);have hof:=ag (BO T i a);have jW:=b9 (rs:=BO T i a) (i:=i) (by omega);rw[LS (by omega) (by omega) (qp _)] at jW;have j9:=b9 (rs:=b) (i:=i) (by omega);have bQ:=G2 (T:=T) (rest:=a) (i:=i) (by omega) (by omega);rw[hTg i (by omega)] at bQ;have bW:=LD (a.getD i rz) (b.getD i rz) (ha.at i) (hb.at i);obtain⟨r,hr⟩:=ax (a.getD i rz);obtain⟨s,hs⟩:=ax (b.getD i rz);rw[hr] at jW bQ bW;rw[hs] at j9 bQ bW;have abQ:=tS r;have Ks:=tS s;have bg:=dF (rs:=BO T i a) (i:=i) (by omega) (decide ((r.q+s.q).num<0)) (ai (r.q+s.q).num.natAbs) (ai (r.q+s.q).den);have sx:(⟨decide ((r.q+s.q).num<0),ai (r.q+s.q).num.natAbs,ai (r.q+s.q).den⟩:Raw)=cn (r.q+s.q):=rfl;rw[sx,bQ] at bg;rw[a_,bx,bx] at bW;unfold Raw.v at bW abQ Ks;refine aW ?_
 refine bK ?_ ?_
 .intro h1 h2;refine aF (a8 h2 jW) ?_
  repeat refine ae ?_
  refine aM abQ ?_;refine kI ?_;by_cases h3:(r.num.length:Int)=0
  .have EE:((r.num.length:Int)==0)=true:=by rw[beq_iff_eq];exact h3
   refine aF (a8 EE j9) ?_
   repeat refine ae ?_
   refine aM Ks ?_;by_cases h4:(s.num.length:Int)=0
   .have Pv:((s.num.length:Int)==0)=true:=by rw[beq_iff_eq];exact h4
    have kZ:r.q+s.q=0:=by rw[nS h3,nS h4,Rat.add_zero]
    rw[kZ] at bg;refine aF Pv ?_;refine aM nB ?_;refine aF bg ?_
    repeat refine ae ?_
    refine aw (i+1) ?_ (by omega);exact bP [0,1,2]
   have Pv:((s.num.length:Int)==0)=false:=by rw[qx];exact h4
   refine aF Pv ?_;refine dw (by kernel_rfl) ?_;refine aF (a8 jW j9) ?_
   repeat refine ae ?_
   refine aM bW ?_;refine aF bg ?_
   repeat refine ae ?_
   refine aw (i+1) ?_ (by omega);exact bP [0,1,2]
  have EE:((r.num.length:Int)==0)=false:=by rw[qx];exact h3
  refine aF EE ?_;refine dw (by kernel_rfl) ?_;refine aF (a8 jW j9) ?_
  repeat refine ae ?_
  refine aM bW ?_;refine aF bg ?_
  repeat refine ae ?_
  refine aw (i+1) ?_ (by omega);exact bP [0,1,2]
 intro h1 h2;have yc:i=8:=by omega
 subst yc;rw[G1 (n:=8+1) lT la] at bg;simp only[reduceMul,reduceAdd] at jW j9 bg;have kO:(flat T).length=27:=by rw[ag];omega
 refine aF (bB h2 jW j9) ?_
 repeat refine ae ?_
 refine aM bW ?_;simp -dsimp(disch:=omega) only[bg,kO,ar lT,IntKind.bits,Int.reduceToNat,Int.reducePow,Option.isNone_none,↓reduceIte,reduceCtorEq,reduceAdd,reduceMul,reduceSub,Nat.reduceBEq,reduceEqDiff,reduceLT,reduceLeDiff,ru,zu]
 repeat refine ae ?_
 exact RetOK.form rfl rfl lT
theorem G' (a b:List Raw) (ha:LOk 1000000000 a) (hb:LOk 1000000000 b):Den Tryz.prog 137 [] [RL a,RL b] [] (.int .i64 (bu a b)):=by
 have la:=ha.len;have lb:=hb.len;have fa:=ag a;have fb:=ag b;unfold RL;refine dq Tryz.func137 26 0 ?_;refine aW ?_
 repeat refine ae ?_
 refine wl (α:=Nat) (fun i=>⟨[.any,.any,.ptr 0 0 0,.ptr 1 0 0,.any,.any,.any,.int .i64 i]++replicate 20 .any,[.box true (flat a),.box true (flat b)]⟩)
  (fun i=>8 - i) (fun i=>i<=8/\bu (a.drop i) (b.drop i)=bu a b) 0 ?_ ?_ ?_
 .exact bP [0,1]
 .exact⟨dU _,rfl⟩
 rintro i ⟨hi,bj⟩;have jW:=b9 (rs:=a) (i:=i) (by omega);have j9:=b9 (rs:=b) (i:=i) (by omega);have bW:=Ti (a.getD i rz) (b.getD i rz) (ha.at i) (hb.at i);have jv:=sK (a:=a) (b:=b) (i:=i) (by omega) (by omega);have eO:i=8->bu (a.drop i) (b.drop i)=eg ((a.getD i rz).q - (b.getD i rz).q):=fun h=>y8 (by omega) (by omega)
 obtain⟨r,hr⟩:=ax (a.getD i rz);obtain⟨s,hs⟩:=ax (b.getD i rz);rw[hr] at jW bW jv eO;rw[hs] at j9 bW jv eO;obtain⟨z,hz⟩:=ax (eg (r.q - s.q));rw[hz] at bW jv eO;unfold Raw.v at bW;refine aW ?_;refine bK ?_ ?_
 .intro h1 h2;refine aF h2 ?_;refine dw (by kernel_rfl) ?_;refine aF (a8 jW j9) ?_
  repeat refine ae ?_
  refine aM bW ?_;refine kI ?_;refine Br.bneInt ?_ ?_
  .intro h3 h4;rw[if_neg h3] at jv;rw[<-bj,jv];refine aF h4 ?_;refine bc rfl
  intro h3 h4;rw[if_pos h3] at jv;refine aF h4 ?_;refine aw (i+1) ?_ ⟨by omega,by rw[<-jv,bj]⟩;exact bP [0,1]
 intro h1 h2;have yc:i=8:=by omega
 have gv:=eO yc;subst yc;simp only[reduceMul] at jW j9;rw[<-bj,gv];refine aF (bB h2 jW j9) ?_
 repeat refine ae ?_
 refine aM bW ?_;refine kI ?_;refine bc rfl
theorem AA {a:List Raw} {i:Nat} (ha:a.length=9) (hi:i<8) (h:(a.getD i rz).q≠0):b8 a=false:=by
 unfold b8;rw[List.all_eq_false];refine⟨a.getD i rz,?_,fun h2=>h (of_decide_eq_true h2)⟩;rw[qa,qb (by omega)];exact mem_take_iff_getElem.2 ⟨i,by omega,rfl⟩
theorem CA {a:List Raw} (h: ∀ i,i<8->(a.getD i rz).q=0):b8 a=true:=by
 unfold b8;rw[nF];intro r hr;obtain⟨i,hi,rfl⟩:=mem_take_iff_getElem.1 hr;have:=h i (by omega);rw[qa,qb (by omega)] at this;exact iK this
theorem L8 (a:List Raw) (ha:LOk 1000000000 a):Den Tryz.prog 115 [] [RL a] [] (.bool (b8 a)):=by
 have la:=ha.len;have fa:=ag a;have fD:List.take 24 (flat a)=flat (a.take 8):=oH 8 a;have f8:(flat (a.take 8)).length=24:=by rw[ag,length_take];omega
 unfold RL;refine dq Tryz.func115 13 0 ?_;refine aF fD ?_
 repeat refine ae ?_
 refine wl (α:=Nat) (fun i=>⟨[.any,.ptr 0 0 0,.any,.any,.any,.any,.agg (flat (a.take 8)),.int .i64 i]++replicate 6 .any,[.box true (flat a)]⟩)
  (fun i=>8 - i) (fun i=>i<=8/\ ∀ j,j<i->(a.getD j rz).q=0) 0 ?_ ?_ ?_
 .refine fW [0] ?_ ?_
  .simp[bO,eT,cJ,aU,bA]
  simp[fM,fC,aU,cJ,bA,bh,aZ,bJ]
 .exact⟨dU _,fun j h=>by omega⟩
 rintro i ⟨hi,bj⟩;refine aW ?_;refine bK ?_ ?_
 .intro h1 h2;have dZ:=b9 (rs:=a.take 8) (i:=i) (by rw[length_take];omega);have BT:(a.take 8).getD i rz=a.getD i rz:=by
   simp only[qa,List.getElem?_take];rw[if_pos (by omega)]
  rw[BT] at dZ;have bW:=nP (a.getD i rz) ((ha.at i).mono (by decide));obtain⟨r,hr⟩:=ax (a.getD i rz);rw[hr] at dZ bW;unfold Raw.v at bW;refine aF (a8 h2 dZ) ?_
  repeat refine ae ?_
  refine aM bW ?_;refine kI ?_;refine Br.bneInt ?_ ?_
  .intro h3 h4;rw[AA (i:=i) la (by omega) (by rw[hr];exact fun h=>h3 (aQ.2 h))];refine aF h4 ?_;refine bc rfl
  intro h3 h4;refine aF h4 ?_;refine aw (i+1) ?_ ⟨by omega,fun j hj=>?_⟩
  .refine fW [0] ?_ ?_
   .simp[bO,eT,cJ,aU,bA]
   simp[fM,fC,aU,cJ,bA,bh,aZ,bJ]
  by_cases o5:j=i
  .rw[o5,hr];exact aQ.1 h3
  exact bj j (by omega)
 intro h1 h2;rw[CA (fun j hj=>bj j (by omega))];refine aF h2 ?_;refine bc rfl
set_option maxHeartbeats 4000000
end Go.Proofs.YtiaaceeelfhdlaaGreat
namespace Go.Pl
open Go.AM
theorem eR {q:Rat}:eg q<0↔q<0:=by
 have h:=sL (x:=q) (y:=0);have e:q - 0=q:=by grind
 rw[e] at h;exact h
theorem fG {q:Rat}:0<eg q↔0<q:=by
 have h:=LU (x:=q) (y:=0);have e:q - 0=q:=by grind
 rw[e] at h;exact h
theorem v8 {q:Rat} (h:0<q):eg q=1:=by
 have:=fG.2 h;rcases jA q with h1 | h1 | h1<;>omega
theorem v9 {q:Rat} (h:q<0):eg q= -1:=by
 have:=eR.2 h;rcases jA q with h1 | h1 | h1<;>omega
theorem L9 {a:List Raw} {v i:Nat} (hi:i<a.length):(a.set v rz).getD i rz=if v=i then rz else a.getD i rz:=by
 simp only[qa,getElem?_set];split
 .rename_i h;subst h;simp[hi]
 rfl
theorem nV {a:List Raw} {i:Nat} (g:Raw->Rat) (hi:i<a.length):(((a.map g).map cn).getD i rz).q=g (a.getD i rz):=by
 have:((a.map g).map cn).getD i rz=cn (g (a.getD i rz)):=by simp[qa,hi]
 rw[this,cK]
def co (a:List Raw) (i:Nat):Rat:=(a.getD i rz).q
def lv (a:List Raw) (x:Nat->Rat):Nat->Rat
 | 0=>co a 8
 | k+1=>lv a x k+co a k*x k
def bw (a:List Raw) (x:Nat->Rat):Rat:=lv a x 8
def E0 (cs:List (List Raw)):Prop:= ∃ x:Nat->Rat,∀ l∈cs,0<bw l x
def upd (x:Nat->Rat) (v:Nat) (t:Rat):Nat->Rat:=fun i=>if i=v then t else x i
theorem L_ {a:List Raw} {x:Nat->Rat} {v:Nat} {t:Rat}: ∀ k,lv a (upd x v t) k=lv a x k+(if v<k then co a v*(t - x v) else 0)
 | 0=>by unfold lv;rw[if_neg (by omega)];grind
 | k+1=>by
  unfold lv;rw[L_ k];by_cases h:v=k
  .subst h;rw[if_neg (by omega),if_pos (by omega)];simp only[upd,if_pos];grind
  have h2:upd x v t k=x k:=if_neg (fun h3=>h h3.symm);rw[h2];by_cases h3:v<k
  .rw[if_pos h3,if_pos (by omega)];grind
  rw[if_neg h3,if_neg (by omega)];grind
theorem Ma {a:List Raw} {x:Nat->Rat} {v:Nat} {t:Rat} (hv:v<8):bw a (upd x v t)=bw a x+co a v*(t - x v):=by
 unfold bw;rw[L_,if_pos hv]
theorem v_ {a b:List Raw} {x:Nat->Rat} (h: ∀ i,i<9->co a i=co b i): ∀ k,k<=8->lv a x k=lv b x k
 | 0,_=>h 8 (by omega)
 | k+1,hk=>by unfold lv;rw[v_ h k (by omega),h k (by omega)]
theorem Mb {a b c:List Raw} {r s:Rat} {x:Nat->Rat} (h: ∀ i,i<9->co c i=r*co a i+s*co b i): ∀ k,k<=8->lv c x k=r*lv a x k+s*lv b x k
 | 0,_=>h 8 (by omega)
 | k+1,hk=>by unfold lv;rw[Mb h k (by omega),h k (by omega)];grind
theorem wa {a b c:List Raw} {r s:Rat} {x:Nat->Rat} (h: ∀ i,i<9->co c i=r*co a i+s*co b i):bw c x=r*bw a x+s*bw b x:=Mb h 8 (by omega)
theorem Mc: ∀ L:List Rat,L≠[]-> ∃ m∈L,∀ l∈L,l<=m
 | [],h=>absurd rfl h
 | [a],_=>⟨a,by simp,fun l hl=>by simp at hl;subst hl;exact Rat.le_refl⟩
 | a::b::t,_=>by
  obtain⟨m,hm,h⟩:=Mc (b::t) (by simp);by_cases hc:a<=m
  .exact⟨m,mem_cons_of_mem _ hm,fun l hl=>by
    rcases List.mem_cons.1 hl with h1 | h1
    .rw[h1];exact hc
    exact h l h1⟩
  exact⟨a,by simp,fun l hl=>by
   rcases List.mem_cons.1 hl with h1 | h1
   .rw[h1];exact Rat.le_refl
   have:=h l h1;grind⟩
theorem E1: ∀ L:List Rat,L≠[]-> ∃ m∈L,∀ l∈L,m<=l
 | [],h=>absurd rfl h
 | [a],_=>⟨a,by simp,fun l hl=>by simp at hl;subst hl;exact Rat.le_refl⟩
 | a::b::t,_=>by
  obtain⟨m,hm,h⟩:=E1 (b::t) (by simp);by_cases hc:m<=a
  .exact⟨m,mem_cons_of_mem _ hm,fun l hl=>by
    rcases List.mem_cons.1 hl with h1 | h1
    .rw[h1];exact hc
    exact h l h1⟩
  exact⟨a,by simp,fun l hl=>by
   rcases List.mem_cons.1 hl with h1 | h1
   .rw[h1];exact Rat.le_refl
   have:=h l h1;grind⟩
theorem P4 (L U:List Rat) (h: ∀ l∈L,∀ u∈U,l<u): ∃ m,(∀ l∈L,l<m)/\(∀ u∈U,m<u):=by
 by_cases hL:L=[]
 .by_cases hU:U=[]
  .subst hL;subst hU;exact⟨0,by simp,by simp⟩
  obtain⟨m,hm,Oy⟩:=E1 U hU;subst hL;exact⟨m - 1,by simp,fun u hu=>by have:=Oy u hu;grind⟩
 obtain⟨m,hm,abR⟩:=Mc L hL;by_cases hU:U=[]
 .subst hU;exact⟨m+1,fun l hl=>by have:=abR l hl;grind,by simp⟩
 obtain⟨w,hw,Oy⟩:=E1 U hU;have hmw:=h m hm w hw;exact⟨(m+w) / 2,fun l hl=>by have:=abR l hl;grind,fun u hu=>by have:=Oy u hu;grind⟩
def pz (a:List Raw) (v:Nat) (b:List Raw):Prop:=co a v≠0/\ ∀ i,i<9->co b i=if v=i then 0 else co a i*(-1 / co a v)
theorem CB {a b:List Raw} {v:Nat} {x:Nat->Rat} (hb:pz a v b) (hv:v<8): ∀ k,k<=8->lv a x k=(if v<k then co a v*x v else 0) - co a v*lv b x k
 | 0,_=>by
  have h0:=hb.1;unfold lv;rw[hb.2 8 (by omega),if_neg (by omega),if_neg (by omega)];grind
 | k+1,hk=>by
  have h0:=hb.1;unfold lv;rw[CB hb hv k (by omega),hb.2 k (by omega)];generalize lv b x k=z;by_cases h:v=k
  .subst h;rw[if_neg (by omega),if_pos rfl,if_pos (by omega)];grind
  rw[if_neg h];by_cases h2:v<k
  .rw[if_pos h2,if_pos (by omega)];grind
  rw[if_neg h2,if_neg (by omega)];grind
theorem wb {a b:List Raw} {v:Nat} {x:Nat->Rat} (hb:pz a v b) (hv:v<8):bw a x=co a v*(x v - bw b x):=by
 unfold bw;rw[CB hb hv 8 (by omega),if_pos hv];grind
theorem zh {a b:List Raw} {v:Nat} {x:Nat->Rat} (hb:pz a v b) (hv:v<8) (h:0<co a v):0<bw a x↔bw b x<x v:=by
 rw[wb hb hv];constructor
 .intro h1;rcases Rat.not_le.1 (fun h2:x v<=bw b x=>by
   have h3:0<=bw b x - x v:=by grind
   have h4:=Rat.mul_nonneg (Rat.le_of_lt h) h3;grind) with h5
  exact h5
 intro h1;exact Rat.mul_pos h (by grind)
theorem zi {a b:List Raw} {v:Nat} {x:Nat->Rat} (hb:pz a v b) (hv:v<8) (h:co a v<0):0<bw a x↔x v<bw b x:=by
 rw[wb hb hv];have hn:0< -co a v:=by grind
 constructor
 .intro h1;rcases Rat.not_le.1 (fun h2:bw b x<=x v=>by
   have h3:0<=x v - bw b x:=by grind
   have h4:=Rat.mul_nonneg (Rat.le_of_lt hn) h3;grind) with h5
  exact h5
 intro h1;have h2:=Rat.mul_pos hn (show 0<bw b x - x v by grind);grind
def UX (cs:List (List Raw)) (v:Nat) (B:List Raw->List Raw) (x:Nat->Rat):Prop:=
 (∀ l∈cs,co l v=0->0<bw l x)/\ ∀ l∈cs,∀ u∈cs,0<co l v->co u v<0->bw (B l) x<bw (B u) x
theorem oQ {a:List Raw} {x:Nat->Rat} {v:Nat} {t:Rat} (hv:v<8) (h:co a v=0):bw a (upd x v t)=bw a x:=by
 rw[Ma hv,h];grind
theorem sT {a b:List Raw} {v:Nat} (hb:pz a v b) (hv:v<8):co b v=0:=by
 rw[hb.2 v (by omega),if_pos rfl]
theorem Ha {cs:List (List Raw)} {v:Nat} {B:List Raw->List Raw} {x:Nat->Rat} (hv:v<8) (hB: ∀ l∈cs,co l v≠0->pz l v (B l)) (h: ∀ l∈cs,0<bw l x):UX cs v B x:=by
 refine⟨fun l hl _=>h l hl,fun l hl u hu h1 h2=>?_⟩;have b1:=(zh (hB l hl (by grind)) hv h1).1 (h l hl);have b2:=(zi (hB u hu (by grind)) hv h2).1 (h u hu);grind
theorem P5 {cs:List (List Raw)} {v:Nat} {B:List Raw->List Raw} {x:Nat->Rat} (hv:v<8) (hB: ∀ l∈cs,co l v≠0->pz l v (B l)) (h:UX cs v B x): ∃ t,∀ l∈cs,0<bw l (upd x v t):=by
 obtain⟨m,hL,hU⟩:=P4 ((cs.filter (fun l=>decide (0<co l v))).map (fun l=>bw (B l) x)) ((cs.filter (fun l=>decide (co l v<0))).map (fun l=>bw (B l) x)) (by
  intro p hp q hq;simp only[mem_map,mem_filter,decide_eq_true_eq] at hp hq;obtain⟨l,⟨hl,h1⟩,rfl⟩:=hp;obtain⟨u,⟨hu,h2⟩,rfl⟩:=hq;exact h.2 l hl u hu h1 h2)
 refine⟨m,fun l hl=>?_⟩;have XG:upd x v m v=m:=if_pos rfl;by_cases h0:co l v=0
 .rw[oQ hv h0];exact h.1 l hl h0
 have hb:=hB l hl h0;have jY:bw (B l) (upd x v m)=bw (B l) x:=oQ hv (sT hb hv);by_cases h1:0<co l v
 .rw[zh hb hv h1,jY,XG];exact hL _ (mem_map.2 ⟨l,mem_filter.2 ⟨hl,iK h1⟩,rfl⟩)
 have h2:co l v<0:=by grind
 rw[zi hb hv h2,jY,XG];exact hU _ (mem_map.2 ⟨l,mem_filter.2 ⟨hl,iK h2⟩,rfl⟩)
structure Proj (cs:List (List Raw)) (v:Nat) (out:List (List Raw)):Prop where
 says: ∃ B:List Raw->List Raw,(∀ l∈cs,co l v≠0->pz l v (B l))/\ ∀ x,(∀ o∈out,0<bw o x)↔UX cs v B x
theorem CC {a:List Raw} {x:Nat->Rat} (h: ∀ i,i<8->co a i=0): ∀ k,k<=8->lv a x k=co a 8
 | 0,_=>rfl
 | k+1,hk=>by unfold lv;rw[CC h k (by omega),h k (by omega)];grind
theorem mo {a:List Raw} {x:Nat->Rat} (h: ∀ i,i<8->co a i=0):bw a x=co a 8:=CC h 8 (by omega)
theorem E2 {a b:List Raw} {r:Rat} {x:Nat->Rat} (hr:0<r) (h: ∀ i,i<9->co b i=r*co a i):0<bw b x↔0<bw a x:=by
 have e:bw b x=r*bw a x+0*bw a x:=wa (fun i hi=>by rw[h i hi];grind);have e2:bw b x=r*bw a x:=by rw[e];grind
 rw[e2];constructor
 .intro h1;rcases Rat.not_le.1 (fun h2:bw a x<=0=>by
   have h3:=Rat.mul_nonneg (Rat.le_of_lt hr) (show 0<= -bw a x by grind);grind) with h4
  exact h4
 intro h1;exact Rat.mul_pos hr h1
theorem Proj.mk' {cs out:List (List Raw)} {v:Nat} (B:List Raw->List Raw) (hB: ∀ l∈cs,co l v≠0->pz l v (B l))
 (h1: ∀ l∈cs,co l v=0-> ∃ o∈out,∀ i,i<9->co o i=co l i) (h2: ∀ l∈cs,∀ u∈cs,0<co l v->co u v<0-> ∃ o∈out,∀ i,i<9->co o i=co (B u) i - co (B l) i)
 (h3: ∀ o∈out,(∃ l∈cs,co l v=0/\ ∀ i,i<9->co o i=co l i)\/ ∃ l∈cs,∃ u∈cs,0<co l v/\co u v<0/\ ∀ i,i<9->co o i=co (B u) i - co (B l) i):Proj cs v out:=by
 refine⟨B,hB,fun x=>⟨fun h=>⟨fun l hl h0=>?_,fun l hl u hu hp hn=>?_⟩,fun h o ho=>?_⟩⟩
 .obtain⟨o,ho,he⟩:=h1 l hl h0
  have e:bw o x=bw l x:=v_ he 8 (by omega)
  rw[<-e];exact h o ho
 .obtain⟨o,ho,he⟩:=h2 l hl u hu hp hn
  have e:bw o x=1*bw (B u) x+(-1)*bw (B l) x:=wa (fun i hi=>by rw[he i hi];grind)
  have:=h o ho
  grind
 rcases h3 o ho with⟨l,hl,h0,he⟩ | ⟨l,hl,u,hu,hp,hn,he⟩
 .have e:bw o x=bw l x:=v_ he 8 (by omega)
  rw[e];exact h.1 l hl h0
 have e:bw o x=1*bw (B u) x+(-1)*bw (B l) x:=wa (fun i hi=>by rw[he i hi];grind)
 have:=h.2 l hl u hu hp hn
 grind
theorem pA {α:Type} {lt:α->α->Prop} (asymm: ∀ a b,lt a b-> ¬lt b a): ∀ s t:List α,s.Pairwise lt->t.Pairwise lt->(∀ f,f∈s↔f∈t)->s=t
 | [],[],_,_,_=>rfl
 | [],b::t,_,_,h=>by have:=(h b).2 (by simp);simp at this
 | a::s,[],_,_,h=>by have:=(h a).1 (by simp);simp at this
 | a::s,b::t,hs,ht,h=>by
  have BU:=pairwise_cons.1 hs;have R5:=pairwise_cons.1 ht;have uz:a=b:=by
   rcases List.mem_cons.1 ((h a).1 (by simp)) with h1 | h1
   .exact h1
   rcases List.mem_cons.1 ((h b).2 (by simp)) with h2 | h2
   .exact h2.symm
   exact absurd (R5.1 a h1) (asymm _ _ (BU.1 b h2))
  subst uz;have abT: ¬lt a a:=fun h1=>asymm _ _ h1 h1
  have jd:a∉s:=fun h1=>abT (BU.1 a h1)
  have qN:a∉t:=fun h1=>abT (R5.1 a h1)
  have hm: ∀ f,f∈s↔f∈t:=fun f=>by
   constructor
   .intro h1;rcases List.mem_cons.1 ((h f).1 (mem_cons_of_mem _ h1)) with h2 | h2
    .subst h2;exact absurd h1 jd
    exact h2
   intro h1;rcases List.mem_cons.1 ((h f).2 (mem_cons_of_mem _ h1)) with h2 | h2
   .subst h2;exact absurd h1 qN
   exact h2
  rw[pA asymm s t BU.2 R5.2 hm]
def aO (a:List Raw):Prop:= ∀ i,i<8->co a i=0
def cT (a:List Raw):List Raw:=(Ex a).map cn
structure IsSys (cs s:List (List Raw)):Prop where
 sorted:s.Pairwise (fun a b=>bu a b<0)
 mem: ∀ f,f∈s↔ ∃ l∈cs,¬aO l/\f=cT l
theorem IsSys.unique {cs s t:List (List Raw)} (h1:IsSys cs s) (h2:IsSys cs t):s=t:=
 pA (lt:=fun a b=>bu a b<0) (fun a b h h'=>by rw[ed] at h';omega) s t h1.sorted h2.sorted (fun f=>by rw[h1.mem,h2.mem])
def occ (cs:List (List Raw)) (v:Nat):Bool:=cs.any (fun l=>decide (co l v≠0))
def bt (cs:List (List Raw)):Nat:=((List.range 8).filter (occ cs)).length
theorem ei {cs:List (List Raw)} {v:Nat}:occ cs v=true↔ ∃ l∈cs,co l v≠0:=by
 unfold occ;rw[any_eq_true];constructor
 .rintro⟨l,hl,h⟩;exact⟨l,hl,of_decide_eq_true h⟩
 rintro⟨l,hl,h⟩;exact⟨l,hl,iK h⟩
theorem zj {p q:Nat->Bool}: ∀ {l:List Nat} {v:Nat},(∀ w∈l,q w=true->p w=true)->v∈l->p v=true->q v=false->(l.filter q).length<(l.filter p).length
 | [],v,_,hv,_,_=>by simp at hv
 | w::l,v,h,hv,hp,hq=>by
  have cX: ∀ l:List Nat,(∀ w∈l,q w=true->p w=true)->(l.filter q).length<=(l.filter p).length:=by
   intro l
   induction l with
   | nil=>intro _;simp
   | cons a l ih=>
    intro h;have ih:=ih (fun w hw=>h w (mem_cons_of_mem _ hw));cases Wu:q a with
    | true=>
     have PA:=h a (by simp) Wu;simp[List.filter_cons,Wu,PA];omega
    | false=>
     cases PA:p a<;>simp[List.filter_cons,Wu,PA]<;>omega
  have hl: ∀ w∈l,q w=true->p w=true:=fun w hw=>h w (mem_cons_of_mem _ hw)
  rcases List.mem_cons.1 hv with h1 | h1
  .subst h1;have:=cX l hl;simp[List.filter_cons,hq,hp];omega
  have ih:=zj hl h1 hp hq;cases Wu:q w with
  | true=>
   have PA:=h w (by simp) Wu;simp[List.filter_cons,Wu,PA];omega
  | false=>
   cases PA:p w<;>simp[List.filter_cons,Wu,PA]<;>omega
theorem Md {cs out:List (List Raw)} {v:Nat} (hv:v<8) (h: ∀ w,w<8->occ out w=true->occ cs w=true) (h1:occ cs v=true) (h2:occ out v=false):bt out<bt cs:=
 zj (l:=List.range 8) (v:=v) (fun w hw=>h w (List.mem_range.1 hw)) (List.mem_range.2 hv) h1 h2
theorem zk {cs:List (List Raw)} {v:Nat} (hv:v<8) (h:occ cs v=true):0<bt cs:=by
 unfold bt;exact List.length_pos_iff.2 (fun h2=>by
  have:v∈(List.range 8).filter (occ cs):=mem_filter.2 ⟨List.mem_range.2 hv,h⟩;rw[h2] at this;simp at this)
theorem sU {a:List Raw} (h: ¬aO a): ∃ v,v<8/\co a v≠0:=by
 rcases Classical.em (∃ v,v<8/\co a v≠0) with h1 | h1
 .exact h1
 exfalso;apply h;intro i hi;rcases Classical.em (co a i=0) with h2 | h2
 .exact h2
 exact absurd ⟨i,hi,h2⟩ h1
theorem sV {C:Rat} (hC:C≠0): ∀ {rs:List Raw},(bF ((rs.map (fun r=>r.q / C)).map cn)).q=(bF rs).q / C
 | []=>by simp only[List.map_nil,bF];rw[GV];grind
 | [c]=>by simp only[map_cons,List.map_nil,bF,cK]
 | r::s::t=>by
  have ih:=sV hC (rs:=s::t);simp only[map_cons] at ih ⊢;simp only[bF];rw[cK];by_cases h:r.q=0
  .rw[if_pos h,if_pos (by rw[h];grind)];exact ih
  rw[if_neg h,if_neg (by grind),cK]
theorem sW {c:Rat} (h:c≠0):0<dV c:=by
 have h1:c.num<0↔c<0:=gB;unfold dV;split
 .rename_i h2;have:=h1.1 h2;grind
 rename_i h2;have: ¬c<0:=fun h3=>h2 (h1.2 h3)
 grind
theorem E3 {c:Rat} (h:c≠0):dV (c / dV c)=1:=by
 have hp:=sW h;have h1:(c / dV c).num<0↔c / dV c<0:=gB;have h2:c.num<0↔c<0:=gB;by_cases hc:c.num<0
 .have e:dV c= -c:=if_pos hc;have lX:=h2.1 hc;have e2:c / dV c= -1:=by rw[e];grind
  rw[e2];rfl
 have e:dV c=c:=if_neg hc;have e2:c / dV c=1:=by rw[e];grind
 rw[e2];rfl
theorem Me {rs:List Raw} (_:rs.length=9):Ex ((Ex rs).map cn)=Ex rs:=by
 by_cases h:(bF rs).q=0
 .rw[lA h];apply lA;have hm:=oJ (rs:=(replicate 9 (0:Rat)).map cn) (by simp);obtain⟨q,hq,he⟩:=mem_map.1 hm;rw[<-he,cK];exact List.eq_of_mem_replicate hq
 have h1:=sI h;have hC:=oK h;have h2:(bF ((Ex rs).map cn)).q=(bF rs).q / dV (bF rs).q:=by rw[h1];exact sV hC
 have h3:(bF ((Ex rs).map cn)).q≠0:=by rw[h2];grind
 rw[sI h3,h2,E3 h,List.map_map];have h4:(fun r:Raw=>r.q / 1) ∘ cn=id:=by
  funext q;simp only[Function.comp,cK,id];grind
 rw[h4,List.map_id]
theorem Mf {a:List Raw} {i:Nat} (h:i<a.length):a.getD i rz∈a:=by
 rw[qa,qb h];exact pP h
theorem Hb {l:List Raw} (hl:l.length=9) (h: ¬aO l):(bF l).q≠0:=fun h0=>h (fun i hi=>mf h0 _ (Mf (by omega)))
theorem f4 {l:List Raw} (hl:l.length=9):(cT l).length=9:=by
 unfold cT Ex;rw[length_map];split
 .simp
 rw[length_map,hl]
theorem rA {l:List Raw} (hl:l.length=9) (h:(bF l).q≠0) {i:Nat} (hi:i<9):co (cT l) i=co l i / dV (bF l).q:=by
 unfold co cT;rw[sI h];exact nV (a:=l) (fun r=>r.q / dV (bF l).q) (by omega)
theorem wc {l:List Raw} (hl:l.length=9) (h: ¬aO l): ∃ r:Rat,0<r/\ ∀ i,i<9->co (cT l) i=r*co l i:=by
 have h0:=Hb hl h;have hp:=sW h0;refine⟨1 / dV (bF l).q,?_,fun i hi=>by rw[rA hl h0 hi];grind⟩;have:=Rat.inv_pos (a:=dV (bF l).q) |>.2 hp;have e:1 / dV (bF l).q=(dV (bF l).q)⁻¹:=by grind
 rw[e];exact this
theorem jN {l:List Raw} (hl:l.length=9) (h: ¬aO l): ¬aO (cT l):=by
 obtain⟨r,hr,he⟩:=wc hl h;intro h2;apply h;intro i hi;have h3:=h2 i hi;rw[he i (by omega)] at h3;rcases Rat.mul_eq_zero.1 h3 with h4 | h4
 .rw[h4] at hr;exact absurd hr (Rat.lt_irrefl)
 exact h4
theorem AB {l:List Raw} (hl:l.length=9) (h: ¬aO l) {i:Nat} (hi:i<9):(co (cT l) i=0↔co l i=0):=by
 obtain⟨r,hr,he⟩:=wc hl h;rw[he i hi];constructor
 .intro h3;rcases Rat.mul_eq_zero.1 h3 with h4 | h4
  .rw[h4] at hr;exact absurd hr (Rat.lt_irrefl)
  exact h4
 intro h3;rw[h3,Rat.mul_zero]
theorem CD {l:List Raw} (hl:l.length=9) (h: ¬aO l) {x:Nat->Rat}:0<bw (cT l) x↔0<bw l x:=by
 obtain⟨r,hr,he⟩:=wc hl h;exact E2 hr he
theorem lD {l:List Raw} (hl:l.length=9):cT (cT l)=cT l:=by
 unfold cT;rw[Me hl]
theorem mq {k:Nat} {l:List Raw} (h:LOk k l) (hk:1<=k):LOk (2*k) (cT l):=by
 refine LOk.of_map ?_ ?_
 .have:=f4 h.len;unfold cT at this;rwa [length_map] at this
 intro x hx;by_cases h0:(bF l).q=0
 .rw[lA h0] at hx;rw[List.eq_of_mem_replicate hx];exact Bd.zero (by omega)
 rw[sI h0] at hx;simp only[mem_map] at hx;obtain⟨r,hr,rfl⟩:=hx;have fX:l≠[]:=fun h2=>by rw[h2] at hr;simp at hr
 have b1:=(h.ok _ hr).bd hk;have b2:=(h.ok _ (oJ fX)).bd hk;have b3:Bd k (dV (bF l).q):=by unfold dV;split;exact b2.neg;exact b2
 exact Bd.mono (b1.div b3 (oK h0) (by omega)) (by omega)
def In (cs:List (List Raw)) (x:Nat->Rat):Prop:= ∀ l∈cs,0<bw l x\/(aO l/\bw l x=0)
def Ey (cs:List (List Raw)) (x:Nat->Rat):Prop:= ∀ l∈cs,0<bw l x
def CE (cs:List (List Raw)):Prop:= ∃ l∈cs,aO l/\co l 8<0
theorem P6 {cs:List (List Raw)} (h:CE cs) (x:Nat->Rat): ¬In cs x:=by
 obtain⟨l,hl,hc,hn⟩:=h;intro hi;have e:bw l x=co l 8:=mo hc;rcases hi l hl with h1 | ⟨_,h1⟩<;>rw[e] at h1<;>grind
theorem E4 {cs s:List (List Raw)} (h9: ∀ l∈cs,l.length=9) (h:IsSys cs s) (hv: ¬CE cs) (x:Nat->Rat):In cs x↔Ey s x:=by
 constructor
 .intro hi f hf;obtain⟨l,hl,hc,rfl⟩:=(h.mem f).1 hf;rw[CD (h9 l hl) hc];rcases hi l hl with h1 | ⟨h1,_⟩
  .exact h1
  exact absurd h1 hc
 intro hp l hl;rcases Classical.em (aO l) with hc | hc
 .have e:bw l x=co l 8:=mo hc;rw[e];by_cases h0:co l 8=0
  .exact Or.inr ⟨hc,h0⟩
  left;have: ¬co l 8<0:=fun h1=>hv ⟨l,hl,hc,h1⟩
  grind
 left;rw[<-CD (h9 l hl) hc];exact hp _ ((h.mem _).2 ⟨l,hl,hc,rfl⟩)
structure SysF (k:Nat) (s:List (List Raw)):Prop where
 sorted:s.Pairwise (fun a b=>bu a b<0)
 ok: ∀ l∈s,LOk k l
 nc: ∀ l∈s,¬aO l
 nm: ∀ l∈s,cT l=l
theorem SysF.of {cs s:List (List Raw)} {k:Nat} (h9: ∀ l∈cs,l.length=9) (h:IsSys cs s) (hk: ∀ l∈cs,¬aO l->LOk k (cT l)):SysF k s:=by
 refine⟨h.sorted,fun f hf=>?_,fun f hf=>?_,fun f hf=>?_⟩<;>obtain⟨l,hl,hc,rfl⟩:=(h.mem f).1 hf
 .exact hk l hl hc
 .exact jN (h9 l hl) hc
 exact lD (h9 l hl)
theorem SysF.self {k:Nat} {s:List (List Raw)} (h:SysF k s):IsSys s s:=⟨h.sorted,fun f=>⟨fun hf=>⟨f,hf,h.nc f hf,(h.nm f hf).symm⟩,fun⟨l,hl,_,he⟩=>by rw[he,h.nm l hl];exact hl⟩⟩
theorem vg {cs s:List (List Raw)} (h9: ∀ l∈cs,l.length=9) (h:IsSys cs s) {w:Nat} (hw:w<8):occ s w=true↔occ cs w=true:=by
 rw[ei,ei];constructor
 .rintro⟨f,hf,h0⟩;obtain⟨l,hl,hc,rfl⟩:=(h.mem f).1 hf;exact⟨l,hl,fun h1=>h0 ((AB (h9 l hl) hc (by omega)).2 h1)⟩
 rintro⟨l,hl,h0⟩;have hc: ¬aO l:=fun h1=>h0 (h1 w hw)
 exact⟨cT l,(h.mem _).2 ⟨l,hl,hc,rfl⟩,fun h1=>h0 ((AB (h9 l hl) hc (by omega)).1 h1)⟩
theorem cA {a:List Raw} (ha:a.length=9):b8 a=true↔aO a:=by
 unfold b8 aO;rw[nF];constructor
 .intro h i hi;refine of_decide_eq_true (h (a.getD i rz) ?_);rw[qa,qb (by omega)];exact mem_take_iff_getElem.2 ⟨i,by omega,rfl⟩
 intro h r hr;obtain⟨i,hi,rfl⟩:=mem_take_iff_getElem.1 hr;have:=h i (by omega);unfold co at this;rw[qa,qb (by omega)] at this;exact iK this
def en (v:Nat) (l:List Raw):List Raw:=((l.set v rz).map (fun r=>r.q*(-1 / (l.getD v rz).q))).map cn
def dL (l:List Raw):List Raw:=(l.map (fun r=>r.q*((-1:Int):Rat))).map cn
def d9 (u l:List Raw):List Raw:=(mg u (dL l)).map cn
def dE (s:List (List Raw)) (v:Nat):List (List Raw):=(s.filter (fun l=>decide (0<co l v))).map (en v)
def bV (s:List (List Raw)) (v:Nat):List (List Raw):=(s.filter (fun l=>decide (co l v<0))).map (en v)
def fH (s:List (List Raw)) (v:Nat):List (List Raw):=s.filter (fun l=>decide (co l v=0))
def eo (s:List (List Raw)) (v:Nat):List (List Raw):=fH s v++(bV s v).flatMap fun u=>(dE s v).map fun l=>d9 u l
def I3 (s:List (List Raw)) (v:Nat):Prop:= ∃ u∈bV s v,∃ l∈dE s v,aO (d9 u l)/\co (d9 u l) 8<=0
theorem er {v:Nat} {l:List Raw} (h:l.length=9):(en v l).length=9:=by simp[en,h]
theorem dG {l:List Raw} (h:l.length=9):(dL l).length=9:=by simp[dL,h]
theorem rB {u l:List Raw} (hu:u.length=9) (hl:l.length=9):(d9 u l).length=9:=by
 unfold d9;rw[length_map,gA hu (dG hl)]
theorem jO {v:Nat} {l:List Raw} (h:l.length=9) (h0:co l v≠0):pz l v (en v l):=by
 refine⟨h0,fun i hi=>?_⟩;unfold co en;rw[nV _ (by rw[Uy];omega),L9 (by omega)];by_cases hv:v=i
 .rw[if_pos hv,if_pos hv,GV];grind
 rw[if_neg hv,if_neg hv]
theorem jo {l:List Raw} (h:l.length=9) {i:Nat} (hi:i<9):co (dL l) i= -co l i:=by
 unfold co dL;rw[nV _ (by omega)];grind
theorem vi {u l:List Raw} (hu:u.length=9) (hl:l.length=9) {i:Nat} (hi:i<9):co (d9 u l) i=co u i - co l i:=by
 have h1:=jo hl hi;unfold co at h1 ⊢;unfold d9;rw[oM (by omega) (by rw[dG hl];omega),cK,h1];grind
theorem gh {s:List (List Raw)} {v:Nat} {b:List Raw}:b∈dE s v↔ ∃ l∈s,0<co l v/\b=en v l:=by
 unfold dE;simp only[mem_map,mem_filter,decide_eq_true_eq];constructor
 .rintro⟨l,⟨h1,h2⟩,rfl⟩;exact⟨l,h1,h2,rfl⟩
 rintro⟨l,h1,h2,rfl⟩;exact⟨l,⟨h1,h2⟩,rfl⟩
theorem fc {s:List (List Raw)} {v:Nat} {b:List Raw}:b∈bV s v↔ ∃ l∈s,co l v<0/\b=en v l:=by
 unfold bV;simp only[mem_map,mem_filter,decide_eq_true_eq];constructor
 .rintro⟨l,⟨h1,h2⟩,rfl⟩;exact⟨l,h1,h2,rfl⟩
 rintro⟨l,h1,h2,rfl⟩;exact⟨l,⟨h1,h2⟩,rfl⟩
theorem CF {s:List (List Raw)} {v:Nat} {b:List Raw}:b∈fH s v↔b∈s/\co b v=0:=by
 unfold fH;simp only[mem_filter,decide_eq_true_eq]
theorem fN {s:List (List Raw)} {v:Nat} {o:List Raw}:o∈eo s v↔(o∈s/\co o v=0)\/ ∃ l∈s,∃ u∈s,0<co l v/\co u v<0/\o=d9 (en v u) (en v l):=by
 unfold eo;rw[qr,CF,List.mem_flatMap];constructor
 .rintro(h | ⟨u,hu,h⟩)
  .exact Or.inl h
  right;obtain⟨l,hl,rfl⟩:=mem_map.1 h;obtain⟨u',h1,h2,rfl⟩:=fc.1 hu;obtain⟨l',h3,h4,rfl⟩:=gh.1 hl;exact⟨l',h3,u',h1,h4,h2,rfl⟩
 rintro(h | ⟨l,hl,u,hu,h1,h2,rfl⟩)
 .exact Or.inl h
 exact Or.inr ⟨_,fc.2 ⟨u,hu,h2,rfl⟩,mem_map.2 ⟨_,gh.2 ⟨l,hl,h1,rfl⟩,rfl⟩⟩
theorem gR {s:List (List Raw)} {v:Nat} (h9: ∀ l∈s,l.length=9): ∀ o∈eo s v,o.length=9:=by
 intro o ho;rcases fN.1 ho with⟨h,_⟩ | ⟨l,hl,u,hu,_,_,rfl⟩
 .exact h9 o h
 exact rB (er (h9 u hu)) (er (h9 l hl))
theorem CG {s:List (List Raw)} {v:Nat} (h9: ∀ l∈s,l.length=9):Proj s v (eo s v):=by
 refine Proj.mk' (en v) (fun l hl h0=>jO (h9 l hl) h0) (fun l hl h0=>⟨l,fN.2 (Or.inl ⟨hl,h0⟩),fun _ _=>rfl⟩)
  (fun l hl u hu h1 h2=>⟨_,fN.2 (Or.inr ⟨l,hl,u,hu,h1,h2,rfl⟩),fun i hi=>vi (er (h9 u hu)) (er (h9 l hl)) hi⟩) (fun o ho=>?_)
 rcases fN.1 ho with⟨h,h0⟩ | ⟨l,hl,u,hu,h1,h2,rfl⟩
 .exact Or.inl ⟨o,h,h0,fun _ _=>rfl⟩
 exact Or.inr ⟨l,hl,u,hu,h1,h2,fun i hi=>vi (er (h9 u hu)) (er (h9 l hl)) hi⟩
theorem Hc {s:List (List Raw)} {v:Nat} (hv:v<8) (h9: ∀ l∈s,l.length=9): ∀ o∈eo s v,co o v=0:=by
 intro o ho;rcases fN.1 ho with⟨_,h⟩ | ⟨l,hl,u,hu,h1,h2,rfl⟩
 .exact h
 rw[vi (er (h9 u hu)) (er (h9 l hl)) (by omega),sT (jO (h9 u hu) (by grind)) hv,sT (jO (h9 l hl) (by grind)) hv];grind
theorem Hd {s:List (List Raw)} {v w:Nat} (hw:w<8) (h9: ∀ l∈s,l.length=9) (h:occ (eo s v) w=true):occ s w=true:=by
 rw[ei] at h ⊢;obtain⟨o,ho,h0⟩:=h;rcases fN.1 ho with⟨h,_⟩ | ⟨l,hl,u,hu,h1,h2,rfl⟩
 .exact⟨o,h,h0⟩
 rw[vi (er (h9 u hu)) (er (h9 l hl)) (by omega)] at h0;have e1:=(jO (h9 u hu) (v:=v) (by grind)).2 w (by omega);have e2:=(jO (h9 l hl) (v:=v) (by grind)).2 w (by omega);by_cases c1:co u w=0
 .by_cases c2:co l w=0
  .exfalso;apply h0;rw[e1,e2,c1,c2];split<;>grind
  exact⟨l,hl,c2⟩
 exact⟨u,hu,c1⟩
theorem P7 {k:Nat} {s s':List (List Raw)} {v:Nat} (hs:SysF k s) (hb: ¬I3 s v) (h:IsSys (eo s v) s') (x:Nat->Rat):Ey s' x↔Ey (eo s v) x:=by
 have h9: ∀ l∈s,l.length=9:=fun l hl=>(hs.ok l hl).len
 have Oz: ∀ o∈eo s v,aO o->0<co o 8:=by
  intro o ho hc;rcases fN.1 ho with⟨h1,_⟩ | ⟨l,hl,u,hu,h1,h2,rfl⟩
  .exact absurd hc (hs.nc o h1)
  rcases Rat.not_le.1 (fun h3:co (d9 (en v u) (en v l)) 8<=0=>hb ⟨_,fc.2 ⟨u,hu,h2,rfl⟩,_,gh.2 ⟨l,hl,h1,rfl⟩,hc,h3⟩) with h4
  exact h4
 have hv: ¬CE (eo s v):=fun⟨o,ho,hc,hn⟩=>by have:=Oz o ho hc;grind
 rw[<-E4 (gR h9) h hv x];constructor
 .intro hi o ho;rcases hi o ho with h1 | ⟨h1,h2⟩
  .exact h1
  have e:bw o x=co o 8:=mo h1;have:=Oz o ho h1;grind
 intro hp o ho;exact Or.inl (hp o ho)
theorem Mh {s:List (List Raw)} {v:Nat} (hv:v<8) (h: ∀ o∈s,co o v=0) (x:Nat->Rat) (t:Rat):Ey s (upd x v t)↔Ey s x:=by
 constructor<;>intro hp o ho<;>have:=hp o ho
 .rwa [oQ hv (h o ho)] at this
 rwa [oQ hv (h o ho)]
theorem CH {k:Nat} {s s':List (List Raw)} {v:Nat} (hv:v<8) (hs:SysF k s) (hb: ¬I3 s v) (h:IsSys (eo s v) s') (x:Nat->Rat):Ey s' x↔ ∃ t,Ey s (upd x v t):=by
 have h9: ∀ l∈s,l.length=9:=fun l hl=>(hs.ok l hl).len
 rw[P7 hs hb h x];obtain⟨B,hB,R'⟩:=(CG (v:=v) h9).says;constructor
 .intro hp;exact P5 hv hB ((R' x).1 hp)
 rintro⟨t,ht⟩;rw[<-Mh hv (Hc hv h9) x t];exact(R' _).2 (Ha hv hB ht)
theorem P8 {k:Nat} {s:List (List Raw)} {v:Nat} (hv:v<8) (hs:SysF k s) (hb:I3 s v) (x:Nat->Rat): ¬Ey s x:=by
 intro hp;have h9: ∀ l∈s,l.length=9:=fun l hl=>(hs.ok l hl).len
 obtain⟨B,hB,R'⟩:=(CG (v:=v) h9).says;have ho:=(R' x).2 (Ha hv hB hp);obtain⟨u,hu,l,hl,hc,hn⟩:=hb;have hm:d9 u l∈eo s v:=List.mem_append.2 (Or.inr (List.mem_flatMap.2 ⟨u,hu,mem_map.2 ⟨l,hl,rfl⟩⟩));have h1:=ho _ hm;have e:bw (d9 u l) x=co (d9 u l) 8:=mo hc;grind
theorem we {α:Type} {p:α->Bool}: ∀ {l:List α},(∀ a∈l,p a=true)->l.filter p=l
 | [],_=>rfl
 | a::l,h=>by rw[List.filter_cons_of_pos (h a (by simp)),we (fun b hb=>h b (mem_cons_of_mem _ hb))]
theorem ko {α:Type} {p:α->Bool}: ∀ {l:List α},(∀ a∈l,p a=false)->l.filter p=[]
 | [],_=>rfl
 | a::l,h=>by rw[filter_cons_of_neg (by rw[h a (by simp)];simp),ko (fun b hb=>h b (mem_cons_of_mem _ hb))]
theorem I4 {s:List (List Raw)} {v:Nat} (h:occ s v=false): ∀ l∈s,co l v=0:=by
 intro l hl;rcases Classical.em (co l v=0) with h1 | h1
 .exact h1
 have:=ei.2 ⟨l,hl,h1⟩;rw[h] at this;simp at this
theorem rC {s:List (List Raw)} {v:Nat} (h:occ s v=false):eo s v=s/\dE s v=[]/\bV s v=[]:=by
 have h0:=I4 h;have e1:dE s v=[]:=by unfold dE;rw[ko (fun l hl=>by rw[h0 l hl];decide)];rfl
 have e2:bV s v=[]:=by unfold bV;rw[ko (fun l hl=>by rw[h0 l hl];decide)];rfl
 refine⟨?_,e1,e2⟩;unfold eo;rw[e2,List.flatMap_nil,append_nil];unfold fH;exact we (fun l hl=>by rw[h0 l hl];decide)
theorem I5 {k:Nat} {s s':List (List Raw)} {v:Nat} (hs:SysF k s) (h:occ s v=false) (hi:IsSys (eo s v) s'):s'=s:=by
 rw[(rC h).1] at hi;exact hi.unique hs.self
theorem P9 {k v:Nat} {l:List Raw} (h:LOk k l) (hk:1<=k) (h0:co l v≠0): ∀ r∈en v l,Bd (2*k+1) r.q:=by
 intro r hr;unfold en at hr;simp only[List.map_map,mem_map,Function.comp] at hr;obtain⟨a,ha,rfl⟩:=hr;rw[cK];have b1:Bd k a.q:=by
  rcases List.mem_or_eq_of_mem_set ha with h1 | h1
  .exact(h.ok _ h1).bd hk
  rw[h1,GV];exact Bd.zero hk
 have b2:Bd k (l.getD v rz).q:=(h.at v).bd hk;have b0:Bd 1 ((-1:Rat)):=⟨by decide,by decide⟩;exact Bd.mono (b1.mul (b0.div b2 h0 (by omega)) (by omega)) (by omega)
theorem AD {k:Nat} {l:List Raw} (h: ∀ r∈l,Bd k r.q): ∀ r∈dL l,Bd (k+1) r.q:=by
 intro r hr;unfold dL at hr;simp only[List.map_map,mem_map,Function.comp] at hr;obtain⟨a,ha,rfl⟩:=hr;rw[cK];have b0:Bd 1 (((-1:Int):Rat)):=⟨by decide,by decide⟩;exact(h a ha).mul b0 (by omega)
theorem He {k v:Nat} {l:List Raw} (h:LOk k l) (hk:1<=k) (h0:co l v≠0):LOk (2*k+1) (en v l):=by
 refine LOk.of_map (by rw[length_map,Uy];exact h.len) (fun q hq=>?_);have:=P9 h hk h0 (cn q) (by unfold en;exact mem_map.2 ⟨q,hq,rfl⟩);rwa [cK] at this
theorem rD {k:Nat} {l:List Raw} (h:LOk k l) (hk:1<=k):LOk (k+1) (dL l):=by
 refine LOk.of_map (by rw[length_map];exact h.len) (fun q hq=>?_);have:=AD (h.bd hk) (cn q) (by unfold dL;exact mem_map.2 ⟨q,hq,rfl⟩);rwa [cK] at this
theorem Hf {k:Nat} {u l:List Raw} (hu:LOk k u) (hl:LOk k l) (hk:1<=k):LOk (2*k+2) (d9 u l):=
 LOk.of_map (gA hu.len (dG hl.len)) (fun q hq=>Bd.mono (Ar (hu.bd hk) (AD (hl.bd hk)) (by omega) q hq) (by omega))
theorem E5 {k v:Nat} {s:List (List Raw)} (h: ∀ l∈s,LOk k l) (hk:1<=k): ∀ b∈dE s v,LOk (2*k+1) b:=by
 intro b hb;obtain⟨l,hl,h0,rfl⟩:=gh.1 hb;exact He (h l hl) hk (by grind)
theorem AE {k v:Nat} {s:List (List Raw)} (h: ∀ l∈s,LOk k l) (hk:1<=k): ∀ b∈bV s v,LOk (2*k+1) b:=by
 intro b hb;obtain⟨l,hl,h0,rfl⟩:=fc.1 hb;exact He (h l hl) hk (by grind)
theorem AF {k v:Nat} {s:List (List Raw)} (h: ∀ l∈s,LOk k l) (hk:1<=k): ∀ o∈eo s v,LOk (4*k+4) o:=by
 intro o ho;unfold eo at ho;rcases List.mem_append.1 ho with h1 | h1
 .exact(h o (CF.1 h1).1).mono (by omega)
 obtain⟨u,hu,h2⟩:=List.mem_flatMap.1 h1;obtain⟨l,hl,rfl⟩:=mem_map.1 h2;exact(Hf (AE h hk u hu) (E5 h hk l hl) (by omega)).mono (by omega)
theorem jq {α:Type}: ∀ (s L:List α),s.Pairwise (fun a b=>a≠b)->(∀ f∈s,f∈L)->s.length<=L.length
 | [],_,_,_=>dU _
 | a::s,L,hp,h=>by
  have h2:=pairwise_cons.1 hp;obtain⟨L1,L2,rfl⟩:=List.append_of_mem (h a (by simp));have ih:=jq s (L1++L2) h2.2 (fun f hf=>by
   have h3:=h f (mem_cons_of_mem _ hf);rw[qr,uI] at h3;rw[qr];rcases h3 with h3 | h3 | h3
   .exact Or.inl h3
   .exact absurd h3.symm (h2.1 f hf)
   exact Or.inr h3)
  simp only[qe,length_cons] at ih ⊢;omega
def ncs (cs:List (List Raw)):List (List Raw):=cs.filter (fun l=>!b8 l)
theorem jr {cs:List (List Raw)} (h9: ∀ l∈cs,l.length=9) {l:List Raw}:l∈ncs cs↔l∈cs/\ ¬aO l:=by
 unfold ncs;rw[mem_filter];constructor
 .rintro⟨h1,h2⟩;exact⟨h1,fun h3=>by rw[(cA (h9 l h1)).2 h3] at h2;simp at h2⟩
 rintro⟨h1,h2⟩;refine⟨h1,?_⟩;cases h:b8 l with
 | false=>rfl
 | true=>exact absurd ((cA (h9 l h1)).1 h) h2
theorem mr {cs s:List (List Raw)} (h9: ∀ l∈cs,l.length=9) (h:IsSys cs s):s.length<=(ncs cs).length:=by
 have:=jq s ((ncs cs).map cT) (h.sorted.imp (fun uz he=>by subst he;have:=ed (by assumption) (by assumption);omega)) (fun f hf=>by
  obtain⟨l,hl,hc,rfl⟩:=(h.mem f).1 hf;exact mem_map.2 ⟨l,(jr h9).2 ⟨hl,hc⟩,rfl⟩)
 rwa [length_map] at this
structure Sz (k:Nat) (s:List (List Raw)):Prop where
 n3:bt s<=3
 c3:bt s=3->s.length<=5/\k<=14
 c2:bt s=2->s.length<=7/\k<=120
 c1:bt s=1->s.length<=12/\k<=1000
theorem kq {s:List (List Raw)} {l:List Raw} (hl:l∈s) (hc: ¬aO l):0<bt s:=by
 obtain⟨v,hv,h0⟩:=sU hc;exact zk hv (ei.2 ⟨l,hl,h0⟩)
theorem Sz.all {k:Nat} {s:List (List Raw)} (h:Sz k s) (hp:0<bt s):s.length<=12/\k<=1000:=by
 have h1:=h.n3;have h2:=h.c3;have h3:=h.c2;have h4:=h.c1;have:bt s=1\/bt s=2\/bt s=3:=by omega
 rcases this with h5 | h5 | h5
 .exact h4 h5
 .have:=h3 h5;omega
 have:=h2 h5;omega
theorem Sz.len {k:Nat} {s:List (List Raw)} (h:Sz k s) (hs:SysF k s):s.length<=12:=by
 cases s with
 | nil=>exact dU _
 | cons l t=>exact(h.all (kq (List.mem_cons_self ..) (hs.nc l (by simp)))).1
theorem Sz.lim {k:Nat} {s:List (List Raw)} (h:Sz k s) (hs:SysF k s): ∀ l∈s,LOk 1000 l:=fun l hl=>(hs.ok l hl).mono (h.all (kq hl (hs.nc l hl))).2
theorem cU (s:List (List Raw)) (v:Nat):(fH s v).length+(dE s v).length+(bV s v).length=s.length:=by
 unfold fH dE bV;rw[length_map,length_map]
 induction s with
 | nil=>rfl
 | cons l t ih=>
  rcases Classical.em (co l v=0) with h | h
  .rw[List.filter_cons_of_pos (by simp[h]),filter_cons_of_neg (by rw[h];decide),filter_cons_of_neg (by rw[h];decide)];simp only[length_cons];omega
  rw[filter_cons_of_neg (by simp[h])];rcases Classical.em (0<co l v) with h1 | h1
  .rw[List.filter_cons_of_pos (by simp[h1]),filter_cons_of_neg (by simp;grind)];simp only[length_cons];omega
  rw[filter_cons_of_neg (by simp[h1]),List.filter_cons_of_pos (by simp;grind)];simp only[length_cons];omega
theorem fO {α β:Type} (f:α->β->β): ∀ (H:List α) (L:List β),(H.flatMap fun u=>L.map fun l=>f u l).length=H.length*L.length
 | [],L=>by simp
 | u::H,L=>by
  rw[List.flatMap_cons,qe,length_map,fO f H L,length_cons,Nat.add_mul];omega
theorem mu (s:List (List Raw)) (v:Nat):(eo s v).length=(fH s v).length+(bV s v).length*(dE s v).length:=by
 unfold eo;rw[qe,fO (fun u l=>d9 u l)]
theorem AG {p q r:Nat} (h:r+p+q<=7):r+q*p<=12:=by
 have:p=0\/p=1\/p=2\/p=3\/p=4\/p=5\/p=6\/p=7:=by omega
 rcases this with h1 | h1 | h1 | h1 | h1 | h1 | h1 | h1<;>subst h1<;>omega
theorem UY {p q r:Nat} (h:r+p+q<=5):r+q*p<=7:=by
 have:p=0\/p=1\/p=2\/p=3\/p=4\/p=5:=by omega
 rcases this with h1 | h1 | h1 | h1 | h1 | h1<;>subst h1<;>omega
theorem P_ {p q r:Nat} (h:r+p+q<=12):r+q*p<=100:=by
 have h1:q*p<=12*p:=qn _ (by omega);have h2:p=0\/p=1\/p=2\/p=3\/p=4\/p=5\/p=6\/p=7\/p=8\/p=9\/p=10\/p=11\/p=12:=by omega
 rcases h2 with h1 | h1 | h1 | h1 | h1 | h1 | h1 | h1 | h1 | h1 | h1 | h1 | h1<;>subst h1<;>omega
theorem Hg {k:Nat} {s:List (List Raw)} {v:Nat} (hv:v<8) (hs:SysF k s):occ (eo s v) v=false:=by
 cases h:occ (eo s v) v with
 | false=>rfl
 | true=>
  obtain⟨o,ho,h0⟩:=ei.1 h;exact absurd (Hc hv (fun l hl=>(hs.ok l hl).len) o ho) h0
theorem oS {k:Nat} {s:List (List Raw)} {v:Nat} (hv:v<8) (hs:SysF k s) (h:occ s v=true):bt (eo s v)<bt s:=
 Md hv (fun _ hw h2=>Hd hw (fun l hl=>(hs.ok l hl).len) h2) h (Hg hv hs)
theorem Hh {k:Nat} {s s':List (List Raw)} {v:Nat} (hk:1<=k) (hs:SysF k s) (hi:IsSys (eo s v) s'):SysF (8*k+8) s':=
 SysF.of (gR (fun l hl=>(hs.ok l hl).len)) hi (fun o ho hc=>(mq (AF hs.ok hk o ho) (by omega)).mono (by omega))
theorem rE {s t:List (List Raw)} (h: ∀ w,w<8->occ s w=true->occ t w=true):bt s<=bt t:=by
 unfold bt;have key: ∀ l:List Nat,(∀ w∈l,w<8)->(l.filter (occ s)).length<=(l.filter (occ t)).length:=by
  intro l
  induction l with
  | nil=>intro _;simp
  | cons w l ih=>
   intro hl;have ih2:=ih (fun u hu=>hl u (mem_cons_of_mem _ hu));cases h1:occ s w with
   | false=>
    rw[filter_cons_of_neg (by rw[h1];simp)];have:(l.filter (occ t)).length<=((w::l).filter (occ t)).length:=by
     cases h2:occ t w with
     | false=>rw[filter_cons_of_neg (by rw[h2];simp)];exact qp _
     | true=>rw[List.filter_cons_of_pos h2,length_cons];omega
    omega
   | true=>
    rw[List.filter_cons_of_pos h1,List.filter_cons_of_pos (h w (hl w (by simp)) h1),length_cons,length_cons];omega
 exact key _ (fun w hw=>List.mem_range.1 hw)
theorem oT {cs s:List (List Raw)} (h9: ∀ l∈cs,l.length=9) (h:IsSys cs s):bt s=bt cs:=
 Nat.le_antisymm (rE (fun _ hw h1=>(vg h9 h hw).1 h1)) (rE (fun _ hw h1=>(vg h9 h hw).2 h1))
def xZ (f:List Raw):List (List Raw)->List (List Raw)
 | []=>[f]
 | a::s=>if bu a f<0 then a::xZ f s else if bu a f=0 then a::s else f::a::s
def IsCn (f:List Raw):Prop:= ∃ qs:List Rat,f=qs.map cn/\qs.length=9
theorem IsCn.len {f:List Raw} (h:IsCn f):f.length=9:=by obtain⟨qs,rfl,hl⟩:=h;simp[hl]
theorem oU {l:List Raw} (h:l.length=9):IsCn (cT l):=by
 have:=f4 h;exact⟨Ex l,rfl,by simpa [cT] using this⟩
theorem nW (qs:List Rat):(qs.map cn).map Raw.q=qs:=by
 rw[List.map_map]
 conv=>rhs;rw[<-List.map_id qs]
 exact List.map_congr_left (fun q _=>cK q)
theorem zm {f g:List Raw} (hf:IsCn f) (hg:IsCn g) (h:bu f g=0):f=g:=by
 have h2:=(y9 f g (by rw[hf.len,hg.len])).1 h;obtain⟨p,rfl,_⟩:=hf;obtain⟨q,rfl,_⟩:=hg;rw[nW,nW] at h2;rw[h2]
theorem I6 (f:List Raw):bu f f=0:=by have:=ed f f;omega
theorem tT {a b c:List Raw} (ha:IsCn a) (hb:IsCn b) (hc:IsCn c) (h1:bu a b<0) (h2:bu b c<0):bu a c<0:=by
 have h3:=mh a b c (by rw[ha.len,hb.len]) (by rw[hb.len,hc.len]) (by omega) (by omega);rcases Int.lt_or_eq_of_le h3 with h4 | h4
 .exact h4
 have h5:=zm ha hc h4;subst h5;rw[ed] at h2;omega
theorem vj {f:List Raw} (hf:IsCn f): ∀ {s:List (List Raw)},(∀ a∈s,IsCn a)-> ∀ g,g∈xZ f s↔g=f\/g∈s
 | [],_,g=>by simp[xZ]
 | a::s,h,g=>by
  unfold xZ;split
  .rw[uI,vj hf (fun b hb=>h b (mem_cons_of_mem _ hb)),uI];exact⟨fun h1=>by rcases h1 with h1 | h1 | h1<;>simp[h1],fun h1=>by rcases h1 with h1 | h1 | h1<;>simp[h1]⟩
  split
  .rename_i h1;have:=zm (h a (by simp)) hf h1;subst this;simp
  simp
theorem wg {f:List Raw} (hf:IsCn f): ∀ {s:List (List Raw)},(∀ a∈s,IsCn a)->s.Pairwise (fun a b=>bu a b<0)->(xZ f s).Pairwise (fun a b=>bu a b<0)
 | [],_,_=>by simp[xZ]
 | a::s,h,hs=>by
  have h2:=pairwise_cons.1 hs;have pK: ∀ b∈s,IsCn b:=fun b hb=>h b (mem_cons_of_mem _ hb)
  unfold xZ;split
  .rename_i h1;refine pairwise_cons.2 ⟨fun b hb=>?_,wg hf pK h2.2⟩;rcases(vj hf pK b).1 hb with h3 | h3
   .rw[h3];exact h1
   exact h2.1 b h3
  split
  .exact hs
  rename_i h1 h3;have Wv:bu f a<0:=by rw[ed];omega
  refine pairwise_cons.2 ⟨fun b hb=>?_,hs⟩;rcases List.mem_cons.1 hb with h4 | h4
  .rw[h4];exact Wv
  exact tT hf (h a (by simp)) (pK b h4) Wv (h2.1 b h4)
def sysL:List (List Raw)->List (List Raw)->List (List Raw)
 | [],s=>s
 | l::cs,s=>if b8 l then sysL cs s else sysL cs (xZ (cT l) s)
theorem wh: ∀ (cs s:List (List Raw)),(∀ l∈cs,l.length=9)->(∀ a∈s,IsCn a)->s.Pairwise (fun a b=>bu a b<0)->
 (sysL cs s).Pairwise (fun a b=>bu a b<0)/\ ∀ f,f∈sysL cs s↔f∈s\/ ∃ l∈cs,¬aO l/\f=cT l
 | [],s,_,_,hp=>⟨hp,fun f=>by simp[sysL]⟩
 | l::cs,s,h9,hs,hp=>by
  have hl:=h9 l (by simp);have h9': ∀ l∈cs,l.length=9:=fun k hk=>h9 k (mem_cons_of_mem _ hk)
  unfold sysL;by_cases hc:b8 l=true
  .rw[if_pos hc];obtain⟨h1,h2⟩:=wh cs s h9' hs hp;refine⟨h1,fun f=>?_⟩;rw[h2];have hk:=(cA hl).1 hc;constructor
   .rintro(h3 | ⟨k,hk,h3⟩)
    .exact .inl h3
    exact .inr ⟨k,mem_cons_of_mem _ hk,h3⟩
   rintro(h3 | ⟨k,iY,h3⟩)
   .exact .inl h3
   rcases List.mem_cons.1 iY with h4 | h4
   .subst h4;exact absurd hk h3.1
   exact .inr ⟨k,h4,h3⟩
  rw[if_neg hc];have l9:=fun h=>hc ((cA hl).2 h)
  have sx:=oU hl;obtain⟨h1,h2⟩:=wh cs (xZ (cT l) s) h9' (fun a ha=>by
   rcases(vj sx hs a).1 ha with h3 | h3
   .rw[h3];exact sx
   exact hs a h3) (wg sx hs hp)
  refine⟨h1,fun f=>?_⟩;rw[h2,vj sx hs];constructor
  .rintro((h3 | h3) | ⟨k,hk,h3⟩)
   .exact .inr ⟨l,by simp,l9,h3⟩
   .exact .inl h3
   exact .inr ⟨k,mem_cons_of_mem _ hk,h3⟩
  rintro(h3 | ⟨k,iY,h3⟩)
  .exact .inl (.inr h3)
  rcases List.mem_cons.1 iY with h4 | h4
  .subst h4;exact .inl (.inl h3.2)
  exact .inr ⟨k,h4,h3⟩
theorem iJ {cs:List (List Raw)} (h9: ∀ l∈cs,l.length=9):IsSys cs (sysL cs []):=by
 obtain⟨h1,h2⟩:=wh cs [] h9 (by simp) List.Pairwise.nil;exact⟨h1,fun f=>by rw[h2];simp⟩
theorem IsSys.eq {cs s:List (List Raw)} (h9: ∀ l∈cs,l.length=9) (h:IsSys cs s):s=sysL cs []:=h.unique (iJ h9)
def dk (cs:List (List Raw)):Bool:=cs.any (fun l=>b8 l&&decide (co l 8<0))
theorem lF {cs:List (List Raw)} (h9: ∀ l∈cs,l.length=9):dk cs=true↔CE cs:=by
 unfold dk CE;rw[any_eq_true];constructor
 .rintro⟨l,hl,h⟩;rw[hG,cA (h9 l hl),decide_eq_true_iff] at h;exact⟨l,hl,h⟩
 rintro⟨l,hl,h⟩;refine⟨l,hl,?_⟩;rw[hG,cA (h9 l hl),decide_eq_true_iff];exact h
noncomputable def dX (cs:List (List Raw)):Bool:=@decide (E0 cs) (Classical.propDecidable _)
theorem iB {cs:List (List Raw)}:dX cs=true↔E0 cs:=by unfold dX;rw[@decide_eq_true_iff]
theorem tU {cs:List (List Raw)}:dX cs=false↔ ¬E0 cs:=by
 rw[<-iB];cases dX cs<;>simp
noncomputable def cN (cs:List (List Raw)):Bool:=!dk cs&&dX (sysL cs [])
theorem E6 {cs:List (List Raw)} (h9: ∀ l∈cs,l.length=9):cN cs=true↔ ∃ x,In cs x:=by
 unfold cN;rw[hG,iB,Bool.not_eq_true'];constructor
 .rintro⟨h1,x,hx⟩;exact⟨x,(E4 h9 (iJ h9) (fun hv=>by rw[(lF h9).2 hv] at h1;cases h1) x).2 hx⟩
 rintro⟨x,hx⟩;have hnv: ¬CE cs:=fun hv=>P6 hv x hx
 refine⟨?_,x,(E4 h9 (iJ h9) hnv x).1 hx⟩;cases h:dk cs with
 | false=>rfl
 | true=>exact absurd ((lF h9).1 h) hnv
theorem Mi:E0 []:=⟨fun _=>0,by simp⟩
def rF (s:List (List Raw)) (v:Nat):Bool:=(bV s v).any (fun u=>(dE s v).any (fun l=>b8 (d9 u l)&&decide (co (d9 u l) 8<=0)))
theorem jP {s:List (List Raw)} {v:Nat} (h9: ∀ l∈s,l.length=9):rF s v=true↔I3 s v:=by
 unfold rF I3;rw[any_eq_true];have hl: ∀ u∈bV s v,∀ l∈dE s v,(d9 u l).length=9:=fun u hu l hl=>by
  obtain⟨a,ha,_,rfl⟩:=fc.1 hu;obtain⟨b,hb,_,rfl⟩:=gh.1 hl;exact rB (er (h9 a ha)) (er (h9 b hb))
 constructor
 .rintro⟨u,hu,h⟩;rw[any_eq_true] at h;obtain⟨l,nI,h⟩:=h;rw[hG,cA (hl u hu l nI),decide_eq_true_iff] at h;exact⟨u,hu,l,nI,h⟩
 rintro⟨u,hu,l,nI,h⟩;refine⟨u,hu,?_⟩;rw[any_eq_true];refine⟨l,nI,?_⟩;rw[hG,cA (hl u hu l nI),decide_eq_true_iff];exact h
def iq (s:List (List Raw)) (v:Nat):List (List Raw):=sysL (eo s v) []
theorem nX {k:Nat} {s:List (List Raw)} (v:Nat) (hs:SysF k s):IsSys (eo s v) (iq s v):=iJ (gR (fun l hl=>(hs.ok l hl).len))
theorem zn {k:Nat} {s:List (List Raw)} {v:Nat} (hv:v<8) (hs:SysF k s) (hb: ¬I3 s v):E0 (iq s v)↔E0 s:=by
 constructor
 .rintro⟨x,hx⟩;obtain⟨t,ht⟩:=(CH hv hs hb (nX v hs) x).1 hx;exact⟨_,ht⟩
 rintro⟨x,hx⟩;refine⟨x,(CH hv hs hb (nX v hs) x).2 ⟨x v,?_⟩⟩;have:upd x v (x v)=x:=by funext i;unfold upd;split<;>simp_all
 rw[this];exact hx
theorem CI {k:Nat} {s:List (List Raw)} {v:Nat} (hv:v<8) (hs:SysF k s) (hb:I3 s v): ¬E0 s:=fun⟨x,hx⟩=>P8 hv hs hb x hx
end Go.Pl
