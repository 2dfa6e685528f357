/- The road from a contract to a law's statement:a list of numbers that came in. -/
import Derived.Test.YtjjbkjgifdhlcaaGreatRows
import Derived.Test.YtjjbkjgifdhlcaaGreatT13
import Derived.ProofKit
import Derived.Below
import Derived.Test.YtjjbkjgifdhlcaaGreatT12
import Derived.Test.YtjjbkjgifdhlcaaGreatT1
open Nat (reduceAdd reduceLT reduceLeDiff reduceMul)
open List (append_nil drop_append_of_le_length drop_eq_getElem_cons filter_cons_of_neg filter_sublist foldl_cons getElem?_set length_cons length_drop length_map length_take map_cons mem_cons_of_mem mem_filter mem_map mem_take_iff_getElem nil_append nodup_append pairwise_cons replicate set_cons_zero take_succ_cons)
namespace Go.Proofs.YtjjbkjgifdhlcaaGreat
open Go.ChangeShapes Go.WideShapes Go.ChangeAt Go.RowKit
theorem Tryz.own:ownKnob Tryz.prog.godebug=none:=by kernel_rfl
theorem Tryz.laidOut:laidOutB Tryz.prog=true:=by kernel_rfl
theorem Tryz.cells3:Tryz.prog.cellsOf 3=1:=by kernel_rfl
theorem block_below {w:World} {a:Addr} {v:Value} (h:w.cell? a=some v):a.block<w.heap.size:=by
 unfold World.cell? at h;split at h
 ·rename_i hb;exact(Array.getElem?_eq_some_iff.1 hb).1
 ·cases h
set_option maxRecDepth 100000 in
theorem ints_read {W:World} {base:Nat} {v0:Value} {H:Type} {enc:TypeId×Value->H} {fuel:Nat} {held:Bool} {x:DataW H×List MemPlace} (hok:Value.okWide Tryz.prog W .any base 22 v0)
 (hf:DataW.trod enc Tryz.prog W 0 (fun _=>true) held fuel 22 v0.cells.toList=some x):
 ∃ l:List Int,W64 l/\l.length<9223372036854775808/\Go.AM.FRd W (fun _=>False) v0 (.sl (ints l)):=by
 obtain⟨a0,len,cap,rfl⟩:=okWide_slice Tryz.underlying22 hok
 rcases open_ints Tryz.underlying22 Tryz.underlying3 Tryz.cells3 hf with⟨hcs,hx⟩ | ⟨a,len',cap',zs,hcs,_,hl,hm,hz,hx,hcell,hwz⟩
 ·simp[Value.cells] at hcs
  obtain⟨rfl,rfl,rfl⟩:=hcs
  exact⟨[],fun x h=>by simp at h,by simp,.nil⟩
 ·simp[Value.cells] at hcs
  obtain⟨rfl,rfl,rfl⟩:=hcs
  simp only[if_true] at hz
  obtain⟨b,off,spot⟩:=a
  have hspot:spot=none:=by
   simp only[Value.okWide,Tryz.underlying22,Cell.okWide,Cell.ok] at hok;exact hok.2.2.2.1
  subst hspot
  unfold maxLen at hm
  refine⟨zs.take len,fun x h=>?_,?_,?_⟩
  ·have h1:=hwz x (qfb h)
   simp[Lit.wf,IntKind.min,IntKind.max,IntKind.signed,IntKind.bits] at h1
   omega
  ·rw[length_take];omega
  ·refine .sl ⟨b,off,none⟩ len cap 1 (ints (zs.take len)) (fun i _=> .int .i64 (zs.getD i 0)) ?_ hl ?_ rfl (fun _ h=>h) (fun h=>?_) (fun i j x y hx hy=>?_) (fun i j x y hx hy=>?_)
   ·rw[ints_length,length_take];omega
   ·intro x hx
    simp only[ints,mem_map] at hx
    obtain⟨n,_,rfl⟩:=hx
    rfl
   ·exact block_below (hcell 0 (by omega))
   ·have hi:i<(ints (zs.take len)).length:=(List.getElem?_eq_some_iff.1 hx).1
    rw[ints_length,length_take] at hi
    have hxe:x=[Go.AM.FV.lit (.int .i64 ((zs.take len).getD i 0))]:=by
     have:=hx;simp only[ints,List.getElem?_map] at this;rw[qb (by rw[length_take];omega)] at this;simp at this;rw[<-this];simp[show i<len by omega,show i<zs.length by omega]
    subst hxe
    have hj:j=0:=by
     have:=(List.getElem?_eq_some_iff.1 hy).1;simp at this;exact this
    subst hj
    have h7:=hcell i (by omega)
    have h8:(⟨b,off,none⟩:Addr).add i=⟨b,off+(i*1+0),none⟩:=by
     unfold Addr.add;split
     ·rename_i h9;subst h9;simp
     ·simp
    rw[h8] at h7
    exact h7
   ·have hi:i<(ints (zs.take len)).length:=(List.getElem?_eq_some_iff.1 hx).1
    rw[ints_length,length_take] at hi
    have hxe:x=[Go.AM.FV.lit (.int .i64 (zs.getD i 0))]:=by
     have:=hx;simp only[ints,List.getElem?_map] at this;rw[qb (by rw[length_take];omega)] at this;simp at this;rw[<-this];simp[show i<zs.length by omega]
    subst hxe
    have hj:j=0:=by
     have:=(List.getElem?_eq_some_iff.1 hy).1;simp at this;exact this
    subst hj
    simp at hy
    subst hy
    exact .lit _ rfl
theorem law_one {k:FuncId} {l:List Int} {W:World} {v0:Value} (hr:Go.AM.FRd W (fun _=>False) v0 (.sl (ints l))) (hd:Go.AM.Den Tryz.prog k [] [.fv (.sl (ints l))] [] (.bool true)):
 Calls Tryz.prog k #[v0] W fun e W'=>e= .returned (.bool true)/\Below W.heap.size W W':=by
 refine(hd.2 ⟨W,fun _=>False,fun _=>False,[],fun _ h=>h.elim⟩ (fun _=>False) [] #[v0] ⟨rfl,fun id p o h _=>by simp at h,fun i j p q o r g h _=>by simp at h,fun id p o g h _=>by simp at h,fun b h=>h.elim,fun b h=>h.elim,qp _,Go.AM.Places.Le.refl _⟩ (fun b h=>h.elim) ⟨rfl,fun i v x hv hx=>?_⟩).mono fun e W' ⟨v,X',ρ',he,hk,hh,hp,_,_⟩=>?_
 ·cases i with
  | zero=>simp at hv hx;subst hv;subst hx;exact .fv _ _ hr
  | succ i=>simp at hv
 ·subst he
  have hv:v= .bool true:=by
   cases hp with
   | fv _ _ h=>cases h with
    | lit=>rfl
  subst hv
  exact⟨rfl,hk.os,hk.tape,hk.output,hk.size,fun k h=>hk.block k h (fun h=>h)⟩
theorem law_two {k:FuncId} {l:List Int} {u:Int} {W:World} {v0:Value} (hr:Go.AM.FRd W (fun _=>False) v0 (.sl (ints l))) (hd:Go.AM.Den Tryz.prog k [] [.fv (.sl (ints l)),.int .i64 u] [] (.bool true)):
 Calls Tryz.prog k #[v0,.int .i64 u] W fun e W'=>e= .returned (.bool true)/\Below W.heap.size W W':=by
 refine(hd.2 ⟨W,fun _=>False,fun _=>False,[],fun _ h=>h.elim⟩ (fun _=>False) [] #[v0,.int .i64 u] ⟨rfl,fun id p o h _=>by simp at h,fun i j p q o r g h _=>by simp at h,fun id p o g h _=>by simp at h,fun b h=>h.elim,fun b h=>h.elim,qp _,Go.AM.Places.Le.refl _⟩ (fun b h=>h.elim) ⟨rfl,fun i v x hv hx=>?_⟩).mono fun e W' ⟨v,X',ρ',he,hk,hh,hp,_,_⟩=>?_
 ·match i with
  | 0=>simp at hv hx;subst hv;subst hx;exact .fv _ _ hr
  | 1=>simp at hv hx;subst hv;subst hx;exact .fv _ _ (.lit _ rfl)
  | i+2=>simp at hv
 ·subst he
  have hv:v= .bool true:=by
   cases hp with
   | fv _ _ h=>cases h with
    | lit=>rfl
  subst hv
  exact⟨rfl,hk.os,hk.tape,hk.output,hk.size,fun k h=>hk.block k h (fun h=>h)⟩
end Go.Proofs.YtjjbkjgifdhlcaaGreat
namespace Go.Pl
open Go.AM
def tgt (T:List Raw) (i:Nat) (rest:List Raw):List Raw:=T.take i++rest.drop i
theorem tgt_length {T rest:List Raw} (i:Nat) (h:T.length=rest.length):(tgt T i rest).length=rest.length:=by
 unfold tgt;rw[qe,length_take,length_drop];omega
theorem tgt_zero (T rest:List Raw):tgt T 0 rest=rest:=by simp[tgt]
theorem tgt_all {T rest:List Raw} {n:Nat} (h:T.length=n) (h2:rest.length=n):tgt T n rest=T:=by
 subst h;unfold tgt;rw[List.take_length,List.drop_of_length_le (by omega),append_nil]
theorem tgt_getD {T rest:List Raw} {i j:Nat} (h:T.length=rest.length) (hj:j<rest.length) (hi:i<=j):(tgt T i rest).getD j rz=rest.getD j rz:=by
 unfold tgt;rw[qa,qh (by rw[length_take];omega),List.getElem?_drop,qa];congr 2;rw[length_take];omega
theorem tgt_set {T rest:List Raw} {i:Nat} (h:T.length=rest.length) (hi:i<rest.length):(tgt T i rest).set i (T.getD i rz)=tgt T (i+1) rest:=by
 unfold tgt;rw[List.set_append_right _ _ (by rw[length_take];omega)];have e:i - (T.take i).length=0:=by rw[length_take];omega
 have hT:i<T.length:=by omega
 have h3:T.take (i+1)=T.take i++[T[i]]:=List.take_succ_eq_append_getElem hT;rw[e,drop_eq_getElem_cons hi,set_cons_zero,h3];have h4:T.getD i rz=T[i]:=by rw[qa,qb hT];rfl
 rw[h4,qlb];rfl
def addL (a b:List Raw):List Rat:=List.zipWith (fun r s=>r.q+s.q) a b
theorem addL_length {a b:List Raw} {n:Nat} (ha:a.length=n) (hb:b.length=n):(addL a b).length=n:=by simp[addL,ha,hb]
theorem addL_getD {a b:List Raw} {i:Nat} (ha:i<a.length) (hb:i<b.length):((addL a b).map cn).getD i rz=cn ((a.getD i rz).q+(b.getD i rz).q):=by
 simp[addL,List.getElem?_zipWith,ha,hb]
theorem addL_bd {a b:List Raw} {j k:Nat} (ha: ∀ r∈a,Bd j r.q) (hb: ∀ r∈b,Bd k r.q) (hk:1<=j+k): ∀ x∈addL a b,Bd (j+k+1) x:=by
 intro x hx;unfold addL at hx;obtain⟨i,hi,rfl⟩:=List.getElem_of_mem hx;rw[List.getElem_zipWith];exact(ha _ (qqb _)).add (hb _ (qqb _)) hk
theorem LOk.of_map {k:Nat} {qs:List Rat} (hl:qs.length=9) (h: ∀ q∈qs,Bd k q):LOk k (qs.map cn):=
 ⟨by simp[hl],fun r hr=>by
  simp only[mem_map] at hr;obtain⟨q,hq,rfl⟩:=hr;exact cn_ok (h q hq)⟩
theorem LOk.bd {k:Nat} {rs:List Raw} (h:LOk k rs) (hk:1<=k): ∀ r∈rs,Bd k r.q:=fun r hr=>(h.ok r hr).bd hk
def cmpR:List Raw->List Raw->Int
 | r::a,s::b=>if sgq (r.q - s.q)=0 then cmpR a b else sgq (r.q - s.q)
 | _,_=>0
theorem drop_getD {a:List Raw} {i:Nat} (h:i<a.length):a.drop i=a.getD i rz::a.drop (i+1):=by
 rw[drop_eq_getElem_cons h,qa,qb h];rfl
theorem cmpR_drop {a b:List Raw} {i:Nat} (ha:i<a.length) (hb:i<b.length):cmpR (a.drop i) (b.drop i)=
 if sgq ((a.getD i rz).q - (b.getD i rz).q)=0 then cmpR (a.drop (i+1)) (b.drop (i+1)) else sgq ((a.getD i rz).q - (b.getD i rz).q):=by
 rw[drop_getD ha,drop_getD hb];rfl
theorem cmpR_last {a b:List Raw} {i:Nat} (ha:i+1=a.length) (hb:i+1=b.length):cmpR (a.drop i) (b.drop i)=sgq ((a.getD i rz).q - (b.getD i rz).q):=by
 rw[cmpR_drop (by omega) (by omega),List.drop_of_length_le (i:=i+1) (by omega)];split
 ·rename_i h;rw[h];rfl
 ·rfl
theorem num_neg_iff {q:Rat}:q.num<0↔q<0:=by
 have h:=Rat.num_nonneg (q:=q);have h2:=@Rat.not_le 0 q;constructor
 ·intro h3;exact h2.1 (fun h4=>by have:=h.2 h4;omega)
 ·intro h3;have h4:=h2.2 h3;have h5: ¬(0<=q.num):=fun h6=>h4 (h.1 h6)
  omega
theorem sgq_lt {x y:Rat}:sgq (x - y)<0↔x<y:=by
 unfold sgq;rw[Int.sign_neg_iff,num_neg_iff];constructor<;>intro h<;>grind
theorem sgq_gt {x y:Rat}:0<sgq (x - y)↔y<x:=by
 have h1:sgq (x - y)<0↔x<y:=sgq_lt;have h2:sgq (x - y)=0↔x=y:=by
  rw[sgq_eq_zero];constructor<;>intro h<;>grind
 constructor
 ·intro h;have h3: ¬x<y:=fun h4=>by have:=h1.2 h4;omega
  have h4:x≠y:=fun h5=>by have:=h2.2 h5;omega
  grind
 ·intro h;have h3: ¬sgq (x - y)<0:=fun h4=>by have:=h1.1 h4;grind
  have h4:sgq (x - y)≠0:=fun h5=>by have:=h2.1 h5;grind
  omega
theorem sgq_eq {x y:Rat}:sgq (x - y)=0↔x=y:=by
 rw[sgq_eq_zero];constructor<;>intro h<;>grind
theorem sgq_range (q:Rat):sgq q= -1\/sgq q=0\/sgq q=1:=by
 unfold sgq;rcases Int.lt_trichotomy q.num 0 with h | h | h
 ·exact Or.inl (Int.sign_eq_neg_one_of_neg h)
 ·exact Or.inr (Or.inl (by rw[h];rfl))
 ·exact Or.inr (Or.inr (Int.sign_eq_one_of_pos h))
theorem sgq_swap (x y:Rat):sgq (x - y)= -sgq (y - x):=by
 have h1:=sgq_range (x - y);have h2:=sgq_range (y - x);have h3:=sgq_lt (x:=x) (y:=y);have h4:=sgq_gt (x:=y) (y:=x);have h5:=sgq_eq (x:=x) (y:=y);have h6:=sgq_eq (x:=y) (y:=x);by_cases h:x=y
 ·rw[h5.2 h,h6.2 h.symm];rfl
 ·have h7:=fun h9=>h (h5.1 h9)
  have h8:=fun h9=>h (h6.1 h9).symm
  by_cases hl:x<y
  ·have:=h3.2 hl;have:=h4.2 hl;omega
  ·have g1: ¬sgq (x - y)<0:=fun h9=>hl (h3.1 h9)
   have g2: ¬0<sgq (y - x):=fun h9=>hl (h4.1 h9)
   have g3: ¬sgq (x - y)=0:=h7;have g4: ¬sgq (y - x)=0:=h8;omega
theorem cmpR_range: ∀ a b:List Raw,cmpR a b= -1\/cmpR a b=0\/cmpR a b=1
 | r::a,s::b=>by
  unfold cmpR;split
  ·exact cmpR_range a b
  ·exact sgq_range _
 | [],_=>Or.inr (Or.inl (by simp[cmpR]))
 | _::_,[]=>Or.inr (Or.inl (by simp[cmpR]))
theorem cmpR_swap: ∀ a b:List Raw,cmpR a b= -cmpR b a
 | r::a,s::b=>by
  unfold cmpR;rw[sgq_swap r.q s.q,cmpR_swap a b];by_cases h:sgq (s.q - r.q)=0
  ·rw[if_pos h,if_pos (by omega)]
  ·rw[if_neg h,if_neg (by omega)]
 | [],b=>by cases b<;>simp[cmpR]
 | _::_,[]=>by simp[cmpR]
theorem cmpR_trans: ∀ a b c:List Raw,a.length=b.length->b.length=c.length->cmpR a b<=0->cmpR b c<=0->cmpR a c<=0
 | r::a,s::b,t::c,h1,h2,h3,h4=>by
  have h1':a.length=b.length:=by simpa using h1
  have h2':b.length=c.length:=by simpa using h2
  unfold cmpR at h3 h4 ⊢;have e1:=sgq_eq (x:=r.q) (y:=s.q);have e2:=sgq_eq (x:=s.q) (y:=t.q);have e3:=sgq_eq (x:=r.q) (y:=t.q);have l1:=sgq_lt (x:=r.q) (y:=s.q);have l2:=sgq_lt (x:=s.q) (y:=t.q);have l3:=sgq_lt (x:=r.q) (y:=t.q);by_cases a1:sgq (r.q - s.q)=0
  ·rw[if_pos a1] at h3;have q1:=e1.1 a1;by_cases a2:sgq (s.q - t.q)=0
   ·rw[if_pos a2] at h4;rw[if_pos (e3.2 (q1.trans (e2.1 a2)))];exact cmpR_trans a b c h1' h2' h3 h4
   ·rw[if_neg a2] at h4;rw[if_neg (fun h=>a2 (by rw[<-q1];exact h)),q1];exact h4
  ·rw[if_neg a1] at h3;have q1:=l1.1 (by omega);by_cases a2:sgq (s.q - t.q)=0
   ·have q2:=e2.1 a2;rw[<-q2,if_neg a1];exact h3
   ·rw[if_neg a2] at h4;have q2:=l2.1 (by omega);have q3:=l3.2 (by grind);rw[if_neg (by omega)];omega
 | [],_,c,_,_,_,_=>by cases c<;>simp[cmpR]
 | _::_,_,[],_,_,_,_=>by simp[cmpR]
 | _::_,[],_::_,h,_,_,_=>by simp at h
theorem cmpR_zero: ∀ a c:List Raw,a.length=c.length->(cmpR a c=0↔a.map Raw.q=c.map Raw.q)
 | r::a,t::c,h=>by
  have h':a.length=c.length:=by simpa using h
  unfold cmpR;have e3:=sgq_eq (x:=r.q) (y:=t.q);have ih:=cmpR_zero a c h';by_cases a1:sgq (r.q - t.q)=0
  ·rw[if_pos a1,ih];simp only[map_cons,List.cons.injEq];exact⟨fun h=>⟨e3.1 a1,h⟩,fun h=>h.2⟩
  ·rw[if_neg a1];simp only[map_cons,List.cons.injEq];exact⟨fun h=>absurd h a1,fun h=>absurd (e3.2 h.1) a1⟩
 | [],[],_=>by simp[cmpR]
 | [],_::_,h=>by simp at h
 | _::_,[],h=>by simp at h
def constB (a:List Raw):Bool:=(a.take 8).all (fun r=>decide (r.q=0))
end Go.Pl
namespace Go.Pl
abbrev Mn:=List Int
abbrev Tm:=List Int×Rat
def sumC (m:Mn):List Tm->Rat
 | []=>0
 | t::ts=>(if t.1=m then t.2 else 0)+sumC m ts
theorem sumC_append (m:Mn): ∀ a b:List Tm,sumC m (a++b)=sumC m a+sumC m b
 | [],b=>by simp only[nil_append,sumC];grind
 | t::a,b=>by simp only[List.cons_append,sumC,sumC_append m a b];grind
theorem sumC_perm {m:Mn} {a b:List Tm} (h:a.Perm b):sumC m a=sumC m b:=by
 induction h with
 | nil=>rfl
 | cons x _ ih=>simp only[sumC,ih]
 | swap x y l=>simp only[sumC];grind
 | trans _ _ h1 h2=>exact h1.trans h2
theorem sumC_none {m:Mn}: ∀ {a:List Tm},(∀ t∈a,t.1≠m)->sumC m a=0
 | [],_=>rfl
 | t::a,h=>by
  simp only[sumC,if_neg (h t (by simp)),sumC_none (fun t ht=>h t (mem_cons_of_mem _ ht))];grind
theorem sumC_filter {m:Mn}: ∀ {a:List Tm},sumC m (a.filter (fun t=>decide (t.2≠0)))=sumC m a
 | []=>rfl
 | t::a=>by
  by_cases h:t.2=0
  ·rw[filter_cons_of_neg (by simp[h]),sumC,sumC_filter,h];split<;>grind
  ·rw[List.filter_cons_of_pos (by simp[h]),sumC,sumC,sumC_filter]
def gtM:Mn->Mn->Bool
 | x::a,y::b=>if x=y then gtM a b else decide (x>y)
 | _,_=>false
theorem gtM_irr: ∀ a:Mn,gtM a a=false
 | []=>rfl
 | x::a=>by simp[gtM,gtM_irr a]
theorem gtM_trans: ∀ {a b c:Mn},gtM a b=true->gtM b c=true->gtM a c=true
 | x::a,y::b,z::c,h1,h2=>by
  unfold gtM at h1 h2 ⊢;by_cases e1:x=y
  ·rw[if_pos e1] at h1;by_cases e2:y=z
   ·rw[if_pos e2] at h2;rw[if_pos (e1.trans e2)];exact gtM_trans h1 h2
   ·rw[if_neg e2] at h2;rw[if_neg (fun h=>e2 (e1.symm.trans h)),e1];exact h2
  ·rw[if_neg e1] at h1;by_cases e2:y=z
   ·rw[<-e2,if_neg e1];exact h1
   ·rw[if_neg e2] at h2;have h3:=of_decide_eq_true h1;have h4:=of_decide_eq_true h2;rw[if_neg (by omega)];exact qbb (by omega)
 | [],_,_,h1,_=>by simp[gtM] at h1
 | _::_,[],_,h1,_=>by simp[gtM] at h1
 | _::_,_::_,[],_,h2=>by simp[gtM] at h2
theorem gtM_asymm {a b:Mn} (h:gtM a b=true):gtM b a=false:=by
 cases h2:gtM b a with
 | false=>rfl
 | true=>
  have:=gtM_trans h h2;rw[gtM_irr] at this;cases this
theorem gtM_ne {a b:Mn} (h:gtM a b=true):a≠b:=fun he=>by
 rw[he,gtM_irr] at h;cases h
theorem gtM_total: ∀ {a b:Mn},a.length=b.length->a≠b->gtM a b=true\/gtM b a=true
 | [],[],_,h=>absurd rfl h
 | x::a,y::b,hl,h=>by
  unfold gtM;by_cases e:x=y
  ·subst e;rw[if_pos rfl,if_pos rfl];exact gtM_total (by simpa using hl) (fun he=>h (by rw[he]))
  ·rw[if_neg e,if_neg (fun h=>e h.symm)];rcases Int.lt_trichotomy x y with h1 | h1 | h1
   ·exact .inr (qbb h1)
   ·exact absurd h1 e
   ·exact .inl (qbb h1)
 | [],_::_,h,_=>by simp at h
 | _::_,[],h,_=>by simp at h
theorem gtM_not {a b:Mn} (hl:a.length=b.length) (h:gtM a b=false):a=b\/gtM b a=true:=by
 by_cases e:a=b
 ·exact .inl e
 ·rcases gtM_total hl e with h1 | h1
  ·rw[h] at h1;cases h1
  ·exact .inr h1
structure Canon (p:List Tm):Prop where
 sorted:p.Pairwise (fun a b=>gtM a.1 b.1=true)
 nz: ∀ t∈p,t.2≠0
 len: ∀ t∈p,t.1.length=8
theorem Canon.nil:Canon []:=⟨.nil,by simp,by simp⟩
theorem Canon.tail {t:Tm} {p:List Tm} (h:Canon (t::p)):Canon p:=
 ⟨(pairwise_cons.1 h.sorted).2,fun u hu=>h.nz u (mem_cons_of_mem _ hu),fun u hu=>h.len u (mem_cons_of_mem _ hu)⟩
theorem Canon.head {t:Tm} {p:List Tm} (h:Canon (t::p)): ∀ u∈p,gtM t.1 u.1=true:=(pairwise_cons.1 h.sorted).1
theorem Canon.sum_head {t:Tm} {p:List Tm} (h:Canon (t::p)):sumC t.1 (t::p)=t.2:=by
 rw[sumC,if_pos rfl,sumC_none (fun u hu he=>gtM_ne (h.head u hu) he.symm)];grind
theorem Canon.sum_up {m:Mn} {t:Tm} {p:List Tm} (h:Canon (t::p)) (hm:gtM m t.1=true):sumC m (t::p)=0:=
 sumC_none (fun u hu he=>by
  rcases List.mem_cons.1 hu with h1 | h1
  ·exact gtM_ne hm (by rw[<-he,h1])
  ·exact gtM_ne (gtM_trans hm (h.head u h1)) he.symm)
theorem canon_uniq: ∀ {p q:List Tm},Canon p->Canon q->(∀ m,sumC m p=sumC m q)->p=q
 | [],[],_,_,_=>rfl
 | [],y::q,_,hq,h=>absurd ((hq.sum_head.symm.trans (h y.1).symm)) (hq.nz y (by simp))
 | x::p,[],hp,_,h=>absurd ((hp.sum_head.symm.trans (h x.1))) (hp.nz x (by simp))
 | x::p,y::q,hp,hq,h=>by
  have h1:x.1=y.1:=by
   by_cases e:x.1=y.1
   ·exact e
   ·rcases gtM_total ((hp.len x (by simp)).trans (hq.len y (by simp)).symm) e with h2 | h2
    ·have:=h x.1;rw[hp.sum_head,hq.sum_up h2] at this;exact absurd this (hp.nz x (by simp))
    ·have:=h y.1;rw[hq.sum_head,hp.sum_up h2] at this;exact absurd this.symm (hq.nz y (by simp))
  have h2:x.2=y.2:=by
   have:=h x.1;rw[hp.sum_head,h1,hq.sum_head] at this;exact this
  have hxy:x=y:=Prod.ext h1 h2;subst hxy;rw[canon_uniq hp.tail hq.tail (fun m=>by
   have:=h m;simp only[sumC] at this;grind)]
def insT:List Tm->Tm->List Tm
 | [],t=>if t.2=0 then [] else [t]
 | x::p,t=>if gtM x.1 t.1=true then x::insT p t else if x.1=t.1 then(if t.2+x.2=0 then p else(t.1,t.2+x.2)::p) else if t.2=0 then x::p else t::x::p
theorem insT_sum (m:Mn): ∀ (p:List Tm) (t:Tm),sumC m (insT p t)=sumC m p+(if t.1=m then t.2 else 0)
 | [],t=>by
  unfold insT;split
  ·rename_i h;simp only[sumC,h];split<;>grind
  ·simp only[sumC];grind
 | x::p,t=>by
  unfold insT;split
  ·simp only[sumC,insT_sum m p t];grind
  ·split
   ·rename_i h;split
    ·simp only[sumC,h];split<;>grind
    ·simp only[sumC,h];split<;>grind
   ·split
    ·rename_i h;simp only[sumC,h];grind
    ·simp only[sumC];grind
theorem insT_mem {p:List Tm} {t u:Tm} (h:u∈insT p t):u∈p\/u.1=t.1:=by
 induction p with
 | nil=>
  unfold insT at h;split at h
  ·simp at h
  ·simp at h;exact .inr (by rw[h])
 | cons x p ih=>
  unfold insT at h;split at h
  ·rcases List.mem_cons.1 h with h | h
   ·exact .inl (by rw[h];simp)
   ·rcases ih h with h | h
    ·exact .inl (mem_cons_of_mem _ h)
    ·exact .inr h
  ·split at h
   ·split at h
    ·exact .inl (mem_cons_of_mem _ h)
    ·rcases List.mem_cons.1 h with h | h
     ·exact .inr (by rw[h])
     ·exact .inl (mem_cons_of_mem _ h)
   ·split at h
    ·exact .inl h
    ·rcases List.mem_cons.1 h with h | h
     ·exact .inr (by rw[h])
     ·exact .inl h
theorem insT_canon: ∀ {p:List Tm} {t:Tm},Canon p->t.1.length=8->Canon (insT p t)
 | [],t,_,ht=>by
  unfold insT;split
  ·exact Canon.nil
  ·rename_i h;exact⟨List.pairwise_singleton _ _,by simpa using h,by simpa using ht⟩
 | x::p,t,hp,ht=>by
  have ih:=insT_canon hp.tail ht;have hd:=hp.head;unfold insT;split
  ·rename_i h;refine⟨pairwise_cons.2 ⟨fun u hu=>?_,ih.sorted⟩,?_,?_⟩
   ·rcases insT_mem hu with h1 | h1
    ·exact hd u h1
    ·rw[h1];exact h
   ·intro u hu;rcases List.mem_cons.1 hu with h1 | h1
    ·exact hp.nz u (by rw[h1];simp)
    ·exact ih.nz u h1
   ·intro u hu;rcases List.mem_cons.1 hu with h1 | h1
    ·exact hp.len u (by rw[h1];simp)
    ·exact ih.len u h1
  ·rename_i hn;split
   ·rename_i he;split
    ·exact hp.tail
    ·rename_i hz;refine⟨pairwise_cons.2 ⟨fun u hu=>?_,hp.tail.sorted⟩,?_,?_⟩
     ·rw[<-he];exact hd u hu
     ·intro u hu;rcases List.mem_cons.1 hu with h1 | h1
      ·rw[h1];exact hz
      ·exact hp.tail.nz u h1
     ·intro u hu;rcases List.mem_cons.1 hu with h1 | h1
      ·rw[h1];exact ht
      ·exact hp.tail.len u h1
   ·rename_i he;split
    ·exact hp
    ·rename_i hz;have hg:gtM t.1 x.1=true:=by
      rcases gtM_not ((hp.len x (by simp)).trans ht.symm) (by simpa using hn) with h1 | h1
      ·exact absurd h1 he
      ·exact h1
     refine⟨pairwise_cons.2 ⟨fun u hu=>?_,hp.sorted⟩,?_,?_⟩
     ·rcases List.mem_cons.1 hu with h1 | h1
      ·rw[h1];exact hg
      ·exact gtM_trans hg (hd u h1)
     ·intro u hu;rcases List.mem_cons.1 hu with h1 | h1
      ·rw[h1];exact hz
      ·exact hp.nz u h1
     ·intro u hu;rcases List.mem_cons.1 hu with h1 | h1
      ·rw[h1];exact ht
      ·exact hp.len u h1
def nf (ts:List Tm):List Tm:=ts.foldl insT []
def addT (p ts:List Tm):List Tm:=ts.foldl insT p
theorem addT_sum (m:Mn): ∀ (ts p:List Tm),sumC m (addT p ts)=sumC m p+sumC m ts
 | [],p=>by simp only[addT,List.foldl_nil,sumC];grind
 | t::ts,p=>by
  have:=addT_sum m ts (insT p t);unfold addT at this ⊢;rw[foldl_cons,this,insT_sum];simp only[sumC];grind
def Len8 (ts:List Tm):Prop:= ∀ t∈ts,t.1.length=8
theorem addT_canon: ∀ {ts p:List Tm},Canon p->Len8 ts->Canon (addT p ts)
 | [],p,h,_=>h
 | t::ts,p,h,hl=>addT_canon (ts:=ts) (p:=insT p t) (insT_canon h (hl t (by simp))) (fun u hu=>hl u (mem_cons_of_mem _ hu))
theorem nf_sum (m:Mn) (ts:List Tm):sumC m (nf ts)=sumC m ts:=by
 have:=addT_sum m ts [];rw[sumC] at this;unfold nf;unfold addT at this;rw[this];grind
theorem nf_canon {ts:List Tm} (h:Len8 ts):Canon (nf ts):=addT_canon Canon.nil h
theorem nf_of {p ts:List Tm} (hp:Canon p) (hl:Len8 ts) (h: ∀ m,sumC m p=sumC m ts):p=nf ts:=
 canon_uniq hp (nf_canon hl) (fun m=>(h m).trans (nf_sum m ts).symm)
theorem nf_congr {a b:List Tm} (ha:Len8 a) (hb:Len8 b) (h: ∀ m,sumC m a=sumC m b):nf a=nf b:=
 nf_of (nf_canon ha) hb (fun m=>(nf_sum m a).trans (h m))
theorem nf_self {p:List Tm} (hp:Canon p):nf p=p:=(nf_of hp hp.len (fun _=>rfl)).symm
theorem insT_lt: ∀ {p:List Tm} {t:Tm} {k:Nat},(∀ i (h:i<p.length),i<k->gtM (p[i]'h).1 t.1=true)->k<=p.length->insT p t=p.take k++insT (p.drop k) t
 | p,t,0,_,_=>by simp
 | [],t,k+1,_,hk=>by simp at hk
 | x::p,t,k+1,h,hk=>by
  have h0:=h 0 (by simp) (by omega);rw[List.getElem_cons_zero] at h0;have ih:=insT_lt (p:=p) (t:=t) (k:=k) (fun i hi hik=>h (i+1) (by simpa using hi) (by omega)) (by simpa using hk);rw[take_succ_cons,List.drop_succ_cons,List.cons_append,<-ih];rw[insT,if_pos h0]
def accAdd:List Tm->Mn->Rat->List Tm
 | [],m,q=>[(m,q)]
 | t::ts,m,q=>if t.1=m then(m,t.2+q)::ts else t::accAdd ts m q
def accF (a:List Tm) (m:Mn):Option Rat:=(a.find? (fun t=>decide (t.1=m))).map (·.2)
def accL (ts:List Tm):List Tm:=ts.foldl (fun a t=>accAdd a t.1 t.2) []
theorem accL_snoc (ts:List Tm) (t:Tm):accL (ts++[t])=accAdd (accL ts) t.1 t.2:=by simp[accL,List.foldl_append]
theorem accAdd_sum (n:Mn): ∀ (a:List Tm) (m:Mn) (q:Rat),sumC n (accAdd a m q)=sumC n a+(if m=n then q else 0)
 | [],m,q=>by simp only[accAdd,sumC];grind
 | t::ts,m,q=>by
  unfold accAdd;split
  ·rename_i h;simp only[sumC,h];split<;>grind
  ·simp only[sumC,accAdd_sum n ts m q];grind
theorem accL_sum (n:Mn) (ts:List Tm):sumC n (accL ts)=sumC n ts:=by
 have key: ∀ (ts a:List Tm),sumC n (ts.foldl (fun a t=>accAdd a t.1 t.2) a)=sumC n a+sumC n ts:=by
  intro ts
  induction ts with
  | nil=>intro a;simp only[List.foldl_nil,sumC];grind
  | cons t ts ih=>
   intro a;rw[foldl_cons,ih,accAdd_sum];simp only[sumC];grind
 unfold accL;rw[key,sumC];grind
theorem accAdd_keys (a:List Tm) (m:Mn) (q:Rat):(accAdd a m q).map (·.1)=if m∈a.map (·.1) then a.map (·.1) else a.map (·.1)++[m]:=by
 induction a with
 | nil=>simp[accAdd]
 | cons t ts ih=>
  unfold accAdd;split
  ·rename_i h;simp[h]
  ·rename_i h;rw[map_cons,ih,map_cons];by_cases h2:m∈ts.map (·.1)
   ·rw[if_pos h2,if_pos (mem_cons_of_mem _ h2)]
   ·rw[if_neg h2,if_neg (by
     intro h3;rcases List.mem_cons.1 h3 with h3 | h3
     ·exact h h3.symm
     ·exact h2 h3)]
    rfl
theorem accL_nodup (ts:List Tm):((accL ts).map (·.1)).Nodup:=by
 have key: ∀ (ts a:List Tm),(a.map (·.1)).Nodup->((ts.foldl (fun a t=>accAdd a t.1 t.2) a).map (·.1)).Nodup:=by
  intro ts
  induction ts with
  | nil=>intro a h;exact h
  | cons t ts ih=>
   intro a h;refine ih _ ?_;rw[accAdd_keys];split
   ·exact h
   ·rename_i hm;rw[nodup_append];refine⟨h,by simp,?_⟩;intro x hx y hy he;simp at hy;subst hy;exact hm (he ▸ hx)
 exact key ts [] (by simp)
theorem accL_key {ts:List Tm} {m:Mn} (h:m∈(accL ts).map (·.1)):m∈ts.map (·.1):=by
 have key: ∀ (ts a:List Tm),m∈(ts.foldl (fun a t=>accAdd a t.1 t.2) a).map (·.1)->m∈a.map (·.1)\/m∈ts.map (·.1):=by
  intro ts
  induction ts with
  | nil=>intro a h;exact .inl h
  | cons t ts ih=>
   intro a h;rw[foldl_cons] at h;rcases ih _ h with h | h
   ·rw[accAdd_keys] at h;split at h
    ·exact .inl h
    ·rcases List.mem_append.1 h with h | h
     ·exact .inl h
     ·simp at h;exact .inr (by simp[h])
   ·exact .inr (by simp at h ⊢;exact .inr h)
 rcases key ts [] h with h | h
 ·simp at h
 ·exact h
theorem accL_len (ts:List Tm):(accL ts).length<=ts.length:=by
 have key: ∀ (ts a:List Tm),(ts.foldl (fun a t=>accAdd a t.1 t.2) a).length<=a.length+ts.length:=by
  intro ts
  induction ts with
  | nil=>intro a;simp
  | cons t ts ih=>
   intro a;rw[foldl_cons];have h:=ih (accAdd a t.1 t.2);have h2:(accAdd a t.1 t.2).length<=a.length+1:=by
    have:=congrArg List.length (accAdd_keys a t.1 t.2);rw[length_map] at this;rw[this];split<;>simp
   rw[length_cons];omega
 have:=key ts [];simpa [accL] using this
theorem nodup_sorted: ∀ {p:List Tm},p.Pairwise (fun a b=>gtM b.1 a.1=false)->(p.map (·.1)).Nodup->(∀ t∈p,t.1.length=8)->p.Pairwise (fun a b=>gtM a.1 b.1=true)
 | [],_,_,_=> .nil
 | t::p,h,hn,hl=>by
  rw[pairwise_cons] at h ⊢;rw[map_cons,List.nodup_cons] at hn;refine⟨fun u hu=>?_,nodup_sorted h.2 hn.2 (fun u hu=>hl u (mem_cons_of_mem _ hu))⟩;have h1:=h.1 u hu;rcases gtM_not ((hl u (mem_cons_of_mem _ hu)).trans (hl t (by simp)).symm) h1 with h2 | h2
  ·exact absurd (mem_map.2 ⟨u,hu,h2⟩) hn.1
  ·exact h2
theorem sort_nf {ts p:List Tm} (hl:Len8 ts) (hp:p.Perm ((accL ts).filter (fun t=>decide (t.2≠0)))) (hs:p.Pairwise (fun a b=>gtM b.1 a.1=false)):p=nf ts:=by
 have hmem: ∀ t∈p,t∈accL ts/\t.2≠0:=fun t ht=>by
  have:=hp.mem_iff.1 ht;rw[mem_filter] at this;exact⟨this.1,by simpa using this.2⟩
 have hlen: ∀ t∈p,t.1.length=8:=fun t ht=>by
  have:=accL_key (mem_map.2 ⟨t,(hmem t ht).1,rfl⟩);obtain⟨u,hu,he⟩:=mem_map.1 this;rw[<-he];exact hl u hu
 have hnd:(p.map (·.1)).Nodup:=by
  have h1:(p.map (·.1)).Perm (((accL ts).filter (fun t=>decide (t.2≠0))).map (·.1)):=hp.map _;rw[h1.nodup_iff];exact List.Nodup.sublist ((filter_sublist).map _) (accL_nodup ts)
 refine nf_of ⟨nodup_sorted hs hnd hlen,fun t ht=>(hmem t ht).2,hlen⟩ hl (fun m=>?_);rw[sumC_perm hp,sumC_filter,accL_sum]
def DM (D:Nat):List Tm->Nat->Prop
 | [],_=>True
 | t::ts,M=> ∃ z:Int,∃ N:Nat,t.2=mkRat z D/\z.natAbs+N<=M/\DM D ts N
theorem DM.mono {D:Nat}: ∀ {ts:List Tm} {M N:Nat},DM D ts M->M<=N->DM D ts N
 | [],_,_,_,_=>trivial
 | t::ts,M,N,⟨z,K,h1,h2,h3⟩,h=>⟨z,K,h1,by omega,h3⟩
theorem DM.append {D:Nat}: ∀ {a b:List Tm} {M N:Nat},DM D a M->DM D b N->DM D (a++b) (M+N)
 | [],b,M,N,_,h=>h.mono (by omega)
 | t::a,b,M,N,⟨z,K,h1,h2,h3⟩,h=>⟨z,K+N,h1,by omega,h3.append h⟩
theorem DM.tail {D:Nat} {t:Tm} {ts:List Tm} {M:Nat} (h:DM D (t::ts) M):DM D ts M:=by
 obtain⟨z,N,h1,h2,h3⟩:=h;exact h3.mono (by omega)
theorem DM.mem {D:Nat}: ∀ {ts:List Tm} {M:Nat} {t:Tm},DM D ts M->t∈ts-> ∃ z:Int,t.2=mkRat z D/\z.natAbs<=M
 | u::ts,M,t,⟨z,K,h1,h2,h3⟩,ht=>by
  rcases List.mem_cons.1 ht with rfl | ht
  ·exact⟨z,h1,by omega⟩
  ·obtain⟨y,h4,h5⟩:=h3.mem ht;exact⟨y,h4,by omega⟩
 | [],_,_,_,ht=>by simp at ht
theorem DM.one {D:Nat} {t:Tm} {z:Int} (h:t.2=mkRat z D):DM D [t] z.natAbs:=⟨z,0,h,by omega,tvq⟩
theorem mkRat_lift {z:Int} {D E:Nat} (hE:E≠0):mkRat z D=mkRat (z*E) (D*E):=by
 rw[Rat.mkRat_mul_right hE]
theorem DM.lift {D E:Nat} (hE:E≠0): ∀ {ts:List Tm} {M:Nat},DM D ts M->DM (D*E) ts (M*E)
 | [],_,_=>trivial
 | t::ts,M,⟨z,K,h1,h2,h3⟩=>⟨z*E,K*E,by rw[h1,mkRat_lift hE],by
  rw[Int.natAbs_mul,Int.natAbs_natCast,<-Nat.add_mul];exact qn _ h2,h3.lift hE⟩
theorem bd_mkRat {z:Int} {D k:Nat} (hk:1<=k) (hz:z.natAbs<B^k) (hD:D<B^k):Bd k (mkRat z D):=by
 have:mkRat z D=mkq (decide (z<0)) z.natAbs D:=by
  unfold mkq sg;congr 1;by_cases h:z<0
  ·simp only[h,decide_true,if_true];omega
  ·simp only[h,decide_false];simp;omega
 rw[this];exact Bd.mk hk hz hD
theorem DM.bd {D M k:Nat} {ts:List Tm} (h:DM D ts M) (hk:1<=k) (hD:D<B^k) (hM:M<B^k): ∀ t∈ts,Bd k t.2:=fun t ht=>by
 obtain⟨z,h1,h2⟩:=h.mem ht;rw[h1];exact bd_mkRat hk (by omega) hD
theorem mkRat_sum {z w:Int} {D:Nat} (hD:D≠0):mkRat z D+mkRat w D=mkRat (z+w) D:=mkRat_add z w hD
theorem DM.insT {D:Nat} (hD:D≠0): ∀ {p:List Tm} {t:Tm} {M:Nat} {z:Int},DM D p M->t.2=mkRat z D->DM D (insT p t) (M+z.natAbs)
 | [],t,M,z,_,ht=>by
  unfold Go.Pl.insT;split
  ·trivial
  ·exact(DM.one ht).mono (by omega)
 | x::p,t,M,z,⟨y,K,h1,h2,h3⟩,ht=>by
  have ih:=DM.insT hD h3 ht;unfold Go.Pl.insT;split
  ·exact⟨y,K+z.natAbs,h1,by omega,ih⟩
  ·split
   ·split
    ·exact h3.mono (by omega)
    ·refine⟨z+y,K,?_,by omega,h3⟩;show t.2+x.2=_;rw[ht,h1,mkRat_sum hD]
   ·split
    ·exact⟨y,K,h1,by omega,h3⟩
    ·exact⟨z,K+y.natAbs,ht,by omega,⟨y,K,h1,by omega,h3⟩⟩
theorem DM.addT {D:Nat} (hD:D≠0): ∀ {ts p:List Tm} {M N:Nat},DM D p M->DM D ts N->DM D (addT p ts) (M+N)
 | [],p,M,N,hp,_=>hp.mono (by omega)
 | t::ts,p,M,N,hp,⟨z,K,h1,h2,h3⟩=>by
  have:=DM.addT hD (DM.insT hD hp h1) h3;unfold Go.Pl.addT at this ⊢;rw[foldl_cons];exact this.mono (by omega)
theorem DM.nf {D:Nat} (hD:D≠0) {ts:List Tm} {M:Nat} (h:DM D ts M):DM D (nf ts) M:=(DM.addT hD (show DM D [] 0 from trivial) h).mono (by omega)
theorem DM.accAdd {D:Nat} (hD:D≠0): ∀ {a:List Tm} {m:Mn} {q:Rat} {M:Nat} {z:Int},DM D a M->q=mkRat z D->DM D (accAdd a m q) (M+z.natAbs)
 | [],m,q,M,z,_,hq=>(DM.one (t:=(m,q)) hq).mono (by omega)
 | t::ts,m,q,M,z,⟨y,K,h1,h2,h3⟩,hq=>by
  unfold Go.Pl.accAdd;split
  ·refine⟨y+z,K,?_,by omega,h3⟩;show t.2+q=_;rw[hq,h1,mkRat_sum hD]
  ·exact⟨y,K+z.natAbs,h1,by omega,DM.accAdd hD h3 hq⟩
theorem DM.accL {D:Nat} (hD:D≠0) {ts:List Tm} {M:Nat} (h:DM D ts M):DM D (accL ts) M:=by
 have key: ∀ (ts a:List Tm) (M N:Nat),DM D a M->DM D ts N->DM D (ts.foldl (fun a t=>Go.Pl.accAdd a t.1 t.2) a) (M+N):=by
  intro ts
  induction ts with
  | nil=>intro a M N ha _;exact ha.mono (by omega)
  | cons t ts ih=>
   rintro a M N ha ⟨z,K,h1,h2,h3⟩;rw[foldl_cons];exact(ih _ _ _ (DM.accAdd hD ha h1) h3).mono (by omega)
 exact(key ts [] 0 M trivial h).mono (by omega)
theorem DM.take {D:Nat}: ∀ {ts:List Tm} {M:Nat} (i:Nat),DM D ts M->DM D (ts.take i) M
 | [],_,_,_=>by simp[DM]
 | t::ts,M,0,_=>trivial
 | t::ts,M,i+1,⟨z,K,h1,h2,h3⟩=>⟨z,K,h1,h2,h3.take i⟩
def PB (k:Nat) (ts:List Tm):Prop:= ∃ D M,0<D/\D<B^k/\M<B^k/\DM D ts M
theorem PB.mono {j k:Nat} {ts:List Tm} (h:PB j ts) (hk:j<=k):PB k ts:=by
 obtain⟨D,M,h1,h2,h3,h4⟩:=h;exact⟨D,M,h1,Nat.lt_of_lt_of_le h2 (Nat.pow_le_pow_right (by decide) hk),Nat.lt_of_lt_of_le h3 (Nat.pow_le_pow_right (by decide) hk),h4⟩
theorem PB.bd {k:Nat} {ts:List Tm} (h:PB k ts) (hk:1<=k): ∀ t∈ts,Bd k t.2:=by
 obtain⟨D,M,h1,h2,h3,h4⟩:=h;exact h4.bd hk h2 h3
theorem PB.nf {k:Nat} {ts:List Tm} (h:PB k ts):PB k (nf ts):=by
 obtain⟨D,M,h1,h2,h3,h4⟩:=h;exact⟨D,M,h1,h2,h3,h4.nf (by omega)⟩
theorem PB.accL {k:Nat} {ts:List Tm} (h:PB k ts):PB k (accL ts):=by
 obtain⟨D,M,h1,h2,h3,h4⟩:=h;exact⟨D,M,h1,h2,h3,h4.accL (by omega)⟩
theorem PB.take {k:Nat} {ts:List Tm} (h:PB k ts) (i:Nat):PB k (ts.take i):=by
 obtain⟨D,M,h1,h2,h3,h4⟩:=h;exact⟨D,M,h1,h2,h3,h4.take i⟩
theorem PB.append {j k:Nat} {a b:List Tm} (ha:PB j a) (hb:PB k b):PB (j+k+1) (a++b):=by
 obtain⟨D,M,h1,h2,h3,h4⟩:=ha;obtain⟨E,N,g1,g2,g3,g4⟩:=hb;refine⟨D*E,M*E+N*D,Nat.mul_pos h1 g1,Nat.lt_of_lt_of_le (natAbs_pow_lt h2 g2) (Nat.pow_le_pow_right (by decide) (by omega)),?_,?_⟩
 ·exact add_pow_lt (natAbs_pow_lt h3 g2) (by rw[Nat.add_comm j k];exact natAbs_pow_lt g3 h2)
 ·refine(h4.lift (by omega)).append ?_;rw[Nat.mul_comm D E];exact g4.lift (by omega)
theorem PB.nil {k:Nat} (hk:1<=k):PB k []:=⟨1,0,by decide,Nat.lt_of_lt_of_le (show 1<B^1 by decide) (Nat.pow_le_pow_right (by decide) hk),qeb (by decide),tvq⟩
theorem PB.one {k:Nat} {t:Tm} (h:Bd k t.2):PB k [t]:=
 ⟨t.2.den,t.2.num.natAbs,t.2.den_pos,h.2,h.1,DM.one (Rat.mkRat_self _).symm⟩
theorem PB.list {k:Nat} (hk:1<=k): ∀ {ts:List Tm},(∀ t∈ts,Bd k t.2)->PB (ts.length*(k+1)+1) ts
 | [],_=>(PB.nil (k:=1) (qp _)).mono (by simp)
 | t::ts,h=>by
  have h1:=PB.one (h t (by simp));have h2:=PB.list hk (fun u hu=>h u (mem_cons_of_mem _ hu));refine(h1.append h2).mono ?_;rw[length_cons,Nat.add_mul];omega
def Eqv (a b:List Tm):Prop:= ∀ m,sumC m a=sumC m b
theorem Eqv.refl (a:List Tm):Eqv a a:=fun _=>rfl
theorem Eqv.nf (a:List Tm):Eqv (nf a) a:=fun m=>nf_sum m a
theorem Eqv.app {a b c d:List Tm} (h:Eqv a b) (k:Eqv c d):Eqv (a++c) (b++d):=fun m=>by rw[sumC_append,sumC_append,h m,k m]
theorem Eqv.nf_eq {a b:List Tm} (h:Eqv a b) (ha:Len8 a) (hb:Len8 b):Go.Pl.nf a=Go.Pl.nf b:=nf_congr ha hb h
theorem Len8.app {a b:List Tm} (ha:Len8 a) (hb:Len8 b):Len8 (a++b):=fun t ht=>by
 rcases List.mem_append.1 ht with h | h
 ·exact ha t h
 ·exact hb t h
theorem Len8.nf {a:List Tm} (h:Len8 a):Len8 (nf a):=(nf_canon h).len
def addM (a b:Mn):Mn:=List.zipWith (· + ·) a b
theorem addM_length {a b:Mn} (ha:a.length=8) (hb:b.length=8):(addM a b).length=8:=by simp[addM,ha,hb]
def timesT (p:List Tm) (t:Tm):List Tm:=p.map (fun s=>(addM s.1 t.1,s.2*t.2))
def prodT (p q:List Tm):List Tm:=p.flatMap (fun s=>q.map (fun t=>(addM s.1 t.1,s.2*t.2)))
theorem prodT_cons (s:Tm) (p q:List Tm):prodT (s::p) q=q.map (fun t=>(addM s.1 t.1,s.2*t.2))++prodT p q:=rfl
theorem Len8.map1 {q:List Tm} {s:Tm} (hs:s.1.length=8) (h:Len8 q):Len8 (q.map (fun t=>(addM s.1 t.1,s.2*t.2))):=fun t ht=>by
 obtain⟨u,hu,rfl⟩:=mem_map.1 ht;exact addM_length hs (h u hu)
theorem Len8.prod {p q:List Tm} (hp:Len8 p) (hq:Len8 q):Len8 (prodT p q):=fun t ht=>by
 obtain⟨s,hs,ht⟩:=List.mem_flatMap.1 ht;exact Len8.map1 (hp s hs) hq t ht
def scaleT (p:List Tm) (r:Rat):List Tm:=p.map (fun t=>(t.1,t.2*r))
theorem Len8.scale {p:List Tm} {r:Rat} (h:Len8 p):Len8 (scaleT p r):=fun u hu=>by
 obtain⟨s,hs,rfl⟩:=mem_map.1 hu;exact h s hs
theorem mkRat_prod {z w:Int} {D E:Nat}:mkRat z D*mkRat w E=mkRat (z*w) (D*E):=Rat.mkRat_mul_mkRat z w D E
theorem DM.map1 {D E:Nat} {s:Tm} {z:Int} (hs:s.2=mkRat z D): ∀ {q:List Tm} {N:Nat},DM E q N->DM (D*E) (q.map (fun t=>(addM s.1 t.1,s.2*t.2))) (z.natAbs*N)
 | [],_,_=>trivial
 | t::q,N,⟨w,K,h1,h2,h3⟩=>⟨z*w,z.natAbs*K,by show s.2*t.2=_;rw[hs,h1,mkRat_prod],by
  rw[Int.natAbs_mul,<-Nat.mul_add];exact Nat.mul_le_mul_left _ h2,DM.map1 hs h3⟩
theorem DM.prod {D E:Nat}: ∀ {p q:List Tm} {M N:Nat},DM D p M->DM E q N->DM (D*E) (prodT p q) (M*N)
 | [],_,_,_,_,_=>trivial
 | s::p,q,M,N,⟨z,K,h1,h2,h3⟩,hq=>by
  rw[prodT_cons];refine((DM.map1 h1 hq).append (h3.prod hq)).mono ?_;rw[<-Nat.add_mul];exact qn _ h2
theorem PB.prod {j k:Nat} {p q:List Tm} (hp:PB j p) (hq:PB k q):PB (j+k) (prodT p q):=by
 obtain⟨D,M,h1,h2,h3,h4⟩:=hp;obtain⟨E,N,g1,g2,g3,g4⟩:=hq;exact⟨D*E,M*N,Nat.mul_pos h1 g1,natAbs_pow_lt h2 g2,natAbs_pow_lt h3 g3,h4.prod g4⟩
theorem DM.scale {D E:Nat} {r:Rat} {w:Int} (hr:r=mkRat w E): ∀ {p:List Tm} {M:Nat},DM D p M->DM (D*E) (scaleT p r) (M*w.natAbs)
 | [],_,_=>trivial
 | t::p,M,⟨z,K,h1,h2,h3⟩=>⟨z*w,K*w.natAbs,by show t.2*r=_;rw[hr,h1,mkRat_prod],by
  rw[Int.natAbs_mul,<-Nat.add_mul];exact qn _ h2,DM.scale hr h3⟩
theorem PB.scale {j k:Nat} {p:List Tm} {r:Rat} (hp:PB j p) (hr:Bd k r):PB (j+k) (scaleT p r):=by
 obtain⟨D,M,h1,h2,h3,h4⟩:=hp;exact⟨D*r.den,M*r.num.natAbs,Nat.mul_pos h1 r.den_pos,natAbs_pow_lt h2 hr.2,natAbs_pow_lt h3 hr.1,h4.scale (Rat.mkRat_self _).symm⟩
theorem insT_len: ∀ (p:List Tm) (t:Tm),(insT p t).length<=p.length+1
 | [],t=>by unfold insT;split<;>simp
 | x::p,t=>by
  have ih:=insT_len p t;unfold insT;split
  ·simp only[length_cons];omega
  ·split
   ·split<;>simp<;>omega
   ·split<;>simp
theorem addT_len: ∀ (ts p:List Tm),(addT p ts).length<=p.length+ts.length
 | [],p=>by simp[addT]
 | t::ts,p=>by
  have h1:=addT_len ts (insT p t);have h2:=insT_len p t;unfold addT at h1 ⊢;rw[foldl_cons,length_cons];omega
theorem nf_len (ts:List Tm):(nf ts).length<=ts.length:=by
 have:=addT_len ts [];unfold nf;unfold addT at this;simpa using this
theorem prodT_len: ∀ p q:List Tm,(prodT p q).length=p.length*q.length
 | [],q=>by simp[prodT]
 | s::p,q=>by
  rw[prodT_cons,qe,prodT_len p q,length_map,length_cons,Nat.add_mul];omega
theorem insT_keys {p:List Tm} {t u:Tm} (h:u∈insT p t):u.1=t.1\/ ∃ x∈p,x.1=u.1:=by
 rcases insT_mem h with h | h
 ·exact .inr ⟨u,h,rfl⟩
 ·exact .inl h
theorem addT_keys: ∀ {ts p:List Tm} {u:Tm},u∈addT p ts-> ∃ x,(x∈p\/x∈ts)/\x.1=u.1
 | [],p,u,h=>⟨u,.inl h,rfl⟩
 | t::ts,p,u,h=>by
  obtain⟨x,hx,he⟩:=addT_keys (ts:=ts) (p:=insT p t) (u:=u) (by unfold addT at h ⊢;simpa using h);rcases hx with hx | hx
  ·rcases insT_keys hx with h1 | ⟨y,hy,h1⟩
   ·exact⟨t,.inr (by simp),by rw[<-he,h1]⟩
   ·exact⟨y,.inl hy,by rw[h1,he]⟩
  ·exact⟨x,.inr (mem_cons_of_mem _ hx),he⟩
theorem nf_keys {ts:List Tm} {u:Tm} (h:u∈nf ts): ∃ x∈ts,x.1=u.1:=by
 obtain⟨x,hx,he⟩:=addT_keys (ts:=ts) (p:=[]) (u:=u) h;rcases hx with hx | hx
 ·simp at hx
 ·exact⟨x,hx,he⟩
theorem gtM_set: ∀ {a b:Mn} {v:Nat} (x:Int),gtM a b=true->a.getD v 0=b.getD v 0->a.length=b.length->gtM (a.set v x) (b.set v x)=true
 | y::a,z::b,0,x,h,he,_=>by
  simp only[List.getD_cons_zero] at he;subst he;simp only[set_cons_zero,gtM,if_pos] at h ⊢;exact h
 | y::a,z::b,v+1,x,h,he,hl=>by
  simp only[qk] at he;simp only[List.set_cons_succ];unfold gtM at h ⊢;by_cases e:y=z
  ·rw[if_pos e] at h ⊢;exact gtM_set x h he (by simpa using hl)
  ·rw[if_neg e] at h ⊢;exact h
 | [],_,_,_,h,_,_=>by simp[gtM] at h
 | _::_,[],_,_,h,_,_=>by simp[gtM] at h
def partT (v:Nat) (d:Int) (p:List Tm):List Tm:=(p.filter (fun t=>decide (t.1.getD v 0=d))).map (fun t=>(t.1.set v 0,t.2))
theorem partT_canon {v:Nat} {d:Int} {p:List Tm} (h:Canon p):Canon (partT v d p):=by
 refine⟨?_,?_,?_⟩
 ·unfold partT;rw[List.pairwise_map];refine List.Pairwise.imp_of_mem ?_ (h.sorted.sublist filter_sublist);intro a b ha hb hg;rw[mem_filter] at ha hb;exact gtM_set 0 hg ((of_decide_eq_true ha.2).trans (of_decide_eq_true hb.2).symm) ((h.len a ha.1).trans (h.len b hb.1).symm)
 ·intro t ht;obtain⟨u,hu,rfl⟩:=mem_map.1 ht;exact h.nz u (mem_filter.1 hu).1
 ·intro t ht;obtain⟨u,hu,rfl⟩:=mem_map.1 ht;simp[h.len u (mem_filter.1 hu).1]
theorem partT_len {v:Nat} {d:Int} {p:List Tm}:(partT v d p).length<=p.length:=by
 unfold partT;rw[length_map];exact List.length_filter_le _ _
theorem partT_snoc {v:Nat} {d:Int} {p:List Tm} {t:Tm}:partT v d (p++[t])=if t.1.getD v 0=d then partT v d p++[(t.1.set v 0,t.2)] else partT v d p:=by
 unfold partT;rw[List.filter_append,qwb];by_cases h:t.1.getD v 0=d
 ·rw[if_pos h,List.filter_cons_of_pos (by simp only[decide_eq_true_eq];exact h)];rfl
 ·rw[if_neg h,filter_cons_of_neg (by simp only[decide_eq_true_eq];exact h)];simp
def degT (v:Nat) (p:List Tm):Int:=p.foldl (fun d t=>max d (t.1.getD v 0)) (-1)
theorem degT_snoc {v:Nat} {p:List Tm} {t:Tm}:degT v (p++[t])=max (degT v p) (t.1.getD v 0):=by simp[degT,List.foldl_append]
theorem foldl_max: ∀ (p:List Tm) (v:Nat) (d:Int),d<=p.foldl (fun d t=>max d (t.1.getD v 0)) d/\ ∀ t∈p,t.1.getD v 0<=p.foldl (fun d t=>max d (t.1.getD v 0)) d
 | [],v,d=>⟨Int.le_refl _,fun t ht=>by simp at ht⟩
 | x::p,v,d=>by
  obtain⟨h1,h2⟩:=foldl_max p v (max d (x.1.getD v 0));rw[foldl_cons];refine⟨by omega,fun t ht=>?_⟩;rcases List.mem_cons.1 ht with rfl | ht
  ·omega
  ·exact h2 t ht
theorem degT_ge {v:Nat} {p:List Tm}: -1<=degT v p:=(foldl_max p v (-1)).1
theorem degT_le {v:Nat} {p:List Tm} {t:Tm} (h:t∈p):t.1.getD v 0<=degT v p:=(foldl_max p v (-1)).2 t h
theorem foldl_max_le: ∀ (p:List Tm) (v:Nat) (d N:Int),d<=N->(∀ t∈p,t.1.getD v 0<=N)->p.foldl (fun d t=>max d (t.1.getD v 0)) d<=N
 | [],_,_,_,h,_=>h
 | x::p,v,d,N,h,h2=>by
  rw[foldl_cons];exact foldl_max_le p v _ N (by have:=h2 x (by simp);omega) (fun t ht=>h2 t (mem_cons_of_mem _ ht))
theorem degT_lt {v:Nat} {p:List Tm} {N:Int} (hN: -1<=N) (h: ∀ t∈p,t.1.getD v 0<=N):degT v p<=N:=foldl_max_le p v (-1) N hN h
def partsT (v:Nat) (p:List Tm):List (List Tm):=(List.range (degT v p+1).toNat).map (fun(i:Nat)=>partT v (i:Int) p)
theorem partsT_len (v:Nat) (p:List Tm):(partsT v p).length=(degT v p+1).toNat:=by simp[partsT]
def hornT (q:List Tm):List (List Tm)->List Tm
 | []=>[]
 | c::cs=>nf (prodT (hornT q cs) q++c)
def substT (v:Nat) (q p:List Tm):List Tm:=hornT q (partsT v p)
theorem hornT_canon {q:List Tm} (hq:Len8 q): ∀ {cs:List (List Tm)},(∀ c∈cs,Len8 c)->Canon (hornT q cs)
 | [],_=>Canon.nil
 | c::cs,h=>nf_canon (Len8.app (Len8.prod (hornT_canon hq (fun c hc=>h c (mem_cons_of_mem _ hc))).len hq) (h c (by simp)))
theorem substT_canon {v:Nat} {p q:List Tm} (hp:Canon p) (hq:Len8 q):Canon (substT v q p):=hornT_canon hq (fun c hc=>by
 obtain⟨i,_,rfl⟩:=mem_map.1 hc;exact(partT_canon hp).len)
theorem horn_step {out q c:List Tm} (ho:Len8 out) (hq:Len8 q) (hc:Len8 c):nf (nf (prodT out q)++c)=nf (prodT out q++c):=
 Eqv.nf_eq ((Eqv.nf _).app (Eqv.refl c)) (Len8.app (nf_canon (Len8.prod ho hq)).len hc) (Len8.app (Len8.prod ho hq) hc)
theorem horn_bd {q:List Tm} {kq kc:Nat} (hq:PB kq q): ∀ {cs:List (List Tm)},(∀ c∈cs,PB kc c)->PB (cs.length*(kq+kc+1)+1) (hornT q cs)
 | [],_=>(PB.nil (qp 1)).mono (by simp)
 | c::cs,h=>by
  have ih:=horn_bd hq (fun c hc=>h c (mem_cons_of_mem _ hc));refine((((ih.prod hq).append (h c (by simp))).nf)).mono ?_;rw[length_cons,Nat.add_mul];omega
theorem PB.sub {k:Nat} {p q:List Tm} (h:PB k p) (hq:q.Sublist p):PB k q:=by
 obtain⟨D,M,h1,h2,h3,h4⟩:=h;refine⟨D,M,h1,h2,h3,?_⟩;clear h3
 induction hq generalizing M with
 | slnil=>trivial
 | cons x _ ih=>exact ih M h4.tail
 | cons_cons x _ ih=>
  obtain⟨z,N,g1,g2,g3⟩:=h4;exact⟨z,N,g1,g2,ih N g3⟩
theorem DM.keys {D:Nat} {f:Tm->Mn}: ∀ {p:List Tm} {M:Nat},DM D p M->DM D (p.map (fun t=>(f t,t.2))) M
 | [],_,_=>trivial
 | _::_,_,⟨z,N,g1,g2,g3⟩=>⟨z,N,g1,g2,g3.keys⟩
theorem PB.keys {k:Nat} {p:List Tm} (f:Tm->Mn) (h:PB k p):PB k (p.map (fun t=>(f t,t.2))):=by
 obtain⟨D,M,h1,h2,h3,h4⟩:=h;exact⟨D,M,h1,h2,h3,h4.keys⟩
theorem PB.part {k v:Nat} {d:Int} {p:List Tm} (h:PB k p):PB k (partT v d p):=(h.sub filter_sublist).keys (fun t=>t.1.set v 0)
def primL (v:Nat) (p:List Tm):List Tm:=p.map (fun t=>(t.1.set v (t.1.getD v 0+1),t.2 / (t.1.getD v 0+1)))
theorem Len8.prim {v:Nat} {p:List Tm} (h:Len8 p):Len8 (primL v p):=fun t ht=>by
 obtain⟨u,hu,rfl⟩:=mem_map.1 ht;simp[h u hu]
end Go.Pl
namespace Go.Pl
section
variable {α:Type} (d:α)
def swapG (ls:List α) (j:Nat):List α:=(ls.set j (ls.getD (j - 1) d)).set (j - 1) (ls.getD j d)
theorem swapG_getD {ls:List α} {j:Nat} (h0:0<j) (hj:j<ls.length) (q:Nat):(swapG d ls j).getD q d=if q=j then ls.getD (j - 1) d else if q=j - 1 then ls.getD j d else ls.getD q d:=by
 unfold swapG;rw[qa,getElem?_set,getElem?_set];by_cases h1:q=j
 ·subst h1;rw[if_neg (by omega),if_pos rfl,if_pos hj,if_pos rfl];simp
 ·rw[if_neg h1];by_cases h2:q=j - 1
  ·rw[if_pos h2.symm,if_pos (by simp;omega),if_pos h2];simp
  ·rw[if_neg (fun h=>h2 h.symm),if_neg (fun h=>h1 h.symm),if_neg h2,qa]
theorem swapG_perm {ls:List α} {j:Nat} (h0:0<j) (hj:j<ls.length):(swapG d ls j).Perm ls:=by
 obtain⟨i,rfl⟩: ∃ i,j=i+1:=⟨j - 1,by omega⟩;have h1:ls=ls.take i++(ls[i]::ls[i+1]::ls.drop (i+2)):=by
  rw[<-drop_eq_getElem_cons (by omega),<-drop_eq_getElem_cons (by omega),List.take_append_drop]
 have hl:(ls.take i).length=i:=by rw[length_take];omega
 have h2:swapG d ls (i+1)=ls.take i++(ls[i+1]::ls[i]::ls.drop (i+2)):=by
  unfold swapG;rw[Nat.add_sub_cancel,qa,qa,qb (by omega),qb hj];simp only[Option.getD_some];generalize ls[i]=x at*;generalize ls[i+1]=y at*;generalize List.drop (i+2) ls=T at*;generalize List.take i ls=A at*;rw[h1,List.set_append_right _ _ (by omega),List.set_append_right _ _ (by omega)];rw[hl,show i+1 - i=1 by omega,Nat.sub_self];simp
 rw[h2]
 conv=>rhs;rw[h1]
 exact List.Perm.append_left _ (List.Perm.swap _ _ _)
variable (lt:α->α->Prop)
def SrtG (ls:List α) (i j:Nat):Prop:= ∀ p q,p<q->q<=i->q≠j-> ¬lt (ls.getD q d) (ls.getD p d)
theorem srtG_swap (asym: ∀ x y,lt x y-> ¬lt y x) {ls:List α} {i j:Nat} (hj0:0<j) (hji:j<=i) (hi:i<ls.length) (h:SrtG d lt ls i j) (hc:lt (ls.getD j d) (ls.getD (j - 1) d)):SrtG d lt (swapG d ls j) i (j - 1):=by
 intro p q hpq hqi hq;rw[swapG_getD d hj0 (by omega),swapG_getD d hj0 (by omega)];by_cases h1:q=j
 ·rw[if_pos h1,if_neg (by omega)];by_cases h2:p=j - 1
  ·rw[if_pos h2];exact asym _ _ hc
  ·rw[if_neg h2];exact h p (j - 1) (by omega) (by omega) (by omega)
 ·rw[if_neg h1,if_neg hq];by_cases h2:p=j
  ·rw[if_pos h2];exact h (j - 1) q (by omega) hqi h1
  ·rw[if_neg h2];by_cases h3:p=j - 1
   ·rw[if_pos h3];exact h j q (by omega) hqi h1
   ·rw[if_neg h3];exact h p q hpq hqi h1
theorem srtG_done {ls:List α} (hnt: ∀ x∈ls,∀ y∈ls,∀ z∈ls,¬lt x y-> ¬lt y z-> ¬lt x z) {i j:Nat} (hi:i<ls.length) (hji:j<=i) (h:SrtG d lt ls i j) (hc:j=0\/ ¬lt (ls.getD j d) (ls.getD (j - 1) d)):
 ∀ p q,p<q->q<=i-> ¬lt (ls.getD q d) (ls.getD p d):=by
 intro p q hpq hqi
 by_cases h1:q=j
 ·subst h1
  have hmem: ∀ k,k<ls.length->ls.getD k d∈ls:=fun k hk=>by
   rw[qa,qb hk];simp
  rcases hc with hc | hc
  ·omega
  ·by_cases h2:p=q - 1
   ·rw[h2];exact hc
   ·exact hnt _ (hmem q (by omega)) _ (hmem (q - 1) (by omega)) _ (hmem p (by omega)) hc (h p (q - 1) (by omega) (by omega) (by omega))
 ·exact h p q hpq hqi h1
theorem pairwise_getD {ls:List α} (h: ∀ p q,p<q->q<ls.length-> ¬lt (ls.getD q d) (ls.getD p d)):ls.Pairwise (fun a b=>¬lt b a):=by
 rw[List.pairwise_iff_getElem];intro i j hi hj hij;have:=h i j hij hj;rw[qa,qa,qb hi,qb hj] at this;exact this
end
def cmpM:Mn->Mn->Int
 | x::a,y::b=>if x<y then -1 else if y<x then 1 else cmpM a b
 | _,_=>0
theorem cmpM_gt: ∀ {a b:Mn},0<cmpM a b↔gtM a b=true
 | x::a,y::b=>by
  have ih:=cmpM_gt (a:=a) (b:=b);unfold cmpM gtM;rcases Int.lt_trichotomy x y with h | h | h
  ·rw[if_pos h,if_neg (by omega)];simp;omega
  ·subst h;rw[if_neg (by omega),if_neg (by omega),if_pos rfl];exact ih
  ·rw[if_neg (by omega),if_pos h,if_neg (by omega)];simp;omega
 | [],b=>by simp[cmpM,gtM]
 | _::_,[]=>by simp[cmpM,gtM]
theorem cmpM_range: ∀ a b:Mn,cmpM a b= -1\/cmpM a b=0\/cmpM a b=1
 | x::a,y::b=>by
  unfold cmpM;split
  ·exact .inl rfl
  ·split
   ·exact .inr (.inr rfl)
   ·exact cmpM_range a b
 | [],b=> .inr (.inl (by simp[cmpM]))
 | _::_,[]=> .inr (.inl (by simp[cmpM]))
theorem cmpM_drop {a b:Mn} {i:Nat} (ha:i<a.length) (hb:i<b.length):cmpM (a.drop i) (b.drop i)=if a.getD i 0<b.getD i 0 then -1 else if b.getD i 0<a.getD i 0 then 1 else cmpM (a.drop (i+1)) (b.drop (i+1)):=by
 rw[drop_eq_getElem_cons ha,drop_eq_getElem_cons hb,cmpM,qa,qa,qb ha,qb hb];rfl
def ltT {β:Type} (s t:List Int×β):Prop:=gtM s.1 t.1=true
theorem ltT_asym {β:Type} (s t:List Int×β) (h:ltT s t): ¬ltT t s:=by
 unfold ltT at*;rw[gtM_asymm h];simp
theorem ltT_nt {β:Type} {x y z:List Int×β} (hx:x.1.length=8) (hy:y.1.length=8) (_hz:z.1.length=8) (h1: ¬ltT x y) (h2: ¬ltT y z): ¬ltT x z:=by
 unfold ltT at*;intro h3;rcases gtM_not (hx.trans hy.symm) (by simpa using h1) with h4 | h4
 ·rw[h4] at h3;exact h2 h3
 ·exact h2 (gtM_trans h4 h3)
end Go.Pl
namespace Go.Pl
theorem insT_perm: ∀ {p:List Tm} {t:Tm},t.2≠0->(∀ x∈p,x.1≠t.1)->(insT p t).Perm (t::p)
 | [],t,h,_=>by
  unfold insT;rw[if_neg h]
 | x::p,t,h,hk=>by
  unfold insT;split
  ·exact((insT_perm h (fun y hy=>hk y (mem_cons_of_mem _ hy))).cons x).trans (List.Perm.swap _ _ _)
  ·simp only[hk x (by simp),if_false];exact List.Perm.refl _
theorem addT_perm: ∀ {ts p:List Tm},(∀ t∈ts,t.2≠0)->((p++ts).map (·.1)).Nodup->(addT p ts).Perm (p++ts)
 | [],p,_,_=>by simp[addT]
 | t::ts,p,h,hn=>by
  rw[qwb,map_cons,nodup_append] at hn;obtain⟨h1,h2,h3⟩:=hn;rw[List.nodup_cons] at h2;have hp:=insT_perm (p:=p) (t:=t) (h t (by simp)) (fun x hx he=>h3 x.1 (mem_map.2 ⟨x,hx,rfl⟩) t.1 (by simp) he);have hnd:((insT p t++ts).map (·.1)).Nodup:=by
   have hq:((insT p t++ts).map (·.1)).Perm (((t::p)++ts).map (·.1)):=(hp.append_right ts).map _;rw[hq.nodup_iff,qwb,map_cons,List.cons_append,List.nodup_cons,nodup_append];refine⟨?_,h1,h2.2,fun x hx y hy=>h3 x hx y (mem_cons_of_mem _ hy)⟩;intro hm;rcases List.mem_append.1 hm with hm | hm
   ·exact h3 t.1 hm t.1 (by simp) rfl
   ·exact h2.1 hm
  have ih:=addT_perm (ts:=ts) (p:=insT p t) (fun u hu=>h u (mem_cons_of_mem _ hu)) hnd;unfold addT at ih ⊢;rw[foldl_cons];refine ih.trans ((hp.append_right ts).trans ?_);rw[List.cons_append];exact List.perm_middle.symm
def keepL (ts:List Tm):List Tm:=(accL ts).filter (fun t=>decide (t.2≠0))
theorem accL_len8 {ts:List Tm} (h:Len8 ts):Len8 (accL ts):=fun t ht=>by
 obtain⟨u,hu,he⟩:=mem_map.1 (accL_key (mem_map.2 ⟨t,ht,rfl⟩));rw[<-he];exact h u hu
theorem nf_keep {ts:List Tm} (h:Len8 ts):(nf ts).Perm (keepL ts):=by
 have h8:Len8 (keepL ts):=fun t ht=>accL_len8 h t (mem_filter.1 ht).1
 have h1:nf ts=nf (keepL ts):=nf_congr h h8 (fun m=>by unfold keepL;rw[sumC_filter,accL_sum]);rw[h1];have h2:=addT_perm (ts:=keepL ts) (p:=[]) (fun t ht=>by simpa using(mem_filter.1 ht).2) (by
  rw[nil_append];exact List.Nodup.sublist ((filter_sublist).map _) (accL_nodup ts))
 rw[nil_append] at h2;exact h2
theorem keep_len {ts:List Tm} (h:Len8 ts):(keepL ts).length=(nf ts).length:=(nf_keep h).length_eq.symm
theorem nf_valid {ts:List Tm} {P:Mn->Prop} (h: ∀ t∈ts,P t.1): ∀ t∈nf ts,P t.1:=fun t ht=>by
 obtain⟨x,hx,he⟩:=nf_keys ht;rw[<-he];exact h x hx
theorem accF_none {a:List Tm} {m:Mn}:accF a m=none↔m∉a.map (·.1):=by
 unfold accF;rw[Option.map_eq_none_iff,List.find?_eq_none];constructor
 ·intro h hm;obtain⟨t,ht,he⟩:=mem_map.1 hm;exact h t ht (by simpa using he)
 ·intro h t ht he;exact h (mem_map.2 ⟨t,ht,by simpa using he⟩)
theorem accF_at {a:List Tm} {i:Nat} {t:Tm} (hn:(a.map (·.1)).Nodup) (hi:a[i]?=some t):accF a t.1=some t.2:=by
 induction a generalizing i with
 | nil=>simp at hi
 | cons u a ih=>
  unfold accF;rw[map_cons,List.nodup_cons] at hn;cases i with
  | zero=>
   simp at hi;subst hi;rw[List.find?_cons_of_pos (by simp)];rfl
  | succ i=>
   have hi':a[i]?=some t:=by simpa using hi
   have hne: ¬u.1=t.1:=fun he=>hn.1 (he ▸ mem_map.2 ⟨t,List.mem_of_getElem? hi',rfl⟩)
   rw[List.find?_cons_of_neg (by simpa using hne)];exact ih hn.2 hi'
theorem DM.split {D:Nat}: ∀ {a:List Tm} {t:Tm} {M:Nat},DM D (a++[t]) M-> ∃ M1,∃ z:Int,DM D a M1/\t.2=mkRat z D/\M1+z.natAbs<=M
 | [],t,M,⟨z,K,h1,h2,_⟩=>⟨0,z,tvq,h1,by omega⟩
 | u::a,t,M,⟨z,K,h1,h2,h3⟩=>by
  obtain⟨M1,w,g1,g2,g3⟩:=h3.split;exact⟨z.natAbs+M1,w,⟨z,M1,h1,by omega,g1⟩,g2,by omega⟩
theorem PB.snoc_bd {k:Nat} {a:List Tm} {t:Tm} (h:PB k (a++[t])) (hk:1<=k): ∀ u∈Go.Pl.nf a,Bd k (t.2+u.2):=fun u hu=>by
 obtain⟨D,M,h1,h2,h3,h4⟩:=h;obtain⟨M1,z,g1,g2,g3⟩:=h4.split;obtain⟨w,e1,e2⟩:=(g1.nf (by omega)).mem hu;rw[g2,e1,mkRat_sum (by omega)];exact bd_mkRat hk (by omega) h2
theorem gtM_raise: ∀ {a b:Mn} {v:Nat} (d:Int),v<a.length->a.length=b.length->gtM (a.set v (a.getD v 0+d)) (b.set v (b.getD v 0+d))=gtM a b
 | y::a,z::b,0,d,_,_=>by
  simp only[set_cons_zero,List.getD_cons_zero,gtM];by_cases h:y=z
  ·rw[if_pos h,if_pos (by omega)]
  ·rw[if_neg h,if_neg (by omega)];by_cases h2:y>z
   ·rw[qbb h2,qbb (by omega)]
   ·rw[qcb h2,qcb (by omega)]
 | y::a,z::b,v+1,d,h,hl=>by
  simp only[List.set_cons_succ,qk,gtM];simp only[length_cons] at h hl;rw[gtM_raise d (by omega) (by omega)]
 | [],_,_,_,h,_=>by simp at h
 | _::_,[],_,_,_,hl=>by simp at hl
theorem intCast_ne {x:Int} (h:x≠0):(x:Rat)≠0:=fun h2=>h (by exact_mod_cast h2)
theorem div_ne {q:Rat} {x:Int} (hq:q≠0) (hx:x≠0):q / (x:Rat)≠0:=fun h=>by
 have:=intCast_ne hx;apply hq;have h2:q / (x:Rat)*x=q:=by grind
 rw[h] at h2;grind
theorem cast_succ (x:Int):(x:Rat)+1=((x+1:Int):Rat):=by rw[Rat.intCast_add];rfl
theorem prim_canon {v:Nat} {p:List Tm} (hv:v<8) (hp:Canon p) (he: ∀ t∈p,0<=t.1.getD v 0):Canon (primL v p):=by
 refine⟨?_,?_,Len8.prim hp.len⟩
 ·unfold primL;rw[List.pairwise_map];refine(List.Pairwise.and_mem.1 hp.sorted).imp ?_;rintro a b ⟨ha,hb,h⟩;rw[gtM_raise 1 (by rw[hp.len a ha];exact hv) (by rw[hp.len a ha,hp.len b hb])];exact h
 ·intro t ht;obtain⟨u,hu,rfl⟩:=mem_map.1 ht;dsimp only;rw[cast_succ];exact div_ne (hp.nz u hu) (by have:=he u hu;omega)
theorem PB.terms {j n k:Nat} {p:List Tm} (hj:1<=j) (h: ∀ t∈p,Bd j t.2) (hn:p.length<=n) (hk:n*(j+1)+1<=k):PB k p:=
 (PB.list hj h).mono (qnb (Nat.succ_le_succ (qn _ hn)) hk)
theorem bd_int {x:Int} (h:x.natAbs<B):Bd 1 (x:Rat):=by
 refine⟨?_,?_⟩
 ·rw[Rat.num_intCast,Nat.pow_one];exact h
 ·rw[Rat.den_intCast];decide
theorem prim_bd {v j:Nat} {p:List Tm} (h: ∀ t∈p,Bd j t.2) (he: ∀ t∈p,0<=t.1.getD v 0/\t.1.getD v 0<=1000000): ∀ t∈primL v p,Bd (j+1) t.2:=fun t ht=>by
 obtain⟨u,hu,rfl⟩:=mem_map.1 ht;dsimp only;have h1:=he u hu;rw[cast_succ];exact Bd.div (h u hu) (bd_int (qmb (show _<=1000001 by omega) (by decide))) (intCast_ne (by omega)) (by omega)
theorem prim_len {v:Nat} {p:List Tm}:(primL v p).length=p.length:=by simp[primL]
end Go.Pl
namespace Go.Proofs.YtjjbkjgifdhlcaaGreat
open Go.AM Go.Pl
abbrev RT:=List Int×Raw
def monoF (m:List Int):List FV:=m.map (fun n=>FV.lit (.int .i64 n))
def tmF (t:RT):List FV:=monoF t.1++t.2.f
def tmC (t:RT):List PV:=mC t.1++t.2.c
def tq (t:RT):Tm:=(t.1,t.2.q)
def tn (t:Tm):RT:=(t.1,cn t.2)
theorem monoF_fv (m:List Int):(monoF m).map .fv=mC m:=by simp[monoF,mC]
theorem tmF_fv (t:RT):(tmF t).map .fv=tmC t:=by
 unfold tmF tmC;rw[qwb,monoF_fv];rfl
theorem monoF_length (m:List Int):(monoF m).length=m.length:=by simp[monoF]
theorem mC_length (m:List Int):(mC m).length=m.length:=by simp[mC]
theorem tmF_length {t:RT} (h:t.1.length=8):(tmF t).length=11:=by simp[tmF,monoF_length,h,Raw.f]
theorem tmC_length {t:RT} (h:t.1.length=8):(tmC t).length=11:=by simp[tmC,mC_length,h,Raw.c]
theorem fzs_mC (H:List Ob): ∀ m:List Int,fzs H (mC m)=some (monoF m)
 | []=>rfl
 | n::m=>by
  have:=fzs_mC H m;unfold mC monoF at this ⊢;simp only[map_cons,fzs,fz0,this]
theorem fzs_app (H:List Ob): ∀ (a b:List PV) (x y:List FV),fzs H a=some x->fzs H b=some y->fzs H (a++b)=some (x++y)
 | [],b,x,y,h1,h2=>by
  simp only[fzs,qo] at h1;subst h1;simpa using h2
 | c::a,b,x,y,h1,h2=>by
  simp only[fzs,List.cons_append] at h1 ⊢;split at h1
  ·rename_i u us h3 h4;cases h1;rw[h3,fzs_app H a b us y h4 h2];rfl
  ·cases h1
theorem fzs_tmC (H:List Ob) (t:RT):fzs H (tmC t)=some (tmF t):=fzs_app H _ _ _ _ (fzs_mC H t.1) rfl
theorem ids_mC (m:List Int):(mC m).flatMap ids0=[]:=by
 unfold mC
 induction m with
 | nil=>rfl
 | cons n m ih=>rw[map_cons,List.flatMap_cons,ih];rfl
theorem ids_tmC (t:RT):(tmC t).flatMap ids0=[]:=by
 unfold tmC;rw[List.flatMap_append,ids_mC];rfl
theorem mC_take {m:List Int} (h:m.length=8):List.take 8 (mC m)=mC m:=qdq (by rw[mC_length];omega)
theorem monoF_take {m:List Int} (h:m.length=8):List.take 8 (monoF m)=monoF m:=qdq (by rw[monoF_length];omega)
theorem tmC_take8 {t:RT} (h:t.1.length=8):List.take 8 (tmC t)=mC t.1:=by
 unfold tmC;rw[List.take_append_of_le_length (by rw[mC_length];omega),mC_take h]
theorem tmC_take11 {t:RT} (h:t.1.length=8):List.take 11 (tmC t)=tmC t:=qdq (by rw[tmC_length h];omega)
theorem tmF_take11 {t:RT} (h:t.1.length=8):List.take 11 (tmF t)=tmF t:=qdq (by rw[tmF_length h];omega)
theorem tmC_drop8 {t:RT} (h:t.1.length=8):List.drop 8 (tmC t)=t.2.c:=by
 unfold tmC;rw[drop_append_of_le_length (by rw[mC_length];omega),List.drop_of_length_le (by rw[mC_length];omega)];rfl
theorem tmF_drop8 {t:RT} (h:t.1.length=8):List.drop 8 (tmF t)=t.2.f:=by
 unfold tmF;rw[drop_append_of_le_length (by rw[monoF_length];omega),List.drop_of_length_le (by rw[monoF_length];omega)];rfl
theorem tmF_take8 {t:RT} (h:t.1.length=8):List.take 8 (tmF t)=monoF t.1:=by
 unfold tmF;rw[List.take_append_of_le_length (by rw[monoF_length];omega),monoF_take h]
theorem mC_at {m:List Int} {i:Nat} (h:i<m.length):List.take 1 (List.drop i (mC m))=[PV.int .i64 (m.getD i 0)]:=by
 unfold mC;rw[drop_eq_getElem_cons (by simpa using h),take_succ_cons,List.take_zero,List.getElem_map,qa,qb h];rfl
theorem tmC_at {t:RT} {i:Nat} (h:i<8) (hl:t.1.length=8):List.take 1 (List.drop i (tmC t))=[PV.int .i64 (t.1.getD i 0)]:=by
 have h1:=mC_at (m:=t.1) (i:=i) (by omega);unfold tmC;rw[drop_append_of_le_length (by rw[mC_length];omega),List.take_append_of_le_length (by rw[length_drop,mC_length];omega),h1]
theorem mC_put {m:List Int} {i:Nat} {x:Int} (h:i<m.length):List.take i (mC m)++[PV.int .i64 x]++List.drop (i+1) (mC m)=mC (m.set i x):=by
 unfold mC;rw[<-List.map_take,<-List.map_drop,List.set_eq_take_append_cons_drop,if_pos h];simp
theorem tmC_put {t:RT} {i:Nat} {x:Int} (h:i<8) (hl:t.1.length=8):List.take i (tmC t)++[PV.int .i64 x]++List.drop (i+1) (tmC t)=tmC (t.1.set i x,t.2):=by
 have h1:=mC_put (m:=t.1) (i:=i) (x:=x) (by omega);unfold tmC;rw[List.take_append_of_le_length (by rw[mC_length];omega),drop_append_of_le_length (by rw[mC_length];omega),<-qlb,h1]
theorem le_mC (ids:List Nat): ∀ m:List Int,le1s ids (mC m) (mC m)
 | []=>by simp[mC,le1s]
 | x::m=>by
  have:=le_mC ids m;unfold mC at this ⊢;simp[le1s,le1,this]
theorem le_app (ids:List Nat): ∀ (a b:List PV),le1s ids a a->le1s ids b b->le1s ids (a++b) (a++b)
 | [],_,_,h=>h
 | _::a,b,h1,h2=>⟨h1.1,le_app ids a b h1.2 h2⟩
theorem le_tmC (ids:List Nat) (t:RT):le1s ids (tmC t) (tmC t):=le_app ids _ _ (le_mC ids t.1) (by simp[Raw.c,le1s,le1])
theorem tmC_coef {t:RT} (h:t.1.length=8):List.take 3 (List.drop 8 (tmC t))=t.2.c:=by rw[tmC_drop8 h];rfl
theorem fzs_c (H:List Ob) (r:Raw):fzs H r.c=some r.f:=rfl
theorem f_fv (r:Raw):r.f.map .fv=r.c:=rfl
theorem ids_c (r:Raw):r.c.flatMap ids0=[]:=rfl
theorem c_reloc (f:Nat->Nat) (r:Raw):List.map (reloc1 f) r.c=r.c:=rfl
theorem c_take (r:Raw):List.take 3 r.c=r.c:=rfl
theorem tmC_putc {t:RT} {r:Raw} (h:t.1.length=8):List.take 8 (tmC t)++r.c++List.drop 11 (tmC t)=tmC (t.1,r):=by
 rw[tmC_take8 h,List.drop_of_length_le (by rw[tmC_length h];omega),append_nil];rfl
theorem f_length (r:Raw):r.f.length=3:=rfl
theorem f_take (r:Raw):List.take 3 r.f=r.f:=rfl
theorem le_c (ids:List Nat) (r:Raw):le1s ids r.c r.c:=by simp[Raw.c,le1s,le1]
theorem monoF_at {m:List Int} {i:Nat} (h:i<m.length):List.take 1 (List.drop i (monoF m))=[FV.lit (.int .i64 (m.getD i 0))]:=by
 unfold monoF;rw[drop_eq_getElem_cons (by simpa using h),take_succ_cons,List.take_zero,List.getElem_map,qa,qb h];rfl
theorem tmF_at {t:RT} {i:Nat} (h:i<8) (hl:t.1.length=8):List.take 1 (List.drop i (tmF t))=[FV.lit (.int .i64 (t.1.getD i 0))]:=by
 have h1:=monoF_at (m:=t.1) (i:=i) (by omega);unfold tmF;rw[drop_append_of_le_length (by rw[monoF_length];omega),List.take_append_of_le_length (by rw[length_drop,monoF_length];omega),h1]
theorem still_c (r:Raw):still (.agg r.c)=true:=rfl
theorem c_length (r:Raw):r.c.length=3:=rfl
def rowsT (ts:List RT):List (List FV):=ts.map tmF
def rowsM (ms:List (List Int)):List (List FV):=ms.map monoF
theorem rowsT_length (ts:List RT):(rowsT ts).length=ts.length:=by simp[rowsT]
theorem rowsM_length (ms:List (List Int)):(rowsM ms).length=ms.length:=by simp[rowsM]
def rt0:RT:=([],rz)
theorem rowsT_getD {ts:List RT} {i:Nat} (h:i<ts.length):(rowsT ts).getD i []=tmF (ts.getD i rt0):=by
 simp[rowsT,h]
theorem rowsM_getD {ms:List (List Int)} {i:Nat} (h:i<ms.length):(rowsM ms).getD i []=monoF (ms.getD i []):=by
 simp[rowsM,h]
theorem getD_memT {ts:List RT} {i:Nat} (h:i<ts.length):ts.getD i rt0∈ts:=by
 rw[qa,qb h];simp
theorem rowsT_snoc (ts:List RT) (t:RT):rowsT ts++[tmF t]=rowsT (ts++[t]):=by simp[rowsT]
theorem rowsM_snoc (ms:List (List Int)) (m:List Int):rowsM ms++[monoF m]=rowsM (ms++[m]):=by simp[rowsM]
theorem take_rowsT {ts:List RT} {n:Nat} (h:ts.length<=n):List.take n (rowsT ts)=rowsT ts:=qdq (by rw[rowsT_length];exact h)
theorem take_rowsM {ms:List (List Int)} {n:Nat} (h:ms.length<=n):List.take n (rowsM ms)=rowsM ms:=qdq (by rw[rowsM_length];exact h)
structure TOk (k:Nat) (t:RT):Prop where
 len:t.1.length=8
 rng: ∀ x∈t.1,-1000000000000<=x/\x<=1000000000000
 raw:t.2.Ok k
theorem TOk.mono {j k:Nat} {t:RT} (h:TOk j t) (hk:j<=k):TOk k t:=⟨h.len,h.rng,h.raw.mono hk⟩
def TsOk (k:Nat) (ts:List RT):Prop:= ∀ t∈ts,TOk k t
def validM (m:List Int):Bool:=m.all (fun d=>decide (0<=d)&&decide (d<=1024))
def validB (ts:List RT):Bool:=ts.all (fun t=>validM t.1)
abbrev PL (ts:List RT):PV:= .fv (.sl (rowsT ts))
set_option maxRecDepth 100000
set_option maxHeartbeats 2000000
theorem groups1 (m:List Int) (n:Nat) (h:m.length=n):groups 1 n (monoF m)=ints m:=by
 subst h
 induction m with
 | nil=>rfl
 | cons x m ih=>
  unfold monoF ints at ih ⊢;simp only[length_cons,map_cons,groups,take_succ_cons,List.take_zero,List.drop_succ_cons,List.drop_zero,ih]
theorem iq272 (x:Int):Den Tryz.prog 272 [] [.int .i64 x] [] (.bool false):=by
 have e:(x !=x)=false:=by simp
 refine den_of tabOk mixed Tryz.func272 (cd:=_) rfl (by decide) rfl (n:=5) rfl rfl (m:=0) rfl ?_;simp -dsimp(disch:=omega) only[replicate,e,↓reduceIte,ru];refine rpq rfl ⟨tvq,tvq⟩ rfl
theorem iq246 (x y:Int):Den Tryz.prog 246 [] [.int .i64 x,.int .i64 y] [] (.int .i64 (if x<y then -1 else if y<x then 1 else 0)):=by
 by_cases h1:x<y
 ·have e1:decide (x<y)=true:=qbb h1;rw[if_pos h1];refine den_of tabOk mixed Tryz.func246 (cd:=_) rfl (by decide) rfl (n:=18) rfl rfl (m:=0) rfl ?_;simp -dsimp(disch:=omega) only[replicate,rules];refine gp (iq272 x) rfl ?_;simp -dsimp(disch:=omega) only[rules];refine gp (iq272 y) rfl ?_;simp -dsimp(disch:=omega) only[e1,↓reduceIte,ru];refine rpq rfl ⟨tvq,tvq⟩ rfl
 ·have e1:decide (x<y)=false:=qcb h1;rw[if_neg h1];by_cases h2:y<x
  ·have e2:decide (x>y)=true:=qbb h2;rw[if_pos h2];refine den_of tabOk mixed Tryz.func246 (cd:=_) rfl (by decide) rfl (n:=18) rfl rfl (m:=0) rfl ?_;simp -dsimp(disch:=omega) only[replicate,rules];refine gp (iq272 x) rfl ?_;simp -dsimp(disch:=omega) only[rules];refine gp (iq272 y) rfl ?_;simp -dsimp(disch:=omega) only[e1,e2,↓reduceIte,ru];refine rpq rfl ⟨tvq,tvq⟩ rfl
  ·have e2:decide (x>y)=false:=qcb h2;rw[if_neg h2];refine den_of tabOk mixed Tryz.func246 (cd:=_) rfl (by decide) rfl (n:=18) rfl rfl (m:=0) rfl ?_;simp -dsimp(disch:=omega) only[replicate,rules];refine gp (iq272 x) rfl ?_;simp -dsimp(disch:=omega) only[rules];refine gp (iq272 y) rfl ?_;simp -dsimp(disch:=omega) only[e1,e2,↓reduceIte,ru];refine rpq rfl ⟨tvq,tvq⟩ rfl
theorem iq208 (a b:List Int) (n:Nat) (ha:a.length=n) (hb:b.length=n) (hn:n<1000):Den Tryz.prog 208 [] [.fv (.sl (ints a)),.fv (.sl (ints b))] [] (.int .i64 (cmpM a b)):=by
 have la:=ints_length a;have lb:=ints_length b;rw[ha] at la;rw[hb] at lb;refine den_of tabOk mixed Tryz.func208 (cd:=_) rfl (by decide) rfl (n:=34) rfl rfl (m:=0) rfl ?_;simp -dsimp(disch:=omega) only[replicate,la,ru];refine wl (α:=Nat) (fun i=>⟨[.fv (.sl (ints a)),.fv (.sl (ints b)),.any,.any,.any,.any,.any,.any,.any,.fv (.sl (ints a)),.int .i64 n,.int .i64 i]++replicate 24 .any,[]⟩) (fun i=>n - i) (fun i=>i<=n/\cmpM (a.drop i) (b.drop i)=cmpM a b) 0 ?_ ?_ ?_
 ·refine wk [] (by simp) rfl ?_ ?_
  ·simp[leVs,leV,le1]
  ·simp[leH]
 ·exact⟨qsq _,rfl⟩
 ·rintro i ⟨hi,hc⟩;simp -dsimp(disch:=omega) only[replicate,↓reduceIte,ru];refine bd_ ?_ ?_
  ·intro h1 h2;have ga:=ints_getD (xs:=a) (i:=i) (by omega);have gb:=ints_getD (xs:=b) (i:=i) (by omega);have hcd:=cmpM_drop (a:=a) (b:=b) (i:=i) (by omega) (by omega);obtain⟨x,hx⟩:=ex1 (a.getD i 0);obtain⟨y,hy⟩:=ex1 (b.getD i 0);rw[hx] at ga hcd;rw[hy] at gb hcd;have e1:decide ((i:Int)>=(n:Int))=false:=qcb (by omega);have hcmp:=iq246 x y;obtain⟨z,hz⟩: ∃ z:Int,(if x<y then(-1:Int) else if y<x then 1 else 0)=z:=⟨_,rfl⟩;rw[hz] at hcmp;simp -dsimp(disch:=omega) only[h2,la,lb,ga,gb,e1,↓reduceIte,reduceLT,reduceLeDiff,ru]
   repeat refine qy (by omega) ?_
   refine gp hcmp rfl ?_;simp -dsimp(disch:=omega) only[↓reduceIte,ru];refine Br.bneInt ?_ ?_
   ·intro h3 h4;have hzz:cmpM a b=z:=by
     rw[<-hc,hcd,<-hz];by_cases h5:x<y
     ·rw[if_pos h5,if_pos h5]
     ·rw[if_neg h5,if_neg h5];by_cases h6:y<x
      ·rw[if_pos h6,if_pos h6]
      ·rw[if_neg h5,if_neg h6] at hz;omega
    rw[hzz];simp -dsimp(disch:=omega) only[h4,ru];refine rpq rfl ⟨tvq,tvq⟩ rfl
   ·intro h3 h4;have h5: ¬x<y:=fun h=>by rw[if_pos h] at hz;omega
    have h6: ¬y<x:=fun h=>by rw[if_neg h5,if_pos h] at hz;omega
    rw[if_neg h5,if_neg h6] at hcd;simp -dsimp(disch:=omega) only[h4,↓reduceIte,ru];refine ap (i+1) (by omega) ?_ ⟨by omega,by rw[<-hcd,hc]⟩;refine wk [] (by simp) rfl ?_ ?_
    ·simp[leVs,leV,le1]
    ·simp[leH]
  ·intro h1 h2;have hz:cmpM a b=0:=by
    rw[<-hc,List.drop_of_length_le (by omega),List.drop_of_length_le (by omega)];rfl
   rw[hz];have e1:decide ((n:Int)<(n:Int))=false:=qcb (by omega);simp -dsimp(disch:=omega) only[h2,la,lb,e1,↓reduceIte,Nat.reduceBEq,ru];refine rpq rfl ⟨tvq,tvq⟩ rfl
theorem iq170 (s t:RT) (hs:s.1.length=8) (ht:t.1.length=8):Den Tryz.prog 170 [] [.agg [.bool true],.agg (tmC s),.agg (tmC t)] [] (.int .i64 (-(cmpM s.1 t.1))):=by
 have h1:=iq208 s.1 t.1 8 hs ht (by decide);have g1:=groups1 s.1 8 hs;have g2:=groups1 t.1 8 ht;have r:=cmpM_range s.1 t.1;obtain⟨z,hz⟩:=ex1 (cmpM s.1 t.1);rw[hz] at h1 r ⊢;have ls:=tmC_length hs;have lt:=tmC_length ht;have k1:=tmC_take8 hs;have k2:=tmC_take8 ht;have i1:List.take 8 (ints s.1)=ints s.1:=qdq (by rw[ints_length];omega);have i2:List.take 8 (ints t.1)=ints t.1:=qdq (by rw[ints_length];omega);have e0:(0:Int) - z= -z:=by omega
 refine den_of tabOk mixed Tryz.func170 (cd:=_) rfl (by decide) rfl (n:=15) rfl rfl (m:=0) rfl ?_;simp -dsimp(disch:=omega) only[replicate,ls,lt,reduceAdd,reduceLT,ru]
 repeat refine qy (by omega) ?_
 refine Draw.freeze [1,2] (by kernel_rfl) ?_;simp -dsimp(disch:=omega) only[k1,k2,fzs_mC,ids_mC,ls,lt,g1,g2,Option.isSome_none,imp_self,i1,i2,↓reduceIte,reduceMul,Nat.reduceSub,reduceLT,reduceLeDiff,ru]
 repeat refine qy (by omega) ?_
 refine gp h1 (by simp[fzAs,fzA,fz1,fz0]) ?_;simp -dsimp(disch:=omega) only[e0,↓reduceIte,reduceAdd,reduceLeDiff,ru]
 repeat refine qy (by omega) ?_
 refine rpq rfl ⟨tvq,tvq⟩ rfl
theorem sameR_self (r:Raw):sameR r r=true:=by simp[sameR]
theorem den21 (a b:List Raw) (ha:LOk 1000000000 a) (hb:LOk 1000000000 b):Den Tryz.prog 162 [] [RL a,RL b] [] (FL (addL a b)):=by
 have la:=ha.len;have lb:=hb.len;have fa:=flat_length a;have fb:=flat_length b;unfold FL RL;obtain⟨T,hT⟩:=ex1 ((addL a b).map cn);have lT:T.length=9:=by rw[<-hT,length_map];exact addL_length la lb
 have hTg: ∀ i,i<9->T.getD i rz=cn ((a.getD i rz).q+(b.getD i rz).q):=fun i hi=>by rw[<-hT];exact addL_getD (by omega) (by omega)
 obtain⟨Z,hZ⟩:=ex1 (replicate 9 rz);have lZ:Z.length=9:=by rw[<-hZ];rfl
 rw[hT];refine den_of tabOk mixed Tryz.func162 (cd:=_) rfl (by decide) rfl (n:=30) rfl rfl (m:=0) rfl ?_;simp -dsimp(disch:=omega) only[replicate,reduceAdd,reduceLT,ru]
 repeat refine qy (by omega) ?_
 refine wl (α:=Nat) (fun i=>⟨[.any,.any,.ptr 0 0 0,.ptr 1 0 0,.ptr 2 0 0,.ptr 2 0 0,.any,.any,.int .i64 i]++replicate 23 .any,[.box true (flat a),.box true (flat b),.box true (flat (tgt T i Z))]⟩)
  (fun i=>8 - i) (fun i=>i<=8) 0 ?_ ?_ ?_
 ·refine wk [0,1,2] (by simp) rfl ?_ ?_
  ·simp[leVs,leV,le1]
  ·rw[tgt_zero,<-hZ];simp[leH,leO,le1s,le1,le_flat,replicate,flat,rz,u32s]
 ·exact qsq _
 ·rintro i hi;have hol:=tgt_length (T:=T) (rest:=Z) i (by omega);have hof:=flat_length (tgt T i Z);have hat1:=flat_at (rs:=a) (i:=i) (by omega);have hat2:=flat_at (rs:=b) (i:=i) (by omega);have hst:=tgt_set (T:=T) (rest:=Z) (i:=i) (by omega) (by omega);rw[hTg i (by omega)] at hst;have hden:=den51 (a.getD i rz) (b.getD i rz) (ha.at i) (hb.at i);obtain⟨r,hr⟩:=ex1 (a.getD i rz);obtain⟨s,hs⟩: ∃ r,b.getD i rz=r:=⟨_,rfl⟩;rw[hr] at hat1 hst hden;rw[hs] at hat2 hst hden;have hset:=flat_set (rs:=tgt T i Z) (i:=i) (by omega) (decide ((r.q+s.q).num<0)) (limbs (r.q+s.q).num.natAbs) (limbs (r.q+s.q).den);have hcn:(⟨decide ((r.q+s.q).num<0),limbs (r.q+s.q).num.natAbs,limbs (r.q+s.q).den⟩:Raw)=cn (r.q+s.q):=rfl;rw[hcn,hst] at hset;rw[FR_eq,N_val,N_val] at hden;unfold Raw.v at hden;simp -dsimp(disch:=omega) only[replicate,↓reduceIte,ru];refine bd_ ?_ ?_
  ·intro h1 h2;simp -dsimp(disch:=omega) only[h2,rules];refine dw (by kernel_rfl) ?_;simp -dsimp(disch:=omega) only[hat1,hat2,↓reduceIte,reduceLT,ru]
   repeat refine qy (by omega) ?_
   refine gp hden rfl ?_;simp -dsimp(disch:=omega) only[append_nil,hset,↓reduceIte,reduceAdd,reduceLT,ru]
   repeat refine qy (by omega) ?_
   refine ap (i+1) (by omega) ?_ (by omega);refine wk [0,1,2] (by simp) rfl ?_ ?_
   ·simp[leVs,leV,le1]
   ·simp[leH,leO,le_flat]
  ·intro h1 h2;have hi8:i=8:=by omega
   subst hi8;rw[tgt_all (n:=8+1) lT lZ] at hset;simp only[reduceMul,reduceAdd] at hat1 hat2 hset;have h27:(flat T).length=27:=by rw[flat_length];omega
   have hd27:List.drop 27 (flat T)=[]:=List.drop_of_length_le (by omega);simp -dsimp(disch:=omega) only[h2,hat1,hat2,↓reduceIte,reduceAdd,Nat.reduceBEq,ru]
   repeat refine qy (by omega) ?_
   refine gp hden rfl ?_;simp -dsimp(disch:=omega) only[append_nil,hset,h27,flat_take27 lT,hd27,↓reduceIte,reduceAdd,reduceLT,reduceLeDiff,ru]
   repeat refine qy (by omega) ?_
   exact RetOK.form rfl rfl lT
theorem den74 (a b:List Raw) (ha:LOk 1000000000 a) (hb:LOk 1000000000 b):Den Tryz.prog 101 [] [RL a,RL b] [] (FL (addL a b)):=by
 have la:=ha.len;have lb:=hb.len;have fa:=flat_length a;have fb:=flat_length b;have h24:=den24 0 (by decide);rw[show((0:Int):Rat)=0 from rfl,FR_eq,N_val,N_val] at h24;unfold FL RL;obtain⟨T,hT⟩:=ex1 ((addL a b).map cn);have lT:T.length=9:=by rw[<-hT,length_map];exact addL_length la lb
 have hTg: ∀ i,i<9->T.getD i rz=cn ((a.getD i rz).q+(b.getD i rz).q):=fun i hi=>by rw[<-hT];exact addL_getD (by omega) (by omega)
 rw[hT];refine den_of tabOk mixed Tryz.func101 (cd:=_) rfl (by decide) rfl (n:=43) rfl rfl (m:=0) rfl ?_;simp -dsimp(disch:=omega) only[replicate,reduceAdd,reduceLT,ru]
 repeat refine qy (by omega) ?_
 refine wl (α:=Nat) (fun i=>⟨[.any,.any,.ptr 0 0 0,.ptr 1 0 0,.ptr 2 0 0,.int .i64 i]++replicate 39 .any,[.box true (flat (tgt T i a)),.box true (flat b),.box true (zcells 9)]⟩)
  (fun i=>8 - i) (fun i=>i<=8) 0 ?_ ?_ ?_
 ·refine wk [0,1,2] (by simp) rfl ?_ ?_
  ·simp[leVs,leV,le1]
  ·rw[tgt_zero];simp[leH,leO,le1s,le1,le_flat,zcells]
 ·exact qsq _
 ·rintro i hi;have hol:=tgt_length (T:=T) (rest:=a) i (by omega);have hof:=flat_length (tgt T i a);have hat1:=flat_at (rs:=tgt T i a) (i:=i) (by omega);rw[tgt_getD (by omega) (by omega) (qp _)] at hat1;have hat2:=flat_at (rs:=b) (i:=i) (by omega);have hst:=tgt_set (T:=T) (rest:=a) (i:=i) (by omega) (by omega);rw[hTg i (by omega)] at hst;have hden:=den31 (a.getD i rz) (b.getD i rz) (ha.at i) (hb.at i);obtain⟨r,hr⟩:=ex1 (a.getD i rz);obtain⟨s,hs⟩: ∃ r,b.getD i rz=r:=⟨_,rfl⟩;rw[hr] at hat1 hst hden;rw[hs] at hat2 hst hden;have h70a:=den70 r;have h70b:=den70 s;have hset:=flat_set (rs:=tgt T i a) (i:=i) (by omega) (decide ((r.q+s.q).num<0)) (limbs (r.q+s.q).num.natAbs) (limbs (r.q+s.q).den);have hcn:(⟨decide ((r.q+s.q).num<0),limbs (r.q+s.q).num.natAbs,limbs (r.q+s.q).den⟩:Raw)=cn (r.q+s.q):=rfl;rw[hcn,hst] at hset;rw[FR_eq,N_val,N_val] at hden;unfold Raw.v at hden h70a h70b
  simp -dsimp(disch:=omega) only[replicate,↓reduceIte,ru];refine bd_ ?_ ?_
  ·intro h1 h2;simp -dsimp(disch:=omega) only[h2,hat1,↓reduceIte,reduceLT,ru]
   repeat refine qy (by omega) ?_
   refine gp h70a rfl ?_;simp -dsimp(disch:=omega) only[append_nil,rules,reduceAdd];by_cases h3:(r.num.length:Int)=0
   ·have hb3:((r.num.length:Int)==0)=true:=by rw[beq_iff_eq];exact h3
    simp -dsimp(disch:=omega) only[hb3,hat2,↓reduceIte,reduceLT,ru]
    repeat refine qy (by omega) ?_
    refine gp h70b rfl ?_;by_cases h4:(s.num.length:Int)=0
    ·have hb4:((s.num.length:Int)==0)=true:=by rw[beq_iff_eq];exact h4
     have hsum:r.q+s.q=0:=by rw[none_q h3,none_q h4,Rat.add_zero]
     rw[hsum] at hset;simp -dsimp(disch:=omega) only[append_nil,hb4,↓reduceIte,reduceAdd,ru];refine gp h24 rfl ?_;simp -dsimp(disch:=omega) only[append_nil,hset,↓reduceIte,reduceAdd,reduceLT,ru]
     repeat refine qy (by omega) ?_
     refine ap (i+1) (by omega) ?_ (by omega);refine wk [0,1,2] (by simp) rfl ?_ ?_
     ·simp[leVs,leV,le1]
     ·simp[leH,leO,le1s,le1,le_flat,zcells]
    ·have hb4:((s.num.length:Int)==0)=false:=by rw[qx];exact h4
     simp -dsimp(disch:=omega) only[append_nil,hb4,↓reduceIte,reduceAdd,ru];refine dw (by kernel_rfl) ?_;simp -dsimp(disch:=omega) only[hat1,hat2,↓reduceIte,reduceLT,ru]
     repeat refine qy (by omega) ?_
     refine gp hden rfl ?_;simp -dsimp(disch:=omega) only[append_nil,hset,↓reduceIte,reduceAdd,reduceLT,ru]
     repeat refine qy (by omega) ?_
     refine ap (i+1) (by omega) ?_ (by omega);refine wk [0,1,2] (by simp) rfl ?_ ?_
     ·simp[leVs,leV,le1]
     ·simp[leH,leO,le1s,le1,le_flat,zcells]
   ·have hb3:((r.num.length:Int)==0)=false:=by rw[qx];exact h3
    simp -dsimp(disch:=omega) only[hb3,rules,↓reduceIte];refine dw (by kernel_rfl) ?_;simp -dsimp(disch:=omega) only[hat1,hat2,↓reduceIte,reduceLT,ru]
    repeat refine qy (by omega) ?_
    refine gp hden rfl ?_;simp -dsimp(disch:=omega) only[append_nil,hset,↓reduceIte,reduceAdd,reduceLT,ru]
    repeat refine qy (by omega) ?_
    refine ap (i+1) (by omega) ?_ (by omega);refine wk [0,1,2] (by simp) rfl ?_ ?_
    ·simp[leVs,leV,le1]
    ·simp[leH,leO,le1s,le1,le_flat,zcells]
  ·intro h1 h2;have hi8:i=8:=by omega
   subst hi8;rw[tgt_all (n:=8+1) lT la] at hset;simp only[reduceMul,reduceAdd] at hat1 hat2 hset;have h27:(flat T).length=27:=by rw[flat_length];omega
   simp -dsimp(disch:=omega) only[h2,hat1,hat2,↓reduceIte,reduceAdd,Nat.reduceBEq,ru]
   repeat refine qy (by omega) ?_
   refine gp hden rfl ?_;simp -dsimp(disch:=omega) only[hset,h27,flat_take27 lT,↓reduceIte,reduceAdd,reduceLT,reduceLeDiff,ru,zu]
   repeat refine qy (by omega) ?_
   exact RetOK.form rfl rfl lT
theorem den22 (a b:List Raw) (ha:LOk 1000000000 a) (hb:LOk 1000000000 b):Den Tryz.prog 201 [] [RL a,RL b] [] (.int .i64 (cmpR a b)):=by
 have la:=ha.len;have lb:=hb.len;have fa:=flat_length a;have fb:=flat_length b;unfold RL;refine den_of tabOk mixed Tryz.func201 (cd:=_) rfl (by decide) rfl (n:=26) rfl rfl (m:=0) rfl ?_;simp -dsimp(disch:=omega) only[replicate,reduceLT,ru]
 repeat refine qy (by omega) ?_
 refine wl (α:=Nat) (fun i=>⟨[.any,.any,.ptr 0 0 0,.ptr 1 0 0,.any,.any,.any,.int .i64 i]++replicate 20 .any,[.box true (flat a),.box true (flat b)]⟩)
  (fun i=>8 - i) (fun i=>i<=8/\cmpR (a.drop i) (b.drop i)=cmpR a b) 0 ?_ ?_ ?_
 ·refine wk [0,1] (by simp) rfl ?_ ?_
  ·simp[leVs,leV,le1]
  ·simp[leH,leO,le_flat]
 ·exact⟨qsq _,rfl⟩
 ·rintro i ⟨hi,hinv⟩;have hat1:=flat_at (rs:=a) (i:=i) (by omega);have hat2:=flat_at (rs:=b) (i:=i) (by omega);have hden:=den52 (a.getD i rz) (b.getD i rz) (ha.at i) (hb.at i);have hcd:=cmpR_drop (a:=a) (b:=b) (i:=i) (by omega) (by omega);have hcl:i=8->cmpR (a.drop i) (b.drop i)=sgq ((a.getD i rz).q - (b.getD i rz).q):=fun h=>cmpR_last (by omega) (by omega)
  obtain⟨r,hr⟩:=ex1 (a.getD i rz);obtain⟨s,hs⟩: ∃ r,b.getD i rz=r:=⟨_,rfl⟩;rw[hr] at hat1 hden hcd hcl;rw[hs] at hat2 hden hcd hcl;obtain⟨z,hz⟩:=ex1 (sgq (r.q - s.q));rw[hz] at hden hcd hcl;unfold Raw.v at hden;simp -dsimp(disch:=omega) only[replicate,↓reduceIte,ru];refine bd_ ?_ ?_
  ·intro h1 h2;simp -dsimp(disch:=omega) only[h2,rules];refine dw (by kernel_rfl) ?_;simp -dsimp(disch:=omega) only[hat1,hat2,↓reduceIte,reduceLT,ru]
   repeat refine qy (by omega) ?_
   refine gp hden rfl ?_;simp -dsimp(disch:=omega) only[append_nil,↓reduceIte,reduceAdd,ru];refine Br.bneInt ?_ ?_
   ·intro h3 h4;rw[if_neg h3] at hcd;rw[<-hinv,hcd];simp -dsimp(disch:=omega) only[h4,ru];refine rpq rfl ⟨tvq,tvq⟩ rfl
   ·intro h3 h4;rw[if_pos h3] at hcd;simp -dsimp(disch:=omega) only[h4,↓reduceIte,ru];refine ap (i+1) (by omega) ?_ ⟨by omega,by rw[<-hcd,hinv]⟩;refine wk [0,1] (by simp) rfl ?_ ?_
    ·simp[leVs,leV,le1]
    ·simp[leH,leO,le_flat]
  ·intro h1 h2;have hi8:i=8:=by omega
   have hfin:=hcl hi8;subst hi8;simp only[reduceMul] at hat1 hat2;rw[<-hinv,hfin];simp -dsimp(disch:=omega) only[h2,hat1,hat2,↓reduceIte,reduceAdd,Nat.reduceBEq,ru]
   repeat refine qy (by omega) ?_
   refine gp hden rfl ?_;simp -dsimp(disch:=omega) only[append_nil,reduceAdd,ru];refine rpq rfl ⟨tvq,tvq⟩ rfl
theorem constB_false {a:List Raw} {i:Nat} (ha:a.length=9) (hi:i<8) (h:(a.getD i rz).q≠0):constB a=false:=by
 unfold constB;rw[List.all_eq_false];refine⟨a.getD i rz,?_,fun h2=>h (of_decide_eq_true h2)⟩;rw[qa,qb (by omega)];exact mem_take_iff_getElem.2 ⟨i,by omega,rfl⟩
theorem constB_true {a:List Raw} (h: ∀ i,i<8->(a.getD i rz).q=0):constB a=true:=by
 unfold constB;rw[qob];intro r hr;obtain⟨i,hi,rfl⟩:=mem_take_iff_getElem.1 hr;have:=h i (by omega);rw[qa,qb (by omega)] at this;exact qbb this
theorem den25 (a:List Raw) (ha:LOk 1000000000 a):Den Tryz.prog 145 [] [RL a] [] (.bool (constB a)):=by
 have la:=ha.len;have fa:=flat_length a;have htk:List.take 24 (flat a)=flat (a.take 8):=flat_take 8 a;have f8:(flat (a.take 8)).length=24:=by rw[flat_length,length_take];omega
 unfold RL;refine den_of tabOk mixed Tryz.func145 (cd:=_) rfl (by decide) rfl (n:=13) rfl rfl (m:=0) rfl ?_;simp -dsimp(disch:=omega) only[replicate,htk,↓reduceIte,reduceLT,ru]
 repeat refine qy (by omega) ?_
 refine wl (α:=Nat) (fun i=>⟨[.any,.ptr 0 0 0,.any,.any,.any,.any,.agg (flat (a.take 8)),.int .i64 i]++replicate 6 .any,[.box true (flat a)]⟩)
  (fun i=>8 - i) (fun i=>i<=8/\ ∀ j,j<i->(a.getD j rz).q=0) 0 ?_ ?_ ?_
 ·refine wk [0] (by simp) rfl ?_ ?_
  ·simp[leVs,leV,le1,le_flat]
  ·simp[leH,leO,le_flat]
 ·exact⟨qsq _,fun j h=>by omega⟩
 ·rintro i ⟨hi,hinv⟩;simp -dsimp(disch:=omega) only[replicate,↓reduceIte,ru];refine bd_ ?_ ?_
  ·intro h1 h2;have hat:=flat_at (rs:=a.take 8) (i:=i) (by rw[length_take];omega);have hgd:(a.take 8).getD i rz=a.getD i rz:=by
    simp only[qa,List.getElem?_take];rw[if_pos (by omega)]
   rw[hgd] at hat;have hden:=den36 (a.getD i rz) ((ha.at i).mono (by decide));obtain⟨r,hr⟩:=ex1 (a.getD i rz);rw[hr] at hat hden;unfold Raw.v at hden;simp -dsimp(disch:=omega) only[append_nil,h2,hat,↓reduceIte,reduceAdd,reduceLT,reduceLeDiff,ru]
   repeat refine qy (by omega) ?_
   refine gp hden rfl ?_;simp -dsimp(disch:=omega) only[append_nil,↓reduceIte,reduceAdd,ru];refine Br.bneInt ?_ ?_
   ·intro h3 h4;rw[constB_false (i:=i) la (by omega) (by rw[hr];exact fun h=>h3 (sgq_eq_zero.2 h))];simp -dsimp(disch:=omega) only[h4,ru];refine rpq rfl ⟨tvq,tvq⟩ rfl
   ·intro h3 h4;simp -dsimp(disch:=omega) only[h4,↓reduceIte,ru];refine ap (i+1) (by omega) ?_ ⟨by omega,fun j hj=>?_⟩
    ·refine wk [0] (by simp) rfl ?_ ?_
     ·simp[leVs,leV,le1,le_flat]
     ·simp[leH,leO,le_flat]
    ·by_cases hji:j=i
     ·rw[hji,hr];exact sgq_eq_zero.1 h3
     ·exact hinv j (by omega)
  ·intro h1 h2;rw[constB_true (fun j hj=>hinv j (by omega))];simp -dsimp(disch:=omega) only[h2,Nat.reduceBEq,ru];refine rpq rfl ⟨tvq,tvq⟩ rfl
set_option maxHeartbeats 4000000
end Go.Proofs.YtjjbkjgifdhlcaaGreat
namespace Go.Pl
open Go.AM
theorem sgq_neg_iff {q:Rat}:sgq q<0↔q<0:=by
 have h:=sgq_lt (x:=q) (y:=0);have e:q - 0=q:=by grind
 rw[e] at h;exact h
theorem sgq_pos_iff {q:Rat}:0<sgq q↔0<q:=by
 have h:=sgq_gt (x:=q) (y:=0);have e:q - 0=q:=by grind
 rw[e] at h;exact h
theorem sgq_of_pos {q:Rat} (h:0<q):sgq q=1:=by
 have:=sgq_pos_iff.2 h;rcases sgq_range q with h1 | h1 | h1<;>omega
theorem sgq_of_neg {q:Rat} (h:q<0):sgq q= -1:=by
 have:=sgq_neg_iff.2 h;rcases sgq_range q with h1 | h1 | h1<;>omega
theorem set_getD {a:List Raw} {v i:Nat} (hi:i<a.length):(a.set v rz).getD i rz=if v=i then rz else a.getD i rz:=by
 simp only[qa,getElem?_set];split
 ·rename_i h;subst h;simp[hi]
 ·rfl
theorem map_cn_getD {a:List Raw} {i:Nat} (g:Raw->Rat) (hi:i<a.length):(((a.map g).map cn).getD i rz).q=g (a.getD i rz):=by
 have:((a.map g).map cn).getD i rz=cn (g (a.getD i rz)):=by simp[hi]
 rw[this,cn_q]
def co (a:List Raw) (i:Nat):Rat:=(a.getD i rz).q
def lv (a:List Raw) (x:Nat->Rat):Nat->Rat
 | 0=>co a 8
 | k+1=>lv a x k+co a k*x k
def lval (a:List Raw) (x:Nat->Rat):Rat:=lv a x 8
def Feas (cs:List (List Raw)):Prop:= ∃ x:Nat->Rat,∀ l∈cs,0<lval l x
def upd (x:Nat->Rat) (v:Nat) (t:Rat):Nat->Rat:=fun i=>if i=v then t else x i
theorem lv_upd {a:List Raw} {x:Nat->Rat} {v:Nat} {t:Rat}: ∀ k,lv a (upd x v t) k=lv a x k+(if v<k then co a v*(t - x v) else 0)
 | 0=>by unfold lv;rw[if_neg (by omega)];grind
 | k+1=>by
  unfold lv;rw[lv_upd k];by_cases h:v=k
  ·subst h;rw[if_neg (by omega),if_pos (by omega)];simp only[upd,if_pos];grind
  ·have h2:upd x v t k=x k:=if_neg (fun h3=>h h3.symm);rw[h2];by_cases h3:v<k
   ·rw[if_pos h3,if_pos (by omega)];grind
   ·rw[if_neg h3,if_neg (by omega)];grind
theorem lval_upd {a:List Raw} {x:Nat->Rat} {v:Nat} {t:Rat} (hv:v<8):lval a (upd x v t)=lval a x+co a v*(t - x v):=by
 unfold lval;rw[lv_upd,if_pos hv]
theorem lv_congr {a b:List Raw} {x:Nat->Rat} (h: ∀ i,i<9->co a i=co b i): ∀ k,k<=8->lv a x k=lv b x k
 | 0,_=>h 8 (by omega)
 | k+1,hk=>by unfold lv;rw[lv_congr h k (by omega),h k (by omega)]
theorem lv_lin {a b c:List Raw} {r s:Rat} {x:Nat->Rat} (h: ∀ i,i<9->co c i=r*co a i+s*co b i): ∀ k,k<=8->lv c x k=r*lv a x k+s*lv b x k
 | 0,_=>h 8 (by omega)
 | k+1,hk=>by unfold lv;rw[lv_lin h k (by omega),h k (by omega)];grind
theorem lval_lin {a b c:List Raw} {r s:Rat} {x:Nat->Rat} (h: ∀ i,i<9->co c i=r*co a i+s*co b i):lval c x=r*lval a x+s*lval b x:=lv_lin h 8 (by omega)
theorem max_of: ∀ L:List Rat,L≠[]-> ∃ m∈L,∀ l∈L,l<=m
 | [],h=>absurd rfl h
 | [a],_=>⟨a,by simp,fun l hl=>by simp at hl;subst hl;exact Rat.le_refl⟩
 | a::b::t,_=>by
  obtain⟨m,hm,h⟩:=max_of (b::t) (by simp);by_cases hc:a<=m
  ·exact⟨m,mem_cons_of_mem _ hm,fun l hl=>by
    rcases List.mem_cons.1 hl with h1 | h1
    ·rw[h1];exact hc
    ·exact h l h1⟩
  ·exact⟨a,by simp,fun l hl=>by
    rcases List.mem_cons.1 hl with h1 | h1
    ·rw[h1];exact Rat.le_refl
    ·have:=h l h1;grind⟩
theorem min_of: ∀ L:List Rat,L≠[]-> ∃ m∈L,∀ l∈L,m<=l
 | [],h=>absurd rfl h
 | [a],_=>⟨a,by simp,fun l hl=>by simp at hl;subst hl;exact Rat.le_refl⟩
 | a::b::t,_=>by
  obtain⟨m,hm,h⟩:=min_of (b::t) (by simp);by_cases hc:m<=a
  ·exact⟨m,mem_cons_of_mem _ hm,fun l hl=>by
    rcases List.mem_cons.1 hl with h1 | h1
    ·rw[h1];exact hc
    ·exact h l h1⟩
  ·exact⟨a,by simp,fun l hl=>by
    rcases List.mem_cons.1 hl with h1 | h1
    ·rw[h1];exact Rat.le_refl
    ·have:=h l h1;grind⟩
theorem between (L U:List Rat) (h: ∀ l∈L,∀ u∈U,l<u): ∃ m,(∀ l∈L,l<m)/\(∀ u∈U,m<u):=by
 by_cases hL:L=[]
 ·by_cases hU:U=[]
  ·subst hL;subst hU;exact⟨0,by simp,by simp⟩
  ·obtain⟨m,hm,hmin⟩:=min_of U hU;subst hL;exact⟨m - 1,by simp,fun u hu=>by have:=hmin u hu;grind⟩
 ·obtain⟨m,hm,hmax⟩:=max_of L hL;by_cases hU:U=[]
  ·subst hU;exact⟨m+1,fun l hl=>by have:=hmax l hl;grind,by simp⟩
  ·obtain⟨w,hw,hmin⟩:=min_of U hU;have hmw:=h m hm w hw;exact⟨(m+w) / 2,fun l hl=>by have:=hmax l hl;grind,fun u hu=>by have:=hmin u hu;grind⟩
def Bound (a:List Raw) (v:Nat) (b:List Raw):Prop:=co a v≠0/\ ∀ i,i<9->co b i=if v=i then 0 else co a i*(-1 / co a v)
theorem lv_bound {a b:List Raw} {v:Nat} {x:Nat->Rat} (hb:Bound a v b) (hv:v<8): ∀ k,k<=8->lv a x k=(if v<k then co a v*x v else 0) - co a v*lv b x k
 | 0,_=>by
  have h0:=hb.1;unfold lv;rw[hb.2 8 (by omega),if_neg (by omega),if_neg (by omega)];grind
 | k+1,hk=>by
  have h0:=hb.1;unfold lv;rw[lv_bound hb hv k (by omega),hb.2 k (by omega)];generalize lv b x k=z;by_cases h:v=k
  ·subst h;rw[if_neg (by omega),if_pos rfl,if_pos (by omega)];grind
  ·rw[if_neg h];by_cases h2:v<k
   ·rw[if_pos h2,if_pos (by omega)];grind
   ·rw[if_neg h2,if_neg (by omega)];grind
theorem lval_bound {a b:List Raw} {v:Nat} {x:Nat->Rat} (hb:Bound a v b) (hv:v<8):lval a x=co a v*(x v - lval b x):=by
 unfold lval;rw[lv_bound hb hv 8 (by omega),if_pos hv];grind
theorem bound_pos {a b:List Raw} {v:Nat} {x:Nat->Rat} (hb:Bound a v b) (hv:v<8) (h:0<co a v):0<lval a x↔lval b x<x v:=by
 rw[lval_bound hb hv];constructor
 ·intro h1;rcases Rat.not_le.1 (fun h2:x v<=lval b x=>by
   have h3:0<=lval b x - x v:=by grind
   have h4:=Rat.mul_nonneg (Rat.le_of_lt h) h3;grind) with h5
  exact h5
 ·intro h1;exact Rat.mul_pos h (by grind)
theorem bound_neg {a b:List Raw} {v:Nat} {x:Nat->Rat} (hb:Bound a v b) (hv:v<8) (h:co a v<0):0<lval a x↔x v<lval b x:=by
 rw[lval_bound hb hv];have hn:0< -co a v:=by grind
 constructor
 ·intro h1;rcases Rat.not_le.1 (fun h2:lval b x<=x v=>by
   have h3:0<=x v - lval b x:=by grind
   have h4:=Rat.mul_nonneg (Rat.le_of_lt hn) h3;grind) with h5
  exact h5
 ·intro h1;have h2:=Rat.mul_pos hn (show 0<lval b x - x v by grind);grind
def Left (cs:List (List Raw)) (v:Nat) (B:List Raw->List Raw) (x:Nat->Rat):Prop:=
 (∀ l∈cs,co l v=0->0<lval l x)/\ ∀ l∈cs,∀ u∈cs,0<co l v->co u v<0->lval (B l) x<lval (B u) x
theorem lval_keep {a:List Raw} {x:Nat->Rat} {v:Nat} {t:Rat} (hv:v<8) (h:co a v=0):lval a (upd x v t)=lval a x:=by
 rw[lval_upd hv,h];grind
theorem bound_var {a b:List Raw} {v:Nat} (hb:Bound a v b) (hv:v<8):co b v=0:=by
 rw[hb.2 v (by omega),if_pos rfl]
theorem left_of {cs:List (List Raw)} {v:Nat} {B:List Raw->List Raw} {x:Nat->Rat} (hv:v<8) (hB: ∀ l∈cs,co l v≠0->Bound l v (B l)) (h: ∀ l∈cs,0<lval l x):Left cs v B x:=by
 refine⟨fun l hl _=>h l hl,fun l hl u hu h1 h2=>?_⟩;have b1:=(bound_pos (hB l hl (by grind)) hv h1).1 (h l hl);have b2:=(bound_neg (hB u hu (by grind)) hv h2).1 (h u hu);grind
theorem of_left {cs:List (List Raw)} {v:Nat} {B:List Raw->List Raw} {x:Nat->Rat} (hv:v<8) (hB: ∀ l∈cs,co l v≠0->Bound l v (B l)) (h:Left cs v B x): ∃ t,∀ l∈cs,0<lval l (upd x v t):=by
 obtain⟨m,hL,hU⟩:=between ((cs.filter (fun l=>decide (0<co l v))).map (fun l=>lval (B l) x)) ((cs.filter (fun l=>decide (co l v<0))).map (fun l=>lval (B l) x)) (by
  intro p hp q hq;simp only[mem_map,mem_filter,decide_eq_true_eq] at hp hq;obtain⟨l,⟨hl,h1⟩,rfl⟩:=hp;obtain⟨u,⟨hu,h2⟩,rfl⟩:=hq;exact h.2 l hl u hu h1 h2)
 refine⟨m,fun l hl=>?_⟩;have hxv:upd x v m v=m:=if_pos rfl;by_cases h0:co l v=0
 ·rw[lval_keep hv h0];exact h.1 l hl h0
 ·have hb:=hB l hl h0;have hkeep:lval (B l) (upd x v m)=lval (B l) x:=lval_keep hv (bound_var hb hv);by_cases h1:0<co l v
  ·rw[bound_pos hb hv h1,hkeep,hxv];exact hL _ (mem_map.2 ⟨l,mem_filter.2 ⟨hl,qbb h1⟩,rfl⟩)
  ·have h2:co l v<0:=by grind
   rw[bound_neg hb hv h2,hkeep,hxv];exact hU _ (mem_map.2 ⟨l,mem_filter.2 ⟨hl,qbb h2⟩,rfl⟩)
structure Proj (cs:List (List Raw)) (v:Nat) (out:List (List Raw)):Prop where
 says: ∃ B:List Raw->List Raw,(∀ l∈cs,co l v≠0->Bound l v (B l))/\ ∀ x,(∀ o∈out,0<lval o x)↔Left cs v B x
theorem lv_const {a:List Raw} {x:Nat->Rat} (h: ∀ i,i<8->co a i=0): ∀ k,k<=8->lv a x k=co a 8
 | 0,_=>rfl
 | k+1,hk=>by unfold lv;rw[lv_const h k (by omega),h k (by omega)];grind
theorem lval_const {a:List Raw} {x:Nat->Rat} (h: ∀ i,i<8->co a i=0):lval a x=co a 8:=lv_const h 8 (by omega)
theorem lval_scale {a b:List Raw} {r:Rat} {x:Nat->Rat} (hr:0<r) (h: ∀ i,i<9->co b i=r*co a i):0<lval b x↔0<lval a x:=by
 have e:lval b x=r*lval a x+0*lval a x:=lval_lin (fun i hi=>by rw[h i hi];grind);have e2:lval b x=r*lval a x:=by rw[e];grind
 rw[e2];constructor
 ·intro h1;rcases Rat.not_le.1 (fun h2:lval a x<=0=>by
   have h3:=Rat.mul_nonneg (Rat.le_of_lt hr) (show 0<= -lval a x by grind);grind) with h4
  exact h4
 ·intro h1;exact Rat.mul_pos hr h1
theorem Proj.mk' {cs out:List (List Raw)} {v:Nat} (B:List Raw->List Raw) (hB: ∀ l∈cs,co l v≠0->Bound l v (B l))
 (h1: ∀ l∈cs,co l v=0-> ∃ o∈out,∀ i,i<9->co o i=co l i) (h2: ∀ l∈cs,∀ u∈cs,0<co l v->co u v<0-> ∃ o∈out,∀ i,i<9->co o i=co (B u) i - co (B l) i)
 (h3: ∀ o∈out,(∃ l∈cs,co l v=0/\ ∀ i,i<9->co o i=co l i)\/ ∃ l∈cs,∃ u∈cs,0<co l v/\co u v<0/\ ∀ i,i<9->co o i=co (B u) i - co (B l) i):Proj cs v out:=by
 refine⟨B,hB,fun x=>⟨fun h=>⟨fun l hl h0=>?_,fun l hl u hu hp hn=>?_⟩,fun h o ho=>?_⟩⟩
 ·obtain⟨o,ho,he⟩:=h1 l hl h0
  have e:lval o x=lval l x:=lv_congr he 8 (by omega)
  rw[<-e];exact h o ho
 ·obtain⟨o,ho,he⟩:=h2 l hl u hu hp hn
  have e:lval o x=1*lval (B u) x+(-1)*lval (B l) x:=lval_lin (fun i hi=>by rw[he i hi];grind)
  have:=h o ho
  grind
 ·rcases h3 o ho with⟨l,hl,h0,he⟩ | ⟨l,hl,u,hu,hp,hn,he⟩
  ·have e:lval o x=lval l x:=lv_congr he 8 (by omega)
   rw[e];exact h.1 l hl h0
  ·have e:lval o x=1*lval (B u) x+(-1)*lval (B l) x:=lval_lin (fun i hi=>by rw[he i hi];grind)
   have:=h.2 l hl u hu hp hn
   grind
theorem sorted_unique {α:Type} {lt:α->α->Prop} (asymm: ∀ a b,lt a b-> ¬lt b a): ∀ s t:List α,s.Pairwise lt->t.Pairwise lt->(∀ f,f∈s↔f∈t)->s=t
 | [],[],_,_,_=>rfl
 | [],b::t,_,_,h=>by have:=(h b).2 (by simp);simp at this
 | a::s,[],_,_,h=>by have:=(h a).1 (by simp);simp at this
 | a::s,b::t,hs,ht,h=>by
  have hs2:=pairwise_cons.1 hs;have ht2:=pairwise_cons.1 ht;have hab:a=b:=by
   rcases List.mem_cons.1 ((h a).1 (by simp)) with h1 | h1
   ·exact h1
   ·rcases List.mem_cons.1 ((h b).2 (by simp)) with h2 | h2
    ·exact h2.symm
    ·exact absurd (ht2.1 a h1) (asymm _ _ (hs2.1 b h2))
  subst hab;have hirr: ¬lt a a:=fun h1=>asymm _ _ h1 h1
  have hn1:a∉s:=fun h1=>hirr (hs2.1 a h1)
  have hn2:a∉t:=fun h1=>hirr (ht2.1 a h1)
  have hm: ∀ f,f∈s↔f∈t:=fun f=>by
   constructor
   ·intro h1;rcases List.mem_cons.1 ((h f).1 (mem_cons_of_mem _ h1)) with h2 | h2
    ·subst h2;exact absurd h1 hn1
    ·exact h2
   ·intro h1;rcases List.mem_cons.1 ((h f).2 (mem_cons_of_mem _ h1)) with h2 | h2
    ·subst h2;exact absurd h1 hn2
    ·exact h2
  rw[sorted_unique asymm s t hs2.2 ht2.2 hm]
def IsConst (a:List Raw):Prop:= ∀ i,i<8->co a i=0
def nrmR (a:List Raw):List Raw:=(nrm a).map cn
structure IsSys (cs s:List (List Raw)):Prop where
 sorted:s.Pairwise (fun a b=>cmpR a b<0)
 mem: ∀ f,f∈s↔ ∃ l∈cs,¬IsConst l/\f=nrmR l
theorem IsSys.unique {cs s t:List (List Raw)} (h1:IsSys cs s) (h2:IsSys cs t):s=t:=
 sorted_unique (lt:=fun a b=>cmpR a b<0) (fun a b h h'=>by rw[cmpR_swap] at h';omega) s t h1.sorted h2.sorted (fun f=>by rw[h1.mem,h2.mem])
def occ (cs:List (List Raw)) (v:Nat):Bool:=cs.any (fun l=>decide (co l v≠0))
def nvars (cs:List (List Raw)):Nat:=((List.range 8).filter (occ cs)).length
theorem occ_iff {cs:List (List Raw)} {v:Nat}:occ cs v=true↔ ∃ l∈cs,co l v≠0:=by
 unfold occ;rw[qpb];constructor
 ·rintro⟨l,hl,h⟩;exact⟨l,hl,of_decide_eq_true h⟩
 ·rintro⟨l,hl,h⟩;exact⟨l,hl,qbb h⟩
theorem filter_lt {p q:Nat->Bool}: ∀ {l:List Nat} {v:Nat},(∀ w∈l,q w=true->p w=true)->v∈l->p v=true->q v=false->(l.filter q).length<(l.filter p).length
 | [],v,_,hv,_,_=>by simp at hv
 | w::l,v,h,hv,hp,hq=>by
  have hle: ∀ l:List Nat,(∀ w∈l,q w=true->p w=true)->(l.filter q).length<=(l.filter p).length:=by
   intro l
   induction l with
   | nil=>intro _;simp
   | cons a l ih=>
    intro h;have ih:=ih (fun w hw=>h w (mem_cons_of_mem _ hw));cases hqa:q a with
    | true=>
     have hpa:=h a (by simp) hqa;simp[hqa,hpa];omega
    | false=>
     cases hpa:p a<;>simp[hqa,hpa]<;>omega
  have hl: ∀ w∈l,q w=true->p w=true:=fun w hw=>h w (mem_cons_of_mem _ hw)
  rcases List.mem_cons.1 hv with h1 | h1
  ·subst h1;have:=hle l hl;simp[hq,hp];omega
  ·have ih:=filter_lt hl h1 hp hq;cases hqa:q w with
   | true=>
    have hpa:=h w (by simp) hqa;simp[hqa,hpa];omega
   | false=>
    cases hpa:p w<;>simp[hqa,hpa]<;>omega
theorem nvars_lt {cs out:List (List Raw)} {v:Nat} (hv:v<8) (h: ∀ w,w<8->occ out w=true->occ cs w=true) (h1:occ cs v=true) (h2:occ out v=false):nvars out<nvars cs:=
 filter_lt (l:=List.range 8) (v:=v) (fun w hw=>h w (List.mem_range.1 hw)) (List.mem_range.2 hv) h1 h2
theorem nvars_pos {cs:List (List Raw)} {v:Nat} (hv:v<8) (h:occ cs v=true):0<nvars cs:=by
 unfold nvars;exact List.length_pos_iff.2 (fun h2=>by
  have:v∈(List.range 8).filter (occ cs):=mem_filter.2 ⟨List.mem_range.2 hv,h⟩;rw[h2] at this;simp at this)
theorem not_const {a:List Raw} (h: ¬IsConst a): ∃ v,v<8/\co a v≠0:=by
 rcases Classical.em (∃ v,v<8/\co a v≠0) with h1 | h1
 ·exact h1
 ·exfalso;apply h;intro i hi;rcases Classical.em (co a i=0) with h2 | h2
  ·exact h2
  ·exact absurd ⟨i,hi,h2⟩ h1
theorem lead_map2 {C:Rat} (hC:C≠0): ∀ {rs:List Raw},(leadL ((rs.map (fun r=>r.q / C)).map cn)).q=(leadL rs).q / C
 | []=>by simp only[List.map_nil,leadL];rw[rz_q'];grind
 | [c]=>by simp only[map_cons,List.map_nil,leadL,cn_q]
 | r::s::t=>by
  have ih:=lead_map2 hC (rs:=s::t);simp only[map_cons] at ih ⊢;simp only[leadL];rw[cn_q];by_cases h:r.q=0
  ·rw[if_pos h,if_pos (by rw[h];grind)];exact ih
  ·rw[if_neg h,if_neg (by grind),cn_q]
theorem absq_pos2 {c:Rat} (h:c≠0):0<absq c:=by
 have h1:c.num<0↔c<0:=num_neg_iff;unfold absq;split
 ·rename_i h2;have:=h1.1 h2;grind
 ·rename_i h2;have: ¬c<0:=fun h3=>h2 (h1.2 h3)
  grind
theorem absq_unit2 {c:Rat} (h:c≠0):absq (c / absq c)=1:=by
 have hp:=absq_pos2 h;have h1:(c / absq c).num<0↔c / absq c<0:=num_neg_iff;have h2:c.num<0↔c<0:=num_neg_iff;by_cases hc:c.num<0
 ·have e:absq c= -c:=if_pos hc;have hc2:=h2.1 hc;have e2:c / absq c= -1:=by rw[e];grind
  rw[e2];rfl
 ·have e:absq c=c:=if_neg hc;have e2:c / absq c=1:=by rw[e];grind
  rw[e2];rfl
theorem nrm_nrm2 {rs:List Raw} (_:rs.length=9):nrm ((nrm rs).map cn)=nrm rs:=by
 by_cases h:(leadL rs).q=0
 ·rw[nrm_zero h];apply nrm_zero;have hm:=leadL_mem (rs:=(replicate 9 (0:Rat)).map cn) (by simp);obtain⟨q,hq,he⟩:=mem_map.1 hm;rw[<-he,cn_q];exact List.eq_of_mem_replicate hq
 ·have h1:=nrm_of h;have hC:=absq_zero h;have h2:(leadL ((nrm rs).map cn)).q=(leadL rs).q / absq (leadL rs).q:=by rw[h1];exact lead_map2 hC
  have h3:(leadL ((nrm rs).map cn)).q≠0:=by rw[h2];grind
  rw[nrm_of h3,h2,absq_unit2 h,List.map_map];have h4:(fun r:Raw=>r.q / 1) ∘ cn=id:=by
   funext q;simp only[Function.comp,cn_q,id];grind
  rw[h4,List.map_id]
theorem co_mem {a:List Raw} {i:Nat} (h:i<a.length):a.getD i rz∈a:=by
 rw[qa,qb h];exact qqb h
theorem lead_ne {l:List Raw} (hl:l.length=9) (h: ¬IsConst l):(leadL l).q≠0:=fun h0=>h (fun i hi=>leadL_zero h0 _ (co_mem (by omega)))
theorem nrmR_len {l:List Raw} (hl:l.length=9):(nrmR l).length=9:=by
 unfold nrmR nrm;rw[length_map];split
 ·simp
 ·rw[length_map,hl]
theorem nrmR_at {l:List Raw} (hl:l.length=9) (h:(leadL l).q≠0) {i:Nat} (hi:i<9):co (nrmR l) i=co l i / absq (leadL l).q:=by
 unfold co nrmR;rw[nrm_of h];exact map_cn_getD (a:=l) (fun r=>r.q / absq (leadL l).q) (by omega)
theorem nrmR_pos {l:List Raw} (hl:l.length=9) (h: ¬IsConst l): ∃ r:Rat,0<r/\ ∀ i,i<9->co (nrmR l) i=r*co l i:=by
 have h0:=lead_ne hl h;have hp:=absq_pos2 h0;refine⟨1 / absq (leadL l).q,?_,fun i hi=>by rw[nrmR_at hl h0 hi];grind⟩;have:=Rat.inv_pos (a:=absq (leadL l).q) |>.2 hp;have e:1 / absq (leadL l).q=(absq (leadL l).q)⁻¹:=by grind
 rw[e];exact this
theorem nrmR_const {l:List Raw} (hl:l.length=9) (h: ¬IsConst l): ¬IsConst (nrmR l):=by
 obtain⟨r,hr,he⟩:=nrmR_pos hl h;intro h2;apply h;intro i hi;have h3:=h2 i hi;rw[he i (by omega)] at h3;rcases Rat.mul_eq_zero.1 h3 with h4 | h4
 ·rw[h4] at hr;exact absurd hr (Rat.lt_irrefl)
 ·exact h4
theorem nrmR_co {l:List Raw} (hl:l.length=9) (h: ¬IsConst l) {i:Nat} (hi:i<9):(co (nrmR l) i=0↔co l i=0):=by
 obtain⟨r,hr,he⟩:=nrmR_pos hl h;rw[he i hi];constructor
 ·intro h3;rcases Rat.mul_eq_zero.1 h3 with h4 | h4
  ·rw[h4] at hr;exact absurd hr (Rat.lt_irrefl)
  ·exact h4
 ·intro h3;rw[h3,Rat.mul_zero]
theorem nrmR_val {l:List Raw} (hl:l.length=9) (h: ¬IsConst l) {x:Nat->Rat}:0<lval (nrmR l) x↔0<lval l x:=by
 obtain⟨r,hr,he⟩:=nrmR_pos hl h;exact lval_scale hr he
theorem nrmR_idem {l:List Raw} (hl:l.length=9):nrmR (nrmR l)=nrmR l:=by
 unfold nrmR;rw[nrm_nrm2 hl]
theorem nrmR_ok {k:Nat} {l:List Raw} (h:LOk k l) (hk:1<=k):LOk (2*k) (nrmR l):=by
 refine LOk.of_map ?_ ?_
 ·have:=nrmR_len h.len;unfold nrmR at this;rwa [length_map] at this
 ·intro x hx;by_cases h0:(leadL l).q=0
  ·rw[nrm_zero h0] at hx;rw[List.eq_of_mem_replicate hx];exact Bd.zero (by omega)
  ·rw[nrm_of h0] at hx;simp only[mem_map] at hx;obtain⟨r,hr,rfl⟩:=hx;have hne:l≠[]:=fun h2=>by rw[h2] at hr;simp at hr
   have b1:=(h.ok _ hr).bd hk;have b2:=(h.ok _ (leadL_mem hne)).bd hk;have b3:Bd k (absq (leadL l).q):=by unfold absq;split;exact b2.neg;exact b2
   exact Bd.mono (b1.div b3 (absq_zero h0) (by omega)) (by omega)
def In (cs:List (List Raw)) (x:Nat->Rat):Prop:= ∀ l∈cs,0<lval l x\/(IsConst l/\lval l x=0)
def Pos (cs:List (List Raw)) (x:Nat->Rat):Prop:= ∀ l∈cs,0<lval l x
def Viol (cs:List (List Raw)):Prop:= ∃ l∈cs,IsConst l/\co l 8<0
theorem viol_in {cs:List (List Raw)} (h:Viol cs) (x:Nat->Rat): ¬In cs x:=by
 obtain⟨l,hl,hc,hn⟩:=h;intro hi;have e:lval l x=co l 8:=lval_const hc;rcases hi l hl with h1 | ⟨_,h1⟩<;>rw[e] at h1<;>grind
theorem sys_in {cs s:List (List Raw)} (h9: ∀ l∈cs,l.length=9) (h:IsSys cs s) (hv: ¬Viol cs) (x:Nat->Rat):In cs x↔Pos s x:=by
 constructor
 ·intro hi f hf;obtain⟨l,hl,hc,rfl⟩:=(h.mem f).1 hf;rw[nrmR_val (h9 l hl) hc];rcases hi l hl with h1 | ⟨h1,_⟩
  ·exact h1
  ·exact absurd h1 hc
 ·intro hp l hl;rcases Classical.em (IsConst l) with hc | hc
  ·have e:lval l x=co l 8:=lval_const hc;rw[e];by_cases h0:co l 8=0
   ·exact Or.inr ⟨hc,h0⟩
   ·left;have: ¬co l 8<0:=fun h1=>hv ⟨l,hl,hc,h1⟩
    grind
  ·left;rw[<-nrmR_val (h9 l hl) hc];exact hp _ ((h.mem _).2 ⟨l,hl,hc,rfl⟩)
structure SysF (k:Nat) (s:List (List Raw)):Prop where
 sorted:s.Pairwise (fun a b=>cmpR a b<0)
 ok: ∀ l∈s,LOk k l
 nc: ∀ l∈s,¬IsConst l
 nm: ∀ l∈s,nrmR l=l
theorem SysF.of {cs s:List (List Raw)} {k:Nat} (h9: ∀ l∈cs,l.length=9) (h:IsSys cs s) (hk: ∀ l∈cs,¬IsConst l->LOk k (nrmR l)):SysF k s:=by
 refine⟨h.sorted,fun f hf=>?_,fun f hf=>?_,fun f hf=>?_⟩<;>obtain⟨l,hl,hc,rfl⟩:=(h.mem f).1 hf
 ·exact hk l hl hc
 ·exact nrmR_const (h9 l hl) hc
 ·exact nrmR_idem (h9 l hl)
theorem SysF.self {k:Nat} {s:List (List Raw)} (h:SysF k s):IsSys s s:=⟨h.sorted,fun f=>⟨fun hf=>⟨f,hf,h.nc f hf,(h.nm f hf).symm⟩,fun⟨l,hl,_,he⟩=>by rw[he,h.nm l hl];exact hl⟩⟩
theorem sys_occ {cs s:List (List Raw)} (h9: ∀ l∈cs,l.length=9) (h:IsSys cs s) {w:Nat} (hw:w<8):occ s w=true↔occ cs w=true:=by
 rw[occ_iff,occ_iff];constructor
 ·rintro⟨f,hf,h0⟩;obtain⟨l,hl,hc,rfl⟩:=(h.mem f).1 hf;exact⟨l,hl,fun h1=>h0 ((nrmR_co (h9 l hl) hc (by omega)).2 h1)⟩
 ·rintro⟨l,hl,h0⟩;have hc: ¬IsConst l:=fun h1=>h0 (h1 w hw)
  exact⟨nrmR l,(h.mem _).2 ⟨l,hl,hc,rfl⟩,fun h1=>h0 ((nrmR_co (h9 l hl) hc (by omega)).1 h1)⟩
theorem constB_iff {a:List Raw} (ha:a.length=9):constB a=true↔IsConst a:=by
 unfold constB IsConst;rw[qob];constructor
 ·intro h i hi;refine of_decide_eq_true (h (a.getD i rz) ?_);rw[qa,qb (by omega)];exact mem_take_iff_getElem.2 ⟨i,by omega,rfl⟩
 ·intro h r hr;obtain⟨i,hi,rfl⟩:=mem_take_iff_getElem.1 hr;have:=h i (by omega);unfold co at this;rw[qa,qb (by omega)] at this;exact qbb this
def solR (v:Nat) (l:List Raw):List Raw:=((l.set v rz).map (fun r=>r.q*(-1 / (l.getD v rz).q))).map cn
def negR (l:List Raw):List Raw:=(l.map (fun r=>r.q*((-1:Int):Rat))).map cn
def comb (u l:List Raw):List Raw:=(addL u (negR l)).map cn
def lowL (s:List (List Raw)) (v:Nat):List (List Raw):=(s.filter (fun l=>decide (0<co l v))).map (solR v)
def highL (s:List (List Raw)) (v:Nat):List (List Raw):=(s.filter (fun l=>decide (co l v<0))).map (solR v)
def restL (s:List (List Raw)) (v:Nat):List (List Raw):=s.filter (fun l=>decide (co l v=0))
def outL (s:List (List Raw)) (v:Nat):List (List Raw):=restL s v++(highL s v).flatMap fun u=>(lowL s v).map fun l=>comb u l
def Bad (s:List (List Raw)) (v:Nat):Prop:= ∃ u∈highL s v,∃ l∈lowL s v,IsConst (comb u l)/\co (comb u l) 8<=0
theorem solR_len {v:Nat} {l:List Raw} (h:l.length=9):(solR v l).length=9:=by simp[solR,h]
theorem negR_len {l:List Raw} (h:l.length=9):(negR l).length=9:=by simp[negR,h]
theorem comb_len {u l:List Raw} (hu:u.length=9) (hl:l.length=9):(comb u l).length=9:=by
 unfold comb;rw[length_map,addL_length hu (negR_len hl)]
theorem solR_bound {v:Nat} {l:List Raw} (h:l.length=9) (h0:co l v≠0):Bound l v (solR v l):=by
 refine⟨h0,fun i hi=>?_⟩;unfold co solR;rw[map_cn_getD _ (by rw[qkb];omega),set_getD (by omega)];by_cases hv:v=i
 ·rw[if_pos hv,if_pos hv,rz_q'];grind
 ·rw[if_neg hv,if_neg hv]
theorem negR_at {l:List Raw} (h:l.length=9) {i:Nat} (hi:i<9):co (negR l) i= -co l i:=by
 unfold co negR;rw[map_cn_getD _ (by omega)];grind
theorem comb_at {u l:List Raw} (hu:u.length=9) (hl:l.length=9) {i:Nat} (hi:i<9):co (comb u l) i=co u i - co l i:=by
 have h1:=negR_at hl hi;unfold co at h1 ⊢;unfold comb;rw[addL_getD (by omega) (by rw[negR_len hl];omega),cn_q,h1];grind
theorem mem_low {s:List (List Raw)} {v:Nat} {b:List Raw}:b∈lowL s v↔ ∃ l∈s,0<co l v/\b=solR v l:=by
 unfold lowL;simp only[mem_map,mem_filter,decide_eq_true_eq];constructor
 ·rintro⟨l,⟨h1,h2⟩,rfl⟩;exact⟨l,h1,h2,rfl⟩
 ·rintro⟨l,h1,h2,rfl⟩;exact⟨l,⟨h1,h2⟩,rfl⟩
theorem mem_high {s:List (List Raw)} {v:Nat} {b:List Raw}:b∈highL s v↔ ∃ l∈s,co l v<0/\b=solR v l:=by
 unfold highL;simp only[mem_map,mem_filter,decide_eq_true_eq];constructor
 ·rintro⟨l,⟨h1,h2⟩,rfl⟩;exact⟨l,h1,h2,rfl⟩
 ·rintro⟨l,h1,h2,rfl⟩;exact⟨l,⟨h1,h2⟩,rfl⟩
theorem mem_rest {s:List (List Raw)} {v:Nat} {b:List Raw}:b∈restL s v↔b∈s/\co b v=0:=by
 unfold restL;simp only[mem_filter,decide_eq_true_eq]
theorem mem_out {s:List (List Raw)} {v:Nat} {o:List Raw}:o∈outL s v↔(o∈s/\co o v=0)\/ ∃ l∈s,∃ u∈s,0<co l v/\co u v<0/\o=comb (solR v u) (solR v l):=by
 unfold outL;rw[qr,mem_rest,List.mem_flatMap];constructor
 ·rintro(h | ⟨u,hu,h⟩)
  ·exact Or.inl h
  ·right;obtain⟨l,hl,rfl⟩:=mem_map.1 h;obtain⟨u',h1,h2,rfl⟩:=mem_high.1 hu;obtain⟨l',h3,h4,rfl⟩:=mem_low.1 hl;exact⟨l',h3,u',h1,h4,h2,rfl⟩
 ·rintro(h | ⟨l,hl,u,hu,h1,h2,rfl⟩)
  ·exact Or.inl h
  ·exact Or.inr ⟨_,mem_high.2 ⟨u,hu,h2,rfl⟩,mem_map.2 ⟨_,mem_low.2 ⟨l,hl,h1,rfl⟩,rfl⟩⟩
theorem out_len {s:List (List Raw)} {v:Nat} (h9: ∀ l∈s,l.length=9): ∀ o∈outL s v,o.length=9:=by
 intro o ho;rcases mem_out.1 ho with⟨h,_⟩ | ⟨l,hl,u,hu,_,_,rfl⟩
 ·exact h9 o h
 ·exact comb_len (solR_len (h9 u hu)) (solR_len (h9 l hl))
theorem out_proj {s:List (List Raw)} {v:Nat} (h9: ∀ l∈s,l.length=9):Proj s v (outL s v):=by
 refine Proj.mk' (solR v) (fun l hl h0=>solR_bound (h9 l hl) h0) (fun l hl h0=>⟨l,mem_out.2 (Or.inl ⟨hl,h0⟩),fun _ _=>rfl⟩)
  (fun l hl u hu h1 h2=>⟨_,mem_out.2 (Or.inr ⟨l,hl,u,hu,h1,h2,rfl⟩),fun i hi=>comb_at (solR_len (h9 u hu)) (solR_len (h9 l hl)) hi⟩) (fun o ho=>?_)
 rcases mem_out.1 ho with⟨h,h0⟩ | ⟨l,hl,u,hu,h1,h2,rfl⟩
 ·exact Or.inl ⟨o,h,h0,fun _ _=>rfl⟩
 ·exact Or.inr ⟨l,hl,u,hu,h1,h2,fun i hi=>comb_at (solR_len (h9 u hu)) (solR_len (h9 l hl)) hi⟩
theorem out_var {s:List (List Raw)} {v:Nat} (hv:v<8) (h9: ∀ l∈s,l.length=9): ∀ o∈outL s v,co o v=0:=by
 intro o ho;rcases mem_out.1 ho with⟨_,h⟩ | ⟨l,hl,u,hu,h1,h2,rfl⟩
 ·exact h
 ·rw[comb_at (solR_len (h9 u hu)) (solR_len (h9 l hl)) (by omega),bound_var (solR_bound (h9 u hu) (by grind)) hv,bound_var (solR_bound (h9 l hl) (by grind)) hv];grind
theorem out_occ {s:List (List Raw)} {v w:Nat} (hw:w<8) (h9: ∀ l∈s,l.length=9) (h:occ (outL s v) w=true):occ s w=true:=by
 rw[occ_iff] at h ⊢;obtain⟨o,ho,h0⟩:=h;rcases mem_out.1 ho with⟨h,_⟩ | ⟨l,hl,u,hu,h1,h2,rfl⟩
 ·exact⟨o,h,h0⟩
 ·rw[comb_at (solR_len (h9 u hu)) (solR_len (h9 l hl)) (by omega)] at h0;have e1:=(solR_bound (h9 u hu) (v:=v) (by grind)).2 w (by omega);have e2:=(solR_bound (h9 l hl) (v:=v) (by grind)).2 w (by omega);by_cases c1:co u w=0
  ·by_cases c2:co l w=0
   ·exfalso;apply h0;rw[e1,e2,c1,c2];split<;>grind
   ·exact⟨l,hl,c2⟩
  ·exact⟨u,hu,c1⟩
theorem sys_pos {k:Nat} {s s':List (List Raw)} {v:Nat} (hs:SysF k s) (hb: ¬Bad s v) (h:IsSys (outL s v) s') (x:Nat->Rat):Pos s' x↔Pos (outL s v) x:=by
 have h9: ∀ l∈s,l.length=9:=fun l hl=>(hs.ok l hl).len
 have hcon: ∀ o∈outL s v,IsConst o->0<co o 8:=by
  intro o ho hc;rcases mem_out.1 ho with⟨h1,_⟩ | ⟨l,hl,u,hu,h1,h2,rfl⟩
  ·exact absurd hc (hs.nc o h1)
  ·rcases Rat.not_le.1 (fun h3:co (comb (solR v u) (solR v l)) 8<=0=>hb ⟨_,mem_high.2 ⟨u,hu,h2,rfl⟩,_,mem_low.2 ⟨l,hl,h1,rfl⟩,hc,h3⟩) with h4
   exact h4
 have hv: ¬Viol (outL s v):=fun⟨o,ho,hc,hn⟩=>by have:=hcon o ho hc;grind
 rw[<-sys_in (out_len h9) h hv x];constructor
 ·intro hi o ho;rcases hi o ho with h1 | ⟨h1,h2⟩
  ·exact h1
  ·have e:lval o x=co o 8:=lval_const h1;have:=hcon o ho h1;grind
 ·intro hp o ho;exact Or.inl (hp o ho)
theorem pos_keep {s:List (List Raw)} {v:Nat} (hv:v<8) (h: ∀ o∈s,co o v=0) (x:Nat->Rat) (t:Rat):Pos s (upd x v t)↔Pos s x:=by
 constructor<;>intro hp o ho<;>have:=hp o ho
 ·rwa [lval_keep hv (h o ho)] at this
 ·rwa [lval_keep hv (h o ho)]
theorem step_pos {k:Nat} {s s':List (List Raw)} {v:Nat} (hv:v<8) (hs:SysF k s) (hb: ¬Bad s v) (h:IsSys (outL s v) s') (x:Nat->Rat):Pos s' x↔ ∃ t,Pos s (upd x v t):=by
 have h9: ∀ l∈s,l.length=9:=fun l hl=>(hs.ok l hl).len
 rw[sys_pos hs hb h x];obtain⟨B,hB,hsay⟩:=(out_proj (v:=v) h9).says;constructor
 ·intro hp;exact of_left hv hB ((hsay x).1 hp)
 ·rintro⟨t,ht⟩;rw[<-pos_keep hv (out_var hv h9) x t];exact(hsay _).2 (left_of hv hB ht)
theorem bad_pos {k:Nat} {s:List (List Raw)} {v:Nat} (hv:v<8) (hs:SysF k s) (hb:Bad s v) (x:Nat->Rat): ¬Pos s x:=by
 intro hp;have h9: ∀ l∈s,l.length=9:=fun l hl=>(hs.ok l hl).len
 obtain⟨B,hB,hsay⟩:=(out_proj (v:=v) h9).says;have ho:=(hsay x).2 (left_of hv hB hp);obtain⟨u,hu,l,hl,hc,hn⟩:=hb;have hm:comb u l∈outL s v:=List.mem_append.2 (Or.inr (List.mem_flatMap.2 ⟨u,hu,mem_map.2 ⟨l,hl,rfl⟩⟩));have h1:=ho _ hm;have e:lval (comb u l) x=co (comb u l) 8:=lval_const hc;grind
theorem filter_all {α:Type} {p:α->Bool}: ∀ {l:List α},(∀ a∈l,p a=true)->l.filter p=l
 | [],_=>rfl
 | a::l,h=>by rw[List.filter_cons_of_pos (h a (by simp)),filter_all (fun b hb=>h b (mem_cons_of_mem _ hb))]
theorem filter_none {α:Type} {p:α->Bool}: ∀ {l:List α},(∀ a∈l,p a=false)->l.filter p=[]
 | [],_=>rfl
 | a::l,h=>by rw[filter_cons_of_neg (by rw[h a (by simp)];simp),filter_none (fun b hb=>h b (mem_cons_of_mem _ hb))]
theorem occ_false {s:List (List Raw)} {v:Nat} (h:occ s v=false): ∀ l∈s,co l v=0:=by
 intro l hl;rcases Classical.em (co l v=0) with h1 | h1
 ·exact h1
 ·have:=occ_iff.2 ⟨l,hl,h1⟩;rw[h] at this;simp at this
theorem out_same {s:List (List Raw)} {v:Nat} (h:occ s v=false):outL s v=s/\lowL s v=[]/\highL s v=[]:=by
 have h0:=occ_false h;have e1:lowL s v=[]:=by unfold lowL;rw[filter_none (fun l hl=>by rw[h0 l hl];decide)];rfl
 have e2:highL s v=[]:=by unfold highL;rw[filter_none (fun l hl=>by rw[h0 l hl];decide)];rfl
 refine⟨?_,e1,e2⟩;unfold outL;rw[e2,List.flatMap_nil,append_nil];unfold restL;exact filter_all (fun l hl=>by rw[h0 l hl];decide)
theorem solR_bd {k v:Nat} {l:List Raw} (h:LOk k l) (hk:1<=k) (h0:co l v≠0): ∀ r∈solR v l,Bd (2*k+1) r.q:=by
 intro r hr;unfold solR at hr;simp only[List.map_map,mem_map,Function.comp] at hr;obtain⟨a,ha,rfl⟩:=hr;rw[cn_q];have b1:Bd k a.q:=by
  rcases List.mem_or_eq_of_mem_set ha with h1 | h1
  ·exact(h.ok _ h1).bd hk
  ·rw[h1,rz_q'];exact Bd.zero hk
 have b2:Bd k (l.getD v rz).q:=(h.at v).bd hk;have b0:Bd 1 ((-1:Rat)):=⟨by decide,by decide⟩;exact Bd.mono (b1.mul (b0.div b2 h0 (by omega)) (by omega)) (by omega)
theorem negR_bd {k:Nat} {l:List Raw} (h: ∀ r∈l,Bd k r.q): ∀ r∈negR l,Bd (k+1) r.q:=by
 intro r hr;unfold negR at hr;simp only[List.map_map,mem_map,Function.comp] at hr;obtain⟨a,ha,rfl⟩:=hr;rw[cn_q];have b0:Bd 1 (((-1:Int):Rat)):=⟨by decide,by decide⟩;exact(h a ha).mul b0 (by omega)
theorem solR_ok {k v:Nat} {l:List Raw} (h:LOk k l) (hk:1<=k) (h0:co l v≠0):LOk (2*k+1) (solR v l):=by
 refine LOk.of_map (by rw[length_map,qkb];exact h.len) (fun q hq=>?_);have:=solR_bd h hk h0 (cn q) (by unfold solR;exact mem_map.2 ⟨q,hq,rfl⟩);rwa [cn_q] at this
theorem negR_ok {k:Nat} {l:List Raw} (h:LOk k l) (hk:1<=k):LOk (k+1) (negR l):=by
 refine LOk.of_map (by rw[length_map];exact h.len) (fun q hq=>?_);have:=negR_bd (h.bd hk) (cn q) (by unfold negR;exact mem_map.2 ⟨q,hq,rfl⟩);rwa [cn_q] at this
theorem comb_ok {k:Nat} {u l:List Raw} (hu:LOk k u) (hl:LOk k l) (hk:1<=k):LOk (2*k+2) (comb u l):=
 LOk.of_map (addL_length hu.len (negR_len hl.len)) (fun q hq=>Bd.mono (addL_bd (hu.bd hk) (negR_bd (hl.bd hk)) (by omega) q hq) (by omega))
theorem low_ok {k v:Nat} {s:List (List Raw)} (h: ∀ l∈s,LOk k l) (hk:1<=k): ∀ b∈lowL s v,LOk (2*k+1) b:=by
 intro b hb;obtain⟨l,hl,h0,rfl⟩:=mem_low.1 hb;exact solR_ok (h l hl) hk (by grind)
theorem high_ok {k v:Nat} {s:List (List Raw)} (h: ∀ l∈s,LOk k l) (hk:1<=k): ∀ b∈highL s v,LOk (2*k+1) b:=by
 intro b hb;obtain⟨l,hl,h0,rfl⟩:=mem_high.1 hb;exact solR_ok (h l hl) hk (by grind)
theorem out_ok {k v:Nat} {s:List (List Raw)} (h: ∀ l∈s,LOk k l) (hk:1<=k): ∀ o∈outL s v,LOk (4*k+4) o:=by
 intro o ho;unfold outL at ho;rcases List.mem_append.1 ho with h1 | h1
 ·exact(h o (mem_rest.1 h1).1).mono (by omega)
 ·obtain⟨u,hu,h2⟩:=List.mem_flatMap.1 h1;obtain⟨l,hl,rfl⟩:=mem_map.1 h2;exact(comb_ok (high_ok h hk u hu) (low_ok h hk l hl) (by omega)).mono (by omega)
theorem nodup_length {α:Type}: ∀ (s L:List α),s.Pairwise (fun a b=>a≠b)->(∀ f∈s,f∈L)->s.length<=L.length
 | [],_,_,_=>qsq _
 | a::s,L,hp,h=>by
  have h2:=pairwise_cons.1 hp;obtain⟨L1,L2,rfl⟩:=List.append_of_mem (h a (by simp));have ih:=nodup_length s (L1++L2) h2.2 (fun f hf=>by
   have h3:=h f (mem_cons_of_mem _ hf);rw[qr,qhb] at h3;rw[qr];rcases h3 with h3 | h3 | h3
   ·exact Or.inl h3
   ·exact absurd h3.symm (h2.1 f hf)
   ·exact Or.inr h3)
  simp only[qe,length_cons] at ih ⊢;omega
def ncs (cs:List (List Raw)):List (List Raw):=cs.filter (fun l=>!constB l)
theorem mem_ncs {cs:List (List Raw)} (h9: ∀ l∈cs,l.length=9) {l:List Raw}:l∈ncs cs↔l∈cs/\ ¬IsConst l:=by
 unfold ncs;rw[mem_filter];constructor
 ·rintro⟨h1,h2⟩;exact⟨h1,fun h3=>by rw[(constB_iff (h9 l h1)).2 h3] at h2;simp at h2⟩
 ·rintro⟨h1,h2⟩;refine⟨h1,?_⟩;cases h:constB l with
  | false=>rfl
  | true=>exact absurd ((constB_iff (h9 l h1)).1 h) h2
theorem sys_length {cs s:List (List Raw)} (h9: ∀ l∈cs,l.length=9) (h:IsSys cs s):s.length<=(ncs cs).length:=by
 have:=nodup_length s ((ncs cs).map nrmR) (h.sorted.imp (fun hab he=>by subst he;have:=cmpR_swap (by assumption) (by assumption);omega)) (fun f hf=>by
  obtain⟨l,hl,hc,rfl⟩:=(h.mem f).1 hf;exact mem_map.2 ⟨l,(mem_ncs h9).2 ⟨hl,hc⟩,rfl⟩)
 rwa [length_map] at this
structure Sz (k:Nat) (s:List (List Raw)):Prop where
 n3:nvars s<=3
 c3:nvars s=3->s.length<=5/\k<=14
 c2:nvars s=2->s.length<=7/\k<=120
 c1:nvars s=1->s.length<=12/\k<=1000
theorem occ_pos {s:List (List Raw)} {l:List Raw} (hl:l∈s) (hc: ¬IsConst l):0<nvars s:=by
 obtain⟨v,hv,h0⟩:=not_const hc;exact nvars_pos hv (occ_iff.2 ⟨l,hl,h0⟩)
theorem Sz.all {k:Nat} {s:List (List Raw)} (h:Sz k s) (hp:0<nvars s):s.length<=12/\k<=1000:=by
 have h1:=h.n3;have h2:=h.c3;have h3:=h.c2;have h4:=h.c1;have:nvars s=1\/nvars s=2\/nvars s=3:=by omega
 rcases this with h5 | h5 | h5
 ·exact h4 h5
 ·have:=h3 h5;omega
 ·have:=h2 h5;omega
theorem Sz.len {k:Nat} {s:List (List Raw)} (h:Sz k s) (hs:SysF k s):s.length<=12:=by
 cases s with
 | nil=>exact qsq _
 | cons l t=>exact(h.all (occ_pos (List.mem_cons_self ..) (hs.nc l (by simp)))).1
theorem Sz.lim {k:Nat} {s:List (List Raw)} (h:Sz k s) (hs:SysF k s): ∀ l∈s,LOk 1000 l:=fun l hl=>(hs.ok l hl).mono (h.all (occ_pos hl (hs.nc l hl))).2
theorem split_length (s:List (List Raw)) (v:Nat):(restL s v).length+(lowL s v).length+(highL s v).length=s.length:=by
 unfold restL lowL highL;rw[length_map,length_map]
 induction s with
 | nil=>rfl
 | cons l t ih=>
  rcases Classical.em (co l v=0) with h | h
  ·rw[List.filter_cons_of_pos (by simp[h]),filter_cons_of_neg (by rw[h];decide),filter_cons_of_neg (by rw[h];decide)];simp only[length_cons];omega
  ·rw[filter_cons_of_neg (by simp[h])];rcases Classical.em (0<co l v) with h1 | h1
   ·rw[List.filter_cons_of_pos (by simp[h1]),filter_cons_of_neg (by simp;grind)];simp only[length_cons];omega
   ·rw[filter_cons_of_neg (by simp[h1]),List.filter_cons_of_pos (by simp;grind)];simp only[length_cons];omega
theorem flat_length' {α β:Type} (f:α->β->β): ∀ (H:List α) (L:List β),(H.flatMap fun u=>L.map fun l=>f u l).length=H.length*L.length
 | [],L=>by simp
 | u::H,L=>by
  rw[List.flatMap_cons,qe,length_map,flat_length' f H L,length_cons,Nat.add_mul];omega
theorem out_length (s:List (List Raw)) (v:Nat):(outL s v).length=(restL s v).length+(highL s v).length*(lowL s v).length:=by
 unfold outL;rw[qe,flat_length' (fun u l=>comb u l)]
theorem arith7 {p q r:Nat} (h:r+p+q<=7):r+q*p<=12:=by
 have:p=0\/p=1\/p=2\/p=3\/p=4\/p=5\/p=6\/p=7:=by omega
 rcases this with h1 | h1 | h1 | h1 | h1 | h1 | h1 | h1<;>subst h1<;>omega
theorem arith5 {p q r:Nat} (h:r+p+q<=5):r+q*p<=7:=by
 have:p=0\/p=1\/p=2\/p=3\/p=4\/p=5:=by omega
 rcases this with h1 | h1 | h1 | h1 | h1 | h1<;>subst h1<;>omega
theorem arith12 {p q r:Nat} (h:r+p+q<=12):r+q*p<=100:=by
 have h1:q*p<=12*p:=qn _ (by omega);have h2:p=0\/p=1\/p=2\/p=3\/p=4\/p=5\/p=6\/p=7\/p=8\/p=9\/p=10\/p=11\/p=12:=by omega
 rcases h2 with h1 | h1 | h1 | h1 | h1 | h1 | h1 | h1 | h1 | h1 | h1 | h1 | h1<;>subst h1<;>omega
theorem occ_out {k:Nat} {s:List (List Raw)} {v:Nat} (hv:v<8) (hs:SysF k s):occ (outL s v) v=false:=by
 cases h:occ (outL s v) v with
 | false=>rfl
 | true=>
  obtain⟨o,ho,h0⟩:=occ_iff.1 h;exact absurd (out_var hv (fun l hl=>(hs.ok l hl).len) o ho) h0
theorem nvars_out {k:Nat} {s:List (List Raw)} {v:Nat} (hv:v<8) (hs:SysF k s) (h:occ s v=true):nvars (outL s v)<nvars s:=
 nvars_lt hv (fun _ hw h2=>out_occ hw (fun l hl=>(hs.ok l hl).len) h2) h (occ_out hv hs)
theorem step_ok {k:Nat} {s s':List (List Raw)} {v:Nat} (hk:1<=k) (hs:SysF k s) (hi:IsSys (outL s v) s'):SysF (8*k+8) s':=
 SysF.of (out_len (fun l hl=>(hs.ok l hl).len)) hi (fun o ho hc=>(nrmR_ok (out_ok hs.ok hk o ho) (by omega)).mono (by omega))
theorem nvars_le {s t:List (List Raw)} (h: ∀ w,w<8->occ s w=true->occ t w=true):nvars s<=nvars t:=by
 unfold nvars;have key: ∀ l:List Nat,(∀ w∈l,w<8)->(l.filter (occ s)).length<=(l.filter (occ t)).length:=by
  intro l
  induction l with
  | nil=>intro _;simp
  | cons w l ih=>
   intro hl;have ih2:=ih (fun u hu=>hl u (mem_cons_of_mem _ hu));cases h1:occ s w with
   | false=>
    rw[filter_cons_of_neg (by rw[h1];simp)];have:(l.filter (occ t)).length<=((w::l).filter (occ t)).length:=by
     cases h2:occ t w with
     | false=>rw[filter_cons_of_neg (by rw[h2];simp)];exact qp _
     | true=>rw[List.filter_cons_of_pos h2,length_cons];omega
    omega
   | true=>
    rw[List.filter_cons_of_pos h1,List.filter_cons_of_pos (h w (hl w (by simp)) h1),length_cons,length_cons];omega
 exact key _ (fun w hw=>List.mem_range.1 hw)
theorem sys_nvars {cs s:List (List Raw)} (h9: ∀ l∈cs,l.length=9) (h:IsSys cs s):nvars s=nvars cs:=
 Nat.le_antisymm (nvars_le (fun _ hw h1=>(sys_occ h9 h hw).1 h1)) (nvars_le (fun _ hw h1=>(sys_occ h9 h hw).2 h1))
end Go.Pl
