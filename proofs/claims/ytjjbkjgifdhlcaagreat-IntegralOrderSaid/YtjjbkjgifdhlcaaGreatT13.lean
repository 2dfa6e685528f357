/- The road from a contract to a law's statement:a list of numbers that came in. -/
import Derived.Test.YtjjbkjgifdhlcaaGreatRows
import Derived.Test.YtjjbkjgifdhlcaaGreatT12
import Derived.ProofKit
import Derived.Below
import Derived.Test.YtjjbkjgifdhlcaaGreatT1
set_option linter.all false
open Nat (reduceAdd reduceMul)
open List (any_eq_true append_nil drop_append_of_le_length drop_eq_getElem_cons filter_cons_of_neg filter_sublist foldl_cons getElem?_set length_cons length_map length_take map_cons mem_cons_of_mem mem_filter mem_map mem_take_iff_getElem nil_append nodup_append pairwise_cons replicate set_cons_zero take_succ_cons)
namespace Go.Proofs.YtjjbkjgifdhlcaaGreat
open Go.ChangeShapes Go.WideShapes Go.ChangeAt Go.RowKit
theorem Tryz.own:ownKnob Tryz.prog.godebug=none:=by kernel_rfl
theorem Tryz.laidOut:laidOutB Tryz.prog=true:=by kernel_rfl
theorem Tryz.cells3:Tryz.prog.cellsOf 3=1:=by kernel_rfl
theorem Eo {w:World} {a:Addr} {v:Value} (h:w.cell? a=some v):a.block<w.heap.size:=by
 unfold World.cell? at h;split at h
 .rename_i hb;exact(Array.getElem?_eq_some_iff.1 hb).1
 cases h
set_option maxRecDepth 100000 in
theorem LQ {W:World} {base:Nat} {v0:Value} {H:Type} {enc:TypeId×Value->H} {fuel:Nat} {ai4:Bool} {x:DataW H×List MemPlace} (bE:Value.okWide Tryz.prog W .any base 22 v0)
 (hf:DataW.trod enc Tryz.prog W 0 (fun _=>true) ai4 fuel 22 v0.cells.toList=some x):
 ∃ l:List Int,W64 l/\l.length<9223372036854775808/\Go.AM.FRd W (fun _=>False) v0 (.sl (ints l)):=by
 obtain⟨a0,len,cap,rfl⟩:=okWide_slice Tryz.underlying22 bE
 rcases open_ints Tryz.underlying22 Tryz.underlying3 Tryz.cells3 hf with⟨eI,hx⟩ | ⟨a,len',cap',zs,eI,_,hl,hm,hz,hx,hcell,hwz⟩
 .simp[Value.cells] at eI
  obtain⟨rfl,rfl,rfl⟩:=eI
  exact⟨[],fun x h=>by simp at h,by simp,.nil⟩
 simp[Value.cells] at eI
 obtain⟨rfl,rfl,rfl⟩:=eI
 simp only[if_true] at hz
 obtain⟨b,off,spot⟩:=a
 have aex:spot=none:=by
  simp only[Value.okWide,Tryz.underlying22,Cell.okWide,Cell.ok] at bE;exact bE.2.2.2.1
 subst aex
 unfold maxLen at hm
 refine⟨zs.take len,fun x h=>?_,?_,?_⟩
 .have h1:=hwz x (Cg h)
  simp[Lit.wf,IntKind.min,IntKind.max,IntKind.signed,IntKind.bits] at h1
  omega
 .rw[length_take];omega
 refine .sl ⟨b,off,none⟩ len cap 1 (ints (zs.take len)) (fun i _=> .int .i64 (zs.getD i 0)) ?_ hl ?_ rfl (fun _ h=>h) (fun h=>?_) (fun i j x y hx hy=>?_) (fun i j x y hx hy=>?_)
 .rw[cg,length_take];omega
 .intro x hx
  simp only[ints,mem_map] at hx
  obtain⟨n,_,rfl⟩:=hx
  rfl
 .exact Eo (hcell 0 (by omega))
 .have hi:i<(ints (zs.take len)).length:=(List.getElem?_eq_some_iff.1 hx).1
  rw[cg,length_take] at hi
  have U2:x=[Go.AM.FV.lit (.int .i64 ((zs.take len).getD i 0))]:=by
   have:=hx;simp only[ints,List.getElem?_map] at this;rw[qb (by rw[length_take];omega)] at this;simp at this;rw[<-this];simp[show i<len by omega,show i<zs.length by omega]
  subst U2
  have hj:j=0:=by
   have:=(List.getElem?_eq_some_iff.1 hy).1;simp at this;exact this
  subst hj
  have h7:=hcell i (by omega)
  have h8:(⟨b,off,none⟩:Addr).add i=⟨b,off+(i*1+0),none⟩:=by
   unfold Addr.add;split
   .rename_i h9;subst h9;simp
   simp
  rw[h8] at h7
  exact h7
 have hi:i<(ints (zs.take len)).length:=(List.getElem?_eq_some_iff.1 hx).1
 rw[cg,length_take] at hi
 have U2:x=[Go.AM.FV.lit (.int .i64 (zs.getD i 0))]:=by
  have:=hx;simp only[ints,List.getElem?_map] at this;rw[qb (by rw[length_take];omega)] at this;simp at this;rw[<-this];simp[show i<zs.length by omega]
 subst U2
 have hj:j=0:=by
  have:=(List.getElem?_eq_some_iff.1 hy).1;simp at this;exact this
 subst hj
 simp at hy
 subst hy
 exact .lit _ rfl
theorem S4 {k:FuncId} {l:List Int} {W:World} {v0:Value} (hr:Go.AM.FRd W (fun _=>False) v0 (.sl (ints l))) (hd:Go.AM.Den Tryz.prog k [] [.fv (.sl (ints l))] [] (.bool true)):
 Calls Tryz.prog k #[v0] W fun e W'=>e= .returned (.bool true)/\Below W.heap.size W W':=by
 refine(hd.2 ⟨W,fun _=>False,fun _=>False,[],fun _ h=>h.elim⟩ (fun _=>False) [] #[v0] ⟨rfl,fun id p o h _=>by simp at h,fun i j p q o r g h _=>by simp at h,fun id p o g h _=>by simp at h,fun b h=>h.elim,fun b h=>h.elim,qp _,Go.AM.Places.Le.refl _⟩ (fun b h=>h.elim) ⟨rfl,fun i v x hv hx=>?_⟩).mono fun e W' ⟨v,X',ρ',he,hk,hh,hp,_,_⟩=>?_
 .cases i with
  | zero=>simp at hv hx;subst hv;subst hx;exact .fv _ _ hr
  | succ i=>simp at hv
 subst he
 have hv:v= .bool true:=by
  cases hp with
  | fv _ _ h=>cases h with
   | lit=>rfl
 subst hv
 exact⟨rfl,hk.os,hk.tape,hk.output,hk.size,fun k h=>hk.block k h (fun h=>h)⟩
end Go.Proofs.YtjjbkjgifdhlcaaGreat
namespace Go.Pl
open Go.AM
def DW (T:List Raw) (i:Nat) (rest:List Raw):List Raw:=T.take i++rest.drop i
theorem xp {T rest:List Raw} (i:Nat) (h:T.length=rest.length):(DW T i rest).length=rest.length:=by
 unfold DW;rw[qe,length_take,qt];omega
theorem Ep (T rest:List Raw):DW T 0 rest=rest:=by simp[DW]
theorem J0 {T rest:List Raw} {n:Nat} (h:T.length=n) (h2:rest.length=n):DW T n rest=T:=by
 subst h;unfold DW;rw[List.take_length,List.drop_of_length_le (by omega),append_nil]
theorem O1 {T rest:List Raw} {i j:Nat} (h:T.length=rest.length) (hj:j<rest.length) (hi:i<=j):(DW T i rest).getD j rz=rest.getD j rz:=by
 unfold DW;rw[qa,qh (by rw[length_take];omega),List.getElem?_drop,qa];congr 2;rw[length_take];omega
theorem J1 {T rest:List Raw} {i:Nat} (h:T.length=rest.length) (hi:i<rest.length):(DW T i rest).set i (T.getD i rz)=DW T (i+1) rest:=by
 unfold DW;rw[List.set_append_right _ _ (by rw[length_take];omega)];have e:i - (T.take i).length=0:=by rw[length_take];omega
 have hT:i<T.length:=by omega
 have h3:T.take (i+1)=T.take i++[T[i]]:=List.take_succ_eq_append_getElem hT;rw[e,drop_eq_getElem_cons hi,set_cons_zero,h3];have h4:T.getD i rz=T[i]:=by rw[qa,qb hT];rfl
 rw[h4,qlb];rfl
def m6 (a b:List Raw):List Rat:=List.zipWith (fun r s=>r.q+s.q) a b
theorem fT {a b:List Raw} {n:Nat} (ha:a.length=n) (hb:b.length=n):(m6 a b).length=n:=by simp[m6,ha,hb]
theorem pX {a b:List Raw} {i:Nat} (ha:i<a.length) (hb:i<b.length):((m6 a b).map cn).getD i rz=cn ((a.getD i rz).q+(b.getD i rz).q):=by
 simp[m6,qa,List.getElem?_zipWith,ha,hb]
theorem Cw {a b:List Raw} {j k:Nat} (ha: ∀ r∈a,Bd j r.q) (hb: ∀ r∈b,Bd k r.q) (hk:1<=j+k): ∀ x∈m6 a b,Bd (j+k+1) x:=by
 intro x hx;unfold m6 at hx;obtain⟨i,hi,rfl⟩:=List.getElem_of_mem hx;rw[List.getElem_zipWith];exact(ha _ (kj _)).add (hb _ (kj _)) hk
theorem LOk.of_map {k:Nat} {qs:List Rat} (hl:qs.length=9) (h: ∀ q∈qs,Bd k q):LOk k (qs.map cn):=
 ⟨by simp[hl],fun r hr=>by
  simp only[mem_map] at hr;obtain⟨q,hq,rfl⟩:=hr;exact bD (h q hq)⟩
theorem LOk.bd {k:Nat} {rs:List Raw} (h:LOk k rs) (hk:1<=k): ∀ r∈rs,Bd k r.q:=fun r hr=>(h.ok r hr).bd hk
def bS:List Raw->List Raw->Int
 | r::a,s::b=>if gk (r.q - s.q)=0 then bS a b else gk (r.q - s.q)
 | _,_=>0
theorem A4 {a:List Raw} {i:Nat} (h:i<a.length):a.drop i=a.getD i rz::a.drop (i+1):=by
 rw[drop_eq_getElem_cons h,qa,qb h];rfl
theorem A5 {a b:List Raw} {i:Nat} (ha:i<a.length) (hb:i<b.length):bS (a.drop i) (b.drop i)=
 if gk ((a.getD i rz).q - (b.getD i rz).q)=0 then bS (a.drop (i+1)) (b.drop (i+1)) else gk ((a.getD i rz).q - (b.getD i rz).q):=by
 rw[A4 ha,A4 hb];rfl
theorem LR {a b:List Raw} {i:Nat} (ha:i+1=a.length) (hb:i+1=b.length):bS (a.drop i) (b.drop i)=gk ((a.getD i rz).q - (b.getD i rz).q):=by
 rw[A5 (by omega) (by omega),List.drop_of_length_le (i:=i+1) (by omega)];split
 .rename_i h;rw[h];rfl
 rfl
theorem eS {q:Rat}:q.num<0↔q<0:=by
 have h:=Rat.num_nonneg (q:=q);have h2:=@Rat.not_le 0 q;constructor
 .intro h3;exact h2.1 (fun h4=>by have:=h.2 h4;omega)
 intro h3;have h4:=h2.2 h3;have h5: ¬(0<=q.num):=fun h6=>h4 (h.1 h6)
 omega
theorem uy {x y:Rat}:gk (x - y)<0↔x<y:=by
 unfold gk;rw[Int.sign_neg_iff,eS];constructor<;>intro h<;>grind
theorem O2 {x y:Rat}:0<gk (x - y)↔y<x:=by
 have h1:gk (x - y)<0↔x<y:=uy;have h2:gk (x - y)=0↔x=y:=by
  rw[bm];constructor<;>intro h<;>grind
 constructor
 .intro h;have h3: ¬x<y:=fun h4=>by have:=h1.2 h4;omega
  have h4:x≠y:=fun h5=>by have:=h2.2 h5;omega
  grind
 intro h;have h3: ¬gk (x - y)<0:=fun h4=>by have:=h1.1 h4;grind
 have h4:gk (x - y)≠0:=fun h5=>by have:=h2.1 h5;grind
 omega
theorem uA {x y:Rat}:gk (x - y)=0↔x=y:=by
 rw[bm];constructor<;>intro h<;>grind
theorem ke (q:Rat):gk q= -1\/gk q=0\/gk q=1:=by
 unfold gk;rcases Int.lt_trichotomy q.num 0 with h | h | h
 .exact Or.inl (Int.sign_eq_neg_one_of_neg h)
 .exact Or.inr (Or.inl (by rw[h];rfl))
 exact Or.inr (Or.inr (Int.sign_eq_one_of_pos h))
theorem O3 (x y:Rat):gk (x - y)= -gk (y - x):=by
 have h1:=ke (x - y);have h2:=ke (y - x);have h3:=uy (x:=x) (y:=y);have h4:=O2 (x:=y) (y:=x);have h5:=uA (x:=x) (y:=y);have h6:=uA (x:=y) (y:=x);by_cases h:x=y
 .rw[h5.2 h,h6.2 h.symm];rfl
 have h7:=fun h9=>h (h5.1 h9)
 have h8:=fun h9=>h (h6.1 h9).symm
 by_cases hl:x<y
 .have:=h3.2 hl;have:=h4.2 hl;omega
 have g1: ¬gk (x - y)<0:=fun h9=>hl (h3.1 h9)
 have g2: ¬0<gk (y - x):=fun h9=>hl (h4.1 h9)
 have g3: ¬gk (x - y)=0:=h7;have g4: ¬gk (y - x)=0:=h8;omega
theorem HD: ∀ a b:List Raw,bS a b= -1\/bS a b=0\/bS a b=1
 | r::a,s::b=>by
  unfold bS;split
  .exact HD a b
  .exact ke _
 | [],_=>Or.inr (Or.inl (by simp[bS]))
 | _::_,[]=>Or.inr (Or.inl (by simp[bS]))
theorem dI: ∀ a b:List Raw,bS a b= -bS b a
 | r::a,s::b=>by
  unfold bS;rw[O3 r.q s.q,dI a b];by_cases h:gk (s.q - r.q)=0
  .rw[if_pos h,if_pos (by omega)]
  .rw[if_neg h,if_neg (by omega)]
 | [],b=>by cases b<;>simp[bS]
 | _::_,[]=>by simp[bS]
theorem m7: ∀ a b c:List Raw,a.length=b.length->b.length=c.length->bS a b<=0->bS b c<=0->bS a c<=0
 | r::a,s::b,t::c,h1,h2,h3,h4=>by
  have h1':a.length=b.length:=by simpa using h1
  have h2':b.length=c.length:=by simpa using h2
  unfold bS at h3 h4 ⊢;have e1:=uA (x:=r.q) (y:=s.q);have e2:=uA (x:=s.q) (y:=t.q);have e3:=uA (x:=r.q) (y:=t.q);have l1:=uy (x:=r.q) (y:=s.q);have l2:=uy (x:=s.q) (y:=t.q);have l3:=uy (x:=r.q) (y:=t.q);by_cases a1:gk (r.q - s.q)=0
  .rw[if_pos a1] at h3;have q1:=e1.1 a1;by_cases a2:gk (s.q - t.q)=0
   .rw[if_pos a2] at h4;rw[if_pos (e3.2 (q1.trans (e2.1 a2)))];exact m7 a b c h1' h2' h3 h4
   rw[if_neg a2] at h4;rw[if_neg (fun h=>a2 (by rw[<-q1];exact h)),q1];exact h4
  .rw[if_neg a1] at h3;have q1:=l1.1 (by omega);by_cases a2:gk (s.q - t.q)=0
   .have q2:=e2.1 a2;rw[<-q2,if_neg a1];exact h3
   .rw[if_neg a2] at h4;have q2:=l2.1 (by omega);have q3:=l3.2 (by grind);rw[if_neg (by omega)];omega
 | [],_,c,_,_,_,_=>by cases c<;>simp[bS]
 | _::_,_,[],_,_,_,_=>by simp[bS]
 | _::_,[],_::_,h,_,_,_=>by simp at h
theorem A6: ∀ a c:List Raw,a.length=c.length->(bS a c=0↔a.map Raw.q=c.map Raw.q)
 | r::a,t::c,h=>by
  have h':a.length=c.length:=by simpa using h
  unfold bS;have e3:=uA (x:=r.q) (y:=t.q);have ih:=A6 a c h';by_cases a1:gk (r.q - t.q)=0
  .rw[if_pos a1,ih];simp only[map_cons,List.cons.injEq];exact⟨fun h=>⟨e3.1 a1,h⟩,fun h=>h.2⟩
  .rw[if_neg a1];simp only[map_cons,List.cons.injEq];exact⟨fun h=>absurd h a1,fun h=>absurd (e3.2 h.1) a1⟩
 | [],[],_=>by simp[bS]
 | [],_::_,h=>by simp at h
 | _::_,[],h=>by simp at h
def dB (a:List Raw):Bool:=(a.take 8).all (fun r=>decide (r.q=0))
end Go.Pl
namespace Go.Pl
abbrev Mn:=List Int
abbrev Tm:=List Int×Rat
def bM (m:Mn):List Tm->Rat
 | []=>0
 | t::ts=>(if t.1=m then t.2 else 0)+bM m ts
theorem gW (m:Mn): ∀ a b:List Tm,bM m (a++b)=bM m a+bM m b
 | [],b=>by simp only[nil_append,bM];grind
 | t::a,b=>by simp only[List.cons_append,bM,gW m a b];grind
theorem LS {m:Mn} {a b:List Tm} (h:a.Perm b):bM m a=bM m b:=by
 induction h with
 | nil=>rfl
 | cons x _ ih=>simp only[bM,ih]
 | swap x y l=>simp only[bM];grind
 | trans _ _ h1 h2=>exact h1.trans h2
theorem uB {m:Mn}: ∀ {a:List Tm},(∀ t∈a,t.1≠m)->bM m a=0
 | [],_=>rfl
 | t::a,h=>by
  simp only[bM,if_neg (h t (by simp)),uB (fun t ht=>h t (mem_cons_of_mem _ ht))];grind
theorem kU {m:Mn}: ∀ {a:List Tm},bM m (a.filter (fun t=>decide (t.2≠0)))=bM m a
 | []=>rfl
 | t::a=>by
  by_cases h:t.2=0
  .rw[filter_cons_of_neg (by simp[h]),bM,kU,h];split<;>grind
  rw[List.filter_cons_of_pos (by simp[h]),bM,bM,kU]
def gQ:Mn->Mn->Bool
 | x::a,y::b=>if x=y then gQ a b else decide (x>y)
 | _,_=>false
theorem Cx: ∀ a:Mn,gQ a a=false
 | []=>rfl
 | x::a=>by simp[gQ,Cx a]
theorem iU: ∀ {a b c:Mn},gQ a b=true->gQ b c=true->gQ a c=true
 | x::a,y::b,z::c,h1,h2=>by
  unfold gQ at h1 h2 ⊢;by_cases e1:x=y
  .rw[if_pos e1] at h1;by_cases e2:y=z
   .rw[if_pos e2] at h2;rw[if_pos (e1.trans e2)];exact iU h1 h2
   rw[if_neg e2] at h2;rw[if_neg (fun h=>e2 (e1.symm.trans h)),e1];exact h2
  .rw[if_neg e1] at h1;by_cases e2:y=z
   .rw[<-e2,if_neg e1];exact h1
   .rw[if_neg e2] at h2;have h3:=of_decide_eq_true h1;have h4:=of_decide_eq_true h2;rw[if_neg (by omega)];exact ib (by omega)
 | [],_,_,h1,_=>by simp[gQ] at h1
 | _::_,[],_,h1,_=>by simp[gQ] at h1
 | _::_,_::_,[],_,h2=>by simp[gQ] at h2
theorem LU {a b:Mn} (h:gQ a b=true):gQ b a=false:=by
 cases h2:gQ b a with
 | false=>rfl
 | true=>
  have:=iU h h2;rw[Cx] at this;cases this
theorem uC {a b:Mn} (h:gQ a b=true):a≠b:=fun he=>by
 rw[he,Cx] at h;cases h
theorem uD: ∀ {a b:Mn},a.length=b.length->a≠b->gQ a b=true\/gQ b a=true
 | [],[],_,h=>absurd rfl h
 | x::a,y::b,hl,h=>by
  unfold gQ;by_cases e:x=y
  .subst e;rw[if_pos rfl,if_pos rfl];exact uD (by simpa using hl) (fun he=>h (by rw[he]))
  .rw[if_neg e,if_neg (fun h=>e h.symm)];rcases Int.lt_trichotomy x y with h1 | h1 | h1
   .exact .inr (ib h1)
   .exact absurd h1 e
   .exact .inl (ib h1)
 | [],_::_,h,_=>by simp at h
 | _::_,[],h,_=>by simp at h
theorem Cy {a b:Mn} (hl:a.length=b.length) (h:gQ a b=false):a=b\/gQ b a=true:=by
 by_cases e:a=b
 .exact .inl e
 rcases uD hl e with h1 | h1
 .rw[h] at h1;cases h1
 exact .inr h1
structure Canon (p:List Tm):Prop where
 sorted:p.Pairwise (fun a b=>gQ a.1 b.1=true)
 nz: ∀ t∈p,t.2≠0
 len: ∀ t∈p,t.1.length=8
theorem Canon.nil:Canon []:=⟨.nil,by simp,by simp⟩
theorem Canon.tail {t:Tm} {p:List Tm} (h:Canon (t::p)):Canon p:=
 ⟨(pairwise_cons.1 h.sorted).2,fun u hu=>h.nz u (mem_cons_of_mem _ hu),fun u hu=>h.len u (mem_cons_of_mem _ hu)⟩
theorem Canon.head {t:Tm} {p:List Tm} (h:Canon (t::p)): ∀ u∈p,gQ t.1 u.1=true:=(pairwise_cons.1 h.sorted).1
theorem Canon.sum_head {t:Tm} {p:List Tm} (h:Canon (t::p)):bM t.1 (t::p)=t.2:=by
 rw[bM,if_pos rfl,uB (fun u hu he=>uC (h.head u hu) he.symm)];grind
theorem Canon.sum_up {m:Mn} {t:Tm} {p:List Tm} (h:Canon (t::p)) (hm:gQ m t.1=true):bM m (t::p)=0:=
 uB (fun u hu he=>by
  rcases List.mem_cons.1 hu with h1 | h1
  .exact uC hm (by rw[<-he,h1])
  exact uC (iU hm (h.head u h1)) he.symm)
theorem kz: ∀ {p q:List Tm},Canon p->Canon q->(∀ m,bM m p=bM m q)->p=q
 | [],[],_,_,_=>rfl
 | [],y::q,_,hq,h=>absurd ((hq.sum_head.symm.trans (h y.1).symm)) (hq.nz y (by simp))
 | x::p,[],hp,_,h=>absurd ((hp.sum_head.symm.trans (h x.1))) (hp.nz x (by simp))
 | x::p,y::q,hp,hq,h=>by
  have h1:x.1=y.1:=by
   by_cases e:x.1=y.1
   .exact e
   rcases uD ((hp.len x (by simp)).trans (hq.len y (by simp)).symm) e with h2 | h2
   .have:=h x.1;rw[hp.sum_head,hq.sum_up h2] at this;exact absurd this (hp.nz x (by simp))
   have:=h y.1;rw[hq.sum_head,hp.sum_up h2] at this;exact absurd this.symm (hq.nz y (by simp))
  have h2:x.2=y.2:=by
   have:=h x.1;rw[hp.sum_head,h1,hq.sum_head] at this;exact this
  have Hf:x=y:=Prod.ext h1 h2;subst Hf;rw[kz hp.tail hq.tail (fun m=>by
   have:=h m;simp only[bM] at this;grind)]
def insT:List Tm->Tm->List Tm
 | [],t=>if t.2=0 then [] else [t]
 | x::p,t=>if gQ x.1 t.1=true then x::insT p t else if x.1=t.1 then(if t.2+x.2=0 then p else(t.1,t.2+x.2)::p) else if t.2=0 then x::p else t::x::p
theorem Er (m:Mn): ∀ (p:List Tm) (t:Tm),bM m (insT p t)=bM m p+(if t.1=m then t.2 else 0)
 | [],t=>by
  unfold insT;split
  .rename_i h;simp only[bM,h];split<;>grind
  .simp only[bM];grind
 | x::p,t=>by
  unfold insT;split
  .simp only[bM,Er m p t];grind
  split
  .rename_i h;split
   .simp only[bM,h];split<;>grind
   simp only[bM,h];split<;>grind
  split
  .rename_i h;simp only[bM,h];grind
  simp only[bM];grind
theorem Es {p:List Tm} {t u:Tm} (h:u∈insT p t):u∈p\/u.1=t.1:=by
 induction p with
 | nil=>
  unfold insT at h;split at h
  .simp at h
  .simp at h;exact .inr (by rw[h])
 | cons x p ih=>
  unfold insT at h;split at h
  .rcases List.mem_cons.1 h with h | h
   .exact .inl (by rw[h];simp)
   rcases ih h with h | h
   .exact .inl (mem_cons_of_mem _ h)
   exact .inr h
  split at h
  .split at h
   .exact .inl (mem_cons_of_mem _ h)
   rcases List.mem_cons.1 h with h | h
   .exact .inr (by rw[h])
   exact .inl (mem_cons_of_mem _ h)
  split at h
  .exact .inl h
  rcases List.mem_cons.1 h with h | h
  .exact .inr (by rw[h])
  exact .inl h
theorem xq: ∀ {p:List Tm} {t:Tm},Canon p->t.1.length=8->Canon (insT p t)
 | [],t,_,ht=>by
  unfold insT;split
  .exact Canon.nil
  .rename_i h;exact⟨List.pairwise_singleton _ _,by simpa using h,by simpa using ht⟩
 | x::p,t,hp,ht=>by
  have ih:=xq hp.tail ht;have hd:=hp.head;unfold insT;split
  .rename_i h;refine⟨pairwise_cons.2 ⟨fun u hu=>?_,ih.sorted⟩,?_,?_⟩
   .rcases Es hu with h1 | h1
    .exact hd u h1
    rw[h1];exact h
   .intro u hu;rcases List.mem_cons.1 hu with h1 | h1
    .exact hp.nz u (by rw[h1];simp)
    exact ih.nz u h1
   intro u hu;rcases List.mem_cons.1 hu with h1 | h1
   .exact hp.len u (by rw[h1];simp)
   exact ih.len u h1
  rename_i hn;split
  .rename_i he;split
   .exact hp.tail
   rename_i hz;refine⟨pairwise_cons.2 ⟨fun u hu=>?_,hp.tail.sorted⟩,?_,?_⟩
   .rw[<-he];exact hd u hu
   .intro u hu;rcases List.mem_cons.1 hu with h1 | h1
    .rw[h1];exact hz
    exact hp.tail.nz u h1
   intro u hu;rcases List.mem_cons.1 hu with h1 | h1
   .rw[h1];exact ht
   exact hp.tail.len u h1
  rename_i he;split
  .exact hp
  rename_i hz;have hg:gQ t.1 x.1=true:=by
   rcases Cy ((hp.len x (by simp)).trans ht.symm) (by simpa using hn) with h1 | h1
   .exact absurd h1 he
   exact h1
  refine⟨pairwise_cons.2 ⟨fun u hu=>?_,hp.sorted⟩,?_,?_⟩
  .rcases List.mem_cons.1 hu with h1 | h1
   .rw[h1];exact hg
   exact iU hg (hd u h1)
  .intro u hu;rcases List.mem_cons.1 hu with h1 | h1
   .rw[h1];exact hz
   exact hp.nz u h1
  intro u hu;rcases List.mem_cons.1 hu with h1 | h1
  .rw[h1];exact ht
  exact hp.len u h1
def nf (ts:List Tm):List Tm:=ts.foldl insT []
def addT (p ts:List Tm):List Tm:=ts.foldl insT p
theorem Et (m:Mn): ∀ (ts p:List Tm),bM m (addT p ts)=bM m p+bM m ts
 | [],p=>by simp only[addT,List.foldl_nil,bM];grind
 | t::ts,p=>by
  have:=Et m ts (insT p t);unfold addT at this ⊢;rw[foldl_cons,this,Er];simp only[bM];grind
def Len8 (ts:List Tm):Prop:= ∀ t∈ts,t.1.length=8
theorem xr: ∀ {ts p:List Tm},Canon p->Len8 ts->Canon (addT p ts)
 | [],p,h,_=>h
 | t::ts,p,h,hl=>xr (ts:=ts) (p:=insT p t) (xq h (hl t (by simp))) (fun u hu=>hl u (mem_cons_of_mem _ hu))
theorem rM (m:Mn) (ts:List Tm):bM m (nf ts)=bM m ts:=by
 have:=Et m ts [];rw[bM] at this;unfold nf;unfold addT at this;rw[this];grind
theorem cV {ts:List Tm} (h:Len8 ts):Canon (nf ts):=xr Canon.nil h
theorem O4 {p ts:List Tm} (hp:Canon p) (hl:Len8 ts) (h: ∀ m,bM m p=bM m ts):p=nf ts:=
 kz hp (cV hl) (fun m=>(h m).trans (rM m ts).symm)
theorem Eu {a b:List Tm} (ha:Len8 a) (hb:Len8 b) (h: ∀ m,bM m a=bM m b):nf a=nf b:=
 O4 (cV ha) hb (fun m=>(rM m a).trans (h m))
theorem e7 {p:List Tm} (hp:Canon p):nf p=p:=(O4 hp hp.len (fun _=>rfl)).symm
theorem J2: ∀ {p:List Tm} {t:Tm} {k:Nat},(∀ i (h:i<p.length),i<k->gQ (p[i]'h).1 t.1=true)->k<=p.length->insT p t=p.take k++insT (p.drop k) t
 | p,t,0,_,_=>by simp
 | [],t,k+1,_,hk=>by simp at hk
 | x::p,t,k+1,h,hk=>by
  have h0:=h 0 (by simp) (by omega);rw[List.getElem_cons_zero] at h0;have ih:=J2 (p:=p) (t:=t) (k:=k) (fun i hi Zj=>h (i+1) (by simpa using hi) (by omega)) (by simpa using hk);rw[take_succ_cons,List.drop_succ_cons,List.cons_append,<-ih];rw[insT,if_pos h0]
def accAdd:List Tm->Mn->Rat->List Tm
 | [],m,q=>[(m,q)]
 | t::ts,m,q=>if t.1=m then(m,t.2+q)::ts else t::accAdd ts m q
def m9 (a:List Tm) (m:Mn):Option Rat:=(a.find? (fun t=>decide (t.1=m))).map (·.2)
def accL (ts:List Tm):List Tm:=ts.foldl (fun a t=>accAdd a t.1 t.2) []
theorem A7 (ts:List Tm) (t:Tm):accL (ts++[t])=accAdd (accL ts) t.1 t.2:=by simp[accL,List.foldl_append]
theorem xt (n:Mn): ∀ (a:List Tm) (m:Mn) (q:Rat),bM n (accAdd a m q)=bM n a+(if m=n then q else 0)
 | [],m,q=>by simp only[accAdd,bM];grind
 | t::ts,m,q=>by
  unfold accAdd;split
  .rename_i h;simp only[bM,h];split<;>grind
  simp only[bM,xt n ts m q];grind
theorem Ev (n:Mn) (ts:List Tm):bM n (accL ts)=bM n ts:=by
 have key: ∀ (ts a:List Tm),bM n (ts.foldl (fun a t=>accAdd a t.1 t.2) a)=bM n a+bM n ts:=by
  intro ts
  induction ts with
  | nil=>intro a;simp only[List.foldl_nil,bM];grind
  | cons t ts ih=>
   intro a;rw[foldl_cons,ih,xt];simp only[bM];grind
 unfold accL;rw[key,bM];grind
theorem kV (a:List Tm) (m:Mn) (q:Rat):(accAdd a m q).map (·.1)=if m∈a.map (·.1) then a.map (·.1) else a.map (·.1)++[m]:=by
 induction a with
 | nil=>simp[accAdd]
 | cons t ts ih=>
  unfold accAdd;split
  .rename_i h;simp[h]
  rename_i h;rw[map_cons,ih,map_cons];by_cases h2:m∈ts.map (·.1)
  .rw[if_pos h2,if_pos (mem_cons_of_mem _ h2)]
  rw[if_neg h2,if_neg (by
   intro h3;rcases List.mem_cons.1 h3 with h3 | h3
   .exact h h3.symm
   exact h2 h3)]
  rfl
theorem rN (ts:List Tm):((accL ts).map (·.1)).Nodup:=by
 have key: ∀ (ts a:List Tm),(a.map (·.1)).Nodup->((ts.foldl (fun a t=>accAdd a t.1 t.2) a).map (·.1)).Nodup:=by
  intro ts
  induction ts with
  | nil=>intro a h;exact h
  | cons t ts ih=>
   intro a h;refine ih _ ?_;rw[kV];split
   .exact h
   rename_i hm;rw[nodup_append];refine⟨h,by simp,?_⟩;intro x hx y hy he;simp at hy;subst hy;exact hm (he ▸ hx)
 exact key ts [] (by simp)
theorem xu {ts:List Tm} {m:Mn} (h:m∈(accL ts).map (·.1)):m∈ts.map (·.1):=by
 have key: ∀ (ts a:List Tm),m∈(ts.foldl (fun a t=>accAdd a t.1 t.2) a).map (·.1)->m∈a.map (·.1)\/m∈ts.map (·.1):=by
  intro ts
  induction ts with
  | nil=>intro a h;exact .inl h
  | cons t ts ih=>
   intro a h;rw[foldl_cons] at h;rcases ih _ h with h | h
   .rw[kV] at h;split at h
    .exact .inl h
    rcases List.mem_append.1 h with h | h
    .exact .inl h
    simp at h;exact .inr (by simp[h])
   exact .inr (by simp at h ⊢;exact .inr h)
 rcases key ts [] h with h | h
 .simp at h
 exact h
theorem Ew (ts:List Tm):(accL ts).length<=ts.length:=by
 have key: ∀ (ts a:List Tm),(ts.foldl (fun a t=>accAdd a t.1 t.2) a).length<=a.length+ts.length:=by
  intro ts
  induction ts with
  | nil=>intro a;simp
  | cons t ts ih=>
   intro a;rw[foldl_cons];have h:=ih (accAdd a t.1 t.2);have h2:(accAdd a t.1 t.2).length<=a.length+1:=by
    have:=congrArg List.length (kV a t.1 t.2);rw[length_map] at this;rw[this];split<;>simp
   rw[length_cons];omega
 have:=key ts [];simpa [accL] using this
theorem sV: ∀ {p:List Tm},p.Pairwise (fun a b=>gQ b.1 a.1=false)->(p.map (·.1)).Nodup->(∀ t∈p,t.1.length=8)->p.Pairwise (fun a b=>gQ a.1 b.1=true)
 | [],_,_,_=> .nil
 | t::p,h,hn,hl=>by
  rw[pairwise_cons] at h ⊢;rw[map_cons,List.nodup_cons] at hn;refine⟨fun u hu=>?_,sV h.2 hn.2 (fun u hu=>hl u (mem_cons_of_mem _ hu))⟩;have h1:=h.1 u hu;rcases Cy ((hl u (mem_cons_of_mem _ hu)).trans (hl t (by simp)).symm) h1 with h2 | h2
  .exact absurd (mem_map.2 ⟨u,hu,h2⟩) hn.1
  exact h2
theorem J3 {ts p:List Tm} (hl:Len8 ts) (hp:p.Perm ((accL ts).filter (fun t=>decide (t.2≠0)))) (hs:p.Pairwise (fun a b=>gQ b.1 a.1=false)):p=nf ts:=by
 have bf: ∀ t∈p,t∈accL ts/\t.2≠0:=fun t ht=>by
  have:=hp.mem_iff.1 ht;rw[mem_filter] at this;exact⟨this.1,by simpa using this.2⟩
 have aD: ∀ t∈p,t.1.length=8:=fun t ht=>by
  have:=xu (mem_map.2 ⟨t,(bf t ht).1,rfl⟩);obtain⟨u,hu,he⟩:=mem_map.1 this;rw[<-he];exact hl u hu
 have l6:(p.map (·.1)).Nodup:=by
  have h1:(p.map (·.1)).Perm (((accL ts).filter (fun t=>decide (t.2≠0))).map (·.1)):=hp.map _;rw[h1.nodup_iff];exact List.Nodup.sublist ((filter_sublist).map _) (rN ts)
 refine O4 ⟨sV hs l6 aD,fun t ht=>(bf t ht).2,aD⟩ hl (fun m=>?_);rw[LS hp,kU,Ev]
def DM (D:Nat):List Tm->Nat->Prop
 | [],_=>True
 | t::ts,M=> ∃ z:Int,∃ N:Nat,t.2=mkRat z D/\z.natAbs+N<=M/\DM D ts N
theorem DM.mono {D:Nat}: ∀ {ts:List Tm} {M N:Nat},DM D ts M->M<=N->DM D ts N
 | [],_,_,_,_=>trivial
 | t::ts,M,N,⟨z,K,h1,h2,h3⟩,h=>⟨z,K,h1,by omega,h3⟩
theorem DM.append {D:Nat}: ∀ {a b:List Tm} {M N:Nat},DM D a M->DM D b N->DM D (a++b) (M+N)
 | [],b,M,N,_,h=>h.mono (by omega)
 | t::a,b,M,N,⟨z,K,h1,h2,h3⟩,h=>⟨z,K+N,h1,by omega,h3.append h⟩
theorem DM.tail {D:Nat} {t:Tm} {ts:List Tm} {M:Nat} (h:DM D (t::ts) M):DM D ts M:=by
 obtain⟨z,N,h1,h2,h3⟩:=h;exact h3.mono (by omega)
theorem DM.mem {D:Nat}: ∀ {ts:List Tm} {M:Nat} {t:Tm},DM D ts M->t∈ts-> ∃ z:Int,t.2=mkRat z D/\z.natAbs<=M
 | u::ts,M,t,⟨z,K,h1,h2,h3⟩,ht=>by
  rcases List.mem_cons.1 ht with rfl | ht
  .exact⟨z,h1,by omega⟩
  .obtain⟨y,h4,h5⟩:=h3.mem ht;exact⟨y,h4,by omega⟩
 | [],_,_,_,ht=>by simp at ht
theorem DM.one {D:Nat} {t:Tm} {z:Int} (h:t.2=mkRat z D):DM D [t] z.natAbs:=⟨z,0,h,by omega,cS⟩
theorem rO {z:Int} {D E:Nat} (hE:E≠0):mkRat z D=mkRat (z*E) (D*E):=by
 rw[Rat.mkRat_mul_right hE]
theorem DM.lift {D E:Nat} (hE:E≠0): ∀ {ts:List Tm} {M:Nat},DM D ts M->DM (D*E) ts (M*E)
 | [],_,_=>trivial
 | t::ts,M,⟨z,K,h1,h2,h3⟩=>⟨z*E,K*E,by rw[h1,rO hE],by
  rw[Int.natAbs_mul,Int.natAbs_natCast,<-Nat.add_mul];exact qn _ h2,h3.lift hE⟩
theorem Ex {z:Int} {D k:Nat} (hk:1<=k) (hz:z.natAbs<B^k) (hD:D<B^k):Bd k (mkRat z D):=by
 have:mkRat z D=gP (decide (z<0)) z.natAbs D:=by
  unfold gP sg;congr 1;by_cases h:z<0
  .simp only[h,decide_true,if_true];omega
  simp only[h,decide_false];simp;omega
 rw[this];exact Bd.mk hk hz hD
theorem DM.bd {D M k:Nat} {ts:List Tm} (h:DM D ts M) (hk:1<=k) (hD:D<B^k) (hM:M<B^k): ∀ t∈ts,Bd k t.2:=fun t ht=>by
 obtain⟨z,h1,h2⟩:=h.mem ht;rw[h1];exact Ex hk (by omega) hD
theorem uE {z w:Int} {D:Nat} (hD:D≠0):mkRat z D+mkRat w D=mkRat (z+w) D:=pR z w hD
theorem DM.insT {D:Nat} (hD:D≠0): ∀ {p:List Tm} {t:Tm} {M:Nat} {z:Int},DM D p M->t.2=mkRat z D->DM D (insT p t) (M+z.natAbs)
 | [],t,M,z,_,ht=>by
  unfold Go.Pl.insT;split
  .trivial
  .exact(DM.one ht).mono (by omega)
 | x::p,t,M,z,⟨y,K,h1,h2,h3⟩,ht=>by
  have ih:=DM.insT hD h3 ht;unfold Go.Pl.insT;split
  .exact⟨y,K+z.natAbs,h1,by omega,ih⟩
  split
  .split
   .exact h3.mono (by omega)
   refine⟨z+y,K,?_,by omega,h3⟩;show t.2+x.2=_;rw[ht,h1,uE hD]
  split
  .exact⟨y,K,h1,by omega,h3⟩
  exact⟨z,K+y.natAbs,ht,by omega,⟨y,K,h1,by omega,h3⟩⟩
theorem DM.addT {D:Nat} (hD:D≠0): ∀ {ts p:List Tm} {M N:Nat},DM D p M->DM D ts N->DM D (addT p ts) (M+N)
 | [],p,M,N,hp,_=>hp.mono (by omega)
 | t::ts,p,M,N,hp,⟨z,K,h1,h2,h3⟩=>by
  have:=DM.addT hD (DM.insT hD hp h1) h3;unfold Go.Pl.addT at this ⊢;rw[foldl_cons];exact this.mono (by omega)
theorem DM.nf {D:Nat} (hD:D≠0) {ts:List Tm} {M:Nat} (h:DM D ts M):DM D (nf ts) M:=(DM.addT hD (show DM D [] 0 from trivial) h).mono (by omega)
theorem DM.accAdd {D:Nat} (hD:D≠0): ∀ {a:List Tm} {m:Mn} {q:Rat} {M:Nat} {z:Int},DM D a M->q=mkRat z D->DM D (accAdd a m q) (M+z.natAbs)
 | [],m,q,M,z,_,hq=>(DM.one (t:=(m,q)) hq).mono (by omega)
 | t::ts,m,q,M,z,⟨y,K,h1,h2,h3⟩,hq=>by
  unfold Go.Pl.accAdd;split
  .refine⟨y+z,K,?_,by omega,h3⟩;show t.2+q=_;rw[hq,h1,uE hD]
  exact⟨y,K+z.natAbs,h1,by omega,DM.accAdd hD h3 hq⟩
theorem DM.accL {D:Nat} (hD:D≠0) {ts:List Tm} {M:Nat} (h:DM D ts M):DM D (accL ts) M:=by
 have key: ∀ (ts a:List Tm) (M N:Nat),DM D a M->DM D ts N->DM D (ts.foldl (fun a t=>Go.Pl.accAdd a t.1 t.2) a) (M+N):=by
  intro ts
  induction ts with
  | nil=>intro a M N ha _;exact ha.mono (by omega)
  | cons t ts ih=>
   rintro a M N ha ⟨z,K,h1,h2,h3⟩;rw[foldl_cons];exact(ih _ _ _ (DM.accAdd hD ha h1) h3).mono (by omega)
 exact(key ts [] 0 M trivial h).mono (by omega)
theorem DM.take {D:Nat}: ∀ {ts:List Tm} {M:Nat} (i:Nat),DM D ts M->DM D (ts.take i) M
 | [],_,_,_=>by simp[DM]
 | t::ts,M,0,_=>trivial
 | t::ts,M,i+1,⟨z,K,h1,h2,h3⟩=>⟨z,K,h1,h2,h3.take i⟩
def PB (k:Nat) (ts:List Tm):Prop:= ∃ D M,0<D/\D<B^k/\M<B^k/\DM D ts M
theorem PB.mono {j k:Nat} {ts:List Tm} (h:PB j ts) (hk:j<=k):PB k ts:=by
 obtain⟨D,M,h1,h2,h3,h4⟩:=h;exact⟨D,M,h1,Nat.lt_of_lt_of_le h2 (Nat.pow_le_pow_right (by decide) hk),Nat.lt_of_lt_of_le h3 (Nat.pow_le_pow_right (by decide) hk),h4⟩
theorem PB.bd {k:Nat} {ts:List Tm} (h:PB k ts) (hk:1<=k): ∀ t∈ts,Bd k t.2:=by
 obtain⟨D,M,h1,h2,h3,h4⟩:=h;exact h4.bd hk h2 h3
theorem PB.nf {k:Nat} {ts:List Tm} (h:PB k ts):PB k (nf ts):=by
 obtain⟨D,M,h1,h2,h3,h4⟩:=h;exact⟨D,M,h1,h2,h3,h4.nf (by omega)⟩
theorem PB.accL {k:Nat} {ts:List Tm} (h:PB k ts):PB k (accL ts):=by
 obtain⟨D,M,h1,h2,h3,h4⟩:=h;exact⟨D,M,h1,h2,h3,h4.accL (by omega)⟩
theorem PB.take {k:Nat} {ts:List Tm} (h:PB k ts) (i:Nat):PB k (ts.take i):=by
 obtain⟨D,M,h1,h2,h3,h4⟩:=h;exact⟨D,M,h1,h2,h3,h4.take i⟩
theorem PB.append {j k:Nat} {a b:List Tm} (ha:PB j a) (hb:PB k b):PB (j+k+1) (a++b):=by
 obtain⟨D,M,h1,h2,h3,h4⟩:=ha;obtain⟨E,N,g1,g2,g3,g4⟩:=hb;refine⟨D*E,M*E+N*D,Nat.mul_pos h1 g1,Nat.lt_of_lt_of_le (aL h2 g2) (Nat.pow_le_pow_right (by decide) (by omega)),?_,?_⟩
 .exact m4 (aL h3 g2) (by rw[Nat.add_comm j k];exact aL g3 h2)
 refine(h4.lift (by omega)).append ?_;rw[Nat.mul_comm D E];exact g4.lift (by omega)
theorem PB.nil {k:Nat} (hk:1<=k):PB k []:=⟨1,0,by decide,Nat.lt_of_lt_of_le (show 1<B^1 by decide) (Nat.pow_le_pow_right (by decide) hk),JE (by decide),cS⟩
theorem PB.one {k:Nat} {t:Tm} (h:Bd k t.2):PB k [t]:=
 ⟨t.2.den,t.2.num.natAbs,t.2.den_pos,h.2,h.1,DM.one (Rat.mkRat_self _).symm⟩
theorem PB.list {k:Nat} (hk:1<=k): ∀ {ts:List Tm},(∀ t∈ts,Bd k t.2)->PB (ts.length*(k+1)+1) ts
 | [],_=>(PB.nil (k:=1) (qp _)).mono (by simp)
 | t::ts,h=>by
  have h1:=PB.one (h t (by simp));have h2:=PB.list hk (fun u hu=>h u (mem_cons_of_mem _ hu));refine(h1.append h2).mono ?_;rw[length_cons,Nat.add_mul];omega
def vy (f:Mn->Rat):List Tm->Rat
 | []=>0
 | t::ts=>t.2*f t.1+vy f ts
theorem xv (f:Mn->Rat): ∀ a b:List Tm,vy f (a++b)=vy f a+vy f b
 | [],b=>by simp only[nil_append,vy];grind
 | t::a,b=>by simp only[List.cons_append,vy,xv f a b];grind
theorem Ey (f:Mn->Rat): ∀ (p:List Tm) (t:Tm),vy f (insT p t)=vy f p+t.2*f t.1
 | [],t=>by
  unfold insT;split
  .rename_i h;simp only[vy,h];grind
  .simp only[vy];grind
 | u::p,t=>by
  unfold insT;split
  .simp only[vy,Ey f p t];grind
  split
  .rename_i h;split
   .rename_i h2;simp only[vy,h];have:u.2= - t.2:=by grind
    rw[this];grind
   simp only[vy,h];grind
  split
  .rename_i h;simp only[vy,h];grind
  simp only[vy];grind
theorem Ez (f:Mn->Rat): ∀ (ts p:List Tm),vy f (addT p ts)=vy f p+vy f ts
 | [],p=>by simp only[addT,List.foldl_nil,vy];grind
 | t::ts,p=>by
  have:=Ez f ts (insT p t);unfold addT at this ⊢;rw[foldl_cons,this,Ey];simp only[vy];grind
theorem O5 (f:Mn->Rat) (ts:List Tm):vy f (nf ts)=vy f ts:=by
 have:=Ez f ts [];rw[vy] at this;unfold nf;unfold addT at this;rw[this];grind
def Eqv (a b:List Tm):Prop:= ∀ m,bM m a=bM m b
theorem Eqv.refl (a:List Tm):Eqv a a:=fun _=>rfl
theorem Eqv.nf (a:List Tm):Eqv (nf a) a:=fun m=>rM m a
theorem Eqv.app {a b c d:List Tm} (h:Eqv a b) (k:Eqv c d):Eqv (a++c) (b++d):=fun m=>by rw[gW,gW,h m,k m]
theorem Eqv.nf_eq {a b:List Tm} (h:Eqv a b) (ha:Len8 a) (hb:Len8 b):Go.Pl.nf a=Go.Pl.nf b:=Eu ha hb h
theorem Len8.app {a b:List Tm} (ha:Len8 a) (hb:Len8 b):Len8 (a++b):=fun t ht=>by
 rcases List.mem_append.1 ht with h | h
 .exact ha t h
 exact hb t h
theorem Len8.nf {a:List Tm} (h:Len8 a):Len8 (nf a):=(cV h).len
def e_ (a b:Mn):Mn:=List.zipWith (· + ·) a b
theorem gX {a b:Mn} (ha:a.length=8) (hb:b.length=8):(e_ a b).length=8:=by simp[e_,ha,hb]
def Cz (p:List Tm) (t:Tm):List Tm:=p.map (fun s=>(e_ s.1 t.1,s.2*t.2))
def prodT (p q:List Tm):List Tm:=p.flatMap (fun s=>q.map (fun t=>(e_ s.1 t.1,s.2*t.2)))
theorem xw (s:Tm) (p q:List Tm):prodT (s::p) q=q.map (fun t=>(e_ s.1 t.1,s.2*t.2))++prodT p q:=rfl
theorem Len8.map1 {q:List Tm} {s:Tm} (hs:s.1.length=8) (h:Len8 q):Len8 (q.map (fun t=>(e_ s.1 t.1,s.2*t.2))):=fun t ht=>by
 obtain⟨u,hu,rfl⟩:=mem_map.1 ht;exact gX hs (h u hu)
theorem Len8.prod {p q:List Tm} (hp:Len8 p) (hq:Len8 q):Len8 (prodT p q):=fun t ht=>by
 obtain⟨s,hs,ht⟩:=List.mem_flatMap.1 ht;exact Len8.map1 (hp s hs) hq t ht
def cW (p:List Tm) (r:Rat):List Tm:=p.map (fun t=>(t.1,t.2*r))
theorem Len8.scale {p:List Tm} {r:Rat} (h:Len8 p):Len8 (cW p r):=fun u hu=>by
 obtain⟨s,hs,rfl⟩:=mem_map.1 hu;exact h s hs
theorem rP {z w:Int} {D E:Nat}:mkRat z D*mkRat w E=mkRat (z*w) (D*E):=Rat.mkRat_mul_mkRat z w D E
theorem DM.map1 {D E:Nat} {s:Tm} {z:Int} (hs:s.2=mkRat z D): ∀ {q:List Tm} {N:Nat},DM E q N->DM (D*E) (q.map (fun t=>(e_ s.1 t.1,s.2*t.2))) (z.natAbs*N)
 | [],_,_=>trivial
 | t::q,N,⟨w,K,h1,h2,h3⟩=>⟨z*w,z.natAbs*K,by show s.2*t.2=_;rw[hs,h1,rP],by
  rw[Int.natAbs_mul,<-Nat.mul_add];exact Nat.mul_le_mul_left _ h2,DM.map1 hs h3⟩
theorem DM.prod {D E:Nat}: ∀ {p q:List Tm} {M N:Nat},DM D p M->DM E q N->DM (D*E) (prodT p q) (M*N)
 | [],_,_,_,_,_=>trivial
 | s::p,q,M,N,⟨z,K,h1,h2,h3⟩,hq=>by
  rw[xw];refine((DM.map1 h1 hq).append (h3.prod hq)).mono ?_;rw[<-Nat.add_mul];exact qn _ h2
theorem PB.prod {j k:Nat} {p q:List Tm} (hp:PB j p) (hq:PB k q):PB (j+k) (prodT p q):=by
 obtain⟨D,M,h1,h2,h3,h4⟩:=hp;obtain⟨E,N,g1,g2,g3,g4⟩:=hq;exact⟨D*E,M*N,Nat.mul_pos h1 g1,aL h2 g2,aL h3 g3,h4.prod g4⟩
theorem DM.scale {D E:Nat} {r:Rat} {w:Int} (hr:r=mkRat w E): ∀ {p:List Tm} {M:Nat},DM D p M->DM (D*E) (cW p r) (M*w.natAbs)
 | [],_,_=>trivial
 | t::p,M,⟨z,K,h1,h2,h3⟩=>⟨z*w,K*w.natAbs,by show t.2*r=_;rw[hr,h1,rP],by
  rw[Int.natAbs_mul,<-Nat.add_mul];exact qn _ h2,DM.scale hr h3⟩
theorem PB.scale {j k:Nat} {p:List Tm} {r:Rat} (hp:PB j p) (hr:Bd k r):PB (j+k) (cW p r):=by
 obtain⟨D,M,h1,h2,h3,h4⟩:=hp;exact⟨D*r.den,M*r.num.natAbs,Nat.mul_pos h1 r.den_pos,aL h2 hr.2,aL h3 hr.1,h4.scale (Rat.mkRat_self _).symm⟩
theorem EA: ∀ (p:List Tm) (t:Tm),(insT p t).length<=p.length+1
 | [],t=>by unfold insT;split<;>simp
 | x::p,t=>by
  have ih:=EA p t;unfold insT;split
  .simp only[length_cons];omega
  split
  .split<;>simp<;>omega
  split<;>simp
theorem EB: ∀ (ts p:List Tm),(addT p ts).length<=p.length+ts.length
 | [],p=>by simp[addT]
 | t::ts,p=>by
  have h1:=EB ts (insT p t);have h2:=EA p t;unfold addT at h1 ⊢;rw[foldl_cons,length_cons];omega
theorem CA (ts:List Tm):(nf ts).length<=ts.length:=by
 have:=EB ts [];unfold nf;unfold addT at this;simpa using this
theorem uF: ∀ p q:List Tm,(prodT p q).length=p.length*q.length
 | [],q=>by simp[prodT]
 | s::p,q=>by
  rw[xw,qe,uF p q,length_map,length_cons,Nat.add_mul];omega
theorem LV {p:List Tm} {t u:Tm} (h:u∈insT p t):u.1=t.1\/ ∃ x∈p,x.1=u.1:=by
 rcases Es h with h | h
 .exact .inr ⟨u,h,rfl⟩
 exact .inl h
theorem A8: ∀ {ts p:List Tm} {u:Tm},u∈addT p ts-> ∃ x,(x∈p\/x∈ts)/\x.1=u.1
 | [],p,u,h=>⟨u,.inl h,rfl⟩
 | t::ts,p,u,h=>by
  obtain⟨x,hx,he⟩:=A8 (ts:=ts) (p:=insT p t) (u:=u) (by unfold addT at h ⊢;simpa using h);rcases hx with hx | hx
  .rcases LV hx with h1 | ⟨y,hy,h1⟩
   .exact⟨t,.inr (by simp),by rw[<-he,h1]⟩
   exact⟨y,.inl hy,by rw[h1,he]⟩
  exact⟨x,.inr (mem_cons_of_mem _ hx),he⟩
theorem jV {ts:List Tm} {u:Tm} (h:u∈nf ts): ∃ x∈ts,x.1=u.1:=by
 obtain⟨x,hx,he⟩:=A8 (ts:=ts) (p:=[]) (u:=u) h;rcases hx with hx | hx
 .simp at hx
 exact⟨x,hx,he⟩
theorem J4: ∀ {a b:Mn} {v:Nat} (x:Int),gQ a b=true->a.getD v 0=b.getD v 0->a.length=b.length->gQ (a.set v x) (b.set v x)=true
 | y::a,z::b,0,x,h,he,_=>by
  simp only[List.getD_cons_zero] at he;subst he;simp only[set_cons_zero,gQ,if_pos] at h ⊢;exact h
 | y::a,z::b,v+1,x,h,he,hl=>by
  simp only[qk] at he;simp only[List.set_cons_succ];unfold gQ at h ⊢;by_cases e:y=z
  .rw[if_pos e] at h ⊢;exact J4 x h he (by simpa using hl)
  .rw[if_neg e] at h ⊢;exact h
 | [],_,_,_,h,_,_=>by simp[gQ] at h
 | _::_,[],_,_,h,_,_=>by simp[gQ] at h
def bj (v:Nat) (d:Int) (p:List Tm):List Tm:=(p.filter (fun t=>decide (t.1.getD v 0=d))).map (fun t=>(t.1.set v 0,t.2))
theorem oM {v:Nat} {d:Int} {p:List Tm} (h:Canon p):Canon (bj v d p):=by
 refine⟨?_,?_,?_⟩
 .unfold bj;rw[List.pairwise_map];refine List.Pairwise.imp_of_mem ?_ (h.sorted.sublist filter_sublist);intro a b ha hb hg;rw[mem_filter] at ha hb;exact J4 0 hg ((of_decide_eq_true ha.2).trans (of_decide_eq_true hb.2).symm) ((h.len a ha.1).trans (h.len b hb.1).symm)
 .intro t ht;obtain⟨u,hu,rfl⟩:=mem_map.1 ht;exact h.nz u (mem_filter.1 hu).1
 intro t ht;obtain⟨u,hu,rfl⟩:=mem_map.1 ht;simp[h.len u (mem_filter.1 hu).1]
theorem A9 {v:Nat} {d:Int} {p:List Tm}:(bj v d p).length<=p.length:=by
 unfold bj;rw[length_map];exact List.length_filter_le _ _
theorem HE {v:Nat} {d:Int} {p:List Tm} {t:Tm}:bj v d (p++[t])=if t.1.getD v 0=d then bj v d p++[(t.1.set v 0,t.2)] else bj v d p:=by
 unfold bj;rw[List.filter_append,v8];by_cases h:t.1.getD v 0=d
 .rw[if_pos h,List.filter_cons_of_pos (by simp only[decide_eq_true_eq];exact h)];rfl
 rw[if_neg h,filter_cons_of_neg (by simp only[decide_eq_true_eq];exact h)];simp
def lJ (v:Nat) (p:List Tm):Int:=p.foldl (fun d t=>max d (t.1.getD v 0)) (-1)
theorem LW {v:Nat} {p:List Tm} {t:Tm}:lJ v (p++[t])=max (lJ v p) (t.1.getD v 0):=by simp[lJ,List.foldl_append]
theorem uG: ∀ (p:List Tm) (v:Nat) (d:Int),d<=p.foldl (fun d t=>max d (t.1.getD v 0)) d/\ ∀ t∈p,t.1.getD v 0<=p.foldl (fun d t=>max d (t.1.getD v 0)) d
 | [],v,d=>⟨Int.le_refl _,fun t ht=>by simp at ht⟩
 | x::p,v,d=>by
  obtain⟨h1,h2⟩:=uG p v (max d (x.1.getD v 0));rw[foldl_cons];refine⟨by omega,fun t ht=>?_⟩;rcases List.mem_cons.1 ht with rfl | ht
  .omega
  exact h2 t ht
theorem wH {v:Nat} {p:List Tm}: -1<=lJ v p:=(uG p v (-1)).1
theorem J5 {v:Nat} {p:List Tm} {t:Tm} (h:t∈p):t.1.getD v 0<=lJ v p:=(uG p v (-1)).2 t h
theorem sW: ∀ (p:List Tm) (v:Nat) (d N:Int),d<=N->(∀ t∈p,t.1.getD v 0<=N)->p.foldl (fun d t=>max d (t.1.getD v 0)) d<=N
 | [],_,_,_,h,_=>h
 | x::p,v,d,N,h,h2=>by
  rw[foldl_cons];exact sW p v _ N (by have:=h2 x (by simp);omega) (fun t ht=>h2 t (mem_cons_of_mem _ ht))
theorem CB {v:Nat} {p:List Tm} {N:Int} (hN: -1<=N) (h: ∀ t∈p,t.1.getD v 0<=N):lJ v p<=N:=sW p v (-1) N hN h
def eB (v:Nat) (p:List Tm):List (List Tm):=(List.range (lJ v p+1).toNat).map (fun(i:Nat)=>bj v (i:Int) p)
theorem xy (v:Nat) (p:List Tm):(eB v p).length=(lJ v p+1).toNat:=by simp[eB]
def hornT (q:List Tm):List (List Tm)->List Tm
 | []=>[]
 | c::cs=>nf (prodT (hornT q cs) q++c)
def fe (v:Nat) (q p:List Tm):List Tm:=hornT q (eB v p)
theorem oN {q:List Tm} (hq:Len8 q): ∀ {cs:List (List Tm)},(∀ c∈cs,Len8 c)->Canon (hornT q cs)
 | [],_=>Canon.nil
 | c::cs,h=>cV (Len8.app (Len8.prod (oN hq (fun c hc=>h c (mem_cons_of_mem _ hc))).len hq) (h c (by simp)))
theorem sX {v:Nat} {p q:List Tm} (hp:Canon p) (hq:Len8 q):Canon (fe v q p):=oN hq (fun c hc=>by
 obtain⟨i,_,rfl⟩:=mem_map.1 hc;exact(oM hp).len)
theorem LX {out q c:List Tm} (ho:Len8 out) (hq:Len8 q) (hc:Len8 c):nf (nf (prodT out q)++c)=nf (prodT out q++c):=
 Eqv.nf_eq ((Eqv.nf _).app (Eqv.refl c)) (Len8.app (cV (Len8.prod ho hq)).len hc) (Len8.app (Len8.prod ho hq) hc)
theorem J6 {q:List Tm} {kq kc:Nat} (hq:PB kq q): ∀ {cs:List (List Tm)},(∀ c∈cs,PB kc c)->PB (cs.length*(kq+kc+1)+1) (hornT q cs)
 | [],_=>(PB.nil (qp 1)).mono (by simp)
 | c::cs,h=>by
  have ih:=J6 hq (fun c hc=>h c (mem_cons_of_mem _ hc));refine((((ih.prod hq).append (h c (by simp))).nf)).mono ?_;rw[length_cons,Nat.add_mul];omega
theorem PB.sub {k:Nat} {p q:List Tm} (h:PB k p) (hq:q.Sublist p):PB k q:=by
 obtain⟨D,M,h1,h2,h3,h4⟩:=h;refine⟨D,M,h1,h2,h3,?_⟩;clear h3
 induction hq generalizing M with
 | slnil=>trivial
 | cons x _ ih=>exact ih M h4.tail
 | cons_cons x _ ih=>
  obtain⟨z,N,g1,g2,g3⟩:=h4;exact⟨z,N,g1,g2,ih N g3⟩
theorem DM.keys {D:Nat} {f:Tm->Mn}: ∀ {p:List Tm} {M:Nat},DM D p M->DM D (p.map (fun t=>(f t,t.2))) M
 | [],_,_=>trivial
 | _::_,_,⟨z,N,g1,g2,g3⟩=>⟨z,N,g1,g2,g3.keys⟩
theorem PB.keys {k:Nat} {p:List Tm} (f:Tm->Mn) (h:PB k p):PB k (p.map (fun t=>(f t,t.2))):=by
 obtain⟨D,M,h1,h2,h3,h4⟩:=h;exact⟨D,M,h1,h2,h3,h4.keys⟩
theorem PB.part {k v:Nat} {d:Int} {p:List Tm} (h:PB k p):PB k (bj v d p):=(h.sub filter_sublist).keys (fun t=>t.1.set v 0)
def aU (v:Nat) (p:List Tm):List Tm:=p.map (fun t=>(t.1.set v (t.1.getD v 0+1),t.2 / (t.1.getD v 0+1)))
theorem Len8.prim {v:Nat} {p:List Tm} (h:Len8 p):Len8 (aU v p):=fun t ht=>by
 obtain⟨u,hu,rfl⟩:=mem_map.1 ht;simp[h u hu]
end Go.Pl
namespace Go.Pl
section
variable {α:Type} (d:α)
def nZ (ls:List α) (j:Nat):List α:=(ls.set j (ls.getD (j - 1) d)).set (j - 1) (ls.getD j d)
theorem xz {ls:List α} {j:Nat} (h0:0<j) (hj:j<ls.length) (q:Nat):(nZ d ls j).getD q d=if q=j then ls.getD (j - 1) d else if q=j - 1 then ls.getD j d else ls.getD q d:=by
 unfold nZ;rw[qa,getElem?_set,getElem?_set];by_cases h1:q=j
 .subst h1;rw[if_neg (by omega),if_pos rfl,if_pos hj,if_pos rfl];simp
 rw[if_neg h1];by_cases h2:q=j - 1
 .rw[if_pos h2.symm,if_pos (by simp;omega),if_pos h2];simp
 rw[if_neg (fun h=>h2 h.symm),if_neg (fun h=>h1 h.symm),if_neg h2,qa]
theorem xA {ls:List α} {j:Nat} (h0:0<j) (hj:j<ls.length):(nZ d ls j).Perm ls:=by
 obtain⟨i,rfl⟩: ∃ i,j=i+1:=⟨j - 1,by omega⟩;have h1:ls=ls.take i++(ls[i]::ls[i+1]::ls.drop (i+2)):=by
  rw[<-drop_eq_getElem_cons (by omega),<-drop_eq_getElem_cons (by omega),List.take_append_drop]
 have hl:(ls.take i).length=i:=by rw[length_take];omega
 have h2:nZ d ls (i+1)=ls.take i++(ls[i+1]::ls[i]::ls.drop (i+2)):=by
  unfold nZ;rw[Nat.add_sub_cancel,qa,qa,qb (by omega),qb hj];simp only[Option.getD_some];generalize ls[i]=x at*;generalize ls[i+1]=y at*;generalize List.drop (i+2) ls=T at*;generalize List.take i ls=A at*;rw[h1,List.set_append_right _ _ (by omega),List.set_append_right _ _ (by omega)];rw[hl,show i+1 - i=1 by omega,Nat.sub_self];simp
 rw[h2]
 conv=>rhs;rw[h1]
 exact List.Perm.append_left _ (List.Perm.swap _ _ _)
variable (lt:α->α->Prop)
def O6 (ls:List α) (i j:Nat):Prop:= ∀ p q,p<q->q<=i->q≠j-> ¬lt (ls.getD q d) (ls.getD p d)
theorem A_ (asym: ∀ x y,lt x y-> ¬lt y x) {ls:List α} {i j:Nat} (wu:0<j) (DE:j<=i) (hi:i<ls.length) (h:O6 d lt ls i j) (hc:lt (ls.getD j d) (ls.getD (j - 1) d)):O6 d lt (nZ d ls j) i (j - 1):=by
 intro p q w5 Hm hq;rw[xz d wu (by omega),xz d wu (by omega)];by_cases h1:q=j
 .rw[if_pos h1,if_neg (by omega)];by_cases h2:p=j - 1
  .rw[if_pos h2];exact asym _ _ hc
  rw[if_neg h2];exact h p (j - 1) (by omega) (by omega) (by omega)
 rw[if_neg h1,if_neg hq];by_cases h2:p=j
 .rw[if_pos h2];exact h (j - 1) q (by omega) Hm h1
 rw[if_neg h2];by_cases h3:p=j - 1
 .rw[if_pos h3];exact h j q (by omega) Hm h1
 rw[if_neg h3];exact h p q w5 Hm h1
theorem pY {ls:List α} (Vl: ∀ x∈ls,∀ y∈ls,∀ z∈ls,¬lt x y-> ¬lt y z-> ¬lt x z) {i j:Nat} (hi:i<ls.length) (DE:j<=i) (h:O6 d lt ls i j) (hc:j=0\/ ¬lt (ls.getD j d) (ls.getD (j - 1) d)):
 ∀ p q,p<q->q<=i-> ¬lt (ls.getD q d) (ls.getD p d):=by
 intro p q w5 Hm
 by_cases h1:q=j
 .subst h1
  have bf: ∀ k,k<ls.length->ls.getD k d∈ls:=fun k hk=>by
   rw[qa,qb hk];simp
  rcases hc with hc | hc
  .omega
  by_cases h2:p=q - 1
  .rw[h2];exact hc
  exact Vl _ (bf q (by omega)) _ (bf (q - 1) (by omega)) _ (bf p (by omega)) hc (h p (q - 1) (by omega) (by omega) (by omega))
 exact h p q w5 Hm h1
theorem q9 {ls:List α} (h: ∀ p q,p<q->q<ls.length-> ¬lt (ls.getD q d) (ls.getD p d)):ls.Pairwise (fun a b=>¬lt b a):=by
 rw[List.pairwise_iff_getElem];intro i j hi hj qX;have:=h i j qX hj;rw[qa,qa,qb hi,qb hj] at this;exact this
end
def iV:Mn->Mn->Int
 | x::a,y::b=>if x<y then -1 else if y<x then 1 else iV a b
 | _,_=>0
theorem J7: ∀ {a b:Mn},0<iV a b↔gQ a b=true
 | x::a,y::b=>by
  have ih:=J7 (a:=a) (b:=b);unfold iV gQ;rcases Int.lt_trichotomy x y with h | h | h
  .rw[if_pos h,if_neg (by omega)];simp;omega
  .subst h;rw[if_neg (by omega),if_neg (by omega),if_pos rfl];exact ih
  .rw[if_neg (by omega),if_pos h,if_neg (by omega)];simp;omega
 | [],b=>by simp[iV,gQ]
 | _::_,[]=>by simp[iV,gQ]
theorem rQ: ∀ a b:Mn,iV a b= -1\/iV a b=0\/iV a b=1
 | x::a,y::b=>by
  unfold iV;split
  .exact .inl rfl
  .split
   .exact .inr (.inr rfl)
   .exact rQ a b
 | [],b=> .inr (.inl (by simp[iV]))
 | _::_,[]=> .inr (.inl (by simp[iV]))
theorem LY {a b:Mn} {i:Nat} (ha:i<a.length) (hb:i<b.length):iV (a.drop i) (b.drop i)=if a.getD i 0<b.getD i 0 then -1 else if b.getD i 0<a.getD i 0 then 1 else iV (a.drop (i+1)) (b.drop (i+1)):=by
 rw[drop_eq_getElem_cons ha,drop_eq_getElem_cons hb,iV,qa,qa,qb ha,qb hb];rfl
def zV {β:Type} (s t:List Int×β):Prop:=gQ s.1 t.1=true
theorem O7 {β:Type} (s t:List Int×β) (h:zV s t): ¬zV t s:=by
 unfold zV at*;rw[LU h];simp
theorem X8 {β:Type} {x y z:List Int×β} (hx:x.1.length=8) (hy:y.1.length=8) (_hz:z.1.length=8) (h1: ¬zV x y) (h2: ¬zV y z): ¬zV x z:=by
 unfold zV at*;intro h3;rcases Cy (hx.trans hy.symm) (by simpa using h1) with h4 | h4
 .rw[h4] at h3;exact h2 h3
 exact h2 (iU h4 h3)
end Go.Pl
namespace Go.Pl
theorem A': ∀ {p:List Tm} {t:Tm},t.2≠0->(∀ x∈p,x.1≠t.1)->(insT p t).Perm (t::p)
 | [],t,h,_=>by
  unfold insT;rw[if_neg h]
 | x::p,t,h,hk=>by
  unfold insT;split
  .exact((A' h (fun y hy=>hk y (mem_cons_of_mem _ hy))).cons x).trans (List.Perm.swap _ _ _)
  simp only[hk x (by simp),if_false];exact List.Perm.refl _
theorem Ba: ∀ {ts p:List Tm},(∀ t∈ts,t.2≠0)->((p++ts).map (·.1)).Nodup->(addT p ts).Perm (p++ts)
 | [],p,_,_=>by simp[addT]
 | t::ts,p,h,hn=>by
  rw[v8,map_cons,nodup_append] at hn;obtain⟨h1,h2,h3⟩:=hn;rw[List.nodup_cons] at h2;have hp:=A' (p:=p) (t:=t) (h t (by simp)) (fun x hx he=>h3 x.1 (mem_map.2 ⟨x,hx,rfl⟩) t.1 (by simp) he);have l6:((insT p t++ts).map (·.1)).Nodup:=by
   have hq:((insT p t++ts).map (·.1)).Perm (((t::p)++ts).map (·.1)):=(hp.append_right ts).map _;rw[hq.nodup_iff,v8,map_cons,List.cons_append,List.nodup_cons,nodup_append];refine⟨?_,h1,h2.2,fun x hx y hy=>h3 x hx y (mem_cons_of_mem _ hy)⟩;intro hm;rcases List.mem_append.1 hm with hm | hm
   .exact h3 t.1 hm t.1 (by simp) rfl
   exact h2.1 hm
  have ih:=Ba (ts:=ts) (p:=insT p t) (fun u hu=>h u (mem_cons_of_mem _ hu)) l6;unfold addT at ih ⊢;rw[foldl_cons];refine ih.trans ((hp.append_right ts).trans ?_);rw[List.cons_append];exact List.perm_middle.symm
def n4 (ts:List Tm):List Tm:=(accL ts).filter (fun t=>decide (t.2≠0))
theorem uH {ts:List Tm} (h:Len8 ts):Len8 (accL ts):=fun t ht=>by
 obtain⟨u,hu,he⟩:=mem_map.1 (xu (mem_map.2 ⟨t,ht,rfl⟩));rw[<-he];exact h u hu
theorem S5 {ts:List Tm} (h:Len8 ts):(nf ts).Perm (n4 ts):=by
 have h8:Len8 (n4 ts):=fun t ht=>uH h t (mem_filter.1 ht).1
 have h1:nf ts=nf (n4 ts):=Eu h h8 (fun m=>by unfold n4;rw[kU,Ev]);rw[h1];have h2:=Ba (ts:=n4 ts) (p:=[]) (fun t ht=>by simpa using(mem_filter.1 ht).2) (by
  rw[nil_append];exact List.Nodup.sublist ((filter_sublist).map _) (rN ts))
 rw[nil_append] at h2;exact h2
theorem EC {ts:List Tm} (h:Len8 ts):(n4 ts).length=(nf ts).length:=(S5 h).length_eq.symm
theorem O8 {ts:List Tm} {P:Mn->Prop} (h: ∀ t∈ts,P t.1): ∀ t∈nf ts,P t.1:=fun t ht=>by
 obtain⟨x,hx,he⟩:=jV ht;rw[<-he];exact h x hx
theorem LZ {a:List Tm} {m:Mn}:m9 a m=none↔m∉a.map (·.1):=by
 unfold m9;rw[Option.map_eq_none_iff,List.find?_eq_none];constructor
 .intro h hm;obtain⟨t,ht,he⟩:=mem_map.1 hm;exact h t ht (by simpa using he)
 intro h t ht he;exact h (mem_map.2 ⟨t,ht,by simpa using he⟩)
theorem S6 {a:List Tm} {i:Nat} {t:Tm} (hn:(a.map (·.1)).Nodup) (hi:a[i]?=some t):m9 a t.1=some t.2:=by
 induction a generalizing i with
 | nil=>simp at hi
 | cons u a ih=>
  unfold m9;rw[map_cons,List.nodup_cons] at hn;cases i with
  | zero=>
   simp at hi;subst hi;rw[List.find?_cons_of_pos (by simp)];rfl
  | succ i=>
   have oC:a[i]?=some t:=by simpa using hi
   have cM: ¬u.1=t.1:=fun he=>hn.1 (he ▸ mem_map.2 ⟨t,List.mem_of_getElem? oC,rfl⟩)
   rw[List.find?_cons_of_neg (by simpa using cM)];exact ih hn.2 oC
theorem DM.split {D:Nat}: ∀ {a:List Tm} {t:Tm} {M:Nat},DM D (a++[t]) M-> ∃ M1,∃ z:Int,DM D a M1/\t.2=mkRat z D/\M1+z.natAbs<=M
 | [],t,M,⟨z,K,h1,h2,_⟩=>⟨0,z,cS,h1,by omega⟩
 | u::a,t,M,⟨z,K,h1,h2,h3⟩=>by
  obtain⟨M1,w,g1,g2,g3⟩:=h3.split;exact⟨z.natAbs+M1,w,⟨z,M1,h1,by omega,g1⟩,g2,by omega⟩
theorem PB.snoc_bd {k:Nat} {a:List Tm} {t:Tm} (h:PB k (a++[t])) (hk:1<=k): ∀ u∈Go.Pl.nf a,Bd k (t.2+u.2):=fun u hu=>by
 obtain⟨D,M,h1,h2,h3,h4⟩:=h;obtain⟨M1,z,g1,g2,g3⟩:=h4.split;obtain⟨w,e1,e2⟩:=(g1.nf (by omega)).mem hu;rw[g2,e1,uE (by omega)];exact Ex hk (by omega) h2
theorem Bb: ∀ {a b:Mn} {v:Nat} (d:Int),v<a.length->a.length=b.length->gQ (a.set v (a.getD v 0+d)) (b.set v (b.getD v 0+d))=gQ a b
 | y::a,z::b,0,d,_,_=>by
  simp only[set_cons_zero,List.getD_cons_zero,gQ];by_cases h:y=z
  .rw[if_pos h,if_pos (by omega)]
  .rw[if_neg h,if_neg (by omega)];by_cases h2:y>z
   .rw[ib h2,ib (by omega)]
   .rw[mX h2,mX (by omega)]
 | y::a,z::b,v+1,d,h,hl=>by
  simp only[List.set_cons_succ,qk,gQ];simp only[length_cons] at h hl;rw[Bb d (by omega) (by omega)]
 | [],_,_,_,h,_=>by simp at h
 | _::_,[],_,_,_,hl=>by simp at hl
theorem m_ {x:Int} (h:x≠0):(x:Rat)≠0:=fun h2=>h (by exact_mod_cast h2)
theorem X9 {q:Rat} {x:Int} (hq:q≠0) (hx:x≠0):q / (x:Rat)≠0:=fun h=>by
 have:=m_ hx;apply hq;have h2:q / (x:Rat)*x=q:=by grind
 rw[h] at h2;grind
theorem mm (x:Int):(x:Rat)+1=((x+1:Int):Rat):=by rw[Rat.intCast_add];rfl
theorem xB {v:Nat} {p:List Tm} (hv:v<8) (hp:Canon p) (he: ∀ t∈p,0<=t.1.getD v 0):Canon (aU v p):=by
 refine⟨?_,?_,Len8.prim hp.len⟩
 .unfold aU;rw[List.pairwise_map];refine(List.Pairwise.and_mem.1 hp.sorted).imp ?_;rintro a b ⟨ha,hb,h⟩;rw[Bb 1 (by rw[hp.len a ha];exact hv) (by rw[hp.len a ha,hp.len b hb])];exact h
 intro t ht;obtain⟨u,hu,rfl⟩:=mem_map.1 ht;dsimp only;rw[mm];exact X9 (hp.nz u hu) (by have:=he u hu;omega)
theorem PB.terms {j n k:Nat} {p:List Tm} (hj:1<=j) (h: ∀ t∈p,Bd j t.2) (hn:p.length<=n) (hk:n*(j+1)+1<=k):PB k p:=
 (PB.list hj h).mono (gD (Nat.succ_le_succ (qn _ hn)) hk)
theorem bd_int {x:Int} (h:x.natAbs<B):Bd 1 (x:Rat):=by
 refine⟨?_,?_⟩
 .rw[Rat.num_intCast,Nat.pow_one];exact h
 rw[Rat.den_intCast];decide
theorem S7 {v j:Nat} {p:List Tm} (h: ∀ t∈p,Bd j t.2) (he: ∀ t∈p,0<=t.1.getD v 0/\t.1.getD v 0<=1000000): ∀ t∈aU v p,Bd (j+1) t.2:=fun t ht=>by
 obtain⟨u,hu,rfl⟩:=mem_map.1 ht;dsimp only;have h1:=he u hu;rw[mm];exact Bd.div (h u hu) (bd_int (Hr (show _<=1000001 by omega) (by decide))) (m_ (by omega)) (by omega)
theorem jt {v:Nat} {p:List Tm}:(aU v p).length=p.length:=by simp[aU]
end Go.Pl
namespace Go.Proofs.YtjjbkjgifdhlcaaGreat
open Go.AM Go.Pl
abbrev RT:=List Int×Raw
def kA (m:List Int):List FV:=m.map (fun n=>FV.lit (.int .i64 n))
def im (t:RT):List FV:=kA t.1++t.2.f
def fI (t:RT):List PV:=mC t.1++t.2.c
def tq (t:RT):Tm:=(t.1,t.2.q)
def tn (t:Tm):RT:=(t.1,cn t.2)
theorem ju (m:List Int):(kA m).map .fv=mC m:=by simp[kA,mC]
theorem d9 (t:RT):(im t).map .fv=fI t:=by
 unfold im fI;rw[v8,ju];rfl
theorem ff (m:List Int):(kA m).length=m.length:=by simp[kA]
theorem bK (m:List Int):(mC m).length=m.length:=by simp[mC]
theorem aK {t:RT} (h:t.1.length=8):(im t).length=11:=by simp[im,ff,h,Raw.f]
theorem aE {t:RT} (h:t.1.length=8):(fI t).length=11:=by simp[fI,bK,h,Raw.c]
theorem nh (H:List Ob): ∀ m:List Int,lG H (mC m)=some (kA m)
 | []=>rfl
 | n::m=>by
  have:=nh H m;unfold mC kA at this ⊢;simp only[map_cons,lG,fP,this]
theorem J8 (H:List Ob): ∀ (a b:List PV) (x y:List FV),lG H a=some x->lG H b=some y->lG H (a++b)=some (x++y)
 | [],b,x,y,h1,h2=>by
  simp only[lG,qo] at h1;subst h1;simpa using h2
 | c::a,b,x,y,h1,h2=>by
  simp only[lG,List.cons_append] at h1 ⊢;split at h1
  .rename_i u us h3 h4;cases h1;rw[h3,J8 H a b us y h4 h2];rfl
  cases h1
theorem dr (H:List Ob) (t:RT):lG H (fI t)=some (im t):=J8 H _ _ _ _ (nh H t.1) rfl
theorem oO (m:List Int):(mC m).flatMap eY=[]:=by
 unfold mC
 induction m with
 | nil=>rfl
 | cons n m ih=>rw[map_cons,List.flatMap_cons,ih];rfl
theorem dJ (t:RT):(fI t).flatMap eY=[]:=by
 unfold fI;rw[qyb,oO];rfl
theorem jW {m:List Int} (h:m.length=8):List.take 8 (mC m)=mC m:=eE (by rw[bK];omega)
theorem rR {m:List Int} (h:m.length=8):List.take 8 (kA m)=kA m:=eE (by rw[ff];omega)
theorem dL {t:RT} (h:t.1.length=8):List.take 8 (fI t)=mC t.1:=by
 unfold fI;rw[List.take_append_of_le_length (by rw[bK];omega),jW h]
theorem de {t:RT} (h:t.1.length=8):List.take 11 (fI t)=fI t:=eE (by rw[aE h];omega)
theorem aY {t:RT} (h:t.1.length=8):List.take 11 (im t)=im t:=eE (by rw[aK h];omega)
theorem L0 {t:RT} (h:t.1.length=8):List.drop 8 (fI t)=t.2.c:=by
 unfold fI;rw[drop_append_of_le_length (by rw[bK];omega),List.drop_of_length_le (by rw[bK];omega)];rfl
theorem uI {t:RT} (h:t.1.length=8):List.drop 8 (im t)=t.2.f:=by
 unfold im;rw[drop_append_of_le_length (by rw[ff];omega),List.drop_of_length_le (by rw[ff];omega)];rfl
theorem pZ {t:RT} (h:t.1.length=8):List.take 8 (im t)=kA t.1:=by
 unfold im;rw[List.take_append_of_le_length (by rw[ff];omega),rR h]
theorem Bc {m:List Int} {i:Nat} (h:i<m.length):List.take 1 (List.drop i (mC m))=[PV.int .i64 (m.getD i 0)]:=by
 unfold mC;rw[drop_eq_getElem_cons (by simpa using h),take_succ_cons,List.take_zero,List.getElem_map,qa,qb h];rfl
theorem uJ {t:RT} {i:Nat} (h:i<8) (hl:t.1.length=8):List.take 1 (List.drop i (fI t))=[PV.int .i64 (t.1.getD i 0)]:=by
 have h1:=Bc (m:=t.1) (i:=i) (by omega);unfold fI;rw[drop_append_of_le_length (by rw[bK];omega),List.take_append_of_le_length (by rw[qt,bK];omega),h1]
theorem O9 {m:List Int} {i:Nat} {x:Int} (h:i<m.length):List.take i (mC m)++[PV.int .i64 x]++List.drop (i+1) (mC m)=mC (m.set i x):=by
 unfold mC;rw[<-List.map_take,<-List.map_drop,List.set_eq_take_append_cons_drop,if_pos h];simp
theorem p5 {t:RT} {i:Nat} {x:Int} (h:i<8) (hl:t.1.length=8):List.take i (fI t)++[PV.int .i64 x]++List.drop (i+1) (fI t)=fI (t.1.set i x,t.2):=by
 have h1:=O9 (m:=t.1) (i:=i) (x:=x) (by omega);unfold fI;rw[List.take_append_of_le_length (by rw[bK];omega),drop_append_of_le_length (by rw[bK];omega),<-qlb,h1]
theorem sY (ids:List Nat): ∀ m:List Int,c9 ids (mC m) (mC m)
 | []=>by simp[mC,c9]
 | x::m=>by
  have:=sY ids m;unfold mC at this ⊢;simp[c9,cB,this]
theorem O_ (ids:List Nat): ∀ (a b:List PV),c9 ids a a->c9 ids b b->c9 ids (a++b) (a++b)
 | [],_,_,h=>h
 | _::a,b,h1,h2=>⟨h1.1,O_ ids a b h1.2 h2⟩
theorem gR (ids:List Nat) (t:RT):c9 ids (fI t) (fI t):=O_ ids _ _ (sY ids t.1) (by simp[Raw.c,c9,cB])
theorem dS {t:RT} (h:t.1.length=8):List.take 3 (List.drop 8 (fI t))=t.2.c:=by rw[L0 h];rfl
theorem ED (H:List Ob) (r:Raw):lG H r.c=some r.f:=rfl
theorem L4 (r:Raw):r.f.map .fv=r.c:=rfl
theorem gq (r:Raw):r.c.flatMap eY=[]:=rfl
theorem dM (f:Nat->Nat) (r:Raw):List.map (reloc1 f) r.c=r.c:=rfl
theorem xC (r:Raw):List.take 3 r.c=r.c:=rfl
theorem mn {t:RT} {r:Raw} (h:t.1.length=8):List.take 8 (fI t)++r.c++List.drop 11 (fI t)=fI (t.1,r):=by
 rw[dL h,List.drop_of_length_le (by rw[aE h];omega),append_nil];rfl
theorem EE (r:Raw):r.f.length=3:=rfl
theorem O' (r:Raw):List.take 3 r.f=r.f:=rfl
theorem acP (ids:List Nat) (r:Raw):c9 ids r.c r.c:=by simp[Raw.c,c9,cB]
theorem J9 (r:Raw):still (.agg r.c)=true:=rfl
theorem cE (r:Raw):r.c.length=3:=rfl
def aq (ts:List RT):List (List FV):=ts.map im
def n5 (ms:List (List Int)):List (List FV):=ms.map kA
theorem av (ts:List RT):(aq ts).length=ts.length:=by simp[aq]
theorem sZ (ms:List (List Int)):(n5 ms).length=ms.length:=by simp[n5]
def oP:RT:=([],rz)
theorem df {ts:List RT} {i:Nat} (h:i<ts.length):(aq ts).getD i []=im (ts.getD i oP):=by
 simp[aq,h]
theorem HF {ms:List (List Int)} {i:Nat} (h:i<ms.length):(n5 ms).getD i []=kA (ms.getD i []):=by
 simp[n5,h]
theorem f7 {ts:List RT} {i:Nat} (h:i<ts.length):ts.getD i oP∈ts:=by
 rw[qa,qb h];simp
theorem eC (ts:List RT) (t:RT):aq ts++[im t]=aq (ts++[t]):=by simp[aq]
theorem HG (ms:List (List Int)) (m:List Int):n5 ms++[kA m]=n5 (ms++[m]):=by simp[n5]
theorem bL {ts:List RT} {n:Nat} (h:ts.length<=n):List.take n (aq ts)=aq ts:=eE (by rw[av];exact h)
theorem HI {ms:List (List Int)} {n:Nat} (h:ms.length<=n):List.take n (n5 ms)=n5 ms:=eE (by rw[sZ];exact h)
structure TOk (k:Nat) (t:RT):Prop where
 len:t.1.length=8
 rng: ∀ x∈t.1,-1000000000000<=x/\x<=1000000000000
 raw:t.2.Ok k
theorem TOk.mono {j k:Nat} {t:RT} (h:TOk j t) (hk:j<=k):TOk k t:=⟨h.len,h.rng,h.raw.mono hk⟩
def TsOk (k:Nat) (ts:List RT):Prop:= ∀ t∈ts,TOk k t
def iq (m:List Int):Bool:=m.all (fun d=>decide (0<=d)&&decide (d<=1024))
def validB (ts:List RT):Bool:=ts.all (fun t=>iq t.1)
abbrev PL (ts:List RT):PV:= .fv (.sl (aq ts))
set_option maxRecDepth 100000
set_option maxHeartbeats 2000000
theorem s4 (m:List Int) (n:Nat) (h:m.length=n):dA 1 n (kA m)=ints m:=by
 subst h
 induction m with
 | nil=>rfl
 | cons x m ih=>
  unfold kA ints at ih ⊢;simp only[length_cons,map_cons,dA,take_succ_cons,List.take_zero,List.drop_succ_cons,List.drop_zero,ih]
theorem Be (x:Int):Den Tryz.prog 272 [] [.int .i64 x] [] (.bool false):=by
 have e:(x !=x)=false:=by simp
 refine dq Tryz.func272 5 0 ?_;refine b8 e ?_;refine bg rfl
theorem acQ (x y:Int):Den Tryz.prog 246 [] [.int .i64 x,.int .i64 y] [] (.int .i64 (if x<y then -1 else if y<x then 1 else 0)):=by
 by_cases h1:x<y
 .have e1:decide (x<y)=true:=ib h1;rw[if_pos h1];refine dq Tryz.func246 18 0 ?_;refine aX ?_;refine gp (Be x) rfl ?_;refine a9 ?_;refine gp (Be y) rfl ?_;refine ae e1 ?_;refine bg rfl
 have e1:decide (x<y)=false:=mX h1;rw[if_neg h1];by_cases h2:y<x
 .have e2:decide (x>y)=true:=ib h2;rw[if_pos h2];refine dq Tryz.func246 18 0 ?_;refine aX ?_;refine gp (Be x) rfl ?_;refine a9 ?_;refine gp (Be y) rfl ?_;refine ae (aQ e1 e2) ?_;refine bg rfl
 have e2:decide (x>y)=false:=mX h2;rw[if_neg h2];refine dq Tryz.func246 18 0 ?_;refine aX ?_;refine gp (Be x) rfl ?_;refine a9 ?_;refine gp (Be y) rfl ?_;refine ae (aQ e1 e2) ?_;refine bg rfl
theorem WM (a b:List Int) (n:Nat) (ha:a.length=n) (hb:b.length=n) (hn:n<1000):Den Tryz.prog 208 [] [.fv (.sl (ints a)),.fv (.sl (ints b))] [] (.int .i64 (iV a b)):=by
 have la:=cg a;have lb:=cg b;rw[ha] at la;rw[hb] at lb;refine dq Tryz.func208 34 0 ?_;refine b8 la ?_;refine wl (α:=Nat) (fun i=>⟨[.fv (.sl (ints a)),.fv (.sl (ints b)),.any,.any,.any,.any,.any,.any,.any,.fv (.sl (ints a)),.int .i64 n,.int .i64 i]++replicate 24 .any,[]⟩) (fun i=>n - i) (fun i=>i<=n/\iV (a.drop i) (b.drop i)=iV a b) 0 ?_ ?_ ?_
 .exact bN []
 .exact⟨eH _,rfl⟩
 rintro i ⟨hi,hc⟩;refine aX ?_;refine bR ?_ ?_
 .intro h1 h2;have ga:=iS (xs:=a) (i:=i) (by omega);have gb:=iS (xs:=b) (i:=i) (by omega);have kM:=LY (a:=a) (b:=b) (i:=i) (by omega) (by omega);obtain⟨x,hx⟩:=aw (a.getD i 0);obtain⟨y,hy⟩:=aw (b.getD i 0);rw[hx] at ga kM;rw[hy] at gb kM;have e1:decide ((i:Int)>=(n:Int))=false:=sB;have Am:=acQ x y;obtain⟨z,hz⟩: ∃ z:Int,(if x<y then(-1:Int) else if y<x then 1 else 0)=z:=⟨_,rfl⟩;rw[hz] at Am;refine ae (fM h2 la lb ga gb e1) ?_
  repeat refine ag ?_
  refine aW Am ?_;refine a9 ?_;refine Br.bneInt ?_ ?_
  .intro h3 h4;have SD:iV a b=z:=by
    rw[<-hc,kM,<-hz];by_cases h5:x<y
    .rw[if_pos h5,if_pos h5]
    rw[if_neg h5,if_neg h5];by_cases h6:y<x
    .rw[if_pos h6,if_pos h6]
    rw[if_neg h5,if_neg h6] at hz;omega
   rw[SD];refine ae h4 ?_;refine bg rfl
  intro h3 h4;have h5: ¬x<y:=fun h=>by rw[if_pos h] at hz;omega
  have h6: ¬y<x:=fun h=>by rw[if_neg h5,if_pos h] at hz;omega
  rw[if_neg h5,if_neg h6] at kM;refine ae h4 ?_;refine ax (i+1) ?_ ⟨by omega,by rw[<-kM,hc]⟩;exact bN []
 intro h1 h2;have hz:iV a b=0:=by
  rw[<-hc,List.drop_of_length_le (by omega),List.drop_of_length_le (by omega)];rfl
 rw[hz];have e1:decide ((n:Int)<(n:Int))=false:=sB;refine ae (ej h2 la lb e1) ?_;refine bg rfl
theorem acR (s t:RT) (hs:s.1.length=8) (ht:t.1.length=8):Den Tryz.prog 170 [] [.agg [.bool true],.agg (fI s),.agg (fI t)] [] (.int .i64 (-(iV s.1 t.1))):=by
 have h1:=WM s.1 t.1 8 hs ht (by decide);have g1:=s4 s.1 8 hs;have g2:=s4 t.1 8 ht;have r:=rQ s.1 t.1;obtain⟨z,hz⟩:=aw (iV s.1 t.1);rw[hz] at h1 r ⊢;have ls:=aE hs;have lt:=aE ht;have k1:=dL hs;have k2:=dL ht;have i1:List.take 8 (ints s.1)=ints s.1:=eE (by rw[cg];omega);have i2:List.take 8 (ints t.1)=ints t.1:=eE (by rw[cg];omega);have e0:(0:Int) - z= -z:=by omega
 refine dq Tryz.func170 15 0 ?_;refine b8 (aQ ls lt) ?_
 repeat refine ag ?_
 refine Draw.freeze [1,2] (by kernel_rfl) ?_;simp -dsimp(disch:=omega) only[k1,k2,nh,oO,ls,lt,g1,g2,Option.isSome_none,imp_self,i1,i2,↓reduceIte,reduceMul,Nat.reduceSub,Nat.reduceLT,Nat.reduceLeDiff,ru]
 repeat refine ag ?_
 refine gp h1 (by simp[cC,iw,gj,fP]) ?_;refine ae e0 ?_
 repeat refine ag ?_
 refine bg rfl
theorem HJ (r:Raw):vw r r=true:=by simp[vw]
theorem WN (a b:List Raw) (ha:LOk 1000000000 a) (hb:LOk 1000000000 b):Den Tryz.prog 162 [] [RL a,RL b] [] (FL (m6 a b)):=by
 have la:=ha.len;have lb:=hb.len;have fa:=ah a;have fb:=ah b;unfold FL RL;obtain⟨T,hT⟩:=aw ((m6 a b).map cn);have lT:T.length=9:=by rw[<-hT,length_map];exact fT la lb
 have hTg: ∀ i,i<9->T.getD i rz=cn ((a.getD i rz).q+(b.getD i rz).q):=fun i hi=>by rw[<-hT];exact pX (by omega) (by omega)
 obtain⟨Z,hZ⟩:=aw (replicate 9 rz);have lZ:Z.length=9:=by rw[<-hZ];rfl
 rw[hT];refine dq Tryz.func162 30 0 ?_;refine aX ?_
 repeat refine ag ?_
 refine wl (α:=Nat) (fun i=>⟨[.any,.any,.ptr 0 0 0,.ptr 1 0 0,.ptr 2 0 0,.ptr 2 0 0,.any,.any,.int .i64 i]++replicate 23 .any,[.box true (flat a),.box true (flat b),.box true (flat (DW T i Z))]⟩)
  (fun i=>8 - i) (fun i=>i<=8) 0 ?_ ?_ ?_
 .refine eV [0,1,2] ?_ ?_
  .simp[bc,dX,cB]
  rw[Ep,<-hZ];simp[ez,fL,c9,cB,dp,replicate,flat,rz,u32s]
 .exact eH _
 rintro i hi;have zP:=xp (T:=T) (rest:=Z) i (by omega);have hof:=ah (DW T i Z);have iG:=cU (rs:=a) (i:=i) (by omega);have kS:=cU (rs:=b) (i:=i) (by omega);have bP:=J1 (T:=T) (rest:=Z) (i:=i) (by omega) (by omega);rw[hTg i (by omega)] at bP;have bU:=JR (a.getD i rz) (b.getD i rz) (ha.at i) (hb.at i);obtain⟨r,hr⟩:=aw (a.getD i rz);obtain⟨s,hs⟩:=aw (b.getD i rz);rw[hr] at iG bP bU;rw[hs] at kS bP bU;have a_:=d8 (rs:=DW T i Z) (i:=i) (by omega) (decide ((r.q+s.q).num<0)) (ai (r.q+s.q).num.natAbs) (ai (r.q+s.q).den);have ue:(⟨decide ((r.q+s.q).num<0),ai (r.q+s.q).num.natAbs,ai (r.q+s.q).den⟩:Raw)=cn (r.q+s.q):=rfl;rw[ue,bP] at a_;rw[bk,bB,bB] at bU;unfold Raw.v at bU;refine aX ?_;refine bR ?_ ?_
 .intro h1 h2;refine ae h2 ?_;refine dw (by kernel_rfl) ?_;refine ae (aQ iG kS) ?_
  repeat refine ag ?_
  refine aW bU ?_;refine ae (aQ a_ @append_nil.{0}) ?_
  repeat refine ag ?_
  refine ax (i+1) ?_ (by omega);exact vf [0,1,2]
 intro h1 h2;have uc:i=8:=by omega
 subst uc;rw[J0 (n:=8+1) lT lZ] at a_;simp only[reduceMul,reduceAdd] at iG kS a_;have qW:(flat T).length=27:=by rw[ah];omega
 have RG:List.drop 27 (flat T)=[]:=List.drop_of_length_le (by omega);refine ae (bZ h2 iG kS) ?_
 repeat refine ag ?_
 refine aW bU ?_;simp -dsimp(disch:=omega) only[append_nil,a_,qW,ar lT,RG,↓reduceIte,reduceAdd,Nat.reduceLT,Nat.reduceLeDiff,ru]
 repeat refine ag ?_
 exact RetOK.form rfl rfl lT
theorem J_ (a b:List Raw) (ha:LOk 1000000000 a) (hb:LOk 1000000000 b):Den Tryz.prog 101 [] [RL a,RL b] [] (FL (m6 a b)):=by
 have la:=ha.len;have lb:=hb.len;have fa:=ah a;have fb:=ah b;have tT:=mg 0 (by decide);rw[show((0:Int):Rat)=0 from rfl,bk,bB,bB] at tT;unfold FL RL;obtain⟨T,hT⟩:=aw ((m6 a b).map cn);have lT:T.length=9:=by rw[<-hT,length_map];exact fT la lb
 have hTg: ∀ i,i<9->T.getD i rz=cn ((a.getD i rz).q+(b.getD i rz).q):=fun i hi=>by rw[<-hT];exact pX (by omega) (by omega)
 rw[hT];refine dq Tryz.func101 43 0 ?_;refine aX ?_
 repeat refine ag ?_
 refine wl (α:=Nat) (fun i=>⟨[.any,.any,.ptr 0 0 0,.ptr 1 0 0,.ptr 2 0 0,.int .i64 i]++replicate 39 .any,[.box true (flat (DW T i a)),.box true (flat b),.box true (fS 9)]⟩)
  (fun i=>8 - i) (fun i=>i<=8) 0 ?_ ?_ ?_
 .refine eV [0,1,2] ?_ ?_
  .simp[bc,dX,cB]
  rw[Ep];simp[ez,fL,c9,cB,dp,fS]
 .exact eH _
 rintro i hi;have zP:=xp (T:=T) (rest:=a) i (by omega);have hof:=ah (DW T i a);have iG:=cU (rs:=DW T i a) (i:=i) (by omega);rw[O1 (by omega) (by omega) (qp _)] at iG;have kS:=cU (rs:=b) (i:=i) (by omega);have bP:=J1 (T:=T) (rest:=a) (i:=i) (by omega) (by omega);rw[hTg i (by omega)] at bP;have bU:=OT (a.getD i rz) (b.getD i rz) (ha.at i) (hb.at i);obtain⟨r,hr⟩:=aw (a.getD i rz);obtain⟨s,hs⟩:=aw (b.getD i rz);rw[hr] at iG bP bU;rw[hs] at kS bP bU;have aey:=JU r;have aez:=JU s;have a_:=d8 (rs:=DW T i a) (i:=i) (by omega) (decide ((r.q+s.q).num<0)) (ai (r.q+s.q).num.natAbs) (ai (r.q+s.q).den);have ue:(⟨decide ((r.q+s.q).num<0),ai (r.q+s.q).num.natAbs,ai (r.q+s.q).den⟩:Raw)=cn (r.q+s.q):=rfl;rw[ue,bP] at a_;rw[bk,bB,bB] at bU;unfold Raw.v at bU aey aez;refine aX ?_
 refine bR ?_ ?_
 .intro h1 h2;refine ae (aQ h2 iG) ?_
  repeat refine ag ?_
  refine aW aey ?_;refine ae @append_nil.{0} ?_;by_cases h3:(r.num.length:Int)=0
  .have Ll:((r.num.length:Int)==0)=true:=by rw[beq_iff_eq];exact h3
   refine ae (aQ Ll kS) ?_
   repeat refine ag ?_
   refine aW aez ?_;by_cases h4:(s.num.length:Int)=0
   .have Xn:((s.num.length:Int)==0)=true:=by rw[beq_iff_eq];exact h4
    have jL:r.q+s.q=0:=by rw[Cu h3,Cu h4,Rat.add_zero]
    rw[jL] at a_;refine ae (aQ Xn @append_nil.{0}) ?_;refine aW tT ?_;refine ae (aQ a_ @append_nil.{0}) ?_
    repeat refine ag ?_
    refine ax (i+1) ?_ (by omega);exact vf [0,1,2]
   have Xn:((s.num.length:Int)==0)=false:=by rw[qx];exact h4
   refine ae (aQ Xn @append_nil.{0}) ?_;refine dw (by kernel_rfl) ?_;refine ae (aQ iG kS) ?_
   repeat refine ag ?_
   refine aW bU ?_;refine ae (aQ a_ @append_nil.{0}) ?_
   repeat refine ag ?_
   refine ax (i+1) ?_ (by omega);exact vf [0,1,2]
  have Ll:((r.num.length:Int)==0)=false:=by rw[qx];exact h3
  refine ae Ll ?_;refine dw (by kernel_rfl) ?_;refine ae (aQ iG kS) ?_
  repeat refine ag ?_
  refine aW bU ?_;refine ae (aQ a_ @append_nil.{0}) ?_
  repeat refine ag ?_
  refine ax (i+1) ?_ (by omega);exact vf [0,1,2]
 intro h1 h2;have uc:i=8:=by omega
 subst uc;rw[J0 (n:=8+1) lT la] at a_;simp only[reduceMul,reduceAdd] at iG kS a_;have qW:(flat T).length=27:=by rw[ah];omega
 refine ae (bZ h2 iG kS) ?_
 repeat refine ag ?_
 refine aW bU ?_;simp -dsimp(disch:=omega) only[a_,qW,ar lT,↓reduceIte,reduceAdd,Nat.reduceLT,Nat.reduceLeDiff,ru,zu]
 repeat refine ag ?_
 exact RetOK.form rfl rfl lT
theorem Pa (a b:List Raw) (ha:LOk 1000000000 a) (hb:LOk 1000000000 b):Den Tryz.prog 201 [] [RL a,RL b] [] (.int .i64 (bS a b)):=by
 have la:=ha.len;have lb:=hb.len;have fa:=ah a;have fb:=ah b;unfold RL;refine dq Tryz.func201 26 0 ?_;refine aX ?_
 repeat refine ag ?_
 refine wl (α:=Nat) (fun i=>⟨[.any,.any,.ptr 0 0 0,.ptr 1 0 0,.any,.any,.any,.int .i64 i]++replicate 20 .any,[.box true (flat a),.box true (flat b)]⟩)
  (fun i=>8 - i) (fun i=>i<=8/\bS (a.drop i) (b.drop i)=bS a b) 0 ?_ ?_ ?_
 .exact vf [0,1]
 .exact⟨eH _,rfl⟩
 rintro i ⟨hi,bO⟩;have iG:=cU (rs:=a) (i:=i) (by omega);have kS:=cU (rs:=b) (i:=i) (by omega);have bU:=acy (a.getD i rz) (b.getD i rz) (ha.at i) (hb.at i);have kM:=A5 (a:=a) (b:=b) (i:=i) (by omega) (by omega);have fG:i=8->bS (a.drop i) (b.drop i)=gk ((a.getD i rz).q - (b.getD i rz).q):=fun h=>LR (by omega) (by omega)
 obtain⟨r,hr⟩:=aw (a.getD i rz);obtain⟨s,hs⟩:=aw (b.getD i rz);rw[hr] at iG bU kM fG;rw[hs] at kS bU kM fG;obtain⟨z,hz⟩:=aw (gk (r.q - s.q));rw[hz] at bU kM fG;unfold Raw.v at bU;refine aX ?_;refine bR ?_ ?_
 .intro h1 h2;refine ae h2 ?_;refine dw (by kernel_rfl) ?_;refine ae (aQ iG kS) ?_
  repeat refine ag ?_
  refine aW bU ?_;refine ae @append_nil.{0} ?_;refine Br.bneInt ?_ ?_
  .intro h3 h4;rw[if_neg h3] at kM;rw[<-bO,kM];refine ae h4 ?_;refine bg rfl
  intro h3 h4;rw[if_pos h3] at kM;refine ae h4 ?_;refine ax (i+1) ?_ ⟨by omega,by rw[<-kM,bO]⟩;exact vf [0,1]
 intro h1 h2;have uc:i=8:=by omega
 have iK:=fG uc;subst uc;simp only[reduceMul] at iG kS;rw[<-bO,iK];refine ae (bZ h2 iG kS) ?_
 repeat refine ag ?_
 refine aW bU ?_;refine ae @append_nil.{0} ?_;refine bg rfl
theorem CD {a:List Raw} {i:Nat} (ha:a.length=9) (hi:i<8) (h:(a.getD i rz).q≠0):dB a=false:=by
 unfold dB;rw[List.all_eq_false];refine⟨a.getD i rz,?_,fun h2=>h (of_decide_eq_true h2)⟩;rw[qa,qb (by omega)];exact mem_take_iff_getElem.2 ⟨i,by omega,rfl⟩
theorem EF {a:List Raw} (h: ∀ i,i<8->(a.getD i rz).q=0):dB a=true:=by
 unfold dB;rw[v7];intro r hr;obtain⟨i,hi,rfl⟩:=mem_take_iff_getElem.1 hr;have:=h i (by omega);rw[qa,qb (by omega)] at this;exact ib this
theorem Pb (a:List Raw) (ha:LOk 1000000000 a):Den Tryz.prog 145 [] [RL a] [] (.bool (dB a)):=by
 have la:=ha.len;have fa:=ah a;have gN:List.take 24 (flat a)=flat (a.take 8):=pS 8 a;have f8:(flat (a.take 8)).length=24:=by rw[ah,length_take];omega
 unfold RL;refine dq Tryz.func145 13 0 ?_;refine b8 gN ?_
 repeat refine ag ?_
 refine wl (α:=Nat) (fun i=>⟨[.any,.ptr 0 0 0,.any,.any,.any,.any,.agg (flat (a.take 8)),.int .i64 i]++replicate 6 .any,[.box true (flat a)]⟩)
  (fun i=>8 - i) (fun i=>i<=8/\ ∀ j,j<i->(a.getD j rz).q=0) 0 ?_ ?_ ?_
 .refine eV [0] ?_ ?_
  .simp[bc,dX,cB,dp]
  simp[ez,fL,dp]
 .exact⟨eH _,fun j h=>by omega⟩
 rintro i ⟨hi,bO⟩;refine aX ?_;refine bR ?_ ?_
 .intro h1 h2;have gV:=cU (rs:=a.take 8) (i:=i) (by rw[length_take];omega);have Au:(a.take 8).getD i rz=a.getD i rz:=by
   simp only[qa,List.getElem?_take];rw[if_pos (by omega)]
  rw[Au] at gV;have bU:=mf (a.getD i rz) ((ha.at i).mono (by decide));obtain⟨r,hr⟩:=aw (a.getD i rz);rw[hr] at gV bU;unfold Raw.v at bU;refine ae (bZ h2 gV @append_nil.{0}) ?_
  repeat refine ag ?_
  refine aW bU ?_;refine ae @append_nil.{0} ?_;refine Br.bneInt ?_ ?_
  .intro h3 h4;rw[CD (i:=i) la (by omega) (by rw[hr];exact fun h=>h3 (bm.2 h))];refine ae h4 ?_;refine bg rfl
  intro h3 h4;refine ae h4 ?_;refine ax (i+1) ?_ ⟨by omega,fun j hj=>?_⟩
  .refine eV [0] ?_ ?_
   .simp[bc,dX,cB,dp]
   simp[ez,fL,dp]
  by_cases DE:j=i
  .rw[DE,hr];exact bm.1 h3
  exact bO j (by omega)
 intro h1 h2;rw[EF (fun j hj=>bO j (by omega))];refine ae h2 ?_;refine bg rfl
set_option maxHeartbeats 4000000
end Go.Proofs.YtjjbkjgifdhlcaaGreat
namespace Go.Pl
open Go.AM
theorem kW {q:Rat}:gk q<0↔q<0:=by
 have h:=uy (x:=q) (y:=0);have e:q - 0=q:=by grind
 rw[e] at h;exact h
theorem kX {q:Rat}:0<gk q↔0<q:=by
 have h:=O2 (x:=q) (y:=0);have e:q - 0=q:=by grind
 rw[e] at h;exact h
theorem rS {q:Rat} (h:0<q):gk q=1:=by
 have:=kX.2 h;rcases ke q with h1 | h1 | h1<;>omega
theorem xD {q:Rat} (h:q<0):gk q= -1:=by
 have:=kW.2 h;rcases ke q with h1 | h1 | h1<;>omega
theorem Pd {a:List Raw} {v i:Nat} (hi:i<a.length):(a.set v rz).getD i rz=if v=i then rz else a.getD i rz:=by
 simp only[qa,getElem?_set];split
 .rename_i h;subst h;simp[hi]
 rfl
theorem oQ {a:List Raw} {i:Nat} (g:Raw->Rat) (hi:i<a.length):(((a.map g).map cn).getD i rz).q=g (a.getD i rz):=by
 have:((a.map g).map cn).getD i rz=cn (g (a.getD i rz)):=by simp[qa,hi]
 rw[this,cQ]
def co (a:List Raw) (i:Nat):Rat:=(a.getD i rz).q
def lv (a:List Raw) (x:Nat->Rat):Nat->Rat
 | 0=>co a 8
 | k+1=>lv a x k+co a k*x k
def aF (a:List Raw) (x:Nat->Rat):Rat:=lv a x 8
def CE (cs:List (List Raw)):Prop:= ∃ x:Nat->Rat,∀ l∈cs,0<aF l x
def upd (x:Nat->Rat) (v:Nat) (t:Rat):Nat->Rat:=fun i=>if i=v then t else x i
theorem Pe {a:List Raw} {x:Nat->Rat} {v:Nat} {t:Rat}: ∀ k,lv a (upd x v t) k=lv a x k+(if v<k then co a v*(t - x v) else 0)
 | 0=>by unfold lv;rw[if_neg (by omega)];grind
 | k+1=>by
  unfold lv;rw[Pe k];by_cases h:v=k
  .subst h;rw[if_neg (by omega),if_pos (by omega)];simp only[upd,if_pos];grind
  have h2:upd x v t k=x k:=if_neg (fun h3=>h h3.symm);rw[h2];by_cases h3:v<k
  .rw[if_pos h3,if_pos (by omega)];grind
  rw[if_neg h3,if_neg (by omega)];grind
theorem fU {a:List Raw} {x:Nat->Rat} {v:Nat} {t:Rat} (hv:v<8):aF a (upd x v t)=aF a x+co a v*(t - x v):=by
 unfold aF;rw[Pe,if_pos hv]
theorem xE {a b:List Raw} {x:Nat->Rat} (h: ∀ i,i<9->co a i=co b i): ∀ k,k<=8->lv a x k=lv b x k
 | 0,_=>h 8 (by omega)
 | k+1,hk=>by unfold lv;rw[xE h k (by omega),h k (by omega)]
theorem Pf {a b c:List Raw} {r s:Rat} {x:Nat->Rat} (h: ∀ i,i<9->co c i=r*co a i+s*co b i): ∀ k,k<=8->lv c x k=r*lv a x k+s*lv b x k
 | 0,_=>h 8 (by omega)
 | k+1,hk=>by unfold lv;rw[Pf h k (by omega),h k (by omega)];grind
theorem s5 {a b c:List Raw} {r s:Rat} {x:Nat->Rat} (h: ∀ i,i<9->co c i=r*co a i+s*co b i):aF c x=r*aF a x+s*aF b x:=Pf h 8 (by omega)
theorem Pg: ∀ L:List Rat,L≠[]-> ∃ m∈L,∀ l∈L,l<=m
 | [],h=>absurd rfl h
 | [a],_=>⟨a,by simp,fun l hl=>by simp at hl;subst hl;exact Rat.le_refl⟩
 | a::b::t,_=>by
  obtain⟨m,hm,h⟩:=Pg (b::t) (by simp);by_cases hc:a<=m
  .exact⟨m,mem_cons_of_mem _ hm,fun l hl=>by
    rcases List.mem_cons.1 hl with h1 | h1
    .rw[h1];exact hc
    exact h l h1⟩
  exact⟨a,by simp,fun l hl=>by
   rcases List.mem_cons.1 hl with h1 | h1
   .rw[h1];exact Rat.le_refl
   have:=h l h1;grind⟩
theorem HK: ∀ L:List Rat,L≠[]-> ∃ m∈L,∀ l∈L,m<=l
 | [],h=>absurd rfl h
 | [a],_=>⟨a,by simp,fun l hl=>by simp at hl;subst hl;exact Rat.le_refl⟩
 | a::b::t,_=>by
  obtain⟨m,hm,h⟩:=HK (b::t) (by simp);by_cases hc:m<=a
  .exact⟨m,mem_cons_of_mem _ hm,fun l hl=>by
    rcases List.mem_cons.1 hl with h1 | h1
    .rw[h1];exact hc
    exact h l h1⟩
  exact⟨a,by simp,fun l hl=>by
   rcases List.mem_cons.1 hl with h1 | h1
   .rw[h1];exact Rat.le_refl
   have:=h l h1;grind⟩
theorem S8 (L U:List Rat) (h: ∀ l∈L,∀ u∈U,l<u): ∃ m,(∀ l∈L,l<m)/\(∀ u∈U,m<u):=by
 by_cases hL:L=[]
 .by_cases hU:U=[]
  .subst hL;subst hU;exact⟨0,by simp,by simp⟩
  obtain⟨m,hm,vj⟩:=HK U hU;subst hL;exact⟨m - 1,by simp,fun u hu=>by have:=vj u hu;grind⟩
 obtain⟨m,hm,wz⟩:=Pg L hL;by_cases hU:U=[]
 .subst hU;exact⟨m+1,fun l hl=>by have:=wz l hl;grind,by simp⟩
 obtain⟨w,hw,vj⟩:=HK U hU;have hmw:=h m hm w hw;exact⟨(m+w) / 2,fun l hl=>by have:=wz l hl;grind,fun u hu=>by have:=vj u hu;grind⟩
def q_ (a:List Raw) (v:Nat) (b:List Raw):Prop:=co a v≠0/\ ∀ i,i<9->co b i=if v=i then 0 else co a i*(-1 / co a v)
theorem EG {a b:List Raw} {v:Nat} {x:Nat->Rat} (hb:q_ a v b) (hv:v<8): ∀ k,k<=8->lv a x k=(if v<k then co a v*x v else 0) - co a v*lv b x k
 | 0,_=>by
  have h0:=hb.1;unfold lv;rw[hb.2 8 (by omega),if_neg (by omega),if_neg (by omega)];grind
 | k+1,hk=>by
  have h0:=hb.1;unfold lv;rw[EG hb hv k (by omega),hb.2 k (by omega)];generalize lv b x k=z;by_cases h:v=k
  .subst h;rw[if_neg (by omega),if_pos rfl,if_pos (by omega)];grind
  rw[if_neg h];by_cases h2:v<k
  .rw[if_pos h2,if_pos (by omega)];grind
  rw[if_neg h2,if_neg (by omega)];grind
theorem ni {a b:List Raw} {v:Nat} {x:Nat->Rat} (hb:q_ a v b) (hv:v<8):aF a x=co a v*(x v - aF b x):=by
 unfold aF;rw[EG hb hv 8 (by omega),if_pos hv];grind
theorem Bf {a b:List Raw} {v:Nat} {x:Nat->Rat} (hb:q_ a v b) (hv:v<8) (h:0<co a v):0<aF a x↔aF b x<x v:=by
 rw[ni hb hv];constructor
 .intro h1;rcases Rat.not_le.1 (fun h2:x v<=aF b x=>by
   have h3:0<=aF b x - x v:=by grind
   have h4:=Rat.mul_nonneg (Rat.le_of_lt h) h3;grind) with h5
  exact h5
 intro h1;exact Rat.mul_pos h (by grind)
theorem Bg {a b:List Raw} {v:Nat} {x:Nat->Rat} (hb:q_ a v b) (hv:v<8) (h:co a v<0):0<aF a x↔x v<aF b x:=by
 rw[ni hb hv];have hn:0< -co a v:=by grind
 constructor
 .intro h1;rcases Rat.not_le.1 (fun h2:aF b x<=x v=>by
   have h3:0<=x v - aF b x:=by grind
   have h4:=Rat.mul_nonneg (Rat.le_of_lt hn) h3;grind) with h5
  exact h5
 intro h1;have h2:=Rat.mul_pos hn (show 0<aF b x - x v by grind);grind
def X_ (cs:List (List Raw)) (v:Nat) (B:List Raw->List Raw) (x:Nat->Rat):Prop:=
 (∀ l∈cs,co l v=0->0<aF l x)/\ ∀ l∈cs,∀ u∈cs,0<co l v->co u v<0->aF (B l) x<aF (B u) x
theorem iW {a:List Raw} {x:Nat->Rat} {v:Nat} {t:Rat} (hv:v<8) (h:co a v=0):aF a (upd x v t)=aF a x:=by
 rw[fU hv,h];grind
theorem p6 {a b:List Raw} {v:Nat} (hb:q_ a v b) (hv:v<8):co b v=0:=by
 rw[hb.2 v (by omega),if_pos rfl]
theorem J' {cs:List (List Raw)} {v:Nat} {B:List Raw->List Raw} {x:Nat->Rat} (hv:v<8) (hB: ∀ l∈cs,co l v≠0->q_ l v (B l)) (h: ∀ l∈cs,0<aF l x):X_ cs v B x:=by
 refine⟨fun l hl _=>h l hl,fun l hl u hu h1 h2=>?_⟩;have b1:=(Bf (hB l hl (by grind)) hv h1).1 (h l hl);have b2:=(Bg (hB u hu (by grind)) hv h2).1 (h u hu);grind
theorem S9 {cs:List (List Raw)} {v:Nat} {B:List Raw->List Raw} {x:Nat->Rat} (hv:v<8) (hB: ∀ l∈cs,co l v≠0->q_ l v (B l)) (h:X_ cs v B x): ∃ t,∀ l∈cs,0<aF l (upd x v t):=by
 obtain⟨m,hL,hU⟩:=S8 ((cs.filter (fun l=>decide (0<co l v))).map (fun l=>aF (B l) x)) ((cs.filter (fun l=>decide (co l v<0))).map (fun l=>aF (B l) x)) (by
  intro p hp q hq;simp only[mem_map,mem_filter,decide_eq_true_eq] at hp hq;obtain⟨l,⟨hl,h1⟩,rfl⟩:=hp;obtain⟨u,⟨hu,h2⟩,rfl⟩:=hq;exact h.2 l hl u hu h1 h2)
 refine⟨m,fun l hl=>?_⟩;have hxv:upd x v m v=m:=if_pos rfl;by_cases h0:co l v=0
 .rw[iW hv h0];exact h.1 l hl h0
 have hb:=hB l hl h0;have kN:aF (B l) (upd x v m)=aF (B l) x:=iW hv (p6 hb hv);by_cases h1:0<co l v
 .rw[Bf hb hv h1,kN,hxv];exact hL _ (mem_map.2 ⟨l,mem_filter.2 ⟨hl,ib h1⟩,rfl⟩)
 have h2:co l v<0:=by grind
 rw[Bg hb hv h2,kN,hxv];exact hU _ (mem_map.2 ⟨l,mem_filter.2 ⟨hl,ib h2⟩,rfl⟩)
structure Proj (cs:List (List Raw)) (v:Nat) (out:List (List Raw)):Prop where
 says: ∃ B:List Raw->List Raw,(∀ l∈cs,co l v≠0->q_ l v (B l))/\ ∀ x,(∀ o∈out,0<aF o x)↔X_ cs v B x
theorem EH {a:List Raw} {x:Nat->Rat} (h: ∀ i,i<8->co a i=0): ∀ k,k<=8->lv a x k=co a 8
 | 0,_=>rfl
 | k+1,hk=>by unfold lv;rw[EH h k (by omega),h k (by omega)];grind
theorem d_ {a:List Raw} {x:Nat->Rat} (h: ∀ i,i<8->co a i=0):aF a x=co a 8:=EH h 8 (by omega)
theorem HL {a b:List Raw} {r:Rat} {x:Nat->Rat} (hr:0<r) (h: ∀ i,i<9->co b i=r*co a i):0<aF b x↔0<aF a x:=by
 have e:aF b x=r*aF a x+0*aF a x:=s5 (fun i hi=>by rw[h i hi];grind);have e2:aF b x=r*aF a x:=by rw[e];grind
 rw[e2];constructor
 .intro h1;rcases Rat.not_le.1 (fun h2:aF a x<=0=>by
   have h3:=Rat.mul_nonneg (Rat.le_of_lt hr) (show 0<= -aF a x by grind);grind) with h4
  exact h4
 intro h1;exact Rat.mul_pos hr h1
theorem Proj.mk' {cs out:List (List Raw)} {v:Nat} (B:List Raw->List Raw) (hB: ∀ l∈cs,co l v≠0->q_ l v (B l))
 (h1: ∀ l∈cs,co l v=0-> ∃ o∈out,∀ i,i<9->co o i=co l i) (h2: ∀ l∈cs,∀ u∈cs,0<co l v->co u v<0-> ∃ o∈out,∀ i,i<9->co o i=co (B u) i - co (B l) i)
 (h3: ∀ o∈out,(∃ l∈cs,co l v=0/\ ∀ i,i<9->co o i=co l i)\/ ∃ l∈cs,∃ u∈cs,0<co l v/\co u v<0/\ ∀ i,i<9->co o i=co (B u) i - co (B l) i):Proj cs v out:=by
 refine⟨B,hB,fun x=>⟨fun h=>⟨fun l hl h0=>?_,fun l hl u hu hp hn=>?_⟩,fun h o ho=>?_⟩⟩
 .obtain⟨o,ho,he⟩:=h1 l hl h0
  have e:aF o x=aF l x:=xE he 8 (by omega)
  rw[<-e];exact h o ho
 .obtain⟨o,ho,he⟩:=h2 l hl u hu hp hn
  have e:aF o x=1*aF (B u) x+(-1)*aF (B l) x:=s5 (fun i hi=>by rw[he i hi];grind)
  have:=h o ho
  grind
 rcases h3 o ho with⟨l,hl,h0,he⟩ | ⟨l,hl,u,hu,hp,hn,he⟩
 .have e:aF o x=aF l x:=xE he 8 (by omega)
  rw[e];exact h.1 l hl h0
 have e:aF o x=1*aF (B u) x+(-1)*aF (B l) x:=s5 (fun i hi=>by rw[he i hi];grind)
 have:=h.2 l hl u hu hp hn
 grind
theorem lK {α:Type} {lt:α->α->Prop} (asymm: ∀ a b,lt a b-> ¬lt b a): ∀ s t:List α,s.Pairwise lt->t.Pairwise lt->(∀ f,f∈s↔f∈t)->s=t
 | [],[],_,_,_=>rfl
 | [],b::t,_,_,h=>by have:=(h b).2 (by simp);simp at this
 | a::s,[],_,_,h=>by have:=(h a).1 (by simp);simp at this
 | a::s,b::t,hs,ht,h=>by
  have B_:=pairwise_cons.1 hs;have Je:=pairwise_cons.1 ht;have rv:a=b:=by
   rcases List.mem_cons.1 ((h a).1 (by simp)) with h1 | h1
   .exact h1
   rcases List.mem_cons.1 ((h b).2 (by simp)) with h2 | h2
   .exact h2.symm
   exact absurd (Je.1 a h1) (asymm _ _ (B_.1 b h2))
  subst rv;have AD: ¬lt a a:=fun h1=>asymm _ _ h1 h1
  have kL:a∉s:=fun h1=>AD (B_.1 a h1)
  have ub:a∉t:=fun h1=>AD (Je.1 a h1)
  have hm: ∀ f,f∈s↔f∈t:=fun f=>by
   constructor
   .intro h1;rcases List.mem_cons.1 ((h f).1 (mem_cons_of_mem _ h1)) with h2 | h2
    .subst h2;exact absurd h1 kL
    exact h2
   intro h1;rcases List.mem_cons.1 ((h f).2 (mem_cons_of_mem _ h1)) with h2 | h2
   .subst h2;exact absurd h1 ub
   exact h2
  rw[lK asymm s t B_.2 Je.2 hm]
def aO (a:List Raw):Prop:= ∀ i,i<8->co a i=0
def eD (a:List Raw):List Raw:=(nrm a).map cn
structure IsSys (cs s:List (List Raw)):Prop where
 sorted:s.Pairwise (fun a b=>bS a b<0)
 mem: ∀ f,f∈s↔ ∃ l∈cs,¬aO l/\f=eD l
theorem IsSys.unique {cs s t:List (List Raw)} (h1:IsSys cs s) (h2:IsSys cs t):s=t:=
 lK (lt:=fun a b=>bS a b<0) (fun a b h h'=>by rw[dI] at h';omega) s t h1.sorted h2.sorted (fun f=>by rw[h1.mem,h2.mem])
def occ (cs:List (List Raw)) (v:Nat):Bool:=cs.any (fun l=>decide (co l v≠0))
def bA (cs:List (List Raw)):Nat:=((List.range 8).filter (occ cs)).length
theorem fg {cs:List (List Raw)} {v:Nat}:occ cs v=true↔ ∃ l∈cs,co l v≠0:=by
 unfold occ;rw[any_eq_true];constructor
 .rintro⟨l,hl,h⟩;exact⟨l,hl,of_decide_eq_true h⟩
 rintro⟨l,hl,h⟩;exact⟨l,hl,ib h⟩
theorem Bh {p q:Nat->Bool}: ∀ {l:List Nat} {v:Nat},(∀ w∈l,q w=true->p w=true)->v∈l->p v=true->q v=false->(l.filter q).length<(l.filter p).length
 | [],v,_,hv,_,_=>by simp at hv
 | w::l,v,h,hv,hp,hq=>by
  have dR: ∀ l:List Nat,(∀ w∈l,q w=true->p w=true)->(l.filter q).length<=(l.filter p).length:=by
   intro l
   induction l with
   | nil=>intro _;simp
   | cons a l ih=>
    intro h;have ih:=ih (fun w hw=>h w (mem_cons_of_mem _ hw));cases ZJ:q a with
    | true=>
     have SE:=h a (by simp) ZJ;simp[ZJ,SE];omega
    | false=>
     cases SE:p a<;>simp[ZJ,SE]<;>omega
  have hl: ∀ w∈l,q w=true->p w=true:=fun w hw=>h w (mem_cons_of_mem _ hw)
  rcases List.mem_cons.1 hv with h1 | h1
  .subst h1;have:=dR l hl;simp[hq,hp];omega
  have ih:=Bh hl h1 hp hq;cases ZJ:q w with
  | true=>
   have SE:=h w (by simp) ZJ;simp[ZJ,SE];omega
  | false=>
   cases SE:p w<;>simp[ZJ,SE]<;>omega
theorem Ph {cs out:List (List Raw)} {v:Nat} (hv:v<8) (h: ∀ w,w<8->occ out w=true->occ cs w=true) (h1:occ cs v=true) (h2:occ out v=false):bA out<bA cs:=
 Bh (l:=List.range 8) (v:=v) (fun w hw=>h w (List.mem_range.1 hw)) (List.mem_range.2 hv) h1 h2
theorem Bj {cs:List (List Raw)} {v:Nat} (hv:v<8) (h:occ cs v=true):0<bA cs:=by
 unfold bA;exact List.length_pos_iff.2 (fun h2=>by
  have:v∈(List.range 8).filter (occ cs):=mem_filter.2 ⟨List.mem_range.2 hv,h⟩;rw[h2] at this;simp at this)
theorem p7 {a:List Raw} (h: ¬aO a): ∃ v,v<8/\co a v≠0:=by
 rcases Classical.em (∃ v,v<8/\co a v≠0) with h1 | h1
 .exact h1
 exfalso;apply h;intro i hi;rcases Classical.em (co a i=0) with h2 | h2
 .exact h2
 exact absurd ⟨i,hi,h2⟩ h1
theorem p9 {C:Rat} (hC:C≠0): ∀ {rs:List Raw},(bQ ((rs.map (fun r=>r.q / C)).map cn)).q=(bQ rs).q / C
 | []=>by simp only[List.map_nil,bQ];rw[JV];grind
 | [c]=>by simp only[map_cons,List.map_nil,bQ,cQ]
 | r::s::t=>by
  have ih:=p9 hC (rs:=s::t);simp only[map_cons] at ih ⊢;simp only[bQ];rw[cQ];by_cases h:r.q=0
  .rw[if_pos h,if_pos (by rw[h];grind)];exact ih
  rw[if_neg h,if_neg (by grind),cQ]
theorem uK {c:Rat} (h:c≠0):0<fH c:=by
 have h1:c.num<0↔c<0:=eS;unfold fH;split
 .rename_i h2;have:=h1.1 h2;grind
 rename_i h2;have: ¬c<0:=fun h3=>h2 (h1.2 h3)
 grind
theorem HM {c:Rat} (h:c≠0):fH (c / fH c)=1:=by
 have hp:=uK h;have h1:(c / fH c).num<0↔c / fH c<0:=eS;have h2:c.num<0↔c<0:=eS;by_cases hc:c.num<0
 .have e:fH c= -c:=if_pos hc;have qO:=h2.1 hc;have e2:c / fH c= -1:=by rw[e];grind
  rw[e2];rfl
 have e:fH c=c:=if_neg hc;have e2:c / fH c=1:=by rw[e];grind
 rw[e2];rfl
theorem Pj {rs:List Raw} (_:rs.length=9):nrm ((nrm rs).map cn)=nrm rs:=by
 by_cases h:(bQ rs).q=0
 .rw[sS h];apply sS;have hm:=uv (rs:=(replicate 9 (0:Rat)).map cn) (by simp);obtain⟨q,hq,he⟩:=mem_map.1 hm;rw[<-he,cQ];exact List.eq_of_mem_replicate hq
 have h1:=xm h;have hC:=uw h;have h2:(bQ ((nrm rs).map cn)).q=(bQ rs).q / fH (bQ rs).q:=by rw[h1];exact p9 hC
 have h3:(bQ ((nrm rs).map cn)).q≠0:=by rw[h2];grind
 rw[xm h3,h2,HM h,List.map_map];have h4:(fun r:Raw=>r.q / 1) ∘ cn=id:=by
  funext q;simp only[Function.comp,cQ,id];grind
 rw[h4,List.map_id]
theorem Ya {a:List Raw} {i:Nat} (h:i<a.length):a.getD i rz∈a:=by
 rw[qa,qb h];exact kj h
theorem wI {l:List Raw} (hl:l.length=9) (h: ¬aO l):(bQ l).q≠0:=fun h0=>h (fun i hi=>rI h0 _ (Ya (by omega)))
theorem oT {l:List Raw} (hl:l.length=9):(eD l).length=9:=by
 unfold eD nrm;rw[length_map];split
 .simp
 rw[length_map,hl]
theorem nj {l:List Raw} (hl:l.length=9) (h:(bQ l).q≠0) {i:Nat} (hi:i<9):co (eD l) i=co l i / fH (bQ l).q:=by
 unfold co eD;rw[xm h];exact oQ (a:=l) (fun r=>r.q / fH (bQ l).q) (by omega)
theorem xF {l:List Raw} (hl:l.length=9) (h: ¬aO l): ∃ r:Rat,0<r/\ ∀ i,i<9->co (eD l) i=r*co l i:=by
 have h0:=wI hl h;have hp:=uK h0;refine⟨1 / fH (bQ l).q,?_,fun i hi=>by rw[nj hl h0 hi];grind⟩;have:=Rat.inv_pos (a:=fH (bQ l).q) |>.2 hp;have e:1 / fH (bQ l).q=(fH (bQ l).q)⁻¹:=by grind
 rw[e];exact this
theorem rU {l:List Raw} (hl:l.length=9) (h: ¬aO l): ¬aO (eD l):=by
 obtain⟨r,hr,he⟩:=xF hl h;intro h2;apply h;intro i hi;have h3:=h2 i hi;rw[he i (by omega)] at h3;rcases Rat.mul_eq_zero.1 h3 with h4 | h4
 .rw[h4] at hr;exact absurd hr (Rat.lt_irrefl)
 exact h4
theorem CF {l:List Raw} (hl:l.length=9) (h: ¬aO l) {i:Nat} (hi:i<9):(co (eD l) i=0↔co l i=0):=by
 obtain⟨r,hr,he⟩:=xF hl h;rw[he i hi];constructor
 .intro h3;rcases Rat.mul_eq_zero.1 h3 with h4 | h4
  .rw[h4] at hr;exact absurd hr (Rat.lt_irrefl)
  exact h4
 intro h3;rw[h3,Rat.mul_zero]
theorem EI {l:List Raw} (hl:l.length=9) (h: ¬aO l) {x:Nat->Rat}:0<aF (eD l) x↔0<aF l x:=by
 obtain⟨r,hr,he⟩:=xF hl h;exact HL hr he
theorem L5 {l:List Raw} (hl:l.length=9):eD (eD l)=eD l:=by
 unfold eD;rw[Pj hl]
theorem wJ {k:Nat} {l:List Raw} (h:LOk k l) (hk:1<=k):LOk (2*k) (eD l):=by
 refine LOk.of_map ?_ ?_
 .have:=oT h.len;unfold eD at this;rwa [length_map] at this
 intro x hx;by_cases h0:(bQ l).q=0
 .rw[sS h0] at hx;rw[List.eq_of_mem_replicate hx];exact Bd.zero (by omega)
 rw[xm h0] at hx;simp only[mem_map] at hx;obtain⟨r,hr,rfl⟩:=hx;have cM:l≠[]:=fun h2=>by rw[h2] at hr;simp at hr
 have b1:=(h.ok _ hr).bd hk;have b2:=(h.ok _ (uv cM)).bd hk;have b3:Bd k (fH (bQ l).q):=by unfold fH;split;exact b2.neg;exact b2
 exact Bd.mono (b1.div b3 (uw h0) (by omega)) (by omega)
def In (cs:List (List Raw)) (x:Nat->Rat):Prop:= ∀ l∈cs,0<aF l x\/(aO l/\aF l x=0)
def iX (cs:List (List Raw)) (x:Nat->Rat):Prop:= ∀ l∈cs,0<aF l x
def EJ (cs:List (List Raw)):Prop:= ∃ l∈cs,aO l/\co l 8<0
theorem S_ {cs:List (List Raw)} (h:EJ cs) (x:Nat->Rat): ¬In cs x:=by
 obtain⟨l,hl,hc,hn⟩:=h;intro hi;have e:aF l x=co l 8:=d_ hc;rcases hi l hl with h1 | ⟨_,h1⟩<;>rw[e] at h1<;>grind
theorem xG {cs s:List (List Raw)} (h9: ∀ l∈cs,l.length=9) (h:IsSys cs s) (hv: ¬EJ cs) (x:Nat->Rat):In cs x↔iX s x:=by
 constructor
 .intro hi f hf;obtain⟨l,hl,hc,rfl⟩:=(h.mem f).1 hf;rw[EI (h9 l hl) hc];rcases hi l hl with h1 | ⟨h1,_⟩
  .exact h1
  exact absurd h1 hc
 intro hp l hl;rcases Classical.em (aO l) with hc | hc
 .have e:aF l x=co l 8:=d_ hc;rw[e];by_cases h0:co l 8=0
  .exact Or.inr ⟨hc,h0⟩
  left;have: ¬co l 8<0:=fun h1=>hv ⟨l,hl,hc,h1⟩
  grind
 left;rw[<-EI (h9 l hl) hc];exact hp _ ((h.mem _).2 ⟨l,hl,hc,rfl⟩)
structure SysF (k:Nat) (s:List (List Raw)):Prop where
 sorted:s.Pairwise (fun a b=>bS a b<0)
 ok: ∀ l∈s,LOk k l
 nc: ∀ l∈s,¬aO l
 nm: ∀ l∈s,eD l=l
theorem SysF.of {cs s:List (List Raw)} {k:Nat} (h9: ∀ l∈cs,l.length=9) (h:IsSys cs s) (hk: ∀ l∈cs,¬aO l->LOk k (eD l)):SysF k s:=by
 refine⟨h.sorted,fun f hf=>?_,fun f hf=>?_,fun f hf=>?_⟩<;>obtain⟨l,hl,hc,rfl⟩:=(h.mem f).1 hf
 .exact hk l hl hc
 .exact rU (h9 l hl) hc
 exact L5 (h9 l hl)
theorem SysF.self {k:Nat} {s:List (List Raw)} (h:SysF k s):IsSys s s:=⟨h.sorted,fun f=>⟨fun hf=>⟨f,hf,h.nc f hf,(h.nm f hf).symm⟩,fun⟨l,hl,_,he⟩=>by rw[he,h.nm l hl];exact hl⟩⟩
theorem Ka {cs s:List (List Raw)} (h9: ∀ l∈cs,l.length=9) (h:IsSys cs s) {w:Nat} (hw:w<8):occ s w=true↔occ cs w=true:=by
 rw[fg,fg];constructor
 .rintro⟨f,hf,h0⟩;obtain⟨l,hl,hc,rfl⟩:=(h.mem f).1 hf;exact⟨l,hl,fun h1=>h0 ((CF (h9 l hl) hc (by omega)).2 h1)⟩
 rintro⟨l,hl,h0⟩;have hc: ¬aO l:=fun h1=>h0 (h1 w hw)
 exact⟨eD l,(h.mem _).2 ⟨l,hl,hc,rfl⟩,fun h1=>h0 ((CF (h9 l hl) hc (by omega)).1 h1)⟩
theorem dh {a:List Raw} (ha:a.length=9):dB a=true↔aO a:=by
 unfold dB aO;rw[v7];constructor
 .intro h i hi;refine of_decide_eq_true (h (a.getD i rz) ?_);rw[qa,qb (by omega)];exact mem_take_iff_getElem.2 ⟨i,by omega,rfl⟩
 intro h r hr;obtain⟨i,hi,rfl⟩:=mem_take_iff_getElem.1 hr;have:=h i (by omega);unfold co at this;rw[qa,qb (by omega)] at this;exact ib this
def cF (v:Nat) (l:List Raw):List Raw:=((l.set v rz).map (fun r=>r.q*(-1 / (l.getD v rz).q))).map cn
def dC (l:List Raw):List Raw:=(l.map (fun r=>r.q*((-1:Int):Rat))).map cn
def cu (u l:List Raw):List Raw:=(m6 u (dC l)).map cn
def aN (s:List (List Raw)) (v:Nat):List (List Raw):=(s.filter (fun l=>decide (0<co l v))).map (cF v)
def ay (s:List (List Raw)) (v:Nat):List (List Raw):=(s.filter (fun l=>decide (co l v<0))).map (cF v)
def dT (s:List (List Raw)) (v:Nat):List (List Raw):=s.filter (fun l=>decide (co l v=0))
def fQ (s:List (List Raw)) (v:Nat):List (List Raw):=dT s v++(ay s v).flatMap fun u=>(aN s v).map fun l=>cu u l
def Ta (s:List (List Raw)) (v:Nat):Prop:= ∃ u∈ay s v,∃ l∈aN s v,aO (cu u l)/\co (cu u l) 8<=0
theorem cj {v:Nat} {l:List Raw} (h:l.length=9):(cF v l).length=9:=by simp[cF,h]
theorem er {l:List Raw} (h:l.length=9):(dC l).length=9:=by simp[dC,h]
theorem fW {u l:List Raw} (hu:u.length=9) (hl:l.length=9):(cu u l).length=9:=by
 unfold cu;rw[length_map,fT hu (er hl)]
theorem dN {v:Nat} {l:List Raw} (h:l.length=9) (h0:co l v≠0):q_ l v (cF v l):=by
 refine⟨h0,fun i hi=>?_⟩;unfold co cF;rw[oQ _ (by rw[qkb];omega),Pd (by omega)];by_cases hv:v=i
 .rw[if_pos hv,if_pos hv,JV];grind
 rw[if_neg hv,if_neg hv]
theorem jg {l:List Raw} (h:l.length=9) {i:Nat} (hi:i<9):co (dC l) i= -co l i:=by
 unfold co dC;rw[oQ _ (by omega)];grind
theorem kY {u l:List Raw} (hu:u.length=9) (hl:l.length=9) {i:Nat} (hi:i<9):co (cu u l) i=co u i - co l i:=by
 have h1:=jg hl hi;unfold co at h1 ⊢;unfold cu;rw[pX (by omega) (by rw[er hl];omega),cQ,h1];grind
theorem ec {s:List (List Raw)} {v:Nat} {b:List Raw}:b∈aN s v↔ ∃ l∈s,0<co l v/\b=cF v l:=by
 unfold aN;simp only[mem_map,mem_filter,decide_eq_true_eq];constructor
 .rintro⟨l,⟨h1,h2⟩,rfl⟩;exact⟨l,h1,h2,rfl⟩
 rintro⟨l,h1,h2,rfl⟩;exact⟨l,⟨h1,h2⟩,rfl⟩
theorem dD {s:List (List Raw)} {v:Nat} {b:List Raw}:b∈ay s v↔ ∃ l∈s,co l v<0/\b=cF v l:=by
 unfold ay;simp only[mem_map,mem_filter,decide_eq_true_eq];constructor
 .rintro⟨l,⟨h1,h2⟩,rfl⟩;exact⟨l,h1,h2,rfl⟩
 rintro⟨l,h1,h2,rfl⟩;exact⟨l,⟨h1,h2⟩,rfl⟩
theorem fX {s:List (List Raw)} {v:Nat} {b:List Raw}:b∈dT s v↔b∈s/\co b v=0:=by
 unfold dT;simp only[mem_filter,decide_eq_true_eq]
theorem kZ {s:List (List Raw)} {v:Nat} {o:List Raw}:o∈fQ s v↔(o∈s/\co o v=0)\/ ∃ l∈s,∃ u∈s,0<co l v/\co u v<0/\o=cu (cF v u) (cF v l):=by
 unfold fQ;rw[qr,fX,List.mem_flatMap];constructor
 .rintro(h | ⟨u,hu,h⟩)
  .exact Or.inl h
  right;obtain⟨l,hl,rfl⟩:=mem_map.1 h;obtain⟨u',h1,h2,rfl⟩:=dD.1 hu;obtain⟨l',h3,h4,rfl⟩:=ec.1 hl;exact⟨l',h3,u',h1,h4,h2,rfl⟩
 rintro(h | ⟨l,hl,u,hu,h1,h2,rfl⟩)
 .exact Or.inl h
 exact Or.inr ⟨_,dD.2 ⟨u,hu,h2,rfl⟩,mem_map.2 ⟨_,ec.2 ⟨l,hl,h1,rfl⟩,rfl⟩⟩
theorem nk {s:List (List Raw)} {v:Nat} (h9: ∀ l∈s,l.length=9): ∀ o∈fQ s v,o.length=9:=by
 intro o ho;rcases kZ.1 ho with⟨h,_⟩ | ⟨l,hl,u,hu,_,_,rfl⟩
 .exact h9 o h
 exact fW (cj (h9 u hu)) (cj (h9 l hl))
theorem EK {s:List (List Raw)} {v:Nat} (h9: ∀ l∈s,l.length=9):Proj s v (fQ s v):=by
 refine Proj.mk' (cF v) (fun l hl h0=>dN (h9 l hl) h0) (fun l hl h0=>⟨l,kZ.2 (Or.inl ⟨hl,h0⟩),fun _ _=>rfl⟩)
  (fun l hl u hu h1 h2=>⟨_,kZ.2 (Or.inr ⟨l,hl,u,hu,h1,h2,rfl⟩),fun i hi=>kY (cj (h9 u hu)) (cj (h9 l hl)) hi⟩) (fun o ho=>?_)
 rcases kZ.1 ho with⟨h,h0⟩ | ⟨l,hl,u,hu,h1,h2,rfl⟩
 .exact Or.inl ⟨o,h,h0,fun _ _=>rfl⟩
 exact Or.inr ⟨l,hl,u,hu,h1,h2,fun i hi=>kY (cj (h9 u hu)) (cj (h9 l hl)) hi⟩
theorem Kb {s:List (List Raw)} {v:Nat} (hv:v<8) (h9: ∀ l∈s,l.length=9): ∀ o∈fQ s v,co o v=0:=by
 intro o ho;rcases kZ.1 ho with⟨_,h⟩ | ⟨l,hl,u,hu,h1,h2,rfl⟩
 .exact h
 rw[kY (cj (h9 u hu)) (cj (h9 l hl)) (by omega),p6 (dN (h9 u hu) (by grind)) hv,p6 (dN (h9 l hl) (by grind)) hv];grind
theorem Tb {s:List (List Raw)} {v w:Nat} (hw:w<8) (h9: ∀ l∈s,l.length=9) (h:occ (fQ s v) w=true):occ s w=true:=by
 rw[fg] at h ⊢;obtain⟨o,ho,h0⟩:=h;rcases kZ.1 ho with⟨h,_⟩ | ⟨l,hl,u,hu,h1,h2,rfl⟩
 .exact⟨o,h,h0⟩
 rw[kY (cj (h9 u hu)) (cj (h9 l hl)) (by omega)] at h0;have e1:=(dN (h9 u hu) (v:=v) (by grind)).2 w (by omega);have e2:=(dN (h9 l hl) (v:=v) (by grind)).2 w (by omega);by_cases c1:co u w=0
 .by_cases c2:co l w=0
  .exfalso;apply h0;rw[e1,e2,c1,c2];split<;>grind
  exact⟨l,hl,c2⟩
 exact⟨u,hu,c1⟩
theorem Tc {k:Nat} {s s':List (List Raw)} {v:Nat} (hs:SysF k s) (hb: ¬Ta s v) (h:IsSys (fQ s v) s') (x:Nat->Rat):iX s' x↔iX (fQ s v) x:=by
 have h9: ∀ l∈s,l.length=9:=fun l hl=>(hs.ok l hl).len
 have aeA: ∀ o∈fQ s v,aO o->0<co o 8:=by
  intro o ho hc;rcases kZ.1 ho with⟨h1,_⟩ | ⟨l,hl,u,hu,h1,h2,rfl⟩
  .exact absurd hc (hs.nc o h1)
  rcases Rat.not_le.1 (fun h3:co (cu (cF v u) (cF v l)) 8<=0=>hb ⟨_,dD.2 ⟨u,hu,h2,rfl⟩,_,ec.2 ⟨l,hl,h1,rfl⟩,hc,h3⟩) with h4
  exact h4
 have hv: ¬EJ (fQ s v):=fun⟨o,ho,hc,hn⟩=>by have:=aeA o ho hc;grind
 rw[<-xG (nk h9) h hv x];constructor
 .intro hi o ho;rcases hi o ho with h1 | ⟨h1,h2⟩
  .exact h1
  have e:aF o x=co o 8:=d_ h1;have:=aeA o ho h1;grind
 intro hp o ho;exact Or.inl (hp o ho)
theorem Pk {s:List (List Raw)} {v:Nat} (hv:v<8) (h: ∀ o∈s,co o v=0) (x:Nat->Rat) (t:Rat):iX s (upd x v t)↔iX s x:=by
 constructor<;>intro hp o ho<;>have:=hp o ho
 .rwa [iW hv (h o ho)] at this
 rwa [iW hv (h o ho)]
theorem EL {k:Nat} {s s':List (List Raw)} {v:Nat} (hv:v<8) (hs:SysF k s) (hb: ¬Ta s v) (h:IsSys (fQ s v) s') (x:Nat->Rat):iX s' x↔ ∃ t,iX s (upd x v t):=by
 have h9: ∀ l∈s,l.length=9:=fun l hl=>(hs.ok l hl).len
 rw[Tc hs hb h x];obtain⟨B,hB,Vm⟩:=(EK (v:=v) h9).says;constructor
 .intro hp;exact S9 hv hB ((Vm x).1 hp)
 rintro⟨t,ht⟩;rw[<-Pk hv (Kb hv h9) x t];exact(Vm _).2 (J' hv hB ht)
theorem Td {k:Nat} {s:List (List Raw)} {v:Nat} (hv:v<8) (hs:SysF k s) (hb:Ta s v) (x:Nat->Rat): ¬iX s x:=by
 intro hp;have h9: ∀ l∈s,l.length=9:=fun l hl=>(hs.ok l hl).len
 obtain⟨B,hB,Vm⟩:=(EK (v:=v) h9).says;have ho:=(Vm x).2 (J' hv hB hp);obtain⟨u,hu,l,hl,hc,hn⟩:=hb;have hm:cu u l∈fQ s v:=List.mem_append.2 (Or.inr (List.mem_flatMap.2 ⟨u,hu,mem_map.2 ⟨l,hl,rfl⟩⟩));have h1:=ho _ hm;have e:aF (cu u l) x=co (cu u l) 8:=d_ hc;grind
theorem rV {α:Type} {p:α->Bool}: ∀ {l:List α},(∀ a∈l,p a=true)->l.filter p=l
 | [],_=>rfl
 | a::l,h=>by rw[List.filter_cons_of_pos (h a (by simp)),rV (fun b hb=>h b (mem_cons_of_mem _ hb))]
theorem gY {α:Type} {p:α->Bool}: ∀ {l:List α},(∀ a∈l,p a=false)->l.filter p=[]
 | [],_=>rfl
 | a::l,h=>by rw[filter_cons_of_neg (by rw[h a (by simp)];simp),gY (fun b hb=>h b (mem_cons_of_mem _ hb))]
theorem Bo {s:List (List Raw)} {v:Nat} (h:occ s v=false): ∀ l∈s,co l v=0:=by
 intro l hl;rcases Classical.em (co l v=0) with h1 | h1
 .exact h1
 have:=fg.2 ⟨l,hl,h1⟩;rw[h] at this;simp at this
theorem xH {s:List (List Raw)} {v:Nat} (h:occ s v=false):fQ s v=s/\aN s v=[]/\ay s v=[]:=by
 have h0:=Bo h;have e1:aN s v=[]:=by unfold aN;rw[gY (fun l hl=>by rw[h0 l hl];decide)];rfl
 have e2:ay s v=[]:=by unfold ay;rw[gY (fun l hl=>by rw[h0 l hl];decide)];rfl
 refine⟨?_,e1,e2⟩;unfold fQ;rw[e2,List.flatMap_nil,append_nil];unfold dT;exact rV (fun l hl=>by rw[h0 l hl];decide)
theorem Te {k v:Nat} {l:List Raw} (h:LOk k l) (hk:1<=k) (h0:co l v≠0): ∀ r∈cF v l,Bd (2*k+1) r.q:=by
 intro r hr;unfold cF at hr;simp only[List.map_map,mem_map,Function.comp] at hr;obtain⟨a,ha,rfl⟩:=hr;rw[cQ];have b1:Bd k a.q:=by
  rcases List.mem_or_eq_of_mem_set ha with h1 | h1
  .exact(h.ok _ h1).bd hk
  rw[h1,JV];exact Bd.zero hk
 have b2:Bd k (l.getD v rz).q:=(h.at v).bd hk;have b0:Bd 1 ((-1:Rat)):=⟨by decide,by decide⟩;exact Bd.mono (b1.mul (b0.div b2 h0 (by omega)) (by omega)) (by omega)
theorem CG {k:Nat} {l:List Raw} (h: ∀ r∈l,Bd k r.q): ∀ r∈dC l,Bd (k+1) r.q:=by
 intro r hr;unfold dC at hr;simp only[List.map_map,mem_map,Function.comp] at hr;obtain⟨a,ha,rfl⟩:=hr;rw[cQ];have b0:Bd 1 (((-1:Int):Rat)):=⟨by decide,by decide⟩;exact(h a ha).mul b0 (by omega)
theorem Kd {k v:Nat} {l:List Raw} (h:LOk k l) (hk:1<=k) (h0:co l v≠0):LOk (2*k+1) (cF v l):=by
 refine LOk.of_map (by rw[length_map,qkb];exact h.len) (fun q hq=>?_);have:=Te h hk h0 (cn q) (by unfold cF;exact mem_map.2 ⟨q,hq,rfl⟩);rwa [cQ] at this
theorem s6 {k:Nat} {l:List Raw} (h:LOk k l) (hk:1<=k):LOk (k+1) (dC l):=by
 refine LOk.of_map (by rw[length_map];exact h.len) (fun q hq=>?_);have:=CG (h.bd hk) (cn q) (by unfold dC;exact mem_map.2 ⟨q,hq,rfl⟩);rwa [cQ] at this
theorem wK {k:Nat} {u l:List Raw} (hu:LOk k u) (hl:LOk k l) (hk:1<=k):LOk (2*k+2) (cu u l):=
 LOk.of_map (fT hu.len (er hl.len)) (fun q hq=>Bd.mono (Cw (hu.bd hk) (CG (hl.bd hk)) (by omega) q hq) (by omega))
theorem CH {k v:Nat} {s:List (List Raw)} (h: ∀ l∈s,LOk k l) (hk:1<=k): ∀ b∈aN s v,LOk (2*k+1) b:=by
 intro b hb;obtain⟨l,hl,h0,rfl⟩:=ec.1 hb;exact Kd (h l hl) hk (by grind)
theorem wL {k v:Nat} {s:List (List Raw)} (h: ∀ l∈s,LOk k l) (hk:1<=k): ∀ b∈ay s v,LOk (2*k+1) b:=by
 intro b hb;obtain⟨l,hl,h0,rfl⟩:=dD.1 hb;exact Kd (h l hl) hk (by grind)
theorem HN {k v:Nat} {s:List (List Raw)} (h: ∀ l∈s,LOk k l) (hk:1<=k): ∀ o∈fQ s v,LOk (4*k+4) o:=by
 intro o ho;unfold fQ at ho;rcases List.mem_append.1 ho with h1 | h1
 .exact(h o (fX.1 h1).1).mono (by omega)
 obtain⟨u,hu,h2⟩:=List.mem_flatMap.1 h1;obtain⟨l,hl,rfl⟩:=mem_map.1 h2;exact(wK (wL h hk u hu) (CH h hk l hl) (by omega)).mono (by omega)
theorem jX {α:Type}: ∀ (s L:List α),s.Pairwise (fun a b=>a≠b)->(∀ f∈s,f∈L)->s.length<=L.length
 | [],_,_,_=>eH _
 | a::s,L,hp,h=>by
  have h2:=pairwise_cons.1 hp;obtain⟨L1,L2,rfl⟩:=List.append_of_mem (h a (by simp));have ih:=jX s (L1++L2) h2.2 (fun f hf=>by
   have h3:=h f (mem_cons_of_mem _ hf);rw[qr,AK] at h3;rw[qr];rcases h3 with h3 | h3 | h3
   .exact Or.inl h3
   .exact absurd h3.symm (h2.1 f hf)
   exact Or.inr h3)
  simp only[qe,length_cons] at ih ⊢;omega
def ncs (cs:List (List Raw)):List (List Raw):=cs.filter (fun l=>!dB l)
theorem jh {cs:List (List Raw)} (h9: ∀ l∈cs,l.length=9) {l:List Raw}:l∈ncs cs↔l∈cs/\ ¬aO l:=by
 unfold ncs;rw[mem_filter];constructor
 .rintro⟨h1,h2⟩;exact⟨h1,fun h3=>by rw[(dh (h9 l h1)).2 h3] at h2;simp at h2⟩
 rintro⟨h1,h2⟩;refine⟨h1,?_⟩;cases h:dB l with
 | false=>rfl
 | true=>exact absurd ((dh (h9 l h1)).1 h) h2
theorem nt {cs s:List (List Raw)} (h9: ∀ l∈cs,l.length=9) (h:IsSys cs s):s.length<=(ncs cs).length:=by
 have:=jX s ((ncs cs).map eD) (h.sorted.imp (fun rv he=>by subst he;have:=dI (by assumption) (by assumption);omega)) (fun f hf=>by
  obtain⟨l,hl,hc,rfl⟩:=(h.mem f).1 hf;exact mem_map.2 ⟨l,(jh h9).2 ⟨hl,hc⟩,rfl⟩)
 rwa [length_map] at this
structure Sz (k:Nat) (s:List (List Raw)):Prop where
 n3:bA s<=3
 c3:bA s=3->s.length<=5/\k<=14
 c2:bA s=2->s.length<=7/\k<=120
 c1:bA s=1->s.length<=12/\k<=1000
theorem nu {s:List (List Raw)} {l:List Raw} (hl:l∈s) (hc: ¬aO l):0<bA s:=by
 obtain⟨v,hv,h0⟩:=p7 hc;exact Bj hv (fg.2 ⟨l,hl,h0⟩)
theorem Sz.all {k:Nat} {s:List (List Raw)} (h:Sz k s) (hp:0<bA s):s.length<=12/\k<=1000:=by
 have h1:=h.n3;have h2:=h.c3;have h3:=h.c2;have h4:=h.c1;have:bA s=1\/bA s=2\/bA s=3:=by omega
 rcases this with h5 | h5 | h5
 .exact h4 h5
 .have:=h3 h5;omega
 have:=h2 h5;omega
theorem Sz.len {k:Nat} {s:List (List Raw)} (h:Sz k s) (hs:SysF k s):s.length<=12:=by
 cases s with
 | nil=>exact eH _
 | cons l t=>exact(h.all (nu (List.mem_cons_self ..) (hs.nc l (by simp)))).1
theorem Sz.lim {k:Nat} {s:List (List Raw)} (h:Sz k s) (hs:SysF k s): ∀ l∈s,LOk 1000 l:=fun l hl=>(hs.ok l hl).mono (h.all (nu hl (hs.nc l hl))).2
theorem cX (s:List (List Raw)) (v:Nat):(dT s v).length+(aN s v).length+(ay s v).length=s.length:=by
 unfold dT aN ay;rw[length_map,length_map]
 induction s with
 | nil=>rfl
 | cons l t ih=>
  rcases Classical.em (co l v=0) with h | h
  .rw[List.filter_cons_of_pos (by simp[h]),filter_cons_of_neg (by rw[h];decide),filter_cons_of_neg (by rw[h];decide)];simp only[length_cons];omega
  rw[filter_cons_of_neg (by simp[h])];rcases Classical.em (0<co l v) with h1 | h1
  .rw[List.filter_cons_of_pos (by simp[h1]),filter_cons_of_neg (by simp;grind)];simp only[length_cons];omega
  rw[filter_cons_of_neg (by simp[h1]),List.filter_cons_of_pos (by simp;grind)];simp only[length_cons];omega
theorem jY {α β:Type} (f:α->β->β): ∀ (H:List α) (L:List β),(H.flatMap fun u=>L.map fun l=>f u l).length=H.length*L.length
 | [],L=>by simp
 | u::H,L=>by
  rw[List.flatMap_cons,qe,length_map,jY f H L,length_cons,Nat.add_mul];omega
theorem rX (s:List (List Raw)) (v:Nat):(fQ s v).length=(dT s v).length+(ay s v).length*(aN s v).length:=by
 unfold fQ;rw[qe,jY (fun u l=>cu u l)]
theorem Pm {p q r:Nat} (h:r+p+q<=7):r+q*p<=12:=by
 have:p=0\/p=1\/p=2\/p=3\/p=4\/p=5\/p=6\/p=7:=by omega
 rcases this with h1 | h1 | h1 | h1 | h1 | h1 | h1 | h1<;>subst h1<;>omega
theorem Yb {p q r:Nat} (h:r+p+q<=5):r+q*p<=7:=by
 have:p=0\/p=1\/p=2\/p=3\/p=4\/p=5:=by omega
 rcases this with h1 | h1 | h1 | h1 | h1 | h1<;>subst h1<;>omega
theorem Tf {p q r:Nat} (h:r+p+q<=12):r+q*p<=100:=by
 have h1:q*p<=12*p:=qn _ (by omega);have h2:p=0\/p=1\/p=2\/p=3\/p=4\/p=5\/p=6\/p=7\/p=8\/p=9\/p=10\/p=11\/p=12:=by omega
 rcases h2 with h1 | h1 | h1 | h1 | h1 | h1 | h1 | h1 | h1 | h1 | h1 | h1 | h1<;>subst h1<;>omega
theorem Tg {k:Nat} {s:List (List Raw)} {v:Nat} (hv:v<8) (hs:SysF k s):occ (fQ s v) v=false:=by
 cases h:occ (fQ s v) v with
 | false=>rfl
 | true=>
  obtain⟨o,ho,h0⟩:=fg.1 h;exact absurd (Kb hv (fun l hl=>(hs.ok l hl).len) o ho) h0
theorem uL {k:Nat} {s:List (List Raw)} {v:Nat} (hv:v<8) (hs:SysF k s) (h:occ s v=true):bA (fQ s v)<bA s:=
 Ph hv (fun _ hw h2=>Tb hw (fun l hl=>(hs.ok l hl).len) h2) h (Tg hv hs)
theorem Th {k:Nat} {s s':List (List Raw)} {v:Nat} (hk:1<=k) (hs:SysF k s) (hi:IsSys (fQ s v) s'):SysF (8*k+8) s':=
 SysF.of (nk (fun l hl=>(hs.ok l hl).len)) hi (fun o ho hc=>(wJ (HN hs.ok hk o ho) (by omega)).mono (by omega))
theorem s7 {s t:List (List Raw)} (h: ∀ w,w<8->occ s w=true->occ t w=true):bA s<=bA t:=by
 unfold bA;have key: ∀ l:List Nat,(∀ w∈l,w<8)->(l.filter (occ s)).length<=(l.filter (occ t)).length:=by
  intro l
  induction l with
  | nil=>intro _;simp
  | cons w l ih=>
   intro hl;have ih2:=ih (fun u hu=>hl u (mem_cons_of_mem _ hu));cases h1:occ s w with
   | false=>
    rw[filter_cons_of_neg (by rw[h1];simp)];have:(l.filter (occ t)).length<=((w::l).filter (occ t)).length:=by
     cases h2:occ t w with
     | false=>rw[filter_cons_of_neg (by rw[h2];simp)];exact qp _
     | true=>rw[List.filter_cons_of_pos h2,length_cons];omega
    omega
   | true=>
    rw[List.filter_cons_of_pos h1,List.filter_cons_of_pos (h w (hl w (by simp)) h1),length_cons,length_cons];omega
 exact key _ (fun w hw=>List.mem_range.1 hw)
theorem uM {cs s:List (List Raw)} (h9: ∀ l∈cs,l.length=9) (h:IsSys cs s):bA s=bA cs:=
 Nat.le_antisymm (s7 (fun _ hw h1=>(Ka h9 h hw).1 h1)) (s7 (fun _ hw h1=>(Ka h9 h hw).2 h1))
def Ti (f:List Raw):List (List Raw)->List (List Raw)
 | []=>[f]
 | a::s=>if bS a f<0 then a::Ti f s else if bS a f=0 then a::s else f::a::s
def IsCn (f:List Raw):Prop:= ∃ qs:List Rat,f=qs.map cn/\qs.length=9
theorem IsCn.len {f:List Raw} (h:IsCn f):f.length=9:=by obtain⟨qs,rfl,hl⟩:=h;simp[hl]
theorem ji {l:List Raw} (h:l.length=9):IsCn (eD l):=by
 have:=oT h;exact⟨nrm l,rfl,by simpa [eD] using this⟩
theorem EM (qs:List Rat):(qs.map cn).map Raw.q=qs:=by
 rw[List.map_map]
 conv=>rhs;rw[<-List.map_id qs]
 exact List.map_congr_left (fun q _=>cQ q)
theorem Bp {f g:List Raw} (hf:IsCn f) (hg:IsCn g) (h:bS f g=0):f=g:=by
 have h2:=(A6 f g (by rw[hf.len,hg.len])).1 h;obtain⟨p,rfl,_⟩:=hf;obtain⟨q,rfl,_⟩:=hg;rw[EM,EM] at h2;rw[h2]
theorem L6 (f:List Raw):bS f f=0:=by have:=dI f f;omega
theorem vz {a b c:List Raw} (ha:IsCn a) (hb:IsCn b) (hc:IsCn c) (h1:bS a b<0) (h2:bS b c<0):bS a c<0:=by
 have h3:=m7 a b c (by rw[ha.len,hb.len]) (by rw[hb.len,hc.len]) (by omega) (by omega);rcases Int.lt_or_eq_of_le h3 with h4 | h4
 .exact h4
 have h5:=Bp ha hc h4;subst h5;rw[dI] at h2;omega
theorem wM {f:List Raw} (hf:IsCn f): ∀ {s:List (List Raw)},(∀ a∈s,IsCn a)-> ∀ g,g∈Ti f s↔g=f\/g∈s
 | [],_,g=>by simp[Ti]
 | a::s,h,g=>by
  unfold Ti;split
  .rw[AK,wM hf (fun b hb=>h b (mem_cons_of_mem _ hb)),AK];exact⟨fun h1=>by rcases h1 with h1 | h1 | h1<;>simp[h1],fun h1=>by rcases h1 with h1 | h1 | h1<;>simp[h1]⟩
  split
  .rename_i h1;have:=Bp (h a (by simp)) hf h1;subst this;simp
  simp
theorem xI {f:List Raw} (hf:IsCn f): ∀ {s:List (List Raw)},(∀ a∈s,IsCn a)->s.Pairwise (fun a b=>bS a b<0)->(Ti f s).Pairwise (fun a b=>bS a b<0)
 | [],_,_=>by simp[Ti]
 | a::s,h,hs=>by
  have h2:=pairwise_cons.1 hs;have Av: ∀ b∈s,IsCn b:=fun b hb=>h b (mem_cons_of_mem _ hb)
  unfold Ti;split
  .rename_i h1;refine pairwise_cons.2 ⟨fun b hb=>?_,xI hf Av h2.2⟩;rcases(wM hf Av b).1 hb with h3 | h3
   .rw[h3];exact h1
   exact h2.1 b h3
  split
  .exact hs
  rename_i h1 h3;have hfa:bS f a<0:=by rw[dI];omega
  refine pairwise_cons.2 ⟨fun b hb=>?_,hs⟩;rcases List.mem_cons.1 hb with h4 | h4
  .rw[h4];exact hfa
  exact vz hf (h a (by simp)) (Av b h4) hfa (h2.1 b h4)
def sysL:List (List Raw)->List (List Raw)->List (List Raw)
 | [],s=>s
 | l::cs,s=>if dB l then sysL cs s else sysL cs (Ti (eD l) s)
theorem xJ: ∀ (cs s:List (List Raw)),(∀ l∈cs,l.length=9)->(∀ a∈s,IsCn a)->s.Pairwise (fun a b=>bS a b<0)->
 (sysL cs s).Pairwise (fun a b=>bS a b<0)/\ ∀ f,f∈sysL cs s↔f∈s\/ ∃ l∈cs,¬aO l/\f=eD l
 | [],s,_,_,hp=>⟨hp,fun f=>by simp[sysL]⟩
 | l::cs,s,h9,hs,hp=>by
  have hl:=h9 l (by simp);have h9': ∀ l∈cs,l.length=9:=fun k hk=>h9 k (mem_cons_of_mem _ hk)
  unfold sysL;by_cases hc:dB l=true
  .rw[if_pos hc];obtain⟨h1,h2⟩:=xJ cs s h9' hs hp;refine⟨h1,fun f=>?_⟩;rw[h2];have hk:=(dh hl).1 hc;constructor
   .rintro(h3 | ⟨k,hk,h3⟩)
    .exact .inl h3
    exact .inr ⟨k,mem_cons_of_mem _ hk,h3⟩
   rintro(h3 | ⟨k,iJ,h3⟩)
   .exact .inl h3
   rcases List.mem_cons.1 iJ with h4 | h4
   .subst h4;exact absurd hk h3.1
   exact .inr ⟨k,h4,h3⟩
  rw[if_neg hc];have qY:=fun h=>hc ((dh hl).2 h)
  have ue:=ji hl;obtain⟨h1,h2⟩:=xJ cs (Ti (eD l) s) h9' (fun a ha=>by
   rcases(wM ue hs a).1 ha with h3 | h3
   .rw[h3];exact ue
   exact hs a h3) (xI ue hs hp)
  refine⟨h1,fun f=>?_⟩;rw[h2,wM ue hs];constructor
  .rintro((h3 | h3) | ⟨k,hk,h3⟩)
   .exact .inr ⟨l,by simp,qY,h3⟩
   .exact .inl h3
   exact .inr ⟨k,mem_cons_of_mem _ hk,h3⟩
  rintro(h3 | ⟨k,iJ,h3⟩)
  .exact .inl (.inr h3)
  rcases List.mem_cons.1 iJ with h4 | h4
  .subst h4;exact .inl (.inl h3.2)
  exact .inr ⟨k,h4,h3⟩
theorem ir {cs:List (List Raw)} (h9: ∀ l∈cs,l.length=9):IsSys cs (sysL cs []):=by
 obtain⟨h1,h2⟩:=xJ cs [] h9 (by simp) List.Pairwise.nil;exact⟨h1,fun f=>by rw[h2];simp⟩
theorem IsSys.eq {cs s:List (List Raw)} (h9: ∀ l∈cs,l.length=9) (h:IsSys cs s):s=sysL cs []:=h.unique (ir h9)
def fN (cs:List (List Raw)):Bool:=cs.any (fun l=>dB l&&decide (co l 8<0))
theorem mo {cs:List (List Raw)} (h9: ∀ l∈cs,l.length=9):fN cs=true↔EJ cs:=by
 unfold fN EJ;rw[any_eq_true];constructor
 .rintro⟨l,hl,h⟩;rw[DV,dh (h9 l hl),decide_eq_true_iff] at h;exact⟨l,hl,h⟩
 rintro⟨l,hl,h⟩;refine⟨l,hl,?_⟩;rw[DV,dh (h9 l hl),decide_eq_true_iff];exact h
noncomputable def eh (cs:List (List Raw)):Bool:=@decide (CE cs) (Classical.propDecidable _)
theorem en {cs:List (List Raw)}:eh cs=true↔CE cs:=by unfold eh;rw[@decide_eq_true_iff]
theorem oU {cs:List (List Raw)}:eh cs=false↔ ¬CE cs:=by
 rw[<-en];cases eh cs<;>simp
noncomputable def aZ (cs:List (List Raw)):Bool:=!fN cs&&eh (sysL cs [])
theorem fh {cs:List (List Raw)} (h9: ∀ l∈cs,l.length=9):aZ cs=true↔ ∃ x,In cs x:=by
 unfold aZ;rw[DV,en,Bool.not_eq_true'];constructor
 .rintro⟨h1,x,hx⟩;exact⟨x,(xG h9 (ir h9) (fun hv=>by rw[(mo h9).2 hv] at h1;cases h1) x).2 hx⟩
 rintro⟨x,hx⟩;have hnv: ¬EJ cs:=fun hv=>S_ hv x hx
 refine⟨?_,x,(xG h9 (ir h9) hnv x).1 hx⟩;cases h:fN cs with
 | false=>rfl
 | true=>exact absurd ((mo h9).1 h) hnv
theorem EN:CE []:=⟨fun _=>0,by simp⟩
def zW (s:List (List Raw)) (v:Nat):Bool:=(ay s v).any (fun u=>(aN s v).any (fun l=>dB (cu u l)&&decide (co (cu u l) 8<=0)))
theorem xK {s:List (List Raw)} {v:Nat} (h9: ∀ l∈s,l.length=9):zW s v=true↔Ta s v:=by
 unfold zW Ta;rw[any_eq_true];have hl: ∀ u∈ay s v,∀ l∈aN s v,(cu u l).length=9:=fun u hu l hl=>by
  obtain⟨a,ha,_,rfl⟩:=dD.1 hu;obtain⟨b,hb,_,rfl⟩:=ec.1 hl;exact fW (cj (h9 a ha)) (cj (h9 b hb))
 constructor
 .rintro⟨u,hu,h⟩;rw[any_eq_true] at h;obtain⟨l,qP,h⟩:=h;rw[DV,dh (hl u hu l qP),decide_eq_true_iff] at h;exact⟨u,hu,l,qP,h⟩
 rintro⟨u,hu,l,qP,h⟩;refine⟨u,hu,?_⟩;rw[any_eq_true];refine⟨l,qP,?_⟩;rw[DV,dh (hl u hu l qP),decide_eq_true_iff];exact h
def q' (s:List (List Raw)) (v:Nat):List (List Raw):=sysL (fQ s v) []
theorem xL {k:Nat} {s:List (List Raw)} (v:Nat) (hs:SysF k s):IsSys (fQ s v) (q' s v):=ir (nk (fun l hl=>(hs.ok l hl).len))
theorem L7 {k:Nat} {s:List (List Raw)} {v:Nat} (hv:v<8) (hs:SysF k s) (hb: ¬Ta s v):CE (q' s v)↔CE s:=by
 constructor
 .rintro⟨x,hx⟩;obtain⟨t,ht⟩:=(EL hv hs hb (xL v hs) x).1 hx;exact⟨_,ht⟩
 rintro⟨x,hx⟩;refine⟨x,(EL hv hs hb (xL v hs) x).2 ⟨x v,?_⟩⟩;have:upd x v (x v)=x:=by funext i;unfold upd;split<;>simp_all
 rw[this];exact hx
theorem Pn {k:Nat} {s:List (List Raw)} {v:Nat} (hv:v<8) (hs:SysF k s) (hb:Ta s v): ¬CE s:=fun⟨x,hx⟩=>Td hv hs hb x hx
end Go.Pl
