/- The road from a contract to a law's statement:a list of numbers that came in. -/
import Derived.Test.YtjjbkjgifdhlcaaGreatRows
import Derived.Test.YtjjbkjgifdhlcaaGreatT12
import Derived.ProofKit
import Derived.Below
import Derived.Test.YtjjbkjgifdhlcaaGreatT1
set_option linter.all false
open Nat (reduceAdd reduceLT reduceLeDiff reduceMul)
open List (any_eq_true append_nil drop_append_of_le_length drop_eq_getElem_cons filter_cons_of_neg filter_sublist foldl_cons getElem?_set length_cons length_drop length_map length_take map_cons map_nil mem_cons_of_mem mem_filter mem_map mem_take_iff_getElem nil_append nodup_append pairwise_cons replicate set_cons_zero take_succ_cons)
namespace Go.Proofs.YtjjbkjgifdhlcaaGreat
open Go.ChangeShapes Go.WideShapes Go.ChangeAt Go.RowKit
theorem Tryz.own:ownKnob Tryz.prog.godebug=none:=by kernel_rfl
theorem Tryz.laidOut:laidOutB Tryz.prog=true:=by kernel_rfl
theorem Tryz.cells3:Tryz.prog.cellsOf 3=1:=by kernel_rfl
theorem F6 {w:World} {a:Addr} {v:Value} (h:w.cell? a=some v):a.block<w.heap.size:=by
 unfold World.cell? at h;split at h
 .rename_i hb;exact(Array.getElem?_eq_some_iff.1 hb).1
 cases h
set_option maxRecDepth 100000 in
theorem vZ {W:World} {base:Nat} {v0:Value} {H:Type} {enc:TypeId×Value->H} {fuel:Nat} {akZ:Bool} {x:DataW H×List MemPlace} (bF:Value.okWide Tryz.prog W .any base 22 v0)
 (hf:DataW.trod enc Tryz.prog W 0 (fun _=>true) akZ fuel 22 v0.cells.toList=some x):
 ∃ l:List Int,W64 l/\l.length<9223372036854775808/\Go.AM.FRd W (fun _=>False) v0 (.sl (ints l)):=by
 obtain⟨a0,len,cap,rfl⟩:=okWide_slice Tryz.underlying22 bF
 rcases open_ints Tryz.underlying22 Tryz.underlying3 Tryz.cells3 hf with⟨fL,hx⟩ | ⟨a,len',cap',zs,fL,_,hl,hm,hz,hx,hcell,hwz⟩
 .simp[Value.cells] at fL
  obtain⟨rfl,rfl,rfl⟩:=fL
  exact⟨[],fun x h=>by simp at h,by simp,.nil⟩
 simp[Value.cells] at fL
 obtain⟨rfl,rfl,rfl⟩:=fL
 simp only[if_true] at hz
 obtain⟨b,off,spot⟩:=a
 have agw:spot=none:=by
  simp only[Value.okWide,Tryz.underlying22,Cell.okWide,Cell.ok] at bF;exact bF.2.2.2.1
 subst agw
 unfold maxLen at hm
 refine⟨zs.take len,fun x h=>?_,?_,?_⟩
 .have h1:=hwz x (xW h)
  simp[Lit.wf,IntKind.min,IntKind.max,IntKind.signed,IntKind.bits] at h1
  omega
 .rw[length_take];omega
 refine .sl ⟨b,off,none⟩ len cap 1 (ints (zs.take len)) (fun i _=> .int .i64 (zs.getD i 0)) ?_ hl ?_ rfl (fun _ h=>h) (fun h=>?_) (fun i j x y hx hy=>?_) (fun i j x y hx hy=>?_)
 .rw[cv,length_take];omega
 .intro x hx
  simp only[ints,mem_map] at hx
  obtain⟨n,_,rfl⟩:=hx
  rfl
 .exact F6 (hcell 0 (by omega))
 .have hi:i<(ints (zs.take len)).length:=(List.getElem?_eq_some_iff.1 hx).1
  rw[cv,length_take] at hi
  have Pd:x=[Go.AM.FV.lit (.int .i64 ((zs.take len).getD i 0))]:=by
   have:=hx;simp only[ints,List.getElem?_map] at this;rw[qb (by rw[length_take];omega)] at this;simp at this;rw[<-this];simp[show i<len by omega,show i<zs.length by omega]
  subst Pd
  have hj:j=0:=by
   have:=(List.getElem?_eq_some_iff.1 hy).1;simp at this;exact this
  subst hj
  have h7:=hcell i (by omega)
  have h8:(⟨b,off,none⟩:Addr).add i=⟨b,off+(i*1+0),none⟩:=by
   unfold Addr.add;split
   .rename_i h9;subst h9;simp
   simp
  rw[h8] at h7
  exact h7
 have hi:i<(ints (zs.take len)).length:=(List.getElem?_eq_some_iff.1 hx).1
 rw[cv,length_take] at hi
 have Pd:x=[Go.AM.FV.lit (.int .i64 (zs.getD i 0))]:=by
  have:=hx;simp only[ints,List.getElem?_map] at this;rw[qb (by rw[length_take];omega)] at this;simp at this;rw[<-this];simp[show i<zs.length by omega]
 subst Pd
 have hj:j=0:=by
  have:=(List.getElem?_eq_some_iff.1 hy).1;simp at this;exact this
 subst hj
 simp at hy
 subst hy
 exact .lit _ rfl
theorem aii {k:FuncId} {l:List Int} {W:World} {v0:Value} (hr:Go.AM.FRd W (fun _=>False) v0 (.sl (ints l))) (hd:Go.AM.Den Tryz.prog k [] [.fv (.sl (ints l))] [] (.bool true)):
 Calls Tryz.prog k #[v0] W fun e W'=>e= .returned (.bool true)/\Below W.heap.size W W':=by
 refine(hd.2 ⟨W,fun _=>False,fun _=>False,[],fun _ h=>h.elim⟩ (fun _=>False) [] #[v0] ⟨rfl,fun id p o h _=>by simp at h,fun i j p q o r g h _=>by simp at h,fun id p o g h _=>by simp at h,fun b h=>h.elim,fun b h=>h.elim,qp _,Go.AM.Places.Le.refl _⟩ (fun b h=>h.elim) ⟨rfl,fun i v x hv hx=>?_⟩).mono fun e W' ⟨v,X',ρ',he,hk,hh,hp,_,_⟩=>?_
 .cases i with
  | zero=>simp at hv hx;subst hv;subst hx;exact .fv _ _ hr
  | succ i=>simp at hv
 subst he
 have hv:v= .bool true:=by
  cases hp with
  | fv _ _ h=>cases h with
   | lit=>rfl
 subst hv
 exact⟨rfl,hk.os,hk.tape,hk.output,hk.size,fun k h=>hk.block k h (fun h=>h)⟩
theorem UK {k:FuncId} {l:List Int} {u:Int} {W:World} {v0:Value} (hr:Go.AM.FRd W (fun _=>False) v0 (.sl (ints l))) (hd:Go.AM.Den Tryz.prog k [] [.fv (.sl (ints l)),.int .i64 u] [] (.bool true)):
 Calls Tryz.prog k #[v0,.int .i64 u] W fun e W'=>e= .returned (.bool true)/\Below W.heap.size W W':=by
 refine(hd.2 ⟨W,fun _=>False,fun _=>False,[],fun _ h=>h.elim⟩ (fun _=>False) [] #[v0,.int .i64 u] ⟨rfl,fun id p o h _=>by simp at h,fun i j p q o r g h _=>by simp at h,fun id p o g h _=>by simp at h,fun b h=>h.elim,fun b h=>h.elim,qp _,Go.AM.Places.Le.refl _⟩ (fun b h=>h.elim) ⟨rfl,fun i v x hv hx=>?_⟩).mono fun e W' ⟨v,X',ρ',he,hk,hh,hp,_,_⟩=>?_
 .match i with
  | 0=>simp at hv hx;subst hv;subst hx;exact .fv _ _ hr
  | 1=>simp at hv hx;subst hv;subst hx;exact .fv _ _ (.lit _ rfl)
  | i+2=>simp at hv
 subst he
 have hv:v= .bool true:=by
  cases hp with
  | fv _ _ h=>cases h with
   | lit=>rfl
 subst hv
 exact⟨rfl,hk.os,hk.tape,hk.output,hk.size,fun k h=>hk.block k h (fun h=>h)⟩
theorem NC {k:FuncId} {l m:List Int} {W:World} {v0 v1:Value} (hr:Go.AM.FRd W (fun _=>False) v0 (.sl (ints l))) (ib:Go.AM.FRd W (fun _=>False) v1 (.sl (ints m))) (hd:Go.AM.Den Tryz.prog k [] [.fv (.sl (ints l)),.fv (.sl (ints m))] [] (.bool true)):
 Calls Tryz.prog k #[v0,v1] W fun e W'=>e= .returned (.bool true)/\Below W.heap.size W W':=by
 refine(hd.2 ⟨W,fun _=>False,fun _=>False,[],fun _ h=>h.elim⟩ (fun _=>False) [] #[v0,v1] ⟨rfl,fun id p o h _=>by simp at h,fun i j p q o r g h _=>by simp at h,fun id p o g h _=>by simp at h,fun b h=>h.elim,fun b h=>h.elim,qp _,Go.AM.Places.Le.refl _⟩ (fun b h=>h.elim) ⟨rfl,fun i v x hv hx=>?_⟩).mono fun e W' ⟨v,X',ρ',he,hk,hh,hp,_,_⟩=>?_
 .match i with
  | 0=>simp at hv hx;subst hv;subst hx;exact .fv _ _ hr
  | 1=>simp at hv hx;subst hv;subst hx;exact .fv _ _ ib
  | i+2=>simp at hv
 subst he
 have hv:v= .bool true:=by
  cases hp with
  | fv _ _ h=>cases h with
   | lit=>rfl
 subst hv
 exact⟨rfl,hk.os,hk.tape,hk.output,hk.size,fun k h=>hk.block k h (fun h=>h)⟩
end Go.Proofs.YtjjbkjgifdhlcaaGreat
namespace Go.Pl
open Go.AM
def Fs (T:List Raw) (i:Nat) (rest:List Raw):List Raw:=T.take i++rest.drop i
theorem zn {T rest:List Raw} (i:Nat) (h:T.length=rest.length):(Fs T i rest).length=rest.length:=by
 unfold Fs;rw[qe,length_take,length_drop];omega
theorem F7 (T rest:List Raw):Fs T 0 rest=rest:=by simp[Fs]
theorem LF {T rest:List Raw} {n:Nat} (h:T.length=n) (h2:rest.length=n):Fs T n rest=T:=by
 subst h;unfold Fs;rw[List.take_length,List.drop_of_length_le (by omega),append_nil]
theorem QN {T rest:List Raw} {i j:Nat} (h:T.length=rest.length) (hj:j<rest.length) (hi:i<=j):(Fs T i rest).getD j rz=rest.getD j rz:=by
 unfold Fs;rw[qa,qh (by rw[length_take];omega),List.getElem?_drop,qa];congr 2;rw[length_take];omega
theorem LG {T rest:List Raw} {i:Nat} (h:T.length=rest.length) (hi:i<rest.length):(Fs T i rest).set i (T.getD i rz)=Fs T (i+1) rest:=by
 unfold Fs;rw[List.set_append_right _ _ (by rw[length_take];omega)];have e:i - (T.take i).length=0:=by rw[length_take];omega
 have hT:i<T.length:=by omega
 have h3:T.take (i+1)=T.take i++[T[i]]:=List.take_succ_eq_append_getElem hT;rw[e,drop_eq_getElem_cons hi,set_cons_zero,h3];have h4:T.getD i rz=T[i]:=by rw[qa,qb hT];rfl
 rw[h4,qlb];rfl
def nK (a b:List Raw):List Rat:=List.zipWith (fun r s=>r.q+s.q) a b
theorem fR {a b:List Raw} {n:Nat} (ha:a.length=n) (hb:b.length=n):(nK a b).length=n:=by simp[nK,ha,hb]
theorem rD {a b:List Raw} {i:Nat} (ha:i<a.length) (hb:i<b.length):((nK a b).map cn).getD i rz=cn ((a.getD i rz).q+(b.getD i rz).q):=by
 simp[nK,qa,List.getElem?_zipWith,ha,hb]
theorem Ec {a b:List Raw} {j k:Nat} (ha: ∀ r∈a,Bd j r.q) (hb: ∀ r∈b,Bd k r.q) (hk:1<=j+k): ∀ x∈nK a b,Bd (j+k+1) x:=by
 intro x hx;unfold nK at hx;obtain⟨i,hi,rfl⟩:=List.getElem_of_mem hx;rw[List.getElem_zipWith];exact(ha _ (lY _)).add (hb _ (lY _)) hk
theorem LOk.of_map {k:Nat} {qs:List Rat} (hl:qs.length=9) (h: ∀ q∈qs,Bd k q):LOk k (qs.map cn):=
 ⟨by simp[hl],fun r hr=>by
  simp only[mem_map] at hr;obtain⟨q,hq,rfl⟩:=hr;exact bj (h q hq)⟩
theorem LOk.bd {k:Nat} {rs:List Raw} (h:LOk k rs) (hk:1<=k): ∀ r∈rs,Bd k r.q:=fun r hr=>(h.ok r hr).bd hk
def bV:List Raw->List Raw->Int
 | r::a,s::b=>if fQ (r.q - s.q)=0 then bV a b else fQ (r.q - s.q)
 | _,_=>0
theorem CH {a:List Raw} {i:Nat} (h:i<a.length):a.drop i=a.getD i rz::a.drop (i+1):=by
 rw[drop_eq_getElem_cons h,qa,qb h];rfl
theorem v3 {a b:List Raw} {i:Nat} (ha:i<a.length) (hb:i<b.length):bV (a.drop i) (b.drop i)=
 if fQ ((a.getD i rz).q - (b.getD i rz).q)=0 then bV (a.drop (i+1)) (b.drop (i+1)) else fQ ((a.getD i rz).q - (b.getD i rz).q):=by
 rw[CH ha,CH hb];rfl
theorem CI {a b:List Raw} {i:Nat} (ha:i+1=a.length) (hb:i+1=b.length):bV (a.drop i) (b.drop i)=fQ ((a.getD i rz).q - (b.getD i rz).q):=by
 rw[v3 (by omega) (by omega),List.drop_of_length_le (i:=i+1) (by omega)];split
 .rename_i h;rw[h];rfl
 rfl
theorem fS {q:Rat}:q.num<0↔q<0:=by
 have h:=Rat.num_nonneg (q:=q);have h2:=@Rat.not_le 0 q;constructor
 .intro h3;exact h2.1 (fun h4=>by have:=h.2 h4;omega)
 intro h3;have h4:=h2.2 h3;have h5: ¬(0<=q.num):=fun h6=>h4 (h.1 h6)
 omega
theorem v5 {x y:Rat}:fQ (x - y)<0↔x<y:=by
 unfold fQ;rw[Int.sign_neg_iff,fS];constructor<;>intro h<;>grind
theorem QO {x y:Rat}:0<fQ (x - y)↔y<x:=by
 have h1:fQ (x - y)<0↔x<y:=v5;have h2:fQ (x - y)=0↔x=y:=by
  rw[a9];constructor<;>intro h<;>grind
 constructor
 .intro h;have h3: ¬x<y:=fun h4=>by have:=h1.2 h4;omega
  have h4:x≠y:=fun h5=>by have:=h2.2 h5;omega
  grind
 intro h;have h3: ¬fQ (x - y)<0:=fun h4=>by have:=h1.1 h4;grind
 have h4:fQ (x - y)≠0:=fun h5=>by have:=h2.1 h5;grind
 omega
theorem v7 {x y:Rat}:fQ (x - y)=0↔x=y:=by
 rw[a9];constructor<;>intro h<;>grind
theorem kZ (q:Rat):fQ q= -1\/fQ q=0\/fQ q=1:=by
 unfold fQ;rcases Int.lt_trichotomy q.num 0 with h | h | h
 .exact Or.inl (Int.sign_eq_neg_one_of_neg h)
 .exact Or.inr (Or.inl (by rw[h];rfl))
 exact Or.inr (Or.inr (Int.sign_eq_one_of_pos h))
theorem QP (x y:Rat):fQ (x - y)= -fQ (y - x):=by
 have h1:=kZ (x - y);have h2:=kZ (y - x);have h3:=v5 (x:=x) (y:=y);have h4:=QO (x:=y) (y:=x);have h5:=v7 (x:=x) (y:=y);have h6:=v7 (x:=y) (y:=x);by_cases h:x=y
 .rw[h5.2 h,h6.2 h.symm];rfl
 have h7:=fun h9=>h (h5.1 h9)
 have h8:=fun h9=>h (h6.1 h9).symm
 by_cases hl:x<y
 .have:=h3.2 hl;have:=h4.2 hl;omega
 have g1: ¬fQ (x - y)<0:=fun h9=>hl (h3.1 h9)
 have g2: ¬0<fQ (y - x):=fun h9=>hl (h4.1 h9)
 have g3: ¬fQ (x - y)=0:=h7;have g4: ¬fQ (y - x)=0:=h8;omega
theorem Jm: ∀ a b:List Raw,bV a b= -1\/bV a b=0\/bV a b=1
 | r::a,s::b=>by
  unfold bV;split
  .exact Jm a b
  .exact kZ _
 | [],_=>Or.inr (Or.inl (by simp[bV]))
 | _::_,[]=>Or.inr (Or.inl (by simp[bV]))
theorem eE: ∀ a b:List Raw,bV a b= -bV b a
 | r::a,s::b=>by
  unfold bV;rw[QP r.q s.q,eE a b];by_cases h:fQ (s.q - r.q)=0
  .rw[if_pos h,if_pos (by omega)]
  .rw[if_neg h,if_neg (by omega)]
 | [],b=>by cases b<;>simp[bV]
 | _::_,[]=>by simp[bV]
theorem oD: ∀ a b c:List Raw,a.length=b.length->b.length=c.length->bV a b<=0->bV b c<=0->bV a c<=0
 | r::a,s::b,t::c,h1,h2,h3,h4=>by
  have h1':a.length=b.length:=by simpa using h1
  have h2':b.length=c.length:=by simpa using h2
  unfold bV at h3 h4 ⊢;have e1:=v7 (x:=r.q) (y:=s.q);have e2:=v7 (x:=s.q) (y:=t.q);have e3:=v7 (x:=r.q) (y:=t.q);have l1:=v5 (x:=r.q) (y:=s.q);have l2:=v5 (x:=s.q) (y:=t.q);have l3:=v5 (x:=r.q) (y:=t.q);by_cases a1:fQ (r.q - s.q)=0
  .rw[if_pos a1] at h3;have q1:=e1.1 a1;by_cases a2:fQ (s.q - t.q)=0
   .rw[if_pos a2] at h4;rw[if_pos (e3.2 (q1.trans (e2.1 a2)))];exact oD a b c h1' h2' h3 h4
   rw[if_neg a2] at h4;rw[if_neg (fun h=>a2 (by rw[<-q1];exact h)),q1];exact h4
  .rw[if_neg a1] at h3;have q1:=l1.1 (by omega);by_cases a2:fQ (s.q - t.q)=0
   .have q2:=e2.1 a2;rw[<-q2,if_neg a1];exact h3
   .rw[if_neg a2] at h4;have q2:=l2.1 (by omega);have q3:=l3.2 (by grind);rw[if_neg (by omega)];omega
 | [],_,c,_,_,_,_=>by cases c<;>simp[bV]
 | _::_,_,[],_,_,_,_=>by simp[bV]
 | _::_,[],_::_,h,_,_,_=>by simp at h
theorem CJ: ∀ a c:List Raw,a.length=c.length->(bV a c=0↔a.map Raw.q=c.map Raw.q)
 | r::a,t::c,h=>by
  have h':a.length=c.length:=by simpa using h
  unfold bV;have e3:=v7 (x:=r.q) (y:=t.q);have ih:=CJ a c h';by_cases a1:fQ (r.q - t.q)=0
  .rw[if_pos a1,ih];simp only[map_cons,List.cons.injEq];exact⟨fun h=>⟨e3.1 a1,h⟩,fun h=>h.2⟩
  .rw[if_neg a1];simp only[map_cons,List.cons.injEq];exact⟨fun h=>absurd h a1,fun h=>absurd (e3.2 h.1) a1⟩
 | [],[],_=>by simp[bV]
 | [],_::_,h=>by simp at h
 | _::_,[],h=>by simp at h
def cy (a:List Raw):Bool:=(a.take 8).all (fun r=>decide (r.q=0))
end Go.Pl
namespace Go.Pl
abbrev Mn:=List Int
abbrev Tm:=List Int×Rat
def b' (m:Mn):List Tm->Rat
 | []=>0
 | t::ts=>(if t.1=m then t.2 else 0)+b' m ts
theorem fT (m:Mn): ∀ a b:List Tm,b' m (a++b)=b' m a+b' m b
 | [],b=>by simp only[nil_append,b'];grind
 | t::a,b=>by simp only[List.cons_append,b',fT m a b];grind
theorem CK {m:Mn} {a b:List Tm} (h:a.Perm b):b' m a=b' m b:=by
 induction h with
 | nil=>rfl
 | cons x _ ih=>simp only[b',ih]
 | swap x y l=>simp only[b'];grind
 | trans _ _ h1 h2=>exact h1.trans h2
theorem v8 {m:Mn}: ∀ {a:List Tm},(∀ t∈a,t.1≠m)->b' m a=0
 | [],_=>rfl
 | t::a,h=>by
  simp only[b',if_neg (h t (by simp)),v8 (fun t ht=>h t (mem_cons_of_mem _ ht))];grind
theorem jU {m:Mn}: ∀ {a:List Tm},b' m (a.filter (fun t=>decide (t.2≠0)))=b' m a
 | []=>rfl
 | t::a=>by
  by_cases h:t.2=0
  .rw[filter_cons_of_neg (by simp[h]),b',jU,h];split<;>grind
  rw[List.filter_cons_of_pos (by simp[h]),b',b',jU]
def ig:Mn->Mn->Bool
 | x::a,y::b=>if x=y then ig a b else decide (x>y)
 | _,_=>false
theorem Ed: ∀ a:Mn,ig a a=false
 | []=>rfl
 | x::a=>by simp[ig,Ed a]
theorem jt: ∀ {a b c:Mn},ig a b=true->ig b c=true->ig a c=true
 | x::a,y::b,z::c,h1,h2=>by
  unfold ig at h1 h2 ⊢;by_cases e1:x=y
  .rw[if_pos e1] at h1;by_cases e2:y=z
   .rw[if_pos e2] at h2;rw[if_pos (e1.trans e2)];exact jt h1 h2
   rw[if_neg e2] at h2;rw[if_neg (fun h=>e2 (e1.symm.trans h)),e1];exact h2
  .rw[if_neg e1] at h1;by_cases e2:y=z
   .rw[<-e2,if_neg e1];exact h1
   .rw[if_neg e2] at h2;have h3:=of_decide_eq_true h1;have h4:=of_decide_eq_true h2;rw[if_neg (by omega)];exact f3 (by omega)
 | [],_,_,h1,_=>by simp[ig] at h1
 | _::_,[],_,h1,_=>by simp[ig] at h1
 | _::_,_::_,[],_,h2=>by simp[ig] at h2
theorem ND {a b:Mn} (h:ig a b=true):ig b a=false:=by
 cases h2:ig b a with
 | false=>rfl
 | true=>
  have:=jt h h2;rw[Ed] at this;cases this
theorem v9 {a b:Mn} (h:ig a b=true):a≠b:=fun he=>by
 rw[he,Ed] at h;cases h
theorem v_: ∀ {a b:Mn},a.length=b.length->a≠b->ig a b=true\/ig b a=true
 | [],[],_,h=>absurd rfl h
 | x::a,y::b,hl,h=>by
  unfold ig;by_cases e:x=y
  .subst e;rw[if_pos rfl,if_pos rfl];exact v_ (by simpa using hl) (fun he=>h (by rw[he]))
  .rw[if_neg e,if_neg (fun h=>e h.symm)];rcases Int.lt_trichotomy x y with h1 | h1 | h1
   .exact .inr (f3 h1)
   .exact absurd h1 e
   .exact .inl (f3 h1)
 | [],_::_,h,_=>by simp at h
 | _::_,[],h,_=>by simp at h
theorem Ee {a b:Mn} (hl:a.length=b.length) (h:ig a b=false):a=b\/ig b a=true:=by
 by_cases e:a=b
 .exact .inl e
 rcases v_ hl e with h1 | h1
 .rw[h] at h1;cases h1
 exact .inr h1
structure Canon (p:List Tm):Prop where
 sorted:p.Pairwise (fun a b=>ig a.1 b.1=true)
 nz: ∀ t∈p,t.2≠0
 len: ∀ t∈p,t.1.length=8
theorem Canon.nil:Canon []:=⟨.nil,by simp,by simp⟩
theorem Canon.tail {t:Tm} {p:List Tm} (h:Canon (t::p)):Canon p:=
 ⟨(pairwise_cons.1 h.sorted).2,fun u hu=>h.nz u (mem_cons_of_mem _ hu),fun u hu=>h.len u (mem_cons_of_mem _ hu)⟩
theorem Canon.head {t:Tm} {p:List Tm} (h:Canon (t::p)): ∀ u∈p,ig t.1 u.1=true:=(pairwise_cons.1 h.sorted).1
theorem Canon.sum_head {t:Tm} {p:List Tm} (h:Canon (t::p)):b' t.1 (t::p)=t.2:=by
 rw[b',if_pos rfl,v8 (fun u hu he=>v9 (h.head u hu) he.symm)];grind
theorem Canon.sum_up {m:Mn} {t:Tm} {p:List Tm} (h:Canon (t::p)) (hm:ig m t.1=true):b' m (t::p)=0:=
 v8 (fun u hu he=>by
  rcases List.mem_cons.1 hu with h1 | h1
  .exact v9 hm (by rw[<-he,h1])
  exact v9 (jt hm (h.head u h1)) he.symm)
theorem oE: ∀ {p q:List Tm},Canon p->Canon q->(∀ m,b' m p=b' m q)->p=q
 | [],[],_,_,_=>rfl
 | [],y::q,_,hq,h=>absurd ((hq.sum_head.symm.trans (h y.1).symm)) (hq.nz y (by simp))
 | x::p,[],hp,_,h=>absurd ((hp.sum_head.symm.trans (h x.1))) (hp.nz x (by simp))
 | x::p,y::q,hp,hq,h=>by
  have h1:x.1=y.1:=by
   by_cases e:x.1=y.1
   .exact e
   rcases v_ ((hp.len x (by simp)).trans (hq.len y (by simp)).symm) e with h2 | h2
   .have:=h x.1;rw[hp.sum_head,hq.sum_up h2] at this;exact absurd this (hp.nz x (by simp))
   have:=h y.1;rw[hq.sum_head,hp.sum_up h2] at this;exact absurd this.symm (hq.nz y (by simp))
  have h2:x.2=y.2:=by
   have:=h x.1;rw[hp.sum_head,h1,hq.sum_head] at this;exact this
  have IY:x=y:=Prod.ext h1 h2;subst IY;rw[oE hp.tail hq.tail (fun m=>by
   have:=h m;simp only[b'] at this;grind)]
def insT:List Tm->Tm->List Tm
 | [],t=>if t.2=0 then [] else [t]
 | x::p,t=>if ig x.1 t.1=true then x::insT p t else if x.1=t.1 then(if t.2+x.2=0 then p else(t.1,t.2+x.2)::p) else if t.2=0 then x::p else t::x::p
theorem F8 (m:Mn): ∀ (p:List Tm) (t:Tm),b' m (insT p t)=b' m p+(if t.1=m then t.2 else 0)
 | [],t=>by
  unfold insT;split
  .rename_i h;simp only[b',h];split<;>grind
  .simp only[b'];grind
 | x::p,t=>by
  unfold insT;split
  .simp only[b',F8 m p t];grind
  split
  .rename_i h;split
   .simp only[b',h];split<;>grind
   simp only[b',h];split<;>grind
  split
  .rename_i h;simp only[b',h];grind
  simp only[b'];grind
theorem F9 {p:List Tm} {t u:Tm} (h:u∈insT p t):u∈p\/u.1=t.1:=by
 induction p with
 | nil=>
  unfold insT at h;split at h
  .simp at h
  .simp at h;exact .inr (by rw[h])
 | cons x p ih=>
  unfold insT at h;split at h
  .rcases List.mem_cons.1 h with h | h
   .exact .inl (by rw[h];simp)
   rcases ih h with h | h
   .exact .inl (mem_cons_of_mem _ h)
   exact .inr h
  split at h
  .split at h
   .exact .inl (mem_cons_of_mem _ h)
   rcases List.mem_cons.1 h with h | h
   .exact .inr (by rw[h])
   exact .inl (mem_cons_of_mem _ h)
  split at h
  .exact .inl h
  rcases List.mem_cons.1 h with h | h
  .exact .inr (by rw[h])
  exact .inl h
theorem zo: ∀ {p:List Tm} {t:Tm},Canon p->t.1.length=8->Canon (insT p t)
 | [],t,_,ht=>by
  unfold insT;split
  .exact Canon.nil
  .rename_i h;exact⟨List.pairwise_singleton _ _,by simpa using h,by simpa using ht⟩
 | x::p,t,hp,ht=>by
  have ih:=zo hp.tail ht;have hd:=hp.head;unfold insT;split
  .rename_i h;refine⟨pairwise_cons.2 ⟨fun u hu=>?_,ih.sorted⟩,?_,?_⟩
   .rcases F9 hu with h1 | h1
    .exact hd u h1
    rw[h1];exact h
   .intro u hu;rcases List.mem_cons.1 hu with h1 | h1
    .exact hp.nz u (by rw[h1];simp)
    exact ih.nz u h1
   intro u hu;rcases List.mem_cons.1 hu with h1 | h1
   .exact hp.len u (by rw[h1];simp)
   exact ih.len u h1
  rename_i hn;split
  .rename_i he;split
   .exact hp.tail
   rename_i hz;refine⟨pairwise_cons.2 ⟨fun u hu=>?_,hp.tail.sorted⟩,?_,?_⟩
   .rw[<-he];exact hd u hu
   .intro u hu;rcases List.mem_cons.1 hu with h1 | h1
    .rw[h1];exact hz
    exact hp.tail.nz u h1
   intro u hu;rcases List.mem_cons.1 hu with h1 | h1
   .rw[h1];exact ht
   exact hp.tail.len u h1
  rename_i he;split
  .exact hp
  rename_i hz;have hg:ig t.1 x.1=true:=by
   rcases Ee ((hp.len x (by simp)).trans ht.symm) (by simpa using hn) with h1 | h1
   .exact absurd h1 he
   exact h1
  refine⟨pairwise_cons.2 ⟨fun u hu=>?_,hp.sorted⟩,?_,?_⟩
  .rcases List.mem_cons.1 hu with h1 | h1
   .rw[h1];exact hg
   exact jt hg (hd u h1)
  .intro u hu;rcases List.mem_cons.1 hu with h1 | h1
   .rw[h1];exact hz
   exact hp.nz u h1
  intro u hu;rcases List.mem_cons.1 hu with h1 | h1
  .rw[h1];exact ht
  exact hp.len u h1
def nf (ts:List Tm):List Tm:=ts.foldl insT []
def addT (p ts:List Tm):List Tm:=ts.foldl insT p
theorem zp (m:Mn): ∀ (ts p:List Tm),b' m (addT p ts)=b' m p+b' m ts
 | [],p=>by simp only[addT,List.foldl_nil,b'];grind
 | t::ts,p=>by
  have:=zp m ts (insT p t);unfold addT at this ⊢;rw[foldl_cons,this,F8];simp only[b'];grind
def Len8 (ts:List Tm):Prop:= ∀ t∈ts,t.1.length=8
theorem oG: ∀ {ts p:List Tm},Canon p->Len8 ts->Canon (addT p ts)
 | [],p,h,_=>h
 | t::ts,p,h,hl=>oG (ts:=ts) (p:=insT p t) (zo h (hl t (by simp))) (fun u hu=>hl u (mem_cons_of_mem _ hu))
theorem NG (p ts:List Tm) (t:Tm):addT p (ts++[t])=insT (addT p ts) t:=by simp[addT,List.foldl_append]
theorem te (m:Mn) (ts:List Tm):b' m (nf ts)=b' m ts:=by
 have:=zp m ts [];rw[b'] at this;unfold nf;unfold addT at this;rw[this];grind
theorem dc {ts:List Tm} (h:Len8 ts):Canon (nf ts):=oG Canon.nil h
theorem LI {p ts:List Tm} (hp:Canon p) (hl:Len8 ts) (h: ∀ m,b' m p=b' m ts):p=nf ts:=
 oE hp (dc hl) (fun m=>(h m).trans (te m ts).symm)
theorem uy {a b:List Tm} (ha:Len8 a) (hb:Len8 b) (h: ∀ m,b' m a=b' m b):nf a=nf b:=
 LI (dc ha) hb (fun m=>(te m a).trans (h m))
theorem e_ {p:List Tm} (hp:Canon p):nf p=p:=(LI hp hp.len (fun _=>rfl)).symm
theorem LJ {p ts:List Tm} (hp:Canon p) (hl:Len8 ts):addT p ts=nf (p++ts):=
 LI (oG hp hl) (fun t ht=>by rcases List.mem_append.1 ht with h | h;exact hp.len t h;exact hl t h) (fun m=>by rw[zp,fT])
theorem LK: ∀ {p:List Tm} {t:Tm} {k:Nat},(∀ i (h:i<p.length),i<k->ig (p[i]'h).1 t.1=true)->k<=p.length->insT p t=p.take k++insT (p.drop k) t
 | p,t,0,_,_=>by simp
 | [],t,k+1,_,hk=>by simp at hk
 | x::p,t,k+1,h,hk=>by
  have h0:=h 0 (by simp) (by omega);rw[List.getElem_cons_zero] at h0;have ih:=LK (p:=p) (t:=t) (k:=k) (fun i hi hik=>h (i+1) (by simpa using hi) (by omega)) (by simpa using hk);rw[take_succ_cons,List.drop_succ_cons,List.cons_append,<-ih];rw[insT,if_pos h0]
def accAdd:List Tm->Mn->Rat->List Tm
 | [],m,q=>[(m,q)]
 | t::ts,m,q=>if t.1=m then(m,t.2+q)::ts else t::accAdd ts m q
def oH (a:List Tm) (m:Mn):Option Rat:=(a.find? (fun t=>decide (t.1=m))).map (·.2)
def accL (ts:List Tm):List Tm:=ts.foldl (fun a t=>accAdd a t.1 t.2) []
theorem CL (ts:List Tm) (t:Tm):accL (ts++[t])=accAdd (accL ts) t.1 t.2:=by simp[accL,List.foldl_append]
theorem zq (n:Mn): ∀ (a:List Tm) (m:Mn) (q:Rat),b' n (accAdd a m q)=b' n a+(if m=n then q else 0)
 | [],m,q=>by simp only[accAdd,b'];grind
 | t::ts,m,q=>by
  unfold accAdd;split
  .rename_i h;simp only[b',h];split<;>grind
  simp only[b',zq n ts m q];grind
theorem F_ (n:Mn) (ts:List Tm):b' n (accL ts)=b' n ts:=by
 have key: ∀ (ts a:List Tm),b' n (ts.foldl (fun a t=>accAdd a t.1 t.2) a)=b' n a+b' n ts:=by
  intro ts
  induction ts with
  | nil=>intro a;simp only[List.foldl_nil,b'];grind
  | cons t ts ih=>
   intro a;rw[foldl_cons,ih,zq];simp only[b'];grind
 unfold accL;rw[key,b'];grind
theorem md (a:List Tm) (m:Mn) (q:Rat):(accAdd a m q).map (·.1)=if m∈a.map (·.1) then a.map (·.1) else a.map (·.1)++[m]:=by
 induction a with
 | nil=>simp[accAdd]
 | cons t ts ih=>
  unfold accAdd;split
  .rename_i h;simp[h]
  rename_i h;rw[map_cons,ih,map_cons];by_cases h2:m∈ts.map (·.1)
  .rw[if_pos h2,if_pos (mem_cons_of_mem _ h2)]
  rw[if_neg h2,if_neg (by
   intro h3;rcases List.mem_cons.1 h3 with h3 | h3
   .exact h h3.symm
   exact h2 h3)]
  rfl
theorem tf (ts:List Tm):((accL ts).map (·.1)).Nodup:=by
 have key: ∀ (ts a:List Tm),(a.map (·.1)).Nodup->((ts.foldl (fun a t=>accAdd a t.1 t.2) a).map (·.1)).Nodup:=by
  intro ts
  induction ts with
  | nil=>intro a h;exact h
  | cons t ts ih=>
   intro a h;refine ih _ ?_;rw[md];split
   .exact h
   rename_i hm;rw[nodup_append];refine⟨h,by simp,?_⟩;intro x hx y hy he;simp at hy;subst hy;exact hm (he ▸ hx)
 exact key ts [] (by simp)
theorem zr {ts:List Tm} {m:Mn} (h:m∈(accL ts).map (·.1)):m∈ts.map (·.1):=by
 have key: ∀ (ts a:List Tm),m∈(ts.foldl (fun a t=>accAdd a t.1 t.2) a).map (·.1)->m∈a.map (·.1)\/m∈ts.map (·.1):=by
  intro ts
  induction ts with
  | nil=>intro a h;exact .inl h
  | cons t ts ih=>
   intro a h;rw[foldl_cons] at h;rcases ih _ h with h | h
   .rw[md] at h;split at h
    .exact .inl h
    rcases List.mem_append.1 h with h | h
    .exact .inl h
    simp at h;exact .inr (by simp[h])
   exact .inr (by simp at h ⊢;exact .inr h)
 rcases key ts [] h with h | h
 .simp at h
 exact h
theorem Ga (ts:List Tm):(accL ts).length<=ts.length:=by
 have key: ∀ (ts a:List Tm),(ts.foldl (fun a t=>accAdd a t.1 t.2) a).length<=a.length+ts.length:=by
  intro ts
  induction ts with
  | nil=>intro a;simp
  | cons t ts ih=>
   intro a;rw[foldl_cons];have h:=ih (accAdd a t.1 t.2);have h2:(accAdd a t.1 t.2).length<=a.length+1:=by
    have:=congrArg List.length (md a t.1 t.2);rw[length_map] at this;rw[this];split<;>simp
   rw[length_cons];omega
 have:=key ts [];simpa [accL] using this
theorem uz: ∀ {p:List Tm},p.Pairwise (fun a b=>ig b.1 a.1=false)->(p.map (·.1)).Nodup->(∀ t∈p,t.1.length=8)->p.Pairwise (fun a b=>ig a.1 b.1=true)
 | [],_,_,_=> .nil
 | t::p,h,hn,hl=>by
  rw[pairwise_cons] at h ⊢;rw[map_cons,List.nodup_cons] at hn;refine⟨fun u hu=>?_,uz h.2 hn.2 (fun u hu=>hl u (mem_cons_of_mem _ hu))⟩;have h1:=h.1 u hu;rcases Ee ((hl u (mem_cons_of_mem _ hu)).trans (hl t (by simp)).symm) h1 with h2 | h2
  .exact absurd (mem_map.2 ⟨u,hu,h2⟩) hn.1
  exact h2
theorem LL {ts p:List Tm} (hl:Len8 ts) (hp:p.Perm ((accL ts).filter (fun t=>decide (t.2≠0)))) (hs:p.Pairwise (fun a b=>ig b.1 a.1=false)):p=nf ts:=by
 have aY: ∀ t∈p,t∈accL ts/\t.2≠0:=fun t ht=>by
  have:=hp.mem_iff.1 ht;rw[mem_filter] at this;exact⟨this.1,by simpa using this.2⟩
 have aF: ∀ t∈p,t.1.length=8:=fun t ht=>by
  have:=zr (mem_map.2 ⟨t,(aY t ht).1,rfl⟩);obtain⟨u,hu,he⟩:=mem_map.1 this;rw[<-he];exact hl u hu
 have oh:(p.map (·.1)).Nodup:=by
  have h1:(p.map (·.1)).Perm (((accL ts).filter (fun t=>decide (t.2≠0))).map (·.1)):=hp.map _;rw[h1.nodup_iff];exact List.Nodup.sublist ((filter_sublist).map _) (tf ts)
 refine LI ⟨uz hs oh aF,fun t ht=>(aY t ht).2,aF⟩ hl (fun m=>?_);rw[CK hp,jU,F_]
def DM (D:Nat):List Tm->Nat->Prop
 | [],_=>True
 | t::ts,M=> ∃ z:Int,∃ N:Nat,t.2=mkRat z D/\z.natAbs+N<=M/\DM D ts N
theorem DM.mono {D:Nat}: ∀ {ts:List Tm} {M N:Nat},DM D ts M->M<=N->DM D ts N
 | [],_,_,_,_=>trivial
 | t::ts,M,N,⟨z,K,h1,h2,h3⟩,h=>⟨z,K,h1,by omega,h3⟩
theorem DM.append {D:Nat}: ∀ {a b:List Tm} {M N:Nat},DM D a M->DM D b N->DM D (a++b) (M+N)
 | [],b,M,N,_,h=>h.mono (by omega)
 | t::a,b,M,N,⟨z,K,h1,h2,h3⟩,h=>⟨z,K+N,h1,by omega,h3.append h⟩
theorem DM.tail {D:Nat} {t:Tm} {ts:List Tm} {M:Nat} (h:DM D (t::ts) M):DM D ts M:=by
 obtain⟨z,N,h1,h2,h3⟩:=h;exact h3.mono (by omega)
theorem DM.mem {D:Nat}: ∀ {ts:List Tm} {M:Nat} {t:Tm},DM D ts M->t∈ts-> ∃ z:Int,t.2=mkRat z D/\z.natAbs<=M
 | u::ts,M,t,⟨z,K,h1,h2,h3⟩,ht=>by
  rcases List.mem_cons.1 ht with rfl | ht
  .exact⟨z,h1,by omega⟩
  .obtain⟨y,h4,h5⟩:=h3.mem ht;exact⟨y,h4,by omega⟩
 | [],_,_,_,ht=>by simp at ht
theorem DM.one {D:Nat} {t:Tm} {z:Int} (h:t.2=mkRat z D):DM D [t] z.natAbs:=⟨z,0,h,by omega,cK⟩
theorem tg {z:Int} {D E:Nat} (hE:E≠0):mkRat z D=mkRat (z*E) (D*E):=by
 rw[Rat.mkRat_mul_right hE]
theorem DM.lift {D E:Nat} (hE:E≠0): ∀ {ts:List Tm} {M:Nat},DM D ts M->DM (D*E) ts (M*E)
 | [],_,_=>trivial
 | t::ts,M,⟨z,K,h1,h2,h3⟩=>⟨z*E,K*E,by rw[h1,tg hE],by
  rw[Int.natAbs_mul,Int.natAbs_natCast,<-Nat.add_mul];exact qn _ h2,h3.lift hE⟩
theorem Gb {z:Int} {D k:Nat} (hk:1<=k) (hz:z.natAbs<B^k) (hD:D<B^k):Bd k (mkRat z D):=by
 have:mkRat z D=g5 (decide (z<0)) z.natAbs D:=by
  unfold g5 sg;congr 1;by_cases h:z<0
  .simp only[h,decide_true,if_true];omega
  simp only[h,decide_false];simp;omega
 rw[this];exact Bd.mk hk hz hD
theorem DM.bd {D M k:Nat} {ts:List Tm} (h:DM D ts M) (hk:1<=k) (hD:D<B^k) (hM:M<B^k): ∀ t∈ts,Bd k t.2:=fun t ht=>by
 obtain⟨z,h1,h2⟩:=h.mem ht;rw[h1];exact Gb hk (by omega) hD
theorem wa {z w:Int} {D:Nat} (hD:D≠0):mkRat z D+mkRat w D=mkRat (z+w) D:=re z w hD
theorem DM.insT {D:Nat} (hD:D≠0): ∀ {p:List Tm} {t:Tm} {M:Nat} {z:Int},DM D p M->t.2=mkRat z D->DM D (insT p t) (M+z.natAbs)
 | [],t,M,z,_,ht=>by
  unfold Go.Pl.insT;split
  .trivial
  .exact(DM.one ht).mono (by omega)
 | x::p,t,M,z,⟨y,K,h1,h2,h3⟩,ht=>by
  have ih:=DM.insT hD h3 ht;unfold Go.Pl.insT;split
  .exact⟨y,K+z.natAbs,h1,by omega,ih⟩
  split
  .split
   .exact h3.mono (by omega)
   refine⟨z+y,K,?_,by omega,h3⟩;show t.2+x.2=_;rw[ht,h1,wa hD]
  split
  .exact⟨y,K,h1,by omega,h3⟩
  exact⟨z,K+y.natAbs,ht,by omega,⟨y,K,h1,by omega,h3⟩⟩
theorem DM.addT {D:Nat} (hD:D≠0): ∀ {ts p:List Tm} {M N:Nat},DM D p M->DM D ts N->DM D (addT p ts) (M+N)
 | [],p,M,N,hp,_=>hp.mono (by omega)
 | t::ts,p,M,N,hp,⟨z,K,h1,h2,h3⟩=>by
  have:=DM.addT hD (DM.insT hD hp h1) h3;unfold Go.Pl.addT at this ⊢;rw[foldl_cons];exact this.mono (by omega)
theorem DM.nf {D:Nat} (hD:D≠0) {ts:List Tm} {M:Nat} (h:DM D ts M):DM D (nf ts) M:=(DM.addT hD (show DM D [] 0 from trivial) h).mono (by omega)
theorem DM.accAdd {D:Nat} (hD:D≠0): ∀ {a:List Tm} {m:Mn} {q:Rat} {M:Nat} {z:Int},DM D a M->q=mkRat z D->DM D (accAdd a m q) (M+z.natAbs)
 | [],m,q,M,z,_,hq=>(DM.one (t:=(m,q)) hq).mono (by omega)
 | t::ts,m,q,M,z,⟨y,K,h1,h2,h3⟩,hq=>by
  unfold Go.Pl.accAdd;split
  .refine⟨y+z,K,?_,by omega,h3⟩;show t.2+q=_;rw[hq,h1,wa hD]
  exact⟨y,K+z.natAbs,h1,by omega,DM.accAdd hD h3 hq⟩
theorem DM.accL {D:Nat} (hD:D≠0) {ts:List Tm} {M:Nat} (h:DM D ts M):DM D (accL ts) M:=by
 have key: ∀ (ts a:List Tm) (M N:Nat),DM D a M->DM D ts N->DM D (ts.foldl (fun a t=>Go.Pl.accAdd a t.1 t.2) a) (M+N):=by
  intro ts
  induction ts with
  | nil=>intro a M N ha _;exact ha.mono (by omega)
  | cons t ts ih=>
   rintro a M N ha ⟨z,K,h1,h2,h3⟩;rw[foldl_cons];exact(ih _ _ _ (DM.accAdd hD ha h1) h3).mono (by omega)
 exact(key ts [] 0 M trivial h).mono (by omega)
theorem DM.take {D:Nat}: ∀ {ts:List Tm} {M:Nat} (i:Nat),DM D ts M->DM D (ts.take i) M
 | [],_,_,_=>by simp[DM]
 | t::ts,M,0,_=>trivial
 | t::ts,M,i+1,⟨z,K,h1,h2,h3⟩=>⟨z,K,h1,h2,h3.take i⟩
def PB (k:Nat) (ts:List Tm):Prop:= ∃ D M,0<D/\D<B^k/\M<B^k/\DM D ts M
theorem PB.mono {j k:Nat} {ts:List Tm} (h:PB j ts) (hk:j<=k):PB k ts:=by
 obtain⟨D,M,h1,h2,h3,h4⟩:=h;exact⟨D,M,h1,Nat.lt_of_lt_of_le h2 (Nat.pow_le_pow_right (by decide) hk),Nat.lt_of_lt_of_le h3 (Nat.pow_le_pow_right (by decide) hk),h4⟩
theorem PB.bd {k:Nat} {ts:List Tm} (h:PB k ts) (hk:1<=k): ∀ t∈ts,Bd k t.2:=by
 obtain⟨D,M,h1,h2,h3,h4⟩:=h;exact h4.bd hk h2 h3
theorem PB.nf {k:Nat} {ts:List Tm} (h:PB k ts):PB k (nf ts):=by
 obtain⟨D,M,h1,h2,h3,h4⟩:=h;exact⟨D,M,h1,h2,h3,h4.nf (by omega)⟩
theorem PB.accL {k:Nat} {ts:List Tm} (h:PB k ts):PB k (accL ts):=by
 obtain⟨D,M,h1,h2,h3,h4⟩:=h;exact⟨D,M,h1,h2,h3,h4.accL (by omega)⟩
theorem PB.take {k:Nat} {ts:List Tm} (h:PB k ts) (i:Nat):PB k (ts.take i):=by
 obtain⟨D,M,h1,h2,h3,h4⟩:=h;exact⟨D,M,h1,h2,h3,h4.take i⟩
theorem PB.append {j k:Nat} {a b:List Tm} (ha:PB j a) (hb:PB k b):PB (j+k+1) (a++b):=by
 obtain⟨D,M,h1,h2,h3,h4⟩:=ha;obtain⟨E,N,g1,g2,g3,g4⟩:=hb;refine⟨D*E,M*E+N*D,Nat.mul_pos h1 g1,Nat.lt_of_lt_of_le (aP h2 g2) (Nat.pow_le_pow_right (by decide) (by omega)),?_,?_⟩
 .exact oA (aP h3 g2) (by rw[Nat.add_comm j k];exact aP g3 h2)
 refine(h4.lift (by omega)).append ?_;rw[Nat.mul_comm D E];exact g4.lift (by omega)
theorem PB.nil {k:Nat} (hk:1<=k):PB k []:=⟨1,0,by decide,Nat.lt_of_lt_of_le (show 1<B^1 by decide) (Nat.pow_le_pow_right (by decide) hk),Lb (by decide),cK⟩
theorem PB.one {k:Nat} {t:Tm} (h:Bd k t.2):PB k [t]:=
 ⟨t.2.den,t.2.num.natAbs,t.2.den_pos,h.2,h.1,DM.one (Rat.mkRat_self _).symm⟩
theorem PB.list {k:Nat} (hk:1<=k): ∀ {ts:List Tm},(∀ t∈ts,Bd k t.2)->PB (ts.length*(k+1)+1) ts
 | [],_=>(PB.nil (k:=1) (qp _)).mono (by simp)
 | t::ts,h=>by
  have h1:=PB.one (h t (by simp));have h2:=PB.list hk (fun u hu=>h u (mem_cons_of_mem _ hu));refine(h1.append h2).mono ?_;rw[length_cons,Nat.add_mul];omega
def pW (f:Mn->Rat):List Tm->Rat
 | []=>0
 | t::ts=>t.2*f t.1+pW f ts
theorem zt (f:Mn->Rat): ∀ a b:List Tm,pW f (a++b)=pW f a+pW f b
 | [],b=>by simp only[nil_append,pW];grind
 | t::a,b=>by simp only[List.cons_append,pW,zt f a b];grind
def Eqv (a b:List Tm):Prop:= ∀ m,b' m a=b' m b
theorem Eqv.refl (a:List Tm):Eqv a a:=fun _=>rfl
theorem Eqv.trans {a b c:List Tm} (h:Eqv a b) (k:Eqv b c):Eqv a c:=fun m=>(h m).trans (k m)
theorem Eqv.nf (a:List Tm):Eqv (nf a) a:=fun m=>te m a
theorem Eqv.app {a b c d:List Tm} (h:Eqv a b) (k:Eqv c d):Eqv (a++c) (b++d):=fun m=>by rw[fT,fT,h m,k m]
theorem Eqv.nf_eq {a b:List Tm} (h:Eqv a b) (ha:Len8 a) (hb:Len8 b):Go.Pl.nf a=Go.Pl.nf b:=uy ha hb h
theorem Len8.app {a b:List Tm} (ha:Len8 a) (hb:Len8 b):Len8 (a++b):=fun t ht=>by
 rcases List.mem_append.1 ht with h | h
 .exact ha t h
 exact hb t h
theorem Len8.nil:Len8 []:=fun t ht=>by simp at ht
theorem Len8.nf {a:List Tm} (h:Len8 a):Len8 (nf a):=(dc h).len
def fe (a b:Mn):Mn:=List.zipWith (· + ·) a b
theorem iA {a b:Mn} (ha:a.length=8) (hb:b.length=8):(fe a b).length=8:=by simp[fe,ha,hb]
theorem CM: ∀ a b:Mn,fe a b=fe b a:=fun a b=>by
 unfold fe;rw[List.zipWith_comm];congr 1;funext x y;omega
def mS (p:List Tm) (t:Tm):List Tm:=p.map (fun s=>(fe s.1 t.1,s.2*t.2))
def prodT (p q:List Tm):List Tm:=p.flatMap (fun s=>q.map (fun t=>(fe s.1 t.1,s.2*t.2)))
theorem lr (s:Tm) (p q:List Tm):prodT (s::p) q=q.map (fun t=>(fe s.1 t.1,s.2*t.2))++prodT p q:=rfl
theorem Len8.map1 {q:List Tm} {s:Tm} (hs:s.1.length=8) (h:Len8 q):Len8 (q.map (fun t=>(fe s.1 t.1,s.2*t.2))):=fun t ht=>by
 obtain⟨u,hu,rfl⟩:=mem_map.1 ht;exact iA hs (h u hu)
theorem Len8.prod {p q:List Tm} (hp:Len8 p) (hq:Len8 q):Len8 (prodT p q):=fun t ht=>by
 obtain⟨s,hs,ht⟩:=List.mem_flatMap.1 ht;exact Len8.map1 (hp s hs) hq t ht
theorem Gc (f:Mn->Rat) (s:Tm): ∀ q:List Tm,pW f (q.map (fun t=>(fe s.1 t.1,s.2*t.2)))=s.2*pW (fun m=>f (fe s.1 m)) q
 | []=>by simp only[map_nil,pW];grind
 | t::q=>by simp only[map_cons,pW,Gc f s q];grind
theorem zw (f:Mn->Rat): ∀ p q:List Tm,pW f (prodT p q)=pW (fun x=>pW (fun m=>f (fe x m)) q) p
 | [],q=>rfl
 | s::p,q=>by rw[lr,zt,Gc,zw f p q];rfl
theorem Gd (g:Mn->Mn->Rat): ∀ p q:List Tm,pW (fun x=>pW (fun m=>g x m) q) p=pW (fun m=>pW (fun x=>g x m) p) q
 | [],q=>by
  have: ∀ q:List Tm,pW (fun _=>(0:Rat)) q=0:=fun q=>by
   induction q with
   | nil=>rfl
   | cons t q ih=>simp only[pW,ih];grind
  simp only[pW,this]
 | s::p,q=>by
  have h1: ∀ (f h:Mn->Rat) (c:Rat) (q:List Tm),pW (fun m=>c*f m+h m) q=c*pW f q+pW h q:=fun f h c q=>by
   induction q with
   | nil=>simp only[pW];grind
   | cons t q ih=>simp only[pW,ih];grind
  simp only[pW,Gd g p q,h1]
theorem pX (m:Mn): ∀ ts:List Tm,b' m ts=pW (fun x=>if x=m then 1 else 0) ts
 | []=>rfl
 | t::ts=>by simp only[b',pW,pX m ts];split<;>grind
theorem th {f g:Mn->Rat}: ∀ {ts:List Tm},(∀ t∈ts,f t.1=g t.1)->pW f ts=pW g ts
 | [],_=>rfl
 | t::ts,h=>by simp only[pW,h t (by simp),th (fun u hu=>h u (mem_cons_of_mem _ hu))]
theorem Eqv.prod_comm {a b:List Tm}:Eqv (prodT a b) (prodT b a):=fun m=>by
 rw[pX,pX,zw,zw,Gd];refine th (fun t _=>th (fun s _=>?_));rw[CM]
theorem zx (p:List Tm) (t:Tm):mS p t=p.map (fun s=>(fe t.1 s.1,t.2*s.2)):=by
 unfold mS;refine List.map_congr_left (fun s _=>?_);rw[CM,Rat.mul_comm]
def cH (p:List Tm) (r:Rat):List Tm:=p.map (fun t=>(t.1,t.2*r))
theorem Len8.scale {p:List Tm} {r:Rat} (h:Len8 p):Len8 (cH p r):=fun u hu=>by
 obtain⟨s,hs,rfl⟩:=mem_map.1 hu;exact h s hs
theorem CN (f:Mn->Rat) (r:Rat): ∀ p:List Tm,pW f (cH p r)=r*pW f p
 | []=>by simp only[cH,map_nil,pW];grind
 | t::p=>by
  have:=CN f r p;simp only[cH] at this ⊢;simp only[map_cons,pW,this];grind
theorem Jn (m:Mn) (r:Rat) (p:List Tm):b' m (cH p r)=r*b' m p:=by rw[pX,pX,CN]
theorem tj {z w:Int} {D E:Nat}:mkRat z D*mkRat w E=mkRat (z*w) (D*E):=Rat.mkRat_mul_mkRat z w D E
theorem DM.map1 {D E:Nat} {s:Tm} {z:Int} (hs:s.2=mkRat z D): ∀ {q:List Tm} {N:Nat},DM E q N->DM (D*E) (q.map (fun t=>(fe s.1 t.1,s.2*t.2))) (z.natAbs*N)
 | [],_,_=>trivial
 | t::q,N,⟨w,K,h1,h2,h3⟩=>⟨z*w,z.natAbs*K,by show s.2*t.2=_;rw[hs,h1,tj],by
  rw[Int.natAbs_mul,<-Nat.mul_add];exact Nat.mul_le_mul_left _ h2,DM.map1 hs h3⟩
theorem DM.prod {D E:Nat}: ∀ {p q:List Tm} {M N:Nat},DM D p M->DM E q N->DM (D*E) (prodT p q) (M*N)
 | [],_,_,_,_,_=>trivial
 | s::p,q,M,N,⟨z,K,h1,h2,h3⟩,hq=>by
  rw[lr];refine((DM.map1 h1 hq).append (h3.prod hq)).mono ?_;rw[<-Nat.add_mul];exact qn _ h2
theorem PB.prod {j k:Nat} {p q:List Tm} (hp:PB j p) (hq:PB k q):PB (j+k) (prodT p q):=by
 obtain⟨D,M,h1,h2,h3,h4⟩:=hp;obtain⟨E,N,g1,g2,g3,g4⟩:=hq;exact⟨D*E,M*N,Nat.mul_pos h1 g1,aP h2 g2,aP h3 g3,h4.prod g4⟩
theorem DM.scale {D E:Nat} {r:Rat} {w:Int} (hr:r=mkRat w E): ∀ {p:List Tm} {M:Nat},DM D p M->DM (D*E) (cH p r) (M*w.natAbs)
 | [],_,_=>trivial
 | t::p,M,⟨z,K,h1,h2,h3⟩=>⟨z*w,K*w.natAbs,by show t.2*r=_;rw[hr,h1,tj],by
  rw[Int.natAbs_mul,<-Nat.add_mul];exact qn _ h2,DM.scale hr h3⟩
theorem PB.scale {j k:Nat} {p:List Tm} {r:Rat} (hp:PB j p) (hr:Bd k r):PB (j+k) (cH p r):=by
 obtain⟨D,M,h1,h2,h3,h4⟩:=hp;exact⟨D*r.den,M*r.num.natAbs,Nat.mul_pos h1 r.den_pos,aP h2 hr.2,aP h3 hr.1,h4.scale (Rat.mkRat_self _).symm⟩
theorem Gf: ∀ (p:List Tm) (t:Tm),(insT p t).length<=p.length+1
 | [],t=>by unfold insT;split<;>simp
 | x::p,t=>by
  have ih:=Gf p t;unfold insT;split
  .simp only[length_cons];omega
  split
  .split<;>simp<;>omega
  split<;>simp
theorem Gg: ∀ (ts p:List Tm),(addT p ts).length<=p.length+ts.length
 | [],p=>by simp[addT]
 | t::ts,p=>by
  have h1:=Gg ts (insT p t);have h2:=Gf p t;unfold addT at h1 ⊢;rw[foldl_cons,length_cons];omega
theorem wb (ts:List Tm):(nf ts).length<=ts.length:=by
 have:=Gg ts [];unfold nf;unfold addT at this;simpa using this
theorem rE: ∀ p q:List Tm,(prodT p q).length=p.length*q.length
 | [],q=>by simp[prodT]
 | s::p,q=>by
  rw[lr,qe,rE p q,length_map,length_cons,Nat.add_mul];omega
theorem NH {p:List Tm} {t u:Tm} (h:u∈insT p t):u.1=t.1\/ ∃ x∈p,x.1=u.1:=by
 rcases F9 h with h | h
 .exact .inr ⟨u,h,rfl⟩
 exact .inl h
theorem CO: ∀ {ts p:List Tm} {u:Tm},u∈addT p ts-> ∃ x,(x∈p\/x∈ts)/\x.1=u.1
 | [],p,u,h=>⟨u,.inl h,rfl⟩
 | t::ts,p,u,h=>by
  obtain⟨x,hx,he⟩:=CO (ts:=ts) (p:=insT p t) (u:=u) (by unfold addT at h ⊢;simpa using h);rcases hx with hx | hx
  .rcases NH hx with h1 | ⟨y,hy,h1⟩
   .exact⟨t,.inr (by simp),by rw[<-he,h1]⟩
   exact⟨y,.inl hy,by rw[h1,he]⟩
  exact⟨x,.inr (mem_cons_of_mem _ hx),he⟩
theorem rF {ts:List Tm} {u:Tm} (h:u∈nf ts): ∃ x∈ts,x.1=u.1:=by
 obtain⟨x,hx,he⟩:=CO (ts:=ts) (p:=[]) (u:=u) h;rcases hx with hx | hx
 .simp at hx
 exact⟨x,hx,he⟩
theorem LM: ∀ {a b:Mn} {v:Nat} (x:Int),ig a b=true->a.getD v 0=b.getD v 0->a.length=b.length->ig (a.set v x) (b.set v x)=true
 | y::a,z::b,0,x,h,he,_=>by
  simp only[List.getD_cons_zero] at he;subst he;simp only[set_cons_zero,ig,if_pos] at h ⊢;exact h
 | y::a,z::b,v+1,x,h,he,hl=>by
  simp only[qk] at he;simp only[List.set_cons_succ];unfold ig at h ⊢;by_cases e:y=z
  .rw[if_pos e] at h ⊢;exact LM x h he (by simpa using hl)
  .rw[if_neg e] at h ⊢;exact h
 | [],_,_,_,h,_,_=>by simp[ig] at h
 | _::_,[],_,_,h,_,_=>by simp[ig] at h
def bD (v:Nat) (d:Int) (p:List Tm):List Tm:=(p.filter (fun t=>decide (t.1.getD v 0=d))).map (fun t=>(t.1.set v 0,t.2))
theorem pY {v:Nat} {d:Int} {p:List Tm} (h:Canon p):Canon (bD v d p):=by
 refine⟨?_,?_,?_⟩
 .unfold bD;rw[List.pairwise_map];refine List.Pairwise.imp_of_mem ?_ (h.sorted.sublist filter_sublist);intro a b ha hb hg;rw[mem_filter] at ha hb;exact LM 0 hg ((of_decide_eq_true ha.2).trans (of_decide_eq_true hb.2).symm) ((h.len a ha.1).trans (h.len b hb.1).symm)
 .intro t ht;obtain⟨u,hu,rfl⟩:=mem_map.1 ht;exact h.nz u (mem_filter.1 hu).1
 intro t ht;obtain⟨u,hu,rfl⟩:=mem_map.1 ht;simp[h.len u (mem_filter.1 hu).1]
theorem wc {v:Nat} {d:Int} {p:List Tm}:(bD v d p).length<=p.length:=by
 unfold bD;rw[length_map];exact List.length_filter_le _ _
theorem Jo {v:Nat} {d:Int} {p:List Tm} {t:Tm}:bD v d (p++[t])=if t.1.getD v 0=d then bD v d p++[(t.1.set v 0,t.2)] else bD v d p:=by
 unfold bD;rw[List.filter_append,tY];by_cases h:t.1.getD v 0=d
 .rw[if_pos h,List.filter_cons_of_pos (by simp only[decide_eq_true_eq];exact h)];rfl
 rw[if_neg h,filter_cons_of_neg (by simp only[decide_eq_true_eq];exact h)];simp
def ju (v:Nat) (p:List Tm):Int:=p.foldl (fun d t=>max d (t.1.getD v 0)) (-1)
theorem NI {v:Nat} {p:List Tm} {t:Tm}:ju v (p++[t])=max (ju v p) (t.1.getD v 0):=by simp[ju,List.foldl_append]
theorem we: ∀ (p:List Tm) (v:Nat) (d:Int),d<=p.foldl (fun d t=>max d (t.1.getD v 0)) d/\ ∀ t∈p,t.1.getD v 0<=p.foldl (fun d t=>max d (t.1.getD v 0)) d
 | [],v,d=>⟨Int.le_refl _,fun t ht=>by simp at ht⟩
 | x::p,v,d=>by
  obtain⟨h1,h2⟩:=we p v (max d (x.1.getD v 0));rw[foldl_cons];refine⟨by omega,fun t ht=>?_⟩;rcases List.mem_cons.1 ht with rfl | ht
  .omega
  exact h2 t ht
theorem uA {v:Nat} {p:List Tm}: -1<=ju v p:=(we p v (-1)).1
theorem LN {v:Nat} {p:List Tm} {t:Tm} (h:t∈p):t.1.getD v 0<=ju v p:=(we p v (-1)).2 t h
theorem uB: ∀ (p:List Tm) (v:Nat) (d N:Int),d<=N->(∀ t∈p,t.1.getD v 0<=N)->p.foldl (fun d t=>max d (t.1.getD v 0)) d<=N
 | [],_,_,_,h,_=>h
 | x::p,v,d,N,h,h2=>by
  rw[foldl_cons];exact uB p v _ N (by have:=h2 x (by simp);omega) (fun t ht=>h2 t (mem_cons_of_mem _ ht))
theorem uC {v:Nat} {p:List Tm} {N:Int} (hN: -1<=N) (h: ∀ t∈p,t.1.getD v 0<=N):ju v p<=N:=uB p v (-1) N hN h
def dH (v:Nat) (p:List Tm):List (List Tm):=(List.range (ju v p+1).toNat).map (fun(i:Nat)=>bD v (i:Int) p)
theorem tm (v:Nat) (p:List Tm):(dH v p).length=(ju v p+1).toNat:=by simp[dH]
def hornT (q:List Tm):List (List Tm)->List Tm
 | []=>[]
 | c::cs=>nf (prodT (hornT q cs) q++c)
def cS (v:Nat) (q p:List Tm):List Tm:=hornT q (dH v p)
theorem pZ {q:List Tm} (hq:Len8 q): ∀ {cs:List (List Tm)},(∀ c∈cs,Len8 c)->Canon (hornT q cs)
 | [],_=>Canon.nil
 | c::cs,h=>dc (Len8.app (Len8.prod (pZ hq (fun c hc=>h c (mem_cons_of_mem _ hc))).len hq) (h c (by simp)))
theorem iZ {v:Nat} {p q:List Tm} (hp:Canon p) (hq:Len8 q):Canon (cS v q p):=pZ hq (fun c hc=>by
 obtain⟨i,_,rfl⟩:=mem_map.1 hc;exact(pY hp).len)
theorem CP {out q c:List Tm} (ho:Len8 out) (hq:Len8 q) (hc:Len8 c):nf (nf (prodT out q)++c)=nf (prodT out q++c):=
 Eqv.nf_eq ((Eqv.nf _).app (Eqv.refl c)) (Len8.app (dc (Len8.prod ho hq)).len hc) (Len8.app (Len8.prod ho hq) hc)
theorem LO {q:List Tm} {kq kc:Nat} (hq:PB kq q): ∀ {cs:List (List Tm)},(∀ c∈cs,PB kc c)->PB (cs.length*(kq+kc+1)+1) (hornT q cs)
 | [],_=>(PB.nil (qp 1)).mono (by simp)
 | c::cs,h=>by
  have ih:=LO hq (fun c hc=>h c (mem_cons_of_mem _ hc));refine((((ih.prod hq).append (h c (by simp))).nf)).mono ?_;rw[length_cons,Nat.add_mul];omega
theorem PB.sub {k:Nat} {p q:List Tm} (h:PB k p) (hq:q.Sublist p):PB k q:=by
 obtain⟨D,M,h1,h2,h3,h4⟩:=h;refine⟨D,M,h1,h2,h3,?_⟩;clear h3
 induction hq generalizing M with
 | slnil=>trivial
 | cons x _ ih=>exact ih M h4.tail
 | cons_cons x _ ih=>
  obtain⟨z,N,g1,g2,g3⟩:=h4;exact⟨z,N,g1,g2,ih N g3⟩
theorem DM.keys {D:Nat} {f:Tm->Mn}: ∀ {p:List Tm} {M:Nat},DM D p M->DM D (p.map (fun t=>(f t,t.2))) M
 | [],_,_=>trivial
 | _::_,_,⟨z,N,g1,g2,g3⟩=>⟨z,N,g1,g2,g3.keys⟩
theorem PB.keys {k:Nat} {p:List Tm} (f:Tm->Mn) (h:PB k p):PB k (p.map (fun t=>(f t,t.2))):=by
 obtain⟨D,M,h1,h2,h3,h4⟩:=h;exact⟨D,M,h1,h2,h3,h4.keys⟩
theorem PB.part {k v:Nat} {d:Int} {p:List Tm} (h:PB k p):PB k (bD v d p):=(h.sub filter_sublist).keys (fun t=>t.1.set v 0)
def bg (v:Nat) (p:List Tm):List Tm:=p.map (fun t=>(t.1.set v (t.1.getD v 0+1),t.2 / (t.1.getD v 0+1)))
theorem Len8.prim {v:Nat} {p:List Tm} (h:Len8 p):Len8 (bg v p):=fun t ht=>by
 obtain⟨u,hu,rfl⟩:=mem_map.1 ht;simp[h u hu]
end Go.Pl
namespace Go.Pl
section
variable {α:Type} (d:α)
def pq (ls:List α) (j:Nat):List α:=(ls.set j (ls.getD (j - 1) d)).set (j - 1) (ls.getD j d)
theorem zy {ls:List α} {j:Nat} (h0:0<j) (hj:j<ls.length) (q:Nat):(pq d ls j).getD q d=if q=j then ls.getD (j - 1) d else if q=j - 1 then ls.getD j d else ls.getD q d:=by
 unfold pq;rw[qa,getElem?_set,getElem?_set];by_cases h1:q=j
 .subst h1;rw[if_neg (by omega),if_pos rfl,if_pos hj,if_pos rfl];simp
 rw[if_neg h1];by_cases h2:q=j - 1
 .rw[if_pos h2.symm,if_pos (by simp;omega),if_pos h2];simp
 rw[if_neg (fun h=>h2 h.symm),if_neg (fun h=>h1 h.symm),if_neg h2,qa]
theorem zz {ls:List α} {j:Nat} (h0:0<j) (hj:j<ls.length):(pq d ls j).Perm ls:=by
 obtain⟨i,rfl⟩: ∃ i,j=i+1:=⟨j - 1,by omega⟩;have h1:ls=ls.take i++(ls[i]::ls[i+1]::ls.drop (i+2)):=by
  rw[<-drop_eq_getElem_cons (by omega),<-drop_eq_getElem_cons (by omega),List.take_append_drop]
 have hl:(ls.take i).length=i:=by rw[length_take];omega
 have h2:pq d ls (i+1)=ls.take i++(ls[i+1]::ls[i]::ls.drop (i+2)):=by
  unfold pq;rw[Nat.add_sub_cancel,qa,qa,qb (by omega),qb hj];simp only[Option.getD_some];generalize ls[i]=x at*;generalize ls[i+1]=y at*;generalize List.drop (i+2) ls=T at*;generalize List.take i ls=A at*;rw[h1,List.set_append_right _ _ (by omega),List.set_append_right _ _ (by omega)];rw[hl,show i+1 - i=1 by omega,Nat.sub_self];simp
 rw[h2]
 conv=>rhs;rw[h1]
 exact List.Perm.append_left _ (List.Perm.swap _ _ _)
variable (lt:α->α->Prop)
def QQ (ls:List α) (i j:Nat):Prop:= ∀ p q,p<q->q<=i->q≠j-> ¬lt (ls.getD q d) (ls.getD p d)
theorem CQ (asym: ∀ x y,lt x y-> ¬lt y x) {ls:List α} {i j:Nat} (Iq:0<j) (ss:j<=i) (hi:i<ls.length) (h:QQ d lt ls i j) (hc:lt (ls.getD j d) (ls.getD (j - 1) d)):QQ d lt (pq d ls j) i (j - 1):=by
 intro p q wT I5 hq;rw[zy d Iq (by omega),zy d Iq (by omega)];by_cases h1:q=j
 .rw[if_pos h1,if_neg (by omega)];by_cases h2:p=j - 1
  .rw[if_pos h2];exact asym _ _ hc
  rw[if_neg h2];exact h p (j - 1) (by omega) (by omega) (by omega)
 rw[if_neg h1,if_neg hq];by_cases h2:p=j
 .rw[if_pos h2];exact h (j - 1) q (by omega) I5 h1
 rw[if_neg h2];by_cases h3:p=j - 1
 .rw[if_pos h3];exact h j q (by omega) I5 h1
 rw[if_neg h3];exact h p q wT I5 h1
theorem rG {ls:List α} (WS: ∀ x∈ls,∀ y∈ls,∀ z∈ls,¬lt x y-> ¬lt y z-> ¬lt x z) {i j:Nat} (hi:i<ls.length) (ss:j<=i) (h:QQ d lt ls i j) (hc:j=0\/ ¬lt (ls.getD j d) (ls.getD (j - 1) d)):
 ∀ p q,p<q->q<=i-> ¬lt (ls.getD q d) (ls.getD p d):=by
 intro p q wT I5
 by_cases h1:q=j
 .subst h1
  have aY: ∀ k,k<ls.length->ls.getD k d∈ls:=fun k hk=>by
   rw[qa,qb hk];simp
  rcases hc with hc | hc
  .omega
  by_cases h2:p=q - 1
  .rw[h2];exact hc
  exact WS _ (aY q (by omega)) _ (aY (q - 1) (by omega)) _ (aY p (by omega)) hc (h p (q - 1) (by omega) (by omega) (by omega))
 exact h p q wT I5 h1
theorem sN {ls:List α} (h: ∀ p q,p<q->q<ls.length-> ¬lt (ls.getD q d) (ls.getD p d)):ls.Pairwise (fun a b=>¬lt b a):=by
 rw[List.pairwise_iff_getElem];intro i j hi hj sE;have:=h i j sE hj;rw[qa,qa,qb hi,qb hj] at this;exact this
end
def jv:Mn->Mn->Int
 | x::a,y::b=>if x<y then -1 else if y<x then 1 else jv a b
 | _,_=>0
theorem LP: ∀ {a b:Mn},0<jv a b↔ig a b=true
 | x::a,y::b=>by
  have ih:=LP (a:=a) (b:=b);unfold jv ig;rcases Int.lt_trichotomy x y with h | h | h
  .rw[if_pos h,if_neg (by omega)];simp;omega
  .subst h;rw[if_neg (by omega),if_neg (by omega),if_pos rfl];exact ih
  .rw[if_neg (by omega),if_pos h,if_neg (by omega)];simp;omega
 | [],b=>by simp[jv,ig]
 | _::_,[]=>by simp[jv,ig]
theorem tr: ∀ a b:Mn,jv a b= -1\/jv a b=0\/jv a b=1
 | x::a,y::b=>by
  unfold jv;split
  .exact .inl rfl
  .split
   .exact .inr (.inr rfl)
   .exact tr a b
 | [],b=> .inr (.inl (by simp[jv]))
 | _::_,[]=> .inr (.inl (by simp[jv]))
theorem NJ {a b:Mn} {i:Nat} (ha:i<a.length) (hb:i<b.length):jv (a.drop i) (b.drop i)=if a.getD i 0<b.getD i 0 then -1 else if b.getD i 0<a.getD i 0 then 1 else jv (a.drop (i+1)) (b.drop (i+1)):=by
 rw[drop_eq_getElem_cons ha,drop_eq_getElem_cons hb,jv,qa,qa,qb ha,qb hb];rfl
def BT {β:Type} (s t:List Int×β):Prop:=ig s.1 t.1=true
theorem QR {β:Type} (s t:List Int×β) (h:BT s t): ¬BT t s:=by
 unfold BT at*;rw[ND h];simp
theorem ZW {β:Type} {x y z:List Int×β} (hx:x.1.length=8) (hy:y.1.length=8) (_hz:z.1.length=8) (h1: ¬BT x y) (h2: ¬BT y z): ¬BT x z:=by
 unfold BT at*;intro h3;rcases Ee (hx.trans hy.symm) (by simpa using h1) with h4 | h4
 .rw[h4] at h3;exact h2 h3
 exact h2 (jt h4 h3)
end Go.Pl
namespace Go.Pl
theorem CR: ∀ {p:List Tm} {t:Tm},t.2≠0->(∀ x∈p,x.1≠t.1)->(insT p t).Perm (t::p)
 | [],t,h,_=>by
  unfold insT;rw[if_neg h]
 | x::p,t,h,hk=>by
  unfold insT;split
  .exact((CR h (fun y hy=>hk y (mem_cons_of_mem _ hy))).cons x).trans (List.Perm.swap _ _ _)
  simp only[hk x (by simp),if_false];exact List.Perm.refl _
theorem CS: ∀ {ts p:List Tm},(∀ t∈ts,t.2≠0)->((p++ts).map (·.1)).Nodup->(addT p ts).Perm (p++ts)
 | [],p,_,_=>by simp[addT]
 | t::ts,p,h,hn=>by
  rw[tY,map_cons,nodup_append] at hn;obtain⟨h1,h2,h3⟩:=hn;rw[List.nodup_cons] at h2;have hp:=CR (p:=p) (t:=t) (h t (by simp)) (fun x hx he=>h3 x.1 (mem_map.2 ⟨x,hx,rfl⟩) t.1 (by simp) he);have oh:((insT p t++ts).map (·.1)).Nodup:=by
   have hq:((insT p t++ts).map (·.1)).Perm (((t::p)++ts).map (·.1)):=(hp.append_right ts).map _;rw[hq.nodup_iff,tY,map_cons,List.cons_append,List.nodup_cons,nodup_append];refine⟨?_,h1,h2.2,fun x hx y hy=>h3 x hx y (mem_cons_of_mem _ hy)⟩;intro hm;rcases List.mem_append.1 hm with hm | hm
   .exact h3 t.1 hm t.1 (by simp) rfl
   exact h2.1 hm
  have ih:=CS (ts:=ts) (p:=insT p t) (fun u hu=>h u (mem_cons_of_mem _ hu)) oh;unfold addT at ih ⊢;rw[foldl_cons];refine ih.trans ((hp.append_right ts).trans ?_);rw[List.cons_append];exact List.perm_middle.symm
def pr (ts:List Tm):List Tm:=(accL ts).filter (fun t=>decide (t.2≠0))
theorem wg {ts:List Tm} (h:Len8 ts):Len8 (accL ts):=fun t ht=>by
 obtain⟨u,hu,he⟩:=mem_map.1 (zr (mem_map.2 ⟨t,ht,rfl⟩));rw[<-he];exact h u hu
theorem UL {ts:List Tm} (h:Len8 ts):(nf ts).Perm (pr ts):=by
 have h8:Len8 (pr ts):=fun t ht=>wg h t (mem_filter.1 ht).1
 have h1:nf ts=nf (pr ts):=uy h h8 (fun m=>by unfold pr;rw[jU,F_]);rw[h1];have h2:=CS (ts:=pr ts) (p:=[]) (fun t ht=>by simpa using(mem_filter.1 ht).2) (by
  rw[nil_append];exact List.Nodup.sublist ((filter_sublist).map _) (tf ts))
 rw[nil_append] at h2;exact h2
theorem Gh {ts:List Tm} (h:Len8 ts):(pr ts).length=(nf ts).length:=(UL h).length_eq.symm
theorem QS {ts:List Tm} {P:Mn->Prop} (h: ∀ t∈ts,P t.1): ∀ t∈nf ts,P t.1:=fun t ht=>by
 obtain⟨x,hx,he⟩:=rF ht;rw[<-he];exact h x hx
theorem NK {a:List Tm} {m:Mn}:oH a m=none↔m∉a.map (·.1):=by
 unfold oH;rw[Option.map_eq_none_iff,List.find?_eq_none];constructor
 .intro h hm;obtain⟨t,ht,he⟩:=mem_map.1 hm;exact h t ht (by simpa using he)
 intro h t ht he;exact h (mem_map.2 ⟨t,ht,by simpa using he⟩)
theorem UM {a:List Tm} {i:Nat} {t:Tm} (hn:(a.map (·.1)).Nodup) (hi:a[i]?=some t):oH a t.1=some t.2:=by
 induction a generalizing i with
 | nil=>simp at hi
 | cons u a ih=>
  unfold oH;rw[map_cons,List.nodup_cons] at hn;cases i with
  | zero=>
   simp at hi;subst hi;rw[List.find?_cons_of_pos (by simp)];rfl
  | succ i=>
   have pj:a[i]?=some t:=by simpa using hi
   have e7: ¬u.1=t.1:=fun he=>hn.1 (he ▸ mem_map.2 ⟨t,List.mem_of_getElem? pj,rfl⟩)
   rw[List.find?_cons_of_neg (by simpa using e7)];exact ih hn.2 pj
theorem DM.split {D:Nat}: ∀ {a:List Tm} {t:Tm} {M:Nat},DM D (a++[t]) M-> ∃ M1,∃ z:Int,DM D a M1/\t.2=mkRat z D/\M1+z.natAbs<=M
 | [],t,M,⟨z,K,h1,h2,_⟩=>⟨0,z,cK,h1,by omega⟩
 | u::a,t,M,⟨z,K,h1,h2,h3⟩=>by
  obtain⟨M1,w,g1,g2,g3⟩:=h3.split;exact⟨z.natAbs+M1,w,⟨z,M1,h1,by omega,g1⟩,g2,by omega⟩
theorem PB.snoc_bd {k:Nat} {a:List Tm} {t:Tm} (h:PB k (a++[t])) (hk:1<=k): ∀ u∈Go.Pl.nf a,Bd k (t.2+u.2):=fun u hu=>by
 obtain⟨D,M,h1,h2,h3,h4⟩:=h;obtain⟨M1,z,g1,g2,g3⟩:=h4.split;obtain⟨w,e1,e2⟩:=(g1.nf (by omega)).mem hu;rw[g2,e1,wa (by omega)];exact Gb hk (by omega) h2
theorem CT: ∀ {a b:Mn} {v:Nat} (d:Int),v<a.length->a.length=b.length->ig (a.set v (a.getD v 0+d)) (b.set v (b.getD v 0+d))=ig a b
 | y::a,z::b,0,d,_,_=>by
  simp only[set_cons_zero,List.getD_cons_zero,ig];by_cases h:y=z
  .rw[if_pos h,if_pos (by omega)]
  .rw[if_neg h,if_neg (by omega)];by_cases h2:y>z
   .rw[f3 h2,f3 (by omega)]
   .rw[jI h2,jI (by omega)]
 | y::a,z::b,v+1,d,h,hl=>by
  simp only[List.set_cons_succ,qk,ig];simp only[length_cons] at h hl;rw[CT d (by omega) (by omega)]
 | [],_,_,_,h,_=>by simp at h
 | _::_,[],_,_,_,hl=>by simp at hl
theorem jw {x:Int} (h:x≠0):(x:Rat)≠0:=fun h2=>h (by exact_mod_cast h2)
theorem ZX {q:Rat} {x:Int} (hq:q≠0) (hx:x≠0):q / (x:Rat)≠0:=fun h=>by
 have:=jw hx;apply hq;have h2:q / (x:Rat)*x=q:=by grind
 rw[h] at h2;grind
theorem k4 (x:Int):(x:Rat)+1=((x+1:Int):Rat):=by rw[Rat.intCast_add];rfl
theorem oI {v:Nat} {p:List Tm} (hv:v<8) (hp:Canon p) (he: ∀ t∈p,0<=t.1.getD v 0):Canon (bg v p):=by
 refine⟨?_,?_,Len8.prim hp.len⟩
 .unfold bg;rw[List.pairwise_map];refine(List.Pairwise.and_mem.1 hp.sorted).imp ?_;rintro a b ⟨ha,hb,h⟩;rw[CT 1 (by rw[hp.len a ha];exact hv) (by rw[hp.len a ha,hp.len b hb])];exact h
 intro t ht;obtain⟨u,hu,rfl⟩:=mem_map.1 ht;dsimp only;rw[k4];exact ZX (hp.nz u hu) (by have:=he u hu;omega)
theorem PB.terms {j n k:Nat} {p:List Tm} (hj:1<=j) (h: ∀ t∈p,Bd j t.2) (hn:p.length<=n) (hk:n*(j+1)+1<=k):PB k p:=
 (PB.list hj h).mono (gD (Nat.succ_le_succ (qn _ hn)) hk)
theorem bd_int {x:Int} (h:x.natAbs<B):Bd 1 (x:Rat):=by
 refine⟨?_,?_⟩
 .rw[Rat.num_intCast,Nat.pow_one];exact h
 rw[Rat.den_intCast];decide
theorem UN {v j:Nat} {p:List Tm} (h: ∀ t∈p,Bd j t.2) (he: ∀ t∈p,0<=t.1.getD v 0/\t.1.getD v 0<=1000000): ∀ t∈bg v p,Bd (j+1) t.2:=fun t ht=>by
 obtain⟨u,hu,rfl⟩:=mem_map.1 ht;dsimp only;have h1:=he u hu;rw[k4];exact Bd.div (h u hu) (bd_int (FD (show _<=1000001 by omega) (by decide))) (jw (by omega)) (by omega)
theorem eJ {v:Nat} {p:List Tm}:(bg v p).length=p.length:=by simp[bg]
end Go.Pl
namespace Go.Proofs.YtjjbkjgifdhlcaaGreat
open Go.AM Go.Pl
abbrev RT:=List Int×Raw
def jl (m:List Int):List FV:=m.map (fun n=>FV.lit (.int .i64 n))
def gC (t:RT):List FV:=jl t.1++t.2.f
def fC (t:RT):List PV:=mC t.1++t.2.c
def tq (t:RT):Tm:=(t.1,t.2.q)
def tn (t:Tm):RT:=(t.1,cn t.2)
theorem jV (m:List Int):(jl m).map .fv=mC m:=by simp[jl,mC]
theorem dI (t:RT):(gC t).map .fv=fC t:=by
 unfold gC fC;rw[tY,jV];rfl
theorem dY (m:List Int):(jl m).length=m.length:=by simp[jl]
theorem bW (m:List Int):(mC m).length=m.length:=by simp[mC]
theorem aJ {t:RT} (h:t.1.length=8):(gC t).length=11:=by simp[gC,dY,h,Raw.f]
theorem aH {t:RT} (h:t.1.length=8):(fC t).length=11:=by simp[fC,bW,h,Raw.c]
theorem oJ (H:List Ob): ∀ m:List Int,l6 H (mC m)=some (jl m)
 | []=>rfl
 | n::m=>by
  have:=oJ H m;unfold mC jl at this ⊢;simp only[map_cons,l6,dZ,this]
theorem LQ (H:List Ob): ∀ (a b:List PV) (x y:List FV),l6 H a=some x->l6 H b=some y->l6 H (a++b)=some (x++y)
 | [],b,x,y,h1,h2=>by
  simp only[l6,qo] at h1;subst h1;simpa using h2
 | c::a,b,x,y,h1,h2=>by
  simp only[l6,List.cons_append] at h1 ⊢;split at h1
  .rename_i u us h3 h4;cases h1;rw[h3,LQ H a b us y h4 h2];rfl
  cases h1
theorem cT (H:List Ob) (t:RT):l6 H (fC t)=some (gC t):=LQ H _ _ _ _ (oJ H t.1) rfl
theorem p5 (m:List Int):(mC m).flatMap fN=[]:=by
 unfold mC
 induction m with
 | nil=>rfl
 | cons n m ih=>rw[map_cons,List.flatMap_cons,ih];rfl
theorem c_ (t:RT):(fC t).flatMap fN=[]:=by
 unfold fC;rw[qyb,p5];rfl
theorem jL {m:List Int} (h:m.length=8):List.take 8 (mC m)=mC m:=dm (by rw[bW];omega)
theorem tt {m:List Int} (h:m.length=8):List.take 8 (jl m)=jl m:=dm (by rw[dY];omega)
theorem ed {t:RT} (h:t.1.length=8):List.take 8 (fC t)=mC t.1:=by
 unfold fC;rw[List.take_append_of_le_length (by rw[bW];omega),jL h]
theorem cW {t:RT} (h:t.1.length=8):List.take 11 (fC t)=fC t:=dm (by rw[aH h];omega)
theorem aU {t:RT} (h:t.1.length=8):List.take 11 (gC t)=gC t:=dm (by rw[aJ h];omega)
theorem NL {t:RT} (h:t.1.length=8):List.drop 8 (fC t)=t.2.c:=by
 unfold fC;rw[drop_append_of_le_length (by rw[bW];omega),List.drop_of_length_le (by rw[bW];omega)];rfl
theorem wh {t:RT} (h:t.1.length=8):List.drop 8 (gC t)=t.2.f:=by
 unfold gC;rw[drop_append_of_le_length (by rw[dY];omega),List.drop_of_length_le (by rw[dY];omega)];rfl
theorem nL {t:RT} (h:t.1.length=8):List.take 8 (gC t)=jl t.1:=by
 unfold gC;rw[List.take_append_of_le_length (by rw[dY];omega),tt h]
theorem CU {m:List Int} {i:Nat} (h:i<m.length):List.take 1 (List.drop i (mC m))=[PV.int .i64 (m.getD i 0)]:=by
 unfold mC;rw[drop_eq_getElem_cons (by simpa using h),take_succ_cons,List.take_zero,List.getElem_map,qa,qb h];rfl
theorem mT {t:RT} {i:Nat} (h:i<8) (hl:t.1.length=8):List.take 1 (List.drop i (fC t))=[PV.int .i64 (t.1.getD i 0)]:=by
 have h1:=CU (m:=t.1) (i:=i) (by omega);unfold fC;rw[drop_append_of_le_length (by rw[bW];omega),List.take_append_of_le_length (by rw[length_drop,bW];omega),h1]
theorem Jp {m:List Int} {i:Nat} {x:Int} (h:i<m.length):List.take i (mC m)++[PV.int .i64 x]++List.drop (i+1) (mC m)=mC (m.set i x):=by
 unfold mC;rw[<-List.map_take,<-List.map_drop,List.set_eq_take_append_cons_drop,if_pos h];simp
theorem me {t:RT} {i:Nat} {x:Int} (h:i<8) (hl:t.1.length=8):List.take i (fC t)++[PV.int .i64 x]++List.drop (i+1) (fC t)=fC (t.1.set i x,t.2):=by
 have h1:=Jp (m:=t.1) (i:=i) (x:=x) (by omega);unfold fC;rw[List.take_append_of_le_length (by rw[bW];omega),drop_append_of_le_length (by rw[bW];omega),<-qlb,h1]
theorem uD (ids:List Nat): ∀ m:List Int,dL ids (mC m) (mC m)
 | []=>by simp[mC,dL]
 | x::m=>by
  have:=uD ids m;unfold mC at this ⊢;simp[dL,cw,this]
theorem QT (ids:List Nat): ∀ (a b:List PV),dL ids a a->dL ids b b->dL ids (a++b) (a++b)
 | [],_,_,h=>h
 | _::a,b,h1,h2=>⟨h1.1,QT ids a b h1.2 h2⟩
theorem ij (ids:List Nat) (t:RT):dL ids (fC t) (fC t):=QT ids _ _ (uD ids t.1) (by simp[Raw.c,dL,cw])
theorem d6 {t:RT} (h:t.1.length=8):List.take 3 (List.drop 8 (fC t))=t.2.c:=by rw[NL h];rfl
theorem zA (H:List Ob) (r:Raw):l6 H r.c=some r.f:=rfl
theorem Gi (r:Raw):r.f.map .fv=r.c:=rfl
theorem fG (r:Raw):r.c.flatMap fN=[]:=rfl
theorem da (f:Nat->Nat) (r:Raw):List.map (reloc1 f) r.c=r.c:=rfl
theorem tu (r:Raw):List.take 3 r.c=r.c:=rfl
theorem lA {t:RT} {r:Raw} (h:t.1.length=8):List.take 8 (fC t)++r.c++List.drop 11 (fC t)=fC (t.1,r):=by
 rw[ed h,List.drop_of_length_le (by rw[aH h];omega),append_nil];rfl
theorem Gj (r:Raw):r.f.length=3:=rfl
theorem QU (r:Raw):List.take 3 r.f=r.f:=rfl
theorem aex (ids:List Nat) (r:Raw):dL ids r.c r.c:=by simp[Raw.c,dL,cw]
theorem QV {m:List Int} {i:Nat} (h:i<m.length):List.take 1 (List.drop i (jl m))=[FV.lit (.int .i64 (m.getD i 0))]:=by
 unfold jl;rw[drop_eq_getElem_cons (by simpa using h),take_succ_cons,List.take_zero,List.getElem_map,qa,qb h];rfl
theorem QW {t:RT} {i:Nat} (h:i<8) (hl:t.1.length=8):List.take 1 (List.drop i (gC t))=[FV.lit (.int .i64 (t.1.getD i 0))]:=by
 have h1:=QV (m:=t.1) (i:=i) (by omega);unfold gC;rw[drop_append_of_le_length (by rw[dY];omega),List.take_append_of_le_length (by rw[length_drop,dY];omega),h1]
theorem LR (r:Raw):still (.agg r.c)=true:=rfl
theorem cz (r:Raw):r.c.length=3:=rfl
def av (ts:List RT):List (List FV):=ts.map gC
def pw (ms:List (List Int)):List (List FV):=ms.map jl
theorem aw (ts:List RT):(av ts).length=ts.length:=by simp[av]
theorem uE (ms:List (List Int)):(pw ms).length=ms.length:=by simp[pw]
def mf:RT:=([],rz)
theorem cE {ts:List RT} {i:Nat} (h:i<ts.length):(av ts).getD i []=gC (ts.getD i mf):=by
 simp[av,h]
theorem Jq {ms:List (List Int)} {i:Nat} (h:i<ms.length):(pw ms).getD i []=jl (ms.getD i []):=by
 simp[pw,h]
theorem fH {ts:List RT} {i:Nat} (h:i<ts.length):ts.getD i mf∈ts:=by
 rw[qa,qb h];simp
theorem dT (ts:List RT) (t:RT):av ts++[gC t]=av (ts++[t]):=by simp[av]
theorem Jr (ms:List (List Int)) (m:List Int):pw ms++[jl m]=pw (ms++[m]):=by simp[pw]
theorem bB {ts:List RT} {n:Nat} (h:ts.length<=n):List.take n (av ts)=av ts:=dm (by rw[aw];exact h)
theorem Js {ms:List (List Int)} {n:Nat} (h:ms.length<=n):List.take n (pw ms)=pw ms:=dm (by rw[uE];exact h)
structure TOk (k:Nat) (t:RT):Prop where
 len:t.1.length=8
 rng: ∀ x∈t.1,-1000000000000<=x/\x<=1000000000000
 raw:t.2.Ok k
theorem TOk.mono {j k:Nat} {t:RT} (h:TOk j t) (hk:j<=k):TOk k t:=⟨h.len,h.rng,h.raw.mono hk⟩
def TsOk (k:Nat) (ts:List RT):Prop:= ∀ t∈ts,TOk k t
def gG (m:List Int):Bool:=m.all (fun d=>decide (0<=d)&&decide (d<=1024))
def validB (ts:List RT):Bool:=ts.all (fun t=>gG t.1)
abbrev PL (ts:List RT):PV:= .fv (.sl (av ts))
set_option maxRecDepth 100000
set_option maxHeartbeats 2000000
theorem uF (m:List Int) (n:Nat) (h:m.length=n):d4 1 n (jl m)=ints m:=by
 subst h
 induction m with
 | nil=>rfl
 | cons x m ih=>
  unfold jl ints at ih ⊢;simp only[length_cons,map_cons,d4,take_succ_cons,List.take_zero,List.drop_succ_cons,List.drop_zero,ih]
theorem CV (x:Int):Den Tryz.prog 272 [] [.int .i64 x] [] (.bool false):=by
 have e:(x !=x)=false:=by simp
 refine dq Tryz.func272 5 0 ?_;refine bw e ?_;refine a_ rfl
theorem aey (x y:Int):Den Tryz.prog 246 [] [.int .i64 x,.int .i64 y] [] (.int .i64 (if x<y then -1 else if y<x then 1 else 0)):=by
 by_cases h1:x<y
 .have e1:decide (x<y)=true:=f3 h1;rw[if_pos h1];refine dq Tryz.func246 18 0 ?_;refine aW ?_;refine gp (CV x) rfl ?_;refine aN ?_;refine gp (CV y) rfl ?_;refine ae e1 ?_;refine a_ rfl
 have e1:decide (x<y)=false:=jI h1;rw[if_neg h1];by_cases h2:y<x
 .have e2:decide (x>y)=true:=f3 h2;rw[if_pos h2];refine dq Tryz.func246 18 0 ?_;refine aW ?_;refine gp (CV x) rfl ?_;refine aN ?_;refine gp (CV y) rfl ?_;refine ae (aB e1 e2) ?_;refine a_ rfl
 have e2:decide (x>y)=false:=jI h2;rw[if_neg h2];refine dq Tryz.func246 18 0 ?_;refine aW ?_;refine gp (CV x) rfl ?_;refine aN ?_;refine gp (CV y) rfl ?_;refine ae (aB e1 e2) ?_;refine a_ rfl
theorem Yt (a b:List Int) (n:Nat) (ha:a.length=n) (hb:b.length=n) (hn:n<1000):Den Tryz.prog 208 [] [.fv (.sl (ints a)),.fv (.sl (ints b))] [] (.int .i64 (jv a b)):=by
 have la:=cv a;have lb:=cv b;rw[ha] at la;rw[hb] at lb;refine dq Tryz.func208 34 0 ?_;refine bw la ?_;refine wl (α:=Nat) (fun i=>⟨[.fv (.sl (ints a)),.fv (.sl (ints b)),.any,.any,.any,.any,.any,.any,.any,.fv (.sl (ints a)),.int .i64 n,.int .i64 i]++replicate 24 .any,[]⟩) (fun i=>n - i) (fun i=>i<=n/\jv (a.drop i) (b.drop i)=jv a b) 0 ?_ ?_ ?_
 .exact bx []
 .exact⟨dk _,rfl⟩
 rintro i ⟨hi,hc⟩;refine aW ?_;refine bM ?_ ?_
 .intro h1 h2;have ga:=iz (xs:=a) (i:=i) (by omega);have gb:=iz (xs:=b) (i:=i) (by omega);have lS:=NJ (a:=a) (b:=b) (i:=i) (by omega) (by omega);obtain⟨x,hx⟩:=ax (a.getD i 0);obtain⟨y,hy⟩:=ax (b.getD i 0);rw[hx] at ga lS;rw[hy] at gb lS;have e1:decide ((i:Int)>=(n:Int))=false:=oc;have Cd:=aey x y;obtain⟨z,hz⟩: ∃ z:Int,(if x<y then(-1:Int) else if y<x then 1 else 0)=z:=⟨_,rfl⟩;rw[hz] at Cd;refine ae (dN h2 la lb ga gb e1) ?_
  repeat refine ag ?_
  refine aM Cd ?_;refine aN ?_;refine Br.bneInt ?_ ?_
  .intro h3 h4;have Uj:jv a b=z:=by
    rw[<-hc,lS,<-hz];by_cases h5:x<y
    .rw[if_pos h5,if_pos h5]
    rw[if_neg h5,if_neg h5];by_cases h6:y<x
    .rw[if_pos h6,if_pos h6]
    rw[if_neg h5,if_neg h6] at hz;omega
   rw[Uj];refine ae h4 ?_;refine a_ rfl
  intro h3 h4;have h5: ¬x<y:=fun h=>by rw[if_pos h] at hz;omega
  have h6: ¬y<x:=fun h=>by rw[if_neg h5,if_pos h] at hz;omega
  rw[if_neg h5,if_neg h6] at lS;refine ae h4 ?_;refine aA (i+1) ?_ ⟨by omega,by rw[<-lS,hc]⟩;exact bx []
 intro h1 h2;have hz:jv a b=0:=by
  rw[<-hc,List.drop_of_length_le (by omega),List.drop_of_length_le (by omega)];rfl
 rw[hz];have e1:decide ((n:Int)<(n:Int))=false:=oc;refine ae (dR h2 la lb e1) ?_;refine a_ rfl
theorem aez (s t:RT) (hs:s.1.length=8) (ht:t.1.length=8):Den Tryz.prog 170 [] [.agg [.bool true],.agg (fC s),.agg (fC t)] [] (.int .i64 (-(jv s.1 t.1))):=by
 have h1:=Yt s.1 t.1 8 hs ht (by decide);have g1:=uF s.1 8 hs;have g2:=uF t.1 8 ht;have r:=tr s.1 t.1;obtain⟨z,hz⟩:=ax (jv s.1 t.1);rw[hz] at h1 r ⊢;have ls:=aH hs;have lt:=aH ht;have k1:=ed hs;have k2:=ed ht;have i1:List.take 8 (ints s.1)=ints s.1:=dm (by rw[cv];omega);have i2:List.take 8 (ints t.1)=ints t.1:=dm (by rw[cv];omega);have e0:(0:Int) - z= -z:=by omega
 refine dq Tryz.func170 15 0 ?_;refine bw (aB ls lt) ?_
 repeat refine ag ?_
 refine Draw.freeze [1,2] (by kernel_rfl) ?_;simp -dsimp(disch:=omega) only[k1,k2,oJ,p5,ls,lt,g1,g2,Option.isSome_none,imp_self,i1,i2,↓reduceIte,reduceMul,Nat.reduceSub,reduceLT,reduceLeDiff,ru]
 repeat refine ag ?_
 refine gp h1 (by simp[bJ,eT,eo,dZ]) ?_;refine ae e0 ?_
 repeat refine ag ?_
 refine a_ rfl
theorem zB (r:Raw):xg r r=true:=by simp[xg]
theorem ajD (rs:List Raw) (fj:LOk 5000000000 rs):Den Tryz.prog 151 [] [RL rs,RL rs] [] (.bool true):=by
 have aF:=fj.len;have nt:=ah rs;unfold RL;refine dq Tryz.func151 23 0 ?_;refine aW ?_
 repeat refine ag ?_
 refine wl (α:=Nat) (fun i=>⟨[.any,.any,.ptr 0 0 0,.ptr 1 0 0,.any,.int .i64 i]++replicate 19 .any,[.box true (flat rs),.box true (flat rs)]⟩)
  (fun i=>8 - i) (fun i=>i<=8) 0 ?_ ?_ ?_
 .exact ou [0,1]
 .exact dk _
 rintro i hi;have dS:=b_ (rs:=rs) (i:=i) (by omega);have wU:=QF (rs.getD i rz) (rs.getD i rz) (fj.at i) (fj.at i);rw[zB] at wU;obtain⟨x,hx⟩:=ax (rs.getD i rz);rw[hx] at dS wU;unfold Raw.v at wU;have hb:(!true)=false:=rfl;refine aW ?_;refine bM ?_ ?_
 .intro h1 h2;refine ae h2 ?_;refine dw (by kernel_rfl) ?_;refine ae dS ?_
  repeat refine ag ?_
  refine aM wU ?_;refine ae hb ?_;refine aA (i+1) ?_ (by omega);exact ou [0,1]
 intro h1 h2;have pC:i=8:=by omega
 subst pC;simp only[reduceMul] at dS;refine ae (aB h2 dS) ?_
 repeat refine ag ?_
 refine aM wU ?_;refine aN ?_;refine a_ rfl
theorem NM (rs:List Raw) (v:Nat):(rs.set v (cn 0)).map Raw.q=(rs.set v rz).map Raw.q:=by
 rw[List.map_set,List.map_set,cu,UG]
theorem aeA (rs:List Raw) (v:Nat) (fj:LOk 2000000000 rs) (hv:v<8):Den Tryz.prog 193 [] [RL rs,.int .i64 v] [] (FL ((rs.set v rz).map Raw.q)):=by
 have aF:=fj.len;have nt:=ah rs;have Y':(flat rs).length=27:=by omega
 have jN:=iy 0 (by decide);rw[show((0:Int):Rat)=0 from rfl,bt,bQ,bQ] at jN;have bn:=er (rs:=rs) (i:=v) (by omega) (decide ((0:Rat).num<0)) (ak (0:Rat).num.natAbs) (ak (0:Rat).den);have sX:(⟨decide ((0:Rat).num<0),ak (0:Rat).num.natAbs,ak (0:Rat).den⟩:Raw)=cn 0:=rfl;rw[sX] at bn;have bF:LOk 2000000000 (rs.set v (cn 0)):=⟨by simp[aF],fun r hr=>by
  rcases List.mem_or_eq_of_mem_set hr with h1 | h1
  .exact fj.ok r h1
  rw[h1];exact Raw.Ok.mono (bj (Bd.zero (k:=1) (by decide))) (by decide)⟩
 have M8:=QH (rs.set v (cn 0)) bF;rw[NM] at M8;obtain⟨ys,hy⟩:=ax (rs.set v (cn 0));rw[hy] at bn M8 bF;have Fy:=bF.len;have hyf:(flat ys).length=27:=by rw[ah];omega
 unfold FL RL at M8 ⊢;obtain⟨zs,hz⟩:=ax (((rs.set v rz).map Raw.q).map cn);have nu:zs.length=9:=by rw[<-hz];simp[aF]
 have k7:(flat zs).length=27:=by rw[ah];omega
 rw[hz] at M8 ⊢;refine dq Tryz.func193 9 0 ?_;refine aW ?_
 repeat refine ag ?_
 refine aM jN ?_;simp -dsimp(disch:=omega) only[append_nil,bn,aj Fy,hyf,↓reduceIte,reduceAdd,reduceLT,reduceLeDiff,ru]
 repeat refine ag ?_
 refine gv M8 ?_;refine bm k7 ?_
 repeat refine ag ?_
 exact RetOK.form rfl rfl nu
theorem QX (rs:List Raw) (v:Nat) (fj:LOk 1000 rs) (hv:v<8) (h0:(rs.getD v rz).q=0):Den Tryz.prog 148 [] [RL rs,.int .i64 v] [] (.tup [FL (rs.map Raw.q),.int .i64 0]):=by
 have aF:=fj.len;have nt:=ah rs;have dS:=b_ (rs:=rs) (i:=v) (by omega);have jh:=mc (rs.getD v rz) ((fj.at v).mono (by decide));rw[a9.2 h0] at jh;obtain⟨r,hr⟩:=ax (rs.getD v rz);rw[hr] at dS jh;unfold Raw.v at jh;have M8:=QH rs (fj.mono (by decide));unfold FL RL at M8 ⊢;obtain⟨zs,hz⟩:=ax ((rs.map Raw.q).map cn);have nu:zs.length=9:=by rw[<-hz];simp[aF]
 have k7:(flat zs).length=27:=by rw[ah];omega
 rw[hz] at M8 ⊢;have e00:((0:Int)==0)=true:=rfl;refine dq Tryz.func148 30 0 ?_;refine bw (aB dS @append_nil.{0}) ?_
 repeat refine ag ?_
 refine aM jh ?_;simp -dsimp(disch:=omega) only[append_nil,e00,aj aF,↓reduceIte,reduceAdd,ru]
 repeat refine ag ?_
 refine gv M8 ?_;refine bm k7 ?_
 repeat refine ag ?_
 exact RetOK.form2 rfl rfl nu rfl
theorem Yu (rs:List Raw) (v:Nat) (fj:LOk 1000 rs) (hv:v<8) (h0:(rs.getD v rz).q≠0):
 Den Tryz.prog 148 [] [RL rs,.int .i64 v] [] (.tup [FL ((rs.set v rz).map (fun r=>r.q*(-1 / (rs.getD v rz).q))),.int .i64 (fQ (rs.getD v rz).q)]):=by
 have aF:=fj.len
 have nt:=ah rs
 have bF:=fj.at v
 have dS:=b_ (rs:=rs) (i:=v) (by omega)
 have jh:=mc (rs.getD v rz) (bF.mono (by decide))
 have h73:=aeA rs v (fj.mono (by decide)) hv
 have Iv:=QL fj v
 have I6: ∀ r∈rs.set v rz,Bd 1000 r.q:=fun r hr=>(Iv.ok r hr).bd (by decide)
 obtain⟨r,hr⟩:=ax (rs.getD v rz)
 rw[hr] at dS jh bF h0
 rw[hr]
 have dX:Bd 1 (((-1:Int)):Rat):=⟨by decide,by decide⟩
 have jN:=iy (-1) (by decide)
 have kV:=QC (cn ((-1:Int):Rat)) r (Raw.Ok.mono (bj dX) (by decide)) (bF.mono (by decide)) h0
 rw[cu] at kV
 change Den Tryz.prog 192 [] [FR ((-1:Int):Rat),r.v] [] _ at kV
 have hbd:=dX.div (bF.bd (by decide)) h0 (by decide)
 have yq:=Lw (((rs.set v rz).map Raw.q).map cn) (cn (((-1:Int):Rat) / r.q)) (LOk.map Iv.len (fun x hx=>(I6 x hx).mono (by decide))) (Raw.Ok.mono (bj hbd) (by decide))
 rw[cu] at yq
 have ub:(((rs.set v rz).map Raw.q).map cn).map (fun x=>x.q*(((-1:Int):Rat) / r.q))=(rs.set v rz).map (fun x=>x.q*(-1 / r.q)):=by
  rw[List.map_map,List.map_map];apply List.map_congr_left;intro x _;simp only[Function.comp,cu];rfl
 rw[ub] at yq
 change Den Tryz.prog 108 [] [FL ((rs.set v rz).map Raw.q),FR (((-1:Int):Rat) / r.q)] [] _ at yq
 have e1:((-1:Int):Rat)= -1:=rfl
 rw[e1] at yq kV jN
 obtain⟨zs,hz⟩:=Lc (((rs.set v rz).map (fun x=>x.q*(-1 / r.q))).map cn)
 have nu:zs.length=9:=by rw[<-hz];simp[aF]
 have k7:(flat zs).length=27:=by rw[ah];omega
 unfold FL RL at yq h73 ⊢
 rw[hz] at yq ⊢
 obtain⟨ys,hy⟩:=ax (((rs.set v rz).map Raw.q).map cn)
 rw[hy] at yq h73
 rw[bt] at jN yq
 rw[bt,bt] at kV
 unfold Raw.v at jh kV
 have DT:(fQ r.q==0)=false:=by rw[qx];exact fun h=>h0 (a9.1 h)
 refine dq Tryz.func148 30 0 ?_
 refine bw (aB dS @append_nil.{0}) ?_
 repeat refine ag ?_
 refine aM jh ?_
 refine ae (aB DT @append_nil.{0}) ?_
 refine dw (by kernel_rfl) ?_
 refine aN ?_
 refine aM jN ?_
 refine ae @append_nil.{0} ?_
 refine aM kV ?_
 refine ae @append_nil.{0} ?_
 refine dw (by kernel_rfl) ?_
 simp -dsimp(disch:=omega) only[aj aF,↓reduceIte,ru]
 repeat refine ag ?_
 refine gv h73 ?_
 refine vG ?_
 refine gv yq ?_
 refine bm k7 ?_
 repeat refine ag ?_
 exact RetOK.form2 rfl rfl nu rfl
theorem Yv (a b:List Raw) (ha:LOk 1000000000 a) (hb:LOk 1000000000 b):Den Tryz.prog 162 [] [RL a,RL b] [] (FL (nK a b)):=by
 have la:=ha.len;have lb:=hb.len;have fa:=ah a;have fb:=ah b;unfold FL RL;obtain⟨T,hT⟩:=ax ((nK a b).map cn);have lT:T.length=9:=by rw[<-hT,length_map];exact fR la lb
 have hTg: ∀ i,i<9->T.getD i rz=cn ((a.getD i rz).q+(b.getD i rz).q):=fun i hi=>by rw[<-hT];exact rD (by omega) (by omega)
 obtain⟨Z,hZ⟩:=ax (replicate 9 rz);have lZ:Z.length=9:=by rw[<-hZ];rfl
 rw[hT];refine dq Tryz.func162 30 0 ?_;refine aW ?_
 repeat refine ag ?_
 refine wl (α:=Nat) (fun i=>⟨[.any,.any,.ptr 0 0 0,.ptr 1 0 0,.ptr 2 0 0,.ptr 2 0 0,.any,.any,.int .i64 i]++replicate 23 .any,[.box true (flat a),.box true (flat b),.box true (flat (Fs T i Z))]⟩)
  (fun i=>8 - i) (fun i=>i<=8) 0 ?_ ?_ ?_
 .refine eH [0,1,2] ?_ ?_
  .simp[bh,dF,cw]
  rw[F7,<-hZ];simp[d_,fD,dL,cw,ec,replicate,flat,rz,u32s]
 .exact dk _
 rintro i hi;have pR:=zn (T:=T) (rest:=Z) i (by omega);have hof:=ah (Fs T i Z);have gY:=b_ (rs:=a) (i:=i) (by omega);have kz:=b_ (rs:=b) (i:=i) (by omega);have ck:=LG (T:=T) (rest:=Z) (i:=i) (by omega) (by omega);rw[hTg i (by omega)] at ck;have cA:=Lr (a.getD i rz) (b.getD i rz) (ha.at i) (hb.at i);obtain⟨r,hr⟩:=ax (a.getD i rz);obtain⟨s,hs⟩:=ax (b.getD i rz);rw[hr] at gY ck cA;rw[hs] at kz ck cA;have bn:=er (rs:=Fs T i Z) (i:=i) (by omega) (decide ((r.q+s.q).num<0)) (ak (r.q+s.q).num.natAbs) (ak (r.q+s.q).den);have sX:(⟨decide ((r.q+s.q).num<0),ak (r.q+s.q).num.natAbs,ak (r.q+s.q).den⟩:Raw)=cn (r.q+s.q):=rfl;rw[sX,ck] at bn;rw[bt,bQ,bQ] at cA;unfold Raw.v at cA;refine aW ?_;refine bM ?_ ?_
 .intro h1 h2;refine ae h2 ?_;refine dw (by kernel_rfl) ?_;refine ae (aB gY kz) ?_
  repeat refine ag ?_
  refine aM cA ?_;refine ae (aB bn @append_nil.{0}) ?_
  repeat refine ag ?_
  refine aA (i+1) ?_ (by omega);exact ou [0,1,2]
 intro h1 h2;have pC:i=8:=by omega
 subst pC;rw[LF (n:=8+1) lT lZ] at bn;simp only[reduceMul,reduceAdd] at gY kz bn;have k7:(flat T).length=27:=by rw[ah];omega
 have Tf:List.drop 27 (flat T)=[]:=List.drop_of_length_le (by omega);refine ae (bA h2 gY kz) ?_
 repeat refine ag ?_
 refine aM cA ?_;simp -dsimp(disch:=omega) only[append_nil,bn,k7,aj lT,Tf,↓reduceIte,reduceAdd,reduceLT,reduceLeDiff,ru]
 repeat refine ag ?_
 exact RetOK.form rfl rfl lT
theorem zC (a b:List Raw) (ha:LOk 1000000000 a) (hb:LOk 1000000000 b):Den Tryz.prog 101 [] [RL a,RL b] [] (FL (nK a b)):=by
 have la:=ha.len;have lb:=hb.len;have fa:=ah a;have fb:=ah b;have jN:=iy 0 (by decide);rw[show((0:Int):Rat)=0 from rfl,bt,bQ,bQ] at jN;unfold FL RL;obtain⟨T,hT⟩:=ax ((nK a b).map cn);have lT:T.length=9:=by rw[<-hT,length_map];exact fR la lb
 have hTg: ∀ i,i<9->T.getD i rz=cn ((a.getD i rz).q+(b.getD i rz).q):=fun i hi=>by rw[<-hT];exact rD (by omega) (by omega)
 rw[hT];refine dq Tryz.func101 43 0 ?_;refine aW ?_
 repeat refine ag ?_
 refine wl (α:=Nat) (fun i=>⟨[.any,.any,.ptr 0 0 0,.ptr 1 0 0,.ptr 2 0 0,.int .i64 i]++replicate 39 .any,[.box true (flat (Fs T i a)),.box true (flat b),.box true (ic 9)]⟩)
  (fun i=>8 - i) (fun i=>i<=8) 0 ?_ ?_ ?_
 .refine eH [0,1,2] ?_ ?_
  .simp[bh,dF,cw]
  rw[F7];simp[d_,fD,dL,cw,ec,ic]
 .exact dk _
 rintro i hi;have pR:=zn (T:=T) (rest:=a) i (by omega);have hof:=ah (Fs T i a);have gY:=b_ (rs:=Fs T i a) (i:=i) (by omega);rw[QN (by omega) (by omega) (qp _)] at gY;have kz:=b_ (rs:=b) (i:=i) (by omega);have ck:=LG (T:=T) (rest:=a) (i:=i) (by omega) (by omega);rw[hTg i (by omega)] at ck;have cA:=QD (a.getD i rz) (b.getD i rz) (ha.at i) (hb.at i);obtain⟨r,hr⟩:=ax (a.getD i rz);obtain⟨s,hs⟩:=ax (b.getD i rz);rw[hr] at gY ck cA;rw[hs] at kz ck cA;have agx:=xi r;have Pm:=xi s;have bn:=er (rs:=Fs T i a) (i:=i) (by omega) (decide ((r.q+s.q).num<0)) (ak (r.q+s.q).num.natAbs) (ak (r.q+s.q).den);have sX:(⟨decide ((r.q+s.q).num<0),ak (r.q+s.q).num.natAbs,ak (r.q+s.q).den⟩:Raw)=cn (r.q+s.q):=rfl;rw[sX,ck] at bn;rw[bt,bQ,bQ] at cA;unfold Raw.v at cA agx Pm;refine aW ?_
 refine bM ?_ ?_
 .intro h1 h2;refine ae (aB h2 gY) ?_
  repeat refine ag ?_
  refine aM agx ?_;refine ae @append_nil.{0} ?_;by_cases h3:(r.num.length:Int)=0
  .have M6:((r.num.length:Int)==0)=true:=by rw[beq_iff_eq];exact h3
   refine ae (aB M6 kz) ?_
   repeat refine ag ?_
   refine aM Pm ?_;by_cases h4:(s.num.length:Int)=0
   .have Y_:((s.num.length:Int)==0)=true:=by rw[beq_iff_eq];exact h4
    have ku:r.q+s.q=0:=by rw[pV h3,pV h4,Rat.add_zero]
    rw[ku] at bn;refine ae (aB Y_ @append_nil.{0}) ?_;refine aM jN ?_;refine ae (aB bn @append_nil.{0}) ?_
    repeat refine ag ?_
    refine aA (i+1) ?_ (by omega);exact ou [0,1,2]
   have Y_:((s.num.length:Int)==0)=false:=by rw[qx];exact h4
   refine ae (aB Y_ @append_nil.{0}) ?_;refine dw (by kernel_rfl) ?_;refine ae (aB gY kz) ?_
   repeat refine ag ?_
   refine aM cA ?_;refine ae (aB bn @append_nil.{0}) ?_
   repeat refine ag ?_
   refine aA (i+1) ?_ (by omega);exact ou [0,1,2]
  have M6:((r.num.length:Int)==0)=false:=by rw[qx];exact h3
  refine ae M6 ?_;refine dw (by kernel_rfl) ?_;refine ae (aB gY kz) ?_
  repeat refine ag ?_
  refine aM cA ?_;refine ae (aB bn @append_nil.{0}) ?_
  repeat refine ag ?_
  refine aA (i+1) ?_ (by omega);exact ou [0,1,2]
 intro h1 h2;have pC:i=8:=by omega
 subst pC;rw[LF (n:=8+1) lT la] at bn;simp only[reduceMul,reduceAdd] at gY kz bn;have k7:(flat T).length=27:=by rw[ah];omega
 refine ae (bA h2 gY kz) ?_
 repeat refine ag ?_
 refine aM cA ?_;simp -dsimp(disch:=omega) only[bn,k7,aj lT,↓reduceIte,reduceAdd,reduceLT,reduceLeDiff,ru,zu]
 repeat refine ag ?_
 exact RetOK.form rfl rfl lT
theorem QY (a b:List Raw) (ha:LOk 1000000000 a) (hb:LOk 1000000000 b):Den Tryz.prog 201 [] [RL a,RL b] [] (.int .i64 (bV a b)):=by
 have la:=ha.len;have lb:=hb.len;have fa:=ah a;have fb:=ah b;unfold RL;refine dq Tryz.func201 26 0 ?_;refine aW ?_
 repeat refine ag ?_
 refine wl (α:=Nat) (fun i=>⟨[.any,.any,.ptr 0 0 0,.ptr 1 0 0,.any,.any,.any,.int .i64 i]++replicate 20 .any,[.box true (flat a),.box true (flat b)]⟩)
  (fun i=>8 - i) (fun i=>i<=8/\bV (a.drop i) (b.drop i)=bV a b) 0 ?_ ?_ ?_
 .exact ou [0,1]
 .exact⟨dk _,rfl⟩
 rintro i ⟨hi,bK⟩;have gY:=b_ (rs:=a) (i:=i) (by omega);have kz:=b_ (rs:=b) (i:=i) (by omega);have cA:=aei (a.getD i rz) (b.getD i rz) (ha.at i) (hb.at i);have lS:=v3 (a:=a) (b:=b) (i:=i) (by omega) (by omega);have fr:i=8->bV (a.drop i) (b.drop i)=fQ ((a.getD i rz).q - (b.getD i rz).q):=fun h=>CI (by omega) (by omega)
 obtain⟨r,hr⟩:=ax (a.getD i rz);obtain⟨s,hs⟩:=ax (b.getD i rz);rw[hr] at gY cA lS fr;rw[hs] at kz cA lS fr;obtain⟨z,hz⟩:=ax (fQ (r.q - s.q));rw[hz] at cA lS fr;unfold Raw.v at cA;refine aW ?_;refine bM ?_ ?_
 .intro h1 h2;refine ae h2 ?_;refine dw (by kernel_rfl) ?_;refine ae (aB gY kz) ?_
  repeat refine ag ?_
  refine aM cA ?_;refine ae @append_nil.{0} ?_;refine Br.bneInt ?_ ?_
  .intro h3 h4;rw[if_neg h3] at lS;rw[<-bK,lS];refine ae h4 ?_;refine a_ rfl
  intro h3 h4;rw[if_pos h3] at lS;refine ae h4 ?_;refine aA (i+1) ?_ ⟨by omega,by rw[<-lS,bK]⟩;exact ou [0,1]
 intro h1 h2;have pC:i=8:=by omega
 have jg:=fr pC;subst pC;simp only[reduceMul] at gY kz;rw[<-bK,jg];refine ae (bA h2 gY kz) ?_
 repeat refine ag ?_
 refine aM cA ?_;refine ae @append_nil.{0} ?_;refine a_ rfl
theorem Ef {a:List Raw} {i:Nat} (ha:a.length=9) (hi:i<8) (h:(a.getD i rz).q≠0):cy a=false:=by
 unfold cy;rw[List.all_eq_false];refine⟨a.getD i rz,?_,fun h2=>h (of_decide_eq_true h2)⟩;rw[qa,qb (by omega)];exact mem_take_iff_getElem.2 ⟨i,by omega,rfl⟩
theorem Gk {a:List Raw} (h: ∀ i,i<8->(a.getD i rz).q=0):cy a=true:=by
 unfold cy;rw[vP];intro r hr;obtain⟨i,hi,rfl⟩:=mem_take_iff_getElem.1 hr;have:=h i (by omega);rw[qa,qb (by omega)] at this;exact f3 this
theorem QZ (a:List Raw) (ha:LOk 1000000000 a):Den Tryz.prog 145 [] [RL a] [] (.bool (cy a)):=by
 have la:=ha.len;have fa:=ah a;have eO:List.take 24 (flat a)=flat (a.take 8):=rh 8 a;have f8:(flat (a.take 8)).length=24:=by rw[ah,length_take];omega
 unfold RL;refine dq Tryz.func145 13 0 ?_;refine bw eO ?_
 repeat refine ag ?_
 refine wl (α:=Nat) (fun i=>⟨[.any,.ptr 0 0 0,.any,.any,.any,.any,.agg (flat (a.take 8)),.int .i64 i]++replicate 6 .any,[.box true (flat a)]⟩)
  (fun i=>8 - i) (fun i=>i<=8/\ ∀ j,j<i->(a.getD j rz).q=0) 0 ?_ ?_ ?_
 .refine eH [0] ?_ ?_
  .simp[bh,dF,cw,ec]
  simp[d_,fD,ec]
 .exact⟨dk _,fun j h=>by omega⟩
 rintro i ⟨hi,bK⟩;refine aW ?_;refine bM ?_ ?_
 .intro h1 h2;have dS:=b_ (rs:=a.take 8) (i:=i) (by rw[length_take];omega);have yR:(a.take 8).getD i rz=a.getD i rz:=by
   simp only[qa,List.getElem?_take];rw[if_pos (by omega)]
  rw[yR] at dS;have cA:=nF (a.getD i rz) ((ha.at i).mono (by decide));obtain⟨r,hr⟩:=ax (a.getD i rz);rw[hr] at dS cA;unfold Raw.v at cA;refine ae (bA h2 dS @append_nil.{0}) ?_
  repeat refine ag ?_
  refine aM cA ?_;refine ae @append_nil.{0} ?_;refine Br.bneInt ?_ ?_
  .intro h3 h4;rw[Ef (i:=i) la (by omega) (by rw[hr];exact fun h=>h3 (a9.2 h))];refine ae h4 ?_;refine a_ rfl
  intro h3 h4;refine ae h4 ?_;refine aA (i+1) ?_ ⟨by omega,fun j hj=>?_⟩
  .refine eH [0] ?_ ?_
   .simp[bh,dF,cw,ec]
   simp[d_,fD,ec]
  by_cases ss:j=i
  .rw[ss,hr];exact a9.1 h3
  exact bK j (by omega)
 intro h1 h2;rw[Gk (fun j hj=>bK j (by omega))];refine ae h2 ?_;refine a_ rfl
set_option maxHeartbeats 4000000
end Go.Proofs.YtjjbkjgifdhlcaaGreat
namespace Go.Pl
open Go.AM
theorem iB {q:Rat}:fQ q<0↔q<0:=by
 have h:=v5 (x:=q) (y:=0);have e:q - 0=q:=by grind
 rw[e] at h;exact h
theorem jW {q:Rat}:0<fQ q↔0<q:=by
 have h:=QO (x:=q) (y:=0);have e:q - 0=q:=by grind
 rw[e] at h;exact h
theorem lB {q:Rat} (h:0<q):fQ q=1:=by
 have:=jW.2 h;rcases kZ q with h1 | h1 | h1<;>omega
theorem oK {q:Rat} (h:q<0):fQ q= -1:=by
 have:=iB.2 h;rcases kZ q with h1 | h1 | h1<;>omega
theorem Q0 {a:List Raw} {v i:Nat} (hi:i<a.length):(a.set v rz).getD i rz=if v=i then rz else a.getD i rz:=by
 simp only[qa,getElem?_set];split
 .rename_i h;subst h;simp[hi]
 rfl
theorem mg {a:List Raw} {i:Nat} (g:Raw->Rat) (hi:i<a.length):(((a.map g).map cn).getD i rz).q=g (a.getD i rz):=by
 have:((a.map g).map cn).getD i rz=cn (g (a.getD i rz)):=by simp[qa,hi]
 rw[this,cu]
def co (a:List Raw) (i:Nat):Rat:=(a.getD i rz).q
def lv (a:List Raw) (x:Nat->Rat):Nat->Rat
 | 0=>co a 8
 | k+1=>lv a x k+co a k*x k
def bf (a:List Raw) (x:Nat->Rat):Rat:=lv a x 8
def Eg (cs:List (List Raw)):Prop:= ∃ x:Nat->Rat,∀ l∈cs,0<bf l x
def upd (x:Nat->Rat) (v:Nat) (t:Rat):Nat->Rat:=fun i=>if i=v then t else x i
theorem Q1 {a:List Raw} {x:Nat->Rat} {v:Nat} {t:Rat}: ∀ k,lv a (upd x v t) k=lv a x k+(if v<k then co a v*(t - x v) else 0)
 | 0=>by unfold lv;rw[if_neg (by omega)];grind
 | k+1=>by
  unfold lv;rw[Q1 k];by_cases h:v=k
  .subst h;rw[if_neg (by omega),if_pos (by omega)];simp only[upd,if_pos];grind
  have h2:upd x v t k=x k:=if_neg (fun h3=>h h3.symm);rw[h2];by_cases h3:v<k
  .rw[if_pos h3,if_pos (by omega)];grind
  rw[if_neg h3,if_neg (by omega)];grind
theorem gH {a:List Raw} {x:Nat->Rat} {v:Nat} {t:Rat} (hv:v<8):bf a (upd x v t)=bf a x+co a v*(t - x v):=by
 unfold bf;rw[Q1,if_pos hv]
theorem zD {a b:List Raw} {x:Nat->Rat} (h: ∀ i,i<9->co a i=co b i): ∀ k,k<=8->lv a x k=lv b x k
 | 0,_=>h 8 (by omega)
 | k+1,hk=>by unfold lv;rw[zD h k (by omega),h k (by omega)]
theorem Q2 {a b c:List Raw} {r s:Rat} {x:Nat->Rat} (h: ∀ i,i<9->co c i=r*co a i+s*co b i): ∀ k,k<=8->lv c x k=r*lv a x k+s*lv b x k
 | 0,_=>h 8 (by omega)
 | k+1,hk=>by unfold lv;rw[Q2 h k (by omega),h k (by omega)];grind
theorem zE {a b c:List Raw} {r s:Rat} {x:Nat->Rat} (h: ∀ i,i<9->co c i=r*co a i+s*co b i):bf c x=r*bf a x+s*bf b x:=Q2 h 8 (by omega)
theorem Q3: ∀ L:List Rat,L≠[]-> ∃ m∈L,∀ l∈L,l<=m
 | [],h=>absurd rfl h
 | [a],_=>⟨a,by simp,fun l hl=>by simp at hl;subst hl;exact Rat.le_refl⟩
 | a::b::t,_=>by
  obtain⟨m,hm,h⟩:=Q3 (b::t) (by simp);by_cases hc:a<=m
  .exact⟨m,mem_cons_of_mem _ hm,fun l hl=>by
    rcases List.mem_cons.1 hl with h1 | h1
    .rw[h1];exact hc
    exact h l h1⟩
  exact⟨a,by simp,fun l hl=>by
   rcases List.mem_cons.1 hl with h1 | h1
   .rw[h1];exact Rat.le_refl
   have:=h l h1;grind⟩
theorem Jt: ∀ L:List Rat,L≠[]-> ∃ m∈L,∀ l∈L,m<=l
 | [],h=>absurd rfl h
 | [a],_=>⟨a,by simp,fun l hl=>by simp at hl;subst hl;exact Rat.le_refl⟩
 | a::b::t,_=>by
  obtain⟨m,hm,h⟩:=Jt (b::t) (by simp);by_cases hc:m<=a
  .exact⟨m,mem_cons_of_mem _ hm,fun l hl=>by
    rcases List.mem_cons.1 hl with h1 | h1
    .rw[h1];exact hc
    exact h l h1⟩
  exact⟨a,by simp,fun l hl=>by
   rcases List.mem_cons.1 hl with h1 | h1
   .rw[h1];exact Rat.le_refl
   have:=h l h1;grind⟩
theorem UO (L U:List Rat) (h: ∀ l∈L,∀ u∈U,l<u): ∃ m,(∀ l∈L,l<m)/\(∀ u∈U,m<u):=by
 by_cases hL:L=[]
 .by_cases hU:U=[]
  .subst hL;subst hU;exact⟨0,by simp,by simp⟩
  obtain⟨m,hm,Tg⟩:=Jt U hU;subst hL;exact⟨m - 1,by simp,fun u hu=>by have:=Tg u hu;grind⟩
 obtain⟨m,hm,agy⟩:=Q3 L hL;by_cases hU:U=[]
 .subst hU;exact⟨m+1,fun l hl=>by have:=agy l hl;grind,by simp⟩
 obtain⟨w,hw,Tg⟩:=Jt U hU;have hmw:=h m hm w hw;exact⟨(m+w) / 2,fun l hl=>by have:=agy l hl;grind,fun u hu=>by have:=Tg u hu;grind⟩
def sO (a:List Raw) (v:Nat) (b:List Raw):Prop:=co a v≠0/\ ∀ i,i<9->co b i=if v=i then 0 else co a i*(-1 / co a v)
theorem Gl {a b:List Raw} {v:Nat} {x:Nat->Rat} (hb:sO a v b) (hv:v<8): ∀ k,k<=8->lv a x k=(if v<k then co a v*x v else 0) - co a v*lv b x k
 | 0,_=>by
  have h0:=hb.1;unfold lv;rw[hb.2 8 (by omega),if_neg (by omega),if_neg (by omega)];grind
 | k+1,hk=>by
  have h0:=hb.1;unfold lv;rw[Gl hb hv k (by omega),hb.2 k (by omega)];generalize lv b x k=z;by_cases h:v=k
  .subst h;rw[if_neg (by omega),if_pos rfl,if_pos (by omega)];grind
  rw[if_neg h];by_cases h2:v<k
  .rw[if_pos h2,if_pos (by omega)];grind
  rw[if_neg h2,if_neg (by omega)];grind
theorem tv {a b:List Raw} {v:Nat} {x:Nat->Rat} (hb:sO a v b) (hv:v<8):bf a x=co a v*(x v - bf b x):=by
 unfold bf;rw[Gl hb hv 8 (by omega),if_pos hv];grind
theorem CW {a b:List Raw} {v:Nat} {x:Nat->Rat} (hb:sO a v b) (hv:v<8) (h:0<co a v):0<bf a x↔bf b x<x v:=by
 rw[tv hb hv];constructor
 .intro h1;rcases Rat.not_le.1 (fun h2:x v<=bf b x=>by
   have h3:0<=bf b x - x v:=by grind
   have h4:=Rat.mul_nonneg (Rat.le_of_lt h) h3;grind) with h5
  exact h5
 intro h1;exact Rat.mul_pos h (by grind)
theorem CX {a b:List Raw} {v:Nat} {x:Nat->Rat} (hb:sO a v b) (hv:v<8) (h:co a v<0):0<bf a x↔x v<bf b x:=by
 rw[tv hb hv];have hn:0< -co a v:=by grind
 constructor
 .intro h1;rcases Rat.not_le.1 (fun h2:bf b x<=x v=>by
   have h3:0<=x v - bf b x:=by grind
   have h4:=Rat.mul_nonneg (Rat.le_of_lt hn) h3;grind) with h5
  exact h5
 intro h1;have h2:=Rat.mul_pos hn (show 0<bf b x - x v by grind);grind
def ZY (cs:List (List Raw)) (v:Nat) (B:List Raw->List Raw) (x:Nat->Rat):Prop:=
 (∀ l∈cs,co l v=0->0<bf l x)/\ ∀ l∈cs,∀ u∈cs,0<co l v->co u v<0->bf (B l) x<bf (B u) x
theorem rH {a:List Raw} {x:Nat->Rat} {v:Nat} {t:Rat} (hv:v<8) (h:co a v=0):bf a (upd x v t)=bf a x:=by
 rw[gH hv,h];grind
theorem wi {a b:List Raw} {v:Nat} (hb:sO a v b) (hv:v<8):co b v=0:=by
 rw[hb.2 v (by omega),if_pos rfl]
theorem LS {cs:List (List Raw)} {v:Nat} {B:List Raw->List Raw} {x:Nat->Rat} (hv:v<8) (hB: ∀ l∈cs,co l v≠0->sO l v (B l)) (h: ∀ l∈cs,0<bf l x):ZY cs v B x:=by
 refine⟨fun l hl _=>h l hl,fun l hl u hu h1 h2=>?_⟩;have b1:=(CW (hB l hl (by grind)) hv h1).1 (h l hl);have b2:=(CX (hB u hu (by grind)) hv h2).1 (h u hu);grind
theorem UQ {cs:List (List Raw)} {v:Nat} {B:List Raw->List Raw} {x:Nat->Rat} (hv:v<8) (hB: ∀ l∈cs,co l v≠0->sO l v (B l)) (h:ZY cs v B x): ∃ t,∀ l∈cs,0<bf l (upd x v t):=by
 obtain⟨m,hL,hU⟩:=UO ((cs.filter (fun l=>decide (0<co l v))).map (fun l=>bf (B l) x)) ((cs.filter (fun l=>decide (co l v<0))).map (fun l=>bf (B l) x)) (by
  intro p hp q hq;simp only[mem_map,mem_filter,decide_eq_true_eq] at hp hq;obtain⟨l,⟨hl,h1⟩,rfl⟩:=hp;obtain⟨u,⟨hu,h2⟩,rfl⟩:=hq;exact h.2 l hl u hu h1 h2)
 refine⟨m,fun l hl=>?_⟩;have hxv:upd x v m v=m:=if_pos rfl;by_cases h0:co l v=0
 .rw[rH hv h0];exact h.1 l hl h0
 have hb:=hB l hl h0;have lW:bf (B l) (upd x v m)=bf (B l) x:=rH hv (wi hb hv);by_cases h1:0<co l v
 .rw[CW hb hv h1,lW,hxv];exact hL _ (mem_map.2 ⟨l,mem_filter.2 ⟨hl,f3 h1⟩,rfl⟩)
 have h2:co l v<0:=by grind
 rw[CX hb hv h2,lW,hxv];exact hU _ (mem_map.2 ⟨l,mem_filter.2 ⟨hl,f3 h2⟩,rfl⟩)
structure Proj (cs:List (List Raw)) (v:Nat) (out:List (List Raw)):Prop where
 says: ∃ B:List Raw->List Raw,(∀ l∈cs,co l v≠0->sO l v (B l))/\ ∀ x,(∀ o∈out,0<bf o x)↔ZY cs v B x
theorem Gm {a:List Raw} {x:Nat->Rat} (h: ∀ i,i<8->co a i=0): ∀ k,k<=8->lv a x k=co a 8
 | 0,_=>rfl
 | k+1,hk=>by unfold lv;rw[Gm h k (by omega),h k (by omega)];grind
theorem jx {a:List Raw} {x:Nat->Rat} (h: ∀ i,i<8->co a i=0):bf a x=co a 8:=Gm h 8 (by omega)
theorem Ju {a b:List Raw} {r:Rat} {x:Nat->Rat} (hr:0<r) (h: ∀ i,i<9->co b i=r*co a i):0<bf b x↔0<bf a x:=by
 have e:bf b x=r*bf a x+0*bf a x:=zE (fun i hi=>by rw[h i hi];grind);have e2:bf b x=r*bf a x:=by rw[e];grind
 rw[e2];constructor
 .intro h1;rcases Rat.not_le.1 (fun h2:bf a x<=0=>by
   have h3:=Rat.mul_nonneg (Rat.le_of_lt hr) (show 0<= -bf a x by grind);grind) with h4
  exact h4
 intro h1;exact Rat.mul_pos hr h1
theorem Proj.mk' {cs out:List (List Raw)} {v:Nat} (B:List Raw->List Raw) (hB: ∀ l∈cs,co l v≠0->sO l v (B l))
 (h1: ∀ l∈cs,co l v=0-> ∃ o∈out,∀ i,i<9->co o i=co l i) (h2: ∀ l∈cs,∀ u∈cs,0<co l v->co u v<0-> ∃ o∈out,∀ i,i<9->co o i=co (B u) i - co (B l) i)
 (h3: ∀ o∈out,(∃ l∈cs,co l v=0/\ ∀ i,i<9->co o i=co l i)\/ ∃ l∈cs,∃ u∈cs,0<co l v/\co u v<0/\ ∀ i,i<9->co o i=co (B u) i - co (B l) i):Proj cs v out:=by
 refine⟨B,hB,fun x=>⟨fun h=>⟨fun l hl h0=>?_,fun l hl u hu hp hn=>?_⟩,fun h o ho=>?_⟩⟩
 .obtain⟨o,ho,he⟩:=h1 l hl h0
  have e:bf o x=bf l x:=zD he 8 (by omega)
  rw[<-e];exact h o ho
 .obtain⟨o,ho,he⟩:=h2 l hl u hu hp hn
  have e:bf o x=1*bf (B u) x+(-1)*bf (B l) x:=zE (fun i hi=>by rw[he i hi];grind)
  have:=h o ho
  grind
 rcases h3 o ho with⟨l,hl,h0,he⟩ | ⟨l,hl,u,hu,hp,hn,he⟩
 .have e:bf o x=bf l x:=zD he 8 (by omega)
  rw[e];exact h.1 l hl h0
 have e:bf o x=1*bf (B u) x+(-1)*bf (B l) x:=zE (fun i hi=>by rw[he i hi];grind)
 have:=h.2 l hl u hu hp hn
 grind
theorem mU {α:Type} {lt:α->α->Prop} (asymm: ∀ a b,lt a b-> ¬lt b a): ∀ s t:List α,s.Pairwise lt->t.Pairwise lt->(∀ f,f∈s↔f∈t)->s=t
 | [],[],_,_,_=>rfl
 | [],b::t,_,_,h=>by have:=(h b).2 (by simp);simp at this
 | a::s,[],_,_,h=>by have:=(h a).1 (by simp);simp at this
 | a::s,b::t,hs,ht,h=>by
  have Fu:=pairwise_cons.1 hs;have KB:=pairwise_cons.1 ht;have vL:a=b:=by
   rcases List.mem_cons.1 ((h a).1 (by simp)) with h1 | h1
   .exact h1
   rcases List.mem_cons.1 ((h b).2 (by simp)) with h2 | h2
   .exact h2.symm
   exact absurd (KB.1 a h1) (asymm _ _ (Fu.1 b h2))
  subst vL;have Cl: ¬lt a a:=fun h1=>asymm _ _ h1 h1
  have lR:a∉s:=fun h1=>Cl (Fu.1 a h1)
  have vI:a∉t:=fun h1=>Cl (KB.1 a h1)
  have hm: ∀ f,f∈s↔f∈t:=fun f=>by
   constructor
   .intro h1;rcases List.mem_cons.1 ((h f).1 (mem_cons_of_mem _ h1)) with h2 | h2
    .subst h2;exact absurd h1 lR
    exact h2
   intro h1;rcases List.mem_cons.1 ((h f).2 (mem_cons_of_mem _ h1)) with h2 | h2
   .subst h2;exact absurd h1 vI
   exact h2
  rw[mU asymm s t Fu.2 KB.2 hm]
def aX (a:List Raw):Prop:= ∀ i,i<8->co a i=0
def dp (a:List Raw):List Raw:=(Ny a).map cn
structure IsSys (cs s:List (List Raw)):Prop where
 sorted:s.Pairwise (fun a b=>bV a b<0)
 mem: ∀ f,f∈s↔ ∃ l∈cs,¬aX l/\f=dp l
theorem IsSys.unique {cs s t:List (List Raw)} (h1:IsSys cs s) (h2:IsSys cs t):s=t:=
 mU (lt:=fun a b=>bV a b<0) (fun a b h h'=>by rw[eE] at h';omega) s t h1.sorted h2.sorted (fun f=>by rw[h1.mem,h2.mem])
def occ (cs:List (List Raw)) (v:Nat):Bool:=cs.any (fun l=>decide (co l v≠0))
def bL (cs:List (List Raw)):Nat:=((List.range 8).filter (occ cs)).length
theorem eP {cs:List (List Raw)} {v:Nat}:occ cs v=true↔ ∃ l∈cs,co l v≠0:=by
 unfold occ;rw[any_eq_true];constructor
 .rintro⟨l,hl,h⟩;exact⟨l,hl,of_decide_eq_true h⟩
 rintro⟨l,hl,h⟩;exact⟨l,hl,f3 h⟩
theorem CY {p q:Nat->Bool}: ∀ {l:List Nat} {v:Nat},(∀ w∈l,q w=true->p w=true)->v∈l->p v=true->q v=false->(l.filter q).length<(l.filter p).length
 | [],v,_,hv,_,_=>by simp at hv
 | w::l,v,h,hv,hp,hq=>by
  have dP: ∀ l:List Nat,(∀ w∈l,q w=true->p w=true)->(l.filter q).length<=(l.filter p).length:=by
   intro l
   induction l with
   | nil=>intro _;simp
   | cons a l ih=>
    intro h;have ih:=ih (fun w hw=>h w (mem_cons_of_mem _ hw));cases hqa:q a with
    | true=>
     have Uk:=h a (by simp) hqa;simp[hqa,Uk];omega
    | false=>
     cases Uk:p a<;>simp[hqa,Uk]<;>omega
  have hl: ∀ w∈l,q w=true->p w=true:=fun w hw=>h w (mem_cons_of_mem _ hw)
  rcases List.mem_cons.1 hv with h1 | h1
  .subst h1;have:=dP l hl;simp[hq,hp];omega
  have ih:=CY hl h1 hp hq;cases hqa:q w with
  | true=>
   have Uk:=h w (by simp) hqa;simp[hqa,Uk];omega
  | false=>
   cases Uk:p w<;>simp[hqa,Uk]<;>omega
theorem Q4 {cs out:List (List Raw)} {v:Nat} (hv:v<8) (h: ∀ w,w<8->occ out w=true->occ cs w=true) (h1:occ cs v=true) (h2:occ out v=false):bL out<bL cs:=
 CY (l:=List.range 8) (v:=v) (fun w hw=>h w (List.mem_range.1 hw)) (List.mem_range.2 hv) h1 h2
theorem CZ {cs:List (List Raw)} {v:Nat} (hv:v<8) (h:occ cs v=true):0<bL cs:=by
 unfold bL;exact List.length_pos_iff.2 (fun h2=>by
  have:v∈(List.range 8).filter (occ cs):=mem_filter.2 ⟨List.mem_range.2 hv,h⟩;rw[h2] at this;simp at this)
theorem nM {a:List Raw} (h: ¬aX a): ∃ v,v<8/\co a v≠0:=by
 rcases Classical.em (∃ v,v<8/\co a v≠0) with h1 | h1
 .exact h1
 exfalso;apply h;intro i hi;rcases Classical.em (co a i=0) with h2 | h2
 .exact h2
 exact absurd ⟨i,hi,h2⟩ h1
theorem rI {C:Rat} (hC:C≠0): ∀ {rs:List Raw},(bU ((rs.map (fun r=>r.q / C)).map cn)).q=(bU rs).q / C
 | []=>by simp only[map_nil,bU];rw[Lx];grind
 | [c]=>by simp only[map_cons,map_nil,bU,cu]
 | r::s::t=>by
  have ih:=rI hC (rs:=s::t);simp only[map_cons] at ih ⊢;simp only[bU];rw[cu];by_cases h:r.q=0
  .rw[if_pos h,if_pos (by rw[h];grind)];exact ih
  rw[if_neg h,if_neg (by grind),cu]
theorem rJ {c:Rat} (h:c≠0):0<d9 c:=by
 have h1:c.num<0↔c<0:=fS;unfold d9;split
 .rename_i h2;have:=h1.1 h2;grind
 rename_i h2;have: ¬c<0:=fun h3=>h2 (h1.2 h3)
 grind
theorem Jv {c:Rat} (h:c≠0):d9 (c / d9 c)=1:=by
 have hp:=rJ h;have h1:(c / d9 c).num<0↔c / d9 c<0:=fS;have h2:c.num<0↔c<0:=fS;by_cases hc:c.num<0
 .have e:d9 c= -c:=if_pos hc;have pz:=h2.1 hc;have e2:c / d9 c= -1:=by rw[e];grind
  rw[e2];rfl
 have e:d9 c=c:=if_neg hc;have e2:c / d9 c=1:=by rw[e];grind
 rw[e2];rfl
theorem Q5 {rs:List Raw} (_:rs.length=9):Ny ((Ny rs).map cn)=Ny rs:=by
 by_cases h:(bU rs).q=0
 .rw[nJ h];apply nJ;have hm:=rj (rs:=(replicate 9 (0:Rat)).map cn) (by simp);obtain⟨q,hq,he⟩:=mem_map.1 hm;rw[<-he,cu];exact List.eq_of_mem_replicate hq
 have h1:=vX h;have hC:=rr h;have h2:(bU ((Ny rs).map cn)).q=(bU rs).q / d9 (bU rs).q:=by rw[h1];exact rI hC
 have h3:(bU ((Ny rs).map cn)).q≠0:=by rw[h2];grind
 rw[vX h3,h2,Jv h,List.map_map];have h4:(fun r:Raw=>r.q / 1) ∘ cn=id:=by
  funext q;simp only[Function.comp,cu,id];grind
 rw[h4,List.map_id]
theorem Q6 {a:List Raw} {i:Nat} (h:i<a.length):a.getD i rz∈a:=by
 rw[qa,qb h];exact lY h
theorem yC {l:List Raw} (hl:l.length=9) (h: ¬aX l):(bU l).q≠0:=fun h0=>h (fun i hi=>oC h0 _ (Q6 (by omega)))
theorem g7 {l:List Raw} (hl:l.length=9):(dp l).length=9:=by
 unfold dp Ny;rw[length_map];split
 .simp
 rw[length_map,hl]
theorem oL {l:List Raw} (hl:l.length=9) (h:(bU l).q≠0) {i:Nat} (hi:i<9):co (dp l) i=co l i / d9 (bU l).q:=by
 unfold co dp;rw[vX h];exact mg (a:=l) (fun r=>r.q / d9 (bU l).q) (by omega)
theorem zF {l:List Raw} (hl:l.length=9) (h: ¬aX l): ∃ r:Rat,0<r/\ ∀ i,i<9->co (dp l) i=r*co l i:=by
 have h0:=yC hl h;have hp:=rJ h0;refine⟨1 / d9 (bU l).q,?_,fun i hi=>by rw[oL hl h0 hi];grind⟩;have:=Rat.inv_pos (a:=d9 (bU l).q) |>.2 hp;have e:1 / d9 (bU l).q=(d9 (bU l).q)⁻¹:=by grind
 rw[e];exact this
theorem jy {l:List Raw} (hl:l.length=9) (h: ¬aX l): ¬aX (dp l):=by
 obtain⟨r,hr,he⟩:=zF hl h;intro h2;apply h;intro i hi;have h3:=h2 i hi;rw[he i (by omega)] at h3;rcases Rat.mul_eq_zero.1 h3 with h4 | h4
 .rw[h4] at hr;exact absurd hr (Rat.lt_irrefl)
 exact h4
theorem yD {l:List Raw} (hl:l.length=9) (h: ¬aX l) {i:Nat} (hi:i<9):(co (dp l) i=0↔co l i=0):=by
 obtain⟨r,hr,he⟩:=zF hl h;rw[he i hi];constructor
 .intro h3;rcases Rat.mul_eq_zero.1 h3 with h4 | h4
  .rw[h4] at hr;exact absurd hr (Rat.lt_irrefl)
  exact h4
 intro h3;rw[h3,Rat.mul_zero]
theorem Gn {l:List Raw} (hl:l.length=9) (h: ¬aX l) {x:Nat->Rat}:0<bf (dp l) x↔0<bf l x:=by
 obtain⟨r,hr,he⟩:=zF hl h;exact Ju hr he
theorem nO {l:List Raw} (hl:l.length=9):dp (dp l)=dp l:=by
 unfold dp;rw[Q5 hl]
theorem mh {k:Nat} {l:List Raw} (h:LOk k l) (hk:1<=k):LOk (2*k) (dp l):=by
 refine LOk.of_map ?_ ?_
 .have:=g7 h.len;unfold dp at this;rwa [length_map] at this
 intro x hx;by_cases h0:(bU l).q=0
 .rw[nJ h0] at hx;rw[List.eq_of_mem_replicate hx];exact Bd.zero (by omega)
 rw[vX h0] at hx;simp only[mem_map] at hx;obtain⟨r,hr,rfl⟩:=hx;have e7:l≠[]:=fun h2=>by rw[h2] at hr;simp at hr
 have b1:=(h.ok _ hr).bd hk;have b2:=(h.ok _ (rj e7)).bd hk;have b3:Bd k (d9 (bU l).q):=by unfold d9;split;exact b2.neg;exact b2
 exact Bd.mono (b1.div b3 (rr h0) (by omega)) (by omega)
def In (cs:List (List Raw)) (x:Nat->Rat):Prop:= ∀ l∈cs,0<bf l x\/(aX l/\bf l x=0)
def oq (cs:List (List Raw)) (x:Nat->Rat):Prop:= ∀ l∈cs,0<bf l x
def Gp (cs:List (List Raw)):Prop:= ∃ l∈cs,aX l/\co l 8<0
theorem UR {cs:List (List Raw)} (h:Gp cs) (x:Nat->Rat): ¬In cs x:=by
 obtain⟨l,hl,hc,hn⟩:=h;intro hi;have e:bf l x=co l 8:=jx hc;rcases hi l hl with h1 | ⟨_,h1⟩<;>rw[e] at h1<;>grind
theorem zG {cs s:List (List Raw)} (h9: ∀ l∈cs,l.length=9) (h:IsSys cs s) (hv: ¬Gp cs) (x:Nat->Rat):In cs x↔oq s x:=by
 constructor
 .intro hi f hf;obtain⟨l,hl,hc,rfl⟩:=(h.mem f).1 hf;rw[Gn (h9 l hl) hc];rcases hi l hl with h1 | ⟨h1,_⟩
  .exact h1
  exact absurd h1 hc
 intro hp l hl;rcases Classical.em (aX l) with hc | hc
 .have e:bf l x=co l 8:=jx hc;rw[e];by_cases h0:co l 8=0
  .exact Or.inr ⟨hc,h0⟩
  left;have: ¬co l 8<0:=fun h1=>hv ⟨l,hl,hc,h1⟩
  grind
 left;rw[<-Gn (h9 l hl) hc];exact hp _ ((h.mem _).2 ⟨l,hl,hc,rfl⟩)
structure SysF (k:Nat) (s:List (List Raw)):Prop where
 sorted:s.Pairwise (fun a b=>bV a b<0)
 ok: ∀ l∈s,LOk k l
 nc: ∀ l∈s,¬aX l
 nm: ∀ l∈s,dp l=l
theorem SysF.of {cs s:List (List Raw)} {k:Nat} (h9: ∀ l∈cs,l.length=9) (h:IsSys cs s) (hk: ∀ l∈cs,¬aX l->LOk k (dp l)):SysF k s:=by
 refine⟨h.sorted,fun f hf=>?_,fun f hf=>?_,fun f hf=>?_⟩<;>obtain⟨l,hl,hc,rfl⟩:=(h.mem f).1 hf
 .exact hk l hl hc
 .exact jy (h9 l hl) hc
 exact nO (h9 l hl)
theorem SysF.self {k:Nat} {s:List (List Raw)} (h:SysF k s):IsSys s s:=⟨h.sorted,fun f=>⟨fun hf=>⟨f,hf,h.nc f hf,(h.nm f hf).symm⟩,fun⟨l,hl,_,he⟩=>by rw[he,h.nm l hl];exact hl⟩⟩
theorem yE {cs s:List (List Raw)} (h9: ∀ l∈cs,l.length=9) (h:IsSys cs s) {w:Nat} (hw:w<8):occ s w=true↔occ cs w=true:=by
 rw[eP,eP];constructor
 .rintro⟨f,hf,h0⟩;obtain⟨l,hl,hc,rfl⟩:=(h.mem f).1 hf;exact⟨l,hl,fun h1=>h0 ((yD (h9 l hl) hc (by omega)).2 h1)⟩
 rintro⟨l,hl,h0⟩;have hc: ¬aX l:=fun h1=>h0 (h1 w hw)
 exact⟨dp l,(h.mem _).2 ⟨l,hl,hc,rfl⟩,fun h1=>h0 ((yD (h9 l hl) hc (by omega)).1 h1)⟩
theorem cN {a:List Raw} (ha:a.length=9):cy a=true↔aX a:=by
 unfold cy aX;rw[vP];constructor
 .intro h i hi;refine of_decide_eq_true (h (a.getD i rz) ?_);rw[qa,qb (by omega)];exact mem_take_iff_getElem.2 ⟨i,by omega,rfl⟩
 intro h r hr;obtain⟨i,hi,rfl⟩:=mem_take_iff_getElem.1 hr;have:=h i (by omega);unfold co at this;rw[qa,qb (by omega)] at this;exact f3 this
def cJ (v:Nat) (l:List Raw):List Raw:=((l.set v rz).map (fun r=>r.q*(-1 / (l.getD v rz).q))).map cn
def cV (l:List Raw):List Raw:=(l.map (fun r=>r.q*((-1:Int):Rat))).map cn
def bG (u l:List Raw):List Raw:=(nK u (cV l)).map cn
def bT (s:List (List Raw)) (v:Nat):List (List Raw):=(s.filter (fun l=>decide (0<co l v))).map (cJ v)
def ba (s:List (List Raw)) (v:Nat):List (List Raw):=(s.filter (fun l=>decide (co l v<0))).map (cJ v)
def ee (s:List (List Raw)) (v:Nat):List (List Raw):=s.filter (fun l=>decide (co l v=0))
def ff (s:List (List Raw)) (v:Nat):List (List Raw):=ee s v++(ba s v).flatMap fun u=>(bT s v).map fun l=>bG u l
def NN (s:List (List Raw)) (v:Nat):Prop:= ∃ u∈ba s v,∃ l∈bT s v,aX (bG u l)/\co (bG u l) 8<=0
theorem eu {v:Nat} {l:List Raw} (h:l.length=9):(cJ v l).length=9:=by simp[cJ,h]
theorem ew {l:List Raw} (h:l.length=9):(cV l).length=9:=by simp[cV,h]
theorem d7 {u l:List Raw} (hu:u.length=9) (hl:l.length=9):(bG u l).length=9:=by
 unfold bG;rw[length_map,fR hu (ew hl)]
theorem im {v:Nat} {l:List Raw} (h:l.length=9) (h0:co l v≠0):sO l v (cJ v l):=by
 refine⟨h0,fun i hi=>?_⟩;unfold co cJ;rw[mg _ (by rw[qkb];omega),Q0 (by omega)];by_cases hv:v=i
 .rw[if_pos hv,if_pos hv,Lx];grind
 rw[if_neg hv,if_neg hv]
theorem oM {l:List Raw} (h:l.length=9) {i:Nat} (hi:i<9):co (cV l) i= -co l i:=by
 unfold co cV;rw[mg _ (by omega)];grind
theorem kM {u l:List Raw} (hu:u.length=9) (hl:l.length=9) {i:Nat} (hi:i<9):co (bG u l) i=co u i - co l i:=by
 have h1:=oM hl hi;unfold co at h1 ⊢;unfold bG;rw[rD (by omega) (by rw[ew hl];omega),cu,h1];grind
theorem gN {s:List (List Raw)} {v:Nat} {b:List Raw}:b∈bT s v↔ ∃ l∈s,0<co l v/\b=cJ v l:=by
 unfold bT;simp only[mem_map,mem_filter,decide_eq_true_eq];constructor
 .rintro⟨l,⟨h1,h2⟩,rfl⟩;exact⟨l,h1,h2,rfl⟩
 rintro⟨l,h1,h2,rfl⟩;exact⟨l,⟨h1,h2⟩,rfl⟩
theorem fI {s:List (List Raw)} {v:Nat} {b:List Raw}:b∈ba s v↔ ∃ l∈s,co l v<0/\b=cJ v l:=by
 unfold ba;simp only[mem_map,mem_filter,decide_eq_true_eq];constructor
 .rintro⟨l,⟨h1,h2⟩,rfl⟩;exact⟨l,h1,h2,rfl⟩
 rintro⟨l,h1,h2,rfl⟩;exact⟨l,⟨h1,h2⟩,rfl⟩
theorem nP {s:List (List Raw)} {v:Nat} {b:List Raw}:b∈ee s v↔b∈s/\co b v=0:=by
 unfold ee;simp only[mem_filter,decide_eq_true_eq]
theorem gO {s:List (List Raw)} {v:Nat} {o:List Raw}:o∈ff s v↔(o∈s/\co o v=0)\/ ∃ l∈s,∃ u∈s,0<co l v/\co u v<0/\o=bG (cJ v u) (cJ v l):=by
 unfold ff;rw[qr,nP,List.mem_flatMap];constructor
 .rintro(h | ⟨u,hu,h⟩)
  .exact Or.inl h
  right;obtain⟨l,hl,rfl⟩:=mem_map.1 h;obtain⟨u',h1,h2,rfl⟩:=fI.1 hu;obtain⟨l',h3,h4,rfl⟩:=gN.1 hl;exact⟨l',h3,u',h1,h4,h2,rfl⟩
 rintro(h | ⟨l,hl,u,hu,h1,h2,rfl⟩)
 .exact Or.inl h
 exact Or.inr ⟨_,fI.2 ⟨u,hu,h2,rfl⟩,mem_map.2 ⟨_,gN.2 ⟨l,hl,h1,rfl⟩,rfl⟩⟩
theorem i4 {s:List (List Raw)} {v:Nat} (h9: ∀ l∈s,l.length=9): ∀ o∈ff s v,o.length=9:=by
 intro o ho;rcases gO.1 ho with⟨h,_⟩ | ⟨l,hl,u,hu,_,_,rfl⟩
 .exact h9 o h
 exact d7 (eu (h9 u hu)) (eu (h9 l hl))
theorem Gq {s:List (List Raw)} {v:Nat} (h9: ∀ l∈s,l.length=9):Proj s v (ff s v):=by
 refine Proj.mk' (cJ v) (fun l hl h0=>im (h9 l hl) h0) (fun l hl h0=>⟨l,gO.2 (Or.inl ⟨hl,h0⟩),fun _ _=>rfl⟩)
  (fun l hl u hu h1 h2=>⟨_,gO.2 (Or.inr ⟨l,hl,u,hu,h1,h2,rfl⟩),fun i hi=>kM (eu (h9 u hu)) (eu (h9 l hl)) hi⟩) (fun o ho=>?_)
 rcases gO.1 ho with⟨h,h0⟩ | ⟨l,hl,u,hu,h1,h2,rfl⟩
 .exact Or.inl ⟨o,h,h0,fun _ _=>rfl⟩
 exact Or.inr ⟨l,hl,u,hu,h1,h2,fun i hi=>kM (eu (h9 u hu)) (eu (h9 l hl)) hi⟩
theorem LU {s:List (List Raw)} {v:Nat} (hv:v<8) (h9: ∀ l∈s,l.length=9): ∀ o∈ff s v,co o v=0:=by
 intro o ho;rcases gO.1 ho with⟨_,h⟩ | ⟨l,hl,u,hu,h1,h2,rfl⟩
 .exact h
 rw[kM (eu (h9 u hu)) (eu (h9 l hl)) (by omega),wi (im (h9 u hu) (by grind)) hv,wi (im (h9 l hl) (by grind)) hv];grind
theorem LV {s:List (List Raw)} {v w:Nat} (hw:w<8) (h9: ∀ l∈s,l.length=9) (h:occ (ff s v) w=true):occ s w=true:=by
 rw[eP] at h ⊢;obtain⟨o,ho,h0⟩:=h;rcases gO.1 ho with⟨h,_⟩ | ⟨l,hl,u,hu,h1,h2,rfl⟩
 .exact⟨o,h,h0⟩
 rw[kM (eu (h9 u hu)) (eu (h9 l hl)) (by omega)] at h0;have e1:=(im (h9 u hu) (v:=v) (by grind)).2 w (by omega);have e2:=(im (h9 l hl) (v:=v) (by grind)).2 w (by omega);by_cases c1:co u w=0
 .by_cases c2:co l w=0
  .exfalso;apply h0;rw[e1,e2,c1,c2];split<;>grind
  exact⟨l,hl,c2⟩
 exact⟨u,hu,c1⟩
theorem US {k:Nat} {s s':List (List Raw)} {v:Nat} (hs:SysF k s) (hb: ¬NN s v) (h:IsSys (ff s v) s') (x:Nat->Rat):oq s' x↔oq (ff s v) x:=by
 have h9: ∀ l∈s,l.length=9:=fun l hl=>(hs.ok l hl).len
 have Th: ∀ o∈ff s v,aX o->0<co o 8:=by
  intro o ho hc;rcases gO.1 ho with⟨h1,_⟩ | ⟨l,hl,u,hu,h1,h2,rfl⟩
  .exact absurd hc (hs.nc o h1)
  rcases Rat.not_le.1 (fun h3:co (bG (cJ v u) (cJ v l)) 8<=0=>hb ⟨_,fI.2 ⟨u,hu,h2,rfl⟩,_,gN.2 ⟨l,hl,h1,rfl⟩,hc,h3⟩) with h4
  exact h4
 have hv: ¬Gp (ff s v):=fun⟨o,ho,hc,hn⟩=>by have:=Th o ho hc;grind
 rw[<-zG (i4 h9) h hv x];constructor
 .intro hi o ho;rcases hi o ho with h1 | ⟨h1,h2⟩
  .exact h1
  have e:bf o x=co o 8:=jx h1;have:=Th o ho h1;grind
 intro hp o ho;exact Or.inl (hp o ho)
theorem Q7 {s:List (List Raw)} {v:Nat} (hv:v<8) (h: ∀ o∈s,co o v=0) (x:Nat->Rat) (t:Rat):oq s (upd x v t)↔oq s x:=by
 constructor<;>intro hp o ho<;>have:=hp o ho
 .rwa [rH hv (h o ho)] at this
 rwa [rH hv (h o ho)]
theorem Gr {k:Nat} {s s':List (List Raw)} {v:Nat} (hv:v<8) (hs:SysF k s) (hb: ¬NN s v) (h:IsSys (ff s v) s') (x:Nat->Rat):oq s' x↔ ∃ t,oq s (upd x v t):=by
 have h9: ∀ l∈s,l.length=9:=fun l hl=>(hs.ok l hl).len
 rw[US hs hb h x];obtain⟨B,hB,WT⟩:=(Gq (v:=v) h9).says;constructor
 .intro hp;exact UQ hv hB ((WT x).1 hp)
 rintro⟨t,ht⟩;rw[<-Q7 hv (LU hv h9) x t];exact(WT _).2 (LS hv hB ht)
theorem UT {k:Nat} {s:List (List Raw)} {v:Nat} (hv:v<8) (hs:SysF k s) (hb:NN s v) (x:Nat->Rat): ¬oq s x:=by
 intro hp;have h9: ∀ l∈s,l.length=9:=fun l hl=>(hs.ok l hl).len
 obtain⟨B,hB,WT⟩:=(Gq (v:=v) h9).says;have ho:=(WT x).2 (LS hv hB hp);obtain⟨u,hu,l,hl,hc,hn⟩:=hb;have hm:bG u l∈ff s v:=List.mem_append.2 (Or.inr (List.mem_flatMap.2 ⟨u,hu,mem_map.2 ⟨l,hl,rfl⟩⟩));have h1:=ho _ hm;have e:bf (bG u l) x=co (bG u l) 8:=jx hc;grind
theorem tw {α:Type} {p:α->Bool}: ∀ {l:List α},(∀ a∈l,p a=true)->l.filter p=l
 | [],_=>rfl
 | a::l,h=>by rw[List.filter_cons_of_pos (h a (by simp)),tw (fun b hb=>h b (mem_cons_of_mem _ hb))]
theorem iC {α:Type} {p:α->Bool}: ∀ {l:List α},(∀ a∈l,p a=false)->l.filter p=[]
 | [],_=>rfl
 | a::l,h=>by rw[filter_cons_of_neg (by rw[h a (by simp)];simp),iC (fun b hb=>h b (mem_cons_of_mem _ hb))]
theorem C0 {s:List (List Raw)} {v:Nat} (h:occ s v=false): ∀ l∈s,co l v=0:=by
 intro l hl;rcases Classical.em (co l v=0) with h1 | h1
 .exact h1
 have:=eP.2 ⟨l,hl,h1⟩;rw[h] at this;simp at this
theorem uG {s:List (List Raw)} {v:Nat} (h:occ s v=false):ff s v=s/\bT s v=[]/\ba s v=[]:=by
 have h0:=C0 h;have e1:bT s v=[]:=by unfold bT;rw[iC (fun l hl=>by rw[h0 l hl];decide)];rfl
 have e2:ba s v=[]:=by unfold ba;rw[iC (fun l hl=>by rw[h0 l hl];decide)];rfl
 refine⟨?_,e1,e2⟩;unfold ff;rw[e2,List.flatMap_nil,append_nil];unfold ee;exact tw (fun l hl=>by rw[h0 l hl];decide)
theorem NO {k:Nat} {s s':List (List Raw)} {v:Nat} (hs:SysF k s) (h:occ s v=false) (hi:IsSys (ff s v) s'):s'=s:=by
 rw[(uG h).1] at hi;exact hi.unique hs.self
theorem UU {k v:Nat} {l:List Raw} (h:LOk k l) (hk:1<=k) (h0:co l v≠0): ∀ r∈cJ v l,Bd (2*k+1) r.q:=by
 intro r hr;unfold cJ at hr;simp only[List.map_map,mem_map,Function.comp] at hr;obtain⟨a,ha,rfl⟩:=hr;rw[cu];have b1:Bd k a.q:=by
  rcases List.mem_or_eq_of_mem_set ha with h1 | h1
  .exact(h.ok _ h1).bd hk
  rw[h1,Lx];exact Bd.zero hk
 have b2:Bd k (l.getD v rz).q:=(h.at v).bd hk;have b0:Bd 1 ((-1:Rat)):=⟨by decide,by decide⟩;exact Bd.mono (b1.mul (b0.div b2 h0 (by omega)) (by omega)) (by omega)
theorem Eh {k:Nat} {l:List Raw} (h: ∀ r∈l,Bd k r.q): ∀ r∈cV l,Bd (k+1) r.q:=by
 intro r hr;unfold cV at hr;simp only[List.map_map,mem_map,Function.comp] at hr;obtain⟨a,ha,rfl⟩:=hr;rw[cu];have b0:Bd 1 (((-1:Int):Rat)):=⟨by decide,by decide⟩;exact(h a ha).mul b0 (by omega)
theorem LW {k v:Nat} {l:List Raw} (h:LOk k l) (hk:1<=k) (h0:co l v≠0):LOk (2*k+1) (cJ v l):=by
 refine LOk.of_map (by rw[length_map,qkb];exact h.len) (fun q hq=>?_);have:=UU h hk h0 (cn q) (by unfold cJ;exact mem_map.2 ⟨q,hq,rfl⟩);rwa [cu] at this
theorem mi {k:Nat} {l:List Raw} (h:LOk k l) (hk:1<=k):LOk (k+1) (cV l):=by
 refine LOk.of_map (by rw[length_map];exact h.len) (fun q hq=>?_);have:=Eh (h.bd hk) (cn q) (by unfold cV;exact mem_map.2 ⟨q,hq,rfl⟩);rwa [cu] at this
theorem rK {k:Nat} {u l:List Raw} (hu:LOk k u) (hl:LOk k l) (hk:1<=k):LOk (2*k+2) (bG u l):=
 LOk.of_map (fR hu.len (ew hl.len)) (fun q hq=>Bd.mono (Ec (hu.bd hk) (Eh (hl.bd hk)) (by omega) q hq) (by omega))
theorem wj {k v:Nat} {s:List (List Raw)} (h: ∀ l∈s,LOk k l) (hk:1<=k): ∀ b∈bT s v,LOk (2*k+1) b:=by
 intro b hb;obtain⟨l,hl,h0,rfl⟩:=gN.1 hb;exact LW (h l hl) hk (by grind)
theorem rL {k v:Nat} {s:List (List Raw)} (h: ∀ l∈s,LOk k l) (hk:1<=k): ∀ b∈ba s v,LOk (2*k+1) b:=by
 intro b hb;obtain⟨l,hl,h0,rfl⟩:=fI.1 hb;exact LW (h l hl) hk (by grind)
theorem Ei {k v:Nat} {s:List (List Raw)} (h: ∀ l∈s,LOk k l) (hk:1<=k): ∀ o∈ff s v,LOk (4*k+4) o:=by
 intro o ho;unfold ff at ho;rcases List.mem_append.1 ho with h1 | h1
 .exact(h o (nP.1 h1).1).mono (by omega)
 obtain⟨u,hu,h2⟩:=List.mem_flatMap.1 h1;obtain⟨l,hl,rfl⟩:=mem_map.1 h2;exact(rK (rL h hk u hu) (wj h hk l hl) (by omega)).mono (by omega)
theorem kN {α:Type}: ∀ (s L:List α),s.Pairwise (fun a b=>a≠b)->(∀ f∈s,f∈L)->s.length<=L.length
 | [],_,_,_=>dk _
 | a::s,L,hp,h=>by
  have h2:=pairwise_cons.1 hp;obtain⟨L1,L2,rfl⟩:=List.append_of_mem (h a (by simp));have ih:=kN s (L1++L2) h2.2 (fun f hf=>by
   have h3:=h f (mem_cons_of_mem _ hf);rw[qr,BL] at h3;rw[qr];rcases h3 with h3 | h3 | h3
   .exact Or.inl h3
   .exact absurd h3.symm (h2.1 f hf)
   exact Or.inr h3)
  simp only[qe,length_cons] at ih ⊢;omega
def ncs (cs:List (List Raw)):List (List Raw):=cs.filter (fun l=>!cy l)
theorem kO {cs:List (List Raw)} (h9: ∀ l∈cs,l.length=9) {l:List Raw}:l∈ncs cs↔l∈cs/\ ¬aX l:=by
 unfold ncs;rw[mem_filter];constructor
 .rintro⟨h1,h2⟩;exact⟨h1,fun h3=>by rw[(cN (h9 l h1)).2 h3] at h2;simp at h2⟩
 rintro⟨h1,h2⟩;refine⟨h1,?_⟩;cases h:cy l with
 | false=>rfl
 | true=>exact absurd ((cN (h9 l h1)).1 h) h2
theorem lC {cs s:List (List Raw)} (h9: ∀ l∈cs,l.length=9) (h:IsSys cs s):s.length<=(ncs cs).length:=by
 have:=kN s ((ncs cs).map dp) (h.sorted.imp (fun vL he=>by subst he;have:=eE (by assumption) (by assumption);omega)) (fun f hf=>by
  obtain⟨l,hl,hc,rfl⟩:=(h.mem f).1 hf;exact mem_map.2 ⟨l,(kO h9).2 ⟨hl,hc⟩,rfl⟩)
 rwa [length_map] at this
structure Sz (k:Nat) (s:List (List Raw)):Prop where
 n3:bL s<=3
 c3:bL s=3->s.length<=5/\k<=14
 c2:bL s=2->s.length<=7/\k<=120
 c1:bL s=1->s.length<=12/\k<=1000
theorem mj {s:List (List Raw)} {l:List Raw} (hl:l∈s) (hc: ¬aX l):0<bL s:=by
 obtain⟨v,hv,h0⟩:=nM hc;exact CZ hv (eP.2 ⟨l,hl,h0⟩)
theorem Sz.all {k:Nat} {s:List (List Raw)} (h:Sz k s) (hp:0<bL s):s.length<=12/\k<=1000:=by
 have h1:=h.n3;have h2:=h.c3;have h3:=h.c2;have h4:=h.c1;have:bL s=1\/bL s=2\/bL s=3:=by omega
 rcases this with h5 | h5 | h5
 .exact h4 h5
 .have:=h3 h5;omega
 have:=h2 h5;omega
theorem Sz.len {k:Nat} {s:List (List Raw)} (h:Sz k s) (hs:SysF k s):s.length<=12:=by
 cases s with
 | nil=>exact dk _
 | cons l t=>exact(h.all (mj (List.mem_cons_self ..) (hs.nc l (by simp)))).1
theorem Sz.lim {k:Nat} {s:List (List Raw)} (h:Sz k s) (hs:SysF k s): ∀ l∈s,LOk 1000 l:=fun l hl=>(hs.ok l hl).mono (h.all (mj hl (hs.nc l hl))).2
theorem bN (s:List (List Raw)) (v:Nat):(ee s v).length+(bT s v).length+(ba s v).length=s.length:=by
 unfold ee bT ba;rw[length_map,length_map]
 induction s with
 | nil=>rfl
 | cons l t ih=>
  rcases Classical.em (co l v=0) with h | h
  .rw[List.filter_cons_of_pos (by simp[h]),filter_cons_of_neg (by rw[h];decide),filter_cons_of_neg (by rw[h];decide)];simp only[length_cons];omega
  rw[filter_cons_of_neg (by simp[h])];rcases Classical.em (0<co l v) with h1 | h1
  .rw[List.filter_cons_of_pos (by simp[h1]),filter_cons_of_neg (by simp;grind)];simp only[length_cons];omega
  rw[filter_cons_of_neg (by simp[h1]),List.filter_cons_of_pos (by simp;grind)];simp only[length_cons];omega
theorem gP {α β:Type} (f:α->β->β): ∀ (H:List α) (L:List β),(H.flatMap fun u=>L.map fun l=>f u l).length=H.length*L.length
 | [],L=>by simp
 | u::H,L=>by
  rw[List.flatMap_cons,qe,length_map,gP f H L,length_cons,Nat.add_mul];omega
theorem oN (s:List (List Raw)) (v:Nat):(ff s v).length=(ee s v).length+(ba s v).length*(bT s v).length:=by
 unfold ff;rw[qe,gP (fun u l=>bG u l)]
theorem Ej {p q r:Nat} (h:r+p+q<=7):r+q*p<=12:=by
 have:p=0\/p=1\/p=2\/p=3\/p=4\/p=5\/p=6\/p=7:=by omega
 rcases this with h1 | h1 | h1 | h1 | h1 | h1 | h1 | h1<;>subst h1<;>omega
theorem ZZ {p q r:Nat} (h:r+p+q<=5):r+q*p<=7:=by
 have:p=0\/p=1\/p=2\/p=3\/p=4\/p=5:=by omega
 rcases this with h1 | h1 | h1 | h1 | h1 | h1<;>subst h1<;>omega
theorem UW {p q r:Nat} (h:r+p+q<=12):r+q*p<=100:=by
 have h1:q*p<=12*p:=qn _ (by omega);have h2:p=0\/p=1\/p=2\/p=3\/p=4\/p=5\/p=6\/p=7\/p=8\/p=9\/p=10\/p=11\/p=12:=by omega
 rcases h2 with h1 | h1 | h1 | h1 | h1 | h1 | h1 | h1 | h1 | h1 | h1 | h1 | h1<;>subst h1<;>omega
theorem LX {k:Nat} {s:List (List Raw)} {v:Nat} (hv:v<8) (hs:SysF k s):occ (ff s v) v=false:=by
 cases h:occ (ff s v) v with
 | false=>rfl
 | true=>
  obtain⟨o,ho,h0⟩:=eP.1 h;exact absurd (LU hv (fun l hl=>(hs.ok l hl).len) o ho) h0
theorem rM {k:Nat} {s:List (List Raw)} {v:Nat} (hv:v<8) (hs:SysF k s) (h:occ s v=true):bL (ff s v)<bL s:=
 Q4 hv (fun _ hw h2=>LV hw (fun l hl=>(hs.ok l hl).len) h2) h (LX hv hs)
theorem LY {k:Nat} {s s':List (List Raw)} {v:Nat} (hk:1<=k) (hs:SysF k s) (hi:IsSys (ff s v) s'):SysF (8*k+8) s':=
 SysF.of (i4 (fun l hl=>(hs.ok l hl).len)) hi (fun o ho hc=>(mh (Ei hs.ok hk o ho) (by omega)).mono (by omega))
theorem uH {s t:List (List Raw)} (h: ∀ w,w<8->occ s w=true->occ t w=true):bL s<=bL t:=by
 unfold bL;have key: ∀ l:List Nat,(∀ w∈l,w<8)->(l.filter (occ s)).length<=(l.filter (occ t)).length:=by
  intro l
  induction l with
  | nil=>intro _;simp
  | cons w l ih=>
   intro hl;have ih2:=ih (fun u hu=>hl u (mem_cons_of_mem _ hu));cases h1:occ s w with
   | false=>
    rw[filter_cons_of_neg (by rw[h1];simp)];have:(l.filter (occ t)).length<=((w::l).filter (occ t)).length:=by
     cases h2:occ t w with
     | false=>rw[filter_cons_of_neg (by rw[h2];simp)];exact qp _
     | true=>rw[List.filter_cons_of_pos h2,length_cons];omega
    omega
   | true=>
    rw[List.filter_cons_of_pos h1,List.filter_cons_of_pos (h w (hl w (by simp)) h1),length_cons,length_cons];omega
 exact key _ (fun w hw=>List.mem_range.1 hw)
theorem rN {cs s:List (List Raw)} (h9: ∀ l∈cs,l.length=9) (h:IsSys cs s):bL s=bL cs:=
 Nat.le_antisymm (uH (fun _ hw h1=>(yE h9 h hw).1 h1)) (uH (fun _ hw h1=>(yE h9 h hw).2 h1))
def C1 (f:List Raw):List (List Raw)->List (List Raw)
 | []=>[f]
 | a::s=>if bV a f<0 then a::C1 f s else if bV a f=0 then a::s else f::a::s
def IsCn (f:List Raw):Prop:= ∃ qs:List Rat,f=qs.map cn/\qs.length=9
theorem IsCn.len {f:List Raw} (h:IsCn f):f.length=9:=by obtain⟨qs,rfl,hl⟩:=h;simp[hl]
theorem mn {l:List Raw} (h:l.length=9):IsCn (dp l):=by
 have:=g7 h;exact⟨Ny l,rfl,by simpa [dp] using this⟩
theorem p6 (qs:List Rat):(qs.map cn).map Raw.q=qs:=by
 rw[List.map_map]
 conv=>rhs;rw[<-List.map_id qs]
 exact List.map_congr_left (fun q _=>cu q)
theorem C2 {f g:List Raw} (hf:IsCn f) (hg:IsCn g) (h:bV f g=0):f=g:=by
 have h2:=(CJ f g (by rw[hf.len,hg.len])).1 h;obtain⟨p,rfl,_⟩:=hf;obtain⟨q,rfl,_⟩:=hg;rw[p6,p6] at h2;rw[h2]
theorem NP (f:List Raw):bV f f=0:=by have:=eE f f;omega
theorem xj {a b c:List Raw} (ha:IsCn a) (hb:IsCn b) (hc:IsCn c) (h1:bV a b<0) (h2:bV b c<0):bV a c<0:=by
 have h3:=oD a b c (by rw[ha.len,hb.len]) (by rw[hb.len,hc.len]) (by omega) (by omega);rcases Int.lt_or_eq_of_le h3 with h4 | h4
 .exact h4
 have h5:=C2 ha hc h4;subst h5;rw[eE] at h2;omega
theorem yF {f:List Raw} (hf:IsCn f): ∀ {s:List (List Raw)},(∀ a∈s,IsCn a)-> ∀ g,g∈C1 f s↔g=f\/g∈s
 | [],_,g=>by simp[C1]
 | a::s,h,g=>by
  unfold C1;split
  .rw[BL,yF hf (fun b hb=>h b (mem_cons_of_mem _ hb)),BL];exact⟨fun h1=>by rcases h1 with h1 | h1 | h1<;>simp[h1],fun h1=>by rcases h1 with h1 | h1 | h1<;>simp[h1]⟩
  split
  .rename_i h1;have:=C2 (h a (by simp)) hf h1;subst this;simp
  simp
theorem zH {f:List Raw} (hf:IsCn f): ∀ {s:List (List Raw)},(∀ a∈s,IsCn a)->s.Pairwise (fun a b=>bV a b<0)->(C1 f s).Pairwise (fun a b=>bV a b<0)
 | [],_,_=>by simp[C1]
 | a::s,h,hs=>by
  have h2:=pairwise_cons.1 hs;have sV: ∀ b∈s,IsCn b:=fun b hb=>h b (mem_cons_of_mem _ hb)
  unfold C1;split
  .rename_i h1;refine pairwise_cons.2 ⟨fun b hb=>?_,zH hf sV h2.2⟩;rcases(yF hf sV b).1 hb with h3 | h3
   .rw[h3];exact h1
   exact h2.1 b h3
  split
  .exact hs
  rename_i h1 h3;have hfa:bV f a<0:=by rw[eE];omega
  refine pairwise_cons.2 ⟨fun b hb=>?_,hs⟩;rcases List.mem_cons.1 hb with h4 | h4
  .rw[h4];exact hfa
  exact xj hf (h a (by simp)) (sV b h4) hfa (h2.1 b h4)
def sysL:List (List Raw)->List (List Raw)->List (List Raw)
 | [],s=>s
 | l::cs,s=>if cy l then sysL cs s else sysL cs (C1 (dp l) s)
theorem zI: ∀ (cs s:List (List Raw)),(∀ l∈cs,l.length=9)->(∀ a∈s,IsCn a)->s.Pairwise (fun a b=>bV a b<0)->
 (sysL cs s).Pairwise (fun a b=>bV a b<0)/\ ∀ f,f∈sysL cs s↔f∈s\/ ∃ l∈cs,¬aX l/\f=dp l
 | [],s,_,_,hp=>⟨hp,fun f=>by simp[sysL]⟩
 | l::cs,s,h9,hs,hp=>by
  have hl:=h9 l (by simp);have h9': ∀ l∈cs,l.length=9:=fun k hk=>h9 k (mem_cons_of_mem _ hk)
  unfold sysL;by_cases hc:cy l=true
  .rw[if_pos hc];obtain⟨h1,h2⟩:=zI cs s h9' hs hp;refine⟨h1,fun f=>?_⟩;rw[h2];have hk:=(cN hl).1 hc;constructor
   .rintro(h3 | ⟨k,hk,h3⟩)
    .exact .inl h3
    exact .inr ⟨k,mem_cons_of_mem _ hk,h3⟩
   rintro(h3 | ⟨k,jF,h3⟩)
   .exact .inl h3
   rcases List.mem_cons.1 jF with h4 | h4
   .subst h4;exact absurd hk h3.1
   exact .inr ⟨k,h4,h3⟩
  rw[if_neg hc];have mL:=fun h=>hc ((cN hl).2 h)
  have sX:=mn hl;obtain⟨h1,h2⟩:=zI cs (C1 (dp l) s) h9' (fun a ha=>by
   rcases(yF sX hs a).1 ha with h3 | h3
   .rw[h3];exact sX
   exact hs a h3) (zH sX hs hp)
  refine⟨h1,fun f=>?_⟩;rw[h2,yF sX hs];constructor
  .rintro((h3 | h3) | ⟨k,hk,h3⟩)
   .exact .inr ⟨l,by simp,mL,h3⟩
   .exact .inl h3
   exact .inr ⟨k,mem_cons_of_mem _ hk,h3⟩
  rintro(h3 | ⟨k,jF,h3⟩)
  .exact .inl (.inr h3)
  rcases List.mem_cons.1 jF with h4 | h4
  .subst h4;exact .inl (.inl h3.2)
  exact .inr ⟨k,h4,h3⟩
theorem gQ {cs:List (List Raw)} (h9: ∀ l∈cs,l.length=9):IsSys cs (sysL cs []):=by
 obtain⟨h1,h2⟩:=zI cs [] h9 (by simp) List.Pairwise.nil;exact⟨h1,fun f=>by rw[h2];simp⟩
theorem IsSys.eq {cs s:List (List Raw)} (h9: ∀ l∈cs,l.length=9) (h:IsSys cs s):s=sysL cs []:=h.unique (gQ h9)
def eg (cs:List (List Raw)):Bool:=cs.any (fun l=>cy l&&decide (co l 8<0))
theorem k5 {cs:List (List Raw)} (h9: ∀ l∈cs,l.length=9):eg cs=true↔Gp cs:=by
 unfold eg Gp;rw[any_eq_true];constructor
 .rintro⟨l,hl,h⟩;rw[BP,cN (h9 l hl),decide_eq_true_iff] at h;exact⟨l,hl,h⟩
 rintro⟨l,hl,h⟩;refine⟨l,hl,?_⟩;rw[BP,cN (h9 l hl),decide_eq_true_iff];exact h
noncomputable def dr (cs:List (List Raw)):Bool:=@decide (Eg cs) (Classical.propDecidable _)
theorem eh {cs:List (List Raw)}:dr cs=true↔Eg cs:=by unfold dr;rw[@decide_eq_true_iff]
theorem mo {cs:List (List Raw)}:dr cs=false↔ ¬Eg cs:=by
 rw[<-eh];cases dr cs<;>simp
noncomputable def aZ (cs:List (List Raw)):Bool:=!eg cs&&dr (sysL cs [])
theorem cX {cs:List (List Raw)} (h9: ∀ l∈cs,l.length=9):aZ cs=true↔ ∃ x,In cs x:=by
 unfold aZ;rw[BP,eh,Bool.not_eq_true'];constructor
 .rintro⟨h1,x,hx⟩;exact⟨x,(zG h9 (gQ h9) (fun hv=>by rw[(k5 h9).2 hv] at h1;cases h1) x).2 hx⟩
 rintro⟨x,hx⟩;have hnv: ¬Gp cs:=fun hv=>UR hv x hx
 refine⟨?_,x,(zG h9 (gQ h9) hnv x).1 hx⟩;cases h:eg cs with
 | false=>rfl
 | true=>exact absurd ((k5 h9).1 h) hnv
theorem Gs:Eg []:=⟨fun _=>0,by simp⟩
def uI (s:List (List Raw)) (v:Nat):Bool:=(ba s v).any (fun u=>(bT s v).any (fun l=>cy (bG u l)&&decide (co (bG u l) 8<=0)))
theorem lD {s:List (List Raw)} {v:Nat} (h9: ∀ l∈s,l.length=9):uI s v=true↔NN s v:=by
 unfold uI NN;rw[any_eq_true];have hl: ∀ u∈ba s v,∀ l∈bT s v,(bG u l).length=9:=fun u hu l hl=>by
  obtain⟨a,ha,_,rfl⟩:=fI.1 hu;obtain⟨b,hb,_,rfl⟩:=gN.1 hl;exact d7 (eu (h9 a ha)) (eu (h9 b hb))
 constructor
 .rintro⟨u,hu,h⟩;rw[any_eq_true] at h;obtain⟨l,qZ,h⟩:=h;rw[BP,cN (hl u hu l qZ),decide_eq_true_iff] at h;exact⟨u,hu,l,qZ,h⟩
 rintro⟨u,hu,l,qZ,h⟩;refine⟨u,hu,?_⟩;rw[any_eq_true];refine⟨l,qZ,?_⟩;rw[BP,cN (hl u hu l qZ),decide_eq_true_iff];exact h
def jm (s:List (List Raw)) (v:Nat):List (List Raw):=sysL (ff s v) []
theorem p7 {k:Nat} {s:List (List Raw)} (v:Nat) (hs:SysF k s):IsSys (ff s v) (jm s v):=gQ (i4 (fun l hl=>(hs.ok l hl).len))
theorem C3 {k:Nat} {s:List (List Raw)} {v:Nat} (hv:v<8) (hs:SysF k s) (hb: ¬NN s v):Eg (jm s v)↔Eg s:=by
 constructor
 .rintro⟨x,hx⟩;obtain⟨t,ht⟩:=(Gr hv hs hb (p7 v hs) x).1 hx;exact⟨_,ht⟩
 rintro⟨x,hx⟩;refine⟨x,(Gr hv hs hb (p7 v hs) x).2 ⟨x v,?_⟩⟩;have:upd x v (x v)=x:=by funext i;unfold upd;split<;>simp_all
 rw[this];exact hx
theorem Gu {k:Nat} {s:List (List Raw)} {v:Nat} (hv:v<8) (hs:SysF k s) (hb:NN s v): ¬Eg s:=fun⟨x,hx⟩=>UT hv hs hb x hx
end Go.Pl
