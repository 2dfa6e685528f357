/- Plain:canonical lists in two variables:the bounds of a variable are different but at finitely many places;bounded regions have bounds. -/
import Derived.Test.YtjjbkjgifdhlcaaGreatT17
import Derived.Test.YtjjbkjgifdhlcaaGreatT15
import Derived.Test.YtjjbkjgifdhlcaaGreatT16
import Derived.Test.YtjjbkjgifdhlcaaGreatT1
set_option linter.all false
open List (length_pos_iff length_set map_cons mem_cons_of_mem mem_filter mem_iff_getElem mem_map replicate)
namespace Go.Pl
structure NrmC (c:List (List Raw)):Prop where
 cn: ∀ l∈c,IsCn l
 nm: ∀ l∈c,eD l=l
 nc: ∀ l∈c,¬aO l
 nd:c.Nodup
theorem NrmC.of {c:List (List Raw)} (h:DX c) (hi:aZ c=true) (he:aV c=c):NrmC c:=by
 have h9:=h.cs.len9;have Jk:=ir h9;have iE:c.Sublist (sysL c []):=by
  have h1:aV c=jw (sysL c []).length 0 (sysL c []):=by unfold aV;rw[if_pos hi]
  rw[he] at h1;have h2:=mr (sysL c []).length 0 (sysL c []);rw[<-h1] at h2;exact h2
 have bf: ∀ l∈c,∃ m∈c,¬aO m/\l=eD m:=fun l hl=>(Jk.mem l).1 (iE.subset hl)
 refine⟨fun l hl=>?_,fun l hl=>h.good.nm l (iE.subset hl),fun l hl=>?_,?_⟩
 .obtain⟨m,hm,_,rfl⟩:=bf l hl;exact ji (h9 m hm)
 .obtain⟨m,hm,hn,rfl⟩:=bf l hl;exact rU (h9 m hm) hn
 refine List.Nodup.sublist iE ?_;refine List.Pairwise.imp ?_ Jk.sorted;intro a b rv he;rw[he] at rv;have:=dI b b;omega
theorem NrmC.in_pos {c:List (List Raw)} (h:NrmC c) (x:Nat->Rat):In c x↔iX c x:=by
 constructor
 .intro hx l hl;rcases hx l hl with h1 | h1
  .exact h1
  exact absurd h1.1 (h.nc l hl)
 intro hx l hl;exact .inl (hx l hl)
theorem TR {v:Nat} {l m:List Raw} (hv:v<8) (cl:IsCn l) (cm:IsCn m) (nl:eD l=l) (nm:eD m=m) (hl: ¬aO l) (hm: ¬aO m) (hs:0<co l v/\0<co m v\/co l v<0/\co m v<0)
 (h: ∀ i,i<9->co (cF v l) i=co (cF v m) i):m=l:=by
 have Lm:co l v≠0:=by grind
 have zn:co m v≠0:=by grind
 have b1:=(dN cl.len Lm).2
 have b2:=(dN cm.len zn).2
 refine Kv cl cm nl nm hl hm (c:=co m v / co l v) ?_ (fun i hi=>?_)
 .have key: ∀ a b:Rat,0<a->0<b->0<b / a:=fun a b ha hb=>by
   apply Classical.byContradiction;intro hc;have:=Rat.mul_le_mul_of_nonneg_right (a:=b / a) (b:=0) (c:=a) (by grind) (by grind);have e:b / a*a=b:=by grind
   grind
  rcases hs with⟨h1,h2⟩ | ⟨h1,h2⟩
  .exact key _ _ h1 h2
  have:=key (-co l v) (-co m v) (by grind) (by grind)
  have e: -co m v / -co l v=co m v / co l v:=by grind
  rwa [e] at this
 have h1:=h i hi
 rw[b1 i hi,b2 i hi] at h1
 by_cases e:v=i
 .subst e;grind
 rw[if_neg e,if_neg e] at h1
 have e1:co l i*(-1 / co l v)*(co l v*co m v)= -(co l i*co m v):=by grind
 have e2:co m i*(-1 / co m v)*(co l v*co m v)= -(co m i*co l v):=by grind
 have e3:co l i*co m v=co m i*co l v:=by
  have:co l i*(-1 / co l v)*(co l v*co m v)=co m i*(-1 / co m v)*(co l v*co m v):=by rw[h1]
  grind
 grind
theorem tF {v i:Nat} {F:List (List Raw)} (h:i<F.length):(F.map (cF v)).getD i []=cF v (F.getD i []):=by
 simp[qa,h]
def Dif (B:List (List Raw)):Prop:= ∀ i k,i<B.length->k<B.length->i≠k-> ∃ q,q<9/\co (B.getD i []) q≠co (B.getD k []) q
theorem KJ {c:List (List Raw)} {v:Nat} {f:List Raw->Bool} (hv:v<8) (h:NrmC c) (hf: ∀ l m,f l=true->f m=true->0<co l v/\0<co m v\/co l v<0/\co m v<0):Dif ((c.filter f).map (cF v)):=by
 intro i k hi hk cM;rw[qu] at hi hk;apply Classical.byContradiction;intro hc;have l6:(c.filter f).Nodup:=h.nd.sublist List.filter_sublist;have mi:(c.filter f).getD i []∈c.filter f:=by rw[qa,qb hi];exact kj hi
 have mk:(c.filter f).getD k []∈c.filter f:=by rw[qa,qb hk];exact kj hk
 obtain⟨mi1,mi2⟩:=mem_filter.1 mi;obtain⟨mk1,mk2⟩:=mem_filter.1 mk;have he:=TR hv (h.cn _ mi1) (h.cn _ mk1) (h.nm _ mi1) (h.nm _ mk1) (h.nc _ mi1) (h.nc _ mk1) (hf _ _ mi2 mk2) (fun q hq=>by
  apply Classical.byContradiction;intro h9;exact hc ⟨q,hq,by rw[tF hi,tF hk];exact h9⟩)
 have e1:(c.filter f).getD i []=(c.filter f)[i]:=by rw[qa,qb hi];rfl
 have e2:(c.filter f).getD k []=(c.filter f)[k]:=by rw[qa,qb hk];rfl
 rw[e1,e2] at he;exact cM ((List.getElem_inj l6).1 he.symm)
theorem TS {c:List (List Raw)} {v:Nat} (hv:v<8) (h:NrmC c):Dif (aN c v):=KJ hv h (fun l m h1 h2=> .inl ⟨of_decide_eq_true h1,of_decide_eq_true h2⟩)
theorem Qo {c:List (List Raw)} {v:Nat} (hv:v<8) (h:NrmC c):Dif (ay c v):=KJ hv h (fun l m h1 h2=> .inr ⟨of_decide_eq_true h1,of_decide_eq_true h2⟩)
theorem nI {l:List Raw} {w:Nat} (hw:w<8) (h: ∀ i,i<8->i≠w->co l i=0) (z:Nat->Rat):aF l z=co l 8+co l w*z w:=by
 have h0: ∀ i,i<8->co l i*z i=if i=w then co l w*z w else 0:=fun i hi=>by
  by_cases e:i=w
  .rw[if_pos e,e]
  rw[if_neg e,h i hi e];grind
 rw[nC,h0 0 (by decide),h0 1 (by decide),h0 2 (by decide),h0 3 (by decide),h0 4 (by decide),h0 5 (by decide),h0 6 (by decide),h0 7 (by decide)];have:w=0\/w=1\/w=2\/w=3\/w=4\/w=5\/w=6\/w=7:=by omega
 rcases this with e | e | e | e | e | e | e | e<;>subst e<;>simp<;>grind
theorem KK {B:List (List Raw)} {w:Nat} (hw:w<8) (hB: ∀ l∈B,∀ i,i<8->i≠w->co l i=0) (hd:Dif B): ∃ Z:List Rat,∀ (x:Nat->Rat),x w∉Z-> ∀ i k,i<B.length->k<B.length->i≠k->aF (B.getD i []) x≠aF (B.getD k []) x:=by
 refine⟨(List.range B.length).flatMap (fun i=>(List.range B.length).map (fun k=>(co (B.getD k []) 8 - co (B.getD i []) 8) / (co (B.getD i []) w - co (B.getD k []) w))),fun x hx i k hi hk cM he=>?_⟩;have mem: ∀ j,j<B.length->B.getD j []∈B:=fun j hj=>by rw[qa,qb hj];exact kj hj
 have h1:=hB _ (mem i hi);have h2:=hB _ (mem k hk);rw[nI hw h1,nI hw h2] at he;by_cases hc:co (B.getD i []) w=co (B.getD k []) w
 .obtain⟨q,hq,hn⟩:=hd i k hi hk cM;apply hn;by_cases e8:q=8
  .rw[e8];grind
  by_cases ew:q=w
  .rw[ew];exact hc
  rw[h1 q (by omega) ew,h2 q (by omega) ew]
 apply hx;refine List.mem_flatMap.2 ⟨i,List.mem_range.2 hi,mem_map.2 ⟨k,List.mem_range.2 hk,?_⟩⟩;have h3:co (B.getD i []) w - co (B.getD k []) w≠0:=by grind
 have h4:(co (B.getD i []) w - co (B.getD k []) w)*x w=co (B.getD k []) 8 - co (B.getD i []) 8:=by grind
 rw[<-h4];grind
def wa (v:Nat) (c:List (List Raw)):Prop:= ∃ R:Rat,∀ x,In c x-> -R<=x v/\x v<=R
theorem Qp {c:List (List Raw)} {v:Nat} (hv:v<8) (h9: ∀ l∈c,l.length=9) (hc:NrmC c) (hi:aZ c=true) (hb:wa v c):aN c v≠[]/\ay c v≠[]:=by
 obtain⟨x,hx⟩:=(fh h9).1 hi;obtain⟨R,hR⟩:=hb;have h0:=hR x hx;have hp:=(hc.in_pos x).1 hx;have hs:iX c (upd x v (x v)):=by rw[PJ];exact hp
 obtain⟨p1,p2,p3⟩:=(jj hv h9).1 hs;constructor
 .intro hn;have hq:iX c (upd x v (-R - 1)):=(jj hv h9).2 ⟨p1,by rw[hn];simp,fun u hu=>by have:=p3 u hu;grind⟩;have:=(hR _ ((hc.in_pos _).2 hq)).1;rw[i4] at this;grind
 intro hn;have hq:iX c (upd x v (R+1)):=(jj hv h9).2 ⟨p1,fun u hu=>by have:=p2 u hu;grind,by rw[hn];simp⟩;have:=(hR _ ((hc.in_pos _).2 hq)).2;rw[i4] at this;grind
end Go.Pl
namespace Go.Proofs.YtjjbkjgifdhlcaaGreat
open Go.AM Go.Pl
set_option maxRecDepth 100000
set_option maxHeartbeats 4000000
theorem Qq {v w:Nat} {N M:Int} {p:List Tm} (h:Duo v w N M p):NN p:=fun t ht=>by
 obtain⟨a1,a2,a3,a4⟩:=h t ht;refine⟨a1,fun k hk=>?_⟩;by_cases h1:k=v
 .rw[h1];exact a3.1
 by_cases h2:k=w
 .rw[h2];exact a4.1
 rw[a2 k hk h1 h2];exact Int.le_refl 0
theorem CZ {v:Nat} {p:List Tm} (h:NN p):NN (aU v p):=fun t ht=>by
 obtain⟨u,hu,rfl⟩:=mem_map.1 ht;obtain⟨a1,a2⟩:=h u hu;refine⟨by rw[length_set];exact a1,fun k hk=>?_⟩;rw[ja];split
 .next h=>have:=a2 v (by omega);omega
 exact a2 k hk
theorem TU (x:Nat->Rat) {j:Nat} (hj:j<8):mv (z8.set j 1) x=x j:=by
 have h:j=0\/j=1\/j=2\/j=3\/j=4\/j=5\/j=6\/j=7:=by omega
 rcases h with e | e | e | e | e | e | e | e<;>subst e<;>simp[mv,DY,z8,replicate,Rat.pow_succ,Rat.pow_zero]<;>grind
theorem W8 (x:Nat->Rat):mv z8 x=1:=by
 simp[mv,DY,z8,replicate,Rat.pow_zero]
theorem FJ (l:List Raw) (x:Nat->Rat):ev (dZ l) x=aF l x:=by
 unfold dZ gv kB;rw[FC,v8,r_,nC];have h: ∀ n,n<=8->ev (((List.range n).map (fun j=>(z8.set j 1,l.getD j rz))).map tq) x=bt (fun j=>co l j*x j) (List.range n):=fun n hn=>by
  rw[List.map_map];generalize hR:List.range n=R;have hm: ∀ j∈R,j<8:=fun j hj=>by rw[<-hR] at hj;have:=List.mem_range.1 hj;omega
  clear hR
  induction R with
  | nil=>rfl
  | cons j R ih=>
   rw[map_cons,fO,ih (fun k hk=>hm k (mem_cons_of_mem _ hk)),bt];show(l.getD j rz).q*mv (z8.set j 1) x+_=_;rw[TU x (hm j (by simp))];rfl
 have h2:ev ([(z8,l.getD 8 rz)].map tq) x=co l 8:=by
  show(l.getD 8 rz).q*mv z8 x+0=_;rw[W8];unfold co;grind
 have h3:=h 8 (by decide);rw[h2];refine Eq.trans (congrArg (· +co l 8) h3) ?_;show co l 0*x 0+(co l 1*x 1+(co l 2*x 2+(co l 3*x 3+(co l 4*x 4+(co l 5*x 5+(co l 6*x 6+(co l 7*x 7+0)))))))+co l 8=_;grind
theorem yA (l:List Raw):NN (dZ l):=by
 unfold dZ;refine NN.nf (fun t ht=>?_);obtain⟨u,hu,rfl⟩:=mem_map.1 ht;unfold gv kB at hu;rcases List.mem_append.1 hu with h | h
 .obtain⟨j,hj,rfl⟩:=mem_map.1 h;refine⟨by show(z8.set j 1).length=8;rw[length_set];rfl,fun k hk=>?_⟩;show 0<=(z8.set j 1).getD k 0;rw[ja];split
  .decide
  rw[wP];exact Int.le_refl 0
 rw[qz] at h;subst h;exact⟨rfl,fun k hk=>by show 0<=z8.getD k 0;rw[wP];exact Int.le_refl 0⟩
theorem Yw {v:Nat} {lo hi:List Raw} {p:List Tm} (hv:v<8) (hp:NN p) (x:Nat->Rat):ev (betT v lo hi p) x=ev (aU v p) (upd x v (aF hi x)) - ev (aU v p) (upd x v (aF lo x)):=by
 unfold betT;rw[FC,r_,FD,FI hv (CZ hp) (yA hi),FI hv (CZ hp) (yA lo),FJ,FJ];grind
theorem eL {a b:List Raw} (ha:a.length=9) (hb:b.length=9) (x:Nat->Rat):aF (cu a b) x=aF a x - aF b x:=by
 have:=s5 (a:=a) (b:=b) (c:=cu a b) (r:=1) (s:= -1) (x:=x) (fun i hi=>by rw[kY ha hb hi];grind);rw[this];grind
noncomputable def Hc (x:Nat->Rat) (s:RC):Rat:=@ite Rat (In s.1 x) (Classical.propDecidable _) (ev s.2 x) 0
theorem C0 {x:Nat->Rat} {s:RC} (h:In s.1 x):Hc x s=ev s.2 x:=if_pos h
theorem C2 {x:Nat->Rat} {s:RC} (h: ¬In s.1 x):Hc x s=0:=if_neg h
theorem jk {f:List Raw->List Raw} {l:List (List Raw)} {i n:Nat} {m:List Raw}:m∈lQ f l i n↔ ∃ k,k<n/\k≠i/\m=f (l.getD k []):=by
 unfold lQ;constructor
 .intro h;obtain⟨k,hk,rfl⟩:=mem_map.1 h;obtain⟨h1,h2⟩:=mem_filter.1 hk;exact⟨k,List.mem_range.1 h1,of_decide_eq_true h2,rfl⟩
 rintro⟨k,h1,h2,rfl⟩;exact mem_map.2 ⟨k,mem_filter.2 ⟨List.mem_range.2 h1,ib h2⟩,rfl⟩
theorem FK {c:Kc} {v i j:Nat} {x:Nat->Rat} (h9: ∀ l∈c,l.length=9) (qY: ∀ l∈c,¬aO l) (hi:i<(aN c v).length) (hj:j<(ay c v).length)
 (hl: ∀ i k,i<(aN c v).length->k<(aN c v).length->i≠k->aF ((aN c v).getD i []) x≠aF ((aN c v).getD k []) x)
 (hh: ∀ i k,i<(ay c v).length->k<(ay c v).length->i≠k->aF ((ay c v).getD i []) x≠aF ((ay c v).getD k []) x)
 (hs:gw ((ay c v).getD j []) ((aN c v).getD i [])=false):
 In (gZ (dT c v) (aN c v) (ay c v) i j) x↔(iX (dT c v) x/\aF ((aN c v).getD i []) x<aF ((ay c v).getD j []) x/\
  (∀ k,k<(aN c v).length->k≠i->aF ((aN c v).getD k []) x<aF ((aN c v).getD i []) x)/\ ∀ k,k<(ay c v).length->k≠j->aF ((ay c v).getD j []) x<aF ((ay c v).getD k []) x):=by
 have l9: ∀ k,k<(aN c v).length->((aN c v).getD k []).length=9:=fun k hk=>by
  obtain⟨r,hr,_,e⟩:=ec.1 (ba (ls:=aN c v) hk);rw[e];exact cj (h9 r hr)
 have u9: ∀ k,k<(ay c v).length->((ay c v).getD k []).length=9:=fun k hk=>by
  obtain⟨r,hr,_,e⟩:=dD.1 (ba (ls:=ay c v) hk);rw[e];exact cj (h9 r hr)
 have hcv:=eL (u9 j hj) (l9 i hi) x
 constructor
 .intro h
  unfold gZ at h
  refine⟨fun r hr=>?_,?_,fun k hk cM=>?_,fun k hk cM=>?_⟩
  .rcases h r (by simp only[qr];exact .inl (.inl (.inl hr))) with h1 | h1
   .exact h1
   exact absurd h1.1 (qY r (fX.1 hr).1)
  .rcases h (cu ((ay c v).getD j []) ((aN c v).getD i [])) (by simp) with h1 | h1
   .grind
   exfalso
   have h2:=d_ (x:=x) h1.1
   have h3:gw ((ay c v).getD j []) ((aN c v).getD i [])=true:=by
    unfold gw;rw[(dh (fW (u9 j hj) (l9 i hi))).2 h1.1,Bool.true_and];refine ib ?_;rw[<-h2,h1.2];decide
   rw[hs] at h3;cases h3
  .rcases h _ (by simp only[qr];exact .inl (.inr (jk.2 ⟨k,hk,cM,rfl⟩))) with h1 | h1
   .rw[eL (l9 i hi) (l9 k hk)] at h1;grind
   have h2:=h1.2
   rw[eL (l9 i hi) (l9 k hk)] at h2
   exact absurd (by grind) (hl i k hi hk (Ne.symm cM))
  rcases h _ (by simp only[qr];exact .inr (jk.2 ⟨k,hk,cM,rfl⟩)) with h1 | h1
  .rw[eL (u9 k hk) (u9 j hj)] at h1;grind
  have h2:=h1.2
  rw[eL (u9 k hk) (u9 j hj)] at h2
  exact absurd (by grind) (hh k j hk hj cM)
 rintro⟨h1,h2,h3,h4⟩ m hm
 unfold gZ at hm
 refine .inl ?_
 rcases List.mem_append.1 hm with hm | hm
 .rcases List.mem_append.1 hm with hm | hm
  .rcases List.mem_append.1 hm with hm | hm
   .exact h1 m hm
   rw[qz] at hm
   rw[hm];grind
  obtain⟨k,hk,cM,rfl⟩:=jk.1 hm
  rw[eL (l9 i hi) (l9 k hk)]
  have:=h3 k hk cM
  grind
 obtain⟨k,hk,cM,rfl⟩:=jk.1 hm
 rw[eL (u9 k hk) (u9 j hj)]
 have:=h4 k hk cM
 grind
theorem FM {c:Kc} {p:List Tm} {v:Nat} {x:Nat->Rat} (hv:v<8) (h9: ∀ l∈c,l.length=9) (qY: ∀ l∈c,¬aO l) (hp:NN p) (h1:aN c v≠[]) (h2:ay c v≠[])
 (hl: ∀ i k,i<(aN c v).length->k<(aN c v).length->i≠k->aF ((aN c v).getD i []) x≠aF ((aN c v).getD k []) x)
 (hh: ∀ i k,i<(ay c v).length->k<(ay c v).length->i≠k->aF ((ay c v).getD i []) x≠aF ((ay c v).getD k []) x):
 Fib (fun t=>iX c (upd x v t)) (fun t=>ev (aU v p) (upd x v t)) (bt (Hc x) (eU c p v)):=by
 have n0:0<(aN c v).length:=length_pos_iff.2 h1
 have m0:0<(ay c v).length:=length_pos_iff.2 h2
 have l_:=Ql (A:=iX (dT c v) x) (G:=fun t=>ev (aU v p) (upd x v t)) (lo:=fun i=>aF ((aN c v).getD i []) x) (hi:=fun j=>aF ((ay c v).getD j []) x) n0 m0 hl hh
  (g:=fun i j=>bt (Hc x) (if gw ((ay c v).getD j []) ((aN c v).getD i [])=true then [] else [(gZ (dT c v) (aN c v) (ay c v) i j,betT v ((aN c v).getD i []) ((ay c v).getD j []) p)]))
  (fun i j hi hj hc=>by
   have wZ:gw ((ay c v).getD j []) ((aN c v).getD i [])=false:=by
    cases hs:gw ((ay c v).getD j []) ((aN c v).getD i []) with
    | false=>rfl
    | true=>
     exfalso;obtain⟨r,hr,_,e⟩:=ec.1 (ba (ls:=aN c v) hi);obtain⟨q,hq,_,e'⟩:=dD.1 (ba (ls:=ay c v) hj);have l9:((aN c v).getD i []).length=9:=by rw[e];exact cj (h9 r hr)
     have u9:((ay c v).getD j []).length=9:=by rw[e'];exact cj (h9 q hq)
     unfold gw at hs;rw[DV] at hs;have eI:=(dh (fW u9 l9)).1 hs.1;have hsg:=of_decide_eq_true hs.2;have hcv:=eL u9 l9 x;rw[d_ eI] at hcv;have db:0<co (cu ((ay c v).getD j []) ((aN c v).getD i [])) 8:=by
      rw[hcv];have:=hc.2.1;grind
     rw[rS db] at hsg;exact absurd hsg (by decide)
   have gA:=(FK h9 qY hi hj hl hh wZ).2 hc;simp only[wZ];rw[if_neg (by decide),bt,C0 gA,bt,Yw hv hp];grind)
  (fun i j hi hj hc=>by
   cases hs:gw ((ay c v).getD j []) ((aN c v).getD i []) with
   | true=>rw[if_pos rfl];rfl
   | false=>
    rw[if_neg (by decide),bt,C2 (fun gA=>hc ((FK h9 qY hi hj hl hh hs).1 gA)),bt];grind)
 unfold eU o7
 rw[qE]
 unfold n8
 have e:(fun a=>bt (Hc x) ((List.range (ay c v).length).flatMap (fun k=>if gw ((ay c v).getD k []) ((aN c v).getD a [])=true then [] else [(gZ (dT c v) (aN c v) (ay c v) a k,betT v ((aN c v).getD a []) ((ay c v).getD k []) p)])))
  =fun i=>bt (fun j=>bt (Hc x) (if gw ((ay c v).getD j []) ((aN c v).getD i [])=true then [] else [(gZ (dT c v) (aN c v) (ay c v) i j,betT v ((aN c v).getD i []) ((ay c v).getD j []) p)])) (List.range (ay c v).length):=by
  funext a
  rw[qE]
 rw[e]
 refine l_.congr (fun t=>?_)
 rw[jj hv h9]
 constructor
 .rintro⟨a,b,d⟩
  refine⟨a,fun l hl=>?_,fun u hu=>?_⟩
  .obtain⟨i,hi,rfl⟩:=mem_iff_getElem.1 hl
   have:=b i hi
   rwa [qa,qb hi] at this
  obtain⟨i,hi,rfl⟩:=mem_iff_getElem.1 hu
  have:=d i hi
  rwa [qa,qb hi] at this
 rintro⟨a,b,d⟩
 exact⟨a,fun i hi=>b _ (ba hi),fun j hj=>d _ (ba hj)⟩
end Go.Proofs.YtjjbkjgifdhlcaaGreat
namespace Go.Pl
theorem Im {S:Rat->Prop} {G:Rat->Rat} {z:Rat} (h:Fib S G z) (K:Rat->Rat): ∃ w,Fib S K w:=by
 rcases h with⟨L,U,h1,h2,_⟩ | ⟨h1,_⟩
 .exact⟨_,.inl ⟨L,U,h1,h2,rfl⟩⟩
 exact⟨0,.inr ⟨h1,rfl⟩⟩
noncomputable def C3 (S:Rat->Prop) (G:Rat->Rat):Rat:=@dite Rat (∃ z,Fib S G z) (Classical.propDecidable _) (fun h=>Classical.choose h) (fun _=>0)
theorem gf {S:Rat->Prop} {G:Rat->Rat} {z:Rat} (h:Fib S G z):C3 S G=z:=by
 have h1: ∃ z,Fib S G z:=⟨z,h⟩;unfold C3;rw[dif_pos h1];exact(Classical.choose_spec h1).uniq h
theorem wR {S:Rat->Prop} {G:Rat->Rat} (h: ¬ ∃ z,Fib S G z):C3 S G=0:=dif_neg h
noncomputable def T2 (v:Nat) (x:Nat->Rat) (k:Kc) (p:List Tm):Rat:=C3 (fun t=>In k (upd x v t)) (fun t=>ev (aU v p) (upd x v t))
theorem yB {v:Nat} (x:Nat->Rat): ∀ p:List Tm,ev (aU v p) x=vy (fun m=>mv (m.set v (m.getD v 0+1)) x / (m.getD v 0+1)) p
 | []=>rfl
 | t::p=>by
  have ih:=yB (v:=v) x p;unfold aU at ih ⊢;rw[map_cons,fO,ih,vy];grind
theorem Qr {v:Nat} (a b:List Tm):aU v (a++b)=aU v a++aU v b:=by unfold aU;rw[v8]
theorem Qs {v:Nat} {x:Nat->Rat} {k:Kc} {p q:List Tm} (h: ∀ y,ev (aU v p) y=ev (aU v q) y):T2 v x k p=T2 v x k q:=by
 unfold T2;have:(fun t=>ev (aU v p) (upd x v t))=fun t=>ev (aU v q) (upd x v t):=funext fun t=>h _
 rw[this]
theorem Yx (v:Nat) (x:Nat->Rat):Qm (T2 v x) where
 add k a b:=by
  unfold T2;have e:(fun t=>ev (aU v (a++b)) (upd x v t))=fun t=>ev (aU v a) (upd x v t)+ev (aU v b) (upd x v t):=by
   funext t;rw[Qr,r_]
  rw[e];by_cases h: ∃ z,Fib (fun t=>In k (upd x v t)) (fun t=>ev (aU v a) (upd x v t)) z
  .obtain⟨z,hz⟩:=h;obtain⟨w,hw⟩:=Im hz (fun t=>ev (aU v b) (upd x v t));rw[gf hz,gf hw,gf (hz.add hw)]
  have h2: ¬ ∃ z,Fib (fun t=>In k (upd x v t)) (fun t=>ev (aU v b) (upd x v t)) z:=fun⟨z,hz⟩=>h (Im hz _)
  have h3: ¬ ∃ z,Fib (fun t=>In k (upd x v t)) (fun t=>ev (aU v a) (upd x v t)+ev (aU v b) (upd x v t)) z:=fun⟨z,hz⟩=>h (Im hz _)
  rw[wR h,wR h2,wR h3];grind
 nf k a:=Qs (fun y=>by rw[yB,yB,O5])
 nil k:=by
  unfold T2;by_cases h: ∃ z,Fib (fun t=>In k (upd x v t)) (fun t=>ev (aU v []) (upd x v t)) z
  .obtain⟨z,hz⟩:=h;rw[gf hz];rcases hz with⟨L,U,_,_,h3⟩ | ⟨_,h3⟩
   .rw[h3];show(0:Rat) - 0=0;grind
   exact h3
  exact wR h
theorem Yy {v:Nat} {x:Nat->Rat} {k k':Kc} {p:List Tm} (h: ∀ y,In k y↔In k' y):T2 v x k p=T2 v x k' p:=by
 unfold T2;have:(fun t=>In k (upd x v t))=fun t=>In k' (upd x v t):=funext fun t=>propext (h _)
 rw[this]
theorem TV {v:Nat} {x:Nat->Rat} {k:Kc} {p:List Tm} (h: ∀ y,¬In k y):T2 v x k p=0:=gf (.inr ⟨fun t=>h _,rfl⟩)
theorem TW {v:Nat} {x:Nat->Rat} {l:List RC} (hc: ∀ r∈l,DX r.1/\Canon r.2):bt (fun r:RC=>T2 v x r.1 r.2) (o5 ((l.filter (fun r=>aZ r.1)).map (fun r=>(aV r.1,r.2))))=bt (fun r:RC=>T2 v x r.1 r.2) l:=by
 rw[FA (Yx v x) (fun y hy=>by
  obtain⟨r,hr,rfl⟩:=mem_map.1 hy;obtain⟨iQ,gA⟩:=mem_filter.1 hr;have h9:=(hc r iQ).1.cs.len9;refine⟨fun f hf=>?_,(hc r iQ).2⟩;obtain⟨l,hl,_,rfl⟩:=r9 h9 gA hf;exact ji (h9 l hl)),pe]
 induction l with
 | nil=>rfl
 | cons r l ih=>
  have ih:=ih (fun y hy=>hc y (mem_cons_of_mem _ hy));have hr:=hc r (by simp);cases hb:aZ r.1 with
  | true=>
   rw[List.filter_cons_of_pos (by simp[hb]),bt,bt,ih];congr 1;exact Yy (fun y=>jx hr.1 y)
  | false=>
   rw[List.filter_cons_of_neg (by simp[hb]),ih,bt,TV (fun y hy=>by
    rw[(fh hr.1.cs.len9).2 ⟨y,hy⟩] at hb;cases hb)]
   grind
theorem Qt {w:Nat} {x:Nat->Rat} (hw:w<8): ∀ {N:List RC} {Hc:Rat->RC->Rat},(∀ y s,In s.1 (upd x w y)->Hc y s=ev s.2 (upd x w y))->(∀ y s,¬In s.1 (upd x w y)->Hc y s=0)->
 (∀ s∈N,NN s.2/\((∃ L U,L<U/\ ∀ y,In s.1 (upd x w y)↔L<y/\y<U)\/ ∀ y,¬In s.1 (upd x w y)))->
 ∃ P:List Pc,(∀ p∈P,p.Ok)/\(∀ y,ox y P=bt (Hc y) N)/\ki P=bt (fun s:RC=>T2 w x s.1 s.2) N
 | [],_,_,_,_=>⟨[],by simp,fun _=>rfl,rfl⟩
 | s::N,Hc,ha,hb,h=>by
  obtain⟨P,h1,h2,h3⟩:=Qt hw (N:=N) ha hb (fun r hr=>h r (mem_cons_of_mem _ hr));obtain⟨hn,hs⟩:=h s (by simp);rcases hs with⟨L,U,XC,hS⟩ | hS
  .refine⟨⟨L,U,fun y=>ev (aU w s.2) (upd x w y),fun y=>ev s.2 (upd x w y)⟩::P,fun p hp=>?_,fun y=>?_,?_⟩
   .rcases List.mem_cons.1 hp with h9 | h9
    .rw[h9];exact⟨Rat.le_of_lt XC,Slp.prim hw hn⟩
    exact h1 p h9
   .rw[ox,bt,h2 y];congr 1;by_cases hy:L<y/\y<U
    .rw[if_pos hy,ha y s ((hS y).2 hy)]
    rw[if_neg hy,hb y s (fun h9=>hy ((hS y).1 h9))]
   rw[ki,bt,h3];congr 1;exact(gf (.inl ⟨L,U,XC,hS,rfl⟩)).symm
  refine⟨P,h1,fun y=>?_,?_⟩
  .rw[bt,h2 y,hb y s (hS y)];grind
  rw[bt,h3];have:T2 w x s.1 s.2=0:=gf (.inr ⟨hS,rfl⟩);rw[this];grind
end Go.Pl
namespace Go.Proofs.YtjjbkjgifdhlcaaGreat
open Go.AM Go.Pl
set_option maxRecDepth 100000
set_option maxHeartbeats 4000000
theorem Qu {v w:Nat} {c:Kc} (h9: ∀ l∈c,l.length=9) (h2:Two v w c) {l:List Raw} (hl:l∈c) (h0:co l v≠0): ∀ i,i<8->i≠w->co (cF v l) i=0:=fun i hi cM=>by
 rw[(dN (h9 l hl) h0).2 i (by omega)];by_cases e:v=i
 .rw[if_pos e]
 rw[if_neg e,h2 l hl i hi (Ne.symm e) cM];grind
theorem Io {v w:Nat} {c:Kc} (h9: ∀ l∈c,l.length=9) (h2:Two v w c):(∀ b∈aN c v,∀ i,i<8->i≠w->co b i=0)/\ ∀ b∈ay c v,∀ i,i<8->i≠w->co b i=0:=by
 constructor
 .intro b hb;obtain⟨l,hl,h0,rfl⟩:=ec.1 hb;exact Qu h9 h2 hl (by grind)
 intro b hb;obtain⟨l,hl,h0,rfl⟩:=dD.1 hb;exact Qu h9 h2 hl (by grind)
structure RgB (v w:Nat) (r:RC):Prop where
 nrm:NrmC r.1
 two:Two v w r.1
 nn:NN r.2
 low:aN r.1 v≠[]
 high:ay r.1 v≠[]
theorem RgB.len9 {v w:Nat} {r:RC} (h:RgB v w r): ∀ l∈r.1,l.length=9:=fun l hl=>(h.nrm.cn l hl).len
theorem Qv {v:Nat} {x:Nat->Rat} {k:Kc} {p:List Tm} {z:Rat} (h:NrmC k) (hf:Fib (fun t=>iX k (upd x v t)) (fun t=>ev (aU v p) (upd x v t)) z):T2 v x k p=z:=
 gf (hf.congr (fun t=>(h.in_pos _).symm))
theorem TX {v w:Nat} {r:RC} (hv:v<8) (hw:w<8) (h:RgB v w r): ∃ Z:List Rat,∀ x:Nat->Rat,x w∉Z->bt (Hc x) (eU r.1 r.2 v)=T2 v x r.1 r.2:=by
 obtain⟨b1,b2⟩:=Io h.len9 h.two;obtain⟨Z1,h1⟩:=KK hw b1 (TS hv h.nrm);obtain⟨Z2,h2⟩:=KK hw b2 (Qo hv h.nrm);refine⟨Z1++Z2,fun x hx=>?_⟩;rw[qr] at hx;exact(Qv h.nrm (FM hv h.len9 h.nrm.nc h.nn h.low h.high (h1 x (fun e=>hx (.inl e))) (h2 x (fun e=>hx (.inr e))))).symm
theorem Qw {v:Nat} (hv:v<8) (x:Nat->Rat): ∀ {M:List RC},(∀ r∈M,RgB v v r/\(aN r.1 v).length<=1/\(ay r.1 v).length<=1)->bt (Hc x) (elimO M v)=bt (fun r:RC=>T2 v x r.1 r.2) M
 | [],_=>rfl
 | r::M,h=>by
  obtain⟨hb,h1,h2⟩:=h r (by simp);have ih:=Qw hv x (M:=M) (fun x hx=>h x (mem_cons_of_mem _ hx));have e:elimO (r::M) v=eU r.1 r.2 v++elimO M v:=by unfold elimO;rw[List.flatMap_cons]
  rw[e,k8,ih,bt];congr 1;exact(Qv hb.nrm (FM hv hb.len9 hb.nrm.nc hb.nn hb.low hb.high (fun i k hi hk cM=>absurd (show i=k by omega) cM) (fun i k hi hk cM=>absurd (show i=k by omega) cM))).symm
theorem FO {c:Kc} {v i j:Nat} {x:Nat->Rat} (hv:v<8) (h9: ∀ l∈c,l.length=9) (qY: ∀ l∈c,¬aO l) (hi:i<(aN c v).length) (hj:j<(ay c v).length)
 (hs:gw ((ay c v).getD j []) ((aN c v).getD i [])=false) (h:In (gZ (dT c v) (aN c v) (ay c v) i j) x): ∃ t,iX c (upd x v t):=by
 have l9: ∀ k,k<(aN c v).length->((aN c v).getD k []).length=9:=fun k hk=>by
  obtain⟨r,hr,_,e⟩:=ec.1 (ba (ls:=aN c v) hk);rw[e];exact cj (h9 r hr)
 have u9: ∀ k,k<(ay c v).length->((ay c v).getD k []).length=9:=fun k hk=>by
  obtain⟨r,hr,_,e⟩:=dD.1 (ba (ls:=ay c v) hk);rw[e];exact cj (h9 r hr)
 unfold gZ at h
 have aH:aF ((aN c v).getD i []) x<aF ((ay c v).getD j []) x:=by
  have hcv:=eL (u9 j hj) (l9 i hi) x;rcases h (cu ((ay c v).getD j []) ((aN c v).getD i [])) (by simp) with h1 | h1
  .grind
  exfalso;have h2:=d_ (x:=x) h1.1;have h3:gw ((ay c v).getD j []) ((aN c v).getD i [])=true:=by
   unfold gw;rw[(dh (fW (u9 j hj) (l9 i hi))).2 h1.1,Bool.true_and];refine ib ?_;rw[<-h2,h1.2];decide
  rw[hs] at h3;cases h3
 refine⟨(aF ((aN c v).getD i []) x+aF ((ay c v).getD j []) x) / 2,(jj hv h9).2 ⟨fun r hr=>?_,fun l hl=>?_,fun u hu=>?_⟩⟩
 .rcases h r (by simp only[qr];exact .inl (.inl (.inl hr))) with h1 | h1
  .exact h1
  exact absurd h1.1 (qY r (fX.1 hr).1)
 .obtain⟨k,hk,rfl⟩:=mem_iff_getElem.1 hl
  have e:(aN c v)[k]=(aN c v).getD k []:=by rw[qa,qb hk];rfl
  rw[e]
  by_cases cM:k=i
  .rw[cM];grind
  have:=h _ (by simp only[qr];exact .inl (.inr (jk.2 ⟨k,hk,cM,rfl⟩)))
  rw[eL (l9 i hi) (l9 k hk)] at this
  grind
 obtain⟨k,hk,rfl⟩:=mem_iff_getElem.1 hu
 have e:(ay c v)[k]=(ay c v).getD k []:=by rw[qa,qb hk];rfl
 rw[e]
 by_cases cM:k=j
 .rw[cM];grind
 have:=h _ (by simp only[qr];exact .inr (jk.2 ⟨k,hk,cM,rfl⟩))
 rw[eL (u9 k hk) (u9 j hj)] at this
 grind
theorem qG {c:Kc} {p:List Tm} {v:Nat} {s:RC} (h:s∈eU c p v): ∃ i j,i<(aN c v).length/\j<(ay c v).length/\gw ((ay c v).getD j []) ((aN c v).getD i [])=false/\
 s=(gZ (dT c v) (aN c v) (ay c v) i j,betT v ((aN c v).getD i []) ((ay c v).getD j []) p):=by
 unfold eU o7 at h
 obtain⟨i,hi,h⟩:=List.mem_flatMap.1 h
 unfold n8 at h
 obtain⟨j,hj,h⟩:=List.mem_flatMap.1 h
 refine⟨i,j,List.mem_range.1 hi,List.mem_range.1 hj,?_⟩
 cases hs:gw ((ay c v).getD j []) ((aN c v).getD i []) with
 | true=>rw[hs,if_pos rfl] at h;simp at h
 | false=>
  rw[hs,if_neg (by decide)] at h;exact⟨rfl,List.mem_singleton.1 h⟩
theorem FP {v w:Nat} {r s:RC} (hv:v<8) (jE:v≠w) (h:RgB v w r) (hb:wa w r.1) (hs:s∈eU r.1 r.2 v):wa w s.1:=by
 obtain⟨i,j,hi,hj,jd,rfl⟩:=qG hs;obtain⟨R,hR⟩:=hb;refine⟨R,fun x hx=>?_⟩;obtain⟨t,ht⟩:=FO hv h.len9 h.nrm.nc hi hj jd hx;have:=hR _ ((h.nrm.in_pos _).2 ht);rwa [uT (Ne.symm jE)] at this
theorem KL {v:Nat} {c:Kc} {p:List Tm} {s:RC} (hp:NN p) (hs:s∈eU c p v):NN s.2:=by
 obtain⟨i,j,_,_,_,rfl⟩:=qG hs;have AG:=CZ (v:=v) hp;have key: ∀ l:List Raw,NN (fe v (dZ l) (aU v p)):=fun l=>by
  unfold fe;exact yz (yA l) (fun c hc=>by
   obtain⟨i,_,rfl⟩:=mem_map.1 hc;exact AG.part)
 unfold betT;refine NN.nf (NN.app (key _) (fun t ht=>?_));unfold cW at ht;obtain⟨u,hu,rfl⟩:=mem_map.1 ht;exact key _ u hu
structure Bd2 (v w:Nat) (M:List RC):Prop where
 bv: ∀ r∈M,wa v r.1
 bw: ∀ r∈M,wa w r.1
theorem RgV.rgB {v w Nv Nw j kp n c:Nat} {r:RC} (s:iM v w Nv Nw j kp n c) (h:RgV v w Nv Nw j kp n r) (hb:wa v r.1):RgB v w r:=by
 have hC:=NrmC.of (h.q.cst s) h.inn h.idem;obtain⟨a,b⟩:=Qp s.hv (fun l hl=>(hC.cn l hl).len) hC h.inn hb;exact⟨hC,h.q.two,Qq h.q.duo,a,b⟩
theorem KM {v w:Nat} {M:List RC} (h: ∀ r∈M,RgB v w r):M.any (missB v)=false:=by
 rw[List.any_eq_false];intro r hr;unfold missB;have h1:=(h r hr).low;have h2:=(h r hr).high;cases e1:aN r.1 v with
 | nil=>exact absurd e1 h1
 | cons a b=>
  cases e2:ay r.1 v with
  | nil=>exact absurd e2 h2
  | cons a b=>simp
theorem TY {w:Nat} {s:RC} (hw:w<8) (h:RgB w w s) (x:Nat->Rat):(∃ L U,L<U/\ ∀ y,In s.1 (upd x w y)↔L<y/\y<U)\/ ∀ y,¬In s.1 (upd x w y):=by
 have n0:0<(aN s.1 w).length:=length_pos_iff.2 h.low;have m0:0<(ay s.1 w).length:=length_pos_iff.2 h.high;obtain⟨i,hi,wz⟩:=nH (fun k=>aF ((aN s.1 w).getD k []) x) _ n0;obtain⟨j,hj,vj⟩:=nH (fun k=> -aF ((ay s.1 w).getD k []) x) _ m0;by_cases hp:iX (dT s.1 w) x/\aF ((aN s.1 w).getD i []) x<aF ((ay s.1 w).getD j []) x
 .refine .inl ⟨_,_,hp.2,fun y=>?_⟩;rw[h.nrm.in_pos,jj hw h.len9];constructor
  .rintro⟨_,b,d⟩;exact⟨b _ (ba hi),d _ (ba hj)⟩
  rintro⟨b,d⟩;refine⟨hp.1,fun l hl=>?_,fun u hu=>?_⟩
  .obtain⟨k,hk,rfl⟩:=mem_iff_getElem.1 hl;have:=wz k hk;rw[qa,qb hk] at this;simp only[Option.getD_some] at this;grind
  obtain⟨k,hk,rfl⟩:=mem_iff_getElem.1 hu;have:=vj k hk;rw[qa,qb hk] at this;simp only[Option.getD_some] at this;grind
 refine .inr (fun y hy=>hp ?_);rw[h.nrm.in_pos,jj hw h.len9] at hy;obtain⟨a,b,d⟩:=hy;refine⟨a,?_⟩;have:=b _ (ba hi);have:=d _ (ba hj);grind
theorem IA.q {v w:Nat} {M:List RC} (hv:v<8) (hw:w<8) (jE:v≠w) (h:IA v w M): ∀ x∈elimO M v,RgQ w v 6 0 52 2292 5 x:=fun x hx=>by
 have zD: ∀ r∈M,r.2.length<=12:=fun r hr=>((h.rg r hr).q.pok (re hv hw) (by decide)).2
 obtain⟨r,hr,hx⟩:=List.mem_flatMap.1 hx;obtain⟨a1,a2,a3,a4,a5,a6⟩:=(i7 (re hv hw) jE Qd (h.rg r hr) (zD r hr)).2 x hx;exact⟨a1,fun l hl i hi h1 h2=>a2 l hl i hi h1 h1,by omega,gD (lN _) a3,a4,a5.duo hv jE,a6,.inr ⟨a2,by decide,by decide⟩⟩
theorem IB.other {v w u:Nat} {M:List RC} (hu:v≠u) (hu8:u<8) (h:IB v w M) {r:RC} (hr:r∈M):RgV v u 6 0 104 27517 5 r:=by
 have v3:=h.rg r hr;exact⟨⟨v3.1.q.ok,fun l hl i hi h1 _=>v3.2 l hl i hi h1 h1,v3.1.q.len,v3.1.q.ncl,v3.1.q.can,fun t ht=>by
  obtain⟨b1,b2,b3,b4⟩:=v3.1.q.duo t ht;have b5: ∀ i,i<8->i≠v->t.1.getD i 0=0:=fun i hi h1=>by
   by_cases sD:i=w
   .rw[sD];omega
   exact b2 i hi h1 sD
  exact⟨b1,fun i hi h1 _=>b5 i hi h1,b3,by rw[b5 u hu8 (Ne.symm hu)];omega⟩,v3.1.q.pb,v3.1.q.alt⟩,v3.1.idem,v3.1.inn,v3.1.len⟩
theorem IB.q {v w:Nat} {M:List RC} (hv:v<8) (hw:w<8) (jE:v≠w) (h:IB v w M): ∀ x∈elimO M v,RgQ w v 8 0 420 470564 5 x/\ ∀ t∈x.2,t.1=z8:=fun x hx=>by
 have zD: ∀ r∈M,r.2.length<=12:=fun r hr=>((h.rg r hr).1.q.pok (n_ hv hw) (by decide)).2
 obtain⟨r,hr,hx⟩:=List.mem_flatMap.1 hx;obtain⟨a1,a2,a3,a4,a5,a6⟩:=(i7 (n_ hv hw) jE KE (h.rg r hr).1 (zD r hr)).2 x hx;refine⟨⟨a1,fun l hl i hi h1 h2=>a2 l hl i hi h1 h1,by omega,gD (lN _) a3,a4,a5.duo hv jE,a6,.inr ⟨a2,by decide,by decide⟩⟩,fun t ht=>?_⟩;obtain⟨u,hu8,huv,SI⟩: ∃ u,u<8/\v≠u/\u≠w:=by
  by_cases h0:v≠0/\0≠w
  .exact⟨0,by decide,h0.1,h0.2⟩
  by_cases h1:v≠1/\1≠w
  .exact⟨1,by decide,h1.1,h1.2⟩
  exact⟨2,by decide,by omega,by omega⟩
 have b5:=((i7 (n_ hv hu8) huv KE (h.other huv hu8 hr) (zD r hr)).2 x hx).2.2.2.2.1;obtain⟨l8,c1,_⟩:=a5 t ht;obtain⟨_,c2,_⟩:=b5 t ht;refine List.ext_getElem (by rw[l8];rfl) (fun i h1 h2=>?_);have hi:i<8:=by omega
 have e1:t.1.getD i 0=t.1[i]:=by rw[qa,qb h1];rfl
 have e2:z8[i]'h2=(0:Int):=List.eq_of_mem_replicate (kj h2);rw[e2,<-e1];by_cases sD:i=w
 .exact c2 i hi (by rw[sD];exact Ne.symm SI)
 exact c1 i hi sD
theorem yC {v w Nv Nw j kp n c:Nat} {l:List RC} (s:iM v w Nv Nw j kp n c) (h: ∀ r∈l,RgQ v w Nv Nw j kp n r) {r:RC} (hr:r∈nrmL l):(∃ z∈l,aZ z.1=true/\r.1=aV z.1)/\ ∀ t∈r.2,∃ z∈l,∃ u∈z.2,u.1=t.1:=by
 have hrc:RcOk ((l.filter (fun r=>aZ r.1)).map (fun r=>(aV r.1,r.2))):=fun y hy=>by
  obtain⟨z,hz,rfl⟩:=mem_map.1 hy;have DL:=(mem_filter.1 hz).1;exact⟨fun f hf=>((TI ((h z DL).cst s)).1 f hf).1,(h z DL).can⟩
 obtain⟨e1,x,hx,e2⟩:=yq hrc hr;constructor
 .obtain⟨z,hz,rfl⟩:=mem_map.1 hx;obtain⟨hz1,DL⟩:=mem_filter.1 hz;exact⟨z,hz1,DL,e2.symm⟩
 intro t ht;rw[e1] at ht;unfold polyS' at ht;obtain⟨u,hu,he⟩:=jV ht;obtain⟨y,hy,w7⟩:=List.mem_flatMap.1 hu;obtain⟨z,hz,rfl⟩:=mem_map.1 (mem_filter.1 hy).1;exact⟨z,(mem_filter.1 hz).1,u,w7,he⟩
theorem KN (x:Nat->Rat): ∀ l:List RC,ev (l.flatMap (·.2)) x=bt (fun r:RC=>ev r.2 x) l
 | []=>rfl
 | r::l=>by rw[List.flatMap_cons,r_,KN x l,bt]
theorem TZ (x:Nat->Rat):Qm (fun _ p=>ev p x):=⟨fun _ a b=>r_ a b x,fun _ a=>FC a x,fun _=>rfl⟩
theorem MI {w:Nat} {c:Kc} {p:List Tm} {s:RC} (h9: ∀ l∈c,l.length=9) (h2:Two w w c) (hs:s∈eU c p w): ∀ l∈s.1,l.length=9/\ ∀ i,i<8->co l i=0:=by
 obtain⟨i,j,hi,hj,_,rfl⟩:=qG hs;have key: ∀ l∈c,co l w≠0->(cF w l).length=9/\ ∀ i,i<8->co (cF w l) i=0:=fun l hl h0=>⟨cj (h9 l hl),fun i hi=>by
  rw[(dN (h9 l hl) h0).2 i (by omega)];by_cases e:w=i
  .rw[if_pos e]
  rw[if_neg e,h2 l hl i hi (Ne.symm e) (Ne.symm e)];grind⟩
 have lz: ∀ k,k<(aN c w).length->((aN c w).getD k []).length=9/\ ∀ i,i<8->co ((aN c w).getD k []) i=0:=fun k hk=>by
  obtain⟨r,hr,h0,e⟩:=ec.1 (ba (ls:=aN c w) hk);rw[e];exact key r hr (by grind)
 have uz: ∀ k,k<(ay c w).length->((ay c w).getD k []).length=9/\ ∀ i,i<8->co ((ay c w).getD k []) i=0:=fun k hk=>by
  obtain⟨r,hr,h0,e⟩:=dD.1 (ba (ls:=ay c w) hk);rw[e];exact key r hr (by grind)
 have cz: ∀ a b:List Raw,(a.length=9/\ ∀ i,i<8->co a i=0)->(b.length=9/\ ∀ i,i<8->co b i=0)->(cu a b).length=9/\ ∀ i,i<8->co (cu a b) i=0:=fun a b ha hb=>
  ⟨fW ha.1 hb.1,fun i hi=>by rw[kY ha.1 hb.1 (by omega),ha.2 i hi,hb.2 i hi];grind⟩
 intro m hm;unfold gZ at hm;rcases List.mem_append.1 hm with hm | hm
 .rcases List.mem_append.1 hm with hm | hm
  .rcases List.mem_append.1 hm with hm | hm
   .obtain⟨h1,h3⟩:=fX.1 hm;refine⟨h9 m h1,fun i hi=>?_⟩;by_cases e:i=w
    .rw[e];exact h3
    exact h2 m h1 i hi e e
   rw[qz] at hm;rw[hm];exact cz _ _ (uz j hj) (lz i hi)
  obtain⟨k,hk,cM,rfl⟩:=jk.1 hm;exact cz _ _ (lz i hi) (lz k hk)
 obtain⟨k,hk,cM,rfl⟩:=jk.1 hm;exact cz _ _ (uz k hk) (uz j hj)
theorem T0 {k:Kc} (h: ∀ l∈k,l.length=9/\ ∀ i,i<8->co l i=0) (x:Nat->Rat):In k x↔aZ k=true:=by
 rw[fh (fun l hl=>(h l hl).1)];have e: ∀ y z:Nat->Rat,In k y->In k z:=fun y z hy l hl=>by
  have h1:=hy l hl;rw[d_ (h l hl).2] at h1 ⊢;exact h1
 exact⟨fun hx=>⟨x,hx⟩,fun⟨y,hy⟩=>e y x hy⟩
structure Yz (v w:Nat) (M:List RC) (P:List Tm):Prop where
 tot:yn iO M [(v:Int),(w:Int)]=(0,P)
 can:Canon P
 key: ∀ t∈P,t.1=z8
 val: ∀ x,ev P x=bt (fun s:RC=>T2 w x s.1 s.2) (elimO M v)
 rgb: ∀ r∈M,RgB v w r
 pok:POk 10000000 1024 P/\P.length<=12
 cut: ∀ s∈elimO M v,NN s.2/\ ∀ x,(∃ L U,L<U/\ ∀ y,In s.1 (upd x w y)↔L<y/\y<U)\/ ∀ y,¬In s.1 (upd x w y)
theorem FQ {M:List RC} {v:Nat} (hv:v<8) (h:M.any (missB v)=false):iO M (v:Int)=(0,nrmL (elimO M v)):=by
 unfold iO;rw[if_neg (by omega),Int.toNat_natCast,if_neg (by rw[h];decide)]
theorem KO {v w:Nat} {M:List RC} (hv:v<8) (hw:w<8) (jE:v≠w) (h:IA v w M) (hb:Bd2 v w M): ∃ P,Yz v w M P:=by
 have GU: ∀ r∈M,RgB v w r:=fun r hr=>(h.rg r hr).rgB (re hv hw) (hb.bv r hr)
 have hq:=h.q hv hw jE;obtain⟨_,_,_,hB⟩:=h.elim hv hw jE;have eI: ∀ s∈elimO M v,DX s.1/\Canon s.2:=fun s hs=>⟨(hq s hs).cst (yv hw hv),(hq s hs).can⟩
 have hbd: ∀ s∈elimO M v,wa w s.1:=fun s hs=>by
  obtain⟨r,hr,hs⟩:=List.mem_flatMap.1 hs;exact FP hv jE (GU r hr) (hb.bw r hr) hs
 obtain⟨N1,hN1⟩:=aw (nrmL (elimO M v));have afF: ∀ r∈N1,(∃ z∈elimO M v,aZ z.1=true/\r.1=aV z.1):=fun r hr=>by
  rw[<-hN1] at hr;exact(yC (yv hw hv) hq hr).1
 have hT2: ∀ x,bt (fun s:RC=>T2 w x s.1 s.2) N1=bt (fun s:RC=>T2 w x s.1 s.2) (elimO M v):=fun x=>by
  rw[<-hN1];exact TW eI
 rw[hN1] at hB;have dV: ∀ r∈N1,wa w r.1:=fun r hr=>by
  obtain⟨z,hz,_,e⟩:=afF r hr;obtain⟨R,hR⟩:=hbd z hz;exact⟨R,fun x hx=>hR x ((jx (eI z hz).1 x).1 (by rw[<-e];exact hx))⟩
 have aai: ∀ r∈N1,RgB w w r/\(aN r.1 w).length<=1/\(ay r.1 w).length<=1:=fun r hr=>by
  have h1:=(hB.rg r hr).1.rgB (n_ hw hv) (dV r hr);exact⟨⟨h1.nrm,(hB.rg r hr).2,h1.nn,h1.low,h1.high⟩,Fq (n_ hw hv) (hB.rg r hr).1 (hB.rg r hr).2⟩
 have Hp:=hB.q hw hv (Ne.symm jE);obtain⟨_,_,_,hC⟩:=hB.elim hw hv (Ne.symm jE);obtain⟨N2,hN2⟩:=aw (nrmL (elimO N1 w));have iJ: ∀ r∈N2,∀ t∈r.2,t.1=z8:=fun r hr t ht=>by
  rw[<-hN2] at hr;obtain⟨z,hz,u,hu,e⟩:=(yC (yw hw hv |> fun _=>yw hv hw) (fun x hx=>(Hp x hx).1) hr).2 t ht;rw[<-e];exact(Hp z hz).2 u hu
 have zn:=KM GU;have mP:=KM (fun r hr=>(aai r hr).1);have afG:Len8 (N2.flatMap (·.2)):=fun t ht=>by
  obtain⟨r,hr,ht⟩:=List.mem_flatMap.1 ht;rw[iJ r hr t ht];rfl
 rw[hN2] at hC;refine⟨polyS' N2,?_,cV afG,fun t ht=>?_,fun x=>?_,GU,?_,fun s hs=>?_⟩
 .unfold yn;have e1:yk iO M [(v:Int),(w:Int)]=(0,N2):=by
   rw[o9,FQ hv zn,if_pos rfl,hN1,o9,FQ hw mP,if_pos rfl,hN2,CT]
  rw[e1,if_pos rfl];unfold P9;rw[if_neg];have:N2.any (fun r=>!r.1.isEmpty)=false:=by
   rw[List.any_eq_false];intro r hr;rw[(hC.rg r hr).1];decide
  rw[this];decide
 .unfold polyS' at ht;obtain⟨u,hu,he⟩:=jV ht;obtain⟨r,hr,w7⟩:=List.mem_flatMap.1 hu;rw[<-he];exact iJ r hr u w7
 .unfold polyS';rw[FC,KN,<-hN2];have hrc:RcOk (((elimO N1 w).filter (fun r=>aZ r.1)).map (fun r=>(aV r.1,r.2))):=fun y hy=>by
   obtain⟨z,hz,rfl⟩:=mem_map.1 hy;have DL:=(mem_filter.1 hz).1;exact⟨fun f hf=>((TI ((Hp z DL).1.cst (yw hv hw))).1 f hf).1,(Hp z DL).1.can⟩
  have h1:=FA (TZ x) hrc;rw[pe] at h1;have h2: ∀ l:List RC,(∀ s∈l,∀ m∈s.1,m.length=9/\ ∀ i,i<8->co m i=0)->bt (fun a:RC=>ev a.2 x) (l.filter (fun r=>aZ r.1))=bt (Hc x) l:=fun l hl=>by
   induction l with
   | nil=>rfl
   | cons s l ih=>
    have ih:=ih (fun y hy=>hl y (mem_cons_of_mem _ hy));have hz:=T0 (hl s (by simp)) x;cases gA:aZ s.1 with
    | true=>rw[List.filter_cons_of_pos (by simp[gA]),bt,bt,ih,C0 (hz.2 gA)]
    | false=>
     rw[List.filter_cons_of_neg (by simp[gA]),bt,ih,C2 (fun h9=>by rw[hz.1 h9] at gA;cases gA)];grind
  have h3:=h2 (elimO N1 w) (fun s hs=>by
   obtain⟨r,hr,hs⟩:=List.mem_flatMap.1 hs;exact MI (aai r hr).1.len9 (hB.rg r hr).2 hs)
  refine(h1.trans h3).trans ?_;rw[Qw hw x aai,hT2]
 .match N2,hC with
  | [],_=>exact⟨KA,by simp[polyS',nf]⟩
  | [r],hC=>
   rw[tw (hC.nf.can r (by simp))];exact(hC.rg r (by simp)).2
  | _::_::_,hC=>have:=hC.len;simp at this
 refine⟨?_,fun x=>?_⟩
 .obtain⟨r,hr,B_⟩:=List.mem_flatMap.1 hs;exact KL (GU r hr).nn B_
 have hc:=eI s hs;cases gA:aZ s.1 with
 | false=>exact .inr (fun y hy=>by rw[(fh hc.1.cs.len9).2 ⟨_,hy⟩] at gA;cases gA)
 | true=>
  have Jq:=hq s hs;obtain⟨r,hr,B_⟩:=List.mem_flatMap.1 hs;have htw:Two w w s.1:=by
   have zD:=((h.rg r hr).q.pok (re hv hw) (by decide)).2;exact((i7 (re hv hw) jE Qd (h.rg r hr) zD).2 s B_).2.1
  have pE:=BB hc.1;have hci:=tA hc.1 gA;have hC2:=NrmC.of pE hci (vD hc.1);have eo:wa w (aV s.1):=by
   obtain⟨R,hR⟩:=hbd s hs;exact⟨R,fun x hx=>hR x ((jx hc.1 x).1 hx)⟩
  obtain⟨l1,l2⟩:=Qp hw (fun l hl=>(hC2.cn l hl).len) hC2 hci eo;have c_:=TY (s:=(aV s.1,s.2)) hw ⟨hC2,(nF Jq.ok (by decide) htw gA).2.1,Qq Jq.duo,l1,l2⟩ x;rcases c_ with⟨L,U,h1,h2⟩ | h1
  .exact .inl ⟨L,U,h1,fun y=>(jx hc.1 _).symm.trans (h2 y)⟩
  exact .inr (fun y hy=>h1 y ((jx hc.1 _).2 hy))
end Go.Proofs.YtjjbkjgifdhlcaaGreat
namespace Go.Pl
def YA (c:Rat) (P:List Pc):List Pc:=P.map (fun p=>⟨p.lo,p.hi,fun x=>c*p.F x,fun x=>c*p.f x⟩)
theorem Qx {c:Rat} {P:List Pc} (h: ∀ p∈P,p.Ok): ∀ p∈YA c P,p.Ok:=fun p hp=>by
 obtain⟨q,hq,rfl⟩:=mem_map.1 hp;exact⟨(h q hq).1,(h q hq).2.scale c⟩
theorem Qy (c:Rat): ∀ P:List Pc,ki (YA c P)=c*ki P
 | []=>by show(0:Rat)=c*0;grind
 | p::P=>by
  have ih:=Qy c P;unfold YA at ih ⊢;rw[map_cons,ki,ki,ih];grind
theorem Qz (c y:Rat): ∀ P:List Pc,ox y (YA c P)=c*ox y P
 | []=>by show(0:Rat)=c*0;grind
 | p::P=>by
  have ih:=Qz c y P;unfold YA at ih ⊢;rw[map_cons,ox,ox,ih];show(if p.lo<y/\y<p.hi then c*p.f y else 0)+_=_;split<;>grind
end Go.Pl
namespace Go.Proofs.YtjjbkjgifdhlcaaGreat
open Go.AM Go.Pl
set_option maxRecDepth 100000
set_option maxHeartbeats 4000000
theorem KP {P:List Tm} (h: ∀ t∈P,t.1=z8) (x:Nat->Rat) (m:Mn):bM m P=if m=z8 then ev P x else 0:=by
 induction P with
 | nil=>rw[bM];split<;>rfl
 | cons t P ih=>
  have ih:=ih (fun u hu=>h u (mem_cons_of_mem _ hu));have ht:=h t (by simp);rw[bM,ih,fO,ht,W8];by_cases hm:m=z8
  .rw[if_pos hm,if_pos hm];simp[hm]
  rw[if_neg hm,if_neg hm,if_neg (fun e=>hm e.symm)];grind
theorem YB {P Q:List Tm} (hP:Canon P) (hQ:Canon Q) (kP: ∀ t∈P,t.1=z8) (kQ: ∀ t∈Q,t.1=z8) (x:Nat->Rat) (h:ev P x=ev Q x):P=Q:=
 kz hP hQ (fun m=>by rw[KP kP x,KP kQ x,h])
end Go.Proofs.YtjjbkjgifdhlcaaGreat
namespace Go.Pl
open Go.AM
theorem YC {a b:Rat} (aH:a<b) {n:Nat} (hn:0<n): ∃ d:Rat,0<d/\d*(n:Rat)=b - a/\d<=b - a/\ ∀ C:Rat,C / (n:Rat)=C / (b - a)*d:=by
 have hm:=j9 hn;have h1n:(1:Rat)<=(n:Rat):=by
  have:=Rat.intCast_le_intCast.2 (show(1:Int)<=(n:Int) by omega);rwa [Rat.intCast_natCast] at this
 obtain⟨d,hd⟩:=Hs ((b - a) / (n:Rat));have Jc:d*(n:Rat)=b - a:=by rw[<-hd];generalize (n:Rat)=m at*;grind
 have gg:0<d:=by
  apply Classical.byContradiction;intro hc;have:d*(n:Rat)<=0*(n:Rat):=Rat.mul_le_mul_of_nonneg_right (by grind) (by grind);grind
 refine⟨d,gg,Jc,?_,fun C=>?_⟩
 .have:d*1<=d*(n:Rat):=Rat.mul_le_mul_of_nonneg_left h1n (by grind);grind
 rw[<-Jc];generalize (n:Rat)=m at*;grind
theorem C4 {x k:Rat} (h: ∀ n:Nat,0<n->x<=k / n):x<=0:=adH (k:=k) (fun n hn=>by
 have h1:=h n hn;have h2:=j9 hn;generalize (n:Rat)=m at*;have h3:x*m<=k / m*m:=Rat.mul_le_mul_of_nonneg_right h1 (by grind);have h4:k / m*m=k:=by grind
 grind)
theorem up0 {D:Rat->Rat} {a b C:Rat} (rv:a<=b) (h: ∀ s t,a<=s->s<t->t<=b->D s - D t<=C*((t - s)*(t - s))):D a<=D b:=by
 rcases(by grind:a=b\/a<b) with he | aH
 .rw[he];exact Rat.le_refl
 have hz:=C4 (x:=D a - D b) (k:=C*((b - a)*(b - a))) (fun n hn=>by
  obtain⟨d,gg,Jc,_,_⟩:=YC aH hn;have hm:=j9 hn;have key: ∀ i:Nat,i<=n->D a - D (a+(i:Rat)*d)<=(i:Rat)*(C*(d*d)):=fun i=>by
   induction i with
   | zero=>
    intro _;have:((0:Nat):Rat)=0:=rfl;rw[this];have e1:a+0*d=a:=by grind
    rw[e1];grind
   | succ i ih=>
    intro hi;have h1:=ih (by omega);have dR:((i+1:Nat):Rat)<=(n:Rat):=by
     have:=Rat.intCast_le_intCast.2 (show((i+1:Nat):Int)<=(n:Int) by omega);rwa [Rat.intCast_natCast,Rat.intCast_natCast] at this
    have sC:(0:Rat)<=(i:Rat):=by
     have:=Rat.intCast_le_intCast.2 (show(0:Int)<=(i:Int) by omega);rwa [Rat.intCast_natCast] at this
    rw[pd i] at dR ⊢;have p1:0<=(i:Rat)*d:=Rat.mul_nonneg sC (by grind);have p2:((i:Rat)+1)*d<=(n:Rat)*d:=Rat.mul_le_mul_of_nonneg_right dR (by grind);have h2:=h (a+(i:Rat)*d) (a+((i:Rat)+1)*d) (by grind) (by grind) (by grind);have e3:a+((i:Rat)+1)*d - (a+(i:Rat)*d)=d:=by grind
    rw[e3] at h2;grind
  have h3:=key n (qp n);have e4:a+(n:Rat)*d=b:=by grind
  rw[e4] at h3;generalize (n:Rat)=m at*;have e5:C*((b - a)*(b - a)) / m=m*(C*(d*d)):=by rw[<-Jc];grind
  rw[e5];exact h3)
 grind
theorem upE {D:Rat->Rat} {C K:Rat}: ∀ (E:List Rat) {a b:Rat},a<=b->(∀ s t,a<=s->s<t->t<=b->(∀ e∈E,¬(s<=e/\e<=t))->D s - D t<=C*((t - s)*(t - s)))->
 (∀ s t,a<=s->s<=t->t<=b->D s - D t<=K*(t - s))->D a<=D b
 | [],a,b,rv,h,_=>up0 rv (fun s t h1 h2 h3=>h s t h1 h2 h3 (by simp))
 | e::E,a,b,rv,h,hK=>by
  by_cases he:a<=e/\e<=b
  .obtain⟨h1,h2⟩:=he;have hl:D a<=D e:=by
    rcases(by grind:a=e\/a<e) with h0 | h0
    .rw[h0];exact Rat.le_refl
    have hz:=C4 (x:=D a - D e) (k:=K*(e - a)) (fun n hn=>by
     obtain⟨d,gg,Jc,Zg,hC⟩:=YC h0 hn;have hc:=upE E (a:=a) (b:=e - d) (by grind) (fun s t g1 g2 g3 g4=>h s t g1 g2 (by grind) (fun x hx=>by
      rcases List.mem_cons.1 hx with h9 | h9
      .subst h9;grind
      exact g4 x h9)) (fun s t g1 g2 g3=>hK s t g1 g2 (by grind))
     have hk:=hK (e - d) e (by grind) (by grind) h2;rw[hC];have e5:K*(e - a) / (e - a)*d=K*d:=by grind
     rw[e5];grind)
    grind
   have hr:D e<=D b:=by
    rcases(by grind:e=b\/e<b) with h0 | h0
    .rw[h0];exact Rat.le_refl
    have hz:=C4 (x:=D e - D b) (k:=K*(b - e)) (fun n hn=>by
     obtain⟨d,gg,Jc,Zg,hC⟩:=YC h0 hn;have hc:=upE E (a:=e+d) (b:=b) (by grind) (fun s t g1 g2 g3 g4=>h s t (by grind) g2 g3 (fun x hx=>by
      rcases List.mem_cons.1 hx with h9 | h9
      .subst h9;grind
      exact g4 x h9)) (fun s t g1 g2 g3=>hK s t (by grind) g2 g3)
     have hk:=hK e (e+d) h1 (by grind) (by grind);rw[hC];have e5:K*(b - e) / (b - e)*d=K*d:=by grind
     rw[e5];grind)
    grind
   grind
  exact upE E rv (fun s t g1 g2 g3 g4=>h s t g1 g2 g3 (fun x hx=>by
   rcases List.mem_cons.1 hx with h9 | h9
   .subst h9;grind
   exact g4 x h9)) hK
theorem MJ (L:List Pc) (hl: ∀ p∈L,p.Ok) (Z:List Rat) (h: ∀ y,y∉Z->0<=ox y L):0<=ki L:=by
 obtain⟨R,hR,hb⟩:=tE L;obtain⟨C,hC,hn⟩:=tD hR L (fun p hp=>⟨hl p hp,hb p hp⟩);have hf:=upE (D:=fun t=>mS t L) (C:=C) (K:=C) (Z++(L.map Pc.lo++L.map Pc.hi)) (a:= -R) (b:=R) (by grind) (fun s t h1 h2 h3 h4=>by
  have h5:=(hn s t h1 (by grind) h3).1 (fun p hp=>⟨h4 p.lo (by simp only[qr,mem_map];exact .inr (.inl ⟨p,hp,rfl⟩)),h4 p.hi (by simp only[qr,mem_map];exact .inr (.inr ⟨p,hp,rfl⟩))⟩);have h6:0<=ox s L:=h s (fun hs=>h4 s (List.mem_append_left _ hs) ⟨by grind,by grind⟩);have h7:=Rat.mul_nonneg (a:=t - s) (b:=ox s L) (by grind) h6;have h8:=h5.2;show mS s L - mS t L<=_;grind) (fun s t h1 h2 h3=>(hn s t h1 h2 h3).2.2)
 have key: ∀ M:List Pc,(∀ p∈M,p.Ok/\ -R<=p.lo/\p.hi<=R)->mS R M - mS (-R) M=ki M:=fun M=>by
  induction M with
  | nil=>intro _;unfold mS ki;grind
  | cons p M ih=>
   intro hM;have i1:=ih (fun x hx=>hM x (mem_cons_of_mem _ hx));obtain⟨⟨q1,_⟩,q2,q3⟩:=hM p (by simp);have c1:ia p.lo p.hi R=p.hi:=by
    unfold ia;split<;>grind
   have c2:ia p.lo p.hi (-R)=p.lo:=by unfold ia;rw[if_pos (by grind)]
   unfold mS ki;rw[c1,c2];grind
 have:=key L (fun p hp=>⟨hl p hp,hb p hp⟩);have hf2:mS (-R) L<=mS R L:=hf;grind
def Slu (F f:Rat->Rat->Rat):Prop:= ∀ R:Rat,∃ C:Rat,0<=C/\ ∀ y s t,-R<=y->y<=R-> -R<=s->s<=R-> -R<=t->t<=R->Nr (f y s) 0 C/\Nr (F y t) (F y s+(t - s)*f y s) (C*((t - s)*(t - s)))
theorem Slu.of {F f:Rat->Rat} (h:Slp F f):Slu (fun _=>F) (fun _=>f):=fun R=>by
 obtain⟨C,hC,h⟩:=h R;exact⟨C,hC,fun y s t _ _ h1 h2 h3 h4=>h s t h1 h2 h3 h4⟩
theorem Slu.add {F f G g:Rat->Rat->Rat} (h:Slu F f) (k:Slu G g):Slu (fun y x=>F y x+G y x) (fun y x=>f y x+g y x):=fun R=>by
 obtain⟨C,hC,h⟩:=h R;obtain⟨D,hD,k⟩:=k R;refine⟨C+D,by grind,fun y s t g1 g2 h1 h2 h3 h4=>?_⟩;obtain⟨a1,a2⟩:=h y s t g1 g2 h1 h2 h3 h4;obtain⟨b1,b2⟩:=k y s t g1 g2 h1 h2 h3 h4;generalize (t - s)*(t - s)=q at*;constructor
 .unfold Nr at*;grind
 have e1:(C+D)*q=C*q+D*q:=by grind
 rw[e1];unfold Nr at*;grind
def Bnd (b:Rat->Rat):Prop:= ∀ R:Rat,∃ B:Rat,0<=B/\ ∀ y,-R<=y->y<=R->Nr (b y) 0 B
theorem Bnd.const (c:Rat):Bnd (fun _=>c):=fun R=>by
 rcases(by grind:0<=c\/c<=0) with h | h
 .exact⟨c,h,fun y _ _=>by unfold Nr;grind⟩
 exact⟨-c,by grind,fun y _ _=>by unfold Nr;grind⟩
theorem Bnd.mul {a b:Rat->Rat} (ha:Bnd a) (hb:Bnd b):Bnd (fun y=>a y*b y):=fun R=>by
 obtain⟨A,hA,h1⟩:=ha R;obtain⟨B,hB,h2⟩:=hb R;exact⟨A*B,Rat.mul_nonneg hA hB,fun y g1 g2=>gM (h1 y g1 g2) (h2 y g1 g2) hA hB⟩
theorem Bnd.id:Bnd (fun y=>y):=fun R=>by
 rcases(by grind:0<=R\/R<0) with h | h
 .exact⟨R,h,fun y g1 g2=>by unfold Nr;constructor<;>grind⟩
 exact⟨0,by grind,fun y g1 g2=>by exfalso;grind⟩
theorem Bnd.pow: ∀ k:Nat,Bnd (fun y=>y^k)
 | 0=>by
  have:(fun y:Rat=>y^0)=fun _=>1:=by funext y;exact Rat.pow_zero y
  rw[this];exact Bnd.const 1
 | k+1=>by
  have:(fun y:Rat=>y^(k+1))=fun y=>y^k*y:=by funext y;rw[Rat.pow_succ]
  rw[this];exact(Bnd.pow k).mul Bnd.id
theorem Slu.mul {F f:Rat->Rat->Rat} {b:Rat->Rat} (hb:Bnd b) (h:Slu F f):Slu (fun y x=>b y*F y x) (fun y x=>b y*f y x):=fun R=>by
 obtain⟨C,hC,h⟩:=h R;obtain⟨B,hB,hb⟩:=hb R;refine⟨B*C,Rat.mul_nonneg hB hC,fun y s t g1 g2 h1 h2 h3 h4=>?_⟩;obtain⟨a1,a2⟩:=h y s t g1 g2 h1 h2 h3 h4;have R7:=hb y g1 g2;have hq:=g7 (t - s);refine⟨gM R7 a1 hB hC,?_⟩;have h5:Nr (F y t - (F y s+(t - s)*f y s)) 0 (C*((t - s)*(t - s))):=by unfold Nr at*;constructor<;>grind
 have h6:=gM R7 h5 hB (Rat.mul_nonneg hC hq);generalize (t - s)*(t - s)=q at*;have e1:b y*(F y t - (F y s+(t - s)*f y s))=b y*F y t - (b y*F y s+(t - s)*(b y*f y s)):=by grind
 have e2:B*(C*q)=B*C*q:=by grind
 rw[e1,e2] at h6;unfold Nr at*;constructor<;>grind
theorem Slu.congr {F f G g:Rat->Rat->Rat} (h:Slu F f) (e1: ∀ y x,F y x=G y x) (e2: ∀ y x,f y x=g y x):Slu G g:=by
 have h1:F=G:=funext fun y=>funext fun x=>e1 y x
 have h2:f=g:=funext fun y=>funext fun x=>e2 y x
 rwa [h1,h2] at h
theorem YD {m:Mn} {x:Nat->Rat} {w:Nat} (hm:m.length=8) (hw:w<8):Bnd (fun y=>mv m (upd x w y)):=by
 have:(fun y=>mv m (upd x w y))=fun y=>y^(m.getD w 0).toNat*mv (m.set w 0) x:=funext fun y=>yy hm hw
 rw[this];exact(Bnd.pow _).mul (Bnd.const _)
theorem Slu.prim {v w:Nat} {x:Nat->Rat} (hv:v<8) (hw:w<8): ∀ {p:List Tm},NN p->Slu (fun y s=>ev (aU v p) (upd (upd x w y) v s)) (fun y s=>ev p (upd (upd x w y) v s))
 | [],_=>Slu.of Slp.zero
 | t::p,hp=>by
  have ih:=Slu.prim (x:=x) hv hw (p:=p) (fun u hu=>hp u (mem_cons_of_mem _ hu));obtain⟨a1,a2⟩:=hp t (by simp);have h0:=a2 v hv;obtain⟨k,hk⟩: ∃ k:Nat,t.1.getD v 0=(k:Int):=⟨_,(Int.toNat_of_nonneg h0).symm⟩;have hb:=YD (m:=t.1.set v 0) (x:=x) (by rw[length_set];exact a1) hw;refine((((Slu.of ((Slp.pow k).scale (t.2 / ((k:Rat)+1)))).mul hb)).add ih).congr (fun y s=>?_) (fun y s=>?_)
  .unfold aU;rw[map_cons,fO];show _=t.2 / _*mv (t.1.set v _) (upd (upd x w y) v s)+_;rw[hk,Qn a1 hv,show((k:Int)+1).toNat=k+1 by omega,Rat.intCast_natCast];grind
  rw[fO,yy a1 hv,hk,Int.toNat_natCast];have:(k:Rat)+1≠0:=by
   have:=j9 (show 0<k+1 by omega);rw[pd] at this;grind
  grind
theorem QA {k:List (List Raw)} (h9: ∀ l∈k,l.length=9) (x:Nat->Rat):In k x↔iX (ncs k) x/\ ∀ l∈k,aO l->0<=co l 8:=by
 constructor
 .intro h;refine⟨fun l hl=>?_,fun l hl hc=>?_⟩
  .obtain⟨h1,h2⟩:=(jh h9).1 hl;rcases h l h1 with h3 | h3
   .exact h3
   exact absurd h3.1 h2
  have h1:=h l hl;rw[d_ hc] at h1;rcases h1 with h1 | h1
  .grind
  have:=h1.2;grind
 rintro⟨h1,h2⟩ l hl;by_cases hc:aO l
 .have h3:=h2 l hl hc;rw[d_ hc];rcases(by grind:0<co l 8\/co l 8=0) with h4 | h4
  .exact .inl h4
  exact .inr ⟨hc,h4⟩
 exact .inl (h1 l ((jh h9).2 ⟨hl,hc⟩))
theorem QB {w:Nat} {k:List (List Raw)} (hw:w<8) (h9: ∀ l∈k,l.length=9) (h1: ∀ l∈k,∀ i,i<8->i≠w->co l i=0) (hb:wa w k) (x:Nat->Rat):
 (∃ L U,L<U/\ ∀ y,In k (upd x w y)↔L<y/\y<U)\/ ∀ y,¬In k (upd x w y):=by
 by_cases qZ: ∃ y,In k (upd x w y)
 .obtain⟨y0,tS⟩:=qZ
  obtain⟨p0,c0⟩:=(QA h9 _).1 tS
  have n9: ∀ l∈ncs k,l.length=9:=fun l hl=>h9 l ((jh h9).1 hl).1
  have eW: ∀ z,iX (dT (ncs k) w) z:=fun z l hl=>by
   obtain⟨h2,h3⟩:=fX.1 hl;obtain⟨h4,h5⟩:=(jh h9).1 h2;exact absurd (fun i hi=>by
    by_cases e:i=w
    .rw[e];exact h3
    exact h1 l h4 i hi e) h5
  have G5: ∀ y,In k (upd x w y)↔(∀ l∈aN (ncs k) w,aF l x<y)/\ ∀ u∈ay (ncs k) w,y<aF u x:=fun y=>by
   rw[QA h9,jj hw n9];exact⟨fun h=>h.1.2,fun h=>⟨⟨eW x,h⟩,c0⟩⟩
  obtain⟨R,hR⟩:=hb
  have q0:=(G5 y0).1 tS
  have r0:=hR _ tS
  rw[i4] at r0
  have hl:aN (ncs k) w≠[]:=fun hn=>by
   have:=hR _ ((G5 (-R - 1)).2 ⟨by rw[hn];simp,fun u hu=>by have:=q0.2 u hu;grind⟩);rw[i4] at this;grind
  have hh:ay (ncs k) w≠[]:=fun hn=>by
   have:=hR _ ((G5 (R+1)).2 ⟨fun u hu=>by have:=q0.1 u hu;grind,by rw[hn];simp⟩);rw[i4] at this;grind
  obtain⟨i,hi,wz⟩:=nH (fun k'=>aF ((aN (ncs k) w).getD k' []) x) _ (length_pos_iff.2 hl)
  obtain⟨j,hj,vj⟩:=nH (fun k'=> -aF ((ay (ncs k) w).getD k' []) x) _ (length_pos_iff.2 hh)
  have ml: ∀ {B:List (List Raw)} {n:Nat},n<B.length->B.getD n []∈B:=fun{B n} hn=>by
   rw[qa,qb hn];exact kj hn
  refine .inl ⟨aF ((aN (ncs k) w).getD i []) x,aF ((ay (ncs k) w).getD j []) x,?_,fun y=>?_⟩
  .have a:=q0.1 _ (ml hi)
   have b:=q0.2 _ (ml hj)
   grind
  rw[G5]
  constructor
  .rintro⟨a,b⟩
   exact⟨a _ (ml hi),b _ (ml hj)⟩
  rintro⟨a,b⟩
  refine⟨fun l hl=>?_,fun u hu=>?_⟩
  .obtain⟨q,hq,rfl⟩:=mem_iff_getElem.1 hl
   have:=wz q hq
   rw[qa,qb hq] at this
   simp only[Option.getD_some] at this
   grind
  obtain⟨q,hq,rfl⟩:=mem_iff_getElem.1 hu
  have:=vj q hq
  rw[qa,qb hq] at this
  simp only[Option.getD_some] at this
  grind
 exact .inr (fun y hy=>qZ ⟨y,hy⟩)
theorem QC {S:Rat->Prop} {G:Rat->Rat} {L U:Rat} (h:L<U) (hS: ∀ t,S t↔L<t/\t<U) (a:Rat):Fib (fun t=>S t/\t<a) G (G (ia L U a) - G L):=by
 unfold ia;split
 .next h1=>exact .inr ⟨fun t ht=>by dsimp only at ht;rw[hS] at ht;grind,by grind⟩
 next h1=>
 split
 .next h2=>exact .inl ⟨L,U,h,fun t=>by dsimp only;rw[hS];constructor<;>(intro _;grind),rfl⟩
 next h2=>exact .inl ⟨L,a,by grind,fun t=>by dsimp only;rw[hS];constructor<;>(intro _;grind),rfl⟩
def YE (a b k:Rat):Pc:=⟨a,b,fun y=>k*y,fun _=>k⟩
theorem C5 {a b k:Rat} (h:a<=b):(YE a b k).Ok:=by
 refine⟨h,?_⟩;refine(((Slp.const 1).mulx).scale k).congr (fun x=>?_) (fun x=>?_)
 .show k*(x*1)=k*x;grind
 show k*(1+x*0)=k;grind
theorem KR (a b k:Rat):ki [YE a b k]=k*(b - a):=by
 show k*b - k*a+0=_;grind
theorem FT {a b k y:Rat}:ox y [YE a b k]=if a<y/\y<b then k else 0:=by
 show(if a<y/\y<b then k else 0)+0=_;grind
end Go.Pl
namespace Go.Proofs.YtjjbkjgifdhlcaaGreat
open Go.AM Go.Pl
set_option maxRecDepth 100000
set_option maxHeartbeats 4000000
theorem yD {x:Nat->Rat} {v w:Nat} {a b:Rat} (h:v≠w):upd (upd x v a) w b=upd (upd x w b) v a:=by
 funext i;unfold upd;by_cases h1:i=w
 .rw[if_pos h1,if_neg (fun e=>h (e.symm.trans h1)),if_pos h1]
 rw[if_neg h1];by_cases h2:i=v
 .rw[if_pos h2,if_pos h2]
 rw[if_neg h2,if_neg h2,if_neg h1]
theorem FU {v w:Nat} {c:Kc} {p:List Tm} {s:RC} (h9: ∀ l∈c,l.length=9) (h2:Two v w c) (hs:s∈eU c p v): ∀ l∈s.1,l.length=9/\ ∀ i,i<8->i≠w->co l i=0:=by
 obtain⟨i,j,hi,hj,_,rfl⟩:=qG hs;obtain⟨b1,b2⟩:=Io h9 h2;have lz: ∀ k,k<(aN c v).length->((aN c v).getD k []).length=9/\ ∀ i,i<8->i≠w->co ((aN c v).getD k []) i=0:=fun k hk=>by
  have hm:=ba (ls:=aN c v) hk;refine⟨?_,b1 _ hm⟩;obtain⟨r,hr,_,e⟩:=ec.1 hm;rw[e];exact cj (h9 r hr)
 have uz: ∀ k,k<(ay c v).length->((ay c v).getD k []).length=9/\ ∀ i,i<8->i≠w->co ((ay c v).getD k []) i=0:=fun k hk=>by
  have hm:=ba (ls:=ay c v) hk;refine⟨?_,b2 _ hm⟩;obtain⟨r,hr,_,e⟩:=dD.1 hm;rw[e];exact cj (h9 r hr)
 have cz: ∀ a b:List Raw,(a.length=9/\ ∀ i,i<8->i≠w->co a i=0)->(b.length=9/\ ∀ i,i<8->i≠w->co b i=0)->(cu a b).length=9/\ ∀ i,i<8->i≠w->co (cu a b) i=0:=fun a b ha hb=>
  ⟨fW ha.1 hb.1,fun i hi cM=>by rw[kY ha.1 hb.1 (by omega),ha.2 i hi cM,hb.2 i hi cM];grind⟩
 intro m hm;unfold gZ at hm;rcases List.mem_append.1 hm with hm | hm
 .rcases List.mem_append.1 hm with hm | hm
  .rcases List.mem_append.1 hm with hm | hm
   .obtain⟨h1,h3⟩:=fX.1 hm;refine⟨h9 m h1,fun i hi cM=>?_⟩;by_cases e:i=v
    .rw[e];exact h3
    exact h2 m h1 i hi e cM
   rw[qz] at hm;rw[hm];exact cz _ _ (uz j hj) (lz i hi)
  obtain⟨k,hk,cM,rfl⟩:=jk.1 hm;exact cz _ _ (lz i hi) (lz k hk)
 obtain⟨k,hk,cM,rfl⟩:=jk.1 hm;exact cz _ _ (uz k hk) (uz j hj)
theorem k9 {v w:Nat} {r:RC} (hv:v<8) (hw:w<8) (jE:v≠w) (h:RgB v w r) (hb:wa w r.1) (x:Nat->Rat):
 ∃ (P:List Pc) (Z:List Rat),(∀ p∈P,p.Ok)/\ki P=bt (fun s:RC=>T2 w x s.1 s.2) (eU r.1 r.2 v)/\ ∀ y,y∉Z->ox y P=T2 v (upd x w y) r.1 r.2:=by
 obtain⟨Q,q1,q2,q3⟩:=Qt (w:=w) (x:=x) hw (N:=eU r.1 r.2 v) (Hc:=fun y s=>Hc (upd x w y) s) (fun y s hs=>C0 hs) (fun y s hs=>C2 hs) (fun s hs=>⟨KL h.nn hs,
  QB hw (fun l hl=>(FU h.len9 h.two hs l hl).1) (fun l hl=>(FU h.len9 h.two hs l hl).2) (FP hv jE h hb hs) x⟩)
 obtain⟨Z,hz⟩:=TX hv hw h
 exact⟨Q,Z,q1,q3,fun y hy=>by rw[q2 y];exact hz (upd x w y) (by rw[i4];exact hy)⟩
theorem KS {v w:Nat} {r:RC} (hv:v<8) (h:RgB v w r) (z:Nat->Rat):
 (∃ L U,L<U/\(∀ s,In r.1 (upd z v s)↔L<s/\s<U)/\(∃ b∈aN r.1 v++ay r.1 v,aF b z=L)/\ ∃ b∈aN r.1 v++ay r.1 v,aF b z=U)\/ ∀ s,¬In r.1 (upd z v s):=by
 have n0:0<(aN r.1 v).length:=length_pos_iff.2 h.low
 have m0:0<(ay r.1 v).length:=length_pos_iff.2 h.high
 obtain⟨i,hi,wz⟩:=nH (fun k=>aF ((aN r.1 v).getD k []) z) _ n0
 obtain⟨j,hj,vj⟩:=nH (fun k=> -aF ((ay r.1 v).getD k []) z) _ m0
 by_cases hp:iX (dT r.1 v) z/\aF ((aN r.1 v).getD i []) z<aF ((ay r.1 v).getD j []) z
 .refine .inl ⟨_,_,hp.2,fun y=>?_,⟨_,List.mem_append_left _ (ba hi),rfl⟩,⟨_,List.mem_append_right _ (ba hj),rfl⟩⟩
  rw[h.nrm.in_pos,jj hv h.len9]
  constructor
  .rintro⟨_,b,d⟩
   exact⟨b _ (ba hi),d _ (ba hj)⟩
  rintro⟨b,d⟩
  refine⟨hp.1,fun l hl=>?_,fun u hu=>?_⟩
  .obtain⟨k,hk,rfl⟩:=mem_iff_getElem.1 hl
   have:=wz k hk
   rw[qa,qb hk] at this
   simp only[Option.getD_some] at this
   grind
  obtain⟨k,hk,rfl⟩:=mem_iff_getElem.1 hu
  have:=vj k hk
  rw[qa,qb hk] at this
  simp only[Option.getD_some] at this
  grind
 refine .inr (fun y hy=>hp ?_)
 rw[h.nrm.in_pos,jj hv h.len9] at hy
 obtain⟨a,b,d⟩:=hy
 refine⟨a,?_⟩
 have:=b _ (ba hi)
 have:=d _ (ba hj)
 grind
def jJ (v:Nat) (t:Rat):List Raw:=((replicate 9 (cn 0)).set v (cn (-1))).set 8 (cn t)
theorem qH {v i:Nat} {t:Rat} (hv:v<8) (hi:i<9):co (jJ v t) i=if i=8 then t else if i=v then -1 else 0:=by
 unfold jJ;by_cases h8:i=8
 .rw[if_pos h8,h8];unfold co;rw[qa,qv (by simp)];exact cQ t
 rw[if_neg h8];have e:co (((replicate 9 (cn 0)).set v (cn (-1))).set 8 (cn t)) i=co ((replicate 9 (cn 0)).set v (cn (-1))) i:=by
  unfold co;rw[qa,qm (Ne.symm h8),<-qa]
 rw[e];exact H7 (by omega) hi
theorem FW (v:Nat) (t:Rat):(jJ v t).length=9:=by unfold jJ;simp
theorem yE {v:Nat} {t:Rat} (hv:v<8) (x:Nat->Rat):aF (jJ v t) x=t - x v:=by
 rw[nI hv (fun i hi cM=>by rw[qH hv (by omega),if_neg (by omega),if_neg cM]),qH hv (by omega),if_pos rfl,qH hv (by omega),if_neg (by omega),if_pos rfl];grind
theorem KT (v:Nat) (t:Rat):IsCn (jJ v t):=⟨((replicate 9 (0:Rat)).set v (-1)).set 8 t,by unfold jJ;rw[List.map_set,List.map_set,List.map_replicate],by simp⟩
def oS (s:Int) (a b:List Raw):List Raw:=if s=1 then cu a b else cu b a
set_option maxHeartbeats 8000000
def adJ (rest lo hi:List (List Raw)) (i j:Nat):List (List Raw):=
 rest++lQ (oS 1 (lo.getD i [])) lo i lo.length++lQ (oS (-1) (hi.getD j [])) hi j hi.length++[cu (hi.getD j []) (lo.getD i [])]
def aif (rest lo hi:List (List Raw)) (p:List Tm) (v i n:Nat):List RC:=
 (List.range n).map fun j=>(adJ rest lo hi i j,betT v (lo.getD i []) (hi.getD j []) p)
def aih (rest lo hi:List (List Raw)) (p:List Tm) (v n:Nat):List RC:=(List.range n).flatMap fun i=>aif rest lo hi p v i hi.length
def aii (c:Kc) (p:List Tm) (v:Nat):List RC:=aih (dT c v) (aN c v) (ay c v) p v (aN c v).length
structure adK (c:Kc) (p:List Tm) (v:Nat):Prop where
 hv:v<8
 ok: ∀ l∈c,LOk 499 l
 cn: ∀ l∈c,IsCn l
 len:c.length<=40
 bet: ∀ l∈aN c v,∀ u∈ay c v,Den Tryz.prog 88 [] [PL (p.map tn),.int .i64 v,RL l,RL u] [] (PL ((betT v l u p).map tn))
structure amW (l:List RR):Prop where
 len:l.length<=1000000
 cons: ∀ r∈l,r.1.length<=1000000
 poly: ∀ r∈l,(∀ t∈r.2,t.1.length=8)/\r.2.length<=1000000000000
structure amX (M:List RC):Prop where
 key: ∀ x∈M,AOk 1000000000 x.1/\x.1.length<=1000
 pol: ∀ x∈M,Len8 x.2/\x.2.length<=1000000/\(∀ t∈x.2,∀ e∈t.1,-1000000000000<=e/\e<=1000000000000)
 len:M.length<=1000000
structure amY (L:List RR):Prop where
 nr:MF L
 lim40: ∀ r∈L,r.1.length<=40
def elimR (M:List RC) (v:Nat):List RC:=M.flatMap (fun r=>aii r.1 r.2 v)
end Go.Proofs.YtjjbkjgifdhlcaaGreat
