/- Plain:canonical lists in two variables:the bounds of a variable are different but at finitely many places;bounded regions have bounds. -/
import Derived.Test.YtjjbkjgifdhlcaaGreatT17
import Derived.Test.YtjjbkjgifdhlcaaGreatT15
import Derived.Test.YtjjbkjgifdhlcaaGreatT16
import Derived.Test.YtjjbkjgifdhlcaaGreatT1
set_option linter.all false
open List (length_map length_pos_iff map_cons mem_cons_of_mem mem_filter mem_iff_getElem mem_map replicate)
namespace Go.Pl
open Go.AM
structure NrmC (c:List (List Raw)):Prop where
 cn: ∀ l∈c,IsCn l
 nm: ∀ l∈c,eL l=l
 nc: ∀ l∈c,¬aN l
 nd:c.Nodup
theorem NrmC.of {c:List (List Raw)} (h:D3 c) (hi:aZ c=true) (he:aU c=c):NrmC c:=by
 have h9:=h.cs.len9;have Jm:=iD h9;have gR:c.Sublist (sysL c []):=by
  have h1:aU c=jq (sysL c []).length 0 (sysL c []):=by unfold aU;rw[if_pos hi]
  rw[he] at h1;have h2:=mD (sysL c []).length 0 (sysL c []);rw[<-h1] at h2;exact h2
 have bm: ∀ l∈c,∃ m∈c,¬aN m/\l=eL m:=fun l hl=>(Jm.mem l).1 (gR.subset hl)
 refine⟨fun l hl=>?_,fun l hl=>h.good.nm l (gR.subset hl),fun l hl=>?_,?_⟩
 .obtain⟨m,hm,_,rfl⟩:=bm l hl;exact jR (h9 m hm)
 .obtain⟨m,hm,hn,rfl⟩:=bm l hl;exact rV (h9 m hm) hn
 refine List.Nodup.sublist gR ?_;refine List.Pairwise.imp ?_ Jm.sorted;intro a b vo he;rw[he] at vo;have:=dM b b;omega
theorem NrmC.in_pos {c:List (List Raw)} (h:NrmC c) (x:Nat->Rat):In c x↔jd c x:=by
 constructor
 .intro hx l hl;rcases hx l hl with h1 | h1
  .exact h1
  exact absurd h1.1 (h.nc l hl)
 intro hx l hl;exact .inl (hx l hl)
theorem TM {v:Nat} {l m:List Raw} (hv:v<8) (cl:IsCn l) (cm:IsCn m) (nl:eL l=l) (nm:eL m=m) (hl: ¬aN l) (hm: ¬aN m) (hs:0<co l v/\0<co m v\/co l v<0/\co m v<0)
 (h: ∀ i,i<9->co (bZ v l) i=co (bZ v m) i):m=l:=by
 have Lp:co l v≠0:=by grind
 have zr:co m v≠0:=by grind
 have b1:=(dA cl.len Lp).2
 have b2:=(dA cm.len zr).2
 refine Ky cl cm nl nm hl hm (c:=co m v / co l v) ?_ (fun i hi=>?_)
 .have key: ∀ a b:Rat,0<a->0<b->0<b / a:=fun a b ha hb=>by
   apply Classical.byContradiction;intro hc;have:=Rat.mul_le_mul_of_nonneg_right (a:=b / a) (b:=0) (c:=a) (by grind) (by grind);have e:b / a*a=b:=by grind
   grind
  rcases hs with⟨h1,h2⟩ | ⟨h1,h2⟩
  .exact key _ _ h1 h2
  have:=key (-co l v) (-co m v) (by grind) (by grind)
  have e: -co m v / -co l v=co m v / co l v:=by grind
  rwa [e] at this
 have h1:=h i hi
 rw[b1 i hi,b2 i hi] at h1
 by_cases e:v=i
 .subst e;grind
 rw[if_neg e,if_neg e] at h1
 have e1:co l i*(-1 / co l v)*(co l v*co m v)= -(co l i*co m v):=by grind
 have e2:co m i*(-1 / co m v)*(co l v*co m v)= -(co m i*co l v):=by grind
 have e3:co l i*co m v=co m i*co l v:=by
  have:co l i*(-1 / co l v)*(co l v*co m v)=co m i*(-1 / co m v)*(co l v*co m v):=by rw[h1]
  grind
 grind
theorem tE {v i:Nat} {F:List (List Raw)} (h:i<F.length):(F.map (bZ v)).getD i []=bZ v (F.getD i []):=by
 simp[qa,h]
def Dif (B:List (List Raw)):Prop:= ∀ i k,i<B.length->k<B.length->i≠k-> ∃ q,q<9/\co (B.getD i []) q≠co (B.getD k []) q
theorem KP {c:List (List Raw)} {v:Nat} {f:List Raw->Bool} (hv:v<8) (h:NrmC c) (hf: ∀ l m,f l=true->f m=true->0<co l v/\0<co m v\/co l v<0/\co m v<0):Dif ((c.filter f).map (bZ v)):=by
 intro i k hi hk cX;rw[length_map] at hi hk;apply Classical.byContradiction;intro hc;have mb:(c.filter f).Nodup:=h.nd.sublist List.filter_sublist;have mi:(c.filter f).getD i []∈c.filter f:=by rw[qa,qb hi];exact ki hi
 have mk:(c.filter f).getD k []∈c.filter f:=by rw[qa,qb hk];exact ki hk
 obtain⟨mi1,mi2⟩:=mem_filter.1 mi;obtain⟨mk1,mk2⟩:=mem_filter.1 mk;have he:=TM hv (h.cn _ mi1) (h.cn _ mk1) (h.nm _ mi1) (h.nm _ mk1) (h.nc _ mi1) (h.nc _ mk1) (hf _ _ mi2 mk2) (fun q hq=>by
  apply Classical.byContradiction;intro h9;exact hc ⟨q,hq,by rw[tE hi,tE hk];exact h9⟩)
 have e1:(c.filter f).getD i []=(c.filter f)[i]:=by rw[qa,qb hi];rfl
 have e2:(c.filter f).getD k []=(c.filter f)[k]:=by rw[qa,qb hk];rfl
 rw[e1,e2] at he;exact cX ((List.getElem_inj mb).1 he.symm)
theorem TN {c:List (List Raw)} {v:Nat} (hv:v<8) (h:NrmC c):Dif (aR c v):=KP hv h (fun l m h1 h2=> .inl ⟨of_decide_eq_true h1,of_decide_eq_true h2⟩)
theorem Qu {c:List (List Raw)} {v:Nat} (hv:v<8) (h:NrmC c):Dif (aE c v):=KP hv h (fun l m h1 h2=> .inr ⟨of_decide_eq_true h1,of_decide_eq_true h2⟩)
theorem tF {l:List Raw} {w:Nat} (hw:w<8) (h: ∀ i,i<8->i≠w->co l i=0) (z:Nat->Rat):aB l z=co l 8+co l w*z w:=by
 have h0: ∀ i,i<8->co l i*z i=if i=w then co l w*z w else 0:=fun i hi=>by
  by_cases e:i=w
  .rw[if_pos e,e]
  rw[if_neg e,h i hi e];grind
 rw[nH,h0 0 (by decide),h0 1 (by decide),h0 2 (by decide),h0 3 (by decide),h0 4 (by decide),h0 5 (by decide),h0 6 (by decide),h0 7 (by decide)];have:w=0\/w=1\/w=2\/w=3\/w=4\/w=5\/w=6\/w=7:=by omega
 rcases this with e | e | e | e | e | e | e | e<;>subst e<;>simp<;>grind
theorem KR {B:List (List Raw)} {w:Nat} (hw:w<8) (hB: ∀ l∈B,∀ i,i<8->i≠w->co l i=0) (hd:Dif B): ∃ Z:List Rat,∀ (x:Nat->Rat),x w∉Z-> ∀ i k,i<B.length->k<B.length->i≠k->aB (B.getD i []) x≠aB (B.getD k []) x:=by
 refine⟨(List.range B.length).flatMap (fun i=>(List.range B.length).map (fun k=>(co (B.getD k []) 8 - co (B.getD i []) 8) / (co (B.getD i []) w - co (B.getD k []) w))),fun x hx i k hi hk cX he=>?_⟩;have mem: ∀ j,j<B.length->B.getD j []∈B:=fun j hj=>by rw[qa,qb hj];exact ki hj
 have h1:=hB _ (mem i hi);have h2:=hB _ (mem k hk);rw[tF hw h1,tF hw h2] at he;by_cases hc:co (B.getD i []) w=co (B.getD k []) w
 .obtain⟨q,hq,hn⟩:=hd i k hi hk cX;apply hn;by_cases e8:q=8
  .rw[e8];grind
  by_cases ew:q=w
  .rw[ew];exact hc
  rw[h1 q (by omega) ew,h2 q (by omega) ew]
 apply hx;refine List.mem_flatMap.2 ⟨i,List.mem_range.2 hi,mem_map.2 ⟨k,List.mem_range.2 hk,?_⟩⟩;have h3:co (B.getD i []) w - co (B.getD k []) w≠0:=by grind
 have h4:(co (B.getD i []) w - co (B.getD k []) w)*x w=co (B.getD k []) 8 - co (B.getD i []) 8:=by grind
 rw[<-h4];grind
def Bdd (v:Nat) (c:List (List Raw)):Prop:= ∃ R:Rat,∀ x,In c x-> -R<=x v/\x v<=R
theorem Qv {c:List (List Raw)} {v:Nat} (hv:v<8) (h9: ∀ l∈c,l.length=9) (hc:NrmC c) (hi:aZ c=true) (hb:Bdd v c):aR c v≠[]/\aE c v≠[]:=by
 obtain⟨x,hx⟩:=(fk h9).1 hi;obtain⟨R,hR⟩:=hb;have h0:=hR x hx;have hp:=(hc.in_pos x).1 hx;have hs:jd c (upd x v (x v)):=by rw[PN];exact hp
 obtain⟨p1,p2,p3⟩:=(jW hv h9).1 hs;constructor
 .intro hn;have hq:jd c (upd x v (-R - 1)):=(jW hv h9).2 ⟨p1,by rw[hn];simp,fun u hu=>by have:=p3 u hu;grind⟩;have:=(hR _ ((hc.in_pos _).2 hq)).1;rw[lP] at this;grind
 intro hn;have hq:jd c (upd x v (R+1)):=(jW hv h9).2 ⟨p1,fun u hu=>by have:=p2 u hu;grind,by rw[hn];simp⟩;have:=(hR _ ((hc.in_pos _).2 hq)).2;rw[lP] at this;grind
end Go.Pl
namespace Go.Proofs.YtjjbkjgifdhlcaaGreat
open Go.AM Go.Pl
set_option maxRecDepth 100000
set_option maxHeartbeats 4000000
theorem Qw {v w:Nat} {N M:Int} {p:List Tm} (h:Duo v w N M p):NN p:=fun t ht=>by
 obtain⟨a1,a2,a3,a4⟩:=h t ht;refine⟨a1,fun k hk=>?_⟩;by_cases h1:k=v
 .rw[h1];exact a3.1
 by_cases h2:k=w
 .rw[h2];exact a4.1
 rw[a2 k hk h1 h2];exact Int.le_refl 0
theorem C7 {v:Nat} {p:List Tm} (h:NN p):NN (a_ v p):=fun t ht=>by
 obtain⟨u,hu,rfl⟩:=mem_map.1 ht;obtain⟨a1,a2⟩:=h u hu;refine⟨by rw[qkb];exact a1,fun k hk=>?_⟩;rw[i7];split
 .next h=>have:=a2 v (by omega);omega
 exact a2 k hk
theorem TP (x:Nat->Rat) {j:Nat} (hj:j<8):mv (z8.set j 1) x=x j:=by
 have h:j=0\/j=1\/j=2\/j=3\/j=4\/j=5\/j=6\/j=7:=by omega
 rcases h with e | e | e | e | e | e | e | e<;>subst e<;>simp[mv,D5,z8,replicate,Rat.pow_succ,Rat.pow_zero]<;>grind
theorem WY (x:Nat->Rat):mv z8 x=1:=by
 simp[mv,D5,z8,replicate,Rat.pow_zero]
theorem FX (l:List Raw) (x:Nat->Rat):ev (d6 l) x=aB l x:=by
 unfold d6 gk kA;rw[BZ,vw,pr,nH];have h: ∀ n,n<=8->ev (((List.range n).map (fun j=>(z8.set j 1,l.getD j rz))).map tq) x=bf (fun j=>co l j*x j) (List.range n):=fun n hn=>by
  rw[List.map_map];generalize hR:List.range n=R;have hm: ∀ j∈R,j<8:=fun j hj=>by rw[<-hR] at hj;have:=List.mem_range.1 hj;omega
  clear hR
  induction R with
  | nil=>rfl
  | cons j R ih=>
   rw[map_cons,gV,ih (fun k hk=>hm k (mem_cons_of_mem _ hk)),bf];show(l.getD j rz).q*mv (z8.set j 1) x+_=_;rw[TP x (hm j (by simp))];rfl
 have h2:ev ([(z8,l.getD 8 rz)].map tq) x=co l 8:=by
  show(l.getD 8 rz).q*mv z8 x+0=_;rw[WY];unfold co;grind
 have h3:=h 8 (by decide);rw[h2];refine Eq.trans (congrArg (· +co l 8) h3) ?_;show co l 0*x 0+(co l 1*x 1+(co l 2*x 2+(co l 3*x 3+(co l 4*x 4+(co l 5*x 5+(co l 6*x 6+(co l 7*x 7+0)))))))+co l 8=_;grind
theorem yC (l:List Raw):NN (d6 l):=by
 unfold d6;refine NN.nf (fun t ht=>?_);obtain⟨u,hu,rfl⟩:=mem_map.1 ht;unfold gk kA at hu;rcases List.mem_append.1 hu with h | h
 .obtain⟨j,hj,rfl⟩:=mem_map.1 h;refine⟨by show(z8.set j 1).length=8;rw[qkb];rfl,fun k hk=>?_⟩;show 0<=(z8.set j 1).getD k 0;rw[i7];split
  .decide
  rw[wN];exact Int.le_refl 0
 rw[qz] at h;subst h;exact⟨rfl,fun k hk=>by show 0<=z8.getD k 0;rw[wN];exact Int.le_refl 0⟩
theorem Yr {v:Nat} {lo hi:List Raw} {p:List Tm} (hv:v<8) (hp:NN p) (x:Nat->Rat):ev (betT v lo hi p) x=ev (a_ v p) (upd x v (aB hi x)) - ev (a_ v p) (upd x v (aB lo x)):=by
 unfold betT;rw[BZ,pr,FO,FW hv (C7 hp) (yC hi),FW hv (C7 hp) (yC lo),FX,FX];grind
theorem eO {a b:List Raw} (ha:a.length=9) (hb:b.length=9) (x:Nat->Rat):aB (cB a b) x=aB a x - aB b x:=by
 have:=s4 (a:=a) (b:=b) (c:=cB a b) (r:=1) (s:= -1) (x:=x) (fun i hi=>by rw[nv ha hb hi];grind);rw[this];grind
noncomputable def FY (x:Nat->Rat) (s:RC):Rat:=@ite Rat (In s.1 x) (Classical.propDecidable _) (ev s.2 x) 0
theorem C8 {x:Nat->Rat} {s:RC} (h:In s.1 x):FY x s=ev s.2 x:=if_pos h
theorem C9 {x:Nat->Rat} {s:RC} (h: ¬In s.1 x):FY x s=0:=if_neg h
theorem k7 {f:List Raw->List Raw} {l:List (List Raw)} {i n:Nat} {m:List Raw}:m∈lU f l i n↔ ∃ k,k<n/\k≠i/\m=f (l.getD k []):=by
 unfold lU;constructor
 .intro h;obtain⟨k,hk,rfl⟩:=mem_map.1 h;obtain⟨h1,h2⟩:=mem_filter.1 hk;exact⟨k,List.mem_range.1 h1,of_decide_eq_true h2,rfl⟩
 rintro⟨k,h1,h2,rfl⟩;exact mem_map.2 ⟨k,mem_filter.2 ⟨List.mem_range.2 h1,ir h2⟩,rfl⟩
theorem FZ {c:Kc} {v i j:Nat} {x:Nat->Rat} (h9: ∀ l∈c,l.length=9) (qY: ∀ l∈c,¬aN l) (hi:i<(aR c v).length) (hj:j<(aE c v).length)
 (hl: ∀ i k,i<(aR c v).length->k<(aR c v).length->i≠k->aB ((aR c v).getD i []) x≠aB ((aR c v).getD k []) x)
 (hh: ∀ i k,i<(aE c v).length->k<(aE c v).length->i≠k->aB ((aE c v).getD i []) x≠aB ((aE c v).getD k []) x)
 (hs:gq ((aE c v).getD j []) ((aR c v).getD i [])=false):
 In (iG (d5 c v) (aR c v) (aE c v) i j) x↔(jd (d5 c v) x/\aB ((aR c v).getD i []) x<aB ((aE c v).getD j []) x/\
  (∀ k,k<(aR c v).length->k≠i->aB ((aR c v).getD k []) x<aB ((aR c v).getD i []) x)/\ ∀ k,k<(aE c v).length->k≠j->aB ((aE c v).getD j []) x<aB ((aE c v).getD k []) x):=by
 have l9: ∀ k,k<(aR c v).length->((aR c v).getD k []).length=9:=fun k hk=>by
  obtain⟨r,hr,_,e⟩:=fj.1 (bI (ls:=aR c v) hk);rw[e];exact cL (h9 r hr)
 have u9: ∀ k,k<(aE c v).length->((aE c v).getD k []).length=9:=fun k hk=>by
  obtain⟨r,hr,_,e⟩:=ea.1 (bI (ls:=aE c v) hk);rw[e];exact cL (h9 r hr)
 have hcv:=eO (u9 j hj) (l9 i hi) x
 constructor
 .intro h
  unfold iG at h
  refine⟨fun r hr=>?_,?_,fun k hk cX=>?_,fun k hk cX=>?_⟩
  .rcases h r (by simp only[qr];exact .inl (.inl (.inl hr))) with h1 | h1
   .exact h1
   exact absurd h1.1 (qY r (iC.1 hr).1)
  .rcases h (cB ((aE c v).getD j []) ((aR c v).getD i [])) (by simp) with h1 | h1
   .grind
   exfalso
   have h2:=d_ (x:=x) h1.1
   have h3:gq ((aE c v).getD j []) ((aR c v).getD i [])=true:=by
    unfold gq;rw[(cv (gL (u9 j hj) (l9 i hi))).2 h1.1,Bool.true_and];refine ir ?_;rw[<-h2,h1.2];decide
   rw[hs] at h3;cases h3
  .rcases h _ (by simp only[qr];exact .inl (.inr (k7.2 ⟨k,hk,cX,rfl⟩))) with h1 | h1
   .rw[eO (l9 i hi) (l9 k hk)] at h1;grind
   have h2:=h1.2
   rw[eO (l9 i hi) (l9 k hk)] at h2
   exact absurd (by grind) (hl i k hi hk (Ne.symm cX))
  rcases h _ (by simp only[qr];exact .inr (k7.2 ⟨k,hk,cX,rfl⟩)) with h1 | h1
  .rw[eO (u9 k hk) (u9 j hj)] at h1;grind
  have h2:=h1.2
  rw[eO (u9 k hk) (u9 j hj)] at h2
  exact absurd (by grind) (hh k j hk hj cX)
 rintro⟨h1,h2,h3,h4⟩ m hm
 unfold iG at hm
 refine .inl ?_
 rcases List.mem_append.1 hm with hm | hm
 .rcases List.mem_append.1 hm with hm | hm
  .rcases List.mem_append.1 hm with hm | hm
   .exact h1 m hm
   rw[qz] at hm
   rw[hm];grind
  obtain⟨k,hk,cX,rfl⟩:=k7.1 hm
  rw[eO (l9 i hi) (l9 k hk)]
  have:=h3 k hk cX
  grind
 obtain⟨k,hk,cX,rfl⟩:=k7.1 hm
 rw[eO (u9 k hk) (u9 j hj)]
 have:=h4 k hk cX
 grind
theorem F1 {c:Kc} {p:List Tm} {v:Nat} {x:Nat->Rat} (hv:v<8) (h9: ∀ l∈c,l.length=9) (qY: ∀ l∈c,¬aN l) (hp:NN p) (h1:aR c v≠[]) (h2:aE c v≠[])
 (hl: ∀ i k,i<(aR c v).length->k<(aR c v).length->i≠k->aB ((aR c v).getD i []) x≠aB ((aR c v).getD k []) x)
 (hh: ∀ i k,i<(aE c v).length->k<(aE c v).length->i≠k->aB ((aE c v).getD i []) x≠aB ((aE c v).getD k []) x):
 Fib (fun t=>jd c (upd x v t)) (fun t=>ev (a_ v p) (upd x v t)) (bf (FY x) (gM c p v)):=by
 have n0:0<(aR c v).length:=length_pos_iff.2 h1
 have m0:0<(aE c v).length:=length_pos_iff.2 h2
 have md:=Qs (A:=jd (d5 c v) x) (G:=fun t=>ev (a_ v p) (upd x v t)) (lo:=fun i=>aB ((aR c v).getD i []) x) (hi:=fun j=>aB ((aE c v).getD j []) x) n0 m0 hl hh
  (g:=fun i j=>bf (FY x) (if gq ((aE c v).getD j []) ((aR c v).getD i [])=true then [] else [(iG (d5 c v) (aR c v) (aE c v) i j,betT v ((aR c v).getD i []) ((aE c v).getD j []) p)]))
  (fun i j hi hj hc=>by
   have wX:gq ((aE c v).getD j []) ((aR c v).getD i [])=false:=by
    cases hs:gq ((aE c v).getD j []) ((aR c v).getD i []) with
    | false=>rfl
    | true=>
     exfalso;obtain⟨r,hr,_,e⟩:=fj.1 (bI (ls:=aR c v) hi);obtain⟨q,hq,_,e'⟩:=ea.1 (bI (ls:=aE c v) hj);have l9:((aR c v).getD i []).length=9:=by rw[e];exact cL (h9 r hr)
     have u9:((aE c v).getD j []).length=9:=by rw[e'];exact cL (h9 q hq)
     unfold gq at hs;rw[w8] at hs;have eR:=(cv (gL u9 l9)).1 hs.1;have hsg:=of_decide_eq_true hs.2;have hcv:=eO u9 l9 x;rw[d_ eR] at hcv;have dj:0<co (cB ((aE c v).getD j []) ((aR c v).getD i [])) 8:=by
      rw[hcv];have:=hc.2.1;grind
     rw[rU dj] at hsg;exact absurd hsg (by decide)
   have gF:=(FZ h9 qY hi hj hl hh wX).2 hc;simp only[wX];rw[if_neg (by decide),bf,C8 gF,bf,Yr hv hp];grind)
  (fun i j hi hj hc=>by
   cases hs:gq ((aE c v).getD j []) ((aR c v).getD i []) with
   | true=>rw[if_pos rfl];rfl
   | false=>
    rw[if_neg (by decide),bf,C9 (fun gF=>hc ((FZ h9 qY hi hj hl hh hs).1 gF)),bf];grind)
 unfold gM ph
 rw[u6]
 unfold oc
 have e:(fun a=>bf (FY x) ((List.range (aE c v).length).flatMap (fun k=>if gq ((aE c v).getD k []) ((aR c v).getD a [])=true then [] else [(iG (d5 c v) (aR c v) (aE c v) a k,betT v ((aR c v).getD a []) ((aE c v).getD k []) p)])))
  =fun i=>bf (fun j=>bf (FY x) (if gq ((aE c v).getD j []) ((aR c v).getD i [])=true then [] else [(iG (d5 c v) (aR c v) (aE c v) i j,betT v ((aR c v).getD i []) ((aE c v).getD j []) p)])) (List.range (aE c v).length):=by
  funext a
  rw[u6]
 rw[e]
 refine md.congr (fun t=>?_)
 rw[jW hv h9]
 constructor
 .rintro⟨a,b,d⟩
  refine⟨a,fun l hl=>?_,fun u hu=>?_⟩
  .obtain⟨i,hi,rfl⟩:=mem_iff_getElem.1 hl
   have:=b i hi
   rwa [qa,qb hi] at this
  obtain⟨i,hi,rfl⟩:=mem_iff_getElem.1 hu
  have:=d i hi
  rwa [qa,qb hi] at this
 rintro⟨a,b,d⟩
 exact⟨a,fun i hi=>b _ (bI hi),fun j hj=>d _ (bI hj)⟩
end Go.Proofs.YtjjbkjgifdhlcaaGreat
namespace Go.Pl
open Go.AM
theorem Iu {S:Rat->Prop} {G:Rat->Rat} {z:Rat} (h:Fib S G z) (K:Rat->Rat): ∃ w,Fib S K w:=by
 rcases h with⟨L,U,h1,h2,_⟩ | ⟨h1,_⟩
 .exact⟨_,.inl ⟨L,U,h1,h2,rfl⟩⟩
 exact⟨0,.inr ⟨h1,rfl⟩⟩
noncomputable def TQ (S:Rat->Prop) (G:Rat->Rat):Rat:=@dite Rat (∃ z,Fib S G z) (Classical.propDecidable _) (fun h=>Classical.choose h) (fun _=>0)
theorem jX {S:Rat->Prop} {G:Rat->Rat} {z:Rat} (h:Fib S G z):TQ S G=z:=by
 have h1: ∃ z,Fib S G z:=⟨z,h⟩;unfold TQ;rw[dif_pos h1];exact(Classical.choose_spec h1).uniq h
theorem wO {S:Rat->Prop} {G:Rat->Rat} (h: ¬ ∃ z,Fib S G z):TQ S G=0:=dif_neg h
noncomputable def T2 (v:Nat) (x:Nat->Rat) (k:Kc) (p:List Tm):Rat:=TQ (fun t=>In k (upd x v t)) (fun t=>ev (a_ v p) (upd x v t))
theorem yD {v:Nat} (x:Nat->Rat): ∀ p:List Tm,ev (a_ v p) x=vD (fun m=>mv (m.set v (m.getD v 0+1)) x / (m.getD v 0+1)) p
 | []=>rfl
 | t::p=>by
  have ih:=yD (v:=v) x p;unfold a_ at ih ⊢;rw[map_cons,gV,ih,vD];grind
theorem Qx {v:Nat} (a b:List Tm):a_ v (a++b)=a_ v a++a_ v b:=by unfold a_;rw[vw]
theorem Qy {v:Nat} {x:Nat->Rat} {k:Kc} {p q:List Tm} (h: ∀ y,ev (a_ v p) y=ev (a_ v q) y):T2 v x k p=T2 v x k q:=by
 unfold T2;have:(fun t=>ev (a_ v p) (upd x v t))=fun t=>ev (a_ v q) (upd x v t):=funext fun t=>h _
 rw[this]
theorem Ys (v:Nat) (x:Nat->Rat):Qt (T2 v x) where
 add k a b:=by
  unfold T2;have e:(fun t=>ev (a_ v (a++b)) (upd x v t))=fun t=>ev (a_ v a) (upd x v t)+ev (a_ v b) (upd x v t):=by
   funext t;rw[Qx,pr]
  rw[e];by_cases h: ∃ z,Fib (fun t=>In k (upd x v t)) (fun t=>ev (a_ v a) (upd x v t)) z
  .obtain⟨z,hz⟩:=h;obtain⟨w,hw⟩:=Iu hz (fun t=>ev (a_ v b) (upd x v t));rw[jX hz,jX hw,jX (hz.add hw)]
  have h2: ¬ ∃ z,Fib (fun t=>In k (upd x v t)) (fun t=>ev (a_ v b) (upd x v t)) z:=fun⟨z,hz⟩=>h (Iu hz _)
  have h3: ¬ ∃ z,Fib (fun t=>In k (upd x v t)) (fun t=>ev (a_ v a) (upd x v t)+ev (a_ v b) (upd x v t)) z:=fun⟨z,hz⟩=>h (Iu hz _)
  rw[wO h,wO h2,wO h3];grind
 nf k a:=Qy (fun y=>by rw[yD,yD,O7])
 nil k:=by
  unfold T2;by_cases h: ∃ z,Fib (fun t=>In k (upd x v t)) (fun t=>ev (a_ v []) (upd x v t)) z
  .obtain⟨z,hz⟩:=h;rw[jX hz];rcases hz with⟨L,U,_,_,h3⟩ | ⟨_,h3⟩
   .rw[h3];show(0:Rat) - 0=0;grind
   exact h3
  exact wO h
theorem Yt {v:Nat} {x:Nat->Rat} {k k':Kc} {p:List Tm} (h: ∀ y,In k y↔In k' y):T2 v x k p=T2 v x k' p:=by
 unfold T2;have:(fun t=>In k (upd x v t))=fun t=>In k' (upd x v t):=funext fun t=>propext (h _)
 rw[this]
theorem TR {v:Nat} {x:Nat->Rat} {k:Kc} {p:List Tm} (h: ∀ y,¬In k y):T2 v x k p=0:=jX (.inr ⟨fun t=>h _,rfl⟩)
theorem KS {v:Nat} {x:Nat->Rat} {l:List RC} (hc: ∀ r∈l,D3 r.1/\Canon r.2):bf (fun r:RC=>T2 v x r.1 r.2) (oC ((l.filter (fun r=>aZ r.1)).map (fun r=>(aU r.1,r.2))))=bf (fun r:RC=>T2 v x r.1 r.2) l:=by
 rw[FM (Ys v x) (fun y hy=>by
  obtain⟨r,hr,rfl⟩:=mem_map.1 hy;obtain⟨gX,gF⟩:=mem_filter.1 hr;have h9:=(hc r gX).1.cs.len9;refine⟨fun f hf=>?_,(hc r gX).2⟩;obtain⟨l,hl,_,rfl⟩:=r9 h9 gF hf;exact jR (h9 l hl)),jv]
 induction l with
 | nil=>rfl
 | cons r l ih=>
  have ih:=ih (fun y hy=>hc y (mem_cons_of_mem _ hy));have hr:=hc r (by simp);cases hb:aZ r.1 with
  | true=>
   rw[List.filter_cons_of_pos (by simp[hb]),bf,bf,ih];congr 1;exact Yt (fun y=>jr hr.1 y)
  | false=>
   rw[List.filter_cons_of_neg (by simp[hb]),ih,bf,TR (fun y hy=>by
    rw[(fk hr.1.cs.len9).2 ⟨y,hy⟩] at hb;cases hb)]
   grind
theorem Qz {w:Nat} {x:Nat->Rat} (hw:w<8): ∀ {N:List RC} {FY:Rat->RC->Rat},(∀ y s,In s.1 (upd x w y)->FY y s=ev s.2 (upd x w y))->(∀ y s,¬In s.1 (upd x w y)->FY y s=0)->
 (∀ s∈N,NN s.2/\((∃ L U,L<U/\ ∀ y,In s.1 (upd x w y)↔L<y/\y<U)\/ ∀ y,¬In s.1 (upd x w y)))->
 ∃ P:List Pc,(∀ p∈P,p.Ok)/\(∀ y,Ah y P=bf (FY y) N)/\D4 P=bf (fun s:RC=>T2 w x s.1 s.2) N
 | [],_,_,_,_=>⟨[],by simp,fun _=>rfl,rfl⟩
 | s::N,FY,ha,hb,h=>by
  obtain⟨P,h1,h2,h3⟩:=Qz hw (N:=N) ha hb (fun r hr=>h r (mem_cons_of_mem _ hr));obtain⟨hn,hs⟩:=h s (by simp);rcases hs with⟨L,U,hLU,hS⟩ | hS
  .refine⟨⟨L,U,fun y=>ev (a_ w s.2) (upd x w y),fun y=>ev s.2 (upd x w y)⟩::P,fun p hp=>?_,fun y=>?_,?_⟩
   .rcases List.mem_cons.1 hp with h9 | h9
    .rw[h9];exact⟨Rat.le_of_lt hLU,Slp.prim hw hn⟩
    exact h1 p h9
   .rw[Ah,bf,h2 y];congr 1;by_cases hy:L<y/\y<U
    .rw[if_pos hy,ha y s ((hS y).2 hy)]
    rw[if_neg hy,hb y s (fun h9=>hy ((hS y).1 h9))]
   rw[D4,bf,h3];congr 1;exact(jX (.inl ⟨L,U,hLU,hS,rfl⟩)).symm
  refine⟨P,h1,fun y=>?_,?_⟩
  .rw[bf,h2 y,hb y s (hS y)];grind
  rw[bf,h3];have:T2 w x s.1 s.2=0:=jX (.inr ⟨hS,rfl⟩);rw[this];grind
end Go.Pl
namespace Go.Proofs.YtjjbkjgifdhlcaaGreat
open Go.AM Go.Pl
set_option maxRecDepth 100000
set_option maxHeartbeats 4000000
theorem QA {v w:Nat} {c:Kc} (h9: ∀ l∈c,l.length=9) (h2:Two v w c) {l:List Raw} (hl:l∈c) (h0:co l v≠0): ∀ i,i<8->i≠w->co (bZ v l) i=0:=fun i hi cX=>by
 rw[(dA (h9 l hl) h0).2 i (by omega)];by_cases e:v=i
 .rw[if_pos e]
 rw[if_neg e,h2 l hl i hi (Ne.symm e) cX];grind
theorem Yu {v w:Nat} {c:Kc} (h9: ∀ l∈c,l.length=9) (h2:Two v w c):(∀ b∈aR c v,∀ i,i<8->i≠w->co b i=0)/\ ∀ b∈aE c v,∀ i,i<8->i≠w->co b i=0:=by
 constructor
 .intro b hb;obtain⟨l,hl,h0,rfl⟩:=fj.1 hb;exact QA h9 h2 hl (by grind)
 intro b hb;obtain⟨l,hl,h0,rfl⟩:=ea.1 hb;exact QA h9 h2 hl (by grind)
structure RgB (v w:Nat) (r:RC):Prop where
 nrm:NrmC r.1
 two:Two v w r.1
 nn:NN r.2
 low:aR r.1 v≠[]
 high:aE r.1 v≠[]
theorem RgB.len9 {v w:Nat} {r:RC} (h:RgB v w r): ∀ l∈r.1,l.length=9:=fun l hl=>(h.nrm.cn l hl).len
theorem QB {v:Nat} {x:Nat->Rat} {k:Kc} {p:List Tm} {z:Rat} (h:NrmC k) (hf:Fib (fun t=>jd k (upd x v t)) (fun t=>ev (a_ v p) (upd x v t)) z):T2 v x k p=z:=
 jX (hf.congr (fun t=>(h.in_pos _).symm))
theorem TS {v w:Nat} {r:RC} (hv:v<8) (hw:w<8) (h:RgB v w r): ∃ Z:List Rat,∀ x:Nat->Rat,x w∉Z->bf (FY x) (gM r.1 r.2 v)=T2 v x r.1 r.2:=by
 obtain⟨b1,b2⟩:=Yu h.len9 h.two;obtain⟨Z1,h1⟩:=KR hw b1 (TN hv h.nrm);obtain⟨Z2,h2⟩:=KR hw b2 (Qu hv h.nrm);refine⟨Z1++Z2,fun x hx=>?_⟩;rw[qr] at hx;exact(QB h.nrm (F1 hv h.len9 h.nrm.nc h.nn h.low h.high (h1 x (fun e=>hx (.inl e))) (h2 x (fun e=>hx (.inr e))))).symm
theorem KT {v w:Nat} (hv:v<8) (hw:w<8): ∀ {M:List RC},(∀ r∈M,RgB v w r)-> ∃ Z:List Rat,∀ x:Nat->Rat,x w∉Z->bf (FY x) (elimO M v)=bf (fun r:RC=>T2 v x r.1 r.2) M
 | [],_=>⟨[],fun _ _=>rfl⟩
 | r::M,h=>by
  obtain⟨Z1,h1⟩:=TS hv hw (h r (by simp));obtain⟨Z2,h2⟩:=KT hv hw (M:=M) (fun x hx=>h x (mem_cons_of_mem _ hx));refine⟨Z1++Z2,fun x hx=>?_⟩;rw[qr] at hx;have e:elimO (r::M) v=gM r.1 r.2 v++elimO M v:=by unfold elimO;rw[List.flatMap_cons]
  rw[e,ju,h1 x (fun e=>hx (.inl e)),h2 x (fun e=>hx (.inr e)),bf]
theorem QC {v:Nat} (hv:v<8) (x:Nat->Rat): ∀ {M:List RC},(∀ r∈M,RgB v v r/\(aR r.1 v).length<=1/\(aE r.1 v).length<=1)->bf (FY x) (elimO M v)=bf (fun r:RC=>T2 v x r.1 r.2) M
 | [],_=>rfl
 | r::M,h=>by
  obtain⟨hb,h1,h2⟩:=h r (by simp);have ih:=QC hv x (M:=M) (fun x hx=>h x (mem_cons_of_mem _ hx));have e:elimO (r::M) v=gM r.1 r.2 v++elimO M v:=by unfold elimO;rw[List.flatMap_cons]
  rw[e,ju,ih,bf];congr 1;exact(QB hb.nrm (F1 hv hb.len9 hb.nrm.nc hb.nn hb.low hb.high (fun i k hi hk cX=>absurd (show i=k by omega) cX) (fun i k hi hk cX=>absurd (show i=k by omega) cX))).symm
theorem F2 {c:Kc} {v i j:Nat} {x:Nat->Rat} (hv:v<8) (h9: ∀ l∈c,l.length=9) (qY: ∀ l∈c,¬aN l) (hi:i<(aR c v).length) (hj:j<(aE c v).length)
 (hs:gq ((aE c v).getD j []) ((aR c v).getD i [])=false) (h:In (iG (d5 c v) (aR c v) (aE c v) i j) x): ∃ t,jd c (upd x v t):=by
 have l9: ∀ k,k<(aR c v).length->((aR c v).getD k []).length=9:=fun k hk=>by
  obtain⟨r,hr,_,e⟩:=fj.1 (bI (ls:=aR c v) hk);rw[e];exact cL (h9 r hr)
 have u9: ∀ k,k<(aE c v).length->((aE c v).getD k []).length=9:=fun k hk=>by
  obtain⟨r,hr,_,e⟩:=ea.1 (bI (ls:=aE c v) hk);rw[e];exact cL (h9 r hr)
 unfold iG at h
 have aH:aB ((aR c v).getD i []) x<aB ((aE c v).getD j []) x:=by
  have hcv:=eO (u9 j hj) (l9 i hi) x;rcases h (cB ((aE c v).getD j []) ((aR c v).getD i [])) (by simp) with h1 | h1
  .grind
  exfalso;have h2:=d_ (x:=x) h1.1;have h3:gq ((aE c v).getD j []) ((aR c v).getD i [])=true:=by
   unfold gq;rw[(cv (gL (u9 j hj) (l9 i hi))).2 h1.1,Bool.true_and];refine ir ?_;rw[<-h2,h1.2];decide
  rw[hs] at h3;cases h3
 refine⟨(aB ((aR c v).getD i []) x+aB ((aE c v).getD j []) x) / 2,(jW hv h9).2 ⟨fun r hr=>?_,fun l hl=>?_,fun u hu=>?_⟩⟩
 .rcases h r (by simp only[qr];exact .inl (.inl (.inl hr))) with h1 | h1
  .exact h1
  exact absurd h1.1 (qY r (iC.1 hr).1)
 .obtain⟨k,hk,rfl⟩:=mem_iff_getElem.1 hl
  have e:(aR c v)[k]=(aR c v).getD k []:=by rw[qa,qb hk];rfl
  rw[e]
  by_cases cX:k=i
  .rw[cX];grind
  have:=h _ (by simp only[qr];exact .inl (.inr (k7.2 ⟨k,hk,cX,rfl⟩)))
  rw[eO (l9 i hi) (l9 k hk)] at this
  grind
 obtain⟨k,hk,rfl⟩:=mem_iff_getElem.1 hu
 have e:(aE c v)[k]=(aE c v).getD k []:=by rw[qa,qb hk];rfl
 rw[e]
 by_cases cX:k=j
 .rw[cX];grind
 have:=h _ (by simp only[qr];exact .inr (k7.2 ⟨k,hk,cX,rfl⟩))
 rw[eO (u9 k hk) (u9 j hj)] at this
 grind
theorem u7 {c:Kc} {p:List Tm} {v:Nat} {s:RC} (h:s∈gM c p v): ∃ i j,i<(aR c v).length/\j<(aE c v).length/\gq ((aE c v).getD j []) ((aR c v).getD i [])=false/\
 s=(iG (d5 c v) (aR c v) (aE c v) i j,betT v ((aR c v).getD i []) ((aE c v).getD j []) p):=by
 unfold gM ph at h
 obtain⟨i,hi,h⟩:=List.mem_flatMap.1 h
 unfold oc at h
 obtain⟨j,hj,h⟩:=List.mem_flatMap.1 h
 refine⟨i,j,List.mem_range.1 hi,List.mem_range.1 hj,?_⟩
 cases hs:gq ((aE c v).getD j []) ((aR c v).getD i []) with
 | true=>rw[hs,if_pos rfl] at h;simp at h
 | false=>
  rw[hs,if_neg (by decide)] at h;exact⟨rfl,List.mem_singleton.1 h⟩
theorem QD {v w:Nat} {r s:RC} (hv:v<8) (ou:v≠w) (h:RgB v w r) (hb:Bdd w r.1) (hs:s∈gM r.1 r.2 v):Bdd w s.1:=by
 obtain⟨i,j,hi,hj,f7,rfl⟩:=u7 hs;obtain⟨R,hR⟩:=hb;refine⟨R,fun x hx=>?_⟩;obtain⟨t,ht⟩:=F2 hv h.len9 h.nrm.nc hi hj f7 hx;have:=hR _ ((h.nrm.in_pos _).2 ht);rwa [xW (Ne.symm ou)] at this
theorem TU {v:Nat} {c:Kc} {p:List Tm} {s:RC} (hp:NN p) (hs:s∈gM c p v):NN s.2:=by
 obtain⟨i,j,_,_,_,rfl⟩:=u7 hs;have G3:=C7 (v:=v) hp;have key: ∀ l:List Raw,NN (ff v (d6 l) (a_ v p)):=fun l=>by
  unfold ff;exact yB (yC l) (fun c hc=>by
   obtain⟨i,_,rfl⟩:=mem_map.1 hc;exact G3.part)
 unfold betT;refine NN.nf (NN.app (key _) (fun t ht=>?_));unfold c9 at ht;obtain⟨u,hu,rfl⟩:=mem_map.1 ht;exact key _ u hu
structure Bd2 (v w:Nat) (M:List RC):Prop where
 bv: ∀ r∈M,Bdd v r.1
 bw: ∀ r∈M,Bdd w r.1
theorem RgV.rgB {v w Nv Nw j kp n c:Nat} {r:RC} (s:iS v w Nv Nw j kp n c) (h:RgV v w Nv Nw j kp n r) (hb:Bdd v r.1):RgB v w r:=by
 have hC:=NrmC.of (h.q.cst s) h.inn h.idem;obtain⟨a,b⟩:=Qv s.hv (fun l hl=>(hC.cn l hl).len) hC h.inn hb;exact⟨hC,h.q.two,Qw h.q.duo,a,b⟩
theorem KU {v w:Nat} {M:List RC} (h: ∀ r∈M,RgB v w r):M.any (missB v)=false:=by
 rw[List.any_eq_false];intro r hr;unfold missB;have h1:=(h r hr).low;have h2:=(h r hr).high;cases e1:aR r.1 v with
 | nil=>exact absurd e1 h1
 | cons a b=>
  cases e2:aE r.1 v with
  | nil=>exact absurd e2 h2
  | cons a b=>simp
theorem TV {w:Nat} {s:RC} (hw:w<8) (h:RgB w w s) (x:Nat->Rat):(∃ L U,L<U/\ ∀ y,In s.1 (upd x w y)↔L<y/\y<U)\/ ∀ y,¬In s.1 (upd x w y):=by
 have n0:0<(aR s.1 w).length:=length_pos_iff.2 h.low;have m0:0<(aE s.1 w).length:=length_pos_iff.2 h.high;obtain⟨i,hi,AP⟩:=sb (fun k=>aB ((aR s.1 w).getD k []) x) _ n0;obtain⟨j,hj,zF⟩:=sb (fun k=> -aB ((aE s.1 w).getD k []) x) _ m0;by_cases hp:jd (d5 s.1 w) x/\aB ((aR s.1 w).getD i []) x<aB ((aE s.1 w).getD j []) x
 .refine .inl ⟨_,_,hp.2,fun y=>?_⟩;rw[h.nrm.in_pos,jW hw h.len9];constructor
  .rintro⟨_,b,d⟩;exact⟨b _ (bI hi),d _ (bI hj)⟩
  rintro⟨b,d⟩;refine⟨hp.1,fun l hl=>?_,fun u hu=>?_⟩
  .obtain⟨k,hk,rfl⟩:=mem_iff_getElem.1 hl;have:=AP k hk;rw[qa,qb hk] at this;simp only[Option.getD_some] at this;grind
  obtain⟨k,hk,rfl⟩:=mem_iff_getElem.1 hu;have:=zF k hk;rw[qa,qb hk] at this;simp only[Option.getD_some] at this;grind
 refine .inr (fun y hy=>hp ?_);rw[h.nrm.in_pos,jW hw h.len9] at hy;obtain⟨a,b,d⟩:=hy;refine⟨a,?_⟩;have:=b _ (bI hi);have:=d _ (bI hj);grind
theorem IA.q {v w:Nat} {M:List RC} (hv:v<8) (hw:w<8) (ou:v≠w) (h:IA v w M): ∀ x∈elimO M v,RgQ w v 6 0 36 1524 6 x:=fun x hx=>by
 have zM: ∀ r∈M,r.2.length<=12:=fun r hr=>((h.rg r hr).q.pok (rh hv hw) (by decide)).2
 obtain⟨r,hr,hx⟩:=List.mem_flatMap.1 hx;obtain⟨a1,a2,a3,a4,a5,a6⟩:=(i6 (rh hv hw) ou Qj (h.rg r hr) (zM r hr)).2 x hx;exact⟨a1,fun l hl i hi h1 h2=>a2 l hl i hi h1 h1,by omega,gI (lQ _) a3,a4,a5.duo hv ou,a6,.inr ⟨a2,by decide,by decide⟩⟩
theorem IB.other {v w u:Nat} {M:List RC} (hu:v≠u) (Z8:u<8) (h:IB v w M) {r:RC} (hr:r∈M):RgV v u 6 0 72 27451 6 r:=by
 have v3:=h.rg r hr;exact⟨⟨v3.1.q.ok,fun l hl i hi h1 _=>v3.2 l hl i hi h1 h1,v3.1.q.len,v3.1.q.ncl,v3.1.q.can,fun t ht=>by
  obtain⟨b1,b2,b3,b4⟩:=v3.1.q.duo t ht;have b5: ∀ i,i<8->i≠v->t.1.getD i 0=0:=fun i hi h1=>by
   by_cases sC:i=w
   .rw[sC];omega
   exact b2 i hi h1 sC
  exact⟨b1,fun i hi h1 _=>b5 i hi h1,b3,by rw[b5 u Z8 (Ne.symm hu)];omega⟩,v3.1.q.pb,v3.1.q.alt⟩,v3.1.idem,v3.1.inn,v3.1.len⟩
theorem IB.q {v w:Nat} {M:List RC} (hv:v<8) (hw:w<8) (ou:v≠w) (h:IB v w M): ∀ x∈elimO M v,RgQ w v 8 0 292 460292 6 x/\ ∀ t∈x.2,t.1=z8:=fun x hx=>by
 have zM: ∀ r∈M,r.2.length<=12:=fun r hr=>((h.rg r hr).1.q.pok (od hv hw) (by decide)).2
 obtain⟨r,hr,hx⟩:=List.mem_flatMap.1 hx;obtain⟨a1,a2,a3,a4,a5,a6⟩:=(i6 (od hv hw) ou KI (h.rg r hr).1 (zM r hr)).2 x hx;refine⟨⟨a1,fun l hl i hi h1 h2=>a2 l hl i hi h1 h1,by omega,gI (lQ _) a3,a4,a5.duo hv ou,a6,.inr ⟨a2,by decide,by decide⟩⟩,fun t ht=>?_⟩;obtain⟨u,Z8,huv,SG⟩: ∃ u,u<8/\v≠u/\u≠w:=by
  by_cases h0:v≠0/\0≠w
  .exact⟨0,by decide,h0.1,h0.2⟩
  by_cases h1:v≠1/\1≠w
  .exact⟨1,by decide,h1.1,h1.2⟩
  exact⟨2,by decide,by omega,by omega⟩
 have b5:=((i6 (od hv Z8) huv KI (h.other huv Z8 hr) (zM r hr)).2 x hx).2.2.2.2.1;obtain⟨l8,c1,_⟩:=a5 t ht;obtain⟨_,c2,_⟩:=b5 t ht;refine List.ext_getElem (by rw[l8];rfl) (fun i h1 h2=>?_);have hi:i<8:=by omega
 have e1:t.1.getD i 0=t.1[i]:=by rw[qa,qb h1];rfl
 have e2:z8[i]'h2=(0:Int):=List.eq_of_mem_replicate (ki h2);rw[e2,<-e1];by_cases sC:i=w
 .exact c2 i hi (by rw[sC];exact Ne.symm SG)
 exact c1 i hi sC
theorem yE {v w Nv Nw j kp n c:Nat} {l:List RC} (s:iS v w Nv Nw j kp n c) (h: ∀ r∈l,RgQ v w Nv Nw j kp n r) {r:RC} (hr:r∈nrmL l):(∃ z∈l,aZ z.1=true/\r.1=aU z.1)/\ ∀ t∈r.2,∃ z∈l,∃ u∈z.2,u.1=t.1:=by
 have hrc:RcOk ((l.filter (fun r=>aZ r.1)).map (fun r=>(aU r.1,r.2))):=fun y hy=>by
  obtain⟨z,hz,rfl⟩:=mem_map.1 hy;have DV:=(mem_filter.1 hz).1;exact⟨fun f hf=>((TG ((h z DV).cst s)).1 f hf).1,(h z DV).can⟩
 obtain⟨e1,x,hx,e2⟩:=yq hrc hr;constructor
 .obtain⟨z,hz,rfl⟩:=mem_map.1 hx;obtain⟨hz1,DV⟩:=mem_filter.1 hz;exact⟨z,hz1,DV,e2.symm⟩
 intro t ht;rw[e1] at ht;unfold polyS' at ht;obtain⟨u,hu,he⟩:=jc ht;obtain⟨y,hy,w5⟩:=List.mem_flatMap.1 hu;obtain⟨z,hz,rfl⟩:=mem_map.1 (mem_filter.1 hy).1;exact⟨z,(mem_filter.1 hz).1,u,w5,he⟩
theorem KV (x:Nat->Rat): ∀ l:List RC,ev (l.flatMap (·.2)) x=bf (fun r:RC=>ev r.2 x) l
 | []=>rfl
 | r::l=>by rw[List.flatMap_cons,pr,KV x l,bf]
theorem TW (x:Nat->Rat):Qt (fun _ p=>ev p x):=⟨fun _ a b=>pr a b x,fun _ a=>BZ a x,fun _=>rfl⟩
theorem MO {w:Nat} {c:Kc} {p:List Tm} {s:RC} (h9: ∀ l∈c,l.length=9) (h2:Two w w c) (hs:s∈gM c p w): ∀ l∈s.1,l.length=9/\ ∀ i,i<8->co l i=0:=by
 obtain⟨i,j,hi,hj,_,rfl⟩:=u7 hs;have key: ∀ l∈c,co l w≠0->(bZ w l).length=9/\ ∀ i,i<8->co (bZ w l) i=0:=fun l hl h0=>⟨cL (h9 l hl),fun i hi=>by
  rw[(dA (h9 l hl) h0).2 i (by omega)];by_cases e:w=i
  .rw[if_pos e]
  rw[if_neg e,h2 l hl i hi (Ne.symm e) (Ne.symm e)];grind⟩
 have lz: ∀ k,k<(aR c w).length->((aR c w).getD k []).length=9/\ ∀ i,i<8->co ((aR c w).getD k []) i=0:=fun k hk=>by
  obtain⟨r,hr,h0,e⟩:=fj.1 (bI (ls:=aR c w) hk);rw[e];exact key r hr (by grind)
 have uz: ∀ k,k<(aE c w).length->((aE c w).getD k []).length=9/\ ∀ i,i<8->co ((aE c w).getD k []) i=0:=fun k hk=>by
  obtain⟨r,hr,h0,e⟩:=ea.1 (bI (ls:=aE c w) hk);rw[e];exact key r hr (by grind)
 have cz: ∀ a b:List Raw,(a.length=9/\ ∀ i,i<8->co a i=0)->(b.length=9/\ ∀ i,i<8->co b i=0)->(cB a b).length=9/\ ∀ i,i<8->co (cB a b) i=0:=fun a b ha hb=>
  ⟨gL ha.1 hb.1,fun i hi=>by rw[nv ha.1 hb.1 (by omega),ha.2 i hi,hb.2 i hi];grind⟩
 intro m hm;unfold iG at hm;rcases List.mem_append.1 hm with hm | hm
 .rcases List.mem_append.1 hm with hm | hm
  .rcases List.mem_append.1 hm with hm | hm
   .obtain⟨h1,h3⟩:=iC.1 hm;refine⟨h9 m h1,fun i hi=>?_⟩;by_cases e:i=w
    .rw[e];exact h3
    exact h2 m h1 i hi e e
   rw[qz] at hm;rw[hm];exact cz _ _ (uz j hj) (lz i hi)
  obtain⟨k,hk,cX,rfl⟩:=k7.1 hm;exact cz _ _ (lz i hi) (lz k hk)
 obtain⟨k,hk,cX,rfl⟩:=k7.1 hm;exact cz _ _ (uz k hk) (uz j hj)
theorem TX {k:Kc} (h: ∀ l∈k,l.length=9/\ ∀ i,i<8->co l i=0) (x:Nat->Rat):In k x↔aZ k=true:=by
 rw[fk (fun l hl=>(h l hl).1)];have e: ∀ y z:Nat->Rat,In k y->In k z:=fun y z hy l hl=>by
  have h1:=hy l hl;rw[d_ (h l hl).2] at h1 ⊢;exact h1
 exact⟨fun hx=>⟨x,hx⟩,fun⟨y,hy⟩=>e y x hy⟩
structure Yv (v w:Nat) (M:List RC) (P:List Tm):Prop where
 tot:wa iH M [(v:Int),(w:Int)]=(0,P)
 can:Canon P
 key: ∀ t∈P,t.1=z8
 val: ∀ x,ev P x=bf (fun s:RC=>T2 w x s.1 s.2) (elimO M v)
 rgb: ∀ r∈M,RgB v w r
 pok:POk 10000000 1024 P/\P.length<=12
 cut: ∀ s∈elimO M v,NN s.2/\ ∀ x,(∃ L U,L<U/\ ∀ y,In s.1 (upd x w y)↔L<y/\y<U)\/ ∀ y,¬In s.1 (upd x w y)
theorem F3 {M:List RC} {v:Nat} (hv:v<8) (h:M.any (missB v)=false):iH M (v:Int)=(0,nrmL (elimO M v)):=by
 unfold iH;rw[if_neg (by omega),Int.toNat_natCast,if_neg (by rw[h];decide)]
theorem C_ {v w:Nat} {M:List RC} (hv:v<8) (hw:w<8) (ou:v≠w) (h:IA v w M) (hb:Bd2 v w M): ∃ P,Yv v w M P:=by
 have GY: ∀ r∈M,RgB v w r:=fun r hr=>(h.rg r hr).rgB (rh hv hw) (hb.bv r hr)
 have hq:=h.q hv hw ou;obtain⟨_,_,_,hB⟩:=h.elim hv hw ou;have eR: ∀ s∈elimO M v,D3 s.1/\Canon s.2:=fun s hs=>⟨(hq s hs).cst (yv hw hv),(hq s hs).can⟩
 have Vc: ∀ s∈elimO M v,Bdd w s.1:=fun s hs=>by
  obtain⟨r,hr,hs⟩:=List.mem_flatMap.1 hs;exact QD hv ou (GY r hr) (hb.bw r hr) hs
 obtain⟨N1,hN1⟩:=ax (nrmL (elimO M v));have afu: ∀ r∈N1,(∃ z∈elimO M v,aZ z.1=true/\r.1=aU z.1):=fun r hr=>by
  rw[<-hN1] at hr;exact(yE (yv hw hv) hq hr).1
 have hT2: ∀ x,bf (fun s:RC=>T2 w x s.1 s.2) N1=bf (fun s:RC=>T2 w x s.1 s.2) (elimO M v):=fun x=>by
  rw[<-hN1];exact KS eR
 rw[hN1] at hB;have dY: ∀ r∈N1,Bdd w r.1:=fun r hr=>by
  obtain⟨z,hz,_,e⟩:=afu r hr;obtain⟨R,hR⟩:=Vc z hz;exact⟨R,fun x hx=>hR x ((jr (eR z hz).1 x).1 (by rw[<-e];exact hx))⟩
 have Z_: ∀ r∈N1,RgB w w r/\(aR r.1 w).length<=1/\(aE r.1 w).length<=1:=fun r hr=>by
  have h1:=(hB.rg r hr).1.rgB (od hw hv) (dY r hr);exact⟨⟨h1.nrm,(hB.rg r hr).2,h1.nn,h1.low,h1.high⟩,FE (od hw hv) (hB.rg r hr).1 (hB.rg r hr).2⟩
 have Hs:=hB.q hw hv (Ne.symm ou);obtain⟨_,_,_,hC⟩:=hB.elim hw hv (Ne.symm ou);obtain⟨N2,hN2⟩:=ax (nrmL (elimO N1 w));have iQ: ∀ r∈N2,∀ t∈r.2,t.1=z8:=fun r hr t ht=>by
  rw[<-hN2] at hr;obtain⟨z,hz,u,hu,e⟩:=(yE (yw hw hv |> fun _=>yw hv hw) (fun x hx=>(Hs x hx).1) hr).2 t ht;rw[<-e];exact(Hs z hz).2 u hu
 have zr:=KU GY;have mU:=KU (fun r hr=>(Z_ r hr).1);have afv:Len8 (N2.flatMap (·.2)):=fun t ht=>by
  obtain⟨r,hr,ht⟩:=List.mem_flatMap.1 ht;rw[iQ r hr t ht];rfl
 rw[hN2] at hC;refine⟨polyS' N2,?_,cS afv,fun t ht=>?_,fun x=>?_,GY,?_,fun s hs=>?_⟩
 .unfold wa;have e1:ym iH M [(v:Int),(w:Int)]=(0,N2):=by
   rw[pn,F3 hv zr,if_pos rfl,hN1,pn,F3 hw mU,if_pos rfl,hN2,C2]
  rw[e1,if_pos rfl];unfold Qd;rw[if_neg];have:N2.any (fun r=>!r.1.isEmpty)=false:=by
   rw[List.any_eq_false];intro r hr;rw[(hC.rg r hr).1];decide
  rw[this];decide
 .unfold polyS' at ht;obtain⟨u,hu,he⟩:=jc ht;obtain⟨r,hr,w5⟩:=List.mem_flatMap.1 hu;rw[<-he];exact iQ r hr u w5
 .unfold polyS';rw[BZ,KV,<-hN2];have hrc:RcOk (((elimO N1 w).filter (fun r=>aZ r.1)).map (fun r=>(aU r.1,r.2))):=fun y hy=>by
   obtain⟨z,hz,rfl⟩:=mem_map.1 hy;have DV:=(mem_filter.1 hz).1;exact⟨fun f hf=>((TG ((Hs z DV).1.cst (yw hv hw))).1 f hf).1,(Hs z DV).1.can⟩
  have h1:=FM (TW x) hrc;rw[jv] at h1;have h2: ∀ l:List RC,(∀ s∈l,∀ m∈s.1,m.length=9/\ ∀ i,i<8->co m i=0)->bf (fun a:RC=>ev a.2 x) (l.filter (fun r=>aZ r.1))=bf (FY x) l:=fun l hl=>by
   induction l with
   | nil=>rfl
   | cons s l ih=>
    have ih:=ih (fun y hy=>hl y (mem_cons_of_mem _ hy));have hz:=TX (hl s (by simp)) x;cases gF:aZ s.1 with
    | true=>rw[List.filter_cons_of_pos (by simp[gF]),bf,bf,ih,C8 (hz.2 gF)]
    | false=>
     rw[List.filter_cons_of_neg (by simp[gF]),bf,ih,C9 (fun h9=>by rw[hz.1 h9] at gF;cases gF)];grind
  have h3:=h2 (elimO N1 w) (fun s hs=>by
   obtain⟨r,hr,hs⟩:=List.mem_flatMap.1 hs;exact MO (Z_ r hr).1.len9 (hB.rg r hr).2 hs)
  refine(h1.trans h3).trans ?_;rw[QC hw x Z_,hT2]
 .match N2,hC with
  | [],_=>exact⟨KE,by simp[polyS',nf]⟩
  | [r],hC=>
   rw[tw (hC.nf.can r (by simp))];exact(hC.rg r (by simp)).2
  | _::_::_,hC=>have:=hC.len;simp at this
 refine⟨?_,fun x=>?_⟩
 .obtain⟨r,hr,wW⟩:=List.mem_flatMap.1 hs;exact TU (GY r hr).nn wW
 have hc:=eR s hs;cases gF:aZ s.1 with
 | false=>exact .inr (fun y hy=>by rw[(fk hc.1.cs.len9).2 ⟨_,hy⟩] at gF;cases gF)
 | true=>
  have Jr:=hq s hs;obtain⟨r,hr,wW⟩:=List.mem_flatMap.1 hs;have htw:Two w w s.1:=by
   have zM:=((h.rg r hr).q.pok (rh hv hw) (by decide)).2;exact((i6 (rh hv hw) ou Qj (h.rg r hr) zM).2 s wW).2.1
  have oK:=BL hc.1;have hci:=tA hc.1 gF;have hC2:=NrmC.of oK hci (vI hc.1);have eC:Bdd w (aU s.1):=by
   obtain⟨R,hR⟩:=Vc s hs;exact⟨R,fun x hx=>hR x ((jr hc.1 x).1 hx)⟩
  obtain⟨l1,l2⟩:=Qv hw (fun l hl=>(hC2.cn l hl).len) hC2 hci eC;have df:=TV (s:=(aU s.1,s.2)) hw ⟨hC2,(nK Jr.ok (by decide) htw gF).2.1,Qw Jr.duo,l1,l2⟩ x;rcases df with⟨L,U,h1,h2⟩ | h1
  .exact .inl ⟨L,U,h1,fun y=>(jr hc.1 _).symm.trans (h2 y)⟩
  exact .inr (fun y hy=>h1 y ((jr hc.1 _).2 hy))
end Go.Proofs.YtjjbkjgifdhlcaaGreat
namespace Go.Pl
open Go.AM
def pcC (c:Rat) (P:List Pc):List Pc:=P.map (fun p=>⟨p.lo,p.hi,fun x=>c*p.F x,fun x=>c*p.f x⟩)
theorem Yw {c:Rat} {P:List Pc} (h: ∀ p∈P,p.Ok): ∀ p∈pcC c P,p.Ok:=fun p hp=>by
 obtain⟨q,hq,rfl⟩:=mem_map.1 hp;exact⟨(h q hq).1,(h q hq).2.scale c⟩
theorem WZ (c:Rat): ∀ P:List Pc,D4 (pcC c P)=c*D4 P
 | []=>by show(0:Rat)=c*0;grind
 | p::P=>by
  have ih:=WZ c P;unfold pcC at ih ⊢;rw[map_cons,D4,D4,ih];grind
theorem W0 (c y:Rat): ∀ P:List Pc,Ah y (pcC c P)=c*Ah y P
 | []=>by show(0:Rat)=c*0;grind
 | p::P=>by
  have ih:=W0 c y P;unfold pcC at ih ⊢;rw[map_cons,Ah,Ah,ih];show(if p.lo<y/\y<p.hi then c*p.f y else 0)+_=_;split<;>grind
end Go.Pl
namespace Go.Proofs.YtjjbkjgifdhlcaaGreat
open Go.AM Go.Pl
set_option maxRecDepth 100000
set_option maxHeartbeats 4000000
theorem yF {v w:Nat} (hv:v<8) (hw:w<8) (x:Nat->Rat): ∀ l:List (Rat×List RC×List Tm),(∀ a∈l,Yv v w a.2.1 a.2.2)->
 ∃ (P:List Pc) (Z:List Rat),(∀ p∈P,p.Ok)/\D4 P=bf (fun a=>a.1*ev a.2.2 x) l/\ ∀ y,y∉Z->Ah y P=bf (fun a=>a.1*bf (fun r:RC=>T2 v (upd x w y) r.1 r.2) a.2.1) l
 | [],_=>⟨[],[],by simp,rfl,fun _ _=>rfl⟩
 | a::l,h=>by
  obtain⟨P,Z,h1,h2,h3⟩:=yF hv hw x l (fun b hb=>h b (mem_cons_of_mem _ hb));have ha:=h a (by simp);obtain⟨Q,q1,q2,q3⟩:=Qz (w:=w) (x:=x) hw (N:=elimO a.2.1 v) (FY:=fun y s=>FY (upd x w y) s) (fun y s hs=>C8 hs) (fun y s hs=>C9 hs) (fun s hs=>⟨(ha.cut s hs).1,(ha.cut s hs).2 x⟩);obtain⟨Z2,hz⟩:=KT hv hw ha.rgb;refine⟨pcC a.1 Q++P,Z2++Z,fun p hp=>?_,?_,fun y hy=>?_⟩
  .rcases List.mem_append.1 hp with h9 | h9
   .exact Yw q1 p h9
   exact h1 p h9
  .rw[yy,WZ,q3,h2,bf,ha.val x]
  rw[qr] at hy;rw[yz,W0,q2 y,h3 y (fun e=>hy (.inr e)),bf,hz (upd x w y) (by rw[lP];exact fun e=>hy (.inl e))]
theorem TY {v w:Nat} (hv:v<8) (hw:w<8) (l:List (Rat×List RC×List Tm)) (h: ∀ a∈l,Yv v w a.2.1 a.2.2) (Z:List Rat)
 (hz: ∀ x:Nat->Rat,x w∉Z->bf (fun a=>a.1*bf (fun r:RC=>T2 v x r.1 r.2) a.2.1) l=0) (x:Nat->Rat):bf (fun a=>a.1*ev a.2.2 x) l=0:=by
 obtain⟨P,Z2,h1,h2,h3⟩:=yF hv hw x l h
 rw[<-h2]
 refine TL P h1 (Z++Z2) (fun y hy=>?_)
 rw[qr] at hy
 rw[h3 y (fun e=>hy (.inr e))]
 exact hz (upd x w y) (by rw[lP];exact fun e=>hy (.inl e))
theorem KW {P:List Tm} (h: ∀ t∈P,t.1=z8) (x:Nat->Rat) (m:Mn):bP m P=if m=z8 then ev P x else 0:=by
 induction P with
 | nil=>rw[bP];split<;>rfl
 | cons t P ih=>
  have ih:=ih (fun u hu=>h u (mem_cons_of_mem _ hu));have ht:=h t (by simp);rw[bP,ih,gV,ht,WY];by_cases hm:m=z8
  .rw[if_pos hm,if_pos hm];simp[hm]
  rw[if_neg hm,if_neg hm,if_neg (fun e=>hm e.symm)];grind
theorem Yx {P Q:List Tm} (hP:Canon P) (hQ:Canon Q) (kP: ∀ t∈P,t.1=z8) (kQ: ∀ t∈Q,t.1=z8) (x:Nat->Rat) (h:ev P x=ev Q x):P=Q:=
 ku hP hQ (fun m=>by rw[KW kP x,KW kQ x,h])
end Go.Proofs.YtjjbkjgifdhlcaaGreat
namespace Go.Pl
open Go.AM
theorem QE {k:List (List Raw)} (h9: ∀ l∈k,l.length=9) (x:Nat->Rat):In k x↔jd (ncs k) x/\ ∀ l∈k,aN l->0<=co l 8:=by
 constructor
 .intro h;refine⟨fun l hl=>?_,fun l hl hc=>?_⟩
  .obtain⟨h1,h2⟩:=(jP h9).1 hl;rcases h l h1 with h3 | h3
   .exact h3
   exact absurd h3.1 h2
  have h1:=h l hl;rw[d_ hc] at h1;rcases h1 with h1 | h1
  .grind
  have:=h1.2;grind
 rintro⟨h1,h2⟩ l hl;by_cases hc:aN l
 .have h3:=h2 l hl hc;rw[d_ hc];rcases(by grind:0<co l 8\/co l 8=0) with h4 | h4
  .exact .inl h4
  exact .inr ⟨hc,h4⟩
 exact .inl (h1 l ((jP h9).2 ⟨hl,hc⟩))
theorem TZ {w:Nat} {k:List (List Raw)} (hw:w<8) (h9: ∀ l∈k,l.length=9) (hb:Bdd w k) (x:Nat->Rat):
 (∃ L U,L<U/\ ∀ y,In k (upd x w y)↔L<y/\y<U)\/ ∀ y,¬In k (upd x w y):=by
 by_cases rC: ∃ y,In k (upd x w y)
 .obtain⟨y0,tR⟩:=rC
  obtain⟨p0,c0⟩:=(QE h9 _).1 tR
  have n9: ∀ l∈ncs k,l.length=9:=fun l hl=>h9 l ((jP h9).1 hl).1
  have eX:jd (d5 (ncs k) w) x:=((jW hw n9).1 p0).1
  have G_: ∀ y,In k (upd x w y)↔(∀ l∈aR (ncs k) w,aB l x<y)/\ ∀ u∈aE (ncs k) w,y<aB u x:=fun y=>by
   rw[QE h9,jW hw n9];exact⟨fun h=>h.1.2,fun h=>⟨⟨eX,h⟩,fun l hl hc=>c0 l hl hc⟩⟩
  obtain⟨R,hR⟩:=hb
  have q0:=(G_ y0).1 tR
  have r0:=hR _ tR
  rw[lP] at r0
  have hl:aR (ncs k) w≠[]:=fun hn=>by
   have:=hR _ ((G_ (-R - 1)).2 ⟨by rw[hn];simp,fun u hu=>by have:=q0.2 u hu;grind⟩);rw[lP] at this;grind
  have hh:aE (ncs k) w≠[]:=fun hn=>by
   have:=hR _ ((G_ (R+1)).2 ⟨fun u hu=>by have:=q0.1 u hu;grind,by rw[hn];simp⟩);rw[lP] at this;grind
  obtain⟨i,hi,AP⟩:=sb (fun k'=>aB ((aR (ncs k) w).getD k' []) x) _ (length_pos_iff.2 hl)
  obtain⟨j,hj,zF⟩:=sb (fun k'=> -aB ((aE (ncs k) w).getD k' []) x) _ (length_pos_iff.2 hh)
  have ml: ∀ {B:List (List Raw)} {n:Nat},n<B.length->B.getD n []∈B:=fun{B n} hn=>by
   rw[qa,qb hn];exact ki hn
  refine .inl ⟨aB ((aR (ncs k) w).getD i []) x,aB ((aE (ncs k) w).getD j []) x,?_,fun y=>?_⟩
  .have a:=q0.1 _ (ml hi)
   have b:=q0.2 _ (ml hj)
   grind
  rw[G_]
  constructor
  .rintro⟨a,b⟩
   exact⟨a _ (ml hi),b _ (ml hj)⟩
  rintro⟨a,b⟩
  refine⟨fun l hl=>?_,fun u hu=>?_⟩
  .obtain⟨q,hq,rfl⟩:=mem_iff_getElem.1 hl
   have:=AP q hq
   rw[qa,qb hq] at this
   simp only[Option.getD_some] at this
   grind
  obtain⟨q,hq,rfl⟩:=mem_iff_getElem.1 hu
  have:=zF q hq
  rw[qa,qb hq] at this
  simp only[Option.getD_some] at this
  grind
 exact .inr (fun y hy=>rC ⟨y,hy⟩)
end Go.Pl
namespace Go.Proofs.YtjjbkjgifdhlcaaGreat
open Go.AM Go.Pl
set_option maxRecDepth 100000
set_option maxHeartbeats 4000000
theorem ahZ (p q:List Tm) (hp:Canon p) (hq:Len8 q) (hb:PB 1000000000 (p++q)) (Xu: ∀ t∈q,∀ e∈t.1,-1000000000000<=e/\e<=1000000000000) (hn:p.length<=1000000) (Xl:q.length<=1000000):
 Den Tryz.prog 45 [] [PL (p.map tn),PL (q.map tn)] [] (PL ((nf (p++q)).map tn)):=by
 have rl:=av (q.map tn)
 rw[length_map] at rl
 obtain⟨n,cP⟩:=ax q.length
 rw[cP] at rl Xl
 rw[<-J5 hp hq]
 have hqB:=hb.bd (by decide)
 obtain⟨R,hR⟩:=ax (addT p q)
 rw[hR]
 refine dq Tryz.func45 19 0 ?_
 refine aY ?_
 refine wl (α:=Nat×List Tm) (fun⟨i,o⟩=>⟨[.any,PL (q.map tn),.any,.any,.nilsl,.fv (.sl (aq (o.map tn))),.int .i64 i]++replicate 14 .any,[]⟩)
  (fun⟨i,_⟩=>n - i) (fun⟨i,o⟩=>i<=n/\o=addT p (q.take i)) (0,p) ?_ ?_ ?_
 .exact bQ []
 .exact⟨eB _,rfl⟩
 rintro⟨i,o⟩ ⟨h1,ho⟩
 refine bU rl ?_
 refine bS ?_ ?_
 .intro g1 g2
  obtain⟨t,ht⟩: ∃ x,q[i]?=some x:=⟨_,qb (by omega)⟩
  have Zx:t∈q:=List.mem_of_getElem? ht
  have ez:q.take (i+1)=q.take i++[t]:=by rw[List.take_add_one,ht];rfl
  have ry:=c_ (ts:=q.map tn) (i:=i) (by rw[length_map];omega)
  rw[show(q.map tn).getD i oO=tn t by rw[qa,List.getElem?_map,ht];rfl] at ry
  have Xx:Len8 (q.take i):=fun x hx=>hq x (AY hx)
  have hoc:Canon o:=by rw[ho];exact nj hp Xx
  have ad3:PB 1000000000 (p++q.take i++[t]):=by
   have:=hb.take (p.length+(i+1));rw[List.take_append,eo (by omega),show p.length+(i+1) - p.length=i+1 by omega,ez,<-qlb] at this;exact this
  have afw:PB 1000000000 (p++q.take i):=by
   have:=hb.take (p.length+i);rw[List.take_append,eo (by omega),show p.length+i - p.length=i by omega] at this;exact this
  have Z':o=nf (p++q.take i):=by rw[ho,J5 hp Xx]
  have Xd: ∀ u∈o,Bd 1000000000 u.2:=by rw[Z'];exact afw.nf.bd (by decide)
  have hsb: ∀ u∈o,u.1=t.1->Bd 1000000000 (t.2+u.2):=fun u hu _=>by
   rw[Z'] at hu;exact ad3.snoc_bd (by decide) u hu
  have vm:o.length<=10000000000:=by
   have:=xy (p++q.take i);rw[<-Z',qe,qf] at this;omega
  have vk:Bd 1000000000 t.2:=hqB t (List.mem_append_right _ Zx)
  have ZH:=acV o (tn t) hoc Xd ⟨hq t Zx,fun x hx=>Xu t Zx x hx,bC vk⟩ vm (fun u hu he=>by
   show Bd _ ((cn t.2).q+u.2);rw[de];exact hsb u hu he)
  rw[show tq (tn t)=t by show(t.1,(cn t.2).q)=t;rw[de]] at ZH
  have wv:insT o t=addT p (q.take (i+1)):=by rw[ez,L4,ho]
  obtain⟨s,hs⟩:=ax (insT o t)
  rw[hs] at ZH wv
  have t8:(tn t).1.length=8:=hq t Zx
  have SD:=aW t8
  have fx:=aK t8
  refine ae (fE g2 ry SD @dQ rl fx) ?_
  repeat refine ag ?_
  refine gp ZH (by simp[cw,gW,dm,dQ,fS,fB]) ?_
  refine ae @dD ?_
  refine aw (i+1,s) ?_ ⟨by omega,wv⟩
  exact bQ []
 intro g1 g2
 have gv:q.take i=q:=eo (by omega)
 rw[gv,hR] at ho
 subst ho
 refine ae g2 ?_
 exact bj rfl
def oS (s:Int) (a b:List Raw):List Raw:=if s=1 then cB a b else cB b a
set_option maxHeartbeats 8000000
def adA (rest lo hi:List (List Raw)) (i j:Nat):List (List Raw):=
 rest++lU (oS 1 (lo.getD i [])) lo i lo.length++lU (oS (-1) (hi.getD j [])) hi j hi.length++[cB (hi.getD j []) (lo.getD i [])]
def ah0 (rest lo hi:List (List Raw)) (p:List Tm) (v i n:Nat):List RC:=
 (List.range n).map fun j=>(adA rest lo hi i j,betT v (lo.getD i []) (hi.getD j []) p)
def ah1 (rest lo hi:List (List Raw)) (p:List Tm) (v n:Nat):List RC:=(List.range n).flatMap fun i=>ah0 rest lo hi p v i hi.length
def ah2 (c:Kc) (p:List Tm) (v:Nat):List RC:=ah1 (d5 c v) (aR c v) (aE c v) p v (aR c v).length
structure adB (c:Kc) (p:List Tm) (v:Nat):Prop where
 hv:v<8
 ok: ∀ l∈c,LOk 499 l
 cn: ∀ l∈c,IsCn l
 len:c.length<=40
 bet: ∀ l∈aR c v,∀ u∈aE c v,Den Tryz.prog 88 [] [PL (p.map tn),.int .i64 v,RL l,RL u] [] (PL ((betT v l u p).map tn))
structure amH (l:List RR):Prop where
 len:l.length<=1000000
 cons: ∀ r∈l,r.1.length<=1000000
 poly: ∀ r∈l,(∀ t∈r.2,t.1.length=8)/\r.2.length<=1000000000000
structure amI (M:List RC):Prop where
 key: ∀ x∈M,AOk 1000000000 x.1/\x.1.length<=1000
 pol: ∀ x∈M,Len8 x.2/\x.2.length<=1000000/\(∀ t∈x.2,∀ e∈t.1,-1000000000000<=e/\e<=1000000000000)
 len:M.length<=1000000
structure amJ (L:List RR):Prop where
 nr:Il L
 lim40: ∀ r∈L,r.1.length<=40
def elimR (M:List RC) (v:Nat):List RC:=M.flatMap (fun r=>ah2 r.1 r.2 v)
end Go.Proofs.YtjjbkjgifdhlcaaGreat
