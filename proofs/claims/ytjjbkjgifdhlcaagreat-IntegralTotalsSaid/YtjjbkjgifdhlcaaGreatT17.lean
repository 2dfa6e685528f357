/- Contracts:integral.slab. -/
import Derived.Test.YtjjbkjgifdhlcaaGreatT16
import Derived.Test.YtjjbkjgifdhlcaaGreatT13
import Derived.Test.YtjjbkjgifdhlcaaGreatT15
import Derived.Test.YtjjbkjgifdhlcaaGreatT1
set_option linter.all false
open List (append_assoc append_nil ext_getElem filter_append filter_cons_of_neg flatMap_append length_cons length_map length_nil length_pos_of_mem length_set length_take map_cons mem_cons_of_mem mem_filter mem_iff_getElem mem_map mem_of_getElem? mem_of_mem_drop range_succ replicate)
namespace Go.Proofs.YtjjbkjgifdhlcaaGreat
open Go.AM Go.Pl
set_option maxRecDepth 100000
set_option maxHeartbeats 8000000
theorem RM (a b:List Raw) (ha:LOk 1000000 a) (hb:LOk 1000000 b):Den Tryz.prog 146 [] [RL a,RL b] [] (RL (bG a b)):=afp a b ha hb
def iQ (f:List Raw->List Raw) (l:List (List Raw)) (i n:Nat):List (List Raw):=((List.range n).filter (fun k=>decide (k≠i))).map (fun k=>f (l.getD k []))
theorem G9 (f:List Raw->List Raw) (l:List (List Raw)) (i:Nat):iQ f l i 0=[]:=rfl
theorem Ew (f:List Raw->List Raw) (l:List (List Raw)) (i:Nat):iQ f l i (i+1)=iQ f l i i:=by
 unfold iQ;rw[range_succ,filter_append];simp
theorem Ex (f:List Raw->List Raw) (l:List (List Raw)) {i k:Nat} (h:k≠i):iQ f l i (k+1)=iQ f l i k++[f (l.getD k [])]:=by
 unfold iQ;rw[range_succ,filter_append];simp[h]
theorem r9 (f:List Raw->List Raw) (l:List (List Raw)) (i n:Nat):(iQ f l i n).length<=n:=by
 unfold iQ;rw[length_map];exact gD (List.length_filter_le _ _) (by rw[List.length_range];exact qp _)
def sQ (u l:List Raw):Bool:=cy (bG u l)&&decide (fQ (co (bG u l) 8)<=0)
def j7 (rest lo hi:List (List Raw)) (i j:Nat):List (List Raw):=
 rest++[bG (hi.getD j []) (lo.getD i [])]++iQ (bG (lo.getD i [])) lo i lo.length++iQ (fun o=>bG o (hi.getD j [])) hi j hi.length
def px (rest lo hi:List (List Raw)) (p:List Tm) (v i n:Nat):List RC:=
 (List.range n).flatMap fun j=>if sQ (hi.getD j []) (lo.getD i []) then [] else [(j7 rest lo hi i j,betT v (lo.getD i []) (hi.getD j []) p)]
def sR (rest lo hi:List (List Raw)) (p:List Tm) (v n:Nat):List RC:=(List.range n).flatMap fun i=>px rest lo hi p v i hi.length
def mA (c:Kc) (p:List Tm) (v:Nat):List RC:=sR (ee c v) (bT c v) (ba c v) p v (bT c v).length
theorem Aj {rest lo hi:List (List Raw)} {p:List Tm} {v i n:Nat}:px rest lo hi p v i (n+1)=px rest lo hi p v i n++(if sQ (hi.getD n []) (lo.getD i []) then [] else [(j7 rest lo hi i n,betT v (lo.getD i []) (hi.getD n []) p)]):=by
 unfold px;rw[range_succ,flatMap_append,List.flatMap_singleton]
theorem Ak {rest lo hi:List (List Raw)} {p:List Tm} {v n:Nat}:sR rest lo hi p v (n+1)=sR rest lo hi p v n++px rest lo hi p v n hi.length:=by
 unfold sR;rw[range_succ,flatMap_append,List.flatMap_singleton]
theorem wC (rest lo hi:List (List Raw)) (p:List Tm) (v i:Nat): ∀ n,(px rest lo hi p v i n).length<=n
 | 0=>by simp[px]
 | n+1=>by
  have:=wC rest lo hi p v i n;rw[Aj,qe];split<;>simp<;>omega
theorem wD (rest lo hi:List (List Raw)) (p:List Tm) (v:Nat): ∀ n,(sR rest lo hi p v n).length<=n*hi.length
 | 0=>by simp[sR]
 | n+1=>by
  have h1:=wD rest lo hi p v n;have h2:=wC rest lo hi p v n hi.length;rw[Ak,qe,Nat.add_mul];omega
structure qF (c:Kc) (p:List Tm) (v:Nat):Prop where
 hv:v<8
 ok: ∀ l∈c,LOk 499 l
 len:c.length<=40
 bet: ∀ l∈bT c v,∀ u∈ba c v,sQ u l=false->Den Tryz.prog 33 [] [PL (p.map tn),.int .i64 v,RL l,RL u] [] (.tup [PL ((betT v l u p).map tn),.int .i64 0])
def G_ (c:Kc) (p:List Tm) (v:Nat):PV:=if bT c v=[]\/ba c v=[] then .tup [.fv (.sl []),.int .i64 15] else .tup [RL' ((mA c p v).map rn),.int .i64 0]
theorem ajV (c:Kc) (p:List Tm) (v:Nat) (h:qF c p v):Den Tryz.prog 91 [] [.agg (RA (rn (c,p))),.int .i64 v] [] (G_ c p v):=by
 have hv:=h.hv;have f_: ∀ l∈c,LOk 1000 l:=fun l hl=>(h.ok l hl).mono (by decide)
 have qX: ∀ b∈bT c v,LOk 999 b:=wj h.ok (by decide);have mN: ∀ b∈ba c v,LOk 999 b:=rL h.ok (by decide);have kE:=bN c v;have abM:=h.len;obtain⟨n,b8⟩:=ax c.length;have rl:=aq c;rw[b8] at rl abM kE;obtain⟨R,hR⟩:=ax (G_ c p v);rw[hR];have vy:=h.bet;unfold G_ mA at hR;obtain⟨Pt,hPt⟩:=ax (p.map tn);rw[hPt] at vy;have erg:RA (rn (c,p))=[.fv (.sl (ai c)),.fv (.sl (av Pt))]:=by rw[<-hPt];rfl
 rw[erg];clear erg;refine dq Tryz.func91 159 0 ?_;refine bw rl ?_;refine wl (α:=Nat×List (List Raw)×List (List Raw)×List (List Raw)) (fun⟨i,lo,hi,out⟩=>⟨[.any,.int .i64 v,.ptr 0 0 0,.any,.nilsl,.int .i64 0,.lsl 1 0 lo.length 27,.lsl 2 0 hi.length 27,.lsl 3 0 out.length 27]++replicate 17 .any++[.fv (.sl (ai c)),.int .i64 n,.int .i64 i]++replicate 132 .any,[.box true [.fv (.sl (ai c)),.fv (.sl (av Pt))],.row true (ai lo),.row true (ai hi),.row true (ai out)]⟩)
  (fun⟨i,_⟩=>n - i) (fun⟨i,lo,hi,out⟩=>i<=n/\lo=bT (c.take i) v/\hi=ba (c.take i) v/\out=ee (c.take i) v) (0,[],[],[]) ?_ ?_ ?_
 .refine Weak.nil 6 27 (by decide) rfl ?_;refine Weak.nil 7 27 (by decide) rfl ?_;refine Weak.nil 8 27 (by decide) rfl ?_;refine eH [0,1,2,3] ?_ ?_
  .simp[bh,dF,cw]
  simp[d_,fD,dL,cw];simp[ai]
 .exact⟨dk _,rfl,rfl,rfl⟩
 rintro⟨i,lo,hi,out⟩ ⟨nj,ej,eC,cG⟩;have dQ:=bN (c.take i) v;rw[<-ej,<-eC,<-cG,length_take,b8] at dQ;obtain⟨L1,KL⟩:=ax lo.length;obtain⟨L2,DW⟩:=ax hi.length;obtain⟨L3,KM⟩:=ax out.length;have Fj:=aq lo;have sY:=aq hi;have Pr:=aq out;dsimp only;rw[KL] at dQ Fj ⊢;rw[DW] at dQ sY ⊢;rw[KM] at dQ Pr ⊢;have Xa:=bc (ls:=lo) (n:=L1) (by omega);have Xb:=bc (ls:=hi) (n:=L2) (by omega);have KN:=bc (ls:=out) (n:=L3) (by omega);refine aW ?_;refine bM ?_ ?_
 .intro h1 h2;have cL:=eZ (cs:=c) (i:=i) (by omega);have aY:=bC (ls:=c) (i:=i) (by omega);have r1:=aV c i;obtain⟨x,jn⟩:=ax (c.getD i []);rw[jn] at aY r1 cL;have hx:=f_ x aY;have lx:=hx.len;have jG:=ay lx;have fx:=aE x;have gx:=ah x;have ji:=aj lx;have e0:((0:Int) !=0)=false:=rfl;by_cases h0:co x v=0
  .have kg:=QK x v hx hv h0;have pe:=g8 (s:=c.take i) (v:=v) (x:=x) (by grind);have sF:=gj (s:=c.take i) (v:=v) (x:=x) (by grind);have fj:=oY (s:=c.take i) h0;have bO:=bI out x;unfold FL RL at kg;obtain⟨zs,Uj⟩:=ax ((x.map Raw.q).map cn);have nu:zs.length=9:=by rw[<-Uj];simp[lx]
   have gz:=ah zs;rw[Uj] at kg;have e1:decide ((0:Int)>0)=false:=rfl;have e2:decide ((0:Int)<0)=false:=rfl;refine bm (eU h2 r1 jG fx gx lx ji) ?_
   repeat refine ag ?_
   refine gv kg ?_;refine bm (bu gz nu e0 e1 gx lx ji (dR jG KN bO Pr)) ?_
   repeat refine ag ?_
   refine aA (i+1,lo,hi,out++[x]) ?_ ⟨by omega,by rw[cL,pe,ej],by rw[cL,sF,eC],by rw[cL,fj,cG]⟩;exact bx [0,1,2,7]
  have kg:=Yp x v hx hv h0;have kd:(cJ v x).length=9:=eu lx;have fj:=rZ (s:=c.take i) h0;unfold FL RL at kg;change Den Tryz.prog 72 [] [.agg (flat x),.int .i64 v] [] (.tup [.agg (flat (cJ v x)),.int .i64 (fQ (x.getD v rz).q),.int .i64 0]) at kg;by_cases hp:0<co x v
  .have pe:=qC (s:=c.take i) hp;have sF:=gj (s:=c.take i) (v:=v) (x:=x) (by grind);have bO:=bI lo (cJ v x);obtain⟨y,hy⟩:=ax (cJ v x);rw[hy] at kg kd pe bO;have gy:=ah y;have kB:=ay kd;have gf:=aj kd;rw[show fQ (x.getD v rz).q=1 from lB hp] at kg;have e1:decide ((1:Int)>0)=true:=rfl;refine bm (eU h2 r1 jG fx gx lx ji) ?_
   repeat refine ag ?_
   refine gv kg ?_;refine bm (bu gy kd e0 e1 gf kB Xa (aB bO Fj)) ?_
   repeat refine ag ?_
   refine aA (i+1,lo++[y],hi,out) ?_ ⟨by omega,by rw[cL,pe,ej],by rw[cL,sF,eC],by rw[cL,fj,cG]⟩;exact bx [0,7,2,3]
  have iw:co x v<0:=by grind
  have pe:=g8 (s:=c.take i) (v:=v) (x:=x) hp;have sF:=nV (s:=c.take i) iw;have bO:=bI hi (cJ v x);obtain⟨y,hy⟩:=ax (cJ v x);rw[hy] at kg kd sF bO;have gy:=ah y;have kB:=ay kd;have gf:=aj kd;rw[show fQ (x.getD v rz).q= -1 from oK iw] at kg;have e1:decide ((-1:Int)>0)=false:=rfl;have e2:decide ((-1:Int)<0)=true:=rfl;refine bm (eU h2 r1 jG fx gx lx ji) ?_
  repeat refine ag ?_
  refine gv kg ?_;refine bm (bu gy kd e0 e1 e2 gf kB (bA Xb bO sY)) ?_
  repeat refine ag ?_
  refine aA (i+1,lo,hi++[y],out) ?_ ⟨by omega,by rw[cL,pe,ej],by rw[cL,sF,eC],by rw[cL,fj,cG]⟩;exact bx [0,1,7,3]
 intro h1 h2;have f0:i=n:=by omega
 have eO:c.take i=c:=dm (by omega);rw[eO] at ej eC cG;rw[<-ej] at qX vy hR;rw[<-eC] at mN vy hR;rw[<-cG] at hR;have au: ∀ l∈out,LOk 1000 l:=fun l hl=>by rw[cG] at hl;exact f_ l (nP.1 hl).1
 clear ej eC cG eO f_;by_cases hz1:L1=0
 .have e1:((L1:Int)==0)=true:=by rw[hz1];rfl
  rw[if_pos (.inl (List.length_eq_zero_iff.1 (by omega)))] at hR;subst hR;refine ae (aB h2 e1) ?_;exact a_ rfl
 have e1:((L1:Int)==0)=false:=by rw[qx];omega
 by_cases Xi:L2=0
 .have e2:((L2:Int)==0)=true:=by rw[Xi];rfl
  rw[if_pos (.inr (List.length_eq_zero_iff.1 (by omega)))] at hR;subst hR;refine ae (bA h2 e1 e2) ?_;exact a_ rfl
 have e2:((L2:Int)==0)=false:=by rw[qx];omega
 rw[if_neg (fun hh=>by
  rcases hh with hh | hh
  .rw[hh] at KL;simp at KL;omega
  rw[hh] at DW;simp at DW;omega)] at hR
 refine ae (bA h2 e1 e2) ?_;refine wl (α:=Nat×List RC) (fun⟨i,o2⟩=>⟨[.any,.int .i64 v,.ptr 0 0 0,.any,.nilsl,.int .i64 0,.fv (.sl (ai lo)),.fv (.sl (ai hi)),.fv (.sl (ai out))]++replicate 5 .any++[.lsl 1 0 o2.length 2]++replicate 54 .any++[.fv (.sl (ai lo)),.int .i64 L1,.int .i64 i]++replicate 89 .any,[.box true [.fv (.sl (ai c)),.fv (.sl (av Pt))],.row true (aG (o2.map rn))]⟩)
  (fun⟨i,_⟩=>L1 - i) (fun⟨i,o2⟩=>i<=L1/\o2=sR out lo hi p v i) (0,[]) ?_ ?_ ?_
 .refine Weak.shut [1,2,3] ?_;change Weak _ ⟨_,[Ob.box true [.fv (.sl (ai c)),.fv (.sl (av Pt))],Ob.row false (ai lo),Ob.row false (ai hi),Ob.row false (ai out)]⟩ _;refine Weak.fz 6 1 0 L1 27 (ai lo) rfl rfl (by omega) ?_;refine Weak.fz 69 1 0 L1 27 (ai lo) rfl rfl (by omega) ?_;refine Weak.fz 7 2 0 L2 27 (ai hi) rfl rfl (by omega) ?_;refine Weak.fz 8 3 0 L3 27 (ai out) rfl rfl (by omega) ?_;refine Weak.nil 14 2 (by decide) rfl ?_;refine eH [0,4] ?_ ?_
  .simp[bh,dF,cw,Xa,Xb,KN]
  simp[d_,fD,dL,cw];simp[aG]
 .exact⟨dk _,rfl⟩
 rintro⟨i,o2⟩ ⟨nj,fE⟩;have hK2:=wD out lo hi p v i;rw[<-fE] at hK2;have yu:i*hi.length<=1600:=gD (Nat.mul_le_mul (show i<=40 by omega) (show hi.length<=40 by omega)) (by decide);obtain⟨K2,KU⟩:=ax o2.length;have rlk:=aK (o2.map rn);rw[length_map,KU] at rlk;dsimp only;rw[KU] at hK2 ⊢;refine aW ?_;refine bM ?_ ?_
 .intro g1 g2;have jM:=bC (ls:=lo) (i:=i) (by omega);have Ps:=aV lo i;have hl:=qX _ jM;obtain⟨l,nk⟩:=ax (lo.getD i []);rw[nk] at jM Ps hl;have ll:=hl.len;have Zm:=ay ll;have fl:=aE l;have gl:=ah l;have wY:=aj ll;refine bm (bu g2 Ps Zm fl gl ll Fj (aB sY @SG)) ?_
  repeat refine ag ?_
  refine wl (α:=Nat×List RC) (fun⟨j,o3⟩=>⟨[.any,.int .i64 v,.ptr 0 0 0,.any,.nilsl,.int .i64 0,.fv (.sl (ai lo)),.fv (.sl (ai hi)),.fv (.sl (ai out))]++replicate 5 .any++[.lsl 1 0 o3.length 2,.int .i64 i,.ptr 2 0 0]++replicate 52 .any++[.fv (.sl (ai lo)),.int .i64 L1,.int .i64 i]++replicate 4 .any++[.fv (.sl (ai hi)),.int .i64 L2,.int .i64 j]++replicate 82 .any,[.box true [.fv (.sl (ai c)),.fv (.sl (av Pt))],.row true (aG (o3.map rn)),.box true (flat l)]⟩)
   (fun⟨j,_⟩=>L2 - j) (fun⟨j,o3⟩=>j<=L2/\o3=o2++px out lo hi p v i j) (0,o2) ?_ ?_ ?_
  .exact ou [0,1,2]
  .exact⟨dk _,by simp[px]⟩
  rintro⟨j,o3⟩ ⟨M4,yV⟩;have hK3:=wC out lo hi p v i j;obtain⟨K3,KV⟩:=ax o3.length;have alJ:K3<=1700:=by
   rw[<-KV,yV,qe,KU];omega
  have TK:=aK (o3.map rn);rw[length_map,KV] at TK;dsimp only;rw[KV];refine aW ?_;refine bM ?_ ?_
  .intro g3 g4;have Fz:=bC (ls:=hi) (i:=j) (by omega);have Pv:=aV hi j;have hu:=mN _ Fz;obtain⟨u,Tx⟩:=ax (hi.getD j []);rw[Tx] at Fz Pv hu;have lu:=hu.len;have Xd:=ay lu;have fu:=aE u;have gu:=ah u;have Bu:=aj lu;have tW:=RM u l (hu.mono (by decide)) (hl.mono (by decide));have xT:=d7 lu ll;have PA:=rK hu hl (by decide);have TL:=Aj (rest:=out) (lo:=lo) (hi:=hi) (p:=p) (v:=v) (i:=i) (n:=j);rw[nk,Tx] at TL;have jH:sQ u l=(cy (bG u l)&&decide (fQ (co (bG u l) 8)<=0)):=rfl;obtain⟨d,hd⟩:=ax (bG u l);rw[hd] at tW xT PA jH;have ahl:LOk 2000 d:=PA;have gd:=ah d;have Pu:=aj xT;have Zn:=ay xT;have I':=jY xT;have TM:=QZ d (ahl.mono (by decide));have I2:=nF (d.getD 8 rz) ((ahl.at 8).mono (by decide))
   have nv:co d 8=(d.getD 8 rz).q:=rfl;obtain⟨r,hr⟩:=ax (d.getD 8 rz);rw[hr] at I2 I' nv;rw[nv] at jH;unfold Raw.v at I2;unfold RL at tW TM;obtain⟨b,hb⟩:=ax (cy d);rw[hb] at TM jH;by_cases Xj:sQ u l=true
   .rw[Xj] at jH;have dX:b=true:=by cases b<;>simp at jH ⊢
    have vu:decide (fQ r.q<=0)=true:=by rw[dX] at jH;simpa using jH.symm
    subst dX;rw[if_pos Xj,append_nil] at TL;refine bm (bu g4 Pv Xd fu gu lu Bu (dR gl ll wY sY)) ?_
    repeat refine ag ?_
    refine gv tW ?_;refine vG ?_
    repeat refine ag ?_
    refine gv TM ?_;refine bm (dN gu lu Bu gl ll wY) ?_
    repeat refine ag ?_
    refine gv tW ?_;refine bm (bA I' gd xT) ?_
    repeat refine ag ?_
    refine aM I2 ?_;refine ae (aB vu @append_nil.{0}) ?_;refine aA (j+1,o3) ?_ ⟨by omega,by rw[yV,TL]⟩;exact ou [0,1,2]
   have ahm:sQ u l=false:=by simpa using Xj
   rw[if_neg Xj] at TL;have h33:=vy l jM u Fz ahm;have ahn:=aaa out (fun f hf=>(au f hf).len) (by omega);have rl6:=aq out;rw[KM] at rl6 ahn;have bO:=bI out d;have tk6:=bc (ls:=out) (n:=L3) (by omega);obtain⟨q,hq⟩:=ax (betT v l u p);rw[hq] at h33 TL;unfold RL at h33;have anU: ∀ X:St->Prop,X=X:=fun _=>rfl
   refine bm (bu g4 Pv Xd fu gu lu Bu (dR gl ll wY sY)) ?_
   repeat refine ag ?_
   refine gv tW ?_;refine vG ?_
   repeat refine ag ?_
   refine gv TM ?_;cases b
   case' true=>
    have vu:decide (fQ r.q<=0)=false:=by rw[ahm] at jH;simpa using jH.symm
    refine bm (dN gu lu Bu gl ll wY) ?_
    repeat refine ag ?_
    refine gv tW ?_;refine bm (bA I' gd xT) ?_
    repeat refine ag ?_
    refine aM I2 ?_;refine ae (aB vu @append_nil.{0}) ?_
   case' false=>
    refine vG ?_
   all_goals
    refine dw (by kernel_rfl) ?_;refine aN ?_;refine aM ahn ?_;refine ae (eU gu lu Bu gl ll wY @append_nil.{0}) ?_
    repeat refine ag ?_
    refine gv tW ?_;refine bm (dN gd xT Zn tk6 bO rl6) ?_
    repeat refine ag ?_
    clear I2 TM jH I';refine wl (α:=Nat×List (List Raw)) (fun⟨k,cs⟩=>⟨[.any,.int .i64 v,.ptr 0 0 0,.any,.nilsl,.int .i64 0,.fv (.sl (ai lo)),.fv (.sl (ai hi)),.fv (.sl (ai out))]++replicate 5 .any++[.lsl 1 0 K3 2,.int .i64 i,.ptr 2 0 0,.int .i64 j,.ptr 3 0 0,.ptr 5 0 0]++replicate 49 .any++[.fv (.sl (ai lo)),.int .i64 L1,.int .i64 i]++replicate 4 .any++[.fv (.sl (ai hi)),.int .i64 L2,.int .i64 j]++replicate 24 .any++[.fv (.sl (ai lo)),.int .i64 L1,.int .i64 k]++replicate 55 .any,[.box true [.fv (.sl (ai c)),.fv (.sl (av Pt))],.row true (aG (o3.map rn)),.box true (flat l),.box true (flat u),.row true (ai cs),.box true [.lsl 4 0 cs.length 27,.nilsl]]⟩)
     (fun⟨k,_⟩=>L1 - k) (fun⟨k,cs⟩=>k<=L1/\cs=(out++[d])++iQ (bG l) lo i k) (0,out++[d]) ?_ ?_ ?_
    .refine eH [0,1,2,3,6,7] ?_ ?_
     .simp[bh,dF,cw]
      try omega
     simp[d_,fD,dL,cw,ec]
     try omega
    .exact⟨dk _,by rw[G9,append_nil]⟩
    rintro⟨k,cs⟩ ⟨ke,fL⟩;have fr:cs.length<=L3+1+k:=by
     have:=r9 (bG l) lo i k;rw[fL,qe,qe,D0,KM];omega
    obtain⟨C,hC⟩:=ax cs.length;have rlc:=aq cs;rw[hC] at rlc fr;have tkc:=bc (ls:=cs) (n:=C) (by omega);dsimp only;rw[hC];refine aW ?_;refine bM ?_ ?_
    .intro f1 f2;have Zs:=bC (ls:=lo) (i:=k) (by omega);have rlo:=aV lo k;have dh:=fun hh=>Ex (bG l) lo (i:=i) (k:=k) hh
     have ho:=qX _ Zs;obtain⟨o,jf⟩:=ax (lo.getD k []);rw[jf] at Zs rlo ho dh;have lo':=ho.len;have o27:=ay lo';have fo:=aE o;have go:=ah o;have abN:=aj lo';by_cases DX:k=i
     .have e5:((k:Int) !=(i:Int))=false:=by rw[DX];simp
      refine bm (bu f2 rlo o27 fo go lo' Fj e5) ?_
      repeat refine ag ?_
      refine aA (k+1,cs) ?_ ⟨by omega,by rw[fL,DX,Ew]⟩;refine eH [0,1,2,3,4,5] ?_ ?_
      .simp[bh,dF,cw]
       try omega
      simp[d_,fD,dL,cw,ec]
      try omega
     have e5:((k:Int) !=(i:Int))=true:=by simp;omega
     have tW:=RM l o (hl.mono (by decide)) (ho.mono (by decide));have l7:(bG l o).length=9:=d7 ll lo';have Bx:=bI cs (bG l o);have vz:=dh DX;obtain⟨e,P6⟩:=ax (bG l o);change _=_++[bG l o] at vz;rw[P6] at tW l7 Bx vz;have ge:=ah e;have alK:=aj l7;have e27:=ay l7;unfold RL at tW;refine bm (bu f2 rlo o27 fo go lo' Fj e5) ?_
     repeat refine ag ?_
     refine dw (by kernel_rfl) ?_;refine ae (dN gl ll wY go lo' abN) ?_
     repeat refine ag ?_
     refine gv tW ?_;refine bm (dN ge l7 e27 tkc Bx rlc) ?_
     repeat refine ag ?_
     refine aA (k+1,cs++[e]) ?_ ⟨by omega,by rw[vz,fL];simp⟩;refine eH [0,1,2,3,8,5] ?_ ?_
     .simp[bh,dF,cw]
      try omega
     simp[d_,fD,dL,cw,ec]
     try omega
    intro f1 f2;have hke:k=L1:=by omega
    rw[hke] at fL;clear tkc;have alO:=fL;have aqf:cs.length<=L3+1+L1:=by omega
    refine ae (aB f2 sY) ?_;refine wl (α:=Nat×List (List Raw)) (fun⟨k,ct⟩=>⟨[.any,.int .i64 v,.ptr 0 0 0,.any,.nilsl,.int .i64 0,.fv (.sl (ai lo)),.fv (.sl (ai hi)),.fv (.sl (ai out))]++replicate 5 .any++[.lsl 1 0 K3 2,.int .i64 i,.ptr 2 0 0,.int .i64 j,.ptr 3 0 0,.ptr 5 0 0]++replicate 49 .any++[.fv (.sl (ai lo)),.int .i64 L1,.int .i64 i]++replicate 4 .any++[.fv (.sl (ai hi)),.int .i64 L2,.int .i64 j]++replicate 43 .any++[.fv (.sl (ai hi)),.int .i64 L2,.int .i64 k]++replicate 36 .any,[.box true [.fv (.sl (ai c)),.fv (.sl (av Pt))],.row true (aG (o3.map rn)),.box true (flat l),.box true (flat u),.row true (ai ct),.box true [.lsl 4 0 ct.length 27,.nilsl]]⟩)
     (fun⟨k,_⟩=>L2 - k) (fun⟨k,ct⟩=>k<=L2/\ct=cs++iQ (fun o=>bG o u) hi j k) (0,cs) ?_ ?_ ?_
    .refine eH [0,1,2,3,4,5] ?_ ?_
     .simp[bh,dF,cw]
      try omega
     simp[d_,fD,dL,cw,ec]
     try omega
    .exact⟨dk _,by rw[G9,append_nil]⟩
    rintro⟨k,ct⟩ ⟨ke,fL⟩;have fr:ct.length<=(L3+1+L1)+k:=by
     have:=r9 (fun o=>bG o u) hi j k;rw[fL,qe];omega
    obtain⟨C,hC⟩:=ax ct.length;have rlc:=aq ct;rw[hC] at rlc fr;have tkc:=bc (ls:=ct) (n:=C) (by omega);dsimp only;rw[hC];refine aW ?_;refine bM ?_ ?_
    .intro f1 f2;have Zs:=bC (ls:=hi) (i:=k) (by omega);have rlo:=aV hi k;have dh:=fun hh=>Ex (fun o=>bG o u) hi (i:=j) (k:=k) hh
     have ho:=mN _ Zs;obtain⟨o,jf⟩:=ax (hi.getD k []);rw[jf] at Zs rlo ho dh;have lo':=ho.len;have o27:=ay lo';have fo:=aE o;have go:=ah o;have abN:=aj lo';by_cases DX:k=j
     .have e5:((k:Int) !=(j:Int))=false:=by rw[DX];simp
      refine bm (bu f2 rlo o27 fo go lo' sY e5) ?_
      repeat refine ag ?_
      refine aA (k+1,ct) ?_ ⟨by omega,by rw[fL,DX,Ew]⟩;refine eH [0,1,2,3,4,5] ?_ ?_
      .simp[bh,dF,cw]
       try omega
      simp[d_,fD,dL,cw,ec]
      try omega
     have e5:((k:Int) !=(j:Int))=true:=by simp;omega
     have tW:=RM o u (ho.mono (by decide)) (hu.mono (by decide));have l7:(bG o u).length=9:=d7 lo' lu;have Bx:=bI ct (bG o u);have vz:=dh DX;obtain⟨e,P6⟩:=ax (bG o u);change _=_++[bG o u] at vz;rw[P6] at tW l7 Bx vz;have ge:=ah e;have alK:=aj l7;have e27:=ay l7;unfold RL at tW;refine bm (bu f2 rlo o27 fo go lo' sY e5) ?_
     repeat refine ag ?_
     refine dw (by kernel_rfl) ?_;refine ae (dN gu lu Bu go lo' abN) ?_
     repeat refine ag ?_
     refine gv tW ?_;refine bm (dN ge l7 e27 tkc Bx rlc) ?_
     repeat refine ag ?_
     refine aA (k+1,ct++[e]) ?_ ⟨by omega,by rw[vz,fL];simp⟩;refine eH [0,1,2,3,8,5] ?_ ?_
     .simp[bh,dF,cw]
      try omega
     simp[d_,fD,dL,cw,ec]
     try omega
    intro f1 f2;have hke:k=L2:=by omega
    rw[hke] at fL;clear tkc;have DY:ct=j7 out lo hi i j:=by
     unfold j7;rw[nk,Tx,hd,KL,DW,fL,alO]
    have tkc:=bc (ls:=ct) (n:=C) (by omega);have abO:aG (o3.map rn)++[[FV.sl (ai ct),FV.sl (av (q.map tn))]]=aG ((o3++[(ct,q)]).map rn):=by
     rw[tY];exact iu _ (rn (ct,q))
    have tk7:=cO (l:=o3.map rn) (n:=K3) (by rw[length_map];omega);have e6:((0:Int) !=0)=false:=rfl;refine ae (eU f2 gl ll wY gu lu Bu) ?_
    repeat refine ag ?_
    refine gv h33 ?_;refine bm (eU e6 tkc rlc abO tk7 TK @qp) ?_
    repeat refine ag ?_
    refine aA (j+1,o3++[(ct,q)]) ?_ ⟨by omega,by rw[yV,TL,DY,append_assoc]⟩;exact ou [0,7,2]
  intro g3 g4;have Nc:j=L2:=by omega
  rw[Nc,<-DW] at yV;refine ae g4 ?_;refine aA (i+1,o3) ?_ ⟨by omega,by rw[Ak,yV,fE]⟩;exact bx [0,1]
 intro g1 g2;have mO:i=L1:=by omega
 rw[mO,<-KL] at fE;rw[<-fE] at hR;subst hR;have tk:=cO (l:=o2.map rn) (n:=K2) (by rw[length_map];omega);refine ae g2 ?_;refine O7 (vs:=[.lsl 1 0 K2 2,.int .i64 0]) rfl ⟨cK,cK,cK⟩ (show t6 [Ob.box true [.fv (.sl (ai c)),.fv (.sl (av Pt))],Ob.row true (aG (o2.map rn))] [] (.tup [.lsl 1 0 K2 2,.int .i64 0])=_ from ?_);exact kT (aB tk rlk)
def missB (v:Nat) (r:RC):Bool:=(bT r.1 v).isEmpty||(ba r.1 v).isEmpty
def elimO (M:List RC) (v:Nat):List RC:=M.flatMap (fun r=>mA r.1 r.2 v)
theorem jC {v:Nat} {r:RC}:missB v r=true↔bT r.1 v=[]\/ba r.1 v=[]:=by
 unfold missB;rw[qsb,List.isEmpty_iff,List.isEmpty_iff]
def ko (c:Int):PV:= .tup [.fv (.sl []),.int .i64 c]
theorem ajW (L:List RR) (M N:List RC) (v:Nat) (hv:v<8) (lU:Den Tryz.prog 90 [] [RL' L] [] (.tup [RL' (M.map rn),.int .i64 0])) (hM:M.length<=100000) (hs: ∀ r∈M,qF r.1 r.2 v)
 (aF:(elimO M v).length<=10000000)
 (alQ:M.any (missB v)=false->Den Tryz.prog 90 [] [RL' ((elimO M v).map rn)] [] (.tup [RL' (N.map rn),.int .i64 0])):
 Den Tryz.prog 36 [] [RL' L,.int .i64 v] [] (if M.any (missB v)=true then ko 15 else .tup [RL' (N.map rn),.int .i64 0]):=by
 obtain⟨R,hR⟩:=ax ((if M.any (missB v)=true then ko 15 else .tup [RL' (N.map rn),.int .i64 0]))
 rw[hR]
 have rl:=aK (M.map rn)
 rw[length_map] at rl
 obtain⟨n,b8⟩:=ax M.length
 rw[b8] at rl hM
 have e0:((0:Int) !=0)=false:=rfl
 have e1:decide ((v:Int)<0)=false:=oc
 have e2:decide ((v:Int)>=8)=false:=oc
 refine dq Tryz.func36 47 0 ?_
 refine aW ?_
 refine aM lU ?_
 refine ae (dR e0 e1 e2 rl) ?_
 refine wl (α:=Nat×List RC) (fun⟨i,out⟩=>⟨[.any,.int .i64 v,.any,.any,.nilsl,.int .i64 0,.any,.lsl 0 0 out.length 2]++replicate 18 .any++[.fv (.sl (aG (M.map rn))),.int .i64 n,.int .i64 i]++replicate 20 .any,[.row true (aG (out.map rn))]⟩)
  (fun⟨i,_⟩=>n - i) (fun⟨i,out⟩=>i<=n/\out=elimO (M.take i) v/\(M.take i).any (missB v)=false) (0,[]) ?_ ?_ ?_
 .refine Weak.nil 7 2 (by decide) rfl ?_
  refine eH [0] ?_ ?_
  .simp[bh,dF,cw]
  simp[d_,fD]
  simp[aG]
 .exact⟨dk _,rfl,rfl⟩
 rintro⟨i,out⟩ ⟨h1,h2,h3⟩
 have pR:out.length<=10000000:=by
  refine gD ?_ aF;rw[h2];unfold elimO
  conv=>rhs;rw[<-List.take_append_drop i M,flatMap_append,qe]
  omega
 obtain⟨K,hK⟩:=ax out.length
 have rlo:=aK (out.map rn)
 rw[length_map,hK] at rlo
 dsimp only
 rw[hK] at pR ⊢
 refine aW ?_
 refine bM ?_ ?_
 .intro g1 g2
  obtain⟨⟨c,p⟩,hx⟩: ∃ x,M[i]?=some x:=⟨_,qb (by omega)⟩
  have sH:(c,p)∈M:=mem_of_getElem? hx
  have ry:=cF (l:=M.map rn) (i:=i) (by rw[length_map];omega)
  rw[show(M.map rn).getD i qB=rn (c,p) by rw[qa,List.getElem?_map,hx];rfl] at ry
  change _=[FV.sl (ai c),FV.sl (av (p.map tn))] at ry
  have I1:=ajV c p v (hs _ sH)
  change Den Tryz.prog 91 [] [.agg [.fv (.sl (ai c)),.fv (.sl (av (p.map tn)))],.int .i64 v] [] _ at I1
  have cL:M.take (i+1)=M.take i++[(c,p)]:=by
   rw[List.take_add_one,hx];rfl
  by_cases BO:missB v (c,p)=true
  .unfold G_ at I1
   rw[if_pos (jC.1 BO)] at I1
   rw[if_pos (fZ sH BO)] at hR
   subst hR
   have e3:((15:Int) !=0)=true:=rfl
   refine ae (bA g2 ry rl) ?_
   repeat refine ag ?_
   refine aM I1 ?_
   refine ae e3 ?_
   exact a_ rfl
  unfold G_ at I1
  rw[if_neg (fun hh=>BO (jC.2 hh))] at I1
  have kd:elimO (M.take (i+1)) v=out++mA c p v:=by
   rw[cL,h2];unfold elimO;rw[flatMap_append,List.flatMap_singleton]
  have kU:(mA c p v).length<=10000000:=by
   refine gD ?_ aF;unfold elimO;rw[List.flatMap_def];exact(List.sublist_flatten_of_mem (List.mem_map_of_mem (f:=fun r:RC=>mA r.1 r.2 v) sH)).length_le
  obtain⟨q,hq⟩:=ax (mA c p v)
  rw[hq] at I1 kd kU
  have rlq:=aK (q.map rn)
  rw[length_map] at rlq
  have bO:aG (out.map rn)++aG (q.map rn)=aG ((out++q).map rn):=by
   unfold aG;rw[tY,tY]
  have tk:=cO (l:=out.map rn) (n:=K) (by rw[length_map];omega)
  have TN: ∀ y,y∈aG (q.map rn)->y.length=2:=fun y hy=>by
   unfold aG at hy;obtain⟨x,_,rfl⟩:=mem_map.1 hy;rfl
  have h2t:(∀ y,y∈aG (q.map rn)->y.length=2)=True:=eq_true TN
  refine ae (bA g2 ry rl) ?_
  repeat refine ag ?_
  refine aM I1 ?_
  refine ae (dN e0 tk bO rlo rlq h2t) ?_
  repeat refine ag ?_
  refine aA (i+1,out++q) ?_ ⟨by omega,kd.symm,by rw[cL,qub,h3];simpa using BO⟩
  exact bx [2]
 intro g1 g2
 have f0:i=n:=by omega
 have eO:M.take i=M:=dm (by omega)
 rw[eO] at h2 h3
 have ahp:=alQ h3
 rw[<-h2] at ahp
 rw[if_neg (by rw[h3];decide)] at hR
 subst hR
 have tk:=cO (l:=out.map rn) (n:=K) (by rw[length_map];omega)
 refine ae g2 ?_
 refine gp ahp (by simp[bJ,eT,eo,dZ,tk,rlo]) ?_
 refine aN ?_
 exact a_ rfl
theorem afq (L:List RR) (v c:Int) (hc:c≠0) (lU:Den Tryz.prog 90 [] [RL' L] [] (ko c)):
 Den Tryz.prog 36 [] [RL' L,.int .i64 v] [] (ko c):=by
 have e0:(c !=0)=true:=by simpa using hc
 unfold ko at lU ⊢
 refine dq Tryz.func36 47 0 ?_
 refine aW ?_
 refine aM lU ?_
 refine ae e0 ?_
 exact a_ rfl
theorem afr (L:List RR) (M:List RC) (v:Int) (hv:v<0\/8<=v) (lU:Den Tryz.prog 90 [] [RL' L] [] (.tup [RL' (M.map rn),.int .i64 0])):
 Den Tryz.prog 36 [] [RL' L,.int .i64 v] [] (ko 1):=by
 have e0:((0:Int) !=0)=false:=rfl
 unfold ko
 by_cases h1:v<0
 .have e1:decide (v<0)=true:=f3 h1
  refine dq Tryz.func36 47 0 ?_
  refine aW ?_
  refine aM lU ?_
  refine ae (aB e0 e1) ?_
  exact a_ rfl
 have e1:decide (v<0)=false:=jI h1
 have e2:decide (v>=8)=true:=yP
 refine dq Tryz.func36 47 0 ?_
 refine aW ?_
 refine aM lU ?_
 refine ae (bA e0 e1 e2) ?_
 exact a_ rfl
def BX (M:List RC):Int×List Tm:=if M.any (fun r=>!r.1.isEmpty) then(2,[]) else(0,polyS' M)
def qG (E:List RC->Int->Int×List RC):List RC->List Int->Int×List RC
 | M,[]=>(0,M)
 | M,v::vs=>if(E M v).1=0 then qG E (E M v).2 vs else((E M v).1,[])
theorem Ey (E:List RC->Int->Int×List RC) (M:List RC):qG E M []=(0,M):=rfl
theorem qH (E:List RC->Int->Int×List RC) (M:List RC) (v:Int) (vs:List Int):qG E M (v::vs)=if(E M v).1=0 then qG E (E M v).2 vs else((E M v).1,[]):=rfl
def listV (x:Int×List RC):PV:=if x.1=0 then .tup [RL' (x.2.map rn),.int .i64 0] else ko x.1
def mB (x:Int×List Tm):PV:=if x.1=0 then .tup [PL (x.2.map tn),.int .i64 0] else ko x.1
def wE (E:List RC->Int->Int×List RC) (M:List RC) (vs:List Int):Int×List Tm:=if(qG E M vs).1=0 then BX (qG E M vs).2 else((qG E M vs).1,[])
structure RN (E:List RC->Int->Int×List RC) (I:List RC->Prop):Prop where
 den: ∀ M,I M-> ∀ v:Int,-9223372036854775808<=v->v<9223372036854775808->Den Tryz.prog 36 [] [RL' (M.map rn),.int .i64 v] [] (listV (E M v))
 next: ∀ M,I M-> ∀ v,(E M v).1=0->I (E M v).2
 len: ∀ M,I M->M.length<=1000000
 nf: ∀ M,I M->NF M
 one: ∀ M,I M-> ∀ r∈M,r.1=[]->POk 10000000 1024 r.2/\r.2.length<=bk
theorem Ez:POk 10000000 1024 []:=⟨.nil,by simp,by simp⟩
theorem ajX (E:List RC->Int->Int×List RC) (I:List RC->Prop) (hT:RN E I) (L:List RR) (M:List RC) (vs:List Int) (hw:W64 vs) (hn:vs.length<=1000) (hI:I M) (lU:Den Tryz.prog 90 [] [RL' L] [] (.tup [RL' (M.map rn),.int .i64 0])):
 Den Tryz.prog 40 [] [RL' L,.fv (.sl (ints vs))] [] (mB (wE E M vs)):=by
 obtain⟨R,hR⟩:=ax (mB (wE E M vs))
 rw[hR]
 have rl:=cv vs
 obtain⟨n,b8⟩:=ax vs.length
 rw[b8] at rl hn
 have e0:((0:Int) !=0)=false:=rfl
 refine dq Tryz.func40 56 0 ?_
 refine aW ?_
 refine aM lU ?_
 refine ae (aB e0 rl) ?_
 refine wl (α:=Nat×List RC) (fun⟨i,M'⟩=>⟨[.fv (.sl (aG (M'.map rn))),.any,.any,.any,.nilsl,.int .i64 0]++replicate 14 .any++[.fv (.sl (ints vs)),.int .i64 n,.int .i64 i]++replicate 35 .any,[]⟩)
  (fun⟨i,_⟩=>n - i) (fun⟨i,M'⟩=>i<=n/\I M'/\qG E M vs=qG E M' (vs.drop i)) (0,M) ?_ ?_ ?_
 .exact bx []
 .exact⟨dk _,hI,by rw[List.drop_zero]⟩
 rintro⟨i,M'⟩ ⟨h1,h2,h3⟩
 refine aW ?_
 refine bM ?_ ?_
 .intro g1 g2
  have hi:i<vs.length:=by omega
  have hd:vs.drop i=vs.getD i 0::vs.drop (i+1):=by
   rw[qj hi,qa,qb hi];rfl
  have ry:=iz (xs:=vs) hi
  have S6:=hw _ (r6 (l:=vs) (d:=0) hi)
  obtain⟨v,hv⟩:=ax (vs.getD i 0)
  rw[hv] at hd ry S6
  rw[hd] at h3
  have fM:=hT.den M' h2 v S6.1 S6.2
  have ox:=hT.next M' h2 v
  rw[qH] at h3
  unfold listV at fM
  obtain⟨⟨c,N⟩,hE⟩: ∃ x,E M' v=x:=⟨_,rfl⟩
  rw[hE] at fM ox h3
  dsimp only at fM ox h3
  by_cases hc:c=0
  .subst hc
   rw[if_pos rfl] at fM h3
   refine ae (bA g2 ry rl) ?_
   repeat refine ag ?_
   refine aM fM ?_
   refine ae e0 ?_
   refine aA (i+1,N) ?_ ⟨by omega,ox rfl,h3⟩
   exact bx []
  rw[if_neg hc] at fM h3
  have e1:(c !=0)=true:=by simpa using hc
  unfold ko at fM
  unfold wE at hR
  rw[h3] at hR
  dsimp only at hR
  rw[if_neg hc] at hR
  unfold mB at hR
  rw[if_neg hc] at hR
  subst hR
  refine ae (bA g2 ry rl) ?_
  repeat refine ag ?_
  refine aM fM ?_
  refine ae e1 ?_
  exact a_ rfl
 intro g1 g2
 have hd:vs.drop i=[]:=List.drop_of_length_le (by omega)
 rw[hd] at h3
 rw[Ey] at h3
 unfold wE at hR
 rw[h3] at hR
 dsimp only at hR
 rw[if_pos rfl] at hR
 have rlm:=aK (M'.map rn)
 rw[length_map] at rlm
 have jM:=hT.len M' h2
 obtain⟨m,hm⟩:=ax M'.length
 rw[hm] at rlm jM
 refine ae (aB g2 rlm) ?_
 refine wl (α:=Nat×List Tm) (fun⟨i,s⟩=>⟨[.any,.any,.any,.any,.nilsl,.int .i64 0,.any,.any,.any,.fv (.sl (av (s.map tn)))]++replicate 26 .any++[.fv (.sl (aG (M'.map rn))),.int .i64 m,.int .i64 i]++replicate 19 .any,[]⟩)
  (fun⟨i,_⟩=>m - i) (fun⟨i,s⟩=>i<=m/\s=polyS' (M'.take i)/\(M'.take i).any (fun r=>!r.1.isEmpty)=false) (0,[]) ?_ ?_ ?_
 .refine Weak.nil 9 11 (by decide) rfl ?_
  refine Weak.shut [0] ?_
  change Weak _ ⟨_,[Ob.row false []]⟩ _
  refine Weak.fz 9 0 0 0 11 [] rfl rfl (by simp) ?_
  refine eH [] ?_ ?_
  .simp[bh,dF,cw,av]
  simp[d_]
 .exact⟨dk _,rfl,rfl⟩
 rintro⟨i,s⟩ ⟨k1,k2,k3⟩
 refine aW ?_
 refine bM ?_ ?_
 .intro f1 f2
  obtain⟨⟨c,p⟩,hx⟩: ∃ x,M'[i]?=some x:=⟨_,qb (by omega)⟩
  have sH:(c,p)∈M':=mem_of_getElem? hx
  have ry:=cF (l:=M'.map rn) (i:=i) (by rw[length_map];omega)
  rw[show(M'.map rn).getD i qB=rn (c,p) by rw[qa,List.getElem?_map,hx];rfl] at ry
  change _=[FV.sl (ai c),FV.sl (av (p.map tn))] at ry
  have rlc:=aq c
  have cL:M'.take (i+1)=M'.take i++[(c,p)]:=by
   rw[List.take_add_one,hx];rfl
  cases c with
  | cons c0 c1=>
   have e1:decide (((c0::c1).length:Int)>0)=true:=f3 (by rw[length_cons];omega);unfold BX at hR;rw[if_pos (fZ sH rfl)] at hR;unfold mB at hR;rw[if_neg (by decide)] at hR;obtain⟨c,nh⟩:=ax (c0::c1);rw[nh] at ry rlc e1;subst hR;refine ae (fO f2 ry rlm rlc e1) ?_
   repeat refine ag ?_
   exact a_ rfl
  | nil=>
   have vN:=hT.nf M' h2;have dh:=hT.one M' h2 _ sH rfl;dsimp only at dh;have Cn:i=0:=by
    cases i with
    | zero=>rfl
    | succ q=>
     exfalso;have h0l:0<M'.length:=by omega
     have Kz:(M'[0]'h0l).1=[]:=by
      have aY:M'[0]'h0l∈M'.take (q+1):=by
       rw[mem_iff_getElem];exact⟨0,by rw[length_take];omega,by rw[List.getElem_take]⟩
      cases hh:(M'[0]'h0l).1 with
      | nil=>rfl
      | cons a b=>rw[fZ aY (by rw[hh];rfl)] at k3;cases k3
     have Ft:q+1<M'.length:=by omega
     have hcq:M'[q+1]'Ft=([],p):=(List.getElem?_eq_some_iff.1 hx).2;have:=List.pairwise_iff_getElem.1 vN.sorted 0 (q+1) h0l Ft (by omega);rw[Kz,hcq] at this;simp[cj] at this
   subst Cn;have DT:s=[]:=k2;subst DT;have ez:=(vN.can _ sH);have ni:nf ([]++p)=polyS' (M'.take 1):=by
    have:M'.take 1=[([],p)]:=by rw[cL];rfl
    rw[this,lK ez,List.nil_append,e_ ez]
   have KS:=ae3 [] p Ez dh.1 (by simp) dh.2 (by rw[List.nil_append,e_ ez];exact dh.2);have e1:decide ((([]:List (List Raw)).length:Int)>0)=false:=rfl;obtain⟨c,nh⟩:=ax (([]:List (List Raw)));have WE:c.isEmpty=true:=by rw[<-nh];rfl
   rw[nh] at ry rlc e1 cL;obtain⟨s2,Fu⟩:=ax (nf (([]:List Tm)++p));rw[Fu] at KS ni;refine ae (fO f2 ry rlm rlc e1) ?_
   repeat refine ag ?_
   refine aM KS ?_;refine ae e0 ?_;refine aA (0+1,s2) ?_ ⟨by omega,ni,by rw[cL,qub,k3];simp[WE]⟩;exact bx []
 intro f1 f2
 have eO:M'.take i=M':=dm (by omega)
 rw[eO] at k2 k3
 unfold BX at hR
 rw[if_neg (by rw[k3];decide),<-k2] at hR
 unfold mB at hR
 rw[if_pos rfl] at hR
 subst hR
 refine ae f2 ?_
 exact a_ rfl
end Go.Proofs.YtjjbkjgifdhlcaaGreat
namespace Go.Pl
open Go.AM
def Duo (v w:Nat) (Nv Nw:Int) (p:List Tm):Prop:= ∀ t∈p,t.1.length=8/\(∀ i,i<8->i≠v->i≠w->t.1.getD i 0=0)/\(0<=t.1.getD v 0/\t.1.getD v 0<=Nv)/\0<=t.1.getD w 0/\t.1.getD w 0<=Nw
def Uni (w:Nat) (N:Int) (p:List Tm):Prop:= ∀ t∈p,t.1.length=8/\(∀ i,i<8->i≠w->t.1.getD i 0=0)/\0<=t.1.getD w 0/\t.1.getD w 0<=N
theorem Uni.len8 {w:Nat} {N:Int} {p:List Tm} (h:Uni w N p):Len8 p:=fun t ht=>(h t ht).1
theorem Duo.len8 {v w:Nat} {N M:Int} {p:List Tm} (h:Duo v w N M p):Len8 p:=fun t ht=>(h t ht).1
theorem Uni.mono {w:Nat} {N M:Int} {p:List Tm} (h:Uni w N p) (hm:N<=M):Uni w M p:=fun t ht=>by
 obtain⟨a,b,c,d⟩:=h t ht;exact⟨a,b,c,by omega⟩
theorem Uni.nil {w:Nat} {N:Int}:Uni w N []:=fun t ht=>by simp at ht
theorem Uni.app {w:Nat} {N:Int} {p q:List Tm} (h:Uni w N p) (k:Uni w N q):Uni w N (p++q):=fun t ht=>by
 rcases List.mem_append.1 ht with h1 | h1
 .exact h t h1
 exact k t h1
theorem Uni.nf {w:Nat} {N:Int} {p:List Tm} (h:Uni w N p):Uni w N (Go.Pl.nf p):=fun t ht=>by
 obtain⟨x,hx,he⟩:=rF ht;rw[<-he];exact h x hx
theorem Dm {a b:Mn} (ha:a.length=8) (hb:b.length=8) {i:Nat} (hi:i<8):(fe a b).getD i 0=a.getD i 0+b.getD i 0:=by
 unfold fe;rw[qa,qa,qa,List.getElem?_zipWith,qb (by omega),qb (by omega)];rfl
theorem Uni.prod {w:Nat} {N M:Int} {p q:List Tm} (hw:w<8) (h:Uni w N p) (k:Uni w M q):Uni w (N+M) (prodT p q):=fun t ht=>by
 unfold prodT at ht;obtain⟨s,hs,ht⟩:=List.mem_flatMap.1 ht;obtain⟨u,hu,rfl⟩:=mem_map.1 ht;obtain⟨a1,a2,a3,a4⟩:=h s hs;obtain⟨b1,b2,b3,b4⟩:=k u hu;refine⟨iA a1 b1,fun i hi e7=>?_,?_⟩
 .show(fe s.1 u.1).getD i 0=0;rw[Dm a1 b1 hi,a2 i hi e7,b2 i hi e7];rfl
 show 0<=(fe s.1 u.1).getD w 0/\(fe s.1 u.1).getD w 0<=N+M;rw[Dm a1 b1 hw];omega
theorem Uni.scale {w:Nat} {N:Int} {p:List Tm} {r:Rat} (h:Uni w N p):Uni w N (cH p r):=fun t ht=>by
 obtain⟨u,hu,rfl⟩:=mem_map.1 ht;exact h u hu
theorem mZ {m:Mn} {v:Nat} {x:Int} (h:v<m.length):(m.set v x).getD v 0=x:=by
 rw[qa,qv h];rfl
theorem gJ {m:Mn} {v i:Nat} {x:Int} (h:v≠i):(m.set v x).getD i 0=m.getD i 0:=by
 rw[qa,qm h,qa]
theorem Duo.part {v w:Nat} {Nv Nw:Int} {d:Int} {p:List Tm} (hv:v<8) (nw:v≠w) (h:Duo v w Nv Nw p):Uni w Nw (bD v d p):=fun t ht=>by
 unfold bD at ht;obtain⟨u,hu,rfl⟩:=mem_map.1 ht;obtain⟨a1,a2,a3,a4⟩:=h u (mem_filter.1 hu).1;refine⟨by rw[length_set];exact a1,fun i hi e7=>?_,?_⟩
 .by_cases Ut:i=v
  .subst Ut;exact mZ (by omega)
  show(u.1.set v 0).getD i 0=0;rw[gJ (Ne.symm Ut)];exact a2 i hi Ut e7
 show 0<=(u.1.set v 0).getD w 0/\(u.1.set v 0).getD w 0<=Nw;rw[gJ nw];exact a4
theorem Duo.prim {v w:Nat} {Nv Nw:Int} {p:List Tm} (hv:v<8) (nw:v≠w) (h:Duo v w Nv Nw p):Duo v w (Nv+1) Nw (bg v p):=fun t ht=>by
 obtain⟨u,hu,rfl⟩:=mem_map.1 ht;obtain⟨a1,a2,a3,a4⟩:=h u hu;refine⟨by rw[length_set];exact a1,fun i hi h1 h2=>?_,?_,?_⟩
 .show(u.1.set v _).getD i 0=0;rw[gJ (Ne.symm h1)];exact a2 i hi h1 h2
 .show 0<=(u.1.set v _).getD v 0/\(u.1.set v _).getD v 0<=Nv+1;rw[mZ (by omega)];omega
 show 0<=(u.1.set v _).getD w 0/\(u.1.set v _).getD w 0<=Nw;rw[gJ nw];exact a4
theorem Duo.deg {v w:Nat} {Nv Nw:Int} {p:List Tm} (hN: -1<=Nv) (h:Duo v w Nv Nw p):ju v p<=Nv:=uC hN (fun t ht=>(h t ht).2.2.1.2)
theorem Duo.parts {v w:Nat} {Nv Nw:Int} {p:List Tm} (hv:v<8) (nw:v≠w) (h:Duo v w Nv Nw p): ∀ c∈dH v p,Uni w Nw c:=fun c hc=>by
 obtain⟨i,_,rfl⟩:=mem_map.1 hc;exact h.part hv nw
theorem G' {w:Nat} (hw:w<8) {q:List Tm} (hq:Uni w 1 q) {N:Int}: ∀ {cs:List (List Tm)},(∀ c∈cs,Uni w N c)->Uni w (N+cs.length) (hornT q cs)
 | [],_=>Uni.nil
 | c::cs,h=>by
  have ih:=G' hw hq (fun c hc=>h c (mem_cons_of_mem _ hc));have e:N+(((c::cs).length:Nat):Int)=N+(cs.length:Int)+1:=by rw[length_cons];omega
  rw[e];exact((ih.prod hw hq).app ((h c (by simp)).mono (by omega))).nf
theorem Vm {w:Nat} (_hw:w<8) {a b:Mn} (ha:a.length=8) (hb:b.length=8) (h1: ∀ i,i<8->i≠w->a.getD i 0=0) (h2: ∀ i,i<8->i≠w->b.getD i 0=0) (h:ig a b=true):a.getD w 0≠b.getD w 0:=fun he=>by
 refine v9 h (ext_getElem (by omega) (fun i nj iR=>?_));have e:a.getD i 0=b.getD i 0:=by
  by_cases yW:i=w
  .rw[yW];exact he
  rw[h1 i (by omega) yW,h2 i (by omega) yW]
 rw[qa,qb nj,qa,qb iR] at e;exact e
theorem r_: ∀ (N:Nat) (l:List Int),l.Nodup->(∀ x∈l,0<=x/\x<N)->l.length<=N
 | 0,l,_,h=>by
  match l with
  | []=>simp
  | x::l=>have:=h x (by simp);omega
 | N+1,l,hd,h=>by
  by_cases hm:(N:Int)∈l
  .have h1:=r_ N (l.erase N) (hd.erase _) (fun x hx=>by
    have h2:=h x (List.mem_of_mem_erase hx);have h3:x≠N:=fun he=>by rw[he] at hx;exact(List.Nodup.not_mem_erase hd) hx
    omega)
   rw[List.length_erase_of_mem hm] at h1;omega
  have h1:=r_ N l hd (fun x hx=>by
   have h2:=h x hx;have h3:x≠N:=fun he=>hm (by rw[<-he];exact hx)
   omega)
  omega
theorem yI {w:Nat} (hw:w<8) {N:Nat} {p:List Tm} (hc:Canon p) (h:Uni w N p):p.length<=N+1:=by
 have h1:(p.map (fun t=>t.1.getD w 0)).Nodup:=by
  have:p.Pairwise (fun a b=>(fun t:Tm=>t.1.getD w 0) a≠(fun t:Tm=>t.1.getD w 0) b):=by
   refine List.Pairwise.imp_of_mem (fun{a b} ha hb hg=>?_) hc.sorted;exact Vm hw (h a ha).1 (h b hb).1 (h a ha).2.1 (h b hb).2.1 hg
  exact List.pairwise_map.2 this
 have h2:=r_ (N+1) _ h1 (fun x hx=>by
  obtain⟨t,ht,rfl⟩:=mem_map.1 hx;have:=(h t ht).2.2;omega)
 rw[length_map] at h2;exact h2
theorem DM.prim {D v F:Nat} (hF:0<F): ∀ {p:List Tm} {M:Nat},DM D p M->(∀ t∈p,0<=t.1.getD v 0/\(t.1.getD v 0+1).toNat∣F)->DM (D*F) (bg v p) (M*F)
 | [],_,_,_=>trivial
 | t::p,M,⟨z,N,h1,h2,h3⟩,he=>by
  obtain⟨h4,h5⟩:=he t (by simp);obtain⟨g,hg⟩:=h5;obtain⟨e,P6⟩: ∃ e:Nat,t.1.getD v 0+1=(e:Int):=⟨(t.1.getD v 0+1).toNat,by omega⟩;rw[P6,Int.toNat_natCast] at hg;have he0:e≠0:=by omega
  have t_:g≠0:=fun h0=>by rw[h0] at hg;omega
  refine⟨z*g,N*F,?_,?_,DM.prim hF h3 (fun u hu=>he u (mem_cons_of_mem _ hu))⟩
  .show t.2 / ((t.1.getD v 0:Rat)+1)=mkRat (z*g) (D*F);rw[k4,P6,h1,hg];by_cases hD:D=0
   .subst hD;simp;rw[Rat.div_def,Rat.zero_mul]
   have e1:mkRat (z*g) (D*(e*g))=mkRat z (D*e):=by
    rw[show D*(e*g)=(D*e)*g by rw[Nat.mul_assoc]];exact(tg (z:=z) (D:=D*e) t_).symm
   rw[e1];have e2:((e:Int):Rat)≠0:=jw (by omega);have e3:mkRat z D=mkRat z (D*e)*((e:Int):Rat):=by
    rw[show((e:Int):Rat)=mkRat (e:Int) 1 by rw[Rat.mkRat_one],tj,Nat.mul_one,<-tg he0]
   rw[e3];grind
  have h6:(z*(g:Int)).natAbs=z.natAbs*g:=by rw[Int.natAbs_mul,Int.natAbs_natCast]
  rw[h6];have h7:z.natAbs*g<=z.natAbs*F:=Nat.mul_le_mul_left _ (Nat.le_of_dvd hF ⟨e,by rw[hg,Nat.mul_comm]⟩);have h8:=qn F h2;rw[Nat.add_mul] at h8;omega
theorem PB.prim {k v F:Nat} {p:List Tm} (hF:0<F) (hFB:F<B) (h:PB k p) (he: ∀ t∈p,0<=t.1.getD v 0/\(t.1.getD v 0+1).toNat∣F):PB (k+1) (bg v p):=by
 obtain⟨D,M,h1,h2,h3,h4⟩:=h;have hp:0<B^k:=Lb (by decide);refine⟨D*F,M*F,Nat.mul_pos h1 hF,?_,?_,h4.prim hF he⟩
 .rw[Nat.pow_succ];exact Nat.mul_lt_mul'' h2 hFB
 rw[Nat.pow_succ];exact Nat.mul_lt_mul'' h3 hFB
structure U1 (w N k:Nat) (p:List Tm):Prop where
 can:Canon p
 uni:Uni w N p
 pb:PB k p
theorem PB.flat {k:Nat} (hk:1<=k): ∀ {l:List (List Tm)},(∀ p∈l,PB k p)->PB (l.length*(k+1)+1) l.flatten
 | [],_=>(PB.nil (qp 1)).mono (by simp)
 | p::l,h=>by
  have ih:=PB.flat hk (fun q hq=>h q (mem_cons_of_mem _ hq));refine((h p (by simp)).append ih).mono ?_;rw[length_cons,Nat.add_mul];omega
end Go.Pl
namespace Go.Proofs.YtjjbkjgifdhlcaaGreat
open Go.AM Go.Pl
set_option maxRecDepth 100000
set_option maxHeartbeats 4000000
theorem Al: ∀ {p:List Tm} {t:Tm},Canon p->t∈p->b' t.1 p=t.2
 | x::p,t,h,ht=>by
  rcases List.mem_cons.1 ht with h1 | h1
  .rw[h1];exact h.sum_head
  have e7:=v9 (h.head t h1);have ih:=Al h.tail h1;rw[b',if_neg e7,ih];grind
theorem Dn {m:Mn}: ∀ {T:List Tm},(∀ t∈T,t.1=m->t.2=0)->b' m T=0
 | [],_=>rfl
 | t::T,h=>by
  rw[b',Dn (fun u hu=>h u (mem_cons_of_mem _ hu))];by_cases he:t.1=m
  .rw[if_pos he,h t (by simp) he];grind
  rw[if_neg he];grind
theorem j8 {i j:Nat} (hj:j<8):(z8.set i 1).getD j 0=if i=j then 1 else 0:=by
 by_cases h:i=j
 .subst h;rw[if_pos rfl,mZ (by rw[bX];exact hj)]
 rw[if_neg h,gJ h];unfold z8;rw[qa,List.getElem?_replicate];split<;>rfl
theorem sa {j:Nat}:z8.getD j 0=0:=by
 unfold z8;rw[qa,List.getElem?_replicate];split<;>rfl
structure RO (w j:Nat) (l:List Raw):Prop where
 ok:LOk j l
 one: ∀ i,i<8->i≠w->co l i=0
theorem j9 (l:List Raw):Canon (cg l):=dc (fun t ht=>by
 obtain⟨u,hu,rfl⟩:=mem_map.1 ht;unfold gI at hu;rcases List.mem_append.1 hu with h | h
 .obtain⟨j,_,rfl⟩:=mem_map.1 h;show(z8.set j 1).length=8;rw[length_set,bX]
 rw[qz] at h;rw[h];exact bX)
theorem sb {w j:Nat} {l:List Raw} (hw:w<8) (h:RO w j l):Uni w 1 (cg l):=fun t ht=>by
 have hc:=j9 l;have ku:=Al hc ht;have Ix:=hc.nz t ht;unfold cg at ku;rw[te] at ku;obtain⟨x,hx,he⟩:=rF ht;obtain⟨u,hu,rfl⟩:=mem_map.1 hx;have Bt:=hu;unfold gI at hu;rcases List.mem_append.1 hu with h1 | h1
 .obtain⟨i,hi,rfl⟩:=mem_map.1 h1;have pC:=List.mem_range.1 hi;have Jb:t.1=z8.set i 1:=he.symm;by_cases yW:i=w
  .subst yW;rw[Jb];refine⟨by rw[length_set,bX],fun k hk e7=>?_,?_⟩
   .rw[j8 hk,if_neg (Ne.symm e7)]
   rw[j8 hw,if_pos rfl];omega
  exfalso;refine Ix ?_;rw[<-ku];refine Dn (fun t2 KB he3=>?_);obtain⟨u2,Bt,rfl⟩:=mem_map.1 KB;unfold gI at Bt;have he4:u2.1=z8.set i 1:=by rw[<-Jb];exact he3
  rcases List.mem_append.1 Bt with h5 | h5
  .obtain⟨k,hk,rfl⟩:=mem_map.1 h5;have hk8:=List.mem_range.1 hk;have e5:=congrArg (fun m:List Int=>m.getD i 0) he4;dsimp only at e5;rw[j8 pC,j8 pC,if_pos rfl] at e5;by_cases DX:k=i
   .subst DX;exact h.one k hk8 yW
   rw[if_neg DX] at e5;omega
  rw[qz] at h5;subst h5;have e5:=congrArg (fun m:List Int=>m.getD i 0) he4;dsimp only at e5;rw[j8 pC,if_pos rfl,sa] at e5;omega
 rw[qz] at h1;subst h1;rw[<-he];exact⟨bX,fun k _ _=>sa,by show 0<=z8.getD w 0/\z8.getD w 0<=1;rw[sa];omega⟩
theorem Mq {w:Nat} {N:Int} {p:List Tm} (h:Uni w N p) (hN:0<=N): ∀ t∈p,∀ e∈t.1,0<=e/\e<=N:=fun t ht e he=>by
 obtain⟨a1,a2,a3⟩:=h t ht;obtain⟨i,hi,rfl⟩:=mem_iff_getElem.1 he;have e1:t.1.getD i 0=t.1[i]:=by rw[qa,qb hi];rfl
 rw[<-e1];by_cases yW:i=w
 .rw[yW];exact a3
 rw[a2 i (by omega) yW];omega
theorem yJ {v w:Nat} {N M K:Int} {p:List Tm} (h:Duo v w N M p) (hN:N<=K) (hM:M<=K) (hK:0<=K): ∀ t∈p,∀ e∈t.1,0<=e/\e<=K:=fun t ht e he=>by
 obtain⟨a1,a2,a3,a4⟩:=h t ht;obtain⟨i,hi,rfl⟩:=mem_iff_getElem.1 he;have e1:t.1.getD i 0=t.1[i]:=by rw[qa,qb hi];rfl
 rw[<-e1];by_cases yW:i=w
 .rw[yW];omega
 by_cases Ut:i=v
 .rw[Ut];omega
 rw[a2 i (by omega) Ut yW];omega
theorem EA {w:Nat} {N:Int} {p:List Tm} {j k:Nat} {E:Int} (h:Uni w N p) (hN:0<=N) (hE:N<=E) (hb:PB j p) (hj:1<=j) (hk:j<=k):LOkT k E p:=
 ⟨h.len8,fun t ht=>(hb.bd hj t ht).mono hk,fun t ht e he=>by have:=Mq h hN t ht e he;omega⟩
theorem EB {v w Nv Nw kp kq:Nat} {p q:List Tm} (hv:v<8) (hw:w<8) (nw:v≠w) (_hp:Canon p) (hd:Duo v w Nv Nw p) (hb:PB kp p) (hqc:Canon q) (hq:Uni w 1 q) (Us:PB kq q) (hN:Nw+Nv<=9) (ke:1<=kp)
 (hk:(Nv+1)*(kq+kp+1)+1+kq<=900000):zU q (dH v p)/\Uni w ((Nw+Nv+1:Nat):Int) (cS v q p)/\PB ((Nv+1)*(kq+kp+1)+1) (cS v q p):=by
 have KW:=hd.parts hv nw
 have kU:=tm v p
 have Kr:=hd.deg (by omega)
 have aqi:=uA (v:=v) (p:=p)
 have Zj: ∀ c∈dH v p,PB kp c:=fun c hc=>by
  obtain⟨i,_,rfl⟩:=mem_map.1 hc;exact hb.part
 have aF:(dH v p).length<=Nv+1:=by omega
 have hh: ∀ i,Uni w ((Nw+Nv+1:Nat):Int) (hornT q ((dH v p).drop i))/\PB ((Nv+1)*(kq+kp+1)+1) (hornT q ((dH v p).drop i))/\Canon (hornT q ((dH v p).drop i)):=fun i=>by
  have xT:((dH v p).drop i).length<=Nv+1:=by rw[qt];omega
  refine⟨(G' hw hq (fun c hc=>KW c (mem_of_mem_drop hc))).mono (by omega),(LO Us (fun c hc=>Zj c (mem_of_mem_drop hc))).mono ?_,pZ hqc.len (fun c hc=>(KW c (mem_of_mem_drop hc)).len8)⟩;have:=qn (kq+kp+1) xT;omega
 have Na:bk=12:=rfl
 refine⟨⟨fun i=>?_,fun i=>?_,fun c hc=>?_⟩,?_,?_⟩
 .obtain⟨h1,h2,h3⟩:=hh i
  exact⟨EA h1 (by omega) (by omega) h2 (by omega) (by omega),gD (yI hw h3 h1) (by rw[Na];omega)⟩
 .obtain⟨h1,h2,h3⟩:=hh i
  have h4:=(h1.prod hw hq).nf
  have h5:=(h2.prod Us).nf
  have e:((Nw+Nv+1:Nat):Int)+1=((Nw+Nv+2:Nat):Int):=by omega
  rw[e] at h4
  exact⟨EA h4 (by omega) (by omega) h5 (by omega) (by omega),gD (yI hw (dc (Len8.prod h3.len hqc.len)) h4) (by rw[Na];omega)⟩
 .have h1:=KW c hc
  have h3:Canon c:=by
   obtain⟨i,_,rfl⟩:=mem_map.1 hc;exact pY _hp
  exact⟨EA h1 (by omega) (by omega) (Zj c hc) ke (by have:=Nat.le_mul_of_pos_left (kq+kp+1) (show 0<Nv+1 by omega);omega),gD (yI hw h3 h1) (by rw[Na];omega)⟩
 .have:=(hh 0).1
  rw[List.drop_zero] at this
  exact this
 have:=(hh 0).2.1
 rw[List.drop_zero] at this
 exact this
theorem RP {v w Nv Nw kp j F:Nat} {p:List Tm} {lo hi:List Raw} (hv:v<8) (hw:w<8) (nw:v≠w) (hp:Canon p) (hd:Duo v w Nv Nw p) (hb:PB kp p) (kU:p.length<=12) (hF:0<F) (hFB:F<B)
 (Ta: ∀ d,1<=d->d<=Nv+1->d∣F) (ej:RO w j lo) (eC:RO w j hi) (hj:1<=j) (wZ:j<=1000) (hN:Nw+Nv<=8) (ke:1<=kp) (jF:kp<=400000)
 (K:Nat) (hK:(Nv+2)*(9*(j+1)+1+(kp+1)+1)+1=K) (hK2:K+9*(j+1)+1<=900000):
 Den Tryz.prog 33 [] [PL (p.map tn),.int .i64 v,RL lo,RL hi] [] (.tup [PL ((betT v lo hi p).map tn),.int .i64 0])/\Canon (betT v lo hi p)/\Uni w ((Nw+Nv+2:Nat):Int) (betT v lo hi p)/\PB (2*K+2) (betT v lo hi p):=by
 have Na:bk=12:=rfl
 have PY: ∀ t∈p,0<=t.1.getD v 0:=fun t ht=>(hd t ht).2.2.1.1
 have wW:=oI (v:=v) hv hp PY
 have TP:Duo v w ((Nv+1:Nat):Int) Nw (bg v p):=by
  have:=hd.prim hv nw;rw[show((Nv:Int)+1)=((Nv+1:Nat):Int) by omega] at this;exact this
 have TQ:=hb.prim (v:=v) hF hFB (fun t ht=>⟨PY t ht,Ta _ (by have:=PY t ht;omega) (by have:=(hd t ht).2.2.1;omega)⟩)
 have uhi:=sb hw eC
 have ulo:=sb hw ej
 have bhi:=j6 eC.ok hj
 have blo:=j6 ej.ok hj
 have eK:(Nv+1+1)*(9*(j+1)+1+(kp+1)+1)+1=K:=hK
 have s1:=EB (Nv:=Nv+1) (Nw:=Nw) hv hw nw wW TP TQ (j9 hi) uhi bhi (by omega) (by omega) (by rw[eK];omega)
 have s2:=EB (Nv:=Nv+1) (Nw:=Nw) hv hw nw wW TP TQ (j9 lo) ulo blo (by omega) (by omega) (by rw[eK];omega)
 have eN:((Nw+(Nv+1)+1:Nat):Int)=((Nw+Nv+2:Nat):Int):=by omega
 rw[eN] at s1 s2
 rw[eK] at s1 s2
 have Tp:Uni w ((Nw+Nv+2:Nat):Int) (betT v lo hi p):=(s1.2.1.app s2.2.1.scale).nf
 have W6:PB (2*K+2) (betT v lo hi p):=((s1.2.2.append (s2.2.2.scale (k:=1) ⟨by decide,by decide⟩)).nf).mono (by omega)
 have W0:Canon (betT v lo hi p):=dc (Len8.app s1.2.1.len8 s2.2.1.scale.len8)
 have Xk:=yJ hd (K:=1024) (by omega) (by omega) (by omega)
 have yQ:=EA Tp (k:=1000000000) (E:=1000000) (by omega) (by omega) W6 (by omega) (by omega)
 have hpk:POk 900000 1024 p:=⟨hp,fun t ht=>(hb.bd ke t ht).mono (by omega),Xk⟩
 have en:=(hpk.ts (by decide))
 have vN:nfR (p.map tn)=p:=by unfold nfR;rw[bE,e_ hp]
 have alV:POk 500000 1024 p:=⟨hp,fun t ht=>(hb.bd ke t ht).mono (by omega),Xk⟩
 have h33:=ajU (p.map tn) v hv lo hi (alV.ts (by decide)) (by rw[length_map];omega) (by rw[vN];exact hpk) (by rw[vN,Na];exact kU) hpk.validB (by
  rw[vN];unfold xY;rw[vP];intro t ht;exact f3 (by have:=(hd t ht).2.2.1;omega)) (ej.ok.mono wZ) (eC.ok.mono wZ) (ej.one v hv nw) (eC.one v hv nw)
  (by rw[vN];exact s1.1) (by rw[vN];exact s2.1) (by rw[vN,Na];exact gD (yI hw W0 Tp) (by omega))
  (by rw[vN];exact(Mc (N:=1024) (by decide) W0.len).2 (fun t ht x hx=>by have:=Mq Tp (by omega) t ht x hx;omega)) (by rw[vN];exact yQ)
 rw[vN] at h33
 exact⟨h33,W0,Tp,W6⟩
end Go.Proofs.YtjjbkjgifdhlcaaGreat
namespace Go.Pl
open Go.AM
def Two (v w:Nat) (cs:List (List Raw)):Prop:= ∀ l∈cs,∀ i,i<8->i≠v->i≠w->co l i=0
theorem On {v w:Nat} {cs:List (List Raw)} (h:Two v w cs):bL cs<=2/\(v=w->bL cs<=1):=by
 have key: ∀ w'∈(List.range 8).filter (occ cs),w'=v\/w'=w:=fun w' hw=>by
  rw[mem_filter,List.mem_range] at hw;obtain⟨l,hl,h0⟩:=eP.1 hw.2;by_cases h1:w'=v
  .exact .inl h1
  by_cases h2:w'=w
  .exact .inr h2
  exact absurd (h l hl w' hw.1 h1 h2) h0
 have oh:((List.range 8).filter (occ cs)).Pairwise (fun a b=>a≠b):=List.Pairwise.filter _ List.nodup_range;refine⟨?_,fun he=>?_⟩
 .have:=kN _ [v,w] oh (fun f hf=>by rcases key f hf with h1 | h1<;>simp[h1])
  exact this
 subst he;have:=kN _ [v] oh (fun f hf=>by rcases key f hf with h1 | h1<;>simp[h1])
 exact this
theorem JQ {v w k:Nat} {cs:List (List Raw)} (hk: ∀ l∈cs,LOk k l) (ke:1<=k) (h2:Two v w cs) (aF:cs.length<=100) (hn:((ncs cs).length<=7/\k<=59)\/(v=w/\(ncs cs).length<=12/\k<=499)):tZ cs:=by
 have h9: ∀ l∈cs,l.length=9:=fun l hl=>(hk l hl).len
 have Iw:=gQ h9;have h1:=rN h9 Iw;obtain⟨h3,h3'⟩:=On h2;have h4:=lC h9 Iw;have hg:GoodT (sysL cs []):=⟨2*k,by omega,SysF.of h9 Iw (fun l hl _=>mh (hk l hl) ke),⟨by omega,fun h=>by omega,fun h=>by
  rcases hn with hn | hn
  .omega
  have:=h3' hn.1;omega,fun h=>by omega⟩⟩
 exact⟨⟨fun l hl=>(hk l hl).mono (by omega),aF,by omega,hg.good,fun l hl _=>(hk l hl).mono (by omega)⟩,hg⟩
theorem tD {cs:List (List Raw)} (h9: ∀ l∈cs,l.length=9) (hi:aZ cs=true) {f:List Raw} (hf:f∈aQ cs): ∃ l∈cs,¬aX l/\f=dp l:=by
 unfold aQ at hf;rw[if_pos hi] at hf;exact((gQ h9).mem f).1 ((qq _ _ _).subset hf)
theorem EC {cs:List (List Raw)} (h9: ∀ l∈cs,l.length=9) (hi:aZ cs=true):(aQ cs).length<=(ncs cs).length:=by
 unfold aQ;rw[if_pos hi];exact gD (qq _ _ _).length_le (lC h9 (gQ h9))
theorem tE {v w k:Nat} {cs:List (List Raw)} (hk: ∀ l∈cs,LOk k l) (ke:1<=k) (h2:Two v w cs) (hi:aZ cs=true):(∀ l∈aQ cs,LOk (2*k) l)/\Two v w (aQ cs)/\ ∀ l∈aQ cs,¬aX l:=by
 have h9: ∀ l∈cs,l.length=9:=fun l hl=>(hk l hl).len
 refine⟨fun l hl=>?_,fun l hl i pC hv hw=>?_,fun l hl=>?_⟩<;>obtain⟨x,hx,hc,rfl⟩:=tD h9 hi hl
 .exact mh (hk x hx) ke
 .exact(yD (h9 x hx) hc (by omega)).2 (h2 x hx i pC hv hw)
 exact jy (h9 x hx) hc
theorem ED {cs:List (List Raw)} (h:tZ cs) (hi:aZ cs=true):aZ (aQ cs)=true:=by
 obtain⟨x,hx⟩:=(cX h.cs.len9).1 hi;exact(cX (N' h).cs.len9).2 ⟨x,(z_ h x).2 hx⟩
theorem Mr {v w k:Nat} {cs:List (List Raw)} (hv:v<8) (hk: ∀ l∈cs,LOk k l) (ke:1<=k) (h2:Two v w cs):(∀ l∈bT cs v,LOk (2*k+1) l/\ ∀ i,i<8->i≠w->co l i=0)/\ ∀ l∈ba cs v,LOk (2*k+1) l/\ ∀ i,i<8->i≠w->co l i=0:=by
 have key: ∀ x∈cs,co x v≠0-> ∀ i,i<8->i≠w->co (cJ v x) i=0:=fun x hx h0 i hi hw=>by
  have hb:=im (v:=v) (hk x hx).len h0;rw[hb.2 i (by omega)];by_cases hvi:v=i
  .rw[if_pos hvi]
  rw[if_neg hvi,h2 x hx i hi (Ne.symm hvi) hw];grind
 refine⟨fun l hl=>⟨wj hk ke l hl,?_⟩,fun l hl=>⟨rL hk ke l hl,?_⟩⟩
 .obtain⟨x,hx,h0,rfl⟩:=gN.1 hl;exact key x hx (fun he=>by rw[he] at h0;exact absurd h0 (by decide))
 obtain⟨x,hx,h0,rfl⟩:=fI.1 hl;exact key x hx (fun he=>by rw[he] at h0;exact absurd h0 (by decide))
theorem nW {w:Nat} {u l:List Raw} (hu:u.length=9) (hl:l.length=9) (h1: ∀ i,i<8->i≠w->co u i=0) (h2: ∀ i,i<8->i≠w->co l i=0): ∀ i,i<8->i≠w->co (bG u l) i=0:=fun i hi hw=>by
 rw[kM hu hl (by omega),h1 i hi hw,h2 i hi hw];grind
theorem uW {v w u:Nat} {cs:List (List Raw)} (h2:Two v w cs) (hu:u<8) (hv:u≠v) (hw:u≠w):bT cs u=[]/\ba cs u=[]:=by
 constructor
 .unfold bT;rw[iC (fun l hl=>by rw[h2 l hl u hu hv hw];rfl)];rfl
 unfold ba;rw[iC (fun l hl=>by rw[h2 l hl u hu hv hw];rfl)];rfl
theorem Ms {v w:Nat} (hv:v<8) (hw:w<8) {Nv Nw:Nat} {p:List Tm} (hc:Canon p) (h:Duo v w Nv Nw p):p.length<=(Nv+1)*(Nw+1):=by
 obtain⟨f,hf⟩: ∃ f:Tm->Int,f=fun t=>t.1.getD v 0*((Nw:Int)+1)+t.1.getD w 0:=⟨_,rfl⟩
 have h1:(p.map f).Nodup:=by
  have:p.Pairwise (fun a b=>f a≠f b):=by
   refine List.Pairwise.imp_of_mem (fun{a b} ha hb hg he=>?_) hc.sorted;obtain⟨a1,a2,a3,a4⟩:=h a ha;obtain⟨b1,b2,b3,b4⟩:=h b hb;rw[hf] at he;dsimp only at he;have Wr:a.1.getD v 0=b.1.getD v 0:=by
    obtain⟨x,hx⟩:=Lc (a.1.getD v 0);obtain⟨y,hy⟩: ∃ x,b.1.getD v 0=x:=⟨_,rfl⟩;obtain⟨s,hs⟩: ∃ x,a.1.getD w 0=x:=⟨_,rfl⟩;obtain⟨t,ht⟩: ∃ x,b.1.getD w 0=x:=⟨_,rfl⟩;rw[hx,hy,hs,ht] at he;rw[hx,hy];rw[hs] at a4;rw[ht] at b4;rcases Int.lt_trichotomy x y with h5 | h5 | h5
    .have:(x+1)*((Nw:Int)+1)<=y*((Nw:Int)+1):=Int.mul_le_mul_of_nonneg_right (by omega) (by omega);rw[Int.add_mul] at this;omega
    .exact h5
    have:(y+1)*((Nw:Int)+1)<=x*((Nw:Int)+1):=Int.mul_le_mul_of_nonneg_right (by omega) (by omega);rw[Int.add_mul] at this;omega
   have hww:a.1.getD w 0=b.1.getD w 0:=by rw[Wr] at he;omega
   refine v9 hg (ext_getElem (by omega) (fun i nj iR=>?_));have e:a.1.getD i 0=b.1.getD i 0:=by
    by_cases Ut:i=v
    .rw[Ut];exact Wr
    by_cases yW:i=w
    .rw[yW];exact hww
    rw[a2 i (by omega) Ut yW,b2 i (by omega) Ut yW]
   rw[qa,qb nj,qa,qb iR] at e;exact e
  exact List.pairwise_map.2 this
 have h2:=r_ ((Nv+1)*(Nw+1)) _ h1 (fun x hx=>by
  obtain⟨t,ht,rfl⟩:=mem_map.1 hx;obtain⟨_,_,b3,b4⟩:=h t ht;rw[hf];dsimp only;have e1:0<=t.1.getD v 0*((Nw:Int)+1):=Int.mul_nonneg b3.1 (by omega);have e2:t.1.getD v 0*((Nw:Int)+1)<=(Nv:Int)*((Nw:Int)+1):=Int.mul_le_mul_of_nonneg_right b3.2 (by omega);have e3:(((Nv+1)*(Nw+1):Nat):Int)=(Nv:Int)*((Nw:Int)+1)+((Nw:Int)+1):=by
   rw[Int.natCast_mul];show((Nv:Int)+1)*((Nw:Int)+1)=_;rw[Int.add_mul,Int.one_mul]
  omega)
 rw[length_map] at h2;exact h2
theorem Duo.nf {v w:Nat} {N M:Int} {p:List Tm} (h:Duo v w N M p):Duo v w N M (Go.Pl.nf p):=fun t ht=>by
 obtain⟨x,hx,he⟩:=rF ht;rw[<-he];exact h x hx
theorem Uni.duo {v w:Nat} {N:Int} {p:List Tm} (h:Uni v N p) (hw:w<8) (nw:w≠v):Duo v w N 0 p:=fun t ht=>by
 obtain⟨a1,a2,a3⟩:=h t ht;exact⟨a1,fun i hi h1 _=>a2 i hi h1,a3,by rw[a2 w hw nw];omega⟩
theorem Duo.flat {v w:Nat} {N M:Int} {l:List RC} (h: ∀ r∈l,Duo v w N M r.2):Duo v w N M (l.flatMap (·.2)):=fun t ht=>by
 obtain⟨r,hr,h1⟩:=List.mem_flatMap.1 ht;exact h r hr t h1
theorem PB.flatR {k c:Nat} (hk:1<=k) {l:List RC} (h: ∀ r∈l,PB k r.2) (hc:l.length<=c):PB (c*(k+1)+1) (l.flatMap (·.2)):=by
 have:=PB.flat hk (l:=l.map (·.2)) (fun p hp=>by
  obtain⟨r,hr,rfl⟩:=mem_map.1 hp;exact h r hr)
 rw[length_map,<-List.flatMap_def] at this;exact this.mono (by have:=qn (k+1) hc;omega)
theorem Am {l:List RC} (hl:RcOk l) {r:RC} (hr:r∈ir l):r.2=polyS' (l.filter (fun x=>decide (x.1=r.1)))/\ ∃ x∈l,x.1=r.1:=by
 have vN:=rY hl;have hk:=vN.cn r hr;have kv:RcOk (l.filter (fun x=>decide (x.1=r.1))):=fun x hx=>hl x (mem_filter.1 hx).1
 have gg: ∀ {M:List RC},NF M->r∈M-> ∀ m,dA r.1 m M=b' m r.2:=fun{M}=>by
  induction M with
  | nil=>intro _ h;simp at h
  | cons x M ih=>
   intro hM h m;rcases List.mem_cons.1 h with h1 | h1
   .rw[h1];exact hM.own
   have aL:=hM.head r h1;have e7:x.1≠r.1:=fun he=>by rw[he,nU] at aL;omega
   rw[dA,if_neg e7,ih hM.tail h1 m];grind
 have ahq: ∀ m,dA r.1 m l=b' m ((l.filter (fun x=>decide (x.1=r.1))).flatMap (·.2)):=fun m=>by
  clear hl hr vN kv gg
  induction l with
  | nil=>rfl
  | cons x l ih=>
   rw[dA,ih];by_cases he:x.1=r.1
   .rw[if_pos he,List.filter_cons_of_pos (by simpa using he),List.flatMap_cons,fT]
   rw[if_neg he,filter_cons_of_neg (by simpa using he)];grind
 refine⟨oE (vN.can r hr) (dc kv.flat) (fun m=>?_),?_⟩
 .unfold polyS';rw[te,<-ahq,<-uR hl,gg vN hr]
 obtain⟨m,hm⟩:=lJ (vN.can r hr) (vN.ne r hr);rw[<-gg vN hr,uR hl,ahq] at hm;cases hf:l.filter (fun x=>decide (x.1=r.1)) with
 | nil=>rw[hf] at hm;exact absurd rfl hm
 | cons x t=>
  have:x∈l.filter (fun x=>decide (x.1=r.1)):=by rw[hf];simp
  rw[mem_filter] at this;exact⟨x,this.1,by simpa using this.2⟩
end Go.Pl
namespace Go.Proofs.YtjjbkjgifdhlcaaGreat
open Go.AM Go.Pl
set_option maxRecDepth 100000
set_option maxHeartbeats 4000000
structure RgQ (v w Nv Nw j kp n:Nat) (r:RC):Prop where
 ok: ∀ l∈r.1,LOk j l
 two:Two v w r.1
 len:r.1.length<=40
 ncl:(ncs r.1).length<=n
 can:Canon r.2
 duo:Duo v w Nv Nw r.2
 pb:PB kp r.2
 alt:(n<=7/\j<=59)\/(Two v v r.1/\n<=12/\j<=499)
structure g_ (v w Nv Nw j kp n c:Nat):Prop where
 hv:v<8
 hw:w<8
 j1:1<=j
 k1:1<=kp
 box:(Nv+1)*(Nw+1)<=12
 nle:Nv<=100/\Nw<=100
 few:c<20
 pk:c*(kp+1)+1<=10000000
noncomputable def nrmL (l:List RC):List RC:=ir ((l.filter (fun r=>aZ r.1)).map (fun r=>(aQ r.1,r.2)))
theorem sc {p:List Tm} (h:Canon p):nfR (p.map tn)=p:=by unfold nfR;rw[bE,e_ h]
theorem RgQ.cst {v w Nv Nw j kp n c:Nat} {r:RC} (h:RgQ v w Nv Nw j kp n r) (s:g_ v w Nv Nw j kp n c):tZ r.1:=by
 have h0:=h.len;have:=h.ncl;rcases h.alt with h1 | h1
 .exact JQ h.ok s.j1 h.two (by omega) (.inl (by omega))
 exact JQ h.ok s.j1 h1.1 (by omega) (.inr ⟨rfl,by omega,h1.2.2⟩)
theorem RgQ.pok {v w Nv Nw j kp n c:Nat} {r:RC} (h:RgQ v w Nv Nw j kp n r) (s:g_ v w Nv Nw j kp n c) (hc:1<=c):POk 10000000 1024 r.2/\r.2.length<=12:=by
 have h1:=s.pk;have h2:=Nat.le_mul_of_pos_left (kp+1) (show 0<c by omega);have h3:=s.nle;exact⟨⟨h.can,fun t ht=>(h.pb.bd s.k1 t ht).mono (by omega),yJ h.duo (by omega) (by omega) (by omega)⟩,gD (Ms s.hv s.hw h.can h.duo) s.box⟩
theorem An {v w Nv Nw j kp n c:Nat} (s:g_ v w Nv Nw j kp n c) {t:List RC} (h: ∀ r∈t,Canon r.2/\Duo v w Nv Nw r.2/\PB kp r.2) (hc:t.length<=c):
 Canon (polyS' t)/\Duo v w Nv Nw (polyS' t)/\PB (c*(kp+1)+1) (polyS' t)/\POk 10000000 1024 (polyS' t)/\(polyS' t).length<=12:=by
 have hd:Duo v w Nv Nw (polyS' t):=(Duo.flat (fun r hr=>(h r hr).2.1)).nf
 have sX:Canon (polyS' t):=dc (Duo.flat (fun r hr=>(h r hr).2.1)).len8
 have hb:PB (c*(kp+1)+1) (polyS' t):=(PB.flatR s.k1 (fun r hr=>(h r hr).2.2) hc).nf
 have h3:=s.nle
 exact⟨sX,hd,hb,⟨sX,fun t ht=>(hb.bd (by omega) t ht).mono s.pk,yJ hd (by omega) (by omega) (by omega)⟩,gD (Ms s.hv s.hw sX hd) s.box⟩
theorem j_ {l:List RC} (hc: ∀ r∈l,Canon r.2):normL (l.map rn)=(l.filter (fun r=>aZ r.1&&!r.2.isEmpty)).map (fun r=>(aQ r.1,r.2)):=by
 unfold normL
 induction l with
 | nil=>rfl
 | cons r l ih=>
  have ih:=ih (fun x hx=>hc x (mem_cons_of_mem _ hx));have hr:nfR ((rn r).2)=r.2:=sc (hc r (by simp));have hk:i9 (rn r)=(aZ r.1&&!r.2.isEmpty):=by unfold i9;rw[hr];rfl
  rw[map_cons];cases hb:(aZ r.1&&!r.2.isEmpty) with
  | false=>rw[filter_cons_of_neg (by rw[hk,hb];decide),filter_cons_of_neg (by simp only[hb];decide),ih]
  | true=>
   rw[List.filter_cons_of_pos (by rw[hk,hb]),List.filter_cons_of_pos (by simp only[hb]),map_cons,map_cons,ih,hr];rfl
theorem nX {l:List RC} (hc: ∀ r∈l,Canon r.2/\tZ r.1):RcOk (normL (l.map rn))/\ir (normL (l.map rn))=nrmL l:=by
 have sX: ∀ r∈l,CnK (aQ r.1):=fun r hr f hf=>((Om (hc r hr).2).1 f hf).1
 have h1:RcOk (normL (l.map rn)):=fun x hx=>by
  rw[j_ (fun r hr=>(hc r hr).1)] at hx;obtain⟨r,hr,rfl⟩:=mem_map.1 hx;have:=(mem_filter.1 hr).1;exact⟨sX r this,(hc r this).1⟩
 refine⟨h1,Aa h1 (fun x hx=>by
  obtain⟨r,hr,rfl⟩:=mem_map.1 hx;have:=(mem_filter.1 hr).1;exact⟨sX r this,(hc r this).1⟩) (fun k m _=>?_)⟩
 rw[j_ (fun r hr=>(hc r hr).1)];clear h1 sX
 induction l with
 | nil=>rfl
 | cons r l ih=>
  have ih:=ih (fun x hx=>hc x (mem_cons_of_mem _ hx));cases hb:aZ r.1 with
  | false=>rw[filter_cons_of_neg (by simp[hb]),filter_cons_of_neg (by simp[hb]),ih]
  | true=>
   rw[List.filter_cons_of_pos (p:=fun r:RC=>aZ r.1) (by simp[hb]),map_cons,dA,<-ih];by_cases he:r.2=[]
   .rw[filter_cons_of_neg (by simp[he])];dsimp only;rw[he];simp[b'];grind
   rw[List.filter_cons_of_pos (by simp[hb,he]),map_cons,dA]
theorem Mt {v w Nv Nw j kp n c:Nat} {l:List RC} (s:g_ v w Nv Nw j kp n c) (h: ∀ r∈l,RgQ v w Nv Nw j kp n r) (hc:l.length<=c):G7 (l.map rn):=by
 have fr: ∀ x∈l.map rn,∃ r∈l,x=rn r:=fun x hx=>by
  obtain⟨r,hr,rfl⟩:=mem_map.1 hx;exact⟨r,hr,rfl⟩
 have hpk: ∀ r∈l,POk 10000000 1024 r.2/\r.2.length<=12:=fun r hr=>(h r hr).pok s (by have:=length_pos_of_mem hr;omega)
 have aqk:=s.pk;have TG:=s.few;have jF: ∀ r∈l,kp<=10000000:=fun r hr=>by
  have:=length_pos_of_mem hr;have:=Nat.le_mul_of_pos_left (kp+1) (show 0<c by omega);omega
 refine⟨fun x hx=>?_,fun x hx=>?_,fun x hx _=>?_,by rw[length_map];omega,fun x hx=>?_,?_,fun t u ht=>?_⟩
 .obtain⟨r,hr,rfl⟩:=fr x hx;have hk:=hpk r hr;exact⟨fun t ht=>(hk.1.ts (by decide) t ht).mono (by decide),by
   show PB _ ((r.2.map tn).map tq);rw[bE];exact(h r hr).pb.mono (by have:=jF r hr;omega),by
   show(r.2.map tn).length<=_;rw[length_map];omega,by
   show(nfR (r.2.map tn)).length<=_;rw[sc hk.1.canon];exact hk.2⟩
 .obtain⟨r,hr,rfl⟩:=fr x hx;exact(hpk r hr).1.validB
 .obtain⟨r,hr,rfl⟩:=fr x hx;exact(h r hr).cst s
 .obtain⟨r,hr,rfl⟩:=fr x hx;have:r.1.length<=40:=(h r hr).len;show r.1.length<=_;omega
 .unfold normL;rw[length_map];exact FD (List.length_filter_le _ _) (by rw[length_map];omega)
 have aY: ∀ x∈t,∃ r∈l,x.2=r.2:=fun x hx=>by
  have:x∈normL (l.map rn):=ht.mem_iff.1 (List.mem_append_left _ hx);rw[j_ (fun r hr=>(h r hr).can)] at this;obtain⟨r,hr,rfl⟩:=mem_map.1 this;exact⟨r,(mem_filter.1 hr).1,rfl⟩
 have aF:t.length<=c:=by
  have:=ht.length_eq;rw[qe,j_ (fun r hr=>(h r hr).can),length_map] at this;have h9:=List.length_filter_le (fun r:RC=>aZ r.1&&!r.2.isEmpty) l;omega
 have:=An s (t:=t) (fun x hx=>by
  obtain⟨r,hr,he⟩:=aY x hx;rw[he];exact⟨(h r hr).can,(h r hr).duo,(h r hr).pb⟩) aF
 exact⟨this.2.2.2.1,this.2.2.2.2⟩
theorem Ha {l:List RC} (hc:l.length<=4000) (h: ∀ r∈l,r.1.length<=40) (hv: ∀ r∈l,POk 10000000 1024 r.2):i7 [l.map rn]=0:=by
 have h1:dU (l.map rn)=false:=by
  unfold dU;rw[Bool.or_eq_false_iff];refine⟨jI (by rw[length_map];omega),?_⟩;rw[List.any_eq_false];intro x hx;obtain⟨r,hr,rfl⟩:=mem_map.1 hx;have:r.1.length<=40:=h r hr;have e:(rn r).1.length=r.1.length:=rfl;simp[eY,e];omega
 have h2:fw (l.map rn)=true:=by
  unfold fw;rw[vP];intro x hx;obtain⟨r,hr,rfl⟩:=mem_map.1 hx;exact(hv r hr).validB
 unfold i7;rw[if_neg (by simp[h1]),if_pos (by simp[h2])]
theorem lL {v w Nv Nw j kp n c:Nat} {l:List RC} (s:g_ v w Nv Nw j kp n c) (h: ∀ r∈l,RgQ v w Nv Nw j kp n r) (hc:l.length<=c):
 Den Tryz.prog 90 [] [RL' (l.map rn)] [] (.tup [RL' ((nrmL l).map rn),.int .i64 0]):=by
 have yU:=Mt s h hc
 have TG:=s.few
 have hz:=Ha (l:=l) (by omega) (fun r hr=>(h r hr).len) (fun r hr=>((h r hr).pok s (by have:=length_pos_of_mem hr;omega)).1)
 have:=RK (l.map rn) yU.len yU.pg yU.lim (fun _=>yU)
 unfold Ev at this
 rw[if_pos hz,(nX (fun r hr=>⟨(h r hr).can,(h r hr).cst s⟩)).2] at this
 exact this
structure RgV (v w Nv Nw j kp n:Nat) (r:RC):Prop where
 q:RgQ v w Nv Nw j kp n r
 idem:aQ r.1=r.1
 inn:aZ r.1=true
 len:r.1.length<=n
theorem EE {v w Nv Nw j kp n c:Nat} {l:List RC} (s:g_ v w Nv Nw j kp n c) (h: ∀ r∈l,RgQ v w Nv Nw j kp n r) (wZ: ∀ r∈l,(n<=7/\2*j<=59)\/(Two v v r.1/\n<=12/\2*j<=499)) (hc:l.length<=c):
 NF (nrmL l)/\(nrmL l).length<=c/\ ∀ r∈nrmL l,RgV v w Nv Nw (2*j) (c*(kp+1)+1) n r:=by
 obtain⟨h1,h2⟩:=nX (l:=l) (fun r hr=>⟨(h r hr).can,(h r hr).cst s⟩)
 rw[<-h2]
 have jM:(normL (l.map rn)).length<=c:=by
  rw[j_ (fun r hr=>(h r hr).can),length_map];exact gD (List.length_filter_le _ _) hc
 refine⟨rY h1,?_,fun r hr=>?_⟩
 .have:=qA (normL (l.map rn)) []
  unfold ir
  rw[length_nil,Nat.zero_add] at this
  omega
 obtain⟨e1,x,hx,e2⟩:=Am h1 hr
 have aY: ∀ y∈normL (l.map rn),∃ z∈l,aZ z.1=true/\y=(aQ z.1,z.2):=fun y hy=>by
  rw[j_ (fun r hr=>(h r hr).can)] at hy;obtain⟨z,hz,rfl⟩:=mem_map.1 hy;have Xi:=mem_filter.1 hz;exact⟨z,Xi.1,(BP _ _ ▸ Xi.2).1,rfl⟩
 obtain⟨z,hz,f0,rfl⟩:=aY x hx
 have hz':=h z hz
 have fL:=hz'.cst s
 have h9:=fL.cs.len9
 have kU:=An s (t:=(normL (l.map rn)).filter (fun x=>decide (x.1=r.1))) (fun y hy=>by
  obtain⟨z,hz,_,rfl⟩:=aY y (mem_filter.1 hy).1;exact⟨(h z hz).can,(h z hz).duo,(h z hz).pb⟩) (gD (List.length_filter_le _ _) jM)
 rw[<-e1] at kU
 obtain⟨c1,c2,c3⟩:=tE hz'.ok s.j1 hz'.two f0
 have su:=EC h9 f0
 have hq:=JK fL
 have aql:=hz'.ncl
 dsimp only at e2
 refine⟨⟨?_,?_,?_,?_,kU.1,kU.2.1,kU.2.2.1,?_⟩,?_,?_,?_⟩
 .rw[<-e2];exact c1
 .rw[<-e2];exact c2
 .rw[<-e2];exact hq
 .rw[<-e2];exact gD (kn _) (by omega)
 .rw[<-e2]
  rcases wZ z hz with h5 | h5
  .exact .inl h5
  exact .inr ⟨(tE hz'.ok s.j1 h5.1 f0).2.1,h5.2⟩
 .rw[<-e2];exact GZ fL
 .rw[<-e2];exact ED fL f0
 rw[<-e2];omega
theorem qI {v w Nv Nw j kp n:Nat} {M:List RC} (hM:NF M) (h: ∀ r∈M,RgV v w Nv Nw j kp n r):nrmL M=M:=by
 unfold nrmL;rw[tw (fun r hr=>(h r hr).inn)];have:M.map (fun r=>(aQ r.1,r.2))=M:=by
  conv=>rhs;rw[<-List.map_id M]
  refine List.map_congr_left (fun r hr=>?_);rw[(h r hr).idem];rfl
 rw[this,hM.self]
theorem yK {f:List Raw->List Raw} {l:List (List Raw)} {i:Nat} {x:List Raw} (h:x∈iQ f l i l.length): ∃ o∈l,x=f o:=by
 unfold iQ at h;obtain⟨k,hk,rfl⟩:=mem_map.1 h;exact⟨_,r6 (d:=[]) (List.mem_range.1 (mem_filter.1 hk).1),rfl⟩
theorem uX (f:List Raw->List Raw) (l:List (List Raw)) {i:Nat} (hi:i<l.length):(iQ f l i l.length).length+1<=l.length:=by
 have key: ∀ n,i<n->(iQ f l i n).length+1<=n:=fun n=>by
  induction n with
  | zero=>intro h;omega
  | succ n ih=>
   intro h;by_cases hn:n=i
   .subst hn;have:=r9 f l n n;rw[Ew];omega
   have:=ih (by omega);rw[Ex f l hn,qe,D0];omega
 exact key _ hi
theorem RQ {rest lo hi:List (List Raw)} {p:List Tm} {v:Nat} {x:RC} (h:x∈sR rest lo hi p v lo.length):
 ∃ i j,i<lo.length/\j<hi.length/\sQ (hi.getD j []) (lo.getD i [])=false/\x=(j7 rest lo hi i j,betT v (lo.getD i []) (hi.getD j []) p):=by
 unfold sR at h
 obtain⟨i,nj,h⟩:=List.mem_flatMap.1 h
 unfold px at h
 obtain⟨j,M4,h⟩:=List.mem_flatMap.1 h
 split at h
 .simp at h
 next hs=>exact⟨i,j,List.mem_range.1 nj,List.mem_range.1 M4,by simpa using hs,by simpa using h⟩
structure Vn (Nv Nw j kp n K F:Nat):Prop where
 F0:0<F
 FB:F<B
 dv: ∀ d,1<=d->d<=Nv+1->d∣F
 N8:Nw+Nv<=8
 kp2:kp<=400000
 hK:(Nv+2)*(9*((2*j+1)+1)+1+(kp+1)+1)+1=K
 hK2:K+9*((2*j+1)+1)+1<=900000
 j2:j<=249
 n7:n<=40
theorem nY {v w Nv Nw j kp n c K F:Nat} {r:RC} (s:g_ v w Nv Nw j kp n c) (nw:v≠w) (t:Vn Nv Nw j kp n K F) (h:RgV v w Nv Nw j kp n r) (w3:r.2.length<=12):
 qF r.1 r.2 v/\ ∀ x∈mA r.1 r.2 v,(∀ l∈x.1,LOk (4*j+4) l)/\Two w w x.1/\x.1.length<=n/\Canon x.2/\Uni w ((Nw+Nv+2:Nat):Int) x.2/\PB (2*K+2) x.2:=by
 have wZ:=t.j2
 have M4:=s.j1
 obtain⟨hl,hh⟩:=Mr s.hv h.q.ok s.j1 h.q.two
 have vy: ∀ l∈bT r.1 v,∀ u∈ba r.1 v,_:=fun l Ja u Bz=>
  RP (p:=r.2) s.hv s.hw nw h.q.can h.q.duo h.q.pb w3 t.F0 t.FB t.dv (⟨(hl l Ja).1,(hl l Ja).2⟩:RO w (2*j+1) l) (⟨(hh u Bz).1,(hh u Bz).2⟩:RO w (2*j+1) u) (by omega) (by omega) t.N8 s.k1 t.kp2 K t.hK t.hK2
 refine⟨⟨s.hv,fun l hl=>(h.q.ok l hl).mono (by omega),h.q.len,fun l Ja u Bz _=>(vy l Ja u Bz).1⟩,fun x hx=>?_⟩
 unfold mA at hx
 obtain⟨i,k,hi,hk,_,rfl⟩:=RQ hx
 have ml:=bC (ls:=bT r.1 v) hi
 have mu:=bC (ls:=ba r.1 v) hk
 have Fi:=hl _ ml
 have PC:=hh _ mu
 have hb:=vy _ ml _ mu
 have hsp:=bN r.1 v
 have hrl:=h.len
 have BA: ∀ a b:List Raw,LOk (2*j+1) a->LOk (2*j+1) b->LOk (4*j+4) (bG a b):=fun a b ha hb=>(rK ha hb (by omega)).mono (by omega)
 have key: ∀ f∈j7 (ee r.1 v) (bT r.1 v) (ba r.1 v) i k,LOk (4*j+4) f/\ ∀ i,i<8->i≠w->co f i=0:=fun f hf=>by
  unfold j7 at hf;rcases List.mem_append.1 hf with hf | hf
  .rcases List.mem_append.1 hf with hf | hf
   .rcases List.mem_append.1 hf with hf | hf
    .obtain⟨h1,h2⟩:=nP.1 hf;refine⟨(h.q.ok f h1).mono (by omega),fun q hq e7=>?_⟩;by_cases Ij:q=v
     .rw[Ij];exact h2
     exact h.q.two f h1 q hq Ij e7
    rw[qz] at hf;subst hf;exact⟨BA _ _ PC.1 Fi.1,nW PC.1.len Fi.1.len PC.2 Fi.2⟩
   obtain⟨o,ho,rfl⟩:=yK hf;have:=hl o ho;exact⟨BA _ _ Fi.1 this.1,nW Fi.1.len this.1.len Fi.2 this.2⟩
  obtain⟨o,ho,rfl⟩:=yK hf;have:=hh o ho;exact⟨BA _ _ this.1 PC.1,nW this.1.len PC.1.len this.2 PC.2⟩
 refine⟨fun l hl=>(key l hl).1,fun l hl i hi e7 _=>(key l hl).2 i hi e7,?_,hb.2.1,hb.2.2.1,hb.2.2.2⟩
 have o1:=uX (bG ((bT r.1 v).getD i [])) (bT r.1 v) hi
 have o2:=uX (fun o=>bG o ((ba r.1 v).getD k [])) (ba r.1 v) hk
 show(j7 _ _ _ i k).length<=n
 unfold j7
 rw[qe,qe,qe,D0]
 omega
theorem RS {a b n m:Nat} (h:a+b<=n) (hn:n<=5) (hm:6<=m):a*b<=m:=by
 have:a<=5:=by omega
 have:a=0\/a=1\/a=2\/a=3\/a=4\/a=5:=by omega
 rcases this with rfl | rfl | rfl | rfl | rfl | rfl<;>omega
theorem uY {v q:Nat}: ∀ {M:List RC},(∀ r∈M,(mA r.1 r.2 v).length<=q)->(elimO M v).length<=M.length*q
 | [],_=>by simp[elimO]
 | r::M,h=>by
  have ih:=uY (v:=v) (q:=q) (M:=M) (fun x hx=>h x (mem_cons_of_mem _ hx));have h1:=h r (by simp);unfold elimO at ih ⊢;rw[List.flatMap_cons,qe,length_cons,Nat.add_mul];omega
theorem Ao (c:Kc) (p:List Tm) (v:Nat):(mA c p v).length<=(bT c v).length*(ba c v).length:=wD _ _ _ _ _ _
theorem Hb {v w Nv Nw j kp n c:Nat} {r:RC} (s:g_ v w Nv Nw j kp n c) (h:RgV v w Nv Nw j kp n r) (h1:Two v v r.1):(bT r.1 v).length<=1/\(ba r.1 v).length<=1:=by
 have fL:=h.q.cst s;have he:r.1=wA (sysL r.1 []):=by
  have:=h.idem;unfold aQ at this;rw[h.inn,if_pos rfl] at this;exact this.symm
 have:=JI (s:=wA (sysL r.1 [])) s.hv (gR fL.good) (qw fL.good) (fun w hw e7=>by
  rw[<-he];cases ho:occ r.1 w with
  | false=>rfl
  | true=>
   obtain⟨l,hl,h0⟩:=eP.1 ho;exact absurd (h1 l hl w hw e7 e7) h0)
 rw[<-he] at this;unfold Z4 Rm at this;rw[length_map,length_map] at this;exact this
noncomputable def f5 (M:List RC) (v:Int):Int×List RC:=
 if v<0\/8<=v then(1,[]) else if M.any (missB v.toNat)=true then(15,[]) else(0,nrmL (elimO M v.toNat))
theorem Hc {v w Nv Nw j kp n c:Nat} {l:List RC} (s:g_ v w Nv Nw j kp n c) (h: ∀ r∈l,RgQ v w Nv Nw j kp n r) (hc:l.length<=c):
 NF (nrmL l)/\(nrmL l).length<=c/\ ∀ r∈nrmL l,(∃ z∈l,aZ z.1=true/\r.1=aQ z.1)/\POk 10000000 1024 r.2/\r.2.length<=12/\Duo v w Nv Nw r.2/\PB (c*(kp+1)+1) r.2:=by
 obtain⟨h1,h2⟩:=nX (l:=l) (fun r hr=>⟨(h r hr).can,(h r hr).cst s⟩)
 rw[<-h2]
 have jM:(normL (l.map rn)).length<=c:=by
  rw[j_ (fun r hr=>(h r hr).can),length_map];exact gD (List.length_filter_le _ _) hc
 refine⟨rY h1,?_,fun r hr=>?_⟩
 .have:=qA (normL (l.map rn)) []
  unfold ir
  rw[length_nil,Nat.zero_add] at this
  omega
 obtain⟨e1,x,hx,e2⟩:=Am h1 hr
 have aY: ∀ y∈normL (l.map rn),∃ z∈l,aZ z.1=true/\y=(aQ z.1,z.2):=fun y hy=>by
  rw[j_ (fun r hr=>(h r hr).can)] at hy;obtain⟨z,hz,rfl⟩:=mem_map.1 hy;have Xi:=mem_filter.1 hz;exact⟨z,Xi.1,(BP _ _ ▸ Xi.2).1,rfl⟩
 obtain⟨z,hz,f0,rfl⟩:=aY x hx
 have kU:=An s (t:=(normL (l.map rn)).filter (fun x=>decide (x.1=r.1))) (fun y hy=>by
  obtain⟨z,hz,_,rfl⟩:=aY y (mem_filter.1 hy).1;exact⟨(h z hz).can,(h z hz).duo,(h z hz).pb⟩) (gD (List.length_filter_le _ _) jM)
 rw[<-e1] at kU
 exact⟨⟨z,hz,f0,e2.symm⟩,kU.2.2.2.1,kU.2.2.2.2,kU.2.1,kU.2.2.1⟩
theorem wF:aZ []=true:=(cX (by simp)).2 ⟨fun _=>0,fun l hl=>by simp at hl⟩
theorem Aq:aQ []=[]:=by
 unfold aQ;rw[wF];rfl
theorem Hd:nrmL []=[]:=rfl
theorem Dp (v:Nat):elimO [] v=[]:=rfl
structure IA (v w:Nat) (M:List RC):Prop where
 nf:NF M
 len:M.length<=2
 rg: ∀ r∈M,RgV v w 2 2 12 49 5 r
structure IB (v w:Nat) (M:List RC):Prop where
 nf:NF M
 len:M.length<=12
 rg: ∀ r∈M,RgV v w 6 0 104 27517 5 r/\Two v v r.1
structure IC (M:List RC):Prop where
 nf:NF M
 len:M.length<=1
 rg: ∀ r∈M,r.1=[]/\POk 10000000 1024 r.2/\r.2.length<=12
 den:Den Tryz.prog 90 [] [RL' (M.map rn)] [] (.tup [RL' (M.map rn),.int .i64 0])
theorem nZ {v w:Nat} (hv:v<8) (hw:w<8):g_ v w 2 2 12 49 5 2:=⟨hv,hw,by decide,by decide,by decide,by decide,by decide,by decide⟩
theorem EF {v w:Nat} (hv:v<8) (hw:w<8):g_ v w 6 0 52 2292 5 12:=⟨hv,hw,by decide,by decide,by decide,by decide,by decide,by decide⟩
theorem kH {v w:Nat} (hv:v<8) (hw:w<8):g_ v w 6 0 104 27517 5 12:=⟨hv,hw,by decide,by decide,by decide,by decide,by decide,by decide⟩
theorem JR {v w:Nat} (hv:v<8) (hw:w<8):g_ v w 8 0 420 470564 5 12:=⟨hv,hw,by decide,by decide,by decide,by decide,by decide,by decide⟩
theorem afs {v w:Nat} (hv:v<8) (hw:w<8):g_ v w 8 0 1 5646781 0 1:=⟨hv,hw,by decide,by decide,by decide,by decide,by decide,by decide⟩
theorem ajY (d:Nat) (h1:1<=d) (h2:d<=2+1):d∣6:=by
 have:d=1\/d=2\/d=3:=by omega
 rcases this with rfl | rfl | rfl<;>decide
theorem Vo (d:Nat) (h1:1<=d) (h2:d<=6+1):d∣5040:=by
 have:d=1\/d=2\/d=3\/d=4\/d=5\/d=6\/d=7:=by omega
 rcases this with rfl | rfl | rfl | rfl | rfl | rfl | rfl<;>decide
theorem RU:Vn 2 2 12 49 5 1145 6:=⟨by decide,by decide,ajY,by decide,by decide,by decide,by decide,by decide,by decide⟩
theorem Mu:Vn 6 0 104 27517 5 235281 5040:=⟨by decide,by decide,Vo,by decide,by decide,by decide,by decide,by decide,by decide⟩
theorem RgV.swap {v w N j kp n:Nat} {r:RC} (h:RgV v w N N j kp n r) (hs:n<=7/\j<=59):RgV w v N N j kp n r:=
 ⟨⟨h.q.ok,fun l hl i hi h1 h2=>h.q.two l hl i hi h2 h1,h.q.len,h.q.ncl,h.q.can,fun t ht=>by
  obtain⟨a1,a2,a3,a4⟩:=h.q.duo t ht;exact⟨a1,fun i hi h1 h2=>a2 i hi h2 h1,a4,a3⟩,h.q.pb,.inl hs⟩,h.idem,h.inn,h.len⟩
theorem IA.swap {v w:Nat} {M:List RC} (h:IA v w M):IA w v M:=⟨h.nf,h.len,fun r hr=>(h.rg r hr).swap (by decide)⟩
theorem IC.nil:IC []:=⟨.nil,by decide,by simp,by
 have:=lL (l:=[]) (nZ (v:=0) (w:=1) (by decide) (by decide)) (by simp) (by simp);exact this⟩
theorem IA.den {v w:Nat} {M:List RC} (hv:v<8) (hw:w<8) (h:IA v w M):Den Tryz.prog 90 [] [RL' (M.map rn)] [] (.tup [RL' (M.map rn),.int .i64 0]):=by
 have:=lL (nZ hv hw) (fun r hr=>(h.rg r hr).q) h.len;rw[qI h.nf h.rg] at this;exact this
theorem IB.den {v w:Nat} {M:List RC} (hv:v<8) (hw:w<8) (h:IB v w M):Den Tryz.prog 90 [] [RL' (M.map rn)] [] (.tup [RL' (M.map rn),.int .i64 0]):=by
 have:=lL (kH hv hw) (fun r hr=>(h.rg r hr).1.q) h.len;rw[qI h.nf (fun r hr=>(h.rg r hr).1)] at this;exact this
theorem IA.elim {v w:Nat} {M:List RC} (hv:v<8) (hw:w<8) (nw:v≠w) (h:IA v w M):
 (∀ r∈M,qF r.1 r.2 v)/\(elimO M v).length<=12/\Den Tryz.prog 90 [] [RL' ((elimO M v).map rn)] [] (.tup [RL' ((nrmL (elimO M v)).map rn),.int .i64 0])/\IB w v (nrmL (elimO M v)):=by
 have hs:=fun r hr=>nY (nZ hv hw) nw RU (h.rg r hr) (((h.rg r hr).q.pok (nZ hv hw) (by decide)).2)
 have hl:(elimO M v).length<=12:=by
  have:=uY (v:=v) (q:=6) (M:=M) (fun r hr=>gD (Ao _ _ _) (RS (by
   have h1:=bN r.1 v;have h2:=(h.rg r hr).len;omega) (qp 5) (by decide)))
  have h2:=h.len;omega
 have hq: ∀ x∈elimO M v,RgQ w v 6 0 52 2292 5 x/\Two w w x.1:=fun x hx=>by
  obtain⟨r,hr,hx⟩:=List.mem_flatMap.1 hx;obtain⟨a1,a2,a3,a4,a5,a6⟩:=(hs r hr).2 x hx;exact⟨⟨a1,fun l hl i hi h1 h2=>a2 l hl i hi h1 h1,by omega,gD (kn _) a3,a4,a5.duo hv nw,a6,.inr ⟨a2,by decide,by decide⟩⟩,a2⟩
 have hm:=EE (EF hw hv) (fun x hx=>(hq x hx).1) (fun x hx=> .inr ⟨(hq x hx).2,by decide,by decide⟩) hl
 refine⟨fun r hr=>(hs r hr).1,hl,lL (EF hw hv) (fun x hx=>(hq x hx).1) hl,hm.1,hm.2.1,fun r hr=>⟨hm.2.2 r hr,?_⟩⟩
 obtain⟨⟨z,hz,f0,he⟩,_⟩:=(Hc (EF hw hv) (fun x hx=>(hq x hx).1) hl).2.2 r hr
 rw[he]
 exact(tE (hq z hz).1.ok (by decide) (hq z hz).2 f0).2.1
theorem Ar {M:List RC} (h:NF M) (h0: ∀ r∈M,r.1=[]):M.length<=1:=by
 match M,h,h0 with
 | [],_,_=>simp
 | [_],_,_=>simp
 | a::b::M,h,h0=>
  have:=h.head b (by simp);rw[h0 a (by simp),h0 b (by simp)] at this;simp[cj] at this
theorem IB.elim {v w:Nat} {M:List RC} (hv:v<8) (hw:w<8) (nw:v≠w) (h:IB v w M):
 (∀ r∈M,qF r.1 r.2 v)/\(elimO M v).length<=12/\Den Tryz.prog 90 [] [RL' ((elimO M v).map rn)] [] (.tup [RL' ((nrmL (elimO M v)).map rn),.int .i64 0])/\IC (nrmL (elimO M v)):=by
 have w3: ∀ r∈M,r.2.length<=12:=fun r hr=>((h.rg r hr).1.q.pok (kH hv hw) (by decide)).2
 have hs:=fun r hr=>nY (kH hv hw) nw Mu (h.rg r hr).1 (w3 r hr)
 have hl:(elimO M v).length<=12:=by
  have:=uY (v:=v) (q:=1) (M:=M) (fun r hr=>gD (Ao _ _ _) (by
   obtain⟨h1,h2⟩:=Hb (kH hv hw) (h.rg r hr).1 (h.rg r hr).2;exact Nat.mul_le_mul h1 h2))
  have h2:=h.len;omega
 have hq: ∀ x∈elimO M v,RgQ w v 8 0 420 470564 5 x/\ ∀ l∈x.1,∀ i,i<8->co l i=0:=fun x hx=>by
  obtain⟨r,hr,hx⟩:=List.mem_flatMap.1 hx;obtain⟨a1,a2,a3,a4,a5,a6⟩:=(hs r hr).2 x hx;refine⟨⟨a1,fun l hl i hi h1 h2=>a2 l hl i hi h1 h1,by omega,gD (kn _) a3,a4,a5.duo hv nw,a6,.inr ⟨a2,by decide,by decide⟩⟩,fun l hl i hi=>?_⟩;by_cases yW:i=w
  .obtain⟨u,hu8,huv,Zk⟩: ∃ u,u<8/\v≠u/\u≠w:=by
    by_cases h0:v≠0/\0≠w
    .exact⟨0,by decide,h0.1,h0.2⟩
    by_cases h1:v≠1/\1≠w
    .exact⟨1,by decide,h1.1,h1.2⟩
    exact⟨2,by decide,by omega,by omega⟩
   have Nf:=h.rg r hr;have hu:RgV v u 6 0 104 27517 5 r:=⟨⟨Nf.1.q.ok,fun l hl i hi h1 _=>Nf.2 l hl i hi h1 h1,Nf.1.q.len,Nf.1.q.ncl,Nf.1.q.can,fun t ht=>by
    obtain⟨b1,b2,b3,b4⟩:=Nf.1.q.duo t ht;have b5: ∀ i,i<8->i≠v->t.1.getD i 0=0:=fun i hi h1=>by
     by_cases yW:i=w
     .rw[yW];omega
     exact b2 i hi h1 yW
    exact⟨b1,fun i hi h1 _=>b5 i hi h1,b3,by rw[b5 u hu8 (Ne.symm huv)];omega⟩,Nf.1.q.pb,Nf.1.q.alt⟩,Nf.1.idem,Nf.1.inn,Nf.1.len⟩
   have:=((nY (kH hv hu8) huv Mu hu (w3 r hr)).2 x hx).2.1;exact this l hl i hi (by rw[yW];exact Ne.symm Zk) (by rw[yW];exact Ne.symm Zk)
  exact a2 l hl i hi yW yW
 have hm:=Hc (JR hw hv) (fun x hx=>(hq x hx).1) hl
 have sG: ∀ r∈nrmL (elimO M v),r.1=[]:=fun r hr=>by
  obtain⟨⟨z,hz,f0,he⟩,_⟩:=hm.2.2 r hr;rw[he];cases hc:aQ z.1 with
  | nil=>rfl
  | cons f t=>
   exfalso;obtain⟨l,hl,mL,_⟩:=tD (fun l hl=>((hq z hz).1.ok l hl).len) f0 (f:=f) (by rw[hc];simp);exact mL (fun i hi=>(hq z hz).2 l hl i hi)
 have h1:=Ar hm.1 sG
 have Zb: ∀ r∈nrmL (elimO M v),RgV w v 8 0 1 5646781 0 r:=fun r hr=>by
  have h0:=sG r hr;obtain⟨_,p1,p2,p3,p4⟩:=hm.2.2 r hr;refine⟨⟨?_,?_,?_,?_,p1.canon,p3,p4,.inl (by decide)⟩,?_,?_,?_⟩<;>rw[h0]
  .simp
  .intro l hl;simp at hl
  .simp
  .simp[ncs]
  .exact Aq
  .exact wF
  simp
 refine⟨fun r hr=>(hs r hr).1,hl,lL (JR hw hv) (fun x hx=>(hq x hx).1) hl,hm.1,h1,fun r hr=>⟨sG r hr,(hm.2.2 r hr).2.1,(hm.2.2 r hr).2.2.1⟩,?_⟩
 have:=lL (afs hw hv) (fun r hr=>(Zb r hr).q) h1
 rw[qI hm.1 Zb] at this
 exact this
def IT (M:List RC):Prop:=IA 0 1 M\/IB 0 1 M\/IB 1 0 M\/IC M
theorem IT.self {M:List RC} (h:IT M):Den Tryz.prog 90 [] [RL' (M.map rn)] [] (.tup [RL' (M.map rn),.int .i64 0]):=by
 rcases h with h | h | h | h
 .exact h.den (by decide) (by decide)
 .exact h.den (by decide) (by decide)
 .exact h.den (by decide) (by decide)
 exact h.den
theorem sd {a b u:Nat} {r:RC} (hu:u<8) (bF: ∀ l∈r.1,LOk 499 l) (hl:r.1.length<=40) (h2:Two a b r.1) (ha:u≠a) (hb:u≠b):qF r.1 r.2 u/\missB u r=true:=by
 obtain⟨h1,_⟩:=uW h2 hu ha hb;exact⟨⟨hu,bF,hl,fun l hl=>by rw[h1] at hl;simp at hl⟩,jC.2 (.inl h1)⟩
structure Next (M:List RC) (u:Nat):Prop where
 slab: ∀ r∈M,qF r.1 r.2 u
 len:(elimO M u).length<=12
 den:M.any (missB u)=false->Den Tryz.prog 90 [] [RL' ((elimO M u).map rn)] [] (.tup [RL' ((nrmL (elimO M u)).map rn),.int .i64 0])
 it:M.any (missB u)=false->IT (nrmL (elimO M u))
theorem se {M:List RC} {u:Nat} (h: ∀ r∈M,qF r.1 r.2 u/\missB u r=true):Next M u:=by
 have sG:M.any (missB u)=false->M=[]:=fun hm=>by
  cases M with
  | nil=>rfl
  | cons r M=>rw[fZ (List.mem_cons_self) (h r (by simp)).2] at hm;cases hm
 refine⟨fun r hr=>(h r hr).1,?_,fun hm=>?_,fun hm=>?_⟩
 .have:=uY (v:=u) (q:=0) (M:=M) (fun r hr=>by
   have h2:=(h r hr).2;have h1:=Ao r.1 r.2 u;rcases jC.1 h2 with h3 | h3
   .rw[h3,length_nil,Nat.zero_mul] at h1;exact h1
   rw[h3,length_nil,Nat.mul_zero] at h1;exact h1)
  omega
 .rw[sG hm,Dp,Hd];exact IC.nil.den
 rw[sG hm,Dp,Hd];exact .inr (.inr (.inr IC.nil))
theorem IT.next {M:List RC} (h:IT M) {u:Nat} (hu:u<8):Next M u:=by
 rcases h with h | h | h | h
 .by_cases h0:u=0
  .subst h0;obtain⟨a,b,c,d⟩:=h.elim (by decide) (by decide) (by decide);exact⟨a,b,fun _=>c,fun _=> .inr (.inr (.inl d))⟩
  by_cases h1:u=1
  .subst h1;obtain⟨a,b,c,d⟩:=h.swap.elim (by decide) (by decide) (by decide);exact⟨a,b,fun _=>c,fun _=> .inr (.inl d)⟩
  exact se (fun r hr=>sd hu (fun l hl=>((h.rg r hr).q.ok l hl).mono (by decide)) (h.rg r hr).q.len (h.rg r hr).q.two h0 h1)
 .by_cases h0:u=0
  .subst h0;obtain⟨a,b,c,d⟩:=h.elim (by decide) (by decide) (by decide);exact⟨a,b,fun _=>c,fun _=> .inr (.inr (.inr d))⟩
  exact se (fun r hr=>sd hu (fun l hl=>((h.rg r hr).1.q.ok l hl).mono (by decide)) (h.rg r hr).1.q.len (h.rg r hr).2 h0 h0)
 .by_cases h0:u=1
  .subst h0;obtain⟨a,b,c,d⟩:=h.elim (by decide) (by decide) (by decide);exact⟨a,b,fun _=>c,fun _=> .inr (.inr (.inr d))⟩
  exact se (fun r hr=>sd hu (fun l hl=>((h.rg r hr).1.q.ok l hl).mono (by decide)) (h.rg r hr).1.q.len (h.rg r hr).2 h0 h0)
 refine se (fun r hr=>?_);have h0:=(h.rg r hr).1;exact sd (a:=8) (b:=8) hu (by rw[h0];simp) (by rw[h0];simp) (by rw[h0];intro l hl;simp at hl) (by omega) (by omega)
theorem IT.len {M:List RC} (h:IT M):M.length<=12:=by
 rcases h with h | h | h | h
 .exact gD h.len (by decide)
 .exact h.len
 .exact h.len
 exact gD h.len (by decide)
theorem IT.nf {M:List RC} (h:IT M):NF M:=by
 rcases h with h | h | h | h
 .exact h.nf
 .exact h.nf
 .exact h.nf
 exact h.nf
theorem IT.pok {M:List RC} (h:IT M): ∀ r∈M,POk 10000000 1024 r.2/\r.2.length<=12:=fun r hr=>by
 rcases h with h | h | h | h
 .exact(h.rg r hr).q.pok (nZ (by decide) (by decide)) (by decide)
 .exact(h.rg r hr).1.q.pok (kH (by decide) (by decide)) (by decide)
 .exact(h.rg r hr).1.q.pok (kH (by decide) (by decide)) (by decide)
 exact(h.rg r hr).2
theorem He {L:List RR} {M:List RC} (h:IT M) (lU:Den Tryz.prog 90 [] [RL' L] [] (.tup [RL' (M.map rn),.int .i64 0])) (v:Int):Den Tryz.prog 36 [] [RL' L,.int .i64 v] [] (listV (f5 M v)):=by
 unfold f5 listV;by_cases hv:v<0\/8<=v
 .rw[if_pos hv,if_neg (by decide)];exact afr L M v hv lU
 obtain⟨u,rfl⟩: ∃ u:Nat,v=(u:Int):=⟨v.toNat,by omega⟩;have hu:u<8:=by omega
 have hn:=h.next hu;rw[if_neg hv,Int.toNat_natCast];have:=ajW L M (nrmL (elimO M u)) u hu lU (by have:=h.len;omega) hn.slab (by have:=hn.len;omega) hn.den;by_cases hm:M.any (missB u)=true
 .rw[if_pos hm] at this ⊢;rw[if_neg (by decide)];exact this
 rw[if_neg hm] at this ⊢;rw[if_pos rfl];exact this
theorem EG:RN f5 IT where
 den M h v _ _:=He h h.self v
 next M h v h0:=by
  unfold f5 at h0 ⊢;by_cases hv:v<0\/8<=v
  .rw[if_pos hv] at h0;exact absurd h0 (by decide)
  obtain⟨u,rfl⟩: ∃ u:Nat,v=(u:Int):=⟨v.toNat,by omega⟩;have hu:u<8:=by omega
  rw[if_neg hv,Int.toNat_natCast] at h0 ⊢;by_cases hm:M.any (missB u)=true
  .rw[if_pos hm] at h0;exact absurd h0 (by decide)
  rw[if_neg hm];exact(h.next hu).it (by simpa using hm)
 len M h:=by have:=h.len;omega
 nf M h:=h.nf
 one M h r hr _:=h.pok r hr
theorem Mv {L:List RR} {M:List RC} (h:IT M) (lU:Den Tryz.prog 90 [] [RL' L] [] (.tup [RL' (M.map rn),.int .i64 0])) (vs:List Int) (hw:W64 vs) (hn:vs.length<=1000):
 Den Tryz.prog 40 [] [RL' L,.fv (.sl (ints vs))] [] (mB (wE f5 M vs)):=ajX f5 IT EG L M vs hw hn h lU
def i_ (p:List Tm) (t:Tm):List Tm:=(mS p t).filter ot
theorem Oo {p:List Tm} {t:Tm} {i:Nat} (h:i<p.length):i_ (p.take (i+1)) t=if ot (p' p[i] t)=true then i_ (p.take i) t++[p' p[i] t] else i_ (p.take i) t:=by
 unfold i_ mS;rw[List.take_add_one,qb h,tY,filter_append];show _++List.filter ot [p' p[i] t]=_;by_cases hz:ot (p' p[i] t)=true
 .rw[if_pos hz,List.filter_cons_of_pos hz];rfl
 rw[if_neg hz,filter_cons_of_neg hz];simp
theorem Hf (p:List Tm) (t:Tm):(i_ p t).length<=p.length:=by
 unfold i_;have:=List.length_filter_le ot (mS p t);unfold mS at this;rwa [length_map] at this
theorem YL (p:List Tm) (t:RT) (hp:LOkT 1000000 1000000 p) (ht:t.1.length=8) (hte: ∀ x∈t.1,0<=x/\x<=1000000) (htr:t.2.Ok 1000000) (hn:p.length<=10000):
 Den Tryz.prog 103 [] [PL (p.map tn),.agg (fC t)] [] (PL ((i_ p (tq t)).map tn)):=by
 have rp:=aw (p.map tn)
 rw[length_map] at rp
 obtain⟨n,b8⟩:=ax p.length
 rw[b8] at rp hn
 have tcl:=aH ht
 have tc8:=ed ht
 have tcf:=d6 ht
 refine dq Tryz.func103 47 0 ?_
 refine bw tcl ?_
 repeat refine ag ?_
 refine wl (α:=Nat) (fun i=>⟨[PL (p.map tn),.any,.any,.ptr 0 0 0,.any,.lsl 1 0 (i_ (p.take i) (tq t)).length 11,.int .i64 i]++replicate 42 .any,[.box true (fC t),.row true (av ((i_ (p.take i) (tq t)).map tn))]⟩) (fun i=>n - i) (fun i=>i<=n) 0 ?_ (dk _) ?_
 .refine Weak.nil 5 11 (by decide) rfl ?_
  refine eH [0,1] ?_ ?_
  .simp[bh,dF,cw]
   rfl
  simp[d_,fD,ij]
  rfl
 intro i hi
 have pR:=Hf (p.take i) (tq t)
 rw[length_take,b8,Nat.min_eq_left hi] at pR
 have ro:=aw ((i_ (p.take i) (tq t)).map tn)
 rw[length_map] at ro
 have tko:=bB (ts:=(i_ (p.take i) (tq t)).map tn) (n:=(i_ (p.take i) (tq t)).length) (by rw[length_map];omega)
 refine bw rp ?_
 refine bM ?_ ?_
 .intro h1 h2
  have dJ:i<p.length:=by omega
  have r1:=oU dJ
  have aY:p[i]∈p:=lY dJ
  have BO:=hp.len _ aY
  have yr:=hp.bd _ aY
  have pP:=hp.exp _ aY
  have ck:=Oo (t:=tq t) dJ
  obtain⟨s,mH⟩:=ax (p[i])
  rw[mH] at r1 BO yr pP ck
  obtain⟨O,hO⟩:=ax (i_ (p.take i) (tq t))
  rw[hO] at pR ro tko ck ⊢
  have W8:(tn s).1.length=8:=BO
  have s11:=aU W8
  have sfl:=aJ W8
  have scl:=aH W8
  have hI0:mX s.1 t.1 0=s.1:=by simp[mX,fe]
  have hI8:=wv BO ht
  refine ae (bu h2 r1 s11 @dI sfl scl rp @append_nil.{0}) ?_
  repeat refine ag ?_
  refine wl (α:=Nat) (fun k=>⟨[PL (p.map tn),.any,.any,.ptr 0 0 0,.any,.lsl 1 0 O.length 11,.int .i64 i,.ptr 2 0 0,.int .i64 k]++replicate 40 .any,[.box true (fC t),.row true (av (O.map tn)),.box true (fC (mX s.1 t.1 k,cn s.2))]⟩) (fun k=>8 - k) (fun k=>k<=8) 0 ?_ (dk _) ?_
  .rw[hI0]
   refine eH [0,1,2] ?_ ?_
   .simp[bh,dF,cw]
   simp[d_,fD,ij]
   exact ij _ (tn s)
  intro k hk
  have I8:=mq BO ht hk
  have xl:((mX s.1 t.1 k,cn s.2):RT).1.length=8:=I8
  have xcl:=aH xl
  refine aW ?_
  refine bM ?_ ?_
  .intro h3 h4
   have dS:=mT (t:=(mX s.1 t.1 k,cn s.2)) (i:=k) (by omega) xl
   have tat:=mT (t:=t) (i:=k) (by omega) ht
   dsimp only at dS
   rw[L7 BO ht (by omega)] at dS
   have bS:=me (t:=(mX s.1 t.1 k,cn s.2)) (i:=k) (x:=s.1.getD k 0+t.1.getD k 0) (by omega) xl
   dsimp only at bS
   rw[C9 BO ht (by omega)] at bS
   have ga:=jX (by decide) pP k
   have gb:=jX (by decide) hte k
   obtain⟨x,hx⟩:=ax (s.1.getD k 0)
   obtain⟨y,hy⟩:=ax (t.1.getD k 0)
   rw[hx] at dS bS ga
   rw[hy] at tat bS gb
   refine ae h4 ?_
   refine dw (by kernel_rfl) ?_
   refine ae (dN dS tat xcl tcl @Nat.mul_one bS) ?_
   repeat refine ag ?_
   refine aA (k+1) ?_ (by omega)
   refine eH [0,1,2] ?_ ?_
   .simp[bh,dF,cw]
   simp[d_,fD,ij]
  intro h3 h4
  have hk8:k=8:=by omega
  subst hk8
  have xS:=iA BO ht
  rw[hI8] at xl xcl ⊢
  have Fw:=Lv (cn s.2) t.2 ((bj yr).mono (by decide)) (htr.mono (by decide))
  rw[cu] at Fw
  change Den Tryz.prog 65 [] [.agg (cn s.2).c,.agg t.2.c] [] (.agg (cn (s.2*t.2.q)).c) at Fw
  have hbm:Bd 2000000 (s.2*t.2.q):=Bd.mul (j:=1000000) (k:=1000000) yr (htr.bd (by decide)) (by decide)
  have jh:=mc (cn (s.2*t.2.q)) ((bj hbm).mono (by decide))
  rw[cu] at jh
  change Den Tryz.prog 63 [] [.agg (cn (s.2*t.2.q)).c] [] _ at jh
  have xcf:=d6 xl
  have pc:=lA (r:=cn (s.2*t.2.q)) xl
  have yl:((fe s.1 t.1,cn (s.2*t.2.q)):RT).1.length=8:=xS
  have ycf:=d6 yl
  have ycl:=aH yl
  have y11:=cW yl
  have ahs:=aU yl
  have yfl:=aJ yl
  have bO:=dT (O.map tn) (tn (p' s (tq t)))
  rw[<-lG] at bO
  change av (O.map tn)++[gC (fe s.1 t.1,cn (s.2*t.2.q))]=_ at bO
  have Ix:ot (p' s (tq t))=decide (fQ (s.2*t.2.q)≠0):=by
   show decide (s.2*t.2.q≠0)=_;by_cases hz:s.2*t.2.q=0
   .rw[jI (by simpa using hz),jI (by simpa using a9.2 hz)]
   rw[f3 hz,f3 (show fQ (s.2*t.2.q)≠0 from fun h=>hz (a9.1 h))]
  obtain⟨z,hz⟩:=ax (cn (s.2*t.2.q))
  rw[hz] at Fw jh pc yl ycf ycl y11 ahs yfl bO
  obtain⟨g,hg⟩:=ax (fQ (s.2*t.2.q))
  rw[hg] at jh Ix
  dsimp only at xcf ycf pc
  refine ae (fO h4 tcl xcl tcf xcf) ?_
  repeat refine ag ?_
  refine xL Fw ?_
  refine ae (bu @fG @da @cz pc xcl ycl ycf @append_nil.{0}) ?_
  repeat refine ag ?_
  refine xL jh ?_
  refine ae @fG ?_
  refine Br.bneInt ?_ ?_
  .intro h5 h6
   rw[Ix,f3 h5,if_pos rfl] at ck
   refine ae (bu h6 ycl y11 ahs @cT @c_ ro (bA tko bO @append_nil.{0})) ?_
   repeat refine ag ?_
   refine aA (i+1) ?_ (by omega)
   rw[ck,qe]
   refine eH [0,4] ?_ ?_
   .simp[bh,dF,cw]
   simp[d_,fD,ij]
  intro h5 h6
  rw[Ix,jI (by simpa using h5),if_neg (by decide)] at ck
  refine ae h6 ?_
  refine aA (i+1) ?_ (by omega)
  rw[ck]
  refine eH [0,1] ?_ ?_
  .simp[bh,dF,cw]
  simp[d_,fD,ij]
 intro h1 h2
 have Nb:p.take i=p:=dm (by omega)
 rw[Nb] at ro tko ⊢
 refine ae h2 ?_
 refine a_ ?_
 exact kT (aB ro tko)
theorem aad: ∀ x∈z8,0<=x/\x<=(1000000:Int):=fun x hx=>by
 rw[List.eq_of_mem_replicate hx];omega
theorem RV (H:List Ob) (A:List RT) (t:RT):bJ H [PL A,.agg (fC t)]=some [PL A,.agg (fC t)]:=by
 have h:eT H (.agg (fC t))=some (.agg (fC t)):=by
  unfold eT;simp only[cT,Option.map_some,dI]
 unfold bJ;unfold bJ;unfold bJ;rw[h];rfl
theorem aft (p:List Tm) (r:Raw) (hp:LOkT 1000000 1000000 p) (hr:r.Ok 1000000) (hn:p.length<=10000):
 Den Tryz.prog 54 [] [PL (p.map tn),.agg r.c] [] (PL ((i_ p (z8,r.q)).map tn)):=by
 have h:=YL p (z8,r) hp bX aad hr hn
 change Den Tryz.prog 103 [] [_,_] [] (PL ((i_ p (z8,r.q)).map tn)) at h
 have zl:=aH (t:=(z8,r)) bX
 obtain⟨A,hA⟩:=ax (p.map tn)
 obtain⟨B,hB⟩:=ax ((i_ p (z8,r.q)).map tn)
 rw[hA,hB] at h
 rw[hA,hB]
 refine dq Tryz.func54 7 0 ?_
 refine bw (dR @cz @tu @NR @append_nil.{0}) ?_
 repeat refine ag ?_
 refine gp h (RV _ A (z8,r)) ?_
 refine aN ?_
 refine a_ rfl
theorem afu (r:Raw) (hr:r.Ok 100000):Den Tryz.prog 137 [] [.agg r.c] [] (PL ((nf [(z8,r.q)]).map tn)):=by
 have h:=U3 [(z8,r)] (fun t ht=>by
  rw[qz] at ht;subst ht;exact⟨bX,Jx,hr.mono (by decide)⟩) ((PB.one (k:=100000) (hr.bd (by decide))).mono (by decide)) (by show 1<=10000000000;decide)
 change Den Tryz.prog 44 [] [.fv (.sl [gC (z8,r)])] [] (PL ((nf [(z8,r.q)]).map tn)) at h;have zl:=aH (t:=(z8,r)) bX;have z11:=cW (t:=(z8,r)) bX;have q4:=aU (t:=(z8,r)) bX;have fl:=aJ (t:=(z8,r)) bX;obtain⟨B,hB⟩:=ax ((nf [(z8,r.q)]).map tn);rw[hB] at h ⊢;refine dq Tryz.func137 6 0 ?_;refine bw (bu @cz @tu @NR zl q4 @cT @c_ @append_nil.{0}) ?_
 repeat refine ag ?_
 refine gp h (by simp[bJ,eT,eo,dZ]) ?_;refine aN ?_;refine a_ rfl
def n4:List Tm:=[(z8,1)]
theorem RX:nf [(z8,((1:Int):Rat))]=n4:=by
 unfold nf;simp[insT,n4]
theorem ajZ:Den Tryz.prog 79 [] [] [] (PL (n4.map tn)):=by
 have jN:=iy 1 (by omega);change Den Tryz.prog 32 [] _ [] (.agg (cn ((1:Int):Rat)).c) at jN;have h:=afu (cn ((1:Int):Rat)) ((bj (Go.Pl.bd_int (x:=1) (by decide))).mono (by decide));rw[cu,RX] at h;obtain⟨B,hB⟩:=ax (n4.map tn);rw[hB] at h ⊢;obtain⟨z,hz⟩:=ax (cn ((1:Int):Rat));rw[hz] at jN h;refine dq Tryz.func79 3 0 ?_;refine aW ?_;refine aM jN ?_;refine ae (aB @da @append_nil.{0}) ?_;refine xL h ?_;refine aN ?_;refine a_ rfl
theorem RY (p q:List Tm) (hp:Canon p) (hq:Len8 q) (hb:PB 1000000000 (p++q)) (Us: ∀ t∈q,∀ e∈t.1,-1000000000000<=e/\e<=1000000000000) (hn:p.length<=1000000) (Uo:q.length<=1000000):
 Den Tryz.prog 45 [] [PL (p.map tn),PL (q.map tn)] [] (PL ((nf (p++q)).map tn)):=by
 have rl:=aw (q.map tn)
 rw[length_map] at rl
 obtain⟨n,b8⟩:=ax q.length
 rw[b8] at rl Uo
 rw[<-LJ hp hq]
 have hqB:=hb.bd (by decide)
 obtain⟨R,hR⟩:=ax (addT p q)
 rw[hR]
 refine dq Tryz.func45 19 0 ?_
 refine aW ?_
 refine wl (α:=Nat×List Tm) (fun⟨i,o⟩=>⟨[.any,PL (q.map tn),.any,.any,.nilsl,.fv (.sl (av (o.map tn))),.int .i64 i]++replicate 14 .any,[]⟩)
  (fun⟨i,_⟩=>n - i) (fun⟨i,o⟩=>i<=n/\o=addT p (q.take i)) (0,p) ?_ ?_ ?_
 .exact bx []
 .exact⟨dk _,rfl⟩
 rintro⟨i,o⟩ ⟨h1,ho⟩
 refine bw rl ?_
 refine bM ?_ ?_
 .intro g1 g2
  obtain⟨t,ht⟩: ∃ x,q[i]?=some x:=⟨_,qb (by omega)⟩
  have M9:t∈q:=mem_of_getElem? ht
  have cL:q.take (i+1)=q.take i++[t]:=by rw[List.take_add_one,ht];rfl
  have ry:=cE (ts:=q.map tn) (i:=i) (by rw[length_map];omega)
  rw[show(q.map tn).getD i mf=tn t by rw[qa,List.getElem?_map,ht];rfl] at ry
  have Uu:Len8 (q.take i):=fun x hx=>hq x (xW hx)
  have hoc:Canon o:=by rw[ho];exact oG hp Uu
  have Wt:PB 1000000000 (p++q.take i++[t]):=by
   have:=hb.take (p.length+(i+1));rw[List.take_append,dm (by omega),show p.length+(i+1) - p.length=i+1 by omega,cL,<-append_assoc] at this;exact this
  have aht:PB 1000000000 (p++q.take i):=by
   have:=hb.take (p.length+i);rw[List.take_append,dm (by omega),show p.length+i - p.length=i by omega] at this;exact this
  have abQ:o=nf (p++q.take i):=by rw[ho,LJ hp Uu]
  have Y7: ∀ u∈o,Bd 1000000000 u.2:=by rw[abQ];exact aht.nf.bd (by decide)
  have hsb: ∀ u∈o,u.1=t.1->Bd 1000000000 (t.2+u.2):=fun u hu _=>by
   rw[abQ] at hu;exact Wt.snoc_bd (by decide) u hu
  have pR:o.length<=10000000000:=by
   have:=wb (p++q.take i);rw[<-abQ,qe,length_take] at this;omega
  have wS:Bd 1000000000 t.2:=hqB t (List.mem_append_right _ M9)
  have h98:=aeJ o (tn t) hoc Y7 ⟨hq t M9,fun x hx=>Us t M9 x hx,bj wS⟩ pR (fun u hu he=>by
   show Bd _ ((cn t.2).q+u.2);rw[cu];exact hsb u hu he)
  rw[show tq (tn t)=t by show(t.1,(cn t.2).q)=t;rw[cu]] at h98
  have ox:insT o t=addT p (q.take (i+1)):=by rw[cL,NG,ho]
  obtain⟨s,hs⟩:=ax (insT o t)
  rw[hs] at h98 ox
  have t8:(tn t).1.length=8:=hq t M9
  have P4:=aU t8
  have fx:=aJ t8
  refine ae (dN g2 ry P4 @dI rl fx) ?_
  repeat refine ag ?_
  refine gp h98 (by simp[bJ,eT,cT,dI,eo,dZ]) ?_
  refine ae @c_ ?_
  refine aA (i+1,s) ?_ ⟨by omega,ox⟩
  exact bx []
 intro g1 g2
 have eO:q.take i=q:=dm (by omega)
 rw[eO,hR] at ho
 subst ho
 refine ae g2 ?_
 exact a_ rfl
def Hg (p q:List Tm):List Tm:=q.flatMap (i_ p)
theorem RZ {p q:List Tm} {t:Tm}:Hg p (q++[t])=Hg p q++i_ p t:=by simp[Hg]
theorem Au (p:List Tm): ∀ q:List Tm,q.flatMap (mS p)=prodT q p
 | []=>rfl
 | t::q=>by rw[List.flatMap_cons,Au p q,lr,zx]
theorem uZ (p:List Tm): ∀ q:List Tm,(Hg p q).Sublist (prodT q p)
 | []=> .slnil
 | t::q=>by
  have:=uZ p q;rw[lr,<-zx];unfold Hg;rw[List.flatMap_cons];exact List.Sublist.append List.filter_sublist this
theorem Vp (p:List Tm) (t:Tm):Eqv (i_ p t) (mS p t):=fun m=>by
 unfold i_;exact jU
theorem Vq (p:List Tm): ∀ q:List Tm,Eqv (Hg p q) (prodT p q):=fun q=>by
 refine Eqv.trans ?_ Eqv.prod_comm;rw[<-Au];unfold Hg
 induction q with
 | nil=>exact Eqv.refl _
 | cons t q ih=>
  rw[List.flatMap_cons,List.flatMap_cons];exact(Vp p t).app ih
theorem Av {p q:List Tm} (hp:Len8 p) (hq:Len8 q):Len8 (Hg p q):=fun t ht=>(hq.prod hp) t ((uZ p q).subset ht)
theorem aae {p q:List Tm} (hp:Len8 p) (hq:Len8 q):nf (Hg p q)=nf (prodT p q):=(Vq p q).nf_eq (Av hp hq) (hp.prod hq)
theorem Vr (p q:List Tm):(Hg p q).length<=p.length*q.length:=by
 have:=(uZ p q).length_le;rw[rE,Nat.mul_comm] at this;exact this
theorem aj0 (p q:List Tm) {jp jq:Nat} (hp:LOkT 1000000 1000000 p) (hq:LOkT 1000000 1000000 q) (hbp:PB jp p) (hbq:PB jq q) (hj:2*(jp+jq)+1<=1000000000) (hn:p.length<=10000) (Uo:q.length<=10000) (hl:p.length*q.length<=1000000):
 Den Tryz.prog 48 [] [PL (p.map tn),PL (q.map tn)] [] (PL ((nf (prodT p q)).map tn)):=by
 have rl:=aw (q.map tn)
 rw[length_map] at rl
 rw[<-aae hp.len hq.len]
 obtain⟨n,b8⟩:=ax q.length
 rw[b8] at rl Uo
 obtain⟨R,hR⟩:=ax (nf (Hg p q))
 rw[hR]
 refine dq Tryz.func48 20 0 ?_
 refine aW ?_
 refine wl (α:=Nat×List Tm) (fun⟨i,o⟩=>⟨[PL (p.map tn),PL (q.map tn),.any,.any,.any,PL (o.map tn),.int .i64 i]++replicate 15 .any,[]⟩)
  (fun⟨i,_⟩=>n - i) (fun⟨i,o⟩=>i<=n/\o=nf (Hg p (q.take i))) (0,[]) ?_ ?_ ?_
 .refine eH [] ?_ ?_
  .simp[bh,dF,cw]
   trivial
  simp[d_]
 .exact⟨dk _,rfl⟩
 rintro⟨i,o⟩ ⟨h1,ho⟩
 refine bw rl ?_
 refine bM ?_ ?_
 .intro g1 g2
  obtain⟨t,ht⟩: ∃ x,q[i]?=some x:=⟨_,qb (by omega)⟩
  have M9:t∈q:=mem_of_getElem? ht
  have cL:q.take (i+1)=q.take i++[t]:=by rw[List.take_add_one,ht];rfl
  have ry:=cE (ts:=q.map tn) (i:=i) (by rw[length_map];omega)
  rw[show(q.map tn).getD i mf=tn t by rw[qa,List.getElem?_map,ht];rfl] at ry
  have t8:(tn t).1.length=8:=hq.len t M9
  have Wo:=YL p (tn t) hp t8 (fun x hx=>hq.exp t M9 x hx) (bj (hq.bd t M9)) hn
  rw[show tq (tn t)=t by show(t.1,(cn t.2).q)=t;rw[cu]] at Wo
  have Uu:Len8 (q.take i):=fun x hx=>hq.len x (xW hx)
  have hf8:Len8 (Hg p (q.take i)):=Av hp.len Uu
  have hoc:Canon o:=by rw[ho];exact dc hf8
  have h1p:Len8 [t]:=fun x hx=>by rw[List.mem_singleton.1 hx];exact hq.len t M9
  have hot:i_ p t=Hg p [t]:=by simp[Hg]
  have abR:Len8 (i_ p t):=by rw[hot];exact Av hp.len h1p
  have alY:PB (jp+jq) o:=by
   rw[ho,Nat.add_comm];exact(((hbq.take i).prod hbp).sub (uZ p _)).nf
  have alZ:PB (jp+jq) (i_ p t):=by
   rw[hot,Nat.add_comm];exact((hbq.sub (List.singleton_sublist.2 M9)).prod hbp).sub (uZ p _)
  have kV:=RY o (i_ p t) hoc abR ((alY.append alZ).mono (by omega)) (fun u hu e he=>by
   have Bt:=(mem_filter.1 hu).1;unfold mS at Bt;obtain⟨s,hs,rfl⟩:=mem_map.1 Bt;have h3:=GH (hp.exp s hs) (hq.exp t M9) e he;omega) (by
   have a:=wb (Hg p (q.take i));have b:=Vr p (q.take i);have c:p.length*(q.take i).length<=p.length*q.length:=Nat.mul_le_mul_left _ (by rw[length_take];omega);rw[<-ho] at a;omega) (by have:=Hf p t;omega)
  have ox:nf (o++i_ p t)=nf (Hg p (q.take (i+1))):=by
   rw[cL,RZ,ho];exact((Eqv.nf _).app (Eqv.refl _)).nf_eq (hf8.nf.app abR) (hf8.app abR)
  obtain⟨s,hs⟩:=ax (nf (o++i_ p t))
  rw[hs] at kV ox
  have P4:=aU t8
  have fx:=aJ t8
  refine ae (dN g2 ry P4 @dI rl fx) ?_
  repeat refine ag ?_
  refine gp Wo (by simp[bJ,eT,cT,dI,eo,dZ]) ?_
  refine ae @c_ ?_
  refine gp kV (by simp[bJ,eT,eo,dZ]) ?_
  refine aN ?_
  refine aA (i+1,s) ?_ ⟨by omega,ox⟩
  exact bx []
 intro g1 g2
 have eO:q.take i=q:=dm (by omega)
 rw[eO,hR] at ho
 subst ho
 refine ae g2 ?_
 exact a_ rfl
theorem afv (p:List Tm) (v:Nat) (hv:v<8) (hl:Len8 p) (hn:p.length<=10000):Den Tryz.prog 222 [] [PL (p.map tn),.int .i64 v] [] (.int .i64 (ju v p)):=by
 have rp:=aw (p.map tn);rw[length_map] at rp;obtain⟨n,b8⟩:=ax p.length;rw[b8] at rp hn;refine dq Tryz.func222 21 0 ?_;refine aW ?_;refine wl (α:=Nat) (fun i=>⟨[PL (p.map tn),.int .i64 v,.any,.any,.any,.int .i64 (ju v (p.take i)),.int .i64 i]++replicate 16 .any,[]⟩) (fun i=>n - i) (fun i=>i<=n) 0 ?_ (dk _) ?_
 .refine eH [] ?_ ?_
  .simp[bh,dF,cw];rfl
  simp[d_]
 intro i hi;refine bw rp ?_;refine bM ?_ ?_
 .intro h1 h2;have dJ:i<p.length:=by omega
  have r1:=oU dJ;have hm:=hl _ (lY dJ);have hd:=C_ (v:=v) dJ;obtain⟨t,ht⟩:=ax (p[i]);rw[ht] at r1 hm hd;have h8:(tn t).1.length=8:=hm;have q4:=aU h8;have fl:=aJ h8;have cl:=aH h8;have dS:=mT (t:=tn t) (i:=v) hv h8;change List.take 1 (List.drop v (fC (tn t)))=[PV.int .i64 (t.1.getD v 0)] at dS;have kz:=QW (t:=tn t) (i:=v) hv h8;change List.take 1 (List.drop v (gC (tn t)))=[FV.lit (.int .i64 (t.1.getD v 0))] at kz;have dl:(List.drop v (gC (tn t))).length=11 - v:=by rw[qt,fl]
  refine ae (eU h2 r1 fl rp kz dl @Nat.mul_one) ?_
  repeat refine ag ?_
  refine aA (i+1) ?_ (by omega);rw[hd];refine eH [] ?_ ?_
  .simp[bh,dF,cw];split<;>omega
  simp[d_]
 intro h1 h2;have Nb:p.take i=p:=dm (by omega);rw[Nb];refine ae h2 ?_;refine a_ rfl
theorem Dq {v D:Nat} {p:List Tm} {HH:List Ob} (hr: ∀ d,d<D->HH[d+1]?=some (.row false (av ((bD v (d:Int) p).map tn)))): ∀ l:List Nat,(∀ d∈l,d<D)->
 l6 HH (l.map (fun d:Nat=>PV.lsl (d+1) 0 (bD v (d:Int) p).length 11))=some (l.map (fun d:Nat=>FV.sl (av ((bD v (d:Int) p).map tn))))
 | [],_=>rfl
 | d::l,h=>by
  have hd:=hr d (h d (by simp));have hl:=aw ((bD v (d:Int) p).map tn);rw[length_map] at hl;rw[map_cons,map_cons,l6,Dq hr l (fun e he=>h e (by simp[he]))];simp only[dZ,hd];rw[if_pos (by omega),List.drop_zero,dm (by omega)]
theorem afw (o:Ob):o.ro.ro=o.ro:=by cases o<;>rfl
theorem EH: ∀ (ids:List Nat) (H:List Ob) (i:Nat),(shutIds ids H)[i]?=if i∈ids then(H[i]?).map Ob.ro else H[i]?
 | [],H,i=>by simp[shutIds]
 | k::ids,H,i=>by
  show(shutIds ids (shut H k))[i]?=_;rw[EH ids];unfold shut;rw[List.getElem?_modify];by_cases hk:k=i
  .subst hk;cases H[k]?<;>simp[afw]
  have:i≠k:=fun h=>hk h.symm
  simp[hk,this]
theorem Aw {v D:Nat} {p:List Tm} {env ahu:List PV} (t:Nat) (hD:ju v p+1=(D:Int)) (ht:env[t]?=some (.lsl 0 0 D 1)) (h2:bh [] (env.set t (GJ (dH v p))) ahu):Weak 0 ⟨env,HC v D p⟩ ⟨ahu,[]⟩:=by
 refine Weak.shut (List.range (D+1)) ?_;have hr: ∀ d,d<D->(shutIds (List.range (D+1)) (HC v D p))[d+1]?=some (.row false (av ((bD v (d:Int) p).map tn))):=fun d hd=>by
  have:=zN (v:=v) (p:=p) hd [];rw[append_nil] at this;rw[EH,if_pos (List.mem_range.2 (by omega)),this];rfl
 have h0:(shutIds (List.range (D+1)) (HC v D p))[0]?=some (.box false (eX v D p)):=by
  rw[EH,if_pos (List.mem_range.2 (by omega))];rfl
 obtain⟨HH,FA⟩:=ax (shutIds (List.range (D+1)) (HC v D p));rw[FA] at hr h0 ⊢;refine Weak.fzb t 0 D (eX v D p) _ ht h0 (cP v D p) (Dq hr (List.range D) (fun d hd=>List.mem_range.1 hd)) (fun k hk o ho=>?_) ?_
 .obtain⟨c,hc,jF⟩:=List.mem_flatMap.1 hk;obtain⟨d,hd,rfl⟩:=mem_map.1 hc;simp[fN] at jF;subst jF;rw[hr d (List.mem_range.1 hd)] at ho;cases ho;rfl
 have e2:(PV.fv (.sl (((List.range D).map (fun d:Nat=>FV.sl (av ((bD v (d:Int) p).map tn)))).map fun x=>[x])))=GJ (dH v p):=by
  unfold GJ dH;rw[hD,Int.toNat_natCast,List.map_map,List.map_map];rfl
 rw[e2];exact wk [] (by simp) rfl h2 trivial
theorem afx (p:List Tm) (v:Nat) (hv:v<8) (hp:POk 10000000 2000 p) (hn:p.length<=10000):
 Den Tryz.prog 189 [] [PL (p.map tn),.int .i64 v] [] (GJ (dH v p)):=by
 have ahv:=afv p v hv hp.canon.len (by omega)
 have Kr:=uA (v:=v) (p:=p)
 have xT:ju v p<=2000:=uC (by decide) (fun t ht=>(hp.at (by decide) v t ht).2)
 obtain⟨D,hD⟩: ∃ D:Nat,ju v p+1=(D:Int):=⟨(ju v p+1).toNat,by omega⟩
 have hDl:D<=2001:=by omega
 have rp:=aw (p.map tn)
 rw[length_map] at rp
 obtain⟨n,b8⟩:=ax p.length
 rw[b8] at rp hn
 have hD2:=hD
 obtain⟨g,hg⟩:=ax (ju v p)
 rw[hg] at ahv hD
 refine dq Tryz.func189 40 0 ?_
 refine aW ?_
 refine aM ahv ?_
 simp -dsimp(disch:=omega) only[hD,Int.toNat_natCast,↓reduceIte,ru]
 repeat refine ag ?_
 have start:HC v D (p.take 0)=(Ob.box true ([]++(List.range D).map (fun i=>PV.lsl (([]:List Ob).length+1+i) 0 0 11))::[]++replicate D (Ob.row true [])):=by
  unfold HC;show _::_=_::_;congr 1
  .unfold eX;show _=Ob.box true (List.map _ _);congr 1;refine List.map_congr_left fun d _=>?_
   show PV.lsl (d+1) 0 0 11=PV.lsl (0+1+d) 0 0 11;congr 1;omega
  unfold sP;show _=replicate D _;rw[List.eq_replicate_iff];refine⟨by simp,fun o ho=>?_⟩;obtain⟨d,_,rfl⟩:=mem_map.1 ho;rfl
 refine wl (α:=Nat) (fun i=>if i=n then⟨[PL (p.map tn),.int .i64 v,.any,.any,.any,GJ (dH v p),.int .i64 i]++replicate 35 .any,[]⟩ else⟨[PL (p.map tn),.int .i64 v,.any,.any,.any,.lsl 0 0 D 1,.int .i64 i]++replicate 35 .any,HC v D (p.take i)⟩) (fun i=>n - i) (fun i=>i<=n) 0 ?_ (dk _) ?_
 .refine Weak.nilcs 11 true (by decide) D [] _ [] rfl ?_
  rw[<-start]
  by_cases h0:0=n
  .rw[if_pos h0]
   have hpn:p.take 0=p:=dm (by omega)
   rw[hpn]
   refine Aw 5 hD2 rfl ?_
   simp[bh,dF,cw]
   unfold GJ
   rfl
  rw[if_neg h0]
  refine wk (List.range (D+1)) List.nodup_range rfl ?_ (Ma v D _)
  simp[bh,dF,cw]
 intro i hi
 by_cases f0:i=n
 .rw[if_pos f0]
  have h4:decide ((i:Int)<(n:Int))=false:=oc
  refine bw (aB h4 rp) ?_
  refine a_ ?_
  unfold GJ
  rfl
 rw[if_neg f0]
 have h4:decide ((i:Int)<(n:Int))=true:=yP
 have cl:=cP v D (p.take i)
 have dJ:i<p.length:=by omega
 have r1:=oU dJ
 have aY:p[i]∈p:=lY dJ
 have hm:=hp.canon.len _ aY
 have dS:=hp.at (by decide) v _ aY
 have abo:=LN (v:=v) aY
 have eO:p.take (i+1)=p.take i++[p[i]]:=by rw[List.take_add_one,qb dJ];rfl
 obtain⟨t,ht⟩:=ax (p[i])
 rw[ht] at r1 hm dS abo eO
 obtain⟨d,hd⟩: ∃ d:Nat,t.1.getD v 0=(d:Int):=⟨(t.1.getD v 0).toNat,by omega⟩
 have P7:d<D:=by omega
 have ca:=zP (iD (v:=v) (p:=p.take i) P7)
 have h8:(tn t).1.length=8:=hm
 have q4:=aU h8
 have fl:=aJ h8
 have tcl:=aH h8
 have tat:=mT (t:=tn t) (i:=v) hv h8
 change List.take 1 (List.drop v (fC (tn t)))=[PV.int .i64 (t.1.getD v 0)] at tat
 rw[hd] at tat
 have bS:=me (t:=tn t) (i:=v) (x:=0) hv h8
 change List.take v (fC (tn t))++[PV.int IntKind.i64 0]++List.drop (v+1) (fC (tn t))=fC (tn (t.1.set v 0,t.2)) at bS
 have Tu:(tn (t.1.set v 0,t.2)).1.length=8:=by simp[tn,hm]
 obtain⟨u,hu⟩:=ax (tn (t.1.set v 0,t.2))
 have bO:=dT ((bD v (d:Int) (p.take i)).map tn) (tn (t.1.set v 0,t.2))
 rw[<-lG] at bO
 obtain⟨Q,hQ⟩:=ax (bD v (d:Int) (p.take i)++[(t.1.set v 0,t.2)])
 have hQ':=hQ
 have kU:(bD v (d:Int) (p.take i)).length<=i:=by
  have:=wc (v:=v) (d:=(d:Int)) (p:=p.take i);rw[length_take] at this;omega
 have ro:=aw ((bD v (d:Int) (p.take i)).map tn)
 rw[length_map] at ro
 have hQl:Q.length=(bD v (d:Int) (p.take i)).length+1:=by rw[<-hQ,qe];rfl
 have tko:=bB (ts:=(bD v (d:Int) (p.take i)).map tn) (n:=(bD v (d:Int) (p.take i)).length) (by rw[length_map];omega)
 have tU:=zN (v:=v) (p:=p.take i) P7
 have h0:=aeW v D (p.take i)
 have hL:=fJ v D (p.take i)
 have Is:=YD v D (p.take i) d
 rw[hQ] at bO
 rw[hu] at bS Tu bO
 obtain⟨O,hO⟩:=ax (bD v (d:Int) (p.take i))
 rw[hO] at ca bO kU ro hQl tU tko
 obtain⟨CC,hCC⟩:=ax (eX v D (p.take i))
 rw[hCC] at ca cl h0 Is
 obtain⟨HH,FA⟩:=ax (HC v D (p.take i))
 rw[FA] at tU h0 Is hL ⊢
 have u11:=cW Tu
 have ul:=aH Tu
 have abp:=aU Tu
 have ufl:=aJ Tu
 have ym:(D+1+1==d+1)=false:=by rw[qx];omega
 simp -dsimp(disch:=omega) only[replicate,h4,r1,q4,dI,fl,tcl,rp,tat,bS,Nat.mul_one,append_nil,hL,zQ hL,L_ hL,↓reduceIte,Nat.reduceAdd,Nat.reduceLT,Nat.reduceLeDiff,ru]
 repeat refine ag ?_
 refine dw (by kernel_rfl) ?_
 simp -dsimp(disch:=omega) only[h0,ca,cl,u11,ul,abp,cT,c_,ro,tko,bO,tU,append_nil,hL,zQ hL,L9 hL,ym,qe,length_cons,length_nil,append_assoc,↓reduceIte,Nat.reduceAdd,Nat.reduceMul,Nat.reduceLT,Nat.reduceLeDiff,ru]
 repeat refine ag ?_
 refine⟨zO _ _ _,?_⟩
 repeat refine ag ?_
 refine ae (aB Is cl) ?_
 repeat refine ag ?_
 refine aA (i+1) ?_ (by omega)
 have hk:=fun a b=>GK (a:=a) (b:=b) P7 hd hQ'
 by_cases ahw:i+1=n
 .rw[if_pos ahw]
  have hpn:p.take (i+1)=p:=dm (by omega)
  simp only[<-eO,hpn] at hk
  refine Weak.trans ?_ (Aw (env:=[PL (p.map tn),.int .i64 v,.any,.any,.any,.lsl 0 0 D 1,.int .i64 ((i+1:Nat):Int)]++replicate 35 .any) 5 hD2 rfl ?_)
  .refine wk (nS D d) (qc P7) rfl ?_ ?_
   .simp[bh,dF,cw]
    exact En D d
   rw[<-FA,<-hCC,<-hO]
   exact hk _ _
  simp[bh,dF,cw]
  unfold GJ
  rfl
 rw[if_neg ahw]
 simp only[<-eO] at hk
 refine wk (nS D d) (qc P7) rfl ?_ ?_
 .simp[bh,dF,cw]
  exact En D d
 rw[<-FA,<-hCC,<-hO]
 exact hk _ _
theorem LOkT.pb {k:Nat} {E:Int} {p:List Tm} (h:LOkT k E p) (hk:1<=k) (hn:p.length<=bk):PB (12*(k+1)+1) p:=PB.terms (n:=12) (j:=k) hk h.bd hn (qp _)
theorem YM (p q:List Tm) (v:Nat) (hv:v<8) (hp:POk 1000000 2000 p) (hq:LOkT 1000000 100000 q) (hn:p.length<=20) (hqs:q.length<=bk) (bF:zU q (dH v p)):
 Den Tryz.prog 144 [] [PL (p.map tn),.int .i64 v,PL (q.map tn)] [] (PL ((cS v q p).map tn)):=by
 have Xl:=afx p v hv (hp.mono (by decide) (by decide)) (by omega)
 have hm:=iq
 have Kr:=uA (v:=v) (p:=p)
 have xT:ju v p<=2000:=uC (by decide) (fun t ht=>(hp.at (by decide) v t ht).2)
 have fr:=tm v p
 unfold cS
 obtain⟨cs,fL⟩:=ax (dH v p)
 rw[fL] at Xl bF fr ⊢
 obtain⟨D,hD⟩:=ax cs.length
 have hDl:D<=2001:=by omega
 have jM:(cs.map fun c=>[FV.sl (av (c.map tn))]).length=D:=by rw[length_map,hD]
 unfold GJ at Xl
 obtain⟨X,hX⟩:=Lc ((cs.map fun c=>[FV.sl (av (c.map tn))]))
 have tU: ∀ i,(h:i<cs.length)->X.getD i []=[FV.sl (av (cs[i].map tn))]:=fun i h=>by rw[<-hX];exact Rj h
 rw[hX] at Xl jM
 refine dq Tryz.func144 26 0 ?_
 refine aW ?_
 refine aM Xl ?_
 refine ae jM ?_
 refine wl (α:=Nat) (fun i=>⟨[.any,.any,PL (q.map tn),.any,.any,.any,.any,.fv (.sl X),PL ((hornT q (cs.drop i)).map tn),.int .i64 ((i:Int) - 1)]++replicate 19 .any,[]⟩) (fun i=>i) (fun i=>i<=D) D ?_ (qp _) ?_
 .refine eH [] ?_ ?_
  .rw[List.drop_of_length_le (by omega)]
   simp[bh,dF,cw]
   exact trivial
  simp[d_]
 intro i hi
 refine aW ?_
 refine bM ?_ ?_
 .intro h1 h2
  obtain⟨j,rfl⟩: ∃ j,i=j+1:=⟨i - 1,by omega⟩
  have e1:(((j+1:Nat):Int) - 1)=(j:Int):=by omega
  have kD:j<cs.length:=by omega
  have hr:=tU j kD
  obtain⟨o1,o2⟩:=bF.out (j+1)
  obtain⟨p1,p2⟩:=bF.prod (j+1)
  obtain⟨c1,c2⟩:=bF.part _ (lY kD)
  have sw:hornT q (cs.drop j)=nf (nf (prodT (hornT q (cs.drop (j+1))) q)++cs[j]):=by
   rw[qj kD,CP o1.len hq.len c1.len];rfl
  have h48:=aj0 (hornT q (cs.drop (j+1))) q (o1.mono (by decide) (by decide)) (hq.mono (by decide) (by decide)) (o1.pb (by decide) o2) (hq.pb (by decide) hqs) (by decide) (by omega) (by omega) (by
   have:=Nat.mul_le_mul (show(hornT q (cs.drop (j+1))).length<=20 by omega) (show q.length<=20 by omega);omega)
  have kV:=RY (nf (prodT (hornT q (cs.drop (j+1))) q)) cs[j] (dc (o1.len.prod hq.len)) c1.len (((p1.pb (by decide) p2).append (c1.pb (by decide) c2)).mono (by decide)) (fun t ht e he=>by
   have:=c1.exp t ht e he;omega) (by omega) (by omega)
  rw[<-sw] at kV
  obtain⟨A,hA⟩:=ax ((hornT q (cs.drop (j+1))).map tn)
  obtain⟨Q,hQ⟩:=ax (q.map tn)
  obtain⟨M,hM⟩:=ax ((nf (prodT (hornT q (cs.drop (j+1))) q)).map tn)
  obtain⟨C,hC⟩:=ax (cs[j].map tn)
  rw[hA,hQ,hM] at h48
  rw[hM,hC] at kV
  rw[hC] at hr
  rw[hA,hQ]
  refine ae e1 ?_
  refine dw (by kernel_rfl) ?_
  refine aN ?_
  refine aM h48 ?_
  refine ae (aB jM hr) ?_
  repeat refine ag ?_
  refine aM kV ?_
  refine aN ?_
  repeat refine ag ?_
  refine aA j ?_ (by omega)
  rw[<-hQ]
  exact bx []
 intro h1 h2
 have Cn:i=0:=by omega
 subst Cn
 refine ae (aB h2 @List.drop_zero.{0}) ?_
 refine a_ rfl
theorem JS {p:List Tm} {r:Rat} (hp:Canon p) (hr:r≠0):i_ p (z8,r)=cH p r:=by
 unfold i_ mS cH;have e:p.map (fun s:Tm=>(fe s.1 z8,s.2*r))=p.map (fun t=>(t.1,t.2*r)):=List.map_congr_left (fun t ht=>by
  have h8:=hp.len t ht;have:fe t.1 z8=t.1:=by
   have:=wv h8 bX;unfold fe z8;apply ext_getElem
   .simp[h8]
   intro i h1 h2;have h3:i=0\/i=1\/i=2\/i=3\/i=4\/i=5\/i=6\/i=7:=by omega
   rcases h3 with rfl | rfl | rfl | rfl | rfl | rfl | rfl | rfl<;>simp
  rw[this])
 show List.filter ot (p.map (fun s:Tm=>(fe s.1 z8,s.2*r)))=_;rw[e,List.filter_eq_self.2];intro u hu;obtain⟨t,ht,rfl⟩:=mem_map.1 hu;unfold ot;refine f3 (fun h2=>?_);rcases Rat.mul_eq_zero.1 h2 with h3 | h3
 .exact hp.nz t ht h3
 exact hr h3
theorem aj1 (p:List Tm) (v k:Nat) (hv:v<8) (hp:POk k 1000000 p) (hn:p.length<=20) (hk:k<=900000):Den Tryz.prog 77 [] [PL (p.map tn),.int .i64 v] [] (PL ((bg v p).map tn)):=by
 have wW:=hp.prim (by decide) (by decide) hv;have hTs:TsOk 1000000000 ((bg v p).map tn):=fun t ht=>(wW.ts (by decide) t ht).mono (by omega)
 have pn:=U3 ((bg v p).map tn) hTs (by
  rw[bE];exact PB.terms (n:=20) (j:=900001) (by decide) (fun t ht=>(wW.bd t ht).mono (by omega)) (by rw[eJ];exact hn) (by decide)) (by rw[length_map,eJ];omega)
 rw[bE,e_ wW.canon] at pn;have rl:=aw (p.map tn);rw[length_map] at rl;obtain⟨n,b8⟩:=ax p.length;rw[b8] at rl hn;have rT:=aw ((bg v p).map tn);rw[length_map,eJ,b8] at rT;have tkT:=bB (ts:=(bg v p).map tn) (n:=n) (by rw[length_map,eJ];omega);refine dq Tryz.func77 44 0 ?_;refine aW ?_;refine wl (α:=Nat) (fun i=>⟨[PL (p.map tn),.int .i64 v,.any,.any,.any,.lsl 0 0 i 11,.int .i64 i]++replicate 39 .any,[.row true (av ((bg v (p.take i)).map tn))]⟩) (fun i=>n - i) (fun i=>i<=n) 0 ?_ (dk _) ?_
 .refine Weak.nil 5 11 (by decide) rfl ?_;refine eH [0] ?_ ?_
  .simp[bh,dF,cw]
  simp[d_,fD,bg,av]
 intro i hi;have rli:=aw ((bg v (p.take i)).map tn);rw[length_map,eJ,length_take,b8,Nat.min_eq_left hi] at rli;have tki:=bB (ts:=(bg v (p.take i)).map tn) (n:=i) (by rw[length_map,eJ,length_take];omega);refine bw rl ?_;refine bM ?_ ?_
 .intro h1 h2;have dJ:i<p.length:=by omega
  have r1:=cE (ts:=p.map tn) (i:=i) (by rw[length_map];omega);rw[p9 dJ] at r1;have aY:p[i]∈p:=lY dJ;have Kv:=hp.bd _ aY;have Pn:=hp.at (by decide) v _ aY;have hm:=hp.canon.len _ aY;have cL:=C6 (v:=v) dJ;obtain⟨t,ht⟩:=ax (p[i]);rw[ht] at r1 Kv Pn hm cL;have bO:=dT ((bg v (p.take i)).map tn) (tn (t.1.set v (t.1.getD v 0+1),t.2 / (t.1.getD v 0+1)));rw[<-lG,<-cL] at bO;obtain⟨x,hx⟩:=ax (t.1.getD v 0);rw[hx] at Pn bO;have h59:=Yl 1 (x+1) (by omega) (by omega) (by omega);have dX:Bd 2 (((1:Int):Rat) / ((x+1:Int):Rat)):=Bd.div (j:=1) (k:=1) (bd_int (by decide)) (bd_int (FD (show _<=1000001 by omega) (by decide))) (jw (by omega)) (by decide);have Fw:=Lv (cn t.2) (cn (((1:Int):Rat) / ((x+1:Int):Rat))) ((bj Kv).mono (by omega)) ((bj dX).mono (by omega))
  rw[cu,cu,show t.2*(((1:Int):Rat) / ((x+1:Int):Rat))=t.2 / (x+1) by rw[k4];have:=jw (x:=x+1) (by omega);grind] at Fw;change Den Tryz.prog 111 [] [.int .i64 1,.int .i64 (x+1)] [] (.tup [.agg (cn (((1:Int):Rat) / ((x+1:Int):Rat))).c,.int .i64 0]) at h59;change Den Tryz.prog 65 [] [.agg (cn t.2).c,.agg (cn (((1:Int):Rat) / ((x+1:Int):Rat))).c] [] (.agg (cn (t.2 / (x+1))).c) at Fw;have t0:((t.1.set v (x+1),cn (t.2 / (x+1))):RT).1.length=8:=by simp[hm]
  have t1:((t.1.set v (x+1),cn t.2):RT).1.length=8:=by simp[hm]
  have t2:(tn t).1.length=8:=hm;have bS:=me (t:=tn t) (i:=v) (x:=x+1) hv hm;have dS:=mT (t:=tn t) (i:=v) hv hm;have gY:=mT (t:=(t.1.set v (x+1),cn t.2)) (i:=v) hv t1;change List.take 1 (List.drop v (fC (tn t)))=[PV.int .i64 (t.1.getD v 0)] at dS;rw[hx] at dS;dsimp only at gY;rw[show(t.1.set v (x+1)).getD v 0=x+1 by rw[qa,qv (by omega)];rfl] at gY;have cf:=d6 t1;have pc:=lA (r:=cn (t.2 / (x+1))) t1;have q4:=aU t2;have fl0:=aJ t2;have Tl:=cW t0;have Um:=aH t0;have Zd:=aH t1;have cl2:=aH t2;have W3:=aU t0;have agO:=aJ t0;obtain⟨y,hy⟩:=ax (cn (((1:Int):Rat) / ((x+1:Int):Rat)));rw[hy] at h59 Fw;obtain⟨z,hz⟩:=ax (cn (t.2 / (x+1)));rw[hz] at Fw pc Tl Um W3 agO
  change List.take v (fC (tn t))++[PV.int IntKind.i64 (x+1)]++List.drop (v+1) (fC (tn t))=fC (t.1.set v (x+1),cn t.2) at bS;change av ((bg v (p.take i)).map tn)++[gC (t.1.set v (x+1),cn (t.2 / ((x:Rat)+1)))]=_ at bO;rw[hz] at bO;have p1:((1:Int)<=0)=False:=by simp
  refine ae (bu h2 r1 rl q4 @dI fl0 Zd (dN cl2 dS gY bS @Nat.mul_one @append_nil.{0})) ?_
  repeat refine ag ?_
  refine aM h59 ?_;refine ae (fO @da @cz cf Zd @append_nil.{0}) ?_
  repeat refine ag ?_
  refine gp Fw (by simp[bJ,eT,zA,Gi,tu]) ?_;refine ae (bu @fG @da @cz @tu pc Tl Um (bu Zd @cT @c_ W3 tki rli bO @append_nil.{0})) ?_
  repeat refine ag ?_
  refine aA (i+1) ?_ (by omega);exact bx [4]
 intro h1 h2;have pj:p.take i=p:=dm (by omega);have f0:i=n:=by omega
 subst f0;rw[pj];refine ae h2 ?_
 repeat refine ag ?_
 refine gp pn (by simp[bJ,eT,eo,dZ,tkT,rT]) ?_;refine aN ?_;refine a_ rfl
theorem aj2 (p:List Tm) (v:Nat) (hv:v<8) (lo hi:List Raw) (hp:POk 900000 1024 p) (hs:p.length<=bk)
 (ej:LOk 1000 lo) (eC:LOk 1000 hi) (ok1:zU (cg hi) (dH v (bg v p))) (P_:zU (cg lo) (dH v (bg v p))):
 Den Tryz.prog 88 [] [PL (p.map tn),.int .i64 v,RL lo,RL hi] [] (PL ((betT v lo hi p).map tn)):=by
 have hm:=iq
 have h77:=aj1 p v 900000 hv (hp.mono (by decide) (by decide)) (by omega) (by decide)
 have wW:=hp.prim (v:=v) (by decide) (by decide) hv
 have kU:(bg v p).length<=bk:=by rw[eJ];exact hs
 have hP1:=j6 eC (by decide)
 have hP2:=j6 ej (by decide)
 have Pz:LOkT 1000000 100000 (cg hi):=⟨fun t ht=>(gU ht).1,fun t ht=>(hP1.bd (by decide) t ht).mono (by decide),fun t ht e he=>by have:=(gU ht).2 e he;omega⟩
 have I6:LOkT 1000000 100000 (cg lo):=⟨fun t ht=>(gU ht).1,fun t ht=>(hP2.bd (by decide) t ht).mono (by decide),fun t ht e he=>by have:=(gU ht).2 e he;omega⟩
 have l1:=r7 hi
 have l2:=r7 lo
 have a1:=YM (bg v p) (cg hi) v hv (wW.mono (by decide) (by decide)) Pz (by omega) (by unfold bk;omega) ok1
 have a2:=YM (bg v p) (cg lo) v hv (wW.mono (by decide) (by decide)) I6 (by omega) (by unfold bk;omega) P_
 have s1:=aeK hi (eC.mono (by decide))
 have s2:=aeK lo (ej.mono (by decide))
 obtain⟨u1,u2⟩:=ok1.out 0
 obtain⟨w1,w2⟩:=P_.out 0
 rw[List.drop_zero] at u1 u2 w1 w2
 change LOkT _ _ (cS v (cg hi) (bg v p)) at u1
 change (cS v (cg hi) (bg v p)).length<=_ at u2
 change LOkT _ _ (cS v (cg lo) (bg v p)) at w1
 change (cS v (cg lo) (bg v p)).length<=_ at w2
 have c1:Canon (cS v (cg hi) (bg v p)):=iZ wW.canon Pz.len
 have c2:Canon (cS v (cg lo) (bg v p)):=iZ wW.canon I6.len
 have m1:Bd 1 (((-1:Int):Rat)):=bd_int (by decide)
 have jN:=iy (-1) (by omega)
 change Den Tryz.prog 32 [] _ [] (.agg (cn ((-1:Int):Rat)).c) at jN
 have Bs:=aft (cS v (cg lo) (bg v p)) (cn ((-1:Int):Rat)) (w1.mono (by decide) (by decide)) (bj (m1.mono (by decide))) (by omega)
 rw[cu,JS c2 (by decide)] at Bs
 have kd:(cH (cS v (cg lo) (bg v p)) ((-1:Int):Rat)).length=(cS v (cg lo) (bg v p)).length:=dG _ _
 have kV:=RY (cS v (cg hi) (bg v p)) (cH (cS v (cg lo) (bg v p)) ((-1:Int):Rat)) c1 (Len8.scale c2.len)
  (((u1.pb (by decide) u2).append ((w1.pb (by decide) w2).scale (m1.mono (k:=1000) (by decide)))).mono (by decide)) (fun t ht e he=>by
   obtain⟨u,hu,rfl⟩:=mem_map.1 ht;have:=w1.exp u hu e he;omega) (by omega) (by omega)
 change Den Tryz.prog 45 [] _ [] (PL ((betT v lo hi p).map tn)) at kV
 have k1:=ej.len
 have k2:=eC.len
 have g1:=ah lo
 have g2:=ah hi
 have t1:=aj k1
 have t2:=aj k2
 obtain⟨A,hA⟩:=ax ((bg v p).map tn)
 obtain⟨P1,abK⟩: ∃ A,(cg hi).map tn=A:=⟨_,rfl⟩
 obtain⟨P2,abL⟩: ∃ A,(cg lo).map tn=A:=⟨_,rfl⟩
 obtain⟨B1,hB1⟩:=ax ((cS v (cg hi) (bg v p)).map tn)
 obtain⟨B2,hB2⟩:=ax ((cS v (cg lo) (bg v p)).map tn)
 obtain⟨B3,hB3⟩:=ax ((cH (cS v (cg lo) (bg v p)) ((-1:Int):Rat)).map tn)
 obtain⟨C,hC⟩:=ax ((betT v lo hi p).map tn)
 obtain⟨mm,ub⟩:=ax (cn ((-1:Int):Rat))
 rw[ub] at jN Bs
 rw[hA] at h77 a1 a2
 rw[abK] at a1 s1
 rw[abL] at a2 s2
 rw[hB1] at a1 kV
 rw[hB2] at a2 Bs
 rw[hB3] at Bs kV
 rw[hC] at kV ⊢
 unfold RL at s1 s2 ⊢
 refine dq Tryz.func88 26 0 ?_
 refine bw (dR g1 g2 k1 k2) ?_
 repeat refine ag ?_
 refine aM h77 ?_
 refine ae (dR g2 k2 t2 @append_nil.{0}) ?_
 repeat refine ag ?_
 refine gv s1 ?_
 refine vG ?_
 refine gp a1 (by simp[bJ,eT,eo,dZ]) ?_
 refine ae (dR g1 k1 t1 @append_nil.{0}) ?_
 repeat refine ag ?_
 refine gv s2 ?_
 refine vG ?_
 refine gp a2 (by simp[bJ,eT,eo,dZ]) ?_
 refine ae @append_nil.{0} ?_
 refine gp jN (by simp[bJ,eT,eo,dZ]) ?_
 refine ae (aB @da @append_nil.{0}) ?_
 refine xL Bs ?_
 refine ae (aB @fG @append_nil.{0}) ?_
 refine gp kV (by simp[bJ,eT,eo,dZ]) ?_
 refine ae @append_nil.{0} ?_
 refine a_ rfl
def oS (s:Int) (a b:List Raw):List Raw:=if s=1 then bG a b else bG b a
theorem Mw {a b:List Raw} (ha:a.length=9) (hb:b.length=9):IsCn (bG a b):=⟨nK a (cV b),rfl,fR ha (ew hb)⟩
theorem afy {s:Int} (hs:s=1\/s= -1) {a b:List Raw} (ha:a.length=9) (hb:b.length=9):((bG a b).map (fun r=>r.q*(s:Rat))).map cn=oS s a b:=by
 have hl:=d7 ha hb;refine wz ⟨_,rfl,by rw[length_map];exact hl⟩ ?_ (fun i hi=>?_)
 .unfold oS;split
  .exact Mw ha hb
  exact Mw hb ha
 have e:co (((bG a b).map (fun r=>r.q*(s:Rat))).map cn) i=co (bG a b) i*(s:Rat):=by
  unfold co;rw[mg _ (by omega)]
 rw[e,kM ha hb hi];unfold oS;rcases hs with rfl | rfl
 .rw[if_pos rfl,kM ha hb hi];grind
 rw[if_neg (by decide),kM hb ha hi];grind
theorem YN (l:List (List Raw)) (a:Nat) (s:Int) (hs:s=1\/s= -1) (hl: ∀ x∈l,LOk 999 x) (hn:l.length<=40) (ha:a<l.length):
 Den Tryz.prog 149 [] [.fv (.sl (ai l)),.int .i64 a,.int .i64 s] [] (.fv (.sl (ai (iQ (oS s (l.getD a [])) l a l.length)))):=by
 have rl:=aq l
 obtain⟨n,b8⟩:=ax l.length
 rw[b8] at rl hn ha ⊢
 have hma:=bC (ls:=l) (i:=a) (by omega)
 have ra:=aV l a
 have hA:=hl _ hma
 obtain⟨x,hx⟩:=ax (l.getD a [])
 rw[hx] at ra hA ⊢
 obtain⟨R,hR⟩:=ax (iQ (oS s x) l a n)
 rw[hR]
 have lx:=hA.len
 have jG:=ay lx
 have fx:=aE x
 have gx:=ah x
 have ji:=aj lx
 have bs:Bd 1 (s:Rat):=bd_int (by rcases hs with rfl | rfl<;>decide)
 have jN:=iy s (by rcases hs with rfl | rfl<;>omega)
 change Den Tryz.prog 32 [] _ [] (.agg (cn (s:Rat)).c) at jN
 have hsi: -9223372036854775808<=s/\s<9223372036854775808:=by rcases hs with rfl | rfl<;>omega
 refine dq Tryz.func149 34 0 ?_
 refine aW ?_
 refine wl (α:=Nat×List (List Raw)) (fun⟨i,o⟩=>⟨[.fv (.sl (ai l)),.int .i64 a,.int .i64 s,.any,.any,.any,.any,.lsl 0 0 o.length 27,.int .i64 i]++replicate 28 .any,[.row true (ai o)]⟩)
  (fun⟨i,_⟩=>n - i) (fun⟨i,o⟩=>i<=n/\o=iQ (oS s x) l a i) (0,[]) ?_ ?_ ?_
 .refine Weak.nil 7 27 (by decide) rfl ?_
  refine eH [0] ?_ ?_
  .simp[bh,dF,cw]
  simp[d_,fD]
  simp[ai]
 .exact⟨dk _,rfl⟩
 rintro⟨i,o⟩ ⟨h1,ho⟩
 have pR:=r9 (oS s x) l a i
 rw[<-ho] at pR
 obtain⟨L,hL⟩:=ax o.length
 have rlo:=aq o
 dsimp only
 rw[hL] at pR rlo ⊢
 have tk:=bc (ls:=o) (n:=L) (by omega)
 refine bw rl ?_
 refine bM ?_ ?_
 .intro g1 g2
  by_cases hia:i=a
  .have e1:((i:Int) !=(a:Int))=false:=by simp[hia]
   have ox:=Ew (oS s x) l a
   refine ae (aB g2 e1) ?_
   refine aA (i+1,o) ?_ ⟨by omega,by rw[ho,hia,ox]⟩
   dsimp only
   rw[hL]
   exact bx [0]
  have e1:((i:Int) !=(a:Int))=true:=by simp;omega
  have ox:=Ex (oS s x) l hia
  have hmb:=bC (ls:=l) (i:=i) (by omega)
  have rb:=aV l i
  have hB:=hl _ hmb
  obtain⟨b,hb⟩:=ax (l.getD i [])
  rw[hb] at rb hB ox
  have lb:=hB.len
  have b27:=ay lb
  have fb:=aE b
  have gb:=ah b
  have aqt:=aj lb
  have yS:=Oi b (hB.mono (by decide))
  have Xc:LOk 1000 (cV b):=mi hB (by decide)
  have sD:=zC x (cV b) (hA.mono (by decide)) (Xc.mono (by decide))
  have xP:LOk 2000 (bG x b):=rK hA hB (by decide)
  have Fl:=Lw (bG x b) (cn (s:Rat)) (xP.mono (by decide)) ((bj bs).mono (by decide))
  rw[cu] at Fl
  unfold FL at sD Fl
  change Den Tryz.prog 101 [] [RL x,RL (cV b)] [] (RL (bG x b)) at sD
  change Den Tryz.prog 108 [] [RL (bG x b),.agg (cn (s:Rat)).c] [] (RL (((bG x b).map (fun r=>r.q*(s:Rat))).map cn)) at Fl
  rw[afy hs lx lb] at Fl
  have fr:=d7 lx lb
  have Xm:(oS s x b).length=9:=by
   unfold oS;split
   .exact d7 lx lb
   exact d7 lb lx
  have ei:=ew lb
  have bO:=bI o (oS s x b)
  obtain⟨nb,Pp⟩:=ax (cV b)
  rw[Pp] at yS sD ei
  obtain⟨cb,al0⟩: ∃ y,bG x b=y:=⟨_,rfl⟩
  rw[al0] at sD Fl fr
  obtain⟨y,hy⟩:=ax (oS s x b)
  rw[hy] at Fl Xm bO ox
  obtain⟨sr,hsr⟩:=ax (cn (s:Rat))
  rw[hsr] at Fl
  rw[hsr] at jN
  have gn:=ah nb
  have al1:=aj ei
  have gc:=ah cb
  have al2:=aj fr
  have gy:=ah y
  have kB:=ay Xm
  have gf:=aj Xm
  unfold RL at yS sD Fl
  refine ae (aB g2 e1) ?_
  refine dw (by kernel_rfl) ?_
  refine bm (bu ra jG fx lx rb b27 fb (aB lb rl)) ?_
  repeat refine ag ?_
  refine gv yS ?_
  refine vG ?_
  repeat refine ag ?_
  refine gv sD ?_
  refine bm (aB gc fr) ?_
  repeat refine ag ?_
  refine dw (by kernel_rfl) ?_
  refine ae (bA gc fr al2) ?_
  repeat refine ag ?_
  refine gp jN (by simp[bJ,eT,eo,dZ]) ?_
  refine ae (aB @da @append_nil.{0}) ?_
  repeat refine ag ?_
  refine gp Fl (by simp[bJ,eT,zA,Gi,jK,iX]) ?_
  refine bm (eU @fG gy Xm kB tk bO rlo) ?_
  repeat refine ag ?_
  refine aA (i+1,o++[y]) ?_ ⟨by omega,by rw[ho,ox]⟩
  exact bx [3]
 intro g1 g2
 have f0:i=n:=by omega
 rw[f0,hR] at ho
 subst ho
 refine ae g2 ?_
 refine a_ ?_
 exact kT (aB tk rlo)
set_option maxHeartbeats 8000000
theorem Hh (a b:List (List Raw)):ai a++ai b=ai (a++b):=by simp[ai]
theorem EI {l:List (List Raw)} (h: ∀ f∈l,f.length=9): ∀ y∈ai l,y.length=27:=fun y hy=>by
 simp only[ai,mem_map] at hy;obtain⟨f,hf,rfl⟩:=hy;have:=h f hf;have e:=aE f;omega
def u3 (rest lo hi:List (List Raw)) (i j:Nat):List (List Raw):=
 rest++iQ (oS 1 (lo.getD i [])) lo i lo.length++iQ (oS (-1) (hi.getD j [])) hi j hi.length++[bG (hi.getD j []) (lo.getD i [])]
def x_ (rest lo hi:List (List Raw)) (p:List Tm) (v i n:Nat):List RC:=
 (List.range n).map fun j=>(u3 rest lo hi i j,betT v (lo.getD i []) (hi.getD j []) p)
def BZ (rest lo hi:List (List Raw)) (p:List Tm) (v n:Nat):List RC:=(List.range n).flatMap fun i=>x_ rest lo hi p v i hi.length
def u5 (c:Kc) (p:List Tm) (v:Nat):List RC:=BZ (ee c v) (bT c v) (ba c v) p v (bT c v).length
theorem Oq {rest lo hi:List (List Raw)} {p:List Tm} {v i n:Nat}:x_ rest lo hi p v i (n+1)=x_ rest lo hi p v i n++[(u3 rest lo hi i n,betT v (lo.getD i []) (hi.getD n []) p)]:=by
 unfold x_;rw[range_succ,tY];rfl
theorem Dr {rest lo hi:List (List Raw)} {p:List Tm} {v n:Nat}:BZ rest lo hi p v (n+1)=BZ rest lo hi p v n++x_ rest lo hi p v n hi.length:=by
 unfold BZ;rw[range_succ,flatMap_append,List.flatMap_singleton]
theorem Hi (rest lo hi:List (List Raw)) (p:List Tm) (v i n:Nat):(x_ rest lo hi p v i n).length=n:=by unfold x_;rw[length_map,List.length_range]
theorem Ax (rest lo hi:List (List Raw)) (p:List Tm) (v:Nat): ∀ n,(BZ rest lo hi p v n).length=n*hi.length
 | 0=>by simp[BZ]
 | n+1=>by
  have h1:=Ax rest lo hi p v n;have h2:=Hi rest lo hi p v n hi.length;rw[Dr,qe,Nat.add_mul];omega
structure Ds (c:Kc) (p:List Tm) (v:Nat):Prop where
 hv:v<8
 ok: ∀ l∈c,LOk 499 l
 cn: ∀ l∈c,IsCn l
 len:c.length<=40
 bet: ∀ l∈bT c v,∀ u∈ba c v,Den Tryz.prog 88 [] [PL (p.map tn),.int .i64 v,RL l,RL u] [] (PL ((betT v l u p).map tn))
theorem Vs {x:List Raw} (h:IsCn x):(x.map Raw.q).map cn=x:=by
 obtain⟨qs,rfl,_⟩:=h;rw[List.map_map,List.map_map];refine List.map_congr_left (fun q _=>?_);show cn (cn q).q=cn q;rw[cu]
theorem aj3 (c:Kc) (p:List Tm) (v:Nat) (h:Ds c p v):
 Den Tryz.prog 93 [] [.agg (RA (rn (c,p))),.int .i64 v] [] (.tup [RL' ((u5 c p v).map rn),.bool (decide (0<(bT c v).length)&&decide (0<(ba c v).length))]):=by
 have hv:=h.hv
 have f_: ∀ l∈c,LOk 1000 l:=fun l hl=>(h.ok l hl).mono (by decide)
 have qX: ∀ b∈bT c v,LOk 999 b:=wj h.ok (by decide)
 have mN: ∀ b∈ba c v,LOk 999 b:=rL h.ok (by decide)
 have al3:=h.cn
 have kE:=bN c v
 have abM:=h.len
 obtain⟨n,b8⟩:=ax c.length
 have rl:=aq c
 rw[b8] at rl abM kE
 obtain⟨R,hR⟩:=ax (u5 c p v)
 rw[hR]
 obtain⟨BB,hBB⟩:=ax ((decide (0<(bT c v).length)&&decide (0<(ba c v).length)))
 rw[hBB]
 have vy:=h.bet
 unfold u5 at hR
 obtain⟨Pt,hPt⟩:=ax (p.map tn)
 rw[hPt] at vy
 have erg:RA (rn (c,p))=[.fv (.sl (ai c)),.fv (.sl (av Pt))]:=by rw[<-hPt];rfl
 rw[erg]
 clear erg
 refine dq Tryz.func93 110 0 ?_
 refine aW ?_
 refine wl (α:=Nat×List (List Raw)×List (List Raw)×List (List Raw)) (fun⟨i,lo,hi,out⟩=>⟨[.any,.int .i64 v,.ptr 0 0 0,.any,.nilsl,.bool false,.lsl 1 0 out.length 27,.lsl 2 0 lo.length 27,.lsl 3 0 hi.length 27,.int .i64 i]++replicate 102 .any,[.box true [.fv (.sl (ai c)),.fv (.sl (av Pt))],.row true (ai out),.row true (ai lo),.row true (ai hi)]⟩)
  (fun⟨i,_⟩=>n - i) (fun⟨i,lo,hi,out⟩=>i<=n/\lo=bT (c.take i) v/\hi=ba (c.take i) v/\out=ee (c.take i) v) (0,[],[],[]) ?_ ?_ ?_
 .refine Weak.nil 6 27 (by decide) rfl ?_
  refine Weak.nil 7 27 (by decide) rfl ?_
  refine Weak.nil 8 27 (by decide) rfl ?_
  refine eH [0,1,2,3] ?_ ?_
  .simp[bh,dF,cw]
  simp[d_,fD,dL,cw]
  simp[ai]
 .exact⟨dk _,rfl,rfl,rfl⟩
 rintro⟨i,lo,hi,out⟩ ⟨nj,ej,eC,cG⟩
 have dQ:=bN (c.take i) v
 rw[<-ej,<-eC,<-cG,length_take,b8] at dQ
 obtain⟨L1,KL⟩:=ax lo.length
 obtain⟨L2,DW⟩:=ax hi.length
 obtain⟨L3,KM⟩:=ax out.length
 have Fj:=aq lo
 have sY:=aq hi
 have Pr:=aq out
 dsimp only
 rw[KL] at dQ Fj ⊢
 rw[DW] at dQ sY ⊢
 rw[KM] at dQ Pr ⊢
 have Xa:=bc (ls:=lo) (n:=L1) (by omega)
 have Xb:=bc (ls:=hi) (n:=L2) (by omega)
 have KN:=bc (ls:=out) (n:=L3) (by omega)
 refine bw rl ?_
 refine bM ?_ ?_
 .intro h1 h2
  have cL:=eZ (cs:=c) (i:=i) (by omega)
  have aY:=bC (ls:=c) (i:=i) (by omega)
  have r1:=aV c i
  obtain⟨x,jn⟩:=ax (c.getD i [])
  rw[jn] at aY r1 cL
  have hx:=f_ x aY
  have hxc:=al3 x aY
  have lx:=hx.len
  have jG:=ay lx
  have fx:=aE x
  have gx:=ah x
  have ji:=aj lx
  by_cases h0:co x v=0
  .have kg:=QX x v hx hv h0
   have pe:=g8 (s:=c.take i) (v:=v) (x:=x) (by grind)
   have sF:=gj (s:=c.take i) (v:=v) (x:=x) (by grind)
   have fj:=oY (s:=c.take i) h0
   have bO:=bI out x
   unfold FL RL at kg
   rw[Vs hxc] at kg
   have e1:((0:Int)==1)=false:=rfl
   have e2:((0:Int)== -1)=false:=rfl
   refine bm (dN h2 r1 jG fx lx rl) ?_
   repeat refine ag ?_
   refine gv kg ?_
   refine bm (bu e1 e2 gx lx ji jG KN (aB bO Pr)) ?_
   repeat refine ag ?_
   refine aA (i+1,lo,hi,out++[x]) ?_ ⟨by omega,by rw[cL,pe,ej],by rw[cL,sF,eC],by rw[cL,fj,cG]⟩
   exact bx [0,6,2,3]
  have kg:=Yu x v hx hv h0
  have kd:(cJ v x).length=9:=eu lx
  have fj:=rZ (s:=c.take i) h0
  unfold FL RL at kg
  change Den Tryz.prog 148 [] [.agg (flat x),.int .i64 v] [] (.tup [.agg (flat (cJ v x)),.int .i64 (fQ (x.getD v rz).q)]) at kg
  by_cases hp:0<co x v
  .have pe:=qC (s:=c.take i) hp
   have sF:=gj (s:=c.take i) (v:=v) (x:=x) (by grind)
   have bO:=bI lo (cJ v x)
   obtain⟨y,hy⟩:=ax (cJ v x)
   rw[hy] at kg kd pe bO
   have gy:=ah y
   have kB:=ay kd
   have gf:=aj kd
   rw[show fQ (x.getD v rz).q=1 from lB hp] at kg
   have e1:((1:Int)==1)=true:=rfl
   refine bm (dN h2 r1 jG fx lx rl) ?_
   repeat refine ag ?_
   refine gv kg ?_
   refine bm (bu gy kd e1 gf kB Xa bO Fj) ?_
   repeat refine ag ?_
   refine aA (i+1,lo++[y],hi,out) ?_ ⟨by omega,by rw[cL,pe,ej],by rw[cL,sF,eC],by rw[cL,fj,cG]⟩
   exact bx [0,1,6,3]
  have iw:co x v<0:=by grind
  have pe:=g8 (s:=c.take i) (v:=v) (x:=x) hp
  have sF:=nV (s:=c.take i) iw
  have bO:=bI hi (cJ v x)
  obtain⟨y,hy⟩:=ax (cJ v x)
  rw[hy] at kg kd sF bO
  have gy:=ah y
  have kB:=ay kd
  have gf:=aj kd
  rw[show fQ (x.getD v rz).q= -1 from oK iw] at kg
  have e1:((-1:Int)==1)=false:=rfl
  have e2:((-1:Int)== -1)=true:=rfl
  refine bm (dN h2 r1 jG fx lx rl) ?_
  repeat refine ag ?_
  refine gv kg ?_
  refine bm (bu gy kd e1 e2 gf kB Xb (aB bO sY)) ?_
  repeat refine ag ?_
  refine aA (i+1,lo,hi++[y],out) ?_ ⟨by omega,by rw[cL,pe,ej],by rw[cL,sF,eC],by rw[cL,fj,cG]⟩
  exact bx [0,1,2,6]
 intro h1 h2
 have f0:i=n:=by omega
 have eO:c.take i=c:=dm (by omega)
 rw[eO] at ej eC cG
 rw[<-ej] at qX vy hR hBB
 rw[<-eC] at mN vy hR hBB
 rw[<-cG] at hR
 have au: ∀ l∈out,LOk 1000 l:=fun l hl=>by rw[cG] at hl;exact f_ l (nP.1 hl).1
 clear ej eC cG eO f_
 rw[KL,DW] at hBB
 refine ae h2 ?_
 refine wl (α:=Nat×List RC) (fun⟨i,o2⟩=>⟨[.any,.int .i64 v,.ptr 0 0 0,.any,.nilsl,.bool false,.fv (.sl (ai out)),.fv (.sl (ai lo)),.fv (.sl (ai hi)),.any,.any,.any,.lsl 1 0 o2.length 2,.int .i64 i]++replicate 98 .any,[.box true [.fv (.sl (ai c)),.fv (.sl (av Pt))],.row true (aG (o2.map rn))]⟩)
  (fun⟨i,_⟩=>L1 - i) (fun⟨i,o2⟩=>i<=L1/\o2=BZ out lo hi p v i) (0,[]) ?_ ?_ ?_
 .refine Weak.shut [1,2,3] ?_
  change Weak _ ⟨_,[Ob.box true [.fv (.sl (ai c)),.fv (.sl (av Pt))],Ob.row false (ai out),Ob.row false (ai lo),Ob.row false (ai hi)]⟩ _
  refine Weak.fz 6 1 0 L3 27 (ai out) rfl rfl (by omega) ?_
  refine Weak.fz 7 2 0 L1 27 (ai lo) rfl rfl (by omega) ?_
  refine Weak.fz 8 3 0 L2 27 (ai hi) rfl rfl (by omega) ?_
  refine Weak.nil 12 2 (by decide) rfl ?_
  refine eH [0,4] ?_ ?_
  .simp[bh,dF,cw,Xa,Xb,KN]
  simp[d_,fD,dL,cw]
  simp[aG]
 .exact⟨dk _,rfl⟩
 rintro⟨i,o2⟩ ⟨nj,fE⟩
 have hK2:=Ax out lo hi p v i
 rw[<-fE] at hK2
 have yu:i*hi.length<=1600:=gD (Nat.mul_le_mul (show i<=40 by omega) (show hi.length<=40 by omega)) (by decide)
 obtain⟨K2,KU⟩:=ax o2.length
 have rlk:=aK (o2.map rn)
 rw[length_map,KU] at rlk
 dsimp only
 rw[KU] at hK2 ⊢
 refine bw Fj ?_
 refine bM ?_ ?_
 .intro g1 g2
  have jM:=bC (ls:=lo) (i:=i) (by omega)
  have Ps:=aV lo i
  have hl:=qX _ jM
  have Ng:=YN lo i 1 (.inl rfl) qX (by omega) (by omega)
  obtain⟨l,nk⟩:=ax (lo.getD i [])
  rw[nk] at jM Ps hl Ng
  rw[KL] at Ng
  have ll:=hl.len
  have Zm:=ay ll
  have fl:=aE l
  have gl:=ah l
  have wY:=aj ll
  refine ae g2 ?_
  repeat refine ag ?_
  refine wl (α:=Nat×List RC) (fun⟨j,o3⟩=>⟨[.any,.int .i64 v,.ptr 0 0 0,.any,.nilsl,.bool false,.fv (.sl (ai out)),.fv (.sl (ai lo)),.fv (.sl (ai hi)),.any,.any,.any,.lsl 1 0 o3.length 2,.int .i64 i,.int .i64 j]++replicate 97 .any,[.box true [.fv (.sl (ai c)),.fv (.sl (av Pt))],.row true (aG (o3.map rn))]⟩)
   (fun⟨j,_⟩=>L2 - j) (fun⟨j,o3⟩=>j<=L2/\o3=o2++x_ out lo hi p v i j) (0,o2) ?_ ?_ ?_
  .exact bx [0,1]
  .exact⟨dk _,by simp[x_]⟩
  rintro⟨j,o3⟩ ⟨M4,yV⟩
  have hK3:=Hi out lo hi p v i j
  obtain⟨K3,KV⟩:=ax o3.length
  have alJ:K3<=1700:=by
   rw[<-KV,yV,qe,KU];omega
  have TK:=aK (o3.map rn)
  rw[length_map,KV] at TK
  dsimp only
  rw[KV]
  refine bw sY ?_
  refine bM ?_ ?_
  .intro g3 g4
   have Fz:=bC (ls:=hi) (i:=j) (by omega)
   have Pv:=aV hi j
   have hu:=mN _ Fz
   have Nh:=YN hi j (-1) (.inr rfl) mN (by omega) (by omega)
   obtain⟨u,Tx⟩:=ax (hi.getD j [])
   rw[Tx] at Fz Pv hu Nh
   rw[DW] at Nh
   have lu:=hu.len
   have Xd:=ay lu
   have fu:=aE u
   have gu:=ah u
   have Bu:=aj lu
   have yS:=Oi l (hl.mono (by decide))
   have Xc:LOk 1000 (cV l):=mi hl (by decide)
   have sD:=zC u (cV l) (hu.mono (by decide)) (Xc.mono (by decide))
   unfold FL at sD
   change Den Tryz.prog 101 [] [RL u,RL (cV l)] [] (RL (bG u l)) at sD
   have ei:=ew ll
   have xT:=d7 lu ll
   have TL:=Oq (rest:=out) (lo:=lo) (hi:=hi) (p:=p) (v:=v) (i:=i) (n:=j)
   rw[nk,Tx] at TL
   have DY:u3 out lo hi i j=out++iQ (oS 1 l) lo i L1++iQ (oS (-1) u) hi j L2++[bG u l]:=by
    unfold u3;rw[nk,Tx,KL,DW]
   have h88:=vy l jM u Fz
   have o1n:=r9 (oS 1 l) lo i L1
   have o2n:=r9 (oS (-1) u) hi j L2
   have o19: ∀ f∈iQ (oS 1 l) lo i L1,f.length=9:=fun f hf=>by
    unfold iQ at hf;obtain⟨k,hk,rfl⟩:=mem_map.1 hf;have:=List.mem_range.1 (mem_filter.1 hk).1;have h9:=(qX _ (bC (ls:=lo) (i:=k) (by omega))).len;unfold oS;split
    .exact d7 ll h9
    exact d7 h9 ll
   have o29: ∀ f∈iQ (oS (-1) u) hi j L2,f.length=9:=fun f hf=>by
    unfold iQ at hf;obtain⟨k,hk,rfl⟩:=mem_map.1 hf;have:=List.mem_range.1 (mem_filter.1 hk).1;have h9:=(mN _ (bC (ls:=hi) (i:=k) (by omega))).len;unfold oS;split
    .exact d7 lu h9
    exact d7 h9 lu
   have ahx: ∀ f∈out,f.length=9:=fun f hf=>(au f hf).len
   obtain⟨O1,hO1⟩:=ax (iQ (oS 1 l) lo i L1)
   obtain⟨O2,hO2⟩:=ax (iQ (oS (-1) u) hi j L2)
   rw[hO1] at Ng o1n o19 DY
   rw[hO2] at Nh o2n o29 DY
   have IH:=EI ahx
   have II:=EI o19
   have IJ:=EI o29
   have IK:=EI (l:=out++O1) (fun f hf=>by
    rcases List.mem_append.1 hf with h | h
    .exact ahx f h
    exact o19 f h)
   have ro1:=aq O1
   have ro2:=aq O2
   obtain⟨M1,hM1⟩:=ax O1.length
   obtain⟨M2,hM2⟩:=ax O2.length
   rw[hM1] at ro1 o1n
   rw[hM2] at ro2 o2n
   have ra1:=Hh out O1
   have ra2:=Hh (out++O1) O2
   have bO:=bI (out++O1++O2) (bG u l)
   have rA:=aq (out++O1)
   have rB:=aq (out++O1++O2)
   have rC:=aq (out++O1++O2++[bG u l])
   rw[qe,KM,hM1] at rA
   rw[qe,qe,KM,hM1,hM2] at rB
   rw[qe,qe,qe,KM,hM1,hM2,D0] at rC
   have tA:=bc (ls:=out++O1) (n:=L3+M1) (by rw[qe];omega)
   have tB:=bc (ls:=out++O1++O2) (n:=L3+M1+M2) (by rw[qe,qe];omega)
   have tC:=bc (ls:=out++O1++O2++[bG u l]) (n:=L3+M1+M2+1) (by rw[qe,qe,qe,D0];omega)
   have tb1:List.take M1 (ai O1)=ai O1:=bc (by omega)
   have tb2:List.take M2 (ai O2)=ai O2:=bc (by omega)
   obtain⟨nl,al6⟩: ∃ y,cV l=y:=⟨_,rfl⟩
   rw[al6] at yS sD ei
   obtain⟨d,hd⟩:=ax (bG u l)
   rw[hd] at sD xT bO rC tC DY
   obtain⟨q,hq⟩:=ax (betT v l u p)
   rw[hq] at h88 TL
   rw[DY] at TL
   have gn:=ah nl
   have al1:=aj ei
   have gd:=ah d
   have Pu:=aj xT
   have Zn:=ay xT
   have abO:aG (o3.map rn)++[[FV.sl (ai (out++O1++O2++[d])),FV.sl (av (q.map tn))]]=aG ((o3++[(out++O1++O2++[d],q)]).map rn):=by
    rw[tY];exact iu _ (rn (out++O1++O2++[d],q))
   have tk7:=cO (l:=o3.map rn) (n:=K3) (by rw[length_map];omega)
   unfold RL at yS sD h88
   refine ae (aB g4 Pr) ?_
   repeat refine qy (by repeat' (first | omega | exact IH | exact II | exact IJ | exact IK | apply qy)) ?_
   refine gp Ng (by simp[bJ,eT,eo,dZ]) ?_
   refine ae (fO Pr KN ro1 ra1 @append_nil.{0}) ?_
   repeat refine qy (by repeat' (first | omega | exact IH | exact II | exact IJ | exact IK | apply qy)) ?_
   refine gp Nh (by simp[bJ,eT,eo,dZ]) ?_
   refine ae (fO rA tA ro2 ra2 @append_nil.{0}) ?_
   repeat refine qy (by repeat' (first | omega | exact IH | exact II | exact IJ | exact IK | apply qy)) ?_
   refine dw (by kernel_rfl) ?_
   refine bm (bu Pv Xd fu lu Ps Zm fl (bA ll Fj sY)) ?_
   repeat refine qy (by repeat' (first | omega | exact IH | exact II | exact IJ | exact IK | apply qy)) ?_
   refine gv yS ?_
   refine vG ?_
   repeat refine qy (by repeat' (first | omega | exact IH | exact II | exact IJ | exact IK | apply qy)) ?_
   refine gv sD ?_
   refine bm (dN gd xT Zn tB rB bO) ?_
   repeat refine qy (by repeat' (first | omega | exact IH | exact II | exact IJ | exact IK | apply qy)) ?_
   refine Draw.freeze [6] (by kernel_rfl) ?_
   refine bm (bu Pv Xd fu lu Ps Zm fl (bA ll Fj sY)) ?_
   repeat refine qy (by repeat' (first | omega | exact IH | exact II | exact IJ | exact IK | apply qy)) ?_
   refine gv h88 ?_
   refine bm (dN tC rC abO tk7 TK @qp) ?_
   repeat refine qy (by repeat' (first | omega | exact IH | exact II | exact IJ | exact IK | apply qy)) ?_
   refine aA (j+1,o3++[(out++O1++O2++[d],q)]) ?_ ⟨by omega,by rw[yV,TL,append_assoc]⟩
   exact bx [0,8]
  intro g3 g4
  have Nc:j=L2:=by omega
  rw[Nc,<-DW] at yV
  refine ae g4 ?_
  refine aA (i+1,o3) ?_ ⟨by omega,by rw[Dr,yV,fE]⟩
  exact bx [0,1]
 intro g1 g2
 have mO:i=L1:=by omega
 rw[mO,<-KL] at fE
 rw[<-fE] at hR
 subst hR
 have tk:=cO (l:=o2.map rn) (n:=K2) (by rw[length_map];omega)
 have b1:decide ((L1:Int)>0)=decide (0<L1):=by
  by_cases hz:0<L1
  .rw[f3 hz,f3 (by omega)]
  rw[jI hz,jI (by omega)]
 have b2:decide ((L2:Int)>0)=decide (0<L2):=by
  by_cases hz:0<L2
  .rw[f3 hz,f3 (by omega)]
  rw[jI hz,jI (by omega)]
 cases vJ:decide (0<L1)<;>cases qW:decide (0<L2)<;>
 .rw[vJ] at b1 hBB
  rw[qW] at b2 hBB
  subst hBB
  refine ae (fO g2 Fj sY b1 b2) ?_
  refine a_ ?_
  refine vq (aB tk rlk) ?_
  rfl
end Go.Proofs.YtjjbkjgifdhlcaaGreat
