/- Contracts:integral.slab. -/
import Derived.Test.YtjjbkjgifdhlcaaGreatT16
import Derived.Test.YtjjbkjgifdhlcaaGreatT13
import Derived.Test.YtjjbkjgifdhlcaaGreatT1
set_option linter.all false
open Nat (reduceAdd reduceLT reduceLeDiff)
open List (append_nil filter_append filter_cons_of_neg flatMap_append getElem?_set_ne length_cons length_map length_nil length_pos_of_mem length_set length_take map_cons mem_cons_of_mem mem_filter mem_iff_getElem mem_map mem_of_mem_drop range_succ replicate)
namespace Go.Proofs.YtjjbkjgifdhlcaaGreat
open Go.AM Go.Pl
set_option maxRecDepth 100000
set_option maxHeartbeats 8000000
theorem Qc (a b:List Raw) (ha:LOk 1000000 a) (hb:LOk 1000000 b):Den Tryz.prog 146 [] [RL a,RL b] [] (RL (cB a b)):=adt a b ha hb
def lU (f:List Raw->List Raw) (l:List (List Raw)) (i n:Nat):List (List Raw):=((List.range n).filter (fun k=>decide (k≠i))).map (fun k=>f (l.getD k []))
theorem Fz (f:List Raw->List Raw) (l:List (List Raw)) (i:Nat):lU f l i 0=[]:=rfl
theorem Im (f:List Raw->List Raw) (l:List (List Raw)) (i:Nat):lU f l i (i+1)=lU f l i i:=by
 unfold lU;rw[range_succ,filter_append];simp
theorem Io (f:List Raw->List Raw) (l:List (List Raw)) {i k:Nat} (h:k≠i):lU f l i (k+1)=lU f l i k++[f (l.getD k [])]:=by
 unfold lU;rw[range_succ,filter_append];simp[h]
theorem C1 (f:List Raw->List Raw) (l:List (List Raw)) (i n:Nat):(lU f l i n).length<=n:=by
 unfold lU;rw[length_map];exact gI (List.length_filter_le _ _) (by rw[List.length_range];exact qp _)
def gq (u l:List Raw):Bool:=cQ (cB u l)&&decide (gA (co (cB u l) 8)<=0)
def iG (rest lo hi:List (List Raw)) (i j:Nat):List (List Raw):=
 rest++[cB (hi.getD j []) (lo.getD i [])]++lU (cB (lo.getD i [])) lo i lo.length++lU (fun o=>cB o (hi.getD j [])) hi j hi.length
def oc (rest lo hi:List (List Raw)) (p:List Tm) (v i n:Nat):List RC:=
 (List.range n).flatMap fun j=>if gq (hi.getD j []) (lo.getD i []) then [] else [(iG rest lo hi i j,betT v (lo.getD i []) (hi.getD j []) p)]
def ph (rest lo hi:List (List Raw)) (p:List Tm) (v n:Nat):List RC:=(List.range n).flatMap fun i=>oc rest lo hi p v i hi.length
def gM (c:Kc) (p:List Tm) (v:Nat):List RC:=ph (d5 c v) (aR c v) (aE c v) p v (aR c v).length
theorem yj {rest lo hi:List (List Raw)} {p:List Tm} {v i n:Nat}:oc rest lo hi p v i (n+1)=oc rest lo hi p v i n++(if gq (hi.getD n []) (lo.getD i []) then [] else [(iG rest lo hi i n,betT v (lo.getD i []) (hi.getD n []) p)]):=by
 unfold oc;rw[range_succ,flatMap_append,List.flatMap_singleton]
theorem yk {rest lo hi:List (List Raw)} {p:List Tm} {v n:Nat}:ph rest lo hi p v (n+1)=ph rest lo hi p v n++oc rest lo hi p v n hi.length:=by
 unfold ph;rw[range_succ,flatMap_append,List.flatMap_singleton]
theorem uY (rest lo hi:List (List Raw)) (p:List Tm) (v i:Nat): ∀ n,(oc rest lo hi p v i n).length<=n
 | 0=>by simp[oc]
 | n+1=>by
  have:=uY rest lo hi p v i n;rw[yj,qe];split<;>simp<;>omega
theorem uZ (rest lo hi:List (List Raw)) (p:List Tm) (v:Nat): ∀ n,(ph rest lo hi p v n).length<=n*hi.length
 | 0=>by simp[ph]
 | n+1=>by
  have h1:=uZ rest lo hi p v n;have h2:=uY rest lo hi p v n hi.length;rw[yk,qe,Nat.add_mul];omega
structure pj (c:Kc) (p:List Tm) (v:Nat):Prop where
 hv:v<8
 ok: ∀ l∈c,LOk 499 l
 len:c.length<=40
 bet: ∀ l∈aR c v,∀ u∈aE c v,gq u l=false->Den Tryz.prog 33 [] [PL (p.map tn),.int .i64 v,RL l,RL u] [] (.tup [PL ((betT v l u p).map tn),.int .i64 0])
def FA (c:Kc) (p:List Tm) (v:Nat):PV:=if aR c v=[]\/aE c v=[] then .tup [.fv (.sl []),.int .i64 15] else .tup [RL' ((gM c p v).map rn),.int .i64 0]
theorem ahS (c:Kc) (p:List Tm) (v:Nat) (h:pj c p v):Den Tryz.prog 91 [] [.agg (TA (rn (c,p))),.int .i64 v] [] (FA c p v):=by
 have hv:=h.hv;have oN: ∀ l∈c,LOk 1000 l:=fun l hl=>(h.ok l hl).mono (by decide)
 have AB: ∀ b∈aR c v,LOk 999 b:=CQ h.ok (by decide);have zG: ∀ b∈aE c v,LOk 999 b:=wI h.ok (by decide);have kM:=da c v;have ajG:=h.len;obtain⟨n,cP⟩:=ax c.length;have rl:=ay c;rw[cP] at rl ajG kM;obtain⟨R,hR⟩:=ax (FA c p v);rw[hR];have Js:=h.bet;unfold FA gM at hR;obtain⟨Pt,hPt⟩:=ax (p.map tn);rw[hPt] at Js;have erg:TA (rn (c,p))=[.fv (.sl (au c)),.fv (.sl (aq Pt))]:=by rw[<-hPt];rfl
 rw[erg];clear erg;refine dq Tryz.func91 159 0 ?_;refine bU rl ?_;refine wl (α:=Nat×List (List Raw)×List (List Raw)×List (List Raw)) (fun⟨i,lo,hi,out⟩=>⟨[.any,.int .i64 v,.ptr 0 0 0,.any,.nilsl,.int .i64 0,.lsl 1 0 lo.length 27,.lsl 2 0 hi.length 27,.lsl 3 0 out.length 27]++replicate 17 .any++[.fv (.sl (au c)),.int .i64 n,.int .i64 i]++replicate 132 .any,[.box true [.fv (.sl (au c)),.fv (.sl (aq Pt))],.row true (au lo),.row true (au hi),.row true (au out)]⟩)
  (fun⟨i,_⟩=>n - i) (fun⟨i,lo,hi,out⟩=>i<=n/\lo=aR (c.take i) v/\hi=aE (c.take i) v/\out=d5 (c.take i) v) (0,[],[],[]) ?_ ?_ ?_
 .refine Weak.nil 6 27 (by decide) rfl ?_;refine Weak.nil 7 27 (by decide) rfl ?_;refine Weak.nil 8 27 (by decide) rfl ?_;refine eS [0,1,2,3] ?_ ?_
  .simp[bk,dV,cC]
  simp[et,fK,dp,cC];simp[au]
 .exact⟨eB _,rfl,rfl,rfl⟩
 rintro⟨i,lo,hi,out⟩ ⟨oI,fR,fL,dF⟩;have dX:=da (c.take i) v;rw[<-fR,<-fL,<-dF,length_take,cP] at dX;obtain⟨L1,ZR⟩:=ax lo.length;obtain⟨L2,RP⟩:=ax hi.length;obtain⟨L3,ZS⟩:=ax out.length;have Xr:=ay lo;have w3:=ay hi;have rl3:=ay out;dsimp only;rw[ZR] at dX Xr ⊢;rw[RP] at dX w3 ⊢;rw[ZS] at dX rl3 ⊢;have tk1:=b9 (ls:=lo) (n:=L1) (by omega);have tk2:=b9 (ls:=hi) (n:=L2) (by omega);have ZT:=b9 (ls:=out) (n:=L3) (by omega);refine aY ?_;refine bS ?_ ?_
 .intro h1 h2;have ez:=ka (cs:=c) (i:=i) (by omega);have bm:=bI (ls:=c) (i:=i) (by omega);have r1:=bK c i;obtain⟨x,mZ⟩:=ax (c.getD i []);rw[mZ] at bm r1 ez;have hx:=oN x bm;have lx:=hx.len;have rB:=aF lx;have fx:=aO x;have gx:=ah x;have nZ:=ar lx;have e0:((0:Int) !=0)=false:=rfl;by_cases h0:co x v=0
  .have wy:=O1 x v hx hv h0;have wq:=mG (s:=c.take i) (v:=v) (x:=x) (by grind);have DS:=kf (s:=c.take i) (v:=v) (x:=x) (by grind);have ja:=yg (s:=c.take i) h0;have cG:=dc out x;unfold FL RL at wy;obtain⟨zs,SB⟩:=ax ((x.map Raw.q).map cn);have sw:zs.length=9:=by rw[<-SB];simp[lx]
   have gz:=ah zs;rw[SB] at wy;have e1:decide ((0:Int)>0)=false:=rfl;have e2:decide ((0:Int)<0)=false:=rfl;refine b_ (fw h2 r1 rB fx gx lx nZ) ?_
   repeat refine ag ?_
   refine kO wy ?_;refine b_ (bT gz sw e0 e1 gx lx nZ (eg rB ZT cG rl3)) ?_
   repeat refine ag ?_
   refine aw (i+1,lo,hi,out++[x]) ?_ ⟨by omega,by rw[ez,wq,fR],by rw[ez,DS,fL],by rw[ez,ja,dF]⟩;exact bQ [0,1,2,7]
  have wy:=Ww x v hx hv h0;have rA:(bZ v x).length=9:=cL lx;have ja:=BQ (s:=c.take i) h0;unfold FL RL at wy;change Den Tryz.prog 72 [] [.agg (flat x),.int .i64 v] [] (.tup [.agg (flat (bZ v x)),.int .i64 (gA (x.getD v rz).q),.int .i64 0]) at wy;by_cases hp:0<co x v
  .have wq:=yf (s:=c.take i) hp;have DS:=kf (s:=c.take i) (v:=v) (x:=x) (by grind);have cG:=dc lo (bZ v x);obtain⟨y,hy⟩:=ax (bZ v x);rw[hy] at wy rA wq cG;have gy:=ah y;have uh:=aF rA;have pN:=ar rA;rw[show gA (x.getD v rz).q=1 from rU hp] at wy;have e1:decide ((1:Int)>0)=true:=rfl;refine b_ (fw h2 r1 rB fx gx lx nZ) ?_
   repeat refine ag ?_
   refine kO wy ?_;refine b_ (bT gy rA e0 e1 pN uh tk1 (aP cG Xr)) ?_
   repeat refine ag ?_
   refine aw (i+1,lo++[y],hi,out) ?_ ⟨by omega,by rw[ez,wq,fR],by rw[ez,DS,fL],by rw[ez,ja,dF]⟩;exact bQ [0,7,2,3]
  have mW:co x v<0:=by grind
  have wq:=mG (s:=c.take i) (v:=v) (x:=x) hp;have DS:=uX (s:=c.take i) mW;have cG:=dc hi (bZ v x);obtain⟨y,hy⟩:=ax (bZ v x);rw[hy] at wy rA DS cG;have gy:=ah y;have uh:=aF rA;have pN:=ar rA;rw[show gA (x.getD v rz).q= -1 from xE mW] at wy;have e1:decide ((-1:Int)>0)=false:=rfl;have e2:decide ((-1:Int)<0)=true:=rfl;refine b_ (fw h2 r1 rB fx gx lx nZ) ?_
  repeat refine ag ?_
  refine kO wy ?_;refine b_ (bT gy rA e0 e1 e2 pN uh (bR tk2 cG w3)) ?_
  repeat refine ag ?_
  refine aw (i+1,lo,hi++[y],out) ?_ ⟨by omega,by rw[ez,wq,fR],by rw[ez,DS,fL],by rw[ez,ja,dF]⟩;exact bQ [0,1,7,3]
 intro h1 h2;have gF:i=n:=by omega
 have gv:c.take i=c:=eo (by omega);rw[gv] at fR fL dF;rw[<-fR] at AB Js hR;rw[<-fL] at zG Js hR;rw[<-dF] at hR;have ak: ∀ l∈out,LOk 1000 l:=fun l hl=>by rw[dF] at hl;exact oN l (iC.1 hl).1
 clear fR fL dF gv oN;by_cases hz1:L1=0
 .have e1:((L1:Int)==0)=true:=by rw[hz1];rfl
  rw[if_pos (.inl (List.length_eq_zero_iff.1 (by omega)))] at hR;subst hR;refine ae (aP h2 e1) ?_;exact bj rfl
 have e1:((L1:Int)==0)=false:=by rw[qx];omega
 by_cases DV:L2=0
 .have e2:((L2:Int)==0)=true:=by rw[DV];rfl
  rw[if_pos (.inr (List.length_eq_zero_iff.1 (by omega)))] at hR;subst hR;refine ae (bR h2 e1 e2) ?_;exact bj rfl
 have e2:((L2:Int)==0)=false:=by rw[qx];omega
 rw[if_neg (fun hh=>by
  rcases hh with hh | hh
  .rw[hh] at ZR;simp at ZR;omega
  rw[hh] at RP;simp at RP;omega)] at hR
 refine ae (bR h2 e1 e2) ?_;refine wl (α:=Nat×List RC) (fun⟨i,o2⟩=>⟨[.any,.int .i64 v,.ptr 0 0 0,.any,.nilsl,.int .i64 0,.fv (.sl (au lo)),.fv (.sl (au hi)),.fv (.sl (au out))]++replicate 5 .any++[.lsl 1 0 o2.length 2]++replicate 54 .any++[.fv (.sl (au lo)),.int .i64 L1,.int .i64 i]++replicate 89 .any,[.box true [.fv (.sl (au c)),.fv (.sl (aq Pt))],.row true (aX (o2.map rn))]⟩)
  (fun⟨i,_⟩=>L1 - i) (fun⟨i,o2⟩=>i<=L1/\o2=ph out lo hi p v i) (0,[]) ?_ ?_ ?_
 .refine Weak.shut [1,2,3] ?_;change Weak _ ⟨_,[Ob.box true [.fv (.sl (au c)),.fv (.sl (aq Pt))],Ob.row false (au lo),Ob.row false (au hi),Ob.row false (au out)]⟩ _;refine Weak.fz 6 1 0 L1 27 (au lo) rfl rfl (by omega) ?_;refine Weak.fz 69 1 0 L1 27 (au lo) rfl rfl (by omega) ?_;refine Weak.fz 7 2 0 L2 27 (au hi) rfl rfl (by omega) ?_;refine Weak.fz 8 3 0 L3 27 (au out) rfl rfl (by omega) ?_;refine Weak.nil 14 2 (by decide) rfl ?_;refine eS [0,4] ?_ ?_
  .simp[bk,dV,cC,tk1,tk2,ZT]
  simp[et,fK,dp,cC];simp[aX]
 .exact⟨eB _,rfl⟩
 rintro⟨i,o2⟩ ⟨oI,gw⟩;have hK2:=uZ out lo hi p v i;rw[<-gw] at hK2;have AU:i*hi.length<=1600:=gI (Nat.mul_le_mul (show i<=40 by omega) (show hi.length<=40 by omega)) (by decide);obtain⟨K2,Z5⟩:=ax o2.length;have rlk:=bt (o2.map rn);rw[length_map,Z5] at rlk;dsimp only;rw[Z5] at hK2 ⊢;refine aY ?_;refine bS ?_ ?_
 .intro g1 g2;have lB:=bI (ls:=lo) (i:=i) (by omega);have rl4:=bK lo i;have hl:=AB _ lB;obtain⟨l,oP⟩:=ax (lo.getD i []);rw[oP] at lB rl4 hl;have ll:=hl.len;have l27:=aF ll;have fl:=aO l;have gl:=ah l;have zJ:=ar ll;refine b_ (bT g2 rl4 l27 fl gl ll Xr (aP w3 @Q8)) ?_
  repeat refine ag ?_
  refine wl (α:=Nat×List RC) (fun⟨j,o3⟩=>⟨[.any,.int .i64 v,.ptr 0 0 0,.any,.nilsl,.int .i64 0,.fv (.sl (au lo)),.fv (.sl (au hi)),.fv (.sl (au out))]++replicate 5 .any++[.lsl 1 0 o3.length 2,.int .i64 i,.ptr 2 0 0]++replicate 52 .any++[.fv (.sl (au lo)),.int .i64 L1,.int .i64 i]++replicate 4 .any++[.fv (.sl (au hi)),.int .i64 L2,.int .i64 j]++replicate 82 .any,[.box true [.fv (.sl (au c)),.fv (.sl (aq Pt))],.row true (aX (o3.map rn)),.box true (flat l)]⟩)
   (fun⟨j,_⟩=>L2 - j) (fun⟨j,o3⟩=>j<=L2/\o3=o2++oc out lo hi p v i j) (0,o2) ?_ ?_ ?_
  .exact tN [0,1,2]
  .exact⟨eB _,by simp[oc]⟩
  rintro⟨j,o3⟩ ⟨Ss,LB⟩;have hK3:=uY out lo hi p v i j;obtain⟨K3,Z6⟩:=ax o3.length;have anQ:K3<=1700:=by
   rw[<-Z6,LB,qe,Z5];omega
  have afg:=bt (o3.map rn);rw[length_map,Z6] at afg;dsimp only;rw[Z6];refine aY ?_;refine bS ?_ ?_
  .intro g3 g4;have Ly:=bI (ls:=hi) (i:=j) (by omega);have rl5:=bK hi j;have hu:=zG _ Ly;obtain⟨u,huu⟩:=ax (hi.getD j []);rw[huu] at Ly rl5 hu;have lu:=hu.len;have u27:=aF lu;have fu:=aO u;have gu:=ah u;have DT:=ar lu;have sx:=Qc u l (hu.mono (by decide)) (hl.mono (by decide));have Lz:=gL lu ll;have NT:=wH hu hl (by decide);have hsj:=yj (rest:=out) (lo:=lo) (hi:=hi) (p:=p) (v:=v) (i:=i) (n:=j);rw[oP,huu] at hsj;have f7:gq u l=(cQ (cB u l)&&decide (gA (co (cB u l) 8)<=0)):=rfl;obtain⟨d,hd⟩:=ax (cB u l);rw[hd] at sx Lz NT f7;have afh:LOk 2000 d:=NT;have gd:=ah d;have Vx:=ar Lz;have d27:=aF Lz;have SF:=o_ Lz;have R2:=Pe d (afh.mono (by decide));have NI:=mm (d.getD 8 rz) ((afh.at 8).mono (by decide))
   have uk:co d 8=(d.getD 8 rz).q:=rfl;obtain⟨r,hr⟩:=ax (d.getD 8 rz);rw[hr] at NI SF uk;rw[uk] at f7;unfold Raw.v at NI;unfold RL at sx R2;obtain⟨b,hb⟩:=ax (cQ d);rw[hb] at R2 f7;by_cases VC:gq u l=true
   .rw[VC] at f7;have dY:b=true:=by cases b<;>simp at f7 ⊢
    have qX:decide (gA r.q<=0)=true:=by rw[dY] at f7;simpa using f7.symm
    subst dY;rw[if_pos VC,append_nil] at hsj;refine b_ (bT g4 rl5 u27 fu gu lu DT (eg gl ll zJ w3)) ?_
    repeat refine ag ?_
    refine kO sx ?_;refine GU ?_
    repeat refine ag ?_
    refine kO R2 ?_;refine b_ (fE gu lu DT gl ll zJ) ?_
    repeat refine ag ?_
    refine kO sx ?_;refine b_ (bR SF gd Lz) ?_
    repeat refine ag ?_
    refine aV NI ?_;refine ae (aP qX @append_nil.{0}) ?_;refine aw (j+1,o3) ?_ ⟨by omega,by rw[LB,hsj]⟩;exact tN [0,1,2]
   have afi:gq u l=false:=by simpa using VC
   rw[if_neg VC] at hsj;have h33:=Js l lB u Ly afi;have R3:=TD out (fun f hf=>(ak f hf).len) (by omega);have rl6:=ay out;rw[ZS] at rl6 R3;have cG:=dc out d;have tk6:=b9 (ls:=out) (n:=L3) (by omega);obtain⟨q,hq⟩:=ax (betT v l u p);rw[hq] at h33 hsj;unfold RL at h33;have alU: ∀ X:St->Prop,X=X:=fun _=>rfl
   refine b_ (bT g4 rl5 u27 fu gu lu DT (eg gl ll zJ w3)) ?_
   repeat refine ag ?_
   refine kO sx ?_;refine GU ?_
   repeat refine ag ?_
   refine kO R2 ?_;cases b
   case' true=>
    have qX:decide (gA r.q<=0)=false:=by rw[afi] at f7;simpa using f7.symm
    refine b_ (fE gu lu DT gl ll zJ) ?_
    repeat refine ag ?_
    refine kO sx ?_;refine b_ (bR SF gd Lz) ?_
    repeat refine ag ?_
    refine aV NI ?_;simp -dsimp(disch:=omega) only[append_nil,qX,↓reduceIte,reduceAdd,ru]
   case' false=>
    simp -dsimp(disch:=omega) only[jj,append_nil,jJ,↓reduceIte,reduceAdd]
   all_goals
    refine dw (by kernel_rfl) ?_;refine ba ?_;refine aV R3 ?_;refine ae (fw gu lu DT gl ll zJ @append_nil.{0}) ?_
    repeat refine ag ?_
    refine kO sx ?_;refine b_ (fE gd Lz d27 tk6 cG rl6) ?_
    repeat refine ag ?_
    clear NI R2 f7 SF;refine wl (α:=Nat×List (List Raw)) (fun⟨k,cs⟩=>⟨[.any,.int .i64 v,.ptr 0 0 0,.any,.nilsl,.int .i64 0,.fv (.sl (au lo)),.fv (.sl (au hi)),.fv (.sl (au out))]++replicate 5 .any++[.lsl 1 0 K3 2,.int .i64 i,.ptr 2 0 0,.int .i64 j,.ptr 3 0 0,.ptr 5 0 0]++replicate 49 .any++[.fv (.sl (au lo)),.int .i64 L1,.int .i64 i]++replicate 4 .any++[.fv (.sl (au hi)),.int .i64 L2,.int .i64 j]++replicate 24 .any++[.fv (.sl (au lo)),.int .i64 L1,.int .i64 k]++replicate 55 .any,[.box true [.fv (.sl (au c)),.fv (.sl (aq Pt))],.row true (aX (o3.map rn)),.box true (flat l),.box true (flat u),.row true (au cs),.box true [.lsl 4 0 cs.length 27,.nilsl]]⟩)
     (fun⟨k,_⟩=>L1 - k) (fun⟨k,cs⟩=>k<=L1/\cs=(out++[d])++lU (cB l) lo i k) (0,out++[d]) ?_ ?_ ?_
    .refine eS [0,1,2,3,6,7] ?_ ?_
     .simp[bk,dV,cC]
      try omega
     simp[et,fK,dp,cC,dL]
     try omega
    .exact⟨eB _,by rw[Fz,append_nil]⟩
    rintro⟨k,cs⟩ ⟨jG,eR⟩;have fC:cs.length<=L3+1+k:=by
     have:=C1 (cB l) lo i k;rw[eR,qe,qe,Hv,ZS];omega
    obtain⟨C,hC⟩:=ax cs.length;have rlc:=ay cs;rw[hC] at rlc fC;have tkc:=b9 (ls:=cs) (n:=C) (by omega);dsimp only;rw[hC];refine aY ?_;refine bS ?_ ?_
    .intro f1 f2;have Xt:=bI (ls:=lo) (i:=k) (by omega);have rlo:=bK lo k;have df:=fun hh=>Io (cB l) lo (i:=i) (k:=k) hh
     have ho:=AB _ Xt;obtain⟨o,iU⟩:=ax (lo.getD k []);rw[iU] at Xt rlo ho df;have lo':=ho.len;have o27:=aF lo';have fo:=aO o;have go:=ah o;have Z7:=ar lo';by_cases zL:k=i
     .have e5:((k:Int) !=(i:Int))=false:=by rw[zL];simp
      refine b_ (bT f2 rlo o27 fo go lo' Xr e5) ?_
      repeat refine ag ?_
      refine aw (k+1,cs) ?_ ⟨by omega,by rw[eR,zL,Im]⟩;refine eS [0,1,2,3,4,5] ?_ ?_
      .simp[bk,dV,cC]
       try omega
      simp[et,fK,dp,cC,dL]
      try omega
     have e5:((k:Int) !=(i:Int))=true:=by simp;omega
     have sx:=Qc l o (hl.mono (by decide)) (ho.mono (by decide));have kN:(cB l o).length=9:=gL ll lo';have Jt:=dc cs (cB l o);have tX:=df zL;obtain⟨e,Oi⟩:=ax (cB l o);change _=_++[cB l o] at tX;rw[Oi] at sx kN Jt tX;have ge:=ah e;have ajH:=ar kN;have e27:=aF kN;unfold RL at sx;refine b_ (bT f2 rlo o27 fo go lo' Xr e5) ?_
     repeat refine ag ?_
     refine dw (by kernel_rfl) ?_;refine ae (fE gl ll zJ go lo' Z7) ?_
     repeat refine ag ?_
     refine kO sx ?_;refine b_ (fE ge kN e27 tkc Jt rlc) ?_
     repeat refine ag ?_
     refine aw (k+1,cs++[e]) ?_ ⟨by omega,by rw[tX,eR];simp⟩;refine eS [0,1,2,3,8,5] ?_ ?_
     .simp[bk,dV,cC]
      try omega
     simp[et,fK,dp,cC,dL]
     try omega
    intro f1 f2;have hke:k=L1:=by omega
    rw[hke] at eR;clear tkc;have ajK:=eR;have anS:cs.length<=L3+1+L1:=by omega
    refine ae (aP f2 w3) ?_;refine wl (α:=Nat×List (List Raw)) (fun⟨k,ct⟩=>⟨[.any,.int .i64 v,.ptr 0 0 0,.any,.nilsl,.int .i64 0,.fv (.sl (au lo)),.fv (.sl (au hi)),.fv (.sl (au out))]++replicate 5 .any++[.lsl 1 0 K3 2,.int .i64 i,.ptr 2 0 0,.int .i64 j,.ptr 3 0 0,.ptr 5 0 0]++replicate 49 .any++[.fv (.sl (au lo)),.int .i64 L1,.int .i64 i]++replicate 4 .any++[.fv (.sl (au hi)),.int .i64 L2,.int .i64 j]++replicate 43 .any++[.fv (.sl (au hi)),.int .i64 L2,.int .i64 k]++replicate 36 .any,[.box true [.fv (.sl (au c)),.fv (.sl (aq Pt))],.row true (aX (o3.map rn)),.box true (flat l),.box true (flat u),.row true (au ct),.box true [.lsl 4 0 ct.length 27,.nilsl]]⟩)
     (fun⟨k,_⟩=>L2 - k) (fun⟨k,ct⟩=>k<=L2/\ct=cs++lU (fun o=>cB o u) hi j k) (0,cs) ?_ ?_ ?_
    .refine eS [0,1,2,3,4,5] ?_ ?_
     .simp[bk,dV,cC]
      try omega
     simp[et,fK,dp,cC,dL]
     try omega
    .exact⟨eB _,by rw[Fz,append_nil]⟩
    rintro⟨k,ct⟩ ⟨jG,eR⟩;have fC:ct.length<=(L3+1+L1)+k:=by
     have:=C1 (fun o=>cB o u) hi j k;rw[eR,qe];omega
    obtain⟨C,hC⟩:=ax ct.length;have rlc:=ay ct;rw[hC] at rlc fC;have tkc:=b9 (ls:=ct) (n:=C) (by omega);dsimp only;rw[hC];refine aY ?_;refine bS ?_ ?_
    .intro f1 f2;have Xt:=bI (ls:=hi) (i:=k) (by omega);have rlo:=bK hi k;have df:=fun hh=>Io (fun o=>cB o u) hi (i:=j) (k:=k) hh
     have ho:=zG _ Xt;obtain⟨o,iU⟩:=ax (hi.getD k []);rw[iU] at Xt rlo ho df;have lo':=ho.len;have o27:=aF lo';have fo:=aO o;have go:=ah o;have Z7:=ar lo';by_cases zL:k=j
     .have e5:((k:Int) !=(j:Int))=false:=by rw[zL];simp
      refine b_ (bT f2 rlo o27 fo go lo' w3 e5) ?_
      repeat refine ag ?_
      refine aw (k+1,ct) ?_ ⟨by omega,by rw[eR,zL,Im]⟩;refine eS [0,1,2,3,4,5] ?_ ?_
      .simp[bk,dV,cC]
       try omega
      simp[et,fK,dp,cC,dL]
      try omega
     have e5:((k:Int) !=(j:Int))=true:=by simp;omega
     have sx:=Qc o u (ho.mono (by decide)) (hu.mono (by decide));have kN:(cB o u).length=9:=gL lo' lu;have Jt:=dc ct (cB o u);have tX:=df zL;obtain⟨e,Oi⟩:=ax (cB o u);change _=_++[cB o u] at tX;rw[Oi] at sx kN Jt tX;have ge:=ah e;have ajH:=ar kN;have e27:=aF kN;unfold RL at sx;refine b_ (bT f2 rlo o27 fo go lo' w3 e5) ?_
     repeat refine ag ?_
     refine dw (by kernel_rfl) ?_;refine ae (fE gu lu DT go lo' Z7) ?_
     repeat refine ag ?_
     refine kO sx ?_;refine b_ (fE ge kN e27 tkc Jt rlc) ?_
     repeat refine ag ?_
     refine aw (k+1,ct++[e]) ?_ ⟨by omega,by rw[tX,eR];simp⟩;refine eS [0,1,2,3,8,5] ?_ ?_
     .simp[bk,dV,cC]
      try omega
     simp[et,fK,dp,cC,dL]
     try omega
    intro f1 f2;have hke:k=L2:=by omega
    rw[hke] at eR;clear tkc;have afk:ct=iG out lo hi i j:=by
     unfold iG;rw[oP,huu,hd,ZR,RP,eR,ajK]
    have tkc:=b9 (ls:=ct) (n:=C) (by omega);have ajL:aX (o3.map rn)++[[FV.sl (au ct),FV.sl (aq (q.map tn))]]=aX ((o3++[(ct,q)]).map rn):=by
     rw[vw];exact g7 _ (rn (ct,q))
    have tk7:=dB (l:=o3.map rn) (n:=K3) (by rw[length_map];omega);have e6:((0:Int) !=0)=false:=rfl;refine ae (fw f2 gl ll zJ gu lu DT) ?_
    repeat refine ag ?_
    refine kO h33 ?_;refine b_ (fw e6 tkc rlc ajL tk7 afg @qp) ?_
    repeat refine ag ?_
    refine aw (j+1,o3++[(ct,q)]) ?_ ⟨by omega,by rw[LB,hsj,afk,qlb]⟩;exact tN [0,7,2]
  intro g3 g4;have On:j=L2:=by omega
  rw[On,<-RP] at LB;refine ae g4 ?_;refine aw (i+1,o3) ?_ ⟨by omega,by rw[yk,LB,gw]⟩;exact bQ [0,1]
 intro g1 g2;have mc:i=L1:=by omega
 rw[mc,<-ZR] at gw;rw[<-gw] at hR;subst hR;have tk:=dB (l:=o2.map rn) (n:=K2) (by rw[length_map];omega);refine ae g2 ?_;refine Sn (vs:=[.lsl 1 0 K2 2,.int .i64 0]) rfl ⟨cW,cW,cW⟩ (show tL [Ob.box true [.fv (.sl (au c)),.fv (.sl (aq Pt))],Ob.row true (aX (o2.map rn))] [] (.tup [.lsl 1 0 K2 2,.int .i64 0])=_ from ?_);exact l7 (aP tk rlk)
def missB (v:Nat) (r:RC):Bool:=(aR r.1 v).isEmpty||(aE r.1 v).isEmpty
def elimO (M:List RC) (v:Nat):List RC:=M.flatMap (fun r=>gM r.1 r.2 v)
theorem qB {v:Nat} {r:RC}:missB v r=true↔aR r.1 v=[]\/aE r.1 v=[]:=by
 unfold missB;rw[qsb,List.isEmpty_iff,List.isEmpty_iff]
def Ip (c:Int):PV:= .tup [.fv (.sl []),.int .i64 c]
theorem ahT (L:List RR) (M N:List RC) (v:Nat) (hv:v<8) (AH:Den Tryz.prog 90 [] [RL' L] [] (.tup [RL' (M.map rn),.int .i64 0])) (hM:M.length<=100000) (hs: ∀ r∈M,pj r.1 r.2 v)
 (aD:(elimO M v).length<=10000000)
 (ajM:M.any (missB v)=false->Den Tryz.prog 90 [] [RL' ((elimO M v).map rn)] [] (.tup [RL' (N.map rn),.int .i64 0])):
 Den Tryz.prog 36 [] [RL' L,.int .i64 v] [] (if M.any (missB v)=true then Ip 15 else .tup [RL' (N.map rn),.int .i64 0]):=by
 obtain⟨R,hR⟩:=ax ((if M.any (missB v)=true then Ip 15 else .tup [RL' (N.map rn),.int .i64 0]))
 rw[hR]
 have rl:=bt (M.map rn)
 rw[length_map] at rl
 obtain⟨n,cP⟩:=ax M.length
 rw[cP] at rl hM
 have e0:((0:Int) !=0)=false:=rfl
 have e1:decide ((v:Int)<0)=false:=sA
 have e2:decide ((v:Int)>=8)=false:=sA
 refine dq Tryz.func36 47 0 ?_
 refine aY ?_
 refine aV AH ?_
 refine ae (eg e0 e1 e2 rl) ?_
 refine wl (α:=Nat×List RC) (fun⟨i,out⟩=>⟨[.any,.int .i64 v,.any,.any,.nilsl,.int .i64 0,.any,.lsl 0 0 out.length 2]++replicate 18 .any++[.fv (.sl (aX (M.map rn))),.int .i64 n,.int .i64 i]++replicate 20 .any,[.row true (aX (out.map rn))]⟩)
  (fun⟨i,_⟩=>n - i) (fun⟨i,out⟩=>i<=n/\out=elimO (M.take i) v/\(M.take i).any (missB v)=false) (0,[]) ?_ ?_ ?_
 .refine Weak.nil 7 2 (by decide) rfl ?_
  refine eS [0] ?_ ?_
  .simp[bk,dV,cC]
  simp[et,fK]
  simp[aX]
 .exact⟨eB _,rfl,rfl⟩
 rintro⟨i,out⟩ ⟨h1,h2,h3⟩
 have vm:out.length<=10000000:=by
  refine gI ?_ aD;rw[h2];unfold elimO
  conv=>rhs;rw[<-List.take_append_drop i M,flatMap_append,qe]
  omega
 obtain⟨K,hK⟩:=ax out.length
 have rlo:=bt (out.map rn)
 rw[length_map,hK] at rlo
 dsimp only
 rw[hK] at vm ⊢
 refine aY ?_
 refine bS ?_ ?_
 .intro g1 g2
  obtain⟨⟨c,p⟩,hx⟩: ∃ x,M[i]?=some x:=⟨_,qb (by omega)⟩
  have SH:(c,p)∈M:=List.mem_of_getElem? hx
  have ry:=eG (l:=M.map rn) (i:=i) (by rw[length_map];omega)
  rw[show(M.map rn).getD i r8=rn (c,p) by rw[qa,List.getElem?_map,hx];rfl] at ry
  change _=[FV.sl (au c),FV.sl (aq (p.map tn))] at ry
  have Hn:=ahS c p v (hs _ SH)
  change Den Tryz.prog 91 [] [.agg [.fv (.sl (au c)),.fv (.sl (aq (p.map tn)))],.int .i64 v] [] _ at Hn
  have ez:M.take (i+1)=M.take i++[(c,p)]:=by
   rw[List.take_add_one,hx];rfl
  by_cases G5:missB v (c,p)=true
  .unfold FA at Hn
   rw[if_pos (qB.1 G5)] at Hn
   rw[if_pos (jU SH G5)] at hR
   subst hR
   have e3:((15:Int) !=0)=true:=rfl
   refine ae (bR g2 ry rl) ?_
   repeat refine ag ?_
   refine aV Hn ?_
   refine ae e3 ?_
   exact bj rfl
  unfold FA at Hn
  rw[if_neg (fun hh=>G5 (qB.2 hh))] at Hn
  have rA:elimO (M.take (i+1)) v=out++gM c p v:=by
   rw[ez,h2];unfold elimO;rw[flatMap_append,List.flatMap_singleton]
  have m4:(gM c p v).length<=10000000:=by
   refine gI ?_ aD;unfold elimO;rw[List.flatMap_def];exact(List.sublist_flatten_of_mem (List.mem_map_of_mem (f:=fun r:RC=>gM r.1 r.2 v) SH)).length_le
  obtain⟨q,hq⟩:=ax (gM c p v)
  rw[hq] at Hn rA m4
  have rlq:=bt (q.map rn)
  rw[length_map] at rlq
  have cG:aX (out.map rn)++aX (q.map rn)=aX ((out++q).map rn):=by
   unfold aX;rw[vw,vw]
  have tk:=dB (l:=out.map rn) (n:=K) (by rw[length_map];omega)
  have afl: ∀ y,y∈aX (q.map rn)->y.length=2:=fun y hy=>by
   unfold aX at hy;obtain⟨x,_,rfl⟩:=mem_map.1 hy;rfl
  have h2t:(∀ y,y∈aX (q.map rn)->y.length=2)=True:=eq_true afl
  refine ae (bR g2 ry rl) ?_
  repeat refine ag ?_
  refine aV Hn ?_
  refine ae (fE e0 tk cG rlo rlq h2t) ?_
  repeat refine ag ?_
  refine aw (i+1,out++q) ?_ ⟨by omega,rA.symm,by rw[ez,qub,h3];simpa using G5⟩
  exact bQ [2]
 intro g1 g2
 have gF:i=n:=by omega
 have gv:M.take i=M:=eo (by omega)
 rw[gv] at h2 h3
 have afm:=ajM h3
 rw[<-h2] at afm
 rw[if_neg (by rw[h3];decide)] at hR
 subst hR
 have tk:=dB (l:=out.map rn) (n:=K) (by rw[length_map];omega)
 refine ae g2 ?_
 refine gp afm (by simp[cw,gW,fS,fB,tk,rlo]) ?_
 refine ba ?_
 exact bj rfl
theorem adu (L:List RR) (M:List RC) (v:Int) (hv:v<0\/8<=v) (AH:Den Tryz.prog 90 [] [RL' L] [] (.tup [RL' (M.map rn),.int .i64 0])):
 Den Tryz.prog 36 [] [RL' L,.int .i64 v] [] (Ip 1):=by
 have e0:((0:Int) !=0)=false:=rfl
 unfold Ip
 by_cases h1:v<0
 .have e1:decide (v<0)=true:=ir h1
  refine dq Tryz.func36 47 0 ?_
  refine aY ?_
  refine aV AH ?_
  refine ae (aP e0 e1) ?_
  exact bj rfl
 have e1:decide (v<0)=false:=m5 h1
 have e2:decide (v>=8)=true:=GV
 refine dq Tryz.func36 47 0 ?_
 refine aY ?_
 refine aV AH ?_
 refine ae (bR e0 e1 e2) ?_
 exact bj rfl
def Qd (M:List RC):Int×List Tm:=if M.any (fun r=>!r.1.isEmpty) then(2,[]) else(0,polyS' M)
def ym (E:List RC->Int->Int×List RC):List RC->List Int->Int×List RC
 | M,[]=>(0,M)
 | M,v::vs=>if(E M v).1=0 then ym E (E M v).2 vs else((E M v).1,[])
theorem C2 (E:List RC->Int->Int×List RC) (M:List RC):ym E M []=(0,M):=rfl
theorem pn (E:List RC->Int->Int×List RC) (M:List RC) (v:Int) (vs:List Int):ym E M (v::vs)=if(E M v).1=0 then ym E (E M v).2 vs else((E M v).1,[]):=rfl
def listV (x:Int×List RC):PV:=if x.1=0 then .tup [RL' (x.2.map rn),.int .i64 0] else Ip x.1
def yn (x:Int×List Tm):PV:=if x.1=0 then .tup [PL (x.2.map tn),.int .i64 0] else Ip x.1
def wa (E:List RC->Int->Int×List RC) (M:List RC) (vs:List Int):Int×List Tm:=if(ym E M vs).1=0 then Qd (ym E M vs).2 else((ym E M vs).1,[])
structure WV (E:List RC->Int->Int×List RC) (I:List RC->Prop):Prop where
 den: ∀ M,I M-> ∀ v:Int,-9223372036854775808<=v->v<9223372036854775808->Den Tryz.prog 36 [] [RL' (M.map rn),.int .i64 v] [] (listV (E M v))
 next: ∀ M,I M-> ∀ v,(E M v).1=0->I (E M v).2
 len: ∀ M,I M->M.length<=1000000
 nf: ∀ M,I M->NF M
 one: ∀ M,I M-> ∀ r∈M,r.1=[]->POk 10000000 1024 r.2/\r.2.length<=bH
theorem KE:POk 10000000 1024 []:=⟨.nil,by simp,by simp⟩
theorem ahU (E:List RC->Int->Int×List RC) (I:List RC->Prop) (hT:WV E I) (L:List RR) (M:List RC) (vs:List Int) (hw:W64 vs) (hn:vs.length<=1000) (hI:I M) (AH:Den Tryz.prog 90 [] [RL' L] [] (.tup [RL' (M.map rn),.int .i64 0])):
 Den Tryz.prog 40 [] [RL' L,.fv (.sl (ints vs))] [] (yn (wa E M vs)):=by
 obtain⟨R,hR⟩:=ax (yn (wa E M vs))
 rw[hR]
 have rl:=cu vs
 obtain⟨n,cP⟩:=ax vs.length
 rw[cP] at rl hn
 have e0:((0:Int) !=0)=false:=rfl
 refine dq Tryz.func40 56 0 ?_
 refine aY ?_
 refine aV AH ?_
 refine ae (aP e0 rl) ?_
 refine wl (α:=Nat×List RC) (fun⟨i,M'⟩=>⟨[.fv (.sl (aX (M'.map rn))),.any,.any,.any,.nilsl,.int .i64 0]++replicate 14 .any++[.fv (.sl (ints vs)),.int .i64 n,.int .i64 i]++replicate 35 .any,[]⟩)
  (fun⟨i,_⟩=>n - i) (fun⟨i,M'⟩=>i<=n/\I M'/\ym E M vs=ym E M' (vs.drop i)) (0,M) ?_ ?_ ?_
 .exact bQ []
 .exact⟨eB _,hI,by rw[List.drop_zero]⟩
 rintro⟨i,M'⟩ ⟨h1,h2,h3⟩
 refine aY ?_
 refine bS ?_ ?_
 .intro g1 g2
  have hi:i<vs.length:=by omega
  have hd:vs.drop i=vs.getD i 0::vs.drop (i+1):=by
   rw[qj hi,qa,qb hi];rfl
  have ry:=iW (xs:=vs) hi
  have UR:=hw _ (qw (l:=vs) (d:=0) hi)
  obtain⟨v,hv⟩:=ax (vs.getD i 0)
  rw[hv] at hd ry UR
  rw[hd] at h3
  have iP:=hT.den M' h2 v UR.1 UR.2
  have wv:=hT.next M' h2 v
  rw[pn] at h3
  unfold listV at iP
  obtain⟨⟨c,N⟩,hE⟩: ∃ x,E M' v=x:=⟨_,rfl⟩
  rw[hE] at iP wv h3
  dsimp only at iP wv h3
  by_cases hc:c=0
  .subst hc
   rw[if_pos rfl] at iP h3
   refine ae (bR g2 ry rl) ?_
   repeat refine ag ?_
   refine aV iP ?_
   refine ae e0 ?_
   refine aw (i+1,N) ?_ ⟨by omega,wv rfl,h3⟩
   exact bQ []
  rw[if_neg hc] at iP h3
  have e1:(c !=0)=true:=by simpa using hc
  unfold Ip at iP
  unfold wa at hR
  rw[h3] at hR
  dsimp only at hR
  rw[if_neg hc] at hR
  unfold yn at hR
  rw[if_neg hc] at hR
  subst hR
  refine ae (bR g2 ry rl) ?_
  repeat refine ag ?_
  refine aV iP ?_
  refine ae e1 ?_
  exact bj rfl
 intro g1 g2
 have hd:vs.drop i=[]:=List.drop_of_length_le (by omega)
 rw[hd] at h3
 rw[C2] at h3
 unfold wa at hR
 rw[h3] at hR
 dsimp only at hR
 rw[if_pos rfl] at hR
 have rlm:=bt (M'.map rn)
 rw[length_map] at rlm
 have lB:=hT.len M' h2
 obtain⟨m,hm⟩:=ax M'.length
 rw[hm] at rlm lB
 refine ae (aP g2 rlm) ?_
 refine wl (α:=Nat×List Tm) (fun⟨i,s⟩=>⟨[.any,.any,.any,.any,.nilsl,.int .i64 0,.any,.any,.any,.fv (.sl (aq (s.map tn)))]++replicate 26 .any++[.fv (.sl (aX (M'.map rn))),.int .i64 m,.int .i64 i]++replicate 19 .any,[]⟩)
  (fun⟨i,_⟩=>m - i) (fun⟨i,s⟩=>i<=m/\s=polyS' (M'.take i)/\(M'.take i).any (fun r=>!r.1.isEmpty)=false) (0,[]) ?_ ?_ ?_
 .refine Weak.nil 9 11 (by decide) rfl ?_
  refine Weak.shut [0] ?_
  change Weak _ ⟨_,[Ob.row false []]⟩ _
  refine Weak.fz 9 0 0 0 11 [] rfl rfl (by simp) ?_
  refine eS [] ?_ ?_
  .simp[bk,dV,cC,aq]
  simp[et]
 .exact⟨eB _,rfl,rfl⟩
 rintro⟨i,s⟩ ⟨k1,k2,k3⟩
 refine aY ?_
 refine bS ?_ ?_
 .intro f1 f2
  obtain⟨⟨c,p⟩,hx⟩: ∃ x,M'[i]?=some x:=⟨_,qb (by omega)⟩
  have SH:(c,p)∈M':=List.mem_of_getElem? hx
  have ry:=eG (l:=M'.map rn) (i:=i) (by rw[length_map];omega)
  rw[show(M'.map rn).getD i r8=rn (c,p) by rw[qa,List.getElem?_map,hx];rfl] at ry
  change _=[FV.sl (au c),FV.sl (aq (p.map tn))] at ry
  have rlc:=ay c
  have ez:M'.take (i+1)=M'.take i++[(c,p)]:=by
   rw[List.take_add_one,hx];rfl
  cases c with
  | cons c0 c1=>
   have e1:decide (((c0::c1).length:Int)>0)=true:=ir (by rw[length_cons];omega);unfold Qd at hR;rw[if_pos (jU SH rfl)] at hR;unfold yn at hR;rw[if_neg (by decide)] at hR;obtain⟨c,oK⟩:=ax (c0::c1);rw[oK] at ry rlc e1;subst hR;refine ae (im f2 ry rlm rlc e1) ?_
   repeat refine ag ?_
   exact bj rfl
  | nil=>
   have Cq:=hT.nf M' h2;have df:=hT.one M' h2 _ SH rfl;dsimp only at df;have uj:i=0:=by
    cases i with
    | zero=>rfl
    | succ q=>
     exfalso;have h0l:0<M'.length:=by omega
     have Cl:(M'[0]'h0l).1=[]:=by
      have bm:M'[0]'h0l∈M'.take (q+1):=by
       rw[mem_iff_getElem];exact⟨0,by rw[length_take];omega,by rw[List.getElem_take]⟩
      cases hh:(M'[0]'h0l).1 with
      | nil=>rfl
      | cons a b=>rw[jU bm (by rw[hh];rfl)] at k3;cases k3
     have Ja:q+1<M'.length:=by omega
     have hcq:M'[q+1]'Ja=([],p):=(List.getElem?_eq_some_iff.1 hx).2;have:=List.pairwise_iff_getElem.1 Cq.sorted 0 (q+1) h0l Ja (by omega);rw[Cl,hcq] at this;simp[cR] at this
   subst uj;have Lr:s=[]:=k2;subst Lr;have gh:=(Cq.can _ SH);have md:nf ([]++p)=polyS' (M'.take 1):=by
    have:M'.take 1=[([],p)]:=by rw[ez];rfl
    rw[this,tw gh,List.nil_append,e_ gh]
   have h97:=adf [] p KE df.1 (by simp) df.2 (by rw[List.nil_append,e_ gh];exact df.2);have e1:decide ((([]:List (List Raw)).length:Int)>0)=false:=rfl;obtain⟨c,oK⟩:=ax (([]:List (List Raw)));have Zt:c.isEmpty=true:=by rw[<-oK];rfl
   rw[oK] at ry rlc e1 ez;obtain⟨s2,wW⟩:=ax (nf (([]:List Tm)++p));rw[wW] at h97 md;refine ae (im f2 ry rlm rlc e1) ?_
   repeat refine ag ?_
   refine aV h97 ?_;refine ae e0 ?_;refine aw (0+1,s2) ?_ ⟨by omega,md,by rw[ez,qub,k3];simp[Zt]⟩;exact bQ []
 intro f1 f2
 have gv:M'.take i=M':=eo (by omega)
 rw[gv] at k2 k3
 unfold Qd at hR
 rw[if_neg (by rw[k3];decide),<-k2] at hR
 unfold yn at hR
 rw[if_pos rfl] at hR
 subst hR
 refine ae f2 ?_
 exact bj rfl
end Go.Proofs.YtjjbkjgifdhlcaaGreat
namespace Go.Pl
open Go.AM
def Duo (v w:Nat) (Nv Nw:Int) (p:List Tm):Prop:= ∀ t∈p,t.1.length=8/\(∀ i,i<8->i≠v->i≠w->t.1.getD i 0=0)/\(0<=t.1.getD v 0/\t.1.getD v 0<=Nv)/\0<=t.1.getD w 0/\t.1.getD w 0<=Nw
def Uni (w:Nat) (N:Int) (p:List Tm):Prop:= ∀ t∈p,t.1.length=8/\(∀ i,i<8->i≠w->t.1.getD i 0=0)/\0<=t.1.getD w 0/\t.1.getD w 0<=N
theorem Uni.len8 {w:Nat} {N:Int} {p:List Tm} (h:Uni w N p):Len8 p:=fun t ht=>(h t ht).1
theorem Duo.len8 {v w:Nat} {N M:Int} {p:List Tm} (h:Duo v w N M p):Len8 p:=fun t ht=>(h t ht).1
theorem Uni.mono {w:Nat} {N M:Int} {p:List Tm} (h:Uni w N p) (hm:N<=M):Uni w M p:=fun t ht=>by
 obtain⟨a,b,c,d⟩:=h t ht;exact⟨a,b,c,by omega⟩
theorem Uni.nil {w:Nat} {N:Int}:Uni w N []:=fun t ht=>by simp at ht
theorem Uni.app {w:Nat} {N:Int} {p q:List Tm} (h:Uni w N p) (k:Uni w N q):Uni w N (p++q):=fun t ht=>by
 rcases List.mem_append.1 ht with h1 | h1
 .exact h t h1
 exact k t h1
theorem Uni.nf {w:Nat} {N:Int} {p:List Tm} (h:Uni w N p):Uni w N (Go.Pl.nf p):=fun t ht=>by
 obtain⟨x,hx,he⟩:=jc ht;rw[<-he];exact h x hx
theorem u3 {a b:Mn} (ha:a.length=8) (hb:b.length=8) {i:Nat} (hi:i<8):(fe a b).getD i 0=a.getD i 0+b.getD i 0:=by
 unfold fe;rw[qa,qa,qa,List.getElem?_zipWith,qb (by omega),qb (by omega)];rfl
theorem Uni.prod {w:Nat} {N M:Int} {p q:List Tm} (hw:w<8) (h:Uni w N p) (k:Uni w M q):Uni w (N+M) (prodT p q):=fun t ht=>by
 unfold prodT at ht;obtain⟨s,hs,ht⟩:=List.mem_flatMap.1 ht;obtain⟨u,hu,rfl⟩:=mem_map.1 ht;obtain⟨a1,a2,a3,a4⟩:=h s hs;obtain⟨b1,b2,b3,b4⟩:=k u hu;refine⟨g_ a1 b1,fun i hi cX=>?_,?_⟩
 .show(fe s.1 u.1).getD i 0=0;rw[u3 a1 b1 hi,a2 i hi cX,b2 i hi cX];rfl
 show 0<=(fe s.1 u.1).getD w 0/\(fe s.1 u.1).getD w 0<=N+M;rw[u3 a1 b1 hw];omega
theorem Uni.scale {w:Nat} {N:Int} {p:List Tm} {r:Rat} (h:Uni w N p):Uni w N (c9 p r):=fun t ht=>by
 obtain⟨u,hu,rfl⟩:=mem_map.1 ht;exact h u hu
theorem lV {m:Mn} {v:Nat} {x:Int} (h:v<m.length):(m.set v x).getD v 0=x:=by
 rw[qa,qv h];rfl
theorem f4 {m:Mn} {v i:Nat} {x:Int} (h:v≠i):(m.set v x).getD i 0=m.getD i 0:=by
 rw[qa,getElem?_set_ne h,qa]
theorem Duo.part {v w:Nat} {Nv Nw:Int} {d:Int} {p:List Tm} (hv:v<8) (ou:v≠w) (h:Duo v w Nv Nw p):Uni w Nw (bn v d p):=fun t ht=>by
 unfold bn at ht;obtain⟨u,hu,rfl⟩:=mem_map.1 ht;obtain⟨a1,a2,a3,a4⟩:=h u (mem_filter.1 hu).1;refine⟨by rw[length_set];exact a1,fun i hi cX=>?_,?_⟩
 .by_cases SI:i=v
  .subst SI;exact lV (by omega)
  show(u.1.set v 0).getD i 0=0;rw[f4 (Ne.symm SI)];exact a2 i hi SI cX
 show 0<=(u.1.set v 0).getD w 0/\(u.1.set v 0).getD w 0<=Nw;rw[f4 ou];exact a4
theorem Duo.prim {v w:Nat} {Nv Nw:Int} {p:List Tm} (hv:v<8) (ou:v≠w) (h:Duo v w Nv Nw p):Duo v w (Nv+1) Nw (a_ v p):=fun t ht=>by
 obtain⟨u,hu,rfl⟩:=mem_map.1 ht;obtain⟨a1,a2,a3,a4⟩:=h u hu;refine⟨by rw[length_set];exact a1,fun i hi h1 h2=>?_,?_,?_⟩
 .show(u.1.set v _).getD i 0=0;rw[f4 (Ne.symm h1)];exact a2 i hi h1 h2
 .show 0<=(u.1.set v _).getD v 0/\(u.1.set v _).getD v 0<=Nv+1;rw[lV (by omega)];omega
 show 0<=(u.1.set v _).getD w 0/\(u.1.set v _).getD w 0<=Nw;rw[f4 ou];exact a4
theorem Duo.deg {v w:Nat} {Nv Nw:Int} {p:List Tm} (hN: -1<=Nv) (h:Duo v w Nv Nw p):lL v p<=Nv:=CL hN (fun t ht=>(h t ht).2.2.1.2)
theorem Duo.parts {v w:Nat} {Nv Nw:Int} {p:List Tm} (hv:v<8) (ou:v≠w) (h:Duo v w Nv Nw p): ∀ c∈eE v p,Uni w Nw c:=fun c hc=>by
 obtain⟨i,_,rfl⟩:=mem_map.1 hc;exact h.part hv ou
theorem FC {w:Nat} (hw:w<8) {q:List Tm} (hq:Uni w 1 q) {N:Int}: ∀ {cs:List (List Tm)},(∀ c∈cs,Uni w N c)->Uni w (N+cs.length) (hornT q cs)
 | [],_=>Uni.nil
 | c::cs,h=>by
  have ih:=FC hw hq (fun c hc=>h c (mem_cons_of_mem _ hc));have e:N+(((c::cs).length:Nat):Int)=N+(cs.length:Int)+1:=by rw[length_cons];omega
  rw[e];exact((ih.prod hw hq).app ((h c (by simp)).mono (by omega))).nf
theorem TI {w:Nat} (_hw:w<8) {a b:Mn} (ha:a.length=8) (hb:b.length=8) (h1: ∀ i,i<8->i≠w->a.getD i 0=0) (h2: ∀ i,i<8->i≠w->b.getD i 0=0) (h:g5 a b=true):a.getD w 0≠b.getD w 0:=fun he=>by
 refine uF h (List.ext_getElem (by omega) (fun i oI iq=>?_));have e:a.getD i 0=b.getD i 0:=by
  by_cases sC:i=w
  .rw[sC];exact he
  rw[h1 i (by omega) sC,h2 i (by omega) sC]
 rw[qa,qb oI,qa,qb iq] at e;exact e
theorem qC: ∀ (N:Nat) (l:List Int),l.Nodup->(∀ x∈l,0<=x/\x<N)->l.length<=N
 | 0,l,_,h=>by
  match l with
  | []=>simp
  | x::l=>have:=h x (by simp);omega
 | N+1,l,hd,h=>by
  by_cases hm:(N:Int)∈l
  .have h1:=qC N (l.erase N) (hd.erase _) (fun x hx=>by
    have h2:=h x (List.mem_of_mem_erase hx);have h3:x≠N:=fun he=>by rw[he] at hx;exact(List.Nodup.not_mem_erase hd) hx
    omega)
   rw[List.length_erase_of_mem hm] at h1;omega
  have h1:=qC N l hd (fun x hx=>by
   have h2:=h x hx;have h3:x≠N:=fun he=>hm (by rw[<-he];exact hx)
   omega)
  omega
theorem wL {w:Nat} (hw:w<8) {N:Nat} {p:List Tm} (hc:Canon p) (h:Uni w N p):p.length<=N+1:=by
 have h1:(p.map (fun t=>t.1.getD w 0)).Nodup:=by
  have:p.Pairwise (fun a b=>(fun t:Tm=>t.1.getD w 0) a≠(fun t:Tm=>t.1.getD w 0) b):=by
   refine List.Pairwise.imp_of_mem (fun{a b} ha hb hg=>?_) hc.sorted;exact TI hw (h a ha).1 (h b hb).1 (h a ha).2.1 (h b hb).2.1 hg
  exact List.pairwise_map.2 this
 have h2:=qC (N+1) _ h1 (fun x hx=>by
  obtain⟨t,ht,rfl⟩:=mem_map.1 hx;have:=(h t ht).2.2;omega)
 rw[length_map] at h2;exact h2
theorem DM.prim {D v F:Nat} (hF:0<F): ∀ {p:List Tm} {M:Nat},DM D p M->(∀ t∈p,0<=t.1.getD v 0/\(t.1.getD v 0+1).toNat∣F)->DM (D*F) (a_ v p) (M*F)
 | [],_,_,_=>trivial
 | t::p,M,⟨z,N,h1,h2,h3⟩,he=>by
  obtain⟨h4,h5⟩:=he t (by simp);obtain⟨g,hg⟩:=h5;obtain⟨e,Oi⟩: ∃ e:Nat,t.1.getD v 0+1=(e:Int):=⟨(t.1.getD v 0+1).toNat,by omega⟩;rw[Oi,Int.toNat_natCast] at hg;have he0:e≠0:=by omega
  have vV:g≠0:=fun h0=>by rw[h0] at hg;omega
  refine⟨z*g,N*F,?_,?_,DM.prim hF h3 (fun u hu=>he u (mem_cons_of_mem _ hu))⟩
  .show t.2 / ((t.1.getD v 0:Rat)+1)=mkRat (z*g) (D*F);rw[mr,Oi,h1,hg];by_cases hD:D=0
   .subst hD;simp;rw[Rat.div_def,Rat.zero_mul]
   have e1:mkRat (z*g) (D*(e*g))=mkRat z (D*e):=by
    rw[show D*(e*g)=(D*e)*g by rw[Nat.mul_assoc]];exact(rP (z:=z) (D:=D*e) vV).symm
   rw[e1];have e2:((e:Int):Rat)≠0:=nt (by omega);have e3:mkRat z D=mkRat z (D*e)*((e:Int):Rat):=by
    rw[show((e:Int):Rat)=mkRat (e:Int) 1 by rw[Rat.mkRat_one],rQ,Nat.mul_one,<-rP he0]
   rw[e3];grind
  have h6:(z*(g:Int)).natAbs=z.natAbs*g:=by rw[Int.natAbs_mul,Int.natAbs_natCast]
  rw[h6];have h7:z.natAbs*g<=z.natAbs*F:=Nat.mul_le_mul_left _ (Nat.le_of_dvd hF ⟨e,by rw[hg,Nat.mul_comm]⟩);have h8:=qn F h2;rw[Nat.add_mul] at h8;omega
theorem PB.prim {k v F:Nat} {p:List Tm} (hF:0<F) (hFB:F<B) (h:PB k p) (he: ∀ t∈p,0<=t.1.getD v 0/\(t.1.getD v 0+1).toNat∣F):PB (k+1) (a_ v p):=by
 obtain⟨D,M,h1,h2,h3,h4⟩:=h;have hp:0<B^k:=JI (by decide);refine⟨D*F,M*F,Nat.mul_pos h1 hF,?_,?_,h4.prim hF he⟩
 .rw[Nat.pow_succ];exact Nat.mul_lt_mul'' h2 hFB
 rw[Nat.pow_succ];exact Nat.mul_lt_mul'' h3 hFB
structure U1 (w N k:Nat) (p:List Tm):Prop where
 can:Canon p
 uni:Uni w N p
 pb:PB k p
theorem PB.flat {k:Nat} (hk:1<=k): ∀ {l:List (List Tm)},(∀ p∈l,PB k p)->PB (l.length*(k+1)+1) l.flatten
 | [],_=>(PB.nil (qp 1)).mono (by simp)
 | p::l,h=>by
  have ih:=PB.flat hk (fun q hq=>h q (mem_cons_of_mem _ hq));refine((h p (by simp)).append ih).mono ?_;rw[length_cons,Nat.add_mul];omega
end Go.Pl
namespace Go.Proofs.YtjjbkjgifdhlcaaGreat
open Go.AM Go.Pl
set_option maxRecDepth 100000
set_option maxHeartbeats 4000000
theorem yo: ∀ {p:List Tm} {t:Tm},Canon p->t∈p->bP t.1 p=t.2
 | x::p,t,h,ht=>by
  rcases List.mem_cons.1 ht with h1 | h1
  .rw[h1];exact h.sum_head
  have cX:=uF (h.head t h1);have ih:=yo h.tail h1;rw[bP,if_neg cX,ih];grind
theorem BS {m:Mn}: ∀ {T:List Tm},(∀ t∈T,t.1=m->t.2=0)->bP m T=0
 | [],_=>rfl
 | t::T,h=>by
  rw[bP,BS (fun u hu=>h u (mem_cons_of_mem _ hu))];by_cases he:t.1=m
  .rw[if_pos he,h t (by simp) he];grind
  rw[if_neg he];grind
theorem js {i j:Nat} (hj:j<8):(z8.set i 1).getD j 0=if i=j then 1 else 0:=by
 by_cases h:i=j
 .subst h;rw[if_pos rfl,lV (by rw[b8];exact hj)]
 rw[if_neg h,f4 h];unfold z8;rw[qa,List.getElem?_replicate];split<;>rfl
theorem qD {j:Nat}:z8.getD j 0=0:=by
 unfold z8;rw[qa,List.getElem?_replicate];split<;>rfl
structure FOk (w j:Nat) (l:List Raw):Prop where
 ok:LOk j l
 one: ∀ i,i<8->i≠w->co l i=0
theorem po (l:List Raw):Canon (d6 l):=cS (fun t ht=>by
 obtain⟨u,hu,rfl⟩:=mem_map.1 ht;unfold gk at hu;rcases List.mem_append.1 hu with h | h
 .obtain⟨j,_,rfl⟩:=mem_map.1 h;show(z8.set j 1).length=8;rw[length_set,b8]
 rw[qz] at h;rw[h];exact b8)
theorem BT {w j:Nat} {l:List Raw} (hw:w<8) (h:FOk w j l):Uni w 1 (d6 l):=fun t ht=>by
 have hc:=po l;have jD:=yo hc ht;have G0:=hc.nz t ht;unfold d6 at jD;rw[rN] at jD;obtain⟨x,hx,he⟩:=jc ht;obtain⟨u,hu,rfl⟩:=mem_map.1 hx;have w5:=hu;unfold gk at hu;rcases List.mem_append.1 hu with h1 | h1
 .obtain⟨i,hi,rfl⟩:=mem_map.1 h1;have uc:=List.mem_range.1 hi;have Hq:t.1=z8.set i 1:=he.symm;by_cases sC:i=w
  .subst sC;rw[Hq];refine⟨by rw[length_set,b8],fun k hk cX=>?_,?_⟩
   .rw[js hk,if_neg (Ne.symm cX)]
   rw[js hw,if_pos rfl];omega
  exfalso;refine G0 ?_;rw[<-jD];refine BS (fun t2 Jh he3=>?_);obtain⟨u2,w5,rfl⟩:=mem_map.1 Jh;unfold gk at w5;have he4:u2.1=z8.set i 1:=by rw[<-Hq];exact he3
  rcases List.mem_append.1 w5 with h5 | h5
  .obtain⟨k,hk,rfl⟩:=mem_map.1 h5;have hk8:=List.mem_range.1 hk;have e5:=congrArg (fun m:List Int=>m.getD i 0) he4;dsimp only at e5;rw[js uc,js uc,if_pos rfl] at e5;by_cases zL:k=i
   .subst zL;exact h.one k hk8 sC
   rw[if_neg zL] at e5;omega
  rw[qz] at h5;subst h5;have e5:=congrArg (fun m:List Int=>m.getD i 0) he4;dsimp only at e5;rw[js uc,if_pos rfl,qD] at e5;omega
 rw[qz] at h1;subst h1;rw[<-he];exact⟨b8,fun k _ _=>qD,by show 0<=z8.getD w 0/\z8.getD w 0<=1;rw[qD];omega⟩
theorem KF {w:Nat} {N:Int} {p:List Tm} (h:Uni w N p) (hN:0<=N): ∀ t∈p,∀ e∈t.1,0<=e/\e<=N:=fun t ht e he=>by
 obtain⟨a1,a2,a3⟩:=h t ht;obtain⟨i,hi,rfl⟩:=mem_iff_getElem.1 he;have e1:t.1.getD i 0=t.1[i]:=by rw[qa,qb hi];rfl
 rw[<-e1];by_cases sC:i=w
 .rw[sC];exact a3
 rw[a2 i (by omega) sC];omega
theorem C3 {v w:Nat} {N M K:Int} {p:List Tm} (h:Duo v w N M p) (hN:N<=K) (hM:M<=K) (hK:0<=K): ∀ t∈p,∀ e∈t.1,0<=e/\e<=K:=fun t ht e he=>by
 obtain⟨a1,a2,a3,a4⟩:=h t ht;obtain⟨i,hi,rfl⟩:=mem_iff_getElem.1 he;have e1:t.1.getD i 0=t.1[i]:=by rw[qa,qb hi];rfl
 rw[<-e1];by_cases sC:i=w
 .rw[sC];omega
 by_cases SI:i=v
 .rw[SI];omega
 rw[a2 i (by omega) SI sC];omega
theorem C4 {w:Nat} {N:Int} {p:List Tm} {j k:Nat} {E:Int} (h:Uni w N p) (hN:0<=N) (hE:N<=E) (hb:PB j p) (hj:1<=j) (hk:j<=k):LOkT k E p:=
 ⟨h.len8,fun t ht=>(hb.bd hj t ht).mono hk,fun t ht e he=>by have:=KF h hN t ht e he;omega⟩
theorem Qe {v w Nv Nw kp kq:Nat} {p q:List Tm} (hv:v<8) (hw:w<8) (ou:v≠w) (_hp:Canon p) (hd:Duo v w Nv Nw p) (hb:PB kp p) (hqc:Canon q) (hq:Uni w 1 q) (Xu:PB kq q) (hN:Nw+Nv<=9) (jG:1<=kp)
 (hk:(Nv+1)*(kq+kp+1)+1+kq<=900000):Ks q (eE v p)/\Uni w ((Nw+Nv+1:Nat):Int) (ff v q p)/\PB ((Nv+1)*(kq+kp+1)+1) (ff v q p):=by
 have Ju:=hd.parts hv ou
 have m4:=xz v p
 have Ny:=hd.deg (by omega)
 have anZ:=wE (v:=v) (p:=p)
 have hpb: ∀ c∈eE v p,PB kp c:=fun c hc=>by
  obtain⟨i,_,rfl⟩:=mem_map.1 hc;exact hb.part
 have aD:(eE v p).length<=Nv+1:=by omega
 have hh: ∀ i,Uni w ((Nw+Nv+1:Nat):Int) (hornT q ((eE v p).drop i))/\PB ((Nv+1)*(kq+kp+1)+1) (hornT q ((eE v p).drop i))/\Canon (hornT q ((eE v p).drop i)):=fun i=>by
  have Lz:((eE v p).drop i).length<=Nv+1:=by rw[qt];omega
  refine⟨(FC hw hq (fun c hc=>Ju c (mem_of_mem_drop hc))).mono (by omega),(J_ Xu (fun c hc=>hpb c (mem_of_mem_drop hc))).mono ?_,oY hqc.len (fun c hc=>(Ju c (mem_of_mem_drop hc)).len8)⟩;have:=qn (kq+kp+1) Lz;omega
 have NL:bH=12:=rfl
 refine⟨⟨fun i=>?_,fun i=>?_,fun c hc=>?_⟩,?_,?_⟩
 .obtain⟨h1,h2,h3⟩:=hh i
  exact⟨C4 h1 (by omega) (by omega) h2 (by omega) (by omega),gI (wL hw h3 h1) (by rw[NL];omega)⟩
 .obtain⟨h1,h2,h3⟩:=hh i
  have h4:=(h1.prod hw hq).nf
  have h5:=(h2.prod Xu).nf
  have e:((Nw+Nv+1:Nat):Int)+1=((Nw+Nv+2:Nat):Int):=by omega
  rw[e] at h4
  exact⟨C4 h4 (by omega) (by omega) h5 (by omega) (by omega),gI (wL hw (cS (Len8.prod h3.len hqc.len)) h4) (by rw[NL];omega)⟩
 .have h1:=Ju c hc
  have h3:Canon c:=by
   obtain⟨i,_,rfl⟩:=mem_map.1 hc;exact oX _hp
  exact⟨C4 h1 (by omega) (by omega) (hpb c hc) jG (by have:=Nat.le_mul_of_pos_left (kq+kp+1) (show 0<Nv+1 by omega);omega),gI (wL hw h3 h1) (by rw[NL];omega)⟩
 .have:=(hh 0).1
  rw[List.drop_zero] at this
  exact this
 have:=(hh 0).2.1
 rw[List.drop_zero] at this
 exact this
theorem Yk {v w Nv Nw kp j F:Nat} {p:List Tm} {lo hi:List Raw} (hv:v<8) (hw:w<8) (ou:v≠w) (hp:Canon p) (hd:Duo v w Nv Nw p) (hb:PB kp p) (m4:p.length<=12) (hF:0<F) (hFB:F<B)
 (U4: ∀ d,1<=d->d<=Nv+1->d∣F) (fR:FOk w j lo) (fL:FOk w j hi) (hj:1<=j) (DW:j<=1000) (hN:Nw+Nv<=8) (jG:1<=kp) (iQ:kp<=400000)
 (K:Nat) (hK:(Nv+2)*(9*(j+1)+1+(kp+1)+1)+1=K) (hK2:K+9*(j+1)+1<=900000):
 Den Tryz.prog 33 [] [PL (p.map tn),.int .i64 v,RL lo,RL hi] [] (.tup [PL ((betT v lo hi p).map tn),.int .i64 0])/\Canon (betT v lo hi p)/\Uni w ((Nw+Nv+2:Nat):Int) (betT v lo hi p)/\PB (2*K+2) (betT v lo hi p):=by
 have NL:bH=12:=rfl
 have Xf: ∀ t∈p,0<=t.1.getD v 0:=fun t ht=>(hd t ht).2.2.1.1
 have G3:=xC (v:=v) hv hp Xf
 have afn:Duo v w ((Nv+1:Nat):Int) Nw (a_ v p):=by
  have:=hd.prim hv ou;rw[show((Nv:Int)+1)=((Nv+1:Nat):Int) by omega] at this;exact this
 have afo:=hb.prim (v:=v) hF hFB (fun t ht=>⟨Xf t ht,U4 _ (by have:=Xf t ht;omega) (by have:=(hd t ht).2.2.1;omega)⟩)
 have uhi:=BT hw fL
 have ulo:=BT hw fR
 have bhi:=tx fL.ok hj
 have blo:=tx fR.ok hj
 have eK:(Nv+1+1)*(9*(j+1)+1+(kp+1)+1)+1=K:=hK
 have s1:=Qe (Nv:=Nv+1) (Nw:=Nw) hv hw ou G3 afn afo (po hi) uhi bhi (by omega) (by omega) (by rw[eK];omega)
 have s2:=Qe (Nv:=Nv+1) (Nw:=Nw) hv hw ou G3 afn afo (po lo) ulo blo (by omega) (by omega) (by rw[eK];omega)
 have eN:((Nw+(Nv+1)+1:Nat):Int)=((Nw+Nv+2:Nat):Int):=by omega
 rw[eN] at s1 s2
 rw[eK] at s1 s2
 have RK:Uni w ((Nw+Nv+2:Nat):Int) (betT v lo hi p):=(s1.2.1.app s2.2.1.scale).nf
 have Vp:PB (2*K+2) (betT v lo hi p):=((s1.2.2.append (s2.2.2.scale (k:=1) ⟨by decide,by decide⟩)).nf).mono (by omega)
 have Vn:Canon (betT v lo hi p):=cS (Len8.app s1.2.1.len8 s2.2.1.scale.len8)
 have afp:=C3 hd (K:=1024) (by omega) (by omega) (by omega)
 have wT:=C4 RK (k:=1000000000) (E:=1000000) (by omega) (by omega) Vp (by omega) (by omega)
 have SJ:POk 900000 1024 p:=⟨hp,fun t ht=>(hb.bd jG t ht).mono (by omega),afp⟩
 have ef:=(SJ.ts (by decide))
 have Cq:nfR (p.map tn)=p:=by unfold nfR;rw[bF,e_ hp]
 have ajO:POk 500000 1024 p:=⟨hp,fun t ht=>(hb.bd jG t ht).mono (by omega),afp⟩
 have h33:=ahR (p.map tn) v hv lo hi (ajO.ts (by decide)) (by rw[length_map];omega) (by rw[Cq];exact SJ) (by rw[Cq,NL];exact m4) SJ.validB (by
  rw[Cq];unfold v_;rw[pR];intro t ht;exact ir (by have:=(hd t ht).2.2.1;omega)) (fR.ok.mono DW) (fL.ok.mono DW) (fR.one v hv ou) (fL.one v hv ou)
  (by rw[Cq];exact s1.1) (by rw[Cq];exact s2.1) (by rw[Cq,NL];exact gI (wL hw Vn RK) (by omega))
  (by rw[Cq];exact(Kt (N:=1024) (by decide) Vn.len).2 (fun t ht x hx=>by have:=KF RK (by omega) t ht x hx;omega)) (by rw[Cq];exact wT)
 rw[Cq] at h33
 exact⟨h33,Vn,RK,Vp⟩
end Go.Proofs.YtjjbkjgifdhlcaaGreat
namespace Go.Pl
open Go.AM
def Two (v w:Nat) (cs:List (List Raw)):Prop:= ∀ l∈cs,∀ i,i<8->i≠v->i≠w->co l i=0
theorem MM {v w:Nat} {cs:List (List Raw)} (h:Two v w cs):bD cs<=2/\(v=w->bD cs<=1):=by
 have key: ∀ w'∈(List.range 8).filter (occ cs),w'=v\/w'=w:=fun w' hw=>by
  rw[mem_filter,List.mem_range] at hw;obtain⟨l,hl,h0⟩:=fh.1 hw.2;by_cases h1:w'=v
  .exact .inl h1
  by_cases h2:w'=w
  .exact .inr h2
  exact absurd (h l hl w' hw.1 h1 h2) h0
 have mb:((List.range 8).filter (occ cs)).Pairwise (fun a b=>a≠b):=List.Pairwise.filter _ List.nodup_range;refine⟨?_,fun he=>?_⟩
 .have:=jO _ [v,w] mb (fun f hf=>by rcases key f hf with h1 | h1<;>simp[h1])
  exact this
 subst he;have:=jO _ [v] mb (fun f hf=>by rcases key f hf with h1 | h1<;>simp[h1])
 exact this
theorem Qf {v w k:Nat} {cs:List (List Raw)} (hk: ∀ l∈cs,LOk k l) (jG:1<=k) (h2:Two v w cs) (aD:cs.length<=100) (hn:((ncs cs).length<=7/\k<=59)\/(v=w/\(ncs cs).length<=12/\k<=499)):D3 cs:=by
 have h9: ∀ l∈cs,l.length=9:=fun l hl=>(hk l hl).len
 have Jm:=iD h9;have h1:=uQ h9 Jm;obtain⟨h3,h3'⟩:=MM h2;have h4:=ny h9 Jm;have hg:GoodT (sysL cs []):=⟨2*k,by omega,SysF.of h9 Jm (fun l hl _=>wG (hk l hl) jG),⟨by omega,fun h=>by omega,fun h=>by
  rcases hn with hn | hn
  .omega
  have:=h3' hn.1;omega,fun h=>by omega⟩⟩
 exact⟨⟨fun l hl=>(hk l hl).mono (by omega),aD,by omega,hg.good,fun l hl _=>(hk l hl).mono (by omega)⟩,hg⟩
theorem r9 {cs:List (List Raw)} (h9: ∀ l∈cs,l.length=9) (hi:aZ cs=true) {f:List Raw} (hf:f∈aU cs): ∃ l∈cs,¬aN l/\f=eL l:=by
 unfold aU at hf;rw[if_pos hi] at hf;exact((iD h9).mem f).1 ((mD _ _ _).subset hf)
theorem C5 {cs:List (List Raw)} (h9: ∀ l∈cs,l.length=9) (hi:aZ cs=true):(aU cs).length<=(ncs cs).length:=by
 unfold aU;rw[if_pos hi];exact gI (mD _ _ _).length_le (ny h9 (iD h9))
theorem nK {v w k:Nat} {cs:List (List Raw)} (hk: ∀ l∈cs,LOk k l) (jG:1<=k) (h2:Two v w cs) (hi:aZ cs=true):(∀ l∈aU cs,LOk (2*k) l)/\Two v w (aU cs)/\ ∀ l∈aU cs,¬aN l:=by
 have h9: ∀ l∈cs,l.length=9:=fun l hl=>(hk l hl).len
 refine⟨fun l hl=>?_,fun l hl i uc hv hw=>?_,fun l hl=>?_⟩<;>obtain⟨x,hx,hc,rfl⟩:=r9 h9 hi hl
 .exact wG (hk x hx) jG
 .exact(CO (h9 x hx) hc (by omega)).2 (h2 x hx i uc hv hw)
 exact rV (h9 x hx) hc
theorem tA {cs:List (List Raw)} (h:D3 cs) (hi:aZ cs=true):aZ (aU cs)=true:=by
 obtain⟨x,hx⟩:=(fk h.cs.len9).1 hi;exact(fk (BL h).cs.len9).2 ⟨x,(jr h x).2 hx⟩
theorem TJ {v w k:Nat} {cs:List (List Raw)} (hv:v<8) (hk: ∀ l∈cs,LOk k l) (jG:1<=k) (h2:Two v w cs):(∀ l∈aR cs v,LOk (2*k+1) l/\ ∀ i,i<8->i≠w->co l i=0)/\ ∀ l∈aE cs v,LOk (2*k+1) l/\ ∀ i,i<8->i≠w->co l i=0:=by
 have key: ∀ x∈cs,co x v≠0-> ∀ i,i<8->i≠w->co (bZ v x) i=0:=fun x hx h0 i hi hw=>by
  have hb:=dA (v:=v) (hk x hx).len h0;rw[hb.2 i (by omega)];by_cases hvi:v=i
  .rw[if_pos hvi]
  rw[if_neg hvi,h2 x hx i hi (Ne.symm hvi) hw];grind
 refine⟨fun l hl=>⟨CQ hk jG l hl,?_⟩,fun l hl=>⟨wI hk jG l hl,?_⟩⟩
 .obtain⟨x,hx,h0,rfl⟩:=fj.1 hl;exact key x hx (fun he=>by rw[he] at h0;exact absurd h0 (by decide))
 obtain⟨x,hx,h0,rfl⟩:=ea.1 hl;exact key x hx (fun he=>by rw[he] at h0;exact absurd h0 (by decide))
theorem yp {w:Nat} {u l:List Raw} (hu:u.length=9) (hl:l.length=9) (h1: ∀ i,i<8->i≠w->co u i=0) (h2: ∀ i,i<8->i≠w->co l i=0): ∀ i,i<8->i≠w->co (cB u l) i=0:=fun i hi hw=>by
 rw[nv hu hl (by omega),h1 i hi hw,h2 i hi hw];grind
theorem Qg {v w u:Nat} {cs:List (List Raw)} (h2:Two v w cs) (hu:u<8) (hv:u≠v) (hw:u≠w):aR cs u=[]/\aE cs u=[]:=by
 constructor
 .unfold aR;rw[hG (fun l hl=>by rw[h2 l hl u hu hv hw];rfl)];rfl
 unfold aE;rw[hG (fun l hl=>by rw[h2 l hl u hu hv hw];rfl)];rfl
theorem KG {v w:Nat} (hv:v<8) (hw:w<8) {Nv Nw:Nat} {p:List Tm} (hc:Canon p) (h:Duo v w Nv Nw p):p.length<=(Nv+1)*(Nw+1):=by
 obtain⟨f,hf⟩: ∃ f:Tm->Int,f=fun t=>t.1.getD v 0*((Nw:Int)+1)+t.1.getD w 0:=⟨_,rfl⟩
 have h1:(p.map f).Nodup:=by
  have:p.Pairwise (fun a b=>f a≠f b):=by
   refine List.Pairwise.imp_of_mem (fun{a b} ha hb hg he=>?_) hc.sorted;obtain⟨a1,a2,a3,a4⟩:=h a ha;obtain⟨b1,b2,b3,b4⟩:=h b hb;rw[hf] at he;dsimp only at he;have hvv:a.1.getD v 0=b.1.getD v 0:=by
    obtain⟨x,hx⟩:=Hg (a.1.getD v 0);obtain⟨y,hy⟩: ∃ x,b.1.getD v 0=x:=⟨_,rfl⟩;obtain⟨s,hs⟩: ∃ x,a.1.getD w 0=x:=⟨_,rfl⟩;obtain⟨t,ht⟩: ∃ x,b.1.getD w 0=x:=⟨_,rfl⟩;rw[hx,hy,hs,ht] at he;rw[hx,hy];rw[hs] at a4;rw[ht] at b4;rcases Int.lt_trichotomy x y with h5 | h5 | h5
    .have:(x+1)*((Nw:Int)+1)<=y*((Nw:Int)+1):=Int.mul_le_mul_of_nonneg_right (by omega) (by omega);rw[Int.add_mul] at this;omega
    .exact h5
    have:(y+1)*((Nw:Int)+1)<=x*((Nw:Int)+1):=Int.mul_le_mul_of_nonneg_right (by omega) (by omega);rw[Int.add_mul] at this;omega
   have hww:a.1.getD w 0=b.1.getD w 0:=by rw[hvv] at he;omega
   refine uF hg (List.ext_getElem (by omega) (fun i oI iq=>?_));have e:a.1.getD i 0=b.1.getD i 0:=by
    by_cases SI:i=v
    .rw[SI];exact hvv
    by_cases sC:i=w
    .rw[sC];exact hww
    rw[a2 i (by omega) SI sC,b2 i (by omega) SI sC]
   rw[qa,qb oI,qa,qb iq] at e;exact e
  exact List.pairwise_map.2 this
 have h2:=qC ((Nv+1)*(Nw+1)) _ h1 (fun x hx=>by
  obtain⟨t,ht,rfl⟩:=mem_map.1 hx;obtain⟨_,_,b3,b4⟩:=h t ht;rw[hf];dsimp only;have e1:0<=t.1.getD v 0*((Nw:Int)+1):=Int.mul_nonneg b3.1 (by omega);have e2:t.1.getD v 0*((Nw:Int)+1)<=(Nv:Int)*((Nw:Int)+1):=Int.mul_le_mul_of_nonneg_right b3.2 (by omega);have e3:(((Nv+1)*(Nw+1):Nat):Int)=(Nv:Int)*((Nw:Int)+1)+((Nw:Int)+1):=by
   rw[Int.natCast_mul];show((Nv:Int)+1)*((Nw:Int)+1)=_;rw[Int.add_mul,Int.one_mul]
  omega)
 rw[length_map] at h2;exact h2
theorem Duo.nf {v w:Nat} {N M:Int} {p:List Tm} (h:Duo v w N M p):Duo v w N M (Go.Pl.nf p):=fun t ht=>by
 obtain⟨x,hx,he⟩:=jc ht;rw[<-he];exact h x hx
theorem Uni.duo {v w:Nat} {N:Int} {p:List Tm} (h:Uni v N p) (hw:w<8) (ou:w≠v):Duo v w N 0 p:=fun t ht=>by
 obtain⟨a1,a2,a3⟩:=h t ht;exact⟨a1,fun i hi h1 _=>a2 i hi h1,a3,by rw[a2 w hw ou];omega⟩
theorem Duo.flat {v w:Nat} {N M:Int} {l:List RC} (h: ∀ r∈l,Duo v w N M r.2):Duo v w N M (l.flatMap (·.2)):=fun t ht=>by
 obtain⟨r,hr,h1⟩:=List.mem_flatMap.1 ht;exact h r hr t h1
theorem PB.flatR {k c:Nat} (hk:1<=k) {l:List RC} (h: ∀ r∈l,PB k r.2) (hc:l.length<=c):PB (c*(k+1)+1) (l.flatMap (·.2)):=by
 have:=PB.flat hk (l:=l.map (·.2)) (fun p hp=>by
  obtain⟨r,hr,rfl⟩:=mem_map.1 hp;exact h r hr)
 rw[length_map,<-List.flatMap_def] at this;exact this.mono (by have:=qn (k+1) hc;omega)
theorem yq {l:List RC} (hl:RcOk l) {r:RC} (hr:r∈oC l):r.2=polyS' (l.filter (fun x=>decide (x.1=r.1)))/\ ∃ x∈l,x.1=r.1:=by
 have Cq:=tj hl;have hk:=Cq.cn r hr;have gR:RcOk (l.filter (fun x=>decide (x.1=r.1))):=fun x hx=>hl x (mem_filter.1 hx).1
 have fF: ∀ {M:List RC},NF M->r∈M-> ∀ m,db r.1 m M=bP m r.2:=fun{M}=>by
  induction M with
  | nil=>intro _ h;simp at h
  | cons x M ih=>
   intro hM h m;rcases List.mem_cons.1 h with h1 | h1
   .rw[h1];exact hM.own
   have aH:=hM.head r h1;have cX:x.1≠r.1:=fun he=>by rw[he,mF] at aH;omega
   rw[db,if_neg cX,ih hM.tail h1 m];grind
 have afq: ∀ m,db r.1 m l=bP m ((l.filter (fun x=>decide (x.1=r.1))).flatMap (·.2)):=fun m=>by
  clear hl hr Cq gR fF
  induction l with
  | nil=>rfl
  | cons x l ih=>
   rw[db,ih];by_cases he:x.1=r.1
   .rw[if_pos he,List.filter_cons_of_pos (by simpa using he),List.flatMap_cons,fZ]
   rw[if_neg he,filter_cons_of_neg (by simpa using he)];grind
 refine⟨ku (Cq.can r hr) (cS gR.flat) (fun m=>?_),?_⟩
 .unfold polyS';rw[rN,<-afq,<-tm hl,fF Cq hr]
 obtain⟨m,hm⟩:=kD (Cq.can r hr) (Cq.ne r hr);rw[<-fF Cq hr,tm hl,afq] at hm;cases hf:l.filter (fun x=>decide (x.1=r.1)) with
 | nil=>rw[hf] at hm;exact absurd rfl hm
 | cons x t=>
  have:x∈l.filter (fun x=>decide (x.1=r.1)):=by rw[hf];simp
  rw[mem_filter] at this;exact⟨x,this.1,by simpa using this.2⟩
end Go.Pl
namespace Go.Proofs.YtjjbkjgifdhlcaaGreat
open Go.AM Go.Pl
set_option maxRecDepth 100000
set_option maxHeartbeats 4000000
structure RgQ (v w Nv Nw j kp n:Nat) (r:RC):Prop where
 ok: ∀ l∈r.1,LOk j l
 two:Two v w r.1
 len:r.1.length<=40
 ncl:(ncs r.1).length<=n
 can:Canon r.2
 duo:Duo v w Nv Nw r.2
 pb:PB kp r.2
 alt:(n<=7/\j<=59)\/(Two v v r.1/\n<=12/\j<=499)
structure iS (v w Nv Nw j kp n c:Nat):Prop where
 hv:v<8
 hw:w<8
 j1:1<=j
 k1:1<=kp
 box:(Nv+1)*(Nw+1)<=12
 nle:Nv<=100/\Nw<=100
 few:c<20
 pk:c*(kp+1)+1<=10000000
noncomputable def nrmL (l:List RC):List RC:=oC ((l.filter (fun r=>aZ r.1)).map (fun r=>(aU r.1,r.2)))
theorem u5 {p:List Tm} (h:Canon p):nfR (p.map tn)=p:=by unfold nfR;rw[bF,e_ h]
theorem RgQ.cst {v w Nv Nw j kp n c:Nat} {r:RC} (h:RgQ v w Nv Nw j kp n r) (s:iS v w Nv Nw j kp n c):D3 r.1:=by
 have h0:=h.len;have:=h.ncl;rcases h.alt with h1 | h1
 .exact Qf h.ok s.j1 h.two (by omega) (.inl (by omega))
 exact Qf h.ok s.j1 h1.1 (by omega) (.inr ⟨rfl,by omega,h1.2.2⟩)
theorem RgQ.pok {v w Nv Nw j kp n c:Nat} {r:RC} (h:RgQ v w Nv Nw j kp n r) (s:iS v w Nv Nw j kp n c) (hc:1<=c):POk 10000000 1024 r.2/\r.2.length<=12:=by
 have h1:=s.pk;have h2:=Nat.le_mul_of_pos_left (kp+1) (show 0<c by omega);have h3:=s.nle;exact⟨⟨h.can,fun t ht=>(h.pb.bd s.k1 t ht).mono (by omega),C3 h.duo (by omega) (by omega) (by omega)⟩,gI (KG s.hv s.hw h.can h.duo) s.box⟩
theorem yr {v w Nv Nw j kp n c:Nat} (s:iS v w Nv Nw j kp n c) {t:List RC} (h: ∀ r∈t,Canon r.2/\Duo v w Nv Nw r.2/\PB kp r.2) (hc:t.length<=c):
 Canon (polyS' t)/\Duo v w Nv Nw (polyS' t)/\PB (c*(kp+1)+1) (polyS' t)/\POk 10000000 1024 (polyS' t)/\(polyS' t).length<=12:=by
 have hd:Duo v w Nv Nw (polyS' t):=(Duo.flat (fun r hr=>(h r hr).2.1)).nf
 have ug:Canon (polyS' t):=cS (Duo.flat (fun r hr=>(h r hr).2.1)).len8
 have hb:PB (c*(kp+1)+1) (polyS' t):=(PB.flatR s.k1 (fun r hr=>(h r hr).2.2) hc).nf
 have h3:=s.nle
 exact⟨ug,hd,hb,⟨ug,fun t ht=>(hb.bd (by omega) t ht).mono s.pk,C3 hd (by omega) (by omega) (by omega)⟩,gI (KG s.hv s.hw ug hd) s.box⟩
theorem jt {l:List RC} (hc: ∀ r∈l,Canon r.2):normL (l.map rn)=(l.filter (fun r=>aZ r.1&&!r.2.isEmpty)).map (fun r=>(aU r.1,r.2)):=by
 unfold normL
 induction l with
 | nil=>rfl
 | cons r l ih=>
  have ih:=ih (fun x hx=>hc x (mem_cons_of_mem _ hx));have hr:nfR ((rn r).2)=r.2:=u5 (hc r (by simp));have hk:mH (rn r)=(aZ r.1&&!r.2.isEmpty):=by unfold mH;rw[hr];rfl
  rw[map_cons];cases hb:(aZ r.1&&!r.2.isEmpty) with
  | false=>rw[filter_cons_of_neg (by rw[hk,hb];decide),filter_cons_of_neg (by simp only[hb];decide),ih]
  | true=>
   rw[List.filter_cons_of_pos (by rw[hk,hb]),List.filter_cons_of_pos (by simp only[hb]),map_cons,map_cons,ih,hr];rfl
theorem tB {l:List RC} (hc: ∀ r∈l,Canon r.2/\D3 r.1):RcOk (normL (l.map rn))/\oC (normL (l.map rn))=nrmL l:=by
 have ug: ∀ r∈l,CnK (aU r.1):=fun r hr f hf=>((TG (hc r hr).2).1 f hf).1
 have h1:RcOk (normL (l.map rn)):=fun x hx=>by
  rw[jt (fun r hr=>(hc r hr).1)] at hx;obtain⟨r,hr,rfl⟩:=mem_map.1 hx;have:=(mem_filter.1 hr).1;exact⟨ug r this,(hc r this).1⟩
 refine⟨h1,Ig h1 (fun x hx=>by
  obtain⟨r,hr,rfl⟩:=mem_map.1 hx;have:=(mem_filter.1 hr).1;exact⟨ug r this,(hc r this).1⟩) (fun k m _=>?_)⟩
 rw[jt (fun r hr=>(hc r hr).1)];clear h1 ug
 induction l with
 | nil=>rfl
 | cons r l ih=>
  have ih:=ih (fun x hx=>hc x (mem_cons_of_mem _ hx));cases hb:aZ r.1 with
  | false=>rw[filter_cons_of_neg (by simp[hb]),filter_cons_of_neg (by simp[hb]),ih]
  | true=>
   rw[List.filter_cons_of_pos (p:=fun r:RC=>aZ r.1) (by simp[hb]),map_cons,db,<-ih];by_cases he:r.2=[]
   .rw[filter_cons_of_neg (by simp[he])];dsimp only;rw[he];simp[bP];grind
   rw[List.filter_cons_of_pos (by simp[hb,he]),map_cons,db]
theorem WW {v w Nv Nw j kp n c:Nat} {l:List RC} (s:iS v w Nv Nw j kp n c) (h: ∀ r∈l,RgQ v w Nv Nw j kp n r) (hc:l.length<=c):Il (l.map rn):=by
 have fC: ∀ x∈l.map rn,∃ r∈l,x=rn r:=fun x hx=>by
  obtain⟨r,hr,rfl⟩:=mem_map.1 hx;exact⟨r,hr,rfl⟩
 have SJ: ∀ r∈l,POk 10000000 1024 r.2/\r.2.length<=12:=fun r hr=>(h r hr).pok s (by have:=length_pos_of_mem hr;omega)
 have an1:=s.pk;have VA:=s.few;have iQ: ∀ r∈l,kp<=10000000:=fun r hr=>by
  have:=length_pos_of_mem hr;have:=Nat.le_mul_of_pos_left (kp+1) (show 0<c by omega);omega
 refine⟨fun x hx=>?_,fun x hx=>?_,fun x hx _=>?_,by rw[length_map];omega,fun x hx=>?_,?_,fun t u ht=>?_⟩
 .obtain⟨r,hr,rfl⟩:=fC x hx;have hk:=SJ r hr;exact⟨fun t ht=>(hk.1.ts (by decide) t ht).mono (by decide),by
   show PB _ ((r.2.map tn).map tq);rw[bF];exact(h r hr).pb.mono (by have:=iQ r hr;omega),by
   show(r.2.map tn).length<=_;rw[length_map];omega,by
   show(nfR (r.2.map tn)).length<=_;rw[u5 hk.1.canon];exact hk.2⟩
 .obtain⟨r,hr,rfl⟩:=fC x hx;exact(SJ r hr).1.validB
 .obtain⟨r,hr,rfl⟩:=fC x hx;exact(h r hr).cst s
 .obtain⟨r,hr,rfl⟩:=fC x hx;have:r.1.length<=40:=(h r hr).len;show r.1.length<=_;omega
 .unfold normL;rw[length_map];exact Hw (List.length_filter_le _ _) (by rw[length_map];omega)
 have bm: ∀ x∈t,∃ r∈l,x.2=r.2:=fun x hx=>by
  have:x∈normL (l.map rn):=ht.mem_iff.1 (List.mem_append_left _ hx);rw[jt (fun r hr=>(h r hr).can)] at this;obtain⟨r,hr,rfl⟩:=mem_map.1 this;exact⟨r,(mem_filter.1 hr).1,rfl⟩
 have aD:t.length<=c:=by
  have:=ht.length_eq;rw[qe,jt (fun r hr=>(h r hr).can),length_map] at this;have h9:=List.length_filter_le (fun r:RC=>aZ r.1&&!r.2.isEmpty) l;omega
 have:=yr s (t:=t) (fun x hx=>by
  obtain⟨r,hr,he⟩:=bm x hx;rw[he];exact⟨(h r hr).can,(h r hr).duo,(h r hr).pb⟩) aD
 exact⟨this.2.2.2.1,this.2.2.2.2⟩
theorem Qh {l:List RC} (hc:l.length<=4000) (h: ∀ r∈l,r.1.length<=40) (hv: ∀ r∈l,POk 10000000 1024 r.2):qO [l.map rn]=0:=by
 have h1:f3 (l.map rn)=false:=by
  unfold f3;rw[Bool.or_eq_false_iff];refine⟨m5 (by rw[length_map];omega),?_⟩;rw[List.any_eq_false];intro x hx;obtain⟨r,hr,rfl⟩:=mem_map.1 hx;have:r.1.length<=40:=h r hr;have e:(rn r).1.length=r.1.length:=rfl;simp[iE,e];omega
 have h2:kE (l.map rn)=true:=by
  unfold kE;rw[pR];intro x hx;obtain⟨r,hr,rfl⟩:=mem_map.1 hx;exact(hv r hr).validB
 unfold qO;rw[if_neg (by simp[h1]),if_pos (by simp[h2])]
theorem kF {v w Nv Nw j kp n c:Nat} {l:List RC} (s:iS v w Nv Nw j kp n c) (h: ∀ r∈l,RgQ v w Nv Nw j kp n r) (hc:l.length<=c):
 Den Tryz.prog 90 [] [RL' (l.map rn)] [] (.tup [RL' ((nrmL l).map rn),.int .i64 0]):=by
 have SA:=WW s h hc
 have VA:=s.few
 have hz:=Qh (l:=l) (by omega) (fun r hr=>(h r hr).len) (fun r hr=>((h r hr).pok s (by have:=length_pos_of_mem hr;omega)).1)
 have:=ads (l.map rn) SA.len SA.pg SA.lim (fun _=>SA)
 unfold TH at this
 rw[if_pos hz,(tB (fun r hr=>⟨(h r hr).can,(h r hr).cst s⟩)).2] at this
 exact this
structure RgV (v w Nv Nw j kp n:Nat) (r:RC):Prop where
 q:RgQ v w Nv Nw j kp n r
 idem:aU r.1=r.1
 inn:aZ r.1=true
 len:r.1.length<=n
theorem C6 {v w Nv Nw j kp n c:Nat} {l:List RC} (s:iS v w Nv Nw j kp n c) (h: ∀ r∈l,RgQ v w Nv Nw j kp n r) (DW: ∀ r∈l,(n<=7/\2*j<=59)\/(Two v v r.1/\n<=12/\2*j<=499)) (hc:l.length<=c):
 NF (nrmL l)/\(nrmL l).length<=c/\ ∀ r∈nrmL l,RgV v w Nv Nw (2*j) (c*(kp+1)+1) n r:=by
 obtain⟨h1,h2⟩:=tB (l:=l) (fun r hr=>⟨(h r hr).can,(h r hr).cst s⟩)
 rw[<-h2]
 have lB:(normL (l.map rn)).length<=c:=by
  rw[jt (fun r hr=>(h r hr).can),length_map];exact gI (List.length_filter_le _ _) hc
 refine⟨tj h1,?_,fun r hr=>?_⟩
 .have:=yc (normL (l.map rn)) []
  unfold oC
  rw[length_nil,Nat.zero_add] at this
  omega
 obtain⟨e1,x,hx,e2⟩:=yq h1 hr
 have bm: ∀ y∈normL (l.map rn),∃ z∈l,aZ z.1=true/\y=(aU z.1,z.2):=fun y hy=>by
  rw[jt (fun r hr=>(h r hr).can)] at hy;obtain⟨z,hz,rfl⟩:=mem_map.1 hy;have DV:=mem_filter.1 hz;exact⟨z,DV.1,(w8 _ _ ▸ DV.2).1,rfl⟩
 obtain⟨z,hz,gF,rfl⟩:=bm x hx
 have hz':=h z hz
 have eR:=hz'.cst s
 have h9:=eR.cs.len9
 have m4:=yr s (t:=(normL (l.map rn)).filter (fun x=>decide (x.1=r.1))) (fun y hy=>by
  obtain⟨z,hz,_,rfl⟩:=bm y (mem_filter.1 hy).1;exact⟨(h z hz).can,(h z hz).duo,(h z hz).pb⟩) (gI (List.length_filter_le _ _) lB)
 rw[<-e1] at m4
 obtain⟨c1,c2,c3⟩:=nK hz'.ok s.j1 hz'.two gF
 have hsh:=C5 h9 gF
 have hq:=Ie eR
 have an2:=hz'.ncl
 dsimp only at e2
 refine⟨⟨?_,?_,?_,?_,m4.1,m4.2.1,m4.2.2.1,?_⟩,?_,?_,?_⟩
 .rw[<-e2];exact c1
 .rw[<-e2];exact c2
 .rw[<-e2];exact hq
 .rw[<-e2];exact gI (lQ _) (by omega)
 .rw[<-e2]
  rcases DW z hz with h5 | h5
  .exact .inl h5
  exact .inr ⟨(nK hz'.ok s.j1 h5.1 gF).2.1,h5.2⟩
 .rw[<-e2];exact vI eR
 .rw[<-e2];exact tA eR gF
 rw[<-e2];omega
theorem yt {v w Nv Nw j kp n:Nat} {M:List RC} (hM:NF M) (h: ∀ r∈M,RgV v w Nv Nw j kp n r):nrmL M=M:=by
 unfold nrmL;rw[rX (fun r hr=>(h r hr).inn)];have:M.map (fun r=>(aU r.1,r.2))=M:=by
  conv=>rhs;rw[<-List.map_id M]
  refine List.map_congr_left (fun r hr=>?_);rw[(h r hr).idem];rfl
 rw[this,hM.self]
theorem KH {f:List Raw->List Raw} {l:List (List Raw)} {i:Nat} {x:List Raw} (h:x∈lU f l i l.length): ∃ o∈l,x=f o:=by
 unfold lU at h;obtain⟨k,hk,rfl⟩:=mem_map.1 h;exact⟨_,qw (d:=[]) (List.mem_range.1 (mem_filter.1 hk).1),rfl⟩
theorem FD (f:List Raw->List Raw) (l:List (List Raw)) {i:Nat} (hi:i<l.length):(lU f l i l.length).length+1<=l.length:=by
 have key: ∀ n,i<n->(lU f l i n).length+1<=n:=fun n=>by
  induction n with
  | zero=>intro h;omega
  | succ n ih=>
   intro h;by_cases hn:n=i
   .subst hn;have:=C1 f l n n;rw[Im];omega
   have:=ih (by omega);rw[Io f l hn,qe,Hv];omega
 exact key _ hi
theorem Qi {rest lo hi:List (List Raw)} {p:List Tm} {v:Nat} {x:RC} (h:x∈ph rest lo hi p v lo.length):
 ∃ i j,i<lo.length/\j<hi.length/\gq (hi.getD j []) (lo.getD i [])=false/\x=(iG rest lo hi i j,betT v (lo.getD i []) (hi.getD j []) p):=by
 unfold ph at h
 obtain⟨i,oI,h⟩:=List.mem_flatMap.1 h
 unfold oc at h
 obtain⟨j,Ss,h⟩:=List.mem_flatMap.1 h
 split at h
 .simp at h
 next hs=>exact⟨i,j,List.mem_range.1 oI,List.mem_range.1 Ss,by simpa using hs,by simpa using h⟩
structure Yl (Nv Nw j kp n K F:Nat):Prop where
 F0:0<F
 FB:F<B
 dv: ∀ d,1<=d->d<=Nv+1->d∣F
 N8:Nw+Nv<=8
 kp2:kp<=400000
 hK:(Nv+2)*(9*((2*j+1)+1)+1+(kp+1)+1)+1=K
 hK2:K+9*((2*j+1)+1)+1<=900000
 j2:j<=249
 n7:n<=40
theorem i6 {v w Nv Nw j kp n c K F:Nat} {r:RC} (s:iS v w Nv Nw j kp n c) (ou:v≠w) (t:Yl Nv Nw j kp n K F) (h:RgV v w Nv Nw j kp n r) (zM:r.2.length<=12):
 pj r.1 r.2 v/\ ∀ x∈gM r.1 r.2 v,(∀ l∈x.1,LOk (4*j+4) l)/\Two w w x.1/\x.1.length<=n/\Canon x.2/\Uni w ((Nw+Nv+2:Nat):Int) x.2/\PB (2*K+2) x.2:=by
 have DW:=t.j2
 have Ss:=s.j1
 obtain⟨hl,hh⟩:=TJ s.hv h.q.ok s.j1 h.q.two
 have Js: ∀ l∈aR r.1 v,∀ u∈aE r.1 v,_:=fun l Xn u Jv=>
  Yk (p:=r.2) s.hv s.hw ou h.q.can h.q.duo h.q.pb zM t.F0 t.FB t.dv (⟨(hl l Xn).1,(hl l Xn).2⟩:FOk w (2*j+1) l) (⟨(hh u Jv).1,(hh u Jv).2⟩:FOk w (2*j+1) u) (by omega) (by omega) t.N8 s.k1 t.kp2 K t.hK t.hK2
 refine⟨⟨s.hv,fun l hl=>(h.q.ok l hl).mono (by omega),h.q.len,fun l Xn u Jv _=>(Js l Xn u Jv).1⟩,fun x hx=>?_⟩
 unfold gM at hx
 obtain⟨i,k,hi,hk,_,rfl⟩:=Qi hx
 have ml:=bI (ls:=aR r.1 v) hi
 have mu:=bI (ls:=aE r.1 v) hk
 have Om:=hl _ ml
 have hux:=hh _ mu
 have hb:=Js _ ml _ mu
 have hsp:=da r.1 v
 have hrl:=h.len
 have R4: ∀ a b:List Raw,LOk (2*j+1) a->LOk (2*j+1) b->LOk (4*j+4) (cB a b):=fun a b ha hb=>(wH ha hb (by omega)).mono (by omega)
 have key: ∀ f∈iG (d5 r.1 v) (aR r.1 v) (aE r.1 v) i k,LOk (4*j+4) f/\ ∀ i,i<8->i≠w->co f i=0:=fun f hf=>by
  unfold iG at hf;rcases List.mem_append.1 hf with hf | hf
  .rcases List.mem_append.1 hf with hf | hf
   .rcases List.mem_append.1 hf with hf | hf
    .obtain⟨h1,h2⟩:=iC.1 hf;refine⟨(h.q.ok f h1).mono (by omega),fun q hq cX=>?_⟩;by_cases Ln:q=v
     .rw[Ln];exact h2
     exact h.q.two f h1 q hq Ln cX
    rw[qz] at hf;subst hf;exact⟨R4 _ _ hux.1 Om.1,yp hux.1.len Om.1.len hux.2 Om.2⟩
   obtain⟨o,ho,rfl⟩:=KH hf;have:=hl o ho;exact⟨R4 _ _ Om.1 this.1,yp Om.1.len this.1.len Om.2 this.2⟩
  obtain⟨o,ho,rfl⟩:=KH hf;have:=hh o ho;exact⟨R4 _ _ this.1 hux.1,yp this.1.len hux.1.len this.2 hux.2⟩
 refine⟨fun l hl=>(key l hl).1,fun l hl i hi cX _=>(key l hl).2 i hi cX,?_,hb.2.1,hb.2.2.1,hb.2.2.2⟩
 have o1:=FD (cB ((aR r.1 v).getD i [])) (aR r.1 v) hi
 have o2:=FD (fun o=>cB o ((aE r.1 v).getD k [])) (aE r.1 v) hk
 show(iG _ _ _ i k).length<=n
 unfold iG
 rw[qe,qe,qe,Hv]
 omega
theorem Ym {a b n m:Nat} (h:a+b<=n) (hn:n<=6) (hm:9<=m):a*b<=m:=by
 have:a<=6:=by omega
 have:a=0\/a=1\/a=2\/a=3\/a=4\/a=5\/a=6:=by omega
 rcases this with rfl | rfl | rfl | rfl | rfl | rfl | rfl<;>omega
theorem tC {v q:Nat}: ∀ {M:List RC},(∀ r∈M,(gM r.1 r.2 v).length<=q)->(elimO M v).length<=M.length*q
 | [],_=>by simp[elimO]
 | r::M,h=>by
  have ih:=tC (v:=v) (q:=q) (M:=M) (fun x hx=>h x (mem_cons_of_mem _ hx));have h1:=h r (by simp);unfold elimO at ih ⊢;rw[List.flatMap_cons,qe,length_cons,Nat.add_mul];omega
theorem yu (c:Kc) (p:List Tm) (v:Nat):(gM c p v).length<=(aR c v).length*(aE c v).length:=uZ _ _ _ _ _ _
theorem FE {v w Nv Nw j kp n c:Nat} {r:RC} (s:iS v w Nv Nw j kp n c) (h:RgV v w Nv Nw j kp n r) (h1:Two v v r.1):(aR r.1 v).length<=1/\(aE r.1 v).length<=1:=by
 have eR:=h.q.cst s;have he:r.1=xZ (sysL r.1 []):=by
  have:=h.idem;unfold aU at this;rw[h.inn,if_pos rfl] at this;exact this.symm
 have:=Ib (s:=xZ (sysL r.1 [])) s.hv (i5 eR.good) (x9 eR.good) (fun w hw cX=>by
  rw[<-he];cases ho:occ r.1 w with
  | false=>rfl
  | true=>
   obtain⟨l,hl,h0⟩:=fh.1 ho;exact absurd (h1 l hl w hw cX cX) h0)
 rw[<-he] at this;unfold Yc PM at this;rw[length_map,length_map] at this;exact this
noncomputable def iH (M:List RC) (v:Int):Int×List RC:=
 if v<0\/8<=v then(1,[]) else if M.any (missB v.toNat)=true then(15,[]) else(0,nrmL (elimO M v.toNat))
theorem FF {v w Nv Nw j kp n c:Nat} {l:List RC} (s:iS v w Nv Nw j kp n c) (h: ∀ r∈l,RgQ v w Nv Nw j kp n r) (hc:l.length<=c):
 NF (nrmL l)/\(nrmL l).length<=c/\ ∀ r∈nrmL l,(∃ z∈l,aZ z.1=true/\r.1=aU z.1)/\POk 10000000 1024 r.2/\r.2.length<=12/\Duo v w Nv Nw r.2/\PB (c*(kp+1)+1) r.2:=by
 obtain⟨h1,h2⟩:=tB (l:=l) (fun r hr=>⟨(h r hr).can,(h r hr).cst s⟩)
 rw[<-h2]
 have lB:(normL (l.map rn)).length<=c:=by
  rw[jt (fun r hr=>(h r hr).can),length_map];exact gI (List.length_filter_le _ _) hc
 refine⟨tj h1,?_,fun r hr=>?_⟩
 .have:=yc (normL (l.map rn)) []
  unfold oC
  rw[length_nil,Nat.zero_add] at this
  omega
 obtain⟨e1,x,hx,e2⟩:=yq h1 hr
 have bm: ∀ y∈normL (l.map rn),∃ z∈l,aZ z.1=true/\y=(aU z.1,z.2):=fun y hy=>by
  rw[jt (fun r hr=>(h r hr).can)] at hy;obtain⟨z,hz,rfl⟩:=mem_map.1 hy;have DV:=mem_filter.1 hz;exact⟨z,DV.1,(w8 _ _ ▸ DV.2).1,rfl⟩
 obtain⟨z,hz,gF,rfl⟩:=bm x hx
 have m4:=yr s (t:=(normL (l.map rn)).filter (fun x=>decide (x.1=r.1))) (fun y hy=>by
  obtain⟨z,hz,_,rfl⟩:=bm y (mem_filter.1 hy).1;exact⟨(h z hz).can,(h z hz).duo,(h z hz).pb⟩) (gI (List.length_filter_le _ _) lB)
 rw[<-e1] at m4
 exact⟨⟨z,hz,gF,e2.symm⟩,m4.2.2.2.1,m4.2.2.2.2,m4.2.1,m4.2.2.1⟩
theorem BU:aZ []=true:=(fk (by simp)).2 ⟨fun _=>0,fun l hl=>by simp at hl⟩
theorem Iq:aU []=[]:=by
 unfold aU;rw[BU];rfl
theorem FG:nrmL []=[]:=rfl
theorem BV (v:Nat):elimO [] v=[]:=rfl
structure IA (v w:Nat) (M:List RC):Prop where
 nf:NF M
 len:M.length<=2
 rg: ∀ r∈M,RgV v w 2 2 8 25 6 r
structure IB (v w:Nat) (M:List RC):Prop where
 nf:NF M
 len:M.length<=18
 rg: ∀ r∈M,RgV v w 6 0 72 27451 6 r/\Two v v r.1
structure IC (M:List RC):Prop where
 nf:NF M
 len:M.length<=1
 rg: ∀ r∈M,r.1=[]/\POk 10000000 1024 r.2/\r.2.length<=12
 den:Den Tryz.prog 90 [] [RL' (M.map rn)] [] (.tup [RL' (M.map rn),.int .i64 0])
theorem rh {v w:Nat} (hv:v<8) (hw:w<8):iS v w 2 2 8 25 6 2:=⟨hv,hw,by decide,by decide,by decide,by decide,by decide,by decide⟩
theorem yv {v w:Nat} (hv:v<8) (hw:w<8):iS v w 6 0 36 1524 6 18:=⟨hv,hw,by decide,by decide,by decide,by decide,by decide,by decide⟩
theorem od {v w:Nat} (hv:v<8) (hw:w<8):iS v w 6 0 72 27451 6 18:=⟨hv,hw,by decide,by decide,by decide,by decide,by decide,by decide⟩
theorem yw {v w:Nat} (hv:v<8) (hw:w<8):iS v w 8 0 292 460292 6 18:=⟨hv,hw,by decide,by decide,by decide,by decide,by decide,by decide⟩
theorem adw {v w:Nat} (hv:v<8) (hw:w<8):iS v w 8 0 1 8285275 0 1:=⟨hv,hw,by decide,by decide,by decide,by decide,by decide,by decide⟩
theorem ahV (d:Nat) (h1:1<=d) (h2:d<=2+1):d∣6:=by
 have:d=1\/d=2\/d=3:=by omega
 rcases this with rfl | rfl | rfl<;>decide
theorem TK (d:Nat) (h1:1<=d) (h2:d<=6+1):d∣5040:=by
 have:d=1\/d=2\/d=3\/d=4\/d=5\/d=6\/d=7:=by omega
 rcases this with rfl | rfl | rfl | rfl | rfl | rfl | rfl<;>decide
theorem Qj:Yl 2 2 8 25 6 761 6:=⟨by decide,by decide,ahV,by decide,by decide,by decide,by decide,by decide,by decide⟩
theorem KI:Yl 6 0 72 27451 6 230145 5040:=⟨by decide,by decide,TK,by decide,by decide,by decide,by decide,by decide,by decide⟩
theorem RgV.swap {v w N j kp n:Nat} {r:RC} (h:RgV v w N N j kp n r) (hs:n<=7/\j<=59):RgV w v N N j kp n r:=
 ⟨⟨h.q.ok,fun l hl i hi h1 h2=>h.q.two l hl i hi h2 h1,h.q.len,h.q.ncl,h.q.can,fun t ht=>by
  obtain⟨a1,a2,a3,a4⟩:=h.q.duo t ht;exact⟨a1,fun i hi h1 h2=>a2 i hi h2 h1,a4,a3⟩,h.q.pb,.inl hs⟩,h.idem,h.inn,h.len⟩
theorem IA.swap {v w:Nat} {M:List RC} (h:IA v w M):IA w v M:=⟨h.nf,h.len,fun r hr=>(h.rg r hr).swap (by decide)⟩
theorem IC.nil:IC []:=⟨.nil,by decide,by simp,by
 have:=kF (l:=[]) (rh (v:=0) (w:=1) (by decide) (by decide)) (by simp) (by simp);exact this⟩
theorem IA.den {v w:Nat} {M:List RC} (hv:v<8) (hw:w<8) (h:IA v w M):Den Tryz.prog 90 [] [RL' (M.map rn)] [] (.tup [RL' (M.map rn),.int .i64 0]):=by
 have:=kF (rh hv hw) (fun r hr=>(h.rg r hr).q) h.len;rw[yt h.nf h.rg] at this;exact this
theorem IB.den {v w:Nat} {M:List RC} (hv:v<8) (hw:w<8) (h:IB v w M):Den Tryz.prog 90 [] [RL' (M.map rn)] [] (.tup [RL' (M.map rn),.int .i64 0]):=by
 have:=kF (od hv hw) (fun r hr=>(h.rg r hr).1.q) h.len;rw[yt h.nf (fun r hr=>(h.rg r hr).1)] at this;exact this
theorem IA.elim {v w:Nat} {M:List RC} (hv:v<8) (hw:w<8) (ou:v≠w) (h:IA v w M):
 (∀ r∈M,pj r.1 r.2 v)/\(elimO M v).length<=18/\Den Tryz.prog 90 [] [RL' ((elimO M v).map rn)] [] (.tup [RL' ((nrmL (elimO M v)).map rn),.int .i64 0])/\IB w v (nrmL (elimO M v)):=by
 have hs:=fun r hr=>i6 (rh hv hw) ou Qj (h.rg r hr) (((h.rg r hr).q.pok (rh hv hw) (by decide)).2)
 have hl:(elimO M v).length<=18:=by
  have:=tC (v:=v) (q:=9) (M:=M) (fun r hr=>gI (yu _ _ _) (Ym (by
   have h1:=da r.1 v;have h2:=(h.rg r hr).len;omega) (qp 6) (by decide)))
  have h2:=h.len;omega
 have hq: ∀ x∈elimO M v,RgQ w v 6 0 36 1524 6 x/\Two w w x.1:=fun x hx=>by
  obtain⟨r,hr,hx⟩:=List.mem_flatMap.1 hx;obtain⟨a1,a2,a3,a4,a5,a6⟩:=(hs r hr).2 x hx;exact⟨⟨a1,fun l hl i hi h1 h2=>a2 l hl i hi h1 h1,by omega,gI (lQ _) a3,a4,a5.duo hv ou,a6,.inr ⟨a2,by decide,by decide⟩⟩,a2⟩
 have hm:=C6 (yv hw hv) (fun x hx=>(hq x hx).1) (fun x hx=> .inr ⟨(hq x hx).2,by decide,by decide⟩) hl
 refine⟨fun r hr=>(hs r hr).1,hl,kF (yv hw hv) (fun x hx=>(hq x hx).1) hl,hm.1,hm.2.1,fun r hr=>⟨hm.2.2 r hr,?_⟩⟩
 obtain⟨⟨z,hz,gF,he⟩,_⟩:=(FF (yv hw hv) (fun x hx=>(hq x hx).1) hl).2.2 r hr
 rw[he]
 exact(nK (hq z hz).1.ok (by decide) (hq z hz).2 gF).2.1
theorem Ir {M:List RC} (h:NF M) (h0: ∀ r∈M,r.1=[]):M.length<=1:=by
 match M,h,h0 with
 | [],_,_=>simp
 | [_],_,_=>simp
 | a::b::M,h,h0=>
  have:=h.head b (by simp);rw[h0 a (by simp),h0 b (by simp)] at this;simp[cR] at this
theorem IB.elim {v w:Nat} {M:List RC} (hv:v<8) (hw:w<8) (ou:v≠w) (h:IB v w M):
 (∀ r∈M,pj r.1 r.2 v)/\(elimO M v).length<=18/\Den Tryz.prog 90 [] [RL' ((elimO M v).map rn)] [] (.tup [RL' ((nrmL (elimO M v)).map rn),.int .i64 0])/\IC (nrmL (elimO M v)):=by
 have zM: ∀ r∈M,r.2.length<=12:=fun r hr=>((h.rg r hr).1.q.pok (od hv hw) (by decide)).2
 have hs:=fun r hr=>i6 (od hv hw) ou KI (h.rg r hr).1 (zM r hr)
 have hl:(elimO M v).length<=18:=by
  have:=tC (v:=v) (q:=1) (M:=M) (fun r hr=>gI (yu _ _ _) (by
   obtain⟨h1,h2⟩:=FE (od hv hw) (h.rg r hr).1 (h.rg r hr).2;exact Nat.mul_le_mul h1 h2))
  have h2:=h.len;omega
 have hq: ∀ x∈elimO M v,RgQ w v 8 0 292 460292 6 x/\ ∀ l∈x.1,∀ i,i<8->co l i=0:=fun x hx=>by
  obtain⟨r,hr,hx⟩:=List.mem_flatMap.1 hx;obtain⟨a1,a2,a3,a4,a5,a6⟩:=(hs r hr).2 x hx;refine⟨⟨a1,fun l hl i hi h1 h2=>a2 l hl i hi h1 h1,by omega,gI (lQ _) a3,a4,a5.duo hv ou,a6,.inr ⟨a2,by decide,by decide⟩⟩,fun l hl i hi=>?_⟩;by_cases sC:i=w
  .obtain⟨u,Z8,huv,SG⟩: ∃ u,u<8/\v≠u/\u≠w:=by
    by_cases h0:v≠0/\0≠w
    .exact⟨0,by decide,h0.1,h0.2⟩
    by_cases h1:v≠1/\1≠w
    .exact⟨1,by decide,h1.1,h1.2⟩
    exact⟨2,by decide,by omega,by omega⟩
   have v3:=h.rg r hr;have hu:RgV v u 6 0 72 27451 6 r:=⟨⟨v3.1.q.ok,fun l hl i hi h1 _=>v3.2 l hl i hi h1 h1,v3.1.q.len,v3.1.q.ncl,v3.1.q.can,fun t ht=>by
    obtain⟨b1,b2,b3,b4⟩:=v3.1.q.duo t ht;have b5: ∀ i,i<8->i≠v->t.1.getD i 0=0:=fun i hi h1=>by
     by_cases sC:i=w
     .rw[sC];omega
     exact b2 i hi h1 sC
    exact⟨b1,fun i hi h1 _=>b5 i hi h1,b3,by rw[b5 u Z8 (Ne.symm huv)];omega⟩,v3.1.q.pb,v3.1.q.alt⟩,v3.1.idem,v3.1.inn,v3.1.len⟩
   have:=((i6 (od hv Z8) huv KI hu (zM r hr)).2 x hx).2.1;exact this l hl i hi (by rw[sC];exact Ne.symm SG) (by rw[sC];exact Ne.symm SG)
  exact a2 l hl i hi sC sC
 have hm:=FF (yw hw hv) (fun x hx=>(hq x hx).1) hl
 have NU: ∀ r∈nrmL (elimO M v),r.1=[]:=fun r hr=>by
  obtain⟨⟨z,hz,gF,he⟩,_⟩:=hm.2.2 r hr;rw[he];cases hc:aU z.1 with
  | nil=>rfl
  | cons f t=>
   exfalso;obtain⟨l,hl,qY,_⟩:=r9 (fun l hl=>((hq z hz).1.ok l hl).len) gF (f:=f) (by rw[hc];simp);exact qY (fun i hi=>(hq z hz).2 l hl i hi)
 have h1:=Ir hm.1 NU
 have Xj: ∀ r∈nrmL (elimO M v),RgV w v 8 0 1 8285275 0 r:=fun r hr=>by
  have h0:=NU r hr;obtain⟨_,p1,p2,p3,p4⟩:=hm.2.2 r hr;refine⟨⟨?_,?_,?_,?_,p1.canon,p3,p4,.inl (by decide)⟩,?_,?_,?_⟩<;>rw[h0]
  .simp
  .intro l hl;simp at hl
  .simp
  .simp[ncs]
  .exact Iq
  .exact BU
  simp
 refine⟨fun r hr=>(hs r hr).1,hl,kF (yw hw hv) (fun x hx=>(hq x hx).1) hl,hm.1,h1,fun r hr=>⟨NU r hr,(hm.2.2 r hr).2.1,(hm.2.2 r hr).2.2.1⟩,?_⟩
 have:=kF (adw hw hv) (fun r hr=>(Xj r hr).q) h1
 rw[yt hm.1 Xj] at this
 exact this
def IT (M:List RC):Prop:=IA 0 1 M\/IB 0 1 M\/IB 1 0 M\/IC M
theorem IT.self {M:List RC} (h:IT M):Den Tryz.prog 90 [] [RL' (M.map rn)] [] (.tup [RL' (M.map rn),.int .i64 0]):=by
 rcases h with h | h | h | h
 .exact h.den (by decide) (by decide)
 .exact h.den (by decide) (by decide)
 .exact h.den (by decide) (by decide)
 exact h.den
theorem qE {a b u:Nat} {r:RC} (hu:u<8) (bg: ∀ l∈r.1,LOk 499 l) (hl:r.1.length<=40) (h2:Two a b r.1) (ha:u≠a) (hb:u≠b):pj r.1 r.2 u/\missB u r=true:=by
 obtain⟨h1,_⟩:=Qg h2 hu ha hb;exact⟨⟨hu,bg,hl,fun l hl=>by rw[h1] at hl;simp at hl⟩,qB.2 (.inl h1)⟩
structure Next (M:List RC) (u:Nat):Prop where
 slab: ∀ r∈M,pj r.1 r.2 u
 len:(elimO M u).length<=18
 den:M.any (missB u)=false->Den Tryz.prog 90 [] [RL' ((elimO M u).map rn)] [] (.tup [RL' ((nrmL (elimO M u)).map rn),.int .i64 0])
 it:M.any (missB u)=false->IT (nrmL (elimO M u))
theorem qF {M:List RC} {u:Nat} (h: ∀ r∈M,pj r.1 r.2 u/\missB u r=true):Next M u:=by
 have NU:M.any (missB u)=false->M=[]:=fun hm=>by
  cases M with
  | nil=>rfl
  | cons r M=>rw[jU (List.mem_cons_self) (h r (by simp)).2] at hm;cases hm
 refine⟨fun r hr=>(h r hr).1,?_,fun hm=>?_,fun hm=>?_⟩
 .have:=tC (v:=u) (q:=0) (M:=M) (fun r hr=>by
   have h2:=(h r hr).2;have h1:=yu r.1 r.2 u;rcases qB.1 h2 with h3 | h3
   .rw[h3,length_nil,Nat.zero_mul] at h1;exact h1
   rw[h3,length_nil,Nat.mul_zero] at h1;exact h1)
  omega
 .rw[NU hm,BV,FG];exact IC.nil.den
 rw[NU hm,BV,FG];exact .inr (.inr (.inr IC.nil))
theorem IT.next {M:List RC} (h:IT M) {u:Nat} (hu:u<8):Next M u:=by
 rcases h with h | h | h | h
 .by_cases h0:u=0
  .subst h0;obtain⟨a,b,c,d⟩:=h.elim (by decide) (by decide) (by decide);exact⟨a,b,fun _=>c,fun _=> .inr (.inr (.inl d))⟩
  by_cases h1:u=1
  .subst h1;obtain⟨a,b,c,d⟩:=h.swap.elim (by decide) (by decide) (by decide);exact⟨a,b,fun _=>c,fun _=> .inr (.inl d)⟩
  exact qF (fun r hr=>qE hu (fun l hl=>((h.rg r hr).q.ok l hl).mono (by decide)) (h.rg r hr).q.len (h.rg r hr).q.two h0 h1)
 .by_cases h0:u=0
  .subst h0;obtain⟨a,b,c,d⟩:=h.elim (by decide) (by decide) (by decide);exact⟨a,b,fun _=>c,fun _=> .inr (.inr (.inr d))⟩
  exact qF (fun r hr=>qE hu (fun l hl=>((h.rg r hr).1.q.ok l hl).mono (by decide)) (h.rg r hr).1.q.len (h.rg r hr).2 h0 h0)
 .by_cases h0:u=1
  .subst h0;obtain⟨a,b,c,d⟩:=h.elim (by decide) (by decide) (by decide);exact⟨a,b,fun _=>c,fun _=> .inr (.inr (.inr d))⟩
  exact qF (fun r hr=>qE hu (fun l hl=>((h.rg r hr).1.q.ok l hl).mono (by decide)) (h.rg r hr).1.q.len (h.rg r hr).2 h0 h0)
 refine qF (fun r hr=>?_);have h0:=(h.rg r hr).1;exact qE (a:=8) (b:=8) hu (by rw[h0];simp) (by rw[h0];simp) (by rw[h0];intro l hl;simp at hl) (by omega) (by omega)
theorem IT.len {M:List RC} (h:IT M):M.length<=18:=by
 rcases h with h | h | h | h
 .exact gI h.len (by decide)
 .exact h.len
 .exact h.len
 exact gI h.len (by decide)
theorem IT.nf {M:List RC} (h:IT M):NF M:=by
 rcases h with h | h | h | h
 .exact h.nf
 .exact h.nf
 .exact h.nf
 exact h.nf
theorem IT.pok {M:List RC} (h:IT M): ∀ r∈M,POk 10000000 1024 r.2/\r.2.length<=12:=fun r hr=>by
 rcases h with h | h | h | h
 .exact(h.rg r hr).q.pok (rh (by decide) (by decide)) (by decide)
 .exact(h.rg r hr).1.q.pok (od (by decide) (by decide)) (by decide)
 .exact(h.rg r hr).1.q.pok (od (by decide) (by decide)) (by decide)
 exact(h.rg r hr).2
theorem Qk {L:List RR} {M:List RC} (h:IT M) (AH:Den Tryz.prog 90 [] [RL' L] [] (.tup [RL' (M.map rn),.int .i64 0])) (v:Int):Den Tryz.prog 36 [] [RL' L,.int .i64 v] [] (listV (iH M v)):=by
 unfold iH listV;by_cases hv:v<0\/8<=v
 .rw[if_pos hv,if_neg (by decide)];exact adu L M v hv AH
 obtain⟨u,rfl⟩: ∃ u:Nat,v=(u:Int):=⟨v.toNat,by omega⟩;have hu:u<8:=by omega
 have hn:=h.next hu;rw[if_neg hv,Int.toNat_natCast];have:=ahT L M (nrmL (elimO M u)) u hu AH (by have:=h.len;omega) hn.slab (by have:=hn.len;omega) hn.den;by_cases hm:M.any (missB u)=true
 .rw[if_pos hm] at this ⊢;rw[if_neg (by decide)];exact this
 rw[if_neg hm] at this ⊢;rw[if_pos rfl];exact this
theorem Yn:WV iH IT where
 den M h v _ _:=Qk h h.self v
 next M h v h0:=by
  unfold iH at h0 ⊢;by_cases hv:v<0\/8<=v
  .rw[if_pos hv] at h0;exact absurd h0 (by decide)
  obtain⟨u,rfl⟩: ∃ u:Nat,v=(u:Int):=⟨v.toNat,by omega⟩;have hu:u<8:=by omega
  rw[if_neg hv,Int.toNat_natCast] at h0 ⊢;by_cases hm:M.any (missB u)=true
  .rw[if_pos hm] at h0;exact absurd h0 (by decide)
  rw[if_neg hm];exact(h.next hu).it (by simpa using hm)
 len M h:=by have:=h.len;omega
 nf M h:=h.nf
 one M h r hr _:=h.pok r hr
theorem wM {L:List RR} {M:List RC} (h:IT M) (AH:Den Tryz.prog 90 [] [RL' L] [] (.tup [RL' (M.map rn),.int .i64 0])) (vs:List Int) (hw:W64 vs) (hn:vs.length<=1000):
 Den Tryz.prog 40 [] [RL' L,.fv (.sl (ints vs))] [] (yn (wa iH M vs)):=ahU iH IT Yn L M vs hw hn h AH
def pq (p:List Tm) (t:Tm):List Tm:=(CK p t).filter oa
theorem MN {p:List Tm} {t:Tm} {i:Nat} (h:i<p.length):pq (p.take (i+1)) t=if oa (o8 p[i] t)=true then pq (p.take i) t++[o8 p[i] t] else pq (p.take i) t:=by
 unfold pq CK;rw[List.take_add_one,qb h,vw,filter_append];show _++List.filter oa [o8 p[i] t]=_;by_cases hz:oa (o8 p[i] t)=true
 .rw[if_pos hz,List.filter_cons_of_pos hz];rfl
 rw[if_neg hz,filter_cons_of_neg hz];simp
theorem Ql (p:List Tm) (t:Tm):(pq p t).length<=p.length:=by
 unfold pq;have:=List.length_filter_le oa (CK p t);unfold CK at this;rwa [length_map] at this
theorem adx (p:List Tm) (t:RT) (hp:LOkT 1000000 1000000 p) (ht:t.1.length=8) (hte: ∀ x∈t.1,0<=x/\x<=1000000) (htr:t.2.Ok 1000000) (hn:p.length<=10000):
 Den Tryz.prog 103 [] [PL (p.map tn),.agg (fM t)] [] (PL ((pq p (tq t)).map tn)):=by
 have rp:=av (p.map tn)
 rw[length_map] at rp
 obtain⟨n,cP⟩:=ax p.length
 rw[cP] at rp hn
 have tcl:=aG ht
 have tc8:=dN ht
 have tcf:=dU ht
 refine dq Tryz.func103 47 0 ?_
 refine bU tcl ?_
 repeat refine ag ?_
 refine wl (α:=Nat) (fun i=>⟨[PL (p.map tn),.any,.any,.ptr 0 0 0,.any,.lsl 1 0 (pq (p.take i) (tq t)).length 11,.int .i64 i]++replicate 42 .any,[.box true (fM t),.row true (aq ((pq (p.take i) (tq t)).map tn))]⟩) (fun i=>n - i) (fun i=>i<=n) 0 ?_ (eB _) ?_
 .refine Weak.nil 5 11 (by decide) rfl ?_
  refine eS [0,1] ?_ ?_
  .simp[bk,dV,cC]
   rfl
  simp[et,fK,g6]
  rfl
 intro i hi
 have vm:=Ql (p.take i) (tq t)
 rw[length_take,cP,Nat.min_eq_left hi] at vm
 have ro:=av ((pq (p.take i) (tq t)).map tn)
 rw[length_map] at ro
 have tko:=bO (ts:=(pq (p.take i) (tq t)).map tn) (n:=(pq (p.take i) (tq t)).length) (by rw[length_map];omega)
 refine bU rp ?_
 refine bS ?_ ?_
 .intro h1 h2
  have dW:i<p.length:=by omega
  have r1:=rZ dW
  have bm:p[i]∈p:=ki dW
  have G5:=hp.len _ bm
  have zZ:=hp.bd _ bm
  have oM:=hp.exp _ bm
  have bM:=MN (t:=tq t) dW
  obtain⟨s,ua⟩:=ax (p[i])
  rw[ua] at r1 G5 zZ oM bM
  obtain⟨O,hO⟩:=ax (pq (p.take i) (tq t))
  rw[hO] at vm ro tko bM ⊢
  have Vr:(tn s).1.length=8:=G5
  have s11:=aW Vr
  have sfl:=aK Vr
  have scl:=aG Vr
  have hI0:lO s.1 t.1 0=s.1:=by simp[lO,fe]
  have hI8:=BI G5 ht
  refine ae (bT h2 r1 s11 @dQ sfl scl rp @append_nil.{0}) ?_
  repeat refine ag ?_
  refine wl (α:=Nat) (fun k=>⟨[PL (p.map tn),.any,.any,.ptr 0 0 0,.any,.lsl 1 0 O.length 11,.int .i64 i,.ptr 2 0 0,.int .i64 k]++replicate 40 .any,[.box true (fM t),.row true (aq (O.map tn)),.box true (fM (lO s.1 t.1 k,cn s.2))]⟩) (fun k=>8 - k) (fun k=>k<=8) 0 ?_ (eB _) ?_
  .rw[hI0]
   refine eS [0,1,2] ?_ ?_
   .simp[bk,dV,cC]
   simp[et,fK,g6]
   exact g6 _ (tn s)
  intro k hk
  have I8:=kZ G5 ht hk
  have xl:((lO s.1 t.1 k,cn s.2):RT).1.length=8:=I8
  have xcl:=aG xl
  refine aY ?_
  refine bS ?_ ?_
  .intro h3 h4
   have gG:=uM (t:=(lO s.1 t.1 k,cn s.2)) (i:=k) (by omega) xl
   have tat:=uM (t:=t) (i:=k) (by omega) ht
   dsimp only at gG
   rw[Ko G5 ht (by omega)] at gG
   have bX:=p9 (t:=(lO s.1 t.1 k,cn s.2)) (i:=k) (x:=s.1.getD k 0+t.1.getD k 0) (by omega) xl
   dsimp only at bX
   rw[BH G5 ht (by omega)] at bX
   have ga:=jo (by decide) oM k
   have gb:=jo (by decide) hte k
   obtain⟨x,hx⟩:=ax (s.1.getD k 0)
   obtain⟨y,hy⟩:=ax (t.1.getD k 0)
   rw[hx] at gG bX ga
   rw[hy] at tat bX gb
   refine ae h4 ?_
   refine dw (by kernel_rfl) ?_
   refine ae (fE gG tat xcl tcl @Nat.mul_one bX) ?_
   repeat refine ag ?_
   refine aw (k+1) ?_ (by omega)
   refine eS [0,1,2] ?_ ?_
   .simp[bk,dV,cC]
   simp[et,fK,g6]
  intro h3 h4
  have hk8:k=8:=by omega
  subst hk8
  have vZ:=g_ G5 ht
  rw[hI8] at xl xcl ⊢
  have Og:=OV (cn s.2) t.2 ((bC zZ).mono (by decide)) (htr.mono (by decide))
  rw[de] at Og
  change Den Tryz.prog 65 [] [.agg (cn s.2).c,.agg t.2.c] [] (.agg (cn (s.2*t.2.q)).c) at Og
  have hbm:Bd 2000000 (s.2*t.2.q):=Bd.mul (j:=1000000) (k:=1000000) zZ (htr.bd (by decide)) (by decide)
  have Cp:=Et (cn (s.2*t.2.q)) ((bC hbm).mono (by decide))
  rw[de] at Cp
  change Den Tryz.prog 63 [] [.agg (cn (s.2*t.2.q)).c] [] _ at Cp
  have xcf:=dU xl
  have pc:=mw (r:=cn (s.2*t.2.q)) xl
  have yl:((fe s.1 t.1,cn (s.2*t.2.q)):RT).1.length=8:=vZ
  have ycf:=dU yl
  have ycl:=aG yl
  have y11:=dt yl
  have aft:=aW yl
  have yfl:=aK yl
  have cG:=eF (O.map tn) (tn (o8 s (tq t)))
  rw[<-o7] at cG
  change aq (O.map tn)++[iz (fe s.1 t.1,cn (s.2*t.2.q))]=_ at cG
  have G0:oa (o8 s (tq t))=decide (gA (s.2*t.2.q)≠0):=by
   show decide (s.2*t.2.q≠0)=_;by_cases hz:s.2*t.2.q=0
   .rw[m5 (by simpa using hz),m5 (by simpa using bh.2 hz)]
   rw[ir hz,ir (show gA (s.2*t.2.q)≠0 from fun h=>hz (bh.1 h))]
  obtain⟨z,hz⟩:=ax (cn (s.2*t.2.q))
  rw[hz] at Og Cp pc yl ycf ycl y11 aft yfl cG
  obtain⟨g,hg⟩:=ax (gA (s.2*t.2.q))
  rw[hg] at Cp G0
  dsimp only at xcf ycf pc
  refine ae (im h4 tcl xcl tcf xcf) ?_
  repeat refine ag ?_
  refine zq Og ?_
  refine ae (bT @gj @dP @cJ pc xcl ycl ycf @append_nil.{0}) ?_
  repeat refine ag ?_
  refine zq Cp ?_
  refine ae @gj ?_
  refine Br.bneInt ?_ ?_
  .intro h5 h6
   rw[G0,ir h5,if_pos rfl] at bM
   refine ae (bT h6 ycl y11 aft @dm @dD ro (bR tko cG @append_nil.{0})) ?_
   repeat refine ag ?_
   refine aw (i+1) ?_ (by omega)
   rw[bM,qe]
   refine eS [0,4] ?_ ?_
   .simp[bk,dV,cC]
   simp[et,fK,g6]
  intro h5 h6
  rw[G0,m5 (by simpa using h5),if_neg (by decide)] at bM
  refine ae h6 ?_
  refine aw (i+1) ?_ (by omega)
  rw[bM]
  refine eS [0,1] ?_ ?_
  .simp[bk,dV,cC]
  simp[et,fK,g6]
 intro h1 h2
 have Oj:p.take i=p:=eo (by omega)
 rw[Oj] at ro tko ⊢
 refine ae h2 ?_
 refine bj ?_
 exact l7 (aP ro tko)
theorem Yo: ∀ x∈z8,0<=x/\x<=(1000000:Int):=fun x hx=>by
 rw[List.eq_of_mem_replicate hx];omega
theorem Qm (H:List Ob) (A:List RT) (t:RT):cw H [PL A,.agg (fM t)]=some [PL A,.agg (fM t)]:=by
 have h:gW H (.agg (fM t))=some (.agg (fM t)):=by
  unfold gW;simp only[dm,Option.map_some,dQ]
 unfold cw;unfold cw;unfold cw;rw[h];rfl
theorem ahW (p:List Tm) (r:Raw) (hp:LOkT 1000000 1000000 p) (hr:r.Ok 1000000) (hn:p.length<=10000):
 Den Tryz.prog 54 [] [PL (p.map tn),.agg r.c] [] (PL ((pq p (z8,r.q)).map tn)):=by
 have h:=adx p (z8,r) hp b8 Yo hr hn
 change Den Tryz.prog 103 [] [_,_] [] (PL ((pq p (z8,r.q)).map tn)) at h
 have zl:=aG (t:=(z8,r)) b8
 obtain⟨A,hA⟩:=ax (p.map tn)
 obtain⟨B,hB⟩:=ax ((pq p (z8,r.q)).map tn)
 rw[hA,hB] at h
 rw[hA,hB]
 refine dq Tryz.func54 7 0 ?_
 refine bU (eg @cJ @xD @Py @append_nil.{0}) ?_
 repeat refine ag ?_
 refine gp h (Qm _ A (z8,r)) ?_
 refine ba ?_
 refine bj rfl
theorem ady (r:Raw) (hr:r.Ok 100000):Den Tryz.prog 137 [] [.agg r.c] [] (PL ((nf [(z8,r.q)]).map tn)):=by
 have h:=ahC [(z8,r)] (fun t ht=>by
  rw[qz] at ht;subst ht;exact⟨b8,HW,hr.mono (by decide)⟩) ((PB.one (k:=100000) (hr.bd (by decide))).mono (by decide)) (by show 1<=10000000000;decide)
 change Den Tryz.prog 44 [] [.fv (.sl [iz (z8,r)])] [] (PL ((nf [(z8,r.q)]).map tn)) at h;have zl:=aG (t:=(z8,r)) b8;have z11:=dt (t:=(z8,r)) b8;have f11:=aW (t:=(z8,r)) b8;have fl:=aK (t:=(z8,r)) b8;obtain⟨B,hB⟩:=ax ((nf [(z8,r.q)]).map tn);rw[hB] at h ⊢;refine dq Tryz.func137 6 0 ?_;refine bU (bT @cJ @xD @Py zl f11 @dm @dD @append_nil.{0}) ?_
 repeat refine ag ?_
 refine gp h (by simp[cw,gW,fS,fB]) ?_;refine ba ?_;refine bj rfl
def mI:List Tm:=[(z8,1)]
theorem Qn:nf [(z8,((1:Int):Rat))]=mI:=by
 unfold nf;simp[insT,mI]
theorem ahX:Den Tryz.prog 79 [] [] [] (PL (mI.map tn)):=by
 have tS:=mn 1 (by omega);change Den Tryz.prog 32 [] _ [] (.agg (cn ((1:Int):Rat)).c) at tS;have h:=ady (cn ((1:Int):Rat)) ((bC (Go.Pl.bd_int (x:=1) (by decide))).mono (by decide));rw[de,Qn] at h;obtain⟨B,hB⟩:=ax (mI.map tn);rw[hB] at h ⊢;obtain⟨z,hz⟩:=ax (cn ((1:Int):Rat));rw[hz] at tS h;refine dq Tryz.func79 3 0 ?_;refine aY ?_;refine aV tS ?_;refine ae (aP @dP @append_nil.{0}) ?_;refine zq h ?_;refine ba ?_;refine bj rfl
def Rd3 (ts:List RT):Prop:= ∀ t∈ts,t.1.length=8/\(∀ e∈t.1,0<=e/\e<=2)/\t.2.Ok 4
theorem Rd3.snoc {ts:List RT} {t:RT} (h:Rd3 ts) (h1:t.1.length=8) (h2: ∀ e∈t.1,0<=e/\e<=2) (h3:t.2.Ok 4):Rd3 (ts++[t]):=fun u hu=>by
 rcases List.mem_append.1 hu with hu | hu
 .exact h u hu
 rw[qz] at hu;subst hu;exact⟨h1,h2,h3⟩
theorem Qo: ∀ e∈z8,0<=e/\e<=(2:Int):=fun x hx=>by
 rw[List.eq_of_mem_replicate hx];omega
abbrev Sk:List Int:=[0,0,1,1,2]
theorem Qp (i:Nat):0<=Sk.getD i 0/\Sk.getD i 0<=2:=jo (by decide) (by decide) i
def Zf (vars:Nat) (ts:List RT):Prop:= ∀ t∈ts,∀ k,vars<=k->t.1.getD k 0=0
theorem Zf.snoc {vars:Nat} {ts:List RT} {t:RT} (h:Zf vars ts) (h1: ∀ k,vars<=k->t.1.getD k 0=0):Zf vars (ts++[t]):=fun u hu=>by
 rcases List.mem_append.1 hu with hu | hu
 .exact h u hu
 rw[qz] at hu;subst hu;exact h1
theorem wN (k:Nat):z8.getD k 0=(0:Int):=by
 rw[qa,z8,List.getElem?_replicate];split<;>rfl
theorem WX (xs:List Int) (a vars terms:Nat) (hl:xs.length<=1000) (ha:a<=xs.length) (hw:W64 xs) (hv:vars<=8) (ht:terms<=100):
 ∃ H1 res,(fun H1 res=> ∃ ts:List RT,∃ a':Nat,H1=[S xs a',.row true (aq ts)]/\res=PV.lsl 1 0 ts.length 11/\a'<=xs.length/\ts.length<=terms/\Rd3 ts/\Zf vars ts) H1 res/\
  Den Tryz.prog 42 [S xs a] [.ptr 0 0 0,.int .i64 vars,.int .i64 terms] H1 res:=by
 have hN:=sT xs a (terms+1) hl ha hw (by omega) (by omega)
 have aH:=eU (xs:=xs) (a:=a) (n:=terms+1) (by omega)
 have hc:=aI xs a
 have Xv:=cI ha
 generalize nN xs a (terms+1)=n at*
 have e0:((terms:Int)+1)=((terms+1:Nat):Int):=by simp
 obtain⟨a0,hA⟩:=ax (nx xs a)
 rw[hA] at hN Xv
 have hS0: ∀ a,Ob.box true [.fv (.sl (ints xs)),.int .i64 (a:Nat),.int .i64 0]=S xs a:=fun _=>rfl
 unfold S at hN hc
 unfold S
 refine Wb Tryz.func42 41 1 ?_
 refine bU e0 ?_
 refine ig 0 hN hc ?_
 refine D6 ?_
 refine wl (α:=Nat×Nat×List RT) (fun⟨i,a,ts⟩=>⟨[.ptr 0 0 0,.int .i64 vars,.any,.any,.any,.any,.any,.lsl 1 0 ts.length 11,.int .i64 i]++replicate 35 .any,[.box true [.fv (.sl (ints xs)),.int .i64 a,.int .i64 0],.row true (aq ts)]⟩)
  (fun⟨i,_,_⟩=>i) (fun⟨i,a,ts⟩=>i+ts.length<=terms/\a<=xs.length/\Rd3 ts/\Zf vars ts) (n,a0,[]) ?_ ⟨by simp;omega,Xv,fun t ht=>by simp at ht,fun t ht=>by simp at ht⟩ ?_
 .refine Weak.nil 7 11 (by decide) rfl ?_
  refine eS [0,1] ?_ ?_
  .simp[bk,dV,cC]
  simp[et,fK,dp,cC]
  rfl
 rintro⟨i,a,ts⟩ ⟨hi,ha,ef,tY⟩
 refine aY ?_
 refine bS ?_ ?_
 .intro h1 h2
  have zE:=O3 xs a hl ha hw
  have hca:=aI xs a
  have hb:=wD xs a
  obtain⟨q,hq⟩:=ax (qN xs a)
  obtain⟨a1,vn⟩:=ax (nx xs (nx xs a))
  have la1:a1<=xs.length:=by rw[<-vn];exact cI (cI ha)
  rw[hq,vn] at zE
  rw[hq] at hb
  change Den Tryz.prog 55 _ _ _ (.agg (cn q).c) at zE
  have h8:=sT xs a1 8 hl la1 hw (by decide) (by decide)
  have sB:=aI xs a1
  have l8:=eU (xs:=xs) (a:=a1) (n:=8) (by decide)
  obtain⟨m,hm⟩:=ax (nN xs a1 8)
  obtain⟨a2,Lv⟩:=ax (nx xs a1)
  have la2:a2<=xs.length:=by rw[<-Lv];exact cI la1
  rw[hm,Lv] at h8
  rw[hm] at l8
  have bg:=bC hb
  obtain⟨r,hr⟩:=ax (cn q)
  rw[hr] at zE bg
  have zl:=aG (t:=(z8,r)) b8
  unfold S at zE h8 hca sB
  refine ae h2 ?_
  refine ig 0 zE hca ?_
  refine nX (eg @dP @cJ @Py zl) ?_
  repeat refine ag ?_
  refine ig 0 h8 sB ?_
  refine D6 ?_
  refine Br.beqInt ?_ ?_
  .intro h3 h4
   have G9:=Wy xs a2 hl la2 hw
   have oH:=aI xs a2
   have rok:=uB xs a2
   have la3:=Bc la2
   obtain⟨r3,Xw⟩:=ax ((jA xs a2).1)
   obtain⟨a3,Zy⟩:=ax ((jA xs a2).2)
   rw[Xw,Zy] at G9
   rw[Xw] at rok
   rw[Zy] at la3
   change Den Tryz.prog 60 _ _ _ (.agg r3.c) at G9
   have pc:=mw (t:=(z8,r)) (r:=r3) b8
   unfold S at G9 oH
   refine ae h4 ?_
   refine ig 0 G9 oH ?_
   refine nX (eg @dP @cJ zl pc) ?_
   repeat refine ag ?_
   refine wl (α:=Nat×Nat×List Int) (fun⟨v,b,m⟩=>⟨[.ptr 0 0 0,.int .i64 vars,.any,.any,.any,.any,.any,.lsl 1 0 ts.length 11,.int .i64 i,.ptr 2 0 0,.int .i64 v]++replicate 33 .any,[.box true [.fv (.sl (ints xs)),.int .i64 b,.int .i64 0],.row true (aq ts),.box true (fM (m,r3))]⟩)
    (fun⟨v,_,_⟩=>vars - v) (fun⟨v,b,m⟩=>v<=vars/\b<=xs.length/\m.length=8/\(∀ e∈m,0<=e/\e<=2)/\ ∀ k,v<=k->m.getD k 0=0) (0,a3,z8) ?_ ⟨eB _,la3,rfl,Qo,fun k _=>wN k⟩ ?_
   .refine eS [0,1,2] ?_ ?_
    .simp[bk,dV,cC]
    simp[et,fK,g6,dp,cC]
   rintro⟨v,b,m⟩ ⟨mY,lb,vZ,SE,hmz⟩
   refine aY ?_
   refine bS ?_ ?_
   .intro g1 g2
    have Lu:=O2 xs b Sk hl lb hw (by decide) (by decide)
    have D':=aI xs b
    have hd:=Qp (nN xs b Sk.length)
    obtain⟨d,DH⟩:=ax (Sk.getD (nN xs b Sk.length) 0)
    rw[DH] at Lu hd
    have bX:=p9 (t:=(m,r3)) (i:=v) (x:=d) (by omega) vZ
    dsimp only at bX
    have tl:=aG (t:=(m,r3)) vZ
    unfold S at Lu D'
    refine ae (aP g2 @append_nil.{0}) ?_
    refine ig 0 Lu D' ?_
    simp -dsimp(disch:=omega) only[append_nil,SX,bX,tl,Nat.mul_one,↓reduceIte,reduceAdd,reduceLT,reduceLeDiff,ru]
    repeat refine ag ?_
    refine aw (v+1,nx xs b,m.set v d) ?_ ⟨by omega,cI lb,by simp[vZ],fun e he=>?_,fun k hk=>by rw[qa,getElem?_set_ne (by omega),<-qa];exact hmz k (by omega)⟩
    .refine eS [0,1,2] ?_ ?_
     .simp[bk,dV,cC]
     simp[et,fK,g6,dp,cC]
    rcases List.mem_or_eq_of_mem_set he with h9 | h9
    .exact SE e h9
    rw[h9];exact hd
   intro g1 g2
   have tl:=aG (t:=(m,r3)) vZ
   have Jl:=dt (t:=(m,r3)) vZ
   have f11:=aW (t:=(m,r3)) vZ
   have fl:=aK (t:=(m,r3)) vZ
   have cG:=eF ts (m,r3)
   have rt:=av ts
   have tk:=bO (ts:=ts) (n:=ts.length) (qp _)
   have e9:((i:Int) - 1)=((i - 1:Nat):Int):=by omega
   simp -dsimp(disch:=omega) only[g2,tl,Jl,f11,dm,dD,rt,tk,cG,e9,append_nil,↓reduceIte,reduceAdd,Nat.reduceMul,Nat.reduceBEq,reduceLT,reduceLeDiff,ru]
   repeat refine ag ?_
   refine aw (i - 1,b,ts++[(m,r3)]) ?_ ⟨by rw[qe];show i - 1+(ts.length+1)<=terms;omega,lb,ef.snoc vZ SE rok,tY.snoc (fun k hk=>hmz k (by omega))⟩
   exact bQ [0,4]
  intro h3 h4
  refine ae h4 ?_
  refine wl (α:=Nat×Nat×List Int) (fun⟨v,b,m⟩=>⟨[.ptr 0 0 0,.int .i64 vars,.any,.any,.any,.any,.any,.lsl 1 0 ts.length 11,.int .i64 i,.ptr 2 0 0,.int .i64 v]++replicate 33 .any,[.box true [.fv (.sl (ints xs)),.int .i64 b,.int .i64 0],.row true (aq ts),.box true (fM (m,r))]⟩)
   (fun⟨v,_,_⟩=>vars - v) (fun⟨v,b,m⟩=>v<=vars/\b<=xs.length/\m.length=8/\(∀ e∈m,0<=e/\e<=2)/\ ∀ k,v<=k->m.getD k 0=0) (0,a2,z8) ?_ ⟨eB _,la2,rfl,Qo,fun k _=>wN k⟩ ?_
  .refine eS [0,1,2] ?_ ?_
   .simp[bk,dV,cC]
   simp[et,fK,g6,dp,cC]
  rintro⟨v,b,m⟩ ⟨mY,lb,vZ,SE,hmz⟩
  refine aY ?_
  refine bS ?_ ?_
  .intro g1 g2
   have Lu:=O2 xs b Sk hl lb hw (by decide) (by decide)
   have D':=aI xs b
   have hd:=Qp (nN xs b Sk.length)
   obtain⟨d,DH⟩:=ax (Sk.getD (nN xs b Sk.length) 0)
   rw[DH] at Lu hd
   have bX:=p9 (t:=(m,r)) (i:=v) (x:=d) (by omega) vZ
   dsimp only at bX
   have tl:=aG (t:=(m,r)) vZ
   unfold S at Lu D'
   refine ae (aP g2 @append_nil.{0}) ?_
   refine ig 0 Lu D' ?_
   simp -dsimp(disch:=omega) only[append_nil,SX,bX,tl,Nat.mul_one,↓reduceIte,reduceAdd,reduceLT,reduceLeDiff,ru]
   repeat refine ag ?_
   refine aw (v+1,nx xs b,m.set v d) ?_ ⟨by omega,cI lb,by simp[vZ],fun e he=>?_,fun k hk=>by rw[qa,getElem?_set_ne (by omega),<-qa];exact hmz k (by omega)⟩
   .refine eS [0,1,2] ?_ ?_
    .simp[bk,dV,cC]
    simp[et,fK,g6,dp,cC]
   rcases List.mem_or_eq_of_mem_set he with h9 | h9
   .exact SE e h9
   rw[h9];exact hd
  intro g1 g2
  have tl:=aG (t:=(m,r)) vZ
  have Jl:=dt (t:=(m,r)) vZ
  have f11:=aW (t:=(m,r)) vZ
  have fl:=aK (t:=(m,r)) vZ
  have cG:=eF ts (m,r)
  have rt:=av ts
  have tk:=bO (ts:=ts) (n:=ts.length) (qp _)
  have e9:((i:Int) - 1)=((i - 1:Nat):Int):=by omega
  simp -dsimp(disch:=omega) only[g2,tl,Jl,f11,dm,dD,rt,tk,cG,e9,append_nil,↓reduceIte,reduceAdd,Nat.reduceMul,Nat.reduceBEq,reduceLT,reduceLeDiff,ru]
  repeat refine ag ?_
  refine aw (i - 1,b,ts++[(m,r)]) ?_ ⟨by rw[qe];show i - 1+(ts.length+1)<=terms;omega,lb,ef.snoc vZ SE (bg.mono (by decide)),tY.snoc (fun k hk=>hmz k (by omega))⟩
  exact bQ [0,4]
 intro h1 h2
 have uj:i=0:=by omega
 subst uj
 refine ae h2 ?_
 exact⟨[.box true [.fv (.sl (ints xs)),.int .i64 a,.int .i64 0],.row true (aq ts)],.lsl 1 0 ts.length 11,⟨ts,a,rfl,rfl,ha,by omega,ef,tY⟩,RetOK.lentOwn (cd:=True/\True) rfl ⟨cW,cW⟩ rfl (aI xs a) rfl (by decide) rfl⟩
end Go.Proofs.YtjjbkjgifdhlcaaGreat
namespace Go.Pl
open Go.AM
theorem ahY {x k:Rat} (h: ∀ n:Nat,0<n->x*(n:Rat)<=k):x<=0:=by
 apply Classical.byContradiction;intro hc;have h0:0<x:=by grind
 have h1:=Rat.lt_floor_add_one (k / x);obtain⟨N,hN⟩: ∃ N:Int,(k / x).floor+1=N:=⟨_,rfl⟩;rw[hN] at h1;have h2:N<=((N.toNat+1:Nat):Int):=by omega
 have h3:(N:Rat)<=(((N.toNat+1:Nat):Int):Rat):=Rat.intCast_le_intCast.2 h2;have h4:=h (N.toNat+1) (by omega);have h5:(((N.toNat+1:Nat):Int):Rat)=((N.toNat+1:Nat):Rat):=Rat.intCast_natCast _;rw[h5] at h3;generalize ((N.toNat+1:Nat):Rat)=m at*;have h6:k / x<m:=by grind
 have h7:k / x*x=k:=by grind
 have h8:k / x*x<m*x:=Rat.mul_lt_mul_of_pos_right h6 h0;grind
def Nr (x y e:Rat):Prop:=x - y<=e/\y - x<=e
theorem Nr.trans {x y z a b:Rat} (h:Nr x y a) (k:Nr y z b):Nr x z (a+b):=by
 unfold Nr at*;grind
theorem Nr.mono {x y a b:Rat} (h:Nr x y a) (k:a<=b):Nr x y b:=by
 unfold Nr at*;grind
theorem Nr.self (x:Rat) {e:Rat} (h:0<=e):Nr x x e:=by
 unfold Nr;grind
theorem Nr.add {x y z w a b:Rat} (h:Nr x y a) (k:Nr z w b):Nr (x+z) (y+w) (a+b):=by
 unfold Nr at*;grind
theorem tD {n:Nat} (h:0<n):(0:Rat)<(n:Rat):=by
 have h1:((1:Int):Rat)<=((n:Int):Rat):=Rat.intCast_le_intCast.2 (by omega);rw[Rat.intCast_natCast] at h1;have h2:((1:Int):Rat)=1:=rfl;grind
theorem yx (n:Nat):((n+1:Nat):Rat)=(n:Rat)+1:=by
 rw[<-Rat.intCast_natCast,<-Rat.intCast_natCast,show((n+1:Nat):Int)=(n:Int)+1 by omega,Rat.intCast_add];rfl
theorem Nr.eq {x y k:Rat} (h: ∀ n:Nat,0<n->Nr x y (k / n)):x=y:=by
 have key: ∀ z:Rat,(∀ n:Nat,0<n->z<=k / n)->z<=0:=fun z hz=>ahY (k:=k) (fun n hn=>by
  have h1:=hz n hn;have h2:=tD hn;generalize (n:Rat)=m at*;have h3:z*m<=k / m*m:=Rat.mul_le_mul_of_nonneg_right h1 (by grind);have h4:k / m*m=k:=by grind
  grind)
 have h1:=key (x - y) (fun n hn=>(h n hn).1);have h2:=key (y - x) (fun n hn=>(h n hn).2);grind
theorem adz {D:Rat->Rat} {a b C:Rat} (vo:a<=b) (h: ∀ s t,a<=s->s<t->t<=b->Nr (D t) (D s) (C*((t - s)*(t - s)))):D b=D a:=by
 rcases(by grind:a=b\/a<b) with he | aH
 .rw[he]
 refine Nr.eq (k:=C*((b - a)*(b - a))) (fun n hn=>?_);have hm:=tD hn;obtain⟨d,hd⟩:=Hg ((b - a) / (n:Rat));have Xh:d*(n:Rat)=b - a:=by rw[<-hd];generalize (n:Rat)=m at*;grind
 have g8:0<d:=by
  apply Classical.byContradiction;intro hc;have:d*(n:Rat)<=0*(n:Rat):=Rat.mul_le_mul_of_nonneg_right (by grind) (by grind);grind
 have key: ∀ i:Nat,i<=n->Nr (D (a+(i:Rat)*d)) (D a) ((i:Rat)*(C*(d*d))):=fun i=>by
  induction i with
  | zero=>
   intro _;have:((0:Nat):Rat)=0:=rfl;rw[this];have e1:a+0*d=a:=by grind
   have e2:(0:Rat)*(C*(d*d))=0:=by grind
   rw[e1,e2];exact Nr.self _ (by grind)
  | succ i ih=>
   intro hi;have h1:=ih (by omega);have dT:((i+1:Nat):Rat)<=(n:Rat):=by
    have:=Rat.intCast_le_intCast.2 (show((i+1:Nat):Int)<=(n:Int) by omega);rwa [Rat.intCast_natCast,Rat.intCast_natCast] at this
   have uj:(0:Rat)<=(i:Rat):=by
    have:=Rat.intCast_le_intCast.2 (show(0:Int)<=(i:Int) by omega);rwa [Rat.intCast_natCast] at this
   have e1:=yx i;rw[e1] at dT ⊢;have p1:0<=(i:Rat)*d:=Rat.mul_nonneg uj (by grind);have p2:((i:Rat)+1)*d<=(n:Rat)*d:=Rat.mul_le_mul_of_nonneg_right dT (by grind);have h2:=h (a+(i:Rat)*d) (a+((i:Rat)+1)*d) (by grind) (by grind) (by grind);refine(h2.trans h1).mono ?_;have e3:a+((i:Rat)+1)*d - (a+(i:Rat)*d)=d:=by grind
   rw[e3];grind
 have h3:=key n (qp n);have e4:a+(n:Rat)*d=b:=by grind
 rw[e4] at h3;refine h3.mono ?_;generalize (n:Rat)=m at*;have e5:C*((b - a)*(b - a)) / m=m*(C*(d*d)):=by
  rw[<-Xh];grind
 rw[e5];exact Rat.le_refl
theorem KJ {D:Rat->Rat} {C K:Rat}: ∀ (E:List Rat) {a b:Rat},a<=b->(∀ s t,a<=s->s<t->t<=b->(∀ e∈E,¬(s<=e/\e<=t))->Nr (D t) (D s) (C*((t - s)*(t - s))))->
 (∀ s t,a<=s->s<=t->t<=b->Nr (D t) (D s) (K*(t - s)))->D b=D a
 | [],a,b,vo,h,_=>adz vo (fun s t h1 h2 h3=>h s t h1 h2 h3 (by simp))
 | e::E,a,b,vo,h,hK=>by
  by_cases he:a<=e/\e<=b
  .obtain⟨h1,h2⟩:=he;have hl:D e=D a:=by
    rcases(by grind:a=e\/a<e) with h0 | h0
    .rw[h0]
    refine Nr.eq (k:=K*(e - a)) (fun n hn=>?_);have hm:=tD hn;obtain⟨d,hd⟩:=Hg ((e - a) / (n:Rat));have Xh:d*(n:Rat)=e - a:=by rw[<-hd];generalize (n:Rat)=m at*;grind
    have g8:0<d:=by
     apply Classical.byContradiction;intro hc;have:d*(n:Rat)<=0*(n:Rat):=Rat.mul_le_mul_of_nonneg_right (by grind) (by grind);grind
    have hda:d<=e - a:=by
     have h1n:(1:Rat)<=(n:Rat):=by
      have:=Rat.intCast_le_intCast.2 (show(1:Int)<=(n:Int) by omega);rwa [Rat.intCast_natCast] at this
     have:d*1<=d*(n:Rat):=Rat.mul_le_mul_of_nonneg_left h1n (by grind);grind
    have hc:=KJ E (a:=a) (b:=e - d) (by grind) (fun s t g1 g2 g3 g4=>h s t g1 g2 (by grind) (fun x hx=>by
     rcases List.mem_cons.1 hx with h9 | h9
     .subst h9;grind
     exact g4 x h9)) (fun s t g1 g2 g3=>hK s t g1 g2 (by grind))
    have hk:=hK (e - d) e (by grind) (by grind) h2;rw[hc] at hk;refine hk.mono ?_;have e5:K*(e - a) / (n:Rat)=K*d:=by rw[<-hd];generalize (n:Rat)=m at*;grind
    rw[e5];grind
   have hr:D b=D e:=by
    rcases(by grind:e=b\/e<b) with h0 | h0
    .rw[h0]
    refine Nr.eq (k:=K*(b - e)) (fun n hn=>?_);have hm:=tD hn;obtain⟨d,hd⟩:=Hg ((b - e) / (n:Rat));have Xh:d*(n:Rat)=b - e:=by rw[<-hd];generalize (n:Rat)=m at*;grind
    have g8:0<d:=by
     apply Classical.byContradiction;intro hc;have:d*(n:Rat)<=0*(n:Rat):=Rat.mul_le_mul_of_nonneg_right (by grind) (by grind);grind
    have hda:d<=b - e:=by
     have h1n:(1:Rat)<=(n:Rat):=by
      have:=Rat.intCast_le_intCast.2 (show(1:Int)<=(n:Int) by omega);rwa [Rat.intCast_natCast] at this
     have:d*1<=d*(n:Rat):=Rat.mul_le_mul_of_nonneg_left h1n (by grind);grind
    have hc:=KJ E (a:=e+d) (b:=b) (by grind) (fun s t g1 g2 g3 g4=>h s t (by grind) g2 g3 (fun x hx=>by
     rcases List.mem_cons.1 hx with h9 | h9
     .subst h9;grind
     exact g4 x h9)) (fun s t g1 g2 g3=>hK s t (by grind) g2 g3)
    have hk:=hK e (e+d) h1 (by grind) (by grind);rw[hc];refine hk.mono ?_;have e5:K*(b - e) / (n:Rat)=K*d:=by rw[<-hd];generalize (n:Rat)=m at*;grind
    rw[e5];grind
   rw[hr,hl]
  exact KJ E vo (fun s t g1 g2 g3 g4=>h s t g1 g2 g3 (fun x hx=>by
   rcases List.mem_cons.1 hx with h9 | h9
   .subst h9;grind
   exact g4 x h9)) hK
def Slp (F f:Rat->Rat):Prop:= ∀ R:Rat,∃ C:Rat,0<=C/\ ∀ s t,-R<=s->s<=R-> -R<=t->t<=R->Nr (f s) 0 C/\Nr (F t) (F s+(t - s)*f s) (C*((t - s)*(t - s)))
theorem kg (x:Rat):0<=x*x:=by
 rcases(by grind:0<=x\/x<=0) with h | h
 .exact Rat.mul_nonneg h h
 have:=Rat.mul_nonneg (a:= -x) (b:= -x) (by grind) (by grind);grind
theorem gN {a b c:Rat} (h:a<=b) (hc:0<=c):a*c<=b*c:=Rat.mul_le_mul_of_nonneg_right h hc
theorem Slp.zero:Slp (fun _=>0) (fun _=>0):=fun R=>⟨0,by grind,fun s t _ _ _ _=>⟨by unfold Nr;grind,by unfold Nr;grind⟩⟩
theorem Slp.const (c:Rat):Slp (fun _=>c) (fun _=>0):=fun R=>⟨0,by grind,fun s t _ _ _ _=>⟨by unfold Nr;grind,by unfold Nr;grind⟩⟩
theorem Slp.add {F f G g:Rat->Rat} (h:Slp F f) (k:Slp G g):Slp (fun x=>F x+G x) (fun x=>f x+g x):=fun R=>by
 obtain⟨C,hC,h⟩:=h R;obtain⟨D,hD,k⟩:=k R;refine⟨C+D,by grind,fun s t h1 h2 h3 h4=>?_⟩;obtain⟨a1,a2⟩:=h s t h1 h2 h3 h4;obtain⟨b1,b2⟩:=k s t h1 h2 h3 h4;generalize (t - s)*(t - s)=q at*;constructor
 .unfold Nr at*;grind
 have e1:(C+D)*q=C*q+D*q:=by grind
 rw[e1];unfold Nr at*;grind
theorem Slp.scale {F f:Rat->Rat} (c:Rat) (h:Slp F f):Slp (fun x=>c*F x) (fun x=>c*f x):=fun R=>by
 obtain⟨C,hC,h⟩:=h R;obtain⟨m,zr,mU,lr⟩: ∃ m:Rat,0<=m/\c<=m/\ -c<=m:=by
  rcases(by grind:0<=c\/c<=0) with h | h
  .exact⟨c,h,by grind,by grind⟩
  exact⟨-c,by grind,by grind,by grind⟩
 have key: ∀ x y e:Rat,0<=e->Nr x y e->Nr (c*x) (c*y) (m*e):=fun x y e he hx=>by
  unfold Nr at*;have p1: ∀ z:Rat,z<=e-> -z<=e->c*z<=m*e:=fun z h1 h2=>by
   rcases(by grind:0<=c\/c<=0) with h | h
   .have a1:=Rat.mul_le_mul_of_nonneg_left h1 h;have a2:=gN mU he;grind
   have a1:=Rat.mul_le_mul_of_nonneg_left h2 (show 0<= -c by grind);have a2:=gN lr he;grind
  have:=p1 (x - y) hx.1 (by grind);have:=p1 (y - x) hx.2 (by grind);constructor<;>grind
 refine⟨m*C,Rat.mul_nonneg zr hC,fun s t h1 h2 h3 h4=>?_⟩;obtain⟨a1,a2⟩:=h s t h1 h2 h3 h4;have hq:=kg (t - s);constructor
 .have:=key _ _ _ hC a1;have e:c*0=0:=by grind
  rw[e] at this;exact this
 have:=key _ _ _ (Rat.mul_nonneg hC hq) a2;generalize (t - s)*(t - s)=q at*;have e1:c*(F s+(t - s)*f s)=c*F s+(t - s)*(c*f s):=by grind
 have e2:m*(C*q)=m*C*q:=by grind
 rw[e1,e2] at this;exact this
theorem Slp.line {F f:Rat->Rat} (n b:Rat) (h:Slp F f):Slp (fun x=>F (n*x+b)) (fun x=>n*f (n*x+b)):=fun R=>by
 obtain⟨m,zr,mU,lr⟩: ∃ m:Rat,0<=m/\n<=m/\ -n<=m:=by
  rcases(by grind:0<=n\/n<=0) with h | h
  .exact⟨n,h,by grind,by grind⟩
  exact⟨-n,by grind,by grind,by grind⟩
 obtain⟨q,Hs,Jr⟩: ∃ q:Rat,b<=q/\ -b<=q:=by
  rcases(by grind:0<=b\/b<=0) with h | h
  .exact⟨b,by grind,by grind⟩
  exact⟨-b,by grind,by grind⟩
 by_cases hR:0<=R
 .obtain⟨C,hC,h⟩:=h (m*R+q);have bnd: ∀ x,-R<=x->x<=R-> -(m*R+q)<=n*x+b/\n*x+b<=m*R+q:=fun x h1 h2=>by
   have a1:=gN mU hR;have a2:=gN lr hR;rcases(by grind:0<=n\/n<=0) with h | h
   .have b1:=Rat.mul_le_mul_of_nonneg_left h2 h;have b2:=Rat.mul_le_mul_of_nonneg_left h1 h;constructor<;>grind
   have b1:=Rat.mul_le_mul_of_nonneg_left h2 (show 0<= -n by grind);have b2:=Rat.mul_le_mul_of_nonneg_left h1 (show 0<= -n by grind);constructor<;>grind
  refine⟨m*C+C*(n*n),by have:=Rat.mul_nonneg zr hC;have:=Rat.mul_nonneg hC (kg n);grind,fun s t h1 h2 h3 h4=>?_⟩;obtain⟨s1,s2⟩:=bnd s h1 h2;obtain⟨t1,t2⟩:=bnd t h3 h4;obtain⟨a1,a2⟩:=h (n*s+b) (n*t+b) s1 s2 t1 t2;have hz:=Rat.mul_nonneg hC (kg n);have hmC:=Rat.mul_nonneg zr hC;constructor
  .unfold Nr at*;have p1:n*f (n*s+b)<=m*C/\ -(n*f (n*s+b))<=m*C:=by
    generalize f (n*s+b)=y at*;have c1:=gN mU hC;have c2:=gN lr hC;rcases(by grind:0<=n\/n<=0) with h | h
    .have b1:=Rat.mul_le_mul_of_nonneg_left a1.1 h;have b2:=Rat.mul_le_mul_of_nonneg_left a1.2 h;constructor<;>grind
    have b1:=Rat.mul_le_mul_of_nonneg_left a1.1 (show 0<= -n by grind);have b2:=Rat.mul_le_mul_of_nonneg_left a1.2 (show 0<= -n by grind);constructor<;>grind
   constructor<;>grind
  have e1:n*t+b - (n*s+b)=n*(t - s):=by grind
  rw[e1] at a2;have e2:C*(n*(t - s)*(n*(t - s)))=C*(n*n)*((t - s)*(t - s)):=by grind
  have e3:n*(t - s)*f (n*s+b)=(t - s)*(n*f (n*s+b)):=by grind
  rw[e2,e3] at a2;refine a2.mono (gN (by grind) (kg _))
 refine⟨0,by grind,fun s t h1 h2 h3 h4=>by exfalso;grind⟩
theorem Slp.congr {F f G g:Rat->Rat} (h:Slp F f) (e1: ∀ x,F x=G x) (e2: ∀ x,f x=g x):Slp G g:=by
 have h1:F=G:=funext e1;have h2:f=g:=funext e2;rwa [h1,h2] at h
theorem Qq {a b c:Rat} (h:a<=c) (h2: -a<=c) (hb:0<=b):a*b<=c*b/\ -(a*b)<=c*b:=by
 have h1:=gN h hb;have h3:=gN h2 hb;constructor<;>grind
theorem nL {x y a b:Rat} (hx:Nr x 0 a) (hy:Nr y 0 b) (ha:0<=a) (hb:0<=b):Nr (x*y) 0 (a*b):=by
 unfold Nr at*;rcases(by grind:0<=y\/y<=0) with h | h
 .have h1:=Qq (a:=x) (c:=a) (by grind) (by grind) h;have h2:=Rat.mul_le_mul_of_nonneg_left (c:=a) (a:=y) (b:=b) (by grind) ha;constructor<;>grind
 have h1:=Qq (a:=x) (c:=a) (b:= -y) (by grind) (by grind) (by grind);have h2:=Rat.mul_le_mul_of_nonneg_left (c:=a) (a:= -y) (b:=b) (by grind) ha;constructor<;>grind
theorem Slp.mulx {F f:Rat->Rat} (h:Slp F f):Slp (fun x=>x*F x) (fun x=>F x+x*f x):=fun R=>by
 by_cases hR:0<=R
 .obtain⟨C,hC,h⟩:=h R;have hRR:=Rat.mul_nonneg hR hR;have hRC:=Rat.mul_nonneg hR hC;obtain⟨K,hK0,hK⟩: ∃ K,0<=K/\Nr (F 0) 0 K:=by
   rcases(by grind:0<=F 0\/F 0<=0) with h | h
   .exact⟨F 0,h,by unfold Nr;grind⟩
   exact⟨-F 0,by grind,by unfold Nr;grind⟩
  have an8:=Rat.mul_nonneg hC hRR;have hF: ∀ s,-R<=s->s<=R->Nr (F s) 0 (K+(R*C+C*(R*R))):=fun s h1 h2=>by
   obtain⟨a1,a2⟩:=h 0 s (by grind) hR h1 h2;have b1:=nL (x:=s) (y:=f 0) (a:=R) (b:=C) (by unfold Nr;grind) a1 hR hC;have b2:=nL (x:=s) (y:=s) (a:=R) (b:=R) (by unfold Nr;grind) (by unfold Nr;grind) hR hR;have e1:s - 0=s:=by grind
   rw[e1] at a2;have b3:C*(s*s)<=C*(R*R):=Rat.mul_le_mul_of_nonneg_left (by unfold Nr at b2;grind) hC;unfold Nr at*;constructor<;>grind
  refine⟨(K+(R*C+C*(R*R))+R*C)+(R*C+C+2*(R*C)),by grind,fun s t h1 h2 h3 h4=>?_⟩;obtain⟨a1,a2⟩:=h s t h1 h2 h3 h4;have hq:=kg (t - s);constructor
  .have c1:=hF s h1 h2;have c2:=nL (x:=s) (y:=f s) (a:=R) (b:=C) (by unfold Nr;grind) a1 hR hC;have z:=Nr.add c1 c2;rw[show(0:Rat)+0=0 by grind] at z;exact z.mono (by grind)
  obtain⟨d,hd⟩:=Hg (t - s);obtain⟨w,Z9,hw1,NA,UX⟩: ∃ w:Rat,0<=w/\Nr d 0 w/\w*w=d*d/\w<=2*R:=by
   rcases(by grind:0<=d\/d<=0) with h | h
   .exact⟨d,h,by unfold Nr;grind,rfl,by grind⟩
   exact⟨-d,by grind,by unfold Nr;grind,by grind,by grind⟩
  rw[hd] at a2 hq ⊢;have ht:t=s+d:=by grind
  have b1:=nL (x:=d) (y:=f s) hw1 a1 Z9 hC;have c0:C*(d*d)<=w*(2*(R*C)):=by
   have:=Rat.mul_le_mul_of_nonneg_left (c:=C*w) UX (Rat.mul_nonneg hC Z9);rw[<-NA];grind
  have b2:Nr (F t - F s) 0 (w*C+w*(2*(R*C))):=by unfold Nr at*;constructor<;>grind
  have b3:=nL (x:=d) (y:=F t - F s) hw1 b2 Z9 (by have:=Rat.mul_nonneg Z9 hC;have:=Rat.mul_nonneg Z9 hRC;grind);have b4:=nL (x:=s) (y:=F t - F s - d*f s) (a:=R) (b:=C*(d*d)) (by unfold Nr;grind) (by unfold Nr at*;constructor<;>grind) hR (Rat.mul_nonneg hC hq);have e1:w*(w*C+w*(2*(R*C)))=(d*d)*(C+2*(R*C)):=by rw[<-NA];grind
  rw[e1] at b3;have qU:0<=(K+(R*C+C*(R*R))+R*C)*(d*d):=Rat.mul_nonneg (by grind) hq;show Nr (t*F t) (s*F s+d*(F s+s*f s)) _;clear hF h a2;generalize F t=Ft at*;generalize F s=Fs at*;generalize f s=fs at*;have e2:t*Ft - (s*Fs+d*(Fs+s*fs))=s*(Ft - Fs - d*fs)+d*(Ft - Fs):=by rw[ht];grind
  have e3:(K+(R*C+C*(R*R))+R*C+(R*C+C+2*(R*C)))*(d*d)=(K+(R*C+C*(R*R))+R*C)*(d*d)+R*(C*(d*d))+d*d*(C+2*(R*C)):=by grind
  rw[e3];generalize (K+(R*C+C*(R*R))+R*C)*(d*d)=Z at*;generalize R*(C*(d*d))=X at*;generalize d*d*(C+2*(R*C))=Y at*;generalize s*(Ft - Fs - d*fs)=A at*;generalize d*(Ft - Fs)=B at*;generalize t*Ft=T at*;generalize s*Fs+d*(Fs+s*fs)=V at*;unfold Nr at b3 b4 ⊢;clear b1 b2 a1 hw1 hK;constructor<;>grind
 exact⟨0,by grind,fun s t h1 h2 h3 h4=>by exfalso;grind⟩
theorem Slp.pow: ∀ k:Nat,Slp (fun x=>x^(k+1)) (fun x=>((k:Rat)+1)*x^k)
 | 0=>by
  refine((Slp.const 1).mulx).congr (fun x=>?_) (fun x=>?_)
  .rw[Rat.pow_succ,Rat.pow_zero];grind
  .have e0:((0:Nat):Rat)=0:=rfl;rw[e0,Rat.pow_zero];grind
 | k+1=>by
  refine((Slp.pow k).mulx).congr (fun x=>?_) (fun x=>?_)
  .rw[Rat.pow_succ x (k+1)];grind
  rw[yx,Rat.pow_succ x k];grind
structure Pc where
 lo:Rat
 hi:Rat
 F:Rat->Rat
 f:Rat->Rat
def Pc.Ok (p:Pc):Prop:=p.lo<=p.hi/\Slp p.F p.f
def D4:List Pc->Rat
 | []=>0
 | p::L=>(p.F p.hi - p.F p.lo)+D4 L
def Ah (y:Rat):List Pc->Rat
 | []=>0
 | p::L=>(if p.lo<y/\y<p.hi then p.f y else 0)+Ah y L
def r_ (lo hi t:Rat):Rat:=if t<=lo then lo else if hi<=t then hi else t
def BW (t:Rat):List Pc->Rat
 | []=>0
 | p::L=>p.F (r_ p.lo p.hi t)+BW t L
theorem yy: ∀ a b:List Pc,D4 (a++b)=D4 a+D4 b
 | [],b=>by simp[D4];grind
 | p::a,b=>by rw[List.cons_append,D4,D4,yy a b];grind
theorem yz (y:Rat): ∀ a b:List Pc,Ah y (a++b)=Ah y a+Ah y b
 | [],b=>by simp[Ah];grind
 | p::a,b=>by rw[List.cons_append,Ah,Ah,yz y a b];grind
theorem KK {lo hi t R:Rat} (h:lo<=hi) (h1: -R<=lo) (h2:hi<=R): -R<=r_ lo hi t/\r_ lo hi t<=R:=by
 unfold r_;split
 .constructor<;>grind
 split
 .constructor<;>grind
 constructor<;>grind
theorem Qr {lo hi s t:Rat} (h:lo<=hi) (bM:s<=t):r_ lo hi s<=r_ lo hi t/\r_ lo hi t - r_ lo hi s<=t - s:=by
 unfold r_;split<;>split<;>(try split)<;>(try split)<;>constructor<;>grind
theorem FH {R:Rat} (hR:0<=R): ∀ L:List Pc,(∀ p∈L,p.Ok/\ -R<=p.lo/\p.hi<=R)-> ∃ C,0<=C/\ ∀ s t,-R<=s->s<=t->t<=R->
 ((∀ p∈L,¬(s<=p.lo/\p.lo<=t)/\ ¬(s<=p.hi/\p.hi<=t))->Nr (BW t L) (BW s L+(t - s)*Ah s L) (C*((t - s)*(t - s))))/\Nr (BW t L) (BW s L) (C*(t - s))
 | [],_=>⟨0,by grind,fun s t _ _ _=>⟨fun _=>by unfold Nr BW Ah;grind,by unfold Nr BW;grind⟩⟩
 | p::L,hl=>by
  obtain⟨C,hC,ih⟩:=FH hR L (fun x hx=>hl x (mem_cons_of_mem _ hx));obtain⟨⟨DX,VD⟩,fR,fL⟩:=hl p (by simp);obtain⟨D,hD,hs⟩:=VD R;have hDR:=Rat.mul_nonneg hD hR;refine⟨C+(D+2*(D*R)),by grind,fun s t h1 h2 h3=>⟨fun hn=>?_,?_⟩⟩
  .have a1:=(ih s t h1 h2 h3).1 (fun x hx=>hn x (mem_cons_of_mem _ hx));obtain⟨n1,n2⟩:=hn p (by simp);have hq:=kg (t - s);have key:Nr (p.F (r_ p.lo p.hi t)) (p.F (r_ p.lo p.hi s)+(t - s)*(if p.lo<s/\s<p.hi then p.f s else 0)) (D*((t - s)*(t - s))):=by
    rcases(by grind:t<p.lo\/p.hi<s\/(p.lo<s/\t<p.hi)) with h | h | h
    .have c1:r_ p.lo p.hi t=p.lo:=by unfold r_;rw[if_pos (by grind)]
     have c2:r_ p.lo p.hi s=p.lo:=by unfold r_;rw[if_pos (by grind)]
     rw[c1,c2,if_neg (by grind)];have:=Rat.mul_nonneg hD hq;unfold Nr;constructor<;>grind
    .have c1:r_ p.lo p.hi t=p.hi:=by
      unfold r_;split
      .grind
      rw[if_pos (by grind)]
     have c2:r_ p.lo p.hi s=p.hi:=by
      unfold r_;split
      .grind
      rw[if_pos (by grind)]
     rw[c1,c2,if_neg (by grind)];have:=Rat.mul_nonneg hD hq;unfold Nr;constructor<;>grind
    have c1:r_ p.lo p.hi t=t:=by unfold r_;rw[if_neg (by grind),if_neg (by grind)]
    have c2:r_ p.lo p.hi s=s:=by unfold r_;rw[if_neg (by grind),if_neg (by grind)]
    rw[c1,c2,if_pos (by grind)];exact(hs s t h1 (by grind) (by grind) h3).2
   have b:=Nr.add key a1;have hz:0<=2*(D*R)*((t - s)*(t - s)):=Rat.mul_nonneg (by grind) hq;unfold BW Ah;generalize (if p.lo<s/\s<p.hi then p.f s else 0)=u at*;have e1:p.F (r_ p.lo p.hi s)+BW s L+(t - s)*(u+Ah s L)=p.F (r_ p.lo p.hi s)+(t - s)*u+(BW s L+(t - s)*Ah s L):=by grind
   rw[e1];refine b.mono ?_;generalize (t - s)*(t - s)=q at*;have e2:(C+(D+2*(D*R)))*q=C*q+D*q+2*(D*R)*q:=by grind
   rw[e2];grind
  have a1:=(ih s t h1 h2 h3).2;obtain⟨m1,m2⟩:=Qr DX h2;obtain⟨r1,r2⟩:=KK (t:=s) DX fR fL;obtain⟨r3,r4⟩:=KK (t:=t) DX fR fL;obtain⟨b1,b2⟩:=hs _ _ r1 r2 r3 r4;unfold BW;generalize r_ p.lo p.hi s=x at*;generalize r_ p.lo p.hi t=y at*;have c1:=nL (x:=y - x) (y:=p.f x) (a:=y - x) (b:=D) (by unfold Nr;constructor<;>grind) b1 (by grind) hD;have c2:(y - x)*(y - x)<=2*R*(y - x):=gN (by grind) (by grind);have c3:D*((y - x)*(y - x))<=D*(2*R*(y - x)):=Rat.mul_le_mul_of_nonneg_left c2 hD;have c4:(D+2*(D*R))*(y - x)<=(D+2*(D*R))*(t - s):=Rat.mul_le_mul_of_nonneg_left m2 (by grind);have e1:(C+(D+2*(D*R)))*(t - s)=C*(t - s)+(D+2*(D*R))*(t - s):=by grind
  have e2:(D+2*(D*R))*(y - x)=(y - x)*D+D*(2*R*(y - x)):=by grind
  rw[e1];rw[e2] at c4;unfold Nr at*;constructor<;>grind
theorem FI: ∀ L:List Pc,∃ R:Rat,0<=R/\ ∀ p∈L,-R<=p.lo/\p.hi<=R
 | []=>⟨0,by grind,by simp⟩
 | p::L=>by
  obtain⟨R,hR,h⟩:=FI L;obtain⟨a,ha,vn⟩: ∃ a:Rat,0<=a/\ -a<=p.lo:=by
   rcases(by grind:0<=p.lo\/p.lo<=0) with h | h
   .exact⟨p.lo,h,by grind⟩
   exact⟨-p.lo,by grind,by grind⟩
  obtain⟨b,hb,dY⟩: ∃ b:Rat,0<=b/\p.hi<=b:=by
   rcases(by grind:0<=p.hi\/p.hi<=0) with h | h
   .exact⟨p.hi,h,by grind⟩
   exact⟨-p.hi,by grind,by grind⟩
  refine⟨R+a+b,by grind,fun x hx=>?_⟩;rcases List.mem_cons.1 hx with h9 | h9
  .subst h9;constructor<;>grind
  have:=h x h9;constructor<;>grind
theorem TL (L:List Pc) (hl: ∀ p∈L,p.Ok) (Z:List Rat) (h: ∀ y,y∉Z->Ah y L=0):D4 L=0:=by
 obtain⟨R,hR,hb⟩:=FI L;obtain⟨C,hC,hn⟩:=FH hR L (fun p hp=>⟨hl p hp,hb p hp⟩);have hf:=KJ (D:=fun t=>BW t L) (C:=C) (K:=C) (Z++(L.map Pc.lo++L.map Pc.hi)) (a:= -R) (b:=R) (by grind) (fun s t h1 h2 h3 h4=>by
  have h5:=(hn s t h1 (by grind) h3).1 (fun p hp=>⟨h4 p.lo (by simp only[qr,mem_map];exact .inr (.inl ⟨p,hp,rfl⟩)),h4 p.hi (by simp only[qr,mem_map];exact .inr (.inr ⟨p,hp,rfl⟩))⟩);have h6:Ah s L=0:=h s (fun hs=>h4 s (List.mem_append_left _ hs) ⟨by grind,by grind⟩);rw[h6] at h5;have e:BW s L+(t - s)*0=BW s L:=by grind
  rw[e] at h5;exact h5) (fun s t h1 h2 h3=>(hn s t h1 h2 h3).2)
 have key: ∀ M:List Pc,(∀ p∈M,p.Ok/\ -R<=p.lo/\p.hi<=R)->BW R M - BW (-R) M=D4 M:=fun M=>by
  induction M with
  | nil=>intro _;unfold BW D4;grind
  | cons p M ih=>
   intro hM;have i1:=ih (fun x hx=>hM x (mem_cons_of_mem _ hx));obtain⟨⟨q1,_⟩,q2,q3⟩:=hM p (by simp);have c1:r_ p.lo p.hi R=p.hi:=by
    unfold r_;split<;>grind
   have c2:r_ p.lo p.hi (-R)=p.lo:=by unfold r_;rw[if_pos (by grind)]
   unfold BW D4;rw[c1,c2];grind
 have:=key L (fun p hp=>⟨hl p hp,hb p hp⟩);have hf2:BW R L=BW (-R) L:=hf;grind
theorem jW {c:List (List Raw)} {v:Nat} {x:Nat->Rat} {t:Rat} (hv:v<8) (h9: ∀ l∈c,l.length=9):
 jd c (upd x v t)↔jd (d5 c v) x/\(∀ l∈aR c v,aB l x<t)/\ ∀ u∈aE c v,t<aB u x:=by
 have key: ∀ r∈c,co r v≠0->aB r (upd x v t)=co r v*(t - aB (bZ v r) x):=fun r hr h0=>by
  have hb:=dA (h9 r hr) h0;rw[kz hb hv,lP,f_ hv (mz hb hv)]
 constructor
 .intro h
  refine⟨fun r hr=>?_,fun l hl=>?_,fun u hu=>?_⟩
  .obtain⟨h1,h2⟩:=iC.1 hr
   have:=h r h1
   rwa [f_ hv h2] at this
  .obtain⟨r,hr,h0,rfl⟩:=fj.1 hl
   have h1:=h r hr
   rw[key r hr (by grind)] at h1
   apply Classical.byContradiction
   intro hc
   have:=Rat.mul_le_mul_of_nonneg_left (c:=co r v) (show t - aB (bZ v r) x<=0 by grind) (by grind)
   grind
  obtain⟨r,hr,h0,rfl⟩:=ea.1 hu
  have h1:=h r hr
  rw[key r hr (by grind)] at h1
  apply Classical.byContradiction
  intro hc
  have:=Rat.mul_le_mul_of_nonneg_left (c:= -co r v) (show 0<=t - aB (bZ v r) x by grind) (by grind)
  grind
 rintro⟨h1,h2,h3⟩ r hr
 rcases(by grind:co r v=0\/0<co r v\/co r v<0) with h | h | h
 .rw[f_ hv h];exact h1 r (iC.2 ⟨hr,h⟩)
 .rw[key r hr (by grind)]
  exact Rat.mul_pos h (by have:=h2 _ (fj.2 ⟨r,hr,h,rfl⟩);grind)
 rw[key r hr (by grind)]
 have:=Rat.mul_pos (a:= -co r v) (b:=aB (bZ v r) x - t) (by grind) (by have:=h3 _ (ea.2 ⟨r,hr,h,rfl⟩);grind)
 grind
def Fib (S:Rat->Prop) (G:Rat->Rat) (z:Rat):Prop:=(∃ L U,L<U/\(∀ t,S t↔L<t/\t<U)/\z=G U - G L)\/((∀ t,¬S t)/\z=0)
theorem BX {S:Rat->Prop} {L U L' U':Rat} (h:L<U) (h1: ∀ t,S t↔L<t/\t<U) (h':L'<U') (h2: ∀ t,S t↔L'<t/\t<U'):L=L'/\U=U':=by
 have key: ∀ {L U L' U':Rat},L<U->(∀ t,S t↔L<t/\t<U)->L'<U'->(∀ t,S t↔L'<t/\t<U')->L<=L'/\U'<=U:=fun{L U L' U'} h h1 h' h2=>by
  constructor
  .apply Classical.byContradiction;intro hc;obtain⟨m,m1,m2,m3⟩: ∃ m,L'<m/\m<U'/\m<=L:=by
    rcases(by grind:L<U'\/U'<=L) with h9 | h9
    .exact⟨L,by grind,h9,by grind⟩
    exact⟨(L'+U') / 2,by grind,by grind,by grind⟩
   have:=(h1 m).1 ((h2 m).2 ⟨m1,m2⟩);grind
  apply Classical.byContradiction;intro hc;obtain⟨m,m1,m2,m3⟩: ∃ m,L'<m/\m<U'/\U<=m:=by
   rcases(by grind:L'<U\/U<=L') with h9 | h9
   .exact⟨U,h9,by grind,by grind⟩
   exact⟨(L'+U') / 2,by grind,by grind,by grind⟩
  have:=(h1 m).1 ((h2 m).2 ⟨m1,m2⟩);grind
 have a:=key h h1 h' h2;have b:=key h' h2 h h1;constructor<;>grind
theorem Fib.uniq {S:Rat->Prop} {G:Rat->Rat} {z w:Rat} (h:Fib S G z) (k:Fib S G w):z=w:=by
 rcases h with⟨L,U,h1,h2,h3⟩ | ⟨h1,h2⟩<;>rcases k with⟨L',U',k1,k2,k3⟩ | ⟨k1,k2⟩
 .obtain⟨e1,e2⟩:=BX h1 h2 k1 k2;rw[h3,k3,e1,e2]
 .exact absurd ((h2 ((L+U) / 2)).2 ⟨by grind,by grind⟩) (k1 _)
 .exact absurd ((k2 ((L'+U') / 2)).2 ⟨by grind,by grind⟩) (h1 _)
 rw[h2,k2]
theorem Fib.congr {S S':Rat->Prop} {G:Rat->Rat} {z:Rat} (h:Fib S G z) (e: ∀ t,S t↔S' t):Fib S' G z:=by
 have:S=S':=funext fun t=>propext (e t)
 rwa [<-this]
theorem Fib.add {S:Rat->Prop} {G K:Rat->Rat} {z w:Rat} (h:Fib S G z) (k:Fib S K w):Fib S (fun t=>G t+K t) (z+w):=by
 rcases h with⟨L,U,h1,h2,h3⟩ | ⟨h1,h2⟩<;>rcases k with⟨L',U',k1,k2,k3⟩ | ⟨k1,k2⟩
 .obtain⟨e1,e2⟩:=BX h1 h2 k1 k2;exact .inl ⟨L,U,h1,h2,by rw[h3,k3,e1,e2];grind⟩
 .exact absurd ((h2 ((L+U) / 2)).2 ⟨by grind,by grind⟩) (k1 _)
 .exact absurd ((k2 ((L'+U') / 2)).2 ⟨by grind,by grind⟩) (h1 _)
 exact .inr ⟨h1,by grind⟩
theorem Fib.cut {S:Rat->Prop} {G:Rat->Rat} {z:Rat} (h:Fib S G z) (a:Rat): ∃ z1 z2,Fib (fun t=>S t/\a<t) G z1/\Fib (fun t=>S t/\t<a) G z2/\z=z1+z2:=by
 rcases h with⟨L,U,h1,h2,h3⟩ | ⟨h1,h2⟩
 .rcases(by grind:a<=L\/U<=a\/(L<a/\a<U)) with h | h | h
  .exact⟨z,0,.inl ⟨L,U,h1,fun t=>by dsimp only;rw[h2];constructor<;>(intro _;grind),h3⟩,.inr ⟨fun t=>by dsimp only;rw[h2];intro _;grind,rfl⟩,by grind⟩
  .exact⟨0,z,.inr ⟨fun t=>by dsimp only;rw[h2];intro _;grind,rfl⟩,.inl ⟨L,U,h1,fun t=>by dsimp only;rw[h2];constructor<;>(intro _;grind),h3⟩,by grind⟩
  exact⟨G U - G a,G a - G L,.inl ⟨a,U,h.2,fun t=>by dsimp only;rw[h2];constructor<;>(intro _;grind),rfl⟩,.inl ⟨L,a,h.1,fun t=>by dsimp only;rw[h2];constructor<;>(intro _;grind),rfl⟩,by rw[h3];grind⟩
 exact⟨0,0,.inr ⟨fun t h=>h1 t h.1,rfl⟩,.inr ⟨fun t h=>h1 t h.1,rfl⟩,by rw[h2];grind⟩
def bf {α:Type} (f:α->Rat):List α->Rat
 | []=>0
 | a::l=>f a+bf f l
theorem ju {α:Type} (f:α->Rat): ∀ a b:List α,bf f (a++b)=bf f a+bf f b
 | [],b=>by simp[bf];grind
 | x::a,b=>by rw[List.cons_append,bf,bf,ju f a b];grind
theorem u6 {α β:Type} (f:β->Rat) (g:α->List β): ∀ l:List α,bf f (l.flatMap g)=bf (fun a=>bf f (g a)) l
 | []=>rfl
 | a::l=>by rw[List.flatMap_cons,ju,u6 f g l,bf]
theorem jv {α β:Type} (f:β->Rat) (g:α->β): ∀ l:List α,bf f (l.map g)=bf (fun a=>f (g a)) l
 | []=>rfl
 | a::l=>by rw[map_cons,bf,jv f g l,bf]
theorem sa {α:Type} {f g:α->Rat}: ∀ {l:List α},(∀ a∈l,f a=g a)->bf f l=bf g l
 | [],_=>rfl
 | a::l,h=>by rw[bf,bf,h a (by simp),sa (fun b hb=>h b (mem_cons_of_mem _ hb))]
theorem qG {α:Type} {f:α->Rat} {l:List α} (h: ∀ a∈l,f a=0):bf f l=0:=by
 rw[sa h];clear h
 induction l with
 | nil=>rfl
 | cons a l ih=>rw[bf,ih];grind
theorem yA {f:Nat->Rat} {n i:Nat} (hi:i<n) (h: ∀ k,k<n->k≠i->f k=0):bf f (List.range n)=f i:=by
 have e:List.range n=List.range i++i::(List.range (n - i - 1)).map (fun k=>k+(i+1)):=by
  rw[show n=i+(1+(n - i - 1)) by omega,List.range_add,List.range_add];simp[range_succ];intro a _;omega
 rw[e,ju,bf,jv,qG (fun k hk=>h k (by have:=List.mem_range.1 hk;omega) (by have:=List.mem_range.1 hk;omega)),
  qG (fun k hk=>h _ (by have:=List.mem_range.1 hk;omega) (by omega))]
 grind
theorem sb (f:Nat->Rat): ∀ n:Nat,0<n-> ∃ i,i<n/\ ∀ k,k<n->f k<=f i
 | 0,h=>absurd h (by decide)
 | 1,_=>⟨0,by decide,fun k hk=>by
  have:k=0:=by omega
  rw[this];exact Rat.le_refl⟩
 | n+2,_=>by
  obtain⟨i,hi,h⟩:=sb f (n+1) (by omega);rcases(by grind:f (n+1)<=f i\/f i<=f (n+1)) with h9 | h9
  .exact⟨i,by omega,fun k hk=>by
    by_cases e:k=n+1
    .rw[e];exact h9
    exact h k (by omega)⟩
  exact⟨n+1,by omega,fun k hk=>by
   by_cases e:k=n+1
   .rw[e];exact Rat.le_refl
   have:=h k (by omega);grind⟩
theorem Qs {n m:Nat} {lo hi:Nat->Rat} {A:Prop} {G:Rat->Rat} (hn:0<n) (hm:0<m) (hl: ∀ i k,i<n->k<n->i≠k->lo i≠lo k) (hh: ∀ i k,i<m->k<m->i≠k->hi i≠hi k)
 {g:Nat->Nat->Rat} (hg: ∀ i j,i<n->j<m->(A/\lo i<hi j/\(∀ k,k<n->k≠i->lo k<lo i)/\(∀ k,k<m->k≠j->hi j<hi k))->g i j=G (hi j) - G (lo i))
 (hz: ∀ i j,i<n->j<m-> ¬(A/\lo i<hi j/\(∀ k,k<n->k≠i->lo k<lo i)/\(∀ k,k<m->k≠j->hi j<hi k))->g i j=0):
 Fib (fun t=>A/\(∀ i,i<n->lo i<t)/\ ∀ j,j<m->t<hi j) G (bf (fun i=>bf (fun j=>g i j) (List.range m)) (List.range n)):=by
 obtain⟨i0,uj,AP⟩:=sb lo n hn
 obtain⟨j0,wt,zF⟩:=sb (fun j=> -hi j) m hm
 have R5: ∀ k,k<m->hi j0<=hi k:=fun k hk=>by have:=zF k hk;grind
 have hz1: ∀ i,i<n->i≠i0-> ∀ j,j<m->g i j=0:=fun i h1 h2 j h3=>hz i j h1 h3 (fun h=>by
  have a:=h.2.2.1 i0 uj (Ne.symm h2);have b:=AP i h1;grind)
 have DV: ∀ j,j<m->j≠j0->g i0 j=0:=fun j h1 h2=>hz i0 j uj h1 (fun h=>by
  have a:=h.2.2.2 j0 wt (Ne.symm h2);have b:=R5 j h1;grind)
 have hs:bf (fun i=>bf (fun j=>g i j) (List.range m)) (List.range n)=g i0 j0:=by
  rw[yA uj (fun k hk cX=>qG (fun j hj=>hz1 k hk cX j (List.mem_range.1 hj)))];exact yA wt (fun k hk cX=>DV k hk cX)
 rw[hs]
 by_cases h:A/\lo i0<hi j0
 .refine .inl ⟨lo i0,hi j0,h.2,fun t=>⟨fun⟨_,h2,h3⟩=>⟨h2 i0 uj,h3 j0 wt⟩,fun⟨h2,h3⟩=>⟨h.1,fun i hi=>by have:=AP i hi;grind,fun j hj=>by have:=R5 j hj;grind⟩⟩,?_⟩
  refine hg i0 j0 uj wt ⟨h.1,h.2,fun k hk cX=>?_,fun k hk cX=>?_⟩
  .have:=AP k hk
   have:=hl k i0 hk uj cX
   grind
  have:=R5 k hk
  have:=hh k j0 hk wt cX
  grind
 refine .inr ⟨fun t ⟨h1,h2,h3⟩=>h ⟨h1,?_⟩,hz i0 j0 uj wt (fun h9=>h ⟨h9.1,h9.2.1⟩)⟩
 have:=h2 i0 uj
 have:=h3 j0 wt
 grind
structure Qt (T:Kc->List Tm->Rat):Prop where
 add: ∀ k a b,T k (a++b)=T k a+T k b
 nf: ∀ k a,T k (Go.Pl.nf a)=T k a
 nil: ∀ k,T k []=0
theorem FJ {T:Kc->List Tm->Rat} (h:Qt T): ∀ {l:List RC} {r:RC},(∀ x∈l,CnK x.1)->CnK r.1->bf (fun x:RC=>T x.1 x.2) (jT l r)=T r.1 r.2+bf (fun x:RC=>T x.1 x.2) l
 | [],r,_,_=>by
  unfold jT;split
  .next h0=>rw[h0,h.nil,bf];grind
  .rfl
 | x::l,r,hl,hr=>by
  have ih:=FJ h (l:=l) (r:=r) (fun y hy=>hl y (mem_cons_of_mem _ hy)) hr;unfold jT;split
  .next h0=>rw[h0,h.nil];grind
  split
  .rw[bf,ih,bf];grind
  split
  .next h1=>
   have he:=k5 (hl x (by simp)) hr h1;have e2:T r.1 (nf (r.2++x.2))=T r.1 r.2+T x.1 x.2:=by rw[h.nf,h.add,he]
   split
   .next h2=>
    rw[h2,h.nil] at e2;rw[bf];grind
   rw[bf,bf,e2];grind
  rfl
theorem FK {T:Kc->List Tm->Rat} (h:Qt T): ∀ {l s:List RC},NF s->RcOk l->bf (fun x:RC=>T x.1 x.2) (l.foldl jT s)=bf (fun x:RC=>T x.1 x.2) s+bf (fun x:RC=>T x.1 x.2) l
 | [],s,_,_=>by rw[List.foldl_nil,bf];grind
 | r::l,s,hs,hl=>by
  have hr:=hl r (by simp);rw[List.foldl_cons,FK h (CY hs hr.1 hr.2) (fun x hx=>hl x (mem_cons_of_mem _ hx)),FJ h hs.cn hr.1,bf];grind
theorem FM {T:Kc->List Tm->Rat} (h:Qt T) {l:List RC} (hl:RcOk l):bf (fun x:RC=>T x.1 x.2) (oC l)=bf (fun x:RC=>T x.1 x.2) l:=by
 unfold oC;rw[FK h NF.nil hl,bf];grind
def D5 (m:Mn) (x:Nat->Rat):Nat->Rat
 | 0=>1
 | k+1=>D5 m x k*x k^(m.getD k 0).toNat
def mv (m:Mn) (x:Nat->Rat):Rat:=D5 m x 8
def ev (p:List Tm) (x:Nat->Rat):Rat:=vD (fun m=>mv m x) p
theorem gV (t:Tm) (p:List Tm) (x:Nat->Rat):ev (t::p) x=t.2*mv t.1 x+ev p x:=rfl
theorem pr (a b:List Tm) (x:Nat->Rat):ev (a++b) x=ev a x+ev b x:=xv _ a b
theorem BZ (p:List Tm) (x:Nat->Rat):ev (nf p) x=ev p x:=O7 _ p
theorem FO (r:Rat) (x:Nat->Rat): ∀ p:List Tm,ev (c9 p r) x=r*ev p x
 | []=>by show(0:Rat)=r*0;grind
 | t::p=>by
  have:=FO r x p;unfold c9 at this ⊢;rw[map_cons,gV,this,gV];grind
theorem i7 {m:Mn} {v k:Nat} {e:Int}:(m.set v e).getD k 0=if k=v/\v<m.length then e else m.getD k 0:=by
 rw[qa,List.getElem?_set,qa];by_cases h:v=k
 .subst h;by_cases h2:v<m.length
  .simp[h2]
  simp[h2]
 rw[if_neg h,if_neg (by omega)]
theorem B0 {m n:Mn} {x y:Nat->Rat}: ∀ {k:Nat},(∀ i,i<k->m.getD i 0=n.getD i 0/\x i=y i)->D5 m x k=D5 n y k
 | 0,_=>rfl
 | k+1,h=>by rw[D5,D5,B0 (fun i hi=>h i (by omega)),(h k (by omega)).1,(h k (by omega)).2]
theorem KL {m:Mn} {x:Nat->Rat} {v:Nat} {s:Rat} (hm:m.length=8) (hv:v<8): ∀ k,v<k->D5 m (upd x v s) k=s^(m.getD v 0).toNat*D5 (m.set v 0) x k
 | 0,h=>absurd h (by omega)
 | k+1,h=>by
  rw[D5,D5];by_cases hk:k=v
  .subst hk;rw[lP,i7,if_pos ⟨rfl,by omega⟩,B0 (n:=m.set k 0) (y:=x) (fun i hi=>⟨by rw[i7,if_neg (by omega)],xW (by omega)⟩)];show _=_*(_*x k^0);rw[Rat.pow_zero];grind
  rw[xW hk,i7,if_neg (by omega),KL hm hv k (by omega)];grind
theorem Is {m:Mn} {x:Nat->Rat} {v:Nat} {s:Rat} (hm:m.length=8) (hv:v<8):mv m (upd x v s)=s^(m.getD v 0).toNat*mv (m.set v 0) x:=KL hm hv 8 hv
theorem Yp {m:Mn} {x:Nat->Rat} {v:Nat} {s:Rat} {e:Int} (hm:m.length=8) (hv:v<8):mv (m.set v e) (upd x v s)=s^e.toNat*mv (m.set v 0) x:=by
 rw[Is (by rw[length_set];exact hm) hv,i7,if_pos ⟨rfl,by omega⟩,List.set_set]
theorem FP (x:Rat) (a:Nat): ∀ b:Nat,x^(a+b)=x^a*x^b
 | 0=>by rw[Nat.add_zero,Rat.pow_zero];grind
 | b+1=>by rw[<-Nat.add_assoc,Rat.pow_succ,Rat.pow_succ,FP x a b];grind
theorem KM {a b:Mn} {x:Nat->Rat} (ha:a.length=8) (hb:b.length=8): ∀ k,k<=8->(∀ i,i<k->0<=a.getD i 0/\0<=b.getD i 0)->D5 (fe a b) x k=D5 a x k*D5 b x k
 | 0,_,_=>by show(1:Rat)=1*1;grind
 | k+1,hk,h=>by
  have e:(fe a b).getD k 0=a.getD k 0+b.getD k 0:=by
   unfold fe;simp[qa,List.getElem?_zipWith,qb (show k<a.length by omega),qb (show k<b.length by omega)]
  obtain⟨h1,h2⟩:=h k (by omega);rw[D5,D5,D5,KM ha hb k (by omega) (fun i hi=>h i (by omega)),e,Int.toNat_add h1 h2,FP];grind
def NN (p:List Tm):Prop:= ∀ t∈p,t.1.length=8/\ ∀ k,k<8->0<=t.1.getD k 0
theorem NN.nil:NN []:=fun t ht=>by simp at ht
theorem NN.app {a b:List Tm} (ha:NN a) (hb:NN b):NN (a++b):=fun t ht=>by
 rcases List.mem_append.1 ht with h | h
 .exact ha t h
 exact hb t h
theorem NN.nf {a:List Tm} (h:NN a):NN (Go.Pl.nf a):=fun t ht=>by
 obtain⟨u,hu,he⟩:=jc ht;rw[<-he];exact h u hu
theorem NN.prod {p q:List Tm} (hp:NN p) (hq:NN q):NN (prodT p q):=fun t ht=>by
 obtain⟨s,hs,h⟩:=List.mem_flatMap.1 ht;obtain⟨u,hu,rfl⟩:=mem_map.1 h;obtain⟨a1,a2⟩:=hp s hs;obtain⟨b1,b2⟩:=hq u hu;refine⟨by simp[fe,a1,b1],fun k hk=>?_⟩;rw[u3 a1 b1 hk];have:=a2 k hk;have:=b2 k hk;omega
theorem NN.part {v:Nat} {d:Int} {p:List Tm} (h:NN p):NN (bn v d p):=fun t ht=>by
 obtain⟨u,hu,rfl⟩:=mem_map.1 ht;obtain⟨a1,a2⟩:=h u (mem_filter.1 hu).1;refine⟨by rw[length_set];exact a1,fun k hk=>?_⟩;rw[i7];split
 .exact Int.le_refl 0
 exact a2 k hk
theorem Yq {s:Tm} {q:List Tm} {x:Nat->Rat} (hs:s.1.length=8/\ ∀ k,k<8->0<=s.1.getD k 0) (hq:NN q):ev (q.map (fun t=>(fe s.1 t.1,s.2*t.2))) x=s.2*mv s.1 x*ev q x:=by
 induction q with
 | nil=>show(0:Rat)=_*0;grind
 | cons t q ih=>
  have ih:=ih (fun u hu=>hq u (mem_cons_of_mem _ hu));obtain⟨b1,b2⟩:=hq t (by simp);have e:mv (fe s.1 t.1) x=mv s.1 x*mv t.1 x:=KM hs.1 b1 8 (qp 8) (fun i hi=>⟨hs.2 i hi,b2 i hi⟩);rw[map_cons,gV,ih,gV,e];grind
theorem KN {q:List Tm} {x:Nat->Rat} (hq:NN q): ∀ {p:List Tm},NN p->ev (prodT p q) x=ev p x*ev q x
 | [],_=>by show(0:Rat)=0*_;grind
 | s::p,hp=>by
  have ih:=KN (x:=x) hq (p:=p) (fun t ht=>hp t (mem_cons_of_mem _ ht));unfold prodT at ih ⊢;rw[List.flatMap_cons,pr,ih,Yq (hp s (by simp)) hq,gV];grind
def hv:List Rat->Rat->Rat
 | [],_=>0
 | c::cs,y=>hv cs y*y+c
theorem yB {q:List Tm} (hq:NN q): ∀ {cs:List (List Tm)},(∀ c∈cs,NN c)->NN (hornT q cs)
 | [],_=>NN.nil
 | c::cs,h=>((yB hq (fun d hd=>h d (mem_cons_of_mem _ hd))).prod hq |>.app (h c (by simp))).nf
theorem KO {q:List Tm} {x:Nat->Rat} (hq:NN q): ∀ {cs:List (List Tm)},(∀ c∈cs,NN c)->ev (hornT q cs) x=hv (cs.map (fun c=>ev c x)) (ev q x)
 | [],_=>rfl
 | c::cs,h=>by
  have hc: ∀ d∈cs,NN d:=fun d hd=>h d (mem_cons_of_mem _ hd)
  rw[hornT,BZ,pr,KN hq (yB hq hc),KO hq hc,map_cons,hv]
theorem FQ (f:Nat->Rat) (y:Rat): ∀ (n k:Nat),hv ((List.range n).map (fun i=>f (i+k))) y*y^k=bf (fun i=>f (i+k)*y^(i+k)) (List.range n)
 | 0,k=>by show(0:Rat)*_=0;grind
 | n+1,k=>by
  have ih:=FQ f y n (k+1);rw[List.range_succ_eq_map,map_cons,hv,bf,List.map_map,jv];have e1:(fun i=>f (i+k)) ∘ Nat.succ=fun i=>f (i+(k+1)):=by funext i;show f (i+1+k)=_;rw[Nat.add_assoc,Nat.add_comm 1 k]
  have e2:(fun i=>f (Nat.succ i+k)*y^(Nat.succ i+k))=fun i=>f (i+(k+1))*y^(i+(k+1)):=by
   funext i;show f (i+1+k)*y^(i+1+k)=_;rw[Nat.add_assoc,Nat.add_comm 1 k]
  rw[e1,e2,<-ih,Rat.pow_succ,Nat.zero_add];grind
theorem FT {α:Type} (f g:α->Rat): ∀ l:List α,bf (fun a=>f a+g a) l=bf f l+bf g l
 | []=>by show(0:Rat)=0+0;grind
 | a::l=>by rw[bf,bf,bf,FT f g l];grind
theorem FU {v n:Nat} {x:Nat->Rat} {y:Rat} (hv:v<8): ∀ {p:List Tm},NN p->(∀ t∈p,t.1.getD v 0<n)->bf (fun i:Nat=>ev (bn v (i:Int) p) x*y^i) (List.range n)=ev p (upd x v y)
 | [],_,_=>by rw[qG (fun i _=>by show(0:Rat)*_=0;grind)];rfl
 | t::p,hp,hn=>by
  have ih:=FU (x:=x) (y:=y) hv (p:=p) (fun u hu=>hp u (mem_cons_of_mem _ hu)) (fun u hu=>hn u (mem_cons_of_mem _ hu));obtain⟨a1,a2⟩:=hp t (by simp);have h0:=a2 v hv;have h1:=hn t (by simp);have key: ∀ i:Nat,ev (bn v (i:Int) (t::p)) x*y^i=(if i=(t.1.getD v 0).toNat then t.2*mv (t.1.set v 0) x*y^i else 0)+ev (bn v (i:Int) p) x*y^i:=fun i=>by
   by_cases hi:i=(t.1.getD v 0).toNat
   .rw[if_pos hi];unfold bn;rw[List.filter_cons_of_pos (by simp only[decide_eq_true_eq];omega),map_cons,gV];grind
   rw[if_neg hi];unfold bn;rw[filter_cons_of_neg (by simp only[decide_eq_true_eq];omega)];grind
  rw[sa (fun i _=>key i),FT,ih,yA (i:=(t.1.getD v 0).toNat) (by omega) (fun k _ hk=>if_neg hk),if_pos rfl,gV,Is a1 hv];grind
theorem FW {v:Nat} {x:Nat->Rat} {p q:List Tm} (hv:v<8) (hp:NN p) (hq:NN q):ev (ff v q p) x=ev p (upd x v (ev q x)):=by
 unfold ff;rw[KO hq (fun c hc=>by
  obtain⟨i,_,rfl⟩:=mem_map.1 hc;exact hp.part)]
 unfold eE;rw[List.map_map];have h1:=FQ (fun i=>ev (bn v (i:Int) p) x) (ev q x) (lL v p+1).toNat 0;rw[Rat.pow_zero] at h1;have h2:=FU (x:=x) (y:=ev q x) (n:=(lL v p+1).toNat) hv hp (fun t ht=>by
  have:=J9 (v:=v) ht;have:=wE (v:=v) (p:=p);omega)
 rw[<-h2];have h3:(fun c=>ev c x) ∘ (fun i:Nat=>bn v (i:Int) p)=fun i:Nat=>ev (bn v ((i+0:Nat):Int) p) x:=rfl
 rw[h3];have h4:(fun i:Nat=>ev (bn v ((i+0:Nat):Int) p) x*ev q x^(i+0))=fun i:Nat=>ev (bn v (i:Int) p) x*ev q x^i:=rfl
 rw[h4] at h1;rw[<-h1];grind
theorem Slp.prim {v:Nat} {x:Nat->Rat} (hv:v<8): ∀ {p:List Tm},NN p->Slp (fun s=>ev (a_ v p) (upd x v s)) (fun s=>ev p (upd x v s))
 | [],_=>Slp.zero
 | t::p,hp=>by
  have ih:=Slp.prim (x:=x) hv (p:=p) (fun u hu=>hp u (mem_cons_of_mem _ hu));obtain⟨a1,a2⟩:=hp t (by simp);have h0:=a2 v hv;obtain⟨k,hk⟩: ∃ k:Nat,t.1.getD v 0=(k:Int):=⟨_,(Int.toNat_of_nonneg h0).symm⟩;refine((((Slp.pow k).scale (t.2 / ((k:Rat)+1)*mv (t.1.set v 0) x))).add ih).congr (fun s=>?_) (fun s=>?_)
  .unfold a_;rw[map_cons,gV];show _=t.2 / _*mv (t.1.set v _) (upd x v s)+_;rw[hk,Yp a1 hv,show((k:Int)+1).toNat=k+1 by omega,Rat.intCast_natCast];grind
  rw[gV,Is a1 hv,hk,Int.toNat_natCast];have:(k:Rat)+1≠0:=by
   have:=tD (show 0<k+1 by omega);rw[yx] at this;grind
  grind
end Go.Pl
