/- Contracts:integral.slab. -/
import Derived.Test.YtjjbkjgifdhlcaaGreatT16
import Derived.Test.YtjjbkjgifdhlcaaGreatT13
import Derived.Test.YtjjbkjgifdhlcaaGreatT1
set_option linter.all false
open Nat (reduceAdd reduceLT reduceLeDiff)
open List (append_nil filter_append filter_cons_of_neg flatMap_append getElem?_set_ne length_cons length_map length_nil length_pos_of_mem length_set length_take map_cons mem_cons_of_mem mem_filter mem_iff_getElem mem_map mem_of_mem_drop range_succ replicate)
namespace Go.Proofs.YtjjbkjgifdhlcaaGreat
open Go.AM Go.Pl
set_option maxRecDepth 100000
set_option maxHeartbeats 8000000
theorem P8 (a b:List Raw) (ha:LOk 1000000 a) (hb:LOk 1000000 b):Den Tryz.prog 146 [] [RL a,RL b] [] (RL (cu a b)):=adB a b ha hb
def lQ (f:List Raw->List Raw) (l:List (List Raw)) (i n:Nat):List (List Raw):=((List.range n).filter (fun k=>decide (k≠i))).map (fun k=>f (l.getD k []))
theorem Fl (f:List Raw->List Raw) (l:List (List Raw)) (i:Nat):lQ f l i 0=[]:=rfl
theorem Ih (f:List Raw->List Raw) (l:List (List Raw)) (i:Nat):lQ f l i (i+1)=lQ f l i i:=by
 unfold lQ;rw[range_succ,filter_append];simp
theorem Ii (f:List Raw->List Raw) (l:List (List Raw)) {i k:Nat} (h:k≠i):lQ f l i (k+1)=lQ f l i k++[f (l.getD k [])]:=by
 unfold lQ;rw[range_succ,filter_append];simp[h]
theorem CS (f:List Raw->List Raw) (l:List (List Raw)) (i n:Nat):(lQ f l i n).length<=n:=by
 unfold lQ;rw[length_map];exact gD (List.length_filter_le _ _) (by rw[List.length_range];exact qp _)
def gw (u l:List Raw):Bool:=dB (cu u l)&&decide (gk (co (cu u l) 8)<=0)
def gZ (rest lo hi:List (List Raw)) (i j:Nat):List (List Raw):=
 rest++[cu (hi.getD j []) (lo.getD i [])]++lQ (cu (lo.getD i [])) lo i lo.length++lQ (fun o=>cu o (hi.getD j [])) hi j hi.length
def n8 (rest lo hi:List (List Raw)) (p:List Tm) (v i n:Nat):List RC:=
 (List.range n).flatMap fun j=>if gw (hi.getD j []) (lo.getD i []) then [] else [(gZ rest lo hi i j,betT v (lo.getD i []) (hi.getD j []) p)]
def o7 (rest lo hi:List (List Raw)) (p:List Tm) (v n:Nat):List RC:=(List.range n).flatMap fun i=>n8 rest lo hi p v i hi.length
def eU (c:Kc) (p:List Tm) (v:Nat):List RC:=o7 (dT c v) (aN c v) (ay c v) p v (aN c v).length
theorem yi {rest lo hi:List (List Raw)} {p:List Tm} {v i n:Nat}:n8 rest lo hi p v i (n+1)=n8 rest lo hi p v i n++(if gw (hi.getD n []) (lo.getD i []) then [] else [(gZ rest lo hi i n,betT v (lo.getD i []) (hi.getD n []) p)]):=by
 unfold n8;rw[range_succ,flatMap_append,List.flatMap_singleton]
theorem yj {rest lo hi:List (List Raw)} {p:List Tm} {v n:Nat}:o7 rest lo hi p v (n+1)=o7 rest lo hi p v n++n8 rest lo hi p v n hi.length:=by
 unfold o7;rw[range_succ,flatMap_append,List.flatMap_singleton]
theorem uW (rest lo hi:List (List Raw)) (p:List Tm) (v i:Nat): ∀ n,(n8 rest lo hi p v i n).length<=n
 | 0=>by simp[n8]
 | n+1=>by
  have:=uW rest lo hi p v i n;rw[yi,qe];split<;>simp<;>omega
theorem uX (rest lo hi:List (List Raw)) (p:List Tm) (v:Nat): ∀ n,(o7 rest lo hi p v n).length<=n*hi.length
 | 0=>by simp[o7]
 | n+1=>by
  have h1:=uX rest lo hi p v n;have h2:=uW rest lo hi p v n hi.length;rw[yj,qe,Nat.add_mul];omega
structure o8 (c:Kc) (p:List Tm) (v:Nat):Prop where
 hv:v<8
 ok: ∀ l∈c,LOk 499 l
 len:c.length<=40
 bet: ∀ l∈aN c v,∀ u∈ay c v,gw u l=false->Den Tryz.prog 33 [] [PL (p.map tn),.int .i64 v,RL l,RL u] [] (.tup [PL ((betT v l u p).map tn),.int .i64 0])
def Fm (c:Kc) (p:List Tm) (v:Nat):PV:=if aN c v=[]\/ay c v=[] then .tup [.fv (.sl []),.int .i64 15] else .tup [RL' ((eU c p v).map rn),.int .i64 0]
theorem ah9 (c:Kc) (p:List Tm) (v:Nat) (h:o8 c p v):Den Tryz.prog 91 [] [.agg (TD (rn (c,p))),.int .i64 v] [] (Fm c p v):=by
 have hv:=h.hv;have nV: ∀ l∈c,LOk 1000 l:=fun l hl=>(h.ok l hl).mono (by decide)
 have Aq: ∀ b∈aN c v,LOk 999 b:=CH h.ok (by decide);have zz: ∀ b∈ay c v,LOk 999 b:=wL h.ok (by decide);have pH:=cX c v;have ajU:=h.len;obtain⟨n,cZ⟩:=aw c.length;have rl:=aA c;rw[cZ] at rl ajU pH;obtain⟨R,hR⟩:=aw (Fm c p v);rw[hR];have Jr:=h.bet;unfold Fm eU at hR;obtain⟨Pt,hPt⟩:=aw (p.map tn);rw[hPt] at Jr;have erg:TD (rn (c,p))=[.fv (.sl (au c)),.fv (.sl (aq Pt))]:=by rw[<-hPt];rfl
 rw[erg];clear erg;refine dq Tryz.func91 159 0 ?_;refine b8 rl ?_;refine wl (α:=Nat×List (List Raw)×List (List Raw)×List (List Raw)) (fun⟨i,lo,hi,out⟩=>⟨[.any,.int .i64 v,.ptr 0 0 0,.any,.nilsl,.int .i64 0,.lsl 1 0 lo.length 27,.lsl 2 0 hi.length 27,.lsl 3 0 out.length 27]++replicate 17 .any++[.fv (.sl (au c)),.int .i64 n,.int .i64 i]++replicate 132 .any,[.box true [.fv (.sl (au c)),.fv (.sl (aq Pt))],.row true (au lo),.row true (au hi),.row true (au out)]⟩)
  (fun⟨i,_⟩=>n - i) (fun⟨i,lo,hi,out⟩=>i<=n/\lo=aN (c.take i) v/\hi=ay (c.take i) v/\out=dT (c.take i) v) (0,[],[],[]) ?_ ?_ ?_
 .refine Weak.nil 6 27 (by decide) rfl ?_;refine Weak.nil 7 27 (by decide) rfl ?_;refine Weak.nil 8 27 (by decide) rfl ?_;refine eV [0,1,2,3] ?_ ?_
  .simp[bc,dX,cB]
  simp[ez,fL,c9,cB];simp[au]
 .exact⟨eH _,rfl,rfl,rfl⟩
 rintro⟨i,lo,hi,out⟩ ⟨oA,fF,fE,dG⟩;have d4:=cX (c.take i) v;rw[<-fF,<-fE,<-dG,length_take,cZ] at d4;obtain⟨L1,Z3⟩:=aw lo.length;obtain⟨L2,RO⟩:=aw hi.length;obtain⟨L3,Z4⟩:=aw out.length;have Xw:=aA lo;have AH:=aA hi;have rl3:=aA out;dsimp only;rw[Z3] at d4 Xw ⊢;rw[RO] at d4 AH ⊢;rw[Z4] at d4 rl3 ⊢;have tk1:=cv (ls:=lo) (n:=L1) (by omega);have tk2:=cv (ls:=hi) (n:=L2) (by omega);have Z5:=cv (ls:=out) (n:=L3) (by omega);refine aX ?_;refine bR ?_ ?_
 .intro h1 h2;have eO:=kg (cs:=c) (i:=i) (by omega);have bf:=ba (ls:=c) (i:=i) (by omega);have r1:=bJ c i;obtain⟨x,mU⟩:=aw (c.getD i []);rw[mU] at bf r1 eO;have hx:=nV x bf;have lx:=hx.len;have rA:=aG lx;have fx:=aP x;have gx:=ah x;have nU:=ar lx;have e0:((0:Int) !=0)=false:=rfl;by_cases h0:co x v=0
  .have wB:=OY x v hx hv h0;have wt:=mB (s:=c.take i) (v:=v) (x:=x) (by grind);have DJ:=kh (s:=c.take i) (v:=v) (x:=x) (by grind);have jc:=yf (s:=c.take i) h0;have cJ:=dj out x;unfold FL RL at wB;obtain⟨zs,SD⟩:=aw ((x.map Raw.q).map cn);have sr:zs.length=9:=by rw[<-SD];simp[lx]
   have gz:=ah zs;rw[SD] at wB;have e1:decide ((0:Int)>0)=false:=rfl;have e2:decide ((0:Int)<0)=false:=rfl;refine b9 (fw h2 r1 rA fx gx lx nU) ?_
   repeat refine ag ?_
   refine lY wB ?_;refine b9 (bT gz sr e0 e1 gx lx nU (ej rA Z5 cJ rl3)) ?_
   repeat refine ag ?_
   refine ax (i+1,lo,hi,out++[x]) ?_ ⟨by omega,by rw[eO,wt,fF],by rw[eO,DJ,fE],by rw[eO,jc,dG]⟩;exact bN [0,1,2,7]
  have wB:=WJ x v hx hv h0;have ss:(cF v x).length=9:=cj lx;have jc:=BF (s:=c.take i) h0;unfold FL RL at wB;change Den Tryz.prog 72 [] [.agg (flat x),.int .i64 v] [] (.tup [.agg (flat (cF v x)),.int .i64 (gk (x.getD v rz).q),.int .i64 0]) at wB;by_cases hp:0<co x v
  .have wt:=ye (s:=c.take i) hp;have DJ:=kh (s:=c.take i) (v:=v) (x:=x) (by grind);have cJ:=dj lo (cF v x);obtain⟨y,hy⟩:=aw (cF v x);rw[hy] at wB ss wt cJ;have gy:=ah y;have ug:=aG ss;have pG:=ar ss;rw[show gk (x.getD v rz).q=1 from rS hp] at wB;have e1:decide ((1:Int)>0)=true:=rfl;refine b9 (fw h2 r1 rA fx gx lx nU) ?_
   repeat refine ag ?_
   refine lY wB ?_;refine b9 (bT gy ss e0 e1 pG ug tk1 (aQ cJ Xw)) ?_
   repeat refine ag ?_
   refine ax (i+1,lo++[y],hi,out) ?_ ⟨by omega,by rw[eO,wt,fF],by rw[eO,DJ,fE],by rw[eO,jc,dG]⟩;exact bN [0,7,2,3]
  have mQ:co x v<0:=by grind
  have wt:=mB (s:=c.take i) (v:=v) (x:=x) hp;have DJ:=uV (s:=c.take i) mQ;have cJ:=dj hi (cF v x);obtain⟨y,hy⟩:=aw (cF v x);rw[hy] at wB ss DJ cJ;have gy:=ah y;have ug:=aG ss;have pG:=ar ss;rw[show gk (x.getD v rz).q= -1 from xD mQ] at wB;have e1:decide ((-1:Int)>0)=false:=rfl;have e2:decide ((-1:Int)<0)=true:=rfl;refine b9 (fw h2 r1 rA fx gx lx nU) ?_
  repeat refine ag ?_
  refine lY wB ?_;refine b9 (bT gy ss e0 e1 e2 pG ug (bZ tk2 cJ AH)) ?_
  repeat refine ag ?_
  refine ax (i+1,lo,hi++[y],out) ?_ ⟨by omega,by rw[eO,wt,fF],by rw[eO,DJ,fE],by rw[eO,jc,dG]⟩;exact bN [0,1,7,3]
 intro h1 h2;have gA:i=n:=by omega
 have gN:c.take i=c:=eE (by omega);rw[gN] at fF fE dG;rw[<-fF] at Aq Jr hR;rw[<-fE] at zz Jr hR;rw[<-dG] at hR;have ak: ∀ l∈out,LOk 1000 l:=fun l hl=>by rw[dG] at hl;exact nV l (fX.1 hl).1
 clear fF fE dG gN nV;by_cases hz1:L1=0
 .have e1:((L1:Int)==0)=true:=by rw[hz1];rfl
  rw[if_pos (.inl (List.length_eq_zero_iff.1 (by omega)))] at hR;subst hR;refine ae (aQ h2 e1) ?_;exact bg rfl
 have e1:((L1:Int)==0)=false:=by rw[qx];omega
 by_cases DL:L2=0
 .have e2:((L2:Int)==0)=true:=by rw[DL];rfl
  rw[if_pos (.inr (List.length_eq_zero_iff.1 (by omega)))] at hR;subst hR;refine ae (bZ h2 e1 e2) ?_;exact bg rfl
 have e2:((L2:Int)==0)=false:=by rw[qx];omega
 rw[if_neg (fun hh=>by
  rcases hh with hh | hh
  .rw[hh] at Z3;simp at Z3;omega
  rw[hh] at RO;simp at RO;omega)] at hR
 refine ae (bZ h2 e1 e2) ?_;refine wl (α:=Nat×List RC) (fun⟨i,o2⟩=>⟨[.any,.int .i64 v,.ptr 0 0 0,.any,.nilsl,.int .i64 0,.fv (.sl (au lo)),.fv (.sl (au hi)),.fv (.sl (au out))]++replicate 5 .any++[.lsl 1 0 o2.length 2]++replicate 54 .any++[.fv (.sl (au lo)),.int .i64 L1,.int .i64 i]++replicate 89 .any,[.box true [.fv (.sl (au c)),.fv (.sl (aq Pt))],.row true (a8 (o2.map rn))]⟩)
  (fun⟨i,_⟩=>L1 - i) (fun⟨i,o2⟩=>i<=L1/\o2=o7 out lo hi p v i) (0,[]) ?_ ?_ ?_
 .refine Weak.shut [1,2,3] ?_;change Weak _ ⟨_,[Ob.box true [.fv (.sl (au c)),.fv (.sl (aq Pt))],Ob.row false (au lo),Ob.row false (au hi),Ob.row false (au out)]⟩ _;refine Weak.fz 6 1 0 L1 27 (au lo) rfl rfl (by omega) ?_;refine Weak.fz 69 1 0 L1 27 (au lo) rfl rfl (by omega) ?_;refine Weak.fz 7 2 0 L2 27 (au hi) rfl rfl (by omega) ?_;refine Weak.fz 8 3 0 L3 27 (au out) rfl rfl (by omega) ?_;refine Weak.nil 14 2 (by decide) rfl ?_;refine eV [0,4] ?_ ?_
  .simp[bc,dX,cB,tk1,tk2,Z5]
  simp[ez,fL,c9,cB];simp[a8]
 .exact⟨eH _,rfl⟩
 rintro⟨i,o2⟩ ⟨oA,gB⟩;have hK2:=uX out lo hi p v i;rw[<-gB] at hK2;have AI:i*hi.length<=1600:=gD (Nat.mul_le_mul (show i<=40 by omega) (show hi.length<=40 by omega)) (by decide);obtain⟨K2,aad⟩:=aw o2.length;have rlk:=bH (o2.map rn);rw[length_map,aad] at rlk;dsimp only;rw[aad] at hK2 ⊢;refine aX ?_;refine bR ?_ ?_
 .intro g1 g2;have lA:=ba (ls:=lo) (i:=i) (by omega);have rl4:=bJ lo i;have hl:=Aq _ lA;obtain⟨l,oE⟩:=aw (lo.getD i []);rw[oE] at lA rl4 hl;have ll:=hl.len;have l27:=aG ll;have fl:=aP l;have gl:=ah l;have zC:=ar ll;refine b9 (bT g2 rl4 l27 fl gl ll Xw (aQ AH @Q8)) ?_
  repeat refine ag ?_
  refine wl (α:=Nat×List RC) (fun⟨j,o3⟩=>⟨[.any,.int .i64 v,.ptr 0 0 0,.any,.nilsl,.int .i64 0,.fv (.sl (au lo)),.fv (.sl (au hi)),.fv (.sl (au out))]++replicate 5 .any++[.lsl 1 0 o3.length 2,.int .i64 i,.ptr 2 0 0]++replicate 52 .any++[.fv (.sl (au lo)),.int .i64 L1,.int .i64 i]++replicate 4 .any++[.fv (.sl (au hi)),.int .i64 L2,.int .i64 j]++replicate 82 .any,[.box true [.fv (.sl (au c)),.fv (.sl (aq Pt))],.row true (a8 (o3.map rn)),.box true (flat l)]⟩)
   (fun⟨j,_⟩=>L2 - j) (fun⟨j,o3⟩=>j<=L2/\o3=o2++n8 out lo hi p v i j) (0,o2) ?_ ?_ ?_
  .exact vf [0,1,2]
  .exact⟨eH _,by simp[n8]⟩
  rintro⟨j,o3⟩ ⟨Sx,Lw⟩;have hK3:=uW out lo hi p v i j;obtain⟨K3,aae⟩:=aw o3.length;have an7:K3<=1700:=by
   rw[<-aae,Lw,qe,aad];omega
  have afp:=bH (o3.map rn);rw[length_map,aae] at afp;dsimp only;rw[aae];refine aX ?_;refine bR ?_ ?_
  .intro g3 g4;have Lr:=ba (ls:=hi) (i:=j) (by omega);have rl5:=bJ hi j;have hu:=zz _ Lr;obtain⟨u,huu⟩:=aw (hi.getD j []);rw[huu] at Lr rl5 hu;have lu:=hu.len;have u27:=aG lu;have fu:=aP u;have gu:=ah u;have DK:=ar lu;have sv:=P8 u l (hu.mono (by decide)) (hl.mono (by decide));have Lu:=fW lu ll;have NM:=wK hu hl (by decide);have hsj:=yi (rest:=out) (lo:=lo) (hi:=hi) (p:=p) (v:=v) (i:=i) (n:=j);rw[oE,huu] at hsj;have jd:gw u l=(dB (cu u l)&&decide (gk (co (cu u l) 8)<=0)):=rfl;obtain⟨d,hd⟩:=aw (cu u l);rw[hd] at sv Lu NM jd;have afq:LOk 2000 d:=NM;have gd:=ah d;have VE:=ar Lu;have d27:=aG Lu;have SH:=oZ Lu;have R3:=Pb d (afq.mono (by decide));have Nz:=mf (d.getD 8 rz) ((afq.at 8).mono (by decide))
   have vZ:co d 8=(d.getD 8 rz).q:=rfl;obtain⟨r,hr⟩:=aw (d.getD 8 rz);rw[hr] at Nz SH vZ;rw[vZ] at jd;unfold Raw.v at Nz;unfold RL at sv R3;obtain⟨b,hb⟩:=aw (dB d);rw[hb] at R3 jd;by_cases VL:gw u l=true
   .rw[VL] at jd;have dV:b=true:=by cases b<;>simp at jd ⊢
    have tU:decide (gk r.q<=0)=true:=by rw[dV] at jd;simpa using jd.symm
    subst dV;rw[if_pos VL,append_nil] at hsj;refine b9 (bT g4 rl5 u27 fu gu lu DK (ej gl ll zC AH)) ?_
    repeat refine ag ?_
    refine lY sv ?_;refine Li ?_
    repeat refine ag ?_
    refine lY R3 ?_;refine b9 (fM gu lu DK gl ll zC) ?_
    repeat refine ag ?_
    refine lY sv ?_;refine b9 (bZ SH gd Lu) ?_
    repeat refine ag ?_
    refine aW Nz ?_;refine ae (aQ tU @append_nil.{0}) ?_;refine ax (j+1,o3) ?_ ⟨by omega,by rw[Lw,hsj]⟩;exact vf [0,1,2]
   have afr:gw u l=false:=by simpa using VL
   rw[if_neg VL] at hsj;have h33:=Jr l lA u Lr afr;have afs:=Yp out (fun f hf=>(ak f hf).len) (by omega);have rl6:=aA out;rw[Z4] at rl6 afs;have cJ:=dj out d;have tk6:=cv (ls:=out) (n:=L3) (by omega);obtain⟨q,hq⟩:=aw (betT v l u p);rw[hq] at h33 hsj;unfold RL at h33;have al9: ∀ X:St->Prop,X=X:=fun _=>rfl
   refine b9 (bT g4 rl5 u27 fu gu lu DK (ej gl ll zC AH)) ?_
   repeat refine ag ?_
   refine lY sv ?_;refine Li ?_
   repeat refine ag ?_
   refine lY R3 ?_;cases b
   case' true=>
    have tU:decide (gk r.q<=0)=false:=by rw[afr] at jd;simpa using jd.symm
    refine b9 (fM gu lu DK gl ll zC) ?_
    repeat refine ag ?_
    refine lY sv ?_;refine b9 (bZ SH gd Lu) ?_
    repeat refine ag ?_
    refine aW Nz ?_;simp -dsimp(disch:=omega) only[append_nil,tU,↓reduceIte,reduceAdd,ru]
   case' false=>
    simp -dsimp(disch:=omega) only[jq,append_nil,jQ,↓reduceIte,reduceAdd]
   all_goals
    refine dw (by kernel_rfl) ?_;refine a9 ?_;refine aW afs ?_;refine ae (fw gu lu DK gl ll zC @append_nil.{0}) ?_
    repeat refine ag ?_
    refine lY sv ?_;refine b9 (fM gd Lu d27 tk6 cJ rl6) ?_
    repeat refine ag ?_
    clear Nz R3 jd SH;refine wl (α:=Nat×List (List Raw)) (fun⟨k,cs⟩=>⟨[.any,.int .i64 v,.ptr 0 0 0,.any,.nilsl,.int .i64 0,.fv (.sl (au lo)),.fv (.sl (au hi)),.fv (.sl (au out))]++replicate 5 .any++[.lsl 1 0 K3 2,.int .i64 i,.ptr 2 0 0,.int .i64 j,.ptr 3 0 0,.ptr 5 0 0]++replicate 49 .any++[.fv (.sl (au lo)),.int .i64 L1,.int .i64 i]++replicate 4 .any++[.fv (.sl (au hi)),.int .i64 L2,.int .i64 j]++replicate 24 .any++[.fv (.sl (au lo)),.int .i64 L1,.int .i64 k]++replicate 55 .any,[.box true [.fv (.sl (au c)),.fv (.sl (aq Pt))],.row true (a8 (o3.map rn)),.box true (flat l),.box true (flat u),.row true (au cs),.box true [.lsl 4 0 cs.length 27,.nilsl]]⟩)
     (fun⟨k,_⟩=>L1 - k) (fun⟨k,cs⟩=>k<=L1/\cs=(out++[d])++lQ (cu l) lo i k) (0,out++[d]) ?_ ?_ ?_
    .refine eV [0,1,2,3,6,7] ?_ ?_
     .simp[bc,dX,cB]
      try omega
     simp[ez,fL,c9,cB,dp]
     try omega
    .exact⟨eH _,by rw[Fl,append_nil]⟩
    rintro⟨k,cs⟩ ⟨jD,eI⟩;have fG:cs.length<=L3+1+k:=by
     have:=CS (cu l) lo i k;rw[eI,qe,qe,N6,Z4];omega
    obtain⟨C,hC⟩:=aw cs.length;have rlc:=aA cs;rw[hC] at rlc fG;have tkc:=cv (ls:=cs) (n:=C) (by omega);dsimp only;rw[hC];refine aX ?_;refine bR ?_ ?_
    .intro f1 f2;have Xz:=ba (ls:=lo) (i:=k) (by omega);have rlo:=bJ lo k;have c_:=fun hh=>Ii (cu l) lo (i:=i) (k:=k) hh
     have ho:=Aq _ Xz;obtain⟨o,iP⟩:=aw (lo.getD k []);rw[iP] at Xz rlo ho c_;have lo':=ho.len;have o27:=aG lo';have fo:=aP o;have go:=ah o;have aaf:=ar lo';by_cases Cd:k=i
     .have e5:((k:Int) !=(i:Int))=false:=by rw[Cd];simp
      refine b9 (bT f2 rlo o27 fo go lo' Xw e5) ?_
      repeat refine ag ?_
      refine ax (k+1,cs) ?_ ⟨by omega,by rw[eI,Cd,Ih]⟩;refine eV [0,1,2,3,4,5] ?_ ?_
      .simp[bc,dX,cB]
       try omega
      simp[ez,fL,c9,cB,dp]
      try omega
     have e5:((k:Int) !=(i:Int))=true:=by simp;omega
     have sv:=P8 l o (hl.mono (by decide)) (ho.mono (by decide));have kO:(cu l o).length=9:=fW ll lo';have R4:=dj cs (cu l o);have tY:=c_ Cd;obtain⟨e,Oe⟩:=aw (cu l o);change _=_++[cu l o] at tY;rw[Oe] at sv kO R4 tY;have ge:=ah e;have ajV:=ar kO;have e27:=aG kO;unfold RL at sv;refine b9 (bT f2 rlo o27 fo go lo' Xw e5) ?_
     repeat refine ag ?_
     refine dw (by kernel_rfl) ?_;refine ae (fM gl ll zC go lo' aaf) ?_
     repeat refine ag ?_
     refine lY sv ?_;refine b9 (fM ge kO e27 tkc R4 rlc) ?_
     repeat refine ag ?_
     refine ax (k+1,cs++[e]) ?_ ⟨by omega,by rw[tY,eI];simp⟩;refine eV [0,1,2,3,8,5] ?_ ?_
     .simp[bc,dX,cB]
      try omega
     simp[ez,fL,c9,cB,dp]
     try omega
    intro f1 f2;have hke:k=L1:=by omega
    rw[hke] at eI;clear tkc;have ajY:=eI;have an9:cs.length<=L3+1+L1:=by omega
    refine ae (aQ f2 AH) ?_;refine wl (α:=Nat×List (List Raw)) (fun⟨k,ct⟩=>⟨[.any,.int .i64 v,.ptr 0 0 0,.any,.nilsl,.int .i64 0,.fv (.sl (au lo)),.fv (.sl (au hi)),.fv (.sl (au out))]++replicate 5 .any++[.lsl 1 0 K3 2,.int .i64 i,.ptr 2 0 0,.int .i64 j,.ptr 3 0 0,.ptr 5 0 0]++replicate 49 .any++[.fv (.sl (au lo)),.int .i64 L1,.int .i64 i]++replicate 4 .any++[.fv (.sl (au hi)),.int .i64 L2,.int .i64 j]++replicate 43 .any++[.fv (.sl (au hi)),.int .i64 L2,.int .i64 k]++replicate 36 .any,[.box true [.fv (.sl (au c)),.fv (.sl (aq Pt))],.row true (a8 (o3.map rn)),.box true (flat l),.box true (flat u),.row true (au ct),.box true [.lsl 4 0 ct.length 27,.nilsl]]⟩)
     (fun⟨k,_⟩=>L2 - k) (fun⟨k,ct⟩=>k<=L2/\ct=cs++lQ (fun o=>cu o u) hi j k) (0,cs) ?_ ?_ ?_
    .refine eV [0,1,2,3,4,5] ?_ ?_
     .simp[bc,dX,cB]
      try omega
     simp[ez,fL,c9,cB,dp]
     try omega
    .exact⟨eH _,by rw[Fl,append_nil]⟩
    rintro⟨k,ct⟩ ⟨jD,eI⟩;have fG:ct.length<=(L3+1+L1)+k:=by
     have:=CS (fun o=>cu o u) hi j k;rw[eI,qe];omega
    obtain⟨C,hC⟩:=aw ct.length;have rlc:=aA ct;rw[hC] at rlc fG;have tkc:=cv (ls:=ct) (n:=C) (by omega);dsimp only;rw[hC];refine aX ?_;refine bR ?_ ?_
    .intro f1 f2;have Xz:=ba (ls:=hi) (i:=k) (by omega);have rlo:=bJ hi k;have c_:=fun hh=>Ii (fun o=>cu o u) hi (i:=j) (k:=k) hh
     have ho:=zz _ Xz;obtain⟨o,iP⟩:=aw (hi.getD k []);rw[iP] at Xz rlo ho c_;have lo':=ho.len;have o27:=aG lo';have fo:=aP o;have go:=ah o;have aaf:=ar lo';by_cases Cd:k=j
     .have e5:((k:Int) !=(j:Int))=false:=by rw[Cd];simp
      refine b9 (bT f2 rlo o27 fo go lo' AH e5) ?_
      repeat refine ag ?_
      refine ax (k+1,ct) ?_ ⟨by omega,by rw[eI,Cd,Ih]⟩;refine eV [0,1,2,3,4,5] ?_ ?_
      .simp[bc,dX,cB]
       try omega
      simp[ez,fL,c9,cB,dp]
      try omega
     have e5:((k:Int) !=(j:Int))=true:=by simp;omega
     have sv:=P8 o u (ho.mono (by decide)) (hu.mono (by decide));have kO:(cu o u).length=9:=fW lo' lu;have R4:=dj ct (cu o u);have tY:=c_ Cd;obtain⟨e,Oe⟩:=aw (cu o u);change _=_++[cu o u] at tY;rw[Oe] at sv kO R4 tY;have ge:=ah e;have ajV:=ar kO;have e27:=aG kO;unfold RL at sv;refine b9 (bT f2 rlo o27 fo go lo' AH e5) ?_
     repeat refine ag ?_
     refine dw (by kernel_rfl) ?_;refine ae (fM gu lu DK go lo' aaf) ?_
     repeat refine ag ?_
     refine lY sv ?_;refine b9 (fM ge kO e27 tkc R4 rlc) ?_
     repeat refine ag ?_
     refine ax (k+1,ct++[e]) ?_ ⟨by omega,by rw[tY,eI];simp⟩;refine eV [0,1,2,3,8,5] ?_ ?_
     .simp[bc,dX,cB]
      try omega
     simp[ez,fL,c9,cB,dp]
     try omega
    intro f1 f2;have hke:k=L2:=by omega
    rw[hke] at eI;clear tkc;have afu:ct=gZ out lo hi i j:=by
     unfold gZ;rw[oE,huu,hd,Z3,RO,eI,ajY]
    have tkc:=cv (ls:=ct) (n:=C) (by omega);have ajZ:a8 (o3.map rn)++[[FV.sl (au ct),FV.sl (aq (q.map tn))]]=a8 ((o3++[(ct,q)]).map rn):=by
     rw[v8];exact i6 _ (rn (ct,q))
    have tk7:=dQ (l:=o3.map rn) (n:=K3) (by rw[length_map];omega);have e6:((0:Int) !=0)=false:=rfl;refine ae (fw f2 gl ll zC gu lu DK) ?_
    repeat refine ag ?_
    refine lY h33 ?_;refine b9 (fw e6 tkc rlc ajZ tk7 afp @qp) ?_
    repeat refine ag ?_
    refine ax (j+1,o3++[(ct,q)]) ?_ ⟨by omega,by rw[Lw,hsj,afu,qlb]⟩;exact vf [0,7,2]
  intro g3 g4;have Oj:j=L2:=by omega
  rw[Oj,<-RO] at Lw;refine ae g4 ?_;refine ax (i+1,o3) ?_ ⟨by omega,by rw[yj,Lw,gB]⟩;exact bN [0,1]
 intro g1 g2;have l7:i=L1:=by omega
 rw[l7,<-Z3] at gB;rw[<-gB] at hR;subst hR;have tk:=dQ (l:=o2.map rn) (n:=K2) (by rw[length_map];omega);refine ae g2 ?_;refine Sp (vs:=[.lsl 1 0 K2 2,.int .i64 0]) rfl ⟨cS,cS,cS⟩ (show tN [Ob.box true [.fv (.sl (au c)),.fv (.sl (aq Pt))],Ob.row true (a8 (o2.map rn))] [] (.tup [.lsl 1 0 K2 2,.int .i64 0])=_ from ?_);exact lX (aQ tk rlk)
def missB (v:Nat) (r:RC):Bool:=(aN r.1 v).isEmpty||(ay r.1 v).isEmpty
def elimO (M:List RC) (v:Nat):List RC:=M.flatMap (fun r=>eU r.1 r.2 v)
theorem qw {v:Nat} {r:RC}:missB v r=true↔aN r.1 v=[]\/ay r.1 v=[]:=by
 unfold missB;rw[Bool.or_eq_true,List.isEmpty_iff,List.isEmpty_iff]
def Ij (c:Int):PV:= .tup [.fv (.sl []),.int .i64 c]
theorem aia (L:List RR) (M N:List RC) (v:Nat) (hv:v<8) (Ax:Den Tryz.prog 90 [] [RL' L] [] (.tup [RL' (M.map rn),.int .i64 0])) (hM:M.length<=100000) (hs: ∀ r∈M,o8 r.1 r.2 v)
 (aD:(elimO M v).length<=10000000)
 (aj0:M.any (missB v)=false->Den Tryz.prog 90 [] [RL' ((elimO M v).map rn)] [] (.tup [RL' (N.map rn),.int .i64 0])):
 Den Tryz.prog 36 [] [RL' L,.int .i64 v] [] (if M.any (missB v)=true then Ij 15 else .tup [RL' (N.map rn),.int .i64 0]):=by
 obtain⟨R,hR⟩:=aw ((if M.any (missB v)=true then Ij 15 else .tup [RL' (N.map rn),.int .i64 0]))
 rw[hR]
 have rl:=bH (M.map rn)
 rw[length_map] at rl
 obtain⟨n,cZ⟩:=aw M.length
 rw[cZ] at rl hM
 have e0:((0:Int) !=0)=false:=rfl
 have e1:decide ((v:Int)<0)=false:=sB
 have e2:decide ((v:Int)>=8)=false:=sB
 refine dq Tryz.func36 47 0 ?_
 refine aX ?_
 refine aW Ax ?_
 refine ae (ej e0 e1 e2 rl) ?_
 refine wl (α:=Nat×List RC) (fun⟨i,out⟩=>⟨[.any,.int .i64 v,.any,.any,.nilsl,.int .i64 0,.any,.lsl 0 0 out.length 2]++replicate 18 .any++[.fv (.sl (a8 (M.map rn))),.int .i64 n,.int .i64 i]++replicate 20 .any,[.row true (a8 (out.map rn))]⟩)
  (fun⟨i,_⟩=>n - i) (fun⟨i,out⟩=>i<=n/\out=elimO (M.take i) v/\(M.take i).any (missB v)=false) (0,[]) ?_ ?_ ?_
 .refine Weak.nil 7 2 (by decide) rfl ?_
  refine eV [0] ?_ ?_
  .simp[bc,dX,cB]
  simp[ez,fL]
  simp[a8]
 .exact⟨eH _,rfl,rfl⟩
 rintro⟨i,out⟩ ⟨h1,h2,h3⟩
 have zP:out.length<=10000000:=by
  refine gD ?_ aD;rw[h2];unfold elimO
  conv=>rhs;rw[<-List.take_append_drop i M,flatMap_append,qe]
  omega
 obtain⟨K,hK⟩:=aw out.length
 have rlo:=bH (out.map rn)
 rw[length_map,hK] at rlo
 dsimp only
 rw[hK] at zP ⊢
 refine aX ?_
 refine bR ?_ ?_
 .intro g1 g2
  obtain⟨⟨c,p⟩,hx⟩: ∃ x,M[i]?=some x:=⟨_,qb (by omega)⟩
  have SJ:(c,p)∈M:=List.mem_of_getElem? hx
  have ry:=fk (l:=M.map rn) (i:=i) (by rw[length_map];omega)
  rw[show(M.map rn).getD i sy=rn (c,p) by rw[qa,List.getElem?_map,hx];rfl] at ry
  change _=[FV.sl (au c),FV.sl (aq (p.map tn))] at ry
  have Hi:=ah9 c p v (hs _ SJ)
  change Den Tryz.prog 91 [] [.agg [.fv (.sl (au c)),.fv (.sl (aq (p.map tn)))],.int .i64 v] [] _ at Hi
  have eO:M.take (i+1)=M.take i++[(c,p)]:=by
   rw[List.take_add_one,hx];rfl
  by_cases G2:missB v (c,p)=true
  .unfold Fm at Hi
   rw[if_pos (qw.1 G2)] at Hi
   rw[if_pos (j7 SJ G2)] at hR
   subst hR
   have e3:((15:Int) !=0)=true:=rfl
   refine ae (bZ g2 ry rl) ?_
   repeat refine ag ?_
   refine aW Hi ?_
   refine ae e3 ?_
   exact bg rfl
  unfold Fm at Hi
  rw[if_neg (fun hh=>G2 (qw.2 hh))] at Hi
  have ss:elimO (M.take (i+1)) v=out++eU c p v:=by
   rw[eO,h2];unfold elimO;rw[flatMap_append,List.flatMap_singleton]
  have mW:(eU c p v).length<=10000000:=by
   refine gD ?_ aD;unfold elimO;rw[List.flatMap_def];exact(List.sublist_flatten_of_mem (List.mem_map_of_mem (f:=fun r:RC=>eU r.1 r.2 v) SJ)).length_le
  obtain⟨q,hq⟩:=aw (eU c p v)
  rw[hq] at Hi ss mW
  have rlq:=bH (q.map rn)
  rw[length_map] at rlq
  have cJ:a8 (out.map rn)++a8 (q.map rn)=a8 ((out++q).map rn):=by
   unfold a8;rw[v8,v8]
  have tk:=dQ (l:=out.map rn) (n:=K) (by rw[length_map];omega)
  have afv: ∀ y,y∈a8 (q.map rn)->y.length=2:=fun y hy=>by
   unfold a8 at hy;obtain⟨x,_,rfl⟩:=mem_map.1 hy;rfl
  have h2t:(∀ y,y∈a8 (q.map rn)->y.length=2)=True:=eq_true afv
  refine ae (bZ g2 ry rl) ?_
  repeat refine ag ?_
  refine aW Hi ?_
  refine ae (fM e0 tk cJ rlo rlq h2t) ?_
  repeat refine ag ?_
  refine ax (i+1,out++q) ?_ ⟨by omega,ss.symm,by rw[eO,qub,h3];simpa using G2⟩
  exact bN [2]
 intro g1 g2
 have gA:i=n:=by omega
 have gN:M.take i=M:=eE (by omega)
 rw[gN] at h2 h3
 have afw:=aj0 h3
 rw[<-h2] at afw
 rw[if_neg (by rw[h3];decide)] at hR
 subst hR
 have tk:=dQ (l:=out.map rn) (n:=K) (by rw[length_map];omega)
 refine ae g2 ?_
 refine gp afw (by simp[cC,iw,gj,fP,tk,rlo]) ?_
 refine a9 ?_
 exact bg rfl
theorem adC (L:List RR) (M:List RC) (v:Int) (hv:v<0\/8<=v) (Ax:Den Tryz.prog 90 [] [RL' L] [] (.tup [RL' (M.map rn),.int .i64 0])):
 Den Tryz.prog 36 [] [RL' L,.int .i64 v] [] (Ij 1):=by
 have e0:((0:Int) !=0)=false:=rfl
 unfold Ij
 by_cases h1:v<0
 .have e1:decide (v<0)=true:=ib h1
  refine dq Tryz.func36 47 0 ?_
  refine aX ?_
  refine aW Ax ?_
  refine ae (aQ e0 e1) ?_
  exact bg rfl
 have e1:decide (v<0)=false:=mX h1
 have e2:decide (v>=8)=true:=GP
 refine dq Tryz.func36 47 0 ?_
 refine aX ?_
 refine aW Ax ?_
 refine ae (bZ e0 e1 e2) ?_
 exact bg rfl
def P9 (M:List RC):Int×List Tm:=if M.any (fun r=>!r.1.isEmpty) then(2,[]) else(0,polyS' M)
def yk (E:List RC->Int->Int×List RC):List RC->List Int->Int×List RC
 | M,[]=>(0,M)
 | M,v::vs=>if(E M v).1=0 then yk E (E M v).2 vs else((E M v).1,[])
theorem CT (E:List RC->Int->Int×List RC) (M:List RC):yk E M []=(0,M):=rfl
theorem o9 (E:List RC->Int->Int×List RC) (M:List RC) (v:Int) (vs:List Int):yk E M (v::vs)=if(E M v).1=0 then yk E (E M v).2 vs else((E M v).1,[]):=rfl
def listV (x:Int×List RC):PV:=if x.1=0 then .tup [RL' (x.2.map rn),.int .i64 0] else Ij x.1
def ym (x:Int×List Tm):PV:=if x.1=0 then .tup [PL (x.2.map tn),.int .i64 0] else Ij x.1
def yn (E:List RC->Int->Int×List RC) (M:List RC) (vs:List Int):Int×List Tm:=if(yk E M vs).1=0 then P9 (yk E M vs).2 else((yk E M vs).1,[])
structure W5 (E:List RC->Int->Int×List RC) (I:List RC->Prop):Prop where
 den: ∀ M,I M-> ∀ v:Int,-9223372036854775808<=v->v<9223372036854775808->Den Tryz.prog 36 [] [RL' (M.map rn),.int .i64 v] [] (listV (E M v))
 next: ∀ M,I M-> ∀ v,(E M v).1=0->I (E M v).2
 len: ∀ M,I M->M.length<=1000000
 nf: ∀ M,I M->NF M
 one: ∀ M,I M-> ∀ r∈M,r.1=[]->POk 10000000 1024 r.2/\r.2.length<=bG
theorem KA:POk 10000000 1024 []:=⟨.nil,by simp,by simp⟩
theorem aib (E:List RC->Int->Int×List RC) (I:List RC->Prop) (hT:W5 E I) (L:List RR) (M:List RC) (vs:List Int) (hw:W64 vs) (hn:vs.length<=1000) (hI:I M) (Ax:Den Tryz.prog 90 [] [RL' L] [] (.tup [RL' (M.map rn),.int .i64 0])):
 Den Tryz.prog 40 [] [RL' L,.fv (.sl (ints vs))] [] (ym (yn E M vs)):=by
 obtain⟨R,hR⟩:=aw (ym (yn E M vs))
 rw[hR]
 have rl:=cg vs
 obtain⟨n,cZ⟩:=aw vs.length
 rw[cZ] at rl hn
 have e0:((0:Int) !=0)=false:=rfl
 refine dq Tryz.func40 56 0 ?_
 refine aX ?_
 refine aW Ax ?_
 refine ae (aQ e0 rl) ?_
 refine wl (α:=Nat×List RC) (fun⟨i,M'⟩=>⟨[.fv (.sl (a8 (M'.map rn))),.any,.any,.any,.nilsl,.int .i64 0]++replicate 14 .any++[.fv (.sl (ints vs)),.int .i64 n,.int .i64 i]++replicate 35 .any,[]⟩)
  (fun⟨i,_⟩=>n - i) (fun⟨i,M'⟩=>i<=n/\I M'/\yk E M vs=yk E M' (vs.drop i)) (0,M) ?_ ?_ ?_
 .exact bN []
 .exact⟨eH _,hI,by rw[List.drop_zero]⟩
 rintro⟨i,M'⟩ ⟨h1,h2,h3⟩
 refine aX ?_
 refine bR ?_ ?_
 .intro g1 g2
  have hi:i<vs.length:=by omega
  have hd:vs.drop i=vs.getD i 0::vs.drop (i+1):=by
   rw[qj hi,qa,qb hi];rfl
  have ry:=iS (xs:=vs) hi
  have UZ:=hw _ (qg (l:=vs) (d:=0) hi)
  obtain⟨v,hv⟩:=aw (vs.getD i 0)
  rw[hv] at hd ry UZ
  rw[hd] at h3
  have iI:=hT.den M' h2 v UZ.1 UZ.2
  have zQ:=hT.next M' h2 v
  rw[o9] at h3
  unfold listV at iI
  obtain⟨⟨c,N⟩,hE⟩: ∃ x,E M' v=x:=⟨_,rfl⟩
  rw[hE] at iI zQ h3
  dsimp only at iI zQ h3
  by_cases hc:c=0
  .subst hc
   rw[if_pos rfl] at iI h3
   refine ae (bZ g2 ry rl) ?_
   repeat refine ag ?_
   refine aW iI ?_
   refine ae e0 ?_
   refine ax (i+1,N) ?_ ⟨by omega,zQ rfl,h3⟩
   exact bN []
  rw[if_neg hc] at iI h3
  have e1:(c !=0)=true:=by simpa using hc
  unfold Ij at iI
  unfold yn at hR
  rw[h3] at hR
  dsimp only at hR
  rw[if_neg hc] at hR
  unfold ym at hR
  rw[if_neg hc] at hR
  subst hR
  refine ae (bZ g2 ry rl) ?_
  repeat refine ag ?_
  refine aW iI ?_
  refine ae e1 ?_
  exact bg rfl
 intro g1 g2
 have hd:vs.drop i=[]:=List.drop_of_length_le (by omega)
 rw[hd] at h3
 rw[CT] at h3
 unfold yn at hR
 rw[h3] at hR
 dsimp only at hR
 rw[if_pos rfl] at hR
 have rlm:=bH (M'.map rn)
 rw[length_map] at rlm
 have lA:=hT.len M' h2
 obtain⟨m,hm⟩:=aw M'.length
 rw[hm] at rlm lA
 refine ae (aQ g2 rlm) ?_
 refine wl (α:=Nat×List Tm) (fun⟨i,s⟩=>⟨[.any,.any,.any,.any,.nilsl,.int .i64 0,.any,.any,.any,.fv (.sl (aq (s.map tn)))]++replicate 26 .any++[.fv (.sl (a8 (M'.map rn))),.int .i64 m,.int .i64 i]++replicate 19 .any,[]⟩)
  (fun⟨i,_⟩=>m - i) (fun⟨i,s⟩=>i<=m/\s=polyS' (M'.take i)/\(M'.take i).any (fun r=>!r.1.isEmpty)=false) (0,[]) ?_ ?_ ?_
 .refine Weak.nil 9 11 (by decide) rfl ?_
  refine Weak.shut [0] ?_
  change Weak _ ⟨_,[Ob.row false []]⟩ _
  refine Weak.fz 9 0 0 0 11 [] rfl rfl (by simp) ?_
  refine eV [] ?_ ?_
  .simp[bc,dX,cB,aq]
  simp[ez]
 .exact⟨eH _,rfl,rfl⟩
 rintro⟨i,s⟩ ⟨k1,k2,k3⟩
 refine aX ?_
 refine bR ?_ ?_
 .intro f1 f2
  obtain⟨⟨c,p⟩,hx⟩: ∃ x,M'[i]?=some x:=⟨_,qb (by omega)⟩
  have SJ:(c,p)∈M':=List.mem_of_getElem? hx
  have ry:=fk (l:=M'.map rn) (i:=i) (by rw[length_map];omega)
  rw[show(M'.map rn).getD i sy=rn (c,p) by rw[qa,List.getElem?_map,hx];rfl] at ry
  change _=[FV.sl (au c),FV.sl (aq (p.map tn))] at ry
  have rlc:=aA c
  have eO:M'.take (i+1)=M'.take i++[(c,p)]:=by
   rw[List.take_add_one,hx];rfl
  cases c with
  | cons c0 c1=>
   have e1:decide (((c0::c1).length:Int)>0)=true:=ib (by rw[length_cons];omega);unfold P9 at hR;rw[if_pos (j7 SJ rfl)] at hR;unfold ym at hR;rw[if_neg (by decide)] at hR;obtain⟨c,pE⟩:=aw (c0::c1);rw[pE] at ry rlc e1;subst hR;refine ae (gS f2 ry rlm rlc e1) ?_
   repeat refine ag ?_
   exact bg rfl
  | nil=>
   have Ce:=hT.nf M' h2;have c_:=hT.one M' h2 _ SJ rfl;dsimp only at c_;have sC:i=0:=by
    cases i with
    | zero=>rfl
    | succ q=>
     exfalso;have h0l:0<M'.length:=by omega
     have NB:(M'[0]'h0l).1=[]:=by
      have bf:M'[0]'h0l∈M'.take (q+1):=by
       rw[mem_iff_getElem];exact⟨0,by rw[length_take];omega,by rw[List.getElem_take]⟩
      cases hh:(M'[0]'h0l).1 with
      | nil=>rfl
      | cons a b=>rw[j7 bf (by rw[hh];rfl)] at k3;cases k3
     have I7:q+1<M'.length:=by omega
     have hcq:M'[q+1]'I7=([],p):=(List.getElem?_eq_some_iff.1 hx).2;have:=List.pairwise_iff_getElem.1 Ce.sorted 0 (q+1) h0l I7 (by omega);rw[NB,hcq] at this;simp[cL] at this
   subst sC;have Lo:s=[]:=k2;subst Lo;have gh:=(Ce.can _ SJ);have l_:nf ([]++p)=polyS' (M'.take 1):=by
    have:M'.take 1=[([],p)]:=by rw[eO];rfl
    rw[this,tw gh,List.nil_append,e7 gh]
   have h97:=adj [] p KA c_.1 (by simp) c_.2 (by rw[List.nil_append,e7 gh];exact c_.2);have e1:decide ((([]:List (List Raw)).length:Int)>0)=false:=rfl;obtain⟨c,pE⟩:=aw (([]:List (List Raw)));have ZD:c.isEmpty=true:=by rw[<-pE];rfl
   rw[pE] at ry rlc e1 eO;obtain⟨s2,B_⟩:=aw (nf (([]:List Tm)++p));rw[B_] at h97 l_;refine ae (gS f2 ry rlm rlc e1) ?_
   repeat refine ag ?_
   refine aW h97 ?_;refine ae e0 ?_;refine ax (0+1,s2) ?_ ⟨by omega,l_,by rw[eO,qub,k3];simp[ZD]⟩;exact bN []
 intro f1 f2
 have gN:M'.take i=M':=eE (by omega)
 rw[gN] at k2 k3
 unfold P9 at hR
 rw[if_neg (by rw[k3];decide),<-k2] at hR
 unfold ym at hR
 rw[if_pos rfl] at hR
 subst hR
 refine ae f2 ?_
 exact bg rfl
end Go.Proofs.YtjjbkjgifdhlcaaGreat
namespace Go.Pl
open Go.AM
def Duo (v w:Nat) (Nv Nw:Int) (p:List Tm):Prop:= ∀ t∈p,t.1.length=8/\(∀ i,i<8->i≠v->i≠w->t.1.getD i 0=0)/\(0<=t.1.getD v 0/\t.1.getD v 0<=Nv)/\0<=t.1.getD w 0/\t.1.getD w 0<=Nw
def Uni (w:Nat) (N:Int) (p:List Tm):Prop:= ∀ t∈p,t.1.length=8/\(∀ i,i<8->i≠w->t.1.getD i 0=0)/\0<=t.1.getD w 0/\t.1.getD w 0<=N
theorem Uni.len8 {w:Nat} {N:Int} {p:List Tm} (h:Uni w N p):Len8 p:=fun t ht=>(h t ht).1
theorem Duo.len8 {v w:Nat} {N M:Int} {p:List Tm} (h:Duo v w N M p):Len8 p:=fun t ht=>(h t ht).1
theorem Uni.mono {w:Nat} {N M:Int} {p:List Tm} (h:Uni w N p) (hm:N<=M):Uni w M p:=fun t ht=>by
 obtain⟨a,b,c,d⟩:=h t ht;exact⟨a,b,c,by omega⟩
theorem Uni.nil {w:Nat} {N:Int}:Uni w N []:=fun t ht=>by simp at ht
theorem Uni.app {w:Nat} {N:Int} {p q:List Tm} (h:Uni w N p) (k:Uni w N q):Uni w N (p++q):=fun t ht=>by
 rcases List.mem_append.1 ht with h1 | h1
 .exact h t h1
 exact k t h1
theorem Uni.nf {w:Nat} {N:Int} {p:List Tm} (h:Uni w N p):Uni w N (Go.Pl.nf p):=fun t ht=>by
 obtain⟨x,hx,he⟩:=jV ht;rw[<-he];exact h x hx
theorem uY {a b:Mn} (ha:a.length=8) (hb:b.length=8) {i:Nat} (hi:i<8):(e_ a b).getD i 0=a.getD i 0+b.getD i 0:=by
 unfold e_;rw[qa,qa,qa,List.getElem?_zipWith,qb (by omega),qb (by omega)];rfl
theorem Uni.prod {w:Nat} {N M:Int} {p q:List Tm} (hw:w<8) (h:Uni w N p) (k:Uni w M q):Uni w (N+M) (prodT p q):=fun t ht=>by
 unfold prodT at ht;obtain⟨s,hs,ht⟩:=List.mem_flatMap.1 ht;obtain⟨u,hu,rfl⟩:=mem_map.1 ht;obtain⟨a1,a2,a3,a4⟩:=h s hs;obtain⟨b1,b2,b3,b4⟩:=k u hu;refine⟨gX a1 b1,fun i hi cM=>?_,?_⟩
 .show(e_ s.1 u.1).getD i 0=0;rw[uY a1 b1 hi,a2 i hi cM,b2 i hi cM];rfl
 show 0<=(e_ s.1 u.1).getD w 0/\(e_ s.1 u.1).getD w 0<=N+M;rw[uY a1 b1 hw];omega
theorem Uni.scale {w:Nat} {N:Int} {p:List Tm} {r:Rat} (h:Uni w N p):Uni w N (cW p r):=fun t ht=>by
 obtain⟨u,hu,rfl⟩:=mem_map.1 ht;exact h u hu
theorem lR {m:Mn} {v:Nat} {x:Int} (h:v<m.length):(m.set v x).getD v 0=x:=by
 rw[qa,qv h];rfl
theorem fZ {m:Mn} {v i:Nat} {x:Int} (h:v≠i):(m.set v x).getD i 0=m.getD i 0:=by
 rw[qa,getElem?_set_ne h,qa]
theorem Duo.part {v w:Nat} {Nv Nw:Int} {d:Int} {p:List Tm} (hv:v<8) (jE:v≠w) (h:Duo v w Nv Nw p):Uni w Nw (bj v d p):=fun t ht=>by
 unfold bj at ht;obtain⟨u,hu,rfl⟩:=mem_map.1 ht;obtain⟨a1,a2,a3,a4⟩:=h u (mem_filter.1 hu).1;refine⟨by rw[length_set];exact a1,fun i hi cM=>?_,?_⟩
 .by_cases SK:i=v
  .subst SK;exact lR (by omega)
  show(u.1.set v 0).getD i 0=0;rw[fZ (Ne.symm SK)];exact a2 i hi SK cM
 show 0<=(u.1.set v 0).getD w 0/\(u.1.set v 0).getD w 0<=Nw;rw[fZ jE];exact a4
theorem Duo.prim {v w:Nat} {Nv Nw:Int} {p:List Tm} (hv:v<8) (jE:v≠w) (h:Duo v w Nv Nw p):Duo v w (Nv+1) Nw (aU v p):=fun t ht=>by
 obtain⟨u,hu,rfl⟩:=mem_map.1 ht;obtain⟨a1,a2,a3,a4⟩:=h u hu;refine⟨by rw[length_set];exact a1,fun i hi h1 h2=>?_,?_,?_⟩
 .show(u.1.set v _).getD i 0=0;rw[fZ (Ne.symm h1)];exact a2 i hi h1 h2
 .show 0<=(u.1.set v _).getD v 0/\(u.1.set v _).getD v 0<=Nv+1;rw[lR (by omega)];omega
 show 0<=(u.1.set v _).getD w 0/\(u.1.set v _).getD w 0<=Nw;rw[fZ jE];exact a4
theorem Duo.deg {v w:Nat} {Nv Nw:Int} {p:List Tm} (hN: -1<=Nv) (h:Duo v w Nv Nw p):lJ v p<=Nv:=CB hN (fun t ht=>(h t ht).2.2.1.2)
theorem Duo.parts {v w:Nat} {Nv Nw:Int} {p:List Tm} (hv:v<8) (jE:v≠w) (h:Duo v w Nv Nw p): ∀ c∈eB v p,Uni w Nw c:=fun c hc=>by
 obtain⟨i,_,rfl⟩:=mem_map.1 hc;exact h.part hv jE
theorem Fo {w:Nat} (hw:w<8) {q:List Tm} (hq:Uni w 1 q) {N:Int}: ∀ {cs:List (List Tm)},(∀ c∈cs,Uni w N c)->Uni w (N+cs.length) (hornT q cs)
 | [],_=>Uni.nil
 | c::cs,h=>by
  have ih:=Fo hw hq (fun c hc=>h c (mem_cons_of_mem _ hc));have e:N+(((c::cs).length:Nat):Int)=N+(cs.length:Int)+1:=by rw[length_cons];omega
  rw[e];exact((ih.prod hw hq).app ((h c (by simp)).mono (by omega))).nf
theorem TM {w:Nat} (_hw:w<8) {a b:Mn} (ha:a.length=8) (hb:b.length=8) (h1: ∀ i,i<8->i≠w->a.getD i 0=0) (h2: ∀ i,i<8->i≠w->b.getD i 0=0) (h:gQ a b=true):a.getD w 0≠b.getD w 0:=fun he=>by
 refine uC h (List.ext_getElem (by omega) (fun i oA iH=>?_));have e:a.getD i 0=b.getD i 0:=by
  by_cases sD:i=w
  .rw[sD];exact he
  rw[h1 i (by omega) sD,h2 i (by omega) sD]
 rw[qa,qb oA,qa,qb iH] at e;exact e
theorem qA: ∀ (N:Nat) (l:List Int),l.Nodup->(∀ x∈l,0<=x/\x<N)->l.length<=N
 | 0,l,_,h=>by
  match l with
  | []=>simp
  | x::l=>have:=h x (by simp);omega
 | N+1,l,hd,h=>by
  by_cases hm:(N:Int)∈l
  .have h1:=qA N (l.erase N) (hd.erase _) (fun x hx=>by
    have h2:=h x (List.mem_of_mem_erase hx);have h3:x≠N:=fun he=>by rw[he] at hx;exact(List.Nodup.not_mem_erase hd) hx
    omega)
   rw[List.length_erase_of_mem hm] at h1;omega
  have h1:=qA N l hd (fun x hx=>by
   have h2:=h x hx;have h3:x≠N:=fun he=>hm (by rw[<-he];exact hx)
   omega)
  omega
theorem wO {w:Nat} (hw:w<8) {N:Nat} {p:List Tm} (hc:Canon p) (h:Uni w N p):p.length<=N+1:=by
 have h1:(p.map (fun t=>t.1.getD w 0)).Nodup:=by
  have:p.Pairwise (fun a b=>(fun t:Tm=>t.1.getD w 0) a≠(fun t:Tm=>t.1.getD w 0) b):=by
   refine List.Pairwise.imp_of_mem (fun{a b} ha hb hg=>?_) hc.sorted;exact TM hw (h a ha).1 (h b hb).1 (h a ha).2.1 (h b hb).2.1 hg
  exact List.pairwise_map.2 this
 have h2:=qA (N+1) _ h1 (fun x hx=>by
  obtain⟨t,ht,rfl⟩:=mem_map.1 hx;have:=(h t ht).2.2;omega)
 rw[length_map] at h2;exact h2
theorem DM.prim {D v F:Nat} (hF:0<F): ∀ {p:List Tm} {M:Nat},DM D p M->(∀ t∈p,0<=t.1.getD v 0/\(t.1.getD v 0+1).toNat∣F)->DM (D*F) (aU v p) (M*F)
 | [],_,_,_=>trivial
 | t::p,M,⟨z,N,h1,h2,h3⟩,he=>by
  obtain⟨h4,h5⟩:=he t (by simp);obtain⟨g,hg⟩:=h5;obtain⟨e,Oe⟩: ∃ e:Nat,t.1.getD v 0+1=(e:Int):=⟨(t.1.getD v 0+1).toNat,by omega⟩;rw[Oe,Int.toNat_natCast] at hg;have he0:e≠0:=by omega
  have vS:g≠0:=fun h0=>by rw[h0] at hg;omega
  refine⟨z*g,N*F,?_,?_,DM.prim hF h3 (fun u hu=>he u (mem_cons_of_mem _ hu))⟩
  .show t.2 / ((t.1.getD v 0:Rat)+1)=mkRat (z*g) (D*F);rw[mm,Oe,h1,hg];by_cases hD:D=0
   .subst hD;simp;rw[Rat.div_def,Rat.zero_mul]
   have e1:mkRat (z*g) (D*(e*g))=mkRat z (D*e):=by
    rw[show D*(e*g)=(D*e)*g by rw[Nat.mul_assoc]];exact(rO (z:=z) (D:=D*e) vS).symm
   rw[e1];have e2:((e:Int):Rat)≠0:=m_ (by omega);have e3:mkRat z D=mkRat z (D*e)*((e:Int):Rat):=by
    rw[show((e:Int):Rat)=mkRat (e:Int) 1 by rw[Rat.mkRat_one],rP,Nat.mul_one,<-rO he0]
   rw[e3];grind
  have h6:(z*(g:Int)).natAbs=z.natAbs*g:=by rw[Int.natAbs_mul,Int.natAbs_natCast]
  rw[h6];have h7:z.natAbs*g<=z.natAbs*F:=Nat.mul_le_mul_left _ (Nat.le_of_dvd hF ⟨e,by rw[hg,Nat.mul_comm]⟩);have h8:=qn F h2;rw[Nat.add_mul] at h8;omega
theorem PB.prim {k v F:Nat} {p:List Tm} (hF:0<F) (hFB:F<B) (h:PB k p) (he: ∀ t∈p,0<=t.1.getD v 0/\(t.1.getD v 0+1).toNat∣F):PB (k+1) (aU v p):=by
 obtain⟨D,M,h1,h2,h3,h4⟩:=h;have hp:0<B^k:=JE (by decide);refine⟨D*F,M*F,Nat.mul_pos h1 hF,?_,?_,h4.prim hF he⟩
 .rw[Nat.pow_succ];exact Nat.mul_lt_mul'' h2 hFB
 rw[Nat.pow_succ];exact Nat.mul_lt_mul'' h3 hFB
structure U1 (w N k:Nat) (p:List Tm):Prop where
 can:Canon p
 uni:Uni w N p
 pb:PB k p
theorem PB.flat {k:Nat} (hk:1<=k): ∀ {l:List (List Tm)},(∀ p∈l,PB k p)->PB (l.length*(k+1)+1) l.flatten
 | [],_=>(PB.nil (qp 1)).mono (by simp)
 | p::l,h=>by
  have ih:=PB.flat hk (fun q hq=>h q (mem_cons_of_mem _ hq));refine((h p (by simp)).append ih).mono ?_;rw[length_cons,Nat.add_mul];omega
end Go.Pl
namespace Go.Proofs.YtjjbkjgifdhlcaaGreat
open Go.AM Go.Pl
set_option maxRecDepth 100000
set_option maxHeartbeats 4000000
theorem yo: ∀ {p:List Tm} {t:Tm},Canon p->t∈p->bM t.1 p=t.2
 | x::p,t,h,ht=>by
  rcases List.mem_cons.1 ht with h1 | h1
  .rw[h1];exact h.sum_head
  have cM:=uC (h.head t h1);have ih:=yo h.tail h1;rw[bM,if_neg cM,ih];grind
theorem BH {m:Mn}: ∀ {T:List Tm},(∀ t∈T,t.1=m->t.2=0)->bM m T=0
 | [],_=>rfl
 | t::T,h=>by
  rw[bM,BH (fun u hu=>h u (mem_cons_of_mem _ hu))];by_cases he:t.1=m
  .rw[if_pos he,h t (by simp) he];grind
  rw[if_neg he];grind
theorem jy {i j:Nat} (hj:j<8):(z8.set i 1).getD j 0=if i=j then 1 else 0:=by
 by_cases h:i=j
 .subst h;rw[if_pos rfl,lR (by rw[bX];exact hj)]
 rw[if_neg h,fZ h];unfold z8;rw[qa,List.getElem?_replicate];split<;>rfl
theorem qB {j:Nat}:z8.getD j 0=0:=by
 unfold z8;rw[qa,List.getElem?_replicate];split<;>rfl
structure FOk (w j:Nat) (l:List Raw):Prop where
 ok:LOk j l
 one: ∀ i,i<8->i≠w->co l i=0
theorem o_ (l:List Raw):Canon (dZ l):=cV (fun t ht=>by
 obtain⟨u,hu,rfl⟩:=mem_map.1 ht;unfold gv at hu;rcases List.mem_append.1 hu with h | h
 .obtain⟨j,_,rfl⟩:=mem_map.1 h;show(z8.set j 1).length=8;rw[length_set,bX]
 rw[qz] at h;rw[h];exact bX)
theorem BI {w j:Nat} {l:List Raw} (hw:w<8) (h:FOk w j l):Uni w 1 (dZ l):=fun t ht=>by
 have hc:=o_ l;have jL:=yo hc ht;have GX:=hc.nz t ht;unfold dZ at jL;rw[rM] at jL;obtain⟨x,hx,he⟩:=jV ht;obtain⟨u,hu,rfl⟩:=mem_map.1 hx;have w7:=hu;unfold gv at hu;rcases List.mem_append.1 hu with h1 | h1
 .obtain⟨i,hi,rfl⟩:=mem_map.1 h1;have uc:=List.mem_range.1 hi;have Hn:t.1=z8.set i 1:=he.symm;by_cases sD:i=w
  .subst sD;rw[Hn];refine⟨by rw[length_set,bX],fun k hk cM=>?_,?_⟩
   .rw[jy hk,if_neg (Ne.symm cM)]
   rw[jy hw,if_pos rfl];omega
  exfalso;refine GX ?_;rw[<-jL];refine BH (fun t2 Je he3=>?_);obtain⟨u2,w7,rfl⟩:=mem_map.1 Je;unfold gv at w7;have he4:u2.1=z8.set i 1:=by rw[<-Hn];exact he3
  rcases List.mem_append.1 w7 with h5 | h5
  .obtain⟨k,hk,rfl⟩:=mem_map.1 h5;have hk8:=List.mem_range.1 hk;have e5:=congrArg (fun m:List Int=>m.getD i 0) he4;dsimp only at e5;rw[jy uc,jy uc,if_pos rfl] at e5;by_cases Cd:k=i
   .subst Cd;exact h.one k hk8 sD
   rw[if_neg Cd] at e5;omega
  rw[qz] at h5;subst h5;have e5:=congrArg (fun m:List Int=>m.getD i 0) he4;dsimp only at e5;rw[jy uc,if_pos rfl,qB] at e5;omega
 rw[qz] at h1;subst h1;rw[<-he];exact⟨bX,fun k _ _=>qB,by show 0<=z8.getD w 0/\z8.getD w 0<=1;rw[qB];omega⟩
theorem KB {w:Nat} {N:Int} {p:List Tm} (h:Uni w N p) (hN:0<=N): ∀ t∈p,∀ e∈t.1,0<=e/\e<=N:=fun t ht e he=>by
 obtain⟨a1,a2,a3⟩:=h t ht;obtain⟨i,hi,rfl⟩:=mem_iff_getElem.1 he;have e1:t.1.getD i 0=t.1[i]:=by rw[qa,qb hi];rfl
 rw[<-e1];by_cases sD:i=w
 .rw[sD];exact a3
 rw[a2 i (by omega) sD];omega
theorem CU {v w:Nat} {N M K:Int} {p:List Tm} (h:Duo v w N M p) (hN:N<=K) (hM:M<=K) (hK:0<=K): ∀ t∈p,∀ e∈t.1,0<=e/\e<=K:=fun t ht e he=>by
 obtain⟨a1,a2,a3,a4⟩:=h t ht;obtain⟨i,hi,rfl⟩:=mem_iff_getElem.1 he;have e1:t.1.getD i 0=t.1[i]:=by rw[qa,qb hi];rfl
 rw[<-e1];by_cases sD:i=w
 .rw[sD];omega
 by_cases SK:i=v
 .rw[SK];omega
 rw[a2 i (by omega) SK sD];omega
theorem CV {w:Nat} {N:Int} {p:List Tm} {j k:Nat} {E:Int} (h:Uni w N p) (hN:0<=N) (hE:N<=E) (hb:PB j p) (hj:1<=j) (hk:j<=k):LOkT k E p:=
 ⟨h.len8,fun t ht=>(hb.bd hj t ht).mono hk,fun t ht e he=>by have:=KB h hN t ht e he;omega⟩
theorem P_ {v w Nv Nw kp kq:Nat} {p q:List Tm} (hv:v<8) (hw:w<8) (jE:v≠w) (_hp:Canon p) (hd:Duo v w Nv Nw p) (hb:PB kp p) (hqc:Canon q) (hq:Uni w 1 q) (hqb:PB kq q) (hN:Nw+Nv<=9) (jD:1<=kp)
 (hk:(Nv+1)*(kq+kp+1)+1+kq<=900000):Kn q (eB v p)/\Uni w ((Nw+Nv+1:Nat):Int) (fe v q p)/\PB ((Nv+1)*(kq+kp+1)+1) (fe v q p):=by
 have Js:=hd.parts hv jE
 have mW:=xy v p
 have Np:=hd.deg (by omega)
 have aof:=wH (v:=v) (p:=p)
 have hpb: ∀ c∈eB v p,PB kp c:=fun c hc=>by
  obtain⟨i,_,rfl⟩:=mem_map.1 hc;exact hb.part
 have aD:(eB v p).length<=Nv+1:=by omega
 have hh: ∀ i,Uni w ((Nw+Nv+1:Nat):Int) (hornT q ((eB v p).drop i))/\PB ((Nv+1)*(kq+kp+1)+1) (hornT q ((eB v p).drop i))/\Canon (hornT q ((eB v p).drop i)):=fun i=>by
  have Lu:((eB v p).drop i).length<=Nv+1:=by rw[qt];omega
  refine⟨(Fo hw hq (fun c hc=>Js c (mem_of_mem_drop hc))).mono (by omega),(J6 hqb (fun c hc=>hpb c (mem_of_mem_drop hc))).mono ?_,oN hqc.len (fun c hc=>(Js c (mem_of_mem_drop hc)).len8)⟩;have:=qn (kq+kp+1) Lu;omega
 have ND:bG=12:=rfl
 refine⟨⟨fun i=>?_,fun i=>?_,fun c hc=>?_⟩,?_,?_⟩
 .obtain⟨h1,h2,h3⟩:=hh i
  exact⟨CV h1 (by omega) (by omega) h2 (by omega) (by omega),gD (wO hw h3 h1) (by rw[ND];omega)⟩
 .obtain⟨h1,h2,h3⟩:=hh i
  have h4:=(h1.prod hw hq).nf
  have h5:=(h2.prod hqb).nf
  have e:((Nw+Nv+1:Nat):Int)+1=((Nw+Nv+2:Nat):Int):=by omega
  rw[e] at h4
  exact⟨CV h4 (by omega) (by omega) h5 (by omega) (by omega),gD (wO hw (cV (Len8.prod h3.len hqc.len)) h4) (by rw[ND];omega)⟩
 .have h1:=Js c hc
  have h3:Canon c:=by
   obtain⟨i,_,rfl⟩:=mem_map.1 hc;exact oM _hp
  exact⟨CV h1 (by omega) (by omega) (hpb c hc) jD (by have:=Nat.le_mul_of_pos_left (kq+kp+1) (show 0<Nv+1 by omega);omega),gD (wO hw h3 h1) (by rw[ND];omega)⟩
 .have:=(hh 0).1
  rw[List.drop_zero] at this
  exact this
 have:=(hh 0).2.1
 rw[List.drop_zero] at this
 exact this
theorem Yq {v w Nv Nw kp j F:Nat} {p:List Tm} {lo hi:List Raw} (hv:v<8) (hw:w<8) (jE:v≠w) (hp:Canon p) (hd:Duo v w Nv Nw p) (hb:PB kp p) (mW:p.length<=12) (hF:0<F) (hFB:F<B)
 (Vb: ∀ d,1<=d->d<=Nv+1->d∣F) (fF:FOk w j lo) (fE:FOk w j hi) (hj:1<=j) (DN:j<=1000) (hN:Nw+Nv<=8) (jD:1<=kp) (iJ:kp<=400000)
 (K:Nat) (hK:(Nv+2)*(9*(j+1)+1+(kp+1)+1)+1=K) (hK2:K+9*(j+1)+1<=900000):
 Den Tryz.prog 33 [] [PL (p.map tn),.int .i64 v,RL lo,RL hi] [] (.tup [PL ((betT v lo hi p).map tn),.int .i64 0])/\Canon (betT v lo hi p)/\Uni w ((Nw+Nv+2:Nat):Int) (betT v lo hi p)/\PB (2*K+2) (betT v lo hi p):=by
 have ND:bG=12:=rfl
 have Xm: ∀ t∈p,0<=t.1.getD v 0:=fun t ht=>(hd t ht).2.2.1.1
 have AG:=xB (v:=v) hv hp Xm
 have afx:Duo v w ((Nv+1:Nat):Int) Nw (aU v p):=by
  have:=hd.prim hv jE;rw[show((Nv:Int)+1)=((Nv+1:Nat):Int) by omega] at this;exact this
 have afy:=hb.prim (v:=v) hF hFB (fun t ht=>⟨Xm t ht,Vb _ (by have:=Xm t ht;omega) (by have:=(hd t ht).2.2.1;omega)⟩)
 have uhi:=BI hw fE
 have ulo:=BI hw fF
 have bhi:=tx fE.ok hj
 have blo:=tx fF.ok hj
 have eK:(Nv+1+1)*(9*(j+1)+1+(kp+1)+1)+1=K:=hK
 have s1:=P_ (Nv:=Nv+1) (Nw:=Nw) hv hw jE AG afx afy (o_ hi) uhi bhi (by omega) (by omega) (by rw[eK];omega)
 have s2:=P_ (Nv:=Nv+1) (Nw:=Nw) hv hw jE AG afx afy (o_ lo) ulo blo (by omega) (by omega) (by rw[eK];omega)
 have eN:((Nw+(Nv+1)+1:Nat):Int)=((Nw+Nv+2:Nat):Int):=by omega
 rw[eN] at s1 s2
 rw[eK] at s1 s2
 have RK:Uni w ((Nw+Nv+2:Nat):Int) (betT v lo hi p):=(s1.2.1.app s2.2.1.scale).nf
 have Vx:PB (2*K+2) (betT v lo hi p):=((s1.2.2.append (s2.2.2.scale (k:=1) ⟨by decide,by decide⟩)).nf).mono (by omega)
 have Vv:Canon (betT v lo hi p):=cV (Len8.app s1.2.1.len8 s2.2.1.scale.len8)
 have afz:=CU hd (K:=1024) (by omega) (by omega) (by omega)
 have wW:=CV RK (k:=1000000000) (E:=1000000) (by omega) (by omega) Vx (by omega) (by omega)
 have hpk:POk 900000 1024 p:=⟨hp,fun t ht=>(hb.bd jD t ht).mono (by omega),afz⟩
 have ef:=(hpk.ts (by decide))
 have Ce:nfR (p.map tn)=p:=by unfold nfR;rw[bC,e7 hp]
 have aj2:POk 500000 1024 p:=⟨hp,fun t ht=>(hb.bd jD t ht).mono (by omega),afz⟩
 have h33:=ah8 (p.map tn) v hv lo hi (aj2.ts (by decide)) (by rw[length_map];omega) (by rw[Ce];exact hpk) (by rw[Ce,ND];exact mW) hpk.validB (by
  rw[Ce];unfold v_;rw[v7];intro t ht;exact ib (by have:=(hd t ht).2.2.1;omega)) (fF.ok.mono DN) (fE.ok.mono DN) (fF.one v hv jE) (fE.one v hv jE)
  (by rw[Ce];exact s1.1) (by rw[Ce];exact s2.1) (by rw[Ce,ND];exact gD (wO hw Vv RK) (by omega))
  (by rw[Ce];exact(Ko (N:=1024) (by decide) Vv.len).2 (fun t ht x hx=>by have:=KB RK (by omega) t ht x hx;omega)) (by rw[Ce];exact wW)
 rw[Ce] at h33
 exact⟨h33,Vv,RK,Vx⟩
end Go.Proofs.YtjjbkjgifdhlcaaGreat
namespace Go.Pl
open Go.AM
def Two (v w:Nat) (cs:List (List Raw)):Prop:= ∀ l∈cs,∀ i,i<8->i≠v->i≠w->co l i=0
theorem MG {v w:Nat} {cs:List (List Raw)} (h:Two v w cs):bA cs<=2/\(v=w->bA cs<=1):=by
 have key: ∀ w'∈(List.range 8).filter (occ cs),w'=v\/w'=w:=fun w' hw=>by
  rw[mem_filter,List.mem_range] at hw;obtain⟨l,hl,h0⟩:=fg.1 hw.2;by_cases h1:w'=v
  .exact .inl h1
  by_cases h2:w'=w
  .exact .inr h2
  exact absurd (h l hl w' hw.1 h1 h2) h0
 have l6:((List.range 8).filter (occ cs)).Pairwise (fun a b=>a≠b):=List.Pairwise.filter _ List.nodup_range;refine⟨?_,fun he=>?_⟩
 .have:=jX _ [v,w] l6 (fun f hf=>by rcases key f hf with h1 | h1<;>simp[h1])
  exact this
 subst he;have:=jX _ [v] l6 (fun f hf=>by rcases key f hf with h1 | h1<;>simp[h1])
 exact this
theorem P' {v w k:Nat} {cs:List (List Raw)} (hk: ∀ l∈cs,LOk k l) (jD:1<=k) (h2:Two v w cs) (aD:cs.length<=100) (hn:((ncs cs).length<=7/\k<=59)\/(v=w/\(ncs cs).length<=12/\k<=499)):DX cs:=by
 have h9: ∀ l∈cs,l.length=9:=fun l hl=>(hk l hl).len
 have Jk:=ir h9;have h1:=uM h9 Jk;obtain⟨h3,h3'⟩:=MG h2;have h4:=nt h9 Jk;have hg:GoodT (sysL cs []):=⟨2*k,by omega,SysF.of h9 Jk (fun l hl _=>wJ (hk l hl) jD),⟨by omega,fun h=>by omega,fun h=>by
  rcases hn with hn | hn
  .omega
  have:=h3' hn.1;omega,fun h=>by omega⟩⟩
 exact⟨⟨fun l hl=>(hk l hl).mono (by omega),aD,by omega,hg.good,fun l hl _=>(hk l hl).mono (by omega)⟩,hg⟩
theorem r9 {cs:List (List Raw)} (h9: ∀ l∈cs,l.length=9) (hi:aZ cs=true) {f:List Raw} (hf:f∈aV cs): ∃ l∈cs,¬aO l/\f=eD l:=by
 unfold aV at hf;rw[if_pos hi] at hf;exact((ir h9).mem f).1 ((mr _ _ _).subset hf)
theorem CW {cs:List (List Raw)} (h9: ∀ l∈cs,l.length=9) (hi:aZ cs=true):(aV cs).length<=(ncs cs).length:=by
 unfold aV;rw[if_pos hi];exact gD (mr _ _ _).length_le (nt h9 (ir h9))
theorem nF {v w k:Nat} {cs:List (List Raw)} (hk: ∀ l∈cs,LOk k l) (jD:1<=k) (h2:Two v w cs) (hi:aZ cs=true):(∀ l∈aV cs,LOk (2*k) l)/\Two v w (aV cs)/\ ∀ l∈aV cs,¬aO l:=by
 have h9: ∀ l∈cs,l.length=9:=fun l hl=>(hk l hl).len
 refine⟨fun l hl=>?_,fun l hl i uc hv hw=>?_,fun l hl=>?_⟩<;>obtain⟨x,hx,hc,rfl⟩:=r9 h9 hi hl
 .exact wJ (hk x hx) jD
 .exact(CF (h9 x hx) hc (by omega)).2 (h2 x hx i uc hv hw)
 exact rU (h9 x hx) hc
theorem tA {cs:List (List Raw)} (h:DX cs) (hi:aZ cs=true):aZ (aV cs)=true:=by
 obtain⟨x,hx⟩:=(fh h.cs.len9).1 hi;exact(fh (BB h).cs.len9).2 ⟨x,(jx h x).2 hx⟩
theorem TN {v w k:Nat} {cs:List (List Raw)} (hv:v<8) (hk: ∀ l∈cs,LOk k l) (jD:1<=k) (h2:Two v w cs):(∀ l∈aN cs v,LOk (2*k+1) l/\ ∀ i,i<8->i≠w->co l i=0)/\ ∀ l∈ay cs v,LOk (2*k+1) l/\ ∀ i,i<8->i≠w->co l i=0:=by
 have key: ∀ x∈cs,co x v≠0-> ∀ i,i<8->i≠w->co (cF v x) i=0:=fun x hx h0 i hi hw=>by
  have hb:=dN (v:=v) (hk x hx).len h0;rw[hb.2 i (by omega)];by_cases hvi:v=i
  .rw[if_pos hvi]
  rw[if_neg hvi,h2 x hx i hi (Ne.symm hvi) hw];grind
 refine⟨fun l hl=>⟨CH hk jD l hl,?_⟩,fun l hl=>⟨wL hk jD l hl,?_⟩⟩
 .obtain⟨x,hx,h0,rfl⟩:=ec.1 hl;exact key x hx (fun he=>by rw[he] at h0;exact absurd h0 (by decide))
 obtain⟨x,hx,h0,rfl⟩:=dD.1 hl;exact key x hx (fun he=>by rw[he] at h0;exact absurd h0 (by decide))
theorem yp {w:Nat} {u l:List Raw} (hu:u.length=9) (hl:l.length=9) (h1: ∀ i,i<8->i≠w->co u i=0) (h2: ∀ i,i<8->i≠w->co l i=0): ∀ i,i<8->i≠w->co (cu u l) i=0:=fun i hi hw=>by
 rw[kY hu hl (by omega),h1 i hi hw,h2 i hi hw];grind
theorem Qa {v w u:Nat} {cs:List (List Raw)} (h2:Two v w cs) (hu:u<8) (hv:u≠v) (hw:u≠w):aN cs u=[]/\ay cs u=[]:=by
 constructor
 .unfold aN;rw[gY (fun l hl=>by rw[h2 l hl u hu hv hw];rfl)];rfl
 unfold ay;rw[gY (fun l hl=>by rw[h2 l hl u hu hv hw];rfl)];rfl
theorem KC {v w:Nat} (hv:v<8) (hw:w<8) {Nv Nw:Nat} {p:List Tm} (hc:Canon p) (h:Duo v w Nv Nw p):p.length<=(Nv+1)*(Nw+1):=by
 obtain⟨f,hf⟩: ∃ f:Tm->Int,f=fun t=>t.1.getD v 0*((Nw:Int)+1)+t.1.getD w 0:=⟨_,rfl⟩
 have h1:(p.map f).Nodup:=by
  have:p.Pairwise (fun a b=>f a≠f b):=by
   refine List.Pairwise.imp_of_mem (fun{a b} ha hb hg he=>?_) hc.sorted;obtain⟨a1,a2,a3,a4⟩:=h a ha;obtain⟨b1,b2,b3,b4⟩:=h b hb;rw[hf] at he;dsimp only at he;have hvv:a.1.getD v 0=b.1.getD v 0:=by
    obtain⟨x,hx⟩:=Hs (a.1.getD v 0);obtain⟨y,hy⟩: ∃ x,b.1.getD v 0=x:=⟨_,rfl⟩;obtain⟨s,hs⟩: ∃ x,a.1.getD w 0=x:=⟨_,rfl⟩;obtain⟨t,ht⟩: ∃ x,b.1.getD w 0=x:=⟨_,rfl⟩;rw[hx,hy,hs,ht] at he;rw[hx,hy];rw[hs] at a4;rw[ht] at b4;rcases Int.lt_trichotomy x y with h5 | h5 | h5
    .have:(x+1)*((Nw:Int)+1)<=y*((Nw:Int)+1):=Int.mul_le_mul_of_nonneg_right (by omega) (by omega);rw[Int.add_mul] at this;omega
    .exact h5
    have:(y+1)*((Nw:Int)+1)<=x*((Nw:Int)+1):=Int.mul_le_mul_of_nonneg_right (by omega) (by omega);rw[Int.add_mul] at this;omega
   have hww:a.1.getD w 0=b.1.getD w 0:=by rw[hvv] at he;omega
   refine uC hg (List.ext_getElem (by omega) (fun i oA iH=>?_));have e:a.1.getD i 0=b.1.getD i 0:=by
    by_cases SK:i=v
    .rw[SK];exact hvv
    by_cases sD:i=w
    .rw[sD];exact hww
    rw[a2 i (by omega) SK sD,b2 i (by omega) SK sD]
   rw[qa,qb oA,qa,qb iH] at e;exact e
  exact List.pairwise_map.2 this
 have h2:=qA ((Nv+1)*(Nw+1)) _ h1 (fun x hx=>by
  obtain⟨t,ht,rfl⟩:=mem_map.1 hx;obtain⟨_,_,b3,b4⟩:=h t ht;rw[hf];dsimp only;have e1:0<=t.1.getD v 0*((Nw:Int)+1):=Int.mul_nonneg b3.1 (by omega);have e2:t.1.getD v 0*((Nw:Int)+1)<=(Nv:Int)*((Nw:Int)+1):=Int.mul_le_mul_of_nonneg_right b3.2 (by omega);have e3:(((Nv+1)*(Nw+1):Nat):Int)=(Nv:Int)*((Nw:Int)+1)+((Nw:Int)+1):=by
   rw[Int.natCast_mul];show((Nv:Int)+1)*((Nw:Int)+1)=_;rw[Int.add_mul,Int.one_mul]
  omega)
 rw[length_map] at h2;exact h2
theorem Duo.nf {v w:Nat} {N M:Int} {p:List Tm} (h:Duo v w N M p):Duo v w N M (Go.Pl.nf p):=fun t ht=>by
 obtain⟨x,hx,he⟩:=jV ht;rw[<-he];exact h x hx
theorem Uni.duo {v w:Nat} {N:Int} {p:List Tm} (h:Uni v N p) (hw:w<8) (jE:w≠v):Duo v w N 0 p:=fun t ht=>by
 obtain⟨a1,a2,a3⟩:=h t ht;exact⟨a1,fun i hi h1 _=>a2 i hi h1,a3,by rw[a2 w hw jE];omega⟩
theorem Duo.flat {v w:Nat} {N M:Int} {l:List RC} (h: ∀ r∈l,Duo v w N M r.2):Duo v w N M (l.flatMap (·.2)):=fun t ht=>by
 obtain⟨r,hr,h1⟩:=List.mem_flatMap.1 ht;exact h r hr t h1
theorem PB.flatR {k c:Nat} (hk:1<=k) {l:List RC} (h: ∀ r∈l,PB k r.2) (hc:l.length<=c):PB (c*(k+1)+1) (l.flatMap (·.2)):=by
 have:=PB.flat hk (l:=l.map (·.2)) (fun p hp=>by
  obtain⟨r,hr,rfl⟩:=mem_map.1 hp;exact h r hr)
 rw[length_map,<-List.flatMap_def] at this;exact this.mono (by have:=qn (k+1) hc;omega)
theorem yq {l:List RC} (hl:RcOk l) {r:RC} (hr:r∈o5 l):r.2=polyS' (l.filter (fun x=>decide (x.1=r.1)))/\ ∃ x∈l,x.1=r.1:=by
 have Ce:=tm hl;have hk:=Ce.cn r hr;have iE:RcOk (l.filter (fun x=>decide (x.1=r.1))):=fun x hx=>hl x (mem_filter.1 hx).1
 have fA: ∀ {M:List RC},NF M->r∈M-> ∀ m,cY r.1 m M=bM m r.2:=fun{M}=>by
  induction M with
  | nil=>intro _ h;simp at h
  | cons x M ih=>
   intro hM h m;rcases List.mem_cons.1 h with h1 | h1
   .rw[h1];exact hM.own
   have aH:=hM.head r h1;have cM:x.1≠r.1:=fun he=>by rw[he,mz] at aH;omega
   rw[cY,if_neg cM,ih hM.tail h1 m];grind
 have afA: ∀ m,cY r.1 m l=bM m ((l.filter (fun x=>decide (x.1=r.1))).flatMap (·.2)):=fun m=>by
  clear hl hr Ce iE fA
  induction l with
  | nil=>rfl
  | cons x l ih=>
   rw[cY,ih];by_cases he:x.1=r.1
   .rw[if_pos he,List.filter_cons_of_pos (by simpa using he),List.flatMap_cons,gW]
   rw[if_neg he,filter_cons_of_neg (by simpa using he)];grind
 refine⟨kz (Ce.can r hr) (cV iE.flat) (fun m=>?_),?_⟩
 .unfold polyS';rw[rM,<-afA,<-tr hl,fA Ce hr]
 obtain⟨m,hm⟩:=kE (Ce.can r hr) (Ce.ne r hr);rw[<-fA Ce hr,tr hl,afA] at hm;cases hf:l.filter (fun x=>decide (x.1=r.1)) with
 | nil=>rw[hf] at hm;exact absurd rfl hm
 | cons x t=>
  have:x∈l.filter (fun x=>decide (x.1=r.1)):=by rw[hf];simp
  rw[mem_filter] at this;exact⟨x,this.1,by simpa using this.2⟩
end Go.Pl
namespace Go.Proofs.YtjjbkjgifdhlcaaGreat
open Go.AM Go.Pl
set_option maxRecDepth 100000
set_option maxHeartbeats 4000000
structure RgQ (v w Nv Nw j kp n:Nat) (r:RC):Prop where
 ok: ∀ l∈r.1,LOk j l
 two:Two v w r.1
 len:r.1.length<=40
 ncl:(ncs r.1).length<=n
 can:Canon r.2
 duo:Duo v w Nv Nw r.2
 pb:PB kp r.2
 alt:(n<=7/\j<=59)\/(Two v v r.1/\n<=12/\j<=499)
structure iM (v w Nv Nw j kp n c:Nat):Prop where
 hv:v<8
 hw:w<8
 j1:1<=j
 k1:1<=kp
 box:(Nv+1)*(Nw+1)<=12
 nle:Nv<=100/\Nw<=100
 few:c<20
 pk:c*(kp+1)+1<=10000000
noncomputable def nrmL (l:List RC):List RC:=o5 ((l.filter (fun r=>aZ r.1)).map (fun r=>(aV r.1,r.2)))
theorem uZ {p:List Tm} (h:Canon p):nfR (p.map tn)=p:=by unfold nfR;rw[bC,e7 h]
theorem RgQ.cst {v w Nv Nw j kp n c:Nat} {r:RC} (h:RgQ v w Nv Nw j kp n r) (s:iM v w Nv Nw j kp n c):DX r.1:=by
 have h0:=h.len;have:=h.ncl;rcases h.alt with h1 | h1
 .exact P' h.ok s.j1 h.two (by omega) (.inl (by omega))
 exact P' h.ok s.j1 h1.1 (by omega) (.inr ⟨rfl,by omega,h1.2.2⟩)
theorem RgQ.pok {v w Nv Nw j kp n c:Nat} {r:RC} (h:RgQ v w Nv Nw j kp n r) (s:iM v w Nv Nw j kp n c) (hc:1<=c):POk 10000000 1024 r.2/\r.2.length<=12:=by
 have h1:=s.pk;have h2:=Nat.le_mul_of_pos_left (kp+1) (show 0<c by omega);have h3:=s.nle;exact⟨⟨h.can,fun t ht=>(h.pb.bd s.k1 t ht).mono (by omega),CU h.duo (by omega) (by omega) (by omega)⟩,gD (KC s.hv s.hw h.can h.duo) s.box⟩
theorem yr {v w Nv Nw j kp n c:Nat} (s:iM v w Nv Nw j kp n c) {t:List RC} (h: ∀ r∈t,Canon r.2/\Duo v w Nv Nw r.2/\PB kp r.2) (hc:t.length<=c):
 Canon (polyS' t)/\Duo v w Nv Nw (polyS' t)/\PB (c*(kp+1)+1) (polyS' t)/\POk 10000000 1024 (polyS' t)/\(polyS' t).length<=12:=by
 have hd:Duo v w Nv Nw (polyS' t):=(Duo.flat (fun r hr=>(h r hr).2.1)).nf
 have ue:Canon (polyS' t):=cV (Duo.flat (fun r hr=>(h r hr).2.1)).len8
 have hb:PB (c*(kp+1)+1) (polyS' t):=(PB.flatR s.k1 (fun r hr=>(h r hr).2.2) hc).nf
 have h3:=s.nle
 exact⟨ue,hd,hb,⟨ue,fun t ht=>(hb.bd (by omega) t ht).mono s.pk,CU hd (by omega) (by omega) (by omega)⟩,gD (KC s.hv s.hw ue hd) s.box⟩
theorem jz {l:List RC} (hc: ∀ r∈l,Canon r.2):normL (l.map rn)=(l.filter (fun r=>aZ r.1&&!r.2.isEmpty)).map (fun r=>(aV r.1,r.2)):=by
 unfold normL
 induction l with
 | nil=>rfl
 | cons r l ih=>
  have ih:=ih (fun x hx=>hc x (mem_cons_of_mem _ hx));have hr:nfR ((rn r).2)=r.2:=uZ (hc r (by simp));have hk:mD (rn r)=(aZ r.1&&!r.2.isEmpty):=by unfold mD;rw[hr];rfl
  rw[map_cons];cases hb:(aZ r.1&&!r.2.isEmpty) with
  | false=>rw[filter_cons_of_neg (by rw[hk,hb];decide),filter_cons_of_neg (by simp only[hb];decide),ih]
  | true=>
   rw[List.filter_cons_of_pos (by rw[hk,hb]),List.filter_cons_of_pos (by simp only[hb]),map_cons,map_cons,ih,hr];rfl
theorem tB {l:List RC} (hc: ∀ r∈l,Canon r.2/\DX r.1):RcOk (normL (l.map rn))/\o5 (normL (l.map rn))=nrmL l:=by
 have ue: ∀ r∈l,CnK (aV r.1):=fun r hr f hf=>((TI (hc r hr).2).1 f hf).1
 have h1:RcOk (normL (l.map rn)):=fun x hx=>by
  rw[jz (fun r hr=>(hc r hr).1)] at hx;obtain⟨r,hr,rfl⟩:=mem_map.1 hx;have:=(mem_filter.1 hr).1;exact⟨ue r this,(hc r this).1⟩
 refine⟨h1,Ia h1 (fun x hx=>by
  obtain⟨r,hr,rfl⟩:=mem_map.1 hx;have:=(mem_filter.1 hr).1;exact⟨ue r this,(hc r this).1⟩) (fun k m _=>?_)⟩
 rw[jz (fun r hr=>(hc r hr).1)];clear h1 ue
 induction l with
 | nil=>rfl
 | cons r l ih=>
  have ih:=ih (fun x hx=>hc x (mem_cons_of_mem _ hx));cases hb:aZ r.1 with
  | false=>rw[filter_cons_of_neg (by simp[hb]),filter_cons_of_neg (by simp[hb]),ih]
  | true=>
   rw[List.filter_cons_of_pos (p:=fun r:RC=>aZ r.1) (by simp[hb]),map_cons,cY,<-ih];by_cases he:r.2=[]
   .rw[filter_cons_of_neg (by simp[he])];dsimp only;rw[he];simp[bM];grind
   rw[List.filter_cons_of_pos (by simp[hb,he]),map_cons,cY]
theorem W6 {v w Nv Nw j kp n c:Nat} {l:List RC} (s:iM v w Nv Nw j kp n c) (h: ∀ r∈l,RgQ v w Nv Nw j kp n r) (hc:l.length<=c):MF (l.map rn):=by
 have fG: ∀ x∈l.map rn,∃ r∈l,x=rn r:=fun x hx=>by
  obtain⟨r,hr,rfl⟩:=mem_map.1 hx;exact⟨r,hr,rfl⟩
 have hpk: ∀ r∈l,POk 10000000 1024 r.2/\r.2.length<=12:=fun r hr=>(h r hr).pok s (by have:=length_pos_of_mem hr;omega)
 have aoh:=s.pk;have VI:=s.few;have iJ: ∀ r∈l,kp<=10000000:=fun r hr=>by
  have:=length_pos_of_mem hr;have:=Nat.le_mul_of_pos_left (kp+1) (show 0<c by omega);omega
 refine⟨fun x hx=>?_,fun x hx=>?_,fun x hx _=>?_,by rw[length_map];omega,fun x hx=>?_,?_,fun t u ht=>?_⟩
 .obtain⟨r,hr,rfl⟩:=fG x hx;have hk:=hpk r hr;exact⟨fun t ht=>(hk.1.ts (by decide) t ht).mono (by decide),by
   show PB _ ((r.2.map tn).map tq);rw[bC];exact(h r hr).pb.mono (by have:=iJ r hr;omega),by
   show(r.2.map tn).length<=_;rw[length_map];omega,by
   show(nfR (r.2.map tn)).length<=_;rw[uZ hk.1.canon];exact hk.2⟩
 .obtain⟨r,hr,rfl⟩:=fG x hx;exact(hpk r hr).1.validB
 .obtain⟨r,hr,rfl⟩:=fG x hx;exact(h r hr).cst s
 .obtain⟨r,hr,rfl⟩:=fG x hx;have:r.1.length<=40:=(h r hr).len;show r.1.length<=_;omega
 .unfold normL;rw[length_map];exact Hr (List.length_filter_le _ _) (by rw[length_map];omega)
 have bf: ∀ x∈t,∃ r∈l,x.2=r.2:=fun x hx=>by
  have:x∈normL (l.map rn):=ht.mem_iff.1 (List.mem_append_left _ hx);rw[jz (fun r hr=>(h r hr).can)] at this;obtain⟨r,hr,rfl⟩:=mem_map.1 this;exact⟨r,(mem_filter.1 hr).1,rfl⟩
 have aD:t.length<=c:=by
  have:=ht.length_eq;rw[qe,jz (fun r hr=>(h r hr).can),length_map] at this;have h9:=List.length_filter_le (fun r:RC=>aZ r.1&&!r.2.isEmpty) l;omega
 have:=yr s (t:=t) (fun x hx=>by
  obtain⟨r,hr,he⟩:=bf x hx;rw[he];exact⟨(h r hr).can,(h r hr).duo,(h r hr).pb⟩) aD
 exact⟨this.2.2.2.1,this.2.2.2.2⟩
theorem Qb {l:List RC} (hc:l.length<=4000) (h: ∀ r∈l,r.1.length<=40) (hv: ∀ r∈l,POk 10000000 1024 r.2):r8 [l.map rn]=0:=by
 have h1:fY (l.map rn)=false:=by
  unfold fY;rw[Bool.or_eq_false_iff];refine⟨mX (by rw[length_map];omega),?_⟩;rw[List.any_eq_false];intro x hx;obtain⟨r,hr,rfl⟩:=mem_map.1 hx;have:r.1.length<=40:=h r hr;have e:(rn r).1.length=r.1.length:=rfl;simp[iv,e];omega
 have h2:kF (l.map rn)=true:=by
  unfold kF;rw[v7];intro x hx;obtain⟨r,hr,rfl⟩:=mem_map.1 hx;exact(hv r hr).validB
 unfold r8;rw[if_neg (by simp[h1]),if_pos (by simp[h2])]
theorem kG {v w Nv Nw j kp n c:Nat} {l:List RC} (s:iM v w Nv Nw j kp n c) (h: ∀ r∈l,RgQ v w Nv Nw j kp n r) (hc:l.length<=c):
 Den Tryz.prog 90 [] [RL' (l.map rn)] [] (.tup [RL' ((nrmL l).map rn),.int .i64 0]):=by
 have SC:=W6 s h hc
 have VI:=s.few
 have hz:=Qb (l:=l) (by omega) (fun r hr=>(h r hr).len) (fun r hr=>((h r hr).pok s (by have:=length_pos_of_mem hr;omega)).1)
 have:=adA (l.map rn) SC.len SC.pg SC.lim (fun _=>SC)
 unfold TL at this
 rw[if_pos hz,(tB (fun r hr=>⟨(h r hr).can,(h r hr).cst s⟩)).2] at this
 exact this
structure RgV (v w Nv Nw j kp n:Nat) (r:RC):Prop where
 q:RgQ v w Nv Nw j kp n r
 idem:aV r.1=r.1
 inn:aZ r.1=true
 len:r.1.length<=n
theorem CX {v w Nv Nw j kp n c:Nat} {l:List RC} (s:iM v w Nv Nw j kp n c) (h: ∀ r∈l,RgQ v w Nv Nw j kp n r) (DN: ∀ r∈l,(n<=7/\2*j<=59)\/(Two v v r.1/\n<=12/\2*j<=499)) (hc:l.length<=c):
 NF (nrmL l)/\(nrmL l).length<=c/\ ∀ r∈nrmL l,RgV v w Nv Nw (2*j) (c*(kp+1)+1) n r:=by
 obtain⟨h1,h2⟩:=tB (l:=l) (fun r hr=>⟨(h r hr).can,(h r hr).cst s⟩)
 rw[<-h2]
 have lA:(normL (l.map rn)).length<=c:=by
  rw[jz (fun r hr=>(h r hr).can),length_map];exact gD (List.length_filter_le _ _) hc
 refine⟨tm h1,?_,fun r hr=>?_⟩
 .have:=x_ (normL (l.map rn)) []
  unfold o5
  rw[length_nil,Nat.zero_add] at this
  omega
 obtain⟨e1,x,hx,e2⟩:=yq h1 hr
 have bf: ∀ y∈normL (l.map rn),∃ z∈l,aZ z.1=true/\y=(aV z.1,z.2):=fun y hy=>by
  rw[jz (fun r hr=>(h r hr).can)] at hy;obtain⟨z,hz,rfl⟩:=mem_map.1 hy;have DL:=mem_filter.1 hz;exact⟨z,DL.1,(DV _ _ ▸ DL.2).1,rfl⟩
 obtain⟨z,hz,gA,rfl⟩:=bf x hx
 have hz':=h z hz
 have eI:=hz'.cst s
 have h9:=eI.cs.len9
 have mW:=yr s (t:=(normL (l.map rn)).filter (fun x=>decide (x.1=r.1))) (fun y hy=>by
  obtain⟨z,hz,_,rfl⟩:=bf y (mem_filter.1 hy).1;exact⟨(h z hz).can,(h z hz).duo,(h z hz).pb⟩) (gD (List.length_filter_le _ _) lA)
 rw[<-e1] at mW
 obtain⟨c1,c2,c3⟩:=nF hz'.ok s.j1 hz'.two gA
 have hsh:=CW h9 gA
 have hq:=H_ eI
 have aoi:=hz'.ncl
 dsimp only at e2
 refine⟨⟨?_,?_,?_,?_,mW.1,mW.2.1,mW.2.2.1,?_⟩,?_,?_,?_⟩
 .rw[<-e2];exact c1
 .rw[<-e2];exact c2
 .rw[<-e2];exact hq
 .rw[<-e2];exact gD (lN _) (by omega)
 .rw[<-e2]
  rcases DN z hz with h5 | h5
  .exact .inl h5
  exact .inr ⟨(nF hz'.ok s.j1 h5.1 gA).2.1,h5.2⟩
 .rw[<-e2];exact vD eI
 .rw[<-e2];exact tA eI gA
 rw[<-e2];omega
theorem yt {v w Nv Nw j kp n:Nat} {M:List RC} (hM:NF M) (h: ∀ r∈M,RgV v w Nv Nw j kp n r):nrmL M=M:=by
 unfold nrmL;rw[rV (fun r hr=>(h r hr).inn)];have:M.map (fun r=>(aV r.1,r.2))=M:=by
  conv=>rhs;rw[<-List.map_id M]
  refine List.map_congr_left (fun r hr=>?_);rw[(h r hr).idem];rfl
 rw[this,hM.self]
theorem KD {f:List Raw->List Raw} {l:List (List Raw)} {i:Nat} {x:List Raw} (h:x∈lQ f l i l.length): ∃ o∈l,x=f o:=by
 unfold lQ at h;obtain⟨k,hk,rfl⟩:=mem_map.1 h;exact⟨_,qg (d:=[]) (List.mem_range.1 (mem_filter.1 hk).1),rfl⟩
theorem Fp (f:List Raw->List Raw) (l:List (List Raw)) {i:Nat} (hi:i<l.length):(lQ f l i l.length).length+1<=l.length:=by
 have key: ∀ n,i<n->(lQ f l i n).length+1<=n:=fun n=>by
  induction n with
  | zero=>intro h;omega
  | succ n ih=>
   intro h;by_cases hn:n=i
   .subst hn;have:=CS f l n n;rw[Ih];omega
   have:=ih (by omega);rw[Ii f l hn,qe,N6];omega
 exact key _ hi
theorem Qc {rest lo hi:List (List Raw)} {p:List Tm} {v:Nat} {x:RC} (h:x∈o7 rest lo hi p v lo.length):
 ∃ i j,i<lo.length/\j<hi.length/\gw (hi.getD j []) (lo.getD i [])=false/\x=(gZ rest lo hi i j,betT v (lo.getD i []) (hi.getD j []) p):=by
 unfold o7 at h
 obtain⟨i,oA,h⟩:=List.mem_flatMap.1 h
 unfold n8 at h
 obtain⟨j,Sx,h⟩:=List.mem_flatMap.1 h
 split at h
 .simp at h
 next hs=>exact⟨i,j,List.mem_range.1 oA,List.mem_range.1 Sx,by simpa using hs,by simpa using h⟩
structure Yr (Nv Nw j kp n K F:Nat):Prop where
 F0:0<F
 FB:F<B
 dv: ∀ d,1<=d->d<=Nv+1->d∣F
 N8:Nw+Nv<=8
 kp2:kp<=400000
 hK:(Nv+2)*(9*((2*j+1)+1)+1+(kp+1)+1)+1=K
 hK2:K+9*((2*j+1)+1)+1<=900000
 j2:j<=249
 n7:n<=40
theorem i7 {v w Nv Nw j kp n c K F:Nat} {r:RC} (s:iM v w Nv Nw j kp n c) (jE:v≠w) (t:Yr Nv Nw j kp n K F) (h:RgV v w Nv Nw j kp n r) (zD:r.2.length<=12):
 o8 r.1 r.2 v/\ ∀ x∈eU r.1 r.2 v,(∀ l∈x.1,LOk (4*j+4) l)/\Two w w x.1/\x.1.length<=n/\Canon x.2/\Uni w ((Nw+Nv+2:Nat):Int) x.2/\PB (2*K+2) x.2:=by
 have DN:=t.j2
 have Sx:=s.j1
 obtain⟨hl,hh⟩:=TN s.hv h.q.ok s.j1 h.q.two
 have Jr: ∀ l∈aN r.1 v,∀ u∈ay r.1 v,_:=fun l Xt u Jt=>
  Yq (p:=r.2) s.hv s.hw jE h.q.can h.q.duo h.q.pb zD t.F0 t.FB t.dv (⟨(hl l Xt).1,(hl l Xt).2⟩:FOk w (2*j+1) l) (⟨(hh u Jt).1,(hh u Jt).2⟩:FOk w (2*j+1) u) (by omega) (by omega) t.N8 s.k1 t.kp2 K t.hK t.hK2
 refine⟨⟨s.hv,fun l hl=>(h.q.ok l hl).mono (by omega),h.q.len,fun l Xt u Jt _=>(Jr l Xt u Jt).1⟩,fun x hx=>?_⟩
 unfold eU at hx
 obtain⟨i,k,hi,hk,_,rfl⟩:=Qc hx
 have ml:=ba (ls:=aN r.1 v) hi
 have mu:=ba (ls:=ay r.1 v) hk
 have Oi:=hl _ ml
 have hux:=hh _ mu
 have hb:=Jr _ ml _ mu
 have hsp:=cX r.1 v
 have hrl:=h.len
 have R5: ∀ a b:List Raw,LOk (2*j+1) a->LOk (2*j+1) b->LOk (4*j+4) (cu a b):=fun a b ha hb=>(wK ha hb (by omega)).mono (by omega)
 have key: ∀ f∈gZ (dT r.1 v) (aN r.1 v) (ay r.1 v) i k,LOk (4*j+4) f/\ ∀ i,i<8->i≠w->co f i=0:=fun f hf=>by
  unfold gZ at hf;rcases List.mem_append.1 hf with hf | hf
  .rcases List.mem_append.1 hf with hf | hf
   .rcases List.mem_append.1 hf with hf | hf
    .obtain⟨h1,h2⟩:=fX.1 hf;refine⟨(h.q.ok f h1).mono (by omega),fun q hq cM=>?_⟩;by_cases Lj:q=v
     .rw[Lj];exact h2
     exact h.q.two f h1 q hq Lj cM
    rw[qz] at hf;subst hf;exact⟨R5 _ _ hux.1 Oi.1,yp hux.1.len Oi.1.len hux.2 Oi.2⟩
   obtain⟨o,ho,rfl⟩:=KD hf;have:=hl o ho;exact⟨R5 _ _ Oi.1 this.1,yp Oi.1.len this.1.len Oi.2 this.2⟩
  obtain⟨o,ho,rfl⟩:=KD hf;have:=hh o ho;exact⟨R5 _ _ this.1 hux.1,yp this.1.len hux.1.len this.2 hux.2⟩
 refine⟨fun l hl=>(key l hl).1,fun l hl i hi cM _=>(key l hl).2 i hi cM,?_,hb.2.1,hb.2.2.1,hb.2.2.2⟩
 have o1:=Fp (cu ((aN r.1 v).getD i [])) (aN r.1 v) hi
 have o2:=Fp (fun o=>cu o ((ay r.1 v).getD k [])) (ay r.1 v) hk
 show(gZ _ _ _ i k).length<=n
 unfold gZ
 rw[qe,qe,qe,N6]
 omega
theorem Ys {a b n m:Nat} (h:a+b<=n) (hn:n<=5) (hm:6<=m):a*b<=m:=by
 have:a<=5:=by omega
 have:a=0\/a=1\/a=2\/a=3\/a=4\/a=5:=by omega
 rcases this with rfl | rfl | rfl | rfl | rfl | rfl<;>omega
theorem tC {v q:Nat}: ∀ {M:List RC},(∀ r∈M,(eU r.1 r.2 v).length<=q)->(elimO M v).length<=M.length*q
 | [],_=>by simp[elimO]
 | r::M,h=>by
  have ih:=tC (v:=v) (q:=q) (M:=M) (fun x hx=>h x (mem_cons_of_mem _ hx));have h1:=h r (by simp);unfold elimO at ih ⊢;rw[List.flatMap_cons,qe,length_cons,Nat.add_mul];omega
theorem yu (c:Kc) (p:List Tm) (v:Nat):(eU c p v).length<=(aN c v).length*(ay c v).length:=uX _ _ _ _ _ _
theorem Fq {v w Nv Nw j kp n c:Nat} {r:RC} (s:iM v w Nv Nw j kp n c) (h:RgV v w Nv Nw j kp n r) (h1:Two v v r.1):(aN r.1 v).length<=1/\(ay r.1 v).length<=1:=by
 have eI:=h.q.cst s;have he:r.1=xY (sysL r.1 []):=by
  have:=h.idem;unfold aV at this;rw[h.inn,if_pos rfl] at this;exact this.symm
 have:=H8 (s:=xY (sysL r.1 [])) s.hv (i5 eI.good) (xZ eI.good) (fun w hw cM=>by
  rw[<-he];cases ho:occ r.1 w with
  | false=>rfl
  | true=>
   obtain⟨l,hl,h0⟩:=fg.1 ho;exact absurd (h1 l hl w hw cM cM) h0)
 rw[<-he] at this;unfold Tz Kq at this;rw[length_map,length_map] at this;exact this
noncomputable def iO (M:List RC) (v:Int):Int×List RC:=
 if v<0\/8<=v then(1,[]) else if M.any (missB v.toNat)=true then(15,[]) else(0,nrmL (elimO M v.toNat))
theorem Fu {v w Nv Nw j kp n c:Nat} {l:List RC} (s:iM v w Nv Nw j kp n c) (h: ∀ r∈l,RgQ v w Nv Nw j kp n r) (hc:l.length<=c):
 NF (nrmL l)/\(nrmL l).length<=c/\ ∀ r∈nrmL l,(∃ z∈l,aZ z.1=true/\r.1=aV z.1)/\POk 10000000 1024 r.2/\r.2.length<=12/\Duo v w Nv Nw r.2/\PB (c*(kp+1)+1) r.2:=by
 obtain⟨h1,h2⟩:=tB (l:=l) (fun r hr=>⟨(h r hr).can,(h r hr).cst s⟩)
 rw[<-h2]
 have lA:(normL (l.map rn)).length<=c:=by
  rw[jz (fun r hr=>(h r hr).can),length_map];exact gD (List.length_filter_le _ _) hc
 refine⟨tm h1,?_,fun r hr=>?_⟩
 .have:=x_ (normL (l.map rn)) []
  unfold o5
  rw[length_nil,Nat.zero_add] at this
  omega
 obtain⟨e1,x,hx,e2⟩:=yq h1 hr
 have bf: ∀ y∈normL (l.map rn),∃ z∈l,aZ z.1=true/\y=(aV z.1,z.2):=fun y hy=>by
  rw[jz (fun r hr=>(h r hr).can)] at hy;obtain⟨z,hz,rfl⟩:=mem_map.1 hy;have DL:=mem_filter.1 hz;exact⟨z,DL.1,(DV _ _ ▸ DL.2).1,rfl⟩
 obtain⟨z,hz,gA,rfl⟩:=bf x hx
 have mW:=yr s (t:=(normL (l.map rn)).filter (fun x=>decide (x.1=r.1))) (fun y hy=>by
  obtain⟨z,hz,_,rfl⟩:=bf y (mem_filter.1 hy).1;exact⟨(h z hz).can,(h z hz).duo,(h z hz).pb⟩) (gD (List.length_filter_le _ _) lA)
 rw[<-e1] at mW
 exact⟨⟨z,hz,gA,e2.symm⟩,mW.2.2.2.1,mW.2.2.2.2,mW.2.1,mW.2.2.1⟩
theorem BJ:aZ []=true:=(fh (by simp)).2 ⟨fun _=>0,fun l hl=>by simp at hl⟩
theorem Ik:aV []=[]:=by
 unfold aV;rw[BJ];rfl
theorem Fv:nrmL []=[]:=rfl
theorem BK (v:Nat):elimO [] v=[]:=rfl
structure IA (v w:Nat) (M:List RC):Prop where
 nf:NF M
 len:M.length<=2
 rg: ∀ r∈M,RgV v w 2 2 12 49 5 r
structure IB (v w:Nat) (M:List RC):Prop where
 nf:NF M
 len:M.length<=12
 rg: ∀ r∈M,RgV v w 6 0 104 27517 5 r/\Two v v r.1
structure IC (M:List RC):Prop where
 nf:NF M
 len:M.length<=1
 rg: ∀ r∈M,r.1=[]/\POk 10000000 1024 r.2/\r.2.length<=12
 den:Den Tryz.prog 90 [] [RL' (M.map rn)] [] (.tup [RL' (M.map rn),.int .i64 0])
theorem re {v w:Nat} (hv:v<8) (hw:w<8):iM v w 2 2 12 49 5 2:=⟨hv,hw,by decide,by decide,by decide,by decide,by decide,by decide⟩
theorem yv {v w:Nat} (hv:v<8) (hw:w<8):iM v w 6 0 52 2292 5 12:=⟨hv,hw,by decide,by decide,by decide,by decide,by decide,by decide⟩
theorem n_ {v w:Nat} (hv:v<8) (hw:w<8):iM v w 6 0 104 27517 5 12:=⟨hv,hw,by decide,by decide,by decide,by decide,by decide,by decide⟩
theorem yw {v w:Nat} (hv:v<8) (hw:w<8):iM v w 8 0 420 470564 5 12:=⟨hv,hw,by decide,by decide,by decide,by decide,by decide,by decide⟩
theorem adE {v w:Nat} (hv:v<8) (hw:w<8):iM v w 8 0 1 5646781 0 1:=⟨hv,hw,by decide,by decide,by decide,by decide,by decide,by decide⟩
theorem aic (d:Nat) (h1:1<=d) (h2:d<=2+1):d∣6:=by
 have:d=1\/d=2\/d=3:=by omega
 rcases this with rfl | rfl | rfl<;>decide
theorem TP (d:Nat) (h1:1<=d) (h2:d<=6+1):d∣5040:=by
 have:d=1\/d=2\/d=3\/d=4\/d=5\/d=6\/d=7:=by omega
 rcases this with rfl | rfl | rfl | rfl | rfl | rfl | rfl<;>decide
theorem Qd:Yr 2 2 12 49 5 1145 6:=⟨by decide,by decide,aic,by decide,by decide,by decide,by decide,by decide,by decide⟩
theorem KE:Yr 6 0 104 27517 5 235281 5040:=⟨by decide,by decide,TP,by decide,by decide,by decide,by decide,by decide,by decide⟩
theorem RgV.swap {v w N j kp n:Nat} {r:RC} (h:RgV v w N N j kp n r) (hs:n<=7/\j<=59):RgV w v N N j kp n r:=
 ⟨⟨h.q.ok,fun l hl i hi h1 h2=>h.q.two l hl i hi h2 h1,h.q.len,h.q.ncl,h.q.can,fun t ht=>by
  obtain⟨a1,a2,a3,a4⟩:=h.q.duo t ht;exact⟨a1,fun i hi h1 h2=>a2 i hi h2 h1,a4,a3⟩,h.q.pb,.inl hs⟩,h.idem,h.inn,h.len⟩
theorem IA.swap {v w:Nat} {M:List RC} (h:IA v w M):IA w v M:=⟨h.nf,h.len,fun r hr=>(h.rg r hr).swap (by decide)⟩
theorem IC.nil:IC []:=⟨.nil,by decide,by simp,by
 have:=kG (l:=[]) (re (v:=0) (w:=1) (by decide) (by decide)) (by simp) (by simp);exact this⟩
theorem IA.den {v w:Nat} {M:List RC} (hv:v<8) (hw:w<8) (h:IA v w M):Den Tryz.prog 90 [] [RL' (M.map rn)] [] (.tup [RL' (M.map rn),.int .i64 0]):=by
 have:=kG (re hv hw) (fun r hr=>(h.rg r hr).q) h.len;rw[yt h.nf h.rg] at this;exact this
theorem IB.den {v w:Nat} {M:List RC} (hv:v<8) (hw:w<8) (h:IB v w M):Den Tryz.prog 90 [] [RL' (M.map rn)] [] (.tup [RL' (M.map rn),.int .i64 0]):=by
 have:=kG (n_ hv hw) (fun r hr=>(h.rg r hr).1.q) h.len;rw[yt h.nf (fun r hr=>(h.rg r hr).1)] at this;exact this
theorem IA.elim {v w:Nat} {M:List RC} (hv:v<8) (hw:w<8) (jE:v≠w) (h:IA v w M):
 (∀ r∈M,o8 r.1 r.2 v)/\(elimO M v).length<=12/\Den Tryz.prog 90 [] [RL' ((elimO M v).map rn)] [] (.tup [RL' ((nrmL (elimO M v)).map rn),.int .i64 0])/\IB w v (nrmL (elimO M v)):=by
 have hs:=fun r hr=>i7 (re hv hw) jE Qd (h.rg r hr) (((h.rg r hr).q.pok (re hv hw) (by decide)).2)
 have hl:(elimO M v).length<=12:=by
  have:=tC (v:=v) (q:=6) (M:=M) (fun r hr=>gD (yu _ _ _) (Ys (by
   have h1:=cX r.1 v;have h2:=(h.rg r hr).len;omega) (qp 5) (by decide)))
  have h2:=h.len;omega
 have hq: ∀ x∈elimO M v,RgQ w v 6 0 52 2292 5 x/\Two w w x.1:=fun x hx=>by
  obtain⟨r,hr,hx⟩:=List.mem_flatMap.1 hx;obtain⟨a1,a2,a3,a4,a5,a6⟩:=(hs r hr).2 x hx;exact⟨⟨a1,fun l hl i hi h1 h2=>a2 l hl i hi h1 h1,by omega,gD (lN _) a3,a4,a5.duo hv jE,a6,.inr ⟨a2,by decide,by decide⟩⟩,a2⟩
 have hm:=CX (yv hw hv) (fun x hx=>(hq x hx).1) (fun x hx=> .inr ⟨(hq x hx).2,by decide,by decide⟩) hl
 refine⟨fun r hr=>(hs r hr).1,hl,kG (yv hw hv) (fun x hx=>(hq x hx).1) hl,hm.1,hm.2.1,fun r hr=>⟨hm.2.2 r hr,?_⟩⟩
 obtain⟨⟨z,hz,gA,he⟩,_⟩:=(Fu (yv hw hv) (fun x hx=>(hq x hx).1) hl).2.2 r hr
 rw[he]
 exact(nF (hq z hz).1.ok (by decide) (hq z hz).2 gA).2.1
theorem Il {M:List RC} (h:NF M) (h0: ∀ r∈M,r.1=[]):M.length<=1:=by
 match M,h,h0 with
 | [],_,_=>simp
 | [_],_,_=>simp
 | a::b::M,h,h0=>
  have:=h.head b (by simp);rw[h0 a (by simp),h0 b (by simp)] at this;simp[cL] at this
theorem IB.elim {v w:Nat} {M:List RC} (hv:v<8) (hw:w<8) (jE:v≠w) (h:IB v w M):
 (∀ r∈M,o8 r.1 r.2 v)/\(elimO M v).length<=12/\Den Tryz.prog 90 [] [RL' ((elimO M v).map rn)] [] (.tup [RL' ((nrmL (elimO M v)).map rn),.int .i64 0])/\IC (nrmL (elimO M v)):=by
 have zD: ∀ r∈M,r.2.length<=12:=fun r hr=>((h.rg r hr).1.q.pok (n_ hv hw) (by decide)).2
 have hs:=fun r hr=>i7 (n_ hv hw) jE KE (h.rg r hr).1 (zD r hr)
 have hl:(elimO M v).length<=12:=by
  have:=tC (v:=v) (q:=1) (M:=M) (fun r hr=>gD (yu _ _ _) (by
   obtain⟨h1,h2⟩:=Fq (n_ hv hw) (h.rg r hr).1 (h.rg r hr).2;exact Nat.mul_le_mul h1 h2))
  have h2:=h.len;omega
 have hq: ∀ x∈elimO M v,RgQ w v 8 0 420 470564 5 x/\ ∀ l∈x.1,∀ i,i<8->co l i=0:=fun x hx=>by
  obtain⟨r,hr,hx⟩:=List.mem_flatMap.1 hx;obtain⟨a1,a2,a3,a4,a5,a6⟩:=(hs r hr).2 x hx;refine⟨⟨a1,fun l hl i hi h1 h2=>a2 l hl i hi h1 h1,by omega,gD (lN _) a3,a4,a5.duo hv jE,a6,.inr ⟨a2,by decide,by decide⟩⟩,fun l hl i hi=>?_⟩;by_cases sD:i=w
  .obtain⟨u,hu8,huv,SI⟩: ∃ u,u<8/\v≠u/\u≠w:=by
    by_cases h0:v≠0/\0≠w
    .exact⟨0,by decide,h0.1,h0.2⟩
    by_cases h1:v≠1/\1≠w
    .exact⟨1,by decide,h1.1,h1.2⟩
    exact⟨2,by decide,by omega,by omega⟩
   have v3:=h.rg r hr;have hu:RgV v u 6 0 104 27517 5 r:=⟨⟨v3.1.q.ok,fun l hl i hi h1 _=>v3.2 l hl i hi h1 h1,v3.1.q.len,v3.1.q.ncl,v3.1.q.can,fun t ht=>by
    obtain⟨b1,b2,b3,b4⟩:=v3.1.q.duo t ht;have b5: ∀ i,i<8->i≠v->t.1.getD i 0=0:=fun i hi h1=>by
     by_cases sD:i=w
     .rw[sD];omega
     exact b2 i hi h1 sD
    exact⟨b1,fun i hi h1 _=>b5 i hi h1,b3,by rw[b5 u hu8 (Ne.symm huv)];omega⟩,v3.1.q.pb,v3.1.q.alt⟩,v3.1.idem,v3.1.inn,v3.1.len⟩
   have:=((i7 (n_ hv hu8) huv KE hu (zD r hr)).2 x hx).2.1;exact this l hl i hi (by rw[sD];exact Ne.symm SI) (by rw[sD];exact Ne.symm SI)
  exact a2 l hl i hi sD sD
 have hm:=Fu (yw hw hv) (fun x hx=>(hq x hx).1) hl
 have NO: ∀ r∈nrmL (elimO M v),r.1=[]:=fun r hr=>by
  obtain⟨⟨z,hz,gA,he⟩,_⟩:=hm.2.2 r hr;rw[he];cases hc:aV z.1 with
  | nil=>rfl
  | cons f t=>
   exfalso;obtain⟨l,hl,qY,_⟩:=r9 (fun l hl=>((hq z hz).1.ok l hl).len) gA (f:=f) (by rw[hc];simp);exact qY (fun i hi=>(hq z hz).2 l hl i hi)
 have h1:=Il hm.1 NO
 have Xq: ∀ r∈nrmL (elimO M v),RgV w v 8 0 1 5646781 0 r:=fun r hr=>by
  have h0:=NO r hr;obtain⟨_,p1,p2,p3,p4⟩:=hm.2.2 r hr;refine⟨⟨?_,?_,?_,?_,p1.canon,p3,p4,.inl (by decide)⟩,?_,?_,?_⟩<;>rw[h0]
  .simp
  .intro l hl;simp at hl
  .simp
  .simp[ncs]
  .exact Ik
  .exact BJ
  simp
 refine⟨fun r hr=>(hs r hr).1,hl,kG (yw hw hv) (fun x hx=>(hq x hx).1) hl,hm.1,h1,fun r hr=>⟨NO r hr,(hm.2.2 r hr).2.1,(hm.2.2 r hr).2.2.1⟩,?_⟩
 have:=kG (adE hw hv) (fun r hr=>(Xq r hr).q) h1
 rw[yt hm.1 Xq] at this
 exact this
def IT (M:List RC):Prop:=IA 0 1 M\/IB 0 1 M\/IB 1 0 M\/IC M
theorem IT.self {M:List RC} (h:IT M):Den Tryz.prog 90 [] [RL' (M.map rn)] [] (.tup [RL' (M.map rn),.int .i64 0]):=by
 rcases h with h | h | h | h
 .exact h.den (by decide) (by decide)
 .exact h.den (by decide) (by decide)
 .exact h.den (by decide) (by decide)
 exact h.den
theorem qC {a b u:Nat} {r:RC} (hu:u<8) (bE: ∀ l∈r.1,LOk 499 l) (hl:r.1.length<=40) (h2:Two a b r.1) (ha:u≠a) (hb:u≠b):o8 r.1 r.2 u/\missB u r=true:=by
 obtain⟨h1,_⟩:=Qa h2 hu ha hb;exact⟨⟨hu,bE,hl,fun l hl=>by rw[h1] at hl;simp at hl⟩,qw.2 (.inl h1)⟩
structure Next (M:List RC) (u:Nat):Prop where
 slab: ∀ r∈M,o8 r.1 r.2 u
 len:(elimO M u).length<=12
 den:M.any (missB u)=false->Den Tryz.prog 90 [] [RL' ((elimO M u).map rn)] [] (.tup [RL' ((nrmL (elimO M u)).map rn),.int .i64 0])
 it:M.any (missB u)=false->IT (nrmL (elimO M u))
theorem qD {M:List RC} {u:Nat} (h: ∀ r∈M,o8 r.1 r.2 u/\missB u r=true):Next M u:=by
 have NO:M.any (missB u)=false->M=[]:=fun hm=>by
  cases M with
  | nil=>rfl
  | cons r M=>rw[j7 (List.mem_cons_self) (h r (by simp)).2] at hm;cases hm
 refine⟨fun r hr=>(h r hr).1,?_,fun hm=>?_,fun hm=>?_⟩
 .have:=tC (v:=u) (q:=0) (M:=M) (fun r hr=>by
   have h2:=(h r hr).2;have h1:=yu r.1 r.2 u;rcases qw.1 h2 with h3 | h3
   .rw[h3,length_nil,Nat.zero_mul] at h1;exact h1
   rw[h3,length_nil,Nat.mul_zero] at h1;exact h1)
  omega
 .rw[NO hm,BK,Fv];exact IC.nil.den
 rw[NO hm,BK,Fv];exact .inr (.inr (.inr IC.nil))
theorem IT.next {M:List RC} (h:IT M) {u:Nat} (hu:u<8):Next M u:=by
 rcases h with h | h | h | h
 .by_cases h0:u=0
  .subst h0;obtain⟨a,b,c,d⟩:=h.elim (by decide) (by decide) (by decide);exact⟨a,b,fun _=>c,fun _=> .inr (.inr (.inl d))⟩
  by_cases h1:u=1
  .subst h1;obtain⟨a,b,c,d⟩:=h.swap.elim (by decide) (by decide) (by decide);exact⟨a,b,fun _=>c,fun _=> .inr (.inl d)⟩
  exact qD (fun r hr=>qC hu (fun l hl=>((h.rg r hr).q.ok l hl).mono (by decide)) (h.rg r hr).q.len (h.rg r hr).q.two h0 h1)
 .by_cases h0:u=0
  .subst h0;obtain⟨a,b,c,d⟩:=h.elim (by decide) (by decide) (by decide);exact⟨a,b,fun _=>c,fun _=> .inr (.inr (.inr d))⟩
  exact qD (fun r hr=>qC hu (fun l hl=>((h.rg r hr).1.q.ok l hl).mono (by decide)) (h.rg r hr).1.q.len (h.rg r hr).2 h0 h0)
 .by_cases h0:u=1
  .subst h0;obtain⟨a,b,c,d⟩:=h.elim (by decide) (by decide) (by decide);exact⟨a,b,fun _=>c,fun _=> .inr (.inr (.inr d))⟩
  exact qD (fun r hr=>qC hu (fun l hl=>((h.rg r hr).1.q.ok l hl).mono (by decide)) (h.rg r hr).1.q.len (h.rg r hr).2 h0 h0)
 refine qD (fun r hr=>?_);have h0:=(h.rg r hr).1;exact qC (a:=8) (b:=8) hu (by rw[h0];simp) (by rw[h0];simp) (by rw[h0];intro l hl;simp at hl) (by omega) (by omega)
theorem IT.len {M:List RC} (h:IT M):M.length<=12:=by
 rcases h with h | h | h | h
 .exact gD h.len (by decide)
 .exact h.len
 .exact h.len
 exact gD h.len (by decide)
theorem IT.nf {M:List RC} (h:IT M):NF M:=by
 rcases h with h | h | h | h
 .exact h.nf
 .exact h.nf
 .exact h.nf
 exact h.nf
theorem IT.pok {M:List RC} (h:IT M): ∀ r∈M,POk 10000000 1024 r.2/\r.2.length<=12:=fun r hr=>by
 rcases h with h | h | h | h
 .exact(h.rg r hr).q.pok (re (by decide) (by decide)) (by decide)
 .exact(h.rg r hr).1.q.pok (n_ (by decide) (by decide)) (by decide)
 .exact(h.rg r hr).1.q.pok (n_ (by decide) (by decide)) (by decide)
 exact(h.rg r hr).2
theorem Qe {L:List RR} {M:List RC} (h:IT M) (Ax:Den Tryz.prog 90 [] [RL' L] [] (.tup [RL' (M.map rn),.int .i64 0])) (v:Int):Den Tryz.prog 36 [] [RL' L,.int .i64 v] [] (listV (iO M v)):=by
 unfold iO listV;by_cases hv:v<0\/8<=v
 .rw[if_pos hv,if_neg (by decide)];exact adC L M v hv Ax
 obtain⟨u,rfl⟩: ∃ u:Nat,v=(u:Int):=⟨v.toNat,by omega⟩;have hu:u<8:=by omega
 have hn:=h.next hu;rw[if_neg hv,Int.toNat_natCast];have:=aia L M (nrmL (elimO M u)) u hu Ax (by have:=h.len;omega) hn.slab (by have:=hn.len;omega) hn.den;by_cases hm:M.any (missB u)=true
 .rw[if_pos hm] at this ⊢;rw[if_neg (by decide)];exact this
 rw[if_neg hm] at this ⊢;rw[if_pos rfl];exact this
theorem Yt:W5 iO IT where
 den M h v _ _:=Qe h h.self v
 next M h v h0:=by
  unfold iO at h0 ⊢;by_cases hv:v<0\/8<=v
  .rw[if_pos hv] at h0;exact absurd h0 (by decide)
  obtain⟨u,rfl⟩: ∃ u:Nat,v=(u:Int):=⟨v.toNat,by omega⟩;have hu:u<8:=by omega
  rw[if_neg hv,Int.toNat_natCast] at h0 ⊢;by_cases hm:M.any (missB u)=true
  .rw[if_pos hm] at h0;exact absurd h0 (by decide)
  rw[if_neg hm];exact(h.next hu).it (by simpa using hm)
 len M h:=by have:=h.len;omega
 nf M h:=h.nf
 one M h r hr _:=h.pok r hr
theorem CY {L:List RR} {M:List RC} (h:IT M) (Ax:Den Tryz.prog 90 [] [RL' L] [] (.tup [RL' (M.map rn),.int .i64 0])) (vs:List Int) (hw:W64 vs) (hn:vs.length<=1000):
 Den Tryz.prog 40 [] [RL' L,.fv (.sl (ints vs))] [] (ym (yn iO M vs)):=aib iO IT Yt L M vs hw hn h Ax
def pa (p:List Tm) (t:Tm):List Tm:=(Cz p t).filter n6
theorem MH {p:List Tm} {t:Tm} {i:Nat} (h:i<p.length):pa (p.take (i+1)) t=if n6 (oX p[i] t)=true then pa (p.take i) t++[oX p[i] t] else pa (p.take i) t:=by
 unfold pa Cz;rw[List.take_add_one,qb h,v8,filter_append];show _++List.filter n6 [oX p[i] t]=_;by_cases hz:n6 (oX p[i] t)=true
 .rw[if_pos hz,List.filter_cons_of_pos hz];rfl
 rw[if_neg hz,filter_cons_of_neg hz];simp
theorem Qf (p:List Tm) (t:Tm):(pa p t).length<=p.length:=by
 unfold pa;have:=List.length_filter_le n6 (Cz p t);unfold Cz at this;rwa [length_map] at this
theorem adF (p:List Tm) (t:RT) (hp:LOkT 1000000 1000000 p) (ht:t.1.length=8) (hte: ∀ x∈t.1,0<=x/\x<=1000000) (htr:t.2.Ok 1000000) (hn:p.length<=10000):
 Den Tryz.prog 103 [] [PL (p.map tn),.agg (fI t)] [] (PL ((pa p (tq t)).map tn)):=by
 have rp:=av (p.map tn)
 rw[length_map] at rp
 obtain⟨n,cZ⟩:=aw p.length
 rw[cZ] at rp hn
 have tcl:=aE ht
 have tc8:=dL ht
 have tcf:=dS ht
 refine dq Tryz.func103 47 0 ?_
 refine b8 tcl ?_
 repeat refine ag ?_
 refine wl (α:=Nat) (fun i=>⟨[PL (p.map tn),.any,.any,.ptr 0 0 0,.any,.lsl 1 0 (pa (p.take i) (tq t)).length 11,.int .i64 i]++replicate 42 .any,[.box true (fI t),.row true (aq ((pa (p.take i) (tq t)).map tn))]⟩) (fun i=>n - i) (fun i=>i<=n) 0 ?_ (eH _) ?_
 .refine Weak.nil 5 11 (by decide) rfl ?_
  refine eV [0,1] ?_ ?_
  .simp[bc,dX,cB]
   rfl
  simp[ez,fL,gR]
  rfl
 intro i hi
 have zP:=Qf (p.take i) (tq t)
 rw[length_take,cZ,Nat.min_eq_left hi] at zP
 have ro:=av ((pa (p.take i) (tq t)).map tn)
 rw[length_map] at ro
 have tko:=bL (ts:=(pa (p.take i) (tq t)).map tn) (n:=(pa (p.take i) (tq t)).length) (by rw[length_map];omega)
 refine b8 rp ?_
 refine bR ?_ ?_
 .intro h1 h2
  have dU:i<p.length:=by omega
  have r1:=rY dU
  have bf:p[i]∈p:=kj dU
  have G2:=hp.len _ bf
  have zR:=hp.bd _ bf
  have oD:=hp.exp _ bf
  have bP:=MH (t:=tq t) dU
  obtain⟨s,ua⟩:=aw (p[i])
  rw[ua] at r1 G2 zR oD bP
  obtain⟨O,hO⟩:=aw (pa (p.take i) (tq t))
  rw[hO] at zP ro tko bP ⊢
  have Vz:(tn s).1.length=8:=G2
  have s11:=aY Vz
  have sfl:=aK Vz
  have scl:=aE Vz
  have hI0:lM s.1 t.1 0=s.1:=by simp[lM,e_]
  have hI8:=Bw G2 ht
  refine ae (bT h2 r1 s11 @d9 sfl scl rp @append_nil.{0}) ?_
  repeat refine ag ?_
  refine wl (α:=Nat) (fun k=>⟨[PL (p.map tn),.any,.any,.ptr 0 0 0,.any,.lsl 1 0 O.length 11,.int .i64 i,.ptr 2 0 0,.int .i64 k]++replicate 40 .any,[.box true (fI t),.row true (aq (O.map tn)),.box true (fI (lM s.1 t.1 k,cn s.2))]⟩) (fun k=>8 - k) (fun k=>k<=8) 0 ?_ (eH _) ?_
  .rw[hI0]
   refine eV [0,1,2] ?_ ?_
   .simp[bc,dX,cB]
   simp[ez,fL,gR]
   exact gR _ (tn s)
  intro k hk
  have I8:=k4 G2 ht hk
  have xl:((lM s.1 t.1 k,cn s.2):RT).1.length=8:=I8
  have xcl:=aE xl
  refine aX ?_
  refine bR ?_ ?_
  .intro h3 h4
   have gV:=uJ (t:=(lM s.1 t.1 k,cn s.2)) (i:=k) (by omega) xl
   have tat:=uJ (t:=t) (i:=k) (by omega) ht
   dsimp only at gV
   rw[Kk G2 ht (by omega)] at gV
   have bV:=p5 (t:=(lM s.1 t.1 k,cn s.2)) (i:=k) (x:=s.1.getD k 0+t.1.getD k 0) (by omega) xl
   dsimp only at bV
   rw[Bv G2 ht (by omega)] at bV
   have ga:=jv (by decide) oD k
   have gb:=jv (by decide) hte k
   obtain⟨x,hx⟩:=aw (s.1.getD k 0)
   obtain⟨y,hy⟩:=aw (t.1.getD k 0)
   rw[hx] at gV bV ga
   rw[hy] at tat bV gb
   refine ae h4 ?_
   refine dw (by kernel_rfl) ?_
   refine ae (fM gV tat xcl tcl @Nat.mul_one bV) ?_
   repeat refine ag ?_
   refine ax (k+1) ?_ (by omega)
   refine eV [0,1,2] ?_ ?_
   .simp[bc,dX,cB]
   simp[ez,fL,gR]
  intro h3 h4
  have hk8:k=8:=by omega
  subst hk8
  have vY:=gX G2 ht
  rw[hI8] at xl xcl ⊢
  have Oa:=OS (cn s.2) t.2 ((bD zR).mono (by decide)) (htr.mono (by decide))
  rw[cQ] at Oa
  change Den Tryz.prog 65 [] [.agg (cn s.2).c,.agg t.2.c] [] (.agg (cn (s.2*t.2.q)).c) at Oa
  have hbm:Bd 2000000 (s.2*t.2.q):=Bd.mul (j:=1000000) (k:=1000000) zR (htr.bd (by decide)) (by decide)
  have GY:=JT (cn (s.2*t.2.q)) ((bD hbm).mono (by decide))
  rw[cQ] at GY
  change Den Tryz.prog 63 [] [.agg (cn (s.2*t.2.q)).c] [] _ at GY
  have xcf:=dS xl
  have pc:=mn (r:=cn (s.2*t.2.q)) xl
  have yl:((e_ s.1 t.1,cn (s.2*t.2.q)):RT).1.length=8:=vY
  have ycf:=dS yl
  have ycl:=aE yl
  have y11:=de yl
  have afD:=aY yl
  have yfl:=aK yl
  have cJ:=eC (O.map tn) (tn (oX s (tq t)))
  rw[<-oW] at cJ
  change aq (O.map tn)++[im (e_ s.1 t.1,cn (s.2*t.2.q))]=_ at cJ
  have GX:n6 (oX s (tq t))=decide (gk (s.2*t.2.q)≠0):=by
   show decide (s.2*t.2.q≠0)=_;by_cases hz:s.2*t.2.q=0
   .rw[mX (by simpa using hz),mX (by simpa using bm.2 hz)]
   rw[ib hz,ib (show gk (s.2*t.2.q)≠0 from fun h=>hz (bm.1 h))]
  obtain⟨z,hz⟩:=aw (cn (s.2*t.2.q))
  rw[hz] at Oa GY pc yl ycf ycl y11 afD yfl cJ
  obtain⟨g,hg⟩:=aw (gk (s.2*t.2.q))
  rw[hg] at GY GX
  dsimp only at xcf ycf pc
  refine ae (gS h4 tcl xcl tcf xcf) ?_
  repeat refine ag ?_
  refine zm Oa ?_
  refine ae (bT @gq @dM @cE pc xcl ycl ycf @append_nil.{0}) ?_
  repeat refine ag ?_
  refine zm GY ?_
  refine ae @gq ?_
  refine Br.bneInt ?_ ?_
  .intro h5 h6
   rw[GX,ib h5,if_pos rfl] at bP
   refine ae (bT h6 ycl y11 afD @dr @dJ ro (bZ tko cJ @append_nil.{0})) ?_
   repeat refine ag ?_
   refine ax (i+1) ?_ (by omega)
   rw[bP,qe]
   refine eV [0,4] ?_ ?_
   .simp[bc,dX,cB]
   simp[ez,fL,gR]
  intro h5 h6
  rw[GX,mX (by simpa using h5),if_neg (by decide)] at bP
  refine ae h6 ?_
  refine ax (i+1) ?_ (by omega)
  rw[bP]
  refine eV [0,1] ?_ ?_
  .simp[bc,dX,cB]
  simp[ez,fL,gR]
 intro h1 h2
 have Og:p.take i=p:=eE (by omega)
 rw[Og] at ro tko ⊢
 refine ae h2 ?_
 refine bg ?_
 exact lX (aQ ro tko)
theorem Yu: ∀ x∈z8,0<=x/\x<=(1000000:Int):=fun x hx=>by
 rw[List.eq_of_mem_replicate hx];omega
theorem Qg (H:List Ob) (A:List RT) (t:RT):cC H [PL A,.agg (fI t)]=some [PL A,.agg (fI t)]:=by
 have h:iw H (.agg (fI t))=some (.agg (fI t)):=by
  unfold iw;simp only[dr,Option.map_some,d9]
 unfold cC;unfold cC;unfold cC;rw[h];rfl
theorem aid (p:List Tm) (r:Raw) (hp:LOkT 1000000 1000000 p) (hr:r.Ok 1000000) (hn:p.length<=10000):
 Den Tryz.prog 54 [] [PL (p.map tn),.agg r.c] [] (PL ((pa p (z8,r.q)).map tn)):=by
 have h:=adF p (z8,r) hp bX Yu hr hn
 change Den Tryz.prog 103 [] [_,_] [] (PL ((pa p (z8,r.q)).map tn)) at h
 have zl:=aE (t:=(z8,r)) bX
 obtain⟨A,hA⟩:=aw (p.map tn)
 obtain⟨B,hB⟩:=aw ((pa p (z8,r.q)).map tn)
 rw[hA,hB] at h
 rw[hA,hB]
 refine dq Tryz.func54 7 0 ?_
 refine b8 (ej @cE @xC @Pw @append_nil.{0}) ?_
 repeat refine ag ?_
 refine gp h (Qg _ A (z8,r)) ?_
 refine a9 ?_
 refine bg rfl
theorem adG (r:Raw) (hr:r.Ok 100000):Den Tryz.prog 137 [] [.agg r.c] [] (PL ((nf [(z8,r.q)]).map tn)):=by
 have h:=ahU [(z8,r)] (fun t ht=>by
  rw[qz] at ht;subst ht;exact⟨bX,HQ,hr.mono (by decide)⟩) ((PB.one (k:=100000) (hr.bd (by decide))).mono (by decide)) (by show 1<=10000000000;decide)
 change Den Tryz.prog 44 [] [.fv (.sl [im (z8,r)])] [] (PL ((nf [(z8,r.q)]).map tn)) at h;have zl:=aE (t:=(z8,r)) bX;have z11:=de (t:=(z8,r)) bX;have vX:=aY (t:=(z8,r)) bX;have fl:=aK (t:=(z8,r)) bX;obtain⟨B,hB⟩:=aw ((nf [(z8,r.q)]).map tn);rw[hB] at h ⊢;refine dq Tryz.func137 6 0 ?_;refine b8 (bT @cE @xC @Pw zl vX @dr @dJ @append_nil.{0}) ?_
 repeat refine ag ?_
 refine gp h (by simp[cC,iw,gj,fP]) ?_;refine a9 ?_;refine bg rfl
def mE:List Tm:=[(z8,1)]
theorem Qh:nf [(z8,((1:Int):Rat))]=mE:=by
 unfold nf;simp[insT,mE]
theorem aie:Den Tryz.prog 79 [] [] [] (PL (mE.map tn)):=by
 have tT:=mg 1 (by omega);change Den Tryz.prog 32 [] _ [] (.agg (cn ((1:Int):Rat)).c) at tT;have h:=adG (cn ((1:Int):Rat)) ((bD (Go.Pl.bd_int (x:=1) (by decide))).mono (by decide));rw[cQ,Qh] at h;obtain⟨B,hB⟩:=aw (mE.map tn);rw[hB] at h ⊢;obtain⟨z,hz⟩:=aw (cn ((1:Int):Rat));rw[hz] at tT h;refine dq Tryz.func79 3 0 ?_;refine aX ?_;refine aW tT ?_;refine ae (aQ @dM @append_nil.{0}) ?_;refine zm h ?_;refine a9 ?_;refine bg rfl
def Rd3 (ts:List RT):Prop:= ∀ t∈ts,t.1.length=8/\(∀ e∈t.1,0<=e/\e<=2)/\t.2.Ok 4
theorem Rd3.snoc {ts:List RT} {t:RT} (h:Rd3 ts) (h1:t.1.length=8) (h2: ∀ e∈t.1,0<=e/\e<=2) (h3:t.2.Ok 4):Rd3 (ts++[t]):=fun u hu=>by
 rcases List.mem_append.1 hu with hu | hu
 .exact h u hu
 rw[qz] at hu;subst hu;exact⟨h1,h2,h3⟩
theorem Qi: ∀ e∈z8,0<=e/\e<=(2:Int):=fun x hx=>by
 rw[List.eq_of_mem_replicate hx];omega
abbrev Sn:List Int:=[0,0,1,1,2]
theorem Qj (i:Nat):0<=Sn.getD i 0/\Sn.getD i 0<=2:=jv (by decide) (by decide) i
def Zf (vars:Nat) (ts:List RT):Prop:= ∀ t∈ts,∀ k,vars<=k->t.1.getD k 0=0
theorem Zf.snoc {vars:Nat} {ts:List RT} {t:RT} (h:Zf vars ts) (h1: ∀ k,vars<=k->t.1.getD k 0=0):Zf vars (ts++[t]):=fun u hu=>by
 rcases List.mem_append.1 hu with hu | hu
 .exact h u hu
 rw[qz] at hu;subst hu;exact h1
theorem wP (k:Nat):z8.getD k 0=(0:Int):=by
 rw[qa,z8,List.getElem?_replicate];split<;>rfl
theorem W7 (xs:List Int) (a vars terms:Nat) (hl:xs.length<=1000) (ha:a<=xs.length) (hw:W64 xs) (hv:vars<=8) (ht:terms<=100):
 ∃ H1 res,(fun H1 res=> ∃ ts:List RT,∃ a':Nat,H1=[S xs a',.row true (aq ts)]/\res=PV.lsl 1 0 ts.length 11/\a'<=xs.length/\ts.length<=terms/\Rd3 ts/\Zf vars ts) H1 res/\
  Den Tryz.prog 42 [S xs a] [.ptr 0 0 0,.int .i64 vars,.int .i64 terms] H1 res:=by
 have hN:=sU xs a (terms+1) hl ha hw (by omega) (by omega)
 have aH:=eR (xs:=xs) (a:=a) (n:=terms+1) (by omega)
 have hc:=aI xs a
 have XA:=cD ha
 generalize nN xs a (terms+1)=n at*
 have e0:((terms:Int)+1)=((terms+1:Nat):Int):=by simp
 obtain⟨a0,hA⟩:=aw (nx xs a)
 rw[hA] at hN XA
 have hS0: ∀ a,Ob.box true [.fv (.sl (ints xs)),.int .i64 (a:Nat),.int .i64 0]=S xs a:=fun _=>rfl
 unfold S at hN hc
 unfold S
 refine Wl Tryz.func42 41 1 ?_
 refine b8 e0 ?_
 refine iD 0 hN hc ?_
 refine I5 ?_
 refine wl (α:=Nat×Nat×List RT) (fun⟨i,a,ts⟩=>⟨[.ptr 0 0 0,.int .i64 vars,.any,.any,.any,.any,.any,.lsl 1 0 ts.length 11,.int .i64 i]++replicate 35 .any,[.box true [.fv (.sl (ints xs)),.int .i64 a,.int .i64 0],.row true (aq ts)]⟩)
  (fun⟨i,_,_⟩=>i) (fun⟨i,a,ts⟩=>i+ts.length<=terms/\a<=xs.length/\Rd3 ts/\Zf vars ts) (n,a0,[]) ?_ ⟨by simp;omega,XA,fun t ht=>by simp at ht,fun t ht=>by simp at ht⟩ ?_
 .refine Weak.nil 7 11 (by decide) rfl ?_
  refine eV [0,1] ?_ ?_
  .simp[bc,dX,cB]
  simp[ez,fL,c9,cB]
  rfl
 rintro⟨i,a,ts⟩ ⟨hi,ha,ef,tZ⟩
 refine aX ?_
 refine bR ?_ ?_
 .intro h1 h2
  have Jh:=O0 xs a hl ha hw
  have hca:=aI xs a
  have hb:=wG xs a
  obtain⟨q,hq⟩:=aw (qR xs a)
  obtain⟨a1,vV⟩:=aw (nx xs (nx xs a))
  have la1:a1<=xs.length:=by rw[<-vV];exact cD (cD ha)
  rw[hq,vV] at Jh
  rw[hq] at hb
  change Den Tryz.prog 55 _ _ _ (.agg (cn q).c) at Jh
  have h8:=sU xs a1 8 hl la1 hw (by decide) (by decide)
  have vR:=aI xs a1
  have l8:=eR (xs:=xs) (a:=a1) (n:=8) (by decide)
  obtain⟨m,hm⟩:=aw (nN xs a1 8)
  obtain⟨a2,Oc⟩:=aw (nx xs a1)
  have la2:a2<=xs.length:=by rw[<-Oc];exact cD la1
  rw[hm,Oc] at h8
  rw[hm] at l8
  have bE:=bD hb
  obtain⟨r,hr⟩:=aw (cn q)
  rw[hr] at Jh bE
  have zl:=aE (t:=(z8,r)) bX
  unfold S at Jh h8 hca vR
  refine ae h2 ?_
  refine iD 0 Jh hca ?_
  refine vg (ej @dM @cE @Pw zl) ?_
  repeat refine ag ?_
  refine iD 0 h8 vR ?_
  refine I5 ?_
  refine Br.beqInt ?_ ?_
  .intro h3 h4
   have G4:=WL xs a2 hl la2 hw
   have qO:=aI xs a2
   have rok:=ux xs a2
   have la3:=A2 la2
   obtain⟨r3,XB⟩:=aw ((jI xs a2).1)
   obtain⟨a3,ZI⟩:=aw ((jI xs a2).2)
   rw[XB,ZI] at G4
   rw[XB] at rok
   rw[ZI] at la3
   change Den Tryz.prog 60 _ _ _ (.agg r3.c) at G4
   have pc:=mn (t:=(z8,r)) (r:=r3) bX
   unfold S at G4 qO
   refine ae h4 ?_
   refine iD 0 G4 qO ?_
   refine vg (ej @dM @cE zl pc) ?_
   repeat refine ag ?_
   refine wl (α:=Nat×Nat×List Int) (fun⟨v,b,m⟩=>⟨[.ptr 0 0 0,.int .i64 vars,.any,.any,.any,.any,.any,.lsl 1 0 ts.length 11,.int .i64 i,.ptr 2 0 0,.int .i64 v]++replicate 33 .any,[.box true [.fv (.sl (ints xs)),.int .i64 b,.int .i64 0],.row true (aq ts),.box true (fI (m,r3))]⟩)
    (fun⟨v,_,_⟩=>vars - v) (fun⟨v,b,m⟩=>v<=vars/\b<=xs.length/\m.length=8/\(∀ e∈m,0<=e/\e<=2)/\ ∀ k,v<=k->m.getD k 0=0) (0,a3,z8) ?_ ⟨eH _,la3,rfl,Qi,fun k _=>wP k⟩ ?_
   .refine eV [0,1,2] ?_ ?_
    .simp[bc,dX,cB]
    simp[ez,fL,gR,c9,cB]
   rintro⟨v,b,m⟩ ⟨mT,lb,vY,SF,hmz⟩
   refine aX ?_
   refine bR ?_ ?_
   .intro g1 g2
    have Lp:=OZ xs b Sn hl lb hw (by decide) (by decide)
    have Hl:=aI xs b
    have hd:=Qj (nN xs b Sn.length)
    obtain⟨d,Dz⟩:=aw (Sn.getD (nN xs b Sn.length) 0)
    rw[Dz] at Lp hd
    have bV:=p5 (t:=(m,r3)) (i:=v) (x:=d) (by omega) vY
    dsimp only at bV
    have tl:=aE (t:=(m,r3)) vY
    unfold S at Lp Hl
    refine ae (aQ g2 @append_nil.{0}) ?_
    refine iD 0 Lp Hl ?_
    simp -dsimp(disch:=omega) only[append_nil,SZ,bV,tl,Nat.mul_one,↓reduceIte,reduceAdd,reduceLT,reduceLeDiff,ru]
    repeat refine ag ?_
    refine ax (v+1,nx xs b,m.set v d) ?_ ⟨by omega,cD lb,by simp[vY],fun e he=>?_,fun k hk=>by rw[qa,getElem?_set_ne (by omega),<-qa];exact hmz k (by omega)⟩
    .refine eV [0,1,2] ?_ ?_
     .simp[bc,dX,cB]
     simp[ez,fL,gR,c9,cB]
    rcases List.mem_or_eq_of_mem_set he with h9 | h9
    .exact SF e h9
    rw[h9];exact hd
   intro g1 g2
   have tl:=aE (t:=(m,r3)) vY
   have Jj:=de (t:=(m,r3)) vY
   have vX:=aY (t:=(m,r3)) vY
   have fl:=aK (t:=(m,r3)) vY
   have cJ:=eC ts (m,r3)
   have rt:=av ts
   have tk:=bL (ts:=ts) (n:=ts.length) (qp _)
   have e9:((i:Int) - 1)=((i - 1:Nat):Int):=by omega
   simp -dsimp(disch:=omega) only[g2,tl,Jj,vX,dr,dJ,rt,tk,cJ,e9,append_nil,↓reduceIte,reduceAdd,Nat.reduceMul,Nat.reduceBEq,reduceLT,reduceLeDiff,ru]
   repeat refine ag ?_
   refine ax (i - 1,b,ts++[(m,r3)]) ?_ ⟨by rw[qe];show i - 1+(ts.length+1)<=terms;omega,lb,ef.snoc vY SF rok,tZ.snoc (fun k hk=>hmz k (by omega))⟩
   exact bN [0,4]
  intro h3 h4
  refine ae h4 ?_
  refine wl (α:=Nat×Nat×List Int) (fun⟨v,b,m⟩=>⟨[.ptr 0 0 0,.int .i64 vars,.any,.any,.any,.any,.any,.lsl 1 0 ts.length 11,.int .i64 i,.ptr 2 0 0,.int .i64 v]++replicate 33 .any,[.box true [.fv (.sl (ints xs)),.int .i64 b,.int .i64 0],.row true (aq ts),.box true (fI (m,r))]⟩)
   (fun⟨v,_,_⟩=>vars - v) (fun⟨v,b,m⟩=>v<=vars/\b<=xs.length/\m.length=8/\(∀ e∈m,0<=e/\e<=2)/\ ∀ k,v<=k->m.getD k 0=0) (0,a2,z8) ?_ ⟨eH _,la2,rfl,Qi,fun k _=>wP k⟩ ?_
  .refine eV [0,1,2] ?_ ?_
   .simp[bc,dX,cB]
   simp[ez,fL,gR,c9,cB]
  rintro⟨v,b,m⟩ ⟨mT,lb,vY,SF,hmz⟩
  refine aX ?_
  refine bR ?_ ?_
  .intro g1 g2
   have Lp:=OZ xs b Sn hl lb hw (by decide) (by decide)
   have Hl:=aI xs b
   have hd:=Qj (nN xs b Sn.length)
   obtain⟨d,Dz⟩:=aw (Sn.getD (nN xs b Sn.length) 0)
   rw[Dz] at Lp hd
   have bV:=p5 (t:=(m,r)) (i:=v) (x:=d) (by omega) vY
   dsimp only at bV
   have tl:=aE (t:=(m,r)) vY
   unfold S at Lp Hl
   refine ae (aQ g2 @append_nil.{0}) ?_
   refine iD 0 Lp Hl ?_
   simp -dsimp(disch:=omega) only[append_nil,SZ,bV,tl,Nat.mul_one,↓reduceIte,reduceAdd,reduceLT,reduceLeDiff,ru]
   repeat refine ag ?_
   refine ax (v+1,nx xs b,m.set v d) ?_ ⟨by omega,cD lb,by simp[vY],fun e he=>?_,fun k hk=>by rw[qa,getElem?_set_ne (by omega),<-qa];exact hmz k (by omega)⟩
   .refine eV [0,1,2] ?_ ?_
    .simp[bc,dX,cB]
    simp[ez,fL,gR,c9,cB]
   rcases List.mem_or_eq_of_mem_set he with h9 | h9
   .exact SF e h9
   rw[h9];exact hd
  intro g1 g2
  have tl:=aE (t:=(m,r)) vY
  have Jj:=de (t:=(m,r)) vY
  have vX:=aY (t:=(m,r)) vY
  have fl:=aK (t:=(m,r)) vY
  have cJ:=eC ts (m,r)
  have rt:=av ts
  have tk:=bL (ts:=ts) (n:=ts.length) (qp _)
  have e9:((i:Int) - 1)=((i - 1:Nat):Int):=by omega
  simp -dsimp(disch:=omega) only[g2,tl,Jj,vX,dr,dJ,rt,tk,cJ,e9,append_nil,↓reduceIte,reduceAdd,Nat.reduceMul,Nat.reduceBEq,reduceLT,reduceLeDiff,ru]
  repeat refine ag ?_
  refine ax (i - 1,b,ts++[(m,r)]) ?_ ⟨by rw[qe];show i - 1+(ts.length+1)<=terms;omega,lb,ef.snoc vY SF (bE.mono (by decide)),tZ.snoc (fun k hk=>hmz k (by omega))⟩
  exact bN [0,4]
 intro h1 h2
 have sC:i=0:=by omega
 subst sC
 refine ae h2 ?_
 exact⟨[.box true [.fv (.sl (ints xs)),.int .i64 a,.int .i64 0],.row true (aq ts)],.lsl 1 0 ts.length 11,⟨ts,a,rfl,rfl,ha,by omega,ef,tZ⟩,RetOK.lentOwn (cd:=True/\True) rfl ⟨cS,cS⟩ rfl (aI xs a) rfl (by decide) rfl⟩
end Go.Proofs.YtjjbkjgifdhlcaaGreat
namespace Go.Pl
open Go.AM
theorem adH {x k:Rat} (h: ∀ n:Nat,0<n->x*(n:Rat)<=k):x<=0:=by
 apply Classical.byContradiction;intro hc;have h0:0<x:=by grind
 have h1:=Rat.lt_floor_add_one (k / x);obtain⟨N,hN⟩: ∃ N:Int,(k / x).floor+1=N:=⟨_,rfl⟩;rw[hN] at h1;have h2:N<=((N.toNat+1:Nat):Int):=by omega
 have h3:(N:Rat)<=(((N.toNat+1:Nat):Int):Rat):=Rat.intCast_le_intCast.2 h2;have h4:=h (N.toNat+1) (by omega);have h5:(((N.toNat+1:Nat):Int):Rat)=((N.toNat+1:Nat):Rat):=Rat.intCast_natCast _;rw[h5] at h3;generalize ((N.toNat+1:Nat):Rat)=m at*;have h6:k / x<m:=by grind
 have h7:k / x*x=k:=by grind
 have h8:k / x*x<m*x:=Rat.mul_lt_mul_of_pos_right h6 h0;grind
def Nr (x y e:Rat):Prop:=x - y<=e/\y - x<=e
theorem Nr.trans {x y z a b:Rat} (h:Nr x y a) (k:Nr y z b):Nr x z (a+b):=by
 unfold Nr at*;grind
theorem Nr.mono {x y a b:Rat} (h:Nr x y a) (k:a<=b):Nr x y b:=by
 unfold Nr at*;grind
theorem Nr.self (x:Rat) {e:Rat} (h:0<=e):Nr x x e:=by
 unfold Nr;grind
theorem Nr.add {x y z w a b:Rat} (h:Nr x y a) (k:Nr z w b):Nr (x+z) (y+w) (a+b):=by
 unfold Nr at*;grind
theorem j9 {n:Nat} (h:0<n):(0:Rat)<(n:Rat):=by
 have h1:((1:Int):Rat)<=((n:Int):Rat):=Rat.intCast_le_intCast.2 (by omega);rw[Rat.intCast_natCast] at h1;have h2:((1:Int):Rat)=1:=rfl;grind
theorem pd (n:Nat):((n+1:Nat):Rat)=(n:Rat)+1:=by
 rw[<-Rat.intCast_natCast,<-Rat.intCast_natCast,show((n+1:Nat):Int)=(n:Int)+1 by omega,Rat.intCast_add];rfl
theorem Nr.eq {x y k:Rat} (h: ∀ n:Nat,0<n->Nr x y (k / n)):x=y:=by
 have key: ∀ z:Rat,(∀ n:Nat,0<n->z<=k / n)->z<=0:=fun z hz=>adH (k:=k) (fun n hn=>by
  have h1:=hz n hn;have h2:=j9 hn;generalize (n:Rat)=m at*;have h3:z*m<=k / m*m:=Rat.mul_le_mul_of_nonneg_right h1 (by grind);have h4:k / m*m=k:=by grind
  grind)
 have h1:=key (x - y) (fun n hn=>(h n hn).1);have h2:=key (y - x) (fun n hn=>(h n hn).2);grind
theorem adI {D:Rat->Rat} {a b C:Rat} (rv:a<=b) (h: ∀ s t,a<=s->s<t->t<=b->Nr (D t) (D s) (C*((t - s)*(t - s)))):D b=D a:=by
 rcases(by grind:a=b\/a<b) with he | aH
 .rw[he]
 refine Nr.eq (k:=C*((b - a)*(b - a))) (fun n hn=>?_);have hm:=j9 hn;obtain⟨d,hd⟩:=Hs ((b - a) / (n:Rat));have Jc:d*(n:Rat)=b - a:=by rw[<-hd];generalize (n:Rat)=m at*;grind
 have gg:0<d:=by
  apply Classical.byContradiction;intro hc;have:d*(n:Rat)<=0*(n:Rat):=Rat.mul_le_mul_of_nonneg_right (by grind) (by grind);grind
 have key: ∀ i:Nat,i<=n->Nr (D (a+(i:Rat)*d)) (D a) ((i:Rat)*(C*(d*d))):=fun i=>by
  induction i with
  | zero=>
   intro _;have:((0:Nat):Rat)=0:=rfl;rw[this];have e1:a+0*d=a:=by grind
   have e2:(0:Rat)*(C*(d*d))=0:=by grind
   rw[e1,e2];exact Nr.self _ (by grind)
  | succ i ih=>
   intro hi;have h1:=ih (by omega);have dR:((i+1:Nat):Rat)<=(n:Rat):=by
    have:=Rat.intCast_le_intCast.2 (show((i+1:Nat):Int)<=(n:Int) by omega);rwa [Rat.intCast_natCast,Rat.intCast_natCast] at this
   have sC:(0:Rat)<=(i:Rat):=by
    have:=Rat.intCast_le_intCast.2 (show(0:Int)<=(i:Int) by omega);rwa [Rat.intCast_natCast] at this
   have e1:=pd i;rw[e1] at dR ⊢;have p1:0<=(i:Rat)*d:=Rat.mul_nonneg sC (by grind);have p2:((i:Rat)+1)*d<=(n:Rat)*d:=Rat.mul_le_mul_of_nonneg_right dR (by grind);have h2:=h (a+(i:Rat)*d) (a+((i:Rat)+1)*d) (by grind) (by grind) (by grind);refine(h2.trans h1).mono ?_;have e3:a+((i:Rat)+1)*d - (a+(i:Rat)*d)=d:=by grind
   rw[e3];grind
 have h3:=key n (qp n);have e4:a+(n:Rat)*d=b:=by grind
 rw[e4] at h3;refine h3.mono ?_;generalize (n:Rat)=m at*;have e5:C*((b - a)*(b - a)) / m=m*(C*(d*d)):=by
  rw[<-Jc];grind
 rw[e5];exact Rat.le_refl
theorem Fw {D:Rat->Rat} {C K:Rat}: ∀ (E:List Rat) {a b:Rat},a<=b->(∀ s t,a<=s->s<t->t<=b->(∀ e∈E,¬(s<=e/\e<=t))->Nr (D t) (D s) (C*((t - s)*(t - s))))->
 (∀ s t,a<=s->s<=t->t<=b->Nr (D t) (D s) (K*(t - s)))->D b=D a
 | [],a,b,rv,h,_=>adI rv (fun s t h1 h2 h3=>h s t h1 h2 h3 (by simp))
 | e::E,a,b,rv,h,hK=>by
  by_cases he:a<=e/\e<=b
  .obtain⟨h1,h2⟩:=he;have hl:D e=D a:=by
    rcases(by grind:a=e\/a<e) with h0 | h0
    .rw[h0]
    refine Nr.eq (k:=K*(e - a)) (fun n hn=>?_);have hm:=j9 hn;obtain⟨d,hd⟩:=Hs ((e - a) / (n:Rat));have Jc:d*(n:Rat)=e - a:=by rw[<-hd];generalize (n:Rat)=m at*;grind
    have gg:0<d:=by
     apply Classical.byContradiction;intro hc;have:d*(n:Rat)<=0*(n:Rat):=Rat.mul_le_mul_of_nonneg_right (by grind) (by grind);grind
    have Zg:d<=e - a:=by
     have h1n:(1:Rat)<=(n:Rat):=by
      have:=Rat.intCast_le_intCast.2 (show(1:Int)<=(n:Int) by omega);rwa [Rat.intCast_natCast] at this
     have:d*1<=d*(n:Rat):=Rat.mul_le_mul_of_nonneg_left h1n (by grind);grind
    have hc:=Fw E (a:=a) (b:=e - d) (by grind) (fun s t g1 g2 g3 g4=>h s t g1 g2 (by grind) (fun x hx=>by
     rcases List.mem_cons.1 hx with h9 | h9
     .subst h9;grind
     exact g4 x h9)) (fun s t g1 g2 g3=>hK s t g1 g2 (by grind))
    have hk:=hK (e - d) e (by grind) (by grind) h2;rw[hc] at hk;refine hk.mono ?_;have e5:K*(e - a) / (n:Rat)=K*d:=by rw[<-hd];generalize (n:Rat)=m at*;grind
    rw[e5];grind
   have hr:D b=D e:=by
    rcases(by grind:e=b\/e<b) with h0 | h0
    .rw[h0]
    refine Nr.eq (k:=K*(b - e)) (fun n hn=>?_);have hm:=j9 hn;obtain⟨d,hd⟩:=Hs ((b - e) / (n:Rat));have Jc:d*(n:Rat)=b - e:=by rw[<-hd];generalize (n:Rat)=m at*;grind
    have gg:0<d:=by
     apply Classical.byContradiction;intro hc;have:d*(n:Rat)<=0*(n:Rat):=Rat.mul_le_mul_of_nonneg_right (by grind) (by grind);grind
    have Zg:d<=b - e:=by
     have h1n:(1:Rat)<=(n:Rat):=by
      have:=Rat.intCast_le_intCast.2 (show(1:Int)<=(n:Int) by omega);rwa [Rat.intCast_natCast] at this
     have:d*1<=d*(n:Rat):=Rat.mul_le_mul_of_nonneg_left h1n (by grind);grind
    have hc:=Fw E (a:=e+d) (b:=b) (by grind) (fun s t g1 g2 g3 g4=>h s t (by grind) g2 g3 (fun x hx=>by
     rcases List.mem_cons.1 hx with h9 | h9
     .subst h9;grind
     exact g4 x h9)) (fun s t g1 g2 g3=>hK s t (by grind) g2 g3)
    have hk:=hK e (e+d) h1 (by grind) (by grind);rw[hc];refine hk.mono ?_;have e5:K*(b - e) / (n:Rat)=K*d:=by rw[<-hd];generalize (n:Rat)=m at*;grind
    rw[e5];grind
   rw[hr,hl]
  exact Fw E rv (fun s t g1 g2 g3 g4=>h s t g1 g2 g3 (fun x hx=>by
   rcases List.mem_cons.1 hx with h9 | h9
   .subst h9;grind
   exact g4 x h9)) hK
def Slp (F f:Rat->Rat):Prop:= ∀ R:Rat,∃ C:Rat,0<=C/\ ∀ s t,-R<=s->s<=R-> -R<=t->t<=R->Nr (f s) 0 C/\Nr (F t) (F s+(t - s)*f s) (C*((t - s)*(t - s)))
theorem g7 (x:Rat):0<=x*x:=by
 rcases(by grind:0<=x\/x<=0) with h | h
 .exact Rat.mul_nonneg h h
 have:=Rat.mul_nonneg (a:= -x) (b:= -x) (by grind) (by grind);grind
theorem f0 {a b c:Rat} (h:a<=b) (hc:0<=c):a*c<=b*c:=Rat.mul_le_mul_of_nonneg_right h hc
theorem Slp.zero:Slp (fun _=>0) (fun _=>0):=fun R=>⟨0,by grind,fun s t _ _ _ _=>⟨by unfold Nr;grind,by unfold Nr;grind⟩⟩
theorem Slp.const (c:Rat):Slp (fun _=>c) (fun _=>0):=fun R=>⟨0,by grind,fun s t _ _ _ _=>⟨by unfold Nr;grind,by unfold Nr;grind⟩⟩
theorem Slp.add {F f G g:Rat->Rat} (h:Slp F f) (k:Slp G g):Slp (fun x=>F x+G x) (fun x=>f x+g x):=fun R=>by
 obtain⟨C,hC,h⟩:=h R;obtain⟨D,hD,k⟩:=k R;refine⟨C+D,by grind,fun s t h1 h2 h3 h4=>?_⟩;obtain⟨a1,a2⟩:=h s t h1 h2 h3 h4;obtain⟨b1,b2⟩:=k s t h1 h2 h3 h4;generalize (t - s)*(t - s)=q at*;constructor
 .unfold Nr at*;grind
 have e1:(C+D)*q=C*q+D*q:=by grind
 rw[e1];unfold Nr at*;grind
theorem Slp.scale {F f:Rat->Rat} (c:Rat) (h:Slp F f):Slp (fun x=>c*F x) (fun x=>c*f x):=fun R=>by
 obtain⟨C,hC,h⟩:=h R;obtain⟨m,zn,mP,kR⟩: ∃ m:Rat,0<=m/\c<=m/\ -c<=m:=by
  rcases(by grind:0<=c\/c<=0) with h | h
  .exact⟨c,h,by grind,by grind⟩
  exact⟨-c,by grind,by grind,by grind⟩
 have key: ∀ x y e:Rat,0<=e->Nr x y e->Nr (c*x) (c*y) (m*e):=fun x y e he hx=>by
  unfold Nr at*;have p1: ∀ z:Rat,z<=e-> -z<=e->c*z<=m*e:=fun z h1 h2=>by
   rcases(by grind:0<=c\/c<=0) with h | h
   .have a1:=Rat.mul_le_mul_of_nonneg_left h1 h;have a2:=f0 mP he;grind
   have a1:=Rat.mul_le_mul_of_nonneg_left h2 (show 0<= -c by grind);have a2:=f0 kR he;grind
  have:=p1 (x - y) hx.1 (by grind);have:=p1 (y - x) hx.2 (by grind);constructor<;>grind
 refine⟨m*C,Rat.mul_nonneg zn hC,fun s t h1 h2 h3 h4=>?_⟩;obtain⟨a1,a2⟩:=h s t h1 h2 h3 h4;have hq:=g7 (t - s);constructor
 .have:=key _ _ _ hC a1;have e:c*0=0:=by grind
  rw[e] at this;exact this
 have:=key _ _ _ (Rat.mul_nonneg hC hq) a2;generalize (t - s)*(t - s)=q at*;have e1:c*(F s+(t - s)*f s)=c*F s+(t - s)*(c*f s):=by grind
 have e2:m*(C*q)=m*C*q:=by grind
 rw[e1,e2] at this;exact this
theorem Slp.line {F f:Rat->Rat} (n b:Rat) (h:Slp F f):Slp (fun x=>F (n*x+b)) (fun x=>n*f (n*x+b)):=fun R=>by
 obtain⟨m,zn,mP,kR⟩: ∃ m:Rat,0<=m/\n<=m/\ -n<=m:=by
  rcases(by grind:0<=n\/n<=0) with h | h
  .exact⟨n,h,by grind,by grind⟩
  exact⟨-n,by grind,by grind,by grind⟩
 obtain⟨q,Hp,Jq⟩: ∃ q:Rat,b<=q/\ -b<=q:=by
  rcases(by grind:0<=b\/b<=0) with h | h
  .exact⟨b,by grind,by grind⟩
  exact⟨-b,by grind,by grind⟩
 by_cases hR:0<=R
 .obtain⟨C,hC,h⟩:=h (m*R+q);have bnd: ∀ x,-R<=x->x<=R-> -(m*R+q)<=n*x+b/\n*x+b<=m*R+q:=fun x h1 h2=>by
   have a1:=f0 mP hR;have a2:=f0 kR hR;rcases(by grind:0<=n\/n<=0) with h | h
   .have b1:=Rat.mul_le_mul_of_nonneg_left h2 h;have b2:=Rat.mul_le_mul_of_nonneg_left h1 h;constructor<;>grind
   have b1:=Rat.mul_le_mul_of_nonneg_left h2 (show 0<= -n by grind);have b2:=Rat.mul_le_mul_of_nonneg_left h1 (show 0<= -n by grind);constructor<;>grind
  refine⟨m*C+C*(n*n),by have:=Rat.mul_nonneg zn hC;have:=Rat.mul_nonneg hC (g7 n);grind,fun s t h1 h2 h3 h4=>?_⟩;obtain⟨s1,s2⟩:=bnd s h1 h2;obtain⟨t1,t2⟩:=bnd t h3 h4;obtain⟨a1,a2⟩:=h (n*s+b) (n*t+b) s1 s2 t1 t2;have hz:=Rat.mul_nonneg hC (g7 n);have hmC:=Rat.mul_nonneg zn hC;constructor
  .unfold Nr at*;have p1:n*f (n*s+b)<=m*C/\ -(n*f (n*s+b))<=m*C:=by
    generalize f (n*s+b)=y at*;have c1:=f0 mP hC;have c2:=f0 kR hC;rcases(by grind:0<=n\/n<=0) with h | h
    .have b1:=Rat.mul_le_mul_of_nonneg_left a1.1 h;have b2:=Rat.mul_le_mul_of_nonneg_left a1.2 h;constructor<;>grind
    have b1:=Rat.mul_le_mul_of_nonneg_left a1.1 (show 0<= -n by grind);have b2:=Rat.mul_le_mul_of_nonneg_left a1.2 (show 0<= -n by grind);constructor<;>grind
   constructor<;>grind
  have e1:n*t+b - (n*s+b)=n*(t - s):=by grind
  rw[e1] at a2;have e2:C*(n*(t - s)*(n*(t - s)))=C*(n*n)*((t - s)*(t - s)):=by grind
  have e3:n*(t - s)*f (n*s+b)=(t - s)*(n*f (n*s+b)):=by grind
  rw[e2,e3] at a2;refine a2.mono (f0 (by grind) (g7 _))
 refine⟨0,by grind,fun s t h1 h2 h3 h4=>by exfalso;grind⟩
theorem Slp.congr {F f G g:Rat->Rat} (h:Slp F f) (e1: ∀ x,F x=G x) (e2: ∀ x,f x=g x):Slp G g:=by
 have h1:F=G:=funext e1;have h2:f=g:=funext e2;rwa [h1,h2] at h
theorem Qk {a b c:Rat} (h:a<=c) (h2: -a<=c) (hb:0<=b):a*b<=c*b/\ -(a*b)<=c*b:=by
 have h1:=f0 h hb;have h3:=f0 h2 hb;constructor<;>grind
theorem gM {x y a b:Rat} (hx:Nr x 0 a) (hy:Nr y 0 b) (ha:0<=a) (hb:0<=b):Nr (x*y) 0 (a*b):=by
 unfold Nr at*;rcases(by grind:0<=y\/y<=0) with h | h
 .have h1:=Qk (a:=x) (c:=a) (by grind) (by grind) h;have h2:=Rat.mul_le_mul_of_nonneg_left (c:=a) (a:=y) (b:=b) (by grind) ha;constructor<;>grind
 have h1:=Qk (a:=x) (c:=a) (b:= -y) (by grind) (by grind) (by grind);have h2:=Rat.mul_le_mul_of_nonneg_left (c:=a) (a:= -y) (b:=b) (by grind) ha;constructor<;>grind
theorem Slp.mulx {F f:Rat->Rat} (h:Slp F f):Slp (fun x=>x*F x) (fun x=>F x+x*f x):=fun R=>by
 by_cases hR:0<=R
 .obtain⟨C,hC,h⟩:=h R;have hRR:=Rat.mul_nonneg hR hR;have hRC:=Rat.mul_nonneg hR hC;obtain⟨K,hK0,hK⟩: ∃ K,0<=K/\Nr (F 0) 0 K:=by
   rcases(by grind:0<=F 0\/F 0<=0) with h | h
   .exact⟨F 0,h,by unfold Nr;grind⟩
   exact⟨-F 0,by grind,by unfold Nr;grind⟩
  have aoo:=Rat.mul_nonneg hC hRR;have hF: ∀ s,-R<=s->s<=R->Nr (F s) 0 (K+(R*C+C*(R*R))):=fun s h1 h2=>by
   obtain⟨a1,a2⟩:=h 0 s (by grind) hR h1 h2;have b1:=gM (x:=s) (y:=f 0) (a:=R) (b:=C) (by unfold Nr;grind) a1 hR hC;have b2:=gM (x:=s) (y:=s) (a:=R) (b:=R) (by unfold Nr;grind) (by unfold Nr;grind) hR hR;have e1:s - 0=s:=by grind
   rw[e1] at a2;have b3:C*(s*s)<=C*(R*R):=Rat.mul_le_mul_of_nonneg_left (by unfold Nr at b2;grind) hC;unfold Nr at*;constructor<;>grind
  refine⟨(K+(R*C+C*(R*R))+R*C)+(R*C+C+2*(R*C)),by grind,fun s t h1 h2 h3 h4=>?_⟩;obtain⟨a1,a2⟩:=h s t h1 h2 h3 h4;have hq:=g7 (t - s);constructor
  .have c1:=hF s h1 h2;have c2:=gM (x:=s) (y:=f s) (a:=R) (b:=C) (by unfold Nr;grind) a1 hR hC;have z:=Nr.add c1 c2;rw[show(0:Rat)+0=0 by grind] at z;exact z.mono (by grind)
  obtain⟨d,hd⟩:=Hs (t - s);obtain⟨w,hw0,hw1,U0,U6⟩: ∃ w:Rat,0<=w/\Nr d 0 w/\w*w=d*d/\w<=2*R:=by
   rcases(by grind:0<=d\/d<=0) with h | h
   .exact⟨d,h,by unfold Nr;grind,rfl,by grind⟩
   exact⟨-d,by grind,by unfold Nr;grind,by grind,by grind⟩
  rw[hd] at a2 hq ⊢;have ht:t=s+d:=by grind
  have b1:=gM (x:=d) (y:=f s) hw1 a1 hw0 hC;have c0:C*(d*d)<=w*(2*(R*C)):=by
   have:=Rat.mul_le_mul_of_nonneg_left (c:=C*w) U6 (Rat.mul_nonneg hC hw0);rw[<-U0];grind
  have b2:Nr (F t - F s) 0 (w*C+w*(2*(R*C))):=by unfold Nr at*;constructor<;>grind
  have b3:=gM (x:=d) (y:=F t - F s) hw1 b2 hw0 (by have:=Rat.mul_nonneg hw0 hC;have:=Rat.mul_nonneg hw0 hRC;grind);have b4:=gM (x:=s) (y:=F t - F s - d*f s) (a:=R) (b:=C*(d*d)) (by unfold Nr;grind) (by unfold Nr at*;constructor<;>grind) hR (Rat.mul_nonneg hC hq);have e1:w*(w*C+w*(2*(R*C)))=(d*d)*(C+2*(R*C)):=by rw[<-U0];grind
  rw[e1] at b3;have qU:0<=(K+(R*C+C*(R*R))+R*C)*(d*d):=Rat.mul_nonneg (by grind) hq;show Nr (t*F t) (s*F s+d*(F s+s*f s)) _;clear hF h a2;generalize F t=Ft at*;generalize F s=Fs at*;generalize f s=fs at*;have e2:t*Ft - (s*Fs+d*(Fs+s*fs))=s*(Ft - Fs - d*fs)+d*(Ft - Fs):=by rw[ht];grind
  have e3:(K+(R*C+C*(R*R))+R*C+(R*C+C+2*(R*C)))*(d*d)=(K+(R*C+C*(R*R))+R*C)*(d*d)+R*(C*(d*d))+d*d*(C+2*(R*C)):=by grind
  rw[e3];generalize (K+(R*C+C*(R*R))+R*C)*(d*d)=Z at*;generalize R*(C*(d*d))=X at*;generalize d*d*(C+2*(R*C))=Y at*;generalize s*(Ft - Fs - d*fs)=A at*;generalize d*(Ft - Fs)=B at*;generalize t*Ft=T at*;generalize s*Fs+d*(Fs+s*fs)=V at*;unfold Nr at b3 b4 ⊢;clear b1 b2 a1 hw1 hK;constructor<;>grind
 exact⟨0,by grind,fun s t h1 h2 h3 h4=>by exfalso;grind⟩
theorem Slp.pow: ∀ k:Nat,Slp (fun x=>x^(k+1)) (fun x=>((k:Rat)+1)*x^k)
 | 0=>by
  refine((Slp.const 1).mulx).congr (fun x=>?_) (fun x=>?_)
  .rw[Rat.pow_succ,Rat.pow_zero];grind
  .have e0:((0:Nat):Rat)=0:=rfl;rw[e0,Rat.pow_zero];grind
 | k+1=>by
  refine((Slp.pow k).mulx).congr (fun x=>?_) (fun x=>?_)
  .rw[Rat.pow_succ x (k+1)];grind
  rw[pd,Rat.pow_succ x k];grind
structure Pc where
 lo:Rat
 hi:Rat
 F:Rat->Rat
 f:Rat->Rat
def Pc.Ok (p:Pc):Prop:=p.lo<=p.hi/\Slp p.F p.f
def ki:List Pc->Rat
 | []=>0
 | p::L=>(p.F p.hi - p.F p.lo)+ki L
def ox (y:Rat):List Pc->Rat
 | []=>0
 | p::L=>(if p.lo<y/\y<p.hi then p.f y else 0)+ox y L
def ia (lo hi t:Rat):Rat:=if t<=lo then lo else if hi<=t then hi else t
def mS (t:Rat):List Pc->Rat
 | []=>0
 | p::L=>p.F (ia p.lo p.hi t)+mS t L
theorem i9: ∀ a b:List Pc,ki (a++b)=ki a+ki b
 | [],b=>by simp[ki];grind
 | p::a,b=>by rw[List.cons_append,ki,ki,i9 a b];grind
theorem i_ (y:Rat): ∀ a b:List Pc,ox y (a++b)=ox y a+ox y b
 | [],b=>by simp[ox];grind
 | p::a,b=>by rw[List.cons_append,ox,ox,i_ y a b];grind
theorem wQ {lo hi t R:Rat} (h:lo<=hi) (h1: -R<=lo) (h2:hi<=R): -R<=ia lo hi t/\ia lo hi t<=R:=by
 unfold ia;split
 .constructor<;>grind
 split
 .constructor<;>grind
 constructor<;>grind
theorem Fx {lo hi s t:Rat} (h:lo<=hi) (bP:s<=t):ia lo hi s<=ia lo hi t/\ia lo hi t - ia lo hi s<=t - s:=by
 unfold ia;split<;>split<;>(try split)<;>(try split)<;>constructor<;>grind
theorem tD {R:Rat} (hR:0<=R): ∀ L:List Pc,(∀ p∈L,p.Ok/\ -R<=p.lo/\p.hi<=R)-> ∃ C,0<=C/\ ∀ s t,-R<=s->s<=t->t<=R->
 ((∀ p∈L,¬(s<=p.lo/\p.lo<=t)/\ ¬(s<=p.hi/\p.hi<=t))->Nr (mS t L) (mS s L+(t - s)*ox s L) (C*((t - s)*(t - s))))/\Nr (mS t L) (mS s L) (C*(t - s))
 | [],_=>⟨0,by grind,fun s t _ _ _=>⟨fun _=>by unfold Nr mS ox;grind,by unfold Nr mS;grind⟩⟩
 | p::L,hl=>by
  obtain⟨C,hC,ih⟩:=tD hR L (fun x hx=>hl x (mem_cons_of_mem _ hx));obtain⟨⟨DP,VM⟩,fF,fE⟩:=hl p (by simp);obtain⟨D,hD,hs⟩:=VM R;have hDR:=Rat.mul_nonneg hD hR;refine⟨C+(D+2*(D*R)),by grind,fun s t h1 h2 h3=>⟨fun hn=>?_,?_⟩⟩
  .have a1:=(ih s t h1 h2 h3).1 (fun x hx=>hn x (mem_cons_of_mem _ hx));obtain⟨n1,n2⟩:=hn p (by simp);have hq:=g7 (t - s);have key:Nr (p.F (ia p.lo p.hi t)) (p.F (ia p.lo p.hi s)+(t - s)*(if p.lo<s/\s<p.hi then p.f s else 0)) (D*((t - s)*(t - s))):=by
    rcases(by grind:t<p.lo\/p.hi<s\/(p.lo<s/\t<p.hi)) with h | h | h
    .have c1:ia p.lo p.hi t=p.lo:=by unfold ia;rw[if_pos (by grind)]
     have c2:ia p.lo p.hi s=p.lo:=by unfold ia;rw[if_pos (by grind)]
     rw[c1,c2,if_neg (by grind)];have:=Rat.mul_nonneg hD hq;unfold Nr;constructor<;>grind
    .have c1:ia p.lo p.hi t=p.hi:=by
      unfold ia;split
      .grind
      rw[if_pos (by grind)]
     have c2:ia p.lo p.hi s=p.hi:=by
      unfold ia;split
      .grind
      rw[if_pos (by grind)]
     rw[c1,c2,if_neg (by grind)];have:=Rat.mul_nonneg hD hq;unfold Nr;constructor<;>grind
    have c1:ia p.lo p.hi t=t:=by unfold ia;rw[if_neg (by grind),if_neg (by grind)]
    have c2:ia p.lo p.hi s=s:=by unfold ia;rw[if_neg (by grind),if_neg (by grind)]
    rw[c1,c2,if_pos (by grind)];exact(hs s t h1 (by grind) (by grind) h3).2
   have b:=Nr.add key a1;have hz:0<=2*(D*R)*((t - s)*(t - s)):=Rat.mul_nonneg (by grind) hq;unfold mS ox;generalize (if p.lo<s/\s<p.hi then p.f s else 0)=u at*;have e1:p.F (ia p.lo p.hi s)+mS s L+(t - s)*(u+ox s L)=p.F (ia p.lo p.hi s)+(t - s)*u+(mS s L+(t - s)*ox s L):=by grind
   rw[e1];refine b.mono ?_;generalize (t - s)*(t - s)=q at*;have e2:(C+(D+2*(D*R)))*q=C*q+D*q+2*(D*R)*q:=by grind
   rw[e2];grind
  have a1:=(ih s t h1 h2 h3).2;obtain⟨m1,m2⟩:=Fx DP h2;obtain⟨r1,r2⟩:=wQ (t:=s) DP fF fE;obtain⟨r3,r4⟩:=wQ (t:=t) DP fF fE;obtain⟨b1,b2⟩:=hs _ _ r1 r2 r3 r4;unfold mS;generalize ia p.lo p.hi s=x at*;generalize ia p.lo p.hi t=y at*;have c1:=gM (x:=y - x) (y:=p.f x) (a:=y - x) (b:=D) (by unfold Nr;constructor<;>grind) b1 (by grind) hD;have c2:(y - x)*(y - x)<=2*R*(y - x):=f0 (by grind) (by grind);have c3:D*((y - x)*(y - x))<=D*(2*R*(y - x)):=Rat.mul_le_mul_of_nonneg_left c2 hD;have c4:(D+2*(D*R))*(y - x)<=(D+2*(D*R))*(t - s):=Rat.mul_le_mul_of_nonneg_left m2 (by grind);have e1:(C+(D+2*(D*R)))*(t - s)=C*(t - s)+(D+2*(D*R))*(t - s):=by grind
  have e2:(D+2*(D*R))*(y - x)=(y - x)*D+D*(2*R*(y - x)):=by grind
  rw[e1];rw[e2] at c4;unfold Nr at*;constructor<;>grind
theorem tE: ∀ L:List Pc,∃ R:Rat,0<=R/\ ∀ p∈L,-R<=p.lo/\p.hi<=R
 | []=>⟨0,by grind,by simp⟩
 | p::L=>by
  obtain⟨R,hR,h⟩:=tE L;obtain⟨a,ha,vV⟩: ∃ a:Rat,0<=a/\ -a<=p.lo:=by
   rcases(by grind:0<=p.lo\/p.lo<=0) with h | h
   .exact⟨p.lo,h,by grind⟩
   exact⟨-p.lo,by grind,by grind⟩
  obtain⟨b,hb,dV⟩: ∃ b:Rat,0<=b/\p.hi<=b:=by
   rcases(by grind:0<=p.hi\/p.hi<=0) with h | h
   .exact⟨p.hi,h,by grind⟩
   exact⟨-p.hi,by grind,by grind⟩
  refine⟨R+a+b,by grind,fun x hx=>?_⟩;rcases List.mem_cons.1 hx with h9 | h9
  .subst h9;constructor<;>grind
  have:=h x h9;constructor<;>grind
theorem TQ (L:List Pc) (hl: ∀ p∈L,p.Ok) (Z:List Rat) (h: ∀ y,y∉Z->ox y L=0):ki L=0:=by
 obtain⟨R,hR,hb⟩:=tE L;obtain⟨C,hC,hn⟩:=tD hR L (fun p hp=>⟨hl p hp,hb p hp⟩);have hf:=Fw (D:=fun t=>mS t L) (C:=C) (K:=C) (Z++(L.map Pc.lo++L.map Pc.hi)) (a:= -R) (b:=R) (by grind) (fun s t h1 h2 h3 h4=>by
  have h5:=(hn s t h1 (by grind) h3).1 (fun p hp=>⟨h4 p.lo (by simp only[qr,mem_map];exact .inr (.inl ⟨p,hp,rfl⟩)),h4 p.hi (by simp only[qr,mem_map];exact .inr (.inr ⟨p,hp,rfl⟩))⟩);have h6:ox s L=0:=h s (fun hs=>h4 s (List.mem_append_left _ hs) ⟨by grind,by grind⟩);rw[h6] at h5;have e:mS s L+(t - s)*0=mS s L:=by grind
  rw[e] at h5;exact h5) (fun s t h1 h2 h3=>(hn s t h1 h2 h3).2)
 have key: ∀ M:List Pc,(∀ p∈M,p.Ok/\ -R<=p.lo/\p.hi<=R)->mS R M - mS (-R) M=ki M:=fun M=>by
  induction M with
  | nil=>intro _;unfold mS ki;grind
  | cons p M ih=>
   intro hM;have i1:=ih (fun x hx=>hM x (mem_cons_of_mem _ hx));obtain⟨⟨q1,_⟩,q2,q3⟩:=hM p (by simp);have c1:ia p.lo p.hi R=p.hi:=by
    unfold ia;split<;>grind
   have c2:ia p.lo p.hi (-R)=p.lo:=by unfold ia;rw[if_pos (by grind)]
   unfold mS ki;rw[c1,c2];grind
 have:=key L (fun p hp=>⟨hl p hp,hb p hp⟩);have hf2:mS R L=mS (-R) L:=hf;grind
theorem jj {c:List (List Raw)} {v:Nat} {x:Nat->Rat} {t:Rat} (hv:v<8) (h9: ∀ l∈c,l.length=9):
 iX c (upd x v t)↔iX (dT c v) x/\(∀ l∈aN c v,aF l x<t)/\ ∀ u∈ay c v,t<aF u x:=by
 have key: ∀ r∈c,co r v≠0->aF r (upd x v t)=co r v*(t - aF (cF v r) x):=fun r hr h0=>by
  have hb:=dN (h9 r hr) h0;rw[ni hb hv,i4,iW hv (p6 hb hv)]
 constructor
 .intro h
  refine⟨fun r hr=>?_,fun l hl=>?_,fun u hu=>?_⟩
  .obtain⟨h1,h2⟩:=fX.1 hr
   have:=h r h1
   rwa [iW hv h2] at this
  .obtain⟨r,hr,h0,rfl⟩:=ec.1 hl
   have h1:=h r hr
   rw[key r hr (by grind)] at h1
   apply Classical.byContradiction
   intro hc
   have:=Rat.mul_le_mul_of_nonneg_left (c:=co r v) (show t - aF (cF v r) x<=0 by grind) (by grind)
   grind
  obtain⟨r,hr,h0,rfl⟩:=dD.1 hu
  have h1:=h r hr
  rw[key r hr (by grind)] at h1
  apply Classical.byContradiction
  intro hc
  have:=Rat.mul_le_mul_of_nonneg_left (c:= -co r v) (show 0<=t - aF (cF v r) x by grind) (by grind)
  grind
 rintro⟨h1,h2,h3⟩ r hr
 rcases(by grind:co r v=0\/0<co r v\/co r v<0) with h | h | h
 .rw[iW hv h];exact h1 r (fX.2 ⟨hr,h⟩)
 .rw[key r hr (by grind)]
  exact Rat.mul_pos h (by have:=h2 _ (ec.2 ⟨r,hr,h,rfl⟩);grind)
 rw[key r hr (by grind)]
 have:=Rat.mul_pos (a:= -co r v) (b:=aF (cF v r) x - t) (by grind) (by have:=h3 _ (dD.2 ⟨r,hr,h,rfl⟩);grind)
 grind
def Fib (S:Rat->Prop) (G:Rat->Rat) (z:Rat):Prop:=(∃ L U,L<U/\(∀ t,S t↔L<t/\t<U)/\z=G U - G L)\/((∀ t,¬S t)/\z=0)
theorem BL {S:Rat->Prop} {L U L' U':Rat} (h:L<U) (h1: ∀ t,S t↔L<t/\t<U) (h':L'<U') (h2: ∀ t,S t↔L'<t/\t<U'):L=L'/\U=U':=by
 have key: ∀ {L U L' U':Rat},L<U->(∀ t,S t↔L<t/\t<U)->L'<U'->(∀ t,S t↔L'<t/\t<U')->L<=L'/\U'<=U:=fun{L U L' U'} h h1 h' h2=>by
  constructor
  .apply Classical.byContradiction;intro hc;obtain⟨m,m1,m2,m3⟩: ∃ m,L'<m/\m<U'/\m<=L:=by
    rcases(by grind:L<U'\/U'<=L) with h9 | h9
    .exact⟨L,by grind,h9,by grind⟩
    exact⟨(L'+U') / 2,by grind,by grind,by grind⟩
   have:=(h1 m).1 ((h2 m).2 ⟨m1,m2⟩);grind
  apply Classical.byContradiction;intro hc;obtain⟨m,m1,m2,m3⟩: ∃ m,L'<m/\m<U'/\U<=m:=by
   rcases(by grind:L'<U\/U<=L') with h9 | h9
   .exact⟨U,h9,by grind,by grind⟩
   exact⟨(L'+U') / 2,by grind,by grind,by grind⟩
  have:=(h1 m).1 ((h2 m).2 ⟨m1,m2⟩);grind
 have a:=key h h1 h' h2;have b:=key h' h2 h h1;constructor<;>grind
theorem Fib.uniq {S:Rat->Prop} {G:Rat->Rat} {z w:Rat} (h:Fib S G z) (k:Fib S G w):z=w:=by
 rcases h with⟨L,U,h1,h2,h3⟩ | ⟨h1,h2⟩<;>rcases k with⟨L',U',k1,k2,k3⟩ | ⟨k1,k2⟩
 .obtain⟨e1,e2⟩:=BL h1 h2 k1 k2;rw[h3,k3,e1,e2]
 .exact absurd ((h2 ((L+U) / 2)).2 ⟨by grind,by grind⟩) (k1 _)
 .exact absurd ((k2 ((L'+U') / 2)).2 ⟨by grind,by grind⟩) (h1 _)
 rw[h2,k2]
theorem Fib.congr {S S':Rat->Prop} {G:Rat->Rat} {z:Rat} (h:Fib S G z) (e: ∀ t,S t↔S' t):Fib S' G z:=by
 have:S=S':=funext fun t=>propext (e t)
 rwa [<-this]
theorem Fib.add {S:Rat->Prop} {G K:Rat->Rat} {z w:Rat} (h:Fib S G z) (k:Fib S K w):Fib S (fun t=>G t+K t) (z+w):=by
 rcases h with⟨L,U,h1,h2,h3⟩ | ⟨h1,h2⟩<;>rcases k with⟨L',U',k1,k2,k3⟩ | ⟨k1,k2⟩
 .obtain⟨e1,e2⟩:=BL h1 h2 k1 k2;exact .inl ⟨L,U,h1,h2,by rw[h3,k3,e1,e2];grind⟩
 .exact absurd ((h2 ((L+U) / 2)).2 ⟨by grind,by grind⟩) (k1 _)
 .exact absurd ((k2 ((L'+U') / 2)).2 ⟨by grind,by grind⟩) (h1 _)
 exact .inr ⟨h1,by grind⟩
theorem Fib.cut {S:Rat->Prop} {G:Rat->Rat} {z:Rat} (h:Fib S G z) (a:Rat): ∃ z1 z2,Fib (fun t=>S t/\a<t) G z1/\Fib (fun t=>S t/\t<a) G z2/\z=z1+z2:=by
 rcases h with⟨L,U,h1,h2,h3⟩ | ⟨h1,h2⟩
 .rcases(by grind:a<=L\/U<=a\/(L<a/\a<U)) with h | h | h
  .exact⟨z,0,.inl ⟨L,U,h1,fun t=>by dsimp only;rw[h2];constructor<;>(intro _;grind),h3⟩,.inr ⟨fun t=>by dsimp only;rw[h2];intro _;grind,rfl⟩,by grind⟩
  .exact⟨0,z,.inr ⟨fun t=>by dsimp only;rw[h2];intro _;grind,rfl⟩,.inl ⟨L,U,h1,fun t=>by dsimp only;rw[h2];constructor<;>(intro _;grind),h3⟩,by grind⟩
  exact⟨G U - G a,G a - G L,.inl ⟨a,U,h.2,fun t=>by dsimp only;rw[h2];constructor<;>(intro _;grind),rfl⟩,.inl ⟨L,a,h.1,fun t=>by dsimp only;rw[h2];constructor<;>(intro _;grind),rfl⟩,by rw[h3];grind⟩
 exact⟨0,0,.inr ⟨fun t h=>h1 t h.1,rfl⟩,.inr ⟨fun t h=>h1 t h.1,rfl⟩,by rw[h2];grind⟩
def bt {α:Type} (f:α->Rat):List α->Rat
 | []=>0
 | a::l=>f a+bt f l
theorem k8 {α:Type} (f:α->Rat): ∀ a b:List α,bt f (a++b)=bt f a+bt f b
 | [],b=>by simp[bt];grind
 | x::a,b=>by rw[List.cons_append,bt,bt,k8 f a b];grind
theorem qE {α β:Type} (f:β->Rat) (g:α->List β): ∀ l:List α,bt f (l.flatMap g)=bt (fun a=>bt f (g a)) l
 | []=>rfl
 | a::l=>by rw[List.flatMap_cons,k8,qE f g l,bt]
theorem pe {α β:Type} (f:β->Rat) (g:α->β): ∀ l:List α,bt f (l.map g)=bt (fun a=>f (g a)) l
 | []=>rfl
 | a::l=>by rw[map_cons,bt,pe f g l,bt]
theorem nG {α:Type} {f g:α->Rat}: ∀ {l:List α},(∀ a∈l,f a=g a)->bt f l=bt g l
 | [],_=>rfl
 | a::l,h=>by rw[bt,bt,h a (by simp),nG (fun b hb=>h b (mem_cons_of_mem _ hb))]
theorem qF {α:Type} {f:α->Rat} {l:List α} (h: ∀ a∈l,f a=0):bt f l=0:=by
 rw[nG h];clear h
 induction l with
 | nil=>rfl
 | cons a l ih=>rw[bt,ih];grind
theorem yx {f:Nat->Rat} {n i:Nat} (hi:i<n) (h: ∀ k,k<n->k≠i->f k=0):bt f (List.range n)=f i:=by
 have e:List.range n=List.range i++i::(List.range (n - i - 1)).map (fun k=>k+(i+1)):=by
  rw[show n=i+(1+(n - i - 1)) by omega,List.range_add,List.range_add];simp[range_succ];intro a _;omega
 rw[e,k8,bt,pe,qF (fun k hk=>h k (by have:=List.mem_range.1 hk;omega) (by have:=List.mem_range.1 hk;omega)),
  qF (fun k hk=>h _ (by have:=List.mem_range.1 hk;omega) (by omega))]
 grind
theorem nH (f:Nat->Rat): ∀ n:Nat,0<n-> ∃ i,i<n/\ ∀ k,k<n->f k<=f i
 | 0,h=>absurd h (by decide)
 | 1,_=>⟨0,by decide,fun k hk=>by
  have:k=0:=by omega
  rw[this];exact Rat.le_refl⟩
 | n+2,_=>by
  obtain⟨i,hi,h⟩:=nH f (n+1) (by omega);rcases(by grind:f (n+1)<=f i\/f i<=f (n+1)) with h9 | h9
  .exact⟨i,by omega,fun k hk=>by
    by_cases e:k=n+1
    .rw[e];exact h9
    exact h k (by omega)⟩
  exact⟨n+1,by omega,fun k hk=>by
   by_cases e:k=n+1
   .rw[e];exact Rat.le_refl
   have:=h k (by omega);grind⟩
theorem Ql {n m:Nat} {lo hi:Nat->Rat} {A:Prop} {G:Rat->Rat} (hn:0<n) (hm:0<m) (hl: ∀ i k,i<n->k<n->i≠k->lo i≠lo k) (hh: ∀ i k,i<m->k<m->i≠k->hi i≠hi k)
 {g:Nat->Nat->Rat} (hg: ∀ i j,i<n->j<m->(A/\lo i<hi j/\(∀ k,k<n->k≠i->lo k<lo i)/\(∀ k,k<m->k≠j->hi j<hi k))->g i j=G (hi j) - G (lo i))
 (hz: ∀ i j,i<n->j<m-> ¬(A/\lo i<hi j/\(∀ k,k<n->k≠i->lo k<lo i)/\(∀ k,k<m->k≠j->hi j<hi k))->g i j=0):
 Fib (fun t=>A/\(∀ i,i<n->lo i<t)/\ ∀ j,j<m->t<hi j) G (bt (fun i=>bt (fun j=>g i j) (List.range m)) (List.range n)):=by
 obtain⟨i0,sC,wz⟩:=nH lo n hn
 obtain⟨j0,wu,vj⟩:=nH (fun j=> -hi j) m hm
 have R6: ∀ k,k<m->hi j0<=hi k:=fun k hk=>by have:=vj k hk;grind
 have hz1: ∀ i,i<n->i≠i0-> ∀ j,j<m->g i j=0:=fun i h1 h2 j h3=>hz i j h1 h3 (fun h=>by
  have a:=h.2.2.1 i0 sC (Ne.symm h2);have b:=wz i h1;grind)
 have DL: ∀ j,j<m->j≠j0->g i0 j=0:=fun j h1 h2=>hz i0 j sC h1 (fun h=>by
  have a:=h.2.2.2 j0 wu (Ne.symm h2);have b:=R6 j h1;grind)
 have hs:bt (fun i=>bt (fun j=>g i j) (List.range m)) (List.range n)=g i0 j0:=by
  rw[yx sC (fun k hk cM=>qF (fun j hj=>hz1 k hk cM j (List.mem_range.1 hj)))];exact yx wu (fun k hk cM=>DL k hk cM)
 rw[hs]
 by_cases h:A/\lo i0<hi j0
 .refine .inl ⟨lo i0,hi j0,h.2,fun t=>⟨fun⟨_,h2,h3⟩=>⟨h2 i0 sC,h3 j0 wu⟩,fun⟨h2,h3⟩=>⟨h.1,fun i hi=>by have:=wz i hi;grind,fun j hj=>by have:=R6 j hj;grind⟩⟩,?_⟩
  refine hg i0 j0 sC wu ⟨h.1,h.2,fun k hk cM=>?_,fun k hk cM=>?_⟩
  .have:=wz k hk
   have:=hl k i0 hk sC cM
   grind
  have:=R6 k hk
  have:=hh k j0 hk wu cM
  grind
 refine .inr ⟨fun t ⟨h1,h2,h3⟩=>h ⟨h1,?_⟩,hz i0 j0 sC wu (fun h9=>h ⟨h9.1,h9.2.1⟩)⟩
 have:=h2 i0 sC
 have:=h3 j0 wu
 grind
structure Qm (T:Kc->List Tm->Rat):Prop where
 add: ∀ k a b,T k (a++b)=T k a+T k b
 nf: ∀ k a,T k (Go.Pl.nf a)=T k a
 nil: ∀ k,T k []=0
theorem Fy {T:Kc->List Tm->Rat} (h:Qm T): ∀ {l:List RC} {r:RC},(∀ x∈l,CnK x.1)->CnK r.1->bt (fun x:RC=>T x.1 x.2) (j6 l r)=T r.1 r.2+bt (fun x:RC=>T x.1 x.2) l
 | [],r,_,_=>by
  unfold j6;split
  .next h0=>rw[h0,h.nil,bt];grind
  .rfl
 | x::l,r,hl,hr=>by
  have ih:=Fy h (l:=l) (r:=r) (fun y hy=>hl y (mem_cons_of_mem _ hy)) hr;unfold j6;split
  .next h0=>rw[h0,h.nil];grind
  split
  .rw[bt,ih,bt];grind
  split
  .next h1=>
   have he:=k6 (hl x (by simp)) hr h1;have e2:T r.1 (nf (r.2++x.2))=T r.1 r.2+T x.1 x.2:=by rw[h.nf,h.add,he]
   split
   .next h2=>
    rw[h2,h.nil] at e2;rw[bt];grind
   rw[bt,bt,e2];grind
  rfl
theorem Fz {T:Kc->List Tm->Rat} (h:Qm T): ∀ {l s:List RC},NF s->RcOk l->bt (fun x:RC=>T x.1 x.2) (l.foldl j6 s)=bt (fun x:RC=>T x.1 x.2) s+bt (fun x:RC=>T x.1 x.2) l
 | [],s,_,_=>by rw[List.foldl_nil,bt];grind
 | r::l,s,hs,hl=>by
  have hr:=hl r (by simp);rw[List.foldl_cons,Fz h (CO hs hr.1 hr.2) (fun x hx=>hl x (mem_cons_of_mem _ hx)),Fy h hs.cn hr.1,bt];grind
theorem FA {T:Kc->List Tm->Rat} (h:Qm T) {l:List RC} (hl:RcOk l):bt (fun x:RC=>T x.1 x.2) (o5 l)=bt (fun x:RC=>T x.1 x.2) l:=by
 unfold o5;rw[Fz h NF.nil hl,bt];grind
def DY (m:Mn) (x:Nat->Rat):Nat->Rat
 | 0=>1
 | k+1=>DY m x k*x k^(m.getD k 0).toNat
def mv (m:Mn) (x:Nat->Rat):Rat:=DY m x 8
def ev (p:List Tm) (x:Nat->Rat):Rat:=vy (fun m=>mv m x) p
theorem fO (t:Tm) (p:List Tm) (x:Nat->Rat):ev (t::p) x=t.2*mv t.1 x+ev p x:=rfl
theorem r_ (a b:List Tm) (x:Nat->Rat):ev (a++b) x=ev a x+ev b x:=xv _ a b
theorem FC (p:List Tm) (x:Nat->Rat):ev (nf p) x=ev p x:=O5 _ p
theorem FD (r:Rat) (x:Nat->Rat): ∀ p:List Tm,ev (cW p r) x=r*ev p x
 | []=>by show(0:Rat)=r*0;grind
 | t::p=>by
  have:=FD r x p;unfold cW at this ⊢;rw[map_cons,fO,this,fO];grind
theorem ja {m:Mn} {v k:Nat} {e:Int}:(m.set v e).getD k 0=if k=v/\v<m.length then e else m.getD k 0:=by
 rw[qa,List.getElem?_set,qa];by_cases h:v=k
 .subst h;by_cases h2:v<m.length
  .simp[h2]
  simp[h2]
 rw[if_neg h,if_neg (by omega)]
theorem BM {m n:Mn} {x y:Nat->Rat}: ∀ {k:Nat},(∀ i,i<k->m.getD i 0=n.getD i 0/\x i=y i)->DY m x k=DY n y k
 | 0,_=>rfl
 | k+1,h=>by rw[DY,DY,BM (fun i hi=>h i (by omega)),(h k (by omega)).1,(h k (by omega)).2]
theorem KF {m:Mn} {x:Nat->Rat} {v:Nat} {s:Rat} (hm:m.length=8) (hv:v<8): ∀ k,v<k->DY m (upd x v s) k=s^(m.getD v 0).toNat*DY (m.set v 0) x k
 | 0,h=>absurd h (by omega)
 | k+1,h=>by
  rw[DY,DY];by_cases hk:k=v
  .subst hk;rw[i4,ja,if_pos ⟨rfl,by omega⟩,BM (n:=m.set k 0) (y:=x) (fun i hi=>⟨by rw[ja,if_neg (by omega)],uT (by omega)⟩)];show _=_*(_*x k^0);rw[Rat.pow_zero];grind
  rw[uT hk,ja,if_neg (by omega),KF hm hv k (by omega)];grind
theorem yy {m:Mn} {x:Nat->Rat} {v:Nat} {s:Rat} (hm:m.length=8) (hv:v<8):mv m (upd x v s)=s^(m.getD v 0).toNat*mv (m.set v 0) x:=KF hm hv 8 hv
theorem Qn {m:Mn} {x:Nat->Rat} {v:Nat} {s:Rat} {e:Int} (hm:m.length=8) (hv:v<8):mv (m.set v e) (upd x v s)=s^e.toNat*mv (m.set v 0) x:=by
 rw[yy (by rw[length_set];exact hm) hv,ja,if_pos ⟨rfl,by omega⟩,List.set_set]
theorem FE (x:Rat) (a:Nat): ∀ b:Nat,x^(a+b)=x^a*x^b
 | 0=>by rw[Nat.add_zero,Rat.pow_zero];grind
 | b+1=>by rw[<-Nat.add_assoc,Rat.pow_succ,Rat.pow_succ,FE x a b];grind
theorem KG {a b:Mn} {x:Nat->Rat} (ha:a.length=8) (hb:b.length=8): ∀ k,k<=8->(∀ i,i<k->0<=a.getD i 0/\0<=b.getD i 0)->DY (e_ a b) x k=DY a x k*DY b x k
 | 0,_,_=>by show(1:Rat)=1*1;grind
 | k+1,hk,h=>by
  have e:(e_ a b).getD k 0=a.getD k 0+b.getD k 0:=by
   unfold e_;simp[qa,List.getElem?_zipWith,qb (show k<a.length by omega),qb (show k<b.length by omega)]
  obtain⟨h1,h2⟩:=h k (by omega);rw[DY,DY,DY,KG ha hb k (by omega) (fun i hi=>h i (by omega)),e,Int.toNat_add h1 h2,FE];grind
def NN (p:List Tm):Prop:= ∀ t∈p,t.1.length=8/\ ∀ k,k<8->0<=t.1.getD k 0
theorem NN.nil:NN []:=fun t ht=>by simp at ht
theorem NN.app {a b:List Tm} (ha:NN a) (hb:NN b):NN (a++b):=fun t ht=>by
 rcases List.mem_append.1 ht with h | h
 .exact ha t h
 exact hb t h
theorem NN.nf {a:List Tm} (h:NN a):NN (Go.Pl.nf a):=fun t ht=>by
 obtain⟨u,hu,he⟩:=jV ht;rw[<-he];exact h u hu
theorem NN.prod {p q:List Tm} (hp:NN p) (hq:NN q):NN (prodT p q):=fun t ht=>by
 obtain⟨s,hs,h⟩:=List.mem_flatMap.1 ht;obtain⟨u,hu,rfl⟩:=mem_map.1 h;obtain⟨a1,a2⟩:=hp s hs;obtain⟨b1,b2⟩:=hq u hu;refine⟨by simp[e_,a1,b1],fun k hk=>?_⟩;rw[uY a1 b1 hk];have:=a2 k hk;have:=b2 k hk;omega
theorem NN.part {v:Nat} {d:Int} {p:List Tm} (h:NN p):NN (bj v d p):=fun t ht=>by
 obtain⟨u,hu,rfl⟩:=mem_map.1 ht;obtain⟨a1,a2⟩:=h u (mem_filter.1 hu).1;refine⟨by rw[length_set];exact a1,fun k hk=>?_⟩;rw[ja];split
 .exact Int.le_refl 0
 exact a2 k hk
theorem Yv {s:Tm} {q:List Tm} {x:Nat->Rat} (hs:s.1.length=8/\ ∀ k,k<8->0<=s.1.getD k 0) (hq:NN q):ev (q.map (fun t=>(e_ s.1 t.1,s.2*t.2))) x=s.2*mv s.1 x*ev q x:=by
 induction q with
 | nil=>show(0:Rat)=_*0;grind
 | cons t q ih=>
  have ih:=ih (fun u hu=>hq u (mem_cons_of_mem _ hu));obtain⟨b1,b2⟩:=hq t (by simp);have e:mv (e_ s.1 t.1) x=mv s.1 x*mv t.1 x:=KG hs.1 b1 8 (qp 8) (fun i hi=>⟨hs.2 i hi,b2 i hi⟩);rw[map_cons,fO,ih,fO,e];grind
theorem KH {q:List Tm} {x:Nat->Rat} (hq:NN q): ∀ {p:List Tm},NN p->ev (prodT p q) x=ev p x*ev q x
 | [],_=>by show(0:Rat)=0*_;grind
 | s::p,hp=>by
  have ih:=KH (x:=x) hq (p:=p) (fun t ht=>hp t (mem_cons_of_mem _ ht));unfold prodT at ih ⊢;rw[List.flatMap_cons,r_,ih,Yv (hp s (by simp)) hq,fO];grind
def hv:List Rat->Rat->Rat
 | [],_=>0
 | c::cs,y=>hv cs y*y+c
theorem yz {q:List Tm} (hq:NN q): ∀ {cs:List (List Tm)},(∀ c∈cs,NN c)->NN (hornT q cs)
 | [],_=>NN.nil
 | c::cs,h=>((yz hq (fun d hd=>h d (mem_cons_of_mem _ hd))).prod hq |>.app (h c (by simp))).nf
theorem KI {q:List Tm} {x:Nat->Rat} (hq:NN q): ∀ {cs:List (List Tm)},(∀ c∈cs,NN c)->ev (hornT q cs) x=hv (cs.map (fun c=>ev c x)) (ev q x)
 | [],_=>rfl
 | c::cs,h=>by
  have hc: ∀ d∈cs,NN d:=fun d hd=>h d (mem_cons_of_mem _ hd)
  rw[hornT,FC,r_,KH hq (yz hq hc),KI hq hc,map_cons,hv]
theorem FF (f:Nat->Rat) (y:Rat): ∀ (n k:Nat),hv ((List.range n).map (fun i=>f (i+k))) y*y^k=bt (fun i=>f (i+k)*y^(i+k)) (List.range n)
 | 0,k=>by show(0:Rat)*_=0;grind
 | n+1,k=>by
  have ih:=FF f y n (k+1);rw[List.range_succ_eq_map,map_cons,hv,bt,List.map_map,pe];have e1:(fun i=>f (i+k)) ∘ Nat.succ=fun i=>f (i+(k+1)):=by funext i;show f (i+1+k)=_;rw[Nat.add_assoc,Nat.add_comm 1 k]
  have e2:(fun i=>f (Nat.succ i+k)*y^(Nat.succ i+k))=fun i=>f (i+(k+1))*y^(i+(k+1)):=by
   funext i;show f (i+1+k)*y^(i+1+k)=_;rw[Nat.add_assoc,Nat.add_comm 1 k]
  rw[e1,e2,<-ih,Rat.pow_succ,Nat.zero_add];grind
theorem FG {α:Type} (f g:α->Rat): ∀ l:List α,bt (fun a=>f a+g a) l=bt f l+bt g l
 | []=>by show(0:Rat)=0+0;grind
 | a::l=>by rw[bt,bt,bt,FG f g l];grind
theorem FH {v n:Nat} {x:Nat->Rat} {y:Rat} (hv:v<8): ∀ {p:List Tm},NN p->(∀ t∈p,t.1.getD v 0<n)->bt (fun i:Nat=>ev (bj v (i:Int) p) x*y^i) (List.range n)=ev p (upd x v y)
 | [],_,_=>by rw[qF (fun i _=>by show(0:Rat)*_=0;grind)];rfl
 | t::p,hp,hn=>by
  have ih:=FH (x:=x) (y:=y) hv (p:=p) (fun u hu=>hp u (mem_cons_of_mem _ hu)) (fun u hu=>hn u (mem_cons_of_mem _ hu));obtain⟨a1,a2⟩:=hp t (by simp);have h0:=a2 v hv;have h1:=hn t (by simp);have key: ∀ i:Nat,ev (bj v (i:Int) (t::p)) x*y^i=(if i=(t.1.getD v 0).toNat then t.2*mv (t.1.set v 0) x*y^i else 0)+ev (bj v (i:Int) p) x*y^i:=fun i=>by
   by_cases hi:i=(t.1.getD v 0).toNat
   .rw[if_pos hi];unfold bj;rw[List.filter_cons_of_pos (by simp only[decide_eq_true_eq];omega),map_cons,fO];grind
   rw[if_neg hi];unfold bj;rw[filter_cons_of_neg (by simp only[decide_eq_true_eq];omega)];grind
  rw[nG (fun i _=>key i),FG,ih,yx (i:=(t.1.getD v 0).toNat) (by omega) (fun k _ hk=>if_neg hk),if_pos rfl,fO,yy a1 hv];grind
theorem FI {v:Nat} {x:Nat->Rat} {p q:List Tm} (hv:v<8) (hp:NN p) (hq:NN q):ev (fe v q p) x=ev p (upd x v (ev q x)):=by
 unfold fe;rw[KI hq (fun c hc=>by
  obtain⟨i,_,rfl⟩:=mem_map.1 hc;exact hp.part)]
 unfold eB;rw[List.map_map];have h1:=FF (fun i=>ev (bj v (i:Int) p) x) (ev q x) (lJ v p+1).toNat 0;rw[Rat.pow_zero] at h1;have h2:=FH (x:=x) (y:=ev q x) (n:=(lJ v p+1).toNat) hv hp (fun t ht=>by
  have:=J5 (v:=v) ht;have:=wH (v:=v) (p:=p);omega)
 rw[<-h2];have h3:(fun c=>ev c x) ∘ (fun i:Nat=>bj v (i:Int) p)=fun i:Nat=>ev (bj v ((i+0:Nat):Int) p) x:=rfl
 rw[h3];have h4:(fun i:Nat=>ev (bj v ((i+0:Nat):Int) p) x*ev q x^(i+0))=fun i:Nat=>ev (bj v (i:Int) p) x*ev q x^i:=rfl
 rw[h4] at h1;rw[<-h1];grind
theorem Slp.prim {v:Nat} {x:Nat->Rat} (hv:v<8): ∀ {p:List Tm},NN p->Slp (fun s=>ev (aU v p) (upd x v s)) (fun s=>ev p (upd x v s))
 | [],_=>Slp.zero
 | t::p,hp=>by
  have ih:=Slp.prim (x:=x) hv (p:=p) (fun u hu=>hp u (mem_cons_of_mem _ hu));obtain⟨a1,a2⟩:=hp t (by simp);have h0:=a2 v hv;obtain⟨k,hk⟩: ∃ k:Nat,t.1.getD v 0=(k:Int):=⟨_,(Int.toNat_of_nonneg h0).symm⟩;refine((((Slp.pow k).scale (t.2 / ((k:Rat)+1)*mv (t.1.set v 0) x))).add ih).congr (fun s=>?_) (fun s=>?_)
  .unfold aU;rw[map_cons,fO];show _=t.2 / _*mv (t.1.set v _) (upd x v s)+_;rw[hk,Qn a1 hv,show((k:Int)+1).toNat=k+1 by omega,Rat.intCast_natCast];grind
  rw[fO,yy a1 hv,hk,Int.toNat_natCast];have:(k:Rat)+1≠0:=by
   have:=j9 (show 0<k+1 by omega);rw[pd] at this;grind
  grind
end Go.Pl
