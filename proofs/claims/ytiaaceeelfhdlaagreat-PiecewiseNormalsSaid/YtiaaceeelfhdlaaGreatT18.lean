/- Plain:functions with a slope;what has slope 0 but at finitely many places is constant. -/
import Derived.Test.YtiaaceeelfhdlaaGreatT17
import Derived.Test.YtiaaceeelfhdlaaGreatT16
import Derived.Test.YtiaaceeelfhdlaaGreatT9
import Derived.Test.YtiaaceeelfhdlaaGreatT13
import Derived.Test.YtiaaceeelfhdlaaGreatT1
set_option linter.all false
open List (append_assoc append_nil eq_of_mem_replicate length_map length_replicate map_cons mem_cons_of_mem mem_map not_mem_nil replicate)
namespace Go.Pl
open Go.AM
structure Pc where
 lo:Rat
 hi:Rat
 F:Rat->Rat
 f:Rat->Rat
structure ajx (T:Kc->List Tm->Rat):Prop where
 add: ∀ k a b,T k (a++b)=T k a+T k b
 nf: ∀ k a,T k (Go.Pl.nf a)=T k a
 nil: ∀ k,T k []=0
def mvk (m:Mn) (x:Nat->Rat):Nat->Rat
 | 0=>1
 | k+1=>mvk m x k*x k^(m.getD k 0).toNat
def mv (m:Mn) (x:Nat->Rat):Rat:=mvk m x 8
def ev (p:List Tm) (x:Nat->Rat):Rat:=lin (fun m=>mv m x) p
def hv:List Rat->Rat->Rat
 | [],_=>0
 | c::cs,y=>hv cs y*y+c
structure ajy (c:List (List Raw)):Prop where
 cn: ∀ l∈c,IsCn l
 nm: ∀ l∈c,cT l=l
 nc: ∀ l∈c,¬aO l
 nd:c.Nodup
theorem HH {l:List Raw} {w:Nat} (hw:w<8) (h: ∀ i,i<8->i≠w->co l i=0) (z:Nat->Rat):bw l z=co l 8+co l w*z w:=by
 have h0: ∀ i,i<8->co l i*z i=if i=w then co l w*z w else 0:=fun i hi=>by
  by_cases e:i=w
  .rw[if_pos e,e]
  rw[if_neg e,h i hi e];grind
 rw[Qm,h0 0 (by decide),h0 1 (by decide),h0 2 (by decide),h0 3 (by decide),h0 4 (by decide),h0 5 (by decide),h0 6 (by decide),h0 7 (by decide)];have:w=0\/w=1\/w=2\/w=3\/w=4\/w=5\/w=6\/w=7:=by omega
 rcases this with e | e | e | e | e | e | e | e<;>subst e<;>simp<;>grind
def Bdd (v:Nat) (c:List (List Raw)):Prop:= ∃ R:Rat,∀ x,In c x-> -R<=x v/\x v<=R
end Go.Pl
namespace Go.Proofs.YtiaaceeelfhdlaaGreat
open Go.AM Go.Pl
set_option maxRecDepth 100000
set_option maxHeartbeats 4000000
theorem HI {xs:List Int}: ∀ {n i a:Nat} {rs:List Raw} {k:Nat},(k<i\/i+n<=k)->co (yh xs n i a rs) k=co rs k
 | 0,_,_,_,_,_=>rfl
 | n+1,i,a,rs,k,h=>by
  unfold yh;rw[HI (n:=n) (by omega),nZ (by omega)]
theorem Qy {xs:List Int} {n a k:Nat} (h:n<=k) (h8:k<8):co (s_ xs n a).1 k=0:=by
 have h1:=HI (xs:=xs) (n:=n) (i:=0) (a:=a) (rs:=replicate 9 rz) (k:=k) (by omega);rw[Hw] at h1;unfold s_;split
 .show co (List.set _ 8 _) k=0;rw[nZ (by omega),nZ (by omega),h1]
 show co (List.set _ 8 _) k=0;rw[nZ (by omega),h1]
theorem wL (xs:List Int): ∀ (k b:Nat),Two 0 1 (jh xs 2 k b)
 | 0,b=>by intro l h;simp[jh] at h
 | k+1,b=>by
  intro l h i hi h0 h1;simp only[jh,uI] at h;rcases h with h | h
  .rw[h];exact Qy (by omega) hi
  exact wL xs k _ l h i hi h0 h1
theorem n6 {a b:List Raw} {i:Nat} (ha:a.length=9) (hb:b.length=9) (hi:i<9):co ((mg a b).map cn) i=co a i+co b i:=by
 unfold co;rw[oM (by omega) (by omega),cK]
theorem lM {v i:Nat} {z:Int} (hv:v<8) (hi:i<8) (h:i≠v):co (m0 v z) i=0/\co (m5 v z) i=0:=by
 unfold m0 m5;rw[n6 (dz v) (dH _) (by omega),n6 (dG (dz v)) (dH _) (by omega),jo (dz v) (by omega),AO (by omega) (by omega),s6 (by omega),if_neg h,if_neg (by omega)];constructor<;>grind
theorem Qz (xs:List Int) (b:Nat):Two 0 1 (lL xs 2 0 b):=by
 intro l h i hi h0 h1;simp only[lL,uI,not_mem_nil,or_false] at h;rcases h with h | h | h | h<;>rw[h]
 .exact(lM (by decide) hi h0).1
 .exact(lM (by decide) hi h0).2
 .exact(lM (by decide) hi h1).1
 exact(lM (by decide) hi h1).2
theorem QA {a b:List (List Raw)} (ha:Two 0 1 a) (hb:Two 0 1 b):Two 0 1 (a++b):=fun l hl=>by
 rcases List.mem_append.1 hl with h | h
 .exact ha l h
 exact hb l h
theorem QB {ls:List (List Raw)} (h: ∀ l∈ls,l.length=9): ∀ y∈ak ls,y.length=27:=by
 intro y hy;unfold ak at hy;obtain⟨l,hl,rfl⟩:=mem_map.1 hy;rw[aI,h l hl]
def RgS (xs:List Int) (H1:List Ob) (res:PV):Prop:= ∃ (L:List RR) (a':Nat),H1=[S xs a',.row true (aE L)]/\res=PV.lsl 1 0 L.length 2/\a'<=xs.length/\L.length<=2/\ ∀ r∈L,RdR r
theorem QC {L:List RR} {r:RR} (h: ∀ r∈L,RdR r) (hr:RdR r): ∀ x∈L++[r],RdR x:=fun x hx=>by
 rcases List.mem_append.1 hx with h1 | h1
 .exact h x h1
 rw[qz] at h1;rw[h1];exact hr
theorem Vh (xs:List Int) (a:Nat) (hl:xs.length<=1000) (ha:a<=xs.length) (hw:W64 xs): ∃ H1 res,RgS xs H1 res/\Den Tryz.prog 56 [S xs a] [.ptr 0 0 0,.int .i64 2,.int .i64 2] H1 res:=by
 have hN:=jn xs a 3 hl ha hw (by omega) (by omega);have aG:=d5 (xs:=xs) (a:=a) (n:=3) (by omega);have hc:=av xs a;have KA:=bL ha;generalize nN xs a 3=n at*;obtain⟨a0,hA⟩:=ax (nx xs a);rw[hA] at hN KA;have e3:((2:Int)+1)=((3:Nat):Int):=rfl;unfold RgS;unfold S at hN hc;unfold S;refine BN Tryz.func56 25 1 ?_;refine cz e3 ?_;refine d6 0 hN hc ?_;refine cv ?_;refine wl (α:=Nat×Nat×List RR) (fun⟨i,b,L⟩=>⟨[.ptr 0 0 0,.int .i64 2,.int .i64 2,.any,.any,.any,.any,.lsl 1 0 L.length 2,.int .i64 i]++replicate 19 .any,[.box true [.fv (.sl (ints xs)),.int .i64 b,.int .i64 0],.row true (aE L)]⟩)
  (fun⟨i,_,_⟩=>i) (fun⟨i,b,L⟩=>i+L.length<=2/\b<=xs.length/\ ∀ r∈L,RdR r) (n,a0,[]) ?_ ⟨by simp;omega,KA,fun t ht=>by simp at ht⟩ ?_
 .refine Weak.nil 7 2 (by decide) rfl ?_;refine fW [0,1] ?_ ?_
  .simp[bO,eT,cJ,aU]
  simp[fM,fC,aU,cJ,bA,bh,aZ,bJ];rfl
 rintro⟨i,b,L⟩ ⟨hi,hb,hL⟩;refine aW ?_;refine bK ?_ ?_
 .intro h1 h2;have KC:=aaA xs 2 2 b (by decide) (by decide) hl hb hw;have dp:=wJ (xs:=xs) (n:=2) (k:=nN xs b 3) (bL hb);have hk3:=d5 (xs:=xs) (a:=b) (n:=3) (by decide);have eO:=tc xs 2 (nN xs b 3) (nx xs b);have nD:=wI xs 2 (nN xs b 3) (nx xs b);have lX:=wL xs (nN xs b 3) (nx xs b);simp only[Nat.reduceAdd] at KC;obtain⟨b1,eb1⟩:=ax (ub xs 2 (nN xs b 3) (nx xs b));obtain⟨cc,ecc⟩:=ax (jh xs 2 (nN xs b 3) (nx xs b));rw[eb1] at KC dp;rw[ecc] at KC eO nD lX;obtain⟨H1,res,⟨ts,b2,rfl,rfl,dN,uB,dD,hz⟩,xL⟩:=HC xs b1 2 2 hl dp hw (by decide) (by decide);have cb:=av xs b;have cb1:=av xs b1;have hr:RdR (cc,ts):=⟨nD,lX,by show cc.length<=6;omega,dD,hz,uB⟩;have cI:=jU L (cc,ts);unfold t6 at cI;have rlt:=ay ts;obtain⟨m,hm⟩:=ax ts.length;rw[hm] at rlt xL;have tk:=c_ (ts:=ts) (n:=m) (by omega)
  have rlL:=aX L;obtain⟨K,hK⟩:=ax L.length;rw[hK] at rlL hi;have tkL:=fI (l:=L) (n:=K) (by omega);dsimp only;rw[hK];have cX:lent 0 2 1=2:=rfl;have BI:lent 0 3 1=3:=rfl;have KI:lent 0 4 1=4:=rfl;have e9:((i:Int) - 1)=((i - 1:Nat):Int):=by omega
  unfold S at KC xL cb cb1;refine bE h2 ?_;refine d6 0 KC cb ?_;refine bE (bB cX BI KI) ?_;refine d6 0 xL cb1 ?_;refine bE (bU cX BI KI tk rlt tkL rlL (bB cI e9 @qp)) ?_
  repeat refine ae ?_
  refine aw (i - 1,b2,L++[(cc,ts)]) ?_ ⟨by rw[qe,hK];show i - 1+(K+1)<=2;omega,dN,QC hL hr⟩;exact bP [0,4]
 intro h1 h2;have Em:i=0:=by omega
 subst Em;refine ah h2 ?_;exact⟨[.box true [.fv (.sl (ints xs)),.int .i64 b,.int .i64 0],.row true (aE L)],.lsl 1 0 L.length 2,⟨L,b,rfl,rfl,hb,by omega,hL⟩,RetOK.lentOwn (cd:=True/\True) rfl ⟨b',b'⟩ rfl (av xs b) rfl (by decide) rfl⟩
def BdR (r:RR):Prop:=RdR r/\Bdd 0 r.1/\Bdd 1 r.1
theorem MU {v:Nat} {z:Int} (hv:v<8) (x:Nat->Rat):bw (m0 v z) x=x v+z/\bw (m5 v z) x= -x v+z:=by
 have a0:co (dR (z:Rat)) 8=z:=by rw[s6 (by omega),if_pos rfl]
 have a1:co (mD v) 8=0:=by rw[AO (by omega) (by omega),if_neg (by omega)]
 have a2:co (mD v) v=1:=by rw[AO (by omega) (by omega),if_pos rfl]
 have a3:co (dR (z:Rat)) v=0:=by rw[s6 (by omega),if_neg (by omega)]
 constructor
 .rw[HH hv (fun i hi fX=>(lM hv hi fX).1)];unfold m0;rw[n6 (dz v) (dH _) (by omega),n6 (dz v) (dH _) (by omega),a0,a1,a2,a3];grind
 rw[HH hv (fun i hi fX=>(lM hv hi fX).2)];unfold m5;rw[n6 (dG (dz v)) (dH _) (by omega),n6 (dG (dz v)) (dH _) (by omega),jo (dz v) (by omega),jo (dz v) (by omega),a0,a1,a2,a3];grind
theorem vq {v:Nat} {z:Int} {x:Nat->Rat} (hv:v<8):(0<bw (m0 v z) x\/(aO (m0 v z)/\bw (m0 v z) x=0)->0<x v+z)/\(0<bw (m5 v z) x\/(aO (m5 v z)/\bw (m5 v z) x=0)->0< -x v+z):=by
 obtain⟨h1,h2⟩:=MU (z:=z) hv x;have a2:co (mD v) v=1:=by rw[AO (by omega) (by omega),if_pos rfl]
 have a3:co (dR (z:Rat)) v=0:=by rw[s6 (by omega),if_neg (by omega)]
 constructor
 .rintro(h | h)
  .rw[h1] at h;exact h
  have:=h.1 v hv;unfold m0 at this;rw[n6 (dz v) (dH _) (by omega),a2,a3] at this;grind
 rintro(h | h)
 .rw[h2] at h;exact h
 have:=h.1 v hv;unfold m5 at this;rw[n6 (dG (dz v)) (dH _) (by omega),jo (dz v) (by omega),a2,a3] at this;grind
theorem AX {a b:Int} (h:a<=b):(a:Rat)<=(b:Rat):=Rat.intCast_le_intCast.2 h
theorem QD (xs:List Int) (b:Nat) (cc:Kc):Bdd 0 (lL xs 2 0 b++cc)/\Bdd 1 (lL xs 2 0 b++cc):=by
 have s0:=oZ xs b;have s1:=oZ xs (nx xs (nx xs b));have e3:((3:Int):Rat)=3:=rfl;have e1:((1:Int):Rat)=1:=rfl;constructor
 .refine⟨3,fun x hx=>?_⟩;have h1:=(vq (z:= -lK xs b) (x:=x) (v:=0) (by decide)).1 (hx _ (by simp[lL]));have h2:=(vq (z:=pC xs b) (x:=x) (v:=0) (by decide)).2 (hx _ (by simp[lL]));have i1:=AX (show -lK xs b<=1 by omega);have i2:=AX (show pC xs b<=3 by omega);rw[e1] at i1;rw[e3] at i2;constructor<;>grind
 refine⟨3,fun x hx=>?_⟩;have h1:=(vq (z:= -lK xs (nx xs (nx xs b))) (x:=x) (v:=1) (by decide)).1 (hx _ (by simp[lL]));have h2:=(vq (z:=pC xs (nx xs (nx xs b))) (x:=x) (v:=1) (by decide)).2 (hx _ (by simp[lL]));have i1:=AX (show -lK xs (nx xs (nx xs b))<=1 by omega);have i2:=AX (show pC xs (nx xs (nx xs b))<=3 by omega);rw[e1] at i1;rw[e3] at i2;constructor<;>grind
def RgT (xs:List Int) (H1:List Ob) (res:PV):Prop:= ∃ (L:List RR) (a':Nat),H1=[S xs a',.row true (aE L)]/\res=PV.lsl 1 0 L.length 2/\a'<=xs.length/\L.length<=2/\ ∀ r∈L,BdR r/\r.1.length<=5
theorem QE {L:List RR} {r:RR} (h: ∀ r∈L,BdR r/\r.1.length<=5) (hr:BdR r/\r.1.length<=5): ∀ x∈L++[r],BdR x/\x.1.length<=5:=fun x hx=>by
 rcases List.mem_append.1 hx with h1 | h1
 .exact h x h1
 rw[qz] at h1;rw[h1];exact hr
theorem aaC (xs:List Int) (a:Nat) (hl:xs.length<=1000) (ha:a<=xs.length) (hw:W64 xs): ∃ H1 res,RgT xs H1 res/\Den Tryz.prog 21 [S xs a] [.ptr 0 0 0,.int .i64 2,.int .i64 2] H1 res:=by
 have hN:=jn xs a 3 hl ha hw (by omega) (by omega);have aG:=d5 (xs:=xs) (a:=a) (n:=3) (by omega);have hc:=av xs a;have KA:=bL ha;generalize nN xs a 3=n at*;obtain⟨a0,hA⟩:=ax (nx xs a);rw[hA] at hN KA;have e3:((2:Int)+1)=((3:Nat):Int):=rfl;unfold RgT;unfold S at hN hc;unfold S;refine BN Tryz.func21 29 1 ?_;refine cz e3 ?_;refine d6 0 hN hc ?_;refine cv ?_;refine wl (α:=Nat×Nat×List RR) (fun⟨i,b,L⟩=>⟨[.ptr 0 0 0,.int .i64 2,.int .i64 2,.any,.any,.any,.any,.lsl 1 0 L.length 2,.int .i64 i]++replicate 23 .any,[.box true [.fv (.sl (ints xs)),.int .i64 b,.int .i64 0],.row true (aE L)]⟩)
  (fun⟨i,_,_⟩=>i) (fun⟨i,b,L⟩=>i+L.length<=2/\b<=xs.length/\ ∀ r∈L,BdR r/\r.1.length<=5) (n,a0,[]) ?_ ⟨by simp;omega,KA,fun t ht=>by simp at ht⟩ ?_
 .refine Weak.nil 7 2 (by decide) rfl ?_;refine fW [0,1] ?_ ?_
  .simp[bO,eT,cJ,aU]
  simp[fM,fC,aU,cJ,bA,bh,aZ,bJ];rfl
 rintro⟨i,b,L⟩ ⟨hi,hb,hL⟩;refine aW ?_;refine bK ?_ ?_
 .intro h1 h2;have h17:=ae7 xs 2 b (by decide) hl hb hw;simp only[Nat.reduceMul] at h17;have ED:pV xs 4 b<=xs.length:=pX hb;have hbl:=wK xs 2 0 b;have T2:=HG xs 2 0 b;have acW:=Qz xs b;obtain⟨b0,eb0⟩:=ax (pV xs 4 b);obtain⟨bb,ebb⟩:=ax (lL xs 2 0 b);rw[eb0] at ED;rw[eb0,ebb] at h17;have hbx:=QD xs b;rw[ebb] at hbx;rw[ebb] at hbl T2 acW;have KC:=aaA xs 2 1 b0 (by decide) (by decide) hl ED hw;have dp:=wJ (xs:=xs) (n:=2) (k:=nN xs b0 2) (bL ED);have hk3:=d5 (xs:=xs) (a:=b0) (n:=2) (by decide);have eO:=tc xs 2 (nN xs b0 2) (nx xs b0);have nD:=wI xs 2 (nN xs b0 2) (nx xs b0);have lX:=wL xs (nN xs b0 2) (nx xs b0);simp only[Nat.reduceAdd] at KC;obtain⟨b1,eb1⟩:=ax (ub xs 2 (nN xs b0 2) (nx xs b0));obtain⟨cc,ecc⟩:=ax (jh xs 2 (nN xs b0 2) (nx xs b0));rw[eb1] at KC dp;rw[ecc] at KC eO nD lX
  obtain⟨H1,res,⟨ts,b2,rfl,rfl,dN,uB,dD,hz⟩,xL⟩:=HC xs b1 2 2 hl dp hw (by decide) (by decide);have cb:=av xs b;have cb0:=av xs b0;have cb1:=av xs b1;have hr:RdR (bb++cc,ts):=⟨fun l hl=>by
   rcases List.mem_append.1 hl with h | h
   .exact T2 l h
   exact nD l h,QA acW lX,by show(bb++cc).length<=6;rw[qe];omega,dD,hz,uB⟩
  have Wp:=hbx cc;have cI:=jU L (bb++cc,ts);unfold t6 at cI;have rlt:=ay ts;obtain⟨m,hm⟩:=ax ts.length;rw[hm] at rlt xL;have tk:=c_ (ts:=ts) (n:=m) (by omega);have rlL:=aX L;obtain⟨K,hK⟩:=ax L.length;rw[hK] at rlL hi;have tkL:=fI (l:=L) (n:=K) (by omega);have rlb:=aq bb;have rlc:=aq cc;have tkb:=bX (ls:=bb) (n:=4) (by omega);have ag4:(∀ y,y∈ak cc->y.length=27)=True:=eq_true (QB (ls:=cc) (fun l hl=>(nD l hl).len));have ag5:ak bb++ak cc=ak (bb++cc):=by simp[ak]
  have rlbc:=aq (bb++cc);rw[qe] at rlbc;obtain⟨q,hq⟩:=ax cc.length;rw[hq] at rlc rlbc;rw[hbl] at rlb rlbc;have tkc:=bX (ls:=bb++cc) (n:=4+q) (by rw[qe];omega);dsimp only;rw[hK];have cX:lent 0 2 1=2:=rfl;have BI:lent 0 3 1=3:=rfl;have KI:lent 0 4 1=4:=rfl;have e9:((i:Int) - 1)=((i - 1:Nat):Int):=by omega
  unfold S at h17 KC xL cb cb0 cb1;refine bE h2 ?_;refine d6 0 h17 cb ?_;refine bE (bB cX BI KI) ?_;refine d6 0 KC cb0 ?_;refine bE (bU cX BI KI ag4 tkb ag5 rlb (bB rlc @map_cons.{0,0} @List.map_nil.{0,0})) ?_
  repeat refine ae ?_
  refine d6 0 xL cb1 ?_;refine bE (bU cX BI KI tk rlt tkc rlbc (gn tkL rlL cI e9 @qp)) ?_
  repeat refine ae ?_
  refine aw (i - 1,b2,L++[(bb++cc,ts)]) ?_ ⟨by rw[qe,hK];show i - 1+(K+1)<=2;omega,dN,QE hL ⟨⟨hr,Wp⟩,by show(bb++cc).length<=5;rw[qe];omega⟩⟩;exact bP [0,6]
 intro h1 h2;have Em:i=0:=by omega
 subst Em;refine ah h2 ?_;exact⟨[.box true [.fv (.sl (ints xs)),.int .i64 b,.int .i64 0],.row true (aE L)],.lsl 1 0 L.length 2,⟨L,b,rfl,rfl,hb,by omega,hL⟩,RetOK.lentOwn (cd:=True/\True) rfl ⟨b',b'⟩ rfl (av xs b) rfl (by decide) rfl⟩
theorem ae8 (xs:List Int) (a:Nat) (hl:xs.length<=1000) (ha:a<=xs.length) (hw:W64 xs): ∃ H1 res,RgS xs H1 res/\Den Tryz.prog 21 [S xs a] [.ptr 0 0 0,.int .i64 2,.int .i64 2] H1 res:=by
 obtain⟨H1,res,⟨L,a',h1,h2,h3,h4,h5⟩,h⟩:=aaC xs a hl ha hw;exact⟨H1,res,⟨L,a',h1,h2,h3,h4,fun r hr=>(h5 r hr).1.1⟩,h⟩
theorem ae9 (N:List RC) (hn:N.length<=18) (h: ∀ r∈N,SmR r):Den Tryz.prog 28 [] [nG (N.map rn),nG (N.map rn)] [] (.bool true):=by
 have rl:=aX (N.map rn);rw[length_map] at rl;obtain⟨n,cB⟩:=ax N.length;rw[cB] at rl hn;have e0:((n:Int) !=(n:Int))=false:=by simp
 refine dq Tryz.func28 41 0 ?_;simp -dsimp(disch:=omega) only[replicate,rl,e0,IntKind.bits,Int.reduceToNat,Int.reducePow,Option.isNone_none,↓reduceIte,reduceCtorEq,Nat.reduceAdd,Nat.reduceMul,Nat.reduceSub,Nat.reduceBEq,Nat.reduceEqDiff,Nat.reduceLT,Nat.reduceLeDiff,ru];refine wl (α:=Nat) (fun i=>⟨[nG (N.map rn),nG (N.map rn),.any,.any,.bool false,.int .i64 i]++replicate 37 .any,[]⟩) (fun i=>n - i) (fun i=>i<=n) 0 ?_ (dU _) ?_
 .exact bP []
 rintro i hi;refine cz rl ?_;refine bK ?_ ?_
 .intro g1 g2;obtain⟨r,hx⟩: ∃ x,N[i]?=some x:=⟨_,qb (by omega)⟩;have hr:=h r (List.mem_of_getElem? hx);have ry:(aE (N.map rn)).getD i []=[.sl (ak r.1),.sl (au (r.2.map tn))]:=by
   rw[db (l:=N.map rn) (i:=i) (by rw[length_map];omega),AU hx];rfl
  have Uf:=aaq r.1 r.1 hr.cn hr.cn (by have:=hr.len;omega) (by have:=hr.len;omega);rw[wC] at Uf;have h19:=aeL (r.2.map tn) hr.ts.1 hr.ts.2;refine ah (bB g2 ry rl) ?_
  repeat refine ae ?_
  refine dw (by kernel_rfl) ?_;refine ah (a8 ry rl) ?_
  repeat refine ae ?_
  refine hY Uf ?_;refine ah (fe @Bool.not_true @Bool.not_false ry rl) ?_
  repeat refine ae ?_
  refine hY h19 ?_;refine ah (a8 @Bool.not_true @Bool.not_false) ?_;refine aw (i+1) ?_ (by omega);exact bP []
 intro g1 g2;refine ah g2 ?_;exact bc rfl
structure JA (L:List RR):Prop where
 len:L.length<=1000000
 pg: ∀ r∈L,C1 r.2
 lim: ∀ r∈L,r.1.length<=1000000
 nr:ja [L]=0->C4 L/\L.length<=2
theorem QF {L:List RR} (h:JA L): ∃ (N:List RC) (c:Int),Den Tryz.prog 35 [] [nG L] [] (.tup [nG (N.map rn),.int .i64 c])/\Den Tryz.prog 36 [] [nG L] [] (.tup [nG (N.map rn),.int .i64 c])/\N.length<=18/\ ∀ r∈N,SmR r:=by
 have Oo:=aeY L h.len h.pg h.lim (fun h0=>(h.nr h0).1);have Oq:=ae5 L h.len h.pg h.lim (fun h0=>(h.nr h0).1);unfold ML at Oo Oq;by_cases h0:ja [L]=0
 .rw[if_pos h0] at Oo Oq;have hO:OrOk L:=⟨(h.nr h0).1,fun r hr=>by
   have h1:=(vo h0).1;cases Wa:d_ r with
   | false=>simpa [d_] using Wa
   | true=>rw[kA hr Wa] at h1;cases h1⟩
  have hm:=hO.sub (t:=normL L) (u:=[]) (by rw[append_nil]);refine⟨js (normL L),0,Oo,Oq,?_,fun r hr=>?_⟩
  .have a:=rL (normL L) [];have b:(normL L).length<=L.length:=by unfold normL;rw[length_map];exact List.length_filter_le _ _
   have c:=(h.nr h0).2;unfold js;rw[List.length_nil] at a;omega
  obtain⟨⟨a1,a2,a3⟩,b1,b2⟩:=hm.2 r hr;exact⟨fun l hl=>⟨a3 l hl,a1 l hl⟩,a2,b1,by unfold cE at b2;omega⟩
 rw[if_neg h0] at Oo Oq;exact⟨[],ja [L],Oo,Oq,by simp,by simp⟩
theorem aaD {L:List RR} (hq: ∀ r∈L,RgQ 0 1 2 2 4 11 6 (r.1,nfR r.2)) (qQ: ∀ r∈L,C1 r.2) (hv: ∀ r∈L,validB r.2=true) (hl:L.length<=2):C4 L:=by
 obtain⟨L',hL'⟩: ∃ t,L.map (fun r=>(r.1,nfR r.2))=t:=⟨_,rfl⟩;have hqq: ∀ r∈L',RgQ 0 1 2 2 4 11 6 r:=fun r hr=>by
  rw[<-hL'] at hr;obtain⟨x,hx,rfl⟩:=mem_map.1 hr;exact hq x hx
 have pa:L'.length<=2:=by rw[<-hL',length_map];exact hl
 have hn:normL (L'.map rn)=normL L:=by rw[<-hL'];exact zI (fun r hr=>(hq r hr).can)
 have T4:=aat TP hqq pa;have hf:=T4.few;have hm:=T4.mer;rw[hn] at hf hm;exact⟨qQ,hv,fun r hr _=>(hq r hr).cst TP,by omega,fun r hr=>by have h1:r.1.length<=40:=(hq r hr).len;omega,hf,hm⟩
theorem aaE {L:List RR} (h: ∀ r∈L,RdR r) (hl:L.length<=2):JA L:=
 ⟨by omega,fun r hr=>zH (h r hr).rd.ts (h r hr).few,fun r hr=>by have:=(h r hr).len;omega,
  fun _=>⟨aaD (fun r hr=>(h r hr).q) (fun r hr=>zH (h r hr).rd.ts (h r hr).few) (fun r hr=>MT (h r hr).rd) hl,hl⟩⟩
theorem C' {L:List RR} (h:dM L=true):ja [L]≠0:=by
 unfold ja;rw[if_pos (by simp[h])];decide
theorem QG (n:Nat) (hn:n=4001):JA (replicate n (([],[]):RR)):=by
 have hm: ∀ r∈replicate n (([],[]):RR),r=([],[]):=fun r hr=>eq_of_mem_replicate hr
 refine⟨by rw[length_replicate];omega,fun r hr=>?_,fun r hr=>by rw[hm r hr];simp,fun h0=>absurd h0 (C' ?_)⟩
 .rw[hm r hr];exact zH (fun t ht=>by simp at ht) (by simp)
 unfold dM;rw[length_replicate,EL];exact .inl (iK (by omega))
theorem JB:b8 (replicate 9 rz)=true:=(cA (by simp)).2 (fun i hi=>Hw)
theorem QH {n:Nat} {ts:List RT} (hn:n=40\/n=41) (rd:Rd3 ts) (duo: ∀ t∈ts,∀ i,2<=i->t.1.getD i 0=0) (few:ts.length<=2):JA [(replicate n (replicate 9 rz),ts)]:=by
 have hm: ∀ r:RR,r∈[((replicate n (replicate 9 rz),ts):RR)]->r=(replicate n (replicate 9 rz),ts):=fun r hr=>List.mem_singleton.1 hr
 have bC: ∀ l∈replicate n (replicate 9 rz),l=replicate 9 rz:=fun l hl=>eq_of_mem_replicate hl
 have qQ:=zH rd.ts few;refine⟨by simp,fun r hr=>by rw[hm r hr];exact qQ,fun r hr=>by rw[hm r hr];simp;omega,fun h0=>?_⟩;have Ij:n=40:=by
  rcases hn with h | h
  .exact h
  exact absurd h0 (C' (by
   unfold dM;rw[EL];right;simp[d_,h]))
 have h4:TsOk 4 ts:=fun t ht=>⟨(rd t ht).1,fun x hx=>by have:=(rd t ht).2.1 x hx;omega,(rd t ht).2.2⟩
 have hq:RgQ 0 1 2 2 4 11 6 (replicate n (replicate 9 rz),nfR ts):=by
  refine⟨fun l hl=>?_,fun l hl i hi _ _=>?_,by simp;omega,?_,dW (lG rd.ts.l8),?_,(AV (k:=11) (by decide) h4 few (by decide)).nf,.inl (by decide)⟩
  .rw[bC l hl];exact nT
  .rw[bC l hl];exact Hw
  .have:ncs (replicate n (replicate 9 rz))=[]:=Ji (fun l hl=>by rw[bC l hl];exact JB);show(ncs (replicate n (replicate 9 rz))).length<=6;rw[this];simp
  refine Duo.nf (fun t ht=>?_);obtain⟨u,hu,rfl⟩:=mem_map.1 ht;have h1:=rd u hu;exact⟨h1.1,fun i _ h2 h3=>duo u hu i (by omega),jR (by decide) h1.2.1 0,jR (by decide) h1.2.1 1⟩
 exact⟨aaD (fun r hr=>by rw[hm r hr];exact hq) (fun r hr=>by rw[hm r hr];exact qQ) (fun r hr=>by rw[hm r hr];exact MT rd) (by simp),by simp⟩
def ji:Kc:=[(((replicate 9 (0:Rat)).set 0 1)).map cn,((((replicate 9 (0:Rat)).set 0 (-1)).set 8 1)).map cn]
theorem HJ {l:List Raw} (h:l∈ji):LOk 4 l/\ ∀ i,i<8->i≠0->co l i=0:=by
 simp only[ji,uI,not_mem_nil,or_false] at h;have b0:Bd 4 (0:Rat):=⟨by decide,by decide⟩;have b1:Bd 4 (1:Rat):=⟨by decide,by decide⟩;have b2:Bd 4 (-1:Rat):=⟨by decide,by decide⟩;rcases h with rfl | rfl
 .refine⟨⟨by simp,fun r hr=>?_⟩,fun i hi h0=>?_⟩
  .obtain⟨q,hq,rfl⟩:=mem_map.1 hr;refine bn ?_;simp[replicate,List.set] at hq;rcases hq with rfl | rfl<;>assumption
  have:i=1\/i=2\/i=3\/i=4\/i=5\/i=6\/i=7:=by omega
  rcases this with rfl | rfl | rfl | rfl | rfl | rfl | rfl<;>exact cK 0
 refine⟨⟨by simp,fun r hr=>?_⟩,fun i hi h0=>?_⟩
 .obtain⟨q,hq,rfl⟩:=mem_map.1 hr;refine bn ?_;simp[replicate,List.set] at hq;rcases hq with rfl | rfl | rfl<;>assumption
 have:i=1\/i=2\/i=3\/i=4\/i=5\/i=6\/i=7:=by omega
 rcases this with rfl | rfl | rfl | rfl | rfl | rfl | rfl<;>exact cK 0
theorem MV:KT ji:=wH (v:=0) (w:=0) (k:=4) (fun l hl=>(HJ hl).1) (by decide) (fun l hl i hi h0 _=>(HJ hl).2 i hi h0) (by simp[ji]) (.inr ⟨rfl,ka (AL _) (by simp[ji]),by decide⟩)
theorem Vi:TsOk 10 (nu.map tn):=fun t ht=>by
 obtain⟨u,hu,rfl⟩:=mem_map.1 ht;rw[show nu=[(z8,1)] from rfl,qz] at hu;subst hu;exact⟨rfl,fun x hx=>by rw[eq_of_mem_replicate hx];omega,bn ⟨by decide,by decide⟩⟩
theorem MW:validB (nu.map tn)=true:=by decide+kernel
theorem QI {ts:List RT} (h:TsOk 10 ts) (hn:ts.length<=2):JA [(ji,nu.map tn),([],ts)]:=by
 obtain⟨U,hU⟩:=ax (nu.map tn);have hu:=Vi;have huv:=MW;have tC:U.length<=2:=by rw[<-hU];decide
 rw[hU] at hu huv ⊢;have hm: ∀ r:RR,r∈[((ji,U):RR),([],ts)]->TsOk 10 r.2/\r.2.length<=2/\r.1.length<=2/\KT r.1/\(validB ts=true->validB r.2=true):=fun r hr=>by
  simp only[uI,not_mem_nil,or_false] at hr;rcases hr with rfl | rfl
  .exact⟨hu,tC,by simp[ji],MV,fun _=>huv⟩
  exact⟨h,hn,by simp,Qx,fun hv=>hv⟩
 refine⟨by simp,fun r hr=>zH (hm r hr).1 (hm r hr).2.1,fun r hr=>by have:=(hm r hr).2.2.1;omega,fun h0=>⟨?_,by simp⟩⟩;have hv:validB ts=true:=by
  have:=(vo h0).2;unfold fY at this;exact this.2 ([],ts) (by simp)
 refine⟨fun r hr=>zH (hm r hr).1 (hm r hr).2.1,fun r hr=>(hm r hr).2.2.2.2 hv,fun r hr _=>(hm r hr).2.2.2.1,by simp,fun r hr=>by have:=(hm r hr).2.2.1;omega,?_,fun t u ht=>?_⟩
 .have b:(normL [((ji,U):RR),([],ts)]).length<=2:=by unfold normL;rw[length_map];exact List.length_filter_le _ _
  omega
 have hk: ∀ x∈t,∃ r∈[((ji,U):RR),([],ts)],x.2=nfR r.2:=fun x hx=>by
  have:x∈normL [((ji,U):RR),([],ts)]:=ht.mem_iff.1 (List.mem_append_left _ hx);unfold normL at this;obtain⟨r,hr,rfl⟩:=mem_map.1 this;exact⟨r,(List.mem_filter.1 hr).1,rfl⟩
 have aA:t.length<=2:=by
  have:=ht.length_eq;have b:(normL [((ji,U):RR),([],ts)]).length<=2:=by unfold normL;rw[length_map];exact List.length_filter_le _ _
  rw[qe] at this;omega
 have WT: ∀ x∈t,PB 23 x.2/\x.2.length<=2/\(∀ m∈x.2,m.1.length=8/\ ∀ e∈m.1,0<=e/\e<=1024):=fun x hx=>by
  obtain⟨r,hr,he⟩:=hk x hx;obtain⟨h1,h2,_,_,h5⟩:=hm r hr;have h5:=h5 hv;have hp:=U3 (n:=2) (k:=23) (by decide) h1 h2 (by decide) h5;rw[he];refine⟨(AV (k:=23) (by decide) h1 h2 (by decide)).nf,ka (Hk r.2) h2,fun m hm=>⟨hp.canon.len m hm,fun e he=>hp.exp m hm e he⟩⟩
 have hb:PB (2*(23+1)+1) (polyS' t):=(PB.flatR (by decide) (fun x hx=>(WT x hx).1) aA).nf;have Ee: ∀ m∈t.flatMap (·.2),m.1.length=8/\ ∀ e∈m.1,0<=e/\e<=1024:=fun m hm=>by
  obtain⟨x,hx,Gc⟩:=List.mem_flatMap.1 hm;exact(WT x hx).2.2 m Gc
 have sx:Canon (polyS' t):=dW (fun m hm=>(Ee m hm).1);have k4:(t.flatMap (·.2)).length<=4:=by
  have key: ∀ l:List RC,(∀ x∈l,x.2.length<=2)->(l.flatMap (·.2)).length<=2*l.length:=fun l=>by
   induction l with
   | nil=>intro _;simp
   | cons a l ih=>
    intro hh;have:=ih (fun x hx=>hh x (mem_cons_of_mem _ hx));have:=hh a (by simp);rw[List.flatMap_cons,qe,List.length_cons];omega
  have:=key t (fun x hx=>(WT x hx).2.1);omega
 refine⟨⟨sx,fun m hm=>(hb.bd (by decide) m hm).mono (by decide),fun m hm e he=>?_⟩,?_⟩
 .obtain⟨y,hy,hye⟩:=ve hm;rw[<-hye] at he;exact(Ee y hy).2 e he
 have:=Ay (t.flatMap (·.2));unfold polyS' cE;omega
end Go.Proofs.YtiaaceeelfhdlaaGreat
namespace Go.AM
def n7 (o:Option PV):Bool:=match o with
 | none=>true
 | some v=>match v.asInt with | some n=>decide (0<=n) | none=>true
theorem jC {o:Option PV} {d l:Nat} {c:Prop} (h:cS o d=some (c,l)) (hb:n7 o=true):c:=by
 unfold cS at h;unfold n7 at hb;cases o with
 | none=>cases h;trivial
 | some v=>
  simp only at h hb;cases hv:v.asInt with
  | none=>rw[hv] at h;cases h
  | some n=>
   rw[hv] at h hb;cases h;exact of_decide_eq_true hb
def rT (lo hi:Option PV) (len r:Nat):Bool:=n7 lo&&n7 hi&&(match cS lo 0,cS hi len with
 | some (_,l),some (_,h)=>decide (l<=h/\h<=r)
 | _,_=>false)
theorem qc {lo hi:Option PV} {len r l h:Nat} {c1 c2:Prop} (h1:cS lo 0=some (c1,l)) (h2:cS hi len=some (c2,h)) (hb:rT lo hi len r=true):c1/\c2/\l<=h/\h<=r:=by
 unfold rT at hb;rw[h1,h2,hG,hG] at hb;exact⟨jC h1 hb.1.1,jC h2 hb.1.2,of_decide_eq_true hb.2⟩
def AY (H:List Ob) (id i off n:Nat):Bool:=match H[id]? with
 | some (.row _ xs)=>decide (i<xs.length/\off+n<=(xs.getD i []).length)
 | some (.box _ cs)=>decide (i=0/\off+n<=cs.length)
 | _=>false
theorem zJ {H:List Ob} {id i off n:Nat} {cs:List PV} {c:Prop} (h:ee H id i off n=some (c,cs)) (hb:AY H id i off n=true):c:=by
 unfold ee at h;unfold AY at hb;split at h
 .rename_i r xs hx;rw[hx] at hb;cases h;exact of_decide_eq_true hb
 .rename_i r xs hx;rw[hx] at hb;cases h;exact of_decide_eq_true hb
 cases h
def Fi (H:List Ob) (id i off:Nat) (new:List PV):Bool:=match H[id]? with
 | some (.row true _)=>match (ft H new)[id]? with
  | some (.row true xs)=>decide (i<xs.length/\off+new.length<=(xs.getD i []).length)
  | _=>false
 | some (.box true cs)=>decide (i=0/\off+new.length<=cs.length)
 | _=>false
theorem JC {H H':List Ob} {id i off:Nat} {new:List PV} {c:Prop} (h:storeAt H id i off new=some (c,H')) (hb:Fi H id i off new=true):c:=by
 unfold storeAt at h;unfold Fi at hb;split at h
 .rename_i xs hx;rw[hx] at hb
  try simp only[Option.map_none,Option.map_some] at hb
  split at h
  .rename_i fs xs2 h1 h2;rw[h2] at hb;cases h;exact of_decide_eq_true hb
  cases h
 .rename_i cs hx;rw[hx] at hb;cases h;exact of_decide_eq_true hb
 cases h
def QJ (op:BinOp) (y:PV):Bool:=match op with
 | .quo | .rem=>(match y with | .fv (.lit (.int _ b))=>decide (b≠0) | _=>true)
 | .shl | .shr=>(match y with | .fv (.lit (.int _ b))=>decide (0<=b) | _=>true)
 | _=>true
theorem QK {tb:Bool} {op:BinOp} {x y:PV} {c:Prop} {v:Value} (h:EM tb op x y=some (c,v)) (hb:QJ op y=true):c:=by
 unfold EM at h;split at h
 .rename_i k a k' b;unfold QJ at hb;split at h
  .unfold k9 at h;cases h;exact of_decide_eq_true hb
  .unfold k9 at h;cases h;exact of_decide_eq_true hb
  split at h
  .unfold vG at h;split at h<;>first | (cases h;trivial) | (cases h;exact of_decide_eq_true hb) | (cases h;done)
  cases h
 .split at h
  .cases h
  split at h<;>first | (cases h;trivial) | (cases h;done)
 cases h
def rU (i:Option TyI) (x:PV):Bool:=match i with | some i=>decide (x.cells.length=i.size/\0<i.size) | none=>false
def kB (H:List Ob) (i:Option TyI) (a:PV):Bool:=match i,a with
 | some i,.ptr id j off=>AY H id j off i.size
 | some i,.fv (.fp cs)=>decide (i.size<=cs.length)
 | _,_=>false
def gU (H:List Ob) (i:Option TyI) (a x:PV):Bool:=match i,a with
 | some i,.ptr id j off=>Fi H id j off x.cells&&decide (x.cells.length=i.size/\0<i.size)
 | _,_=>false
def kC (T:Tab) (i:Option TyI) (l c:PV):Bool:=match i,l,c with
 | some i,.fv (.lit (.int _ n)),.fv (.lit (.int _ m))=>match i.d with
  | .sl e=>match T.at e with
   | some ie=>decide (0<=n/\(n=m\/(vH ie.zero=false/\n<=m))/\m*ie.bytes<=140737488355328/\m<=140737488355328)
   | none=>false
  | _=>false
 | _,_,_=>false
def fZ (T:Tab) (H:List Ob) (i:Option TyI) (x:PV) (lo hi mx:Option PV):Bool:=match i with
 | some i=>match i.d,mx with
  | .sl e,none=>match T.at e,x with
   | some _,.lsl id off len _=>rT lo hi len (room H id off len lo hi)
   | some ie,.fv (.sl xs)=>rT lo hi xs.length xs.length&&xs.all (fun y=>y.length==ie.size)
   | some ie,.clip xs=>rT lo hi xs.length xs.length&&xs.all (fun y=>y.length==ie.size)
   | _,_=>false
  | .sl _,some mv=>match ma x,cS lo 0,XB hi,mv.asInt with
   | some len,some (_,l),some h,some m=>n7 lo&&decide (0<=h/\h<=m/\l<=h.toNat/\m<=len)
   | _,_,_,_=>false
  | .arr n e,_=>match T.at e,x,cS lo 0,cS hi n,cS mx n with
   | some ie,.ptr id _ off,some (_,l),some (_,h),some (_,m)=>
    match H[id]? with
    | some (.box _ cs)=>n7 lo&&n7 hi&&n7 mx&&decide (l<=h/\h<=m/\m<=n/\off+n*ie.size<=cs.length)
    | _=>false
   | _,_,_,_,_=>false
  | _,_=>false
 | none=>false
def cV (i:Option TyI) (x:PV) (f:Nat):Bool:=match i with
 | some i=>match i.d with
  | .st fs=>match fs[f]?,x with
   | some _,.ptr _ _ _=>true
   | some fd,.fv (.fp cs)=>decide (fd.off+fd.size<=cs.length)
   | _,_=>false
  | _=>false
 | none=>false
def gV (i:Option TyI) (x:PV) (f:Nat):Bool:=match i with
 | some i=>match i.d with
  | .st fs=>match fs[f]?,x with
   | some fd,.agg cs=>if fd.agg then decide (fd.off+fd.size<=cs.length) else decide (fd.off<cs.length)
   | _,_=>false
  | _=>false
 | none=>false
def cW (T:Tab) (i:Option TyI) (x:PV) (ix:Option Int):Bool:=match i,ix with
 | some i,some n=>match i.d with
  | .sl e=>match T.at e,x with
   | some _,.lsl _ _ len _=>decide (0<=n/\n<len)
   | some ie,.fv (.sl xs)=>decide (0<=n/\n<xs.length/\(xs.getD n.toNat []).length=ie.size/\0<ie.size)
   | some ie,.clip xs=>decide (0<=n/\n<xs.length/\(xs.getD n.toNat []).length=ie.size/\0<ie.size)
   | _,_=>false
  | .arr k e=>match T.at e,x with
   | some _,.ptr _ _ _=>decide (0<=n/\n<k)
   | some ie,.fv (.fp cs)=>decide (0<=n/\n<k/\n.toNat*ie.size+ie.size<=cs.length/\0<ie.size)
   | _,_=>false
  | _=>false
 | _,_=>false
def gW (T:Tab) (i:Option TyI) (x:PV) (ix:Option Int):Bool:=match i,ix with
 | some i,some n=>match i.d with
  | .arr k e=>match T.at e,x with
   | some ie,.agg cs=>decide (0<=n/\n<k/\n.toNat*ie.size+ie.size<=cs.length)
   | _,_=>false
  | .str=>match x with
   | .fv (.lit (.string s))=>decide (0<=n/\n<(s.size:Int))
   | _=>false
  | _=>false
 | _,_=>false
def jj (ks:Option (List Int)):Bool:=match ks with | some ks=>ks.all (fun x=>decide (-9223372036854775808<=x/\x<9223372036854775808)) | none=>false
def kD (T:Tab) (H:List Ob) (ρ:Operand->PV) (o:Op):Bool:=match o with
 | .box t x=>rU (T.at t) (ρ x)
 | .load t a=>kB H (T.at t) (ρ a)
 | .store t a x=>gU H (T.at t) (ρ a) (ρ x)
 | .binOp op _ _ y _=>QJ op (ρ y)
 | .makeSlice t l c=>kC T (T.at t) (ρ l) (ρ c)
 | .slice t x lo hi mx=>fZ T H (T.at t) (ρ x) (lo.map ρ) (hi.map ρ) (mx.map ρ)
 | .fieldAddr t x f=>cV (T.at t) (ρ x) f
 | .field t x f=>gV (T.at t) (ρ x) f
 | .indexAddr t x ix=>cW T (T.at t) (ρ x) (ρ ix).asInt
 | .index t x ix=>gW T (T.at t) (ρ x) (ρ ix).asInt
 | .lookup _ _ k _=>jj (i5 (ρ k))
 | .mapUpdate _ _ k _=>jj (i5 (ρ k))
 | _=>true
theorem Res.pure_cond {H:List Ob} {v:PV} {r:Res} (h:Res.pure H v=some r):r.cond:=by
 unfold Res.pure at h;cases h;trivial
theorem Res.if_cond {c:Prop} {H:List Ob} {v:PV} {r:Res} (h:Res.if c H v=some r) (hc:c):r.cond:=by
 unfold Res.if at h;cases h;exact hc
theorem MX {T:Tab} {H:List Ob} {ρ:Operand->PV} {o:Op} {r:Res} (h:aP T H ρ o=some r) (hb:kD T H ρ o=true):r.cond:=by
 cases o with
 | move x=>exact Res.pure_cond h
 | assign x=>exact Res.pure_cond h
 | pick c a b=>
  simp only[aP] at h;split at h
  .exact Res.pure_cond h
  .cases h
 | alloc t=>
  simp only[aP] at h;split at h
  .cases h;trivial
  .cases h
 | box t x=>
  simp only[aP] at h;simp only[kD,rU,kB,gU,kC,fZ,cV,gV,cW,gW,jj] at hb;split at h
  .rename_i i hi;rw[hi] at hb;cases h;exact of_decide_eq_true hb
  .cases h
 | build t parts=>
  simp only[aP] at h
  repeat' split at h
  all_goals first | exact Res.pure_cond h | (cases h;done)
 | buildSlice t len parts=>
  simp only[aP] at h
  repeat' split at h
  all_goals first | (cases h;trivial) | (cases h;done)
 | load t a=>
  simp only[aP] at h;simp only[kD,rU,kB,gU,kC,fZ,cV,gV,cW,gW,jj] at hb;split at h
  .rename_i i hi;rw[hi] at hb
   try simp only[Option.map_none,Option.map_some] at hb
   split at h
   .rename_i id j off ha;rw[ha] at hb
    try simp only[Option.map_none,Option.map_some] at hb
    repeat' split at h
    all_goals first | exact Res.if_cond h (zJ (by assumption) hb) | (cases h;done)
   .rename_i cs ha;rw[ha] at hb
    try simp only[Option.map_none,Option.map_some] at hb
    repeat' split at h
    all_goals first | exact Res.if_cond h (of_decide_eq_true hb) | (cases h;done)
   cases h
  .cases h
 | store t a x=>
  simp only[aP] at h;simp only[kD,rU,kB,gU,kC,fZ,cV,gV,cW,gW,jj] at hb;split at h
  .rename_i i hi;rw[hi] at hb
   try simp only[Option.map_none,Option.map_some] at hb
   split at h
   .rename_i id j off ha;rw[ha] at hb;simp only[hG] at hb;split at h
    .rename_i cd H' bQ;cases h;exact⟨JC bQ hb.1,of_decide_eq_true hb.2⟩
    cases h
   cases h
  .cases h
 | nilCheck x=>
  simp only[aP] at h;split at h
  .exact Res.pure_cond h
  .exact Res.pure_cond h
  .cases h
 | binOp op t x y ty=>
  simp only[aP] at h;simp only[kD,rU,kB,gU,kC,fZ,cV,gV,cW,gW,jj] at hb;split at h
  .rename_i c v hv;exact Res.if_cond h (QK hv hb)
  .repeat' split at h
   all_goals first | exact Res.pure_cond h | (cases h;done)
 | unOp op t x=>
  simp only[aP] at h;split at h
  .exact Res.pure_cond h
  .cases h
 | convert s d x=>
  simp only[aP] at h
  repeat' split at h
  all_goals first | exact Res.pure_cond h | (cases h;done)
 | makeSlice t l c=>
  simp only[aP] at h;simp only[kD,rU,kB,gU,kC,fZ,cV,gV,cW,gW,jj] at hb;split at h
  .rename_i i k n k' m h1 h2 h3;rw[h1,h2,h3] at hb
   try simp only[Option.map_none,Option.map_some] at hb
   split at h
   .rename_i e he;rw[he] at hb
    try simp only[Option.map_none,Option.map_some] at hb
    split at h
    .rename_i ie iZ;rw[iZ] at hb;have hb:=of_decide_eq_true hb
     repeat' split at h
     .rename_i hz;cases h;exact⟨hb.1,hb.2.1.resolve_right (fun h2=>by rw[hz] at h2;exact absurd h2.1 (by decide)),hb.2.2⟩
     .cases h;refine⟨hb.1,?_,hb.2.2⟩;rcases hb.2.1 with h2 | h2
      .omega
      exact h2.2
     all_goals (cases h;done)
    cases h
   cases h
  .cases h
 | slice t x lo hi mx=>
  simp only[aP] at h;simp only[kD,rU,kB,gU,kC,fZ,cV,gV,cW,gW,jj] at hb;split at h
  .rename_i i hi;rw[hi] at hb
   try simp only[Option.map_none,Option.map_some] at hb
   split at h
   .rename_i e he;rw[he] at hb
    try simp only[Option.map_none,Option.map_some] at hb
    split at h
    .rename_i ie id off len s h1 h2;rw[h1,h2] at hb
     try simp only[Option.map_none,Option.map_some] at hb
     split at h
     .split at h
      .exact Res.if_cond h (qc (by assumption) (by assumption) hb)
      cases h
     cases h
    .rename_i ie xs h1 h2;rw[h1,h2] at hb;simp only[hG,nF,beq_iff_eq] at hb;split at h
     .have:=qc (by assumption) (by assumption) hb.1;exact Res.if_cond h ⟨this.1,this.2.1,this.2.2.1,this.2.2.2,hb.2⟩
     cases h
    .rename_i ie xs h1 h2;rw[h1,h2] at hb;simp only[hG,nF,beq_iff_eq] at hb;split at h
     .have:=qc (by assumption) (by assumption) hb.1;exact Res.if_cond h ⟨this.1,this.2.1,this.2.2.1,this.2.2.2,hb.2⟩
     cases h
    cases h
   .rename_i e mv he;rw[he] at hb
    try simp only[Option.map_none,Option.map_some] at hb
    split at h
    .rename_i ie len c1 l hh m h1 h2 h3 h4 h5;rw[h2,h3,h4,h5] at hb;simp only[hG] at hb;have:=of_decide_eq_true hb.2;exact Res.if_cond h ⟨jC h3 hb.1,this⟩
    cases h
   .rename_i n e he;rw[he] at hb
    try simp only[Option.map_none,Option.map_some] at hb
    split at h
    .rename_i ie id j off c1 l c2 hh c3 m h1 h2 h3 h4 h5;rw[h1,h2,h3,h4,h5] at hb
     try simp only[Option.map_none,Option.map_some] at hb
     split at h
     .rename_i r cs hx;rw[hx] at hb;simp only[hG] at hb;have:=of_decide_eq_true hb.2;have hb:=hb.1
      repeat' split at h
      all_goals first | (cases h;exact⟨jC h3 hb.1.1,jC h4 hb.1.2,jC h5 hb.2,this⟩) | (cases h;done)
     cases h
    cases h
   cases h
  .cases h
 | fieldAddr t x f=>
  simp only[aP] at h;simp only[kD,rU,kB,gU,kC,fZ,cV,gV,cW,gW,jj] at hb;split at h
  .rename_i i hi;rw[hi] at hb
   try simp only[Option.map_none,Option.map_some] at hb
   split at h
   .rename_i fs xM;rw[xM] at hb
    try simp only[Option.map_none,Option.map_some] at hb
    split at h
    .exact Res.pure_cond h
    .rename_i fd cs h1 h2;rw[h1,h2] at hb;exact Res.if_cond h (of_decide_eq_true hb)
    cases h
   cases h
  .cases h
 | field t x f=>
  simp only[aP] at h;simp only[kD,rU,kB,gU,kC,fZ,cV,gV,cW,gW,jj] at hb;split at h
  .rename_i i hi;rw[hi] at hb
   try simp only[Option.map_none,Option.map_some] at hb
   split at h
   .rename_i fs xM;rw[xM] at hb
    try simp only[Option.map_none,Option.map_some] at hb
    split at h
    .rename_i fd cs h1 h2;rw[h1,h2] at hb
     try simp only[Option.map_none,Option.map_some] at hb
     split at h
     .rename_i ha;rw[if_pos ha] at hb;exact Res.if_cond h (of_decide_eq_true hb)
     rename_i ha;rw[if_neg ha] at hb;split at h
     .exact Res.if_cond h (of_decide_eq_true hb)
     cases h
    cases h
   cases h
  .cases h
 | indexAddr t x ix=>
  simp only[aP] at h;simp only[kD,rU,kB,gU,kC,fZ,cV,gV,cW,gW,jj] at hb;split at h
  .rename_i i n h1 h2;rw[h1,h2] at hb
   try simp only[Option.map_none,Option.map_some] at hb
   split at h
   .rename_i e he;rw[he] at hb
    try simp only[Option.map_none,Option.map_some] at hb
    split at h
    .rename_i ie id off len s h3 h4;rw[h3,h4] at hb;split at h
     .exact Res.if_cond h (of_decide_eq_true hb)
     cases h
    .rename_i ie xs h3 h4;rw[h3,h4] at hb;exact Res.if_cond h (of_decide_eq_true hb)
    .rename_i ie xs h3 h4;rw[h3,h4] at hb;exact Res.if_cond h (of_decide_eq_true hb)
    cases h
   .rename_i k e he;rw[he] at hb
    try simp only[Option.map_none,Option.map_some] at hb
    split at h
    .rename_i ie id j off h3 h4;rw[h3,h4] at hb;split at h
     .exact Res.if_cond h (of_decide_eq_true hb)
     cases h
    .rename_i ie cs h3 h4;rw[h3,h4] at hb;split at h
     .exact Res.if_cond h (of_decide_eq_true hb)
     cases h
    cases h
   cases h
  .cases h
 | index t x ix=>
  simp only[aP] at h;simp only[kD,rU,kB,gU,kC,fZ,cV,gV,cW,gW,jj] at hb;split at h
  .rename_i i n h1 h2;rw[h1,h2] at hb
   try simp only[Option.map_none,Option.map_some] at hb
   split at h
   .rename_i k e he;rw[he] at hb
    try simp only[Option.map_none,Option.map_some] at hb
    split at h
    .rename_i ie cs h3 h4;rw[h3,h4] at hb;split at h
     .exact Res.if_cond h (of_decide_eq_true hb)
     cases h
    cases h
   .rename_i he;rw[he] at hb
    try simp only[Option.map_none,Option.map_some] at hb
    split at h
    .rename_i s hs;rw[hs] at hb;exact Res.if_cond h (of_decide_eq_true hb)
    cases h
   cases h
  .cases h
 | extract x ix=>
  simp only[aP] at h
  repeat' split at h
  all_goals first | exact Res.pure_cond h | (cases h;done)
 | makeMap t c=>
  cases c with
  | none=>
   simp only[aP] at h
   repeat' split at h
   all_goals first | (cases h;trivial) | (cases h;done)
  | some c=>simp only[aP] at h;cases h
 | lookup t m k ok=>
  simp only[aP] at h;simp only[kD,rU,kB,gU,kC,fZ,cV,gV,cW,gW,jj] at hb;split at h
  .rename_i i id ks h1 h2 h3;rw[h3] at hb;simp only[nF,decide_eq_true_eq] at hb
   repeat' split at h
   all_goals first | exact Res.if_cond h hb | (cases h;done)
  .cases h
 | mapUpdate t m k x=>
  simp only[aP] at h;simp only[kD,rU,kB,gU,kC,fZ,cV,gV,cW,gW,jj] at hb;split at h
  .rename_i i id ks h1 h2 h3;rw[h3] at hb;simp only[nF,decide_eq_true_eq] at hb
   repeat' split at h
   all_goals first | (cases h;exact hb) | (cases h;done)
  .cases h
 | makeFunc fn first captured=>
  simp only[aP] at h
  repeat' split at h
  all_goals first | (cases h;trivial) | (cases h;done)
 | _=>simp only[aP] at h;cases h
def wM (ids:List Nat) (H:List Ob):Bool:=ids.all (fun id=>match H[id]? with | some o=>!o.rw | none=>true)
theorem QL {o:Ob} (h:o.rw=false):o.ro=o:=by
 cases o with
 | dead=>rfl
 | row r xs=>simp only[Ob.rw] at h;subst h;rfl
 | box r cs=>simp only[Ob.rw] at h;subst h;rfl
 | tab n es=>cases h
theorem JD {H:List Ob} {id:Nat} (h: ∀ o,H[id]?=some o->o.rw=false):shut H id=H:=by
 unfold shut;apply List.ext_getElem?;intro j;by_cases hj:id=j
 .subst hj;rw[List.getElem?_modify_eq];cases ho:H[id]? with
  | none=>rfl
  | some o=>exact congrArg some (QL (h o ho))
 rw[List.getElem?_modify_ne _ _ hj]
theorem lN {H:List Ob}: ∀ {ids:List Nat},wM ids H=true->shutIds ids H=H
 | [],_=>rfl
 | id::ids,h=>by
  unfold wM at h;rw[List.all_cons,hG] at h;have h1:shut H id=H:=JD (fun o ho=>by
   have:=h.1;rw[ho] at this;simpa using this)
  show shutIds ids (shut H id)=H;rw[h1];exact lN h.2
theorem rV {id:Nat}: ∀ {ids:List Nat} {F:List Ob},ids.contains id=false->(shutIds ids F)[id]?=F[id]?
 | [],F,_=>rfl
 | a::ids,F,h=>by
  rw[List.contains_cons,Bool.or_eq_false_iff,qx] at h;show(shutIds ids (shut F a))[id]?=_;rw[rV h.2];unfold shut;rw[List.getElem?_modify_ne _ _ (fun e=>h.1 e.symm)]
def uc (T:Tab) (H:List Ob) (ρ:Operand->PV) (o:Op):Bool:=match o with
 | .buildSlice t len parts=>match T.at t with
  | some i=>match i.d with
   | .sl e=>match T.at e with
    | some ie=>
     match kd (fun j=>some (j*ie.size,ie.size)) (replicate len ie.zero).flatten (parts.toList.map fun(j,x)=>(j,ρ x)) with
     | some cs=>wM (cs.flatMap eu) H
     | none=>false
    | none=>false
   | _=>false
  | none=>false
 | .slice t x _ _ _=>match T.at t with
  | some i=>match i.d with
   | .sl _=>true
   | .arr n e=>match T.at e,ρ x with
    | some ie,.ptr id _ off=>match H[id]? with
     | some (.box _ cs)=>wM (id::((cs.drop off).take (n*ie.size)).flatMap eu) H
     | _=>false
    | _,_=>false
   | _=>false
  | none=>false
 | .makeFunc _ first captured=>wM ((first.toList.map ρ++captured.toList.map ρ).flatMap (j7 H)) H
 | .store .. | .mapUpdate .. | .call _=>false
 | _=>true
theorem Res.pure_heap {H:List Ob} {v:PV} {r:Res} (h:Res.pure H v=some r): ∃ obs,r.heap=H++obs:=by
 unfold Res.pure at h;cases h;exact⟨[],by simp⟩
theorem Res.if_heap {c:Prop} {H:List Ob} {v:PV} {r:Res} (h:Res.if c H v=some r): ∃ obs,r.heap=H++obs:=by
 unfold Res.if at h;cases h;exact⟨[],by simp⟩
theorem MY {T:Tab} {H:List Ob} {ρ:Operand->PV} {o:Op} {r:Res} (h:aP T H ρ o=some r) (hb:uc T H ρ o=true): ∃ obs,r.heap=H++obs:=by
 cases o with
 | buildSlice t len parts=>
  simp only[aP] at h;simp only[uc] at hb;split at h
  .rename_i i hi;rw[hi] at hb
   try simp only at hb
   split at h
   .rename_i e he;rw[he] at hb
    try simp only at hb
    split at h
    .rename_i ie iZ;rw[iZ] at hb
     try simp only at hb
     split at h
     .rename_i cs f_;rw[f_] at hb
      try simp only at hb
      repeat' split at h
      .cases h;exact⟨_,by unfold ft;rw[lN hb]⟩
      all_goals (cases h;done)
     cases h
    cases h
   cases h
  .cases h
 | slice t x lo hi mx=>
  simp only[aP] at h;simp only[uc] at hb;split at h
  .rename_i i hi;rw[hi] at hb
   try simp only at hb
   split at h
   .rename_i e he
    repeat' split at h
    all_goals first | exact Res.if_heap h | (cases h;done)
   .rename_i e mv he
    repeat' split at h
    all_goals first | exact Res.if_heap h | (cases h;done)
   .rename_i n e he;rw[he] at hb
    try simp only at hb
    split at h
    .rename_i ie id j off c1 l c2 hh c3 m h1 h2 h3 h4 h5;rw[h1,h2] at hb
     try simp only at hb
     split at h
     .rename_i r cs hx;rw[hx] at hb
      try simp only at hb
      repeat' split at h
      all_goals first | (cases h;exact⟨[],by rw[append_nil];exact lN hb⟩) | (cases h;done)
     cases h
    cases h
   cases h
  .cases h
 | makeFunc fn first captured=>
  simp only[aP] at h;simp only[uc] at hb
  repeat' split at h
  all_goals first | (cases h;exact⟨[],by rw[append_nil];exact lN hb⟩) | (cases h;exact⟨[],by simp⟩) | (cases h;done)
 | store t a x=>cases hb
 | mapUpdate t m k x=>cases hb
 | call c=>cases hb
 | makeMap t c=>
  cases c with
  | none=>
   simp only[aP] at h
   repeat' split at h
   all_goals first | (cases h;exact⟨_,rfl⟩) | (cases h;done)
  | some c=>simp only[aP] at h;cases h
 | _=>
  simp only[aP] at h
  repeat' split at h
  all_goals first | exact Res.pure_heap h | exact Res.if_heap h | (cases h;exact⟨_,rfl⟩) | (cases h;done)
def MZ (H:List Ob) (size:Nat):PV->Bool
 | .fv (.sl xs)=>xs.all (fun y=>y.length==size)
 | .clip xs=>xs.all (fun y=>y.length==size)
 | .lsl id off len s=>match H[id]? with
  | some (.row _ xs)=>if s=size then decide (off+len<=xs.length) else true
  | _=>true
 | _=>true
theorem QM {H:List Ob} {size:Nat} {x:PV} {c:Prop} {ys:List (List FV)} (h:ir H size x=some (c,ys)) (hb:MZ H size x=true):c:=by
 unfold ir at h;split at h
 .cases h;simpa [MZ] using hb
 .cases h;trivial
 .cases h;trivial
 .cases h;simpa [MZ] using hb
 .split at h
  .rename_i r xs hx;split at h
   .rename_i hs;cases h;simp only[MZ,hx,if_pos hs] at hb;exact of_decide_eq_true hb
   cases h
  cases h
 cases h
def mF (T:Tab) (H:List Ob) (b:Builtin) (ts:List TypeId) (vs:List PV):Bool:=match b,ts,vs with
 | .append,[t,_],[s,x]=>match T.at t with
  | some i=>match i.d with
   | .sl e=>match T.at e with
    | some ie=>MZ H ie.size x&&(match ir H ie.size x with
     | some (_,ys)=>match s with
      | .nilsl=>decide (ys.length*ie.bytes<=140737488355328/\ys.length<=140737488355328)
      | .clip xs=>Dk x||(decide (0<ys.length)&&xs.all (fun y=>y.length==ie.size)&&decide ((xs.length+ys.length)*ie.bytes<=140737488355328/\xs.length+ys.length<=140737488355328))
      | .lsl id 0 len _=>match H[id]? with
       | some (.row true xs)=>if HX id x then decide (len+ys.length<=xs.length) else decide (len<=xs.length/\(len+ys.length)*ie.bytes<=140737488355328/\len+ys.length<=140737488355328)
       | _=>false
      | _=>false
     | none=>false)
    | none=>false
   | _=>false
  | none=>false
 | .clear,[_],[.lsl id off len _]=>match H[id]? with
  | some (.row true xs)=>decide (off+len<=xs.length)
  | _=>false
 | .append,_,_=>false
 | .clear,_,_=>false
 | _,_,_=>true
def M0 (b:Builtin) (vs:List PV):Bool:=match b,vs with
 | .append,.nilsl::_=>true
 | .append,.clip _::_=>true
 | .append,_=>false
 | .clear,_=>false
 | _,_=>true
theorem aaF {T:Tab} {H:List Ob} {b:Builtin} {ts:List TypeId} {vs:List PV} {r:Res} (h:fK T H b ts vs=some r):(mF T H b ts vs=true->r.cond)/\(M0 b vs=true-> ∃ obs,r.heap=H++obs):=by
 unfold fK at h;split at h
 .repeat' split at h
  all_goals first | exact⟨fun _=>Res.pure_cond h,fun _=>Res.pure_heap h⟩ | (cases h;done)
 .rename_i t t' s x;split at h
  .split at h
   .rename_i i hi;split at h
    .rename_i e he;split at h
     .rename_i ie iZ;split at h
      .split at h
       .rename_i cd ys vE;have hc:mF T H .append [t,t'] [s,x]=true->cd:=fun hb=>by
         unfold mF at hb;simp only[hi,he,iZ,hG] at hb;exact QM vE hb.1
        split at h
        .cases h;refine⟨fun hb=>?_,fun _=>⟨_,rfl⟩⟩;have h1:=hc hb;unfold mF at hb;simp only[hi,he,iZ,vE,hG] at hb;exact⟨h1,of_decide_eq_true hb.2⟩
        .rename_i xs;split at h
         .cases h;exact⟨fun _=>trivial,fun _=>⟨[],by simp⟩⟩
         rename_i hn;cases h;refine⟨fun hb=>?_,fun _=>⟨_,rfl⟩⟩;have h1:=hc hb;unfold mF at hb;simp only[hi,he,iZ,vE,hG,EL,hn,nF,beq_iff_eq] at hb;have h2:=hb.2;simp only[Bool.false_eq_true,false_or,decide_eq_true_eq] at h2;exact⟨h1,h2.1.1,h2.1.2,h2.2.1,h2.2.2⟩
        .rename_i id len s';split at h
         .rename_i xs hx;split at h
          .split at h
           .rename_i hs;cases h;refine⟨fun hb=>?_,fun hg=>by cases hg⟩;have h1:=hc hb;unfold mF at hb;simp only[hi,he,iZ,vE,hx,hG,hs,if_true] at hb;exact⟨h1,of_decide_eq_true hb.2⟩
           rename_i hs;cases h;refine⟨fun hb=>?_,fun hg=>by cases hg⟩;have h1:=hc hb;unfold mF at hb;simp only[hi,he,iZ,vE,hx,hG,if_neg hs] at hb;exact⟨h1,of_decide_eq_true hb.2⟩
          cases h
         cases h
        cases h
       cases h
      cases h
     cases h
    cases h
   cases h
  cases h
 .repeat' split at h
  all_goals first | exact⟨fun _=>Res.pure_cond h,fun _=>Res.pure_heap h⟩ | (cases h;done)
 .repeat' split at h
  all_goals first | exact⟨fun _=>Res.pure_cond h,fun _=>Res.pure_heap h⟩ | (cases h;done)
 .repeat' split at h
  all_goals first
   | (cases h;done)
   | skip
  rename_i xs hx hs;cases h;refine⟨fun hb=>?_,fun hg=>by cases hg⟩;unfold mF at hb;simp only[hx] at hb;exact of_decide_eq_true hb
 cases h
def vr:Ob->Bool
 | .box _ cs=>cs.all (fun c=>match c with | .fv _=>true | _=>false)
 | _=>true
theorem wN {o:Ob} (h:vr o=true):o.closed:=by
 cases o with
 | box r cs=>
  intro c hc;simp only[vr,nF] at h;have:=h c hc;split at this
  .exact⟨_,rfl⟩
  .cases this
 | _=>trivial
def M4 (args:List PV):Option Nat:=args.findSome? (fun v=>match v with | .lsl id _ _ _=>some id | .ptr id _ _=>some id | _=>none)
abbrev Ez:=FuncId->List Ob->List PV->Option (List Ob×PV)
def M5 (T:Tab) (E:Ez) (lf:FuncId->Nat) (c:Call) (st:St):Option (PV×List Ob×Bool):=match c.callee with
 | .builtin b=>match fK T st.heap b c.argTypes.toList (c.args.toList.map (ev st.env)) with
  | some r=>if mF T st.heap b c.argTypes.toList (c.args.toList.map (ev st.env)) then some (r.val,r.heap,M0 b (c.args.toList.map (ev st.env))) else none
  | none=>none
 | .value f=>match A5 (ev st.env f) with
  | some (k,pre,post)=>if Nat.beq (lf k) 1&&(M4 (pre++c.args.toList.map (ev st.env)++post)).isSome then
   (match M4 (pre++c.args.toList.map (ev st.env)++post) with
   | some id=>match st.heap[id]? with
    | some ob=>if ob.rw&&vr ob&&(pre++c.args.toList.map (ev st.env)++post).any (PV.refsTo id)&&!(((pre++c.args.toList.map (ev st.env)++post).flatMap (tf st.heap id)).contains id) then
     (match te st.heap id (pre++c.args.toList.map (ev st.env)++post) with
     | some args'=>match E k [ob] args' with
      | some (ob'::obs,res)=>some (reloc (lent id st.heap.length) res,(shutBs st.heap id (pre++c.args.toList.map (ev st.env)++post)).set id (relocOb (lent id st.heap.length) ob')++obs.map (relocOb (lent id st.heap.length)),false)
      | _=>none
     | none=>none) else none
    | none=>none
   | none=>none)
   else if Nat.beq (lf k) 2 then(match Fu st.heap (pre++c.args.toList.map (ev st.env)++post) with
    | some args'=>match E k [] args' with
     | some (obs,res)=>some (reloc (st.heap.length+ ·) res,shutAs st.heap (pre++c.args.toList.map (ev st.env)++post)++obs.map (relocOb (st.heap.length+ ·)),wM ((pre++c.args.toList.map (ev st.env)++post).flatMap (jb st.heap)) st.heap)
     | none=>none
    | none=>none)
   else(match bH st.heap (pre++c.args.toList.map (ev st.env)++post) with
    | some args'=>match E k [] args' with
     | some (obs,res)=>some (reloc (st.heap.length+ ·) res,shutAs st.heap (pre++c.args.toList.map (ev st.env)++post)++obs.map (relocOb (st.heap.length+ ·)),wM ((pre++c.args.toList.map (ev st.env)++post).flatMap (jb st.heap)) st.heap)
     | none=>none
    | none=>none)
  | none=>none
 | .invoke ..=>none
noncomputable def aaG (l:List PV) (n:Nat):PV:=List.rec (motive:=fun _=>Nat->PV) (fun _=> .any) (fun a _ ih n=>Nat.rec (motive:=fun _=>PV) a (fun m _=>ih m) n) l n
theorem HK: ∀ (l:List PV) (n:Nat),aaG l n=l.getD n .any
 | [],_=>rfl
 | _::_,0=>rfl
 | _::l,n+1=>HK l n
noncomputable def aaH (l:List PV) (n:Nat) (v:PV):List PV:=List.rec (motive:=fun _=>Nat->List PV) (fun _=>[]) (fun a l ih n=>Nat.rec (motive:=fun _=>List PV) (v::l) (fun m _=>a::ih m) n) l n
theorem HL: ∀ (l:List PV) (n:Nat) (v:PV),aaH l n v=l.set n v
 | [],_,_=>rfl
 | _::_,0,_=>rfl
 | a::l,n+1,v=>congrArg (a:: ·) (HL l n v)
noncomputable def atF (T:Tab) (t:Nat):Option TyI:=List.rec (motive:=fun _=>Option TyI) none (fun e _ ih=>Bool.rec (motive:=fun _=>Option TyI) ih (some e.2) (Nat.beq e.1 t)) T
theorem M6: ∀ (T:Tab) (t:Nat),atF T t=T.at t
 | [],_=>rfl
 | e::T,t=>by
  show(Bool.rec (atF T t) (some e.2) (Nat.beq e.1 t):Option TyI)=Option.map (·.2) (List.find? (fun e=>e.1==t) (e::T));rw[M6 T t,List.find?_cons];have:(e.1==t)=Nat.beq e.1 t:=Bool.eq_iff_iff.2 (by simp[Nat.beq_eq]);rw[this];cases Nat.beq e.1 t<;>rfl
noncomputable def evF (env:List PV):Operand->PV
 | .tmp t=>aaG env t
 | .const v=>PV.ofValue v
 | .global _=> .any
 | .func f=> .fv (.lit (.func (.func f) #[] #[]))
theorem M7 (env:List PV):evF env=ev env:=by
 funext x;cases x with
 | tmp t=>exact HK env t
 | _=>rfl
def done (r:Option Res) (c g:Bool):Option (PV×List Ob×Bool):=match r with
 | some r=>if c then some (r.val,r.heap,g) else none
 | none=>none
def QN (A:Nat->Option TyI) (t:Nat):Bool:=match A t with | some i=>(match i.d with | .bool=>true | _=>false) | none=>false
def opG (A:Nat->Option TyI) (T:Tab) (o:Op) (ρ:Operand->PV) (H:List Ob):Option (PV×List Ob×Bool):=match o with
 | .move x=>some (ρ x,H,true)
 | .assign x=>some (ρ x,H,true)
 | .pick c a b=>done (NY H (ρ c) (ρ a) (ρ b)) true true
 | .alloc t=>done (FX H (A t)) true true
 | .box t x=>done (VO H (A t) (ρ x)) (rU (A t) (ρ x)) true
 | .build t l=>done (FY H (A t) (l.toList.map fun(j,x)=>(j,ρ x))) true true
 | .buildSlice t n l=>done (om T H (A t) n (l.toList.map fun(j,x)=>(j,ρ x))) true (uc T H (ρ) (.buildSlice t n l))
 | .load t a=>done (N1 H (A t) (ρ a)) (kB H (A t) (ρ a)) true
 | .store t a x=>done (F0 H (A t) (ρ a) (ρ x)) (gU H (A t) (ρ a) (ρ x)) false
 | .nilCheck x=>done (VQ H (ρ x)) true true
 | .binOp op t x y _=>done (Rx H (EM (QN A t) op (ρ x) (ρ y)) (N3 H (T.isSl t) (La op (ρ x) (ρ y)) (IC (T.arN t) op (i5 (ρ x)) (i5 (ρ y)))) ⟨⟩) (QJ op (ρ y)) true
 | .unOp op _ x=>done (rUn H (Yh op (ρ x))) true true
 | .convert a b x=>done (N5 H (A a) (A b) (ρ x)) true true
 | .makeSlice t l c=>done (N6 T H (A t) (ρ l) (ρ c)) (kC T (A t) (ρ l) (ρ c)) true
 | .slice t x lo hi mx=>done (xu T H (A t) (ρ x) (lo.map (ρ)) (hi.map (ρ)) (mx.map (ρ))) (fZ T H (A t) (ρ x) (lo.map (ρ)) (hi.map (ρ)) (mx.map (ρ))) (uc T H (ρ) (.slice t x lo hi mx))
 | .fieldAddr t x f=>done (qJ H (A t) (ρ x) f) (cV (A t) (ρ x) f) true
 | .field t x f=>done (F2 H (A t) (ρ x) f) (gV (A t) (ρ x) f) true
 | .indexAddr t x ix=>done (qK T H (A t) (ρ x) (ρ ix).asInt) (cW T (A t) (ρ x) (ρ ix).asInt) true
 | .index t x ix=>done (F3 T H (A t) (ρ x) (ρ ix).asInt) (gW T (A t) (ρ x) (ρ ix).asInt) true
 | .extract x ix=>done (xv H (ρ x) ix) true true
 | .makeMap t none=>done (xt H (A t)) true true
 | .lookup t m k ok=>done (Bu H (A t) (ρ m) (i5 (ρ k)) ok) (jj (i5 (ρ k))) true
 | .mapUpdate t m k x=>done (qI H (A t) (ρ m) (i5 (ρ k)) (ρ x)) (jj (i5 (ρ k))) false
 | .makeFunc fn l1 l2=>done (tx H fn (l1.toList.map (ρ)) (l2.toList.map (ρ))) true (uc T H (ρ) (.makeFunc fn l1 l2))
 | _=>none
noncomputable def opF (T:Tab) (o:Op) (env:List PV) (H:List Ob):Option (PV×List Ob×Bool):=opG (atF T) T o (evF env) H
theorem Vj {T:Tab} {o:Op} {env:List PV} {H:List Ob} {v:PV} {H':List Ob} {g:Bool} (h:opF T o env H=some (v,H',g)):
 ∃ r,aP T H (ev env) o=some r/\r.cond/\r.val=v/\r.heap=H'/\(g=true-> ∃ obs,H'=H++obs):=by
 have key:done (aP T H (ev env) o) (kD T H (ev env) o) (uc T H (ev env) o)=some (v,H',g):=by
  unfold opF at h;rw[M7,show atF T=T.at from funext (M6 T)] at h;cases o with
  | slice t x lo hi mx=>
   rw[<-h];show done _ (fZ ..) _=done _ (fZ ..) _;congr 1;simp only[aP,xu];cases T.at t with
   | none=>rfl
   | some i=>
    dsimp only;cases i.d<;>cases mx<;>cases hi<;>rfl
  | makeMap t c=>cases c with
   | none=>exact h
   | some c=>cases h
  | _=>first | exact h | (cases h;done)
 unfold done at key
 split at key
 .rename_i r hr
  split at key
  .rename_i hc
   cases key
   exact⟨r,hr,MX hr hc,rfl,rfl,fun e=>MY hr e⟩
  cases key
 cases key
noncomputable def opB (T:Tab) (E:Ez) (lf:FuncId->Nat) (o:Op) (st:St):Option (PV×List Ob×Bool):=match o with
 | .call c=>M5 T E lf c st
 | op=>opF T op st.env st.heap
def rX (P:Program) (E:Ez):Prop:= ∀ k H0 args H1 res,E k H0 args=some (H1,res)->Den P k H0 args H1 res
def Did (P:Program) (T:Tab) (o:Op) (st:St) (v:PV) (H':List Ob) (g:Bool):Prop:=(WPop P T o st fun v' H''=>v'=v/\H''=H')/\(g=true-> ∃ obs,H'=st.heap++obs)
theorem M8 {P:Program} {T:Tab} {E:Ez} {lf:FuncId->Nat} (hE:rX P E) {c:Call} {st:St} {v:PV} {H':List Ob} {g:Bool} (h:M5 T E lf c st=some (v,H',g)):Did P T (.call c) st v H' g:=by
 unfold M5 at h;unfold Did WPop WPcall;split at h
 .rename_i b hb;simp only[hb];split at h
  .rename_i r hr;have:=aaF hr;rw[hr];split at h
   .rename_i hc;cases h;exact⟨⟨this.1 hc,rfl,rfl⟩,this.2⟩
   cases h
  cases h
 .rename_i f hf;simp only[hf];split at h
  .rename_i k pre post xN;rw[xN];simp only;generalize pG:pre++c.args.toList.map (ev st.env)++post=args at h ⊢;split at h
   .split at h
    .rename_i id cF;split at h
     .rename_i ob fr;split at h
      .rename_i hc;simp only[hG,Bool.not_eq_true'] at hc;split at h
       .rename_i args' KU;split at h
        .rename_i ob' obs res hE1;cases h;refine⟨⟨_,_,CallRel.lend id args' ob ob' obs res fr hc.1.1.1 (wN hc.1.1.2) hc.1.2 KU ?_ (hE _ _ _ _ _ hE1),rfl,rfl⟩,fun e=>by cases e⟩;unfold shutBs;rw[rV hc.2];exact fr
        cases h
       cases h
      cases h
     cases h
    cases h
   split at h
   .split at h
    .rename_i args' KU;split at h
     .rename_i obs res hE1;cases h;refine⟨⟨_,_,CallRel.nilp args' obs res KU (hE _ _ _ _ _ hE1),rfl,rfl⟩,fun e=>?_⟩;unfold shutAs;rw[lN e];exact⟨_,rfl⟩
     cases h
    cases h
   split at h
   .rename_i args' KU;split at h
    .rename_i obs res hE1;cases h;refine⟨⟨_,_,CallRel.pure args' obs res KU (hE _ _ _ _ _ hE1),rfl,rfl⟩,fun e=>?_⟩;unfold shutAs;rw[lN e];exact⟨_,rfl⟩
    cases h
   cases h
  cases h
 cases h
theorem Fj {P:Program} {T:Tab} {E:Ez} {lf:FuncId->Nat} (hE:rX P E) {o:Op} {st:St} {v:PV} {H':List Ob} {g:Bool} (h:opB T E lf o st=some (v,H',g)):Did P T o st v H' g:=by
 unfold opB at h;split at h
 .exact M8 hE h
 rename_i op SC;obtain⟨r,hr,hc,rfl,rfl,hg⟩:=Vj h;refine⟨?_,hg⟩;unfold WPop;split
 .rename_i c;exact absurd rfl (SC c)
 rw[hr];exact⟨hc,rfl,rfl⟩
end Go.AM
namespace Go.AM
noncomputable def yo (st:St) (d:Option Nat) (v:PV) (H:List Ob):St:=⟨match d with | some t=>aaH st.env t v | none=>st.env,H⟩
theorem AZ (st:St) (d:Option Nat) (v:PV) (H:List Ob):yo st d v H=st.upd d v H:=by
 unfold yo St.upd;cases d with
 | none=>rfl
 | some t=>simp only[HL]
section
variable (T:Tab) (E:Ez) (lf:FuncId->Nat)
noncomputable def Fk (all:Array Oper):List Oper->St->Option St
 | [],st=>some st
 | o::rest,st=>match o.guard with
  | none=>match opB T E lf o.op st with
   | some (v,H,_)=>Fk all rest (yo st o.dst v H)
   | none=>none
  | some (j,want)=>match (all[j]?).bind (·.dst) with
   | some t=>match st.get t with
    | .fv (.lit (.bool b))=>if b=want then(match opB T E lf o.op st with
     | some (v,H,_)=>Fk all rest (yo st o.dst v H)
     | none=>none) else Fk all rest (yo st o.dst (.tup []) st.heap)
    | .tup []=>Fk all rest (yo st o.dst (.tup []) st.heap)
    | _=>none
   | none=>none
noncomputable def HM (sh:Bool) (o:Oper) (st:St):Option (St×List Nat):=match opB T E lf o.op st with
 | some (v,H,g)=>if aY o.op then some (yo st o.dst v (shutIds (if sh then eu v else []) H),if sh then eu v else []) else if g then some (yo st o.dst v H,[]) else none
 | none=>none
noncomputable def ud (sh:List Nat) (all:Array Oper):Nat->List Oper->St->Option (St×List (List Nat)×List (List Nat))
 | _,[],st=>some (st,[],[])
 | n,o::rest,st=>match o.guard with
  | none=>match HM T E lf (sh.contains n) o st with
   | some (st',a)=>match ud sh all (n+1) rest st' with
    | some (s,l,tr)=>some (s,a::l,(mark (evF st.env) o.op++a)::tr)
    | none=>none
   | none=>none
  | some (j,want)=>match (all[j]?).bind (·.dst) with
   | some t=>match st.get t with
    | .fv (.lit (.bool b))=>if b=want then(match HM T E lf (sh.contains n) o st with
     | some (st',a)=>match ud sh all (n+1) rest st' with
      | some (s,l,tr)=>some (s,a::l,(mark (evF st.env) o.op++a)::tr)
      | none=>none
     | none=>none) else(match ud sh all (n+1) rest (yo st o.dst (.tup []) st.heap) with
      | some (s,l,tr)=>some (s,[]::l,[]::tr)
      | none=>none)
    | .tup []=>match ud sh all (n+1) rest (yo st o.dst (.tup []) st.heap) with
     | some (s,l,tr)=>some (s,[]::l,[]::tr)
     | none=>none
    | _=>none
   | none=>none
def HN (f:St->Option (AExit×St)):Nat->St->Option (AExit×St)
 | 0,_=>none
 | n+1,st=>match f st with
  | some (.normal,st')=>HN f n st'
  | r=>r
noncomputable def gX (an:Nat->List Nat×List Nat) (fuel:Nat):Code->St->Option (AExit×St)
 | .skip,st=>some (.normal,st)
 | .label _,st=>some (.normal,st)
 | .exit id,st=>some (.exit id,st)
 | .ret,st=>some (.ret,st)
 | .region n ops draw,st=>
  if draw then(match ud T E lf (an n).2 ops 0 ops.toList {st with heap:=shutIds ((an n).1.flatMap (fun t=>eu (st.get t))) st.heap} with
   | some (s,_,tr)=>if wU ops then some (.normal,s) else if kF ops&&Fv ops tr then some (.normal,s) else none
   | none=>none)
  else(match Fk T E lf ops ops.toList st with
   | some s=>some (.normal,s)
   | none=>none)
 | .seq x y,st=>match gX an fuel x st with
  | some (.normal,s)=>gX an fuel y s
  | r=>r
 | .cond c x y,st=>match ev st.env c with
  | .fv (.lit (.bool true))=>gX an fuel x st
  | .fv (.lit (.bool false))=>gX an fuel y st
  | _=>none
 | .block id x,st=>match gX an fuel x st with
  | some (.exit i,s)=>if i=id then some (.normal,s) else some (.exit i,s)
  | r=>r
 | .loop x,st=>HN (gX an fuel x) fuel st
 | .scope x,st=>gX an fuel x st
 | .rangeFunc ..,_=>none
 | .goto _,_=>none
 | .refuse _,_=>none
end
section
variable {P:Program} {T:Tab} {E:Ez} {lf:FuncId->Nat}
theorem rY (hE:rX P E) {all:Array Oper}: ∀ {l:List Oper} {st s:St},Fk T E lf all l st=some s->WPops P T all l st (fun x=>x=s)
 | [],st,s,h=>by cases h;rfl
 | o::rest,st,s,h=>by
  unfold Fk at h;simp only[AZ] at h;unfold WPops;cases hg:o.guard with
  | none=>
   simp only[hg] at h ⊢;split at h
   .rename_i v H g SC;exact WPop.mono (fun v' H'' e=>by obtain⟨rfl,rfl⟩:=e;exact rY hE h) (Fj hE SC).1
   .cases h
  | some gd=>
   obtain⟨j,want⟩:=gd;simp only[hg] at h ⊢;cases hj:(all[j]?).bind (·.dst) with
   | none=>rw[hj] at h;cases h
   | some t=>
    rw[hj] at h;simp only at h ⊢;split at h
    .rename_i b hb;simp only[hb];split at h
     .rename_i xO;refine⟨fun _=>?_,fun e=>by subst xO;cases b<;>simp at e⟩;split at h
      .rename_i v H g SC;exact WPop.mono (fun v' H'' e=>by obtain⟨rfl,rfl⟩:=e;exact rY hE h) (Fj hE SC).1
      cases h
     rename_i xO;exact⟨fun e=>absurd e xO,fun _=>rY hE h⟩
    .rename_i hb;simp only[hb];exact rY hE h
    cases h
theorem Da (hE:rX P E) {sh:Bool} {o:Oper} {st s:St} {a:List Nat} (h:HM T E lf sh o st=some (s,a)):
 ∃ v H',(WPop P T o.op st fun v' H''=>v'=v/\H''=H')/\(aY o.op=true\/(a=[]/\ ∃ obs,H'=st.heap++obs))/\s=st.upd o.dst v (shutIds a H'):=by
 unfold HM at h
 simp only[AZ] at h
 split at h
 .rename_i v H g SC
  have hd:=Fj hE SC
  split at h
  .rename_i hs
   cases h
   exact⟨v,H,hd.1,.inl hs,rfl⟩
  split at h
  .rename_i hg
   cases h
   exact⟨v,H,hd.1,.inr ⟨rfl,hd.2 hg⟩,rfl⟩
  cases h
 cases h
theorem rZ (hE:rX P E) {sh:List Nat} {all:Array Oper}: ∀ {l:List Oper} {n:Nat} {st s:St} {ss tr tr0:List (List Nat)},ud T E lf sh all n l st=some (s,ss,tr)->WPdrawS P T all l ss tr0 st (fun x t=>x=s/\t=tr0++tr)
 | [],n,st,s,ss,tr,tr0,h=>by cases h;exact⟨rfl,by simp⟩
 | o::rest,n,st,s,ss,tr,tr0,h=>by
  unfold ud at h;simp only[AZ,M7] at h;unfold WPdrawS;have fin: ∀ {v:PV} {H':List Ob} {a:List Nat} {l2 Xa:List (List Nat)} {s2:St} {m:List Nat},(WPop P T o.op st fun v' H''=>v'=v/\H''=H')->(aY o.op=true\/(a=[]/\ ∃ obs,H'=st.heap++obs))->
   ud T E lf sh all (n+1) rest (st.upd o.dst v (shutIds a H'))=some (s2,l2,Xa)->m=mark (ev st.env) o.op->
   WPop P T o.op st fun v H=>(aY o.op=true\/(a=[]/\ ∃ obs,H=st.heap++obs))/\WPdrawS P T all rest l2 (tr0++[mark (ev st.env) o.op++a]) (st.upd o.dst v (shutIds a H)) (fun x t=>x=s2/\t=tr0++((m++a)::Xa)):=fun{v H' a l2 Xa s2 m} h1 h2 hr hm=>by
   subst hm
   refine WPop.mono (fun v' H'' e=>?_) h1
   obtain⟨rfl,rfl⟩:=e
   exact⟨h2,WPdrawS.mono (fun x t hh=>⟨hh.1,by rw[hh.2,append_assoc];rfl⟩) _ (rZ hE hr)⟩
  cases hg:o.guard with
  | none=>
   simp only[hg] at h ⊢;split at h
   .rename_i st' a bQ;obtain⟨v,H',h1,h2,rfl⟩:=Da hE bQ;split at h
    .rename_i s2 l2 Xa hr;cases h;exact fin h1 h2 hr rfl
    cases h
   .cases h
  | some gd=>
   obtain⟨j,want⟩:=gd;simp only[hg] at h ⊢;cases hj:(all[j]?).bind (·.dst) with
   | none=>rw[hj] at h;cases h
   | some t=>
    rw[hj] at h;simp only at h ⊢;split at h
    .rename_i b hb;simp only[hb];split at h
     .rename_i xO;refine⟨fun _=>?_,fun e=>by subst xO;cases b<;>simp at e⟩;split at h
      .rename_i st' a bQ;obtain⟨v,H',h1,h2,rfl⟩:=Da hE bQ;split at h
       .rename_i s2 l2 Xa hr;cases h;exact fin h1 h2 hr rfl
       cases h
      cases h
     rename_i xO;refine⟨fun e=>absurd e xO,fun _=>?_⟩;split at h
     .rename_i s2 l2 Xa hr;cases h;exact WPdrawS.mono (fun x t hh=>⟨hh.1,by rw[hh.2,append_assoc];rfl⟩) _ (rZ hE hr)
     cases h
    .rename_i hb;simp only[hb];split at h
     .rename_i s2 l2 Xa hr;cases h;exact WPdrawS.mono (fun x t hh=>⟨hh.1,by rw[hh.2,append_assoc];rfl⟩) _ (rZ hE hr)
     cases h
    cases h
theorem fJ (hE:rX P E) {m:Nat} {an:Nat->List Nat×List Nat} {fuel:Nat}: ∀ (cd:Code) {st s:St} {e:AExit},gX T E lf an fuel cd st=some (e,s)->WPA P T m cd st (fun e2 s2=>e2=e/\s2=s)
 | .skip,st,s,e,h=>by cases h;exact⟨rfl,rfl⟩
 | .label _,st,s,e,h=>by cases h;exact⟨rfl,rfl⟩
 | .exit _,st,s,e,h=>by cases h;exact⟨rfl,rfl⟩
 | .ret,st,s,e,h=>by cases h;exact⟨rfl,rfl⟩
 | .region n ops draw,st,s,e,h=>by
  unfold gX at h;unfold WPA;split at h
  .rename_i hd;rw[if_pos hd];split at h
   .rename_i s2 ss tr pn;have hD:=rZ (P:=P) (tr0:=[]) hE pn;split at h
    .rename_i bf;cases h;exact .inl ⟨(fT bf).1,_,ss,WPdrawS.mono (fun x t hx=>⟨(fT bf).2 t,rfl,hx.1⟩) _ hD⟩
    split at h
    .rename_i bf;rw[hG] at bf;cases h;exact .inl ⟨bf.1,_,ss,WPdrawS.mono (fun x t hx=>⟨by rw[hx.2];exact bf.2,rfl,hx.1⟩) _ hD⟩
    cases h
   cases h
  .rename_i hd;rw[if_neg hd];split at h
   .rename_i s2 SC;cases h;exact WPops.mono (fun x hx=>⟨rfl,hx⟩) _ (rY hE SC)
   .cases h
 | .seq x y,st,s,e,h=>by
  unfold gX at h;unfold WPA;split at h
  .rename_i s2 hx;exact WPA.mono x (fun e2 s3 hh=>by obtain⟨rfl,rfl⟩:=hh;exact fJ hE y h) (fJ hE x hx)
  .rename_i hx;refine WPA.mono x (fun e2 s3 hh=>?_) (fJ hE x h);obtain⟨rfl,rfl⟩:=hh;cases e2 with
   | normal=>exact absurd h (hx _)
   | exit i=>exact⟨rfl,rfl⟩
   | ret=>exact⟨rfl,rfl⟩
 | .cond c x y,st,s,e,h=>by
  unfold gX at h;unfold WPA;split at h
  .rename_i hc;rw[hc];exact⟨fun _=>fJ hE x h,fun hh=>by cases hh⟩
  .rename_i hc;rw[hc];exact⟨fun hh=>(by cases hh),fun _=>fJ hE y h⟩
  .cases h
 | .block id x,st,s,e,h=>by
  unfold gX at h;unfold WPA;split at h
  .rename_i i s2 hx;refine WPA.mono x (fun e2 s3 hh=>?_) (fJ hE x hx);obtain⟨rfl,rfl⟩:=hh;split at h
   .rename_i hi;cases h;simp only[hi,if_true];exact⟨b',b'⟩
   rename_i hi;cases h;simp only[if_neg hi];exact⟨b',b'⟩
  .rename_i hx;refine WPA.mono x (fun e2 s3 hh=>?_) (fJ hE x h);obtain⟨rfl,rfl⟩:=hh;cases e2 with
   | normal=>exact⟨rfl,rfl⟩
   | exit i=>exact absurd h (hx _ _)
   | ret=>exact⟨rfl,rfl⟩
 | .loop x,st,s,e,h=>by
  unfold gX at h;unfold WPA;refine⟨fun n s0=>HN (gX T E lf an fuel x) n s0=some (e,s),⟨fuel,st,fun c a w _ hh=>hh,h⟩,fun n s0 hi=>?_⟩;cases n with
  | zero=>cases hi
  | succ n=>
   unfold HN at hi;split at hi
   .rename_i s1 hx;exact WPA.mono x (fun e2 s3 hh=>by obtain⟨rfl,rfl⟩:=hh;exact⟨n,s3,by omega,fun c a w _ hh=>hh,hi⟩) (fJ hE x hx)
   .rename_i hx;refine WPA.mono x (fun e2 s3 hh=>?_) (fJ hE x hi);obtain⟨rfl,rfl⟩:=hh;cases e2 with
    | normal=>exact absurd hi (hx _)
    | exit i=>exact⟨rfl,rfl⟩
    | ret=>exact⟨rfl,rfl⟩
 | .scope x,st,s,e,h=>by
  unfold gX at h;unfold WPA;exact fJ hE x h
 | .rangeFunc ..,_,_,_,h=>by unfold gX at h;cases h
 | .goto _,_,_,_,h=>by unfold gX at h;cases h
 | .refuse _,_,_,_,h=>by unfold gX at h;cases h
end
def M9 (T:Tab) (st:St):ResultVar->Bool
 | .tmp _=>true
 | .cell a t=>match T.at t,st.get a with
  | some i,.ptr id j off=>AY st.heap id j off i.size
  | _,_=>false
theorem Db {T:Tab} {st:St}: ∀ {rs:List ResultVar} {cd:Prop} {vs:List PV},eB T st rs=some (cd,vs)->rs.all (M9 T st)=true->cd
 | [],cd,vs,h,_=>by cases h;trivial
 | r::rs,cd,vs,h,hb=>by
  rw[List.all_cons,hG] at hb;unfold eB at h;split at h
  .rename_i c1 v c2 vs2 h1 h2;cases h;refine⟨?_,Db h2 hb.2⟩;unfold r9 at h1;unfold M9 at hb;split at h1
   .cases h1;trivial
   rename_i a t;split at h1
   .rename_i i id j off h3 h4;have dp:=hb.1;simp only[h3,h4] at dp;split at h1
    .rename_i cd cs f_;split at h1
     .cases h1;exact zJ f_ dp
     cases h1
    cases h1
   cases h1
  cases h
def wO (own:Bool) (m:Nat) (vs:List PV):List Nat:=match m with
 | 0=>if own then(match vs with | [.lsl id 0 _ _]=>[id] | _=>[]) else []
 | _=>[0]
def Vk (own:Bool) (T:Tab) (rs:List ResultVar) (m:Nat) (st:St):Option (List Ob×PV):=match eB T st rs with
 | some (_,vs)=>if rs.all (M9 T st)&&decide (m<=1) then(match qG st.heap (wO own m vs) (bN vs) with
  | some res=>match wO own m vs with
   | []=>some ([],res)
   | [id]=>match (shutIds (lW st.heap (wO own m vs) (bN vs)) st.heap)[id]? with
    | some ob=>if ob.rw&&vr ob then some ([ob],res) else none
    | none=>none
   | _=>none
  | none=>none) else none
 | none=>none
theorem HO {own:Bool} {T:Tab} {rs:List ResultVar} {m:Nat} {st:St} {H1:List Ob} {res:PV} (h:Vk own T rs m st=some (H1,res)):RetOK T rs m st H1 res:=by
 unfold Vk at h;split at h
 .rename_i cd vs dT;split at h
  .rename_i hc;rw[hG] at hc;have jv:=Db dT hc.1;have hm:=of_decide_eq_true hc.2;have hk: ∀ i,i<m->(wO own m vs)[i]?=some i:=fun i hi=>by
    have e1:m=1:=by omega
    subst e1;have e0:i=0:=by omega
    subst e0;rfl
   split at h
   .rename_i res' KU;generalize hK:wO own m vs=K at h hk KU;split at h
    .cases h;exact⟨cd,vs,[],dT,jv,List.nodup_nil,hk,KU,rfl,fun j id hj=>by simp at hj,fun o ho=>by simp at ho⟩
    .rename_i id;split at h
     .rename_i ob fr;split at h
      .rename_i hrw;rw[hG] at hrw;cases h;refine⟨cd,vs,[id],dT,jv,by simp,hk,KU,rfl,fun j k hj=>?_,fun o ho=>?_⟩
       .cases j with
        | zero=>simp at hj;subst hj;exact fr
        | succ j=>simp at hj
       rw[qz] at ho;subst ho;exact⟨wN hrw.2,hrw.1⟩
      cases h
     cases h
    cases h
   cases h
  cases h
 cases h
structure Vl where
 fns:List (FuncId×Func)
 lf:FuncId->Nat
 own:FuncId->Bool
 an:FuncId->Nat->List Nat×List Nat
 orc:Ez
 fuel:Nat
def HP (k:FuncId):List (FuncId×Func)->Option Func
 | []=>none
 | e::l=>if Nat.beq e.1 k then some e.2 else HP k l
noncomputable def A0 (T:Tab) (c:Vl):Nat->Ez
 | 0=>fun _ _ _=>none
 | n+1=>fun k H0 args=>match c.orc k H0 args with
  | some r=>some r
  | none=>match HP k c.fns with
   | some fn=>match fn.body with
    | some cd=>match gX T (A0 T c n) c.lf (c.an k) c.fuel cd ⟨args++replicate (fn.ntmps - args.length) .any,H0⟩ with
     | some (.exit _,_)=>none
     | some (_,st)=>Vk (c.own k) T fn.results.toList H0.length st
     | none=>none
    | none=>none
   | none=>none
structure Dc (P:Program) (c:Vl):Prop where
 fns: ∀ e∈c.fns,P.funcs[e.1]?=some e.2/\(e.2.name== "runtime.NumGoroutine")=false
 orc:rX P c.orc
theorem Dd {k:FuncId} {fn:Func}: ∀ {l:List (FuncId×Func)},HP k l=some fn->(k,fn)∈l
 | [],h=>by cases h
 | e::l,h=>by
  unfold HP at h;split at h
  .rename_i hb;cases h;have:e.1=k:=Nat.eq_of_beq_eq_true hb;rw[<-this];exact List.mem_cons_self ..
  exact mem_cons_of_mem _ (Dd h)
theorem mG {P:Program} {T:Tab} (hT:ck P T) (hm:P.follows .mixedOrders=true) {c:Vl} (hc:Dc P c): ∀ n,rX P (A0 T c n)
 | 0=>fun k H0 args H1 res h=>by cases h
 | n+1=>fun k H0 args H1 res h=>by
  unfold A0 at h;split at h
  .rename_i r hr;cases h;exact hc.orc _ _ _ _ _ hr
  split at h
  .rename_i fn xN;obtain⟨h1,h2⟩:=hc.fns _ (Dd xN);split at h
   .rename_i cd jv;split at h
    .cases h
    .rename_i e st qT cL;refine xq hT hm h1 jv h2 ?_;refine WPA.mono cd (fun e2 s2 hh=>?_) (fJ (mG hT hm hc n) cd cL);obtain⟨rfl,rfl⟩:=hh;cases e2 with
     | normal=>exact HO h
     | exit i=>exact absurd rfl (qT i)
     | ret=>exact HO h
    cases h
   cases h
  cases h
end Go.AM
namespace Go.Proofs.YtiaaceeelfhdlaaGreat
open Go.AM Go.Pl
set_option maxRecDepth 100000
set_option maxHeartbeats 4000000
def QO (xs:List Int) (H1:List Ob) (res:PV):Prop:= ∃ (L:List RR) (a':Nat),H1=[S xs a',.row true (aE L)]/\res=PV.lsl 1 0 L.length 2/\a'<=xs.length/\JA L
theorem RgS.ls {xs:List Int} {H1:List Ob} {res:PV} (h:RgS xs H1 res):QO xs H1 res:=by
 obtain⟨L,a,h1,h2,h3,h4,h5⟩:=h;exact⟨L,a,h1,h2,h3,aaE h5 h4⟩
theorem JE (n:Nat):aE (replicate n (([],[]):RR))=replicate n [FV.sl [],FV.sl []]:=by
 unfold aE;rw[List.map_replicate];rfl
theorem JF (n:Nat):ak (replicate n (replicate 9 rz))=replicate n (bR (replicate 9 rz)):=by
 unfold ak;rw[List.map_replicate]
def Fl (xs:List Int) (a:Nat):Prop:= ∃ H1 res,QO xs H1 res/\Den Tryz.prog 14 [S xs a] [.ptr 0 0 0] H1 res
section
variable {xs:List Int} {a:Nat} (hl:xs.length<=1000) (ha:a<=xs.length) (hw:W64 xs)
include hl ha hw
theorem aaJ (hk:nN xs a 14=0):Fl xs a:=by
 have hN:=jn xs a 14 hl ha hw (by omega) (by omega);have hc:=av xs a;have jX:=bL ha;obtain⟨a1,e1⟩:=ax (nx xs a);rw[e1] at hN jX;obtain⟨k,ek⟩:=ax (nN xs a 14);rw[ek] at hN hk;have b0:((k:Int)==0)=true:=by rw[hk];rfl
 have hr:=JE 4001;unfold Fl QO;unfold S at hN hc;unfold S;refine BN Tryz.func14 32 1 ?_;refine aW ?_;refine d6 0 hN hc ?_;generalize hM:(4001:Int)=M;refine bE b0 ?_;have hMn:M.toNat=4001:=by rw[<-hM];rfl
 repeat refine ae ?_
 refine⟨[.box true [.fv (.sl (ints xs)),.int .i64 a1,.int .i64 0],.row true (aE (replicate 4001 ([],[])))],.lsl 1 0 4001 2,⟨replicate 4001 ([],[]),a1,rfl,by rw[length_replicate],jX,QG 4001 rfl⟩,?_⟩;rw[hr,hMn];exact RetOK.lentOwn (cd:=True/\True) rfl ⟨b',b'⟩ rfl (av xs a1) rfl (by decide) rfl
theorem aaK (hk:nN xs a 14=3):Fl xs a:=by
 have hN:=jn xs a 14 hl ha hw (by omega) (by omega);have hc:=av xs a;have jX:=bL ha;obtain⟨a1,e1⟩:=ax (nx xs a);rw[e1] at hN jX;obtain⟨k,ek⟩:=ax (nN xs a 14);rw[ek] at hN hk;have b0:((k:Int)==0)=false:=by rw[qx];omega
 have b1:((k:Int)==1)=false:=by rw[qx];omega
 have b2:((k:Int)==2)=false:=by rw[qx];omega
 have b3:((k:Int)==3)=true:=by rw[hk];rfl
 have c1:=av xs a1;have cX:lent 0 1 1=1:=rfl;obtain⟨H1,res,hS,Un⟩:=Vh xs a1 hl jX hw;obtain⟨L,a',rfl,rfl,hL⟩:=hS.ls;unfold Fl QO;unfold S at hN hc c1 Un;unfold S;refine BN Tryz.func14 32 1 ?_;refine aW ?_;refine d6 0 hN hc ?_;refine bE (fe b0 b1 b2 b3) ?_;refine d6 0 Un c1 ?_;refine bE cX ?_;exact⟨[.box true [.fv (.sl (ints xs)),.int .i64 a',.int .i64 0],.row true (aE L)],.lsl 1 0 L.length 2,⟨L,a',rfl,rfl,hL⟩,RetOK.lentOwn (cd:=True/\True) rfl ⟨b',b'⟩ rfl (av xs a') rfl (by decide) rfl⟩
theorem aaL (hk:nN xs a 14=4):Fl xs a:=by
 have hN:=jn xs a 14 hl ha hw (by omega) (by omega);have hc:=av xs a;have jX:=bL ha;obtain⟨a1,e1⟩:=ax (nx xs a);rw[e1] at hN jX;obtain⟨k,ek⟩:=ax (nN xs a 14);rw[ek] at hN hk;have b0:((k:Int)==0)=false:=by rw[qx];omega
 have b1:((k:Int)==1)=false:=by rw[qx];omega
 have b2:((k:Int)==2)=false:=by rw[qx];omega
 have b3:((k:Int)==3)=false:=by rw[qx];omega
 have b4:((k:Int)==4)=true:=by rw[hk];rfl
 have c1:=av xs a1;have cX:lent 0 1 1=1:=rfl;obtain⟨H1,res,hS,Un⟩:=Vh xs a1 hl jX hw;obtain⟨L,a',rfl,rfl,hL⟩:=hS.ls;unfold Fl QO;unfold S at hN hc c1 Un;unfold S;refine BN Tryz.func14 32 1 ?_;refine aW ?_;refine d6 0 hN hc ?_;refine bE (gn b0 b1 b2 b3 b4) ?_;refine d6 0 Un c1 ?_;refine bE cX ?_;exact⟨[.box true [.fv (.sl (ints xs)),.int .i64 a',.int .i64 0],.row true (aE L)],.lsl 1 0 L.length 2,⟨L,a',rfl,rfl,hL⟩,RetOK.lentOwn (cd:=True/\True) rfl ⟨b',b'⟩ rfl (av xs a') rfl (by decide) rfl⟩
theorem aaM (hk:nN xs a 14=5):Fl xs a:=by
 have hN:=jn xs a 14 hl ha hw (by omega) (by omega);have hc:=av xs a;have jX:=bL ha;obtain⟨a1,e1⟩:=ax (nx xs a);rw[e1] at hN jX;obtain⟨k,ek⟩:=ax (nN xs a 14);rw[ek] at hN hk;have b0:((k:Int)==0)=false:=by rw[qx];omega
 have b1:((k:Int)==1)=false:=by rw[qx];omega
 have b2:((k:Int)==2)=false:=by rw[qx];omega
 have b3:((k:Int)==3)=false:=by rw[qx];omega
 have b4:((k:Int)==4)=false:=by rw[qx];omega
 have b5:((k:Int)==5)=true:=by rw[hk];rfl
 have c1:=av xs a1;have cX:lent 0 1 1=1:=rfl;obtain⟨H1,res,hS,Un⟩:=Vh xs a1 hl jX hw;obtain⟨L,a',rfl,rfl,hL⟩:=hS.ls;unfold Fl QO;unfold S at hN hc c1 Un;unfold S;refine BN Tryz.func14 32 1 ?_;refine aW ?_;refine d6 0 hN hc ?_;refine bE (kX b0 b1 b2 b3 b4 b5) ?_;refine d6 0 Un c1 ?_;refine bE cX ?_;exact⟨[.box true [.fv (.sl (ints xs)),.int .i64 a',.int .i64 0],.row true (aE L)],.lsl 1 0 L.length 2,⟨L,a',rfl,rfl,hL⟩,RetOK.lentOwn (cd:=True/\True) rfl ⟨b',b'⟩ rfl (av xs a') rfl (by decide) rfl⟩
theorem aaN (hk:5<nN xs a 14):Fl xs a:=by
 have hN:=jn xs a 14 hl ha hw (by omega) (by omega);have hc:=av xs a;have jX:=bL ha;obtain⟨a1,e1⟩:=ax (nx xs a);rw[e1] at hN jX;obtain⟨k,ek⟩:=ax (nN xs a 14);rw[ek] at hN hk;have b0:((k:Int)==0)=false:=by rw[qx];omega
 have b1:((k:Int)==1)=false:=by rw[qx];omega
 have b2:((k:Int)==2)=false:=by rw[qx];omega
 have b3:((k:Int)==3)=false:=by rw[qx];omega
 have b4:((k:Int)==4)=false:=by rw[qx];omega
 have b5:((k:Int)==5)=false:=by rw[qx];omega
 have c1:=av xs a1;have cX:lent 0 1 1=1:=rfl;obtain⟨H1,res,hS,uY⟩:=ae8 xs a1 hl jX hw;obtain⟨L,a',rfl,rfl,hL⟩:=hS.ls;unfold Fl QO;unfold S at hN hc c1 uY;unfold S;refine BN Tryz.func14 32 1 ?_;refine aW ?_;refine d6 0 hN hc ?_;refine bE (kX b0 b1 b2 b3 b4 b5) ?_;refine d6 0 uY c1 ?_;refine bE cX ?_;exact⟨[.box true [.fv (.sl (ints xs)),.int .i64 a',.int .i64 0],.row true (aE L)],.lsl 1 0 L.length 2,⟨L,a',rfl,rfl,hL⟩,RetOK.lentOwn (cd:=True/\True) rfl ⟨b',b'⟩ rfl (av xs a') rfl (by decide) rfl⟩
end
end Go.Proofs.YtiaaceeelfhdlaaGreat
namespace Go.Pl
open Go.AM
def Vm:List FV->Option Nat
 | [.lit (.int .u32 (.ofNat n))]=>if Nat.blt n 4294967296 then some n else none
 | _=>none
theorem QP {x:List FV} {n:Nat} (h:Vm x=some n):x=[.lit (.int .u32 (n:Int))]/\n<B:=by
 unfold Vm at h;split at h
 .split at h
  .rename_i m hb;cases h;exact⟨rfl,Nat.le_of_ble_eq_true hb⟩
  cases h
 cases h
def De:List (List FV)->Option (List Nat)
 | []=>some []
 | x::xs=>match Vm x,De xs with | some n,some l=>some (n::l) | _,_=>none
theorem wP: ∀ {xs:List (List FV)} {l:List Nat},De xs=some l->xs=u32s l/\Dig l
 | [],l,h=>by cases h;exact⟨rfl,fun d hd=>by cases hd⟩
 | x::xs,l,h=>by
  unfold De at h;split at h
  .rename_i n l' h1 h2;cases h;obtain⟨e1,b1⟩:=QP h1;obtain⟨e2,b2⟩:=wP h2;refine⟨by rw[e1,e2];rfl,fun d hd=>?_⟩;rcases List.mem_cons.1 hd with rfl | hd
   .exact b1
   exact b2 d hd
  cases h
def Df:List FV->Option (List Raw)
 | []=>some []
 | .lit (.bool b):: .sl n:: .sl d::rest=>match De n,De d,Df rest with
  | some n',some d',some l=>if Nat.ble n'.length 4&&Nat.ble d'.length 4 then some (⟨b,n',d'⟩::l) else none
  | _,_,_=>none
 | _=>none
theorem Dg: ∀ (n:Nat) {xs:List FV} {rs:List Raw},xs.length<=n->Df xs=some rs->xs=bR rs/\ ∀ r∈rs,r.Ok 4:=by
 intro n
 induction n with
 | zero=>
  intro xs rs hn h;have:xs=[]:=List.eq_nil_of_length_eq_zero (by omega);subst this;cases h;exact⟨rfl,fun r hr=>by cases hr⟩
 | succ n ih=>
  intro xs rs hn h;unfold Df at h;split at h
  .cases h;exact⟨rfl,fun r hr=>by cases hr⟩
  .rename_i b nn d rest;split at h
   .rename_i n' d' l h1 h2 h3;split at h
    .rename_i hb;rw[hG] at hb;cases h;obtain⟨e1,b1⟩:=wP h1;obtain⟨e2,b2⟩:=wP h2;obtain⟨e3,b3⟩:=ih (by simp only[List.length_cons] at hn;omega) h3;refine⟨by rw[e1,e2,e3];rfl,fun r hr=>?_⟩;rcases List.mem_cons.1 hr with rfl | hr
     .exact⟨b1,b2,Nat.le_of_ble_eq_true hb.1,Nat.le_of_ble_eq_true hb.2⟩
     exact b3 r hr
    cases h
   cases h
  cases h
def M_:List PV->Option (List FV)
 | []=>some []
 | .fv x::l=>match M_ l with | some xs=>some (x::xs) | none=>none
 | _=>none
theorem QQ: ∀ {cs:List PV} {xs:List FV},M_ cs=some xs->cs=xs.map .fv:=by
 intro cs
 induction cs with
 | nil=>intro xs h;cases h;rfl
 | cons v l ih=>
  intro xs h;cases v with
  | fv x=>
   unfold M_ at h;split at h
   .rename_i ys hy;cases h;rw[ih hy];rfl
   .cases h
  | _=>simp[M_] at h
theorem zK: ∀ rs:List Raw,(bR rs).map .fv=flat rs
 | []=>rfl
 | r::rs=>by
  have:=zK rs;show(r.f++bR rs).map PV.fv=r.c++flat rs;rw[BM,this];rfl
def QR:PV->Option (List Raw)
 | .agg cs=>match M_ cs with | some xs=>Df xs | none=>none
 | _=>none
theorem HQ {v:PV} {rs:List Raw} (h:QR v=some rs):v=RL rs/\ ∀ r∈rs,r.Ok 4:=by
 unfold QR at h;split at h
 .split at h
  .rename_i xs hx;obtain⟨e,b⟩:=Dg _ (qp _) h;exact⟨by rw[QQ hx,e,zK];rfl,b⟩
  cases h
 cases h
def JG (v:PV):Option Raw:=match QR v with
 | some [r]=>some r
 | _=>none
theorem vt {v:PV} {r:Raw} (h:JG v=some r):v=r.v/\r.Ok 4:=by
 unfold JG at h;split at h
 .rename_i r' hr;cases h;obtain⟨e,b⟩:=HQ hr;exact⟨by rw[e];rfl,b _ (by simp)⟩
 cases h
def wQ (v:PV):Option (List Raw):=match QR v with
 | some rs=>if Nat.beq rs.length 9 then some rs else none
 | none=>none
theorem n8 {v:PV} {rs:List Raw} (h:wQ v=some rs):v=RL rs/\LOk 4 rs:=by
 unfold wQ at h;split at h
 .rename_i rs' hr;split at h
  .rename_i hb;cases h;obtain⟨e,b⟩:=HQ hr;exact⟨e,Nat.eq_of_beq_eq_true hb,b⟩
  cases h
 cases h
def wR:Nat->Nat->List Nat
 | 0,_=>[]
 | f+1,n=>if Nat.beq n 0 then [] else n % B::wR f (n / B)
theorem td: ∀ (f n:Nat),n<B^f->wR f n=ai n
 | 0,n,h=>by
  have:n=0:=by simpa using h
  subst this;rw[bk];rfl
 | f+1,n,h=>by
  unfold wR;split
  .rename_i hb;have:=Nat.eq_of_beq_eq_true hb;subst this;rw[bk]
  rename_i hb;have hn:n≠0:=fun e=>hb (by rw[e];rfl)
  rw[k_ hn,td f (n / B) (Nat.div_lt_of_lt_mul (by rw[Nat.pow_succ,Nat.mul_comm] at h;exact h))]
def Fm (q:Rat):Bool:=Nat.blt q.num.natAbs (B^4)&&Nat.blt q.den (B^4)
def BP (q:Rat):Raw:=⟨decide (q.num<0),wR 4 q.num.natAbs,wR 4 q.den⟩
theorem A1 {q:Rat} (h:Fm q=true):BP q=cn q:=by
 unfold Fm at h;rw[hG] at h;unfold BP cn;rw[td 4 _ (Nat.le_of_ble_eq_true h.1),td 4 _ (Nat.le_of_ble_eq_true h.2)]
def nv (q:Rat):Option PV:=if Fm q then some (BP q).v else none
theorem kE {q:Rat} {v:PV} (h:nv q=some v):v=FR q:=by
 unfold nv at h;split at h
 .rename_i hf;cases h;rw[A1 hf];rfl
 cases h
def lO (qs:List Rat):Option PV:=if qs.all Fm then some (RL (qs.map BP)) else none
theorem r5 {qs:List Rat} (h:qs.all Fm=true):qs.map BP=qs.map cn:=List.map_congr_left (fun q hq=>A1 (List.all_eq_true.1 h q hq))
theorem ju {qs:List Rat} {v:PV} (h:lO qs=some v):v=FL qs:=by
 unfold lO at h;split at h
 .rename_i hf;cases h;rw[r5 hf];rfl
 cases h
def Fo:List Rat->List Rat->Int
 | x::a,y::b=>if eg (x - y)=0 then Fo a b else eg (x - y)
 | _,_=>0
theorem HR: ∀ (a b:List Rat),bu (a.map cn) (b.map cn)=Fo a b
 | [],_=>by simp[bu,Fo]
 | _::_,[]=>by simp[bu,Fo]
 | x::a,y::b=>by
  simp only[map_cons,bu,Fo,cK];rw[HR a b]
def QS (f:List Rat):List (List Rat)->List (List Rat)
 | []=>[f]
 | a::s=>if Fo a f<0 then a::QS f s else if Fo a f=0 then a::s else f::a::s
theorem HS (f:List Rat): ∀ s:List (List Rat),xZ (f.map cn) (s.map (List.map cn))=(QS f s).map (List.map cn)
 | []=>rfl
 | a::s=>by
  simp only[map_cons,xZ,QS,HR];split
  .rw[HS f s];rfl
  split<;>rfl
def Fp:List (List Raw)->List (List Rat)->List (List Rat)
 | [],s=>s
 | l::cs,s=>if b8 l then Fp cs s else Fp cs (QS (Ex l) s)
theorem vu: ∀ (cs:List (List Raw)) (s:List (List Rat)),sysL cs (s.map (List.map cn))=(Fp cs s).map (List.map cn)
 | [],s=>rfl
 | l::cs,s=>by
  simp only[sysL,Fp];split
  .exact vu cs s
  rw[<-vu cs,<-HS];rfl
end Go.Pl
namespace Go.Proofs.YtiaaceeelfhdlaaGreat
open Go.AM Go.Pl
set_option maxRecDepth 100000
set_option maxHeartbeats 4000000
abbrev Ent:=FuncId×(List PV->Option PV)
def c9 (e:Ent):Prop:= ∀ args r,e.2 args=some r->Den Tryz.prog e.1 [] args [] r
def kf:Fn->Nat
 | .func k=>k
 | _=>0
def e1 (f:Raw->Option PV):List PV->Option PV
 | [a]=>match JG a with | some r=>f r | none=>none
 | _=>none
theorem HT {k:Nat} {f:Raw->Option PV} (h: ∀ r v,r.Ok 4->f r=some v->Den Tryz.prog k [] [r.v] [] v):c9 (k,e1 f):=fun args v hv=>by
 dsimp only at hv;unfold e1 at hv;split at hv
 .split at hv
  .rename_i r hr;obtain⟨rfl,b⟩:=vt hr;exact h r v b hv
  cases hv
 cases hv
def e2 (f:Raw->Raw->Option PV):List PV->Option PV
 | [a,b]=>match JG a,JG b with | some r,some s=>f r s | _,_=>none
 | _=>none
theorem zL {k:Nat} {f:Raw->Raw->Option PV} (h: ∀ r s v,r.Ok 4->s.Ok 4->f r s=some v->Den Tryz.prog k [] [r.v,s.v] [] v):c9 (k,e2 f):=fun args v hv=>by
 dsimp only at hv;unfold e2 at hv;split at hv
 .split at hv
  .rename_i r s hr hs;obtain⟨rfl,b⟩:=vt hr;obtain⟨rfl,c⟩:=vt hs;exact h r s v b c hv
  cases hv
 cases hv
def eI (f:Int->Option PV):List PV->Option PV
 | [.fv (.lit (.int .i64 n))]=>if decide (-1000000<=n)&&decide (n<=1000000) then f n else none
 | _=>none
theorem M' {k:Nat} {f:Int->Option PV} (h: ∀ n v,-1000000<=n->n<=1000000->f n=some v->Den Tryz.prog k [] [.int .i64 n] [] v):c9 (k,eI f):=fun args v hv=>by
 dsimp only at hv;unfold eI at hv;split at hv
 .split at hv
  .rename_i n hb;rw[hG] at hb;exact h n v (of_decide_eq_true hb.1) (of_decide_eq_true hb.2) hv
  cases hv
 cases hv
def l1 (f:List Raw->Option PV):List PV->Option PV
 | [a]=>match wQ a with | some r=>f r | none=>none
 | _=>none
theorem Na {k:Nat} {f:List Raw->Option PV} (h: ∀ r v,LOk 4 r->f r=some v->Den Tryz.prog k [] [RL r] [] v):c9 (k,l1 f):=fun args v hv=>by
 dsimp only at hv;unfold l1 at hv;split at hv
 .split at hv
  .rename_i r hr;obtain⟨rfl,b⟩:=n8 hr;exact h r v b hv
  cases hv
 cases hv
def l2 (f:List Raw->List Raw->Option PV):List PV->Option PV
 | [a,b]=>match wQ a,wQ b with | some r,some s=>f r s | _,_=>none
 | _=>none
theorem Nb {k:Nat} {f:List Raw->List Raw->Option PV} (h: ∀ r s v,LOk 4 r->LOk 4 s->f r s=some v->Den Tryz.prog k [] [RL r,RL s] [] v):c9 (k,l2 f):=fun args v hv=>by
 dsimp only at hv;unfold l2 at hv;split at hv
 .split at hv
  .rename_i r s hr hs;obtain⟨rfl,b⟩:=n8 hr;obtain⟨rfl,c⟩:=n8 hs;exact h r s v b c hv
  cases hv
 cases hv
def lr (f:List Raw->Raw->Option PV):List PV->Option PV
 | [a,b]=>match wQ a,JG b with | some r,some s=>f r s | _,_=>none
 | _=>none
theorem aaO {k:Nat} {f:List Raw->Raw->Option PV} (h: ∀ r s v,LOk 4 r->s.Ok 4->f r s=some v->Den Tryz.prog k [] [RL r,s.v] [] v):c9 (k,lr f):=fun args v hv=>by
 dsimp only at hv;unfold lr at hv;split at hv
 .split at hv
  .rename_i r s hr hs;obtain⟨rfl,b⟩:=n8 hr;obtain⟨rfl,c⟩:=vt hs;exact h r s v b c hv
  cases hv
 cases hv
def lv (f:List Raw->Nat->Option PV):List PV->Option PV
 | [a,.fv (.lit (.int .i64 (.ofNat v)))]=>match wQ a with | some r=>if Nat.blt v 8 then f r v else none | none=>none
 | _=>none
theorem aaP {k:Nat} {f:List Raw->Nat->Option PV} (h: ∀ r (n:Nat) v,LOk 4 r->n<8->f r n=some v->Den Tryz.prog k [] [RL r,.int .i64 n] [] v):c9 (k,lv f):=fun args v hv=>by
 dsimp only at hv;unfold lv at hv;split at hv
 .split at hv
  .split at hv
   .rename_i r hr hb;obtain⟨rfl,b⟩:=n8 hr;exact h r _ v b (Nat.le_of_ble_eq_true hb) hv
   cases hv
  cases hv
 cases hv
def wS:List (List FV)->Option (List (List Raw))
 | []=>some []
 | x::xs=>match Df x,wS xs with | some r,some l=>if Nat.beq r.length 9 then some (r::l) else none | _,_=>none
theorem zM: ∀ {xs:List (List FV)} {ls:List (List Raw)},wS xs=some ls->xs=ak ls/\AOk 4 ls:=by
 intro xs
 induction xs with
 | nil=>intro ls h;cases h;exact⟨rfl,fun l hl=>by cases hl⟩
 | cons x xs ih=>
  intro ls h;unfold wS at h;split at h
  .rename_i r l h1 h2;split at h
   .rename_i hb;cases h;obtain⟨e1,b1⟩:=Dg _ (qp _) h1;obtain⟨e2,b2⟩:=ih h2;refine⟨by rw[e1,e2];rfl,fun m hm=>?_⟩;rcases List.mem_cons.1 hm with rfl | hm
    .exact⟨Nat.eq_of_beq_eq_true hb,b1⟩
    exact b2 m hm
   cases h
  cases h
def A2 (qs:List (List Rat)):Option PV:=if qs.all (fun f=>f.all Fm) then some (.fv (.sl (ak (qs.map (fun f=>f.map BP))))) else none
theorem Fq {qs:List (List Rat)} {v:PV} (h:A2 qs=some v):v= .fv (.sl (ak (qs.map (List.map cn)))):=by
 unfold A2 at h;split at h
 .rename_i hf;cases h;rw[List.map_congr_left (fun f hf'=>r5 (List.all_eq_true.1 hf f hf'))]
 cases h
def Vn (cs:List (List Raw)):Option PV:=if Nat.ble cs.length 12 then(if dk cs then some (.tup [.fv (.sl []),.bool false]) else(match A2 (Fp cs []) with | some v=>some (.tup [v,.bool true]) | none=>none)) else none
def TQ (f:List (List Raw)->Option PV):List PV->Option PV
 | [.fv (.sl xs)]=>match wS xs with | some cs=>f cs | none=>none
 | _=>none
theorem Fs {k:Nat} {f:List (List Raw)->Option PV} (h: ∀ cs v,AOk 4 cs->f cs=some v->Den Tryz.prog k [] [.fv (.sl (ak cs))] [] v):c9 (k,TQ f):=fun args v hv=>by
 dsimp only at hv;unfold TQ at hv;split at hv
 .split at hv
  .rename_i cs f_;obtain⟨rfl,b⟩:=zM f_;exact h cs v b hv
  cases hv
 cases hv
def rwv (f:List (List Raw)->Nat->Option PV):List PV->Option PV
 | [.fv (.sl xs),.fv (.lit (.int .i64 (.ofNat v)))]=>match wS xs with | some cs=>if Nat.blt v 8&&Nat.ble cs.length 100 then f cs v else none | none=>none
 | _=>none
theorem Vo {k:Nat} {f:List (List Raw)->Nat->Option PV} (h: ∀ cs (n:Nat) v,AOk 4 cs->n<8->cs.length<=100->f cs n=some v->Den Tryz.prog k [] [.fv (.sl (ak cs)),.int .i64 n] [] v):c9 (k,rwv f):=fun args v hv=>by
 dsimp only at hv;unfold rwv at hv;split at hv
 .split at hv
  .split at hv
   .rename_i cs f_ hb;rw[hG] at hb;obtain⟨rfl,b⟩:=zM f_;exact h cs _ v b (Nat.le_of_ble_eq_true hb.1) (Nat.le_of_ble_eq_true hb.2) hv
   cases hv
  cases hv
 cases hv
def Dh (x:Option PV) (vs:List PV):Option PV:=match x with | some v=>some (.tup (v::vs)) | none=>none
theorem A3 {x:Option PV} {vs:List PV} {v w:PV} (h:Dh x vs=some v) (hx: ∀ y,x=some y->y=w):v= .tup (w::vs):=by
 unfold Dh at h;split at h
 .rename_i y;cases h;rw[hx _ rfl]
 cases h
def e0 (v:PV):List PV->Option PV
 | []=>some v
 | _=>none
theorem aaQ {k:Nat} {v:PV} (h:Den Tryz.prog k [] [] [] v):c9 (k,e0 v):=fun args w hw=>by
 dsimp only at hw;unfold e0 at hw;split at hw
 .cases hw;exact h
 cases hw
def ents:List Ent:=[
 (kf (.func 113),e1 fun r=>some (.int .i64 (eg r.q))),
 (kf (.func 180),e1 fun r=>nv r.q),
 (kf (.func 61),e2 fun r s=>nv (r.q+s.q)),
 (kf (.func 181),e2 fun r s=>nv (r.q*s.q)),
 (kf (.func 236),e2 fun r s=>if s.q=0 then none else Dh (nv (r.q / s.q)) [.int .i64 0]),
 (kf (.func 58),eI fun n=>nv (n:Rat)),
 (kf (.func 234),e1 fun r=>nv (-r.q)),
 (kf (.func 200),e2 fun r s=>some (.int .i64 (eg (r.q - s.q)))),
 (kf (.func 247),e2 fun r s=>nv (r.q - s.q)),
 (kf (.func 30),eI fun n=>nv (n:Rat)),
 (kf (.func 34),e2 fun r s=>some (.int .i64 (eg (r.q - s.q)))),
 (kf (.func 106),l2 fun a b=>lO (mg a b)),
 (kf (.func 39),l1 fun a=>lO (a.map (fun r=>r.q*((-1:Int):Rat)))),
 (kf (.func 197),l1 fun a=>lO (Ex a)),
 (kf (.func 274),lv fun a v=>if(a.getD v rz).q=0 then Dh (lO (a.map Raw.q)) [.int .i64 0,.int .i64 0] else Dh (lO ((a.set v rz).map (fun r=>r.q*(-1 / (a.getD v rz).q)))) [.int .i64 (eg (a.getD v rz).q),.int .i64 0]),
 (kf (.func 140),lr fun a r=>lO (a.map (fun x=>x.q*r.q))),
 (kf (.func 115),l1 fun a=>some (.bool (b8 a))),
 (kf (.func 171),l2 fun a b=>lO (mg a b)),
 (kf (.func 137),l2 fun a b=>some (.int .i64 (bu a b))),
 (kf (.func 203),TQ Vn),
 (kf (.func 249),rwv fun s v=>some (.tup [.int .i64 (((dE s v).length:Int)*(bV s v).length - (dE s v).length - (bV s v).length),.bool (occ s v)])),
 (kf (.func 105),eI fun n=>if decide (0<=n)&&decide (n<8) then lO ((replicate 9 0).set n.toNat 1) else none),
 (kf (.func 107),e1 fun r=>lO ((replicate 9 0).set 8 r.q)),
 (kf (.func 108),e0 (PL (nu.map (fun t=>(t.1,BP t.2)))))]
theorem QT: ∀ e∈ents,c9 e:=by
 have ok: ∀ {r:Raw} {k:Nat},r.Ok 4->4<=k->r.Ok k:=fun h hk=>h.mono hk
 have lk: ∀ {r:List Raw} {k:Nat},LOk 4 r->4<=k->LOk k r:=fun h hk=>h.mono hk
 have sv: ∀ {k:Nat} {args:List PV} {w:PV},Den Tryz.prog k [] args [] w-> ∀ {v:PV},some w=some v->Den Tryz.prog k [] args [] v:=fun{_ _ _} h {_} e=>by cases e;exact h
 have w1:c9 (kf (.func 113),e1 fun r=>some (.int .i64 (eg r.q))):=HT fun r v h e=>sv (nP r (ok h (by decide))) e
 have w2:c9 (kf (.func 180),e1 fun r=>nv r.q):=HT fun r v h e=>by rw[kE e];exact GS r (ok h (by decide))
 have w3:c9 (kf (.func 61),e2 fun r s=>nv (r.q+s.q)):=zL fun r s v h g e=>by rw[kE e];exact Ce r s (ok h (by decide)) (ok g (by decide))
 have w4:c9 (kf (.func 181),e2 fun r s=>nv (r.q*s.q)):=zL fun r s v h g e=>by rw[kE e];exact Te r s (ok h (by decide)) (ok g (by decide))
 have w5:c9 (kf (.func 236),e2 fun r s=>if s.q=0 then none else Dh (nv (r.q / s.q)) [.int .i64 0]):=zL fun r s v h g e=>by
  split at e
  .cases e
  rename_i h0;rw[A3 e (fun y hy=>kE hy)];exact Ly r s (ok h (by decide)) (ok g (by decide)) h0
 have w6:c9 (kf (.func 58),eI fun n=>nv (n:Rat)):=M' fun n v h g e=>by rw[kE e];exact Cf n ⟨by omega,by omega⟩
 have w7:c9 (kf (.func 234),e1 fun r=>nv (-r.q)):=HT fun r v h e=>by rw[kE e];exact Lx r (ok h (by decide))
 have w8:c9 (kf (.func 200),e2 fun r s=>some (.int .i64 (eg (r.q - s.q)))):=zL fun r s v h g e=>sv (Ti r s (ok h (by decide)) (ok g (by decide))) e
 have w9:c9 (kf (.func 247),e2 fun r s=>nv (r.q - s.q)):=zL fun r s v h g e=>by rw[kE e];exact Th r s (ok h (by decide)) (ok g (by decide))
 have w10:c9 (kf (.func 30),eI fun n=>nv (n:Rat)):=M' fun n v h g e=>by rw[kE e];exact iP n ⟨by omega,by omega⟩
 have w11:c9 (kf (.func 34),e2 fun r s=>some (.int .i64 (eg (r.q - s.q)))):=zL fun r s v h g e=>sv (LF r s (ok h (by decide)) (ok g (by decide))) e
 have w12:c9 (kf (.func 106),l2 fun a b=>lO (mg a b)):=Nb fun a b v h g e=>by rw[ju e];exact G_ a b (lk h (by decide)) (lk g (by decide))
 have w13:c9 (kf (.func 39),l1 fun a=>lO (a.map (fun r=>r.q*((-1:Int):Rat)))):=Na fun a v h e=>by rw[ju e];exact Qr a (lk h (by decide))
 have w14:c9 (kf (.func 197),l1 fun a=>lO (Ex a)):=Na fun a v h e=>by rw[ju e];exact LO a (lk h (by decide))
 have w15:c9 (kf (.func 274),lv fun a v=>if(a.getD v rz).q=0 then Dh (lO (a.map Raw.q)) [.int .i64 0,.int .i64 0] else Dh (lO ((a.set v rz).map (fun r=>r.q*(-1 / (a.getD v rz).q)))) [.int .i64 (eg (a.getD v rz).q),.int .i64 0]):=aaP fun a n v h hn e=>by
  split at e
  .rename_i h0;rw[A3 e (fun y hy=>ju hy)];exact LP a n (lk h (by decide)) hn h0
  rename_i h0;rw[A3 e (fun y hy=>ju hy)];exact Tu a n (lk h (by decide)) hn h0
 have w16:c9 (kf (.func 140),lr fun a r=>lO (a.map (fun x=>x.q*r.q))):=aaO fun a r v h g e=>by rw[ju e];exact GX a r (lk h (by decide)) (ok g (by decide))
 have w17:c9 (kf (.func 115),l1 fun a=>some (.bool (b8 a))):=Na fun a v h e=>sv (L8 a (lk h (by decide))) e
 have w18:c9 (kf (.func 171),l2 fun a b=>lO (mg a b)):=Nb fun a b v h g e=>by rw[ju e];exact Tz a b (lk h (by decide)) (lk g (by decide))
 have w19:c9 (kf (.func 137),l2 fun a b=>some (.int .i64 (bu a b))):=Nb fun a b v h g e=>sv (G' a b (lk h (by decide)) (lk g (by decide))) e
 have w20:c9 (kf (.func 203),TQ Vn):=Fs fun cs v h e=>by
  unfold Vn at e;split at e
  .rename_i hb;have hl:cs.length<=12:=Nat.le_of_ble_eq_true hb;have nA:=Qg cs (fun l hl=>lk (h l hl) (by decide)) (by omega) (fun l hl _=>lk (h l hl) (by decide)) (ka (List.length_filter_le _ _) hl);split at e
   .rename_i hv;rw[if_pos hv] at nA;cases e;exact nA
   rename_i hv;rw[if_neg hv] at nA;split at e
   .rename_i w hw;cases e;rw[Fq hw,<-vu];exact nA
   cases e
  cases e
 have w21:c9 (kf (.func 249),rwv fun s v=>some (.tup [.int .i64 (((dE s v).length:Int)*(bV s v).length - (dE s v).length - (bV s v).length),.bool (occ s v)])):=Vo fun s n v h hn hl e=>sv (aac s n hn (fun l hl=>lk (h l hl) (by decide)) (by omega)) e
 have w22:c9 (kf (.func 105),eI fun n=>if decide (0<=n)&&decide (n<8) then lO ((replicate 9 0).set n.toNat 1) else none):=M' fun n v h g e=>by
  split at e
  .rename_i hb;rw[hG] at hb;have h0:=of_decide_eq_true hb.1;have h1:=of_decide_eq_true hb.2;have KY:=aah n.toNat (by omega);rw[Int.toNat_of_nonneg h0] at KY;rw[ju e,show FL ((replicate 9 (0:Rat)).set n.toNat 1)=RL (mD n.toNat) by unfold FL mD;rw[List.map_set,rO];rfl];exact KY
  cases e
 have w23:c9 (kf (.func 107),e1 fun r=>lO ((replicate 9 0).set 8 r.q)):=HT fun r v h e=>by rw[ju e,show FL ((replicate 9 (0:Rat)).set 8 r.q)=RL (dR r.q) by unfold FL dR;rw[List.map_set,rO]];exact Qq r (ok h (by decide))
 have w24:c9 (kf (.func 108),e0 (PL (nu.map (fun t=>(t.1,BP t.2))))):=aaQ (by
  have h:=aeZ;have e:nu.map (fun t=>(t.1,BP t.2))=nu.map tn:=by
   show [(z8,BP 1)]=[(z8,cn 1)];rw[A1 (by decide+kernel)]
  rw[e];exact h)
 intro e he;simp only[ents,uI,not_mem_nil,or_false] at he;rcases he with rfl | rfl | rfl | rfl | rfl | rfl | rfl | rfl | rfl | rfl | rfl | rfl | rfl | rfl | rfl | rfl | rfl | rfl | rfl | rfl | rfl | rfl | rfl | rfl<;>assumption
def HU (k:FuncId):List Ent->Option (List PV->Option PV)
 | []=>none
 | e::l=>if Nat.beq e.1 k then some e.2 else HU k l
def Vp:Ez:=fun k H0 args=>match H0 with
 | []=>match HU k ents with
  | some f=>match f args with | some v=>some ([],v) | none=>none
  | none=>none
 | _=>none
theorem Di {k:FuncId} {f:List PV->Option PV}: ∀ {l:List Ent},HU k l=some f->(k,f)∈l
 | [],h=>by cases h
 | e::l,h=>by
  unfold HU at h;split at h
  .rename_i hb;cases h;have:e.1=k:=Nat.eq_of_beq_eq_true hb;rw[<-this];exact List.mem_cons_self ..
  exact mem_cons_of_mem _ (Di h)
theorem QU:rX Tryz.prog Vp:=fun k H0 args H1 res h=>by
 unfold Vp at h;split at h
 .split at h
  .rename_i f hf;split at h
   .rename_i v hv;cases h;exact QT _ (Di hf) _ _ hv
   cases h
  cases h
 cases h
end Go.Proofs.YtiaaceeelfhdlaaGreat
