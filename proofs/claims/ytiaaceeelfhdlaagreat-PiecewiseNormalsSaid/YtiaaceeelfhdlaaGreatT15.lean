/- Contracts:sparse:Coefs. -/
import Derived.Test.YtiaaceeelfhdlaaGreatT14
import Derived.Test.YtiaaceeelfhdlaaGreatT9
import Derived.Test.YtiaaceeelfhdlaaGreatT13
import Derived.Test.YtiaaceeelfhdlaaGreatT1
set_option linter.all false
open Nat (reduceAdd reduceEqDiff reduceLT reduceLeDiff reduceMul reduceSub)
open List (drop_eq_getElem_cons foldl_cons length_cons length_map mem_cons_of_mem mem_map pairwise_cons replicate)
namespace Go.Proofs.YtiaaceeelfhdlaaGreat
open Go.AM Go.Pl
set_option maxRecDepth 100000
set_option maxHeartbeats 4000000
structure ahQ (q:List Tm) (cs:List (List Tm)):Prop where
 out: ∀ i,LOkT 1000000 100000 (hornT q (cs.drop i))/\(hornT q (cs.drop i)).length<=cE
 prod: ∀ i,LOkT 1000000 100000 (nf (prodT (hornT q (cs.drop i)) q))/\(nf (prodT (hornT q (cs.drop i)) q)).length<=cE
 part: ∀ c∈cs,LOkT 1000000 100000 c/\c.length<=cE
theorem p9:cE<=20:=by decide
def E' (m:List Int) (i:Nat):Int:=(m.take i).foldl max (m.getD 0 0)
theorem Mt {m:List Int} {i:Nat} (h:i<m.length):E' m (i+1)=max (E' m i) (m.getD i 0):=by
 unfold E';rw[List.take_add_one,qb h,List.foldl_append,qa (i:=i),qb h];rfl
theorem Qe {m:List Int} (h:0<m.length):E' m 1=m.getD 0 0:=by
 cases m with
 | nil=>simp at h
 | cons x m=>simp[E']
theorem wo: ∀ (m:List Int) (a N:Int),m.foldl max a<=N↔a<=N/\ ∀ x∈m,x<=N
 | [],a,N=>by simp
 | x::m,a,N=>by
  rw[foldl_cons,wo m (max a x) N];constructor
  .rintro⟨h1,h2⟩;exact⟨by omega,fun y hy=>by
    rcases List.mem_cons.1 hy with rfl | hy
    .omega
    exact h2 y hy⟩
  rintro⟨h1,h2⟩;exact⟨by have:=h2 x (by simp);omega,fun y hy=>h2 y (mem_cons_of_mem _ hy)⟩
theorem Mu {m:List Int} {N:Int} (h:0<m.length):E' m m.length<=N↔ ∀ x∈m,x<=N:=by
 unfold E';rw[List.take_length,wo];constructor
 .exact fun h2=>h2.2
 refine fun h2=>⟨h2 _ ?_,h2⟩
 rw[qa,qb h];exact pP h
def AH (p:List Tm):Int:=p.foldl (fun d t=>max d (E' t.1 8)) 0
theorem Jf {p:List Tm} {i:Nat} (h:i<p.length):AH (p.take (i+1))=max (AH (p.take i)) (E' p[i].1 8):=by
 unfold AH;rw[List.take_add_one,qb h,List.foldl_append];rfl
theorem Z3 (m:List Int) (h0:0<m.length) (hn:m.length<=1000):Den Tryz.prog 254 [] [.fv (.sl (ints m))] [] (.int .i64 (E' m m.length)):=by
 have il:=cD m;obtain⟨n,cB⟩:=ax m.length;rw[cB] at il h0 hn ⊢;have h1:decide ((n:Int)<1)=false:=qV;have g0:=jz (xs:=m) (i:=0) (by omega);have m1:=Qe (m:=m) (by omega);refine dq Tryz.func254 24 0 ?_;refine cz (bB il h1 g0) ?_
 repeat refine ae ?_
 refine wl (α:=Nat) (fun i=>⟨[.fv (.sl (ints m)),.any,.any,.int .i64 (E' m i),.int .i64 i]++replicate 20 .any,[]⟩) (fun i=>n - i) (fun i=>1<=i/\i<=n) 1 ?_ ⟨qp _,by omega⟩ ?_
 .rw[m1];exact bP []
 rintro i ⟨pJ,hi⟩;refine cz il ?_;refine bK ?_ ?_
 .intro h2 h3;have gi:=jz (xs:=m) (i:=i) (by omega);have bQ:=Mt (m:=m) (i:=i) (by omega);obtain⟨x,hx⟩:=ax (m.getD i 0);rw[hx] at gi bQ;obtain⟨y,hy⟩:=ax (E' m i);rw[hy] at bQ ⊢;refine ah (bB h3 il gi) ?_
  repeat refine ae ?_
  refine aw (i+1) ?_ ⟨by omega,by omega⟩;rw[bQ];refine fW [] ?_ ?_
  .simp[bO,eT,cJ,aU];split<;>omega
  simp[fM,fC,aU,cJ,bA,bh,aZ,bJ]
 intro h2 h3;have j6:i=n:=by omega
 subst j6;refine ah h3 ?_;refine bc rfl
theorem aeO (p:List Tm) (hl:Len8 p) (he: ∀ t∈p,∀ x∈t.1,-1000000000000<=x/\x<=1000000000000) (hn:p.length<=10000):Den Tryz.prog 217 [] [PL (p.map tn)] [] (.int .i64 (AH p)):=by
 have rp:=ay (p.map tn);rw[length_map] at rp;obtain⟨n,cB⟩:=ax p.length;rw[cB] at rp hn;refine dq Tryz.func217 18 0 ?_;refine cz rp ?_;refine wl (α:=Nat) (fun i=>⟨[PL (p.map tn),.any,.any,.int .i64 (AH (p.take i)),.any,.any,PL (p.map tn),.int .i64 n,.int .i64 i]++replicate 10 .any,[]⟩) (fun i=>n - i) (fun i=>i<=n) 0 ?_ (dU _) ?_
 .refine fW [] ?_ ?_
  .simp[bO,eT,cJ,aU];rfl
  simp[fM,fC,aU,cJ,bA,bh,aZ,bJ]
 intro i hi;refine aW ?_;refine bK ?_ ?_
 .intro h1 h2;have eV:i<p.length:=by omega
  have r1:=E_ eV;have hm:=hl _ (pP eV);have bQ:=Jf eV;obtain⟨t,ht⟩:=ax (p[i]);rw[ht] at r1 hm bQ;have h8:(tn t).1.length=8:=hm;have Ku:=bM h8;have fl:=aR h8;have cl:=aL h8;have c8:=eJ h8;change List.take 8 (gH (tn t))=mC t.1 at c8;have WE:=Z3 t.1 (by omega) (by omega);rw[hm] at WE;have g1:=rv t.1 8 hm;have i1:List.take 8 (ints t.1)=ints t.1:=dm (by rw[cD];omega);obtain⟨x,hx⟩:=ax (E' t.1 8);rw[hx] at WE bQ;obtain⟨y,hy⟩:=ax (AH (p.take i));rw[hy] at bQ ⊢;simp -dsimp(disch:=omega) only[h2,r1,Ku,eY,fl,cl,rp,List.append_nil,c8,mn,nU,g1,Option.isSome_none,imp_self,i1,IntKind.bits,Int.reduceToNat,Int.reducePow,Option.isNone_none,↓reduceIte,reduceCtorEq,reduceAdd,reduceMul,reduceSub,Nat.reduceBEq,reduceEqDiff,reduceLT,reduceLeDiff,ru]
  repeat refine ae ?_
  refine gp WE (by simp[bH,eS,dS,dI]) ?_;refine a9 ?_
  repeat refine ae ?_
  refine aw (i+1) ?_ (by omega);rw[bQ];refine fW [] ?_ ?_
  .simp[bO,eT,cJ,aU];split<;>omega
  simp[fM,fC,aU,cJ,bA,bh,aZ,bJ]
 intro h1 h2;have XX:p.take i=p:=dm (by omega);rw[XX];refine ah h2 ?_;refine bc rfl
theorem CS: ∀ (p:List Tm) (a N:Int),p.foldl (fun d t=>max d (E' t.1 8)) a<=N↔a<=N/\ ∀ t∈p,E' t.1 8<=N
 | [],a,N=>by simp
 | t::p,a,N=>by
  rw[foldl_cons,CS p _ N];constructor
  .rintro⟨h1,h2⟩;exact⟨by omega,fun y hy=>by
    rcases List.mem_cons.1 hy with rfl | hy
    .omega
    exact h2 y hy⟩
  rintro⟨h1,h2⟩;exact⟨by have:=h2 t (by simp);omega,fun y hy=>h2 y (mem_cons_of_mem _ hy)⟩
theorem Qf {p:List Tm} {N:Int} (hN:0<=N) (hl:Len8 p):AH p<=N↔ ∀ t∈p,∀ x∈t.1,x<=N:=by
 unfold AH;rw[CS];constructor
 .rintro⟨_,h⟩ t ht;have h8:=hl t ht;have:=h t ht;rw[<-h8] at this;exact(Mu (by omega)).1 this
 intro h;refine⟨hN,fun t ht=>?_⟩;have h8:=hl t ht;have:=(Mu (m:=t.1) (N:=N) (by omega)).2 (h t ht);rwa [h8] at this
theorem Z4 (p:List Tm) (hp:LOkT 1000000000 1024 p) (hn:p.length<=10000):Den Tryz.prog 169 [] [PL (p.map tn)] [] (.tup [PL (p.map tn),.int .i64 0]):=by
 have XI:=aeO p hp.len (fun t ht x hx=>by have:=hp.exp t ht x hx;omega) hn;have ht:=(Qf (N:=1024) (by decide) hp.len).2 (fun t ht x hx=>(hp.exp t ht x hx).2);obtain⟨x,hx⟩:=ax (AH p);rw[hx] at XI ht;obtain⟨P,hP⟩:=ax (p.map tn);rw[hP] at XI ⊢;have e1:decide (x>1024)=false:=qV;refine dq Tryz.func169 7 0 ?_;refine aW ?_;refine aM XI ?_;simp -dsimp(disch:=omega) only[e1,IntKind.bits,Int.reduceToNat,Int.reducePow,Option.isNone_none,↓reduceIte,reduceCtorEq,reduceAdd,reduceMul,reduceSub,Nat.reduceBEq,reduceEqDiff,reduceLT,reduceLeDiff,ru];refine bc rfl
theorem Z5 {k j n:Nat} {E:Int} {p:List Tm} (hj:1<=j) (h:LOkT j E p) (hn:p.length<=n) (hk:n*(j+1)+1<=k):POk k E (nf p):=
 ⟨dW h.len,((PB.terms hj h.bd hn hk).nf).bd (by omega),LY (P:=fun m=> ∀ e∈m,0<=e/\e<=E) h.exp⟩
theorem POk.validB {k:Nat} {p:List Tm} (h:POk k 1024 p):validB (p.map tn)=true:=by
 unfold Go.Proofs.YtiaaceeelfhdlaaGreat.validB;rw[nF];intro t ht;obtain⟨u,hu,rfl⟩:=mem_map.1 ht;unfold iA;rw[nF];intro e he;have:=h.exp u hu e he;rw[hG];exact⟨iK this.1,iK this.2⟩
abbrev fV (g:Nat):PV:= .fv (.lit (.func (.func g) #[] #[]))
theorem aeP (p q:List Tm) (hp:POk 10000000 1024 p) (hq:POk 10000000 1024 q) (qR:p.length<=cE) (hqs:q.length<=cE) (hs:(nf (p++q)).length<=cE):
 Den Tryz.prog 73 [] [PL (p.map tn),PL (q.map tn)] [] (.tup [PL ((nf (p++q)).map tn),.int .i64 0]):=by
 have hm:=p9
 have tsp:=hp.ts (by decide)
 have tsq:=hq.ts (by decide)
 have v1:=Hi (p.map tn) tsp.l8 (by rw[length_map];omega)
 have v2:=Hi (q.map tn) tsq.l8 (by rw[length_map];omega)
 rw[hp.validB] at v1
 rw[hq.validB] at v2
 have n1:=Hj (p.map tn) (fun t ht=>(tsp t ht).mono (by decide)) (by rw[dQ];exact PB.terms (n:=20) (j:=10000000) (by decide) hp.bd (by omega) (by decide)) (by rw[length_map];omega) (by rw[dQ,oN hp.canon];exact qR)
 have n2:=Hj (q.map tn) (fun t ht=>(tsq t ht).mono (by decide)) (by rw[dQ];exact PB.terms (n:=20) (j:=10000000) (by decide) hq.bd (by omega) (by decide)) (by rw[length_map];omega) (by rw[dQ,oN hq.canon];exact hqs)
 rw[dQ,oN hp.canon] at n1
 rw[dQ,oN hq.canon] at n2
 have hl:=hp.l.app hq.l
 have Sk:=U4 p q (hp.l.mono (by decide) (by decide)) (hq.l.mono (by decide) (by decide)) (by omega) (by omega) hs
 have hr:=Z5 (k:=1000000000) (n:=40) (by decide) hl (by rw[qe];omega) (by decide)
 have acd:=Z4 (nf (p++q)) hr.l (by omega)
 obtain⟨P,hP⟩:=ax (p.map tn)
 obtain⟨Q,hQ⟩:=ax (q.map tn)
 obtain⟨R,hR⟩:=ax ((nf (p++q)).map tn)
 rw[hP] at v1 n1 Sk
 rw[hQ] at v2 n2 Sk
 rw[hR] at Sk acd
 rw[hP,hQ,hR]
 have ago:Den Tryz.prog 142 [] [PL P,PL Q,fV 143] [] (.tup [PL R,.int .i64 0]):=by
  refine dq Tryz.func142 22 0 ?_;refine aW ?_;refine aM v1 ?_;refine ah @Bool.not_true ?_;refine aM v2 ?_;refine ah @Bool.not_true ?_;refine aM n1 ?_;refine a9 ?_;refine aM n2 ?_;refine a9 ?_;refine aM Sk ?_;refine a9 ?_;refine aM acd ?_;refine a9 ?_;refine bc rfl
 refine dq Tryz.func73 9 0 ?_
 refine aW ?_
 refine aM ago ?_
 refine a9 ?_
 refine bc rfl
def wq (cs:List (List Raw)):List (List Raw):=(ncs cs).map cT
theorem tY {cs:List (List Raw)} {l:List Raw} (h:b8 l=true):wq (cs++[l])=wq cs:=by simp[wq,ncs,List.filter_append,h]
theorem zr {cs:List (List Raw)} {l:List Raw} (h:b8 l=false):wq (cs++[l])=wq cs++[cT l]:=by simp[wq,ncs,List.filter_append,h]
theorem mB {cs:List (List Raw)} {l:List Raw}:dk (cs++[l])=(dk cs||(b8 l&&decide (co l 8<0))):=by simp[dk,List.any_append]
theorem fh {cs:List (List Raw)} {i:Nat} (h:i<cs.length):cs.take (i+1)=cs.take i++[cs.getD i []]:=by
 rw[List.take_succ_eq_append_getElem h,qa,qb h];rfl
theorem CT {cs:List (List Raw)} {i:Nat} (h:dk (cs.take i)=true):dk cs=true:=by
 unfold dk at h ⊢;rw[qpb] at h ⊢;obtain⟨l,hl,h2⟩:=h;exact⟨l,xY hl,h2⟩
theorem CU {cs:List (List Raw)} {i:Nat}:(wq (cs.take i)).length<=(ncs cs).length:=by
 unfold wq;rw[length_map];unfold ncs;exact List.Sublist.length_le (List.Sublist.filter _ (List.take_sublist i cs))
theorem bX {ls:List (List Raw)} {n:Nat} (h:ls.length<=n):List.take n (ak ls)=ak ls:=dm (by rw[aq];exact h)
theorem cP (ls:List (List Raw)) (x:List Raw):ak ls++[bR x]=ak (ls++[x]):=by simp[ak]
theorem U5 {l:List Raw} (h:l.length=9):((flat l).drop 24).take 3=(l.getD 8 rz).f.map .fv:=by
 match l,h with
 | [a,b,c,d,e,f,g,i,j],_=>rfl
theorem kr {l:List Raw} (h:l.length=9):((flat l).drop 24)=[.fv (.lit (.bool (l.getD 8 rz).neg)),.fv (.sl (u32s (l.getD 8 rz).num)),.fv (.sl (u32s (l.getD 8 rz).den))]:=by
 match l,h with
 | [a,b,c,d,e,f,g,i,j],_=>rfl
theorem Qg (cs:List (List Raw)) (bf:AOk 1000000000 cs) (hn:cs.length<=1000) (gj: ∀ l∈cs,¬aO l->LOk 1000 l) (h12:(ncs cs).length<=12):
 Den Tryz.prog 203 [] [.fv (.sl (ak cs))] [] (if dk cs then .tup [.fv (.sl []),.bool false] else .tup [.fv (.sl (ak (sysL cs []))),.bool true]):=by
 obtain⟨n,cB⟩:=ax cs.length
 obtain⟨R,hR⟩: ∃ R:PV,(if dk cs then .tup [.fv (.sl []),.bool false] else .tup [.fv (.sl (ak (sysL cs []))),.bool true])=R:=⟨_,rfl⟩
 rw[hR]
 have rl:=aq cs
 rw[cB] at rl
 refine dq Tryz.func203 28 0 ?_
 refine cz rl ?_
 refine wl (α:=Nat×List (List Raw)) (fun⟨i,out⟩=>⟨[.fv (.sl (ak cs)),.any,.nilsl,.bool false,.lsl 0 0 out.length 27,.any,.any,.fv (.sl (ak cs)),.int .i64 n,.int .i64 i]++replicate 19 .any,[.row true (ak out)]⟩)
  (fun⟨i,_⟩=>n - i) (fun⟨i,out⟩=>i<=n/\out=wq (cs.take i)/\dk (cs.take i)=false) (0,[]) ?_ ?_ ?_
 .refine Weak.nil 4 27 (by decide) rfl ?_
  refine fW [0] ?_ ?_
  .simp[bO,eT,cJ,aU]
  simp[fM,fC,aU,cJ,bA,bh,aZ,bJ]
  rfl
 .exact⟨dU _,rfl,rfl⟩
 rintro⟨i,out⟩ ⟨hi,cZ,uC⟩
 have sc:out.length<=12:=by rw[cZ];exact ka CU h12
 obtain⟨L,hL⟩:=ax out.length
 have rlo:=aq out
 rw[hL] at rlo sc
 dsimp only
 rw[hL]
 refine aW ?_
 refine bK ?_ ?_
 .intro h1 h2
  have ec:=fh (cs:=cs) (i:=i) (by omega)
  have hx:=bf.at (i:=i) (by omega)
  have bC:=cr (ls:=cs) (i:=i) (by omega)
  have r1:=ba cs i
  obtain⟨x,iW⟩:=ax (cs.getD i [])
  rw[iW] at hx bC r1 ec
  have hc:=L8 x hx
  have lx:=hx.len
  have l_:=aB lx
  have fx:=aI x
  have gx:=ag x
  have fU:=ar lx
  have OG:=kr lx
  obtain⟨b,hb⟩:=ax (b8 x)
  rw[hb] at hc
  unfold RL at hc
  refine aF (f0 h2 r1 l_ fx gx lx fU) ?_
  repeat refine ae ?_
  refine hY hc ?_
  cases b with
  | true=>
   have g_:=nP (x.getD 8 rz) ((hx.at 8).mono (by decide));have nD:co x 8=(x.getD 8 rz).q:=rfl;obtain⟨r,hr⟩:=ax (x.getD 8 rz);rw[hr] at g_ OG nD;unfold Raw.v at g_;refine aF (bB OG gx lx) ?_
   repeat refine ae ?_
   refine aM g_ ?_;refine kI ?_;refine bK ?_ ?_
   .intro h3 h4;have hv:dk (cs.take (i+1))=true:=by
     rw[ec,mB,hb,nD,iK (eR.1 h3)];simp
    rw[if_pos (CT hv)] at hR;subst hR;refine aF h4 ?_;refine bc rfl
   .intro h3 h4;have hv:dk (cs.take (i+1))=false:=by
     rw[ec,mB,hb,nD,mU (fun h=>h3 (eR.2 h)),uC];simp
    refine aF h4 ?_;refine aw (i+1,out) ?_ ⟨by omega,by rw[ec,tY hb];exact cZ,hv⟩;exact bP [0]
  | false=>
   have l9: ¬aO x:=fun h=>by rw[(cA lx).2 h] at hb;cases hb
   have hN:=LO x (gj x bC l9);have hv:dk (cs.take (i+1))=false:=by
    rw[ec,mB,hb,uC];simp
   have d7:=f4 lx;change Den Tryz.prog _ [] [RL x] [] (RL (cT x)) at hN;have hos:=zr (cs:=cs.take i) hb;have e8:=cP out (cT x);obtain⟨y,hy⟩:=ax (cT x);rw[hy] at hN d7 hos e8;have gy:=ag y;have fD:=bX (ls:=out) (n:=L) (by omega);have nh:=aB d7;unfold RL at hN;refine aF (bB fU gx lx) ?_
   repeat refine ae ?_
   refine hY hN ?_;refine aF (kX gy d7 fD nh e8 rlo) ?_
   repeat refine ae ?_
   refine aw (i+1,out++[y]) ?_ ⟨by omega,by rw[ec,hos,cZ],hv⟩;exact bP [3]
 intro h1 h2
 have j6:i=n:=by omega
 have fD:cs.take i=cs:=dm (by omega)
 rw[fD] at cZ uC
 rw[uC,if_neg (by simp)] at hR
 have h9: ∀ l∈cs,l.length=9:=fun l hl=>(bf l hl).len
 have jE:AOk 1000000000 out:=fun f hf=>by
  rw[cZ] at hf;obtain⟨l,hl,rfl⟩:=mem_map.1 hf;obtain⟨h3,h4⟩:=(jr h9).1 hl;exact(mq (gj l h3 h4) (by decide)).mono (by decide)
 obtain⟨ls',oz,acf⟩:=aeJ out jE (by omega)
 have agp:=jE.of_mem oz.mem
 have hl':=oz.len
 have eF: ∀ a∈ls',∀ b∈ls',bu a b=0->a=b:=by
  intro a ha b hb uz;have key: ∀ f∈ls',IsCn f:=fun f hf=>by
   have:=(oz.mem f).1 hf;rw[cZ] at this;obtain⟨l,hl,rfl⟩:=mem_map.1 this;exact oU (h9 l ((jr h9).1 hl).1)
  exact zm (key a ha) (key b hb) uz
 obtain⟨H1,res,⟨fo,rfl,rfl,T_⟩,h88⟩:=aeN ls' agp (by omega) eF oz.ord
 have agr:IsSys cs fo:=⟨T_.sorted,fun f=>by
  rw[T_.mem,oz.mem,cZ];unfold wq;rw[mem_map];constructor
  .rintro⟨l,hl,rfl⟩;obtain⟨h3,h4⟩:=(jr h9).1 hl;exact⟨l,h3,h4,rfl⟩
  rintro⟨l,h3,h4,rfl⟩;exact⟨l,(jr h9).2 ⟨h3,h4⟩,rfl⟩⟩
 have he:=agr.eq h9
 rw[<-he] at hR
 have T':ls'.length=L:=by omega
 rw[hL] at acf
 rw[T'] at h88
 have tF:=bX (ls:=fo) (qp _)
 have Eh:=aq fo
 subst hR
 refine ah h2 ?_
 refine d6 0 acf trivial ?_
 refine cv ?_
 refine d6 0 h88 trivial ?_
 refine cv ?_
 refine Ph (vs:=[.lsl 0 0 fo.length 27,.bool true]) rfl ⟨b',b',b'⟩ (show qG [Ob.row true (ak fo)] [] (.tup [.lsl 0 0 fo.length 27,.bool true])=_ from ?_)
 exact j8 (a8 tF Eh)
end Go.Proofs.YtiaaceeelfhdlaaGreat
namespace Go.Pl
open Go.AM
def GoodS (s:List (List Raw)):Prop:= ∃ k,1<=k/\SysF k s/\Sz k s
theorem GoodS.len9 {s:List (List Raw)} (h:GoodS s): ∀ l∈s,l.length=9:=by
 obtain⟨k,hk,hs,hz⟩:=h;exact fun l hl=>(hs.ok l hl).len
theorem GoodS.lim {s:List (List Raw)} (h:GoodS s): ∀ l∈s,LOk 1000 l:=by
 obtain⟨k,hk,hs,hz⟩:=h;exact hz.lim hs
theorem GoodS.len {s:List (List Raw)} (h:GoodS s):s.length<=12:=by
 obtain⟨k,hk,hs,hz⟩:=h;exact hz.len hs
theorem GoodS.nc {s:List (List Raw)} (h:GoodS s): ∀ l∈s,¬aO l:=by
 obtain⟨k,hk,hs,hz⟩:=h;exact hs.nc
theorem zt:dX []=true:=iB.2 Mi
def yj:Rat->List Rat->Rat
 | m,[]=>m
 | m,q::l=>yj (if 0<eg (q - m) then q else m) l
def minL:Rat->List Rat->Rat
 | m,[]=>m
 | m,q::l=>minL (if eg (q - m)<0 then q else m) l
theorem CV: ∀ (l:List Rat) (m:Rat),yj m l∈m::l
 | [],m=>by simp[yj]
 | q::l,m=>by
  have:=CV l (if 0<eg (q - m) then q else m);unfold yj;rcases List.mem_cons.1 this with h | h
  .rw[h];split<;>simp
  simp[h]
theorem AI: ∀ (l:List Rat) (m:Rat),∀ q∈m::l,q<=yj m l
 | [],m,q,h=>by simp at h;subst h;simp[yj]
 | p::l,m,q,h=>by
  have ih:=AI l (if 0<eg (p - m) then p else m);unfold yj;have h0:=ih _ (List.mem_cons_self ..);have h2:p<=(if 0<eg (p - m) then p else m)/\m<=(if 0<eg (p - m) then p else m):=by
   split
   .rename_i h3;rw[fG] at h3;constructor<;>grind
   rename_i h3;rw[fG] at h3;constructor<;>grind
  rcases List.mem_cons.1 h with h1 | h1
  .subst h1;exact Rat.le_trans h2.2 h0
  rcases List.mem_cons.1 h1 with h4 | h4
  .subst h4;exact Rat.le_trans h2.1 h0
  exact ih q (mem_cons_of_mem _ h4)
theorem CW: ∀ (l:List Rat) (m:Rat),minL m l∈m::l
 | [],m=>by simp[minL]
 | q::l,m=>by
  have:=CW l (if eg (q - m)<0 then q else m);unfold minL;rcases List.mem_cons.1 this with h | h
  .rw[h];split<;>simp
  simp[h]
theorem AJ: ∀ (l:List Rat) (m:Rat),∀ q∈m::l,minL m l<=q
 | [],m,q,h=>by simp at h;subst h;simp[minL]
 | p::l,m,q,h=>by
  have ih:=AJ l (if eg (p - m)<0 then p else m);unfold minL;have h0:=ih _ (List.mem_cons_self ..);have h2:(if eg (p - m)<0 then p else m)<=p/\(if eg (p - m)<0 then p else m)<=m:=by
   split
   .rename_i h3;rw[eR] at h3;constructor<;>grind
   rename_i h3;rw[eR] at h3;constructor<;>grind
  rcases List.mem_cons.1 h with h1 | h1
  .subst h1;exact Rat.le_trans h0 h2.2
  rcases List.mem_cons.1 h1 with h4 | h4
  .subst h4;exact Rat.le_trans h0 h2.1
  exact ih q (mem_cons_of_mem _ h4)
def aeQ (s:List (List Raw)) (v:Nat):List Rat:=(dE s v).map (fun b=>co b 8)
def Z6 (s:List (List Raw)) (v:Nat):List Rat:=(bV s v).map (fun b=>co b 8)
def ajq (s:List (List Raw)) (v:Nat):Option (Rat×Rat):=match aeQ s v,Z6 s v with
 | a::l,b::h=>some (yj a l,minL b h)
 | _,_=>none
structure CsOk (cs:List (List Raw)):Prop where
 ok: ∀ l∈cs,LOk 10000 l
 len:cs.length<=100
 nc:(ncs cs).length<=12
 good:GoodS (sysL cs [])
 nok: ∀ l∈cs,¬aO l->LOk 1000 l
theorem CsOk.len9 {cs:List (List Raw)} (h:CsOk cs): ∀ l∈cs,l.length=9:=fun l hl=>(h.ok l hl).len
theorem s4 {l:List Raw}: ∀ (cs s:List (List Raw)),sysL (cs++[l]) s=if b8 l then sysL cs s else xZ (cT l) (sysL cs s)
 | [],s=>by simp[sysL]
 | k::cs,s=>by
  simp only[List.cons_append,sysL];split
  .exact s4 cs s
  exact s4 cs _
theorem AK {f:List Raw}: ∀ (i:Nat) (out:List (List Raw)),i<=out.length->(∀ j,j<i->bu (out.getD j []) f<0)->xZ f out=out.take i++xZ f (out.drop i)
 | 0,out,_,_=>by simp
 | i+1,[],h,_=>by simp at h
 | i+1,a::out,h,hj=>by
  have h0:bu a f<0:=hj 0 (by omega);have ih:=AK i out (by simp at h;omega) (fun j o5=>hj (j+1) (by omega));simp only[List.take_succ_cons,List.drop_succ_cons,List.cons_append]
  conv=>lhs;unfold xZ
  rw[if_pos h0,ih]
theorem Qh {f:List Raw} {out:List (List Raw)} (hj: ∀ j,j<out.length->bu (out.getD j []) f<0):xZ f out=out++[f]:=by
 rw[AK out.length out (qp _) hj];simp[xZ]
theorem Jg {f:List Raw} {out:List (List Raw)} {i:Nat} (hi:i<out.length) (hj: ∀ j,j<i->bu (out.getD j []) f<0) (h:bu (out.getD i []) f=0):xZ f out=out:=by
 rw[AK i out (by omega) hj,drop_eq_getElem_cons hi];have e:out[i]=out.getD i []:=by rw[qa,qb hi];rfl
 rw[e];unfold xZ;rw[if_neg (by omega),if_pos h,<-e,<-drop_eq_getElem_cons hi,List.take_append_drop]
theorem Qi {f:List Raw} {out:List (List Raw)} {i:Nat} (hi:i<out.length) (hj: ∀ j,j<i->bu (out.getD j []) f<0) (h:0<bu (out.getD i []) f):xZ f out=out.take i++[f]++out.drop i:=by
 rw[AK i out (by omega) hj,drop_eq_getElem_cons hi];have e:out[i]=out.getD i []:=by rw[qa,qb hi];rfl
 rw[e];unfold xZ;rw[if_neg (by omega),if_neg (by omega)];simp
theorem Jh {c:Rat} (h:c≠0):0<dV c:=sW h
theorem s5 {l:List Raw} (hl:l.length=9): ∃ r:Rat,0<r/\ ∀ i,i<9->co (cT l) i=r*co l i:=by
 by_cases h:(bF l).q=0
 .refine⟨1,by decide,fun i hi=>?_⟩;have hz:co l i=0:=mf h _ (Mf (by omega));rw[hz,Rat.mul_zero];unfold cT co;rw[lA h,zeros_map,qa,List.getElem?_replicate,if_pos hi];exact cK 0
 refine⟨1 / dV (bF l).q,?_,fun i hi=>?_⟩
 .have:=Jh h;have h2:(1:Rat) / dV (bF l).q*dV (bF l).q=1:=by grind
  by_cases h3:0<1 / dV (bF l).q
  .exact h3
  exfalso;have h4:=Rat.mul_nonneg (show 0<= -(1 / dV (bF l).q) by grind) (show 0<=dV (bF l).q by grind);grind
 rw[rA hl h hi];grind
where
 zeros_map:(replicate 9 (0:Rat)).map cn=replicate 9 (cn 0):=by simp
theorem tZ {l:List Raw} (hl:l.length=9):b8 (cT l)=b8 l:=by
 obtain⟨r,hr,h⟩:=s5 hl;have h2:b8 (cT l)=true↔b8 l=true:=by
  rw[cA (f4 hl),cA hl];constructor
  .intro hc i hi;have:=hc i hi;rw[h i (by omega)] at this;rcases Rat.mul_eq_zero.1 this with h3 | h3
   .grind
   exact h3
  intro hc i hi;rw[h i (by omega),hc i hi,Rat.mul_zero]
 cases h3:b8 l<;>cases h4:b8 (cT l)<;>simp_all
theorem zw {l:List Raw} (hl:l.length=9):(co (cT l) 8<0↔co l 8<0)/\(co (cT l) 8<=0↔co l 8<=0):=by
 obtain⟨r,hr,h⟩:=s5 hl;rw[h 8 (by omega)];have hp:0<co l 8->0<r*co l 8:=fun h0=>Rat.mul_pos hr h0
 have hn:co l 8<0->r*co l 8<0:=fun h0=>by
  have:=Rat.mul_pos hr (show 0< -(co l 8) by grind);grind
 have hz:co l 8=0->r*co l 8=0:=fun h0=>by rw[h0,Rat.mul_zero]
 constructor<;>constructor<;>intro h1<;>grind
theorem Fa {l m:List Raw} {v:Nat} {r:Rat} (hl:l.length=9) (hm:m.length=9) (hv:v<8) (hr:0<r) (h: ∀ i,i<9->co m i=r*co l i) (h0:co l v≠0):en v m=en v l:=by
 unfold en;congr 1;apply List.ext_getElem
 .simp[hl,hm]
 intro i h1 h2;simp only[length_map,Uy] at h1 h2;simp only[List.getElem_map,List.getElem_set];have e1:(m.getD v rz).q=r*(l.getD v rz).q:=h v (by omega);have e2: ∀ (k:List Raw) (hk:i<k.length),k[i].q=co k i:=fun k hk=>by unfold co;rw[qa,qb hk];rfl
 have XY:(l.getD v rz).q≠0:=h0;split
 .have:rz.q=0:=PZ;rw[this,Rat.zero_mul,Rat.zero_mul]
 rw[e2 m (by omega),e2 l (by omega),h i (by omega),e1];grind
where
 PZ:rz.q=0:=by
  have:=cK 0;unfold Raw.q rz f2;simp[val]
def uK (s:List (List Raw)) (v:Nat):List (List Raw):=fH s v++(dE s v).flatMap fun l=>(bV s v).map fun u=>d9 u l
theorem nY {s:List (List Raw)} {v:Nat} {o:List Raw}:o∈uK s v↔o∈eo s v:=by
 unfold uK eo;rw[qr,qr,List.mem_flatMap,List.mem_flatMap];constructor
 .rintro(h | ⟨l,hl,h⟩)
  .exact .inl h
  obtain⟨u,hu,rfl⟩:=mem_map.1 h;exact .inr ⟨u,hu,mem_map.2 ⟨l,hl,rfl⟩⟩
 rintro(h | ⟨u,hu,h⟩)
 .exact .inl h
 obtain⟨l,hl,rfl⟩:=mem_map.1 h;exact .inr ⟨l,hl,mem_map.2 ⟨u,hu,rfl⟩⟩
theorem ku {cs s:List (List Raw)} {v:Nat} (hv:v<8) (h9: ∀ l∈cs,l.length=9) (l9: ∀ l∈cs,¬aO l) (h:IsSys cs s) (b:List Raw):(b∈dE s v↔b∈dE cs v)/\(b∈bV s v↔b∈bV cs v):=by
 have key: ∀ l∈cs,(0<co (cT l) v↔0<co l v)/\(co (cT l) v<0↔co l v<0)/\(co l v≠0->en v (cT l)=en v l):=by
  intro l hl;obtain⟨r,hr,hc⟩:=s5 (h9 l hl);have e:=hc v (by omega);have hp:0<co l v->0<r*co l v:=fun h0=>Rat.mul_pos hr h0
  have hn:co l v<0->r*co l v<0:=fun h0=>by
   have:=Rat.mul_pos hr (show 0< -(co l v) by grind);grind
  have hz:co l v=0->r*co l v=0:=fun h0=>by rw[h0,Rat.mul_zero]
  refine⟨by rw[e];constructor<;>intro h1<;>grind,by rw[e];constructor<;>intro h1<;>grind,fun h0=>Fa (h9 l hl) (f4 (h9 l hl)) hv hr hc h0⟩
 constructor
 .rw[gh,gh];constructor
  .rintro⟨f,hf,h1,rfl⟩;obtain⟨l,hl,hc,rfl⟩:=(h.mem f).1 hf;have hp:=(key l hl).1.1 h1;exact⟨l,hl,hp,(key l hl).2.2 (by grind)⟩
  rintro⟨l,hl,h1,rfl⟩;exact⟨cT l,(h.mem _).2 ⟨l,hl,l9 l hl,rfl⟩,(key l hl).1.2 h1,((key l hl).2.2 (by grind)).symm⟩
 rw[fc,fc];constructor
 .rintro⟨f,hf,h1,rfl⟩;obtain⟨l,hl,hc,rfl⟩:=(h.mem f).1 hf;have hp:=(key l hl).2.1.1 h1;exact⟨l,hl,hp,(key l hl).2.2 (by grind)⟩
 rintro⟨l,hl,h1,rfl⟩;exact⟨cT l,(h.mem _).2 ⟨l,hl,l9 l hl,rfl⟩,(key l hl).2.1.2 h1,((key l hl).2.2 (by grind)).symm⟩
theorem Qj {cs s:List (List Raw)} {v:Nat} (hv:v<8) (h9: ∀ l∈cs,l.length=9) (l9: ∀ l∈cs,¬aO l) (h:IsSys cs s):I3 s v↔I3 cs v:=by
 unfold I3;constructor
 .rintro⟨u,hu,l,hl,h2⟩;exact⟨u,(ku hv h9 l9 h u).2.1 hu,l,(ku hv h9 l9 h l).1.1 hl,h2⟩
 rintro⟨u,hu,l,hl,h2⟩;exact⟨u,(ku hv h9 l9 h u).2.2 hu,l,(ku hv h9 l9 h l).1.2 hl,h2⟩
theorem Qk {cs s:List (List Raw)} {v:Nat} (hv:v<8) (h9: ∀ l∈cs,l.length=9) (l9: ∀ l∈cs,¬aO l) (h:IsSys cs s):IsSys (uK cs v) (iq s v):=by
 have h9s: ∀ l∈s,l.length=9:=fun f hf=>by
  obtain⟨l,hl,_,rfl⟩:=(h.mem f).1 hf;exact f4 (h9 l hl)
 have hs:=iJ (gR (v:=v) h9s);refine⟨hs.sorted,fun f=>?_⟩;change f∈sysL (eo s v) []↔_;rw[hs.mem];have nD: ∀ l∈cs,(co (cT l) v=0↔co l v=0):=fun l hl=>AB (h9 l hl) (l9 l hl) (by omega)
 constructor
 .rintro⟨o,ho,hc,rfl⟩;rcases fN.1 ho with⟨h1,h2⟩ | ⟨l,hl,u,hu,h1,h2,rfl⟩
  .obtain⟨l,hl,XO,rfl⟩:=(h.mem o).1 h1;refine⟨l,nY.2 (fN.2 (.inl ⟨hl,(nD l hl).1 h2⟩)),XO,?_⟩;rw[lD (h9 l hl)]
  have hL:=(ku hv h9 l9 h _).1.1 (gh.2 ⟨l,hl,h1,rfl⟩);have hU:=(ku hv h9 l9 h _).2.1 (fc.2 ⟨u,hu,h2,rfl⟩);refine⟨d9 (en v u) (en v l),nY.2 ?_,hc,rfl⟩;unfold eo;rw[qr,List.mem_flatMap];exact .inr ⟨_,hU,mem_map.2 ⟨_,hL,rfl⟩⟩
 rintro⟨o,ho,hc,rfl⟩;rcases fN.1 (nY.1 ho) with⟨h1,h2⟩ | ⟨l,hl,u,hu,h1,h2,rfl⟩
 .refine⟨cT o,fN.2 (.inl ⟨(h.mem _).2 ⟨o,h1,hc,rfl⟩,(nD o h1).2 h2⟩),jN (h9 o h1) hc,?_⟩;rw[lD (h9 o h1)]
 have hL:=(ku hv h9 l9 h _).1.2 (gh.2 ⟨l,hl,h1,rfl⟩);have hU:=(ku hv h9 l9 h _).2.2 (fc.2 ⟨u,hu,h2,rfl⟩);refine⟨d9 (en v u) (en v l),?_,hc,rfl⟩;unfold eo;rw[qr,List.mem_flatMap];exact .inr ⟨_,hU,mem_map.2 ⟨_,hL,rfl⟩⟩
theorem Ql {cs s:List (List Raw)} (h9: ∀ l∈cs,l.length=9):IsSys ((ncs cs).map cT) s↔IsSys cs s:=by
 have key: ∀ f,(∃ l∈(ncs cs).map cT,¬aO l/\f=cT l)↔ ∃ l∈cs,¬aO l/\f=cT l:=by
  intro f;constructor
  .rintro⟨g,hg,hc,rfl⟩;obtain⟨l,hl,rfl⟩:=mem_map.1 hg;obtain⟨h1,h2⟩:=(jr h9).1 hl;exact⟨l,h1,h2,by rw[lD (h9 l h1)]⟩
  rintro⟨l,hl,hc,rfl⟩;exact⟨cT l,mem_map.2 ⟨l,(jr h9).2 ⟨hl,hc⟩,rfl⟩,jN (h9 l hl) hc,by rw[lD (h9 l hl)]⟩
 exact⟨fun h=>⟨h.sorted,fun f=>by rw[h.mem,key]⟩,fun h=>⟨h.sorted,fun f=>by rw[h.mem,key]⟩⟩
structure Pre (cs:List (List Raw)):Prop where
 cnf: ∀ l∈cs,IsCn l
 nc: ∀ l∈cs,¬aO l
 ok: ∀ l∈cs,LOk 1000 l
 len:cs.length<=13
 good:GoodS (sysL cs [])
theorem GoodS.cnf {s:List (List Raw)} (h:GoodS s): ∀ l∈s,IsCn l:=by
 have h9:=h.len9;obtain⟨k,hk,hs,hz⟩:=h;exact fun l hl=>by rw[<-hs.nm l hl];exact oU (h9 l hl)
theorem GoodS.self {s:List (List Raw)} (h:GoodS s):sysL s []=s:=by
 have h9:=h.len9;obtain⟨k,hk,hs,hz⟩:=h;exact(hs.self.eq h9).symm
theorem GoodS.pre {s:List (List Raw)} (h:GoodS s):Pre s:=⟨h.cnf,h.nc,h.lim,by have:=h.len;omega,by rw[h.self];exact h⟩
theorem AL (cs:List (List Raw)):(ncs cs).length<=cs.length:=List.length_filter_le _ _
theorem Ji {cs:List (List Raw)} (h: ∀ l∈cs,b8 l=true):ncs cs=[]:=by
 unfold ncs;exact ko (fun l hl=>by rw[h l hl];rfl)
def dR (q:Rat):List Raw:=(replicate 9 (cn 0)).set 8 (cn q)
def mD (v:Nat):List Raw:=(replicate 9 (cn 0)).set v (cn ((1:Int):Rat))
theorem Mv {v w:Nat} {q:Rat} (_:v<9) (hw:w<9):co ((replicate 9 (cn 0)).set v (cn q)) w=if w=v then q else 0:=by
 unfold co;rw[qa,List.getElem?_set];by_cases h:v=w
 .subst h;rw[if_pos rfl,if_pos (by simp;omega),if_pos rfl,Option.getD_some,cK]
 rw[if_neg h,if_neg (fun e=>h e.symm),List.getElem?_replicate,if_pos hw,Option.getD_some,cK]
theorem s6 {w:Nat} {q:Rat} (hw:w<9):co (dR q) w=if w=8 then q else 0:=Mv (by omega) hw
theorem AO {v w:Nat} (hv:v<9) (hw:w<9):co (mD v) w=if w=v then 1 else 0:=Mv hv hw
theorem Qm (l:List Raw) (x:Nat->Rat):bw l x=co l 8+co l 0*x 0+co l 1*x 1+co l 2*x 2+co l 3*x 3+co l 4*x 4+co l 5*x 5+co l 6*x 6+co l 7*x 7:=rfl
def p_ (s:List (List Raw)) (i:Nat):List (List Raw):=s.take i++s.drop (i+1)
theorem vk {s:List (List Raw)} {i:Nat}:(p_ s i).Sublist s:=by
 unfold p_;have h:=List.take_append_drop i s
 conv=>rhs;rw[<-h]
 refine List.Sublist.append (List.Sublist.refl _) ?_;rw[<-List.drop_drop];exact List.drop_sublist _ _
theorem vm {s:List (List Raw)} {i:Nat} (h:i<s.length):(p_ s i).length+1=s.length:=by
 unfold p_;rw[qe,qf,qt];omega
theorem Hp {s:List (List Raw)} {i:Nat} {l:List Raw} (h:l∈p_ s i):l∈s:=vk.subset h
def GoodT (s:List (List Raw)):Prop:= ∃ k,1<=k/\SysF k s/\Sz (k+1) s
theorem Sz.mono {j k:Nat} {s:List (List Raw)} (h:Sz k s) (hk:j<=k):Sz j s:=⟨h.n3,fun h3=>by have:=h.c3 h3;omega,fun h2=>by have:=h.c2 h2;omega,fun h1=>by have:=h.c1 h1;omega⟩
theorem Sz.sub {k:Nat} {s t:List (List Raw)} (h:Sz k s) (hl:t.length<=s.length) (hn:bt t<=bt s):Sz k t:=by
 have h3:=h.n3;have c3:=h.c3;have c2:=h.c2;have c1:=h.c1;refine⟨by omega,fun h=>?_,fun h=>?_,fun h=>?_⟩
 .have:=c3 (by omega);omega
 .have:bt s=2\/bt s=3:=by omega
  rcases this with h5 | h5
  .have:=c2 h5;omega
  have:=c3 h5;omega
 have:bt s=1\/bt s=2\/bt s=3:=by omega
 rcases this with h5 | h5 | h5
 .have:=c1 h5;omega
 .have:=c2 h5;omega
 have:=c3 h5;omega
theorem Jj {s t:List (List Raw)} (h: ∀ l∈t,l∈s):bt t<=bt s:=rE (fun w _ ho=>by
 obtain⟨l,hl,h0⟩:=ei.1 ho;exact ei.2 ⟨l,h l hl,h0⟩)
theorem GoodT.good {s:List (List Raw)} (h:GoodT s):GoodS s:=by
 obtain⟨k,hk,hs,hz⟩:=h;exact⟨k,hk,hs,hz.mono (by omega)⟩
theorem GoodT.sub {s t:List (List Raw)} (h:GoodT s) (ht:t.Sublist s):GoodT t:=by
 obtain⟨k,hk,hs,hz⟩:=h;exact⟨k,hk,⟨hs.sorted.sublist ht,fun l hl=>hs.ok l (ht.subset hl),fun l hl=>hs.nc l (ht.subset hl),fun l hl=>hs.nm l (ht.subset hl)⟩,hz.sub ht.length_le (Jj (fun l hl=>ht.subset hl))⟩
theorem Jk (l:List Raw):(bF (dL l)).q= -(bF l).q:=by
 have h:=sV (C:= -1) (by decide) (rs:=l);have e:(l.map (fun r=>r.q / (-1)))=l.map (fun r=>r.q*((-1:Int):Rat)):=List.map_congr_left (fun r _=>by
  have:((-1:Int):Rat)= -1:=rfl;rw[this];grind)
 rw[e] at h;show(bF (((l.map (fun r=>r.q*((-1:Int):Rat))).map cn))).q=_;rw[h];grind
theorem Mw (c:Rat):dV (-c)=dV c:=by
 unfold dV;have h1:(-c).num<0↔ -c<0:=gB;have h2:c.num<0↔c<0:=gB;split<;>split<;>grind
theorem Hq (l:List Raw) (h:l.length=9):IsCn (dL l):=⟨l.map (fun r=>r.q*((-1:Int):Rat)),rfl,by simp[h]⟩
theorem Mx {f g:List Raw} (hf:IsCn f) (hg:IsCn g) (h: ∀ i,i<9->co f i=co g i):f=g:=by
 have lf:=hf.len;have lg:=hg.len;obtain⟨p,rfl,hp⟩:=hf;obtain⟨q,rfl,hq⟩:=hg;congr 1;apply List.ext_getElem (by omega);intro i h1 h2;have:=h i (by omega);unfold co at this;rw[qa,qb (by simpa using h1),qa,qb (by simpa using h2)] at this;simp only[Option.getD_some,List.getElem_map,cK] at this;exact this
theorem My {l:List Raw} (h9:l.length=9) (hc: ¬aO l):cT (dL l)=dL (cT l):=by
 have hn9:=dG h9;have h0:=Hb h9 hc;have e:=Jk l;have XY:(bF (dL l)).q≠0:=by rw[e];grind
 refine Mx (oU hn9) (Hq _ (f4 h9)) (fun i hi=>?_);rw[rA hn9 XY hi,jo h9 hi,jo (f4 h9) hi,rA h9 h0 hi,e,Mw];grind
theorem U6 {l:List Raw} (h9:l.length=9) (hc: ¬aO l): ¬aO (dL l):=fun h=>hc (fun i hi=>by
 have:=h i hi;rw[jo h9 (by omega)] at this;grind)
theorem GoodT.turn {s t:List (List Raw)} (h:GoodT s) (ht: ∀ l∈t,l∈s) {x:List Raw} (hx:x∈s) (hl:t.length+1<=s.length):GoodS (sysL (t++[dL x]) [])/\Pre (t++[dL x]):=by
 have aA:=h.good.len;have j_:=h.good.lim;have sx:=h.good.cnf;obtain⟨k,hk,hs,hz⟩:=h;have h9: ∀ l∈s,l.length=9:=fun l hl=>(hs.ok l hl).len
 have h9t: ∀ l∈t++[dL x],l.length=9:=fun l hl=>by
  rcases List.mem_append.1 hl with h1 | h1
  .exact h9 l (ht l h1)
  rw[List.mem_singleton.1 h1];exact dG (h9 x hx)
 have l9: ∀ l∈t++[dL x],¬aO l:=fun l hl=>by
  rcases List.mem_append.1 hl with h1 | h1
  .exact hs.nc l (ht l h1)
  rw[List.mem_singleton.1 h1];exact U6 (h9 x hx) (hs.nc x hx)
 have Ef:=iJ h9t;have bf: ∀ l∈t++[dL x],¬aO l->LOk (k+1) (cT l):=fun l hl _=>by
  rcases List.mem_append.1 hl with h1 | h1
  .rw[hs.nm l (ht l h1)];exact(hs.ok l (ht l h1)).mono (by omega)
  rw[List.mem_singleton.1 h1,My (h9 x hx) (hs.nc x hx),hs.nm x hx];exact rD (hs.ok x hx) hk
 have hnv:bt (sysL (t++[dL x]) [])<=bt s:=by
  rw[oT h9t Ef];refine rE (fun w hw ho=>?_);obtain⟨l,hl,h0⟩:=ei.1 ho;rcases List.mem_append.1 hl with h1 | h1
  .exact ei.2 ⟨l,ht l h1,h0⟩
  rw[List.mem_singleton.1 h1,jo (h9 x hx) (by omega)] at h0;exact ei.2 ⟨x,hx,fun h2=>h0 (by rw[h2];rfl)⟩
 have jF:=mr h9t Ef;have cX:=AL (t++[dL x]);rw[qe,IA] at cX;have hg:GoodS (sysL (t++[dL x]) []):=⟨k+1,by omega,SysF.of h9t Ef bf,hz.sub (by omega) hnv⟩;refine⟨hg,?_,l9,?_,?_,hg⟩
 .intro l hl;rcases List.mem_append.1 hl with h1 | h1
  .exact sx l (ht l h1)
  rw[List.mem_singleton.1 h1];exact Hq x (h9 x hx)
 .have hzk:k+1<=1000:=(hz.all (kq hx (hs.nc x hx))).2;intro l hl;rcases List.mem_append.1 hl with h1 | h1
  .exact j_ l (ht l h1)
  rw[List.mem_singleton.1 h1];exact(rD (hs.ok x hx) hk).mono hzk
 rw[qe,IA];omega
noncomputable def Jl (s:List (List Raw)) (i:Nat):Bool:=dX (sysL (p_ s i++[dL (s.getD i [])]) [])
noncomputable def wt:Nat->Nat->List (List Raw)->List (List Raw)
 | 0,_,s=>s
 | n+1,i,s=>if i<s.length then(if Jl s i then wt n (i+1) s else wt n i (p_ s i)) else s
noncomputable def c7 (cs:List (List Raw)):List (List Raw):=if cN cs then wt (sysL cs []).length 0 (sysL cs []) else [dR ((-1:Int):Rat)]
theorem rJ: ∀ (n i:Nat) (s:List (List Raw)),(wt n i s).Sublist s
 | 0,_,s=>List.Sublist.refl s
 | n+1,i,s=>by
  unfold wt;split
  .split
   .exact rJ n (i+1) s
   exact(rJ n i (p_ s i)).trans vk
  exact List.Sublist.refl s
theorem Jm {t:List (List Raw)} (h: ∀ l∈t,¬aO l): ¬CE t:=fun⟨l,hl,hc,_⟩=>h l hl hc
theorem Mz {t:List (List Raw)} (h9: ∀ l∈t,l.length=9) (h: ∀ l∈t,¬aO l):cN t=dX (sysL t []):=by
 unfold cN;have:dk t=false:=by
  cases hv:dk t with
  | false=>rfl
  | true=>exact absurd ((lF h9).1 hv) (Jm h)
 rw[this];rfl
structure KT (ds:List (List Raw)):Prop where
 cs:CsOk ds
 good:GoodT (sysL ds [])
theorem Z7 (a c:Rat) (ha:0<a): ∃ e:Rat,0<e/\ ∀ t:Rat,-e<=t->t<=e->0<a+c*t:=by
 by_cases h0:c=0
 .exact⟨1,by decide,fun t _ _=>by rw[h0,Rat.zero_mul,Rat.add_zero];exact ha⟩
 by_cases hp:0<c
 .have hce:c*(a / (2*c))=a / 2:=by grind
  have he:0<a / (2*c):=by
   by_cases h:0<a / (2*c)
   .exact h
   exfalso;have:=Rat.mul_nonneg (show 0<= -(a / (2*c)) by grind) (show 0<=c by grind);grind
  refine⟨a / (2*c),he,fun t h1 _=>?_⟩;have:=Rat.mul_nonneg (show 0<=t+a / (2*c) by grind) (show 0<=c by grind);grind
 have hn:0< -c:=by grind
 have hce:(-c)*(a / (2*(-c)))=a / 2:=by grind
 have he:0<a / (2*(-c)):=by
  by_cases h:0<a / (2*(-c))
  .exact h
  exfalso;have:=Rat.mul_nonneg (show 0<= -(a / (2*(-c))) by grind) (show 0<= -c by grind);grind
 refine⟨a / (2*(-c)),he,fun t _ h2=>?_⟩;have:=Rat.mul_nonneg (show 0<=a / (2*(-c)) - t by grind) (show 0<= -c by grind);grind
noncomputable def Z8 (s:List (List Raw)):List (List Raw):=wt s.length 0 s
def Irr (s:List (List Raw)):Prop:= ∀ j,j<s.length->Jl s j=true
theorem MA (s:List (List Raw)):(Z8 s).Sublist s:=rJ _ _ _
theorem Jn {s:List (List Raw)} (h:GoodT s):GoodT (Z8 s):=h.sub (MA s)
structure ajr (c d:List (List Raw)) (i:Nat):Prop where
 good:GoodT d
 feas:dX d=true
 irr:Irr d
 pos: ∀ x,Ey d x↔ ∃ t,Ey c (upd x i t)
 occs: ∀ w,w<8->w≠i->Pl.occ c w=false->Pl.occ d w=false
 gone:Pl.occ d i=false
structure ajs (v n i:Nat) (c d:List (List Raw)):Prop where
 good:GoodT d
 irr:Irr d
 feas:dX d=true
 pos: ∀ x,Ey d x↔ ∃ y,(∀ w,(w<i\/i+n<=w\/w=v)->y w=x w)/\Ey c y
 occs:(∀ w,w<i->w≠v->Pl.occ c w=false)-> ∀ w,w<i+n->w≠v->Pl.occ d w=false
end Go.Pl
namespace Go.Pl
open Go.AM
end Go.Pl
namespace Go.Pl
open Go.AM
def way (x y:Nat->Rat) (t:Rat):Nat->Rat:=fun i=>x i+t*(y i - x i)
theorem MB (a:List Raw) (x y:Nat->Rat) (t:Rat): ∀ k,lv a (way x y t) k=lv a x k+t*(lv a y k - lv a x k)
 | 0=>by simp only[lv];grind
 | k+1=>by
  simp only[lv];rw[MB a x y t k];simp only[way];grind
theorem rK (a:List Raw) (x y:Nat->Rat) (t:Rat):bw a (way x y t)=bw a x+t*(bw a y - bw a x):=MB a x y t 8
theorem Hr (y:Nat->Rat): ∀ (s:List (List Raw)) (x:Nat->Rat),Ey s x-> ∃ e:Rat,0<e/\ ∀ t:Rat,0<=t->t<=e->Ey s (way x y t)
 | [],x,_=>⟨1,by decide,fun t _ _ l hl=>by simp at hl⟩
 | m::s,x,h=>by
  obtain⟨e1,h1,k1⟩:=Hr y s x (fun l hl=>h l (mem_cons_of_mem _ hl));obtain⟨e2,h2,k2⟩:=Z7 (bw m x) (bw m y - bw m x) (h m (by simp));by_cases h3:e1<=e2
  .refine⟨e1,h1,fun t ht1 R5 l hl=>?_⟩;rcases List.mem_cons.1 hl with h4 | h4
   .subst h4;rw[rK];have:=k2 t (by grind) (by grind);grind
   exact k1 t ht1 R5 l h4
  refine⟨e2,h2,fun t ht1 R5 l hl=>?_⟩;rcases List.mem_cons.1 hl with h4 | h4
  .subst h4;rw[rK];have:=k2 t (by grind) R5;grind
  exact k1 t ht1 (by grind) l h4
theorem touch {s:List (List Raw)} {l m:List Raw} {z x0:Nat->Rat} (H: ∀ x,Ey s x->0<bw l x->0<bw m x) (hz:Ey s z) (hl:bw l z=0) (hm:bw m z<=0) (hx:0<bw l x0):
 bw m z=0/\ ∀ y,0<bw l y->0<bw m y:=by
 have key: ∀ y,0<bw l y-> ∃ e:Rat,0<e/\ ∀ t:Rat,0<t->t<=e->0<bw m z+t*(bw m y - bw m z):=by
  intro y hy;obtain⟨e,he,k⟩:=Hr y s z hz;refine⟨e,he,fun t h1 h2=>?_⟩;have h3:=H _ (k t (Rat.le_of_lt h1) h2) (by
   rw[rK,hl];have:=Rat.mul_pos h1 hy;grind)
  rw[rK] at h3;exact h3
 have h0:bw m z=0:=by
  by_cases h:bw m z=0
  .exact h
  exfalso;obtain⟨e,he,k⟩:=key x0 hx;obtain⟨e2,OH,k2⟩:=Z7 (-bw m z) (-(bw m x0 - bw m z)) (by grind);by_cases h3:e<=e2
  .have a1:=k e he Rat.le_refl;have a2:=k2 e (by grind) h3;grind
  have a1:=k e2 OH (by grind);have a2:=k2 e2 (by grind) Rat.le_refl;grind
 refine⟨h0,fun y hy=>?_⟩
 obtain⟨e,he,k⟩:=key y hy
 have a1:=k e he Rat.le_refl
 rw[h0] at a1
 by_cases h:0<bw m y
 .exact h
 exfalso
 have:=Rat.mul_nonneg (Rat.le_of_lt he) (show 0<= -bw m y by grind)
 grind
end Go.Pl
namespace Go.Pl
open Go.AM
theorem MC {k:Nat} {q:Rat} (hk:1<=k) (h:Bd k q):LOk k (dR q):=by
 have:dR q=((replicate 9 (0:Rat)).set 8 q).map cn:=by simp[dR]
 rw[this];refine LOk.of_map (by simp) (fun p hp=>?_);rcases List.mem_or_eq_of_mem_set hp with h1 | h1
 .rw[List.eq_of_mem_replicate h1];exact Bd.zero hk
 rw[h1];exact h
theorem rz_ok (k:Nat):rz.Ok k:=by
 refine⟨?_,?_,?_,?_⟩<;>simp[rz,Dig]
end Go.Pl
namespace Go.Pl
open Go.AM
theorem zx:LOk 1 (dR ((-1:Int):Rat)):=MC (by decide) ⟨by decide,by decide⟩
abbrev Kc:=List (List Raw)
abbrev RC:=List (List Raw)×List Tm
def bT:Kc->Kc->Int
 | [],[]=>0
 | [],_::_=> -1
 | _::_,[]=>1
 | a::az,b::bs=>if bu a b=0 then bT az bs else bu a b
def CnK (k:Kc):Prop:= ∀ f∈k,IsCn f
theorem CnK.tail {f:List Raw} {k:Kc} (h:CnK (f::k)):CnK k:=fun g hg=>h g (mem_cons_of_mem _ hg)
theorem CnK.head {f:List Raw} {k:Kc} (h:CnK (f::k)):IsCn f:=h f (by simp)
theorem lI: ∀ a:Kc,bT a a=0
 | []=>rfl
 | a::az=>by unfold bT;rw[if_pos (I6 a)];exact lI az
theorem fQ: ∀ a b:Kc,bT a b= -bT b a
 | [],[]=>rfl
 | [],_::_=>rfl
 | _::_,[]=>rfl
 | a::az,b::bs=>by
  have h:=ed a b;unfold bT;by_cases h0:bu a b=0
  .rw[if_pos h0,if_pos (by omega)];exact fQ az bs
  rw[if_neg h0,if_neg (by omega)];exact h
theorem kv: ∀ {a b:Kc},CnK a->CnK b->bT a b=0->a=b
 | [],[],_,_,_=>rfl
 | [],_::_,_,_,h=>by simp[bT] at h
 | _::_,[],_,_,h=>by simp[bT] at h
 | a::az,b::bs,ha,hb,h=>by
  unfold bT at h;by_cases h0:bu a b=0
  .rw[if_pos h0] at h;rw[zm ha.head hb.head h0,kv ha.tail hb.tail h]
  rw[if_neg h0] at h;exact absurd h h0
theorem mE: ∀ {a b c:Kc},CnK a->CnK b->CnK c->bT a b<0->bT b c<0->bT a c<0
 | [],[],_,_,_,_,h,_=>by simp[bT] at h
 | [],_::_,[],_,_,_,_,h=>by simp[bT] at h
 | [],_::_,_::_,_,_,_,_,_=>by simp[bT]
 | _::_,[],_,_,_,_,h,_=>by simp[bT] at h
 | _::_,_::_,[],_,_,_,_,h=>by simp[bT] at h
 | a::az,b::bs,c::cs,ha,hb,hc,h1,h2=>by
  unfold bT at h1 h2 ⊢;by_cases e1:bu a b=0
  .rw[if_pos e1] at h1;rw[zm ha.head hb.head e1];by_cases e2:bu b c=0
   .rw[if_pos e2] at h2 ⊢;exact mE ha.tail hb.tail hc.tail h1 h2
   rw[if_neg e2] at h2 ⊢;exact h2
  rw[if_neg e1] at h1;by_cases e2:bu b c=0
  .rw[<-zm hb.head hc.head e2,if_neg e1];exact h1
  rw[if_neg e2] at h2;have:=tT ha.head hb.head hc.head h1 h2;rw[if_neg (by omega)];exact this
theorem wu {a b c:Kc} (ha:CnK a) (hb:CnK b) (hc:CnK c) (h1:bT a b<0) (h2:bT b c<=0):bT a c<0:=by
 by_cases h:bT b c=0
 .rw[<-kv hb hc h];exact h1
 exact mE ha hb hc h1 (by omega)
theorem yk {a b c:Kc} (ha:CnK a) (hb:CnK b) (hc:CnK c) (h1:bT a b<=0) (h2:bT b c<=0):bT a c<=0:=by
 by_cases h:bT a b=0
 .rw[kv ha hb h];exact h2
 have:=wu ha hb hc (by omega) h2;omega
instance:DecidableEq Raw:=fun a b=>decidable_of_iff (a.neg=b.neg/\a.num=b.num/\a.den=b.den) ⟨fun⟨h1,h2,h3⟩=>by cases a;cases b;simp_all,fun h=>by subst h;exact⟨rfl,rfl,rfl⟩⟩
def da (k:Kc) (m:Mn):List RC->Rat
 | []=>0
 | r::l=>(if r.1=k then b_ m r.2 else 0)+da k m l
theorem kz (k:Kc) (m:Mn): ∀ a b:List RC,da k m (a++b)=da k m a+da k m b
 | [],b=>by simp[da,Rat.zero_add]
 | r::a,b=>by
  rw[List.cons_append,da,da,kz k m a b,Rat.add_assoc]
theorem Jo {k:Kc} {m:Mn} {a b:List RC} (h:a.Perm b):da k m a=da k m b:=by
 induction h with
 | nil=>rfl
 | cons x _ ih=>rw[da,da,ih]
 | swap x y l=>simp only[da];grind
 | trans _ _ h1 h2=>rw[h1,h2]
theorem oX {k:Kc} {m:Mn}: ∀ {l:List RC},(∀ r∈l,r.1≠k)->da k m l=0
 | [],_=>rfl
 | r::l,h=>by
  rw[da,if_neg (h r (by simp)),oX (fun x hx=>h x (mem_cons_of_mem _ hx))];grind
structure NF (l:List RC):Prop where
 sorted:l.Pairwise (fun a b=>bT a.1 b.1<0)
 cn: ∀ r∈l,CnK r.1
 can: ∀ r∈l,Canon r.2
 ne: ∀ r∈l,r.2≠[]
theorem NF.nil:NF []:=⟨.nil,by simp,by simp,by simp⟩
theorem NF.tail {r:RC} {l:List RC} (h:NF (r::l)):NF l:=
 ⟨(pairwise_cons.1 h.sorted).2,fun x hx=>h.cn x (mem_cons_of_mem _ hx),fun x hx=>h.can x (mem_cons_of_mem _ hx),fun x hx=>h.ne x (mem_cons_of_mem _ hx)⟩
theorem NF.head {r:RC} {l:List RC} (h:NF (r::l)): ∀ x∈l,bT r.1 x.1<0:=(pairwise_cons.1 h.sorted).1
theorem NF.up {k:Kc} {m:Mn} {r:RC} {l:List RC} (h:NF (r::l)) (hk:CnK k) (hc:bT k r.1<0):da k m (r::l)=0:=
 oX (fun x hx he=>by
  rcases List.mem_cons.1 hx with h1 | h1
  .rw[h1] at he;rw[he,lI] at hc;omega
  have:=mE hk (h.cn r (by simp)) (h.cn x hx) hc (h.head x h1);rw[he,lI] at this;omega)
theorem NF.own {m:Mn} {r:RC} {l:List RC} (h:NF (r::l)):da r.1 m (r::l)=b_ m r.2:=by
 rw[da,if_pos rfl,oX (fun x hx he=>by have:=h.head x hx;rw[he,lI] at this;omega)];grind
theorem jT {p:List Tm} (hp:Canon p) (h:p≠[]): ∃ m,b_ m p≠0:=by
 match p,hp,h with
 | t::q,hp,_=>exact⟨t.1,by rw[hp.sum_head];exact hp.nz t (by simp)⟩
theorem NF.uniq: ∀ {p q:List RC},NF p->NF q->(∀ k m,CnK k->da k m p=da k m q)->p=q
 | [],[],_,_,_=>rfl
 | [],r::q,_,hq,h=>by
  obtain⟨m,hm⟩:=jT (hq.can r (by simp)) (hq.ne r (by simp));have:=h r.1 m (hq.cn r (by simp));rw[hq.own,da] at this;exact absurd this.symm hm
 | r::p,[],hp,_,h=>by
  obtain⟨m,hm⟩:=jT (hp.can r (by simp)) (hp.ne r (by simp));have:=h r.1 m (hp.cn r (by simp));rw[hp.own,da] at this;exact absurd this hm
 | r::p,s::q,hp,hq,h=>by
  have hr:=hp.cn r (by simp);have hs:=hq.cn s (by simp);have Gh:=fQ r.1 s.1;by_cases h1:bT r.1 s.1<0
  .obtain⟨m,hm⟩:=jT (hp.can r (by simp)) (hp.ne r (by simp));have:=h r.1 m hr;rw[hp.own,hq.up hr h1] at this;exact absurd this hm
  by_cases h2:bT s.1 r.1<0
  .obtain⟨m,hm⟩:=jT (hq.can s (by simp)) (hq.ne s (by simp));have:=h s.1 m hs;rw[hq.own,hp.up hs h2] at this;exact absurd this.symm hm
  have he:r.1=s.1:=kv hr hs (by omega);have acg:r.2=s.2:=mi (hp.can r (by simp)) (hq.can s (by simp)) (fun m=>by
   have:=h r.1 m hr;rw[hp.own,he,hq.own] at this;exact this)
  have e8:r=s:=Prod.ext he acg;rw[e8];rw[e8] at h;rw[NF.uniq hp.tail hq.tail (fun k m hk=>by
   have:=h k m hk;rw[da,da] at this;grind)]
def f5:List RC->RC->List RC
 | [],r=>if r.2=[] then [] else [r]
 | x::l,r=>if r.2=[] then x::l else if bT x.1 r.1<0 then x::f5 l r else
  if bT x.1 r.1=0 then(if nf (r.2++x.2)=[] then l else(r.1,nf (r.2++x.2))::l) else r::x::l
theorem CX: ∀ {l:List RC} {r y:RC},y∈f5 l r->y∈l\/y.1=r.1
 | [],r,y,h=>by
  unfold f5 at h;split at h
  .simp at h
  .rw[qz] at h;right;rw[h]
 | x::l,r,y,h=>by
  unfold f5 at h;split at h
  .exact .inl h
  split at h
  .rcases List.mem_cons.1 h with h | h
   .left;rw[h];simp
   rcases CX h with h | h
   .exact .inl (mem_cons_of_mem _ h)
   exact .inr h
  split at h
  .split at h
   .exact .inl (mem_cons_of_mem _ h)
   rcases List.mem_cons.1 h with h | h
   .right;rw[h]
   exact .inl (mem_cons_of_mem _ h)
  rcases List.mem_cons.1 h with h | h
  .right;rw[h]
  exact .inl h
theorem CY (k:Kc) (m:Mn): ∀ {l:List RC} {r:RC},(∀ x∈l,CnK x.1)->CnK r.1->da k m (f5 l r)=da k m l+(if r.1=k then b_ m r.2 else 0)
 | [],r,_,hr=>by
  unfold f5;by_cases h:r.2=[]
  .rw[if_pos h,h];simp[da,b_];grind
  .rw[if_neg h];simp only[da];grind
 | x::l,r,hl,hr=>by
  unfold f5;by_cases h:r.2=[]
  .rw[if_pos h,h];simp[b_];grind
  rw[if_neg h];by_cases h1:bT x.1 r.1<0
  .rw[if_pos h1,da,CY k m (fun y hy=>hl y (mem_cons_of_mem _ hy)) hr,da];grind
  rw[if_neg h1];by_cases h2:bT x.1 r.1=0
  .rw[if_pos h2];have he:=kv (hl x (by simp)) hr h2;have hs:b_ m (nf (r.2++x.2))=b_ m r.2+b_ m x.2:=by rw[sP,fF]
   by_cases h3:nf (r.2++x.2)=[]
   .rw[if_pos h3];rw[h3] at hs;have h0:b_ m ([]:List Tm)=0:=rfl;rw[h0] at hs;rw[da,he];split<;>grind
   rw[if_neg h3,da,da,he];dsimp only;rw[hs];split<;>grind
  rw[if_neg h2];simp only[da];grind
theorem Hs: ∀ {l:List RC} {r:RC},NF l->CnK r.1->Canon r.2->NF (f5 l r)
 | [],r,_,hr,hc=>by
  unfold f5;split
  .exact .nil
  .next h=>exact⟨by simp,by simpa using hr,by simpa using hc,by simpa using h⟩
 | x::l,r,hl,hr,hc=>by
  unfold f5;by_cases h:r.2=[]
  .rw[if_pos h];exact hl
  rw[if_neg h];have hx:=hl.cn x (by simp);by_cases h1:bT x.1 r.1<0
  .rw[if_pos h1];have ih:=Hs hl.tail hr hc;refine⟨pairwise_cons.2 ⟨fun y hy=>?_,ih.sorted⟩,fun y hy=>?_,fun y hy=>?_,fun y hy=>?_⟩
   .rcases CX hy with h2 | h2
    .exact hl.head y h2
    rw[h2];exact h1
   .rcases List.mem_cons.1 hy with h2 | h2
    .rw[h2];exact hx
    exact ih.cn y h2
   .rcases List.mem_cons.1 hy with h2 | h2
    .rw[h2];exact hl.can x (by simp)
    exact ih.can y h2
   rcases List.mem_cons.1 hy with h2 | h2
   .rw[h2];exact hl.ne x (by simp)
   exact ih.ne y h2
  rw[if_neg h1];by_cases h2:bT x.1 r.1=0
  .rw[if_pos h2];have he:=kv hx hr h2;by_cases h3:nf (r.2++x.2)=[]
   .rw[if_pos h3];exact hl.tail
   rw[if_neg h3];refine⟨pairwise_cons.2 ⟨fun y hy=>?_,hl.tail.sorted⟩,fun y hy=>?_,fun y hy=>?_,fun y hy=>?_⟩
   .have:=hl.head y hy;rw[he] at this;exact this
   .rcases List.mem_cons.1 hy with h4 | h4
    .rw[h4];exact hr
    exact hl.tail.cn y h4
   .rcases List.mem_cons.1 hy with h4 | h4
    .rw[h4];exact dW (Len8.app hc.len (hl.can x (by simp)).len)
    exact hl.tail.can y h4
   rcases List.mem_cons.1 hy with h4 | h4
   .rw[h4];exact h3
   exact hl.tail.ne y h4
  rw[if_neg h2];have Gh:=fQ r.1 x.1;have aG:bT r.1 x.1<0:=by omega
  refine⟨pairwise_cons.2 ⟨fun y hy=>?_,hl.sorted⟩,fun y hy=>?_,fun y hy=>?_,fun y hy=>?_⟩
  .rcases List.mem_cons.1 hy with h4 | h4
   .rw[h4];exact aG
   exact mE hr hx (hl.tail.cn y h4) aG (hl.head y h4)
  .rcases List.mem_cons.1 hy with h4 | h4
   .rw[h4];exact hr
   exact hl.cn y h4
  .rcases List.mem_cons.1 hy with h4 | h4
   .rw[h4];exact hc
   exact hl.can y h4
  rcases List.mem_cons.1 hy with h4 | h4
  .rw[h4];exact h
  exact hl.ne y h4
def js (l:List RC):List RC:=l.foldl f5 []
def RcOk (l:List RC):Prop:= ∀ r∈l,CnK r.1/\Canon r.2
theorem Jp (l:List RC) (r:RC):js (l++[r])=f5 (js l) r:=by simp[js,List.foldl_append]
theorem AP: ∀ {l s:List RC},NF s->RcOk l->NF (l.foldl f5 s)/\ ∀ k m,da k m (l.foldl f5 s)=da k m s+da k m l
 | [],s,hs,_=>⟨hs,fun k m=>by simp[da];grind⟩
 | r::l,s,hs,h=>by
  have hr:=h r (by simp);obtain⟨h1,h2⟩:=AP (l:=l) (Hs hs hr.1 hr.2) (fun x hx=>h x (mem_cons_of_mem _ hx));refine⟨h1,fun k m=>?_⟩;rw[foldl_cons,h2 k m,CY k m hs.cn hr.1,da,Rat.add_assoc]
theorem AQ {l:List RC} (h:RcOk l):NF (js l):=(AP NF.nil h).1
theorem wv {l:List RC} (h:RcOk l) (k:Kc) (m:Mn):da k m (js l)=da k m l:=by
 have:=(AP NF.nil h).2 k m;rw[show da k m []=0 from rfl,Rat.zero_add] at this;exact this
theorem NF.of {M l:List RC} (hM:NF M) (hl:RcOk l) (h: ∀ k m,CnK k->da k m M=da k m l):M=js l:=
 hM.uniq (AQ hl) (fun k m hk=>by rw[h k m hk,wv hl])
theorem rL: ∀ (l s:List RC),(l.foldl f5 s).length<=s.length+l.length
 | [],s=>by simp
 | r::l,s=>by
  have h:=rL l (f5 s r);have h2: ∀ s:List RC,(f5 s r).length<=s.length+1:=fun s=>by
   induction s with
   | nil=>unfold f5;split<;>simp
   | cons x s ih=>
    unfold f5;split
    .simp
    split
    .simp only[length_cons];omega
    split
    .split
     .simp only[length_cons];omega
     simp
    simp
  have:=h2 s;rw[foldl_cons,length_cons];omega
end Go.Pl
namespace Go.Proofs.YtiaaceeelfhdlaaGreat
open Go.AM Go.Pl
set_option maxRecDepth 100000
set_option maxHeartbeats 4000000
abbrev RR:=List (List Raw)×List RT
def t6 (r:RR):List FV:=[.sl (ak r.1),.sl (au r.2)]
def U7 (r:RR):List PV:=[.fv (.sl (ak r.1)),.fv (.sl (au r.2))]
def aE (l:List RR):List (List FV):=l.map t6
def pB:RR:=([],[])
def rn (r:RC):RR:=(r.1,r.2.map tn)
abbrev nG (l:List RR):PV:= .fv (.sl (aE l))
theorem Fb (r:RR):(t6 r).map .fv=U7 r:=rfl
theorem aX (l:List RR):(aE l).length=l.length:=by simp[aE]
theorem db {l:List RR} {i:Nat} (h:i<l.length):(aE l).getD i []=t6 (l.getD i pB):=by simp[aE,h]
theorem zy (l:List RR) (i:Nat) (r:RR):(aE l).set i (t6 r)=aE (l.set i r):=by simp[aE,List.map_set]
theorem jU (l:List RR) (r:RR):aE l++[t6 r]=aE (l++[r]):=by simp[aE]
theorem gC {l:List RR} {i:Nat} (h:i<l.length):l.getD i pB∈l:=by
 rw[qa,qb h];exact pP h
theorem iD {l:List RR} {i:Nat} (h:i<l.length):l.take (i+1)=l.take i++[l.getD i pB]:=by
 rw[List.take_succ_eq_append_getElem h,qa,qb h];rfl
theorem fI {l:List RR} {n:Nat} (h:l.length<=n):List.take n (aE l)=aE l:=dm (by rw[aX];exact h)
theorem zz {a b:Kc} {i:Nat} (ha:i<a.length) (hb:i<b.length):bT (a.drop i) (b.drop i)=
 if bu (a.getD i []) (b.getD i [])=0 then bT (a.drop (i+1)) (b.drop (i+1)) else bu (a.getD i []) (b.getD i []):=by
 rw[drop_eq_getElem_cons ha,drop_eq_getElem_cons hb,qa,qa,qb ha,qb hb]
 rfl
theorem zA {a b:Kc} {i:Nat} (ha:i<a.length) (hb:b.length<=i):bT (a.drop i) (b.drop i)=1:=by
 rw[drop_eq_getElem_cons ha,List.drop_of_length_le hb];rfl
theorem CZ {a b:Kc} {i:Nat} (ha:a.length<=i) (hi:i<=b.length):bT (a.drop i) (b.drop i)=if i<b.length then -1 else 0:=by
 rw[List.drop_of_length_le ha];by_cases h:i<b.length
 .rw[if_pos h,drop_eq_getElem_cons h];rfl
 rw[if_neg h,List.drop_of_length_le (by omega)];rfl
theorem Z9 (a b:List (List Raw)) (ha:AOk 1000000000 a) (hb:AOk 1000000000 b) (OI:a.length<=1000) (OJ:b.length<=1000):
 Den Tryz.prog 196 [] [.fv (.sl (ak a)),.fv (.sl (ak b)),fV 137] [] (.int .i64 (bT a b)):=by
 have rla:=aq a
 have rlb:=aq b
 obtain⟨n,cB⟩:=ax a.length
 obtain⟨m,xI⟩:=ax b.length
 rw[cB] at rla OI
 rw[xI] at rlb OJ
 obtain⟨R,hR⟩:=ax (bT a b)
 rw[hR]
 refine dq Tryz.func196 36 0 ?_
 refine cz rla ?_
 refine wl (α:=Nat) (fun i=>⟨[.fv (.sl (ak a)),.fv (.sl (ak b)),fV 137,.any,.any,.any,.int .i64 0,.any,.any,.any,.any,.fv (.sl (ak a)),.int .i64 n,.int .i64 i]++replicate 25 .any,[]⟩)
  (fun i=>n - i) (fun i=>i<=n/\i<=m/\bT (a.drop i) (b.drop i)=R) 0 ?_ ?_ ?_
 .exact bP []
 .exact⟨dU _,dU _,by rw[List.drop_zero,List.drop_zero];exact hR⟩
 rintro i ⟨h1,h2,h3⟩
 refine aW ?_
 refine bK ?_ ?_
 .intro g1 g2
  have mx:=cr (ls:=a) (i:=i) (by omega)
  have rx:=ba a i
  have hx:=ha _ mx
  have pn:=fun h=>zz (a:=a) (b:=b) (i:=i) (by omega) h
  obtain⟨x,iW⟩:=ax (a.getD i [])
  rw[iW] at rx hx pn
  have lx:=hx.len
  have l_:=aB lx
  have fx:=aI x
  have gx:=ag x
  have fU:=ar lx
  by_cases hm:i<m
  .have e1:decide ((i:Int)>=(m:Int))=false:=qV
   have my:=cr (ls:=b) (i:=i) (by omega)
   have ry:=ba b i
   have hy:=hb _ my
   have Gl:=pn (by omega)
   obtain⟨y,sy⟩:=ax (b.getD i [])
   rw[sy] at ry hy Gl
   have ly:=hy.len
   have nh:=aB ly
   have fy:=aI y
   have gy:=ag y
   have fB:=ar ly
   have hd:=G' x y hx hy
   obtain⟨c,hc⟩:=ax (bu x y)
   rw[hc] at hd Gl
   rw[h3] at Gl
   unfold RL at hd
   simp -dsimp(disch:=omega) only[g2,rx,l_,gP,fx,gx,lx,fU,rlb,e1,IntKind.bits,Int.reduceToNat,Int.reducePow,Option.isNone_none,↓reduceIte,reduceCtorEq,reduceAdd,reduceMul,reduceSub,Nat.reduceBEq,reduceEqDiff,reduceLT,reduceLeDiff,ru,zu]
   repeat refine ae ?_
   refine aF (bU ry nh fy gy ly fB gx (a8 lx fU)) ?_
   repeat refine ae ?_
   refine hY hd ?_
   refine kI ?_
   by_cases h0:c=0
   .have e2:(c !=0)=false:=by rw[h0];rfl
    rw[if_pos h0] at Gl
    simp -dsimp(disch:=omega) only[e2,IntKind.bits,Int.reduceToNat,Int.reducePow,Option.isNone_none,↓reduceIte,reduceCtorEq,reduceAdd,reduceMul,reduceSub,Nat.reduceBEq,reduceEqDiff,reduceLT,reduceLeDiff,ru,zu]
    refine aw (i+1) ?_ ⟨by omega,by omega,Gl.symm⟩
    exact bP []
   have e2:(c !=0)=true:=by simp[h0]
   rw[if_neg h0] at Gl
   simp -dsimp(disch:=omega) only[e2,IntKind.bits,Int.reduceToNat,Int.reducePow,Option.isNone_none,↓reduceIte,reduceCtorEq,reduceAdd,reduceMul,reduceSub,Nat.reduceBEq,reduceEqDiff,reduceLT,reduceLeDiff,ru,zu]
   subst Gl
   exact bc rfl
  have e1:decide ((i:Int)>=(m:Int))=true:=BR
  have he:=zA (a:=a) (b:=b) (i:=i) (by omega) (by omega)
  rw[h3] at he
  subst he
  simp -dsimp(disch:=omega) only[g2,rx,l_,gP,fx,gx,lx,fU,rlb,e1,IntKind.bits,Int.reduceToNat,Int.reducePow,Option.isNone_none,↓reduceIte,reduceCtorEq,reduceAdd,reduceMul,reduceSub,Nat.reduceBEq,reduceEqDiff,reduceLT,reduceLeDiff,ru,zu]
  repeat refine ae ?_
  exact bc rfl
 intro g1 g2
 have j6:i=n:=by omega
 have he:=CZ (a:=a) (b:=b) (i:=i) (by omega) (by omega)
 rw[h3,xI,j6] at he
 refine aF (bB g2 rla rlb) ?_
 by_cases h0:n<m
 .have e2:decide ((n:Int)<(m:Int))=true:=BR
  rw[if_pos h0] at he
  subst he
  simp -dsimp(disch:=omega) only[e2,IntKind.bits,Int.reduceToNat,Int.reducePow,Option.isNone_none,↓reduceIte,reduceCtorEq,reduceAdd,reduceMul,reduceSub,Nat.reduceBEq,reduceEqDiff,reduceLT,reduceLeDiff,ru,zu]
  exact bc rfl
 have e2:decide ((n:Int)<(m:Int))=false:=qV
 rw[if_neg h0] at he
 subst he
 simp -dsimp(disch:=omega) only[e2,IntKind.bits,Int.reduceToNat,Int.reducePow,Option.isNone_none,↓reduceIte,reduceCtorEq,reduceAdd,reduceMul,reduceSub,Nat.reduceBEq,reduceEqDiff,reduceLT,reduceLeDiff,ru,zu]
 exact bc rfl
theorem TE (a b:List (List Raw)) (ha:AOk 1000000000 a) (hb:AOk 1000000000 b) (OI:a.length<=1000) (OJ:b.length<=1000):
 Den Tryz.prog 134 [] [.fv (.sl (ak a)),.fv (.sl (ak b))] [] (.int .i64 (bT a b)):=by
 have h:=Z9 a b ha hb OI OJ
 refine dq Tryz.func134 6 0 ?_
 refine aW ?_
 refine aM h ?_
 refine a9 ?_
 exact bc rfl
theorem Z_ (a b:RR) (ha:AOk 1000000000 a.1) (hb:AOk 1000000000 b.1) (OI:a.1.length<=1000) (OJ:b.1.length<=1000):
 Den Tryz.prog 133 [] [.agg (U7 a),.agg (U7 b)] [] (.int .i64 (bT a.1 b.1)):=by
 have h:=TE a.1 b.1 ha hb OI OJ
 unfold U7
 refine dq Tryz.func133 8 0 ?_
 refine aW ?_
 refine aM h ?_
 refine a9 ?_
 exact bc rfl
theorem sl2 (o:Ob) (l:List Ob) (a b c:Nat) (u:FV):shutBs (o::l) 0 [.lsl 0 a b c,.fv u]=o::l:=rfl
theorem sl4 (o:Ob) (l:List Ob) (a b c:Nat) (u v w:FV):shutBs (o::l) 0 [.lsl 0 a b c,.fv u,.fv v,.fv w]=o::l:=rfl
theorem Ht (r:RR):(t6 r).length=2:=rfl
theorem Qn (r:RR):(U7 r).length=2:=rfl
theorem zB (r:RR):List.take 2 (t6 r)=t6 r:=rfl
theorem Jq (r:RR):List.drop 2 (t6 r)=[]:=rfl
theorem Hu (H:List Ob) (r:RR):kc H (U7 r)=some (t6 r):=rfl
theorem Hv (r:RR):(U7 r).flatMap eu=[]:=rfl
def zC (a b:RR):Prop:=bT a.1 b.1<0
theorem MD (x y:RR) (h:zC x y): ¬zC y x:=by
 unfold zC at h ⊢;have:=fQ x.1 y.1;omega
theorem U8 {x y z:RR} (hx:CnK x.1) (hy:CnK y.1) (hz:CnK z.1) (h1: ¬zC x y) (h2: ¬zC y z): ¬zC x z:=by
 unfold zC at h1 h2 ⊢;have e1:=fQ x.1 y.1;have e2:=fQ y.1 z.1;have e3:=fQ x.1 z.1;have:=yk hz hy hx (by omega) (by omega);omega
structure U9 (r:RR):Prop where
 cn:CnK r.1
 ok:AOk 1000000000 r.1
 len:r.1.length<=1000
theorem Z' (ls:List RR) (hl: ∀ r∈ls,U9 r) (hn:ls.length<=1000000):
 ∃ H1 res,(fun H1 res=> ∃ ls',H1=[.row true (aE ls')]/\res=PV.tup []/\ls'.Perm ls/\ls'.Pairwise (fun a b=>¬zC b a)) H1 res/\
  Den Tryz.prog 232 [.row true (aE ls)] [.lsl 0 0 ls.length 2,.int .i64 0,.int .i64 ls.length,fV 133] H1 res:=by
 obtain⟨n,cB⟩:=ax ls.length
 rw[cB] at hn ⊢
 refine BN Tryz.func232 49 1 ?_
 refine aW ?_
 refine wl (α:=Nat×List RR) (fun⟨i,l⟩=>⟨[.lsl 0 0 n 2,.int .i64 0,.int .i64 n,fV 133,.any,.any,.any,.any,.int .i64 i]++replicate 44 .any,[.row true (aE l)]⟩)
  (fun⟨i,_⟩=>n+1 - i) (fun⟨i,l⟩=>1<=i/\(i<=n\/i=1)/\l.Perm ls/\ ∀ p q,p<q->q<i->q<n-> ¬zC (l.getD q pB) (l.getD p pB)) (1,ls) ?_ ?_ ?_
 .exact bP [0]
 .exact⟨qp _,Or.inr rfl,List.Perm.refl _,fun p q h1 h2 h3=>by omega⟩
 rintro⟨i,l⟩ ⟨pJ,j6,eW,sf⟩
 have pa:l.length=n:=by rw[eW.length_eq,cB]
 refine aW ?_
 refine bK ?_ ?_
 .intro h1 h2
  refine ah h2 ?_
  refine wl (α:=Nat×List RR) (fun⟨j,l⟩=>⟨[.lsl 0 0 n 2,.int .i64 0,.int .i64 n,fV 133,.any,.any,.any,.any,.int .i64 i,.int .i64 j]++replicate 43 .any,[.row true (aE l)]⟩)
   (fun⟨j,_⟩=>j) (fun⟨j,l⟩=>j<=i/\l.Perm ls/\LW pB zC l i j) (i,l) ?_ ?_ ?_
  .exact bP [0]
  .exact⟨qp _,eW,fun p q h3 h4 h5=>sf p q h3 (by omega) (by omega)⟩
  rintro⟨j,l⟩ ⟨hj,eW,oz⟩
  have pa:l.length=n:=by rw[eW.length_eq,cB]
  have Ee: ∀ t∈l,U9 t:=fun t ht=>hl t (eW.mem_iff.1 ht)
  have Ws: ∀ x∈l,∀ y∈l,∀ z∈l,¬zC x y-> ¬zC y z-> ¬zC x z:=fun x hx y hy z hz=>U8 (Ee x hx).cn (Ee y hy).cn (Ee z hz).cn
  refine aW ?_
  refine dw (by kernel_rfl) ?_
  refine a9 ?_
  refine bK ?_ ?_
  .intro h3 h4
   obtain⟨p,rfl⟩: ∃ p,j=p+1:=⟨j - 1,by omega⟩
   have Aa:(((p+1:Nat):Int) - 1)=(p:Int):=by omega
   have m1:=Ee _ (gC (l:=l) (i:=p+1) (by omega))
   have m2:=Ee _ (gC (l:=l) (i:=p) (by omega))
   have bW:=Z_ _ _ m1.ok m2.ok m1.len m2.len
   have r1:=db (l:=l) (i:=p+1) (by omega)
   have r2:=db (l:=l) (i:=p) (by omega)
   have aG:zC (l.getD (p+1) pB) (l.getD p pB)↔bT (l.getD (p+1) pB).1 (l.getD p pB).1<0:=Iff.rfl
   have Gh:((aE l).set (p+1) (t6 (l.getD p pB))).set p (t6 (l.getD (p+1) pB))=aE (mW pB l (p+1)):=by
    rw[zy,zy];unfold mW;rw[Nat.add_sub_cancel]
   have r3:((aE l).set (p+1) (t6 (l.getD p pB))).getD p []=t6 (l.getD p pB):=by
    rw[qa,qm (by omega),<-qa,r2]
   have si:=fun h=>zb pB zC MD (ls:=l) (i:=i) (j:=p+1) (by omega) hj (by omega) oz h
   have oA:=fun h=>oO pB zC (ls:=l) Ws (i:=i) (j:=p+1) (by omega) hj oz h
   have hsp:=v5 pB (ls:=l) (j:=p+1) (by omega) (by omega)
   rw[Nat.add_sub_cancel] at si oA
   obtain⟨x,iW⟩:=ax (l.getD (p+1) pB)
   obtain⟨y,sy⟩:=ax (l.getD p pB)
   rw[iW] at bW r1 aG Gh si oA
   rw[sy] at bW r2 r3 aG Gh si oA
   have rl:=aX l
   obtain⟨z,hz⟩:=ax (bT x.1 y.1)
   rw[hz] at bW aG
   refine ah (bU h4 Aa r1 r2 @zB @Fb rl @Ht) ?_
   repeat refine ae ?_
   refine gp bW (by simp[bH,eS,Hu,Fb,kc,dS,dI]) ?_
   refine ah @Hv ?_
   refine bK ?_ ?_
   .intro h5 h6
    refine ah h6 ?_
    refine dw (by kernel_rfl) ?_
    refine ah (bU Aa r1 r2 r3 @zB @Fb rl (bU @Ht @Qn @Jq Gh @List.length_set.{0} @Hu @Hv @List.append_nil.{0})) ?_
    repeat refine ae ?_
    refine aw (p,mW pB l (p+1)) ?_ ⟨by omega,hsp.trans eW,si (aG.2 h5)⟩
    exact bP [0]
   intro h5 h6
   have hd:=oA (Or.inr (fun h=>h5 (aG.1 h)))
   refine ah h6 ?_
   refine aw (i+1,l) ?_ ⟨by omega,by omega,eW,fun p q h7 h8 h9=>hd p q h7 (by omega)⟩
   exact bP [0]
  intro h3 h4
  have hd:=oO pB zC (ls:=l) Ws (i:=i) (j:=j) (by omega) hj oz (Or.inl (by omega))
  refine ah h4 ?_
  refine aw (i+1,l) ?_ ⟨by omega,by omega,eW,fun p q h7 h8 h9=>hd p q h7 (by omega)⟩
  exact bP [0]
 intro h1 h2
 have XP:l.Pairwise (fun a b=>¬zC b a):=py pB zC (fun p q h3 h4=>sf p q h3 (by omega) (by omega))
 refine ah h2 ?_
 exact⟨[.row true (aE l)],.tup [],⟨l,rfl,rfl,eW,XP⟩,qL (cd:=True) (vs:=[]) rfl trivial rfl trivial rfl rfl rfl⟩
theorem aaa (ls ls':List RR) (hn:ls.length<20) (h:Den Tryz.prog 232 [.row true (aE ls)] [.lsl 0 0 ls.length 2,.int .i64 0,.int .i64 ls.length,fV 133] [.row true (aE ls')] (.tup [])):
 Den Tryz.prog 195 [.row true (aE ls)] [.lsl 0 0 ls.length 2,.int .i64 ls.length,fV 133] [.row true (aE ls')] (.tup []):=by
 obtain⟨n,cB⟩:=ax ls.length
 rw[cB] at h hn ⊢
 have e1:decide ((20:Int)<=(n:Int))=false:=qV
 have e2:decide ((20:Int)<(n:Int))=false:=qV
 refine dq Tryz.func195 60 1 ?_
 refine aW ?_
 refine wl (α:=Unit) (fun _=>⟨[.lsl 0 0 n 2,.int .i64 n,fV 133,.any,.any,.any,.int .i64 20,.int .i64 0,.int .i64 20]++replicate 54 .any,[.row true (aE ls)]⟩)
  (fun _=>0) (fun _=>True) () ?_ trivial ?_
 .exact bP [0]
 rintro⟨⟩ _
 simp -dsimp(disch:=omega) only[replicate,e1,IntKind.bits,Int.reduceToNat,Int.reducePow,Option.isNone_none,↓reduceIte,reduceCtorEq,reduceAdd,reduceMul,reduceSub,Nat.reduceBEq,reduceEqDiff,reduceLT,reduceLeDiff,ru]
 refine d6 0 h trivial ?_
 simp -dsimp(disch:=omega) only[sh1,sh2,sh3,sl4,List.set_cons_zero,IntKind.bits,Int.reduceToNat,Int.reducePow,Option.isNone_none,↓reduceIte,reduceCtorEq,reduceAdd,reduceMul,reduceSub,Nat.reduceBEq,reduceEqDiff,reduceLT,reduceLeDiff,ru,zu]
 refine wl (α:=Unit) (fun _=>⟨[.lsl 0 0 n 2,.int .i64 n,fV 133,.any,.any,.any,.int .i64 20,.int .i64 0,.int .i64 20]++replicate 54 .any,[.row true (aE ls')]⟩)
  (fun _=>0) (fun _=>True) () ?_ trivial ?_
 .exact bP [0]
 rintro⟨⟩ _
 simp -dsimp(disch:=omega) only[replicate,e2,IntKind.bits,Int.reduceToNat,Int.reducePow,Option.isNone_none,↓reduceIte,reduceCtorEq,reduceAdd,reduceMul,reduceSub,Nat.reduceBEq,reduceEqDiff,reduceLT,reduceLeDiff,ru]
 exact qL (cd:=True) (vs:=[]) rfl trivial rfl trivial rfl rfl rfl
theorem aab (ls:List RR) (hl: ∀ r∈ls,U9 r) (hn:ls.length<20):
 ∃ ls',ls'.Perm ls/\ls'.Pairwise (fun a b=>¬zC b a)/\Den Tryz.prog 132 [.row true (aE ls)] [.lsl 0 0 ls.length 2,fV 133] [.row true (aE ls')] (.tup []):=by
 obtain⟨H1,res,⟨ls',rfl,rfl,hp,hs⟩,h⟩:=Z' ls hl (by omega)
 refine⟨ls',hp,hs,?_⟩
 have h2:=aaa ls ls' hn h
 obtain⟨n,cB⟩:=ax ls.length
 rw[cB] at h2 hn ⊢
 refine dq Tryz.func132 7 1 ?_
 refine aW ?_
 refine d6 0 h2 trivial ?_
 refine cv ?_
 exact qL (cd:=True) (vs:=[]) rfl trivial rfl trivial rfl rfl rfl
end Go.Proofs.YtiaaceeelfhdlaaGreat
