/- Contracts:sparse:Mul. -/
import Derived.Test.YtjjbkjgifdhlcaaGreatT14
import Derived.Test.YtjjbkjgifdhlcaaGreatT9
import Derived.Test.YtjjbkjgifdhlcaaGreatT13
import Derived.Test.YtjjbkjgifdhlcaaGreatT1
set_option linter.all false
open List (append_assoc append_nil drop_eq_getElem_cons foldl_cons getElem?_set_ne length_cons length_map length_set length_take map_cons mem_cons_of_mem mem_map nodup_range pairwise_cons replicate)
namespace Go.Proofs.YtjjbkjgifdhlcaaGreat
open Go.AM Go.Pl
set_option maxRecDepth 100000
set_option maxHeartbeats 4000000
def p' (s t:Tm):Tm:=(fe s.1 t.1,s.2*t.2)
theorem JD {p q:List Tm} {i:Nat} (h:i<p.length):prodT (p.take (i+1)) q=prodT (p.take i) q++q.map (p' p[i]):=by
 unfold prodT;rw[List.take_add_one,qb h,qyb];simp[p']
theorem GH {a b:Mn} {E F:Int} (ha: ∀ x∈a,0<=x/\x<=E) (hb: ∀ x∈b,0<=x/\x<=F): ∀ x∈fe a b,0<=x/\x<=E+F:=fun x hx=>by
 obtain⟨i,hi⟩:=List.mem_iff_getElem?.1 hx;unfold fe at hi;rw[List.getElem?_zipWith] at hi;cases h1:a[i]? with
 | none=>rw[h1] at hi;cases hi
 | some u=>
  cases h2:b[i]? with
  | none=>rw[h1,h2] at hi;cases hi
  | some w=>
   rw[h1,h2] at hi;have e:u+w=x:=by simpa using hi
   have:=ha u (List.mem_of_getElem? h1);have:=hb w (List.mem_of_getElem? h2);omega
theorem U6 {j k:Nat} {E F:Int} {p q:List Tm} (hp:LOkT j E p) (hq:LOkT k F q) (hk:1<=j+k):LOkT (j+k) (E+F) (prodT p q):=by
 have key: ∀ t∈prodT p q,∃ u∈p,∃ w∈q,t=p' u w:=fun t ht=>by
  unfold prodT at ht;obtain⟨u,hu,h2⟩:=List.mem_flatMap.1 ht;obtain⟨w,hw,rfl⟩:=mem_map.1 h2;exact⟨u,hu,w,hw,rfl⟩
 refine⟨Len8.prod hp.len hq.len,fun t ht=>?_,fun t ht=>?_⟩
 .obtain⟨u,hu,w,hw,rfl⟩:=key t ht;exact Bd.mul (hp.bd u hu) (hq.bd w hw) hk
 obtain⟨u,hu,w,hw,rfl⟩:=key t ht;exact GH (hp.exp u hu) (hq.exp w hw)
theorem JE {q:List Tm} {s:Tm} {j:Nat} (h:j<q.length):(q.take (j+1)).map (p' s)=(q.take j).map (p' s)++[p' s q[j]]:=by
 rw[List.take_add_one,qb h,tY];rfl
theorem GI (f:Nat->Nat): ∀ m:List Int,List.map (reloc1 f) (mC m)=mC m
 | []=>rfl
 | n::m=>by
  have ih:=GI f m;unfold mC at ih ⊢;simp only[map_cons,ih];rfl
theorem aeU (p q:List Tm) (hp:LOkT 1000000 100000 p) (hq:LOkT 1000000 100000 q) (hn:p.length<=20) (Uo:q.length<=20) (hs:(nf (prodT p q)).length<=bk):
 Den Tryz.prog 142 [] [PL (p.map tn),PL (q.map tn)] [] (PL ((nf (prodT p q)).map tn)):=by
 have wW:=U6 hp hq (by decide)
 have hTs:=wW.ts (by decide)
 have kU:=rE p q
 have dP:p.length*q.length<=20*20:=Nat.mul_le_mul hn Uo
 have yt:=L5 ((prodT p q).map tn) (fun t ht=>(hTs t ht).mono (by decide)) (by
  rw[bE];exact PB.terms (n:=400) (j:=2000000) (by decide) wW.bd (by omega) (by decide)) (by rw[length_map];omega) (by rw[bE];exact hs)
 rw[bE] at yt
 obtain⟨R,hR⟩:=ax ((nf (prodT p q)).map tn)
 rw[hR] at yt ⊢
 have rp:=aw (p.map tn)
 have rq:=aw (q.map tn)
 rw[length_map] at rp rq
 obtain⟨n,b8⟩:=ax p.length
 obtain⟨m,ub⟩:=ax q.length
 have rT:=aw ((prodT p q).map tn)
 rw[length_map] at rT
 have tkT:=bB (ts:=(prodT p q).map tn) (n:=(prodT p q).length) (by rw[length_map];omega)
 rw[b8,ub] at kU dP
 rw[b8] at rp hn
 rw[ub] at rq Uo
 have yu:(n:Int)*(m:Int)=((n*m:Nat):Int):=by simp
 obtain⟨N,hN⟩:=ax (n*m)
 rw[hN] at yu kU dP
 refine dq Tryz.func142 44 0 ?_
 refine bw (bA rp rq yu) ?_
 repeat refine ag ?_
 refine wl (α:=Nat) (fun i=>⟨[PL (p.map tn),PL (q.map tn),.any,.any,.any,.lsl 0 0 (prodT (p.take i) q).length 11,.any,.any,.any,.any,.any,.any,.any,.any,.any,.any,PL (p.map tn),.int .i64 n,.int .i64 i]++replicate 27 .any,[.row true (av ((prodT (p.take i) q).map tn))]⟩) (fun i=>n - i) (fun i=>i<=n) 0 ?_ (dk _) ?_
 .refine eH [0] ?_ ?_
  .simp[bh,dF,cw]
   simp[prodT]
  simp[d_,fD]
  simp[prodT,av]
 intro i hi
 refine aW ?_
 refine bM ?_ ?_
 .intro h1 h2
  have dJ:i<p.length:=by omega
  have r1:=oU dJ
  have aY:p[i]∈p:=lY dJ
  have BO:=hp.len _ aY
  have yr:=hp.bd _ aY
  have pP:=hp.exp _ aY
  have ck:=JD (q:=q) dJ
  obtain⟨s,mH⟩:=ax (p[i])
  rw[mH] at r1 BO yr pP ck
  have W8:(tn s).1.length=8:=BO
  have s11:=aU W8
  have sfl:=aJ W8
  have scl:=aH W8
  have sc8:=ed W8
  have scf:=d6 W8
  change List.take 3 (List.drop 8 (fC (tn s)))=(cn s.2).c at scf
  change List.take 8 (fC (tn s))=mC s.1 at sc8
  have hO:(prodT (p.take i) q).length<=2500:=by
   rw[rE,length_take];exact gD (Nat.mul_le_mul (Nat.min_le_left _ _) (qp _)) (gD (Nat.mul_le_mul (show i<=50 by omega) (show q.length<=50 by omega)) (by decide))
  obtain⟨O,hOO⟩:=ax (prodT (p.take i) q)
  rw[hOO] at hO ck ⊢
  refine ae (bu h2 r1 s11 @dI sfl scl rp (aB rq @append_nil.{0})) ?_
  repeat refine ag ?_
  refine wl (α:=Nat) (fun j=>⟨[PL (p.map tn),PL (q.map tn),.any,.any,.any,.lsl 0 0 (O.length+j) 11,.any,.ptr 1 0 0,.any,.any,.any,.any,.any,.any,.any,.any,PL (p.map tn),.int .i64 n,.int .i64 i,.any,.any,.any,PL (q.map tn),.int .i64 m,.int .i64 j]++replicate 21 .any,[.row true (av ((O++(q.take j).map (p' s)).map tn)),.box true (fC (tn s))]⟩) (fun j=>m - j) (fun j=>j<=m) 0 ?_ (dk _) ?_
  .refine eH [0,1] ?_ ?_
   .simp[bh,dF,cw]
   simp[d_,fD,ij]
  intro j hj
  have ro:=aw ((O++(q.take j).map (p' s)).map tn)
  rw[length_map,qe,length_map,length_take,ub,Nat.min_eq_left hj] at ro
  have tko:=bB (ts:=(O++(q.take j).map (p' s)).map tn) (n:=O.length+j) (by rw[length_map,qe,length_map,length_take];omega)
  refine aW ?_
  refine bM ?_ ?_
  .intro h3 h4
   have kD:j<q.length:=by omega
   have r2:=oU kD
   have aY:q[j]∈q:=lY kD
   have hmt:=hq.len _ aY
   have M0:=hq.bd _ aY
   have het:=hq.exp _ aY
   have Ip:=JE (s:=s) kD
   obtain⟨t,Bp⟩:=ax (q[j])
   rw[Bp] at r2 hmt M0 het Ip
   have Ze:(tn t).1.length=8:=hmt
   have KG:=aU Ze
   have tfl:=aJ Ze
   have tcl:=aH Ze
   have tc8:=ed Ze
   have tcf:=d6 Ze
   change List.take 3 (List.drop 8 (fC (tn t)))=(cn t.2).c at tcf
   change List.take 8 (fC (tn t))=mC t.1 at tc8
   have agS:=aeT s.1 t.1 BO hmt (fun x hx=>by have:=pP x hx;omega) (fun x hx=>by have:=het x hx;omega)
   have Bs:=Qy (cn s.2) (cn t.2) ((bj yr).mono (by decide)) ((bj M0).mono (by decide))
   rw[cu,cu] at Bs
   change Den Tryz.prog 70 [] [.agg (cn s.2).c,.agg (cn t.2).c] [] (.agg (cn (s.2*t.2)).c) at Bs
   have bO:=dT ((O++(q.take j).map (p' s)).map tn) (tn (p' s t))
   rw[<-lG,append_assoc,<-Ip] at bO
   change _++[gC (fe s.1 t.1,cn (s.2*t.2))]=_ at bO
   have xS:=iA BO hmt
   obtain⟨z,hz⟩:=ax (cn (s.2*t.2))
   rw[hz] at Bs bO
   obtain⟨M,hM⟩:=ax (fe s.1 t.1)
   rw[hM] at agS bO xS
   have h8:((M,z):RT).1.length=8:=xS
   have Tl:=cW h8
   have clz:=aH h8
   have q4:=aU h8
   have flz:=aJ h8
   have ml:=bW M
   rw[xS] at ml
   have m8:=jL xS
   have bl:=yG xS (.fv (.lit (.bool false))) PV.nilsl PV.nilsl
   have pc:=El xS (.fv (.lit (.bool false))) PV.nilsl PV.nilsl z
   refine ae (bu h4 r2 KG @dI tfl tcl rq @append_nil.{0}) ?_
   repeat refine ag ?_
   refine dw (by kernel_rfl) ?_
   refine ae (dR sc8 tc8 scl tcl) ?_
   repeat refine ag ?_
   refine gp agS (by simp[bJ,eT,oJ,jV]) ?_
   refine ae (eU scf tcf scl tcl @GI @p5 @append_nil.{0}) ?_
   repeat refine ag ?_
   refine xL Bs ?_
   refine ae (bu @fG @da @cz ml bl pc clz (eU q4 @cT @c_ ro tko bO @append_nil.{0})) ?_
   repeat refine ag ?_
   refine aA (j+1) ?_ (by omega)
   refine eH [4,1] ?_ ?_
   .simp[bh,dF,cw]
    omega
   simp[d_,fD,ij]
  intro h3 h4
  have hjm:q.take j=q:=dm (by omega)
  have hjj:j=m:=by omega
  subst hjj
  rw[hjm,<-ck]
  refine ae h4 ?_
  refine aA (i+1) ?_ (by omega)
  rw[ck,qe,length_map,ub,<-ck]
  exact bx [0]
 intro h1 h2
 have f0:i=n:=by omega
 subst f0
 have Nb:p.take i=p:=dm (by omega)
 rw[Nb]
 refine ae h2 ?_
 refine gp yt (by simp[bJ,eT,eo,dZ,tkT,rT]) ?_
 refine aN ?_
 refine a_ rfl
theorem C_ {v:Nat} {p:List Tm} {i:Nat} (h:i<p.length):ju v (p.take (i+1))=max (ju v (p.take i)) (p[i].1.getD v 0):=by
 rw[List.take_add_one,qb h];exact NI
theorem aeV (p:List Tm) (v:Nat) (hv:v<8) (hl:Len8 p) (hn:p.length<=10000):Den Tryz.prog 187 [] [PL (p.map tn),.int .i64 v] [] (.int .i64 (ju v p)):=by
 have rp:=aw (p.map tn);rw[length_map] at rp;obtain⟨n,b8⟩:=ax p.length;rw[b8] at rp hn;refine dq Tryz.func187 20 0 ?_;refine bw rp ?_;refine wl (α:=Nat) (fun i=>⟨[PL (p.map tn),.int .i64 v,.any,.any,.any,.int .i64 (ju v (p.take i)),.any,.any,PL (p.map tn),.int .i64 n,.int .i64 i]++replicate 11 .any,[]⟩) (fun i=>n - i) (fun i=>i<=n) 0 ?_ (dk _) ?_
 .refine eH [] ?_ ?_
  .simp[bh,dF,cw];rfl
  simp[d_]
 intro i hi;refine aW ?_;refine bM ?_ ?_
 .intro h1 h2;have dJ:i<p.length:=by omega
  have r1:=oU dJ;have hm:=hl _ (lY dJ);have hd:=C_ (v:=v) dJ;obtain⟨t,ht⟩:=ax (p[i]);rw[ht] at r1 hm hd;have h8:(tn t).1.length=8:=hm;have q4:=aU h8;have fl:=aJ h8;have cl:=aH h8;have dS:=mT (t:=tn t) (i:=v) hv h8;change List.take 1 (List.drop v (fC (tn t)))=[PV.int .i64 (t.1.getD v 0)] at dS;refine ae (bu h2 r1 q4 @dI fl cl rp (bA dS @Nat.mul_one @append_nil.{0})) ?_
  repeat refine ag ?_
  refine aA (i+1) ?_ (by omega);rw[hd];refine eH [] ?_ ?_
  .simp[bh,dF,cw];split<;>omega
  simp[d_]
 intro h1 h2;have Nb:p.take i=p:=dm (by omega);rw[Nb];refine ae h2 ?_;refine a_ rfl
abbrev YC (c:List Tm):PV:= .fv (.sl (av (c.map tn)))
def GJ (cs:List (List Tm)):PV:= .fv (.sl (cs.map fun c=>[FV.sl (av (c.map tn))]))
def eX (v D:Nat) (p:List Tm):List PV:=(List.range D).map (fun d:Nat=>PV.lsl (d+1) 0 (bD v (d:Int) p).length 11)
def sP (v D:Nat) (p:List Tm):List Ob:=(List.range D).map (fun d:Nat=>Ob.row true (av ((bD v (d:Int) p).map tn)))
def HC (v D:Nat) (p:List Tm):List Ob:= .box true (eX v D p)::sP v D p
theorem cP (v D:Nat) (p:List Tm):(eX v D p).length=D:=by simp[eX]
theorem uM (v D:Nat) (p:List Tm):(sP v D p).length=D:=by simp[sP]
theorem fJ (v D:Nat) (p:List Tm):(HC v D p).length=D+1:=by simp[HC,uM]
theorem iD {v D d:Nat} {p:List Tm} (h:d<D):(eX v D p)[d]?=some (.lsl (d+1) 0 (bD v (d:Int) p).length 11):=by
 unfold eX;rw[List.getElem?_map,List.getElem?_range h];rfl
theorem zM {v D d:Nat} {p:List Tm} (h:d<D):(sP v D p)[d]?=some (.row true (av ((bD v (d:Int) p).map tn))):=by
 unfold sP;rw[List.getElem?_map,List.getElem?_range h];rfl
theorem aeW (v D:Nat) (p:List Tm) (l:List Ob):(HC v D p++l)[0]?=some (.box true (eX v D p)):=rfl
theorem zN {v D d:Nat} {p:List Tm} (h:d<D) (l:List Ob):(HC v D p++l)[d+1]?=some (.row true (av ((bD v (d:Int) p).map tn))):=by
 show(sP v D p++l)[d]?=_;rw[qi (by rw[uM];exact h)];exact zM h
theorem YD (v D:Nat) (p:List Tm) (d:Nat) (a b c:Ob):((HC v D p++[a,b]).set (d+1) Ob.dead++[c])[0]?=some (.box true (eX v D p)):=rfl
theorem zO (H:List Ob) (a b:Ob):vp (H++[a]) (H++[a,b]):=⟨[b],by simp⟩
theorem zP {α:Type} {l:List α} {i:Nat} {x:α} (h:l[i]?=some x):List.take 1 (List.drop i l)=[x]:=by
 obtain⟨hl,rfl⟩:=List.getElem?_eq_some_iff.1 h;rw[drop_eq_getElem_cons hl];rfl
theorem zQ {H0:List Ob} {L:Nat} (h:H0.length=L) (x:Ob):(H0++[x])[L]?=some x:=by subst h;simp
theorem L9 {H0:List Ob} {L:Nat} (h:H0.length=L) (x y:Ob):(H0++[x,y])[L+1]?=some y:=by subst h;simp
theorem L_ {H0:List Ob} {L:Nat} (h:H0.length=L) (x y:Ob):(H0++[x]).set L y=H0++[y]:=by subst h;simp
def nS (D d:Nat):List Nat:=0::(List.range D).map (fun k=>if k=d then D+1+2 else k+1)
theorem qc {D d:Nat} (h:d<D):(nS D d).Nodup:=by
 unfold nS;rw[List.nodup_cons];constructor
 .intro h0;obtain⟨k,_,hk⟩:=mem_map.1 h0;split at hk<;>omega
 unfold List.Nodup;rw[List.pairwise_map];refine(List.Pairwise.and_mem.1 nodup_range).imp ?_;rintro a b ⟨ha,hb,vL⟩;have:=List.mem_range.1 ha;have:=List.mem_range.1 hb;have e7:a≠b:=vL;split<;>split<;>omega
theorem zR {D d k:Nat} (h:k<D):(nS D d)[k+1]?=some (if k=d then D+1+2 else k+1):=by
 unfold nS;rw[List.getElem?_cons_succ,List.getElem?_map,List.getElem?_range h];rfl
theorem N1 (D d:Nat):(nS D d).length=D+1:=by simp[nS]
theorem GK {v D d:Nat} {p Q:List Tm} {t:Tm} {a b:Ob} (P7:d<D) (hd:t.1.getD v 0=(d:Int)) (hQ:bD v (d:Int) p++[(t.1.set v 0,t.2)]=Q):
 d_ (nS D d) (((HC v D p++[a,b]).set (d+1) Ob.dead++[Ob.row true (av (Q.map tn))]).set 0 (Ob.box true (List.take d (eX v D p)++PV.lsl (D+1+2) 0 ((bD v (d:Int) p).length+1) 11::List.drop (d+1) (eX v D p)))) (nS D d) (HC v D (p++[t])):=by
 have bn:List.take d (eX v D p)++PV.lsl (D+1+2) 0 ((bD v (d:Int) p).length+1) 11::List.drop (d+1) (eX v D p)=(eX v D p).set d (PV.lsl (D+1+2) 0 ((bD v (d:Int) p).length+1) 11):=by
  rw[List.set_eq_take_append_cons_drop,if_pos (by rw[cP];exact P7)]
 rw[bn]
 have cL: ∀ k:Nat,bD v (k:Int) (p++[t])=if k=d then Q else bD v (k:Int) p:=fun k=>by
  rw[Jo,hd];by_cases hk:k=d
  .subst hk;rw[if_pos rfl,if_pos rfl,hQ]
  rw[if_neg (by omega),if_neg hk]
 have hQl:Q.length=(bD v (d:Int) p).length+1:=by rw[<-hQ,qe];rfl
 refine A_ (by rw[N1,fJ]) fun i k o' hk ho=>?_
 cases i with
 | zero=>
  unfold nS at hk;simp only[List.getElem?_cons_zero,qo] at hk;subst hk;unfold HC at ho;simp only[List.getElem?_cons_zero,qo] at ho;subst ho;refine⟨_,rfl,rfl,pd (by rw[length_set,cP,cP]) fun j x y hx hy=>?_⟩;have hj:j<D:=by
   have:=(List.getElem?_eq_some_iff.1 hy).1;rwa [cP] at this
  rw[iD hj,cL] at hy;cases hy;by_cases W9:d=j
  .subst W9;rw[qv (by rw[cP];exact hj)] at hx;cases hx;rw[if_pos rfl,hQl];exact⟨by rw[zR hj,if_pos rfl],rfl,rfl,rfl⟩
  .rw[getElem?_set_ne W9,iD hj] at hx;cases hx;rw[if_neg (fun e=>W9 e.symm)];exact⟨by rw[zR hj,if_neg (fun e=>W9 e.symm)],rfl,rfl,rfl⟩
 | succ j=>
  have hj:j<D:=by
   have:=(List.getElem?_eq_some_iff.1 ho).1;rw[fJ] at this;omega
  rw[zR hj] at hk;cases hk;have fE:(sP v D (p++[t]))[j]?=some o':=ho;rw[zM hj,cL] at fE;cases fE;by_cases W9:j=d
  .rw[if_pos W9,if_pos W9];refine⟨Ob.row true (av (Q.map tn)),?_,rfl,rfl⟩;rw[getElem?_set_ne (by omega),qh (by rw[length_set,qe,fJ];simp),length_set,qe,fJ];simp
  rw[if_neg W9,if_neg W9];refine⟨Ob.row true (av ((bD v (j:Int) p).map tn)),?_,rfl,rfl⟩;rw[getElem?_set_ne (by omega),qi (by rw[length_set,qe,fJ];omega),getElem?_set_ne (by omega)];exact zN hj _
theorem En (D d:Nat):(nS D d)[0]?=some 0:=rfl
theorem Ma (v D:Nat) (p:List Tm):d_ (List.range (D+1)) (HC v D p) (List.range (D+1)) (HC v D p):=by
 refine A_ (by rw[List.length_range,fJ]) fun i k o hk ho=>?_
 have hi:i<D+1:=by
  have:=(List.getElem?_eq_some_iff.1 ho).1;rwa [fJ] at this
 rw[List.getElem?_range hi] at hk;cases hk;refine⟨o,ho,?_⟩;cases i with
 | zero=>
  cases ho;refine⟨rfl,pd rfl fun j x y hx hy=>?_⟩;have hj:j<D:=by
   have:=(List.getElem?_eq_some_iff.1 hy).1;rwa [cP] at this
  rw[iD hj] at hx hy;cases hx;cases hy;exact⟨List.getElem?_range (by omega),rfl,rfl,rfl⟩
 | succ j=>
  have fE:(sP v D p)[j]?=some o:=ho;rw[zM (by omega)] at fE;cases fE;exact⟨rfl,rfl⟩
def zS (v D:Nat) (p:List Tm) (k:Nat):List Ob:=(List.range D).map (fun d:Nat=>Ob.row (decide (k<=d)) (av ((bD v (d:Int) p).map tn)))
def mr (v D:Nat) (p:List Tm) (k:Nat):List PV:=(List.range D).map (fun d:Nat=>YC (if d<k then bD v (d:Int) p else []))
def HS (v D:Nat) (p:List Tm) (k:Nat):List Ob:=(.box true (eX v D p)::zS v D p k)++[.box true (mr v D p k)]
theorem kP (v D:Nat) (p:List Tm) (k:Nat):(zS v D p k).length=D:=by simp[zS]
theorem fU (v D:Nat) (p:List Tm) (k:Nat):(mr v D p k).length=D:=by simp[mr]
theorem k6 (v D:Nat) (p:List Tm) (k:Nat):(HS v D p k).length=D+2:=by simp[HS,kP]
theorem Ri {v D d:Nat} {p:List Tm} {k:Nat} (h:d<D):(zS v D p k)[d]?=some (.row (decide (k<=d)) (av ((bD v (d:Int) p).map tn))):=by
 unfold zS;rw[List.getElem?_map,List.getElem?_range h];rfl
theorem Eo {v D d:Nat} {p:List Tm} {k:Nat} (h:d<D):(mr v D p k)[d]?=some (YC (if d<k then bD v (d:Int) p else [])):=by
 unfold mr;rw[List.getElem?_map,List.getElem?_range h];rfl
theorem ajK (v D:Nat) (p:List Tm) (k:Nat):(HS v D p k)[0]?=some (.box true (eX v D p)):=rfl
theorem zT {v D d:Nat} {p:List Tm} {k:Nat} (h:d<D):(HS v D p k)[d+1]?=some (.row (decide (k<=d)) (av ((bD v (d:Int) p).map tn))):=by
 show(zS v D p k++_)[d]?=_;rw[qi (by rw[kP];exact h)];exact Ri h
theorem Ep (v D:Nat) (p:List Tm) (k:Nat):(HS v D p k)[D+1]?=some (.box true (mr v D p k)):=by
 show(zS v D p k++_)[D]?=_;rw[qh (by rw[kP];omega),kP,Nat.sub_self];rfl
theorem JF {l:List Ob} {i j:Nat} (h:i≠j):(l.modify i Ob.ro)[j]?=l[j]?:=by
 rw[List.getElem?_modify];simp only[if_neg h];cases l[j]?<;>rfl
theorem Mb {v D k:Nat} {p:List Tm} (hk:k<D):d_ (List.range (D+2)) (((HS v D p k).modify (k+1) Ob.ro).set (D+1) (Ob.box true (List.take k (mr v D p k)++YC (bD v (k:Int) p)::List.drop (k+1) (mr v D p k)))) (List.range (D+2)) (HS v D p (k+1)):=by
 have bn:List.take k (mr v D p k)++YC (bD v (k:Int) p)::List.drop (k+1) (mr v D p k)=(mr v D p k).set k (YC (bD v (k:Int) p)):=by
  rw[List.set_eq_take_append_cons_drop,if_pos (by rw[fU];exact hk)]
 rw[bn];refine A_ (by rw[List.length_range,k6]) fun i j o hj ho=>?_
 have hi:i<D+2:=by
  have:=(List.getElem?_eq_some_iff.1 ho).1;rwa [k6] at this
 rw[List.getElem?_range hi] at hj;cases hj;by_cases hiD:i=D+1
 .subst hiD;rw[Ep] at ho;cases ho;refine⟨_,qv (by rw[List.length_modify,k6];omega),rfl,pd (by rw[length_set,fU,fU]) fun j x y hx hy=>?_⟩;have hj:j<D:=by
   have:=(List.getElem?_eq_some_iff.1 hy).1;rwa [fU] at this
  rw[Eo hj] at hy;cases hy;by_cases Tk:k=j
  .subst Tk;rw[qv (by rw[fU];exact hj)] at hx;cases hx;rw[if_pos (by omega)];rfl
  rw[getElem?_set_ne Tk,Eo hj] at hx;cases hx;by_cases aL:j<k
  .rw[if_pos aL,if_pos (by omega)];rfl
  rw[if_neg aL,if_neg (by omega)];rfl
 cases i with
 | zero=>
  cases ho;refine⟨.box true (eX v D p),?_,rfl,pd rfl fun j x y hx hy=>?_⟩
  .rw[getElem?_set_ne (by omega),JF (by omega)];rfl
  .have hj:j<D:=by
    have:=(List.getElem?_eq_some_iff.1 hy).1;rwa [cP] at this
   rw[iD hj] at hx hy;cases hx;cases hy;exact⟨List.getElem?_range (by omega),rfl,rfl,rfl⟩
 | succ j=>
  have hj:j<D:=by omega
  rw[zT hj] at ho;cases ho;by_cases Tk:k=j
  .subst Tk;refine⟨Ob.row false (av ((bD v (k:Int) p).map tn)),?_,?_,rfl⟩
   .rw[getElem?_set_ne (by omega),List.getElem?_modify_eq,zT hj];rfl
   rw[jI (by omega)]
  refine⟨Ob.row (decide (k<=j)) (av ((bD v (j:Int) p).map tn)),?_,?_,rfl⟩
  .rw[getElem?_set_ne (by omega),JF (by omega),zT hj]
  by_cases h9:k<=j
  .rw[f3 h9,f3 (by omega)]
  rw[jI h9,jI (by omega)]
theorem GL {v D:Nat} {p:List Tm}:d_ (List.range (D+2)) (HC v D p++[Ob.box true (replicate D PV.nilsl)]) (List.range (D+2)) (HS v D p 0):=by
 refine A_ (by rw[List.length_range,k6]) fun i j o hj ho=>?_
 have hi:i<D+2:=by
  have:=(List.getElem?_eq_some_iff.1 ho).1;rwa [k6] at this
 rw[List.getElem?_range hi] at hj;cases hj;by_cases hiD:i=D+1
 .subst hiD;rw[Ep] at ho;cases ho;refine⟨_,zQ (fJ v D p) _,rfl,pd (by rw[qib,fU]) fun j x y hx hy=>?_⟩;have hj:j<D:=by
   have:=(List.getElem?_eq_some_iff.1 hy).1;rwa [fU] at this
  rw[Eo hj,if_neg (by omega)] at hy;cases hy;rw[List.getElem?_replicate,if_pos hj] at hx;cases hx;exact trivial
 cases i with
 | zero=>
  cases ho;refine⟨.box true (eX v D p),rfl,rfl,pd rfl fun j x y hx hy=>?_⟩;have hj:j<D:=by
   have:=(List.getElem?_eq_some_iff.1 hy).1;rwa [cP] at this
  rw[iD hj] at hx hy;cases hx;cases hy;exact⟨List.getElem?_range (by omega),rfl,rfl,rfl⟩
 | succ j=>
  have hj:j<D:=by omega
  rw[zT hj] at ho;cases ho;exact⟨_,zN hj _,by rw[f3 (dk _)],rfl⟩
theorem U7 {k:Nat} {E:Int} {p:List Tm} {v:Nat} {d:Int} (h:POk k E p) (hE:0<=E):POk k E (bD v d p):=by
 refine⟨pY h.canon,fun t ht=>?_,fun t ht e he=>?_⟩
 all_goals
  unfold bD at ht;obtain⟨u,hu,rfl⟩:=mem_map.1 ht;have Bt:=(List.mem_filter.1 hu).1
 .exact h.bd u Bt
 rcases List.mem_or_eq_of_mem_set he with h1 | h1
 .exact h.exp u Bt e h1
 omega
theorem GM (H:List Ob) (f:Nat->List Tm): ∀ l:List Nat,l6 H (l.map (fun d=>YC (f d)))=some (l.map (fun d=>FV.sl (av ((f d).map tn))))
 | []=>rfl
 | d::l=>by
  rw[map_cons,map_cons,l6,GM H f l];rfl
def GN (D:Nat) (x:PV) (y:PV):List PV:=[.any,.any,.any,.any,.any,.any,.any,.any,.any,x]++replicate 34 .any++[y,.int .i64 D,.int .i64 D]++replicate 11 .any
theorem C' {v D:Nat} {p:List Tm} (hD:ju v p+1=(D:Int)):Weak 0 ⟨GN D (.lsl (D+1) 0 D 1) (.lsl 0 0 D 1),HS v D p D⟩ ⟨GN D (GJ (dH v p)) .any,[]⟩:=by
 have co:=Ep v D p D;have hl:=k6 v D p D;have e:mr v D p D=(List.range D).map (fun d:Nat=>YC (bD v (d:Int) p)):=by
  unfold mr;refine List.map_congr_left fun d hd=>?_
  rw[if_pos (List.mem_range.1 hd)]
 rw[e] at co;obtain⟨HH,FA⟩:=ax (HS v D p D);rw[FA] at co hl ⊢;refine Weak.shut [D+1] ?_;show Weak 0 ⟨GN D (.lsl (D+1) 0 D 1) (.lsl 0 0 D 1),HH.modify (D+1) Ob.ro⟩ _;refine Weak.fzb 9 (D+1) D ((List.range D).map (fun d:Nat=>YC (bD v (d:Int) p))) ((List.range D).map (fun d:Nat=>FV.sl (av ((bD v (d:Int) p).map tn)))) rfl ?_ (by simp) (GM _ (fun d:Nat=>bD v (d:Int) p) _) ?_ ?_
 .rw[List.getElem?_modify_eq,co];rfl
 .intro k hk;obtain⟨c,hc,jF⟩:=List.mem_flatMap.1 hk;obtain⟨d,_,rfl⟩:=mem_map.1 hc;simp[fN] at jF
 have e2:(PV.fv (.sl (((List.range D).map (fun d:Nat=>FV.sl (av ((bD v (d:Int) p).map tn)))).map fun x=>[x])))=GJ (dH v p):=by
  unfold GJ dH;rw[hD,Int.toNat_natCast,List.map_map,List.map_map];rfl
 rw[e2];refine wk [] (by simp) rfl ?_ trivial;show bh [] _ _;unfold GJ GN;simp[bh,dF,cw]
theorem aeX (p:List Tm) (v:Nat) (hv:v<8) (hp:POk 10000000 2000 p) (hn:p.length<=50) (hs:p.length<=bk):
 Den Tryz.prog 141 [] [PL (p.map tn),.int .i64 v] [] (GJ (dH v p)):=by
 have agV:=aeV p v hv hp.canon.len (by omega)
 have Kr:=uA (v:=v) (p:=p)
 have xT:ju v p<=2000:=uC (by decide) (fun t ht=>(hp.at (by decide) v t ht).2)
 obtain⟨D,hD⟩: ∃ D:Nat,ju v p+1=(D:Int):=⟨(ju v p+1).toNat,by omega⟩
 have hDl:D<=2001:=by omega
 have rp:=aw (p.map tn)
 rw[length_map] at rp
 obtain⟨n,b8⟩:=ax p.length
 rw[b8] at rp hn
 obtain⟨g,hg⟩:=ax (ju v p)
 rw[hg] at agV hD
 refine dq Tryz.func141 56 0 ?_
 refine aW ?_
 refine aM agV ?_
 simp -dsimp(disch:=omega) only[hD,rp,Int.toNat_natCast,↓reduceIte,ru]
 repeat refine ag ?_
 refine wl (α:=Nat) (fun i=>⟨[PL (p.map tn),.int .i64 v,.any,.any,.any,.lsl 0 0 D 1,.any,.any,.any,.any,.any,.any,.any,.any,.any,.any,.any,PL (p.map tn),.int .i64 n,.int .i64 i]++replicate 38 .any,HC v D (p.take i)⟩) (fun i=>n - i) (fun i=>i<=n) 0 ?_ (dk _) ?_
 .refine Weak.nilcs 11 true (by decide) D [] _ [] rfl ?_
  have e:(Ob.box true ([]++(List.range D).map (fun i=>PV.lsl (([]:List Ob).length+1+i) 0 0 11))::[]++replicate D (Ob.row true []))=HC v D (p.take 0):=by
   unfold HC;show _::_=_::_;congr 1
   .unfold eX;show Ob.box true (List.map _ _)=_;congr 1;refine List.map_congr_left fun d _=>?_
    show PV.lsl (0+1+d) 0 0 11=PV.lsl (d+1) 0 0 11;congr 1;omega
   unfold sP;show replicate D _=_;symm;rw[List.eq_replicate_iff];refine⟨by simp,fun o ho=>?_⟩;obtain⟨d,_,rfl⟩:=mem_map.1 ho;rfl
  rw[e]
  refine wk (List.range (D+1)) nodup_range rfl ?_ (Ma v D _)
  simp[bh,dF,cw]
 intro i hi
 have cl:=cP v D (p.take i)
 refine aW ?_
 refine bM ?_ ?_
 .intro h1 h2
  have dJ:i<p.length:=by omega
  have r1:=oU dJ
  have aY:p[i]∈p:=lY dJ
  have hm:=hp.canon.len _ aY
  have dS:=hp.at (by decide) v _ aY
  have abo:=LN (v:=v) aY
  have eO:p.take (i+1)=p.take i++[p[i]]:=by rw[List.take_add_one,qb dJ];rfl
  obtain⟨t,ht⟩:=ax (p[i])
  rw[ht] at r1 hm dS abo eO
  obtain⟨d,hd⟩: ∃ d:Nat,t.1.getD v 0=(d:Int):=⟨(t.1.getD v 0).toNat,by omega⟩
  have P7:d<D:=by omega
  have ca:=zP (iD (v:=v) (p:=p.take i) P7)
  have h8:(tn t).1.length=8:=hm
  have q4:=aU h8
  have fl:=aJ h8
  have tcl:=aH h8
  have tat:=mT (t:=tn t) (i:=v) hv h8
  change List.take 1 (List.drop v (fC (tn t)))=[PV.int .i64 (t.1.getD v 0)] at tat
  rw[hd] at tat
  have bS:=me (t:=tn t) (i:=v) (x:=0) hv h8
  change List.take v (fC (tn t))++[PV.int IntKind.i64 0]++List.drop (v+1) (fC (tn t))=fC (tn (t.1.set v 0,t.2)) at bS
  have Tu:(tn (t.1.set v 0,t.2)).1.length=8:=by simp[tn,hm]
  obtain⟨u,hu⟩:=ax (tn (t.1.set v 0,t.2))
  have bO:=dT ((bD v (d:Int) (p.take i)).map tn) (tn (t.1.set v 0,t.2))
  rw[<-lG] at bO
  obtain⟨Q,hQ⟩:=ax (bD v (d:Int) (p.take i)++[(t.1.set v 0,t.2)])
  have kU:(bD v (d:Int) (p.take i)).length<=i:=by
   have:=wc (v:=v) (d:=(d:Int)) (p:=p.take i);rw[length_take] at this;omega
  have ro:=aw ((bD v (d:Int) (p.take i)).map tn)
  rw[length_map] at ro
  have hQl:Q.length=(bD v (d:Int) (p.take i)).length+1:=by rw[<-hQ,qe];rfl
  have tko:=bB (ts:=(bD v (d:Int) (p.take i)).map tn) (n:=(bD v (d:Int) (p.take i)).length) (by rw[length_map];omega)
  have tU:=zN (v:=v) (p:=p.take i) P7
  have h0:=aeW v D (p.take i)
  have hL:=fJ v D (p.take i)
  have Is:=YD v D (p.take i) d
  rw[hQ] at bO
  rw[hu] at bS Tu bO
  obtain⟨O,hO⟩:=ax (bD v (d:Int) (p.take i))
  rw[hO] at ca bO kU ro hQl tU tko
  obtain⟨CC,hCC⟩:=ax (eX v D (p.take i))
  rw[hCC] at ca cl h0 Is
  obtain⟨HH,FA⟩:=ax (HC v D (p.take i))
  rw[FA] at tU h0 Is hL ⊢
  have u11:=cW Tu
  have ul:=aH Tu
  have abp:=aU Tu
  have ufl:=aJ Tu
  have ym:(D+1+1==d+1)=false:=by rw[qx];omega
  simp -dsimp(disch:=omega) only[h2,r1,q4,dI,fl,tcl,rp,tat,bS,Nat.mul_one,append_nil,hL,zQ hL,L_ hL,↓reduceIte,Nat.reduceAdd,Nat.reduceLT,Nat.reduceLeDiff,ru]
  repeat refine ag ?_
  refine dw (by kernel_rfl) ?_
  simp -dsimp(disch:=omega) only[h0,ca,cl,u11,ul,abp,cT,c_,ro,tko,bO,tU,append_nil,hL,zQ hL,L9 hL,ym,qe,length_cons,List.length_nil,append_assoc,↓reduceIte,Nat.reduceAdd,Nat.reduceMul,Nat.reduceLT,Nat.reduceLeDiff,ru]
  repeat refine ag ?_
  refine⟨zO _ _ _,?_⟩
  repeat refine ag ?_
  refine ae (aB Is cl) ?_
  repeat refine ag ?_
  refine aA (i+1) ?_ (by omega)
  refine wk (nS D d) (qc P7) rfl ?_ ?_
  .simp[bh,dF,cw]
   exact En D d
  rw[<-FA,<-hCC,<-hO,eO]
  exact GK P7 hd (by rw[hQ])
 intro h1 h2
 have Nb:p.take i=p:=dm (by omega)
 rw[Nb]
 have hL:=fJ v D p
 obtain⟨HH,FA⟩:=ax (HC v D p)
 rw[FA] at hL ⊢
 simp -dsimp(disch:=omega) only[h2,hL,Int.toNat_natCast,↓reduceIte,Nat.reduceBEq,ru]
 repeat refine ag ?_
 refine wl (α:=Nat) (fun k=>if k=D then⟨GN D (GJ (dH v p)) .any,[]⟩ else⟨[.any,.any,.any,.any,.any,.any,.any,.any,.any,.lsl (D+1) 0 D 1]++replicate 34 .any++[.lsl 0 0 D 1,.int .i64 D,.int .i64 k]++replicate 11 .any,HS v D p k⟩) (fun k=>D - k) (fun k=>k<=D) 0 ?_ (dk _) ?_
 .by_cases hD0:0=D
  .rw[if_pos hD0]
   have wd:=C' (v:=v) (p:=p) (D:=D) (by rw[hg];exact hD)
   refine Weak.trans ?_ wd
   subst hD0
   refine wk (List.range (0+2)) nodup_range rfl ?_ ?_
   .unfold GN
    simp[bh,dF,cw]
   rw[<-FA]
   exact GL
  rw[if_neg hD0]
  refine wk (List.range (D+2)) nodup_range rfl ?_ ?_
  .simp[bh,dF,cw]
  rw[<-FA]
  exact GL
 intro k hk
 by_cases Zg:k=D
 .rw[if_pos Zg]
  subst Zg
  unfold GN
  have h4:decide ((k:Int)<(k:Int))=false:=oc
  refine bw h4 ?_
  refine a_ ?_
  unfold GJ
  rfl
 rw[if_neg Zg]
 have Zg:k<D:=by omega
 have h4:decide ((k:Int)<(D:Int))=true:=yP
 refine aW ?_
 have ca:=zP (iD (v:=v) (p:=p) Zg)
 have c0:=ajK v D p k
 have cr:=zT (v:=v) (p:=p) (k:=k) Zg
 have co:=Ep v D p k
 have cl:=cP v D p
 have ol:=fU v D p k
 obtain⟨HH,FA⟩:=ax (HS v D p k)
 rw[FA] at c0 cr co ⊢
 have hpo:=U7 (v:=v) (d:=(k:Int)) hp (by decide)
 have kU:(bD v (k:Int) p).length<=n:=by
  have:=wc (v:=v) (d:=(k:Int)) (p:=p);omega
 have yt:=L5 ((bD v (k:Int) p).map tn) (fun t ht=>((hpo.ts (by decide)) t ht).mono (by decide)) (by
  rw[bE];exact PB.terms (n:=50) (j:=10000000) (by decide) hpo.bd (by omega) (by decide)) (by rw[length_map];omega) (by rw[bE,e_ hpo.canon];omega)
 rw[bE,e_ hpo.canon] at yt
 have rt:=aw ((bD v (k:Int) p).map tn)
 rw[length_map] at rt
 have tk:=bB (ts:=(bD v (k:Int) p).map tn) (n:=(bD v (k:Int) p).length) (by rw[length_map];omega)
 refine ae (dR h4 c0 ca cl) ?_
 repeat refine ag ?_
 refine gp yt (by simp[bJ,eT,eo,dZ,cr,tk,rt]) ?_
 have cm:(HH.modify (k+1) Ob.ro)[D+1]?=some (.box true (mr v D p k)):=by
  rw[JF (by omega)];exact co
 refine ae (bA cm ol @append_nil.{0}) ?_
 repeat refine ag ?_
 refine aA (k+1) ?_ (by omega)
 by_cases ke:k+1=D
 .rw[if_pos ke]
  refine Weak.trans ?_ (C' (v:=v) (p:=p) (D:=D) (by rw[hg];exact hD))
  refine wk (List.range (D+2)) nodup_range rfl ?_ ?_
  .unfold GN
   simp[bh,dF,cw]
   omega
  rw[<-FA,append_assoc]
  have e8:HS v D p D=HS v D p (k+1):=by rw[ke]
  rw[e8]
  exact Mb Zg
 rw[if_neg ke]
 refine wk (List.range (D+2)) nodup_range rfl ?_ ?_
 .simp[bh,dF,cw]
 rw[<-FA,append_assoc]
 exact Mb Zg
structure zU (q:List Tm) (cs:List (List Tm)):Prop where
 out: ∀ i,LOkT 1000000 100000 (hornT q (cs.drop i))/\(hornT q (cs.drop i)).length<=bk
 prod: ∀ i,LOkT 1000000 100000 (nf (prodT (hornT q (cs.drop i)) q))/\(nf (prodT (hornT q (cs.drop i)) q)).length<=bk
 part: ∀ c∈cs,LOkT 1000000 100000 c/\c.length<=bk
theorem iq:bk<=20:=by decide
theorem Rj {cs:List (List Tm)} {i:Nat} (h:i<cs.length):(cs.map fun c=>[FV.sl (av (c.map tn))]).getD i []=[FV.sl (av (cs[i].map tn))]:=by
 rw[qa,List.getElem?_map,qb h];rfl
theorem aeY (p q:List Tm) (v:Nat) (hv:v<8) (hp:POk 1000000 2000 p) (hq:LOkT 1000000 100000 q) (hn:p.length<=20) (hs:p.length<=bk) (hqs:q.length<=bk) (bF:zU q (dH v p)):
 Den Tryz.prog 86 [] [PL (p.map tn),.int .i64 v,PL (q.map tn)] [] (PL ((cS v q p).map tn)):=by
 have W_:=aeX p v hv (hp.mono (by decide) (by decide)) (by omega) hs
 have hm:=iq
 have Kr:=uA (v:=v) (p:=p)
 have xT:ju v p<=2000:=uC (by decide) (fun t ht=>(hp.at (by decide) v t ht).2)
 have fr:=tm v p
 unfold cS
 obtain⟨cs,fL⟩:=ax (dH v p)
 rw[fL] at W_ bF fr ⊢
 obtain⟨D,hD⟩:=ax cs.length
 have hDl:D<=2001:=by omega
 have jM:(cs.map fun c=>[FV.sl (av (c.map tn))]).length=D:=by rw[length_map,hD]
 unfold GJ at W_
 obtain⟨X,hX⟩:=Lc ((cs.map fun c=>[FV.sl (av (c.map tn))]))
 have tU: ∀ i,(h:i<cs.length)->X.getD i []=[FV.sl (av (cs[i].map tn))]:=fun i h=>by rw[<-hX];exact Rj h
 rw[hX] at W_ jM
 refine dq Tryz.func86 26 0 ?_
 refine aW ?_
 refine aM W_ ?_
 refine ae jM ?_
 refine wl (α:=Nat) (fun i=>⟨[.any,.any,PL (q.map tn),.any,.any,.any,.any,.fv (.sl X),PL ((hornT q (cs.drop i)).map tn),.int .i64 ((i:Int) - 1)]++replicate 19 .any,[]⟩) (fun i=>i) (fun i=>i<=D) D ?_ (qp _) ?_
 .refine eH [] ?_ ?_
  .rw[List.drop_of_length_le (by omega)]
   simp[bh,dF,cw]
   exact trivial
  simp[d_]
 intro i hi
 refine aW ?_
 refine bM ?_ ?_
 .intro h1 h2
  obtain⟨j,rfl⟩: ∃ j,i=j+1:=⟨i - 1,by omega⟩
  have e1:(((j+1:Nat):Int) - 1)=(j:Int):=by omega
  have kD:j<cs.length:=by omega
  have hr:=tU j kD
  obtain⟨o1,o2⟩:=bF.out (j+1)
  obtain⟨p1,p2⟩:=bF.prod (j+1)
  obtain⟨c1,c2⟩:=bF.part _ (lY kD)
  have sw:hornT q (cs.drop j)=nf (nf (prodT (hornT q (cs.drop (j+1))) q)++cs[j]):=by
   rw[drop_eq_getElem_cons kD,CP o1.len hq.len c1.len];rfl
  obtain⟨u1,u2⟩:=bF.out j
  rw[sw] at u2
  have agX:=aeU (hornT q (cs.drop (j+1))) q o1 hq (by omega) (by omega) p2
  have Iy:=JC (nf (prodT (hornT q (cs.drop (j+1))) q)) cs[j] (p1.mono (by decide) (by decide)) (c1.mono (by decide) (by decide)) (by omega) (by omega) u2
  rw[<-sw] at Iy
  obtain⟨A,hA⟩:=ax ((hornT q (cs.drop (j+1))).map tn)
  obtain⟨Q,hQ⟩:=ax (q.map tn)
  obtain⟨M,hM⟩:=ax ((nf (prodT (hornT q (cs.drop (j+1))) q)).map tn)
  obtain⟨C,hC⟩:=ax (cs[j].map tn)
  rw[hA,hQ,hM] at agX
  rw[hM,hC] at Iy
  rw[hC] at hr
  rw[hA,hQ]
  refine ae e1 ?_
  refine dw (by kernel_rfl) ?_
  refine aN ?_
  refine aM agX ?_
  refine ae (aB jM hr) ?_
  repeat refine ag ?_
  refine aM Iy ?_
  refine aN ?_
  repeat refine ag ?_
  refine aA j ?_ (by omega)
  rw[<-hQ]
  exact bx []
 intro h1 h2
 have Cn:i=0:=by omega
 subst Cn
 refine ae (aB h2 @List.drop_zero.{0}) ?_
 refine a_ rfl
def JG (m:List Int) (i:Nat):Int:=(m.take i).foldl max (m.getD 0 0)
theorem Rk {m:List Int} {i:Nat} (h:i<m.length):JG m (i+1)=max (JG m i) (m.getD i 0):=by
 unfold JG;rw[List.take_add_one,qb h,List.foldl_append,qa (i:=i),qb h];rfl
theorem U8 {m:List Int} (h:0<m.length):JG m 1=m.getD 0 0:=by
 cases m with
 | nil=>simp at h
 | cons x m=>simp[JG]
theorem zV: ∀ (m:List Int) (a N:Int),m.foldl max a<=N↔a<=N/\ ∀ x∈m,x<=N
 | [],a,N=>by simp
 | x::m,a,N=>by
  rw[foldl_cons,zV m (max a x) N];constructor
  .rintro⟨h1,h2⟩;exact⟨by omega,fun y hy=>by
    rcases List.mem_cons.1 hy with rfl | hy
    .omega
    exact h2 y hy⟩
  rintro⟨h1,h2⟩;exact⟨by have:=h2 x (by simp);omega,fun y hy=>h2 y (mem_cons_of_mem _ hy)⟩
theorem Rl {m:List Int} {N:Int} (h:0<m.length):JG m m.length<=N↔ ∀ x∈m,x<=N:=by
 unfold JG;rw[List.take_length,zV];constructor
 .exact fun h2=>h2.2
 refine fun h2=>⟨h2 _ ?_,h2⟩
 rw[qa,qb h];exact lY h
def zW (p:List Tm):Int:=p.foldl (fun d t=>max d (JG t.1 8)) 0
theorem N2 {p:List Tm} {i:Nat} (h:i<p.length):zW (p.take (i+1))=max (zW (p.take i)) (JG p[i].1 8):=by
 unfold zW;rw[List.take_add_one,qb h,List.foldl_append];rfl
theorem aeZ (m:List Int) (h0:0<m.length) (hn:m.length<=1000):Den Tryz.prog 143 [] [.fv (.sl (ints m))] [] (.int .i64 (JG m m.length)):=by
 have il:=cv m;obtain⟨n,b8⟩:=ax m.length;rw[b8] at il h0 hn ⊢;have h1:decide ((n:Int)<1)=false:=oc;have g0:=iz (xs:=m) (i:=0) (by omega);have m1:=U8 (m:=m) (by omega);refine dq Tryz.func143 24 0 ?_;refine bw (bA il h1 g0) ?_
 repeat refine ag ?_
 refine wl (α:=Nat) (fun i=>⟨[.fv (.sl (ints m)),.any,.any,.int .i64 (JG m i),.int .i64 i]++replicate 20 .any,[]⟩) (fun i=>n - i) (fun i=>1<=i/\i<=n) 1 ?_ ⟨qp _,by omega⟩ ?_
 .rw[m1];exact bx []
 rintro i ⟨nj,hi⟩;refine bw il ?_;refine bM ?_ ?_
 .intro h2 h3;have gi:=iz (xs:=m) (i:=i) (by omega);have ck:=Rk (m:=m) (i:=i) (by omega);obtain⟨x,hx⟩:=ax (m.getD i 0);rw[hx] at gi ck;obtain⟨y,hy⟩:=ax (JG m i);rw[hy] at ck ⊢;refine ae (bA h3 il gi) ?_
  repeat refine ag ?_
  refine aA (i+1) ?_ ⟨by omega,by omega⟩;rw[ck];refine eH [] ?_ ?_
  .simp[bh,dF,cw];split<;>omega
  simp[d_]
 intro h2 h3;have f0:i=n:=by omega
 subst f0;refine ae h3 ?_;refine a_ rfl
theorem ae0 (p:List Tm) (hl:Len8 p) (he: ∀ t∈p,∀ x∈t.1,-1000000000000<=x/\x<=1000000000000) (hn:p.length<=10000):Den Tryz.prog 87 [] [PL (p.map tn)] [] (.int .i64 (zW p)):=by
 have rp:=aw (p.map tn);rw[length_map] at rp;obtain⟨n,b8⟩:=ax p.length;rw[b8] at rp hn;refine dq Tryz.func87 18 0 ?_;refine bw rp ?_;refine wl (α:=Nat) (fun i=>⟨[PL (p.map tn),.any,.any,.int .i64 (zW (p.take i)),.any,.any,PL (p.map tn),.int .i64 n,.int .i64 i]++replicate 10 .any,[]⟩) (fun i=>n - i) (fun i=>i<=n) 0 ?_ (dk _) ?_
 .refine eH [] ?_ ?_
  .simp[bh,dF,cw];rfl
  simp[d_]
 intro i hi;refine aW ?_;refine bM ?_ ?_
 .intro h1 h2;have dJ:i<p.length:=by omega
  have r1:=oU dJ;have hm:=hl _ (lY dJ);have ck:=N2 dJ;obtain⟨t,ht⟩:=ax (p[i]);rw[ht] at r1 hm ck;have h8:(tn t).1.length=8:=hm;have q4:=aU h8;have fl:=aJ h8;have cl:=aH h8;have c8:=ed h8;change List.take 8 (fC (tn t))=mC t.1 at c8;have abr:=aeZ t.1 (by omega) (by omega);rw[hm] at abr;have g1:=uF t.1 8 hm;have i1:List.take 8 (ints t.1)=ints t.1:=dm (by rw[cv];omega);obtain⟨x,hx⟩:=ax (JG t.1 8);rw[hx] at abr ck;obtain⟨y,hy⟩:=ax (zW (p.take i));rw[hy] at ck ⊢;simp -dsimp(disch:=omega) only[h2,r1,q4,dI,fl,cl,rp,append_nil,c8,oJ,p5,g1,Option.isSome_none,imp_self,i1,↓reduceIte,Nat.reduceAdd,Nat.reduceMul,Nat.reduceSub,Nat.reduceLT,Nat.reduceLeDiff,ru]
  repeat refine ag ?_
  refine gp abr (by simp[bJ,eT,eo,dZ]) ?_;refine aN ?_
  repeat refine ag ?_
  refine aA (i+1) ?_ (by omega);rw[ck];refine eH [] ?_ ?_
  .simp[bh,dF,cw];split<;>omega
  simp[d_]
 intro h1 h2;have Nb:p.take i=p:=dm (by omega);rw[Nb];refine ae h2 ?_;refine a_ rfl
theorem GO: ∀ (p:List Tm) (a N:Int),p.foldl (fun d t=>max d (JG t.1 8)) a<=N↔a<=N/\ ∀ t∈p,JG t.1 8<=N
 | [],a,N=>by simp
 | t::p,a,N=>by
  rw[foldl_cons,GO p _ N];constructor
  .rintro⟨h1,h2⟩;exact⟨by omega,fun y hy=>by
    rcases List.mem_cons.1 hy with rfl | hy
    .omega
    exact h2 y hy⟩
  rintro⟨h1,h2⟩;exact⟨by have:=h2 t (by simp);omega,fun y hy=>h2 y (mem_cons_of_mem _ hy)⟩
theorem Mc {p:List Tm} {N:Int} (hN:0<=N) (hl:Len8 p):zW p<=N↔ ∀ t∈p,∀ x∈t.1,x<=N:=by
 unfold zW;rw[GO];constructor
 .rintro⟨_,h⟩ t ht;have h8:=hl t ht;have:=h t ht;rw[<-h8] at this;exact(Rl (by omega)).1 this
 intro h;refine⟨hN,fun t ht=>?_⟩;have h8:=hl t ht;have:=(Rl (m:=t.1) (N:=N) (by omega)).2 (h t ht);rwa [h8] at this
theorem ae1 (p:List Tm) (hp:LOkT 1000000000 1024 p) (hn:p.length<=10000):Den Tryz.prog 161 [] [PL (p.map tn)] [] (.tup [PL (p.map tn),.int .i64 0]):=by
 have Ud:=ae0 p hp.len (fun t ht x hx=>by have:=hp.exp t ht x hx;omega) hn;have ht:=(Mc (N:=1024) (by decide) hp.len).2 (fun t ht x hx=>(hp.exp t ht x hx).2);obtain⟨x,hx⟩:=ax (zW p);rw[hx] at Ud ht;obtain⟨P,hP⟩:=ax (p.map tn);rw[hP] at Ud ⊢;have e1:decide (x>1024)=false:=oc;refine dq Tryz.func161 7 0 ?_;refine aW ?_;refine aM Ud ?_;refine ae e1 ?_;refine a_ rfl
theorem ae2 {k j n:Nat} {E:Int} {p:List Tm} (hj:1<=j) (h:LOkT j E p) (hn:p.length<=n) (hk:n*(j+1)+1<=k):POk k E (nf p):=
 ⟨dc h.len,((PB.terms hj h.bd hn hk).nf).bd (by omega),QS (P:=fun m=> ∀ e∈m,0<=e/\e<=E) h.exp⟩
theorem POk.validB {k:Nat} {p:List Tm} (h:POk k 1024 p):validB (p.map tn)=true:=by
 unfold Go.Proofs.YtjjbkjgifdhlcaaGreat.validB;rw[vP];intro t ht;obtain⟨u,hu,rfl⟩:=mem_map.1 ht;unfold gG;rw[vP];intro e he;have:=h.exp u hu e he;rw[BP];exact⟨f3 this.1,f3 this.2⟩
abbrev fV (g:Nat):PV:= .fv (.lit (.func (.func g) #[] #[]))
theorem ae3 (p q:List Tm) (hp:POk 10000000 1024 p) (hq:POk 10000000 1024 q) (ni:p.length<=bk) (hqs:q.length<=bk) (hs:(nf (p++q)).length<=bk):
 Den Tryz.prog 97 [] [PL (p.map tn),PL (q.map tn)] [] (.tup [PL ((nf (p++q)).map tn),.int .i64 0]):=by
 have hm:=iq
 have tsp:=hp.ts (by decide)
 have tsq:=hq.ts (by decide)
 have v1:=LZ (p.map tn) tsp.l8 (by rw[length_map];omega)
 have v2:=LZ (q.map tn) tsq.l8 (by rw[length_map];omega)
 rw[hp.validB] at v1
 rw[hq.validB] at v2
 have n1:=Rd (p.map tn) (fun t ht=>(tsp t ht).mono (by decide)) (by rw[bE];exact PB.terms (n:=20) (j:=10000000) (by decide) hp.bd (by omega) (by decide)) (by rw[length_map];omega) (by rw[bE,e_ hp.canon];exact ni)
 have n2:=Rd (q.map tn) (fun t ht=>(tsq t ht).mono (by decide)) (by rw[bE];exact PB.terms (n:=20) (j:=10000000) (by decide) hq.bd (by omega) (by decide)) (by rw[length_map];omega) (by rw[bE,e_ hq.canon];exact hqs)
 rw[bE,e_ hp.canon] at n1
 rw[bE,e_ hq.canon] at n2
 have hl:=hp.l.app hq.l
 have Iy:=JC p q (hp.l.mono (by decide) (by decide)) (hq.l.mono (by decide) (by decide)) (by omega) (by omega) hs
 have hr:=ae2 (k:=1000000000) (n:=40) (by decide) hl (by rw[qe];omega) (by decide)
 have agY:=ae1 (nf (p++q)) hr.l (by omega)
 obtain⟨P,hP⟩:=ax (p.map tn)
 obtain⟨Q,hQ⟩:=ax (q.map tn)
 obtain⟨R,hR⟩:=ax ((nf (p++q)).map tn)
 rw[hP] at v1 n1 Iy
 rw[hQ] at v2 n2 Iy
 rw[hR] at Iy agY
 rw[hP,hQ,hR]
 have alj:Den Tryz.prog 152 [] [PL P,PL Q,fV 139] [] (.tup [PL R,.int .i64 0]):=by
  refine dq Tryz.func152 22 0 ?_;refine aW ?_;refine aM v1 ?_;refine ae @Bool.not_true ?_;refine aM v2 ?_;refine ae @Bool.not_true ?_;refine aM n1 ?_;refine aN ?_;refine aM n2 ?_;refine aN ?_;refine aM Iy ?_;refine aN ?_;refine aM agY ?_;refine aN ?_;refine a_ rfl
 refine dq Tryz.func97 9 0 ?_
 refine aW ?_
 refine aM alj ?_
 refine aN ?_
 refine a_ rfl
def zX (cs:List (List Raw)):List (List Raw):=(ncs cs).map dp
theorem xq {cs:List (List Raw)} {l:List Raw} (h:cy l=true):zX (cs++[l])=zX cs:=by simp[zX,ncs,List.filter_append,h]
theorem Da {cs:List (List Raw)} {l:List Raw} (h:cy l=false):zX (cs++[l])=zX cs++[dp l]:=by simp[zX,ncs,List.filter_append,h]
theorem oV {cs:List (List Raw)} {l:List Raw}:eg (cs++[l])=(eg cs||(cy l&&decide (co l 8<0))):=by simp[eg,qub]
theorem eZ {cs:List (List Raw)} {i:Nat} (h:i<cs.length):cs.take (i+1)=cs.take i++[cs.getD i []]:=by
 rw[List.take_succ_eq_append_getElem h,qa,qb h];rfl
theorem GP {cs:List (List Raw)} {i:Nat} (h:eg (cs.take i)=true):eg cs=true:=by
 unfold eg at h ⊢;rw[qpb] at h ⊢;obtain⟨l,hl,h2⟩:=h;exact⟨l,xW hl,h2⟩
theorem GQ {cs:List (List Raw)} {i:Nat}:(zX (cs.take i)).length<=(ncs cs).length:=by
 unfold zX;rw[length_map];unfold ncs;exact List.Sublist.length_le (List.Sublist.filter _ (List.take_sublist i cs))
theorem bc {ls:List (List Raw)} {n:Nat} (h:ls.length<=n):List.take n (ai ls)=ai ls:=dm (by rw[aq];exact h)
theorem bI (ls:List (List Raw)) (x:List Raw):ai ls++[cx x]=ai (ls++[x]):=by simp[ai]
theorem Z2 {l:List Raw} (h:l.length=9):((flat l).drop 24).take 3=(l.getD 8 rz).f.map .fv:=by
 match l,h with
 | [a,b,c,d,e,f,g,i,j],_=>rfl
theorem jY {l:List Raw} (h:l.length=9):((flat l).drop 24)=[.fv (.lit (.bool (l.getD 8 rz).neg)),.fv (.sl (u32s (l.getD 8 rz).num)),.fv (.sl (u32s (l.getD 8 rz).den))]:=by
 match l,h with
 | [a,b,c,d,e,f,g,i,j],_=>rfl
theorem Z3 (cs:List (List Raw)) (bF:AOk 1000000000 cs) (hn:cs.length<=1000) (ej: ∀ l∈cs,¬aX l->LOk 1000 l) (h12:(ncs cs).length<=12):
 Den Tryz.prog 228 [] [.fv (.sl (ai cs))] [] (if eg cs then .tup [.fv (.sl []),.bool false] else .tup [.fv (.sl (ai (sysL cs []))),.bool true]):=by
 obtain⟨n,b8⟩:=ax cs.length
 obtain⟨R,hR⟩: ∃ R:PV,(if eg cs then .tup [.fv (.sl []),.bool false] else .tup [.fv (.sl (ai (sysL cs []))),.bool true])=R:=⟨_,rfl⟩
 rw[hR]
 have rl:=aq cs
 rw[b8] at rl
 refine dq Tryz.func228 28 0 ?_
 refine bw rl ?_
 refine wl (α:=Nat×List (List Raw)) (fun⟨i,out⟩=>⟨[.fv (.sl (ai cs)),.any,.nilsl,.bool false,.lsl 0 0 out.length 27,.any,.any,.fv (.sl (ai cs)),.int .i64 n,.int .i64 i]++replicate 19 .any,[.row true (ai out)]⟩)
  (fun⟨i,_⟩=>n - i) (fun⟨i,out⟩=>i<=n/\out=zX (cs.take i)/\eg (cs.take i)=false) (0,[]) ?_ ?_ ?_
 .refine Weak.nil 4 27 (by decide) rfl ?_
  refine eH [0] ?_ ?_
  .simp[bh,dF,cw]
  simp[d_,fD]
  rfl
 .exact⟨dk _,rfl,rfl⟩
 rintro⟨i,out⟩ ⟨hi,cG,xU⟩
 have pR:out.length<=12:=by rw[cG];exact gD GQ h12
 obtain⟨L,hL⟩:=ax out.length
 have rlo:=aq out
 rw[hL] at rlo pR
 dsimp only
 rw[hL]
 refine aW ?_
 refine bM ?_ ?_
 .intro h1 h2
  have cL:=eZ (cs:=cs) (i:=i) (by omega)
  have hx:=bF.at (i:=i) (by omega)
  have aY:=bC (ls:=cs) (i:=i) (by omega)
  have r1:=aV cs i
  obtain⟨x,jn⟩:=ax (cs.getD i [])
  rw[jn] at hx aY r1 cL
  have hc:=QZ x hx
  have lx:=hx.len
  have jG:=ay lx
  have fx:=aE x
  have gx:=ah x
  have ji:=aj lx
  have I':=jY lx
  obtain⟨b,hb⟩:=ax (cy x)
  rw[hb] at hc
  unfold RL at hc
  refine bm (eU h2 r1 jG fx gx lx ji) ?_
  repeat refine ag ?_
  refine gv hc ?_
  cases b with
  | true=>
   have fM:=nF (x.getD 8 rz) ((hx.at 8).mono (by decide));have nv:co x 8=(x.getD 8 rz).q:=rfl;obtain⟨r,hr⟩:=ax (x.getD 8 rz);rw[hr] at fM I' nv;unfold Raw.v at fM;refine bm (bA I' gx lx) ?_
   repeat refine ag ?_
   refine aM fM ?_;refine ae @append_nil.{0} ?_;refine bM ?_ ?_
   .intro h3 h4;have hv:eg (cs.take (i+1))=true:=by
     rw[cL,oV,hb,nv,f3 (iB.1 h3)];simp
    rw[if_pos (GP hv)] at hR;subst hR;refine ae h4 ?_;refine a_ rfl
   .intro h3 h4;have hv:eg (cs.take (i+1))=false:=by
     rw[cL,oV,hb,nv,jI (fun h=>h3 (iB.2 h)),xU];simp
    refine ae h4 ?_;refine aA (i+1,out) ?_ ⟨by omega,by rw[cL,xq hb];exact cG,hv⟩;exact bx [0]
  | false=>
   have mL: ¬aX x:=fun h=>by rw[(cN lx).2 h] at hb;cases hb
   have hN:=Yo x (ej x aY mL);have hv:eg (cs.take (i+1))=false:=by
    rw[cL,oV,hb,xU];simp
   have ei:=g7 lx;change Den Tryz.prog _ [] [RL x] [] (RL (dp x)) at hN;have hos:=Da (cs:=cs.take i) hb;have fj:=bI out (dp x);obtain⟨y,hy⟩:=ax (dp x);rw[hy] at hN ei hos fj;have gy:=ah y;have eO:=bc (ls:=out) (n:=L) (by omega);have kB:=ay ei;unfold RL at hN;refine bm (bA ji gx lx) ?_
   repeat refine ag ?_
   refine gv hN ?_;refine bm (dN gy ei eO kB fj rlo) ?_
   repeat refine ag ?_
   refine aA (i+1,out++[y]) ?_ ⟨by omega,by rw[cL,hos,cG],hv⟩;exact bx [3]
 intro h1 h2
 have f0:i=n:=by omega
 have eO:cs.take i=cs:=dm (by omega)
 rw[eO] at cG xU
 rw[xU,if_neg (by simp)] at hR
 have h9: ∀ l∈cs,l.length=9:=fun l hl=>(bF l hl).len
 have jf:AOk 1000000000 out:=fun f hf=>by
  rw[cG] at hf;obtain⟨l,hl,rfl⟩:=mem_map.1 hf;obtain⟨h3,h4⟩:=(kO h9).1 hl;exact(mh (ej l h3 h4) (by decide)).mono (by decide)
 obtain⟨ls',q0,ag0⟩:=ajE out jf (by omega)
 have alm:=jf.of_mem q0.mem
 have Ja:=q0.len
 have ez: ∀ a∈ls',∀ b∈ls',bV a b=0->a=b:=by
  intro a ha b hb vL;have key: ∀ f∈ls',IsCn f:=fun f hf=>by
   have:=(q0.mem f).1 hf;rw[cG] at this;obtain⟨l,hl,rfl⟩:=mem_map.1 this;exact mn (h9 l ((kO h9).1 hl).1)
  exact C2 (key a ha) (key b hb) vL
 obtain⟨H1,res,⟨gw,rfl,rfl,Zh⟩,h88⟩:=ajI ls' alm (by omega) ez q0.ord
 have aln:IsSys cs gw:=⟨Zh.sorted,fun f=>by
  rw[Zh.mem,q0.mem,cG];unfold zX;rw[mem_map];constructor
  .rintro⟨l,hl,rfl⟩;obtain⟨h3,h4⟩:=(kO h9).1 hl;exact⟨l,h3,h4,rfl⟩
  rintro⟨l,h3,h4,rfl⟩;exact⟨l,(kO h9).2 ⟨h3,h4⟩,rfl⟩⟩
 have he:=aln.eq h9
 rw[<-he] at hR
 have DW:ls'.length=L:=by omega
 rw[hL] at ag0
 rw[DW] at h88
 have wX:=bc (ls:=gw) (qp _)
 have sY:=aq gw
 subst hR
 refine ae h2 ?_
 refine eG 0 ag0 trivial ?_
 refine ae @append_nil.{0} ?_
 refine eG 0 h88 trivial ?_
 refine ae @append_nil.{0} ?_
 refine O7 (vs:=[.lsl 0 0 gw.length 27,.bool true]) rfl ⟨cK,cK,cK⟩ (show t6 [Ob.row true (ai gw)] [] (.tup [.lsl 0 0 gw.length 27,.bool true])=_ from ?_)
 exact kT (aB wX sY)
end Go.Proofs.YtjjbkjgifdhlcaaGreat
namespace Go.Pl
open Go.AM
def GoodS (s:List (List Raw)):Prop:= ∃ k,1<=k/\SysF k s/\Sz k s
theorem GoodS.len9 {s:List (List Raw)} (h:GoodS s): ∀ l∈s,l.length=9:=by
 obtain⟨k,hk,hs,hz⟩:=h;exact fun l hl=>(hs.ok l hl).len
theorem GoodS.lim {s:List (List Raw)} (h:GoodS s): ∀ l∈s,LOk 1000 l:=by
 obtain⟨k,hk,hs,hz⟩:=h;exact hz.lim hs
theorem GoodS.len {s:List (List Raw)} (h:GoodS s):s.length<=12:=by
 obtain⟨k,hk,hs,hz⟩:=h;exact hz.len hs
theorem GoodS.nc {s:List (List Raw)} (h:GoodS s): ∀ l∈s,¬aX l:=by
 obtain⟨k,hk,hs,hz⟩:=h;exact hs.nc
theorem Db:dr []=true:=eh.2 Gs
def minL:Rat->List Rat->Rat
 | m,[]=>m
 | m,q::l=>minL (if fQ (q - m)<0 then q else m) l
def Z4 (s:List (List Raw)) (v:Nat):List Rat:=(bT s v).map (fun b=>co b 8)
def Rm (s:List (List Raw)) (v:Nat):List Rat:=(ba s v).map (fun b=>co b 8)
structure CsOk (cs:List (List Raw)):Prop where
 ok: ∀ l∈cs,LOk 10000 l
 len:cs.length<=100
 nc:(ncs cs).length<=12
 good:GoodS (sysL cs [])
 nok: ∀ l∈cs,¬aX l->LOk 1000 l
theorem CsOk.len9 {cs:List (List Raw)} (h:CsOk cs): ∀ l∈cs,l.length=9:=fun l hl=>(h.ok l hl).len
theorem Rn {x:Nat->Rat} {v w:Nat} {t:Rat} (h:w≠v):upd x v t w=x w:=by simp[upd,h]
theorem wx {l:List Raw}: ∀ (cs s:List (List Raw)),sysL (cs++[l]) s=if cy l then sysL cs s else C1 (dp l) (sysL cs s)
 | [],s=>by simp[sysL]
 | k::cs,s=>by
  simp only[List.cons_append,sysL];split
  .exact wx cs s
  exact wx cs _
theorem Er {f:List Raw}: ∀ (i:Nat) (out:List (List Raw)),i<=out.length->(∀ j,j<i->bV (out.getD j []) f<0)->C1 f out=out.take i++C1 f (out.drop i)
 | 0,out,_,_=>by simp
 | i+1,[],h,_=>by simp at h
 | i+1,a::out,h,hj=>by
  have h0:bV a f<0:=hj 0 (by omega);have ih:=Er i out (by simp at h;omega) (fun j ss=>hj (j+1) (by omega));simp only[List.take_succ_cons,List.drop_succ_cons,List.cons_append]
  conv=>lhs;unfold C1
  rw[if_pos h0,ih]
theorem U9 {f:List Raw} {out:List (List Raw)} (hj: ∀ j,j<out.length->bV (out.getD j []) f<0):C1 f out=out++[f]:=by
 rw[Er out.length out (qp _) hj];simp[C1]
theorem N3 {f:List Raw} {out:List (List Raw)} {i:Nat} (hi:i<out.length) (hj: ∀ j,j<i->bV (out.getD j []) f<0) (h:bV (out.getD i []) f=0):C1 f out=out:=by
 rw[Er i out (by omega) hj,drop_eq_getElem_cons hi];have e:out[i]=out.getD i []:=by rw[qa,qb hi];rfl
 rw[e];unfold C1;rw[if_neg (by omega),if_pos h,<-e,<-drop_eq_getElem_cons hi,List.take_append_drop]
theorem U_ {f:List Raw} {out:List (List Raw)} {i:Nat} (hi:i<out.length) (hj: ∀ j,j<i->bV (out.getD j []) f<0) (h:0<bV (out.getD i []) f):C1 f out=out.take i++[f]++out.drop i:=by
 rw[Er i out (by omega) hj,drop_eq_getElem_cons hi];have e:out[i]=out.getD i []:=by rw[qa,qb hi];rfl
 rw[e];unfold C1;rw[if_neg (by omega),if_neg (by omega)];simp
theorem N4 {c:Rat} (h:c≠0):0<d9 c:=rJ h
theorem wy {l:List Raw} (hl:l.length=9): ∃ r:Rat,0<r/\ ∀ i,i<9->co (dp l) i=r*co l i:=by
 by_cases h:(bU l).q=0
 .refine⟨1,by decide,fun i hi=>?_⟩;have hz:co l i=0:=oC h _ (Q6 (by omega));rw[hz,Rat.mul_zero];unfold dp co;rw[nJ h,zeros_map,qa,List.getElem?_replicate,if_pos hi];exact cu 0
 refine⟨1 / d9 (bU l).q,?_,fun i hi=>?_⟩
 .have:=N4 h;have h2:(1:Rat) / d9 (bU l).q*d9 (bU l).q=1:=by grind
  by_cases h3:0<1 / d9 (bU l).q
  .exact h3
  exfalso;have h4:=Rat.mul_nonneg (show 0<= -(1 / d9 (bU l).q) by grind) (show 0<=d9 (bU l).q by grind);grind
 rw[oL hl h hi];grind
where
 zeros_map:(replicate 9 (0:Rat)).map cn=replicate 9 (cn 0):=by simp
theorem xr {l:List Raw} (hl:l.length=9):cy (dp l)=cy l:=by
 obtain⟨r,hr,h⟩:=wy hl;have h2:cy (dp l)=true↔cy l=true:=by
  rw[cN (g7 hl),cN hl];constructor
  .intro hc i hi;have:=hc i hi;rw[h i (by omega)] at this;rcases Rat.mul_eq_zero.1 this with h3 | h3
   .grind
   exact h3
  intro hc i hi;rw[h i (by omega),hc i hi,Rat.mul_zero]
 cases h3:cy l<;>cases h4:cy (dp l)<;>simp_all
theorem Dc {l:List Raw} (hl:l.length=9):(co (dp l) 8<0↔co l 8<0)/\(co (dp l) 8<=0↔co l 8<=0):=by
 obtain⟨r,hr,h⟩:=wy hl;rw[h 8 (by omega)];have hp:0<co l 8->0<r*co l 8:=fun h0=>Rat.mul_pos hr h0
 have hn:co l 8<0->r*co l 8<0:=fun h0=>by
  have:=Rat.mul_pos hr (show 0< -(co l 8) by grind);grind
 have hz:co l 8=0->r*co l 8=0:=fun h0=>by rw[h0,Rat.mul_zero]
 constructor<;>constructor<;>intro h1<;>grind
theorem JH {l m:List Raw} {v:Nat} {r:Rat} (hl:l.length=9) (hm:m.length=9) (hv:v<8) (hr:0<r) (h: ∀ i,i<9->co m i=r*co l i) (h0:co l v≠0):cJ v m=cJ v l:=by
 unfold cJ;congr 1;apply List.ext_getElem
 .simp[hl,hm]
 intro i h1 h2;simp only[length_map,length_set] at h1 h2;simp only[List.getElem_map,List.getElem_set];have e1:(m.getD v rz).q=r*(l.getD v rz).q:=h v (by omega);have e2: ∀ (k:List Raw) (hk:i<k.length),k[i].q=co k i:=fun k hk=>by unfold co;rw[qa,qb hk];rfl
 have h0':(l.getD v rz).q≠0:=h0;split
 .have:rz.q=0:=UG;rw[this,Rat.zero_mul,Rat.zero_mul]
 rw[e2 m (by omega),e2 l (by omega),h i (by omega),e1];grind
where
 UG:rz.q=0:=by
  have:=cu 0;unfold Raw.q rz g5;simp[val]
def xZ (s:List (List Raw)) (v:Nat):List (List Raw):=ee s v++(bT s v).flatMap fun l=>(ba s v).map fun u=>bG u l
theorem qg {s:List (List Raw)} {v:Nat} {o:List Raw}:o∈xZ s v↔o∈ff s v:=by
 unfold xZ ff;rw[qr,qr,List.mem_flatMap,List.mem_flatMap];constructor
 .rintro(h | ⟨l,hl,h⟩)
  .exact .inl h
  obtain⟨u,hu,rfl⟩:=mem_map.1 h;exact .inr ⟨u,hu,mem_map.2 ⟨l,hl,rfl⟩⟩
 rintro(h | ⟨u,hu,h⟩)
 .exact .inl h
 obtain⟨l,hl,rfl⟩:=mem_map.1 h;exact .inr ⟨l,hl,mem_map.2 ⟨u,hu,rfl⟩⟩
theorem mw {cs s:List (List Raw)} {v:Nat} (hv:v<8) (h9: ∀ l∈cs,l.length=9) (mL: ∀ l∈cs,¬aX l) (h:IsSys cs s) (b:List Raw):(b∈bT s v↔b∈bT cs v)/\(b∈ba s v↔b∈ba cs v):=by
 have key: ∀ l∈cs,(0<co (dp l) v↔0<co l v)/\(co (dp l) v<0↔co l v<0)/\(co l v≠0->cJ v (dp l)=cJ v l):=by
  intro l hl;obtain⟨r,hr,hc⟩:=wy (h9 l hl);have e:=hc v (by omega);have hp:0<co l v->0<r*co l v:=fun h0=>Rat.mul_pos hr h0
  have hn:co l v<0->r*co l v<0:=fun h0=>by
   have:=Rat.mul_pos hr (show 0< -(co l v) by grind);grind
  have hz:co l v=0->r*co l v=0:=fun h0=>by rw[h0,Rat.mul_zero]
  refine⟨by rw[e];constructor<;>intro h1<;>grind,by rw[e];constructor<;>intro h1<;>grind,fun h0=>JH (h9 l hl) (g7 (h9 l hl)) hv hr hc h0⟩
 constructor
 .rw[gN,gN];constructor
  .rintro⟨f,hf,h1,rfl⟩;obtain⟨l,hl,hc,rfl⟩:=(h.mem f).1 hf;have hp:=(key l hl).1.1 h1;exact⟨l,hl,hp,(key l hl).2.2 (by grind)⟩
  rintro⟨l,hl,h1,rfl⟩;exact⟨dp l,(h.mem _).2 ⟨l,hl,mL l hl,rfl⟩,(key l hl).1.2 h1,((key l hl).2.2 (by grind)).symm⟩
 rw[fI,fI];constructor
 .rintro⟨f,hf,h1,rfl⟩;obtain⟨l,hl,hc,rfl⟩:=(h.mem f).1 hf;have hp:=(key l hl).2.1.1 h1;exact⟨l,hl,hp,(key l hl).2.2 (by grind)⟩
 rintro⟨l,hl,h1,rfl⟩;exact⟨dp l,(h.mem _).2 ⟨l,hl,mL l hl,rfl⟩,(key l hl).2.1.2 h1,((key l hl).2.2 (by grind)).symm⟩
theorem U' {cs s:List (List Raw)} {v:Nat} (hv:v<8) (h9: ∀ l∈cs,l.length=9) (mL: ∀ l∈cs,¬aX l) (h:IsSys cs s):NN s v↔NN cs v:=by
 unfold NN;constructor
 .rintro⟨u,hu,l,hl,h2⟩;exact⟨u,(mw hv h9 mL h u).2.1 hu,l,(mw hv h9 mL h l).1.1 hl,h2⟩
 rintro⟨u,hu,l,hl,h2⟩;exact⟨u,(mw hv h9 mL h u).2.2 hu,l,(mw hv h9 mL h l).1.2 hl,h2⟩
theorem Va {cs s:List (List Raw)} {v:Nat} (hv:v<8) (h9: ∀ l∈cs,l.length=9) (mL: ∀ l∈cs,¬aX l) (h:IsSys cs s):IsSys (xZ cs v) (jm s v):=by
 have h9s: ∀ l∈s,l.length=9:=fun f hf=>by
  obtain⟨l,hl,_,rfl⟩:=(h.mem f).1 hf;exact g7 (h9 l hl)
 have hs:=gQ (i4 (v:=v) h9s);refine⟨hs.sorted,fun f=>?_⟩;change f∈sysL (ff s v) []↔_;rw[hs.mem];have nv: ∀ l∈cs,(co (dp l) v=0↔co l v=0):=fun l hl=>yD (h9 l hl) (mL l hl) (by omega)
 constructor
 .rintro⟨o,ho,hc,rfl⟩;rcases gO.1 ho with⟨h1,h2⟩ | ⟨l,hl,u,hu,h1,h2,rfl⟩
  .obtain⟨l,hl,Kx,rfl⟩:=(h.mem o).1 h1;refine⟨l,qg.2 (gO.2 (.inl ⟨hl,(nv l hl).1 h2⟩)),Kx,?_⟩;rw[nO (h9 l hl)]
  have hL:=(mw hv h9 mL h _).1.1 (gN.2 ⟨l,hl,h1,rfl⟩);have hU:=(mw hv h9 mL h _).2.1 (fI.2 ⟨u,hu,h2,rfl⟩);refine⟨bG (cJ v u) (cJ v l),qg.2 ?_,hc,rfl⟩;unfold ff;rw[qr,List.mem_flatMap];exact .inr ⟨_,hU,mem_map.2 ⟨_,hL,rfl⟩⟩
 rintro⟨o,ho,hc,rfl⟩;rcases gO.1 (qg.1 ho) with⟨h1,h2⟩ | ⟨l,hl,u,hu,h1,h2,rfl⟩
 .refine⟨dp o,gO.2 (.inl ⟨(h.mem _).2 ⟨o,h1,hc,rfl⟩,(nv o h1).2 h2⟩),jy (h9 o h1) hc,?_⟩;rw[nO (h9 o h1)]
 have hL:=(mw hv h9 mL h _).1.2 (gN.2 ⟨l,hl,h1,rfl⟩);have hU:=(mw hv h9 mL h _).2.2 (fI.2 ⟨u,hu,h2,rfl⟩);refine⟨bG (cJ v u) (cJ v l),?_,hc,rfl⟩;unfold ff;rw[qr,List.mem_flatMap];exact .inr ⟨_,hU,mem_map.2 ⟨_,hL,rfl⟩⟩
theorem Vb {cs s:List (List Raw)} (h9: ∀ l∈cs,l.length=9):IsSys ((ncs cs).map dp) s↔IsSys cs s:=by
 have key: ∀ f,(∃ l∈(ncs cs).map dp,¬aX l/\f=dp l)↔ ∃ l∈cs,¬aX l/\f=dp l:=by
  intro f;constructor
  .rintro⟨g,hg,hc,rfl⟩;obtain⟨l,hl,rfl⟩:=mem_map.1 hg;obtain⟨h1,h2⟩:=(kO h9).1 hl;exact⟨l,h1,h2,by rw[nO (h9 l h1)]⟩
  rintro⟨l,hl,hc,rfl⟩;exact⟨dp l,mem_map.2 ⟨l,(kO h9).2 ⟨hl,hc⟩,rfl⟩,jy (h9 l hl) hc,by rw[nO (h9 l hl)]⟩
 exact⟨fun h=>⟨h.sorted,fun f=>by rw[h.mem,key]⟩,fun h=>⟨h.sorted,fun f=>by rw[h.mem,key]⟩⟩
structure Pre (cs:List (List Raw)):Prop where
 cnf: ∀ l∈cs,IsCn l
 nc: ∀ l∈cs,¬aX l
 ok: ∀ l∈cs,LOk 1000 l
 len:cs.length<=13
 good:GoodS (sysL cs [])
theorem GoodS.cnf {s:List (List Raw)} (h:GoodS s): ∀ l∈s,IsCn l:=by
 have h9:=h.len9;obtain⟨k,hk,hs,hz⟩:=h;exact fun l hl=>by rw[<-hs.nm l hl];exact mn (h9 l hl)
theorem GoodS.self {s:List (List Raw)} (h:GoodS s):sysL s []=s:=by
 have h9:=h.len9;obtain⟨k,hk,hs,hz⟩:=h;exact(hs.self.eq h9).symm
theorem GoodS.pre {s:List (List Raw)} (h:GoodS s):Pre s:=⟨h.cnf,h.nc,h.lim,by have:=h.len;omega,by rw[h.self];exact h⟩
theorem kn (cs:List (List Raw)):(ncs cs).length<=cs.length:=List.length_filter_le _ _
theorem N5 {cs:List (List Raw)} (h: ∀ l∈cs,cy l=true):ncs cs=[]:=by
 unfold ncs;exact iC (fun l hl=>by rw[h l hl];rfl)
def dt (q:Rat):List Raw:=(replicate 9 (cn 0)).set 8 (cn q)
def iP (v:Nat):List Raw:=(replicate 9 (cn 0)).set v (cn ((1:Int):Rat))
theorem Ro {v w:Nat} {q:Rat} (_:v<9) (hw:w<9):co ((replicate 9 (cn 0)).set v (cn q)) w=if w=v then q else 0:=by
 unfold co;rw[qa,List.getElem?_set];by_cases h:v=w
 .subst h;rw[if_pos rfl,if_pos (by simp;omega),if_pos rfl,Option.getD_some,cu]
 rw[if_neg h,if_neg (fun e=>h e.symm),List.getElem?_replicate,if_pos hw,Option.getD_some,cu]
theorem zY {w:Nat} {q:Rat} (hw:w<9):co (dt q) w=if w=8 then q else 0:=Ro (by omega) hw
theorem Z5 {v w:Nat} (hv:v<9) (hw:w<9):co (iP v) w=if w=v then 1 else 0:=Ro hv hw
theorem uN (l:List Raw) (x:Nat->Rat):bf l x=co l 8+co l 0*x 0+co l 1*x 1+co l 2*x 2+co l 3*x 3+co l 4*x 4+co l 5*x 5+co l 6*x 6+co l 7*x 7:=rfl
def kQ (s:List (List Raw)) (i:Nat):List (List Raw):=s.take i++s.drop (i+1)
theorem rR {s:List (List Raw)} {i:Nat}:(kQ s i).Sublist s:=by
 unfold kQ;have h:=List.take_append_drop i s
 conv=>rhs;rw[<-h]
 refine List.Sublist.append (List.Sublist.refl _) ?_;rw[<-List.drop_drop];exact List.drop_sublist _ _
theorem rS {s:List (List Raw)} {i:Nat} (h:i<s.length):(kQ s i).length+1=s.length:=by
 unfold kQ;rw[qe,length_take,qt];omega
theorem uO {s:List (List Raw)} {i:Nat} {l:List Raw} (h:l∈kQ s i):l∈s:=rR.subset h
theorem Md {s:List (List Raw)} {i:Nat} (hi:i<s.length) {l:List Raw} (h:l∈s):l∈kQ s i\/l=s.getD i []:=by
 have h2:=List.take_append_drop i s;rw[<-h2,qr] at h;unfold kQ;rw[qr];rcases h with h | h
 .exact .inl (.inl h)
 rw[drop_eq_getElem_cons hi] at h;rcases List.mem_cons.1 h with h | h
 .right;rw[h,qa,qb hi];rfl
 exact .inl (.inr h)
def GoodT (s:List (List Raw)):Prop:= ∃ k,1<=k/\SysF k s/\Sz (k+1) s
theorem Sz.mono {j k:Nat} {s:List (List Raw)} (h:Sz k s) (hk:j<=k):Sz j s:=⟨h.n3,fun h3=>by have:=h.c3 h3;omega,fun h2=>by have:=h.c2 h2;omega,fun h1=>by have:=h.c1 h1;omega⟩
theorem Sz.sub {k:Nat} {s t:List (List Raw)} (h:Sz k s) (hl:t.length<=s.length) (hn:bL t<=bL s):Sz k t:=by
 have h3:=h.n3;have c3:=h.c3;have c2:=h.c2;have c1:=h.c1;refine⟨by omega,fun h=>?_,fun h=>?_,fun h=>?_⟩
 .have:=c3 (by omega);omega
 .have:bL s=2\/bL s=3:=by omega
  rcases this with h5 | h5
  .have:=c2 h5;omega
  have:=c3 h5;omega
 have:bL s=1\/bL s=2\/bL s=3:=by omega
 rcases this with h5 | h5 | h5
 .have:=c1 h5;omega
 .have:=c2 h5;omega
 have:=c3 h5;omega
theorem N6 {s t:List (List Raw)} (h: ∀ l∈t,l∈s):bL t<=bL s:=uH (fun w _ ho=>by
 obtain⟨l,hl,h0⟩:=eP.1 ho;exact eP.2 ⟨l,h l hl,h0⟩)
theorem GoodT.good {s:List (List Raw)} (h:GoodT s):GoodS s:=by
 obtain⟨k,hk,hs,hz⟩:=h;exact⟨k,hk,hs,hz.mono (by omega)⟩
theorem GoodT.sub {s t:List (List Raw)} (h:GoodT s) (ht:t.Sublist s):GoodT t:=by
 obtain⟨k,hk,hs,hz⟩:=h;exact⟨k,hk,⟨hs.sorted.sublist ht,fun l hl=>hs.ok l (ht.subset hl),fun l hl=>hs.nc l (ht.subset hl),fun l hl=>hs.nm l (ht.subset hl)⟩,hz.sub ht.length_le (N6 (fun l hl=>ht.subset hl))⟩
theorem N7 (l:List Raw):(bU (cV l)).q= -(bU l).q:=by
 have h:=rI (C:= -1) (by decide) (rs:=l);have e:(l.map (fun r=>r.q / (-1)))=l.map (fun r=>r.q*((-1:Int):Rat)):=List.map_congr_left (fun r _=>by
  have:((-1:Int):Rat)= -1:=rfl;rw[this];grind)
 rw[e] at h;show(bU (((l.map (fun r=>r.q*((-1:Int):Rat))).map cn))).q=_;rw[h];grind
theorem Rp (c:Rat):d9 (-c)=d9 c:=by
 unfold d9;have h1:(-c).num<0↔ -c<0:=fS;have h2:c.num<0↔c<0:=fS;split<;>split<;>grind
theorem Me (l:List Raw) (h:l.length=9):IsCn (cV l):=⟨l.map (fun r=>r.q*((-1:Int):Rat)),rfl,by simp[h]⟩
theorem wz {f g:List Raw} (hf:IsCn f) (hg:IsCn g) (h: ∀ i,i<9->co f i=co g i):f=g:=by
 have lf:=hf.len;have lg:=hg.len;obtain⟨p,rfl,hp⟩:=hf;obtain⟨q,rfl,hq⟩:=hg;congr 1;apply List.ext_getElem (by omega);intro i h1 h2;have:=h i (by omega);unfold co at this;rw[qa,qb (by simpa using h1),qa,qb (by simpa using h2)] at this;simp only[Option.getD_some,List.getElem_map,cu] at this;exact this
theorem Rq {l:List Raw} (h9:l.length=9) (hc: ¬aX l):dp (cV l)=cV (dp l):=by
 have hn9:=ew h9;have h0:=yC h9 hc;have e:=N7 l;have h0':(bU (cV l)).q≠0:=by rw[e];grind
 refine wz (mn hn9) (Me _ (g7 h9)) (fun i hi=>?_);rw[oL hn9 h0' hi,oM h9 hi,oM (g7 h9) hi,oL h9 h0 hi,e,Rp];grind
theorem Z6 {l:List Raw} (h9:l.length=9) (hc: ¬aX l): ¬aX (cV l):=fun h=>hc (fun i hi=>by
 have:=h i hi;rw[oM h9 (by omega)] at this;grind)
theorem GoodT.turn {s t:List (List Raw)} (h:GoodT s) (ht: ∀ l∈t,l∈s) {x:List Raw} (hx:x∈s) (hl:t.length+1<=s.length):GoodS (sysL (t++[cV x]) [])/\Pre (t++[cV x]):=by
 have aF:=h.good.len;have f_:=h.good.lim;have sX:=h.good.cnf;obtain⟨k,hk,hs,hz⟩:=h;have h9: ∀ l∈s,l.length=9:=fun l hl=>(hs.ok l hl).len
 have h9t: ∀ l∈t++[cV x],l.length=9:=fun l hl=>by
  rcases List.mem_append.1 hl with h1 | h1
  .exact h9 l (ht l h1)
  rw[List.mem_singleton.1 h1];exact ew (h9 x hx)
 have mL: ∀ l∈t++[cV x],¬aX l:=fun l hl=>by
  rcases List.mem_append.1 hl with h1 | h1
  .exact hs.nc l (ht l h1)
  rw[List.mem_singleton.1 h1];exact Z6 (h9 x hx) (hs.nc x hx)
 have Iw:=gQ h9t;have bF: ∀ l∈t++[cV x],¬aX l->LOk (k+1) (dp l):=fun l hl _=>by
  rcases List.mem_append.1 hl with h1 | h1
  .rw[hs.nm l (ht l h1)];exact(hs.ok l (ht l h1)).mono (by omega)
  rw[List.mem_singleton.1 h1,Rq (h9 x hx) (hs.nc x hx),hs.nm x hx];exact mi (hs.ok x hx) hk
 have hnv:bL (sysL (t++[cV x]) [])<=bL s:=by
  rw[rN h9t Iw];refine uH (fun w hw ho=>?_);obtain⟨l,hl,h0⟩:=eP.1 ho;rcases List.mem_append.1 hl with h1 | h1
  .exact eP.2 ⟨l,ht l h1,h0⟩
  rw[List.mem_singleton.1 h1,oM (h9 x hx) (by omega)] at h0;exact eP.2 ⟨x,hx,fun h2=>h0 (by rw[h2];rfl)⟩
 have kf:=lC h9t Iw;have dP:=kn (t++[cV x]);rw[qe,D0] at dP;have hg:GoodS (sysL (t++[cV x]) []):=⟨k+1,by omega,SysF.of h9t Iw bF,hz.sub (by omega) hnv⟩;refine⟨hg,?_,mL,?_,?_,hg⟩
 .intro l hl;rcases List.mem_append.1 hl with h1 | h1
  .exact sX l (ht l h1)
  rw[List.mem_singleton.1 h1];exact Me x (h9 x hx)
 .have hzk:k+1<=1000:=(hz.all (mj hx (hs.nc x hx))).2;intro l hl;rcases List.mem_append.1 hl with h1 | h1
  .exact f_ l (ht l h1)
  rw[List.mem_singleton.1 h1];exact(mi (hs.ok x hx) hk).mono hzk
 rw[qe,D0];omega
noncomputable def oW (s:List (List Raw)) (i:Nat):Bool:=dr (sysL (kQ s i++[cV (s.getD i [])]) [])
noncomputable def jA:Nat->Nat->List (List Raw)->List (List Raw)
 | 0,_,s=>s
 | n+1,i,s=>if i<s.length then(if oW s i then jA n (i+1) s else jA n i (kQ s i)) else s
noncomputable def aQ (cs:List (List Raw)):List (List Raw):=if aZ cs then jA (sysL cs []).length 0 (sysL cs []) else [dt ((-1:Int):Rat)]
theorem qq: ∀ (n i:Nat) (s:List (List Raw)),(jA n i s).Sublist s
 | 0,_,s=>List.Sublist.refl s
 | n+1,i,s=>by
  unfold jA;split
  .split
   .exact qq n (i+1) s
   exact(qq n i (kQ s i)).trans rR
  exact List.Sublist.refl s
theorem Dd {t:List (List Raw)} (h: ∀ l∈t,¬aX l): ¬Gp t:=fun⟨l,hl,hc,_⟩=>h l hl hc
theorem GR {t:List (List Raw)} (h9: ∀ l∈t,l.length=9) (h: ∀ l∈t,¬aX l):aZ t=dr (sysL t []):=by
 unfold aZ;have:eg t=false:=by
  cases hv:eg t with
  | false=>rfl
  | true=>exact absurd ((k5 h9).1 hv) (Dd h)
 rw[this];rfl
structure tZ (ds:List (List Raw)):Prop where
 cs:CsOk ds
 good:GoodT (sysL ds [])
theorem Z7 (a c:Rat) (ha:0<a): ∃ e:Rat,0<e/\ ∀ t:Rat,-e<=t->t<=e->0<a+c*t:=by
 by_cases h0:c=0
 .exact⟨1,by decide,fun t _ _=>by rw[h0,Rat.zero_mul,Rat.add_zero];exact ha⟩
 by_cases hp:0<c
 .have WE:c*(a / (2*c))=a / 2:=by grind
  have he:0<a / (2*c):=by
   by_cases h:0<a / (2*c)
   .exact h
   exfalso;have:=Rat.mul_nonneg (show 0<= -(a / (2*c)) by grind) (show 0<=c by grind);grind
  refine⟨a / (2*c),he,fun t h1 _=>?_⟩;have:=Rat.mul_nonneg (show 0<=t+a / (2*c) by grind) (show 0<=c by grind);grind
 have hn:0< -c:=by grind
 have WE:(-c)*(a / (2*(-c)))=a / 2:=by grind
 have he:0<a / (2*(-c)):=by
  by_cases h:0<a / (2*(-c))
  .exact h
  exfalso;have:=Rat.mul_nonneg (show 0<= -(a / (2*(-c))) by grind) (show 0<= -c by grind);grind
 refine⟨a / (2*(-c)),he,fun t _ h2=>?_⟩;have:=Rat.mul_nonneg (show 0<=a / (2*(-c)) - t by grind) (show 0<= -c by grind);grind
theorem GS {w:Nat} (hw:w<8): ∀ (s:List (List Raw)) (x:Nat->Rat),oq s x-> ∃ e:Rat,0<e/\ ∀ t:Rat,-e<=t->t<=e->oq s (upd x w (x w+t))
 | [],x,_=>⟨1,by decide,fun t _ _ l hl=>by simp at hl⟩
 | m::s,x,h=>by
  obtain⟨e1,h1,k1⟩:=GS hw s x (fun l hl=>h l (mem_cons_of_mem _ hl));obtain⟨e2,h2,k2⟩:=Z7 (bf m x) (co m w) (h m (by simp));by_cases h3:e1<=e2
  .refine⟨e1,h1,fun t ht1 KB l hl=>?_⟩;rcases List.mem_cons.1 hl with h4 | h4
   .subst h4;rw[gH hw];have:=k2 t (by grind) (by grind);grind
   exact k1 t ht1 KB l h4
  refine⟨e2,h2,fun t ht1 KB l hl=>?_⟩;rcases List.mem_cons.1 hl with h4 | h4
  .subst h4;rw[gH hw];have:=k2 t ht1 KB;grind
  exact k1 t (by grind) (by grind) l h4
theorem N9 {s:List (List Raw)} {l:List Raw} {x:Nat->Rat} (hl: ¬aX l) (hx:oq s x) (h0:bf l x=0): ∃ y,oq s y/\bf l y<0:=by
 obtain⟨w,hw,hc⟩:=nM hl;obtain⟨e,he,k⟩:=GS hw s x hx;by_cases hp:0<co l w
 .refine⟨upd x w (x w+ -e),k _ (by grind) (by grind),?_⟩;rw[gH hw,h0];have:=Rat.mul_pos hp he;grind
 refine⟨upd x w (x w+e),k _ (by grind) (by grind),?_⟩;rw[gH hw,h0];have:=Rat.mul_pos (show 0< -(co l w) by grind) he;grind
theorem De {l:List Raw} (h9:l.length=9) (x:Nat->Rat):bf (cV l) x= -bf l x:=by
 have c:=fun w hw=>oM h9 (i:=w) hw
 rw[uN,uN,c 8 (by decide),c 0 (by decide),c 1 (by decide),c 2 (by decide),c 3 (by decide),c 4 (by decide),c 5 (by decide),c 6 (by decide),c 7 (by decide)];grind
theorem Rr {t:List (List Raw)} (h: ∀ l∈t,¬aX l) (x:Nat->Rat):In t x↔oq t x:=
 ⟨fun hi l hl=>by
  rcases hi l hl with h1 | h1
  .exact h1
  exact absurd h1.1 (h l hl),fun hp l hl=> .inl (hp l hl)⟩
theorem Rs {t:List (List Raw)} (h9: ∀ l∈t,l.length=9) (h: ∀ l∈t,¬aX l):dr (sysL t [])=true↔ ∃ x,oq t x:=by
 rw[eh];have:=fun x=>(zG h9 (gQ h9) (Dd h) x).symm.trans (Rr h x)
 exact⟨fun⟨x,hx⟩=>⟨x,(this x).1 hx⟩,fun⟨x,hx⟩=>⟨x,(this x).2 hx⟩⟩
theorem rU {s:List (List Raw)} {i:Nat} (hg:GoodT s) (hi:i<s.length):oW s i=true↔ ∃ y,oq (kQ s i) y/\bf (s.getD i []) y<0:=by
 have aY:s.getD i []∈s:=by rw[qa,qb hi];exact lY _
 have hl:=rS hi;obtain⟨h1,h2⟩:=hg.turn (t:=kQ s i) (fun l hl=>uO hl) aY (by omega);have h9: ∀ l∈kQ s i++[cV (s.getD i [])],l.length=9:=fun l hl=>(h2.ok l hl).len
 have hx9:(s.getD i []).length=9:=hg.good.len9 _ aY;unfold oW;rw[Rs h9 h2.nc];constructor
 .rintro⟨y,hy⟩;refine⟨y,fun l hl=>hy l (List.mem_append_left _ hl),?_⟩;have:=hy (cV (s.getD i [])) (by simp);rw[De hx9] at this;grind
 rintro⟨y,hy,hn⟩;refine⟨y,fun l hl=>?_⟩;rcases List.mem_append.1 hl with h3 | h3
 .exact hy l h3
 rw[List.mem_singleton.1 h3,De hx9];grind
theorem Vc {s:List (List Raw)} {i:Nat} (hg:GoodT s) (hi:i<s.length) (hr:oW s i=false) (x:Nat->Rat):oq (kQ s i) x↔oq s x:=by
 have aY:s.getD i []∈s:=by rw[qa,qb hi];exact lY _
 constructor
 .intro hp l hl;rcases Md hi hl with h1 | h1
  .exact hp l h1
  rw[h1];have vK: ∀ y,oq (kQ s i) y-> ¬bf (s.getD i []) y<0:=fun y hy hn=>by
   have:=(rU hg hi).2 ⟨y,hy,hn⟩;rw[hr] at this;cases this
  by_cases h0:bf (s.getD i []) x=0
  .obtain⟨y,hy,hn⟩:=N9 (hg.good.nc _ aY) hp h0;exact absurd hn (vK y hy)
  have:=vK x hp;grind
 exact fun hp l hl=>hp l (uO hl)
theorem zZ: ∀ (n i:Nat) {s:List (List Raw)},GoodT s-> ∀ x,oq (jA n i s) x↔oq s x
 | 0,_,_,_,_=>Iff.rfl
 | n+1,i,s,hg,x=>by
  unfold jA;split
  .rename_i hi;split
   .exact zZ n (i+1) hg x
   rename_i hr;rw[zZ n i (hg.sub rR) x];exact Vc hg hi (by simpa using hr) x
  exact Iff.rfl
theorem Z8 {s:List (List Raw)} {i j:Nat} (hj:j<i) (hi:i<s.length):(kQ s i).getD j []=s.getD j []:=by
 unfold kQ;rw[qa,qi (by rw[length_take];omega),List.getElem?_take,if_pos hj,<-qa]
theorem Vd {s:List (List Raw)} {i j:Nat} (hj:j<i) (hi:i<s.length): ∀ l∈kQ (kQ s i) j,l∈kQ s j:=by
 intro l hl;unfold kQ at hl ⊢;rw[qr] at hl ⊢;rcases hl with hl | hl
 .left;rw[List.take_append_of_le_length (by rw[length_take];omega),List.take_take] at hl;rwa [Nat.min_eq_left (by omega)] at hl
 right;rw[List.drop_append_of_le_length (by rw[length_take];omega),qr] at hl;rcases hl with hl | hl
 .rw[List.drop_take] at hl;exact xW hl
 have e:i+1=(j+1)+(i - j):=by omega
 rw[e,<-List.drop_drop] at hl;exact qgb hl
theorem z9: ∀ (n i:Nat) {s:List (List Raw)},GoodT s->s.length<=n+i->(∀ j,j<i->j<s.length->oW s j=true)-> ∀ j,j<(jA n i s).length->oW (jA n i s) j=true
 | 0,i,s,_,hn,h,j,hj=>h j (by have:j<s.length:=hj;omega) hj
 | n+1,i,s,hg,hn,h,j,hj=>by
  unfold jA at hj ⊢;by_cases hi:i<s.length
  .rw[if_pos hi] at hj ⊢;by_cases hr:oW s i=true
   .rw[if_pos hr] at hj ⊢;refine z9 n (i+1) hg (by omega) (fun q hq Ft=>?_) j hj;by_cases I5:q=i
    .rw[I5];exact hr
    exact h q (by omega) Ft
   rw[if_neg hr] at hj ⊢;have hl:=rS hi;have yR:=hg.sub (rR (s:=s) (i:=i));refine z9 n i yR (by omega) (fun q hq Ft=>?_) j hj;obtain⟨y,hy,iw⟩:=(rU hg (show q<s.length by omega)).1 (h q hq (by omega));refine(rU yR Ft).2 ⟨y,fun l hl=>hy l (Vd hq hi l hl),?_⟩;rw[Z8 hq hi];exact iw
  rw[if_neg hi] at hj ⊢;exact h j (by omega) hj
noncomputable def wA (s:List (List Raw)):List (List Raw):=jA s.length 0 s
def YE (s:List (List Raw)):Prop:= ∀ j,j<s.length->oW s j=true
theorem Rt (s:List (List Raw)):(wA s).Sublist s:=qq _ _ _
theorem gR {s:List (List Raw)} (h:GoodT s):GoodT (wA s):=h.sub (Rt s)
theorem jZ {s:List (List Raw)} (h:GoodT s) (x:Nat->Rat):oq (wA s) x↔oq s x:=zZ _ _ h x
theorem qw {s:List (List Raw)} (h:GoodT s):YE (wA s):=z9 s.length 0 h (by omega) (fun j hj=>by omega)
theorem N_ {s:List (List Raw)} (h:GoodT s):dr (wA s)=dr s:=by
 have key:Eg (wA s)↔Eg s:=⟨fun⟨x,hx⟩=>⟨x,(jZ h x).1 hx⟩,fun⟨x,hx⟩=>⟨x,(jZ h x).2 hx⟩⟩;cases h1:dr s with
 | true=>exact eh.2 (key.2 (eh.1 h1))
 | false=>exact mo.2 (fun h2=>mo.1 h1 (key.1 h2))
structure aoU (c d:List (List Raw)) (i:Nat):Prop where
 good:GoodT d
 feas:dr d=true
 irr:YE d
 pos: ∀ x,oq d x↔ ∃ t,oq c (upd x i t)
 occs: ∀ w,w<8->w≠i->Pl.occ c w=false->Pl.occ d w=false
 gone:Pl.occ d i=false
structure aoV (v n i:Nat) (c d:List (List Raw)):Prop where
 good:GoodT d
 irr:YE d
 feas:dr d=true
 pos: ∀ x,oq d x↔ ∃ y,(∀ w,(w<i\/i+n<=w\/w=v)->y w=x w)/\oq c y
 occs:(∀ w,w<i->w≠v->Pl.occ c w=false)-> ∀ w,w<i+n->w≠v->Pl.occ d w=false
theorem Mf {s:List (List Raw)} {v:Nat} (hv:v<8) (hg:GoodT s) (Cl:YE s) (Co: ∀ w,w<8->w≠v->occ s w=false) {i j:Nat} (hi:i<s.length) (hj:j<s.length) (sE:i≠j):
 (¬(0<co (s.getD i []) v/\0<co (s.getD j []) v))/\ ¬(co (s.getD i []) v<0/\co (s.getD j []) v<0):=by
 have hm: ∀ q,q<s.length->s.getD q []∈s:=fun q hq=>by rw[qa,qb hq];exact lY _
 have vr: ∀ q (hq:q<s.length),co (s.getD q []) v≠0-> ∀ x,bf (s.getD q []) x=co (s.getD q []) v*(x v - co (cJ v (s.getD q [])) 8):=by
  intro q hq h0 x;have h9:=hg.good.len9 _ (hm q hq);have hb:=im (v:=v) h9 h0;have hc:bf (cJ v (s.getD q [])) x=co (cJ v (s.getD q [])) 8:=jx (fun w hw=>by
   rw[hb.2 w (by omega)];by_cases S6:v=w
   .rw[if_pos S6]
   rw[if_neg S6,C0 (Co w hw (fun e=>S6 e.symm)) _ (hm q hq)];simp[Rat.zero_mul])
  rw[<-hc];exact tv hb hv
 have Zi: ∀ p q,p<s.length->q<s.length->p≠q->s.getD q []∈kQ s p:=by
  intro p q hp hq wT;unfold kQ;rw[qr];by_cases aL:q<p
  .left;rw[qa,qb hq];exact List.mem_take_iff_getElem.2 ⟨q,by omega,rfl⟩
  right;rw[qa,qb hq];refine List.mem_drop_iff_getElem.2 ⟨q - (p+1),by omega,?_⟩;congr 1;omega
 have up: ∀ p q,p<s.length->q<s.length->p≠q->0<co (s.getD p []) v->0<co (s.getD q []) v-> ¬co (cJ v (s.getD p [])) 8<=co (cJ v (s.getD q [])) 8:=by
  intro p q hp hq wT h1 h2 dP;obtain⟨y,hy,hn⟩:=(rU hg hp).1 (Cl p hp);have h3:=hy _ (Zi p q hp hq wT);rw[vr q hq (by grind)] at h3;rw[vr p hp (by grind)] at hn;have h4:co (cJ v (s.getD q [])) 8<y v:=by
   by_cases h:co (cJ v (s.getD q [])) 8<y v
   .exact h
   have:=Rat.mul_nonneg (show 0<=co (s.getD q []) v by grind) (show 0<=co (cJ v (s.getD q [])) 8 - y v by grind);grind
  have:=Rat.mul_nonneg (show 0<=co (s.getD p []) v by grind) (show 0<=y v - co (cJ v (s.getD p [])) 8 by grind);grind
 have dn: ∀ p q,p<s.length->q<s.length->p≠q->co (s.getD p []) v<0->co (s.getD q []) v<0-> ¬co (cJ v (s.getD q [])) 8<=co (cJ v (s.getD p [])) 8:=by
  intro p q hp hq wT h1 h2 dP;obtain⟨y,hy,hn⟩:=(rU hg hp).1 (Cl p hp);have h3:=hy _ (Zi p q hp hq wT);rw[vr q hq (by grind)] at h3;rw[vr p hp (by grind)] at hn;have h4:y v<co (cJ v (s.getD q [])) 8:=by
   by_cases h:y v<co (cJ v (s.getD q [])) 8
   .exact h
   have:=Rat.mul_nonneg (show 0<= -(co (s.getD q []) v) by grind) (show 0<=y v - co (cJ v (s.getD q [])) 8 by grind);grind
  have:=Rat.mul_nonneg (show 0<= -(co (s.getD p []) v) by grind) (show 0<=co (cJ v (s.getD p [])) 8 - y v by grind);grind
 constructor
 .rintro⟨h1,h2⟩
  have a:=up i j hi hj sE h1 h2
  have b:=up j i hj hi (fun e=>sE e.symm) h2 h1
  grind
 rintro⟨h1,h2⟩
 have a:=dn i j hi hj sE h1 h2
 have b:=dn j i hj hi (fun e=>sE e.symm) h2 h1
 grind
theorem mY {α:Type} {p:α->Bool}: ∀ {l:List α},(∀ (i j:Nat) (hi:i<l.length) (hj:j<l.length),i≠j-> ¬(p l[i]=true/\p l[j]=true))->(l.filter p).length<=1
 | [],_=>by simp
 | a::l,h=>by
  have ih:=mY (l:=l) (p:=p) (fun i j hi hj sE=>h (i+1) (j+1) (by simp;omega) (by simp;omega) (by omega));cases hp:p a with
  | false=>rw[List.filter_cons_of_neg (by rw[hp];simp)];exact ih
  | true=>
   rw[List.filter_cons_of_pos hp];have:l.filter p=[]:=by
    rw[List.filter_eq_nil_iff];intro b hb Zj;obtain⟨j,hj,rfl⟩:=List.mem_iff_getElem.1 hb;exact h 0 (j+1) (by simp) (by simp;omega) (by omega) ⟨hp,Zj⟩
   rw[this];simp
theorem JI {s:List (List Raw)} {v:Nat} (hv:v<8) (hg:GoodT s) (Cl:YE s) (Co: ∀ w,w<8->w≠v->occ s w=false):(Z4 s v).length<=1/\(Rm s v).length<=1:=by
 have e: ∀ (i:Nat) (hi:i<s.length),s[i]=s.getD i []:=fun i hi=>by rw[qa,qb hi];rfl
 constructor
 .unfold Z4 bT;rw[length_map,length_map];refine mY (fun i j hi hj sE h=>?_);rw[decide_eq_true_iff,decide_eq_true_iff,e i hi,e j hj] at h;exact(Mf hv hg Cl Co hi hj sE).1 h
 unfold Rm ba;rw[length_map,length_map];refine mY (fun i j hi hj sE h=>?_);rw[decide_eq_true_iff,decide_eq_true_iff,e i hi,e j hj] at h;exact(Mf hv hg Cl Co hi hj sE).2 h
end Go.Pl
namespace Go.Pl
theorem ae4 {c:List (List Raw)} (h:GoodT c):tZ c:=by
 have hl:=h.good.len;have hn:=kn c;refine⟨⟨fun l hl=>(h.good.lim l hl).mono (by decide),by omega,by omega,?_,fun l hl _=>h.good.lim l hl⟩,?_⟩
 .rw[h.good.self];exact h.good
 rw[h.good.self];exact h
theorem Ru {c:List (List Raw)} (h:GoodT c) (hf:dr c=true):aQ c=wA c:=by
 unfold aQ;rw[GR h.good.len9 h.good.nc,h.good.self,hf,if_pos rfl];rfl
theorem GU {x:Nat->Rat}: ¬In [dt ((-1:Int):Rat)] x:=by
 intro h;have h1:=h _ (List.mem_singleton.2 rfl);have c:=fun w hw=>zY (q:=((-1:Int):Rat)) (w:=w) hw
 rw[uN,c 8 (by decide),c 0 (by decide),c 1 (by decide),c 2 (by decide),c 3 (by decide),c 4 (by decide),c 5 (by decide),c 6 (by decide),c 7 (by decide)] at h1;have e:((-1:Int):Rat)= -1:=rfl;simp[e] at h1;rcases h1 with h1 | h1
 .exact absurd h1 (by grind)
 exact absurd h1.2 (by grind)
theorem wB {cs:List (List Raw)} (h9: ∀ l∈cs,l.length=9) (hi:aZ cs=true) (x:Nat->Rat):In cs x↔oq (sysL cs []) x:=by
 have h2:=hi;unfold aZ at h2;rw[BP,Bool.not_eq_true'] at h2;exact zG h9 (gQ h9) (fun hv=>by rw[(k5 h9).2 hv] at h2;cases h2.1) x
theorem JJ {cs:List (List Raw)} (hi:aZ cs=true):dr (sysL cs [])=true:=by
 unfold aZ at hi;rw[BP] at hi;exact hi.2
theorem z_ {cs:List (List Raw)} (h:tZ cs) (x:Nat->Rat):In (aQ cs) x↔In cs x:=by
 have h9:=h.cs.len9;unfold aQ;cases hi:aZ cs with
 | true=>
  rw[if_pos rfl,wB h9 hi];have hg:=gR h.good;have h1:=Rr hg.good.nc x;have h2:=jZ h.good x;exact h1.trans h2
 | false=>
  rw[if_neg (by simp)];refine⟨fun hx=>absurd hx GU,fun hx=>?_⟩;rw[(cX h9).2 ⟨x,hx⟩] at hi;cases hi
end Go.Pl
namespace Go.Pl
open Go.AM
def way (x y:Nat->Rat) (t:Rat):Nat->Rat:=fun i=>x i+t*(y i - x i)
theorem Rv (a:List Raw) (x y:Nat->Rat) (t:Rat): ∀ k,lv a (way x y t) k=lv a x k+t*(lv a y k - lv a x k)
 | 0=>by simp only[lv];grind
 | k+1=>by
  simp only[lv];rw[Rv a x y t k];simp only[way];grind
theorem nT (a:List Raw) (x y:Nat->Rat) (t:Rat):bf a (way x y t)=bf a x+t*(bf a y - bf a x):=Rv a x y t 8
theorem Mh (y:Nat->Rat): ∀ (s:List (List Raw)) (x:Nat->Rat),oq s x-> ∃ e:Rat,0<e/\ ∀ t:Rat,0<=t->t<=e->oq s (way x y t)
 | [],x,_=>⟨1,by decide,fun t _ _ l hl=>by simp at hl⟩
 | m::s,x,h=>by
  obtain⟨e1,h1,k1⟩:=Mh y s x (fun l hl=>h l (mem_cons_of_mem _ hl));obtain⟨e2,h2,k2⟩:=Z7 (bf m x) (bf m y - bf m x) (h m (by simp));by_cases h3:e1<=e2
  .refine⟨e1,h1,fun t ht1 KB l hl=>?_⟩;rcases List.mem_cons.1 hl with h4 | h4
   .subst h4;rw[nT];have:=k2 t (by grind) (by grind);grind
   exact k1 t ht1 KB l h4
  refine⟨e2,h2,fun t ht1 KB l hl=>?_⟩;rcases List.mem_cons.1 hl with h4 | h4
  .subst h4;rw[nT];have:=k2 t (by grind) KB;grind
  exact k1 t ht1 (by grind) l h4
theorem touch {s:List (List Raw)} {l m:List Raw} {z x0:Nat->Rat} (H: ∀ x,oq s x->0<bf l x->0<bf m x) (hz:oq s z) (hl:bf l z=0) (hm:bf m z<=0) (hx:0<bf l x0):
 bf m z=0/\ ∀ y,0<bf l y->0<bf m y:=by
 have key: ∀ y,0<bf l y-> ∃ e:Rat,0<e/\ ∀ t:Rat,0<t->t<=e->0<bf m z+t*(bf m y - bf m z):=by
  intro y hy;obtain⟨e,he,k⟩:=Mh y s z hz;refine⟨e,he,fun t h1 h2=>?_⟩;have h3:=H _ (k t (Rat.le_of_lt h1) h2) (by
   rw[nT,hl];have:=Rat.mul_pos h1 hy;grind)
  rw[nT] at h3;exact h3
 have h0:bf m z=0:=by
  by_cases h:bf m z=0
  .exact h
  exfalso;obtain⟨e,he,k⟩:=key x0 hx;obtain⟨e2,Jb,k2⟩:=Z7 (-bf m z) (-(bf m x0 - bf m z)) (by grind);by_cases h3:e<=e2
  .have a1:=k e he Rat.le_refl;have a2:=k2 e (by grind) h3;grind
  have a1:=k e2 Jb (by grind);have a2:=k2 e2 (by grind) Rat.le_refl;grind
 refine⟨h0,fun y hy=>?_⟩
 obtain⟨e,he,k⟩:=key y hy
 have a1:=k e he Rat.le_refl
 rw[h0] at a1
 by_cases h:0<bf m y
 .exact h
 exfalso
 have:=Rat.mul_nonneg (Rat.le_of_lt he) (show 0<= -bf m y by grind)
 grind
theorem Ve {a b:Rat} (h: ∀ k:Rat,0<a+k*b):b=0:=by
 by_cases hb:b=0
 .exact hb
 exfalso;have h1:=h (-(a+1) / b);have h2: -(a+1) / b*b= -(a+1):=by grind
 grind
theorem Rx {l m:List Raw} {z x0:Nat->Rat} (Kx: ¬aX l) (hmc: ¬aX m) (h: ∀ y,0<bf l y->0<bf m y) (hl:bf l z=0) (hm:bf m z=0) (hx:0<bf l x0):
 ∃ c:Rat,0<c/\ ∀ i,i<9->co m i=c*co l i:=by
 obtain⟨u,hu,hcu⟩:=nM Kx
 have key: ∀ w,w<8->co m w*co l u=co m u*co l w:=by
  intro w hw;by_cases Zk:w=u
  .rw[Zk]
  have:co m w*co l u - co m u*co l w=0:=Ve (a:=bf m x0) (fun k=>by
   have h1:=h (upd (upd x0 w (x0 w+k*co l u)) u (x0 u - k*co l w)) (by
    rw[gH hu,gH hw,Rn (fun e=>Zk e.symm)];grind)
   rw[gH hu,gH hw,Rn (fun e=>Zk e.symm)] at h1;grind)
  grind
 have Fz:co m u≠0:=fun h0=>hmc (fun w hw=>by
  have:=key w hw;rw[h0,Rat.zero_mul] at this;rcases Rat.mul_eq_zero.1 this with h1 | h1
  .exact h1
  exact absurd h1 hcu)
 have Uh:0<=co m u*co l u:=by
  by_cases h0:0<=co m u*co l u
  .exact h0
  exfalso;have hn:0< -(co m u*co l u):=by grind
  have qW:=h x0 hx;have bK:0<(-(co m u*co l u))⁻¹:=Rat.inv_pos.2 hn;have hk:0<=(bf m x0+1)*(-(co m u*co l u))⁻¹:=Rat.mul_nonneg (by grind) (Rat.le_of_lt bK);have I_:(bf m x0+1)*(-(co m u*co l u))⁻¹*(co m u*co l u)= -(bf m x0+1):=by
   have:=Rat.mul_inv_cancel (-(co m u*co l u)) (by grind);grind
  obtain⟨k,Pb⟩:=Lc ((bf m x0+1)*(-(co m u*co l u))⁻¹);rw[Pb] at hk I_;have h1:=h (upd x0 u (x0 u+k*co l u)) (by
   rw[gH hu];have hsq:0<=co l u*co l u:=by
    by_cases hp:0<=co l u
    .exact Rat.mul_nonneg hp hp
    have:=Rat.mul_nonneg (show 0<= -co l u by grind) (show 0<= -co l u by grind);grind
   have:=Rat.mul_nonneg hk hsq;grind)
  rw[gH hu] at h1;grind
 have hc:0<co m u / co l u:=by
  have e7:co m u*co l u≠0:=fun h0=>by
   rcases Rat.mul_eq_zero.1 h0 with h1 | h1
   .exact Fz h1
   exact hcu h1
  by_cases hp:0<co m u / co l u
  .exact hp
  exfalso;have e:co m u / co l u*(co l u*co l u)=co m u*co l u:=by grind
  have hsq:0<=co l u*co l u:=by
   by_cases hp:0<=co l u
   .exact Rat.mul_nonneg hp hp
   have:=Rat.mul_nonneg (show 0<= -co l u by grind) (show 0<= -co l u by grind);grind
  have:=Rat.mul_nonneg (show 0<= -(co m u / co l u) by grind) hsq;grind
 obtain⟨c,lS⟩:=Lc (co m u / co l u)
 have alq:c*co l u=co m u:=by rw[<-lS];grind
 rw[lS] at hc
 have Fh: ∀ w,w<8->co m w=c*co l w:=by
  intro w hw;have:=key w hw;have e:(co m w - c*co l w)*co l u=0:=by rw[<-alq] at this;grind
  rcases Rat.mul_eq_zero.1 e with h1 | h1
  .grind
  exact absurd h1 hcu
 refine⟨c,hc,fun i hi=>?_⟩
 by_cases h8:i<8
 .exact Fh i h8
 have pC:i=8:=by omega
 subst pC
 rw[uN] at hl hm
 rw[Fh 0 (by decide),Fh 1 (by decide),Fh 2 (by decide),Fh 3 (by decide),Fh 4 (by decide),Fh 5 (by decide),Fh 6 (by decide),Fh 7 (by decide)] at hm
 grind
theorem Ry {x C:Rat} (hC:0<C):d9 (x / C)=d9 x / C:=by
 have h1:(x / C).num<0↔x / C<0:=fS;have h2:x.num<0↔x<0:=fS;have e:x / C*C=x:=by grind
 have h3:x / C<0↔x<0:=by
  constructor
  .intro h;have:=Rat.mul_pos (show 0< -(x / C) by grind) hC;grind
  intro h;by_cases h4:x / C<0
  .exact h4
  have:=Rat.mul_nonneg (show 0<=x / C by grind) (Rat.le_of_lt hC);grind
 unfold d9;split<;>split<;>grind
theorem Vf {l m:List Raw} {c:Rat} (hl:IsCn l) (hm:IsCn m) (nl:dp l=l) (nm:dp m=m) (Kx: ¬aX l) (hmc: ¬aX m) (hc:0<c) (h: ∀ i,i<9->co m i=c*co l i):m=l:=by
 have h9l:=hl.len;have h9m:=hm.len;have bK:0<c⁻¹:=Rat.inv_pos.2 hc;have nh:c*c⁻¹=1:=Rat.mul_inv_cancel c (by grind);have e:m=(l.map (fun r=>r.q / c⁻¹)).map cn:=by
  refine wz hm ⟨_,rfl,by simp[h9l]⟩ (fun i hi=>?_);rw[h i hi];unfold co;rw[qa,qa,qb (by omega),qb (by simp;omega)];simp only[Option.getD_some,List.getElem_map,cu];grind
 have ag1:(bU m).q=(bU l).q / c⁻¹:=by
  have:=rI (C:=c⁻¹) (by grind) (rs:=l);rw[<-e] at this;exact this
 have l0:=yC h9l Kx;have m0:=yC h9m hmc;have vt:d9 (bU m).q=c*d9 (bU l).q:=by rw[ag1,Ry bK];grind
 have hp:=rJ l0;rw[<-nl,<-nm];refine wz (mn h9m) (mn h9l) (fun i hi=>?_);rw[oL h9m m0 hi,oL h9l l0 hi,vt,h i hi];grind
end Go.Pl
namespace Go.Pl
theorem GV (q:Rat):(dt q).length=9:=by simp[dt]
theorem Rz {k:Nat} {q:Rat} (hk:1<=k) (h:Bd k q):LOk k (dt q):=by
 have:dt q=((replicate 9 (0:Rat)).set 8 q).map cn:=by simp[dt]
 rw[this];refine LOk.of_map (by simp) (fun p hp=>?_);rcases List.mem_or_eq_of_mem_set hp with h1 | h1
 .rw[List.eq_of_mem_replicate h1];exact Bd.zero hk
 rw[h1];exact h
theorem rz_ok (k:Nat):rz.Ok k:=by
 refine⟨?_,?_,?_,?_⟩<;>simp[rz,Dig]
end Go.Pl
namespace Go.Pl
open Go.AM
theorem GoodT.nm {s:List (List Raw)} (h:GoodT s): ∀ l∈s,dp l=l:=by
 obtain⟨k,hk,hs,hz⟩:=h;exact hs.nm
theorem GoodT.sorted {s:List (List Raw)} (h:GoodT s):s.Pairwise (fun a b=>bV a b<0):=by
 obtain⟨k,hk,hs,hz⟩:=h;exact hs.sorted
theorem GW {s t:List (List Raw)} (hs:GoodT s) (ht:GoodT t) (Cl:YE s) {x0:Nat->Rat} (h0:oq s x0) (ck: ∀ x,oq s x↔oq t x): ∀ l∈s,l∈t:=by
 intro l hl;obtain⟨i,hi,dJ⟩:=List.mem_iff_getElem.1 hl;have yR:s.getD i []=l:=by rw[qa,qb hi,Option.getD_some,dJ]
 obtain⟨y,hy,hly⟩:=(rU hs hi).1 (Cl i hi);rw[yR] at hly;have hp:0<bf l x0:=h0 l hl;have hd:0<bf l x0 - bf l y:=by grind
 have bK:0<(bf l x0 - bf l y)⁻¹:=Rat.inv_pos.2 hd;have ez:(bf l x0 - bf l y)*(bf l x0 - bf l y)⁻¹=1:=Rat.mul_inv_cancel _ (by grind);obtain⟨t0,ht0⟩:=Lc (bf l x0*(bf l x0 - bf l y)⁻¹);have als:0<t0:=by rw[<-ht0];exact Rat.mul_pos hp bK
 have h1t:0<1 - t0:=by
  have:1 - t0=(-bf l y)*(bf l x0 - bf l y)⁻¹:=by rw[<-ht0];grind
  rw[this];exact Rat.mul_pos (by grind) bK
 have hlz:bf l (way x0 y t0)=0:=by rw[nT,<-ht0];grind
 have hz:oq (kQ s i) (way x0 y t0):=by
  intro a ha;rw[nT];have a1:=Rat.mul_pos h1t (h0 a (uO ha));have a2:=Rat.mul_pos als (hy a ha);grind
 have WS: ¬oq t (way x0 y t0):=fun h=>by
  have:=(ck _).2 h l hl;rw[hlz] at this;exact absurd this (by grind)
 obtain⟨m,hm,hmz⟩: ∃ m,m∈t/\ ¬0<bf m (way x0 y t0):=by
  apply Classical.byContradiction;intro e7;exact WS (fun m hm=>Classical.byContradiction (fun h=>e7 ⟨m,hm,h⟩))
 have H: ∀ x,oq (kQ s i) x->0<bf l x->0<bf m x:=by
  intro x hx Fi;refine(ck x).1 (fun a ha=>?_) m hm;rcases Md hi ha with h | h
  .exact hx a h
  rw[h,yR];exact Fi
 obtain⟨alv,pO⟩:=touch H hz hlz (by grind) hp;obtain⟨c,hc,nv⟩:=Rx (hs.good.nc l hl) (ht.good.nc m hm) pO hlz alv hp;have:=Vf (hs.good.cnf l hl) (ht.good.cnf m hm) (hs.nm l hl) (ht.nm m hm) (hs.good.nc l hl) (ht.good.nc m hm) hc nv;rw[<-this];exact hm
theorem uQ {s t:List (List Raw)} (hs:GoodT s) (ht:GoodT t) (is:YE s) (it:YE t) {x0:Nat->Rat} (h0:oq s x0) (ck: ∀ x,oq s x↔oq t x):s=t:=
 mU (lt:=fun a b=>bV a b<0) (fun a b h h'=>by rw[eE] at h';omega) s t hs.sorted ht.sorted
  (fun f=>⟨GW hs ht is h0 ck f,GW ht hs it ((ck x0).1 h0) (fun x=>(ck x).symm) f⟩)
theorem xt:cy (dt ((-1:Int):Rat))=true:=(cN (GV _)).2 (fun i hi=>by rw[zY (by omega),if_neg (by omega)])
theorem rV:LOk 1 (dt ((-1:Int):Rat)):=Rz (by decide) ⟨by decide,by decide⟩
theorem GX:tZ [dt ((-1:Int):Rat)]:=by
 have hs:sysL [dt ((-1:Int):Rat)] []=[]:=by
  show(if cy (dt ((-1:Int):Rat)) then _ else _)=_;rw[if_pos xt];rfl
 have mL:ncs [dt ((-1:Int):Rat)]=[]:=N5 (fun l hl=>by
  rw[qz] at hl;subst hl;exact xt)
 have hg:GoodT (sysL [dt ((-1:Int):Rat)] []):=by
  rw[hs];have h0:bL []=0:=by decide
  exact⟨1,qp _,⟨List.Pairwise.nil,by simp,by simp,by simp⟩,⟨by omega,fun h=>by omega,fun h=>by omega,fun h=>by omega⟩⟩
 refine⟨⟨fun l hl=>?_,by decide,by rw[mL];decide,hg.good,fun l hl _=>?_⟩,hg⟩
 .rw[qz] at hl;subst hl;exact rV.mono (by decide)
 rw[qz] at hl;subst hl;exact rV.mono (by decide)
theorem GY:aZ [dt ((-1:Int):Rat)]=false:=by
 cases h:aZ [dt ((-1:Int):Rat)] with
 | false=>rfl
 | true=>
  obtain⟨x,hx⟩:=(cX GX.cs.len9).1 h;exact absurd hx GU
theorem N' {a:List (List Raw)} (h:tZ a):tZ (aQ a):=by
 unfold aQ;split
 .exact ae4 (gR h.good)
 exact GX
theorem JK {a:List (List Raw)} (h:tZ a):(aQ a).length<=40:=by
 unfold aQ;split
 .have:=(gR h.good).good.len;exact gD (show(jA (sysL a []).length 0 (sysL a [])).length<=12 from this) (by decide)
 decide
theorem GZ {a:List (List Raw)} (h:tZ a):aQ (aQ a)=aQ a:=by
 cases hi:aZ a with
 | false=>
  have e:aQ a=[dt ((-1:Int):Rat)]:=by unfold aQ;rw[hi];rfl
  rw[e];unfold aQ;rw[GY];rfl
 | true=>
  have e:aQ a=wA (sysL a []):=by unfold aQ;rw[hi];rfl
  have hg:=gR h.good;have hf:dr (wA (sysL a []))=true:=(N_ h.good).trans (JJ hi);rw[e,Ru hg hf];obtain⟨x0,KH⟩:=eh.1 hf;exact uQ (gR hg) hg (qw hg) (qw h.good) ((jZ hg x0).2 KH) (fun x=>jZ hg x)
theorem JL {a b:List (List Raw)} (ha:tZ a) (hb:tZ b):aQ a=aQ b↔ ∀ x,In a x↔In b x:=by
 constructor
 .intro h x;rw[<-z_ ha,<-z_ hb,h]
 intro h;cases hi:aZ a with
 | false=>
  have WB:aZ b=false:=by
   cases WB:aZ b with
   | false=>rfl
   | true=>
    obtain⟨x,hx⟩:=(cX hb.cs.len9).1 WB;rw[(cX ha.cs.len9).2 ⟨x,(h x).2 hx⟩] at hi;cases hi
  unfold aQ;rw[hi,WB];rfl
 | true=>
  obtain⟨x0,KH⟩:=(cX ha.cs.len9).1 hi;have WB:aZ b=true:=(cX hb.cs.len9).2 ⟨x0,(h x0).1 KH⟩;have pa:=wB ha.cs.len9 hi;have pb:=wB hb.cs.len9 WB;have ea:aQ a=wA (sysL a []):=by unfold aQ;rw[hi];rfl
  have eb:aQ b=wA (sysL b []):=by unfold aQ;rw[WB];rfl
  rw[ea,eb];refine uQ (gR ha.good) (gR hb.good) (qw ha.good) (qw hb.good) ((jZ ha.good x0).2 ((pa x0).1 KH)) (fun x=>?_);rw[jZ ha.good,jZ hb.good,<-pa,<-pb];exact h x
abbrev Kc:=List (List Raw)
abbrev RC:=List (List Raw)×List Tm
def cj:Kc->Kc->Int
 | [],[]=>0
 | [],_::_=> -1
 | _::_,[]=>1
 | a::az,b::bs=>if bV a b=0 then cj az bs else bV a b
def CnK (k:Kc):Prop:= ∀ f∈k,IsCn f
theorem CnK.tail {f:List Raw} {k:Kc} (h:CnK (f::k)):CnK k:=fun g hg=>h g (mem_cons_of_mem _ hg)
theorem CnK.head {f:List Raw} {k:Kc} (h:CnK (f::k)):IsCn f:=h f (by simp)
theorem nU: ∀ a:Kc,cj a a=0
 | []=>rfl
 | a::az=>by unfold cj;rw[if_pos (NP a)];exact nU az
theorem gS: ∀ a b:Kc,cj a b= -cj b a
 | [],[]=>rfl
 | [],_::_=>rfl
 | _::_,[]=>rfl
 | a::az,b::bs=>by
  have h:=eE a b;unfold cj;by_cases h0:bV a b=0
  .rw[if_pos h0,if_pos (by omega)];exact gS az bs
  rw[if_neg h0,if_neg (by omega)];exact h
theorem mz: ∀ {a b:Kc},CnK a->CnK b->cj a b=0->a=b
 | [],[],_,_,_=>rfl
 | [],_::_,_,_,h=>by simp[cj] at h
 | _::_,[],_,_,h=>by simp[cj] at h
 | a::az,b::bs,ha,hb,h=>by
  unfold cj at h;by_cases h0:bV a b=0
  .rw[if_pos h0] at h;rw[C2 ha.head hb.head h0,mz ha.tail hb.tail h]
  rw[if_neg h0] at h;exact absurd h h0
theorem oX: ∀ {a b c:Kc},CnK a->CnK b->CnK c->cj a b<0->cj b c<0->cj a c<0
 | [],[],_,_,_,_,h,_=>by simp[cj] at h
 | [],_::_,[],_,_,_,_,h=>by simp[cj] at h
 | [],_::_,_::_,_,_,_,_,_=>by simp[cj]
 | _::_,[],_,_,_,_,h,_=>by simp[cj] at h
 | _::_,_::_,[],_,_,_,_,h=>by simp[cj] at h
 | a::az,b::bs,c::cs,ha,hb,hc,h1,h2=>by
  unfold cj at h1 h2 ⊢;by_cases e1:bV a b=0
  .rw[if_pos e1] at h1;rw[C2 ha.head hb.head e1];by_cases e2:bV b c=0
   .rw[if_pos e2] at h2 ⊢;exact oX ha.tail hb.tail hc.tail h1 h2
   rw[if_neg e2] at h2 ⊢;exact h2
  rw[if_neg e1] at h1;by_cases e2:bV b c=0
  .rw[<-C2 hb.head hc.head e2,if_neg e1];exact h1
  rw[if_neg e2] at h2;have:=xj ha.head hb.head hc.head h1 h2;rw[if_neg (by omega)];exact this
theorem z' {a b c:Kc} (ha:CnK a) (hb:CnK b) (hc:CnK c) (h1:cj a b<0) (h2:cj b c<=0):cj a c<0:=by
 by_cases h:cj b c=0
 .rw[<-mz hb hc h];exact h1
 exact oX ha hb hc h1 (by omega)
theorem BU {a b c:Kc} (ha:CnK a) (hb:CnK b) (hc:CnK c) (h1:cj a b<=0) (h2:cj b c<=0):cj a c<=0:=by
 by_cases h:cj a b=0
 .rw[mz ha hb h];exact h2
 have:=z' ha hb hc (by omega) h2;omega
instance:DecidableEq Raw:=fun a b=>decidable_of_iff (a.neg=b.neg/\a.num=b.num/\a.den=b.den) ⟨fun⟨h1,h2,h3⟩=>by cases a;cases b;simp_all,fun h=>by subst h;exact⟨rfl,rfl,rfl⟩⟩
def dA (k:Kc) (m:Mn):List RC->Rat
 | []=>0
 | r::l=>(if r.1=k then b' m r.2 else 0)+dA k m l
theorem iE (k:Kc) (m:Mn): ∀ a b:List RC,dA k m (a++b)=dA k m a+dA k m b
 | [],b=>by simp[dA,Rat.zero_add]
 | r::a,b=>by
  rw[List.cons_append,dA,dA,iE k m a b,Rat.add_assoc]
theorem Oa {k:Kc} {m:Mn} {a b:List RC} (h:a.Perm b):dA k m a=dA k m b:=by
 induction h with
 | nil=>rfl
 | cons x _ ih=>rw[dA,dA,ih]
 | swap x y l=>simp only[dA];grind
 | trans _ _ h1 h2=>rw[h1,h2]
theorem rX {k:Kc} {m:Mn}: ∀ {l:List RC},(∀ r∈l,r.1≠k)->dA k m l=0
 | [],_=>rfl
 | r::l,h=>by
  rw[dA,if_neg (h r (by simp)),rX (fun x hx=>h x (mem_cons_of_mem _ hx))];grind
structure NF (l:List RC):Prop where
 sorted:l.Pairwise (fun a b=>cj a.1 b.1<0)
 cn: ∀ r∈l,CnK r.1
 can: ∀ r∈l,Canon r.2
 ne: ∀ r∈l,r.2≠[]
theorem NF.nil:NF []:=⟨.nil,by simp,by simp,by simp⟩
theorem NF.tail {r:RC} {l:List RC} (h:NF (r::l)):NF l:=
 ⟨(pairwise_cons.1 h.sorted).2,fun x hx=>h.cn x (mem_cons_of_mem _ hx),fun x hx=>h.can x (mem_cons_of_mem _ hx),fun x hx=>h.ne x (mem_cons_of_mem _ hx)⟩
theorem NF.head {r:RC} {l:List RC} (h:NF (r::l)): ∀ x∈l,cj r.1 x.1<0:=(pairwise_cons.1 h.sorted).1
theorem NF.up {k:Kc} {m:Mn} {r:RC} {l:List RC} (h:NF (r::l)) (hk:CnK k) (hc:cj k r.1<0):dA k m (r::l)=0:=
 rX (fun x hx he=>by
  rcases List.mem_cons.1 hx with h1 | h1
  .rw[h1] at he;rw[he,nU] at hc;omega
  have:=oX hk (h.cn r (by simp)) (h.cn x hx) hc (h.head x h1);rw[he,nU] at this;omega)
theorem NF.own {m:Mn} {r:RC} {l:List RC} (h:NF (r::l)):dA r.1 m (r::l)=b' m r.2:=by
 rw[dA,if_pos rfl,rX (fun x hx he=>by have:=h.head x hx;rw[he,nU] at this;omega)];grind
theorem lJ {p:List Tm} (hp:Canon p) (h:p≠[]): ∃ m,b' m p≠0:=by
 match p,hp,h with
 | t::q,hp,_=>exact⟨t.1,by rw[hp.sum_head];exact hp.nz t (by simp)⟩
theorem NF.uniq: ∀ {p q:List RC},NF p->NF q->(∀ k m,CnK k->dA k m p=dA k m q)->p=q
 | [],[],_,_,_=>rfl
 | [],r::q,_,hq,h=>by
  obtain⟨m,hm⟩:=lJ (hq.can r (by simp)) (hq.ne r (by simp));have:=h r.1 m (hq.cn r (by simp));rw[hq.own,dA] at this;exact absurd this.symm hm
 | r::p,[],hp,_,h=>by
  obtain⟨m,hm⟩:=lJ (hp.can r (by simp)) (hp.ne r (by simp));have:=h r.1 m (hp.cn r (by simp));rw[hp.own,dA] at this;exact absurd this hm
 | r::p,s::q,hp,hq,h=>by
  have hr:=hp.cn r (by simp);have hs:=hq.cn s (by simp);have KF:=gS r.1 s.1;by_cases h1:cj r.1 s.1<0
  .obtain⟨m,hm⟩:=lJ (hp.can r (by simp)) (hp.ne r (by simp));have:=h r.1 m hr;rw[hp.own,hq.up hr h1] at this;exact absurd this hm
  by_cases h2:cj s.1 r.1<0
  .obtain⟨m,hm⟩:=lJ (hq.can s (by simp)) (hq.ne s (by simp));have:=h s.1 m hs;rw[hq.own,hp.up hs h2] at this;exact absurd this.symm hm
  have he:r.1=s.1:=mz hr hs (by omega);have ag2:r.2=s.2:=oE (hp.can r (by simp)) (hq.can s (by simp)) (fun m=>by
   have:=h r.1 m hr;rw[hp.own,he,hq.own] at this;exact this)
  have fj:r=s:=Prod.ext he ag2;rw[fj];rw[fj] at h;rw[NF.uniq hp.tail hq.tail (fun k m hk=>by
   have:=h k m hk;rw[dA,dA] at this;grind)]
def gB:List RC->RC->List RC
 | [],r=>if r.2=[] then [] else [r]
 | x::l,r=>if r.2=[] then x::l else if cj x.1 r.1<0 then x::gB l r else
  if cj x.1 r.1=0 then(if nf (r.2++x.2)=[] then l else(r.1,nf (r.2++x.2))::l) else r::x::l
theorem G0: ∀ {l:List RC} {r y:RC},y∈gB l r->y∈l\/y.1=r.1
 | [],r,y,h=>by
  unfold gB at h;split at h
  .simp at h
  .rw[qz] at h;right;rw[h]
 | x::l,r,y,h=>by
  unfold gB at h;split at h
  .exact .inl h
  split at h
  .rcases List.mem_cons.1 h with h | h
   .left;rw[h];simp
   rcases G0 h with h | h
   .exact .inl (mem_cons_of_mem _ h)
   exact .inr h
  split at h
  .split at h
   .exact .inl (mem_cons_of_mem _ h)
   rcases List.mem_cons.1 h with h | h
   .right;rw[h]
   exact .inl (mem_cons_of_mem _ h)
  rcases List.mem_cons.1 h with h | h
  .right;rw[h]
  exact .inl h
theorem G1 (k:Kc) (m:Mn): ∀ {l:List RC} {r:RC},(∀ x∈l,CnK x.1)->CnK r.1->dA k m (gB l r)=dA k m l+(if r.1=k then b' m r.2 else 0)
 | [],r,_,hr=>by
  unfold gB;by_cases h:r.2=[]
  .rw[if_pos h,h];simp[dA,b'];grind
  .rw[if_neg h];simp only[dA];grind
 | x::l,r,hl,hr=>by
  unfold gB;by_cases h:r.2=[]
  .rw[if_pos h,h];simp[b'];grind
  rw[if_neg h];by_cases h1:cj x.1 r.1<0
  .rw[if_pos h1,dA,G1 k m (fun y hy=>hl y (mem_cons_of_mem _ hy)) hr,dA];grind
  rw[if_neg h1];by_cases h2:cj x.1 r.1=0
  .rw[if_pos h2];have he:=mz (hl x (by simp)) hr h2;have hs:b' m (nf (r.2++x.2))=b' m r.2+b' m x.2:=by rw[te,fT]
   by_cases h3:nf (r.2++x.2)=[]
   .rw[if_pos h3];rw[h3] at hs;have h0:b' m ([]:List Tm)=0:=rfl;rw[h0] at hs;rw[dA,he];split<;>grind
   rw[if_neg h3,dA,dA,he];dsimp only;rw[hs];split<;>grind
  rw[if_neg h2];simp only[dA];grind
theorem Mi: ∀ {l:List RC} {r:RC},NF l->CnK r.1->Canon r.2->NF (gB l r)
 | [],r,_,hr,hc=>by
  unfold gB;split
  .exact .nil
  .next h=>exact⟨by simp,by simpa using hr,by simpa using hc,by simpa using h⟩
 | x::l,r,hl,hr,hc=>by
  unfold gB;by_cases h:r.2=[]
  .rw[if_pos h];exact hl
  rw[if_neg h];have hx:=hl.cn x (by simp);by_cases h1:cj x.1 r.1<0
  .rw[if_pos h1];have ih:=Mi hl.tail hr hc;refine⟨pairwise_cons.2 ⟨fun y hy=>?_,ih.sorted⟩,fun y hy=>?_,fun y hy=>?_,fun y hy=>?_⟩
   .rcases G0 hy with h2 | h2
    .exact hl.head y h2
    rw[h2];exact h1
   .rcases List.mem_cons.1 hy with h2 | h2
    .rw[h2];exact hx
    exact ih.cn y h2
   .rcases List.mem_cons.1 hy with h2 | h2
    .rw[h2];exact hl.can x (by simp)
    exact ih.can y h2
   rcases List.mem_cons.1 hy with h2 | h2
   .rw[h2];exact hl.ne x (by simp)
   exact ih.ne y h2
  rw[if_neg h1];by_cases h2:cj x.1 r.1=0
  .rw[if_pos h2];have he:=mz hx hr h2;by_cases h3:nf (r.2++x.2)=[]
   .rw[if_pos h3];exact hl.tail
   rw[if_neg h3];refine⟨pairwise_cons.2 ⟨fun y hy=>?_,hl.tail.sorted⟩,fun y hy=>?_,fun y hy=>?_,fun y hy=>?_⟩
   .have:=hl.head y hy;rw[he] at this;exact this
   .rcases List.mem_cons.1 hy with h4 | h4
    .rw[h4];exact hr
    exact hl.tail.cn y h4
   .rcases List.mem_cons.1 hy with h4 | h4
    .rw[h4];exact dc (Len8.app hc.len (hl.can x (by simp)).len)
    exact hl.tail.can y h4
   rcases List.mem_cons.1 hy with h4 | h4
   .rw[h4];exact h3
   exact hl.tail.ne y h4
  rw[if_neg h2];have KF:=gS r.1 x.1;have aL:cj r.1 x.1<0:=by omega
  refine⟨pairwise_cons.2 ⟨fun y hy=>?_,hl.sorted⟩,fun y hy=>?_,fun y hy=>?_,fun y hy=>?_⟩
  .rcases List.mem_cons.1 hy with h4 | h4
   .rw[h4];exact aL
   exact oX hr hx (hl.tail.cn y h4) aL (hl.head y h4)
  .rcases List.mem_cons.1 hy with h4 | h4
   .rw[h4];exact hr
   exact hl.cn y h4
  .rcases List.mem_cons.1 hy with h4 | h4
   .rw[h4];exact hc
   exact hl.can y h4
  rcases List.mem_cons.1 hy with h4 | h4
  .rw[h4];exact h
  exact hl.ne y h4
def ir (l:List RC):List RC:=l.foldl gB []
def RcOk (l:List RC):Prop:= ∀ r∈l,CnK r.1/\Canon r.2
theorem Oc (l:List RC) (r:RC):ir (l++[r])=gB (ir l) r:=by simp[ir,List.foldl_append]
theorem Es: ∀ {l s:List RC},NF s->RcOk l->NF (l.foldl gB s)/\ ∀ k m,dA k m (l.foldl gB s)=dA k m s+dA k m l
 | [],s,hs,_=>⟨hs,fun k m=>by simp[dA];grind⟩
 | r::l,s,hs,h=>by
  have hr:=h r (by simp);obtain⟨h1,h2⟩:=Es (l:=l) (Mi hs hr.1 hr.2) (fun x hx=>h x (mem_cons_of_mem _ hx));refine⟨h1,fun k m=>?_⟩;rw[foldl_cons,h2 k m,G1 k m hs.cn hr.1,dA,Rat.add_assoc]
theorem rY {l:List RC} (h:RcOk l):NF (ir l):=(Es NF.nil h).1
theorem uR {l:List RC} (h:RcOk l) (k:Kc) (m:Mn):dA k m (ir l)=dA k m l:=by
 have:=(Es NF.nil h).2 k m;rw[show dA k m []=0 from rfl,Rat.zero_add] at this;exact this
theorem NF.of {M l:List RC} (hM:NF M) (hl:RcOk l) (h: ∀ k m,CnK k->dA k m M=dA k m l):M=ir l:=
 hM.uniq (rY hl) (fun k m hk=>by rw[h k m hk,uR hl])
theorem NF.self {M:List RC} (hM:NF M):ir M=M:=(hM.of (fun r hr=>⟨hM.cn r hr,hM.can r hr⟩) (fun _ _ _=>rfl)).symm
theorem Aa {a b:List RC} (ha:RcOk a) (hb:RcOk b) (h: ∀ k m,CnK k->dA k m a=dA k m b):ir a=ir b:=
 (rY ha).of hb (fun k m hk=>by rw[uR ha,h k m hk])
theorem qA: ∀ (l s:List RC),(l.foldl gB s).length<=s.length+l.length
 | [],s=>by simp
 | r::l,s=>by
  have h:=qA l (gB s r);have h2: ∀ s:List RC,(gB s r).length<=s.length+1:=fun s=>by
   induction s with
   | nil=>unfold gB;split<;>simp
   | cons x s ih=>
    unfold gB;split
    .simp
    split
    .simp only[length_cons];omega
    split
    .split
     .simp only[length_cons];omega
     simp
    simp
  have:=h2 s;rw[foldl_cons,length_cons];omega
end Go.Pl
namespace Go.Proofs.YtjjbkjgifdhlcaaGreat
open Go.AM Go.Pl
set_option maxRecDepth 100000
set_option maxHeartbeats 4000000
abbrev RR:=List (List Raw)×List RT
def x9 (r:RR):List FV:=[.sl (ai r.1),.sl (av r.2)]
def RA (r:RR):List PV:=[.fv (.sl (ai r.1)),.fv (.sl (av r.2))]
def aG (l:List RR):List (List FV):=l.map x9
def qB:RR:=([],[])
def rn (r:RC):RR:=(r.1,r.2.map tn)
abbrev RL' (l:List RR):PV:= .fv (.sl (aG l))
theorem JM (r:RR):(x9 r).map .fv=RA r:=rfl
theorem aK (l:List RR):(aG l).length=l.length:=by simp[aG]
theorem cF {l:List RR} {i:Nat} (h:i<l.length):(aG l).getD i []=x9 (l.getD i qB):=by simp[aG,h]
theorem Df (l:List RR) (i:Nat) (r:RR):(aG l).set i (x9 r)=aG (l.set i r):=by simp[aG,List.map_set]
theorem iu (l:List RR) (r:RR):aG l++[x9 r]=aG (l++[r]):=by simp[aG]
theorem iG {l:List RR} {i:Nat} (h:i<l.length):l.getD i qB∈l:=by
 rw[qa,qb h];exact lY h
theorem jB {l:List RR} {i:Nat} (h:i<l.length):l.take (i+1)=l.take i++[l.getD i qB]:=by
 rw[List.take_succ_eq_append_getElem h,qa,qb h];rfl
theorem cO {l:List RR} {n:Nat} (h:l.length<=n):List.take n (aG l)=aG l:=dm (by rw[aK];exact h)
theorem Dg {a b:Kc} {i:Nat} (ha:i<a.length) (hb:i<b.length):cj (a.drop i) (b.drop i)=
 if bV (a.getD i []) (b.getD i [])=0 then cj (a.drop (i+1)) (b.drop (i+1)) else bV (a.getD i []) (b.getD i []):=by
 rw[drop_eq_getElem_cons ha,drop_eq_getElem_cons hb,qa,qa,qb ha,qb hb]
 rfl
theorem Dh {a b:Kc} {i:Nat} (ha:i<a.length) (hb:b.length<=i):cj (a.drop i) (b.drop i)=1:=by
 rw[drop_eq_getElem_cons ha,List.drop_of_length_le hb];rfl
theorem G2 {a b:Kc} {i:Nat} (ha:a.length<=i) (hi:i<=b.length):cj (a.drop i) (b.drop i)=if i<b.length then -1 else 0:=by
 rw[List.drop_of_length_le ha];by_cases h:i<b.length
 .rw[if_pos h,drop_eq_getElem_cons h];rfl
 rw[if_neg h,List.drop_of_length_le (by omega)];rfl
theorem ae5 (a b:List (List Raw)) (ha:AOk 1000000000 a) (hb:AOk 1000000000 b) (Tv:a.length<=1000) (Pp:b.length<=1000):
 Den Tryz.prog 200 [] [.fv (.sl (ai a)),.fv (.sl (ai b)),fV 201] [] (.int .i64 (cj a b)):=by
 have rla:=aq a
 have rlb:=aq b
 obtain⟨n,b8⟩:=ax a.length
 obtain⟨m,ub⟩:=ax b.length
 rw[b8] at rla Tv
 rw[ub] at rlb Pp
 obtain⟨R,hR⟩:=ax (cj a b)
 rw[hR]
 refine dq Tryz.func200 36 0 ?_
 refine bw rla ?_
 refine wl (α:=Nat) (fun i=>⟨[.fv (.sl (ai a)),.fv (.sl (ai b)),fV 201,.any,.any,.any,.int .i64 0,.any,.any,.any,.any,.fv (.sl (ai a)),.int .i64 n,.int .i64 i]++replicate 25 .any,[]⟩)
  (fun i=>n - i) (fun i=>i<=n/\i<=m/\cj (a.drop i) (b.drop i)=R) 0 ?_ ?_ ?_
 .exact bx []
 .exact⟨dk _,dk _,by rw[List.drop_zero,List.drop_zero];exact hR⟩
 rintro i ⟨h1,h2,h3⟩
 refine aW ?_
 refine bM ?_ ?_
 .intro g1 g2
  have mx:=bC (ls:=a) (i:=i) (by omega)
  have rx:=aV a i
  have hx:=ha _ mx
  have sw:=fun h=>Dg (a:=a) (b:=b) (i:=i) (by omega) h
  obtain⟨x,jn⟩:=ax (a.getD i [])
  rw[jn] at rx hx sw
  have lx:=hx.len
  have jG:=ay lx
  have fx:=aE x
  have gx:=ah x
  have ji:=aj lx
  by_cases hm:i<m
  .have e1:decide ((i:Int)>=(m:Int))=false:=oc
   have my:=bC (ls:=b) (i:=i) (by omega)
   have ry:=aV b i
   have hy:=hb _ my
   have KK:=sw (by omega)
   obtain⟨y,vM⟩:=ax (b.getD i [])
   rw[vM] at ry hy KK
   have ly:=hy.len
   have kB:=ay ly
   have fy:=aE y
   have gy:=ah y
   have gf:=aj ly
   have hd:=QY x y hx hy
   obtain⟨c,hc⟩:=ax (bV x y)
   rw[hc] at hd KK
   rw[h3] at KK
   unfold RL at hd
   refine bm (bu g2 rx jG fx gx lx ji (aB rlb e1)) ?_
   repeat refine ag ?_
   refine bm (dN ry kB fy gy ly gf) ?_
   repeat refine ag ?_
   refine gv hd ?_
   refine vG ?_
   by_cases h0:c=0
   .have e2:(c !=0)=false:=by rw[h0];rfl
    rw[if_pos h0] at KK
    refine ae e2 ?_
    refine aA (i+1) ?_ ⟨by omega,by omega,KK.symm⟩
    exact bx []
   have e2:(c !=0)=true:=by simp[h0]
   rw[if_neg h0] at KK
   refine ae e2 ?_
   subst KK
   exact a_ rfl
  have e1:decide ((i:Int)>=(m:Int))=true:=yP
  have he:=Dh (a:=a) (b:=b) (i:=i) (by omega) (by omega)
  rw[h3] at he
  subst he
  refine bm (bu g2 rx jG fx gx lx rlb e1) ?_
  repeat refine ag ?_
  exact a_ rfl
 intro g1 g2
 have f0:i=n:=by omega
 have he:=G2 (a:=a) (b:=b) (i:=i) (by omega) (by omega)
 rw[h3,ub,f0] at he
 refine ae (bA g2 rla rlb) ?_
 by_cases h0:n<m
 .have e2:decide ((n:Int)<(m:Int))=true:=yP
  rw[if_pos h0] at he
  subst he
  refine ae e2 ?_
  exact a_ rfl
 have e2:decide ((n:Int)<(m:Int))=false:=oc
 rw[if_neg h0] at he
 subst he
 refine ae e2 ?_
 exact a_ rfl
theorem YF (a b:List (List Raw)) (ha:AOk 1000000000 a) (hb:AOk 1000000000 b) (Tv:a.length<=1000) (Pp:b.length<=1000):
 Den Tryz.prog 159 [] [.fv (.sl (ai a)),.fv (.sl (ai b))] [] (.int .i64 (cj a b)):=by
 have h:=ae5 a b ha hb Tv Pp
 refine dq Tryz.func159 6 0 ?_
 refine aW ?_
 refine aM h ?_
 refine aN ?_
 exact a_ rfl
theorem ae6 (a b:RR) (ha:AOk 1000000000 a.1) (hb:AOk 1000000000 b.1) (Tv:a.1.length<=1000) (Pp:b.1.length<=1000):
 Den Tryz.prog 158 [] [.agg (RA a),.agg (RA b)] [] (.int .i64 (cj a.1 b.1)):=by
 have h:=YF a.1 b.1 ha hb Tv Pp
 unfold RA
 refine dq Tryz.func158 8 0 ?_
 refine aW ?_
 refine aM h ?_
 refine aN ?_
 exact a_ rfl
theorem sl2 (o:Ob) (l:List Ob) (a b c:Nat) (u:FV):shutBs (o::l) 0 [.lsl 0 a b c,.fv u]=o::l:=rfl
theorem sl4 (o:Ob) (l:List Ob) (a b c:Nat) (u v w:FV):shutBs (o::l) 0 [.lsl 0 a b c,.fv u,.fv v,.fv w]=o::l:=rfl
theorem Mj (r:RR):(x9 r).length=2:=rfl
theorem Vg (r:RR):(RA r).length=2:=rfl
theorem Di (r:RR):List.take 2 (x9 r)=x9 r:=rfl
theorem Od (r:RR):List.drop 2 (x9 r)=[]:=rfl
theorem Mk (H:List Ob) (r:RR):l6 H (RA r)=some (x9 r):=rfl
theorem Ml (r:RR):(RA r).flatMap fN=[]:=rfl
def Dj (a b:RR):Prop:=cj a.1 b.1<0
theorem RB (x y:RR) (h:Dj x y): ¬Dj y x:=by
 unfold Dj at h ⊢;have:=gS x.1 y.1;omega
theorem Z9 {x y z:RR} (hx:CnK x.1) (hy:CnK y.1) (hz:CnK z.1) (h1: ¬Dj x y) (h2: ¬Dj y z): ¬Dj x z:=by
 unfold Dj at h1 h2 ⊢;have e1:=gS x.1 y.1;have e2:=gS y.1 z.1;have e3:=gS x.1 z.1;have:=BU hz hy hx (by omega) (by omega);omega
structure Z_ (r:RR):Prop where
 cn:CnK r.1
 ok:AOk 1000000000 r.1
 len:r.1.length<=1000
theorem ae7 (ls:List RR) (hl: ∀ r∈ls,Z_ r) (hn:ls.length<=1000000):
 ∃ H1 res,(fun H1 res=> ∃ ls',H1=[.row true (aG ls')]/\res=PV.tup []/\ls'.Perm ls/\ls'.Pairwise (fun a b=>¬Dj b a)) H1 res/\
  Den Tryz.prog 232 [.row true (aG ls)] [.lsl 0 0 ls.length 2,.int .i64 0,.int .i64 ls.length,fV 158] H1 res:=by
 obtain⟨n,b8⟩:=ax ls.length
 rw[b8] at hn ⊢
 refine Lh Tryz.func232 49 1 ?_
 refine aW ?_
 refine wl (α:=Nat×List RR) (fun⟨i,l⟩=>⟨[.lsl 0 0 n 2,.int .i64 0,.int .i64 n,fV 158,.any,.any,.any,.any,.int .i64 i]++replicate 44 .any,[.row true (aG l)]⟩)
  (fun⟨i,_⟩=>n+1 - i) (fun⟨i,l⟩=>1<=i/\(i<=n\/i=1)/\l.Perm ls/\ ∀ p q,p<q->q<i->q<n-> ¬Dj (l.getD q qB) (l.getD p qB)) (1,ls) ?_ ?_ ?_
 .exact bx [0]
 .exact⟨qp _,Or.inr rfl,List.Perm.refl _,fun p q h1 h2 h3=>by omega⟩
 rintro⟨i,l⟩ ⟨nj,f0,fW,vv⟩
 have nk:l.length=n:=by rw[fW.length_eq,b8]
 refine aW ?_
 refine bM ?_ ?_
 .intro h1 h2
  refine ae h2 ?_
  refine wl (α:=Nat×List RR) (fun⟨j,l⟩=>⟨[.lsl 0 0 n 2,.int .i64 0,.int .i64 n,fV 158,.any,.any,.any,.any,.int .i64 i,.int .i64 j]++replicate 43 .any,[.row true (aG l)]⟩)
   (fun⟨j,_⟩=>j) (fun⟨j,l⟩=>j<=i/\l.Perm ls/\QQ qB Dj l i j) (i,l) ?_ ?_ ?_
  .exact bx [0]
  .exact⟨qp _,fW,fun p q h3 h4 h5=>vv p q h3 (by omega) (by omega)⟩
  rintro⟨j,l⟩ ⟨hj,fW,q0⟩
  have nk:l.length=n:=by rw[fW.length_eq,b8]
  have M_: ∀ t∈l,Z_ t:=fun t ht=>hl t (fW.mem_iff.1 ht)
  have WS: ∀ x∈l,∀ y∈l,∀ z∈l,¬Dj x y-> ¬Dj y z-> ¬Dj x z:=fun x hx y hy z hz=>Z9 (M_ x hx).cn (M_ y hy).cn (M_ z hz).cn
  refine aW ?_
  refine dw (by kernel_rfl) ?_
  refine aN ?_
  refine bM ?_ ?_
  .intro h3 h4
   obtain⟨p,rfl⟩: ∃ p,j=p+1:=⟨j - 1,by omega⟩
   have DP:(((p+1:Nat):Int) - 1)=(p:Int):=by omega
   have m1:=M_ _ (iG (l:=l) (i:=p+1) (by omega))
   have m2:=M_ _ (iG (l:=l) (i:=p) (by omega))
   have cA:=ae6 _ _ m1.ok m2.ok m1.len m2.len
   have r1:=cF (l:=l) (i:=p+1) (by omega)
   have r2:=cF (l:=l) (i:=p) (by omega)
   have aL:Dj (l.getD (p+1) qB) (l.getD p qB)↔cj (l.getD (p+1) qB).1 (l.getD p qB).1<0:=Iff.rfl
   have KF:((aG l).set (p+1) (x9 (l.getD p qB))).set p (x9 (l.getD (p+1) qB))=aG (pq qB l (p+1)):=by
    rw[Df,Df];unfold pq;rw[Nat.add_sub_cancel]
   have r3:((aG l).set (p+1) (x9 (l.getD p qB))).getD p []=x9 (l.getD p qB):=by
    rw[qa,getElem?_set_ne (by omega),<-qa,r2]
   have vw:=fun h=>CQ qB Dj RB (ls:=l) (i:=i) (j:=p+1) (by omega) hj (by omega) q0 h
   have mM:=fun h=>rG qB Dj (ls:=l) WS (i:=i) (j:=p+1) (by omega) hj q0 h
   have hsp:=zz qB (ls:=l) (j:=p+1) (by omega) (by omega)
   rw[Nat.add_sub_cancel] at vw mM
   obtain⟨x,jn⟩:=ax (l.getD (p+1) qB)
   obtain⟨y,vM⟩:=ax (l.getD p qB)
   rw[jn] at cA r1 aL KF vw mM
   rw[vM] at cA r2 r3 aL KF vw mM
   have rl:=aK l
   obtain⟨z,hz⟩:=ax (cj x.1 y.1)
   rw[hz] at cA aL
   refine ae (bu h4 DP r1 r2 @Di @JM rl @Mj) ?_
   repeat refine ag ?_
   refine gp cA (by simp[bJ,eT,Mk,JM]) ?_
   refine ae @Ml ?_
   refine bM ?_ ?_
   .intro h5 h6
    refine ae h6 ?_
    refine dw (by kernel_rfl) ?_
    refine ae (bu DP r1 r2 r3 @Di @JM rl (bu @Mj @Vg @Od KF @length_set.{0} @Mk @Ml @append_nil.{0})) ?_
    repeat refine ag ?_
    refine aA (p,pq qB l (p+1)) ?_ ⟨by omega,hsp.trans fW,vw (aL.2 h5)⟩
    exact bx [0]
   intro h5 h6
   have hd:=mM (Or.inr (fun h=>h5 (aL.1 h)))
   refine ae h6 ?_
   refine aA (i+1,l) ?_ ⟨by omega,by omega,fW,fun p q h7 h8 h9=>hd p q h7 (by omega)⟩
   exact bx [0]
  intro h3 h4
  have hd:=rG qB Dj (ls:=l) WS (i:=i) (j:=j) (by omega) hj q0 (Or.inl (by omega))
  refine ae h4 ?_
  refine aA (i+1,l) ?_ ⟨by omega,by omega,fW,fun p q h7 h8 h9=>hd p q h7 (by omega)⟩
  exact bx [0]
 intro h1 h2
 have hpw:l.Pairwise (fun a b=>¬Dj b a):=sN qB Dj (fun p q h3 h4=>vv p q h3 (by omega) (by omega))
 refine ae h2 ?_
 exact⟨[.row true (aG l)],.tup [],⟨l,rfl,rfl,fW,hpw⟩,sn (cd:=True) (vs:=[]) rfl trivial rfl trivial rfl rfl rfl⟩
theorem ae8 (ls ls':List RR) (hn:ls.length<20) (h:Den Tryz.prog 232 [.row true (aG ls)] [.lsl 0 0 ls.length 2,.int .i64 0,.int .i64 ls.length,fV 158] [.row true (aG ls')] (.tup [])):
 Den Tryz.prog 199 [.row true (aG ls)] [.lsl 0 0 ls.length 2,.int .i64 ls.length,fV 158] [.row true (aG ls')] (.tup []):=by
 obtain⟨n,b8⟩:=ax ls.length
 rw[b8] at h hn ⊢
 have e1:decide ((20:Int)<=(n:Int))=false:=oc
 have e2:decide ((20:Int)<(n:Int))=false:=oc
 refine dq Tryz.func199 60 1 ?_
 refine aW ?_
 refine wl (α:=Unit) (fun _=>⟨[.lsl 0 0 n 2,.int .i64 n,fV 158,.any,.any,.any,.int .i64 20,.int .i64 0,.int .i64 20]++replicate 54 .any,[.row true (aG ls)]⟩)
  (fun _=>0) (fun _=>True) () ?_ trivial ?_
 .exact bx [0]
 rintro⟨⟩ _
 refine bw e1 ?_
 refine eG 0 h trivial ?_
 simp -dsimp(disch:=omega) only[append_nil,sl4,List.set_cons_zero,lQ]
 refine wl (α:=Unit) (fun _=>⟨[.lsl 0 0 n 2,.int .i64 n,fV 158,.any,.any,.any,.int .i64 20,.int .i64 0,.int .i64 20]++replicate 54 .any,[.row true (aG ls')]⟩)
  (fun _=>0) (fun _=>True) () ?_ trivial ?_
 .exact bx [0]
 rintro⟨⟩ _
 refine bw e2 ?_
 exact sn (cd:=True) (vs:=[]) rfl trivial rfl trivial rfl rfl rfl
theorem ae9 (ls:List RR) (hl: ∀ r∈ls,Z_ r) (hn:ls.length<20):
 ∃ ls',ls'.Perm ls/\ls'.Pairwise (fun a b=>¬Dj b a)/\Den Tryz.prog 157 [.row true (aG ls)] [.lsl 0 0 ls.length 2,fV 158] [.row true (aG ls')] (.tup []):=by
 obtain⟨H1,res,⟨ls',rfl,rfl,hp,hs⟩,h⟩:=ae7 ls hl (by omega)
 refine⟨ls',hp,hs,?_⟩
 have h2:=ae8 ls ls' hn h
 obtain⟨n,b8⟩:=ax ls.length
 rw[b8] at h2 hn ⊢
 refine dq Tryz.func157 7 1 ?_
 refine aW ?_
 refine eG 0 h2 trivial ?_
 refine ae @append_nil.{0} ?_
 exact sn (cd:=True) (vs:=[]) rfl trivial rfl trivial rfl rfl rfl
end Go.Proofs.YtjjbkjgifdhlcaaGreat
