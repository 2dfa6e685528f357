/- Contracts:sparse:Mul. -/
import Derived.Test.YtjjbkjgifdhlcaaGreatT14
import Derived.Test.YtjjbkjgifdhlcaaGreatT9
import Derived.Test.YtjjbkjgifdhlcaaGreatT13
import Derived.Test.YtjjbkjgifdhlcaaGreatT1
set_option linter.all false
open List (append_assoc append_nil drop_eq_getElem_cons foldl_cons getElem?_set_ne length_cons length_map length_set length_take map_cons mem_cons_of_mem mem_map nodup_range pairwise_cons replicate)
namespace Go.Proofs.YtjjbkjgifdhlcaaGreat
open Go.AM Go.Pl
set_option maxRecDepth 100000
set_option maxHeartbeats 4000000
def oX (s t:Tm):Tm:=(e_ s.1 t.1,s.2*t.2)
theorem HX {p q:List Tm} {i:Nat} (h:i<p.length):prodT (p.take (i+1)) q=prodT (p.take i) q++q.map (oX p[i]):=by
 unfold prodT;rw[List.take_add_one,qb h,qyb];simp[oX]
theorem PA {a b:Mn} {E F:Int} (ha: ∀ x∈a,0<=x/\x<=E) (hb: ∀ x∈b,0<=x/\x<=F): ∀ x∈e_ a b,0<=x/\x<=E+F:=fun x hx=>by
 obtain⟨i,hi⟩:=List.mem_iff_getElem?.1 hx;unfold e_ at hi;rw[List.getElem?_zipWith] at hi;cases h1:a[i]? with
 | none=>rw[h1] at hi;cases hi
 | some u=>
  cases h2:b[i]? with
  | none=>rw[h1,h2] at hi;cases hi
  | some w=>
   rw[h1,h2] at hi;have e:u+w=x:=by simpa using hi
   have:=ha u (List.mem_of_getElem? h1);have:=hb w (List.mem_of_getElem? h2);omega
theorem Tr {j k:Nat} {E F:Int} {p q:List Tm} (hp:LOkT j E p) (hq:LOkT k F q) (hk:1<=j+k):LOkT (j+k) (E+F) (prodT p q):=by
 have key: ∀ t∈prodT p q,∃ u∈p,∃ w∈q,t=oX u w:=fun t ht=>by
  unfold prodT at ht;obtain⟨u,hu,h2⟩:=List.mem_flatMap.1 ht;obtain⟨w,hw,rfl⟩:=mem_map.1 h2;exact⟨u,hu,w,hw,rfl⟩
 refine⟨Len8.prod hp.len hq.len,fun t ht=>?_,fun t ht=>?_⟩
 .obtain⟨u,hu,w,hw,rfl⟩:=key t ht;exact Bd.mul (hp.bd u hu) (hq.bd w hw) hk
 obtain⟨u,hu,w,hw,rfl⟩:=key t ht;exact PA (hp.exp u hu) (hq.exp w hw)
theorem HY {q:List Tm} {s:Tm} {j:Nat} (h:j<q.length):(q.take (j+1)).map (oX s)=(q.take j).map (oX s)++[oX s q[j]]:=by
 rw[List.take_add_one,qb h,v8];rfl
theorem E1 (f:Nat->Nat): ∀ m:List Int,List.map (reloc1 f) (mC m)=mC m
 | []=>rfl
 | n::m=>by
  have ih:=E1 f m;unfold mC at ih ⊢;simp only[map_cons,ih];rfl
theorem ac8 (p q:List Tm) (hp:LOkT 1000000 100000 p) (hq:LOkT 1000000 100000 q) (hn:p.length<=20) (hnq:q.length<=20) (hs:(nf (prodT p q)).length<=bG):
 Den Tryz.prog 142 [] [PL (p.map tn),PL (q.map tn)] [] (PL ((nf (prodT p q)).map tn)):=by
 have AG:=Tr hp hq (by decide)
 have hTs:=AG.ts (by decide)
 have mW:=uF p q
 have dR:p.length*q.length<=20*20:=Nat.mul_le_mul hn hnq
 have wA:=Ki ((prodT p q).map tn) (fun t ht=>(hTs t ht).mono (by decide)) (by
  rw[bC];exact PB.terms (n:=400) (j:=2000000) (by decide) AG.bd (by omega) (by decide)) (by rw[length_map];omega) (by rw[bC];exact hs)
 rw[bC] at wA
 obtain⟨R,hR⟩:=aw ((nf (prodT p q)).map tn)
 rw[hR] at wA ⊢
 have rp:=av (p.map tn)
 have rq:=av (q.map tn)
 rw[length_map] at rp rq
 obtain⟨n,cZ⟩:=aw p.length
 obtain⟨m,NH⟩:=aw q.length
 have rT:=av ((prodT p q).map tn)
 rw[length_map] at rT
 have tkT:=bL (ts:=(prodT p q).map tn) (n:=(prodT p q).length) (by rw[length_map];omega)
 rw[cZ,NH] at mW dR
 rw[cZ] at rp hn
 rw[NH] at rq hnq
 have AI:(n:Int)*(m:Int)=((n*m:Nat):Int):=by simp
 obtain⟨N,hN⟩:=aw (n*m)
 rw[hN] at AI mW dR
 refine dq Tryz.func142 44 0 ?_
 refine b8 (bZ rp rq AI) ?_
 repeat refine ag ?_
 refine wl (α:=Nat) (fun i=>⟨[PL (p.map tn),PL (q.map tn),.any,.any,.any,.lsl 0 0 (prodT (p.take i) q).length 11,.any,.any,.any,.any,.any,.any,.any,.any,.any,.any,PL (p.map tn),.int .i64 n,.int .i64 i]++replicate 27 .any,[.row true (aq ((prodT (p.take i) q).map tn))]⟩) (fun i=>n - i) (fun i=>i<=n) 0 ?_ (eH _) ?_
 .refine eV [0] ?_ ?_
  .simp[bc,dX,cB]
   simp[prodT]
  simp[ez,fL]
  simp[prodT,aq]
 intro i hi
 refine aX ?_
 refine bR ?_ ?_
 .intro h1 h2
  have dU:i<p.length:=by omega
  have r1:=rY dU
  have bf:p[i]∈p:=kj dU
  have G2:=hp.len _ bf
  have zR:=hp.bd _ bf
  have oD:=hp.exp _ bf
  have bP:=HX (q:=q) dU
  obtain⟨s,ua⟩:=aw (p[i])
  rw[ua] at r1 G2 zR oD bP
  have Vz:(tn s).1.length=8:=G2
  have s11:=aY Vz
  have sfl:=aK Vz
  have scl:=aE Vz
  have sc8:=dL Vz
  have scf:=dS Vz
  change List.take 3 (List.drop 8 (fI (tn s)))=(cn s.2).c at scf
  change List.take 8 (fI (tn s))=mC s.1 at sc8
  have hO:(prodT (p.take i) q).length<=2500:=by
   rw[uF,length_take];exact gD (Nat.mul_le_mul (Nat.min_le_left _ _) (qp _)) (gD (Nat.mul_le_mul (show i<=50 by omega) (show q.length<=50 by omega)) (by decide))
  obtain⟨O,hOO⟩:=aw (prodT (p.take i) q)
  rw[hOO] at hO bP ⊢
  refine ae (bT h2 r1 s11 @d9 sfl scl rp (aQ rq @append_nil.{0})) ?_
  repeat refine ag ?_
  refine wl (α:=Nat) (fun j=>⟨[PL (p.map tn),PL (q.map tn),.any,.any,.any,.lsl 0 0 (O.length+j) 11,.any,.ptr 1 0 0,.any,.any,.any,.any,.any,.any,.any,.any,PL (p.map tn),.int .i64 n,.int .i64 i,.any,.any,.any,PL (q.map tn),.int .i64 m,.int .i64 j]++replicate 21 .any,[.row true (aq ((O++(q.take j).map (oX s)).map tn)),.box true (fI (tn s))]⟩) (fun j=>m - j) (fun j=>j<=m) 0 ?_ (eH _) ?_
  .refine eV [0,1] ?_ ?_
   .simp[bc,dX,cB]
   simp[ez,fL,gR]
  intro j hj
  have ro:=av ((O++(q.take j).map (oX s)).map tn)
  rw[length_map,qe,length_map,length_take,NH,Nat.min_eq_left hj] at ro
  have tko:=bL (ts:=(O++(q.take j).map (oX s)).map tn) (n:=O.length+j) (by rw[length_map,qe,length_map,length_take];omega)
  refine aX ?_
  refine bR ?_ ?_
  .intro h3 h4
   have lC:j<q.length:=by omega
   have r2:=rY lC
   have bf:q[j]∈q:=kj lC
   have hmt:=hq.len _ bf
   have hbt:=hq.bd _ bf
   have het:=hq.exp _ bf
   have GS:=HY (s:=s) lC
   obtain⟨t,AF⟩:=aw (q[j])
   rw[AF] at r2 hmt hbt het GS
   have ht8:(tn t).1.length=8:=hmt
   have Jj:=aY ht8
   have tfl:=aK ht8
   have tcl:=aE ht8
   have tc8:=dL ht8
   have tcf:=dS ht8
   change List.take 3 (List.drop 8 (fI (tn t)))=(cn t.2).c at tcf
   change List.take 8 (fI (tn t))=mC t.1 at tc8
   have aeY:=ac7 s.1 t.1 G2 hmt (fun x hx=>by have:=oD x hx;omega) (fun x hx=>by have:=het x hx;omega)
   have G1:=ON (cn s.2) (cn t.2) ((bD zR).mono (by decide)) ((bD hbt).mono (by decide))
   rw[cQ,cQ] at G1
   change Den Tryz.prog 70 [] [.agg (cn s.2).c,.agg (cn t.2).c] [] (.agg (cn (s.2*t.2)).c) at G1
   have cJ:=eC ((O++(q.take j).map (oX s)).map tn) (tn (oX s t))
   rw[<-oW,append_assoc,<-GS] at cJ
   change _++[im (e_ s.1 t.1,cn (s.2*t.2))]=_ at cJ
   have vY:=gX G2 hmt
   obtain⟨z,hz⟩:=aw (cn (s.2*t.2))
   rw[hz] at G1 cJ
   obtain⟨M,hM⟩:=aw (e_ s.1 t.1)
   rw[hM] at aeY cJ vY
   have h8:((M,z):RT).1.length=8:=vY
   have ZO:=de h8
   have clz:=aE h8
   have vX:=aY h8
   have flz:=aK h8
   have ml:=bK M
   rw[vY] at ml
   have m8:=jW vY
   have bl:=wN vY (.fv (.lit (.bool false))) PV.nilsl PV.nilsl
   have pc:=CI vY (.fv (.lit (.bool false))) PV.nilsl PV.nilsl z
   refine ae (bT h4 r2 Jj @d9 tfl tcl rq @append_nil.{0}) ?_
   repeat refine ag ?_
   refine dw (by kernel_rfl) ?_
   refine ae (ej sc8 tc8 scl tcl) ?_
   repeat refine ag ?_
   refine gp aeY (by simp[cC,iw,nh,ju]) ?_
   refine ae (fw scf tcf scl tcl @E1 @oO @append_nil.{0}) ?_
   repeat refine ag ?_
   refine zm G1 ?_
   refine ae (bT @gq @dM @cE ml bl pc clz (fw vX @dr @dJ ro tko cJ @append_nil.{0})) ?_
   repeat refine ag ?_
   refine ax (j+1) ?_ (by omega)
   refine eV [4,1] ?_ ?_
   .simp[bc,dX,cB]
    omega
   simp[ez,fL,gR]
  intro h3 h4
  have hjm:q.take j=q:=eE (by omega)
  have hjj:j=m:=by omega
  subst hjj
  rw[hjm,<-bP]
  refine ae h4 ?_
  refine ax (i+1) ?_ (by omega)
  rw[bP,qe,length_map,NH,<-bP]
  exact bN [0]
 intro h1 h2
 have gA:i=n:=by omega
 subst gA
 have Og:p.take i=p:=eE (by omega)
 rw[Og]
 refine ae h2 ?_
 refine gp wA (by simp[cC,iw,gj,fP,tkT,rT]) ?_
 refine a9 ?_
 refine bg rfl
theorem Mj {v:Nat} {p:List Tm} {i:Nat} (h:i<p.length):lJ v (p.take (i+1))=max (lJ v (p.take i)) (p[i].1.getD v 0):=by
 rw[List.take_add_one,qb h];exact LW
theorem ac9 (p:List Tm) (v:Nat) (hv:v<8) (hl:Len8 p) (hn:p.length<=10000):Den Tryz.prog 187 [] [PL (p.map tn),.int .i64 v] [] (.int .i64 (lJ v p)):=by
 have rp:=av (p.map tn);rw[length_map] at rp;obtain⟨n,cZ⟩:=aw p.length;rw[cZ] at rp hn;refine dq Tryz.func187 20 0 ?_;refine b8 rp ?_;refine wl (α:=Nat) (fun i=>⟨[PL (p.map tn),.int .i64 v,.any,.any,.any,.int .i64 (lJ v (p.take i)),.any,.any,PL (p.map tn),.int .i64 n,.int .i64 i]++replicate 11 .any,[]⟩) (fun i=>n - i) (fun i=>i<=n) 0 ?_ (eH _) ?_
 .refine eV [] ?_ ?_
  .simp[bc,dX,cB];rfl
  simp[ez]
 intro i hi;refine aX ?_;refine bR ?_ ?_
 .intro h1 h2;have dU:i<p.length:=by omega
  have r1:=rY dU;have hm:=hl _ (kj dU);have hd:=Mj (v:=v) dU;obtain⟨t,ht⟩:=aw (p[i]);rw[ht] at r1 hm hd;have h8:(tn t).1.length=8:=hm;have vX:=aY h8;have fl:=aK h8;have cl:=aE h8;have gV:=uJ (t:=tn t) (i:=v) hv h8;change List.take 1 (List.drop v (fI (tn t)))=[PV.int .i64 (t.1.getD v 0)] at gV;refine ae (bT h2 r1 vX @d9 fl cl rp (bZ gV @Nat.mul_one @append_nil.{0})) ?_
  repeat refine ag ?_
  refine ax (i+1) ?_ (by omega);rw[hd];refine eV [] ?_ ?_
  .simp[bc,dX,cB];split<;>omega
  simp[ez]
 intro h1 h2;have Og:p.take i=p:=eE (by omega);rw[Og];refine ae h2 ?_;refine bg rfl
abbrev WW (c:List Tm):PV:= .fv (.sl (aq (c.map tn)))
def WX (cs:List (List Tm)):PV:= .fv (.sl (cs.map fun c=>[FV.sl (aq (c.map tn))]))
def fJ (v D:Nat) (p:List Tm):List PV:=(List.range D).map (fun d:Nat=>PV.lsl (d+1) 0 (bj v (d:Int) p).length 11)
def te (v D:Nat) (p:List Tm):List Ob:=(List.range D).map (fun d:Nat=>Ob.row true (aq ((bj v (d:Int) p).map tn)))
def HC (v D:Nat) (p:List Tm):List Ob:= .box true (fJ v D p)::te v D p
theorem cR (v D:Nat) (p:List Tm):(fJ v D p).length=D:=by simp[fJ]
theorem tf (v D:Nat) (p:List Tm):(te v D p).length=D:=by simp[te]
theorem fC (v D:Nat) (p:List Tm):(HC v D p).length=D+1:=by simp[HC,tf]
theorem iZ {v D d:Nat} {p:List Tm} (h:d<D):(fJ v D p)[d]?=some (.lsl (d+1) 0 (bj v (d:Int) p).length 11):=by
 unfold fJ;rw[List.getElem?_map,List.getElem?_range h];rfl
theorem xP {v D d:Nat} {p:List Tm} (h:d<D):(te v D p)[d]?=some (.row true (aq ((bj v (d:Int) p).map tn))):=by
 unfold te;rw[List.getElem?_map,List.getElem?_range h];rfl
theorem ahZ (v D:Nat) (p:List Tm) (l:List Ob):(HC v D p++l)[0]?=some (.box true (fJ v D p)):=rfl
theorem HZ {v D d:Nat} {p:List Tm} (h:d<D) (l:List Ob):(HC v D p++l)[d+1]?=some (.row true (aq ((bj v (d:Int) p).map tn))):=by
 show(te v D p++l)[d]?=_;rw[qi (by rw[tf];exact h)];exact xP h
theorem ada (v D:Nat) (p:List Tm) (d:Nat) (a b c:Ob):((HC v D p++[a,b]).set (d+1) Ob.dead++[c])[0]?=some (.box true (fJ v D p)):=rfl
theorem H3 (H:List Ob) (a b:Ob):tQ (H++[a]) (H++[a,b]):=⟨[b],by simp⟩
theorem E2 {α:Type} {l:List α} {i:Nat} {x:α} (h:l[i]?=some x):List.take 1 (List.drop i l)=[x]:=by
 obtain⟨hl,rfl⟩:=List.getElem?_eq_some_iff.1 h;rw[drop_eq_getElem_cons hl];rfl
theorem H4 {H0:List Ob} {L:Nat} (h:H0.length=L) (x:Ob):(H0++[x])[L]?=some x:=by subst h;simp
theorem Ts {H0:List Ob} {L:Nat} (h:H0.length=L) (x y:Ob):(H0++[x,y])[L+1]?=some y:=by subst h;simp
theorem Tt {H0:List Ob} {L:Nat} (h:H0.length=L) (x y:Ob):(H0++[x]).set L y=H0++[y]:=by subst h;simp
def oY (D d:Nat):List Nat:=0::(List.range D).map (fun k=>if k=d then D+1+2 else k+1)
theorem E3 {D d:Nat} (h:d<D):(oY D d).Nodup:=by
 unfold oY;rw[List.nodup_cons];constructor
 .intro h0;obtain⟨k,_,hk⟩:=mem_map.1 h0;split at hk<;>omega
 unfold List.Nodup;rw[List.pairwise_map];refine(List.Pairwise.and_mem.1 nodup_range).imp ?_;rintro a b ⟨ha,hb,rv⟩;have:=List.mem_range.1 ha;have:=List.mem_range.1 hb;have cM:a≠b:=rv;split<;>split<;>omega
theorem xQ {D d k:Nat} (h:k<D):(oY D d)[k+1]?=some (if k=d then D+1+2 else k+1):=by
 unfold oY;rw[List.getElem?_cons_succ,List.getElem?_map,List.getElem?_range h];rfl
theorem Mk (D d:Nat):(oY D d).length=D+1:=by simp[oY]
theorem PC {v D d:Nat} {p Q:List Tm} {t:Tm} {a b:Ob} (hdD:d<D) (hd:t.1.getD v 0=(d:Int)) (hQ:bj v (d:Int) p++[(t.1.set v 0,t.2)]=Q):
 ez (oY D d) (((HC v D p++[a,b]).set (d+1) Ob.dead++[Ob.row true (aq (Q.map tn))]).set 0 (Ob.box true (List.take d (fJ v D p)++PV.lsl (D+1+2) 0 ((bj v (d:Int) p).length+1) 11::List.drop (d+1) (fJ v D p)))) (oY D d) (HC v D (p++[t])):=by
 have a_:List.take d (fJ v D p)++PV.lsl (D+1+2) 0 ((bj v (d:Int) p).length+1) 11::List.drop (d+1) (fJ v D p)=(fJ v D p).set d (PV.lsl (D+1+2) 0 ((bj v (d:Int) p).length+1) 11):=by
  rw[List.set_eq_take_append_cons_drop,if_pos (by rw[cR];exact hdD)]
 rw[a_]
 have eO: ∀ k:Nat,bj v (k:Int) (p++[t])=if k=d then Q else bj v (k:Int) p:=fun k=>by
  rw[HE,hd];by_cases hk:k=d
  .subst hk;rw[if_pos rfl,if_pos rfl,hQ]
  rw[if_neg (by omega),if_neg hk]
 have hQl:Q.length=(bj v (d:Int) p).length+1:=by rw[<-hQ,qe];rfl
 refine zk (by rw[Mk,fC]) fun i k o' hk ho=>?_
 cases i with
 | zero=>
  unfold oY at hk;simp only[List.getElem?_cons_zero,qo] at hk;subst hk;unfold HC at ho;simp only[List.getElem?_cons_zero,qo] at ho;subst ho;refine⟨_,rfl,rfl,nS (by rw[length_set,cR,cR]) fun j x y hx hy=>?_⟩;have hj:j<D:=by
   have:=(List.getElem?_eq_some_iff.1 hy).1;rwa [cR] at this
  rw[iZ hj,eO] at hy;cases hy;by_cases VA:d=j
  .subst VA;rw[qv (by rw[cR];exact hj)] at hx;cases hx;rw[if_pos rfl,hQl];exact⟨by rw[xQ hj,if_pos rfl],rfl,rfl,rfl⟩
  .rw[getElem?_set_ne VA,iZ hj] at hx;cases hx;rw[if_neg (fun e=>VA e.symm)];exact⟨by rw[xQ hj,if_neg (fun e=>VA e.symm)],rfl,rfl,rfl⟩
 | succ j=>
  have hj:j<D:=by
   have:=(List.getElem?_eq_some_iff.1 ho).1;rw[fC] at this;omega
  rw[xQ hj] at hk;cases hk;have gB:(te v D (p++[t]))[j]?=some o':=ho;rw[xP hj,eO] at gB;cases gB;by_cases VA:j=d
  .rw[if_pos VA,if_pos VA];refine⟨Ob.row true (aq (Q.map tn)),?_,rfl,rfl⟩;rw[getElem?_set_ne (by omega),qh (by rw[length_set,qe,fC];simp),length_set,qe,fC];simp
  rw[if_neg VA,if_neg VA];refine⟨Ob.row true (aq ((bj v (j:Int) p).map tn)),?_,rfl,rfl⟩;rw[getElem?_set_ne (by omega),qi (by rw[length_set,qe,fC];omega),getElem?_set_ne (by omega)];exact HZ hj _
theorem Tu (D d:Nat):(oY D d)[0]?=some 0:=rfl
theorem Tv (v D:Nat) (p:List Tm):ez (List.range (D+1)) (HC v D p) (List.range (D+1)) (HC v D p):=by
 refine zk (by rw[List.length_range,fC]) fun i k o hk ho=>?_
 have hi:i<D+1:=by
  have:=(List.getElem?_eq_some_iff.1 ho).1;rwa [fC] at this
 rw[List.getElem?_range hi] at hk;cases hk;refine⟨o,ho,?_⟩;cases i with
 | zero=>
  cases ho;refine⟨rfl,nS rfl fun j x y hx hy=>?_⟩;have hj:j<D:=by
   have:=(List.getElem?_eq_some_iff.1 hy).1;rwa [cR] at this
  rw[iZ hj] at hx hy;cases hx;cases hy;exact⟨List.getElem?_range (by omega),rfl,rfl,rfl⟩
 | succ j=>
  have gB:(te v D p)[j]?=some o:=ho;rw[xP (by omega)] at gB;cases gB;exact⟨rfl,rfl⟩
def xR (v D:Nat) (p:List Tm) (k:Nat):List Ob:=(List.range D).map (fun d:Nat=>Ob.row (decide (k<=d)) (aq ((bj v (d:Int) p).map tn)))
def k5 (v D:Nat) (p:List Tm) (k:Nat):List PV:=(List.range D).map (fun d:Nat=>WW (if d<k then bj v (d:Int) p else []))
def HS (v D:Nat) (p:List Tm) (k:Nat):List Ob:=(.box true (fJ v D p)::xR v D p k)++[.box true (k5 v D p k)]
theorem jZ (v D:Nat) (p:List Tm) (k:Nat):(xR v D p k).length=D:=by simp[xR]
theorem eT (v D:Nat) (p:List Tm) (k:Nat):(k5 v D p k).length=D:=by simp[k5]
theorem kf (v D:Nat) (p:List Tm) (k:Nat):(HS v D p k).length=D+2:=by simp[HS,jZ]
theorem PD {v D d:Nat} {p:List Tm} {k:Nat} (h:d<D):(xR v D p k)[d]?=some (.row (decide (k<=d)) (aq ((bj v (d:Int) p).map tn))):=by
 unfold xR;rw[List.getElem?_map,List.getElem?_range h];rfl
theorem CK {v D d:Nat} {p:List Tm} {k:Nat} (h:d<D):(k5 v D p k)[d]?=some (WW (if d<k then bj v (d:Int) p else [])):=by
 unfold k5;rw[List.getElem?_map,List.getElem?_range h];rfl
theorem ah0 (v D:Nat) (p:List Tm) (k:Nat):(HS v D p k)[0]?=some (.box true (fJ v D p)):=rfl
theorem xS {v D d:Nat} {p:List Tm} {k:Nat} (h:d<D):(HS v D p k)[d+1]?=some (.row (decide (k<=d)) (aq ((bj v (d:Int) p).map tn))):=by
 show(xR v D p k++_)[d]?=_;rw[qi (by rw[jZ];exact h)];exact PD h
theorem CL (v D:Nat) (p:List Tm) (k:Nat):(HS v D p k)[D+1]?=some (.box true (k5 v D p k)):=by
 show(xR v D p k++_)[D]?=_;rw[qh (by rw[jZ];omega),jZ,Nat.sub_self];rfl
theorem H5 {l:List Ob} {i j:Nat} (h:i≠j):(l.modify i Ob.ro)[j]?=l[j]?:=by
 rw[List.getElem?_modify];simp only[if_neg h];cases l[j]?<;>rfl
theorem Km {v D k:Nat} {p:List Tm} (hk:k<D):ez (List.range (D+2)) (((HS v D p k).modify (k+1) Ob.ro).set (D+1) (Ob.box true (List.take k (k5 v D p k)++WW (bj v (k:Int) p)::List.drop (k+1) (k5 v D p k)))) (List.range (D+2)) (HS v D p (k+1)):=by
 have a_:List.take k (k5 v D p k)++WW (bj v (k:Int) p)::List.drop (k+1) (k5 v D p k)=(k5 v D p k).set k (WW (bj v (k:Int) p)):=by
  rw[List.set_eq_take_append_cons_drop,if_pos (by rw[eT];exact hk)]
 rw[a_];refine zk (by rw[List.length_range,kf]) fun i j o hj ho=>?_
 have hi:i<D+2:=by
  have:=(List.getElem?_eq_some_iff.1 ho).1;rwa [kf] at this
 rw[List.getElem?_range hi] at hj;cases hj;by_cases hiD:i=D+1
 .subst hiD;rw[CL] at ho;cases ho;refine⟨_,qv (by rw[List.length_modify,kf];omega),rfl,nS (by rw[length_set,eT,eT]) fun j x y hx hy=>?_⟩;have hj:j<D:=by
   have:=(List.getElem?_eq_some_iff.1 hy).1;rwa [eT] at this
  rw[CK hj] at hy;cases hy;by_cases RJ:k=j
  .subst RJ;rw[qv (by rw[eT];exact hj)] at hx;cases hx;rw[if_pos (by omega)];rfl
  rw[getElem?_set_ne RJ,CK hj] at hx;cases hx;by_cases aH:j<k
  .rw[if_pos aH,if_pos (by omega)];rfl
  rw[if_neg aH,if_neg (by omega)];rfl
 cases i with
 | zero=>
  cases ho;refine⟨.box true (fJ v D p),?_,rfl,nS rfl fun j x y hx hy=>?_⟩
  .rw[getElem?_set_ne (by omega),H5 (by omega)];rfl
  .have hj:j<D:=by
    have:=(List.getElem?_eq_some_iff.1 hy).1;rwa [cR] at this
   rw[iZ hj] at hx hy;cases hx;cases hy;exact⟨List.getElem?_range (by omega),rfl,rfl,rfl⟩
 | succ j=>
  have hj:j<D:=by omega
  rw[xS hj] at ho;cases ho;by_cases RJ:k=j
  .subst RJ;refine⟨Ob.row false (aq ((bj v (k:Int) p).map tn)),?_,?_,rfl⟩
   .rw[getElem?_set_ne (by omega),List.getElem?_modify_eq,xS hj];rfl
   rw[mX (by omega)]
  refine⟨Ob.row (decide (k<=j)) (aq ((bj v (j:Int) p).map tn)),?_,?_,rfl⟩
  .rw[getElem?_set_ne (by omega),H5 (by omega),xS hj]
  by_cases h9:k<=j
  .rw[ib h9,ib (by omega)]
  rw[mX h9,mX (by omega)]
theorem E4 {v D:Nat} {p:List Tm}:ez (List.range (D+2)) (HC v D p++[Ob.box true (replicate D PV.nilsl)]) (List.range (D+2)) (HS v D p 0):=by
 refine zk (by rw[List.length_range,kf]) fun i j o hj ho=>?_
 have hi:i<D+2:=by
  have:=(List.getElem?_eq_some_iff.1 ho).1;rwa [kf] at this
 rw[List.getElem?_range hi] at hj;cases hj;by_cases hiD:i=D+1
 .subst hiD;rw[CL] at ho;cases ho;refine⟨_,H4 (fC v D p) _,rfl,nS (by rw[qib,eT]) fun j x y hx hy=>?_⟩;have hj:j<D:=by
   have:=(List.getElem?_eq_some_iff.1 hy).1;rwa [eT] at this
  rw[CK hj,if_neg (by omega)] at hy;cases hy;rw[List.getElem?_replicate,if_pos hj] at hx;cases hx;exact trivial
 cases i with
 | zero=>
  cases ho;refine⟨.box true (fJ v D p),rfl,rfl,nS rfl fun j x y hx hy=>?_⟩;have hj:j<D:=by
   have:=(List.getElem?_eq_some_iff.1 hy).1;rwa [cR] at this
  rw[iZ hj] at hx hy;cases hx;cases hy;exact⟨List.getElem?_range (by omega),rfl,rfl,rfl⟩
 | succ j=>
  have hj:j<D:=by omega
  rw[xS hj] at ho;cases ho;exact⟨_,HZ hj _,by rw[ib (eH _)],rfl⟩
theorem Tw {k:Nat} {E:Int} {p:List Tm} {v:Nat} {d:Int} (h:POk k E p) (hE:0<=E):POk k E (bj v d p):=by
 refine⟨oM h.canon,fun t ht=>?_,fun t ht e he=>?_⟩
 all_goals
  unfold bj at ht;obtain⟨u,hu,rfl⟩:=mem_map.1 ht;have w7:=(List.mem_filter.1 hu).1
 .exact h.bd u w7
 rcases List.mem_or_eq_of_mem_set he with h1 | h1
 .exact h.exp u w7 e h1
 omega
theorem E5 (H:List Ob) (f:Nat->List Tm): ∀ l:List Nat,lG H (l.map (fun d=>WW (f d)))=some (l.map (fun d=>FV.sl (aq ((f d).map tn))))
 | []=>rfl
 | d::l=>by
  rw[map_cons,map_cons,lG,E5 H f l];rfl
def E6 (D:Nat) (x:PV) (y:PV):List PV:=[.any,.any,.any,.any,.any,.any,.any,.any,.any,x]++replicate 34 .any++[y,.int .i64 D,.int .i64 D]++replicate 11 .any
theorem Bx {v D:Nat} {p:List Tm} (hD:lJ v p+1=(D:Int)):Weak 0 ⟨E6 D (.lsl (D+1) 0 D 1) (.lsl 0 0 D 1),HS v D p D⟩ ⟨E6 D (WX (eB v p)) .any,[]⟩:=by
 have co:=CL v D p D;have hl:=kf v D p D;have e:k5 v D p D=(List.range D).map (fun d:Nat=>WW (bj v (d:Int) p)):=by
  unfold k5;refine List.map_congr_left fun d hd=>?_
  rw[if_pos (List.mem_range.1 hd)]
 rw[e] at co;obtain⟨HH,Oh⟩:=aw (HS v D p D);rw[Oh] at co hl ⊢;refine Weak.shut [D+1] ?_;show Weak 0 ⟨E6 D (.lsl (D+1) 0 D 1) (.lsl 0 0 D 1),HH.modify (D+1) Ob.ro⟩ _;refine Weak.fzb 9 (D+1) D ((List.range D).map (fun d:Nat=>WW (bj v (d:Int) p))) ((List.range D).map (fun d:Nat=>FV.sl (aq ((bj v (d:Int) p).map tn)))) rfl ?_ (by simp) (E5 _ (fun d:Nat=>bj v (d:Int) p) _) ?_ ?_
 .rw[List.getElem?_modify_eq,co];rfl
 .intro k hk;obtain⟨c,hc,iJ⟩:=List.mem_flatMap.1 hk;obtain⟨d,_,rfl⟩:=mem_map.1 hc;simp[eY] at iJ
 have e2:(PV.fv (.sl (((List.range D).map (fun d:Nat=>FV.sl (aq ((bj v (d:Int) p).map tn)))).map fun x=>[x])))=WX (eB v p):=by
  unfold WX eB;rw[hD,Int.toNat_natCast,List.map_map,List.map_map];rfl
 rw[e2];refine wk [] (by simp) rfl ?_ trivial;show bc [] _ _;unfold WX E6;simp[bc,dX,cB]
theorem adb (p:List Tm) (v:Nat) (hv:v<8) (hp:POk 10000000 2000 p) (hn:p.length<=50) (hs:p.length<=bG):
 Den Tryz.prog 141 [] [PL (p.map tn),.int .i64 v] [] (WX (eB v p)):=by
 have ae0:=ac9 p v hv hp.canon.len (by omega)
 have Np:=wH (v:=v) (p:=p)
 have Lu:lJ v p<=2000:=CB (by decide) (fun t ht=>(hp.at (by decide) v t ht).2)
 obtain⟨D,hD⟩: ∃ D:Nat,lJ v p+1=(D:Int):=⟨(lJ v p+1).toNat,by omega⟩
 have hDl:D<=2001:=by omega
 have rp:=av (p.map tn)
 rw[length_map] at rp
 obtain⟨n,cZ⟩:=aw p.length
 rw[cZ] at rp hn
 obtain⟨g,hg⟩:=aw (lJ v p)
 rw[hg] at ae0 hD
 refine dq Tryz.func141 56 0 ?_
 refine aX ?_
 refine aW ae0 ?_
 simp -dsimp(disch:=omega) only[hD,rp,Int.toNat_natCast,↓reduceIte,ru]
 repeat refine ag ?_
 refine wl (α:=Nat) (fun i=>⟨[PL (p.map tn),.int .i64 v,.any,.any,.any,.lsl 0 0 D 1,.any,.any,.any,.any,.any,.any,.any,.any,.any,.any,.any,PL (p.map tn),.int .i64 n,.int .i64 i]++replicate 38 .any,HC v D (p.take i)⟩) (fun i=>n - i) (fun i=>i<=n) 0 ?_ (eH _) ?_
 .refine Weak.nilcs 11 true (by decide) D [] _ [] rfl ?_
  have e:(Ob.box true ([]++(List.range D).map (fun i=>PV.lsl (([]:List Ob).length+1+i) 0 0 11))::[]++replicate D (Ob.row true []))=HC v D (p.take 0):=by
   unfold HC;show _::_=_::_;congr 1
   .unfold fJ;show Ob.box true (List.map _ _)=_;congr 1;refine List.map_congr_left fun d _=>?_
    show PV.lsl (0+1+d) 0 0 11=PV.lsl (d+1) 0 0 11;congr 1;omega
   unfold te;show replicate D _=_;symm;rw[List.eq_replicate_iff];refine⟨by simp,fun o ho=>?_⟩;obtain⟨d,_,rfl⟩:=mem_map.1 ho;rfl
  rw[e]
  refine wk (List.range (D+1)) nodup_range rfl ?_ (Tv v D _)
  simp[bc,dX,cB]
 intro i hi
 have cl:=cR v D (p.take i)
 refine aX ?_
 refine bR ?_ ?_
 .intro h1 h2
  have dU:i<p.length:=by omega
  have r1:=rY dU
  have bf:p[i]∈p:=kj dU
  have hm:=hp.canon.len _ bf
  have gV:=hp.at (by decide) v _ bf
  have aju:=J5 (v:=v) bf
  have gN:p.take (i+1)=p.take i++[p[i]]:=by rw[List.take_add_one,qb dU];rfl
  obtain⟨t,ht⟩:=aw (p[i])
  rw[ht] at r1 hm gV aju gN
  obtain⟨d,hd⟩: ∃ d:Nat,t.1.getD v 0=(d:Int):=⟨(t.1.getD v 0).toNat,by omega⟩
  have hdD:d<D:=by omega
  have ca:=E2 (iZ (v:=v) (p:=p.take i) hdD)
  have h8:(tn t).1.length=8:=hm
  have vX:=aY h8
  have fl:=aK h8
  have tcl:=aE h8
  have tat:=uJ (t:=tn t) (i:=v) hv h8
  change List.take 1 (List.drop v (fI (tn t)))=[PV.int .i64 (t.1.getD v 0)] at tat
  rw[hd] at tat
  have bV:=p5 (t:=tn t) (i:=v) (x:=0) hv h8
  change List.take v (fI (tn t))++[PV.int IntKind.i64 0]++List.drop (v+1) (fI (tn t))=fI (tn (t.1.set v 0,t.2)) at bV
  have h8z:(tn (t.1.set v 0,t.2)).1.length=8:=by simp[tn,hm]
  obtain⟨u,hu⟩:=aw (tn (t.1.set v 0,t.2))
  have cJ:=eC ((bj v (d:Int) (p.take i)).map tn) (tn (t.1.set v 0,t.2))
  rw[<-oW] at cJ
  obtain⟨Q,hQ⟩:=aw (bj v (d:Int) (p.take i)++[(t.1.set v 0,t.2)])
  have mW:(bj v (d:Int) (p.take i)).length<=i:=by
   have:=A9 (v:=v) (d:=(d:Int)) (p:=p.take i);rw[length_take] at this;omega
  have ro:=av ((bj v (d:Int) (p.take i)).map tn)
  rw[length_map] at ro
  have hQl:Q.length=(bj v (d:Int) (p.take i)).length+1:=by rw[<-hQ,qe];rfl
  have tko:=bL (ts:=(bj v (d:Int) (p.take i)).map tn) (n:=(bj v (d:Int) (p.take i)).length) (by rw[length_map];omega)
  have DG:=HZ (v:=v) (p:=p.take i) hdD
  have h0:=ahZ v D (p.take i)
  have hL:=fC v D (p.take i)
  have NC:=ada v D (p.take i) d
  rw[hQ] at cJ
  rw[hu] at bV h8z cJ
  obtain⟨O,hO⟩:=aw (bj v (d:Int) (p.take i))
  rw[hO] at ca cJ mW ro hQl DG tko
  obtain⟨CC,hCC⟩:=aw (fJ v D (p.take i))
  rw[hCC] at ca cl h0 NC
  obtain⟨HH,Oh⟩:=aw (HC v D (p.take i))
  rw[Oh] at DG h0 NC hL ⊢
  have u11:=de h8z
  have ul:=aE h8z
  have ajv:=aY h8z
  have ufl:=aK h8z
  have Dz:(D+1+1==d+1)=false:=by rw[qx];omega
  simp -dsimp(disch:=omega) only[h2,r1,vX,d9,fl,tcl,rp,tat,bV,Nat.mul_one,append_nil,hL,H4 hL,Tt hL,↓reduceIte,Nat.reduceAdd,Nat.reduceLT,Nat.reduceLeDiff,ru]
  repeat refine ag ?_
  refine dw (by kernel_rfl) ?_
  simp -dsimp(disch:=omega) only[h0,ca,cl,u11,ul,ajv,dr,dJ,ro,tko,cJ,DG,append_nil,hL,H4 hL,Ts hL,Dz,qe,length_cons,List.length_nil,append_assoc,↓reduceIte,Nat.reduceAdd,Nat.reduceMul,Nat.reduceLT,Nat.reduceLeDiff,ru]
  repeat refine ag ?_
  refine⟨H3 _ _ _,?_⟩
  repeat refine ag ?_
  refine ae (aQ NC cl) ?_
  repeat refine ag ?_
  refine ax (i+1) ?_ (by omega)
  refine wk (oY D d) (E3 hdD) rfl ?_ ?_
  .simp[bc,dX,cB]
   exact Tu D d
  rw[<-Oh,<-hCC,<-hO,gN]
  exact PC hdD hd (by rw[hQ])
 intro h1 h2
 have Og:p.take i=p:=eE (by omega)
 rw[Og]
 have hL:=fC v D p
 obtain⟨HH,Oh⟩:=aw (HC v D p)
 rw[Oh] at hL ⊢
 simp -dsimp(disch:=omega) only[h2,hL,Int.toNat_natCast,↓reduceIte,Nat.reduceBEq,ru]
 repeat refine ag ?_
 refine wl (α:=Nat) (fun k=>if k=D then⟨E6 D (WX (eB v p)) .any,[]⟩ else⟨[.any,.any,.any,.any,.any,.any,.any,.any,.any,.lsl (D+1) 0 D 1]++replicate 34 .any++[.lsl 0 0 D 1,.int .i64 D,.int .i64 k]++replicate 11 .any,HS v D p k⟩) (fun k=>D - k) (fun k=>k<=D) 0 ?_ (eH _) ?_
 .by_cases ZV:0=D
  .rw[if_pos ZV]
   have wd:=Bx (v:=v) (p:=p) (D:=D) (by rw[hg];exact hD)
   refine Weak.trans ?_ wd
   subst ZV
   refine wk (List.range (0+2)) nodup_range rfl ?_ ?_
   .unfold E6
    simp[bc,dX,cB]
   rw[<-Oh]
   exact E4
  rw[if_neg ZV]
  refine wk (List.range (D+2)) nodup_range rfl ?_ ?_
  .simp[bc,dX,cB]
  rw[<-Oh]
  exact E4
 intro k hk
 by_cases Xs:k=D
 .rw[if_pos Xs]
  subst Xs
  unfold E6
  have h4:decide ((k:Int)<(k:Int))=false:=sB
  refine b8 h4 ?_
  refine bg ?_
  unfold WX
  rfl
 rw[if_neg Xs]
 have Xs:k<D:=by omega
 have h4:decide ((k:Int)<(D:Int))=true:=GP
 refine aX ?_
 have ca:=E2 (iZ (v:=v) (p:=p) Xs)
 have c0:=ah0 v D p k
 have cr:=xS (v:=v) (p:=p) (k:=k) Xs
 have co:=CL v D p k
 have cl:=cR v D p
 have ol:=eT v D p k
 obtain⟨HH,Oh⟩:=aw (HS v D p k)
 rw[Oh] at c0 cr co ⊢
 have hpo:=Tw (v:=v) (d:=(k:Int)) hp (by decide)
 have mW:(bj v (k:Int) p).length<=n:=by
  have:=A9 (v:=v) (d:=(k:Int)) (p:=p);omega
 have wA:=Ki ((bj v (k:Int) p).map tn) (fun t ht=>((hpo.ts (by decide)) t ht).mono (by decide)) (by
  rw[bC];exact PB.terms (n:=50) (j:=10000000) (by decide) hpo.bd (by omega) (by decide)) (by rw[length_map];omega) (by rw[bC,e7 hpo.canon];omega)
 rw[bC,e7 hpo.canon] at wA
 have rt:=av ((bj v (k:Int) p).map tn)
 rw[length_map] at rt
 have tk:=bL (ts:=(bj v (k:Int) p).map tn) (n:=(bj v (k:Int) p).length) (by rw[length_map];omega)
 refine ae (ej h4 c0 ca cl) ?_
 repeat refine ag ?_
 refine gp wA (by simp[cC,iw,gj,fP,cr,tk,rt]) ?_
 have cm:(HH.modify (k+1) Ob.ro)[D+1]?=some (.box true (k5 v D p k)):=by
  rw[H5 (by omega)];exact co
 refine ae (bZ cm ol @append_nil.{0}) ?_
 repeat refine ag ?_
 refine ax (k+1) ?_ (by omega)
 by_cases jD:k+1=D
 .rw[if_pos jD]
  refine Weak.trans ?_ (Bx (v:=v) (p:=p) (D:=D) (by rw[hg];exact hD))
  refine wk (List.range (D+2)) nodup_range rfl ?_ ?_
  .unfold E6
   simp[bc,dX,cB]
   omega
  rw[<-Oh,append_assoc]
  have e8:HS v D p D=HS v D p (k+1):=by rw[jD]
  rw[e8]
  exact Km Xs
 rw[if_neg jD]
 refine wk (List.range (D+2)) nodup_range rfl ?_ ?_
 .simp[bc,dX,cB]
 rw[<-Oh,append_assoc]
 exact Km Xs
structure Kn (q:List Tm) (cs:List (List Tm)):Prop where
 out: ∀ i,LOkT 1000000 100000 (hornT q (cs.drop i))/\(hornT q (cs.drop i)).length<=bG
 prod: ∀ i,LOkT 1000000 100000 (nf (prodT (hornT q (cs.drop i)) q))/\(nf (prodT (hornT q (cs.drop i)) q)).length<=bG
 part: ∀ c∈cs,LOkT 1000000 100000 c/\c.length<=bG
theorem kD:bG<=20:=by decide
theorem Yf {cs:List (List Tm)} {i:Nat} (h:i<cs.length):(cs.map fun c=>[FV.sl (aq (c.map tn))]).getD i []=[FV.sl (aq (cs[i].map tn))]:=by
 rw[qa,List.getElem?_map,qb h];rfl
theorem ade (p q:List Tm) (v:Nat) (hv:v<8) (hp:POk 1000000 2000 p) (hq:LOkT 1000000 100000 q) (hn:p.length<=20) (hs:p.length<=bG) (hqs:q.length<=bG) (bE:Kn q (eB v p)):
 Den Tryz.prog 86 [] [PL (p.map tn),.int .i64 v,PL (q.map tn)] [] (PL ((fe v q p).map tn)):=by
 have VB:=adb p v hv (hp.mono (by decide) (by decide)) (by omega) hs
 have hm:=kD
 have Np:=wH (v:=v) (p:=p)
 have Lu:lJ v p<=2000:=CB (by decide) (fun t ht=>(hp.at (by decide) v t ht).2)
 have fG:=xy v p
 unfold fe
 obtain⟨cs,eI⟩:=aw (eB v p)
 rw[eI] at VB bE fG ⊢
 obtain⟨D,hD⟩:=aw cs.length
 have hDl:D<=2001:=by omega
 have lA:(cs.map fun c=>[FV.sl (aq (c.map tn))]).length=D:=by rw[length_map,hD]
 unfold WX at VB
 obtain⟨X,hX⟩:=Hs ((cs.map fun c=>[FV.sl (aq (c.map tn))]))
 have DG: ∀ i,(h:i<cs.length)->X.getD i []=[FV.sl (aq (cs[i].map tn))]:=fun i h=>by rw[<-hX];exact Yf h
 rw[hX] at VB lA
 refine dq Tryz.func86 26 0 ?_
 refine aX ?_
 refine aW VB ?_
 refine ae lA ?_
 refine wl (α:=Nat) (fun i=>⟨[.any,.any,PL (q.map tn),.any,.any,.any,.any,.fv (.sl X),PL ((hornT q (cs.drop i)).map tn),.int .i64 ((i:Int) - 1)]++replicate 19 .any,[]⟩) (fun i=>i) (fun i=>i<=D) D ?_ (qp _) ?_
 .refine eV [] ?_ ?_
  .rw[List.drop_of_length_le (by omega)]
   simp[bc,dX,cB]
   exact trivial
  simp[ez]
 intro i hi
 refine aX ?_
 refine bR ?_ ?_
 .intro h1 h2
  obtain⟨j,rfl⟩: ∃ j,i=j+1:=⟨i - 1,by omega⟩
  have e1:(((j+1:Nat):Int) - 1)=(j:Int):=by omega
  have lC:j<cs.length:=by omega
  have hr:=DG j lC
  obtain⟨o1,o2⟩:=bE.out (j+1)
  obtain⟨p1,p2⟩:=bE.prod (j+1)
  obtain⟨c1,c2⟩:=bE.part _ (kj lC)
  have DH:hornT q (cs.drop j)=nf (nf (prodT (hornT q (cs.drop (j+1))) q)++cs[j]):=by
   rw[drop_eq_getElem_cons lC,LX o1.len hq.len c1.len];rfl
  obtain⟨u1,u2⟩:=bE.out j
  rw[DH] at u2
  have ae2:=ac8 (hornT q (cs.drop (j+1))) q o1 hq (by omega) (by omega) p2
  have G3:=HW (nf (prodT (hornT q (cs.drop (j+1))) q)) cs[j] (p1.mono (by decide) (by decide)) (c1.mono (by decide) (by decide)) (by omega) (by omega) u2
  rw[<-DH] at G3
  obtain⟨A,hA⟩:=aw ((hornT q (cs.drop (j+1))).map tn)
  obtain⟨Q,hQ⟩:=aw (q.map tn)
  obtain⟨M,hM⟩:=aw ((nf (prodT (hornT q (cs.drop (j+1))) q)).map tn)
  obtain⟨C,hC⟩:=aw (cs[j].map tn)
  rw[hA,hQ,hM] at ae2
  rw[hM,hC] at G3
  rw[hC] at hr
  rw[hA,hQ]
  refine ae e1 ?_
  refine dw (by kernel_rfl) ?_
  refine a9 ?_
  refine aW ae2 ?_
  refine ae (aQ lA hr) ?_
  repeat refine ag ?_
  refine aW G3 ?_
  refine a9 ?_
  repeat refine ag ?_
  refine ax j ?_ (by omega)
  rw[<-hQ]
  exact bN []
 intro h1 h2
 have sC:i=0:=by omega
 subst sC
 refine ae (aQ h2 @List.drop_zero.{0}) ?_
 refine bg rfl
def H6 (m:List Int) (i:Nat):Int:=(m.take i).foldl max (m.getD 0 0)
theorem PE {m:List Int} {i:Nat} (h:i<m.length):H6 m (i+1)=max (H6 m i) (m.getD i 0):=by
 unfold H6;rw[List.take_add_one,qb h,List.foldl_append,qa (i:=i),qb h];rfl
theorem Tx {m:List Int} (h:0<m.length):H6 m 1=m.getD 0 0:=by
 cases m with
 | nil=>simp at h
 | cons x m=>simp[H6]
theorem xT: ∀ (m:List Int) (a N:Int),m.foldl max a<=N↔a<=N/\ ∀ x∈m,x<=N
 | [],a,N=>by simp
 | x::m,a,N=>by
  rw[foldl_cons,xT m (max a x) N];constructor
  .rintro⟨h1,h2⟩;exact⟨by omega,fun y hy=>by
    rcases List.mem_cons.1 hy with rfl | hy
    .omega
    exact h2 y hy⟩
  rintro⟨h1,h2⟩;exact⟨by have:=h2 x (by simp);omega,fun y hy=>h2 y (mem_cons_of_mem _ hy)⟩
theorem PF {m:List Int} {N:Int} (h:0<m.length):H6 m m.length<=N↔ ∀ x∈m,x<=N:=by
 unfold H6;rw[List.take_length,xT];constructor
 .exact fun h2=>h2.2
 refine fun h2=>⟨h2 _ ?_,h2⟩
 rw[qa,qb h];exact kj h
def xU (p:List Tm):Int:=p.foldl (fun d t=>max d (H6 t.1 8)) 0
theorem Ml {p:List Tm} {i:Nat} (h:i<p.length):xU (p.take (i+1))=max (xU (p.take i)) (H6 p[i].1 8):=by
 unfold xU;rw[List.take_add_one,qb h,List.foldl_append];rfl
theorem adf (m:List Int) (h0:0<m.length) (hn:m.length<=1000):Den Tryz.prog 143 [] [.fv (.sl (ints m))] [] (.int .i64 (H6 m m.length)):=by
 have il:=cg m;obtain⟨n,cZ⟩:=aw m.length;rw[cZ] at il h0 hn ⊢;have h1:decide ((n:Int)<1)=false:=sB;have g0:=iS (xs:=m) (i:=0) (by omega);have m1:=Tx (m:=m) (by omega);refine dq Tryz.func143 24 0 ?_;refine b8 (bZ il h1 g0) ?_
 repeat refine ag ?_
 refine wl (α:=Nat) (fun i=>⟨[.fv (.sl (ints m)),.any,.any,.int .i64 (H6 m i),.int .i64 i]++replicate 20 .any,[]⟩) (fun i=>n - i) (fun i=>1<=i/\i<=n) 1 ?_ ⟨qp _,by omega⟩ ?_
 .rw[m1];exact bN []
 rintro i ⟨oA,hi⟩;refine b8 il ?_;refine bR ?_ ?_
 .intro h2 h3;have gi:=iS (xs:=m) (i:=i) (by omega);have bP:=PE (m:=m) (i:=i) (by omega);obtain⟨x,hx⟩:=aw (m.getD i 0);rw[hx] at gi bP;obtain⟨y,hy⟩:=aw (H6 m i);rw[hy] at bP ⊢;refine ae (bZ h3 il gi) ?_
  repeat refine ag ?_
  refine ax (i+1) ?_ ⟨by omega,by omega⟩;rw[bP];refine eV [] ?_ ?_
  .simp[bc,dX,cB];split<;>omega
  simp[ez]
 intro h2 h3;have gA:i=n:=by omega
 subst gA;refine ae h3 ?_;refine bg rfl
theorem adg (p:List Tm) (hl:Len8 p) (he: ∀ t∈p,∀ x∈t.1,-1000000000000<=x/\x<=1000000000000) (hn:p.length<=10000):Den Tryz.prog 87 [] [PL (p.map tn)] [] (.int .i64 (xU p)):=by
 have rp:=av (p.map tn);rw[length_map] at rp;obtain⟨n,cZ⟩:=aw p.length;rw[cZ] at rp hn;refine dq Tryz.func87 18 0 ?_;refine b8 rp ?_;refine wl (α:=Nat) (fun i=>⟨[PL (p.map tn),.any,.any,.int .i64 (xU (p.take i)),.any,.any,PL (p.map tn),.int .i64 n,.int .i64 i]++replicate 10 .any,[]⟩) (fun i=>n - i) (fun i=>i<=n) 0 ?_ (eH _) ?_
 .refine eV [] ?_ ?_
  .simp[bc,dX,cB];rfl
  simp[ez]
 intro i hi;refine aX ?_;refine bR ?_ ?_
 .intro h1 h2;have dU:i<p.length:=by omega
  have r1:=rY dU;have hm:=hl _ (kj dU);have bP:=Ml dU;obtain⟨t,ht⟩:=aw (p[i]);rw[ht] at r1 hm bP;have h8:(tn t).1.length=8:=hm;have vX:=aY h8;have fl:=aK h8;have cl:=aE h8;have c8:=dL h8;change List.take 8 (fI (tn t))=mC t.1 at c8;have ZW:=adf t.1 (by omega) (by omega);rw[hm] at ZW;have g1:=s4 t.1 8 hm;have i1:List.take 8 (ints t.1)=ints t.1:=eE (by rw[cg];omega);obtain⟨x,hx⟩:=aw (H6 t.1 8);rw[hx] at ZW bP;obtain⟨y,hy⟩:=aw (xU (p.take i));rw[hy] at bP ⊢;simp -dsimp(disch:=omega) only[h2,r1,vX,d9,fl,cl,rp,append_nil,c8,nh,oO,g1,Option.isSome_none,imp_self,i1,↓reduceIte,Nat.reduceAdd,Nat.reduceMul,Nat.reduceSub,Nat.reduceLT,Nat.reduceLeDiff,ru]
  repeat refine ag ?_
  refine gp ZW (by simp[cC,iw,gj,fP]) ?_;refine a9 ?_
  repeat refine ag ?_
  refine ax (i+1) ?_ (by omega);rw[bP];refine eV [] ?_ ?_
  .simp[bc,dX,cB];split<;>omega
  simp[ez]
 intro h1 h2;have Og:p.take i=p:=eE (by omega);rw[Og];refine ae h2 ?_;refine bg rfl
theorem E7: ∀ (p:List Tm) (a N:Int),p.foldl (fun d t=>max d (H6 t.1 8)) a<=N↔a<=N/\ ∀ t∈p,H6 t.1 8<=N
 | [],a,N=>by simp
 | t::p,a,N=>by
  rw[foldl_cons,E7 p _ N];constructor
  .rintro⟨h1,h2⟩;exact⟨by omega,fun y hy=>by
    rcases List.mem_cons.1 hy with rfl | hy
    .omega
    exact h2 y hy⟩
  rintro⟨h1,h2⟩;exact⟨by have:=h2 t (by simp);omega,fun y hy=>h2 y (mem_cons_of_mem _ hy)⟩
theorem Ko {p:List Tm} {N:Int} (hN:0<=N) (hl:Len8 p):xU p<=N↔ ∀ t∈p,∀ x∈t.1,x<=N:=by
 unfold xU;rw[E7];constructor
 .rintro⟨_,h⟩ t ht;have h8:=hl t ht;have:=h t ht;rw[<-h8] at this;exact(PF (by omega)).1 this
 intro h;refine⟨hN,fun t ht=>?_⟩;have h8:=hl t ht;have:=(PF (m:=t.1) (N:=N) (by omega)).2 (h t ht);rwa [h8] at this
theorem adh (p:List Tm) (hp:LOkT 1000000000 1024 p) (hn:p.length<=10000):Den Tryz.prog 161 [] [PL (p.map tn)] [] (.tup [PL (p.map tn),.int .i64 0]):=by
 have Sv:=adg p hp.len (fun t ht x hx=>by have:=hp.exp t ht x hx;omega) hn;have ht:=(Ko (N:=1024) (by decide) hp.len).2 (fun t ht x hx=>(hp.exp t ht x hx).2);obtain⟨x,hx⟩:=aw (xU p);rw[hx] at Sv ht;obtain⟨P,hP⟩:=aw (p.map tn);rw[hP] at Sv ⊢;have e1:decide (x>1024)=false:=sB;refine dq Tryz.func161 7 0 ?_;refine aX ?_;refine aW Sv ?_;refine ae e1 ?_;refine bg rfl
theorem adi {k j n:Nat} {E:Int} {p:List Tm} (hj:1<=j) (h:LOkT j E p) (hn:p.length<=n) (hk:n*(j+1)+1<=k):POk k E (nf p):=
 ⟨cV h.len,((PB.terms hj h.bd hn hk).nf).bd (by omega),O8 (P:=fun m=> ∀ e∈m,0<=e/\e<=E) h.exp⟩
theorem POk.validB {k:Nat} {p:List Tm} (h:POk k 1024 p):validB (p.map tn)=true:=by
 unfold Go.Proofs.YtjjbkjgifdhlcaaGreat.validB;rw[v7];intro t ht;obtain⟨u,hu,rfl⟩:=mem_map.1 ht;unfold iq;rw[v7];intro e he;have:=h.exp u hu e he;rw[DV];exact⟨ib this.1,ib this.2⟩
abbrev fV (g:Nat):PV:= .fv (.lit (.func (.func g) #[] #[]))
theorem adj (p q:List Tm) (hp:POk 10000000 1024 p) (hq:POk 10000000 1024 q) (l_:p.length<=bG) (hqs:q.length<=bG) (hs:(nf (p++q)).length<=bG):
 Den Tryz.prog 97 [] [PL (p.map tn),PL (q.map tn)] [] (.tup [PL ((nf (p++q)).map tn),.int .i64 0]):=by
 have hm:=kD
 have tsp:=hp.ts (by decide)
 have tsq:=hq.ts (by decide)
 have v1:=Ke (p.map tn) tsp.l8 (by rw[length_map];omega)
 have v2:=Ke (q.map tn) tsq.l8 (by rw[length_map];omega)
 rw[hp.validB] at v1
 rw[hq.validB] at v2
 have n1:=Pv (p.map tn) (fun t ht=>(tsp t ht).mono (by decide)) (by rw[bC];exact PB.terms (n:=20) (j:=10000000) (by decide) hp.bd (by omega) (by decide)) (by rw[length_map];omega) (by rw[bC,e7 hp.canon];exact l_)
 have n2:=Pv (q.map tn) (fun t ht=>(tsq t ht).mono (by decide)) (by rw[bC];exact PB.terms (n:=20) (j:=10000000) (by decide) hq.bd (by omega) (by decide)) (by rw[length_map];omega) (by rw[bC,e7 hq.canon];exact hqs)
 rw[bC,e7 hp.canon] at n1
 rw[bC,e7 hq.canon] at n2
 have hl:=hp.l.app hq.l
 have G3:=HW p q (hp.l.mono (by decide) (by decide)) (hq.l.mono (by decide) (by decide)) (by omega) (by omega) hs
 have hr:=adi (k:=1000000000) (n:=40) (by decide) hl (by rw[qe];omega) (by decide)
 have ae3:=adh (nf (p++q)) hr.l (by omega)
 obtain⟨P,hP⟩:=aw (p.map tn)
 obtain⟨Q,hQ⟩:=aw (q.map tn)
 obtain⟨R,hR⟩:=aw ((nf (p++q)).map tn)
 rw[hP] at v1 n1 G3
 rw[hQ] at v2 n2 G3
 rw[hR] at G3 ae3
 rw[hP,hQ,hR]
 have ajw:Den Tryz.prog 152 [] [PL P,PL Q,fV 139] [] (.tup [PL R,.int .i64 0]):=by
  refine dq Tryz.func152 22 0 ?_;refine aX ?_;refine aW v1 ?_;refine ae @Bool.not_true ?_;refine aW v2 ?_;refine ae @Bool.not_true ?_;refine aW n1 ?_;refine a9 ?_;refine aW n2 ?_;refine a9 ?_;refine aW G3 ?_;refine a9 ?_;refine aW ae3 ?_;refine a9 ?_;refine bg rfl
 refine dq Tryz.func97 9 0 ?_
 refine aX ?_
 refine aW ajw ?_
 refine a9 ?_
 refine bg rfl
def zX (cs:List (List Raw)):List (List Raw):=(ncs cs).map eD
theorem E8 {cs:List (List Raw)} {l:List Raw} (h:dB l=true):zX (cs++[l])=zX cs:=by simp[zX,ncs,List.filter_append,h]
theorem Mm {cs:List (List Raw)} {l:List Raw} (h:dB l=false):zX (cs++[l])=zX cs++[eD l]:=by simp[zX,ncs,List.filter_append,h]
theorem r5 {cs:List (List Raw)} {l:List Raw}:fN (cs++[l])=(fN cs||(dB l&&decide (co l 8<0))):=by simp[fN,qub]
theorem kg {cs:List (List Raw)} {i:Nat} (h:i<cs.length):cs.take (i+1)=cs.take i++[cs.getD i []]:=by
 rw[List.take_succ_eq_append_getElem h,qa,qb h];rfl
theorem PG {cs:List (List Raw)} {i:Nat} (h:fN (cs.take i)=true):fN cs=true:=by
 unfold fN at h ⊢;rw[qpb] at h ⊢;obtain⟨l,hl,h2⟩:=h;exact⟨l,Cg hl,h2⟩
theorem PH {cs:List (List Raw)} {i:Nat}:(zX (cs.take i)).length<=(ncs cs).length:=by
 unfold zX;rw[length_map];unfold ncs;exact List.Sublist.length_le (List.Sublist.filter _ (List.take_sublist i cs))
theorem cv {ls:List (List Raw)} {n:Nat} (h:ls.length<=n):List.take n (au ls)=au ls:=eE (by rw[aA];exact h)
theorem dj (ls:List (List Raw)) (x:List Raw):au ls++[cK x]=au (ls++[x]):=by simp[au]
theorem Yg {l:List Raw} (h:l.length=9):((flat l).drop 24).take 3=(l.getD 8 rz).f.map .fv:=by
 match l,h with
 | [a,b,c,d,e,f,g,i,j],_=>rfl
theorem oZ {l:List Raw} (h:l.length=9):((flat l).drop 24)=[.fv (.lit (.bool (l.getD 8 rz).neg)),.fv (.sl (u32s (l.getD 8 rz).num)),.fv (.sl (u32s (l.getD 8 rz).den))]:=by
 match l,h with
 | [a,b,c,d,e,f,g,i,j],_=>rfl
theorem Yh (cs:List (List Raw)) (bE:AOk 1000000000 cs) (hn:cs.length<=1000) (fF: ∀ l∈cs,¬aO l->LOk 1000 l) (h12:(ncs cs).length<=12):
 Den Tryz.prog 228 [] [.fv (.sl (au cs))] [] (if fN cs then .tup [.fv (.sl []),.bool false] else .tup [.fv (.sl (au (sysL cs []))),.bool true]):=by
 obtain⟨n,cZ⟩:=aw cs.length
 obtain⟨R,hR⟩: ∃ R:PV,(if fN cs then .tup [.fv (.sl []),.bool false] else .tup [.fv (.sl (au (sysL cs []))),.bool true])=R:=⟨_,rfl⟩
 rw[hR]
 have rl:=aA cs
 rw[cZ] at rl
 refine dq Tryz.func228 28 0 ?_
 refine b8 rl ?_
 refine wl (α:=Nat×List (List Raw)) (fun⟨i,out⟩=>⟨[.fv (.sl (au cs)),.any,.nilsl,.bool false,.lsl 0 0 out.length 27,.any,.any,.fv (.sl (au cs)),.int .i64 n,.int .i64 i]++replicate 19 .any,[.row true (au out)]⟩)
  (fun⟨i,_⟩=>n - i) (fun⟨i,out⟩=>i<=n/\out=zX (cs.take i)/\fN (cs.take i)=false) (0,[]) ?_ ?_ ?_
 .refine Weak.nil 4 27 (by decide) rfl ?_
  refine eV [0] ?_ ?_
  .simp[bc,dX,cB]
  simp[ez,fL]
  rfl
 .exact⟨eH _,rfl,rfl⟩
 rintro⟨i,out⟩ ⟨hi,dG,Lv⟩
 have zP:out.length<=12:=by rw[dG];exact gD PH h12
 obtain⟨L,hL⟩:=aw out.length
 have rlo:=aA out
 rw[hL] at rlo zP
 dsimp only
 rw[hL]
 refine aX ?_
 refine bR ?_ ?_
 .intro h1 h2
  have eO:=kg (cs:=cs) (i:=i) (by omega)
  have hx:=bE.at (i:=i) (by omega)
  have bf:=ba (ls:=cs) (i:=i) (by omega)
  have r1:=bJ cs i
  obtain⟨x,mU⟩:=aw (cs.getD i [])
  rw[mU] at hx bf r1 eO
  have hc:=Pb x hx
  have lx:=hx.len
  have rA:=aG lx
  have fx:=aP x
  have gx:=ah x
  have nU:=ar lx
  have SH:=oZ lx
  obtain⟨b,hb⟩:=aw (dB x)
  rw[hb] at hc
  unfold RL at hc
  refine b9 (fw h2 r1 rA fx gx lx nU) ?_
  repeat refine ag ?_
  refine lY hc ?_
  cases b with
  | true=>
   have iI:=mf (x.getD 8 rz) ((hx.at 8).mono (by decide));have vZ:co x 8=(x.getD 8 rz).q:=rfl;obtain⟨r,hr⟩:=aw (x.getD 8 rz);rw[hr] at iI SH vZ;unfold Raw.v at iI;refine b9 (bZ SH gx lx) ?_
   repeat refine ag ?_
   refine aW iI ?_;refine ae @append_nil.{0} ?_;refine bR ?_ ?_
   .intro h3 h4;have hv:fN (cs.take (i+1))=true:=by
     rw[eO,r5,hb,vZ,ib (kW.1 h3)];simp
    rw[if_pos (PG hv)] at hR;subst hR;refine ae h4 ?_;refine bg rfl
   .intro h3 h4;have hv:fN (cs.take (i+1))=false:=by
     rw[eO,r5,hb,vZ,mX (fun h=>h3 (kW.2 h)),Lv];simp
    refine ae h4 ?_;refine ax (i+1,out) ?_ ⟨by omega,by rw[eO,E8 hb];exact dG,hv⟩;exact bN [0]
  | false=>
   have qY: ¬aO x:=fun h=>by rw[(dh lx).2 h] at hb;cases hb
   have hN:=WI x (fF x bf qY);have hv:fN (cs.take (i+1))=false:=by
    rw[eO,r5,hb,Lv];simp
   have gO:=oT lx;change Den Tryz.prog _ [] [RL x] [] (RL (eD x)) at hN;have hos:=Mm (cs:=cs.take i) hb;have jc:=dj out (eD x);obtain⟨y,hy⟩:=aw (eD x);rw[hy] at hN gO hos jc;have gy:=ah y;have gN:=cv (ls:=out) (n:=L) (by omega);have ug:=aG gO;unfold RL at hN;refine b9 (bZ nU gx lx) ?_
   repeat refine ag ?_
   refine lY hN ?_;refine b9 (fM gy gO gN ug jc rlo) ?_
   repeat refine ag ?_
   refine ax (i+1,out++[y]) ?_ ⟨by omega,by rw[eO,hos,dG],hv⟩;exact bN [3]
 intro h1 h2
 have gA:i=n:=by omega
 have gN:cs.take i=cs:=eE (by omega)
 rw[gN] at dG Lv
 rw[Lv,if_neg (by simp)] at hR
 have h9: ∀ l∈cs,l.length=9:=fun l hl=>(bE l hl).len
 have iP:AOk 1000000000 out:=fun f hf=>by
  rw[dG] at hf;obtain⟨l,hl,rfl⟩:=mem_map.1 hf;obtain⟨h3,h4⟩:=(jh h9).1 hl;exact(wJ (fF l h3 h4) (by decide)).mono (by decide)
 obtain⟨ls',pF,ae4⟩:=ahS out iP (by omega)
 have ajy:=iP.of_mem pF.mem
 have Xt:=pF.len
 have gh: ∀ a∈ls',∀ b∈ls',bS a b=0->a=b:=by
  intro a ha b hb rv;have key: ∀ f∈ls',IsCn f:=fun f hf=>by
   have:=(pF.mem f).1 hf;rw[dG] at this;obtain⟨l,hl,rfl⟩:=mem_map.1 this;exact ji (h9 l ((jh h9).1 hl).1)
  exact Bp (key a ha) (key b hb) rv
 obtain⟨H1,res,⟨ka,rfl,rfl,Xu⟩,h88⟩:=ahX ls' ajy (by omega) gh pF.ord
 have ajz:IsSys cs ka:=⟨Xu.sorted,fun f=>by
  rw[Xu.mem,pF.mem,dG];unfold zX;rw[mem_map];constructor
  .rintro⟨l,hl,rfl⟩;obtain⟨h3,h4⟩:=(jh h9).1 hl;exact⟨l,h3,h4,rfl⟩
  rintro⟨l,h3,h4,rfl⟩;exact⟨l,(jh h9).2 ⟨h3,h4⟩,rfl⟩⟩
 have he:=ajz.eq h9
 rw[<-he] at hR
 have RO:ls'.length=L:=by omega
 rw[hL] at ae4
 rw[RO] at h88
 have RP:=cv (ls:=ka) (qp _)
 have AH:=aA ka
 subst hR
 refine ae h2 ?_
 refine iD 0 ae4 trivial ?_
 refine ae @append_nil.{0} ?_
 refine iD 0 h88 trivial ?_
 refine ae @append_nil.{0} ?_
 refine Sp (vs:=[.lsl 0 0 ka.length 27,.bool true]) rfl ⟨cS,cS,cS⟩ (show tN [Ob.row true (au ka)] [] (.tup [.lsl 0 0 ka.length 27,.bool true])=_ from ?_)
 exact lX (aQ RP AH)
end Go.Proofs.YtjjbkjgifdhlcaaGreat
namespace Go.Pl
open Go.AM
def GoodS (s:List (List Raw)):Prop:= ∃ k,1<=k/\SysF k s/\Sz k s
theorem GoodS.len9 {s:List (List Raw)} (h:GoodS s): ∀ l∈s,l.length=9:=by
 obtain⟨k,hk,hs,hz⟩:=h;exact fun l hl=>(hs.ok l hl).len
theorem GoodS.lim {s:List (List Raw)} (h:GoodS s): ∀ l∈s,LOk 1000 l:=by
 obtain⟨k,hk,hs,hz⟩:=h;exact hz.lim hs
theorem GoodS.len {s:List (List Raw)} (h:GoodS s):s.length<=12:=by
 obtain⟨k,hk,hs,hz⟩:=h;exact hz.len hs
theorem GoodS.nc {s:List (List Raw)} (h:GoodS s): ∀ l∈s,¬aO l:=by
 obtain⟨k,hk,hs,hz⟩:=h;exact hs.nc
theorem Mo:eh []=true:=en.2 EN
def adk:Rat->List Rat->Rat
 | m,[]=>m
 | m,q::l=>adk (if 0<gk (q - m) then q else m) l
def minL:Rat->List Rat->Rat
 | m,[]=>m
 | m,q::l=>minL (if gk (q - m)<0 then q else m) l
def Tz (s:List (List Raw)) (v:Nat):List Rat:=(aN s v).map (fun b=>co b 8)
def Kq (s:List (List Raw)) (v:Nat):List Rat:=(ay s v).map (fun b=>co b 8)
def amP (s:List (List Raw)) (v:Nat):Option (Rat×Rat):=match Tz s v,Kq s v with
 | a::l,b::h=>some (adk a l,minL b h)
 | _,_=>none
structure CsOk (cs:List (List Raw)):Prop where
 ok: ∀ l∈cs,LOk 10000 l
 len:cs.length<=100
 nc:(ncs cs).length<=12
 good:GoodS (sysL cs [])
 nok: ∀ l∈cs,¬aO l->LOk 1000 l
theorem CsOk.len9 {cs:List (List Raw)} (h:CsOk cs): ∀ l∈cs,l.length=9:=fun l hl=>(h.ok l hl).len
theorem PJ (x:Nat->Rat) (v:Nat):upd x v (x v)=x:=by funext i;unfold upd;split<;>simp_all
theorem i4 (x:Nat->Rat) (v:Nat) (t:Rat):upd x v t v=t:=by simp[upd]
theorem uT {x:Nat->Rat} {v w:Nat} {t:Rat} (h:w≠v):upd x v t w=x w:=by simp[upd,h]
structure Pre (cs:List (List Raw)):Prop where
 cnf: ∀ l∈cs,IsCn l
 nc: ∀ l∈cs,¬aO l
 ok: ∀ l∈cs,LOk 1000 l
 len:cs.length<=13
 good:GoodS (sysL cs [])
theorem GoodS.cnf {s:List (List Raw)} (h:GoodS s): ∀ l∈s,IsCn l:=by
 have h9:=h.len9;obtain⟨k,hk,hs,hz⟩:=h;exact fun l hl=>by rw[<-hs.nm l hl];exact ji (h9 l hl)
theorem GoodS.self {s:List (List Raw)} (h:GoodS s):sysL s []=s:=by
 have h9:=h.len9;obtain⟨k,hk,hs,hz⟩:=h;exact(hs.self.eq h9).symm
theorem lN (cs:List (List Raw)):(ncs cs).length<=cs.length:=List.length_filter_le _ _
theorem Mp {cs:List (List Raw)} (h: ∀ l∈cs,dB l=true):ncs cs=[]:=by
 unfold ncs;exact gY (fun l hl=>by rw[h l hl];rfl)
def dP (q:Rat):List Raw:=(replicate 9 (cn 0)).set 8 (cn q)
def gC (v:Nat):List Raw:=(replicate 9 (cn 0)).set v (cn ((1:Int):Rat))
theorem H7 {v w:Nat} {q:Rat} (_:v<9) (hw:w<9):co ((replicate 9 (cn 0)).set v (cn q)) w=if w=v then q else 0:=by
 unfold co;rw[qa,List.getElem?_set];by_cases h:v=w
 .subst h;rw[if_pos rfl,if_pos (by simp;omega),if_pos rfl,Option.getD_some,cQ]
 rw[if_neg h,if_neg (fun e=>h e.symm),List.getElem?_replicate,if_pos hw,Option.getD_some,cQ]
theorem r6 {w:Nat} {q:Rat} (hw:w<9):co (dP q) w=if w=8 then q else 0:=H7 (by omega) hw
theorem CM {v w:Nat} (hv:v<9) (hw:w<9):co (gC v) w=if w=v then 1 else 0:=H7 hv hw
theorem nC (l:List Raw) (x:Nat->Rat):aF l x=co l 8+co l 0*x 0+co l 1*x 1+co l 2*x 2+co l 3*x 3+co l 4*x 4+co l 5*x 5+co l 6*x 6+co l 7*x 7:=rfl
def lO (s:List (List Raw)) (i:Nat):List (List Raw):=s.take i++s.drop (i+1)
theorem tg {s:List (List Raw)} {i:Nat}:(lO s i).Sublist s:=by
 unfold lO;have h:=List.take_append_drop i s
 conv=>rhs;rw[<-h]
 refine List.Sublist.append (List.Sublist.refl _) ?_;rw[<-List.drop_drop];exact List.drop_sublist _ _
theorem th {s:List (List Raw)} {i:Nat} (h:i<s.length):(lO s i).length+1=s.length:=by
 unfold lO;rw[qe,length_take,qt];omega
theorem tj {s:List (List Raw)} {i:Nat} {l:List Raw} (h:l∈lO s i):l∈s:=tg.subset h
theorem Kr {s:List (List Raw)} {i:Nat} (hi:i<s.length) {l:List Raw} (h:l∈s):l∈lO s i\/l=s.getD i []:=by
 have h2:=List.take_append_drop i s;rw[<-h2,qr] at h;unfold lO;rw[qr];rcases h with h | h
 .exact .inl (.inl h)
 rw[drop_eq_getElem_cons hi] at h;rcases List.mem_cons.1 h with h | h
 .right;rw[h,qa,qb hi];rfl
 exact .inl (.inr h)
def GoodT (s:List (List Raw)):Prop:= ∃ k,1<=k/\SysF k s/\Sz (k+1) s
theorem Sz.mono {j k:Nat} {s:List (List Raw)} (h:Sz k s) (hk:j<=k):Sz j s:=⟨h.n3,fun h3=>by have:=h.c3 h3;omega,fun h2=>by have:=h.c2 h2;omega,fun h1=>by have:=h.c1 h1;omega⟩
theorem Sz.sub {k:Nat} {s t:List (List Raw)} (h:Sz k s) (hl:t.length<=s.length) (hn:bA t<=bA s):Sz k t:=by
 have h3:=h.n3;have c3:=h.c3;have c2:=h.c2;have c1:=h.c1;refine⟨by omega,fun h=>?_,fun h=>?_,fun h=>?_⟩
 .have:=c3 (by omega);omega
 .have:bA s=2\/bA s=3:=by omega
  rcases this with h5 | h5
  .have:=c2 h5;omega
  have:=c3 h5;omega
 have:bA s=1\/bA s=2\/bA s=3:=by omega
 rcases this with h5 | h5 | h5
 .have:=c1 h5;omega
 .have:=c2 h5;omega
 have:=c3 h5;omega
theorem Mq {s t:List (List Raw)} (h: ∀ l∈t,l∈s):bA t<=bA s:=s7 (fun w _ ho=>by
 obtain⟨l,hl,h0⟩:=fg.1 ho;exact fg.2 ⟨l,h l hl,h0⟩)
theorem GoodT.good {s:List (List Raw)} (h:GoodT s):GoodS s:=by
 obtain⟨k,hk,hs,hz⟩:=h;exact⟨k,hk,hs,hz.mono (by omega)⟩
theorem GoodT.sub {s t:List (List Raw)} (h:GoodT s) (ht:t.Sublist s):GoodT t:=by
 obtain⟨k,hk,hs,hz⟩:=h;exact⟨k,hk,⟨hs.sorted.sublist ht,fun l hl=>hs.ok l (ht.subset hl),fun l hl=>hs.nc l (ht.subset hl),fun l hl=>hs.nm l (ht.subset hl)⟩,hz.sub ht.length_le (Mq (fun l hl=>ht.subset hl))⟩
theorem Mr (l:List Raw):(bQ (dC l)).q= -(bQ l).q:=by
 have h:=p9 (C:= -1) (by decide) (rs:=l);have e:(l.map (fun r=>r.q / (-1)))=l.map (fun r=>r.q*((-1:Int):Rat)):=List.map_congr_left (fun r _=>by
  have:((-1:Int):Rat)= -1:=rfl;rw[this];grind)
 rw[e] at h;show(bQ (((l.map (fun r=>r.q*((-1:Int):Rat))).map cn))).q=_;rw[h];grind
theorem PK (c:Rat):fH (-c)=fH c:=by
 unfold fH;have h1:(-c).num<0↔ -c<0:=eS;have h2:c.num<0↔c<0:=eS;split<;>split<;>grind
theorem Ks (l:List Raw) (h:l.length=9):IsCn (dC l):=⟨l.map (fun r=>r.q*((-1:Int):Rat)),rfl,by simp[h]⟩
theorem xV {f g:List Raw} (hf:IsCn f) (hg:IsCn g) (h: ∀ i,i<9->co f i=co g i):f=g:=by
 have lf:=hf.len;have lg:=hg.len;obtain⟨p,rfl,hp⟩:=hf;obtain⟨q,rfl,hq⟩:=hg;congr 1;apply List.ext_getElem (by omega);intro i h1 h2;have:=h i (by omega);unfold co at this;rw[qa,qb (by simpa using h1),qa,qb (by simpa using h2)] at this;simp only[Option.getD_some,List.getElem_map,cQ] at this;exact this
theorem PM {l:List Raw} (h9:l.length=9) (hc: ¬aO l):eD (dC l)=dC (eD l):=by
 have hn9:=er h9;have h0:=wI h9 hc;have e:=Mr l;have h0':(bQ (dC l)).q≠0:=by rw[e];grind
 refine xV (ji hn9) (Ks _ (oT h9)) (fun i hi=>?_);rw[nj hn9 h0' hi,jg h9 hi,jg (oT h9) hi,nj h9 h0 hi,e,PK];grind
theorem Yi {l:List Raw} (h9:l.length=9) (hc: ¬aO l): ¬aO (dC l):=fun h=>hc (fun i hi=>by
 have:=h i hi;rw[jg h9 (by omega)] at this;grind)
theorem GoodT.turn {s t:List (List Raw)} (h:GoodT s) (ht: ∀ l∈t,l∈s) {x:List Raw} (hx:x∈s) (hl:t.length+1<=s.length):GoodS (sysL (t++[dC x]) [])/\Pre (t++[dC x]):=by
 have aD:=h.good.len;have nV:=h.good.lim;have ue:=h.good.cnf;obtain⟨k,hk,hs,hz⟩:=h;have h9: ∀ l∈s,l.length=9:=fun l hl=>(hs.ok l hl).len
 have h9t: ∀ l∈t++[dC x],l.length=9:=fun l hl=>by
  rcases List.mem_append.1 hl with h1 | h1
  .exact h9 l (ht l h1)
  rw[List.mem_singleton.1 h1];exact er (h9 x hx)
 have qY: ∀ l∈t++[dC x],¬aO l:=fun l hl=>by
  rcases List.mem_append.1 hl with h1 | h1
  .exact hs.nc l (ht l h1)
  rw[List.mem_singleton.1 h1];exact Yi (h9 x hx) (hs.nc x hx)
 have Jk:=ir h9t;have bE: ∀ l∈t++[dC x],¬aO l->LOk (k+1) (eD l):=fun l hl _=>by
  rcases List.mem_append.1 hl with h1 | h1
  .rw[hs.nm l (ht l h1)];exact(hs.ok l (ht l h1)).mono (by omega)
  rw[List.mem_singleton.1 h1,PM (h9 x hx) (hs.nc x hx),hs.nm x hx];exact s6 (hs.ok x hx) hk
 have hnv:bA (sysL (t++[dC x]) [])<=bA s:=by
  rw[uM h9t Jk];refine s7 (fun w hw ho=>?_);obtain⟨l,hl,h0⟩:=fg.1 ho;rcases List.mem_append.1 hl with h1 | h1
  .exact fg.2 ⟨l,ht l h1,h0⟩
  rw[List.mem_singleton.1 h1,jg (h9 x hx) (by omega)] at h0;exact fg.2 ⟨x,hx,fun h2=>h0 (by rw[h2];rfl)⟩
 have qQ:=nt h9t Jk;have dR:=lN (t++[dC x]);rw[qe,N6] at dR;have hg:GoodS (sysL (t++[dC x]) []):=⟨k+1,by omega,SysF.of h9t Jk bE,hz.sub (by omega) hnv⟩;refine⟨hg,?_,qY,?_,?_,hg⟩
 .intro l hl;rcases List.mem_append.1 hl with h1 | h1
  .exact ue l (ht l h1)
  rw[List.mem_singleton.1 h1];exact Ks x (h9 x hx)
 .have hzk:k+1<=1000:=(hz.all (nu hx (hs.nc x hx))).2;intro l hl;rcases List.mem_append.1 hl with h1 | h1
  .exact nV l (ht l h1)
  rw[List.mem_singleton.1 h1];exact(s6 (hs.ok x hx) hk).mono hzk
 rw[qe,N6];omega
noncomputable def o0 (s:List (List Raw)) (i:Nat):Bool:=eh (sysL (lO s i++[dC (s.getD i [])]) [])
noncomputable def jw:Nat->Nat->List (List Raw)->List (List Raw)
 | 0,_,s=>s
 | n+1,i,s=>if i<s.length then(if o0 s i then jw n (i+1) s else jw n i (lO s i)) else s
noncomputable def aV (cs:List (List Raw)):List (List Raw):=if aZ cs then jw (sysL cs []).length 0 (sysL cs []) else [dP ((-1:Int):Rat)]
theorem mr: ∀ (n i:Nat) (s:List (List Raw)),(jw n i s).Sublist s
 | 0,_,s=>List.Sublist.refl s
 | n+1,i,s=>by
  unfold jw;split
  .split
   .exact mr n (i+1) s
   exact(mr n i (lO s i)).trans tg
  exact List.Sublist.refl s
theorem Bz {t:List (List Raw)} (h: ∀ l∈t,¬aO l): ¬EJ t:=fun⟨l,hl,hc,_⟩=>h l hl hc
theorem E9 {t:List (List Raw)} (h9: ∀ l∈t,l.length=9) (h: ∀ l∈t,¬aO l):aZ t=eh (sysL t []):=by
 unfold aZ;have:fN t=false:=by
  cases hv:fN t with
  | false=>rfl
  | true=>exact absurd ((mo h9).1 hv) (Bz h)
 rw[this];rfl
structure DX (ds:List (List Raw)):Prop where
 cs:CsOk ds
 good:GoodT (sysL ds [])
theorem Yj (a c:Rat) (ha:0<a): ∃ e:Rat,0<e/\ ∀ t:Rat,-e<=t->t<=e->0<a+c*t:=by
 by_cases h0:c=0
 .exact⟨1,by decide,fun t _ _=>by rw[h0,Rat.zero_mul,Rat.add_zero];exact ha⟩
 by_cases hp:0<c
 .have ZD:c*(a / (2*c))=a / 2:=by grind
  have he:0<a / (2*c):=by
   by_cases h:0<a / (2*c)
   .exact h
   exfalso;have:=Rat.mul_nonneg (show 0<= -(a / (2*c)) by grind) (show 0<=c by grind);grind
  refine⟨a / (2*c),he,fun t h1 _=>?_⟩;have:=Rat.mul_nonneg (show 0<=t+a / (2*c) by grind) (show 0<=c by grind);grind
 have hn:0< -c:=by grind
 have ZD:(-c)*(a / (2*(-c)))=a / 2:=by grind
 have he:0<a / (2*(-c)):=by
  by_cases h:0<a / (2*(-c))
  .exact h
  exfalso;have:=Rat.mul_nonneg (show 0<= -(a / (2*(-c))) by grind) (show 0<= -c by grind);grind
 refine⟨a / (2*(-c)),he,fun t _ h2=>?_⟩;have:=Rat.mul_nonneg (show 0<=a / (2*(-c)) - t by grind) (show 0<= -c by grind);grind
theorem E_ {w:Nat} (hw:w<8): ∀ (s:List (List Raw)) (x:Nat->Rat),iX s x-> ∃ e:Rat,0<e/\ ∀ t:Rat,-e<=t->t<=e->iX s (upd x w (x w+t))
 | [],x,_=>⟨1,by decide,fun t _ _ l hl=>by simp at hl⟩
 | m::s,x,h=>by
  obtain⟨e1,h1,k1⟩:=E_ hw s x (fun l hl=>h l (mem_cons_of_mem _ hl));obtain⟨e2,h2,k2⟩:=Yj (aF m x) (co m w) (h m (by simp));by_cases h3:e1<=e2
  .refine⟨e1,h1,fun t ZX Je l hl=>?_⟩;rcases List.mem_cons.1 hl with h4 | h4
   .subst h4;rw[fU hw];have:=k2 t (by grind) (by grind);grind
   exact k1 t ZX Je l h4
  refine⟨e2,h2,fun t ZX Je l hl=>?_⟩;rcases List.mem_cons.1 hl with h4 | h4
  .subst h4;rw[fU hw];have:=k2 t ZX Je;grind
  exact k1 t (by grind) (by grind) l h4
theorem Ms {s:List (List Raw)} {l:List Raw} {x:Nat->Rat} (hl: ¬aO l) (hx:iX s x) (h0:aF l x=0): ∃ y,iX s y/\aF l y<0:=by
 obtain⟨w,hw,hc⟩:=p7 hl;obtain⟨e,he,k⟩:=E_ hw s x hx;by_cases hp:0<co l w
 .refine⟨upd x w (x w+ -e),k _ (by grind) (by grind),?_⟩;rw[fU hw,h0];have:=Rat.mul_pos hp he;grind
 refine⟨upd x w (x w+e),k _ (by grind) (by grind),?_⟩;rw[fU hw,h0];have:=Rat.mul_pos (show 0< -(co l w) by grind) he;grind
theorem BA {l:List Raw} (h9:l.length=9) (x:Nat->Rat):aF (dC l) x= -aF l x:=by
 have c:=fun w hw=>jg h9 (i:=w) hw
 rw[nC,nC,c 8 (by decide),c 0 (by decide),c 1 (by decide),c 2 (by decide),c 3 (by decide),c 4 (by decide),c 5 (by decide),c 6 (by decide),c 7 (by decide)];grind
theorem in_pos {t:List (List Raw)} (h: ∀ l∈t,¬aO l) (x:Nat->Rat):In t x↔iX t x:=
 ⟨fun hi l hl=>by
  rcases hi l hl with h1 | h1
  .exact h1
  exact absurd h1.1 (h l hl),fun hp l hl=> .inl (hp l hl)⟩
theorem PN {t:List (List Raw)} (h9: ∀ l∈t,l.length=9) (h: ∀ l∈t,¬aO l):eh (sysL t [])=true↔ ∃ x,iX t x:=by
 rw[en];have:=fun x=>(xG h9 (ir h9) (Bz h) x).symm.trans (in_pos h x)
 exact⟨fun⟨x,hx⟩=>⟨x,(this x).1 hx⟩,fun⟨x,hx⟩=>⟨x,(this x).2 hx⟩⟩
theorem p' {s:List (List Raw)} {i:Nat} (hg:GoodT s) (hi:i<s.length):o0 s i=true↔ ∃ y,iX (lO s i) y/\aF (s.getD i []) y<0:=by
 have bf:s.getD i []∈s:=by rw[qa,qb hi];exact kj _
 have hl:=th hi;obtain⟨h1,h2⟩:=hg.turn (t:=lO s i) (fun l hl=>tj hl) bf (by omega);have h9: ∀ l∈lO s i++[dC (s.getD i [])],l.length=9:=fun l hl=>(h2.ok l hl).len
 have hx9:(s.getD i []).length=9:=hg.good.len9 _ bf;unfold o0;rw[PN h9 h2.nc];constructor
 .rintro⟨y,hy⟩;refine⟨y,fun l hl=>hy l (List.mem_append_left _ hl),?_⟩;have:=hy (dC (s.getD i [])) (by simp);rw[BA hx9] at this;grind
 rintro⟨y,hy,hn⟩;refine⟨y,fun l hl=>?_⟩;rcases List.mem_append.1 hl with h3 | h3
 .exact hy l h3
 rw[List.mem_singleton.1 h3,BA hx9];grind
theorem TA {s:List (List Raw)} {i:Nat} (hg:GoodT s) (hi:i<s.length) (hr:o0 s i=false) (x:Nat->Rat):iX (lO s i) x↔iX s x:=by
 have bf:s.getD i []∈s:=by rw[qa,qb hi];exact kj _
 constructor
 .intro hp l hl;rcases Kr hi hl with h1 | h1
  .exact hp l h1
  rw[h1];have su: ∀ y,iX (lO s i) y-> ¬aF (s.getD i []) y<0:=fun y hy hn=>by
   have:=(p' hg hi).2 ⟨y,hy,hn⟩;rw[hr] at this;cases this
  by_cases h0:aF (s.getD i []) x=0
  .obtain⟨y,hy,hn⟩:=Ms (hg.good.nc _ bf) hp h0;exact absurd hn (su y hy)
  have:=su x hp;grind
 exact fun hp l hl=>hp l (tj hl)
theorem xW: ∀ (n i:Nat) {s:List (List Raw)},GoodT s-> ∀ x,iX (jw n i s) x↔iX s x
 | 0,_,_,_,_=>Iff.rfl
 | n+1,i,s,hg,x=>by
  unfold jw;split
  .rename_i hi;split
   .exact xW n (i+1) hg x
   rename_i hr;rw[xW n i (hg.sub tg) x];exact TA hg hi (by simpa using hr) x
  exact Iff.rfl
theorem Yk {s:List (List Raw)} {i j:Nat} (hj:j<i) (hi:i<s.length):(lO s i).getD j []=s.getD j []:=by
 unfold lO;rw[qa,qi (by rw[length_take];omega),List.getElem?_take,if_pos hj,<-qa]
theorem TB {s:List (List Raw)} {i j:Nat} (hj:j<i) (hi:i<s.length): ∀ l∈lO (lO s i) j,l∈lO s j:=by
 intro l hl;unfold lO at hl ⊢;rw[qr] at hl ⊢;rcases hl with hl | hl
 .left;rw[List.take_append_of_le_length (by rw[length_take];omega),List.take_take] at hl;rwa [Nat.min_eq_left (by omega)] at hl
 right;rw[List.drop_append_of_le_length (by rw[length_take];omega),qr] at hl;rcases hl with hl | hl
 .rw[List.drop_take] at hl;exact Cg hl
 have e:i+1=(j+1)+(i - j):=by omega
 rw[e,<-List.drop_drop] at hl;exact VX hl
theorem xX: ∀ (n i:Nat) {s:List (List Raw)},GoodT s->s.length<=n+i->(∀ j,j<i->j<s.length->o0 s j=true)-> ∀ j,j<(jw n i s).length->o0 (jw n i s) j=true
 | 0,i,s,_,hn,h,j,hj=>h j (by have:j<s.length:=hj;omega) hj
 | n+1,i,s,hg,hn,h,j,hj=>by
  unfold jw at hj ⊢;by_cases hi:i<s.length
  .rw[if_pos hi] at hj ⊢;by_cases hr:o0 s i=true
   .rw[if_pos hr] at hj ⊢;refine xX n (i+1) hg (by omega) (fun q hq I7=>?_) j hj;by_cases Hm:q=i
    .rw[Hm];exact hr
    exact h q (by omega) I7
   rw[if_neg hr] at hj ⊢;have hl:=th hi;have Au:=hg.sub (tg (s:=s) (i:=i));refine xX n i Au (by omega) (fun q hq I7=>?_) j hj;obtain⟨y,hy,mQ⟩:=(p' hg (show q<s.length by omega)).1 (h q hq (by omega));refine(p' Au I7).2 ⟨y,fun l hl=>hy l (TB hq hi l hl),?_⟩;rw[Yk hq hi];exact mQ
  rw[if_neg hi] at hj ⊢;exact h j (by omega) hj
noncomputable def xY (s:List (List Raw)):List (List Raw):=jw s.length 0 s
def WY (s:List (List Raw)):Prop:= ∀ j,j<s.length->o0 s j=true
theorem PO (s:List (List Raw)):(xY s).Sublist s:=mr _ _ _
theorem i5 {s:List (List Raw)} (h:GoodT s):GoodT (xY s):=h.sub (PO s)
theorem o4 {s:List (List Raw)} (h:GoodT s) (x:Nat->Rat):iX (xY s) x↔iX s x:=xW _ _ h x
theorem xZ {s:List (List Raw)} (h:GoodT s):WY (xY s):=xX s.length 0 h (by omega) (fun j hj=>by omega)
theorem Mt {s:List (List Raw)} (h:GoodT s):eh (xY s)=eh s:=by
 have key:CE (xY s)↔CE s:=⟨fun⟨x,hx⟩=>⟨x,(o4 h x).1 hx⟩,fun⟨x,hx⟩=>⟨x,(o4 h x).2 hx⟩⟩;cases h1:eh s with
 | true=>exact en.2 (key.2 (en.1 h1))
 | false=>exact oU.2 (fun h2=>oU.1 h1 (key.1 h2))
structure amQ (c d:List (List Raw)) (i:Nat):Prop where
 good:GoodT d
 feas:eh d=true
 irr:WY d
 pos: ∀ x,iX d x↔ ∃ t,iX c (upd x i t)
 occs: ∀ w,w<8->w≠i->Pl.occ c w=false->Pl.occ d w=false
 gone:Pl.occ d i=false
structure amR (v n i:Nat) (c d:List (List Raw)):Prop where
 good:GoodT d
 irr:WY d
 feas:eh d=true
 pos: ∀ x,iX d x↔ ∃ y,(∀ w,(w<i\/i+n<=w\/w=v)->y w=x w)/\iX c y
 occs:(∀ w,w<i->w≠v->Pl.occ c w=false)-> ∀ w,w<i+n->w≠v->Pl.occ d w=false
theorem Kt {s:List (List Raw)} {v:Nat} (hv:v<8) (hg:GoodT s) (AD:WY s) (NI: ∀ w,w<8->w≠v->occ s w=false) {i j:Nat} (hi:i<s.length) (hj:j<s.length) (qX:i≠j):
 (¬(0<co (s.getD i []) v/\0<co (s.getD j []) v))/\ ¬(co (s.getD i []) v<0/\co (s.getD j []) v<0):=by
 have hm: ∀ q,q<s.length->s.getD q []∈s:=fun q hq=>by rw[qa,qb hq];exact kj _
 have I6: ∀ q (hq:q<s.length),co (s.getD q []) v≠0-> ∀ x,aF (s.getD q []) x=co (s.getD q []) v*(x v - co (cF v (s.getD q [])) 8):=by
  intro q hq h0 x;have h9:=hg.good.len9 _ (hm q hq);have hb:=dN (v:=v) h9 h0;have hc:aF (cF v (s.getD q [])) x=co (cF v (s.getD q [])) 8:=d_ (fun w hw=>by
   rw[hb.2 w (by omega)];by_cases UZ:v=w
   .rw[if_pos UZ]
   rw[if_neg UZ,Bo (NI w hw (fun e=>UZ e.symm)) _ (hm q hq)];simp[Rat.zero_mul])
  rw[<-hc];exact ni hb hv
 have Xv: ∀ p q,p<s.length->q<s.length->p≠q->s.getD q []∈lO s p:=by
  intro p q hp hq w5;unfold lO;rw[qr];by_cases aH:q<p
  .left;rw[qa,qb hq];exact List.mem_take_iff_getElem.2 ⟨q,by omega,rfl⟩
  right;rw[qa,qb hq];refine List.mem_drop_iff_getElem.2 ⟨q - (p+1),by omega,?_⟩;congr 1;omega
 have up: ∀ p q,p<s.length->q<s.length->p≠q->0<co (s.getD p []) v->0<co (s.getD q []) v-> ¬co (cF v (s.getD p [])) 8<=co (cF v (s.getD q [])) 8:=by
  intro p q hp hq w5 h1 h2 dR;obtain⟨y,hy,hn⟩:=(p' hg hp).1 (AD p hp);have h3:=hy _ (Xv p q hp hq w5);rw[I6 q hq (by grind)] at h3;rw[I6 p hp (by grind)] at hn;have h4:co (cF v (s.getD q [])) 8<y v:=by
   by_cases h:co (cF v (s.getD q [])) 8<y v
   .exact h
   have:=Rat.mul_nonneg (show 0<=co (s.getD q []) v by grind) (show 0<=co (cF v (s.getD q [])) 8 - y v by grind);grind
  have:=Rat.mul_nonneg (show 0<=co (s.getD p []) v by grind) (show 0<=y v - co (cF v (s.getD p [])) 8 by grind);grind
 have dn: ∀ p q,p<s.length->q<s.length->p≠q->co (s.getD p []) v<0->co (s.getD q []) v<0-> ¬co (cF v (s.getD q [])) 8<=co (cF v (s.getD p [])) 8:=by
  intro p q hp hq w5 h1 h2 dR;obtain⟨y,hy,hn⟩:=(p' hg hp).1 (AD p hp);have h3:=hy _ (Xv p q hp hq w5);rw[I6 q hq (by grind)] at h3;rw[I6 p hp (by grind)] at hn;have h4:y v<co (cF v (s.getD q [])) 8:=by
   by_cases h:y v<co (cF v (s.getD q [])) 8
   .exact h
   have:=Rat.mul_nonneg (show 0<= -(co (s.getD q []) v) by grind) (show 0<=y v - co (cF v (s.getD q [])) 8 by grind);grind
  have:=Rat.mul_nonneg (show 0<= -(co (s.getD p []) v) by grind) (show 0<=co (cF v (s.getD p [])) 8 - y v by grind);grind
 constructor
 .rintro⟨h1,h2⟩
  have a:=up i j hi hj qX h1 h2
  have b:=up j i hj hi (fun e=>qX e.symm) h2 h1
  grind
 rintro⟨h1,h2⟩
 have a:=dn i j hi hj qX h1 h2
 have b:=dn j i hj hi (fun e=>qX e.symm) h2 h1
 grind
theorem lP {α:Type} {p:α->Bool}: ∀ {l:List α},(∀ (i j:Nat) (hi:i<l.length) (hj:j<l.length),i≠j-> ¬(p l[i]=true/\p l[j]=true))->(l.filter p).length<=1
 | [],_=>by simp
 | a::l,h=>by
  have ih:=lP (l:=l) (p:=p) (fun i j hi hj qX=>h (i+1) (j+1) (by simp;omega) (by simp;omega) (by omega));cases hp:p a with
  | false=>rw[List.filter_cons_of_neg (by rw[hp];simp)];exact ih
  | true=>
   rw[List.filter_cons_of_pos hp];have:l.filter p=[]:=by
    rw[List.filter_eq_nil_iff];intro b hb hpb;obtain⟨j,hj,rfl⟩:=List.mem_iff_getElem.1 hb;exact h 0 (j+1) (by simp) (by simp;omega) (by omega) ⟨hp,hpb⟩
   rw[this];simp
theorem H8 {s:List (List Raw)} {v:Nat} (hv:v<8) (hg:GoodT s) (AD:WY s) (NI: ∀ w,w<8->w≠v->occ s w=false):(Tz s v).length<=1/\(Kq s v).length<=1:=by
 have e: ∀ (i:Nat) (hi:i<s.length),s[i]=s.getD i []:=fun i hi=>by rw[qa,qb hi];rfl
 constructor
 .unfold Tz aN;rw[length_map,length_map];refine lP (fun i j hi hj qX h=>?_);rw[decide_eq_true_iff,decide_eq_true_iff,e i hi,e j hj] at h;exact(Kt hv hg AD NI hi hj qX).1 h
 unfold Kq ay;rw[length_map,length_map];refine lP (fun i j hi hj qX h=>?_);rw[decide_eq_true_iff,decide_eq_true_iff,e i hi,e j hj] at h;exact(Kt hv hg AD NI hi hj qX).2 h
end Go.Pl
namespace Go.Pl
theorem adl {c:List (List Raw)} (h:GoodT c):DX c:=by
 have hl:=h.good.len;have hn:=lN c;refine⟨⟨fun l hl=>(h.good.lim l hl).mono (by decide),by omega,by omega,?_,fun l hl _=>h.good.lim l hl⟩,?_⟩
 .rw[h.good.self];exact h.good
 rw[h.good.self];exact h
theorem PQ {c:List (List Raw)} (h:GoodT c) (hf:eh c=true):aV c=xY c:=by
 unfold aV;rw[E9 h.good.len9 h.good.nc,h.good.self,hf,if_pos rfl];rfl
theorem E' {x:Nat->Rat}: ¬In [dP ((-1:Int):Rat)] x:=by
 intro h;have h1:=h _ (List.mem_singleton.2 rfl);have c:=fun w hw=>r6 (q:=((-1:Int):Rat)) (w:=w) hw
 rw[nC,c 8 (by decide),c 0 (by decide),c 1 (by decide),c 2 (by decide),c 3 (by decide),c 4 (by decide),c 5 (by decide),c 6 (by decide),c 7 (by decide)] at h1;have e:((-1:Int):Rat)= -1:=rfl;simp[e] at h1;rcases h1 with h1 | h1
 .exact absurd h1 (by grind)
 exact absurd h1.2 (by grind)
theorem Mu {cs:List (List Raw)} (h9: ∀ l∈cs,l.length=9) (hi:aZ cs=true) (x:Nat->Rat):In cs x↔iX (sysL cs []) x:=by
 have h2:=hi;unfold aZ at h2;rw[DV,Bool.not_eq_true'] at h2;exact xG h9 (ir h9) (fun hv=>by rw[(mo h9).2 hv] at h2;cases h2.1) x
theorem H9 {cs:List (List Raw)} (hi:aZ cs=true):eh (sysL cs [])=true:=by
 unfold aZ at hi;rw[DV] at hi;exact hi.2
theorem jx {cs:List (List Raw)} (h:DX cs) (x:Nat->Rat):In (aV cs) x↔In cs x:=by
 have h9:=h.cs.len9;unfold aV;cases hi:aZ cs with
 | true=>
  rw[if_pos rfl,Mu h9 hi];have hg:=i5 h.good;have h1:=in_pos hg.good.nc x;have h2:=o4 h.good x;exact h1.trans h2
 | false=>
  rw[if_neg (by simp)];refine⟨fun hx=>absurd hx E',fun hx=>?_⟩;rw[(fh h9).2 ⟨x,hx⟩] at hi;cases hi
end Go.Pl
namespace Go.Pl
open Go.AM
def way (x y:Nat->Rat) (t:Rat):Nat->Rat:=fun i=>x i+t*(y i - x i)
theorem PR (a:List Raw) (x y:Nat->Rat) (t:Rat): ∀ k,lv a (way x y t) k=lv a x k+t*(lv a y k - lv a x k)
 | 0=>by simp only[lv];grind
 | k+1=>by
  simp only[lv];rw[PR a x y t k];simp only[way];grind
theorem mw (a:List Raw) (x y:Nat->Rat) (t:Rat):aF a (way x y t)=aF a x+t*(aF a y - aF a x):=PR a x y t 8
theorem Ku (y:Nat->Rat): ∀ (s:List (List Raw)) (x:Nat->Rat),iX s x-> ∃ e:Rat,0<e/\ ∀ t:Rat,0<=t->t<=e->iX s (way x y t)
 | [],x,_=>⟨1,by decide,fun t _ _ l hl=>by simp at hl⟩
 | m::s,x,h=>by
  obtain⟨e1,h1,k1⟩:=Ku y s x (fun l hl=>h l (mem_cons_of_mem _ hl));obtain⟨e2,h2,k2⟩:=Yj (aF m x) (aF m y - aF m x) (h m (by simp));by_cases h3:e1<=e2
  .refine⟨e1,h1,fun t ZX Je l hl=>?_⟩;rcases List.mem_cons.1 hl with h4 | h4
   .subst h4;rw[mw];have:=k2 t (by grind) (by grind);grind
   exact k1 t ZX Je l h4
  refine⟨e2,h2,fun t ZX Je l hl=>?_⟩;rcases List.mem_cons.1 hl with h4 | h4
  .subst h4;rw[mw];have:=k2 t (by grind) Je;grind
  exact k1 t ZX (by grind) l h4
theorem touch {s:List (List Raw)} {l m:List Raw} {z x0:Nat->Rat} (H: ∀ x,iX s x->0<aF l x->0<aF m x) (hz:iX s z) (hl:aF l z=0) (hm:aF m z<=0) (hx:0<aF l x0):
 aF m z=0/\ ∀ y,0<aF l y->0<aF m y:=by
 have key: ∀ y,0<aF l y-> ∃ e:Rat,0<e/\ ∀ t:Rat,0<t->t<=e->0<aF m z+t*(aF m y - aF m z):=by
  intro y hy;obtain⟨e,he,k⟩:=Ku y s z hz;refine⟨e,he,fun t h1 h2=>?_⟩;have h3:=H _ (k t (Rat.le_of_lt h1) h2) (by
   rw[mw,hl];have:=Rat.mul_pos h1 hy;grind)
  rw[mw] at h3;exact h3
 have h0:aF m z=0:=by
  by_cases h:aF m z=0
  .exact h
  exfalso;obtain⟨e,he,k⟩:=key x0 hx;obtain⟨e2,Hn,k2⟩:=Yj (-aF m z) (-(aF m x0 - aF m z)) (by grind);by_cases h3:e<=e2
  .have a1:=k e he Rat.le_refl;have a2:=k2 e (by grind) h3;grind
  have a1:=k e2 Hn (by grind);have a2:=k2 e2 (by grind) Rat.le_refl;grind
 refine⟨h0,fun y hy=>?_⟩
 obtain⟨e,he,k⟩:=key y hy
 have a1:=k e he Rat.le_refl
 rw[h0] at a1
 by_cases h:0<aF m y
 .exact h
 exfalso
 have:=Rat.mul_nonneg (Rat.le_of_lt he) (show 0<= -aF m y by grind)
 grind
theorem TC {a b:Rat} (h: ∀ k:Rat,0<a+k*b):b=0:=by
 by_cases hb:b=0
 .exact hb
 exfalso;have h1:=h (-(a+1) / b);have h2: -(a+1) / b*b= -(a+1):=by grind
 grind
theorem PS {l m:List Raw} {z x0:Nat->Rat} (RB: ¬aO l) (hmc: ¬aO m) (h: ∀ y,0<aF l y->0<aF m y) (hl:aF l z=0) (hm:aF m z=0) (hx:0<aF l x0):
 ∃ c:Rat,0<c/\ ∀ i,i<9->co m i=c*co l i:=by
 obtain⟨u,hu,ZL⟩:=p7 RB
 have key: ∀ w,w<8->co m w*co l u=co m u*co l w:=by
  intro w hw;by_cases SI:w=u
  .rw[SI]
  have:co m w*co l u - co m u*co l w=0:=TC (a:=aF m x0) (fun k=>by
   have h1:=h (upd (upd x0 w (x0 w+k*co l u)) u (x0 u - k*co l w)) (by
    rw[fU hu,fU hw,uT (fun e=>SI e.symm)];grind)
   rw[fU hu,fU hw,uT (fun e=>SI e.symm)] at h1;grind)
  grind
 have Lr:co m u≠0:=fun h0=>hmc (fun w hw=>by
  have:=key w hw;rw[h0,Rat.zero_mul] at this;rcases Rat.mul_eq_zero.1 this with h1 | h1
  .exact h1
  exact absurd h1 ZL)
 have hsg:0<=co m u*co l u:=by
  by_cases h0:0<=co m u*co l u
  .exact h0
  exfalso;have hn:0< -(co m u*co l u):=by grind
  have qT:=h x0 hx;have bO:0<(-(co m u*co l u))⁻¹:=Rat.inv_pos.2 hn;have hk:0<=(aF m x0+1)*(-(co m u*co l u))⁻¹:=Rat.mul_nonneg (by grind) (Rat.le_of_lt bO);have Jn:(aF m x0+1)*(-(co m u*co l u))⁻¹*(co m u*co l u)= -(aF m x0+1):=by
   have:=Rat.mul_inv_cancel (-(co m u*co l u)) (by grind);grind
  obtain⟨k,No⟩:=Hs ((aF m x0+1)*(-(co m u*co l u))⁻¹);rw[No] at hk Jn;have h1:=h (upd x0 u (x0 u+k*co l u)) (by
   rw[fU hu];have hsq:0<=co l u*co l u:=by
    by_cases hp:0<=co l u
    .exact Rat.mul_nonneg hp hp
    have:=Rat.mul_nonneg (show 0<= -co l u by grind) (show 0<= -co l u by grind);grind
   have:=Rat.mul_nonneg hk hsq;grind)
  rw[fU hu] at h1;grind
 have hc:0<co m u / co l u:=by
  have cM:co m u*co l u≠0:=fun h0=>by
   rcases Rat.mul_eq_zero.1 h0 with h1 | h1
   .exact Lr h1
   exact ZL h1
  by_cases hp:0<co m u / co l u
  .exact hp
  exfalso;have e:co m u / co l u*(co l u*co l u)=co m u*co l u:=by grind
  have hsq:0<=co l u*co l u:=by
   by_cases hp:0<=co l u
   .exact Rat.mul_nonneg hp hp
   have:=Rat.mul_nonneg (show 0<= -co l u by grind) (show 0<= -co l u by grind);grind
  have:=Rat.mul_nonneg (show 0<= -(co m u / co l u) by grind) hsq;grind
 obtain⟨c,kM⟩:=Hs (co m u / co l u)
 have ajC:c*co l u=co m u:=by rw[<-kM];grind
 rw[kM] at hc
 have DI: ∀ w,w<8->co m w=c*co l w:=by
  intro w hw;have:=key w hw;have e:(co m w - c*co l w)*co l u=0:=by rw[<-ajC] at this;grind
  rcases Rat.mul_eq_zero.1 e with h1 | h1
  .grind
  exact absurd h1 ZL
 refine⟨c,hc,fun i hi=>?_⟩
 by_cases h8:i<8
 .exact DI i h8
 have uc:i=8:=by omega
 subst uc
 rw[nC] at hl hm
 rw[DI 0 (by decide),DI 1 (by decide),DI 2 (by decide),DI 3 (by decide),DI 4 (by decide),DI 5 (by decide),DI 6 (by decide),DI 7 (by decide)] at hm
 grind
theorem PT {x C:Rat} (hC:0<C):fH (x / C)=fH x / C:=by
 have h1:(x / C).num<0↔x / C<0:=eS;have h2:x.num<0↔x<0:=eS;have e:x / C*C=x:=by grind
 have h3:x / C<0↔x<0:=by
  constructor
  .intro h;have:=Rat.mul_pos (show 0< -(x / C) by grind) hC;grind
  intro h;by_cases h4:x / C<0
  .exact h4
  have:=Rat.mul_nonneg (show 0<=x / C by grind) (Rat.le_of_lt hC);grind
 unfold fH;split<;>split<;>grind
theorem Kv {l m:List Raw} {c:Rat} (hl:IsCn l) (hm:IsCn m) (nl:eD l=l) (nm:eD m=m) (RB: ¬aO l) (hmc: ¬aO m) (hc:0<c) (h: ∀ i,i<9->co m i=c*co l i):m=l:=by
 have h9l:=hl.len;have h9m:=hm.len;have bO:0<c⁻¹:=Rat.inv_pos.2 hc;have pE:c*c⁻¹=1:=Rat.mul_inv_cancel c (by grind);have e:m=(l.map (fun r=>r.q / c⁻¹)).map cn:=by
  refine xV hm ⟨_,rfl,by simp[h9l]⟩ (fun i hi=>?_);rw[h i hi];unfold co;rw[qa,qa,qb (by omega),qb (by simp;omega)];simp only[Option.getD_some,List.getElem_map,cQ];grind
 have ae6:(bQ m).q=(bQ l).q / c⁻¹:=by
  have:=p9 (C:=c⁻¹) (by grind) (rs:=l);rw[<-e] at this;exact this
 have l0:=wI h9l RB;have m0:=wI h9m hmc;have Az:fH (bQ m).q=c*fH (bQ l).q:=by rw[ae6,PT bO];grind
 have hp:=uK l0;rw[<-nl,<-nm];refine xV (ji h9m) (ji h9l) (fun i hi=>?_);rw[nj h9m m0 hi,nj h9l l0 hi,Az,h i hi];grind
end Go.Pl
namespace Go.Pl
theorem Fa (q:Rat):(dP q).length=9:=by simp[dP]
theorem PU {k:Nat} {q:Rat} (hk:1<=k) (h:Bd k q):LOk k (dP q):=by
 have:dP q=((replicate 9 (0:Rat)).set 8 q).map cn:=by simp[dP]
 rw[this];refine LOk.of_map (by simp) (fun p hp=>?_);rcases List.mem_or_eq_of_mem_set hp with h1 | h1
 .rw[List.eq_of_mem_replicate h1];exact Bd.zero hk
 rw[h1];exact h
theorem rz_ok (k:Nat):rz.Ok k:=by
 refine⟨?_,?_,?_,?_⟩<;>simp[rz,Dig]
end Go.Pl
namespace Go.Pl
open Go.AM
theorem GoodT.nm {s:List (List Raw)} (h:GoodT s): ∀ l∈s,eD l=l:=by
 obtain⟨k,hk,hs,hz⟩:=h;exact hs.nm
theorem GoodT.sorted {s:List (List Raw)} (h:GoodT s):s.Pairwise (fun a b=>bS a b<0):=by
 obtain⟨k,hk,hs,hz⟩:=h;exact hs.sorted
theorem Fb {s t:List (List Raw)} (hs:GoodT s) (ht:GoodT t) (AD:WY s) {x0:Nat->Rat} (h0:iX s x0) (bP: ∀ x,iX s x↔iX t x): ∀ l∈s,l∈t:=by
 intro l hl;obtain⟨i,hi,dU⟩:=List.mem_iff_getElem.1 hl;have Au:s.getD i []=l:=by rw[qa,qb hi,Option.getD_some,dU]
 obtain⟨y,hy,hly⟩:=(p' hs hi).1 (AD i hi);rw[Au] at hly;have hp:0<aF l x0:=h0 l hl;have hd:0<aF l x0 - aF l y:=by grind
 have bO:0<(aF l x0 - aF l y)⁻¹:=Rat.inv_pos.2 hd;have gh:(aF l x0 - aF l y)*(aF l x0 - aF l y)⁻¹=1:=Rat.mul_inv_cancel _ (by grind);obtain⟨t0,ht0⟩:=Hs (aF l x0*(aF l x0 - aF l y)⁻¹);have ajE:0<t0:=by rw[<-ht0];exact Rat.mul_pos hp bO
 have h1t:0<1 - t0:=by
  have:1 - t0=(-aF l y)*(aF l x0 - aF l y)⁻¹:=by rw[<-ht0];grind
  rw[this];exact Rat.mul_pos (by grind) bO
 have hlz:aF l (way x0 y t0)=0:=by rw[mw,<-ht0];grind
 have hz:iX (lO s i) (way x0 y t0):=by
  intro a ha;rw[mw];have a1:=Rat.mul_pos h1t (h0 a (tj ha));have a2:=Rat.mul_pos ajE (hy a ha);grind
 have Vl: ¬iX t (way x0 y t0):=fun h=>by
  have:=(bP _).2 h l hl;rw[hlz] at this;exact absurd this (by grind)
 obtain⟨m,hm,hmz⟩: ∃ m,m∈t/\ ¬0<aF m (way x0 y t0):=by
  apply Classical.byContradiction;intro cM;exact Vl (fun m hm=>Classical.byContradiction (fun h=>cM ⟨m,hm,h⟩))
 have H: ∀ x,iX (lO s i) x->0<aF l x->0<aF m x:=by
  intro x hx Oi;refine(bP x).1 (fun a ha=>?_) m hm;rcases Kr hi ha with h | h
  .exact hx a h
  rw[h,Au];exact Oi
 obtain⟨ajG,sn⟩:=touch H hz hlz (by grind) hp;obtain⟨c,hc,vZ⟩:=PS (hs.good.nc l hl) (ht.good.nc m hm) sn hlz ajG hp;have:=Kv (hs.good.cnf l hl) (ht.good.cnf m hm) (hs.nm l hl) (ht.nm m hm) (hs.good.nc l hl) (ht.good.nc m hm) hc vZ;rw[<-this];exact hm
theorem CN {s t:List (List Raw)} (hs:GoodT s) (ht:GoodT t) (is:WY s) (it:WY t) {x0:Nat->Rat} (h0:iX s x0) (bP: ∀ x,iX s x↔iX t x):s=t:=
 lK (lt:=fun a b=>bS a b<0) (fun a b h h'=>by rw[dI] at h';omega) s t hs.sorted ht.sorted
  (fun f=>⟨Fb hs ht is h0 bP f,Fb ht hs it ((bP x0).1 h0) (fun x=>(bP x).symm) f⟩)
theorem vC:dB (dP ((-1:Int):Rat))=true:=(dh (Fa _)).2 (fun i hi=>by rw[r6 (by omega),if_neg (by omega)])
theorem uU:LOk 1 (dP ((-1:Int):Rat)):=PU (by decide) ⟨by decide,by decide⟩
theorem Fc:DX [dP ((-1:Int):Rat)]:=by
 have hs:sysL [dP ((-1:Int):Rat)] []=[]:=by
  show(if dB (dP ((-1:Int):Rat)) then _ else _)=_;rw[if_pos vC];rfl
 have qY:ncs [dP ((-1:Int):Rat)]=[]:=Mp (fun l hl=>by
  rw[qz] at hl;subst hl;exact vC)
 have hg:GoodT (sysL [dP ((-1:Int):Rat)] []):=by
  rw[hs];have h0:bA []=0:=by decide
  exact⟨1,qp _,⟨List.Pairwise.nil,by simp,by simp,by simp⟩,⟨by omega,fun h=>by omega,fun h=>by omega,fun h=>by omega⟩⟩
 refine⟨⟨fun l hl=>?_,by decide,by rw[qY];decide,hg.good,fun l hl _=>?_⟩,hg⟩
 .rw[qz] at hl;subst hl;exact uU.mono (by decide)
 rw[qz] at hl;subst hl;exact uU.mono (by decide)
theorem Fe:aZ [dP ((-1:Int):Rat)]=false:=by
 cases h:aZ [dP ((-1:Int):Rat)] with
 | false=>rfl
 | true=>
  obtain⟨x,hx⟩:=(fh Fc.cs.len9).1 h;exact absurd hx E'
theorem BB {a:List (List Raw)} (h:DX a):DX (aV a):=by
 unfold aV;split
 .exact adl (i5 h.good)
 exact Fc
theorem H_ {a:List (List Raw)} (h:DX a):(aV a).length<=40:=by
 unfold aV;split
 .have:=(i5 h.good).good.len;exact gD (show(jw (sysL a []).length 0 (sysL a [])).length<=12 from this) (by decide)
 decide
theorem vD {a:List (List Raw)} (h:DX a):aV (aV a)=aV a:=by
 cases hi:aZ a with
 | false=>
  have e:aV a=[dP ((-1:Int):Rat)]:=by unfold aV;rw[hi];rfl
  rw[e];unfold aV;rw[Fe];rfl
 | true=>
  have e:aV a=xY (sysL a []):=by unfold aV;rw[hi];rfl
  have hg:=i5 h.good;have hf:eh (xY (sysL a []))=true:=(Mt h.good).trans (H9 hi);rw[e,PQ hg hf];obtain⟨x0,Vo⟩:=en.1 hf;exact CN (i5 hg) hg (xZ hg) (xZ h.good) ((o4 hg x0).2 Vo) (fun x=>o4 hg x)
abbrev Kc:=List (List Raw)
abbrev RC:=List (List Raw)×List Tm
def cL:Kc->Kc->Int
 | [],[]=>0
 | [],_::_=> -1
 | _::_,[]=>1
 | a::az,b::bs=>if bS a b=0 then cL az bs else bS a b
def CnK (k:Kc):Prop:= ∀ f∈k,IsCn f
theorem CnK.tail {f:List Raw} {k:Kc} (h:CnK (f::k)):CnK k:=fun g hg=>h g (mem_cons_of_mem _ hg)
theorem CnK.head {f:List Raw} {k:Kc} (h:CnK (f::k)):IsCn f:=h f (by simp)
theorem mz: ∀ a:Kc,cL a a=0
 | []=>rfl
 | a::az=>by unfold cL;rw[if_pos (L6 a)];exact mz az
theorem f_: ∀ a b:Kc,cL a b= -cL b a
 | [],[]=>rfl
 | [],_::_=>rfl
 | _::_,[]=>rfl
 | a::az,b::bs=>by
  have h:=dI a b;unfold cL;by_cases h0:bS a b=0
  .rw[if_pos h0,if_pos (by omega)];exact f_ az bs
  rw[if_neg h0,if_neg (by omega)];exact h
theorem k6: ∀ {a b:Kc},CnK a->CnK b->cL a b=0->a=b
 | [],[],_,_,_=>rfl
 | [],_::_,_,_,h=>by simp[cL] at h
 | _::_,[],_,_,h=>by simp[cL] at h
 | a::az,b::bs,ha,hb,h=>by
  unfold cL at h;by_cases h0:bS a b=0
  .rw[if_pos h0] at h;rw[Bp ha.head hb.head h0,k6 ha.tail hb.tail h]
  rw[if_neg h0] at h;exact absurd h h0
theorem nD: ∀ {a b c:Kc},CnK a->CnK b->CnK c->cL a b<0->cL b c<0->cL a c<0
 | [],[],_,_,_,_,h,_=>by simp[cL] at h
 | [],_::_,[],_,_,_,_,h=>by simp[cL] at h
 | [],_::_,_::_,_,_,_,_,_=>by simp[cL]
 | _::_,[],_,_,_,_,h,_=>by simp[cL] at h
 | _::_,_::_,[],_,_,_,_,h=>by simp[cL] at h
 | a::az,b::bs,c::cs,ha,hb,hc,h1,h2=>by
  unfold cL at h1 h2 ⊢;by_cases e1:bS a b=0
  .rw[if_pos e1] at h1;rw[Bp ha.head hb.head e1];by_cases e2:bS b c=0
   .rw[if_pos e2] at h2 ⊢;exact nD ha.tail hb.tail hc.tail h1 h2
   rw[if_neg e2] at h2 ⊢;exact h2
  rw[if_neg e1] at h1;by_cases e2:bS b c=0
  .rw[<-Bp hb.head hc.head e2,if_neg e1];exact h1
  rw[if_neg e2] at h2;have:=vz ha.head hb.head hc.head h1 h2;rw[if_neg (by omega)];exact this
theorem x9 {a b c:Kc} (ha:CnK a) (hb:CnK b) (hc:CnK c) (h1:cL a b<0) (h2:cL b c<=0):cL a c<0:=by
 by_cases h:cL b c=0
 .rw[<-k6 hb hc h];exact h1
 exact nD ha hb hc h1 (by omega)
theorem zY {a b c:Kc} (ha:CnK a) (hb:CnK b) (hc:CnK c) (h1:cL a b<=0) (h2:cL b c<=0):cL a c<=0:=by
 by_cases h:cL a b=0
 .rw[k6 ha hb h];exact h2
 have:=x9 ha hb hc (by omega) h2;omega
instance:DecidableEq Raw:=fun a b=>decidable_of_iff (a.neg=b.neg/\a.num=b.num/\a.den=b.den) ⟨fun⟨h1,h2,h3⟩=>by cases a;cases b;simp_all,fun h=>by subst h;exact⟨rfl,rfl,rfl⟩⟩
def cY (k:Kc) (m:Mn):List RC->Rat
 | []=>0
 | r::l=>(if r.1=k then bM m r.2 else 0)+cY k m l
theorem k7 (k:Kc) (m:Mn): ∀ a b:List RC,cY k m (a++b)=cY k m a+cY k m b
 | [],b=>by simp[cY,Rat.zero_add]
 | r::a,b=>by
  rw[List.cons_append,cY,cY,k7 k m a b,Rat.add_assoc]
theorem Mv {k:Kc} {m:Mn} {a b:List RC} (h:a.Perm b):cY k m a=cY k m b:=by
 induction h with
 | nil=>rfl
 | cons x _ ih=>rw[cY,cY,ih]
 | swap x y l=>simp only[cY];grind
 | trans _ _ h1 h2=>rw[h1,h2]
theorem qc {k:Kc} {m:Mn}: ∀ {l:List RC},(∀ r∈l,r.1≠k)->cY k m l=0
 | [],_=>rfl
 | r::l,h=>by
  rw[cY,if_neg (h r (by simp)),qc (fun x hx=>h x (mem_cons_of_mem _ hx))];grind
structure NF (l:List RC):Prop where
 sorted:l.Pairwise (fun a b=>cL a.1 b.1<0)
 cn: ∀ r∈l,CnK r.1
 can: ∀ r∈l,Canon r.2
 ne: ∀ r∈l,r.2≠[]
theorem NF.nil:NF []:=⟨.nil,by simp,by simp,by simp⟩
theorem NF.tail {r:RC} {l:List RC} (h:NF (r::l)):NF l:=
 ⟨(pairwise_cons.1 h.sorted).2,fun x hx=>h.cn x (mem_cons_of_mem _ hx),fun x hx=>h.can x (mem_cons_of_mem _ hx),fun x hx=>h.ne x (mem_cons_of_mem _ hx)⟩
theorem NF.head {r:RC} {l:List RC} (h:NF (r::l)): ∀ x∈l,cL r.1 x.1<0:=(pairwise_cons.1 h.sorted).1
theorem NF.up {k:Kc} {m:Mn} {r:RC} {l:List RC} (h:NF (r::l)) (hk:CnK k) (hc:cL k r.1<0):cY k m (r::l)=0:=
 qc (fun x hx he=>by
  rcases List.mem_cons.1 hx with h1 | h1
  .rw[h1] at he;rw[he,mz] at hc;omega
  have:=nD hk (h.cn r (by simp)) (h.cn x hx) hc (h.head x h1);rw[he,mz] at this;omega)
theorem NF.own {m:Mn} {r:RC} {l:List RC} (h:NF (r::l)):cY r.1 m (r::l)=bM m r.2:=by
 rw[cY,if_pos rfl,qc (fun x hx he=>by have:=h.head x hx;rw[he,mz] at this;omega)];grind
theorem kE {p:List Tm} (hp:Canon p) (h:p≠[]): ∃ m,bM m p≠0:=by
 match p,hp,h with
 | t::q,hp,_=>exact⟨t.1,by rw[hp.sum_head];exact hp.nz t (by simp)⟩
theorem NF.uniq: ∀ {p q:List RC},NF p->NF q->(∀ k m,CnK k->cY k m p=cY k m q)->p=q
 | [],[],_,_,_=>rfl
 | [],r::q,_,hq,h=>by
  obtain⟨m,hm⟩:=kE (hq.can r (by simp)) (hq.ne r (by simp));have:=h r.1 m (hq.cn r (by simp));rw[hq.own,cY] at this;exact absurd this.symm hm
 | r::p,[],hp,_,h=>by
  obtain⟨m,hm⟩:=kE (hp.can r (by simp)) (hp.ne r (by simp));have:=h r.1 m (hp.cn r (by simp));rw[hp.own,cY] at this;exact absurd this hm
 | r::p,s::q,hp,hq,h=>by
  have hr:=hp.cn r (by simp);have hs:=hq.cn s (by simp);have Ji:=f_ r.1 s.1;by_cases h1:cL r.1 s.1<0
  .obtain⟨m,hm⟩:=kE (hp.can r (by simp)) (hp.ne r (by simp));have:=h r.1 m hr;rw[hp.own,hq.up hr h1] at this;exact absurd this hm
  by_cases h2:cL s.1 r.1<0
  .obtain⟨m,hm⟩:=kE (hq.can s (by simp)) (hq.ne s (by simp));have:=h s.1 m hs;rw[hq.own,hp.up hs h2] at this;exact absurd this.symm hm
  have he:r.1=s.1:=k6 hr hs (by omega);have ae7:r.2=s.2:=kz (hp.can r (by simp)) (hq.can s (by simp)) (fun m=>by
   have:=h r.1 m hr;rw[hp.own,he,hq.own] at this;exact this)
  have jc:r=s:=Prod.ext he ae7;rw[jc];rw[jc] at h;rw[NF.uniq hp.tail hq.tail (fun k m hk=>by
   have:=h k m hk;rw[cY,cY] at this;grind)]
def j6:List RC->RC->List RC
 | [],r=>if r.2=[] then [] else [r]
 | x::l,r=>if r.2=[] then x::l else if cL x.1 r.1<0 then x::j6 l r else
  if cL x.1 r.1=0 then(if nf (r.2++x.2)=[] then l else(r.1,nf (r.2++x.2))::l) else r::x::l
theorem Ff: ∀ {l:List RC} {r y:RC},y∈j6 l r->y∈l\/y.1=r.1
 | [],r,y,h=>by
  unfold j6 at h;split at h
  .simp at h
  .rw[qz] at h;right;rw[h]
 | x::l,r,y,h=>by
  unfold j6 at h;split at h
  .exact .inl h
  split at h
  .rcases List.mem_cons.1 h with h | h
   .left;rw[h];simp
   rcases Ff h with h | h
   .exact .inl (mem_cons_of_mem _ h)
   exact .inr h
  split at h
  .split at h
   .exact .inl (mem_cons_of_mem _ h)
   rcases List.mem_cons.1 h with h | h
   .right;rw[h]
   exact .inl (mem_cons_of_mem _ h)
  rcases List.mem_cons.1 h with h | h
  .right;rw[h]
  exact .inl h
theorem Fg (k:Kc) (m:Mn): ∀ {l:List RC} {r:RC},(∀ x∈l,CnK x.1)->CnK r.1->cY k m (j6 l r)=cY k m l+(if r.1=k then bM m r.2 else 0)
 | [],r,_,hr=>by
  unfold j6;by_cases h:r.2=[]
  .rw[if_pos h,h];simp[cY,bM];grind
  .rw[if_neg h];simp only[cY];grind
 | x::l,r,hl,hr=>by
  unfold j6;by_cases h:r.2=[]
  .rw[if_pos h,h];simp[bM];grind
  rw[if_neg h];by_cases h1:cL x.1 r.1<0
  .rw[if_pos h1,cY,Fg k m (fun y hy=>hl y (mem_cons_of_mem _ hy)) hr,cY];grind
  rw[if_neg h1];by_cases h2:cL x.1 r.1=0
  .rw[if_pos h2];have he:=k6 (hl x (by simp)) hr h2;have hs:bM m (nf (r.2++x.2))=bM m r.2+bM m x.2:=by rw[rM,gW]
   by_cases h3:nf (r.2++x.2)=[]
   .rw[if_pos h3];rw[h3] at hs;have h0:bM m ([]:List Tm)=0:=rfl;rw[h0] at hs;rw[cY,he];split<;>grind
   rw[if_neg h3,cY,cY,he];dsimp only;rw[hs];split<;>grind
  rw[if_neg h2];simp only[cY];grind
theorem CO: ∀ {l:List RC} {r:RC},NF l->CnK r.1->Canon r.2->NF (j6 l r)
 | [],r,_,hr,hc=>by
  unfold j6;split
  .exact .nil
  .next h=>exact⟨by simp,by simpa using hr,by simpa using hc,by simpa using h⟩
 | x::l,r,hl,hr,hc=>by
  unfold j6;by_cases h:r.2=[]
  .rw[if_pos h];exact hl
  rw[if_neg h];have hx:=hl.cn x (by simp);by_cases h1:cL x.1 r.1<0
  .rw[if_pos h1];have ih:=CO hl.tail hr hc;refine⟨pairwise_cons.2 ⟨fun y hy=>?_,ih.sorted⟩,fun y hy=>?_,fun y hy=>?_,fun y hy=>?_⟩
   .rcases Ff hy with h2 | h2
    .exact hl.head y h2
    rw[h2];exact h1
   .rcases List.mem_cons.1 hy with h2 | h2
    .rw[h2];exact hx
    exact ih.cn y h2
   .rcases List.mem_cons.1 hy with h2 | h2
    .rw[h2];exact hl.can x (by simp)
    exact ih.can y h2
   rcases List.mem_cons.1 hy with h2 | h2
   .rw[h2];exact hl.ne x (by simp)
   exact ih.ne y h2
  rw[if_neg h1];by_cases h2:cL x.1 r.1=0
  .rw[if_pos h2];have he:=k6 hx hr h2;by_cases h3:nf (r.2++x.2)=[]
   .rw[if_pos h3];exact hl.tail
   rw[if_neg h3];refine⟨pairwise_cons.2 ⟨fun y hy=>?_,hl.tail.sorted⟩,fun y hy=>?_,fun y hy=>?_,fun y hy=>?_⟩
   .have:=hl.head y hy;rw[he] at this;exact this
   .rcases List.mem_cons.1 hy with h4 | h4
    .rw[h4];exact hr
    exact hl.tail.cn y h4
   .rcases List.mem_cons.1 hy with h4 | h4
    .rw[h4];exact cV (Len8.app hc.len (hl.can x (by simp)).len)
    exact hl.tail.can y h4
   rcases List.mem_cons.1 hy with h4 | h4
   .rw[h4];exact h3
   exact hl.tail.ne y h4
  rw[if_neg h2];have Ji:=f_ r.1 x.1;have aH:cL r.1 x.1<0:=by omega
  refine⟨pairwise_cons.2 ⟨fun y hy=>?_,hl.sorted⟩,fun y hy=>?_,fun y hy=>?_,fun y hy=>?_⟩
  .rcases List.mem_cons.1 hy with h4 | h4
   .rw[h4];exact aH
   exact nD hr hx (hl.tail.cn y h4) aH (hl.head y h4)
  .rcases List.mem_cons.1 hy with h4 | h4
   .rw[h4];exact hr
   exact hl.cn y h4
  .rcases List.mem_cons.1 hy with h4 | h4
   .rw[h4];exact hc
   exact hl.can y h4
  rcases List.mem_cons.1 hy with h4 | h4
  .rw[h4];exact h
  exact hl.ne y h4
def o5 (l:List RC):List RC:=l.foldl j6 []
def RcOk (l:List RC):Prop:= ∀ r∈l,CnK r.1/\Canon r.2
theorem CP: ∀ {l s:List RC},NF s->RcOk l->NF (l.foldl j6 s)/\ ∀ k m,cY k m (l.foldl j6 s)=cY k m s+cY k m l
 | [],s,hs,_=>⟨hs,fun k m=>by simp[cY];grind⟩
 | r::l,s,hs,h=>by
  have hr:=h r (by simp);obtain⟨h1,h2⟩:=CP (l:=l) (CO hs hr.1 hr.2) (fun x hx=>h x (mem_cons_of_mem _ hx));refine⟨h1,fun k m=>?_⟩;rw[foldl_cons,h2 k m,Fg k m hs.cn hr.1,cY,Rat.add_assoc]
theorem tm {l:List RC} (h:RcOk l):NF (o5 l):=(CP NF.nil h).1
theorem tr {l:List RC} (h:RcOk l) (k:Kc) (m:Mn):cY k m (o5 l)=cY k m l:=by
 have:=(CP NF.nil h).2 k m;rw[show cY k m []=0 from rfl,Rat.zero_add] at this;exact this
theorem NF.of {M l:List RC} (hM:NF M) (hl:RcOk l) (h: ∀ k m,CnK k->cY k m M=cY k m l):M=o5 l:=
 hM.uniq (tm hl) (fun k m hk=>by rw[h k m hk,tr hl])
theorem NF.self {M:List RC} (hM:NF M):o5 M=M:=(hM.of (fun r hr=>⟨hM.cn r hr,hM.can r hr⟩) (fun _ _ _=>rfl)).symm
theorem Ia {a b:List RC} (ha:RcOk a) (hb:RcOk b) (h: ∀ k m,CnK k->cY k m a=cY k m b):o5 a=o5 b:=
 (tm ha).of hb (fun k m hk=>by rw[tr ha,h k m hk])
theorem x_: ∀ (l s:List RC),(l.foldl j6 s).length<=s.length+l.length
 | [],s=>by simp
 | r::l,s=>by
  have h:=x_ l (j6 s r);have h2: ∀ s:List RC,(j6 s r).length<=s.length+1:=fun s=>by
   induction s with
   | nil=>unfold j6;split<;>simp
   | cons x s ih=>
    unfold j6;split
    .simp
    split
    .simp only[length_cons];omega
    split
    .split
     .simp only[length_cons];omega
     simp
    simp
  have:=h2 s;rw[foldl_cons,length_cons];omega
end Go.Pl
namespace Go.Proofs.YtjjbkjgifdhlcaaGreat
open Go.AM Go.Pl
set_option maxRecDepth 100000
set_option maxHeartbeats 4000000
abbrev RR:=List (List Raw)×List RT
def CQ (r:RR):List FV:=[.sl (au r.1),.sl (aq r.2)]
def TD (r:RR):List PV:=[.fv (.sl (au r.1)),.fv (.sl (aq r.2))]
def a8 (l:List RR):List (List FV):=l.map CQ
def sy:RR:=([],[])
def rn (r:RC):RR:=(r.1,r.2.map tn)
abbrev RL' (l:List RR):PV:= .fv (.sl (a8 l))
theorem Ib (r:RR):(CQ r).map .fv=TD r:=rfl
theorem bH (l:List RR):(a8 l).length=l.length:=by simp[a8]
theorem fk {l:List RR} {i:Nat} (h:i<l.length):(a8 l).getD i []=CQ (l.getD i sy):=by simp[a8,h]
theorem BC (l:List RR) (i:Nat) (r:RR):(a8 l).set i (CQ r)=a8 (l.set i r):=by simp[a8,List.map_set]
theorem i6 (l:List RR) (r:RR):a8 l++[CQ r]=a8 (l++[r]):=by simp[a8]
theorem mA {l:List RR} {i:Nat} (h:i<l.length):l.getD i sy∈l:=by
 rw[qa,qb h];exact kj h
theorem r7 {l:List RR} {i:Nat} (h:i<l.length):l.take (i+1)=l.take i++[l.getD i sy]:=by
 rw[List.take_succ_eq_append_getElem h,qa,qb h];rfl
theorem dQ {l:List RR} {n:Nat} (h:l.length<=n):List.take n (a8 l)=a8 l:=eE (by rw[bH];exact h)
theorem Mw {a b:Kc} {i:Nat} (ha:i<a.length) (hb:i<b.length):cL (a.drop i) (b.drop i)=
 if bS (a.getD i []) (b.getD i [])=0 then cL (a.drop (i+1)) (b.drop (i+1)) else bS (a.getD i []) (b.getD i []):=by
 rw[drop_eq_getElem_cons ha,drop_eq_getElem_cons hb,qa,qa,qb ha,qb hb]
 rfl
theorem Mx {a b:Kc} {i:Nat} (ha:i<a.length) (hb:b.length<=i):cL (a.drop i) (b.drop i)=1:=by
 rw[drop_eq_getElem_cons ha,List.drop_of_length_le hb];rfl
theorem PW {a b:Kc} {i:Nat} (ha:a.length<=i) (hi:i<=b.length):cL (a.drop i) (b.drop i)=if i<b.length then -1 else 0:=by
 rw[List.drop_of_length_le ha];by_cases h:i<b.length
 .rw[if_pos h,drop_eq_getElem_cons h];rfl
 rw[if_neg h,List.drop_of_length_le (by omega)];rfl
theorem adm (a b:List (List Raw)) (ha:AOk 1000000000 a) (hb:AOk 1000000000 b) (ZY:a.length<=1000) (ZZ:b.length<=1000):
 Den Tryz.prog 200 [] [.fv (.sl (au a)),.fv (.sl (au b)),fV 201] [] (.int .i64 (cL a b)):=by
 have rla:=aA a
 have rlb:=aA b
 obtain⟨n,cZ⟩:=aw a.length
 obtain⟨m,NH⟩:=aw b.length
 rw[cZ] at rla ZY
 rw[NH] at rlb ZZ
 obtain⟨R,hR⟩:=aw (cL a b)
 rw[hR]
 refine dq Tryz.func200 36 0 ?_
 refine b8 rla ?_
 refine wl (α:=Nat) (fun i=>⟨[.fv (.sl (au a)),.fv (.sl (au b)),fV 201,.any,.any,.any,.int .i64 0,.any,.any,.any,.any,.fv (.sl (au a)),.int .i64 n,.int .i64 i]++replicate 25 .any,[]⟩)
  (fun i=>n - i) (fun i=>i<=n/\i<=m/\cL (a.drop i) (b.drop i)=R) 0 ?_ ?_ ?_
 .exact bN []
 .exact⟨eH _,eH _,by rw[List.drop_zero,List.drop_zero];exact hR⟩
 rintro i ⟨h1,h2,h3⟩
 refine aX ?_
 refine bR ?_ ?_
 .intro g1 g2
  have mx:=ba (ls:=a) (i:=i) (by omega)
  have rx:=bJ a i
  have hx:=ha _ mx
  have DH:=fun h=>Mw (a:=a) (b:=b) (i:=i) (by omega) h
  obtain⟨x,mU⟩:=aw (a.getD i [])
  rw[mU] at rx hx DH
  have lx:=hx.len
  have rA:=aG lx
  have fx:=aP x
  have gx:=ah x
  have nU:=ar lx
  by_cases hm:i<m
  .have e1:decide ((i:Int)>=(m:Int))=false:=sB
   have my:=ba (ls:=b) (i:=i) (by omega)
   have ry:=bJ b i
   have hy:=hb _ my
   have Jo:=DH (by omega)
   obtain⟨y,w6⟩:=aw (b.getD i [])
   rw[w6] at ry hy Jo
   have ly:=hy.len
   have ug:=aG ly
   have fy:=aP y
   have gy:=ah y
   have pG:=ar ly
   have hd:=Pa x y hx hy
   obtain⟨c,hc⟩:=aw (bS x y)
   rw[hc] at hd Jo
   rw[h3] at Jo
   unfold RL at hd
   refine b9 (bT g2 rx rA fx gx lx nU (aQ rlb e1)) ?_
   repeat refine ag ?_
   refine b9 (fM ry ug fy gy ly pG) ?_
   repeat refine ag ?_
   refine lY hd ?_
   refine Li ?_
   by_cases h0:c=0
   .have e2:(c !=0)=false:=by rw[h0];rfl
    rw[if_pos h0] at Jo
    refine ae e2 ?_
    refine ax (i+1) ?_ ⟨by omega,by omega,Jo.symm⟩
    exact bN []
   have e2:(c !=0)=true:=by simp[h0]
   rw[if_neg h0] at Jo
   refine ae e2 ?_
   subst Jo
   exact bg rfl
  have e1:decide ((i:Int)>=(m:Int))=true:=GP
  have he:=Mx (a:=a) (b:=b) (i:=i) (by omega) (by omega)
  rw[h3] at he
  subst he
  refine b9 (bT g2 rx rA fx gx lx rlb e1) ?_
  repeat refine ag ?_
  exact bg rfl
 intro g1 g2
 have gA:i=n:=by omega
 have he:=PW (a:=a) (b:=b) (i:=i) (by omega) (by omega)
 rw[h3,NH,gA] at he
 refine ae (bZ g2 rla rlb) ?_
 by_cases h0:n<m
 .have e2:decide ((n:Int)<(m:Int))=true:=GP
  rw[if_pos h0] at he
  subst he
  refine ae e2 ?_
  exact bg rfl
 have e2:decide ((n:Int)<(m:Int))=false:=sB
 rw[if_neg h0] at he
 subst he
 refine ae e2 ?_
 exact bg rfl
theorem WZ (a b:List (List Raw)) (ha:AOk 1000000000 a) (hb:AOk 1000000000 b) (ZY:a.length<=1000) (ZZ:b.length<=1000):
 Den Tryz.prog 159 [] [.fv (.sl (au a)),.fv (.sl (au b))] [] (.int .i64 (cL a b)):=by
 have h:=adm a b ha hb ZY ZZ
 refine dq Tryz.func159 6 0 ?_
 refine aX ?_
 refine aW h ?_
 refine a9 ?_
 exact bg rfl
theorem adn (a b:RR) (ha:AOk 1000000000 a.1) (hb:AOk 1000000000 b.1) (ZY:a.1.length<=1000) (ZZ:b.1.length<=1000):
 Den Tryz.prog 158 [] [.agg (TD a),.agg (TD b)] [] (.int .i64 (cL a.1 b.1)):=by
 have h:=WZ a.1 b.1 ha hb ZY ZZ
 unfold TD
 refine dq Tryz.func158 8 0 ?_
 refine aX ?_
 refine aW h ?_
 refine a9 ?_
 exact bg rfl
theorem sl2 (o:Ob) (l:List Ob) (a b c:Nat) (u:FV):shutBs (o::l) 0 [.lsl 0 a b c,.fv u]=o::l:=rfl
theorem sl4 (o:Ob) (l:List Ob) (a b c:Nat) (u v w:FV):shutBs (o::l) 0 [.lsl 0 a b c,.fv u,.fv v,.fv w]=o::l:=rfl
theorem Kw (r:RR):(CQ r).length=2:=rfl
theorem TE (r:RR):(TD r).length=2:=rfl
theorem BD (r:RR):List.take 2 (CQ r)=CQ r:=rfl
theorem My (r:RR):List.drop 2 (CQ r)=[]:=rfl
theorem Kx (H:List Ob) (r:RR):lG H (TD r)=some (CQ r):=rfl
theorem Ky (r:RR):(TD r).flatMap eY=[]:=rfl
def BE (a b:RR):Prop:=cL a.1 b.1<0
theorem PX (x y:RR) (h:BE x y): ¬BE y x:=by
 unfold BE at h ⊢;have:=f_ x.1 y.1;omega
theorem Yl {x y z:RR} (hx:CnK x.1) (hy:CnK y.1) (hz:CnK z.1) (h1: ¬BE x y) (h2: ¬BE y z): ¬BE x z:=by
 unfold BE at h1 h2 ⊢;have e1:=f_ x.1 y.1;have e2:=f_ y.1 z.1;have e3:=f_ x.1 z.1;have:=zY hz hy hx (by omega) (by omega);omega
structure Ym (r:RR):Prop where
 cn:CnK r.1
 ok:AOk 1000000000 r.1
 len:r.1.length<=1000
theorem ado (ls:List RR) (hl: ∀ r∈ls,Ym r) (hn:ls.length<=1000000):
 ∃ H1 res,(fun H1 res=> ∃ ls',H1=[.row true (a8 ls')]/\res=PV.tup []/\ls'.Perm ls/\ls'.Pairwise (fun a b=>¬BE b a)) H1 res/\
  Den Tryz.prog 232 [.row true (a8 ls)] [.lsl 0 0 ls.length 2,.int .i64 0,.int .i64 ls.length,fV 158] H1 res:=by
 obtain⟨n,cZ⟩:=aw ls.length
 rw[cZ] at hn ⊢
 refine Wl Tryz.func232 49 1 ?_
 refine aX ?_
 refine wl (α:=Nat×List RR) (fun⟨i,l⟩=>⟨[.lsl 0 0 n 2,.int .i64 0,.int .i64 n,fV 158,.any,.any,.any,.any,.int .i64 i]++replicate 44 .any,[.row true (a8 l)]⟩)
  (fun⟨i,_⟩=>n+1 - i) (fun⟨i,l⟩=>1<=i/\(i<=n\/i=1)/\l.Perm ls/\ ∀ p q,p<q->q<i->q<n-> ¬BE (l.getD q sy) (l.getD p sy)) (1,ls) ?_ ?_ ?_
 .exact bN [0]
 .exact⟨qp _,Or.inr rfl,List.Perm.refl _,fun p q h1 h2 h3=>by omega⟩
 rintro⟨i,l⟩ ⟨oA,gA,eX,tV⟩
 have oE:l.length=n:=by rw[eX.length_eq,cZ]
 refine aX ?_
 refine bR ?_ ?_
 .intro h1 h2
  refine ae h2 ?_
  refine wl (α:=Nat×List RR) (fun⟨j,l⟩=>⟨[.lsl 0 0 n 2,.int .i64 0,.int .i64 n,fV 158,.any,.any,.any,.any,.int .i64 i,.int .i64 j]++replicate 43 .any,[.row true (a8 l)]⟩)
   (fun⟨j,_⟩=>j) (fun⟨j,l⟩=>j<=i/\l.Perm ls/\O6 sy BE l i j) (i,l) ?_ ?_ ?_
  .exact bN [0]
  .exact⟨qp _,eX,fun p q h3 h4 h5=>tV p q h3 (by omega) (by omega)⟩
  rintro⟨j,l⟩ ⟨hj,eX,pF⟩
  have oE:l.length=n:=by rw[eX.length_eq,cZ]
  have Lq: ∀ t∈l,Ym t:=fun t ht=>hl t (eX.mem_iff.1 ht)
  have Vl: ∀ x∈l,∀ y∈l,∀ z∈l,¬BE x y-> ¬BE y z-> ¬BE x z:=fun x hx y hy z hz=>Yl (Lq x hx).cn (Lq y hy).cn (Lq z hz).cn
  refine aX ?_
  refine dw (by kernel_rfl) ?_
  refine a9 ?_
  refine bR ?_ ?_
  .intro h3 h4
   obtain⟨p,rfl⟩: ∃ p,j=p+1:=⟨j - 1,by omega⟩
   have B7:(((p+1:Nat):Int) - 1)=(p:Int):=by omega
   have m1:=Lq _ (mA (l:=l) (i:=p+1) (by omega))
   have m2:=Lq _ (mA (l:=l) (i:=p) (by omega))
   have bU:=adn _ _ m1.ok m2.ok m1.len m2.len
   have r1:=fk (l:=l) (i:=p+1) (by omega)
   have r2:=fk (l:=l) (i:=p) (by omega)
   have aH:BE (l.getD (p+1) sy) (l.getD p sy)↔cL (l.getD (p+1) sy).1 (l.getD p sy).1<0:=Iff.rfl
   have Ji:((a8 l).set (p+1) (CQ (l.getD p sy))).set p (CQ (l.getD (p+1) sy))=a8 (nZ sy l (p+1)):=by
    rw[BC,BC];unfold nZ;rw[Nat.add_sub_cancel]
   have r3:((a8 l).set (p+1) (CQ (l.getD p sy))).getD p []=CQ (l.getD p sy):=by
    rw[qa,getElem?_set_ne (by omega),<-qa,r2]
   have tW:=fun h=>A_ sy BE PX (ls:=l) (i:=i) (j:=p+1) (by omega) hj (by omega) pF h
   have lB:=fun h=>pY sy BE (ls:=l) Vl (i:=i) (j:=p+1) (by omega) hj pF h
   have hsp:=xA sy (ls:=l) (j:=p+1) (by omega) (by omega)
   rw[Nat.add_sub_cancel] at tW lB
   obtain⟨x,mU⟩:=aw (l.getD (p+1) sy)
   obtain⟨y,w6⟩:=aw (l.getD p sy)
   rw[mU] at bU r1 aH Ji tW lB
   rw[w6] at bU r2 r3 aH Ji tW lB
   have rl:=bH l
   obtain⟨z,hz⟩:=aw (cL x.1 y.1)
   rw[hz] at bU aH
   refine ae (bT h4 B7 r1 r2 @BD @Ib rl @Kw) ?_
   repeat refine ag ?_
   refine gp bU (by simp[cC,iw,Kx,Ib]) ?_
   refine ae @Ky ?_
   refine bR ?_ ?_
   .intro h5 h6
    refine ae h6 ?_
    refine dw (by kernel_rfl) ?_
    refine ae (bT B7 r1 r2 r3 @BD @Ib rl (bT @Kw @TE @My Ji @length_set.{0} @Kx @Ky @append_nil.{0})) ?_
    repeat refine ag ?_
    refine ax (p,nZ sy l (p+1)) ?_ ⟨by omega,hsp.trans eX,tW (aH.2 h5)⟩
    exact bN [0]
   intro h5 h6
   have hd:=lB (Or.inr (fun h=>h5 (aH.1 h)))
   refine ae h6 ?_
   refine ax (i+1,l) ?_ ⟨by omega,by omega,eX,fun p q h7 h8 h9=>hd p q h7 (by omega)⟩
   exact bN [0]
  intro h3 h4
  have hd:=pY sy BE (ls:=l) Vl (i:=i) (j:=j) (by omega) hj pF (Or.inl (by omega))
  refine ae h4 ?_
  refine ax (i+1,l) ?_ ⟨by omega,by omega,eX,fun p q h7 h8 h9=>hd p q h7 (by omega)⟩
  exact bN [0]
 intro h1 h2
 have hpw:l.Pairwise (fun a b=>¬BE b a):=q9 sy BE (fun p q h3 h4=>tV p q h3 (by omega) (by omega))
 refine ae h2 ?_
 exact⟨[.row true (a8 l)],.tup [],⟨l,rfl,rfl,eX,hpw⟩,sk (cd:=True) (vs:=[]) rfl trivial rfl trivial rfl rfl rfl⟩
theorem adp (ls ls':List RR) (hn:ls.length<20) (h:Den Tryz.prog 232 [.row true (a8 ls)] [.lsl 0 0 ls.length 2,.int .i64 0,.int .i64 ls.length,fV 158] [.row true (a8 ls')] (.tup [])):
 Den Tryz.prog 199 [.row true (a8 ls)] [.lsl 0 0 ls.length 2,.int .i64 ls.length,fV 158] [.row true (a8 ls')] (.tup []):=by
 obtain⟨n,cZ⟩:=aw ls.length
 rw[cZ] at h hn ⊢
 have e1:decide ((20:Int)<=(n:Int))=false:=sB
 have e2:decide ((20:Int)<(n:Int))=false:=sB
 refine dq Tryz.func199 60 1 ?_
 refine aX ?_
 refine wl (α:=Unit) (fun _=>⟨[.lsl 0 0 n 2,.int .i64 n,fV 158,.any,.any,.any,.int .i64 20,.int .i64 0,.int .i64 20]++replicate 54 .any,[.row true (a8 ls)]⟩)
  (fun _=>0) (fun _=>True) () ?_ trivial ?_
 .exact bN [0]
 rintro⟨⟩ _
 refine b8 e1 ?_
 refine iD 0 h trivial ?_
 simp -dsimp(disch:=omega) only[append_nil,sl4,List.set_cons_zero,jQ]
 refine wl (α:=Unit) (fun _=>⟨[.lsl 0 0 n 2,.int .i64 n,fV 158,.any,.any,.any,.int .i64 20,.int .i64 0,.int .i64 20]++replicate 54 .any,[.row true (a8 ls')]⟩)
  (fun _=>0) (fun _=>True) () ?_ trivial ?_
 .exact bN [0]
 rintro⟨⟩ _
 refine b8 e2 ?_
 exact sk (cd:=True) (vs:=[]) rfl trivial rfl trivial rfl rfl rfl
theorem adq (ls:List RR) (hl: ∀ r∈ls,Ym r) (hn:ls.length<20):
 ∃ ls',ls'.Perm ls/\ls'.Pairwise (fun a b=>¬BE b a)/\Den Tryz.prog 157 [.row true (a8 ls)] [.lsl 0 0 ls.length 2,fV 158] [.row true (a8 ls')] (.tup []):=by
 obtain⟨H1,res,⟨ls',rfl,rfl,hp,hs⟩,h⟩:=ado ls hl (by omega)
 refine⟨ls',hp,hs,?_⟩
 have h2:=adp ls ls' hn h
 obtain⟨n,cZ⟩:=aw ls.length
 rw[cZ] at h2 hn ⊢
 refine dq Tryz.func157 7 1 ?_
 refine aX ?_
 refine iD 0 h2 trivial ?_
 refine ae @append_nil.{0} ?_
 exact sk (cd:=True) (vs:=[]) rfl trivial rfl trivial rfl rfl rfl
end Go.Proofs.YtjjbkjgifdhlcaaGreat
