/- Contracts:sparse:Mul. -/
import Derived.Test.YtjjbkjgifdhlcaaGreatT14
import Derived.Test.YtjjbkjgifdhlcaaGreatT9
import Derived.Test.YtjjbkjgifdhlcaaGreatT13
import Derived.Test.YtjjbkjgifdhlcaaGreatT1
set_option linter.all false
open List (append_assoc append_nil drop_eq_getElem_cons foldl_cons getElem?_set_ne length_cons length_map length_set length_take map_cons mem_cons_of_mem mem_map nodup_range pairwise_cons replicate)
namespace Go.Proofs.YtjjbkjgifdhlcaaGreat
open Go.AM Go.Pl
set_option maxRecDepth 100000
set_option maxHeartbeats 4000000
def o8 (s t:Tm):Tm:=(fe s.1 t.1,s.2*t.2)
theorem H5 {p q:List Tm} {i:Nat} (h:i<p.length):prodT (p.take (i+1)) q=prodT (p.take i) q++q.map (o8 p[i]):=by
 unfold prodT;rw[List.take_add_one,qb h,qyb];simp[o8]
theorem PD {a b:Mn} {E F:Int} (ha: ∀ x∈a,0<=x/\x<=E) (hb: ∀ x∈b,0<=x/\x<=F): ∀ x∈fe a b,0<=x/\x<=E+F:=fun x hx=>by
 obtain⟨i,hi⟩:=List.mem_iff_getElem?.1 hx;unfold fe at hi;rw[List.getElem?_zipWith] at hi;cases h1:a[i]? with
 | none=>rw[h1] at hi;cases hi
 | some u=>
  cases h2:b[i]? with
  | none=>rw[h1,h2] at hi;cases hi
  | some w=>
   rw[h1,h2] at hi;have e:u+w=x:=by simpa using hi
   have:=ha u (List.mem_of_getElem? h1);have:=hb w (List.mem_of_getElem? h2);omega
theorem Tp {j k:Nat} {E F:Int} {p q:List Tm} (hp:LOkT j E p) (hq:LOkT k F q) (hk:1<=j+k):LOkT (j+k) (E+F) (prodT p q):=by
 have key: ∀ t∈prodT p q,∃ u∈p,∃ w∈q,t=o8 u w:=fun t ht=>by
  unfold prodT at ht;obtain⟨u,hu,h2⟩:=List.mem_flatMap.1 ht;obtain⟨w,hw,rfl⟩:=mem_map.1 h2;exact⟨u,hu,w,hw,rfl⟩
 refine⟨Len8.prod hp.len hq.len,fun t ht=>?_,fun t ht=>?_⟩
 .obtain⟨u,hu,w,hw,rfl⟩:=key t ht;exact Bd.mul (hp.bd u hu) (hq.bd w hw) hk
 obtain⟨u,hu,w,hw,rfl⟩:=key t ht;exact PD (hp.exp u hu) (hq.exp w hw)
theorem H6 {q:List Tm} {s:Tm} {j:Nat} (h:j<q.length):(q.take (j+1)).map (o8 s)=(q.take j).map (o8 s)++[o8 s q[j]]:=by
 rw[List.take_add_one,qb h,vw];rfl
theorem E' (f:Nat->Nat): ∀ m:List Int,List.map (reloc1 f) (mC m)=mC m
 | []=>rfl
 | n::m=>by
  have ih:=E' f m;unfold mC at ih ⊢;simp only[map_cons,ih];rfl
theorem ac4 (p q:List Tm) (hp:LOkT 1000000 100000 p) (hq:LOkT 1000000 100000 q) (hn:p.length<=20) (Xl:q.length<=20) (hs:(nf (prodT p q)).length<=bH):
 Den Tryz.prog 142 [] [PL (p.map tn),PL (q.map tn)] [] (PL ((nf (prodT p q)).map tn)):=by
 have G3:=Tp hp hq (by decide)
 have hTs:=G3.ts (by decide)
 have m4:=uI p q
 have dT:p.length*q.length<=20*20:=Nat.mul_le_mul hn Xl
 have wx:=Km ((prodT p q).map tn) (fun t ht=>(hTs t ht).mono (by decide)) (by
  rw[bF];exact PB.terms (n:=400) (j:=2000000) (by decide) G3.bd (by omega) (by decide)) (by rw[length_map];omega) (by rw[bF];exact hs)
 rw[bF] at wx
 obtain⟨R,hR⟩:=ax ((nf (prodT p q)).map tn)
 rw[hR] at wx ⊢
 have rp:=av (p.map tn)
 have rq:=av (q.map tn)
 rw[length_map] at rp rq
 obtain⟨n,cP⟩:=ax p.length
 obtain⟨m,NO⟩:=ax q.length
 have rT:=av ((prodT p q).map tn)
 rw[length_map] at rT
 have tkT:=bO (ts:=(prodT p q).map tn) (n:=(prodT p q).length) (by rw[length_map];omega)
 rw[cP,NO] at m4 dT
 rw[cP] at rp hn
 rw[NO] at rq Xl
 have AU:(n:Int)*(m:Int)=((n*m:Nat):Int):=by simp
 obtain⟨N,hN⟩:=ax (n*m)
 rw[hN] at AU m4 dT
 refine dq Tryz.func142 44 0 ?_
 refine bU (bR rp rq AU) ?_
 repeat refine ag ?_
 refine wl (α:=Nat) (fun i=>⟨[PL (p.map tn),PL (q.map tn),.any,.any,.any,.lsl 0 0 (prodT (p.take i) q).length 11,.any,.any,.any,.any,.any,.any,.any,.any,.any,.any,PL (p.map tn),.int .i64 n,.int .i64 i]++replicate 27 .any,[.row true (aq ((prodT (p.take i) q).map tn))]⟩) (fun i=>n - i) (fun i=>i<=n) 0 ?_ (eB _) ?_
 .refine eS [0] ?_ ?_
  .simp[bk,dV,cC]
   simp[prodT]
  simp[et,fK]
  simp[prodT,aq]
 intro i hi
 refine aY ?_
 refine bS ?_ ?_
 .intro h1 h2
  have dW:i<p.length:=by omega
  have r1:=rZ dW
  have bm:p[i]∈p:=ki dW
  have G5:=hp.len _ bm
  have zZ:=hp.bd _ bm
  have oM:=hp.exp _ bm
  have bM:=H5 (q:=q) dW
  obtain⟨s,ua⟩:=ax (p[i])
  rw[ua] at r1 G5 zZ oM bM
  have Vr:(tn s).1.length=8:=G5
  have s11:=aW Vr
  have sfl:=aK Vr
  have scl:=aG Vr
  have sc8:=dN Vr
  have scf:=dU Vr
  change List.take 3 (List.drop 8 (fM (tn s)))=(cn s.2).c at scf
  change List.take 8 (fM (tn s))=mC s.1 at sc8
  have hO:(prodT (p.take i) q).length<=2500:=by
   rw[uI,length_take];exact gI (Nat.mul_le_mul (Nat.min_le_left _ _) (qp _)) (gI (Nat.mul_le_mul (show i<=50 by omega) (show q.length<=50 by omega)) (by decide))
  obtain⟨O,hOO⟩:=ax (prodT (p.take i) q)
  rw[hOO] at hO bM ⊢
  refine ae (bT h2 r1 s11 @dQ sfl scl rp (aP rq @append_nil.{0})) ?_
  repeat refine ag ?_
  refine wl (α:=Nat) (fun j=>⟨[PL (p.map tn),PL (q.map tn),.any,.any,.any,.lsl 0 0 (O.length+j) 11,.any,.ptr 1 0 0,.any,.any,.any,.any,.any,.any,.any,.any,PL (p.map tn),.int .i64 n,.int .i64 i,.any,.any,.any,PL (q.map tn),.int .i64 m,.int .i64 j]++replicate 21 .any,[.row true (aq ((O++(q.take j).map (o8 s)).map tn)),.box true (fM (tn s))]⟩) (fun j=>m - j) (fun j=>j<=m) 0 ?_ (eB _) ?_
  .refine eS [0,1] ?_ ?_
   .simp[bk,dV,cC]
   simp[et,fK,g6]
  intro j hj
  have ro:=av ((O++(q.take j).map (o8 s)).map tn)
  rw[length_map,qe,length_map,length_take,NO,Nat.min_eq_left hj] at ro
  have tko:=bO (ts:=(O++(q.take j).map (o8 s)).map tn) (n:=O.length+j) (by rw[length_map,qe,length_map,length_take];omega)
  refine aY ?_
  refine bS ?_ ?_
  .intro h3 h4
   have lD:j<q.length:=by omega
   have r2:=rZ lD
   have bm:q[j]∈q:=ki lD
   have hmt:=hq.len _ bm
   have hbt:=hq.bd _ bm
   have het:=hq.exp _ bm
   have tQ:=H6 (s:=s) lD
   obtain⟨t,AR⟩:=ax (q[j])
   rw[AR] at r2 hmt hbt het tQ
   have ht8:(tn t).1.length=8:=hmt
   have Jl:=aW ht8
   have tfl:=aK ht8
   have tcl:=aG ht8
   have tc8:=dN ht8
   have tcf:=dU ht8
   change List.take 3 (List.drop 8 (fM (tn t)))=(cn t.2).c at tcf
   change List.take 8 (fM (tn t))=mC t.1 at tc8
   have aeQ:=ac3 s.1 t.1 G5 hmt (fun x hx=>by have:=oM x hx;omega) (fun x hx=>by have:=het x hx;omega)
   have G4:=OQ (cn s.2) (cn t.2) ((bC zZ).mono (by decide)) ((bC hbt).mono (by decide))
   rw[de,de] at G4
   change Den Tryz.prog 70 [] [.agg (cn s.2).c,.agg (cn t.2).c] [] (.agg (cn (s.2*t.2)).c) at G4
   have cG:=eF ((O++(q.take j).map (o8 s)).map tn) (tn (o8 s t))
   rw[<-o7,append_assoc,<-tQ] at cG
   change _++[iz (fe s.1 t.1,cn (s.2*t.2))]=_ at cG
   have vZ:=g_ G5 hmt
   obtain⟨z,hz⟩:=ax (cn (s.2*t.2))
   rw[hz] at G4 cG
   obtain⟨M,hM⟩:=ax (fe s.1 t.1)
   rw[hM] at aeQ cG vZ
   have h8:((M,z):RT).1.length=8:=vZ
   have ZE:=dt h8
   have clz:=aG h8
   have f11:=aW h8
   have flz:=aK h8
   have ml:=bN M
   rw[vZ] at ml
   have m8:=jN vZ
   have bl:=wK vZ (.fv (.lit (.bool false))) PV.nilsl PV.nilsl
   have pc:=CR vZ (.fv (.lit (.bool false))) PV.nilsl PV.nilsl z
   refine ae (bT h4 r2 Jl @dQ tfl tcl rq @append_nil.{0}) ?_
   repeat refine ag ?_
   refine dw (by kernel_rfl) ?_
   refine ae (eg sc8 tc8 scl tcl) ?_
   repeat refine ag ?_
   refine gp aeQ (by simp[cw,gW,nu,jn]) ?_
   refine ae (fw scf tcf scl tcl @E' @oZ @append_nil.{0}) ?_
   repeat refine ag ?_
   refine zq G4 ?_
   refine ae (bT @gj @dP @cJ ml bl pc clz (fw f11 @dm @dD ro tko cG @append_nil.{0})) ?_
   repeat refine ag ?_
   refine aw (j+1) ?_ (by omega)
   refine eS [4,1] ?_ ?_
   .simp[bk,dV,cC]
    omega
   simp[et,fK,g6]
  intro h3 h4
  have hjm:q.take j=q:=eo (by omega)
  have hjj:j=m:=by omega
  subst hjj
  rw[hjm,<-bM]
  refine ae h4 ?_
  refine aw (i+1) ?_ (by omega)
  rw[bM,qe,length_map,NO,<-bM]
  exact bQ [0]
 intro h1 h2
 have gF:i=n:=by omega
 subst gF
 have Oj:p.take i=p:=eo (by omega)
 rw[Oj]
 refine ae h2 ?_
 refine gp wx (by simp[cw,gW,fS,fB,tkT,rT]) ?_
 refine ba ?_
 refine bj rfl
theorem Mr {v:Nat} {p:List Tm} {i:Nat} (h:i<p.length):lL v (p.take (i+1))=max (lL v (p.take i)) (p[i].1.getD v 0):=by
 rw[List.take_add_one,qb h];exact L6
theorem ac5 (p:List Tm) (v:Nat) (hv:v<8) (hl:Len8 p) (hn:p.length<=10000):Den Tryz.prog 187 [] [PL (p.map tn),.int .i64 v] [] (.int .i64 (lL v p)):=by
 have rp:=av (p.map tn);rw[length_map] at rp;obtain⟨n,cP⟩:=ax p.length;rw[cP] at rp hn;refine dq Tryz.func187 20 0 ?_;refine bU rp ?_;refine wl (α:=Nat) (fun i=>⟨[PL (p.map tn),.int .i64 v,.any,.any,.any,.int .i64 (lL v (p.take i)),.any,.any,PL (p.map tn),.int .i64 n,.int .i64 i]++replicate 11 .any,[]⟩) (fun i=>n - i) (fun i=>i<=n) 0 ?_ (eB _) ?_
 .refine eS [] ?_ ?_
  .simp[bk,dV,cC];rfl
  simp[et]
 intro i hi;refine aY ?_;refine bS ?_ ?_
 .intro h1 h2;have dW:i<p.length:=by omega
  have r1:=rZ dW;have hm:=hl _ (ki dW);have hd:=Mr (v:=v) dW;obtain⟨t,ht⟩:=ax (p[i]);rw[ht] at r1 hm hd;have h8:(tn t).1.length=8:=hm;have f11:=aW h8;have fl:=aK h8;have cl:=aG h8;have gG:=uM (t:=tn t) (i:=v) hv h8;change List.take 1 (List.drop v (fM (tn t)))=[PV.int .i64 (t.1.getD v 0)] at gG;refine ae (bT h2 r1 f11 @dQ fl cl rp (bR gG @Nat.mul_one @append_nil.{0})) ?_
  repeat refine ag ?_
  refine aw (i+1) ?_ (by omega);rw[hd];refine eS [] ?_ ?_
  .simp[bk,dV,cC];split<;>omega
  simp[et]
 intro h1 h2;have Oj:p.take i=p:=eo (by omega);rw[Oj];refine ae h2 ?_;refine bj rfl
abbrev WK (c:List Tm):PV:= .fv (.sl (aq (c.map tn)))
def WL (cs:List (List Tm)):PV:= .fv (.sl (cs.map fun c=>[FV.sl (aq (c.map tn))]))
def fN (v D:Nat) (p:List Tm):List PV:=(List.range D).map (fun d:Nat=>PV.lsl (d+1) 0 (bn v (d:Int) p).length 11)
def tc (v D:Nat) (p:List Tm):List Ob:=(List.range D).map (fun d:Nat=>Ob.row true (aq ((bn v (d:Int) p).map tn)))
def HC (v D:Nat) (p:List Tm):List Ob:= .box true (fN v D p)::tc v D p
theorem cY (v D:Nat) (p:List Tm):(fN v D p).length=D:=by simp[fN]
theorem te (v D:Nat) (p:List Tm):(tc v D p).length=D:=by simp[tc]
theorem fH (v D:Nat) (p:List Tm):(HC v D p).length=D+1:=by simp[HC,te]
theorem i4 {v D d:Nat} {p:List Tm} (h:d<D):(fN v D p)[d]?=some (.lsl (d+1) 0 (bn v (d:Int) p).length 11):=by
 unfold fN;rw[List.getElem?_map,List.getElem?_range h];rfl
theorem xQ {v D d:Nat} {p:List Tm} (h:d<D):(tc v D p)[d]?=some (.row true (aq ((bn v (d:Int) p).map tn))):=by
 unfold tc;rw[List.getElem?_map,List.getElem?_range h];rfl
theorem ahH (v D:Nat) (p:List Tm) (l:List Ob):(HC v D p++l)[0]?=some (.box true (fN v D p)):=rfl
theorem H7 {v D d:Nat} {p:List Tm} (h:d<D) (l:List Ob):(HC v D p++l)[d+1]?=some (.row true (aq ((bn v (d:Int) p).map tn))):=by
 show(tc v D p++l)[d]?=_;rw[qi (by rw[te];exact h)];exact xQ h
theorem ac6 (v D:Nat) (p:List Tm) (d:Nat) (a b c:Ob):((HC v D p++[a,b]).set (d+1) Ob.dead++[c])[0]?=some (.box true (fN v D p)):=rfl
theorem H8 (H:List Ob) (a b:Ob):pE (H++[a]) (H++[a,b]):=⟨[b],by simp⟩
theorem Fa {α:Type} {l:List α} {i:Nat} {x:α} (h:l[i]?=some x):List.take 1 (List.drop i l)=[x]:=by
 obtain⟨hl,rfl⟩:=List.getElem?_eq_some_iff.1 h;rw[drop_eq_getElem_cons hl];rfl
theorem H9 {H0:List Ob} {L:Nat} (h:H0.length=L) (x:Ob):(H0++[x])[L]?=some x:=by subst h;simp
theorem Tq {H0:List Ob} {L:Nat} (h:H0.length=L) (x y:Ob):(H0++[x,y])[L+1]?=some y:=by subst h;simp
theorem Tr {H0:List Ob} {L:Nat} (h:H0.length=L) (x y:Ob):(H0++[x]).set L y=H0++[y]:=by subst h;simp
def o9 (D d:Nat):List Nat:=0::(List.range D).map (fun k=>if k=d then D+1+2 else k+1)
theorem Fb {D d:Nat} (h:d<D):(o9 D d).Nodup:=by
 unfold o9;rw[List.nodup_cons];constructor
 .intro h0;obtain⟨k,_,hk⟩:=mem_map.1 h0;split at hk<;>omega
 unfold List.Nodup;rw[List.pairwise_map];refine(List.Pairwise.and_mem.1 nodup_range).imp ?_;rintro a b ⟨ha,hb,vo⟩;have:=List.mem_range.1 ha;have:=List.mem_range.1 hb;have cX:a≠b:=vo;split<;>split<;>omega
theorem xR {D d k:Nat} (h:k<D):(o9 D d)[k+1]?=some (if k=d then D+1+2 else k+1):=by
 unfold o9;rw[List.getElem?_cons_succ,List.getElem?_map,List.getElem?_range h];rfl
theorem Ms (D d:Nat):(o9 D d).length=D+1:=by simp[o9]
theorem PE {v D d:Nat} {p Q:List Tm} {t:Tm} {a b:Ob} (hdD:d<D) (hd:t.1.getD v 0=(d:Int)) (hQ:bn v (d:Int) p++[(t.1.set v 0,t.2)]=Q):
 et (o9 D d) (((HC v D p++[a,b]).set (d+1) Ob.dead++[Ob.row true (aq (Q.map tn))]).set 0 (Ob.box true (List.take d (fN v D p)++PV.lsl (D+1+2) 0 ((bn v (d:Int) p).length+1) 11::List.drop (d+1) (fN v D p)))) (o9 D d) (HC v D (p++[t])):=by
 have bc:List.take d (fN v D p)++PV.lsl (D+1+2) 0 ((bn v (d:Int) p).length+1) 11::List.drop (d+1) (fN v D p)=(fN v D p).set d (PV.lsl (D+1+2) 0 ((bn v (d:Int) p).length+1) 11):=by
  rw[List.set_eq_take_append_cons_drop,if_pos (by rw[cY];exact hdD)]
 rw[bc]
 have ez: ∀ k:Nat,bn v (k:Int) (p++[t])=if k=d then Q else bn v (k:Int) p:=fun k=>by
  rw[HK,hd];by_cases hk:k=d
  .subst hk;rw[if_pos rfl,if_pos rfl,hQ]
  rw[if_neg (by omega),if_neg hk]
 have hQl:Q.length=(bn v (d:Int) p).length+1:=by rw[<-hQ,qe];rfl
 refine zp (by rw[Ms,fH]) fun i k o' hk ho=>?_
 cases i with
 | zero=>
  unfold o9 at hk;simp only[List.getElem?_cons_zero,qo] at hk;subst hk;unfold HC at ho;simp only[List.getElem?_cons_zero,qo] at ho;subst ho;refine⟨_,rfl,rfl,nW (by rw[length_set,cY,cY]) fun j x y hx hy=>?_⟩;have hj:j<D:=by
   have:=(List.getElem?_eq_some_iff.1 hy).1;rwa [cY] at this
  rw[i4 hj,ez] at hy;cases hy;by_cases Vs:d=j
  .subst Vs;rw[qv (by rw[cY];exact hj)] at hx;cases hx;rw[if_pos rfl,hQl];exact⟨by rw[xR hj,if_pos rfl],rfl,rfl,rfl⟩
  .rw[getElem?_set_ne Vs,i4 hj] at hx;cases hx;rw[if_neg (fun e=>Vs e.symm)];exact⟨by rw[xR hj,if_neg (fun e=>Vs e.symm)],rfl,rfl,rfl⟩
 | succ j=>
  have hj:j<D:=by
   have:=(List.getElem?_eq_some_iff.1 ho).1;rw[fH] at this;omega
  rw[xR hj] at hk;cases hk;have gw:(tc v D (p++[t]))[j]?=some o':=ho;rw[xQ hj,ez] at gw;cases gw;by_cases Vs:j=d
  .rw[if_pos Vs,if_pos Vs];refine⟨Ob.row true (aq (Q.map tn)),?_,rfl,rfl⟩;rw[getElem?_set_ne (by omega),qh (by rw[length_set,qe,fH];simp),length_set,qe,fH];simp
  rw[if_neg Vs,if_neg Vs];refine⟨Ob.row true (aq ((bn v (j:Int) p).map tn)),?_,rfl,rfl⟩;rw[getElem?_set_ne (by omega),qi (by rw[length_set,qe,fH];omega),getElem?_set_ne (by omega)];exact H7 hj _
theorem Ts (D d:Nat):(o9 D d)[0]?=some 0:=rfl
theorem Tt (v D:Nat) (p:List Tm):et (List.range (D+1)) (HC v D p) (List.range (D+1)) (HC v D p):=by
 refine zp (by rw[List.length_range,fH]) fun i k o hk ho=>?_
 have hi:i<D+1:=by
  have:=(List.getElem?_eq_some_iff.1 ho).1;rwa [fH] at this
 rw[List.getElem?_range hi] at hk;cases hk;refine⟨o,ho,?_⟩;cases i with
 | zero=>
  cases ho;refine⟨rfl,nW rfl fun j x y hx hy=>?_⟩;have hj:j<D:=by
   have:=(List.getElem?_eq_some_iff.1 hy).1;rwa [cY] at this
  rw[i4 hj] at hx hy;cases hx;cases hy;exact⟨List.getElem?_range (by omega),rfl,rfl,rfl⟩
 | succ j=>
  have gw:(tc v D p)[j]?=some o:=ho;rw[xQ (by omega)] at gw;cases gw;exact⟨rfl,rfl⟩
def xS (v D:Nat) (p:List Tm) (k:Nat):List Ob:=(List.range D).map (fun d:Nat=>Ob.row (decide (k<=d)) (aq ((bn v (d:Int) p).map tn)))
def k4 (v D:Nat) (p:List Tm) (k:Nat):List PV:=(List.range D).map (fun d:Nat=>WK (if d<k then bn v (d:Int) p else []))
def HS (v D:Nat) (p:List Tm) (k:Nat):List Ob:=(.box true (fN v D p)::xS v D p k)++[.box true (k4 v D p k)]
theorem jS (v D:Nat) (p:List Tm) (k:Nat):(xS v D p k).length=D:=by simp[xS]
theorem eW (v D:Nat) (p:List Tm) (k:Nat):(k4 v D p k).length=D:=by simp[k4]
theorem j_ (v D:Nat) (p:List Tm) (k:Nat):(HS v D p k).length=D+2:=by simp[HS,jS]
theorem PF {v D d:Nat} {p:List Tm} {k:Nat} (h:d<D):(xS v D p k)[d]?=some (.row (decide (k<=d)) (aq ((bn v (d:Int) p).map tn))):=by
 unfold xS;rw[List.getElem?_map,List.getElem?_range h];rfl
theorem CT {v D d:Nat} {p:List Tm} {k:Nat} (h:d<D):(k4 v D p k)[d]?=some (WK (if d<k then bn v (d:Int) p else [])):=by
 unfold k4;rw[List.getElem?_map,List.getElem?_range h];rfl
theorem ahI (v D:Nat) (p:List Tm) (k:Nat):(HS v D p k)[0]?=some (.box true (fN v D p)):=rfl
theorem xT {v D d:Nat} {p:List Tm} {k:Nat} (h:d<D):(HS v D p k)[d+1]?=some (.row (decide (k<=d)) (aq ((bn v (d:Int) p).map tn))):=by
 show(xS v D p k++_)[d]?=_;rw[qi (by rw[jS];exact h)];exact PF h
theorem CU (v D:Nat) (p:List Tm) (k:Nat):(HS v D p k)[D+1]?=some (.box true (k4 v D p k)):=by
 show(xS v D p k++_)[D]?=_;rw[qh (by rw[jS];omega),jS,Nat.sub_self];rfl
theorem H_ {l:List Ob} {i j:Nat} (h:i≠j):(l.modify i Ob.ro)[j]?=l[j]?:=by
 rw[List.getElem?_modify];simp only[if_neg h];cases l[j]?<;>rfl
theorem Kr {v D k:Nat} {p:List Tm} (hk:k<D):et (List.range (D+2)) (((HS v D p k).modify (k+1) Ob.ro).set (D+1) (Ob.box true (List.take k (k4 v D p k)++WK (bn v (k:Int) p)::List.drop (k+1) (k4 v D p k)))) (List.range (D+2)) (HS v D p (k+1)):=by
 have bc:List.take k (k4 v D p k)++WK (bn v (k:Int) p)::List.drop (k+1) (k4 v D p k)=(k4 v D p k).set k (WK (bn v (k:Int) p)):=by
  rw[List.set_eq_take_append_cons_drop,if_pos (by rw[eW];exact hk)]
 rw[bc];refine zp (by rw[List.length_range,j_]) fun i j o hj ho=>?_
 have hi:i<D+2:=by
  have:=(List.getElem?_eq_some_iff.1 ho).1;rwa [j_] at this
 rw[List.getElem?_range hi] at hj;cases hj;by_cases hiD:i=D+1
 .subst hiD;rw[CU] at ho;cases ho;refine⟨_,qv (by rw[List.length_modify,j_];omega),rfl,nW (by rw[length_set,eW,eW]) fun j x y hx hy=>?_⟩;have hj:j<D:=by
   have:=(List.getElem?_eq_some_iff.1 hy).1;rwa [eW] at this
  rw[CT hj] at hy;cases hy;by_cases RJ:k=j
  .subst RJ;rw[qv (by rw[eW];exact hj)] at hx;cases hx;rw[if_pos (by omega)];rfl
  rw[getElem?_set_ne RJ,CT hj] at hx;cases hx;by_cases aH:j<k
  .rw[if_pos aH,if_pos (by omega)];rfl
  rw[if_neg aH,if_neg (by omega)];rfl
 cases i with
 | zero=>
  cases ho;refine⟨.box true (fN v D p),?_,rfl,nW rfl fun j x y hx hy=>?_⟩
  .rw[getElem?_set_ne (by omega),H_ (by omega)];rfl
  .have hj:j<D:=by
    have:=(List.getElem?_eq_some_iff.1 hy).1;rwa [cY] at this
   rw[i4 hj] at hx hy;cases hx;cases hy;exact⟨List.getElem?_range (by omega),rfl,rfl,rfl⟩
 | succ j=>
  have hj:j<D:=by omega
  rw[xT hj] at ho;cases ho;by_cases RJ:k=j
  .subst RJ;refine⟨Ob.row false (aq ((bn v (k:Int) p).map tn)),?_,?_,rfl⟩
   .rw[getElem?_set_ne (by omega),List.getElem?_modify_eq,xT hj];rfl
   rw[m5 (by omega)]
  refine⟨Ob.row (decide (k<=j)) (aq ((bn v (j:Int) p).map tn)),?_,?_,rfl⟩
  .rw[getElem?_set_ne (by omega),H_ (by omega),xT hj]
  by_cases h9:k<=j
  .rw[ir h9,ir (by omega)]
  rw[m5 h9,m5 (by omega)]
theorem Fc {v D:Nat} {p:List Tm}:et (List.range (D+2)) (HC v D p++[Ob.box true (replicate D PV.nilsl)]) (List.range (D+2)) (HS v D p 0):=by
 refine zp (by rw[List.length_range,j_]) fun i j o hj ho=>?_
 have hi:i<D+2:=by
  have:=(List.getElem?_eq_some_iff.1 ho).1;rwa [j_] at this
 rw[List.getElem?_range hi] at hj;cases hj;by_cases hiD:i=D+1
 .subst hiD;rw[CU] at ho;cases ho;refine⟨_,H9 (fH v D p) _,rfl,nW (by rw[qib,eW]) fun j x y hx hy=>?_⟩;have hj:j<D:=by
   have:=(List.getElem?_eq_some_iff.1 hy).1;rwa [eW] at this
  rw[CT hj,if_neg (by omega)] at hy;cases hy;rw[List.getElem?_replicate,if_pos hj] at hx;cases hx;exact trivial
 cases i with
 | zero=>
  cases ho;refine⟨.box true (fN v D p),rfl,rfl,nW rfl fun j x y hx hy=>?_⟩;have hj:j<D:=by
   have:=(List.getElem?_eq_some_iff.1 hy).1;rwa [cY] at this
  rw[i4 hj] at hx hy;cases hx;cases hy;exact⟨List.getElem?_range (by omega),rfl,rfl,rfl⟩
 | succ j=>
  have hj:j<D:=by omega
  rw[xT hj] at ho;cases ho;exact⟨_,H7 hj _,by rw[ir (eB _)],rfl⟩
theorem Tu {k:Nat} {E:Int} {p:List Tm} {v:Nat} {d:Int} (h:POk k E p) (hE:0<=E):POk k E (bn v d p):=by
 refine⟨oX h.canon,fun t ht=>?_,fun t ht e he=>?_⟩
 all_goals
  unfold bn at ht;obtain⟨u,hu,rfl⟩:=mem_map.1 ht;have w5:=(List.mem_filter.1 hu).1
 .exact h.bd u w5
 rcases List.mem_or_eq_of_mem_set he with h1 | h1
 .exact h.exp u w5 e h1
 omega
theorem Fe (H:List Ob) (f:Nat->List Tm): ∀ l:List Nat,lJ H (l.map (fun d=>WK (f d)))=some (l.map (fun d=>FV.sl (aq ((f d).map tn))))
 | []=>rfl
 | d::l=>by
  rw[map_cons,map_cons,lJ,Fe H f l];rfl
def Ff (D:Nat) (x:PV) (y:PV):List PV:=[.any,.any,.any,.any,.any,.any,.any,.any,.any,x]++replicate 34 .any++[y,.int .i64 D,.int .i64 D]++replicate 11 .any
theorem BJ {v D:Nat} {p:List Tm} (hD:lL v p+1=(D:Int)):Weak 0 ⟨Ff D (.lsl (D+1) 0 D 1) (.lsl 0 0 D 1),HS v D p D⟩ ⟨Ff D (WL (eE v p)) .any,[]⟩:=by
 have co:=CU v D p D;have hl:=j_ v D p D;have e:k4 v D p D=(List.range D).map (fun d:Nat=>WK (bn v (d:Int) p)):=by
  unfold k4;refine List.map_congr_left fun d hd=>?_
  rw[if_pos (List.mem_range.1 hd)]
 rw[e] at co;obtain⟨HH,Ol⟩:=ax (HS v D p D);rw[Ol] at co hl ⊢;refine Weak.shut [D+1] ?_;show Weak 0 ⟨Ff D (.lsl (D+1) 0 D 1) (.lsl 0 0 D 1),HH.modify (D+1) Ob.ro⟩ _;refine Weak.fzb 9 (D+1) D ((List.range D).map (fun d:Nat=>WK (bn v (d:Int) p))) ((List.range D).map (fun d:Nat=>FV.sl (aq ((bn v (d:Int) p).map tn)))) rfl ?_ (by simp) (Fe _ (fun d:Nat=>bn v (d:Int) p) _) ?_ ?_
 .rw[List.getElem?_modify_eq,co];rfl
 .intro k hk;obtain⟨c,hc,iQ⟩:=List.mem_flatMap.1 hk;obtain⟨d,_,rfl⟩:=mem_map.1 hc;simp[eZ] at iQ
 have e2:(PV.fv (.sl (((List.range D).map (fun d:Nat=>FV.sl (aq ((bn v (d:Int) p).map tn)))).map fun x=>[x])))=WL (eE v p):=by
  unfold WL eE;rw[hD,Int.toNat_natCast,List.map_map,List.map_map];rfl
 rw[e2];refine wk [] (by simp) rfl ?_ trivial;show bk [] _ _;unfold WL Ff;simp[bk,dV,cC]
theorem ac7 (p:List Tm) (v:Nat) (hv:v<8) (hp:POk 10000000 2000 p) (hn:p.length<=50) (hs:p.length<=bH):
 Den Tryz.prog 141 [] [PL (p.map tn),.int .i64 v] [] (WL (eE v p)):=by
 have aeS:=ac5 p v hv hp.canon.len (by omega)
 have Ny:=wE (v:=v) (p:=p)
 have Lz:lL v p<=2000:=CL (by decide) (fun t ht=>(hp.at (by decide) v t ht).2)
 obtain⟨D,hD⟩: ∃ D:Nat,lL v p+1=(D:Int):=⟨(lL v p+1).toNat,by omega⟩
 have hDl:D<=2001:=by omega
 have rp:=av (p.map tn)
 rw[length_map] at rp
 obtain⟨n,cP⟩:=ax p.length
 rw[cP] at rp hn
 obtain⟨g,hg⟩:=ax (lL v p)
 rw[hg] at aeS hD
 refine dq Tryz.func141 56 0 ?_
 refine aY ?_
 refine aV aeS ?_
 simp -dsimp(disch:=omega) only[hD,rp,Int.toNat_natCast,↓reduceIte,ru]
 repeat refine ag ?_
 refine wl (α:=Nat) (fun i=>⟨[PL (p.map tn),.int .i64 v,.any,.any,.any,.lsl 0 0 D 1,.any,.any,.any,.any,.any,.any,.any,.any,.any,.any,.any,PL (p.map tn),.int .i64 n,.int .i64 i]++replicate 38 .any,HC v D (p.take i)⟩) (fun i=>n - i) (fun i=>i<=n) 0 ?_ (eB _) ?_
 .refine Weak.nilcs 11 true (by decide) D [] _ [] rfl ?_
  have e:(Ob.box true ([]++(List.range D).map (fun i=>PV.lsl (([]:List Ob).length+1+i) 0 0 11))::[]++replicate D (Ob.row true []))=HC v D (p.take 0):=by
   unfold HC;show _::_=_::_;congr 1
   .unfold fN;show Ob.box true (List.map _ _)=_;congr 1;refine List.map_congr_left fun d _=>?_
    show PV.lsl (0+1+d) 0 0 11=PV.lsl (d+1) 0 0 11;congr 1;omega
   unfold tc;show replicate D _=_;symm;rw[List.eq_replicate_iff];refine⟨by simp,fun o ho=>?_⟩;obtain⟨d,_,rfl⟩:=mem_map.1 ho;rfl
  rw[e]
  refine wk (List.range (D+1)) nodup_range rfl ?_ (Tt v D _)
  simp[bk,dV,cC]
 intro i hi
 have cl:=cY v D (p.take i)
 refine aY ?_
 refine bS ?_ ?_
 .intro h1 h2
  have dW:i<p.length:=by omega
  have r1:=rZ dW
  have bm:p[i]∈p:=ki dW
  have hm:=hp.canon.len _ bm
  have gG:=hp.at (by decide) v _ bm
  have aji:=J9 (v:=v) bm
  have gv:p.take (i+1)=p.take i++[p[i]]:=by rw[List.take_add_one,qb dW];rfl
  obtain⟨t,ht⟩:=ax (p[i])
  rw[ht] at r1 hm gG aji gv
  obtain⟨d,hd⟩: ∃ d:Nat,t.1.getD v 0=(d:Int):=⟨(t.1.getD v 0).toNat,by omega⟩
  have hdD:d<D:=by omega
  have ca:=Fa (i4 (v:=v) (p:=p.take i) hdD)
  have h8:(tn t).1.length=8:=hm
  have f11:=aW h8
  have fl:=aK h8
  have tcl:=aG h8
  have tat:=uM (t:=tn t) (i:=v) hv h8
  change List.take 1 (List.drop v (fM (tn t)))=[PV.int .i64 (t.1.getD v 0)] at tat
  rw[hd] at tat
  have bX:=p9 (t:=tn t) (i:=v) (x:=0) hv h8
  change List.take v (fM (tn t))++[PV.int IntKind.i64 0]++List.drop (v+1) (fM (tn t))=fM (tn (t.1.set v 0,t.2)) at bX
  have h8z:(tn (t.1.set v 0,t.2)).1.length=8:=by simp[tn,hm]
  obtain⟨u,hu⟩:=ax (tn (t.1.set v 0,t.2))
  have cG:=eF ((bn v (d:Int) (p.take i)).map tn) (tn (t.1.set v 0,t.2))
  rw[<-o7] at cG
  obtain⟨Q,hQ⟩:=ax (bn v (d:Int) (p.take i)++[(t.1.set v 0,t.2)])
  have m4:(bn v (d:Int) (p.take i)).length<=i:=by
   have:=Bp (v:=v) (d:=(d:Int)) (p:=p.take i);rw[length_take] at this;omega
  have ro:=av ((bn v (d:Int) (p.take i)).map tn)
  rw[length_map] at ro
  have hQl:Q.length=(bn v (d:Int) (p.take i)).length+1:=by rw[<-hQ,qe];rfl
  have tko:=bO (ts:=(bn v (d:Int) (p.take i)).map tn) (n:=(bn v (d:Int) (p.take i)).length) (by rw[length_map];omega)
  have DQ:=H7 (v:=v) (p:=p.take i) hdD
  have h0:=ahH v D (p.take i)
  have hL:=fH v D (p.take i)
  have NK:=ac6 v D (p.take i) d
  rw[hQ] at cG
  rw[hu] at bX h8z cG
  obtain⟨O,hO⟩:=ax (bn v (d:Int) (p.take i))
  rw[hO] at ca cG m4 ro hQl DQ tko
  obtain⟨CC,hCC⟩:=ax (fN v D (p.take i))
  rw[hCC] at ca cl h0 NK
  obtain⟨HH,Ol⟩:=ax (HC v D (p.take i))
  rw[Ol] at DQ h0 NK hL ⊢
  have u11:=dt h8z
  have ul:=aG h8z
  have ajj:=aW h8z
  have ufl:=aK h8z
  have DH:(D+1+1==d+1)=false:=by rw[qx];omega
  simp -dsimp(disch:=omega) only[h2,r1,f11,dQ,fl,tcl,rp,tat,bX,Nat.mul_one,append_nil,hL,H9 hL,Tr hL,↓reduceIte,Nat.reduceAdd,Nat.reduceLT,Nat.reduceLeDiff,ru]
  repeat refine ag ?_
  refine dw (by kernel_rfl) ?_
  simp -dsimp(disch:=omega) only[h0,ca,cl,u11,ul,ajj,dm,dD,ro,tko,cG,DQ,append_nil,hL,H9 hL,Tq hL,DH,qe,length_cons,List.length_nil,append_assoc,↓reduceIte,Nat.reduceAdd,Nat.reduceMul,Nat.reduceLT,Nat.reduceLeDiff,ru]
  repeat refine ag ?_
  refine⟨H8 _ _ _,?_⟩
  repeat refine ag ?_
  refine ae (aP NK cl) ?_
  repeat refine ag ?_
  refine aw (i+1) ?_ (by omega)
  refine wk (o9 D d) (Fb hdD) rfl ?_ ?_
  .simp[bk,dV,cC]
   exact Ts D d
  rw[<-Ol,<-hCC,<-hO,gv]
  exact PE hdD hd (by rw[hQ])
 intro h1 h2
 have Oj:p.take i=p:=eo (by omega)
 rw[Oj]
 have hL:=fH v D p
 obtain⟨HH,Ol⟩:=ax (HC v D p)
 rw[Ol] at hL ⊢
 simp -dsimp(disch:=omega) only[h2,hL,Int.toNat_natCast,↓reduceIte,Nat.reduceBEq,ru]
 repeat refine ag ?_
 refine wl (α:=Nat) (fun k=>if k=D then⟨Ff D (WL (eE v p)) .any,[]⟩ else⟨[.any,.any,.any,.any,.any,.any,.any,.any,.any,.lsl (D+1) 0 D 1]++replicate 34 .any++[.lsl 0 0 D 1,.int .i64 D,.int .i64 k]++replicate 11 .any,HS v D p k⟩) (fun k=>D - k) (fun k=>k<=D) 0 ?_ (eB _) ?_
 .by_cases ZL:0=D
  .rw[if_pos ZL]
   have wd:=BJ (v:=v) (p:=p) (D:=D) (by rw[hg];exact hD)
   refine Weak.trans ?_ wd
   subst ZL
   refine wk (List.range (0+2)) nodup_range rfl ?_ ?_
   .unfold Ff
    simp[bk,dV,cC]
   rw[<-Ol]
   exact Fc
  rw[if_neg ZL]
  refine wk (List.range (D+2)) nodup_range rfl ?_ ?_
  .simp[bk,dV,cC]
  rw[<-Ol]
  exact Fc
 intro k hk
 by_cases Xm:k=D
 .rw[if_pos Xm]
  subst Xm
  unfold Ff
  have h4:decide ((k:Int)<(k:Int))=false:=sA
  refine bU h4 ?_
  refine bj ?_
  unfold WL
  rfl
 rw[if_neg Xm]
 have Xm:k<D:=by omega
 have h4:decide ((k:Int)<(D:Int))=true:=GV
 refine aY ?_
 have ca:=Fa (i4 (v:=v) (p:=p) Xm)
 have c0:=ahI v D p k
 have cr:=xT (v:=v) (p:=p) (k:=k) Xm
 have co:=CU v D p k
 have cl:=cY v D p
 have ol:=eW v D p k
 obtain⟨HH,Ol⟩:=ax (HS v D p k)
 rw[Ol] at c0 cr co ⊢
 have hpo:=Tu (v:=v) (d:=(k:Int)) hp (by decide)
 have m4:(bn v (k:Int) p).length<=n:=by
  have:=Bp (v:=v) (d:=(k:Int)) (p:=p);omega
 have wx:=Km ((bn v (k:Int) p).map tn) (fun t ht=>((hpo.ts (by decide)) t ht).mono (by decide)) (by
  rw[bF];exact PB.terms (n:=50) (j:=10000000) (by decide) hpo.bd (by omega) (by decide)) (by rw[length_map];omega) (by rw[bF,e_ hpo.canon];omega)
 rw[bF,e_ hpo.canon] at wx
 have rt:=av ((bn v (k:Int) p).map tn)
 rw[length_map] at rt
 have tk:=bO (ts:=(bn v (k:Int) p).map tn) (n:=(bn v (k:Int) p).length) (by rw[length_map];omega)
 refine ae (eg h4 c0 ca cl) ?_
 repeat refine ag ?_
 refine gp wx (by simp[cw,gW,fS,fB,cr,tk,rt]) ?_
 have cm:(HH.modify (k+1) Ob.ro)[D+1]?=some (.box true (k4 v D p k)):=by
  rw[H_ (by omega)];exact co
 refine ae (bR cm ol @append_nil.{0}) ?_
 repeat refine ag ?_
 refine aw (k+1) ?_ (by omega)
 by_cases jG:k+1=D
 .rw[if_pos jG]
  refine Weak.trans ?_ (BJ (v:=v) (p:=p) (D:=D) (by rw[hg];exact hD))
  refine wk (List.range (D+2)) nodup_range rfl ?_ ?_
  .unfold Ff
   simp[bk,dV,cC]
   omega
  rw[<-Ol,append_assoc]
  have e8:HS v D p D=HS v D p (k+1):=by rw[jG]
  rw[e8]
  exact Kr Xm
 rw[if_neg jG]
 refine wk (List.range (D+2)) nodup_range rfl ?_ ?_
 .simp[bk,dV,cC]
 rw[<-Ol,append_assoc]
 exact Kr Xm
structure Ks (q:List Tm) (cs:List (List Tm)):Prop where
 out: ∀ i,LOkT 1000000 100000 (hornT q (cs.drop i))/\(hornT q (cs.drop i)).length<=bH
 prod: ∀ i,LOkT 1000000 100000 (nf (prodT (hornT q (cs.drop i)) q))/\(nf (prodT (hornT q (cs.drop i)) q)).length<=bH
 part: ∀ c∈cs,LOkT 1000000 100000 c/\c.length<=bH
theorem kC:bH<=20:=by decide
theorem X_ {cs:List (List Tm)} {i:Nat} (h:i<cs.length):(cs.map fun c=>[FV.sl (aq (c.map tn))]).getD i []=[FV.sl (aq (cs[i].map tn))]:=by
 rw[qa,List.getElem?_map,qb h];rfl
theorem ac8 (p q:List Tm) (v:Nat) (hv:v<8) (hp:POk 1000000 2000 p) (hq:LOkT 1000000 100000 q) (hn:p.length<=20) (hs:p.length<=bH) (hqs:q.length<=bH) (bg:Ks q (eE v p)):
 Den Tryz.prog 86 [] [PL (p.map tn),.int .i64 v,PL (q.map tn)] [] (PL ((ff v q p).map tn)):=by
 have Vu:=ac7 p v hv (hp.mono (by decide) (by decide)) (by omega) hs
 have hm:=kC
 have Ny:=wE (v:=v) (p:=p)
 have Lz:lL v p<=2000:=CL (by decide) (fun t ht=>(hp.at (by decide) v t ht).2)
 have fC:=xz v p
 unfold ff
 obtain⟨cs,eR⟩:=ax (eE v p)
 rw[eR] at Vu bg fC ⊢
 obtain⟨D,hD⟩:=ax cs.length
 have hDl:D<=2001:=by omega
 have lB:(cs.map fun c=>[FV.sl (aq (c.map tn))]).length=D:=by rw[length_map,hD]
 unfold WL at Vu
 obtain⟨X,hX⟩:=Hg ((cs.map fun c=>[FV.sl (aq (c.map tn))]))
 have DQ: ∀ i,(h:i<cs.length)->X.getD i []=[FV.sl (aq (cs[i].map tn))]:=fun i h=>by rw[<-hX];exact X_ h
 rw[hX] at Vu lB
 refine dq Tryz.func86 26 0 ?_
 refine aY ?_
 refine aV Vu ?_
 refine ae lB ?_
 refine wl (α:=Nat) (fun i=>⟨[.any,.any,PL (q.map tn),.any,.any,.any,.any,.fv (.sl X),PL ((hornT q (cs.drop i)).map tn),.int .i64 ((i:Int) - 1)]++replicate 19 .any,[]⟩) (fun i=>i) (fun i=>i<=D) D ?_ (qp _) ?_
 .refine eS [] ?_ ?_
  .rw[List.drop_of_length_le (by omega)]
   simp[bk,dV,cC]
   exact trivial
  simp[et]
 intro i hi
 refine aY ?_
 refine bS ?_ ?_
 .intro h1 h2
  obtain⟨j,rfl⟩: ∃ j,i=j+1:=⟨i - 1,by omega⟩
  have e1:(((j+1:Nat):Int) - 1)=(j:Int):=by omega
  have lD:j<cs.length:=by omega
  have hr:=DQ j lD
  obtain⟨o1,o2⟩:=bg.out (j+1)
  obtain⟨p1,p2⟩:=bg.prod (j+1)
  obtain⟨c1,c2⟩:=bg.part _ (ki lD)
  have AV:hornT q (cs.drop j)=nf (nf (prodT (hornT q (cs.drop (j+1))) q)++cs[j]):=by
   rw[drop_eq_getElem_cons lD,L7 o1.len hq.len c1.len];rfl
  obtain⟨u1,u2⟩:=bg.out j
  rw[AV] at u2
  have aeU:=ac4 (hornT q (cs.drop (j+1))) q o1 hq (by omega) (by omega) p2
  have G6:=H4 (nf (prodT (hornT q (cs.drop (j+1))) q)) cs[j] (p1.mono (by decide) (by decide)) (c1.mono (by decide) (by decide)) (by omega) (by omega) u2
  rw[<-AV] at G6
  obtain⟨A,hA⟩:=ax ((hornT q (cs.drop (j+1))).map tn)
  obtain⟨Q,hQ⟩:=ax (q.map tn)
  obtain⟨M,hM⟩:=ax ((nf (prodT (hornT q (cs.drop (j+1))) q)).map tn)
  obtain⟨C,hC⟩:=ax (cs[j].map tn)
  rw[hA,hQ,hM] at aeU
  rw[hM,hC] at G6
  rw[hC] at hr
  rw[hA,hQ]
  refine ae e1 ?_
  refine dw (by kernel_rfl) ?_
  refine ba ?_
  refine aV aeU ?_
  refine ae (aP lB hr) ?_
  repeat refine ag ?_
  refine aV G6 ?_
  refine ba ?_
  repeat refine ag ?_
  refine aw j ?_ (by omega)
  rw[<-hQ]
  exact bQ []
 intro h1 h2
 have uj:i=0:=by omega
 subst uj
 refine ae (aP h2 @List.drop_zero.{0}) ?_
 refine bj rfl
def Ia (m:List Int) (i:Nat):Int:=(m.take i).foldl max (m.getD 0 0)
theorem PG {m:List Int} {i:Nat} (h:i<m.length):Ia m (i+1)=max (Ia m i) (m.getD i 0):=by
 unfold Ia;rw[List.take_add_one,qb h,List.foldl_append,qa (i:=i),qb h];rfl
theorem Tv {m:List Int} (h:0<m.length):Ia m 1=m.getD 0 0:=by
 cases m with
 | nil=>simp at h
 | cons x m=>simp[Ia]
theorem xU: ∀ (m:List Int) (a N:Int),m.foldl max a<=N↔a<=N/\ ∀ x∈m,x<=N
 | [],a,N=>by simp
 | x::m,a,N=>by
  rw[foldl_cons,xU m (max a x) N];constructor
  .rintro⟨h1,h2⟩;exact⟨by omega,fun y hy=>by
    rcases List.mem_cons.1 hy with rfl | hy
    .omega
    exact h2 y hy⟩
  rintro⟨h1,h2⟩;exact⟨by have:=h2 x (by simp);omega,fun y hy=>h2 y (mem_cons_of_mem _ hy)⟩
theorem PH {m:List Int} {N:Int} (h:0<m.length):Ia m m.length<=N↔ ∀ x∈m,x<=N:=by
 unfold Ia;rw[List.take_length,xU];constructor
 .exact fun h2=>h2.2
 refine fun h2=>⟨h2 _ ?_,h2⟩
 rw[qa,qb h];exact ki h
def xV (p:List Tm):Int:=p.foldl (fun d t=>max d (Ia t.1 8)) 0
theorem Mt {p:List Tm} {i:Nat} (h:i<p.length):xV (p.take (i+1))=max (xV (p.take i)) (Ia p[i].1 8):=by
 unfold xV;rw[List.take_add_one,qb h,List.foldl_append];rfl
theorem ac9 (m:List Int) (h0:0<m.length) (hn:m.length<=1000):Den Tryz.prog 143 [] [.fv (.sl (ints m))] [] (.int .i64 (Ia m m.length)):=by
 have il:=cu m;obtain⟨n,cP⟩:=ax m.length;rw[cP] at il h0 hn ⊢;have h1:decide ((n:Int)<1)=false:=sA;have g0:=iW (xs:=m) (i:=0) (by omega);have m1:=Tv (m:=m) (by omega);refine dq Tryz.func143 24 0 ?_;refine bU (bR il h1 g0) ?_
 repeat refine ag ?_
 refine wl (α:=Nat) (fun i=>⟨[.fv (.sl (ints m)),.any,.any,.int .i64 (Ia m i),.int .i64 i]++replicate 20 .any,[]⟩) (fun i=>n - i) (fun i=>1<=i/\i<=n) 1 ?_ ⟨qp _,by omega⟩ ?_
 .rw[m1];exact bQ []
 rintro i ⟨oI,hi⟩;refine bU il ?_;refine bS ?_ ?_
 .intro h2 h3;have gi:=iW (xs:=m) (i:=i) (by omega);have bM:=PG (m:=m) (i:=i) (by omega);obtain⟨x,hx⟩:=ax (m.getD i 0);rw[hx] at gi bM;obtain⟨y,hy⟩:=ax (Ia m i);rw[hy] at bM ⊢;refine ae (bR h3 il gi) ?_
  repeat refine ag ?_
  refine aw (i+1) ?_ ⟨by omega,by omega⟩;rw[bM];refine eS [] ?_ ?_
  .simp[bk,dV,cC];split<;>omega
  simp[et]
 intro h2 h3;have gF:i=n:=by omega
 subst gF;refine ae h3 ?_;refine bj rfl
theorem ada (p:List Tm) (hl:Len8 p) (he: ∀ t∈p,∀ x∈t.1,-1000000000000<=x/\x<=1000000000000) (hn:p.length<=10000):Den Tryz.prog 87 [] [PL (p.map tn)] [] (.int .i64 (xV p)):=by
 have rp:=av (p.map tn);rw[length_map] at rp;obtain⟨n,cP⟩:=ax p.length;rw[cP] at rp hn;refine dq Tryz.func87 18 0 ?_;refine bU rp ?_;refine wl (α:=Nat) (fun i=>⟨[PL (p.map tn),.any,.any,.int .i64 (xV (p.take i)),.any,.any,PL (p.map tn),.int .i64 n,.int .i64 i]++replicate 10 .any,[]⟩) (fun i=>n - i) (fun i=>i<=n) 0 ?_ (eB _) ?_
 .refine eS [] ?_ ?_
  .simp[bk,dV,cC];rfl
  simp[et]
 intro i hi;refine aY ?_;refine bS ?_ ?_
 .intro h1 h2;have dW:i<p.length:=by omega
  have r1:=rZ dW;have hm:=hl _ (ki dW);have bM:=Mt dW;obtain⟨t,ht⟩:=ax (p[i]);rw[ht] at r1 hm bM;have h8:(tn t).1.length=8:=hm;have f11:=aW h8;have fl:=aK h8;have cl:=aG h8;have c8:=dN h8;change List.take 8 (fM (tn t))=mC t.1 at c8;have ZM:=ac9 t.1 (by omega) (by omega);rw[hm] at ZM;have g1:=sZ t.1 8 hm;have i1:List.take 8 (ints t.1)=ints t.1:=eo (by rw[cu];omega);obtain⟨x,hx⟩:=ax (Ia t.1 8);rw[hx] at ZM bM;obtain⟨y,hy⟩:=ax (xV (p.take i));rw[hy] at bM ⊢;simp -dsimp(disch:=omega) only[h2,r1,f11,dQ,fl,cl,rp,append_nil,c8,nu,oZ,g1,Option.isSome_none,imp_self,i1,↓reduceIte,Nat.reduceAdd,Nat.reduceMul,Nat.reduceSub,Nat.reduceLT,Nat.reduceLeDiff,ru]
  repeat refine ag ?_
  refine gp ZM (by simp[cw,gW,fS,fB]) ?_;refine ba ?_
  repeat refine ag ?_
  refine aw (i+1) ?_ (by omega);rw[bM];refine eS [] ?_ ?_
  .simp[bk,dV,cC];split<;>omega
  simp[et]
 intro h1 h2;have Oj:p.take i=p:=eo (by omega);rw[Oj];refine ae h2 ?_;refine bj rfl
theorem Fg: ∀ (p:List Tm) (a N:Int),p.foldl (fun d t=>max d (Ia t.1 8)) a<=N↔a<=N/\ ∀ t∈p,Ia t.1 8<=N
 | [],a,N=>by simp
 | t::p,a,N=>by
  rw[foldl_cons,Fg p _ N];constructor
  .rintro⟨h1,h2⟩;exact⟨by omega,fun y hy=>by
    rcases List.mem_cons.1 hy with rfl | hy
    .omega
    exact h2 y hy⟩
  rintro⟨h1,h2⟩;exact⟨by have:=h2 t (by simp);omega,fun y hy=>h2 y (mem_cons_of_mem _ hy)⟩
theorem Kt {p:List Tm} {N:Int} (hN:0<=N) (hl:Len8 p):xV p<=N↔ ∀ t∈p,∀ x∈t.1,x<=N:=by
 unfold xV;rw[Fg];constructor
 .rintro⟨_,h⟩ t ht;have h8:=hl t ht;have:=h t ht;rw[<-h8] at this;exact(PH (by omega)).1 this
 intro h;refine⟨hN,fun t ht=>?_⟩;have h8:=hl t ht;have:=(PH (m:=t.1) (N:=N) (by omega)).2 (h t ht);rwa [h8] at this
theorem adb (p:List Tm) (hp:LOkT 1000000000 1024 p) (hn:p.length<=10000):Den Tryz.prog 161 [] [PL (p.map tn)] [] (.tup [PL (p.map tn),.int .i64 0]):=by
 have Sr:=ada p hp.len (fun t ht x hx=>by have:=hp.exp t ht x hx;omega) hn;have ht:=(Kt (N:=1024) (by decide) hp.len).2 (fun t ht x hx=>(hp.exp t ht x hx).2);obtain⟨x,hx⟩:=ax (xV p);rw[hx] at Sr ht;obtain⟨P,hP⟩:=ax (p.map tn);rw[hP] at Sr ⊢;have e1:decide (x>1024)=false:=sA;refine dq Tryz.func161 7 0 ?_;refine aY ?_;refine aV Sr ?_;refine ae e1 ?_;refine bj rfl
theorem ade {k j n:Nat} {E:Int} {p:List Tm} (hj:1<=j) (h:LOkT j E p) (hn:p.length<=n) (hk:n*(j+1)+1<=k):POk k E (nf p):=
 ⟨cS h.len,((PB.terms hj h.bd hn hk).nf).bd (by omega),O_ (P:=fun m=> ∀ e∈m,0<=e/\e<=E) h.exp⟩
theorem POk.validB {k:Nat} {p:List Tm} (h:POk k 1024 p):validB (p.map tn)=true:=by
 unfold Go.Proofs.YtjjbkjgifdhlcaaGreat.validB;rw[pR];intro t ht;obtain⟨u,hu,rfl⟩:=mem_map.1 ht;unfold iA;rw[pR];intro e he;have:=h.exp u hu e he;rw[w8];exact⟨ir this.1,ir this.2⟩
abbrev fV (g:Nat):PV:= .fv (.lit (.func (.func g) #[] #[]))
theorem adf (p q:List Tm) (hp:POk 10000000 1024 p) (hq:POk 10000000 1024 q) (md:p.length<=bH) (hqs:q.length<=bH) (hs:(nf (p++q)).length<=bH):
 Den Tryz.prog 97 [] [PL (p.map tn),PL (q.map tn)] [] (.tup [PL ((nf (p++q)).map tn),.int .i64 0]):=by
 have hm:=kC
 have tsp:=hp.ts (by decide)
 have tsq:=hq.ts (by decide)
 have v1:=Ki (p.map tn) tsp.l8 (by rw[length_map];omega)
 have v2:=Ki (q.map tn) tsq.l8 (by rw[length_map];omega)
 rw[hp.validB] at v1
 rw[hq.validB] at v2
 have n1:=Px (p.map tn) (fun t ht=>(tsp t ht).mono (by decide)) (by rw[bF];exact PB.terms (n:=20) (j:=10000000) (by decide) hp.bd (by omega) (by decide)) (by rw[length_map];omega) (by rw[bF,e_ hp.canon];exact md)
 have n2:=Px (q.map tn) (fun t ht=>(tsq t ht).mono (by decide)) (by rw[bF];exact PB.terms (n:=20) (j:=10000000) (by decide) hq.bd (by omega) (by decide)) (by rw[length_map];omega) (by rw[bF,e_ hq.canon];exact hqs)
 rw[bF,e_ hp.canon] at n1
 rw[bF,e_ hq.canon] at n2
 have hl:=hp.l.app hq.l
 have G6:=H4 p q (hp.l.mono (by decide) (by decide)) (hq.l.mono (by decide) (by decide)) (by omega) (by omega) hs
 have hr:=ade (k:=1000000000) (n:=40) (by decide) hl (by rw[qe];omega) (by decide)
 have aeV:=adb (nf (p++q)) hr.l (by omega)
 obtain⟨P,hP⟩:=ax (p.map tn)
 obtain⟨Q,hQ⟩:=ax (q.map tn)
 obtain⟨R,hR⟩:=ax ((nf (p++q)).map tn)
 rw[hP] at v1 n1 G6
 rw[hQ] at v2 n2 G6
 rw[hR] at G6 aeV
 rw[hP,hQ,hR]
 have ajk:Den Tryz.prog 152 [] [PL P,PL Q,fV 139] [] (.tup [PL R,.int .i64 0]):=by
  refine dq Tryz.func152 22 0 ?_;refine aY ?_;refine aV v1 ?_;refine ae @Bool.not_true ?_;refine aV v2 ?_;refine ae @Bool.not_true ?_;refine aV n1 ?_;refine ba ?_;refine aV n2 ?_;refine ba ?_;refine aV G6 ?_;refine ba ?_;refine aV aeV ?_;refine ba ?_;refine bj rfl
 refine dq Tryz.func97 9 0 ?_
 refine aY ?_
 refine aV ajk ?_
 refine ba ?_
 refine bj rfl
def Ad (cs:List (List Raw)):List (List Raw):=(ncs cs).map eL
theorem Fh {cs:List (List Raw)} {l:List Raw} (h:cQ l=true):Ad (cs++[l])=Ad cs:=by simp[Ad,ncs,List.filter_append,h]
theorem Mu {cs:List (List Raw)} {l:List Raw} (h:cQ l=false):Ad (cs++[l])=Ad cs++[eL l]:=by simp[Ad,ncs,List.filter_append,h]
theorem r6 {cs:List (List Raw)} {l:List Raw}:fQ (cs++[l])=(fQ cs||(cQ l&&decide (co l 8<0))):=by simp[fQ,qub]
theorem ka {cs:List (List Raw)} {i:Nat} (h:i<cs.length):cs.take (i+1)=cs.take i++[cs.getD i []]:=by
 rw[List.take_succ_eq_append_getElem h,qa,qb h];rfl
theorem PJ {cs:List (List Raw)} {i:Nat} (h:fQ (cs.take i)=true):fQ cs=true:=by
 unfold fQ at h ⊢;rw[qpb] at h ⊢;obtain⟨l,hl,h2⟩:=h;exact⟨l,AY hl,h2⟩
theorem PK {cs:List (List Raw)} {i:Nat}:(Ad (cs.take i)).length<=(ncs cs).length:=by
 unfold Ad;rw[length_map];unfold ncs;exact List.Sublist.length_le (List.Sublist.filter _ (List.take_sublist i cs))
theorem b9 {ls:List (List Raw)} {n:Nat} (h:ls.length<=n):List.take n (au ls)=au ls:=eo (by rw[ay];exact h)
theorem dc (ls:List (List Raw)) (x:List Raw):au ls++[cO x]=au (ls++[x]):=by simp[au]
theorem Ya {l:List Raw} (h:l.length=9):((flat l).drop 24).take 3=(l.getD 8 rz).f.map .fv:=by
 match l,h with
 | [a,b,c,d,e,f,g,i,j],_=>rfl
theorem o_ {l:List Raw} (h:l.length=9):((flat l).drop 24)=[.fv (.lit (.bool (l.getD 8 rz).neg)),.fv (.sl (u32s (l.getD 8 rz).num)),.fv (.sl (u32s (l.getD 8 rz).den))]:=by
 match l,h with
 | [a,b,c,d,e,f,g,i,j],_=>rfl
theorem Yb (cs:List (List Raw)) (bg:AOk 1000000000 cs) (hn:cs.length<=1000) (fR: ∀ l∈cs,¬aN l->LOk 1000 l) (h12:(ncs cs).length<=12):
 Den Tryz.prog 228 [] [.fv (.sl (au cs))] [] (if fQ cs then .tup [.fv (.sl []),.bool false] else .tup [.fv (.sl (au (sysL cs []))),.bool true]):=by
 obtain⟨n,cP⟩:=ax cs.length
 obtain⟨R,hR⟩: ∃ R:PV,(if fQ cs then .tup [.fv (.sl []),.bool false] else .tup [.fv (.sl (au (sysL cs []))),.bool true])=R:=⟨_,rfl⟩
 rw[hR]
 have rl:=ay cs
 rw[cP] at rl
 refine dq Tryz.func228 28 0 ?_
 refine bU rl ?_
 refine wl (α:=Nat×List (List Raw)) (fun⟨i,out⟩=>⟨[.fv (.sl (au cs)),.any,.nilsl,.bool false,.lsl 0 0 out.length 27,.any,.any,.fv (.sl (au cs)),.int .i64 n,.int .i64 i]++replicate 19 .any,[.row true (au out)]⟩)
  (fun⟨i,_⟩=>n - i) (fun⟨i,out⟩=>i<=n/\out=Ad (cs.take i)/\fQ (cs.take i)=false) (0,[]) ?_ ?_ ?_
 .refine Weak.nil 4 27 (by decide) rfl ?_
  refine eS [0] ?_ ?_
  .simp[bk,dV,cC]
  simp[et,fK]
  rfl
 .exact⟨eB _,rfl,rfl⟩
 rintro⟨i,out⟩ ⟨hi,dF,LA⟩
 have vm:out.length<=12:=by rw[dF];exact gI PK h12
 obtain⟨L,hL⟩:=ax out.length
 have rlo:=ay out
 rw[hL] at rlo vm
 dsimp only
 rw[hL]
 refine aY ?_
 refine bS ?_ ?_
 .intro h1 h2
  have ez:=ka (cs:=cs) (i:=i) (by omega)
  have hx:=bg.at (i:=i) (by omega)
  have bm:=bI (ls:=cs) (i:=i) (by omega)
  have r1:=bK cs i
  obtain⟨x,mZ⟩:=ax (cs.getD i [])
  rw[mZ] at hx bm r1 ez
  have hc:=Pe x hx
  have lx:=hx.len
  have rB:=aF lx
  have fx:=aO x
  have gx:=ah x
  have nZ:=ar lx
  have SF:=o_ lx
  obtain⟨b,hb⟩:=ax (cQ x)
  rw[hb] at hc
  unfold RL at hc
  refine b_ (fw h2 r1 rB fx gx lx nZ) ?_
  repeat refine ag ?_
  refine kO hc ?_
  cases b with
  | true=>
   have iP:=mm (x.getD 8 rz) ((hx.at 8).mono (by decide));have uk:co x 8=(x.getD 8 rz).q:=rfl;obtain⟨r,hr⟩:=ax (x.getD 8 rz);rw[hr] at iP SF uk;unfold Raw.v at iP;refine b_ (bR SF gx lx) ?_
   repeat refine ag ?_
   refine aV iP ?_;refine ae @append_nil.{0} ?_;refine bS ?_ ?_
   .intro h3 h4;have hv:fQ (cs.take (i+1))=true:=by
     rw[ez,r6,hb,uk,ir (kW.1 h3)];simp
    rw[if_pos (PJ hv)] at hR;subst hR;refine ae h4 ?_;refine bj rfl
   .intro h3 h4;have hv:fQ (cs.take (i+1))=false:=by
     rw[ez,r6,hb,uk,m5 (fun h=>h3 (kW.2 h)),LA];simp
    refine ae h4 ?_;refine aw (i+1,out) ?_ ⟨by omega,by rw[ez,Fh hb];exact dF,hv⟩;exact bQ [0]
  | false=>
   have qY: ¬aN x:=fun h=>by rw[(cv lx).2 h] at hb;cases hb
   have hN:=Wv x (fR x bm qY);have hv:fQ (cs.take (i+1))=false:=by
    rw[ez,r6,hb,LA];simp
   have gH:=o4 lx;change Den Tryz.prog _ [] [RL x] [] (RL (eL x)) at hN;have hos:=Mu (cs:=cs.take i) hb;have ja:=dc out (eL x);obtain⟨y,hy⟩:=ax (eL x);rw[hy] at hN gH hos ja;have gy:=ah y;have gv:=b9 (ls:=out) (n:=L) (by omega);have uh:=aF gH;unfold RL at hN;refine b_ (bR nZ gx lx) ?_
   repeat refine ag ?_
   refine kO hN ?_;refine b_ (fE gy gH gv uh ja rlo) ?_
   repeat refine ag ?_
   refine aw (i+1,out++[y]) ?_ ⟨by omega,by rw[ez,hos,dF],hv⟩;exact bQ [3]
 intro h1 h2
 have gF:i=n:=by omega
 have gv:cs.take i=cs:=eo (by omega)
 rw[gv] at dF LA
 rw[LA,if_neg (by simp)] at hR
 have h9: ∀ l∈cs,l.length=9:=fun l hl=>(bg l hl).len
 have iU:AOk 1000000000 out:=fun f hf=>by
  rw[dF] at hf;obtain⟨l,hl,rfl⟩:=mem_map.1 hf;obtain⟨h3,h4⟩:=(jP h9).1 hl;exact(wG (fR l h3 h4) (by decide)).mono (by decide)
 obtain⟨ls',pM,aeW⟩:=ahB out iU (by omega)
 have ajm:=iU.of_mem pM.mem
 have Xn:=pM.len
 have gh: ∀ a∈ls',∀ b∈ls',bV a b=0->a=b:=by
  intro a ha b hb vo;have key: ∀ f∈ls',IsCn f:=fun f hf=>by
   have:=(pM.mem f).1 hf;rw[dF] at this;obtain⟨l,hl,rfl⟩:=mem_map.1 this;exact jR (h9 l ((jP h9).1 hl).1)
  exact BD (key a ha) (key b hb) vo
 obtain⟨H1,res,⟨j6,rfl,rfl,Xp⟩,h88⟩:=ahF ls' ajm (by omega) gh pM.ord
 have ajn:IsSys cs j6:=⟨Xp.sorted,fun f=>by
  rw[Xp.mem,pM.mem,dF];unfold Ad;rw[mem_map];constructor
  .rintro⟨l,hl,rfl⟩;obtain⟨h3,h4⟩:=(jP h9).1 hl;exact⟨l,h3,h4,rfl⟩
  rintro⟨l,h3,h4,rfl⟩;exact⟨l,(jP h9).2 ⟨h3,h4⟩,rfl⟩⟩
 have he:=ajn.eq h9
 rw[<-he] at hR
 have RP:ls'.length=L:=by omega
 rw[hL] at aeW
 rw[RP] at h88
 have RQ:=b9 (ls:=j6) (qp _)
 have w3:=ay j6
 subst hR
 refine ae h2 ?_
 refine ig 0 aeW trivial ?_
 refine ae @append_nil.{0} ?_
 refine ig 0 h88 trivial ?_
 refine ae @append_nil.{0} ?_
 refine Sn (vs:=[.lsl 0 0 j6.length 27,.bool true]) rfl ⟨cW,cW,cW⟩ (show tL [Ob.row true (au j6)] [] (.tup [.lsl 0 0 j6.length 27,.bool true])=_ from ?_)
 exact l7 (aP RQ w3)
end Go.Proofs.YtjjbkjgifdhlcaaGreat
namespace Go.Pl
open Go.AM
def GoodS (s:List (List Raw)):Prop:= ∃ k,1<=k/\SysF k s/\Sz k s
theorem GoodS.len9 {s:List (List Raw)} (h:GoodS s): ∀ l∈s,l.length=9:=by
 obtain⟨k,hk,hs,hz⟩:=h;exact fun l hl=>(hs.ok l hl).len
theorem GoodS.lim {s:List (List Raw)} (h:GoodS s): ∀ l∈s,LOk 1000 l:=by
 obtain⟨k,hk,hs,hz⟩:=h;exact hz.lim hs
theorem GoodS.len {s:List (List Raw)} (h:GoodS s):s.length<=12:=by
 obtain⟨k,hk,hs,hz⟩:=h;exact hz.len hs
theorem GoodS.nc {s:List (List Raw)} (h:GoodS s): ∀ l∈s,¬aN l:=by
 obtain⟨k,hk,hs,hz⟩:=h;exact hs.nc
theorem Mv:ei []=true:=er.2 EY
def minL:Rat->List Rat->Rat
 | m,[]=>m
 | m,q::l=>minL (if gA (q - m)<0 then q else m) l
def Yc (s:List (List Raw)) (v:Nat):List Rat:=(aR s v).map (fun b=>co b 8)
def PM (s:List (List Raw)) (v:Nat):List Rat:=(aE s v).map (fun b=>co b 8)
structure CsOk (cs:List (List Raw)):Prop where
 ok: ∀ l∈cs,LOk 10000 l
 len:cs.length<=100
 nc:(ncs cs).length<=12
 good:GoodS (sysL cs [])
 nok: ∀ l∈cs,¬aN l->LOk 1000 l
theorem CsOk.len9 {cs:List (List Raw)} (h:CsOk cs): ∀ l∈cs,l.length=9:=fun l hl=>(h.ok l hl).len
theorem PN (x:Nat->Rat) (v:Nat):upd x v (x v)=x:=by funext i;unfold upd;split<;>simp_all
theorem lP (x:Nat->Rat) (v:Nat) (t:Rat):upd x v t v=t:=by simp[upd]
theorem xW {x:Nat->Rat} {v w:Nat} {t:Rat} (h:w≠v):upd x v t w=x w:=by simp[upd,h]
structure Pre (cs:List (List Raw)):Prop where
 cnf: ∀ l∈cs,IsCn l
 nc: ∀ l∈cs,¬aN l
 ok: ∀ l∈cs,LOk 1000 l
 len:cs.length<=13
 good:GoodS (sysL cs [])
theorem GoodS.cnf {s:List (List Raw)} (h:GoodS s): ∀ l∈s,IsCn l:=by
 have h9:=h.len9;obtain⟨k,hk,hs,hz⟩:=h;exact fun l hl=>by rw[<-hs.nm l hl];exact jR (h9 l hl)
theorem GoodS.self {s:List (List Raw)} (h:GoodS s):sysL s []=s:=by
 have h9:=h.len9;obtain⟨k,hk,hs,hz⟩:=h;exact(hs.self.eq h9).symm
theorem lQ (cs:List (List Raw)):(ncs cs).length<=cs.length:=List.length_filter_le _ _
theorem Mw {cs:List (List Raw)} (h: ∀ l∈cs,cQ l=true):ncs cs=[]:=by
 unfold ncs;exact hG (fun l hl=>by rw[h l hl];rfl)
def dR (q:Rat):List Raw:=(replicate 9 (cn 0)).set 8 (cn q)
def gB (v:Nat):List Raw:=(replicate 9 (cn 0)).set v (cn ((1:Int):Rat))
theorem PO {v w:Nat} {q:Rat} (_:v<9) (hw:w<9):co ((replicate 9 (cn 0)).set v (cn q)) w=if w=v then q else 0:=by
 unfold co;rw[qa,List.getElem?_set];by_cases h:v=w
 .subst h;rw[if_pos rfl,if_pos (by simp;omega),if_pos rfl,Option.getD_some,de]
 rw[if_neg h,if_neg (fun e=>h e.symm),List.getElem?_replicate,if_pos hw,Option.getD_some,de]
theorem r7 {w:Nat} {q:Rat} (hw:w<9):co (dR q) w=if w=8 then q else 0:=PO (by omega) hw
theorem CV {v w:Nat} (hv:v<9) (hw:w<9):co (gB v) w=if w=v then 1 else 0:=PO hv hw
theorem nH (l:List Raw) (x:Nat->Rat):aB l x=co l 8+co l 0*x 0+co l 1*x 1+co l 2*x 2+co l 3*x 3+co l 4*x 4+co l 5*x 5+co l 6*x 6+co l 7*x 7:=rfl
def lR (s:List (List Raw)) (i:Nat):List (List Raw):=s.take i++s.drop (i+1)
theorem tf {s:List (List Raw)} {i:Nat}:(lR s i).Sublist s:=by
 unfold lR;have h:=List.take_append_drop i s
 conv=>rhs;rw[<-h]
 refine List.Sublist.append (List.Sublist.refl _) ?_;rw[<-List.drop_drop];exact List.drop_sublist _ _
theorem tg {s:List (List Raw)} {i:Nat} (h:i<s.length):(lR s i).length+1=s.length:=by
 unfold lR;rw[qe,length_take,qt];omega
theorem th {s:List (List Raw)} {i:Nat} {l:List Raw} (h:l∈lR s i):l∈s:=tf.subset h
theorem Ku {s:List (List Raw)} {i:Nat} (hi:i<s.length) {l:List Raw} (h:l∈s):l∈lR s i\/l=s.getD i []:=by
 have h2:=List.take_append_drop i s;rw[<-h2,qr] at h;unfold lR;rw[qr];rcases h with h | h
 .exact .inl (.inl h)
 rw[drop_eq_getElem_cons hi] at h;rcases List.mem_cons.1 h with h | h
 .right;rw[h,qa,qb hi];rfl
 exact .inl (.inr h)
def GoodT (s:List (List Raw)):Prop:= ∃ k,1<=k/\SysF k s/\Sz (k+1) s
theorem Sz.mono {j k:Nat} {s:List (List Raw)} (h:Sz k s) (hk:j<=k):Sz j s:=⟨h.n3,fun h3=>by have:=h.c3 h3;omega,fun h2=>by have:=h.c2 h2;omega,fun h1=>by have:=h.c1 h1;omega⟩
theorem Sz.sub {k:Nat} {s t:List (List Raw)} (h:Sz k s) (hl:t.length<=s.length) (hn:bD t<=bD s):Sz k t:=by
 have h3:=h.n3;have c3:=h.c3;have c2:=h.c2;have c1:=h.c1;refine⟨by omega,fun h=>?_,fun h=>?_,fun h=>?_⟩
 .have:=c3 (by omega);omega
 .have:bD s=2\/bD s=3:=by omega
  rcases this with h5 | h5
  .have:=c2 h5;omega
  have:=c3 h5;omega
 have:bD s=1\/bD s=2\/bD s=3:=by omega
 rcases this with h5 | h5 | h5
 .have:=c1 h5;omega
 .have:=c2 h5;omega
 have:=c3 h5;omega
theorem Mx {s t:List (List Raw)} (h: ∀ l∈t,l∈s):bD t<=bD s:=s6 (fun w _ ho=>by
 obtain⟨l,hl,h0⟩:=fh.1 ho;exact fh.2 ⟨l,h l hl,h0⟩)
theorem GoodT.good {s:List (List Raw)} (h:GoodT s):GoodS s:=by
 obtain⟨k,hk,hs,hz⟩:=h;exact⟨k,hk,hs,hz.mono (by omega)⟩
theorem GoodT.sub {s t:List (List Raw)} (h:GoodT s) (ht:t.Sublist s):GoodT t:=by
 obtain⟨k,hk,hs,hz⟩:=h;exact⟨k,hk,⟨hs.sorted.sublist ht,fun l hl=>hs.ok l (ht.subset hl),fun l hl=>hs.nc l (ht.subset hl),fun l hl=>hs.nm l (ht.subset hl)⟩,hz.sub ht.length_le (Mx (fun l hl=>ht.subset hl))⟩
theorem My (l:List Raw):(b' (cK l)).q= -(b' l).q:=by
 have h:=p' (C:= -1) (by decide) (rs:=l);have e:(l.map (fun r=>r.q / (-1)))=l.map (fun r=>r.q*((-1:Int):Rat)):=List.map_congr_left (fun r _=>by
  have:((-1:Int):Rat)= -1:=rfl;rw[this];grind)
 rw[e] at h;show(b' (((l.map (fun r=>r.q*((-1:Int):Rat))).map cn))).q=_;rw[h];grind
theorem PQ (c:Rat):fX (-c)=fX c:=by
 unfold fX;have h1:(-c).num<0↔ -c<0:=eV;have h2:c.num<0↔c<0:=eV;split<;>split<;>grind
theorem Kv (l:List Raw) (h:l.length=9):IsCn (cK l):=⟨l.map (fun r=>r.q*((-1:Int):Rat)),rfl,by simp[h]⟩
theorem CW {f g:List Raw} (hf:IsCn f) (hg:IsCn g) (h: ∀ i,i<9->co f i=co g i):f=g:=by
 have lf:=hf.len;have lg:=hg.len;obtain⟨p,rfl,hp⟩:=hf;obtain⟨q,rfl,hq⟩:=hg;congr 1;apply List.ext_getElem (by omega);intro i h1 h2;have:=h i (by omega);unfold co at this;rw[qa,qb (by simpa using h1),qa,qb (by simpa using h2)] at this;simp only[Option.getD_some,List.getElem_map,de] at this;exact this
theorem PR {l:List Raw} (h9:l.length=9) (hc: ¬aN l):eL (cK l)=cK (eL l):=by
 have hn9:=d' h9;have h0:=wF h9 hc;have e:=My l;have h0':(b' (cK l)).q≠0:=by rw[e];grind
 refine CW (jR hn9) (Kv _ (o4 h9)) (fun i hi=>?_);rw[qc hn9 h0' hi,iB h9 hi,iB (o4 h9) hi,qc h9 h0 hi,e,PQ];grind
theorem PS {l:List Raw} (h9:l.length=9) (hc: ¬aN l): ¬aN (cK l):=fun h=>hc (fun i hi=>by
 have:=h i hi;rw[iB h9 (by omega)] at this;grind)
theorem GoodT.turn {s t:List (List Raw)} (h:GoodT s) (ht: ∀ l∈t,l∈s) {x:List Raw} (hx:x∈s) (hl:t.length+1<=s.length):GoodS (sysL (t++[cK x]) [])/\Pre (t++[cK x]):=by
 have aD:=h.good.len;have oN:=h.good.lim;have ug:=h.good.cnf;obtain⟨k,hk,hs,hz⟩:=h;have h9: ∀ l∈s,l.length=9:=fun l hl=>(hs.ok l hl).len
 have h9t: ∀ l∈t++[cK x],l.length=9:=fun l hl=>by
  rcases List.mem_append.1 hl with h1 | h1
  .exact h9 l (ht l h1)
  rw[List.mem_singleton.1 h1];exact d' (h9 x hx)
 have qY: ∀ l∈t++[cK x],¬aN l:=fun l hl=>by
  rcases List.mem_append.1 hl with h1 | h1
  .exact hs.nc l (ht l h1)
  rw[List.mem_singleton.1 h1];exact PS (h9 x hx) (hs.nc x hx)
 have Jm:=iD h9t;have bg: ∀ l∈t++[cK x],¬aN l->LOk (k+1) (eL l):=fun l hl _=>by
  rcases List.mem_append.1 hl with h1 | h1
  .rw[hs.nm l (ht l h1)];exact(hs.ok l (ht l h1)).mono (by omega)
  rw[List.mem_singleton.1 h1,PR (h9 x hx) (hs.nc x hx),hs.nm x hx];exact s5 (hs.ok x hx) hk
 have hnv:bD (sysL (t++[cK x]) [])<=bD s:=by
  rw[uQ h9t Jm];refine s6 (fun w hw ho=>?_);obtain⟨l,hl,h0⟩:=fh.1 ho;rcases List.mem_append.1 hl with h1 | h1
  .exact fh.2 ⟨l,ht l h1,h0⟩
  rw[List.mem_singleton.1 h1,iB (h9 x hx) (by omega)] at h0;exact fh.2 ⟨x,hx,fun h2=>h0 (by rw[h2];rfl)⟩
 have qM:=ny h9t Jm;have dT:=lQ (t++[cK x]);rw[qe,Hv] at dT;have hg:GoodS (sysL (t++[cK x]) []):=⟨k+1,by omega,SysF.of h9t Jm bg,hz.sub (by omega) hnv⟩;refine⟨hg,?_,qY,?_,?_,hg⟩
 .intro l hl;rcases List.mem_append.1 hl with h1 | h1
  .exact ug l (ht l h1)
  rw[List.mem_singleton.1 h1];exact Kv x (h9 x hx)
 .have hzk:k+1<=1000:=(hz.all (nA hx (hs.nc x hx))).2;intro l hl;rcases List.mem_append.1 hl with h1 | h1
  .exact oN l (ht l h1)
  rw[List.mem_singleton.1 h1];exact(s5 (hs.ok x hx) hk).mono hzk
 rw[qe,Hv];omega
noncomputable def pa (s:List (List Raw)) (i:Nat):Bool:=ei (sysL (lR s i++[cK (s.getD i [])]) [])
noncomputable def jq:Nat->Nat->List (List Raw)->List (List Raw)
 | 0,_,s=>s
 | n+1,i,s=>if i<s.length then(if pa s i then jq n (i+1) s else jq n i (lR s i)) else s
noncomputable def aU (cs:List (List Raw)):List (List Raw):=if aZ cs then jq (sysL cs []).length 0 (sysL cs []) else [dR ((-1:Int):Rat)]
theorem mD: ∀ (n i:Nat) (s:List (List Raw)),(jq n i s).Sublist s
 | 0,_,s=>List.Sublist.refl s
 | n+1,i,s=>by
  unfold jq;split
  .split
   .exact mD n (i+1) s
   exact(mD n i (lR s i)).trans tf
  exact List.Sublist.refl s
theorem BK {t:List (List Raw)} (h: ∀ l∈t,¬aN l): ¬EU t:=fun⟨l,hl,hc,_⟩=>h l hl hc
theorem Fi {t:List (List Raw)} (h9: ∀ l∈t,l.length=9) (h: ∀ l∈t,¬aN l):aZ t=ei (sysL t []):=by
 unfold aZ;have:fQ t=false:=by
  cases hv:fQ t with
  | false=>rfl
  | true=>exact absurd ((mA h9).1 hv) (BK h)
 rw[this];rfl
structure D3 (ds:List (List Raw)):Prop where
 cs:CsOk ds
 good:GoodT (sysL ds [])
theorem Yd (a c:Rat) (ha:0<a): ∃ e:Rat,0<e/\ ∀ t:Rat,-e<=t->t<=e->0<a+c*t:=by
 by_cases h0:c=0
 .exact⟨1,by decide,fun t _ _=>by rw[h0,Rat.zero_mul,Rat.add_zero];exact ha⟩
 by_cases hp:0<c
 .have Zt:c*(a / (2*c))=a / 2:=by grind
  have he:0<a / (2*c):=by
   by_cases h:0<a / (2*c)
   .exact h
   exfalso;have:=Rat.mul_nonneg (show 0<= -(a / (2*c)) by grind) (show 0<=c by grind);grind
  refine⟨a / (2*c),he,fun t h1 _=>?_⟩;have:=Rat.mul_nonneg (show 0<=t+a / (2*c) by grind) (show 0<=c by grind);grind
 have hn:0< -c:=by grind
 have Zt:(-c)*(a / (2*(-c)))=a / 2:=by grind
 have he:0<a / (2*(-c)):=by
  by_cases h:0<a / (2*(-c))
  .exact h
  exfalso;have:=Rat.mul_nonneg (show 0<= -(a / (2*(-c))) by grind) (show 0<= -c by grind);grind
 refine⟨a / (2*(-c)),he,fun t _ h2=>?_⟩;have:=Rat.mul_nonneg (show 0<=a / (2*(-c)) - t by grind) (show 0<= -c by grind);grind
theorem Fj {w:Nat} (hw:w<8): ∀ (s:List (List Raw)) (x:Nat->Rat),jd s x-> ∃ e:Rat,0<e/\ ∀ t:Rat,-e<=t->t<=e->jd s (upd x w (x w+t))
 | [],x,_=>⟨1,by decide,fun t _ _ l hl=>by simp at hl⟩
 | m::s,x,h=>by
  obtain⟨e1,h1,k1⟩:=Fj hw s x (fun l hl=>h l (mem_cons_of_mem _ hl));obtain⟨e2,h2,k2⟩:=Yd (aB m x) (co m w) (h m (by simp));by_cases h3:e1<=e2
  .refine⟨e1,h1,fun t ZN Jh l hl=>?_⟩;rcases List.mem_cons.1 hl with h4 | h4
   .subst h4;rw[f0 hw];have:=k2 t (by grind) (by grind);grind
   exact k1 t ZN Jh l h4
  refine⟨e2,h2,fun t ZN Jh l hl=>?_⟩;rcases List.mem_cons.1 hl with h4 | h4
  .subst h4;rw[f0 hw];have:=k2 t ZN Jh;grind
  exact k1 t (by grind) (by grind) l h4
theorem Mz {s:List (List Raw)} {l:List Raw} {x:Nat->Rat} (hl: ¬aN l) (hx:jd s x) (h0:aB l x=0): ∃ y,jd s y/\aB l y<0:=by
 obtain⟨w,hw,hc⟩:=p_ hl;obtain⟨e,he,k⟩:=Fj hw s x hx;by_cases hp:0<co l w
 .refine⟨upd x w (x w+ -e),k _ (by grind) (by grind),?_⟩;rw[f0 hw,h0];have:=Rat.mul_pos hp he;grind
 refine⟨upd x w (x w+e),k _ (by grind) (by grind),?_⟩;rw[f0 hw,h0];have:=Rat.mul_pos (show 0< -(co l w) by grind) he;grind
theorem kd {l:List Raw} (h9:l.length=9) (x:Nat->Rat):aB (cK l) x= -aB l x:=by
 have c:=fun w hw=>iB h9 (i:=w) hw
 rw[nH,nH,c 8 (by decide),c 0 (by decide),c 1 (by decide),c 2 (by decide),c 3 (by decide),c 4 (by decide),c 5 (by decide),c 6 (by decide),c 7 (by decide)];grind
theorem in_pos {t:List (List Raw)} (h: ∀ l∈t,¬aN l) (x:Nat->Rat):In t x↔jd t x:=
 ⟨fun hi l hl=>by
  rcases hi l hl with h1 | h1
  .exact h1
  exact absurd h1.1 (h l hl),fun hp l hl=> .inl (hp l hl)⟩
theorem PT {t:List (List Raw)} (h9: ∀ l∈t,l.length=9) (h: ∀ l∈t,¬aN l):ei (sysL t [])=true↔ ∃ x,jd t x:=by
 rw[er];have:=fun x=>(xH h9 (iD h9) (BK h) x).symm.trans (in_pos h x)
 exact⟨fun⟨x,hx⟩=>⟨x,(this x).1 hx⟩,fun⟨x,hx⟩=>⟨x,(this x).2 hx⟩⟩
theorem qq {s:List (List Raw)} {i:Nat} (hg:GoodT s) (hi:i<s.length):pa s i=true↔ ∃ y,jd (lR s i) y/\aB (s.getD i []) y<0:=by
 have bm:s.getD i []∈s:=by rw[qa,qb hi];exact ki _
 have hl:=tg hi;obtain⟨h1,h2⟩:=hg.turn (t:=lR s i) (fun l hl=>th hl) bm (by omega);have h9: ∀ l∈lR s i++[cK (s.getD i [])],l.length=9:=fun l hl=>(h2.ok l hl).len
 have hx9:(s.getD i []).length=9:=hg.good.len9 _ bm;unfold pa;rw[PT h9 h2.nc];constructor
 .rintro⟨y,hy⟩;refine⟨y,fun l hl=>hy l (List.mem_append_left _ hl),?_⟩;have:=hy (cK (s.getD i [])) (by simp);rw[kd hx9] at this;grind
 rintro⟨y,hy,hn⟩;refine⟨y,fun l hl=>?_⟩;rcases List.mem_append.1 hl with h3 | h3
 .exact hy l h3
 rw[List.mem_singleton.1 h3,kd hx9];grind
theorem Tw {s:List (List Raw)} {i:Nat} (hg:GoodT s) (hi:i<s.length) (hr:pa s i=false) (x:Nat->Rat):jd (lR s i) x↔jd s x:=by
 have bm:s.getD i []∈s:=by rw[qa,qb hi];exact ki _
 constructor
 .intro hp l hl;rcases Ku hi hl with h1 | h1
  .exact hp l h1
  rw[h1];have ue: ∀ y,jd (lR s i) y-> ¬aB (s.getD i []) y<0:=fun y hy hn=>by
   have:=(qq hg hi).2 ⟨y,hy,hn⟩;rw[hr] at this;cases this
  by_cases h0:aB (s.getD i []) x=0
  .obtain⟨y,hy,hn⟩:=Mz (hg.good.nc _ bm) hp h0;exact absurd hn (ue y hy)
  have:=ue x hp;grind
 exact fun hp l hl=>hp l (th hl)
theorem xX: ∀ (n i:Nat) {s:List (List Raw)},GoodT s-> ∀ x,jd (jq n i s) x↔jd s x
 | 0,_,_,_,_=>Iff.rfl
 | n+1,i,s,hg,x=>by
  unfold jq;split
  .rename_i hi;split
   .exact xX n (i+1) hg x
   rename_i hr;rw[xX n i (hg.sub tf) x];exact Tw hg hi (by simpa using hr) x
  exact Iff.rfl
theorem Ye {s:List (List Raw)} {i j:Nat} (hj:j<i) (hi:i<s.length):(lR s i).getD j []=s.getD j []:=by
 unfold lR;rw[qa,qi (by rw[length_take];omega),List.getElem?_take,if_pos hj,<-qa]
theorem Tx {s:List (List Raw)} {i j:Nat} (hj:j<i) (hi:i<s.length): ∀ l∈lR (lR s i) j,l∈lR s j:=by
 intro l hl;unfold lR at hl ⊢;rw[qr] at hl ⊢;rcases hl with hl | hl
 .left;rw[List.take_append_of_le_length (by rw[length_take];omega),List.take_take] at hl;rwa [Nat.min_eq_left (by omega)] at hl
 right;rw[List.drop_append_of_le_length (by rw[length_take];omega),qr] at hl;rcases hl with hl | hl
 .rw[List.drop_take] at hl;exact AY hl
 have e:i+1=(j+1)+(i - j):=by omega
 rw[e,<-List.drop_drop] at hl;exact VN hl
theorem xY: ∀ (n i:Nat) {s:List (List Raw)},GoodT s->s.length<=n+i->(∀ j,j<i->j<s.length->pa s j=true)-> ∀ j,j<(jq n i s).length->pa (jq n i s) j=true
 | 0,i,s,_,hn,h,j,hj=>h j (by have:j<s.length:=hj;omega) hj
 | n+1,i,s,hg,hn,h,j,hj=>by
  unfold jq at hj ⊢;by_cases hi:i<s.length
  .rw[if_pos hi] at hj ⊢;by_cases hr:pa s i=true
   .rw[if_pos hr] at hj ⊢;refine xY n (i+1) hg (by omega) (fun q hq Ja=>?_) j hj;by_cases Hp:q=i
    .rw[Hp];exact hr
    exact h q (by omega) Ja
   rw[if_neg hr] at hj ⊢;have hl:=tg hi;have AE:=hg.sub (tf (s:=s) (i:=i));refine xY n i AE (by omega) (fun q hq Ja=>?_) j hj;obtain⟨y,hy,mW⟩:=(qq hg (show q<s.length by omega)).1 (h q hq (by omega));refine(qq AE Ja).2 ⟨y,fun l hl=>hy l (Tx hq hi l hl),?_⟩;rw[Ye hq hi];exact mW
  rw[if_neg hi] at hj ⊢;exact h j (by omega) hj
noncomputable def xZ (s:List (List Raw)):List (List Raw):=jq s.length 0 s
def WM (s:List (List Raw)):Prop:= ∀ j,j<s.length->pa s j=true
theorem PU (s:List (List Raw)):(xZ s).Sublist s:=mD _ _ _
theorem i5 {s:List (List Raw)} (h:GoodT s):GoodT (xZ s):=h.sub (PU s)
theorem pd {s:List (List Raw)} (h:GoodT s) (x:Nat->Rat):jd (xZ s) x↔jd s x:=xX _ _ h x
theorem x9 {s:List (List Raw)} (h:GoodT s):WM (xZ s):=xY s.length 0 h (by omega) (fun j hj=>by omega)
theorem MA {s:List (List Raw)} (h:GoodT s):ei (xZ s)=ei s:=by
 have key:CN (xZ s)↔CN s:=⟨fun⟨x,hx⟩=>⟨x,(pd h x).1 hx⟩,fun⟨x,hx⟩=>⟨x,(pd h x).2 hx⟩⟩;cases h1:ei s with
 | true=>exact er.2 (key.2 (er.1 h1))
 | false=>exact o5.2 (fun h2=>o5.1 h1 (key.1 h2))
structure amC (c d:List (List Raw)) (i:Nat):Prop where
 good:GoodT d
 feas:ei d=true
 irr:WM d
 pos: ∀ x,jd d x↔ ∃ t,jd c (upd x i t)
 occs: ∀ w,w<8->w≠i->Pl.occ c w=false->Pl.occ d w=false
 gone:Pl.occ d i=false
structure amD (v n i:Nat) (c d:List (List Raw)):Prop where
 good:GoodT d
 irr:WM d
 feas:ei d=true
 pos: ∀ x,jd d x↔ ∃ y,(∀ w,(w<i\/i+n<=w\/w=v)->y w=x w)/\jd c y
 occs:(∀ w,w<i->w≠v->Pl.occ c w=false)-> ∀ w,w<i+n->w≠v->Pl.occ d w=false
theorem Kw {s:List (List Raw)} {v:Nat} (hv:v<8) (hg:GoodT s) (AQ:WM s) (NP: ∀ w,w<8->w≠v->occ s w=false) {i j:Nat} (hi:i<s.length) (hj:j<s.length) (pL:i≠j):
 (¬(0<co (s.getD i []) v/\0<co (s.getD j []) v))/\ ¬(co (s.getD i []) v<0/\co (s.getD j []) v<0):=by
 have hm: ∀ q,q<s.length->s.getD q []∈s:=fun q hq=>by rw[qa,qb hq];exact ki _
 have I': ∀ q (hq:q<s.length),co (s.getD q []) v≠0-> ∀ x,aB (s.getD q []) x=co (s.getD q []) v*(x v - co (bZ v (s.getD q [])) 8):=by
  intro q hq h0 x;have h9:=hg.good.len9 _ (hm q hq);have hb:=dA (v:=v) h9 h0;have hc:aB (bZ v (s.getD q [])) x=co (bZ v (s.getD q [])) 8:=d_ (fun w hw=>by
   rw[hb.2 w (by omega)];by_cases UR:v=w
   .rw[if_pos UR]
   rw[if_neg UR,BC (NP w hw (fun e=>UR e.symm)) _ (hm q hq)];simp[Rat.zero_mul])
  rw[<-hc];exact kz hb hv
 have Xq: ∀ p q,p<s.length->q<s.length->p≠q->s.getD q []∈lR s p:=by
  intro p q hp hq wY;unfold lR;rw[qr];by_cases aH:q<p
  .left;rw[qa,qb hq];exact List.mem_take_iff_getElem.2 ⟨q,by omega,rfl⟩
  right;rw[qa,qb hq];refine List.mem_drop_iff_getElem.2 ⟨q - (p+1),by omega,?_⟩;congr 1;omega
 have up: ∀ p q,p<s.length->q<s.length->p≠q->0<co (s.getD p []) v->0<co (s.getD q []) v-> ¬co (bZ v (s.getD p [])) 8<=co (bZ v (s.getD q [])) 8:=by
  intro p q hp hq wY h1 h2 dT;obtain⟨y,hy,hn⟩:=(qq hg hp).1 (AQ p hp);have h3:=hy _ (Xq p q hp hq wY);rw[I' q hq (by grind)] at h3;rw[I' p hp (by grind)] at hn;have h4:co (bZ v (s.getD q [])) 8<y v:=by
   by_cases h:co (bZ v (s.getD q [])) 8<y v
   .exact h
   have:=Rat.mul_nonneg (show 0<=co (s.getD q []) v by grind) (show 0<=co (bZ v (s.getD q [])) 8 - y v by grind);grind
  have:=Rat.mul_nonneg (show 0<=co (s.getD p []) v by grind) (show 0<=y v - co (bZ v (s.getD p [])) 8 by grind);grind
 have dn: ∀ p q,p<s.length->q<s.length->p≠q->co (s.getD p []) v<0->co (s.getD q []) v<0-> ¬co (bZ v (s.getD q [])) 8<=co (bZ v (s.getD p [])) 8:=by
  intro p q hp hq wY h1 h2 dT;obtain⟨y,hy,hn⟩:=(qq hg hp).1 (AQ p hp);have h3:=hy _ (Xq p q hp hq wY);rw[I' q hq (by grind)] at h3;rw[I' p hp (by grind)] at hn;have h4:y v<co (bZ v (s.getD q [])) 8:=by
   by_cases h:y v<co (bZ v (s.getD q [])) 8
   .exact h
   have:=Rat.mul_nonneg (show 0<= -(co (s.getD q []) v) by grind) (show 0<=y v - co (bZ v (s.getD q [])) 8 by grind);grind
  have:=Rat.mul_nonneg (show 0<= -(co (s.getD p []) v) by grind) (show 0<=co (bZ v (s.getD p [])) 8 - y v by grind);grind
 constructor
 .rintro⟨h1,h2⟩
  have a:=up i j hi hj pL h1 h2
  have b:=up j i hj hi (fun e=>pL e.symm) h2 h1
  grind
 rintro⟨h1,h2⟩
 have a:=dn i j hi hj pL h1 h2
 have b:=dn j i hj hi (fun e=>pL e.symm) h2 h1
 grind
theorem lS {α:Type} {p:α->Bool}: ∀ {l:List α},(∀ (i j:Nat) (hi:i<l.length) (hj:j<l.length),i≠j-> ¬(p l[i]=true/\p l[j]=true))->(l.filter p).length<=1
 | [],_=>by simp
 | a::l,h=>by
  have ih:=lS (l:=l) (p:=p) (fun i j hi hj pL=>h (i+1) (j+1) (by simp;omega) (by simp;omega) (by omega));cases hp:p a with
  | false=>rw[List.filter_cons_of_neg (by rw[hp];simp)];exact ih
  | true=>
   rw[List.filter_cons_of_pos hp];have:l.filter p=[]:=by
    rw[List.filter_eq_nil_iff];intro b hb hpb;obtain⟨j,hj,rfl⟩:=List.mem_iff_getElem.1 hb;exact h 0 (j+1) (by simp) (by simp;omega) (by omega) ⟨hp,hpb⟩
   rw[this];simp
theorem Ib {s:List (List Raw)} {v:Nat} (hv:v<8) (hg:GoodT s) (AQ:WM s) (NP: ∀ w,w<8->w≠v->occ s w=false):(Yc s v).length<=1/\(PM s v).length<=1:=by
 have e: ∀ (i:Nat) (hi:i<s.length),s[i]=s.getD i []:=fun i hi=>by rw[qa,qb hi];rfl
 constructor
 .unfold Yc aR;rw[length_map,length_map];refine lS (fun i j hi hj pL h=>?_);rw[decide_eq_true_iff,decide_eq_true_iff,e i hi,e j hj] at h;exact(Kw hv hg AQ NP hi hj pL).1 h
 unfold PM aE;rw[length_map,length_map];refine lS (fun i j hi hj pL h=>?_);rw[decide_eq_true_iff,decide_eq_true_iff,e i hi,e j hj] at h;exact(Kw hv hg AQ NP hi hj pL).2 h
end Go.Pl
namespace Go.Pl
theorem adg {c:List (List Raw)} (h:GoodT c):D3 c:=by
 have hl:=h.good.len;have hn:=lQ c;refine⟨⟨fun l hl=>(h.good.lim l hl).mono (by decide),by omega,by omega,?_,fun l hl _=>h.good.lim l hl⟩,?_⟩
 .rw[h.good.self];exact h.good
 rw[h.good.self];exact h
theorem PW {c:List (List Raw)} (h:GoodT c) (hf:ei c=true):aU c=xZ c:=by
 unfold aU;rw[Fi h.good.len9 h.good.nc,h.good.self,hf,if_pos rfl];rfl
theorem Fk {x:Nat->Rat}: ¬In [dR ((-1:Int):Rat)] x:=by
 intro h;have h1:=h _ (List.mem_singleton.2 rfl);have c:=fun w hw=>r7 (q:=((-1:Int):Rat)) (w:=w) hw
 rw[nH,c 8 (by decide),c 0 (by decide),c 1 (by decide),c 2 (by decide),c 3 (by decide),c 4 (by decide),c 5 (by decide),c 6 (by decide),c 7 (by decide)] at h1;have e:((-1:Int):Rat)= -1:=rfl;simp[e] at h1;rcases h1 with h1 | h1
 .exact absurd h1 (by grind)
 exact absurd h1.2 (by grind)
theorem MB {cs:List (List Raw)} (h9: ∀ l∈cs,l.length=9) (hi:aZ cs=true) (x:Nat->Rat):In cs x↔jd (sysL cs []) x:=by
 have h2:=hi;unfold aZ at h2;rw[w8,Bool.not_eq_true'] at h2;exact xH h9 (iD h9) (fun hv=>by rw[(mA h9).2 hv] at h2;cases h2.1) x
theorem Ic {cs:List (List Raw)} (hi:aZ cs=true):ei (sysL cs [])=true:=by
 unfold aZ at hi;rw[w8] at hi;exact hi.2
theorem jr {cs:List (List Raw)} (h:D3 cs) (x:Nat->Rat):In (aU cs) x↔In cs x:=by
 have h9:=h.cs.len9;unfold aU;cases hi:aZ cs with
 | true=>
  rw[if_pos rfl,MB h9 hi];have hg:=i5 h.good;have h1:=in_pos hg.good.nc x;have h2:=pd h.good x;exact h1.trans h2
 | false=>
  rw[if_neg (by simp)];refine⟨fun hx=>absurd hx Fk,fun hx=>?_⟩;rw[(fk h9).2 ⟨x,hx⟩] at hi;cases hi
end Go.Pl
namespace Go.Pl
open Go.AM
def way (x y:Nat->Rat) (t:Rat):Nat->Rat:=fun i=>x i+t*(y i - x i)
theorem PX (a:List Raw) (x y:Nat->Rat) (t:Rat): ∀ k,lv a (way x y t) k=lv a x k+t*(lv a y k - lv a x k)
 | 0=>by simp only[lv];grind
 | k+1=>by
  simp only[lv];rw[PX a x y t k];simp only[way];grind
theorem mE (a:List Raw) (x y:Nat->Rat) (t:Rat):aB a (way x y t)=aB a x+t*(aB a y - aB a x):=PX a x y t 8
theorem Kx (y:Nat->Rat): ∀ (s:List (List Raw)) (x:Nat->Rat),jd s x-> ∃ e:Rat,0<e/\ ∀ t:Rat,0<=t->t<=e->jd s (way x y t)
 | [],x,_=>⟨1,by decide,fun t _ _ l hl=>by simp at hl⟩
 | m::s,x,h=>by
  obtain⟨e1,h1,k1⟩:=Kx y s x (fun l hl=>h l (mem_cons_of_mem _ hl));obtain⟨e2,h2,k2⟩:=Yd (aB m x) (aB m y - aB m x) (h m (by simp));by_cases h3:e1<=e2
  .refine⟨e1,h1,fun t ZN Jh l hl=>?_⟩;rcases List.mem_cons.1 hl with h4 | h4
   .subst h4;rw[mE];have:=k2 t (by grind) (by grind);grind
   exact k1 t ZN Jh l h4
  refine⟨e2,h2,fun t ZN Jh l hl=>?_⟩;rcases List.mem_cons.1 hl with h4 | h4
  .subst h4;rw[mE];have:=k2 t (by grind) Jh;grind
  exact k1 t ZN (by grind) l h4
theorem touch {s:List (List Raw)} {l m:List Raw} {z x0:Nat->Rat} (H: ∀ x,jd s x->0<aB l x->0<aB m x) (hz:jd s z) (hl:aB l z=0) (hm:aB m z<=0) (hx:0<aB l x0):
 aB m z=0/\ ∀ y,0<aB l y->0<aB m y:=by
 have key: ∀ y,0<aB l y-> ∃ e:Rat,0<e/\ ∀ t:Rat,0<t->t<=e->0<aB m z+t*(aB m y - aB m z):=by
  intro y hy;obtain⟨e,he,k⟩:=Kx y s z hz;refine⟨e,he,fun t h1 h2=>?_⟩;have h3:=H _ (k t (Rat.le_of_lt h1) h2) (by
   rw[mE,hl];have:=Rat.mul_pos h1 hy;grind)
  rw[mE] at h3;exact h3
 have h0:aB m z=0:=by
  by_cases h:aB m z=0
  .exact h
  exfalso;obtain⟨e,he,k⟩:=key x0 hx;obtain⟨e2,Hq,k2⟩:=Yd (-aB m z) (-(aB m x0 - aB m z)) (by grind);by_cases h3:e<=e2
  .have a1:=k e he Rat.le_refl;have a2:=k2 e (by grind) h3;grind
  have a1:=k e2 Hq (by grind);have a2:=k2 e2 (by grind) Rat.le_refl;grind
 refine⟨h0,fun y hy=>?_⟩
 obtain⟨e,he,k⟩:=key y hy
 have a1:=k e he Rat.le_refl
 rw[h0] at a1
 by_cases h:0<aB m y
 .exact h
 exfalso
 have:=Rat.mul_nonneg (Rat.le_of_lt he) (show 0<= -aB m y by grind)
 grind
theorem Tz {a b:Rat} (h: ∀ k:Rat,0<a+k*b):b=0:=by
 by_cases hb:b=0
 .exact hb
 exfalso;have h1:=h (-(a+1) / b);have h2: -(a+1) / b*b= -(a+1):=by grind
 grind
theorem PY {l m:List Raw} {z x0:Nat->Rat} (RB: ¬aN l) (hmc: ¬aN m) (h: ∀ y,0<aB l y->0<aB m y) (hl:aB l z=0) (hm:aB m z=0) (hx:0<aB l x0):
 ∃ c:Rat,0<c/\ ∀ i,i<9->co m i=c*co l i:=by
 obtain⟨u,hu,ZB⟩:=p_ RB
 have key: ∀ w,w<8->co m w*co l u=co m u*co l w:=by
  intro w hw;by_cases SG:w=u
  .rw[SG]
  have:co m w*co l u - co m u*co l w=0:=Tz (a:=aB m x0) (fun k=>by
   have h1:=h (upd (upd x0 w (x0 w+k*co l u)) u (x0 u - k*co l w)) (by
    rw[f0 hu,f0 hw,xW (fun e=>SG e.symm)];grind)
   rw[f0 hu,f0 hw,xW (fun e=>SG e.symm)] at h1;grind)
  grind
 have Ly:co m u≠0:=fun h0=>hmc (fun w hw=>by
  have:=key w hw;rw[h0,Rat.zero_mul] at this;rcases Rat.mul_eq_zero.1 this with h1 | h1
  .exact h1
  exact absurd h1 ZB)
 have hsg:0<=co m u*co l u:=by
  by_cases h0:0<=co m u*co l u
  .exact h0
  exfalso;have hn:0< -(co m u*co l u):=by grind
  have qS:=h x0 hx;have bA:0<(-(co m u*co l u))⁻¹:=Rat.inv_pos.2 hn;have hk:0<=(aB m x0+1)*(-(co m u*co l u))⁻¹:=Rat.mul_nonneg (by grind) (Rat.le_of_lt bA);have Lx:(aB m x0+1)*(-(co m u*co l u))⁻¹*(co m u*co l u)= -(aB m x0+1):=by
   have:=Rat.mul_inv_cancel (-(co m u*co l u)) (by grind);grind
  obtain⟨k,Nx⟩:=Hg ((aB m x0+1)*(-(co m u*co l u))⁻¹);rw[Nx] at hk Lx;have h1:=h (upd x0 u (x0 u+k*co l u)) (by
   rw[f0 hu];have hsq:0<=co l u*co l u:=by
    by_cases hp:0<=co l u
    .exact Rat.mul_nonneg hp hp
    have:=Rat.mul_nonneg (show 0<= -co l u by grind) (show 0<= -co l u by grind);grind
   have:=Rat.mul_nonneg hk hsq;grind)
  rw[f0 hu] at h1;grind
 have hc:0<co m u / co l u:=by
  have cX:co m u*co l u≠0:=fun h0=>by
   rcases Rat.mul_eq_zero.1 h0 with h1 | h1
   .exact Ly h1
   exact ZB h1
  by_cases hp:0<co m u / co l u
  .exact hp
  exfalso;have e:co m u / co l u*(co l u*co l u)=co m u*co l u:=by grind
  have hsq:0<=co l u*co l u:=by
   by_cases hp:0<=co l u
   .exact Rat.mul_nonneg hp hp
   have:=Rat.mul_nonneg (show 0<= -co l u by grind) (show 0<= -co l u by grind);grind
  have:=Rat.mul_nonneg (show 0<= -(co m u / co l u) by grind) hsq;grind
 obtain⟨c,kK⟩:=Hg (co m u / co l u)
 have ajq:c*co l u=co m u:=by rw[<-kK];grind
 rw[kK] at hc
 have DR: ∀ w,w<8->co m w=c*co l w:=by
  intro w hw;have:=key w hw;have e:(co m w - c*co l w)*co l u=0:=by rw[<-ajq] at this;grind
  rcases Rat.mul_eq_zero.1 e with h1 | h1
  .grind
  exact absurd h1 ZB
 refine⟨c,hc,fun i hi=>?_⟩
 by_cases h8:i<8
 .exact DR i h8
 have uc:i=8:=by omega
 subst uc
 rw[nH] at hl hm
 rw[DR 0 (by decide),DR 1 (by decide),DR 2 (by decide),DR 3 (by decide),DR 4 (by decide),DR 5 (by decide),DR 6 (by decide),DR 7 (by decide)] at hm
 grind
theorem PZ {x C:Rat} (hC:0<C):fX (x / C)=fX x / C:=by
 have h1:(x / C).num<0↔x / C<0:=eV;have h2:x.num<0↔x<0:=eV;have e:x / C*C=x:=by grind
 have h3:x / C<0↔x<0:=by
  constructor
  .intro h;have:=Rat.mul_pos (show 0< -(x / C) by grind) hC;grind
  intro h;by_cases h4:x / C<0
  .exact h4
  have:=Rat.mul_nonneg (show 0<=x / C by grind) (Rat.le_of_lt hC);grind
 unfold fX;split<;>split<;>grind
theorem Ky {l m:List Raw} {c:Rat} (hl:IsCn l) (hm:IsCn m) (nl:eL l=l) (nm:eL m=m) (RB: ¬aN l) (hmc: ¬aN m) (hc:0<c) (h: ∀ i,i<9->co m i=c*co l i):m=l:=by
 have h9l:=hl.len;have h9m:=hm.len;have bA:0<c⁻¹:=Rat.inv_pos.2 hc;have oK:c*c⁻¹=1:=Rat.mul_inv_cancel c (by grind);have e:m=(l.map (fun r=>r.q / c⁻¹)).map cn:=by
  refine CW hm ⟨_,rfl,by simp[h9l]⟩ (fun i hi=>?_);rw[h i hi];unfold co;rw[qa,qa,qb (by omega),qb (by simp;omega)];simp only[Option.getD_some,List.getElem_map,de];grind
 have aeY:(b' m).q=(b' l).q / c⁻¹:=by
  have:=p' (C:=c⁻¹) (by grind) (rs:=l);rw[<-e] at this;exact this
 have l0:=wF h9l RB;have m0:=wF h9m hmc;have AL:fX (b' m).q=c*fX (b' l).q:=by rw[aeY,PZ bA];grind
 have hp:=uN l0;rw[<-nl,<-nm];refine CW (jR h9m) (jR h9l) (fun i hi=>?_);rw[qc h9m m0 hi,qc h9l l0 hi,AL,h i hi];grind
end Go.Pl
namespace Go.Pl
theorem Fl (q:Rat):(dR q).length=9:=by simp[dR]
theorem P0 {k:Nat} {q:Rat} (hk:1<=k) (h:Bd k q):LOk k (dR q):=by
 have:dR q=((replicate 9 (0:Rat)).set 8 q).map cn:=by simp[dR]
 rw[this];refine LOk.of_map (by simp) (fun p hp=>?_);rcases List.mem_or_eq_of_mem_set hp with h1 | h1
 .rw[List.eq_of_mem_replicate h1];exact Bd.zero hk
 rw[h1];exact h
theorem rz_ok (k:Nat):rz.Ok k:=by
 refine⟨?_,?_,?_,?_⟩<;>simp[rz,Dig]
end Go.Pl
namespace Go.Pl
open Go.AM
theorem GoodT.nm {s:List (List Raw)} (h:GoodT s): ∀ l∈s,eL l=l:=by
 obtain⟨k,hk,hs,hz⟩:=h;exact hs.nm
theorem GoodT.sorted {s:List (List Raw)} (h:GoodT s):s.Pairwise (fun a b=>bV a b<0):=by
 obtain⟨k,hk,hs,hz⟩:=h;exact hs.sorted
theorem Fm {s t:List (List Raw)} (hs:GoodT s) (ht:GoodT t) (AQ:WM s) {x0:Nat->Rat} (h0:jd s x0) (bM: ∀ x,jd s x↔jd t x): ∀ l∈s,l∈t:=by
 intro l hl;obtain⟨i,hi,dW⟩:=List.mem_iff_getElem.1 hl;have AE:s.getD i []=l:=by rw[qa,qb hi,Option.getD_some,dW]
 obtain⟨y,hy,hly⟩:=(qq hs hi).1 (AQ i hi);rw[AE] at hly;have hp:0<aB l x0:=h0 l hl;have hd:0<aB l x0 - aB l y:=by grind
 have bA:0<(aB l x0 - aB l y)⁻¹:=Rat.inv_pos.2 hd;have gh:(aB l x0 - aB l y)*(aB l x0 - aB l y)⁻¹=1:=Rat.mul_inv_cancel _ (by grind);obtain⟨t0,ht0⟩:=Hg (aB l x0*(aB l x0 - aB l y)⁻¹);have ajs:0<t0:=by rw[<-ht0];exact Rat.mul_pos hp bA
 have h1t:0<1 - t0:=by
  have:1 - t0=(-aB l y)*(aB l x0 - aB l y)⁻¹:=by rw[<-ht0];grind
  rw[this];exact Rat.mul_pos (by grind) bA
 have hlz:aB l (way x0 y t0)=0:=by rw[mE,<-ht0];grind
 have hz:jd (lR s i) (way x0 y t0):=by
  intro a ha;rw[mE];have a1:=Rat.mul_pos h1t (h0 a (th ha));have a2:=Rat.mul_pos ajs (hy a ha);grind
 have Ve: ¬jd t (way x0 y t0):=fun h=>by
  have:=(bM _).2 h l hl;rw[hlz] at this;exact absurd this (by grind)
 obtain⟨m,hm,hmz⟩: ∃ m,m∈t/\ ¬0<aB m (way x0 y t0):=by
  apply Classical.byContradiction;intro cX;exact Ve (fun m hm=>Classical.byContradiction (fun h=>cX ⟨m,hm,h⟩))
 have H: ∀ x,jd (lR s i) x->0<aB l x->0<aB m x:=by
  intro x hx Om;refine(bM x).1 (fun a ha=>?_) m hm;rcases Ku hi ha with h | h
  .exact hx a h
  rw[h,AE];exact Om
 obtain⟨aju,sr⟩:=touch H hz hlz (by grind) hp;obtain⟨c,hc,uk⟩:=PY (hs.good.nc l hl) (ht.good.nc m hm) sr hlz aju hp;have:=Ky (hs.good.cnf l hl) (ht.good.cnf m hm) (hs.nm l hl) (ht.nm m hm) (hs.good.nc l hl) (ht.good.nc m hm) hc uk;rw[<-this];exact hm
theorem CX {s t:List (List Raw)} (hs:GoodT s) (ht:GoodT t) (is:WM s) (it:WM t) {x0:Nat->Rat} (h0:jd s x0) (bM: ∀ x,jd s x↔jd t x):s=t:=
 lM (lt:=fun a b=>bV a b<0) (fun a b h h'=>by rw[dM] at h';omega) s t hs.sorted ht.sorted
  (fun f=>⟨Fm hs ht is h0 bM f,Fm ht hs it ((bM x0).1 h0) (fun x=>(bM x).symm) f⟩)
theorem vH:cQ (dR ((-1:Int):Rat))=true:=(cv (Fl _)).2 (fun i hi=>by rw[r7 (by omega),if_neg (by omega)])
theorem uW:LOk 1 (dR ((-1:Int):Rat)):=P0 (by decide) ⟨by decide,by decide⟩
theorem Fo:D3 [dR ((-1:Int):Rat)]:=by
 have hs:sysL [dR ((-1:Int):Rat)] []=[]:=by
  show(if cQ (dR ((-1:Int):Rat)) then _ else _)=_;rw[if_pos vH];rfl
 have qY:ncs [dR ((-1:Int):Rat)]=[]:=Mw (fun l hl=>by
  rw[qz] at hl;subst hl;exact vH)
 have hg:GoodT (sysL [dR ((-1:Int):Rat)] []):=by
  rw[hs];have h0:bD []=0:=by decide
  exact⟨1,qp _,⟨List.Pairwise.nil,by simp,by simp,by simp⟩,⟨by omega,fun h=>by omega,fun h=>by omega,fun h=>by omega⟩⟩
 refine⟨⟨fun l hl=>?_,by decide,by rw[qY];decide,hg.good,fun l hl _=>?_⟩,hg⟩
 .rw[qz] at hl;subst hl;exact uW.mono (by decide)
 rw[qz] at hl;subst hl;exact uW.mono (by decide)
theorem Fp:aZ [dR ((-1:Int):Rat)]=false:=by
 cases h:aZ [dR ((-1:Int):Rat)] with
 | false=>rfl
 | true=>
  obtain⟨x,hx⟩:=(fk Fo.cs.len9).1 h;exact absurd hx Fk
theorem BL {a:List (List Raw)} (h:D3 a):D3 (aU a):=by
 unfold aU;split
 .exact adg (i5 h.good)
 exact Fo
theorem Ie {a:List (List Raw)} (h:D3 a):(aU a).length<=40:=by
 unfold aU;split
 .have:=(i5 h.good).good.len;exact gI (show(jq (sysL a []).length 0 (sysL a [])).length<=12 from this) (by decide)
 decide
theorem vI {a:List (List Raw)} (h:D3 a):aU (aU a)=aU a:=by
 cases hi:aZ a with
 | false=>
  have e:aU a=[dR ((-1:Int):Rat)]:=by unfold aU;rw[hi];rfl
  rw[e];unfold aU;rw[Fp];rfl
 | true=>
  have e:aU a=xZ (sysL a []):=by unfold aU;rw[hi];rfl
  have hg:=i5 h.good;have hf:ei (xZ (sysL a []))=true:=(MA h.good).trans (Ic hi);rw[e,PW hg hf];obtain⟨x0,Vh⟩:=er.1 hf;exact CX (i5 hg) hg (x9 hg) (x9 h.good) ((pd hg x0).2 Vh) (fun x=>pd hg x)
abbrev Kc:=List (List Raw)
abbrev RC:=List (List Raw)×List Tm
def cR:Kc->Kc->Int
 | [],[]=>0
 | [],_::_=> -1
 | _::_,[]=>1
 | a::az,b::bs=>if bV a b=0 then cR az bs else bV a b
def CnK (k:Kc):Prop:= ∀ f∈k,IsCn f
theorem CnK.tail {f:List Raw} {k:Kc} (h:CnK (f::k)):CnK k:=fun g hg=>h g (mem_cons_of_mem _ hg)
theorem CnK.head {f:List Raw} {k:Kc} (h:CnK (f::k)):IsCn f:=h f (by simp)
theorem mF: ∀ a:Kc,cR a a=0
 | []=>rfl
 | a::az=>by unfold cR;rw[if_pos (Mc a)];exact mF az
theorem gf: ∀ a b:Kc,cR a b= -cR b a
 | [],[]=>rfl
 | [],_::_=>rfl
 | _::_,[]=>rfl
 | a::az,b::bs=>by
  have h:=dM a b;unfold cR;by_cases h0:bV a b=0
  .rw[if_pos h0,if_pos (by omega)];exact gf az bs
  rw[if_neg h0,if_neg (by omega)];exact h
theorem k5: ∀ {a b:Kc},CnK a->CnK b->cR a b=0->a=b
 | [],[],_,_,_=>rfl
 | [],_::_,_,_,h=>by simp[cR] at h
 | _::_,[],_,_,h=>by simp[cR] at h
 | a::az,b::bs,ha,hb,h=>by
  unfold cR at h;by_cases h0:bV a b=0
  .rw[if_pos h0] at h;rw[BD ha.head hb.head h0,k5 ha.tail hb.tail h]
  rw[if_neg h0] at h;exact absurd h h0
theorem nI: ∀ {a b c:Kc},CnK a->CnK b->CnK c->cR a b<0->cR b c<0->cR a c<0
 | [],[],_,_,_,_,h,_=>by simp[cR] at h
 | [],_::_,[],_,_,_,_,h=>by simp[cR] at h
 | [],_::_,_::_,_,_,_,_,_=>by simp[cR]
 | _::_,[],_,_,_,_,h,_=>by simp[cR] at h
 | _::_,_::_,[],_,_,_,_,h=>by simp[cR] at h
 | a::az,b::bs,c::cs,ha,hb,hc,h1,h2=>by
  unfold cR at h1 h2 ⊢;by_cases e1:bV a b=0
  .rw[if_pos e1] at h1;rw[BD ha.head hb.head e1];by_cases e2:bV b c=0
   .rw[if_pos e2] at h2 ⊢;exact nI ha.tail hb.tail hc.tail h1 h2
   rw[if_neg e2] at h2 ⊢;exact h2
  rw[if_neg e1] at h1;by_cases e2:bV b c=0
  .rw[<-BD hb.head hc.head e2,if_neg e1];exact h1
  rw[if_neg e2] at h2;have:=vE ha.head hb.head hc.head h1 h2;rw[if_neg (by omega)];exact this
theorem x_ {a b c:Kc} (ha:CnK a) (hb:CnK b) (hc:CnK c) (h1:cR a b<0) (h2:cR b c<=0):cR a c<0:=by
 by_cases h:cR b c=0
 .rw[<-k5 hb hc h];exact h1
 exact nI ha hb hc h1 (by omega)
theorem Ae {a b c:Kc} (ha:CnK a) (hb:CnK b) (hc:CnK c) (h1:cR a b<=0) (h2:cR b c<=0):cR a c<=0:=by
 by_cases h:cR a b=0
 .rw[k5 ha hb h];exact h2
 have:=x_ ha hb hc (by omega) h2;omega
instance:DecidableEq Raw:=fun a b=>decidable_of_iff (a.neg=b.neg/\a.num=b.num/\a.den=b.den) ⟨fun⟨h1,h2,h3⟩=>by cases a;cases b;simp_all,fun h=>by subst h;exact⟨rfl,rfl,rfl⟩⟩
def db (k:Kc) (m:Mn):List RC->Rat
 | []=>0
 | r::l=>(if r.1=k then bP m r.2 else 0)+db k m l
theorem k6 (k:Kc) (m:Mn): ∀ a b:List RC,db k m (a++b)=db k m a+db k m b
 | [],b=>by simp[db,Rat.zero_add]
 | r::a,b=>by
  rw[List.cons_append,db,db,k6 k m a b,Rat.add_assoc]
theorem MC {k:Kc} {m:Mn} {a b:List RC} (h:a.Perm b):db k m a=db k m b:=by
 induction h with
 | nil=>rfl
 | cons x _ ih=>rw[db,db,ih]
 | swap x y l=>simp only[db];grind
 | trans _ _ h1 h2=>rw[h1,h2]
theorem qu {k:Kc} {m:Mn}: ∀ {l:List RC},(∀ r∈l,r.1≠k)->db k m l=0
 | [],_=>rfl
 | r::l,h=>by
  rw[db,if_neg (h r (by simp)),qu (fun x hx=>h x (mem_cons_of_mem _ hx))];grind
structure NF (l:List RC):Prop where
 sorted:l.Pairwise (fun a b=>cR a.1 b.1<0)
 cn: ∀ r∈l,CnK r.1
 can: ∀ r∈l,Canon r.2
 ne: ∀ r∈l,r.2≠[]
theorem NF.nil:NF []:=⟨.nil,by simp,by simp,by simp⟩
theorem NF.tail {r:RC} {l:List RC} (h:NF (r::l)):NF l:=
 ⟨(pairwise_cons.1 h.sorted).2,fun x hx=>h.cn x (mem_cons_of_mem _ hx),fun x hx=>h.can x (mem_cons_of_mem _ hx),fun x hx=>h.ne x (mem_cons_of_mem _ hx)⟩
theorem NF.head {r:RC} {l:List RC} (h:NF (r::l)): ∀ x∈l,cR r.1 x.1<0:=(pairwise_cons.1 h.sorted).1
theorem NF.up {k:Kc} {m:Mn} {r:RC} {l:List RC} (h:NF (r::l)) (hk:CnK k) (hc:cR k r.1<0):db k m (r::l)=0:=
 qu (fun x hx he=>by
  rcases List.mem_cons.1 hx with h1 | h1
  .rw[h1] at he;rw[he,mF] at hc;omega
  have:=nI hk (h.cn r (by simp)) (h.cn x hx) hc (h.head x h1);rw[he,mF] at this;omega)
theorem NF.own {m:Mn} {r:RC} {l:List RC} (h:NF (r::l)):db r.1 m (r::l)=bP m r.2:=by
 rw[db,if_pos rfl,qu (fun x hx he=>by have:=h.head x hx;rw[he,mF] at this;omega)];grind
theorem kD {p:List Tm} (hp:Canon p) (h:p≠[]): ∃ m,bP m p≠0:=by
 match p,hp,h with
 | t::q,hp,_=>exact⟨t.1,by rw[hp.sum_head];exact hp.nz t (by simp)⟩
theorem NF.uniq: ∀ {p q:List RC},NF p->NF q->(∀ k m,CnK k->db k m p=db k m q)->p=q
 | [],[],_,_,_=>rfl
 | [],r::q,_,hq,h=>by
  obtain⟨m,hm⟩:=kD (hq.can r (by simp)) (hq.ne r (by simp));have:=h r.1 m (hq.cn r (by simp));rw[hq.own,db] at this;exact absurd this.symm hm
 | r::p,[],hp,_,h=>by
  obtain⟨m,hm⟩:=kD (hp.can r (by simp)) (hp.ne r (by simp));have:=h r.1 m (hp.cn r (by simp));rw[hp.own,db] at this;exact absurd this hm
 | r::p,s::q,hp,hq,h=>by
  have hr:=hp.cn r (by simp);have hs:=hq.cn s (by simp);have Jk:=gf r.1 s.1;by_cases h1:cR r.1 s.1<0
  .obtain⟨m,hm⟩:=kD (hp.can r (by simp)) (hp.ne r (by simp));have:=h r.1 m hr;rw[hp.own,hq.up hr h1] at this;exact absurd this hm
  by_cases h2:cR s.1 r.1<0
  .obtain⟨m,hm⟩:=kD (hq.can s (by simp)) (hq.ne s (by simp));have:=h s.1 m hs;rw[hq.own,hp.up hs h2] at this;exact absurd this.symm hm
  have he:r.1=s.1:=k5 hr hs (by omega);have aeZ:r.2=s.2:=ku (hp.can r (by simp)) (hq.can s (by simp)) (fun m=>by
   have:=h r.1 m hr;rw[hp.own,he,hq.own] at this;exact this)
  have ja:r=s:=Prod.ext he aeZ;rw[ja];rw[ja] at h;rw[NF.uniq hp.tail hq.tail (fun k m hk=>by
   have:=h k m hk;rw[db,db] at this;grind)]
def jT:List RC->RC->List RC
 | [],r=>if r.2=[] then [] else [r]
 | x::l,r=>if r.2=[] then x::l else if cR x.1 r.1<0 then x::jT l r else
  if cR x.1 r.1=0 then(if nf (r.2++x.2)=[] then l else(r.1,nf (r.2++x.2))::l) else r::x::l
theorem Fq: ∀ {l:List RC} {r y:RC},y∈jT l r->y∈l\/y.1=r.1
 | [],r,y,h=>by
  unfold jT at h;split at h
  .simp at h
  .rw[qz] at h;right;rw[h]
 | x::l,r,y,h=>by
  unfold jT at h;split at h
  .exact .inl h
  split at h
  .rcases List.mem_cons.1 h with h | h
   .left;rw[h];simp
   rcases Fq h with h | h
   .exact .inl (mem_cons_of_mem _ h)
   exact .inr h
  split at h
  .split at h
   .exact .inl (mem_cons_of_mem _ h)
   rcases List.mem_cons.1 h with h | h
   .right;rw[h]
   exact .inl (mem_cons_of_mem _ h)
  rcases List.mem_cons.1 h with h | h
  .right;rw[h]
  exact .inl h
theorem Fu (k:Kc) (m:Mn): ∀ {l:List RC} {r:RC},(∀ x∈l,CnK x.1)->CnK r.1->db k m (jT l r)=db k m l+(if r.1=k then bP m r.2 else 0)
 | [],r,_,hr=>by
  unfold jT;by_cases h:r.2=[]
  .rw[if_pos h,h];simp[db,bP];grind
  .rw[if_neg h];simp only[db];grind
 | x::l,r,hl,hr=>by
  unfold jT;by_cases h:r.2=[]
  .rw[if_pos h,h];simp[bP];grind
  rw[if_neg h];by_cases h1:cR x.1 r.1<0
  .rw[if_pos h1,db,Fu k m (fun y hy=>hl y (mem_cons_of_mem _ hy)) hr,db];grind
  rw[if_neg h1];by_cases h2:cR x.1 r.1=0
  .rw[if_pos h2];have he:=k5 (hl x (by simp)) hr h2;have hs:bP m (nf (r.2++x.2))=bP m r.2+bP m x.2:=by rw[rN,fZ]
   by_cases h3:nf (r.2++x.2)=[]
   .rw[if_pos h3];rw[h3] at hs;have h0:bP m ([]:List Tm)=0:=rfl;rw[h0] at hs;rw[db,he];split<;>grind
   rw[if_neg h3,db,db,he];dsimp only;rw[hs];split<;>grind
  rw[if_neg h2];simp only[db];grind
theorem CY: ∀ {l:List RC} {r:RC},NF l->CnK r.1->Canon r.2->NF (jT l r)
 | [],r,_,hr,hc=>by
  unfold jT;split
  .exact .nil
  .next h=>exact⟨by simp,by simpa using hr,by simpa using hc,by simpa using h⟩
 | x::l,r,hl,hr,hc=>by
  unfold jT;by_cases h:r.2=[]
  .rw[if_pos h];exact hl
  rw[if_neg h];have hx:=hl.cn x (by simp);by_cases h1:cR x.1 r.1<0
  .rw[if_pos h1];have ih:=CY hl.tail hr hc;refine⟨pairwise_cons.2 ⟨fun y hy=>?_,ih.sorted⟩,fun y hy=>?_,fun y hy=>?_,fun y hy=>?_⟩
   .rcases Fq hy with h2 | h2
    .exact hl.head y h2
    rw[h2];exact h1
   .rcases List.mem_cons.1 hy with h2 | h2
    .rw[h2];exact hx
    exact ih.cn y h2
   .rcases List.mem_cons.1 hy with h2 | h2
    .rw[h2];exact hl.can x (by simp)
    exact ih.can y h2
   rcases List.mem_cons.1 hy with h2 | h2
   .rw[h2];exact hl.ne x (by simp)
   exact ih.ne y h2
  rw[if_neg h1];by_cases h2:cR x.1 r.1=0
  .rw[if_pos h2];have he:=k5 hx hr h2;by_cases h3:nf (r.2++x.2)=[]
   .rw[if_pos h3];exact hl.tail
   rw[if_neg h3];refine⟨pairwise_cons.2 ⟨fun y hy=>?_,hl.tail.sorted⟩,fun y hy=>?_,fun y hy=>?_,fun y hy=>?_⟩
   .have:=hl.head y hy;rw[he] at this;exact this
   .rcases List.mem_cons.1 hy with h4 | h4
    .rw[h4];exact hr
    exact hl.tail.cn y h4
   .rcases List.mem_cons.1 hy with h4 | h4
    .rw[h4];exact cS (Len8.app hc.len (hl.can x (by simp)).len)
    exact hl.tail.can y h4
   rcases List.mem_cons.1 hy with h4 | h4
   .rw[h4];exact h3
   exact hl.tail.ne y h4
  rw[if_neg h2];have Jk:=gf r.1 x.1;have aH:cR r.1 x.1<0:=by omega
  refine⟨pairwise_cons.2 ⟨fun y hy=>?_,hl.sorted⟩,fun y hy=>?_,fun y hy=>?_,fun y hy=>?_⟩
  .rcases List.mem_cons.1 hy with h4 | h4
   .rw[h4];exact aH
   exact nI hr hx (hl.tail.cn y h4) aH (hl.head y h4)
  .rcases List.mem_cons.1 hy with h4 | h4
   .rw[h4];exact hr
   exact hl.cn y h4
  .rcases List.mem_cons.1 hy with h4 | h4
   .rw[h4];exact hc
   exact hl.can y h4
  rcases List.mem_cons.1 hy with h4 | h4
  .rw[h4];exact h
  exact hl.ne y h4
def oC (l:List RC):List RC:=l.foldl jT []
def RcOk (l:List RC):Prop:= ∀ r∈l,CnK r.1/\Canon r.2
theorem CZ: ∀ {l s:List RC},NF s->RcOk l->NF (l.foldl jT s)/\ ∀ k m,db k m (l.foldl jT s)=db k m s+db k m l
 | [],s,hs,_=>⟨hs,fun k m=>by simp[db];grind⟩
 | r::l,s,hs,h=>by
  have hr:=h r (by simp);obtain⟨h1,h2⟩:=CZ (l:=l) (CY hs hr.1 hr.2) (fun x hx=>h x (mem_cons_of_mem _ hx));refine⟨h1,fun k m=>?_⟩;rw[foldl_cons,h2 k m,Fu k m hs.cn hr.1,db,Rat.add_assoc]
theorem tj {l:List RC} (h:RcOk l):NF (oC l):=(CZ NF.nil h).1
theorem tm {l:List RC} (h:RcOk l) (k:Kc) (m:Mn):db k m (oC l)=db k m l:=by
 have:=(CZ NF.nil h).2 k m;rw[show db k m []=0 from rfl,Rat.zero_add] at this;exact this
theorem NF.of {M l:List RC} (hM:NF M) (hl:RcOk l) (h: ∀ k m,CnK k->db k m M=db k m l):M=oC l:=
 hM.uniq (tj hl) (fun k m hk=>by rw[h k m hk,tm hl])
theorem NF.self {M:List RC} (hM:NF M):oC M=M:=(hM.of (fun r hr=>⟨hM.cn r hr,hM.can r hr⟩) (fun _ _ _=>rfl)).symm
theorem Ig {a b:List RC} (ha:RcOk a) (hb:RcOk b) (h: ∀ k m,CnK k->db k m a=db k m b):oC a=oC b:=
 (tj ha).of hb (fun k m hk=>by rw[tm ha,h k m hk])
theorem yc: ∀ (l s:List RC),(l.foldl jT s).length<=s.length+l.length
 | [],s=>by simp
 | r::l,s=>by
  have h:=yc l (jT s r);have h2: ∀ s:List RC,(jT s r).length<=s.length+1:=fun s=>by
   induction s with
   | nil=>unfold jT;split<;>simp
   | cons x s ih=>
    unfold jT;split
    .simp
    split
    .simp only[length_cons];omega
    split
    .split
     .simp only[length_cons];omega
     simp
    simp
  have:=h2 s;rw[foldl_cons,length_cons];omega
end Go.Pl
namespace Go.Proofs.YtjjbkjgifdhlcaaGreat
open Go.AM Go.Pl
set_option maxRecDepth 100000
set_option maxHeartbeats 4000000
abbrev RR:=List (List Raw)×List RT
def BM (r:RR):List FV:=[.sl (au r.1),.sl (aq r.2)]
def TA (r:RR):List PV:=[.fv (.sl (au r.1)),.fv (.sl (aq r.2))]
def aX (l:List RR):List (List FV):=l.map BM
def r8:RR:=([],[])
def rn (r:RC):RR:=(r.1,r.2.map tn)
abbrev RL' (l:List RR):PV:= .fv (.sl (aX l))
theorem Ih (r:RR):(BM r).map .fv=TA r:=rfl
theorem bt (l:List RR):(aX l).length=l.length:=by simp[aX]
theorem eG {l:List RR} {i:Nat} (h:i<l.length):(aX l).getD i []=BM (l.getD i r8):=by simp[aX,h]
theorem BN (l:List RR) (i:Nat) (r:RR):(aX l).set i (BM r)=aX (l.set i r):=by simp[aX,List.map_set]
theorem g7 (l:List RR) (r:RR):aX l++[BM r]=aX (l++[r]):=by simp[aX]
theorem ke {l:List RR} {i:Nat} (h:i<l.length):l.getD i r8∈l:=by
 rw[qa,qb h];exact ki h
theorem nJ {l:List RR} {i:Nat} (h:i<l.length):l.take (i+1)=l.take i++[l.getD i r8]:=by
 rw[List.take_succ_eq_append_getElem h,qa,qb h];rfl
theorem dB {l:List RR} {n:Nat} (h:l.length<=n):List.take n (aX l)=aX l:=eo (by rw[bt];exact h)
theorem MD {a b:Kc} {i:Nat} (ha:i<a.length) (hb:i<b.length):cR (a.drop i) (b.drop i)=
 if bV (a.getD i []) (b.getD i [])=0 then cR (a.drop (i+1)) (b.drop (i+1)) else bV (a.getD i []) (b.getD i []):=by
 rw[drop_eq_getElem_cons ha,drop_eq_getElem_cons hb,qa,qa,qb ha,qb hb]
 rfl
theorem ME {a b:Kc} {i:Nat} (ha:i<a.length) (hb:b.length<=i):cR (a.drop i) (b.drop i)=1:=by
 rw[drop_eq_getElem_cons ha,List.drop_of_length_le hb];rfl
theorem P3 {a b:Kc} {i:Nat} (ha:a.length<=i) (hi:i<=b.length):cR (a.drop i) (b.drop i)=if i<b.length then -1 else 0:=by
 rw[List.drop_of_length_le ha];by_cases h:i<b.length
 .rw[if_pos h,drop_eq_getElem_cons h];rfl
 rw[if_neg h,List.drop_of_length_le (by omega)];rfl
theorem adh (a b:List (List Raw)) (ha:AOk 1000000000 a) (hb:AOk 1000000000 b) (ZO:a.length<=1000) (ZP:b.length<=1000):
 Den Tryz.prog 200 [] [.fv (.sl (au a)),.fv (.sl (au b)),fV 201] [] (.int .i64 (cR a b)):=by
 have rla:=ay a
 have rlb:=ay b
 obtain⟨n,cP⟩:=ax a.length
 obtain⟨m,NO⟩:=ax b.length
 rw[cP] at rla ZO
 rw[NO] at rlb ZP
 obtain⟨R,hR⟩:=ax (cR a b)
 rw[hR]
 refine dq Tryz.func200 36 0 ?_
 refine bU rla ?_
 refine wl (α:=Nat) (fun i=>⟨[.fv (.sl (au a)),.fv (.sl (au b)),fV 201,.any,.any,.any,.int .i64 0,.any,.any,.any,.any,.fv (.sl (au a)),.int .i64 n,.int .i64 i]++replicate 25 .any,[]⟩)
  (fun i=>n - i) (fun i=>i<=n/\i<=m/\cR (a.drop i) (b.drop i)=R) 0 ?_ ?_ ?_
 .exact bQ []
 .exact⟨eB _,eB _,by rw[List.drop_zero,List.drop_zero];exact hR⟩
 rintro i ⟨h1,h2,h3⟩
 refine aY ?_
 refine bS ?_ ?_
 .intro g1 g2
  have mx:=bI (ls:=a) (i:=i) (by omega)
  have rx:=bK a i
  have hx:=ha _ mx
  have AV:=fun h=>MD (a:=a) (b:=b) (i:=i) (by omega) h
  obtain⟨x,mZ⟩:=ax (a.getD i [])
  rw[mZ] at rx hx AV
  have lx:=hx.len
  have rB:=aF lx
  have fx:=aO x
  have gx:=ah x
  have nZ:=ar lx
  by_cases hm:i<m
  .have e1:decide ((i:Int)>=(m:Int))=false:=sA
   have my:=bI (ls:=b) (i:=i) (by omega)
   have ry:=bK b i
   have hy:=hb _ my
   have Jp:=AV (by omega)
   obtain⟨y,wZ⟩:=ax (b.getD i [])
   rw[wZ] at ry hy Jp
   have ly:=hy.len
   have uh:=aF ly
   have fy:=aO y
   have gy:=ah y
   have pN:=ar ly
   have hd:=Pd x y hx hy
   obtain⟨c,hc⟩:=ax (bV x y)
   rw[hc] at hd Jp
   rw[h3] at Jp
   unfold RL at hd
   refine b_ (bT g2 rx rB fx gx lx nZ (aP rlb e1)) ?_
   repeat refine ag ?_
   refine b_ (fE ry uh fy gy ly pN) ?_
   repeat refine ag ?_
   refine kO hd ?_
   refine GU ?_
   by_cases h0:c=0
   .have e2:(c !=0)=false:=by rw[h0];rfl
    rw[if_pos h0] at Jp
    refine ae e2 ?_
    refine aw (i+1) ?_ ⟨by omega,by omega,Jp.symm⟩
    exact bQ []
   have e2:(c !=0)=true:=by simp[h0]
   rw[if_neg h0] at Jp
   refine ae e2 ?_
   subst Jp
   exact bj rfl
  have e1:decide ((i:Int)>=(m:Int))=true:=GV
  have he:=ME (a:=a) (b:=b) (i:=i) (by omega) (by omega)
  rw[h3] at he
  subst he
  refine b_ (bT g2 rx rB fx gx lx rlb e1) ?_
  repeat refine ag ?_
  exact bj rfl
 intro g1 g2
 have gF:i=n:=by omega
 have he:=P3 (a:=a) (b:=b) (i:=i) (by omega) (by omega)
 rw[h3,NO,gF] at he
 refine ae (bR g2 rla rlb) ?_
 by_cases h0:n<m
 .have e2:decide ((n:Int)<(m:Int))=true:=GV
  rw[if_pos h0] at he
  subst he
  refine ae e2 ?_
  exact bj rfl
 have e2:decide ((n:Int)<(m:Int))=false:=sA
 rw[if_neg h0] at he
 subst he
 refine ae e2 ?_
 exact bj rfl
theorem WN (a b:List (List Raw)) (ha:AOk 1000000000 a) (hb:AOk 1000000000 b) (ZO:a.length<=1000) (ZP:b.length<=1000):
 Den Tryz.prog 159 [] [.fv (.sl (au a)),.fv (.sl (au b))] [] (.int .i64 (cR a b)):=by
 have h:=adh a b ha hb ZO ZP
 refine dq Tryz.func159 6 0 ?_
 refine aY ?_
 refine aV h ?_
 refine ba ?_
 exact bj rfl
theorem adi (a b:RR) (ha:AOk 1000000000 a.1) (hb:AOk 1000000000 b.1) (ZO:a.1.length<=1000) (ZP:b.1.length<=1000):
 Den Tryz.prog 158 [] [.agg (TA a),.agg (TA b)] [] (.int .i64 (cR a.1 b.1)):=by
 have h:=WN a.1 b.1 ha hb ZO ZP
 unfold TA
 refine dq Tryz.func158 8 0 ?_
 refine aY ?_
 refine aV h ?_
 refine ba ?_
 exact bj rfl
theorem sl2 (o:Ob) (l:List Ob) (a b c:Nat) (u:FV):shutBs (o::l) 0 [.lsl 0 a b c,.fv u]=o::l:=rfl
theorem sl4 (o:Ob) (l:List Ob) (a b c:Nat) (u v w:FV):shutBs (o::l) 0 [.lsl 0 a b c,.fv u,.fv v,.fv w]=o::l:=rfl
theorem Kz (r:RR):(BM r).length=2:=rfl
theorem TB (r:RR):(TA r).length=2:=rfl
theorem BO (r:RR):List.take 2 (BM r)=BM r:=rfl
theorem MF (r:RR):List.drop 2 (BM r)=[]:=rfl
theorem KA (H:List Ob) (r:RR):lJ H (TA r)=some (BM r):=rfl
theorem KB (r:RR):(TA r).flatMap eZ=[]:=rfl
def BP (a b:RR):Prop:=cR a.1 b.1<0
theorem P4 (x y:RR) (h:BP x y): ¬BP y x:=by
 unfold BP at h ⊢;have:=gf x.1 y.1;omega
theorem Yf {x y z:RR} (hx:CnK x.1) (hy:CnK y.1) (hz:CnK z.1) (h1: ¬BP x y) (h2: ¬BP y z): ¬BP x z:=by
 unfold BP at h1 h2 ⊢;have e1:=gf x.1 y.1;have e2:=gf y.1 z.1;have e3:=gf x.1 z.1;have:=Ae hz hy hx (by omega) (by omega);omega
structure Yg (r:RR):Prop where
 cn:CnK r.1
 ok:AOk 1000000000 r.1
 len:r.1.length<=1000
theorem adj (ls:List RR) (hl: ∀ r∈ls,Yg r) (hn:ls.length<=1000000):
 ∃ H1 res,(fun H1 res=> ∃ ls',H1=[.row true (aX ls')]/\res=PV.tup []/\ls'.Perm ls/\ls'.Pairwise (fun a b=>¬BP b a)) H1 res/\
  Den Tryz.prog 232 [.row true (aX ls)] [.lsl 0 0 ls.length 2,.int .i64 0,.int .i64 ls.length,fV 158] H1 res:=by
 obtain⟨n,cP⟩:=ax ls.length
 rw[cP] at hn ⊢
 refine Wb Tryz.func232 49 1 ?_
 refine aY ?_
 refine wl (α:=Nat×List RR) (fun⟨i,l⟩=>⟨[.lsl 0 0 n 2,.int .i64 0,.int .i64 n,fV 158,.any,.any,.any,.any,.int .i64 i]++replicate 44 .any,[.row true (aX l)]⟩)
  (fun⟨i,_⟩=>n+1 - i) (fun⟨i,l⟩=>1<=i/\(i<=n\/i=1)/\l.Perm ls/\ ∀ p q,p<q->q<i->q<n-> ¬BP (l.getD q r8) (l.getD p r8)) (1,ls) ?_ ?_ ?_
 .exact bQ [0]
 .exact⟨qp _,Or.inr rfl,List.Perm.refl _,fun p q h1 h2 h3=>by omega⟩
 rintro⟨i,l⟩ ⟨oI,gF,eY,tU⟩
 have oP:l.length=n:=by rw[eY.length_eq,cP]
 refine aY ?_
 refine bS ?_ ?_
 .intro h1 h2
  refine ae h2 ?_
  refine wl (α:=Nat×List RR) (fun⟨j,l⟩=>⟨[.lsl 0 0 n 2,.int .i64 0,.int .i64 n,fV 158,.any,.any,.any,.any,.int .i64 i,.int .i64 j]++replicate 43 .any,[.row true (aX l)]⟩)
   (fun⟨j,_⟩=>j) (fun⟨j,l⟩=>j<=i/\l.Perm ls/\O8 r8 BP l i j) (i,l) ?_ ?_ ?_
  .exact bQ [0]
  .exact⟨qp _,eY,fun p q h3 h4 h5=>tU p q h3 (by omega) (by omega)⟩
  rintro⟨j,l⟩ ⟨hj,eY,pM⟩
  have oP:l.length=n:=by rw[eY.length_eq,cP]
  have Lw: ∀ t∈l,Yg t:=fun t ht=>hl t (eY.mem_iff.1 ht)
  have Ve: ∀ x∈l,∀ y∈l,∀ z∈l,¬BP x y-> ¬BP y z-> ¬BP x z:=fun x hx y hy z hz=>Yf (Lw x hx).cn (Lw y hy).cn (Lw z hz).cn
  refine aY ?_
  refine dw (by kernel_rfl) ?_
  refine ba ?_
  refine bS ?_ ?_
  .intro h3 h4
   obtain⟨p,rfl⟩: ∃ p,j=p+1:=⟨j - 1,by omega⟩
   have Ch:(((p+1:Nat):Int) - 1)=(p:Int):=by omega
   have m1:=Lw _ (ke (l:=l) (i:=p+1) (by omega))
   have m2:=Lw _ (ke (l:=l) (i:=p) (by omega))
   have bW:=adi _ _ m1.ok m2.ok m1.len m2.len
   have r1:=eG (l:=l) (i:=p+1) (by omega)
   have r2:=eG (l:=l) (i:=p) (by omega)
   have aH:BP (l.getD (p+1) r8) (l.getD p r8)↔cR (l.getD (p+1) r8).1 (l.getD p r8).1<0:=Iff.rfl
   have Jk:((aX l).set (p+1) (BM (l.getD p r8))).set p (BM (l.getD (p+1) r8))=aX (n6 r8 l (p+1)):=by
    rw[BN,BN];unfold n6;rw[Nat.add_sub_cancel]
   have r3:((aX l).set (p+1) (BM (l.getD p r8))).getD p []=BM (l.getD p r8):=by
    rw[qa,getElem?_set_ne (by omega),<-qa,r2]
   have tV:=fun h=>Bq r8 BP P4 (ls:=l) (i:=i) (j:=p+1) (by omega) hj (by omega) pM h
   have lC:=fun h=>p6 r8 BP (ls:=l) Ve (i:=i) (j:=p+1) (by omega) hj pM h
   have hsp:=xB r8 (ls:=l) (j:=p+1) (by omega) (by omega)
   rw[Nat.add_sub_cancel] at tV lC
   obtain⟨x,mZ⟩:=ax (l.getD (p+1) r8)
   obtain⟨y,wZ⟩:=ax (l.getD p r8)
   rw[mZ] at bW r1 aH Jk tV lC
   rw[wZ] at bW r2 r3 aH Jk tV lC
   have rl:=bt l
   obtain⟨z,hz⟩:=ax (cR x.1 y.1)
   rw[hz] at bW aH
   refine ae (bT h4 Ch r1 r2 @BO @Ih rl @Kz) ?_
   repeat refine ag ?_
   refine gp bW (by simp[cw,gW,KA,Ih]) ?_
   refine ae @KB ?_
   refine bS ?_ ?_
   .intro h5 h6
    refine ae h6 ?_
    refine dw (by kernel_rfl) ?_
    refine ae (bT Ch r1 r2 r3 @BO @Ih rl (bT @Kz @TB @MF Jk @length_set.{0} @KA @KB @append_nil.{0})) ?_
    repeat refine ag ?_
    refine aw (p,n6 r8 l (p+1)) ?_ ⟨by omega,hsp.trans eY,tV (aH.2 h5)⟩
    exact bQ [0]
   intro h5 h6
   have hd:=lC (Or.inr (fun h=>h5 (aH.1 h)))
   refine ae h6 ?_
   refine aw (i+1,l) ?_ ⟨by omega,by omega,eY,fun p q h7 h8 h9=>hd p q h7 (by omega)⟩
   exact bQ [0]
  intro h3 h4
  have hd:=p6 r8 BP (ls:=l) Ve (i:=i) (j:=j) (by omega) hj pM (Or.inl (by omega))
  refine ae h4 ?_
  refine aw (i+1,l) ?_ ⟨by omega,by omega,eY,fun p q h7 h8 h9=>hd p q h7 (by omega)⟩
  exact bQ [0]
 intro h1 h2
 have hpw:l.Pairwise (fun a b=>¬BP b a):=q_ r8 BP (fun p q h3 h4=>tU p q h3 (by omega) (by omega))
 refine ae h2 ?_
 exact⟨[.row true (aX l)],.tup [],⟨l,rfl,rfl,eY,hpw⟩,sq (cd:=True) (vs:=[]) rfl trivial rfl trivial rfl rfl rfl⟩
theorem adk (ls ls':List RR) (hn:ls.length<20) (h:Den Tryz.prog 232 [.row true (aX ls)] [.lsl 0 0 ls.length 2,.int .i64 0,.int .i64 ls.length,fV 158] [.row true (aX ls')] (.tup [])):
 Den Tryz.prog 199 [.row true (aX ls)] [.lsl 0 0 ls.length 2,.int .i64 ls.length,fV 158] [.row true (aX ls')] (.tup []):=by
 obtain⟨n,cP⟩:=ax ls.length
 rw[cP] at h hn ⊢
 have e1:decide ((20:Int)<=(n:Int))=false:=sA
 have e2:decide ((20:Int)<(n:Int))=false:=sA
 refine dq Tryz.func199 60 1 ?_
 refine aY ?_
 refine wl (α:=Unit) (fun _=>⟨[.lsl 0 0 n 2,.int .i64 n,fV 158,.any,.any,.any,.int .i64 20,.int .i64 0,.int .i64 20]++replicate 54 .any,[.row true (aX ls)]⟩)
  (fun _=>0) (fun _=>True) () ?_ trivial ?_
 .exact bQ [0]
 rintro⟨⟩ _
 refine bU e1 ?_
 refine ig 0 h trivial ?_
 simp -dsimp(disch:=omega) only[append_nil,sl4,List.set_cons_zero,jJ]
 refine wl (α:=Unit) (fun _=>⟨[.lsl 0 0 n 2,.int .i64 n,fV 158,.any,.any,.any,.int .i64 20,.int .i64 0,.int .i64 20]++replicate 54 .any,[.row true (aX ls')]⟩)
  (fun _=>0) (fun _=>True) () ?_ trivial ?_
 .exact bQ [0]
 rintro⟨⟩ _
 refine bU e2 ?_
 exact sq (cd:=True) (vs:=[]) rfl trivial rfl trivial rfl rfl rfl
theorem adl (ls:List RR) (hl: ∀ r∈ls,Yg r) (hn:ls.length<20):
 ∃ ls',ls'.Perm ls/\ls'.Pairwise (fun a b=>¬BP b a)/\Den Tryz.prog 157 [.row true (aX ls)] [.lsl 0 0 ls.length 2,fV 158] [.row true (aX ls')] (.tup []):=by
 obtain⟨H1,res,⟨ls',rfl,rfl,hp,hs⟩,h⟩:=adj ls hl (by omega)
 refine⟨ls',hp,hs,?_⟩
 have h2:=adk ls ls' hn h
 obtain⟨n,cP⟩:=ax ls.length
 rw[cP] at h2 hn ⊢
 refine dq Tryz.func157 7 1 ?_
 refine aY ?_
 refine ig 0 h2 trivial ?_
 refine ae @append_nil.{0} ?_
 exact sq (cd:=True) (vs:=[]) rfl trivial rfl trivial rfl rfl rfl
end Go.Proofs.YtjjbkjgifdhlcaaGreat
