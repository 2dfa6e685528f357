/- Contracts:integral.Between for polynomials in two variables. -/
import Derived.Test.YtjjbkjgifdhlcaaGreatT18
import Derived.Test.YtjjbkjgifdhlcaaGreatT17
import Derived.Test.YtjjbkjgifdhlcaaGreatT16
import Derived.Test.YtjjbkjgifdhlcaaGreatT8
import Derived.Test.YtjjbkjgifdhlcaaGreatT1
open Nat (reduceAdd reduceLT reduceLeDiff reduceMul)
open List (append_nil eq_of_mem_replicate filter_cons_of_neg length_map length_nil length_pos_of_mem length_set map_cons mem_cons_of_mem mem_filter mem_map mem_of_mem_drop mem_or_eq_of_mem_set not_mem_nil replicate)
namespace Go.Proofs.YtjjbkjgifdhlcaaGreat
open Go.AM Go.Pl
set_option maxRecDepth 100000
set_option maxHeartbeats 4000000
theorem canon_mem': ∀ {p:List Tm} {t:Tm},Canon p->t∈p->sumC t.1 p=t.2
 | x::p,t,h,ht=>by
  rcases List.mem_cons.1 ht with h1 | h1
  ·rw[h1];exact h.sum_head
  ·have hne:=gtM_ne (h.head t h1);have ih:=canon_mem' h.tail h1;rw[sumC,if_neg hne,ih];grind
theorem sumC_zero {m:Mn}: ∀ {T:List Tm},(∀ t∈T,t.1=m->t.2=0)->sumC m T=0
 | [],_=>rfl
 | t::T,h=>by
  rw[sumC,sumC_zero (fun u hu=>h u (mem_cons_of_mem _ hu))];by_cases he:t.1=m
  ·rw[if_pos he,h t (by simp) he];grind
  ·rw[if_neg he];grind
theorem z8_set_getD {i j:Nat} (hj:j<8):(z8.set i 1).getD j 0=if i=j then 1 else 0:=by
 by_cases h:i=j
 ·subst h;rw[if_pos rfl,getD_set_self (by rw[z8_length];exact hj)]
 ·rw[if_neg h,getD_set_other h];unfold z8;rw[qa,List.getElem?_replicate];split<;>rfl
theorem z8_getD {j:Nat}:z8.getD j 0=0:=by
 unfold z8;rw[qa,List.getElem?_replicate];split<;>rfl
structure FOk (w j:Nat) (l:List Raw):Prop where
 ok:LOk j l
 one: ∀ i,i<8->i≠w->co l i=0
theorem polyT_canon (l:List Raw):Canon (polyT l):=nf_canon (fun t ht=>by
 obtain⟨u,hu,rfl⟩:=mem_map.1 ht;unfold polyR at hu;rcases List.mem_append.1 hu with h | h
 ·obtain⟨j,_,rfl⟩:=mem_map.1 h;show(z8.set j 1).length=8;rw[length_set,z8_length]
 ·rw[qz] at h;rw[h];exact z8_length)
theorem polyT_uni {w j:Nat} {l:List Raw} (hw:w<8) (h:FOk w j l):Uni w 1 (polyT l):=fun t ht=>by
 have hc:=polyT_canon l;have hsum:=canon_mem' hc ht;have hnz:=hc.nz t ht;unfold polyT at hsum;rw[nf_sum] at hsum;obtain⟨x,hx,he⟩:=nf_keys ht;obtain⟨u,hu,rfl⟩:=mem_map.1 hx;have hu2:=hu;unfold polyR at hu;rcases List.mem_append.1 hu with h1 | h1
 ·obtain⟨i,hi,rfl⟩:=mem_map.1 h1;have hi8:=List.mem_range.1 hi;have he2:t.1=z8.set i 1:=he.symm;by_cases hiw:i=w
  ·subst hiw;rw[he2];refine⟨by rw[length_set,z8_length],fun k hk hne=>?_,?_⟩
   ·rw[z8_set_getD hk,if_neg (Ne.symm hne)]
   ·rw[z8_set_getD hw,if_pos rfl];omega
  ·exfalso;refine hnz ?_;rw[<-hsum];refine sumC_zero (fun t2 ht2 he3=>?_);obtain⟨u2,hu2,rfl⟩:=mem_map.1 ht2;unfold polyR at hu2;have he4:u2.1=z8.set i 1:=by rw[<-he2];exact he3
   rcases List.mem_append.1 hu2 with h5 | h5
   ·obtain⟨k,hk,rfl⟩:=mem_map.1 h5;have hk8:=List.mem_range.1 hk;have e5:=congrArg (fun m:List Int=>m.getD i 0) he4;dsimp only at e5;rw[z8_set_getD hi8,z8_set_getD hi8,if_pos rfl] at e5;by_cases hki:k=i
    ·subst hki;exact h.one k hk8 hiw
    ·rw[if_neg hki] at e5;omega
   ·rw[qz] at h5;subst h5;have e5:=congrArg (fun m:List Int=>m.getD i 0) he4;dsimp only at e5;rw[z8_set_getD hi8,if_pos rfl,z8_getD] at e5;omega
 ·rw[qz] at h1;subst h1;rw[<-he];exact⟨z8_length,fun k _ _=>z8_getD,by show 0<=z8.getD w 0/\z8.getD w 0<=1;rw[z8_getD];omega⟩
theorem uni_exp {w:Nat} {N:Int} {p:List Tm} (h:Uni w N p) (hN:0<=N): ∀ t∈p,∀ e∈t.1,0<=e/\e<=N:=fun t ht e he=>by
 obtain⟨a1,a2,a3⟩:=h t ht;obtain⟨i,hi,rfl⟩:=List.mem_iff_getElem.1 he;have e1:t.1.getD i 0=t.1[i]:=by rw[qa,qb hi];rfl
 rw[<-e1];by_cases hiw:i=w
 ·rw[hiw];exact a3
 ·rw[a2 i (by omega) hiw];omega
theorem duo_exp {v w:Nat} {N M K:Int} {p:List Tm} (h:Duo v w N M p) (hN:N<=K) (hM:M<=K) (hK:0<=K): ∀ t∈p,∀ e∈t.1,0<=e/\e<=K:=fun t ht e he=>by
 obtain⟨a1,a2,a3,a4⟩:=h t ht;obtain⟨i,hi,rfl⟩:=List.mem_iff_getElem.1 he;have e1:t.1.getD i 0=t.1[i]:=by rw[qa,qb hi];rfl
 rw[<-e1];by_cases hiw:i=w
 ·rw[hiw];omega
 ·by_cases hiv:i=v
  ·rw[hiv];omega
  ·rw[a2 i (by omega) hiv hiw];omega
theorem uni_ok {w:Nat} {N:Int} {p:List Tm} {j k:Nat} {E:Int} (h:Uni w N p) (hN:0<=N) (hE:N<=E) (hb:PB j p) (hj:1<=j) (hk:j<=k):LOkT k E p:=
 ⟨h.len8,fun t ht=>(hb.bd hj t ht).mono hk,fun t ht e he=>by have:=uni_exp h hN t ht e he;omega⟩
theorem sub_ok {v w Nv Nw kp kq:Nat} {p q:List Tm} (hv:v<8) (hw:w<8) (hvw:v≠w) (_hp:Canon p) (hd:Duo v w Nv Nw p) (hb:PB kp p) (hqc:Canon q) (hq:Uni w 1 q) (hqb:PB kq q) (hN:Nw+Nv<=9) (hk1:1<=kp)
 (hk:(Nv+1)*(kq+kp+1)+1+kq<=900000):SubOk q (partsT v p)/\Uni w ((Nw+Nv+1:Nat):Int) (substT v q p)/\PB ((Nv+1)*(kq+kp+1)+1) (substT v q p):=by
 have hparts:=hd.parts hv hvw
 have hpl:=partsT_len v p
 have hdg:=hd.deg (by omega)
 have hdge:=degT_ge (v:=v) (p:=p)
 have hpb: ∀ c∈partsT v p,PB kp c:=fun c hc=>by
  obtain⟨i,_,rfl⟩:=mem_map.1 hc;exact hb.part
 have hlen:(partsT v p).length<=Nv+1:=by omega
 have hh: ∀ i,Uni w ((Nw+Nv+1:Nat):Int) (hornT q ((partsT v p).drop i))/\PB ((Nv+1)*(kq+kp+1)+1) (hornT q ((partsT v p).drop i))/\Canon (hornT q ((partsT v p).drop i)):=fun i=>by
  have hdl:((partsT v p).drop i).length<=Nv+1:=by rw[qt];omega
  refine⟨(horn_uni hw hq (fun c hc=>hparts c (mem_of_mem_drop hc))).mono (by omega),(horn_bd hqb (fun c hc=>hpb c (mem_of_mem_drop hc))).mono ?_,hornT_canon hqc.len (fun c hc=>(hparts c (mem_of_mem_drop hc)).len8)⟩;have:=qn (kq+kp+1) hdl;omega
 have hsm:sortMax=12:=rfl
 refine⟨⟨fun i=>?_,fun i=>?_,fun c hc=>?_⟩,?_,?_⟩
 ·obtain⟨h1,h2,h3⟩:=hh i
  exact⟨uni_ok h1 (by omega) (by omega) h2 (by omega) (by omega),qnb (uni_len hw h3 h1) (by rw[hsm];omega)⟩
 ·obtain⟨h1,h2,h3⟩:=hh i
  have h4:=(h1.prod hw hq).nf
  have h5:=(h2.prod hqb).nf
  have e:((Nw+Nv+1:Nat):Int)+1=((Nw+Nv+2:Nat):Int):=by omega
  rw[e] at h4
  exact⟨uni_ok h4 (by omega) (by omega) h5 (by omega) (by omega),qnb (uni_len hw (nf_canon (Len8.prod h3.len hqc.len)) h4) (by rw[hsm];omega)⟩
 ·have h1:=hparts c hc
  have h3:Canon c:=by
   obtain⟨i,_,rfl⟩:=mem_map.1 hc;exact partT_canon _hp
  exact⟨uni_ok h1 (by omega) (by omega) (hpb c hc) hk1 (by have:=Nat.le_mul_of_pos_left (kq+kp+1) (show 0<Nv+1 by omega);omega),qnb (uni_len hw h3 h1) (by rw[hsm];omega)⟩
 ·have:=(hh 0).1
  rw[List.drop_zero] at this
  exact this
 ·have:=(hh 0).2.1
  rw[List.drop_zero] at this
  exact this
theorem bet_ok {v w Nv Nw kp j F:Nat} {p:List Tm} {lo hi:List Raw} (hv:v<8) (hw:w<8) (hvw:v≠w) (hp:Canon p) (hd:Duo v w Nv Nw p) (hb:PB kp p) (hpl:p.length<=12) (hF:0<F) (hFB:F<B)
 (hdv: ∀ d,1<=d->d<=Nv+1->d∣F) (hlo:FOk w j lo) (hhi:FOk w j hi) (hj:1<=j) (hj2:j<=1000) (hN:Nw+Nv<=8) (hk1:1<=kp) (hk2:kp<=400000)
 (K:Nat) (hK:(Nv+2)*(9*(j+1)+1+(kp+1)+1)+1=K) (hK2:K+9*(j+1)+1<=900000):
 Den Tryz.prog 33 [] [PL (p.map tn),.int .i64 v,RL lo,RL hi] [] (.tup [PL ((betT v lo hi p).map tn),.int .i64 0])/\Canon (betT v lo hi p)/\Uni w ((Nw+Nv+2:Nat):Int) (betT v lo hi p)/\PB (2*K+2) (betT v lo hi p):=by
 have hsm:sortMax=12:=rfl
 have hpc: ∀ t∈p,0<=t.1.getD v 0:=fun t ht=>(hd t ht).2.2.1.1
 have hpr:=prim_canon (v:=v) hv hp hpc
 have hprd:Duo v w ((Nv+1:Nat):Int) Nw (primL v p):=by
  have:=hd.prim hv hvw;rw[show((Nv:Int)+1)=((Nv+1:Nat):Int) by omega] at this;exact this
 have hprb:=hb.prim (v:=v) hF hFB (fun t ht=>⟨hpc t ht,hdv _ (by have:=hpc t ht;omega) (by have:=(hd t ht).2.2.1;omega)⟩)
 have uhi:=polyT_uni hw hhi
 have ulo:=polyT_uni hw hlo
 have bhi:=polyT_bd hhi.ok hj
 have blo:=polyT_bd hlo.ok hj
 have eK:(Nv+1+1)*(9*(j+1)+1+(kp+1)+1)+1=K:=hK
 have s1:=sub_ok (Nv:=Nv+1) (Nw:=Nw) hv hw hvw hpr hprd hprb (polyT_canon hi) uhi bhi (by omega) (by omega) (by rw[eK];omega)
 have s2:=sub_ok (Nv:=Nv+1) (Nw:=Nw) hv hw hvw hpr hprd hprb (polyT_canon lo) ulo blo (by omega) (by omega) (by rw[eK];omega)
 have eN:((Nw+(Nv+1)+1:Nat):Int)=((Nw+Nv+2:Nat):Int):=by omega
 rw[eN] at s1 s2
 rw[eK] at s1 s2
 have hbu:Uni w ((Nw+Nv+2:Nat):Int) (betT v lo hi p):=(s1.2.1.app s2.2.1.scale).nf
 have hbb:PB (2*K+2) (betT v lo hi p):=((s1.2.2.append (s2.2.2.scale (k:=1) ⟨by decide,by decide⟩)).nf).mono (by omega)
 have hbc:Canon (betT v lo hi p):=nf_canon (Len8.app s1.2.1.len8 s2.2.1.scale.len8)
 have hexp:=duo_exp hd (K:=1024) (by omega) (by omega) (by omega)
 have hlb:=uni_ok hbu (k:=1000000000) (E:=1000000) (by omega) (by omega) hbb (by omega) (by omega)
 have hpk:POk 900000 1024 p:=⟨hp,fun t ht=>(hb.bd hk1 t ht).mono (by omega),hexp⟩
 have hts:=(hpk.ts (by decide))
 have hnf:nfR (p.map tn)=p:=by unfold nfR;rw[map_tq_tn,nf_self hp]
 have hpk5:POk 500000 1024 p:=⟨hp,fun t ht=>(hb.bd hk1 t ht).mono (by omega),hexp⟩
 have h33:=iq33 (p.map tn) v hv lo hi (hpk5.ts (by decide)) (by rw[length_map];omega) (by rw[hnf];exact hpk) (by rw[hnf,hsm];exact hpl) hpk.validB (by
  rw[hnf];unfold lowB;rw[qob];intro t ht;exact qbb (by have:=(hd t ht).2.2.1;omega)) (hlo.ok.mono hj2) (hhi.ok.mono hj2) (hlo.one v hv hvw) (hhi.one v hv hvw)
  (by rw[hnf];exact s1.1) (by rw[hnf];exact s2.1) (by rw[hnf,hsm];exact qnb (uni_len hw hbc hbu) (by omega))
  (by rw[hnf];exact(topT_le (N:=1024) (by decide) hbc.len).2 (fun t ht x hx=>by have:=uni_exp hbu (by omega) t ht x hx;omega)) (by rw[hnf];exact hlb)
 rw[hnf] at h33
 exact⟨h33,hbc,hbu,hbb⟩
end Go.Proofs.YtjjbkjgifdhlcaaGreat
namespace Go.Pl
open Go.AM
def Two (v w:Nat) (cs:List (List Raw)):Prop:= ∀ l∈cs,∀ i,i<8->i≠v->i≠w->co l i=0
theorem nvars_two {v w:Nat} {cs:List (List Raw)} (h:Two v w cs):nvars cs<=2/\(v=w->nvars cs<=1):=by
 have key: ∀ w'∈(List.range 8).filter (occ cs),w'=v\/w'=w:=fun w' hw=>by
  rw[mem_filter,List.mem_range] at hw;obtain⟨l,hl,h0⟩:=occ_iff.1 hw.2;by_cases h1:w'=v
  ·exact .inl h1
  ·by_cases h2:w'=w
   ·exact .inr h2
   ·exact absurd (h l hl w' hw.1 h1 h2) h0
 have hnd:((List.range 8).filter (occ cs)).Pairwise (fun a b=>a≠b):=List.Pairwise.filter _ List.nodup_range;refine⟨?_,fun he=>?_⟩
 ·have:=nodup_length _ [v,w] hnd (fun f hf=>by rcases key f hf with h1 | h1<;>simp[h1])
  exact this
 ·subst he;have:=nodup_length _ [v] hnd (fun f hf=>by rcases key f hf with h1 | h1<;>simp[h1])
  exact this
theorem cst_of {v w k:Nat} {cs:List (List Raw)} (hk: ∀ l∈cs,LOk k l) (hk1:1<=k) (h2:Two v w cs) (hlen:cs.length<=100) (hn:((ncs cs).length<=7/\k<=59)\/(v=w/\(ncs cs).length<=12/\k<=499)):CsT cs:=by
 have h9: ∀ l∈cs,l.length=9:=fun l hl=>(hk l hl).len
 have his:=sysL_is h9;have h1:=sys_nvars h9 his;obtain⟨h3,h3'⟩:=nvars_two h2;have h4:=sys_length h9 his;have hg:GoodT (sysL cs []):=⟨2*k,by omega,SysF.of h9 his (fun l hl _=>nrmR_ok (hk l hl) hk1),⟨by omega,fun h=>by omega,fun h=>by
  rcases hn with hn | hn
  ·omega
  ·have:=h3' hn.1;omega,fun h=>by omega⟩⟩
 exact⟨⟨fun l hl=>(hk l hl).mono (by omega),hlen,by omega,hg.good,fun l hl _=>(hk l hl).mono (by omega)⟩,hg⟩
theorem canonP_mem {cs:List (List Raw)} (h9: ∀ l∈cs,l.length=9) (hi:innerB cs=true) {f:List Raw} (hf:f∈canonP cs): ∃ l∈cs,¬IsConst l/\f=nrmR l:=by
 unfold canonP at hf;rw[if_pos hi] at hf;exact((sysL_is h9).mem f).1 ((canL_sub _ _ _).subset hf)
theorem canonP_short {cs:List (List Raw)} (h9: ∀ l∈cs,l.length=9) (hi:innerB cs=true):(canonP cs).length<=(ncs cs).length:=by
 unfold canonP;rw[if_pos hi];exact qnb (canL_sub _ _ _).length_le (sys_length h9 (sysL_is h9))
theorem canonP_two {v w k:Nat} {cs:List (List Raw)} (hk: ∀ l∈cs,LOk k l) (hk1:1<=k) (h2:Two v w cs) (hi:innerB cs=true):(∀ l∈canonP cs,LOk (2*k) l)/\Two v w (canonP cs)/\ ∀ l∈canonP cs,¬IsConst l:=by
 have h9: ∀ l∈cs,l.length=9:=fun l hl=>(hk l hl).len
 refine⟨fun l hl=>?_,fun l hl i hi8 hv hw=>?_,fun l hl=>?_⟩<;>obtain⟨x,hx,hc,rfl⟩:=canonP_mem h9 hi hl
 ·exact nrmR_ok (hk x hx) hk1
 ·exact(nrmR_co (h9 x hx) hc (by omega)).2 (h2 x hx i hi8 hv hw)
 ·exact nrmR_const (h9 x hx) hc
theorem canonP_inner {cs:List (List Raw)} (h:CsT cs) (hi:innerB cs=true):innerB (canonP cs)=true:=by
 obtain⟨x,hx⟩:=(innerB_iff h.cs.len9).1 hi;exact(innerB_iff (canonP_cs h).cs.len9).2 ⟨x,(canon_in h x).2 hx⟩
theorem low_two {v w k:Nat} {cs:List (List Raw)} (hv:v<8) (hk: ∀ l∈cs,LOk k l) (hk1:1<=k) (h2:Two v w cs):(∀ l∈lowL cs v,LOk (2*k+1) l/\ ∀ i,i<8->i≠w->co l i=0)/\ ∀ l∈highL cs v,LOk (2*k+1) l/\ ∀ i,i<8->i≠w->co l i=0:=by
 have key: ∀ x∈cs,co x v≠0-> ∀ i,i<8->i≠w->co (solR v x) i=0:=fun x hx h0 i hi hw=>by
  have hb:=solR_bound (v:=v) (hk x hx).len h0;rw[hb.2 i (by omega)];by_cases hvi:v=i
  ·rw[if_pos hvi]
  ·rw[if_neg hvi,h2 x hx i hi (Ne.symm hvi) hw];grind
 refine⟨fun l hl=>⟨low_ok hk hk1 l hl,?_⟩,fun l hl=>⟨high_ok hk hk1 l hl,?_⟩⟩
 ·obtain⟨x,hx,h0,rfl⟩:=mem_low.1 hl;exact key x hx (fun he=>by rw[he] at h0;exact absurd h0 (by decide))
 ·obtain⟨x,hx,h0,rfl⟩:=mem_high.1 hl;exact key x hx (fun he=>by rw[he] at h0;exact absurd h0 (by decide))
theorem comb_one {w:Nat} {u l:List Raw} (hu:u.length=9) (hl:l.length=9) (h1: ∀ i,i<8->i≠w->co u i=0) (h2: ∀ i,i<8->i≠w->co l i=0): ∀ i,i<8->i≠w->co (comb u l) i=0:=fun i hi hw=>by
 rw[comb_at hu hl (by omega),h1 i hi hw,h2 i hi hw];grind
theorem low_none {v w u:Nat} {cs:List (List Raw)} (h2:Two v w cs) (hu:u<8) (hv:u≠v) (hw:u≠w):lowL cs u=[]/\highL cs u=[]:=by
 constructor
 ·unfold lowL;rw[filter_none (fun l hl=>by rw[h2 l hl u hu hv hw];rfl)];rfl
 ·unfold highL;rw[filter_none (fun l hl=>by rw[h2 l hl u hu hv hw];rfl)];rfl
theorem duo_len {v w:Nat} (hv:v<8) (hw:w<8) {Nv Nw:Nat} {p:List Tm} (hc:Canon p) (h:Duo v w Nv Nw p):p.length<=(Nv+1)*(Nw+1):=by
 obtain⟨f,hf⟩: ∃ f:Tm->Int,f=fun t=>t.1.getD v 0*((Nw:Int)+1)+t.1.getD w 0:=⟨_,rfl⟩
 have h1:(p.map f).Nodup:=by
  have:p.Pairwise (fun a b=>f a≠f b):=by
   refine List.Pairwise.imp_of_mem (fun{a b} ha hb hg he=>?_) hc.sorted;obtain⟨a1,a2,a3,a4⟩:=h a ha;obtain⟨b1,b2,b3,b4⟩:=h b hb;rw[hf] at he;dsimp only at he;have hvv:a.1.getD v 0=b.1.getD v 0:=by
    obtain⟨x,hx⟩:=ex1 (a.1.getD v 0);obtain⟨y,hy⟩: ∃ x,b.1.getD v 0=x:=⟨_,rfl⟩;obtain⟨s,hs⟩: ∃ x,a.1.getD w 0=x:=⟨_,rfl⟩;obtain⟨t,ht⟩: ∃ x,b.1.getD w 0=x:=⟨_,rfl⟩;rw[hx,hy,hs,ht] at he;rw[hx,hy];rw[hs] at a4;rw[ht] at b4;rcases Int.lt_trichotomy x y with h5 | h5 | h5
    ·have:(x+1)*((Nw:Int)+1)<=y*((Nw:Int)+1):=Int.mul_le_mul_of_nonneg_right (by omega) (by omega);rw[Int.add_mul] at this;omega
    ·exact h5
    ·have:(y+1)*((Nw:Int)+1)<=x*((Nw:Int)+1):=Int.mul_le_mul_of_nonneg_right (by omega) (by omega);rw[Int.add_mul] at this;omega
   have hww:a.1.getD w 0=b.1.getD w 0:=by rw[hvv] at he;omega
   refine gtM_ne hg (List.ext_getElem (by omega) (fun i hi1 hi2=>?_));have e:a.1.getD i 0=b.1.getD i 0:=by
    by_cases hiv:i=v
    ·rw[hiv];exact hvv
    ·by_cases hiw:i=w
     ·rw[hiw];exact hww
     ·rw[a2 i (by omega) hiv hiw,b2 i (by omega) hiv hiw]
   rw[qa,qb hi1,qa,qb hi2] at e;exact e
  exact List.pairwise_map.2 this
 have h2:=nodup_len ((Nv+1)*(Nw+1)) _ h1 (fun x hx=>by
  obtain⟨t,ht,rfl⟩:=mem_map.1 hx;obtain⟨_,_,b3,b4⟩:=h t ht;rw[hf];dsimp only;have e1:0<=t.1.getD v 0*((Nw:Int)+1):=Int.mul_nonneg b3.1 (by omega);have e2:t.1.getD v 0*((Nw:Int)+1)<=(Nv:Int)*((Nw:Int)+1):=Int.mul_le_mul_of_nonneg_right b3.2 (by omega);have e3:(((Nv+1)*(Nw+1):Nat):Int)=(Nv:Int)*((Nw:Int)+1)+((Nw:Int)+1):=by
   rw[Int.natCast_mul];show((Nv:Int)+1)*((Nw:Int)+1)=_;rw[Int.add_mul,Int.one_mul]
  omega)
 rw[length_map] at h2;exact h2
theorem Duo.nf {v w:Nat} {N M:Int} {p:List Tm} (h:Duo v w N M p):Duo v w N M (Go.Pl.nf p):=fun t ht=>by
 obtain⟨x,hx,he⟩:=nf_keys ht;rw[<-he];exact h x hx
theorem Uni.duo {v w:Nat} {N:Int} {p:List Tm} (h:Uni v N p) (hw:w<8) (hvw:w≠v):Duo v w N 0 p:=fun t ht=>by
 obtain⟨a1,a2,a3⟩:=h t ht;exact⟨a1,fun i hi h1 _=>a2 i hi h1,a3,by rw[a2 w hw hvw];omega⟩
theorem Duo.flat {v w:Nat} {N M:Int} {l:List RC} (h: ∀ r∈l,Duo v w N M r.2):Duo v w N M (l.flatMap (·.2)):=fun t ht=>by
 obtain⟨r,hr,h1⟩:=List.mem_flatMap.1 ht;exact h r hr t h1
theorem PB.flatR {k c:Nat} (hk:1<=k) {l:List RC} (h: ∀ r∈l,PB k r.2) (hc:l.length<=c):PB (c*(k+1)+1) (l.flatMap (·.2)):=by
 have:=PB.flat hk (l:=l.map (·.2)) (fun p hp=>by
  obtain⟨r,hr,rfl⟩:=mem_map.1 hp;exact h r hr)
 rw[length_map,<-List.flatMap_def] at this;exact this.mono (by have:=qn (k+1) hc;omega)
theorem ordR_mem {l:List RC} (hl:RcOk l) {r:RC} (hr:r∈ordR l):r.2=polyS' (l.filter (fun x=>decide (x.1=r.1)))/\ ∃ x∈l,x.1=r.1:=by
 have hnf:=ordR_NF hl;have hk:=hnf.cn r hr;have hsub:RcOk (l.filter (fun x=>decide (x.1=r.1))):=fun x hx=>hl x (mem_filter.1 hx).1
 have hown: ∀ {M:List RC},NF M->r∈M-> ∀ m,sumK r.1 m M=sumC m r.2:=fun{M}=>by
  induction M with
  | nil=>intro _ h;simp at h
  | cons x M ih=>
   intro hM h m;rcases List.mem_cons.1 h with h1 | h1
   ·rw[h1];exact hM.own
   ·have hlt:=hM.head r h1;have hne:x.1≠r.1:=fun he=>by rw[he,cmpC_self] at hlt;omega
    rw[sumK,if_neg hne,ih hM.tail h1 m];grind
 have hflt: ∀ m,sumK r.1 m l=sumC m ((l.filter (fun x=>decide (x.1=r.1))).flatMap (·.2)):=fun m=>by
  clear hl hr hnf hsub hown
  induction l with
  | nil=>rfl
  | cons x l ih=>
   rw[sumK,ih];by_cases he:x.1=r.1
   ·rw[if_pos he,List.filter_cons_of_pos (by simpa using he),List.flatMap_cons,sumC_append]
   ·rw[if_neg he,filter_cons_of_neg (by simpa using he)];grind
 refine⟨canon_uniq (hnf.can r hr) (nf_canon hsub.flat) (fun m=>?_),?_⟩
 ·unfold polyS';rw[nf_sum,<-hflt,<-ordR_sum hl,hown hnf hr]
 ·obtain⟨m,hm⟩:=canon_some (hnf.can r hr) (hnf.ne r hr);rw[<-hown hnf hr,ordR_sum hl,hflt] at hm;cases hf:l.filter (fun x=>decide (x.1=r.1)) with
  | nil=>rw[hf] at hm;exact absurd rfl hm
  | cons x t=>
   have:x∈l.filter (fun x=>decide (x.1=r.1)):=by rw[hf];simp
   rw[mem_filter] at this;exact⟨x,this.1,by simpa using this.2⟩
end Go.Pl
namespace Go.Proofs.YtjjbkjgifdhlcaaGreat
open Go.AM Go.Pl
set_option maxRecDepth 100000
set_option maxHeartbeats 4000000
structure RgQ (v w Nv Nw j kp n:Nat) (r:RC):Prop where
 ok: ∀ l∈r.1,LOk j l
 two:Two v w r.1
 len:r.1.length<=40
 ncl:(ncs r.1).length<=n
 can:Canon r.2
 duo:Duo v w Nv Nw r.2
 pb:PB kp r.2
 alt:(n<=7/\j<=59)\/(Two v v r.1/\n<=12/\j<=499)
structure Sizes (v w Nv Nw j kp n c:Nat):Prop where
 hv:v<8
 hw:w<8
 j1:1<=j
 k1:1<=kp
 box:(Nv+1)*(Nw+1)<=12
 nle:Nv<=100/\Nw<=100
 few:c<20
 pk:c*(kp+1)+1<=10000000
noncomputable def nrmL (l:List RC):List RC:=ordR ((l.filter (fun r=>innerB r.1)).map (fun r=>(canonP r.1,r.2)))
theorem map_tn_nf {p:List Tm} (h:Canon p):nfR (p.map tn)=p:=by unfold nfR;rw[map_tq_tn,nf_self h]
theorem RgQ.cst {v w Nv Nw j kp n c:Nat} {r:RC} (h:RgQ v w Nv Nw j kp n r) (s:Sizes v w Nv Nw j kp n c):CsT r.1:=by
 have h0:=h.len;have:=h.ncl;rcases h.alt with h1 | h1
 ·exact cst_of h.ok s.j1 h.two (by omega) (.inl (by omega))
 ·exact cst_of h.ok s.j1 h1.1 (by omega) (.inr ⟨rfl,by omega,h1.2.2⟩)
theorem RgQ.pok {v w Nv Nw j kp n c:Nat} {r:RC} (h:RgQ v w Nv Nw j kp n r) (s:Sizes v w Nv Nw j kp n c) (hc:1<=c):POk 10000000 1024 r.2/\r.2.length<=12:=by
 have h1:=s.pk;have h2:=Nat.le_mul_of_pos_left (kp+1) (show 0<c by omega);have h3:=s.nle;exact⟨⟨h.can,fun t ht=>(h.pb.bd s.k1 t ht).mono (by omega),duo_exp h.duo (by omega) (by omega) (by omega)⟩,qnb (duo_len s.hv s.hw h.can h.duo) s.box⟩
theorem polyP_ok {v w Nv Nw j kp n c:Nat} (s:Sizes v w Nv Nw j kp n c) {t:List RC} (h: ∀ r∈t,Canon r.2/\Duo v w Nv Nw r.2/\PB kp r.2) (hc:t.length<=c):
 Canon (polyS' t)/\Duo v w Nv Nw (polyS' t)/\PB (c*(kp+1)+1) (polyS' t)/\POk 10000000 1024 (polyS' t)/\(polyS' t).length<=12:=by
 have hd:Duo v w Nv Nw (polyS' t):=(Duo.flat (fun r hr=>(h r hr).2.1)).nf
 have hcn:Canon (polyS' t):=nf_canon (Duo.flat (fun r hr=>(h r hr).2.1)).len8
 have hb:PB (c*(kp+1)+1) (polyS' t):=(PB.flatR s.k1 (fun r hr=>(h r hr).2.2) hc).nf
 have h3:=s.nle
 exact⟨hcn,hd,hb,⟨hcn,fun t ht=>(hb.bd (by omega) t ht).mono s.pk,duo_exp hd (by omega) (by omega) (by omega)⟩,qnb (duo_len s.hv s.hw hcn hd) s.box⟩
theorem normL_rn {l:List RC} (hc: ∀ r∈l,Canon r.2):normL (l.map rn)=(l.filter (fun r=>innerB r.1&&!r.2.isEmpty)).map (fun r=>(canonP r.1,r.2)):=by
 unfold normL
 induction l with
 | nil=>rfl
 | cons r l ih=>
  have ih:=ih (fun x hx=>hc x (mem_cons_of_mem _ hx));have hr:nfR ((rn r).2)=r.2:=map_tn_nf (hc r (by simp));have hk:keepB (rn r)=(innerB r.1&&!r.2.isEmpty):=by unfold keepB;rw[hr];rfl
  rw[map_cons];cases hb:(innerB r.1&&!r.2.isEmpty) with
  | false=>rw[filter_cons_of_neg (by rw[hk,hb];decide),filter_cons_of_neg (by simp only[hb];decide),ih]
  | true=>
   rw[List.filter_cons_of_pos (by rw[hk,hb]),List.filter_cons_of_pos (by simp only[hb]),map_cons,map_cons,ih,hr];rfl
theorem ord_norm {l:List RC} (hc: ∀ r∈l,Canon r.2/\CsT r.1):RcOk (normL (l.map rn))/\ordR (normL (l.map rn))=nrmL l:=by
 have hcn: ∀ r∈l,CnK (canonP r.1):=fun r hr f hf=>((canQ (hc r hr).2).1 f hf).1
 have h1:RcOk (normL (l.map rn)):=fun x hx=>by
  rw[normL_rn (fun r hr=>(hc r hr).1)] at hx;obtain⟨r,hr,rfl⟩:=mem_map.1 hx;have:=(mem_filter.1 hr).1;exact⟨hcn r this,(hc r this).1⟩
 refine⟨h1,ordR_congr h1 (fun x hx=>by
  obtain⟨r,hr,rfl⟩:=mem_map.1 hx;have:=(mem_filter.1 hr).1;exact⟨hcn r this,(hc r this).1⟩) (fun k m _=>?_)⟩
 rw[normL_rn (fun r hr=>(hc r hr).1)];clear h1 hcn
 induction l with
 | nil=>rfl
 | cons r l ih=>
  have ih:=ih (fun x hx=>hc x (mem_cons_of_mem _ hx));cases hb:innerB r.1 with
  | false=>rw[filter_cons_of_neg (by simp[hb]),filter_cons_of_neg (by simp[hb]),ih]
  | true=>
   rw[List.filter_cons_of_pos (p:=fun r:RC=>innerB r.1) (by simp[hb]),map_cons,sumK,<-ih];by_cases he:r.2=[]
   ·rw[filter_cons_of_neg (by simp[he])];dsimp only;rw[he];simp[sumC];grind
   ·rw[List.filter_cons_of_pos (by simp[hb,he]),map_cons,sumK]
theorem nr_ok {v w Nv Nw j kp n c:Nat} {l:List RC} (s:Sizes v w Nv Nw j kp n c) (h: ∀ r∈l,RgQ v w Nv Nw j kp n r) (hc:l.length<=c):NrOk (l.map rn):=by
 have hcl: ∀ x∈l.map rn,∃ r∈l,x=rn r:=fun x hx=>by
  obtain⟨r,hr,rfl⟩:=mem_map.1 hx;exact⟨r,hr,rfl⟩
 have hpk: ∀ r∈l,POk 10000000 1024 r.2/\r.2.length<=12:=fun r hr=>(h r hr).pok s (by have:=length_pos_of_mem hr;omega)
 have hpk2:=s.pk;have hfew:=s.few;have hk2: ∀ r∈l,kp<=10000000:=fun r hr=>by
  have:=length_pos_of_mem hr;have:=Nat.le_mul_of_pos_left (kp+1) (show 0<c by omega);omega
 refine⟨fun x hx=>?_,fun x hx=>?_,fun x hx _=>?_,by rw[length_map];omega,fun x hx=>?_,?_,fun t u ht=>?_⟩
 ·obtain⟨r,hr,rfl⟩:=hcl x hx;have hk:=hpk r hr;exact⟨fun t ht=>(hk.1.ts (by decide) t ht).mono (by decide),by
   show PB _ ((r.2.map tn).map tq);rw[map_tq_tn];exact(h r hr).pb.mono (by have:=hk2 r hr;omega),by
   show(r.2.map tn).length<=_;rw[length_map];omega,by
   show(nfR (r.2.map tn)).length<=_;rw[map_tn_nf hk.1.canon];exact hk.2⟩
 ·obtain⟨r,hr,rfl⟩:=hcl x hx;exact(hpk r hr).1.validB
 ·obtain⟨r,hr,rfl⟩:=hcl x hx;exact(h r hr).cst s
 ·obtain⟨r,hr,rfl⟩:=hcl x hx;have:r.1.length<=40:=(h r hr).len;show r.1.length<=_;omega
 ·unfold normL;rw[length_map];exact qmb (List.length_filter_le _ _) (by rw[length_map];omega)
 ·have hmem: ∀ x∈t,∃ r∈l,x.2=r.2:=fun x hx=>by
   have:x∈normL (l.map rn):=ht.mem_iff.1 (List.mem_append_left _ hx);rw[normL_rn (fun r hr=>(h r hr).can)] at this;obtain⟨r,hr,rfl⟩:=mem_map.1 this;exact⟨r,(mem_filter.1 hr).1,rfl⟩
  have hlen:t.length<=c:=by
   have:=ht.length_eq;rw[qe,normL_rn (fun r hr=>(h r hr).can),length_map] at this;have h9:=List.length_filter_le (fun r:RC=>innerB r.1&&!r.2.isEmpty) l;omega
  have:=polyP_ok s (t:=t) (fun x hx=>by
   obtain⟨r,hr,he⟩:=hmem x hx;rw[he];exact⟨(h r hr).can,(h r hr).duo,(h r hr).pb⟩) hlen
  exact⟨this.2.2.2.1,this.2.2.2.2⟩
theorem chk_zero {l:List RC} (hc:l.length<=4000) (h: ∀ r∈l,r.1.length<=40) (hv: ∀ r∈l,POk 10000000 1024 r.2):chkV [l.map rn]=0:=by
 have h1:largeB (l.map rn)=false:=by
  unfold largeB;rw[Bool.or_eq_false_iff];refine⟨qcb (by rw[length_map];omega),?_⟩;rw[List.any_eq_false];intro x hx;obtain⟨r,hr,rfl⟩:=mem_map.1 hx;have:r.1.length<=40:=h r hr;have e:(rn r).1.length=r.1.length:=rfl;simp[largeC,e];omega
 have h2:validR (l.map rn)=true:=by
  unfold validR;rw[qob];intro x hx;obtain⟨r,hr,rfl⟩:=mem_map.1 hx;exact(hv r hr).validB
 unfold chkV;rw[if_neg (by simp[h1]),if_pos (by simp[h2])]
theorem norm_den {v w Nv Nw j kp n c:Nat} {l:List RC} (s:Sizes v w Nv Nw j kp n c) (h: ∀ r∈l,RgQ v w Nv Nw j kp n r) (hc:l.length<=c):
 Den Tryz.prog 90 [] [RL' (l.map rn)] [] (.tup [RL' ((nrmL l).map rn),.int .i64 0]):=by
 have hnr:=nr_ok s h hc
 have hfew:=s.few
 have hz:=chk_zero (l:=l) (by omega) (fun r hr=>(h r hr).len) (fun r hr=>((h r hr).pok s (by have:=length_pos_of_mem hr;omega)).1)
 have:=jq90 (l.map rn) hnr.len hnr.pg hnr.lim (fun _=>hnr)
 unfold norV at this
 rw[if_pos hz,(ord_norm (fun r hr=>⟨(h r hr).can,(h r hr).cst s⟩)).2] at this
 exact this
structure RgV (v w Nv Nw j kp n:Nat) (r:RC):Prop where
 q:RgQ v w Nv Nw j kp n r
 idem:canonP r.1=r.1
 inn:innerB r.1=true
 len:r.1.length<=n
theorem nrm_mem {v w Nv Nw j kp n c:Nat} {l:List RC} (s:Sizes v w Nv Nw j kp n c) (h: ∀ r∈l,RgQ v w Nv Nw j kp n r) (hj2: ∀ r∈l,(n<=7/\2*j<=59)\/(Two v v r.1/\n<=12/\2*j<=499)) (hc:l.length<=c):
 NF (nrmL l)/\(nrmL l).length<=c/\ ∀ r∈nrmL l,RgV v w Nv Nw (2*j) (c*(kp+1)+1) n r:=by
 obtain⟨h1,h2⟩:=ord_norm (l:=l) (fun r hr=>⟨(h r hr).can,(h r hr).cst s⟩)
 rw[<-h2]
 have hml:(normL (l.map rn)).length<=c:=by
  rw[normL_rn (fun r hr=>(h r hr).can),length_map];exact qnb (List.length_filter_le _ _) hc
 refine⟨ordR_NF h1,?_,fun r hr=>?_⟩
 ·have:=ordR_len (normL (l.map rn)) []
  unfold ordR
  rw[length_nil,Nat.zero_add] at this
  omega
 ·obtain⟨e1,x,hx,e2⟩:=ordR_mem h1 hr
  have hmem: ∀ y∈normL (l.map rn),∃ z∈l,innerB z.1=true/\y=(canonP z.1,z.2):=fun y hy=>by
   rw[normL_rn (fun r hr=>(h r hr).can)] at hy;obtain⟨z,hz,rfl⟩:=mem_map.1 hy;have hz2:=mem_filter.1 hz;exact⟨z,hz2.1,(qtb _ _ ▸ hz2.2).1,rfl⟩
  obtain⟨z,hz,hin,rfl⟩:=hmem x hx
  have hz':=h z hz
  have hcs:=hz'.cst s
  have h9:=hcs.cs.len9
  have hpl:=polyP_ok s (t:=(normL (l.map rn)).filter (fun x=>decide (x.1=r.1))) (fun y hy=>by
   obtain⟨z,hz,_,rfl⟩:=hmem y (mem_filter.1 hy).1;exact⟨(h z hz).can,(h z hz).duo,(h z hz).pb⟩) (qnb (List.length_filter_le _ _) hml)
  rw[<-e1] at hpl
  obtain⟨c1,c2,c3⟩:=canonP_two hz'.ok s.j1 hz'.two hin
  have hsh:=canonP_short h9 hin
  have hq:=canonP_len hcs
  have hncl:=hz'.ncl
  dsimp only at e2
  refine⟨⟨?_,?_,?_,?_,hpl.1,hpl.2.1,hpl.2.2.1,?_⟩,?_,?_,?_⟩
  ·rw[<-e2];exact c1
  ·rw[<-e2];exact c2
  ·rw[<-e2];exact hq
  ·rw[<-e2];exact qnb (ncs_le _) (by omega)
  ·rw[<-e2]
   rcases hj2 z hz with h5 | h5
   ·exact .inl h5
   ·exact .inr ⟨(canonP_two hz'.ok s.j1 h5.1 hin).2.1,h5.2⟩
  ·rw[<-e2];exact canonP_idem hcs
  ·rw[<-e2];exact canonP_inner hcs hin
  ·rw[<-e2];omega
theorem nrm_self {v w Nv Nw j kp n:Nat} {M:List RC} (hM:NF M) (h: ∀ r∈M,RgV v w Nv Nw j kp n r):nrmL M=M:=by
 unfold nrmL;rw[filter_all (fun r hr=>(h r hr).inn)];have:M.map (fun r=>(canonP r.1,r.2))=M:=by
  conv=>rhs;rw[<-List.map_id M]
  refine List.map_congr_left (fun r hr=>?_);rw[(h r hr).idem];rfl
 rw[this,hM.self]
theorem oth_mem {f:List Raw->List Raw} {l:List (List Raw)} {i:Nat} {x:List Raw} (h:x∈othL f l i l.length): ∃ o∈l,x=f o:=by
 unfold othL at h;obtain⟨k,hk,rfl⟩:=mem_map.1 h;exact⟨_,getD_memG (d:=[]) (List.mem_range.1 (mem_filter.1 hk).1),rfl⟩
theorem oth_len' (f:List Raw->List Raw) (l:List (List Raw)) {i:Nat} (hi:i<l.length):(othL f l i l.length).length+1<=l.length:=by
 have key: ∀ n,i<n->(othL f l i n).length+1<=n:=fun n=>by
  induction n with
  | zero=>intro h;omega
  | succ n ih=>
   intro h;by_cases hn:n=i
   ·subst hn;have:=oth_len f l n n;rw[oth_eq];omega
   ·have:=ih (by omega);rw[oth_ne f l hn,qe,qab];omega
 exact key _ hi
theorem slab_mem {rest lo hi:List (List Raw)} {p:List Tm} {v:Nat} {x:RC} (h:x∈slabI rest lo hi p v lo.length):
 ∃ i j,i<lo.length/\j<hi.length/\skipB (hi.getD j []) (lo.getD i [])=false/\x=(consP rest lo hi i j,betT v (lo.getD i []) (hi.getD j []) p):=by
 unfold slabI at h
 obtain⟨i,hi1,h⟩:=List.mem_flatMap.1 h
 unfold slabJ at h
 obtain⟨j,hj1,h⟩:=List.mem_flatMap.1 h
 split at h
 ·simp at h
 ·next hs=>exact⟨i,j,List.mem_range.1 hi1,List.mem_range.1 hj1,by simpa using hs,by simpa using h⟩
structure Step (Nv Nw j kp n K F:Nat):Prop where
 F0:0<F
 FB:F<B
 dv: ∀ d,1<=d->d<=Nv+1->d∣F
 N8:Nw+Nv<=8
 kp2:kp<=400000
 hK:(Nv+2)*(9*((2*j+1)+1)+1+(kp+1)+1)+1=K
 hK2:K+9*((2*j+1)+1)+1<=900000
 j2:j<=249
 n7:n<=40
theorem slab_step {v w Nv Nw j kp n c K F:Nat} {r:RC} (s:Sizes v w Nv Nw j kp n c) (hvw:v≠w) (t:Step Nv Nw j kp n K F) (h:RgV v w Nv Nw j kp n r) (hb12:r.2.length<=12):
 SlabOk r.1 r.2 v/\ ∀ x∈slabL r.1 r.2 v,(∀ l∈x.1,LOk (4*j+4) l)/\Two w w x.1/\x.1.length<=n/\Canon x.2/\Uni w ((Nw+Nv+2:Nat):Int) x.2/\PB (2*K+2) x.2:=by
 have hj2:=t.j2
 have hj1:=s.j1
 obtain⟨hl,hh⟩:=low_two s.hv h.q.ok s.j1 h.q.two
 have hbet: ∀ l∈lowL r.1 v,∀ u∈highL r.1 v,_:=fun l hl' u hu'=>
  bet_ok (p:=r.2) s.hv s.hw hvw h.q.can h.q.duo h.q.pb hb12 t.F0 t.FB t.dv (⟨(hl l hl').1,(hl l hl').2⟩:FOk w (2*j+1) l) (⟨(hh u hu').1,(hh u hu').2⟩:FOk w (2*j+1) u) (by omega) (by omega) t.N8 s.k1 t.kp2 K t.hK t.hK2
 refine⟨⟨s.hv,fun l hl=>(h.q.ok l hl).mono (by omega),h.q.len,fun l hl' u hu' _=>(hbet l hl' u hu').1⟩,fun x hx=>?_⟩
 unfold slabL at hx
 obtain⟨i,k,hi,hk,_,rfl⟩:=slab_mem hx
 have ml:=at_mem (ls:=lowL r.1 v) hi
 have mu:=at_mem (ls:=highL r.1 v) hk
 have hlx:=hl _ ml
 have hux:=hh _ mu
 have hb:=hbet _ ml _ mu
 have hsp:=split_length r.1 v
 have hrl:=h.len
 have hcomb: ∀ a b:List Raw,LOk (2*j+1) a->LOk (2*j+1) b->LOk (4*j+4) (comb a b):=fun a b ha hb=>(comb_ok ha hb (by omega)).mono (by omega)
 have key: ∀ f∈consP (restL r.1 v) (lowL r.1 v) (highL r.1 v) i k,LOk (4*j+4) f/\ ∀ i,i<8->i≠w->co f i=0:=fun f hf=>by
  unfold consP at hf;rcases List.mem_append.1 hf with hf | hf
  ·rcases List.mem_append.1 hf with hf | hf
   ·rcases List.mem_append.1 hf with hf | hf
    ·obtain⟨h1,h2⟩:=mem_rest.1 hf;refine⟨(h.q.ok f h1).mono (by omega),fun q hq hne=>?_⟩;by_cases hqv:q=v
     ·rw[hqv];exact h2
     ·exact h.q.two f h1 q hq hqv hne
    ·rw[qz] at hf;subst hf;exact⟨hcomb _ _ hux.1 hlx.1,comb_one hux.1.len hlx.1.len hux.2 hlx.2⟩
   ·obtain⟨o,ho,rfl⟩:=oth_mem hf;have:=hl o ho;exact⟨hcomb _ _ hlx.1 this.1,comb_one hlx.1.len this.1.len hlx.2 this.2⟩
  ·obtain⟨o,ho,rfl⟩:=oth_mem hf;have:=hh o ho;exact⟨hcomb _ _ this.1 hux.1,comb_one this.1.len hux.1.len this.2 hux.2⟩
 refine⟨fun l hl=>(key l hl).1,fun l hl i hi hne _=>(key l hl).2 i hi hne,?_,hb.2.1,hb.2.2.1,hb.2.2.2⟩
 have o1:=oth_len' (comb ((lowL r.1 v).getD i [])) (lowL r.1 v) hi
 have o2:=oth_len' (fun o=>comb o ((highL r.1 v).getD k [])) (highL r.1 v) hk
 show(consP _ _ _ i k).length<=n
 unfold consP
 rw[qe,qe,qe,qab]
 omega
theorem mul_le {a b n m:Nat} (h:a+b<=n) (hn:n<=5) (hm:6<=m):a*b<=m:=by
 have:a<=5:=by omega
 have:a=0\/a=1\/a=2\/a=3\/a=4\/a=5:=by omega
 rcases this with rfl | rfl | rfl | rfl | rfl | rfl<;>omega
theorem elim_len {v q:Nat}: ∀ {M:List RC},(∀ r∈M,(slabL r.1 r.2 v).length<=q)->(elimO M v).length<=M.length*q
 | [],_=>by simp[elimO]
 | r::M,h=>by
  have ih:=elim_len (v:=v) (q:=q) (M:=M) (fun x hx=>h x (mem_cons_of_mem _ hx));have h1:=h r (by simp);unfold elimO at ih ⊢;rw[List.flatMap_cons,qe,List.length_cons,Nat.add_mul];omega
theorem slab_len (c:Kc) (p:List Tm) (v:Nat):(slabL c p v).length<=(lowL c v).length*(highL c v).length:=slabI_len _ _ _ _ _ _
theorem one_each {v w Nv Nw j kp n c:Nat} {r:RC} (s:Sizes v w Nv Nw j kp n c) (h:RgV v w Nv Nw j kp n r) (h1:Two v v r.1):(lowL r.1 v).length<=1/\(highL r.1 v).length<=1:=by
 have hcs:=h.q.cst s;have he:r.1=canS (sysL r.1 []):=by
  have:=h.idem;unfold canonP at this;rw[h.inn,if_pos rfl] at this;exact this.symm
 have:=low_le_one (s:=canS (sysL r.1 [])) s.hv (canS_good hcs.good) (canS_irr hcs.good) (fun w hw hne=>by
  rw[<-he];cases ho:occ r.1 w with
  | false=>rfl
  | true=>
   obtain⟨l,hl,h0⟩:=occ_iff.1 ho;exact absurd (h1 l hl w hw hne hne) h0)
 rw[<-he] at this;unfold lowQ highQ at this;rw[length_map,length_map] at this;exact this
noncomputable def elimE (M:List RC) (v:Int):Int×List RC:=
 if v<0\/8<=v then(1,[]) else if M.any (missB v.toNat)=true then(15,[]) else(0,nrmL (elimO M v.toNat))
theorem nrm_mem0 {v w Nv Nw j kp n c:Nat} {l:List RC} (s:Sizes v w Nv Nw j kp n c) (h: ∀ r∈l,RgQ v w Nv Nw j kp n r) (hc:l.length<=c):
 NF (nrmL l)/\(nrmL l).length<=c/\ ∀ r∈nrmL l,(∃ z∈l,innerB z.1=true/\r.1=canonP z.1)/\POk 10000000 1024 r.2/\r.2.length<=12/\Duo v w Nv Nw r.2/\PB (c*(kp+1)+1) r.2:=by
 obtain⟨h1,h2⟩:=ord_norm (l:=l) (fun r hr=>⟨(h r hr).can,(h r hr).cst s⟩)
 rw[<-h2]
 have hml:(normL (l.map rn)).length<=c:=by
  rw[normL_rn (fun r hr=>(h r hr).can),length_map];exact qnb (List.length_filter_le _ _) hc
 refine⟨ordR_NF h1,?_,fun r hr=>?_⟩
 ·have:=ordR_len (normL (l.map rn)) []
  unfold ordR
  rw[length_nil,Nat.zero_add] at this
  omega
 ·obtain⟨e1,x,hx,e2⟩:=ordR_mem h1 hr
  have hmem: ∀ y∈normL (l.map rn),∃ z∈l,innerB z.1=true/\y=(canonP z.1,z.2):=fun y hy=>by
   rw[normL_rn (fun r hr=>(h r hr).can)] at hy;obtain⟨z,hz,rfl⟩:=mem_map.1 hy;have hz2:=mem_filter.1 hz;exact⟨z,hz2.1,(qtb _ _ ▸ hz2.2).1,rfl⟩
  obtain⟨z,hz,hin,rfl⟩:=hmem x hx
  have hpl:=polyP_ok s (t:=(normL (l.map rn)).filter (fun x=>decide (x.1=r.1))) (fun y hy=>by
   obtain⟨z,hz,_,rfl⟩:=hmem y (mem_filter.1 hy).1;exact⟨(h z hz).can,(h z hz).duo,(h z hz).pb⟩) (qnb (List.length_filter_le _ _) hml)
  rw[<-e1] at hpl
  exact⟨⟨z,hz,hin,e2.symm⟩,hpl.2.2.2.1,hpl.2.2.2.2,hpl.2.1,hpl.2.2.1⟩
theorem inner_nil:innerB []=true:=(innerB_iff (by simp)).2 ⟨fun _=>0,fun l hl=>by simp at hl⟩
theorem canonP_nil:canonP []=[]:=by
 unfold canonP;rw[inner_nil];rfl
theorem nrmL_nil:nrmL []=[]:=rfl
theorem elimO_nil (v:Nat):elimO [] v=[]:=rfl
structure IA (v w:Nat) (M:List RC):Prop where
 nf:NF M
 len:M.length<=2
 rg: ∀ r∈M,RgV v w 2 2 12 49 5 r
structure IB (v w:Nat) (M:List RC):Prop where
 nf:NF M
 len:M.length<=12
 rg: ∀ r∈M,RgV v w 6 0 104 27517 5 r/\Two v v r.1
structure IC (M:List RC):Prop where
 nf:NF M
 len:M.length<=1
 rg: ∀ r∈M,r.1=[]/\POk 10000000 1024 r.2/\r.2.length<=12
 den:Den Tryz.prog 90 [] [RL' (M.map rn)] [] (.tup [RL' (M.map rn),.int .i64 0])
theorem sizeA {v w:Nat} (hv:v<8) (hw:w<8):Sizes v w 2 2 12 49 5 2:=⟨hv,hw,by decide,by decide,by decide,by decide,by decide,by decide⟩
theorem sizeB1 {v w:Nat} (hv:v<8) (hw:w<8):Sizes v w 6 0 52 2292 5 12:=⟨hv,hw,by decide,by decide,by decide,by decide,by decide,by decide⟩
theorem sizeB {v w:Nat} (hv:v<8) (hw:w<8):Sizes v w 6 0 104 27517 5 12:=⟨hv,hw,by decide,by decide,by decide,by decide,by decide,by decide⟩
theorem sizeC1 {v w:Nat} (hv:v<8) (hw:w<8):Sizes v w 8 0 420 470564 5 12:=⟨hv,hw,by decide,by decide,by decide,by decide,by decide,by decide⟩
theorem sizeC {v w:Nat} (hv:v<8) (hw:w<8):Sizes v w 8 0 1 5646781 0 1:=⟨hv,hw,by decide,by decide,by decide,by decide,by decide,by decide⟩
theorem dvd6 (d:Nat) (h1:1<=d) (h2:d<=2+1):d∣6:=by
 have:d=1\/d=2\/d=3:=by omega
 rcases this with rfl | rfl | rfl<;>decide
theorem dvd5040 (d:Nat) (h1:1<=d) (h2:d<=6+1):d∣5040:=by
 have:d=1\/d=2\/d=3\/d=4\/d=5\/d=6\/d=7:=by omega
 rcases this with rfl | rfl | rfl | rfl | rfl | rfl | rfl<;>decide
theorem stepA:Step 2 2 12 49 5 1145 6:=⟨by decide,by decide,dvd6,by decide,by decide,by decide,by decide,by decide,by decide⟩
theorem stepB:Step 6 0 104 27517 5 235281 5040:=⟨by decide,by decide,dvd5040,by decide,by decide,by decide,by decide,by decide,by decide⟩
theorem RgV.swap {v w N j kp n:Nat} {r:RC} (h:RgV v w N N j kp n r) (hs:n<=7/\j<=59):RgV w v N N j kp n r:=
 ⟨⟨h.q.ok,fun l hl i hi h1 h2=>h.q.two l hl i hi h2 h1,h.q.len,h.q.ncl,h.q.can,fun t ht=>by
  obtain⟨a1,a2,a3,a4⟩:=h.q.duo t ht;exact⟨a1,fun i hi h1 h2=>a2 i hi h2 h1,a4,a3⟩,h.q.pb,.inl hs⟩,h.idem,h.inn,h.len⟩
theorem IA.swap {v w:Nat} {M:List RC} (h:IA v w M):IA w v M:=⟨h.nf,h.len,fun r hr=>(h.rg r hr).swap (by decide)⟩
theorem IC.nil:IC []:=⟨.nil,by decide,by simp,by
 have:=norm_den (l:=[]) (sizeA (v:=0) (w:=1) (by decide) (by decide)) (by simp) (by simp);exact this⟩
theorem IA.den {v w:Nat} {M:List RC} (hv:v<8) (hw:w<8) (h:IA v w M):Den Tryz.prog 90 [] [RL' (M.map rn)] [] (.tup [RL' (M.map rn),.int .i64 0]):=by
 have:=norm_den (sizeA hv hw) (fun r hr=>(h.rg r hr).q) h.len;rw[nrm_self h.nf h.rg] at this;exact this
theorem IB.den {v w:Nat} {M:List RC} (hv:v<8) (hw:w<8) (h:IB v w M):Den Tryz.prog 90 [] [RL' (M.map rn)] [] (.tup [RL' (M.map rn),.int .i64 0]):=by
 have:=norm_den (sizeB hv hw) (fun r hr=>(h.rg r hr).1.q) h.len;rw[nrm_self h.nf (fun r hr=>(h.rg r hr).1)] at this;exact this
theorem IA.elim {v w:Nat} {M:List RC} (hv:v<8) (hw:w<8) (hvw:v≠w) (h:IA v w M):
 (∀ r∈M,SlabOk r.1 r.2 v)/\(elimO M v).length<=12/\Den Tryz.prog 90 [] [RL' ((elimO M v).map rn)] [] (.tup [RL' ((nrmL (elimO M v)).map rn),.int .i64 0])/\IB w v (nrmL (elimO M v)):=by
 have hs:=fun r hr=>slab_step (sizeA hv hw) hvw stepA (h.rg r hr) (((h.rg r hr).q.pok (sizeA hv hw) (by decide)).2)
 have hl:(elimO M v).length<=12:=by
  have:=elim_len (v:=v) (q:=6) (M:=M) (fun r hr=>qnb (slab_len _ _ _) (mul_le (by
   have h1:=split_length r.1 v;have h2:=(h.rg r hr).len;omega) (qp 5) (by decide)))
  have h2:=h.len;omega
 have hq: ∀ x∈elimO M v,RgQ w v 6 0 52 2292 5 x/\Two w w x.1:=fun x hx=>by
  obtain⟨r,hr,hx⟩:=List.mem_flatMap.1 hx;obtain⟨a1,a2,a3,a4,a5,a6⟩:=(hs r hr).2 x hx;exact⟨⟨a1,fun l hl i hi h1 h2=>a2 l hl i hi h1 h1,by omega,qnb (ncs_le _) a3,a4,a5.duo hv hvw,a6,.inr ⟨a2,by decide,by decide⟩⟩,a2⟩
 have hm:=nrm_mem (sizeB1 hw hv) (fun x hx=>(hq x hx).1) (fun x hx=> .inr ⟨(hq x hx).2,by decide,by decide⟩) hl
 refine⟨fun r hr=>(hs r hr).1,hl,norm_den (sizeB1 hw hv) (fun x hx=>(hq x hx).1) hl,hm.1,hm.2.1,fun r hr=>⟨hm.2.2 r hr,?_⟩⟩
 obtain⟨⟨z,hz,hin,he⟩,_⟩:=(nrm_mem0 (sizeB1 hw hv) (fun x hx=>(hq x hx).1) hl).2.2 r hr
 rw[he]
 exact(canonP_two (hq z hz).1.ok (by decide) (hq z hz).2 hin).2.1
theorem nf_nil_len {M:List RC} (h:NF M) (h0: ∀ r∈M,r.1=[]):M.length<=1:=by
 match M,h,h0 with
 | [],_,_=>simp
 | [_],_,_=>simp
 | a::b::M,h,h0=>
  have:=h.head b (by simp);rw[h0 a (by simp),h0 b (by simp)] at this;simp[cmpC] at this
theorem IB.elim {v w:Nat} {M:List RC} (hv:v<8) (hw:w<8) (hvw:v≠w) (h:IB v w M):
 (∀ r∈M,SlabOk r.1 r.2 v)/\(elimO M v).length<=12/\Den Tryz.prog 90 [] [RL' ((elimO M v).map rn)] [] (.tup [RL' ((nrmL (elimO M v)).map rn),.int .i64 0])/\IC (nrmL (elimO M v)):=by
 have hb12: ∀ r∈M,r.2.length<=12:=fun r hr=>((h.rg r hr).1.q.pok (sizeB hv hw) (by decide)).2
 have hs:=fun r hr=>slab_step (sizeB hv hw) hvw stepB (h.rg r hr).1 (hb12 r hr)
 have hl:(elimO M v).length<=12:=by
  have:=elim_len (v:=v) (q:=1) (M:=M) (fun r hr=>qnb (slab_len _ _ _) (by
   obtain⟨h1,h2⟩:=one_each (sizeB hv hw) (h.rg r hr).1 (h.rg r hr).2;exact Nat.mul_le_mul h1 h2))
  have h2:=h.len;omega
 have hq: ∀ x∈elimO M v,RgQ w v 8 0 420 470564 5 x/\ ∀ l∈x.1,∀ i,i<8->co l i=0:=fun x hx=>by
  obtain⟨r,hr,hx⟩:=List.mem_flatMap.1 hx;obtain⟨a1,a2,a3,a4,a5,a6⟩:=(hs r hr).2 x hx;refine⟨⟨a1,fun l hl i hi h1 h2=>a2 l hl i hi h1 h1,by omega,qnb (ncs_le _) a3,a4,a5.duo hv hvw,a6,.inr ⟨a2,by decide,by decide⟩⟩,fun l hl i hi=>?_⟩;by_cases hiw:i=w
  ·obtain⟨u,hu8,huv,huw⟩: ∃ u,u<8/\v≠u/\u≠w:=by
    by_cases h0:v≠0/\0≠w
    ·exact⟨0,by decide,h0.1,h0.2⟩
    ·by_cases h1:v≠1/\1≠w
     ·exact⟨1,by decide,h1.1,h1.2⟩
     ·exact⟨2,by decide,by omega,by omega⟩
   have hr0:=h.rg r hr;have hu:RgV v u 6 0 104 27517 5 r:=⟨⟨hr0.1.q.ok,fun l hl i hi h1 _=>hr0.2 l hl i hi h1 h1,hr0.1.q.len,hr0.1.q.ncl,hr0.1.q.can,fun t ht=>by
    obtain⟨b1,b2,b3,b4⟩:=hr0.1.q.duo t ht;have b5: ∀ i,i<8->i≠v->t.1.getD i 0=0:=fun i hi h1=>by
     by_cases hiw:i=w
     ·rw[hiw];omega
     ·exact b2 i hi h1 hiw
    exact⟨b1,fun i hi h1 _=>b5 i hi h1,b3,by rw[b5 u hu8 (Ne.symm huv)];omega⟩,hr0.1.q.pb,hr0.1.q.alt⟩,hr0.1.idem,hr0.1.inn,hr0.1.len⟩
   have:=((slab_step (sizeB hv hu8) huv stepB hu (hb12 r hr)).2 x hx).2.1;exact this l hl i hi (by rw[hiw];exact Ne.symm huw) (by rw[hiw];exact Ne.symm huw)
  ·exact a2 l hl i hi hiw hiw
 have hm:=nrm_mem0 (sizeC1 hw hv) (fun x hx=>(hq x hx).1) hl
 have hnil: ∀ r∈nrmL (elimO M v),r.1=[]:=fun r hr=>by
  obtain⟨⟨z,hz,hin,he⟩,_⟩:=hm.2.2 r hr;rw[he];cases hc:canonP z.1 with
  | nil=>rfl
  | cons f t=>
   exfalso;obtain⟨l,hl,hnc,_⟩:=canonP_mem (fun l hl=>((hq z hz).1.ok l hl).len) hin (f:=f) (by rw[hc];simp);exact hnc (fun i hi=>(hq z hz).2 l hl i hi)
 have h1:=nf_nil_len hm.1 hnil
 have hrg: ∀ r∈nrmL (elimO M v),RgV w v 8 0 1 5646781 0 r:=fun r hr=>by
  have h0:=hnil r hr;obtain⟨_,p1,p2,p3,p4⟩:=hm.2.2 r hr;refine⟨⟨?_,?_,?_,?_,p1.canon,p3,p4,.inl (by decide)⟩,?_,?_,?_⟩<;>rw[h0]
  ·simp
  ·intro l hl;simp at hl
  ·simp
  ·simp[ncs]
  ·exact canonP_nil
  ·exact inner_nil
  ·simp
 refine⟨fun r hr=>(hs r hr).1,hl,norm_den (sizeC1 hw hv) (fun x hx=>(hq x hx).1) hl,hm.1,h1,fun r hr=>⟨hnil r hr,(hm.2.2 r hr).2.1,(hm.2.2 r hr).2.2.1⟩,?_⟩
 have:=norm_den (sizeC hw hv) (fun r hr=>(hrg r hr).q) h1
 rw[nrm_self hm.1 hrg] at this
 exact this
def IT (M:List RC):Prop:=IA 0 1 M\/IB 0 1 M\/IB 1 0 M\/IC M
theorem IT.self {M:List RC} (h:IT M):Den Tryz.prog 90 [] [RL' (M.map rn)] [] (.tup [RL' (M.map rn),.int .i64 0]):=by
 rcases h with h | h | h | h
 ·exact h.den (by decide) (by decide)
 ·exact h.den (by decide) (by decide)
 ·exact h.den (by decide) (by decide)
 ·exact h.den
theorem slab_miss {a b u:Nat} {r:RC} (hu:u<8) (hok: ∀ l∈r.1,LOk 499 l) (hl:r.1.length<=40) (h2:Two a b r.1) (ha:u≠a) (hb:u≠b):SlabOk r.1 r.2 u/\missB u r=true:=by
 obtain⟨h1,_⟩:=low_none h2 hu ha hb;exact⟨⟨hu,hok,hl,fun l hl=>by rw[h1] at hl;simp at hl⟩,missB_iff.2 (.inl h1)⟩
structure Next (M:List RC) (u:Nat):Prop where
 slab: ∀ r∈M,SlabOk r.1 r.2 u
 len:(elimO M u).length<=12
 den:M.any (missB u)=false->Den Tryz.prog 90 [] [RL' ((elimO M u).map rn)] [] (.tup [RL' ((nrmL (elimO M u)).map rn),.int .i64 0])
 it:M.any (missB u)=false->IT (nrmL (elimO M u))
theorem next_miss {M:List RC} {u:Nat} (h: ∀ r∈M,SlabOk r.1 r.2 u/\missB u r=true):Next M u:=by
 have hnil:M.any (missB u)=false->M=[]:=fun hm=>by
  cases M with
  | nil=>rfl
  | cons r M=>rw[any_mem (List.mem_cons_self) (h r (by simp)).2] at hm;cases hm
 refine⟨fun r hr=>(h r hr).1,?_,fun hm=>?_,fun hm=>?_⟩
 ·have:=elim_len (v:=u) (q:=0) (M:=M) (fun r hr=>by
   have h2:=(h r hr).2;have h1:=slab_len r.1 r.2 u;rcases missB_iff.1 h2 with h3 | h3
   ·rw[h3,length_nil,Nat.zero_mul] at h1;exact h1
   ·rw[h3,length_nil,Nat.mul_zero] at h1;exact h1)
  omega
 ·rw[hnil hm,elimO_nil,nrmL_nil];exact IC.nil.den
 ·rw[hnil hm,elimO_nil,nrmL_nil];exact .inr (.inr (.inr IC.nil))
theorem IT.next {M:List RC} (h:IT M) {u:Nat} (hu:u<8):Next M u:=by
 rcases h with h | h | h | h
 ·by_cases h0:u=0
  ·subst h0;obtain⟨a,b,c,d⟩:=h.elim (by decide) (by decide) (by decide);exact⟨a,b,fun _=>c,fun _=> .inr (.inr (.inl d))⟩
  ·by_cases h1:u=1
   ·subst h1;obtain⟨a,b,c,d⟩:=h.swap.elim (by decide) (by decide) (by decide);exact⟨a,b,fun _=>c,fun _=> .inr (.inl d)⟩
   ·exact next_miss (fun r hr=>slab_miss hu (fun l hl=>((h.rg r hr).q.ok l hl).mono (by decide)) (h.rg r hr).q.len (h.rg r hr).q.two h0 h1)
 ·by_cases h0:u=0
  ·subst h0;obtain⟨a,b,c,d⟩:=h.elim (by decide) (by decide) (by decide);exact⟨a,b,fun _=>c,fun _=> .inr (.inr (.inr d))⟩
  ·exact next_miss (fun r hr=>slab_miss hu (fun l hl=>((h.rg r hr).1.q.ok l hl).mono (by decide)) (h.rg r hr).1.q.len (h.rg r hr).2 h0 h0)
 ·by_cases h0:u=1
  ·subst h0;obtain⟨a,b,c,d⟩:=h.elim (by decide) (by decide) (by decide);exact⟨a,b,fun _=>c,fun _=> .inr (.inr (.inr d))⟩
  ·exact next_miss (fun r hr=>slab_miss hu (fun l hl=>((h.rg r hr).1.q.ok l hl).mono (by decide)) (h.rg r hr).1.q.len (h.rg r hr).2 h0 h0)
 ·refine next_miss (fun r hr=>?_);have h0:=(h.rg r hr).1;exact slab_miss (a:=8) (b:=8) hu (by rw[h0];simp) (by rw[h0];simp) (by rw[h0];intro l hl;simp at hl) (by omega) (by omega)
theorem IT.len {M:List RC} (h:IT M):M.length<=12:=by
 rcases h with h | h | h | h
 ·exact qnb h.len (by decide)
 ·exact h.len
 ·exact h.len
 ·exact qnb h.len (by decide)
theorem IT.nf {M:List RC} (h:IT M):NF M:=by
 rcases h with h | h | h | h
 ·exact h.nf
 ·exact h.nf
 ·exact h.nf
 ·exact h.nf
theorem IT.pok {M:List RC} (h:IT M): ∀ r∈M,POk 10000000 1024 r.2/\r.2.length<=12:=fun r hr=>by
 rcases h with h | h | h | h
 ·exact(h.rg r hr).q.pok (sizeA (by decide) (by decide)) (by decide)
 ·exact(h.rg r hr).1.q.pok (sizeB (by decide) (by decide)) (by decide)
 ·exact(h.rg r hr).1.q.pok (sizeB (by decide) (by decide)) (by decide)
 ·exact(h.rg r hr).2
theorem elim_den {L:List RR} {M:List RC} (h:IT M) (h90:Den Tryz.prog 90 [] [RL' L] [] (.tup [RL' (M.map rn),.int .i64 0])) (v:Int):Den Tryz.prog 36 [] [RL' L,.int .i64 v] [] (listV (elimE M v)):=by
 unfold elimE listV;by_cases hv:v<0\/8<=v
 ·rw[if_pos hv,if_neg (by decide)];exact jq36v L M v hv h90
 ·obtain⟨u,rfl⟩: ∃ u:Nat,v=(u:Int):=⟨v.toNat,by omega⟩;have hu:u<8:=by omega
  have hn:=h.next hu;rw[if_neg hv,Int.toNat_natCast];have:=jq36 L M (nrmL (elimO M u)) u hu h90 (by have:=h.len;omega) hn.slab (by have:=hn.len;omega) hn.den;by_cases hm:M.any (missB u)=true
  ·rw[if_pos hm] at this ⊢;rw[if_neg (by decide)];exact this
  ·rw[if_neg hm] at this ⊢;rw[if_pos rfl];exact this
theorem tot_ok:TotOk elimE IT where
 den M h v _ _:=elim_den h h.self v
 next M h v h0:=by
  unfold elimE at h0 ⊢;by_cases hv:v<0\/8<=v
  ·rw[if_pos hv] at h0;exact absurd h0 (by decide)
  ·obtain⟨u,rfl⟩: ∃ u:Nat,v=(u:Int):=⟨v.toNat,by omega⟩;have hu:u<8:=by omega
   rw[if_neg hv,Int.toNat_natCast] at h0 ⊢;by_cases hm:M.any (missB u)=true
   ·rw[if_pos hm] at h0;exact absurd h0 (by decide)
   ·rw[if_neg hm];exact(h.next hu).it (by simpa using hm)
 len M h:=by have:=h.len;omega
 nf M h:=h.nf
 one M h r hr _:=h.pok r hr
theorem tot_den {L:List RR} {M:List RC} (h:IT M) (h90:Den Tryz.prog 90 [] [RL' L] [] (.tup [RL' (M.map rn),.int .i64 0])) (vs:List Int) (hw:W64 vs) (hn:vs.length<=1000):
 Den Tryz.prog 40 [] [RL' L,.fv (.sl (ints vs))] [] (polyV (totP elimE M vs)):=jq40 elimE IT tot_ok L M vs hw hn h h90
def outT (p:List Tm) (t:Tm):List Tm:=(timesT p t).filter nzB
theorem outT_take {p:List Tm} {t:Tm} {i:Nat} (h:i<p.length):outT (p.take (i+1)) t=if nzB (mulT p[i] t)=true then outT (p.take i) t++[mulT p[i] t] else outT (p.take i) t:=by
 unfold outT timesT;rw[List.take_add_one,qb h,qwb,List.filter_append];show _++List.filter nzB [mulT p[i] t]=_;by_cases hz:nzB (mulT p[i] t)=true
 ·rw[if_pos hz,List.filter_cons_of_pos hz];rfl
 ·rw[if_neg hz,filter_cons_of_neg hz];simp
theorem outT_len (p:List Tm) (t:Tm):(outT p t).length<=p.length:=by
 unfold outT;have:=List.length_filter_le nzB (timesT p t);unfold timesT at this;rwa [length_map] at this
theorem iq103 (p:List Tm) (t:RT) (hp:LOkT 100000 1000000 p) (ht:t.1.length=8) (hte: ∀ x∈t.1,0<=x/\x<=1000000) (htr:t.2.Ok 100000) (hn:p.length<=10000):
 Den Tryz.prog 103 [] [PL (p.map tn),.agg (tmC t)] [] (PL ((outT p (tq t)).map tn)):=by
 have rp:=rowsT_length (p.map tn)
 rw[length_map] at rp
 obtain⟨n,hnn⟩:=ex1 (p.length)
 rw[hnn] at rp hn
 have tcl:=tmC_length ht
 have tc8:=tmC_take8 ht
 have tcf:=tmC_coef ht
 refine den_of tabOk mixed Tryz.func103 (cd:=_) rfl (by decide) rfl (n:=47) rfl rfl (m:=0) rfl ?_
 simp -dsimp(disch:=omega) only[replicate,tcl,reduceLT,ru]
 repeat refine qy (by omega) ?_
 refine wl (α:=Nat) (fun i=>⟨[PL (p.map tn),.any,.any,.ptr 0 0 0,.any,.lsl 1 0 (outT (p.take i) (tq t)).length 11,.int .i64 i]++replicate 42 .any,[.box true (tmC t),.row true (rowsT ((outT (p.take i) (tq t)).map tn))]⟩) (fun i=>n - i) (fun i=>i<=n) 0 ?_ (qsq _) ?_
 ·refine Weak.nil 5 11 (by decide) rfl ?_
  refine wk [0,1] (by simp) rfl ?_ ?_
  ·simp[leVs,leV,le1]
   rfl
  ·simp[leH,leO,le_tmC]
   rfl
 ·intro i hi
  have hol:=outT_len (p.take i) (tq t)
  rw[qf,hnn,Nat.min_eq_left hi] at hol
  have ro:=rowsT_length ((outT (p.take i) (tq t)).map tn)
  rw[length_map] at ro
  have tko:=take_rowsT (ts:=(outT (p.take i) (tq t)).map tn) (n:=(outT (p.take i) (tq t)).length) (by rw[length_map];omega)
  simp -dsimp(disch:=omega) only[replicate,rp,↓reduceIte,ru]
  refine bd_ ?_ ?_
  ·intro h1 h2
   have hil:i<p.length:=by omega
   have r1:=getD_n hil
   have hmem:p[i]∈p:=qqb hil
   have hms:=hp.len _ hmem
   have hbs:=hp.bd _ hmem
   have hes:=hp.exp _ hmem
   have hst:=outT_take (t:=tq t) hil
   obtain⟨s,hss⟩:=ex1 (p[i])
   rw[hss] at r1 hms hbs hes hst
   obtain⟨O,hO⟩:=ex1 (outT (p.take i) (tq t))
   rw[hO] at hol ro tko hst ⊢
   have hs8:(tn s).1.length=8:=hms
   have s11:=tmF_take11 hs8
   have sfl:=tmF_length hs8
   have scl:=tmC_length hs8
   have hI0:addI s.1 t.1 0=s.1:=by simp[addI,addM]
   have hI8:=addI_done hms ht
   simp -dsimp(disch:=omega) only[h2,r1,s11,tmF_fv,sfl,scl,rp,append_nil,↓reduceIte,reduceAdd,reduceLT,reduceLeDiff,ru]
   repeat refine qy (by omega) ?_
   refine wl (α:=Nat) (fun k=>⟨[PL (p.map tn),.any,.any,.ptr 0 0 0,.any,.lsl 1 0 O.length 11,.int .i64 i,.ptr 2 0 0,.int .i64 k]++replicate 40 .any,[.box true (tmC t),.row true (rowsT (O.map tn)),.box true (tmC (addI s.1 t.1 k,cn s.2))]⟩) (fun k=>8 - k) (fun k=>k<=8) 0 ?_ (qsq _) ?_
   ·rw[hI0]
    refine wk [0,1,2] (by simp) rfl ?_ ?_
    ·simp[leVs,leV,le1]
    ·simp[leH,leO,le_tmC]
     exact le_tmC _ (tn s)
   ·intro k hk
    have I8:=addI_length hms ht hk
    have xl:((addI s.1 t.1 k,cn s.2):RT).1.length=8:=I8
    have xcl:=tmC_length xl
    simp -dsimp(disch:=omega) only[replicate,↓reduceIte,ru]
    refine bd_ ?_ ?_
    ·intro h3 h4
     have hat:=tmC_at (t:=(addI s.1 t.1 k,cn s.2)) (i:=k) (by omega) xl
     have tat:=tmC_at (t:=t) (i:=k) (by omega) ht
     dsimp only at hat
     rw[addI_at hms ht (by omega)] at hat
     have hput:=tmC_put (t:=(addI s.1 t.1 k,cn s.2)) (i:=k) (x:=s.1.getD k 0+t.1.getD k 0) (by omega) xl
     dsimp only at hput
     rw[addI_step hms ht (by omega)] at hput
     have ga:=getD_exp (by decide) hes k
     have gb:=getD_exp (by decide) hte k
     obtain⟨x,hx⟩:=ex1 (s.1.getD k 0)
     obtain⟨y,hy⟩: ∃ x,t.1.getD k 0=x:=⟨_,rfl⟩
     rw[hx] at hat hput ga
     rw[hy] at tat hput gb
     simp -dsimp(disch:=omega) only[h4,rules]
     refine dw (by kernel_rfl) ?_
     simp -dsimp(disch:=omega) only[hat,tat,xcl,tcl,Nat.mul_one,hput,↓reduceIte,reduceLT,reduceLeDiff,ru]
     repeat refine qy (by omega) ?_
     refine ap (k+1) (by omega) ?_ (by omega)
     refine wk [0,1,2] (by simp) rfl ?_ ?_
     ·simp[leVs,leV,le1]
     ·simp[leH,leO,le_tmC]
    ·intro h3 h4
     have hk8:k=8:=by omega
     subst hk8
     have hm8:=addM_length hms ht
     rw[hI8] at xl xcl ⊢
     have h32:=den32 (cn s.2) t.2 ((cn_ok hbs).mono (by decide)) (htr.mono (by decide))
     rw[cn_q] at h32
     change Den Tryz.prog 65 [] [.agg (cn s.2).c,.agg t.2.c] [] (.agg (cn (s.2*t.2.q)).c) at h32
     have hbm:Bd 200000 (s.2*t.2.q):=Bd.mul (j:=100000) (k:=100000) hbs (htr.bd (by decide)) (by decide)
     have h26:=den26 (cn (s.2*t.2.q)) ((cn_ok hbm).mono (by decide))
     rw[cn_q] at h26
     change Den Tryz.prog 63 [] [.agg (cn (s.2*t.2.q)).c] [] _ at h26
     have xcf:=tmC_coef xl
     have pc:=tmC_putc (r:=cn (s.2*t.2.q)) xl
     have yl:((addM s.1 t.1,cn (s.2*t.2.q)):RT).1.length=8:=hm8
     have ycf:=tmC_coef yl
     have ycl:=tmC_length yl
     have y11:=tmC_take11 yl
     have yf11:=tmF_take11 yl
     have yfl:=tmF_length yl
     have hap:=rowsT_snoc (O.map tn) (tn (mulT s (tq t)))
     rw[<-map_snoc] at hap
     change rowsT (O.map tn)++[tmF (addM s.1 t.1,cn (s.2*t.2.q))]=_ at hap
     have hnz:nzB (mulT s (tq t))=decide (sgq (s.2*t.2.q)≠0):=by
      show decide (s.2*t.2.q≠0)=_;by_cases hz:s.2*t.2.q=0
      ·rw[qcb (by simpa using hz),qcb (by simpa using sgq_eq_zero.2 hz)]
      ·rw[qbb hz,qbb (show sgq (s.2*t.2.q)≠0 from fun h=>hz (sgq_eq_zero.1 h))]
     obtain⟨z,hz⟩:=ex1 (cn (s.2*t.2.q))
     rw[hz] at h32 h26 pc yl ycf ycl y11 yf11 yfl hap
     obtain⟨g,hg⟩:=ex1 (sgq (s.2*t.2.q))
     rw[hg] at h26 hnz
     dsimp only at xcf ycf pc
     simp -dsimp(disch:=omega) only[h4,tcl,xcl,tcf,xcf,↓reduceIte,reduceAdd,Nat.reduceBEq,reduceLeDiff,ru]
     repeat refine qy (by omega) ?_
     refine gp h32 (by simp[fzAs,fzA,fzs_c,f_fv]) ?_
     simp -dsimp(disch:=omega) only[ids_c,c_reloc,append_nil,c_length,pc,xcl,ycl,ycf,↓reduceIte,reduceAdd,reduceLT,reduceLeDiff,ru]
     repeat refine qy (by omega) ?_
     refine gp h26 (by simp[fzAs,fzA,fzs_c,f_fv]) ?_
     simp -dsimp(disch:=omega) only[ids_c,↓reduceIte,reduceAdd,ru]
     refine Br.bneInt ?_ ?_
     ·intro h5 h6
      rw[hnz,qbb h5,if_pos rfl] at hst
      simp -dsimp(disch:=omega) only[h6,ycl,y11,yf11,fzs_tmC,ids_tmC,ro,tko,hap,append_nil,↓reduceIte,reduceAdd,reduceMul,Nat.reduceBEq,reduceLT,reduceLeDiff,ru]
      repeat refine qy (by omega) ?_
      refine ap (i+1) (by omega) ?_ (by omega)
      rw[hst,qe]
      refine wk [0,4] (by simp) rfl ?_ ?_
      ·simp[leVs,leV,le1]
      ·simp[leH,leO,le_tmC]
     ·intro h5 h6
      rw[hnz,qcb (by simpa using h5),if_neg (by decide)] at hst
      simp -dsimp(disch:=omega) only[h6,↓reduceIte,ru]
      refine ap (i+1) (by omega) ?_ (by omega)
      rw[hst]
      refine wk [0,1] (by simp) rfl ?_ ?_
      ·simp[leVs,leV,le1]
      ·simp[leH,leO,le_tmC]
  ·intro h1 h2
   have hii:p.take i=p:=qdq (by omega)
   rw[hii] at ro tko ⊢
   simp -dsimp(disch:=omega) only[h2,Nat.reduceBEq,ru]
   refine rpq rfl ⟨tvq,tvq⟩ ?_
   simp(disch:=omega) only[ro,tko,List.drop_zero,Nat.zero_add,qp,↓reduceIte,List.idxOf?_nil,St.get,fzX,oneRes,fzV,fzC,fz1,fz0,Option.map_some,qk,List.getD_cons_zero,List.getElem?_cons_zero,List.getElem?_cons_succ]
theorem z8_exp: ∀ x∈z8,0<=x/\x<=(1000000:Int):=fun x hx=>by
 rw[eq_of_mem_replicate hx];omega
theorem fzAs_PLt (H:List Ob) (A:List RT) (t:RT):fzAs H [PL A,.agg (tmC t)]=some [PL A,.agg (tmC t)]:=by
 have h:fzA H (.agg (tmC t))=some (.agg (tmC t)):=by
  unfold fzA;simp only[fzs_tmC,Option.map_some,tmF_fv]
 unfold fzAs;unfold fzAs;unfold fzAs;rw[h];rfl
theorem iq54 (p:List Tm) (r:Raw) (hp:LOkT 100000 1000000 p) (hr:r.Ok 100000) (hn:p.length<=10000):
 Den Tryz.prog 54 [] [PL (p.map tn),.agg r.c] [] (PL ((outT p (z8,r.q)).map tn)):=by
 have h:=iq103 p (z8,r) hp z8_length z8_exp hr hn
 change Den Tryz.prog 103 [] [_,_] [] (PL ((outT p (z8,r.q)).map tn)) at h
 have zl:=tmC_length (t:=(z8,r)) z8_length
 obtain⟨A,hA⟩:=ex1 (p.map tn)
 obtain⟨B,hB⟩: ∃ A,(outT p (z8,r.q)).map tn=A:=⟨_,rfl⟩
 rw[hA,hB] at h
 rw[hA,hB]
 refine den_of tabOk mixed Tryz.func54 (cd:=_) rfl (by decide) rfl (n:=7) rfl rfl (m:=0) rfl ?_
 simp -dsimp(disch:=omega) only[replicate,c_length,c_take,z8_c,append_nil,↓reduceIte,reduceAdd,reduceLT,reduceLeDiff,ru]
 repeat refine qy (by omega) ?_
 refine gp h (fzAs_PLt _ A (z8,r)) ?_
 simp -dsimp(disch:=omega) only[ru]
 refine rpq rfl ⟨tvq,tvq⟩ rfl
theorem iq137 (r:Raw) (hr:r.Ok 100000):Den Tryz.prog 137 [] [.agg r.c] [] (PL ((nf [(z8,r.q)]).map tn)):=by
 have h:=iq44 [(z8,r)] (fun t ht=>by
  rw[qz] at ht;subst ht;exact⟨z8_length,z8_rng,hr.mono (by decide)⟩) ((PB.one (k:=100000) (hr.bd (by decide))).mono (by decide)) (by show 1<=10000000000;decide)
 change Den Tryz.prog 44 [] [.fv (.sl [tmF (z8,r)])] [] (PL ((nf [(z8,r.q)]).map tn)) at h;have zl:=tmC_length (t:=(z8,r)) z8_length;have z11:=tmC_take11 (t:=(z8,r)) z8_length;have f11:=tmF_take11 (t:=(z8,r)) z8_length;have fl:=tmF_length (t:=(z8,r)) z8_length;obtain⟨B,hB⟩: ∃ A,(nf [(z8,r.q)]).map tn=A:=⟨_,rfl⟩;rw[hB] at h ⊢;refine den_of tabOk mixed Tryz.func137 (cd:=_) rfl (by decide) rfl (n:=6) rfl rfl (m:=0) rfl ?_;simp -dsimp(disch:=omega) only[replicate,c_length,c_take,z8_c,append_nil,zl,f11,fzs_tmC,ids_tmC,↓reduceIte,reduceAdd,reduceMul,reduceLT,reduceLeDiff,ru]
 repeat refine qy (by omega) ?_
 refine gp h (by simp[fzAs,fzA,fz1,fz0]) ?_;simp -dsimp(disch:=omega) only[reduceAdd,ru];refine rpq rfl ⟨tvq,tvq⟩ rfl
def oneT:List Tm:=[(z8,1)]
theorem nf_one:nf [(z8,((1:Int):Rat))]=oneT:=by
 unfold nf;simp[insT,oneT]
theorem iq79:Den Tryz.prog 79 [] [] [] (PL (oneT.map tn)):=by
 have h24:=den24 1 (by omega);change Den Tryz.prog 32 [] _ [] (.agg (cn ((1:Int):Rat)).c) at h24;have h:=iq137 (cn ((1:Int):Rat)) ((cn_ok (Go.Pl.bd_int (x:=1) (by decide))).mono (by decide));rw[cn_q,nf_one] at h;obtain⟨B,hB⟩: ∃ A,oneT.map tn=A:=⟨_,rfl⟩;rw[hB] at h ⊢;obtain⟨z,hz⟩:=ex1 (cn ((1:Int):Rat));rw[hz] at h24 h;refine den_of tabOk mixed Tryz.func79 (cd:=_) rfl (by decide) rfl (n:=3) rfl rfl (m:=0) rfl ?_;simp -dsimp(disch:=omega) only[replicate,rules];refine gp h24 rfl ?_;simp -dsimp(disch:=omega) only[c_reloc,append_nil,rules];refine gp h (by simp[fzAs,fzA,fzs_c,f_fv]) ?_;simp -dsimp(disch:=omega) only[ru];refine rpq rfl ⟨tvq,tvq⟩ rfl
def fm (a b c:Rat):List Raw:=[cn a,cn b,cn 0,cn 0,cn 0,cn 0,cn 0,cn 0,cn c]
theorem lval_fm (a b c:Rat) (x:Nat->Rat):lval (fm a b c) x=c+a*x 0+b*x 1:=by
 have e: ∀ q:Rat,(cn q).q=q:=cn_q;have c8:co (fm a b c) 8=c:=e c;have c0:co (fm a b c) 0=a:=e a;have c1:co (fm a b c) 1=b:=e b;have c2:co (fm a b c) 2=0:=e 0;have c3:co (fm a b c) 3=0:=e 0;have c4:co (fm a b c) 4=0:=e 0;have c5:co (fm a b c) 5=0:=e 0;have c6:co (fm a b c) 6=0:=e 0;have c7:co (fm a b c) 7=0:=e 0;rw[lval_eq,c8,c0,c1,c2,c3,c4,c5,c6,c7];grind
def pt (x y:Rat):Nat->Rat:=fun i=>if i=0 then x else y
theorem pt0 (x y:Rat):pt x y 0=x:=rfl
theorem pt1 (x y:Rat):pt x y 1=y:=rfl
theorem feas3 {a b c a1 b1 c1 a2 b2 c2 x y:Rat} (h0:0<c+a*x+b*y) (h1:0<c1+a1*x+b1*y) (h2:0<c2+a2*x+b2*y):feasB [fm a b c,fm a1 b1 c1,fm a2 b2 c2]=true:=by
 refine feasB_iff.2 ⟨pt x y,fun l hl=>?_⟩;simp only[qhb,not_mem_nil,or_false] at hl;rcases hl with rfl | rfl | rfl<;>rw[lval_fm,pt0,pt1]<;>assumption
theorem feas2 {a b c a1 b1 c1 x y:Rat} (h0:0<c+a*x+b*y) (h1:0<c1+a1*x+b1*y):feasB [fm a b c,fm a1 b1 c1]=true:=by
 refine feasB_iff.2 ⟨pt x y,fun l hl=>?_⟩;simp only[qhb,not_mem_nil,or_false] at hl;rcases hl with rfl | rfl<;>rw[lval_fm,pt0,pt1]<;>assumption
abbrev triC:List (List Raw):=[fm (-1) (-1) 1,fm 0 1 0,fm 1 0 0]
abbrev triD:List (List Raw):=[fm 0 (-1) 1,fm 0 1 0]
theorem red_of {s t:List (List Raw)} {i:Nat} (h:sysL (del s i++[negR (s.getD i [])]) []=t) (hf:feasB t=true):redB s i=true:=by
 unfold redB;rw[h];exact hf
theorem triC_canon:canL 3 0 triC=triC:=by
 have r0:redB triC 0=true:=red_of (t:=[fm 0 1 0,fm 1 0 0,fm 1 1 (-1)]) (by decide+kernel) (feas3 (x:=1) (y:=1) (by decide+kernel) (by decide+kernel) (by decide+kernel));have r1:redB triC 1=true:=red_of (t:=[fm (-1) (-1) 1,fm 0 (-1) 0,fm 1 0 0]) (by decide+kernel) (feas3 (x:=1) (y:= -1) (by decide+kernel) (by decide+kernel) (by decide+kernel));have r2:redB triC 2=true:=red_of (t:=[fm (-1) (-1) 1,fm (-1) 0 0,fm 0 1 0]) (by decide+kernel) (feas3 (x:= -1) (y:=1) (by decide+kernel) (by decide+kernel) (by decide+kernel));unfold canL;rw[if_pos (by decide),if_pos r0];unfold canL;rw[if_pos (by decide),if_pos r1];unfold canL;rw[if_pos (by decide),if_pos r2];unfold canL;rfl
theorem triD_canon:canL 2 0 triD=triD:=by
 have r0:redB triD 0=true:=red_of (t:=[fm 0 1 (-1),fm 0 1 0]) (by decide+kernel) (feas2 (x:=0) (y:=2) (by decide+kernel) (by decide+kernel));have r1:redB triD 1=true:=red_of (t:=[fm 0 (-1) 0,fm 0 (-1) 1]) (by decide+kernel) (feas2 (x:=0) (y:= -1) (by decide+kernel) (by decide+kernel));unfold canL;rw[if_pos (by decide),if_pos r0];unfold canL;rw[if_pos (by decide),if_pos r1];unfold canL;rfl
theorem canonP_of {cs s t:List (List Raw)} (hv:violB cs=false) (hs:sysL cs []=s) (hf:feasB s=true) (ht:canL s.length 0 s=t):innerB cs=true/\canonP cs=t:=by
 have h1:innerB cs=true:=by unfold innerB;rw[hv,hs,hf];rfl
 refine⟨h1,?_⟩;unfold canonP;rw[if_pos h1,hs,ht]
abbrev triF:List (List Raw):=[varL 0,varL 1,(addL (numL 1) (negR ((addL (varL 0) (varL 1)).map cn))).map cn]
theorem triF_eq:triF=[fm 1 0 0,fm 0 1 0,fm (-1) (-1) 1]:=by decide+kernel
theorem tri_canon:innerB triF=true/\canonP triF=triC:=canonP_of (s:=triC) (by rw[triF_eq];decide+kernel) (by rw[triF_eq];decide+kernel) (feas3 (x:=1 / 4) (y:=1 / 4) (by decide+kernel) (by decide+kernel) (by decide+kernel)) triC_canon
theorem one_reg {cs t:List (List Raw)} {p:List Tm} (h:innerB cs=true/\canonP cs=t) (hp:p≠[]):nrmL [(cs,p)]=[(t,p)]:=by
 unfold nrmL;rw[List.filter_cons_of_pos (by simp[h.1]),List.filter_nil,map_cons,List.map_nil,h.2];show putR [] (t,p)=_;unfold putR;rw[if_neg hp]
theorem tri_two:totP elimE [(triC,[(z8,1)])] [0,1]=(0,[(z8,1 / 2)]):=by
 have p1:([(z8.set 1 1,-1),(z8,1)]:List Tm)≠[]:=by simp
 have p2:([(z8,1 / 2)]:List Tm)≠[]:=by simp
 have s1:elimO [(triC,[(z8,1)])] 0=[([fm 0 1 0,fm 0 (-1) 1],[(z8.set 1 1,-1),(z8,1)])]:=by decide+kernel
 have s2:elimO [(triD,[(z8.set 1 1,-1),(z8,1)])] 1=[([fm 0 0 1],[(z8,1 / 2)])]:=by decide+kernel
 have m1:([(triC,[(z8,1)])]:List RC).any (missB 0)=false:=by decide+kernel
 have m2:([(triD,[(z8.set 1 1,-1),(z8,1)])]:List RC).any (missB 1)=false:=by decide+kernel
 have c1:innerB [fm 0 1 0,fm 0 (-1) 1]=true/\canonP [fm 0 1 0,fm 0 (-1) 1]=triD:=canonP_of (s:=triD) (by decide+kernel) (by decide+kernel) (feas2 (x:=0) (y:=1 / 2) (by decide+kernel) (by decide+kernel)) triD_canon;have c2:innerB [fm 0 0 1]=true/\canonP [fm 0 0 1]=[]:=canonP_of (s:=[]) (by decide+kernel) (by decide+kernel) (feasB_iff.2 feas_nil) rfl;have e1:elimE [(triC,[(z8,1)])] 0=(0,[(triD,[(z8.set 1 1,-1),(z8,1)])]):=by
  unfold elimE;rw[if_neg (by decide),show(0:Int).toNat=0 from rfl,if_neg (by rw[m1];decide),s1,one_reg c1 p1]
 have e2:elimE [(triD,[(z8.set 1 1,-1),(z8,1)])] 1=(0,[([],[(z8,1 / 2)])]):=by
  unfold elimE;rw[if_neg (by decide),show(1:Int).toNat=1 from rfl,if_neg (by rw[m2];decide),s2,one_reg c2 p2]
 have t1:totE elimE [(triC,[(z8,1)])] [0,1]=(0,[([],[(z8,1 / 2)])]):=by
  rw[tot_cons,e1,if_pos rfl,tot_cons,e2,if_pos rfl,tot_nil]
 unfold totP;rw[t1,if_pos rfl];unfold sumE;rw[if_neg (by decide)];have:polyS' [(([]:List (List Raw)),([(z8,1 / 2)]:List Tm))]=[(z8,1 / 2)]:=by decide+kernel
 rw[this]
theorem numL_ok {q:Rat} (h:Bd 1 q):LOk 1 (numL q):=by
 refine⟨numL_len q,fun r hr=>?_⟩;unfold numL at hr;rcases mem_or_eq_of_mem_set hr with h1 | h1
 ·rw[eq_of_mem_replicate h1];exact cn_ok (Bd.zero (by decide))
 ·rw[h1];exact cn_ok h
theorem varL_ok (v:Nat):LOk 1 (varL v):=by
 refine⟨varL_len v,fun r hr=>?_⟩;unfold varL at hr;rcases mem_or_eq_of_mem_set hr with h1 | h1
 ·rw[eq_of_mem_replicate h1];exact cn_ok (Bd.zero (by decide))
 ·rw[h1];exact cn_ok (bd_int (by decide))
abbrev sxy:List Raw:=(addL (varL 0) (varL 1)).map cn
abbrev fr3:List Raw:=(addL (numL 1) (negR sxy)).map cn
theorem sxy_eq:sxy=fm 1 1 0:=by decide+kernel
theorem fr3_eq:fr3=fm (-1) (-1) 1:=by decide+kernel
theorem fm_ok {a b c:Rat} (ha:Bd 1 a) (hb:Bd 1 b) (hc:Bd 1 c):LOk 1 (fm a b c):=by
 have h0:Bd 1 (0:Rat):=⟨by decide,by decide⟩;refine⟨rfl,fun r hr=>?_⟩;unfold fm at hr;simp only[qhb,not_mem_nil,or_false] at hr;rcases hr with rfl | rfl | rfl | rfl | rfl | rfl | rfl | rfl | rfl<;>refine cn_ok ?_<;>assumption
theorem bd_one:Bd 1 (1:Rat):=⟨by decide,by decide⟩
theorem bd_zero:Bd 1 (0:Rat):=⟨by decide,by decide⟩
theorem bd_mone:Bd 1 (-1:Rat):=⟨by decide,by decide⟩
theorem nine {l:List Raw} (h:l.length=9): ∃ a b c d e f g h i,l=[a,b,c,d,e,f,g,h,i]:=by
 match l,h with
 | [a,b,c,d,e,f,g,h,i],_=>exact⟨a,b,c,d,e,f,g,h,i,rfl⟩
theorem jq78 (P:List RT):Den Tryz.prog 78 [] [PL P] [] (RL' [(triF,P)]):=by
 have h0:=pd55 0 (by decide);have h1:=pd55 1 (by decide);have h24:=den24 1 (by omega);have h102:=pd30 (cn ((1:Int):Rat)) ((cn_ok (Bd.mono bd_one (by decide))));rw[cn_q] at h102;have hx:LOk 1 (varL 0):=varL_ok 0;have hy:LOk 1 (varL 1):=varL_ok 1;have hn:LOk 1 (numL 1):=numL_ok bd_one;have hs:LOk 1 sxy:=by rw[sxy_eq];exact fm_ok bd_one bd_one bd_zero
 have a1:=den74 (varL 0) (varL 1) (hx.mono (by decide)) (hy.mono (by decide));have a2:=pd57 sxy (hs.mono (by decide));have hm:LOk 2 (negR sxy):=negR_ok hs (by decide);have a3:=den74 (numL 1) (negR sxy) (hn.mono (by decide)) (hm.mono (by decide));change Den Tryz.prog 101 [] [RL (varL 0),RL (varL 1)] [] (RL sxy) at a1;change Den Tryz.prog 101 [] [RL (numL 1),RL (negR sxy)] [] (RL fr3) at a3;change Den Tryz.prog 32 [] _ [] (.agg (cn ((1:Int):Rat)).c) at h24;change Den Tryz.prog 102 [] [.agg (cn ((1:Int):Rat)).c] [] (RL (numL 1)) at h102;have hf:LOk 1 fr3:=by rw[fr3_eq];exact fm_ok bd_mone bd_mone bd_one
 have hR:RL' [(triF,P)]= .fv (.sl [[.sl (rowsF [varL 0,varL 1,fr3]),.sl (rowsT P)]]):=rfl;rw[hR];have lx:=hx.len;have ly:=hy.len;have ls:=hs.len;have ln:=hn.len;have lm:=hm.len;have lf:=hf.len;obtain⟨X,hX⟩:=ex1 (varL 0);obtain⟨Y,hY⟩: ∃ X,varL 1=X:=⟨_,rfl⟩;obtain⟨Z,hZ⟩: ∃ X,fr3=X:=⟨_,rfl⟩;obtain⟨S,hS⟩: ∃ X,sxy=X:=⟨_,rfl⟩;obtain⟨M,hM⟩: ∃ X,negR sxy=X:=⟨_,rfl⟩;obtain⟨N,hN⟩: ∃ X,numL 1=X:=⟨_,rfl⟩;obtain⟨c,hc⟩:=ex1 (cn ((1:Int):Rat));rw[hZ] at a3 lf ⊢;rw[hM] at a2 a3 lm;rw[hS] at a1 a2 ls;rw[hX] at h0 a1 lx ⊢;rw[hY] at h1 a1 ly ⊢;rw[hN] at h102 a3 ln;rw[hc] at h24 h102;have gx:=flat_length X;have gy:=flat_length Y;have gz:=flat_length Z;have gs:=flat_length S;have gm:=flat_length M;have gn:=flat_length N;have x27:=flat_take27 lx;have y27:=flat_take27 ly;have z27:=flat_take27 lf;have X27:=flatF_take27 lx;have Y27:=flatF_take27 ly;have Z27:=flatF_take27 lf;have fx:=flatF_length X
 have fy:=flatF_length Y;have fz:=flatF_length Z;have hrow:rowsF [X,Y,Z]=[flatF X,flatF Y,flatF Z]:=rfl;unfold RL at h0 h1 a1 a2 a3 h102;refine den_of tabOk mixed Tryz.func78 (cd:=_) rfl (by decide) rfl (n:=21) rfl rfl (m:=0) rfl ?_;simp -dsimp(disch:=omega) only[replicate,rules];refine gp h0 rfl ?_;simp -dsimp(disch:=omega) only[flat_reloc,append_nil,rules]
 repeat refine qy (by omega) ?_
 refine gp h1 rfl ?_;simp -dsimp(disch:=omega) only[gx,lx,gy,ly,reduceAdd,reduceMul,reduceLT,reduceLeDiff,ru,zu]
 repeat refine qy (by omega) ?_
 refine dw (by kernel_rfl) ?_;simp -dsimp(disch:=omega) only[rules];refine gp h24 rfl ?_;simp -dsimp(disch:=omega) only[append_nil,c_reloc,rules,reduceAdd];refine gp h102 (by simp[fzAs,fzA,fzs_c,f_fv]) ?_;simp -dsimp(disch:=omega) only[ids_c,gx,lx,x27,gy,ly,y27,↓reduceIte,reduceAdd,reduceMul,reduceLeDiff,ru,zu]
 repeat refine qy (by omega) ?_
 refine gp a1 (by simp[fzAs,fzA,flat_fz,flatF_fv]) ?_;simp -dsimp(disch:=omega) only[flat_ids,flat_reloc,append_nil,rules,reduceAdd];refine gp a2 (by simp[fzAs,fzA,flat_fz,flatF_fv]) ?_;simp -dsimp(disch:=omega) only[flat_ids,flat_reloc,append_nil,rules,reduceAdd];refine gp a3 (by simp[fzAs,fzA,flat_fz,flatF_fv]) ?_;simp -dsimp(disch:=omega) only[gz,lf,z27,↓reduceIte,reduceAdd,reduceMul,reduceLT,reduceLeDiff,ru,zu]
 repeat refine qy (by omega) ?_
 clear h0 h1 h24 h102 a1 a2 a3 hX hY hZ hS hM hN hc hx hy hn hs hm hf hR gx gy gz gs gm gn x27 y27 z27 X27 Y27 Z27 fx fy fz hrow ls lm ln;obtain⟨x0,x1,x2,x3,x4,x5,x6,x7,x8,rfl⟩:=nine lx;obtain⟨y0,y1,y2,y3,y4,y5,y6,y7,y8,rfl⟩:=nine ly;obtain⟨z0,z1,z2,z3,z4,z5,z6,z7,z8,rfl⟩:=nine lf;simp -dsimp(disch:=omega) only[flat,rowsF,flatF,map_cons,List.map_nil,↓reduceIte,reduceAdd,reduceMul,reduceLT,reduceLeDiff,ru];exact rpq (vs:=[.lsl 4 0 1 2]) rfl ⟨tvq,tvq⟩ rfl
theorem tri_it:IT [(triC,oneT)]/\Den Tryz.prog 90 [] [RL' [(triF,oneT.map tn)]] [] (.tup [RL' ([(triC,oneT)].map rn),.int .i64 0]):=by
 have hs:Sizes 0 1 2 2 6 23 5 2:=⟨by decide,by decide,by decide,by decide,by decide,by decide,by decide,by decide⟩;have hq: ∀ r∈[((triF,oneT):RC)],RgQ 0 1 2 2 6 23 5 r:=fun r hr=>by
  rw[qz] at hr;subst hr;have h9: ∀ l∈triF,∃ a b c,l=fm a b c/\Bd 1 a/\Bd 1 b/\Bd 1 c:=fun l hl=>by
   rw[triF_eq] at hl;simp only[qhb,not_mem_nil,or_false] at hl;rcases hl with rfl | rfl | rfl
   ·exact⟨_,_,_,rfl,bd_one,bd_zero,bd_zero⟩
   ·exact⟨_,_,_,rfl,bd_zero,bd_one,bd_zero⟩
   ·exact⟨_,_,_,rfl,bd_mone,bd_mone,bd_one⟩
  have hcn:Canon oneT:=nf_one ▸ nf_canon (by intro t ht;rw[qz] at ht;rw[ht];exact z8_length);refine⟨fun l hl=>?_,fun l hl i hi h0 h1=>?_,by decide,qnb (ncs_le _) (by decide),hcn,fun t ht=>?_,?_,.inl (by decide)⟩
  ·obtain⟨a,b,c,rfl,ha,hb,hc⟩:=h9 l hl;exact(fm_ok ha hb hc).mono (by decide)
  ·obtain⟨a,b,c,rfl,ha,hb,hc⟩:=h9 l hl;have:i=2\/i=3\/i=4\/i=5\/i=6\/i=7:=by omega
   rcases this with rfl | rfl | rfl | rfl | rfl | rfl<;>exact cn_q 0
  ·unfold oneT at ht;rw[qz] at ht;subst ht;exact⟨z8_length,fun i _ _ _=>z8_getD,by show 0<=z8.getD 0 0/\z8.getD 0 0<=2;rw[z8_getD];omega,by show 0<=z8.getD 1 0/\z8.getD 1 0<=2;rw[z8_getD];omega⟩
  ·exact(PB.one (t:=(z8,1)) (Bd.mono bd_one (show 1<=23 by decide)))
 have h1:=norm_den hs hq (by decide);have h2:=nrm_mem hs hq (fun r _=> .inl (by decide)) (by decide);have he:nrmL [(triF,oneT)]=[(triC,oneT)]:=one_reg tri_canon (by simp[oneT]);rw[he] at h1 h2;exact⟨.inl ⟨h2.1,h2.2.1,h2.2.2⟩,h1⟩
theorem jq29:Den Tryz.prog 29 [] [] [] (.bool true):=by
 have h79:=iq79;have h78:=jq78 (oneT.map tn);obtain⟨h1,h2⟩:=tri_it;have h40:=tot_den h1 h2 [0,1] (fun x hx=>by
  simp only[qhb,not_mem_nil,or_false] at hx;rcases hx with rfl | rfl<;>decide) (by decide)
 rw[show([(triC,oneT)]:List RC)=[(triC,[(z8,1)])] from rfl,tri_two] at h40;unfold polyV at h40;rw[if_pos rfl] at h40;have hl:LOkT 100000 1000000 [(z8,(1:Rat) / 2)]:=⟨fun t ht=>by rw[qz] at ht;rw[ht];exact z8_length,fun t ht=>by
  rw[qz] at ht;rw[ht];exact Bd.mono (j:=1) ⟨by decide+kernel,by decide+kernel⟩ (by decide),fun t ht e he=>by
  rw[qz] at ht;rw[ht] at he;have:=eq_of_mem_replicate he;omega⟩
 have h54:=iq54 [(z8,(1:Rat) / 2)] (cn ((2:Int):Rat)) hl (cn_ok (Bd.mono (j:=1) ⟨by decide,by decide⟩ (by decide))) (by decide);rw[cn_q] at h54;have ho:outT [(z8,(1:Rat) / 2)] (z8,((2:Int):Rat))=oneT:=by decide+kernel
 rw[ho] at h54;have h24:=den24 2 (by omega);change Den Tryz.prog 32 [] _ [] (.agg (cn ((2:Int):Rat)).c) at h24;have h19:=iq19 (oneT.map tn) (fun t ht=>by
  obtain⟨u,hu,rfl⟩:=mem_map.1 ht;unfold oneT at hu;rw[qz] at hu;subst hu;exact⟨z8_length,fun x hx=>by have:=eq_of_mem_replicate hx;omega,cn_ok (Bd.mono bd_one (by decide))⟩) (by decide)
 have hi:ints [0,1]=[[FV.lit (.int .i64 0)],[FV.lit (.int .i64 1)]]:=rfl;rw[hi] at h40;obtain⟨T,hT⟩:=ex1 ([(triF,oneT.map tn)]);rw[hT] at h78 h40;obtain⟨Q,hQ⟩:=ex1 (([(z8,(1:Rat) / 2)]:List Tm).map tn);dsimp only at h40;rw[hQ] at h40 h54;obtain⟨O,hO⟩:=ex1 (oneT.map tn);rw[hO] at h79 h78 h54 h19;obtain⟨c,hc⟩:=ex1 (cn ((2:Int):Rat));rw[hc] at h24 h54;have e1:((0:Int)==0)=true:=rfl;refine den_of tabOk mixed Tryz.func29 (cd:=_) rfl (by decide) rfl (n:=19) rfl rfl (m:=0) rfl ?_;simp -dsimp(disch:=omega) only[replicate,rules];refine gp h79 rfl ?_;simp -dsimp(disch:=omega) only[rules];refine gp h78 rfl ?_;simp -dsimp(disch:=omega) only[↓reduceIte,reduceAdd,reduceMul,reduceLT,reduceLeDiff,ru];refine gp h40 (by simp[fzAs,fzA,fz1,fz0]) ?_;simp -dsimp(disch:=omega) only[e1,↓reduceIte,ru];refine gp h24 rfl ?_;simp -dsimp(disch:=omega) only[append_nil,c_reloc,rules]
 refine gp h54 (by simp[fzAs,fzA,fzs_c,f_fv,fz1,fz0]) ?_;simp -dsimp(disch:=omega) only[rules];refine gp h79 rfl ?_;simp -dsimp(disch:=omega) only[rules];refine gp h19 rfl ?_;simp -dsimp(disch:=omega) only[↓reduceIte,ru];exact rpq rfl ⟨tvq,tvq⟩ rfl
def placeS (xs:List Int) (a:Nat) (v:Int):Int×Nat:=if nN xs a 6=0 then(v,nx xs a) else((nN xs (nx xs a) 2:Int),nx xs (nx xs a))
theorem iq26 (xs:List Int) (a:Nat) (v:Int) (hl:xs.length<=1000) (ha:a<=xs.length) (hw:W64 xs):
 Den Tryz.prog 26 [S xs a] [.ptr 0 0 0,.int .i64 v] [S xs (placeS xs a v).2] (.int .i64 (placeS xs a v).1):=by
 have h1:=denN xs a 6 hl ha hw (by decide) (by decide)
 have h2:=denN xs (nx xs a) 2 hl (nx_le ha) hw (by decide) (by decide)
 have hc:=S_closed xs a
 have hc1:=S_closed xs (nx xs a)
 have hlt:=nN_lt (xs:=xs) (a:=a) (n:=6) (by decide)
 have hlt2:=nN_lt (xs:=xs) (a:=nx xs a) (n:=2) (by decide)
 unfold placeS
 generalize nN xs a 6=m at*
 generalize nN xs (nx xs a) 2=k at*
 by_cases hm:m=0
 ·subst hm
  rw[if_pos rfl]
  have e1:decide (((0:Nat):Int)>0)=false:=rfl
  unfold S at h1 h2 hc hc1 ⊢
  refine den_of tabOk mixed Tryz.func26 (cd:=_) rfl (by decide) rfl (n:=9) rfl rfl (m:=1) rfl ?_
  simp -dsimp(disch:=omega) only[replicate,rules]
  refine gl_ 0 h1 rfl rfl hc rfl rfl rfl ?_
  simp -dsimp(disch:=omega) only[sh2,append_nil,e1,↓reduceIte,ru]
  refine rl_ rfl ⟨tvq,tvq⟩ rfl (S_closed xs _) rfl rfl rfl
 ·rw[if_neg hm]
  have e1:decide ((m:Int)>0)=true:=qbb (by omega)
  unfold S at h1 h2 hc hc1 ⊢
  refine den_of tabOk mixed Tryz.func26 (cd:=_) rfl (by decide) rfl (n:=9) rfl rfl (m:=1) rfl ?_
  simp -dsimp(disch:=omega) only[replicate,rules]
  refine gl_ 0 h1 rfl rfl hc rfl rfl rfl ?_
  simp -dsimp(disch:=omega) only[sh2,append_nil,e1,↓reduceIte,ru]
  refine gl_ 0 h2 rfl rfl hc1 rfl rfl rfl ?_
  simp -dsimp(disch:=omega) only[sh2,append_nil,ru]
  refine rl_ rfl ⟨tvq,tvq⟩ rfl (S_closed xs _) rfl rfl rfl
theorem RetOK.lentOwn' {T:Tab} {st:St} {rs:List ResultVar} {ob:Ob} {id len s:Nat} {xs:List (List FV)} {cd:Prop} (h1:resVs T st rs=some (cd,[.lsl id 0 len s])) (hc:cd) (hx:st.heap[0]?=some ob) (hcl:ob.closed) (hrw:ob.rw=true)
 (hid:id≠0) (h2:st.heap[id]?=some (.row true xs)):RetOK T rs 1 st [ob,.row true xs] (.lsl 1 0 len s):=by
 have hi:List.idxOf? id [0,id]=some 1:=by
  simp[List.idxOf?_cons,Ne.symm hid]
 refine⟨cd,[.lsl id 0 len s],[0,id],h1,hc,by simp[Ne.symm hid],fun i hi2=>?_,?_,rfl,fun j k hj=>?_,fun o ho=>?_⟩
 ·have:i=0:=by omega
  subst this;rfl
 ·simp[oneRes,fzX,fzV,fzC,hi]
 ·have hids:idsX st.heap [0,id] (oneRes [.lsl id 0 len s])=[]:=by simp[oneRes,idsX,idsV,idsC,hi]
  rw[hids]
  match j,hj with
  | 0,hj=>simp at hj;subst hj;simpa [shutIds] using hx
  | 1,hj=>simp at hj;subst hj;simpa [shutIds] using h2
  | j+2,hj=>simp at hj
 ·simp at ho
  rcases ho with ho | ho
  ·subst ho;exact⟨hcl,hrw⟩
  ·subst ho;exact⟨tvq,rfl⟩
def Rd3 (ts:List RT):Prop:= ∀ t∈ts,t.1.length=8/\(∀ e∈t.1,0<=e/\e<=2)/\t.2.Ok 4
theorem Rd3.snoc {ts:List RT} {t:RT} (h:Rd3 ts) (h1:t.1.length=8) (h2: ∀ e∈t.1,0<=e/\e<=2) (h3:t.2.Ok 4):Rd3 (ts++[t]):=fun u hu=>by
 rcases List.mem_append.1 hu with hu | hu
 ·exact h u hu
 ·rw[qz] at hu;subst hu;exact⟨h1,h2,h3⟩
theorem z8_two: ∀ e∈z8,0<=e/\e<=(2:Int):=fun x hx=>by
 rw[eq_of_mem_replicate hx];omega
abbrev pk5:List Int:=[0,0,1,1,2]
theorem pk5_at (i:Nat):0<=pk5.getD i 0/\pk5.getD i 0<=2:=getD_exp (by decide) (by decide) i
theorem iq42 (xs:List Int) (a vars terms:Nat) (hl:xs.length<=1000) (ha:a<=xs.length) (hw:W64 xs) (hv:vars<=8) (ht:terms<=100):
 ∃ H1 res,(fun H1 res=> ∃ ts:List RT,∃ a':Nat,H1=[S xs a',.row true (rowsT ts)]/\res=PV.lsl 1 0 ts.length 11/\a'<=xs.length/\ts.length<=terms/\Rd3 ts) H1 res/\
  Den Tryz.prog 42 [S xs a] [.ptr 0 0 0,.int .i64 vars,.int .i64 terms] H1 res:=by
 have hN:=denN xs a (terms+1) hl ha hw (by omega) (by omega)
 have hlt:=nN_lt (xs:=xs) (a:=a) (n:=terms+1) (by omega)
 have hc:=S_closed xs a
 have ha0:=nx_le ha
 generalize nN xs a (terms+1)=n at*
 have e0:((terms:Int)+1)=((terms+1:Nat):Int):=by simp
 obtain⟨a0,hA⟩: ∃ x,nx xs a=x:=⟨_,rfl⟩
 rw[hA] at hN ha0
 have hS0: ∀ a,Ob.box true [.fv (.sl (ints xs)),.int .i64 (a:Nat),.int .i64 0]=S xs a:=fun _=>rfl
 unfold S at hN hc
 unfold S
 refine den_some tabOk mixed Tryz.func42 (cd:=_) rfl (by decide) rfl (n:=41) rfl rfl (m:=1) rfl ?_
 simp -dsimp(disch:=omega) only[replicate,e0,↓reduceIte,ru]
 refine gl_ 0 hN rfl rfl hc rfl rfl rfl ?_
 simp -dsimp(disch:=omega) only[sh2,append_nil,rules]
 refine wl (α:=Nat×Nat×List RT) (fun⟨i,a,ts⟩=>⟨[.ptr 0 0 0,.int .i64 vars,.any,.any,.any,.any,.any,.lsl 1 0 ts.length 11,.int .i64 i]++replicate 35 .any,[.box true [.fv (.sl (ints xs)),.int .i64 a,.int .i64 0],.row true (rowsT ts)]⟩)
  (fun⟨i,_,_⟩=>i) (fun⟨i,a,ts⟩=>i+ts.length<=terms/\a<=xs.length/\Rd3 ts) (n,a0,[]) ?_ ⟨by simp;omega,ha0,fun t ht=>by simp at ht⟩ ?_
 ·refine Weak.nil 7 11 (by decide) rfl ?_
  refine wk [0,1] (by simp) rfl ?_ ?_
  ·simp[leVs,leV,le1]
  ·simp[leH,leO,le1s,le1]
   rfl
 ·rintro⟨i,a,ts⟩ ⟨hi,ha,hts⟩
  simp -dsimp(disch:=omega) only[replicate,↓reduceIte,ru]
  refine bd_ ?_ ?_
  ·intro h1 h2
   have h30:=den30 xs a hl ha hw
   have hca:=S_closed xs a
   have hb:=ratR_bd xs a
   obtain⟨q,hq⟩:=ex1 (ratR xs a)
   obtain⟨a1,ha1⟩: ∃ x,nx xs (nx xs a)=x:=⟨_,rfl⟩
   have la1:a1<=xs.length:=by rw[<-ha1];exact nx_le (nx_le ha)
   rw[hq,ha1] at h30
   rw[hq] at hb
   change Den Tryz.prog 55 _ _ _ (.agg (cn q).c) at h30
   have h8:=denN xs a1 8 hl la1 hw (by decide) (by decide)
   have hc1:=S_closed xs a1
   have l8:=nN_lt (xs:=xs) (a:=a1) (n:=8) (by decide)
   obtain⟨m,hm⟩: ∃ x,nN xs a1 8=x:=⟨_,rfl⟩
   obtain⟨a2,ha2⟩: ∃ x,nx xs a1=x:=⟨_,rfl⟩
   have la2:a2<=xs.length:=by rw[<-ha2];exact nx_le la1
   rw[hm,ha2] at h8
   rw[hm] at l8
   have hok:=cn_ok hb
   obtain⟨r,hr⟩:=ex1 (cn q)
   rw[hr] at h30 hok
   have zl:=tmC_length (t:=(z8,r)) z8_length
   unfold S at h30 h8 hca hc1
   simp -dsimp(disch:=omega) only[h2,rules]
   refine gl_ 0 h30 rfl rfl hca rfl rfl rfl ?_
   simp -dsimp(disch:=omega) only[sh1,c_reloc,c_length,z8_c,zl,↓reduceIte,reduceAdd,reduceLT,reduceLeDiff,ru,zu]
   repeat refine qy (by omega) ?_
   refine gl_ 0 h8 rfl rfl hc1 rfl rfl rfl ?_
   simp -dsimp(disch:=omega) only[sh2,append_nil,↓reduceIte,reduceAdd,ru]
   refine Br.beqInt ?_ ?_
   ·intro h3 h4
    have h60:=den34 xs a2 hl la2 hw
    have hc2:=S_closed xs a2
    have rok:=looseR_ok xs a2
    have la3:=looseR_le la2
    obtain⟨r3,hr3⟩: ∃ r,(looseR xs a2).1=r:=⟨_,rfl⟩
    obtain⟨a3,ha3⟩: ∃ r,(looseR xs a2).2=r:=⟨_,rfl⟩
    rw[hr3,ha3] at h60
    rw[hr3] at rok
    rw[ha3] at la3
    change Den Tryz.prog 60 _ _ _ (.agg r3.c) at h60
    have pc:=tmC_putc (t:=(z8,r)) (r:=r3) z8_length
    unfold S at h60 hc2
    simp -dsimp(disch:=omega) only[h4,rules]
    refine gl_ 0 h60 rfl rfl hc2 rfl rfl rfl ?_
    simp -dsimp(disch:=omega) only[sh1,append_nil,c_reloc,c_length,zl,pc,reduceAdd,reduceLT,reduceLeDiff,ru]
    repeat refine qy (by omega) ?_
    refine wl (α:=Nat×Nat×List Int) (fun⟨v,b,m⟩=>⟨[.ptr 0 0 0,.int .i64 vars,.any,.any,.any,.any,.any,.lsl 1 0 ts.length 11,.int .i64 i,.ptr 2 0 0,.int .i64 v]++replicate 33 .any,[.box true [.fv (.sl (ints xs)),.int .i64 b,.int .i64 0],.row true (rowsT ts),.box true (tmC (m,r3))]⟩)
     (fun⟨v,_,_⟩=>vars - v) (fun⟨v,b,m⟩=>v<=vars/\b<=xs.length/\m.length=8/\ ∀ e∈m,0<=e/\e<=2) (0,a3,z8) ?_ ⟨qsq _,la3,rfl,z8_two⟩ ?_
    ·refine wk [0,1,2] (by simp) rfl ?_ ?_
     ·simp[leVs,leV,le1]
     ·simp[leH,leO,le_tmC,le1s,le1]
    ·rintro⟨v,b,m⟩ ⟨hv2,lb,hm8,hme⟩
     simp -dsimp(disch:=omega) only[replicate,↓reduceIte,ru]
     refine bd_ ?_ ?_
     ·intro g1 g2
      have h82:=den82 xs b pk5 hl lb hw (by decide) (by decide)
      have hcb:=S_closed xs b
      have hd:=pk5_at (nN xs b pk5.length)
      obtain⟨d,hdd⟩:=ex1 (pk5.getD (nN xs b pk5.length) 0)
      rw[hdd] at h82 hd
      have hput:=tmC_put (t:=(m,r3)) (i:=v) (x:=d) (by omega) hm8
      dsimp only at hput
      have tl:=tmC_length (t:=(m,r3)) hm8
      unfold S at h82 hcb
      simp -dsimp(disch:=omega) only[append_nil,g2,↓reduceIte,reduceAdd,reduceMul,reduceLT,reduceLeDiff,ru]
      refine gl_ 0 h82 rfl rfl hcb rfl rfl rfl ?_
      simp -dsimp(disch:=omega) only[append_nil,sh2l,hput,tl,Nat.mul_one,↓reduceIte,reduceAdd,reduceLT,reduceLeDiff,ru]
      repeat refine qy (by omega) ?_
      refine ap (v+1,nx xs b,m.set v d) (by dsimp only;omega) ?_ ⟨by omega,nx_le lb,by simp[hm8],fun e he=>?_⟩
      ·refine wk [0,1,2] (by simp) rfl ?_ ?_
       ·simp[leVs,leV,le1]
       ·simp[leH,leO,le_tmC,le1s,le1]
      ·rcases mem_or_eq_of_mem_set he with h9 | h9
       ·exact hme e h9
       ·rw[h9];exact hd
     ·intro g1 g2
      have tl:=tmC_length (t:=(m,r3)) hm8
      have t11:=tmC_take11 (t:=(m,r3)) hm8
      have f11:=tmF_take11 (t:=(m,r3)) hm8
      have fl:=tmF_length (t:=(m,r3)) hm8
      have hap:=rowsT_snoc ts (m,r3)
      have rt:=rowsT_length ts
      have tk:=take_rowsT (ts:=ts) (n:=ts.length) (qp _)
      have e9:((i:Int) - 1)=((i - 1:Nat):Int):=by omega
      simp -dsimp(disch:=omega) only[g2,tl,t11,f11,fzs_tmC,ids_tmC,rt,tk,hap,e9,append_nil,↓reduceIte,reduceAdd,reduceMul,Nat.reduceBEq,reduceLT,reduceLeDiff,ru]
      repeat refine qy (by omega) ?_
      refine ap (i - 1,b,ts++[(m,r3)]) (by dsimp only;omega) ?_ ⟨by rw[qe];show i - 1+(ts.length+1)<=terms;omega,lb,hts.snoc hm8 hme rok⟩
      refine wk [0,4] (by simp) rfl ?_ ?_
      ·simp[leVs,leV,le1]
      ·simp[leH,leO,le1s,le1]
   ·intro h3 h4
    simp -dsimp(disch:=omega) only[h4,rules]
    refine wl (α:=Nat×Nat×List Int) (fun⟨v,b,m⟩=>⟨[.ptr 0 0 0,.int .i64 vars,.any,.any,.any,.any,.any,.lsl 1 0 ts.length 11,.int .i64 i,.ptr 2 0 0,.int .i64 v]++replicate 33 .any,[.box true [.fv (.sl (ints xs)),.int .i64 b,.int .i64 0],.row true (rowsT ts),.box true (tmC (m,r))]⟩)
     (fun⟨v,_,_⟩=>vars - v) (fun⟨v,b,m⟩=>v<=vars/\b<=xs.length/\m.length=8/\ ∀ e∈m,0<=e/\e<=2) (0,a2,z8) ?_ ⟨qsq _,la2,rfl,z8_two⟩ ?_
    ·refine wk [0,1,2] (by simp) rfl ?_ ?_
     ·simp[leVs,leV,le1]
     ·simp[leH,leO,le_tmC,le1s,le1]
    ·rintro⟨v,b,m⟩ ⟨hv2,lb,hm8,hme⟩
     simp -dsimp(disch:=omega) only[replicate,↓reduceIte,ru]
     refine bd_ ?_ ?_
     ·intro g1 g2
      have h82:=den82 xs b pk5 hl lb hw (by decide) (by decide)
      have hcb:=S_closed xs b
      have hd:=pk5_at (nN xs b pk5.length)
      obtain⟨d,hdd⟩:=ex1 (pk5.getD (nN xs b pk5.length) 0)
      rw[hdd] at h82 hd
      have hput:=tmC_put (t:=(m,r)) (i:=v) (x:=d) (by omega) hm8
      dsimp only at hput
      have tl:=tmC_length (t:=(m,r)) hm8
      unfold S at h82 hcb
      simp -dsimp(disch:=omega) only[append_nil,g2,↓reduceIte,reduceAdd,reduceMul,reduceLT,reduceLeDiff,ru]
      refine gl_ 0 h82 rfl rfl hcb rfl rfl rfl ?_
      simp -dsimp(disch:=omega) only[append_nil,sh2l,hput,tl,Nat.mul_one,↓reduceIte,reduceAdd,reduceLT,reduceLeDiff,ru]
      repeat refine qy (by omega) ?_
      refine ap (v+1,nx xs b,m.set v d) (by dsimp only;omega) ?_ ⟨by omega,nx_le lb,by simp[hm8],fun e he=>?_⟩
      ·refine wk [0,1,2] (by simp) rfl ?_ ?_
       ·simp[leVs,leV,le1]
       ·simp[leH,leO,le_tmC,le1s,le1]
      ·rcases mem_or_eq_of_mem_set he with h9 | h9
       ·exact hme e h9
       ·rw[h9];exact hd
     ·intro g1 g2
      have tl:=tmC_length (t:=(m,r)) hm8
      have t11:=tmC_take11 (t:=(m,r)) hm8
      have f11:=tmF_take11 (t:=(m,r)) hm8
      have fl:=tmF_length (t:=(m,r)) hm8
      have hap:=rowsT_snoc ts (m,r)
      have rt:=rowsT_length ts
      have tk:=take_rowsT (ts:=ts) (n:=ts.length) (qp _)
      have e9:((i:Int) - 1)=((i - 1:Nat):Int):=by omega
      simp -dsimp(disch:=omega) only[g2,tl,t11,f11,fzs_tmC,ids_tmC,rt,tk,hap,e9,append_nil,↓reduceIte,reduceAdd,reduceMul,Nat.reduceBEq,reduceLT,reduceLeDiff,ru]
      repeat refine qy (by omega) ?_
      refine ap (i - 1,b,ts++[(m,r)]) (by dsimp only;omega) ?_ ⟨by rw[qe];show i - 1+(ts.length+1)<=terms;omega,lb,hts.snoc hm8 hme (hok.mono (by decide))⟩
      refine wk [0,4] (by simp) rfl ?_ ?_
      ·simp[leVs,leV,le1]
      ·simp[leH,leO,le1s,le1]
  ·intro h1 h2
   have hi0:i=0:=by omega
   subst hi0
   simp -dsimp(disch:=omega) only[h2,rules,Nat.reduceBEq]
   exact⟨[.box true [.fv (.sl (ints xs)),.int .i64 a,.int .i64 0],.row true (rowsT ts)],.lsl 1 0 ts.length 11,⟨ts,a,rfl,rfl,ha,by omega,hts⟩,RetOK.lentOwn' (cd:=True/\True) rfl ⟨tvq,tvq⟩ rfl (S_closed xs a) rfl (by decide) rfl⟩
end Go.Proofs.YtjjbkjgifdhlcaaGreat
namespace Go.AM
section
variable {P:Program} {T:Tab}
theorem opRes_congr {H:List Ob} {ρ ρ':Operand->PV} {op:Op} (h: ∀ x∈op.operands.toList,ρ x=ρ' x):opRes T H ρ op=opRes T H ρ' op:=by
 cases op
 case build t parts=>
  have e:parts.toList.map (fun p=>(p.1,ρ p.2))=parts.toList.map (fun p=>(p.1,ρ' p.2)):=List.map_congr_left (fun p hp=>by
   rw[h p.2 (by simp only[Op.operands];exact mem_map.2 ⟨p,hp,rfl⟩)])
  simp only[opRes];rw[e]
 case buildSlice t n parts=>
  have e:parts.toList.map (fun p=>(p.1,ρ p.2))=parts.toList.map (fun p=>(p.1,ρ' p.2)):=List.map_congr_left (fun p hp=>by
   rw[h p.2 (by simp only[Op.operands];exact mem_map.2 ⟨p,hp,rfl⟩)])
  simp only[opRes];rw[e]
 case makeMap t r=>cases r<;>rfl
 case makeFunc fn first captured=>
  have e1:first.toList.map ρ=first.toList.map ρ':=List.map_congr_left (fun p hp=>h p (by simp only[Op.operands,Array.toList_append,qr];exact .inl hp));have e2:captured.toList.map ρ=captured.toList.map ρ':=List.map_congr_left (fun p hp=>h p (by simp only[Op.operands,Array.toList_append,qr];exact .inr hp));simp only[opRes];rw[e1,e2]
 case slice t x lo hi mx=>
  have e0:ρ x=ρ' x:=h x (by simp[Op.operands]);have e1:lo.map ρ=lo.map ρ':=by
   cases lo with
   | none=>rfl
   | some y=>simp only[Option.map_some];rw[h y (by simp[Op.operands])]
  have e2:hi.map ρ=hi.map ρ':=by
   cases hi with
   | none=>rfl
   | some y=>simp only[Option.map_some];rw[h y (by simp[Op.operands])]
  have e3:mx.map ρ=mx.map ρ':=by
   cases mx with
   | none=>rfl
   | some y=>simp only[Option.map_some];rw[h y (by simp[Op.operands])]
  simp only[opRes];rw[e0,e1,e2,e3];cases T.at t with
  | none=>rfl
  | some i=>
   obtain⟨d,hd⟩:=ex1 (i.d);cases mx with
   | none=>simp only[hd];cases d<;>rfl
   | some y=>
    have ey:ρ y=ρ' y:=h y (by simp[Op.operands]);simp only[hd];cases d<;>first | rfl | (simp only[ey])
 all_goals first
  | rfl
  | (simp[Op.operands] at h;simp only[opRes];simp only[h];done)
  | (simp[Op.operands] at h;simp only[opRes,h];done)
theorem WPop_res {st:St} {op:Op} {K:PV->List Ob->Prop} (hc: ∀ c,op≠ .call c):WPop P T op st K=(match opRes T st.heap (ev st.env) op with | some r=>r.cond/\K r.val r.heap | none=>False):=by
 cases op<;>first | rfl | exact absurd rfl (hc _)
theorem WPop.congr {env env':List PV} {H:List Ob} {op:Op} {K:PV->List Ob->Prop} (h: ∀ x∈op.operands.toList,ev env x=ev env' x) (hw:WPop P T op ⟨env,H⟩ K):WPop P T op ⟨env',H⟩ K:=by
 by_cases hc: ∃ c,op= .call c
 ·obtain⟨c,rfl⟩:=hc;obtain⟨callee,args,ts⟩:=c;have ea:args.toList.map (ev env)=args.toList.map (ev env'):=List.map_congr_left (fun x hx=>h x (by
   simp only[Op.operands,Call.operands,Array.toList_append,qr];exact .inr hx))
  simp only[WPop,WPcall] at hw ⊢;cases callee with
  | builtin b=>
   simp only at hw ⊢;rw[ea] at hw;exact hw
  | value f=>
   have ef:ev env f=ev env' f:=h f (by simp[Op.operands,Call.operands]);simp only at hw ⊢;rw[ea,ef] at hw;exact hw
  | invoke r m=>exact hw.elim
 ·have hr:=opRes_congr (T:=T) (H:=H) h;rw[WPop_res (fun c e=>hc ⟨c,e⟩)] at hw ⊢;simp only at hw ⊢;rw[hr] at hw;exact hw
def freeOk (ops:Array Oper) (listed:Array Bool) (i d:Nat) (o:Oper):Bool:=
 (List.range ops.size).all fun j=>j==i||listed.getD j true||match ops[j]? with
  | none=>true
  | some oj=>(oj.after.toList.any fun e=>plainEdge e&&e.on==i)||
   (!((oj.op.operands.toList.filterMap tmpOf).contains d)&&(match oj.dst with | some dj=>dj !=d&&!((o.op.operands.toList.filterMap tmpOf).contains dj) | none=>true))
theorem freeOk_at {ops:Array Oper} {listed:Array Bool} {i d:Nat} {o:Oper} (h:freeOk ops listed i d o=true) {j:Nat} {oj:Oper} (hj:ops[j]?=some oj) (hne:j≠i) (hl:listed.getD j true=false) (hn: ∀ e∈oj.after,plainEdge e=true->e.on≠i):
 (∀ x∈oj.op.operands.toList,x≠ .tmp d)/\ ∀ dj,oj.dst=some dj->dj≠d/\ ∀ x∈o.op.operands.toList,x≠ .tmp dj:=by
 unfold freeOk at h
 rw[qob] at h
 have hlt:=(Array.getElem?_eq_some_iff.1 hj).1
 have h1:=h j (List.mem_range.2 hlt)
 rw[hj,hl,Bool.or_false] at h1
 have hb:(j==i)=false:=by simpa using hne
 rw[hb,Bool.false_or] at h1
 simp only[qsb,qtb,Bool.not_eq_true'] at h1
 rcases h1 with h1 | ⟨h1,h2⟩
 ·exfalso
  rw[qpb] at h1
  obtain⟨e,he,h2⟩:=h1
  rw[qtb] at h2
  exact hn e (Array.mem_toList_iff.1 he) h2.1 (by simpa using h2.2)
 ·refine⟨fun x hx hxe=>?_,fun dj hd=>?_⟩
  ·subst hxe
   have hm:d∈oj.op.operands.toList.filterMap tmpOf:=List.mem_filterMap.2 ⟨.tmp d,hx,rfl⟩
   rw[List.contains_iff_mem.2 hm] at h1
   cases h1
  ·rw[hd] at h2
   simp only[qtb,bne_iff_ne,ne_eq,Bool.not_eq_true'] at h2
   refine⟨h2.1,fun x hx hxe=>?_⟩
   subst hxe
   have hm:dj∈o.op.operands.toList.filterMap tmpOf:=List.mem_filterMap.2 ⟨.tmp dj,hx,rfl⟩
   rw[List.contains_iff_mem.2 hm] at h2
   cases h2.2
theorem ev_ne {env:List PV} {x:Operand} {d:Nat} {v:PV} (h:x≠ .tmp d):ev (env.set d v) x=ev env x:=by
 cases x with
 | tmp t=>
  have hne:d≠t:=fun e=>h (by rw[e])
  show(env.set d v).getD t .any=env.getD t .any;rw[qa,qm hne,<-qa]
 | _=>rfl
theorem WPany.free {ops:Array Oper} {i d:Nat} {o:Oper} {v:PV} {K:St->Prop} (ho:ops[i]?=some o) (hg:o.guard=none) (hd:o.dst=some d):
 ∀ (n:Nat) (listed:Array Bool) (env:List PV) (H:List Ob),listed.size=ops.size->freeOk ops listed i d o=true->i∈Region.ready .any ops listed->(∀ H,WPop P T o.op ⟨env,H⟩ (fun v' H'=>v'=v/\H'=H))->
  WPany P T ops n (listed.setIfInBounds i true) ⟨env.set d v,H⟩ K->WPany P T ops (n+1) listed ⟨env,H⟩ K
 | n,listed,env,H,hsz,hfo,hi,hf,hw=>by
  refine⟨fun e=>(by rw[e] at hi;cases hi),fun j hj=>?_⟩;by_cases hji:j=i
  ·subst hji;rw[ho];refine⟨hg,WPop.mono (fun v' H' h=>?_) (hf H)⟩;obtain⟨rfl,rfl⟩:=h;rw[hd];exact hw
  ·obtain⟨hun,oj,hoj,hall⟩:=mem_ready.1 hj;obtain⟨huni,oi,hoi,halli⟩:=mem_ready.1 hi;have hil:i<listed.size:=by rw[hsz];exact(Array.getElem?_eq_some_iff.1 ho).1
   have hjl:j<listed.size:=by rw[hsz];exact(Array.getElem?_eq_some_iff.1 hoj).1
   have set_get: ∀ (a b:Nat) (L:Array Bool),a<L.size->(L.setIfInBounds a true).getD b false=if a=b then true else L.getD b false:=by
    intro a b L ha;by_cases hab:a=b
    ·subst hab;simp[ha]
    ·rw[if_neg hab];simp[Array.getElem?_setIfInBounds_ne hab]
   have set_getT: ∀ (a b:Nat) (L:Array Bool),a≠b->(L.setIfInBounds a true).getD b true=L.getD b true:=by
    intro a b L hab;simp[Array.getElem?_setIfInBounds_ne hab]
   have hj2:j∈Region.ready .any ops (listed.setIfInBounds i true):=mem_ready.2 ⟨by rw[set_getT i j listed (fun e=>hji e.symm)];exact hun,oj,hoj,fun e he hb=>by
    rw[set_get i _ listed hil];split
    ·rfl
    ·exact hall e he hb⟩
   have hi2:i∈Region.ready .any ops (listed.setIfInBounds j true):=mem_ready.2 ⟨by rw[set_getT j i listed hji];exact huni,oi,hoi,fun e he hb=>by
    rw[set_get j _ listed hjl];split
    ·rfl
    ·exact halli e he hb⟩
   cases n with
   | zero=>rw[hw.1] at hj2;cases hj2
   | succ m=>
    have h2:=hw.2 j hj2;rw[hoj] at h2 ⊢;obtain⟨hgj,hwj⟩:=h2;obtain⟨k1,k2⟩:=freeOk_at hfo hoj hji hun (fun e he hp heq=>by
     have:=hall e he (by rw[binds_any];exact hp);rw[heq,<-getD_tf hil,huni] at this;cases this)
    have hwj2:WPop P T oj.op ⟨env,H⟩ (fun v' H'=>WPany P T ops m ((listed.setIfInBounds i true).setIfInBounds j true) (St.upd ⟨env.set d v,H⟩ oj.dst v' H') K):=
     WPop.congr (fun x hx=>ev_ne (k1 x hx)) hwj
    refine⟨hgj,WPop.mono (fun v' H' h=>?_) hwj2⟩;have hset:(listed.setIfInBounds i true).setIfInBounds j true=(listed.setIfInBounds j true).setIfInBounds i true:=by
     exact Array.setIfInBounds_comm _ _ (fun e=>hji e.symm)
    rw[hset] at h;have hfo2:freeOk ops (listed.setIfInBounds j true) i d o=true:=by
     unfold freeOk at hfo ⊢;rw[qob] at hfo ⊢;intro q hq;have:=hfo q hq;by_cases hqj:q=j
     ·subst hqj;have e:(listed.setIfInBounds q true).getD q true=true:=by simp[hjl]
      rw[e];simp
     ·rw[set_getT j q listed (fun e=>hqj e.symm)];exact this
    cases hdj:oj.dst with
    | none=>
     rw[hdj] at h;exact WPany.free ho hg hd m _ env H' (by simpa using hsz) hfo2 hi2 hf h
    | some dj=>
     rw[hdj] at h;obtain⟨q1,q2⟩:=k2 dj hdj;refine WPany.free ho hg hd m _ (env.set dj v') H' (by simpa using hsz) hfo2 hi2 (fun H=>WPop.congr (fun x hx=>(ev_ne (q2 x hx)).symm) (hf H)) ?_;have e:(env.set d v).set dj v'=(env.set dj v').set d v:=List.set_comm _ _ (fun e=>q1 e.symm);show WPany P T ops m _ ⟨(env.set dj v').set d v,H'⟩ K;rw[<-e];exact h
theorem AN.free (i:Nat) (v:PV) {l:List Oper} {n:Nat} {listed:Array Bool} {env:List PV} {H:List Ob} {st1:St} {t:Tok _} (rs:List Nat) (h:Region.ready .any (List.toArray l) listed=rs) (hi:i∈rs) (hsz:listed.size=l.length)
 {d:Nat} {op:Op} {ty:TypeId} {pos:String} {af:Array Edge} (ho:l[i]?=some {dst:=some d,op:=op,type:=ty,pos:=pos,after:=af,guard:=none})
 (hfo:freeOk (List.toArray l) listed i d {dst:=some d,op:=op,type:=ty,pos:=pos,after:=af,guard:=none}=true)
 (hf: ∀ H,W1 P T op ⟨env,H⟩ (fun v' H'=>v'=v/\H'=H) ⟨⟩)
 (k:AN P T l n (listed.setIfInBounds i true) ⟨env.set d v,H⟩ st1 ⟨⟩):AN P T l (n+1) listed ⟨env,H⟩ st1 t:=
 WPany.free (o:={dst:=some d,op:=op,type:=ty,pos:=pos,after:=af,guard:=none}) (by rw[List.getElem?_toArray];exact ho) rfl rfl n listed env H (by rw[hsz];simp) hfo (by rw[h];exact hi) hf k
end
end Go.AM
namespace Go.Proofs.YtjjbkjgifdhlcaaGreat
open Go.AM Go.Pl
set_option maxRecDepth 100000
set_option maxHeartbeats 4000000
section
variable {P:Program} {T:Tab}
theorem AN.oneO (i0:Nat) {l:List Oper} {n:Nat} {listed:Array Bool} {env:List PV} {H:List Ob} {st1:St} {t:Tok _} (h:Region.ready .any (List.toArray l) listed=[i0])
 {d0:Option Nat} {op0:Op} {ty0:TypeId} {pos0:String} {af0:Array Edge} (ho0:l[i0]?=some {dst:=d0,op:=op0,type:=ty0,pos:=pos0,after:=af0,guard:=none})
 (k0:W1 P T op0 ⟨env,H⟩ (fun v H=>AN P T l n (listed.setIfInBounds i0 true) ⟨updE env d0 v,H⟩ st1 ⟨⟩) ⟨⟩)
 :AN P T l (n+1) listed ⟨env,H⟩ st1 t:=
 AN.step [i0] h (by simp) (fun j hj=>by
  simp only[qhb,not_mem_nil,or_false] at hj;subst hj;exact⟨_,ho0,rfl,k0⟩)
theorem AN.twoO (i0 i1:Nat) {l:List Oper} {n:Nat} {listed:Array Bool} {env:List PV} {H:List Ob} {st1:St} {t:Tok _} (h:Region.ready .any (List.toArray l) listed=[i0,i1])
 {d0:Option Nat} {op0:Op} {ty0:TypeId} {pos0:String} {af0:Array Edge} (ho0:l[i0]?=some {dst:=d0,op:=op0,type:=ty0,pos:=pos0,after:=af0,guard:=none})
 {d1:Option Nat} {op1:Op} {ty1:TypeId} {pos1:String} {af1:Array Edge} (ho1:l[i1]?=some {dst:=d1,op:=op1,type:=ty1,pos:=pos1,after:=af1,guard:=none})
 (k0:W1 P T op0 ⟨env,H⟩ (fun v H=>AN P T l n (listed.setIfInBounds i0 true) ⟨updE env d0 v,H⟩ st1 ⟨⟩) ⟨⟩)
 (k1:W1 P T op1 ⟨env,H⟩ (fun v H=>AN P T l n (listed.setIfInBounds i1 true) ⟨updE env d1 v,H⟩ st1 ⟨⟩) ⟨⟩)
 :AN P T l (n+1) listed ⟨env,H⟩ st1 t:=
 AN.step [i0,i1] h (by simp) (fun j hj=>by
  simp only[qhb,not_mem_nil,or_false] at hj;rcases hj with rfl | rfl
  ·exact⟨_,ho0,rfl,k0⟩
  ·exact⟨_,ho1,rfl,k1⟩)
theorem AN.threeO (i0 i1 i2:Nat) {l:List Oper} {n:Nat} {listed:Array Bool} {env:List PV} {H:List Ob} {st1:St} {t:Tok _} (h:Region.ready .any (List.toArray l) listed=[i0,i1,i2])
 {d0:Option Nat} {op0:Op} {ty0:TypeId} {pos0:String} {af0:Array Edge} (ho0:l[i0]?=some {dst:=d0,op:=op0,type:=ty0,pos:=pos0,after:=af0,guard:=none})
 {d1:Option Nat} {op1:Op} {ty1:TypeId} {pos1:String} {af1:Array Edge} (ho1:l[i1]?=some {dst:=d1,op:=op1,type:=ty1,pos:=pos1,after:=af1,guard:=none})
 {d2:Option Nat} {op2:Op} {ty2:TypeId} {pos2:String} {af2:Array Edge} (ho2:l[i2]?=some {dst:=d2,op:=op2,type:=ty2,pos:=pos2,after:=af2,guard:=none})
 (k0:W1 P T op0 ⟨env,H⟩ (fun v H=>AN P T l n (listed.setIfInBounds i0 true) ⟨updE env d0 v,H⟩ st1 ⟨⟩) ⟨⟩)
 (k1:W1 P T op1 ⟨env,H⟩ (fun v H=>AN P T l n (listed.setIfInBounds i1 true) ⟨updE env d1 v,H⟩ st1 ⟨⟩) ⟨⟩)
 (k2:W1 P T op2 ⟨env,H⟩ (fun v H=>AN P T l n (listed.setIfInBounds i2 true) ⟨updE env d2 v,H⟩ st1 ⟨⟩) ⟨⟩)
 :AN P T l (n+1) listed ⟨env,H⟩ st1 t:=
 AN.step [i0,i1,i2] h (by simp) (fun j hj=>by
  simp only[qhb,not_mem_nil,or_false] at hj;rcases hj with rfl | rfl | rfl
  ·exact⟨_,ho0,rfl,k0⟩
  ·exact⟨_,ho1,rfl,k1⟩
  ·exact⟨_,ho2,rfl,k2⟩)
theorem Draw.goO (f:St->St) {l:List Oper} {K:St->Prop} {st:St} {t:Tok _} (h:AN P T l l.length (Array.replicate l.length false) st (f st) ⟨⟩) (k:K (f st)):Draw P T l st K t:=Draw.any (f st) h k
end
theorem Rd3.ts {ts:List RT} (h:Rd3 ts):TsOk 10 ts:=fun t ht=>⟨(h t ht).1,fun x hx=>by have:=(h t ht).2.1 x hx;omega,(h t ht).2.2.mono (by decide)⟩
abbrev pk3:List Int:=[-1,1024,1025]
theorem pk3_at (i:Nat): -1<=pk3.getD i 0/\pk3.getD i 0<=1025:=by
 rcases i with _ | _ | _ | i<;>simp[pk3]
theorem tmF_put {t:RT} {i:Nat} {x:Int} (h:i<8) (hl:t.1.length=8):List.take i (tmF t)++([FV.lit (.int .i64 x)]++List.drop (i+1) (tmF t))=tmF (t.1.set i x,t.2):=by
 unfold tmF monoF;rw[List.take_append_of_le_length (by simp;omega),List.drop_append_of_le_length (by simp;omega),List.set_eq_take_append_cons_drop,if_pos (by omega)];simp
theorem iq25 (xs:List Int) (a vars terms:Nat) (hl:xs.length<=1000) (ha:a<=xs.length) (hw:W64 xs) (hv:vars<=8) (ht:terms<=100):
 ∃ H1 res,(fun H1 res=> ∃ ts:List RT,∃ a':Nat,H1=[S xs a',.row true (rowsT ts)]/\res=PV.lsl 1 0 ts.length 11/\a'<=xs.length/\ts.length<=terms/\TsOk 10 ts) H1 res/\
  Den Tryz.prog 25 [S xs a] [.ptr 0 0 0,.int .i64 vars,.int .i64 terms] H1 res:=by
 obtain⟨H1,res,⟨ts,a1,rfl,rfl,la1,hlen,hts⟩,h42⟩:=iq42 xs a vars terms hl ha hw hv ht
 have hc:=S_closed xs a
 have h6:=denN xs a1 6 hl la1 hw (by decide) (by decide)
 have hc1:=S_closed xs a1
 have la2:nx xs a1<=xs.length:=nx_le la1
 obtain⟨n,hn⟩:=ex1 (ts.length)
 obtain⟨m,hm⟩:=ex1 (nN xs a1 6)
 obtain⟨a2,ha2⟩: ∃ x,nx xs a1=x:=⟨_,rfl⟩
 rw[hm,ha2] at h6
 rw[ha2] at la2
 rw[hn] at h42 hlen
 have rl:=rowsT_length ts
 rw[hn] at rl
 have hle:lent 0 1 1=1:=rfl
 unfold S at h42 hc h6 hc1
 unfold S
 by_cases h0:n=0
 ·have e1:decide ((n:Int)>0)=false:=qcb (by omega)
  refine den_some tabOk mixed Tryz.func25 (cd:=_) rfl (by decide) rfl (n:=31) rfl rfl (m:=1) rfl ?_
  simp -dsimp(disch:=omega) only[replicate,rules]
  refine gl_ 0 h42 rfl rfl hc rfl rfl rfl ?_
  simp -dsimp(disch:=omega) only[sh3,append_nil,e1,hle,Ap_endR_ret,↓reduceIte,ru]
  exact⟨[.box true [.fv (.sl (ints xs)),.int .i64 a1,.int .i64 0],.row true (rowsT ts)],.lsl 1 0 n 11,⟨ts,a1,rfl,by rw[hn],la1,by omega,hts.ts⟩,RetOK.lentOwn' (cd:=True/\True) rfl ⟨tvq,tvq⟩ rfl (S_closed xs a1) rfl (by decide) rfl⟩
 ·have e1:decide ((n:Int)>0)=true:=qbb (by omega)
  by_cases h5:m=5
  ·have e2:((m:Int)==5)=true:=by rw[h5];rfl
   have g1:=denN xs a2 n hl la2 hw (by omega) (by omega)
   have hc2:=S_closed xs a2
   have lt1:=nN_lt (xs:=xs) (a:=a2) (n:=n) (by omega)
   obtain⟨k,hk⟩: ∃ x,nN xs a2 n=x:=⟨_,rfl⟩
   obtain⟨a3,ha3⟩: ∃ x,nx xs a2=x:=⟨_,rfl⟩
   have la3:a3<=xs.length:=by rw[<-ha3];exact nx_le la2
   rw[hk,ha3] at g1
   rw[hk] at lt1
   have g2:=denN xs a3 8 hl la3 hw (by decide) (by decide)
   have hc3:=S_closed xs a3
   have lt2:=nN_lt (xs:=xs) (a:=a3) (n:=8) (by omega)
   obtain⟨v,hvv⟩: ∃ x,nN xs a3 8=x:=⟨_,rfl⟩
   obtain⟨a4,ha4⟩: ∃ x,nx xs a3=x:=⟨_,rfl⟩
   have la4:a4<=xs.length:=by rw[<-ha4];exact nx_le la3
   rw[hvv,ha4] at g2
   rw[hvv] at lt2
   have g3:=den82 xs a4 pk3 hl la4 hw (by decide) (by decide)
   have hc4:=S_closed xs a4
   have la5:nx xs a4<=xs.length:=nx_le la4
   obtain⟨a5,ha5⟩: ∃ x,nx xs a4=x:=⟨_,rfl⟩
   have hd:=pk3_at (nN xs a4 pk3.length)
   obtain⟨d,hdd⟩:=ex1 (pk3.getD (nN xs a4 pk3.length) 0)
   rw[hdd] at g3 hd
   rw[ha5] at g3 la5
   have hkl:k<ts.length:=by omega
   have r1:=rowsT_getD (ts:=ts) (i:=k) hkl
   have hmem:=getD_memT hkl
   have ht8:=(hts _ hmem).1
   have hput:=tmF_put (t:=ts.getD k rt0) (i:=v) (x:=d) lt2 ht8
   have tl:=tmF_length ht8
   have hset:=rowsT_set ts k ((ts.getD k rt0).1.set v d,(ts.getD k rt0).2)
   have hok2:TsOk 10 (ts.set k ((ts.getD k rt0).1.set v d,(ts.getD k rt0).2)):=fun u hu=>by
    rcases mem_or_eq_of_mem_set hu with h9 | h9
    ·exact hts.ts u h9
    ·rw[h9];have:=hts.ts _ hmem;exact⟨by rw[length_set];exact this.len,fun x hx=>by
      rcases mem_or_eq_of_mem_set hx with h10 | h10
      ·exact this.rng x h10
      ·rw[h10];omega,this.raw⟩
   obtain⟨t,htt⟩:=ex1 (ts.getD k rt0)
   rw[htt] at r1 hput tl hset hok2
   unfold S at g1 g2 g3 hc2 hc3 hc4
   refine den_some tabOk mixed Tryz.func25 (cd:=_) rfl (by decide) rfl (n:=31) rfl rfl (m:=1) rfl ?_
   simp -dsimp(disch:=omega) only[replicate,rules]
   refine gl_ 0 h42 rfl rfl hc rfl rfl rfl ?_
   simp -dsimp(disch:=omega) only[sh3,append_nil,e1,hle,↓reduceIte,ru]
   refine gl_ 0 h6 rfl rfl hc1 rfl rfl rfl ?_
   simp -dsimp(disch:=omega) only[sh2,append_nil,e2,↓reduceIte,reduceAdd,ru]
   have hsh: ∀ (o:Ob) (l:List Ob),shutBs (o::l) 0 [.ptr 0 0 0,.lsl 2 0 3 1]=shutIds [2] (o::l):=fun _ _=>rfl
   have hput2:List.take v (tmF t)++[FV.lit (.int .i64 d)]++List.drop (v+1) (tmF t)=tmF (t.1.set v d,t.2):=by rw[qlb];exact hput
   refine Draw.goO (fun s=>⟨s.env.take 20++([.lsl 1 0 n 11,.ptr 0 0 0,.lsl 1 0 n 11,.int .i64 n,.int .i64 k,.ptr 0 0 0,.int .i64 v,.ptr 0 0 0,.lsl 2 0 3 1,.int .i64 d,.ptr 1 k 0,.ptr 1 k 0,.ptr 1 k v]:List PV)++s.env.drop 33,[.box true [.fv (.sl (ints xs)),.int .i64 (a5:Int),.int .i64 0],.row true (rowsT (ts.set k (t.1.set v d,t.2))),.row false (ints pk3)]⟩) ?_ ?_
   ·refine AN.free 0 (.lsl 1 0 n 11) [0,1,2,5,7,8] (by kernel_rfl) (by simp) rfl rfl (by kernel_rfl) ?_ ?_
    ·intro H
     simp -dsimp(disch:=omega) only[ru]
    refine AN.free 1 (.ptr 0 0 0) [1,2,5,7,8] (by kernel_rfl) (by simp) rfl rfl (by kernel_rfl) ?_ ?_
    ·intro H
     simp -dsimp(disch:=omega) only[ru]
    refine AN.free 2 (.lsl 1 0 n 11) [2,5,7,8] (by kernel_rfl) (by simp) rfl rfl (by kernel_rfl) ?_ ?_
    ·intro H
     simp -dsimp(disch:=omega) only[ru]
    refine AN.free 3 (.int .i64 n) [3,5,7,8] (by kernel_rfl) (by simp) rfl rfl (by kernel_rfl) ?_ ?_
    ·intro H
     simp -dsimp(disch:=omega) only[ru]
    refine AN.free 5 (.ptr 0 0 0) [4,5,7,8] (by kernel_rfl) (by simp) rfl rfl (by kernel_rfl) ?_ ?_
    ·intro H
     simp -dsimp(disch:=omega) only[ru]
    refine AN.free 7 (.ptr 0 0 0) [4,7,8] (by kernel_rfl) (by simp) rfl rfl (by kernel_rfl) ?_ ?_
    ·intro H
     simp -dsimp(disch:=omega) only[ru]
    refine AN.twoO 4 8 (by kernel_rfl) rfl rfl ?_ ?_
    simp -dsimp(disch:=omega) only[rules]
    refine gl_ 0 g1 rfl rfl hc2 rfl rfl rfl ?_
    simp -dsimp(disch:=omega) only[sh2,append_nil,rules,reduceAdd]
    refine AN.threeO 6 8 10 (by kernel_rfl) rfl rfl rfl ?_ ?_ ?_
    simp -dsimp(disch:=omega) only[rules]
    refine gl_ 0 g2 rfl rfl hc3 rfl rfl rfl ?_
    simp -dsimp(disch:=omega) only[sh2,append_nil,rules,reduceAdd]
    refine AN.twoO 8 10 (by kernel_rfl) rfl rfl ?_ ?_
    simp -dsimp(disch:=omega) only[append_nil,↓reduceIte,reduceAdd,reduceMul,reduceLT,reduceLeDiff,ru]
    refine AN.twoO 9 10 (by kernel_rfl) rfl rfl ?_ ?_
    simp -dsimp(disch:=omega) only[rules]
    refine gl_ 0 g3 (by simp[]) rfl hc4 rfl rfl rfl ?_
    simp -dsimp(disch:=omega) only[append_nil,hsh,rules,reduceAdd]
    refine AN.oneO 10 (by kernel_rfl) rfl ?_
    simp -dsimp(disch:=omega) only[↓reduceIte,ru]
    refine⟨by omega,?_⟩
    refine AN.oneO 11 (by kernel_rfl) rfl ?_
    simp -dsimp(disch:=omega) only[ru]
    rotate_left
    simp -dsimp(disch:=omega) only[↓reduceIte,ru]
    refine⟨by omega,?_⟩
    refine AN.twoO 9 11 (by kernel_rfl) rfl rfl ?_ ?_
    simp -dsimp(disch:=omega) only[rules]
    refine gl_ 0 g3 (by simp[]) rfl hc4 rfl rfl rfl ?_
    simp -dsimp(disch:=omega) only[append_nil,hsh,rules,reduceAdd]
    refine AN.oneO 11 (by kernel_rfl) rfl ?_
    simp -dsimp(disch:=omega) only[ru]
    rotate_left
    simp -dsimp(disch:=omega) only[ru]
    refine AN.oneO 9 (by kernel_rfl) rfl ?_
    simp -dsimp(disch:=omega) only[rules]
    refine gl_ 0 g3 (by simp[]) rfl hc4 rfl rfl rfl ?_
    simp -dsimp(disch:=omega) only[append_nil,hsh,rules,reduceAdd]
    rotate_left
    simp -dsimp(disch:=omega) only[↓reduceIte,ru]
    refine⟨by omega,?_⟩
    refine AN.twoO 8 11 (by kernel_rfl) rfl rfl ?_ ?_
    simp -dsimp(disch:=omega) only[append_nil,↓reduceIte,reduceAdd,reduceMul,reduceLT,reduceLeDiff,ru]
    refine AN.twoO 9 11 (by kernel_rfl) rfl rfl ?_ ?_
    simp -dsimp(disch:=omega) only[rules]
    refine gl_ 0 g3 (by simp[]) rfl hc4 rfl rfl rfl ?_
    simp -dsimp(disch:=omega) only[append_nil,hsh,rules,reduceAdd]
    refine AN.oneO 11 (by kernel_rfl) rfl ?_
    simp -dsimp(disch:=omega) only[ru]
    rotate_left
    simp -dsimp(disch:=omega) only[ru]
    refine AN.oneO 9 (by kernel_rfl) rfl ?_
    simp -dsimp(disch:=omega) only[rules]
    refine gl_ 0 g3 (by simp[]) rfl hc4 rfl rfl rfl ?_
    simp -dsimp(disch:=omega) only[append_nil,hsh,rules,reduceAdd]
    rotate_left
    simp -dsimp(disch:=omega) only[ru]
    refine AN.oneO 8 (by kernel_rfl) rfl ?_
    simp -dsimp(disch:=omega) only[append_nil,↓reduceIte,reduceAdd,reduceMul,reduceLT,reduceLeDiff,ru]
    refine AN.oneO 9 (by kernel_rfl) rfl ?_
    simp -dsimp(disch:=omega) only[rules]
    refine gl_ 0 g3 (by simp[]) rfl hc4 rfl rfl rfl ?_
    simp -dsimp(disch:=omega) only[append_nil,hsh,rules,reduceAdd]
    rotate_left
    simp -dsimp(disch:=omega) only[append_nil,↓reduceIte,reduceAdd,reduceMul,reduceLT,reduceLeDiff,ru]
    refine AN.twoO 6 10 (by kernel_rfl) rfl rfl ?_ ?_
    simp -dsimp(disch:=omega) only[rules]
    refine gl_ 0 g2 rfl rfl hc3 rfl rfl rfl ?_
    simp -dsimp(disch:=omega) only[sh2,append_nil,rules,reduceAdd]
    refine AN.twoO 9 10 (by kernel_rfl) rfl rfl ?_ ?_
    simp -dsimp(disch:=omega) only[rules]
    refine gl_ 0 g3 (by simp[]) rfl hc4 rfl rfl rfl ?_
    simp -dsimp(disch:=omega) only[append_nil,hsh,rules,reduceAdd]
    refine AN.oneO 10 (by kernel_rfl) rfl ?_
    simp -dsimp(disch:=omega) only[↓reduceIte,ru]
    refine⟨by omega,?_⟩
    refine AN.oneO 11 (by kernel_rfl) rfl ?_
    simp -dsimp(disch:=omega) only[ru]
    rotate_left
    simp -dsimp(disch:=omega) only[↓reduceIte,ru]
    refine⟨by omega,?_⟩
    refine AN.twoO 9 11 (by kernel_rfl) rfl rfl ?_ ?_
    simp -dsimp(disch:=omega) only[rules]
    refine gl_ 0 g3 (by simp[]) rfl hc4 rfl rfl rfl ?_
    simp -dsimp(disch:=omega) only[append_nil,hsh,rules,reduceAdd]
    refine AN.oneO 11 (by kernel_rfl) rfl ?_
    simp -dsimp(disch:=omega) only[ru]
    rotate_left
    simp -dsimp(disch:=omega) only[ru]
    refine AN.oneO 9 (by kernel_rfl) rfl ?_
    simp -dsimp(disch:=omega) only[rules]
    refine gl_ 0 g3 (by simp[]) rfl hc4 rfl rfl rfl ?_
    simp -dsimp(disch:=omega) only[append_nil,hsh,rules,reduceAdd]
    rotate_left
    simp -dsimp(disch:=omega) only[↓reduceIte,ru]
    refine⟨by omega,?_⟩
    refine AN.twoO 6 11 (by kernel_rfl) rfl rfl ?_ ?_
    simp -dsimp(disch:=omega) only[rules]
    refine gl_ 0 g2 rfl rfl hc3 rfl rfl rfl ?_
    simp -dsimp(disch:=omega) only[sh2,append_nil,rules,reduceAdd]
    refine AN.twoO 9 11 (by kernel_rfl) rfl rfl ?_ ?_
    simp -dsimp(disch:=omega) only[rules]
    refine gl_ 0 g3 (by simp[]) rfl hc4 rfl rfl rfl ?_
    simp -dsimp(disch:=omega) only[append_nil,hsh,rules,reduceAdd]
    refine AN.oneO 11 (by kernel_rfl) rfl ?_
    simp -dsimp(disch:=omega) only[ru]
    rotate_left
    simp -dsimp(disch:=omega) only[ru]
    refine AN.oneO 9 (by kernel_rfl) rfl ?_
    simp -dsimp(disch:=omega) only[rules]
    refine gl_ 0 g3 (by simp[]) rfl hc4 rfl rfl rfl ?_
    simp -dsimp(disch:=omega) only[append_nil,hsh,rules,reduceAdd]
    rotate_left
    simp -dsimp(disch:=omega) only[ru]
    refine AN.oneO 6 (by kernel_rfl) rfl ?_
    simp -dsimp(disch:=omega) only[rules]
    refine gl_ 0 g2 rfl rfl hc3 rfl rfl rfl ?_
    simp -dsimp(disch:=omega) only[sh2,append_nil,rules,reduceAdd]
    refine AN.oneO 9 (by kernel_rfl) rfl ?_
    simp -dsimp(disch:=omega) only[rules]
    refine gl_ 0 g3 (by simp[]) rfl hc4 rfl rfl rfl ?_
    simp -dsimp(disch:=omega) only[append_nil,hsh,rules,reduceAdd]
    rotate_left
    simp -dsimp(disch:=omega) only[↓reduceIte,ru]
    refine⟨by omega,?_⟩
    refine AN.threeO 6 8 11 (by kernel_rfl) rfl rfl rfl ?_ ?_ ?_
    simp -dsimp(disch:=omega) only[rules]
    refine gl_ 0 g2 rfl rfl hc3 rfl rfl rfl ?_
    simp -dsimp(disch:=omega) only[sh2,append_nil,rules,reduceAdd]
    refine AN.twoO 8 11 (by kernel_rfl) rfl rfl ?_ ?_
    simp -dsimp(disch:=omega) only[append_nil,↓reduceIte,reduceAdd,reduceMul,reduceLT,reduceLeDiff,ru]
    refine AN.twoO 9 11 (by kernel_rfl) rfl rfl ?_ ?_
    simp -dsimp(disch:=omega) only[rules]
    refine gl_ 0 g3 (by simp[]) rfl hc4 rfl rfl rfl ?_
    simp -dsimp(disch:=omega) only[append_nil,hsh,rules,reduceAdd]
    refine AN.oneO 11 (by kernel_rfl) rfl ?_
    simp -dsimp(disch:=omega) only[ru]
    rotate_left
    simp -dsimp(disch:=omega) only[ru]
    refine AN.oneO 9 (by kernel_rfl) rfl ?_
    simp -dsimp(disch:=omega) only[rules]
    refine gl_ 0 g3 (by simp[]) rfl hc4 rfl rfl rfl ?_
    simp -dsimp(disch:=omega) only[append_nil,hsh,rules,reduceAdd]
    rotate_left
    simp -dsimp(disch:=omega) only[ru]
    refine AN.oneO 8 (by kernel_rfl) rfl ?_
    simp -dsimp(disch:=omega) only[append_nil,↓reduceIte,reduceAdd,reduceMul,reduceLT,reduceLeDiff,ru]
    refine AN.oneO 9 (by kernel_rfl) rfl ?_
    simp -dsimp(disch:=omega) only[rules]
    refine gl_ 0 g3 (by simp[]) rfl hc4 rfl rfl rfl ?_
    simp -dsimp(disch:=omega) only[append_nil,hsh,rules,reduceAdd]
    rotate_left
    simp -dsimp(disch:=omega) only[append_nil,↓reduceIte,reduceAdd,reduceMul,reduceLT,reduceLeDiff,ru]
    refine AN.twoO 6 11 (by kernel_rfl) rfl rfl ?_ ?_
    simp -dsimp(disch:=omega) only[rules]
    refine gl_ 0 g2 rfl rfl hc3 rfl rfl rfl ?_
    simp -dsimp(disch:=omega) only[sh2,append_nil,rules,reduceAdd]
    refine AN.twoO 9 11 (by kernel_rfl) rfl rfl ?_ ?_
    simp -dsimp(disch:=omega) only[rules]
    refine gl_ 0 g3 (by simp[]) rfl hc4 rfl rfl rfl ?_
    simp -dsimp(disch:=omega) only[append_nil,hsh,rules,reduceAdd]
    refine AN.oneO 11 (by kernel_rfl) rfl ?_
    simp -dsimp(disch:=omega) only[ru]
    rotate_left
    simp -dsimp(disch:=omega) only[ru]
    refine AN.oneO 9 (by kernel_rfl) rfl ?_
    simp -dsimp(disch:=omega) only[rules]
    refine gl_ 0 g3 (by simp[]) rfl hc4 rfl rfl rfl ?_
    simp -dsimp(disch:=omega) only[append_nil,hsh,rules,reduceAdd]
    rotate_left
    simp -dsimp(disch:=omega) only[ru]
    refine AN.oneO 6 (by kernel_rfl) rfl ?_
    simp -dsimp(disch:=omega) only[rules]
    refine gl_ 0 g2 rfl rfl hc3 rfl rfl rfl ?_
    simp -dsimp(disch:=omega) only[sh2,append_nil,rules,reduceAdd]
    refine AN.oneO 9 (by kernel_rfl) rfl ?_
    simp -dsimp(disch:=omega) only[rules]
    refine gl_ 0 g3 (by simp[]) rfl hc4 rfl rfl rfl ?_
    simp -dsimp(disch:=omega) only[append_nil,hsh,rules,reduceAdd]
    rotate_left
    simp -dsimp(disch:=omega) only[ru]
    refine AN.twoO 6 8 (by kernel_rfl) rfl rfl ?_ ?_
    simp -dsimp(disch:=omega) only[rules]
    refine gl_ 0 g2 rfl rfl hc3 rfl rfl rfl ?_
    simp -dsimp(disch:=omega) only[sh2,append_nil,rules,reduceAdd]
    refine AN.oneO 8 (by kernel_rfl) rfl ?_
    simp -dsimp(disch:=omega) only[append_nil,↓reduceIte,reduceAdd,reduceMul,reduceLT,reduceLeDiff,ru]
    refine AN.oneO 9 (by kernel_rfl) rfl ?_
    simp -dsimp(disch:=omega) only[rules]
    refine gl_ 0 g3 (by simp[]) rfl hc4 rfl rfl rfl ?_
    simp -dsimp(disch:=omega) only[append_nil,hsh,rules,reduceAdd]
    rotate_left
    simp -dsimp(disch:=omega) only[append_nil,↓reduceIte,reduceAdd,reduceMul,reduceLT,reduceLeDiff,ru]
    refine AN.oneO 6 (by kernel_rfl) rfl ?_
    simp -dsimp(disch:=omega) only[rules]
    refine gl_ 0 g2 rfl rfl hc3 rfl rfl rfl ?_
    simp -dsimp(disch:=omega) only[sh2,append_nil,rules,reduceAdd]
    refine AN.oneO 9 (by kernel_rfl) rfl ?_
    simp -dsimp(disch:=omega) only[rules]
    refine gl_ 0 g3 (by simp[]) rfl hc4 rfl rfl rfl ?_
    simp -dsimp(disch:=omega) only[append_nil,hsh,rules,reduceAdd]
    rotate_left
    simp -dsimp(disch:=omega) only[append_nil,↓reduceIte,reduceAdd,reduceMul,reduceLT,reduceLeDiff,ru]
    refine AN.oneO 4 (by kernel_rfl) rfl ?_
    simp -dsimp(disch:=omega) only[rules]
    refine gl_ 0 g1 rfl rfl hc2 rfl rfl rfl ?_
    simp -dsimp(disch:=omega) only[sh2,append_nil,rules,reduceAdd]
    refine AN.twoO 6 10 (by kernel_rfl) rfl rfl ?_ ?_
    simp -dsimp(disch:=omega) only[rules]
    refine gl_ 0 g2 rfl rfl hc3 rfl rfl rfl ?_
    simp -dsimp(disch:=omega) only[sh2,append_nil,rules,reduceAdd]
    refine AN.twoO 9 10 (by kernel_rfl) rfl rfl ?_ ?_
    simp -dsimp(disch:=omega) only[rules]
    refine gl_ 0 g3 (by simp[]) rfl hc4 rfl rfl rfl ?_
    simp -dsimp(disch:=omega) only[append_nil,hsh,rules,reduceAdd]
    refine AN.oneO 10 (by kernel_rfl) rfl ?_
    simp -dsimp(disch:=omega) only[↓reduceIte,ru]
    refine⟨by omega,?_⟩
    refine AN.oneO 11 (by kernel_rfl) rfl ?_
    simp -dsimp(disch:=omega) only[ru]
    rotate_left
    simp -dsimp(disch:=omega) only[↓reduceIte,ru]
    refine⟨by omega,?_⟩
    refine AN.twoO 9 11 (by kernel_rfl) rfl rfl ?_ ?_
    simp -dsimp(disch:=omega) only[rules]
    refine gl_ 0 g3 (by simp[]) rfl hc4 rfl rfl rfl ?_
    simp -dsimp(disch:=omega) only[append_nil,hsh,rules,reduceAdd]
    refine AN.oneO 11 (by kernel_rfl) rfl ?_
    simp -dsimp(disch:=omega) only[ru]
    rotate_left
    simp -dsimp(disch:=omega) only[ru]
    refine AN.oneO 9 (by kernel_rfl) rfl ?_
    simp -dsimp(disch:=omega) only[rules]
    refine gl_ 0 g3 (by simp[]) rfl hc4 rfl rfl rfl ?_
    simp -dsimp(disch:=omega) only[append_nil,hsh,rules,reduceAdd]
    rotate_left
    simp -dsimp(disch:=omega) only[↓reduceIte,ru]
    refine⟨by omega,?_⟩
    refine AN.twoO 6 11 (by kernel_rfl) rfl rfl ?_ ?_
    simp -dsimp(disch:=omega) only[rules]
    refine gl_ 0 g2 rfl rfl hc3 rfl rfl rfl ?_
    simp -dsimp(disch:=omega) only[sh2,append_nil,rules,reduceAdd]
    refine AN.twoO 9 11 (by kernel_rfl) rfl rfl ?_ ?_
    simp -dsimp(disch:=omega) only[rules]
    refine gl_ 0 g3 (by simp[]) rfl hc4 rfl rfl rfl ?_
    simp -dsimp(disch:=omega) only[append_nil,hsh,rules,reduceAdd]
    refine AN.oneO 11 (by kernel_rfl) rfl ?_
    simp -dsimp(disch:=omega) only[ru]
    rotate_left
    simp -dsimp(disch:=omega) only[ru]
    refine AN.oneO 9 (by kernel_rfl) rfl ?_
    simp -dsimp(disch:=omega) only[rules]
    refine gl_ 0 g3 (by simp[]) rfl hc4 rfl rfl rfl ?_
    simp -dsimp(disch:=omega) only[append_nil,hsh,rules,reduceAdd]
    rotate_left
    simp -dsimp(disch:=omega) only[ru]
    refine AN.oneO 6 (by kernel_rfl) rfl ?_
    simp -dsimp(disch:=omega) only[rules]
    refine gl_ 0 g2 rfl rfl hc3 rfl rfl rfl ?_
    simp -dsimp(disch:=omega) only[sh2,append_nil,rules,reduceAdd]
    refine AN.oneO 9 (by kernel_rfl) rfl ?_
    simp -dsimp(disch:=omega) only[rules]
    refine gl_ 0 g3 (by simp[]) rfl hc4 rfl rfl rfl ?_
    simp -dsimp(disch:=omega) only[append_nil,hsh,rules,reduceAdd]
    rotate_left
    all_goals
     refine AN.oneO 12 (by kernel_rfl) rfl ?_;simp -dsimp(disch:=omega) only[Nat.mul_one,↓reduceIte,reduceLT,ru];refine⟨by omega,?_⟩;refine AN.oneO 13 (by kernel_rfl) rfl ?_;simp -dsimp(disch:=omega) only[append_nil,rl,r1,hput2,hset,reduceLT,ru]
     repeat refine qy (by omega) ?_
     exact AN.nil (by kernel_rfl) rfl
   ·simp -dsimp(disch:=omega) only[Ap_endR_ret,rules]
    exact⟨[.box true [.fv (.sl (ints xs)),.int .i64 a5,.int .i64 0],.row true (rowsT (ts.set k (t.1.set v d,t.2)))],.lsl 1 0 n 11,⟨ts.set k (t.1.set v d,t.2),a5,rfl,by rw[length_set,hn],la5,by rw[length_set];omega,hok2⟩,RetOK.lentOwn' (cd:=True/\True) rfl ⟨tvq,tvq⟩ rfl (S_closed xs a5) rfl (by decide) rfl⟩
  ·have e2:((m:Int)==5)=false:=by rw[qx];omega
   refine den_some tabOk mixed Tryz.func25 (cd:=_) rfl (by decide) rfl (n:=31) rfl rfl (m:=1) rfl ?_
   simp -dsimp(disch:=omega) only[replicate,rules]
   refine gl_ 0 h42 rfl rfl hc rfl rfl rfl ?_
   simp -dsimp(disch:=omega) only[sh3,append_nil,e1,hle,↓reduceIte,ru]
   refine gl_ 0 h6 rfl rfl hc1 rfl rfl rfl ?_
   simp -dsimp(disch:=omega) only[sh2,append_nil,e2,Ap_endR_ret,↓reduceIte,reduceAdd,ru]
   exact⟨[.box true [.fv (.sl (ints xs)),.int .i64 a2,.int .i64 0],.row true (rowsT ts)],.lsl 1 0 n 11,⟨ts,a2,rfl,by rw[hn],la2,by omega,hts.ts⟩,RetOK.lentOwn' (cd:=True/\True) rfl ⟨tvq,tvq⟩ rfl (S_closed xs a2) rfl (by decide) rfl⟩
end Go.Proofs.YtjjbkjgifdhlcaaGreat
namespace Go.Proofs.YtjjbkjgifdhlcaaGreat
open Go.AM Go.Pl
set_option maxRecDepth 100000
set_option maxHeartbeats 4000000
theorem placeS_rng (xs:List Int) (a:Nat) (v:Int) (hv: -9223372036854775808<=v/\v<9223372036854775808): -9223372036854775808<=(placeS xs a v).1/\(placeS xs a v).1<9223372036854775808:=by
 unfold placeS;split
 ·exact hv
 ·have:=nN_lt (xs:=xs) (a:=nx xs a) (n:=2) (by decide);dsimp only;omega
theorem antV_form {ts:List RT} {v:Int} (h8:TsOk 10 ts) (hn:ts.length<=4): ∃ (A:List RT) (c:Int),antV ts v= .tup [PL A,.int .i64 c]/\TsOk 5000000000 A/\A.length<=10000000000:=by
 unfold antV;by_cases h1:validB ts=false
 ·rw[if_pos h1];exact⟨[],2,rfl,fun t ht=>by simp at ht,by decide⟩
 ·rw[if_neg h1];by_cases h2:v<0\/8<=v
  ·rw[if_pos h2];exact⟨[],1,rfl,fun t ht=>by simp at ht,by decide⟩
  ·rw[if_neg h2];by_cases h3:lowB v.toNat (nfR ts)=true
   ·rw[if_pos h3];have hp:=nfR_ok (n:=4) (k:=100) (by decide) h8 hn (by decide) (by simpa using h1);have hpr:=hp.prim (v:=v.toNat) (by decide) (by decide) (by omega);refine⟨(primL v.toNat (nfR ts)).map tn,0,rfl,fun t ht=>(hpr.ts (by decide) t ht).mono (by decide),?_⟩;rw[length_map,prim_len];have:=nfR_len ts;omega
   ·rw[if_neg h3];exact⟨[],9,rfl,fun t ht=>by simp at ht,by decide⟩
theorem iq4 (l:List Int) (v:Int) (hl:l.length<9223372036854775808) (hw:W64 l) (hv: -9223372036854775808<=v/\v<9223372036854775808):Den Tryz.prog 4 [] [.fv (.sl (ints l)),.int .i64 v] [] (.bool true):=by
 have h10:=den10 l hl;have hwt:W64 (l.take 1000):=fun x hx=>hw x (qfb hx)
 have hxl:(l.take 1000).length<=1000:=by rw[qf];omega
 obtain⟨xs,hxs⟩: ∃ t,l.take 1000=t:=⟨_,rfl⟩;rw[hxs] at h10 hwt hxl;obtain⟨H1,res,⟨ts,a1,rfl,rfl,ha1,hln,hts⟩,h25⟩:=iq25 xs 0 3 4 hxl (qsq _) hwt (by decide) (by decide);have hc:=S_closed xs 0;have c1:=S_closed xs a1;have h26:=iq26 xs a1 v hxl ha1 hwt;have hpr:=placeS_rng xs a1 v hv;obtain⟨⟨w,a2⟩,hp⟩: ∃ t,placeS xs a1 v=t:=⟨_,rfl⟩;rw[hp] at h26 hpr;dsimp only at h26 hpr;have hsm:sortMax=12:=rfl;have h27:=iq27 ts w hpr (fun t ht=>(hts t ht).mono (by decide)) (by omega) (by have:=nfR_len ts;omega);have h28:=iq28 ts w hpr hts (by omega);obtain⟨A,c,he,hA,hAl⟩:=antV_form (v:=w) hts hln;rw[he] at h27 h28;have h19:=iq19 A hA hAl;have h29:=jq29;have rl:=rowsT_length ts;obtain⟨n,hn⟩:=ex1 (ts.length);rw[hn] at rl h25;have tk:=take_rowsT (ts:=ts) (n:=n) (by omega);have e1:(c==c)=true:=by simp
 have hle:lent 0 1 1=1:=rfl;unfold S at h10 h25 h26 hc c1;refine den_of tabOk mixed Tryz.func4 (cd:=_) rfl (by decide) rfl (n:=39) rfl rfl (m:=0) rfl ?_;simp -dsimp(disch:=omega) only[replicate,rules];refine gp h10 rfl ?_;simp -dsimp(disch:=omega) only[append_nil,rules];refine gl_ 0 h25 rfl rfl hc rfl rfl rfl ?_;simp -dsimp(disch:=omega) only[sh3,append_nil,hle,rules];refine gl_ 0 h26 rfl rfl c1 rfl rfl rfl ?_;simp -dsimp(disch:=omega) only[sh2,append_nil,rules,reduceAdd];refine gp h27 (by simp[fzAs,fzA,fz1,fz0,tk,rl]) ?_;simp -dsimp(disch:=omega) only[append_nil,rules,reduceAdd];refine gp h28 (by simp[fzAs,fzA,fz1,fz0,tk,rl]) ?_;simp -dsimp(disch:=omega) only[append_nil,e1,↓reduceIte,reduceAdd,ru];refine gp h19 rfl ?_;simp -dsimp(disch:=omega) only[append_nil,↓reduceIte,reduceAdd,ru];refine gp h29 rfl ?_;simp -dsimp(disch:=omega) only[append_nil,↓reduceIte,reduceAdd,ru]
 exact rpq rfl ⟨tvq,tvq⟩ rfl
end Go.Proofs.YtjjbkjgifdhlcaaGreat
