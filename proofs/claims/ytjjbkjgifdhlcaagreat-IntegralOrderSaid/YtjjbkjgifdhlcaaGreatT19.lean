/- Contracts:ref31:a step of the elimination in two variables;it is the program's. -/
import Derived.Test.YtjjbkjgifdhlcaaGreatT18
import Derived.Test.YtjjbkjgifdhlcaaGreatT17
import Derived.Test.YtjjbkjgifdhlcaaGreatT8
import Derived.Test.YtjjbkjgifdhlcaaGreatT16
import Derived.Test.YtjjbkjgifdhlcaaGreatT15
import Derived.Test.YtjjbkjgifdhlcaaGreatT1
set_option linter.all false
open Nat (reduceAdd reduceMul)
open List (append_nil eq_of_mem_replicate length_map map_cons map_nil mem_cons_of_mem mem_map not_mem_nil replicate)
namespace Go.Proofs.YtjjbkjgifdhlcaaGreat
open Go.AM Go.Pl
set_option maxRecDepth 100000
set_option maxHeartbeats 4000000
theorem MK {v:Nat} {t:Rat} (hv:v<8):bQ (jJ v t)=cn (-1):=by
 have h:v=0\/v=1\/v=2\/v=3\/v=4\/v=5\/v=6\/v=7:=by omega
 rcases h with e | e | e | e | e | e | e | e<;>subst e<;>simp[jJ,bQ,replicate,cQ]<;>intro h<;>exact absurd h (by decide)
theorem C6 {v:Nat} {t:Rat} (hv:v<8): ¬aO (jJ v t):=fun h=>by
 have:=h v hv;rw[qH hv (by omega),if_neg (by omega),if_pos rfl] at this;exact absurd this (by decide)
theorem T1 {v:Nat} {t:Rat} (hv:v<8):eD (jJ v t)=jJ v t:=by
 refine xV (ji (FW v t)) (KT v t) (fun i hi=>?_);have hl:=MK (v:=v) (t:=t) hv;rw[nj (FW v t) (by rw[hl,cQ];decide) hi,hl,cQ];have:fH (-1)=1:=by unfold fH;rw[if_pos (by decide)];decide
 rw[this];grind
theorem QD {v:Nat} {c:Kc} {t:Rat} (hv:v<8) (z:Nat->Rat):In (jJ v t::c) z↔In c z/\z v<t:=by
 constructor
 .intro h;refine⟨fun l hl=>h l (mem_cons_of_mem _ hl),?_⟩;rcases h _ (List.mem_cons_self) with h1 | h1
  .rw[yE hv] at h1;grind
  exact absurd h1.1 (C6 hv)
 rintro⟨h1,h2⟩ l hl;rcases List.mem_cons.1 hl with e | e
 .rw[e];exact .inl (by rw[yE hv];grind)
 exact h1 l e
theorem T3 {v w:Nat} {r:RC} {t:Rat} (hv:v<8) (h:RgB v w r) (hn:jJ v t∉r.1):RgB v w (jJ v t::r.1,r.2):=by
 have vZ:co (jJ v t) v= -1:=by rw[qH hv (by omega),if_neg (by omega),if_pos rfl]
 refine⟨⟨fun l hl=>?_,fun l hl=>?_,fun l hl=>?_,List.nodup_cons.2 ⟨hn,h.nrm.nd⟩⟩,fun l hl i hi h1 h2=>?_,h.nn,fun e=>?_,fun e=>?_⟩
 .rcases List.mem_cons.1 hl with e | e
  .rw[e];exact KT v t
  exact h.nrm.cn l e
 .rcases List.mem_cons.1 hl with e | e
  .rw[e];exact T1 hv
  exact h.nrm.nm l e
 .rcases List.mem_cons.1 hl with e | e
  .rw[e];exact C6 hv
  exact h.nrm.nc l e
 .rcases List.mem_cons.1 hl with e | e
  .rw[e,qH hv (by omega),if_neg (by omega),if_neg h1]
  exact h.two l e i hi h1 h2
 .cases hl:aN r.1 v with
  | nil=>exact h.low hl
  | cons a b=>
   have ha:a∈aN r.1 v:=by rw[hl];simp
   obtain⟨m,hm,h0,rfl⟩:=ec.1 ha;have:cF v m∈aN (jJ v t::r.1) v:=ec.2 ⟨m,mem_cons_of_mem _ hm,h0,rfl⟩;rw[show aN (jJ v t::r.1) v=[] from e] at this;simp at this
 have:cF v (jJ v t)∈ay (jJ v t::r.1) v:=dD.2 ⟨_,List.mem_cons_self,by rw[vZ];decide,rfl⟩;rw[show ay (jJ v t::r.1) v=[] from e] at this;simp at this
theorem Ip {v w:Nat} {r:RC} (hv:v<8) (hw:w<8) (jE:v≠w) (h:RgB v w r) (hb:wa w r.1) (x:Nat->Rat) (t:Rat):
 ∃ P:List Pc,(∀ p∈P,p.Ok)/\ ∃ Z:List Rat,∀ y,y∉Z->ox y P=C3 (fun s=>In r.1 (upd (upd x w y) v s)/\s<t) (fun s=>ev (aU v r.2) (upd (upd x w y) v s)):=by
 by_cases hm:jJ v t∈r.1
 .obtain⟨P,Z,h1,_,h3⟩:=k9 hv hw jE h hb x
  refine⟨P,h1,Z,fun y hy=>?_⟩
  rw[h3 y hy]
  unfold T2
  have e:(fun s=>In r.1 (upd (upd x w y) v s))=fun s=>In r.1 (upd (upd x w y) v s)/\s<t:=funext fun s=>propext ⟨fun hi=>⟨hi,by
   rcases hi _ hm with h9 | h9
   .rw[yE hv,i4] at h9;grind
   exact absurd h9.1 (C6 hv)⟩,fun hi=>hi.1⟩
  rw[e]
 have eo:wa w (jJ v t::r.1):=by
  obtain⟨R,hR⟩:=hb;exact⟨R,fun z hz=>hR z ((QD hv z).1 hz).1⟩
 obtain⟨P,Z,h1,_,h3⟩:=k9 (r:=(jJ v t::r.1,r.2)) hv hw jE (T3 hv h hm) eo x
 refine⟨P,h1,Z,fun y hy=>?_⟩
 rw[h3 y hy]
 unfold T2
 have e:(fun s=>In (jJ v t::r.1) (upd (upd x w y) v s))=fun s=>In r.1 (upd (upd x w y) v s)/\s<t:=funext fun s=>propext (by rw[QD hv,i4])
 rw[e]
theorem T4 {v w:Nat} {r:RC} (hv:v<8) (h:RgB v w r) (z:Nat->Rat) (G:Rat->Rat):
 (∃ L U,L<U/\(∀ s,In r.1 (upd z v s)↔L<s/\s<U)/\((∃ b∈aN r.1 v++ay r.1 v,aF b z=L)/\ ∃ b∈aN r.1 v++ay r.1 v,aF b z=U)/\
  ∀ t,C3 (fun s=>In r.1 (upd z v s)/\s<t) G=G (ia L U t) - G L)\/
 ((∀ s,¬In r.1 (upd z v s))/\ ∀ t,C3 (fun s=>In r.1 (upd z v s)/\s<t) G=0):=by
 rcases KS hv h z with⟨L,U,h1,h2,h3,h4⟩ | h1
 .exact .inl ⟨L,U,h1,h2,⟨h3,h4⟩,fun t=>gf (QC h1 h2 t)⟩
 exact .inr ⟨h1,fun t=>gf (.inr ⟨fun s hs=>h1 s hs.1,rfl⟩)⟩
theorem FX {R:Rat}: ∀ M:List Pc,(∀ p∈M,p.lo<=p.hi/\ -R<=p.lo/\p.hi<=R)->mS R M - mS (-R) M=ki M
 | [],_=>by unfold mS ki;grind
 | p::M,hM=>by
  have i1:=FX M (fun x hx=>hM x (mem_cons_of_mem _ hx));obtain⟨q1,q2,q3⟩:=hM p (by simp);have c1:ia p.lo p.hi R=p.hi:=by
   unfold ia;split<;>grind
  have c2:ia p.lo p.hi (-R)=p.lo:=by unfold ia;rw[if_pos (by grind)]
  unfold mS ki;rw[c1,c2];grind
theorem QE {A B K:List Pc} (hA: ∀ p∈A,p.Ok) (hB: ∀ p∈B,p.Ok) (hK: ∀ p∈K,p.Ok) (Z:List Rat) (h: ∀ y,y∉Z->Nr (ox y A) (ox y B) (ox y K)):Nr (ki A) (ki B) (ki K):=by
 have key: ∀ {A B:List Pc},(∀ p∈A,p.Ok)->(∀ p∈B,p.Ok)->(∀ y,y∉Z->ox y A - ox y B<=ox y K)->ki A - ki B<=ki K:=fun{A B} hA hB h=>by
  have:=MJ (K++(YA (-1) A++B)) (fun p hp=>by
   rcases List.mem_append.1 hp with h1 | h1
   .exact hK p h1
   .rcases List.mem_append.1 h1 with h2 | h2
    .exact Qx hA p h2
    exact hB p h2) Z (fun y hy=>by
   have:=h y hy;rw[i_,i_,Qz];grind)
  rw[i9,i9,Qy] at this;grind
 exact⟨key hA hB (fun y hy=>(h y hy).1),key hB hA (fun y hy=>(h y hy).2)⟩
def wb (w:Nat) (s t k:Rat) (b:List Raw):List Pc:=if co b w=0 then [] else if 0<co b w then [YE ((s - co b 8) / co b w) ((t - co b 8) / co b w) k] else [YE ((t - co b 8) / co b w) ((s - co b 8) / co b w) k]
def ML (w:Nat) (b:List Raw):Rat:=if co b w=0 then 0 else if 0<co b w then 1 / co b w else -(1 / co b w)
theorem mF {a b:Rat} (ha:0<=a) (hb:0<b):0<=a / b:=by
 apply Classical.byContradiction;intro hc;have:=Rat.mul_lt_mul_of_pos_right (show a / b<0 by grind) hb;have e:a / b*b=a:=by grind
 grind
theorem agt (w:Nat) (b:List Raw):0<=ML w b:=by
 unfold ML;split
 .exact Rat.le_refl
 split
 .exact mF (by decide) (by assumption)
 have:=mF (a:=1) (b:= -co b w) (by decide) (by grind);have e:1 / -co b w= -(1 / co b w):=by grind
 rw[e] at this;exact this
theorem T5 {w:Nat} {s t k:Rat} {b:List Raw} (bP:s<=t): ∀ p∈wb w s t k b,p.Ok:=fun p hp=>by
 unfold wb at hp;split at hp
 .simp at hp
 next h0=>
 split at hp
 .next h1=>
  rw[qz] at hp;rw[hp];refine C5 ?_;have:=mF (a:=t - s) (by grind) h1;have e:(t - s) / co b w=(t - co b 8) / co b w - (s - co b 8) / co b w:=by grind
  grind
 next h1=>
 rw[qz] at hp;rw[hp];refine C5 ?_;have:=mF (a:=t - s) (b:= -co b w) (by grind) (by grind);have e:(t - s) / -co b w=(s - co b 8) / co b w - (t - co b 8) / co b w:=by grind
 grind
theorem YF (w:Nat) (s t k:Rat) (b:List Raw):ki (wb w s t k b)=k*(t - s)*ML w b:=by
 unfold wb ML;split
 .show(0:Rat)=_;grind
 split
 .rw[KR];grind
 rw[KR];grind
theorem T6 {w:Nat} {s t k:Rat} {b:List Raw} (hk:0<=k) (y:Rat):0<=ox y (wb w s t k b):=by
 unfold wb;split
 .exact Rat.le_refl
 split<;>(rw[FT];split<;>grind)
theorem T7 {w:Nat} {s t k y:Rat} {b:List Raw} (h0:co b w≠0) (h:s<co b 8+co b w*y/\co b 8+co b w*y<t):ox y (wb w s t k b)=k:=by
 unfold wb;rw[if_neg h0];split
 .next h1=>
  rw[FT,if_pos];have hp:0<1 / co b w:=by
   have h2:=mF (a:=1) (by decide) h1;have h3:1 / co b w≠0:=by grind
   grind
  have a1:=Rat.mul_lt_mul_of_pos_right h.1 hp;have a2:=Rat.mul_lt_mul_of_pos_right h.2 hp;have e:(co b 8+co b w*y)*(1 / co b w)=co b 8 / co b w+y:=by grind
  rw[e] at a1 a2;constructor<;>grind
 next h1=>
 rw[FT,if_pos];have hp:0< -(1 / co b w):=by
  have:=mF (a:=1) (b:= -co b w) (by decide) (by grind);have e:1 / -co b w= -(1 / co b w):=by grind
  rw[e] at this;have:1 / co b w≠0:=by grind
  grind
 have a1:=Rat.mul_lt_mul_of_pos_right h.1 hp;have a2:=Rat.mul_lt_mul_of_pos_right h.2 hp;have e:(co b 8+co b w*y)* -(1 / co b w)= -(co b 8 / co b w) - y:=by grind
 rw[e] at a1 a2;constructor<;>grind
theorem KU {w:Nat} {s t k y:Rat} (hk:0<=k): ∀ {Bs:List (List Raw)},(0<=ox y (Bs.flatMap (wb w s t k)))/\((∃ b∈Bs,co b w≠0/\s<co b 8+co b w*y/\co b 8+co b w*y<t)->k<=ox y (Bs.flatMap (wb w s t k)))
 | []=>⟨Rat.le_refl,fun⟨b,hb,_⟩=>by simp at hb⟩
 | b::Bs=>by
  obtain⟨i1,i2⟩:=KU (w:=w) (s:=s) (t:=t) (y:=y) hk (Bs:=Bs);have hn:=T6 (w:=w) (s:=s) (t:=t) (b:=b) hk y;rw[List.flatMap_cons,i_];refine⟨by grind,fun⟨c,hc,h0,h1⟩=>?_⟩;rcases List.mem_cons.1 hc with e | e
  .subst e;have:=T7 (k:=k) h0 h1;grind
  have:=i2 ⟨c,e,h0,h1⟩;grind
theorem W9 (w:Nat) (s t k:Rat): ∀ Bs:List (List Raw),ki (Bs.flatMap (wb w s t k))=k*(t - s)*bt (ML w) Bs
 | []=>by show(0:Rat)=_*0;grind
 | b::Bs=>by rw[List.flatMap_cons,i9,YF,W9 w s t k Bs,bt];grind
theorem QG {v w:Nat} {c:Kc} (h1:wa v c) (h2:wa w c): ∃ R:Rat,0<=R/\ ∀ z,In c z->(-R<=z v/\z v<=R)/\ -R<=z w/\z w<=R:=by
 obtain⟨a,ha⟩:=h1;obtain⟨b,hb⟩:=h2;obtain⟨R,r0,r1,r2⟩: ∃ R:Rat,0<=R/\a<=R/\b<=R:=by
  rcases(by grind:a<=b\/b<=a) with h | h
  .rcases(by grind:0<=b\/b<=0) with h' | h'
   .exact⟨b,h',h,Rat.le_refl⟩
   exact⟨0,Rat.le_refl,by grind,h'⟩
  rcases(by grind:0<=a\/a<=0) with h' | h'
  .exact⟨a,h',Rat.le_refl,h⟩
  exact⟨0,Rat.le_refl,h',by grind⟩
 refine⟨R,r0,fun z hz=>?_⟩;have:=ha z hz;have:=hb z hz;refine⟨⟨?_,?_⟩,?_,?_⟩<;>grind
theorem QH {F f:Rat->Rat} {C R L U s t:Rat} (hC:0<=C) (hR:0<=R) (hL: -R<=L) (hU:U<=R) (XC:L<=U) (bP:s<=t) (h: ∀ a b,-R<=a->a<=R-> -R<=b->b<=R->Nr (f a) 0 C/\Nr (F b) (F a+(b - a)*f a) (C*((b - a)*(b - a)))):
 Nr (F (ia L U t)) (F (ia L U s)) ((C+2*(C*R))*(t - s)):=by
 obtain⟨m1,m2⟩:=Fx XC bP
 obtain⟨r1,r2⟩:=wQ (t:=s) XC hL hU
 obtain⟨r3,r4⟩:=wQ (t:=t) XC hL hU
 obtain⟨b1,b2⟩:=h _ _ r1 r2 r3 r4
 have hCR:=Rat.mul_nonneg hC hR
 generalize ia L U s=a at*
 generalize ia L U t=b at*
 have c1:=gM (x:=b - a) (y:=f a) (a:=b - a) (b:=C) (by unfold Nr;constructor<;>grind) b1 (by grind) hC
 have c2:(b - a)*(b - a)<=2*R*(b - a):=f0 (by grind) (by grind)
 have c3:C*((b - a)*(b - a))<=C*(2*R*(b - a)):=Rat.mul_le_mul_of_nonneg_left c2 hC
 have c4:(C+2*(C*R))*(b - a)<=(C+2*(C*R))*(t - s):=Rat.mul_le_mul_of_nonneg_left m2 (by grind)
 have e2:(C+2*(C*R))*(b - a)=(b - a)*C+C*(2*R*(b - a)):=by grind
 rw[e2] at c4
 unfold Nr at*
 constructor<;>grind
theorem YG {v w:Nat} {r:RC} (hv:v<8) (hw:w<8) (jE:v≠w) (h1:RgB v w r) (h2:RgB w v r) (hbv:wa v r.1) (DQ:wa w r.1) (x:Nat->Rat):
 bt (fun s:RC=>T2 w x s.1 s.2) (eU r.1 r.2 v)=bt (fun s:RC=>T2 v x s.1 s.2) (eU r.1 r.2 w):=by
 obtain⟨R0,hR0,gA⟩:=QG hbv DQ
 obtain⟨P,ZP,p1,p2,p3⟩:=k9 hw hv (Ne.symm jE) h2 hbv x
 obtain⟨QF,ZF,f1,f2,f3⟩:=k9 hv hw jE h1 DQ x
 obtain⟨R1,hR1,hP⟩:=tE P
 obtain⟨R,hRe⟩:=aw (R0+R1+1)
 have hR:0<=R:=by grind
 obtain⟨Q,hQ⟩:=Classical.axiomOfChoice (fun t=>Ip hv hw jE h1 DQ x t)
 have AG: ∀ p∈P,p.Ok/\ -R<=p.lo/\p.hi<=R:=fun p hp=>⟨p1 p hp,by have:=hP p hp;grind,by have:=hP p hp;grind⟩
 rw[<-f2,<-p2]
 obtain⟨C,hC,hS⟩:=Slu.prim (x:=x) hv hw h1.nn R
 have hCR:=Rat.mul_nonneg hC hR
 have iK: ∀ y s,In r.1 (upd (upd x w y) v s)->(-R0<=s/\s<=R0)/\ -R0<=y/\y<=R0:=fun y s hs=>by
  have:=gA _ hs;rw[i4,uT (Ne.symm jE),i4] at this;exact this
 have hA:ki (Q R)=ki QF:=by
  obtain⟨Z,hz⟩:=(hQ R).2;have:=QE (hQ R).1 f1 (K:=[]) (by simp) (Z++ZF) (fun y hy=>by
   rw[qr] at hy;rw[hz y (fun e=>hy (.inl e)),f3 y (fun e=>hy (.inr e))];unfold T2;have e:(fun s=>In r.1 (upd (upd x w y) v s)/\s<R)=fun s=>In r.1 (upd (upd x w y) v s):=funext fun s=>propext ⟨fun h=>h.1,fun h=>⟨h,by have:=iK y s h;grind⟩⟩
   rw[e];exact Nr.self _ Rat.le_refl)
  have e0:ki []=0:=rfl;rw[e0] at this;unfold Nr at this;grind
 have hB:ki (Q (-R))=0:=by
  obtain⟨Z,hz⟩:=(hQ (-R)).2;refine TQ _ (hQ (-R)).1 Z (fun y hy=>?_);rw[hz y hy];exact gf (.inr ⟨fun s hs=>by have:=iK y s hs.1;grind,rfl⟩)
 have hD:=FX P (R:=R) (fun p hp=>⟨(AG p hp).1.1,(AG p hp).2⟩)
 obtain⟨C1,hC1,hN⟩:=tD hR P AG
 obtain⟨k1,jD⟩:=aw (C+2*(C*R))
 have Ru:0<=k1:=by grind
 have afH: ∀ y s t,s<=t-> -R<=s->t<=R->
  (∃ L U,L<U/\(∀ a,In r.1 (upd (upd x w y) v a)↔L<a/\a<U)/\((∃ b∈aN r.1 v++ay r.1 v,aF b (upd x w y)=L)/\ ∃ b∈aN r.1 v++ay r.1 v,aF b (upd x w y)=U)/\(-R<y/\y<R)/\(-R<=L/\U<=R)/\
   ∀ t,C3 (fun s=>In r.1 (upd (upd x w y) v s)/\s<t) (fun s=>ev (aU v r.2) (upd (upd x w y) v s))=ev (aU v r.2) (upd (upd x w y) v (ia L U t)) - ev (aU v r.2) (upd (upd x w y) v L))\/
  ((∀ a,¬In r.1 (upd (upd x w y) v a))/\ ∀ t,C3 (fun s=>In r.1 (upd (upd x w y) v s)/\s<t) (fun s=>ev (aU v r.2) (upd (upd x w y) v s))=0):=fun y s t _ _ _=>by
  rcases T4 hv h1 (upd x w y) (fun s=>ev (aU v r.2) (upd (upd x w y) v s)) with⟨L,U,g1,g2,g3,g4⟩ | g
  .have aeI:In r.1 (upd (upd x w y) v ((L+U) / 2)):=(g2 _).2 ⟨by grind,by grind⟩
   have hm:=iK y _ aeI
   refine .inl ⟨L,U,g1,g2,g3,⟨by grind,by grind⟩,⟨?_,?_⟩,g4⟩
   .apply Classical.byContradiction
    intro hc
    obtain⟨a,a1,a2,a3⟩: ∃ a,L<a/\a<U/\a< -R0:=by
     rcases(by grind: -R0 - 1<U\/U<= -R0 - 1) with h9 | h9
     .rcases(by grind:L< -R0 - 1\/ -R0 - 1<=L) with h8 | h8
      .exact⟨-R0 - 1,h8,h9,by grind⟩
      exfalso;grind
     exact⟨(L+U) / 2,by grind,by grind,by grind⟩
    have:=iK y a ((g2 a).2 ⟨a1,a2⟩)
    grind
   apply Classical.byContradiction
   intro hc
   obtain⟨a,a1,a2,a3⟩: ∃ a,L<a/\a<U/\R0<a:=by
    rcases(by grind:L<R0+1\/R0+1<=L) with h9 | h9
    .rcases(by grind:R0+1<U\/U<=R0+1) with h8 | h8
     .exact⟨R0+1,h9,h8,by grind⟩
     exfalso;grind
    exact⟨(L+U) / 2,by grind,by grind,by grind⟩
   have:=iK y a ((g2 a).2 ⟨a1,a2⟩)
   grind
  exact .inr g
 have XD: ∀ y s t,s<=t-> -R<y->y<R-> ∀ L U,L<U-> -R<=L->U<=R->Nr (ev (aU v r.2) (upd (upd x w y) v (ia L U t))) (ev (aU v r.2) (upd (upd x w y) v (ia L U s))) (k1*(t - s)):=fun y s t bP y1 y2 L U XC hL hU=>by
  rw[<-jD];exact QH (F:=fun a=>ev (aU v r.2) (upd (upd x w y) v a)) (f:=fun a=>ev r.2 (upd (upd x w y) v a)) hC hR hL hU (Rat.le_of_lt XC) bP (fun a b a1 a2 b1 b2=>hS y a b (Rat.le_of_lt y1) (Rat.le_of_lt y2) a1 a2 b1 b2)
 have akb: ∀ s t,-R<=s->s<=t->t<=R->Nr (ki (Q t)) (ki (Q s)) (2*(R*k1)*(t - s)):=fun s t s1 st t1=>by
  obtain⟨Zt,ht⟩:=(hQ t).2;obtain⟨Zs,hs⟩:=(hQ s).2;have Jn:0<=k1*(t - s):=Rat.mul_nonneg Ru (by grind);have:=QE (hQ t).1 (hQ s).1 (K:=[YE (-R) R (k1*(t - s))]) (fun p hp=>by rw[qz] at hp;rw[hp];exact C5 (by grind)) (Zt++Zs) (fun y hy=>by
   rw[qr] at hy;rw[ht y (fun e=>hy (.inl e)),hs y (fun e=>hy (.inr e)),FT];rcases afH y s t st s1 t1 with⟨L,U,g1,g2,g3,g4,g5,g6⟩ | ⟨g1,g2⟩
   .rw[g6 t,g6 s,if_pos g4];have:=XD y s t st g4.1 g4.2 L U g1 g5.1 g5.2;unfold Nr at*;constructor<;>grind
   rw[g2 t,g2 s];refine Nr.self _ ?_;split<;>grind)
  rw[KR] at this;refine this.mono ?_;have e:k1*(t - s)*(R - -R)=2*(R*k1)*(t - s):=by grind
  rw[e];exact Rat.le_refl
 obtain⟨Bs,hBs⟩:=aw (aN r.1 v++ay r.1 v)
 obtain⟨b1,b2⟩:=Io h1.len9 h1.two
 have hBc: ∀ b∈Bs,∀ z,aF b z=co b 8+co b w*z w:=fun b hb z=>by
  rw[<-hBs] at hb;rcases List.mem_append.1 hb with h9 | h9
  .exact nI hw (b1 b h9) z
  exact nI hw (b2 b h9) z
 obtain⟨M,hM⟩:=aw (bt (ML w) Bs)
 have afI:=Fw (D:=fun t=>ki (Q t) - mS t P) (C:=2*(R*C)+(k1+C)*M+C1) (K:=2*(R*k1)+C1) (ZP++(P.map Pc.lo++(P.map Pc.hi++Bs.map (fun b=>co b 8)))) (a:= -R) (b:=R) (by grind) (fun s t s1 st t1 hE=>by
  obtain⟨Zt,ht⟩:=(hQ t).2;obtain⟨Zs,hs⟩:=(hQ s).2;have hsZ:s∉ZP:=fun e=>hE s (List.mem_append_left _ e) ⟨Rat.le_refl,Rat.le_of_lt st⟩
  have fF: ∀ p∈P,¬(s<=p.lo/\p.lo<=t)/\ ¬(s<=p.hi/\p.hi<=t):=fun p hp=>⟨hE p.lo (by simp only[qr,mem_map];exact .inr (.inl ⟨p,hp,rfl⟩)),hE p.hi (by simp only[qr,mem_map];exact .inr (.inr (.inl ⟨p,hp,rfl⟩)))⟩
  have eI: ∀ b∈Bs,¬(s<=co b 8/\co b 8<=t):=fun b hb=>hE _ (by simp only[qr,mem_map];exact .inr (.inr (.inr ⟨b,hb,rfl⟩)))
  have XE:=(hN s t s1 (Rat.le_of_lt st) t1).1 fF;rw[p3 s hsZ] at XE;obtain⟨W,w1,w2,w3⟩: ∃ W:List Pc,(∀ p∈W,p.Ok)/\ki W=T2 w (upd x v s) r.1 r.2/\ ∀ y,ox y W=@ite Rat (In r.1 (upd (upd x w y) v s)) (Classical.propDecidable _) (ev r.2 (upd (upd x w y) v s)) 0:=by
   rcases KS hw h2 (upd x v s) with⟨L,U,g1,g2,_⟩ | g
   .refine⟨[⟨L,U,fun y=>ev (aU w r.2) (upd (upd x v s) w y),fun y=>ev r.2 (upd (upd x v s) w y)⟩],fun p hp=>?_,?_,fun y=>?_⟩
    .rw[qz] at hp;rw[hp];exact⟨Rat.le_of_lt g1,Slp.prim hw h2.nn⟩
    .refine Eq.trans ?_ (gf (.inl ⟨L,U,g1,g2,rfl⟩)).symm;show _ - _+0=_;grind
    have e:=g2 y;rw[yD jE] at e;show(if L<y/\y<U then ev r.2 (upd (upd x v s) w y) else 0)+0=_;rw[yD jE];by_cases hy:L<y/\y<U
    .rw[if_pos hy,if_pos (e.2 hy)];grind
    rw[if_neg hy,if_neg (fun h9=>hy (e.1 h9))];grind
   refine⟨[],by simp,?_,fun y=>?_⟩
   .exact(gf (.inr ⟨g,rfl⟩)).symm
   have:=g y;rw[yD jE] at this;rw[if_neg this];rfl
  obtain⟨d,hd⟩:=aw (t - s);have gg:0<d:=by grind
  have hq:=g7 d;obtain⟨k2,iJ⟩:=aw ((k1+C)*d);have akc:0<=k2:=by rw[<-iJ];exact Rat.mul_nonneg (by grind) (by grind)
  have hkq:0<=C*(d*d):=Rat.mul_nonneg hC hq;have afJ:=QE (A:=Q t) (B:=Q s++YA d W) (K:=[YE (-R) R (C*(d*d))]++Bs.flatMap (wb w s t k2)) (hQ t).1 (fun p hp=>by
   rcases List.mem_append.1 hp with h9 | h9
   .exact(hQ s).1 p h9
   .exact Qx w1 p h9) (fun p hp=>by
   rcases List.mem_append.1 hp with h9 | h9
   .rw[qz] at h9;rw[h9];exact C5 (by grind)
   .obtain⟨b,_,hp⟩:=List.mem_flatMap.1 h9;exact T5 (Rat.le_of_lt st) p hp) (Zt++(Zs++(Bs.map (fun b=>(s - co b 8) / co b w)++Bs.map (fun b=>(t - co b 8) / co b w)))) (fun y hy=>by
   simp only[qr,not_or] at hy;obtain⟨y1,y2,y3,y4⟩:=hy;rw[ht y y1,i_,hs y y2,Qz,w3 y,i_,FT];obtain⟨s1',s2'⟩:=KU (w:=w) (s:=s) (t:=t) (k:=k2) (y:=y) akc (Bs:=Bs);rcases afH y s t (Rat.le_of_lt st) s1 t1 with⟨L,U,g1,g2,g3,g4,g5,g6⟩ | ⟨g1,g2⟩
   .rw[g6 t,g6 s,if_pos g4];have wy:=XD y s t (Rat.le_of_lt st) g4.1 g4.2 L U g1 g5.1 g5.2;rw[hd] at wy;obtain⟨e1,e2⟩:=hS y s t (Rat.le_of_lt g4.1) (Rat.le_of_lt g4.2) s1 (by grind) (by grind) t1;rw[hd] at e2;have hpd:=gM (x:=d) (y:=ev r.2 (upd (upd x w y) v s)) (a:=d) (b:=C) (by unfold Nr;constructor<;>grind) e1 (by grind) hC;have qZ:k2=k1*d+d*C:=by rw[<-iJ];grind
    by_cases zB: ∃ b∈Bs,co b w≠0/\s<co b 8+co b w*y/\co b 8+co b w*y<t
    .have hb:=s2' zB;by_cases hi:In r.1 (upd (upd x w y) v s)
     .rw[if_pos hi];unfold Nr at*;constructor<;>grind
     rw[if_neg hi];have:=Rat.mul_nonneg (a:=d) (b:=C) (by grind) hC;unfold Nr at*;constructor<;>grind
    have su: ∀ b∈Bs,¬(s<=co b 8+co b w*y/\co b 8+co b w*y<=t):=fun b hb hc=>by
     by_cases h0:co b w=0
     .rw[h0] at hc;exact eI b hb ⟨by grind,by grind⟩
     have n1:s≠co b 8+co b w*y:=fun e=>y3 (mem_map.2 ⟨b,hb,by rw[e];grind⟩)
     have n2:t≠co b 8+co b w*y:=fun e=>y4 (mem_map.2 ⟨b,hb,by rw[e];grind⟩)
     exact zB ⟨b,hb,h0,by grind,by grind⟩
    rw[hBs] at g3;obtain⟨⟨bl,m1,v1⟩,bu,m2,v2⟩:=g3;have o1:=su bl m1;have o2:=su bu m2;have u1:=hBc bl m1 (upd x w y);have u2:=hBc bu m2 (upd x w y);rw[i4] at u1 u2;rw[<-u1,v1] at o1;rw[<-u2,v2] at o2;rcases(by grind:(L<s/\t<U)\/t<L\/U<s) with hc | hc | hc
    .have c1:ia L U s=s:=by unfold ia;rw[if_neg (by grind),if_neg (by grind)]
     have c2:ia L U t=t:=by unfold ia;rw[if_neg (by grind),if_neg (by grind)]
     rw[c1,c2,if_pos ((g2 s).2 ⟨hc.1,by grind⟩)];unfold Nr at*;constructor<;>grind
    .have c1:ia L U s=L:=by unfold ia;rw[if_pos (by grind)]
     have c2:ia L U t=L:=by unfold ia;rw[if_pos (by grind)]
     rw[c1,c2,if_neg (fun h9=>by have:=(g2 s).1 h9;grind)];unfold Nr;constructor<;>grind
    have c1:ia L U s=U:=by unfold ia;split<;>grind
    have c2:ia L U t=U:=by unfold ia;split<;>grind
    rw[c1,c2,if_neg (fun h9=>by have:=(g2 s).1 h9;grind)];unfold Nr;constructor<;>grind
   rw[g2 t,g2 s,if_neg (g1 s)];unfold Nr;split<;>constructor<;>grind)
  rw[i9,Qy,w2,i9,KR,W9,hM,hd] at afJ;rw[hd] at XE ⊢;have e1:C*(d*d)*(R - -R)+k2*d*M=(2*(R*C)+(k1+C)*M)*(d*d):=by rw[<-iJ];grind
  rw[e1] at afJ;have e2:(2*(R*C)+(k1+C)*M+C1)*(d*d)=(2*(R*C)+(k1+C)*M)*(d*d)+C1*(d*d):=by grind
  rw[e2];show Nr (ki (Q t) - mS t P) (ki (Q s) - mS s P) _;unfold Nr at*;constructor<;>grind) (fun s t s1 st t1=>by
  have a1:=akb s t s1 st t1;have a2:=(hN s t s1 st t1).2;have e2:(2*(R*k1)+C1)*(t - s)=2*(R*k1)*(t - s)+C1*(t - s):=by grind
  rw[e2];show Nr (ki (Q t) - mS t P) (ki (Q s) - mS s P) _;unfold Nr at*;constructor<;>grind)
 have kR:ki (Q R) - mS R P=ki (Q (-R)) - mS (-R) P:=afI
 grind
structure ak5 (M:List RC) (u:Nat):Prop where
 reg: ∀ r∈M,adK r.1 r.2 u
 len:(elimR M u).length<=4000
 val:M.any (missB u)=false-> ∀ x∈elimR M u,POk 10000000 1024 x.2/\x.2.length<=1000000/\x.1.length<=40
 ord:M.any (missB u)=false->Den Tryz.prog 95 [] [RL' ((elimR M u).map rn)] [] (RL' ((nrmL (elimO M u)).map rn))
end Go.Proofs.YtjjbkjgifdhlcaaGreat
namespace Go.AM
section
variable {P:Program} {T:Tab}
end
end Go.AM
namespace Go.Proofs.YtjjbkjgifdhlcaaGreat
open Go.AM Go.Pl
set_option maxRecDepth 100000
set_option maxHeartbeats 4000000
section
variable {P:Program} {T:Tab}
end
theorem Rd3.ts {ts:List RT} (h:Rd3 ts):TsOk 10 ts:=fun t ht=>⟨(h t ht).1,fun x hx=>by have:=(h t ht).2.1 x hx;omega,(h t ht).2.2.mono (by decide)⟩
end Go.Proofs.YtjjbkjgifdhlcaaGreat
namespace Go.Proofs.YtjjbkjgifdhlcaaGreat
open Go.AM Go.Pl
set_option maxRecDepth 100000
set_option maxHeartbeats 4000000
structure RdR (r:RR):Prop where
 ok: ∀ l∈r.1,LOk 4 l
 two:Two 0 1 r.1
 len:r.1.length<=5
 rd:Rd3 r.2
 duo: ∀ t∈r.2,∀ i,2<=i->t.1.getD i 0=0
 few:r.2.length<=2
theorem YH {ts:List RT} (h:Rd3 ts):validB ts=true:=by
 unfold validB;rw[v7];intro t ht;unfold iq;rw[v7];intro e he;have:=(h t ht).2.1 e he;rw[DV];exact⟨ib (by omega),ib (by omega)⟩
theorem QI {ts:List RT} {j k n:Nat} (hj:1<=j) (h:TsOk j ts) (hn:ts.length<=n) (hk:n*(j+1)+1<=k):PB k (ts.map tq):=PB.terms hj (fun t ht=>by
 obtain⟨u,hu,rfl⟩:=mem_map.1 ht;exact(h u hu).raw.bd hj) (by rw[length_map];exact hn) hk
theorem adL {ts:List RT} (h:TsOk 10 ts) (hn:ts.length<=2):MD ts:=by
 have h1:=Kf ts;have h2:bG=12:=rfl;exact⟨fun t ht=>(h t ht).mono (by decide),(QI (k:=23) (by decide) h hn (by decide)).mono (by decide),by omega,by omega⟩
theorem RdR.q {r:RR} (h:RdR r):RgQ 0 1 2 2 6 23 5 (r.1,nfR r.2):=by
 have Ay:=h.rd.ts;refine⟨fun l hl=>(h.ok l hl).mono (by decide),h.two,by have:=h.len;show r.1.length<=40;omega,gD (lN _) h.len,cV (tc Ay.l8),?_,(QI (k:=23) (by decide) Ay h.few (by decide)).nf,.inl (by decide)⟩;refine Duo.nf (fun t ht=>?_);obtain⟨u,hu,rfl⟩:=mem_map.1 ht;have h1:=h.rd u hu;exact⟨h1.1,fun i _ h2 h3=>h.duo u hu i (by omega),jv (by decide) h1.2.1 0,jv (by decide) h1.2.1 1⟩
theorem BN: ∀ {L:List RR},(∀ r∈L,Canon (nfR r.2))->normL ((L.map (fun r=>(r.1,nfR r.2))).map rn)=normL L
 | [],_=>rfl
 | r::L,h=>by
  have ih:=BN (L:=L) (fun x hx=>h x (mem_cons_of_mem _ hx));have hr:nfR ((nfR r.2).map tn)=nfR r.2:=uZ (h r (by simp));have hk:mD (rn (r.1,nfR r.2))=mD r:=by
   unfold mD;show(aZ r.1&&!(nfR ((nfR r.2).map tn)).isEmpty)=_;rw[hr]
  unfold normL at ih ⊢;rw[map_cons,map_cons];cases hb:mD r with
  | true=>
   rw[List.filter_cons_of_pos (by rw[hk,hb]),List.filter_cons_of_pos hb,map_cons,map_cons,ih];show(aV r.1,nfR ((nfR r.2).map tn))::_=_;rw[hr]
  | false=>rw[List.filter_cons_of_neg (by rw[hk,hb];decide),List.filter_cons_of_neg (by rw[hb];decide),ih]
theorem T8 {L:List RR} (hc:L.length<=4000) (h: ∀ r∈L,r.1.length<=40) (hv: ∀ r∈L,validB r.2=true):r8 [L]=0:=by
 have h1:fY L=false:=by
  unfold fY;rw[Bool.or_eq_false_iff];refine⟨mX (by omega),?_⟩;rw[List.any_eq_false];intro x hx;have:=h x hx;simp[iv];omega
 have h2:kF L=true:=by
  unfold kF;rw[v7];exact hv
 unfold r8;rw[if_neg (by simp[h1]),if_pos (by simp[h2])]
theorem BO:iM 0 1 2 2 6 23 5 2:=⟨by decide,by decide,by decide,by decide,by decide,by decide,by decide,by decide⟩
def amZ (L:List RR) (x:PV):Prop:=Den Tryz.prog 90 [] [RL' L] [] x/\Den Tryz.prog 92 [] [RL' L] [] x
structure SmR (r:RC):Prop where
 cn: ∀ l∈r.1,IsCn l/\LOk 1000 l
 len:r.1.length<=40
 pok:POk 10000000 1024 r.2
 few:r.2.length<=12
def u3 (xs:List Int) (n a:Nat):List Raw×Nat:=
 if nN xs (nx xs (nx xs (rJ xs n a))) 6=0 then
  (((zU xs n 0 a (replicate 9 rz)).set 8 (cn (qR xs (rJ xs n a)))).set 8 (jI xs (nx xs (nx xs (nx xs (rJ xs n a))))).1,(jI xs (nx xs (nx xs (nx xs (rJ xs n a))))).2)
 else((zU xs n 0 a (replicate 9 rz)).set 8 (cn (qR xs (rJ xs n a))),nx xs (nx xs (nx xs (rJ xs n a))))
theorem KV (xs:List Int) (n a:Nat):LOk 4 (u3 xs n a).1:=by
 have h1:=pW (Cv xs n 0 a _ sR) 8 (Raw.Ok.mono (bD (wG xs (rJ xs n a))) (by decide));unfold u3;split
 .exact pW h1 8 (ux _ _)
 exact h1
theorem KW {xs:List Int} {n a:Nat} (h:a<=xs.length):(u3 xs n a).2<=xs.length:=by
 have h3:=rL (n:=n) h;unfold u3;split
 .exact A2 (cD (cD (cD h3)))
 exact cD (cD (cD h3))
theorem aij (xs:List Int) (n a:Nat) (hn8:n<=8) (hl:xs.length<=1000) (ha:a<=xs.length) (hw:W64 xs):
 Den Tryz.prog 30 [S xs a] [.ptr 0 0 0,.int .i64 n] [S xs (u3 xs n a).2] (RL (u3 xs n a).1):=by
 have a3l:=rL (n:=n) ha
 have ake:=Cv xs n 0 a _ sR
 unfold u3
 obtain⟨rsf,aaj⟩:=aw (zU xs n 0 a (replicate 9 rz))
 obtain⟨a3,e3⟩:=aw (rJ xs n a)
 rw[e3] at a3l
 rw[aaj] at ake
 rw[aaj,e3]
 unfold S
 refine dq Tryz.func30 26 1 ?_
 refine aX ?_
 refine wl (α:=Nat×Nat×List Raw) (fun⟨i,b,rs⟩=>⟨[.ptr 0 0 0,.int .i64 n,.any,.any,.ptr 1 0 0,.ptr 2 0 0,.int .i64 i]++replicate 21 .any,[.box true [.fv (.sl (ints xs)),.int .i64 b,.int .i64 0],.box true (fS 9),.box true (flat rs)]⟩)
  (fun⟨i,_,_⟩=>n - i) (fun⟨i,b,rs⟩=>i<=n/\b<=xs.length/\LOk 4 rs/\zU xs (n - i) i b rs=rsf/\rJ xs (n - i) b=a3) (0,a,replicate 9 rz) ?_ ?_ ?_
 .refine eV [0,1,2] ?_ ?_
  .simp[bc,dX,cB]
  simp[ez,fL,c9,cB,fS,replicate,flat,rz,u32s]
 .exact⟨by omega,ha,sR,aaj,e3⟩
 rintro⟨i,b,rs⟩ ⟨hi,hb,bE,hS,hX⟩
 have aD:=bE.len
 have oH:=ah rs
 have cb:=aI xs b
 refine aX ?_
 refine bR ?_ ?_
 .intro h1 h2
  have G4:=A1 xs b (-2) 2 5 hl hb hw (by decide) (by decide) (by decide) (by decide) (by decide)
  have l5:=eR (xs:=xs) (a:=b) (n:=5) (by decide)
  obtain⟨k,hk⟩: ∃ k,n - i=k+1:=⟨n - 1 - i,by omega⟩
  have iJ:n - (i+1)=k:=by omega
  rw[hk] at hS hX
  unfold zU at hS
  unfold rJ at hX
  have tT:=mg (-2+(nN xs b 5:Int)) (by omega)
  have a_:=d8 (rs:=rs) (i:=i) (by omega) (decide (((-2+(nN xs b 5:Int):Int):Rat).num<0)) (ai ((-2+(nN xs b 5:Int):Int):Rat).num.natAbs) (ai ((-2+(nN xs b 5:Int):Int):Rat).den)
  have ue:(⟨decide (((-2+(nN xs b 5:Int):Int):Rat).num<0),ai ((-2+(nN xs b 5:Int):Int):Rat).num.natAbs,ai ((-2+(nN xs b 5:Int):Int):Rat).den⟩:Raw)=cn ((-2+(nN xs b 5:Int):Int):Rat):=rfl
  have afK:(cn ((-2+(nN xs b 5:Int):Int):Rat)).Ok 4:=Raw.Ok.mono (bD (bd_int (by omega))) (by decide)
  rw[ue] at a_
  obtain⟨z,hz⟩: ∃ z:Int,-2+(nN xs b 5:Int)=z:=⟨_,rfl⟩
  rw[hz] at G4 tT a_ hS afK
  rw[bk,bB,bB] at tT
  unfold S at G4 cb
  refine ae h2 ?_
  refine iD 0 G4 cb ?_
  refine I5 ?_
  refine aW tT ?_
  refine ae (aQ a_ @append_nil.{0}) ?_
  repeat refine ag ?_
  refine ax (i+1,nx xs b,rs.set i (cn (z:Rat))) ?_ ⟨by omega,cD hb,pW bE i afK,by rw[iJ];exact hS,by rw[iJ];exact hX⟩
  exact vf [0,1,2]
 intro h1 h2
 have hi3:n - i=0:=by omega
 rw[hi3] at hS hX
 have jc:rs=rsf:=hS
 have hba:b=a3:=hX
 subst jc
 subst hba
 have Jh:=O0 xs b hl hb hw
 have Xn:=cD (cD hb)
 obtain⟨a4,e4⟩:=aw (nx xs (nx xs b))
 rw[e4] at Jh Xn ⊢
 have c4:=aI xs a4
 have hn6:=sU xs a4 6 hl Xn hw (by decide) (by decide)
 have hb5:=cD Xn
 obtain⟨a5,e5⟩:=aw (nx xs a4)
 rw[e5] at hn6 hb5 ⊢
 have c5:=aI xs a5
 have h34:=WL xs a5 hl hb5 hw
 obtain⟨m,hm⟩:=aw (nN xs a4 6)
 rw[hm] at hn6 ⊢
 have a_:=d8 (rs:=rs) (i:=8) (by omega) (decide ((qR xs b).num<0)) (ai (qR xs b).num.natAbs) (ai (qR xs b).den)
 have ue:(⟨decide ((qR xs b).num<0),ai (qR xs b).num.natAbs,ai (qR xs b).den⟩:Raw)=cn (qR xs b):=rfl
 rw[ue] at a_
 have aak:=pW bE 8 (Raw.Ok.mono (bD (wG xs b)) (by decide))
 obtain⟨rs8,akf⟩:=aw (rs.set 8 (cn (qR xs b)))
 rw[akf] at a_ aak ⊢
 simp only[reduceMul,reduceAdd] at a_
 have Lq:=aak.len
 have hf8:=ah rs8
 have akg:(flat rs8).length=27:=by omega
 rw[bk,bB,bB] at Jh
 unfold S at Jh hn6 h34 cb c4 c5
 by_cases h0:m=0
 .rw[if_pos h0]
  have Hg:((m:Int)==0)=true:=by rw[h0];rfl
  obtain⟨⟨r,a6⟩,hr6⟩: ∃ t,jI xs a5=t:=⟨_,rfl⟩
  have Hh:=ux xs a5
  rw[hr6] at h34 Hh ⊢
  dsimp only at h34 Hh ⊢
  have oh:=d8 (rs:=rs8) (i:=8) (by omega) r.neg r.num r.den
  have iQ:(⟨r.neg,r.num,r.den⟩:Raw)=r:=rfl
  rw[iQ] at oh
  have afN:=pW aak 8 Hh
  obtain⟨rs9,akh⟩:=aw (rs8.set 8 r)
  rw[akh] at oh afN ⊢
  simp only[reduceMul,reduceAdd] at oh
  have hl9:=afN.len
  have hf9:=ah rs9
  have afO:(flat rs9).length=27:=by omega
  unfold Raw.v at h34
  refine ae h2 ?_
  refine iD 0 Jh cb ?_
  refine vg a_ ?_
  repeat refine ag ?_
  refine iD 0 hn6 c4 ?_
  refine vg Hg ?_
  refine iD 0 h34 c5 ?_
  simp -dsimp(disch:=omega) only[sh1,oh,ar hl9,afO,↓reduceIte,reduceAdd,Nat.reduceLT,Nat.reduceLeDiff,ru,zu]
  repeat refine ag ?_
  exact RetOK.formL rfl rfl hl9 rfl (aI xs _) rfl
 rw[if_neg h0]
 have Hg:((m:Int)==0)=false:=by rw[qx];omega
 refine ae h2 ?_
 refine iD 0 Jh cb ?_
 refine vg a_ ?_
 repeat refine ag ?_
 refine iD 0 hn6 c4 ?_
 simp -dsimp(disch:=omega) only[sh2,Hg,ar Lq,akg,↓reduceIte,reduceAdd,Nat.reduceLT,Nat.reduceLeDiff,ru,zu]
 repeat refine ag ?_
 exact RetOK.formL rfl rfl Lq rfl (aI xs _) rfl
def jP (xs:List Int) (n:Nat):Nat->Nat->List (List Raw)
 | 0,_=>[]
 | k+1,b=>(u3 xs n b).1::jP xs n k (u3 xs n b).2
def vF (xs:List Int) (n:Nat):Nat->Nat->Nat
 | 0,b=>b
 | k+1,b=>vF xs n k (u3 xs n b).2
theorem u5 (xs:List Int) (n:Nat): ∀ k b,(jP xs n k b).length=k
 | 0,_=>rfl
 | k+1,b=>by simp[jP,u5 xs n k]
theorem yF (xs:List Int) (n:Nat): ∀ k b,∀ l∈jP xs n k b,LOk 4 l
 | 0,b,l,h=>by simp[jP] at h
 | k+1,b,l,h=>by
  simp only[jP,AK] at h;rcases h with h | h
  .rw[h];exact KV xs n b
  exact yF xs n k _ l h
theorem yG {xs:List Int} {n:Nat}: ∀ {k b},b<=xs.length->vF xs n k b<=xs.length
 | 0,_,h=>h
 | k+1,_,h=>yG (k:=k) (KW h)
theorem adM (xs:List Int) (n m a:Nat) (hn8:n<=8) (hm:m<=100) (hl:xs.length<=1000) (ha:a<=xs.length) (hw:W64 xs):
 Den Tryz.prog 99 [S xs a] [.ptr 0 0 0,.int .i64 n,.int .i64 m] [S xs (vF xs n (nN xs a (m+1)) (nx xs a))] (.fv (.sl (au (jP xs n (nN xs a (m+1)) (nx xs a))))):=by
 have hN:=sU xs a (m+1) hl ha hw (by omega) (by omega)
 have aH:=eR (xs:=xs) (a:=a) (n:=m+1) (by omega)
 have hc:=aI xs a
 have vV:=cD ha
 obtain⟨k0,Ru⟩:=aw (nN xs a (m+1))
 obtain⟨a1,e1⟩:=aw (nx xs a)
 rw[Ru] at hN aH ⊢
 rw[e1] at hN vV ⊢
 obtain⟨fin,iK⟩:=aw (vF xs n k0 a1)
 obtain⟨tot,DF⟩:=aw (jP xs n k0 a1)
 rw[iK,DF]
 have em:((m:Int)+1)=((m+1:Nat):Int):=by omega
 unfold S at hN hc ⊢
 refine dq Tryz.func99 21 1 ?_
 refine aX ?_
 rw[em]
 refine iD 0 hN hc ?_
 refine I5 ?_
 refine wl (α:=Nat×Nat×List (List Raw)) (fun⟨i,b,out⟩=>⟨[.ptr 0 0 0,.int .i64 n,.int .i64 m,.any,.any,.any,.nilsl,.lsl 1 0 out.length 27,.int .i64 i]++replicate 15 .any,[S xs b,.row true (au out)]⟩)
  (fun⟨i,_,_⟩=>i) (fun⟨i,b,out⟩=>b<=xs.length/\out.length+i=k0/\vF xs n i b=fin/\out++jP xs n i b=tot) (k0,a1,[]) ?_ ?_ ?_
 .refine Weak.nil 7 27 (by decide) rfl ?_
  refine eV [0,1] ?_ ?_
  .simp[bc,dX,cB]
  simp[ez,fL,c9,cB,S,au]
 .exact⟨vV,by simp,iK,by rw[List.nil_append];exact DF⟩
 rintro⟨i,b,out⟩ ⟨hb,zP,zQ,cJ⟩
 obtain⟨L,hL⟩:=aw out.length
 have rlo:=aA out
 rw[hL] at rlo zP
 have gN:=cv (ls:=out) (n:=L) (by omega)
 have Hl:=aI xs b
 dsimp only
 rw[hL]
 unfold S at Hl ⊢
 refine aX ?_
 refine bR ?_ ?_
 .intro h1 h2
  obtain⟨p,rfl⟩: ∃ p,i=p+1:=⟨i - 1,by omega⟩
  have ep:(((p+1:Nat):Int) - 1)=(p:Int):=by omega
  have h58:=aij xs n b hn8 hl hb hw
  have bE:=KV xs n b
  have eo:=KW (n:=n) hb
  simp only[vF] at zQ
  simp only[jP] at cJ
  obtain⟨⟨y,b2⟩,hy⟩: ∃ t,u3 xs n b=t:=⟨_,rfl⟩
  rw[hy] at h58 bE eo zQ cJ
  dsimp only at h58 bE eo zQ cJ
  have Hq:=bE.len
  have gy:=ah y
  have ug:=aG Hq
  have pG:=ar Hq
  have jc:=dj out y
  unfold S at h58
  unfold RL at h58
  refine ae h2 ?_
  refine iD 0 h58 Hl ?_
  refine Ak (fw gy Hq ug gN jc rlo ep) ?_
  repeat refine ag ?_
  refine ax (p,b2,out++[y]) ?_ ⟨eo,by rw[qe,hL];simp;omega,zQ,by rw[<-cJ];simp⟩
  exact bN [0,3]
 intro h1 h2
 have sC:i=0:=by omega
 subst sC
 have RH:b=fin:=zQ
 have zy:out=tot:=by rw[<-cJ];simp[jP]
 subst RH
 subst zy
 refine ae h2 ?_
 refine sk rfl ⟨cS,cS⟩ rfl (aI xs _) rfl ?_ rfl
 have oA:List.idxOf? 1 [0]=none:=rfl
 exact lX (bZ rlo gN oA)
theorem tG {q:Rat} (h:Bd 1 q):LOk 1 (dP q):=by
 refine⟨d' q,fun r hr=>?_⟩;unfold dP at hr;rcases List.mem_or_eq_of_mem_set hr with h1 | h1
 .rw[eq_of_mem_replicate h1];exact bD (Bd.zero (by decide))
 rw[h1];exact bD h
theorem nJ (v:Nat):LOk 1 (gC v):=by
 refine⟨dE v,fun r hr=>?_⟩;unfold gC at hr;rcases List.mem_or_eq_of_mem_set hr with h1 | h1
 .rw[eq_of_mem_replicate h1];exact bD (Bd.zero (by decide))
 rw[h1];exact bD (bd_int (by decide))
def oa (v:Nat) (z:Int):List Raw:=(m6 (gC v) (dP (z:Rat))).map cn
def oc (v:Nat) (z:Int):List Raw:=(m6 (dC (gC v)) (dP (z:Rat))).map cn
theorem FY (v:Nat) {z:Int} (h:z.natAbs<4294967296):LOk 4 (oa v z):=
 LOk.of_map (fT (dE v) (d' _)) (fun q hq=>Bd.mono (Cw ((nJ v).bd (by decide)) ((tG (bd_int h)).bd (by decide)) (by decide) q hq) (by decide))
theorem FZ (v:Nat) {z:Int} (h:z.natAbs<4294967296):LOk 4 (oc v z):=
 LOk.of_map (fT (er (dE v)) (d' _)) (fun q hq=>Bd.mono (Cw (CG ((nJ v).bd (by decide))) ((tG (bd_int h)).bd (by decide)) (by decide) q hq) (by decide))
def mG (xs:List Int) (b:Nat):Int:= -1+(nN xs b 3:Int)
def rh (xs:List Int) (b:Nat):Int:=mG xs b+(1+(nN xs (nx xs b) 2:Int))
def mH (xs:List Int):Nat->Nat->Nat->List (List Raw)
 | 0,_,_=>[]
 | k+1,v,b=>oa v (-mG xs b)::oc v (rh xs b)::mH xs k (v+1) (nx xs (nx xs b))
theorem qI (xs:List Int) (b:Nat): -1<=mG xs b/\mG xs b<=1/\mG xs b<rh xs b/\rh xs b<=3:=by
 have h1:=eR (xs:=xs) (a:=b) (n:=3) (by decide);have h2:=eR (xs:=xs) (a:=nx xs b) (n:=2) (by decide);unfold rh mG;omega
theorem yH (xs:List Int): ∀ k v b,(mH xs k v b).length=2*k
 | 0,_,_=>rfl
 | k+1,v,b=>by simp only[mH,List.length_cons,yH xs k];omega
theorem KX (xs:List Int): ∀ k v b,∀ l∈mH xs k v b,LOk 4 l
 | 0,v,b,l,h=>by simp[mH] at h
 | k+1,v,b,l,h=>by
  have hb:=qI xs b;simp only[mH,AK] at h;rcases h with h | h | h
  .rw[h];exact FY v (by omega)
  .rw[h];exact FZ v (by omega)
  exact KX xs k _ _ l h
theorem aik (xs:List Int) (n a:Nat) (hn8:n<=8) (hl:xs.length<=1000) (ha:a<=xs.length) (hw:W64 xs):
 Den Tryz.prog 47 [S xs a] [.ptr 0 0 0,.int .i64 n] [S xs (rJ xs (2*n) a),.row true (au (mH xs n 0 a))] (.lsl 1 0 (2*n) 27):=by
 have hc:=aI xs a
 obtain⟨fin,iK⟩:=aw (rJ xs (2*n) a)
 obtain⟨tot,DF⟩:=aw (mH xs n 0 a)
 have Cc:tot.length=2*n:=by rw[<-DF,yH]
 rw[iK,DF]
 unfold S at hc ⊢
 refine dq Tryz.func47 40 1 ?_
 refine aX ?_
 refine wl (α:=Nat×Nat×List (List Raw)) (fun⟨i,b,out⟩=>⟨[.ptr 0 0 0,.int .i64 n,.any,.any,.nilsl,.lsl 1 0 out.length 27,.int .i64 i]++replicate 35 .any,[S xs b,.row true (au out)]⟩)
  (fun⟨i,_,_⟩=>n - i) (fun⟨i,b,out⟩=>i<=n/\b<=xs.length/\out.length=2*i/\rJ xs (2*(n - i)) b=fin/\out++mH xs (n - i) i b=tot) (0,a,[]) ?_ ?_ ?_
 .refine Weak.nil 5 27 (by decide) rfl ?_
  refine eV [0,1] ?_ ?_
  .simp[bc,dX,cB]
  simp[ez,fL,c9,cB,S,au]
 .exact⟨eH _,ha,rfl,iK,by rw[List.nil_append];exact DF⟩
 rintro⟨i,b,out⟩ ⟨hi,hb,zP,zQ,cJ⟩
 obtain⟨L,hL⟩:=aw out.length
 have rlo:=aA out
 rw[hL] at rlo zP
 have gN:=cv (ls:=out) (n:=L) (by omega)
 have Hl:=aI xs b
 dsimp only
 rw[hL]
 unfold S at Hl ⊢
 refine aX ?_
 refine bR ?_ ?_
 .intro h1 h2
  obtain⟨p,hp⟩: ∃ p,n - i=p+1:=⟨n - i - 1,by omega⟩
  have N9:n - (i+1)=p:=by omega
  have e2:2*(p+1)=2*p+1+1:=by omega
  rw[hp] at zQ cJ
  rw[e2] at zQ
  simp only[rJ] at zQ
  simp only[mH] at cJ
  have VN:=A1 xs b (-1) 1 3 hl hb hw (by decide) (by decide) (by decide) (by decide) (by decide)
  have dV:=cD hb
  have eo:=cD dV
  have R8:=A1 xs (nx xs b) 1 2 2 hl dV hw (by decide) (by decide) (by decide) (by decide) (by decide)
  have ND:=qI xs b
  have fF:mG xs b= -1+(nN xs b 3:Int):=rfl
  have fE:rh xs b=mG xs b+(1+(nN xs (nx xs b) 2:Int)):=rfl
  obtain⟨b1,aki⟩:=aw (nx xs b)
  rw[aki] at VN R8 dV eo zQ cJ fE
  obtain⟨b2,akj⟩:=aw (nx xs b1)
  rw[akj] at R8 eo zQ cJ
  have c1:=aI xs b1
  have c2:=aI xs b2
  obtain⟨w,U0⟩: ∃ t:Int,1+(nN xs b1 2:Int)=t:=⟨_,rfl⟩
  rw[U0] at R8 fE
  obtain⟨lo,Nq⟩:=aw (mG xs b)
  rw[Nq] at ND fF fE cJ
  rw[<-fF] at VN
  obtain⟨oC,DD⟩: ∃ t,rh xs b=t:=⟨_,rfl⟩
  rw[DD] at ND fE cJ
  have eneg:(0:Int) - lo= -lo:=by omega
  have Vi:=Yo i (by omega)
  have VO:=mg (-lo) (by omega)
  have AJ:=mg oC (by omega)
  have NP:=Yn (cn ((-lo:Int):Rat)) (Raw.Ok.mono (bD (bd_int (by omega))) (by decide))
  have NQ:=Yn (cn ((oC:Int):Rat)) (Raw.Ok.mono (bD (bd_int (by omega))) (by decide))
  rw[cQ] at NP NQ
  have oG:=adw (gC i) ((nJ i).mono (by decide))
  have NR:=J_ (gC i) (dP ((-lo:Int):Rat)) ((nJ i).mono (by decide)) ((tG (bd_int (by omega))).mono (by decide))
  have Ju:=J_ (dC (gC i)) (dP ((oC:Int):Rat)) ((s6 (nJ i) (by decide)).mono (by decide)) ((tG (bd_int (by omega))).mono (by decide))
  change Den Tryz.prog 101 [] [_,_] [] (RL (oa i (-lo))) at NR
  change Den Tryz.prog 101 [] [_,_] [] (RL (oc i oC)) at Ju
  have oka:=FY i (z:= -lo) (by omega)
  have okb:=FZ i (z:=oC) (by omega)
  change Den Tryz.prog 32 [] _ [] (cn ((-lo:Int):Rat)).v at VO
  change Den Tryz.prog 32 [] _ [] (cn ((oC:Int):Rat)).v at AJ
  obtain⟨ra,hra⟩:=aw (cn ((-lo:Int):Rat))
  obtain⟨rb,GU⟩:=aw (cn ((oC:Int):Rat))
  rw[hra] at VO NP
  rw[GU] at AJ NQ
  have lx:=dE i
  have lna:=d' ((-lo:Int):Rat)
  have lnb:=d' ((oC:Int):Rat)
  have lng:=er lx
  obtain⟨x,hx⟩:=aw (gC i)
  rw[hx] at Vi oG NR Ju lx lng
  obtain⟨na,ZY⟩:=aw (dP ((-lo:Int):Rat))
  rw[ZY] at NP NR lna
  obtain⟨nb,ZZ⟩:=aw (dP ((oC:Int):Rat))
  rw[ZZ] at NQ Ju lnb
  obtain⟨ng,hng⟩:=aw (dC x)
  rw[hng] at oG Ju lng
  obtain⟨ya,hya⟩:=aw (oa i (-lo))
  rw[hya] at NR oka cJ
  obtain⟨yb,hyb⟩:=aw (oc i oC)
  rw[hyb] at Ju okb cJ
  have lya:=oka.len
  have lyb:=okb.len
  have gx:=ah x
  have nU:=ar lx
  have gna:=ah na
  have amk:=ar lna
  have gnb:=ah nb
  have aml:=ar lnb
  have gng:=ah ng
  have amm:=ar lng
  have gya:=ah ya
  have amn:=ar lya
  have akk:=aG lya
  have gyb:=ah yb
  have amo:=ar lyb
  have akl:=aG lyb
  have jc:=dj out ya
  have akm:=dj (out++[ya]) yb
  have AH:(au (out++[ya])).length=L+1:=by rw[aA,qe,hL];rfl
  have RP:List.take (L+1) (au (out++[ya]))=au (out++[ya]):=eE (by omega)
  have elen:L+1+1=L+2:=rfl
  unfold S at VN R8 c1 c2
  unfold Raw.v at VO AJ NP NQ
  unfold RL at Vi oG NR Ju NP NQ
  refine ae h2 ?_
  refine iD 0 VN Hl ?_
  refine I5 ?_
  refine iD 0 R8 c1 ?_
  refine I5 ?_
  repeat refine ag ?_
  refine aW Vi ?_
  refine b9 (aQ gx lx) ?_
  repeat refine ag ?_
  refine dw (by kernel_rfl) ?_
  refine ae (ej gx lx nU eneg) ?_
  repeat refine ag ?_
  have ehi:lo+w=oC:=fE.symm
  refine aW VO ?_
  refine ae @append_nil.{0} ?_
  refine aW NP ?_
  refine Li ?_
  repeat refine ag ?_
  refine lY NR ?_
  refine b9 (bT gya lya akk gN jc rlo gx (aQ lx nU)) ?_
  repeat refine ag ?_
  refine lY oG ?_
  refine b9 ehi ?_
  refine aW AJ ?_
  refine ae @append_nil.{0} ?_
  refine aW NQ ?_
  refine Li ?_
  refine lY Ju ?_
  refine b9 (fw gyb lyb akl RP akm AH elen) ?_
  repeat refine ag ?_
  refine ax (i+1,b2,out++[ya]++[yb]) ?_ ⟨by omega,eo,by simp;omega,by rw[N9];exact zQ,by rw[N9,<-cJ];simp⟩
  exact bN [0,6]
 intro h1 h2
 have Jb:n - i=0:=by omega
 rw[Jb] at cJ zQ
 have zy:out=tot:=by rw[<-cJ];simp[mH]
 have RH:b=fin:=zQ
 have RO:L=2*n:=by omega
 subst zy
 subst RH
 subst RO
 refine ae h2 ?_
 exact RetOK.lentOwn rfl ⟨cS,cS⟩ rfl (aI xs _) rfl (by decide) rfl
theorem KY {xs:List Int}: ∀ {n i a:Nat} {rs:List Raw} {k:Nat},(k<i\/i+n<=k)->co (zU xs n i a rs) k=co rs k
 | 0,_,_,_,_,_=>rfl
 | n+1,i,a,rs,k,h=>by
  unfold zU;rw[KY (n:=n) (by omega),o6 (by omega)]
theorem T9 {xs:List Int} {n a k:Nat} (h:n<=k) (h8:k<8):co (u3 xs n a).1 k=0:=by
 have h1:=KY (xs:=xs) (n:=n) (i:=0) (a:=a) (rs:=replicate 9 rz) (k:=k) (by omega);rw[W3] at h1;unfold u3;split
 .show co (List.set _ 8 _) k=0;rw[o6 (by omega),o6 (by omega),h1]
 show co (List.set _ 8 _) k=0;rw[o6 (by omega),h1]
theorem yI (xs:List Int): ∀ (k b:Nat),Two 0 1 (jP xs 2 k b)
 | 0,b=>by intro l h;simp[jP] at h
 | k+1,b=>by
  intro l h i hi h0 h1;simp only[jP,AK] at h;rcases h with h | h
  .rw[h];exact T9 (by omega) hi
  exact yI xs k _ l h i hi h0 h1
theorem ph {a b:List Raw} {i:Nat} (ha:a.length=9) (hb:b.length=9) (hi:i<9):co ((m6 a b).map cn) i=co a i+co b i:=by
 unfold co;rw[pX (by omega) (by omega),cQ]
theorem mI {v i:Nat} {z:Int} (hv:v<8) (hi:i<8) (h:i≠v):co (oa v z) i=0/\co (oc v z) i=0:=by
 unfold oa oc;rw[ph (dE v) (d' _) (by omega),ph (er (dE v)) (d' _) (by omega),jg (dE v) (by omega),CM (by omega) (by omega),r6 (by omega),if_neg h,if_neg (by omega)];constructor<;>grind
theorem T_ (xs:List Int) (b:Nat):Two 0 1 (mH xs 2 0 b):=by
 intro l h i hi h0 h1;simp only[mH,AK,not_mem_nil,or_false] at h;rcases h with h | h | h | h<;>rw[h]
 .exact(mI (by decide) hi h0).1
 .exact(mI (by decide) hi h0).2
 .exact(mI (by decide) hi h1).1
 exact(mI (by decide) hi h1).2
theorem T' {a b:List (List Raw)} (ha:Two 0 1 a) (hb:Two 0 1 b):Two 0 1 (a++b):=fun l hl=>by
 rcases List.mem_append.1 hl with h | h
 .exact ha l h
 exact hb l h
theorem Ua {ls:List (List Raw)} (h: ∀ l∈ls,l.length=9): ∀ y∈au ls,y.length=27:=by
 intro y hy;unfold au at hy;obtain⟨l,hl,rfl⟩:=mem_map.1 hy;rw[aP,h l hl]
def RgS (xs:List Int) (H1:List Ob) (res:PV):Prop:= ∃ (L:List RR) (a':Nat),H1=[S xs a',.row true (a8 L)]/\res=PV.lsl 1 0 L.length 2/\a'<=xs.length/\L.length<=2/\ ∀ r∈L,RdR r
theorem Ub {L:List RR} {r:RR} (h: ∀ r∈L,RdR r) (hr:RdR r): ∀ x∈L++[r],RdR x:=fun x hx=>by
 rcases List.mem_append.1 hx with h1 | h1
 .exact h x h1
 rw[qz] at h1;rw[h1];exact hr
theorem am0 (xs:List Int) (a:Nat) (hl:xs.length<=1000) (ha:a<=xs.length) (hw:W64 xs): ∃ H1 res,RgS xs H1 res/\Den Tryz.prog 89 [S xs a] [.ptr 0 0 0,.int .i64 2,.int .i64 2] H1 res:=by
 have hN:=sU xs a 3 hl ha hw (by omega) (by omega);have aH:=eR (xs:=xs) (a:=a) (n:=3) (by omega);have hc:=aI xs a;have XA:=cD ha;generalize nN xs a 3=n at*;obtain⟨a0,hA⟩:=aw (nx xs a);rw[hA] at hN XA;have e3:((2:Int)+1)=((3:Nat):Int):=rfl;unfold RgS;unfold S at hN hc;unfold S;refine Wl Tryz.func89 25 1 ?_;refine b8 e3 ?_;refine iD 0 hN hc ?_;refine sjq ?_;refine wl (α:=Nat×Nat×List RR) (fun⟨i,b,L⟩=>⟨[.ptr 0 0 0,.int .i64 2,.int .i64 2,.any,.any,.any,.any,.lsl 1 0 L.length 2,.int .i64 i]++replicate 19 .any,[.box true [.fv (.sl (ints xs)),.int .i64 b,.int .i64 0],.row true (a8 L)]⟩)
  (fun⟨i,_,_⟩=>i) (fun⟨i,b,L⟩=>i+L.length<=2/\b<=xs.length/\ ∀ r∈L,RdR r) (n,a0,[]) ?_ ⟨by simp;omega,XA,fun t ht=>by simp at ht⟩ ?_
 .refine Weak.nil 7 2 (by decide) rfl ?_;refine eV [0,1] ?_ ?_
  .simp[bc,dX,cB,c9]
  simp[ez,fL,c9,cB,dp,pV,rH,fS];rfl
 rintro⟨i,b,L⟩ ⟨hi,hb,hL⟩;refine aX ?_;refine bR ?_ ?_
 .intro h1 h2;have NL:=adM xs 2 2 b (by decide) (by decide) hl hb hw;have dV:=yG (xs:=xs) (n:=2) (k:=nN xs b 3) (cD hb);have hk3:=eR (xs:=xs) (a:=b) (n:=3) (by decide);have fG:=u5 xs 2 (nN xs b 3) (nx xs b);have vZ:=yF xs 2 (nN xs b 3) (nx xs b);have qO:=yI xs (nN xs b 3) (nx xs b);simp only[reduceAdd] at NL;obtain⟨b1,eb1⟩:=aw (vF xs 2 (nN xs b 3) (nx xs b));obtain⟨cc,ecc⟩:=aw (jP xs 2 (nN xs b 3) (nx xs b));rw[eb1] at NL dV;rw[ecc] at NL fG vZ qO;obtain⟨H1,res,⟨ts,b2,rfl,rfl,eo,Cc,ef,hz⟩,h42⟩:=W7 xs b1 2 2 hl dV hw (by decide) (by decide);have cb:=aI xs b;have cb1:=aI xs b1;have hr:RdR (cc,ts):=⟨vZ,qO,by show cc.length<=5;omega,ef,hz,Cc⟩;have cJ:=i6 L (cc,ts);unfold CQ at cJ;have rlt:=av ts;obtain⟨m,hm⟩:=aw ts.length;rw[hm] at rlt h42;have tk:=bL (ts:=ts) (n:=m) (by omega)
  have rlL:=bH L;obtain⟨K,hK⟩:=aw L.length;rw[hK] at rlL hi;have tkL:=dQ (l:=L) (n:=K) (by omega);dsimp only;rw[hK];have dR:lent 0 2 1=2:=rfl;have NS:lent 0 3 1=3:=rfl;have NT:lent 0 4 1=4:=rfl;have e9:((i:Int) - 1)=((i - 1:Nat):Int):=by omega
  unfold S at NL h42 cb cb1;refine Ak h2 ?_;refine iD 0 NL cb ?_;refine Ak (bZ dR NS NT) ?_;refine iD 0 h42 cb1 ?_;refine Ak (bT dR NS NT tk rlt tkL rlL (bZ cJ e9 @qp)) ?_
  repeat refine ag ?_
  refine ax (i - 1,b2,L++[(cc,ts)]) ?_ ⟨by rw[qe,hK];show i - 1+(K+1)<=2;omega,eo,Ub hL hr⟩;exact vf [0,4]
 intro h1 h2;have sC:i=0:=by omega
 subst sC;refine ae h2 ?_;exact⟨[.box true [.fv (.sl (ints xs)),.int .i64 b,.int .i64 0],.row true (a8 L)],.lsl 1 0 L.length 2,⟨L,b,rfl,rfl,hb,by omega,hL⟩,RetOK.lentOwn (cd:=True/\True) rfl ⟨cS,cS⟩ rfl (aI xs b) rfl (by decide) rfl⟩
def YI (r:RR):Prop:=RdR r/\wa 0 r.1/\wa 1 r.1
theorem QJ {v:Nat} {z:Int} (hv:v<8) (x:Nat->Rat):aF (oa v z) x=x v+z/\aF (oc v z) x= -x v+z:=by
 have a0:co (dP (z:Rat)) 8=z:=by rw[r6 (by omega),if_pos rfl]
 have a1:co (gC v) 8=0:=by rw[CM (by omega) (by omega),if_neg (by omega)]
 have a2:co (gC v) v=1:=by rw[CM (by omega) (by omega),if_pos rfl]
 have a3:co (dP (z:Rat)) v=0:=by rw[r6 (by omega),if_neg (by omega)]
 constructor
 .rw[nI hv (fun i hi cM=>(mI hv hi cM).1)];unfold oa;rw[ph (dE v) (d' _) (by omega),ph (dE v) (d' _) (by omega),a0,a1,a2,a3];grind
 rw[nI hv (fun i hi cM=>(mI hv hi cM).2)];unfold oc;rw[ph (er (dE v)) (d' _) (by omega),ph (er (dE v)) (d' _) (by omega),jg (dE v) (by omega),jg (dE v) (by omega),a0,a1,a2,a3];grind
theorem wS {v:Nat} {z:Int} {x:Nat->Rat} (hv:v<8):(0<aF (oa v z) x\/(aO (oa v z)/\aF (oa v z) x=0)->0<x v+z)/\(0<aF (oc v z) x\/(aO (oc v z)/\aF (oc v z) x=0)->0< -x v+z):=by
 obtain⟨h1,h2⟩:=QJ (z:=z) hv x;have a2:co (gC v) v=1:=by rw[CM (by omega) (by omega),if_pos rfl]
 have a3:co (dP (z:Rat)) v=0:=by rw[r6 (by omega),if_neg (by omega)]
 constructor
 .rintro(h | h)
  .rw[h1] at h;exact h
  have:=h.1 v hv;unfold oa at this;rw[ph (dE v) (d' _) (by omega),a2,a3] at this;grind
 rintro(h | h)
 .rw[h2] at h;exact h
 have:=h.1 v hv;unfold oc at this;rw[ph (er (dE v)) (d' _) (by omega),jg (dE v) (by omega),a2,a3] at this;grind
theorem C7 {a b:Int} (h:a<=b):(a:Rat)<=(b:Rat):=Rat.intCast_le_intCast.2 h
theorem Uc (xs:List Int) (b:Nat) (cc:Kc):wa 0 (mH xs 2 0 b++cc)/\wa 1 (mH xs 2 0 b++cc):=by
 have s0:=qI xs b;have s1:=qI xs (nx xs (nx xs b));have e3:((3:Int):Rat)=3:=rfl;have e1:((1:Int):Rat)=1:=rfl;constructor
 .refine⟨3,fun x hx=>?_⟩;have h1:=(wS (z:= -mG xs b) (x:=x) (v:=0) (by decide)).1 (hx _ (by simp[mH]));have h2:=(wS (z:=rh xs b) (x:=x) (v:=0) (by decide)).2 (hx _ (by simp[mH]));have i1:=C7 (show -mG xs b<=1 by omega);have i2:=C7 (show rh xs b<=3 by omega);rw[e1] at i1;rw[e3] at i2;constructor<;>grind
 refine⟨3,fun x hx=>?_⟩;have h1:=(wS (z:= -mG xs (nx xs (nx xs b))) (x:=x) (v:=1) (by decide)).1 (hx _ (by simp[mH]));have h2:=(wS (z:=rh xs (nx xs (nx xs b))) (x:=x) (v:=1) (by decide)).2 (hx _ (by simp[mH]));have i1:=C7 (show -mG xs (nx xs (nx xs b))<=1 by omega);have i2:=C7 (show rh xs (nx xs (nx xs b))<=3 by omega);rw[e1] at i1;rw[e3] at i2;constructor<;>grind
def RgT (xs:List Int) (H1:List Ob) (res:PV):Prop:= ∃ (L:List RR) (a':Nat),H1=[S xs a',.row true (a8 L)]/\res=PV.lsl 1 0 L.length 2/\a'<=xs.length/\L.length<=2/\ ∀ r∈L,YI r
theorem Ud {L:List RR} {r:RR} (h: ∀ r∈L,YI r) (hr:YI r): ∀ x∈L++[r],YI x:=fun x hx=>by
 rcases List.mem_append.1 hx with h1 | h1
 .exact h x h1
 rw[qz] at h1;rw[h1];exact hr
theorem adN (xs:List Int) (a:Nat) (hl:xs.length<=1000) (ha:a<=xs.length) (hw:W64 xs): ∃ H1 res,RgT xs H1 res/\Den Tryz.prog 46 [S xs a] [.ptr 0 0 0,.int .i64 2,.int .i64 2] H1 res:=by
 have hN:=sU xs a 3 hl ha hw (by omega) (by omega);have aH:=eR (xs:=xs) (a:=a) (n:=3) (by omega);have hc:=aI xs a;have XA:=cD ha;generalize nN xs a 3=n at*;obtain⟨a0,hA⟩:=aw (nx xs a);rw[hA] at hN XA;have e3:((2:Int)+1)=((3:Nat):Int):=rfl;unfold RgT;unfold S at hN hc;unfold S;refine Wl Tryz.func46 29 1 ?_;refine b8 e3 ?_;refine iD 0 hN hc ?_;refine sjq ?_;refine wl (α:=Nat×Nat×List RR) (fun⟨i,b,L⟩=>⟨[.ptr 0 0 0,.int .i64 2,.int .i64 2,.any,.any,.any,.any,.lsl 1 0 L.length 2,.int .i64 i]++replicate 23 .any,[.box true [.fv (.sl (ints xs)),.int .i64 b,.int .i64 0],.row true (a8 L)]⟩)
  (fun⟨i,_,_⟩=>i) (fun⟨i,b,L⟩=>i+L.length<=2/\b<=xs.length/\ ∀ r∈L,YI r) (n,a0,[]) ?_ ⟨by simp;omega,XA,fun t ht=>by simp at ht⟩ ?_
 .refine Weak.nil 7 2 (by decide) rfl ?_;refine eV [0,1] ?_ ?_
  .simp[bc,dX,cB,c9]
  simp[ez,fL,c9,cB,dp,pV,rH,fS];rfl
 rintro⟨i,b,L⟩ ⟨hi,hb,hL⟩;refine aX ?_;refine bR ?_ ?_
 .intro h1 h2;have h17:=aik xs 2 b (by decide) hl hb hw;simp only[reduceMul] at h17;have Hg:rJ xs 4 b<=xs.length:=rL hb;have hbl:=yH xs 2 0 b;have hbo:=KX xs 2 0 b;have afR:=T_ xs b;obtain⟨b0,eb0⟩:=aw (rJ xs 4 b);obtain⟨bb,ebb⟩:=aw (mH xs 2 0 b);rw[eb0] at Hg;rw[eb0,ebb] at h17;have hbx:=Uc xs b;rw[ebb] at hbx;rw[ebb] at hbl hbo afR;have NL:=adM xs 2 1 b0 (by decide) (by decide) hl Hg hw;have dV:=yG (xs:=xs) (n:=2) (k:=nN xs b0 2) (cD Hg);have hk3:=eR (xs:=xs) (a:=b0) (n:=2) (by decide);have fG:=u5 xs 2 (nN xs b0 2) (nx xs b0);have vZ:=yF xs 2 (nN xs b0 2) (nx xs b0);have qO:=yI xs (nN xs b0 2) (nx xs b0);simp only[reduceAdd] at NL;obtain⟨b1,eb1⟩:=aw (vF xs 2 (nN xs b0 2) (nx xs b0));obtain⟨cc,ecc⟩:=aw (jP xs 2 (nN xs b0 2) (nx xs b0));rw[eb1] at NL dV;rw[ecc] at NL fG vZ qO
  obtain⟨H1,res,⟨ts,b2,rfl,rfl,eo,Cc,ef,hz⟩,h42⟩:=W7 xs b1 2 2 hl dV hw (by decide) (by decide);have cb:=aI xs b;have cb0:=aI xs b0;have cb1:=aI xs b1;have hr:RdR (bb++cc,ts):=⟨fun l hl=>by
   rcases List.mem_append.1 hl with h | h
   .exact hbo l h
   exact vZ l h,T' afR qO,by show(bb++cc).length<=5;rw[qe];omega,ef,hz,Cc⟩
  have hbd:=hbx cc;have cJ:=i6 L (bb++cc,ts);unfold CQ at cJ;have rlt:=av ts;obtain⟨m,hm⟩:=aw ts.length;rw[hm] at rlt h42;have tk:=bL (ts:=ts) (n:=m) (by omega);have rlL:=bH L;obtain⟨K,hK⟩:=aw L.length;rw[hK] at rlL hi;have tkL:=dQ (l:=L) (n:=K) (by omega);have rlb:=aA bb;have rlc:=aA cc;have tkb:=cv (ls:=bb) (n:=4) (by omega);have ako:(∀ y,y∈au cc->y.length=27)=True:=eq_true (Ua (ls:=cc) (fun l hl=>(vZ l hl).len));have akp:au bb++au cc=au (bb++cc):=by simp[au]
  have rlbc:=aA (bb++cc);rw[qe] at rlbc;obtain⟨q,hq⟩:=aw cc.length;rw[hq] at rlc rlbc;rw[hbl] at rlb rlbc;have tkc:=cv (ls:=bb++cc) (n:=4+q) (by rw[qe];omega);dsimp only;rw[hK];have dR:lent 0 2 1=2:=rfl;have NS:lent 0 3 1=3:=rfl;have NT:lent 0 4 1=4:=rfl;have e9:((i:Int) - 1)=((i - 1:Nat):Int):=by omega
  unfold S at h17 NL h42 cb cb0 cb1;refine Ak h2 ?_;refine iD 0 h17 cb ?_;refine Ak (bZ dR NS NT) ?_;refine iD 0 NL cb0 ?_;refine Ak (bT dR NS NT ako tkb akp rlb (bZ rlc @map_cons.{0,0} @map_nil.{0,0})) ?_
  repeat refine ag ?_
  refine iD 0 h42 cb1 ?_;refine Ak (bT dR NS NT tk rlt tkc rlbc (gS tkL rlL cJ e9 @qp)) ?_
  repeat refine ag ?_
  refine ax (i - 1,b2,L++[(bb++cc,ts)]) ?_ ⟨by rw[qe,hK];show i - 1+(K+1)<=2;omega,eo,Ud hL ⟨hr,hbd⟩⟩;exact vf [0,6]
 intro h1 h2;have sC:i=0:=by omega
 subst sC;refine ae h2 ?_;exact⟨[.box true [.fv (.sl (ints xs)),.int .i64 b,.int .i64 0],.row true (a8 L)],.lsl 1 0 L.length 2,⟨L,b,rfl,rfl,hb,by omega,hL⟩,RetOK.lentOwn (cd:=True/\True) rfl ⟨cS,cS⟩ rfl (aI xs b) rfl (by decide) rfl⟩
def fm (a b c:Rat):List Raw:=[cn a,cn b,cn 0,cn 0,cn 0,cn 0,cn 0,cn 0,cn c]
theorem KZ (a b c:Rat) (x:Nat->Rat):aF (fm a b c) x=c+a*x 0+b*x 1:=by
 have e: ∀ q:Rat,(cn q).q=q:=cQ;have c8:co (fm a b c) 8=c:=e c;have c0:co (fm a b c) 0=a:=e a;have c1:co (fm a b c) 1=b:=e b;have c2:co (fm a b c) 2=0:=e 0;have c3:co (fm a b c) 3=0:=e 0;have c4:co (fm a b c) 4=0:=e 0;have c5:co (fm a b c) 5=0:=e 0;have c6:co (fm a b c) 6=0:=e 0;have c7:co (fm a b c) 7=0:=e 0;rw[nC,c8,c0,c1,c2,c3,c4,c5,c6,c7];grind
def pt (x y:Rat):Nat->Rat:=fun i=>if i=0 then x else y
theorem pt0 (x y:Rat):pt x y 0=x:=rfl
theorem pt1 (x y:Rat):pt x y 1=y:=rfl
theorem K0 {a b c a1 b1 c1 a2 b2 c2 x y:Rat} (h0:0<c+a*x+b*y) (h1:0<c1+a1*x+b1*y) (h2:0<c2+a2*x+b2*y):eh [fm a b c,fm a1 b1 c1,fm a2 b2 c2]=true:=by
 refine en.2 ⟨pt x y,fun l hl=>?_⟩;simp only[AK,not_mem_nil,or_false] at hl;rcases hl with rfl | rfl | rfl<;>rw[KZ,pt0,pt1]<;>assumption
theorem QK {a b c a1 b1 c1 x y:Rat} (h0:0<c+a*x+b*y) (h1:0<c1+a1*x+b1*y):eh [fm a b c,fm a1 b1 c1]=true:=by
 refine en.2 ⟨pt x y,fun l hl=>?_⟩;simp only[AK,not_mem_nil,or_false] at hl;rcases hl with rfl | rfl<;>rw[KZ,pt0,pt1]<;>assumption
abbrev pj:List (List Raw):=[fm (-1) (-1) 1,fm 0 1 0,fm 1 0 0]
abbrev z_:List (List Raw):=[fm 0 (-1) 1,fm 0 1 0]
theorem yJ {s t:List (List Raw)} {i:Nat} (h:sysL (lO s i++[dC (s.getD i [])]) []=t) (hf:eh t=true):o0 s i=true:=by
 unfold o0;rw[h];exact hf
theorem Iq:jw 3 0 pj=pj:=by
 have r0:o0 pj 0=true:=yJ (t:=[fm 0 1 0,fm 1 0 0,fm 1 1 (-1)]) (by decide+kernel) (K0 (x:=1) (y:=1) (by decide+kernel) (by decide+kernel) (by decide+kernel));have r1:o0 pj 1=true:=yJ (t:=[fm (-1) (-1) 1,fm 0 (-1) 0,fm 1 0 0]) (by decide+kernel) (K0 (x:=1) (y:= -1) (by decide+kernel) (by decide+kernel) (by decide+kernel));have r2:o0 pj 2=true:=yJ (t:=[fm (-1) (-1) 1,fm (-1) 0 0,fm 0 1 0]) (by decide+kernel) (K0 (x:= -1) (y:=1) (by decide+kernel) (by decide+kernel) (by decide+kernel));unfold jw;rw[if_pos (by decide),if_pos r0];unfold jw;rw[if_pos (by decide),if_pos r1];unfold jw;rw[if_pos (by decide),if_pos r2];unfold jw;rfl
theorem Ir:jw 2 0 z_=z_:=by
 have r0:o0 z_ 0=true:=yJ (t:=[fm 0 1 (-1),fm 0 1 0]) (by decide+kernel) (QK (x:=0) (y:=2) (by decide+kernel) (by decide+kernel));have r1:o0 z_ 1=true:=yJ (t:=[fm 0 (-1) 0,fm 0 (-1) 1]) (by decide+kernel) (QK (x:=0) (y:= -1) (by decide+kernel) (by decide+kernel));unfold jw;rw[if_pos (by decide),if_pos r0];unfold jw;rw[if_pos (by decide),if_pos r1];unfold jw;rfl
theorem u6 {cs s t:List (List Raw)} (hv:fN cs=false) (hs:sysL cs []=s) (hf:eh s=true) (ht:jw s.length 0 s=t):aZ cs=true/\aV cs=t:=by
 have h1:aZ cs=true:=by unfold aZ;rw[hv,hs,hf];rfl
 refine⟨h1,?_⟩;unfold aV;rw[if_pos h1,hs,ht]
abbrev z':List (List Raw):=[gC 0,gC 1,(m6 (dP 1) (dC ((m6 (gC 0) (gC 1)).map cn))).map cn]
theorem C8:z'=[fm 1 0 0,fm 0 1 0,fm (-1) (-1) 1]:=by decide+kernel
theorem MM:aZ z'=true/\aV z'=pj:=u6 (s:=pj) (by rw[C8];decide+kernel) (by rw[C8];decide+kernel) (K0 (x:=1 / 4) (y:=1 / 4) (by decide+kernel) (by decide+kernel) (by decide+kernel)) Iq
theorem C9 {cs t:List (List Raw)} {p:List Tm} (h:aZ cs=true/\aV cs=t) (hp:p≠[]):nrmL [(cs,p)]=[(t,p)]:=by
 unfold nrmL;rw[List.filter_cons_of_pos (by simp[h.1]),List.filter_nil,map_cons,map_nil,h.2];show j6 [] (t,p)=_;unfold j6;rw[if_neg hp]
theorem Ue:yn iO [(pj,[(z8,1)])] [0,1]=(0,[(z8,1 / 2)]):=by
 have p1:([(z8.set 1 1,-1),(z8,1)]:List Tm)≠[]:=by simp
 have p2:([(z8,1 / 2)]:List Tm)≠[]:=by simp
 have s1:elimO [(pj,[(z8,1)])] 0=[([fm 0 1 0,fm 0 (-1) 1],[(z8.set 1 1,-1),(z8,1)])]:=by decide+kernel
 have s2:elimO [(z_,[(z8.set 1 1,-1),(z8,1)])] 1=[([fm 0 0 1],[(z8,1 / 2)])]:=by decide+kernel
 have m1:([(pj,[(z8,1)])]:List RC).any (missB 0)=false:=by decide+kernel
 have m2:([(z_,[(z8.set 1 1,-1),(z8,1)])]:List RC).any (missB 1)=false:=by decide+kernel
 have c1:aZ [fm 0 1 0,fm 0 (-1) 1]=true/\aV [fm 0 1 0,fm 0 (-1) 1]=z_:=u6 (s:=z_) (by decide+kernel) (by decide+kernel) (QK (x:=0) (y:=1 / 2) (by decide+kernel) (by decide+kernel)) Ir;have c2:aZ [fm 0 0 1]=true/\aV [fm 0 0 1]=[]:=u6 (s:=[]) (by decide+kernel) (by decide+kernel) (en.2 EN) rfl;have e1:iO [(pj,[(z8,1)])] 0=(0,[(z_,[(z8.set 1 1,-1),(z8,1)])]):=by
  unfold iO;rw[if_neg (by decide),show(0:Int).toNat=0 from rfl,if_neg (by rw[m1];decide),s1,C9 c1 p1]
 have e2:iO [(z_,[(z8.set 1 1,-1),(z8,1)])] 1=(0,[([],[(z8,1 / 2)])]):=by
  unfold iO;rw[if_neg (by decide),show(1:Int).toNat=1 from rfl,if_neg (by rw[m2];decide),s2,C9 c2 p2]
 have t1:yk iO [(pj,[(z8,1)])] [0,1]=(0,[([],[(z8,1 / 2)])]):=by
  rw[o9,e1,if_pos rfl,o9,e2,if_pos rfl,CT]
 unfold yn;rw[t1,if_pos rfl];unfold P9;rw[if_neg (by decide)];have:polyS' [(([]:List (List Raw)),([(z8,1 / 2)]:List Tm))]=[(z8,1 / 2)]:=by decide+kernel
 rw[this]
abbrev So:List Raw:=(m6 (gC 0) (gC 1)).map cn
abbrev fr3:List Raw:=(m6 (dP 1) (dC So)).map cn
theorem YJ:So=fm 1 1 0:=by decide+kernel
theorem YK:fr3=fm (-1) (-1) 1:=by decide+kernel
theorem QL {a b c:Rat} (ha:Bd 1 a) (hb:Bd 1 b) (hc:Bd 1 c):LOk 1 (fm a b c):=by
 have h0:Bd 1 (0:Rat):=⟨by decide,by decide⟩;refine⟨rfl,fun r hr=>?_⟩;unfold fm at hr;simp only[AK,not_mem_nil,or_false] at hr;rcases hr with rfl | rfl | rfl | rfl | rfl | rfl | rfl | rfl | rfl<;>refine bD ?_<;>assumption
theorem lS:Bd 1 (1:Rat):=⟨by decide,by decide⟩
theorem tH:Bd 1 (0:Rat):=⟨by decide,by decide⟩
theorem wT:Bd 1 (-1:Rat):=⟨by decide,by decide⟩
theorem YL {l:List Raw} (h:l.length=9): ∃ a b c d e f g h i,l=[a,b,c,d,e,f,g,h,i]:=by
 match l,h with
 | [a,b,c,d,e,f,g,h,i],_=>exact⟨a,b,c,d,e,f,g,h,i,rfl⟩
theorem ail (P:List RT):Den Tryz.prog 78 [] [PL P] [] (RL' [(z',P)]):=by
 have h0:=Yo 0 (by decide);have h1:=Yo 1 (by decide);have tT:=mg 1 (by omega);have Jv:=Yn (cn ((1:Int):Rat)) ((bD (Bd.mono lS (by decide))));rw[cQ] at Jv;have hx:LOk 1 (gC 0):=nJ 0;have hy:LOk 1 (gC 1):=nJ 1;have hn:LOk 1 (dP 1):=tG lS;have hs:LOk 1 So:=by rw[YJ];exact QL lS lS tH
 have a1:=J_ (gC 0) (gC 1) (hx.mono (by decide)) (hy.mono (by decide));have a2:=adw So (hs.mono (by decide));have hm:LOk 2 (dC So):=s6 hs (by decide);have a3:=J_ (dP 1) (dC So) (hn.mono (by decide)) (hm.mono (by decide));change Den Tryz.prog 101 [] [RL (gC 0),RL (gC 1)] [] (RL So) at a1;change Den Tryz.prog 101 [] [RL (dP 1),RL (dC So)] [] (RL fr3) at a3;change Den Tryz.prog 32 [] _ [] (.agg (cn ((1:Int):Rat)).c) at tT;change Den Tryz.prog 102 [] [.agg (cn ((1:Int):Rat)).c] [] (RL (dP 1)) at Jv;have hf:LOk 1 fr3:=by rw[YK];exact QL wT wT lS
 have hR:RL' [(z',P)]= .fv (.sl [[.sl (au [gC 0,gC 1,fr3]),.sl (aq P)]]):=rfl;rw[hR];have lx:=hx.len;have ly:=hy.len;have ls:=hs.len;have ln:=hn.len;have lm:=hm.len;have lf:=hf.len;obtain⟨X,hX⟩:=aw (gC 0);obtain⟨Y,hY⟩:=aw (gC 1);obtain⟨Z,hZ⟩:=aw fr3;obtain⟨S,hS⟩:=aw So;obtain⟨M,hM⟩:=aw (dC So);obtain⟨N,hN⟩:=aw (dP 1);obtain⟨c,hc⟩:=aw (cn ((1:Int):Rat));rw[hZ] at a3 lf ⊢;rw[hM] at a2 a3 lm;rw[hS] at a1 a2 ls;rw[hX] at h0 a1 lx ⊢;rw[hY] at h1 a1 ly ⊢;rw[hN] at Jv a3 ln;rw[hc] at tT Jv;have gx:=ah X;have gy:=ah Y;have gz:=ah Z;have gs:=ah S;have gm:=ah M;have gn:=ah N;have rA:=ar lx;have ug:=ar ly;have z27:=ar lf;have X27:=aG lx;have Y27:=aG ly;have Z27:=aG lf;have fx:=aP X;have fy:=aP Y;have fz:=aP Z
 have DG:au [X,Y,Z]=[cK X,cK Y,cK Z]:=rfl;unfold RL at h0 h1 a1 a2 a3 Jv;refine dq Tryz.func78 21 0 ?_;refine aX ?_;refine aW h0 ?_;refine Li ?_
 repeat refine ag ?_
 refine aW h1 ?_;refine b9 (ej gx lx gy ly) ?_
 repeat refine ag ?_
 refine dw (by kernel_rfl) ?_;refine a9 ?_;refine aW tT ?_;refine ae (aQ @dM @append_nil.{0}) ?_;refine zm Jv ?_;refine b9 (fw @gq gx lx rA gy ly ug) ?_
 repeat refine ag ?_
 refine lY a1 ?_;refine Li ?_;refine lY a2 ?_;refine Li ?_;refine lY a3 ?_;refine b9 (bZ gz lf z27) ?_
 repeat refine ag ?_
 clear h0 h1 tT Jv a1 a2 a3 hX hY hZ hS hM hN hc hx hy hn hs hm hf hR gx gy gz gs gm gn rA ug z27 X27 Y27 Z27 fx fy fz DG ls lm ln;obtain⟨x0,x1,x2,x3,x4,x5,x6,x7,x8,rfl⟩:=YL lx;obtain⟨y0,y1,y2,y3,y4,y5,y6,y7,y8,rfl⟩:=YL ly;obtain⟨z0,z1,z2,z3,z4,z5,z6,z7,z8,rfl⟩:=YL lf;simp -dsimp(disch:=omega) only[flat,au,cK,map_cons,map_nil,↓reduceIte,reduceAdd,reduceMul,Nat.reduceLT,Nat.reduceLeDiff,ru];exact Sp (vs:=[.lsl 4 0 1 2]) rfl ⟨cS,cS⟩ rfl
theorem YM:IT [(pj,mE)]/\Den Tryz.prog 90 [] [RL' [(z',mE.map tn)]] [] (.tup [RL' ([(pj,mE)].map rn),.int .i64 0]):=by
 have hs:iM 0 1 2 2 6 23 5 2:=⟨by decide,by decide,by decide,by decide,by decide,by decide,by decide,by decide⟩;have hq: ∀ r∈[((z',mE):RC)],RgQ 0 1 2 2 6 23 5 r:=fun r hr=>by
  rw[qz] at hr;subst hr;have h9: ∀ l∈z',∃ a b c,l=fm a b c/\Bd 1 a/\Bd 1 b/\Bd 1 c:=fun l hl=>by
   rw[C8] at hl;simp only[AK,not_mem_nil,or_false] at hl;rcases hl with rfl | rfl | rfl
   .exact⟨_,_,_,rfl,lS,tH,tH⟩
   .exact⟨_,_,_,rfl,tH,lS,tH⟩
   exact⟨_,_,_,rfl,wT,wT,lS⟩
  have ue:Canon mE:=Qh ▸ cV (by intro t ht;rw[qz] at ht;rw[ht];exact bX);refine⟨fun l hl=>?_,fun l hl i hi h0 h1=>?_,by decide,gD (lN _) (by decide),ue,fun t ht=>?_,?_,.inl (by decide)⟩
  .obtain⟨a,b,c,rfl,ha,hb,hc⟩:=h9 l hl;exact(QL ha hb hc).mono (by decide)
  .obtain⟨a,b,c,rfl,ha,hb,hc⟩:=h9 l hl;have:i=2\/i=3\/i=4\/i=5\/i=6\/i=7:=by omega
   rcases this with rfl | rfl | rfl | rfl | rfl | rfl<;>exact cQ 0
  .unfold mE at ht;rw[qz] at ht;subst ht;exact⟨bX,fun i _ _ _=>qB,by show 0<=z8.getD 0 0/\z8.getD 0 0<=2;rw[qB];omega,by show 0<=z8.getD 1 0/\z8.getD 1 0<=2;rw[qB];omega⟩
  exact(PB.one (t:=(z8,1)) (Bd.mono lS (show 1<=23 by decide)))
 have h1:=kG hs hq (by decide);have h2:=CX hs hq (fun r _=> .inl (by decide)) (by decide);have he:nrmL [(z',mE)]=[(pj,mE)]:=C9 MM (by simp[mE]);rw[he] at h1 h2;exact⟨.inl ⟨h2.1,h2.2.1,h2.2.2⟩,h1⟩
theorem aim:Den Tryz.prog 29 [] [] [] (.bool true):=by
 have Hk:=aie;have B':=ail (mE.map tn);obtain⟨h1,h2⟩:=YM;have vU:=CY h1 h2 [0,1] (fun x hx=>by
  simp only[AK,not_mem_nil,or_false] at hx;rcases hx with rfl | rfl<;>decide) (by decide)
 rw[show([(pj,mE)]:List RC)=[(pj,[(z8,1)])] from rfl,Ue] at vU;unfold ym at vU;rw[if_pos rfl] at vU;have hl:LOkT 1000000 1000000 [(z8,(1:Rat) / 2)]:=⟨fun t ht=>by rw[qz] at ht;rw[ht];exact bX,fun t ht=>by
  rw[qz] at ht;rw[ht];exact Bd.mono (j:=1) ⟨by decide+kernel,by decide+kernel⟩ (by decide),fun t ht e he=>by
  rw[qz] at ht;rw[ht] at he;have:=eq_of_mem_replicate he;omega⟩
 have G1:=aid [(z8,(1:Rat) / 2)] (cn ((2:Int):Rat)) hl (bD (Bd.mono (j:=1) ⟨by decide,by decide⟩ (by decide))) (by decide);rw[cQ] at G1;have ho:pa [(z8,(1:Rat) / 2)] (z8,((2:Int):Rat))=mE:=by decide+kernel
 rw[ho] at G1;have tT:=mg 2 (by omega);change Den Tryz.prog 32 [] _ [] (.agg (cn ((2:Int):Rat)).c) at tT;have h19:=ac0 (mE.map tn) (fun t ht=>by
  obtain⟨u,hu,rfl⟩:=mem_map.1 ht;unfold mE at hu;rw[qz] at hu;subst hu;exact⟨bX,fun x hx=>by have:=eq_of_mem_replicate hx;omega,bD (Bd.mono lS (by decide))⟩) (by decide)
 have hi:ints [0,1]=[[FV.lit (.int .i64 0)],[FV.lit (.int .i64 1)]]:=rfl;rw[hi] at vU;obtain⟨T,hT⟩:=aw ([(z',mE.map tn)]);rw[hT] at B' vU;obtain⟨Q,hQ⟩:=aw (([(z8,(1:Rat) / 2)]:List Tm).map tn);dsimp only at vU;rw[hQ] at vU G1;obtain⟨O,hO⟩:=aw (mE.map tn);rw[hO] at Hk B' G1 h19;obtain⟨c,hc⟩:=aw (cn ((2:Int):Rat));rw[hc] at tT G1;have e1:((0:Int)==0)=true:=rfl;refine dq Tryz.func29 19 0 ?_;refine aX ?_;refine aW Hk ?_;refine a9 ?_;refine aW B' ?_;refine a9 ?_;refine gp vU (by simp[cC,iw,gj,fP]) ?_;refine ae e1 ?_;refine aW tT ?_;refine ae (aQ @dM @append_nil.{0}) ?_;refine zm G1 ?_;refine a9 ?_;refine aW Hk ?_;refine a9 ?_;refine aW h19 ?_;refine a9 ?_;exact bg rfl
theorem F1 {v w:Nat} (x:Nat->Rat) (M:List RC):bt (fun s:RC=>T2 w x s.1 s.2) (elimO M v)=bt (fun r:RC=>bt (fun s:RC=>T2 w x s.1 s.2) (eU r.1 r.2 v)) M:=by
 unfold elimO;rw[qE]
theorem QM {v w:Nat} {M:List RC} {P Q:List Tm} (hv:v<8) (hw:w<8) (jE:v≠w) (hb:Bd2 v w M) (h1:Yz v w M P) (h2:Yz w v M Q):P=Q:=by
 refine YB h1.can h2.can h1.key h2.key (fun _=>0) ?_;rw[h1.val,h2.val,F1,F1];exact nG (fun r hr=>YG hv hw jE (h1.rgb r hr) (h2.rgb r hr) (hb.bv r hr) (hb.bw r hr) _)
theorem F2 {L:List RR} (h: ∀ r∈L,YI r) (hl:L.length<=2): ∃ M,IA 0 1 M/\Den Tryz.prog 90 [] [RL' L] [] (.tup [RL' (M.map rn),.int .i64 0])/\Bd2 0 1 M:=by
 obtain⟨L',hL'⟩: ∃ t,L.map (fun r=>(r.1,nfR r.2))=t:=⟨_,rfl⟩;have hq: ∀ r∈L',RgQ 0 1 2 2 6 23 5 r/\wa 0 r.1/\wa 1 r.1:=fun r hr=>by
  rw[<-hL'] at hr;obtain⟨x,hx,rfl⟩:=mem_map.1 hr;exact⟨(h x hx).1.q,(h x hx).2⟩
 have oE:L'.length<=2:=by rw[<-hL',length_map];exact hl
 have hn:normL (L'.map rn)=normL L:=by rw[<-hL'];exact BN (fun r hr=>(h r hr).1.q.can)
 have SC:=W6 BO (fun r hr=>(hq r hr).1) oE;have hf:=SC.few;have hm:=SC.mer;rw[hn] at hf hm;have zO: ∀ r∈L,MD r.2:=fun r hr=>adL (h r hr).1.rd.ts (h r hr).1.few
 have nV: ∀ r∈L,r.1.length<=1000000:=fun r hr=>by have:=(h r hr).1.len;omega
 have hv: ∀ r∈L,validB r.2=true:=fun r hr=>YH (h r hr).1.rd
 have hNr:MF L:=⟨zO,hv,fun r hr _=>(h r hr).1.q.cst BO,by omega,nV,hf,hm⟩;have hz:r8 [L]=0:=T8 (by omega) (fun r hr=>by have:=(h r hr).1.len;omega) hv;have ho:=(tB (l:=L') (fun r hr=>⟨(hq r hr).1.can,(hq r hr).1.cst BO⟩)).2;rw[hn] at ho;have Ax:=adA L (by omega) zO nV (fun _=>hNr);unfold TL at Ax;rw[if_pos hz,ho] at Ax;have bf:=CX BO (fun r hr=>(hq r hr).1) (fun r hr=> .inl (by decide)) oE;have hb: ∀ r∈nrmL L',wa 0 r.1/\wa 1 r.1:=fun r hr=>by
  obtain⟨z,hz,_,e⟩:=(yC BO (fun r hr=>(hq r hr).1) hr).1;have eI:=(hq z hz).1.cst BO;obtain⟨⟨R,hR⟩,R',hR'⟩:=(hq z hz).2;rw[e];exact⟨⟨R,fun x hx=>hR x ((jx eI x).1 hx)⟩,R',fun x hx=>hR' x ((jx eI x).1 hx)⟩
 exact⟨nrmL L',⟨bf.1,bf.2.1,bf.2.2⟩,Ax,fun r hr=>(hb r hr).1,fun r hr=>(hb r hr).2⟩
theorem Is {L:List RR} (h: ∀ r∈L,YI r) (hl:L.length<=2): ∃ P:List Tm,Den Tryz.prog 40 [] [RL' L,.fv (.sl (ints [0,1]))] [] (.tup [PL (P.map tn),.int .i64 0])/\
 Den Tryz.prog 40 [] [RL' L,.fv (.sl (ints [1,0]))] [] (.tup [PL (P.map tn),.int .i64 0])/\TsOk 5000000000 (P.map tn)/\(P.map tn).length<=10000000000:=by
 obtain⟨M,hM,hB,hb⟩:=F2 h hl
 have hb':Bd2 1 0 M:=⟨hb.bw,hb.bv⟩
 obtain⟨P,h1⟩:=KO (by decide) (by decide) (by decide) hM hb
 obtain⟨Q,h2⟩:=KO (by decide) (by decide) (by decide) hM.swap hb'
 have he:=QM (by decide) (by decide) (by decide) hb h1 h2
 have w1: ∀ a b:Int,(a=0\/a=1)->(b=0\/b=1)->W64 [a,b]:=fun a b ha hb x hx=>by
  simp only[AK,not_mem_nil,or_false] at hx;rcases hx with rfl | rfl<;>omega
 have d1:=CY (.inl hM) hB [0,1] (w1 0 1 (.inl rfl) (.inr rfl)) (by decide)
 have d2:=CY (.inl hM) hB [1,0] (w1 1 0 (.inr rfl) (.inl rfl)) (by decide)
 have t1:yn iO M [0,1]=(0,P):=h1.tot
 have t2:yn iO M [1,0]=(0,Q):=h2.tot
 rw[t1] at d1
 rw[t2,<-he] at d2
 exact⟨P,d1,d2,fun t ht=>(h1.pok.1.ts (by decide) t ht).mono (by decide),by rw[length_map];have:=h1.pok.2;omega⟩
theorem jq9 (l:List Int) (hl:l.length<9223372036854775808) (hw:W64 l):Den Tryz.prog 9 [] [.fv (.sl (ints l))] [] (.bool true):=by
 have Ay:=acO l hl;have hwt:W64 (l.take 1000):=fun x hx=>hw x (Cg hx)
 have SG:(l.take 1000).length<=1000:=by rw[qf];omega
 obtain⟨xs,hxs⟩:=aw (l.take 1000);rw[hxs] at Ay hwt SG;obtain⟨H1,res,⟨L,a1,rfl,rfl,vV,qQ,hL⟩,Ho⟩:=adN xs 0 SG (eH _) hwt;have hc:=aI xs 0;obtain⟨P,d1,d2,hP1,hP2⟩:=Is hL qQ;have h19:=ac0 (P.map tn) hP1 hP2;have h29:=aim;have rl:=bH L;obtain⟨n,hn⟩:=aw L.length;rw[hn] at rl Ho;have tk:=dQ (l:=L) (n:=n) (by omega);have e1:((0:Int)==0)=true:=rfl;have dR:lent 0 1 1=1:=rfl;have i1:ints [0,1]=[[FV.lit (.int .i64 0)],[FV.lit (.int .i64 1)]]:=rfl;have i2:ints [1,0]=[[FV.lit (.int .i64 1)],[FV.lit (.int .i64 0)]]:=rfl;rw[i1] at d1;rw[i2] at d2;unfold S at Ay Ho hc;refine dq Tryz.func9 36 0 ?_;refine aX ?_;refine aW Ay ?_;refine sjq ?_;refine iD 0 Ho hc ?_;refine Ak dR ?_;refine gp d1 (by simp[cC,iw,gj,fP,tk,rl]) ?_;refine sjq ?_;refine gp d2 (by simp[cC,iw,gj,fP,tk,rl]) ?_;refine Ak e1 ?_;refine aW h19 ?_;refine sjq ?_
 refine aW h29 ?_;refine sjq ?_;exact bg rfl
end Go.Proofs.YtjjbkjgifdhlcaaGreat
