/- Contracts:the reference's naturals:digit. -/
import Derived.Test.YtjjbkjgifdhlcaaGreatT11
import Derived.Test.YtjjbkjgifdhlcaaGreatT8
import Derived.Test.YtjjbkjgifdhlcaaGreatT10
import Derived.Test.YtjjbkjgifdhlcaaGreatT1
open Nat (reduceAdd reduceLT reduceLeDiff reduceMul)
open List (append_nil drop_eq_getElem_cons drop_succ_cons getD_cons_zero getElem?_eq_none getElem?_set_ne length_cons length_map length_nil length_take map_cons nil_append replicate take_succ_cons take_succ_eq_append_getElem)
namespace Go.Proofs.YtjjbkjgifdhlcaaGreat
open Go.AM Go.Pl
set_option maxRecDepth 100000
set_option maxHeartbeats 4000000
theorem den95 (u v:List Nat) (j n:Nat) (hud:Dig u) (hvd:Dig v) (hn:v.length=n) (hn2:2<=n) (hj:j+n+1<=u.length) (hul:u.length<10000000010) (htop:2147483648<=v.getD (n - 1) 0) (hlt:val (u.drop (j+1))<val v):
 Den Tryz.prog 211 [.row true (u32s u)] [.lsl 0 0 u.length 1,.fv (.sl (u32s v)),.int .i64 j] [.row true (u32s (putSeg u j (n+1) (seg u j (n+1) % val v)))] (.int .u32 ((seg u j (n+1) / val v:Nat):Int)):=by
 obtain⟨L,hL⟩:=ex1 (u.length)
 have hn1':((n:Int) - 1).toNat=n - 1:=by omega
 have hn2':((n:Int) - 2).toNat=n - 2:=by omega
 have htb2:=hvd.getD (n - 1)
 have hsb2:=hvd.getD (n - 2)
 simp only[B] at htb2 hsb2
 obtain⟨top,ht⟩: ∃ t,v.getD (n - 1) 0=t:=⟨_,rfl⟩
 obtain⟨sec,hs⟩: ∃ t,v.getD (n - 2) 0=t:=⟨_,rfl⟩
 rw[ht] at htb2 htop
 rw[hs] at hsb2
 have i1:((j:Int)+(n:Int)).toNat=j+n:=by omega
 have i2:((j:Int)+(n:Int) - 1).toNat=j+n - 1:=by omega
 have i3:((j:Int)+(n:Int) - 2).toNat=j+n - 2:=by omega
 have LH:=long_head (j:=j) hud hvd hn hn2 (by omega) hlt
 have d1:=hud.getD (j+n)
 have d2:=hud.getD (j+n - 1)
 have d3:=hud.getD (j+n - 2)
 simp only[B] at d1 d2 d3
 have hfirst:=LH.first
 rw[ht] at hfirst
 obtain⟨x1,hx1⟩: ∃ t,u.getD (j+n) 0=t:=⟨_,rfl⟩
 obtain⟨x2,hx2⟩: ∃ t,u.getD (j+n - 1) 0=t:=⟨_,rfl⟩
 obtain⟨x3,hx3⟩: ∃ t,u.getD (j+n - 2) 0=t:=⟨_,rfl⟩
 rw[hx1] at d1 hfirst
 rw[hx2] at d2 hfirst
 rw[hx3] at d3
 obtain⟨F,hF⟩: ∃ F,F=x1*4294967296+x2:=⟨_,rfl⟩
 have hFi:(x1:Int)*4294967296+(x2:Int)=(F:Int):=by omega
 rw[<-hF] at hfirst
 have hFt:F / top<=4294967297:=kn_top htop hfirst
 have hFm:F % top<top:=Nat.mod_lt _ (by omega)
 have hpos:0<val v:=by have:=LH.v1;rw[ht] at this;have h0:0<top*B^(n - 1):=Nat.mul_pos (by omega) (qeb (by decide));omega
 obtain⟨Q,hQ⟩: ∃ Q,Q=seg u j (n+1) / val v:=⟨_,rfl⟩
 have hQv:Q*val v<=seg u j (n+1):=by rw[hQ];exact Nat.div_mul_le_self _ _
 have LH1:=LH.h1
 rw[hx1,hx2,<-hF] at LH1
 have LHv:=LH.v1
 rw[ht] at LHv
 have hst:=kn_start (q:=Q) (by omega) (kn_first (qeb (by decide)) LH1 LH.s1 LHv hQv)
 have hQb:Q<4294967296:=by
  rw[hQ,Nat.div_lt_iff_lt_mul hpos,Nat.mul_comm];exact LH.lt
 have hq:(F:Int) / (top:Int)=((F / top:Nat):Int):=by rw[Int.natCast_ediv]
 have hr:(F:Int) % (top:Int)=((F % top:Nat):Int):=by rw[Int.natCast_emod]
 generalize F / top=g0 at*
 generalize F % top=r0 at*
 refine den_of tabOk mixed Tryz.func211 (cd:=_) rfl (by decide) rfl (n:=176) rfl rfl (m:=1) rfl ?_
 simp -dsimp(disch:=omega) only[hn,hL,ru]
 refine dw (by kernel_rfl) ?_
 simp -dsimp(disch:=omega) only[i1,i2,hx1,hx2,or64s,hFi,IntKind.bits,Int.reduceToNat,Int.reducePow,↓reduceIte,reduceLeDiff,ru]
 refine⟨by omega,by omega,by omega,by omega,by omega,?_⟩
 refine dw (by kernel_rfl) ?_
 simp -dsimp(disch:=omega) only[hn,hn1',ht,hq,hr,↓reduceIte,reduceLT,reduceLeDiff,ru]
 refine⟨by omega,by omega,by omega,by omega,?_⟩
 refine WA.blockcut (fun(y:Nat×(Nat->PV))=>⟨[.lsl 0 0 L 1,.fv (.sl (u32s v)),.int .i64 j,.any,.any,.any,.any,.int .i64 n,.any,.int .u64 y.1]++tl y.2 10 169,[.row true (u32s u)]⟩)
  (fun y=>Q<=y.1/\y.1<4294967296/\(y.1 - 1)*val v<=seg u j (n+1)) ?_ ?_
 ·refine wl (α:=Nat×Nat) (fun⟨g,r⟩=>⟨.lsl 0 0 L 1:: .fv (.sl (u32s v)):: .int .i64 j:: .any:: .any:: .any:: .any:: .int .i64 n:: .any:: .int .u64 g:: .int .u64 r::replicate 168 .any,[.row true (u32s u)]⟩)
   (fun⟨g,_⟩=>g) (fun⟨g,r⟩=>KnInv F top Q g r/\r<4294967296/\g<=4294967297) (g0,r0) ?_ ?_ ?_
  ·refine wk [0] (by simp) rfl ?_ ?_
   ·simp[leVs,leV,le1]
   ·simp[leH,leO]
  ·exact⟨hst,by omega,hFt⟩
  ·rintro⟨g,r⟩ ⟨hkn,hrb,hgb⟩
   simp -dsimp(disch:=omega) only[replicate,rules]
   refine dw (by kernel_rfl) ?_
   simp -dsimp(disch:=omega) only[↓reduceIte,ru]
   refine bd_ ?_ ?_
   ·intro h3 h4
    have hlt':Q<g:=by omega
    obtain⟨g',rfl⟩: ∃ g',g=g'+1:=⟨g - 1,by omega⟩
    have hkn':=kn_next hkn hlt'
    rw[Nat.add_sub_cancel] at hkn'
    have hgi':((g'+1:Nat):Int) - 1=(g':Int):=by omega
    simp -dsimp(disch:=omega) only[h4,hgi',hn,hn1',ht,↓reduceIte,reduceLT,reduceLeDiff,ru]
    repeat refine qy (by omega) ?_
    refine bd_ ?_ ?_
    ·intro h5 h6
     simp -dsimp(disch:=omega) only[h6,rules,Nat.reduceBEq]
     have hbig:=kn_big (second:=sec) hkn' (by omega) hfirst (by omega)
     refine Mid.ex g' rfl ⟨by omega,hbig.1,?_⟩
     refine guess_low LH hbig.1 (by omega) ?_
     rw[ht,hs,hx1,hx2,hx3,<-hF]
     exact kn_pass hkn' (qnb hbig.2 (Nat.le_add_right _ _))
    ·intro h5 h6
     simp -dsimp(disch:=omega) only[h6,rules]
     refine ap (g',r+top) (by dsimp only;omega) ?_ ⟨hkn',by omega,by omega⟩
     refine wk [0] (by simp) rfl ?_ ?_
     ·simp[leVs,leV,le1]
     ·simp[leH,leO]
   ·intro h3 h4
    have hgl:g<4294967296:=by omega
    have hgs:g*sec<=4294967295*4294967295:=Nat.mul_le_mul (by omega) (by omega)
    have hgi:(g:Int)*(sec:Int)=((g*sec:Nat):Int):=by rw[Int.natCast_mul]
    obtain⟨gs,hgs2⟩: ∃ t,g*sec=t:=⟨_,rfl⟩
    rw[hgs2] at hgs hgi
    have hrd:decide ((r:Int)<4294967296)=true:=qbb (by omega)
    simp -dsimp(disch:=omega) only[h4,hrd,hgi,hn2',hs,i3,hx3,or64s,IntKind.bits,Int.reduceToNat,Int.reducePow,↓reduceIte,reduceLT,reduceLeDiff,ru]
    repeat refine qy (by omega) ?_
    refine bd_ ?_ ?_
    ·intro h7 h8
     have hlt':Q<g:=by
      have LH2:=LH.h2;have LHv2:=LH.v2;rw[hx1,hx2,hx3,<-hF] at LH2;rw[ht,hs] at LHv2;exact kn_test (qeb (by decide)) LH2 LH.s2 rfl LHv2 hQv hkn (by rw[hgs2];omega)
     obtain⟨g',rfl⟩: ∃ g',g=g'+1:=⟨g - 1,by omega⟩
     have hkn':=kn_next hkn hlt'
     rw[Nat.add_sub_cancel] at hkn'
     have hgi':((g'+1:Nat):Int) - 1=(g':Int):=by omega
     simp -dsimp(disch:=omega) only[h8,hgi',hn,hn1',ht,↓reduceIte,reduceLT,reduceLeDiff,ru]
     repeat refine qy (by omega) ?_
     refine bd_ ?_ ?_
     ·intro h5 h6
      simp -dsimp(disch:=omega) only[h6,rules,Nat.reduceBEq]
      have hbig:=kn_big (second:=sec) hkn' (by omega) hfirst (by omega)
      refine Mid.ex g' rfl ⟨by omega,hbig.1,?_⟩
      refine guess_low LH hbig.1 (by omega) ?_
      rw[ht,hs,hx1,hx2,hx3,<-hF]
      exact kn_pass hkn' (qnb hbig.2 (Nat.le_add_right _ _))
     ·intro h5 h6
      simp -dsimp(disch:=omega) only[h6,rules]
      refine ap (g',r+top) (by dsimp only;omega) ?_ ⟨hkn',by omega,by omega⟩
      refine wk [0] (by simp) rfl ?_ ?_
      ·simp[leVs,leV,le1]
      ·simp[leH,leO]
    ·intro h7 h8
     simp -dsimp(disch:=omega) only[h8,rules,Nat.reduceBEq]
     refine Mid.ex g rfl ⟨hkn.low,hgl,?_⟩
     refine guess_low LH hgl (by omega) ?_
     rw[ht,hs,hx1,hx2,hx3,<-hF]
     exact kn_pass hkn (by rw[hgs2];omega)
 ·rintro⟨g,x⟩ ⟨hg1,hg2,hg3⟩
  have hWhi:=quot_hi (g:=g) hpos (by rw[<-hQ];exact hg1)
  simp only[] at hg1 hg2 hg3
  simp -dsimp(disch:=omega) only[tl,rules,reduceAdd]
  refine wl (α:=Nat×Nat×Nat×List Nat) (fun⟨i,bo,c,w⟩=>⟨[.lsl 0 0 L 1,.fv (.sl (u32s v)),.int .i64 j,.any,.any,.any,.any,.int .i64 n,.any,.int .u64 g,.any,.int .u64 bo,.int .u64 c,.int .i64 i]++replicate 165 .any,[.row true (u32s w)]⟩)
   (fun⟨i,_,_,_⟩=>n+1 - i) (fun⟨i,bo,c,w⟩=>i<=n+1/\bo<=1/\c<4294967296/\w.length=L/\Dig w/\(∀ t,(t<j\/j+i<=t)->w.getD t 0=u.getD t 0)/\seg w j i+g*val (v.take i)=seg u j i+(c+bo)*B^i/\(i=n+1->c=0)) (0,0,0,u) ?_ ?_ ?_
  ·refine wk [0] (by simp) rfl ?_ ?_
   ·simp[leVs,leV,le1]
   ·simp[leH,leO]
  ·refine⟨by omega,by omega,by omega,hL,hud,fun _ _=>rfl,?_,fun _=>rfl⟩
   simp[seg_zero,val]
  ·rintro⟨i,bo,c,w⟩ ⟨hi,hbo,hc,hwl,hwd,hag,hsum,hce⟩
   simp -dsimp(disch:=omega) only[replicate,↓reduceIte,ru]
   refine bd_ ?_ ?_
   ·intro h1 h2
    have dv:=hvd.getD i
    have du:=hwd.getD (j+i)
    simp only[B] at dv du
    have hvs:=val_take_succ v i
    have hss:=seg_succ u j i
    have hag1:=hag (j+i) (Or.inr (qp _))
    rw[<-hag1] at hss
    have hv0:n<=i->v.getD i 0=0:=fun h=>by rw[qa,getElem?_eq_none (by omega)];rfl
    obtain⟨y,hy⟩: ∃ t,v.getD i 0=t:=⟨_,rfl⟩
    obtain⟨z,hz⟩: ∃ t,w.getD (j+i) 0=t:=⟨_,rfl⟩
    rw[hy] at hvs dv hv0
    rw[hz] at hss du
    have ik:((j:Int)+(i:Int)).toNat=j+i:=by omega
    simp -dsimp(disch:=omega) only[h2,↓reduceIte,ru]
    refine bd_ ?_ ?_
    ·intro h3 h4
     have hgy:g*y<=4294967295*4294967295:=Nat.mul_le_mul (by omega) (by omega)
     have hgyi:(g:Int)*(y:Int)=((g*y:Nat):Int):=by rw[Int.natCast_mul]
     obtain⟨cc,hcc⟩: ∃ t,c+g*y=t:=⟨_,rfl⟩
     obtain⟨gy,hgy2⟩: ∃ t,g*y=t:=⟨_,rfl⟩
     rw[hgy2] at hgy hgyi
     have hcci:(c:Int)+(gy:Int)=(cc:Int):=by omega
     have hccb:cc<=18446744073709551616 - 4294967296:=by omega
     have hcm:(cc:Int) % 4294967296=((cc % 4294967296:Nat):Int):=by rw[Int.natCast_emod];rfl
     have hcd:(cc:Int) / 4294967296=((cc / 4294967296:Nat):Int):=by rw[Int.natCast_ediv];rfl
     obtain⟨lo,hlo⟩: ∃ t,cc % 4294967296=t:=⟨_,rfl⟩
     obtain⟨hi',hhi'⟩: ∃ t,cc / 4294967296=t:=⟨_,rfl⟩
     have hlo2:lo<4294967296:=by omega
     have hhi2:hi'<4294967296:=by omega
     rw[hlo] at hcm
     rw[hhi'] at hcd
     simp -dsimp(disch:=omega) only[h4,hn,hy,hgyi,hcci,and64,hcm,hcd,hz,ik,IntKind.bits,Int.reduceToNat,Int.reducePow,↓reduceIte,reduceLT,reduceLeDiff,ru]
     repeat refine qy (by omega) ?_
     refine bd_ ?_ ?_
     ·intro h7 h8
      obtain⟨d,hdd⟩:=ex1 (z+4294967296 - (lo+bo))
      have hdi:(z:Int)+4294967296 - ((lo:Int)+(bo:Int))=(d:Int):=by omega
      have hset:=seg_set (u:=w) (j:=j) (i:=i) (by omega) d
      have hw32:IntKind.u32.wrap (d:Int)=(d:Int):=wrap32c (by omega)
      have hst:=mulsub_step (S:=seg w j i) (S0:=seg u j i) (P:=B^i) (g:=g) (Vt:=val (v.take i)) (v:=y) (c:=c) (b:=bo) (a:=z) (d:=d) (b2:=1) hsum (by rw[hcc,hlo];omega)
      simp -dsimp(disch:=omega) only[h8,ik,hdi,hw32,↓reduceIte,reduceLT,reduceLeDiff,ru]
      repeat refine qy (by omega) ?_
      refine ap (i+1,1,hi',w.set (j+i) d) (by dsimp only;omega) ?_ ⟨by omega,by omega,hhi2,by simp[hwl],hwd.set _ (by simp only[B];omega),?_,?_,by omega⟩
      ·refine wk [0] (by simp) rfl ?_ ?_
       ·simp[leVs,leV,le1]
       ·simp[leH,leO]
      ·intro t hto
       rw[<-hag t (by omega),qa,getElem?_set_ne (by omega),<-qa]
      ·rw[hset,hvs,hss,Nat.pow_succ,<-hhi',<-hcc]
       exact hst
     ·intro h7 h8
      obtain⟨d,hdd⟩:=ex1 (z - (lo+bo))
      have hdi:(z:Int) - ((lo:Int)+(bo:Int))=(d:Int):=by omega
      have hset:=seg_set (u:=w) (j:=j) (i:=i) (by omega) d
      have hw32:IntKind.u32.wrap (d:Int)=(d:Int):=wrap32c (by omega)
      have hst:=mulsub_step (S:=seg w j i) (S0:=seg u j i) (P:=B^i) (g:=g) (Vt:=val (v.take i)) (v:=y) (c:=c) (b:=bo) (a:=z) (d:=d) (b2:=0) hsum (by rw[hcc,hlo];omega)
      simp -dsimp(disch:=omega) only[h8,ik,hdi,hw32,↓reduceIte,reduceLT,reduceLeDiff,ru]
      repeat refine qy (by omega) ?_
      refine ap (i+1,0,hi',w.set (j+i) d) (by dsimp only;omega) ?_ ⟨by omega,by omega,hhi2,by simp[hwl],hwd.set _ (by simp only[B];omega),?_,?_,by omega⟩
      ·refine wk [0] (by simp) rfl ?_ ?_
       ·simp[leVs,leV,le1]
       ·simp[leH,leO]
      ·intro t hto
       rw[<-hag t (by omega),qa,getElem?_set_ne (by omega),<-qa]
      ·rw[hset,hvs,hss,Nat.pow_succ,<-hhi',<-hcc]
       exact hst
    ·intro h3 h4
     have hy0:=hv0 (by omega)
     obtain⟨cc,hcc'⟩: ∃ t,c=t:=⟨_,rfl⟩
     have hcci:(c:Int)=(cc:Int):=by omega
     have hcc:c+g*y=cc:=by rw[hy0,Nat.mul_zero,hcc'];rfl
     have hcm:(cc:Int) % 4294967296=((cc % 4294967296:Nat):Int):=by rw[Int.natCast_emod];rfl
     have hcd:(cc:Int) / 4294967296=((cc / 4294967296:Nat):Int):=by rw[Int.natCast_ediv];rfl
     obtain⟨lo,hlo⟩: ∃ t,cc % 4294967296=t:=⟨_,rfl⟩
     obtain⟨hi',hhi'⟩: ∃ t,cc / 4294967296=t:=⟨_,rfl⟩
     have hlo2:lo<4294967296:=by omega
     have hhi2:hi'<4294967296:=by omega
     rw[hlo] at hcm
     rw[hhi'] at hcd
     simp -dsimp(disch:=omega) only[h4,hcci,and64,hcm,hcd,hz,ik,IntKind.bits,Int.reduceToNat,Int.reducePow,↓reduceIte,reduceLeDiff,ru]
     repeat refine qy (by omega) ?_
     refine bd_ ?_ ?_
     ·intro h7 h8
      obtain⟨d,hdd⟩:=ex1 (z+4294967296 - (lo+bo))
      have hdi:(z:Int)+4294967296 - ((lo:Int)+(bo:Int))=(d:Int):=by omega
      have hset:=seg_set (u:=w) (j:=j) (i:=i) (by omega) d
      have hw32:IntKind.u32.wrap (d:Int)=(d:Int):=wrap32c (by omega)
      have hst:=mulsub_step (S:=seg w j i) (S0:=seg u j i) (P:=B^i) (g:=g) (Vt:=val (v.take i)) (v:=y) (c:=c) (b:=bo) (a:=z) (d:=d) (b2:=1) hsum (by rw[hcc,hlo];omega)
      simp -dsimp(disch:=omega) only[h8,ik,hdi,hw32,↓reduceIte,reduceLT,reduceLeDiff,ru]
      repeat refine qy (by omega) ?_
      refine ap (i+1,1,hi',w.set (j+i) d) (by dsimp only;omega) ?_ ⟨by omega,by omega,hhi2,by simp[hwl],hwd.set _ (by simp only[B];omega),?_,?_,by omega⟩
      ·refine wk [0] (by simp) rfl ?_ ?_
       ·simp[leVs,leV,le1]
       ·simp[leH,leO]
      ·intro t hto
       rw[<-hag t (by omega),qa,getElem?_set_ne (by omega),<-qa]
      ·rw[hset,hvs,hss,Nat.pow_succ,<-hhi',<-hcc]
       exact hst
     ·intro h7 h8
      obtain⟨d,hdd⟩:=ex1 (z - (lo+bo))
      have hdi:(z:Int) - ((lo:Int)+(bo:Int))=(d:Int):=by omega
      have hset:=seg_set (u:=w) (j:=j) (i:=i) (by omega) d
      have hw32:IntKind.u32.wrap (d:Int)=(d:Int):=wrap32c (by omega)
      have hst:=mulsub_step (S:=seg w j i) (S0:=seg u j i) (P:=B^i) (g:=g) (Vt:=val (v.take i)) (v:=y) (c:=c) (b:=bo) (a:=z) (d:=d) (b2:=0) hsum (by rw[hcc,hlo];omega)
      simp -dsimp(disch:=omega) only[h8,ik,hdi,hw32,↓reduceIte,reduceLT,reduceLeDiff,ru]
      repeat refine qy (by omega) ?_
      refine ap (i+1,0,hi',w.set (j+i) d) (by dsimp only;omega) ?_ ⟨by omega,by omega,hhi2,by simp[hwl],hwd.set _ (by simp only[B];omega),?_,?_,by omega⟩
      ·refine wk [0] (by simp) rfl ?_ ?_
       ·simp[leVs,leV,le1]
       ·simp[leH,leO]
      ·intro t hto
       rw[<-hag t (by omega),qa,getElem?_set_ne (by omega),<-qa]
      ·rw[hset,hvs,hss,Nat.pow_succ,<-hhi',<-hcc]
       exact hst
   ·intro h1 h2
    have hin:i=n+1:=by omega
    have hc0:=hce hin
    subst hin
    subst hc0
    have hvall:val (v.take (n+1))=val v:=val_take_all (by omega)
    rw[hvall,Nat.zero_add] at hsum
    simp -dsimp(disch:=omega) only[h2,↓reduceIte,Nat.reduceBEq,ru]
    refine Br.beqInt ?_ ?_
    ·intro h3 h4
     have hb0:bo=0:=by omega
     subst hb0
     rw[Nat.zero_mul,Nat.add_zero] at hsum
     have hro:=round_ok hsum hWhi
     have hdm:=div_mod_of hsum hro
     have hwg:IntKind.u32.wrap (g:Int)=(g:Int):=wrap32c (by omega)
     have hput:=putSeg_eq (x:=seg u j (n+1) % val v) (by omega) hwd (by omega) hag hdm.2
     simp -dsimp(disch:=omega) only[h4,hwg,ru]
     refine RetOK.lent rfl ⟨tvq,tvq⟩ (by rw[hput]) ?_ rfl
     rw[<-hdm.1]
     rfl
    ·intro h3 h4
     have hb1:bo=1:=by omega
     subst hb1
     rw[Nat.one_mul] at hsum
     have hwlt:=seg_lt hwd j (n+1)
     have hVM:val v<=B^(n+1):=by
      have h7:=val_lt hvd;rw[hn] at h7;exact qnb (Nat.le_of_lt h7) (Nat.pow_le_pow_right (by decide) (by omega))
     have hhi:seg u j (n+1)<g*val v:=by omega
     have hg0:0<g:=by
      rcases Nat.eq_zero_or_pos g with h7 | h7
      ·rw[h7,Nat.zero_mul] at hhi;omega
      ·exact h7
     simp -dsimp(disch:=omega) only[h4,rules]
     refine wl (α:=Nat×Nat×List Nat) (fun⟨t,c,w'⟩=>⟨[.lsl 0 0 L 1,.fv (.sl (u32s v)),.int .i64 j,.any,.any,.any,.any,.int .i64 n,.any,.int .u64 g,.any,.any,.int .u64 c,.any,.any,.any,.any,.int .i64 t]++replicate 161 .any,[.row true (u32s w')]⟩)
      (fun⟨t,_,_⟩=>n+1 - t) (fun⟨t,c,w'⟩=>t<=n+1/\c<=1/\w'.length=L/\Dig w'/\(∀ s,(s<j\/j+t<=s)->w'.getD s 0=w.getD s 0)/\seg w' j t+c*B^t=seg w j t+val (v.take t)) (0,0,w) ?_ ?_ ?_
     ·refine wk [0] (by simp) rfl ?_ ?_
      ·simp[leVs,leV,le1]
      ·simp[leH,leO]
     ·refine⟨by omega,by omega,hwl,hwd,fun _ _=>rfl,?_⟩
      simp[seg_zero,val]
     ·rintro⟨t,c',w'⟩ ⟨ht',hc',hwl',hwd',hag',hsum'⟩
      simp -dsimp(disch:=omega) only[replicate,↓reduceIte,ru]
      refine bd_ ?_ ?_
      ·intro h5 h6
       have dv:=hvd.getD t
       have du:=hwd'.getD (j+t)
       simp only[B] at dv du
       have hvs:=val_take_succ v t
       have hss2:=seg_succ w j t
       have hag3:=hag' (j+t) (Or.inr (qp _))
       rw[<-hag3] at hss2
       have hv0:n<=t->v.getD t 0=0:=fun h=>by rw[qa,getElem?_eq_none (by omega)];rfl
       obtain⟨y,hy⟩: ∃ t',v.getD t 0=t':=⟨_,rfl⟩
       obtain⟨z,hz⟩: ∃ t',w'.getD (j+t) 0=t':=⟨_,rfl⟩
       rw[hy] at hvs dv hv0
       rw[hz] at hss2 du
       have ik2:((j:Int)+(t:Int)).toNat=j+t:=by omega
       simp -dsimp(disch:=omega) only[h6,hz,ik2,↓reduceIte,reduceLeDiff,ru]
       repeat refine qy (by omega) ?_
       refine bd_ ?_ ?_
       ·intro h7 h8
        obtain⟨cc,hcc⟩: ∃ s,c'+(z+y)=s:=⟨_,rfl⟩
        have hcci:(z:Int)+(c':Int)+(y:Int)=(cc:Int):=by omega
        have hcd:(cc:Int) / 4294967296=((cc / 4294967296:Nat):Int):=by rw[Int.natCast_ediv];rfl
        have hw3:IntKind.u32.wrap (cc:Int)=((cc % 4294967296:Nat):Int):=by rw[wrap32,Int.natCast_emod];rfl
        have hset2:=seg_set (u:=w') (j:=j) (i:=t) (by omega) (cc % 4294967296)
        simp -dsimp(disch:=omega) only[h8,hn,hy,hz,ik2,hcci,hcd,hw3,IntKind.bits,Int.reduceToNat,Int.reducePow,↓reduceIte,reduceLT,reduceLeDiff,ru]
        repeat refine qy (by omega) ?_
        refine ap (t+1,cc / 4294967296,w'.set (j+t) (cc % 4294967296)) (by dsimp only;omega) ?_ ⟨by omega,by omega,by simp[hwl'],hwd'.set _ (Nat.mod_lt _ (by decide)),?_,?_⟩
        ·refine wk [0] (by simp) rfl ?_ ?_
         ·simp[leVs,leV,le1]
         ·simp[leH,leO]
        ·intro s hs2
         rw[<-hag' s (by omega),qa,getElem?_set_ne (by omega),<-qa]
        ·rw[hset2,hvs,hss2,Nat.pow_succ]
         exact addback_step hsum' hcc
       ·intro h7 h8
        have hy0:=hv0 (by omega)
        obtain⟨cc,hcc⟩: ∃ s,c'+(z+y)=s:=⟨_,rfl⟩
        have hcci:(z:Int)+(c':Int)=(cc:Int):=by omega
        have hcd:(cc:Int) / 4294967296=((cc / 4294967296:Nat):Int):=by rw[Int.natCast_ediv];rfl
        have hw3:IntKind.u32.wrap (cc:Int)=((cc % 4294967296:Nat):Int):=by rw[wrap32,Int.natCast_emod];rfl
        have hset2:=seg_set (u:=w') (j:=j) (i:=t) (by omega) (cc % 4294967296)
        simp -dsimp(disch:=omega) only[h8,hz,ik2,hcci,hcd,hw3,IntKind.bits,Int.reduceToNat,Int.reducePow,↓reduceIte,reduceLT,reduceLeDiff,ru]
        repeat refine qy (by omega) ?_
        refine ap (t+1,cc / 4294967296,w'.set (j+t) (cc % 4294967296)) (by dsimp only;omega) ?_ ⟨by omega,by omega,by simp[hwl'],hwd'.set _ (Nat.mod_lt _ (by decide)),?_,?_⟩
        ·refine wk [0] (by simp) rfl ?_ ?_
         ·simp[leVs,leV,le1]
         ·simp[leH,leO]
        ·intro s hs2
         rw[<-hag' s (by omega),qa,getElem?_set_ne (by omega),<-qa]
        ·rw[hset2,hvs,hss2,Nat.pow_succ]
         exact addback_step hsum' hcc
      ·intro h5 h6
       have htn:t=n+1:=by omega
       subst htn
       rw[hvall] at hsum'
       have hrb:=round_back hVM hsum hg0 hg3 hhi hsum' (seg_lt hwd' _ _)
       have hdm:=div_mod_of hrb.1 hrb.2
       have hput:=putSeg_eq (u:=u) (x:=seg u j (n+1) % val v) (by omega) hwd' (by omega) (fun s hs2=>by rw[hag' s hs2,hag s hs2]) hdm.2
       have hgi:(g:Int) - 1=((g - 1:Nat):Int):=by omega
       have hwg:IntKind.u32.wrap ((g - 1:Nat):Int)=((g - 1:Nat):Int):=wrap32c (by omega)
       simp -dsimp(disch:=omega) only[h6,hgi,hwg,↓reduceIte,Nat.reduceBEq,ru]
       refine RetOK.lent rfl ⟨tvq,tvq⟩ (by rw[hput]) ?_ rfl
       rw[<-hdm.1]
       rfl
theorem cmpN_neg' {x y:Nat}:cmpN x y<0↔x<y:=by
 unfold cmpN;split
 ·omega
 ·split<;>omega
theorem Nr_val (n:Nat):N n= .sl (u32s (limbs n)):=rfl
theorem den80z (a b:List Nat) (ha:Dig a) (hb:Dig b) (hla:a.length<10000000000) (hlb:b.length<10000000000) (h0:val b=0):
 Den Tryz.prog 172 [] [.fv (.sl (u32s a)),.fv (.sl (u32s b))] [] (.tup [.fv (N 0),.fv (N 0),.int .i64 3]):=by
 refine den_of tabOk mixed Tryz.func172 (cd:=_) rfl (by decide) rfl (n:=84) rfl rfl (m:=0) rfl ?_
 simp -dsimp(disch:=omega) only[replicate,rules]
 refine gp (den78f a ha (by omega)) rfl ?_
 simp -dsimp(disch:=omega) only[rules]
 refine gp (den78f b hb (by omega)) rfl ?_
 have hl0:(limbs 0).length=0:=by rw[limbs_zero];rfl
 have hl1:((0:Nat):Int)=0:=rfl
 have hl2:((0:Int)==0)=true:=rfl
 simp -dsimp(disch:=omega) only[Nr_val,h0,hl0,hl1,hl2,↓reduceIte,ru]
 refine rpq rfl ⟨tvq,tvq,tvq,tvq⟩ ?_
 simp(disch:=omega) only[St.get,fzX,oneRes,fzV,fzVs,fzC,fz1,fz0,Option.map_some,qk,getD_cons_zero]
 simp[limbs_zero,u32s]
theorem den80 (a b:List Nat) (ha:Dig a) (hb:Dig b) (hla:a.length<10000000000) (hlb:b.length<10000000000) (h0:val b≠0):
 Den Tryz.prog 172 [] [.fv (.sl (u32s a)),.fv (.sl (u32s b))] [] (.tup [.fv (N (val a / val b)),.fv (N (val a % val b)),.int .i64 0]):=by
 have hla2:=limbs_length_le (val_lt ha)
 have hlb2:=limbs_length_le (val_lt hb)
 have hlb0:(limbs (val b)).length≠0:=fun h=>h0 (limbs_len0 h)
 refine den_of tabOk mixed Tryz.func172 (cd:=_) rfl (by decide) rfl (n:=84) rfl rfl (m:=0) rfl ?_
 simp -dsimp(disch:=omega) only[replicate,rules]
 refine gp (den78f a ha (by omega)) rfl ?_
 simp -dsimp(disch:=omega) only[rules]
 refine gp (den78f b hb (by omega)) rfl ?_
 have hz:(((limbs (val b)).length:Int)==0)=false:=by rw[qx];omega
 simp -dsimp(disch:=omega) only[Nr_val,hz,↓reduceIte,ru]
 refine gp (den81 (limbs (val a)) (limbs (val b)) (limbs_dig _) (limbs_dig _) (by omega) (by omega)) rfl ?_
 simp -dsimp(disch:=omega) only[val_limbs,↓reduceIte,ru]
 refine bd_ ?_ ?_
 ·intro h1 h2
  rw[cmpN_neg'] at h1
  simp -dsimp(disch:=omega) only[h2,ru]
  refine rpq rfl ⟨tvq,tvq,tvq,tvq⟩ ?_
  simp(disch:=omega) only[St.get,fzX,oneRes,fzV,fzVs,fzC,fz1,fz0,Option.map_some,qk,getD_cons_zero]
  rw[Nat.div_eq_of_lt h1,Nat.mod_eq_of_lt h1]
  simp[N,limbs_zero,u32s]
 ·intro h1 h2
  rw[cmpN_neg'] at h1
  simp -dsimp(disch:=omega) only[h2,↓reduceIte,ru]
  refine Br.beqInt ?_ ?_
  ·intro h3 h4
   obtain⟨d,hd⟩: ∃ d,limbs (val b)=[d]:=List.length_eq_one_iff.1 (by omega)
   have hbv:val b=d:=by rw[<-val_limbs (val b),hd];simp[val]
   have hdd:d<4294967296:=by have:=limbs_dig (val b);rw[hd] at this;exact this d (by simp)
   have hg0:(u32s [d]).getD 0 []=[FV.lit (Value.int .u32 d)]:=rfl
   have hd0:0<d:=by omega
   have hb2:=Nat.mod_lt (val a) hd0
   have h93:=den93 (limbs (val a)) d (limbs_dig _) (by omega) hdd hd0
   rw[val_limbs] at h93
   simp -dsimp(disch:=omega) only[hd,hg0,Int.reduceToNat,↓reduceIte,reduceLT,reduceLeDiff,ru]
   refine⟨by simp,?_⟩
   refine gp h93 rfl ?_
   obtain⟨r,hr⟩:=ex1 (val a % d)
   rw[hr] at hb2
   have h78:=den78f [r] (Dig.mk (by simp only[B];omega) Dig.nil) (by simp)
   have hvr:val [r]=r:=by simp[val]
   rw[hvr] at h78
   simp -dsimp(disch:=omega) only[hr,↓reduceIte,reduceMul,reduceLT,reduceLeDiff,ru]
   refine gp h78 ?_ ?_
   ·rfl
   simp -dsimp(disch:=omega) only[ru]
   refine rpq rfl ⟨tvq,tvq,tvq,tvq⟩ ?_
   simp(disch:=omega) only[hbv,hr,St.get,fzX,oneRes,fzV,fzVs,fzC,fz1,fz0,Option.map_some,qk,getD_cons_zero]
  ·intro h3 h4
   have hle:(limbs (val b)).length<=(limbs (val a)).length:=limbs_len_mono (by omega)
   obtain⟨n,hn⟩: ∃ n,(limbs (val b)).length=n+1:=⟨(limbs (val b)).length - 1,by omega⟩
   have htop:=top_pos hn
   have htd:=(limbs_dig (val b)).getD n
   simp only[B] at htd
   obtain⟨top,ht⟩: ∃ t,(limbs (val b)).getD n 0=t:=⟨_,rfl⟩
   rw[ht] at htop htd
   have hn1:(((n+1:Nat):Int) - 1).toNat=n:=by omega
   simp -dsimp(disch:=omega) only[h4,rules]
   refine wl (α:=Nat) (fun s=>⟨[.fv (N (val a)),.fv (N (val b)),.any,.any,.nilsl,.nilsl,.any,.any,.any,.int .i64 s]++replicate 76 .any,[]⟩)
    (fun s=>32 - s) (fun s=>s<32/\top*2^s<4294967296) 0 ?_ ?_ ?_
   ·refine wk [] (by simp) rfl ?_ ?_
    ·simp[leVs,leV,le1,N]
    ·trivial
   ·exact⟨by omega,by simpa using htd⟩
   ·rintro s ⟨hs,hts⟩
    have hk64:(s<=32)=True:=by simp;omega
    have hws:IntKind.u64.wrap (s:Int)=(s:Int):=wrapU64c (by omega)
    obtain⟨w,hw⟩:=ex1 (top*2^s)
    have hwi:(top:Int)*2^s=(w:Int):=by rw[<-hw,Int.natCast_mul,Int.natCast_pow];rfl
    rw[hw] at hts
    have hww:IntKind.u32.wrap (w:Int)=(w:Int):=wrap32c (by omega)
    simp -dsimp(disch:=omega) only[replicate,Nr_val,hn,hn1,ht,hk64,hws,hwi,hww,IntKind.bits,↓reduceIte,reduceLT,reduceLeDiff,ru]
    repeat refine qy (by omega) ?_
    refine bd_ ?_ ?_
    ·intro h5 h6
     simp -dsimp(disch:=omega) only[h6,↓reduceIte,ru]
     have hs31:=pow_room htop (by rw[hw];omega:top*2^s<2147483648)
     refine ap (s+1) (by omega) ?_ ⟨by omega,by rw[Nat.pow_succ,<-Nat.mul_assoc,hw];omega⟩
     ·refine wk [] (by simp) rfl ?_ ?_
      ·simp[leVs,leV,le1,N]
      ·trivial
    ·intro h5 h6
     simp -dsimp(disch:=omega) only[h6,rules,Nat.reduceBEq]
     have hns:=norm_shift (k:=s) hn ht (by omega) (by rw[hw];omega) (by rw[hw];omega)
     obtain⟨V,hV⟩:=ex1 (val b*2^s)
     rw[hV] at hns
     obtain⟨la,hla'⟩: ∃ t,(limbs (val a)).length=t:=⟨_,rfl⟩
     have h94a:=den94 (limbs (val a)) s (limbs_dig _) (by omega) hs
     have h94b:=den94 (limbs (val b)) s (limbs_dig _) (by omega) hs
     rw[val_limbs,hla'] at h94a
     rw[val_limbs,hn,hV] at h94b
     have h78:=den78f (digs (n+1+1) V) (digs_dig _ _) (by rw[digs_length];omega)
     have hVd:val (digs (n+1+1) V)=V:=by
      apply val_digs;have:=lt_of_limbs_length (n:=V);rw[hns.1] at this;exact Nat.lt_of_lt_of_le this (Nat.pow_le_pow_right (by decide) (by omega))
     rw[hVd] at h78
     have hua:val (digs (la+1) (val a*2^s))=val a*2^s:=by
      apply val_digs;rw[Nat.pow_succ];have:=lt_of_limbs_length (n:=val a);rw[hla'] at this;exact Nat.mul_lt_mul'' this (Nat.lt_of_lt_of_le (Nat.pow_lt_pow_right (by decide) hs) (by decide))
     obtain⟨v,hv⟩:=ex1 (limbs V)
     have hvd:Dig v:=by rw[<-hv];exact limbs_dig _
     have hvv:val v=V:=by rw[<-hv,val_limbs]
     rw[hv] at hns
     have hlm:((la:Int) - ((n+1:Nat):Int)+1).toNat=la - n:=by omega
     obtain⟨m,hm⟩:=ex1 (la - n)
     refine gp h94a rfl ?_
     simp -dsimp(disch:=omega) only[rules]
     refine gp h94b rfl ?_
     simp -dsimp(disch:=omega) only[rules,reduceAdd]
     refine gp h78 ?_ ?_
     ·simp[fzAs,fzA,fz1,fz0,u32s_length,digs_length]
      rw[qdq (by simp[u32s_length,digs_length])]
     simp -dsimp(disch:=omega) only[Nr_val,hv,hla',hn,hlm,hm,↓reduceIte,reduceAdd,reduceLT,ru]
     refine⟨by omega,?_⟩
     refine wl (α:=Nat×List Nat×List Nat) (fun⟨j1,qd,u⟩=>⟨[.any,.any,.any,.any,.nilsl,.nilsl,.any,.any,.any,.int .i64 s,.lsl 0 0 (la+1) 1,.fv (.sl (u32s v)),.lsl 1 0 m 1,.int .i64 ((j1:Int) - 1)]++replicate 72 .any,[.row true (u32s u),.row true (u32s qd)]⟩)
      (fun⟨j1,_,_⟩=>j1) (fun⟨j1,qd,u⟩=>j1<=m/\u.length=la+1/\qd.length=m/\Dig u/\Dig qd/\val (u.drop j1)<val v/\val u+val v*(B^j1*val (qd.drop j1))=val a*2^s) (m,replicate m 0,digs (la+1) (val a*2^s)) ?_ ?_ ?_
     ·refine wk [0,2] (by simp) rfl ?_ ?_
      ·simp[leVs,leV,le1]
      ·simp[leH,leO]
     ·refine⟨qp _,digs_length _ _,by simp,digs_dig _ _,Dig.zeros,?_,?_⟩
      ·rw[<-val_drop_div (digs_dig _ _) (by rw[digs_length];omega),hua]
       have h7:=val_take_succ v n
       rw[val_take_all (by omega)] at h7
       have h8:=lt_of_limbs_length (n:=val a)
       rw[hla'] at h8
       refine val_div_lt (x:=val a*2^s) (P:=val a) (T:=2147483648) (K:=2^s) (Bn:=B^n) (Bl:=B^la) h8 (Nat.pow_le_pow_right (by decide) (show s<=31 by omega)) ?_ ?_ rfl (by decide) (qeb (by decide))
       ·rw[h7,Nat.mul_comm]
        exact qnb (Nat.mul_le_mul_left _ hns.2) (Nat.le_add_left _ _)
       ·rw[<-Nat.pow_add,show n+m=la by omega]
      ·rw[hua,List.drop_of_length_le (by simp)]
       simp[val]
     ·rintro⟨j1,qd,u⟩ ⟨hj1,hul,hql,hud,hqd,hlt,hinv⟩
      simp -dsimp(disch:=omega) only[replicate,↓reduceIte,ru]
      refine bd_ ?_ ?_
      ·intro h7 h8
       obtain⟨j,rfl⟩: ∃ j,j1=j+1:=⟨j1 - 1,by omega⟩
       have hj0:((j+1:Nat):Int) - 1=(j:Int):=by omega
       have hji:((j:Nat):Int).toNat=j:=by omega
       have LH:=long_head (j:=j) hud hvd hns.1 (by omega) (by omega) hlt
       have hpos:0<val v:=by omega
       have h95:=den95 u v j (n+1) hud hvd hns.1 (by omega) (by omega) (by omega) hns.2 hlt
       have hml:=Nat.mod_lt (seg u j (n+1+1)) hpos
       have hVB:val v<=B^(n+1+1):=by
        have h9:=val_lt hvd;rw[hns.1] at h9;exact qnb (Nat.le_of_lt h9) (Nat.pow_le_pow_right (by decide) (by omega))
       have hsg:=putSeg_seg (u:=u) (j:=j) (m:=n+1+1) (x:=seg u j (n+1+1) % val v) (by omega) (Nat.lt_of_lt_of_le hml hVB)
       have hpl:=putSeg_length (u:=u) (j:=j) (m:=n+1+1) (x:=seg u j (n+1+1) % val v) (by omega)
       have hpd:=putSeg_dig (j:=j) (m:=n+1+1) (x:=seg u j (n+1+1) % val v) hud
       have hpg: ∀ t,(t<j\/j+(n+1+1)<=t)->(putSeg u j (n+1+1) (seg u j (n+1+1) % val v)).getD t 0=u.getD t 0:=fun t ht2=>putSeg_getD (by omega) ht2
       have hgB:seg u j (n+1+1) / val v<4294967296:=by
        rw[Nat.div_lt_iff_lt_mul hpos,Nat.mul_comm];exact LH.lt
       have hdm:=Nat.mod_add_div (seg u j (n+1+1)) (val v)
       rw[Nat.mul_comm] at hdm
       obtain⟨w,hw4⟩:=ex1 (putSeg u j (n+1+1) (seg u j (n+1+1) % val v))
       obtain⟨g,hg⟩:=ex1 (seg u j (n+1+1) / val v)
       rw[hw4] at hsg hpl hpd hpg
       rw[hg] at hgB hdm
       rw[hw4,hg,hul] at h95
       rw[<-hsg] at hdm hml
       have hr:=long_round (u:=u) (u4:=w) (qd:=qd) (j:=j) (n:=n+1) (g:=g) (V:=val v) hpl (by omega) (by omega) hpg LH.tail hdm hml hinv
       simp -dsimp(disch:=omega) only[hj0,rules]
       refine gl_ 0 h95 rfl rfl trivial rfl rfl rfl ?_
       have hsh:shutBs [Ob.row true (u32s u),Ob.row true (u32s qd)] 0 [PV.lsl 0 0 (la+1) 1,PV.fv (FV.sl (u32s v)),PV.int IntKind.i64 (j:Int)]=[Ob.row true (u32s u),Ob.row true (u32s qd)]:=rfl
       simp -dsimp(disch:=omega) only[hsh,append_nil,↓reduceIte,reduceAdd,reduceLT,reduceLeDiff,ru]
       repeat refine qy (by omega) ?_
       refine ap (j,qd.set j g,w) (by dsimp only;omega) ?_ ⟨by omega,by omega,by simp[hql],hpd,hqd.set _ (by simp only[B];omega),hr.2,hr.1⟩
       refine wk [0,1] (by simp) rfl ?_ ?_
       ·simp[leVs,leV,le1]
       ·simp[leH,leO]
      ·intro h7 h8
       have hj0:j1=0:=by omega
       subst hj0
       rw[List.drop_zero] at hlt
       rw[List.drop_zero,Nat.pow_zero,Nat.one_mul] at hinv
       have hend:=long_end (hvv.trans hV.symm) (Nat.two_pow_pos s) hinv hlt
       simp -dsimp(disch:=omega) only[h8,rules,Nat.reduceBEq]
       refine gp (den78f qd hqd (by omega)) ?_ ?_
       ·simp[fzAs,fzA,fz1,fz0,u32s_length,hql]
        rw[qdq (by simp[u32s_length,hql])]
       simp -dsimp(disch:=omega) only[rules,reduceAdd]
       refine gp (den96 u s hud (by omega) hs) ?_ ?_
       ·simp[fzAs,fzA,fz1,fz0,u32s_length,hul]
        rw[qdq (by simp[u32s_length,hul])]
       simp -dsimp(disch:=omega) only[reduceAdd,ru]
       refine rpq rfl ⟨tvq,tvq,tvq,tvq⟩ ?_
       rw[hend.1,hend.2]
       simp(disch:=omega) only[St.get,fzX,oneRes,fzV,fzVs,fzC,fz1,fz0,Option.map_some,qk,getD_cons_zero]
theorem den79 (a b:List Nat) (ha:Dig a) (hb:Dig b) (hla:a.length<10000000000) (hlb:b.length<10000000000):
 Den Tryz.prog 171 [] [.fv (.sl (u32s a)),.fv (.sl (u32s b))] [] (.fv (N (Nat.gcd (val a) (val b)))):=by
 have hla2:=limbs_length_le (val_lt ha)
 have hlb2:=limbs_length_le (val_lt hb)
 refine den_of tabOk mixed Tryz.func171 (cd:=_) rfl (by decide) rfl (n:=23) rfl rfl (m:=0) rfl ?_
 simp -dsimp(disch:=omega) only[replicate,rules]
 refine gp (den78f a ha (by omega)) rfl ?_
 simp -dsimp(disch:=omega) only[rules]
 refine gp (den78f b hb (by omega)) rfl ?_
 simp -dsimp(disch:=omega) only[Nr_val,rules]
 generalize hg:Nat.gcd (val a) (val b)=g
 refine wl (α:=Nat×Nat) (fun⟨x,y⟩=>⟨.fv (.sl (u32s (limbs x))):: .fv (.sl (u32s (limbs y))):: .any:: .any:: .nilsl::replicate 20 .any,[]⟩)
  (fun⟨_,y⟩=>y) (fun⟨x,y⟩=>(limbs x).length<10000000000/\(limbs y).length<10000000000/\Nat.gcd x y=g) (val a,val b) ?_ ?_ ?_
 ·refine wk [] (by simp) rfl ?_ ?_
  ·simp[leVs,leV,le1]
  ·trivial
 ·exact⟨by omega,by omega,hg⟩
 ·rintro⟨x,y⟩ ⟨hx,hy,hxy⟩
  simp -dsimp(disch:=omega) only[replicate,↓reduceIte,ru]
  refine bd_ ?_ ?_
  ·intro h5 h6
   have hy0:y≠0:=fun h=>by rw[h,limbs_zero] at h5;simp at h5
   have h80:=den80 (limbs x) (limbs y) (limbs_dig _) (limbs_dig _) hx hy (by rw[val_limbs];exact hy0)
   rw[val_limbs,val_limbs,Nr_val,Nr_val] at h80
   simp -dsimp(disch:=omega) only[h6,rules]
   refine gp h80 rfl ?_
   simp -dsimp(disch:=omega) only[rules]
   have hlt:=Nat.mod_lt x (Nat.pos_of_ne_zero hy0)
   refine ap (y,x % y) (by exact hlt) ?_ ⟨hy,qmb (limbs_len_mono (Nat.le_of_lt hlt)) hy,?_⟩
   ·refine wk [] (by simp) rfl ?_ ?_
    ·simp[leVs,leV,le1]
    ·trivial
   ·rw[<-hxy,Nat.gcd_comm y,<-Nat.gcd_rec,Nat.gcd_comm]
  ·intro h5 h6
   have hy0:y=0:=limbs_len0 (by omega)
   subst hy0
   simp -dsimp(disch:=omega) only[h6,Nat.reduceBEq,ru]
   refine rpq rfl ⟨tvq,tvq⟩ ?_
   rw[Nat.gcd_zero_right] at hxy
   simp(disch:=omega) only[hxy,St.get,fzX,oneRes,fzV,fzC,fz1,fz0,Option.map_some,qk,getD_cons_zero]
   rfl
theorem FR_lowest {s:Bool} {n d:Nat} (hd:d≠0):FR (mkq s n d)= .agg [.bool (s&&decide (((limbs (n / Nat.gcd n d)).length:Int)>0)),.fv (N (n / Nat.gcd n d)),.fv (N (d / Nat.gcd n d))]:=by
 by_cases hn:n=0
 ·subst hn;rw[mkq_num0 rfl,FR,cn_zero,Nat.gcd_zero_left,Nat.zero_div,Nat.div_self (by omega)];have h1:limbs 1=[1]:=limbs_val (l:=[1]) (fun d hd=>by simp at hd;subst hd;decide) (Or.inr (by decide));unfold N Raw.v;rw[limbs_zero,h1];simp[u32s]
 ·obtain⟨h1,h2,h3⟩:=mkq_canon (s:=s) hn hd;rw[FR_eq,h1,h2,h3];have h4:n / Nat.gcd n d≠0:=by
   have:=Nat.div_pos (Nat.le_of_dvd (by omega) (Nat.gcd_dvd_left n d)) (Nat.gcd_pos_of_pos_left d (by omega));omega
  have h5:((limbs (n / Nat.gcd n d)).length:Int)≠0:=fun h=>h4 (limbs_len_zero.1 h)
  rw[qbb (show((limbs (n / Nat.gcd n d)).length:Int)>0 by omega),Bool.and_true]
theorem den62 (s:Bool) (n d:List Nat) (hn:Dig n) (hd:Dig d) (hln:n.length<10000000000) (hld:d.length<10000000000) (hd0:val d≠0):
 Den Tryz.prog 123 [] [.bool s,.fv (.sl (u32s n)),.fv (.sl (u32s d))] [] (FR (mkq s (val n) (val d))):=by
 have hd2:=limbs_length_le (val_lt hd)
 have hgd:Nat.gcd (val n) (val d)<=val d:=Nat.le_of_dvd (by omega) (Nat.gcd_dvd_right _ _)
 have hg0:Nat.gcd (val n) (val d)≠0:=by
  have:=Nat.gcd_pos_of_pos_right (val n) (show 0<val d by omega);omega
 have hgl:=limbs_len_mono hgd
 have h79:=den79 n d hn hd hln hld
 rw[FR_lowest hd0]
 obtain⟨g,hg⟩:=ex1 (Nat.gcd (val n) (val d))
 rw[hg] at h79 hg0 hgl ⊢
 have h80a:=den80 n (limbs g) hn (limbs_dig _) hln (by omega) (by rw[val_limbs];exact hg0)
 have h80b:=den80 d (limbs g) hd (limbs_dig _) hld (by omega) (by rw[val_limbs];exact hg0)
 rw[val_limbs] at h80a h80b
 obtain⟨x,hx⟩:=ex1 (val n / g)
 rw[Nr_val] at h79
 rw[hx,Nr_val x] at h80a ⊢
 cases s
 ·refine den_of tabOk mixed Tryz.func123 (cd:=_) rfl (by decide) rfl (n:=37) rfl rfl (m:=0) rfl ?_
  simp -dsimp(disch:=omega) only[replicate,ru]
  refine gp h79 rfl ?_
  simp -dsimp(disch:=omega) only[rules]
  refine gp h80a rfl ?_
  simp -dsimp(disch:=omega) only[rules]
  refine gp h80b rfl ?_
  simp -dsimp(disch:=omega) only[↓reduceIte,reduceAdd,reduceLT,reduceLeDiff,ru]
  refine rpq rfl ⟨⟨rfl,qp 3⟩,tvq⟩ rfl
 ·refine den_of tabOk mixed Tryz.func123 (cd:=_) rfl (by decide) rfl (n:=37) rfl rfl (m:=0) rfl ?_
  simp -dsimp(disch:=omega) only[replicate,ru]
  refine gp h79 rfl ?_
  simp -dsimp(disch:=omega) only[rules]
  refine gp h80a rfl ?_
  simp -dsimp(disch:=omega) only[rules]
  refine gp h80b rfl ?_
  simp -dsimp(disch:=omega) only[↓reduceIte,reduceAdd,reduceLT,reduceLeDiff,ru]
  refine rpq rfl ⟨⟨rfl,qp 3⟩,tvq⟩ rfl
theorem den57 (r:Raw) (hr:r.Ok 5000000000):Den Tryz.prog 121 [] [r.v] [] (FR r.q):=by
 have h78:=den78f r.den hr.den (by have:=hr.lden;omega);rw[Nr_val] at h78;by_cases h0:val r.den=0
 ·have hq:r.q=0:=mkq_den0 h0;rw[h0,limbs_zero] at h78;rw[hq,FR,cn_zero];unfold Raw.v;have hz:(((0:Nat):Int)==0)=true:=rfl;have hl:(u32s []).length=0:=rfl;have hl2:([]:List Nat).length=0:=rfl;refine den_of tabOk mixed Tryz.func121 (cd:=_) rfl (by decide) rfl (n:=16) rfl rfl (m:=0) rfl ?_;simp -dsimp(disch:=omega) only[replicate,↓reduceIte,reduceAdd,reduceLT,reduceLeDiff,ru];refine gp h78 rfl ?_;simp -dsimp(disch:=omega) only[hl,hz,↓reduceIte,reduceAdd,reduceMul,reduceLT,reduceLeDiff,ru];refine rpq rfl ⟨⟨rfl,qp 3⟩,tvq⟩ rfl
 ·have h62:=den62 r.neg r.num r.den hr.num hr.den (by have:=hr.lnum;omega) (by have:=hr.lden;omega) h0;change Den Tryz.prog 123 [] _ [] (FR r.q) at h62;have hz:(((limbs (val r.den)).length:Int)==0)=false:=by rw[qx];exact fun h=>h0 (limbs_len_zero.1 h)
  rw[FR_eq] at h62 ⊢;unfold Raw.v;refine den_of tabOk mixed Tryz.func121 (cd:=_) rfl (by decide) rfl (n:=16) rfl rfl (m:=0) rfl ?_;simp -dsimp(disch:=omega) only[replicate,↓reduceIte,reduceAdd,reduceLT,reduceLeDiff,ru];refine gp h78 rfl ?_;simp -dsimp(disch:=omega) only[hz,↓reduceIte,reduceAdd,reduceLeDiff,ru];refine gp h62 rfl ?_;simp -dsimp(disch:=omega) only[reduceAdd,reduceLT,reduceLeDiff,ru];refine rpq rfl ⟨⟨rfl,qp 3⟩,tvq⟩ rfl
theorem den26 (r:Raw) (hr:r.Ok 5000000000):Den Tryz.prog 63 [] [r.v] [] (.int .i64 (sgq r.q)):=by
 have h57:=den57 r hr;rw[FR_eq] at h57;unfold Raw.v at h57 ⊢;obtain⟨n,hn⟩:=ex1 (r.q.num.natAbs);rw[hn,Nr_val] at h57;refine den_of tabOk mixed Tryz.func63 (cd:=_) rfl (by decide) rfl (n:=10) rfl rfl (m:=0) rfl ?_;simp -dsimp(disch:=omega) only[replicate,↓reduceIte,reduceAdd,reduceLT,reduceLeDiff,ru];refine gp h57 rfl ?_;simp -dsimp(disch:=omega) only[↓reduceIte,reduceAdd,reduceLT,reduceLeDiff,ru];refine Br.beqInt ?_ ?_
 ·intro h1 h2;have hs:=sgq_zero (hn.trans (limbs_len_zero.1 h1));simp -dsimp(disch:=omega) only[h2,ru];refine rpq rfl ⟨tvq,tvq⟩ ?_;simp(disch:=omega) only[hs,St.get,fzX,oneRes,fzV,fzC,fz1,fz0,Option.map_some,qk,getD_cons_zero]
 ·intro h1 h2;simp -dsimp(disch:=omega) only[h2,↓reduceIte,reduceAdd,reduceLeDiff,ru];refine bd_ ?_ ?_
  ·intro h3 h4;have hs:=sgq_neg h3;simp -dsimp(disch:=omega) only[h4,ru];refine rpq rfl ⟨tvq,tvq⟩ ?_;simp(disch:=omega) only[hs,St.get,fzX,oneRes,fzV,fzC,fz1,fz0,Option.map_some,qk,getD_cons_zero]
  ·intro h3 h4;have hs:=sgq_pos (q:=r.q) (fun h=>h1 (limbs_len_zero.2 (hn.symm.trans h))) h3;simp -dsimp(disch:=omega) only[h4,ru];refine rpq rfl ⟨tvq,tvq⟩ ?_;simp(disch:=omega) only[hs,St.get,fzX,oneRes,fzV,fzC,fz1,fz0,Option.map_some,qk,getD_cons_zero]
theorem den44 (r:Raw) (hr:r.Ok 5000000000):Den Tryz.prog 122 [] [r.v] [] (FR (-r.q)):=by
 have h57:=den57 r hr;rw[FR_eq] at h57;rw[FR_neg];unfold Raw.v at h57 ⊢;obtain⟨n,hn⟩:=ex1 (r.q.num.natAbs);obtain⟨s,hs⟩:=ex1 (decide (r.q.num<0));obtain⟨d,hd⟩:=ex1 (N r.q.den);rw[hn,hs,hd,Nr_val] at h57;rw[hn,hs,hd,Nr_val];refine den_of tabOk mixed Tryz.func122 (cd:=_) rfl (by decide) rfl (n:=15) rfl rfl (m:=0) rfl ?_;simp -dsimp(disch:=omega) only[replicate,↓reduceIte,reduceAdd,reduceLT,reduceLeDiff,ru];refine gp h57 rfl ?_;cases s
 ·have e1:(!false)=true:=rfl;simp -dsimp(disch:=omega) only[e1,↓reduceIte,reduceAdd,reduceLT,reduceLeDiff,ru];refine rpq rfl ⟨⟨rfl,qp 3⟩,tvq⟩ rfl
 ·have e1:(!true)=false:=rfl;simp -dsimp(disch:=omega) only[e1,↓reduceIte,reduceAdd,reduceLT,reduceLeDiff,ru];refine rpq rfl ⟨⟨rfl,qp 3⟩,tvq⟩ rfl
theorem den32 (r1 r2:Raw) (hr1:r1.Ok 2000000000) (hr2:r2.Ok 2000000000):Den Tryz.prog 65 [] [r1.v,r2.v] [] (FR (r1.q*r2.q)):=by
 have ha:=den57 r1 (hr1.mono (by decide));have hb:=den57 r2 (hr2.mono (by decide));have b1:=hr1.bd (by decide);have b2:=hr2.bd (by decide);have c1:=cn_ok b1;have c2:=cn_ok b2;have hq:mkq (decide (r1.q.num<0) !=decide (r2.q.num<0)) (r1.q.num.natAbs*r2.q.num.natAbs) (r1.q.den*r2.q.den)=r1.q*r2.q:=by
  rw[<-mkq_mul,mkq_self,mkq_self]
 have hm1:=den61 (limbs r1.q.num.natAbs) (limbs r2.q.num.natAbs) (limbs_dig _) (limbs_dig _) (by have:=c1.lnum;simp only[cn] at this;omega) (by have:=c2.lnum;simp only[cn] at this;omega);have hm2:=den61 (limbs r1.q.den) (limbs r2.q.den) (limbs_dig _) (limbs_dig _) (by have:=c1.lden;simp only[cn] at this;omega) (by have:=c2.lden;simp only[cn] at this;omega);have hl1:=limbs_lt_of (natAbs_pow_lt b1.1 b2.1);have hl2:=limbs_lt_of (natAbs_pow_lt b1.2 b2.2);have h62:=den62 (decide (r1.q.num<0) !=decide (r2.q.num<0)) (limbs (r1.q.num.natAbs*r2.q.num.natAbs)) (limbs (r1.q.den*r2.q.den)) (limbs_dig _) (limbs_dig _) (by omega) (by omega) (by rw[val_limbs];exact Nat.mul_ne_zero r1.q.den_nz r2.q.den_nz);rw[val_limbs,val_limbs,hq] at h62;rw[val_limbs,val_limbs] at hm1 hm2;rw[FR_eq] at ha hb h62 ⊢;unfold Raw.v at ha hb ⊢;rw[Nr_val] at hm1 hm2;rw[Nr_val,Nr_val] at ha hb
 refine den_of tabOk mixed Tryz.func65 (cd:=_) rfl (by decide) rfl (n:=23) rfl rfl (m:=0) rfl ?_;simp -dsimp(disch:=omega) only[replicate,reduceAdd,reduceLT,ru];refine dw (by kernel_rfl) ?_;simp -dsimp(disch:=omega) only[↓reduceIte,reduceAdd,reduceLeDiff,ru];refine gp ha rfl ?_;simp -dsimp(disch:=omega) only[↓reduceIte,reduceAdd,reduceLeDiff,ru];refine gp hb rfl ?_;simp -dsimp(disch:=omega) only[reduceAdd,reduceLT,reduceLeDiff,ru];refine dw (by kernel_rfl) ?_;simp -dsimp(disch:=omega) only[↓reduceIte,reduceCtorEq,reduceAdd,reduceLeDiff,ru];refine gp hm1 rfl ?_;simp -dsimp(disch:=omega) only[↓reduceIte,reduceAdd,reduceLeDiff,ru];refine gp hm2 rfl ?_;simp -dsimp(disch:=omega) only[rules,reduceAdd];refine gp h62 rfl ?_;simp -dsimp(disch:=omega) only[reduceAdd,reduceLT,reduceLeDiff,ru];refine rpq rfl ⟨⟨rfl,qp 3⟩,tvq⟩ rfl
theorem limbs_add_le {a c j k m:Nat} (ha:a<B^j) (hc:c<B^k) (hj:j<=m) (hk:k<=m):(limbs (a+c)).length<=m+1:=
 limbs_lt_of (add_pow_lt (pow_up ha hj) (pow_up hc hk))
theorem den31 (r1 r2:Raw) (hr1:r1.Ok 1000000000) (hr2:r2.Ok 1000000000):Den Tryz.prog 67 [] [r1.v,r2.v] [] (FR (r1.q+r2.q)):=by
 have ha:=den57 r1 (hr1.mono (by decide));have hb:=den57 r2 (hr2.mono (by decide));have b1:=hr1.bd (by decide);have b2:=hr2.bd (by decide);have c1:=cn_ok b1;have c2:=cn_ok b2;have hq:=mkq_common (decide (r1.q.num<0)) (decide (r2.q.num<0)) (a:=r1.q.num.natAbs) (c:=r2.q.num.natAbs) r1.q.den_nz r2.q.den_nz;rw[mkq_self,mkq_self] at hq;have hd0:=Nat.mul_ne_zero r1.q.den_nz r2.q.den_nz;have hm1:=den61 (limbs r1.q.num.natAbs) (limbs r2.q.den) (limbs_dig _) (limbs_dig _) (by have:=c1.lnum;simp only[cn] at this;omega) (by have:=c2.lden;simp only[cn] at this;omega);have hm2:=den61 (limbs r2.q.num.natAbs) (limbs r1.q.den) (limbs_dig _) (limbs_dig _) (by have:=c2.lnum;simp only[cn] at this;omega) (by have:=c1.lden;simp only[cn] at this;omega)
 have hm3:=den61 (limbs r1.q.den) (limbs r2.q.den) (limbs_dig _) (limbs_dig _) (by have:=c1.lden;simp only[cn] at this;omega) (by have:=c2.lden;simp only[cn] at this;omega);have hl1:=limbs_lt_of (natAbs_pow_lt b1.1 b2.2);have hl2:=limbs_lt_of (natAbs_pow_lt b2.1 b1.2);have hl3:=limbs_lt_of (natAbs_pow_lt b1.2 b2.2);have hls:=limbs_add_le (m:=2000000000) (natAbs_pow_lt b1.1 b2.2) (natAbs_pow_lt b2.1 b1.2) (by decide) (by decide);rw[val_limbs,val_limbs] at hm1 hm2 hm3;rw[FR_eq] at ha hb;unfold Raw.v at ha hb ⊢;rw[Nr_val] at hm1 hm2 hm3;rw[Nr_val,Nr_val] at ha hb;rw[hq];obtain⟨x,hx⟩: ∃ t,r1.q.num.natAbs*r2.q.den=t:=⟨_,rfl⟩;obtain⟨y,hy⟩: ∃ t,r2.q.num.natAbs*r1.q.den=t:=⟨_,rfl⟩;obtain⟨z,hz⟩: ∃ t,r1.q.den*r2.q.den=t:=⟨_,rfl⟩;rw[hx] at hm1 hl1 hls;rw[hy] at hm2 hl2 hls;rw[hz] at hm3 hl3 hd0;rw[hx,hy,hz];obtain⟨s,hs⟩: ∃ t,decide (r1.q.num<0)=t:=⟨_,rfl⟩;obtain⟨t,ht⟩:=ex1 (decide (r2.q.num<0))
 rw[hs] at ha;rw[ht] at hb;rw[hs,ht];refine den_of tabOk mixed Tryz.func67 (cd:=_) rfl (by decide) rfl (n:=65) rfl rfl (m:=0) rfl ?_;simp -dsimp(disch:=omega) only[replicate,reduceAdd,reduceLT,ru];refine dw (by kernel_rfl) ?_;simp -dsimp(disch:=omega) only[↓reduceIte,reduceAdd,reduceLeDiff,ru];refine gp ha rfl ?_;simp -dsimp(disch:=omega) only[↓reduceIte,reduceAdd,reduceLeDiff,ru];refine gp hb rfl ?_;simp -dsimp(disch:=omega) only[reduceAdd,reduceLT,reduceLeDiff,ru];refine dw (by kernel_rfl) ?_;simp -dsimp(disch:=omega) only[↓reduceIte,reduceAdd,reduceLeDiff,ru];refine gp hm1 rfl ?_;simp -dsimp(disch:=omega) only[↓reduceIte,reduceAdd,reduceLeDiff,ru];refine gp hm2 rfl ?_;simp -dsimp(disch:=omega) only[↓reduceIte,reduceAdd,reduceLeDiff,ru];refine gp hm3 rfl ?_;by_cases hst:s=t
 ·have hb:(s==t)=true:=by rw[hst];exact beq_self_eq_true _
  have h56:=den56 (limbs x) (limbs y) (limbs_dig _) (limbs_dig _) (by omega) (by omega);rw[val_limbs,val_limbs,Nr_val] at h56;have h62:=den62 s (limbs (x+y)) (limbs z) (limbs_dig _) (limbs_dig _) (by omega) (by omega) (by rw[val_limbs];exact hd0);rw[val_limbs,val_limbs,<-mkq_add hst hd0,FR_eq] at h62;rw[FR_eq];simp -dsimp(disch:=omega) only[hb,↓reduceIte,reduceCtorEq,reduceAdd,reduceLeDiff,ru];refine dw (by kernel_rfl) ?_;simp -dsimp(disch:=omega) only[↓reduceIte,reduceAdd,reduceLeDiff,ru];refine gp h56 rfl ?_;simp -dsimp(disch:=omega) only[rules,reduceAdd];refine gp h62 rfl ?_;simp -dsimp(disch:=omega) only[reduceAdd,reduceLT,reduceLeDiff,ru];refine rpq rfl ⟨⟨rfl,qp 3⟩,tvq⟩ rfl
 ·have hb:(s==t)=false:=by rw[qx];exact hst
  by_cases hlt:x<y
  ·have h63:=den63lt (limbs x) (limbs y) (limbs_dig _) (limbs_dig _) (by omega) (by omega) (by rw[val_limbs,val_limbs];exact hlt);have h63b:=den63 (limbs y) (limbs x) (limbs_dig _) (limbs_dig _) (by omega) (by omega) (by rw[val_limbs,val_limbs];omega);rw[val_limbs,val_limbs,Nr_val] at h63b;have hsub:=limbs_len_mono (Nat.sub_le y x);have h62:=den62 t (limbs (y - x)) (limbs z) (limbs_dig _) (limbs_dig _) (by omega) (by omega) (by rw[val_limbs];exact hd0);rw[val_limbs,val_limbs,<-mkq_addlt hst hlt hd0,FR_eq] at h62;rw[FR_eq];have h10:((1:Int)==0)=false:=rfl;simp -dsimp(disch:=omega) only[hb,↓reduceIte,reduceCtorEq,reduceAdd,reduceLeDiff,ru];refine gp h63 rfl ?_;simp -dsimp(disch:=omega) only[h10,↓reduceIte,reduceAdd,ru];refine gp h63b rfl ?_;simp -dsimp(disch:=omega) only[↓reduceIte,reduceAdd,reduceLeDiff,ru];refine gp h62 rfl ?_
   simp -dsimp(disch:=omega) only[reduceAdd,reduceLT,reduceLeDiff,ru];refine rpq rfl ⟨⟨rfl,qp 3⟩,tvq⟩ rfl
  ·have h63:=den63 (limbs x) (limbs y) (limbs_dig _) (limbs_dig _) (by omega) (by omega) (by rw[val_limbs,val_limbs];omega);rw[val_limbs,val_limbs,Nr_val] at h63;have hsub:=limbs_len_mono (Nat.sub_le x y);have h62:=den62 s (limbs (x - y)) (limbs z) (limbs_dig _) (limbs_dig _) (by omega) (by omega) (by rw[val_limbs];exact hd0);rw[val_limbs,val_limbs,<-mkq_addge hst hlt hd0,FR_eq] at h62;rw[FR_eq];have h00:((0:Int)==0)=true:=rfl;simp -dsimp(disch:=omega) only[hb,↓reduceIte,reduceCtorEq,reduceAdd,reduceLeDiff,ru];refine gp h63 rfl ?_;simp -dsimp(disch:=omega) only[h00,↓reduceIte,reduceAdd,reduceLeDiff,ru];refine gp h62 rfl ?_;simp -dsimp(disch:=omega) only[reduceAdd,reduceLT,reduceLeDiff,ru];refine rpq rfl ⟨⟨rfl,qp 3⟩,tvq⟩ rfl
theorem den58 (r1 r2:Raw) (hr1:r1.Ok 1000000000) (hr2:r2.Ok 1000000000):Den Tryz.prog 64 [] [r1.v,r2.v] [] (FR (r1.q - r2.q)):=by
 have h44:=den44 r2 (hr2.mono (by decide));have b2:=hr2.bd (by decide);have h31:=den31 r1 (cn (-r2.q)) hr1 (cn_ok b2.neg);rw[cn_q,<-Rat.sub_eq_add_neg] at h31;change Den Tryz.prog 67 [] [r1.v,FR (-r2.q)] [] _ at h31;rw[FR_eq] at h44;rw[FR_eq,FR_eq] at h31;rw[FR_eq];unfold Raw.v at h44 h31 ⊢;refine den_of tabOk mixed Tryz.func64 (cd:=_) rfl (by decide) rfl (n:=7) rfl rfl (m:=0) rfl ?_;simp -dsimp(disch:=omega) only[replicate,reduceAdd,reduceLT,ru];refine dw (by kernel_rfl) ?_;simp -dsimp(disch:=omega) only[↓reduceIte,reduceAdd,reduceLeDiff,ru];refine gp h44 rfl ?_;simp -dsimp(disch:=omega) only[rules,reduceAdd];refine gp h31 rfl ?_;simp -dsimp(disch:=omega) only[reduceAdd,reduceLT,reduceLeDiff,ru];refine rpq rfl ⟨⟨rfl,qp 3⟩,tvq⟩ rfl
theorem den24 (n:Int) (hn: -9223372036854775808<=n/\n<9223372036854775808):Den Tryz.prog 32 [] [.int .i64 n] [] (FR (n:Rat)):=by
 have l1:limbs 1=[1]:=limbs_val (l:=[1]) (fun d hd=>by simp at hd;subst hd;decide) (Or.inr (by decide));have hnum:((n:Int):Rat).num=n:=rfl;have hden:((n:Int):Rat).den=1:=rfl;rw[FR_eq,hnum,hden];unfold N;rw[l1];refine den_of tabOk mixed Tryz.func32 (cd:=_) rfl (by decide) rfl (n:=28) rfl rfl (m:=0) rfl ?_;simp -dsimp(disch:=omega) only[replicate,↓reduceIte,ru];refine bd_ ?_ ?_
 ·intro h1 h2;obtain⟨k,hk⟩: ∃ k:Nat,n=(k:Int):=⟨n.toNat,by omega⟩;have h55:=den55 k (by omega);rw[<-hk,Nr_val] at h55;rw[qcb (show¬n<0 by omega),show n.natAbs=k by omega];simp -dsimp(disch:=omega) only[h2,rules];refine gp h55 rfl ?_;simp -dsimp(disch:=omega) only[↓reduceIte,reduceAdd,reduceMul,reduceLT,reduceLeDiff,ru];refine rpq rfl ⟨⟨rfl,qp 3⟩,tvq⟩ rfl
 ·intro h1 h2;obtain⟨k,hk⟩: ∃ k:Nat,n= -((k:Int)+1):=⟨(-n - 1).toNat,by omega⟩;have h55:=den55 k (by omega);have hkl:(limbs k).length<=2:=limbs_length_le (Nat.lt_of_lt_of_le (show k<18446744073709551616 by omega) (by decide));have h56:=den56 (limbs k) [1] (limbs_dig _) (Dig.mk (by decide) Dig.nil) (by omega) (by simp);have hv1:val [1]=1:=rfl;rw[val_limbs,hv1,Nr_val] at h56;rw[Nr_val] at h55;rw[qbb (show n<0 by omega),show n.natAbs=k+1 by omega];have e1:0 - (n+1)=(k:Int):=by omega
  simp -dsimp(disch:=omega) only[h2,e1,↓reduceIte,ru];refine gp h55 rfl ?_;simp -dsimp(disch:=omega) only[↓reduceIte,reduceMul,reduceLT,reduceLeDiff,ru];refine gp h56 ?_ ?_
  ·rfl
  simp -dsimp(disch:=omega) only[↓reduceIte,reduceAdd,reduceMul,reduceLT,reduceLeDiff,ru];refine rpq rfl ⟨⟨rfl,qp 3⟩,tvq⟩ rfl
def sameR (r1 r2:Raw):Bool:=r1.neg==r2.neg&&(r1.num==r2.num&&r1.den==r2.den)
theorem sameR_cn (p q:Rat):sameR (cn p) (cn q)=decide (p=q):=by
 by_cases h:p=q
 ·subst h;simp[sameR]
 ·rw[qcb h];rcases hb:sameR (cn p) (cn q) with _ | _
  ·rfl
  ·exfalso;simp only[sameR,qtb,beq_iff_eq] at hb;apply h;rw[<-cn_q p,<-cn_q q];unfold Raw.q;rw[hb.1,hb.2.1,hb.2.2]
theorem den35 (r1 r2:Raw) (hr1:r1.Ok 5000000000) (hr2:r2.Ok 5000000000):Den Tryz.prog 62 [] [r1.v,r2.v] [] (.bool (sameR r1 r2)):=by
 have h1:=den65 r1.num r2.num (by have:=hr1.lnum;omega) (by have:=hr2.lnum;omega);have h2:=den65 r1.den r2.den (by have:=hr1.lden;omega) (by have:=hr2.lden;omega);unfold Raw.v sameR;obtain⟨b1,hb1⟩: ∃ b,(r1.num==r2.num)=b:=⟨_,rfl⟩;obtain⟨b2,hb2⟩: ∃ b,(r1.den==r2.den)=b:=⟨_,rfl⟩;obtain⟨b0,hb0⟩: ∃ b,(r1.neg==r2.neg)=b:=⟨_,rfl⟩;rw[hb1] at h1;rw[hb2] at h2;rw[hb0,hb1,hb2];cases b0
 ·refine den_of tabOk mixed Tryz.func62 (cd:=_) rfl (by decide) rfl (n:=22) rfl rfl (m:=0) rfl ?_;simp -dsimp(disch:=omega) only[replicate,hb0,↓reduceIte,reduceCtorEq,reduceAdd,reduceLT,reduceLeDiff,ru];refine rpq rfl ⟨tvq,tvq⟩ rfl
 ·cases b1
  ·refine den_of tabOk mixed Tryz.func62 (cd:=_) rfl (by decide) rfl (n:=22) rfl rfl (m:=0) rfl ?_;simp -dsimp(disch:=omega) only[replicate,hb0,↓reduceIte,reduceCtorEq,reduceAdd,reduceLT,reduceLeDiff,ru];refine gp h1 rfl ?_;simp -dsimp(disch:=omega) only[↓reduceIte,reduceAdd,ru];refine rpq rfl ⟨tvq,tvq⟩ rfl
  ·refine den_of tabOk mixed Tryz.func62 (cd:=_) rfl (by decide) rfl (n:=22) rfl rfl (m:=0) rfl ?_;simp -dsimp(disch:=omega) only[replicate,hb0,↓reduceIte,reduceCtorEq,reduceAdd,reduceLT,reduceLeDiff,ru];refine gp h1 rfl ?_;simp -dsimp(disch:=omega) only[↓reduceIte,reduceAdd,reduceLeDiff,ru];refine gp h2 rfl ?_;simp -dsimp(disch:=omega) only[↓reduceIte,reduceAdd,ru];refine rpq rfl ⟨tvq,tvq⟩ rfl
theorem rat_div_int (p q:Int) (hq:q≠0):mkq (decide (p<0) !=decide (q<0)) p.natAbs q.natAbs=(p:Rat) / (q:Rat):=by
 have h:=mkq_div (s:=decide (p<0)) (t:=decide (q<0)) (a:=p.natAbs) (b:=1) (c:=q.natAbs) (d:=1) (by omega) (by decide);rw[Nat.mul_one,Nat.one_mul,mkq_int,mkq_int] at h;exact h.symm
theorem den59 (p q:Int) (hp: -9223372036854775808<=p/\p<9223372036854775808) (hq: -9223372036854775808<=q/\q<9223372036854775808) (h0:q≠0):Den Tryz.prog 111 [] [.int .i64 p,.int .i64 q] [] (.tup [FR ((p:Rat) / (q:Rat)),.int .i64 0]):=by
 have ha:=den24 p hp;have hb:=den24 q hq;have np:((p:Int):Rat).num=p:=rfl;have nq:((q:Int):Rat).num=q:=rfl;have hlp:(limbs p.natAbs).length<=2:=limbs_length_le (Nat.lt_of_lt_of_le (show p.natAbs<18446744073709551616 by omega) (by decide));have hlq:(limbs q.natAbs).length<=2:=limbs_length_le (Nat.lt_of_lt_of_le (show q.natAbs<18446744073709551616 by omega) (by decide));have h62:=den62 (decide (p<0) !=decide (q<0)) (limbs p.natAbs) (limbs q.natAbs) (limbs_dig _) (limbs_dig _) (by omega) (by omega) (by rw[val_limbs];omega);rw[val_limbs,val_limbs,rat_div_int p q h0] at h62;rw[FR_eq] at ha hb h62 ⊢;rw[np,Nr_val] at ha;rw[nq,Nr_val] at hb;have hz:(q==0)=false:=by rw[qx];exact h0
 refine den_of tabOk mixed Tryz.func111 (cd:=_) rfl (by decide) rfl (n:=23) rfl rfl (m:=0) rfl ?_;simp -dsimp(disch:=omega) only[replicate,hz,↓reduceIte,ru];refine gp ha rfl ?_;simp -dsimp(disch:=omega) only[rules];refine gp hb rfl ?_;simp -dsimp(disch:=omega) only[↓reduceIte,reduceCtorEq,reduceAdd,reduceLT,reduceLeDiff,ru];refine gp h62 rfl ?_;simp -dsimp(disch:=omega) only[reduceAdd,reduceLT,reduceLeDiff,ru];refine rpq rfl ⟨⟨rfl,qp 3⟩,tvq,tvq⟩ rfl
end Go.Proofs.YtjjbkjgifdhlcaaGreat
namespace Go.Pl
open Go.AM
def Raw.c (r:Raw):List PV:=[.bool r.neg,.fv (.sl (u32s r.num)),.fv (.sl (u32s r.den))]
def Raw.f (r:Raw):List FV:=[.lit (.bool r.neg),.sl (u32s r.num),.sl (u32s r.den)]
def flat:List Raw->List PV
 | []=>[]
 | r::rs=> .bool r.neg:: .fv (.sl (u32s r.num)):: .fv (.sl (u32s r.den))::flat rs
def flatF:List Raw->List FV
 | []=>[]
 | r::rs=> .lit (.bool r.neg):: .sl (u32s r.num):: .sl (u32s r.den)::flatF rs
def rz:Raw:=⟨false,[],[]⟩
theorem flat_length: ∀ rs:List Raw,(flat rs).length=3*rs.length
 | []=>rfl
 | r::rs=>by simp only[flat,length_cons,flat_length rs];omega
theorem flat_drop: ∀ (i:Nat) (rs:List Raw),(flat rs).drop (i*3)=flat (rs.drop i)
 | 0,rs=>by simp
 | i+1,[]=>by simp[flat]
 | i+1,r::rs=>by
  rw[Nat.add_mul,Nat.one_mul];show List.drop (i*3+2+1) _=_;simp only[flat,drop_succ_cons];exact flat_drop i rs
theorem flat_take: ∀ (i:Nat) (rs:List Raw),(flat rs).take (i*3)=flat (rs.take i)
 | 0,rs=>by simp[flat]
 | i+1,[]=>by simp[flat]
 | i+1,r::rs=>by
  rw[Nat.add_mul,Nat.one_mul];show List.take (i*3+2+1) _=_;simp only[flat,take_succ_cons];rw[flat_take i rs]
theorem flat_append: ∀ (a b:List Raw),flat (a++b)=flat a++flat b
 | [],_=>rfl
 | r::a,b=>by simp[flat,flat_append a b]
theorem flat_at {rs:List Raw} {i:Nat} (h:i<rs.length):List.take 3 (List.drop (i*3) (flat rs))=[.bool (rs.getD i rz).neg,.fv (.sl (u32s (rs.getD i rz).num)),.fv (.sl (u32s (rs.getD i rz).den))]:=by
 rw[flat_drop,drop_eq_getElem_cons h];simp only[flat,take_succ_cons,List.take_zero];rw[qa,qb h];rfl
theorem flat_set {rs:List Raw} {i:Nat} (h:i<rs.length) (s:Bool) (a b:List Nat):
 List.take (i*3) (flat rs)++[.bool s,.fv (.sl (u32s a)),.fv (.sl (u32s b))]++List.drop (i*3+3) (flat rs)=flat (rs.set i ⟨s,a,b⟩):=by
 have e:i*3+3=(i+1)*3:=by omega
 rw[e,flat_drop,flat_take,List.set_eq_take_append_cons_drop,if_pos h,flat_append]
 simp[flat]
theorem flat_fz (H:List Ob): ∀ rs:List Raw,fzs H (flat rs)=some (flatF rs)
 | []=>rfl
 | r::rs=>by
  simp only[flat,fzs,fz0,flat_fz H rs,flatF]
theorem flatF_groups: ∀ rs:List Raw,groups 3 rs.length (flatF rs)=rs.map Raw.f
 | []=>rfl
 | r::rs=>by
  simp only[flatF,length_cons,groups,take_succ_cons,List.take_zero,drop_succ_cons,List.drop_zero,map_cons];rw[flatF_groups rs];rfl
def mapTo (g:Raw->Raw) (i:Nat) (rs:List Raw):List Raw:=(rs.take i).map g++rs.drop i
theorem mapTo_length (g:Raw->Raw) (i:Nat) (rs:List Raw):(mapTo g i rs).length=rs.length:=by
 unfold mapTo;rw[qe,length_map,length_take,qt];omega
theorem mapTo_zero (g:Raw->Raw) (rs:List Raw):mapTo g 0 rs=rs:=by simp[mapTo]
theorem mapTo_all (g:Raw->Raw) {n:Nat} (rs:List Raw) (h:rs.length=n):mapTo g n rs=rs.map g:=by
 subst h;simp[mapTo]
theorem mapTo_getD (g:Raw->Raw) {i j:Nat} (rs:List Raw) (h:j<rs.length) (hi:i<=j):(mapTo g i rs).getD j rz=rs.getD j rz:=by
 unfold mapTo;rw[qa,qh (by rw[length_map,length_take];omega),List.getElem?_drop,qa];congr 2;rw[length_map,length_take];omega
theorem mapTo_set (g:Raw->Raw) {i:Nat} (rs:List Raw) (h:i<rs.length):(mapTo g i rs).set i (g (rs.getD i rz))=mapTo g (i+1) rs:=by
 unfold mapTo;rw[List.set_append_right _ _ (by rw[length_map,length_take];omega)];have e:i - ((rs.take i).map g).length=0:=by rw[length_map,length_take];omega
 rw[e,drop_eq_getElem_cons h,List.set_cons_zero,take_succ_eq_append_getElem h,qwb];simp[h]
def RL (rs:List Raw):PV:= .agg (flat rs)
def FL (qs:List Rat):PV:=RL (qs.map cn)
structure LOk (k:Nat) (rs:List Raw):Prop where
 len:rs.length=9
 ok: ∀ r∈rs,r.Ok k
theorem LOk.at {k:Nat} {rs:List Raw} (h:LOk k rs) (i:Nat):(rs.getD i rz).Ok k:=by
 by_cases hi:i<rs.length
 ·rw[qa,qb hi];exact h.ok _ (qqb hi)
 ·rw[qa,getElem?_eq_none (by omega)];exact⟨Dig.nil,Dig.nil,qsq _,qsq _⟩
theorem LOk.mono {j k:Nat} {rs:List Raw} (h:LOk j rs) (hk:j<=k):LOk k rs:=⟨h.len,fun r hr=>(h.ok r hr).mono hk⟩
theorem LOk.map {k:Nat} {rs:List Raw} {g:Raw->Rat} (h:rs.length=9) (hg: ∀ r∈rs,Bd k (g r)):LOk k ((rs.map g).map cn):=
 ⟨by simp[h],fun r hr=>by
  simp only[qq] at hr;obtain⟨q,⟨r',hr',rfl⟩,rfl⟩:=hr;exact cn_ok (hg r' hr')⟩
end Go.Pl
namespace Go.Proofs.YtjjbkjgifdhlcaaGreat
open Go.AM Go.Pl
theorem flatF_fv: ∀ rs:List Raw,(flatF rs).map PV.fv=flat rs
 | []=>rfl
 | r::rs=>by simp only[flatF,flat,map_cons,flatF_fv rs]
theorem flat_ids: ∀ rs:List Raw,(flat rs).flatMap ids0=[]
 | []=>rfl
 | r::rs=>by simp only[flat,List.flatMap_cons,ids0,nil_append,flat_ids rs]
theorem flat_reloc (f:Nat->Nat): ∀ rs:List Raw,(flat rs).map (reloc1 f)=flat rs
 | []=>rfl
 | r::rs=>by simp only[flat,map_cons,reloc1,flat_reloc f rs]
theorem flat_fzCs (H:List Ob) (keep:List Nat): ∀ rs:List Raw,fzCs H keep (flat rs)=some (flat rs)
 | []=>rfl
 | r::rs=>by simp only[flat,fzCs,fzC,fz1,fz0,Option.map_some,flat_fzCs H keep rs]
theorem flat_take27 {rs:List Raw} (h:rs.length=9):List.take 27 (flat rs)=flat rs:=
 qdq (by rw[flat_length];omega)
theorem le_flat (ids:List Nat): ∀ rs:List Raw,le1s ids (flat rs) (flat rs)
 | []=>by simp[flat,le1s]
 | r::rs=>by simp[flat,le1s,le1,le_flat ids rs]
def mapFp:Option (List FV)->Option (List FV)
 | some x=>some [.fp x]
 | none=>none
def boxOf:Option Ob->Option (List PV)
 | some (.box _ cs)=>some cs
 | _=>none
theorem fz1s_nil' (H:List Ob):fz1s H []=some []:=rfl
theorem fz1s_box (H:List Ob) (id:Nat):fz1s H [.ptr id 0 0]=match boxOf (H[id]?) with | some cs=>mapFp (fzs H cs) | none=>none:=by
 simp only[fz1s,fz1];cases h:H[id]? with
 | none=>rfl
 | some o=>cases o with
  | box w cs=>
   simp only[boxOf];cases fzs H cs<;>rfl
  | row w xs=>rfl
  | dead=>rfl
  | tab n es=>rfl
theorem boxOf_box (w:Bool) (cs:List PV):boxOf (some (.box w cs))=some cs:=rfl
theorem mapFp_some (x:List FV):mapFp (some x)=some [.fp x]:=rfl
def hole (rs:List Raw) (v:Nat):List PV:=List.take (v*3) (flat rs)++[.bool false,.nilsl,.nilsl]++List.drop (v*3+3) (flat rs)
theorem hole_succ (r:Raw) (rs:List Raw) (v:Nat):hole (r::rs) (v+1)= .bool r.neg:: .fv (.sl (u32s r.num)):: .fv (.sl (u32s r.den))::hole rs v:=by
 unfold hole;have e1:(v+1)*3=v*3+2+1:=by omega
 have e2:(v+1)*3+3=(v*3+3)+2+1:=by omega
 rw[e2,e1];simp only[flat,take_succ_cons,drop_succ_cons,List.cons_append]
theorem fzs_hole (H:List Ob): ∀ (v:Nat) (rs:List Raw),v<rs.length->fzs H (hole rs v)=some (flatF (rs.set v rz))
 | 0,r::rs,_=>by
  have h:=flat_fz H rs;simp[hole,flat,flatF,fzs,fz0,h,rz,u32s]
 | v+1,r::rs,h=>by
  rw[hole_succ];have h2:=fzs_hole H v rs (by simpa using h);simp only[fzs,fz0,h2,List.set_cons_succ,flatF]
 | _,[],h=>by simp at h
theorem ids_hole: ∀ (v:Nat) (rs:List Raw),v<rs.length->(hole rs v).flatMap ids0=[]
 | 0,r::rs,_=>by
  have h:=flat_ids rs;simp only[hole,flat,Nat.zero_mul,List.take_zero,nil_append,Nat.zero_add,drop_succ_cons,List.drop_zero,List.cons_append,List.flatMap_cons,ids0,h]
 | v+1,r::rs,h=>by
  rw[hole_succ];have h2:=ids_hole v rs (by simpa using h);simp only[List.flatMap_cons,ids0,h2,nil_append]
 | _,[],h=>by simp at h
theorem hole_length {rs:List Raw} {v:Nat} (h:v<rs.length) (hl:rs.length=9):(hole rs v).length=27:=by
 have:=flat_length rs;unfold hole;simp only[qe,length_take,qt,length_cons,length_nil];omega
def zcells:Nat->List PV
 | 0=>[]
 | n+1=> .bool false:: .nilsl:: .nilsl::zcells n
theorem zcells_drop:List.drop 27 (zcells 9)=[]:=rfl
theorem zcells_length:(zcells 9).length=27:=rfl
abbrev zu:=qy @flat_ids (qy @flat_reloc (qy @flat_fz (qy @zcells_drop (qy @zcells_length (qy @fz1s_nil' (qy @fz1s_box (qy @boxOf_box (qy @mapFp_some (@append_nil.{0})))))))))
theorem RetOK.form {st:St} {a id:Nat} {w:Bool} {rs:List Raw} (ha:st.get a= .ptr id 0 0) (hb:st.heap[id]?=some (.box w (flat rs))) (hl:rs.length=9):RetOK tab [.cell a 30] 0 st [] (RL rs):=by
 refine rpq (vs:=[.agg (flat rs)]) (cd:=(0=0/\0+27<=(flat rs).length)/\True) ?_ ⟨⟨rfl,by rw[flat_length];omega⟩,tvq⟩ ?_
 ·simp[resVs,resV1,ha,at30,cellsAt,hb,oneOr,flat_take27 hl,TyI.isAgg]
 ·simp[oneRes,fzX,fzV,flat_fzCs,RL]
theorem RetOK.form3 {st:St} {a id x y:Nat} {w:Bool} {rs:List Raw} {v u:FV} (ha:st.get a= .ptr id 0 0) (hb:st.heap[id]?=some (.box w (flat rs))) (hl:rs.length=9) (hx:st.get x= .fv v) (hy:st.get y= .fv u):
 RetOK tab [.cell a 30,.tmp x,.tmp y] 0 st [] (.tup [RL rs,.fv v,.fv u]):=by
 refine rpq (vs:=[.agg (flat rs),.fv v,.fv u]) (cd:=(0=0/\0+27<=(flat rs).length)/\True/\True/\True) ?_ ⟨⟨rfl,by rw[flat_length];omega⟩,tvq,tvq,tvq⟩ ?_
 ·simp[resVs,resV1,ha,at30,cellsAt,hb,oneOr,flat_take27 hl,TyI.isAgg,hx,hy]
 ·simp[oneRes,fzX,fzVs,fzV,flat_fzCs,RL,fzC,fz1,fz0]
set_option maxRecDepth 100000
set_option maxHeartbeats 2000000
theorem den70 (r:Raw):Den Tryz.prog 104 [] [r.v] [] (.bool ((r.num.length:Int)==0)):=by
 unfold Raw.v;refine den_of tabOk mixed Tryz.func104 (cd:=_) rfl (by decide) rfl (n:=6) rfl rfl (m:=0) rfl ?_;simp -dsimp(disch:=omega) only[replicate,↓reduceIte,reduceAdd,reduceLT,reduceLeDiff,ru];refine rpq rfl ⟨tvq,tvq⟩ rfl
theorem none_q {r:Raw} (h:(r.num.length:Int)=0):r.q=0:=by
 have:r.num=[]:=List.length_eq_zero_iff.1 (by omega);unfold Raw.q;rw[this];exact mkq_num0 rfl
theorem den46 (rs:List Raw) (c:Raw) (hrs:LOk 2000000000 rs) (hc:c.Ok 2000000000):Den Tryz.prog 108 [] [RL rs,c.v] [] (FL (rs.map (fun r=>r.q*c.q))):=by
 have hlen:=hrs.len;have hfl:=flat_length rs;have h24:=den24 0 (by decide);rw[show((0:Int):Rat)=0 from rfl,FR_eq,N_val,N_val] at h24;obtain⟨g,hg⟩: ∃ g:Raw->Raw,g=fun r=>cn (r.q*c.q):=⟨_,rfl⟩
 have hgm:(rs.map (fun r=>r.q*c.q)).map cn=rs.map g:=by rw[hg,List.map_map];rfl
 unfold FL RL Raw.v;rw[hgm];refine den_of tabOk mixed Tryz.func108 (cd:=_) rfl (by decide) rfl (n:=32) rfl rfl (m:=0) rfl ?_;simp -dsimp(disch:=omega) only[replicate,reduceAdd,reduceLT,ru];refine⟨by omega,?_⟩;refine wl (α:=Nat) (fun i=>⟨[.any,.any,.ptr 0 0 0,.ptr 1 0 0,.ptr 2 0 0,.int .i64 i]++replicate 28 .any,[.box true (flat (mapTo g i rs)),.box true [.bool c.neg,.fv (.sl (u32s c.num)),.fv (.sl (u32s c.den))],.box true (zcells 9)]⟩)
  (fun i=>8 - i) (fun i=>i<=8) 0 ?_ ?_ ?_
 ·refine wk [0,1,2] (by simp) rfl ?_ ?_
  ·simp[leVs,leV,le1]
  ·simp[leH,leO,le1s,le1,le_flat,mapTo_zero,zcells]
 ·exact qsq _
 ·rintro i hi;have hml:=mapTo_length g i rs;have hfm:=flat_length (mapTo g i rs);simp -dsimp(disch:=omega) only[replicate,↓reduceIte,ru];refine bd_ ?_ ?_
  ·intro h1 h2;have hat:=flat_at (rs:=mapTo g i rs) (i:=i) (by omega);rw[mapTo_getD g rs (by omega) (qp _)] at hat;have hst:=mapTo_set g rs (i:=i) (by omega);obtain⟨r,hr⟩:=ex1 (rs.getD i rz);have hok:r.Ok 2000000000:=by rw[<-hr];exact hrs.at i
   rw[hr] at hat hst;have h70:=den70 r;unfold Raw.v at h70;simp -dsimp(disch:=omega) only[h2,hat,↓reduceIte,reduceLT,ru];refine⟨by omega,by omega,?_⟩;refine gp h70 rfl ?_;simp -dsimp(disch:=omega) only[rules,reduceAdd];refine Br.beqInt ?_ ?_
   ·intro h3 h4;have hset:=flat_set (rs:=mapTo g i rs) (i:=i) (by omega) (decide ((0:Rat).num<0)) (limbs (0:Rat).num.natAbs) (limbs (0:Rat).den);have hgr:g r=⟨decide ((0:Rat).num<0),limbs (0:Rat).num.natAbs,limbs (0:Rat).den⟩:=by
     rw[hg];dsimp only;rw[none_q h3,Rat.zero_mul];rfl
    rw[<-hgr,hst] at hset;simp -dsimp(disch:=omega) only[h4,rules];refine gp h24 rfl ?_;simp -dsimp(disch:=omega) only[append_nil,hset,↓reduceIte,reduceAdd,reduceLT,ru]
    repeat refine qy (by omega) ?_
    refine ap (i+1) (by omega) ?_ (by omega);refine wk [0,1,2] (by simp) rfl ?_ ?_
    ·simp[leVs,leV,le1]
    ·simp[leH,leO,le1s,le1,le_flat,zcells]
   ·intro h3 h4;have h32:=den32 r c hok hc;have hgr:g r=⟨decide ((r.q*c.q).num<0),limbs (r.q*c.q).num.natAbs,limbs (r.q*c.q).den⟩:=by
     rw[hg];rfl
    have hset:=flat_set (rs:=mapTo g i rs) (i:=i) (by omega) (decide ((r.q*c.q).num<0)) (limbs (r.q*c.q).num.natAbs) (limbs (r.q*c.q).den);rw[<-hgr,hst] at hset;rw[FR_eq,N_val,N_val] at h32;unfold Raw.v at h32;simp -dsimp(disch:=omega) only[h4,rules];refine dw (by kernel_rfl) ?_;simp -dsimp(disch:=omega) only[hat,↓reduceIte,reduceAdd,reduceLT,reduceLeDiff,ru]
    repeat refine qy (by omega) ?_
    refine gp h32 rfl ?_;simp -dsimp(disch:=omega) only[append_nil,hset,↓reduceIte,reduceAdd,reduceLT,ru]
    repeat refine qy (by omega) ?_
    refine ap (i+1) (by omega) ?_ (by omega);refine wk [0,1,2] (by simp) rfl ?_ ?_
    ·simp[leVs,leV,le1]
    ·simp[leH,leO,le1s,le1,le_flat,zcells]
  ·intro h1 h2;have hi8:i=8:=by omega
   subst hi8;have hat:=flat_at (rs:=mapTo g 8 rs) (i:=8) (by omega);rw[mapTo_getD g rs (by omega) (qp _)] at hat;have hst:=mapTo_set g rs (i:=8) (by omega);have hall:=mapTo_all g rs hlen;obtain⟨r,hr⟩:=ex1 (rs.getD 8 rz);have hok:r.Ok 2000000000:=by rw[<-hr];exact hrs.at 8
   rw[hr] at hat hst;have h32:=den32 r c hok hc;have hgr:g r=⟨decide ((r.q*c.q).num<0),limbs (r.q*c.q).num.natAbs,limbs (r.q*c.q).den⟩:=by
    rw[hg];rfl
   have hset:=flat_set (rs:=mapTo g 8 rs) (i:=8) (by omega) (decide ((r.q*c.q).num<0)) (limbs (r.q*c.q).num.natAbs) (limbs (r.q*c.q).den);rw[<-hgr,hst,hall] at hset;rw[FR_eq,N_val,N_val] at h32;unfold Raw.v at h32;simp only[reduceMul,reduceAdd] at hat hset;have hgl:(rs.map g).length=9:=by simp[hlen]
   have h27:(flat (rs.map g)).length=27:=by rw[flat_length];omega
   have ht:=flat_take27 hgl;simp -dsimp(disch:=omega) only[h2,hat,↓reduceIte,reduceAdd,Nat.reduceBEq,reduceLeDiff,ru]
   repeat refine qy (by omega) ?_
   refine gp h32 rfl ?_;simp -dsimp(disch:=omega) only[hset,ht,h27,↓reduceIte,reduceAdd,reduceLT,reduceLeDiff,ru,zu]
   repeat refine qy (by omega) ?_
   exact RetOK.form rfl rfl hgl
theorem den71 (rs:List Raw) (hrs:LOk 2000000000 rs):Den Tryz.prog 191 [] [RL rs] [] (FL (rs.map Raw.q)):=by
 have hlen:=hrs.len;have hfl:=flat_length rs;have h24:=den24 0 (by decide);rw[show((0:Int):Rat)=0 from rfl,FR_eq,N_val,N_val] at h24;obtain⟨g,hg⟩: ∃ g:Raw->Raw,g=fun r=>cn r.q:=⟨_,rfl⟩
 have hgm:(rs.map Raw.q).map cn=rs.map g:=by rw[hg,List.map_map];rfl
 unfold FL RL;rw[hgm];refine den_of tabOk mixed Tryz.func191 (cd:=_) rfl (by decide) rfl (n:=29) rfl rfl (m:=0) rfl ?_;simp -dsimp(disch:=omega) only[replicate,reduceLT,ru];refine⟨by omega,?_⟩;refine wl (α:=Nat) (fun i=>⟨[.any,.ptr 0 0 0,.ptr 1 0 0,.int .i64 i]++replicate 26 .any,[.box true (flat (mapTo g i rs)),.box true (zcells 9)]⟩)
  (fun i=>8 - i) (fun i=>i<=8) 0 ?_ ?_ ?_
 ·refine wk [0,1] (by simp) rfl ?_ ?_
  ·simp[leVs,leV,le1]
  ·simp[leH,leO,le1s,le1,le_flat,mapTo_zero,zcells]
 ·exact qsq _
 ·rintro i hi;have hml:=mapTo_length g i rs;have hfm:=flat_length (mapTo g i rs);simp -dsimp(disch:=omega) only[replicate,↓reduceIte,ru];refine bd_ ?_ ?_
  ·intro h1 h2;have hat:=flat_at (rs:=mapTo g i rs) (i:=i) (by omega);rw[mapTo_getD g rs (by omega) (qp _)] at hat;have hst:=mapTo_set g rs (i:=i) (by omega);obtain⟨r,hr⟩:=ex1 (rs.getD i rz);have hok:r.Ok 2000000000:=by rw[<-hr];exact hrs.at i
   rw[hr] at hat hst;have h70:=den70 r;unfold Raw.v at h70;simp -dsimp(disch:=omega) only[h2,hat,↓reduceIte,reduceLT,ru];refine⟨by omega,by omega,?_⟩;refine gp h70 rfl ?_;simp -dsimp(disch:=omega) only[rules,reduceAdd];refine Br.beqInt ?_ ?_
   ·intro h3 h4;have hset:=flat_set (rs:=mapTo g i rs) (i:=i) (by omega) (decide ((0:Rat).num<0)) (limbs (0:Rat).num.natAbs) (limbs (0:Rat).den);have hgr:g r=⟨decide ((0:Rat).num<0),limbs (0:Rat).num.natAbs,limbs (0:Rat).den⟩:=by
     rw[hg];dsimp only;rw[none_q h3];rfl
    rw[<-hgr,hst] at hset;simp -dsimp(disch:=omega) only[h4,rules];refine gp h24 rfl ?_;simp -dsimp(disch:=omega) only[append_nil,hset,↓reduceIte,reduceAdd,reduceLT,ru]
    repeat refine qy (by omega) ?_
    refine ap (i+1) (by omega) ?_ (by omega);refine wk [0,1] (by simp) rfl ?_ ?_
    ·simp[leVs,leV,le1]
    ·simp[leH,leO,le1s,le1,le_flat,zcells]
   ·intro h3 h4;have h57:=den57 r (hok.mono (by decide));have hgr:g r=⟨decide (r.q.num<0),limbs r.q.num.natAbs,limbs r.q.den⟩:=by
     rw[hg];rfl
    have hset:=flat_set (rs:=mapTo g i rs) (i:=i) (by omega) (decide (r.q.num<0)) (limbs r.q.num.natAbs) (limbs r.q.den);rw[<-hgr,hst] at hset;rw[FR_eq,N_val,N_val] at h57;unfold Raw.v at h57;simp -dsimp(disch:=omega) only[h4,hat,↓reduceIte,reduceLT,ru]
    repeat refine qy (by omega) ?_
    refine gp h57 rfl ?_;simp -dsimp(disch:=omega) only[append_nil,hset,↓reduceIte,reduceAdd,reduceLT,ru]
    repeat refine qy (by omega) ?_
    refine ap (i+1) (by omega) ?_ (by omega);refine wk [0,1] (by simp) rfl ?_ ?_
    ·simp[leVs,leV,le1]
    ·simp[leH,leO,le1s,le1,le_flat,zcells]
  ·intro h1 h2;have hi8:i=8:=by omega
   subst hi8;have hat:=flat_at (rs:=mapTo g 8 rs) (i:=8) (by omega);rw[mapTo_getD g rs (by omega) (qp _)] at hat;have hst:=mapTo_set g rs (i:=8) (by omega);have hall:=mapTo_all g rs hlen;obtain⟨r,hr⟩:=ex1 (rs.getD 8 rz);have hok:r.Ok 2000000000:=by rw[<-hr];exact hrs.at 8
   rw[hr] at hat hst;have h57:=den57 r (hok.mono (by decide));have hgr:g r=⟨decide (r.q.num<0),limbs r.q.num.natAbs,limbs r.q.den⟩:=by
    rw[hg];rfl
   have hset:=flat_set (rs:=mapTo g 8 rs) (i:=8) (by omega) (decide (r.q.num<0)) (limbs r.q.num.natAbs) (limbs r.q.den);rw[<-hgr,hst,hall] at hset;rw[FR_eq,N_val,N_val] at h57;unfold Raw.v at h57;simp only[reduceMul,reduceAdd] at hat hset;have hgl:(rs.map g).length=9:=by simp[hlen]
   have h27:(flat (rs.map g)).length=27:=by rw[flat_length];omega
   have ht:=flat_take27 hgl;simp -dsimp(disch:=omega) only[h2,hat,↓reduceIte,reduceAdd,Nat.reduceBEq,ru]
   repeat refine qy (by omega) ?_
   refine gp h57 rfl ?_;simp -dsimp(disch:=omega) only[hset,ht,h27,↓reduceIte,reduceAdd,reduceLT,reduceLeDiff,ru,zu]
   repeat refine qy (by omega) ?_
   exact RetOK.form rfl rfl hgl
theorem rz_ok {k:Nat}:rz.Ok k:=⟨Dig.nil,Dig.nil,qsq _,qsq _⟩
theorem rz_q:rz.q=0:=mkq_num0 rfl
theorem zeros_ok {k:Nat}:LOk k (replicate 9 rz):=⟨rfl,fun r hr=>by rw[List.eq_of_mem_replicate hr];exact rz_ok⟩
theorem den43:Den Tryz.prog 154 [] [] [] (FL (replicate 9 0)):=by
 have h71:=den71 (replicate 9 rz) zeros_ok;have e:(replicate 9 rz).map Raw.q=replicate 9 0:=by rw[List.map_replicate,rz_q]
 rw[e] at h71;unfold FL RL at h71 ⊢;obtain⟨zs,hz⟩:=ex1 ((replicate 9 (0:Rat)).map cn);have hzl:zs.length=9:=by rw[<-hz];simp
 rw[hz] at h71 ⊢;have h27:(flat zs).length=27:=by rw[flat_length];omega
 refine den_of tabOk mixed Tryz.func154 (cd:=_) rfl (by decide) rfl (n:=3) rfl rfl (m:=0) rfl ?_;simp -dsimp(disch:=omega) only[replicate,ru];refine gp h71 rfl ?_;simp -dsimp(disch:=omega) only[h27,reduceAdd,reduceLT,reduceLeDiff,ru,zu]
 repeat refine qy (by omega) ?_
 exact RetOK.form rfl rfl hzl
end Go.Proofs.YtjjbkjgifdhlcaaGreat
namespace Go.Pl
open Go.AM
def leadL:List Raw->Raw
 | []=>rz
 | [c]=>c
 | r::s::t=>if r.q=0 then leadL (s::t) else r
theorem leadL_drop {rs:List Raw} {i:Nat} (h:i+1<rs.length):leadL (rs.drop i)=if(rs.getD i rz).q=0 then leadL (rs.drop (i+1)) else rs.getD i rz:=by
 have h1:rs.drop i=rs.getD i rz::rs.drop (i+1):=by
  rw[drop_eq_getElem_cons (by omega)];rw[qa,qb (by omega)];rfl
 have h2:rs.drop (i+1)=rs[i+1]::rs.drop (i+2):=drop_eq_getElem_cons h;rw[h1,h2];rfl
theorem leadL_last {rs:List Raw} {i:Nat} (h:i+1=rs.length):leadL (rs.drop i)=rs.getD i rz:=by
 have h1:rs.drop i=rs.getD i rz::rs.drop (i+1):=by
  rw[drop_eq_getElem_cons (by omega)];rw[qa,qb (by omega)];rfl
 have h2:rs.drop (i+1)=[]:=List.drop_of_length_le (by omega);rw[h1,h2];rfl
theorem leadL_zero: ∀ {rs:List Raw},(leadL rs).q=0-> ∀ r∈rs,r.q=0
 | [],_,r,hr=>by simp at hr
 | [c],h,r,hr=>by
  simp at hr;subst hr;exact h
 | a::s::t,h,r,hr=>by
  unfold leadL at h;split at h
  ·rename_i h0;rcases List.mem_cons.1 hr with h1 | h1
   ·subst h1;exact h0
   ·exact leadL_zero h r h1
  ·rename_i h0;exact absurd h h0
theorem leadL_mem: ∀ {rs:List Raw},rs≠[]->leadL rs∈rs
 | [],h=>absurd rfl h
 | [c],_=>by simp[leadL]
 | a::s::t,_=>by
  unfold leadL;split
  ·exact ql _ (leadL_mem (by simp))
  ·simp
theorem sgq_eq_zero {q:Rat}:sgq q=0↔q=0:=by
 unfold sgq;rw[Int.sign_eq_zero_iff_zero];exact Rat.num_eq_zero
theorem rz_q':rz.q=0:=mkq_num0 rfl
def absq (c:Rat):Rat:=if c.num<0 then -c else c
def nrm (rs:List Raw):List Rat:=if(leadL rs).q=0 then replicate 9 0 else rs.map (fun r=>r.q / absq (leadL rs).q)
theorem absq_zero {c:Rat} (h:c≠0):absq c≠0:=by
 unfold absq;split
 ·intro h1;apply h;grind
 ·exact h
theorem nrm_zero {rs:List Raw} (h:(leadL rs).q=0):nrm rs=replicate 9 0:=if_pos h
theorem nrm_of {rs:List Raw} (h:(leadL rs).q≠0):nrm rs=rs.map (fun r=>r.q / absq (leadL rs).q):=if_neg h
theorem nrm_zeros {rs:List Raw} (h:(leadL rs).q=0) (hl:rs.length=9):nrm rs=rs.map Raw.q:=by
 rw[nrm_zero h];have h1:rs.map Raw.q=rs.map (fun _=>(0:Rat)):=List.map_congr_left (fun r hr=>leadL_zero h r hr);rw[h1,List.map_const',hl]
theorem sgq_one {c:Rat} (h0:c≠0) (h: ¬c.num<0):sgq c=1:=sgq_pos (fun h1=>h0 (Rat.num_eq_zero.1 (by omega))) h
def outTo (g:Raw->Raw) (i:Nat) (rs:List Raw):List Raw:=(rs.take i).map g++replicate (rs.length - i) rz
theorem outTo_length (g:Raw->Raw) {i:Nat} (rs:List Raw) (h:i<=rs.length):(outTo g i rs).length=rs.length:=by
 unfold outTo;rw[qe,length_map,length_take,qib];omega
theorem outTo_set (g:Raw->Raw) {i:Nat} (rs:List Raw) (h:i<rs.length):(outTo g i rs).set i (g (rs.getD i rz))=outTo g (i+1) rs:=by
 unfold outTo;rw[List.set_append_right _ _ (by rw[length_map,length_take];omega)];have e:i - ((rs.take i).map g).length=0:=by rw[length_map,length_take];omega
 have e2:rs.length - i=(rs.length - (i+1))+1:=by omega
 rw[e,e2,List.replicate_succ,List.set_cons_zero,take_succ_eq_append_getElem h,qwb];simp[h]
theorem outTo_all (g:Raw->Raw) {n:Nat} (rs:List Raw) (h:rs.length=n):outTo g n rs=rs.map g:=by
 subst h;simp[outTo]
theorem outTo_zero (g:Raw->Raw) (rs:List Raw):outTo g 0 rs=replicate rs.length rz:=by simp[outTo]
theorem map_f_getD {rs:List Raw} {i:Nat} (h:i<rs.length):(rs.map Raw.f).getD i []=[FV.lit (Value.bool (rs.getD i rz).neg),FV.sl (u32s (rs.getD i rz).num),FV.sl (u32s (rs.getD i rz).den)]:=by
 simp[h,Raw.f]
theorem map_f_last {rs:List Raw} {n:Nat} (h:rs.length=n+1):(rs.take n).map Raw.f++[[FV.lit (Value.bool (rs.getD n rz).neg),FV.sl (u32s (rs.getD n rz).num),FV.sl (u32s (rs.getD n rz).den)]]=rs.map Raw.f:=by
 have h1:rs.take (n+1)=rs:=qdq (by omega)
 conv=>rhs;rw[<-h1,take_succ_eq_append_getElem (by omega),qwb]
 simp[show n<rs.length by omega,Raw.f]
end Go.Pl
namespace Go.Proofs.YtjjbkjgifdhlcaaGreat
open Go.AM Go.Pl
set_option maxRecDepth 100000
set_option maxHeartbeats 2000000
theorem FL_len (qs:List Rat) (h:qs.length=9):(flat (qs.map cn)).length=27:=by rw[flat_length,length_map];omega
theorem getD_map_cn {p:List Rat} {i:Nat} (h:i<p.length):(p.map cn).getD i rz=cn (p.getD i 0):=by
 simp[h]
theorem den11 (p q:List Rat) (hp:p.length=9) (hq:q.length=9) (bp: ∀ x∈p,Bd 1000000000 x) (bq: ∀ x∈q,Bd 1000000000 x):Den Tryz.prog 151 [] [FL p,FL q] [] (.bool (decide (p=q))):=by
 have hlp:(p.map cn).length=9:=by simp[hp]
 have hlq:(q.map cn).length=9:=by simp[hq]
 have fp:=FL_len p hp;have fq:=FL_len q hq;have okp: ∀ i,i<9->(cn (p.getD i 0)).Ok 5000000000:=fun i hi=>by
  refine Raw.Ok.mono (cn_ok (bp _ ?_)) (by decide);rw[qa,qb (by omega)];exact qqb _
 have okq: ∀ i,i<9->(cn (q.getD i 0)).Ok 5000000000:=fun i hi=>by
  refine Raw.Ok.mono (cn_ok (bq _ ?_)) (by decide);rw[qa,qb (by omega)];exact qqb _
 unfold FL RL;refine den_of tabOk mixed Tryz.func151 (cd:=_) rfl (by decide) rfl (n:=23) rfl rfl (m:=0) rfl ?_;simp -dsimp(disch:=omega) only[replicate,reduceLT,ru];refine⟨by omega,by omega,?_⟩;refine wl (α:=Nat) (fun i=>⟨[.any,.any,.ptr 0 0 0,.ptr 1 0 0,.any,.int .i64 i]++replicate 19 .any,[.box true (flat (p.map cn)),.box true (flat (q.map cn))]⟩)
  (fun i=>8 - i) (fun i=>i<=8/\p.take i=q.take i) 0 ?_ ?_ ?_
 ·refine wk [0,1] (by simp) rfl ?_ ?_
  ·simp[leVs,leV,le1]
  ·simp[leH,leO,le_flat]
 ·exact⟨qsq _,rfl⟩
 ·rintro i ⟨hi,hpq⟩;have hat1:=flat_at (rs:=p.map cn) (i:=i) (by omega);have hat2:=flat_at (rs:=q.map cn) (i:=i) (by omega);rw[getD_map_cn (by omega)] at hat1 hat2;have h35:=den35 (cn (p.getD i 0)) (cn (q.getD i 0)) (okp i (by omega)) (okq i (by omega));rw[sameR_cn] at h35;have htk:p.getD i 0=q.getD i 0->p.take (i+1)=q.take (i+1):=fun h=>by
   rw[take_succ_eq_append_getElem (by omega),take_succ_eq_append_getElem (by omega),hpq];simp only[qa,qb (show i<p.length by omega),qb (show i<q.length by omega),Option.getD_some] at h;rw[h]
  have hne:p.getD i 0≠q.getD i 0->p≠q:=fun h h2=>h (by rw[h2])
  obtain⟨x,hx⟩:=ex1 (cn (p.getD i 0));obtain⟨y,hy⟩: ∃ x,cn (q.getD i 0)=x:=⟨_,rfl⟩;rw[hx] at hat1 h35;rw[hy] at hat2 h35;unfold Raw.v at h35;simp -dsimp(disch:=omega) only[replicate,↓reduceIte,ru];refine bd_ ?_ ?_
  ·intro h1 h2;simp -dsimp(disch:=omega) only[h2,rules];refine dw (by kernel_rfl) ?_;simp -dsimp(disch:=omega) only[hat1,hat2,↓reduceIte,reduceLT,ru]
   repeat refine qy (by omega) ?_
   refine gp h35 rfl ?_;by_cases he:p.getD i 0=q.getD i 0
   ·have hb:(!decide (p.getD i 0=q.getD i 0))=false:=by rw[qbb he];rfl
    simp -dsimp(disch:=omega) only[hb,↓reduceIte,reduceAdd,ru];refine ap (i+1) (by omega) ?_ ⟨by omega,htk he⟩;refine wk [0,1] (by simp) rfl ?_ ?_
    ·simp[leVs,leV,le1]
    ·simp[leH,leO,le_flat]
   ·have hb:(!decide (p.getD i 0=q.getD i 0))=true:=by rw[qcb he];rfl
    rw[qcb (hne he)];simp -dsimp(disch:=omega) only[hb,reduceAdd,ru];refine rpq rfl ⟨tvq,tvq⟩ rfl
  ·intro h1 h2;have hi8:i=8:=by omega
   subst hi8;simp only[reduceMul] at hat1 hat2;simp -dsimp(disch:=omega) only[h2,hat1,hat2,↓reduceIte,reduceAdd,Nat.reduceBEq,ru]
   repeat refine qy (by omega) ?_
   refine gp h35 rfl ?_;simp -dsimp(disch:=omega) only[reduceAdd,ru];have hd:decide (p=q)=decide (p.getD 8 0=q.getD 8 0):=by
    by_cases he:p.getD 8 0=q.getD 8 0
    ·rw[qbb he];have h9:=htk he;rw[qdq (by omega),qdq (by omega)] at h9;exact qbb h9
    ·rw[qcb he,qcb (hne he)]
   rw[hd];refine rpq rfl ⟨tvq,tvq⟩ rfl
theorem den38a (rs:List Raw) (g:Raw->Rat) (hrs:rs.length=9)
 (hf: ∀ r∈rs,Den Tryz.prog 68 [] [r.v] [] (FR (g r))):Den Tryz.prog 133 [] [RL rs,.fv (.lit (.func (.func 68) #[] #[]))] [] (FL (rs.map g)):=by
 have hfl:=flat_length rs
 have hmem: ∀ i,i<9->rs.getD i rz∈rs:=fun i hi=>by
  rw[qa,qb (by omega)];exact qqb _
 obtain⟨g',hg'⟩: ∃ g':Raw->Raw,g'=fun r=>cn (g r):=⟨_,rfl⟩
 have hgm:(rs.map g).map cn=rs.map g':=by rw[hg',List.map_map];rfl
 have hz0:outTo g' 0 rs=replicate 9 rz:=by rw[outTo_zero,hrs]
 unfold FL RL
 rw[hgm]
 refine den_of tabOk mixed Tryz.func133 (cd:=_) rfl (by decide) rfl (n:=26) rfl rfl (m:=0) rfl ?_
 simp -dsimp(disch:=omega) only[replicate,reduceLT,ru]
 refine⟨by omega,?_⟩
 refine wl (α:=Nat) (fun i=>⟨[.any,.fv (.lit (.func (.func 68) #[] #[])),.ptr 0 0 0,.any,.ptr 1 0 0,.ptr 1 0 0,.any,.any,.int .i64 i]++replicate 19 .any,[.box true (flat rs),.box true (flat (outTo g' i rs))]⟩)
  (fun i=>8 - i) (fun i=>i<=8) 0 ?_ ?_ ?_
 ·refine wk [0,1] (by simp) rfl ?_ ?_
  ·simp[leVs,leV,le1]
  ·simp[leH,leO,le1s,le1,le_flat,hz0,replicate,flat,rz,u32s]
 ·exact qsq _
 ·rintro i hi
  have hol:=outTo_length g' rs (i:=i) (by omega)
  have hof:=flat_length (outTo g' i rs)
  have hat:=flat_at (rs:=rs) (i:=i) (by omega)
  have hst:=outTo_set g' rs (i:=i) (by omega)
  have hden:=hf _ (hmem i (by omega))
  obtain⟨r,hr⟩:=ex1 (rs.getD i rz)
  rw[hr] at hat hst hden
  have hgr:g' r=⟨decide ((g r).num<0),limbs (g r).num.natAbs,limbs (g r).den⟩:=by rw[hg'];rfl
  have hset:=flat_set (rs:=outTo g' i rs) (i:=i) (by omega) (decide ((g r).num<0)) (limbs (g r).num.natAbs) (limbs (g r).den)
  rw[<-hgr,hst] at hset
  rw[FR_eq,N_val,N_val] at hden
  unfold Raw.v at hden
  simp -dsimp(disch:=omega) only[replicate,↓reduceIte,ru]
  refine bd_ ?_ ?_
  ·intro h1 h2
   simp -dsimp(disch:=omega) only[h2,rules]
   refine dw (by kernel_rfl) ?_
   simp -dsimp(disch:=omega) only[hat,↓reduceIte,reduceLT,ru]
   repeat refine qy (by omega) ?_
   refine gp hden rfl ?_
   simp -dsimp(disch:=omega) only[append_nil,hset,↓reduceIte,reduceAdd,reduceLT,ru]
   repeat refine qy (by omega) ?_
   refine ap (i+1) (by omega) ?_ (by omega)
   refine wk [0,1] (by simp) rfl ?_ ?_
   ·simp[leVs,leV,le1]
   ·simp[leH,leO,le_flat]
  ·intro h1 h2
   have hi8:i=8:=by omega
   subst hi8
   rw[outTo_all g' (n:=8+1) rs hrs] at hset
   simp only[reduceMul,reduceAdd] at hat hset
   have hgl:(rs.map g').length=9:=by simp[hrs]
   have h27:(flat (rs.map g')).length=27:=by rw[flat_length];omega
   have hd27:List.drop 27 (flat (rs.map g'))=[]:=List.drop_of_length_le (by omega)
   simp -dsimp(disch:=omega) only[h2,hat,↓reduceIte,reduceAdd,Nat.reduceBEq,ru]
   repeat refine qy (by omega) ?_
   refine gp hden rfl ?_
   simp -dsimp(disch:=omega) only[append_nil,hset,h27,flat_take27 hgl,hd27,↓reduceIte,reduceAdd,reduceLT,reduceLeDiff,ru]
   repeat refine qy (by omega) ?_
   exact RetOK.form rfl rfl hgl
theorem den38b (rs:List Raw) (k:Nat) (x:FV) (g:Raw->Rat) (hrs:rs.length=9)
 (hf: ∀ r∈rs,Den Tryz.prog k [] [r.v,.fv x] [] (FR (g r))):Den Tryz.prog 133 [] [RL rs,.fv (.fn (.func k) [] [x])] [] (FL (rs.map g)):=by
 have hfl:=flat_length rs
 have hmem: ∀ i,i<9->rs.getD i rz∈rs:=fun i hi=>by
  rw[qa,qb (by omega)];exact qqb _
 obtain⟨g',hg'⟩: ∃ g':Raw->Raw,g'=fun r=>cn (g r):=⟨_,rfl⟩
 have hgm:(rs.map g).map cn=rs.map g':=by rw[hg',List.map_map];rfl
 have hz0:outTo g' 0 rs=replicate 9 rz:=by rw[outTo_zero,hrs]
 unfold FL RL
 rw[hgm]
 refine den_of tabOk mixed Tryz.func133 (cd:=_) rfl (by decide) rfl (n:=26) rfl rfl (m:=0) rfl ?_
 simp -dsimp(disch:=omega) only[replicate,reduceLT,ru]
 refine⟨by omega,?_⟩
 refine wl (α:=Nat) (fun i=>⟨[.any,.fv (.fn (.func k) [] [x]),.ptr 0 0 0,.any,.ptr 1 0 0,.ptr 1 0 0,.any,.any,.int .i64 i]++replicate 19 .any,[.box true (flat rs),.box true (flat (outTo g' i rs))]⟩)
  (fun i=>8 - i) (fun i=>i<=8) 0 ?_ ?_ ?_
 ·refine wk [0,1] (by simp) rfl ?_ ?_
  ·simp[leVs,leV,le1]
  ·simp[leH,leO,le1s,le1,le_flat,hz0,replicate,flat,rz,u32s]
 ·exact qsq _
 ·rintro i hi
  have hol:=outTo_length g' rs (i:=i) (by omega)
  have hof:=flat_length (outTo g' i rs)
  have hat:=flat_at (rs:=rs) (i:=i) (by omega)
  have hst:=outTo_set g' rs (i:=i) (by omega)
  have hden:=hf _ (hmem i (by omega))
  obtain⟨r,hr⟩:=ex1 (rs.getD i rz)
  rw[hr] at hat hst hden
  have hgr:g' r=⟨decide ((g r).num<0),limbs (g r).num.natAbs,limbs (g r).den⟩:=by rw[hg'];rfl
  have hset:=flat_set (rs:=outTo g' i rs) (i:=i) (by omega) (decide ((g r).num<0)) (limbs (g r).num.natAbs) (limbs (g r).den)
  rw[<-hgr,hst] at hset
  rw[FR_eq,N_val,N_val] at hden
  unfold Raw.v at hden
  simp -dsimp(disch:=omega) only[replicate,↓reduceIte,ru]
  refine bd_ ?_ ?_
  ·intro h1 h2
   simp -dsimp(disch:=omega) only[h2,rules]
   refine dw (by kernel_rfl) ?_
   simp -dsimp(disch:=omega) only[hat,↓reduceIte,reduceLT,ru]
   repeat refine qy (by omega) ?_
   refine gp hden rfl ?_
   simp -dsimp(disch:=omega) only[append_nil,hset,↓reduceIte,reduceAdd,reduceLT,ru]
   repeat refine qy (by omega) ?_
   refine ap (i+1) (by omega) ?_ (by omega)
   refine wk [0,1] (by simp) rfl ?_ ?_
   ·simp[leVs,leV,le1]
   ·simp[leH,leO,le_flat]
  ·intro h1 h2
   have hi8:i=8:=by omega
   subst hi8
   rw[outTo_all g' (n:=8+1) rs hrs] at hset
   simp only[reduceMul,reduceAdd] at hat hset
   have hgl:(rs.map g').length=9:=by simp[hrs]
   have h27:(flat (rs.map g')).length=27:=by rw[flat_length];omega
   have hd27:List.drop 27 (flat (rs.map g'))=[]:=List.drop_of_length_le (by omega)
   simp -dsimp(disch:=omega) only[h2,hat,↓reduceIte,reduceAdd,Nat.reduceBEq,ru]
   repeat refine qy (by omega) ?_
   refine gp hden rfl ?_
   simp -dsimp(disch:=omega) only[append_nil,hset,h27,flat_take27 hgl,hd27,↓reduceIte,reduceAdd,reduceLT,reduceLeDiff,ru]
   repeat refine qy (by omega) ?_
   exact RetOK.form rfl rfl hgl
set_option maxHeartbeats 4000000
theorem den53 (r c:Raw) (hr:r.Ok 2000000000) (hc:c.Ok 2000000000):Den Tryz.prog 184 [] [r.v,.fv (.fp c.f)] [] (FR (r.q*c.q)):=by
 have h:=den54 r c hr hc;rw[FR_eq] at h ⊢;unfold Raw.v at h ⊢;unfold Raw.f;refine den_of tabOk mixed Tryz.func184 (cd:=_) rfl (by decide) rfl (n:=5) rfl rfl (m:=0) rfl ?_;simp -dsimp(disch:=omega) only[replicate,↓reduceIte,reduceAdd,reduceLT,reduceLeDiff,ru];refine gp h rfl ?_;simp -dsimp(disch:=omega) only[reduceAdd,reduceLT,reduceLeDiff,ru];refine rpq rfl ⟨⟨rfl,qp 3⟩,tvq⟩ rfl
theorem den39 (r c:Raw) (hr:r.Ok 2000000000) (hc:c.Ok 2000000000) (h0:c.q≠0):Den Tryz.prog 134 [] [r.v,.fv (.fp c.f)] [] (FR (r.q / c.q)):=by
 have h:=den40 r c hr hc h0;rw[FR_eq] at h ⊢;unfold Raw.v at h ⊢;unfold Raw.f;refine den_of tabOk mixed Tryz.func134 (cd:=_) rfl (by decide) rfl (n:=11) rfl rfl (m:=0) rfl ?_;simp -dsimp(disch:=omega) only[replicate,↓reduceIte,reduceAdd,reduceLT,reduceLeDiff,ru];refine gp h rfl ?_;simp -dsimp(disch:=omega) only[↓reduceIte,reduceAdd,reduceLT,reduceLeDiff,ru];refine rpq rfl ⟨⟨rfl,qp 3⟩,tvq⟩ rfl
theorem den23 (rs:List Raw) (c:Raw) (hrs:LOk 2000000000 rs) (hc:c.Ok 2000000000):Den Tryz.prog 135 [] [RL rs,c.v] [] (FL (rs.map (fun r=>r.q*c.q))):=by
 have hlen:=hrs.len;have hfl:=flat_length rs;have h38:=den38b rs 184 (.fp c.f) (fun r=>r.q*c.q) hlen (fun r hr=>den53 r c (hrs.ok r hr) hc);unfold FL RL at h38 ⊢;unfold Raw.f at h38;obtain⟨zs,hz⟩:=ex1 ((rs.map (fun r=>r.q*c.q)).map cn);have hzl:zs.length=9:=by rw[<-hz];simp[hlen]
 have h27:(flat zs).length=27:=by rw[flat_length];omega
 rw[hz] at h38 ⊢;unfold Raw.v;refine den_of tabOk mixed Tryz.func135 (cd:=_) rfl (by decide) rfl (n:=6) rfl rfl (m:=0) rfl ?_;simp -dsimp(disch:=omega) only[replicate,flat_take27 hlen,↓reduceIte,reduceAdd,reduceLT,ru,zu];refine⟨by omega,by omega,?_⟩;refine gp h38 (by simp[fzAs,fzA,flat_fz,flatF_fv,fz1,fz0]) ?_;simp -dsimp(disch:=omega) only[h27,reduceAdd,reduceLT,reduceLeDiff,ru,zu];exact RetOK.form rfl rfl hzl
theorem den12 (rs:List Raw) (hrs:LOk 1000 rs):Den Tryz.prog 71 [] [RL rs] [] (FL (nrm rs)):=by
 have hlen:=hrs.len;have hfl:=flat_length rs;unfold RL;refine den_of tabOk mixed Tryz.func71 (cd:=_) rfl (by decide) rfl (n:=30) rfl rfl (m:=0) rfl ?_;simp -dsimp(disch:=omega) only[replicate,reduceLT,ru];have htk:List.take 24 (flat rs)=flat (rs.take 8):=flat_take 8 rs
 have hcl:[List.take 3 (flatF (rs.take 8)),List.take 3 (List.drop 3 (flatF (rs.take 8))),List.take 3 (List.drop 3 (List.drop 3 (flatF (rs.take 8)))),List.take 3 (List.drop 3 (List.drop 3 (List.drop 3 (flatF (rs.take 8))))),List.take 3 (List.drop 3 (List.drop 3 (List.drop 3 (List.drop 3 (flatF (rs.take 8)))))),List.take 3 (List.drop 3 (List.drop 3 (List.drop 3 (List.drop 3 (List.drop 3 (flatF (rs.take 8))))))),List.take 3 (List.drop 3 (List.drop 3 (List.drop 3 (List.drop 3 (List.drop 3 (List.drop 3 (flatF (rs.take 8)))))))),List.take 3 (List.drop 3 (List.drop 3 (List.drop 3 (List.drop 3 (List.drop 3 (List.drop 3 (List.drop 3 (flatF (rs.take 8)))))))))]=(rs.take 8).map Raw.f:=by
  have h:=flatF_groups (rs.take 8);rw[length_take,hlen] at h;exact h
 have hat8:=flat_at (rs:=rs) (i:=8) (by omega);simp only[reduceMul] at hat8;have hx8:(rs.take 8).map Raw.f++[[FV.lit (Value.bool (rs.getD 8 rz).neg),FV.sl (u32s (rs.getD 8 rz).num),FV.sl (u32s (rs.getD 8 rz).den)]]=rs.map Raw.f:=map_f_last hlen;have htk8:List.take 8 ((rs.take 8).map Raw.f)=(rs.take 8).map Raw.f:=qdq (by simp;omega);have hlk8:((rs.take 8).map Raw.f).length=8:=by simp[hlen]
 have h3s: ∀ y∈(rs.take 8).map Raw.f,y.length=3:=by
  intro y hy;simp only[qq] at hy;obtain⟨r,_,rfl⟩:=hy;rfl
 refine⟨by omega,?_⟩;refine Draw.freeze [0] (by kernel_rfl) ?_;simp -dsimp(disch:=omega) only[htk,hcl,hat8,hx8,htk8,hlk8,Option.isSome_some,imp_self,Int.reduceToNat,↓reduceIte,reduceAdd,reduceMul,Nat.reduceSub,reduceLT,reduceLeDiff,ru,zu];have hlf:(rs.map Raw.f).length=9:=by simp[hlen]
 refine⟨by omega,by omega,h3s,?_⟩;refine wl (α:=Nat) (fun i=>⟨[.any,.ptr 0 0 0,.ptr 1 0 0,.any,.any,.any,.any,.any,.any,.any,.any,.lsl 2 0 9 3,.int .i64 9,.int .i64 i]++replicate 17 .any,[.box false (flat rs),.box true (zcells 9),.row true (rs.map Raw.f)]⟩)
  (fun i=>9 - i) (fun i=>i<=9/\(i<9->leadL (rs.drop i)=leadL rs)/\(i=9->(leadL rs).q=0)) 0 ?_ ?_ ?_
 ·refine wk [0,1,3] (by simp) rfl ?_ ?_
  ·simp[leVs,leV,le1]
  ·simp[leH,leO,le1s,le1,le_flat,zcells]
 ·exact⟨qsq _,fun _=>rfl,fun h=>by omega⟩
 ·rintro i ⟨hi,hle,hl9⟩;simp -dsimp(disch:=omega) only[replicate,↓reduceIte,ru];refine bd_ ?_ ?_
  ·intro h1 h2;have hmf:=map_f_getD (rs:=rs) (i:=i) (by omega);have hld:leadL (rs.drop i)=if(rs.getD i rz).q=0/\i<8 then leadL (rs.drop (i+1)) else rs.getD i rz:=by
    by_cases h8:i<8
    ·rw[leadL_drop (by omega)];simp[h8]
    ·rw[leadL_last (by omega)];simp[h8]
   rw[hle (by omega)] at hld;obtain⟨r,hr⟩:=ex1 (rs.getD i rz);have hok:r.Ok 1000:=by rw[<-hr];exact hrs.at i
   rw[hr] at hmf hld;have h36:=den36 r (hok.mono (by decide));have h37:=den37 r (hok.mono (by decide));have br:=hok.bd (by decide);have hl3:([FV.lit (Value.bool r.neg),FV.sl (u32s r.num),FV.sl (u32s r.den)]:List FV).length=3:=rfl;by_cases h0:r.q=0
   ·rw[sgq_eq_zero.2 h0] at h36;unfold Raw.v at h36;have hb:((0:Int) !=0)=false:=rfl;simp -dsimp(disch:=omega) only[append_nil,h2,hmf,hl3,↓reduceIte,reduceAdd,reduceLT,reduceLeDiff,ru]
    repeat refine qy (by omega) ?_
    refine gp h36 rfl ?_;simp -dsimp(disch:=omega) only[append_nil,hb,↓reduceIte,reduceAdd,ru];refine ap (i+1) (by omega) ?_ ⟨by omega,fun h9=>?_,fun h9=>?_⟩
    ·refine wk [0,1,2] (by simp) rfl ?_ ?_
     ·simp[leVs,leV,le1]
     ·simp[leH,leO,le1s,le1,le_flat,zcells]
    ·rw[if_pos ⟨h0,by omega⟩] at hld;exact hld.symm
    ·rw[if_neg (by omega)] at hld;rw[hld];exact h0
   ·rw[if_neg (fun h=>h0 h.1)] at hld;have hnr:=nrm_of (rs:=rs) (by rw[hld];exact h0);rw[hld] at hnr;rw[hnr];have hs0:(sgq r.q !=0)=true:=by rw[bne_iff_ne];exact fun h=>h0 (sgq_eq_zero.1 h)
    obtain⟨zs,hz⟩:=ex1 ((rs.map (fun x=>x.q / absq r.q)).map cn);have hzl:zs.length=9:=by rw[<-hz];simp[hlen]
    have h27:(flat zs).length=27:=by rw[flat_length];omega
    by_cases hneg:r.q.num<0
    ·have habs:absq r.q= -r.q:=if_pos hneg;have hn0:(cn (-r.q)).q≠0:=by rw[cn_q,<-habs];exact absq_zero h0
     have h38:=den38b rs 134 (.fp (cn (-r.q)).f) (fun x=>x.q / (cn (-r.q)).q) hlen (fun x hx=>den39 x (cn (-r.q)) ((hrs.ok x hx).mono (by decide)) (Raw.Ok.mono (cn_ok br.neg) (by decide)) hn0);rw[cn_q,<-habs] at h38;rw[habs] at h38;unfold FL RL at h38;rw[<-habs,hz] at h38;rw[habs] at h38;unfold Raw.f cn at h38;rw[sgq_neg hneg] at h36 hs0;rw[FR_eq,N_val,N_val] at h37;unfold Raw.v at h36 h37;have hs1:decide ((-1:Int)<0)=true:=rfl;unfold FL RL;rw[hz];simp -dsimp(disch:=omega) only[append_nil,h2,hmf,hl3,↓reduceIte,reduceAdd,reduceLT,reduceLeDiff,ru]
     repeat refine qy (by omega) ?_
     refine gp h36 rfl ?_;simp -dsimp(disch:=omega) only[append_nil,hs0,hs1,↓reduceIte,reduceAdd,reduceLeDiff,ru];refine gp h37 rfl ?_;simp -dsimp(disch:=omega) only[flat_take27 hlen,↓reduceIte,reduceAdd,reduceLT,reduceLeDiff,ru,zu]
     repeat refine qy (by omega) ?_
     refine gp h38 (by simp[fzAs,fzA,flat_fz,flatF_fv,fz1,fz0]) ?_;simp -dsimp(disch:=omega) only[h27,reduceAdd,reduceLT,reduceLeDiff,ru,zu]
     repeat refine qy (by omega) ?_
     exact RetOK.form rfl rfl hzl
    ·have habs:absq r.q=r.q:=if_neg hneg;have h38:=den38b rs 134 (.fp r.f) (fun x=>x.q / r.q) hlen (fun x hx=>den39 x r ((hrs.ok x hx).mono (by decide)) (hok.mono (by decide)) h0);rw[habs] at hz;unfold FL RL at h38;rw[hz] at h38;unfold Raw.f at h38;rw[sgq_one h0 hneg] at h36 hs0;unfold Raw.v at h36;have hs1:decide ((1:Int)<0)=false:=rfl;unfold FL RL;rw[habs,hz];simp -dsimp(disch:=omega) only[append_nil,h2,hmf,hl3,↓reduceIte,reduceAdd,reduceLT,reduceLeDiff,ru]
     repeat refine qy (by omega) ?_
     refine gp h36 rfl ?_;simp -dsimp(disch:=omega) only[hs0,hs1,flat_take27 hlen,↓reduceIte,reduceAdd,ru,zu]
     repeat refine qy (by omega) ?_
     refine gp h38 (by simp[fzAs,fzA,flat_fz,flatF_fv,fz1,fz0]) ?_;simp -dsimp(disch:=omega) only[h27,reduceAdd,reduceLT,reduceLeDiff,ru,zu]
     repeat refine qy (by omega) ?_
     exact RetOK.form rfl rfl hzl
  ·intro h1 h2;have hi9:i=9:=by omega
   subst hi9;have h38:=den38a rs Raw.q hlen (fun r hr=>den41 r ((hrs.ok r hr).mono (by decide)));rw[nrm_zeros (hl9 rfl) hlen];unfold FL RL at h38 ⊢;obtain⟨zs,hz⟩:=ex1 ((rs.map Raw.q).map cn);have hzl:zs.length=9:=by rw[<-hz];simp[hlen]
   have h27:(flat zs).length=27:=by rw[flat_length];omega
   rw[hz] at h38 ⊢;simp -dsimp(disch:=omega) only[h2,flat_take27 hlen,↓reduceIte,Nat.reduceBEq,ru]
   repeat refine qy (by omega) ?_
   refine gp h38 (by simp[fzAs,fzA,flat_fz,flatF_fv,fz1,fz0]) ?_;simp -dsimp(disch:=omega) only[h27,reduceAdd,reduceLT,reduceLeDiff,ru,zu]
   repeat refine qy (by omega) ?_
   exact RetOK.form rfl rfl hzl
theorem den16z (rs:List Raw) (v:Int) (hrs:rs.length=9) (hv:v<0\/8<=v):Den Tryz.prog 72 [] [RL rs,.int .i64 v] [] (.tup [RL (replicate 9 rz),.int .i64 0,.int .i64 1]):=by
 have hfl:=flat_length rs;unfold RL;by_cases h:v<0
 ·have h1:decide (v<0)=true:=qbb h;refine den_of tabOk mixed Tryz.func72 (cd:=_) rfl (by decide) rfl (n:=42) rfl rfl (m:=0) rfl ?_;simp -dsimp(disch:=omega) only[append_nil,replicate,h1,↓reduceIte,reduceAdd,reduceLT,reduceLeDiff,ru]
  repeat refine qy (by omega) ?_
  refine rpq rfl ⟨⟨rfl,qp 27⟩,tvq,tvq,tvq⟩ rfl
 ·have h1:decide (v<0)=false:=qcb h;have h2:decide (v>=8)=true:=qbb (by omega);refine den_of tabOk mixed Tryz.func72 (cd:=_) rfl (by decide) rfl (n:=42) rfl rfl (m:=0) rfl ?_;simp -dsimp(disch:=omega) only[append_nil,replicate,h1,h2,↓reduceIte,reduceAdd,reduceLT,reduceLeDiff,ru]
  repeat refine qy (by omega) ?_
  refine rpq rfl ⟨⟨rfl,qp 27⟩,tvq,tvq,tvq⟩ rfl
theorem den16n (rs:List Raw) (v:Nat) (hrs:LOk 1000 rs) (hv:v<8) (h0:(rs.getD v rz).q=0):Den Tryz.prog 72 [] [RL rs,.int .i64 v] [] (.tup [FL (rs.map Raw.q),.int .i64 0,.int .i64 0]):=by
 have hlen:=hrs.len;have hfl:=flat_length rs;have hok:=hrs.at v;have hat:=flat_at (rs:=rs) (i:=v) (by omega);have h36:=den36 (rs.getD v rz) (hok.mono (by decide));rw[sgq_eq_zero.2 h0] at h36;obtain⟨r,hr⟩:=ex1 (rs.getD v rz);rw[hr] at hat h36;unfold Raw.v at h36;have h38:=den38a rs Raw.q hlen (fun r hr=>den41 r ((hrs.ok r hr).mono (by decide)));unfold FL RL at h38 ⊢;obtain⟨zs,hz⟩:=ex1 ((rs.map Raw.q).map cn);have hzl:zs.length=9:=by rw[<-hz];simp[hlen]
 have h27:(flat zs).length=27:=by rw[flat_length];omega
 rw[hz] at h38 ⊢;have h1:decide ((v:Int)<0)=false:=qcb (by omega);have h2:decide ((v:Int)>=8)=false:=qcb (by omega);have e00:((0:Int)==0)=true:=rfl;refine den_of tabOk mixed Tryz.func72 (cd:=_) rfl (by decide) rfl (n:=42) rfl rfl (m:=0) rfl ?_;simp -dsimp(disch:=omega) only[replicate,h1,h2,hat,↓reduceIte,reduceLT,ru]
 repeat refine qy (by omega) ?_
 refine gp h36 rfl ?_;simp -dsimp(disch:=omega) only[append_nil,e00,flat_take27 hlen,↓reduceIte,reduceAdd,ru]
 repeat refine qy (by omega) ?_
 refine gp h38 (by simp[fzAs,fzA,flat_fz,flatF_fv,fz1,fz0]) ?_;simp -dsimp(disch:=omega) only[h27,reduceAdd,reduceLT,reduceLeDiff,ru,zu]
 repeat refine qy (by omega) ?_
 exact RetOK.form3 rfl rfl hzl rfl rfl
theorem set_ok {k:Nat} {rs:List Raw} (h:LOk k rs) (v:Nat):LOk k (rs.set v rz):=
 ⟨by simp[h.len],fun r hr=>by
  rcases List.mem_or_eq_of_mem_set hr with h1 | h1
  ·exact h.ok r h1
  ·rw[h1];exact rz_ok⟩
theorem den16 (rs:List Raw) (v:Nat) (hrs:LOk 1000 rs) (hv:v<8) (h0:(rs.getD v rz).q≠0):
 Den Tryz.prog 72 [] [RL rs,.int .i64 v] [] (.tup [FL ((rs.set v rz).map (fun r=>r.q*(-1 / (rs.getD v rz).q))),.int .i64 (sgq (rs.getD v rz).q),.int .i64 0]):=by
 have hlen:=hrs.len
 have hfl:=flat_length rs
 have hok:=hrs.at v
 have hat:=flat_at (rs:=rs) (i:=v) (by omega)
 have hfl27:(flat rs).length=27:=by omega
 obtain⟨X,hX⟩:=ex1 (List.take (v*3) (flat rs)++[.fv (.lit (.bool false)),.nilsl,.nilsl]++List.drop (v*3+3) (flat rs))
 have hXh:hole rs v=X:=hX
 have hXl:X.length=27:=by rw[<-hXh];exact hole_length (by omega) hlen
 have hXt:List.take 27 X=X:=qdq (by omega)
 have hXf: ∀ H,fzs H X=some (flatF (rs.set v rz)):=fun H=>by rw[<-hXh];exact fzs_hole H v rs (by omega)
 have hXi:X.flatMap ids0=[]:=by rw[<-hXh];exact ids_hole v rs (by omega)
 have h36:=den36 (rs.getD v rz) (hok.mono (by decide))
 obtain⟨r,hr⟩:=ex1 (rs.getD v rz)
 rw[hr] at hat h36 hok h0
 rw[hr]
 have hb1:Bd 1 (((-1:Int)):Rat):=⟨by decide,by decide⟩
 have h47:=den47 (-1) (by decide)
 have h40:=den40 (cn ((-1:Int):Rat)) r (Raw.Ok.mono (cn_ok hb1) (by decide)) (hok.mono (by decide)) h0
 rw[cn_q] at h40
 change Den Tryz.prog 73 [] [FR ((-1:Int):Rat),r.v] [] _ at h40
 have hrok:=set_ok hrs v
 have hbd:=hb1.div (hok.bd (by decide)) h0 (by decide)
 have h23:=den23 (rs.set v rz) (cn (((-1:Int):Rat) / r.q)) (hrok.mono (by decide)) (Raw.Ok.mono (cn_ok hbd) (by decide))
 rw[cn_q] at h23
 change Den Tryz.prog 135 [] [RL (rs.set v rz),FR (((-1:Int):Rat) / r.q)] [] _ at h23
 have e1:((-1:Int):Rat)= -1:=rfl
 rw[e1] at h23 h40 h47
 obtain⟨zs,hz⟩:=ex1 (((rs.set v rz).map (fun x=>x.q*(-1 / r.q))).map cn)
 have hzl:zs.length=9:=by rw[<-hz];simp[hlen]
 have h27:(flat zs).length=27:=by rw[flat_length];omega
 have hsl:(rs.set v rz).length=9:=hrok.len
 have hsf:=flat_length (rs.set v rz)
 unfold FL RL at h23 ⊢
 rw[hz] at h23 ⊢
 rw[FR_eq] at h47 h23
 rw[FR_eq,FR_eq] at h40
 unfold Raw.v at h36 h40
 have h1:decide ((v:Int)<0)=false:=qcb (by omega)
 have h2:decide ((v:Int)>=8)=false:=qcb (by omega)
 have hs0:(sgq r.q==0)=false:=by rw[qx];exact fun h=>h0 (sgq_eq_zero.1 h)
 refine den_of tabOk mixed Tryz.func72 (cd:=_) rfl (by decide) rfl (n:=42) rfl rfl (m:=0) rfl ?_
 simp -dsimp(disch:=omega) only[replicate,h1,h2,hat,↓reduceIte,reduceLT,ru]
 repeat refine qy (by omega) ?_
 refine gp h36 rfl ?_
 simp -dsimp(disch:=omega) only[append_nil,hs0,flat_take27 hlen,hfl27,hX,↓reduceIte,reduceAdd,reduceLT,reduceLeDiff,ru]
 repeat refine qy (by omega) ?_
 refine dw (by kernel_rfl) ?_
 simp -dsimp(disch:=omega) only[rules]
 refine gp h47 rfl ?_
 simp -dsimp(disch:=omega) only[append_nil,hat,↓reduceIte,reduceAdd,reduceLT,ru]
 repeat refine qy (by omega) ?_
 refine gp h40 rfl ?_
 simp -dsimp(disch:=omega) only[append_nil,hXt,hXl,↓reduceIte,reduceAdd,reduceLT,reduceLeDiff,ru]
 repeat refine qy (by omega) ?_
 refine gp h23 (by simp[fzAs,fzA,hXf,flatF_fv,fzs,fz0]) ?_
 simp -dsimp(disch:=omega) only[h27,hXi,reduceAdd,reduceLT,reduceLeDiff,ru,zu]
 repeat refine qy (by omega) ?_
 exact RetOK.form3 rfl rfl hzl rfl rfl
def ints (xs:List Int):List (List FV):=xs.map (fun n=>[FV.lit (Value.int .i64 n)])
theorem ints_length (xs:List Int):(ints xs).length=xs.length:=by simp[ints]
theorem ints_getD {xs:List Int} {i:Nat} (h:i<xs.length):(ints xs).getD i []=[FV.lit (Value.int .i64 (xs.getD i 0))]:=by
 simp[ints,h]
def S (xs:List Int) (a:Nat):Ob:= .box true [.fv (.sl (ints xs)),.int .i64 a,.int .i64 0]
def nx (xs:List Int) (a:Nat):Nat:=if a<xs.length then a+1 else a
theorem S_closed (xs:List Int) (a:Nat):(S xs a).closed:=by
 intro c hc;simp only[qhb,List.not_mem_nil,or_false] at hc;rcases hc with h | h | h<;>exact⟨_,h⟩
def W64 (xs:List Int):Prop:= ∀ x∈xs,-9223372036854775808<=x/\x<9223372036854775808
theorem W64.at {xs:List Int} (h:W64 xs) (a:Nat): -9223372036854775808<=xs.getD a 0/\xs.getD a 0<9223372036854775808:=by
 by_cases ha:a<xs.length
 ·rw[qa,qb ha];exact h _ (qqb ha)
 ·rw[qa,getElem?_eq_none (by omega)];simp
theorem sh1 (o:Ob) (l:List Ob):shutBs (o::l) 0 [.ptr 0 0 0]=o::l:=rfl
theorem sh2 (o:Ob) (l:List Ob) (v:FV):shutBs (o::l) 0 [.ptr 0 0 0,.fv v]=o::l:=rfl
theorem sh3 (o:Ob) (l:List Ob) (v u:FV):shutBs (o::l) 0 [.ptr 0 0 0,.fv v,.fv u]=o::l:=rfl
theorem tmod_emod (x:Int) (n:Int) (hn:0<n):(x.tmod n<0->x.tmod n+n=x % n)/\(¬x.tmod n<0->x.tmod n=x % n):=by
 have h1:=Int.mul_tdiv_add_tmod x n;have h2:=Int.tmod_lt_of_pos x hn;have h3:=Int.lt_tmod_of_pos x hn;have h4:x % n=x.tmod n % n:=by
  conv=>lhs;rw[<-h1]
  rw[Int.add_comm,Int.add_mul_emod_self_left]
 rw[h4];generalize x.tmod n=t at*;constructor
 ·intro h;rw[<-Int.add_emod_right,Int.emod_eq_of_lt (by omega) (by omega)]
 ·intro h;rw[Int.emod_eq_of_lt (by omega) (by omega)]
theorem den50 (xs:List Int) (a:Nat) (hl:xs.length<=1000) (ha:a<=xs.length):Den Tryz.prog 81 [S xs a] [.ptr 0 0 0] [S xs (nx xs a)] (.int .i64 (xs.getD a 0)):=by
 have hil:=ints_length xs;unfold S nx;by_cases h:a<xs.length
 ·have hg:=ints_getD h;have h1:decide ((a:Int)>=(xs.length:Int))=false:=qcb (by omega);have e1:((a:Int)+1 - 1)=(a:Int):=by omega
  have e2:(a:Int)+1=((a+1:Nat):Int):=by omega
  have e3:((a+1:Nat):Int) - 1=(a:Int):=by omega
  rw[if_pos h];refine den_of tabOk mixed Tryz.func81 (cd:=_) rfl (by decide) rfl (n:=30) rfl rfl (m:=1) rfl ?_;simp -dsimp(disch:=omega) only[replicate,rules];refine dw (by kernel_rfl) ?_;simp -dsimp(disch:=omega) only[hil,h1,↓reduceIte,reduceAdd,reduceLT,reduceLeDiff,ru];refine dw (by kernel_rfl) ?_;simp -dsimp(disch:=omega) only[hil,e2,e3,hg,↓reduceIte,reduceAdd,reduceLT,reduceLeDiff,ru];refine⟨by omega,?_⟩;refine rl_ rfl ⟨tvq,tvq⟩ rfl (S_closed xs (a+1)) rfl rfl rfl
 ·have h1:decide ((a:Int)>=(xs.length:Int))=true:=qbb (by omega);have h0:xs.getD a 0=0:=by rw[qa,getElem?_eq_none (by omega)];rfl
  rw[if_neg h,h0];refine den_of tabOk mixed Tryz.func81 (cd:=_) rfl (by decide) rfl (n:=30) rfl rfl (m:=1) rfl ?_;simp -dsimp(disch:=omega) only[replicate,rules];refine dw (by kernel_rfl) ?_;simp -dsimp(disch:=omega) only[hil,h1,↓reduceIte,reduceAdd,reduceLeDiff,ru];refine rl_ rfl ⟨tvq,tvq⟩ rfl (S_closed xs a) rfl rfl rfl
theorem den20 (xs:List Int) (a:Nat) (n:Nat) (hl:xs.length<=1000) (ha:a<=xs.length) (hw:W64 xs) (hn:1<=n) (hn2:n<1000000):Den Tryz.prog 31 [S xs a] [.ptr 0 0 0,.int .i64 n] [S xs (nx xs a)] (.int .i64 (xs.getD a 0 % n)):=by
 have h50:=den50 xs a hl ha;have hx:=hw.at a;obtain⟨x,hx2⟩:=ex1 (xs.getD a 0);rw[hx2] at h50 hx ⊢;have hc:=S_closed xs a;have h1:decide ((n:Int)<1)=false:=qcb (by omega);unfold S at h50 hc ⊢;refine den_of tabOk mixed Tryz.func31 (cd:=_) rfl (by decide) rfl (n:=16) rfl rfl (m:=1) rfl ?_;simp -dsimp(disch:=omega) only[replicate,h1,↓reduceIte,ru];refine gl_ 0 h50 rfl rfl hc rfl rfl rfl ?_;have htm:=tmod_emod x (n:Int) (by omega);have hb:=Int.lt_tmod_of_pos x (show(0:Int)<n by omega);simp -dsimp(disch:=omega) only[sh1,append_nil,↓reduceIte,ru];refine⟨by omega,bd_ ?_ ?_⟩
 ·intro h3 h4;rw[<-htm.1 h3];generalize x.tmod (n:Int)=t at*;simp -dsimp(disch:=omega) only[h4,↓reduceIte,ru];refine rl_ rfl ⟨tvq,tvq⟩ rfl (S_closed xs _) rfl rfl rfl
 ·intro h3 h4;rw[<-htm.2 h3];generalize x.tmod (n:Int)=t at*;simp -dsimp(disch:=omega) only[h4,ru];refine rl_ rfl ⟨tvq,tvq⟩ rfl (S_closed xs _) rfl rfl rfl
theorem nx_le {xs:List Int} {a:Nat} (h:a<=xs.length):nx xs a<=xs.length:=by unfold nx;split<;>omega
def nN (xs:List Int) (a n:Nat):Nat:=(xs.getD a 0 % n).toNat
theorem nN_cast {xs:List Int} {a n:Nat} (hn:1<=n):xs.getD a 0 % (n:Int)=(nN xs a n:Int):=by
 unfold nN;have:=Int.emod_nonneg (xs.getD a 0) (show(n:Int)≠0 by omega);omega
theorem nN_lt {xs:List Int} {a n:Nat} (hn:1<=n):nN xs a n<n:=by
 have h:=nN_cast (xs:=xs) (a:=a) hn;have:=Int.emod_lt_of_pos (xs.getD a 0) (show(0:Int)<n by omega);omega
theorem denN (xs:List Int) (a n:Nat) (hl:xs.length<=1000) (ha:a<=xs.length) (hw:W64 xs) (hn:1<=n) (hn2:n<1000000):Den Tryz.prog 31 [S xs a] [.ptr 0 0 0,.int .i64 n] [S xs (nx xs a)] (.int .i64 (nN xs a n)):=by
 have h:=den20 xs a n hl ha hw hn hn2;rw[nN_cast hn] at h;exact h
theorem den60 (xs:List Int) (a:Nat) (lo hi:Int) (n:Nat) (hl:xs.length<=1000) (ha:a<=xs.length) (hw:W64 xs) (hn:hi - lo+1=n) (hn1:1<=n) (hn2:n<1000000) (hlo: -1000000<lo) (hhi:lo<1000000):
 Den Tryz.prog 80 [S xs a] [.ptr 0 0 0,.int .i64 lo,.int .i64 hi] [S xs (nx xs a)] (.int .i64 (lo+nN xs a n)):=by
 have h:=denN xs a n hl ha hw hn1 hn2
 have hc:=S_closed xs a
 have hlt:=nN_lt (xs:=xs) (a:=a) hn1
 generalize nN xs a n=m at*
 unfold S at h hc ⊢
 refine den_of tabOk mixed Tryz.func80 (cd:=_) rfl (by decide) rfl (n:=12) rfl rfl (m:=1) rfl ?_
 simp -dsimp(disch:=omega) only[replicate,hn,↓reduceIte,ru]
 refine gl_ 0 h rfl rfl hc rfl rfl rfl ?_
 simp -dsimp(disch:=omega) only[sh2,append_nil,↓reduceIte,ru]
 refine rl_ rfl ⟨tvq,tvq⟩ rfl (S_closed xs _) rfl rfl rfl
theorem den82 (xs:List Int) (a:Nat) (l:List Int) (hl:xs.length<=1000) (ha:a<=xs.length) (hw:W64 xs) (hn1:1<=l.length) (hn2:l.length<1000):
 Den Tryz.prog 52 [S xs a] [.ptr 0 0 0,.fv (.sl (ints l))] [S xs (nx xs a)] (.int .i64 (l.getD (nN xs a l.length) 0)):=by
 have h:=denN xs a l.length hl ha hw hn1 (by omega)
 have hc:=S_closed xs a
 have hlt:=nN_lt (xs:=xs) (a:=a) hn1
 have hil:=ints_length l
 have hg:=ints_getD (xs:=l) hlt
 obtain⟨m,hm⟩:=ex1 (nN xs a l.length)
 rw[hm] at h hlt hg ⊢
 unfold S at h hc ⊢
 refine den_of tabOk mixed Tryz.func52 (cd:=_) rfl (by decide) rfl (n:=10) rfl rfl (m:=1) rfl ?_
 simp -dsimp(disch:=omega) only[replicate,hil,ru]
 refine gl_ 0 h rfl rfl hc rfl rfl rfl ?_
 simp -dsimp(disch:=omega) only[sh2,append_nil,hg,hil,↓reduceIte,reduceLT,reduceLeDiff,ru]
 repeat refine qy (by omega) ?_
 refine rl_ rfl ⟨tvq,tvq⟩ rfl (S_closed xs _) rfl rfl rfl
def ratR (xs:List Int) (a:Nat):Rat:=((-6+(nN xs a 13:Int):Int):Rat) / ((1+(nN xs (nx xs a) 5:Int):Int):Rat)
theorem bd_int {n:Int} (h:n.natAbs<4294967296):Bd 1 (n:Rat):=⟨h,(by decide:(1:Nat)<B^1)⟩
theorem ratR_bd (xs:List Int) (a:Nat):Bd 2 (ratR xs a):=by
 have h1:=nN_lt (xs:=xs) (a:=a) (n:=13) (by decide);have h2:=nN_lt (xs:=xs) (a:=nx xs a) (n:=5) (by decide);refine Bd.div (j:=1) (k:=1) (bd_int (by omega)) (bd_int (by omega)) ?_ (by decide);intro h;have:=congrArg Rat.num h;change (1+(nN xs (nx xs a) 5:Int))=0 at this;omega
theorem den30 (xs:List Int) (a:Nat) (hl:xs.length<=1000) (ha:a<=xs.length) (hw:W64 xs):Den Tryz.prog 55 [S xs a] [.ptr 0 0 0] [S xs (nx xs (nx xs a))] (FR (ratR xs a)):=by
 have h1:=den60 xs a (-6) 6 13 hl ha hw (by decide) (by decide) (by decide) (by decide) (by decide);have h2:=den60 xs (nx xs a) 1 5 5 hl (nx_le ha) hw (by decide) (by decide) (by decide) (by decide) (by decide);have hc:=S_closed xs a;have hc2:=S_closed xs (nx xs a);have l1:=nN_lt (xs:=xs) (a:=a) (n:=13) (by decide);have l2:=nN_lt (xs:=xs) (a:=nx xs a) (n:=5) (by decide);unfold ratR;generalize nN xs a 13=m1 at*;generalize nN xs (nx xs a) 5=m2 at*;have h59:=den59 (-6+(m1:Int)) (1+(m2:Int)) (by omega) (by omega) (by omega);rw[FR_eq] at h59 ⊢;unfold S at h1 h2 hc hc2 ⊢;refine den_of tabOk mixed Tryz.func55 (cd:=_) rfl (by decide) rfl (n:=13) rfl rfl (m:=1) rfl ?_;simp -dsimp(disch:=omega) only[replicate,ru];refine gl_ 0 h1 rfl rfl hc rfl rfl rfl ?_;simp -dsimp(disch:=omega) only[sh3,append_nil,rules,reduceAdd];refine gl_ 0 h2 rfl rfl hc2 rfl rfl rfl ?_
 simp -dsimp(disch:=omega) only[sh3,append_nil,rules,reduceAdd];refine gp h59 rfl ?_;simp -dsimp(disch:=omega) only[append_nil,↓reduceIte,reduceAdd,reduceLT,reduceLeDiff,ru];refine rl_ rfl ⟨⟨rfl,qp 3⟩,tvq⟩ rfl (S_closed xs _) rfl rfl rfl
def pickN:List Nat:=[0,1,2,3,10,97,65536,2147483648,4294967295,4294967291,123456789,4000000007]
def pickT:List Int:=[0,1,2,3,10,97,65536,2147483648,4294967295,4294967291,123456789,4000000007]
theorem pick_cast (i:Nat):pickT.getD i 0=((pickN.getD i 0:Nat):Int):=by
 have h:pickT=pickN.map (fun n:Nat=>(n:Int)):=rfl;rw[h];simp only[qa,List.getElem?_map];cases pickN[i]?<;>rfl
theorem pick_lt (i:Nat):pickN.getD i 0<4294967296:=by
 by_cases h:i<pickN.length
 ·have hm:pickN.getD i 0∈pickN:=by rw[qa,qb h];exact qqb h
  have: ∀ x∈pickN,x<4294967296:=by decide
  exact this _ hm
 ·rw[qa,getElem?_eq_none (by omega)];decide
def limbsF (xs:List Int):Nat->Nat->List Nat
 | 0,_=>[]
 | n+1,a=>pickN.getD (nN xs a 12) 0::limbsF xs n (nx xs a)
def nxs (xs:List Int):Nat->Nat->Nat
 | 0,a=>a
 | n+1,a=>nxs xs n (nx xs a)
theorem limbsF_dig (xs:List Int): ∀ n a,Dig (limbsF xs n a)
 | 0,_=>Dig.nil
 | n+1,a=>Dig.mk (pick_lt _) (limbsF_dig xs n (nx xs a))
theorem limbsF_length (xs:List Int): ∀ n a,(limbsF xs n a).length=n
 | 0,_=>rfl
 | n+1,a=>by simp[limbsF,limbsF_length xs n]
theorem nxs_le {xs:List Int}: ∀ {n a:Nat},a<=xs.length->nxs xs n a<=xs.length
 | 0,_,h=>h
 | n+1,_,h=>nxs_le (n:=n) (nx_le h)
theorem sh2l (o:Ob) (l:List Ob) (k off n s:Nat):shutBs (o::l) 0 [.ptr 0 0 0,.lsl (k+1) off n s]=shutIds [k+1] (o::l):=rfl
def outV (out:List Nat):PV:=match out with | []=> .nilsl | _=> .lsl 1 0 out.length 1
def outH (o:Ob) (out:List Nat):List Ob:=match out with | []=>[o] | _=>[o,.row true (u32s out)]
theorem den64 (xs:List Int) (a:Nat) (hl:xs.length<=1000) (ha:a<=xs.length) (hw:W64 xs):
 Den Tryz.prog 117 [S xs a] [.ptr 0 0 0] [S xs (nxs xs (nN xs a 5) (nx xs a))] (.fv (.sl (u32s (limbsF xs (nN xs a 5) (nx xs a))))):=by
 have h5:=denN xs a 5 hl ha hw (by decide) (by decide)
 have hlt:=nN_lt (xs:=xs) (a:=a) (n:=5) (by decide)
 have hc:=S_closed xs a
 have ha1:=nx_le ha
 obtain⟨a1,ha1'⟩: ∃ t,nx xs a=t:=⟨_,rfl⟩
 obtain⟨m,hm⟩: ∃ t,nN xs a 5=t:=⟨_,rfl⟩
 rw[hm] at h5 hlt ⊢
 rw[ha1'] at h5 ha1 ⊢
 obtain⟨fin,hfin⟩: ∃ t,nxs xs m a1=t:=⟨_,rfl⟩
 obtain⟨tot,htot⟩: ∃ t,limbsF xs m a1=t:=⟨_,rfl⟩
 rw[hfin,htot]
 unfold S at h5 hc ⊢
 refine den_of tabOk mixed Tryz.func117 (cd:=_) rfl (by decide) rfl (n:=18) rfl rfl (m:=1) rfl ?_
 simp -dsimp(disch:=omega) only[replicate,rules]
 refine gl_ 0 h5 rfl rfl hc rfl rfl rfl ?_
 simp -dsimp(disch:=omega) only[sh2,append_nil,rules]
 refine wl (α:=Nat×Nat×List Nat) (fun⟨n,b,out⟩=>⟨[.ptr 0 0 0,.any,.nilsl,outV out,.int .i64 n]++replicate 14 .any,outH (S xs b) out⟩)
  (fun⟨n,_,_⟩=>n) (fun⟨n,b,out⟩=>b<=xs.length/\n+out.length<=4/\nxs xs n b=fin/\out++limbsF xs n b=tot) (m,a1,[]) ?_ ?_ ?_
 ·refine wk [0] (by simp) rfl ?_ ?_
  ·simp[leVs,leV,le1,outV]
  ·simp[leH,leO,le1s,le1,outH,S]
 ·exact⟨ha1,by simp;omega,hfin,by rw[nil_append];exact htot⟩
 ·rintro⟨n,b,out⟩ ⟨hb,hno,hnx,hap⟩
  have h82:=den82 xs b pickT hl hb hw (by decide) (by decide)
  have hcb:=S_closed xs b
  have hpl:=pick_lt (nN xs b 12)
  rw[show pickT.length=12 from rfl,pick_cast] at h82
  obtain⟨d,hd⟩:=ex1 (pickN.getD (nN xs b 12) 0)
  rw[hd] at h82 hpl
  have hwd:IntKind.u32.wrap (d:Int)=(d:Int):=wrap32c (by omega)
  have hnxt: ∀ k,n=k+1->nxs xs k (nx xs b)=fin/\(out++[d])++limbsF xs k (nx xs b)=tot:=by
   intro k hk;subst hk;rw[<-hnx,<-hap,limbsF,hd];exact⟨rfl,by simp⟩
  have hbn:=nx_le hb
  cases out with
  | nil=>
   simp only[outV,outH];unfold S at h82 hcb ⊢;simp -dsimp(disch:=omega) only[replicate,↓reduceIte,ru];refine bd_ ?_ ?_
   ·intro h1 h2;obtain⟨k,rfl⟩: ∃ k,n=k+1:=⟨n - 1,by omega⟩;obtain⟨hn1,hn2⟩:=hnxt k rfl;have hk:((k+1:Nat):Int) - 1=(k:Int):=by omega
    simp -dsimp(disch:=omega) only[append_nil,h2,↓reduceIte,reduceAdd,reduceMul,reduceLT,reduceLeDiff,ru];refine gl_ 0 h82 rfl rfl hcb rfl rfl rfl ?_;simp -dsimp(disch:=omega) only[append_nil,sh2l,hwd,hk,length_cons,length_nil,↓reduceIte,reduceAdd,reduceMul,reduceLT,reduceLeDiff,ru]
    repeat refine qy (by omega) ?_
    refine ap (k,nx xs b,[d]) (by dsimp only;omega) ?_ ⟨hbn,by simp at hno ⊢;omega,hn1,hn2⟩;refine wk [0,3] (by simp) rfl ?_ ?_
    ·simp[leVs,leV,le1]
    ·simp[leH,leO,le1s,le1,u32s]
   ·intro h1 h2;have hn0:n=0:=by omega
    subst hn0;have htot2:tot=[]:=by rw[<-hap];rfl
    have hfb:fin=b:=hnx.symm;rw[htot2,hfb];simp -dsimp(disch:=omega) only[h2,Nat.reduceBEq,ru];refine rl_ rfl ⟨tvq,tvq⟩ rfl (S_closed xs _) rfl rfl rfl
  | cons x out=>
   have hul:(u32s (x::out)).length=(x::out).length:=u32s_length;have htk:List.take (x::out).length (u32s (x::out))=u32s (x::out):=qdq (by rw[hul];exact qp _);have happ:u32s (x::out)++[[FV.lit (Value.int .u32 d)]]=u32s (x::(out++[d])):=by simp[u32s]
   simp only[outV,outH];obtain⟨L,hL⟩:=ex1 ((x::out).length);obtain⟨us,hus⟩:=ex1 (u32s (x::out));rw[hL,hus] at hul htk;rw[hus] at happ;rw[hL] at hno;rw[hL,hus];unfold S at h82 hcb ⊢;simp -dsimp(disch:=omega) only[replicate,↓reduceIte,ru];refine bd_ ?_ ?_
   ·intro h1 h2;obtain⟨k,rfl⟩: ∃ k,n=k+1:=⟨n - 1,by omega⟩;obtain⟨hn1,hn2⟩:=hnxt k rfl;have hk:((k+1:Nat):Int) - 1=(k:Int):=by omega
    simp -dsimp(disch:=omega) only[append_nil,h2,↓reduceIte,reduceAdd,reduceMul,reduceLT,reduceLeDiff,ru];refine gl_ 0 h82 rfl rfl hcb rfl rfl rfl ?_;simp -dsimp(disch:=omega) only[append_nil,sh2l,hwd,hk,htk,happ,length_cons,length_nil,↓reduceIte,reduceAdd,reduceMul,Nat.reduceBEq,reduceLT,reduceLeDiff,ru]
    repeat refine qy (by omega) ?_
    refine ap (k,nx xs b,x::(out++[d])) (by dsimp only;omega) ?_ ⟨hbn,by simp at hL ⊢;omega,hn1,hn2⟩;refine wk [0,4] (by simp) rfl ?_ ?_
    ·simp[leVs,leV,le1];simp at hL;omega
    ·simp[leH,leO,le1s,le1]
   ·intro h1 h2;have hn0:n=0:=by omega
    subst hn0;have htot2:tot=x::out:=by rw[<-hap];simp[limbsF]
    have hfb:fin=b:=hnx.symm;rw[htot2,hfb,hus];simp -dsimp(disch:=omega) only[h2,Nat.reduceBEq,ru];refine rl_ rfl ⟨tvq,tvq⟩ rfl (S_closed xs _) rfl ?_ rfl;have hi:List.idxOf? 1 [0]=none:=rfl;simp(disch:=omega) only[hul,htk,hi,List.drop_zero,Nat.zero_add,qp,↓reduceIte,St.get,fzX,oneRes,fzV,fzC,fz1,fz0,Option.map_some,qk,getD_cons_zero,List.getElem?_cons_zero,List.getElem?_cons_succ]
def looseR (xs:List Int) (a:Nat):Raw×Nat:=
 if nN xs a 4=0 then(cn (ratR xs (nx xs a)),nx xs (nx xs (nx xs a)))
 else if nN xs a 4=1 then
  (⟨decide (nN xs (nx xs a) 2=0),limbsF xs (nN xs (nx xs (nx xs a)) 5) (nx xs (nx xs (nx xs a))),
   limbsF xs (nN xs (nxs xs (nN xs (nx xs (nx xs a)) 5) (nx xs (nx xs (nx xs a)))) 5) (nx xs (nxs xs (nN xs (nx xs (nx xs a)) 5) (nx xs (nx xs (nx xs a)))))⟩,
   nxs xs (nN xs (nxs xs (nN xs (nx xs (nx xs a)) 5) (nx xs (nx xs (nx xs a)))) 5) (nx xs (nxs xs (nN xs (nx xs (nx xs a)) 5) (nx xs (nx xs (nx xs a))))))
 else(⟨decide (nN xs (nx xs (nx xs a)) 2=0),[(1+nN xs (nx xs a) 6)*nN xs (nx xs (nx xs (nx xs a))) 9,0],[(1+nN xs (nx xs a) 6)*nN xs (nx xs (nx xs (nx xs (nx xs a)))) 6]⟩,nx xs (nx xs (nx xs (nx xs (nx xs a)))))
theorem dec0 (m:Nat):((m:Int)==0)=decide (m=0):=by
 by_cases h:m=0
 ·subst h;rfl
 ·rw[qcb h,qx];omega
theorem dig1 {x:Nat} (h:x<4294967296):Dig [x]:=Dig.mk h Dig.nil
theorem looseR_ok (xs:List Int) (a:Nat):(looseR xs a).1.Ok 4:=by
 unfold looseR;split
 ·exact Raw.Ok.mono (cn_ok (ratR_bd xs _)) (by decide)
 ·split
  ·have h1:=nN_lt (xs:=xs) (a:=nx xs (nx xs a)) (n:=5) (by decide);have h2:=nN_lt (xs:=xs) (a:=nxs xs (nN xs (nx xs (nx xs a)) 5) (nx xs (nx xs (nx xs a)))) (n:=5) (by decide);exact⟨limbsF_dig _ _ _,limbsF_dig _ _ _,by rw[limbsF_length];omega,by rw[limbsF_length];omega⟩
  ·have h1:=nN_lt (xs:=xs) (a:=nx xs a) (n:=6) (by decide);have h2:=nN_lt (xs:=xs) (a:=nx xs (nx xs (nx xs a))) (n:=9) (by decide);have h3:=nN_lt (xs:=xs) (a:=nx xs (nx xs (nx xs (nx xs a)))) (n:=6) (by decide);have h4:(1+nN xs (nx xs a) 6)*nN xs (nx xs (nx xs (nx xs a))) 9<=6*8:=Nat.mul_le_mul (by omega) (by omega);have h5:(1+nN xs (nx xs a) 6)*nN xs (nx xs (nx xs (nx xs (nx xs a)))) 6<=6*5:=Nat.mul_le_mul (by omega) (by omega);exact⟨Dig.mk (by simp only[B];omega) (dig1 (by omega)),dig1 (by omega),by simp,by simp⟩
theorem looseR_le {xs:List Int} {a:Nat} (h:a<=xs.length):(looseR xs a).2<=xs.length:=by
 unfold looseR;split
 ·exact nx_le (nx_le (nx_le h))
 ·split
  ·exact nxs_le (nx_le (nxs_le (nx_le (nx_le (nx_le h)))))
  ·exact nx_le (nx_le (nx_le (nx_le (nx_le h))))
theorem den34 (xs:List Int) (a:Nat) (hl:xs.length<=1000) (ha:a<=xs.length) (hw:W64 xs):
 Den Tryz.prog 60 [S xs a] [.ptr 0 0 0] [S xs (looseR xs a).2] (looseR xs a).1.v:=by
 have h4:=denN xs a 4 hl ha hw (by decide) (by decide)
 have hc:=S_closed xs a
 have ha1:=nx_le ha
 unfold looseR
 obtain⟨m,hm⟩:=ex1 (nN xs a 4)
 obtain⟨a1,e1⟩: ∃ t,nx xs a=t:=⟨_,rfl⟩
 rw[hm,e1] at h4
 rw[e1] at ha1
 rw[hm,e1]
 have c1:=S_closed xs a1
 by_cases h0:m=0
 ·rw[if_pos h0]
  have h30:=den30 xs a1 hl ha1 hw
  have hb:((m:Int)==0)=true:=by rw[h0];rfl
  dsimp only
  change Den Tryz.prog 60 _ _ _ (FR (ratR xs a1))
  rw[FR_eq] at h30 ⊢
  unfold S at h4 h30 hc c1 ⊢
  refine den_of tabOk mixed Tryz.func60 (cd:=_) rfl (by decide) rfl (n:=38) rfl rfl (m:=1) rfl ?_
  simp -dsimp(disch:=omega) only[replicate,ru]
  refine gl_ 0 h4 rfl rfl hc rfl rfl rfl ?_
  simp -dsimp(disch:=omega) only[sh2,append_nil,hb,↓reduceIte,reduceAdd,ru]
  refine gl_ 0 h30 rfl rfl c1 rfl rfl rfl ?_
  simp -dsimp(disch:=omega) only[sh1,append_nil,reduceAdd,reduceLT,reduceLeDiff,ru]
  refine rl_ rfl ⟨⟨rfl,qp 3⟩,tvq⟩ rfl (S_closed xs _) rfl rfl rfl
 ·rw[if_neg h0]
  have hb:((m:Int)==0)=false:=by rw[qx];omega
  have ha2:=nx_le ha1
  obtain⟨a2,e2⟩: ∃ t,nx xs a1=t:=⟨_,rfl⟩
  have c2:=S_closed xs a2
  have ha3:=nx_le (a:=a2) (by rw[<-e2];exact ha2)
  by_cases h1:m=1
  ·rw[if_pos h1]
   have hb1:((m:Int)==1)=true:=by rw[h1];rfl
   have hn2:=denN xs a1 2 hl ha1 hw (by decide) (by decide)
   rw[e2] at ha2 hn2 ⊢
   have hx:=den64 xs a2 hl ha2 hw
   have ha4:nxs xs (nN xs a2 5) (nx xs a2)<=xs.length:=nxs_le ha3
   obtain⟨a3,e3⟩: ∃ t,nxs xs (nN xs a2 5) (nx xs a2)=t:=⟨_,rfl⟩
   have c3:=S_closed xs a3
   rw[e3] at hx ha4 ⊢
   have hy:=den64 xs a3 hl ha4 hw
   obtain⟨p,hp⟩: ∃ t,nN xs a1 2=t:=⟨_,rfl⟩
   obtain⟨u,hu⟩: ∃ t,limbsF xs (nN xs a2 5) (nx xs a2)=t:=⟨_,rfl⟩
   obtain⟨w,hw2⟩: ∃ t,limbsF xs (nN xs a3 5) (nx xs a3)=t:=⟨_,rfl⟩
   obtain⟨a4,e4⟩: ∃ t,nxs xs (nN xs a3 5) (nx xs a3)=t:=⟨_,rfl⟩
   rw[hp] at hn2 ⊢
   rw[hu] at hx ⊢
   rw[hw2,e4] at hy ⊢
   have hbp:=dec0 p
   unfold Raw.v
   unfold S at h4 hn2 hx hy hc c1 c2 c3 ⊢
   refine den_of tabOk mixed Tryz.func60 (cd:=_) rfl (by decide) rfl (n:=38) rfl rfl (m:=1) rfl ?_
   simp -dsimp(disch:=omega) only[replicate,ru]
   refine gl_ 0 h4 rfl rfl hc rfl rfl rfl ?_
   simp -dsimp(disch:=omega) only[sh2,append_nil,hb,hb1,↓reduceIte,reduceAdd,ru]
   refine gl_ 0 hn2 rfl rfl c1 rfl rfl rfl ?_
   simp -dsimp(disch:=omega) only[sh2,append_nil,hbp,↓reduceIte,reduceAdd,ru]
   refine gl_ 0 hx rfl rfl c2 rfl rfl rfl ?_
   simp -dsimp(disch:=omega) only[sh1,append_nil,rules,reduceAdd]
   refine gl_ 0 hy rfl rfl c3 rfl rfl rfl ?_
   simp -dsimp(disch:=omega) only[sh1,append_nil,↓reduceIte,reduceAdd,reduceLT,reduceLeDiff,ru]
   refine rl_ rfl ⟨⟨rfl,qp 3⟩,tvq⟩ rfl (S_closed xs _) rfl rfl rfl
  ·rw[if_neg h1]
   have hb1:((m:Int)==1)=false:=by rw[qx];omega
   have hn1:=den60 xs a1 1 6 6 hl ha1 hw (by decide) (by decide) (by decide) (by decide) (by decide)
   have l1:=nN_lt (xs:=xs) (a:=a1) (n:=6) (by decide)
   rw[e2] at ha2 hn1 ⊢
   have hn2:=denN xs a2 2 hl ha2 hw (by decide) (by decide)
   obtain⟨a3,e3⟩: ∃ t,nx xs a2=t:=⟨_,rfl⟩
   have c3:=S_closed xs a3
   rw[e3] at ha3 hn2 ⊢
   have hn3:=denN xs a3 9 hl ha3 hw (by decide) (by decide)
   have l3:=nN_lt (xs:=xs) (a:=a3) (n:=9) (by decide)
   have ha4:=nx_le ha3
   obtain⟨a4,e4⟩: ∃ t,nx xs a3=t:=⟨_,rfl⟩
   have c4:=S_closed xs a4
   rw[e4] at ha4 hn3 ⊢
   have hn4:=denN xs a4 6 hl ha4 hw (by decide) (by decide)
   have l4:=nN_lt (xs:=xs) (a:=a4) (n:=6) (by decide)
   obtain⟨k,hk⟩: ∃ t,nN xs a1 6=t:=⟨_,rfl⟩
   obtain⟨p,hp⟩: ∃ t,nN xs a2 2=t:=⟨_,rfl⟩
   obtain⟨x,hx⟩: ∃ t,nN xs a3 9=t:=⟨_,rfl⟩
   obtain⟨y,hy⟩: ∃ t,nN xs a4 6=t:=⟨_,rfl⟩
   rw[hk] at hn1 l1 ⊢
   rw[hp] at hn2 ⊢
   rw[hx] at hn3 l3 ⊢
   rw[hy] at hn4 l4 ⊢
   have hbp:=dec0 p
   have q1:(1+k)*x<=6*8:=Nat.mul_le_mul (by omega) (by omega)
   have q2:(1+k)*y<=6*5:=Nat.mul_le_mul (by omega) (by omega)
   have g1:((1:Int)+(k:Int))*(x:Int)=(((1+k)*x:Nat):Int):=by rw[Int.natCast_mul,Int.natCast_add];rfl
   have g2:((1:Int)+(k:Int))*(y:Int)=(((1+k)*y:Nat):Int):=by rw[Int.natCast_mul,Int.natCast_add];rfl
   obtain⟨kx,hkx⟩: ∃ t,(1+k)*x=t:=⟨_,rfl⟩
   obtain⟨ky,hky⟩: ∃ t,(1+k)*y=t:=⟨_,rfl⟩
   rw[hkx] at q1 g1 ⊢
   rw[hky] at q2 g2 ⊢
   unfold Raw.v
   unfold S at h4 hn1 hn2 hn3 hn4 hc c1 c2 c3 c4 ⊢
   refine den_of tabOk mixed Tryz.func60 (cd:=_) rfl (by decide) rfl (n:=38) rfl rfl (m:=1) rfl ?_
   simp -dsimp(disch:=omega) only[replicate,ru]
   refine gl_ 0 h4 rfl rfl hc rfl rfl rfl ?_
   simp -dsimp(disch:=omega) only[sh2,append_nil,hb,hb1,↓reduceIte,reduceAdd,ru]
   refine gl_ 0 hn1 rfl rfl c1 rfl rfl rfl ?_
   simp -dsimp(disch:=omega) only[sh3,append_nil,reduceAdd,ru]
   refine gl_ 0 hn2 rfl rfl c2 rfl rfl rfl ?_
   simp -dsimp(disch:=omega) only[sh2,append_nil,hbp,↓reduceIte,reduceAdd,ru]
   refine gl_ 0 hn3 rfl rfl c3 rfl rfl rfl ?_
   simp -dsimp(disch:=omega) only[sh2,append_nil,g1,↓reduceIte,reduceAdd,reduceMul,reduceLT,reduceLeDiff,ru]
   refine gl_ 0 hn4 rfl rfl c4 rfl rfl rfl ?_
   simp -dsimp(disch:=omega) only[sh2,append_nil,g2,↓reduceIte,reduceAdd,reduceMul,reduceLT,reduceLeDiff,ru]
   repeat refine qy (by omega) ?_
   refine rl_ rfl ⟨⟨rfl,qp 3⟩,tvq⟩ rfl (S_closed xs _) rfl rfl rfl
end Go.Proofs.YtjjbkjgifdhlcaaGreat
