/- Contracts:slices of forms:insertion sort. -/
import Derived.Test.YtiaaceeelfhdlaaGreatT13
import Derived.Test.YtiaaceeelfhdlaaGreatT8
import Derived.Test.YtiaaceeelfhdlaaGreatT11
import Derived.Test.YtiaaceeelfhdlaaGreatT12
import Derived.Test.YtiaaceeelfhdlaaGreatT9
import Derived.Test.YtiaaceeelfhdlaaGreatT1
set_option linter.all false
open Nat (reduceAdd reduceEqDiff reduceLT reduceLeDiff reduceMul reduceSub)
open List (append_assoc append_nil drop_eq_getElem_cons filter_append length_cons length_drop length_map length_nil length_set length_take length_zipWith mem_cons_of_mem mem_map replicate set_cons_zero)
namespace Go.Proofs.YtiaaceeelfhdlaaGreat
open Go.AM Go.Pl
set_option maxRecDepth 100000
set_option maxHeartbeats 4000000
def ak (ls:List (List Raw)):List (List FV):=ls.map bR
theorem aq (ls:List (List Raw)):(ak ls).length=ls.length:=by simp[ak]
theorem ba (ls:List (List Raw)) (i:Nat):(ak ls).getD i []=bR (ls.getD i []):=by
 by_cases h:i<ls.length
 .simp[ak,qa,h]
 simp[ak,qa,List.getElem?_eq_none (show ls.length<=i by omega),bR]
theorem aI: ∀ rs:List Raw,(bR rs).length=3*rs.length
 | []=>rfl
 | r::rs=>by simp only[bR,length_cons,aI rs];omega
theorem oV (ls:List (List Raw)) (i:Nat) (x:List Raw):(ak ls).set i (bR x)=ak (ls.set i x):=by simp[ak,List.map_set]
def AOk (k:Nat) (ls:List (List Raw)):Prop:= ∀ l∈ls,LOk k l
theorem AOk.at {k:Nat} {ls:List (List Raw)} (h:AOk k ls) {i:Nat} (hi:i<ls.length):LOk k (ls.getD i []):=by
 rw[qa,qb hi];exact h _ (pP hi)
def rG (ls:List (List Raw)) (j:Nat):List (List Raw):=(ls.set j (ls.getD (j - 1) [])).set (j - 1) (ls.getD j [])
theorem rH (ls:List (List Raw)) (j:Nat):(rG ls j).length=ls.length:=by simp[rG]
theorem iC {ls:List (List Raw)} {j:Nat} (h0:0<j) (hj:j<ls.length) (q:Nat):(rG ls j).getD q []=if q=j then ls.getD (j - 1) [] else if q=j - 1 then ls.getD j [] else ls.getD q []:=by
 unfold rG;simp only[qa,List.getElem?_set,length_set];by_cases h1:q=j
 .subst h1;rw[if_neg (by omega),if_pos rfl,if_pos hj,if_pos rfl];rfl
 rw[if_neg h1];by_cases h2:q=j - 1
 .subst h2;rw[if_pos rfl,if_pos (by omega),if_pos rfl];rfl
 rw[if_neg (fun h=>h2 h.symm),if_neg (fun h=>h1 h.symm),if_neg h2]
theorem jQ {ls:List (List Raw)} {f:List Raw}:f∈ls↔ ∃ i,i<ls.length/\ls.getD i []=f:=by
 rw[List.mem_iff_getElem];constructor
 .rintro⟨i,hi,rfl⟩;exact⟨i,hi,by rw[qa,qb hi];rfl⟩
 rintro⟨i,hi,h⟩;rw[qa,qb hi] at h;exact⟨i,hi,h⟩
theorem I7 {ls:List (List Raw)} {j:Nat} (h0:0<j) (hj:j<ls.length) (f:List Raw):f∈rG ls j↔f∈ls:=by
 rw[jQ,jQ,rH];constructor
 .rintro⟨q,hq,h⟩;rw[iC h0 hj] at h;by_cases h1:q=j
  .rw[if_pos h1] at h;exact⟨j - 1,by omega,h⟩
  rw[if_neg h1] at h;by_cases h2:q=j - 1
  .rw[if_pos h2] at h;exact⟨j,hj,h⟩
  rw[if_neg h2] at h;exact⟨q,hq,h⟩
 rintro⟨q,hq,h⟩;by_cases h1:q=j
 .subst h1;exact⟨q - 1,by omega,by rw[iC h0 hj,if_neg (by omega),if_pos rfl];exact h⟩
 by_cases h2:q=j - 1
 .subst h2;exact⟨j,hj,by rw[iC h0 hj,if_pos rfl];exact h⟩
 exact⟨q,hq,by rw[iC h0 hj,if_neg h1,if_neg h2];exact h⟩
def Srt (ls:List (List Raw)) (i j:Nat):Prop:= ∀ p q,p<q->q<=i->q≠j->bu (ls.getD p []) (ls.getD q [])<=0
theorem Mj {ls:List (List Raw)} {i j:Nat} (BS:0<j) (o5:j<=i) (hi:i<ls.length) (h:Srt ls i j) (hc:bu (ls.getD j []) (ls.getD (j - 1) [])<0):Srt (rG ls j) i (j - 1):=by
 intro p q x_ Ik hq;rw[iC BS (by omega),iC BS (by omega)];by_cases h1:q=j
 .subst h1;rw[if_pos rfl,if_neg (by omega: ¬p=q)];by_cases h2:p=q - 1
  .rw[if_pos h2];omega
  rw[if_neg h2];exact h p (q - 1) (by omega) (by omega) (by omega)
 rw[if_neg h1,if_neg hq];by_cases h2:p=j
 .rw[if_pos h2];exact h (j - 1) q (by omega) Ik h1
 rw[if_neg h2];by_cases h3:p=j - 1
 .rw[if_pos h3];exact h j q (by omega) Ik h1
 rw[if_neg h3];exact h p q x_ Ik h1
theorem CJ {k:Nat} {ls:List (List Raw)} {i j:Nat} (bf:AOk k ls) (hi:i<ls.length) (o5:j<=i) (h:Srt ls i j) (hc:j=0\/0<=bu (ls.getD j []) (ls.getD (j - 1) [])): ∀ p q,p<q->q<=i->bu (ls.getD p []) (ls.getD q [])<=0:=by
 intro p q x_ Ik;by_cases hq:q=j
 .subst hq;rcases hc with h0 | h0
  .omega
  rw[ed] at h0;have h1:bu (ls.getD (q - 1) []) (ls.getD q [])<=0:=by omega
  by_cases hp:p=q - 1
  .rw[hp];exact h1
  have h2:=h p (q - 1) (by omega) (by omega) (by omega);exact mh _ _ _ (by rw[(bf.at (i:=p) (by omega)).len,(bf.at (i:=q - 1) (by omega)).len]) (by rw[(bf.at (i:=q - 1) (by omega)).len,(bf.at (i:=q) (by omega)).len]) h2 h1
 exact h p q x_ Ik hq
theorem mw {rs:List Raw} (h:rs.length=9):List.drop 27 (bR rs)=[]:=List.drop_of_length_le (by rw[aI];omega)
theorem aB {rs:List Raw} (h:rs.length=9):List.take 27 (bR rs)=bR rs:=dm (by rw[aI];omega)
structure Mk (ls ls':List (List Raw)):Prop where
 len:ls'.length=ls.length
 mem: ∀ f,f∈ls'↔f∈ls
 ord: ∀ p q,p<q->q<ls'.length->bu (ls'.getD p []) (ls'.getD q [])<=0
abbrev E7:PV:= .fv (.lit (.func (.func 137) #[] #[]))
theorem AOk.of_mem {k:Nat} {ls ls':List (List Raw)} (h:AOk k ls) (hm: ∀ f,f∈ls'↔f∈ls):AOk k ls':=fun l hl=>h l ((hm l).1 hl)
theorem ZN (ls:List (List Raw)) (bf:AOk 1000000000 ls) (hn:ls.length<=1000):
 ∃ H1 res,(fun H1 res=> ∃ ls',H1=[.row true (ak ls')]/\res=PV.tup []/\Mk ls ls') H1 res/\Den Tryz.prog 237 [.row true (ak ls)] [.lsl 0 0 ls.length 27,.int .i64 0,.int .i64 ls.length,E7] H1 res:=by
 obtain⟨n,cB⟩:=ax ls.length
 rw[cB] at hn ⊢
 refine BN Tryz.func237 49 1 ?_
 refine aW ?_
 refine wl (α:=Nat×List (List Raw)) (fun⟨i,l⟩=>⟨[.lsl 0 0 n 27,.int .i64 0,.int .i64 n,E7,.any,.any,.any,.any,.int .i64 i]++replicate 44 .any,[.row true (ak l)]⟩)
  (fun⟨i,_⟩=>n+1 - i) (fun⟨i,l⟩=>1<=i/\(i<=n\/i=1)/\l.length=n/\(∀ f,f∈l↔f∈ls)/\ ∀ p q,p<q->q<i->q<n->bu (l.getD p []) (l.getD q [])<=0) (1,ls) ?_ ?_ ?_
 .exact bP [0]
 .exact⟨qp _,Or.inr rfl,cB,fun f=>Iff.rfl,fun p q h1 h2 h3=>by omega⟩
 rintro⟨i,l⟩ ⟨pJ,j6,pa,bC,sf⟩
 refine aW ?_
 refine bK ?_ ?_
 .intro h1 h2
  refine ah h2 ?_
  refine wl (α:=Nat×List (List Raw)) (fun⟨j,l⟩=>⟨[.lsl 0 0 n 27,.int .i64 0,.int .i64 n,E7,.any,.any,.any,.any,.int .i64 i,.int .i64 j]++replicate 43 .any,[.row true (ak l)]⟩)
   (fun⟨j,_⟩=>j) (fun⟨j,l⟩=>j<=i/\l.length=n/\(∀ f,f∈l↔f∈ls)/\Srt l i j) (i,l) ?_ ?_ ?_
  .exact bP [0]
  .exact⟨qp _,pa,bC,fun p q h3 h4 h5=>sf p q h3 (by omega) (by omega)⟩
  rintro⟨j,l⟩ ⟨hj,pa,bC,oz⟩
  have Sa:=bf.of_mem bC
  refine aW ?_
  refine dw (by kernel_rfl) ?_
  refine a9 ?_
  refine bK ?_ ?_
  .intro h3 h4
   obtain⟨p,rfl⟩: ∃ p,j=p+1:=⟨j - 1,by omega⟩
   have Aa:(((p+1:Nat):Int) - 1)=(p:Int):=by omega
   have hx:=Sa.at (i:=p+1) (by omega)
   have hy:=Sa.at (i:=p) (by omega)
   have bW:=G' _ _ hx hy
   have r1:=ba l (p+1)
   have r2:=ba l p
   obtain⟨x,iW⟩:=ax (l.getD (p+1) [])
   obtain⟨y,sy⟩:=ax (l.getD p [])
   rw[iW] at hx bW r1
   rw[sy] at hy bW r2
   have rl:=aq l
   have l_:=aB hx.len
   have nh:=aB hy.len
   have fx:=aI x
   have fy:=aI y
   have lx:=hx.len
   have ly:=hy.len
   unfold RL at bW
   have dx:=mw hx.len
   have dy:=mw hy.len
   have gx:=ag x
   have gy:=ag y
   have Gh:((ak l).set (p+1) (bR y)).set p (bR x)=ak (rG l (p+1)):=by
    rw[oV,oV];unfold rG;rw[Nat.add_sub_cancel,iW,sy]
   have r3:((ak l).set (p+1) (bR y)).getD p []=bR y:=by
    rw[oV,ba,qa,qm (by omega),<-qa,sy]
   obtain⟨z,hz⟩:=ax (bu x y)
   rw[hz] at bW
   refine aF (f0 h4 Aa r1 r2 l_ nh rl) ?_
   repeat refine ae ?_
   refine hY bW ?_
   refine kI ?_
   refine bK ?_ ?_
   .intro h5 h6
    refine aF h6 ?_
    refine dw (by kernel_rfl) ?_
    refine aF (bU Aa r1 r2 r3 l_ nh rl (bU fx fy gx gy lx ly dx (bB dy Gh @length_set.{0}))) ?_
    repeat refine ae ?_
    refine aw (p,rG l (p+1)) ?_ ⟨by omega,by rw[rH];exact pa,fun f=>by rw[I7 (by omega) (by omega),bC],?_⟩
    .exact bP [0]
    have:=Mj (j:=p+1) (by omega) hj (by omega) oz (by rw[iW,Nat.add_sub_cancel,sy,hz];exact h5)
    rwa [Nat.add_sub_cancel] at this
   intro h5 h6
   have hd:=CJ Sa (by omega) hj oz (Or.inr (by rw[iW,Nat.add_sub_cancel,sy,hz];omega))
   refine aF h6 ?_
   refine aw (i+1,l) ?_ ⟨by omega,by omega,pa,bC,fun p q h7 h8 h9=>hd p q h7 (by omega)⟩
   exact bP [0]
  intro h3 h4
  have hd:=CJ Sa (by omega) hj oz (Or.inl (by omega))
  refine aF h4 ?_
  refine aw (i+1,l) ?_ ⟨by omega,by omega,pa,bC,fun p q h7 h8 h9=>hd p q h7 (by omega)⟩
  exact bP [0]
 intro h1 h2
 refine ah (bB h2 @dB @eU) ?_
 exact⟨[.row true (ak l)],.tup [],⟨l,rfl,rfl,by rw[pa,cB],bC,fun p q h3 h4=>sf p q h3 (by omega) (by omega)⟩,qL (cd:=True) (vs:=[]) rfl trivial rfl trivial rfl rfl rfl⟩
theorem ZO (x:Nat) (hx:x<256):Den Tryz.prog 246 [] [.int .u64 x] [] (.int .i64 (dJ x:Int)):=by
 have h8: ∀ n:Nat,n<256->(((Lib.len8tab[n]?).getD 0).toNat:Nat)=dJ n:=fun n hn=>B7 ⟨n,hn⟩
 have dh:Lib.len8tab.size=256:=Lib.len8tab_size;have hb8:dJ x<=8:=by
  have: ∀ m:Fin 256,dJ m.val<=8:=by decide+kernel
  exact this ⟨x,hx⟩
 have e1:decide ((x:Int)>=4294967296)=false:=qV;have e2:decide ((x:Int)>=65536)=false:=qV;have e3:decide ((x:Int)>=256)=false:=qV;refine dq Tryz.func246 24 0 ?_;simp -dsimp(disch:=omega) only[replicate,tM,gw,e1,e2,e3,h8,IntKind.bits,Int.reduceToNat,Int.reducePow,Option.isNone_none,↓reduceIte,reduceCtorEq,reduceAdd,reduceMul,reduceSub,Nat.reduceBEq,reduceEqDiff,reduceLT,reduceLeDiff,ru];refine⟨by rw[dh];omega,?_⟩;refine bc ?_;refine o_ ?_;simp
theorem TA (x:Nat) (hx:x<256):Den Tryz.prog 199 [] [.int .u64 x] [] (.int .i64 (dJ x:Int)):=by
 refine dq Tryz.func199 7 0 ?_;refine aW ?_;refine gp (ZO x hx) rfl ?_;refine a9 ?_;refine bc rfl
theorem ZP (ls ls':List (List Raw)) (lim:Int) (hn:ls.length<=12) (h:Den Tryz.prog 237 [.row true (ak ls)] [.lsl 0 0 ls.length 27,.int .i64 0,.int .i64 ls.length,E7] [.row true (ak ls')] (.tup [])):
 Den Tryz.prog 198 [.row true (ak ls)] [.lsl 0 0 ls.length 27,.int .i64 0,.int .i64 ls.length,.int .i64 lim,E7] [.row true (ak ls')] (.tup []):=by
 obtain⟨n,cB⟩:=ax ls.length
 rw[cB] at h hn ⊢
 have e1:decide ((n:Int) - 0<=12)=true:=BR
 refine dq Tryz.func198 143 1 ?_
 refine aW ?_
 refine wl (α:=Unit) (fun _=>⟨[.lsl 0 0 n 27,.int .i64 0,.int .i64 n,.int .i64 lim,E7,.any,.any,.any,.any,.any,.bool true,.bool true]++replicate 136 .any,[.row true (ak ls)]⟩)
  (fun _=>0) (fun _=>True) () ?_ trivial ?_
 .exact bP [0]
 rintro⟨⟩ _
 simp -dsimp(disch:=omega) only[replicate,e1,IntKind.bits,Int.reduceToNat,Int.reducePow,Option.isNone_none,↓reduceIte,reduceCtorEq,reduceAdd,reduceMul,reduceSub,Nat.reduceBEq,reduceEqDiff,reduceLT,reduceLeDiff,ru]
 refine d6 0 h trivial ?_
 refine cv ?_
 exact qL (cd:=True) (vs:=[]) rfl trivial rfl trivial rfl rfl rfl
theorem aeJ (ls:List (List Raw)) (bf:AOk 1000000000 ls) (hn:ls.length<=12):
 ∃ ls',Mk ls ls'/\Den Tryz.prog 136 [.row true (ak ls)] [.lsl 0 0 ls.length 27,E7] [.row true (ak ls')] (.tup []):=by
 obtain⟨H1,res,⟨ls',rfl,rfl,hs⟩,h⟩:=ZN ls bf (by omega)
 refine⟨ls',hs,?_⟩
 have h2:=ZP ls ls' (dJ ls.length:Int) hn h
 obtain⟨n,cB⟩:=ax ls.length
 rw[cB] at h2 hn ⊢
 refine dq Tryz.func136 12 1 ?_
 refine aW ?_
 refine gp (TA n (by omega)) rfl ?_
 refine a9 ?_
 refine d6 0 h2 trivial ?_
 refine cv ?_
 exact qL (cd:=True) (vs:=[]) rfl trivial rfl trivial rfl rfl rfl
theorem ZQ (a b:List Raw) (ha:LOk 1000000000 a) (hb:LOk 1000000000 b):Den Tryz.prog 248 [] [RL a,RL b] [] (.bool (bu a b==0)):=by
 have bW:=G' a b ha hb;have ga:=ag a;have gb:=ag b;have la:=ha.len;have lb:=hb.len;have a27:=ar la;have b27:=ar lb;obtain⟨z,hz⟩:=ax (bu a b);rw[hz] at bW ⊢;unfold RL at bW ⊢;refine dq Tryz.func248 7 0 ?_;refine aF (a8 a27 b27) ?_
 repeat refine ae ?_
 refine hY bW ?_;refine kI ?_;refine bc rfl
theorem oW (ts:List RT) (i:Nat) (t:RT):(au ts).set i (gI t)=au (ts.set i t):=by simp[au,List.map_set]
theorem mz {t:RT} (h:t.1.length=8):List.drop 11 (gI t)=[]:=List.drop_of_length_le (by rw[aR h];omega)
abbrev mV (g:Nat) (v:Value):PV:= .fv (.lit (.func (.func g) #[v] #[]))
theorem ZR (g:Nat) (v:Value) (u:FV) (hv:PV.ofValue v= .agg [.fv u]) (ls:List RT) (hl: ∀ t∈ls,t.1.length=8) (hn:ls.length<=1000000)
 (yB: ∀ s∈ls,∀ t∈ls,Den Tryz.prog g [] [.agg [.fv u],.agg (gH s),.agg (gH t)] [] (.int .i64 (-(iy s.1 t.1)))):
 ∃ H1 res,(fun H1 res=> ∃ ls',H1=[.row true (au ls')]/\res=PV.tup []/\ls'.Perm ls/\ls'.Pairwise (fun a b=>¬yi b a)) H1 res/\
  Den Tryz.prog 259 [.row true (au ls)] [.lsl 0 0 ls.length 11,.int .i64 0,.int .i64 ls.length,mV g v] H1 res:=by
 obtain⟨n,cB⟩:=ax ls.length
 rw[cB] at hn ⊢
 refine BN Tryz.func259 49 1 ?_
 refine aW ?_
 refine wl (α:=Nat×List RT) (fun⟨i,l⟩=>⟨[.lsl 0 0 n 11,.int .i64 0,.int .i64 n,mV g v,.any,.any,.any,.any,.int .i64 i]++replicate 44 .any,[.row true (au l)]⟩)
  (fun⟨i,_⟩=>n+1 - i) (fun⟨i,l⟩=>1<=i/\(i<=n\/i=1)/\l.Perm ls/\ ∀ p q,p<q->q<i->q<n-> ¬yi (l.getD q kT) (l.getD p kT)) (1,ls) ?_ ?_ ?_
 .exact bP [0]
 .exact⟨qp _,Or.inr rfl,List.Perm.refl _,fun p q h1 h2 h3=>by omega⟩
 rintro⟨i,l⟩ ⟨pJ,j6,eW,sf⟩
 have pa:l.length=n:=by rw[eW.length_eq,cB]
 refine aW ?_
 refine bK ?_ ?_
 .intro h1 h2
  refine ah h2 ?_
  refine wl (α:=Nat×List RT) (fun⟨j,l⟩=>⟨[.lsl 0 0 n 11,.int .i64 0,.int .i64 n,mV g v,.any,.any,.any,.any,.int .i64 i,.int .i64 j]++replicate 43 .any,[.row true (au l)]⟩)
   (fun⟨j,_⟩=>j) (fun⟨j,l⟩=>j<=i/\l.Perm ls/\LW kT yi l i j) (i,l) ?_ ?_ ?_
  .exact bP [0]
  .exact⟨qp _,eW,fun p q h3 h4 h5=>sf p q h3 (by omega) (by omega)⟩
  rintro⟨j,l⟩ ⟨hj,eW,oz⟩
  have pa:l.length=n:=by rw[eW.length_eq,cB]
  have Ee: ∀ t∈l,t.1.length=8:=fun t ht=>hl t (eW.mem_iff.1 ht)
  have Ws: ∀ x∈l,∀ y∈l,∀ z∈l,¬yi x y-> ¬yi y z-> ¬yi x z:=fun x hx y hy z hz=>UR (Ee x hx) (Ee y hy) (Ee z hz)
  refine aW ?_
  refine dw (by kernel_rfl) ?_
  refine a9 ?_
  refine bK ?_ ?_
  .intro h3 h4
   obtain⟨p,rfl⟩: ∃ p,j=p+1:=⟨j - 1,by omega⟩
   have Aa:(((p+1:Nat):Int) - 1)=(p:Int):=by omega
   have m1:=eL (ts:=l) (i:=p+1) (by omega)
   have m2:=eL (ts:=l) (i:=p) (by omega)
   have bW:=yB _ (eW.mem_iff.1 m1) _ (eW.mem_iff.1 m2)
   have r1:=cM (ts:=l) (i:=p+1) (by omega)
   have r2:=cM (ts:=l) (i:=p) (by omega)
   have lx:=Ee _ m1
   have ly:=Ee _ m2
   have aG:yi (l.getD (p+1) kT) (l.getD p kT)↔ -(iy (l.getD (p+1) kT).1 (l.getD p kT).1)<0:=by
    unfold yi;rw[<-G7];omega
   have Gh:((au l).set (p+1) (gI (l.getD p kT))).set p (gI (l.getD (p+1) kT))=au (mW kT l (p+1)):=by
    rw[oW,oW];unfold mW;rw[Nat.add_sub_cancel]
   have r3:((au l).set (p+1) (gI (l.getD p kT))).getD p []=gI (l.getD p kT):=by
    rw[qa,qm (by omega),<-qa,r2]
   have si:=fun h=>zb kT yi LX (ls:=l) (i:=i) (j:=p+1) (by omega) hj (by omega) oz h
   have oA:=fun h=>oO kT yi (ls:=l) Ws (i:=i) (j:=p+1) (by omega) hj oz h
   have hsp:=v5 kT (ls:=l) (j:=p+1) (by omega) (by omega)
   rw[Nat.add_sub_cancel] at si oA
   obtain⟨x,iW⟩:=ax (l.getD (p+1) kT)
   obtain⟨y,sy⟩:=ax (l.getD p kT)
   rw[iW] at bW r1 lx aG Gh si oA
   rw[sy] at bW r2 r3 ly aG Gh si oA
   have rl:=ay l
   have PC:=bM lx
   have y11:=bM ly
   have fx:=aR lx
   have fy:=aR ly
   have dx:=mz lx
   have dy:=mz ly
   have gx:=aL lx
   have gy:=aL ly
   obtain⟨z,hz⟩:=ax (-(iy x.1 y.1))
   rw[hz] at bW aG
   simp -dsimp(disch:=omega) only[h4,Aa,r1,r2,PC,y11,eY,rl,hv,fx,fy,IntKind.bits,Int.reduceToNat,Int.reducePow,Option.isNone_none,↓reduceIte,reduceCtorEq,reduceAdd,reduceMul,reduceSub,Nat.reduceBEq,reduceEqDiff,reduceLT,reduceLeDiff,ru]
   repeat refine ae ?_
   refine gp bW (by simp[bH,eS,eh,eY,kc,dS,dI]) ?_
   refine ah @eG ?_
   refine bK ?_ ?_
   .intro h5 h6
    refine ah h6 ?_
    refine dw (by kernel_rfl) ?_
    refine ah (bU Aa r1 r2 r3 PC y11 @eY (bU rl fx fy gx gy lx ly (f0 dx dy Gh @length_set.{0} @eh @eG @append_nil.{0}))) ?_
    repeat refine ae ?_
    refine aw (p,mW kT l (p+1)) ?_ ⟨by omega,hsp.trans eW,si (aG.2 h5)⟩
    exact bP [0]
   intro h5 h6
   have hd:=oA (Or.inr (fun h=>h5 (aG.1 h)))
   refine ah h6 ?_
   refine aw (i+1,l) ?_ ⟨by omega,by omega,eW,fun p q h7 h8 h9=>hd p q h7 (by omega)⟩
   exact bP [0]
  intro h3 h4
  have hd:=oO kT yi (ls:=l) Ws (i:=i) (j:=j) (by omega) hj oz (Or.inl (by omega))
  refine ah h4 ?_
  refine aw (i+1,l) ?_ ⟨by omega,by omega,eW,fun p q h7 h8 h9=>hd p q h7 (by omega)⟩
  exact bP [0]
 intro h1 h2
 have XP:l.Pairwise (fun a b=>¬yi b a):=py kT yi (fun p q h3 h4=>sf p q h3 (by omega) (by omega))
 refine ah h2 ?_
 exact⟨[.row true (au l)],.tup [],⟨l,rfl,rfl,eW,XP⟩,qL (cd:=True) (vs:=[]) rfl trivial rfl trivial rfl rfl rfl⟩
theorem ZS (V:PV) (ls ls':List RT) (lim:Int) (hn:ls.length<=12) (h:Den Tryz.prog 259 [.row true (au ls)] [.lsl 0 0 ls.length 11,.int .i64 0,.int .i64 ls.length,V] [.row true (au ls')] (.tup [])) (hV: ∃ v g,V=mV g v):
 Den Tryz.prog 227 [.row true (au ls)] [.lsl 0 0 ls.length 11,.int .i64 0,.int .i64 ls.length,.int .i64 lim,V] [.row true (au ls')] (.tup []):=by
 obtain⟨v,g,rfl⟩:=hV
 obtain⟨n,cB⟩:=ax ls.length
 rw[cB] at h hn ⊢
 have e1:decide ((n:Int) - 0<=12)=true:=BR
 refine dq Tryz.func227 143 1 ?_
 refine aW ?_
 refine wl (α:=Unit) (fun _=>⟨[.lsl 0 0 n 11,.int .i64 0,.int .i64 n,.int .i64 lim,mV g v,.any,.any,.any,.any,.any,.bool true,.bool true]++replicate 136 .any,[.row true (au ls)]⟩)
  (fun _=>0) (fun _=>True) () ?_ trivial ?_
 .exact bP [0]
 rintro⟨⟩ _
 simp -dsimp(disch:=omega) only[replicate,e1,IntKind.bits,Int.reduceToNat,Int.reducePow,Option.isNone_none,↓reduceIte,reduceCtorEq,reduceAdd,reduceMul,reduceSub,Nat.reduceBEq,reduceEqDiff,reduceLT,reduceLeDiff,ru]
 refine d6 0 h trivial ?_
 refine cv ?_
 exact qL (cd:=True) (vs:=[]) rfl trivial rfl trivial rfl rfl rfl
def cE:Nat:=12
theorem TB (g:Nat) (v:Value) (u:FV) (hv:PV.ofValue v= .agg [.fv u]) (ls:List RT) (hl: ∀ t∈ls,t.1.length=8) (hn:ls.length<=cE)
 (yB: ∀ s∈ls,∀ t∈ls,Den Tryz.prog g [] [.agg [.fv u],.agg (gH s),.agg (gH t)] [] (.int .i64 (-(iy s.1 t.1)))):
 ∃ ls',ls'.Perm ls/\ls'.Pairwise (fun a b=>¬yi b a)/\Den Tryz.prog 183 [.row true (au ls)] [.lsl 0 0 ls.length 11,mV g v] [.row true (au ls')] (.tup []):=by
 unfold cE at hn
 obtain⟨H1,res,⟨ls',rfl,rfl,hp,hs⟩,h⟩:=ZR g v u hv ls hl (by omega) yB
 refine⟨ls',hp,hs,?_⟩
 have h2:=ZS (mV g v) ls ls' (dJ ls.length:Int) hn h ⟨v,g,rfl⟩
 obtain⟨n,cB⟩:=ax ls.length
 rw[cB] at h2 hn ⊢
 refine dq Tryz.func183 12 1 ?_
 refine aW ?_
 refine gp (TA n (by omega)) rfl ?_
 refine a9 ?_
 refine d6 0 h2 trivial ?_
 refine cv ?_
 exact qL (cd:=True) (vs:=[]) rfl trivial rfl trivial rfl rfl rfl
theorem tV {m:List Int} {i:Nat} (h:i<m.length):iA (m.drop i)=(decide (0<=m.getD i 0)&&decide (m.getD i 0<=1024)&&iA (m.drop (i+1))):=by
 rw[drop_eq_getElem_cons h,qa,qb h];rfl
theorem tW {ts:List RT} {i:Nat} (h:i<ts.length):validB (ts.drop i)=(iA (ts.getD i kT).1&&validB (ts.drop (i+1))):=by
 rw[drop_eq_getElem_cons h,qa,qb h];rfl
theorem Hi (ts:List RT) (hl: ∀ t∈ts,t.1.length=8) (hn:ts.length<=1000000000000):Den Tryz.prog 116 [] [PL ts] [] (.bool (validB ts)):=by
 have rl:=ay ts;obtain⟨n,cB⟩:=ax ts.length;rw[cB] at rl hn;obtain⟨R,hR⟩:=ax (validB ts);rw[hR];refine dq Tryz.func116 25 0 ?_;refine cz rl ?_;refine wl (α:=Nat) (fun i=>⟨[PL ts,.any,.any,.any,.any,.any,.any,PL ts,.int .i64 n,.int .i64 i]++replicate 16 .any,[]⟩) (fun i=>n - i) (fun i=>i<=n/\validB (ts.drop i)=R) 0 ?_ ?_ ?_
 .exact bP []
 .exact⟨dU _,hR⟩
 rintro i ⟨hi,hv⟩;refine aW ?_;refine bK ?_ ?_
 .intro h1 h2;have r1:=cM (ts:=ts) (i:=i) (by omega);have hm:=hl _ (eL (ts:=ts) (i:=i) (by omega));have hd:=tW (ts:=ts) (i:=i) (by omega);obtain⟨t,ht⟩:=ax (ts.getD i kT);rw[ht] at r1 hm hd;rw[hv] at hd;have Kt:=bM hm;have fl:=aR hm;have c8:=eJ hm;have cl:=aL hm;have ml:=cO t.1;rw[hm] at ml;refine ah (bU h2 r1 Kt @eY fl c8 cl (a8 rl @append_nil.{0})) ?_
  repeat refine ae ?_
  refine wl (α:=Nat) (fun k=>⟨[PL ts,.any,.any,.any,.any,.any,.any,PL ts,.int .i64 n,.int .i64 i,.any,.any,.any,.any,.agg (mC t.1),.int .i64 k]++replicate 10 .any,[]⟩) (fun k=>8 - k) (fun k=>k<=8/\iA (t.1.drop k)=iA t.1) 0 ?_ ?_ ?_
  .refine fW [] ?_ ?_
   .simp[bO,eT,cJ,aU,ze]
   simp[fM,fC,aU,cJ,bA,bh,aZ,bJ]
  .exact⟨dU _,rfl⟩
  rintro k ⟨hk,PD⟩;refine aW ?_;refine bK ?_ ?_
  .intro h3 h4;have dZ:=G9 (m:=t.1) (i:=k) (by omega);have qM:=tV (m:=t.1) (i:=k) (by omega);obtain⟨x,hx⟩:=ax (t.1.getD k 0);rw[hx] at dZ qM;rw[PD] at qM;refine ah (fe h4 dZ ml @Nat.mul_one) ?_
   repeat refine ae ?_
   by_cases PE:x<0
   .have e1:decide (x<0)=true:=iK PE;have Sb:R=false:=by rw[hd,qM,mU (show¬0<=x by omega)];rfl
    rw[Sb];simp -dsimp(disch:=omega) only[e1,IntKind.bits,Int.reduceToNat,Int.reducePow,Option.isNone_none,↓reduceIte,reduceCtorEq,reduceAdd,reduceMul,reduceSub,Nat.reduceBEq,reduceEqDiff,reduceLT,reduceLeDiff,ru];refine bc rfl
   have e1:decide (x<0)=false:=mU PE;by_cases uw:1024<x
   .have e2:decide (x>1024)=true:=iK uw;have Sb:R=false:=by rw[hd,qM,mU (show¬x<=1024 by omega)];simp
    rw[Sb];simp -dsimp(disch:=omega) only[e1,e2,IntKind.bits,Int.reduceToNat,Int.reducePow,Option.isNone_none,↓reduceIte,reduceCtorEq,reduceAdd,reduceMul,reduceSub,Nat.reduceBEq,reduceEqDiff,reduceLT,reduceLeDiff,ru];refine bc rfl
   have e2:decide (x>1024)=false:=mU uw;rw[iK (show 0<=x by omega),iK (show x<=1024 by omega)] at qM;simp -dsimp(disch:=omega) only[e1,e2,IntKind.bits,Int.reduceToNat,Int.reducePow,Option.isNone_none,↓reduceIte,reduceCtorEq,reduceAdd,reduceMul,reduceSub,Nat.reduceBEq,reduceEqDiff,reduceLT,reduceLeDiff,ru];refine aw (k+1) ?_ ⟨by omega,by rw[qM];rfl⟩;refine fW [] ?_ ?_
   .simp[bO,eT,cJ,aU,ze]
   simp[fM,fC,aU,cJ,bA,bh,aZ,bJ]
  intro h3 h4;have XH:iA t.1=true:=by rw[<-PD,List.drop_of_length_le (by omega)];rfl
  rw[XH] at hd;refine ah h4 ?_;refine aw (i+1) ?_ ⟨by omega,by rw[hd];rfl⟩;exact bP []
 intro h1 h2;have hRt:R=true:=by rw[<-hv,List.drop_of_length_le (by omega)];rfl
 rw[hRt];refine ah h2 ?_;refine bc rfl
def wi (acc:List Tm):List (List Int×PV):=acc.map (fun t=>(t.1,PV.agg (cn t.2).c))
def sX (acc:List Tm) (m:Mn):Raw:=match mm acc m with | some q=>cn q | none=>rz
theorem sY: ∀ (acc:List Tm) (m:Mn),dC (wi acc) m=(mm acc m).map (fun q=>PV.agg (cn q).c)
 | [],m=>rfl
 | t::acc,m=>by
  have ih:=sY acc m;unfold dC wi mm at ih ⊢;by_cases h:t.1=m
  .rw[List.map_cons,List.find?_cons_of_pos (by simpa using h),List.find?_cons_of_pos (by simpa using h)];rfl
  rw[List.map_cons,List.find?_cons_of_neg (by simpa using h),List.find?_cons_of_neg (by simpa using h)];exact ih
theorem CK (acc:List Tm) (m:Mn):(dC (wi acc) m).getD (.agg [.bool false,.fv (.sl []),.fv (.sl [])])= .agg (sX acc m).c:=by
 rw[sY];unfold sX;cases mm acc m<;>rfl
theorem P' (acc:List Tm) (m:Mn):(dC (wi acc) m).isSome=decide (m∈acc.map (·.1)):=by
 rw[sY];have h:=I0 (a:=acc) (m:=m);cases hf:mm acc m with
 | none=>rw[mU (h.1 hf)];rfl
 | some q=>
  rw[iK (by
   cases hd:decide (m∈acc.map (·.1)) with
   | true=>exact of_decide_eq_true hd
   | false=>rw[h.2 (of_decide_eq_false hd)] at hf;cases hf)]
  rfl
theorem Ml (acc:List Tm) (m:Mn):(sX acc m).q=(mm acc m).getD 0:=by
 unfold sX;cases mm acc m with
 | none=>exact GV
 | some q=>exact cK q
theorem CL: ∀ (acc:List Tm) (m:Mn) (q:Rat),i6 (wi acc) m (.agg (cn ((sX acc m).q+q)).c)=wi (accAdd acc m q)
 | [],m,q=>by
  rw[Ml];show [(m,PV.agg (cn (0+q)).c)]=[(m,PV.agg (cn q).c)];rw[show(0:Rat)+q=q by grind]
 | t::acc,m,q=>by
  have ih:=CL acc m q;rw[Ml] at ih ⊢;unfold accAdd;by_cases h:t.1=m
  .have h1:mm (t::acc) m=some t.2:=by
    unfold mm;rw[List.find?_cons_of_pos (by simpa using h)];rfl
   rw[h1,if_pos h];show(if(t.1==m)=true then(m,PV.agg (cn (t.2+q)).c)::wi acc else _)=_;rw[if_pos (by simpa using h)];rfl
  have h1:mm (t::acc) m=mm acc m:=by
   unfold mm;rw[List.find?_cons_of_neg (by simpa using h)]
  rw[h1,if_neg h];show(if(t.1==m)=true then _ else(t.1,PV.agg (cn t.2).c)::i6 (wi acc) m _)=_;rw[if_neg (by simpa using h),ih];rfl
theorem Mm {acc:List Tm} {m:Mn} {q:Rat} (h:mm acc m=some q):(m,q)∈acc:=by
 unfold mm at h;rw[Option.map_eq_some_iff] at h;obtain⟨t,ht,rfl⟩:=h;have h1:=List.find?_some ht;have h2:=List.mem_of_find?_eq_some ht;have h3:t.1=m:=of_decide_eq_true h1;rw[<-h3];exact h2
theorem UZ (k:Nat):rz.Ok k:=⟨fun d hd=>by simp[rz] at hd,fun d hd=>by simp[rz] at hd,by simp[rz],by simp[rz]⟩
theorem Qa {acc:List Tm} {k:Nat} (h: ∀ t∈acc,Bd k t.2) (m:Mn):(sX acc m).Ok k:=by
 unfold sX;cases hf:mm acc m with
 | none=>exact UZ k
 | some q=>exact bn (h _ (Mm hf))
theorem Mo (t:Tm):tq (tn t)=t:=by
 unfold tq tn;rw[cK]
theorem dQ (ts:List Tm):(ts.map tn).map tq=ts:=by
 rw[List.map_map]
 conv=>rhs;rw[<-List.map_id ts]
 exact List.map_congr_left (fun t _=>Mo t)
theorem Mp {H:List Ob} {id off n s:Nat} {v:FV}:shutBs H id [.lsl id off n s,.fv v]=H:=by simp[shutBs,tf,shutIds,jb,j7,eu]
theorem Hj (ts:List RT) (h8:TsOk 1000000000 ts) (hb:PB 1000000000 (ts.map tq)) (hn:ts.length<=10000000000) (hs:(nf (ts.map tq)).length<=cE):
 Den Tryz.prog 118 [] [PL ts] [] (PL ((nf (ts.map tq)).map tn)):=by
 have rl:=ay ts
 obtain⟨n,cB⟩:=ax ts.length
 rw[cB] at rl hn
 obtain⟨T,hT⟩:=ax (ts.map tq)
 have hTl:T.length=n:=by rw[<-hT,length_map,cB]
 have Sc:Len8 T:=fun t ht=>by
  rw[<-hT] at ht;obtain⟨u,hu,rfl⟩:=mem_map.1 ht;exact(h8 u hu).len
 have abW: ∀ t∈T,∀ x∈t.1,-1000000000000<=x/\x<=1000000000000:=fun t ht=>by
  rw[<-hT] at ht;obtain⟨u,hu,rfl⟩:=mem_map.1 ht;exact(h8 u hu).rng
 rw[hT] at hb hs ⊢
 refine dq Tryz.func118 68 0 ?_
 refine cz rl ?_
 refine wl (α:=Nat) (fun i=>⟨[PL ts,.any,.any,.tab 0,.lsl 1 0 (accL (T.take i)).length 8,.any,.any,.any,.any,.any,.any,.any,.any,PL ts,.int .i64 n,.int .i64 i]++replicate 53 .any,[.tab 8 (wi (accL (T.take i))),.row true (mY ((accL (T.take i)).map (·.1)))]⟩) (fun i=>n - i) (fun i=>i<=n) 0 ?_ (dU _) ?_
 .refine Weak.nil 4 8 (by decide) rfl ?_
  refine fW [0,1] ?_ ?_
  .simp[bO,eT,cJ,aU]
   simp[accL]
  simp[fM,fC,aU,cJ,bA,bh,aZ,bJ]
  simp[accL,wi,mY]
 rintro i hi
 have k6:(accL (T.take i)).length<=i:=by
  have:=Ct (T.take i);rw[length_take] at this;omega
 obtain⟨acc,tE⟩:=ax (accL (T.take i))
 have hbA: ∀ t∈acc,Bd 1000000000 t.2:=by rw[<-tE];exact((hb.take i).accL).bd (by decide)
 rw[tE] at k6 ⊢
 obtain⟨K,hK⟩:=ax acc.length
 have rm:=rr (acc.map (·.1))
 rw[length_map,hK] at rm
 have tkm:=EZ (ms:=acc.map (·.1)) (n:=K) (by rw[length_map];omega)
 rw[hK] at k6 ⊢
 refine aW ?_
 refine bK ?_ ?_
 .intro h1 h2
  have r1:=cM (ts:=ts) (i:=i) (by omega)
  have bC:=eL (ts:=ts) (i:=i) (by omega)
  have bf:=h8 _ bC
  have ec:T.take (i+1)=T.take i++[tq (ts.getD i kT)]:=by
   rw[List.take_add_one,<-hT,List.getElem?_map,qa,qb (by omega)];rfl
  obtain⟨t,ht⟩:=ax (ts.getD i kT)
  rw[ht] at r1 bf ec
  have Sd:=y_ (T.take i) (tq t)
  rw[<-ec,tE] at Sd
  change accL (T.take (i+1))=accAdd acc t.1 t.2.q at Sd
  have hm:=bf.len
  have hrg:=bf.rng
  have R_:=kn acc t.1 t.2.q
  have aA:=congrArg List.length R_
  rw[length_map] at aA
  have Kt:=bM hm
  have fl:=aR hm
  have c8:=eJ hm
  have cl:=aL hm
  have ml:=cO t.1
  rw[hm] at ml
  have m8:=p5 hm
  have mfl:=dn t.1
  rw[hm] at mfl
  have cc:=eK hm
  have EF:=Ce (sX acc t.1) t.2 (Qa hbA t.1) bf.raw
  change Den Tryz.prog 61 [] [.agg (sX acc t.1).c,.agg t.2.c] [] (.agg (cn ((sX acc t.1).q+t.2.q)).c) at EF
  have ct:=CL acc t.1 t.2.q
  have cg:=CK acc t.1
  have Ef:=P' acc t.1
  obtain⟨cur,je⟩:=ax (sX acc t.1)
  obtain⟨sm,XQ⟩:=ax (cn (cur.q+t.2.q))
  rw[je] at EF ct cg
  rw[XQ] at EF ct
  have abZ:(∀ x∈t.1,-9223372036854775808<=x/\x<9223372036854775808):=fun x hx=>by have:=hrg x hx;omega
  by_cases hk:t.1∈acc.map (·.1)
  .rw[iK hk] at Ef
   rw[if_pos hk] at R_ aA
   refine ah (bU h2 r1 Kt @eY fl c8 cl (bU rl hm cg Ef @bS @oP @Bool.not_true @append_nil.{0})) ?_
   repeat refine ae ?_
   refine dw (by kernel_rfl) ?_
   refine ah (f0 c8 cl hm cg cc @bS @oP) ?_
   repeat refine ae ?_
   refine BQ EF ?_
   refine ah (f0 @im @fw ct hm @bS @oP @append_nil.{0}) ?_
   repeat refine ae ?_
   refine aw (i+1) ?_ (by omega)
   rw[Sd,aA,length_map,hK,R_]
   exact bP [0,1]
  rw[mU hk] at Ef
  rw[if_neg hk] at R_ aA
  have cI:=EY (acc.map (·.1)) t.1
  refine ah (bU h2 r1 Kt @eY fl c8 cl (bU rl hm cg Ef @bS @oP @Bool.not_false (bU ml @mn @nU m8 rm tkm cI @append_nil.{0}))) ?_
  repeat refine ae ?_
  refine dw (by kernel_rfl) ?_
  refine ah (f0 c8 cl hm cg cc @bS @oP) ?_
  repeat refine ae ?_
  refine BQ EF ?_
  refine ah (f0 @im @fw ct hm @bS @oP @append_nil.{0}) ?_
  repeat refine ae ?_
  refine aw (i+1) ?_ (by omega)
  rw[Sd,aA,R_,qe,length_map,hK]
  exact bP [0,5]
 intro h1 h2
 have j6:i=n:=by omega
 have R1:T.take i=T:=dm (by omega)
 rw[R1] at tE
 have l6:=pY T
 have uA:=sR Sc
 have ab0: ∀ u∈acc,∀ x∈u.1,-1000000000000<=x/\x<=1000000000000:=fun u hu=>by
  rw[<-tE] at hu;obtain⟨w,hw,he⟩:=mem_map.1 (vZ (mem_map.2 ⟨u,hu,rfl⟩));rw[<-he];exact abW w hw
 have jY:mX T=acc.filter (fun t=>decide (t.2≠0)):=by unfold mX;rw[tE]
 rw[tE] at l6 uA
 have hO:(mX T).length<=n:=by
  rw[jY];have:=List.length_filter_le (fun t:Tm=>decide (t.2≠0)) acc;omega
 refine ah (a8 h2 rm) ?_
 refine wl (α:=Nat) (fun j=>⟨[.any,.any,.any,.tab 0,.any,.any,.any,.any,.any,.lsl 2 0 ((acc.take j).filter (fun t=>decide (t.2≠0))).length 11]++replicate 34 .any++[.lsl 1 0 K 8,.int .i64 K,.int .i64 j]++replicate 22 .any,
  [.tab 8 (wi acc),.row true (mY (acc.map (·.1))),.row true (au (((acc.take j).filter (fun t=>decide (t.2≠0))).map tn))]⟩) (fun j=>K - j) (fun j=>j<=K) 0 ?_ (dU _) ?_
 .refine Weak.nil 9 11 (by decide) rfl ?_
  refine fW [0,1,2] ?_ ?_
  .simp[bO,eT,cJ,aU]
  simp[fM,fC,aU,cJ,bA,bh,aZ,bJ]
  simp[au]
 intro j hj
 obtain⟨out,cZ⟩: ∃ o,(acc.take j).filter (fun t=>decide (t.2≠0))=o:=⟨_,rfl⟩
 have sc:out.length<=j:=by
  rw[<-cZ];have:=List.length_filter_le (fun t:Tm=>decide (t.2≠0)) (acc.take j);rw[length_take] at this;omega
 rw[cZ]
 obtain⟨O,Se⟩:=ax out.length
 have ro:=ay (out.map tn)
 rw[length_map,Se] at ro
 have tko:=c_ (ts:=out.map tn) (n:=O) (by rw[length_map];omega)
 rw[Se] at sc ⊢
 refine aW ?_
 refine bK ?_ ?_
 .intro h3 h4
  obtain⟨u,hu⟩: ∃ u,acc[j]?=some u:=⟨acc[j]'(by omega),by simp⟩
  have hju:=List.mem_of_getElem? hu
  have rmg:=EX (ms:=acc.map (·.1)) (i:=j) (by rw[length_map];omega)
  have XR:(acc.map (·.1)).getD j []=u.1:=by rw[qa,List.getElem?_map,hu];rfl
  rw[XR] at rmg
  have hm:=uA u hju
  have hrg:=ab0 u hju
  have hcu:sX acc u.1=cn u.2:=by
   unfold sX;rw[P3 l6 hu]
  have cg:=CK acc u.1
  rw[hcu] at cg
  have yK:=bn (hbA u hju)
  have g_:=nP (cn u.2) (yK.mono (by decide))
  rw[cK] at g_
  change Den Tryz.prog 113 [] [.agg (cn u.2).c] [] _ at g_
  have fD:acc.take (j+1)=acc.take j++[u]:=by
   rw[List.take_add_one,hu];rfl
  have ml:=cO u.1
  rw[hm] at ml
  have mfl:=dn u.1
  rw[hm] at mfl
  have m8:=vf hm
  have mf8:=p5 hm
  have abZ:(∀ x∈u.1,-9223372036854775808<=x/\x<9223372036854775808):=fun x hx=>by have:=hrg x hx;omega
  refine ah (bU h4 rm rmg mf8 mfl @jL ml (gn m8 hm cg @bS @append_nil.{0})) ?_
  repeat refine ae ?_
  refine BQ g_ ?_
  refine ah @im ?_
  refine Br.bneInt ?_ ?_
  .intro h5 h6
   have Gi:u.2≠0:=fun h=>h5 (aQ.2 h)
   have OA:(acc.take (j+1)).filter (fun t=>decide (t.2≠0))=out++[u]:=by
    rw[fD,filter_append,cZ,List.filter_cons_of_pos (by simpa using Gi)];rfl
   have cI:=jM (out.map tn) (tn u)
   have OB:(out++[u]).map tn=out.map tn++[tn u]:=by simp
   rw[<-OB] at cI
   have htn:(tn u).1.length=8:=hm
   have b1:List.take 8 (mC u.1++[PV.bool false,.nilsl,.nilsl])=mC u.1:=by rw[List.take_append_of_le_length (by omega),m8]
   have b2:List.drop 11 (mC u.1++[PV.bool false,.nilsl,.nilsl])=[]:=List.drop_of_length_le (by simp[ml])
   have b3:mC u.1++(cn u.2).c=gH (tn u):=rfl
   have b4:=bM htn
   have b5:=aL htn
   have b6:=aR htn
   have b7:(mC u.1++[PV.bool false,.nilsl,.nilsl]).length=11:=by simp[ml]
   refine ah h6 ?_
   refine dw (by kernel_rfl) ?_
   refine ah (bU m8 ml hm cg @bS b1 b2 (bU b3 b4 b5 b6 b7 @eh @eG (fe ro tko cI @append_nil.{0}))) ?_
   repeat refine ae ?_
   refine aw (j+1) ?_ (by omega)
   rw[OA,qe,Se]
   exact bP [0,1,5]
  intro h5 h6
  have hz:u.2=0:=aQ.1 h5
  have OA:(acc.take (j+1)).filter (fun t=>decide (t.2≠0))=out:=by
   rw[fD,filter_append,cZ,List.filter_cons_of_neg (by simpa using hz)];simp
  refine ah h6 ?_
  refine aw (j+1) ?_ (by omega)
  rw[OA,Se]
  exact bP [0,1,2]
 intro h3 h4
 have XS:acc.take j=acc:=dm (by omega)
 rw[XS] at cZ
 rw[cZ] at jY
 have Gj:=Cy Sc
 rw[jY,Se] at Gj
 have Ww: ∀ t∈out.map tn,t.1.length=8:=fun t ht=>by
  obtain⟨u,hu,rfl⟩:=mem_map.1 ht;rw[<-cZ] at hu;exact uA u (List.mem_filter.1 hu).1
 obtain⟨ls',hp,hso,Gk⟩:=TB 184 (.agg #[.bool true]) (.lit (.bool true)) rfl (out.map tn) Ww (by rw[length_map];omega) (fun s hs t ht=>ZK s t (Ww s hs) (Ww t ht))
 have ao:ls'=(nf T).map tn:=by
  have h5:(ls'.map tq).Perm (mX T):=by
   rw[jY];have:=hp.map tq;rw[dQ] at this;exact this
  have h6:(ls'.map tq).Pairwise (fun a b=>iV b.1 a.1=false):=by
   rw[List.pairwise_map];refine hso.imp ?_;intro a b uz;have: ¬iV b.1 a.1=true:=uz;exact Bool.eq_false_iff.2 this
  rw[<-G6 Sc h5 h6,List.map_map]
  conv=>lhs;rw[<-List.map_id ls']
  refine List.map_congr_left (fun t ht=>?_);obtain⟨w,_,rfl⟩:=mem_map.1 (hp.mem_iff.1 ht);show tn w=tn (tq (tn w));rw[Mo]
 rw[ao] at Gk
 have k4:((nf T).map tn).length=O:=by rw[length_map,<-Gj]
 have tkf:=c_ (ts:=(nf T).map tn) (n:=O) (by omega)
 have rf:=ay ((nf T).map tn)
 rw[k4] at rf
 rw[length_map,Se] at Gk
 have Wv: ∀ cs l (H:List Ob),pQ H (.agg cs::l)=none:=fun cs l H=>by simp[pQ,dS,dI]
 refine ah (a8 h4 Wv) ?_
 refine d6 2 Gk trivial ?_
 refine bE @Mp ?_
 refine bc ?_
 exact j8 (a8 tkf rf)
theorem TsOk.l8 {k:Nat} {ts:List RT} (h:TsOk k ts): ∀ t∈ts,t.1.length=8:=fun t ht=>(h t ht).len
theorem aeK (ts:List RT) (h8:TsOk 1000000000 ts) (hb:PB 1000000000 (ts.map tq)) (hn:ts.length<=10000000000) (hs:(nf (ts.map tq)).length<=cE) (hv:validB ts=true):
 Den Tryz.prog 109 [] [PL ts] [] (.tup [PL ((nf (ts.map tq)).map tn),.int .i64 0]):=by
 have h1:=Hi ts h8.l8 (by omega)
 rw[hv] at h1
 refine dq Tryz.func109 8 0 ?_
 refine aW ?_
 refine aM h1 ?_
 refine ah @Bool.not_true ?_
 refine gp (Hj ts h8 hb hn hs) rfl ?_
 refine a9 ?_
 refine bc rfl
theorem ZT (ts:List RT) (h8:TsOk 1000000000 ts) (hn:ts.length<=10000000000) (hv:validB ts=false):
 Den Tryz.prog 109 [] [PL ts] [] (.tup [.fv (.sl []),.int .i64 2]):=by
 have h1:=Hi ts h8.l8 (by omega)
 rw[hv] at h1
 refine dq Tryz.func109 8 0 ?_
 refine aW ?_
 refine aM h1 ?_
 refine ah @Bool.not_false ?_
 refine bc rfl
def z8:List Int:=replicate 8 0
theorem fP:z8.length=8:=rfl
theorem U0 (r:Raw):PV.int .i64 0::PV.int .i64 0::PV.int .i64 0::PV.int .i64 0::PV.int .i64 0::PV.int .i64 0::PV.int .i64 0::PV.int .i64 0::r.c=gH (z8,r):=rfl
theorem U2: ∀ y∈z8,-1000000000000<=y/\y<=(1000000000000:Int):=fun y hy=>by
 rw[List.eq_of_mem_replicate hy];omega
theorem Mq {a b:List Int} {i:Nat} (ha:i<a.length) (hb:i<b.length):iV (a.drop i) (b.drop i)=if a.getD i 0=b.getD i 0 then iV (a.drop (i+1)) (b.drop (i+1)) else decide (a.getD i 0>b.getD i 0):=by
 rw[drop_eq_getElem_cons ha,drop_eq_getElem_cons hb,iV,qa,qa,qb ha,qb hb];rfl
theorem ZU (a b:List Int) (ha:a.length=8) (hb:b.length=8):Den Tryz.prog 193 [] [.agg (mC a),.agg (mC b)] [] (.bool (iV a b)):=by
 have la:=cO a;have lb:=cO b;rw[ha] at la;rw[hb] at lb;obtain⟨R,hR⟩:=ax (iV a b);rw[hR];refine dq Tryz.func193 22 0 ?_;refine cz (a8 la lb) ?_
 repeat refine ae ?_
 refine wl (α:=Nat) (fun i=>⟨[.any,.any,.ptr 0 0 0,.ptr 1 0 0,.any,.int .i64 i]++replicate 18 .any,[.box true (mC a),.box true (mC b)]⟩) (fun i=>8 - i) (fun i=>i<=8/\iV (a.drop i) (b.drop i)=R) 0 ?_ ?_ ?_
 .refine fW [0,1] ?_ ?_
  .simp[bO,eT,cJ,aU]
  simp[fM,fC,ze]
 .exact⟨dU _,hR⟩
 rintro i ⟨hi,hv⟩;refine aW ?_;refine bK ?_ ?_
 .intro h1 h2;have aa:=G9 (m:=a) (i:=i) (by omega);have ab:=G9 (m:=b) (i:=i) (by omega);have hd:=Mq (a:=a) (b:=b) (i:=i) (by omega) (by omega);obtain⟨x,hx⟩:=ax (a.getD i 0);obtain⟨y,hy⟩:=ax (b.getD i 0);rw[hx] at aa hd;rw[hy] at ab hd;rw[hv] at hd;refine ah h2 ?_;refine dw (by kernel_rfl) ?_;refine ah (kX aa ab la lb @Nat.mul_one @Nat.zero_add) ?_
  repeat refine ae ?_
  refine Br.bneInt ?_ ?_
  .intro h3 h4;rw[if_neg h3] at hd;rw[hd];refine ah h4 ?_;refine dw (by kernel_rfl) ?_;refine ah (kX aa ab la lb @Nat.mul_one @Nat.zero_add) ?_
   repeat refine ae ?_
   refine bc rfl
  intro h3 h4;rw[if_pos h3] at hd;refine ah h4 ?_;refine aw (i+1) ?_ ⟨by omega,hd.symm⟩;refine fW [0,1] ?_ ?_
  .simp[bO,eT,cJ,aU]
  simp[fM,fC,ze]
 intro h1 h2;have Sb:R=false:=by
  rw[<-hv,List.drop_of_length_le (by omega),List.drop_of_length_le (by omega)];rfl
 rw[Sb];refine ah h2 ?_;refine bc rfl
theorem Qb {p:List Tm} {m:Mn} {q:Rat} {k:Nat} (D': ∀ i (h:i<p.length),i<k->iV (p[i]'h).1 m=true) (Eg: ∀ i (h:i<p.length),k<=i->iV (p[i]'h).1 m=false) (hk:k<=p.length):
 insT p (m,q)=if _h:k<p.length/\(p.getD k ([],0)).1=m then
  (if q+(p.getD k ([],0)).2=0 then p.take k++p.drop (k+1) else p.take k++[(m,q+(p.getD k ([],0)).2)]++p.drop (k+1)) else
  (if q=0 then p.take k++p.drop k else p.take k++[(m,q)]++p.drop k):=by
 rw[G5 (p:=p) (t:=(m,q)) (k:=k) (fun i h V4=>D' i h V4) hk]
 by_cases k6:k<p.length
 .have hx:=Eg k k6 (qp _)
  have BT:p.getD k ([],0)=p[k]:=by rw[qa,qb k6];rfl
  rw[BT]
  rw[drop_eq_getElem_cons k6]
  unfold insT
  rw[hx]
  by_cases he:p[k].1=m
  .rw[dif_pos ⟨k6,he⟩]
   simp only[he]
   by_cases hz:q+p[k].2=0
   .simp[hz]
   simp[hz]
  rw[dif_neg (fun h=>he h.2)]
  simp only[he]
  by_cases hz:q=0
  .simp[hz]
  simp[hz]
 rw[dif_neg (fun h=>k6 h.1),List.drop_of_length_le (by omega)]
 unfold insT
 by_cases hz:q=0
 .simp[hz]
 simp[hz]
theorem CM {p:List Tm} (h:Canon p) {i j:Nat} (hj:j<p.length) (uX:i<j):iV (p[i]'(by omega)).1 p[j].1=true:=List.pairwise_iff_getElem.1 h.sorted i j (by omega) hj uX
theorem ZV (p:List Tm) (t:RT) (hp:Canon p) (hb: ∀ u∈p,Bd 1000000000 u.2) (bf:TOk 1000000000 t) (hn:p.length<=10000000000)
 (hs: ∀ u∈p,u.1=t.1->Bd 1000000000 (t.2.q+u.2)):
 Den Tryz.prog 129 [] [PL (p.map tn),.agg (gH t)] [] (PL ((insT p (tq t)).map tn)):=by
 have hm:=bf.len
 have cl:=aL hm
 have rl:=ay (p.map tn)
 have p8: ∀ u∈p.map tn,u.1.length=8:=fun u hu=>by
  obtain⟨w,hw,rfl⟩:=mem_map.1 hu;exact hp.len w hw
 have K1: ∀ y∈au (p.map tn),y.length=11:=fun y hy=>by
  obtain⟨u,hu,rfl⟩:=mem_map.1 hy;exact aR (p8 u hu)
 obtain⟨n,cB⟩:=ax p.length
 rw[length_map,cB] at rl
 rw[cB] at hn
 have c8:=eJ hm
 refine dq Tryz.func129 73 0 ?_
 refine cz (a8 cl rl) ?_
 repeat refine ae ?_
 refine wl (α:=Nat×Nat) (fun⟨lo,hi⟩=>⟨[PL (p.map tn),.any,.any,.ptr 0 0 0,.any,.int .i64 lo,.int .i64 hi]++replicate 68 .any,[.box true (gH t)]⟩) (fun⟨lo,hi⟩=>hi - lo)
  (fun⟨lo,hi⟩=>lo<=hi/\hi<=n/\(∀ i (h:i<p.length),i<lo->iV (p[i]'h).1 t.1=true)/\(∀ i (h:i<p.length),hi<=i->iV (p[i]'h).1 t.1=false)) (0,n) ?_ ?_ ?_
 .refine fW [0] ?_ ?_
  .simp[bO,eT,cJ,aU]
  simp[fM,fC,iz]
 .exact⟨dU _,qp _,fun i _ h=>by omega,fun i h h2=>by omega⟩
 rintro⟨lo,hi⟩ ⟨h1,h2,gj,gK⟩
 refine aW ?_
 refine bK ?_ ?_
 .intro h3 h4
  obtain⟨mid,akf⟩: ∃ m:Nat,(lo+hi) / 2=m:=⟨_,rfl⟩
  have e1:((lo:Int)+(hi:Int)) / 2=(mid:Int):=by omega
  have tD:mid<p.length:=by omega
  have r1:=cM (ts:=p.map tn) (i:=mid) (by rw[length_map];omega)
  have Gf:=p8 _ (eL (ts:=p.map tn) (i:=mid) (by rw[length_map];omega))
  have hgx:((p.map tn).getD mid kT).1=p[mid].1:=by
   rw[qa,List.getElem?_map,qb tD];rfl
  obtain⟨x,hx⟩:=ax ((p.map tn).getD mid kT)
  rw[hx] at r1 Gf hgx
  have PC:=lB Gf
  have xl:=aR Gf
  have hg:=ZU x.1 t.1 Gf hm
  have xJ:iV x.1 t.1=iV p[mid].1 t.1:=by rw[hgx]
  simp -dsimp(disch:=omega) only[h4,e1,IntKind.bits,Int.reduceToNat,Int.reducePow,Option.isNone_none,↓reduceIte,reduceCtorEq,reduceAdd,reduceMul,reduceSub,Nat.reduceBEq,reduceEqDiff,reduceLT,reduceLeDiff,ru]
  refine⟨by decide,?_⟩
  refine dw (by kernel_rfl) ?_
  refine ah (f0 r1 PC xl @jL rl c8 cl) ?_
  repeat refine ae ?_
  refine gp hg (by simp[bH,eS,mn,jL]) ?_
  refine ah @nU ?_
  cases hgv:iV x.1 t.1 with
  | true=>
   rw[hgv] at xJ;refine a9 ?_;refine aw (mid+1,hi) ?_ ⟨by omega,h2,fun i h gq=>?_,gK⟩
   .refine fW [0] ?_ ?_
    .simp[bO,eT,cJ,aU]
    simp[fM,fC,iz]
   .by_cases iZ:i=mid
    .subst iZ;exact xJ.symm
    .exact iw (CM hp tD (by omega)) xJ.symm
  | false=>
   rw[hgv] at xJ;refine a9 ?_;refine aw (lo,mid) ?_ ⟨by omega,by omega,gj,fun i h gq=>?_⟩
   .refine fW [0] ?_ ?_
    .simp[bO,eT,cJ,aU]
    simp[fM,fC,iz]
   by_cases iZ:i=mid
   .subst iZ;exact xJ.symm
   cases RS:iV p[i].1 t.1 with
   | false=>rfl
   | true=>
    have:=iw (CM hp h (show mid<i by omega)) RS;rw[<-xJ] at this;cases this
 intro h3 h4
 have cX:lo=hi:=by omega
 subst cX
 have heq:=Qb (q:=t.2.q) gj gK (by omega)
 have uB:List.take lo (au (p.map tn))=au ((p.take lo).map tn):=by simp[au,List.map_take]
 have PF:List.drop lo (au (p.map tn))=au ((p.drop lo).map tn):=by simp[au,List.map_drop]
 have XT:List.drop (lo+1) (au (p.map tn))=au ((p.drop (lo+1)).map tn):=by simp[au,List.map_drop]
 have lt_:(au ((p.take lo).map tn)).length=lo:=by rw[ay,length_map,length_take];omega
 have B0:(au ((p.drop lo).map tn)).length=n - lo:=by rw[ay,length_map,length_drop,cB]
 have Wx:(au ((p.drop (lo+1)).map tn)).length=n - (lo+1):=by rw[ay,length_map,length_drop,cB]
 have tk_:List.take lo (au ((p.take lo).map tn))=au ((p.take lo).map tn):=dm (by omega)
 have yM:List.take (n - lo) (au ((p.drop lo).map tn))=au ((p.drop lo).map tn):=dm (by omega)
 have OC:List.take (n - (lo+1)) (au ((p.drop (lo+1)).map tn))=au ((p.drop (lo+1)).map tn):=dm (by omega)
 have XU:((lo:Int)+1).toNat=lo+1:=by omega
 have Wy: ∀ y∈au ((p.take lo).map tn),y.length=11:=fun y hy=>K1 y (by rw[<-uB] at hy;exact xY hy)
 have Sf: ∀ y∈au ((p.drop lo).map tn),y.length=11:=fun y hy=>K1 y (by rw[<-PF] at hy;exact Yf hy)
 have ab1: ∀ y∈au ((p.drop (lo+1)).map tn),y.length=11:=fun y hy=>K1 y (by rw[<-XT] at hy;exact Yf hy)
 by_cases jF:lo<n
 .have RI:lo<p.length:=by omega
  have r1:=cM (ts:=p.map tn) (i:=lo) (by rw[length_map];omega)
  have Gf:=p8 _ (eL (ts:=p.map tn) (i:=lo) (by rw[length_map];omega))
  have Kl:(p.map tn).getD lo kT=tn p[lo]:=by
   rw[qa,List.getElem?_map,qb RI];rfl
  have BT:p.getD lo ([],0)=p[lo]:=by rw[qa,qb RI];rfl
  rw[Kl] at r1 Gf
  rw[BT] at heq
  have hsu:=hs p[lo] (pP RI)
  have XV:=hb p[lo] (pP RI)
  obtain⟨u,hu⟩:=ax (p[lo])
  rw[hu] at r1 Gf heq hsu XV
  have PC:=lB Gf
  have xl:=aR Gf
  have uw:(tn u).1=u.1:=rfl
  rw[uw] at PC Gf
  have Py:decide ((lo:Int)<(n:Int))=true:=BR
  have xc:=sS (t:=tn u) Gf
  by_cases hee:u.1=t.1
  .have dp:(u.1==t.1)=true:=by rw[hee];exact beq_self_eq_true _
   refine ah (fe h4 uB lt_ @Nat.sub_zero) ?_
   refine⟨⟨by omega,by omega,by omega,K1⟩,⟨Wy,by omega,by omega⟩,?_⟩
   refine dw (by kernel_rfl) ?_
   simp -dsimp(disch:=omega) only[rl,Py,r1,PC,xl,jL,c8,cl,Gf,hm,dp,Bool.and_self,IntKind.bits,Int.reduceToNat,Int.reducePow,Option.isNone_none,↓reduceIte,reduceCtorEq,reduceAdd,reduceMul,reduceSub,Nat.reduceBEq,reduceEqDiff,reduceLT,reduceLeDiff,ru]
   repeat refine ae ?_
   have ye:=hsu hee
   have Ow:=LD t.2 (cn u.2) bf.raw (bn XV)
   rw[cK] at Ow
   change Den Tryz.prog 48 [] [.agg t.2.c,.agg (cn u.2).c] [] (.agg (cn (t.2.q+u.2)).c) at Ow
   have OD:=lC (t:=t) (r:=cn (t.2.q+u.2)) hm
   have tcc:=eK hm
   have xcc:(tn u).2.f.map .fv=(cn u.2).c:=rfl
   rw[dif_pos ⟨by omega,hee⟩] at heq
   obtain⟨c,hc⟩:=ax (t.2.q+u.2)
   rw[hc] at heq Ow OD ye
   obtain⟨r,hr⟩:=ax (cn c)
   have Wz:r.q=c:=by rw[<-hr,cK]
   have yK:r.Ok 1000000000:=by rw[<-hr];exact bn ye
   rw[hr] at Ow OD
   refine dw (by kernel_rfl) ?_
   refine ah (bU tcc @p6 @bS cl r1 rl xc (gn xcc xl @Cz @L6 @L5)) ?_
   repeat refine ae ?_
   refine BQ Ow ?_
   refine ah (kX @im @fw cl @bS OD @append_nil.{0}) ?_
   repeat refine ae ?_
   have kN:=kg r (yK.mono (by decide))
   change Den Tryz.prog 92 [] [.agg r.c] [] (.agg (cn r.q).c) at kN
   rw[Wz] at kN
   have hbc:Bd 1000000000 c:=ye
   have iX:=kh (cn c) ((bn hbc).mono (by decide))
   rw[cK] at iX
   change Den Tryz.prog 41 [] [.agg (cn c).c] [] (.int .i64 (eg c)) at iX
   have yN:((t.1,cn c):RT).1.length=8:=hm
   have kk1:=eZ yN
   have kk2:=bM yN
   have T8:=aL yN
   have kk4:=aR yN
   have kk5:=eK yN
   have jZ:=lC (t:=(t.1,r)) (r:=cn c) hm
   have c8r:List.take 3 (List.drop 8 (gH (t.1,r)))=r.c:=eK (t:=(t.1,r)) hm
   have clr:(gH (t.1,r)).length=11:=aL (t:=(t.1,r)) hm
   refine ah (bB c8r clr @bS) ?_
   repeat refine ae ?_
   refine BQ kN ?_
   refine ah (f0 @im @fw clr @bS jZ T8 kk5) ?_
   repeat refine ae ?_
   refine BQ iX ?_
   refine ah @im ?_
   refine Br.bneInt ?_ ?_
   .intro h5 h6
    have Gi:c≠0:=fun h=>h5 (aQ.2 h)
    have cI:au ((p.take lo).map tn)++[gI (t.1,cn c)]++au ((p.drop (lo+1)).map tn)=au ((insT p (tq t)).map tn):=by
     have:insT p (tq t)=p.take lo++[(t.1,c)]++p.drop (lo+1):=by show insT p (t.1,t.2.q)=_;rw[heq,if_neg Gi]
     rw[this];simp[au,tn]
    have gv:=ay ((insT p (tq t)).map tn)
    have jF:(au ((p.take lo).map tn)).length+1+(n - (lo+1))=(au ((insT p (tq t)).map tn)).length:=by
     rw[<-cI];simp only[qe,length_cons,length_nil,ay,length_map,length_drop,cB]
    rw[lt_] at jF
    obtain⟨FN,sj⟩:=ax (au ((insT p (tq t)).map tn))
    rw[sj] at cI jF
    have OE:(au ((p.take lo).map tn)++[gI (t.1,cn c)]).length=lo+1:=by rw[qe,lt_];rfl
    have tkap:List.take (lo+1) (au ((p.take lo).map tn)++[gI (t.1,cn c)])=au ((p.take lo).map tn)++[gI (t.1,cn c)]:=dm (by omega)
    have tkF:List.take (lo+1+(n - (lo+1))) FN=FN:=dm (by omega)
    refine ah (bU h6 kk1 kk2 T8 kk4 @eh @eG (bU rl lt_ tk_ XT Wx OC OE (fe tkap XU cI @append_nil.{0}))) ?_
    repeat refine qy (by repeat' (first | omega | exact K1 | exact ab1 | apply qy)) ?_
    refine bc ?_
    refine tA (a8 tkF jF) ?_
    rw[<-sj]
   intro h5 h6
   have hz:c=0:=aQ.1 h5
   have cI:au ((p.take lo).map tn)++au ((p.drop (lo+1)).map tn)=au ((insT p (tq t)).map tn):=by
    have:insT p (tq t)=p.take lo++p.drop (lo+1):=by show insT p (t.1,t.2.q)=_;rw[heq,if_pos hz]
    rw[this];simp[au]
   have jF:(au ((p.take lo).map tn)).length+(n - (lo+1))=(au ((insT p (tq t)).map tn)).length:=by
    rw[<-cI];simp only[qe,ay,length_map,length_drop,cB]
   rw[lt_] at jF
   obtain⟨FN,sj⟩:=ax (au ((insT p (tq t)).map tn))
   rw[sj] at cI jF
   have tkF:List.take (lo+(n - (lo+1))) FN=FN:=dm (by omega)
   refine ah (bU h6 rl lt_ tk_ XT Wx OC (bB XU cI @append_nil.{0})) ?_
   repeat refine qy (by repeat' (first | omega | exact K1 | exact ab1 | apply qy)) ?_
   refine bc ?_
   refine tA (a8 tkF jF) ?_
   rw[<-sj]
  have dp:(u.1==t.1)=false:=by rw[qx];exact hee
  refine ah (fe h4 uB lt_ @Nat.sub_zero) ?_
  refine⟨⟨by omega,by omega,by omega,K1⟩,⟨Wy,by omega,by omega⟩,?_⟩
  refine dw (by kernel_rfl) ?_
  simp -dsimp(disch:=omega) only[rl,Py,r1,PC,xl,jL,c8,cl,Gf,hm,dp,Bool.and_self,IntKind.bits,Int.reduceToNat,Int.reducePow,Option.isNone_none,↓reduceIte,reduceCtorEq,reduceAdd,reduceMul,reduceSub,Nat.reduceBEq,reduceEqDiff,reduceLT,reduceLeDiff,ru]
  repeat refine ae ?_
  rw[dif_neg (fun h=>hee h.2)] at heq
  obtain⟨r,hr⟩:=ax t.2
  have Wz:r.q=t.2.q:=by rw[<-hr]
  have yK:r.Ok 1000000000:=by rw[<-hr];exact bf.raw
  have Sg:gH t=gH (t.1,r):=by rw[<-hr]
  have ye:Bd 1000000000 t.2.q:=bf.raw.bd (by decide)
  obtain⟨c,hc⟩:=ax t.2.q
  rw[hc] at heq Wz ye
  rw[Sg]
  have kN:=kg r (yK.mono (by decide))
  change Den Tryz.prog 92 [] [.agg r.c] [] (.agg (cn r.q).c) at kN
  rw[Wz] at kN
  have hbc:Bd 1000000000 c:=ye
  have iX:=kh (cn c) ((bn hbc).mono (by decide))
  rw[cK] at iX
  change Den Tryz.prog 41 [] [.agg (cn c).c] [] (.int .i64 (eg c)) at iX
  have yN:((t.1,cn c):RT).1.length=8:=hm
  have kk1:=eZ yN
  have kk2:=bM yN
  have T8:=aL yN
  have kk4:=aR yN
  have kk5:=eK yN
  have jZ:=lC (t:=(t.1,r)) (r:=cn c) hm
  have c8r:List.take 3 (List.drop 8 (gH (t.1,r)))=r.c:=eK (t:=(t.1,r)) hm
  have clr:(gH (t.1,r)).length=11:=aL (t:=(t.1,r)) hm
  refine ah (bB c8r clr @bS) ?_
  repeat refine ae ?_
  refine BQ kN ?_
  refine ah (f0 @im @fw clr @bS jZ T8 kk5) ?_
  repeat refine ae ?_
  refine BQ iX ?_
  refine ah @im ?_
  refine Br.bneInt ?_ ?_
  .intro h5 h6
   have Gi:c≠0:=fun h=>h5 (aQ.2 h)
   have cI:au ((p.take lo).map tn)++[gI (t.1,cn c)]++au ((p.drop lo).map tn)=au ((insT p (tq t)).map tn):=by
    have:insT p (tq t)=p.take lo++[(t.1,c)]++p.drop lo:=by show insT p (t.1,t.2.q)=_;rw[show t.2.q=c from hc,heq,if_neg Gi]
    rw[this];simp[au,tn]
   have gv:=ay ((insT p (tq t)).map tn)
   have jF:(au ((p.take lo).map tn)).length+1+(n - lo)=(au ((insT p (tq t)).map tn)).length:=by
    rw[<-cI];simp only[qe,length_cons,length_nil,ay,length_map,length_drop,cB]
   rw[lt_] at jF
   obtain⟨FN,sj⟩:=ax (au ((insT p (tq t)).map tn))
   rw[sj] at cI jF
   have OE:(au ((p.take lo).map tn)++[gI (t.1,cn c)]).length=lo+1:=by rw[qe,lt_];rfl
   have tkap:List.take (lo+1) (au ((p.take lo).map tn)++[gI (t.1,cn c)])=au ((p.take lo).map tn)++[gI (t.1,cn c)]:=dm (by omega)
   have tkF:List.take (lo+1+(n - lo)) FN=FN:=dm (by omega)
   refine ah (bU h6 kk1 kk2 T8 kk4 @eh @eG (bU rl lt_ tk_ PF B0 yM OE (fe tkap XU cI @append_nil.{0}))) ?_
   repeat refine qy (by repeat' (first | omega | exact K1 | exact Sf | apply qy)) ?_
   refine bc ?_
   refine tA (a8 tkF jF) ?_
   rw[<-sj]
  intro h5 h6
  have hz:c=0:=aQ.1 h5
  have cI:au ((p.take lo).map tn)++au ((p.drop lo).map tn)=au ((insT p (tq t)).map tn):=by
   have:insT p (tq t)=p.take lo++p.drop lo:=by show insT p (t.1,t.2.q)=_;rw[show t.2.q=c from hc,heq,if_pos hz]
   rw[this];simp[au]
  have jF:(au ((p.take lo).map tn)).length+(n - lo)=(au ((insT p (tq t)).map tn)).length:=by
   rw[<-cI];simp only[qe,ay,length_map,length_drop,cB]
  rw[lt_] at jF
  obtain⟨FN,sj⟩:=ax (au ((insT p (tq t)).map tn))
  rw[sj] at cI jF
  have tkF:List.take (lo+(n - lo)) FN=FN:=dm (by omega)
  refine ah (bU h6 rl lt_ tk_ PF B0 yM (bB XU cI @append_nil.{0})) ?_
  repeat refine qy (by repeat' (first | omega | exact K1 | exact Sf | apply qy)) ?_
  refine bc ?_
  refine tA (a8 tkF jF) ?_
  rw[<-sj]
 have Py:decide ((lo:Int)<(n:Int))=false:=qV
 refine ah (fe h4 uB lt_ @Nat.sub_zero) ?_
 refine⟨⟨by omega,by omega,by omega,K1⟩,⟨Wy,by omega,by omega⟩,?_⟩
 refine dw (by kernel_rfl) ?_
 refine ah (a8 rl Py) ?_
 rw[dif_neg (fun h=>jF (by omega))] at heq
 obtain⟨r,hr⟩:=ax t.2
 have Wz:r.q=t.2.q:=by rw[<-hr]
 have yK:r.Ok 1000000000:=by rw[<-hr];exact bf.raw
 have Sg:gH t=gH (t.1,r):=by rw[<-hr]
 have ye:Bd 1000000000 t.2.q:=bf.raw.bd (by decide)
 obtain⟨c,hc⟩:=ax t.2.q
 rw[hc] at heq Wz ye
 rw[Sg]
 have kN:=kg r (yK.mono (by decide))
 change Den Tryz.prog 92 [] [.agg r.c] [] (.agg (cn r.q).c) at kN
 rw[Wz] at kN
 have hbc:Bd 1000000000 c:=ye
 have iX:=kh (cn c) ((bn hbc).mono (by decide))
 rw[cK] at iX
 change Den Tryz.prog 41 [] [.agg (cn c).c] [] (.int .i64 (eg c)) at iX
 have yN:((t.1,cn c):RT).1.length=8:=hm
 have kk1:=eZ yN
 have kk2:=bM yN
 have T8:=aL yN
 have kk4:=aR yN
 have kk5:=eK yN
 have jZ:=lC (t:=(t.1,r)) (r:=cn c) hm
 have c8r:List.take 3 (List.drop 8 (gH (t.1,r)))=r.c:=eK (t:=(t.1,r)) hm
 have clr:(gH (t.1,r)).length=11:=aL (t:=(t.1,r)) hm
 refine ah (bB c8r clr @bS) ?_
 repeat refine ae ?_
 refine BQ kN ?_
 refine ah (f0 @im @fw clr @bS jZ T8 kk5) ?_
 repeat refine ae ?_
 refine BQ iX ?_
 refine ah @im ?_
 refine Br.bneInt ?_ ?_
 .intro h5 h6
  have Gi:c≠0:=fun h=>h5 (aQ.2 h)
  have cI:au ((p.take lo).map tn)++[gI (t.1,cn c)]++au ((p.drop lo).map tn)=au ((insT p (tq t)).map tn):=by
   have:insT p (tq t)=p.take lo++[(t.1,c)]++p.drop lo:=by show insT p (t.1,t.2.q)=_;rw[show t.2.q=c from hc,heq,if_neg Gi]
   rw[this];simp[au,tn]
  have gv:=ay ((insT p (tq t)).map tn)
  have jF:(au ((p.take lo).map tn)).length+1+(n - lo)=(au ((insT p (tq t)).map tn)).length:=by
   rw[<-cI];simp only[qe,length_cons,length_nil,ay,length_map,length_drop,cB]
  rw[lt_] at jF
  obtain⟨FN,sj⟩:=ax (au ((insT p (tq t)).map tn))
  rw[sj] at cI jF
  have OE:(au ((p.take lo).map tn)++[gI (t.1,cn c)]).length=lo+1:=by rw[qe,lt_];rfl
  have tkap:List.take (lo+1) (au ((p.take lo).map tn)++[gI (t.1,cn c)])=au ((p.take lo).map tn)++[gI (t.1,cn c)]:=dm (by omega)
  have tkF:List.take (lo+1+(n - lo)) FN=FN:=dm (by omega)
  refine ah (bU h6 kk1 kk2 T8 kk4 @eh @eG (bU rl lt_ tk_ PF B0 yM OE (fe tkap XU cI @append_nil.{0}))) ?_
  repeat refine qy (by repeat' (first | omega | exact K1 | exact Sf | apply qy)) ?_
  refine bc ?_
  refine tA (a8 tkF jF) ?_
  rw[<-sj]
 intro h5 h6
 have hz:c=0:=aQ.1 h5
 have cI:au ((p.take lo).map tn)++au ((p.drop lo).map tn)=au ((insT p (tq t)).map tn):=by
  have:insT p (tq t)=p.take lo++p.drop lo:=by show insT p (t.1,t.2.q)=_;rw[show t.2.q=c from hc,heq,if_pos hz]
  rw[this];simp[au]
 have jF:(au ((p.take lo).map tn)).length+(n - lo)=(au ((insT p (tq t)).map tn)).length:=by
  rw[<-cI];simp only[qe,ay,length_map,length_drop,cB]
 rw[lt_] at jF
 obtain⟨FN,sj⟩:=ax (au ((insT p (tq t)).map tn))
 rw[sj] at cI jF
 have tkF:List.take (lo+(n - lo)) FN=FN:=dm (by omega)
 refine ah (bU h6 rl lt_ tk_ PF B0 yM (bB XU cI @append_nil.{0})) ?_
 repeat refine qy (by repeat' (first | omega | exact K1 | exact Sf | apply qy)) ?_
 refine bc ?_
 refine tA (a8 tkF jF) ?_
 rw[<-sj]
theorem ZW (ts:List RT) (h8:TsOk 1000000000 ts) (hb:PB 1000000000 (ts.map tq)) (hn:ts.length<=10000000000):Den Tryz.prog 69 [] [PL ts] [] (PL ((nf (ts.map tq)).map tn)):=by
 have rl:=ay ts;obtain⟨n,cB⟩:=ax ts.length;rw[cB] at rl hn;obtain⟨T,hT⟩:=ax (ts.map tq);have hTl:T.length=n:=by rw[<-hT,length_map,cB]
 have Sc:Len8 T:=fun t ht=>by
  rw[<-hT] at ht;obtain⟨u,hu,rfl⟩:=mem_map.1 ht;exact(h8 u hu).len
 rw[hT] at hb ⊢;refine dq Tryz.func69 17 0 ?_;refine aW ?_;refine wl (α:=Nat) (fun i=>⟨[PL ts,.any,.any,PL ((nf (T.take i)).map tn),.int .i64 i]++replicate 13 .any,[]⟩) (fun i=>n - i) (fun i=>i<=n) 0 ?_ (dU _) ?_
 .refine fW [] ?_ ?_
  .simp[bO,eT,cJ,aU];simp[nf,au];trivial
  simp[fM,fC,aU,cJ,bA,bh,aZ,bJ]
 intro i hi;refine cz rl ?_;refine bK ?_ ?_
 .intro h1 h2;have r1:=cM (ts:=ts) (i:=i) (by omega);have bf:=h8 _ (eL (ts:=ts) (i:=i) (by omega));have ec:T.take (i+1)=T.take i++[tq (ts.getD i kT)]:=by
   rw[List.take_add_one,<-hT,List.getElem?_map,qa,qb (by omega)];rfl
  obtain⟨t,ht⟩:=ax (ts.getD i kT);rw[ht] at r1 bf ec;have dp:=hb.take (i+1);rw[ec] at dp;have agb:Len8 (T.take i):=fun u hu=>Sc u (xY hu)
  have aA:(nf (T.take i)).length<=10000000000:=by
   have:=Ay (T.take i);rw[length_take] at this;omega
  have WB:=ZV (nf (T.take i)) t (dW agb) ((hb.take i).nf.bd (by decide)) bf aA (fun u hu _=>dp.snoc_bd (by decide) u hu);have hni:insT (nf (T.take i)) (tq t)=nf (T.take (i+1)):=by
   rw[ec];unfold nf;rw[List.foldl_append];rfl
  rw[hni] at WB;have hm:=bf.len;have Kt:=bM hm;have fl:=aR hm;have cl:=aL hm;obtain⟨P,hP⟩:=ax ((nf (T.take i)).map tn);rw[hP] at WB ⊢;refine ah (f0 h2 r1 rl Kt @eY fl cl) ?_
  repeat refine ae ?_
  refine gp WB (by simp[bH,eS,dS,dI,eh,eY]) ?_;refine ah @eG ?_;refine aw (i+1) ?_ (by omega);exact bP []
 intro h1 h2;have R1:T.take i=T:=dm (by omega);rw[R1];refine ah h2 ?_;refine bc rfl
theorem aeL (ts:List RT) (h8:TsOk 5000000000 ts) (hn:ts.length<=10000000000):Den Tryz.prog 79 [] [PL ts,PL ts] [] (.bool true):=by
 have rl:=ay ts;obtain⟨n,cB⟩:=ax ts.length;rw[cB] at rl hn;have e1:((n:Int) !=(n:Int))=false:=by simp
 refine dq Tryz.func79 40 0 ?_;simp -dsimp(disch:=omega) only[replicate,rl,e1,IntKind.bits,Int.reduceToNat,Int.reducePow,Option.isNone_none,↓reduceIte,reduceCtorEq,reduceAdd,reduceMul,reduceSub,Nat.reduceBEq,reduceEqDiff,reduceLT,reduceLeDiff,ru];refine wl (α:=Nat) (fun i=>⟨[PL ts,PL ts,.any,.any,.any,.int .i64 i]++replicate 36 .any,[]⟩) (fun i=>n - i) (fun i=>i<=n) 0 ?_ (dU _) ?_
 .exact bP []
 intro i hi;refine cz rl ?_;refine bK ?_ ?_
 .intro h1 h2;have r1:=cM (ts:=ts) (i:=i) (by omega);have bf:=h8 _ (eL (ts:=ts) (i:=i) (by omega));obtain⟨t,ht⟩:=ax (ts.getD i kT);rw[ht] at r1 bf;have hm:=bf.len;have f8:=lB hm;have fl:=aR hm;have fd:=sS hm;have dp:(t.1==t.1)=true:=beq_self_eq_true _;have BW:=LI t.2 t.2 bf.raw bf.raw;rw[v7] at BW;change Den Tryz.prog 19 [] [.agg t.2.c,.agg t.2.c] [] _ at BW;refine ah h2 ?_;refine dw (by kernel_rfl) ?_;simp -dsimp(disch:=omega) only[r1,rl,f8,fl,fd,jL,hm,dp,Bool.and_self,Bool.not_true,L6,Cz,L5,IntKind.bits,Int.reduceToNat,Int.reducePow,Option.isNone_none,↓reduceIte,reduceCtorEq,reduceAdd,reduceMul,reduceSub,Nat.reduceBEq,reduceEqDiff,reduceLT,reduceLeDiff,ru]
  repeat refine ae ?_
  refine BQ BW ?_;refine ah (bB @im @Bool.not_true @append_nil.{0}) ?_
  repeat refine ae ?_
  refine aw (i+1) ?_ (by omega);exact bP []
 intro h1 h2;refine ah h2 ?_;refine bc rfl
theorem ZX (ts:List RT) (hl: ∀ t∈ts,t.1.length=8) (hn:ts.length<=1000000000000):Den Tryz.prog 207 [] [PL ts] [] (.bool (validB ts)):=by
 have rl:=ay ts;obtain⟨n,cB⟩:=ax ts.length;rw[cB] at rl hn;obtain⟨R,hR⟩:=ax (validB ts);rw[hR];refine dq Tryz.func207 32 0 ?_;refine cz rl ?_;refine wl (α:=Nat) (fun i=>⟨[PL ts,.any,.any,.int .i64 i]++replicate 29 .any,[]⟩) (fun i=>n - i) (fun i=>i<=n/\validB (ts.drop i)=R) 0 ?_ ?_ ?_
 .exact bP []
 .exact⟨dU _,hR⟩
 rintro i ⟨hi,hv⟩;refine cz rl ?_;refine bK ?_ ?_
 .intro h1 h2;have r1:=cM (ts:=ts) (i:=i) (by omega);have hm:=hl _ (eL (ts:=ts) (i:=i) (by omega));have hd:=tW (ts:=ts) (i:=i) (by omega);obtain⟨t,ht⟩:=ax (ts.getD i kT);rw[ht] at r1 hm hd;rw[hv] at hd;have fl:=aR hm;have t8:=lB hm;have ml:=dn t.1;rw[hm] at ml;refine ah h2 ?_;refine wl (α:=Nat) (fun k=>⟨[PL ts,.any,.any,.int .i64 i,.int .i64 k]++replicate 28 .any,[]⟩) (fun k=>8 - k) (fun k=>k<=8/\iA (t.1.drop k)=iA t.1) 0 ?_ ?_ ?_
  .exact bP []
  .exact⟨dU _,rfl⟩
  rintro k ⟨hk,PD⟩;refine aW ?_;refine bK ?_ ?_
  .intro h3 h4;have dZ:=UU (t:=t) (i:=k) (by omega) hm;have qM:=tV (m:=t.1) (i:=k) (by omega);obtain⟨x,hx⟩:=ax (t.1.getD k 0);rw[hx] at dZ qM;rw[PD] at qM;refine ah (bU h4 r1 rl fl t8 dZ ml (a8 @Nat.mul_one @length_drop.{0})) ?_
   repeat refine ae ?_
   by_cases PE:x<0
   .have e1:decide (x<0)=true:=iK PE;have Sb:R=false:=by rw[hd,qM,mU (show¬0<=x by omega)];rfl
    rw[Sb];simp -dsimp(disch:=omega) only[e1,fl,length_drop,IntKind.bits,Int.reduceToNat,Int.reducePow,Option.isNone_none,↓reduceIte,reduceCtorEq,reduceAdd,reduceMul,reduceSub,Nat.reduceBEq,reduceEqDiff,reduceLT,reduceLeDiff,ru]
    repeat refine ae ?_
    refine bc rfl
   have e1:decide (x<0)=false:=mU PE;by_cases uw:1024<x
   .have e2:decide (x>1024)=true:=iK uw;have Sb:R=false:=by rw[hd,qM,mU (show¬x<=1024 by omega)];simp
    rw[Sb];simp -dsimp(disch:=omega) only[e1,e2,r1,rl,fl,t8,dZ,ml,Nat.mul_one,length_drop,IntKind.bits,Int.reduceToNat,Int.reducePow,Option.isNone_none,↓reduceIte,reduceCtorEq,reduceAdd,reduceMul,reduceSub,Nat.reduceBEq,reduceEqDiff,reduceLT,reduceLeDiff,ru]
    repeat refine ae ?_
    refine bc rfl
   have e2:decide (x>1024)=false:=mU uw;rw[iK (show 0<=x by omega),iK (show x<=1024 by omega)] at qM;simp -dsimp(disch:=omega) only[e1,e2,r1,rl,fl,t8,dZ,ml,Nat.mul_one,length_drop,IntKind.bits,Int.reduceToNat,Int.reducePow,Option.isNone_none,↓reduceIte,reduceCtorEq,reduceAdd,reduceMul,reduceSub,Nat.reduceBEq,reduceEqDiff,reduceLT,reduceLeDiff,ru]
   repeat refine ae ?_
   refine aw (k+1) ?_ ⟨by omega,by rw[qM];rfl⟩;exact bP []
  intro h3 h4;have XH:iA t.1=true:=by rw[<-PD,List.drop_of_length_le (by omega)];rfl
  rw[XH] at hd;refine ah h4 ?_;refine aw (i+1) ?_ ⟨by omega,by rw[hd];rfl⟩;exact bP []
 intro h1 h2;have hRt:R=true:=by rw[<-hv,List.drop_of_length_le (by omega)];rfl
 rw[hRt];refine ah h2 ?_;refine bc rfl
theorem aeM (ts:List RT) (hl: ∀ t∈ts,t.1.length=8) (hn:ts.length<=1000000000000) (hv:validB ts=true):Den Tryz.prog 144 [] [PL ts] [] (.tup [PL ts,.int .i64 0]):=by
 have h1:=ZX ts hl hn;rw[hv] at h1;refine dq Tryz.func144 7 0 ?_;refine aW ?_;refine aM h1 ?_;refine ah @Bool.not_true ?_;refine bc rfl
structure POk (k:Nat) (E:Int) (p:List Tm):Prop where
 canon:Canon p
 bd: ∀ t∈p,Bd k t.2
 exp: ∀ t∈p,∀ e∈t.1,0<=e/\e<=E
theorem jR {m:List Int} {E:Int} (hE:0<=E) (h: ∀ x∈m,0<=x/\x<=E) (i:Nat):0<=m.getD i 0/\m.getD i 0<=E:=by
 rw[qa];cases hi:m[i]? with
 | none=>simp[hE]
 | some x=>exact h x (List.mem_of_getElem? hi)
theorem POk.ts {k:Nat} {E:Int} {p:List Tm} (h:POk k E p) (hE:E<=1000000000000):TsOk k (p.map tn):=fun t ht=>by
 obtain⟨u,hu,rfl⟩:=mem_map.1 ht;exact⟨h.canon.len u hu,fun x hx=>by have:=h.exp u hu x hx;omega,bn (h.bd u hu)⟩
theorem wj {p:List Tm} {i:Nat} (h:i<p.length):(p.map tn).getD i kT=tn p[i]:=by
 rw[qa,List.getElem?_map,qb h];rfl
theorem CN (p:List Tm) (t:Tm):(p++[t]).map tn=p.map tn++[tn t]:=by rw[BM];rfl
abbrev nfR (ts:List RT):List Tm:=nf (ts.map tq)
theorem lG {ts:List RT} (h: ∀ t∈ts,t.1.length=8):Len8 (ts.map tq):=fun t ht=>by
 obtain⟨u,hu,rfl⟩:=mem_map.1 ht;exact h u hu
theorem E8 {ts:List RT} (h:validB ts=true): ∀ t∈ts,∀ e∈t.1,0<=e/\e<=1024:=fun t ht e he=>by
 unfold validB at h;rw[nF] at h;have h1:=h t ht;unfold iA at h1;rw[nF] at h1;simpa using h1 e he
theorem U3 {ts:List RT} {j k n:Nat} (hj:1<=j) (h:TsOk j ts) (hn:ts.length<=n) (hk:n*(j+1)+1<=k) (hv:validB ts=true):POk k 1024 (nfR ts):=by
 have hb:PB k (ts.map tq):=PB.terms hj (fun t ht=>by
  obtain⟨u,hu,rfl⟩:=mem_map.1 ht;exact(h u hu).raw.bd hj) (by rw[length_map];exact hn) hk
 refine⟨dW (lG h.l8),hb.nf.bd (by omega),fun t ht=>?_⟩;obtain⟨x,hx,he⟩:=ve ht;obtain⟨u,hu,rfl⟩:=mem_map.1 hx;rw[<-he];exact E8 hv u hu
theorem Hk (ts:List RT):(nfR ts).length<=ts.length:=by
 have:=Ay (ts.map tq);rwa [length_map] at this
theorem Hl {m:List Int} (h:m.length=8) (a b c:PV):(mC m++[a,b,c]).length=11:=by rw[qe,cO,h];rfl
theorem Qc {m:List Int} (h:m.length=8) (a b c:PV) (r:Raw):List.take 8 (mC m++[a,b,c])++r.c++List.drop 11 (mC m++[a,b,c])=gH (m,r):=by
 rw[List.drop_of_length_le (by rw[Hl h];omega),List.take_append_of_le_length (by rw[cO];omega),vf h,append_nil];rfl
abbrev eqV:PV:= .fv (.lit (.func (.func 248) #[] #[]))
def Asc (l:List (List Raw)) (i:Nat):Prop:= ∀ p q,p<q->q<i->bu (l.getD p []) (l.getD q [])<0
structure Cmp (ls cur:List (List Raw)) (i j:Nat):Prop where
 len:cur.length=ls.length
 pos:1<=i
 lt:i+1<=j
 le:j<=ls.length
 same: ∀ q,i<=q->cur.getD q []=ls.getD q []
 asc:Asc cur i
 sub: ∀ q,q<i->cur.getD q []∈ls
 sup: ∀ p,p<j-> ∃ q,q<i/\cur.getD q []=ls.getD p []
 last:cur.getD (i - 1) []=ls.getD (j - 1) []
theorem cr {ls:List (List Raw)} {i:Nat} (h:i<ls.length):ls.getD i []∈ls:=jQ.2 ⟨i,h,rfl⟩
theorem jS {ls:List (List Raw)} {i q:Nat} {x:List Raw} (h:i<ls.length):(ls.set i x).getD q []=if q=i then x else ls.getD q []:=by
 simp only[qa,List.getElem?_set];by_cases hq:i=q
 .subst hq;rw[if_pos rfl,if_pos h,if_pos rfl];rfl
 rw[if_neg hq,if_neg (fun e=>hq e.symm)]
theorem Cmp.skip {ls cur:List (List Raw)} {i j:Nat} (h:Cmp ls cur i j) (hj:j<ls.length) (he:ls.getD j []=ls.getD (j - 1) []):Cmp ls cur i (j+1):=by
 have hp:=h.pos;have aG:=h.lt;refine⟨h.len,h.pos,by omega,by omega,h.same,h.asc,h.sub,fun p Ie=>?_,?_⟩
 .by_cases V3:p=j
  .subst V3;rw[he];exact h.sup (p - 1) (by omega)
  exact h.sup p (by omega)
 rw[Nat.add_sub_cancel,he];exact h.last
theorem Cmp.take {ls cur:List (List Raw)} {i j:Nat} {k:Nat} (bf:AOk k ls) (h:Cmp ls cur i j) (eF: ∀ a∈ls,∀ b∈ls,bu a b=0->a=b) (sf: ∀ p q,p<q->q<ls.length->bu (ls.getD p []) (ls.getD q [])<=0) (hj:j<ls.length)
 (he:bu (ls.getD j []) (ls.getD (j - 1) [])≠0):Cmp ls (cur.set i (ls.getD j [])) (i+1) (j+1):=by
 have hp:=h.pos
 have aG:=h.lt
 have hl:=h.len
 have Sh:i<cur.length:=by omega
 have c6:bu (ls.getD (j - 1) []) (ls.getD j [])<0:=by
  have h1:=sf (j - 1) j (by omega) hj;have h2:=ed (ls.getD j []) (ls.getD (j - 1) []);omega
 refine⟨by rw[length_set];exact hl,by omega,by omega,by omega,fun q hq=>?_,fun p q x_ hq=>?_,fun q hq=>?_,fun p Ie=>?_,?_⟩
 .rw[jS Sh,if_neg (by omega)];exact h.same q (by omega)
 .rw[jS Sh,jS Sh,if_neg (show¬p=i by omega)]
  by_cases Ik:q=i
  .rw[if_pos Ik]
   have h9: ∀ f∈ls,f.length=9:=fun f hf=>(bf f hf).len
   have m1:=h.sub p (by omega)
   have m2:=cr (i:=j) hj
   by_cases V6:p=i - 1
   .rw[V6,h.last];exact c6
   have h1:=h.asc p (i - 1) (by omega) (by omega)
   rw[h.last] at h1
   have h3:=mh _ _ _ (by rw[h9 _ m1,h9 _ (cr (i:=j - 1) (by omega))]) (by rw[h9 _ (cr (i:=j - 1) (by omega)),h9 _ m2]) (Int.le_of_lt h1) (Int.le_of_lt c6)
   rcases Int.lt_or_eq_of_le h3 with h4 | h4
   .exact h4
   exfalso
   have h5:=eF _ m1 _ m2 h4
   rw[h5,ed] at h1
   omega
  rw[if_neg Ik];exact h.asc p q x_ (by omega)
 .rw[jS Sh]
  split
  .exact cr hj
  exact h.sub q (by omega)
 .by_cases V3:p=j
  .exact⟨i,by omega,by rw[jS Sh,if_pos rfl,V3]⟩
  obtain⟨q,hq,hqe⟩:=h.sup p (by omega)
  exact⟨q,by omega,by rw[jS Sh,if_neg (by omega)];exact hqe⟩
 rw[jS Sh,if_pos (by omega),Nat.add_sub_cancel]
structure E9 (ls out:List (List Raw)):Prop where
 sorted:out.Pairwise (fun a b=>bu a b<0)
 mem: ∀ f,f∈out↔f∈ls
theorem tX {l:List (List Raw)} (h:Asc l l.length):l.Pairwise (fun a b=>bu a b<0):=by
 rw[List.pairwise_iff_getElem];intro p q hp hq x_;have:=h p q x_ hq;rw[qa,qb hp,qa,qb hq] at this;exact this
theorem Cmp.done {ls cur:List (List Raw)} {i:Nat} (h:Cmp ls cur i ls.length):E9 ls (cur.take i):=by
 have aG:=h.lt;have hl:=h.len;have hg: ∀ q,q<i->(cur.take i).getD q []=cur.getD q []:=fun q hq=>by
  rw[qa,List.getElem?_take,if_pos hq,qa]
 have hli:(cur.take i).length=i:=by rw[length_take];omega
 refine⟨tX (fun p q x_ hq=>?_),fun f=>?_⟩
 .rw[hli] at hq;rw[hg p (by omega),hg q hq];exact h.asc p q x_ hq
 rw[jQ];constructor
 .rintro⟨q,hq,rfl⟩;rw[hli] at hq;rw[hg q hq];exact h.sub q hq
 intro hf;obtain⟨p,hp,rfl⟩:=jQ.1 hf;obtain⟨q,hq,he⟩:=h.sup p hp;exact⟨q,by rw[hli];exact hq,by rw[hg q hq];exact he⟩
theorem CO {ls:List (List Raw)} (h:Asc ls ls.length):E9 ls ls:=⟨tX h,fun _=>Iff.rfl⟩
theorem aeN (ls:List (List Raw)) (bf:AOk 1000000000 ls) (hn:ls.length<=1000) (eF: ∀ a∈ls,∀ b∈ls,bu a b=0->a=b) (sf: ∀ p q,p<q->q<ls.length->bu (ls.getD p []) (ls.getD q [])<=0):
 ∃ H1 res,(fun H1 res=> ∃ out,H1=[.row true (ak out)]/\res=PV.lsl 0 0 out.length 27/\E9 ls out) H1 res/\Den Tryz.prog 138 [.row true (ak ls)] [.lsl 0 0 ls.length 27,eqV] H1 res:=by
 obtain⟨n,cB⟩:=ax ls.length
 rw[cB] at hn ⊢
 refine BN Tryz.func138 64 1 ?_
 refine aW ?_
 refine bK ?_ ?_
 .intro h1 h2
  refine ah (bB h2 @dB @eU) ?_
  exact⟨[.row true (ak ls)],.lsl 0 0 n 27,⟨ls,rfl,by rw[cB],CO (fun p q h3 h4=>by omega)⟩,qL (cd:=True/\True) (vs:=[.lsl 0 0 n 27]) rfl ⟨b',b'⟩ rfl trivial rfl rfl rfl⟩
 intro h1 h2
 refine ah h2 ?_
 refine wl (α:=Nat) (fun k=>⟨[.lsl 0 0 n 27,eqV,.any,.any,.nilsl,.int .i64 k]++replicate 60 .any,[.row true (ak ls)]⟩)
  (fun k=>n+1 - k) (fun k=>1<=k/\k<=n/\Asc ls k) 1 ?_ ?_ ?_
 .exact bP [0]
 .exact⟨qp _,by omega,fun p q h3 h4=>by omega⟩
 rintro k ⟨oB,EC,Si⟩
 refine aW ?_
 refine bK ?_ ?_
 .intro h3 h4
  obtain⟨m,rfl⟩: ∃ m,k=m+1:=⟨k - 1,by omega⟩
  have Aa:(((m+1:Nat):Int) - 1)=(m:Int):=by omega
  have hx:=bf.at (i:=m+1) (by omega)
  have hy:=bf.at (i:=m) (by omega)
  have bW:=ZQ _ _ hx hy
  have r1:=ba ls (m+1)
  have r2:=ba ls m
  obtain⟨x,iW⟩:=ax (ls.getD (m+1) [])
  obtain⟨y,sy⟩:=ax (ls.getD m [])
  rw[iW] at hx bW r1
  rw[sy] at hy bW r2
  have rl:=aq ls
  have l_:=aB hx.len
  have nh:=aB hy.len
  have fx:=aI x
  have fy:=aI y
  have lx:=hx.len
  have ly:=hy.len
  obtain⟨z,hz⟩:=ax (bu x y)
  rw[hz] at bW
  unfold RL at bW
  refine ah h4 ?_
  refine dw (by kernel_rfl) ?_
  refine aF (kX Aa r1 r2 l_ nh rl) ?_
  repeat refine ae ?_
  refine hY bW ?_
  refine kI ?_
  refine Br.beqInt ?_ ?_
  .intro h5 h6
   refine aF h6 ?_
   repeat refine ae ?_
   have Kq:Cmp ls ls (m+1) (m+1+1):=by
    refine⟨rfl,by omega,qp _,by omega,fun q _=>rfl,Si,fun q hq=>cr (by omega),fun p hp=>?_,?_⟩
    .by_cases hpm:p=m+1
     .refine⟨m,by omega,?_⟩;rw[hpm,iW,sy];exact(eF _ (iW ▸ cr (by omega)) _ (sy ▸ cr (by omega)) (by rw[hz];exact h5)).symm
     exact⟨p,by omega,rfl⟩
    rw[show m+1 - 1=m by omega,show m+1+1 - 1=m+1 by omega,iW,sy];exact(eF _ (iW ▸ cr (by omega)) _ (sy ▸ cr (by omega)) (by rw[hz];exact h5)).symm
   clear bW iW sy hx hy l_ nh fx fy lx ly r1 r2 hz
   refine wl (α:=Nat×Nat×List (List Raw)) (fun⟨i,k2,cur⟩=>⟨[.lsl 0 0 n 27,eqV,.any,.any,.nilsl,.int .i64 i,.lsl 0 (m+1) (n - (m+1)) 27,.int .i64 k2]++replicate 58 .any,[.row true (ak cur)]⟩)
    (fun⟨_,k2,_⟩=>n - k2) (fun⟨i,k2,cur⟩=>1<=k2/\Cmp ls cur i (m+1+k2)) (m+1,1,ls) ?_ ?_ ?_
   .exact bP [0]
   .exact⟨qp _,Kq⟩
   rintro⟨i,k2,cur⟩ ⟨iY,hc⟩
   have eO:=hc.len
   have akh:=hc.lt
   have aki:=hc.le
   refine aW ?_
   refine bK ?_ ?_
   .intro g1 g2
    obtain⟨p,rfl⟩: ∃ p,k2=p+1:=⟨k2 - 1,by omega⟩
    have Aa:(((p+1:Nat):Int) - 1)=(p:Int):=by omega
    have e1:cur.getD (m+1+(p+1)) []=ls.getD (m+1+(p+1)) []:=hc.same _ (by omega)
    have e2:cur.getD (m+1+p) []=ls.getD (m+1+p) []:=hc.same _ (by omega)
    have hx:=bf.at (i:=m+1+(p+1)) (by omega)
    have hy:=bf.at (i:=m+1+p) (by omega)
    have bW:=ZQ _ _ hx hy
    have r1:=ba cur (m+1+(p+1))
    have r2:=ba cur (m+1+p)
    have r4:=ba cur i
    have eV:(cur.getD i []).length=9:=by rw[hc.same i (qp _)];exact(bf.at (by omega)).len
    have fi:=aI (cur.getD i [])
    rw[e1] at r1
    rw[e2] at r2
    obtain⟨x,iW⟩:=ax (ls.getD (m+1+(p+1)) [])
    obtain⟨y,sy⟩:=ax (ls.getD (m+1+p) [])
    obtain⟨c0,Ig⟩:=ax (cur.getD i [])
    rw[Ig] at r4 eV fi
    rw[iW] at hx bW r1
    rw[sy] at hy bW r2
    have Eh:=aq cur
    have l_:=aB hx.len
    have nh:=aB hy.len
    have fx:=aI x
    have fy:=aI y
    have lx:=hx.len
    have ly:=hy.len
    have gx:=ag x
    have di:List.drop 27 (bR c0)=[]:=mw eV
    have bQ:(ak cur).set i (bR x)=ak (cur.set i x):=oV cur i x
    obtain⟨z,hz⟩:=ax (bu x y)
    rw[hz] at bW
    obtain⟨bz,hbz⟩:=ax ((z==0))
    rw[hbz] at bW
    unfold RL at bW
    refine ah g2 ?_
    refine dw (by kernel_rfl) ?_
    refine aF (kX Aa r1 r2 l_ nh Eh) ?_
    repeat refine ae ?_
    refine hY bW ?_
    cases bz with
    | true=>
     have R9:z=0:=by simpa using hbz
     refine aF @Bool.not_true ?_;refine aw (i,p+1+1,cur) ?_ ⟨by omega,?_⟩
     .exact bP [0]
     .refine hc.skip (by omega) ?_;rw[show m+1+(p+1) - 1=m+1+p by omega,iW,sy];exact eF _ (iW ▸ cr (by omega)) _ (sy ▸ cr (by omega)) (by rw[hz];exact R9)
    | false=>
     have R9:z≠0:=by simpa using hbz
     refine aF (bU @Bool.not_false r1 r4 l_ Eh fi eV (gn gx lx di fx bQ)) ?_
     repeat refine ae ?_
     refine aw (i+1,p+1+1,cur.set i x) ?_ ⟨by omega,?_⟩
     .exact bP [0]
     have:=hc.take bf eF sf (by omega) (by rw[show m+1+(p+1) - 1=m+1+p by omega,iW,sy,hz];exact R9);rw[iW] at this;exact this
   intro g1 g2
   have Il:m+1+k2=ls.length:=by omega
   rw[Il] at hc
   have oA:=hc.done
   have Eh:=aq cur
   have fD:List.take i (ak cur)=ak (cur.take i):=by simp[ak]
   have uB:(cur.take i).length=i:=by rw[length_take];omega
   refine ah (gn g2 Eh fD @dB @eU) ?_
   repeat refine ae ?_
   exact⟨[.row true (ak (cur.take i))],.lsl 0 0 i 27,⟨cur.take i,rfl,by rw[uB],oA⟩,qL (cd:=True/\True) (vs:=[.lsl 0 0 i 27]) rfl ⟨b',b'⟩ rfl trivial rfl rfl rfl⟩
  intro h5 h6
  refine aF h6 ?_
  refine aw (m+1+1) ?_ ⟨by omega,by omega,fun p q h7 h8=>?_⟩
  .exact bP [0]
  by_cases hq:q=m+1
  .subst hq
   have aG:bu (ls.getD m []) (ls.getD (m+1) [])<0:=by
    have e1:=sf m (m+1) (by omega) (by omega);have e2:=ed (ls.getD (m+1) []) (ls.getD m []);rw[iW,sy] at e1 e2 ⊢;omega
   by_cases hpm:p=m
   .rw[hpm];exact aG
   have e1:=Si p m (by omega) (by omega)
   have e2:=sf p (m+1) (by omega) (by omega)
   rcases Int.lt_or_eq_of_le e2 with e3 | e3
   .exact e3
   exfalso
   have e4:=eF _ (cr (by omega)) _ (cr (by omega)) e3
   rw[e4,ed] at e1
   omega
  exact Si p q h7 (by omega)
 intro h3 h4
 have agh:k=n:=by omega
 subst agh
 refine ah (bB h4 @dB @eU) ?_
 exact⟨[.row true (ak ls)],.lsl 0 0 k 27,⟨ls,rfl,by rw[cB],CO (fun p q h5 h6=>Si p q h5 (by omega))⟩,qL (cd:=True/\True) (vs:=[.lsl 0 0 k 27]) rfl ⟨b',b'⟩ rfl trivial rfl rfl rfl⟩
abbrev nzV:PV:= .fv (.lit (.func (.func 252) #[] #[]))
def mZ (t:Tm):Bool:=decide (t.2≠0)
theorem TC (t:Tm) (h8:t.1.length=8) (hb:Bd 1000000000 t.2):Den Tryz.prog 252 [] [.agg (gH (tn t))] [] (.bool (! mZ t)):=by
 have g_:=nP (cn t.2) ((bn hb).mono (by decide));rw[cK] at g_;change Den Tryz.prog 113 [] [.agg (cn t.2).c] [] _ at g_;have ht:(tn t).1.length=8:=h8;have cl:=aL ht;have cf:=eK ht;have e:(eg t.2==0)=! mZ t:=by
  unfold mZ;by_cases h:t.2=0
  .rw[mU (by simpa using h),aQ.2 h];rfl
  rw[iK h];have:eg t.2≠0:=fun h2=>h (aQ.1 h2)
  simpa using this
 obtain⟨z,hz⟩:=ax (eg t.2);obtain⟨b,XW⟩:=ax ((! mZ t));rw[hz] at g_ e;rw[XW] at e ⊢;change List.take 3 (List.drop 8 (gH (tn t)))=(cn t.2).c at cf;refine dq Tryz.func252 6 0 ?_;refine cz cl ?_
 repeat refine ae ?_
 refine gp g_ (by simp[bH,eS,L4,L5,cf]) ?_;refine ah e ?_;refine bc rfl
theorem I9 {ts:List Tm} {i:Nat} (h:i<ts.length) (hf:(ts.take i).filter mZ=ts.take i) (hz:mZ ts[i]=true):(ts.take (i+1)).filter mZ=ts.take (i+1):=by
 rw[List.take_add_one,qb h,filter_append,hf];simp[hz]
theorem ZY (ts:List Tm) (h8:Len8 ts) (hb: ∀ t∈ts,Bd 1000000000 t.2) (hn:ts.length<=10000000000):
 ∃ H1 res,(fun H1 res=>H1=[.row true (au (ts.map tn))]/\((res=PV.int .i64 (-1)/\ts.filter mZ=ts)\/ ∃ i:Nat,∃ h:i<ts.length,res=PV.int .i64 i/\(ts.take i).filter mZ=ts.take i/\mZ ts[i]=false)) H1 res/\
  Den Tryz.prog 275 [.row true (au (ts.map tn))] [.lsl 0 0 ts.length 11,nzV] H1 res:=by
 obtain⟨n,cB⟩:=ax ts.length
 have rl:=ay (ts.map tn)
 rw[length_map,cB] at rl
 rw[cB] at hn
 refine BN Tryz.func275 17 1 ?_
 refine cz cB ?_
 refine wl (α:=Nat) (fun i=>⟨[.lsl 0 0 n 11,nzV,.any,.any,.any,.any,.any,.int .i64 n,.int .i64 i]++replicate 10 .any,[.row true (au (ts.map tn))]⟩)
  (fun i=>n - i) (fun i=>i<=n/\(ts.take i).filter mZ=ts.take i) 0 ?_ ?_ ?_
 .exact bP [0]
 .exact⟨dU _,rfl⟩
 rintro i ⟨hi,hf⟩
 refine aW ?_
 refine bK ?_ ?_
 .intro h1 h2
  have eV:i<ts.length:=by omega
  have r1:=cM (ts:=ts.map tn) (i:=i) (by rw[length_map];omega)
  rw[wj eV] at r1
  have bC:ts[i]∈ts:=pP eV
  have hm:=h8 _ bC
  have hd:=TC ts[i] hm (hb _ bC)
  have hft:=I9 eV hf
  obtain⟨t,ht⟩:=ax (ts[i])
  rw[ht] at r1 hm hd hft
  have kY:(tn t).1.length=8:=hm
  have Ku:=bM kY
  have fl:=aR kY
  obtain⟨b,XW⟩:=ax (mZ t)
  rw[XW] at hd hft
  refine ah (kX h2 r1 Ku @eY rl fl) ?_
  repeat refine ae ?_
  refine gp hd (by simp[bH,eS,eh,eY,kc,dS,dI]) ?_
  refine ah @eG ?_
  cases b with
  | true=>
   refine ah @Bool.not_true ?_;refine aw (i+1) ?_ ⟨by omega,hft rfl⟩;exact bP [0]
  | false=>
   refine ah @Bool.not_false ?_;exact⟨[.row true (au (ts.map tn))],.int .i64 i,⟨rfl,.inr ⟨i,eV,rfl,hf,by rw[ht];exact XW⟩⟩,qL (cd:=True/\True) (vs:=[.int .i64 i]) rfl ⟨b',b'⟩ rfl trivial rfl rfl rfl⟩
 intro h1 h2
 have R1:ts.take i=ts:=dm (by omega)
 rw[R1] at hf
 refine ah h2 ?_
 exact⟨[.row true (au (ts.map tn))],.int .i64 (-1),⟨rfl,.inl ⟨rfl,hf⟩⟩,qL (cd:=True/\True) (vs:=[.int .i64 (-1)]) rfl ⟨b',b'⟩ rfl trivial rfl rfl rfl⟩
def lH (ts:List Tm) (j:Nat):List Tm:=(ts.take j).filter mZ++ts.drop ((ts.take j).filter mZ).length
def kU (ts:List Tm) (j:Nat):Nat:=((ts.take j).filter mZ).length
theorem Hm (ts:List Tm) (j:Nat):kU ts j<=j:=by
 unfold kU;have:=List.length_filter_le mZ (ts.take j);rw[length_take] at this;omega
theorem CP (ts:List Tm) {j:Nat} (h:j<=ts.length):(lH ts j).length=ts.length:=by
 have:=Hm ts j;unfold kU at this;unfold lH;rw[qe,length_drop];omega
theorem Hn {ts:List Tm} {j q:Nat} (h:kU ts j<=q) (hq:q<ts.length):(lH ts j).getD q ([],0)=ts[q]:=by
 unfold kU at h;unfold lH;rw[qa,qh h,List.getElem?_drop,Nat.add_sub_cancel' h,qb hq];rfl
theorem I_ {ts:List Tm} {j:Nat} (h:j<ts.length) (hz:mZ ts[j]=true):lH ts (j+1)=(lH ts j).set (kU ts j) ts[j]/\kU ts (j+1)=kU ts j+1:=by
 have e:(ts.take (j+1)).filter mZ=(ts.take j).filter mZ++[ts[j]]:=by
  rw[List.take_add_one,qb h,filter_append];simp[hz]
 have hl:=Hm ts j;unfold kU at hl;unfold lH kU;rw[e,qe];refine⟨?_,rfl⟩;rw[List.set_append_right _ _ (qp _),Nat.sub_self,append_assoc];congr 1;rw[drop_eq_getElem_cons (i:=((ts.take j).filter mZ).length) (by omega),set_cons_zero];rfl
theorem sZ {ts:List Tm} {j:Nat} (h:j<ts.length) (hz:mZ ts[j]=false):lH ts (j+1)=lH ts j/\kU ts (j+1)=kU ts j:=by
 have e:(ts.take (j+1)).filter mZ=(ts.take j).filter mZ:=by
  rw[List.take_add_one,qb h,filter_append];simp[hz]
 unfold lH kU;rw[e];exact⟨rfl,rfl⟩
theorem I' {ts:List Tm}:kU ts ts.length=(ts.filter mZ).length/\(lH ts ts.length).take (kU ts ts.length)=ts.filter mZ:=by
 unfold lH kU;rw[List.take_length];exact⟨rfl,List.take_left' rfl⟩
theorem rI (ts:List Tm) (i:Nat) (t:Tm):(au (ts.map tn)).set i (gI (tn t))=au ((ts.set i t).map tn):=by rw[oW,List.map_set]
theorem zo {p:List Tm} {i:Nat} (h:i<p.length):(au (p.map tn)).getD i []=gI (tn (p.getD i ([],0))):=by
 rw[cM (by rw[length_map];exact h),wj h,qa,qb h];rfl
theorem ZZ (ts:List Tm) (h8:Len8 ts) (hb: ∀ t∈ts,Bd 1000000000 t.2) (hn:ts.length<=10000000000):
 Den Tryz.prog 251 [.row true (au (ts.map tn))] [.lsl 0 0 ts.length 11,nzV] [.row true (au ((ts.filter mZ).map tn))] (.lsl 0 0 (ts.filter mZ).length 11):=by
 obtain⟨H1,res,⟨hH,ao⟩,WC⟩:=ZY ts h8 hb hn
 obtain⟨n,cB⟩:=ax ts.length
 have rl:=ay (ts.map tn)
 rw[length_map,cB] at rl
 rw[cB] at hn WC ⊢
 rcases ao with⟨rfl,hf⟩ | ⟨i,eV,rfl,hfi,hzi⟩
 .subst hH
  rw[hf,cB]
  have e1:((-1:Int)== -1)=true:=rfl
  refine dq Tryz.func251 40 1 ?_
  refine aW ?_
  refine d6 0 WC trivial ?_
  simp -dsimp(disch:=omega) only[sh1,sh2,sh3,e1,Mp,IntKind.bits,Int.reduceToNat,Int.reducePow,Option.isNone_none,↓reduceIte,reduceCtorEq,reduceAdd,reduceMul,reduceSub,Nat.reduceBEq,reduceEqDiff,reduceLT,reduceLeDiff,ru,zu]
  exact qL (cd:=True/\True) (vs:=[.lsl 0 0 n 11]) rfl ⟨b',b'⟩ rfl trivial rfl rfl rfl
 subst hH
 have e1:((i:Int)== -1)=false:=by rw[qx];omega
 have hI:kU ts (i+1)=i:=by
  rw[(sZ eV hzi).2];unfold kU;rw[hfi,length_take];omega
 have hM:lH ts (i+1)=ts:=by
  rw[(sZ eV hzi).1];unfold lH;rw[hfi,length_take,Nat.min_eq_left (by omega),List.take_append_drop]
 refine dq Tryz.func251 40 1 ?_
 refine aW ?_
 refine d6 0 WC trivial ?_
 simp -dsimp(disch:=omega) only[sh1,sh2,sh3,e1,Mp,IntKind.bits,Int.reduceToNat,Int.reducePow,Option.isNone_none,↓reduceIte,reduceCtorEq,reduceAdd,reduceMul,reduceSub,Nat.reduceBEq,reduceEqDiff,reduceLT,reduceLeDiff,ru,zu]
 refine wl (α:=Nat) (fun j=>⟨[.lsl 0 0 n 11,nzV,.any,.any,.any,.int .i64 (kU ts j),.int .i64 j]++replicate 35 .any,[.row true (au ((lH ts j).map tn))]⟩)
  (fun j=>n - j) (fun j=>j<=n/\kU ts j<j) (i+1) ?_ ⟨by omega,by omega⟩ ?_
 .rw[hI,hM]
  exact bP [0]
 rintro j ⟨hj,uX⟩
 obtain⟨q,hq⟩:=ax (kU ts j)
 have hML:=CP ts (j:=j) (by omega)
 rw[cB] at hML
 rw[hq] at uX ⊢
 have rm:=ay ((lH ts j).map tn)
 rw[length_map,hML] at rm
 refine aW ?_
 refine bK ?_ ?_
 .intro h1 h2
  have nC:j<ts.length:=by omega
  have r1:=zo (p:=lH ts j) (i:=j) (by omega)
  rw[Hn (by omega) nC] at r1
  have r2:=zo (p:=lH ts j) (i:=q) (by omega)
  rw[Hn (by omega) (show q<ts.length by omega)] at r2
  have bC:ts[j]∈ts:=pP nC
  have hm:=h8 _ bC
  have hmq:=h8 _ (pP (show q<ts.length by omega))
  have hd:=TC ts[j] hm (hb _ bC)
  have hk:=I_ nC
  have gM:=sZ nC
  have bg:=rI (lH ts j) q ts[j]
  rw[hq] at hk gM
  obtain⟨t,ht⟩:=ax (ts[j])
  rw[ht] at r1 hm hd hk gM bg
  obtain⟨u,hu⟩:=ax (ts[q])
  rw[hu] at r2 hmq
  have kY:(tn t).1.length=8:=hm
  have T9:(tn u).1.length=8:=hmq
  have Ku:=bM kY
  have fl:=aR kY
  have flu:=aR T9
  have du:=mz T9
  have c11:=eZ kY
  have cl:=aL kY
  obtain⟨b,XW⟩:=ax (mZ t)
  rw[XW] at hd hk gM
  refine ah (bU h2 r1 Ku @eY rm fl cl (a8 c11 @append_nil.{0})) ?_
  repeat refine ae ?_
  refine gp hd (by simp[bH,eS,eh,eY,kc,dS,dI,c11]) ?_
  refine ah @eG ?_
  cases b with
  | true=>
   obtain⟨k1,k2⟩:=hk rfl;rw[<-k1] at bg;simp -dsimp(disch:=omega) only[Bool.not_not,Bool.not_true,Bool.not_false,r2,c11,cl,fl,flu,du,rm,eh,eG,bg,append_nil,IntKind.bits,Int.reduceToNat,Int.reducePow,Option.isNone_none,↓reduceIte,reduceCtorEq,reduceAdd,reduceMul,reduceSub,Nat.reduceBEq,reduceEqDiff,reduceLT,reduceLeDiff,ru]
   repeat refine ae ?_
   refine aw (j+1) ?_ ⟨by omega,by omega⟩;rw[k2];exact bP [0]
  | false=>
   obtain⟨k1,k2⟩:=gM rfl;simp -dsimp(disch:=omega) only[Bool.not_not,Bool.not_true,Bool.not_false,IntKind.bits,Int.reduceToNat,Int.reducePow,Option.isNone_none,↓reduceIte,reduceCtorEq,reduceAdd,reduceMul,reduceSub,Nat.reduceBEq,reduceEqDiff,reduceLT,reduceLeDiff,ru];refine aw (j+1) ?_ ⟨by omega,by omega⟩;rw[k1,k2];exact bP [0]
 intro h1 h2
 have hjn:j=ts.length:=by omega
 subst hjn
 have XN:=I' (ts:=ts)
 rw[hq] at XN
 have fD:List.take q (au ((lH ts ts.length).map tn))=au ((ts.filter mZ).map tn):=by
  rw[<-XN.2];simp[au]
 rw[<-XN.1]
 refine ah (gn h2 rm fD @dB @eU) ?_
 repeat refine ae ?_
 exact qL (cd:=True/\True) (vs:=[.lsl 0 0 q 11]) rfl ⟨b',b'⟩ rfl trivial rfl rfl rfl
def nt:Nat->List Tm->List (List Int×PV)
 | _,[]=>[]
 | k,t::acc=>(t.1,.int .i64 k)::nt (k+1) acc
theorem mA (a m:List Int) (v:PV) (es:List (List Int×PV)):dC ((a,v)::es) m=if a=m then some v else dC es m:=by
 unfold dC;by_cases h:a=m
 .rw[List.find?_cons_of_pos (by simpa using h),if_pos h];rfl
 rw[List.find?_cons_of_neg (by simpa using h),if_neg h]
theorem zp: ∀ {acc:List Tm} {k:Nat} {m:Mn},m∉acc.map (·.1)->dC (nt k acc) m=none
 | [],_,_,_=>rfl
 | t::acc,k,m,h=>by
  have ih:=zp (acc:=acc) (k:=k+1) (m:=m) (fun h2=>h (mem_cons_of_mem _ h2));have fX:t.1≠m:=fun e=>h (by rw[<-e];simp)
  unfold nt;rw[mA,if_neg fX];exact ih
theorem CQ: ∀ {acc:List Tm} {k:Nat} {m:Mn} {q:Rat},m∉acc.map (·.1)->i6 (nt k acc) m (.int .i64 ((k+acc.length:Nat):Int))=nt k (acc++[(m,q)])
 | [],k,m,q,_=>rfl
 | t::acc,k,m,q,h=>by
  have ih:=CQ (acc:=acc) (k:=k+1) (m:=m) (q:=q) (fun h2=>h (mem_cons_of_mem _ h2));have fX:t.1≠m:=fun e=>h (by rw[<-e];simp)
  show(if(t.1==m)=true then _ else(t.1,PV.int .i64 k)::i6 (nt (k+1) acc) m _)=(t.1,PV.int .i64 k)::nt (k+1) (acc++[(m,q)]);rw[if_neg (by simpa using fX),<-ih,length_cons];congr 4;omega
theorem wm: ∀ {acc:List Tm} {m:Mn} {q:Rat},m∉acc.map (·.1)->accAdd acc m q=acc++[(m,q)]
 | [],_,_,_=>rfl
 | t::acc,m,q,h=>by
  have ih:=wm (acc:=acc) (m:=m) (q:=q) (fun h2=>h (mem_cons_of_mem _ h2));have fX:t.1≠m:=fun e=>h (by rw[<-e];simp)
  unfold accAdd;rw[if_neg fX,ih];rfl
theorem zq: ∀ {acc:List Tm} {k:Nat} {m:Mn} (q:Rat),m∈acc.map (·.1)-> ∃ i,∃ h:i<acc.length,acc[i].1=m/\dC (nt k acc) m=some (.int .i64 ((k+i:Nat):Int))/\
 accAdd acc m q=acc.set i (m,acc[i].2+q)/\nt k (acc.set i (m,acc[i].2+q))=nt k acc
 | [],_,_,_,h=>by simp at h
 | t::acc,k,m,q,h=>by
  by_cases he:t.1=m
  .refine⟨0,by simp,he,?_,?_,?_⟩
   .unfold nt;rw[mA,if_pos he];rfl
   .unfold accAdd;rw[if_pos he,set_cons_zero,List.getElem_cons_zero,<-he]
   rw[set_cons_zero];show(m,_)::nt (k+1) acc=(t.1,_)::nt (k+1) acc;rw[he]
  have hm:m∈acc.map (·.1):=by
   rcases List.mem_cons.1 h with h2 | h2
   .exact absurd h2.symm he
   exact h2
  obtain⟨i,hi,h1,h2,h3,h4⟩:=zq (k:=k+1) q hm;refine⟨i+1,by simpa using hi,h1,?_,?_,?_⟩
  .unfold nt;rw[mA,if_neg he,h2];congr 3;omega
  .unfold accAdd;rw[if_neg he,h3];rfl
  show(t.1,_)::nt (k+1) (acc.set i (m,acc[i].2+q))=(t.1,_)::nt (k+1) acc;rw[h4]
theorem Mr {t:RT} {r:Raw} (h:t.1.length=8):List.take 8 (gI t)++r.f++List.drop 11 (gI t)=gI (t.1,r):=by
 rw[lB h,mz h,append_nil];rfl
theorem Ms {t:RT} (h:t.1.length=8):List.take 3 (List.drop 8 (gI t))=t.2.f:=by rw[sS h];rfl
theorem Z0 (s t:RT) (hs:s.1.length=8) (ht:t.1.length=8):Den Tryz.prog 253 [] [.agg [.int .i64 8],.agg (gH s),.agg (gH t)] [] (.int .i64 (-(iy s.1 t.1))):=by
 have h1:=Tx s.1 t.1 8 hs ht (by decide);have g1:=rv s.1 8 hs;have g2:=rv t.1 8 ht;have r:=pZ s.1 t.1;obtain⟨z,hz⟩:=ax (iy s.1 t.1);rw[hz] at h1 r ⊢;have ls:=aL hs;have lt:=aL ht;have k1:=eJ hs;have k2:=eJ ht;have i1:List.take 8 (ints s.1)=ints s.1:=dm (by rw[cD];omega);have i2:List.take 8 (ints t.1)=ints t.1:=dm (by rw[cD];omega);have e0:(0:Int) - z= -z:=by omega
 refine dq Tryz.func253 14 0 ?_;refine cz (a8 ls lt) ?_
 repeat refine ae ?_
 refine Draw.freeze [1,2] (by kernel_rfl) ?_;simp -dsimp(disch:=omega) only[k1,k2,mn,nU,ls,lt,g1,g2,Option.isSome_none,imp_self,i1,i2,IntKind.bits,Int.reduceToNat,Int.reducePow,Option.isNone_none,↓reduceIte,reduceCtorEq,reduceAdd,reduceMul,reduceSub,Nat.reduceBEq,reduceEqDiff,reduceLT,reduceLeDiff,ru]
 repeat refine ae ?_
 simp -dsimp(disch:=omega) only[k1,k2,mn,nU,ls,lt,g1,g2,Option.isSome_none,imp_self,i1,i2,IntKind.bits,Int.reduceToNat,Int.reducePow,Option.isNone_none,↓reduceIte,reduceCtorEq,reduceAdd,reduceMul,reduceSub,Nat.reduceBEq,reduceEqDiff,reduceLT,reduceLeDiff,ru]
 repeat refine ae ?_
 simp -dsimp(disch:=omega) only[k1,k2,mn,nU,ls,lt,g1,g2,Option.isSome_none,imp_self,i1,i2,IntKind.bits,Int.reduceToNat,Int.reducePow,Option.isNone_none,↓reduceIte,reduceCtorEq,reduceAdd,reduceMul,reduceSub,Nat.reduceBEq,reduceEqDiff,reduceLT,reduceLeDiff,ru];refine gp h1 (by simp[bH,eS,dS,dI]) ?_;simp -dsimp(disch:=omega) only[e0,IntKind.bits,Int.reduceToNat,Int.reducePow,Option.isNone_none,↓reduceIte,reduceCtorEq,reduceAdd,reduceMul,reduceSub,Nat.reduceBEq,reduceEqDiff,reduceLT,reduceLeDiff,ru]
 repeat refine ae ?_
 refine bc rfl
theorem E_ {p:List Tm} {i:Nat} (h:i<p.length):(au (p.map tn)).getD i []=gI (tn p[i]):=by
 rw[cM (by rw[length_map];exact h),wj h]
theorem Ja (l:List Tm):l.filter mZ=l.filter (fun t=>decide (t.2≠0)):=rfl
theorem Z1 (ts:List RT) (h8:TsOk 1000000000 ts) (hb:PB 1000000000 (ts.map tq)) (hn:ts.length<=1000000000) (hs:(nf (ts.map tq)).length<=cE):
 Den Tryz.prog 205 [] [PL ts] [] (PL ((nf (ts.map tq)).map tn)):=by
 have rl:=ay ts
 obtain⟨n,cB⟩:=ax ts.length
 rw[cB] at rl hn
 obtain⟨T,hT⟩:=ax (ts.map tq)
 have hTl:T.length=n:=by rw[<-hT,length_map,cB]
 have Sc:Len8 T:=by rw[<-hT];exact lG h8.l8
 rw[hT] at hb hs ⊢
 refine dq Tryz.func205 60 0 ?_
 refine cz rl ?_
 repeat refine ae ?_
 refine wl (α:=Nat) (fun i=>⟨[PL ts,.any,.any,.tab 0,.lsl 1 0 (accL (T.take i)).length 11,.any,.any,.any,.any,.any,.any,.any,.any,PL ts,.int .i64 n,.int .i64 i]++replicate 45 .any,[.tab 8 (nt 0 (accL (T.take i))),.row true (au ((accL (T.take i)).map tn))]⟩) (fun i=>n - i) (fun i=>i<=n) 0 ?_ (dU _) ?_
 .refine fW [0,1] ?_ ?_
  .simp[bO,eT,cJ,aU]
   simp[accL]
  simp[fM,fC,aU,cJ,bA,bh,aZ,bJ]
  simp[accL,nt,au]
 rintro i hi
 have k6:(accL (T.take i)).length<=i:=by
  have:=Ct (T.take i);rw[length_take] at this;omega
 have uA:=sR (ts:=T.take i) (fun t ht=>Sc t (xY ht))
 obtain⟨acc,tE⟩:=ax (accL (T.take i))
 have hbA: ∀ t∈acc,Bd 1000000000 t.2:=by rw[<-tE];exact((hb.take i).accL).bd (by decide)
 rw[tE] at k6 uA ⊢
 obtain⟨K,hK⟩:=ax acc.length
 have rm:=ay (acc.map tn)
 rw[length_map,hK] at rm
 have tkm:=c_ (ts:=acc.map tn) (n:=K) (by rw[length_map];omega)
 rw[hK] at k6 ⊢
 refine aW ?_
 refine bK ?_ ?_
 .intro h1 h2
  have r1:=cM (ts:=ts) (i:=i) (by omega)
  have bC:=eL (ts:=ts) (i:=i) (by omega)
  have bf:=h8 _ bC
  have ec:T.take (i+1)=T.take i++[tq (ts.getD i kT)]:=by
   rw[List.take_add_one,<-hT,List.getElem?_map,qa,qb (by omega)];rfl
  obtain⟨t,ht⟩:=ax (ts.getD i kT)
  rw[ht] at r1 bf ec
  have Sd:=y_ (T.take i) (tq t)
  rw[<-ec,tE] at Sd
  change accL (T.take (i+1))=accAdd acc t.1 t.2.q at Sd
  have hm:=bf.len
  have hrg:=bf.rng
  have Kt:=bM hm
  have fl:=aR hm
  have c8:=eJ hm
  have cl:=aL hm
  have ml:=cO t.1
  rw[hm] at ml
  have m8:=vf hm
  have cc:=eK hm
  have abZ:(∀ x∈t.1,-9223372036854775808<=x/\x<9223372036854775808):=fun x hx=>by have:=hrg x hx;omega
  by_cases hk:t.1∈acc.map (·.1)
  .obtain⟨j,hj,XJ,xK,Kv,sb⟩:=zq (k:=0) t.2.q hk
   rw[Nat.zero_add] at xK
   have r2:=E_ hj
   have hmj:=uA _ (pP hj)
   have hbj:=hbA _ (pP hj)
   have bg:=rI acc j (t.1,acc[j].2+t.2.q)
   rw[<-Kv] at bg sb
   obtain⟨u,hu⟩:=ax (acc[j])
   rw[hu] at r2 hmj hbj bg XJ
   have EF:=Ce (cn u.2) t.2 (bn hbj) bf.raw
   rw[cK] at EF
   change Den Tryz.prog 61 [] [.agg (cn u.2).c,.agg t.2.c] [] (.agg (cn (u.2+t.2.q)).c) at EF
   change _=au _ at bg
   have htu:(tn u).1.length=8:=hmj
   have pf:=Mr (r:=cn (u.2+t.2.q)) htu
   change _=gI (u.1,cn (u.2+t.2.q)) at pf
   rw[XJ] at pf
   change (au (acc.map tn)).set j (gI (t.1,cn (u.2+t.2.q)))=_ at bg
   have flu:=aR htu
   have cfu:=Ms htu
   change List.take 3 (List.drop 8 (gI (tn u)))=(cn u.2).f at cfu
   obtain⟨z,hz⟩:=ax (cn (u.2+t.2.q))
   rw[hz] at EF pf bg
   have pf2:List.take 8 (gI (tn u))++(z.f++List.drop (8+z.f.length) (gI (tn u)))=gI (t.1,z):=by
    rw[<-append_assoc];exact pf
   have aA:(accAdd acc t.1 t.2.q).length=K:=by rw[Kv,length_set,hK]
   have hjK:j<K:=by omega
   simp -dsimp(disch:=omega) only[h2,r1,Kt,eY,fl,c8,cl,rl,append_nil,hm,xK,Option.getD_some,Option.isSome_some,IntKind.bits,Int.reduceToNat,Int.reducePow,Option.isNone_none,↓reduceIte,reduceCtorEq,reduceAdd,reduceMul,reduceSub,Nat.reduceBEq,reduceEqDiff,reduceLT,reduceLeDiff,ru]
   repeat refine ae ?_
   refine dw (by kernel_rfl) ?_
   refine ah (bU r2 rm flu cfu @L5 c8 cl (bB hm cc @bS)) ?_
   repeat refine ae ?_
   refine BQ EF ?_
   refine ah (bU @im @fw hm @bS r2 rm flu (gn @L4 pf pf2 bg @append_nil.{0})) ?_
   repeat refine ae ?_
   refine aw (i+1) ?_ (by omega)
   rw[Sd,aA,<-sb]
   refine fW [0,1] ?_ ?_
   .simp[bO,eT,cJ,aU]
   simp[fM,fC,aU,cJ,bA,bh,aZ,bJ]
   rw[pf2,bg]
  have xK:=zp (k:=0) hk
  have ct:=CQ (k:=0) (q:=t.2.q) hk
  rw[Nat.zero_add,hK] at ct
  have Kv:=wm (q:=t.2.q) hk
  have h41:=GS t.2 (bf.raw.mono (by decide))
  change Den Tryz.prog 180 [] [.agg t.2.c] [] (.agg (cn t.2.q).c) at h41
  have cI:=jM (acc.map tn) (tn (t.1,t.2.q))
  rw[<-CN,<-Kv] at cI
  rw[<-Kv] at ct
  change au (acc.map tn)++[gI (t.1,cn t.2.q)]=_ at cI
  obtain⟨z,hz⟩:=ax (cn t.2.q)
  rw[hz] at h41 cI
  have aA:(accAdd acc t.1 t.2.q).length=K+1:=by rw[Kv,qe,hK];rfl
  have tz:((t.1,z):RT).1.length=8:=hm
  have c11:=eZ tz
  have clz:=aL tz
  have Ku:=bM tz
  have flz:=aR tz
  have bl:=Hl hm (.fv (.lit (.bool false))) PV.nilsl PV.nilsl
  have pc:=Qc hm (.fv (.lit (.bool false))) PV.nilsl PV.nilsl z
  simp -dsimp(disch:=omega) only[h2,r1,Kt,eY,fl,c8,cl,rl,append_nil,hm,xK,Option.getD_none,Option.isSome_none,ml,ct,still,IntKind.bits,Int.reduceToNat,Int.reducePow,Option.isNone_none,↓reduceIte,reduceCtorEq,reduceAdd,reduceMul,reduceSub,Nat.reduceBEq,reduceEqDiff,reduceLT,reduceLeDiff,ru]
  repeat refine ae ?_
  refine dw (by kernel_rfl) ?_
  refine ah (f0 c8 cl hm ml m8 cc @bS) ?_
  repeat refine ae ?_
  refine BQ h41 ?_
  refine ah (bU @im @fw hm @bS c8 cl ml (bU m8 bl pc c11 clz Ku flz (kX @eh @eG rm tkm cI @append_nil.{0}))) ?_
  repeat refine ae ?_
  refine aw (i+1) ?_ (by omega)
  rw[Sd,aA]
  exact bP [0,4]
 intro h1 h2
 have R1:T.take i=T:=dm (by omega)
 rw[R1] at tE
 have jY:mX T=acc.filter mZ:=by rw[Ja,<-tE];rfl
 have Gj:=Cy Sc
 rw[jY] at Gj
 have Sj:=ZZ acc uA hbA (by omega)
 rw[hK] at Sj
 obtain⟨out,cZ⟩:=ax (acc.filter mZ)
 rw[cZ] at jY Gj Sj
 have Ww: ∀ t∈out.map tn,t.1.length=8:=fun t ht=>by
  obtain⟨u,hu,rfl⟩:=mem_map.1 ht;rw[<-cZ] at hu;exact uA u (List.mem_filter.1 hu).1
 obtain⟨ls',hp,hso,Gk⟩:=TB 253 (.agg #[.int .i64 8]) (.lit (.int .i64 8)) rfl (out.map tn) Ww (by rw[length_map];omega) (fun s hs t ht=>Z0 s t (Ww s hs) (Ww t ht))
 have ao:ls'=(nf T).map tn:=by
  have h5:(ls'.map tq).Perm (mX T):=by
   rw[jY];have:=hp.map tq;rw[dQ] at this;exact this
  have h6:(ls'.map tq).Pairwise (fun a b=>iV b.1 a.1=false):=by
   rw[List.pairwise_map];refine hso.imp ?_;intro a b uz;have: ¬iV b.1 a.1=true:=uz;exact Bool.eq_false_iff.2 this
  rw[<-G6 Sc h5 h6,List.map_map]
  conv=>lhs;rw[<-List.map_id ls']
  refine List.map_congr_left (fun t ht=>?_);obtain⟨w,_,rfl⟩:=mem_map.1 (hp.mem_iff.1 ht);show tn w=tn (tq (tn w));rw[Mo]
 rw[ao] at Gk
 obtain⟨O,Se⟩:=ax out.length
 rw[Se] at Gj Sj
 have k4:((nf T).map tn).length=O:=by rw[length_map,<-Gj]
 have tkf:=c_ (ts:=(nf T).map tn) (n:=O) (by omega)
 have rf:=ay ((nf T).map tn)
 rw[k4] at rf
 rw[length_map,Se] at Gk
 have Wv: ∀ cs l (H:List Ob),pQ H (.agg cs::l)=none:=fun cs l H=>by simp[pQ,dS,dI]
 refine ah (a8 h2 Wv) ?_
 refine d6 1 Sj trivial ?_
 have cX:lent 1 2 0=1:=rfl
 refine bE (bB @Mp Wv cX) ?_
 refine d6 1 Gk trivial ?_
 refine bE @Mp ?_
 refine bc ?_
 exact j8 (a8 tkf rf)
theorem Ho {ts:List RT} (h: ∀ t∈ts,t.1.length=8):(∀ y,y∈au ts->y.length=11)=True:=by
 refine eq_true (fun y hy=>?_);obtain⟨t,ht,rfl⟩:=mem_map.1 hy;exact aR (h t ht)
theorem TD (ts:List RT) (h8: ∀ t∈ts,t.1.length=8) (hn:ts.length<=1000000000):Den Tryz.prog 206 [] [PL ts] [.row true (au ts)] (.lsl 0 0 ts.length 11):=by
 cases ts with
 | nil=>
  show Den Tryz.prog 206 [] ([]++ .fv (.sl [])::[]) [.row true []] (.lsl 0 0 0 11);refine Den.empty' ?_ (fun b o cap=>?_)
  .show Den Tryz.prog 206 [] [.nilsl] [.row true []] (.lsl 0 0 0 11);refine Ib nM nO Tryz.func206 (cd:=_) rfl (by decide) rfl (n:=7) rfl rfl ?_ 11 (by decide);refine cz (a8 @ox @uv) ?_;exact⟨_,rfl,b',b'⟩
  .show Den Tryz.prog 206 [] [.fv (.lit (.slice (some ⟨b,o,none⟩) 0 cap))] [.row true []] (.lsl 0 0 0 11);refine dq Tryz.func206 7 0 ?_;refine aW ?_;exact RetOK.own rfl ⟨b',b'⟩ rfl
 | cons a t=>
  have h11:=Ho h8;have rl:=ay (a::t);show Den Tryz.prog 206 [] [.fv (.sl (au (a::t)))] [.row true (au (a::t))] (.lsl 0 0 (a::t).length 11);have e:au (a::t)=gI a::au t:=rfl;rw[e] at h11 rl ⊢;obtain⟨n,cB⟩:=ax ((a::t).length);rw[cB] at rl hn ⊢;obtain⟨us,gf⟩:=ax (gI a::au t);have tC:us.length=n:=by rw[<-gf];exact rl
  refine dq Tryz.func206 7 0 ?_;refine aW ?_;rw[gf] at h11 ⊢;have R7:(au t).length+1=n:=by simpa using rl
  refine ah (bB h11 tC R7) ?_;refine⟨⟨by omega,by omega⟩,?_⟩;exact RetOK.own rfl ⟨b',b'⟩ rfl
theorem Jb (a b:List RT):au a++au b=au (a++b):=by simp[au]
theorem Z2 (ps qs:List RT) (h8:TsOk 1000000000 ps) (h8q:TsOk 1000000000 qs) (hb:PB 1000000000 ((ps++qs).map tq)) (hn:ps.length<=400000000) (hnq:qs.length<=400000000) (hs:(nf ((ps++qs).map tq)).length<=cE):
 Den Tryz.prog 143 [] [PL ps,PL qs] [] (PL ((nf ((ps++qs).map tq)).map tn)):=by
 have agn:=TD ps h8.l8 (by omega)
 have acb:=Z1 (ps++qs) (fun t ht=>by
  rcases List.mem_append.1 ht with h | h
  .exact h8 t h
  exact h8q t h) hb (by rw[qe];omega) hs
 have cI:=Jb ps qs
 have lp:=ay ps
 have lq:=ay qs
 have la:=ay (ps++qs)
 rw[qe] at la
 have tp:=c_ (ts:=ps) (n:=ps.length) (qp _)
 have ta:=c_ (ts:=ps++qs) (n:=ps.length+qs.length) (by rw[qe];omega)
 have q11:=Ho h8q.l8
 obtain⟨R,hR⟩:=ax ((nf ((ps++qs).map tq)).map tn)
 rw[hR] at acb ⊢
 refine dq Tryz.func143 8 0 ?_
 refine aW ?_
 refine aM agn ?_
 refine aF (fe tp lp lq q11) ?_
 refine⟨⟨by omega,by omega,by omega⟩,?_⟩
 refine aF (gn tp lp lq q11 cI) ?_
 refine gp acb (by simp[bH,eS,dS,dI,ta,la]) ?_
 refine a9 ?_
 refine bc rfl
structure LOkT (k:Nat) (E:Int) (p:List Tm):Prop where
 len:Len8 p
 bd: ∀ t∈p,Bd k t.2
 exp: ∀ t∈p,∀ e∈t.1,0<=e/\e<=E
theorem POk.l {k:Nat} {E:Int} {p:List Tm} (h:POk k E p):LOkT k E p:=⟨h.canon.len,h.bd,h.exp⟩
theorem LOkT.ts {k:Nat} {E:Int} {p:List Tm} (h:LOkT k E p) (hE:E<=1000000000000):TsOk k (p.map tn):=fun t ht=>by
 obtain⟨u,hu,rfl⟩:=mem_map.1 ht;exact⟨h.len u hu,fun x hx=>by have:=h.exp u hu x hx;omega,bn (h.bd u hu)⟩
theorem LOkT.app {k:Nat} {E:Int} {p q:List Tm} (h:LOkT k E p) (hq:LOkT k E q):LOkT k E (p++q):=by
 refine⟨h.len.app hq.len,fun t ht=>?_,fun t ht=>?_⟩<;>rcases List.mem_append.1 ht with h1 | h1
 .exact h.bd t h1
 .exact hq.bd t h1
 .exact h.exp t h1
 exact hq.exp t h1
theorem LOkT.mono {j k:Nat} {E F:Int} {p:List Tm} (h:LOkT j E p) (hk:j<=k) (hE:E<=F):LOkT k F p:=
 ⟨h.len,fun t ht=>(h.bd t ht).mono hk,fun t ht e he=>by have:=h.exp t ht e he;omega⟩
theorem U4 (p q:List Tm) (hp:LOkT 10000000 1000000 p) (hq:LOkT 10000000 1000000 q) (hn:p.length<=20) (hnq:q.length<=20) (hs:(nf (p++q)).length<=cE):
 Den Tryz.prog 143 [] [PL (p.map tn),PL (q.map tn)] [] (PL ((nf (p++q)).map tn)):=by
 have e:((p.map tn)++(q.map tn)).map tq=p++q:=by rw[<-BM,dQ]
 have h:=Z2 (p.map tn) (q.map tn) (fun t ht=>((hp.ts (by decide)) t ht).mono (by decide)) (fun t ht=>((hq.ts (by decide)) t ht).mono (by decide)) (by
  rw[e];exact PB.terms (n:=40) (j:=10000000) (by decide) (hp.app hq).bd (by rw[qe];omega) (by decide)) (by rw[length_map];omega) (by rw[length_map];omega) (by rw[e];exact hs)
 rw[e] at h
 exact h
def p7 (a b:Mn) (i:Nat):Mn:=o8 (a.take i) (b.take i)++a.drop i
theorem CR {a b:Mn} {i:Nat} (ha:a.length=8) (hb:b.length=8) (hi:i<=8):(p7 a b i).length=8:=by
 unfold p7 o8;rw[qe,length_zipWith,length_take,length_take,length_drop];omega
theorem Qd {a b:Mn} {i:Nat} (ha:a.length=8) (hb:b.length=8) (hi:i<8):(p7 a b i).getD i 0=a.getD i 0:=by
 have e:(o8 (a.take i) (b.take i)).length=i:=by
  unfold o8;rw[length_zipWith,length_take,length_take];omega
 unfold p7;rw[qa,qh (by omega),e,Nat.sub_self,List.getElem?_drop,qa];rfl
theorem Jc {a b:Mn} {i:Nat} (ha:a.length=8) (hb:b.length=8) (hi:i<8):(p7 a b i).set i (a.getD i 0+b.getD i 0)=p7 a b (i+1):=by
 have e:(o8 (a.take i) (b.take i)).length=i:=by
  unfold o8;rw[length_zipWith,length_take,length_take];omega
 unfold p7;rw[List.set_append_right _ _ (by omega),e,Nat.sub_self,drop_eq_getElem_cons (i:=i) (by omega),set_cons_zero];rw[List.take_add_one,qb (l:=a) (by omega),List.take_add_one,qb (l:=b) (by omega)];unfold o8;rw[List.zipWith_append (by rw[length_take,length_take];omega),append_assoc];rw[qa,qb (by omega),qa,qb (by omega)];rfl
theorem Jd {a b:Mn} (ha:a.length=8) (hb:b.length=8):p7 a b 8=o8 a b:=by
 unfold p7;rw[dm (by omega),dm (by omega),List.drop_of_length_le (by omega),append_nil]
def Je (s t:Tm):Tm:=(o8 s.1 t.1,s.2*t.2)
end Go.Proofs.YtiaaceeelfhdlaaGreat
