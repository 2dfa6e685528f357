/- Contracts:slices of forms:insertion sort. -/
import Derived.Test.YtjjbkjgifdhlcaaGreatT13
import Derived.Test.YtjjbkjgifdhlcaaGreatT8
import Derived.Test.YtjjbkjgifdhlcaaGreatT11
import Derived.Test.YtjjbkjgifdhlcaaGreatT12
import Derived.Test.YtjjbkjgifdhlcaaGreatT1
set_option linter.all false
open Nat (reduceAdd reduceLT reduceLeDiff)
open List (append_assoc append_nil drop_eq_getElem_cons eq_of_mem_replicate filter_append getElem?_append_right length_cons length_drop length_map length_nil length_set length_take length_zipWith map_cons mem_cons_of_mem mem_map mem_or_eq_of_mem_set replicate set_cons_zero)
namespace Go.Proofs.YtjjbkjgifdhlcaaGreat
open Go.AM Go.Pl
set_option maxRecDepth 100000
set_option maxHeartbeats 4000000
def ai (ls:List (List Raw)):List (List FV):=ls.map cx
theorem aq (ls:List (List Raw)):(ai ls).length=ls.length:=by simp[ai]
theorem aV (ls:List (List Raw)) (i:Nat):(ai ls).getD i []=cx (ls.getD i []):=by
 by_cases h:i<ls.length
 .simp[ai,qa,h]
 simp[ai,qa,List.getElem?_eq_none (show ls.length<=i by omega),cx]
theorem aE: ∀ rs:List Raw,(cx rs).length=3*rs.length
 | []=>rfl
 | r::rs=>by simp only[cx,length_cons,aE rs];omega
theorem rO (ls:List (List Raw)) (i:Nat) (x:List Raw):(ai ls).set i (cx x)=ai (ls.set i x):=by simp[ai,List.map_set]
def AOk (k:Nat) (ls:List (List Raw)):Prop:= ∀ l∈ls,LOk k l
theorem AOk.at {k:Nat} {ls:List (List Raw)} (h:AOk k ls) {i:Nat} (hi:i<ls.length):LOk k (ls.getD i []):=by
 rw[qa,qb hi];exact h _ (lY hi)
def uJ (ls:List (List Raw)) (j:Nat):List (List Raw):=(ls.set j (ls.getD (j - 1) [])).set (j - 1) (ls.getD j [])
theorem uK (ls:List (List Raw)) (j:Nat):(uJ ls j).length=ls.length:=by simp[uJ]
theorem jz {ls:List (List Raw)} {j:Nat} (h0:0<j) (hj:j<ls.length) (q:Nat):(uJ ls j).getD q []=if q=j then ls.getD (j - 1) [] else if q=j - 1 then ls.getD j [] else ls.getD q []:=by
 unfold uJ;simp only[qa,List.getElem?_set,length_set];by_cases h1:q=j
 .subst h1;rw[if_neg (by omega),if_pos rfl,if_pos hj,if_pos rfl];rfl
 rw[if_neg h1];by_cases h2:q=j - 1
 .subst h2;rw[if_pos rfl,if_pos (by omega),if_pos rfl];rfl
 rw[if_neg (fun h=>h2 h.symm),if_neg (fun h=>h1 h.symm),if_neg h2]
theorem lF {ls:List (List Raw)} {f:List Raw}:f∈ls↔ ∃ i,i<ls.length/\ls.getD i []=f:=by
 rw[List.mem_iff_getElem];constructor
 .rintro⟨i,hi,rfl⟩;exact⟨i,hi,by rw[qa,qb hi];rfl⟩
 rintro⟨i,hi,h⟩;rw[qa,qb hi] at h;exact⟨i,hi,h⟩
theorem NQ {ls:List (List Raw)} {j:Nat} (h0:0<j) (hj:j<ls.length) (f:List Raw):f∈uJ ls j↔f∈ls:=by
 rw[lF,lF,uK];constructor
 .rintro⟨q,hq,h⟩;rw[jz h0 hj] at h;by_cases h1:q=j
  .rw[if_pos h1] at h;exact⟨j - 1,by omega,h⟩
  rw[if_neg h1] at h;by_cases h2:q=j - 1
  .rw[if_pos h2] at h;exact⟨j,hj,h⟩
  rw[if_neg h2] at h;exact⟨q,hq,h⟩
 rintro⟨q,hq,h⟩;by_cases h1:q=j
 .subst h1;exact⟨q - 1,by omega,by rw[jz h0 hj,if_neg (by omega),if_pos rfl];exact h⟩
 by_cases h2:q=j - 1
 .subst h2;exact⟨j,hj,by rw[jz h0 hj,if_pos rfl];exact h⟩
 exact⟨q,hq,by rw[jz h0 hj,if_neg h1,if_neg h2];exact h⟩
def Srt (ls:List (List Raw)) (i j:Nat):Prop:= ∀ p q,p<q->q<=i->q≠j->bV (ls.getD p []) (ls.getD q [])<=0
theorem Q8 {ls:List (List Raw)} {i j:Nat} (Iq:0<j) (ss:j<=i) (hi:i<ls.length) (h:Srt ls i j) (hc:bV (ls.getD j []) (ls.getD (j - 1) [])<0):Srt (uJ ls j) i (j - 1):=by
 intro p q wT I5 hq;rw[jz Iq (by omega),jz Iq (by omega)];by_cases h1:q=j
 .subst h1;rw[if_pos rfl,if_neg (by omega: ¬p=q)];by_cases h2:p=q - 1
  .rw[if_pos h2];omega
  rw[if_neg h2];exact h p (q - 1) (by omega) (by omega) (by omega)
 rw[if_neg h1,if_neg hq];by_cases h2:p=j
 .rw[if_pos h2];exact h (j - 1) q (by omega) I5 h1
 rw[if_neg h2];by_cases h3:p=j - 1
 .rw[if_pos h3];exact h j q (by omega) I5 h1
 rw[if_neg h3];exact h p q wT I5 h1
theorem Gv {k:Nat} {ls:List (List Raw)} {i j:Nat} (bF:AOk k ls) (hi:i<ls.length) (ss:j<=i) (h:Srt ls i j) (hc:j=0\/0<=bV (ls.getD j []) (ls.getD (j - 1) [])): ∀ p q,p<q->q<=i->bV (ls.getD p []) (ls.getD q [])<=0:=by
 intro p q wT I5;by_cases hq:q=j
 .subst hq;rcases hc with h0 | h0
  .omega
  rw[eE] at h0;have h1:bV (ls.getD (q - 1) []) (ls.getD q [])<=0:=by omega
  by_cases hp:p=q - 1
  .rw[hp];exact h1
  have h2:=h p (q - 1) (by omega) (by omega) (by omega);exact oD _ _ _ (by rw[(bF.at (i:=p) (by omega)).len,(bF.at (i:=q - 1) (by omega)).len]) (by rw[(bF.at (i:=q - 1) (by omega)).len,(bF.at (i:=q) (by omega)).len]) h2 h1
 exact h p q wT I5 hq
theorem oO {rs:List Raw} (h:rs.length=9):List.drop 27 (cx rs)=[]:=List.drop_of_length_le (by rw[aE];omega)
theorem ay {rs:List Raw} (h:rs.length=9):List.take 27 (cx rs)=cx rs:=dm (by rw[aE];omega)
structure Q9 (ls ls':List (List Raw)):Prop where
 len:ls'.length=ls.length
 mem: ∀ f,f∈ls'↔f∈ls
 ord: ∀ p q,p<q->q<ls'.length->bV (ls'.getD p []) (ls'.getD q [])<=0
abbrev Jw:PV:= .fv (.lit (.func (.func 201) #[] #[]))
theorem AOk.of_mem {k:Nat} {ls ls':List (List Raw)} (h:AOk k ls) (hm: ∀ f,f∈ls'↔f∈ls):AOk k ls':=fun l hl=>h l ((hm l).1 hl)
theorem aeB (ls:List (List Raw)) (bF:AOk 1000000000 ls) (hn:ls.length<=1000):
 ∃ H1 res,(fun H1 res=> ∃ ls',H1=[.row true (ai ls')]/\res=PV.tup []/\Q9 ls ls') H1 res/\Den Tryz.prog 259 [.row true (ai ls)] [.lsl 0 0 ls.length 27,.int .i64 0,.int .i64 ls.length,Jw] H1 res:=by
 obtain⟨n,b8⟩:=ax ls.length
 rw[b8] at hn ⊢
 refine Lh Tryz.func259 49 1 ?_
 refine aW ?_
 refine wl (α:=Nat×List (List Raw)) (fun⟨i,l⟩=>⟨[.lsl 0 0 n 27,.int .i64 0,.int .i64 n,Jw,.any,.any,.any,.any,.int .i64 i]++replicate 44 .any,[.row true (ai l)]⟩)
  (fun⟨i,_⟩=>n+1 - i) (fun⟨i,l⟩=>1<=i/\(i<=n\/i=1)/\l.length=n/\(∀ f,f∈l↔f∈ls)/\ ∀ p q,p<q->q<i->q<n->bV (l.getD p []) (l.getD q [])<=0) (1,ls) ?_ ?_ ?_
 .exact bx [0]
 .exact⟨qp _,Or.inr rfl,b8,fun f=>Iff.rfl,fun p q h1 h2 h3=>by omega⟩
 rintro⟨i,l⟩ ⟨nj,f0,nk,aY,vv⟩
 refine aW ?_
 refine bM ?_ ?_
 .intro h1 h2
  refine ae h2 ?_
  refine wl (α:=Nat×List (List Raw)) (fun⟨j,l⟩=>⟨[.lsl 0 0 n 27,.int .i64 0,.int .i64 n,Jw,.any,.any,.any,.any,.int .i64 i,.int .i64 j]++replicate 43 .any,[.row true (ai l)]⟩)
   (fun⟨j,_⟩=>j) (fun⟨j,l⟩=>j<=i/\l.length=n/\(∀ f,f∈l↔f∈ls)/\Srt l i j) (i,l) ?_ ?_ ?_
  .exact bx [0]
  .exact⟨qp _,nk,aY,fun p q h3 h4 h5=>vv p q h3 (by omega) (by omega)⟩
  rintro⟨j,l⟩ ⟨hj,nk,aY,q0⟩
  have WU:=bF.of_mem aY
  refine aW ?_
  refine dw (by kernel_rfl) ?_
  refine aN ?_
  refine bM ?_ ?_
  .intro h3 h4
   obtain⟨p,rfl⟩: ∃ p,j=p+1:=⟨j - 1,by omega⟩
   have DP:(((p+1:Nat):Int) - 1)=(p:Int):=by omega
   have hx:=WU.at (i:=p+1) (by omega)
   have hy:=WU.at (i:=p) (by omega)
   have cA:=QY _ _ hx hy
   have r1:=aV l (p+1)
   have r2:=aV l p
   obtain⟨x,jn⟩:=ax (l.getD (p+1) [])
   obtain⟨y,vM⟩:=ax (l.getD p [])
   rw[jn] at hx cA r1
   rw[vM] at hy cA r2
   have rl:=aq l
   have jG:=ay hx.len
   have kB:=ay hy.len
   have fx:=aE x
   have fy:=aE y
   have lx:=hx.len
   have ly:=hy.len
   unfold RL at cA
   have dx:=oO hx.len
   have dy:=oO hy.len
   have gx:=ah x
   have gy:=ah y
   have KF:((ai l).set (p+1) (cx y)).set p (cx x)=ai (uJ l (p+1)):=by
    rw[rO,rO];unfold uJ;rw[Nat.add_sub_cancel,jn,vM]
   have r3:((ai l).set (p+1) (cx y)).getD p []=cx y:=by
    rw[rO,aV,qa,qm (by omega),<-qa,vM]
   obtain⟨z,hz⟩:=ax (bV x y)
   rw[hz] at cA
   refine bm (eU h4 DP r1 r2 jG kB rl) ?_
   repeat refine ag ?_
   refine gv cA ?_
   refine vG ?_
   refine bM ?_ ?_
   .intro h5 h6
    refine ae h6 ?_
    refine dw (by kernel_rfl) ?_
    refine bm (bu DP r1 r2 r3 jG kB rl (bu fx fy gx gy lx ly dx (bA dy KF @length_set.{0}))) ?_
    repeat refine ag ?_
    refine aA (p,uJ l (p+1)) ?_ ⟨by omega,by rw[uK];exact nk,fun f=>by rw[NQ (by omega) (by omega),aY],?_⟩
    .exact bx [0]
    have:=Q8 (j:=p+1) (by omega) hj (by omega) q0 (by rw[jn,Nat.add_sub_cancel,vM,hz];exact h5)
    rwa [Nat.add_sub_cancel] at this
   intro h5 h6
   have hd:=Gv WU (by omega) hj q0 (Or.inr (by rw[jn,Nat.add_sub_cancel,vM,hz];omega))
   refine ae h6 ?_
   refine aA (i+1,l) ?_ ⟨by omega,by omega,nk,aY,fun p q h7 h8 h9=>hd p q h7 (by omega)⟩
   exact bx [0]
  intro h3 h4
  have hd:=Gv WU (by omega) hj q0 (Or.inl (by omega))
  refine ae h4 ?_
  refine aA (i+1,l) ?_ ⟨by omega,by omega,nk,aY,fun p q h7 h8 h9=>hd p q h7 (by omega)⟩
  exact bx [0]
 intro h1 h2
 refine ae (aB h2 @A8) ?_
 exact⟨[.row true (ai l)],.tup [],⟨l,rfl,rfl,by rw[nk,b8],aY,fun p q h3 h4=>vv p q h3 (by omega) (by omega)⟩,sn (cd:=True) (vs:=[]) rfl trivial rfl trivial rfl rfl rfl⟩
theorem aeC (x:Nat) (hx:x<256):Den Tryz.prog 245 [] [.int .u64 x] [] (.int .i64 (eA x:Int)):=by
 have h8: ∀ n:Nat,n<256->(((Lib.len8tab[n]?).getD 0).toNat:Nat)=eA n:=fun n hn=>FK ⟨n,hn⟩
 have dQ:Lib.len8tab.size=256:=Lib.len8tab_size;have hb8:eA x<=8:=by
  have: ∀ m:Fin 256,eA m.val<=8:=by decide+kernel
  exact this ⟨x,hx⟩
 have e1:decide ((x:Int)>=4294967296)=false:=oc;have e2:decide ((x:Int)>=65536)=false:=oc;have e3:decide ((x:Int)>=256)=false:=oc;refine dq Tryz.func245 24 0 ?_;refine bw (dN @FM @nC e1 e2 e3 h8) ?_;refine⟨by rw[dQ];omega,?_⟩;refine a_ ?_;refine sA ?_;simp
theorem Yw (x:Nat) (hx:x<256):Den Tryz.prog 207 [] [.int .u64 x] [] (.int .i64 (eA x:Int)):=by
 refine dq Tryz.func207 7 0 ?_;refine aW ?_;refine gp (aeC x hx) rfl ?_;refine aN ?_;refine a_ rfl
theorem aeD (ls ls':List (List Raw)) (lim:Int) (hn:ls.length<=12) (h:Den Tryz.prog 259 [.row true (ai ls)] [.lsl 0 0 ls.length 27,.int .i64 0,.int .i64 ls.length,Jw] [.row true (ai ls')] (.tup [])):
 Den Tryz.prog 235 [.row true (ai ls)] [.lsl 0 0 ls.length 27,.int .i64 0,.int .i64 ls.length,.int .i64 lim,Jw] [.row true (ai ls')] (.tup []):=by
 obtain⟨n,b8⟩:=ax ls.length
 rw[b8] at h hn ⊢
 have e1:decide ((n:Int) - 0<=12)=true:=yP
 refine dq Tryz.func235 143 1 ?_
 refine aW ?_
 refine wl (α:=Unit) (fun _=>⟨[.lsl 0 0 n 27,.int .i64 0,.int .i64 n,.int .i64 lim,Jw,.any,.any,.any,.any,.any,.bool true,.bool true]++replicate 136 .any,[.row true (ai ls)]⟩)
  (fun _=>0) (fun _=>True) () ?_ trivial ?_
 .exact bx [0]
 rintro⟨⟩ _
 refine bw e1 ?_
 refine eG 0 h trivial ?_
 refine ae @append_nil.{0} ?_
 exact sn (cd:=True) (vs:=[]) rfl trivial rfl trivial rfl rfl rfl
theorem ajE (ls:List (List Raw)) (bF:AOk 1000000000 ls) (hn:ls.length<=12):
 ∃ ls',Q9 ls ls'/\Den Tryz.prog 203 [.row true (ai ls)] [.lsl 0 0 ls.length 27,Jw] [.row true (ai ls')] (.tup []):=by
 obtain⟨H1,res,⟨ls',rfl,rfl,hs⟩,h⟩:=aeB ls bF (by omega)
 refine⟨ls',hs,?_⟩
 have h2:=aeD ls ls' (eA ls.length:Int) hn h
 obtain⟨n,b8⟩:=ax ls.length
 rw[b8] at h2 hn ⊢
 refine dq Tryz.func203 12 1 ?_
 refine aW ?_
 refine gp (Yw n (by omega)) rfl ?_
 refine aN ?_
 refine eG 0 h2 trivial ?_
 refine ae @append_nil.{0} ?_
 exact sn (cd:=True) (vs:=[]) rfl trivial rfl trivial rfl rfl rfl
theorem aeE (a b:List Raw) (ha:LOk 1000000000 a) (hb:LOk 1000000000 b):Den Tryz.prog 254 [] [RL a,RL b] [] (.bool (bV a b==0)):=by
 have cA:=QY a b ha hb;have ga:=ah a;have gb:=ah b;have la:=ha.len;have lb:=hb.len;have a27:=aj la;have b27:=aj lb;obtain⟨z,hz⟩:=ax (bV a b);rw[hz] at cA ⊢;unfold RL at cA ⊢;refine dq Tryz.func254 7 0 ?_;refine bw (aB a27 b27) ?_
 repeat refine ag ?_
 refine gv cA ?_;refine vG ?_;refine a_ rfl
theorem rQ (ts:List RT) (i:Nat) (t:RT):(av ts).set i (gC t)=av (ts.set i t):=by simp[av,List.map_set]
theorem oP {t:RT} (h:t.1.length=8):List.drop 11 (gC t)=[]:=List.drop_of_length_le (by rw[aJ h];omega)
abbrev mV (g:Nat) (v:Value):PV:= .fv (.lit (.func (.func g) #[v] #[]))
theorem aeF (g:Nat) (v:Value) (u:FV) (hv:PV.ofValue v= .agg [.fv u]) (ls:List RT) (hl: ∀ t∈ls,t.1.length=8) (hn:ls.length<=1000000)
 (Cd: ∀ s∈ls,∀ t∈ls,Den Tryz.prog g [] [.agg [.fv u],.agg (fC s),.agg (fC t)] [] (.int .i64 (-(jv s.1 t.1)))):
 ∃ H1 res,(fun H1 res=> ∃ ls',H1=[.row true (av ls')]/\res=PV.tup []/\ls'.Perm ls/\ls'.Pairwise (fun a b=>¬BT b a)) H1 res/\
  Den Tryz.prog 236 [.row true (av ls)] [.lsl 0 0 ls.length 11,.int .i64 0,.int .i64 ls.length,mV g v] H1 res:=by
 obtain⟨n,b8⟩:=ax ls.length
 rw[b8] at hn ⊢
 refine Lh Tryz.func236 49 1 ?_
 refine aW ?_
 refine wl (α:=Nat×List RT) (fun⟨i,l⟩=>⟨[.lsl 0 0 n 11,.int .i64 0,.int .i64 n,mV g v,.any,.any,.any,.any,.int .i64 i]++replicate 44 .any,[.row true (av l)]⟩)
  (fun⟨i,_⟩=>n+1 - i) (fun⟨i,l⟩=>1<=i/\(i<=n\/i=1)/\l.Perm ls/\ ∀ p q,p<q->q<i->q<n-> ¬BT (l.getD q mf) (l.getD p mf)) (1,ls) ?_ ?_ ?_
 .exact bx [0]
 .exact⟨qp _,Or.inr rfl,List.Perm.refl _,fun p q h1 h2 h3=>by omega⟩
 rintro⟨i,l⟩ ⟨nj,f0,fW,vv⟩
 have nk:l.length=n:=by rw[fW.length_eq,b8]
 refine aW ?_
 refine bM ?_ ?_
 .intro h1 h2
  refine ae h2 ?_
  refine wl (α:=Nat×List RT) (fun⟨j,l⟩=>⟨[.lsl 0 0 n 11,.int .i64 0,.int .i64 n,mV g v,.any,.any,.any,.any,.int .i64 i,.int .i64 j]++replicate 43 .any,[.row true (av l)]⟩)
   (fun⟨j,_⟩=>j) (fun⟨j,l⟩=>j<=i/\l.Perm ls/\QQ mf BT l i j) (i,l) ?_ ?_ ?_
  .exact bx [0]
  .exact⟨qp _,fW,fun p q h3 h4 h5=>vv p q h3 (by omega) (by omega)⟩
  rintro⟨j,l⟩ ⟨hj,fW,q0⟩
  have nk:l.length=n:=by rw[fW.length_eq,b8]
  have M_: ∀ t∈l,t.1.length=8:=fun t ht=>hl t (fW.mem_iff.1 ht)
  have WS: ∀ x∈l,∀ y∈l,∀ z∈l,¬BT x y-> ¬BT y z-> ¬BT x z:=fun x hx y hy z hz=>ZW (M_ x hx) (M_ y hy) (M_ z hz)
  refine aW ?_
  refine dw (by kernel_rfl) ?_
  refine aN ?_
  refine bM ?_ ?_
  .intro h3 h4
   obtain⟨p,rfl⟩: ∃ p,j=p+1:=⟨j - 1,by omega⟩
   have DP:(((p+1:Nat):Int) - 1)=(p:Int):=by omega
   have m1:=fH (ts:=l) (i:=p+1) (by omega)
   have m2:=fH (ts:=l) (i:=p) (by omega)
   have cA:=Cd _ (fW.mem_iff.1 m1) _ (fW.mem_iff.1 m2)
   have r1:=cE (ts:=l) (i:=p+1) (by omega)
   have r2:=cE (ts:=l) (i:=p) (by omega)
   have lx:=M_ _ m1
   have ly:=M_ _ m2
   have aL:BT (l.getD (p+1) mf) (l.getD p mf)↔ -(jv (l.getD (p+1) mf).1 (l.getD p mf).1)<0:=by
    unfold BT;rw[<-LP];omega
   have KF:((av l).set (p+1) (gC (l.getD p mf))).set p (gC (l.getD (p+1) mf))=av (pq mf l (p+1)):=by
    rw[rQ,rQ];unfold pq;rw[Nat.add_sub_cancel]
   have r3:((av l).set (p+1) (gC (l.getD p mf))).getD p []=gC (l.getD p mf):=by
    rw[qa,qm (by omega),<-qa,r2]
   have vw:=fun h=>CQ mf BT QR (ls:=l) (i:=i) (j:=p+1) (by omega) hj (by omega) q0 h
   have mM:=fun h=>rG mf BT (ls:=l) WS (i:=i) (j:=p+1) (by omega) hj q0 h
   have hsp:=zz mf (ls:=l) (j:=p+1) (by omega) (by omega)
   rw[Nat.add_sub_cancel] at vw mM
   obtain⟨x,jn⟩:=ax (l.getD (p+1) mf)
   obtain⟨y,vM⟩:=ax (l.getD p mf)
   rw[jn] at cA r1 lx aL KF vw mM
   rw[vM] at cA r2 r3 ly aL KF vw mM
   have rl:=aw l
   have P4:=aU lx
   have y11:=aU ly
   have fx:=aJ lx
   have fy:=aJ ly
   have dx:=oP lx
   have dy:=oP ly
   have gx:=aH lx
   have gy:=aH ly
   obtain⟨z,hz⟩:=ax (-(jv x.1 y.1))
   rw[hz] at cA aL
   refine ae (bu h4 DP r1 r2 P4 y11 @dI (dR rl hv fx fy)) ?_
   repeat refine ag ?_
   refine gp cA (by simp[bJ,eT,cT,dI,l6,dZ]) ?_
   refine ae @c_ ?_
   refine bM ?_ ?_
   .intro h5 h6
    refine ae h6 ?_
    refine dw (by kernel_rfl) ?_
    refine ae (bu DP r1 r2 r3 P4 y11 @dI (bu rl fx fy gx gy dx dy (fO KF @length_set.{0} @cT @c_ @append_nil.{0}))) ?_
    repeat refine ag ?_
    refine aA (p,pq mf l (p+1)) ?_ ⟨by omega,hsp.trans fW,vw (aL.2 h5)⟩
    exact bx [0]
   intro h5 h6
   have hd:=mM (Or.inr (fun h=>h5 (aL.1 h)))
   refine ae h6 ?_
   refine aA (i+1,l) ?_ ⟨by omega,by omega,fW,fun p q h7 h8 h9=>hd p q h7 (by omega)⟩
   exact bx [0]
  intro h3 h4
  have hd:=rG mf BT (ls:=l) WS (i:=i) (j:=j) (by omega) hj q0 (Or.inl (by omega))
  refine ae h4 ?_
  refine aA (i+1,l) ?_ ⟨by omega,by omega,fW,fun p q h7 h8 h9=>hd p q h7 (by omega)⟩
  exact bx [0]
 intro h1 h2
 have hpw:l.Pairwise (fun a b=>¬BT b a):=sN mf BT (fun p q h3 h4=>vv p q h3 (by omega) (by omega))
 refine ae h2 ?_
 exact⟨[.row true (av l)],.tup [],⟨l,rfl,rfl,fW,hpw⟩,sn (cd:=True) (vs:=[]) rfl trivial rfl trivial rfl rfl rfl⟩
theorem aeG (V:PV) (ls ls':List RT) (lim:Int) (hn:ls.length<=12) (h:Den Tryz.prog 236 [.row true (av ls)] [.lsl 0 0 ls.length 11,.int .i64 0,.int .i64 ls.length,V] [.row true (av ls')] (.tup [])) (hV: ∃ v g,V=mV g v):
 Den Tryz.prog 206 [.row true (av ls)] [.lsl 0 0 ls.length 11,.int .i64 0,.int .i64 ls.length,.int .i64 lim,V] [.row true (av ls')] (.tup []):=by
 obtain⟨v,g,rfl⟩:=hV
 obtain⟨n,b8⟩:=ax ls.length
 rw[b8] at h hn ⊢
 have e1:decide ((n:Int) - 0<=12)=true:=yP
 refine dq Tryz.func206 143 1 ?_
 refine aW ?_
 refine wl (α:=Unit) (fun _=>⟨[.lsl 0 0 n 11,.int .i64 0,.int .i64 n,.int .i64 lim,mV g v,.any,.any,.any,.any,.any,.bool true,.bool true]++replicate 136 .any,[.row true (av ls)]⟩)
  (fun _=>0) (fun _=>True) () ?_ trivial ?_
 .exact bx [0]
 rintro⟨⟩ _
 refine bw e1 ?_
 refine eG 0 h trivial ?_
 refine ae @append_nil.{0} ?_
 exact sn (cd:=True) (vs:=[]) rfl trivial rfl trivial rfl rfl rfl
def bk:Nat:=12
theorem Yx (g:Nat) (v:Value) (u:FV) (hv:PV.ofValue v= .agg [.fv u]) (ls:List RT) (hl: ∀ t∈ls,t.1.length=8) (hn:ls.length<=bk)
 (Cd: ∀ s∈ls,∀ t∈ls,Den Tryz.prog g [] [.agg [.fv u],.agg (fC s),.agg (fC t)] [] (.int .i64 (-(jv s.1 t.1)))):
 ∃ ls',ls'.Perm ls/\ls'.Pairwise (fun a b=>¬BT b a)/\Den Tryz.prog 169 [.row true (av ls)] [.lsl 0 0 ls.length 11,mV g v] [.row true (av ls')] (.tup []):=by
 unfold bk at hn
 obtain⟨H1,res,⟨ls',rfl,rfl,hp,hs⟩,h⟩:=aeF g v u hv ls hl (by omega) Cd
 refine⟨ls',hp,hs,?_⟩
 have h2:=aeG (mV g v) ls ls' (eA ls.length:Int) hn h ⟨v,g,rfl⟩
 obtain⟨n,b8⟩:=ax ls.length
 rw[b8] at h2 hn ⊢
 refine dq Tryz.func169 12 1 ?_
 refine aW ?_
 refine gp (Yw n (by omega)) rfl ?_
 refine aN ?_
 refine eG 0 h2 trivial ?_
 refine ae @append_nil.{0} ?_
 exact sn (cd:=True) (vs:=[]) rfl trivial rfl trivial rfl rfl rfl
theorem xk {m:List Int} {i:Nat} (h:i<m.length):gG (m.drop i)=(decide (0<=m.getD i 0)&&decide (m.getD i 0<=1024)&&gG (m.drop (i+1))):=by
 rw[drop_eq_getElem_cons h,qa,qb h];rfl
theorem xm {ts:List RT} {i:Nat} (h:i<ts.length):validB (ts.drop i)=(gG (ts.getD i mf).1&&validB (ts.drop (i+1))):=by
 rw[drop_eq_getElem_cons h,qa,qb h];rfl
theorem LZ (ts:List RT) (hl: ∀ t∈ts,t.1.length=8) (hn:ts.length<=1000000000000):Den Tryz.prog 118 [] [PL ts] [] (.bool (validB ts)):=by
 have rl:=aw ts;obtain⟨n,b8⟩:=ax ts.length;rw[b8] at rl hn;obtain⟨R,hR⟩:=ax (validB ts);rw[hR];refine dq Tryz.func118 25 0 ?_;refine bw rl ?_;refine wl (α:=Nat) (fun i=>⟨[PL ts,.any,.any,.any,.any,.any,.any,PL ts,.int .i64 n,.int .i64 i]++replicate 16 .any,[]⟩) (fun i=>n - i) (fun i=>i<=n/\validB (ts.drop i)=R) 0 ?_ ?_ ?_
 .exact bx []
 .exact⟨dk _,hR⟩
 rintro i ⟨hi,hv⟩;refine aW ?_;refine bM ?_ ?_
 .intro h1 h2;have r1:=cE (ts:=ts) (i:=i) (by omega);have hm:=hl _ (fH (ts:=ts) (i:=i) (by omega));have hd:=xm (ts:=ts) (i:=i) (by omega);obtain⟨t,ht⟩:=ax (ts.getD i mf);rw[ht] at r1 hm hd;rw[hv] at hd;have KG:=aU hm;have fl:=aJ hm;have c8:=ed hm;have cl:=aH hm;have ml:=bW t.1;rw[hm] at ml;refine ae (bu h2 r1 KG @dI fl c8 cl (aB rl @append_nil.{0})) ?_
  repeat refine ag ?_
  refine wl (α:=Nat) (fun k=>⟨[PL ts,.any,.any,.any,.any,.any,.any,PL ts,.int .i64 n,.int .i64 i,.any,.any,.any,.any,.agg (mC t.1),.int .i64 k]++replicate 10 .any,[]⟩) (fun k=>8 - k) (fun k=>k<=8/\gG (t.1.drop k)=gG t.1) 0 ?_ ?_ ?_
  .refine eH [] ?_ ?_
   .simp[bh,dF,cw,uD]
   simp[d_]
  .exact⟨dk _,rfl⟩
  rintro k ⟨hk,Ul⟩;refine aW ?_;refine bM ?_ ?_
  .intro h3 h4;have dS:=CU (m:=t.1) (i:=k) (by omega);have tQ:=xk (m:=t.1) (i:=k) (by omega);obtain⟨x,hx⟩:=ax (t.1.getD k 0);rw[hx] at dS tQ;rw[Ul] at tQ;refine ae (dR h4 dS ml @Nat.mul_one) ?_
   repeat refine ag ?_
   by_cases KH:x<0
   .have e1:decide (x<0)=true:=f3 KH;have WV:R=false:=by rw[hd,tQ,jI (show¬0<=x by omega)];rfl
    rw[WV];refine ae e1 ?_;refine a_ rfl
   have e1:decide (x<0)=false:=jI KH;by_cases vJ:1024<x
   .have e2:decide (x>1024)=true:=f3 vJ;have WV:R=false:=by rw[hd,tQ,jI (show¬x<=1024 by omega)];simp
    rw[WV];refine ae (aB e1 e2) ?_;refine a_ rfl
   have e2:decide (x>1024)=false:=jI vJ;rw[f3 (show 0<=x by omega),f3 (show x<=1024 by omega)] at tQ;refine ae (aB e1 e2) ?_;refine aA (k+1) ?_ ⟨by omega,by rw[tQ];rfl⟩;refine eH [] ?_ ?_
   .simp[bh,dF,cw,uD]
   simp[d_]
  intro h3 h4;have hvt:gG t.1=true:=by rw[<-Ul,List.drop_of_length_le (by omega)];rfl
  rw[hvt] at hd;refine ae h4 ?_;refine aA (i+1) ?_ ⟨by omega,by rw[hd];rfl⟩;exact bx []
 intro h1 h2;have hRt:R=true:=by rw[<-hv,List.drop_of_length_le (by omega)];rfl
 rw[hRt];refine ae h2 ?_;refine a_ rfl
def zJ (acc:List Tm):List (List Int×PV):=acc.map (fun t=>(t.1,PV.agg (cn t.2).c))
def wm (acc:List Tm) (m:Mn):Raw:=match oH acc m with | some q=>cn q | none=>rz
theorem wo: ∀ (acc:List Tm) (m:Mn),d' (zJ acc) m=(oH acc m).map (fun q=>PV.agg (cn q).c)
 | [],m=>rfl
 | t::acc,m=>by
  have ih:=wo acc m;unfold d' zJ oH at ih ⊢;by_cases h:t.1=m
  .rw[map_cons,List.find?_cons_of_pos (by simpa using h),List.find?_cons_of_pos (by simpa using h)];rfl
  rw[map_cons,List.find?_cons_of_neg (by simpa using h),List.find?_cons_of_neg (by simpa using h)];exact ih
theorem Gw (acc:List Tm) (m:Mn):(d' (zJ acc) m).getD (.agg [.bool false,.fv (.sl []),.fv (.sl [])])= .agg (wm acc m).c:=by
 rw[wo];unfold wm;cases oH acc m<;>rfl
theorem UX (acc:List Tm) (m:Mn):(d' (zJ acc) m).isSome=decide (m∈acc.map (·.1)):=by
 rw[wo];have h:=NK (a:=acc) (m:=m);cases hf:oH acc m with
 | none=>rw[jI (h.1 hf)];rfl
 | some q=>
  rw[f3 (by
   cases hd:decide (m∈acc.map (·.1)) with
   | true=>exact of_decide_eq_true hd
   | false=>rw[h.2 (of_decide_eq_false hd)] at hf;cases hf)]
  rfl
theorem Q_ (acc:List Tm) (m:Mn):(wm acc m).q=(oH acc m).getD 0:=by
 unfold wm;cases oH acc m with
 | none=>exact Lx
 | some q=>exact cu q
theorem Gx: ∀ (acc:List Tm) (m:Mn) (q:Rat),kh (zJ acc) m (.agg (cn ((wm acc m).q+q)).c)=zJ (accAdd acc m q)
 | [],m,q=>by
  rw[Q_];show [(m,PV.agg (cn (0+q)).c)]=[(m,PV.agg (cn q).c)];rw[show(0:Rat)+q=q by grind]
 | t::acc,m,q=>by
  have ih:=Gx acc m q;rw[Q_] at ih ⊢;unfold accAdd;by_cases h:t.1=m
  .have h1:oH (t::acc) m=some t.2:=by
    unfold oH;rw[List.find?_cons_of_pos (by simpa using h)];rfl
   rw[h1,if_pos h];show(if(t.1==m)=true then(m,PV.agg (cn (t.2+q)).c)::zJ acc else _)=_;rw[if_pos (by simpa using h)];rfl
  have h1:oH (t::acc) m=oH acc m:=by
   unfold oH;rw[List.find?_cons_of_neg (by simpa using h)]
  rw[h1,if_neg h];show(if(t.1==m)=true then _ else(t.1,PV.agg (cn t.2).c)::kh (zJ acc) m _)=_;rw[if_neg (by simpa using h),ih];rfl
theorem Ra {acc:List Tm} {m:Mn} {q:Rat} (h:oH acc m=some q):(m,q)∈acc:=by
 unfold oH at h;rw[Option.map_eq_some_iff] at h;obtain⟨t,ht,rfl⟩:=h;have h1:=List.find?_some ht;have h2:=List.mem_of_find?_eq_some ht;have h3:t.1=m:=of_decide_eq_true h1;rw[<-h3];exact h2
theorem Z0 (k:Nat):rz.Ok k:=⟨fun d hd=>by simp[rz] at hd,fun d hd=>by simp[rz] at hd,by simp[rz],by simp[rz]⟩
theorem UY {acc:List Tm} {k:Nat} (h: ∀ t∈acc,Bd k t.2) (m:Mn):(wm acc m).Ok k:=by
 unfold wm;cases hf:oH acc m with
 | none=>exact Z0 k
 | some q=>exact bj (h _ (Ra hf))
theorem Rb (t:Tm):tq (tn t)=t:=by
 unfold tq tn;rw[cu]
theorem bE (ts:List Tm):(ts.map tn).map tq=ts:=by
 rw[List.map_map]
 conv=>rhs;rw[<-List.map_id ts]
 exact List.map_congr_left (fun t _=>Rb t)
theorem Rc {H:List Ob} {id off n s:Nat} {v:FV}:shutBs H id [.lsl id off n s,.fv v]=H:=by simp[shutBs,yd,shutIds,pK,ny,fN]
theorem Rd (ts:List RT) (h8:TsOk 1000000000 ts) (hb:PB 1000000000 (ts.map tq)) (hn:ts.length<=10000000000) (hs:(nf (ts.map tq)).length<=bk):
 Den Tryz.prog 119 [] [PL ts] [] (PL ((nf (ts.map tq)).map tn)):=by
 have rl:=aw ts
 obtain⟨n,b8⟩:=ax ts.length
 rw[b8] at rl hn
 obtain⟨T,hT⟩:=ax (ts.map tq)
 have hTl:T.length=n:=by rw[<-hT,length_map,b8]
 have WW:Len8 T:=fun t ht=>by
  rw[<-hT] at ht;obtain⟨u,hu,rfl⟩:=mem_map.1 ht;exact(h8 u hu).len
 have agB: ∀ t∈T,∀ x∈t.1,-1000000000000<=x/\x<=1000000000000:=fun t ht=>by
  rw[<-hT] at ht;obtain⟨u,hu,rfl⟩:=mem_map.1 ht;exact(h8 u hu).rng
 rw[hT] at hb hs ⊢
 refine dq Tryz.func119 68 0 ?_
 refine bw rl ?_
 refine wl (α:=Nat) (fun i=>⟨[PL ts,.any,.any,.tab 0,.lsl 1 0 (accL (T.take i)).length 8,.any,.any,.any,.any,.any,.any,.any,.any,PL ts,.int .i64 n,.int .i64 i]++replicate 53 .any,[.tab 8 (zJ (accL (T.take i))),.row true (pw ((accL (T.take i)).map (·.1)))]⟩) (fun i=>n - i) (fun i=>i<=n) 0 ?_ (dk _) ?_
 .refine Weak.nil 4 8 (by decide) rfl ?_
  refine eH [0,1] ?_ ?_
  .simp[bh,dF,cw]
   simp[accL]
  simp[d_,fD]
  simp[accL,zJ,pw]
 rintro i hi
 have pL:(accL (T.take i)).length<=i:=by
  have:=Ga (T.take i);rw[length_take] at this;omega
 obtain⟨acc,wV⟩:=ax (accL (T.take i))
 have hbA: ∀ t∈acc,Bd 1000000000 t.2:=by rw[<-wV];exact((hb.take i).accL).bd (by decide)
 rw[wV] at pL ⊢
 obtain⟨K,hK⟩:=ax acc.length
 have rm:=uE (acc.map (·.1))
 rw[length_map,hK] at rm
 have tkm:=Js (ms:=acc.map (·.1)) (n:=K) (by rw[length_map];omega)
 rw[hK] at pL ⊢
 refine aW ?_
 refine bM ?_ ?_
 .intro h1 h2
  have r1:=cE (ts:=ts) (i:=i) (by omega)
  have aY:=fH (ts:=ts) (i:=i) (by omega)
  have bF:=h8 _ aY
  have cL:T.take (i+1)=T.take i++[tq (ts.getD i mf)]:=by
   rw[List.take_add_one,<-hT,List.getElem?_map,qa,qb (by omega)];rfl
  obtain⟨t,ht⟩:=ax (ts.getD i mf)
  rw[ht] at r1 bF cL
  have WX:=CL (T.take i) (tq t)
  rw[<-cL,wV] at WX
  change accL (T.take (i+1))=accAdd acc t.1 t.2.q at WX
  have hm:=bF.len
  have Zb:=bF.rng
  have WR:=md acc t.1 t.2.q
  have aF:=congrArg List.length WR
  rw[length_map] at aF
  have KG:=aU hm
  have fl:=aJ hm
  have c8:=ed hm
  have cl:=aH hm
  have ml:=bW t.1
  rw[hm] at ml
  have m8:=tt hm
  have mfl:=dY t.1
  rw[hm] at mfl
  have cc:=d6 hm
  have yS:=Lr (wm acc t.1) t.2 (UY hbA t.1) bF.raw
  change Den Tryz.prog 69 [] [.agg (wm acc t.1).c,.agg t.2.c] [] (.agg (cn ((wm acc t.1).q+t.2.q)).c) at yS
  have bS:=Gx acc t.1 t.2.q
  have cI:=Gw acc t.1
  have Iw:=UX acc t.1
  obtain⟨cur,kC⟩:=ax (wm acc t.1)
  obtain⟨sm,Na⟩:=ax (cn (cur.q+t.2.q))
  rw[kC] at yS bS cI
  rw[Na] at yS bS
  have agD:(∀ x∈t.1,-9223372036854775808<=x/\x<9223372036854775808):=fun x hx=>by have:=Zb x hx;omega
  by_cases hk:t.1∈acc.map (·.1)
  .rw[f3 hk] at Iw
   rw[if_pos hk] at WR aF
   refine ae (bu h2 r1 KG @dI fl c8 cl (eU rl hm cI Iw @cz @Bool.not_true @append_nil.{0})) ?_
   repeat refine ag ?_
   refine dw (by kernel_rfl) ?_
   refine ae (fO c8 cl hm cI cc) ?_
   repeat refine ag ?_
   refine xL yS ?_
   refine ae (dN @fG @da bS hm @LR @append_nil.{0}) ?_
   repeat refine ag ?_
   refine aA (i+1) ?_ (by omega)
   rw[WX,aF,length_map,hK,WR]
   exact bx [0,1]
  rw[jI hk] at Iw
  rw[if_neg hk] at WR aF
  have bO:=Jr (acc.map (·.1)) t.1
  refine ae (bu h2 r1 KG @dI fl c8 cl (bu rl hm cI Iw @cz @Bool.not_false ml (eU @oJ @p5 m8 rm tkm bO @append_nil.{0}))) ?_
  repeat refine ag ?_
  refine dw (by kernel_rfl) ?_
  refine ae (fO c8 cl hm cI cc) ?_
  repeat refine ag ?_
  refine xL yS ?_
  refine ae (dN @fG @da bS hm @LR @append_nil.{0}) ?_
  repeat refine ag ?_
  refine aA (i+1) ?_ (by omega)
  rw[WX,aF,WR,qe,length_map,hK]
  exact bx [0,5]
 intro h1 h2
 have f0:i=n:=by omega
 have WC:T.take i=T:=dm (by omega)
 rw[WC] at wV
 have oh:=tf T
 have xQ:=wg WW
 have agE: ∀ u∈acc,∀ x∈u.1,-1000000000000<=x/\x<=1000000000000:=fun u hu=>by
  rw[<-wV] at hu;obtain⟨w,hw,he⟩:=mem_map.1 (zr (mem_map.2 ⟨u,hu,rfl⟩));rw[<-he];exact agB w hw
 have lW:pr T=acc.filter (fun t=>decide (t.2≠0)):=by unfold pr;rw[wV]
 rw[wV] at oh xQ
 have hO:(pr T).length<=n:=by
  rw[lW];have:=List.length_filter_le (fun t:Tm=>decide (t.2≠0)) acc;omega
 refine ae h2 ?_
 refine wl (α:=Nat) (fun j=>⟨[.any,.any,.any,.tab 0,.any,.any,.any,.any,.any,.lsl 2 0 ((acc.take j).filter (fun t=>decide (t.2≠0))).length 11]++replicate 34 .any++[.lsl 1 0 K 8,.int .i64 K,.int .i64 j]++replicate 22 .any,
  [.tab 8 (zJ acc),.row true (pw (acc.map (·.1))),.row true (av (((acc.take j).filter (fun t=>decide (t.2≠0))).map tn))]⟩) (fun j=>K - j) (fun j=>j<=K) 0 ?_ (dk _) ?_
 .refine Weak.nil 9 11 (by decide) rfl ?_
  refine eH [0,1,2] ?_ ?_
  .simp[bh,dF,cw]
  simp[d_,fD]
  simp[av]
 intro j hj
 obtain⟨out,cG⟩: ∃ o,(acc.take j).filter (fun t=>decide (t.2≠0))=o:=⟨_,rfl⟩
 have pR:out.length<=j:=by
  rw[<-cG];have:=List.length_filter_le (fun t:Tm=>decide (t.2≠0)) (acc.take j);rw[length_take] at this;omega
 rw[cG]
 obtain⟨O,WY⟩:=ax out.length
 have ro:=aw (out.map tn)
 rw[length_map,WY] at ro
 have tko:=bB (ts:=out.map tn) (n:=O) (by rw[length_map];omega)
 rw[WY] at pR ⊢
 refine aW ?_
 refine bM ?_ ?_
 .intro h3 h4
  obtain⟨u,hu⟩: ∃ u,acc[j]?=some u:=⟨acc[j]'(by omega),by simp⟩
  have hju:=List.mem_of_getElem? hu
  have rmg:=Jq (ms:=acc.map (·.1)) (i:=j) (by rw[length_map];omega)
  have hkj:(acc.map (·.1)).getD j []=u.1:=by rw[qa,List.getElem?_map,hu];rfl
  rw[hkj] at rmg
  have hm:=xQ u hju
  have Zb:=agE u hju
  have hcu:wm acc u.1=cn u.2:=by
   unfold wm;rw[UM oh hu]
  have cI:=Gw acc u.1
  rw[hcu] at cI
  have Ck:=bj (hbA u hju)
  have fM:=nF (cn u.2) (Ck.mono (by decide))
  rw[cu] at fM
  change Den Tryz.prog 84 [] [.agg (cn u.2).c] [] _ at fM
  have eO:acc.take (j+1)=acc.take j++[u]:=by
   rw[List.take_add_one,hu];rfl
  have ml:=bW u.1
  rw[hm] at ml
  have mfl:=dY u.1
  rw[hm] at mfl
  have m8:=jL hm
  have mf8:=tt hm
  have agD:(∀ x∈u.1,-9223372036854775808<=x/\x<9223372036854775808):=fun x hx=>by have:=Zb x hx;omega
  refine ae (bu h4 rm rmg mf8 mfl @jV ml (dR m8 hm cI @append_nil.{0})) ?_
  repeat refine ag ?_
  refine xL fM ?_
  refine ae @fG ?_
  refine Br.bneInt ?_ ?_
  .intro h5 h6
   have Ix:u.2≠0:=fun h=>h5 (a9.2 h)
   have Ti:(acc.take (j+1)).filter (fun t=>decide (t.2≠0))=out++[u]:=by
    rw[eO,filter_append,cG,List.filter_cons_of_pos (by simpa using Ix)];rfl
   have bO:=dT (out.map tn) (tn u)
   have Tj:(out++[u]).map tn=out.map tn++[tn u]:=by simp
   rw[<-Tj] at bO
   have WH:(tn u).1.length=8:=hm
   have b1:List.take 8 (mC u.1++[PV.bool false,.nilsl,.nilsl])=mC u.1:=by rw[List.take_append_of_le_length (by omega),m8]
   have b2:List.drop 11 (mC u.1++[PV.bool false,.nilsl,.nilsl])=[]:=List.drop_of_length_le (by simp[ml])
   have b3:mC u.1++(cn u.2).c=fC (tn u):=rfl
   have b4:=aU WH
   have b5:=aH WH
   have b6:=aJ WH
   have b7:(mC u.1++[PV.bool false,.nilsl,.nilsl]).length=11:=by simp[ml]
   refine ae h6 ?_
   refine dw (by kernel_rfl) ?_
   refine ae (bu m8 ml hm cI @cz b1 b2 (bu b3 b4 b5 b7 @cT @c_ ro (bA tko bO @append_nil.{0}))) ?_
   repeat refine ag ?_
   refine aA (j+1) ?_ (by omega)
   rw[Ti,qe,WY]
   exact bx [0,1,5]
  intro h5 h6
  have hz:u.2=0:=a9.1 h5
  have Ti:(acc.take (j+1)).filter (fun t=>decide (t.2≠0))=out:=by
   rw[eO,filter_append,cG,List.filter_cons_of_neg (by simpa using hz)];simp
  refine ae h6 ?_
  refine aA (j+1) ?_ (by omega)
  rw[Ti,WY]
  exact bx [0,1,2]
 intro h3 h4
 have Tk:acc.take j=acc:=dm (by omega)
 rw[Tk] at cG
 rw[cG] at lW
 have KI:=Gh WW
 rw[lW,WY] at KI
 have ho8: ∀ t∈out.map tn,t.1.length=8:=fun t ht=>by
  obtain⟨u,hu,rfl⟩:=mem_map.1 ht;rw[<-cG] at hu;exact xQ u (List.mem_filter.1 hu).1
 obtain⟨ls',hp,hso,KJ⟩:=Yx 170 (.agg #[.bool true]) (.lit (.bool true)) rfl (out.map tn) ho8 (by rw[length_map];omega) (fun s hs t ht=>aez s t (ho8 s hs) (ho8 t ht))
 have au:ls'=(nf T).map tn:=by
  have h5:(ls'.map tq).Perm (pr T):=by
   rw[lW];have:=hp.map tq;rw[bE] at this;exact this
  have h6:(ls'.map tq).Pairwise (fun a b=>ig b.1 a.1=false):=by
   rw[List.pairwise_map];refine hso.imp ?_;intro a b vL;have: ¬ig b.1 a.1=true:=vL;exact Bool.eq_false_iff.2 this
  rw[<-LL WW h5 h6,List.map_map]
  conv=>lhs;rw[<-List.map_id ls']
  refine List.map_congr_left (fun t ht=>?_);obtain⟨w,_,rfl⟩:=mem_map.1 (hp.mem_iff.1 ht);show tn w=tn (tq (tn w));rw[Rb]
 rw[au] at KJ
 have nt:((nf T).map tn).length=O:=by rw[length_map,<-KI]
 have tkf:=bB (ts:=(nf T).map tn) (n:=O) (by omega)
 have rf:=aw ((nf T).map tn)
 rw[nt] at rf
 rw[length_map,WY] at KJ
 have hfa: ∀ cs l (H:List Ob),s4 H (.agg cs::l)=none:=fun cs l H=>by simp[s4,eo,dZ]
 refine ae (aB h4 hfa) ?_
 refine eG 2 KJ trivial ?_
 refine ae (aB @Rc @append_nil.{0}) ?_
 refine a_ ?_
 exact kT (aB tkf rf)
theorem TsOk.l8 {k:Nat} {ts:List RT} (h:TsOk k ts): ∀ t∈ts,t.1.length=8:=fun t ht=>(h t ht).len
theorem UZ (ts:List RT) (h8:TsOk 1000000000 ts) (hb:PB 1000000000 (ts.map tq)) (hn:ts.length<=10000000000) (hs:(nf (ts.map tq)).length<=bk) (hv:validB ts=true):
 Den Tryz.prog 61 [] [PL ts] [] (.tup [PL ((nf (ts.map tq)).map tn),.int .i64 0]):=by
 have h1:=LZ ts h8.l8 (by omega)
 rw[hv] at h1
 refine dq Tryz.func61 8 0 ?_
 refine aW ?_
 refine aM h1 ?_
 refine ae @Bool.not_true ?_
 refine gp (Rd ts h8 hb hn hs) rfl ?_
 refine aN ?_
 refine a_ rfl
theorem Yy (ts:List RT) (h8:TsOk 1000000000 ts) (hn:ts.length<=10000000000) (hv:validB ts=false):
 Den Tryz.prog 61 [] [PL ts] [] (.tup [.fv (.sl []),.int .i64 2]):=by
 have h1:=LZ ts h8.l8 (by omega)
 rw[hv] at h1
 refine dq Tryz.func61 8 0 ?_
 refine aW ?_
 refine aM h1 ?_
 refine ae @Bool.not_false ?_
 refine a_ rfl
def z8:List Int:=replicate 8 0
theorem bX:z8.length=8:=rfl
theorem NR (r:Raw):PV.int .i64 0::PV.int .i64 0::PV.int .i64 0::PV.int .i64 0::PV.int .i64 0::PV.int .i64 0::PV.int .i64 0::PV.int .i64 0::r.c=fC (z8,r):=rfl
def gV (rs:List Raw) (i:Nat):List RT:=(List.range i).map (fun j=>(z8.set j 1,rs.getD j rz))
def gI (rs:List Raw):List RT:=gV rs 8++[(z8,rs.getD 8 rz)]
theorem zK (rs:List Raw) (i:Nat):gV rs (i+1)=gV rs i++[(z8.set i 1,rs.getD i rz)]:=by
 unfold gV;rw[List.range_succ,tY];rfl
theorem i5 (rs:List Raw) (i:Nat):(gV rs i).length=i:=by simp[gV]
theorem U0 {m:List Int} {i:Nat} {x:Int} (h: ∀ y∈m,-1000000000000<=y/\y<=1000000000000) (hx: -1000000000000<=x/\x<=1000000000000): ∀ y∈m.set i x,-1000000000000<=y/\y<=1000000000000:=fun y hy=>by
 rcases mem_or_eq_of_mem_set hy with h1 | h1
 .exact h y h1
 rw[h1];exact hx
theorem Jx: ∀ y∈z8,-1000000000000<=y/\y<=(1000000000000:Int):=fun y hy=>by
 rw[eq_of_mem_replicate hy];omega
theorem uL {k:Nat} {rs:List Raw} (h:LOk k rs):TsOk k (gI rs):=by
 intro t ht;unfold gI at ht;rcases List.mem_append.1 ht with ht | ht
 .obtain⟨j,_,rfl⟩:=mem_map.1 ht;exact⟨by simp[z8],U0 Jx (by omega),h.at j⟩
 rw[qz] at ht;subst ht;exact⟨rfl,Jx,h.at 8⟩
theorem xn (rs:List Raw):validB (gI rs)=true:=by
 unfold validB;rw[vP];intro t ht;have hz: ∀ y∈t.1,y=0\/y=1:=by
  unfold gI at ht;rcases List.mem_append.1 ht with ht | ht
  .obtain⟨j,_,rfl⟩:=mem_map.1 ht;intro y hy;rcases mem_or_eq_of_mem_set hy with h1 | h1
   .exact .inl (eq_of_mem_replicate h1)
   exact .inr h1
  rw[qz] at ht;subst ht;intro y hy;exact .inl (eq_of_mem_replicate hy)
 unfold gG;rw[vP];intro y hy;rcases hz y hy with h | h<;>rw[h]<;>rfl
theorem fY (rs:List Raw):(gI rs).length=9:=by simp[gI,i5]
theorem Jy {rs:List Raw} {i:Nat} (h:i<8) (hl:rs.length=9):List.take 3 (List.drop (i*3) (List.take 24 (flat rs)))=(rs.getD i rz).c:=by
 have h1:=b_ (rs:=rs) (i:=i) (by omega);rw[List.drop_take,List.take_take,Nat.min_eq_left (by omega)];exact h1
theorem C4 {rs:List Raw} (hl:rs.length=9):List.take 3 (List.drop 24 (flat rs))=(rs.getD 8 rz).c:=by
 have h1:=b_ (rs:=rs) (i:=8) (by omega);exact h1
theorem Yz (ids:List Nat): ∀ (n:Nat) (a:List PV),dL ids a a->dL ids (a.take n) (a.take n)
 | 0,a,_=>by simp[dL]
 | n+1,[],_=>by simp[dL]
 | n+1,x::a,h=>⟨h.1,Yz ids n a h.2⟩
theorem C5 (ids:List Nat) (n:Nat) (rs:List Raw):dL ids ((flat rs).take n) ((flat rs).take n):=Yz ids n _ (ec ids rs)
def cg (rs:List Raw):List Tm:=nf ((gI rs).map tq)
theorem aeH (rs:List Raw) (h:LOk 10000000 rs):Den Tryz.prog 18 [] [RL rs] [] (PL ((cg rs).map tn)):=by
 have hl:=h.len;have bF:TsOk 1000000000 (gI rs):=fun t ht=>(uL h t ht).mono (by decide)
 have hb:PB 1000000000 ((gI rs).map tq):=by
  refine(PB.list (k:=10000000) (by decide) (fun t ht=>?_)).mono ?_
  .obtain⟨u,hu,rfl⟩:=mem_map.1 ht;exact(uL h u hu).raw.bd (by decide)
  rw[length_map,fY];decide
 have DV:=UZ (gI rs) bF hb (by rw[fY];decide) (gD (wb _) (by rw[length_map,fY];decide)) (xn rs);unfold RL;have fl:=ah rs;rw[hl] at fl;have pl9:=aw (gI rs);rw[fY] at pl9;have tk9:=bB (ts:=gI rs) (n:=9) (by rw[fY];omega);change Den Tryz.prog 61 [] [PL (gI rs)] [] (.tup [PL ((cg rs).map tn),.int .i64 0]) at DV;obtain⟨Q,hQ⟩:=ax ((cg rs).map tn);rw[hQ] at DV ⊢;refine dq Tryz.func18 35 0 ?_;refine bw fl ?_
 repeat refine ag ?_
 refine wl (α:=Nat) (fun i=>⟨[.any,.ptr 0 0 0,.any,.lsl 1 0 i 11,.any,.any,.any,.any,.any,.any,.agg (List.take 24 (flat rs)),.int .i64 i]++replicate 24 .any,[.box true (flat rs),.row true (av (gV rs i))]⟩) (fun i=>8 - i) (fun i=>i<=8) 0 ?_ (dk _) ?_
 .refine Weak.nil 3 11 (by decide) rfl ?_;refine eH [0,1] ?_ ?_
  .simp[bh,dF,cw,C5]
  simp[d_,fD,ec,gV,av]
 intro i hi;have tki:=bB (ts:=gV rs i) (n:=i) (by rw[i5];omega);have rli:=aw (gV rs i);rw[i5] at rli;refine aW ?_;refine bM ?_ ?_
 .intro h1 h2;have fc:=Jy (rs:=rs) (i:=i) (by omega) hl;have ak6:(List.take 24 (flat rs)).length=24:=by rw[length_take,fl];rfl
  have cL:=zK rs i;obtain⟨r,hr⟩:=ax (rs.getD i rz);rw[hr] at fc cL;have bO:=dT (gV rs i) (z8.set i 1,r);rw[<-cL] at bO;have bS:=me (t:=(z8,r)) (i:=i) (x:=1) (by omega) bX;have t1:((z8.set i 1,r):RT).1.length=8:=by simp[z8]
  have t0:((z8,r):RT).1.length=8:=bX;have Tl:=cW t1;have q4:=aU t1;have cl:=aH t1;have Um:=aH t0;have fl1:=aJ t1;refine ae (bu h2 fc ak6 @cz @tu @NR Um (bu cl bS Tl q4 @cT @c_ tki (fO rli bO @Nat.mul_one @Nat.zero_add @append_nil.{0}))) ?_
  repeat refine ag ?_
  refine aA (i+1) ?_ (by omega);refine eH [0,5] ?_ ?_
  .simp[bh,dF,cw,C5]
  simp[d_,fD,ec]
 intro h1 h2;have pC:i=8:=by omega
 subst pC;have bO:=dT (gV rs 8) (z8,rs.getD 8 rz);change av (gV rs 8)++[gC (z8,rs.getD 8 rz)]=av (gI rs) at bO;have fc:=C4 hl;obtain⟨r,hr⟩:=ax (rs.getD 8 rz);rw[hr] at fc bO;have t0:((z8,r):RT).1.length=8:=bX;have q4:=aU t0;have fl1:=aJ t0;have Um:=aH t0;refine ae (bu h2 fl fc Um @cz @NR q4 (dN @cT @c_ tki rli bO @append_nil.{0})) ?_
 repeat refine ag ?_
 refine gp DV (by simp[bJ,eT,eo,dZ,tk9,pl9]) ?_;refine aN ?_;refine a_ rfl
theorem Re {a b:List Int} {i:Nat} (ha:i<a.length) (hb:i<b.length):ig (a.drop i) (b.drop i)=if a.getD i 0=b.getD i 0 then ig (a.drop (i+1)) (b.drop (i+1)) else decide (a.getD i 0>b.getD i 0):=by
 rw[drop_eq_getElem_cons ha,drop_eq_getElem_cons hb,ig,qa,qa,qb ha,qb hb];rfl
theorem aeI (a b:List Int) (ha:a.length=8) (hb:b.length=8):Den Tryz.prog 153 [] [.agg (mC a),.agg (mC b)] [] (.bool (ig a b)):=by
 have la:=bW a;have lb:=bW b;rw[ha] at la;rw[hb] at lb;obtain⟨R,hR⟩:=ax (ig a b);rw[hR];refine dq Tryz.func153 22 0 ?_;refine bw (aB la lb) ?_
 repeat refine ag ?_
 refine wl (α:=Nat) (fun i=>⟨[.any,.any,.ptr 0 0 0,.ptr 1 0 0,.any,.int .i64 i]++replicate 18 .any,[.box true (mC a),.box true (mC b)]⟩) (fun i=>8 - i) (fun i=>i<=8/\ig (a.drop i) (b.drop i)=R) 0 ?_ ?_ ?_
 .refine eH [0,1] ?_ ?_
  .simp[bh,dF,cw]
  simp[d_,fD,uD]
 .exact⟨dk _,hR⟩
 rintro i ⟨hi,hv⟩;refine aW ?_;refine bM ?_ ?_
 .intro h1 h2;have aa:=CU (m:=a) (i:=i) (by omega);have ab:=CU (m:=b) (i:=i) (by omega);have hd:=Re (a:=a) (b:=b) (i:=i) (by omega) (by omega);obtain⟨x,hx⟩:=ax (a.getD i 0);obtain⟨y,hy⟩:=ax (b.getD i 0);rw[hx] at aa hd;rw[hy] at ab hd;rw[hv] at hd;refine ae h2 ?_;refine dw (by kernel_rfl) ?_;refine ae (dN aa ab la lb @Nat.mul_one @Nat.zero_add) ?_
  repeat refine ag ?_
  refine Br.bneInt ?_ ?_
  .intro h3 h4;rw[if_neg h3] at hd;rw[hd];refine ae h4 ?_;refine dw (by kernel_rfl) ?_;refine ae (dN aa ab la lb @Nat.mul_one @Nat.zero_add) ?_
   repeat refine ag ?_
   refine a_ rfl
  intro h3 h4;rw[if_pos h3] at hd;refine ae h4 ?_;refine aA (i+1) ?_ ⟨by omega,hd.symm⟩;refine eH [0,1] ?_ ?_
  .simp[bh,dF,cw]
  simp[d_,fD,uD]
 intro h1 h2;have WV:R=false:=by
  rw[<-hv,List.drop_of_length_le (by omega),List.drop_of_length_le (by omega)];rfl
 rw[WV];refine ae h2 ?_;refine a_ rfl
theorem U2 {p:List Tm} {m:Mn} {q:Rat} {k:Nat} (qX: ∀ i (h:i<p.length),i<k->ig (p[i]'h).1 m=true) (mN: ∀ i (h:i<p.length),k<=i->ig (p[i]'h).1 m=false) (hk:k<=p.length):
 insT p (m,q)=if _h:k<p.length/\(p.getD k ([],0)).1=m then
  (if q+(p.getD k ([],0)).2=0 then p.take k++p.drop (k+1) else p.take k++[(m,q+(p.getD k ([],0)).2)]++p.drop (k+1)) else
  (if q=0 then p.take k++p.drop k else p.take k++[(m,q)]++p.drop k):=by
 rw[LK (p:=p) (t:=(m,q)) (k:=k) (fun i h hik=>qX i h hik) hk]
 by_cases pL:k<p.length
 .have hx:=mN k pL (qp _)
  have yR:p.getD k ([],0)=p[k]:=by rw[qa,qb pL];rfl
  rw[yR]
  rw[drop_eq_getElem_cons pL]
  unfold insT
  rw[hx]
  by_cases he:p[k].1=m
  .rw[dif_pos ⟨pL,he⟩]
   simp only[he]
   by_cases hz:q+p[k].2=0
   .simp[hz]
   simp[hz]
  rw[dif_neg (fun h=>he h.2)]
  simp only[he]
  by_cases hz:q=0
  .simp[hz]
  simp[hz]
 rw[dif_neg (fun h=>pL h.1),List.drop_of_length_le (by omega)]
 unfold insT
 by_cases hz:q=0
 .simp[hz]
 simp[hz]
theorem Gy {p:List Tm} (h:Canon p) {i j:Nat} (hj:j<p.length) (sE:i<j):ig (p[i]'(by omega)).1 p[j].1=true:=List.pairwise_iff_getElem.1 h.sorted i j (by omega) hj sE
theorem aeJ (p:List Tm) (t:RT) (hp:Canon p) (hb: ∀ u∈p,Bd 1000000000 u.2) (bF:TOk 1000000000 t) (hn:p.length<=10000000000)
 (hs: ∀ u∈p,u.1=t.1->Bd 1000000000 (t.2.q+u.2)):
 Den Tryz.prog 98 [] [PL (p.map tn),.agg (fC t)] [] (PL ((insT p (tq t)).map tn)):=by
 have hm:=bF.len
 have cl:=aH hm
 have rl:=aw (p.map tn)
 have p8: ∀ u∈p.map tn,u.1.length=8:=fun u hu=>by
  obtain⟨w,hw,rfl⟩:=mem_map.1 hu;exact hp.len w hw
 have P5: ∀ y∈av (p.map tn),y.length=11:=fun y hy=>by
  obtain⟨u,hu,rfl⟩:=mem_map.1 hy;exact aJ (p8 u hu)
 obtain⟨n,b8⟩:=ax p.length
 rw[length_map,b8] at rl
 rw[b8] at hn
 have c8:=ed hm
 refine dq Tryz.func98 73 0 ?_
 refine bw (aB cl rl) ?_
 repeat refine ag ?_
 refine wl (α:=Nat×Nat) (fun⟨lo,hi⟩=>⟨[PL (p.map tn),.any,.any,.ptr 0 0 0,.any,.int .i64 lo,.int .i64 hi]++replicate 68 .any,[.box true (fC t)]⟩) (fun⟨lo,hi⟩=>hi - lo)
  (fun⟨lo,hi⟩=>lo<=hi/\hi<=n/\(∀ i (h:i<p.length),i<lo->ig (p[i]'h).1 t.1=true)/\(∀ i (h:i<p.length),hi<=i->ig (p[i]'h).1 t.1=false)) (0,n) ?_ ?_ ?_
 .refine eH [0] ?_ ?_
  .simp[bh,dF,cw]
  simp[d_,fD,ij]
 .exact⟨dk _,qp _,fun i _ h=>by omega,fun i h h2=>by omega⟩
 rintro⟨lo,hi⟩ ⟨h1,h2,ej,eC⟩
 refine aW ?_
 refine bM ?_ ?_
 .intro h3 h4
  obtain⟨mid,apB⟩: ∃ m:Nat,(lo+hi) / 2=m:=⟨_,rfl⟩
  have e1:((lo:Int)+(hi:Int)) / 2=(mid:Int):=by omega
  have jM:mid<p.length:=by omega
  have r1:=cE (ts:=p.map tn) (i:=mid) (by rw[length_map];omega)
  have KC:=p8 _ (fH (ts:=p.map tn) (i:=mid) (by rw[length_map];omega))
  have hgx:((p.map tn).getD mid mf).1=p[mid].1:=by
   rw[qa,List.getElem?_map,qb jM];rfl
  obtain⟨x,hx⟩:=ax ((p.map tn).getD mid mf)
  rw[hx] at r1 KC hgx
  have P4:=nL KC
  have xl:=aJ KC
  have hg:=aeI x.1 t.1 KC hm
  have Cm:ig x.1 t.1=ig p[mid].1 t.1:=by rw[hgx]
  refine ae (aB h4 e1) ?_
  refine⟨by decide,?_⟩
  refine dw (by kernel_rfl) ?_
  refine ae (eU r1 P4 xl @jV rl c8 cl) ?_
  repeat refine ag ?_
  refine gp hg (by simp[bJ,eT,oJ,jV]) ?_
  refine ae @p5 ?_
  cases hgv:ig x.1 t.1 with
  | true=>
   rw[hgv] at Cm;refine aN ?_;refine aA (mid+1,hi) ?_ ⟨by omega,h2,fun i h iR=>?_,eC⟩
   .refine eH [0] ?_ ?_
    .simp[bh,dF,cw]
    simp[d_,fD,ij]
   .by_cases mO:i=mid
    .subst mO;exact Cm.symm
    .exact jt (Gy hp jM (by omega)) Cm.symm
  | false=>
   rw[hgv] at Cm;refine aN ?_;refine aA (lo,mid) ?_ ⟨by omega,by omega,ej,fun i h iR=>?_⟩
   .refine eH [0] ?_ ?_
    .simp[bh,dF,cw]
    simp[d_,fD,ij]
   by_cases mO:i=mid
   .subst mO;exact Cm.symm
   cases Ws:ig p[i].1 t.1 with
   | false=>rfl
   | true=>
    have:=jt (Gy hp h (show mid<i by omega)) Ws;rw[<-Cm] at this;cases this
 intro h3 h4
 have dP:lo=hi:=by omega
 subst dP
 have heq:=U2 (q:=t.2.q) ej eC (by omega)
 have xR:List.take lo (av (p.map tn))=av ((p.take lo).map tn):=by simp[av,List.map_take]
 have Un:List.drop lo (av (p.map tn))=av ((p.drop lo).map tn):=by simp[av,List.map_drop]
 have dl1:List.drop (lo+1) (av (p.map tn))=av ((p.drop (lo+1)).map tn):=by simp[av,List.map_drop]
 have lt_:(av ((p.take lo).map tn)).length=lo:=by rw[aw,length_map,length_take];omega
 have I7:(av ((p.drop lo).map tn)).length=n - lo:=by rw[aw,length_map,length_drop,b8]
 have dn1:(av ((p.drop (lo+1)).map tn)).length=n - (lo+1):=by rw[aw,length_map,length_drop,b8]
 have tk_:List.take lo (av ((p.take lo).map tn))=av ((p.take lo).map tn):=dm (by omega)
 have Ff:List.take (n - lo) (av ((p.drop lo).map tn))=av ((p.drop lo).map tn):=dm (by omega)
 have Tn:List.take (n - (lo+1)) (av ((p.drop (lo+1)).map tn))=av ((p.drop (lo+1)).map tn):=dm (by omega)
 have tn1:((lo:Int)+1).toNat=lo+1:=by omega
 have abh: ∀ y∈av ((p.take lo).map tn),y.length=11:=fun y hy=>P5 y (by rw[<-xR] at hy;exact xW hy)
 have WZ: ∀ y∈av ((p.drop lo).map tn),y.length=11:=fun y hy=>P5 y (by rw[<-Un] at hy;exact qgb hy)
 have agG: ∀ y∈av ((p.drop (lo+1)).map tn),y.length=11:=fun y hy=>P5 y (by rw[<-dl1] at hy;exact qgb hy)
 by_cases kf:lo<n
 .have Wj:lo<p.length:=by omega
  have r1:=cE (ts:=p.map tn) (i:=lo) (by rw[length_map];omega)
  have KC:=p8 _ (fH (ts:=p.map tn) (i:=lo) (by rw[length_map];omega))
  have Pd:(p.map tn).getD lo mf=tn p[lo]:=by
   rw[qa,List.getElem?_map,qb Wj];rfl
  have yR:p.getD lo ([],0)=p[lo]:=by rw[qa,qb Wj];rfl
  rw[Pd] at r1 KC
  rw[yR] at heq
  have hsu:=hs p[lo] (lY Wj)
  have Tp:=hb p[lo] (lY Wj)
  obtain⟨u,hu⟩:=ax (p[lo])
  rw[hu] at r1 KC heq hsu Tp
  have P4:=nL KC
  have xl:=aJ KC
  have vJ:(tn u).1=u.1:=rfl
  rw[vJ] at P4 KC
  have Uf:decide ((lo:Int)<(n:Int))=true:=yP
  have xc:=wh (t:=tn u) KC
  by_cases P6:u.1=t.1
  .have dX:(u.1==t.1)=true:=by rw[P6];exact beq_self_eq_true _
   refine ae (dR h4 xR lt_ @Nat.sub_zero) ?_
   refine⟨⟨by omega,by omega,by omega,P5⟩,⟨abh,by omega,by omega⟩,?_⟩
   refine dw (by kernel_rfl) ?_
   simp -dsimp(disch:=omega) only[rl,Uf,r1,P4,xl,jV,c8,cl,KC,hm,dX,Bool.and_self,↓reduceIte,Nat.reduceBEq,reduceLT,reduceLeDiff,ru]
   repeat refine ag ?_
   have yr:=hsu P6
   have Te:=QD t.2 (cn u.2) bF.raw (bj Tp)
   rw[cu] at Te
   change Den Tryz.prog 67 [] [.agg t.2.c,.agg (cn u.2).c] [] (.agg (cn (t.2.q+u.2)).c) at Te
   have Tq:=lA (t:=t) (r:=cn (t.2.q+u.2)) hm
   have tcc:=d6 hm
   have xcc:(tn u).2.f.map .fv=(cn u.2).c:=rfl
   rw[dif_pos ⟨by omega,P6⟩] at heq
   obtain⟨c,hc⟩:=ax (t.2.q+u.2)
   rw[hc] at heq Te Tq yr
   obtain⟨r,hr⟩:=ax (cn c)
   have hrq:r.q=c:=by rw[<-hr,cu]
   have Ck:r.Ok 1000000000:=by rw[<-hr];exact bj yr
   rw[hr] at Te Tq
   refine dw (by kernel_rfl) ?_
   refine ae (bu tcc cl r1 rl xc xcc xl (aB @Gj @QU)) ?_
   repeat refine ag ?_
   refine xL Te ?_
   refine ae (dN @fG @da cl @cz Tq @append_nil.{0}) ?_
   repeat refine ag ?_
   have mJ:=mb r (Ck.mono (by decide))
   change Den Tryz.prog 121 [] [.agg r.c] [] (.agg (cn r.q).c) at mJ
   rw[hrq] at mJ
   have W0:Bd 1000000000 c:=yr
   have jh:=mc (cn c) ((bj W0).mono (by decide))
   rw[cu] at jh
   change Den Tryz.prog 63 [] [.agg (cn c).c] [] (.int .i64 (fQ c)) at jh
   have Bp:((t.1,cn c):RT).1.length=8:=hm
   have kk1:=cW Bp
   have kk2:=aU Bp
   have Zc:=aH Bp
   have kk4:=aJ Bp
   have kk5:=d6 Bp
   have lX:=lA (t:=(t.1,r)) (r:=cn c) hm
   have c8r:List.take 3 (List.drop 8 (fC (t.1,r)))=r.c:=d6 (t:=(t.1,r)) hm
   have clr:(fC (t.1,r)).length=11:=aH (t:=(t.1,r)) hm
   refine ae (aB c8r clr) ?_
   repeat refine ag ?_
   refine xL mJ ?_
   refine ae (eU @fG @da clr @cz lX Zc kk5) ?_
   repeat refine ag ?_
   refine xL jh ?_
   refine ae @fG ?_
   refine Br.bneInt ?_ ?_
   .intro h5 h6
    have Ix:c≠0:=fun h=>h5 (a9.2 h)
    have bO:av ((p.take lo).map tn)++[gC (t.1,cn c)]++av ((p.drop (lo+1)).map tn)=av ((insT p (tq t)).map tn):=by
     have:insT p (tq t)=p.take lo++[(t.1,c)]++p.drop (lo+1):=by show insT p (t.1,t.2.q)=_;rw[heq,if_neg Ix]
     rw[this];simp[av,tn]
    have jg:=aw ((insT p (tq t)).map tn)
    have kf:(av ((p.take lo).map tn)).length+1+(n - (lo+1))=(av ((insT p (tq t)).map tn)).length:=by
     rw[<-bO];simp only[qe,length_cons,length_nil,aw,length_map,length_drop,b8]
    rw[lt_] at kf
    obtain⟨FN,vx⟩:=ax (av ((insT p (tq t)).map tn))
    rw[vx] at bO kf
    have Tr:(av ((p.take lo).map tn)++[gC (t.1,cn c)]).length=lo+1:=by rw[qe,lt_];rfl
    have tkap:List.take (lo+1) (av ((p.take lo).map tn)++[gC (t.1,cn c)])=av ((p.take lo).map tn)++[gC (t.1,cn c)]:=dm (by omega)
    have tkF:List.take (lo+1+(n - (lo+1))) FN=FN:=dm (by omega)
    refine ae (bu h6 kk1 kk2 Zc @cT @c_ rl (bu lt_ tk_ dl1 dn1 Tn Tr tkap (bA tn1 bO @append_nil.{0}))) ?_
    repeat refine qy (by repeat' (first | omega | exact P5 | exact agG | apply qy)) ?_
    refine a_ ?_
    refine vq kf ?_
    rw[<-vx]
   intro h5 h6
   have hz:c=0:=a9.1 h5
   have bO:av ((p.take lo).map tn)++av ((p.drop (lo+1)).map tn)=av ((insT p (tq t)).map tn):=by
    have:insT p (tq t)=p.take lo++p.drop (lo+1):=by show insT p (t.1,t.2.q)=_;rw[heq,if_pos hz]
    rw[this];simp[av]
   have kf:(av ((p.take lo).map tn)).length+(n - (lo+1))=(av ((insT p (tq t)).map tn)).length:=by
    rw[<-bO];simp only[qe,aw,length_map,length_drop,b8]
   rw[lt_] at kf
   obtain⟨FN,vx⟩:=ax (av ((insT p (tq t)).map tn))
   rw[vx] at bO kf
   have tkF:List.take (lo+(n - (lo+1))) FN=FN:=dm (by omega)
   refine ae (bu h6 rl lt_ tk_ dl1 dn1 Tn (aB tn1 bO)) ?_
   repeat refine qy (by repeat' (first | omega | exact P5 | exact agG | apply qy)) ?_
   refine a_ ?_
   refine vq kf ?_
   rw[<-vx]
  have dX:(u.1==t.1)=false:=by rw[qx];exact P6
  refine ae (dR h4 xR lt_ @Nat.sub_zero) ?_
  refine⟨⟨by omega,by omega,by omega,P5⟩,⟨abh,by omega,by omega⟩,?_⟩
  refine dw (by kernel_rfl) ?_
  simp -dsimp(disch:=omega) only[rl,Uf,r1,P4,xl,jV,c8,cl,KC,hm,dX,Bool.and_self,↓reduceIte,reduceAdd,Nat.reduceBEq,reduceLT,reduceLeDiff,ru]
  repeat refine ag ?_
  rw[dif_neg (fun h=>P6 h.2)] at heq
  obtain⟨r,hr⟩:=ax t.2
  have hrq:r.q=t.2.q:=by rw[<-hr]
  have Ck:r.Ok 1000000000:=by rw[<-hr];exact bF.raw
  have htr:fC t=fC (t.1,r):=by rw[<-hr]
  have yr:Bd 1000000000 t.2.q:=bF.raw.bd (by decide)
  obtain⟨c,hc⟩:=ax t.2.q
  rw[hc] at heq hrq yr
  rw[htr]
  have mJ:=mb r (Ck.mono (by decide))
  change Den Tryz.prog 121 [] [.agg r.c] [] (.agg (cn r.q).c) at mJ
  rw[hrq] at mJ
  have W0:Bd 1000000000 c:=yr
  have jh:=mc (cn c) ((bj W0).mono (by decide))
  rw[cu] at jh
  change Den Tryz.prog 63 [] [.agg (cn c).c] [] (.int .i64 (fQ c)) at jh
  have Bp:((t.1,cn c):RT).1.length=8:=hm
  have kk1:=cW Bp
  have kk2:=aU Bp
  have Zc:=aH Bp
  have kk4:=aJ Bp
  have kk5:=d6 Bp
  have lX:=lA (t:=(t.1,r)) (r:=cn c) hm
  have c8r:List.take 3 (List.drop 8 (fC (t.1,r)))=r.c:=d6 (t:=(t.1,r)) hm
  have clr:(fC (t.1,r)).length=11:=aH (t:=(t.1,r)) hm
  refine ae c8r ?_
  repeat refine ag ?_
  refine xL mJ ?_
  refine ae (eU @fG @da clr @cz lX Zc kk5) ?_
  repeat refine ag ?_
  refine xL jh ?_
  refine ae @fG ?_
  refine Br.bneInt ?_ ?_
  .intro h5 h6
   have Ix:c≠0:=fun h=>h5 (a9.2 h)
   have bO:av ((p.take lo).map tn)++[gC (t.1,cn c)]++av ((p.drop lo).map tn)=av ((insT p (tq t)).map tn):=by
    have:insT p (tq t)=p.take lo++[(t.1,c)]++p.drop lo:=by show insT p (t.1,t.2.q)=_;rw[show t.2.q=c from hc,heq,if_neg Ix]
    rw[this];simp[av,tn]
   have jg:=aw ((insT p (tq t)).map tn)
   have kf:(av ((p.take lo).map tn)).length+1+(n - lo)=(av ((insT p (tq t)).map tn)).length:=by
    rw[<-bO];simp only[qe,length_cons,length_nil,aw,length_map,length_drop,b8]
   rw[lt_] at kf
   obtain⟨FN,vx⟩:=ax (av ((insT p (tq t)).map tn))
   rw[vx] at bO kf
   have Tr:(av ((p.take lo).map tn)++[gC (t.1,cn c)]).length=lo+1:=by rw[qe,lt_];rfl
   have tkap:List.take (lo+1) (av ((p.take lo).map tn)++[gC (t.1,cn c)])=av ((p.take lo).map tn)++[gC (t.1,cn c)]:=dm (by omega)
   have tkF:List.take (lo+1+(n - lo)) FN=FN:=dm (by omega)
   refine ae (bu h6 kk1 kk2 Zc @cT @c_ rl (bu lt_ tk_ Un I7 Ff Tr tkap (aB bO @append_nil.{0}))) ?_
   repeat refine qy (by repeat' (first | omega | exact P5 | exact WZ | apply qy)) ?_
   refine a_ ?_
   refine vq kf ?_
   rw[<-vx]
  intro h5 h6
  have hz:c=0:=a9.1 h5
  have bO:av ((p.take lo).map tn)++av ((p.drop lo).map tn)=av ((insT p (tq t)).map tn):=by
   have:insT p (tq t)=p.take lo++p.drop lo:=by show insT p (t.1,t.2.q)=_;rw[show t.2.q=c from hc,heq,if_pos hz]
   rw[this];simp[av]
  have kf:(av ((p.take lo).map tn)).length+(n - lo)=(av ((insT p (tq t)).map tn)).length:=by
   rw[<-bO];simp only[qe,aw,length_map,length_drop,b8]
  rw[lt_] at kf
  obtain⟨FN,vx⟩:=ax (av ((insT p (tq t)).map tn))
  rw[vx] at bO kf
  have tkF:List.take (lo+(n - lo)) FN=FN:=dm (by omega)
  refine ae (bu h6 rl lt_ tk_ Un I7 Ff bO) ?_
  repeat refine qy (by repeat' (first | omega | exact P5 | exact WZ | apply qy)) ?_
  refine a_ ?_
  refine vq kf ?_
  rw[<-vx]
 have Uf:decide ((lo:Int)<(n:Int))=false:=oc
 refine ae (dR h4 xR lt_ @Nat.sub_zero) ?_
 refine⟨⟨by omega,by omega,by omega,P5⟩,⟨abh,by omega,by omega⟩,?_⟩
 refine dw (by kernel_rfl) ?_
 refine ae (aB rl Uf) ?_
 rw[dif_neg (fun h=>kf (by omega))] at heq
 obtain⟨r,hr⟩:=ax t.2
 have hrq:r.q=t.2.q:=by rw[<-hr]
 have Ck:r.Ok 1000000000:=by rw[<-hr];exact bF.raw
 have htr:fC t=fC (t.1,r):=by rw[<-hr]
 have yr:Bd 1000000000 t.2.q:=bF.raw.bd (by decide)
 obtain⟨c,hc⟩:=ax t.2.q
 rw[hc] at heq hrq yr
 rw[htr]
 have mJ:=mb r (Ck.mono (by decide))
 change Den Tryz.prog 121 [] [.agg r.c] [] (.agg (cn r.q).c) at mJ
 rw[hrq] at mJ
 have W0:Bd 1000000000 c:=yr
 have jh:=mc (cn c) ((bj W0).mono (by decide))
 rw[cu] at jh
 change Den Tryz.prog 63 [] [.agg (cn c).c] [] (.int .i64 (fQ c)) at jh
 have Bp:((t.1,cn c):RT).1.length=8:=hm
 have kk1:=cW Bp
 have kk2:=aU Bp
 have Zc:=aH Bp
 have kk4:=aJ Bp
 have kk5:=d6 Bp
 have lX:=lA (t:=(t.1,r)) (r:=cn c) hm
 have c8r:List.take 3 (List.drop 8 (fC (t.1,r)))=r.c:=d6 (t:=(t.1,r)) hm
 have clr:(fC (t.1,r)).length=11:=aH (t:=(t.1,r)) hm
 refine ae (aB c8r clr) ?_
 repeat refine ag ?_
 refine xL mJ ?_
 refine ae (eU @fG @da clr @cz lX Zc kk5) ?_
 repeat refine ag ?_
 refine xL jh ?_
 refine ae @fG ?_
 refine Br.bneInt ?_ ?_
 .intro h5 h6
  have Ix:c≠0:=fun h=>h5 (a9.2 h)
  have bO:av ((p.take lo).map tn)++[gC (t.1,cn c)]++av ((p.drop lo).map tn)=av ((insT p (tq t)).map tn):=by
   have:insT p (tq t)=p.take lo++[(t.1,c)]++p.drop lo:=by show insT p (t.1,t.2.q)=_;rw[show t.2.q=c from hc,heq,if_neg Ix]
   rw[this];simp[av,tn]
  have jg:=aw ((insT p (tq t)).map tn)
  have kf:(av ((p.take lo).map tn)).length+1+(n - lo)=(av ((insT p (tq t)).map tn)).length:=by
   rw[<-bO];simp only[qe,length_cons,length_nil,aw,length_map,length_drop,b8]
  rw[lt_] at kf
  obtain⟨FN,vx⟩:=ax (av ((insT p (tq t)).map tn))
  rw[vx] at bO kf
  have Tr:(av ((p.take lo).map tn)++[gC (t.1,cn c)]).length=lo+1:=by rw[qe,lt_];rfl
  have tkap:List.take (lo+1) (av ((p.take lo).map tn)++[gC (t.1,cn c)])=av ((p.take lo).map tn)++[gC (t.1,cn c)]:=dm (by omega)
  have tkF:List.take (lo+1+(n - lo)) FN=FN:=dm (by omega)
  refine ae (bu h6 kk1 kk2 Zc @cT @c_ rl (bu lt_ tk_ Un I7 Ff Tr tkap (aB bO @append_nil.{0}))) ?_
  repeat refine qy (by repeat' (first | omega | exact P5 | exact WZ | apply qy)) ?_
  refine a_ ?_
  refine vq kf ?_
  rw[<-vx]
 intro h5 h6
 have hz:c=0:=a9.1 h5
 have bO:av ((p.take lo).map tn)++av ((p.drop lo).map tn)=av ((insT p (tq t)).map tn):=by
  have:insT p (tq t)=p.take lo++p.drop lo:=by show insT p (t.1,t.2.q)=_;rw[show t.2.q=c from hc,heq,if_pos hz]
  rw[this];simp[av]
 have kf:(av ((p.take lo).map tn)).length+(n - lo)=(av ((insT p (tq t)).map tn)).length:=by
  rw[<-bO];simp only[qe,aw,length_map,length_drop,b8]
 rw[lt_] at kf
 obtain⟨FN,vx⟩:=ax (av ((insT p (tq t)).map tn))
 rw[vx] at bO kf
 have tkF:List.take (lo+(n - lo)) FN=FN:=dm (by omega)
 refine ae (bu h6 rl lt_ tk_ Un I7 Ff bO) ?_
 repeat refine qy (by repeat' (first | omega | exact P5 | exact WZ | apply qy)) ?_
 refine a_ ?_
 refine vq kf ?_
 rw[<-vx]
theorem U3 (ts:List RT) (h8:TsOk 1000000000 ts) (hb:PB 1000000000 (ts.map tq)) (hn:ts.length<=10000000000):Den Tryz.prog 44 [] [PL ts] [] (PL ((nf (ts.map tq)).map tn)):=by
 have rl:=aw ts;obtain⟨n,b8⟩:=ax ts.length;rw[b8] at rl hn;obtain⟨T,hT⟩:=ax (ts.map tq);have hTl:T.length=n:=by rw[<-hT,length_map,b8]
 have WW:Len8 T:=fun t ht=>by
  rw[<-hT] at ht;obtain⟨u,hu,rfl⟩:=mem_map.1 ht;exact(h8 u hu).len
 rw[hT] at hb ⊢;refine dq Tryz.func44 17 0 ?_;refine aW ?_;refine wl (α:=Nat) (fun i=>⟨[PL ts,.any,.any,PL ((nf (T.take i)).map tn),.int .i64 i]++replicate 13 .any,[]⟩) (fun i=>n - i) (fun i=>i<=n) 0 ?_ (dk _) ?_
 .refine eH [] ?_ ?_
  .simp[bh,dF,cw];simp[nf];trivial
  simp[d_]
 intro i hi;refine bw rl ?_;refine bM ?_ ?_
 .intro h1 h2;have r1:=cE (ts:=ts) (i:=i) (by omega);have bF:=h8 _ (fH (ts:=ts) (i:=i) (by omega));have cL:T.take (i+1)=T.take i++[tq (ts.getD i mf)]:=by
   rw[List.take_add_one,<-hT,List.getElem?_map,qa,qb (by omega)];rfl
  obtain⟨t,ht⟩:=ax (ts.getD i mf);rw[ht] at r1 bF cL;have dX:=hb.take (i+1);rw[cL] at dX;have ak7:Len8 (T.take i):=fun u hu=>WW u (xW hu)
  have aF:(nf (T.take i)).length<=10000000000:=by
   have:=wb (T.take i);rw[length_take] at this;omega
  have h98:=aeJ (nf (T.take i)) t (dc ak7) ((hb.take i).nf.bd (by decide)) bF aF (fun u hu _=>dX.snoc_bd (by decide) u hu);have hni:insT (nf (T.take i)) (tq t)=nf (T.take (i+1)):=by
   rw[cL];unfold nf;rw[List.foldl_append];rfl
  rw[hni] at h98;have hm:=bF.len;have KG:=aU hm;have fl:=aJ hm;have cl:=aH hm;obtain⟨P,hP⟩:=ax ((nf (T.take i)).map tn);rw[hP] at h98 ⊢;refine ae (dN h2 r1 rl KG @dI fl) ?_
  repeat refine ag ?_
  refine gp h98 (by simp[bJ,eT,eo,dZ,cT,dI]) ?_;refine ae @c_ ?_;refine aA (i+1) ?_ (by omega);exact bx []
 intro h1 h2;have WC:T.take i=T:=dm (by omega);rw[WC];refine ae h2 ?_;refine a_ rfl
theorem ajF:[PV.int .i64 0,PV.int .i64 0,PV.int .i64 0,PV.int .i64 0,PV.int .i64 0,PV.int .i64 0,PV.int .i64 0,PV.int .i64 0]=mC z8:=rfl
theorem U4 (ts:List RT) (h8:TsOk 5000000000 ts) (hn:ts.length<=10000000000):Den Tryz.prog 19 [] [PL ts,PL ts] [] (.bool true):=by
 have rl:=aw ts;obtain⟨n,b8⟩:=ax ts.length;rw[b8] at rl hn;have e1:((n:Int) !=(n:Int))=false:=by simp
 refine dq Tryz.func19 40 0 ?_;refine bw (aB rl e1) ?_;refine wl (α:=Nat) (fun i=>⟨[PL ts,PL ts,.any,.any,.any,.int .i64 i]++replicate 36 .any,[]⟩) (fun i=>n - i) (fun i=>i<=n) 0 ?_ (dk _) ?_
 .exact bx []
 intro i hi;refine bw rl ?_;refine bM ?_ ?_
 .intro h1 h2;have r1:=cE (ts:=ts) (i:=i) (by omega);have bF:=h8 _ (fH (ts:=ts) (i:=i) (by omega));obtain⟨t,ht⟩:=ax (ts.getD i mf);rw[ht] at r1 bF;have hm:=bF.len;have f8:=nL hm;have fl:=aJ hm;have fd:=wh hm;have dX:(t.1==t.1)=true:=beq_self_eq_true _;have wU:=QF t.2 t.2 bF.raw bF.raw;rw[zB] at wU;change Den Tryz.prog 62 [] [.agg t.2.c,.agg t.2.c] [] _ at wU;refine ae h2 ?_;refine dw (by kernel_rfl) ?_;simp -dsimp(disch:=omega) only[r1,rl,f8,fl,fd,jV,hm,dX,Bool.and_self,Bool.not_true,QU,Gj,Gi,↓reduceIte,reduceAdd,Nat.reduceBEq,reduceLT,reduceLeDiff,ru]
  repeat refine ag ?_
  refine xL wU ?_;refine ae (bA @fG @Bool.not_true @append_nil.{0}) ?_
  repeat refine ag ?_
  refine aA (i+1) ?_ (by omega);exact bx []
 intro h1 h2;refine ae h2 ?_;refine a_ rfl
def nQ (rs:List Raw):List RT:=(z8,rs.getD 8 rz)::gV rs 8
theorem NS (rs:List Raw):nf ((nQ rs).map tq)=cg rs:=by
 unfold cg;have hp:(nQ rs).Perm (gI rs):=by
  unfold nQ gI;exact(List.perm_append_singleton _ _).symm
 refine uy ?_ ?_ (fun m=>CK (hp.map tq))
 .intro t ht;obtain⟨u,hu,rfl⟩:=mem_map.1 ht;rcases List.mem_cons.1 hu with rfl | hu
  .rfl
  obtain⟨j,_,rfl⟩:=mem_map.1 hu;simp[tq,z8]
 intro t ht;obtain⟨u,hu,rfl⟩:=mem_map.1 ht;have:=hp.mem_iff.2 hu;rcases List.mem_cons.1 this with rfl | hu
 .rfl
 obtain⟨j,_,rfl⟩:=mem_map.1 hu;simp[tq,z8]
theorem Gz {k:Nat} {rs:List Raw} (h:LOk k rs):TsOk k (nQ rs):=fun t ht=>uL h t (by
 unfold gI;rcases List.mem_cons.1 ht with h1 | h1
 .exact List.mem_append.2 (.inr (by rw[h1];simp))
 exact List.mem_append.2 (.inl h1))
theorem aeK (rs:List Raw) (h:LOk 10000000 rs):Den Tryz.prog 20 [] [RL rs] [] (PL ((cg rs).map tn)):=by
 have hl:=h.len;have bF:TsOk 1000000000 (nQ rs):=fun t ht=>(Gz h t ht).mono (by decide)
 have kf:(nQ rs).length=9:=by simp[nQ,i5]
 have hb:PB 1000000000 ((nQ rs).map tq):=by
  refine(PB.list (k:=10000000) (by decide) (fun t ht=>?_)).mono ?_
  .obtain⟨u,hu,rfl⟩:=mem_map.1 ht;exact(Gz h u hu).raw.bd (by decide)
  rw[length_map,kf];decide
 have pn:=U3 (nQ rs) bF hb (by rw[kf];decide);rw[NS] at pn;unfold RL;have fl:=ah rs;rw[hl] at fl;have pl9:=aw (nQ rs);rw[kf] at pl9;have tk9:=bB (ts:=nQ rs) (n:=9) (by rw[kf];omega);obtain⟨Q,hQ⟩:=ax ((cg rs).map tn);rw[hQ] at pn ⊢;have fc:=C4 hl;have t0:((z8,rs.getD 8 rz):RT).1.length=8:=bX;obtain⟨r8,hr8⟩:=ax (rs.getD 8 rz);rw[hr8] at fc t0;have q4:=aU t0;have fl1:=aJ t0;have Um:=aH t0;have dh:[gC (z8,r8)]=av ((z8,r8)::gV rs 0):=rfl;refine dq Tryz.func20 26 0 ?_;refine bw (bu fl fc @cz @NR q4 Um @cT (aB @c_ @append_nil.{0})) ?_
 repeat refine ag ?_
 refine wl (α:=Nat) (fun i=>⟨[.any,.ptr 0 0 0,.any,.lsl 1 0 (i+1) 11,.int .i64 i]++replicate 22 .any,[.box true (flat rs),.row true (av ((z8,r8)::gV rs i))]⟩) (fun i=>8 - i) (fun i=>i<=8) 0 ?_ (dk _) ?_
 .refine eH [0,1] ?_ ?_
  .simp[bh,dF,cw]
  simp[d_,fD,ec,dh]
 intro i hi;have hli:((z8,r8)::gV rs i).length=i+1:=by simp[i5]
 have tki:=bB (ts:=(z8,r8)::gV rs i) (n:=i+1) (by omega);have rli:=aw ((z8,r8)::gV rs i);rw[hli] at rli;refine aW ?_;refine bM ?_ ?_
 .intro h1 h2;have fci:=b_ (rs:=rs) (i:=i) (by omega);have cL:=zK rs i;obtain⟨r,hr⟩:=ax (rs.getD i rz);rw[hr] at fci cL;change List.take 3 (List.drop (i*3) (flat rs))=r.c at fci;have bO:=dT ((z8,r8)::gV rs i) (z8.set i 1,r);rw[List.cons_append,<-cL] at bO;have bS:=Jp (m:=z8) (i:=i) (x:=1) (by rw[bX];omega);have t1:((z8.set i 1,r):RT).1.length=8:=by simp[z8]
  have m1:(z8.set i 1).length=8:=t1;have ml:=bW (z8.set i 1);rw[m1] at ml;have ml0:=bW z8;rw[bX] at ml0;have m8:=jL m1;have Tl:=cW t1;have q4:=aU t1;have cl:=aH t1;have apD:=aJ t1;have b1:List.take 8 (mC (z8.set i 1)++[PV.bool false,.nilsl,.nilsl])=mC (z8.set i 1):=by rw[List.take_append_of_le_length (by omega),m8]
  have b2:List.drop 11 (mC (z8.set i 1)++[PV.bool false,.nilsl,.nilsl])=[]:=List.drop_of_length_le (by simp[ml]);have b3:mC (z8.set i 1)++r.c=fC (z8.set i 1,r):=rfl;have b7:(mC (z8.set i 1)++[PV.bool false,.nilsl,.nilsl]).length=11:=by simp[ml]
  refine ae (dN h2 @ajF ml0 bS @Nat.mul_one @Nat.zero_add) ?_
  repeat refine ag ?_
  refine dw (by kernel_rfl) ?_;refine ae (bu m8 ml fl fci @cz b1 b2 (bu b3 b7 cl q4 @cT @c_ tki (dR rli bO @Nat.zero_add @append_nil.{0}))) ?_
  repeat refine ag ?_
  refine aA (i+1) ?_ (by omega);exact ou [0,4]
 intro h1 h2;have pC:i=8:=by omega
 subst pC;change av ((z8,r8)::gV rs 8)=_ at tki;have hpS:(z8,r8)::gV rs 8=nQ rs:=by unfold nQ;rw[hr8]
 rw[hpS];refine ae h2 ?_;refine gp pn (by simp[bJ,eT,eo,dZ,tk9,pl9]) ?_;refine aN ?_;refine a_ rfl
theorem aeL (ts:List RT) (hl: ∀ t∈ts,t.1.length=8) (hn:ts.length<=1000000000000):Den Tryz.prog 75 [] [PL ts] [] (.bool (validB ts)):=by
 have rl:=aw ts;obtain⟨n,b8⟩:=ax ts.length;rw[b8] at rl hn;obtain⟨R,hR⟩:=ax (validB ts);rw[hR];refine dq Tryz.func75 32 0 ?_;refine aW ?_;refine wl (α:=Nat) (fun i=>⟨[PL ts,.any,.any,.int .i64 i]++replicate 29 .any,[]⟩) (fun i=>n - i) (fun i=>i<=n/\validB (ts.drop i)=R) 0 ?_ ?_ ?_
 .exact bx []
 .exact⟨dk _,hR⟩
 rintro i ⟨hi,hv⟩;refine bw rl ?_;refine bM ?_ ?_
 .intro h1 h2;have r1:=cE (ts:=ts) (i:=i) (by omega);have hm:=hl _ (fH (ts:=ts) (i:=i) (by omega));have hd:=xm (ts:=ts) (i:=i) (by omega);obtain⟨t,ht⟩:=ax (ts.getD i mf);rw[ht] at r1 hm hd;rw[hv] at hd;have fl:=aJ hm;have t8:=nL hm;have ml:=dY t.1;rw[hm] at ml;refine ae h2 ?_;refine wl (α:=Nat) (fun k=>⟨[PL ts,.any,.any,.int .i64 i,.int .i64 k]++replicate 28 .any,[]⟩) (fun k=>8 - k) (fun k=>k<=8/\gG (t.1.drop k)=gG t.1) 0 ?_ ?_ ?_
  .exact bx []
  .exact⟨dk _,rfl⟩
  rintro k ⟨hk,Ul⟩;refine aW ?_;refine bM ?_ ?_
  .intro h3 h4;have dS:=QW (t:=t) (i:=k) (by omega) hm;have tQ:=xk (m:=t.1) (i:=k) (by omega);obtain⟨x,hx⟩:=ax (t.1.getD k 0);rw[hx] at dS tQ;rw[Ul] at tQ;refine ae (eU h4 r1 rl fl dS @Nat.mul_one @length_drop.{0}) ?_
   repeat refine ag ?_
   by_cases KH:x<0
   .have e1:decide (x<0)=true:=f3 KH;have WV:R=false:=by rw[hd,tQ,jI (show¬0<=x by omega)];rfl
    rw[WV];refine ae e1 ?_
    repeat refine ag ?_
    refine a_ rfl
   have e1:decide (x<0)=false:=jI KH;by_cases vJ:1024<x
   .have e2:decide (x>1024)=true:=f3 vJ;have WV:R=false:=by rw[hd,tQ,jI (show¬x<=1024 by omega)];simp
    rw[WV];refine ae (bu e1 e2 r1 rl fl dS @Nat.mul_one @length_drop.{0}) ?_
    repeat refine ag ?_
    refine a_ rfl
   have e2:decide (x>1024)=false:=jI vJ;rw[f3 (show 0<=x by omega),f3 (show x<=1024 by omega)] at tQ;refine ae (bu e1 e2 r1 rl fl dS @Nat.mul_one @length_drop.{0}) ?_
   repeat refine ag ?_
   refine aA (k+1) ?_ ⟨by omega,by rw[tQ];rfl⟩;exact bx []
  intro h3 h4;have hvt:gG t.1=true:=by rw[<-Ul,List.drop_of_length_le (by omega)];rfl
  rw[hvt] at hd;refine ae h4 ?_;refine aA (i+1) ?_ ⟨by omega,by rw[hd];rfl⟩;exact bx []
 intro h1 h2;have hRt:R=true:=by rw[<-hv,List.drop_of_length_le (by omega)];rfl
 rw[hRt];refine ae h2 ?_;refine a_ rfl
theorem aeM (ts:List RT) (hl: ∀ t∈ts,t.1.length=8) (hn:ts.length<=1000000000000) (hv:validB ts=true):Den Tryz.prog 76 [] [PL ts] [] (.tup [PL ts,.int .i64 0]):=by
 have h1:=aeL ts hl hn;rw[hv] at h1;refine dq Tryz.func76 7 0 ?_;refine aW ?_;refine aM h1 ?_;refine ae @Bool.not_true ?_;refine a_ rfl
structure POk (k:Nat) (E:Int) (p:List Tm):Prop where
 canon:Canon p
 bd: ∀ t∈p,Bd k t.2
 exp: ∀ t∈p,∀ e∈t.1,0<=e/\e<=E
theorem POk.mono {j k:Nat} {E F:Int} {p:List Tm} (h:POk j E p) (hk:j<=k) (hE:E<=F):POk k F p:=
 ⟨h.canon,fun t ht=>(h.bd t ht).mono hk,fun t ht e he=>by have:=h.exp t ht e he;omega⟩
theorem jX {m:List Int} {E:Int} (hE:0<=E) (h: ∀ x∈m,0<=x/\x<=E) (i:Nat):0<=m.getD i 0/\m.getD i 0<=E:=by
 rw[qa];cases hi:m[i]? with
 | none=>simp[hE]
 | some x=>exact h x (List.mem_of_getElem? hi)
theorem POk.at {k:Nat} {E:Int} {p:List Tm} (h:POk k E p) (hE:0<=E) (v:Nat): ∀ t∈p,0<=t.1.getD v 0/\t.1.getD v 0<=E:=fun t ht=>jX hE (h.exp t ht) v
theorem POk.ts {k:Nat} {E:Int} {p:List Tm} (h:POk k E p) (hE:E<=1000000000000):TsOk k (p.map tn):=fun t ht=>by
 obtain⟨u,hu,rfl⟩:=mem_map.1 ht;exact⟨h.canon.len u hu,fun x hx=>by have:=h.exp u hu x hx;omega,bj (h.bd u hu)⟩
theorem POk.prim {k:Nat} {E:Int} {p:List Tm} (h:POk k E p) (hE:0<=E) (hE2:E<=1000000) {v:Nat} (hv:v<8):POk (k+1) (E+1) (bg v p):=by
 refine⟨oI hv h.canon (fun t ht=>(h.at hE v t ht).1),UN h.bd (fun t ht=>by have:=h.at hE v t ht;omega),fun t ht e he=>?_⟩;obtain⟨u,hu,rfl⟩:=mem_map.1 ht;have h1:=h.at hE v u hu;rcases mem_or_eq_of_mem_set he with h2 | h2
 .have:=h.exp u hu e h2;omega
 omega
theorem p9 {p:List Tm} {i:Nat} (h:i<p.length):(p.map tn).getD i mf=tn p[i]:=by
 rw[qa,List.getElem?_map,qb h];rfl
theorem C6 {v i:Nat} {p:List Tm} (h:i<p.length):bg v (p.take (i+1))=bg v (p.take i)++[(p[i].1.set v (p[i].1.getD v 0+1),p[i].2 / (p[i].1.getD v 0+1))]:=by
 unfold bg;rw[List.take_add_one,qb h,tY];rfl
theorem lG (p:List Tm) (t:Tm):(p++[t]).map tn=p.map tn++[tn t]:=by rw[tY];rfl
def xY (v:Nat) (p:List Tm):Bool:=p.all (fun t=>decide (t.1.getD v 0+1<=1024))
abbrev nfR (ts:List RT):List Tm:=nf (ts.map tq)
theorem p_ {ts:List RT} (h: ∀ t∈ts,t.1.length=8):Len8 (ts.map tq):=fun t ht=>by
 obtain⟨u,hu,rfl⟩:=mem_map.1 ht;exact h u hu
theorem Jz {ts:List RT} (h:validB ts=true): ∀ t∈ts,∀ e∈t.1,0<=e/\e<=1024:=fun t ht e he=>by
 unfold validB at h;rw[vP] at h;have h1:=h t ht;unfold gG at h1;rw[vP] at h1;simpa using h1 e he
theorem Rf {ts:List RT} {j k n:Nat} (hj:1<=j) (h:TsOk j ts) (hn:ts.length<=n) (hk:n*(j+1)+1<=k) (hv:validB ts=true):POk k 1024 (nfR ts):=by
 have hb:PB k (ts.map tq):=PB.terms hj (fun t ht=>by
  obtain⟨u,hu,rfl⟩:=mem_map.1 ht;exact(h u hu).raw.bd hj) (by rw[length_map];exact hn) hk
 refine⟨dc (p_ h.l8),hb.nf.bd (by omega),fun t ht=>?_⟩;obtain⟨x,hx,he⟩:=rF ht;obtain⟨u,hu,rfl⟩:=mem_map.1 hx;rw[<-he];exact Jz hv u hu
theorem Rg {p:List Tm} {k v:Nat} (h:POk k 1024 p) (hv:v<8):validB ((bg v p).map tn)=xY v p:=by
 rw[Bool.eq_iff_iff];unfold validB xY;rw[vP,vP];have key: ∀ u∈p,(gG (u.1.set v (u.1.getD v 0+1))=true↔u.1.getD v 0+1<=1024):=fun u hu=>by
  have h8:=h.canon.len u hu;have h0:=h.at (by decide) v u hu;unfold gG;rw[vP];constructor
  .intro h1;have:=h1 (u.1.getD v 0+1) (List.mem_iff_getElem?.2 ⟨v,qv (by omega)⟩);rw[BP] at this;exact of_decide_eq_true this.2
  intro h1 e he;rw[BP];rcases mem_or_eq_of_mem_set he with h2 | h2
  .have:=h.exp u hu e h2;exact⟨f3 (by omega),f3 (by omega)⟩
  exact⟨f3 (by omega),f3 (by omega)⟩
 constructor
 .intro h1 u hu;refine f3 ((key u hu).1 ?_);exact h1 (tn (u.1.set v (u.1.getD v 0+1),u.2 / (u.1.getD v 0+1))) (mem_map.2 ⟨_,mem_map.2 ⟨u,hu,rfl⟩,rfl⟩)
 intro h1 t ht;obtain⟨w,hw,rfl⟩:=mem_map.1 ht;obtain⟨u,hu,rfl⟩:=mem_map.1 hw;exact(key u hu).2 (of_decide_eq_true (h1 u hu))
theorem Ek (ts:List RT):(nfR ts).length<=ts.length:=by
 have:=wb (ts.map tq);rwa [length_map] at this
def Z1 (ts:List RT) (v:Int):PV:=
 if validB ts=false then .tup [.fv (.sl []),.int .i64 2]
 else if v<0\/8<=v then .tup [.fv (.sl []),.int .i64 1]
 else if xY v.toNat (nfR ts)=true then .tup [PL ((bg v.toNat (nfR ts)).map tn),.int .i64 0]
 else .tup [.fv (.sl []),.int .i64 9]
theorem NT {v:Nat} {p:List Tm} {i:Nat} (h:i<p.length):xY v (p.take (i+1))=(xY v (p.take i)&&decide (p[i].1.getD v 0+1<=1024)):=by
 unfold xY;rw[List.take_add_one,qb h,qvb];simp
theorem JA {v:Nat} {p:List Tm} {i:Nat} (h:i<p.length) (h2: ¬p[i].1.getD v 0+1<=1024):xY v p=false:=by
 unfold xY;rw[List.all_eq_false];exact⟨p[i],lY h,by simpa using h2⟩
theorem yG {m:List Int} (h:m.length=8) (a b c:PV):(mC m++[a,b,c]).length=11:=by rw[qe,bW,h];rfl
theorem El {m:List Int} (h:m.length=8) (a b c:PV) (r:Raw):List.take 8 (mC m++[a,b,c])++r.c++List.drop 11 (mC m++[a,b,c])=fC (m,r):=by
 rw[List.drop_of_length_le (by rw[yG h];omega),List.take_append_of_le_length (by rw[bW];omega),jL h,append_nil];rfl
theorem ajG (ts:List RT) (v:Int) (hw: -9223372036854775808<=v/\v<9223372036854775808) (h8:TsOk 500000 ts) (hn:ts.length<=20) (hs:(nfR ts).length<=bk):Den Tryz.prog 27 [] [PL ts,.int .i64 v] [] (Z1 ts v):=by
 have hb:PB 1000000000 (ts.map tq):=PB.terms (j:=500000) (n:=20) (by decide) (fun t ht=>by
  obtain⟨u,hu,rfl⟩:=mem_map.1 ht;exact(h8 u hu).raw.bd (by decide)) (by rw[length_map];exact hn) (by decide)
 have ei:=Ek ts;unfold Z1;by_cases hv:validB ts=true
 .have hp:=Rf (n:=20) (k:=20000000) (by decide) h8 hn (by decide) hv;have DV:=UZ ts (fun t ht=>(h8 t ht).mono (by decide)) hb (by omega) hs hv;change Den Tryz.prog 61 [] [PL ts] [] (.tup [PL ((nfR ts).map tn),.int .i64 0]) at DV;rw[if_neg (by rw[hv];decide)];obtain⟨p,hpp⟩:=ax (nfR ts);rw[hpp] at DV hp ei hs ⊢;have Is:((0:Int) !=0)=false:=rfl;by_cases ej:v<0
  .rw[if_pos (.inl ej)];have e1:decide (v<0)=true:=f3 ej;refine dq Tryz.func27 65 0 ?_;refine aW ?_;refine aM DV ?_;refine ae (aB e1 Is) ?_;refine a_ rfl
  have e1:decide (v<0)=false:=jI ej;by_cases eC:8<=v
  .rw[if_pos (.inr eC)];have e2:decide (v>=8)=true:=f3 eC;refine dq Tryz.func27 65 0 ?_;refine aW ?_;refine aM DV ?_;refine ae (bA e1 e2 Is) ?_;refine a_ rfl
  have e2:decide (v>=8)=false:=jI eC;rw[if_neg (by omega)];obtain⟨w,rfl⟩: ∃ w:Nat,v=(w:Int):=⟨v.toNat,by omega⟩;rw[Int.toNat_natCast];have hw8:w<8:=by omega
  have hf:=Rg (v:=w) hp hw8;have wW:=(hp.mono (k:=20000000) (F:=1000000) (by decide) (by decide)).prim (v:=w) (by decide) (by decide) hw8;have hTs:=wW.ts (by decide);have hB2:PB 1000000000 (bg w p):=PB.terms (n:=20) (j:=20000001) (by decide) wW.bd (by rw[eJ];omega) (by decide);obtain⟨R,hR⟩: ∃ R:PV,(if xY w p=true then PV.tup [PL ((bg w p).map tn),.int .i64 0] else .tup [.fv (.sl []),.int .i64 9])=R:=⟨_,rfl⟩;rw[hR];have rl:=aw (p.map tn);rw[length_map] at rl;obtain⟨n,b8⟩:=ax p.length;rw[b8] at rl ei;have rT:=aw ((bg w p).map tn);rw[length_map,eJ,b8] at rT;have tkT:=bB (ts:=(bg w p).map tn) (n:=n) (by rw[length_map,eJ];omega)
  have agN:=fun h=>UZ ((bg w p).map tn) (fun t ht=>(hTs t ht).mono (by decide)) (by rw[bE];exact hB2) (by rw[length_map,eJ];omega) (by rw[bE,e_ wW.canon,eJ];exact hs) h
  rw[bE,e_ wW.canon,hf] at agN;refine dq Tryz.func27 65 0 ?_;refine aW ?_;refine aM DV ?_;refine ae (dR e1 e2 Is rl) ?_;refine wl (α:=Nat) (fun i=>⟨[PL (p.map tn),.int .i64 w,.any,.any,.any,.any,.any,.lsl 0 0 i 11]++replicate 18 .any++[PL (p.map tn),.int .i64 n,.int .i64 i]++replicate 38 .any,[.row true (av ((bg w (p.take i)).map tn))]⟩) (fun i=>n - i) (fun i=>i<=n/\xY w (p.take i)=true) 0 ?_ ⟨dk _,rfl⟩ ?_
  .refine Weak.nil 7 11 (by decide) rfl ?_;refine eH [0] ?_ ?_
   .simp[bh,dF,cw]
   simp[d_,fD,bg,av]
  rintro i ⟨hi,hlw⟩;have rli:=aw ((bg w (p.take i)).map tn);rw[length_map,eJ,length_take,b8,Nat.min_eq_left hi] at rli;have tki:=bB (ts:=(bg w (p.take i)).map tn) (n:=i) (by rw[length_map,eJ,length_take];omega);refine aW ?_;refine bM ?_ ?_
  .intro h1 h2;have dJ:i<p.length:=by omega
   have r1:=cE (ts:=p.map tn) (i:=i) (by rw[length_map];omega);rw[p9 dJ] at r1;have aY:p[i]∈p:=lY dJ;have Kv:=hp.bd _ aY;have Pn:=hp.at (by decide) w _ aY;have hm:=hp.canon.len _ aY;have cL:=C6 (v:=w) dJ;have aL:=NT (v:=w) dJ;have hlf:=JA (v:=w) dJ;obtain⟨t,ht⟩:=ax (p[i]);rw[ht] at r1 Kv Pn hm cL aL hlf;have bO:=dT ((bg w (p.take i)).map tn) (tn (t.1.set w (t.1.getD w 0+1),t.2 / (t.1.getD w 0+1)));rw[<-lG,<-cL] at bO;obtain⟨x,hx⟩:=ax (t.1.getD w 0);rw[hx] at Pn bO aL hlf;have t1:((t.1.set w (x+1),cn t.2):RT).1.length=8:=by simp[hm]
   have t2:(tn t).1.length=8:=hm;have bS:=me (t:=tn t) (i:=w) (x:=x+1) hw8 hm;change List.take w (fC (tn t))++[PV.int IntKind.i64 (x+1)]++List.drop (w+1) (fC (tn t))=fC (t.1.set w (x+1),cn t.2) at bS;have dS:=mT (t:=tn t) (i:=w) hw8 hm;have gY:=mT (t:=(t.1.set w (x+1),cn t.2)) (i:=w) hw8 t1;change List.take 1 (List.drop w (fC (tn t)))=[PV.int .i64 (t.1.getD w 0)] at dS;rw[hx] at dS;dsimp only at gY;rw[show(t.1.set w (x+1)).getD w 0=x+1 by rw[qa,qv (by omega)];rfl] at gY;have q4:=aU t2;have fl0:=aJ t2;have Zd:=aH t1;have cl2:=aH t2;by_cases I9:x+1<=1024
   .have e3:decide (x+1>1024)=false:=oc;have Cj:=zg (x+1) (by omega);have dX:Bd 1 ((x+1:Int):Rat):=bd_int (FD (show _<=1000001 by omega) (by decide));have mK:=Qz (cn t.2) (cn ((x+1:Int):Rat)) ((bj Kv).mono (by decide)) ((bj dX).mono (by decide)) (by rw[cu];exact jw (by omega));rw[cu,cu,<-k4] at mK;change Den Tryz.prog 74 [] [.int .i64 (x+1)] [] (.agg (cn ((x+1:Int):Rat)).c) at Cj;rw[<-k4] at Cj;change Den Tryz.prog 73 [] [.agg (cn t.2).c,.agg (cn ((x:Rat)+1)).c] [] (.tup [.agg (cn (t.2 / ((x:Rat)+1))).c,.int .i64 0]) at mK;change av ((bg w (p.take i)).map tn)++[gC (t.1.set w (x+1),cn (t.2 / ((x:Rat)+1)))]=_ at bO;rw[f3 I9,hlw] at aL;have cf:=d6 t1;have c8:=ed t1;obtain⟨y,hy⟩:=ax (cn ((x:Rat)+1));rw[hy] at Cj mK;obtain⟨z,hz⟩:=ax (cn (t.2 / ((x:Rat)+1)));rw[hz] at mK bO
    have t0:((t.1.set w (x+1),z):RT).1.length=8:=by simp[hm]
    have Tl:=cW t0;have Um:=aH t0;have W3:=aU t0;have agO:=aJ t0;have ml:=bW (t.1.set w (x+1));rw[length_set,hm] at ml;have mt:=jL t0;have m8:(t.1.set w (x+1)).length=8:=by simp[hm]
    have clz:=yG m8 (.fv (.lit (.bool false))) PV.nilsl PV.nilsl;have pc:=El m8 (.fv (.lit (.bool false))) PV.nilsl PV.nilsl z;refine ae (bu h2 r1 rl q4 @dI fl0 Zd (eU cl2 dS gY bS @Nat.mul_one e3 @append_nil.{0})) ?_
    repeat refine ag ?_
    refine dw (by kernel_rfl) ?_;refine ae (dR @Nat.mul_one gY cf Zd) ?_
    repeat refine ag ?_
    refine aM Cj ?_;refine ae (aB @da @append_nil.{0}) ?_;refine xL mK ?_;refine ae (bu @fG @da @cz @tu c8 ml clz (bu pc Um Zd @cT @c_ W3 tki (bA rli bO @append_nil.{0}))) ?_
    repeat refine ag ?_
    refine aA (i+1) ?_ ⟨by omega,aL⟩;exact bx [4]
   have e3:decide (x+1>1024)=true:=yP;have hl:=hlf I9;rw[if_neg (by rw[hl];decide)] at hR;subst hR;refine ae (bu h2 r1 rl q4 @dI fl0 Zd (eU cl2 dS gY bS @Nat.mul_one e3 @append_nil.{0})) ?_
   repeat refine ag ?_
   refine a_ rfl
  intro h1 h2;have pj:p.take i=p:=dm (by omega);have f0:i=n:=by omega
  subst f0;rw[pj] at hlw ⊢;rw[if_pos hlw] at hR;subst hR;have ak8:=agN hlw;refine ae h2 ?_
  repeat refine ag ?_
  refine gp ak8 (by simp[bJ,eT,eo,dZ,tkT,rT]) ?_;refine aN ?_;refine a_ rfl
 have PW:validB ts=false:=by simpa using hv
 rw[if_pos PW];have DV:=Yy ts (fun t ht=>(h8 t ht).mono (by decide)) (by omega) PW;have h20:((2:Int) !=0)=true:=rfl;refine dq Tryz.func27 65 0 ?_;refine aW ?_;refine aM DV ?_;refine ae h20 ?_;refine a_ rfl
abbrev eqV:PV:= .fv (.lit (.func (.func 254) #[] #[]))
def Asc (l:List (List Raw)) (i:Nat):Prop:= ∀ p q,p<q->q<i->bV (l.getD p []) (l.getD q [])<0
structure Cmp (ls cur:List (List Raw)) (i j:Nat):Prop where
 len:cur.length=ls.length
 pos:1<=i
 lt:i+1<=j
 le:j<=ls.length
 same: ∀ q,i<=q->cur.getD q []=ls.getD q []
 asc:Asc cur i
 sub: ∀ q,q<i->cur.getD q []∈ls
 sup: ∀ p,p<j-> ∃ q,q<i/\cur.getD q []=ls.getD p []
 last:cur.getD (i - 1) []=ls.getD (j - 1) []
theorem bC {ls:List (List Raw)} {i:Nat} (h:i<ls.length):ls.getD i []∈ls:=lF.2 ⟨i,h,rfl⟩
theorem lH {ls:List (List Raw)} {i q:Nat} {x:List Raw} (h:i<ls.length):(ls.set i x).getD q []=if q=i then x else ls.getD q []:=by
 simp only[qa,List.getElem?_set];by_cases hq:i=q
 .subst hq;rw[if_pos rfl,if_pos h,if_pos rfl];rfl
 rw[if_neg hq,if_neg (fun e=>hq e.symm)]
theorem Cmp.skip {ls cur:List (List Raw)} {i j:Nat} (h:Cmp ls cur i j) (hj:j<ls.length) (he:ls.getD j []=ls.getD (j - 1) []):Cmp ls cur i (j+1):=by
 have hp:=h.pos;have aL:=h.lt;refine⟨h.len,h.pos,by omega,by omega,h.same,h.asc,h.sub,fun p Im=>?_,?_⟩
 .by_cases hpj:p=j
  .subst hpj;rw[he];exact h.sup (p - 1) (by omega)
  exact h.sup p (by omega)
 rw[Nat.add_sub_cancel,he];exact h.last
theorem Cmp.take {ls cur:List (List Raw)} {i j:Nat} {k:Nat} (bF:AOk k ls) (h:Cmp ls cur i j) (ez: ∀ a∈ls,∀ b∈ls,bV a b=0->a=b) (vv: ∀ p q,p<q->q<ls.length->bV (ls.getD p []) (ls.getD q [])<=0) (hj:j<ls.length)
 (he:bV (ls.getD j []) (ls.getD (j - 1) [])≠0):Cmp ls (cur.set i (ls.getD j [])) (i+1) (j+1):=by
 have hp:=h.pos
 have aL:=h.lt
 have hl:=h.len
 have W4:i<cur.length:=by omega
 have dM:bV (ls.getD (j - 1) []) (ls.getD j [])<0:=by
  have h1:=vv (j - 1) j (by omega) hj;have h2:=eE (ls.getD j []) (ls.getD (j - 1) []);omega
 refine⟨by rw[length_set];exact hl,by omega,by omega,by omega,fun q hq=>?_,fun p q wT hq=>?_,fun q hq=>?_,fun p Im=>?_,?_⟩
 .rw[lH W4,if_neg (by omega)];exact h.same q (by omega)
 .rw[lH W4,lH W4,if_neg (show¬p=i by omega)]
  by_cases I5:q=i
  .rw[if_pos I5]
   have h9: ∀ f∈ls,f.length=9:=fun f hf=>(bF f hf).len
   have m1:=h.sub p (by omega)
   have m2:=bC (i:=j) hj
   by_cases hpi:p=i - 1
   .rw[hpi,h.last];exact dM
   have h1:=h.asc p (i - 1) (by omega) (by omega)
   rw[h.last] at h1
   have h3:=oD _ _ _ (by rw[h9 _ m1,h9 _ (bC (i:=j - 1) (by omega))]) (by rw[h9 _ (bC (i:=j - 1) (by omega)),h9 _ m2]) (Int.le_of_lt h1) (Int.le_of_lt dM)
   rcases Int.lt_or_eq_of_le h3 with h4 | h4
   .exact h4
   exfalso
   have h5:=ez _ m1 _ m2 h4
   rw[h5,eE] at h1
   omega
  rw[if_neg I5];exact h.asc p q wT (by omega)
 .rw[lH W4]
  split
  .exact bC hj
  exact h.sub q (by omega)
 .by_cases hpj:p=j
  .exact⟨i,by omega,by rw[lH W4,if_pos rfl,hpj]⟩
  obtain⟨q,hq,hqe⟩:=h.sup p (by omega)
  exact⟨q,by omega,by rw[lH W4,if_neg (by omega)];exact hqe⟩
 rw[lH W4,if_pos (by omega),Nat.add_sub_cancel]
structure JB (ls out:List (List Raw)):Prop where
 sorted:out.Pairwise (fun a b=>bV a b<0)
 mem: ∀ f,f∈out↔f∈ls
theorem xp {l:List (List Raw)} (h:Asc l l.length):l.Pairwise (fun a b=>bV a b<0):=by
 rw[List.pairwise_iff_getElem];intro p q hp hq wT;have:=h p q wT hq;rw[qa,qb hp,qa,qb hq] at this;exact this
theorem Cmp.done {ls cur:List (List Raw)} {i:Nat} (h:Cmp ls cur i ls.length):JB ls (cur.take i):=by
 have aL:=h.lt;have hl:=h.len;have hg: ∀ q,q<i->(cur.take i).getD q []=cur.getD q []:=fun q hq=>by
  rw[qa,List.getElem?_take,if_pos hq,qa]
 have hli:(cur.take i).length=i:=by rw[length_take];omega
 refine⟨xp (fun p q wT hq=>?_),fun f=>?_⟩
 .rw[hli] at hq;rw[hg p (by omega),hg q hq];exact h.asc p q wT hq
 rw[lF];constructor
 .rintro⟨q,hq,rfl⟩;rw[hli] at hq;rw[hg q hq];exact h.sub q hq
 intro hf;obtain⟨p,hp,rfl⟩:=lF.1 hf;obtain⟨q,hq,he⟩:=h.sup p hp;exact⟨q,by rw[hli];exact hq,by rw[hg q hq];exact he⟩
theorem GA {ls:List (List Raw)} (h:Asc ls ls.length):JB ls ls:=⟨xp h,fun _=>Iff.rfl⟩
theorem ajI (ls:List (List Raw)) (bF:AOk 1000000000 ls) (hn:ls.length<=1000) (ez: ∀ a∈ls,∀ b∈ls,bV a b=0->a=b) (vv: ∀ p q,p<q->q<ls.length->bV (ls.getD p []) (ls.getD q [])<=0):
 ∃ H1 res,(fun H1 res=> ∃ out,H1=[.row true (ai out)]/\res=PV.lsl 0 0 out.length 27/\JB ls out) H1 res/\Den Tryz.prog 204 [.row true (ai ls)] [.lsl 0 0 ls.length 27,eqV] H1 res:=by
 obtain⟨n,b8⟩:=ax ls.length
 rw[b8] at hn ⊢
 refine Lh Tryz.func204 64 1 ?_
 refine aW ?_
 refine bM ?_ ?_
 .intro h1 h2
  refine ae (aB h2 @iL) ?_
  exact⟨[.row true (ai ls)],.lsl 0 0 n 27,⟨ls,rfl,by rw[b8],GA (fun p q h3 h4=>by omega)⟩,sn (cd:=True/\True) (vs:=[.lsl 0 0 n 27]) rfl ⟨cK,cK⟩ rfl trivial rfl rfl rfl⟩
 intro h1 h2
 refine ae h2 ?_
 refine wl (α:=Nat) (fun k=>⟨[.lsl 0 0 n 27,eqV,.any,.any,.nilsl,.int .i64 k]++replicate 60 .any,[.row true (ai ls)]⟩)
  (fun k=>n+1 - k) (fun k=>1<=k/\k<=n/\Asc ls k) 1 ?_ ?_ ?_
 .exact bx [0]
 .exact⟨qp _,by omega,fun p q h3 h4=>by omega⟩
 rintro k ⟨ke,M5,W5⟩
 refine aW ?_
 refine bM ?_ ?_
 .intro h3 h4
  obtain⟨m,rfl⟩: ∃ m,k=m+1:=⟨k - 1,by omega⟩
  have DP:(((m+1:Nat):Int) - 1)=(m:Int):=by omega
  have hx:=bF.at (i:=m+1) (by omega)
  have hy:=bF.at (i:=m) (by omega)
  have cA:=aeE _ _ hx hy
  have r1:=aV ls (m+1)
  have r2:=aV ls m
  obtain⟨x,jn⟩:=ax (ls.getD (m+1) [])
  obtain⟨y,vM⟩:=ax (ls.getD m [])
  rw[jn] at hx cA r1
  rw[vM] at hy cA r2
  have rl:=aq ls
  have jG:=ay hx.len
  have kB:=ay hy.len
  have fx:=aE x
  have fy:=aE y
  have lx:=hx.len
  have ly:=hy.len
  obtain⟨z,hz⟩:=ax (bV x y)
  rw[hz] at cA
  unfold RL at cA
  refine ae h4 ?_
  refine dw (by kernel_rfl) ?_
  refine bm (dN DP r1 r2 jG kB rl) ?_
  repeat refine ag ?_
  refine gv cA ?_
  refine vG ?_
  refine Br.beqInt ?_ ?_
  .intro h5 h6
   refine ae h6 ?_
   repeat refine ag ?_
   have Ph:Cmp ls ls (m+1) (m+1+1):=by
    refine⟨rfl,by omega,qp _,by omega,fun q _=>rfl,W5,fun q hq=>bC (by omega),fun p hp=>?_,?_⟩
    .by_cases Ts:p=m+1
     .refine⟨m,by omega,?_⟩;rw[Ts,jn,vM];exact(ez _ (jn ▸ bC (by omega)) _ (vM ▸ bC (by omega)) (by rw[hz];exact h5)).symm
     exact⟨p,by omega,rfl⟩
    rw[show m+1 - 1=m by omega,show m+1+1 - 1=m+1 by omega,jn,vM];exact(ez _ (jn ▸ bC (by omega)) _ (vM ▸ bC (by omega)) (by rw[hz];exact h5)).symm
   clear cA jn vM hx hy jG kB fx fy lx ly r1 r2 hz
   refine wl (α:=Nat×Nat×List (List Raw)) (fun⟨i,k2,cur⟩=>⟨[.lsl 0 0 n 27,eqV,.any,.any,.nilsl,.int .i64 i,.lsl 0 (m+1) (n - (m+1)) 27,.int .i64 k2]++replicate 58 .any,[.row true (ai cur)]⟩)
    (fun⟨_,k2,_⟩=>n - k2) (fun⟨i,k2,cur⟩=>1<=k2/\Cmp ls cur i (m+1+k2)) (m+1,1,ls) ?_ ?_ ?_
   .exact bx [0]
   .exact⟨qp _,Ph⟩
   rintro⟨i,k2,cur⟩ ⟨jF,hc⟩
   have fr:=hc.len
   have apF:=hc.lt
   have apG:=hc.le
   refine aW ?_
   refine bM ?_ ?_
   .intro g1 g2
    obtain⟨p,rfl⟩: ∃ p,k2=p+1:=⟨k2 - 1,by omega⟩
    have DP:(((p+1:Nat):Int) - 1)=(p:Int):=by omega
    have e1:cur.getD (m+1+(p+1)) []=ls.getD (m+1+(p+1)) []:=hc.same _ (by omega)
    have e2:cur.getD (m+1+p) []=ls.getD (m+1+p) []:=hc.same _ (by omega)
    have hx:=bF.at (i:=m+1+(p+1)) (by omega)
    have hy:=bF.at (i:=m+1+p) (by omega)
    have cA:=aeE _ _ hx hy
    have r1:=aV cur (m+1+(p+1))
    have r2:=aV cur (m+1+p)
    have r4:=aV cur i
    have dJ:(cur.getD i []).length=9:=by rw[hc.same i (qp _)];exact(bF.at (by omega)).len
    have fi:=aE (cur.getD i [])
    rw[e1] at r1
    rw[e2] at r2
    obtain⟨x,jn⟩:=ax (ls.getD (m+1+(p+1)) [])
    obtain⟨y,vM⟩:=ax (ls.getD (m+1+p) [])
    obtain⟨c0,Kz⟩:=ax (cur.getD i [])
    rw[Kz] at r4 dJ fi
    rw[jn] at hx cA r1
    rw[vM] at hy cA r2
    have sY:=aq cur
    have jG:=ay hx.len
    have kB:=ay hy.len
    have fx:=aE x
    have fy:=aE y
    have lx:=hx.len
    have ly:=hy.len
    have gx:=ah x
    have di:List.drop 27 (cx c0)=[]:=oO dJ
    have ck:(ai cur).set i (cx x)=ai (cur.set i x):=rO cur i x
    obtain⟨z,hz⟩:=ax (bV x y)
    rw[hz] at cA
    obtain⟨bz,hbz⟩:=ax ((z==0))
    rw[hbz] at cA
    unfold RL at cA
    refine ae g2 ?_
    refine dw (by kernel_rfl) ?_
    refine bm (dN DP r1 r2 jG kB sY) ?_
    repeat refine ag ?_
    refine gv cA ?_
    cases bz with
    | true=>
     have WQ:z=0:=by simpa using hbz
     refine bm @Bool.not_true ?_;refine aA (i,p+1+1,cur) ?_ ⟨by omega,?_⟩
     .exact bx [0]
     .refine hc.skip (by omega) ?_;rw[show m+1+(p+1) - 1=m+1+p by omega,jn,vM];exact ez _ (jn ▸ bC (by omega)) _ (vM ▸ bC (by omega)) (by rw[hz];exact WQ)
    | false=>
     have WQ:z≠0:=by simpa using hbz
     refine bm (bu @Bool.not_false r1 r4 jG sY fi dJ (fO gx lx di fx ck)) ?_
     repeat refine ag ?_
     refine aA (i+1,p+1+1,cur.set i x) ?_ ⟨by omega,?_⟩
     .exact bx [0]
     have:=hc.take bF ez vv (by omega) (by rw[show m+1+(p+1) - 1=m+1+p by omega,jn,vM,hz];exact WQ);rw[jn] at this;exact this
   intro g1 g2
   have I_:m+1+k2=ls.length:=by omega
   rw[I_] at hc
   have mM:=hc.done
   have sY:=aq cur
   have eO:List.take i (ai cur)=ai (cur.take i):=by simp[ai]
   have xR:(cur.take i).length=i:=by rw[length_take];omega
   refine ae (dR g2 sY eO @iL) ?_
   repeat refine ag ?_
   exact⟨[.row true (ai (cur.take i))],.lsl 0 0 i 27,⟨cur.take i,rfl,by rw[xR],mM⟩,sn (cd:=True/\True) (vs:=[.lsl 0 0 i 27]) rfl ⟨cK,cK⟩ rfl trivial rfl rfl rfl⟩
  intro h5 h6
  refine ae h6 ?_
  refine aA (m+1+1) ?_ ⟨by omega,by omega,fun p q h7 h8=>?_⟩
  .exact bx [0]
  by_cases hq:q=m+1
  .subst hq
   have aL:bV (ls.getD m []) (ls.getD (m+1) [])<0:=by
    have e1:=vv m (m+1) (by omega) (by omega);have e2:=eE (ls.getD (m+1) []) (ls.getD m []);rw[jn,vM] at e1 e2 ⊢;omega
   by_cases Ts:p=m
   .rw[Ts];exact aL
   have e1:=W5 p m (by omega) (by omega)
   have e2:=vv p (m+1) (by omega) (by omega)
   rcases Int.lt_or_eq_of_le e2 with e3 | e3
   .exact e3
   exfalso
   have e4:=ez _ (bC (by omega)) _ (bC (by omega)) e3
   rw[e4,eE] at e1
   omega
  exact W5 p q h7 (by omega)
 intro h3 h4
 have alb:k=n:=by omega
 subst alb
 refine ae (aB h4 @iL) ?_
 exact⟨[.row true (ai ls)],.lsl 0 0 k 27,⟨ls,rfl,by rw[b8],GA (fun p q h5 h6=>W5 p q h5 (by omega))⟩,sn (cd:=True/\True) (vs:=[.lsl 0 0 k 27]) rfl ⟨cK,cK⟩ rfl trivial rfl rfl rfl⟩
abbrev nzV:PV:= .fv (.lit (.func (.func 220) #[] #[]))
def ot (t:Tm):Bool:=decide (t.2≠0)
theorem YA (t:Tm) (h8:t.1.length=8) (hb:Bd 1000000000 t.2):Den Tryz.prog 220 [] [.agg (fC (tn t))] [] (.bool (! ot t)):=by
 have fM:=nF (cn t.2) ((bj hb).mono (by decide));rw[cu] at fM;change Den Tryz.prog 84 [] [.agg (cn t.2).c] [] _ at fM;have ht:(tn t).1.length=8:=h8;have cl:=aH ht;have cf:=d6 ht;have e:(fQ t.2==0)=! ot t:=by
  unfold ot;by_cases h:t.2=0
  .rw[jI (by simpa using h),a9.2 h];rfl
  rw[f3 h];have:fQ t.2≠0:=fun h2=>h (a9.1 h2)
  simpa using this
 obtain⟨z,hz⟩:=ax (fQ t.2);obtain⟨b,W6⟩:=ax ((! ot t));rw[hz] at fM e;rw[W6] at e ⊢;change List.take 3 (List.drop 8 (fC (tn t)))=(cn t.2).c at cf;refine dq Tryz.func220 6 0 ?_;refine bw cl ?_
 repeat refine ag ?_
 refine gp fM (by simp[bJ,eT,zA,Gi,cf]) ?_;refine ae e ?_;refine a_ rfl
theorem NU {ts:List Tm} {i:Nat} (h:i<ts.length) (hf:(ts.take i).filter ot=ts.take i) (hz:ot ts[i]=true):(ts.take (i+1)).filter ot=ts.take (i+1):=by
 rw[List.take_add_one,qb h,filter_append,hf];simp[hz]
theorem aeN (ts:List Tm) (h8:Len8 ts) (hb: ∀ t∈ts,Bd 1000000000 t.2) (hn:ts.length<=10000000000):
 ∃ H1 res,(fun H1 res=>H1=[.row true (av (ts.map tn))]/\((res=PV.int .i64 (-1)/\ts.filter ot=ts)\/ ∃ i:Nat,∃ h:i<ts.length,res=PV.int .i64 i/\(ts.take i).filter ot=ts.take i/\ot ts[i]=false)) H1 res/\
  Den Tryz.prog 250 [.row true (av (ts.map tn))] [.lsl 0 0 ts.length 11,nzV] H1 res:=by
 obtain⟨n,b8⟩:=ax ts.length
 have rl:=aw (ts.map tn)
 rw[length_map,b8] at rl
 rw[b8] at hn
 refine Lh Tryz.func250 17 1 ?_
 refine bw b8 ?_
 refine wl (α:=Nat) (fun i=>⟨[.lsl 0 0 n 11,nzV,.any,.any,.any,.any,.any,.int .i64 n,.int .i64 i]++replicate 10 .any,[.row true (av (ts.map tn))]⟩)
  (fun i=>n - i) (fun i=>i<=n/\(ts.take i).filter ot=ts.take i) 0 ?_ ?_ ?_
 .exact bx [0]
 .exact⟨dk _,rfl⟩
 rintro i ⟨hi,hf⟩
 refine aW ?_
 refine bM ?_ ?_
 .intro h1 h2
  have dJ:i<ts.length:=by omega
  have r1:=cE (ts:=ts.map tn) (i:=i) (by rw[length_map];omega)
  rw[p9 dJ] at r1
  have aY:ts[i]∈ts:=lY dJ
  have hm:=h8 _ aY
  have hd:=YA ts[i] hm (hb _ aY)
  have hft:=NU dJ hf
  obtain⟨t,ht⟩:=ax (ts[i])
  rw[ht] at r1 hm hd hft
  have m_:(tn t).1.length=8:=hm
  have q4:=aU m_
  have fl:=aJ m_
  obtain⟨b,W6⟩:=ax (ot t)
  rw[W6] at hd hft
  refine ae (dN h2 r1 q4 @dI rl fl) ?_
  repeat refine ag ?_
  refine gp hd (by simp[bJ,eT,cT,dI]) ?_
  refine ae @c_ ?_
  cases b with
  | true=>
   refine ae @Bool.not_true ?_;refine aA (i+1) ?_ ⟨by omega,hft rfl⟩;exact bx [0]
  | false=>
   refine ae @Bool.not_false ?_;exact⟨[.row true (av (ts.map tn))],.int .i64 i,⟨rfl,.inr ⟨i,dJ,rfl,hf,by rw[ht];exact W6⟩⟩,sn (cd:=True/\True) (vs:=[.int .i64 i]) rfl ⟨cK,cK⟩ rfl trivial rfl rfl rfl⟩
 intro h1 h2
 have WC:ts.take i=ts:=dm (by omega)
 rw[WC] at hf
 refine ae h2 ?_
 exact⟨[.row true (av (ts.map tn))],.int .i64 (-1),⟨rfl,.inl ⟨rfl,hf⟩⟩,sn (cd:=True/\True) (vs:=[.int .i64 (-1)]) rfl ⟨cK,cK⟩ rfl trivial rfl rfl rfl⟩
def nR (ts:List Tm) (j:Nat):List Tm:=(ts.take j).filter ot++ts.drop ((ts.take j).filter ot).length
def mW (ts:List Tm) (j:Nat):Nat:=((ts.take j).filter ot).length
theorem L0 (ts:List Tm) (j:Nat):mW ts j<=j:=by
 unfold mW;have:=List.length_filter_le ot (ts.take j);rw[length_take] at this;omega
theorem GB (ts:List Tm) {j:Nat} (h:j<=ts.length):(nR ts j).length=ts.length:=by
 have:=L0 ts j;unfold mW at this;unfold nR;rw[qe,length_drop];omega
theorem L4 {ts:List Tm} {j q:Nat} (h:mW ts j<=q) (hq:q<ts.length):(nR ts j).getD q ([],0)=ts[q]:=by
 unfold mW at h;unfold nR;rw[qa,getElem?_append_right h,List.getElem?_drop,Nat.add_sub_cancel' h,qb hq];rfl
theorem NV {ts:List Tm} {j:Nat} (h:j<ts.length) (hz:ot ts[j]=true):nR ts (j+1)=(nR ts j).set (mW ts j) ts[j]/\mW ts (j+1)=mW ts j+1:=by
 have e:(ts.take (j+1)).filter ot=(ts.take j).filter ot++[ts[j]]:=by
  rw[List.take_add_one,qb h,filter_append];simp[hz]
 have hl:=L0 ts j;unfold mW at hl;unfold nR mW;rw[e,qe];refine⟨?_,rfl⟩;rw[List.set_append_right _ _ (qp _),Nat.sub_self,append_assoc];congr 1;rw[drop_eq_getElem_cons (i:=((ts.take j).filter ot).length) (by omega),set_cons_zero];rfl
theorem wq {ts:List Tm} {j:Nat} (h:j<ts.length) (hz:ot ts[j]=false):nR ts (j+1)=nR ts j/\mW ts (j+1)=mW ts j:=by
 have e:(ts.take (j+1)).filter ot=(ts.take j).filter ot:=by
  rw[List.take_add_one,qb h,filter_append];simp[hz]
 unfold nR mW;rw[e];exact⟨rfl,rfl⟩
theorem NW {ts:List Tm}:mW ts ts.length=(ts.filter ot).length/\(nR ts ts.length).take (mW ts ts.length)=ts.filter ot:=by
 unfold nR mW;rw[List.take_length];exact⟨rfl,List.take_left' rfl⟩
theorem oQ (ts:List Tm) (i:Nat) (t:Tm):(av (ts.map tn)).set i (gC (tn t))=av ((ts.set i t).map tn):=by rw[rQ,List.map_set]
theorem wt {p:List Tm} {i:Nat} (h:i<p.length):(av (p.map tn)).getD i []=gC (tn (p.getD i ([],0))):=by
 rw[cE (by rw[length_map];exact h),p9 h,qa,qb h];rfl
theorem aeO (ts:List Tm) (h8:Len8 ts) (hb: ∀ t∈ts,Bd 1000000000 t.2) (hn:ts.length<=10000000000):
 Den Tryz.prog 219 [.row true (av (ts.map tn))] [.lsl 0 0 ts.length 11,nzV] [.row true (av ((ts.filter ot).map tn))] (.lsl 0 0 (ts.filter ot).length 11):=by
 obtain⟨H1,res,⟨hH,au⟩,abl⟩:=aeN ts h8 hb hn
 obtain⟨n,b8⟩:=ax ts.length
 have rl:=aw (ts.map tn)
 rw[length_map,b8] at rl
 rw[b8] at hn abl ⊢
 rcases au with⟨rfl,hf⟩ | ⟨i,dJ,rfl,hfi,hzi⟩
 .subst hH
  rw[hf,b8]
  have e1:((-1:Int)== -1)=true:=rfl
  refine dq Tryz.func219 40 1 ?_
  refine aW ?_
  refine eG 0 abl trivial ?_
  refine ae (bA e1 @Rc @append_nil.{0}) ?_
  exact sn (cd:=True/\True) (vs:=[.lsl 0 0 n 11]) rfl ⟨cK,cK⟩ rfl trivial rfl rfl rfl
 subst hH
 have e1:((i:Int)== -1)=false:=by rw[qx];omega
 have hI:mW ts (i+1)=i:=by
  rw[(wq dJ hzi).2];unfold mW;rw[hfi,length_take];omega
 have hM:nR ts (i+1)=ts:=by
  rw[(wq dJ hzi).1];unfold nR;rw[hfi,length_take,Nat.min_eq_left (by omega),List.take_append_drop]
 refine dq Tryz.func219 40 1 ?_
 refine aW ?_
 refine eG 0 abl trivial ?_
 refine ae (bA e1 @Rc @append_nil.{0}) ?_
 refine wl (α:=Nat) (fun j=>⟨[.lsl 0 0 n 11,nzV,.any,.any,.any,.int .i64 (mW ts j),.int .i64 j]++replicate 35 .any,[.row true (av ((nR ts j).map tn))]⟩)
  (fun j=>n - j) (fun j=>j<=n/\mW ts j<j) (i+1) ?_ ⟨by omega,by omega⟩ ?_
 .rw[hI,hM]
  exact bx [0]
 rintro j ⟨hj,sE⟩
 obtain⟨q,hq⟩:=ax (mW ts j)
 have hML:=GB ts (j:=j) (by omega)
 rw[b8] at hML
 rw[hq] at sE ⊢
 have rm:=aw ((nR ts j).map tn)
 rw[length_map,hML] at rm
 refine aW ?_
 refine bM ?_ ?_
 .intro h1 h2
  have kD:j<ts.length:=by omega
  have r1:=wt (p:=nR ts j) (i:=j) (by omega)
  rw[L4 (by omega) kD] at r1
  have r2:=wt (p:=nR ts j) (i:=q) (by omega)
  rw[L4 (by omega) (show q<ts.length by omega)] at r2
  have aY:ts[j]∈ts:=lY kD
  have hm:=h8 _ aY
  have hmq:=h8 _ (lY (show q<ts.length by omega))
  have hd:=YA ts[j] hm (hb _ aY)
  have hk:=NV kD
  have jH:=wq kD
  have bn:=oQ (nR ts j) q ts[j]
  rw[hq] at hk jH
  obtain⟨t,ht⟩:=ax (ts[j])
  rw[ht] at r1 hm hd hk jH bn
  obtain⟨u,hu⟩:=ax (ts[q])
  rw[hu] at r2 hmq
  have m_:(tn t).1.length=8:=hm
  have Fz:(tn u).1.length=8:=hmq
  have q4:=aU m_
  have fl:=aJ m_
  have flu:=aJ Fz
  have du:=oP Fz
  have Tl:=cW m_
  have cl:=aH m_
  obtain⟨b,W6⟩:=ax (ot t)
  rw[W6] at hd hk jH
  refine ae (bu h2 r1 q4 @dI rm fl cl (aB Tl @append_nil.{0})) ?_
  repeat refine ag ?_
  refine gp hd (by simp[bJ,eT,cT,dI]) ?_
  refine ae @c_ ?_
  cases b with
  | true=>
   obtain⟨k1,k2⟩:=hk rfl;rw[<-k1] at bn;refine ae (bu @Bool.not_true @Bool.not_false r2 Tl cl fl flu (dN du rm @cT @c_ bn @append_nil.{0})) ?_
   repeat refine ag ?_
   refine aA (j+1) ?_ ⟨by omega,by omega⟩;rw[k2];exact bx [0]
  | false=>
   obtain⟨k1,k2⟩:=jH rfl;refine ae (aB @Bool.not_true @Bool.not_false) ?_;refine aA (j+1) ?_ ⟨by omega,by omega⟩;rw[k1,k2];exact bx [0]
 intro h1 h2
 have hjn:j=ts.length:=by omega
 subst hjn
 have hdn:=NW (ts:=ts)
 rw[hq] at hdn
 have eO:List.take q (av ((nR ts ts.length).map tn))=av ((ts.filter ot).map tn):=by
  rw[<-hdn.2];simp[av]
 rw[<-hdn.1]
 refine ae (bA h2 rm eO) ?_
 repeat refine ag ?_
 exact sn (cd:=True/\True) (vs:=[.lsl 0 0 q 11]) rfl ⟨cK,cK⟩ rfl trivial rfl rfl rfl
def pJ:Nat->List Tm->List (List Int×PV)
 | _,[]=>[]
 | k,t::acc=>(t.1,.int .i64 k)::pJ (k+1) acc
theorem oT (a m:List Int) (v:PV) (es:List (List Int×PV)):d' ((a,v)::es) m=if a=m then some v else d' es m:=by
 unfold d';by_cases h:a=m
 .rw[List.find?_cons_of_pos (by simpa using h),if_pos h];rfl
 rw[List.find?_cons_of_neg (by simpa using h),if_neg h]
theorem C7: ∀ {acc:List Tm} {k:Nat} {m:Mn},m∉acc.map (·.1)->d' (pJ k acc) m=none
 | [],_,_,_=>rfl
 | t::acc,k,m,h=>by
  have ih:=C7 (acc:=acc) (k:=k+1) (m:=m) (fun h2=>h (mem_cons_of_mem _ h2));have e7:t.1≠m:=fun e=>h (by rw[<-e];simp)
  unfold pJ;rw[oT,if_neg e7];exact ih
theorem GC: ∀ {acc:List Tm} {k:Nat} {m:Mn} {q:Rat},m∉acc.map (·.1)->kh (pJ k acc) m (.int .i64 ((k+acc.length:Nat):Int))=pJ k (acc++[(m,q)])
 | [],k,m,q,_=>rfl
 | t::acc,k,m,q,h=>by
  have ih:=GC (acc:=acc) (k:=k+1) (m:=m) (q:=q) (fun h2=>h (mem_cons_of_mem _ h2));have e7:t.1≠m:=fun e=>h (by rw[<-e];simp)
  show(if(t.1==m)=true then _ else(t.1,PV.int .i64 k)::kh (pJ (k+1) acc) m _)=(t.1,PV.int .i64 k)::pJ (k+1) (acc++[(m,q)]);rw[if_neg (by simpa using e7),<-ih,length_cons];congr 4;omega
theorem zL: ∀ {acc:List Tm} {m:Mn} {q:Rat},m∉acc.map (·.1)->accAdd acc m q=acc++[(m,q)]
 | [],_,_,_=>rfl
 | t::acc,m,q,h=>by
  have ih:=zL (acc:=acc) (m:=m) (q:=q) (fun h2=>h (mem_cons_of_mem _ h2));have e7:t.1≠m:=fun e=>h (by rw[<-e];simp)
  unfold accAdd;rw[if_neg e7,ih];rfl
theorem C8: ∀ {acc:List Tm} {k:Nat} {m:Mn} (q:Rat),m∈acc.map (·.1)-> ∃ i,∃ h:i<acc.length,acc[i].1=m/\d' (pJ k acc) m=some (.int .i64 ((k+i:Nat):Int))/\
 accAdd acc m q=acc.set i (m,acc[i].2+q)/\pJ k (acc.set i (m,acc[i].2+q))=pJ k acc
 | [],_,_,_,h=>by simp at h
 | t::acc,k,m,q,h=>by
  by_cases he:t.1=m
  .refine⟨0,by simp,he,?_,?_,?_⟩
   .unfold pJ;rw[oT,if_pos he];rfl
   .unfold accAdd;rw[if_pos he,set_cons_zero,List.getElem_cons_zero,<-he]
   rw[set_cons_zero];show(m,_)::pJ (k+1) acc=(t.1,_)::pJ (k+1) acc;rw[he]
  have hm:m∈acc.map (·.1):=by
   rcases List.mem_cons.1 h with h2 | h2
   .exact absurd h2.symm he
   exact h2
  obtain⟨i,hi,h1,h2,h3,h4⟩:=C8 (k:=k+1) q hm;refine⟨i+1,by simpa using hi,h1,?_,?_,?_⟩
  .unfold pJ;rw[oT,if_neg he,h2];congr 3;omega
  .unfold accAdd;rw[if_neg he,h3];rfl
  show(t.1,_)::pJ (k+1) (acc.set i (m,acc[i].2+q))=(t.1,_)::pJ (k+1) acc;rw[h4]
theorem GD {t:RT} {r:Raw} (h:t.1.length=8):List.take 8 (gC t)++r.f++List.drop 11 (gC t)=gC (t.1,r):=by
 rw[nL h,oP h,append_nil];rfl
theorem GF {t:RT} (h:t.1.length=8):List.take 3 (List.drop 8 (gC t))=t.2.f:=by rw[wh h];rfl
theorem aeP (s t:RT) (hs:s.1.length=8) (ht:t.1.length=8):Den Tryz.prog 221 [] [.agg [.int .i64 8],.agg (fC s),.agg (fC t)] [] (.int .i64 (-(jv s.1 t.1))):=by
 have h1:=Yt s.1 t.1 8 hs ht (by decide);have g1:=uF s.1 8 hs;have g2:=uF t.1 8 ht;have r:=tr s.1 t.1;obtain⟨z,hz⟩:=ax (jv s.1 t.1);rw[hz] at h1 r ⊢;have ls:=aH hs;have lt:=aH ht;have k1:=ed hs;have k2:=ed ht;have i1:List.take 8 (ints s.1)=ints s.1:=dm (by rw[cv];omega);have i2:List.take 8 (ints t.1)=ints t.1:=dm (by rw[cv];omega);have e0:(0:Int) - z= -z:=by omega
 refine dq Tryz.func221 14 0 ?_;refine bw (aB ls lt) ?_
 repeat refine ag ?_
 refine Draw.freeze [1,2] (by kernel_rfl) ?_;simp -dsimp(disch:=omega) only[k1,oJ,p5,ls,g1,Option.isSome_none,i1,Int.reduceToNat,↓reduceIte,Nat.reduceMul,Nat.reduceSub,reduceLT,reduceLeDiff,ru]
 repeat refine ag ?_
 simp -dsimp(disch:=omega) only[k2,oJ,p5,lt,g2,Option.isSome_none,i2,Int.reduceToNat,↓reduceIte,Nat.reduceMul,Nat.reduceSub,reduceLT,reduceLeDiff,ru]
 repeat refine ag ?_
 refine aN ?_;refine gp h1 (by simp[bJ,eT,eo,dZ]) ?_;refine ae e0 ?_
 repeat refine ag ?_
 refine a_ rfl
theorem oU {p:List Tm} {i:Nat} (h:i<p.length):(av (p.map tn)).getD i []=gC (tn p[i]):=by
 rw[cE (by rw[length_map];exact h),p9 h]
theorem NX (l:List Tm):l.filter ot=l.filter (fun t=>decide (t.2≠0)):=rfl
theorem L5 (ts:List RT) (h8:TsOk 1000000000 ts) (hb:PB 1000000000 (ts.map tq)) (hn:ts.length<=1000000000) (hs:(nf (ts.map tq)).length<=bk):
 Den Tryz.prog 185 [] [PL ts] [] (PL ((nf (ts.map tq)).map tn)):=by
 have rl:=aw ts
 obtain⟨n,b8⟩:=ax ts.length
 rw[b8] at rl hn
 obtain⟨T,hT⟩:=ax (ts.map tq)
 have hTl:T.length=n:=by rw[<-hT,length_map,b8]
 have WW:Len8 T:=by rw[<-hT];exact p_ h8.l8
 rw[hT] at hb hs ⊢
 refine dq Tryz.func185 60 0 ?_
 refine bw rl ?_
 repeat refine ag ?_
 refine wl (α:=Nat) (fun i=>⟨[PL ts,.any,.any,.tab 0,.lsl 1 0 (accL (T.take i)).length 11,.any,.any,.any,.any,.any,.any,.any,.any,PL ts,.int .i64 n,.int .i64 i]++replicate 45 .any,[.tab 8 (pJ 0 (accL (T.take i))),.row true (av ((accL (T.take i)).map tn))]⟩) (fun i=>n - i) (fun i=>i<=n) 0 ?_ (dk _) ?_
 .refine eH [0,1] ?_ ?_
  .simp[bh,dF,cw]
   simp[accL]
  simp[d_,fD]
  simp[accL,pJ,av]
 rintro i hi
 have pL:(accL (T.take i)).length<=i:=by
  have:=Ga (T.take i);rw[length_take] at this;omega
 have xQ:=wg (ts:=T.take i) (fun t ht=>WW t (xW ht))
 obtain⟨acc,wV⟩:=ax (accL (T.take i))
 have hbA: ∀ t∈acc,Bd 1000000000 t.2:=by rw[<-wV];exact((hb.take i).accL).bd (by decide)
 rw[wV] at pL xQ ⊢
 obtain⟨K,hK⟩:=ax acc.length
 have rm:=aw (acc.map tn)
 rw[length_map,hK] at rm
 have tkm:=bB (ts:=acc.map tn) (n:=K) (by rw[length_map];omega)
 rw[hK] at pL ⊢
 refine aW ?_
 refine bM ?_ ?_
 .intro h1 h2
  have r1:=cE (ts:=ts) (i:=i) (by omega)
  have aY:=fH (ts:=ts) (i:=i) (by omega)
  have bF:=h8 _ aY
  have cL:T.take (i+1)=T.take i++[tq (ts.getD i mf)]:=by
   rw[List.take_add_one,<-hT,List.getElem?_map,qa,qb (by omega)];rfl
  obtain⟨t,ht⟩:=ax (ts.getD i mf)
  rw[ht] at r1 bF cL
  have WX:=CL (T.take i) (tq t)
  rw[<-cL,wV] at WX
  change accL (T.take (i+1))=accAdd acc t.1 t.2.q at WX
  have hm:=bF.len
  have Zb:=bF.rng
  have KG:=aU hm
  have fl:=aJ hm
  have c8:=ed hm
  have cl:=aH hm
  have ml:=bW t.1
  rw[hm] at ml
  have m8:=jL hm
  have cc:=d6 hm
  have agD:(∀ x∈t.1,-9223372036854775808<=x/\x<9223372036854775808):=fun x hx=>by have:=Zb x hx;omega
  by_cases hk:t.1∈acc.map (·.1)
  .obtain⟨j,hj,M4,Bq,Po,wS⟩:=C8 (k:=0) t.2.q hk
   rw[Nat.zero_add] at Bq
   have r2:=oU hj
   have hmj:=xQ _ (lY hj)
   have hbj:=hbA _ (lY hj)
   have bn:=oQ acc j (t.1,acc[j].2+t.2.q)
   rw[<-Po] at bn wS
   obtain⟨u,hu⟩:=ax (acc[j])
   rw[hu] at r2 hmj hbj bn M4
   have yS:=Lr (cn u.2) t.2 (bj hbj) bF.raw
   rw[cu] at yS
   change Den Tryz.prog 69 [] [.agg (cn u.2).c,.agg t.2.c] [] (.agg (cn (u.2+t.2.q)).c) at yS
   change _=av _ at bn
   have htu:(tn u).1.length=8:=hmj
   have pf:=GD (r:=cn (u.2+t.2.q)) htu
   change _=gC (u.1,cn (u.2+t.2.q)) at pf
   rw[M4] at pf
   change (av (acc.map tn)).set j (gC (t.1,cn (u.2+t.2.q)))=_ at bn
   have flu:=aJ htu
   have cfu:=GF htu
   change List.take 3 (List.drop 8 (gC (tn u)))=(cn u.2).f at cfu
   obtain⟨z,hz⟩:=ax (cn (u.2+t.2.q))
   rw[hz] at yS pf bn
   have pf2:List.take 8 (gC (tn u))++(z.f++List.drop (8+z.f.length) (gC (tn u)))=gC (t.1,z):=by
    rw[<-append_assoc];exact pf
   have aF:(accAdd acc t.1 t.2.q).length=K:=by rw[Po,length_set,hK]
   have hjK:j<K:=by omega
   simp -dsimp(disch:=omega) only[h2,r1,KG,dI,fl,c8,cl,rl,append_nil,hm,Bq,Option.getD_some,Option.isSome_some,↓reduceIte,reduceAdd,reduceLT,reduceLeDiff,ru]
   repeat refine ag ?_
   refine dw (by kernel_rfl) ?_
   refine ae (eU r2 rm flu cfu @Gi cl cc) ?_
   repeat refine ag ?_
   refine xL yS ?_
   refine ae (bu @fG @da @cz r2 rm flu @zA @append_nil.{0}) ?_
   repeat refine ag ?_
   refine aA (i+1) ?_ (by omega)
   rw[WX,aF,<-wS]
   refine eH [0,1] ?_ ?_
   .simp[bh,dF,cw]
   simp[d_,fD]
   rw[pf2,bn]
  have Bq:=C7 (k:=0) hk
  have bS:=GC (k:=0) (q:=t.2.q) hk
  rw[Nat.zero_add,hK] at bS
  have Po:=zL (q:=t.2.q) hk
  have Fg:=Qw t.2 (bF.raw.mono (by decide))
  change Den Tryz.prog 68 [] [.agg t.2.c] [] (.agg (cn t.2.q).c) at Fg
  have bO:=dT (acc.map tn) (tn (t.1,t.2.q))
  rw[<-lG,<-Po] at bO
  rw[<-Po] at bS
  change av (acc.map tn)++[gC (t.1,cn t.2.q)]=_ at bO
  obtain⟨z,hz⟩:=ax (cn t.2.q)
  rw[hz] at Fg bO
  have aF:(accAdd acc t.1 t.2.q).length=K+1:=by rw[Po,qe,hK];rfl
  have tz:((t.1,z):RT).1.length=8:=hm
  have Tl:=cW tz
  have clz:=aH tz
  have q4:=aU tz
  have flz:=aJ tz
  have bl:=yG hm (.fv (.lit (.bool false))) PV.nilsl PV.nilsl
  have pc:=El hm (.fv (.lit (.bool false))) PV.nilsl PV.nilsl z
  simp -dsimp(disch:=omega) only[h2,r1,KG,dI,fl,c8,cl,rl,append_nil,hm,Bq,Option.getD_none,Option.isSome_none,bS,still,↓reduceIte,reduceAdd,reduceLT,reduceLeDiff,ru]
  repeat refine ag ?_
  refine dw (by kernel_rfl) ?_
  refine ae (bA c8 cl cc) ?_
  repeat refine ag ?_
  refine xL Fg ?_
  refine ae (bu @fG @da @cz ml bl pc clz (eU q4 @cT @c_ rm tkm bO @append_nil.{0})) ?_
  repeat refine ag ?_
  refine aA (i+1) ?_ (by omega)
  rw[WX,aF]
  exact bx [0,4]
 intro h1 h2
 have WC:T.take i=T:=dm (by omega)
 rw[WC] at wV
 have lW:pr T=acc.filter ot:=by rw[NX,<-wV];rfl
 have KI:=Gh WW
 rw[lW] at KI
 have W7:=aeO acc xQ hbA (by omega)
 rw[hK] at W7
 obtain⟨out,cG⟩:=ax (acc.filter ot)
 rw[cG] at lW KI W7
 have ho8: ∀ t∈out.map tn,t.1.length=8:=fun t ht=>by
  obtain⟨u,hu,rfl⟩:=mem_map.1 ht;rw[<-cG] at hu;exact xQ u (List.mem_filter.1 hu).1
 obtain⟨ls',hp,hso,KJ⟩:=Yx 221 (.agg #[.int .i64 8]) (.lit (.int .i64 8)) rfl (out.map tn) ho8 (by rw[length_map];omega) (fun s hs t ht=>aeP s t (ho8 s hs) (ho8 t ht))
 have au:ls'=(nf T).map tn:=by
  have h5:(ls'.map tq).Perm (pr T):=by
   rw[lW];have:=hp.map tq;rw[bE] at this;exact this
  have h6:(ls'.map tq).Pairwise (fun a b=>ig b.1 a.1=false):=by
   rw[List.pairwise_map];refine hso.imp ?_;intro a b vL;have: ¬ig b.1 a.1=true:=vL;exact Bool.eq_false_iff.2 this
  rw[<-LL WW h5 h6,List.map_map]
  conv=>lhs;rw[<-List.map_id ls']
  refine List.map_congr_left (fun t ht=>?_);obtain⟨w,_,rfl⟩:=mem_map.1 (hp.mem_iff.1 ht);show tn w=tn (tq (tn w));rw[Rb]
 rw[au] at KJ
 obtain⟨O,WY⟩:=ax out.length
 rw[WY] at KI W7
 have nt:((nf T).map tn).length=O:=by rw[length_map,<-KI]
 have tkf:=bB (ts:=(nf T).map tn) (n:=O) (by omega)
 have rf:=aw ((nf T).map tn)
 rw[nt] at rf
 rw[length_map,WY] at KJ
 have hfa: ∀ cs l (H:List Ob),s4 H (.agg cs::l)=none:=fun cs l H=>by simp[s4,eo,dZ]
 refine ae h2 ?_
 refine eG 1 W7 trivial ?_
 have dP:lent 1 2 0=1:=rfl
 refine ae (dR @Rc hfa dP @append_nil.{0}) ?_
 refine eG 1 KJ trivial ?_
 refine ae (aB @Rc @append_nil.{0}) ?_
 refine a_ ?_
 exact kT (aB tkf rf)
theorem L6 {ts:List RT} (h: ∀ t∈ts,t.1.length=8):(∀ y,y∈av ts->y.length=11)=True:=by
 refine eq_true (fun y hy=>?_);obtain⟨t,ht,rfl⟩:=mem_map.1 hy;exact aJ (h t ht)
theorem YB (ts:List RT) (h8: ∀ t∈ts,t.1.length=8) (hn:ts.length<=1000000000):Den Tryz.prog 186 [] [PL ts] [.row true (av ts)] (.lsl 0 0 ts.length 11):=by
 cases ts with
 | nil=>
  show Den Tryz.prog 186 [] ([]++ .fv (.sl [])::[]) [.row true []] (.lsl 0 0 0 11);refine Den.empty' ?_ (fun b o cap=>?_)
  .show Den Tryz.prog 186 [] [.nilsl] [.row true []] (.lsl 0 0 0 11);refine MY Lf Lg Tryz.func186 (cd:=_) rfl (by decide) rfl (n:=7) rfl rfl ?_ 11 (by decide);refine bw @xK ?_;exact⟨_,rfl,cK,cK⟩
  .show Den Tryz.prog 186 [] [.fv (.lit (.slice (some ⟨b,o,none⟩) 0 cap))] [.row true []] (.lsl 0 0 0 11);refine dq Tryz.func186 7 0 ?_;refine aW ?_;exact RetOK.own rfl ⟨cK,cK⟩ rfl
 | cons a t=>
  have h11:=L6 h8;have rl:=aw (a::t);show Den Tryz.prog 186 [] [.fv (.sl (av (a::t)))] [.row true (av (a::t))] (.lsl 0 0 (a::t).length 11);have e:av (a::t)=gC a::av t:=rfl;rw[e] at h11 rl ⊢;obtain⟨n,b8⟩:=ax ((a::t).length);rw[b8] at rl hn ⊢;obtain⟨us,gX⟩:=ax (gC a::av t);have A':us.length=n:=by rw[<-gX];exact rl
  refine dq Tryz.func186 7 0 ?_;refine aW ?_;rw[gX] at h11 ⊢;have WL:(av t).length+1=n:=by simpa using rl
  refine ae (aB h11 WL) ?_;refine⟨⟨by omega,by omega⟩,?_⟩;exact RetOK.own rfl ⟨cK,cK⟩ rfl
theorem NY (a b:List RT):av a++av b=av (a++b):=by simp[av]
theorem aeQ (ps qs:List RT) (h8:TsOk 1000000000 ps) (h8q:TsOk 1000000000 qs) (hb:PB 1000000000 ((ps++qs).map tq)) (hn:ps.length<=400000000) (Uo:qs.length<=400000000) (hs:(nf ((ps++qs).map tq)).length<=bk):
 Den Tryz.prog 139 [] [PL ps,PL qs] [] (PL ((nf ((ps++qs).map tq)).map tn)):=by
 have Tt:=YB ps h8.l8 (by omega)
 have yt:=L5 (ps++qs) (fun t ht=>by
  rcases List.mem_append.1 ht with h | h
  .exact h8 t h
  exact h8q t h) hb (by rw[qe];omega) hs
 have bO:=NY ps qs
 have lp:=aw ps
 have lq:=aw qs
 have la:=aw (ps++qs)
 rw[qe] at la
 have tp:=bB (ts:=ps) (n:=ps.length) (qp _)
 have ta:=bB (ts:=ps++qs) (n:=ps.length+qs.length) (by rw[qe];omega)
 have q11:=L6 h8q.l8
 obtain⟨R,hR⟩:=ax ((nf ((ps++qs).map tq)).map tn)
 rw[hR] at yt ⊢
 refine dq Tryz.func139 8 0 ?_
 refine aW ?_
 refine aM Tt ?_
 refine ae (fO tp lp lq q11 @append_nil.{0}) ?_
 refine⟨⟨by omega,by omega,by omega⟩,?_⟩
 refine ae bO ?_
 refine gp yt (by simp[bJ,eT,eo,dZ,ta,la]) ?_
 refine aN ?_
 refine a_ rfl
theorem dG (p:List Tm) (r:Rat):(cH p r).length=p.length:=by simp[cH]
def tx (p:List Tm) (r:Rat) (i:Nat):List Tm:=cH (p.take i) r++p.drop i
theorem GG (p:List Tm) (r:Rat) {i:Nat} (h:i<=p.length):(tx p r i).length=p.length:=by
 unfold tx;rw[qe,dG,length_take,length_drop];omega
theorem U5 {p:List Tm} {r:Rat} {i:Nat} (h:i<p.length):(tx p r i).getD i ([],0)=p[i]:=by
 have e:(cH (p.take i) r).length=i:=by rw[dG,length_take];omega
 unfold tx;rw[qa,getElem?_append_right (by omega),e,Nat.sub_self,List.getElem?_drop,qb (by omega)];rfl
theorem NZ {p:List Tm} {r:Rat} {i:Nat} (h:i<p.length):(tx p r i).set i (p[i].1,p[i].2*r)=tx p r (i+1):=by
 have e:(cH (p.take i) r).length=i:=by rw[dG,length_take];omega
 unfold tx;rw[List.set_append_right _ _ (by omega),e,Nat.sub_self,drop_eq_getElem_cons h,set_cons_zero];unfold cH;rw[List.take_add_one,qb h,tY,append_assoc];rfl
theorem N0 (p:List Tm) (r:Rat):tx p r p.length=cH p r:=by
 unfold tx;rw[List.take_length,List.drop_length,append_nil]
theorem Rh {p:List Tm} {r:Rat} {j k:Nat} (h: ∀ t∈p,Bd j t.2) (hr:Bd k r) (hk:1<=j+k): ∀ t∈cH p r,Bd (j+k) t.2:=fun t ht=>by
 obtain⟨u,hu,rfl⟩:=mem_map.1 ht;exact Bd.mul (h u hu) hr hk
theorem POk.scale {j k:Nat} {E:Int} {p:List Tm} {r:Rat} (h:POk j E p) (hr:Bd k r) (hk:1<=j+k) (h0:r≠0):POk (j+k) E (cH p r):=by
 refine⟨⟨?_,?_,Len8.scale h.canon.len⟩,Rh h.bd hr hk,?_⟩
 .unfold cH;rw[List.pairwise_map];exact h.canon.sorted
 .intro t ht;obtain⟨u,hu,rfl⟩:=mem_map.1 ht;have:=h.canon.nz u hu;exact fun h2=>by
   rcases Rat.mul_eq_zero.1 h2 with h3 | h3
   .exact this h3
   exact h0 h3
 intro t ht e he;obtain⟨u,hu,rfl⟩:=mem_map.1 ht;exact h.exp u hu e he
theorem aeR (p:List Tm) (r:Rat) (hp:POk 10000000 1000000 p) (hr:Bd 10000 r) (h0:r≠0) (hn:p.length<=50) (hs:p.length<=bk):
 Den Tryz.prog 163 [] [PL (p.map tn),.agg (cn r).c] [] (PL ((cH p r).map tn)):=by
 have hTs:=hp.ts (by decide)
 have ni:=hp.scale hr (by decide) h0
 have hTp:=ni.ts (by decide)
 have Tt:=YB (p.map tn) hTs.l8 (by rw[length_map];omega)
 rw[length_map] at Tt
 have yt:=L5 ((cH p r).map tn) (fun t ht=>(hTp t ht).mono (by decide)) (by
  rw[bE];exact PB.terms (n:=50) (by decide) ni.bd (by rw[dG];exact hn) (by decide)) (by rw[length_map,dG];omega) (by rw[bE,e_ ni.canon,dG];exact hs)
 rw[bE,e_ ni.canon] at yt
 obtain⟨n,b8⟩:=ax p.length
 rw[b8] at Tt
 have mM:=N0 p r
 rw[b8] at mM
 have hM0:tx p r 0=p:=rfl
 have rT:=aw ((cH p r).map tn)
 rw[length_map,dG,b8] at rT
 have tkT:=bB (ts:=(cH p r).map tn) (n:=n) (by rw[length_map,dG];omega)
 refine dq Tryz.func163 26 0 ?_
 refine bw @cz ?_
 repeat refine ag ?_
 refine aM Tt ?_
 refine aN ?_
 refine wl (α:=Nat) (fun i=>⟨[.any,.any,.any,.ptr 0 0 0,.any,.lsl 1 0 n 11,.any,.any,.any,.any,.int .i64 n,.int .i64 i]++replicate 16 .any,[.box true (cn r).c,.row true (av ((tx p r i).map tn))]⟩) (fun i=>n - i) (fun i=>i<=n) 0 ?_ (dk _) ?_
 .rw[hM0]
  refine eH [0,1] ?_ ?_
  .simp[bh,dF,cw]
  simp[d_,fD,aex]
 intro i hi
 have hML:=GG p r (i:=i) (by omega)
 rw[b8] at hML
 have rm:=aw ((tx p r i).map tn)
 rw[length_map,hML] at rm
 refine aW ?_
 refine bM ?_ ?_
 .intro h1 h2
  have dJ:i<p.length:=by omega
  have r1:=wt (p:=tx p r i) (i:=i) (by omega)
  rw[U5 dJ] at r1
  have aY:p[i]∈p:=lY dJ
  have Kv:=hp.bd _ aY
  have hm:=hp.canon.len _ aY
  have bn:=oQ (tx p r i) i (p[i].1,p[i].2*r)
  rw[NZ dJ] at bn
  obtain⟨t,ht⟩:=ax (p[i])
  rw[ht] at r1 Kv hm bn
  have Bs:=Qy (cn t.2) (cn r) ((bj Kv).mono (by decide)) ((bj hr).mono (by decide))
  rw[cu,cu] at Bs
  change Den Tryz.prog 70 [] [.agg (cn t.2).c,.agg (cn r).c] [] (.agg (cn (t.2*r)).c) at Bs
  have WH:(tn t).1.length=8:=hm
  have pf:=GD (r:=cn (t.2*r)) WH
  change _=gC (t.1,cn (t.2*r)) at pf
  change (av ((tx p r i).map tn)).set i (gC (t.1,cn (t.2*r)))=_ at bn
  have fl:=aJ WH
  have cf:=GF WH
  change List.take 3 (List.drop 8 (gC (tn t)))=(cn t.2).f at cf
  obtain⟨z,hz⟩:=ax (cn (t.2*r))
  rw[hz] at Bs pf bn
  obtain⟨y,hy⟩:=ax (cn r)
  rw[hy] at Bs ⊢
  have pf2:List.take 8 (gC (tn t))++(z.f++List.drop (8+z.f.length) (gC (tn t)))=gC (t.1,z):=by
   rw[<-append_assoc];exact pf
  refine ae h2 ?_
  refine dw (by kernel_rfl) ?_
  refine ae (eU r1 rm fl cf @Gi @cz @tu) ?_
  repeat refine ag ?_
  refine xL Bs ?_
  refine ae (bu @fG @da @cz r1 rm fl @zA @append_nil.{0}) ?_
  repeat refine ag ?_
  refine aA (i+1) ?_ (by omega)
  refine eH [0,1] ?_ ?_
  .simp[bh,dF,cw]
  simp[d_,fD,aex]
  rw[pf2,bn]
 intro h1 h2
 have f0:i=n:=by omega
 subst f0
 rw[mM]
 refine ae h2 ?_
 refine gp yt (by simp[bJ,eT,eo,dZ,tkT,rT]) ?_
 refine aN ?_
 refine a_ rfl
theorem aeS (p:List Tm) (hp:POk 10000000 1000000 p) (hn:p.length<=50) (hs:p.length<=bk):
 Den Tryz.prog 140 [] [PL (p.map tn)] [] (PL ((cH p (-1)).map tn)):=by
 have Cj:=zg (-1) (by omega)
 have abm:=aeR p (-1) hp (Bd.mono (j:=1) (Go.Pl.bd_int (x:= -1) (by decide)) (by decide)) (by decide) hn hs
 change Den Tryz.prog 74 [] [.int .i64 (-1)] [] (.agg (cn (-1)).c) at Cj
 obtain⟨z,hz⟩:=ax (cn (-1))
 rw[hz] at Cj abm
 obtain⟨P,hP⟩:=ax (p.map tn)
 obtain⟨Q,hQ⟩:=ax ((cH p (-1)).map tn)
 rw[hP,hQ] at abm
 rw[hP,hQ]
 refine dq Tryz.func140 5 0 ?_
 refine aW ?_
 refine aM Cj ?_
 refine ae (aB @da @append_nil.{0}) ?_
 refine aM abm ?_
 refine aN ?_
 refine a_ rfl
theorem Em:Bd 1 (-1:Rat):=Go.Pl.bd_int (x:= -1) (by decide)
structure LOkT (k:Nat) (E:Int) (p:List Tm):Prop where
 len:Len8 p
 bd: ∀ t∈p,Bd k t.2
 exp: ∀ t∈p,∀ e∈t.1,0<=e/\e<=E
theorem POk.l {k:Nat} {E:Int} {p:List Tm} (h:POk k E p):LOkT k E p:=⟨h.canon.len,h.bd,h.exp⟩
theorem LOkT.ts {k:Nat} {E:Int} {p:List Tm} (h:LOkT k E p) (hE:E<=1000000000000):TsOk k (p.map tn):=fun t ht=>by
 obtain⟨u,hu,rfl⟩:=mem_map.1 ht;exact⟨h.len u hu,fun x hx=>by have:=h.exp u hu x hx;omega,bj (h.bd u hu)⟩
theorem LOkT.app {k:Nat} {E:Int} {p q:List Tm} (h:LOkT k E p) (hq:LOkT k E q):LOkT k E (p++q):=by
 refine⟨h.len.app hq.len,fun t ht=>?_,fun t ht=>?_⟩<;>rcases List.mem_append.1 ht with h1 | h1
 .exact h.bd t h1
 .exact hq.bd t h1
 .exact h.exp t h1
 exact hq.exp t h1
theorem LOkT.mono {j k:Nat} {E F:Int} {p:List Tm} (h:LOkT j E p) (hk:j<=k) (hE:E<=F):LOkT k F p:=
 ⟨h.len,fun t ht=>(h.bd t ht).mono hk,fun t ht e he=>by have:=h.exp t ht e he;omega⟩
theorem JC (p q:List Tm) (hp:LOkT 10000000 1000000 p) (hq:LOkT 10000000 1000000 q) (hn:p.length<=20) (Uo:q.length<=20) (hs:(nf (p++q)).length<=bk):
 Den Tryz.prog 139 [] [PL (p.map tn),PL (q.map tn)] [] (PL ((nf (p++q)).map tn)):=by
 have e:((p.map tn)++(q.map tn)).map tq=p++q:=by rw[<-tY,bE]
 have h:=aeQ (p.map tn) (q.map tn) (fun t ht=>((hp.ts (by decide)) t ht).mono (by decide)) (fun t ht=>((hq.ts (by decide)) t ht).mono (by decide)) (by
  rw[e];exact PB.terms (n:=40) (j:=10000000) (by decide) (hp.app hq).bd (by rw[qe];omega) (by decide)) (by rw[length_map];omega) (by rw[length_map];omega) (by rw[e];exact hs)
 rw[e] at h
 exact h
theorem ajJ (p q:List Tm) (hp:POk 1000000 1000000 p) (hq:POk 1000000 1000000 q) (hn:p.length<=20) (Uo:q.length<=20) (hqs:q.length<=bk) (hs:(nf (p++cH q (-1))).length<=bk):
 Den Tryz.prog 85 [] [PL (p.map tn),PL (q.map tn)] [] (PL ((nf (p++cH q (-1))).map tn)):=by
 have h1:=aeS q (hq.mono (by decide) (by decide)) (by omega) hqs
 have h2:=JC p (cH q (-1)) (hp.mono (by decide) (by decide)).l ((hq.scale Em (by decide) (by decide)).mono (by decide) (by decide)).l hn (by rw[dG];exact Uo) hs
 obtain⟨P,hP⟩:=ax (p.map tn)
 obtain⟨Q,hQ⟩:=ax (q.map tn)
 obtain⟨N,hN⟩:=ax ((cH q (-1)).map tn)
 obtain⟨R,hR⟩:=ax ((nf (p++cH q (-1))).map tn)
 rw[hQ,hN] at h1
 rw[hP,hN,hR] at h2
 rw[hP,hQ,hR]
 refine dq Tryz.func85 7 0 ?_
 refine aW ?_
 refine aM h1 ?_
 refine aN ?_
 refine aM h2 ?_
 refine aN ?_
 refine a_ rfl
def mX (a b:Mn) (i:Nat):Mn:=fe (a.take i) (b.take i)++a.drop i
theorem mq {a b:Mn} {i:Nat} (ha:a.length=8) (hb:b.length=8) (hi:i<=8):(mX a b i).length=8:=by
 unfold mX fe;rw[qe,length_zipWith,length_take,length_take,length_drop];omega
theorem L7 {a b:Mn} {i:Nat} (ha:a.length=8) (hb:b.length=8) (hi:i<8):(mX a b i).getD i 0=a.getD i 0:=by
 have e:(fe (a.take i) (b.take i)).length=i:=by
  unfold fe;rw[length_zipWith,length_take,length_take];omega
 unfold mX;rw[qa,getElem?_append_right (by omega),e,Nat.sub_self,List.getElem?_drop,qa];rfl
theorem C9 {a b:Mn} {i:Nat} (ha:a.length=8) (hb:b.length=8) (hi:i<8):(mX a b i).set i (a.getD i 0+b.getD i 0)=mX a b (i+1):=by
 have e:(fe (a.take i) (b.take i)).length=i:=by
  unfold fe;rw[length_zipWith,length_take,length_take];omega
 unfold mX;rw[List.set_append_right _ _ (by omega),e,Nat.sub_self,drop_eq_getElem_cons (i:=i) (by omega),set_cons_zero];rw[List.take_add_one,qb (l:=a) (by omega),List.take_add_one,qb (l:=b) (by omega)];unfold fe;rw[List.zipWith_append (by rw[length_take,length_take];omega),append_assoc];rw[qa,qb (by omega),qa,qb (by omega)];rfl
theorem wv {a b:Mn} (ha:a.length=8) (hb:b.length=8):mX a b 8=fe a b:=by
 unfold mX;rw[dm (by omega),dm (by omega),List.drop_of_length_le (by omega),append_nil]
theorem L8 (H:List Ob) (keep:List Nat): ∀ m:List Int,vn H keep (mC m)=some (mC m)
 | []=>rfl
 | n::m=>by
  have ih:=L8 H keep m;unfold mC at ih ⊢;simp only[map_cons,vn,ih];rfl
theorem aeT (a b:Mn) (ha:a.length=8) (hb:b.length=8) (ra: ∀ x∈a,0<=x/\x<=1000000) (rb: ∀ x∈b,0<=x/\x<=1000000):
 Den Tryz.prog 188 [] [.agg (mC a),.agg (mC b)] [] (.agg (mC (fe a b))):=by
 have la:=bW a
 have lb:=bW b
 rw[ha] at la
 rw[hb] at lb
 have ta:=jL ha
 have tb:=jL hb
 have hd:=wv ha hb
 have h0:mX a b 0=a:=by simp[mX,fe]
 refine dq Tryz.func188 17 0 ?_
 refine bw (aB la lb) ?_
 repeat refine ag ?_
 refine wl (α:=Nat) (fun i=>⟨[.any,.any,.ptr 0 0 0,.ptr 1 0 0,.ptr 2 0 0,.any,.int .i64 i]++replicate 12 .any,[.box true (mC (mX a b i)),.box true (mC b),.box true (mC z8)]⟩) (fun i=>8 - i) (fun i=>i<=8) 0 ?_ (dk _) ?_
 .rw[h0]
  refine eH [0,1,2] ?_ ?_
  .simp[bh,dF,cw]
  simp[d_,fD,uD]
  exact uD _ z8
 intro i hi
 have lI:=bW (mX a b i)
 rw[mq ha hb hi] at lI
 refine aW ?_
 refine bM ?_ ?_
 .intro h1 h2
  have a1:=CU (m:=mX a b i) (i:=i) (by rw[mq ha hb hi];omega)
  rw[L7 ha hb (by omega)] at a1
  have b1:=CU (m:=b) (i:=i) (by omega)
  have bS:=Jp (m:=mX a b i) (i:=i) (x:=a.getD i 0+b.getD i 0) (by rw[mq ha hb hi];omega)
  rw[C9 ha hb (by omega)] at bS
  have ga:=jX (by decide) ra i
  have gb:=jX (by decide) rb i
  obtain⟨x,hx⟩:=ax (a.getD i 0)
  obtain⟨y,hy⟩:=ax (b.getD i 0)
  rw[hx] at a1 bS ga
  rw[hy] at b1 bS gb
  refine ae h2 ?_
  refine dw (by kernel_rfl) ?_
  refine ae (dN a1 b1 lI lb @Nat.mul_one bS) ?_
  repeat refine ag ?_
  refine aA (i+1) ?_ (by omega)
  refine eH [0,1,2] ?_ ?_
  .simp[bh,dF,cw]
  simp[d_,fD,uD]
 intro h1 h2
 have pC:i=8:=by omega
 subst pC
 rw[hd]
 have ld:=bW (fe a b)
 rw[iA ha hb] at ld
 have td:=jL (iA ha hb)
 have lz:(mC z8).length=8:=rfl
 have dz:List.drop 8 (mC z8)=[]:=rfl
 refine ae (dN h2 ld td lz dz @append_nil.{0}) ?_
 repeat refine ag ?_
 refine O7 rfl ⟨⟨rfl,by rw[ld];exact qp 8⟩,cK⟩ ?_
 show t6 _ [] (.agg (List.take 8 (mC (fe a b))))=_
 rw[td]
 show(vn _ [] (mC (fe a b))).map PV.agg=_
 rw[L8]
 rfl
end Go.Proofs.YtjjbkjgifdhlcaaGreat
