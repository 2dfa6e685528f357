/- Contracts:slices of forms:insertion sort. -/
import Derived.Test.YtjjbkjgifdhlcaaGreatT13
import Derived.Test.YtjjbkjgifdhlcaaGreatT8
import Derived.Test.YtjjbkjgifdhlcaaGreatT11
import Derived.Test.YtjjbkjgifdhlcaaGreatT12
import Derived.Test.YtjjbkjgifdhlcaaGreatT1
set_option linter.all false
open Nat (reduceAdd reduceLT reduceLeDiff)
open List (append_assoc append_nil drop_eq_getElem_cons eq_of_mem_replicate filter_append getElem?_append_right length_cons length_drop length_map length_nil length_set length_take length_zipWith map_cons mem_cons_of_mem mem_map mem_or_eq_of_mem_set replicate set_cons_zero)
namespace Go.Proofs.YtjjbkjgifdhlcaaGreat
open Go.AM Go.Pl
set_option maxRecDepth 100000
set_option maxHeartbeats 4000000
def au (ls:List (List Raw)):List (List FV):=ls.map cO
theorem ay (ls:List (List Raw)):(au ls).length=ls.length:=by simp[au]
theorem bK (ls:List (List Raw)) (i:Nat):(au ls).getD i []=cO (ls.getD i []):=by
 by_cases h:i<ls.length
 .simp[au,qa,h]
 simp[au,qa,List.getElem?_eq_none (show ls.length<=i by omega),cO]
theorem aO: ∀ rs:List Raw,(cO rs).length=3*rs.length
 | []=>rfl
 | r::rs=>by simp only[cO,length_cons,aO rs];omega
theorem qg (ls:List (List Raw)) (i:Nat) (x:List Raw):(au ls).set i (cO x)=au (ls.set i x):=by simp[au,List.map_set]
def AOk (k:Nat) (ls:List (List Raw)):Prop:= ∀ l∈ls,LOk k l
theorem AOk.at {k:Nat} {ls:List (List Raw)} (h:AOk k ls) {i:Nat} (hi:i<ls.length):LOk k (ls.getD i []):=by
 rw[qa,qb hi];exact h _ (ki hi)
def s7 (ls:List (List Raw)) (j:Nat):List (List Raw):=(ls.set j (ls.getD (j - 1) [])).set (j - 1) (ls.getD j [])
theorem s8 (ls:List (List Raw)) (j:Nat):(s7 ls j).length=ls.length:=by simp[s7]
theorem iZ {ls:List (List Raw)} {j:Nat} (h0:0<j) (hj:j<ls.length) (q:Nat):(s7 ls j).getD q []=if q=j then ls.getD (j - 1) [] else if q=j - 1 then ls.getD j [] else ls.getD q []:=by
 unfold s7;simp only[qa,List.getElem?_set,length_set];by_cases h1:q=j
 .subst h1;rw[if_neg (by omega),if_pos rfl,if_pos hj,if_pos rfl];rfl
 rw[if_neg h1];by_cases h2:q=j - 1
 .subst h2;rw[if_pos rfl,if_pos (by omega),if_pos rfl];rfl
 rw[if_neg (fun h=>h2 h.symm),if_neg (fun h=>h1 h.symm),if_neg h2]
theorem o6 {ls:List (List Raw)} {f:List Raw}:f∈ls↔ ∃ i,i<ls.length/\ls.getD i []=f:=by
 rw[List.mem_iff_getElem];constructor
 .rintro⟨i,hi,rfl⟩;exact⟨i,hi,by rw[qa,qb hi];rfl⟩
 rintro⟨i,hi,h⟩;rw[qa,qb hi] at h;exact⟨i,hi,h⟩
theorem Me {ls:List (List Raw)} {j:Nat} (h0:0<j) (hj:j<ls.length) (f:List Raw):f∈s7 ls j↔f∈ls:=by
 rw[o6,o6,s8];constructor
 .rintro⟨q,hq,h⟩;rw[iZ h0 hj] at h;by_cases h1:q=j
  .rw[if_pos h1] at h;exact⟨j - 1,by omega,h⟩
  rw[if_neg h1] at h;by_cases h2:q=j - 1
  .rw[if_pos h2] at h;exact⟨j,hj,h⟩
  rw[if_neg h2] at h;exact⟨q,hq,h⟩
 rintro⟨q,hq,h⟩;by_cases h1:q=j
 .subst h1;exact⟨q - 1,by omega,by rw[iZ h0 hj,if_neg (by omega),if_pos rfl];exact h⟩
 by_cases h2:q=j - 1
 .subst h2;exact⟨j,hj,by rw[iZ h0 hj,if_pos rfl];exact h⟩
 exact⟨q,hq,by rw[iZ h0 hj,if_neg h1,if_neg h2];exact h⟩
def Srt (ls:List (List Raw)) (i j:Nat):Prop:= ∀ p q,p<q->q<=i->q≠j->bV (ls.getD p []) (ls.getD q [])<=0
theorem Pq {ls:List (List Raw)} {i j:Nat} (wt:0<j) (AI:j<=i) (hi:i<ls.length) (h:Srt ls i j) (hc:bV (ls.getD j []) (ls.getD (j - 1) [])<0):Srt (s7 ls j) i (j - 1):=by
 intro p q wY Hp hq;rw[iZ wt (by omega),iZ wt (by omega)];by_cases h1:q=j
 .subst h1;rw[if_pos rfl,if_neg (by omega: ¬p=q)];by_cases h2:p=q - 1
  .rw[if_pos h2];omega
  rw[if_neg h2];exact h p (q - 1) (by omega) (by omega) (by omega)
 rw[if_neg h1,if_neg hq];by_cases h2:p=j
 .rw[if_pos h2];exact h (j - 1) q (by omega) Hp h1
 rw[if_neg h2];by_cases h3:p=j - 1
 .rw[if_pos h3];exact h j q (by omega) Hp h1
 rw[if_neg h3];exact h p q wY Hp h1
theorem EZ {k:Nat} {ls:List (List Raw)} {i j:Nat} (bg:AOk k ls) (hi:i<ls.length) (AI:j<=i) (h:Srt ls i j) (hc:j=0\/0<=bV (ls.getD j []) (ls.getD (j - 1) [])): ∀ p q,p<q->q<=i->bV (ls.getD p []) (ls.getD q [])<=0:=by
 intro p q wY Hp;by_cases hq:q=j
 .subst hq;rcases hc with h0 | h0
  .omega
  rw[dM] at h0;have h1:bV (ls.getD (q - 1) []) (ls.getD q [])<=0:=by omega
  by_cases hp:p=q - 1
  .rw[hp];exact h1
  have h2:=h p (q - 1) (by omega) (by omega) (by omega);exact ni _ _ _ (by rw[(bg.at (i:=p) (by omega)).len,(bg.at (i:=q - 1) (by omega)).len]) (by rw[(bg.at (i:=q - 1) (by omega)).len,(bg.at (i:=q) (by omega)).len]) h2 h1
 exact h p q wY Hp hq
theorem nB {rs:List Raw} (h:rs.length=9):List.drop 27 (cO rs)=[]:=List.drop_of_length_le (by rw[aO];omega)
theorem aF {rs:List Raw} (h:rs.length=9):List.take 27 (cO rs)=cO rs:=eo (by rw[aO];omega)
structure Pr (ls ls':List (List Raw)):Prop where
 len:ls'.length=ls.length
 mem: ∀ f,f∈ls'↔f∈ls
 ord: ∀ p q,p<q->q<ls'.length->bV (ls'.getD p []) (ls'.getD q [])<=0
abbrev HU:PV:= .fv (.lit (.func (.func 201) #[] #[]))
theorem AOk.of_mem {k:Nat} {ls ls':List (List Raw)} (h:AOk k ls) (hm: ∀ f,f∈ls'↔f∈ls):AOk k ls':=fun l hl=>h l ((hm l).1 hl)
theorem acN (ls:List (List Raw)) (bg:AOk 1000000000 ls) (hn:ls.length<=1000):
 ∃ H1 res,(fun H1 res=> ∃ ls',H1=[.row true (au ls')]/\res=PV.tup []/\Pr ls ls') H1 res/\Den Tryz.prog 259 [.row true (au ls)] [.lsl 0 0 ls.length 27,.int .i64 0,.int .i64 ls.length,HU] H1 res:=by
 obtain⟨n,cP⟩:=ax ls.length
 rw[cP] at hn ⊢
 refine Wb Tryz.func259 49 1 ?_
 refine aY ?_
 refine wl (α:=Nat×List (List Raw)) (fun⟨i,l⟩=>⟨[.lsl 0 0 n 27,.int .i64 0,.int .i64 n,HU,.any,.any,.any,.any,.int .i64 i]++replicate 44 .any,[.row true (au l)]⟩)
  (fun⟨i,_⟩=>n+1 - i) (fun⟨i,l⟩=>1<=i/\(i<=n\/i=1)/\l.length=n/\(∀ f,f∈l↔f∈ls)/\ ∀ p q,p<q->q<i->q<n->bV (l.getD p []) (l.getD q [])<=0) (1,ls) ?_ ?_ ?_
 .exact bQ [0]
 .exact⟨qp _,Or.inr rfl,cP,fun f=>Iff.rfl,fun p q h1 h2 h3=>by omega⟩
 rintro⟨i,l⟩ ⟨oI,gF,oP,bm,tU⟩
 refine aY ?_
 refine bS ?_ ?_
 .intro h1 h2
  refine ae h2 ?_
  refine wl (α:=Nat×List (List Raw)) (fun⟨j,l⟩=>⟨[.lsl 0 0 n 27,.int .i64 0,.int .i64 n,HU,.any,.any,.any,.any,.int .i64 i,.int .i64 j]++replicate 43 .any,[.row true (au l)]⟩)
   (fun⟨j,_⟩=>j) (fun⟨j,l⟩=>j<=i/\l.length=n/\(∀ f,f∈l↔f∈ls)/\Srt l i j) (i,l) ?_ ?_ ?_
  .exact bQ [0]
  .exact⟨qp _,oP,bm,fun p q h3 h4 h5=>tU p q h3 (by omega) (by omega)⟩
  rintro⟨j,l⟩ ⟨hj,oP,bm,pM⟩
  have Vg:=bg.of_mem bm
  refine aY ?_
  refine dw (by kernel_rfl) ?_
  refine ba ?_
  refine bS ?_ ?_
  .intro h3 h4
   obtain⟨p,rfl⟩: ∃ p,j=p+1:=⟨j - 1,by omega⟩
   have Ch:(((p+1:Nat):Int) - 1)=(p:Int):=by omega
   have hx:=Vg.at (i:=p+1) (by omega)
   have hy:=Vg.at (i:=p) (by omega)
   have bW:=Pd _ _ hx hy
   have r1:=bK l (p+1)
   have r2:=bK l p
   obtain⟨x,mZ⟩:=ax (l.getD (p+1) [])
   obtain⟨y,wZ⟩:=ax (l.getD p [])
   rw[mZ] at hx bW r1
   rw[wZ] at hy bW r2
   have rl:=ay l
   have rB:=aF hx.len
   have uh:=aF hy.len
   have fx:=aO x
   have fy:=aO y
   have lx:=hx.len
   have ly:=hy.len
   unfold RL at bW
   have dx:=nB hx.len
   have dy:=nB hy.len
   have gx:=ah x
   have gy:=ah y
   have Jk:((au l).set (p+1) (cO y)).set p (cO x)=au (s7 l (p+1)):=by
    rw[qg,qg];unfold s7;rw[Nat.add_sub_cancel,mZ,wZ]
   have r3:((au l).set (p+1) (cO y)).getD p []=cO y:=by
    rw[qg,bK,qa,qm (by omega),<-qa,wZ]
   obtain⟨z,hz⟩:=ax (bV x y)
   rw[hz] at bW
   refine b_ (fw h4 Ch r1 r2 rB uh rl) ?_
   repeat refine ag ?_
   refine kO bW ?_
   refine GU ?_
   refine bS ?_ ?_
   .intro h5 h6
    refine ae h6 ?_
    refine dw (by kernel_rfl) ?_
    refine b_ (bT Ch r1 r2 r3 rB uh rl (bT fx fy gx gy lx ly dx (bR dy Jk @length_set.{0}))) ?_
    repeat refine ag ?_
    refine aw (p,s7 l (p+1)) ?_ ⟨by omega,by rw[s8];exact oP,fun f=>by rw[Me (by omega) (by omega),bm],?_⟩
    .exact bQ [0]
    have:=Pq (j:=p+1) (by omega) hj (by omega) pM (by rw[mZ,Nat.add_sub_cancel,wZ,hz];exact h5)
    rwa [Nat.add_sub_cancel] at this
   intro h5 h6
   have hd:=EZ Vg (by omega) hj pM (Or.inr (by rw[mZ,Nat.add_sub_cancel,wZ,hz];omega))
   refine ae h6 ?_
   refine aw (i+1,l) ?_ ⟨by omega,by omega,oP,bm,fun p q h7 h8 h9=>hd p q h7 (by omega)⟩
   exact bQ [0]
  intro h3 h4
  have hd:=EZ Vg (by omega) hj pM (Or.inl (by omega))
  refine ae h4 ?_
  refine aw (i+1,l) ?_ ⟨by omega,by omega,oP,bm,fun p q h7 h8 h9=>hd p q h7 (by omega)⟩
  exact bQ [0]
 intro h1 h2
 refine ae (aP h2 @zn) ?_
 exact⟨[.row true (au l)],.tup [],⟨l,rfl,rfl,by rw[oP,cP],bm,fun p q h3 h4=>tU p q h3 (by omega) (by omega)⟩,sq (cd:=True) (vs:=[]) rfl trivial rfl trivial rfl rfl rfl⟩
theorem acO (x:Nat) (hx:x<256):Den Tryz.prog 245 [] [.int .u64 x] [] (.int .i64 (dZ x:Int)):=by
 have h8: ∀ n:Nat,n<256->(((Lib.len8tab[n]?).getD 0).toNat:Nat)=dZ n:=fun n hn=>Eh ⟨n,hn⟩
 have dX:Lib.len8tab.size=256:=Lib.len8tab_size;have hb8:dZ x<=8:=by
  have: ∀ m:Fin 256,dZ m.val<=8:=by decide+kernel
  exact this ⟨x,hx⟩
 have e1:decide ((x:Int)>=4294967296)=false:=sA;have e2:decide ((x:Int)>=65536)=false:=sA;have e3:decide ((x:Int)>=256)=false:=sA;refine dq Tryz.func245 24 0 ?_;refine bU (fE @Ei @mh e1 e2 e3 h8) ?_;refine⟨by rw[dX];omega,?_⟩;refine bj ?_;refine qR ?_;simp
theorem WC (x:Nat) (hx:x<256):Den Tryz.prog 207 [] [.int .u64 x] [] (.int .i64 (dZ x:Int)):=by
 refine dq Tryz.func207 7 0 ?_;refine aY ?_;refine gp (acO x hx) rfl ?_;refine ba ?_;refine bj rfl
theorem acP (ls ls':List (List Raw)) (lim:Int) (hn:ls.length<=12) (h:Den Tryz.prog 259 [.row true (au ls)] [.lsl 0 0 ls.length 27,.int .i64 0,.int .i64 ls.length,HU] [.row true (au ls')] (.tup [])):
 Den Tryz.prog 235 [.row true (au ls)] [.lsl 0 0 ls.length 27,.int .i64 0,.int .i64 ls.length,.int .i64 lim,HU] [.row true (au ls')] (.tup []):=by
 obtain⟨n,cP⟩:=ax ls.length
 rw[cP] at h hn ⊢
 have e1:decide ((n:Int) - 0<=12)=true:=GV
 refine dq Tryz.func235 143 1 ?_
 refine aY ?_
 refine wl (α:=Unit) (fun _=>⟨[.lsl 0 0 n 27,.int .i64 0,.int .i64 n,.int .i64 lim,HU,.any,.any,.any,.any,.any,.bool true,.bool true]++replicate 136 .any,[.row true (au ls)]⟩)
  (fun _=>0) (fun _=>True) () ?_ trivial ?_
 .exact bQ [0]
 rintro⟨⟩ _
 refine bU e1 ?_
 refine ig 0 h trivial ?_
 refine ae @append_nil.{0} ?_
 exact sq (cd:=True) (vs:=[]) rfl trivial rfl trivial rfl rfl rfl
theorem ahB (ls:List (List Raw)) (bg:AOk 1000000000 ls) (hn:ls.length<=12):
 ∃ ls',Pr ls ls'/\Den Tryz.prog 203 [.row true (au ls)] [.lsl 0 0 ls.length 27,HU] [.row true (au ls')] (.tup []):=by
 obtain⟨H1,res,⟨ls',rfl,rfl,hs⟩,h⟩:=acN ls bg (by omega)
 refine⟨ls',hs,?_⟩
 have h2:=acP ls ls' (dZ ls.length:Int) hn h
 obtain⟨n,cP⟩:=ax ls.length
 rw[cP] at h2 hn ⊢
 refine dq Tryz.func203 12 1 ?_
 refine aY ?_
 refine gp (WC n (by omega)) rfl ?_
 refine ba ?_
 refine ig 0 h2 trivial ?_
 refine ae @append_nil.{0} ?_
 exact sq (cd:=True) (vs:=[]) rfl trivial rfl trivial rfl rfl rfl
theorem acQ (a b:List Raw) (ha:LOk 1000000000 a) (hb:LOk 1000000000 b):Den Tryz.prog 254 [] [RL a,RL b] [] (.bool (bV a b==0)):=by
 have bW:=Pd a b ha hb;have ga:=ah a;have gb:=ah b;have la:=ha.len;have lb:=hb.len;have a27:=ar la;have b27:=ar lb;obtain⟨z,hz⟩:=ax (bV a b);rw[hz] at bW ⊢;unfold RL at bW ⊢;refine dq Tryz.func254 7 0 ?_;refine bU (aP a27 b27) ?_
 repeat refine ag ?_
 refine kO bW ?_;refine GU ?_;refine bj rfl
theorem uR (ts:List RT) (i:Nat) (t:RT):(aq ts).set i (iz t)=aq (ts.set i t):=by simp[aq,List.map_set]
theorem nC {t:RT} (h:t.1.length=8):List.drop 11 (iz t)=[]:=List.drop_of_length_le (by rw[aK h];omega)
abbrev mV (g:Nat) (v:Value):PV:= .fv (.lit (.func (.func g) #[v] #[]))
theorem acR (g:Nat) (v:Value) (u:FV) (hv:PV.ofValue v= .agg [.fv u]) (ls:List RT) (hl: ∀ t∈ls,t.1.length=8) (hn:ls.length<=1000000)
 (Ay: ∀ s∈ls,∀ t∈ls,Den Tryz.prog g [] [.agg [.fv u],.agg (fM s),.agg (fM t)] [] (.int .i64 (-(iY s.1 t.1)))):
 ∃ H1 res,(fun H1 res=> ∃ ls',H1=[.row true (aq ls')]/\res=PV.tup []/\ls'.Perm ls/\ls'.Pairwise (fun a b=>¬Aa b a)) H1 res/\
  Den Tryz.prog 236 [.row true (aq ls)] [.lsl 0 0 ls.length 11,.int .i64 0,.int .i64 ls.length,mV g v] H1 res:=by
 obtain⟨n,cP⟩:=ax ls.length
 rw[cP] at hn ⊢
 refine Wb Tryz.func236 49 1 ?_
 refine aY ?_
 refine wl (α:=Nat×List RT) (fun⟨i,l⟩=>⟨[.lsl 0 0 n 11,.int .i64 0,.int .i64 n,mV g v,.any,.any,.any,.any,.int .i64 i]++replicate 44 .any,[.row true (aq l)]⟩)
  (fun⟨i,_⟩=>n+1 - i) (fun⟨i,l⟩=>1<=i/\(i<=n\/i=1)/\l.Perm ls/\ ∀ p q,p<q->q<i->q<n-> ¬Aa (l.getD q oO) (l.getD p oO)) (1,ls) ?_ ?_ ?_
 .exact bQ [0]
 .exact⟨qp _,Or.inr rfl,List.Perm.refl _,fun p q h1 h2 h3=>by omega⟩
 rintro⟨i,l⟩ ⟨oI,gF,eY,tU⟩
 have oP:l.length=n:=by rw[eY.length_eq,cP]
 refine aY ?_
 refine bS ?_ ?_
 .intro h1 h2
  refine ae h2 ?_
  refine wl (α:=Nat×List RT) (fun⟨j,l⟩=>⟨[.lsl 0 0 n 11,.int .i64 0,.int .i64 n,mV g v,.any,.any,.any,.any,.int .i64 i,.int .i64 j]++replicate 43 .any,[.row true (aq l)]⟩)
   (fun⟨j,_⟩=>j) (fun⟨j,l⟩=>j<=i/\l.Perm ls/\O8 oO Aa l i j) (i,l) ?_ ?_ ?_
  .exact bQ [0]
  .exact⟨qp _,eY,fun p q h3 h4 h5=>tU p q h3 (by omega) (by omega)⟩
  rintro⟨j,l⟩ ⟨hj,eY,pM⟩
  have oP:l.length=n:=by rw[eY.length_eq,cP]
  have Lw: ∀ t∈l,t.1.length=8:=fun t ht=>hl t (eY.mem_iff.1 ht)
  have Ve: ∀ x∈l,∀ y∈l,∀ z∈l,¬Aa x y-> ¬Aa y z-> ¬Aa x z:=fun x hx y hy z hz=>XZ (Lw x hx) (Lw y hy) (Lw z hz)
  refine aY ?_
  refine dw (by kernel_rfl) ?_
  refine ba ?_
  refine bS ?_ ?_
  .intro h3 h4
   obtain⟨p,rfl⟩: ∃ p,j=p+1:=⟨j - 1,by omega⟩
   have Ch:(((p+1:Nat):Int) - 1)=(p:Int):=by omega
   have m1:=f9 (ts:=l) (i:=p+1) (by omega)
   have m2:=f9 (ts:=l) (i:=p) (by omega)
   have bW:=Ay _ (eY.mem_iff.1 m1) _ (eY.mem_iff.1 m2)
   have r1:=c_ (ts:=l) (i:=p+1) (by omega)
   have r2:=c_ (ts:=l) (i:=p) (by omega)
   have lx:=Lw _ m1
   have ly:=Lw _ m2
   have aH:Aa (l.getD (p+1) oO) (l.getD p oO)↔ -(iY (l.getD (p+1) oO).1 (l.getD p oO).1)<0:=by
    unfold Aa;rw[<-J'];omega
   have Jk:((aq l).set (p+1) (iz (l.getD p oO))).set p (iz (l.getD (p+1) oO))=aq (n6 oO l (p+1)):=by
    rw[uR,uR];unfold n6;rw[Nat.add_sub_cancel]
   have r3:((aq l).set (p+1) (iz (l.getD p oO))).getD p []=iz (l.getD p oO):=by
    rw[qa,qm (by omega),<-qa,r2]
   have tV:=fun h=>Bq oO Aa O9 (ls:=l) (i:=i) (j:=p+1) (by omega) hj (by omega) pM h
   have lC:=fun h=>p6 oO Aa (ls:=l) Ve (i:=i) (j:=p+1) (by omega) hj pM h
   have hsp:=xB oO (ls:=l) (j:=p+1) (by omega) (by omega)
   rw[Nat.add_sub_cancel] at tV lC
   obtain⟨x,mZ⟩:=ax (l.getD (p+1) oO)
   obtain⟨y,wZ⟩:=ax (l.getD p oO)
   rw[mZ] at bW r1 lx aH Jk tV lC
   rw[wZ] at bW r2 r3 ly aH Jk tV lC
   have rl:=av l
   have SD:=aW lx
   have y11:=aW ly
   have fx:=aK lx
   have fy:=aK ly
   have dx:=nC lx
   have dy:=nC ly
   have gx:=aG lx
   have gy:=aG ly
   obtain⟨z,hz⟩:=ax (-(iY x.1 y.1))
   rw[hz] at bW aH
   simp -dsimp(disch:=omega) only[h4,Ch,r1,r2,SD,y11,dQ,rl,hv,fx,fy,↓reduceIte,reduceLeDiff,ru]
   repeat refine ag ?_
   refine gp bW (by simp[cw,gW,dm,dQ,lJ,fB]) ?_
   refine ae @dD ?_
   refine bS ?_ ?_
   .intro h5 h6
    refine ae h6 ?_
    refine dw (by kernel_rfl) ?_
    refine ae (bT Ch r1 r2 r3 SD y11 @dQ (bT rl fx fy gx gy dx dy (im Jk @length_set.{0} @dm @dD @append_nil.{0}))) ?_
    repeat refine ag ?_
    refine aw (p,n6 oO l (p+1)) ?_ ⟨by omega,hsp.trans eY,tV (aH.2 h5)⟩
    exact bQ [0]
   intro h5 h6
   have hd:=lC (Or.inr (fun h=>h5 (aH.1 h)))
   refine ae h6 ?_
   refine aw (i+1,l) ?_ ⟨by omega,by omega,eY,fun p q h7 h8 h9=>hd p q h7 (by omega)⟩
   exact bQ [0]
  intro h3 h4
  have hd:=p6 oO Aa (ls:=l) Ve (i:=i) (j:=j) (by omega) hj pM (Or.inl (by omega))
  refine ae h4 ?_
  refine aw (i+1,l) ?_ ⟨by omega,by omega,eY,fun p q h7 h8 h9=>hd p q h7 (by omega)⟩
  exact bQ [0]
 intro h1 h2
 have hpw:l.Pairwise (fun a b=>¬Aa b a):=q_ oO Aa (fun p q h3 h4=>tU p q h3 (by omega) (by omega))
 refine ae h2 ?_
 exact⟨[.row true (aq l)],.tup [],⟨l,rfl,rfl,eY,hpw⟩,sq (cd:=True) (vs:=[]) rfl trivial rfl trivial rfl rfl rfl⟩
theorem acS (V:PV) (ls ls':List RT) (lim:Int) (hn:ls.length<=12) (h:Den Tryz.prog 236 [.row true (aq ls)] [.lsl 0 0 ls.length 11,.int .i64 0,.int .i64 ls.length,V] [.row true (aq ls')] (.tup [])) (hV: ∃ v g,V=mV g v):
 Den Tryz.prog 206 [.row true (aq ls)] [.lsl 0 0 ls.length 11,.int .i64 0,.int .i64 ls.length,.int .i64 lim,V] [.row true (aq ls')] (.tup []):=by
 obtain⟨v,g,rfl⟩:=hV
 obtain⟨n,cP⟩:=ax ls.length
 rw[cP] at h hn ⊢
 have e1:decide ((n:Int) - 0<=12)=true:=GV
 refine dq Tryz.func206 143 1 ?_
 refine aY ?_
 refine wl (α:=Unit) (fun _=>⟨[.lsl 0 0 n 11,.int .i64 0,.int .i64 n,.int .i64 lim,mV g v,.any,.any,.any,.any,.any,.bool true,.bool true]++replicate 136 .any,[.row true (aq ls)]⟩)
  (fun _=>0) (fun _=>True) () ?_ trivial ?_
 .exact bQ [0]
 rintro⟨⟩ _
 refine bU e1 ?_
 refine ig 0 h trivial ?_
 refine ae @append_nil.{0} ?_
 exact sq (cd:=True) (vs:=[]) rfl trivial rfl trivial rfl rfl rfl
def bH:Nat:=12
theorem WE (g:Nat) (v:Value) (u:FV) (hv:PV.ofValue v= .agg [.fv u]) (ls:List RT) (hl: ∀ t∈ls,t.1.length=8) (hn:ls.length<=bH)
 (Ay: ∀ s∈ls,∀ t∈ls,Den Tryz.prog g [] [.agg [.fv u],.agg (fM s),.agg (fM t)] [] (.int .i64 (-(iY s.1 t.1)))):
 ∃ ls',ls'.Perm ls/\ls'.Pairwise (fun a b=>¬Aa b a)/\Den Tryz.prog 169 [.row true (aq ls)] [.lsl 0 0 ls.length 11,mV g v] [.row true (aq ls')] (.tup []):=by
 unfold bH at hn
 obtain⟨H1,res,⟨ls',rfl,rfl,hp,hs⟩,h⟩:=acR g v u hv ls hl (by omega) Ay
 refine⟨ls',hp,hs,?_⟩
 have h2:=acS (mV g v) ls ls' (dZ ls.length:Int) hn h ⟨v,g,rfl⟩
 obtain⟨n,cP⟩:=ax ls.length
 rw[cP] at h2 hn ⊢
 refine dq Tryz.func169 12 1 ?_
 refine aY ?_
 refine gp (WC n (by omega)) rfl ?_
 refine ba ?_
 refine ig 0 h2 trivial ?_
 refine ae @append_nil.{0} ?_
 exact sq (cd:=True) (vs:=[]) rfl trivial rfl trivial rfl rfl rfl
theorem E0 {m:List Int} {i:Nat} (h:i<m.length):iA (m.drop i)=(decide (0<=m.getD i 0)&&decide (m.getD i 0<=1024)&&iA (m.drop (i+1))):=by
 rw[drop_eq_getElem_cons h,qa,qb h];rfl
theorem E1 {ts:List RT} {i:Nat} (h:i<ts.length):validB (ts.drop i)=(iA (ts.getD i oO).1&&validB (ts.drop (i+1))):=by
 rw[drop_eq_getElem_cons h,qa,qb h];rfl
theorem Ki (ts:List RT) (hl: ∀ t∈ts,t.1.length=8) (hn:ts.length<=1000000000000):Den Tryz.prog 118 [] [PL ts] [] (.bool (validB ts)):=by
 have rl:=av ts;obtain⟨n,cP⟩:=ax ts.length;rw[cP] at rl hn;obtain⟨R,hR⟩:=ax (validB ts);rw[hR];refine dq Tryz.func118 25 0 ?_;refine bU rl ?_;refine wl (α:=Nat) (fun i=>⟨[PL ts,.any,.any,.any,.any,.any,.any,PL ts,.int .i64 n,.int .i64 i]++replicate 16 .any,[]⟩) (fun i=>n - i) (fun i=>i<=n/\validB (ts.drop i)=R) 0 ?_ ?_ ?_
 .exact bQ []
 .exact⟨eB _,hR⟩
 rintro i ⟨hi,hv⟩;refine aY ?_;refine bS ?_ ?_
 .intro h1 h2;have r1:=c_ (ts:=ts) (i:=i) (by omega);have hm:=hl _ (f9 (ts:=ts) (i:=i) (by omega));have hd:=E1 (ts:=ts) (i:=i) (by omega);obtain⟨t,ht⟩:=ax (ts.getD i oO);rw[ht] at r1 hm hd;rw[hv] at hd;have Jl:=aW hm;have fl:=aK hm;have c8:=dN hm;have cl:=aG hm;have ml:=bN t.1;rw[hm] at ml;refine ae (bT h2 r1 Jl @dQ fl c8 cl (aP rl @append_nil.{0})) ?_
  repeat refine ag ?_
  refine wl (α:=Nat) (fun k=>⟨[PL ts,.any,.any,.any,.any,.any,.any,PL ts,.int .i64 n,.int .i64 i,.any,.any,.any,.any,.agg (mC t.1),.int .i64 k]++replicate 10 .any,[]⟩) (fun k=>8 - k) (fun k=>k<=8/\iA (t.1.drop k)=iA t.1) 0 ?_ ?_ ?_
  .refine eS [] ?_ ?_
   .simp[bk,dV,cC,sX]
   simp[et]
  .exact⟨eB _,rfl⟩
  rintro k ⟨hk,ZA⟩;refine aY ?_;refine bS ?_ ?_
  .intro h3 h4;have gG:=Bv (m:=t.1) (i:=k) (by omega);have wU:=E0 (m:=t.1) (i:=k) (by omega);obtain⟨x,hx⟩:=ax (t.1.getD k 0);rw[hx] at gG wU;rw[ZA] at wU;refine ae (eg h4 gG ml @Nat.mul_one) ?_
   repeat refine ag ?_
   by_cases Vh:x<0
   .have e1:decide (x<0)=true:=ir Vh;have hRf:R=false:=by rw[hd,wU,m5 (show¬0<=x by omega)];rfl
    rw[hRf];refine ae e1 ?_;refine bj rfl
   have e1:decide (x<0)=false:=m5 Vh;by_cases zw:1024<x
   .have e2:decide (x>1024)=true:=ir zw;have hRf:R=false:=by rw[hd,wU,m5 (show¬x<=1024 by omega)];simp
    rw[hRf];refine ae (aP e1 e2) ?_;refine bj rfl
   have e2:decide (x>1024)=false:=m5 zw;rw[ir (show 0<=x by omega),ir (show x<=1024 by omega)] at wU;refine ae (aP e1 e2) ?_;refine aw (k+1) ?_ ⟨by omega,by rw[wU];rfl⟩;refine eS [] ?_ ?_
   .simp[bk,dV,cC,sX]
   simp[et]
  intro h3 h4;have hvt:iA t.1=true:=by rw[<-ZA,List.drop_of_length_le (by omega)];rfl
  rw[hvt] at hd;refine ae h4 ?_;refine aw (i+1) ?_ ⟨by omega,by rw[hd];rfl⟩;exact bQ []
 intro h1 h2;have hRt:R=true:=by rw[<-hv,List.drop_of_length_le (by omega)];rfl
 rw[hRt];refine ae h2 ?_;refine bj rfl
def xN (acc:List Tm):List (List Int×PV):=acc.map (fun t=>(t.1,PV.agg (cn t.2).c))
def uS (acc:List Tm) (m:Mn):Raw:=match nk acc m with | some q=>cn q | none=>rz
theorem uT: ∀ (acc:List Tm) (m:Mn),dJ (xN acc) m=(nk acc m).map (fun q=>PV.agg (cn q).c)
 | [],m=>rfl
 | t::acc,m=>by
  have ih:=uT acc m;unfold dJ xN nk at ih ⊢;by_cases h:t.1=m
  .rw[map_cons,List.find?_cons_of_pos (by simpa using h),List.find?_cons_of_pos (by simpa using h)];rfl
  rw[map_cons,List.find?_cons_of_neg (by simpa using h),List.find?_cons_of_neg (by simpa using h)];exact ih
theorem E2 (acc:List Tm) (m:Mn):(dJ (xN acc) m).getD (.agg [.bool false,.fv (.sl []),.fv (.sl [])])= .agg (uS acc m).c:=by
 rw[uT];unfold uS;cases nk acc m<;>rfl
theorem Th (acc:List Tm) (m:Mn):(dJ (xN acc) m).isSome=decide (m∈acc.map (·.1)):=by
 rw[uT];have h:=L9 (a:=acc) (m:=m);cases hf:nk acc m with
 | none=>rw[m5 (h.1 hf)];rfl
 | some q=>
  rw[ir (by
   cases hd:decide (m∈acc.map (·.1)) with
   | true=>exact of_decide_eq_true hd
   | false=>rw[h.2 (of_decide_eq_false hd)] at hf;cases hf)]
  rfl
theorem Ps (acc:List Tm) (m:Mn):(uS acc m).q=(nk acc m).getD 0:=by
 unfold uS;cases nk acc m with
 | none=>exact JX
 | some q=>exact de q
theorem E3: ∀ (acc:List Tm) (m:Mn) (q:Rat),jy (xN acc) m (.agg (cn ((uS acc m).q+q)).c)=xN (accAdd acc m q)
 | [],m,q=>by
  rw[Ps];show [(m,PV.agg (cn (0+q)).c)]=[(m,PV.agg (cn q).c)];rw[show(0:Rat)+q=q by grind]
 | t::acc,m,q=>by
  have ih:=E3 acc m q;rw[Ps] at ih ⊢;unfold accAdd;by_cases h:t.1=m
  .have h1:nk (t::acc) m=some t.2:=by
    unfold nk;rw[List.find?_cons_of_pos (by simpa using h)];rfl
   rw[h1,if_pos h];show(if(t.1==m)=true then(m,PV.agg (cn (t.2+q)).c)::xN acc else _)=_;rw[if_pos (by simpa using h)];rfl
  have h1:nk (t::acc) m=nk acc m:=by
   unfold nk;rw[List.find?_cons_of_neg (by simpa using h)]
  rw[h1,if_neg h];show(if(t.1==m)=true then _ else(t.1,PV.agg (cn t.2).c)::jy (xN acc) m _)=_;rw[if_neg (by simpa using h),ih];rfl
theorem Pu {acc:List Tm} {m:Mn} {q:Rat} (h:nk acc m=some q):(m,q)∈acc:=by
 unfold nk at h;rw[Option.map_eq_some_iff] at h;obtain⟨t,ht,rfl⟩:=h;have h1:=List.find?_some ht;have h2:=List.mem_of_find?_eq_some ht;have h3:t.1=m:=of_decide_eq_true h1;rw[<-h3];exact h2
theorem X7 (k:Nat):rz.Ok k:=⟨fun d hd=>by simp[rz] at hd,fun d hd=>by simp[rz] at hd,by simp[rz],by simp[rz]⟩
theorem Ti {acc:List Tm} {k:Nat} (h: ∀ t∈acc,Bd k t.2) (m:Mn):(uS acc m).Ok k:=by
 unfold uS;cases hf:nk acc m with
 | none=>exact X7 k
 | some q=>exact bC (h _ (Pu hf))
theorem Pv (t:Tm):tq (tn t)=t:=by
 unfold tq tn;rw[de]
theorem bF (ts:List Tm):(ts.map tn).map tq=ts:=by
 rw[List.map_map]
 conv=>rhs;rw[<-List.map_id ts]
 exact List.map_congr_left (fun t _=>Pv t)
theorem Pw {H:List Ob} {id off n s:Nat} {v:FV}:shutBs H id [.lsl id off n s,.fv v]=H:=by simp[shutBs,wc,shutIds,oD,me,eZ]
theorem Px (ts:List RT) (h8:TsOk 1000000000 ts) (hb:PB 1000000000 (ts.map tq)) (hn:ts.length<=10000000000) (hs:(nf (ts.map tq)).length<=bH):
 Den Tryz.prog 119 [] [PL ts] [] (PL ((nf (ts.map tq)).map tn)):=by
 have rl:=av ts
 obtain⟨n,cP⟩:=ax ts.length
 rw[cP] at rl hn
 obtain⟨T,hT⟩:=ax (ts.map tq)
 have hTl:T.length=n:=by rw[<-hT,length_map,cP]
 have Vi:Len8 T:=fun t ht=>by
  rw[<-hT] at ht;obtain⟨u,hu,rfl⟩:=mem_map.1 ht;exact(h8 u hu).len
 have aew: ∀ t∈T,∀ x∈t.1,-1000000000000<=x/\x<=1000000000000:=fun t ht=>by
  rw[<-hT] at ht;obtain⟨u,hu,rfl⟩:=mem_map.1 ht;exact(h8 u hu).rng
 rw[hT] at hb hs ⊢
 refine dq Tryz.func119 68 0 ?_
 refine bU rl ?_
 refine wl (α:=Nat) (fun i=>⟨[PL ts,.any,.any,.tab 0,.lsl 1 0 (accL (T.take i)).length 8,.any,.any,.any,.any,.any,.any,.any,.any,PL ts,.int .i64 n,.int .i64 i]++replicate 53 .any,[.tab 8 (xN (accL (T.take i))),.row true (n_ ((accL (T.take i)).map (·.1)))]⟩) (fun i=>n - i) (fun i=>i<=n) 0 ?_ (eB _) ?_
 .refine Weak.nil 4 8 (by decide) rfl ?_
  refine eS [0,1] ?_ ?_
  .simp[bk,dV,cC]
   simp[accL]
  simp[et,fK]
  simp[accL,xN,n_]
 rintro i hi
 have oE:(accL (T.take i)).length<=i:=by
  have:=EG (T.take i);rw[length_take] at this;omega
 obtain⟨acc,vp⟩:=ax (accL (T.take i))
 have hbA: ∀ t∈acc,Bd 1000000000 t.2:=by rw[<-vp];exact((hb.take i).accL).bd (by decide)
 rw[vp] at oE ⊢
 obtain⟨K,hK⟩:=ax acc.length
 have rm:=sY (acc.map (·.1))
 rw[length_map,hK] at rm
 have tkm:=HN (ms:=acc.map (·.1)) (n:=K) (by rw[length_map];omega)
 rw[hK] at oE ⊢
 refine aY ?_
 refine bS ?_ ?_
 .intro h1 h2
  have r1:=c_ (ts:=ts) (i:=i) (by omega)
  have bm:=f9 (ts:=ts) (i:=i) (by omega)
  have bg:=h8 _ bm
  have ez:T.take (i+1)=T.take i++[tq (ts.getD i oO)]:=by
   rw[List.take_add_one,<-hT,List.getElem?_map,qa,qb (by omega)];rfl
  obtain⟨t,ht⟩:=ax (ts.getD i oO)
  rw[ht] at r1 bg ez
  have Vj:=Bj (T.take i) (tq t)
  rw[<-ez,vp] at Vj
  change accL (T.take (i+1))=accAdd acc t.1 t.2.q at Vj
  have hm:=bg.len
  have Xj:=bg.rng
  have Vd:=kV acc t.1 t.2.q
  have aD:=congrArg List.length Vd
  rw[length_map] at aD
  have Jl:=aW hm
  have fl:=aK hm
  have c8:=dN hm
  have cl:=aG hm
  have ml:=bN t.1
  rw[hm] at ml
  have m8:=rS hm
  have mfl:=fg t.1
  rw[hm] at mfl
  have cc:=dU hm
  have DL:=JV (uS acc t.1) t.2 (Ti hbA t.1) bg.raw
  change Den Tryz.prog 69 [] [.agg (uS acc t.1).c,.agg t.2.c] [] (.agg (cn ((uS acc t.1).q+t.2.q)).c) at DL
  have bX:=E3 acc t.1 t.2.q
  have cg:=E2 acc t.1
  have Jm:=Th acc t.1
  obtain⟨cur,jF⟩:=ax (uS acc t.1)
  obtain⟨sm,NL⟩:=ax (cn (cur.q+t.2.q))
  rw[jF] at DL bX cg
  rw[NL] at DL bX
  have aey:(∀ x∈t.1,-9223372036854775808<=x/\x<9223372036854775808):=fun x hx=>by have:=Xj x hx;omega
  by_cases hk:t.1∈acc.map (·.1)
  .rw[ir hk] at Jm
   rw[if_pos hk] at Vd aD
   refine ae (bT h2 r1 Jl @dQ fl c8 cl (fw rl hm cg Jm @cJ @Bool.not_true @append_nil.{0})) ?_
   repeat refine ag ?_
   refine dw (by kernel_rfl) ?_
   refine ae (im c8 cl hm cg cc) ?_
   repeat refine ag ?_
   refine zq DL ?_
   refine ae (fE @gj @dP bX hm @Kb @append_nil.{0}) ?_
   repeat refine ag ?_
   refine aw (i+1) ?_ (by omega)
   rw[Vj,aD,length_map,hK,Vd]
   exact bQ [0,1]
  rw[m5 hk] at Jm
  rw[if_neg hk] at Vd aD
  have cG:=HM (acc.map (·.1)) t.1
  refine ae (bT h2 r1 Jl @dQ fl c8 cl (bT rl hm cg Jm @cJ @Bool.not_false ml (fw @nu @oZ m8 rm tkm cG @append_nil.{0}))) ?_
  repeat refine ag ?_
  refine dw (by kernel_rfl) ?_
  refine ae (im c8 cl hm cg cc) ?_
  repeat refine ag ?_
  refine zq DL ?_
  refine ae (fE @gj @dP bX hm @Kb @append_nil.{0}) ?_
  repeat refine ag ?_
  refine aw (i+1) ?_ (by omega)
  rw[Vj,aD,Vd,qe,length_map,hK]
  exact bQ [0,5]
 intro h1 h2
 have gF:i=n:=by omega
 have U5:T.take i=T:=eo (by omega)
 rw[U5] at vp
 have mb:=rO T
 have vY:=uK Vi
 have aez: ∀ u∈acc,∀ x∈u.1,-1000000000000<=x/\x<=1000000000000:=fun u hu=>by
  rw[<-vp] at hu;obtain⟨w,hw,he⟩:=mem_map.1 (xu (mem_map.2 ⟨u,hu,rfl⟩));rw[<-he];exact aew w hw
 have kL:n8 T=acc.filter (fun t=>decide (t.2≠0)):=by unfold n8;rw[vp]
 rw[vp] at mb vY
 have hO:(n8 T).length<=n:=by
  rw[kL];have:=List.length_filter_le (fun t:Tm=>decide (t.2≠0)) acc;omega
 refine ae h2 ?_
 refine wl (α:=Nat) (fun j=>⟨[.any,.any,.any,.tab 0,.any,.any,.any,.any,.any,.lsl 2 0 ((acc.take j).filter (fun t=>decide (t.2≠0))).length 11]++replicate 34 .any++[.lsl 1 0 K 8,.int .i64 K,.int .i64 j]++replicate 22 .any,
  [.tab 8 (xN acc),.row true (n_ (acc.map (·.1))),.row true (aq (((acc.take j).filter (fun t=>decide (t.2≠0))).map tn))]⟩) (fun j=>K - j) (fun j=>j<=K) 0 ?_ (eB _) ?_
 .refine Weak.nil 9 11 (by decide) rfl ?_
  refine eS [0,1,2] ?_ ?_
  .simp[bk,dV,cC]
  simp[et,fK]
  simp[aq]
 intro j hj
 obtain⟨out,dF⟩: ∃ o,(acc.take j).filter (fun t=>decide (t.2≠0))=o:=⟨_,rfl⟩
 have vm:out.length<=j:=by
  rw[<-dF];have:=List.length_filter_le (fun t:Tm=>decide (t.2≠0)) (acc.take j);rw[length_take] at this;omega
 rw[dF]
 obtain⟨O,Vk⟩:=ax out.length
 have ro:=av (out.map tn)
 rw[length_map,Vk] at ro
 have tko:=bO (ts:=out.map tn) (n:=O) (by rw[length_map];omega)
 rw[Vk] at vm ⊢
 refine aY ?_
 refine bS ?_ ?_
 .intro h3 h4
  obtain⟨u,hu⟩: ∃ u,acc[j]?=some u:=⟨acc[j]'(by omega),by simp⟩
  have hju:=List.mem_of_getElem? hu
  have rmg:=HL (ms:=acc.map (·.1)) (i:=j) (by rw[length_map];omega)
  have hkj:(acc.map (·.1)).getD j []=u.1:=by rw[qa,List.getElem?_map,hu];rfl
  rw[hkj] at rmg
  have hm:=vY u hju
  have Xj:=aez u hju
  have ZB:uS acc u.1=cn u.2:=by
   unfold uS;rw[S4 mb hu]
  have cg:=E2 acc u.1
  rw[ZB] at cg
  have AO:=bC (hbA u hju)
  have iP:=mm (cn u.2) (AO.mono (by decide))
  rw[de] at iP
  change Den Tryz.prog 84 [] [.agg (cn u.2).c] [] _ at iP
  have gv:acc.take (j+1)=acc.take j++[u]:=by
   rw[List.take_add_one,hu];rfl
  have ml:=bN u.1
  rw[hm] at ml
  have mfl:=fg u.1
  rw[hm] at mfl
  have m8:=jN hm
  have mf8:=rS hm
  have aey:(∀ x∈u.1,-9223372036854775808<=x/\x<9223372036854775808):=fun x hx=>by have:=Xj x hx;omega
  refine ae (bT h4 rm rmg mf8 mfl @jn ml (eg m8 hm cg @append_nil.{0})) ?_
  repeat refine ag ?_
  refine zq iP ?_
  refine ae @gj ?_
  refine Br.bneInt ?_ ?_
  .intro h5 h6
   have G0:u.2≠0:=fun h=>h5 (bh.2 h)
   have RI:(acc.take (j+1)).filter (fun t=>decide (t.2≠0))=out++[u]:=by
    rw[gv,filter_append,dF,List.filter_cons_of_pos (by simpa using G0)];rfl
   have cG:=eF (out.map tn) (tn u)
   have ZC:(out++[u]).map tn=out.map tn++[tn u]:=by simp
   rw[<-ZC] at cG
   have U7:(tn u).1.length=8:=hm
   have b1:List.take 8 (mC u.1++[PV.bool false,.nilsl,.nilsl])=mC u.1:=by rw[List.take_append_of_le_length (by omega),m8]
   have b2:List.drop 11 (mC u.1++[PV.bool false,.nilsl,.nilsl])=[]:=List.drop_of_length_le (by simp[ml])
   have b3:mC u.1++(cn u.2).c=fM (tn u):=rfl
   have b4:=aW U7
   have b5:=aG U7
   have b6:=aK U7
   have b7:(mC u.1++[PV.bool false,.nilsl,.nilsl]).length=11:=by simp[ml]
   refine ae h6 ?_
   refine dw (by kernel_rfl) ?_
   refine ae (bT m8 ml hm cg @cJ b1 b2 (bT b3 b4 b5 b7 @dm @dD ro (bR tko cG @append_nil.{0}))) ?_
   repeat refine ag ?_
   refine aw (j+1) ?_ (by omega)
   rw[RI,qe,Vk]
   exact bQ [0,1,5]
  intro h5 h6
  have hz:u.2=0:=bh.1 h5
  have RI:(acc.take (j+1)).filter (fun t=>decide (t.2≠0))=out:=by
   rw[gv,filter_append,dF,List.filter_cons_of_neg (by simpa using hz)];simp
  refine ae h6 ?_
  refine aw (j+1) ?_ (by omega)
  rw[RI,Vk]
  exact bQ [0,1,2]
 intro h3 h4
 have RJ:acc.take j=acc:=eo (by omega)
 rw[RJ] at dF
 rw[dF] at kL
 have Jn:=EM Vi
 rw[kL,Vk] at Jn
 have ZD: ∀ t∈out.map tn,t.1.length=8:=fun t ht=>by
  obtain⟨u,hu,rfl⟩:=mem_map.1 ht;rw[<-dF] at hu;exact vY u (List.mem_filter.1 hu).1
 obtain⟨ls',hp,hso,Jo⟩:=WE 170 (.agg #[.bool true]) (.lit (.bool true)) rfl (out.map tn) ZD (by rw[length_map];omega) (fun s hs t ht=>acM s t (ZD s hs) (ZD t ht))
 have ak:ls'=(nf T).map tn:=by
  have h5:(ls'.map tq).Perm (n8 T):=by
   rw[kL];have:=hp.map tq;rw[bF] at this;exact this
  have h6:(ls'.map tq).Pairwise (fun a b=>g5 b.1 a.1=false):=by
   rw[List.pairwise_map];refine hso.imp ?_;intro a b vo;have: ¬g5 b.1 a.1=true:=vo;exact Bool.eq_false_iff.2 this
  rw[<-J7 Vi h5 h6,List.map_map]
  conv=>lhs;rw[<-List.map_id ls']
  refine List.map_congr_left (fun t ht=>?_);obtain⟨w,_,rfl⟩:=mem_map.1 (hp.mem_iff.1 ht);show tn w=tn (tq (tn w));rw[Pv]
 rw[ak] at Jo
 have oT:((nf T).map tn).length=O:=by rw[length_map,<-Jn]
 have tkf:=bO (ts:=(nf T).map tn) (n:=O) (by omega)
 have rf:=av ((nf T).map tn)
 rw[oT] at rf
 rw[length_map,Vk] at Jo
 have hfa: ∀ cs l (H:List Ob),rE H (.agg cs::l)=none:=fun cs l H=>by simp[rE,fS,fB]
 refine ae (aP h4 hfa) ?_
 refine ig 2 Jo trivial ?_
 refine ae (aP @Pw @append_nil.{0}) ?_
 refine bj ?_
 exact l7 (aP tkf rf)
theorem TsOk.l8 {k:Nat} {ts:List RT} (h:TsOk k ts): ∀ t∈ts,t.1.length=8:=fun t ht=>(h t ht).len
theorem Tj (ts:List RT) (h8:TsOk 1000000000 ts) (hb:PB 1000000000 (ts.map tq)) (hn:ts.length<=10000000000) (hs:(nf (ts.map tq)).length<=bH) (hv:validB ts=true):
 Den Tryz.prog 61 [] [PL ts] [] (.tup [PL ((nf (ts.map tq)).map tn),.int .i64 0]):=by
 have h1:=Ki ts h8.l8 (by omega)
 rw[hv] at h1
 refine dq Tryz.func61 8 0 ?_
 refine aY ?_
 refine aV h1 ?_
 refine ae @Bool.not_true ?_
 refine gp (Px ts h8 hb hn hs) rfl ?_
 refine ba ?_
 refine bj rfl
theorem WG (ts:List RT) (h8:TsOk 1000000000 ts) (hn:ts.length<=10000000000) (hv:validB ts=false):
 Den Tryz.prog 61 [] [PL ts] [] (.tup [.fv (.sl []),.int .i64 2]):=by
 have h1:=Ki ts h8.l8 (by omega)
 rw[hv] at h1
 refine dq Tryz.func61 8 0 ?_
 refine aY ?_
 refine aV h1 ?_
 refine ae @Bool.not_false ?_
 refine bj rfl
def z8:List Int:=replicate 8 0
theorem b8:z8.length=8:=rfl
theorem Py (r:Raw):PV.int .i64 0::PV.int .i64 0::PV.int .i64 0::PV.int .i64 0::PV.int .i64 0::PV.int .i64 0::PV.int .i64 0::PV.int .i64 0::r.c=fM (z8,r):=rfl
def kA (rs:List Raw) (i:Nat):List RT:=(List.range i).map (fun j=>(z8.set j 1,rs.getD j rz))
def gk (rs:List Raw):List RT:=kA rs 8++[(z8,rs.getD 8 rz)]
theorem HV (rs:List Raw) (i:Nat):kA rs (i+1)=kA rs i++[(z8.set i 1,rs.getD i rz)]:=by
 unfold kA;rw[List.range_succ,vw];rfl
theorem nD (rs:List Raw) (i:Nat):(kA rs i).length=i:=by simp[kA]
theorem Tk {m:List Int} {i:Nat} {x:Int} (h: ∀ y∈m,-1000000000000<=y/\y<=1000000000000) (hx: -1000000000000<=x/\x<=1000000000000): ∀ y∈m.set i x,-1000000000000<=y/\y<=1000000000000:=fun y hy=>by
 rcases mem_or_eq_of_mem_set hy with h1 | h1
 .exact h y h1
 rw[h1];exact hx
theorem HW: ∀ y∈z8,-1000000000000<=y/\y<=(1000000000000:Int):=fun y hy=>by
 rw[eq_of_mem_replicate hy];omega
theorem xO {k:Nat} {rs:List Raw} (h:LOk k rs):TsOk k (gk rs):=by
 intro t ht;unfold gk at ht;rcases List.mem_append.1 ht with ht | ht
 .obtain⟨j,_,rfl⟩:=mem_map.1 ht;exact⟨by simp[z8],Tk HW (by omega),h.at j⟩
 rw[qz] at ht;subst ht;exact⟨rfl,HW,h.at 8⟩
theorem vF (rs:List Raw):validB (gk rs)=true:=by
 unfold validB;rw[pR];intro t ht;have hz: ∀ y∈t.1,y=0\/y=1:=by
  unfold gk at ht;rcases List.mem_append.1 ht with ht | ht
  .obtain⟨j,_,rfl⟩:=mem_map.1 ht;intro y hy;rcases mem_or_eq_of_mem_set hy with h1 | h1
   .exact .inl (eq_of_mem_replicate h1)
   exact .inr h1
  rw[qz] at ht;subst ht;intro y hy;exact .inl (eq_of_mem_replicate hy)
 unfold iA;rw[pR];intro y hy;rcases hz y hy with h | h<;>rw[h]<;>rfl
theorem fr (rs:List Raw):(gk rs).length=9:=by simp[gk,nD]
theorem HX {rs:List Raw} {i:Nat} (h:i<8) (hl:rs.length=9):List.take 3 (List.drop (i*3) (List.take 24 (flat rs)))=(rs.getD i rz).c:=by
 have h1:=cU (rs:=rs) (i:=i) (by omega);rw[List.drop_take,List.take_take,Nat.min_eq_left (by omega)];exact h1
theorem Mf {rs:List Raw} (hl:rs.length=9):List.take 3 (List.drop 24 (flat rs))=(rs.getD 8 rz).c:=by
 have h1:=cU (rs:=rs) (i:=8) (by omega);exact h1
theorem WH (ids:List Nat): ∀ (n:Nat) (a:List PV),dp ids a a->dp ids (a.take n) (a.take n)
 | 0,a,_=>by simp[dp]
 | n+1,[],_=>by simp[dp]
 | n+1,x::a,h=>⟨h.1,WH ids n a h.2⟩
theorem BE (ids:List Nat) (n:Nat) (rs:List Raw):dp ids ((flat rs).take n) ((flat rs).take n):=WH ids n _ (dL ids rs)
def d6 (rs:List Raw):List Tm:=nf ((gk rs).map tq)
theorem acT (rs:List Raw) (h:LOk 10000000 rs):Den Tryz.prog 18 [] [RL rs] [] (PL ((d6 rs).map tn)):=by
 have hl:=h.len;have bg:TsOk 1000000000 (gk rs):=fun t ht=>(xO h t ht).mono (by decide)
 have hb:PB 1000000000 ((gk rs).map tq):=by
  refine(PB.list (k:=10000000) (by decide) (fun t ht=>?_)).mono ?_
  .obtain⟨u,hu,rfl⟩:=mem_map.1 ht;exact(xO h u hu).raw.bd (by decide)
  rw[length_map,fr];decide
 have Cn:=Tj (gk rs) bg hb (by rw[fr];decide) (gI (xy _) (by rw[length_map,fr];decide)) (vF rs);unfold RL;have fl:=ah rs;rw[hl] at fl;have pl9:=av (gk rs);rw[fr] at pl9;have tk9:=bO (ts:=gk rs) (n:=9) (by rw[fr];omega);change Den Tryz.prog 61 [] [PL (gk rs)] [] (.tup [PL ((d6 rs).map tn),.int .i64 0]) at Cn;obtain⟨Q,hQ⟩:=ax ((d6 rs).map tn);rw[hQ] at Cn ⊢;refine dq Tryz.func18 35 0 ?_;refine bU fl ?_
 repeat refine ag ?_
 refine wl (α:=Nat) (fun i=>⟨[.any,.ptr 0 0 0,.any,.lsl 1 0 i 11,.any,.any,.any,.any,.any,.any,.agg (List.take 24 (flat rs)),.int .i64 i]++replicate 24 .any,[.box true (flat rs),.row true (aq (kA rs i))]⟩) (fun i=>8 - i) (fun i=>i<=8) 0 ?_ (eB _) ?_
 .refine Weak.nil 3 11 (by decide) rfl ?_;refine eS [0,1] ?_ ?_
  .simp[bk,dV,cC,BE]
  simp[et,fK,dL,kA,aq]
 intro i hi;have tki:=bO (ts:=kA rs i) (n:=i) (by rw[nD];omega);have rli:=av (kA rs i);rw[nD] at rli;refine aY ?_;refine bS ?_ ?_
 .intro h1 h2;have fc:=HX (rs:=rs) (i:=i) (by omega) hl;have aiZ:(List.take 24 (flat rs)).length=24:=by rw[length_take,fl];rfl
  have ez:=HV rs i;obtain⟨r,hr⟩:=ax (rs.getD i rz);rw[hr] at fc ez;have cG:=eF (kA rs i) (z8.set i 1,r);rw[<-ez] at cG;have bX:=p9 (t:=(z8,r)) (i:=i) (x:=1) (by omega) b8;have t1:((z8.set i 1,r):RT).1.length=8:=by simp[z8]
  have t0:((z8,r):RT).1.length=8:=b8;have ZE:=dt t1;have f11:=aW t1;have cl:=aG t1;have cl0:=aG t0;have fl1:=aK t1;refine ae (bT h2 fc aiZ @cJ @xD @Py cl0 (bT cl bX ZE f11 @dm @dD tki (im rli cG @Nat.mul_one @Nat.zero_add @append_nil.{0}))) ?_
  repeat refine ag ?_
  refine aw (i+1) ?_ (by omega);refine eS [0,5] ?_ ?_
  .simp[bk,dV,cC,BE]
  simp[et,fK,dL]
 intro h1 h2;have uc:i=8:=by omega
 subst uc;have cG:=eF (kA rs 8) (z8,rs.getD 8 rz);change aq (kA rs 8)++[iz (z8,rs.getD 8 rz)]=aq (gk rs) at cG;have fc:=Mf hl;obtain⟨r,hr⟩:=ax (rs.getD 8 rz);rw[hr] at fc cG;have t0:((z8,r):RT).1.length=8:=b8;have f11:=aW t0;have fl1:=aK t0;have cl0:=aG t0;refine ae (bT h2 fl fc cl0 @cJ @Py f11 (fE @dm @dD tki rli cG @append_nil.{0})) ?_
 repeat refine ag ?_
 refine gp Cn (by simp[cw,gW,fS,fB,tk9,pl9]) ?_;refine ba ?_;refine bj rfl
theorem Pz {a b:List Int} {i:Nat} (ha:i<a.length) (hb:i<b.length):g5 (a.drop i) (b.drop i)=if a.getD i 0=b.getD i 0 then g5 (a.drop (i+1)) (b.drop (i+1)) else decide (a.getD i 0>b.getD i 0):=by
 rw[drop_eq_getElem_cons ha,drop_eq_getElem_cons hb,g5,qa,qa,qb ha,qb hb];rfl
theorem acU (a b:List Int) (ha:a.length=8) (hb:b.length=8):Den Tryz.prog 153 [] [.agg (mC a),.agg (mC b)] [] (.bool (g5 a b)):=by
 have la:=bN a;have lb:=bN b;rw[ha] at la;rw[hb] at lb;obtain⟨R,hR⟩:=ax (g5 a b);rw[hR];refine dq Tryz.func153 22 0 ?_;refine bU (aP la lb) ?_
 repeat refine ag ?_
 refine wl (α:=Nat) (fun i=>⟨[.any,.any,.ptr 0 0 0,.ptr 1 0 0,.any,.int .i64 i]++replicate 18 .any,[.box true (mC a),.box true (mC b)]⟩) (fun i=>8 - i) (fun i=>i<=8/\g5 (a.drop i) (b.drop i)=R) 0 ?_ ?_ ?_
 .refine eS [0,1] ?_ ?_
  .simp[bk,dV,cC]
  simp[et,fK,sX]
 .exact⟨eB _,hR⟩
 rintro i ⟨hi,hv⟩;refine aY ?_;refine bS ?_ ?_
 .intro h1 h2;have aa:=Bv (m:=a) (i:=i) (by omega);have ab:=Bv (m:=b) (i:=i) (by omega);have hd:=Pz (a:=a) (b:=b) (i:=i) (by omega) (by omega);obtain⟨x,hx⟩:=ax (a.getD i 0);obtain⟨y,hy⟩:=ax (b.getD i 0);rw[hx] at aa hd;rw[hy] at ab hd;rw[hv] at hd;refine ae h2 ?_;refine dw (by kernel_rfl) ?_;refine ae (fE aa ab la lb @Nat.mul_one @Nat.zero_add) ?_
  repeat refine ag ?_
  refine Br.bneInt ?_ ?_
  .intro h3 h4;rw[if_neg h3] at hd;rw[hd];refine ae h4 ?_;refine dw (by kernel_rfl) ?_;refine ae (fE aa ab la lb @Nat.mul_one @Nat.zero_add) ?_
   repeat refine ag ?_
   refine bj rfl
  intro h3 h4;rw[if_pos h3] at hd;refine ae h4 ?_;refine aw (i+1) ?_ ⟨by omega,hd.symm⟩;refine eS [0,1] ?_ ?_
  .simp[bk,dV,cC]
  simp[et,fK,sX]
 intro h1 h2;have hRf:R=false:=by
  rw[<-hv,List.drop_of_length_le (by omega),List.drop_of_length_le (by omega)];rfl
 rw[hRf];refine ae h2 ?_;refine bj rfl
theorem Tl {p:List Tm} {m:Mn} {q:Rat} {k:Nat} (AB: ∀ i (h:i<p.length),i<k->g5 (p[i]'h).1 m=true) (zG: ∀ i (h:i<p.length),k<=i->g5 (p[i]'h).1 m=false) (hk:k<=p.length):
 insT p (m,q)=if _h:k<p.length/\(p.getD k ([],0)).1=m then
  (if q+(p.getD k ([],0)).2=0 then p.take k++p.drop (k+1) else p.take k++[(m,q+(p.getD k ([],0)).2)]++p.drop (k+1)) else
  (if q=0 then p.take k++p.drop k else p.take k++[(m,q)]++p.drop k):=by
 rw[J6 (p:=p) (t:=(m,q)) (k:=k) (fun i h Za=>AB i h Za) hk]
 by_cases oE:k<p.length
 .have hx:=zG k oE (qp _)
  have AE:p.getD k ([],0)=p[k]:=by rw[qa,qb oE];rfl
  rw[AE]
  rw[drop_eq_getElem_cons oE]
  unfold insT
  rw[hx]
  by_cases he:p[k].1=m
  .rw[dif_pos ⟨oE,he⟩]
   simp only[he]
   by_cases hz:q+p[k].2=0
   .simp[hz]
   simp[hz]
  rw[dif_neg (fun h=>he h.2)]
  simp only[he]
  by_cases hz:q=0
  .simp[hz]
  simp[hz]
 rw[dif_neg (fun h=>oE h.1),List.drop_of_length_le (by omega)]
 unfold insT
 by_cases hz:q=0
 .simp[hz]
 simp[hz]
theorem E4 {p:List Tm} (h:Canon p) {i j:Nat} (hj:j<p.length) (pL:i<j):g5 (p[i]'(by omega)).1 p[j].1=true:=List.pairwise_iff_getElem.1 h.sorted i j (by omega) hj pL
theorem acV (p:List Tm) (t:RT) (hp:Canon p) (hb: ∀ u∈p,Bd 1000000000 u.2) (bg:TOk 1000000000 t) (hn:p.length<=10000000000)
 (hs: ∀ u∈p,u.1=t.1->Bd 1000000000 (t.2.q+u.2)):
 Den Tryz.prog 98 [] [PL (p.map tn),.agg (fM t)] [] (PL ((insT p (tq t)).map tn)):=by
 have hm:=bg.len
 have cl:=aG hm
 have rl:=av (p.map tn)
 have p8: ∀ u∈p.map tn,u.1.length=8:=fun u hu=>by
  obtain⟨w,hw,rfl⟩:=mem_map.1 hu;exact hp.len w hw
 have Oh: ∀ y∈aq (p.map tn),y.length=11:=fun y hy=>by
  obtain⟨u,hu,rfl⟩:=mem_map.1 hy;exact aK (p8 u hu)
 obtain⟨n,cP⟩:=ax p.length
 rw[length_map,cP] at rl
 rw[cP] at hn
 have c8:=dN hm
 refine dq Tryz.func98 73 0 ?_
 refine bU (aP cl rl) ?_
 repeat refine ag ?_
 refine wl (α:=Nat×Nat) (fun⟨lo,hi⟩=>⟨[PL (p.map tn),.any,.any,.ptr 0 0 0,.any,.int .i64 lo,.int .i64 hi]++replicate 68 .any,[.box true (fM t)]⟩) (fun⟨lo,hi⟩=>hi - lo)
  (fun⟨lo,hi⟩=>lo<=hi/\hi<=n/\(∀ i (h:i<p.length),i<lo->g5 (p[i]'h).1 t.1=true)/\(∀ i (h:i<p.length),hi<=i->g5 (p[i]'h).1 t.1=false)) (0,n) ?_ ?_ ?_
 .refine eS [0] ?_ ?_
  .simp[bk,dV,cC]
  simp[et,fK,g6]
 .exact⟨eB _,qp _,fun i _ h=>by omega,fun i h h2=>by omega⟩
 rintro⟨lo,hi⟩ ⟨h1,h2,fR,fL⟩
 refine aY ?_
 refine bS ?_ ?_
 .intro h3 h4
  obtain⟨mid,anp⟩: ∃ m:Nat,(lo+hi) / 2=m:=⟨_,rfl⟩
  have e1:((lo:Int)+(hi:Int)) / 2=(mid:Int):=by omega
  have lB:mid<p.length:=by omega
  have r1:=c_ (ts:=p.map tn) (i:=mid) (by rw[length_map];omega)
  have Ji:=p8 _ (f9 (ts:=p.map tn) (i:=mid) (by rw[length_map];omega))
  have hgx:((p.map tn).getD mid oO).1=p[mid].1:=by
   rw[qa,List.getElem?_map,qb lB];rfl
  obtain⟨x,hx⟩:=ax ((p.map tn).getD mid oO)
  rw[hx] at r1 Ji hgx
  have SD:=p7 Ji
  have xl:=aK Ji
  have hg:=acU x.1 t.1 Ji hm
  have zH:g5 x.1 t.1=g5 p[mid].1 t.1:=by rw[hgx]
  refine ae (aP h4 e1) ?_
  refine⟨by decide,?_⟩
  refine dw (by kernel_rfl) ?_
  refine ae (fw r1 SD xl @jn rl c8 cl) ?_
  repeat refine ag ?_
  refine gp hg (by simp[cw,gW,nu,jn]) ?_
  refine ae @oZ ?_
  cases hgv:g5 x.1 t.1 with
  | true=>
   rw[hgv] at zH;refine ba ?_;refine aw (mid+1,hi) ?_ ⟨by omega,h2,fun i h iq=>?_,fL⟩
   .refine eS [0] ?_ ?_
    .simp[bk,dV,cC]
    simp[et,fK,g6]
   .by_cases mc:i=mid
    .subst mc;exact zH.symm
    .exact iX (E4 hp lB (by omega)) zH.symm
  | false=>
   rw[hgv] at zH;refine ba ?_;refine aw (lo,mid) ?_ ⟨by omega,by omega,fR,fun i h iq=>?_⟩
   .refine eS [0] ?_ ?_
    .simp[bk,dV,cC]
    simp[et,fK,g6]
   by_cases mc:i=mid
   .subst mc;exact zH.symm
   cases UU:g5 p[i].1 t.1 with
   | false=>rfl
   | true=>
    have:=iX (E4 hp h (show mid<i by omega)) UU;rw[<-zH] at this;cases this
 intro h3 h4
 have dT:lo=hi:=by omega
 subst dT
 have heq:=Tl (q:=t.2.q) fR fL (by omega)
 have Co:List.take lo (aq (p.map tn))=aq ((p.take lo).map tn):=by simp[aq,List.map_take]
 have dl0:List.drop lo (aq (p.map tn))=aq ((p.drop lo).map tn):=by simp[aq,List.map_drop]
 have dl1:List.drop (lo+1) (aq (p.map tn))=aq ((p.drop (lo+1)).map tn):=by simp[aq,List.map_drop]
 have lt_:(aq ((p.take lo).map tn)).length=lo:=by rw[av,length_map,length_take];omega
 have dn0:(aq ((p.drop lo).map tn)).length=n - lo:=by rw[av,length_map,length_drop,cP]
 have dn1:(aq ((p.drop (lo+1)).map tn)).length=n - (lo+1):=by rw[av,length_map,length_drop,cP]
 have tk_:List.take lo (aq ((p.take lo).map tn))=aq ((p.take lo).map tn):=eo (by omega)
 have Vl:List.take (n - lo) (aq ((p.drop lo).map tn))=aq ((p.drop lo).map tn):=eo (by omega)
 have aeC:List.take (n - (lo+1)) (aq ((p.drop (lo+1)).map tn))=aq ((p.drop (lo+1)).map tn):=eo (by omega)
 have tn1:((lo:Int)+1).toNat=lo+1:=by omega
 have ZF: ∀ y∈aq ((p.take lo).map tn),y.length=11:=fun y hy=>Oh y (by rw[<-Co] at hy;exact AY hy)
 have Vm: ∀ y∈aq ((p.drop lo).map tn),y.length=11:=fun y hy=>Oh y (by rw[<-dl0] at hy;exact VN hy)
 have aeD: ∀ y∈aq ((p.drop (lo+1)).map tn),y.length=11:=fun y hy=>Oh y (by rw[<-dl1] at hy;exact VN hy)
 by_cases qM:lo<n
 .have UK:lo<p.length:=by omega
  have r1:=c_ (ts:=p.map tn) (i:=lo) (by rw[length_map];omega)
  have Ji:=p8 _ (f9 (ts:=p.map tn) (i:=lo) (by rw[length_map];omega))
  have US:(p.map tn).getD lo oO=tn p[lo]:=by
   rw[qa,List.getElem?_map,qb UK];rfl
  have AE:p.getD lo ([],0)=p[lo]:=by rw[qa,qb UK];rfl
  rw[US] at r1 Ji
  rw[AE] at heq
  have hsu:=hs p[lo] (ki UK)
  have RK:=hb p[lo] (ki UK)
  obtain⟨u,hu⟩:=ax (p[lo])
  rw[hu] at r1 Ji heq hsu RK
  have SD:=p7 Ji
  have xl:=aK Ji
  have zw:(tn u).1=u.1:=rfl
  rw[zw] at SD Ji
  have Sx:decide ((lo:Int)<(n:Int))=true:=GV
  have xc:=uL (t:=tn u) Ji
  by_cases Oi:u.1=t.1
  .have dY:(u.1==t.1)=true:=by rw[Oi];exact beq_self_eq_true _
   refine ae (eg h4 Co lt_ @Nat.sub_zero) ?_
   refine⟨⟨by omega,by omega,by omega,Oh⟩,⟨ZF,by omega,by omega⟩,?_⟩
   refine dw (by kernel_rfl) ?_
   simp -dsimp(disch:=omega) only[rl,Sx,r1,SD,xl,jn,c8,cl,Ji,hm,dY,Bool.and_self,↓reduceIte,Nat.reduceBEq,reduceLT,reduceLeDiff,ru]
   repeat refine ag ?_
   have zZ:=hsu Oi
   have RF:=OW t.2 (cn u.2) bg.raw (bC RK)
   rw[de] at RF
   change Den Tryz.prog 67 [] [.agg t.2.c,.agg (cn u.2).c] [] (.agg (cn (t.2.q+u.2)).c) at RF
   have RM:=mw (t:=t) (r:=cn (t.2.q+u.2)) hm
   have tcc:=dU hm
   have xcc:(tn u).2.f.map .fv=(cn u.2).c:=rfl
   rw[dif_pos ⟨by omega,Oi⟩] at heq
   obtain⟨c,hc⟩:=ax (t.2.q+u.2)
   rw[hc] at heq RF RM zZ
   obtain⟨r,hr⟩:=ax (cn c)
   have ZG:r.q=c:=by rw[<-hr,de]
   have AO:r.Ok 1000000000:=by rw[<-hr];exact bC zZ
   rw[hr] at RF RM
   refine dw (by kernel_rfl) ?_
   refine ae (bT tcc cl r1 rl xc xcc xl (aP @EO @Pb)) ?_
   repeat refine ag ?_
   refine zq RF ?_
   refine ae (fE @gj @dP cl @cJ RM @append_nil.{0}) ?_
   repeat refine ag ?_
   have oQ:=n5 r (AO.mono (by decide))
   change Den Tryz.prog 121 [] [.agg r.c] [] (.agg (cn r.q).c) at oQ
   rw[ZG] at oQ
   have Vn:Bd 1000000000 c:=zZ
   have Cp:=Et (cn c) ((bC Vn).mono (by decide))
   rw[de] at Cp
   change Den Tryz.prog 63 [] [.agg (cn c).c] [] (.int .i64 (gA c)) at Cp
   have AR:((t.1,cn c):RT).1.length=8:=hm
   have kk1:=dt AR
   have kk2:=aW AR
   have Xk:=aG AR
   have kk4:=aK AR
   have kk5:=dU AR
   have G1:=mw (t:=(t.1,r)) (r:=cn c) hm
   have c8r:List.take 3 (List.drop 8 (fM (t.1,r)))=r.c:=dU (t:=(t.1,r)) hm
   have clr:(fM (t.1,r)).length=11:=aG (t:=(t.1,r)) hm
   refine ae (aP c8r clr) ?_
   repeat refine ag ?_
   refine zq oQ ?_
   refine ae (fw @gj @dP clr @cJ G1 Xk kk5) ?_
   repeat refine ag ?_
   refine zq Cp ?_
   refine ae @gj ?_
   refine Br.bneInt ?_ ?_
   .intro h5 h6
    have G0:c≠0:=fun h=>h5 (bh.2 h)
    have cG:aq ((p.take lo).map tn)++[iz (t.1,cn c)]++aq ((p.drop (lo+1)).map tn)=aq ((insT p (tq t)).map tn):=by
     have:insT p (tq t)=p.take lo++[(t.1,c)]++p.drop (lo+1):=by show insT p (t.1,t.2.q)=_;rw[heq,if_neg G0]
     rw[this];simp[aq,tn]
    have kR:=av ((insT p (tq t)).map tn)
    have qM:(aq ((p.take lo).map tn)).length+1+(n - (lo+1))=(aq ((insT p (tq t)).map tn)).length:=by
     rw[<-cG];simp only[qe,length_cons,length_nil,av,length_map,length_drop,cP]
    rw[lt_] at qM
    obtain⟨FN,G2⟩:=ax (aq ((insT p (tq t)).map tn))
    rw[G2] at cG qM
    have ap1:(aq ((p.take lo).map tn)++[iz (t.1,cn c)]).length=lo+1:=by rw[qe,lt_];rfl
    have tkap:List.take (lo+1) (aq ((p.take lo).map tn)++[iz (t.1,cn c)])=aq ((p.take lo).map tn)++[iz (t.1,cn c)]:=eo (by omega)
    have tkF:List.take (lo+1+(n - (lo+1))) FN=FN:=eo (by omega)
    refine ae (bT h6 kk1 kk2 Xk @dm @dD rl (bT lt_ tk_ dl1 dn1 aeC ap1 tkap (bR tn1 cG @append_nil.{0}))) ?_
    repeat refine qy (by repeat' (first | omega | exact Oh | exact aeD | apply qy)) ?_
    refine bj ?_
    refine DG qM ?_
    rw[<-G2]
   intro h5 h6
   have hz:c=0:=bh.1 h5
   have cG:aq ((p.take lo).map tn)++aq ((p.drop (lo+1)).map tn)=aq ((insT p (tq t)).map tn):=by
    have:insT p (tq t)=p.take lo++p.drop (lo+1):=by show insT p (t.1,t.2.q)=_;rw[heq,if_pos hz]
    rw[this];simp[aq]
   have qM:(aq ((p.take lo).map tn)).length+(n - (lo+1))=(aq ((insT p (tq t)).map tn)).length:=by
    rw[<-cG];simp only[qe,av,length_map,length_drop,cP]
   rw[lt_] at qM
   obtain⟨FN,G2⟩:=ax (aq ((insT p (tq t)).map tn))
   rw[G2] at cG qM
   have tkF:List.take (lo+(n - (lo+1))) FN=FN:=eo (by omega)
   refine ae (bT h6 rl lt_ tk_ dl1 dn1 aeC (aP tn1 cG)) ?_
   repeat refine qy (by repeat' (first | omega | exact Oh | exact aeD | apply qy)) ?_
   refine bj ?_
   refine DG qM ?_
   rw[<-G2]
  have dY:(u.1==t.1)=false:=by rw[qx];exact Oi
  refine ae (eg h4 Co lt_ @Nat.sub_zero) ?_
  refine⟨⟨by omega,by omega,by omega,Oh⟩,⟨ZF,by omega,by omega⟩,?_⟩
  refine dw (by kernel_rfl) ?_
  simp -dsimp(disch:=omega) only[rl,Sx,r1,SD,xl,jn,c8,cl,Ji,hm,dY,Bool.and_self,↓reduceIte,reduceAdd,Nat.reduceBEq,reduceLT,reduceLeDiff,ru]
  repeat refine ag ?_
  rw[dif_neg (fun h=>Oi h.2)] at heq
  obtain⟨r,hr⟩:=ax t.2
  have ZG:r.q=t.2.q:=by rw[<-hr]
  have AO:r.Ok 1000000000:=by rw[<-hr];exact bg.raw
  have htr:fM t=fM (t.1,r):=by rw[<-hr]
  have zZ:Bd 1000000000 t.2.q:=bg.raw.bd (by decide)
  obtain⟨c,hc⟩:=ax t.2.q
  rw[hc] at heq ZG zZ
  rw[htr]
  have oQ:=n5 r (AO.mono (by decide))
  change Den Tryz.prog 121 [] [.agg r.c] [] (.agg (cn r.q).c) at oQ
  rw[ZG] at oQ
  have Vn:Bd 1000000000 c:=zZ
  have Cp:=Et (cn c) ((bC Vn).mono (by decide))
  rw[de] at Cp
  change Den Tryz.prog 63 [] [.agg (cn c).c] [] (.int .i64 (gA c)) at Cp
  have AR:((t.1,cn c):RT).1.length=8:=hm
  have kk1:=dt AR
  have kk2:=aW AR
  have Xk:=aG AR
  have kk4:=aK AR
  have kk5:=dU AR
  have G1:=mw (t:=(t.1,r)) (r:=cn c) hm
  have c8r:List.take 3 (List.drop 8 (fM (t.1,r)))=r.c:=dU (t:=(t.1,r)) hm
  have clr:(fM (t.1,r)).length=11:=aG (t:=(t.1,r)) hm
  refine ae c8r ?_
  repeat refine ag ?_
  refine zq oQ ?_
  refine ae (fw @gj @dP clr @cJ G1 Xk kk5) ?_
  repeat refine ag ?_
  refine zq Cp ?_
  refine ae @gj ?_
  refine Br.bneInt ?_ ?_
  .intro h5 h6
   have G0:c≠0:=fun h=>h5 (bh.2 h)
   have cG:aq ((p.take lo).map tn)++[iz (t.1,cn c)]++aq ((p.drop lo).map tn)=aq ((insT p (tq t)).map tn):=by
    have:insT p (tq t)=p.take lo++[(t.1,c)]++p.drop lo:=by show insT p (t.1,t.2.q)=_;rw[show t.2.q=c from hc,heq,if_neg G0]
    rw[this];simp[aq,tn]
   have kR:=av ((insT p (tq t)).map tn)
   have qM:(aq ((p.take lo).map tn)).length+1+(n - lo)=(aq ((insT p (tq t)).map tn)).length:=by
    rw[<-cG];simp only[qe,length_cons,length_nil,av,length_map,length_drop,cP]
   rw[lt_] at qM
   obtain⟨FN,G2⟩:=ax (aq ((insT p (tq t)).map tn))
   rw[G2] at cG qM
   have ap1:(aq ((p.take lo).map tn)++[iz (t.1,cn c)]).length=lo+1:=by rw[qe,lt_];rfl
   have tkap:List.take (lo+1) (aq ((p.take lo).map tn)++[iz (t.1,cn c)])=aq ((p.take lo).map tn)++[iz (t.1,cn c)]:=eo (by omega)
   have tkF:List.take (lo+1+(n - lo)) FN=FN:=eo (by omega)
   refine ae (bT h6 kk1 kk2 Xk @dm @dD rl (bT lt_ tk_ dl0 dn0 Vl ap1 tkap (aP cG @append_nil.{0}))) ?_
   repeat refine qy (by repeat' (first | omega | exact Oh | exact Vm | apply qy)) ?_
   refine bj ?_
   refine DG qM ?_
   rw[<-G2]
  intro h5 h6
  have hz:c=0:=bh.1 h5
  have cG:aq ((p.take lo).map tn)++aq ((p.drop lo).map tn)=aq ((insT p (tq t)).map tn):=by
   have:insT p (tq t)=p.take lo++p.drop lo:=by show insT p (t.1,t.2.q)=_;rw[show t.2.q=c from hc,heq,if_pos hz]
   rw[this];simp[aq]
  have qM:(aq ((p.take lo).map tn)).length+(n - lo)=(aq ((insT p (tq t)).map tn)).length:=by
   rw[<-cG];simp only[qe,av,length_map,length_drop,cP]
  rw[lt_] at qM
  obtain⟨FN,G2⟩:=ax (aq ((insT p (tq t)).map tn))
  rw[G2] at cG qM
  have tkF:List.take (lo+(n - lo)) FN=FN:=eo (by omega)
  refine ae (bT h6 rl lt_ tk_ dl0 dn0 Vl cG) ?_
  repeat refine qy (by repeat' (first | omega | exact Oh | exact Vm | apply qy)) ?_
  refine bj ?_
  refine DG qM ?_
  rw[<-G2]
 have Sx:decide ((lo:Int)<(n:Int))=false:=sA
 refine ae (eg h4 Co lt_ @Nat.sub_zero) ?_
 refine⟨⟨by omega,by omega,by omega,Oh⟩,⟨ZF,by omega,by omega⟩,?_⟩
 refine dw (by kernel_rfl) ?_
 refine ae (aP rl Sx) ?_
 rw[dif_neg (fun h=>qM (by omega))] at heq
 obtain⟨r,hr⟩:=ax t.2
 have ZG:r.q=t.2.q:=by rw[<-hr]
 have AO:r.Ok 1000000000:=by rw[<-hr];exact bg.raw
 have htr:fM t=fM (t.1,r):=by rw[<-hr]
 have zZ:Bd 1000000000 t.2.q:=bg.raw.bd (by decide)
 obtain⟨c,hc⟩:=ax t.2.q
 rw[hc] at heq ZG zZ
 rw[htr]
 have oQ:=n5 r (AO.mono (by decide))
 change Den Tryz.prog 121 [] [.agg r.c] [] (.agg (cn r.q).c) at oQ
 rw[ZG] at oQ
 have Vn:Bd 1000000000 c:=zZ
 have Cp:=Et (cn c) ((bC Vn).mono (by decide))
 rw[de] at Cp
 change Den Tryz.prog 63 [] [.agg (cn c).c] [] (.int .i64 (gA c)) at Cp
 have AR:((t.1,cn c):RT).1.length=8:=hm
 have kk1:=dt AR
 have kk2:=aW AR
 have Xk:=aG AR
 have kk4:=aK AR
 have kk5:=dU AR
 have G1:=mw (t:=(t.1,r)) (r:=cn c) hm
 have c8r:List.take 3 (List.drop 8 (fM (t.1,r)))=r.c:=dU (t:=(t.1,r)) hm
 have clr:(fM (t.1,r)).length=11:=aG (t:=(t.1,r)) hm
 refine ae (aP c8r clr) ?_
 repeat refine ag ?_
 refine zq oQ ?_
 refine ae (fw @gj @dP clr @cJ G1 Xk kk5) ?_
 repeat refine ag ?_
 refine zq Cp ?_
 refine ae @gj ?_
 refine Br.bneInt ?_ ?_
 .intro h5 h6
  have G0:c≠0:=fun h=>h5 (bh.2 h)
  have cG:aq ((p.take lo).map tn)++[iz (t.1,cn c)]++aq ((p.drop lo).map tn)=aq ((insT p (tq t)).map tn):=by
   have:insT p (tq t)=p.take lo++[(t.1,c)]++p.drop lo:=by show insT p (t.1,t.2.q)=_;rw[show t.2.q=c from hc,heq,if_neg G0]
   rw[this];simp[aq,tn]
  have kR:=av ((insT p (tq t)).map tn)
  have qM:(aq ((p.take lo).map tn)).length+1+(n - lo)=(aq ((insT p (tq t)).map tn)).length:=by
   rw[<-cG];simp only[qe,length_cons,length_nil,av,length_map,length_drop,cP]
  rw[lt_] at qM
  obtain⟨FN,G2⟩:=ax (aq ((insT p (tq t)).map tn))
  rw[G2] at cG qM
  have ap1:(aq ((p.take lo).map tn)++[iz (t.1,cn c)]).length=lo+1:=by rw[qe,lt_];rfl
  have tkap:List.take (lo+1) (aq ((p.take lo).map tn)++[iz (t.1,cn c)])=aq ((p.take lo).map tn)++[iz (t.1,cn c)]:=eo (by omega)
  have tkF:List.take (lo+1+(n - lo)) FN=FN:=eo (by omega)
  refine ae (bT h6 kk1 kk2 Xk @dm @dD rl (bT lt_ tk_ dl0 dn0 Vl ap1 tkap (aP cG @append_nil.{0}))) ?_
  repeat refine qy (by repeat' (first | omega | exact Oh | exact Vm | apply qy)) ?_
  refine bj ?_
  refine DG qM ?_
  rw[<-G2]
 intro h5 h6
 have hz:c=0:=bh.1 h5
 have cG:aq ((p.take lo).map tn)++aq ((p.drop lo).map tn)=aq ((insT p (tq t)).map tn):=by
  have:insT p (tq t)=p.take lo++p.drop lo:=by show insT p (t.1,t.2.q)=_;rw[show t.2.q=c from hc,heq,if_pos hz]
  rw[this];simp[aq]
 have qM:(aq ((p.take lo).map tn)).length+(n - lo)=(aq ((insT p (tq t)).map tn)).length:=by
  rw[<-cG];simp only[qe,av,length_map,length_drop,cP]
 rw[lt_] at qM
 obtain⟨FN,G2⟩:=ax (aq ((insT p (tq t)).map tn))
 rw[G2] at cG qM
 have tkF:List.take (lo+(n - lo)) FN=FN:=eo (by omega)
 refine ae (bT h6 rl lt_ tk_ dl0 dn0 Vl cG) ?_
 repeat refine qy (by repeat' (first | omega | exact Oh | exact Vm | apply qy)) ?_
 refine bj ?_
 refine DG qM ?_
 rw[<-G2]
theorem ahC (ts:List RT) (h8:TsOk 1000000000 ts) (hb:PB 1000000000 (ts.map tq)) (hn:ts.length<=10000000000):Den Tryz.prog 44 [] [PL ts] [] (PL ((nf (ts.map tq)).map tn)):=by
 have rl:=av ts;obtain⟨n,cP⟩:=ax ts.length;rw[cP] at rl hn;obtain⟨T,hT⟩:=ax (ts.map tq);have hTl:T.length=n:=by rw[<-hT,length_map,cP]
 have Vi:Len8 T:=fun t ht=>by
  rw[<-hT] at ht;obtain⟨u,hu,rfl⟩:=mem_map.1 ht;exact(h8 u hu).len
 rw[hT] at hb ⊢;refine dq Tryz.func44 17 0 ?_;refine aY ?_;refine wl (α:=Nat) (fun i=>⟨[PL ts,.any,.any,PL ((nf (T.take i)).map tn),.int .i64 i]++replicate 13 .any,[]⟩) (fun i=>n - i) (fun i=>i<=n) 0 ?_ (eB _) ?_
 .refine eS [] ?_ ?_
  .simp[bk,dV,cC];simp[nf];trivial
  simp[et]
 intro i hi;refine bU rl ?_;refine bS ?_ ?_
 .intro h1 h2;have r1:=c_ (ts:=ts) (i:=i) (by omega);have bg:=h8 _ (f9 (ts:=ts) (i:=i) (by omega));have ez:T.take (i+1)=T.take i++[tq (ts.getD i oO)]:=by
   rw[List.take_add_one,<-hT,List.getElem?_map,qa,qb (by omega)];rfl
  obtain⟨t,ht⟩:=ax (ts.getD i oO);rw[ht] at r1 bg ez;have dY:=hb.take (i+1);rw[ez] at dY;have ai1:Len8 (T.take i):=fun u hu=>Vi u (AY hu)
  have aD:(nf (T.take i)).length<=10000000000:=by
   have:=xy (T.take i);rw[length_take] at this;omega
  have ZH:=acV (nf (T.take i)) t (cS ai1) ((hb.take i).nf.bd (by decide)) bg aD (fun u hu _=>dY.snoc_bd (by decide) u hu);have hni:insT (nf (T.take i)) (tq t)=nf (T.take (i+1)):=by
   rw[ez];unfold nf;rw[List.foldl_append];rfl
  rw[hni] at ZH;have hm:=bg.len;have Jl:=aW hm;have fl:=aK hm;have cl:=aG hm;obtain⟨P,hP⟩:=ax ((nf (T.take i)).map tn);rw[hP] at ZH ⊢;refine ae (fE h2 r1 rl Jl @dQ fl) ?_
  repeat refine ag ?_
  refine gp ZH (by simp[cw,gW,fS,fB,dm,dQ]) ?_;refine ae @dD ?_;refine aw (i+1) ?_ (by omega);exact bQ []
 intro h1 h2;have U5:T.take i=T:=eo (by omega);rw[U5];refine ae h2 ?_;refine bj rfl
theorem acW (ts:List RT) (h8:TsOk 5000000000 ts) (hn:ts.length<=10000000000):Den Tryz.prog 19 [] [PL ts,PL ts] [] (.bool true):=by
 have rl:=av ts;obtain⟨n,cP⟩:=ax ts.length;rw[cP] at rl hn;have e1:((n:Int) !=(n:Int))=false:=by simp
 refine dq Tryz.func19 40 0 ?_;refine bU (aP rl e1) ?_;refine wl (α:=Nat) (fun i=>⟨[PL ts,PL ts,.any,.any,.any,.int .i64 i]++replicate 36 .any,[]⟩) (fun i=>n - i) (fun i=>i<=n) 0 ?_ (eB _) ?_
 .exact bQ []
 intro i hi;refine bU rl ?_;refine bS ?_ ?_
 .intro h1 h2;have r1:=c_ (ts:=ts) (i:=i) (by omega);have bg:=h8 _ (f9 (ts:=ts) (i:=i) (by omega));obtain⟨t,ht⟩:=ax (ts.getD i oO);rw[ht] at r1 bg;have hm:=bg.len;have f8:=p7 hm;have fl:=aK hm;have fd:=uL hm;have dY:(t.1==t.1)=true:=beq_self_eq_true _;have Sy:=Wr t.2 t.2 bg.raw bg.raw;rw[HO] at Sy;change Den Tryz.prog 62 [] [.agg t.2.c,.agg t.2.c] [] _ at Sy;refine ae h2 ?_;refine dw (by kernel_rfl) ?_;simp -dsimp(disch:=omega) only[r1,rl,f8,fl,fd,jn,hm,dY,Bool.and_self,Bool.not_true,Pb,EO,Ma,↓reduceIte,reduceAdd,Nat.reduceBEq,reduceLT,reduceLeDiff,ru]
  repeat refine ag ?_
  refine zq Sy ?_;refine ae (bR @gj @Bool.not_true @append_nil.{0}) ?_
  repeat refine ag ?_
  refine aw (i+1) ?_ (by omega);exact bQ []
 intro h1 h2;refine ae h2 ?_;refine bj rfl
structure POk (k:Nat) (E:Int) (p:List Tm):Prop where
 canon:Canon p
 bd: ∀ t∈p,Bd k t.2
 exp: ∀ t∈p,∀ e∈t.1,0<=e/\e<=E
theorem POk.mono {j k:Nat} {E F:Int} {p:List Tm} (h:POk j E p) (hk:j<=k) (hE:E<=F):POk k F p:=
 ⟨h.canon,fun t ht=>(h.bd t ht).mono hk,fun t ht e he=>by have:=h.exp t ht e he;omega⟩
theorem jo {m:List Int} {E:Int} (hE:0<=E) (h: ∀ x∈m,0<=x/\x<=E) (i:Nat):0<=m.getD i 0/\m.getD i 0<=E:=by
 rw[qa];cases hi:m[i]? with
 | none=>simp[hE]
 | some x=>exact h x (List.mem_of_getElem? hi)
theorem POk.at {k:Nat} {E:Int} {p:List Tm} (h:POk k E p) (hE:0<=E) (v:Nat): ∀ t∈p,0<=t.1.getD v 0/\t.1.getD v 0<=E:=fun t ht=>jo hE (h.exp t ht) v
theorem POk.ts {k:Nat} {E:Int} {p:List Tm} (h:POk k E p) (hE:E<=1000000000000):TsOk k (p.map tn):=fun t ht=>by
 obtain⟨u,hu,rfl⟩:=mem_map.1 ht;exact⟨h.canon.len u hu,fun x hx=>by have:=h.exp u hu x hx;omega,bC (h.bd u hu)⟩
theorem POk.prim {k:Nat} {E:Int} {p:List Tm} (h:POk k E p) (hE:0<=E) (hE2:E<=1000000) {v:Nat} (hv:v<8):POk (k+1) (E+1) (a_ v p):=by
 refine⟨xC hv h.canon (fun t ht=>(h.at hE v t ht).1),S5 h.bd (fun t ht=>by have:=h.at hE v t ht;omega),fun t ht e he=>?_⟩;obtain⟨u,hu,rfl⟩:=mem_map.1 ht;have h1:=h.at hE v u hu;rcases mem_or_eq_of_mem_set he with h2 | h2
 .have:=h.exp u hu e h2;omega
 omega
theorem s9 {p:List Tm} {i:Nat} (h:i<p.length):(p.map tn).getD i oO=tn p[i]:=by
 rw[qa,List.getElem?_map,qb h];rfl
theorem Mh {v i:Nat} {p:List Tm} (h:i<p.length):a_ v (p.take (i+1))=a_ v (p.take i)++[(p[i].1.set v (p[i].1.getD v 0+1),p[i].2 / (p[i].1.getD v 0+1))]:=by
 unfold a_;rw[List.take_add_one,qb h,vw];rfl
theorem o7 (p:List Tm) (t:Tm):(p++[t]).map tn=p.map tn++[tn t]:=by rw[vw];rfl
def v_ (v:Nat) (p:List Tm):Bool:=p.all (fun t=>decide (t.1.getD v 0+1<=1024))
abbrev nfR (ts:List RT):List Tm:=nf (ts.map tq)
theorem s_ {ts:List RT} (h: ∀ t∈ts,t.1.length=8):Len8 (ts.map tq):=fun t ht=>by
 obtain⟨u,hu,rfl⟩:=mem_map.1 ht;exact h u hu
theorem HY {ts:List RT} (h:validB ts=true): ∀ t∈ts,∀ e∈t.1,0<=e/\e<=1024:=fun t ht e he=>by
 unfold validB at h;rw[pR] at h;have h1:=h t ht;unfold iA at h1;rw[pR] at h1;simpa using h1 e he
theorem X8 {ts:List RT} {j k n:Nat} (hj:1<=j) (h:TsOk j ts) (hn:ts.length<=n) (hk:n*(j+1)+1<=k) (hv:validB ts=true):POk k 1024 (nfR ts):=by
 have hb:PB k (ts.map tq):=PB.terms hj (fun t ht=>by
  obtain⟨u,hu,rfl⟩:=mem_map.1 ht;exact(h u hu).raw.bd hj) (by rw[length_map];exact hn) hk
 refine⟨cS (s_ h.l8),hb.nf.bd (by omega),fun t ht=>?_⟩;obtain⟨x,hx,he⟩:=jc ht;obtain⟨u,hu,rfl⟩:=mem_map.1 hx;rw[<-he];exact HY hv u hu
theorem PA {p:List Tm} {k v:Nat} (h:POk k 1024 p) (hv:v<8):validB ((a_ v p).map tn)=v_ v p:=by
 rw[Bool.eq_iff_iff];unfold validB v_;rw[pR,pR];have key: ∀ u∈p,(iA (u.1.set v (u.1.getD v 0+1))=true↔u.1.getD v 0+1<=1024):=fun u hu=>by
  have h8:=h.canon.len u hu;have h0:=h.at (by decide) v u hu;unfold iA;rw[pR];constructor
  .intro h1;have:=h1 (u.1.getD v 0+1) (List.mem_iff_getElem?.2 ⟨v,qv (by omega)⟩);rw[w8] at this;exact of_decide_eq_true this.2
  intro h1 e he;rw[w8];rcases mem_or_eq_of_mem_set he with h2 | h2
  .have:=h.exp u hu e h2;exact⟨ir (by omega),ir (by omega)⟩
  exact⟨ir (by omega),ir (by omega)⟩
 constructor
 .intro h1 u hu;refine ir ((key u hu).1 ?_);exact h1 (tn (u.1.set v (u.1.getD v 0+1),u.2 / (u.1.getD v 0+1))) (mem_map.2 ⟨_,mem_map.2 ⟨u,hu,rfl⟩,rfl⟩)
 intro h1 t ht;obtain⟨w,hw,rfl⟩:=mem_map.1 ht;obtain⟨u,hu,rfl⟩:=mem_map.1 hw;exact(key u hu).2 (of_decide_eq_true (h1 u hu))
theorem Kj (ts:List RT):(nfR ts).length<=ts.length:=by
 have:=xy (ts.map tq);rwa [length_map] at this
def X9 (ts:List RT) (v:Int):PV:=
 if validB ts=false then .tup [.fv (.sl []),.int .i64 2]
 else if v<0\/8<=v then .tup [.fv (.sl []),.int .i64 1]
 else if v_ v.toNat (nfR ts)=true then .tup [PL ((a_ v.toNat (nfR ts)).map tn),.int .i64 0]
 else .tup [.fv (.sl []),.int .i64 9]
theorem Mi {v:Nat} {p:List Tm} {i:Nat} (h:i<p.length):v_ v (p.take (i+1))=(v_ v (p.take i)&&decide (p[i].1.getD v 0+1<=1024)):=by
 unfold v_;rw[List.take_add_one,qb h,qvb];simp
theorem HZ {v:Nat} {p:List Tm} {i:Nat} (h:i<p.length) (h2: ¬p[i].1.getD v 0+1<=1024):v_ v p=false:=by
 unfold v_;rw[List.all_eq_false];exact⟨p[i],ki h,by simpa using h2⟩
theorem wK {m:List Int} (h:m.length=8) (a b c:PV):(mC m++[a,b,c]).length=11:=by rw[qe,bN,h];rfl
theorem CR {m:List Int} (h:m.length=8) (a b c:PV) (r:Raw):List.take 8 (mC m++[a,b,c])++r.c++List.drop 11 (mC m++[a,b,c])=fM (m,r):=by
 rw[List.drop_of_length_le (by rw[wK h];omega),List.take_append_of_le_length (by rw[bN];omega),jN h,append_nil];rfl
theorem ahD (ts:List RT) (v:Int) (hw: -9223372036854775808<=v/\v<9223372036854775808) (h8:TsOk 500000 ts) (hn:ts.length<=20) (hs:(nfR ts).length<=bH):Den Tryz.prog 27 [] [PL ts,.int .i64 v] [] (X9 ts v):=by
 have hb:PB 1000000000 (ts.map tq):=PB.terms (j:=500000) (n:=20) (by decide) (fun t ht=>by
  obtain⟨u,hu,rfl⟩:=mem_map.1 ht;exact(h8 u hu).raw.bd (by decide)) (by rw[length_map];exact hn) (by decide)
 have gH:=Kj ts;unfold X9;by_cases hv:validB ts=true
 .have hp:=X8 (n:=20) (k:=20000000) (by decide) h8 hn (by decide) hv;have Cn:=Tj ts (fun t ht=>(h8 t ht).mono (by decide)) hb (by omega) hs hv;change Den Tryz.prog 61 [] [PL ts] [] (.tup [PL ((nfR ts).map tn),.int .i64 0]) at Cn;rw[if_neg (by rw[hv];decide)];obtain⟨p,hpp⟩:=ax (nfR ts);rw[hpp] at Cn hp gH hs ⊢;have NK:((0:Int) !=0)=false:=rfl;by_cases fR:v<0
  .rw[if_pos (.inl fR)];have e1:decide (v<0)=true:=ir fR;refine dq Tryz.func27 65 0 ?_;refine aY ?_;refine aV Cn ?_;refine ae (aP e1 NK) ?_;refine bj rfl
  have e1:decide (v<0)=false:=m5 fR;by_cases fL:8<=v
  .rw[if_pos (.inr fL)];have e2:decide (v>=8)=true:=ir fL;refine dq Tryz.func27 65 0 ?_;refine aY ?_;refine aV Cn ?_;refine ae (bR e1 e2 NK) ?_;refine bj rfl
  have e2:decide (v>=8)=false:=m5 fL;rw[if_neg (by omega)];obtain⟨w,rfl⟩: ∃ w:Nat,v=(w:Int):=⟨v.toNat,by omega⟩;rw[Int.toNat_natCast];have hw8:w<8:=by omega
  have hf:=PA (v:=w) hp hw8;have G3:=(hp.mono (k:=20000000) (F:=1000000) (by decide) (by decide)).prim (v:=w) (by decide) (by decide) hw8;have hTs:=G3.ts (by decide);have hB2:PB 1000000000 (a_ w p):=PB.terms (n:=20) (j:=20000001) (by decide) G3.bd (by rw[jm];omega) (by decide);obtain⟨R,hR⟩: ∃ R:PV,(if v_ w p=true then PV.tup [PL ((a_ w p).map tn),.int .i64 0] else .tup [.fv (.sl []),.int .i64 9])=R:=⟨_,rfl⟩;rw[hR];have rl:=av (p.map tn);rw[length_map] at rl;obtain⟨n,cP⟩:=ax p.length;rw[cP] at rl gH;have rT:=av ((a_ w p).map tn);rw[length_map,jm,cP] at rT;have tkT:=bO (ts:=(a_ w p).map tn) (n:=n) (by rw[length_map,jm];omega)
  have aeK:=fun h=>Tj ((a_ w p).map tn) (fun t ht=>(hTs t ht).mono (by decide)) (by rw[bF];exact hB2) (by rw[length_map,jm];omega) (by rw[bF,e_ G3.canon,jm];exact hs) h
  rw[bF,e_ G3.canon,hf] at aeK;refine dq Tryz.func27 65 0 ?_;refine aY ?_;refine aV Cn ?_;refine ae (eg e1 e2 NK rl) ?_;refine wl (α:=Nat) (fun i=>⟨[PL (p.map tn),.int .i64 w,.any,.any,.any,.any,.any,.lsl 0 0 i 11]++replicate 18 .any++[PL (p.map tn),.int .i64 n,.int .i64 i]++replicate 38 .any,[.row true (aq ((a_ w (p.take i)).map tn))]⟩) (fun i=>n - i) (fun i=>i<=n/\v_ w (p.take i)=true) 0 ?_ ⟨eB _,rfl⟩ ?_
  .refine Weak.nil 7 11 (by decide) rfl ?_;refine eS [0] ?_ ?_
   .simp[bk,dV,cC]
   simp[et,fK,a_,aq]
  rintro i ⟨hi,hlw⟩;have rli:=av ((a_ w (p.take i)).map tn);rw[length_map,jm,length_take,cP,Nat.min_eq_left hi] at rli;have tki:=bO (ts:=(a_ w (p.take i)).map tn) (n:=i) (by rw[length_map,jm,length_take];omega);refine aY ?_;refine bS ?_ ?_
  .intro h1 h2;have dW:i<p.length:=by omega
   have r1:=c_ (ts:=p.map tn) (i:=i) (by rw[length_map];omega);rw[s9 dW] at r1;have bm:p[i]∈p:=ki dW;have Od:=hp.bd _ bm;have SE:=hp.at (by decide) w _ bm;have hm:=hp.canon.len _ bm;have ez:=Mh (v:=w) dW;have aH:=Mi (v:=w) dW;have Zw:=HZ (v:=w) dW;obtain⟨t,ht⟩:=ax (p[i]);rw[ht] at r1 Od SE hm ez aH Zw;have cG:=eF ((a_ w (p.take i)).map tn) (tn (t.1.set w (t.1.getD w 0+1),t.2 / (t.1.getD w 0+1)));rw[<-o7,<-ez] at cG;obtain⟨x,hx⟩:=ax (t.1.getD w 0);rw[hx] at SE cG aH Zw;have t1:((t.1.set w (x+1),cn t.2):RT).1.length=8:=by simp[hm]
   have t2:(tn t).1.length=8:=hm;have bX:=p9 (t:=tn t) (i:=w) (x:=x+1) hw8 hm;change List.take w (fM (tn t))++[PV.int IntKind.i64 (x+1)]++List.drop (w+1) (fM (tn t))=fM (t.1.set w (x+1),cn t.2) at bX;have gG:=uM (t:=tn t) (i:=w) hw8 hm;have iO:=uM (t:=(t.1.set w (x+1),cn t.2)) (i:=w) hw8 t1;change List.take 1 (List.drop w (fM (tn t)))=[PV.int .i64 (t.1.getD w 0)] at gG;rw[hx] at gG;dsimp only at iO;rw[show(t.1.set w (x+1)).getD w 0=x+1 by rw[qa,qv (by omega)];rfl] at iO;have f11:=aW t2;have fl0:=aK t2;have cl1:=aG t1;have cl2:=aG t2;by_cases RN:x+1<=1024
   .have e3:decide (x+1>1024)=false:=sA;have AN:=xj (x+1) (by omega);have dY:Bd 1 ((x+1:Int):Rat):=bd_int (Hw (show _<=1000001 by omega) (by decide));have vX:=OS (cn t.2) (cn ((x+1:Int):Rat)) ((bC Od).mono (by decide)) ((bC dY).mono (by decide)) (by rw[de];exact nt (by omega));rw[de,de,<-mr] at vX;change Den Tryz.prog 74 [] [.int .i64 (x+1)] [] (.agg (cn ((x+1:Int):Rat)).c) at AN;rw[<-mr] at AN;change Den Tryz.prog 73 [] [.agg (cn t.2).c,.agg (cn ((x:Rat)+1)).c] [] (.tup [.agg (cn (t.2 / ((x:Rat)+1))).c,.int .i64 0]) at vX;change aq ((a_ w (p.take i)).map tn)++[iz (t.1.set w (x+1),cn (t.2 / ((x:Rat)+1)))]=_ at cG;rw[ir RN,hlw] at aH;have cf:=dU t1;have c8:=dN t1;obtain⟨y,hy⟩:=ax (cn ((x:Rat)+1));rw[hy] at AN vX;obtain⟨z,hz⟩:=ax (cn (t.2 / ((x:Rat)+1)));rw[hz] at vX cG
    have t0:((t.1.set w (x+1),z):RT).1.length=8:=by simp[hm]
    have ZE:=dt t0;have cl0:=aG t0;have ai3:=aW t0;have anr:=aK t0;have ml:=bN (t.1.set w (x+1));rw[length_set,hm] at ml;have mt:=jN t0;have m8:(t.1.set w (x+1)).length=8:=by simp[hm]
    have clz:=wK m8 (.fv (.lit (.bool false))) PV.nilsl PV.nilsl;have pc:=CR m8 (.fv (.lit (.bool false))) PV.nilsl PV.nilsl z;refine ae (bT h2 r1 rl f11 @dQ fl0 cl1 (fw cl2 gG iO bX @Nat.mul_one e3 @append_nil.{0})) ?_
    repeat refine ag ?_
    refine dw (by kernel_rfl) ?_;refine ae (eg @Nat.mul_one iO cf cl1) ?_
    repeat refine ag ?_
    refine aV AN ?_;refine ae (aP @dP @append_nil.{0}) ?_;refine zq vX ?_;refine ae (bT @gj @dP @cJ @xD c8 ml clz (bT pc cl0 cl1 @dm @dD ai3 tki (bR rli cG @append_nil.{0}))) ?_
    repeat refine ag ?_
    refine aw (i+1) ?_ ⟨by omega,aH⟩;exact bQ [4]
   have e3:decide (x+1>1024)=true:=GV;have hl:=Zw RN;rw[if_neg (by rw[hl];decide)] at hR;subst hR;refine ae (bT h2 r1 rl f11 @dQ fl0 cl1 (fw cl2 gG iO bX @Nat.mul_one e3 @append_nil.{0})) ?_
   repeat refine ag ?_
   refine bj rfl
  intro h1 h2;have oL:p.take i=p:=eo (by omega);have gF:i=n:=by omega
  subst gF;rw[oL] at hlw ⊢;rw[if_pos hlw] at hR;subst hR;have ai4:=aeK hlw;refine ae h2 ?_
  repeat refine ag ?_
  refine gp ai4 (by simp[cw,gW,fS,fB,tkT,rT]) ?_;refine ba ?_;refine bj rfl
 have N':validB ts=false:=by simpa using hv
 rw[if_pos N'];have Cn:=WG ts (fun t ht=>(h8 t ht).mono (by decide)) (by omega) N';have h20:((2:Int) !=0)=true:=rfl;refine dq Tryz.func27 65 0 ?_;refine aY ?_;refine aV Cn ?_;refine ae h20 ?_;refine bj rfl
abbrev eqV:PV:= .fv (.lit (.func (.func 254) #[] #[]))
def Asc (l:List (List Raw)) (i:Nat):Prop:= ∀ p q,p<q->q<i->bV (l.getD p []) (l.getD q [])<0
structure Cmp (ls cur:List (List Raw)) (i j:Nat):Prop where
 len:cur.length=ls.length
 pos:1<=i
 lt:i+1<=j
 le:j<=ls.length
 same: ∀ q,i<=q->cur.getD q []=ls.getD q []
 asc:Asc cur i
 sub: ∀ q,q<i->cur.getD q []∈ls
 sup: ∀ p,p<j-> ∃ q,q<i/\cur.getD q []=ls.getD p []
 last:cur.getD (i - 1) []=ls.getD (j - 1) []
theorem bI {ls:List (List Raw)} {i:Nat} (h:i<ls.length):ls.getD i []∈ls:=o6.2 ⟨i,h,rfl⟩
theorem kB {ls:List (List Raw)} {i q:Nat} {x:List Raw} (h:i<ls.length):(ls.set i x).getD q []=if q=i then x else ls.getD q []:=by
 simp only[qa,List.getElem?_set];by_cases hq:i=q
 .subst hq;rw[if_pos rfl,if_pos h,if_pos rfl];rfl
 rw[if_neg hq,if_neg (fun e=>hq e.symm)]
theorem Cmp.skip {ls cur:List (List Raw)} {i j:Nat} (h:Cmp ls cur i j) (hj:j<ls.length) (he:ls.getD j []=ls.getD (j - 1) []):Cmp ls cur i (j+1):=by
 have hp:=h.pos;have aH:=h.lt;refine⟨h.len,h.pos,by omega,by omega,h.same,h.asc,h.sub,fun p Oa=>?_,?_⟩
 .by_cases Y_:p=j
  .subst Y_;rw[he];exact h.sup (p - 1) (by omega)
  exact h.sup p (by omega)
 rw[Nat.add_sub_cancel,he];exact h.last
theorem Cmp.take {ls cur:List (List Raw)} {i j:Nat} {k:Nat} (bg:AOk k ls) (h:Cmp ls cur i j) (gh: ∀ a∈ls,∀ b∈ls,bV a b=0->a=b) (tU: ∀ p q,p<q->q<ls.length->bV (ls.getD p []) (ls.getD q [])<=0) (hj:j<ls.length)
 (he:bV (ls.getD j []) (ls.getD (j - 1) [])≠0):Cmp ls (cur.set i (ls.getD j [])) (i+1) (j+1):=by
 have hp:=h.pos
 have aH:=h.lt
 have hl:=h.len
 have ZI:i<cur.length:=by omega
 have dh:bV (ls.getD (j - 1) []) (ls.getD j [])<0:=by
  have h1:=tU (j - 1) j (by omega) hj;have h2:=dM (ls.getD j []) (ls.getD (j - 1) []);omega
 refine⟨by rw[length_set];exact hl,by omega,by omega,by omega,fun q hq=>?_,fun p q wY hq=>?_,fun q hq=>?_,fun p Oa=>?_,?_⟩
 .rw[kB ZI,if_neg (by omega)];exact h.same q (by omega)
 .rw[kB ZI,kB ZI,if_neg (show¬p=i by omega)]
  by_cases Hp:q=i
  .rw[if_pos Hp]
   have h9: ∀ f∈ls,f.length=9:=fun f hf=>(bg f hf).len
   have m1:=h.sub p (by omega)
   have m2:=bI (i:=j) hj
   by_cases Zc:p=i - 1
   .rw[Zc,h.last];exact dh
   have h1:=h.asc p (i - 1) (by omega) (by omega)
   rw[h.last] at h1
   have h3:=ni _ _ _ (by rw[h9 _ m1,h9 _ (bI (i:=j - 1) (by omega))]) (by rw[h9 _ (bI (i:=j - 1) (by omega)),h9 _ m2]) (Int.le_of_lt h1) (Int.le_of_lt dh)
   rcases Int.lt_or_eq_of_le h3 with h4 | h4
   .exact h4
   exfalso
   have h5:=gh _ m1 _ m2 h4
   rw[h5,dM] at h1
   omega
  rw[if_neg Hp];exact h.asc p q wY (by omega)
 .rw[kB ZI]
  split
  .exact bI hj
  exact h.sub q (by omega)
 .by_cases Y_:p=j
  .exact⟨i,by omega,by rw[kB ZI,if_pos rfl,Y_]⟩
  obtain⟨q,hq,hqe⟩:=h.sup p (by omega)
  exact⟨q,by omega,by rw[kB ZI,if_neg (by omega)];exact hqe⟩
 rw[kB ZI,if_pos (by omega),Nat.add_sub_cancel]
structure H3 (ls out:List (List Raw)):Prop where
 sorted:out.Pairwise (fun a b=>bV a b<0)
 mem: ∀ f,f∈out↔f∈ls
theorem vG {l:List (List Raw)} (h:Asc l l.length):l.Pairwise (fun a b=>bV a b<0):=by
 rw[List.pairwise_iff_getElem];intro p q hp hq wY;have:=h p q wY hq;rw[qa,qb hp,qa,qb hq] at this;exact this
theorem Cmp.done {ls cur:List (List Raw)} {i:Nat} (h:Cmp ls cur i ls.length):H3 ls (cur.take i):=by
 have aH:=h.lt;have hl:=h.len;have hg: ∀ q,q<i->(cur.take i).getD q []=cur.getD q []:=fun q hq=>by
  rw[qa,List.getElem?_take,if_pos hq,qa]
 have hli:(cur.take i).length=i:=by rw[length_take];omega
 refine⟨vG (fun p q wY hq=>?_),fun f=>?_⟩
 .rw[hli] at hq;rw[hg p (by omega),hg q hq];exact h.asc p q wY hq
 rw[o6];constructor
 .rintro⟨q,hq,rfl⟩;rw[hli] at hq;rw[hg q hq];exact h.sub q hq
 intro hf;obtain⟨p,hp,rfl⟩:=o6.1 hf;obtain⟨q,hq,he⟩:=h.sup p hp;exact⟨q,by rw[hli];exact hq,by rw[hg q hq];exact he⟩
theorem E5 {ls:List (List Raw)} (h:Asc ls ls.length):H3 ls ls:=⟨vG h,fun _=>Iff.rfl⟩
theorem ahF (ls:List (List Raw)) (bg:AOk 1000000000 ls) (hn:ls.length<=1000) (gh: ∀ a∈ls,∀ b∈ls,bV a b=0->a=b) (tU: ∀ p q,p<q->q<ls.length->bV (ls.getD p []) (ls.getD q [])<=0):
 ∃ H1 res,(fun H1 res=> ∃ out,H1=[.row true (au out)]/\res=PV.lsl 0 0 out.length 27/\H3 ls out) H1 res/\Den Tryz.prog 204 [.row true (au ls)] [.lsl 0 0 ls.length 27,eqV] H1 res:=by
 obtain⟨n,cP⟩:=ax ls.length
 rw[cP] at hn ⊢
 refine Wb Tryz.func204 64 1 ?_
 refine aY ?_
 refine bS ?_ ?_
 .intro h1 h2
  refine ae (aP h2 @pJ) ?_
  exact⟨[.row true (au ls)],.lsl 0 0 n 27,⟨ls,rfl,by rw[cP],E5 (fun p q h3 h4=>by omega)⟩,sq (cd:=True/\True) (vs:=[.lsl 0 0 n 27]) rfl ⟨cW,cW⟩ rfl trivial rfl rfl rfl⟩
 intro h1 h2
 refine ae h2 ?_
 refine wl (α:=Nat) (fun k=>⟨[.lsl 0 0 n 27,eqV,.any,.any,.nilsl,.int .i64 k]++replicate 60 .any,[.row true (au ls)]⟩)
  (fun k=>n+1 - k) (fun k=>1<=k/\k<=n/\Asc ls k) 1 ?_ ?_ ?_
 .exact bQ [0]
 .exact⟨qp _,by omega,fun p q h3 h4=>by omega⟩
 rintro k ⟨jG,Hk,Vo⟩
 refine aY ?_
 refine bS ?_ ?_
 .intro h3 h4
  obtain⟨m,rfl⟩: ∃ m,k=m+1:=⟨k - 1,by omega⟩
  have Ch:(((m+1:Nat):Int) - 1)=(m:Int):=by omega
  have hx:=bg.at (i:=m+1) (by omega)
  have hy:=bg.at (i:=m) (by omega)
  have bW:=acQ _ _ hx hy
  have r1:=bK ls (m+1)
  have r2:=bK ls m
  obtain⟨x,mZ⟩:=ax (ls.getD (m+1) [])
  obtain⟨y,wZ⟩:=ax (ls.getD m [])
  rw[mZ] at hx bW r1
  rw[wZ] at hy bW r2
  have rl:=ay ls
  have rB:=aF hx.len
  have uh:=aF hy.len
  have fx:=aO x
  have fy:=aO y
  have lx:=hx.len
  have ly:=hy.len
  obtain⟨z,hz⟩:=ax (bV x y)
  rw[hz] at bW
  unfold RL at bW
  refine ae h4 ?_
  refine dw (by kernel_rfl) ?_
  refine b_ (fE Ch r1 r2 rB uh rl) ?_
  repeat refine ag ?_
  refine kO bW ?_
  refine GU ?_
  refine Br.beqInt ?_ ?_
  .intro h5 h6
   refine ae h6 ?_
   repeat refine ag ?_
   have NG:Cmp ls ls (m+1) (m+1+1):=by
    refine⟨rfl,by omega,qp _,by omega,fun q _=>rfl,Vo,fun q hq=>bI (by omega),fun p hp=>?_,?_⟩
    .by_cases hpm:p=m+1
     .refine⟨m,by omega,?_⟩;rw[hpm,mZ,wZ];exact(gh _ (mZ ▸ bI (by omega)) _ (wZ ▸ bI (by omega)) (by rw[hz];exact h5)).symm
     exact⟨p,by omega,rfl⟩
    rw[show m+1 - 1=m by omega,show m+1+1 - 1=m+1 by omega,mZ,wZ];exact(gh _ (mZ ▸ bI (by omega)) _ (wZ ▸ bI (by omega)) (by rw[hz];exact h5)).symm
   clear bW mZ wZ hx hy rB uh fx fy lx ly r1 r2 hz
   refine wl (α:=Nat×Nat×List (List Raw)) (fun⟨i,k2,cur⟩=>⟨[.lsl 0 0 n 27,eqV,.any,.any,.nilsl,.int .i64 i,.lsl 0 (m+1) (n - (m+1)) 27,.int .i64 k2]++replicate 58 .any,[.row true (au cur)]⟩)
    (fun⟨_,k2,_⟩=>n - k2) (fun⟨i,k2,cur⟩=>1<=k2/\Cmp ls cur i (m+1+k2)) (m+1,1,ls) ?_ ?_ ?_
   .exact bQ [0]
   .exact⟨qp _,NG⟩
   rintro⟨i,k2,cur⟩ ⟨iQ,hc⟩
   have fC:=hc.len
   have ans:=hc.lt
   have ant:=hc.le
   refine aY ?_
   refine bS ?_ ?_
   .intro g1 g2
    obtain⟨p,rfl⟩: ∃ p,k2=p+1:=⟨k2 - 1,by omega⟩
    have Ch:(((p+1:Nat):Int) - 1)=(p:Int):=by omega
    have e1:cur.getD (m+1+(p+1)) []=ls.getD (m+1+(p+1)) []:=hc.same _ (by omega)
    have e2:cur.getD (m+1+p) []=ls.getD (m+1+p) []:=hc.same _ (by omega)
    have hx:=bg.at (i:=m+1+(p+1)) (by omega)
    have hy:=bg.at (i:=m+1+p) (by omega)
    have bW:=acQ _ _ hx hy
    have r1:=bK cur (m+1+(p+1))
    have r2:=bK cur (m+1+p)
    have r4:=bK cur i
    have dW:(cur.getD i []).length=9:=by rw[hc.same i (qp _)];exact(bg.at (by omega)).len
    have fi:=aO (cur.getD i [])
    rw[e1] at r1
    rw[e2] at r2
    obtain⟨x,mZ⟩:=ax (ls.getD (m+1+(p+1)) [])
    obtain⟨y,wZ⟩:=ax (ls.getD (m+1+p) [])
    obtain⟨c0,Cl⟩:=ax (cur.getD i [])
    rw[Cl] at r4 dW fi
    rw[mZ] at hx bW r1
    rw[wZ] at hy bW r2
    have w3:=ay cur
    have rB:=aF hx.len
    have uh:=aF hy.len
    have fx:=aO x
    have fy:=aO y
    have lx:=hx.len
    have ly:=hy.len
    have gx:=ah x
    have di:List.drop 27 (cO c0)=[]:=nB dW
    have bM:(au cur).set i (cO x)=au (cur.set i x):=qg cur i x
    obtain⟨z,hz⟩:=ax (bV x y)
    rw[hz] at bW
    obtain⟨bz,hbz⟩:=ax ((z==0))
    rw[hbz] at bW
    unfold RL at bW
    refine ae g2 ?_
    refine dw (by kernel_rfl) ?_
    refine b_ (fE Ch r1 r2 rB uh w3) ?_
    repeat refine ag ?_
    refine kO bW ?_
    cases bz with
    | true=>
     have Vb:z=0:=by simpa using hbz
     refine b_ @Bool.not_true ?_;refine aw (i,p+1+1,cur) ?_ ⟨by omega,?_⟩
     .exact bQ [0]
     .refine hc.skip (by omega) ?_;rw[show m+1+(p+1) - 1=m+1+p by omega,mZ,wZ];exact gh _ (mZ ▸ bI (by omega)) _ (wZ ▸ bI (by omega)) (by rw[hz];exact Vb)
    | false=>
     have Vb:z≠0:=by simpa using hbz
     refine b_ (bT @Bool.not_false r1 r4 rB w3 fi dW (im gx lx di fx bM)) ?_
     repeat refine ag ?_
     refine aw (i+1,p+1+1,cur.set i x) ?_ ⟨by omega,?_⟩
     .exact bQ [0]
     have:=hc.take bg gh tU (by omega) (by rw[show m+1+(p+1) - 1=m+1+p by omega,mZ,wZ,hz];exact Vb);rw[mZ] at this;exact this
   intro g1 g2
   have Lx:m+1+k2=ls.length:=by omega
   rw[Lx] at hc
   have lC:=hc.done
   have w3:=ay cur
   have gv:List.take i (au cur)=au (cur.take i):=by simp[au]
   have Co:(cur.take i).length=i:=by rw[length_take];omega
   refine ae (eg g2 w3 gv @pJ) ?_
   repeat refine ag ?_
   exact⟨[.row true (au (cur.take i))],.lsl 0 0 i 27,⟨cur.take i,rfl,by rw[Co],lC⟩,sq (cd:=True/\True) (vs:=[.lsl 0 0 i 27]) rfl ⟨cW,cW⟩ rfl trivial rfl rfl rfl⟩
  intro h5 h6
  refine ae h6 ?_
  refine aw (m+1+1) ?_ ⟨by omega,by omega,fun p q h7 h8=>?_⟩
  .exact bQ [0]
  by_cases hq:q=m+1
  .subst hq
   have aH:bV (ls.getD m []) (ls.getD (m+1) [])<0:=by
    have e1:=tU m (m+1) (by omega) (by omega);have e2:=dM (ls.getD (m+1) []) (ls.getD m []);rw[mZ,wZ] at e1 e2 ⊢;omega
   by_cases hpm:p=m
   .rw[hpm];exact aH
   have e1:=Vo p m (by omega) (by omega)
   have e2:=tU p (m+1) (by omega) (by omega)
   rcases Int.lt_or_eq_of_le e2 with e3 | e3
   .exact e3
   exfalso
   have e4:=gh _ (bI (by omega)) _ (bI (by omega)) e3
   rw[e4,dM] at e1
   omega
  exact Vo p q h7 (by omega)
 intro h3 h4
 have ai8:k=n:=by omega
 subst ai8
 refine ae (aP h4 @pJ) ?_
 exact⟨[.row true (au ls)],.lsl 0 0 k 27,⟨ls,rfl,by rw[cP],E5 (fun p q h5 h6=>Vo p q h5 (by omega))⟩,sq (cd:=True/\True) (vs:=[.lsl 0 0 k 27]) rfl ⟨cW,cW⟩ rfl trivial rfl rfl rfl⟩
abbrev nzV:PV:= .fv (.lit (.func (.func 220) #[] #[]))
def oa (t:Tm):Bool:=decide (t.2≠0)
theorem WI (t:Tm) (h8:t.1.length=8) (hb:Bd 1000000000 t.2):Den Tryz.prog 220 [] [.agg (fM (tn t))] [] (.bool (! oa t)):=by
 have iP:=mm (cn t.2) ((bC hb).mono (by decide));rw[de] at iP;change Den Tryz.prog 84 [] [.agg (cn t.2).c] [] _ at iP;have ht:(tn t).1.length=8:=h8;have cl:=aG ht;have cf:=dU ht;have e:(gA t.2==0)=! oa t:=by
  unfold oa;by_cases h:t.2=0
  .rw[m5 (by simpa using h),bh.2 h];rfl
  rw[ir h];have:gA t.2≠0:=fun h2=>h (bh.1 h2)
  simpa using this
 obtain⟨z,hz⟩:=ax (gA t.2);obtain⟨b,Vp⟩:=ax ((! oa t));rw[hz] at iP e;rw[Vp] at e ⊢;change List.take 3 (List.drop 8 (fM (tn t)))=(cn t.2).c at cf;refine dq Tryz.func220 6 0 ?_;refine bU cl ?_
 repeat refine ag ?_
 refine gp iP (by simp[cw,gW,EN,Ma,cf]) ?_;refine ae e ?_;refine bj rfl
theorem Mj {ts:List Tm} {i:Nat} (h:i<ts.length) (hf:(ts.take i).filter oa=ts.take i) (hz:oa ts[i]=true):(ts.take (i+1)).filter oa=ts.take (i+1):=by
 rw[List.take_add_one,qb h,filter_append,hf];simp[hz]
theorem acX (ts:List Tm) (h8:Len8 ts) (hb: ∀ t∈ts,Bd 1000000000 t.2) (hn:ts.length<=10000000000):
 ∃ H1 res,(fun H1 res=>H1=[.row true (aq (ts.map tn))]/\((res=PV.int .i64 (-1)/\ts.filter oa=ts)\/ ∃ i:Nat,∃ h:i<ts.length,res=PV.int .i64 i/\(ts.take i).filter oa=ts.take i/\oa ts[i]=false)) H1 res/\
  Den Tryz.prog 250 [.row true (aq (ts.map tn))] [.lsl 0 0 ts.length 11,nzV] H1 res:=by
 obtain⟨n,cP⟩:=ax ts.length
 have rl:=av (ts.map tn)
 rw[length_map,cP] at rl
 rw[cP] at hn
 refine Wb Tryz.func250 17 1 ?_
 refine bU cP ?_
 refine wl (α:=Nat) (fun i=>⟨[.lsl 0 0 n 11,nzV,.any,.any,.any,.any,.any,.int .i64 n,.int .i64 i]++replicate 10 .any,[.row true (aq (ts.map tn))]⟩)
  (fun i=>n - i) (fun i=>i<=n/\(ts.take i).filter oa=ts.take i) 0 ?_ ?_ ?_
 .exact bQ [0]
 .exact⟨eB _,rfl⟩
 rintro i ⟨hi,hf⟩
 refine aY ?_
 refine bS ?_ ?_
 .intro h1 h2
  have dW:i<ts.length:=by omega
  have r1:=c_ (ts:=ts.map tn) (i:=i) (by rw[length_map];omega)
  rw[s9 dW] at r1
  have bm:ts[i]∈ts:=ki dW
  have hm:=h8 _ bm
  have hd:=WI ts[i] hm (hb _ bm)
  have hft:=Mj dW hf
  obtain⟨t,ht⟩:=ax (ts[i])
  rw[ht] at r1 hm hd hft
  have lr:(tn t).1.length=8:=hm
  have f11:=aW lr
  have fl:=aK lr
  obtain⟨b,Vp⟩:=ax (oa t)
  rw[Vp] at hd hft
  refine ae (fE h2 r1 f11 @dQ rl fl) ?_
  repeat refine ag ?_
  refine gp hd (by simp[cw,gW,dm,dQ]) ?_
  refine ae @dD ?_
  cases b with
  | true=>
   refine ae @Bool.not_true ?_;refine aw (i+1) ?_ ⟨by omega,hft rfl⟩;exact bQ [0]
  | false=>
   refine ae @Bool.not_false ?_;exact⟨[.row true (aq (ts.map tn))],.int .i64 i,⟨rfl,.inr ⟨i,dW,rfl,hf,by rw[ht];exact Vp⟩⟩,sq (cd:=True/\True) (vs:=[.int .i64 i]) rfl ⟨cW,cW⟩ rfl trivial rfl rfl rfl⟩
 intro h1 h2
 have U5:ts.take i=ts:=eo (by omega)
 rw[U5] at hf
 refine ae h2 ?_
 exact⟨[.row true (aq (ts.map tn))],.int .i64 (-1),⟨rfl,.inl ⟨rfl,hf⟩⟩,sq (cd:=True/\True) (vs:=[.int .i64 (-1)]) rfl ⟨cW,cW⟩ rfl trivial rfl rfl rfl⟩
def mB (ts:List Tm) (j:Nat):List Tm:=(ts.take j).filter oa++ts.drop ((ts.take j).filter oa).length
def lN (ts:List Tm) (j:Nat):Nat:=((ts.take j).filter oa).length
theorem Kk (ts:List Tm) (j:Nat):lN ts j<=j:=by
 unfold lN;have:=List.length_filter_le oa (ts.take j);rw[length_take] at this;omega
theorem E6 (ts:List Tm) {j:Nat} (h:j<=ts.length):(mB ts j).length=ts.length:=by
 have:=Kk ts j;unfold lN at this;unfold mB;rw[qe,length_drop];omega
theorem Kl {ts:List Tm} {j q:Nat} (h:lN ts j<=q) (hq:q<ts.length):(mB ts j).getD q ([],0)=ts[q]:=by
 unfold lN at h;unfold mB;rw[qa,getElem?_append_right h,List.getElem?_drop,Nat.add_sub_cancel' h,qb hq];rfl
theorem Mk {ts:List Tm} {j:Nat} (h:j<ts.length) (hz:oa ts[j]=true):mB ts (j+1)=(mB ts j).set (lN ts j) ts[j]/\lN ts (j+1)=lN ts j+1:=by
 have e:(ts.take (j+1)).filter oa=(ts.take j).filter oa++[ts[j]]:=by
  rw[List.take_add_one,qb h,filter_append];simp[hz]
 have hl:=Kk ts j;unfold lN at hl;unfold mB lN;rw[e,qe];refine⟨?_,rfl⟩;rw[List.set_append_right _ _ (qp _),Nat.sub_self,append_assoc];congr 1;rw[drop_eq_getElem_cons (i:=((ts.take j).filter oa).length) (by omega),set_cons_zero];rfl
theorem uU {ts:List Tm} {j:Nat} (h:j<ts.length) (hz:oa ts[j]=false):mB ts (j+1)=mB ts j/\lN ts (j+1)=lN ts j:=by
 have e:(ts.take (j+1)).filter oa=(ts.take j).filter oa:=by
  rw[List.take_add_one,qb h,filter_append];simp[hz]
 unfold mB lN;rw[e];exact⟨rfl,rfl⟩
theorem Ml {ts:List Tm}:lN ts ts.length=(ts.filter oa).length/\(mB ts ts.length).take (lN ts ts.length)=ts.filter oa:=by
 unfold mB lN;rw[List.take_length];exact⟨rfl,List.take_left' rfl⟩
theorem nF (ts:List Tm) (i:Nat) (t:Tm):(aq (ts.map tn)).set i (iz (tn t))=aq ((ts.set i t).map tn):=by rw[uR,List.map_set]
theorem uV {p:List Tm} {i:Nat} (h:i<p.length):(aq (p.map tn)).getD i []=iz (tn (p.getD i ([],0))):=by
 rw[c_ (by rw[length_map];exact h),s9 h,qa,qb h];rfl
theorem acY (ts:List Tm) (h8:Len8 ts) (hb: ∀ t∈ts,Bd 1000000000 t.2) (hn:ts.length<=10000000000):
 Den Tryz.prog 219 [.row true (aq (ts.map tn))] [.lsl 0 0 ts.length 11,nzV] [.row true (aq ((ts.filter oa).map tn))] (.lsl 0 0 (ts.filter oa).length 11):=by
 obtain⟨H1,res,⟨hH,ak⟩,ZJ⟩:=acX ts h8 hb hn
 obtain⟨n,cP⟩:=ax ts.length
 have rl:=av (ts.map tn)
 rw[length_map,cP] at rl
 rw[cP] at hn ZJ ⊢
 rcases ak with⟨rfl,hf⟩ | ⟨i,dW,rfl,hfi,hzi⟩
 .subst hH
  rw[hf,cP]
  have e1:((-1:Int)== -1)=true:=rfl
  refine dq Tryz.func219 40 1 ?_
  refine aY ?_
  refine ig 0 ZJ trivial ?_
  refine ae (bR e1 @Pw @append_nil.{0}) ?_
  exact sq (cd:=True/\True) (vs:=[.lsl 0 0 n 11]) rfl ⟨cW,cW⟩ rfl trivial rfl rfl rfl
 subst hH
 have e1:((i:Int)== -1)=false:=by rw[qx];omega
 have hI:lN ts (i+1)=i:=by
  rw[(uU dW hzi).2];unfold lN;rw[hfi,length_take];omega
 have hM:mB ts (i+1)=ts:=by
  rw[(uU dW hzi).1];unfold mB;rw[hfi,length_take,Nat.min_eq_left (by omega),List.take_append_drop]
 refine dq Tryz.func219 40 1 ?_
 refine aY ?_
 refine ig 0 ZJ trivial ?_
 refine ae (bR e1 @Pw @append_nil.{0}) ?_
 refine wl (α:=Nat) (fun j=>⟨[.lsl 0 0 n 11,nzV,.any,.any,.any,.int .i64 (lN ts j),.int .i64 j]++replicate 35 .any,[.row true (aq ((mB ts j).map tn))]⟩)
  (fun j=>n - j) (fun j=>j<=n/\lN ts j<j) (i+1) ?_ ⟨by omega,by omega⟩ ?_
 .rw[hI,hM]
  exact bQ [0]
 rintro j ⟨hj,pL⟩
 obtain⟨q,hq⟩:=ax (lN ts j)
 have hML:=E6 ts (j:=j) (by omega)
 rw[cP] at hML
 rw[hq] at pL ⊢
 have rm:=av ((mB ts j).map tn)
 rw[length_map,hML] at rm
 refine aY ?_
 refine bS ?_ ?_
 .intro h1 h2
  have lD:j<ts.length:=by omega
  have r1:=uV (p:=mB ts j) (i:=j) (by omega)
  rw[Kl (by omega) lD] at r1
  have r2:=uV (p:=mB ts j) (i:=q) (by omega)
  rw[Kl (by omega) (show q<ts.length by omega)] at r2
  have bm:ts[j]∈ts:=ki lD
  have hm:=h8 _ bm
  have hmq:=h8 _ (ki (show q<ts.length by omega))
  have hd:=WI ts[j] hm (hb _ bm)
  have hk:=Mk lD
  have f7:=uU lD
  have bc:=nF (mB ts j) q ts[j]
  rw[hq] at hk f7
  obtain⟨t,ht⟩:=ax (ts[j])
  rw[ht] at r1 hm hd hk f7 bc
  obtain⟨u,hu⟩:=ax (ts[q])
  rw[hu] at r2 hmq
  have lr:(tn t).1.length=8:=hm
  have Ly:(tn u).1.length=8:=hmq
  have f11:=aW lr
  have fl:=aK lr
  have flu:=aK Ly
  have du:=nC Ly
  have ZE:=dt lr
  have cl:=aG lr
  obtain⟨b,Vp⟩:=ax (oa t)
  rw[Vp] at hd hk f7
  refine ae (bT h2 r1 f11 @dQ rm fl cl (aP ZE @append_nil.{0})) ?_
  repeat refine ag ?_
  refine gp hd (by simp[cw,gW,dm,dQ]) ?_
  refine ae @dD ?_
  cases b with
  | true=>
   obtain⟨k1,k2⟩:=hk rfl;rw[<-k1] at bc;refine ae (bT @Bool.not_true @Bool.not_false r2 ZE cl fl flu (fE du rm @dm @dD bc @append_nil.{0})) ?_
   repeat refine ag ?_
   refine aw (j+1) ?_ ⟨by omega,by omega⟩;rw[k2];exact bQ [0]
  | false=>
   obtain⟨k1,k2⟩:=f7 rfl;refine ae (aP @Bool.not_true @Bool.not_false) ?_;refine aw (j+1) ?_ ⟨by omega,by omega⟩;rw[k1,k2];exact bQ [0]
 intro h1 h2
 have hjn:j=ts.length:=by omega
 subst hjn
 have Xh:=Ml (ts:=ts)
 rw[hq] at Xh
 have gv:List.take q (aq ((mB ts ts.length).map tn))=aq ((ts.filter oa).map tn):=by
  rw[<-Xh.2];simp[aq]
 rw[<-Xh.1]
 refine ae (bR h2 rm gv) ?_
 repeat refine ag ?_
 exact sq (cd:=True/\True) (vs:=[.lsl 0 0 q 11]) rfl ⟨cW,cW⟩ rfl trivial rfl rfl rfl
def oB:Nat->List Tm->List (List Int×PV)
 | _,[]=>[]
 | k,t::acc=>(t.1,.int .i64 k)::oB (k+1) acc
theorem nG (a m:List Int) (v:PV) (es:List (List Int×PV)):dJ ((a,v)::es) m=if a=m then some v else dJ es m:=by
 unfold dJ;by_cases h:a=m
 .rw[List.find?_cons_of_pos (by simpa using h),if_pos h];rfl
 rw[List.find?_cons_of_neg (by simpa using h),if_neg h]
theorem BF: ∀ {acc:List Tm} {k:Nat} {m:Mn},m∉acc.map (·.1)->dJ (oB k acc) m=none
 | [],_,_,_=>rfl
 | t::acc,k,m,h=>by
  have ih:=BF (acc:=acc) (k:=k+1) (m:=m) (fun h2=>h (mem_cons_of_mem _ h2));have cX:t.1≠m:=fun e=>h (by rw[<-e];simp)
  unfold oB;rw[nG,if_neg cX];exact ih
theorem E7: ∀ {acc:List Tm} {k:Nat} {m:Mn} {q:Rat},m∉acc.map (·.1)->jy (oB k acc) m (.int .i64 ((k+acc.length:Nat):Int))=oB k (acc++[(m,q)])
 | [],k,m,q,_=>rfl
 | t::acc,k,m,q,h=>by
  have ih:=E7 (acc:=acc) (k:=k+1) (m:=m) (q:=q) (fun h2=>h (mem_cons_of_mem _ h2));have cX:t.1≠m:=fun e=>h (by rw[<-e];simp)
  show(if(t.1==m)=true then _ else(t.1,PV.int .i64 k)::jy (oB (k+1) acc) m _)=(t.1,PV.int .i64 k)::oB (k+1) (acc++[(m,q)]);rw[if_neg (by simpa using cX),<-ih,length_cons];congr 4;omega
theorem xP: ∀ {acc:List Tm} {m:Mn} {q:Rat},m∉acc.map (·.1)->accAdd acc m q=acc++[(m,q)]
 | [],_,_,_=>rfl
 | t::acc,m,q,h=>by
  have ih:=xP (acc:=acc) (m:=m) (q:=q) (fun h2=>h (mem_cons_of_mem _ h2));have cX:t.1≠m:=fun e=>h (by rw[<-e];simp)
  unfold accAdd;rw[if_neg cX,ih];rfl
theorem BG: ∀ {acc:List Tm} {k:Nat} {m:Mn} (q:Rat),m∈acc.map (·.1)-> ∃ i,∃ h:i<acc.length,acc[i].1=m/\dJ (oB k acc) m=some (.int .i64 ((k+i:Nat):Int))/\
 accAdd acc m q=acc.set i (m,acc[i].2+q)/\oB k (acc.set i (m,acc[i].2+q))=oB k acc
 | [],_,_,_,h=>by simp at h
 | t::acc,k,m,q,h=>by
  by_cases he:t.1=m
  .refine⟨0,by simp,he,?_,?_,?_⟩
   .unfold oB;rw[nG,if_pos he];rfl
   .unfold accAdd;rw[if_pos he,set_cons_zero,List.getElem_cons_zero,<-he]
   rw[set_cons_zero];show(m,_)::oB (k+1) acc=(t.1,_)::oB (k+1) acc;rw[he]
  have hm:m∈acc.map (·.1):=by
   rcases List.mem_cons.1 h with h2 | h2
   .exact absurd h2.symm he
   exact h2
  obtain⟨i,hi,h1,h2,h3,h4⟩:=BG (k:=k+1) q hm;refine⟨i+1,by simpa using hi,h1,?_,?_,?_⟩
  .unfold oB;rw[nG,if_neg he,h2];congr 3;omega
  .unfold accAdd;rw[if_neg he,h3];rfl
  show(t.1,_)::oB (k+1) (acc.set i (m,acc[i].2+q))=(t.1,_)::oB (k+1) acc;rw[h4]
theorem E8 {t:RT} {r:Raw} (h:t.1.length=8):List.take 8 (iz t)++r.f++List.drop 11 (iz t)=iz (t.1,r):=by
 rw[p7 h,nC h,append_nil];rfl
theorem E9 {t:RT} (h:t.1.length=8):List.take 3 (List.drop 8 (iz t))=t.2.f:=by rw[uL h];rfl
theorem acZ (s t:RT) (hs:s.1.length=8) (ht:t.1.length=8):Den Tryz.prog 221 [] [.agg [.int .i64 8],.agg (fM s),.agg (fM t)] [] (.int .i64 (-(iY s.1 t.1))):=by
 have h1:=Wz s.1 t.1 8 hs ht (by decide);have g1:=sZ s.1 8 hs;have g2:=sZ t.1 8 ht;have r:=rR s.1 t.1;obtain⟨z,hz⟩:=ax (iY s.1 t.1);rw[hz] at h1 r ⊢;have ls:=aG hs;have lt:=aG ht;have k1:=dN hs;have k2:=dN ht;have i1:List.take 8 (ints s.1)=ints s.1:=eo (by rw[cu];omega);have i2:List.take 8 (ints t.1)=ints t.1:=eo (by rw[cu];omega);have e0:(0:Int) - z= -z:=by omega
 refine dq Tryz.func221 14 0 ?_;refine bU (aP ls lt) ?_
 repeat refine ag ?_
 refine Draw.freeze [1,2] (by kernel_rfl) ?_;simp -dsimp(disch:=omega) only[k1,nu,oZ,ls,g1,Option.isSome_none,i1,Int.reduceToNat,↓reduceIte,Nat.reduceMul,Nat.reduceSub,reduceLT,reduceLeDiff,ru]
 repeat refine ag ?_
 simp -dsimp(disch:=omega) only[k2,nu,oZ,lt,g2,Option.isSome_none,i2,Int.reduceToNat,↓reduceIte,Nat.reduceMul,Nat.reduceSub,reduceLT,reduceLeDiff,ru]
 repeat refine ag ?_
 refine ba ?_;refine gp h1 (by simp[cw,gW,fS,fB]) ?_;refine ae e0 ?_
 repeat refine ag ?_
 refine bj rfl
theorem rZ {p:List Tm} {i:Nat} (h:i<p.length):(aq (p.map tn)).getD i []=iz (tn p[i]):=by
 rw[c_ (by rw[length_map];exact h),s9 h]
theorem Mm (l:List Tm):l.filter oa=l.filter (fun t=>decide (t.2≠0)):=rfl
theorem Km (ts:List RT) (h8:TsOk 1000000000 ts) (hb:PB 1000000000 (ts.map tq)) (hn:ts.length<=1000000000) (hs:(nf (ts.map tq)).length<=bH):
 Den Tryz.prog 185 [] [PL ts] [] (PL ((nf (ts.map tq)).map tn)):=by
 have rl:=av ts
 obtain⟨n,cP⟩:=ax ts.length
 rw[cP] at rl hn
 obtain⟨T,hT⟩:=ax (ts.map tq)
 have hTl:T.length=n:=by rw[<-hT,length_map,cP]
 have Vi:Len8 T:=by rw[<-hT];exact s_ h8.l8
 rw[hT] at hb hs ⊢
 refine dq Tryz.func185 60 0 ?_
 refine bU rl ?_
 repeat refine ag ?_
 refine wl (α:=Nat) (fun i=>⟨[PL ts,.any,.any,.tab 0,.lsl 1 0 (accL (T.take i)).length 11,.any,.any,.any,.any,.any,.any,.any,.any,PL ts,.int .i64 n,.int .i64 i]++replicate 45 .any,[.tab 8 (oB 0 (accL (T.take i))),.row true (aq ((accL (T.take i)).map tn))]⟩) (fun i=>n - i) (fun i=>i<=n) 0 ?_ (eB _) ?_
 .refine eS [0,1] ?_ ?_
  .simp[bk,dV,cC]
   simp[accL]
  simp[et,fK]
  simp[accL,oB,aq]
 rintro i hi
 have oE:(accL (T.take i)).length<=i:=by
  have:=EG (T.take i);rw[length_take] at this;omega
 have vY:=uK (ts:=T.take i) (fun t ht=>Vi t (AY ht))
 obtain⟨acc,vp⟩:=ax (accL (T.take i))
 have hbA: ∀ t∈acc,Bd 1000000000 t.2:=by rw[<-vp];exact((hb.take i).accL).bd (by decide)
 rw[vp] at oE vY ⊢
 obtain⟨K,hK⟩:=ax acc.length
 have rm:=av (acc.map tn)
 rw[length_map,hK] at rm
 have tkm:=bO (ts:=acc.map tn) (n:=K) (by rw[length_map];omega)
 rw[hK] at oE ⊢
 refine aY ?_
 refine bS ?_ ?_
 .intro h1 h2
  have r1:=c_ (ts:=ts) (i:=i) (by omega)
  have bm:=f9 (ts:=ts) (i:=i) (by omega)
  have bg:=h8 _ bm
  have ez:T.take (i+1)=T.take i++[tq (ts.getD i oO)]:=by
   rw[List.take_add_one,<-hT,List.getElem?_map,qa,qb (by omega)];rfl
  obtain⟨t,ht⟩:=ax (ts.getD i oO)
  rw[ht] at r1 bg ez
  have Vj:=Bj (T.take i) (tq t)
  rw[<-ez,vp] at Vj
  change accL (T.take (i+1))=accAdd acc t.1 t.2.q at Vj
  have hm:=bg.len
  have Xj:=bg.rng
  have Jl:=aW hm
  have fl:=aK hm
  have c8:=dN hm
  have cl:=aG hm
  have ml:=bN t.1
  rw[hm] at ml
  have m8:=jN hm
  have cc:=dU hm
  have aey:(∀ x∈t.1,-9223372036854775808<=x/\x<9223372036854775808):=fun x hx=>by have:=Xj x hx;omega
  by_cases hk:t.1∈acc.map (·.1)
  .obtain⟨j,hj,Ss,zI,NM,vk⟩:=BG (k:=0) t.2.q hk
   rw[Nat.zero_add] at zI
   have r2:=rZ hj
   have hmj:=vY _ (ki hj)
   have hbj:=hbA _ (ki hj)
   have bc:=nF acc j (t.1,acc[j].2+t.2.q)
   rw[<-NM] at bc vk
   obtain⟨u,hu⟩:=ax (acc[j])
   rw[hu] at r2 hmj hbj bc Ss
   have DL:=JV (cn u.2) t.2 (bC hbj) bg.raw
   rw[de] at DL
   change Den Tryz.prog 69 [] [.agg (cn u.2).c,.agg t.2.c] [] (.agg (cn (u.2+t.2.q)).c) at DL
   change _=aq _ at bc
   have htu:(tn u).1.length=8:=hmj
   have pf:=E8 (r:=cn (u.2+t.2.q)) htu
   change _=iz (u.1,cn (u.2+t.2.q)) at pf
   rw[Ss] at pf
   change (aq (acc.map tn)).set j (iz (t.1,cn (u.2+t.2.q)))=_ at bc
   have flu:=aK htu
   have cfu:=E9 htu
   change List.take 3 (List.drop 8 (iz (tn u)))=(cn u.2).f at cfu
   obtain⟨z,hz⟩:=ax (cn (u.2+t.2.q))
   rw[hz] at DL pf bc
   have pf2:List.take 8 (iz (tn u))++(z.f++List.drop (8+z.f.length) (iz (tn u)))=iz (t.1,z):=by
    rw[<-append_assoc];exact pf
   have aD:(accAdd acc t.1 t.2.q).length=K:=by rw[NM,length_set,hK]
   have hjK:j<K:=by omega
   simp -dsimp(disch:=omega) only[h2,r1,Jl,dQ,fl,c8,cl,rl,append_nil,hm,zI,Option.getD_some,Option.isSome_some,↓reduceIte,reduceAdd,reduceLT,reduceLeDiff,ru]
   repeat refine ag ?_
   refine dw (by kernel_rfl) ?_
   refine ae (fw r2 rm flu cfu @Ma cl cc) ?_
   repeat refine ag ?_
   refine zq DL ?_
   refine ae (bT @gj @dP @cJ r2 rm flu @EN @append_nil.{0}) ?_
   repeat refine ag ?_
   refine aw (i+1) ?_ (by omega)
   rw[Vj,aD,<-vk]
   refine eS [0,1] ?_ ?_
   .simp[bk,dV,cC]
   simp[et,fK]
   rw[pf2,bc]
  have zI:=BF (k:=0) hk
  have bX:=E7 (k:=0) (q:=t.2.q) hk
  rw[Nat.zero_add,hK] at bX
  have NM:=xP (q:=t.2.q) hk
  have h41:=OO t.2 (bg.raw.mono (by decide))
  change Den Tryz.prog 68 [] [.agg t.2.c] [] (.agg (cn t.2.q).c) at h41
  have cG:=eF (acc.map tn) (tn (t.1,t.2.q))
  rw[<-o7,<-NM] at cG
  rw[<-NM] at bX
  change aq (acc.map tn)++[iz (t.1,cn t.2.q)]=_ at cG
  obtain⟨z,hz⟩:=ax (cn t.2.q)
  rw[hz] at h41 cG
  have aD:(accAdd acc t.1 t.2.q).length=K+1:=by rw[NM,qe,hK];rfl
  have tz:((t.1,z):RT).1.length=8:=hm
  have ZE:=dt tz
  have clz:=aG tz
  have f11:=aW tz
  have flz:=aK tz
  have bl:=wK hm (.fv (.lit (.bool false))) PV.nilsl PV.nilsl
  have pc:=CR hm (.fv (.lit (.bool false))) PV.nilsl PV.nilsl z
  simp -dsimp(disch:=omega) only[h2,r1,Jl,dQ,fl,c8,cl,rl,append_nil,hm,zI,Option.getD_none,Option.isSome_none,bX,still,↓reduceIte,reduceAdd,reduceLT,reduceLeDiff,ru]
  repeat refine ag ?_
  refine dw (by kernel_rfl) ?_
  refine ae (bR c8 cl cc) ?_
  repeat refine ag ?_
  refine zq h41 ?_
  refine ae (bT @gj @dP @cJ ml bl pc clz (fw f11 @dm @dD rm tkm cG @append_nil.{0})) ?_
  repeat refine ag ?_
  refine aw (i+1) ?_ (by omega)
  rw[Vj,aD]
  exact bQ [0,4]
 intro h1 h2
 have U5:T.take i=T:=eo (by omega)
 rw[U5] at vp
 have kL:n8 T=acc.filter oa:=by rw[Mm,<-vp];rfl
 have Jn:=EM Vi
 rw[kL] at Jn
 have Vq:=acY acc vY hbA (by omega)
 rw[hK] at Vq
 obtain⟨out,dF⟩:=ax (acc.filter oa)
 rw[dF] at kL Jn Vq
 have ZD: ∀ t∈out.map tn,t.1.length=8:=fun t ht=>by
  obtain⟨u,hu,rfl⟩:=mem_map.1 ht;rw[<-dF] at hu;exact vY u (List.mem_filter.1 hu).1
 obtain⟨ls',hp,hso,Jo⟩:=WE 221 (.agg #[.int .i64 8]) (.lit (.int .i64 8)) rfl (out.map tn) ZD (by rw[length_map];omega) (fun s hs t ht=>acZ s t (ZD s hs) (ZD t ht))
 have ak:ls'=(nf T).map tn:=by
  have h5:(ls'.map tq).Perm (n8 T):=by
   rw[kL];have:=hp.map tq;rw[bF] at this;exact this
  have h6:(ls'.map tq).Pairwise (fun a b=>g5 b.1 a.1=false):=by
   rw[List.pairwise_map];refine hso.imp ?_;intro a b vo;have: ¬g5 b.1 a.1=true:=vo;exact Bool.eq_false_iff.2 this
  rw[<-J7 Vi h5 h6,List.map_map]
  conv=>lhs;rw[<-List.map_id ls']
  refine List.map_congr_left (fun t ht=>?_);obtain⟨w,_,rfl⟩:=mem_map.1 (hp.mem_iff.1 ht);show tn w=tn (tq (tn w));rw[Pv]
 rw[ak] at Jo
 obtain⟨O,Vk⟩:=ax out.length
 rw[Vk] at Jn Vq
 have oT:((nf T).map tn).length=O:=by rw[length_map,<-Jn]
 have tkf:=bO (ts:=(nf T).map tn) (n:=O) (by omega)
 have rf:=av ((nf T).map tn)
 rw[oT] at rf
 rw[length_map,Vk] at Jo
 have hfa: ∀ cs l (H:List Ob),rE H (.agg cs::l)=none:=fun cs l H=>by simp[rE,fS,fB]
 refine ae h2 ?_
 refine ig 1 Vq trivial ?_
 have dT:lent 1 2 0=1:=rfl
 refine ae (eg @Pw hfa dT @append_nil.{0}) ?_
 refine ig 1 Jo trivial ?_
 refine ae (aP @Pw @append_nil.{0}) ?_
 refine bj ?_
 exact l7 (aP tkf rf)
theorem Kn {ts:List RT} (h: ∀ t∈ts,t.1.length=8):(∀ y,y∈aq ts->y.length=11)=True:=by
 refine eq_true (fun y hy=>?_);obtain⟨t,ht,rfl⟩:=mem_map.1 hy;exact aK (h t ht)
theorem WJ (ts:List RT) (h8: ∀ t∈ts,t.1.length=8) (hn:ts.length<=1000000000):Den Tryz.prog 186 [] [PL ts] [.row true (aq ts)] (.lsl 0 0 ts.length 11):=by
 cases ts with
 | nil=>
  show Den Tryz.prog 186 [] ([]++ .fv (.sl [])::[]) [.row true []] (.lsl 0 0 0 11);refine Den.empty' ?_ (fun b o cap=>?_)
  .show Den Tryz.prog 186 [] [.nilsl] [.row true []] (.lsl 0 0 0 11);refine Lm JK JL Tryz.func186 (cd:=_) rfl (by decide) rfl (n:=7) rfl rfl ?_ 11 (by decide);refine bU @vU ?_;exact⟨_,rfl,cW,cW⟩
  .show Den Tryz.prog 186 [] [.fv (.lit (.slice (some ⟨b,o,none⟩) 0 cap))] [.row true []] (.lsl 0 0 0 11);refine dq Tryz.func186 7 0 ?_;refine aY ?_;exact RetOK.own rfl ⟨cW,cW⟩ rfl
 | cons a t=>
  have h11:=Kn h8;have rl:=av (a::t);show Den Tryz.prog 186 [] [.fv (.sl (aq (a::t)))] [.row true (aq (a::t))] (.lsl 0 0 (a::t).length 11);have e:aq (a::t)=iz a::aq t:=rfl;rw[e] at h11 rl ⊢;obtain⟨n,cP⟩:=ax ((a::t).length);rw[cP] at rl hn ⊢;obtain⟨us,gS⟩:=ax (iz a::aq t);have zt:us.length=n:=by rw[<-gS];exact rl
  refine dq Tryz.func186 7 0 ?_;refine aY ?_;rw[gS] at h11 ⊢;have U_:(aq t).length+1=n:=by simpa using rl
  refine ae (aP h11 U_) ?_;refine⟨⟨by omega,by omega⟩,?_⟩;exact RetOK.own rfl ⟨cW,cW⟩ rfl
theorem Mo (a b:List RT):aq a++aq b=aq (a++b):=by simp[aq]
theorem ac0 (ps qs:List RT) (h8:TsOk 1000000000 ps) (h8q:TsOk 1000000000 qs) (hb:PB 1000000000 ((ps++qs).map tq)) (hn:ps.length<=400000000) (Xl:qs.length<=400000000) (hs:(nf ((ps++qs).map tq)).length<=bH):
 Den Tryz.prog 139 [] [PL ps,PL qs] [] (PL ((nf ((ps++qs).map tq)).map tn)):=by
 have RO:=WJ ps h8.l8 (by omega)
 have wx:=Km (ps++qs) (fun t ht=>by
  rcases List.mem_append.1 ht with h | h
  .exact h8 t h
  exact h8q t h) hb (by rw[qe];omega) hs
 have cG:=Mo ps qs
 have lp:=av ps
 have lq:=av qs
 have la:=av (ps++qs)
 rw[qe] at la
 have tp:=bO (ts:=ps) (n:=ps.length) (qp _)
 have ta:=bO (ts:=ps++qs) (n:=ps.length+qs.length) (by rw[qe];omega)
 have q11:=Kn h8q.l8
 obtain⟨R,hR⟩:=ax ((nf ((ps++qs).map tq)).map tn)
 rw[hR] at wx ⊢
 refine dq Tryz.func139 8 0 ?_
 refine aY ?_
 refine aV RO ?_
 refine ae (im tp lp lq q11 @append_nil.{0}) ?_
 refine⟨⟨by omega,by omega,by omega⟩,?_⟩
 refine ae cG ?_
 refine gp wx (by simp[cw,gW,fS,fB,ta,la]) ?_
 refine ba ?_
 refine bj rfl
theorem dE (p:List Tm) (r:Rat):(c9 p r).length=p.length:=by simp[c9]
def r5 (p:List Tm) (r:Rat) (i:Nat):List Tm:=c9 (p.take i) r++p.drop i
theorem E_ (p:List Tm) (r:Rat) {i:Nat} (h:i<=p.length):(r5 p r i).length=p.length:=by
 unfold r5;rw[qe,dE,length_take,length_drop];omega
theorem Tn {p:List Tm} {r:Rat} {i:Nat} (h:i<p.length):(r5 p r i).getD i ([],0)=p[i]:=by
 have e:(c9 (p.take i) r).length=i:=by rw[dE,length_take];omega
 unfold r5;rw[qa,getElem?_append_right (by omega),e,Nat.sub_self,List.getElem?_drop,qb (by omega)];rfl
theorem Mp {p:List Tm} {r:Rat} {i:Nat} (h:i<p.length):(r5 p r i).set i (p[i].1,p[i].2*r)=r5 p r (i+1):=by
 have e:(c9 (p.take i) r).length=i:=by rw[dE,length_take];omega
 unfold r5;rw[List.set_append_right _ _ (by omega),e,Nat.sub_self,drop_eq_getElem_cons h,set_cons_zero];unfold c9;rw[List.take_add_one,qb h,vw,append_assoc];rfl
theorem Mq (p:List Tm) (r:Rat):r5 p r p.length=c9 p r:=by
 unfold r5;rw[List.take_length,List.drop_length,append_nil]
theorem PC {p:List Tm} {r:Rat} {j k:Nat} (h: ∀ t∈p,Bd j t.2) (hr:Bd k r) (hk:1<=j+k): ∀ t∈c9 p r,Bd (j+k) t.2:=fun t ht=>by
 obtain⟨u,hu,rfl⟩:=mem_map.1 ht;exact Bd.mul (h u hu) hr hk
theorem POk.scale {j k:Nat} {E:Int} {p:List Tm} {r:Rat} (h:POk j E p) (hr:Bd k r) (hk:1<=j+k) (h0:r≠0):POk (j+k) E (c9 p r):=by
 refine⟨⟨?_,?_,Len8.scale h.canon.len⟩,PC h.bd hr hk,?_⟩
 .unfold c9;rw[List.pairwise_map];exact h.canon.sorted
 .intro t ht;obtain⟨u,hu,rfl⟩:=mem_map.1 ht;have:=h.canon.nz u hu;exact fun h2=>by
   rcases Rat.mul_eq_zero.1 h2 with h3 | h3
   .exact this h3
   exact h0 h3
 intro t ht e he;obtain⟨u,hu,rfl⟩:=mem_map.1 ht;exact h.exp u hu e he
theorem ac1 (p:List Tm) (r:Rat) (hp:POk 10000000 1000000 p) (hr:Bd 10000 r) (h0:r≠0) (hn:p.length<=50) (hs:p.length<=bH):
 Den Tryz.prog 163 [] [PL (p.map tn),.agg (cn r).c] [] (PL ((c9 p r).map tn)):=by
 have hTs:=hp.ts (by decide)
 have md:=hp.scale hr (by decide) h0
 have hTp:=md.ts (by decide)
 have RO:=WJ (p.map tn) hTs.l8 (by rw[length_map];omega)
 rw[length_map] at RO
 have wx:=Km ((c9 p r).map tn) (fun t ht=>(hTp t ht).mono (by decide)) (by
  rw[bF];exact PB.terms (n:=50) (by decide) md.bd (by rw[dE];exact hn) (by decide)) (by rw[length_map,dE];omega) (by rw[bF,e_ md.canon,dE];exact hs)
 rw[bF,e_ md.canon] at wx
 obtain⟨n,cP⟩:=ax p.length
 rw[cP] at RO
 have lC:=Mq p r
 rw[cP] at lC
 have hM0:r5 p r 0=p:=rfl
 have rT:=av ((c9 p r).map tn)
 rw[length_map,dE,cP] at rT
 have tkT:=bO (ts:=(c9 p r).map tn) (n:=n) (by rw[length_map,dE];omega)
 refine dq Tryz.func163 26 0 ?_
 refine bU @cJ ?_
 repeat refine ag ?_
 refine aV RO ?_
 refine ba ?_
 refine wl (α:=Nat) (fun i=>⟨[.any,.any,.any,.ptr 0 0 0,.any,.lsl 1 0 n 11,.any,.any,.any,.any,.int .i64 n,.int .i64 i]++replicate 16 .any,[.box true (cn r).c,.row true (aq ((r5 p r i).map tn))]⟩) (fun i=>n - i) (fun i=>i<=n) 0 ?_ (eB _) ?_
 .rw[hM0]
  refine eS [0,1] ?_ ?_
  .simp[bk,dV,cC]
  simp[et,fK,acK]
 intro i hi
 have hML:=E_ p r (i:=i) (by omega)
 rw[cP] at hML
 have rm:=av ((r5 p r i).map tn)
 rw[length_map,hML] at rm
 refine aY ?_
 refine bS ?_ ?_
 .intro h1 h2
  have dW:i<p.length:=by omega
  have r1:=uV (p:=r5 p r i) (i:=i) (by omega)
  rw[Tn dW] at r1
  have bm:p[i]∈p:=ki dW
  have Od:=hp.bd _ bm
  have hm:=hp.canon.len _ bm
  have bc:=nF (r5 p r i) i (p[i].1,p[i].2*r)
  rw[Mp dW] at bc
  obtain⟨t,ht⟩:=ax (p[i])
  rw[ht] at r1 Od hm bc
  have G4:=OQ (cn t.2) (cn r) ((bC Od).mono (by decide)) ((bC hr).mono (by decide))
  rw[de,de] at G4
  change Den Tryz.prog 70 [] [.agg (cn t.2).c,.agg (cn r).c] [] (.agg (cn (t.2*r)).c) at G4
  have U7:(tn t).1.length=8:=hm
  have pf:=E8 (r:=cn (t.2*r)) U7
  change _=iz (t.1,cn (t.2*r)) at pf
  change (aq ((r5 p r i).map tn)).set i (iz (t.1,cn (t.2*r)))=_ at bc
  have fl:=aK U7
  have cf:=E9 U7
  change List.take 3 (List.drop 8 (iz (tn t)))=(cn t.2).f at cf
  obtain⟨z,hz⟩:=ax (cn (t.2*r))
  rw[hz] at G4 pf bc
  obtain⟨y,hy⟩:=ax (cn r)
  rw[hy] at G4 ⊢
  have pf2:List.take 8 (iz (tn t))++(z.f++List.drop (8+z.f.length) (iz (tn t)))=iz (t.1,z):=by
   rw[<-append_assoc];exact pf
  refine ae h2 ?_
  refine dw (by kernel_rfl) ?_
  refine ae (fw r1 rm fl cf @Ma @cJ @xD) ?_
  repeat refine ag ?_
  refine zq G4 ?_
  refine ae (bT @gj @dP @cJ r1 rm fl @EN @append_nil.{0}) ?_
  repeat refine ag ?_
  refine aw (i+1) ?_ (by omega)
  refine eS [0,1] ?_ ?_
  .simp[bk,dV,cC]
  simp[et,fK,acK]
  rw[pf2,bc]
 intro h1 h2
 have gF:i=n:=by omega
 subst gF
 rw[lC]
 refine ae h2 ?_
 refine gp wx (by simp[cw,gW,fS,fB,tkT,rT]) ?_
 refine ba ?_
 refine bj rfl
theorem ac2 (p:List Tm) (hp:POk 10000000 1000000 p) (hn:p.length<=50) (hs:p.length<=bH):
 Den Tryz.prog 140 [] [PL (p.map tn)] [] (PL ((c9 p (-1)).map tn)):=by
 have AN:=xj (-1) (by omega)
 have ZK:=ac1 p (-1) hp (Bd.mono (j:=1) (Go.Pl.bd_int (x:= -1) (by decide)) (by decide)) (by decide) hn hs
 change Den Tryz.prog 74 [] [.int .i64 (-1)] [] (.agg (cn (-1)).c) at AN
 obtain⟨z,hz⟩:=ax (cn (-1))
 rw[hz] at AN ZK
 obtain⟨P,hP⟩:=ax (p.map tn)
 obtain⟨Q,hQ⟩:=ax ((c9 p (-1)).map tn)
 rw[hP,hQ] at ZK
 rw[hP,hQ]
 refine dq Tryz.func140 5 0 ?_
 refine aY ?_
 refine aV AN ?_
 refine ae (aP @dP @append_nil.{0}) ?_
 refine aV ZK ?_
 refine ba ?_
 refine bj rfl
theorem CS:Bd 1 (-1:Rat):=Go.Pl.bd_int (x:= -1) (by decide)
structure LOkT (k:Nat) (E:Int) (p:List Tm):Prop where
 len:Len8 p
 bd: ∀ t∈p,Bd k t.2
 exp: ∀ t∈p,∀ e∈t.1,0<=e/\e<=E
theorem POk.l {k:Nat} {E:Int} {p:List Tm} (h:POk k E p):LOkT k E p:=⟨h.canon.len,h.bd,h.exp⟩
theorem LOkT.ts {k:Nat} {E:Int} {p:List Tm} (h:LOkT k E p) (hE:E<=1000000000000):TsOk k (p.map tn):=fun t ht=>by
 obtain⟨u,hu,rfl⟩:=mem_map.1 ht;exact⟨h.len u hu,fun x hx=>by have:=h.exp u hu x hx;omega,bC (h.bd u hu)⟩
theorem LOkT.app {k:Nat} {E:Int} {p q:List Tm} (h:LOkT k E p) (hq:LOkT k E q):LOkT k E (p++q):=by
 refine⟨h.len.app hq.len,fun t ht=>?_,fun t ht=>?_⟩<;>rcases List.mem_append.1 ht with h1 | h1
 .exact h.bd t h1
 .exact hq.bd t h1
 .exact h.exp t h1
 exact hq.exp t h1
theorem LOkT.mono {j k:Nat} {E F:Int} {p:List Tm} (h:LOkT j E p) (hk:j<=k) (hE:E<=F):LOkT k F p:=
 ⟨h.len,fun t ht=>(h.bd t ht).mono hk,fun t ht e he=>by have:=h.exp t ht e he;omega⟩
theorem H4 (p q:List Tm) (hp:LOkT 10000000 1000000 p) (hq:LOkT 10000000 1000000 q) (hn:p.length<=20) (Xl:q.length<=20) (hs:(nf (p++q)).length<=bH):
 Den Tryz.prog 139 [] [PL (p.map tn),PL (q.map tn)] [] (PL ((nf (p++q)).map tn)):=by
 have e:((p.map tn)++(q.map tn)).map tq=p++q:=by rw[<-vw,bF]
 have h:=ac0 (p.map tn) (q.map tn) (fun t ht=>((hp.ts (by decide)) t ht).mono (by decide)) (fun t ht=>((hq.ts (by decide)) t ht).mono (by decide)) (by
  rw[e];exact PB.terms (n:=40) (j:=10000000) (by decide) (hp.app hq).bd (by rw[qe];omega) (by decide)) (by rw[length_map];omega) (by rw[length_map];omega) (by rw[e];exact hs)
 rw[e] at h
 exact h
theorem ahG (p q:List Tm) (hp:POk 1000000 1000000 p) (hq:POk 1000000 1000000 q) (hn:p.length<=20) (Xl:q.length<=20) (hqs:q.length<=bH) (hs:(nf (p++c9 q (-1))).length<=bH):
 Den Tryz.prog 85 [] [PL (p.map tn),PL (q.map tn)] [] (PL ((nf (p++c9 q (-1))).map tn)):=by
 have h1:=ac2 q (hq.mono (by decide) (by decide)) (by omega) hqs
 have h2:=H4 p (c9 q (-1)) (hp.mono (by decide) (by decide)).l ((hq.scale CS (by decide) (by decide)).mono (by decide) (by decide)).l hn (by rw[dE];exact Xl) hs
 obtain⟨P,hP⟩:=ax (p.map tn)
 obtain⟨Q,hQ⟩:=ax (q.map tn)
 obtain⟨N,hN⟩:=ax ((c9 q (-1)).map tn)
 obtain⟨R,hR⟩:=ax ((nf (p++c9 q (-1))).map tn)
 rw[hQ,hN] at h1
 rw[hP,hN,hR] at h2
 rw[hP,hQ,hR]
 refine dq Tryz.func85 7 0 ?_
 refine aY ?_
 refine aV h1 ?_
 refine ba ?_
 refine aV h2 ?_
 refine ba ?_
 refine bj rfl
def lO (a b:Mn) (i:Nat):Mn:=fe (a.take i) (b.take i)++a.drop i
theorem kZ {a b:Mn} {i:Nat} (ha:a.length=8) (hb:b.length=8) (hi:i<=8):(lO a b i).length=8:=by
 unfold lO fe;rw[qe,length_zipWith,length_take,length_take,length_drop];omega
theorem Ko {a b:Mn} {i:Nat} (ha:a.length=8) (hb:b.length=8) (hi:i<8):(lO a b i).getD i 0=a.getD i 0:=by
 have e:(fe (a.take i) (b.take i)).length=i:=by
  unfold fe;rw[length_zipWith,length_take,length_take];omega
 unfold lO;rw[qa,getElem?_append_right (by omega),e,Nat.sub_self,List.getElem?_drop,qa];rfl
theorem BH {a b:Mn} {i:Nat} (ha:a.length=8) (hb:b.length=8) (hi:i<8):(lO a b i).set i (a.getD i 0+b.getD i 0)=lO a b (i+1):=by
 have e:(fe (a.take i) (b.take i)).length=i:=by
  unfold fe;rw[length_zipWith,length_take,length_take];omega
 unfold lO;rw[List.set_append_right _ _ (by omega),e,Nat.sub_self,drop_eq_getElem_cons (i:=i) (by omega),set_cons_zero];rw[List.take_add_one,qb (l:=a) (by omega),List.take_add_one,qb (l:=b) (by omega)];unfold fe;rw[List.zipWith_append (by rw[length_take,length_take];omega),append_assoc];rw[qa,qb (by omega),qa,qb (by omega)];rfl
theorem BI {a b:Mn} (ha:a.length=8) (hb:b.length=8):lO a b 8=fe a b:=by
 unfold lO;rw[eo (by omega),eo (by omega),List.drop_of_length_le (by omega),append_nil]
theorem Kq (H:List Ob) (keep:List Nat): ∀ m:List Int,tK H keep (mC m)=some (mC m)
 | []=>rfl
 | n::m=>by
  have ih:=Kq H keep m;unfold mC at ih ⊢;simp only[map_cons,tK,ih];rfl
theorem ac3 (a b:Mn) (ha:a.length=8) (hb:b.length=8) (ra: ∀ x∈a,0<=x/\x<=1000000) (rb: ∀ x∈b,0<=x/\x<=1000000):
 Den Tryz.prog 188 [] [.agg (mC a),.agg (mC b)] [] (.agg (mC (fe a b))):=by
 have la:=bN a
 have lb:=bN b
 rw[ha] at la
 rw[hb] at lb
 have ta:=jN ha
 have tb:=jN hb
 have hd:=BI ha hb
 have h0:lO a b 0=a:=by simp[lO,fe]
 refine dq Tryz.func188 17 0 ?_
 refine bU (aP la lb) ?_
 repeat refine ag ?_
 refine wl (α:=Nat) (fun i=>⟨[.any,.any,.ptr 0 0 0,.ptr 1 0 0,.ptr 2 0 0,.any,.int .i64 i]++replicate 12 .any,[.box true (mC (lO a b i)),.box true (mC b),.box true (mC z8)]⟩) (fun i=>8 - i) (fun i=>i<=8) 0 ?_ (eB _) ?_
 .rw[h0]
  refine eS [0,1,2] ?_ ?_
  .simp[bk,dV,cC]
  simp[et,fK,sX]
  exact sX _ z8
 intro i hi
 have lI:=bN (lO a b i)
 rw[kZ ha hb hi] at lI
 refine aY ?_
 refine bS ?_ ?_
 .intro h1 h2
  have a1:=Bv (m:=lO a b i) (i:=i) (by rw[kZ ha hb hi];omega)
  rw[Ko ha hb (by omega)] at a1
  have b1:=Bv (m:=b) (i:=i) (by omega)
  have bX:=O' (m:=lO a b i) (i:=i) (x:=a.getD i 0+b.getD i 0) (by rw[kZ ha hb hi];omega)
  rw[BH ha hb (by omega)] at bX
  have ga:=jo (by decide) ra i
  have gb:=jo (by decide) rb i
  obtain⟨x,hx⟩:=ax (a.getD i 0)
  obtain⟨y,hy⟩:=ax (b.getD i 0)
  rw[hx] at a1 bX ga
  rw[hy] at b1 bX gb
  refine ae h2 ?_
  refine dw (by kernel_rfl) ?_
  refine ae (fE a1 b1 lI lb @Nat.mul_one bX) ?_
  repeat refine ag ?_
  refine aw (i+1) ?_ (by omega)
  refine eS [0,1,2] ?_ ?_
  .simp[bk,dV,cC]
  simp[et,fK,sX]
 intro h1 h2
 have uc:i=8:=by omega
 subst uc
 rw[hd]
 have ld:=bN (fe a b)
 rw[g_ ha hb] at ld
 have td:=jN (g_ ha hb)
 have lz:(mC z8).length=8:=rfl
 have dz:List.drop 8 (mC z8)=[]:=rfl
 refine ae (fE h2 ld td lz dz @append_nil.{0}) ?_
 repeat refine ag ?_
 refine Sn rfl ⟨⟨rfl,by rw[ld];exact qp 8⟩,cW⟩ ?_
 show tL _ [] (.agg (List.take 8 (mC (fe a b))))=_
 rw[td]
 show(tK _ [] (mC (fe a b))).map PV.agg=_
 rw[Kq]
 rfl
end Go.Proofs.YtjjbkjgifdhlcaaGreat
