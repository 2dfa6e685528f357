/- Contracts:slices of forms:insertion sort. -/
import Derived.Test.YtjjbkjgifdhlcaaGreatT13
import Derived.Test.YtjjbkjgifdhlcaaGreatT8
import Derived.Test.YtjjbkjgifdhlcaaGreatT11
import Derived.Test.YtjjbkjgifdhlcaaGreatT12
import Derived.Test.YtjjbkjgifdhlcaaGreatT1
set_option linter.all false
open Nat (reduceAdd reduceLT reduceLeDiff)
open List (append_assoc append_nil drop_eq_getElem_cons eq_of_mem_replicate filter_append getElem?_append_right length_cons length_drop length_map length_nil length_set length_take length_zipWith map_cons mem_cons_of_mem mem_map mem_or_eq_of_mem_set replicate set_cons_zero)
namespace Go.Proofs.YtjjbkjgifdhlcaaGreat
open Go.AM Go.Pl
set_option maxRecDepth 100000
set_option maxHeartbeats 4000000
def au (ls:List (List Raw)):List (List FV):=ls.map cK
theorem aA (ls:List (List Raw)):(au ls).length=ls.length:=by simp[au]
theorem bJ (ls:List (List Raw)) (i:Nat):(au ls).getD i []=cK (ls.getD i []):=by
 by_cases h:i<ls.length
 .simp[au,qa,h]
 simp[au,qa,List.getElem?_eq_none (show ls.length<=i by omega),cK]
theorem aP: ∀ rs:List Raw,(cK rs).length=3*rs.length
 | []=>rfl
 | r::rs=>by simp only[cK,length_cons,aP rs];omega
theorem p_ (ls:List (List Raw)) (i:Nat) (x:List Raw):(au ls).set i (cK x)=au (ls.set i x):=by simp[au,List.map_set]
def AOk (k:Nat) (ls:List (List Raw)):Prop:= ∀ l∈ls,LOk k l
theorem AOk.at {k:Nat} {ls:List (List Raw)} (h:AOk k ls) {i:Nat} (hi:i<ls.length):LOk k (ls.getD i []):=by
 rw[qa,qb hi];exact h _ (kj hi)
def s8 (ls:List (List Raw)) (j:Nat):List (List Raw):=(ls.set j (ls.getD (j - 1) [])).set (j - 1) (ls.getD j [])
theorem s9 (ls:List (List Raw)) (j:Nat):(s8 ls j).length=ls.length:=by simp[s8]
theorem iY {ls:List (List Raw)} {j:Nat} (h0:0<j) (hj:j<ls.length) (q:Nat):(s8 ls j).getD q []=if q=j then ls.getD (j - 1) [] else if q=j - 1 then ls.getD j [] else ls.getD q []:=by
 unfold s8;simp only[qa,List.getElem?_set,length_set];by_cases h1:q=j
 .subst h1;rw[if_neg (by omega),if_pos rfl,if_pos hj,if_pos rfl];rfl
 rw[if_neg h1];by_cases h2:q=j - 1
 .subst h2;rw[if_pos rfl,if_pos (by omega),if_pos rfl];rfl
 rw[if_neg (fun h=>h2 h.symm),if_neg (fun h=>h1 h.symm),if_neg h2]
theorem oV {ls:List (List Raw)} {f:List Raw}:f∈ls↔ ∃ i,i<ls.length/\ls.getD i []=f:=by
 rw[List.mem_iff_getElem];constructor
 .rintro⟨i,hi,rfl⟩;exact⟨i,hi,by rw[qa,qb hi];rfl⟩
 rintro⟨i,hi,h⟩;rw[qa,qb hi] at h;exact⟨i,hi,h⟩
theorem L8 {ls:List (List Raw)} {j:Nat} (h0:0<j) (hj:j<ls.length) (f:List Raw):f∈s8 ls j↔f∈ls:=by
 rw[oV,oV,s9];constructor
 .rintro⟨q,hq,h⟩;rw[iY h0 hj] at h;by_cases h1:q=j
  .rw[if_pos h1] at h;exact⟨j - 1,by omega,h⟩
  rw[if_neg h1] at h;by_cases h2:q=j - 1
  .rw[if_pos h2] at h;exact⟨j,hj,h⟩
  rw[if_neg h2] at h;exact⟨q,hq,h⟩
 rintro⟨q,hq,h⟩;by_cases h1:q=j
 .subst h1;exact⟨q - 1,by omega,by rw[iY h0 hj,if_neg (by omega),if_pos rfl];exact h⟩
 by_cases h2:q=j - 1
 .subst h2;exact⟨j,hj,by rw[iY h0 hj,if_pos rfl];exact h⟩
 exact⟨q,hq,by rw[iY h0 hj,if_neg h1,if_neg h2];exact h⟩
def Srt (ls:List (List Raw)) (i j:Nat):Prop:= ∀ p q,p<q->q<=i->q≠j->bS (ls.getD p []) (ls.getD q [])<=0
theorem Po {ls:List (List Raw)} {i j:Nat} (wu:0<j) (DE:j<=i) (hi:i<ls.length) (h:Srt ls i j) (hc:bS (ls.getD j []) (ls.getD (j - 1) [])<0):Srt (s8 ls j) i (j - 1):=by
 intro p q w5 Hm hq;rw[iY wu (by omega),iY wu (by omega)];by_cases h1:q=j
 .subst h1;rw[if_pos rfl,if_neg (by omega: ¬p=q)];by_cases h2:p=q - 1
  .rw[if_pos h2];omega
  rw[if_neg h2];exact h p (q - 1) (by omega) (by omega) (by omega)
 rw[if_neg h1,if_neg hq];by_cases h2:p=j
 .rw[if_pos h2];exact h (j - 1) q (by omega) Hm h1
 rw[if_neg h2];by_cases h3:p=j - 1
 .rw[if_pos h3];exact h j q (by omega) Hm h1
 rw[if_neg h3];exact h p q w5 Hm h1
theorem EO {k:Nat} {ls:List (List Raw)} {i j:Nat} (bE:AOk k ls) (hi:i<ls.length) (DE:j<=i) (h:Srt ls i j) (hc:j=0\/0<=bS (ls.getD j []) (ls.getD (j - 1) [])): ∀ p q,p<q->q<=i->bS (ls.getD p []) (ls.getD q [])<=0:=by
 intro p q w5 Hm;by_cases hq:q=j
 .subst hq;rcases hc with h0 | h0
  .omega
  rw[dI] at h0;have h1:bS (ls.getD (q - 1) []) (ls.getD q [])<=0:=by omega
  by_cases hp:p=q - 1
  .rw[hp];exact h1
  have h2:=h p (q - 1) (by omega) (by omega) (by omega);exact m7 _ _ _ (by rw[(bE.at (i:=p) (by omega)).len,(bE.at (i:=q - 1) (by omega)).len]) (by rw[(bE.at (i:=q - 1) (by omega)).len,(bE.at (i:=q) (by omega)).len]) h2 h1
 exact h p q w5 Hm hq
theorem nv {rs:List Raw} (h:rs.length=9):List.drop 27 (cK rs)=[]:=List.drop_of_length_le (by rw[aP];omega)
theorem aG {rs:List Raw} (h:rs.length=9):List.take 27 (cK rs)=cK rs:=eE (by rw[aP];omega)
structure Pp (ls ls':List (List Raw)):Prop where
 len:ls'.length=ls.length
 mem: ∀ f,f∈ls'↔f∈ls
 ord: ∀ p q,p<q->q<ls'.length->bS (ls'.getD p []) (ls'.getD q [])<=0
abbrev HO:PV:= .fv (.lit (.func (.func 201) #[] #[]))
theorem AOk.of_mem {k:Nat} {ls ls':List (List Raw)} (h:AOk k ls) (hm: ∀ f,f∈ls'↔f∈ls):AOk k ls':=fun l hl=>h l ((hm l).1 hl)
theorem acS (ls:List (List Raw)) (bE:AOk 1000000000 ls) (hn:ls.length<=1000):
 ∃ H1 res,(fun H1 res=> ∃ ls',H1=[.row true (au ls')]/\res=PV.tup []/\Pp ls ls') H1 res/\Den Tryz.prog 259 [.row true (au ls)] [.lsl 0 0 ls.length 27,.int .i64 0,.int .i64 ls.length,HO] H1 res:=by
 obtain⟨n,cZ⟩:=aw ls.length
 rw[cZ] at hn ⊢
 refine Wl Tryz.func259 49 1 ?_
 refine aX ?_
 refine wl (α:=Nat×List (List Raw)) (fun⟨i,l⟩=>⟨[.lsl 0 0 n 27,.int .i64 0,.int .i64 n,HO,.any,.any,.any,.any,.int .i64 i]++replicate 44 .any,[.row true (au l)]⟩)
  (fun⟨i,_⟩=>n+1 - i) (fun⟨i,l⟩=>1<=i/\(i<=n\/i=1)/\l.length=n/\(∀ f,f∈l↔f∈ls)/\ ∀ p q,p<q->q<i->q<n->bS (l.getD p []) (l.getD q [])<=0) (1,ls) ?_ ?_ ?_
 .exact bN [0]
 .exact⟨qp _,Or.inr rfl,cZ,fun f=>Iff.rfl,fun p q h1 h2 h3=>by omega⟩
 rintro⟨i,l⟩ ⟨oA,gA,oE,bf,tV⟩
 refine aX ?_
 refine bR ?_ ?_
 .intro h1 h2
  refine ae h2 ?_
  refine wl (α:=Nat×List (List Raw)) (fun⟨j,l⟩=>⟨[.lsl 0 0 n 27,.int .i64 0,.int .i64 n,HO,.any,.any,.any,.any,.int .i64 i,.int .i64 j]++replicate 43 .any,[.row true (au l)]⟩)
   (fun⟨j,_⟩=>j) (fun⟨j,l⟩=>j<=i/\l.length=n/\(∀ f,f∈l↔f∈ls)/\Srt l i j) (i,l) ?_ ?_ ?_
  .exact bN [0]
  .exact⟨qp _,oE,bf,fun p q h3 h4 h5=>tV p q h3 (by omega) (by omega)⟩
  rintro⟨j,l⟩ ⟨hj,oE,bf,pF⟩
  have Vn:=bE.of_mem bf
  refine aX ?_
  refine dw (by kernel_rfl) ?_
  refine a9 ?_
  refine bR ?_ ?_
  .intro h3 h4
   obtain⟨p,rfl⟩: ∃ p,j=p+1:=⟨j - 1,by omega⟩
   have B7:(((p+1:Nat):Int) - 1)=(p:Int):=by omega
   have hx:=Vn.at (i:=p+1) (by omega)
   have hy:=Vn.at (i:=p) (by omega)
   have bU:=Pa _ _ hx hy
   have r1:=bJ l (p+1)
   have r2:=bJ l p
   obtain⟨x,mU⟩:=aw (l.getD (p+1) [])
   obtain⟨y,w6⟩:=aw (l.getD p [])
   rw[mU] at hx bU r1
   rw[w6] at hy bU r2
   have rl:=aA l
   have rA:=aG hx.len
   have ug:=aG hy.len
   have fx:=aP x
   have fy:=aP y
   have lx:=hx.len
   have ly:=hy.len
   unfold RL at bU
   have dx:=nv hx.len
   have dy:=nv hy.len
   have gx:=ah x
   have gy:=ah y
   have Ji:((au l).set (p+1) (cK y)).set p (cK x)=au (s8 l (p+1)):=by
    rw[p_,p_];unfold s8;rw[Nat.add_sub_cancel,mU,w6]
   have r3:((au l).set (p+1) (cK y)).getD p []=cK y:=by
    rw[p_,bJ,qa,qm (by omega),<-qa,w6]
   obtain⟨z,hz⟩:=aw (bS x y)
   rw[hz] at bU
   refine b9 (fw h4 B7 r1 r2 rA ug rl) ?_
   repeat refine ag ?_
   refine lY bU ?_
   refine Li ?_
   refine bR ?_ ?_
   .intro h5 h6
    refine ae h6 ?_
    refine dw (by kernel_rfl) ?_
    refine b9 (bT B7 r1 r2 r3 rA ug rl (bT fx fy gx gy lx ly dx (bZ dy Ji @length_set.{0}))) ?_
    repeat refine ag ?_
    refine ax (p,s8 l (p+1)) ?_ ⟨by omega,by rw[s9];exact oE,fun f=>by rw[L8 (by omega) (by omega),bf],?_⟩
    .exact bN [0]
    have:=Po (j:=p+1) (by omega) hj (by omega) pF (by rw[mU,Nat.add_sub_cancel,w6,hz];exact h5)
    rwa [Nat.add_sub_cancel] at this
   intro h5 h6
   have hd:=EO Vn (by omega) hj pF (Or.inr (by rw[mU,Nat.add_sub_cancel,w6,hz];omega))
   refine ae h6 ?_
   refine ax (i+1,l) ?_ ⟨by omega,by omega,oE,bf,fun p q h7 h8 h9=>hd p q h7 (by omega)⟩
   exact bN [0]
  intro h3 h4
  have hd:=EO Vn (by omega) hj pF (Or.inl (by omega))
  refine ae h4 ?_
  refine ax (i+1,l) ?_ ⟨by omega,by omega,oE,bf,fun p q h7 h8 h9=>hd p q h7 (by omega)⟩
  exact bN [0]
 intro h1 h2
 refine ae (aQ h2 @zi) ?_
 exact⟨[.row true (au l)],.tup [],⟨l,rfl,rfl,by rw[oE,cZ],bf,fun p q h3 h4=>tV p q h3 (by omega) (by omega)⟩,sk (cd:=True) (vs:=[]) rfl trivial rfl trivial rfl rfl rfl⟩
theorem acT (x:Nat) (hx:x<256):Den Tryz.prog 245 [] [.int .u64 x] [] (.int .i64 (dW x:Int)):=by
 have h8: ∀ n:Nat,n<256->(((Lib.len8tab[n]?).getD 0).toNat:Nat)=dW n:=fun n hn=>D_ ⟨n,hn⟩
 have d4:Lib.len8tab.size=256:=Lib.len8tab_size;have hb8:dW x<=8:=by
  have: ∀ m:Fin 256,dW m.val<=8:=by decide+kernel
  exact this ⟨x,hx⟩
 have e1:decide ((x:Int)>=4294967296)=false:=sB;have e2:decide ((x:Int)>=65536)=false:=sB;have e3:decide ((x:Int)>=256)=false:=sB;refine dq Tryz.func245 24 0 ?_;refine b8 (fM @D' @md e1 e2 e3 h8) ?_;refine⟨by rw[d4];omega,?_⟩;refine bg ?_;refine qS ?_;simp
theorem WQ (x:Nat) (hx:x<256):Den Tryz.prog 207 [] [.int .u64 x] [] (.int .i64 (dW x:Int)):=by
 refine dq Tryz.func207 7 0 ?_;refine aX ?_;refine gp (acT x hx) rfl ?_;refine a9 ?_;refine bg rfl
theorem acU (ls ls':List (List Raw)) (lim:Int) (hn:ls.length<=12) (h:Den Tryz.prog 259 [.row true (au ls)] [.lsl 0 0 ls.length 27,.int .i64 0,.int .i64 ls.length,HO] [.row true (au ls')] (.tup [])):
 Den Tryz.prog 235 [.row true (au ls)] [.lsl 0 0 ls.length 27,.int .i64 0,.int .i64 ls.length,.int .i64 lim,HO] [.row true (au ls')] (.tup []):=by
 obtain⟨n,cZ⟩:=aw ls.length
 rw[cZ] at h hn ⊢
 have e1:decide ((n:Int) - 0<=12)=true:=GP
 refine dq Tryz.func235 143 1 ?_
 refine aX ?_
 refine wl (α:=Unit) (fun _=>⟨[.lsl 0 0 n 27,.int .i64 0,.int .i64 n,.int .i64 lim,HO,.any,.any,.any,.any,.any,.bool true,.bool true]++replicate 136 .any,[.row true (au ls)]⟩)
  (fun _=>0) (fun _=>True) () ?_ trivial ?_
 .exact bN [0]
 rintro⟨⟩ _
 refine b8 e1 ?_
 refine iD 0 h trivial ?_
 refine ae @append_nil.{0} ?_
 exact sk (cd:=True) (vs:=[]) rfl trivial rfl trivial rfl rfl rfl
theorem ahS (ls:List (List Raw)) (bE:AOk 1000000000 ls) (hn:ls.length<=12):
 ∃ ls',Pp ls ls'/\Den Tryz.prog 203 [.row true (au ls)] [.lsl 0 0 ls.length 27,HO] [.row true (au ls')] (.tup []):=by
 obtain⟨H1,res,⟨ls',rfl,rfl,hs⟩,h⟩:=acS ls bE (by omega)
 refine⟨ls',hs,?_⟩
 have h2:=acU ls ls' (dW ls.length:Int) hn h
 obtain⟨n,cZ⟩:=aw ls.length
 rw[cZ] at h2 hn ⊢
 refine dq Tryz.func203 12 1 ?_
 refine aX ?_
 refine gp (WQ n (by omega)) rfl ?_
 refine a9 ?_
 refine iD 0 h2 trivial ?_
 refine ae @append_nil.{0} ?_
 exact sk (cd:=True) (vs:=[]) rfl trivial rfl trivial rfl rfl rfl
theorem acV (a b:List Raw) (ha:LOk 1000000000 a) (hb:LOk 1000000000 b):Den Tryz.prog 254 [] [RL a,RL b] [] (.bool (bS a b==0)):=by
 have bU:=Pa a b ha hb;have ga:=ah a;have gb:=ah b;have la:=ha.len;have lb:=hb.len;have a27:=ar la;have b27:=ar lb;obtain⟨z,hz⟩:=aw (bS a b);rw[hz] at bU ⊢;unfold RL at bU ⊢;refine dq Tryz.func254 7 0 ?_;refine b8 (aQ a27 b27) ?_
 repeat refine ag ?_
 refine lY bU ?_;refine Li ?_;refine bg rfl
theorem uN (ts:List RT) (i:Nat) (t:RT):(aq ts).set i (im t)=aq (ts.set i t):=by simp[aq,List.map_set]
theorem nw {t:RT} (h:t.1.length=8):List.drop 11 (im t)=[]:=List.drop_of_length_le (by rw[aK h];omega)
abbrev mV (g:Nat) (v:Value):PV:= .fv (.lit (.func (.func g) #[v] #[]))
theorem acW (g:Nat) (v:Value) (u:FV) (hv:PV.ofValue v= .agg [.fv u]) (ls:List RT) (hl: ∀ t∈ls,t.1.length=8) (hn:ls.length<=1000000)
 (Am: ∀ s∈ls,∀ t∈ls,Den Tryz.prog g [] [.agg [.fv u],.agg (fI s),.agg (fI t)] [] (.int .i64 (-(iV s.1 t.1)))):
 ∃ H1 res,(fun H1 res=> ∃ ls',H1=[.row true (aq ls')]/\res=PV.tup []/\ls'.Perm ls/\ls'.Pairwise (fun a b=>¬zV b a)) H1 res/\
  Den Tryz.prog 236 [.row true (aq ls)] [.lsl 0 0 ls.length 11,.int .i64 0,.int .i64 ls.length,mV g v] H1 res:=by
 obtain⟨n,cZ⟩:=aw ls.length
 rw[cZ] at hn ⊢
 refine Wl Tryz.func236 49 1 ?_
 refine aX ?_
 refine wl (α:=Nat×List RT) (fun⟨i,l⟩=>⟨[.lsl 0 0 n 11,.int .i64 0,.int .i64 n,mV g v,.any,.any,.any,.any,.int .i64 i]++replicate 44 .any,[.row true (aq l)]⟩)
  (fun⟨i,_⟩=>n+1 - i) (fun⟨i,l⟩=>1<=i/\(i<=n\/i=1)/\l.Perm ls/\ ∀ p q,p<q->q<i->q<n-> ¬zV (l.getD q oP) (l.getD p oP)) (1,ls) ?_ ?_ ?_
 .exact bN [0]
 .exact⟨qp _,Or.inr rfl,List.Perm.refl _,fun p q h1 h2 h3=>by omega⟩
 rintro⟨i,l⟩ ⟨oA,gA,eX,tV⟩
 have oE:l.length=n:=by rw[eX.length_eq,cZ]
 refine aX ?_
 refine bR ?_ ?_
 .intro h1 h2
  refine ae h2 ?_
  refine wl (α:=Nat×List RT) (fun⟨j,l⟩=>⟨[.lsl 0 0 n 11,.int .i64 0,.int .i64 n,mV g v,.any,.any,.any,.any,.int .i64 i,.int .i64 j]++replicate 43 .any,[.row true (aq l)]⟩)
   (fun⟨j,_⟩=>j) (fun⟨j,l⟩=>j<=i/\l.Perm ls/\O6 oP zV l i j) (i,l) ?_ ?_ ?_
  .exact bN [0]
  .exact⟨qp _,eX,fun p q h3 h4 h5=>tV p q h3 (by omega) (by omega)⟩
  rintro⟨j,l⟩ ⟨hj,eX,pF⟩
  have oE:l.length=n:=by rw[eX.length_eq,cZ]
  have Lq: ∀ t∈l,t.1.length=8:=fun t ht=>hl t (eX.mem_iff.1 ht)
  have Vl: ∀ x∈l,∀ y∈l,∀ z∈l,¬zV x y-> ¬zV y z-> ¬zV x z:=fun x hx y hy z hz=>X8 (Lq x hx) (Lq y hy) (Lq z hz)
  refine aX ?_
  refine dw (by kernel_rfl) ?_
  refine a9 ?_
  refine bR ?_ ?_
  .intro h3 h4
   obtain⟨p,rfl⟩: ∃ p,j=p+1:=⟨j - 1,by omega⟩
   have B7:(((p+1:Nat):Int) - 1)=(p:Int):=by omega
   have m1:=f7 (ts:=l) (i:=p+1) (by omega)
   have m2:=f7 (ts:=l) (i:=p) (by omega)
   have bU:=Am _ (eX.mem_iff.1 m1) _ (eX.mem_iff.1 m2)
   have r1:=df (ts:=l) (i:=p+1) (by omega)
   have r2:=df (ts:=l) (i:=p) (by omega)
   have lx:=Lq _ m1
   have ly:=Lq _ m2
   have aH:zV (l.getD (p+1) oP) (l.getD p oP)↔ -(iV (l.getD (p+1) oP).1 (l.getD p oP).1)<0:=by
    unfold zV;rw[<-J7];omega
   have Ji:((aq l).set (p+1) (im (l.getD p oP))).set p (im (l.getD (p+1) oP))=aq (nZ oP l (p+1)):=by
    rw[uN,uN];unfold nZ;rw[Nat.add_sub_cancel]
   have r3:((aq l).set (p+1) (im (l.getD p oP))).getD p []=im (l.getD p oP):=by
    rw[qa,qm (by omega),<-qa,r2]
   have tW:=fun h=>A_ oP zV O7 (ls:=l) (i:=i) (j:=p+1) (by omega) hj (by omega) pF h
   have lB:=fun h=>pY oP zV (ls:=l) Vl (i:=i) (j:=p+1) (by omega) hj pF h
   have hsp:=xA oP (ls:=l) (j:=p+1) (by omega) (by omega)
   rw[Nat.add_sub_cancel] at tW lB
   obtain⟨x,mU⟩:=aw (l.getD (p+1) oP)
   obtain⟨y,w6⟩:=aw (l.getD p oP)
   rw[mU] at bU r1 lx aH Ji tW lB
   rw[w6] at bU r2 r3 ly aH Ji tW lB
   have rl:=av l
   have Xp:=aY lx
   have y11:=aY ly
   have fx:=aK lx
   have fy:=aK ly
   have dx:=nw lx
   have dy:=nw ly
   have gx:=aE lx
   have gy:=aE ly
   obtain⟨z,hz⟩:=aw (-(iV x.1 y.1))
   rw[hz] at bU aH
   simp -dsimp(disch:=omega) only[h4,B7,r1,r2,Xp,y11,d9,rl,hv,fx,fy,↓reduceIte,reduceLeDiff,ru]
   repeat refine ag ?_
   refine gp bU (by simp[cC,iw,dr,d9,lG,fP]) ?_
   refine ae @dJ ?_
   refine bR ?_ ?_
   .intro h5 h6
    refine ae h6 ?_
    refine dw (by kernel_rfl) ?_
    refine ae (bT B7 r1 r2 r3 Xp y11 @d9 (bT rl fx fy gx gy dx dy (gS Ji @length_set.{0} @dr @dJ @append_nil.{0}))) ?_
    repeat refine ag ?_
    refine ax (p,nZ oP l (p+1)) ?_ ⟨by omega,hsp.trans eX,tW (aH.2 h5)⟩
    exact bN [0]
   intro h5 h6
   have hd:=lB (Or.inr (fun h=>h5 (aH.1 h)))
   refine ae h6 ?_
   refine ax (i+1,l) ?_ ⟨by omega,by omega,eX,fun p q h7 h8 h9=>hd p q h7 (by omega)⟩
   exact bN [0]
  intro h3 h4
  have hd:=pY oP zV (ls:=l) Vl (i:=i) (j:=j) (by omega) hj pF (Or.inl (by omega))
  refine ae h4 ?_
  refine ax (i+1,l) ?_ ⟨by omega,by omega,eX,fun p q h7 h8 h9=>hd p q h7 (by omega)⟩
  exact bN [0]
 intro h1 h2
 have hpw:l.Pairwise (fun a b=>¬zV b a):=q9 oP zV (fun p q h3 h4=>tV p q h3 (by omega) (by omega))
 refine ae h2 ?_
 exact⟨[.row true (aq l)],.tup [],⟨l,rfl,rfl,eX,hpw⟩,sk (cd:=True) (vs:=[]) rfl trivial rfl trivial rfl rfl rfl⟩
theorem acX (V:PV) (ls ls':List RT) (lim:Int) (hn:ls.length<=12) (h:Den Tryz.prog 236 [.row true (aq ls)] [.lsl 0 0 ls.length 11,.int .i64 0,.int .i64 ls.length,V] [.row true (aq ls')] (.tup [])) (hV: ∃ v g,V=mV g v):
 Den Tryz.prog 206 [.row true (aq ls)] [.lsl 0 0 ls.length 11,.int .i64 0,.int .i64 ls.length,.int .i64 lim,V] [.row true (aq ls')] (.tup []):=by
 obtain⟨v,g,rfl⟩:=hV
 obtain⟨n,cZ⟩:=aw ls.length
 rw[cZ] at h hn ⊢
 have e1:decide ((n:Int) - 0<=12)=true:=GP
 refine dq Tryz.func206 143 1 ?_
 refine aX ?_
 refine wl (α:=Unit) (fun _=>⟨[.lsl 0 0 n 11,.int .i64 0,.int .i64 n,.int .i64 lim,mV g v,.any,.any,.any,.any,.any,.bool true,.bool true]++replicate 136 .any,[.row true (aq ls)]⟩)
  (fun _=>0) (fun _=>True) () ?_ trivial ?_
 .exact bN [0]
 rintro⟨⟩ _
 refine b8 e1 ?_
 refine iD 0 h trivial ?_
 refine ae @append_nil.{0} ?_
 exact sk (cd:=True) (vs:=[]) rfl trivial rfl trivial rfl rfl rfl
def bG:Nat:=12
theorem WR (g:Nat) (v:Value) (u:FV) (hv:PV.ofValue v= .agg [.fv u]) (ls:List RT) (hl: ∀ t∈ls,t.1.length=8) (hn:ls.length<=bG)
 (Am: ∀ s∈ls,∀ t∈ls,Den Tryz.prog g [] [.agg [.fv u],.agg (fI s),.agg (fI t)] [] (.int .i64 (-(iV s.1 t.1)))):
 ∃ ls',ls'.Perm ls/\ls'.Pairwise (fun a b=>¬zV b a)/\Den Tryz.prog 169 [.row true (aq ls)] [.lsl 0 0 ls.length 11,mV g v] [.row true (aq ls')] (.tup []):=by
 unfold bG at hn
 obtain⟨H1,res,⟨ls',rfl,rfl,hp,hs⟩,h⟩:=acW g v u hv ls hl (by omega) Am
 refine⟨ls',hp,hs,?_⟩
 have h2:=acX (mV g v) ls ls' (dW ls.length:Int) hn h ⟨v,g,rfl⟩
 obtain⟨n,cZ⟩:=aw ls.length
 rw[cZ] at h2 hn ⊢
 refine dq Tryz.func169 12 1 ?_
 refine aX ?_
 refine gp (WQ n (by omega)) rfl ?_
 refine a9 ?_
 refine iD 0 h2 trivial ?_
 refine ae @append_nil.{0} ?_
 exact sk (cd:=True) (vs:=[]) rfl trivial rfl trivial rfl rfl rfl
theorem EP {m:List Int} {i:Nat} (h:i<m.length):iq (m.drop i)=(decide (0<=m.getD i 0)&&decide (m.getD i 0<=1024)&&iq (m.drop (i+1))):=by
 rw[drop_eq_getElem_cons h,qa,qb h];rfl
theorem ER {ts:List RT} {i:Nat} (h:i<ts.length):validB (ts.drop i)=(iq (ts.getD i oP).1&&validB (ts.drop (i+1))):=by
 rw[drop_eq_getElem_cons h,qa,qb h];rfl
theorem Ke (ts:List RT) (hl: ∀ t∈ts,t.1.length=8) (hn:ts.length<=1000000000000):Den Tryz.prog 118 [] [PL ts] [] (.bool (validB ts)):=by
 have rl:=av ts;obtain⟨n,cZ⟩:=aw ts.length;rw[cZ] at rl hn;obtain⟨R,hR⟩:=aw (validB ts);rw[hR];refine dq Tryz.func118 25 0 ?_;refine b8 rl ?_;refine wl (α:=Nat) (fun i=>⟨[PL ts,.any,.any,.any,.any,.any,.any,PL ts,.int .i64 n,.int .i64 i]++replicate 16 .any,[]⟩) (fun i=>n - i) (fun i=>i<=n/\validB (ts.drop i)=R) 0 ?_ ?_ ?_
 .exact bN []
 .exact⟨eH _,hR⟩
 rintro i ⟨hi,hv⟩;refine aX ?_;refine bR ?_ ?_
 .intro h1 h2;have r1:=df (ts:=ts) (i:=i) (by omega);have hm:=hl _ (f7 (ts:=ts) (i:=i) (by omega));have hd:=ER (ts:=ts) (i:=i) (by omega);obtain⟨t,ht⟩:=aw (ts.getD i oP);rw[ht] at r1 hm hd;rw[hv] at hd;have Jj:=aY hm;have fl:=aK hm;have c8:=dL hm;have cl:=aE hm;have ml:=bK t.1;rw[hm] at ml;refine ae (bT h2 r1 Jj @d9 fl c8 cl (aQ rl @append_nil.{0})) ?_
  repeat refine ag ?_
  refine wl (α:=Nat) (fun k=>⟨[PL ts,.any,.any,.any,.any,.any,.any,PL ts,.int .i64 n,.int .i64 i,.any,.any,.any,.any,.agg (mC t.1),.int .i64 k]++replicate 10 .any,[]⟩) (fun k=>8 - k) (fun k=>k<=8/\iq (t.1.drop k)=iq t.1) 0 ?_ ?_ ?_
  .refine eV [] ?_ ?_
   .simp[bc,dX,cB,sY]
   simp[ez]
  .exact⟨eH _,rfl⟩
  rintro k ⟨hk,ZK⟩;refine aX ?_;refine bR ?_ ?_
  .intro h3 h4;have gV:=Bc (m:=t.1) (i:=k) (by omega);have wX:=EP (m:=t.1) (i:=k) (by omega);obtain⟨x,hx⟩:=aw (t.1.getD k 0);rw[hx] at gV wX;rw[ZK] at wX;refine ae (ej h4 gV ml @Nat.mul_one) ?_
   repeat refine ag ?_
   by_cases Vo:x<0
   .have e1:decide (x<0)=true:=ib Vo;have hRf:R=false:=by rw[hd,wX,mX (show¬0<=x by omega)];rfl
    rw[hRf];refine ae e1 ?_;refine bg rfl
   have e1:decide (x<0)=false:=mX Vo;by_cases zp:1024<x
   .have e2:decide (x>1024)=true:=ib zp;have hRf:R=false:=by rw[hd,wX,mX (show¬x<=1024 by omega)];simp
    rw[hRf];refine ae (aQ e1 e2) ?_;refine bg rfl
   have e2:decide (x>1024)=false:=mX zp;rw[ib (show 0<=x by omega),ib (show x<=1024 by omega)] at wX;refine ae (aQ e1 e2) ?_;refine ax (k+1) ?_ ⟨by omega,by rw[wX];rfl⟩;refine eV [] ?_ ?_
   .simp[bc,dX,cB,sY]
   simp[ez]
  intro h3 h4;have hvt:iq t.1=true:=by rw[<-ZK,List.drop_of_length_le (by omega)];rfl
  rw[hvt] at hd;refine ae h4 ?_;refine ax (i+1) ?_ ⟨by omega,by rw[hd];rfl⟩;exact bN []
 intro h1 h2;have hRt:R=true:=by rw[<-hv,List.drop_of_length_le (by omega)];rfl
 rw[hRt];refine ae h2 ?_;refine bg rfl
def xM (acc:List Tm):List (List Int×PV):=acc.map (fun t=>(t.1,PV.agg (cn t.2).c))
def uO (acc:List Tm) (m:Mn):Raw:=match m9 acc m with | some q=>cn q | none=>rz
theorem uQ: ∀ (acc:List Tm) (m:Mn),dH (xM acc) m=(m9 acc m).map (fun q=>PV.agg (cn q).c)
 | [],m=>rfl
 | t::acc,m=>by
  have ih:=uQ acc m;unfold dH xM m9 at ih ⊢;by_cases h:t.1=m
  .rw[map_cons,List.find?_cons_of_pos (by simpa using h),List.find?_cons_of_pos (by simpa using h)];rfl
  rw[map_cons,List.find?_cons_of_neg (by simpa using h),List.find?_cons_of_neg (by simpa using h)];exact ih
theorem ES (acc:List Tm) (m:Mn):(dH (xM acc) m).getD (.agg [.bool false,.fv (.sl []),.fv (.sl [])])= .agg (uO acc m).c:=by
 rw[uQ];unfold uO;cases m9 acc m<;>rfl
theorem Tj (acc:List Tm) (m:Mn):(dH (xM acc) m).isSome=decide (m∈acc.map (·.1)):=by
 rw[uQ];have h:=LZ (a:=acc) (m:=m);cases hf:m9 acc m with
 | none=>rw[mX (h.1 hf)];rfl
 | some q=>
  rw[ib (by
   cases hd:decide (m∈acc.map (·.1)) with
   | true=>exact of_decide_eq_true hd
   | false=>rw[h.2 (of_decide_eq_false hd)] at hf;cases hf)]
  rfl
theorem Pq (acc:List Tm) (m:Mn):(uO acc m).q=(m9 acc m).getD 0:=by
 unfold uO;cases m9 acc m with
 | none=>exact JV
 | some q=>exact cQ q
theorem ET: ∀ (acc:List Tm) (m:Mn) (q:Rat),jG (xM acc) m (.agg (cn ((uO acc m).q+q)).c)=xM (accAdd acc m q)
 | [],m,q=>by
  rw[Pq];show [(m,PV.agg (cn (0+q)).c)]=[(m,PV.agg (cn q).c)];rw[show(0:Rat)+q=q by grind]
 | t::acc,m,q=>by
  have ih:=ET acc m q;rw[Pq] at ih ⊢;unfold accAdd;by_cases h:t.1=m
  .have h1:m9 (t::acc) m=some t.2:=by
    unfold m9;rw[List.find?_cons_of_pos (by simpa using h)];rfl
   rw[h1,if_pos h];show(if(t.1==m)=true then(m,PV.agg (cn (t.2+q)).c)::xM acc else _)=_;rw[if_pos (by simpa using h)];rfl
  have h1:m9 (t::acc) m=m9 acc m:=by
   unfold m9;rw[List.find?_cons_of_neg (by simpa using h)]
  rw[h1,if_neg h];show(if(t.1==m)=true then _ else(t.1,PV.agg (cn t.2).c)::jG (xM acc) m _)=_;rw[if_neg (by simpa using h),ih];rfl
theorem Pr {acc:List Tm} {m:Mn} {q:Rat} (h:m9 acc m=some q):(m,q)∈acc:=by
 unfold m9 at h;rw[Option.map_eq_some_iff] at h;obtain⟨t,ht,rfl⟩:=h;have h1:=List.find?_some ht;have h2:=List.mem_of_find?_eq_some ht;have h3:t.1=m:=of_decide_eq_true h1;rw[<-h3];exact h2
theorem Yc (k:Nat):rz.Ok k:=⟨fun d hd=>by simp[rz] at hd,fun d hd=>by simp[rz] at hd,by simp[rz],by simp[rz]⟩
theorem Tk {acc:List Tm} {k:Nat} (h: ∀ t∈acc,Bd k t.2) (m:Mn):(uO acc m).Ok k:=by
 unfold uO;cases hf:m9 acc m with
 | none=>exact Yc k
 | some q=>exact bD (h _ (Pr hf))
theorem Ps (t:Tm):tq (tn t)=t:=by
 unfold tq tn;rw[cQ]
theorem bC (ts:List Tm):(ts.map tn).map tq=ts:=by
 rw[List.map_map]
 conv=>rhs;rw[<-List.map_id ts]
 exact List.map_congr_left (fun t _=>Ps t)
theorem Pu {H:List Ob} {id off n s:Nat} {v:FV}:shutBs H id [.lsl id off n s,.fv v]=H:=by simp[shutBs,we,shutIds,oy,ma,eY]
theorem Pv (ts:List RT) (h8:TsOk 1000000000 ts) (hb:PB 1000000000 (ts.map tq)) (hn:ts.length<=10000000000) (hs:(nf (ts.map tq)).length<=bG):
 Den Tryz.prog 119 [] [PL ts] [] (PL ((nf (ts.map tq)).map tn)):=by
 have rl:=av ts
 obtain⟨n,cZ⟩:=aw ts.length
 rw[cZ] at rl hn
 obtain⟨T,hT⟩:=aw (ts.map tq)
 have hTl:T.length=n:=by rw[<-hT,length_map,cZ]
 have Vp:Len8 T:=fun t ht=>by
  rw[<-hT] at ht;obtain⟨u,hu,rfl⟩:=mem_map.1 ht;exact(h8 u hu).len
 have aeD: ∀ t∈T,∀ x∈t.1,-1000000000000<=x/\x<=1000000000000:=fun t ht=>by
  rw[<-hT] at ht;obtain⟨u,hu,rfl⟩:=mem_map.1 ht;exact(h8 u hu).rng
 rw[hT] at hb hs ⊢
 refine dq Tryz.func119 68 0 ?_
 refine b8 rl ?_
 refine wl (α:=Nat) (fun i=>⟨[PL ts,.any,.any,.tab 0,.lsl 1 0 (accL (T.take i)).length 8,.any,.any,.any,.any,.any,.any,.any,.any,PL ts,.int .i64 n,.int .i64 i]++replicate 53 .any,[.tab 8 (xM (accL (T.take i))),.row true (n5 ((accL (T.take i)).map (·.1)))]⟩) (fun i=>n - i) (fun i=>i<=n) 0 ?_ (eH _) ?_
 .refine Weak.nil 4 8 (by decide) rfl ?_
  refine eV [0,1] ?_ ?_
  .simp[bc,dX,cB]
   simp[accL]
  simp[ez,fL]
  simp[accL,xM,n5]
 rintro i hi
 have rk:(accL (T.take i)).length<=i:=by
  have:=Ew (T.take i);rw[length_take] at this;omega
 obtain⟨acc,vk⟩:=aw (accL (T.take i))
 have hbA: ∀ t∈acc,Bd 1000000000 t.2:=by rw[<-vk];exact((hb.take i).accL).bd (by decide)
 rw[vk] at rk ⊢
 obtain⟨K,hK⟩:=aw acc.length
 have rm:=sZ (acc.map (·.1))
 rw[length_map,hK] at rm
 have tkm:=HI (ms:=acc.map (·.1)) (n:=K) (by rw[length_map];omega)
 rw[hK] at rk ⊢
 refine aX ?_
 refine bR ?_ ?_
 .intro h1 h2
  have r1:=df (ts:=ts) (i:=i) (by omega)
  have bf:=f7 (ts:=ts) (i:=i) (by omega)
  have bE:=h8 _ bf
  have eO:T.take (i+1)=T.take i++[tq (ts.getD i oP)]:=by
   rw[List.take_add_one,<-hT,List.getElem?_map,qa,qb (by omega)];rfl
  obtain⟨t,ht⟩:=aw (ts.getD i oP)
  rw[ht] at r1 bE eO
  have Vq:=A7 (T.take i) (tq t)
  rw[<-eO,vk] at Vq
  change accL (T.take (i+1))=accAdd acc t.1 t.2.q at Vq
  have hm:=bE.len
  have Xq:=bE.rng
  have Vk:=kV acc t.1 t.2.q
  have aD:=congrArg List.length Vk
  rw[length_map] at aD
  have Jj:=aY hm
  have fl:=aK hm
  have c8:=dL hm
  have cl:=aE hm
  have ml:=bK t.1
  rw[hm] at ml
  have m8:=rR hm
  have mfl:=ff t.1
  rw[hm] at mfl
  have cc:=dS hm
  have Hj:=JR (uO acc t.1) t.2 (Tk hbA t.1) bE.raw
  change Den Tryz.prog 69 [] [.agg (uO acc t.1).c,.agg t.2.c] [] (.agg (cn ((uO acc t.1).q+t.2.q)).c) at Hj
  have bV:=ET acc t.1 t.2.q
  have b_:=ES acc t.1
  have Jk:=Tj acc t.1
  obtain⟨cur,jN⟩:=aw (uO acc t.1)
  obtain⟨sm,ND⟩:=aw (cn (cur.q+t.2.q))
  rw[jN] at Hj bV b_
  rw[ND] at Hj bV
  have aeF:(∀ x∈t.1,-9223372036854775808<=x/\x<9223372036854775808):=fun x hx=>by have:=Xq x hx;omega
  by_cases hk:t.1∈acc.map (·.1)
  .rw[ib hk] at Jk
   rw[if_pos hk] at Vk aD
   refine ae (bT h2 r1 Jj @d9 fl c8 cl (fw rl hm b_ Jk @cE @Bool.not_true @append_nil.{0})) ?_
   repeat refine ag ?_
   refine dw (by kernel_rfl) ?_
   refine ae (gS c8 cl hm b_ cc) ?_
   repeat refine ag ?_
   refine zm Hj ?_
   refine ae (fM @gq @dM bV hm @J9 @append_nil.{0}) ?_
   repeat refine ag ?_
   refine ax (i+1) ?_ (by omega)
   rw[Vq,aD,length_map,hK,Vk]
   exact bN [0,1]
  rw[mX hk] at Jk
  rw[if_neg hk] at Vk aD
  have cJ:=HG (acc.map (·.1)) t.1
  refine ae (bT h2 r1 Jj @d9 fl c8 cl (bT rl hm b_ Jk @cE @Bool.not_false ml (fw @nh @oO m8 rm tkm cJ @append_nil.{0}))) ?_
  repeat refine ag ?_
  refine dw (by kernel_rfl) ?_
  refine ae (gS c8 cl hm b_ cc) ?_
  repeat refine ag ?_
  refine zm Hj ?_
  refine ae (fM @gq @dM bV hm @J9 @append_nil.{0}) ?_
  repeat refine ag ?_
  refine ax (i+1) ?_ (by omega)
  rw[Vq,aD,Vk,qe,length_map,hK]
  exact bN [0,5]
 intro h1 h2
 have gA:i=n:=by omega
 have Vc:T.take i=T:=eE (by omega)
 rw[Vc] at vk
 have l6:=rN T
 have vW:=uH Vp
 have aeG: ∀ u∈acc,∀ x∈u.1,-1000000000000<=x/\x<=1000000000000:=fun u hu=>by
  rw[<-vk] at hu;obtain⟨w,hw,he⟩:=mem_map.1 (xu (mem_map.2 ⟨u,hu,rfl⟩));rw[<-he];exact aeD w hw
 have kN:n4 T=acc.filter (fun t=>decide (t.2≠0)):=by unfold n4;rw[vk]
 rw[vk] at l6 vW
 have hO:(n4 T).length<=n:=by
  rw[kN];have:=List.length_filter_le (fun t:Tm=>decide (t.2≠0)) acc;omega
 refine ae h2 ?_
 refine wl (α:=Nat) (fun j=>⟨[.any,.any,.any,.tab 0,.any,.any,.any,.any,.any,.lsl 2 0 ((acc.take j).filter (fun t=>decide (t.2≠0))).length 11]++replicate 34 .any++[.lsl 1 0 K 8,.int .i64 K,.int .i64 j]++replicate 22 .any,
  [.tab 8 (xM acc),.row true (n5 (acc.map (·.1))),.row true (aq (((acc.take j).filter (fun t=>decide (t.2≠0))).map tn))]⟩) (fun j=>K - j) (fun j=>j<=K) 0 ?_ (eH _) ?_
 .refine Weak.nil 9 11 (by decide) rfl ?_
  refine eV [0,1,2] ?_ ?_
  .simp[bc,dX,cB]
  simp[ez,fL]
  simp[aq]
 intro j hj
 obtain⟨out,dG⟩: ∃ o,(acc.take j).filter (fun t=>decide (t.2≠0))=o:=⟨_,rfl⟩
 have zP:out.length<=j:=by
  rw[<-dG];have:=List.length_filter_le (fun t:Tm=>decide (t.2≠0)) (acc.take j);rw[length_take] at this;omega
 rw[dG]
 obtain⟨O,Vr⟩:=aw out.length
 have ro:=av (out.map tn)
 rw[length_map,Vr] at ro
 have tko:=bL (ts:=out.map tn) (n:=O) (by rw[length_map];omega)
 rw[Vr] at zP ⊢
 refine aX ?_
 refine bR ?_ ?_
 .intro h3 h4
  obtain⟨u,hu⟩: ∃ u,acc[j]?=some u:=⟨acc[j]'(by omega),by simp⟩
  have hju:=List.mem_of_getElem? hu
  have rmg:=HF (ms:=acc.map (·.1)) (i:=j) (by rw[length_map];omega)
  have hkj:(acc.map (·.1)).getD j []=u.1:=by rw[qa,List.getElem?_map,hu];rfl
  rw[hkj] at rmg
  have hm:=vW u hju
  have Xq:=aeG u hju
  have ZL:uO acc u.1=cn u.2:=by
   unfold uO;rw[S6 l6 hu]
  have b_:=ES acc u.1
  rw[ZL] at b_
  have AB:=bD (hbA u hju)
  have iI:=mf (cn u.2) (AB.mono (by decide))
  rw[cQ] at iI
  change Den Tryz.prog 84 [] [.agg (cn u.2).c] [] _ at iI
  have gN:acc.take (j+1)=acc.take j++[u]:=by
   rw[List.take_add_one,hu];rfl
  have ml:=bK u.1
  rw[hm] at ml
  have mfl:=ff u.1
  rw[hm] at mfl
  have m8:=jW hm
  have mf8:=rR hm
  have aeF:(∀ x∈u.1,-9223372036854775808<=x/\x<9223372036854775808):=fun x hx=>by have:=Xq x hx;omega
  refine ae (bT h4 rm rmg mf8 mfl @ju ml (ej m8 hm b_ @append_nil.{0})) ?_
  repeat refine ag ?_
  refine zm iI ?_
  refine ae @gq ?_
  refine Br.bneInt ?_ ?_
  .intro h5 h6
   have GX:u.2≠0:=fun h=>h5 (bm.2 h)
   have RI:(acc.take (j+1)).filter (fun t=>decide (t.2≠0))=out++[u]:=by
    rw[gN,filter_append,dG,List.filter_cons_of_pos (by simpa using GX)];rfl
   have cJ:=eC (out.map tn) (tn u)
   have ZM:(out++[u]).map tn=out.map tn++[tn u]:=by simp
   rw[<-ZM] at cJ
   have Ve:(tn u).1.length=8:=hm
   have b1:List.take 8 (mC u.1++[PV.bool false,.nilsl,.nilsl])=mC u.1:=by rw[List.take_append_of_le_length (by omega),m8]
   have b2:List.drop 11 (mC u.1++[PV.bool false,.nilsl,.nilsl])=[]:=List.drop_of_length_le (by simp[ml])
   have b3:mC u.1++(cn u.2).c=fI (tn u):=rfl
   have b4:=aY Ve
   have b5:=aE Ve
   have b6:=aK Ve
   have b7:(mC u.1++[PV.bool false,.nilsl,.nilsl]).length=11:=by simp[ml]
   refine ae h6 ?_
   refine dw (by kernel_rfl) ?_
   refine ae (bT m8 ml hm b_ @cE b1 b2 (bT b3 b4 b5 b7 @dr @dJ ro (bZ tko cJ @append_nil.{0}))) ?_
   repeat refine ag ?_
   refine ax (j+1) ?_ (by omega)
   rw[RI,qe,Vr]
   exact bN [0,1,5]
  intro h5 h6
  have hz:u.2=0:=bm.1 h5
  have RI:(acc.take (j+1)).filter (fun t=>decide (t.2≠0))=out:=by
   rw[gN,filter_append,dG,List.filter_cons_of_neg (by simpa using hz)];simp
  refine ae h6 ?_
  refine ax (j+1) ?_ (by omega)
  rw[RI,Vr]
  exact bN [0,1,2]
 intro h3 h4
 have RJ:acc.take j=acc:=eE (by omega)
 rw[RJ] at dG
 rw[dG] at kN
 have Jl:=EC Vp
 rw[kN,Vr] at Jl
 have ZN: ∀ t∈out.map tn,t.1.length=8:=fun t ht=>by
  obtain⟨u,hu,rfl⟩:=mem_map.1 ht;rw[<-dG] at hu;exact vW u (List.mem_filter.1 hu).1
 obtain⟨ls',hp,hso,Jm⟩:=WR 170 (.agg #[.bool true]) (.lit (.bool true)) rfl (out.map tn) ZN (by rw[length_map];omega) (fun s hs t ht=>acR s t (ZN s hs) (ZN t ht))
 have ak:ls'=(nf T).map tn:=by
  have h5:(ls'.map tq).Perm (n4 T):=by
   rw[kN];have:=hp.map tq;rw[bC] at this;exact this
  have h6:(ls'.map tq).Pairwise (fun a b=>gQ b.1 a.1=false):=by
   rw[List.pairwise_map];refine hso.imp ?_;intro a b rv;have: ¬gQ b.1 a.1=true:=rv;exact Bool.eq_false_iff.2 this
  rw[<-J3 Vp h5 h6,List.map_map]
  conv=>lhs;rw[<-List.map_id ls']
  refine List.map_congr_left (fun t ht=>?_);obtain⟨w,_,rfl⟩:=mem_map.1 (hp.mem_iff.1 ht);show tn w=tn (tq (tn w));rw[Ps]
 rw[ak] at Jm
 have oH:((nf T).map tn).length=O:=by rw[length_map,<-Jl]
 have tkf:=bL (ts:=(nf T).map tn) (n:=O) (by omega)
 have rf:=av ((nf T).map tn)
 rw[oH] at rf
 rw[length_map,Vr] at Jm
 have hfa: ∀ cs l (H:List Ob),rC H (.agg cs::l)=none:=fun cs l H=>by simp[rC,gj,fP]
 refine ae (aQ h4 hfa) ?_
 refine iD 2 Jm trivial ?_
 refine ae (aQ @Pu @append_nil.{0}) ?_
 refine bg ?_
 exact lX (aQ tkf rf)
theorem TsOk.l8 {k:Nat} {ts:List RT} (h:TsOk k ts): ∀ t∈ts,t.1.length=8:=fun t ht=>(h t ht).len
theorem Tl (ts:List RT) (h8:TsOk 1000000000 ts) (hb:PB 1000000000 (ts.map tq)) (hn:ts.length<=10000000000) (hs:(nf (ts.map tq)).length<=bG) (hv:validB ts=true):
 Den Tryz.prog 61 [] [PL ts] [] (.tup [PL ((nf (ts.map tq)).map tn),.int .i64 0]):=by
 have h1:=Ke ts h8.l8 (by omega)
 rw[hv] at h1
 refine dq Tryz.func61 8 0 ?_
 refine aX ?_
 refine aW h1 ?_
 refine ae @Bool.not_true ?_
 refine gp (Pv ts h8 hb hn hs) rfl ?_
 refine a9 ?_
 refine bg rfl
theorem WS (ts:List RT) (h8:TsOk 1000000000 ts) (hn:ts.length<=10000000000) (hv:validB ts=false):
 Den Tryz.prog 61 [] [PL ts] [] (.tup [.fv (.sl []),.int .i64 2]):=by
 have h1:=Ke ts h8.l8 (by omega)
 rw[hv] at h1
 refine dq Tryz.func61 8 0 ?_
 refine aX ?_
 refine aW h1 ?_
 refine ae @Bool.not_false ?_
 refine bg rfl
def z8:List Int:=replicate 8 0
theorem bX:z8.length=8:=rfl
theorem Pw (r:Raw):PV.int .i64 0::PV.int .i64 0::PV.int .i64 0::PV.int .i64 0::PV.int .i64 0::PV.int .i64 0::PV.int .i64 0::PV.int .i64 0::r.c=fI (z8,r):=rfl
def kB (rs:List Raw) (i:Nat):List RT:=(List.range i).map (fun j=>(z8.set j 1,rs.getD j rz))
def gv (rs:List Raw):List RT:=kB rs 8++[(z8,rs.getD 8 rz)]
theorem HP (rs:List Raw) (i:Nat):kB rs (i+1)=kB rs i++[(z8.set i 1,rs.getD i rz)]:=by
 unfold kB;rw[List.range_succ,v8];rfl
theorem ny (rs:List Raw) (i:Nat):(kB rs i).length=i:=by simp[kB]
theorem Tn {m:List Int} {i:Nat} {x:Int} (h: ∀ y∈m,-1000000000000<=y/\y<=1000000000000) (hx: -1000000000000<=x/\x<=1000000000000): ∀ y∈m.set i x,-1000000000000<=y/\y<=1000000000000:=fun y hy=>by
 rcases mem_or_eq_of_mem_set hy with h1 | h1
 .exact h y h1
 rw[h1];exact hx
theorem HQ: ∀ y∈z8,-1000000000000<=y/\y<=(1000000000000:Int):=fun y hy=>by
 rw[eq_of_mem_replicate hy];omega
theorem xN {k:Nat} {rs:List Raw} (h:LOk k rs):TsOk k (gv rs):=by
 intro t ht;unfold gv at ht;rcases List.mem_append.1 ht with ht | ht
 .obtain⟨j,_,rfl⟩:=mem_map.1 ht;exact⟨by simp[z8],Tn HQ (by omega),h.at j⟩
 rw[qz] at ht;subst ht;exact⟨rfl,HQ,h.at 8⟩
theorem vA (rs:List Raw):validB (gv rs)=true:=by
 unfold validB;rw[v7];intro t ht;have hz: ∀ y∈t.1,y=0\/y=1:=by
  unfold gv at ht;rcases List.mem_append.1 ht with ht | ht
  .obtain⟨j,_,rfl⟩:=mem_map.1 ht;intro y hy;rcases mem_or_eq_of_mem_set hy with h1 | h1
   .exact .inl (eq_of_mem_replicate h1)
   exact .inr h1
  rw[qz] at ht;subst ht;intro y hy;exact .inl (eq_of_mem_replicate hy)
 unfold iq;rw[v7];intro y hy;rcases hz y hy with h | h<;>rw[h]<;>rfl
theorem fj (rs:List Raw):(gv rs).length=9:=by simp[gv,ny]
theorem HR {rs:List Raw} {i:Nat} (h:i<8) (hl:rs.length=9):List.take 3 (List.drop (i*3) (List.take 24 (flat rs)))=(rs.getD i rz).c:=by
 have h1:=cU (rs:=rs) (i:=i) (by omega);rw[List.drop_take,List.take_take,Nat.min_eq_left (by omega)];exact h1
theorem L9 {rs:List Raw} (hl:rs.length=9):List.take 3 (List.drop 24 (flat rs))=(rs.getD 8 rz).c:=by
 have h1:=cU (rs:=rs) (i:=8) (by omega);exact h1
theorem WT (ids:List Nat): ∀ (n:Nat) (a:List PV),c9 ids a a->c9 ids (a.take n) (a.take n)
 | 0,a,_=>by simp[c9]
 | n+1,[],_=>by simp[c9]
 | n+1,x::a,h=>⟨h.1,WT ids n a h.2⟩
theorem Bq (ids:List Nat) (n:Nat) (rs:List Raw):c9 ids ((flat rs).take n) ((flat rs).take n):=WT ids n _ (dp ids rs)
def dZ (rs:List Raw):List Tm:=nf ((gv rs).map tq)
theorem acY (rs:List Raw) (h:LOk 10000000 rs):Den Tryz.prog 18 [] [RL rs] [] (PL ((dZ rs).map tn)):=by
 have hl:=h.len;have bE:TsOk 1000000000 (gv rs):=fun t ht=>(xN h t ht).mono (by decide)
 have hb:PB 1000000000 ((gv rs).map tq):=by
  refine(PB.list (k:=10000000) (by decide) (fun t ht=>?_)).mono ?_
  .obtain⟨u,hu,rfl⟩:=mem_map.1 ht;exact(xN h u hu).raw.bd (by decide)
  rw[length_map,fj];decide
 have Cb:=Tl (gv rs) bE hb (by rw[fj];decide) (gD (CA _) (by rw[length_map,fj];decide)) (vA rs);unfold RL;have fl:=ah rs;rw[hl] at fl;have pl9:=av (gv rs);rw[fj] at pl9;have tk9:=bL (ts:=gv rs) (n:=9) (by rw[fj];omega);change Den Tryz.prog 61 [] [PL (gv rs)] [] (.tup [PL ((dZ rs).map tn),.int .i64 0]) at Cb;obtain⟨Q,hQ⟩:=aw ((dZ rs).map tn);rw[hQ] at Cb ⊢;refine dq Tryz.func18 35 0 ?_;refine b8 fl ?_
 repeat refine ag ?_
 refine wl (α:=Nat) (fun i=>⟨[.any,.ptr 0 0 0,.any,.lsl 1 0 i 11,.any,.any,.any,.any,.any,.any,.agg (List.take 24 (flat rs)),.int .i64 i]++replicate 24 .any,[.box true (flat rs),.row true (aq (kB rs i))]⟩) (fun i=>8 - i) (fun i=>i<=8) 0 ?_ (eH _) ?_
 .refine Weak.nil 3 11 (by decide) rfl ?_;refine eV [0,1] ?_ ?_
  .simp[bc,dX,cB,Bq]
  simp[ez,fL,dp,kB,aq]
 intro i hi;have tki:=bL (ts:=kB rs i) (n:=i) (by rw[ny];omega);have rli:=av (kB rs i);rw[ny] at rli;refine aX ?_;refine bR ?_ ?_
 .intro h1 h2;have fc:=HR (rs:=rs) (i:=i) (by omega) hl;have aja:(List.take 24 (flat rs)).length=24:=by rw[length_take,fl];rfl
  have eO:=HP rs i;obtain⟨r,hr⟩:=aw (rs.getD i rz);rw[hr] at fc eO;have cJ:=eC (kB rs i) (z8.set i 1,r);rw[<-eO] at cJ;have bV:=p5 (t:=(z8,r)) (i:=i) (x:=1) (by omega) bX;have t1:((z8.set i 1,r):RT).1.length=8:=by simp[z8]
  have t0:((z8,r):RT).1.length=8:=bX;have ZO:=de t1;have vX:=aY t1;have cl:=aE t1;have cl0:=aE t0;have fl1:=aK t1;refine ae (bT h2 fc aja @cE @xC @Pw cl0 (bT cl bV ZO vX @dr @dJ tki (gS rli cJ @Nat.mul_one @Nat.zero_add @append_nil.{0}))) ?_
  repeat refine ag ?_
  refine ax (i+1) ?_ (by omega);refine eV [0,5] ?_ ?_
  .simp[bc,dX,cB,Bq]
  simp[ez,fL,dp]
 intro h1 h2;have uc:i=8:=by omega
 subst uc;have cJ:=eC (kB rs 8) (z8,rs.getD 8 rz);change aq (kB rs 8)++[im (z8,rs.getD 8 rz)]=aq (gv rs) at cJ;have fc:=L9 hl;obtain⟨r,hr⟩:=aw (rs.getD 8 rz);rw[hr] at fc cJ;have t0:((z8,r):RT).1.length=8:=bX;have vX:=aY t0;have fl1:=aK t0;have cl0:=aE t0;refine ae (bT h2 fl fc cl0 @cE @Pw vX (fM @dr @dJ tki rli cJ @append_nil.{0})) ?_
 repeat refine ag ?_
 refine gp Cb (by simp[cC,iw,gj,fP,tk9,pl9]) ?_;refine a9 ?_;refine bg rfl
theorem Px {a b:List Int} {i:Nat} (ha:i<a.length) (hb:i<b.length):gQ (a.drop i) (b.drop i)=if a.getD i 0=b.getD i 0 then gQ (a.drop (i+1)) (b.drop (i+1)) else decide (a.getD i 0>b.getD i 0):=by
 rw[drop_eq_getElem_cons ha,drop_eq_getElem_cons hb,gQ,qa,qa,qb ha,qb hb];rfl
theorem acZ (a b:List Int) (ha:a.length=8) (hb:b.length=8):Den Tryz.prog 153 [] [.agg (mC a),.agg (mC b)] [] (.bool (gQ a b)):=by
 have la:=bK a;have lb:=bK b;rw[ha] at la;rw[hb] at lb;obtain⟨R,hR⟩:=aw (gQ a b);rw[hR];refine dq Tryz.func153 22 0 ?_;refine b8 (aQ la lb) ?_
 repeat refine ag ?_
 refine wl (α:=Nat) (fun i=>⟨[.any,.any,.ptr 0 0 0,.ptr 1 0 0,.any,.int .i64 i]++replicate 18 .any,[.box true (mC a),.box true (mC b)]⟩) (fun i=>8 - i) (fun i=>i<=8/\gQ (a.drop i) (b.drop i)=R) 0 ?_ ?_ ?_
 .refine eV [0,1] ?_ ?_
  .simp[bc,dX,cB]
  simp[ez,fL,sY]
 .exact⟨eH _,hR⟩
 rintro i ⟨hi,hv⟩;refine aX ?_;refine bR ?_ ?_
 .intro h1 h2;have aa:=Bc (m:=a) (i:=i) (by omega);have ab:=Bc (m:=b) (i:=i) (by omega);have hd:=Px (a:=a) (b:=b) (i:=i) (by omega) (by omega);obtain⟨x,hx⟩:=aw (a.getD i 0);obtain⟨y,hy⟩:=aw (b.getD i 0);rw[hx] at aa hd;rw[hy] at ab hd;rw[hv] at hd;refine ae h2 ?_;refine dw (by kernel_rfl) ?_;refine ae (fM aa ab la lb @Nat.mul_one @Nat.zero_add) ?_
  repeat refine ag ?_
  refine Br.bneInt ?_ ?_
  .intro h3 h4;rw[if_neg h3] at hd;rw[hd];refine ae h4 ?_;refine dw (by kernel_rfl) ?_;refine ae (fM aa ab la lb @Nat.mul_one @Nat.zero_add) ?_
   repeat refine ag ?_
   refine bg rfl
  intro h3 h4;rw[if_pos h3] at hd;refine ae h4 ?_;refine ax (i+1) ?_ ⟨by omega,hd.symm⟩;refine eV [0,1] ?_ ?_
  .simp[bc,dX,cB]
  simp[ez,fL,sY]
 intro h1 h2;have hRf:R=false:=by
  rw[<-hv,List.drop_of_length_le (by omega),List.drop_of_length_le (by omega)];rfl
 rw[hRf];refine ae h2 ?_;refine bg rfl
theorem Tp {p:List Tm} {m:Mn} {q:Rat} {k:Nat} (Aq: ∀ i (h:i<p.length),i<k->gQ (p[i]'h).1 m=true) (zz: ∀ i (h:i<p.length),k<=i->gQ (p[i]'h).1 m=false) (hk:k<=p.length):
 insT p (m,q)=if _h:k<p.length/\(p.getD k ([],0)).1=m then
  (if q+(p.getD k ([],0)).2=0 then p.take k++p.drop (k+1) else p.take k++[(m,q+(p.getD k ([],0)).2)]++p.drop (k+1)) else
  (if q=0 then p.take k++p.drop k else p.take k++[(m,q)]++p.drop k):=by
 rw[J2 (p:=p) (t:=(m,q)) (k:=k) (fun i h Zj=>Aq i h Zj) hk]
 by_cases rk:k<p.length
 .have hx:=zz k rk (qp _)
  have Au:p.getD k ([],0)=p[k]:=by rw[qa,qb rk];rfl
  rw[Au]
  rw[drop_eq_getElem_cons rk]
  unfold insT
  rw[hx]
  by_cases he:p[k].1=m
  .rw[dif_pos ⟨rk,he⟩]
   simp only[he]
   by_cases hz:q+p[k].2=0
   .simp[hz]
   simp[hz]
  rw[dif_neg (fun h=>he h.2)]
  simp only[he]
  by_cases hz:q=0
  .simp[hz]
  simp[hz]
 rw[dif_neg (fun h=>rk h.1),List.drop_of_length_le (by omega)]
 unfold insT
 by_cases hz:q=0
 .simp[hz]
 simp[hz]
theorem EU {p:List Tm} (h:Canon p) {i j:Nat} (hj:j<p.length) (qX:i<j):gQ (p[i]'(by omega)).1 p[j].1=true:=List.pairwise_iff_getElem.1 h.sorted i j (by omega) hj qX
theorem ahT (p:List Tm) (t:RT) (hp:Canon p) (hb: ∀ u∈p,Bd 1000000000 u.2) (bE:TOk 1000000000 t) (hn:p.length<=10000000000)
 (hs: ∀ u∈p,u.1=t.1->Bd 1000000000 (t.2.q+u.2)):
 Den Tryz.prog 98 [] [PL (p.map tn),.agg (fI t)] [] (PL ((insT p (tq t)).map tn)):=by
 have hm:=bE.len
 have cl:=aE hm
 have rl:=av (p.map tn)
 have p8: ∀ u∈p.map tn,u.1.length=8:=fun u hu=>by
  obtain⟨w,hw,rfl⟩:=mem_map.1 hu;exact hp.len w hw
 have Od: ∀ y∈aq (p.map tn),y.length=11:=fun y hy=>by
  obtain⟨u,hu,rfl⟩:=mem_map.1 hy;exact aK (p8 u hu)
 obtain⟨n,cZ⟩:=aw p.length
 rw[length_map,cZ] at rl
 rw[cZ] at hn
 have c8:=dL hm
 refine dq Tryz.func98 73 0 ?_
 refine b8 (aQ cl rl) ?_
 repeat refine ag ?_
 refine wl (α:=Nat×Nat) (fun⟨lo,hi⟩=>⟨[PL (p.map tn),.any,.any,.ptr 0 0 0,.any,.int .i64 lo,.int .i64 hi]++replicate 68 .any,[.box true (fI t)]⟩) (fun⟨lo,hi⟩=>hi - lo)
  (fun⟨lo,hi⟩=>lo<=hi/\hi<=n/\(∀ i (h:i<p.length),i<lo->gQ (p[i]'h).1 t.1=true)/\(∀ i (h:i<p.length),hi<=i->gQ (p[i]'h).1 t.1=false)) (0,n) ?_ ?_ ?_
 .refine eV [0] ?_ ?_
  .simp[bc,dX,cB]
  simp[ez,fL,gR]
 .exact⟨eH _,qp _,fun i _ h=>by omega,fun i h h2=>by omega⟩
 rintro⟨lo,hi⟩ ⟨h1,h2,fF,fE⟩
 refine aX ?_
 refine bR ?_ ?_
 .intro h3 h4
  obtain⟨mid,aeI⟩: ∃ m:Nat,(lo+hi) / 2=m:=⟨_,rfl⟩
  have e1:((lo:Int)+(hi:Int)) / 2=(mid:Int):=by omega
  have lA:mid<p.length:=by omega
  have r1:=df (ts:=p.map tn) (i:=mid) (by rw[length_map];omega)
  have Jf:=p8 _ (f7 (ts:=p.map tn) (i:=mid) (by rw[length_map];omega))
  have hgx:((p.map tn).getD mid oP).1=p[mid].1:=by
   rw[qa,List.getElem?_map,qb lA];rfl
  obtain⟨x,hx⟩:=aw ((p.map tn).getD mid oP)
  rw[hx] at r1 Jf hgx
  have Xp:=pZ Jf
  have xl:=aK Jf
  have hg:=acZ x.1 t.1 Jf hm
  have AE:gQ x.1 t.1=gQ p[mid].1 t.1:=by rw[hgx]
  refine ae (aQ h4 e1) ?_
  refine⟨by decide,?_⟩
  refine dw (by kernel_rfl) ?_
  refine ae (fw r1 Xp xl @ju rl c8 cl) ?_
  repeat refine ag ?_
  refine gp hg (by simp[cC,iw,nh,ju]) ?_
  refine ae @oO ?_
  cases hgv:gQ x.1 t.1 with
  | true=>
   rw[hgv] at AE;refine a9 ?_;refine ax (mid+1,hi) ?_ ⟨by omega,h2,fun i h iH=>?_,fE⟩
   .refine eV [0] ?_ ?_
    .simp[bc,dX,cB]
    simp[ez,fL,gR]
   .by_cases l7:i=mid
    .subst l7;exact AE.symm
    .exact iU (EU hp lA (by omega)) AE.symm
  | false=>
   rw[hgv] at AE;refine a9 ?_;refine ax (lo,mid) ?_ ⟨by omega,by omega,fF,fun i h iH=>?_⟩
   .refine eV [0] ?_ ?_
    .simp[bc,dX,cB]
    simp[ez,fL,gR]
   by_cases l7:i=mid
   .subst l7;exact AE.symm
   cases U4:gQ p[i].1 t.1 with
   | false=>rfl
   | true=>
    have:=iU (EU hp h (show mid<i by omega)) U4;rw[<-AE] at this;cases this
 intro h3 h4
 have dR:lo=hi:=by omega
 subst dR
 have heq:=Tp (q:=t.2.q) fF fE (by omega)
 have Cc:List.take lo (aq (p.map tn))=aq ((p.take lo).map tn):=by simp[aq,List.map_take]
 have dl0:List.drop lo (aq (p.map tn))=aq ((p.drop lo).map tn):=by simp[aq,List.map_drop]
 have dl1:List.drop (lo+1) (aq (p.map tn))=aq ((p.drop (lo+1)).map tn):=by simp[aq,List.map_drop]
 have lt_:(aq ((p.take lo).map tn)).length=lo:=by rw[av,length_map,length_take];omega
 have dn0:(aq ((p.drop lo).map tn)).length=n - lo:=by rw[av,length_map,length_drop,cZ]
 have dn1:(aq ((p.drop (lo+1)).map tn)).length=n - (lo+1):=by rw[av,length_map,length_drop,cZ]
 have tk_:List.take lo (aq ((p.take lo).map tn))=aq ((p.take lo).map tn):=eE (by omega)
 have Vs:List.take (n - lo) (aq ((p.drop lo).map tn))=aq ((p.drop lo).map tn):=eE (by omega)
 have aeK:List.take (n - (lo+1)) (aq ((p.drop (lo+1)).map tn))=aq ((p.drop (lo+1)).map tn):=eE (by omega)
 have tn1:((lo:Int)+1).toNat=lo+1:=by omega
 have ZQ: ∀ y∈aq ((p.take lo).map tn),y.length=11:=fun y hy=>Od y (by rw[<-Cc] at hy;exact Cg hy)
 have Vu: ∀ y∈aq ((p.drop lo).map tn),y.length=11:=fun y hy=>Od y (by rw[<-dl0] at hy;exact VX hy)
 have aeL: ∀ y∈aq ((p.drop (lo+1)).map tn),y.length=11:=fun y hy=>Od y (by rw[<-dl1] at hy;exact VX hy)
 by_cases qQ:lo<n
 .have UT:lo<p.length:=by omega
  have r1:=df (ts:=p.map tn) (i:=lo) (by rw[length_map];omega)
  have Jf:=p8 _ (f7 (ts:=p.map tn) (i:=lo) (by rw[length_map];omega))
  have U2:(p.map tn).getD lo oP=tn p[lo]:=by
   rw[qa,List.getElem?_map,qb UT];rfl
  have Au:p.getD lo ([],0)=p[lo]:=by rw[qa,qb UT];rfl
  rw[U2] at r1 Jf
  rw[Au] at heq
  have hsu:=hs p[lo] (kj UT)
  have RK:=hb p[lo] (kj UT)
  obtain⟨u,hu⟩:=aw (p[lo])
  rw[hu] at r1 Jf heq hsu RK
  have Xp:=pZ Jf
  have xl:=aK Jf
  have zp:(tn u).1=u.1:=rfl
  rw[zp] at Xp Jf
  have SA:decide ((lo:Int)<(n:Int))=true:=GP
  have xc:=uI (t:=tn u) Jf
  by_cases Oe:u.1=t.1
  .have dV:(u.1==t.1)=true:=by rw[Oe];exact beq_self_eq_true _
   refine ae (ej h4 Cc lt_ @Nat.sub_zero) ?_
   refine⟨⟨by omega,by omega,by omega,Od⟩,⟨ZQ,by omega,by omega⟩,?_⟩
   refine dw (by kernel_rfl) ?_
   simp -dsimp(disch:=omega) only[rl,SA,r1,Xp,xl,ju,c8,cl,Jf,hm,dV,Bool.and_self,↓reduceIte,Nat.reduceBEq,reduceLT,reduceLeDiff,ru]
   repeat refine ag ?_
   have zR:=hsu Oe
   have RF:=OT t.2 (cn u.2) bE.raw (bD RK)
   rw[cQ] at RF
   change Den Tryz.prog 67 [] [.agg t.2.c,.agg (cn u.2).c] [] (.agg (cn (t.2.q+u.2)).c) at RF
   have RM:=mn (t:=t) (r:=cn (t.2.q+u.2)) hm
   have tcc:=dS hm
   have xcc:(tn u).2.f.map .fv=(cn u.2).c:=rfl
   rw[dif_pos ⟨by omega,Oe⟩] at heq
   obtain⟨c,hc⟩:=aw (t.2.q+u.2)
   rw[hc] at heq RF RM zR
   obtain⟨r,hr⟩:=aw (cn c)
   have ZR:r.q=c:=by rw[<-hr,cQ]
   have AB:r.Ok 1000000000:=by rw[<-hr];exact bD zR
   rw[hr] at RF RM
   refine dw (by kernel_rfl) ?_
   refine ae (bT tcc cl r1 rl xc xcc xl (aQ @EE @O')) ?_
   repeat refine ag ?_
   refine zm RF ?_
   refine ae (fM @gq @dM cl @cE RM @append_nil.{0}) ?_
   repeat refine ag ?_
   have oG:=nY r (AB.mono (by decide))
   change Den Tryz.prog 121 [] [.agg r.c] [] (.agg (cn r.q).c) at oG
   rw[ZR] at oG
   have Vv:Bd 1000000000 c:=zR
   have GY:=JT (cn c) ((bD Vv).mono (by decide))
   rw[cQ] at GY
   change Den Tryz.prog 63 [] [.agg (cn c).c] [] (.int .i64 (gk c)) at GY
   have AF:((t.1,cn c):RT).1.length=8:=hm
   have kk1:=de AF
   have kk2:=aY AF
   have Xr:=aE AF
   have kk4:=aK AF
   have kk5:=dS AF
   have GZ:=mn (t:=(t.1,r)) (r:=cn c) hm
   have c8r:List.take 3 (List.drop 8 (fI (t.1,r)))=r.c:=dS (t:=(t.1,r)) hm
   have clr:(fI (t.1,r)).length=11:=aE (t:=(t.1,r)) hm
   refine ae (aQ c8r clr) ?_
   repeat refine ag ?_
   refine zm oG ?_
   refine ae (fw @gq @dM clr @cE GZ Xr kk5) ?_
   repeat refine ag ?_
   refine zm GY ?_
   refine ae @gq ?_
   refine Br.bneInt ?_ ?_
   .intro h5 h6
    have GX:c≠0:=fun h=>h5 (bm.2 h)
    have cJ:aq ((p.take lo).map tn)++[im (t.1,cn c)]++aq ((p.drop (lo+1)).map tn)=aq ((insT p (tq t)).map tn):=by
     have:insT p (tq t)=p.take lo++[(t.1,c)]++p.drop (lo+1):=by show insT p (t.1,t.2.q)=_;rw[heq,if_neg GX]
     rw[this];simp[aq,tn]
    have iK:=av ((insT p (tq t)).map tn)
    have qQ:(aq ((p.take lo).map tn)).length+1+(n - (lo+1))=(aq ((insT p (tq t)).map tn)).length:=by
     rw[<-cJ];simp only[qe,length_cons,length_nil,av,length_map,length_drop,cZ]
    rw[lt_] at qQ
    obtain⟨FN,G0⟩:=aw (aq ((insT p (tq t)).map tn))
    rw[G0] at cJ qQ
    have ap1:(aq ((p.take lo).map tn)++[im (t.1,cn c)]).length=lo+1:=by rw[qe,lt_];rfl
    have tkap:List.take (lo+1) (aq ((p.take lo).map tn)++[im (t.1,cn c)])=aq ((p.take lo).map tn)++[im (t.1,cn c)]:=eE (by omega)
    have tkF:List.take (lo+1+(n - (lo+1))) FN=FN:=eE (by omega)
    refine ae (bT h6 kk1 kk2 Xr @dr @dJ rl (bT lt_ tk_ dl1 dn1 aeK ap1 tkap (bZ tn1 cJ @append_nil.{0}))) ?_
    repeat refine qy (by repeat' (first | omega | exact Od | exact aeL | apply qy)) ?_
    refine bg ?_
    refine Dy qQ ?_
    rw[<-G0]
   intro h5 h6
   have hz:c=0:=bm.1 h5
   have cJ:aq ((p.take lo).map tn)++aq ((p.drop (lo+1)).map tn)=aq ((insT p (tq t)).map tn):=by
    have:insT p (tq t)=p.take lo++p.drop (lo+1):=by show insT p (t.1,t.2.q)=_;rw[heq,if_pos hz]
    rw[this];simp[aq]
   have qQ:(aq ((p.take lo).map tn)).length+(n - (lo+1))=(aq ((insT p (tq t)).map tn)).length:=by
    rw[<-cJ];simp only[qe,av,length_map,length_drop,cZ]
   rw[lt_] at qQ
   obtain⟨FN,G0⟩:=aw (aq ((insT p (tq t)).map tn))
   rw[G0] at cJ qQ
   have tkF:List.take (lo+(n - (lo+1))) FN=FN:=eE (by omega)
   refine ae (bT h6 rl lt_ tk_ dl1 dn1 aeK (aQ tn1 cJ)) ?_
   repeat refine qy (by repeat' (first | omega | exact Od | exact aeL | apply qy)) ?_
   refine bg ?_
   refine Dy qQ ?_
   rw[<-G0]
  have dV:(u.1==t.1)=false:=by rw[qx];exact Oe
  refine ae (ej h4 Cc lt_ @Nat.sub_zero) ?_
  refine⟨⟨by omega,by omega,by omega,Od⟩,⟨ZQ,by omega,by omega⟩,?_⟩
  refine dw (by kernel_rfl) ?_
  simp -dsimp(disch:=omega) only[rl,SA,r1,Xp,xl,ju,c8,cl,Jf,hm,dV,Bool.and_self,↓reduceIte,reduceAdd,Nat.reduceBEq,reduceLT,reduceLeDiff,ru]
  repeat refine ag ?_
  rw[dif_neg (fun h=>Oe h.2)] at heq
  obtain⟨r,hr⟩:=aw t.2
  have ZR:r.q=t.2.q:=by rw[<-hr]
  have AB:r.Ok 1000000000:=by rw[<-hr];exact bE.raw
  have htr:fI t=fI (t.1,r):=by rw[<-hr]
  have zR:Bd 1000000000 t.2.q:=bE.raw.bd (by decide)
  obtain⟨c,hc⟩:=aw t.2.q
  rw[hc] at heq ZR zR
  rw[htr]
  have oG:=nY r (AB.mono (by decide))
  change Den Tryz.prog 121 [] [.agg r.c] [] (.agg (cn r.q).c) at oG
  rw[ZR] at oG
  have Vv:Bd 1000000000 c:=zR
  have GY:=JT (cn c) ((bD Vv).mono (by decide))
  rw[cQ] at GY
  change Den Tryz.prog 63 [] [.agg (cn c).c] [] (.int .i64 (gk c)) at GY
  have AF:((t.1,cn c):RT).1.length=8:=hm
  have kk1:=de AF
  have kk2:=aY AF
  have Xr:=aE AF
  have kk4:=aK AF
  have kk5:=dS AF
  have GZ:=mn (t:=(t.1,r)) (r:=cn c) hm
  have c8r:List.take 3 (List.drop 8 (fI (t.1,r)))=r.c:=dS (t:=(t.1,r)) hm
  have clr:(fI (t.1,r)).length=11:=aE (t:=(t.1,r)) hm
  refine ae c8r ?_
  repeat refine ag ?_
  refine zm oG ?_
  refine ae (fw @gq @dM clr @cE GZ Xr kk5) ?_
  repeat refine ag ?_
  refine zm GY ?_
  refine ae @gq ?_
  refine Br.bneInt ?_ ?_
  .intro h5 h6
   have GX:c≠0:=fun h=>h5 (bm.2 h)
   have cJ:aq ((p.take lo).map tn)++[im (t.1,cn c)]++aq ((p.drop lo).map tn)=aq ((insT p (tq t)).map tn):=by
    have:insT p (tq t)=p.take lo++[(t.1,c)]++p.drop lo:=by show insT p (t.1,t.2.q)=_;rw[show t.2.q=c from hc,heq,if_neg GX]
    rw[this];simp[aq,tn]
   have iK:=av ((insT p (tq t)).map tn)
   have qQ:(aq ((p.take lo).map tn)).length+1+(n - lo)=(aq ((insT p (tq t)).map tn)).length:=by
    rw[<-cJ];simp only[qe,length_cons,length_nil,av,length_map,length_drop,cZ]
   rw[lt_] at qQ
   obtain⟨FN,G0⟩:=aw (aq ((insT p (tq t)).map tn))
   rw[G0] at cJ qQ
   have ap1:(aq ((p.take lo).map tn)++[im (t.1,cn c)]).length=lo+1:=by rw[qe,lt_];rfl
   have tkap:List.take (lo+1) (aq ((p.take lo).map tn)++[im (t.1,cn c)])=aq ((p.take lo).map tn)++[im (t.1,cn c)]:=eE (by omega)
   have tkF:List.take (lo+1+(n - lo)) FN=FN:=eE (by omega)
   refine ae (bT h6 kk1 kk2 Xr @dr @dJ rl (bT lt_ tk_ dl0 dn0 Vs ap1 tkap (aQ cJ @append_nil.{0}))) ?_
   repeat refine qy (by repeat' (first | omega | exact Od | exact Vu | apply qy)) ?_
   refine bg ?_
   refine Dy qQ ?_
   rw[<-G0]
  intro h5 h6
  have hz:c=0:=bm.1 h5
  have cJ:aq ((p.take lo).map tn)++aq ((p.drop lo).map tn)=aq ((insT p (tq t)).map tn):=by
   have:insT p (tq t)=p.take lo++p.drop lo:=by show insT p (t.1,t.2.q)=_;rw[show t.2.q=c from hc,heq,if_pos hz]
   rw[this];simp[aq]
  have qQ:(aq ((p.take lo).map tn)).length+(n - lo)=(aq ((insT p (tq t)).map tn)).length:=by
   rw[<-cJ];simp only[qe,av,length_map,length_drop,cZ]
  rw[lt_] at qQ
  obtain⟨FN,G0⟩:=aw (aq ((insT p (tq t)).map tn))
  rw[G0] at cJ qQ
  have tkF:List.take (lo+(n - lo)) FN=FN:=eE (by omega)
  refine ae (bT h6 rl lt_ tk_ dl0 dn0 Vs cJ) ?_
  repeat refine qy (by repeat' (first | omega | exact Od | exact Vu | apply qy)) ?_
  refine bg ?_
  refine Dy qQ ?_
  rw[<-G0]
 have SA:decide ((lo:Int)<(n:Int))=false:=sB
 refine ae (ej h4 Cc lt_ @Nat.sub_zero) ?_
 refine⟨⟨by omega,by omega,by omega,Od⟩,⟨ZQ,by omega,by omega⟩,?_⟩
 refine dw (by kernel_rfl) ?_
 refine ae (aQ rl SA) ?_
 rw[dif_neg (fun h=>qQ (by omega))] at heq
 obtain⟨r,hr⟩:=aw t.2
 have ZR:r.q=t.2.q:=by rw[<-hr]
 have AB:r.Ok 1000000000:=by rw[<-hr];exact bE.raw
 have htr:fI t=fI (t.1,r):=by rw[<-hr]
 have zR:Bd 1000000000 t.2.q:=bE.raw.bd (by decide)
 obtain⟨c,hc⟩:=aw t.2.q
 rw[hc] at heq ZR zR
 rw[htr]
 have oG:=nY r (AB.mono (by decide))
 change Den Tryz.prog 121 [] [.agg r.c] [] (.agg (cn r.q).c) at oG
 rw[ZR] at oG
 have Vv:Bd 1000000000 c:=zR
 have GY:=JT (cn c) ((bD Vv).mono (by decide))
 rw[cQ] at GY
 change Den Tryz.prog 63 [] [.agg (cn c).c] [] (.int .i64 (gk c)) at GY
 have AF:((t.1,cn c):RT).1.length=8:=hm
 have kk1:=de AF
 have kk2:=aY AF
 have Xr:=aE AF
 have kk4:=aK AF
 have kk5:=dS AF
 have GZ:=mn (t:=(t.1,r)) (r:=cn c) hm
 have c8r:List.take 3 (List.drop 8 (fI (t.1,r)))=r.c:=dS (t:=(t.1,r)) hm
 have clr:(fI (t.1,r)).length=11:=aE (t:=(t.1,r)) hm
 refine ae (aQ c8r clr) ?_
 repeat refine ag ?_
 refine zm oG ?_
 refine ae (fw @gq @dM clr @cE GZ Xr kk5) ?_
 repeat refine ag ?_
 refine zm GY ?_
 refine ae @gq ?_
 refine Br.bneInt ?_ ?_
 .intro h5 h6
  have GX:c≠0:=fun h=>h5 (bm.2 h)
  have cJ:aq ((p.take lo).map tn)++[im (t.1,cn c)]++aq ((p.drop lo).map tn)=aq ((insT p (tq t)).map tn):=by
   have:insT p (tq t)=p.take lo++[(t.1,c)]++p.drop lo:=by show insT p (t.1,t.2.q)=_;rw[show t.2.q=c from hc,heq,if_neg GX]
   rw[this];simp[aq,tn]
  have iK:=av ((insT p (tq t)).map tn)
  have qQ:(aq ((p.take lo).map tn)).length+1+(n - lo)=(aq ((insT p (tq t)).map tn)).length:=by
   rw[<-cJ];simp only[qe,length_cons,length_nil,av,length_map,length_drop,cZ]
  rw[lt_] at qQ
  obtain⟨FN,G0⟩:=aw (aq ((insT p (tq t)).map tn))
  rw[G0] at cJ qQ
  have ap1:(aq ((p.take lo).map tn)++[im (t.1,cn c)]).length=lo+1:=by rw[qe,lt_];rfl
  have tkap:List.take (lo+1) (aq ((p.take lo).map tn)++[im (t.1,cn c)])=aq ((p.take lo).map tn)++[im (t.1,cn c)]:=eE (by omega)
  have tkF:List.take (lo+1+(n - lo)) FN=FN:=eE (by omega)
  refine ae (bT h6 kk1 kk2 Xr @dr @dJ rl (bT lt_ tk_ dl0 dn0 Vs ap1 tkap (aQ cJ @append_nil.{0}))) ?_
  repeat refine qy (by repeat' (first | omega | exact Od | exact Vu | apply qy)) ?_
  refine bg ?_
  refine Dy qQ ?_
  rw[<-G0]
 intro h5 h6
 have hz:c=0:=bm.1 h5
 have cJ:aq ((p.take lo).map tn)++aq ((p.drop lo).map tn)=aq ((insT p (tq t)).map tn):=by
  have:insT p (tq t)=p.take lo++p.drop lo:=by show insT p (t.1,t.2.q)=_;rw[show t.2.q=c from hc,heq,if_pos hz]
  rw[this];simp[aq]
 have qQ:(aq ((p.take lo).map tn)).length+(n - lo)=(aq ((insT p (tq t)).map tn)).length:=by
  rw[<-cJ];simp only[qe,av,length_map,length_drop,cZ]
 rw[lt_] at qQ
 obtain⟨FN,G0⟩:=aw (aq ((insT p (tq t)).map tn))
 rw[G0] at cJ qQ
 have tkF:List.take (lo+(n - lo)) FN=FN:=eE (by omega)
 refine ae (bT h6 rl lt_ tk_ dl0 dn0 Vs cJ) ?_
 repeat refine qy (by repeat' (first | omega | exact Od | exact Vu | apply qy)) ?_
 refine bg ?_
 refine Dy qQ ?_
 rw[<-G0]
theorem ahU (ts:List RT) (h8:TsOk 1000000000 ts) (hb:PB 1000000000 (ts.map tq)) (hn:ts.length<=10000000000):Den Tryz.prog 44 [] [PL ts] [] (PL ((nf (ts.map tq)).map tn)):=by
 have rl:=av ts;obtain⟨n,cZ⟩:=aw ts.length;rw[cZ] at rl hn;obtain⟨T,hT⟩:=aw (ts.map tq);have hTl:T.length=n:=by rw[<-hT,length_map,cZ]
 have Vp:Len8 T:=fun t ht=>by
  rw[<-hT] at ht;obtain⟨u,hu,rfl⟩:=mem_map.1 ht;exact(h8 u hu).len
 rw[hT] at hb ⊢;refine dq Tryz.func44 17 0 ?_;refine aX ?_;refine wl (α:=Nat) (fun i=>⟨[PL ts,.any,.any,PL ((nf (T.take i)).map tn),.int .i64 i]++replicate 13 .any,[]⟩) (fun i=>n - i) (fun i=>i<=n) 0 ?_ (eH _) ?_
 .refine eV [] ?_ ?_
  .simp[bc,dX,cB];simp[nf];trivial
  simp[ez]
 intro i hi;refine b8 rl ?_;refine bR ?_ ?_
 .intro h1 h2;have r1:=df (ts:=ts) (i:=i) (by omega);have bE:=h8 _ (f7 (ts:=ts) (i:=i) (by omega));have eO:T.take (i+1)=T.take i++[tq (ts.getD i oP)]:=by
   rw[List.take_add_one,<-hT,List.getElem?_map,qa,qb (by omega)];rfl
  obtain⟨t,ht⟩:=aw (ts.getD i oP);rw[ht] at r1 bE eO;have dV:=hb.take (i+1);rw[eO] at dV;have ajc:Len8 (T.take i):=fun u hu=>Vp u (Cg hu)
  have aD:(nf (T.take i)).length<=10000000000:=by
   have:=CA (T.take i);rw[length_take] at this;omega
  have h98:=ahT (nf (T.take i)) t (cV ajc) ((hb.take i).nf.bd (by decide)) bE aD (fun u hu _=>dV.snoc_bd (by decide) u hu);have hni:insT (nf (T.take i)) (tq t)=nf (T.take (i+1)):=by
   rw[eO];unfold nf;rw[List.foldl_append];rfl
  rw[hni] at h98;have hm:=bE.len;have Jj:=aY hm;have fl:=aK hm;have cl:=aE hm;obtain⟨P,hP⟩:=aw ((nf (T.take i)).map tn);rw[hP] at h98 ⊢;refine ae (fM h2 r1 rl Jj @d9 fl) ?_
  repeat refine ag ?_
  refine gp h98 (by simp[cC,iw,gj,fP,dr,d9]) ?_;refine ae @dJ ?_;refine ax (i+1) ?_ (by omega);exact bN []
 intro h1 h2;have Vc:T.take i=T:=eE (by omega);rw[Vc];refine ae h2 ?_;refine bg rfl
theorem ac0 (ts:List RT) (h8:TsOk 5000000000 ts) (hn:ts.length<=10000000000):Den Tryz.prog 19 [] [PL ts,PL ts] [] (.bool true):=by
 have rl:=av ts;obtain⟨n,cZ⟩:=aw ts.length;rw[cZ] at rl hn;have e1:((n:Int) !=(n:Int))=false:=by simp
 refine dq Tryz.func19 40 0 ?_;refine b8 (aQ rl e1) ?_;refine wl (α:=Nat) (fun i=>⟨[PL ts,PL ts,.any,.any,.any,.int .i64 i]++replicate 36 .any,[]⟩) (fun i=>n - i) (fun i=>i<=n) 0 ?_ (eH _) ?_
 .exact bN []
 intro i hi;refine b8 rl ?_;refine bR ?_ ?_
 .intro h1 h2;have r1:=df (ts:=ts) (i:=i) (by omega);have bE:=h8 _ (f7 (ts:=ts) (i:=i) (by omega));obtain⟨t,ht⟩:=aw (ts.getD i oP);rw[ht] at r1 bE;have hm:=bE.len;have f8:=pZ hm;have fl:=aK hm;have fd:=uI hm;have dV:(t.1==t.1)=true:=beq_self_eq_true _;have SB:=WC t.2 t.2 bE.raw bE.raw;rw[HJ] at SB;change Den Tryz.prog 62 [] [.agg t.2.c,.agg t.2.c] [] _ at SB;refine ae h2 ?_;refine dw (by kernel_rfl) ?_;simp -dsimp(disch:=omega) only[r1,rl,f8,fl,fd,ju,hm,dV,Bool.and_self,Bool.not_true,O',EE,L4,↓reduceIte,reduceAdd,Nat.reduceBEq,reduceLT,reduceLeDiff,ru]
  repeat refine ag ?_
  refine zm SB ?_;refine ae (bZ @gq @Bool.not_true @append_nil.{0}) ?_
  repeat refine ag ?_
  refine ax (i+1) ?_ (by omega);exact bN []
 intro h1 h2;refine ae h2 ?_;refine bg rfl
structure POk (k:Nat) (E:Int) (p:List Tm):Prop where
 canon:Canon p
 bd: ∀ t∈p,Bd k t.2
 exp: ∀ t∈p,∀ e∈t.1,0<=e/\e<=E
theorem POk.mono {j k:Nat} {E F:Int} {p:List Tm} (h:POk j E p) (hk:j<=k) (hE:E<=F):POk k F p:=
 ⟨h.canon,fun t ht=>(h.bd t ht).mono hk,fun t ht e he=>by have:=h.exp t ht e he;omega⟩
theorem jv {m:List Int} {E:Int} (hE:0<=E) (h: ∀ x∈m,0<=x/\x<=E) (i:Nat):0<=m.getD i 0/\m.getD i 0<=E:=by
 rw[qa];cases hi:m[i]? with
 | none=>simp[hE]
 | some x=>exact h x (List.mem_of_getElem? hi)
theorem POk.at {k:Nat} {E:Int} {p:List Tm} (h:POk k E p) (hE:0<=E) (v:Nat): ∀ t∈p,0<=t.1.getD v 0/\t.1.getD v 0<=E:=fun t ht=>jv hE (h.exp t ht) v
theorem POk.ts {k:Nat} {E:Int} {p:List Tm} (h:POk k E p) (hE:E<=1000000000000):TsOk k (p.map tn):=fun t ht=>by
 obtain⟨u,hu,rfl⟩:=mem_map.1 ht;exact⟨h.canon.len u hu,fun x hx=>by have:=h.exp u hu x hx;omega,bD (h.bd u hu)⟩
theorem POk.prim {k:Nat} {E:Int} {p:List Tm} (h:POk k E p) (hE:0<=E) (hE2:E<=1000000) {v:Nat} (hv:v<8):POk (k+1) (E+1) (aU v p):=by
 refine⟨xB hv h.canon (fun t ht=>(h.at hE v t ht).1),S7 h.bd (fun t ht=>by have:=h.at hE v t ht;omega),fun t ht e he=>?_⟩;obtain⟨u,hu,rfl⟩:=mem_map.1 ht;have h1:=h.at hE v u hu;rcases mem_or_eq_of_mem_set he with h2 | h2
 .have:=h.exp u hu e h2;omega
 omega
theorem s_ {p:List Tm} {i:Nat} (h:i<p.length):(p.map tn).getD i oP=tn p[i]:=by
 rw[qa,List.getElem?_map,qb h];rfl
theorem L_ {v i:Nat} {p:List Tm} (h:i<p.length):aU v (p.take (i+1))=aU v (p.take i)++[(p[i].1.set v (p[i].1.getD v 0+1),p[i].2 / (p[i].1.getD v 0+1))]:=by
 unfold aU;rw[List.take_add_one,qb h,v8];rfl
theorem oW (p:List Tm) (t:Tm):(p++[t]).map tn=p.map tn++[tn t]:=by rw[v8];rfl
def v_ (v:Nat) (p:List Tm):Bool:=p.all (fun t=>decide (t.1.getD v 0+1<=1024))
abbrev nfR (ts:List RT):List Tm:=nf (ts.map tq)
theorem tc {ts:List RT} (h: ∀ t∈ts,t.1.length=8):Len8 (ts.map tq):=fun t ht=>by
 obtain⟨u,hu,rfl⟩:=mem_map.1 ht;exact h u hu
theorem HT {ts:List RT} (h:validB ts=true): ∀ t∈ts,∀ e∈t.1,0<=e/\e<=1024:=fun t ht e he=>by
 unfold validB at h;rw[v7] at h;have h1:=h t ht;unfold iq at h1;rw[v7] at h1;simpa using h1 e he
theorem Yd {ts:List RT} {j k n:Nat} (hj:1<=j) (h:TsOk j ts) (hn:ts.length<=n) (hk:n*(j+1)+1<=k) (hv:validB ts=true):POk k 1024 (nfR ts):=by
 have hb:PB k (ts.map tq):=PB.terms hj (fun t ht=>by
  obtain⟨u,hu,rfl⟩:=mem_map.1 ht;exact(h u hu).raw.bd hj) (by rw[length_map];exact hn) hk
 refine⟨cV (tc h.l8),hb.nf.bd (by omega),fun t ht=>?_⟩;obtain⟨x,hx,he⟩:=jV ht;obtain⟨u,hu,rfl⟩:=mem_map.1 hx;rw[<-he];exact HT hv u hu
theorem Py {p:List Tm} {k v:Nat} (h:POk k 1024 p) (hv:v<8):validB ((aU v p).map tn)=v_ v p:=by
 rw[Bool.eq_iff_iff];unfold validB v_;rw[v7,v7];have key: ∀ u∈p,(iq (u.1.set v (u.1.getD v 0+1))=true↔u.1.getD v 0+1<=1024):=fun u hu=>by
  have h8:=h.canon.len u hu;have h0:=h.at (by decide) v u hu;unfold iq;rw[v7];constructor
  .intro h1;have:=h1 (u.1.getD v 0+1) (List.mem_iff_getElem?.2 ⟨v,qv (by omega)⟩);rw[DV] at this;exact of_decide_eq_true this.2
  intro h1 e he;rw[DV];rcases mem_or_eq_of_mem_set he with h2 | h2
  .have:=h.exp u hu e h2;exact⟨ib (by omega),ib (by omega)⟩
  exact⟨ib (by omega),ib (by omega)⟩
 constructor
 .intro h1 u hu;refine ib ((key u hu).1 ?_);exact h1 (tn (u.1.set v (u.1.getD v 0+1),u.2 / (u.1.getD v 0+1))) (mem_map.2 ⟨_,mem_map.2 ⟨u,hu,rfl⟩,rfl⟩)
 intro h1 t ht;obtain⟨w,hw,rfl⟩:=mem_map.1 ht;obtain⟨u,hu,rfl⟩:=mem_map.1 hw;exact(key u hu).2 (of_decide_eq_true (h1 u hu))
theorem Kf (ts:List RT):(nfR ts).length<=ts.length:=by
 have:=CA (ts.map tq);rwa [length_map] at this
def Ye (ts:List RT) (v:Int):PV:=
 if validB ts=false then .tup [.fv (.sl []),.int .i64 2]
 else if v<0\/8<=v then .tup [.fv (.sl []),.int .i64 1]
 else if v_ v.toNat (nfR ts)=true then .tup [PL ((aU v.toNat (nfR ts)).map tn),.int .i64 0]
 else .tup [.fv (.sl []),.int .i64 9]
theorem Ma {v:Nat} {p:List Tm} {i:Nat} (h:i<p.length):v_ v (p.take (i+1))=(v_ v (p.take i)&&decide (p[i].1.getD v 0+1<=1024)):=by
 unfold v_;rw[List.take_add_one,qb h,qvb];simp
theorem HU {v:Nat} {p:List Tm} {i:Nat} (h:i<p.length) (h2: ¬p[i].1.getD v 0+1<=1024):v_ v p=false:=by
 unfold v_;rw[List.all_eq_false];exact⟨p[i],kj h,by simpa using h2⟩
theorem wN {m:List Int} (h:m.length=8) (a b c:PV):(mC m++[a,b,c]).length=11:=by rw[qe,bK,h];rfl
theorem CI {m:List Int} (h:m.length=8) (a b c:PV) (r:Raw):List.take 8 (mC m++[a,b,c])++r.c++List.drop 11 (mC m++[a,b,c])=fI (m,r):=by
 rw[List.drop_of_length_le (by rw[wN h];omega),List.take_append_of_le_length (by rw[bK];omega),jW h,append_nil];rfl
theorem ahV (ts:List RT) (v:Int) (hw: -9223372036854775808<=v/\v<9223372036854775808) (h8:TsOk 500000 ts) (hn:ts.length<=20) (hs:(nfR ts).length<=bG):Den Tryz.prog 27 [] [PL ts,.int .i64 v] [] (Ye ts v):=by
 have hb:PB 1000000000 (ts.map tq):=PB.terms (j:=500000) (n:=20) (by decide) (fun t ht=>by
  obtain⟨u,hu,rfl⟩:=mem_map.1 ht;exact(h8 u hu).raw.bd (by decide)) (by rw[length_map];exact hn) (by decide)
 have gO:=Kf ts;unfold Ye;by_cases hv:validB ts=true
 .have hp:=Yd (n:=20) (k:=20000000) (by decide) h8 hn (by decide) hv;have Cb:=Tl ts (fun t ht=>(h8 t ht).mono (by decide)) hb (by omega) hs hv;change Den Tryz.prog 61 [] [PL ts] [] (.tup [PL ((nfR ts).map tn),.int .i64 0]) at Cb;rw[if_neg (by rw[hv];decide)];obtain⟨p,hpp⟩:=aw (nfR ts);rw[hpp] at Cb hp gO hs ⊢;have NC:((0:Int) !=0)=false:=rfl;by_cases fF:v<0
  .rw[if_pos (.inl fF)];have e1:decide (v<0)=true:=ib fF;refine dq Tryz.func27 65 0 ?_;refine aX ?_;refine aW Cb ?_;refine ae (aQ e1 NC) ?_;refine bg rfl
  have e1:decide (v<0)=false:=mX fF;by_cases fE:8<=v
  .rw[if_pos (.inr fE)];have e2:decide (v>=8)=true:=ib fE;refine dq Tryz.func27 65 0 ?_;refine aX ?_;refine aW Cb ?_;refine ae (bZ e1 e2 NC) ?_;refine bg rfl
  have e2:decide (v>=8)=false:=mX fE;rw[if_neg (by omega)];obtain⟨w,rfl⟩: ∃ w:Nat,v=(w:Int):=⟨v.toNat,by omega⟩;rw[Int.toNat_natCast];have hw8:w<8:=by omega
  have hf:=Py (v:=w) hp hw8;have AG:=(hp.mono (k:=20000000) (F:=1000000) (by decide) (by decide)).prim (v:=w) (by decide) (by decide) hw8;have hTs:=AG.ts (by decide);have hB2:PB 1000000000 (aU w p):=PB.terms (n:=20) (j:=20000001) (by decide) AG.bd (by rw[jt];omega) (by decide);obtain⟨R,hR⟩: ∃ R:PV,(if v_ w p=true then PV.tup [PL ((aU w p).map tn),.int .i64 0] else .tup [.fv (.sl []),.int .i64 9])=R:=⟨_,rfl⟩;rw[hR];have rl:=av (p.map tn);rw[length_map] at rl;obtain⟨n,cZ⟩:=aw p.length;rw[cZ] at rl gO;have rT:=av ((aU w p).map tn);rw[length_map,jt,cZ] at rT;have tkT:=bL (ts:=(aU w p).map tn) (n:=n) (by rw[length_map,jt];omega)
  have aeS:=fun h=>Tl ((aU w p).map tn) (fun t ht=>(hTs t ht).mono (by decide)) (by rw[bC];exact hB2) (by rw[length_map,jt];omega) (by rw[bC,e7 AG.canon,jt];exact hs) h
  rw[bC,e7 AG.canon,hf] at aeS;refine dq Tryz.func27 65 0 ?_;refine aX ?_;refine aW Cb ?_;refine ae (ej e1 e2 NC rl) ?_;refine wl (α:=Nat) (fun i=>⟨[PL (p.map tn),.int .i64 w,.any,.any,.any,.any,.any,.lsl 0 0 i 11]++replicate 18 .any++[PL (p.map tn),.int .i64 n,.int .i64 i]++replicate 38 .any,[.row true (aq ((aU w (p.take i)).map tn))]⟩) (fun i=>n - i) (fun i=>i<=n/\v_ w (p.take i)=true) 0 ?_ ⟨eH _,rfl⟩ ?_
  .refine Weak.nil 7 11 (by decide) rfl ?_;refine eV [0] ?_ ?_
   .simp[bc,dX,cB]
   simp[ez,fL,aU,aq]
  rintro i ⟨hi,hlw⟩;have rli:=av ((aU w (p.take i)).map tn);rw[length_map,jt,length_take,cZ,Nat.min_eq_left hi] at rli;have tki:=bL (ts:=(aU w (p.take i)).map tn) (n:=i) (by rw[length_map,jt,length_take];omega);refine aX ?_;refine bR ?_ ?_
  .intro h1 h2;have dU:i<p.length:=by omega
   have r1:=df (ts:=p.map tn) (i:=i) (by rw[length_map];omega);rw[s_ dU] at r1;have bf:p[i]∈p:=kj dU;have N_:=hp.bd _ bf;have SF:=hp.at (by decide) w _ bf;have hm:=hp.canon.len _ bf;have eO:=L_ (v:=w) dU;have aH:=Ma (v:=w) dU;have ZH:=HU (v:=w) dU;obtain⟨t,ht⟩:=aw (p[i]);rw[ht] at r1 N_ SF hm eO aH ZH;have cJ:=eC ((aU w (p.take i)).map tn) (tn (t.1.set w (t.1.getD w 0+1),t.2 / (t.1.getD w 0+1)));rw[<-oW,<-eO] at cJ;obtain⟨x,hx⟩:=aw (t.1.getD w 0);rw[hx] at SF cJ aH ZH;have t1:((t.1.set w (x+1),cn t.2):RT).1.length=8:=by simp[hm]
   have t2:(tn t).1.length=8:=hm;have bV:=p5 (t:=tn t) (i:=w) (x:=x+1) hw8 hm;change List.take w (fI (tn t))++[PV.int IntKind.i64 (x+1)]++List.drop (w+1) (fI (tn t))=fI (t.1.set w (x+1),cn t.2) at bV;have gV:=uJ (t:=tn t) (i:=w) hw8 hm;have iG:=uJ (t:=(t.1.set w (x+1),cn t.2)) (i:=w) hw8 t1;change List.take 1 (List.drop w (fI (tn t)))=[PV.int .i64 (t.1.getD w 0)] at gV;rw[hx] at gV;dsimp only at iG;rw[show(t.1.set w (x+1)).getD w 0=x+1 by rw[qa,qv (by omega)];rfl] at iG;have vX:=aY t2;have fl0:=aK t2;have cl1:=aE t1;have cl2:=aE t2;by_cases SG:x+1<=1024
   .have e3:decide (x+1>1024)=false:=sB;have AA:=xk (x+1) (by omega);have dV:Bd 1 ((x+1:Int):Rat):=bd_int (Hr (show _<=1000001 by omega) (by decide));have vU:=OO (cn t.2) (cn ((x+1:Int):Rat)) ((bD N_).mono (by decide)) ((bD dV).mono (by decide)) (by rw[cQ];exact m_ (by omega));rw[cQ,cQ,<-mm] at vU;change Den Tryz.prog 74 [] [.int .i64 (x+1)] [] (.agg (cn ((x+1:Int):Rat)).c) at AA;rw[<-mm] at AA;change Den Tryz.prog 73 [] [.agg (cn t.2).c,.agg (cn ((x:Rat)+1)).c] [] (.tup [.agg (cn (t.2 / ((x:Rat)+1))).c,.int .i64 0]) at vU;change aq ((aU w (p.take i)).map tn)++[im (t.1.set w (x+1),cn (t.2 / ((x:Rat)+1)))]=_ at cJ;rw[ib SG,hlw] at aH;have cf:=dS t1;have c8:=dL t1;obtain⟨y,hy⟩:=aw (cn ((x:Rat)+1));rw[hy] at AA vU;obtain⟨z,hz⟩:=aw (cn (t.2 / ((x:Rat)+1)));rw[hz] at vU cJ
    have t0:((t.1.set w (x+1),z):RT).1.length=8:=by simp[hm]
    have ZO:=de t0;have cl0:=aE t0;have ajf:=aY t0;have anK:=aK t0;have ml:=bK (t.1.set w (x+1));rw[length_set,hm] at ml;have mt:=jW t0;have m8:(t.1.set w (x+1)).length=8:=by simp[hm]
    have clz:=wN m8 (.fv (.lit (.bool false))) PV.nilsl PV.nilsl;have pc:=CI m8 (.fv (.lit (.bool false))) PV.nilsl PV.nilsl z;refine ae (bT h2 r1 rl vX @d9 fl0 cl1 (fw cl2 gV iG bV @Nat.mul_one e3 @append_nil.{0})) ?_
    repeat refine ag ?_
    refine dw (by kernel_rfl) ?_;refine ae (ej @Nat.mul_one iG cf cl1) ?_
    repeat refine ag ?_
    refine aW AA ?_;refine ae (aQ @dM @append_nil.{0}) ?_;refine zm vU ?_;refine ae (bT @gq @dM @cE @xC c8 ml clz (bT pc cl0 cl1 @dr @dJ ajf tki (bZ rli cJ @append_nil.{0}))) ?_
    repeat refine ag ?_
    refine ax (i+1) ?_ ⟨by omega,aH⟩;exact bN [4]
   have e3:decide (x+1>1024)=true:=GP;have hl:=ZH SG;rw[if_neg (by rw[hl];decide)] at hR;subst hR;refine ae (bT h2 r1 rl vX @d9 fl0 cl1 (fw cl2 gV iG bV @Nat.mul_one e3 @append_nil.{0})) ?_
   repeat refine ag ?_
   refine bg rfl
  intro h1 h2;have oC:p.take i=p:=eE (by omega);have gA:i=n:=by omega
  subst gA;rw[oC] at hlw ⊢;rw[if_pos hlw] at hR;subst hR;have ajg:=aeS hlw;refine ae h2 ?_
  repeat refine ag ?_
  refine gp ajg (by simp[cC,iw,gj,fP,tkT,rT]) ?_;refine a9 ?_;refine bg rfl
 have N7:validB ts=false:=by simpa using hv
 rw[if_pos N7];have Cb:=WS ts (fun t ht=>(h8 t ht).mono (by decide)) (by omega) N7;have h20:((2:Int) !=0)=true:=rfl;refine dq Tryz.func27 65 0 ?_;refine aX ?_;refine aW Cb ?_;refine ae h20 ?_;refine bg rfl
abbrev eqV:PV:= .fv (.lit (.func (.func 254) #[] #[]))
def Asc (l:List (List Raw)) (i:Nat):Prop:= ∀ p q,p<q->q<i->bS (l.getD p []) (l.getD q [])<0
structure Cmp (ls cur:List (List Raw)) (i j:Nat):Prop where
 len:cur.length=ls.length
 pos:1<=i
 lt:i+1<=j
 le:j<=ls.length
 same: ∀ q,i<=q->cur.getD q []=ls.getD q []
 asc:Asc cur i
 sub: ∀ q,q<i->cur.getD q []∈ls
 sup: ∀ p,p<j-> ∃ q,q<i/\cur.getD q []=ls.getD p []
 last:cur.getD (i - 1) []=ls.getD (j - 1) []
theorem ba {ls:List (List Raw)} {i:Nat} (h:i<ls.length):ls.getD i []∈ls:=oV.2 ⟨i,h,rfl⟩
theorem kC {ls:List (List Raw)} {i q:Nat} {x:List Raw} (h:i<ls.length):(ls.set i x).getD q []=if q=i then x else ls.getD q []:=by
 simp only[qa,List.getElem?_set];by_cases hq:i=q
 .subst hq;rw[if_pos rfl,if_pos h,if_pos rfl];rfl
 rw[if_neg hq,if_neg (fun e=>hq e.symm)]
theorem Cmp.skip {ls cur:List (List Raw)} {i j:Nat} (h:Cmp ls cur i j) (hj:j<ls.length) (he:ls.getD j []=ls.getD (j - 1) []):Cmp ls cur i (j+1):=by
 have hp:=h.pos;have aH:=h.lt;refine⟨h.len,h.pos,by omega,by omega,h.same,h.asc,h.sub,fun p N9=>?_,?_⟩
 .by_cases Zh:p=j
  .subst Zh;rw[he];exact h.sup (p - 1) (by omega)
  exact h.sup p (by omega)
 rw[Nat.add_sub_cancel,he];exact h.last
theorem Cmp.take {ls cur:List (List Raw)} {i j:Nat} {k:Nat} (bE:AOk k ls) (h:Cmp ls cur i j) (gh: ∀ a∈ls,∀ b∈ls,bS a b=0->a=b) (tV: ∀ p q,p<q->q<ls.length->bS (ls.getD p []) (ls.getD q [])<=0) (hj:j<ls.length)
 (he:bS (ls.getD j []) (ls.getD (j - 1) [])≠0):Cmp ls (cur.set i (ls.getD j [])) (i+1) (j+1):=by
 have hp:=h.pos
 have aH:=h.lt
 have hl:=h.len
 have ZS:i<cur.length:=by omega
 have da:bS (ls.getD (j - 1) []) (ls.getD j [])<0:=by
  have h1:=tV (j - 1) j (by omega) hj;have h2:=dI (ls.getD j []) (ls.getD (j - 1) []);omega
 refine⟨by rw[length_set];exact hl,by omega,by omega,by omega,fun q hq=>?_,fun p q w5 hq=>?_,fun q hq=>?_,fun p N9=>?_,?_⟩
 .rw[kC ZS,if_neg (by omega)];exact h.same q (by omega)
 .rw[kC ZS,kC ZS,if_neg (show¬p=i by omega)]
  by_cases Hm:q=i
  .rw[if_pos Hm]
   have h9: ∀ f∈ls,f.length=9:=fun f hf=>(bE f hf).len
   have m1:=h.sub p (by omega)
   have m2:=ba (i:=j) hj
   by_cases Zm:p=i - 1
   .rw[Zm,h.last];exact da
   have h1:=h.asc p (i - 1) (by omega) (by omega)
   rw[h.last] at h1
   have h3:=m7 _ _ _ (by rw[h9 _ m1,h9 _ (ba (i:=j - 1) (by omega))]) (by rw[h9 _ (ba (i:=j - 1) (by omega)),h9 _ m2]) (Int.le_of_lt h1) (Int.le_of_lt da)
   rcases Int.lt_or_eq_of_le h3 with h4 | h4
   .exact h4
   exfalso
   have h5:=gh _ m1 _ m2 h4
   rw[h5,dI] at h1
   omega
  rw[if_neg Hm];exact h.asc p q w5 (by omega)
 .rw[kC ZS]
  split
  .exact ba hj
  exact h.sub q (by omega)
 .by_cases Zh:p=j
  .exact⟨i,by omega,by rw[kC ZS,if_pos rfl,Zh]⟩
  obtain⟨q,hq,hqe⟩:=h.sup p (by omega)
  exact⟨q,by omega,by rw[kC ZS,if_neg (by omega)];exact hqe⟩
 rw[kC ZS,if_pos (by omega),Nat.add_sub_cancel]
structure HV (ls out:List (List Raw)):Prop where
 sorted:out.Pairwise (fun a b=>bS a b<0)
 mem: ∀ f,f∈out↔f∈ls
theorem vB {l:List (List Raw)} (h:Asc l l.length):l.Pairwise (fun a b=>bS a b<0):=by
 rw[List.pairwise_iff_getElem];intro p q hp hq w5;have:=h p q w5 hq;rw[qa,qb hp,qa,qb hq] at this;exact this
theorem Cmp.done {ls cur:List (List Raw)} {i:Nat} (h:Cmp ls cur i ls.length):HV ls (cur.take i):=by
 have aH:=h.lt;have hl:=h.len;have hg: ∀ q,q<i->(cur.take i).getD q []=cur.getD q []:=fun q hq=>by
  rw[qa,List.getElem?_take,if_pos hq,qa]
 have hli:(cur.take i).length=i:=by rw[length_take];omega
 refine⟨vB (fun p q w5 hq=>?_),fun f=>?_⟩
 .rw[hli] at hq;rw[hg p (by omega),hg q hq];exact h.asc p q w5 hq
 rw[oV];constructor
 .rintro⟨q,hq,rfl⟩;rw[hli] at hq;rw[hg q hq];exact h.sub q hq
 intro hf;obtain⟨p,hp,rfl⟩:=oV.1 hf;obtain⟨q,hq,he⟩:=h.sup p hp;exact⟨q,by rw[hli];exact hq,by rw[hg q hq];exact he⟩
theorem EV {ls:List (List Raw)} (h:Asc ls ls.length):HV ls ls:=⟨vB h,fun _=>Iff.rfl⟩
theorem ahX (ls:List (List Raw)) (bE:AOk 1000000000 ls) (hn:ls.length<=1000) (gh: ∀ a∈ls,∀ b∈ls,bS a b=0->a=b) (tV: ∀ p q,p<q->q<ls.length->bS (ls.getD p []) (ls.getD q [])<=0):
 ∃ H1 res,(fun H1 res=> ∃ out,H1=[.row true (au out)]/\res=PV.lsl 0 0 out.length 27/\HV ls out) H1 res/\Den Tryz.prog 204 [.row true (au ls)] [.lsl 0 0 ls.length 27,eqV] H1 res:=by
 obtain⟨n,cZ⟩:=aw ls.length
 rw[cZ] at hn ⊢
 refine Wl Tryz.func204 64 1 ?_
 refine aX ?_
 refine bR ?_ ?_
 .intro h1 h2
  refine ae (aQ h2 @pC) ?_
  exact⟨[.row true (au ls)],.lsl 0 0 n 27,⟨ls,rfl,by rw[cZ],EV (fun p q h3 h4=>by omega)⟩,sk (cd:=True/\True) (vs:=[.lsl 0 0 n 27]) rfl ⟨cS,cS⟩ rfl trivial rfl rfl rfl⟩
 intro h1 h2
 refine ae h2 ?_
 refine wl (α:=Nat) (fun k=>⟨[.lsl 0 0 n 27,eqV,.any,.any,.nilsl,.int .i64 k]++replicate 60 .any,[.row true (au ls)]⟩)
  (fun k=>n+1 - k) (fun k=>1<=k/\k<=n/\Asc ls k) 1 ?_ ?_ ?_
 .exact bN [0]
 .exact⟨qp _,by omega,fun p q h3 h4=>by omega⟩
 rintro k ⟨jD,Lk,Vw⟩
 refine aX ?_
 refine bR ?_ ?_
 .intro h3 h4
  obtain⟨m,rfl⟩: ∃ m,k=m+1:=⟨k - 1,by omega⟩
  have B7:(((m+1:Nat):Int) - 1)=(m:Int):=by omega
  have hx:=bE.at (i:=m+1) (by omega)
  have hy:=bE.at (i:=m) (by omega)
  have bU:=acV _ _ hx hy
  have r1:=bJ ls (m+1)
  have r2:=bJ ls m
  obtain⟨x,mU⟩:=aw (ls.getD (m+1) [])
  obtain⟨y,w6⟩:=aw (ls.getD m [])
  rw[mU] at hx bU r1
  rw[w6] at hy bU r2
  have rl:=aA ls
  have rA:=aG hx.len
  have ug:=aG hy.len
  have fx:=aP x
  have fy:=aP y
  have lx:=hx.len
  have ly:=hy.len
  obtain⟨z,hz⟩:=aw (bS x y)
  rw[hz] at bU
  unfold RL at bU
  refine ae h4 ?_
  refine dw (by kernel_rfl) ?_
  refine b9 (fM B7 r1 r2 rA ug rl) ?_
  repeat refine ag ?_
  refine lY bU ?_
  refine Li ?_
  refine Br.beqInt ?_ ?_
  .intro h5 h6
   refine ae h6 ?_
   repeat refine ag ?_
   have Nx:Cmp ls ls (m+1) (m+1+1):=by
    refine⟨rfl,by omega,qp _,by omega,fun q _=>rfl,Vw,fun q hq=>ba (by omega),fun p hp=>?_,?_⟩
    .by_cases hpm:p=m+1
     .refine⟨m,by omega,?_⟩;rw[hpm,mU,w6];exact(gh _ (mU ▸ ba (by omega)) _ (w6 ▸ ba (by omega)) (by rw[hz];exact h5)).symm
     exact⟨p,by omega,rfl⟩
    rw[show m+1 - 1=m by omega,show m+1+1 - 1=m+1 by omega,mU,w6];exact(gh _ (mU ▸ ba (by omega)) _ (w6 ▸ ba (by omega)) (by rw[hz];exact h5)).symm
   clear bU mU w6 hx hy rA ug fx fy lx ly r1 r2 hz
   refine wl (α:=Nat×Nat×List (List Raw)) (fun⟨i,k2,cur⟩=>⟨[.lsl 0 0 n 27,eqV,.any,.any,.nilsl,.int .i64 i,.lsl 0 (m+1) (n - (m+1)) 27,.int .i64 k2]++replicate 58 .any,[.row true (au cur)]⟩)
    (fun⟨_,k2,_⟩=>n - k2) (fun⟨i,k2,cur⟩=>1<=k2/\Cmp ls cur i (m+1+k2)) (m+1,1,ls) ?_ ?_ ?_
   .exact bN [0]
   .exact⟨qp _,Nx⟩
   rintro⟨i,k2,cur⟩ ⟨iJ,hc⟩
   have fG:=hc.len
   have anL:=hc.lt
   have anM:=hc.le
   refine aX ?_
   refine bR ?_ ?_
   .intro g1 g2
    obtain⟨p,rfl⟩: ∃ p,k2=p+1:=⟨k2 - 1,by omega⟩
    have B7:(((p+1:Nat):Int) - 1)=(p:Int):=by omega
    have e1:cur.getD (m+1+(p+1)) []=ls.getD (m+1+(p+1)) []:=hc.same _ (by omega)
    have e2:cur.getD (m+1+p) []=ls.getD (m+1+p) []:=hc.same _ (by omega)
    have hx:=bE.at (i:=m+1+(p+1)) (by omega)
    have hy:=bE.at (i:=m+1+p) (by omega)
    have bU:=acV _ _ hx hy
    have r1:=bJ cur (m+1+(p+1))
    have r2:=bJ cur (m+1+p)
    have r4:=bJ cur i
    have dU:(cur.getD i []).length=9:=by rw[hc.same i (qp _)];exact(bE.at (by omega)).len
    have fi:=aP (cur.getD i [])
    rw[e1] at r1
    rw[e2] at r2
    obtain⟨x,mU⟩:=aw (ls.getD (m+1+(p+1)) [])
    obtain⟨y,w6⟩:=aw (ls.getD (m+1+p) [])
    obtain⟨c0,NB⟩:=aw (cur.getD i [])
    rw[NB] at r4 dU fi
    rw[mU] at hx bU r1
    rw[w6] at hy bU r2
    have AH:=aA cur
    have rA:=aG hx.len
    have ug:=aG hy.len
    have fx:=aP x
    have fy:=aP y
    have lx:=hx.len
    have ly:=hy.len
    have gx:=ah x
    have di:List.drop 27 (cK c0)=[]:=nv dU
    have bP:(au cur).set i (cK x)=au (cur.set i x):=p_ cur i x
    obtain⟨z,hz⟩:=aw (bS x y)
    rw[hz] at bU
    obtain⟨bz,hbz⟩:=aw ((z==0))
    rw[hbz] at bU
    unfold RL at bU
    refine ae g2 ?_
    refine dw (by kernel_rfl) ?_
    refine b9 (fM B7 r1 r2 rA ug AH) ?_
    repeat refine ag ?_
    refine lY bU ?_
    cases bz with
    | true=>
     have Vj:z=0:=by simpa using hbz
     refine b9 @Bool.not_true ?_;refine ax (i,p+1+1,cur) ?_ ⟨by omega,?_⟩
     .exact bN [0]
     .refine hc.skip (by omega) ?_;rw[show m+1+(p+1) - 1=m+1+p by omega,mU,w6];exact gh _ (mU ▸ ba (by omega)) _ (w6 ▸ ba (by omega)) (by rw[hz];exact Vj)
    | false=>
     have Vj:z≠0:=by simpa using hbz
     refine b9 (bT @Bool.not_false r1 r4 rA AH fi dU (gS gx lx di fx bP)) ?_
     repeat refine ag ?_
     refine ax (i+1,p+1+1,cur.set i x) ?_ ⟨by omega,?_⟩
     .exact bN [0]
     have:=hc.take bE gh tV (by omega) (by rw[show m+1+(p+1) - 1=m+1+p by omega,mU,w6,hz];exact Vj);rw[mU] at this;exact this
   intro g1 g2
   have Jn:m+1+k2=ls.length:=by omega
   rw[Jn] at hc
   have lB:=hc.done
   have AH:=aA cur
   have gN:List.take i (au cur)=au (cur.take i):=by simp[au]
   have Cc:(cur.take i).length=i:=by rw[length_take];omega
   refine ae (ej g2 AH gN @pC) ?_
   repeat refine ag ?_
   exact⟨[.row true (au (cur.take i))],.lsl 0 0 i 27,⟨cur.take i,rfl,by rw[Cc],lB⟩,sk (cd:=True/\True) (vs:=[.lsl 0 0 i 27]) rfl ⟨cS,cS⟩ rfl trivial rfl rfl rfl⟩
  intro h5 h6
  refine ae h6 ?_
  refine ax (m+1+1) ?_ ⟨by omega,by omega,fun p q h7 h8=>?_⟩
  .exact bN [0]
  by_cases hq:q=m+1
  .subst hq
   have aH:bS (ls.getD m []) (ls.getD (m+1) [])<0:=by
    have e1:=tV m (m+1) (by omega) (by omega);have e2:=dI (ls.getD (m+1) []) (ls.getD m []);rw[mU,w6] at e1 e2 ⊢;omega
   by_cases hpm:p=m
   .rw[hpm];exact aH
   have e1:=Vw p m (by omega) (by omega)
   have e2:=tV p (m+1) (by omega) (by omega)
   rcases Int.lt_or_eq_of_le e2 with e3 | e3
   .exact e3
   exfalso
   have e4:=gh _ (ba (by omega)) _ (ba (by omega)) e3
   rw[e4,dI] at e1
   omega
  exact Vw p q h7 (by omega)
 intro h3 h4
 have ajk:k=n:=by omega
 subst ajk
 refine ae (aQ h4 @pC) ?_
 exact⟨[.row true (au ls)],.lsl 0 0 k 27,⟨ls,rfl,by rw[cZ],EV (fun p q h5 h6=>Vw p q h5 (by omega))⟩,sk (cd:=True/\True) (vs:=[.lsl 0 0 k 27]) rfl ⟨cS,cS⟩ rfl trivial rfl rfl rfl⟩
abbrev nzV:PV:= .fv (.lit (.func (.func 220) #[] #[]))
def n6 (t:Tm):Bool:=decide (t.2≠0)
theorem WU (t:Tm) (h8:t.1.length=8) (hb:Bd 1000000000 t.2):Den Tryz.prog 220 [] [.agg (fI (tn t))] [] (.bool (! n6 t)):=by
 have iI:=mf (cn t.2) ((bD hb).mono (by decide));rw[cQ] at iI;change Den Tryz.prog 84 [] [.agg (cn t.2).c] [] _ at iI;have ht:(tn t).1.length=8:=h8;have cl:=aE ht;have cf:=dS ht;have e:(gk t.2==0)=! n6 t:=by
  unfold n6;by_cases h:t.2=0
  .rw[mX (by simpa using h),bm.2 h];rfl
  rw[ib h];have:gk t.2≠0:=fun h2=>h (bm.1 h2)
  simpa using this
 obtain⟨z,hz⟩:=aw (gk t.2);obtain⟨b,Vx⟩:=aw ((! n6 t));rw[hz] at iI e;rw[Vx] at e ⊢;change List.take 3 (List.drop 8 (fI (tn t)))=(cn t.2).c at cf;refine dq Tryz.func220 6 0 ?_;refine b8 cl ?_
 repeat refine ag ?_
 refine gp iI (by simp[cC,iw,ED,L4,cf]) ?_;refine ae e ?_;refine bg rfl
theorem Mb {ts:List Tm} {i:Nat} (h:i<ts.length) (hf:(ts.take i).filter n6=ts.take i) (hz:n6 ts[i]=true):(ts.take (i+1)).filter n6=ts.take (i+1):=by
 rw[List.take_add_one,qb h,filter_append,hf];simp[hz]
theorem ac1 (ts:List Tm) (h8:Len8 ts) (hb: ∀ t∈ts,Bd 1000000000 t.2) (hn:ts.length<=10000000000):
 ∃ H1 res,(fun H1 res=>H1=[.row true (aq (ts.map tn))]/\((res=PV.int .i64 (-1)/\ts.filter n6=ts)\/ ∃ i:Nat,∃ h:i<ts.length,res=PV.int .i64 i/\(ts.take i).filter n6=ts.take i/\n6 ts[i]=false)) H1 res/\
  Den Tryz.prog 250 [.row true (aq (ts.map tn))] [.lsl 0 0 ts.length 11,nzV] H1 res:=by
 obtain⟨n,cZ⟩:=aw ts.length
 have rl:=av (ts.map tn)
 rw[length_map,cZ] at rl
 rw[cZ] at hn
 refine Wl Tryz.func250 17 1 ?_
 refine b8 cZ ?_
 refine wl (α:=Nat) (fun i=>⟨[.lsl 0 0 n 11,nzV,.any,.any,.any,.any,.any,.int .i64 n,.int .i64 i]++replicate 10 .any,[.row true (aq (ts.map tn))]⟩)
  (fun i=>n - i) (fun i=>i<=n/\(ts.take i).filter n6=ts.take i) 0 ?_ ?_ ?_
 .exact bN [0]
 .exact⟨eH _,rfl⟩
 rintro i ⟨hi,hf⟩
 refine aX ?_
 refine bR ?_ ?_
 .intro h1 h2
  have dU:i<ts.length:=by omega
  have r1:=df (ts:=ts.map tn) (i:=i) (by rw[length_map];omega)
  rw[s_ dU] at r1
  have bf:ts[i]∈ts:=kj dU
  have hm:=h8 _ bf
  have hd:=WU ts[i] hm (hb _ bf)
  have hft:=Mb dU hf
  obtain⟨t,ht⟩:=aw (ts[i])
  rw[ht] at r1 hm hd hft
  have kR:(tn t).1.length=8:=hm
  have vX:=aY kR
  have fl:=aK kR
  obtain⟨b,Vx⟩:=aw (n6 t)
  rw[Vx] at hd hft
  refine ae (fM h2 r1 vX @d9 rl fl) ?_
  repeat refine ag ?_
  refine gp hd (by simp[cC,iw,dr,d9]) ?_
  refine ae @dJ ?_
  cases b with
  | true=>
   refine ae @Bool.not_true ?_;refine ax (i+1) ?_ ⟨by omega,hft rfl⟩;exact bN [0]
  | false=>
   refine ae @Bool.not_false ?_;exact⟨[.row true (aq (ts.map tn))],.int .i64 i,⟨rfl,.inr ⟨i,dU,rfl,hf,by rw[ht];exact Vx⟩⟩,sk (cd:=True/\True) (vs:=[.int .i64 i]) rfl ⟨cS,cS⟩ rfl trivial rfl rfl rfl⟩
 intro h1 h2
 have Vc:ts.take i=ts:=eE (by omega)
 rw[Vc] at hf
 refine ae h2 ?_
 exact⟨[.row true (aq (ts.map tn))],.int .i64 (-1),⟨rfl,.inl ⟨rfl,hf⟩⟩,sk (cd:=True/\True) (vs:=[.int .i64 (-1)]) rfl ⟨cS,cS⟩ rfl trivial rfl rfl rfl⟩
def mq (ts:List Tm) (j:Nat):List Tm:=(ts.take j).filter n6++ts.drop ((ts.take j).filter n6).length
def lL (ts:List Tm) (j:Nat):Nat:=((ts.take j).filter n6).length
theorem Kg (ts:List Tm) (j:Nat):lL ts j<=j:=by
 unfold lL;have:=List.length_filter_le n6 (ts.take j);rw[length_take] at this;omega
theorem EW (ts:List Tm) {j:Nat} (h:j<=ts.length):(mq ts j).length=ts.length:=by
 have:=Kg ts j;unfold lL at this;unfold mq;rw[qe,length_drop];omega
theorem Kh {ts:List Tm} {j q:Nat} (h:lL ts j<=q) (hq:q<ts.length):(mq ts j).getD q ([],0)=ts[q]:=by
 unfold lL at h;unfold mq;rw[qa,getElem?_append_right h,List.getElem?_drop,Nat.add_sub_cancel' h,qb hq];rfl
theorem Mc {ts:List Tm} {j:Nat} (h:j<ts.length) (hz:n6 ts[j]=true):mq ts (j+1)=(mq ts j).set (lL ts j) ts[j]/\lL ts (j+1)=lL ts j+1:=by
 have e:(ts.take (j+1)).filter n6=(ts.take j).filter n6++[ts[j]]:=by
  rw[List.take_add_one,qb h,filter_append];simp[hz]
 have hl:=Kg ts j;unfold lL at hl;unfold mq lL;rw[e,qe];refine⟨?_,rfl⟩;rw[List.set_append_right _ _ (qp _),Nat.sub_self,append_assoc];congr 1;rw[drop_eq_getElem_cons (i:=((ts.take j).filter n6).length) (by omega),set_cons_zero];rfl
theorem uR {ts:List Tm} {j:Nat} (h:j<ts.length) (hz:n6 ts[j]=false):mq ts (j+1)=mq ts j/\lL ts (j+1)=lL ts j:=by
 have e:(ts.take (j+1)).filter n6=(ts.take j).filter n6:=by
  rw[List.take_add_one,qb h,filter_append];simp[hz]
 unfold mq lL;rw[e];exact⟨rfl,rfl⟩
theorem Md {ts:List Tm}:lL ts ts.length=(ts.filter n6).length/\(mq ts ts.length).take (lL ts ts.length)=ts.filter n6:=by
 unfold mq lL;rw[List.take_length];exact⟨rfl,List.take_left' rfl⟩
theorem nA (ts:List Tm) (i:Nat) (t:Tm):(aq (ts.map tn)).set i (im (tn t))=aq ((ts.set i t).map tn):=by rw[uN,List.map_set]
theorem uS {p:List Tm} {i:Nat} (h:i<p.length):(aq (p.map tn)).getD i []=im (tn (p.getD i ([],0))):=by
 rw[df (by rw[length_map];exact h),s_ h,qa,qb h];rfl
theorem ac2 (ts:List Tm) (h8:Len8 ts) (hb: ∀ t∈ts,Bd 1000000000 t.2) (hn:ts.length<=10000000000):
 Den Tryz.prog 219 [.row true (aq (ts.map tn))] [.lsl 0 0 ts.length 11,nzV] [.row true (aq ((ts.filter n6).map tn))] (.lsl 0 0 (ts.filter n6).length 11):=by
 obtain⟨H1,res,⟨hH,ak⟩,ZT⟩:=ac1 ts h8 hb hn
 obtain⟨n,cZ⟩:=aw ts.length
 have rl:=av (ts.map tn)
 rw[length_map,cZ] at rl
 rw[cZ] at hn ZT ⊢
 rcases ak with⟨rfl,hf⟩ | ⟨i,dU,rfl,hfi,hzi⟩
 .subst hH
  rw[hf,cZ]
  have e1:((-1:Int)== -1)=true:=rfl
  refine dq Tryz.func219 40 1 ?_
  refine aX ?_
  refine iD 0 ZT trivial ?_
  refine ae (bZ e1 @Pu @append_nil.{0}) ?_
  exact sk (cd:=True/\True) (vs:=[.lsl 0 0 n 11]) rfl ⟨cS,cS⟩ rfl trivial rfl rfl rfl
 subst hH
 have e1:((i:Int)== -1)=false:=by rw[qx];omega
 have hI:lL ts (i+1)=i:=by
  rw[(uR dU hzi).2];unfold lL;rw[hfi,length_take];omega
 have hM:mq ts (i+1)=ts:=by
  rw[(uR dU hzi).1];unfold mq;rw[hfi,length_take,Nat.min_eq_left (by omega),List.take_append_drop]
 refine dq Tryz.func219 40 1 ?_
 refine aX ?_
 refine iD 0 ZT trivial ?_
 refine ae (bZ e1 @Pu @append_nil.{0}) ?_
 refine wl (α:=Nat) (fun j=>⟨[.lsl 0 0 n 11,nzV,.any,.any,.any,.int .i64 (lL ts j),.int .i64 j]++replicate 35 .any,[.row true (aq ((mq ts j).map tn))]⟩)
  (fun j=>n - j) (fun j=>j<=n/\lL ts j<j) (i+1) ?_ ⟨by omega,by omega⟩ ?_
 .rw[hI,hM]
  exact bN [0]
 rintro j ⟨hj,qX⟩
 obtain⟨q,hq⟩:=aw (lL ts j)
 have hML:=EW ts (j:=j) (by omega)
 rw[cZ] at hML
 rw[hq] at qX ⊢
 have rm:=av ((mq ts j).map tn)
 rw[length_map,hML] at rm
 refine aX ?_
 refine bR ?_ ?_
 .intro h1 h2
  have lC:j<ts.length:=by omega
  have r1:=uS (p:=mq ts j) (i:=j) (by omega)
  rw[Kh (by omega) lC] at r1
  have r2:=uS (p:=mq ts j) (i:=q) (by omega)
  rw[Kh (by omega) (show q<ts.length by omega)] at r2
  have bf:ts[j]∈ts:=kj lC
  have hm:=h8 _ bf
  have hmq:=h8 _ (kj (show q<ts.length by omega))
  have hd:=WU ts[j] hm (hb _ bf)
  have hk:=Mc lC
  have jd:=uR lC
  have a_:=nA (mq ts j) q ts[j]
  rw[hq] at hk jd
  obtain⟨t,ht⟩:=aw (ts[j])
  rw[ht] at r1 hm hd hk jd a_
  obtain⟨u,hu⟩:=aw (ts[q])
  rw[hu] at r2 hmq
  have kR:(tn t).1.length=8:=hm
  have Lr:(tn u).1.length=8:=hmq
  have vX:=aY kR
  have fl:=aK kR
  have flu:=aK Lr
  have du:=nw Lr
  have ZO:=de kR
  have cl:=aE kR
  obtain⟨b,Vx⟩:=aw (n6 t)
  rw[Vx] at hd hk jd
  refine ae (bT h2 r1 vX @d9 rm fl cl (aQ ZO @append_nil.{0})) ?_
  repeat refine ag ?_
  refine gp hd (by simp[cC,iw,dr,d9]) ?_
  refine ae @dJ ?_
  cases b with
  | true=>
   obtain⟨k1,k2⟩:=hk rfl;rw[<-k1] at a_;refine ae (bT @Bool.not_true @Bool.not_false r2 ZO cl fl flu (fM du rm @dr @dJ a_ @append_nil.{0})) ?_
   repeat refine ag ?_
   refine ax (j+1) ?_ ⟨by omega,by omega⟩;rw[k2];exact bN [0]
  | false=>
   obtain⟨k1,k2⟩:=jd rfl;refine ae (aQ @Bool.not_true @Bool.not_false) ?_;refine ax (j+1) ?_ ⟨by omega,by omega⟩;rw[k1,k2];exact bN [0]
 intro h1 h2
 have hjn:j=ts.length:=by omega
 subst hjn
 have Jc:=Md (ts:=ts)
 rw[hq] at Jc
 have gN:List.take q (aq ((mq ts ts.length).map tn))=aq ((ts.filter n6).map tn):=by
  rw[<-Jc.2];simp[aq]
 rw[<-Jc.1]
 refine ae (bZ h2 rm gN) ?_
 repeat refine ag ?_
 exact sk (cd:=True/\True) (vs:=[.lsl 0 0 q 11]) rfl ⟨cS,cS⟩ rfl trivial rfl rfl rfl
def ow:Nat->List Tm->List (List Int×PV)
 | _,[]=>[]
 | k,t::acc=>(t.1,.int .i64 k)::ow (k+1) acc
theorem nB (a m:List Int) (v:PV) (es:List (List Int×PV)):dH ((a,v)::es) m=if a=m then some v else dH es m:=by
 unfold dH;by_cases h:a=m
 .rw[List.find?_cons_of_pos (by simpa using h),if_pos h];rfl
 rw[List.find?_cons_of_neg (by simpa using h),if_neg h]
theorem Bt: ∀ {acc:List Tm} {k:Nat} {m:Mn},m∉acc.map (·.1)->dH (ow k acc) m=none
 | [],_,_,_=>rfl
 | t::acc,k,m,h=>by
  have ih:=Bt (acc:=acc) (k:=k+1) (m:=m) (fun h2=>h (mem_cons_of_mem _ h2));have cM:t.1≠m:=fun e=>h (by rw[<-e];simp)
  unfold ow;rw[nB,if_neg cM];exact ih
theorem EX: ∀ {acc:List Tm} {k:Nat} {m:Mn} {q:Rat},m∉acc.map (·.1)->jG (ow k acc) m (.int .i64 ((k+acc.length:Nat):Int))=ow k (acc++[(m,q)])
 | [],k,m,q,_=>rfl
 | t::acc,k,m,q,h=>by
  have ih:=EX (acc:=acc) (k:=k+1) (m:=m) (q:=q) (fun h2=>h (mem_cons_of_mem _ h2));have cM:t.1≠m:=fun e=>h (by rw[<-e];simp)
  show(if(t.1==m)=true then _ else(t.1,PV.int .i64 k)::jG (ow (k+1) acc) m _)=(t.1,PV.int .i64 k)::ow (k+1) (acc++[(m,q)]);rw[if_neg (by simpa using cM),<-ih,length_cons];congr 4;omega
theorem xO: ∀ {acc:List Tm} {m:Mn} {q:Rat},m∉acc.map (·.1)->accAdd acc m q=acc++[(m,q)]
 | [],_,_,_=>rfl
 | t::acc,m,q,h=>by
  have ih:=xO (acc:=acc) (m:=m) (q:=q) (fun h2=>h (mem_cons_of_mem _ h2));have cM:t.1≠m:=fun e=>h (by rw[<-e];simp)
  unfold accAdd;rw[if_neg cM,ih];rfl
theorem Bu: ∀ {acc:List Tm} {k:Nat} {m:Mn} (q:Rat),m∈acc.map (·.1)-> ∃ i,∃ h:i<acc.length,acc[i].1=m/\dH (ow k acc) m=some (.int .i64 ((k+i:Nat):Int))/\
 accAdd acc m q=acc.set i (m,acc[i].2+q)/\ow k (acc.set i (m,acc[i].2+q))=ow k acc
 | [],_,_,_,h=>by simp at h
 | t::acc,k,m,q,h=>by
  by_cases he:t.1=m
  .refine⟨0,by simp,he,?_,?_,?_⟩
   .unfold ow;rw[nB,if_pos he];rfl
   .unfold accAdd;rw[if_pos he,set_cons_zero,List.getElem_cons_zero,<-he]
   rw[set_cons_zero];show(m,_)::ow (k+1) acc=(t.1,_)::ow (k+1) acc;rw[he]
  have hm:m∈acc.map (·.1):=by
   rcases List.mem_cons.1 h with h2 | h2
   .exact absurd h2.symm he
   exact h2
  obtain⟨i,hi,h1,h2,h3,h4⟩:=Bu (k:=k+1) q hm;refine⟨i+1,by simpa using hi,h1,?_,?_,?_⟩
  .unfold ow;rw[nB,if_neg he,h2];congr 3;omega
  .unfold accAdd;rw[if_neg he,h3];rfl
  show(t.1,_)::ow (k+1) (acc.set i (m,acc[i].2+q))=(t.1,_)::ow (k+1) acc;rw[h4]
theorem EY {t:RT} {r:Raw} (h:t.1.length=8):List.take 8 (im t)++r.f++List.drop 11 (im t)=im (t.1,r):=by
 rw[pZ h,nw h,append_nil];rfl
theorem EZ {t:RT} (h:t.1.length=8):List.take 3 (List.drop 8 (im t))=t.2.f:=by rw[uI h];rfl
theorem ac3 (s t:RT) (hs:s.1.length=8) (ht:t.1.length=8):Den Tryz.prog 221 [] [.agg [.int .i64 8],.agg (fI s),.agg (fI t)] [] (.int .i64 (-(iV s.1 t.1))):=by
 have h1:=WM s.1 t.1 8 hs ht (by decide);have g1:=s4 s.1 8 hs;have g2:=s4 t.1 8 ht;have r:=rQ s.1 t.1;obtain⟨z,hz⟩:=aw (iV s.1 t.1);rw[hz] at h1 r ⊢;have ls:=aE hs;have lt:=aE ht;have k1:=dL hs;have k2:=dL ht;have i1:List.take 8 (ints s.1)=ints s.1:=eE (by rw[cg];omega);have i2:List.take 8 (ints t.1)=ints t.1:=eE (by rw[cg];omega);have e0:(0:Int) - z= -z:=by omega
 refine dq Tryz.func221 14 0 ?_;refine b8 (aQ ls lt) ?_
 repeat refine ag ?_
 refine Draw.freeze [1,2] (by kernel_rfl) ?_;simp -dsimp(disch:=omega) only[k1,nh,oO,ls,g1,Option.isSome_none,i1,Int.reduceToNat,↓reduceIte,Nat.reduceMul,Nat.reduceSub,reduceLT,reduceLeDiff,ru]
 repeat refine ag ?_
 simp -dsimp(disch:=omega) only[k2,nh,oO,lt,g2,Option.isSome_none,i2,Int.reduceToNat,↓reduceIte,Nat.reduceMul,Nat.reduceSub,reduceLT,reduceLeDiff,ru]
 repeat refine ag ?_
 refine a9 ?_;refine gp h1 (by simp[cC,iw,gj,fP]) ?_;refine ae e0 ?_
 repeat refine ag ?_
 refine bg rfl
theorem rY {p:List Tm} {i:Nat} (h:i<p.length):(aq (p.map tn)).getD i []=im (tn p[i]):=by
 rw[df (by rw[length_map];exact h),s_ h]
theorem Me (l:List Tm):l.filter n6=l.filter (fun t=>decide (t.2≠0)):=rfl
theorem Ki (ts:List RT) (h8:TsOk 1000000000 ts) (hb:PB 1000000000 (ts.map tq)) (hn:ts.length<=1000000000) (hs:(nf (ts.map tq)).length<=bG):
 Den Tryz.prog 185 [] [PL ts] [] (PL ((nf (ts.map tq)).map tn)):=by
 have rl:=av ts
 obtain⟨n,cZ⟩:=aw ts.length
 rw[cZ] at rl hn
 obtain⟨T,hT⟩:=aw (ts.map tq)
 have hTl:T.length=n:=by rw[<-hT,length_map,cZ]
 have Vp:Len8 T:=by rw[<-hT];exact tc h8.l8
 rw[hT] at hb hs ⊢
 refine dq Tryz.func185 60 0 ?_
 refine b8 rl ?_
 repeat refine ag ?_
 refine wl (α:=Nat) (fun i=>⟨[PL ts,.any,.any,.tab 0,.lsl 1 0 (accL (T.take i)).length 11,.any,.any,.any,.any,.any,.any,.any,.any,PL ts,.int .i64 n,.int .i64 i]++replicate 45 .any,[.tab 8 (ow 0 (accL (T.take i))),.row true (aq ((accL (T.take i)).map tn))]⟩) (fun i=>n - i) (fun i=>i<=n) 0 ?_ (eH _) ?_
 .refine eV [0,1] ?_ ?_
  .simp[bc,dX,cB]
   simp[accL]
  simp[ez,fL]
  simp[accL,ow,aq]
 rintro i hi
 have rk:(accL (T.take i)).length<=i:=by
  have:=Ew (T.take i);rw[length_take] at this;omega
 have vW:=uH (ts:=T.take i) (fun t ht=>Vp t (Cg ht))
 obtain⟨acc,vk⟩:=aw (accL (T.take i))
 have hbA: ∀ t∈acc,Bd 1000000000 t.2:=by rw[<-vk];exact((hb.take i).accL).bd (by decide)
 rw[vk] at rk vW ⊢
 obtain⟨K,hK⟩:=aw acc.length
 have rm:=av (acc.map tn)
 rw[length_map,hK] at rm
 have tkm:=bL (ts:=acc.map tn) (n:=K) (by rw[length_map];omega)
 rw[hK] at rk ⊢
 refine aX ?_
 refine bR ?_ ?_
 .intro h1 h2
  have r1:=df (ts:=ts) (i:=i) (by omega)
  have bf:=f7 (ts:=ts) (i:=i) (by omega)
  have bE:=h8 _ bf
  have eO:T.take (i+1)=T.take i++[tq (ts.getD i oP)]:=by
   rw[List.take_add_one,<-hT,List.getElem?_map,qa,qb (by omega)];rfl
  obtain⟨t,ht⟩:=aw (ts.getD i oP)
  rw[ht] at r1 bE eO
  have Vq:=A7 (T.take i) (tq t)
  rw[<-eO,vk] at Vq
  change accL (T.take (i+1))=accAdd acc t.1 t.2.q at Vq
  have hm:=bE.len
  have Xq:=bE.rng
  have Jj:=aY hm
  have fl:=aK hm
  have c8:=dL hm
  have cl:=aE hm
  have ml:=bK t.1
  rw[hm] at ml
  have m8:=jW hm
  have cc:=dS hm
  have aeF:(∀ x∈t.1,-9223372036854775808<=x/\x<9223372036854775808):=fun x hx=>by have:=Xq x hx;omega
  by_cases hk:t.1∈acc.map (·.1)
  .obtain⟨j,hj,Sx,zA,NG,wx⟩:=Bu (k:=0) t.2.q hk
   rw[Nat.zero_add] at zA
   have r2:=rY hj
   have hmj:=vW _ (kj hj)
   have hbj:=hbA _ (kj hj)
   have a_:=nA acc j (t.1,acc[j].2+t.2.q)
   rw[<-NG] at a_ wx
   obtain⟨u,hu⟩:=aw (acc[j])
   rw[hu] at r2 hmj hbj a_ Sx
   have Hj:=JR (cn u.2) t.2 (bD hbj) bE.raw
   rw[cQ] at Hj
   change Den Tryz.prog 69 [] [.agg (cn u.2).c,.agg t.2.c] [] (.agg (cn (u.2+t.2.q)).c) at Hj
   change _=aq _ at a_
   have htu:(tn u).1.length=8:=hmj
   have pf:=EY (r:=cn (u.2+t.2.q)) htu
   change _=im (u.1,cn (u.2+t.2.q)) at pf
   rw[Sx] at pf
   change (aq (acc.map tn)).set j (im (t.1,cn (u.2+t.2.q)))=_ at a_
   have flu:=aK htu
   have cfu:=EZ htu
   change List.take 3 (List.drop 8 (im (tn u)))=(cn u.2).f at cfu
   obtain⟨z,hz⟩:=aw (cn (u.2+t.2.q))
   rw[hz] at Hj pf a_
   have pf2:List.take 8 (im (tn u))++(z.f++List.drop (8+z.f.length) (im (tn u)))=im (t.1,z):=by
    rw[<-append_assoc];exact pf
   have aD:(accAdd acc t.1 t.2.q).length=K:=by rw[NG,length_set,hK]
   have hjK:j<K:=by omega
   simp -dsimp(disch:=omega) only[h2,r1,Jj,d9,fl,c8,cl,rl,append_nil,hm,zA,Option.getD_some,Option.isSome_some,↓reduceIte,reduceAdd,reduceLT,reduceLeDiff,ru]
   repeat refine ag ?_
   refine dw (by kernel_rfl) ?_
   refine ae (fw r2 rm flu cfu @L4 cl cc) ?_
   repeat refine ag ?_
   refine zm Hj ?_
   refine ae (bT @gq @dM @cE r2 rm flu @ED @append_nil.{0}) ?_
   repeat refine ag ?_
   refine ax (i+1) ?_ (by omega)
   rw[Vq,aD,<-wx]
   refine eV [0,1] ?_ ?_
   .simp[bc,dX,cB]
   simp[ez,fL]
   rw[pf2,a_]
  have zA:=Bt (k:=0) hk
  have bV:=EX (k:=0) (q:=t.2.q) hk
  rw[Nat.zero_add,hK] at bV
  have NG:=xO (q:=t.2.q) hk
  have h41:=OL t.2 (bE.raw.mono (by decide))
  change Den Tryz.prog 68 [] [.agg t.2.c] [] (.agg (cn t.2.q).c) at h41
  have cJ:=eC (acc.map tn) (tn (t.1,t.2.q))
  rw[<-oW,<-NG] at cJ
  rw[<-NG] at bV
  change aq (acc.map tn)++[im (t.1,cn t.2.q)]=_ at cJ
  obtain⟨z,hz⟩:=aw (cn t.2.q)
  rw[hz] at h41 cJ
  have aD:(accAdd acc t.1 t.2.q).length=K+1:=by rw[NG,qe,hK];rfl
  have tz:((t.1,z):RT).1.length=8:=hm
  have ZO:=de tz
  have clz:=aE tz
  have vX:=aY tz
  have flz:=aK tz
  have bl:=wN hm (.fv (.lit (.bool false))) PV.nilsl PV.nilsl
  have pc:=CI hm (.fv (.lit (.bool false))) PV.nilsl PV.nilsl z
  simp -dsimp(disch:=omega) only[h2,r1,Jj,d9,fl,c8,cl,rl,append_nil,hm,zA,Option.getD_none,Option.isSome_none,bV,still,↓reduceIte,reduceAdd,reduceLT,reduceLeDiff,ru]
  repeat refine ag ?_
  refine dw (by kernel_rfl) ?_
  refine ae (bZ c8 cl cc) ?_
  repeat refine ag ?_
  refine zm h41 ?_
  refine ae (bT @gq @dM @cE ml bl pc clz (fw vX @dr @dJ rm tkm cJ @append_nil.{0})) ?_
  repeat refine ag ?_
  refine ax (i+1) ?_ (by omega)
  rw[Vq,aD]
  exact bN [0,4]
 intro h1 h2
 have Vc:T.take i=T:=eE (by omega)
 rw[Vc] at vk
 have kN:n4 T=acc.filter n6:=by rw[Me,<-vk];rfl
 have Jl:=EC Vp
 rw[kN] at Jl
 have Vy:=ac2 acc vW hbA (by omega)
 rw[hK] at Vy
 obtain⟨out,dG⟩:=aw (acc.filter n6)
 rw[dG] at kN Jl Vy
 have ZN: ∀ t∈out.map tn,t.1.length=8:=fun t ht=>by
  obtain⟨u,hu,rfl⟩:=mem_map.1 ht;rw[<-dG] at hu;exact vW u (List.mem_filter.1 hu).1
 obtain⟨ls',hp,hso,Jm⟩:=WR 221 (.agg #[.int .i64 8]) (.lit (.int .i64 8)) rfl (out.map tn) ZN (by rw[length_map];omega) (fun s hs t ht=>ac3 s t (ZN s hs) (ZN t ht))
 have ak:ls'=(nf T).map tn:=by
  have h5:(ls'.map tq).Perm (n4 T):=by
   rw[kN];have:=hp.map tq;rw[bC] at this;exact this
  have h6:(ls'.map tq).Pairwise (fun a b=>gQ b.1 a.1=false):=by
   rw[List.pairwise_map];refine hso.imp ?_;intro a b rv;have: ¬gQ b.1 a.1=true:=rv;exact Bool.eq_false_iff.2 this
  rw[<-J3 Vp h5 h6,List.map_map]
  conv=>lhs;rw[<-List.map_id ls']
  refine List.map_congr_left (fun t ht=>?_);obtain⟨w,_,rfl⟩:=mem_map.1 (hp.mem_iff.1 ht);show tn w=tn (tq (tn w));rw[Ps]
 rw[ak] at Jm
 obtain⟨O,Vr⟩:=aw out.length
 rw[Vr] at Jl Vy
 have oH:((nf T).map tn).length=O:=by rw[length_map,<-Jl]
 have tkf:=bL (ts:=(nf T).map tn) (n:=O) (by omega)
 have rf:=av ((nf T).map tn)
 rw[oH] at rf
 rw[length_map,Vr] at Jm
 have hfa: ∀ cs l (H:List Ob),rC H (.agg cs::l)=none:=fun cs l H=>by simp[rC,gj,fP]
 refine ae h2 ?_
 refine iD 1 Vy trivial ?_
 have dR:lent 1 2 0=1:=rfl
 refine ae (ej @Pu hfa dR @append_nil.{0}) ?_
 refine iD 1 Jm trivial ?_
 refine ae (aQ @Pu @append_nil.{0}) ?_
 refine bg ?_
 exact lX (aQ tkf rf)
theorem Kj {ts:List RT} (h: ∀ t∈ts,t.1.length=8):(∀ y,y∈aq ts->y.length=11)=True:=by
 refine eq_true (fun y hy=>?_);obtain⟨t,ht,rfl⟩:=mem_map.1 hy;exact aK (h t ht)
theorem WV (ts:List RT) (h8: ∀ t∈ts,t.1.length=8) (hn:ts.length<=1000000000):Den Tryz.prog 186 [] [PL ts] [.row true (aq ts)] (.lsl 0 0 ts.length 11):=by
 cases ts with
 | nil=>
  show Den Tryz.prog 186 [] ([]++ .fv (.sl [])::[]) [.row true []] (.lsl 0 0 0 11);refine Den.empty' ?_ (fun b o cap=>?_)
  .show Den Tryz.prog 186 [] [.nilsl] [.row true []] (.lsl 0 0 0 11);refine Lh JG JH Tryz.func186 (cd:=_) rfl (by decide) rfl (n:=7) rfl rfl ?_ 11 (by decide);refine b8 @vQ ?_;exact⟨_,rfl,cS,cS⟩
  .show Den Tryz.prog 186 [] [.fv (.lit (.slice (some ⟨b,o,none⟩) 0 cap))] [.row true []] (.lsl 0 0 0 11);refine dq Tryz.func186 7 0 ?_;refine aX ?_;exact RetOK.own rfl ⟨cS,cS⟩ rfl
 | cons a t=>
  have h11:=Kj h8;have rl:=av (a::t);show Den Tryz.prog 186 [] [.fv (.sl (aq (a::t)))] [.row true (aq (a::t))] (.lsl 0 0 (a::t).length 11);have e:aq (a::t)=im a::aq t:=rfl;rw[e] at h11 rl ⊢;obtain⟨n,cZ⟩:=aw ((a::t).length);rw[cZ] at rl hn ⊢;obtain⟨us,gK⟩:=aw (im a::aq t);have zo:us.length=n:=by rw[<-gK];exact rl
  refine dq Tryz.func186 7 0 ?_;refine aX ?_;rw[gK] at h11 ⊢;have Vh:(aq t).length+1=n:=by simpa using rl
  refine ae (aQ h11 Vh) ?_;refine⟨⟨by omega,by omega⟩,?_⟩;exact RetOK.own rfl ⟨cS,cS⟩ rfl
theorem Mf (a b:List RT):aq a++aq b=aq (a++b):=by simp[aq]
theorem ac4 (ps qs:List RT) (h8:TsOk 1000000000 ps) (h8q:TsOk 1000000000 qs) (hb:PB 1000000000 ((ps++qs).map tq)) (hn:ps.length<=400000000) (hnq:qs.length<=400000000) (hs:(nf ((ps++qs).map tq)).length<=bG):
 Den Tryz.prog 139 [] [PL ps,PL qs] [] (PL ((nf ((ps++qs).map tq)).map tn)):=by
 have RN:=WV ps h8.l8 (by omega)
 have wA:=Ki (ps++qs) (fun t ht=>by
  rcases List.mem_append.1 ht with h | h
  .exact h8 t h
  exact h8q t h) hb (by rw[qe];omega) hs
 have cJ:=Mf ps qs
 have lp:=av ps
 have lq:=av qs
 have la:=av (ps++qs)
 rw[qe] at la
 have tp:=bL (ts:=ps) (n:=ps.length) (qp _)
 have ta:=bL (ts:=ps++qs) (n:=ps.length+qs.length) (by rw[qe];omega)
 have q11:=Kj h8q.l8
 obtain⟨R,hR⟩:=aw ((nf ((ps++qs).map tq)).map tn)
 rw[hR] at wA ⊢
 refine dq Tryz.func139 8 0 ?_
 refine aX ?_
 refine aW RN ?_
 refine ae (gS tp lp lq q11 @append_nil.{0}) ?_
 refine⟨⟨by omega,by omega,by omega⟩,?_⟩
 refine ae cJ ?_
 refine gp wA (by simp[cC,iw,gj,fP,ta,la]) ?_
 refine a9 ?_
 refine bg rfl
theorem dt (p:List Tm) (r:Rat):(cW p r).length=p.length:=by simp[cW]
def rZ (p:List Tm) (r:Rat) (i:Nat):List Tm:=cW (p.take i) r++p.drop i
theorem E0 (p:List Tm) (r:Rat) {i:Nat} (h:i<=p.length):(rZ p r i).length=p.length:=by
 unfold rZ;rw[qe,dt,length_take,length_drop];omega
theorem Tq {p:List Tm} {r:Rat} {i:Nat} (h:i<p.length):(rZ p r i).getD i ([],0)=p[i]:=by
 have e:(cW (p.take i) r).length=i:=by rw[dt,length_take];omega
 unfold rZ;rw[qa,getElem?_append_right (by omega),e,Nat.sub_self,List.getElem?_drop,qb (by omega)];rfl
theorem Mh {p:List Tm} {r:Rat} {i:Nat} (h:i<p.length):(rZ p r i).set i (p[i].1,p[i].2*r)=rZ p r (i+1):=by
 have e:(cW (p.take i) r).length=i:=by rw[dt,length_take];omega
 unfold rZ;rw[List.set_append_right _ _ (by omega),e,Nat.sub_self,drop_eq_getElem_cons h,set_cons_zero];unfold cW;rw[List.take_add_one,qb h,v8,append_assoc];rfl
theorem Mi (p:List Tm) (r:Rat):rZ p r p.length=cW p r:=by
 unfold rZ;rw[List.take_length,List.drop_length,append_nil]
theorem Pz {p:List Tm} {r:Rat} {j k:Nat} (h: ∀ t∈p,Bd j t.2) (hr:Bd k r) (hk:1<=j+k): ∀ t∈cW p r,Bd (j+k) t.2:=fun t ht=>by
 obtain⟨u,hu,rfl⟩:=mem_map.1 ht;exact Bd.mul (h u hu) hr hk
theorem POk.scale {j k:Nat} {E:Int} {p:List Tm} {r:Rat} (h:POk j E p) (hr:Bd k r) (hk:1<=j+k) (h0:r≠0):POk (j+k) E (cW p r):=by
 refine⟨⟨?_,?_,Len8.scale h.canon.len⟩,Pz h.bd hr hk,?_⟩
 .unfold cW;rw[List.pairwise_map];exact h.canon.sorted
 .intro t ht;obtain⟨u,hu,rfl⟩:=mem_map.1 ht;have:=h.canon.nz u hu;exact fun h2=>by
   rcases Rat.mul_eq_zero.1 h2 with h3 | h3
   .exact this h3
   exact h0 h3
 intro t ht e he;obtain⟨u,hu,rfl⟩:=mem_map.1 ht;exact h.exp u hu e he
theorem ac5 (p:List Tm) (r:Rat) (hp:POk 10000000 1000000 p) (hr:Bd 10000 r) (h0:r≠0) (hn:p.length<=50) (hs:p.length<=bG):
 Den Tryz.prog 163 [] [PL (p.map tn),.agg (cn r).c] [] (PL ((cW p r).map tn)):=by
 have hTs:=hp.ts (by decide)
 have l_:=hp.scale hr (by decide) h0
 have hTp:=l_.ts (by decide)
 have RN:=WV (p.map tn) hTs.l8 (by rw[length_map];omega)
 rw[length_map] at RN
 have wA:=Ki ((cW p r).map tn) (fun t ht=>(hTp t ht).mono (by decide)) (by
  rw[bC];exact PB.terms (n:=50) (by decide) l_.bd (by rw[dt];exact hn) (by decide)) (by rw[length_map,dt];omega) (by rw[bC,e7 l_.canon,dt];exact hs)
 rw[bC,e7 l_.canon] at wA
 obtain⟨n,cZ⟩:=aw p.length
 rw[cZ] at RN
 have lB:=Mi p r
 rw[cZ] at lB
 have hM0:rZ p r 0=p:=rfl
 have rT:=av ((cW p r).map tn)
 rw[length_map,dt,cZ] at rT
 have tkT:=bL (ts:=(cW p r).map tn) (n:=n) (by rw[length_map,dt];omega)
 refine dq Tryz.func163 26 0 ?_
 refine b8 @cE ?_
 repeat refine ag ?_
 refine aW RN ?_
 refine a9 ?_
 refine wl (α:=Nat) (fun i=>⟨[.any,.any,.any,.ptr 0 0 0,.any,.lsl 1 0 n 11,.any,.any,.any,.any,.int .i64 n,.int .i64 i]++replicate 16 .any,[.box true (cn r).c,.row true (aq ((rZ p r i).map tn))]⟩) (fun i=>n - i) (fun i=>i<=n) 0 ?_ (eH _) ?_
 .rw[hM0]
  refine eV [0,1] ?_ ?_
  .simp[bc,dX,cB]
  simp[ez,fL,acP]
 intro i hi
 have hML:=E0 p r (i:=i) (by omega)
 rw[cZ] at hML
 have rm:=av ((rZ p r i).map tn)
 rw[length_map,hML] at rm
 refine aX ?_
 refine bR ?_ ?_
 .intro h1 h2
  have dU:i<p.length:=by omega
  have r1:=uS (p:=rZ p r i) (i:=i) (by omega)
  rw[Tq dU] at r1
  have bf:p[i]∈p:=kj dU
  have N_:=hp.bd _ bf
  have hm:=hp.canon.len _ bf
  have a_:=nA (rZ p r i) i (p[i].1,p[i].2*r)
  rw[Mh dU] at a_
  obtain⟨t,ht⟩:=aw (p[i])
  rw[ht] at r1 N_ hm a_
  have G1:=ON (cn t.2) (cn r) ((bD N_).mono (by decide)) ((bD hr).mono (by decide))
  rw[cQ,cQ] at G1
  change Den Tryz.prog 70 [] [.agg (cn t.2).c,.agg (cn r).c] [] (.agg (cn (t.2*r)).c) at G1
  have Ve:(tn t).1.length=8:=hm
  have pf:=EY (r:=cn (t.2*r)) Ve
  change _=im (t.1,cn (t.2*r)) at pf
  change (aq ((rZ p r i).map tn)).set i (im (t.1,cn (t.2*r)))=_ at a_
  have fl:=aK Ve
  have cf:=EZ Ve
  change List.take 3 (List.drop 8 (im (tn t)))=(cn t.2).f at cf
  obtain⟨z,hz⟩:=aw (cn (t.2*r))
  rw[hz] at G1 pf a_
  obtain⟨y,hy⟩:=aw (cn r)
  rw[hy] at G1 ⊢
  have pf2:List.take 8 (im (tn t))++(z.f++List.drop (8+z.f.length) (im (tn t)))=im (t.1,z):=by
   rw[<-append_assoc];exact pf
  refine ae h2 ?_
  refine dw (by kernel_rfl) ?_
  refine ae (fw r1 rm fl cf @L4 @cE @xC) ?_
  repeat refine ag ?_
  refine zm G1 ?_
  refine ae (bT @gq @dM @cE r1 rm fl @ED @append_nil.{0}) ?_
  repeat refine ag ?_
  refine ax (i+1) ?_ (by omega)
  refine eV [0,1] ?_ ?_
  .simp[bc,dX,cB]
  simp[ez,fL,acP]
  rw[pf2,a_]
 intro h1 h2
 have gA:i=n:=by omega
 subst gA
 rw[lB]
 refine ae h2 ?_
 refine gp wA (by simp[cC,iw,gj,fP,tkT,rT]) ?_
 refine a9 ?_
 refine bg rfl
theorem ac6 (p:List Tm) (hp:POk 10000000 1000000 p) (hn:p.length<=50) (hs:p.length<=bG):
 Den Tryz.prog 140 [] [PL (p.map tn)] [] (PL ((cW p (-1)).map tn)):=by
 have AA:=xk (-1) (by omega)
 have ZU:=ac5 p (-1) hp (Bd.mono (j:=1) (Go.Pl.bd_int (x:= -1) (by decide)) (by decide)) (by decide) hn hs
 change Den Tryz.prog 74 [] [.int .i64 (-1)] [] (.agg (cn (-1)).c) at AA
 obtain⟨z,hz⟩:=aw (cn (-1))
 rw[hz] at AA ZU
 obtain⟨P,hP⟩:=aw (p.map tn)
 obtain⟨Q,hQ⟩:=aw ((cW p (-1)).map tn)
 rw[hP,hQ] at ZU
 rw[hP,hQ]
 refine dq Tryz.func140 5 0 ?_
 refine aX ?_
 refine aW AA ?_
 refine ae (aQ @dM @append_nil.{0}) ?_
 refine aW ZU ?_
 refine a9 ?_
 refine bg rfl
theorem CJ:Bd 1 (-1:Rat):=Go.Pl.bd_int (x:= -1) (by decide)
structure LOkT (k:Nat) (E:Int) (p:List Tm):Prop where
 len:Len8 p
 bd: ∀ t∈p,Bd k t.2
 exp: ∀ t∈p,∀ e∈t.1,0<=e/\e<=E
theorem POk.l {k:Nat} {E:Int} {p:List Tm} (h:POk k E p):LOkT k E p:=⟨h.canon.len,h.bd,h.exp⟩
theorem LOkT.ts {k:Nat} {E:Int} {p:List Tm} (h:LOkT k E p) (hE:E<=1000000000000):TsOk k (p.map tn):=fun t ht=>by
 obtain⟨u,hu,rfl⟩:=mem_map.1 ht;exact⟨h.len u hu,fun x hx=>by have:=h.exp u hu x hx;omega,bD (h.bd u hu)⟩
theorem LOkT.app {k:Nat} {E:Int} {p q:List Tm} (h:LOkT k E p) (hq:LOkT k E q):LOkT k E (p++q):=by
 refine⟨h.len.app hq.len,fun t ht=>?_,fun t ht=>?_⟩<;>rcases List.mem_append.1 ht with h1 | h1
 .exact h.bd t h1
 .exact hq.bd t h1
 .exact h.exp t h1
 exact hq.exp t h1
theorem LOkT.mono {j k:Nat} {E F:Int} {p:List Tm} (h:LOkT j E p) (hk:j<=k) (hE:E<=F):LOkT k F p:=
 ⟨h.len,fun t ht=>(h.bd t ht).mono hk,fun t ht e he=>by have:=h.exp t ht e he;omega⟩
theorem HW (p q:List Tm) (hp:LOkT 10000000 1000000 p) (hq:LOkT 10000000 1000000 q) (hn:p.length<=20) (hnq:q.length<=20) (hs:(nf (p++q)).length<=bG):
 Den Tryz.prog 139 [] [PL (p.map tn),PL (q.map tn)] [] (PL ((nf (p++q)).map tn)):=by
 have e:((p.map tn)++(q.map tn)).map tq=p++q:=by rw[<-v8,bC]
 have h:=ac4 (p.map tn) (q.map tn) (fun t ht=>((hp.ts (by decide)) t ht).mono (by decide)) (fun t ht=>((hq.ts (by decide)) t ht).mono (by decide)) (by
  rw[e];exact PB.terms (n:=40) (j:=10000000) (by decide) (hp.app hq).bd (by rw[qe];omega) (by decide)) (by rw[length_map];omega) (by rw[length_map];omega) (by rw[e];exact hs)
 rw[e] at h
 exact h
theorem ahY (p q:List Tm) (hp:POk 1000000 1000000 p) (hq:POk 1000000 1000000 q) (hn:p.length<=20) (hnq:q.length<=20) (hqs:q.length<=bG) (hs:(nf (p++cW q (-1))).length<=bG):
 Den Tryz.prog 85 [] [PL (p.map tn),PL (q.map tn)] [] (PL ((nf (p++cW q (-1))).map tn)):=by
 have h1:=ac6 q (hq.mono (by decide) (by decide)) (by omega) hqs
 have h2:=HW p (cW q (-1)) (hp.mono (by decide) (by decide)).l ((hq.scale CJ (by decide) (by decide)).mono (by decide) (by decide)).l hn (by rw[dt];exact hnq) hs
 obtain⟨P,hP⟩:=aw (p.map tn)
 obtain⟨Q,hQ⟩:=aw (q.map tn)
 obtain⟨N,hN⟩:=aw ((cW q (-1)).map tn)
 obtain⟨R,hR⟩:=aw ((nf (p++cW q (-1))).map tn)
 rw[hQ,hN] at h1
 rw[hP,hN,hR] at h2
 rw[hP,hQ,hR]
 refine dq Tryz.func85 7 0 ?_
 refine aX ?_
 refine aW h1 ?_
 refine a9 ?_
 refine aW h2 ?_
 refine a9 ?_
 refine bg rfl
def lM (a b:Mn) (i:Nat):Mn:=e_ (a.take i) (b.take i)++a.drop i
theorem k4 {a b:Mn} {i:Nat} (ha:a.length=8) (hb:b.length=8) (hi:i<=8):(lM a b i).length=8:=by
 unfold lM e_;rw[qe,length_zipWith,length_take,length_take,length_drop];omega
theorem Kk {a b:Mn} {i:Nat} (ha:a.length=8) (hb:b.length=8) (hi:i<8):(lM a b i).getD i 0=a.getD i 0:=by
 have e:(e_ (a.take i) (b.take i)).length=i:=by
  unfold e_;rw[length_zipWith,length_take,length_take];omega
 unfold lM;rw[qa,getElem?_append_right (by omega),e,Nat.sub_self,List.getElem?_drop,qa];rfl
theorem Bv {a b:Mn} {i:Nat} (ha:a.length=8) (hb:b.length=8) (hi:i<8):(lM a b i).set i (a.getD i 0+b.getD i 0)=lM a b (i+1):=by
 have e:(e_ (a.take i) (b.take i)).length=i:=by
  unfold e_;rw[length_zipWith,length_take,length_take];omega
 unfold lM;rw[List.set_append_right _ _ (by omega),e,Nat.sub_self,drop_eq_getElem_cons (i:=i) (by omega),set_cons_zero];rw[List.take_add_one,qb (l:=a) (by omega),List.take_add_one,qb (l:=b) (by omega)];unfold e_;rw[List.zipWith_append (by rw[length_take,length_take];omega),append_assoc];rw[qa,qb (by omega),qa,qb (by omega)];rfl
theorem Bw {a b:Mn} (ha:a.length=8) (hb:b.length=8):lM a b 8=e_ a b:=by
 unfold lM;rw[eE (by omega),eE (by omega),List.drop_of_length_le (by omega),append_nil]
theorem Kl (H:List Ob) (keep:List Nat): ∀ m:List Int,tM H keep (mC m)=some (mC m)
 | []=>rfl
 | n::m=>by
  have ih:=Kl H keep m;unfold mC at ih ⊢;simp only[map_cons,tM,ih];rfl
theorem ac7 (a b:Mn) (ha:a.length=8) (hb:b.length=8) (ra: ∀ x∈a,0<=x/\x<=1000000) (rb: ∀ x∈b,0<=x/\x<=1000000):
 Den Tryz.prog 188 [] [.agg (mC a),.agg (mC b)] [] (.agg (mC (e_ a b))):=by
 have la:=bK a
 have lb:=bK b
 rw[ha] at la
 rw[hb] at lb
 have ta:=jW ha
 have tb:=jW hb
 have hd:=Bw ha hb
 have h0:lM a b 0=a:=by simp[lM,e_]
 refine dq Tryz.func188 17 0 ?_
 refine b8 (aQ la lb) ?_
 repeat refine ag ?_
 refine wl (α:=Nat) (fun i=>⟨[.any,.any,.ptr 0 0 0,.ptr 1 0 0,.ptr 2 0 0,.any,.int .i64 i]++replicate 12 .any,[.box true (mC (lM a b i)),.box true (mC b),.box true (mC z8)]⟩) (fun i=>8 - i) (fun i=>i<=8) 0 ?_ (eH _) ?_
 .rw[h0]
  refine eV [0,1,2] ?_ ?_
  .simp[bc,dX,cB]
  simp[ez,fL,sY]
  exact sY _ z8
 intro i hi
 have lI:=bK (lM a b i)
 rw[k4 ha hb hi] at lI
 refine aX ?_
 refine bR ?_ ?_
 .intro h1 h2
  have a1:=Bc (m:=lM a b i) (i:=i) (by rw[k4 ha hb hi];omega)
  rw[Kk ha hb (by omega)] at a1
  have b1:=Bc (m:=b) (i:=i) (by omega)
  have bV:=O9 (m:=lM a b i) (i:=i) (x:=a.getD i 0+b.getD i 0) (by rw[k4 ha hb hi];omega)
  rw[Bv ha hb (by omega)] at bV
  have ga:=jv (by decide) ra i
  have gb:=jv (by decide) rb i
  obtain⟨x,hx⟩:=aw (a.getD i 0)
  obtain⟨y,hy⟩:=aw (b.getD i 0)
  rw[hx] at a1 bV ga
  rw[hy] at b1 bV gb
  refine ae h2 ?_
  refine dw (by kernel_rfl) ?_
  refine ae (fM a1 b1 lI lb @Nat.mul_one bV) ?_
  repeat refine ag ?_
  refine ax (i+1) ?_ (by omega)
  refine eV [0,1,2] ?_ ?_
  .simp[bc,dX,cB]
  simp[ez,fL,sY]
 intro h1 h2
 have uc:i=8:=by omega
 subst uc
 rw[hd]
 have ld:=bK (e_ a b)
 rw[gX ha hb] at ld
 have td:=jW (gX ha hb)
 have lz:(mC z8).length=8:=rfl
 have dz:List.drop 8 (mC z8)=[]:=rfl
 refine ae (fM h2 ld td lz dz @append_nil.{0}) ?_
 repeat refine ag ?_
 refine Sp rfl ⟨⟨rfl,by rw[ld];exact qp 8⟩,cS⟩ ?_
 show tN _ [] (.agg (List.take 8 (mC (e_ a b))))=_
 rw[td]
 show(tM _ [] (mC (e_ a b))).map PV.agg=_
 rw[Kl]
 rfl
end Go.Proofs.YtjjbkjgifdhlcaaGreat
