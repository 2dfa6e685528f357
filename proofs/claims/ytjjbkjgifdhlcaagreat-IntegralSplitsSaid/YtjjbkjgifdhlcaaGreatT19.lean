/- Contracts:ref31:a step of the elimination in two variables;it is the program's. -/
import Derived.Test.YtjjbkjgifdhlcaaGreatT18
import Derived.Test.YtjjbkjgifdhlcaaGreatT17
import Derived.Test.YtjjbkjgifdhlcaaGreatT8
import Derived.Test.YtjjbkjgifdhlcaaGreatT16
import Derived.Test.YtjjbkjgifdhlcaaGreatT15
import Derived.Test.YtjjbkjgifdhlcaaGreatT1
set_option linter.all false
open Nat (reduceAdd reduceMul)
open List (append_nil eq_of_mem_replicate length_map map_cons map_nil mem_map not_mem_nil replicate)
namespace Go.Proofs.YtjjbkjgifdhlcaaGreat
open Go.AM Go.Pl
set_option maxRecDepth 100000
set_option maxHeartbeats 4000000
structure akR (M:List RC) (u:Nat):Prop where
 reg: ∀ r∈M,adB r.1 r.2 u
 len:(elimR M u).length<=4000
 val:M.any (missB u)=false-> ∀ x∈elimR M u,POk 10000000 1024 x.2/\x.2.length<=1000000/\x.1.length<=40
 ord:M.any (missB u)=false->Den Tryz.prog 95 [] [RL' ((elimR M u).map rn)] [] (RL' ((nrmL (elimO M u)).map rn))
end Go.Proofs.YtjjbkjgifdhlcaaGreat
namespace Go.AM
section
variable {P:Program} {T:Tab}
end
end Go.AM
namespace Go.Proofs.YtjjbkjgifdhlcaaGreat
open Go.AM Go.Pl
set_option maxRecDepth 100000
set_option maxHeartbeats 4000000
section
variable {P:Program} {T:Tab}
end
theorem Rd3.ts {ts:List RT} (h:Rd3 ts):TsOk 10 ts:=fun t ht=>⟨(h t ht).1,fun x hx=>by have:=(h t ht).2.1 x hx;omega,(h t ht).2.2.mono (by decide)⟩
end Go.Proofs.YtjjbkjgifdhlcaaGreat
namespace Go.Proofs.YtjjbkjgifdhlcaaGreat
open Go.AM Go.Pl
set_option maxRecDepth 100000
set_option maxHeartbeats 4000000
structure RdR (r:RR):Prop where
 ok: ∀ l∈r.1,LOk 4 l
 two:Two 0 1 r.1
 len:r.1.length<=6
 rd:Rd3 r.2
 duo: ∀ t∈r.2,∀ i,2<=i->t.1.getD i 0=0
 few:r.2.length<=2
theorem Yy {ts:List RT} (h:Rd3 ts):validB ts=true:=by
 unfold validB;rw[pR];intro t ht;unfold iA;rw[pR];intro e he;have:=(h t ht).2.1 e he;rw[w8];exact⟨ir (by omega),ir (by omega)⟩
theorem QF {ts:List RT} {j k n:Nat} (hj:1<=j) (h:TsOk j ts) (hn:ts.length<=n) (hk:n*(j+1)+1<=k):PB k (ts.map tq):=PB.terms hj (fun t ht=>by
 obtain⟨u,hu,rfl⟩:=mem_map.1 ht;exact(h u hu).raw.bd hj) (by rw[length_map];exact hn) hk
theorem adC {ts:List RT} (h:TsOk 10 ts) (hn:ts.length<=2):MK ts:=by
 have h1:=Kj ts;have h2:bH=12:=rfl;exact⟨fun t ht=>(h t ht).mono (by decide),(QF (k:=23) (by decide) h hn (by decide)).mono (by decide),by omega,by omega⟩
theorem RdR.q {r:RR} (h:RdR r):RgQ 0 1 2 2 4 11 6 (r.1,nfR r.2):=by
 have AK:=h.rd.ts;have h4:TsOk 4 r.2:=fun t ht=>⟨(h.rd t ht).1,fun x hx=>by have:=(h.rd t ht).2.1 x hx;omega,(h.rd t ht).2.2⟩
 refine⟨fun l hl=>(h.ok l hl).mono (by decide),h.two,by have:=h.len;show r.1.length<=40;omega,gI (lQ _) (by have:=h.len;show r.1.length<=6;omega),cS (s_ AK.l8),?_,(QF (k:=11) (by decide) h4 h.few (by decide)).nf,.inl (by decide)⟩;refine Duo.nf (fun t ht=>?_);obtain⟨u,hu,rfl⟩:=mem_map.1 ht;have h1:=h.rd u hu;exact⟨h1.1,fun i _ h2 h3=>h.duo u hu i (by omega),jo (by decide) h1.2.1 0,jo (by decide) h1.2.1 1⟩
theorem B3: ∀ {L:List RR},(∀ r∈L,Canon (nfR r.2))->normL ((L.map (fun r=>(r.1,nfR r.2))).map rn)=normL L
 | [],_=>rfl
 | r::L,h=>by
  have ih:=B3 (L:=L) (fun x hx=>h x (ql _ hx));have hr:nfR ((nfR r.2).map tn)=nfR r.2:=u5 (h r (by simp));have hk:mH (rn (r.1,nfR r.2))=mH r:=by
   unfold mH;show(aZ r.1&&!(nfR ((nfR r.2).map tn)).isEmpty)=_;rw[hr]
  unfold normL at ih ⊢;rw[map_cons,map_cons];cases hb:mH r with
  | true=>
   rw[List.filter_cons_of_pos (by rw[hk,hb]),List.filter_cons_of_pos hb,map_cons,map_cons,ih];show(aU r.1,nfR ((nfR r.2).map tn))::_=_;rw[hr]
  | false=>rw[List.filter_cons_of_neg (by rw[hk,hb];decide),List.filter_cons_of_neg (by rw[hb];decide),ih]
theorem T0 {L:List RR} (hc:L.length<=4000) (h: ∀ r∈L,r.1.length<=40) (hv: ∀ r∈L,validB r.2=true):qO [L]=0:=by
 have h1:f3 L=false:=by
  unfold f3;rw[Bool.or_eq_false_iff];refine⟨m5 (by omega),?_⟩;rw[List.any_eq_false];intro x hx;have:=h x hx;simp[iE];omega
 have h2:kE L=true:=by
  unfold kE;rw[pR];exact hv
 unfold qO;rw[if_neg (by simp[h1]),if_pos (by simp[h2])]
theorem yG:iS 0 1 2 2 4 11 6 2:=⟨by decide,by decide,by decide,by decide,by decide,by decide,by decide,by decide⟩
structure SmR (r:RC):Prop where
 cn: ∀ l∈r.1,IsCn l/\LOk 1000 l
 len:r.1.length<=40
 pok:POk 10000000 1024 r.2
 few:r.2.length<=12
def qP (xs:List Int) (n a:Nat):List Raw×Nat:=
 if nN xs (nx xs (nx xs (rK xs n a))) 6=0 then
  (((z' xs n 0 a (replicate 9 rz)).set 8 (cn (qN xs (rK xs n a)))).set 8 (jA xs (nx xs (nx xs (nx xs (rK xs n a))))).1,(jA xs (nx xs (nx xs (nx xs (rK xs n a))))).2)
 else((z' xs n 0 a (replicate 9 rz)).set 8 (cn (qN xs (rK xs n a))),nx xs (nx xs (nx xs (rK xs n a))))
theorem C' (xs:List Int) (n a:Nat):LOk 4 (qP xs n a).1:=by
 have h1:=pZ (CG xs n 0 a _ sQ) 8 (Raw.Ok.mono (bC (wD xs (rK xs n a))) (by decide));unfold qP;split
 .exact pZ h1 8 (uB _ _)
 exact h1
theorem KX {xs:List Int} {n a:Nat} (h:a<=xs.length):(qP xs n a).2<=xs.length:=by
 have h3:=rM (n:=n) h;unfold qP;split
 .exact Bc (cI (cI (cI h3)))
 exact cI (cI (cI h3))
theorem adD (xs:List Int) (n a:Nat) (hn8:n<=8) (hl:xs.length<=1000) (ha:a<=xs.length) (hw:W64 xs):
 Den Tryz.prog 30 [S xs a] [.ptr 0 0 0,.int .i64 n] [S xs (qP xs n a).2] (RL (qP xs n a).1):=by
 have a3l:=rM (n:=n) ha
 have ajY:=CG xs n 0 a _ sQ
 unfold qP
 obtain⟨rsf,aaa⟩:=ax (z' xs n 0 a (replicate 9 rz))
 obtain⟨a3,e3⟩:=ax (rK xs n a)
 rw[e3] at a3l
 rw[aaa] at ajY
 rw[aaa,e3]
 unfold S
 refine dq Tryz.func30 26 1 ?_
 refine aY ?_
 refine wl (α:=Nat×Nat×List Raw) (fun⟨i,b,rs⟩=>⟨[.ptr 0 0 0,.int .i64 n,.any,.any,.ptr 1 0 0,.ptr 2 0 0,.int .i64 i]++replicate 21 .any,[.box true [.fv (.sl (ints xs)),.int .i64 b,.int .i64 0],.box true (gZ 9),.box true (flat rs)]⟩)
  (fun⟨i,_,_⟩=>n - i) (fun⟨i,b,rs⟩=>i<=n/\b<=xs.length/\LOk 4 rs/\z' xs (n - i) i b rs=rsf/\rK xs (n - i) b=a3) (0,a,replicate 9 rz) ?_ ?_ ?_
 .refine eS [0,1,2] ?_ ?_
  .simp[bk,dV,cC]
  simp[et,fK,dp,cC,gZ,replicate,flat,rz,u32s]
 .exact⟨by omega,ha,sQ,aaa,e3⟩
 rintro⟨i,b,rs⟩ ⟨hi,hb,bg,hS,hX⟩
 have aD:=bg.len
 have oT:=ah rs
 have cb:=aI xs b
 refine aY ?_
 refine bS ?_ ?_
 .intro h1 h2
  have G9:=Bb xs b (-2) 2 5 hl hb hw (by decide) (by decide) (by decide) (by decide) (by decide)
  have l5:=eU (xs:=xs) (a:=b) (n:=5) (by decide)
  obtain⟨k,hk⟩: ∃ k,n - i=k+1:=⟨n - 1 - i,by omega⟩
  have iQ:n - (i+1)=k:=by omega
  rw[hk] at hS hX
  unfold z' at hS
  unfold rK at hX
  have tS:=mn (-2+(nN xs b 5:Int)) (by omega)
  have bc:=d9 (rs:=rs) (i:=i) (by omega) (decide (((-2+(nN xs b 5:Int):Int):Rat).num<0)) (ai ((-2+(nN xs b 5:Int):Int):Rat).num.natAbs) (ai ((-2+(nN xs b 5:Int):Int):Rat).den)
  have ug:(⟨decide (((-2+(nN xs b 5:Int):Int):Rat).num<0),ai ((-2+(nN xs b 5:Int):Int):Rat).num.natAbs,ai ((-2+(nN xs b 5:Int):Int):Rat).den⟩:Raw)=cn ((-2+(nN xs b 5:Int):Int):Rat):=rfl
  have afx:(cn ((-2+(nN xs b 5:Int):Int):Rat)).Ok 4:=Raw.Ok.mono (bC (bd_int (by omega))) (by decide)
  rw[ug] at bc
  obtain⟨z,hz⟩: ∃ z:Int,-2+(nN xs b 5:Int)=z:=⟨_,rfl⟩
  rw[hz] at G9 tS bc hS afx
  rw[bu,bE,bE] at tS
  unfold S at G9 cb
  refine ae h2 ?_
  refine ig 0 G9 cb ?_
  refine D6 ?_
  refine aV tS ?_
  refine ae (aP bc @append_nil.{0}) ?_
  repeat refine ag ?_
  refine aw (i+1,nx xs b,rs.set i (cn (z:Rat))) ?_ ⟨by omega,cI hb,pZ bg i afx,by rw[iQ];exact hS,by rw[iQ];exact hX⟩
  exact tN [0,1,2]
 intro h1 h2
 have hi3:n - i=0:=by omega
 rw[hi3] at hS hX
 have ja:rs=rsf:=hS
 have hba:b=a3:=hX
 subst ja
 subst hba
 have zE:=O3 xs b hl hb hw
 have Xg:=cI (cI hb)
 obtain⟨a4,e4⟩:=ax (nx xs (nx xs b))
 rw[e4] at zE Xg ⊢
 have c4:=aI xs a4
 have hn6:=sT xs a4 6 hl Xg hw (by decide) (by decide)
 have hb5:=cI Xg
 obtain⟨a5,e5⟩:=ax (nx xs a4)
 rw[e5] at hn6 hb5 ⊢
 have c5:=aI xs a5
 have h34:=Wy xs a5 hl hb5 hw
 obtain⟨m,hm⟩:=ax (nN xs a4 6)
 rw[hm] at hn6 ⊢
 have bc:=d9 (rs:=rs) (i:=8) (by omega) (decide ((qN xs b).num<0)) (ai (qN xs b).num.natAbs) (ai (qN xs b).den)
 have ug:(⟨decide ((qN xs b).num<0),ai (qN xs b).num.natAbs,ai (qN xs b).den⟩:Raw)=cn (qN xs b):=rfl
 rw[ug] at bc
 have aab:=pZ bg 8 (Raw.Ok.mono (bC (wD xs b)) (by decide))
 obtain⟨rs8,ajZ⟩:=ax (rs.set 8 (cn (qN xs b)))
 rw[ajZ] at bc aab ⊢
 simp only[reduceMul,reduceAdd] at bc
 have Lw:=aab.len
 have hf8:=ah rs8
 have aj0:(flat rs8).length=27:=by omega
 rw[bu,bE,bE] at zE
 unfold S at zE hn6 h34 cb c4 c5
 by_cases h0:m=0
 .rw[if_pos h0]
  have Hl:((m:Int)==0)=true:=by rw[h0];rfl
  obtain⟨⟨r,a6⟩,hr6⟩: ∃ t,jA xs a5=t:=⟨_,rfl⟩
  have Hm:=uB xs a5
  rw[hr6] at h34 Hm ⊢
  dsimp only at h34 Hm ⊢
  have ot:=d9 (rs:=rs8) (i:=8) (by omega) r.neg r.num r.den
  have gX:(⟨r.neg,r.num,r.den⟩:Raw)=r:=rfl
  rw[gX] at ot
  have afA:=pZ aab 8 Hm
  obtain⟨rs9,aj1⟩:=ax (rs8.set 8 r)
  rw[aj1] at ot afA ⊢
  simp only[reduceMul,reduceAdd] at ot
  have hl9:=afA.len
  have hf9:=ah rs9
  have afB:(flat rs9).length=27:=by omega
  unfold Raw.v at h34
  refine ae h2 ?_
  refine ig 0 zE cb ?_
  refine nX bc ?_
  repeat refine ag ?_
  refine ig 0 hn6 c4 ?_
  refine nX Hl ?_
  refine ig 0 h34 c5 ?_
  simp -dsimp(disch:=omega) only[sh1,ot,ar hl9,afB,↓reduceIte,reduceAdd,Nat.reduceLT,Nat.reduceLeDiff,ru,zu]
  repeat refine ag ?_
  exact RetOK.formL rfl rfl hl9 rfl (aI xs _) rfl
 rw[if_neg h0]
 have Hl:((m:Int)==0)=false:=by rw[qx];omega
 refine ae h2 ?_
 refine ig 0 zE cb ?_
 refine nX bc ?_
 repeat refine ag ?_
 refine ig 0 hn6 c4 ?_
 simp -dsimp(disch:=omega) only[sh2,Hl,ar Lw,aj0,↓reduceIte,reduceAdd,Nat.reduceLT,Nat.reduceLeDiff,ru,zu]
 repeat refine ag ?_
 exact RetOK.formL rfl rfl Lw rfl (aI xs _) rfl
def jI (xs:List Int) (n:Nat):Nat->Nat->List (List Raw)
 | 0,_=>[]
 | k+1,b=>(qP xs n b).1::jI xs n k (qP xs n b).2
def vK (xs:List Int) (n:Nat):Nat->Nat->Nat
 | 0,b=>b
 | k+1,b=>vK xs n k (qP xs n b).2
theorem u_ (xs:List Int) (n:Nat): ∀ k b,(jI xs n k b).length=k
 | 0,_=>rfl
 | k+1,b=>by simp[jI,u_ xs n k]
theorem yH (xs:List Int) (n:Nat): ∀ k b,∀ l∈jI xs n k b,LOk 4 l
 | 0,b,l,h=>by simp[jI] at h
 | k+1,b,l,h=>by
  simp only[jI,w7] at h;rcases h with h | h
  .rw[h];exact C' xs n b
  exact yH xs n k _ l h
theorem yI {xs:List Int} {n:Nat}: ∀ {k b},b<=xs.length->vK xs n k b<=xs.length
 | 0,_,h=>h
 | k+1,_,h=>yI (k:=k) (KX h)
theorem adE (xs:List Int) (n m a:Nat) (hn8:n<=8) (hm:m<=100) (hl:xs.length<=1000) (ha:a<=xs.length) (hw:W64 xs):
 Den Tryz.prog 99 [S xs a] [.ptr 0 0 0,.int .i64 n,.int .i64 m] [S xs (vK xs n (nN xs a (m+1)) (nx xs a))] (.fv (.sl (au (jI xs n (nN xs a (m+1)) (nx xs a))))):=by
 have hN:=sT xs a (m+1) hl ha hw (by omega) (by omega)
 have aH:=eU (xs:=xs) (a:=a) (n:=m+1) (by omega)
 have hc:=aI xs a
 have vn:=cI ha
 obtain⟨k0,UO⟩:=ax (nN xs a (m+1))
 obtain⟨a1,e1⟩:=ax (nx xs a)
 rw[UO] at hN aH ⊢
 rw[e1] at hN vn ⊢
 obtain⟨fin,kR⟩:=ax (vK xs n k0 a1)
 obtain⟨tot,DP⟩:=ax (jI xs n k0 a1)
 rw[kR,DP]
 have em:((m:Int)+1)=((m+1:Nat):Int):=by omega
 unfold S at hN hc ⊢
 refine dq Tryz.func99 21 1 ?_
 refine aY ?_
 rw[em]
 refine ig 0 hN hc ?_
 refine D6 ?_
 refine wl (α:=Nat×Nat×List (List Raw)) (fun⟨i,b,out⟩=>⟨[.ptr 0 0 0,.int .i64 n,.int .i64 m,.any,.any,.any,.nilsl,.lsl 1 0 out.length 27,.int .i64 i]++replicate 15 .any,[S xs b,.row true (au out)]⟩)
  (fun⟨i,_,_⟩=>i) (fun⟨i,b,out⟩=>b<=xs.length/\out.length+i=k0/\vK xs n i b=fin/\out++jI xs n i b=tot) (k0,a1,[]) ?_ ?_ ?_
 .refine Weak.nil 7 27 (by decide) rfl ?_
  refine eS [0,1] ?_ ?_
  .simp[bk,dV,cC]
  simp[et,fK,dp,cC,S,au]
 .exact⟨vn,by simp,kR,by rw[List.nil_append];exact DP⟩
 rintro⟨i,b,out⟩ ⟨hb,vm,wv,cG⟩
 obtain⟨L,hL⟩:=ax out.length
 have rlo:=ay out
 rw[hL] at rlo vm
 have gv:=b9 (ls:=out) (n:=L) (by omega)
 have D':=aI xs b
 dsimp only
 rw[hL]
 unfold S at D' ⊢
 refine aY ?_
 refine bS ?_ ?_
 .intro h1 h2
  obtain⟨p,rfl⟩: ∃ p,i=p+1:=⟨i - 1,by omega⟩
  have ep:(((p+1:Nat):Int) - 1)=(p:Int):=by omega
  have h58:=adD xs n b hn8 hl hb hw
  have bg:=C' xs n b
  have eC:=KX (n:=n) hb
  simp only[vK] at wv
  simp only[jI] at cG
  obtain⟨⟨y,b2⟩,hy⟩: ∃ t,qP xs n b=t:=⟨_,rfl⟩
  rw[hy] at h58 bg eC wv cG
  dsimp only at h58 bg eC wv cG
  have Ht:=bg.len
  have gy:=ah y
  have uh:=aF Ht
  have pN:=ar Ht
  have ja:=dc out y
  unfold S at h58
  unfold RL at h58
  refine ae h2 ?_
  refine ig 0 h58 D' ?_
  refine Y8 (fw gy Ht uh gv ja rlo ep) ?_
  repeat refine ag ?_
  refine aw (p,b2,out++[y]) ?_ ⟨eC,by rw[qe,hL];simp;omega,wv,by rw[<-cG];simp⟩
  exact bQ [0,3]
 intro h1 h2
 have uj:i=0:=by omega
 subst uj
 have RH:b=fin:=wv
 have zD:out=tot:=by rw[<-cG];simp[jI]
 subst RH
 subst zD
 refine ae h2 ?_
 refine sq rfl ⟨cW,cW⟩ rfl (aI xs _) rfl ?_ rfl
 have oI:List.idxOf? 1 [0]=none:=rfl
 exact l7 (bR rlo gv oI)
theorem tG {q:Rat} (h:Bd 1 q):LOk 1 (dR q):=by
 refine⟨eb q,fun r hr=>?_⟩;unfold dR at hr;rcases List.mem_or_eq_of_mem_set hr with h1 | h1
 .rw[eq_of_mem_replicate h1];exact bC (Bd.zero (by decide))
 rw[h1];exact bC h
theorem nM (v:Nat):LOk 1 (gB v):=by
 refine⟨dH v,fun r hr=>?_⟩;unfold gB at hr;rcases List.mem_or_eq_of_mem_set hr with h1 | h1
 .rw[eq_of_mem_replicate h1];exact bC (Bd.zero (by decide))
 rw[h1];exact bC (bd_int (by decide))
def oh (v:Nat) (z:Int):List Raw:=(nh (gB v) (dR (z:Rat))).map cn
def om (v:Nat) (z:Int):List Raw:=(nh (cK (gB v)) (dR (z:Rat))).map cn
theorem F4 (v:Nat) {z:Int} (h:z.natAbs<4294967296):LOk 4 (oh v z):=
 LOk.of_map (fY (dH v) (eb _)) (fun q hq=>Bd.mono (CH ((nM v).bd (by decide)) ((tG (bd_int h)).bd (by decide)) (by decide) q hq) (by decide))
theorem F5 (v:Nat) {z:Int} (h:z.natAbs<4294967296):LOk 4 (om v z):=
 LOk.of_map (fY (d' (dH v)) (eb _)) (fun q hq=>Bd.mono (CH (CP ((nM v).bd (by decide))) ((tG (bd_int h)).bd (by decide)) (by decide) q hq) (by decide))
def mJ (xs:List Int) (b:Nat):Int:= -1+(nN xs b 3:Int)
def ri (xs:List Int) (b:Nat):Int:=mJ xs b+(1+(nN xs (nx xs b) 2:Int))
def mK (xs:List Int):Nat->Nat->Nat->List (List Raw)
 | 0,_,_=>[]
 | k+1,v,b=>oh v (-mJ xs b)::om v (ri xs b)::mK xs k (v+1) (nx xs (nx xs b))
theorem qH (xs:List Int) (b:Nat): -1<=mJ xs b/\mJ xs b<=1/\mJ xs b<ri xs b/\ri xs b<=3:=by
 have h1:=eU (xs:=xs) (a:=b) (n:=3) (by decide);have h2:=eU (xs:=xs) (a:=nx xs b) (n:=2) (by decide);unfold ri mJ;omega
theorem yJ (xs:List Int): ∀ k v b,(mK xs k v b).length=2*k
 | 0,_,_=>rfl
 | k+1,v,b=>by simp only[mK,List.length_cons,yJ xs k];omega
theorem KY (xs:List Int): ∀ k v b,∀ l∈mK xs k v b,LOk 4 l
 | 0,v,b,l,h=>by simp[mK] at h
 | k+1,v,b,l,h=>by
  have hb:=qH xs b;simp only[mK,w7] at h;rcases h with h | h | h
  .rw[h];exact F4 v (by omega)
  .rw[h];exact F5 v (by omega)
  exact KY xs k _ _ l h
theorem ah3 (xs:List Int) (n a:Nat) (hn8:n<=8) (hl:xs.length<=1000) (ha:a<=xs.length) (hw:W64 xs):
 Den Tryz.prog 47 [S xs a] [.ptr 0 0 0,.int .i64 n] [S xs (rK xs (2*n) a),.row true (au (mK xs n 0 a))] (.lsl 1 0 (2*n) 27):=by
 have hc:=aI xs a
 obtain⟨fin,kR⟩:=ax (rK xs (2*n) a)
 obtain⟨tot,DP⟩:=ax (mK xs n 0 a)
 have Co:tot.length=2*n:=by rw[<-DP,yJ]
 rw[kR,DP]
 unfold S at hc ⊢
 refine dq Tryz.func47 40 1 ?_
 refine aY ?_
 refine wl (α:=Nat×Nat×List (List Raw)) (fun⟨i,b,out⟩=>⟨[.ptr 0 0 0,.int .i64 n,.any,.any,.nilsl,.lsl 1 0 out.length 27,.int .i64 i]++replicate 35 .any,[S xs b,.row true (au out)]⟩)
  (fun⟨i,_,_⟩=>n - i) (fun⟨i,b,out⟩=>i<=n/\b<=xs.length/\out.length=2*i/\rK xs (2*(n - i)) b=fin/\out++mK xs (n - i) i b=tot) (0,a,[]) ?_ ?_ ?_
 .refine Weak.nil 5 27 (by decide) rfl ?_
  refine eS [0,1] ?_ ?_
  .simp[bk,dV,cC]
  simp[et,fK,dp,cC,S,au]
 .exact⟨eB _,ha,rfl,kR,by rw[List.nil_append];exact DP⟩
 rintro⟨i,b,out⟩ ⟨hi,hb,vm,wv,cG⟩
 obtain⟨L,hL⟩:=ax out.length
 have rlo:=ay out
 rw[hL] at rlo vm
 have gv:=b9 (ls:=out) (n:=L) (by omega)
 have D':=aI xs b
 dsimp only
 rw[hL]
 unfold S at D' ⊢
 refine aY ?_
 refine bS ?_ ?_
 .intro h1 h2
  obtain⟨p,hp⟩: ∃ p,n - i=p+1:=⟨n - i - 1,by omega⟩
  have Oa:n - (i+1)=p:=by omega
  have e2:2*(p+1)=2*p+1+1:=by omega
  rw[hp] at wv cG
  rw[e2] at wv
  simp only[rK] at wv
  simp only[mK] at cG
  have VE:=Bb xs b (-1) 1 3 hl hb hw (by decide) (by decide) (by decide) (by decide) (by decide)
  have dY:=cI hb
  have eC:=cI dY
  have R6:=Bb xs (nx xs b) 1 2 2 hl dY hw (by decide) (by decide) (by decide) (by decide) (by decide)
  have NL:=qH xs b
  have fR:mJ xs b= -1+(nN xs b 3:Int):=rfl
  have fL:ri xs b=mJ xs b+(1+(nN xs (nx xs b) 2:Int)):=rfl
  obtain⟨b1,aj2⟩:=ax (nx xs b)
  rw[aj2] at VE R6 dY eC wv cG fL
  obtain⟨b2,aj3⟩:=ax (nx xs b1)
  rw[aj3] at R6 eC wv cG
  have c1:=aI xs b1
  have c2:=aI xs b2
  obtain⟨w,NA⟩: ∃ t:Int,1+(nN xs b1 2:Int)=t:=⟨_,rfl⟩
  rw[NA] at R6 fL
  obtain⟨lo,Nz⟩:=ax (mJ xs b)
  rw[Nz] at NL fR fL cG
  rw[<-fR] at VE
  obtain⟨oL,DN⟩: ∃ t,ri xs b=t:=⟨_,rfl⟩
  rw[DN] at NL fL cG
  have eneg:(0:Int) - lo= -lo:=by omega
  have Va:=Yi i (by omega)
  have VF:=mn (-lo) (by omega)
  have AW:=mn oL (by omega)
  have NV:=Yh (cn ((-lo:Int):Rat)) (Raw.Ok.mono (bC (bd_int (by omega))) (by decide))
  have NW:=Yh (cn ((oL:Int):Rat)) (Raw.Ok.mono (bC (bd_int (by omega))) (by decide))
  rw[de] at NV NW
  have oQ:=Yj (gB i) ((nM i).mono (by decide))
  have NX:=Kd (gB i) (dR ((-lo:Int):Rat)) ((nM i).mono (by decide)) ((tG (bd_int (by omega))).mono (by decide))
  have Jw:=Kd (cK (gB i)) (dR ((oL:Int):Rat)) ((s5 (nM i) (by decide)).mono (by decide)) ((tG (bd_int (by omega))).mono (by decide))
  change Den Tryz.prog 101 [] [_,_] [] (RL (oh i (-lo))) at NX
  change Den Tryz.prog 101 [] [_,_] [] (RL (om i oL)) at Jw
  have oka:=F4 i (z:= -lo) (by omega)
  have okb:=F5 i (z:=oL) (by omega)
  change Den Tryz.prog 32 [] _ [] (cn ((-lo:Int):Rat)).v at VF
  change Den Tryz.prog 32 [] _ [] (cn ((oL:Int):Rat)).v at AW
  obtain⟨ra,hra⟩:=ax (cn ((-lo:Int):Rat))
  obtain⟨rb,GY⟩:=ax (cn ((oL:Int):Rat))
  rw[hra] at VF NV
  rw[GY] at AW NW
  have lx:=dH i
  have lna:=eb ((-lo:Int):Rat)
  have lnb:=eb ((oL:Int):Rat)
  have lng:=d' lx
  obtain⟨x,hx⟩:=ax (gB i)
  rw[hx] at Va oQ NX Jw lx lng
  obtain⟨na,ZO⟩:=ax (dR ((-lo:Int):Rat))
  rw[ZO] at NV NX lna
  obtain⟨nb,ZP⟩:=ax (dR ((oL:Int):Rat))
  rw[ZP] at NW Jw lnb
  obtain⟨ng,hng⟩:=ax (cK x)
  rw[hng] at oQ Jw lng
  obtain⟨ya,hya⟩:=ax (oh i (-lo))
  rw[hya] at NX oka cG
  obtain⟨yb,hyb⟩:=ax (om i oL)
  rw[hyb] at Jw okb cG
  have lya:=oka.len
  have lyb:=okb.len
  have gx:=ah x
  have nZ:=ar lx
  have gna:=ah na
  have al4:=ar lna
  have gnb:=ah nb
  have al5:=ar lnb
  have gng:=ah ng
  have al6:=ar lng
  have gya:=ah ya
  have al7:=ar lya
  have aj4:=aF lya
  have gyb:=ah yb
  have al8:=ar lyb
  have aj5:=aF lyb
  have ja:=dc out ya
  have aj6:=dc (out++[ya]) yb
  have w3:(au (out++[ya])).length=L+1:=by rw[ay,qe,hL];rfl
  have RQ:List.take (L+1) (au (out++[ya]))=au (out++[ya]):=eo (by omega)
  have elen:L+1+1=L+2:=rfl
  unfold S at VE R6 c1 c2
  unfold Raw.v at VF AW NV NW
  unfold RL at Va oQ NX Jw NV NW
  refine ae h2 ?_
  refine ig 0 VE D' ?_
  refine D6 ?_
  refine ig 0 R6 c1 ?_
  refine D6 ?_
  repeat refine ag ?_
  refine aV Va ?_
  refine b_ (aP gx lx) ?_
  repeat refine ag ?_
  refine dw (by kernel_rfl) ?_
  refine ae (eg gx lx nZ eneg) ?_
  repeat refine ag ?_
  have ehi:lo+w=oL:=fL.symm
  refine aV VF ?_
  refine ae @append_nil.{0} ?_
  refine aV NV ?_
  refine GU ?_
  repeat refine ag ?_
  refine kO NX ?_
  refine b_ (bT gya lya aj4 gv ja rlo gx (aP lx nZ)) ?_
  repeat refine ag ?_
  refine kO oQ ?_
  refine b_ ehi ?_
  refine aV AW ?_
  refine ae @append_nil.{0} ?_
  refine aV NW ?_
  refine GU ?_
  refine kO Jw ?_
  refine b_ (fw gyb lyb aj5 RQ aj6 w3 elen) ?_
  repeat refine ag ?_
  refine aw (i+1,b2,out++[ya]++[yb]) ?_ ⟨by omega,eC,by simp;omega,by rw[Oa];exact wv,by rw[Oa,<-cG];simp⟩
  exact bQ [0,6]
 intro h1 h2
 have Jf:n - i=0:=by omega
 rw[Jf] at cG wv
 have zD:out=tot:=by rw[<-cG];simp[mK]
 have RH:b=fin:=wv
 have RP:L=2*n:=by omega
 subst zD
 subst RH
 subst RP
 refine ae h2 ?_
 exact RetOK.lentOwn rfl ⟨cW,cW⟩ rfl (aI xs _) rfl (by decide) rfl
theorem KZ {xs:List Int}: ∀ {n i a:Nat} {rs:List Raw} {k:Nat},(k<i\/i+n<=k)->co (z' xs n i a rs) k=co rs k
 | 0,_,_,_,_,_=>rfl
 | n+1,i,a,rs,k,h=>by
  unfold z';rw[KZ (n:=n) (by omega),pe (by omega)]
theorem K0 {xs:List Int} {n a k:Nat} (h:n<=k) (h8:k<8):co (qP xs n a).1 k=0:=by
 have h1:=KZ (xs:=xs) (n:=n) (i:=0) (a:=a) (rs:=replicate 9 rz) (k:=k) (by omega);rw[WR] at h1;unfold qP;split
 .show co (List.set _ 8 _) k=0;rw[pe (by omega),pe (by omega),h1]
 show co (List.set _ 8 _) k=0;rw[pe (by omega),h1]
theorem yK (xs:List Int): ∀ (k b:Nat),Two 0 1 (jI xs 2 k b)
 | 0,b=>by intro l h;simp[jI] at h
 | k+1,b=>by
  intro l h i hi h0 h1;simp only[jI,w7] at h;rcases h with h | h
  .rw[h];exact K0 (by omega) hi
  exact yK xs k _ l h i hi h0 h1
theorem pw {a b:List Raw} {i:Nat} (ha:a.length=9) (hb:b.length=9) (hi:i<9):co ((nh a b).map cn) i=co a i+co b i:=by
 unfold co;rw[p5 (by omega) (by omega),de]
theorem mL {v i:Nat} {z:Int} (hv:v<8) (hi:i<8) (h:i≠v):co (oh v z) i=0/\co (om v z) i=0:=by
 unfold oh om;rw[pw (dH v) (eb _) (by omega),pw (d' (dH v)) (eb _) (by omega),iB (dH v) (by omega),CV (by omega) (by omega),r7 (by omega),if_neg h,if_neg (by omega)];constructor<;>grind
theorem T1 (xs:List Int) (b:Nat):Two 0 1 (mK xs 2 0 b):=by
 intro l h i hi h0 h1;simp only[mK,w7,not_mem_nil,or_false] at h;rcases h with h | h | h | h<;>rw[h]
 .exact(mL (by decide) hi h0).1
 .exact(mL (by decide) hi h0).2
 .exact(mL (by decide) hi h1).1
 exact(mL (by decide) hi h1).2
theorem K1 {a b:List (List Raw)} (ha:Two 0 1 a) (hb:Two 0 1 b):Two 0 1 (a++b):=fun l hl=>by
 rcases List.mem_append.1 hl with h | h
 .exact ha l h
 exact hb l h
theorem T3 {ls:List (List Raw)} (h: ∀ l∈ls,l.length=9): ∀ y∈au ls,y.length=27:=by
 intro y hy;unfold au at hy;obtain⟨l,hl,rfl⟩:=mem_map.1 hy;rw[aO,h l hl]
def RgS (xs:List Int) (H1:List Ob) (res:PV):Prop:= ∃ (L:List RR) (a':Nat),H1=[S xs a',.row true (aX L)]/\res=PV.lsl 1 0 L.length 2/\a'<=xs.length/\L.length<=2/\ ∀ r∈L,RdR r
theorem T4 {L:List RR} {r:RR} (h: ∀ r∈L,RdR r) (hr:RdR r): ∀ x∈L++[r],RdR x:=fun x hx=>by
 rcases List.mem_append.1 hx with h1 | h1
 .exact h x h1
 rw[qz] at h1;rw[h1];exact hr
theorem amK (xs:List Int) (a:Nat) (hl:xs.length<=1000) (ha:a<=xs.length) (hw:W64 xs): ∃ H1 res,RgS xs H1 res/\Den Tryz.prog 89 [S xs a] [.ptr 0 0 0,.int .i64 2,.int .i64 2] H1 res:=by
 have hN:=sT xs a 3 hl ha hw (by omega) (by omega);have aH:=eU (xs:=xs) (a:=a) (n:=3) (by omega);have hc:=aI xs a;have Xv:=cI ha;generalize nN xs a 3=n at*;obtain⟨a0,hA⟩:=ax (nx xs a);rw[hA] at hN Xv;have e3:((2:Int)+1)=((3:Nat):Int):=rfl;unfold RgS;unfold S at hN hc;unfold S;refine Wb Tryz.func89 25 1 ?_;refine bU e3 ?_;refine ig 0 hN hc ?_;refine D6 ?_;refine wl (α:=Nat×Nat×List RR) (fun⟨i,b,L⟩=>⟨[.ptr 0 0 0,.int .i64 2,.int .i64 2,.any,.any,.any,.any,.lsl 1 0 L.length 2,.int .i64 i]++replicate 19 .any,[.box true [.fv (.sl (ints xs)),.int .i64 b,.int .i64 0],.row true (aX L)]⟩)
  (fun⟨i,_,_⟩=>i) (fun⟨i,b,L⟩=>i+L.length<=2/\b<=xs.length/\ ∀ r∈L,RdR r) (n,a0,[]) ?_ ⟨by simp;omega,Xv,fun t ht=>by simp at ht⟩ ?_
 .refine Weak.nil 7 2 (by decide) rfl ?_;refine eS [0,1] ?_ ?_
  .simp[bk,dV,cC]
  simp[et,fK,dp,cC];rfl
 rintro⟨i,b,L⟩ ⟨hi,hb,hL⟩;refine aY ?_;refine bS ?_ ?_
 .intro h1 h2;have NS:=adE xs 2 2 b (by decide) (by decide) hl hb hw;have dY:=yI (xs:=xs) (n:=2) (k:=nN xs b 3) (cI hb);have hk3:=eU (xs:=xs) (a:=b) (n:=3) (by decide);have fC:=u_ xs 2 (nN xs b 3) (nx xs b);have uk:=yH xs 2 (nN xs b 3) (nx xs b);have oH:=yK xs (nN xs b 3) (nx xs b);simp only[reduceAdd] at NS;obtain⟨b1,eb1⟩:=ax (vK xs 2 (nN xs b 3) (nx xs b));obtain⟨cc,ecc⟩:=ax (jI xs 2 (nN xs b 3) (nx xs b));rw[eb1] at NS dY;rw[ecc] at NS fC uk oH;obtain⟨H1,res,⟨ts,b2,rfl,rfl,eC,Co,ef,hz⟩,h42⟩:=WX xs b1 2 2 hl dY hw (by decide) (by decide);have cb:=aI xs b;have cb1:=aI xs b1;have hr:RdR (cc,ts):=⟨uk,oH,by show cc.length<=6;omega,ef,hz,Co⟩;have cG:=g7 L (cc,ts);unfold BM at cG;have rlt:=av ts;obtain⟨m,hm⟩:=ax ts.length;rw[hm] at rlt h42;have tk:=bO (ts:=ts) (n:=m) (by omega)
  have rlL:=bt L;obtain⟨K,hK⟩:=ax L.length;rw[hK] at rlL hi;have tkL:=dB (l:=L) (n:=K) (by omega);dsimp only;rw[hK];have dT:lent 0 2 1=2:=rfl;have aj8:lent 0 3 1=3:=rfl;have afE:lent 0 4 1=4:=rfl;have e9:((i:Int) - 1)=((i - 1:Nat):Int):=by omega
  unfold S at NS h42 cb cb1;refine ae h2 ?_;refine ig 0 NS cb ?_;refine D6 ?_;refine ig 0 h42 cb1 ?_;refine nX (bT dT tk rlt tkL rlL cG e9 @qp) ?_
  repeat refine ag ?_
  refine aw (i - 1,b2,L++[(cc,ts)]) ?_ ⟨by rw[qe,hK];show i - 1+(K+1)<=2;omega,eC,T4 hL hr⟩;exact bQ [0,4]
 intro h1 h2;have uj:i=0:=by omega
 subst uj;refine ae h2 ?_;exact⟨[.box true [.fv (.sl (ints xs)),.int .i64 b,.int .i64 0],.row true (aX L)],.lsl 1 0 L.length 2,⟨L,b,rfl,rfl,hb,by omega,hL⟩,RetOK.lentOwn (cd:=True/\True) rfl ⟨cW,cW⟩ rfl (aI xs b) rfl (by decide) rfl⟩
def BdR (r:RR):Prop:=RdR r/\Bdd 0 r.1/\Bdd 1 r.1
theorem QG {v:Nat} {z:Int} (hv:v<8) (x:Nat->Rat):aB (oh v z) x=x v+z/\aB (om v z) x= -x v+z:=by
 have a0:co (dR (z:Rat)) 8=z:=by rw[r7 (by omega),if_pos rfl]
 have a1:co (gB v) 8=0:=by rw[CV (by omega) (by omega),if_neg (by omega)]
 have a2:co (gB v) v=1:=by rw[CV (by omega) (by omega),if_pos rfl]
 have a3:co (dR (z:Rat)) v=0:=by rw[r7 (by omega),if_neg (by omega)]
 constructor
 .rw[tF hv (fun i hi cX=>(mL hv hi cX).1)];unfold oh;rw[pw (dH v) (eb _) (by omega),pw (dH v) (eb _) (by omega),a0,a1,a2,a3];grind
 rw[tF hv (fun i hi cX=>(mL hv hi cX).2)];unfold om;rw[pw (d' (dH v)) (eb _) (by omega),pw (d' (dH v)) (eb _) (by omega),iB (dH v) (by omega),iB (dH v) (by omega),a0,a1,a2,a3];grind
theorem wP {v:Nat} {z:Int} {x:Nat->Rat} (hv:v<8):(0<aB (oh v z) x\/(aN (oh v z)/\aB (oh v z) x=0)->0<x v+z)/\(0<aB (om v z) x\/(aN (om v z)/\aB (om v z) x=0)->0< -x v+z):=by
 obtain⟨h1,h2⟩:=QG (z:=z) hv x;have a2:co (gB v) v=1:=by rw[CV (by omega) (by omega),if_pos rfl]
 have a3:co (dR (z:Rat)) v=0:=by rw[r7 (by omega),if_neg (by omega)]
 constructor
 .rintro(h | h)
  .rw[h1] at h;exact h
  have:=h.1 v hv;unfold oh at this;rw[pw (dH v) (eb _) (by omega),a2,a3] at this;grind
 rintro(h | h)
 .rw[h2] at h;exact h
 have:=h.1 v hv;unfold om at this;rw[pw (d' (dH v)) (eb _) (by omega),iB (dH v) (by omega),a2,a3] at this;grind
theorem Da {a b:Int} (h:a<=b):(a:Rat)<=(b:Rat):=Rat.intCast_le_intCast.2 h
theorem T5 (xs:List Int) (b:Nat) (cc:Kc):Bdd 0 (mK xs 2 0 b++cc)/\Bdd 1 (mK xs 2 0 b++cc):=by
 have s0:=qH xs b;have s1:=qH xs (nx xs (nx xs b));have e3:((3:Int):Rat)=3:=rfl;have e1:((1:Int):Rat)=1:=rfl;constructor
 .refine⟨3,fun x hx=>?_⟩;have h1:=(wP (z:= -mJ xs b) (x:=x) (v:=0) (by decide)).1 (hx _ (by simp[mK]));have h2:=(wP (z:=ri xs b) (x:=x) (v:=0) (by decide)).2 (hx _ (by simp[mK]));have i1:=Da (show -mJ xs b<=1 by omega);have i2:=Da (show ri xs b<=3 by omega);rw[e1] at i1;rw[e3] at i2;constructor<;>grind
 refine⟨3,fun x hx=>?_⟩;have h1:=(wP (z:= -mJ xs (nx xs (nx xs b))) (x:=x) (v:=1) (by decide)).1 (hx _ (by simp[mK]));have h2:=(wP (z:=ri xs (nx xs (nx xs b))) (x:=x) (v:=1) (by decide)).2 (hx _ (by simp[mK]));have i1:=Da (show -mJ xs (nx xs (nx xs b))<=1 by omega);have i2:=Da (show ri xs (nx xs (nx xs b))<=3 by omega);rw[e1] at i1;rw[e3] at i2;constructor<;>grind
def RgT (xs:List Int) (H1:List Ob) (res:PV):Prop:= ∃ (L:List RR) (a':Nat),H1=[S xs a',.row true (aX L)]/\res=PV.lsl 1 0 L.length 2/\a'<=xs.length/\L.length<=2/\ ∀ r∈L,BdR r/\r.1.length<=5
theorem T6 {L:List RR} {r:RR} (h: ∀ r∈L,BdR r/\r.1.length<=5) (hr:BdR r/\r.1.length<=5): ∀ x∈L++[r],BdR x/\x.1.length<=5:=fun x hx=>by
 rcases List.mem_append.1 hx with h1 | h1
 .exact h x h1
 rw[qz] at h1;rw[h1];exact hr
theorem adF (xs:List Int) (a:Nat) (hl:xs.length<=1000) (ha:a<=xs.length) (hw:W64 xs): ∃ H1 res,RgT xs H1 res/\Den Tryz.prog 46 [S xs a] [.ptr 0 0 0,.int .i64 2,.int .i64 2] H1 res:=by
 have hN:=sT xs a 3 hl ha hw (by omega) (by omega);have aH:=eU (xs:=xs) (a:=a) (n:=3) (by omega);have hc:=aI xs a;have Xv:=cI ha;generalize nN xs a 3=n at*;obtain⟨a0,hA⟩:=ax (nx xs a);rw[hA] at hN Xv;have e3:((2:Int)+1)=((3:Nat):Int):=rfl;unfold RgT;unfold S at hN hc;unfold S;refine Wb Tryz.func46 29 1 ?_;refine bU e3 ?_;refine ig 0 hN hc ?_;refine D6 ?_;refine wl (α:=Nat×Nat×List RR) (fun⟨i,b,L⟩=>⟨[.ptr 0 0 0,.int .i64 2,.int .i64 2,.any,.any,.any,.any,.lsl 1 0 L.length 2,.int .i64 i]++replicate 23 .any,[.box true [.fv (.sl (ints xs)),.int .i64 b,.int .i64 0],.row true (aX L)]⟩)
  (fun⟨i,_,_⟩=>i) (fun⟨i,b,L⟩=>i+L.length<=2/\b<=xs.length/\ ∀ r∈L,BdR r/\r.1.length<=5) (n,a0,[]) ?_ ⟨by simp;omega,Xv,fun t ht=>by simp at ht⟩ ?_
 .refine Weak.nil 7 2 (by decide) rfl ?_;refine eS [0,1] ?_ ?_
  .simp[bk,dV,cC]
  simp[et,fK,dp,cC];rfl
 rintro⟨i,b,L⟩ ⟨hi,hb,hL⟩;refine aY ?_;refine bS ?_ ?_
 .intro h1 h2;have h17:=ah3 xs 2 b (by decide) hl hb hw;simp only[reduceMul] at h17;have Hl:rK xs 4 b<=xs.length:=rM hb;have hbl:=yJ xs 2 0 b;have Xd:=KY xs 2 0 b;have afF:=T1 xs b;obtain⟨b0,eb0⟩:=ax (rK xs 4 b);obtain⟨bb,ebb⟩:=ax (mK xs 2 0 b);rw[eb0] at Hl;rw[eb0,ebb] at h17;have hbx:=T5 xs b;rw[ebb] at hbx;rw[ebb] at hbl Xd afF;have NS:=adE xs 2 1 b0 (by decide) (by decide) hl Hl hw;have dY:=yI (xs:=xs) (n:=2) (k:=nN xs b0 2) (cI Hl);have hk3:=eU (xs:=xs) (a:=b0) (n:=2) (by decide);have fC:=u_ xs 2 (nN xs b0 2) (nx xs b0);have uk:=yH xs 2 (nN xs b0 2) (nx xs b0);have oH:=yK xs (nN xs b0 2) (nx xs b0);simp only[reduceAdd] at NS;obtain⟨b1,eb1⟩:=ax (vK xs 2 (nN xs b0 2) (nx xs b0));obtain⟨cc,ecc⟩:=ax (jI xs 2 (nN xs b0 2) (nx xs b0));rw[eb1] at NS dY;rw[ecc] at NS fC uk oH
  obtain⟨H1,res,⟨ts,b2,rfl,rfl,eC,Co,ef,hz⟩,h42⟩:=WX xs b1 2 2 hl dY hw (by decide) (by decide);have cb:=aI xs b;have cb0:=aI xs b0;have cb1:=aI xs b1;have hr:RdR (bb++cc,ts):=⟨fun l hl=>by
   rcases List.mem_append.1 hl with h | h
   .exact Xd l h
   exact uk l h,K1 afF oH,by show(bb++cc).length<=6;rw[qe];omega,ef,hz,Co⟩
  have Vc:=hbx cc;have cG:=g7 L (bb++cc,ts);unfold BM at cG;have rlt:=av ts;obtain⟨m,hm⟩:=ax ts.length;rw[hm] at rlt h42;have tk:=bO (ts:=ts) (n:=m) (by omega);have rlL:=bt L;obtain⟨K,hK⟩:=ax L.length;rw[hK] at rlL hi;have tkL:=dB (l:=L) (n:=K) (by omega);have rlb:=ay bb;have rlc:=ay cc;have tkb:=b9 (ls:=bb) (n:=4) (by omega);have aj9:(∀ y,y∈au cc->y.length=27)=True:=eq_true (T3 (ls:=cc) (fun l hl=>(uk l hl).len));have aka:au bb++au cc=au (bb++cc):=by simp[au]
  have rlbc:=ay (bb++cc);rw[qe] at rlbc;obtain⟨q,hq⟩:=ax cc.length;rw[hq] at rlc rlbc;rw[hbl] at rlb rlbc;have tkc:=b9 (ls:=bb++cc) (n:=4+q) (by rw[qe];omega);dsimp only;rw[hK];have dT:lent 0 2 1=2:=rfl;have aj8:lent 0 3 1=3:=rfl;have afE:lent 0 4 1=4:=rfl;have e9:((i:Int) - 1)=((i - 1:Nat):Int):=by omega
  unfold S at h17 NS h42 cb cb0 cb1;refine ae h2 ?_;refine ig 0 h17 cb ?_;refine nX dT ?_;refine ig 0 NS cb0 ?_;refine nX (fw aj9 tkb aka rlb rlc @map_cons.{0,0} @map_nil.{0,0}) ?_
  repeat refine ag ?_
  refine ig 0 h42 cb1 ?_;refine nX (bT afE tk rlt tkc rlbc tkL rlL (bR cG e9 @qp)) ?_
  repeat refine ag ?_
  refine aw (i - 1,b2,L++[(bb++cc,ts)]) ?_ ⟨by rw[qe,hK];show i - 1+(K+1)<=2;omega,eC,T6 hL ⟨⟨hr,Vc⟩,by show(bb++cc).length<=5;rw[qe];omega⟩⟩;exact bQ [0,6]
 intro h1 h2;have uj:i=0:=by omega
 subst uj;refine ae h2 ?_;exact⟨[.box true [.fv (.sl (ints xs)),.int .i64 b,.int .i64 0],.row true (aX L)],.lsl 1 0 L.length 2,⟨L,b,rfl,rfl,hb,by omega,hL⟩,RetOK.lentOwn (cd:=True/\True) rfl ⟨cW,cW⟩ rfl (aI xs b) rfl (by decide) rfl⟩
def fm (a b c:Rat):List Raw:=[cn a,cn b,cn 0,cn 0,cn 0,cn 0,cn 0,cn 0,cn c]
theorem K4 (a b c:Rat) (x:Nat->Rat):aB (fm a b c) x=c+a*x 0+b*x 1:=by
 have e: ∀ q:Rat,(cn q).q=q:=de;have c8:co (fm a b c) 8=c:=e c;have c0:co (fm a b c) 0=a:=e a;have c1:co (fm a b c) 1=b:=e b;have c2:co (fm a b c) 2=0:=e 0;have c3:co (fm a b c) 3=0:=e 0;have c4:co (fm a b c) 4=0:=e 0;have c5:co (fm a b c) 5=0:=e 0;have c6:co (fm a b c) 6=0:=e 0;have c7:co (fm a b c) 7=0:=e 0;rw[nH,c8,c0,c1,c2,c3,c4,c5,c6,c7];grind
def pt (x y:Rat):Nat->Rat:=fun i=>if i=0 then x else y
theorem pt0 (x y:Rat):pt x y 0=x:=rfl
theorem pt1 (x y:Rat):pt x y 1=y:=rfl
theorem K5 {a b c a1 b1 c1 a2 b2 c2 x y:Rat} (h0:0<c+a*x+b*y) (h1:0<c1+a1*x+b1*y) (h2:0<c2+a2*x+b2*y):ei [fm a b c,fm a1 b1 c1,fm a2 b2 c2]=true:=by
 refine er.2 ⟨pt x y,fun l hl=>?_⟩;simp only[w7,not_mem_nil,or_false] at hl;rcases hl with rfl | rfl | rfl<;>rw[K4,pt0,pt1]<;>assumption
theorem QH {a b c a1 b1 c1 x y:Rat} (h0:0<c+a*x+b*y) (h1:0<c1+a1*x+b1*y):ei [fm a b c,fm a1 b1 c1]=true:=by
 refine er.2 ⟨pt x y,fun l hl=>?_⟩;simp only[w7,not_mem_nil,or_false] at hl;rcases hl with rfl | rfl<;>rw[K4,pt0,pt1]<;>assumption
abbrev px:List (List Raw):=[fm (-1) (-1) 1,fm 0 1 0,fm 1 0 0]
abbrev Ai:List (List Raw):=[fm 0 (-1) 1,fm 0 1 0]
theorem yL {s t:List (List Raw)} {i:Nat} (h:sysL (lR s i++[cK (s.getD i [])]) []=t) (hf:ei t=true):pa s i=true:=by
 unfold pa;rw[h];exact hf
theorem Iv:jq 3 0 px=px:=by
 have r0:pa px 0=true:=yL (t:=[fm 0 1 0,fm 1 0 0,fm 1 1 (-1)]) (by decide+kernel) (K5 (x:=1) (y:=1) (by decide+kernel) (by decide+kernel) (by decide+kernel));have r1:pa px 1=true:=yL (t:=[fm (-1) (-1) 1,fm 0 (-1) 0,fm 1 0 0]) (by decide+kernel) (K5 (x:=1) (y:= -1) (by decide+kernel) (by decide+kernel) (by decide+kernel));have r2:pa px 2=true:=yL (t:=[fm (-1) (-1) 1,fm (-1) 0 0,fm 0 1 0]) (by decide+kernel) (K5 (x:= -1) (y:=1) (by decide+kernel) (by decide+kernel) (by decide+kernel));unfold jq;rw[if_pos (by decide),if_pos r0];unfold jq;rw[if_pos (by decide),if_pos r1];unfold jq;rw[if_pos (by decide),if_pos r2];unfold jq;rfl
theorem Iw:jq 2 0 Ai=Ai:=by
 have r0:pa Ai 0=true:=yL (t:=[fm 0 1 (-1),fm 0 1 0]) (by decide+kernel) (QH (x:=0) (y:=2) (by decide+kernel) (by decide+kernel));have r1:pa Ai 1=true:=yL (t:=[fm 0 (-1) 0,fm 0 (-1) 1]) (by decide+kernel) (QH (x:=0) (y:= -1) (by decide+kernel) (by decide+kernel));unfold jq;rw[if_pos (by decide),if_pos r0];unfold jq;rw[if_pos (by decide),if_pos r1];unfold jq;rfl
theorem vc {cs s t:List (List Raw)} (hv:fQ cs=false) (hs:sysL cs []=s) (hf:ei s=true) (ht:jq s.length 0 s=t):aZ cs=true/\aU cs=t:=by
 have h1:aZ cs=true:=by unfold aZ;rw[hv,hs,hf];rfl
 refine⟨h1,?_⟩;unfold aU;rw[if_pos h1,hs,ht]
abbrev Aj:List (List Raw):=[gB 0,gB 1,(nh (dR 1) (cK ((nh (gB 0) (gB 1)).map cn))).map cn]
theorem Db:Aj=[fm 1 0 0,fm 0 1 0,fm (-1) (-1) 1]:=by decide+kernel
theorem MP:aZ Aj=true/\aU Aj=px:=vc (s:=px) (by rw[Db];decide+kernel) (by rw[Db];decide+kernel) (K5 (x:=1 / 4) (y:=1 / 4) (by decide+kernel) (by decide+kernel) (by decide+kernel)) Iv
theorem Dc {cs t:List (List Raw)} {p:List Tm} (h:aZ cs=true/\aU cs=t) (hp:p≠[]):nrmL [(cs,p)]=[(t,p)]:=by
 unfold nrmL;rw[List.filter_cons_of_pos (by simp[h.1]),List.filter_nil,map_cons,map_nil,h.2];show jT [] (t,p)=_;unfold jT;rw[if_neg hp]
theorem T7:wa iH [(px,[(z8,1)])] [0,1]=(0,[(z8,1 / 2)]):=by
 have p1:([(z8.set 1 1,-1),(z8,1)]:List Tm)≠[]:=by simp
 have p2:([(z8,1 / 2)]:List Tm)≠[]:=by simp
 have s1:elimO [(px,[(z8,1)])] 0=[([fm 0 1 0,fm 0 (-1) 1],[(z8.set 1 1,-1),(z8,1)])]:=by decide+kernel
 have s2:elimO [(Ai,[(z8.set 1 1,-1),(z8,1)])] 1=[([fm 0 0 1],[(z8,1 / 2)])]:=by decide+kernel
 have m1:([(px,[(z8,1)])]:List RC).any (missB 0)=false:=by decide+kernel
 have m2:([(Ai,[(z8.set 1 1,-1),(z8,1)])]:List RC).any (missB 1)=false:=by decide+kernel
 have c1:aZ [fm 0 1 0,fm 0 (-1) 1]=true/\aU [fm 0 1 0,fm 0 (-1) 1]=Ai:=vc (s:=Ai) (by decide+kernel) (by decide+kernel) (QH (x:=0) (y:=1 / 2) (by decide+kernel) (by decide+kernel)) Iw;have c2:aZ [fm 0 0 1]=true/\aU [fm 0 0 1]=[]:=vc (s:=[]) (by decide+kernel) (by decide+kernel) (er.2 EY) rfl;have e1:iH [(px,[(z8,1)])] 0=(0,[(Ai,[(z8.set 1 1,-1),(z8,1)])]):=by
  unfold iH;rw[if_neg (by decide),show(0:Int).toNat=0 from rfl,if_neg (by rw[m1];decide),s1,Dc c1 p1]
 have e2:iH [(Ai,[(z8.set 1 1,-1),(z8,1)])] 1=(0,[([],[(z8,1 / 2)])]):=by
  unfold iH;rw[if_neg (by decide),show(1:Int).toNat=1 from rfl,if_neg (by rw[m2];decide),s2,Dc c2 p2]
 have t1:ym iH [(px,[(z8,1)])] [0,1]=(0,[([],[(z8,1 / 2)])]):=by
  rw[pn,e1,if_pos rfl,pn,e2,if_pos rfl,C2]
 unfold wa;rw[t1,if_pos rfl];unfold Qd;rw[if_neg (by decide)];have:polyS' [(([]:List (List Raw)),([(z8,1 / 2)]:List Tm))]=[(z8,1 / 2)]:=by decide+kernel
 rw[this]
abbrev Sm:List Raw:=(nh (gB 0) (gB 1)).map cn
abbrev fr3:List Raw:=(nh (dR 1) (cK Sm)).map cn
theorem Yz:Sm=fm 1 1 0:=by decide+kernel
theorem YA:fr3=fm (-1) (-1) 1:=by decide+kernel
theorem QI {a b c:Rat} (ha:Bd 1 a) (hb:Bd 1 b) (hc:Bd 1 c):LOk 1 (fm a b c):=by
 have h0:Bd 1 (0:Rat):=⟨by decide,by decide⟩;refine⟨rfl,fun r hr=>?_⟩;unfold fm at hr;simp only[w7,not_mem_nil,or_false] at hr;rcases hr with rfl | rfl | rfl | rfl | rfl | rfl | rfl | rfl | rfl<;>refine bC ?_<;>assumption
theorem lW:Bd 1 (1:Rat):=⟨by decide,by decide⟩
theorem tH:Bd 1 (0:Rat):=⟨by decide,by decide⟩
theorem wQ:Bd 1 (-1:Rat):=⟨by decide,by decide⟩
theorem YB {l:List Raw} (h:l.length=9): ∃ a b c d e f g h i,l=[a,b,c,d,e,f,g,h,i]:=by
 match l,h with
 | [a,b,c,d,e,f,g,h,i],_=>exact⟨a,b,c,d,e,f,g,h,i,rfl⟩
theorem ah4 (P:List RT):Den Tryz.prog 78 [] [PL P] [] (RL' [(Aj,P)]):=by
 have h0:=Yi 0 (by decide);have h1:=Yi 1 (by decide);have tS:=mn 1 (by omega);have Jx:=Yh (cn ((1:Int):Rat)) ((bC (Bd.mono lW (by decide))));rw[de] at Jx;have hx:LOk 1 (gB 0):=nM 0;have hy:LOk 1 (gB 1):=nM 1;have hn:LOk 1 (dR 1):=tG lW;have hs:LOk 1 Sm:=by rw[Yz];exact QI lW lW tH
 have a1:=Kd (gB 0) (gB 1) (hx.mono (by decide)) (hy.mono (by decide));have a2:=Yj Sm (hs.mono (by decide));have hm:LOk 2 (cK Sm):=s5 hs (by decide);have a3:=Kd (dR 1) (cK Sm) (hn.mono (by decide)) (hm.mono (by decide));change Den Tryz.prog 101 [] [RL (gB 0),RL (gB 1)] [] (RL Sm) at a1;change Den Tryz.prog 101 [] [RL (dR 1),RL (cK Sm)] [] (RL fr3) at a3;change Den Tryz.prog 32 [] _ [] (.agg (cn ((1:Int):Rat)).c) at tS;change Den Tryz.prog 102 [] [.agg (cn ((1:Int):Rat)).c] [] (RL (dR 1)) at Jx;have hf:LOk 1 fr3:=by rw[YA];exact QI wQ wQ lW
 have hR:RL' [(Aj,P)]= .fv (.sl [[.sl (au [gB 0,gB 1,fr3]),.sl (aq P)]]):=rfl;rw[hR];have lx:=hx.len;have ly:=hy.len;have ls:=hs.len;have ln:=hn.len;have lm:=hm.len;have lf:=hf.len;obtain⟨X,hX⟩:=ax (gB 0);obtain⟨Y,hY⟩:=ax (gB 1);obtain⟨Z,hZ⟩:=ax fr3;obtain⟨S,hS⟩:=ax Sm;obtain⟨M,hM⟩:=ax (cK Sm);obtain⟨N,hN⟩:=ax (dR 1);obtain⟨c,hc⟩:=ax (cn ((1:Int):Rat));rw[hZ] at a3 lf ⊢;rw[hM] at a2 a3 lm;rw[hS] at a1 a2 ls;rw[hX] at h0 a1 lx ⊢;rw[hY] at h1 a1 ly ⊢;rw[hN] at Jx a3 ln;rw[hc] at tS Jx;have gx:=ah X;have gy:=ah Y;have gz:=ah Z;have gs:=ah S;have gm:=ah M;have gn:=ah N;have rB:=ar lx;have uh:=ar ly;have z27:=ar lf;have X27:=aF lx;have Y27:=aF ly;have Z27:=aF lf;have fx:=aO X;have fy:=aO Y;have fz:=aO Z
 have DQ:au [X,Y,Z]=[cO X,cO Y,cO Z]:=rfl;unfold RL at h0 h1 a1 a2 a3 Jx;refine dq Tryz.func78 21 0 ?_;refine aY ?_;refine aV h0 ?_;refine GU ?_
 repeat refine ag ?_
 refine aV h1 ?_;refine b_ (eg gx lx gy ly) ?_
 repeat refine ag ?_
 refine dw (by kernel_rfl) ?_;refine ba ?_;refine aV tS ?_;refine ae (aP @dP @append_nil.{0}) ?_;refine zq Jx ?_;refine b_ (fw @gj gx lx rB gy ly uh) ?_
 repeat refine ag ?_
 refine kO a1 ?_;refine GU ?_;refine kO a2 ?_;refine GU ?_;refine kO a3 ?_;refine b_ (bR gz lf z27) ?_
 repeat refine ag ?_
 clear h0 h1 tS Jx a1 a2 a3 hX hY hZ hS hM hN hc hx hy hn hs hm hf hR gx gy gz gs gm gn rB uh z27 X27 Y27 Z27 fx fy fz DQ ls lm ln;obtain⟨x0,x1,x2,x3,x4,x5,x6,x7,x8,rfl⟩:=YB lx;obtain⟨y0,y1,y2,y3,y4,y5,y6,y7,y8,rfl⟩:=YB ly;obtain⟨z0,z1,z2,z3,z4,z5,z6,z7,z8,rfl⟩:=YB lf;simp -dsimp(disch:=omega) only[flat,au,cO,map_cons,map_nil,↓reduceIte,reduceAdd,reduceMul,Nat.reduceLT,Nat.reduceLeDiff,ru];exact Sn (vs:=[.lsl 4 0 1 2]) rfl ⟨cW,cW⟩ rfl
theorem YC:IT [(px,mI)]/\Den Tryz.prog 90 [] [RL' [(Aj,mI.map tn)]] [] (.tup [RL' ([(px,mI)].map rn),.int .i64 0]):=by
 have hs:iS 0 1 2 2 4 11 6 2:=⟨by decide,by decide,by decide,by decide,by decide,by decide,by decide,by decide⟩;have hq: ∀ r∈[((Aj,mI):RC)],RgQ 0 1 2 2 4 11 6 r:=fun r hr=>by
  rw[qz] at hr;subst hr;have h9: ∀ l∈Aj,∃ a b c,l=fm a b c/\Bd 1 a/\Bd 1 b/\Bd 1 c:=fun l hl=>by
   rw[Db] at hl;simp only[w7,not_mem_nil,or_false] at hl;rcases hl with rfl | rfl | rfl
   .exact⟨_,_,_,rfl,lW,tH,tH⟩
   .exact⟨_,_,_,rfl,tH,lW,tH⟩
   exact⟨_,_,_,rfl,wQ,wQ,lW⟩
  have ug:Canon mI:=Qn ▸ cS (by intro t ht;rw[qz] at ht;rw[ht];exact b8);refine⟨fun l hl=>?_,fun l hl i hi h0 h1=>?_,by decide,gI (lQ _) (by decide),ug,fun t ht=>?_,?_,.inl (by decide)⟩
  .obtain⟨a,b,c,rfl,ha,hb,hc⟩:=h9 l hl;exact(QI ha hb hc).mono (by decide)
  .obtain⟨a,b,c,rfl,ha,hb,hc⟩:=h9 l hl;have:i=2\/i=3\/i=4\/i=5\/i=6\/i=7:=by omega
   rcases this with rfl | rfl | rfl | rfl | rfl | rfl<;>exact de 0
  .unfold mI at ht;rw[qz] at ht;subst ht;exact⟨b8,fun i _ _ _=>qD,by show 0<=z8.getD 0 0/\z8.getD 0 0<=2;rw[qD];omega,by show 0<=z8.getD 1 0/\z8.getD 1 0<=2;rw[qD];omega⟩
  exact(PB.one (t:=(z8,1)) (Bd.mono lW (show 1<=11 by decide)))
 have h1:=kF hs hq (by decide);have h2:=C6 hs hq (fun r _=> .inl (by decide)) (by decide);have he:nrmL [(Aj,mI)]=[(px,mI)]:=Dc MP (by simp[mI]);rw[he] at h1 h2;exact⟨.inl ⟨h2.1,h2.2.1,h2.2.2⟩,h1⟩
theorem ah5:Den Tryz.prog 29 [] [] [] (.bool true):=by
 have Ho:=ahX;have Ck:=ah4 (mI.map tn);obtain⟨h1,h2⟩:=YC;have vX:=wM h1 h2 [0,1] (fun x hx=>by
  simp only[w7,not_mem_nil,or_false] at hx;rcases hx with rfl | rfl<;>decide) (by decide)
 rw[show([(px,mI)]:List RC)=[(px,[(z8,1)])] from rfl,T7] at vX;unfold yn at vX;rw[if_pos rfl] at vX;have hl:LOkT 1000000 1000000 [(z8,(1:Rat) / 2)]:=⟨fun t ht=>by rw[qz] at ht;rw[ht];exact b8,fun t ht=>by
  rw[qz] at ht;rw[ht];exact Bd.mono (j:=1) ⟨by decide+kernel,by decide+kernel⟩ (by decide),fun t ht e he=>by
  rw[qz] at ht;rw[ht] at he;have:=eq_of_mem_replicate he;omega⟩
 have G4:=ahW [(z8,(1:Rat) / 2)] (cn ((2:Int):Rat)) hl (bC (Bd.mono (j:=1) ⟨by decide,by decide⟩ (by decide))) (by decide);rw[de] at G4;have ho:pq [(z8,(1:Rat) / 2)] (z8,((2:Int):Rat))=mI:=by decide+kernel
 rw[ho] at G4;have tS:=mn 2 (by omega);change Den Tryz.prog 32 [] _ [] (.agg (cn ((2:Int):Rat)).c) at tS;have h19:=acW (mI.map tn) (fun t ht=>by
  obtain⟨u,hu,rfl⟩:=mem_map.1 ht;unfold mI at hu;rw[qz] at hu;subst hu;exact⟨b8,fun x hx=>by have:=eq_of_mem_replicate hx;omega,bC (Bd.mono lW (by decide))⟩) (by decide)
 have hi:ints [0,1]=[[FV.lit (.int .i64 0)],[FV.lit (.int .i64 1)]]:=rfl;rw[hi] at vX;obtain⟨T,hT⟩:=ax ([(Aj,mI.map tn)]);rw[hT] at Ck vX;obtain⟨Q,hQ⟩:=ax (([(z8,(1:Rat) / 2)]:List Tm).map tn);dsimp only at vX;rw[hQ] at vX G4;obtain⟨O,hO⟩:=ax (mI.map tn);rw[hO] at Ho Ck G4 h19;obtain⟨c,hc⟩:=ax (cn ((2:Int):Rat));rw[hc] at tS G4;have e1:((0:Int)==0)=true:=rfl;refine dq Tryz.func29 19 0 ?_;refine aY ?_;refine aV Ho ?_;refine ba ?_;refine aV Ck ?_;refine ba ?_;refine gp vX (by simp[cw,gW,fS,fB]) ?_;refine ae e1 ?_;refine aV tS ?_;refine ae (aP @dP @append_nil.{0}) ?_;refine zq G4 ?_;refine ba ?_;refine aV Ho ?_;refine ba ?_;refine aV h19 ?_;refine ba ?_;exact bj rfl
structure Parts (L:List RR) (M:List RC):Prop where
 ia:IA 0 1 M
 bd:Bd2 0 1 M
 nr:Il L
 chk:qO [L]=0
 ord:oC (normL L)=M
 val: ∀ (v:Nat) (x:Nat->Rat),bf (fun r:RC=>T2 v x r.1 r.2) M=bf (fun r:RR=>T2 v x r.1 (nfR r.2)) L
theorem vd {L:List RR} (h: ∀ r∈L,BdR r) (hl:L.length<=2): ∃ M,Parts L M:=by
 obtain⟨L',hL'⟩: ∃ t,L.map (fun r=>(r.1,nfR r.2))=t:=⟨_,rfl⟩;have hq: ∀ r∈L',RgQ 0 1 2 2 4 11 6 r/\Bdd 0 r.1/\Bdd 1 r.1:=fun r hr=>by
  rw[<-hL'] at hr;obtain⟨x,hx,rfl⟩:=mem_map.1 hr;exact⟨(h x hx).1.q,(h x hx).2⟩
 have oP:L'.length<=2:=by rw[<-hL',length_map];exact hl
 have hn:normL (L'.map rn)=normL L:=by rw[<-hL'];exact B3 (fun r hr=>(h r hr).1.q.can)
 have SA:=WW yG (fun r hr=>(hq r hr).1) oP;have hf:=SA.few;have hm:=SA.mer;rw[hn] at hf hm;have AJ: ∀ r∈L,MK r.2:=fun r hr=>adC (h r hr).1.rd.ts (h r hr).1.few
 have oN: ∀ r∈L,r.1.length<=1000000:=fun r hr=>by have:=(h r hr).1.len;omega
 have hv: ∀ r∈L,validB r.2=true:=fun r hr=>Yy (h r hr).1.rd
 have hNr:Il L:=⟨AJ,hv,fun r hr _=>(h r hr).1.q.cst yG,by omega,oN,hf,hm⟩;have hz:qO [L]=0:=T0 (by omega) (fun r hr=>by have:=(h r hr).1.len;omega) hv;have ho:=(tB (l:=L') (fun r hr=>⟨(hq r hr).1.can,(hq r hr).1.cst yG⟩)).2;rw[hn] at ho;have bm:=C6 yG (fun r hr=>(hq r hr).1) (fun r hr=> .inl (by decide)) oP;have hb: ∀ r∈nrmL L',Bdd 0 r.1/\Bdd 1 r.1:=fun r hr=>by
  obtain⟨z,hz,_,e⟩:=(yE yG (fun r hr=>(hq r hr).1) hr).1;have eR:=(hq z hz).1.cst yG;obtain⟨⟨R,hR⟩,R',hR'⟩:=(hq z hz).2;rw[e];exact⟨⟨R,fun x hx=>hR x ((jr eR x).1 hx)⟩,R',fun x hx=>hR' x ((jr eR x).1 hx)⟩
 refine⟨nrmL L',⟨bm.1,bm.2.1,bm.2.2⟩,⟨fun r hr=>(hb r hr).1,fun r hr=>(hb r hr).2⟩,hNr,hz,ho,fun v x=>?_⟩;unfold nrmL;rw[KS (fun r hr=>⟨(hq r hr).1.cst yG,(hq r hr).1.can⟩),<-hL',jv]
theorem Parts.den {L:List RR} {M:List RC} (h:Parts L M):Den Tryz.prog 90 [] [RL' L] [] (.tup [RL' (M.map rn),.int .i64 0]):=by
 have AH:=ads L h.nr.len h.nr.pg h.nr.lim (fun _=>h.nr);unfold TH at AH;rw[if_pos h.chk,h.ord] at AH;exact AH
def qQ (c:List Raw) (r:RR):RR:=(r.1++[c],r.2)
theorem ah6 (L:List RR) (c:List Raw) (M:List RC) (hc:LOk 1000 c) (hL:L.length<=1000) (hr: ∀ r∈L,r.1.length<=900/\ ∀ l∈r.1,l.length=9)
 (zK:Den Tryz.prog 105 [] [.fv (.sl (gC [L]))] [] (.int .i64 0)) (AX:Den Tryz.prog 107 [] [RL' (L.map (qQ c))] [] (.tup [RL' (M.map rn),.int .i64 0])):
 Den Tryz.prog 50 [] [RL' L,RL c] [] (.tup [RL' (M.map rn),.int .i64 0]):=by
 have rl:=bt L
 obtain⟨n,cP⟩:=ax L.length
 rw[cP] at rl hL
 have lc:=hc.len
 have gc:=ah c
 have NY:=ar lc
 have c27:=aF lc
 have fc:=aO c
 have e0:((0:Int) !=0)=false:=rfl
 have e:gC [L]=[[FV.sl (aX L)]]:=rfl
 rw[e] at zK
 unfold RL
 refine dq Tryz.func50 37 0 ?_
 refine bU (bR gc lc @append_nil.{0}) ?_
 repeat refine ag ?_
 refine aV zK ?_
 refine ae (bR e0 rl @append_nil.{0}) ?_
 refine wl (α:=Nat×List RR) (fun⟨i,out⟩=>⟨[RL' L,.any,.any,.ptr 0 0 0,.any,.any,.any,.lsl 1 0 out.length 2]++replicate 8 .any++[RL' L,.int .i64 n,.int .i64 i]++replicate 20 .any,[.box true (flat c),.row true (aX out)]⟩)
  (fun⟨i,_⟩=>n - i) (fun⟨i,out⟩=>i<=n/\out=(L.take i).map (qQ c)) (0,[]) ?_ ?_ ?_
 .refine Weak.nil 7 2 (by decide) rfl ?_
  refine eS [0,2] ?_ ?_
  .simp[bk,dV,cC]
  simp[et,fK,dL]
  simp[aX]
 .exact⟨eB _,rfl⟩
 rintro⟨i,out⟩ ⟨h1,h2⟩
 have vm:out.length=i:=by rw[h2,length_map,qf];omega
 have rlo:=bt out
 have tko:=dB (l:=out) (n:=i) (by omega)
 rw[vm] at rlo
 dsimp only
 rw[vm]
 refine aY ?_
 refine bS ?_ ?_
 .intro g1 g2
  have ry:=eG (l:=L) (i:=i) (by omega)
  have hm:=ke (l:=L) (i:=i) (by omega)
  have ez:=nJ (l:=L) (i:=i) (by omega)
  obtain⟨r,hrr⟩:=ax (L.getD i r8)
  rw[hrr] at ry hm ez
  obtain⟨i_,hr9⟩:=hr r hm
  have R3:=TD r.1 hr9 (by omega)
  have rlc:=ay r.1
  obtain⟨k,hk⟩:=ax r.1.length
  rw[hk] at rlc R3 i_
  have tkc:=b9 (ls:=r.1) (n:=k) (by omega)
  have cG:=dc r.1 c
  have w3:=ay (r.1++[c])
  rw[qe,Hv,hk] at w3
  have tk2:=b9 (ls:=r.1++[c]) (n:=k+1) (by rw[qe,Hv];omega)
  have Jt:aX out++[[FV.sl (au (r.1++[c])),FV.sl (aq r.2)]]=aX (out++[qQ c r]):=g7 out (qQ c r)
  unfold BM at ry
  refine ae (eg g2 ry rl @append_nil.{0}) ?_
  repeat refine ag ?_
  refine Draw.shutting [[],[],[],[],[],[],[5],[],[],[],[],[],[]] (by kernel_rfl) ?_
  refine ae (bR @GK @Lj @append_nil.{0}) ?_
  refine aV R3 ?_
  refine b_ (bT @GK @Ut @Rb @Lj gc lc NY (bT c27 tkc rlc cG w3 tk2 tko (bR rlo Jt @qp))) ?_
  repeat refine ag ?_
  refine qy (by show De _ _=true;kernel_rfl) ?_
  refine aw (i+1,out++[qQ c r]) ?_ ⟨by omega,by rw[ez,vw,<-h2];rfl⟩
  exact tN [0,7]
 intro g1 g2
 have gF:i=n:=by omega
 have gv:L.take i=L:=eo (by omega)
 rw[gv] at h2
 rw[<-h2] at AX
 refine ae g2 ?_
 refine gp AX (by simp[cw,gW,fS,fB,tko,rlo]) ?_
 refine ba ?_
 exact bj rfl
end Go.Proofs.YtjjbkjgifdhlcaaGreat
namespace Go.Pl
open Go.AM
theorem jB {v:Nat} {x:Nat->Rat} {k:Kc} {p:List Tm} {z:Rat} {S:Rat->Prop} (hS: ∀ t,S t↔In k (upd x v t)) (h:Fib S (fun t=>ev (a_ v p) (upd x v t)) z):T2 v x k p=z:=
 jX (h.congr hS)
theorem QJ {v:Nat} {k:Kc} (hv:v<8) (h9: ∀ l∈k,l.length=9) (hb:Bdd v k) (x:Nat->Rat) (p:List Tm):
 ∃ z,Fib (fun t=>In k (upd x v t)) (fun t=>ev (a_ v p) (upd x v t)) z:=by
 rcases TZ hv h9 hb x with⟨L,U,h1,h2⟩ | h1
 .exact⟨_,.inl ⟨L,U,h1,h2,rfl⟩⟩
 exact⟨0,.inr ⟨h1,rfl⟩⟩
theorem k8 {k:Kc} {c:List Raw} (hn: ¬aN c) (y:Nat->Rat):In (k++[c]) y↔In k y/\0<aB c y:=by
 constructor
 .intro h;refine⟨fun l hl=>h l (List.mem_append_left _ hl),?_⟩;rcases h c (by simp) with h1 | h1
  .exact h1
  exact absurd h1.1 hn
 rintro⟨h1,h2⟩ l hl;rcases List.mem_append.1 hl with h | h
 .exact h1 l h
 rw[qz] at h;rw[h];exact .inl h2
theorem QK {v w:Nat} {c:List Raw} (hv:v<8) (hw:w<8) (h9:c.length=9) (c2: ∀ i,i<8->i≠v->i≠w->co c i=0) (hn: ¬aN c):
 ∃ Z:List Rat,∀ x:Nat->Rat,x w∉Z-> ∀ (k:Kc) (p:List Tm),(∀ l∈k,l.length=9)->Bdd v k->T2 v x (k++[c]) p+T2 v x (k++[cK c]) p=T2 v x k p:=by
 have cP:=PS h9 hn
 by_cases h0:co c v=0
 .have hcw:co c w≠0:=fun h=>hn (fun i hi=>by
   by_cases e1:i=v
   .rw[e1];exact h0
   by_cases e2:i=w
   .rw[e2];exact h
   exact c2 i hi e1 e2)
  have h1: ∀ i,i<8->i≠w->co c i=0:=fun i hi cX=>by
   by_cases e1:i=v
   .rw[e1];exact h0
   exact c2 i hi e1 cX
  refine⟨[-(co c 8) / co c w],fun x hx k p h9k hb=>?_⟩
  have hl:=tF hw h1 x
  have cX:aB c x≠0:=fun h=>hx (by
   rw[qz];rw[hl] at h;grind)
  have hk: ∀ t,aB c (upd x v t)=aB c x:=fun t=>f_ hv h0
  obtain⟨z,hz⟩:=QJ hv h9k hb x p
  rcases(by grind:0<aB c x\/aB c x<0) with h | h
  .rw[jB (k:=k) (fun t=>Iff.rfl) hz,jB (k:=k++[c]) (fun t=>by rw[k8 hn,hk];exact⟨fun a=>⟨a,h⟩,fun a=>a.1⟩) hz,
    jB (k:=k++[cK c]) (S:=fun _=>False) (z:=0) (fun t=>by rw[k8 cP,kd h9,hk];exact⟨False.elim,fun a=>by have:=a.2;grind⟩) (.inr ⟨fun _ e=>e,rfl⟩)]
   grind
  rw[jB (k:=k) (fun t=>Iff.rfl) hz,jB (k:=k++[cK c]) (fun t=>by rw[k8 cP,kd h9,hk];exact⟨fun a=>⟨a,by grind⟩,fun a=>a.1⟩) hz,
   jB (k:=k++[c]) (S:=fun _=>False) (z:=0) (fun t=>by rw[k8 hn,hk];exact⟨False.elim,fun a=>by have:=a.2;grind⟩) (.inr ⟨fun _ e=>e,rfl⟩)]
  grind
 refine⟨[],fun x _ k p h9k hb=>?_⟩
 obtain⟨z,hz⟩:=QJ hv h9k hb x p
 have Vc:=dA h9 h0
 have hk: ∀ t,aB c (upd x v t)=co c v*(t - aB (bZ v c) x):=fun t=>by
  rw[kz Vc hv,lP,f_ hv (mz Vc hv)]
 obtain⟨z1,z2,f1,f2,he⟩:=hz.cut (aB (bZ v c) x)
 rcases(by grind:0<co c v\/co c v<0) with h | h
 .have p1: ∀ t,0<aB c (upd x v t)↔aB (bZ v c) x<t:=fun t=>by
   rw[hk];constructor
   .intro a;apply Classical.byContradiction;intro hc;have:=Rat.mul_le_mul_of_nonneg_left (c:=co c v) (show t - aB (bZ v c) x<=0 by grind) (by grind);grind
   intro a;exact Rat.mul_pos h (by grind)
  have p2: ∀ t,aB c (upd x v t)<0↔t<aB (bZ v c) x:=fun t=>by
   rw[hk];constructor
   .intro a;apply Classical.byContradiction;intro hc;have:=Rat.mul_le_mul_of_nonneg_left (c:=co c v) (show 0<=t - aB (bZ v c) x by grind) (by grind);grind
   intro a;have:=Rat.mul_pos h (show 0<aB (bZ v c) x - t by grind);grind
  rw[jB (k:=k) (fun t=>Iff.rfl) hz,jB (k:=k++[c]) (fun t=>by rw[k8 hn,p1]) f1,
   jB (k:=k++[cK c]) (fun t=>by rw[k8 cP,kd h9,<-p2];exact⟨fun a=>⟨a.1,by have:=a.2;grind⟩,fun a=>⟨a.1,by have:=a.2;grind⟩⟩) f2]
  grind
 have p1: ∀ t,0<aB c (upd x v t)↔t<aB (bZ v c) x:=fun t=>by
  rw[hk];constructor
  .intro a;apply Classical.byContradiction;intro hc;have:=Rat.mul_le_mul_of_nonneg_left (c:= -co c v) (show 0<=t - aB (bZ v c) x by grind) (by grind);grind
  intro a;have:=Rat.mul_pos (a:= -co c v) (by grind) (show 0<aB (bZ v c) x - t by grind);grind
 have p2: ∀ t,aB c (upd x v t)<0↔aB (bZ v c) x<t:=fun t=>by
  rw[hk];constructor
  .intro a;apply Classical.byContradiction;intro hc;have:=Rat.mul_le_mul_of_nonneg_left (c:= -co c v) (show t - aB (bZ v c) x<=0 by grind) (by grind);grind
  intro a;have:=Rat.mul_pos (a:= -co c v) (by grind) (show 0<t - aB (bZ v c) x by grind);grind
 rw[jB (k:=k) (fun t=>Iff.rfl) hz,jB (k:=k++[c]) (fun t=>by rw[k8 hn,p1]) f2,
  jB (k:=k++[cK c]) (fun t=>by rw[k8 cP,kd h9,<-p2];exact⟨fun a=>⟨a.1,by have:=a.2;grind⟩,fun a=>⟨a.1,by have:=a.2;grind⟩⟩) f1]
 grind
theorem Bdd.snoc {v:Nat} {k:Kc} {c:List Raw} (h:Bdd v k):Bdd v (k++[c]):=by
 obtain⟨R,hR⟩:=h;exact⟨R,fun x hx=>hR x (fun l hl=>hx l (List.mem_append_left _ hl))⟩
end Go.Pl
namespace Go.Proofs.YtjjbkjgifdhlcaaGreat
open Go.AM Go.Pl
set_option maxRecDepth 100000
set_option maxHeartbeats 4000000
theorem YD {k:Nat} {l:List Raw} (h:LOk k l) (hk:1<=k):LOk k (cK l):=⟨d' h.len,fun r hr=>by
 obtain⟨q,hq,rfl⟩:=mem_map.1 hr;obtain⟨u,hu,rfl⟩:=mem_map.1 hq;have:=((h.ok u hu).bd hk).neg;rw[show u.q*((-1:Int):Rat)= -u.q by grind];exact bC this⟩
theorem BdR.cut {r:RR} {c:List Raw} (h:BdR r/\r.1.length<=5) (hc:LOk 4 c) (c2: ∀ i,i<8->i≠0->i≠1->co c i=0):BdR (qQ c r):=by
 obtain⟨⟨h1,h2,h3⟩,h4⟩:=h;refine⟨⟨fun l hl=>?_,K1 h1.two (fun l hl=>?_),?_,h1.rd,h1.duo,h1.few⟩,h2.snoc,h3.snoc⟩
 .rcases List.mem_append.1 hl with h | h
  .exact h1.ok l h
  rw[qz] at h;rw[h];exact hc
 .rw[qz] at hl;rw[hl];exact c2
 show(r.1++[c]).length<=6;rw[qe,Hv];omega
theorem K6 {L:List RR} {c:List Raw} (h: ∀ r∈L,BdR r/\r.1.length<=5) (hl:L.length<=2) (hc:LOk 4 c) (c2: ∀ i,i<8->i≠0->i≠1->co c i=0):
 ∃ M,Parts (L.map (qQ c)) M/\Den Tryz.prog 50 [] [RL' L,RL c] [] (.tup [RL' (M.map rn),.int .i64 0]):=by
 obtain⟨M0,h0⟩:=vd (fun r hr=>(h r hr).1) hl
 have hb: ∀ r∈L.map (qQ c),BdR r:=fun r hr=>by
  obtain⟨u,hu,rfl⟩:=mem_map.1 hr;exact BdR.cut (h u hu) hc c2
 obtain⟨M,hM⟩:=vd hb (by rw[length_map];exact hl)
 have zK:=WT [L] (by simp) (fun l hl=>by rw[qz] at hl;rw[hl];exact h0.nr.len) (fun l hl=>by rw[qz] at hl;rw[hl];exact h0.nr.pg) (fun l hl=>by rw[qz] at hl;rw[hl];exact h0.nr.lim)
 rw[h0.chk] at zK
 have AX:=WU _ hM.nr
 unfold Qb at AX
 rw[if_neg (by rw[(KD hM.chk).1];decide),hM.ord] at AX
 exact⟨M,hM,ah6 L c M (hc.mono (by decide)) (by omega) (fun r hr=>⟨by have:=(h r hr).2;omega,fun l hl=>((h r hr).1.1.ok l hl).len⟩) zK AX⟩
theorem Ix {L:List RR} {c:List Raw} (h: ∀ r∈L,BdR r/\r.1.length<=5) (hl:L.length<=2) (hc:LOk 4 c) (c2: ∀ i,i<8->i≠0->i≠1->co c i=0) (hn: ¬aN c):
 ∃ (M1 M2:List RC) (P P1 P2:List Tm),Den Tryz.prog 50 [] [RL' L,RL c] [] (.tup [RL' (M1.map rn),.int .i64 0])/\Den Tryz.prog 50 [] [RL' L,RL (cK c)] [] (.tup [RL' (M2.map rn),.int .i64 0])/\
  Den Tryz.prog 40 [] [RL' L,.fv (.sl (ints [0,1]))] [] (.tup [PL (P.map tn),.int .i64 0])/\Den Tryz.prog 40 [] [RL' (M1.map rn),.fv (.sl (ints [0,1]))] [] (.tup [PL (P1.map tn),.int .i64 0])/\
  Den Tryz.prog 40 [] [RL' (M2.map rn),.fv (.sl (ints [0,1]))] [] (.tup [PL (P2.map tn),.int .i64 0])/\nf (P1++P2)=P/\(∀ Q∈[P,P1,P2],POk 10000000 1024 Q/\Q.length<=12):=by
 have n2: ∀ i,i<8->i≠0->i≠1->co (cK c) i=0:=fun i hi h0 h1=>by rw[iB hc.len (by omega),c2 i hi h0 h1];grind
 obtain⟨M,hM⟩:=vd (fun r hr=>(h r hr).1) hl
 obtain⟨M1,h1,d1⟩:=K6 h hl hc c2
 obtain⟨M2,h2,d2⟩:=K6 h hl (YD hc (by decide)) n2
 obtain⟨P,t0⟩:=C_ (by decide) (by decide) (by decide) hM.ia hM.bd
 obtain⟨P1,t1⟩:=C_ (by decide) (by decide) (by decide) h1.ia h1.bd
 obtain⟨P2,t2⟩:=C_ (by decide) (by decide) (by decide) h2.ia h2.bd
 have w1:W64 [0,1]:=fun x hx=>by
  simp only[w7,not_mem_nil,or_false] at hx;rcases hx with rfl | rfl<;>omega
 have e0:=wM (.inl hM.ia) hM.den [0,1] w1 (by decide)
 have e1:=wM (.inl h1.ia) (IA.den (by decide) (by decide) h1.ia) [0,1] w1 (by decide)
 have e2:=wM (.inl h2.ia) (IA.den (by decide) (by decide) h2.ia) [0,1] w1 (by decide)
 have k0:wa iH M [0,1]=(0,P):=t0.tot
 have k1:wa iH M1 [0,1]=(0,P1):=t1.tot
 have k2:wa iH M2 [0,1]=(0,P2):=t2.tot
 rw[k0] at e0
 rw[k1] at e1
 rw[k2] at e2
 obtain⟨Z,hZ⟩:=QK (v:=0) (w:=1) (by decide) (by decide) hc.len c2 hn
 have zN:=TY (v:=0) (w:=1) (by decide) (by decide) [(1,M,P),(-1,M1,P1),(-1,M2,P2)] (fun a ha=>by
  simp only[w7,not_mem_nil,or_false] at ha;rcases ha with rfl | rfl | rfl
  .exact t0
  .exact t1
  .exact t2) Z (fun x hx=>by
  simp only[bf];rw[hM.val,h1.val,h2.val,jv,jv];have key: ∀ l:List RR,(∀ r∈l,BdR r/\r.1.length<=5)->bf (fun r:RR=>T2 0 x r.1 (nfR r.2)) l=bf (fun r:RR=>T2 0 x (qQ c r).1 (nfR (qQ c r).2)) l+bf (fun r:RR=>T2 0 x (qQ (cK c) r).1 (nfR (qQ (cK c) r).2)) l:=fun l=>by
   induction l with
   | nil=>intro _;simp only[bf];grind
   | cons r l ih=>
    intro hh;have hr:=(hh r (by simp)).1;have e:T2 0 x (qQ c r).1 (nfR (qQ c r).2)+T2 0 x (qQ (cK c) r).1 (nfR (qQ (cK c) r).2)=T2 0 x r.1 (nfR r.2):=hZ x hx r.1 (nfR r.2) (fun l hl=>(hr.1.ok l hl).len) hr.2.1;have ih:=ih (fun a ha=>hh a (ql _ ha));simp only[bf];rw[ih,<-e];grind
  rw[key L h];grind) (fun _=>0)
 simp only[bf] at zN
 refine⟨M1,M2,P,P1,P2,d1,d2,e0,e1,e2,?_,fun Q hQ=>?_⟩
 .have hz8: ∀ t∈P1++P2,t.1=z8:=fun t ht=>by
   rcases List.mem_append.1 ht with h | h
   .exact t1.key t h
   exact t2.key t h
  refine Yx (cS (fun t ht=>by rw[hz8 t ht];rfl)) t0.can (fun t ht=>?_) t0.key (fun _=>0) ?_
  .obtain⟨u,hu,e⟩:=jc ht
   rw[<-e];exact hz8 u hu
  rw[BZ,pr];grind
 simp only[w7,not_mem_nil,or_false] at hQ
 rcases hQ with rfl | rfl | rfl
 .exact t0.pok
 .exact t1.pok
 exact t2.pok
theorem ah7 (l:List Int) (hl:l.length<9223372036854775808) (hw:W64 l):Den Tryz.prog 11 [] [.fv (.sl (ints l))] [] (.bool true):=by
 have AK:=acJ l hl;have hwt:W64 (l.take 1000):=fun x hx=>hw x (AY hx)
 have RN:(l.take 1000).length<=1000:=by rw[qf];omega
 obtain⟨xs,hxs⟩:=ax (l.take 1000);rw[hxs] at AK hwt RN;obtain⟨H1,res,⟨L,a1,rfl,rfl,vn,qM,hL⟩,G8⟩:=adF xs 0 RN (eB _) hwt;have Cl:=aI xs 0;have sB:=aI xs a1;have zE:=adD xs 2 a1 (by decide) RN vn hwt;have hC:=C' xs 2 a1;have c2: ∀ i,i<8->i≠0->i≠1->co (qP xs 2 a1).1 i=0:=fun i hi h0 h1=>K0 (by omega) hi
 obtain⟨c,oK⟩:=ax ((qP xs 2 a1).1);rw[oK] at zE hC c2;obtain⟨a2,Lv⟩:=ax ((qP xs 2 a1).2);rw[Lv] at zE;have h49:=ahN c (hC.mono (by decide));have h29:=ah5;have rl:=bt L;obtain⟨n,hn⟩:=ax L.length;rw[hn] at rl G8;have tk:=dB (l:=L) (n:=n) (by omega);have e1:((0:Int)==0)=true:=rfl;have dT:lent 0 1 1=1:=rfl;have aop:lent 0 2 1=2:=rfl;have lc:=hC.len;have gc:=ah c;have NY:=ar lc;have c27:=aF lc;have fc:=aO c;unfold S at AK G8 Cl sB zE;by_cases hk:aN c
 .rw[(cv lc).2 hk] at h49;unfold RL at h49 zE;refine dq Tryz.func11 83 0 ?_;refine aY ?_;refine aV AK ?_;refine ae @append_nil.{0} ?_;refine ig 0 G8 Cl ?_;refine nX dT ?_;refine ig 0 zE sB ?_;refine Y8 (bR gc lc NY) ?_
  repeat refine ag ?_
  refine kO h49 ?_;refine GU ?_;refine aV h29 ?_;refine ae @append_nil.{0} ?_;exact bj rfl
 have Z0:cQ c=false:=by
  cases hb:cQ c with
  | false=>rfl
  | true=>exact absurd ((cv lc).1 hb) hk
 rw[Z0] at h49;obtain⟨M1,M2,P,P1,P2,d1,d2,e0,t1,t2,hP,SJ⟩:=Ix hL qM hC c2 hk;have DL:=Yj c (hC.mono (by decide));have kP:=SJ P (by simp);have k1:=SJ P1 (by simp);have k2:=SJ P2 (by simp);have RV:=ahZ P1 P2 k1.1.canon k2.1.canon.len (PB.terms (j:=10000000) (n:=24) (by decide) (fun t ht=>by
  rcases List.mem_append.1 ht with h | h
  .exact k1.1.bd t h
  exact k2.1.bd t h) (by rw[qe];omega) (by decide)) (fun t ht e he=>by have:=k2.1.exp t ht e he;omega) (by omega) (by omega)
 rw[hP] at RV;have h19:=acW (P.map tn) (fun t ht=>(kP.1.ts (by decide) t ht).mono (by decide)) (by rw[length_map];omega);have i1:ints [0,1]=[[FV.lit (.int .i64 0)],[FV.lit (.int .i64 1)]]:=rfl;rw[i1] at e0 t1 t2;unfold RL at h49 zE DL d1 d2;refine dq Tryz.func11 83 0 ?_;refine aY ?_;refine aV AK ?_;refine ae @append_nil.{0} ?_;refine ig 0 G8 Cl ?_;refine nX dT ?_;refine ig 0 zE sB ?_;refine Y8 (bR gc lc NY) ?_
 repeat refine ag ?_
 refine kO h49 ?_;refine b_ (bR gc lc NY) ?_
 repeat refine ag ?_
 refine gp d1 (by simp[cw,gW,fS,fB,tk,rl,iw,gJ]) ?_;refine b_ (bR gc lc NY) ?_
 repeat refine ag ?_
 refine kO DL ?_;refine GU ?_;refine gp d2 (by simp[cw,gW,fS,fB,tk,rl,iw,gJ]) ?_;refine GU ?_;refine gp e0 (by simp[cw,gW,fS,fB,tk,rl]) ?_;refine ae @append_nil.{0} ?_;refine gp t1 (by simp[cw,gW,fS,fB]) ?_;refine ae @append_nil.{0} ?_;refine gp t2 (by simp[cw,gW,fS,fB]) ?_;refine ae (aP e1 @append_nil.{0}) ?_;refine aV RV ?_;refine ae @append_nil.{0} ?_;refine aV h19 ?_;refine ae @append_nil.{0} ?_;refine aV h29 ?_;refine ae @append_nil.{0} ?_;exact bj rfl
end Go.Proofs.YtjjbkjgifdhlcaaGreat
