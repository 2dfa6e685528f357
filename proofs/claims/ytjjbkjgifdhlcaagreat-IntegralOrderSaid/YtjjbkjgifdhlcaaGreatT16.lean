/- Plain:systems of seven inequalities in three variables,one of which occurs in one alone. -/
import Derived.Test.YtjjbkjgifdhlcaaGreatT15
import Derived.Test.YtjjbkjgifdhlcaaGreatT8
import Derived.Test.YtjjbkjgifdhlcaaGreatT14
import Derived.Test.YtjjbkjgifdhlcaaGreatT12
import Derived.Test.YtjjbkjgifdhlcaaGreatT13
import Derived.Test.YtjjbkjgifdhlcaaGreatT1
set_option linter.all false
open Nat (reduceAdd)
open List (any_append append_assoc append_nil drop_eq_getElem_cons filter_append length_drop length_map length_pos_iff length_pos_of_mem length_take mem_map replicate)
namespace Go.Pl
def tt (s:List (List Raw)) (v:Nat):Int:=((aN s v).length:Int)*(ay s v).length - (aN s v).length - (ay s v).length
structure Sw (k:Nat) (s:List (List Raw)):Prop where
 n3:bA s<=3
 c3:bA s=3->s.length<=7/\k<=14
 c2:bA s=2->s.length<=7/\k<=120
 c1:bA s=1->s.length<=12/\k<=1000
structure Sl (k:Nat) (s:List (List Raw)):Prop where
 n3:bA s<=3
 c3:bA s=3->s.length<=7/\k<=14
 c2:bA s=2->s.length<=12/\k<=120
 c1:bA s=1->s.length<=36/\k<=1000
theorem Sz.w {k:Nat} {s:List (List Raw)} (h:Sz k s):Sw k s:=⟨h.n3,fun e=>by have:=h.c3 e;omega,h.c2,h.c1⟩
theorem Sw.l {k:Nat} {s:List (List Raw)} (h:Sw k s):Sl k s:=⟨h.n3,h.c3,fun e=>by have:=h.c2 e;omega,fun e=>by have:=h.c1 e;omega⟩
theorem Sl.all {k:Nat} {s:List (List Raw)} (h:Sl k s) (hp:0<bA s):s.length<=36/\k<=1000:=by
 have h1:=h.n3;have h2:=h.c3;have h3:=h.c2;have h4:=h.c1;have:bA s=1\/bA s=2\/bA s=3:=by omega
 rcases this with h5 | h5 | h5
 .exact h4 h5
 .have:=h3 h5;omega
 have:=h2 h5;omega
theorem Sl.lim {k:Nat} {s:List (List Raw)} (h:Sl k s) (hs:SysF k s): ∀ l∈s,LOk 1000 l:=fun l hl=>(hs.ok l hl).mono (h.all (nu hl (hs.nc l hl))).2
theorem Sw.len {k:Nat} {s:List (List Raw)} (h:Sw k s) (hs:SysF k s):s.length<=12:=by
 cases s with
 | nil=>exact eH _
 | cons l t=>
  have hp:0<bA (l::t):=nu (List.mem_cons_self ..) (hs.nc l (by simp));have h1:=h.n3;have h2:=h.c3;have h3:=h.c2;have h4:=h.c1;have:bA (l::t)=1\/bA (l::t)=2\/bA (l::t)=3:=by omega
  rcases this with h5 | h5 | h5
  .exact(h4 h5).1
  .have:=h3 h5;omega
  have:=h2 h5;omega
theorem yc {k:Nat} {s:List (List Raw)} {v:Nat} (hs:SysF k s) (hz:Sw k s):(fQ s v).length<=100:=by
 have h1:=cX s v;have h2:=hz.len hs;rw[rX];exact Tf (by omega)
theorem PY {k:Nat} {s:List (List Raw)} {v:Nat} (hv:v<8) (hs:SysF k s) (ho:occ s v=true) (h5:bA s=1):ncs (fQ s v)=[]:=by
 have h9: ∀ l∈s,l.length=9:=fun l hl=>(hs.ok l hl).len
 have h6:=uL hv hs ho;cases h8:ncs (fQ s v) with
 | nil=>rfl
 | cons o t=>
  have Ay:=(jh (nk h9)).1 (show o∈ncs (fQ s v) by rw[h8];simp);have:=nu Ay.1 Ay.2;omega
theorem yd {k:Nat} {s:List (List Raw)} {v:Nat} (hv:v<8) (hs:SysF k s) (hz:Sw k s):(ncs (fQ s v)).length<=12:=by
 have dR:(ncs (fQ s v)).length<=(fQ s v).length:=List.length_filter_le _ _;cases ho:occ s v with
 | false=>
  have h1:=hz.len hs;rw[(xH ho).1] at dR ⊢;omega
 | true=>
  have h1:=cX s v;have h2:=rX s v;have h3:=Bj hv ho;have h4:=hz.n3;have:bA s=1\/bA s=2\/bA s=3:=by omega
  rcases this with h5 | h5 | h5
  .rw[PY hv hs ho h5];exact eH _
  .have:=(hz.c2 h5).1;have:=Pm (p:=(aN s v).length) (q:=(ay s v).length) (r:=(dT s v).length) (by omega);omega
  have:=(hz.c3 h5).1;have:=Pm (p:=(aN s v).length) (q:=(ay s v).length) (r:=(dT s v).length) (by omega);omega
theorem PZ {k:Nat} {s:List (List Raw)} {v:Nat} (hv:v<8) (hk:1<=k) (hs:SysF k s) (hz:Sl k s): ∀ o∈fQ s v,¬aO o->LOk 1000 o:=by
 intro o ho hc;cases hoc:occ s v with
 | false=>
  rw[(xH hoc).1] at ho;exact hz.lim hs o ho
 | true=>
  have h6:=uL hv hs hoc;have h7:=nu ho hc;have h8:=hz.n3;have:k<=120:=by
   have:bA s=2\/bA s=3:=by omega
   rcases this with h5 | h5
   .exact(hz.c2 h5).2
   have:=(hz.c3 h5).2;omega
  exact(HN hs.ok hk o ho).mono (by omega)
def GoodW (s:List (List Raw)):Prop:= ∃ k,1<=k/\SysF k s/\Sw k s/\(bA s=3->s.length<=5\/ ∃ u,u<8/\occ s u=true/\tt s u<0)
theorem GoodS.w {s:List (List Raw)} (h:GoodS s):GoodW s:=by
 obtain⟨k,hk,hs,hz⟩:=h;exact⟨k,hk,hs,hz.w,fun e=> .inl (hz.c3 e).1⟩
theorem GoodW.lim {s:List (List Raw)} (h:GoodW s): ∀ l∈s,LOk 1000 l:=by
 obtain⟨k,hk,hs,hz,_⟩:=h;exact hz.l.lim hs
theorem GoodW.len {s:List (List Raw)} (h:GoodW s):s.length<=12:=by
 obtain⟨k,hk,hs,hz,_⟩:=h;exact hz.len hs
theorem GoodW.nc {s:List (List Raw)} (h:GoodW s): ∀ l∈s,¬aO l:=by
 obtain⟨k,hk,hs,hz,_⟩:=h;exact hs.nc
theorem GoodW.feas {s:List (List Raw)} {v:Nat} (hv:v<8) (h:GoodW s) (hb:zW s v=false):eh (q' s v)=eh s:=by
 obtain⟨k,hk,hs,hz,_⟩:=h;rw[Bool.eq_iff_iff,en,en];exact L7 hv hs (fun hB=>by rw[(xK (fun l hl=>(hs.ok l hl).len)).2 hB] at hb;cases hb)
theorem GoodW.bad {s:List (List Raw)} {v:Nat} (hv:v<8) (h:GoodW s) (hb:zW s v=true):eh s=false:=by
 obtain⟨k,hk,hs,hz,_⟩:=h;exact oU.2 (Pn hv hs ((xK (fun l hl=>(hs.ok l hl).len)).1 hb))
theorem GoodW.step {s:List (List Raw)} {v:Nat} (hv:v<8) (h:GoodW s) (ho:occ s v=true) (vj: ∀ u,u<8->occ s u=true->tt s v<=tt s u):GoodW (q' s v)/\bA (q' s v)<bA s:=by
 obtain⟨k,hk,hs,hz,h7⟩:=h;have hi:=xL v hs;have h9: ∀ l∈s,l.length=9:=fun l hl=>(hs.ok l hl).len
 have hn:=uL hv hs ho;rw[<-uM (nk h9) hi] at hn;have hl:=nt (nk h9) hi;have dR:(ncs (fQ s v)).length<=(fQ s v).length:=List.length_filter_le _ _;have h1:=cX s v;have h2:=rX s v;have h4:=hz.n3;have hc:=yd hv hs hz;refine⟨⟨8*k+8,by omega,Th hk hs hi,⟨by omega,fun h=>by omega,fun h=>?_,fun h=>?_⟩,fun h=>by omega⟩,hn⟩
 .have h5:bA s=3:=by omega
  have h6:=hz.c3 h5;refine⟨?_,by omega⟩;rcases h7 h5 with h8 | ⟨u,hu,Z0,ZL⟩
  .have:=Yb (p:=(aN s v).length) (q:=(ay s v).length) (r:=(dT s v).length) (by omega);omega
  have Ay:=vj u hu Z0;have e:(((ay s v).length*(aN s v).length:Nat):Int)=((aN s v).length:Int)*(ay s v).length:=by rw[Int.natCast_mul,Int.mul_comm]
  unfold tt at Ay ZL;omega
 refine⟨by omega,?_⟩;have:bA s=2\/bA s=3:=by omega
 rcases this with h5 | h5
 .have:=hz.c2 h5;omega
 have:=hz.c3 h5;omega
def adr (s:List (List Raw)):Prop:= ∃ k,1<=k/\SysF k s/\Sl k s
structure amU (cs:List (List Raw)):Prop where
 cnf: ∀ l∈cs,IsCn l
 nc: ∀ l∈cs,¬aO l
 ok: ∀ l∈cs,LOk 1000 l
 len:cs.length<=37
 good:adr (sysL cs [])
structure CsW (cs:List (List Raw)):Prop where
 ok: ∀ l∈cs,LOk 10000 l
 len:cs.length<=100
 nc:(ncs cs).length<=12
 good:GoodW (sysL cs [])
 nok: ∀ l∈cs,¬aO l->LOk 1000 l
theorem CsOk.w {cs:List (List Raw)} (h:CsOk cs):CsW cs:=⟨h.ok,h.len,h.nc,h.good.w,h.nok⟩
end Go.Pl
namespace Go.Proofs.YtjjbkjgifdhlcaaGreat
open Go.AM Go.Pl
set_option maxRecDepth 100000
set_option maxHeartbeats 4000000
theorem ye {s:List (List Raw)} {v:Nat} {x:List Raw} (h:0<co x v):aN (s++[x]) v=aN s v++[cF v x]:=by simp[aN,filter_append,h]
theorem mB {s:List (List Raw)} {v:Nat} {x:List Raw} (h: ¬0<co x v):aN (s++[x]) v=aN s v:=by simp[aN,filter_append,h]
theorem uV {s:List (List Raw)} {v:Nat} {x:List Raw} (h:co x v<0):ay (s++[x]) v=ay s v++[cF v x]:=by simp[ay,filter_append,h]
theorem kh {s:List (List Raw)} {v:Nat} {x:List Raw} (h: ¬co x v<0):ay (s++[x]) v=ay s v:=by simp[ay,filter_append,h]
theorem yf {s:List (List Raw)} {v:Nat} {x:List Raw} (h:co x v=0):dT (s++[x]) v=dT s v++[x]:=by simp[dT,filter_append,h]
theorem BF {s:List (List Raw)} {v:Nat} {x:List Raw} (h: ¬co x v=0):dT (s++[x]) v=dT s v:=by simp[dT,filter_append,h]
def tu (hi lo:List (List Raw)):List (List Raw):=hi.flatMap fun u=>lo.map fun l=>cu u l
theorem Ic {hi lo:List (List Raw)} {u:List Raw}:tu (hi++[u]) lo=tu hi lo++lo.map (cu u):=by simp[tu]
def zZ (u:List Raw) (lo:List (List Raw)):Bool:=lo.any (fun l=>dB (cu u l)&&decide (co (cu u l) 8<=0))
def P0 (hi lo:List (List Raw)):Bool:=hi.any (fun u=>zZ u lo)
theorem Mz {u l:List Raw} {lo:List (List Raw)}:zZ u (lo++[l])=(zZ u lo||(dB (cu u l)&&decide (co (cu u l) 8<=0))):=by simp[zZ,any_append]
theorem MA {u:List Raw} {hi lo:List (List Raw)}:P0 (hi++[u]) lo=(P0 hi lo||zZ u lo):=by simp[P0,any_append]
theorem P3 {α:Type} {p:α->Bool} {l:List α} {i:Nat} (h:(l.take i).any p=true):l.any p=true:=by
 rw[qpb] at h ⊢;obtain⟨x,hx,h2⟩:=h;exact⟨x,Cg hx,h2⟩
theorem j7 {α:Type} {p:α->Bool} {l:List α} {x:α} (hx:x∈l) (h:p x=true):l.any p=true:=List.any_eq_true.2 ⟨x,hx,h⟩
theorem P4 {k:Nat} {s:List (List Raw)} {v:Nat} (hs:SysF k s) (hb: ¬Ta s v): ¬EJ (fQ s v):=by
 rintro⟨o,ho,hc,hn⟩;rcases kZ.1 ho with⟨h1,_⟩ | ⟨l,hl,u,hu,h1,h2,rfl⟩
 .exact hs.nc o h1 hc
 refine hb ⟨cF v u,dD.2 ⟨u,hu,h2,rfl⟩,cF v l,ec.2 ⟨l,hl,h1,rfl⟩,hc,?_⟩;grind
theorem ah1 (k:Nat) (s:List (List Raw)) (v:Nat) (hv:v<8) (hk:1<=k) (hs:SysF k s) (hz:Sw k s):
 Den Tryz.prog 256 [] [.fv (.sl (au s)),.int .i64 v] [] (if zW s v then .tup [.fv (.sl []),.bool false] else .tup [.fv (.sl (au (q' s v))),.bool true]):=by
 have nV:=hz.l.lim hs
 have h9: ∀ l∈s,l.length=9:=fun l hl=>(nV l hl).len
 have VC:=hz.len hs
 have Aq: ∀ b∈aN s v,LOk 2001 b:=CH nV (by decide)
 have zz: ∀ b∈ay s v,LOk 2001 b:=wL nV (by decide)
 have pH:=cX s v
 obtain⟨n,cZ⟩:=aw s.length
 have rl:=aA s
 rw[cZ] at rl VC pH
 obtain⟨R,hR⟩: ∃ R:PV,(if zW s v then .tup [.fv (.sl []),.bool false] else .tup [.fv (.sl (au (q' s v))),.bool true])=R:=⟨_,rfl⟩
 rw[hR]
 have mP:=xk (-1) (by decide)
 rw[bk] at mP
 refine dq Tryz.func256 86 0 ?_
 refine b8 rl ?_
 refine wl (α:=Nat×List (List Raw)×List (List Raw)×List (List Raw)) (fun⟨i,lo,hi,out⟩=>⟨[.fv (.sl (au s)),.int .i64 v,.any,.any,.nilsl,.bool false,.lsl 0 0 lo.length 27,.lsl 1 0 hi.length 27,.lsl 2 0 out.length 27,.any,.any,.any,.any,.any,.any,.any,.any,.any,.any,.any,.fv (.sl (au s)),.int .i64 n,.int .i64 i]++replicate 65 .any,[.row true (au lo),.row true (au hi),.row true (au out)]⟩)
  (fun⟨i,_⟩=>n - i) (fun⟨i,lo,hi,out⟩=>i<=n/\lo=aN (s.take i) v/\hi=ay (s.take i) v/\out=dT (s.take i) v) (0,[],[],[]) ?_ ?_ ?_
 .refine Weak.nil 6 27 (by decide) rfl ?_
  refine Weak.nil 7 27 (by decide) rfl ?_
  refine Weak.nil 8 27 (by decide) rfl ?_
  refine eV [0,1,2] ?_ ?_
  .simp[bc,dX,cB]
  simp[ez,fL]
  simp[au]
 .exact⟨eH _,rfl,rfl,rfl⟩
 rintro⟨i,lo,hi,out⟩ ⟨oA,fF,fE,dG⟩
 have d4:=cX (s.take i) v
 rw[<-fF,<-fE,<-dG,length_take,cZ] at d4
 obtain⟨L1,Z3⟩:=aw lo.length
 obtain⟨L2,RO⟩:=aw hi.length
 obtain⟨L3,Z4⟩:=aw out.length
 have Xw:=aA lo
 have AH:=aA hi
 have rl3:=aA out
 dsimp only
 rw[Z3] at d4 Xw ⊢
 rw[RO] at d4 AH ⊢
 rw[Z4] at d4 rl3 ⊢
 have tk1:=cv (ls:=lo) (n:=L1) (by omega)
 have tk2:=cv (ls:=hi) (n:=L2) (by omega)
 have Z5:=cv (ls:=out) (n:=L3) (by omega)
 refine aX ?_
 refine bR ?_ ?_
 .intro h1 h2
  have eO:=kg (cs:=s) (i:=i) (by omega)
  have bf:=ba (ls:=s) (i:=i) (by omega)
  have r1:=bJ s i
  obtain⟨x,mU⟩:=aw (s.getD i [])
  rw[mU] at bf r1 eO
  have hx:=nV x bf
  have lx:=hx.len
  have rA:=aG lx
  have fx:=aP x
  have gx:=ah x
  have nU:=ar lx
  by_cases h0:co x v=0
  .have wB:=OY x v hx hv h0
   have wt:=mB (s:=s.take i) (v:=v) (x:=x) (by grind)
   have DJ:=kh (s:=s.take i) (v:=v) (x:=x) (by grind)
   have jc:=yf (s:=s.take i) h0
   have cJ:=dj out x
   unfold FL RL at wB
   obtain⟨zs,SD⟩:=aw ((x.map Raw.q).map cn)
   have sr:zs.length=9:=by rw[<-SD];simp[lx]
   have gz:=ah zs
   rw[SD] at wB
   have e1:decide ((0:Int)>0)=false:=rfl
   have e2:decide ((0:Int)<0)=false:=rfl
   refine b9 (fw h2 r1 rA fx gx lx nU) ?_
   repeat refine ag ?_
   refine lY wB ?_
   refine b9 (bT gz sr e1 gx lx nU rA (bZ Z5 cJ rl3)) ?_
   repeat refine ag ?_
   refine ax (i+1,lo,hi,out++[x]) ?_ ⟨by omega,by rw[eO,wt,fF],by rw[eO,DJ,fE],by rw[eO,jc,dG]⟩
   exact bN [0,1,6]
  have wB:=WJ x v hx hv h0
  have ss:(cF v x).length=9:=cj lx
  have jc:=BF (s:=s.take i) h0
  unfold FL RL at wB
  change Den Tryz.prog 72 [] [.agg (flat x),.int .i64 v] [] (.tup [.agg (flat (cF v x)),.int .i64 (gk (x.getD v rz).q),.int .i64 0]) at wB
  by_cases hp:0<co x v
  .have wt:=ye (s:=s.take i) hp
   have DJ:=kh (s:=s.take i) (v:=v) (x:=x) (by grind)
   have cJ:=dj lo (cF v x)
   obtain⟨y,hy⟩:=aw (cF v x)
   rw[hy] at wB ss wt cJ
   have gy:=ah y
   have ug:=aG ss
   have pG:=ar ss
   rw[show gk (x.getD v rz).q=1 from rS hp] at wB
   have e1:decide ((1:Int)>0)=true:=rfl
   refine b9 (fw h2 r1 rA fx gx lx nU) ?_
   repeat refine ag ?_
   refine lY wB ?_
   refine b9 (bT gy ss e1 pG ug tk1 cJ Xw) ?_
   repeat refine ag ?_
   refine ax (i+1,lo++[y],hi,out) ?_ ⟨by omega,by rw[eO,wt,fF],by rw[eO,DJ,fE],by rw[eO,jc,dG]⟩
   exact bN [6,1,2]
  have mQ:co x v<0:=by grind
  have wt:=mB (s:=s.take i) (v:=v) (x:=x) hp
  have DJ:=uV (s:=s.take i) mQ
  have cJ:=dj hi (cF v x)
  obtain⟨y,hy⟩:=aw (cF v x)
  rw[hy] at wB ss DJ cJ
  have gy:=ah y
  have ug:=aG ss
  have pG:=ar ss
  rw[show gk (x.getD v rz).q= -1 from xD mQ] at wB
  have e1:decide ((-1:Int)>0)=false:=rfl
  have e2:decide ((-1:Int)<0)=true:=rfl
  refine b9 (fw h2 r1 rA fx gx lx nU) ?_
  repeat refine ag ?_
  refine lY wB ?_
  refine b9 (bT gy ss e1 e2 pG ug tk2 (aQ cJ AH)) ?_
  repeat refine ag ?_
  refine ax (i+1,lo,hi++[y],out) ?_ ⟨by omega,by rw[eO,wt,fF],by rw[eO,DJ,fE],by rw[eO,jc,dG]⟩
  exact bN [0,6,2]
 intro h1 h2
 have gA:i=n:=by omega
 have gN:s.take i=s:=eE (by omega)
 rw[gN] at fF fE dG
 have zB:zW s v=P0 hi lo:=by rw[fF,fE];rfl
 have iK:fQ s v=out++tu hi lo:=by rw[fF,fE,dG];rfl
 have Nq: ∀ b∈lo,LOk 2001 b:=by rw[fF];exact Aq
 have DD: ∀ b∈hi,LOk 2001 b:=by rw[fE];exact zz
 have RQ:=yc (v:=v) hs hz
 rw[iK,qe,Z4] at RQ
 clear fF fE dG
 refine ae h2 ?_
 refine aW mP ?_
 refine ae @append_nil.{0} ?_
 repeat refine ag ?_
 obtain⟨ng,hng⟩:=aw (decide (((-1:Int):Rat).num<0))
 obtain⟨nn,Z6⟩:=aw (N ((-1:Int):Rat).num.natAbs)
 obtain⟨nd,l6⟩:=aw (N ((-1:Int):Rat).den)
 rw[hng,Z6,l6]
 have qV: ∀ b:List Raw,LOk 2001 b->Den Tryz.prog 135 [] [RL b,.agg [.bool ng,.fv nn,.fv nd]] [] (RL (dC b)):=fun b hb=>by
  have:=JW b (cn ((-1:Int):Rat)) (hb.mono (by decide)) (bD (Bd.mono (show Bd 1 ((-1:Int):Rat) from⟨by decide,by decide⟩) (by decide)));rw[cQ] at this;change Den Tryz.prog 135 [] [RL b,FR ((-1:Int):Rat)] [] (RL (dC b)) at this;rw[bk,hng,Z6,l6] at this;exact this
 have hca: ∀ u l:List Raw,LOk 2001 u->LOk 2001 l->Den Tryz.prog 162 [] [RL u,RL (dC l)] [] (RL (cu u l)):=fun u l hu hl=>
  WN u (dC l) (hu.mono (by decide)) ((s6 hl (by decide)).mono (by decide))
 clear hng Z6 l6 mP
 refine wl (α:=Nat×List (List Raw)) (fun⟨j,ka⟩=>⟨[.fv (.sl (au s)),.int .i64 v,.any,.any,.nilsl,.bool false,.lsl 0 0 L1 27,.lsl 1 0 L2 27,.lsl 2 0 ka.length 27,.any,.any,.any,.any,.any,.ptr 3 0 0]++replicate 38 .any++[.lsl 1 0 L2 27,.int .i64 L2,.int .i64 j]++replicate 32 .any,[.row true (au lo),.row true (au hi),.row true (au ka),.box true [.bool ng,.fv nn,.fv nd]]⟩)
  (fun⟨j,_⟩=>L2 - j) (fun⟨j,ka⟩=>j<=L2/\ka=out++tu (hi.take j) lo/\P0 (hi.take j) lo=false) (0,out) ?_ ?_ ?_
 .exact bN [0,1,2,3]
 .exact⟨eH _,by simp[tu],rfl⟩
 rintro⟨j,ka⟩ ⟨hj,gB,eo⟩
 obtain⟨M,hM⟩:=aw ka.length
 dsimp only
 rw[hM]
 refine aX ?_
 refine bR ?_ ?_
 .intro h3 h4
  have eO:=kg (cs:=hi) (i:=j) (by omega)
  have bf:=ba (ls:=hi) (i:=j) (by omega)
  have r1:=bJ hi j
  obtain⟨u,huu⟩:=aw (hi.getD j [])
  rw[huu] at bf r1 eO
  have hu:=DD u bf
  have lu:=hu.len
  have u27:=aG lu
  have fu:=aP u
  have gu:=ah u
  have DK:=ar lu
  refine b9 (fw h4 r1 u27 fu gu lu AH) ?_
  repeat refine ag ?_
  refine wl (α:=Nat×List (List Raw)) (fun⟨q,tX⟩=>⟨[.fv (.sl (au s)),.int .i64 v,.any,.any,.nilsl,.bool false,.lsl 0 0 L1 27,.lsl 1 0 L2 27,.lsl 2 0 tX.length 27,.any,.any,.any,.any,.any,.ptr 3 0 0,.any,.ptr 4 0 0]++replicate 36 .any++[.lsl 1 0 L2 27,.int .i64 L2,.int .i64 j,.any,.any,.any,.lsl 0 0 L1 27,.int .i64 L1,.int .i64 q]++replicate 26 .any,[.row true (au lo),.row true (au hi),.row true (au tX),.box true [.bool ng,.fv nn,.fv nd],.box true (flat u)]⟩)
   (fun⟨q,_⟩=>L1 - q) (fun⟨q,tX⟩=>q<=L1/\tX=ka++(lo.take q).map (cu u)/\zZ u (lo.take q)=false) (0,ka) ?_ ?_ ?_
  .exact vf [0,1,2,3,4]
  .exact⟨eH _,by simp,rfl⟩
  rintro⟨q,tX⟩ ⟨hq,Lw,Ll⟩
  have hM3:tX.length<=100:=by
   have e1:tX.length=ka.length+q:=by rw[Lw];simp;omega
   have e2:ka.length=L3+(hi.take j).length*lo.length:=by
    rw[gB,qe,Z4];unfold tu;rw[jY]
   have e3:(tu hi lo).length=hi.length*lo.length:=by unfold tu;rw[jY]
   have e4:(hi.take j).length=j:=by rw[length_take];omega
   rw[e3] at RQ;rw[e4] at e2;have e5:(j+1)*lo.length<=hi.length*lo.length:=qn _ (by omega);rw[Nat.add_mul] at e5;omega
  obtain⟨M3,afb⟩:=aw tX.length
  have rl4:=aA tX
  rw[afb] at hM3 rl4
  dsimp only
  rw[afb]
  refine aX ?_
  refine bR ?_ ?_
  .intro h5 h6
   have RS:=kg (cs:=lo) (i:=q) (by omega)
   have Xx:=ba (ls:=lo) (i:=q) (by omega)
   have r3:=bJ lo q
   obtain⟨l,oE⟩:=aw (lo.getD q [])
   rw[oE] at Xx r3 RS
   have hl:=Nq l Xx
   have ll:=hl.len
   have l27:=aG ll
   have fl:=aP l
   have gl:=ah l
   have zC:=ar ll
   have Hk:=qV l hl
   have Hi:=hca u l hu hl
   have gO:=er ll
   have fG:=fW lu ll
   have zR:=Mz (u:=u) (l:=l) (lo:=lo.take q)
   have Z7:=wK hu hl (by decide)
   have cJ:=dj tX (cu u l)
   have hmp:(lo.take (q+1)).map (cu u)=(lo.take q).map (cu u)++[cu u l]:=by rw[RS,v8];rfl
   have VD:zZ u (lo.take (q+1))=true->zW s v=true:=fun hb=>by
    rw[zB];exact j7 bf (P3 hb)
   obtain⟨nl,ajJ⟩:=aw (dC l)
   obtain⟨d,hd⟩:=aw (cu u l)
   rw[ajJ] at Hk Hi gO
   rw[hd] at Hi fG zR Z7 cJ hmp
   have gnl:=ah nl
   have gd:=ah d
   have VE:=ar fG
   have d27:=aG fG
   have SH:=oZ fG
   have h74:=Pb d (Z7.mono (by decide))
   have iI:=mf (d.getD 8 rz) ((Z7.at 8).mono (by decide))
   have vZ:co d 8=(d.getD 8 rz).q:=rfl
   have Z5:=cv (ls:=tX) (n:=M3) (by omega)
   obtain⟨r,hr⟩:=aw (d.getD 8 rz)
   rw[hr] at iI SH vZ
   unfold Raw.v at iI
   obtain⟨b,hb⟩:=aw (dB d)
   rw[hb] at h74 zR
   unfold RL at Hk Hi h74
   refine b9 (fM h6 r3 l27 fl gl ll) ?_
   repeat refine ag ?_
   refine dw (by kernel_rfl) ?_
   refine ae (fM DK zC gu lu gl ll) ?_
   repeat refine ag ?_
   refine lY Hk ?_
   refine Li ?_
   repeat refine ag ?_
   refine lY Hi ?_
   refine b9 (bZ gd fG VE) ?_
   repeat refine ag ?_
   refine lY h74 ?_
   cases b with
   | true=>
    refine b9 (bZ SH gd fG) ?_
    repeat refine ag ?_
    refine aW iI ?_;refine ae @append_nil.{0} ?_;refine bR ?_ ?_
    .intro g1 g2;have hv:zZ u (lo.take (q+1))=true:=by
      have dR:r.q<=0:=by
       have:=@kX r.q;grind
      rw[RS,zR,vZ,Ll,ib dR];rfl
     rw[if_pos (VD hv)] at hR;subst hR;refine ae g2 ?_;refine bg rfl
    .intro g1 g2;have hv:zZ u (lo.take (q+1))=false:=by
      have dR: ¬r.q<=0:=by
       have:=@kX r.q;grind
      rw[RS,zR,vZ,Ll,mX dR];rfl
     refine b9 (bT g2 gd fG VE d27 Z5 cJ rl4) ?_
     repeat refine ag ?_
     refine ax (q+1,tX++[d]) ?_ ⟨by omega,by rw[hmp,Lw,append_assoc],hv⟩;exact vf [0,1,8,3,4]
   | false=>
    have hv:zZ u (lo.take (q+1))=false:=by rw[RS,zR,Ll];rfl
    refine b9 (fw gd fG VE d27 Z5 cJ rl4) ?_
    repeat refine ag ?_
    refine ax (q+1,tX++[d]) ?_ ⟨by omega,by rw[hmp,Lw,append_assoc],hv⟩;exact vf [0,1,8,3,4]
  intro h5 h6
  have hqe:q=L1:=by omega
  have ajL:lo.take q=lo:=eE (by omega)
  rw[ajL] at Lw Ll
  refine ae h6 ?_
  refine ax (j+1,tX) ?_ ⟨by omega,by rw[eO,Ic,Lw,gB,append_assoc],by rw[eO,MA,eo,Ll];rfl⟩
  exact bN [0,1,2,3]
 intro h3 h4
 have Oj:j=L2:=by omega
 have RP:hi.take j=hi:=eE (by omega)
 rw[RP] at gB eo
 rw[<-iK] at gB
 rw[zB,eo,if_neg (by simp)] at hR
 have hbf: ¬Ta s v:=fun hb=>by
  have:=(xK h9).2 hb;rw[zB,eo] at this;cases this
 have N7:fN ka=false:=by
  have h9o: ∀ o∈ka,o.length=9:=by rw[gB];exact nk h9
  cases Z8:fN ka with
  | false=>rfl
  | true=>exact absurd (by have:=(mo h9o).1 Z8;rwa [gB] at this) (P4 hs hbf)
 have D2:=Yh ka (by rw[gB];exact fun o ho=>(HN nV (by decide) o ho).mono (by decide)) (by
  have:=yc (v:=v) hs hz;rw[gB];omega) (by rw[gB];exact PZ hv hk hs hz.l) (by rw[gB];exact yd hv hs hz)
 rw[N7,if_neg (by simp)] at D2
 have rl5:=aA ka
 have tk5:=cv (ls:=ka) (n:=M) (by omega)
 have da:q' s v=sysL ka []:=by rw[gB];rfl
 rw[da] at hR
 subst hR
 rw[hM] at rl5
 refine ae h4 ?_
 refine gp D2 (by simp[cC,iw,gj,fP,rl5,tk5]) ?_
 refine ae @append_nil.{0} ?_
 exact bg rfl
theorem ah2 (s:List (List Raw)) (v:Nat) (hv:v<8) (hg: ∀ l∈s,LOk 1000 l) (hn:s.length<=1000):
 Den Tryz.prog 255 [] [.fv (.sl (au s)),.int .i64 v] [] (.tup [.int .i64 (((aN s v).length:Int)*(ay s v).length - (aN s v).length - (ay s v).length),.bool (occ s v)]):=by
 obtain⟨n,cZ⟩:=aw s.length
 have rl:=aA s
 rw[cZ] at rl hn
 have pH:=cX s v
 have NI:occ s v=decide (((aN s v).length:Int)+(ay s v).length>0):=by
  cases ho:occ s v with
  | false=>
   obtain⟨_,h1,h2⟩:=xH ho;rw[h1,h2];rfl
  | true=>
   obtain⟨l,hl,h0⟩:=fg.1 ho;symm;refine ib ?_;by_cases hp:0<co l v
   .have:cF v l∈aN s v:=ec.2 ⟨l,hl,hp,rfl⟩;have:=length_pos_of_mem this;omega
   have:cF v l∈ay s v:=dD.2 ⟨l,hl,by grind,rfl⟩;have:=length_pos_of_mem this;omega
 rw[NI]
 obtain⟨A,hA⟩:=aw ((aN s v).length)
 obtain⟨C,hC⟩:=aw ((ay s v).length)
 rw[hA,hC] at pH ⊢
 refine dq Tryz.func255 39 0 ?_
 refine b8 rl ?_
 refine wl (α:=Nat×Nat×Nat) (fun⟨i,a,c⟩=>⟨[.fv (.sl (au s)),.int .i64 v,.any,.any,.int .i64 0,.bool false,.int .i64 a,.int .i64 c,.any,.any,.fv (.sl (au s)),.int .i64 n,.int .i64 i]++replicate 28 .any,[]⟩)
  (fun⟨i,_⟩=>n - i) (fun⟨i,a,c⟩=>i<=n/\a=(aN (s.take i) v).length/\c=(ay (s.take i) v).length) (0,0,0) ?_ ?_ ?_
 .exact bN []
 .exact⟨eH _,rfl,rfl⟩
 rintro⟨i,a,c⟩ ⟨hi,ha,hc⟩
 have d4:=cX (s.take i) v
 rw[<-ha,<-hc,length_take,cZ] at d4
 refine aX ?_
 refine bR ?_ ?_
 .intro h1 h2
  have eO:=kg (cs:=s) (i:=i) (by omega)
  have bf:=ba (ls:=s) (i:=i) (by omega)
  have r1:=bJ s i
  obtain⟨x,mU⟩:=aw (s.getD i [])
  rw[mU] at bf r1 eO
  have hx:=hg x bf
  have lx:=hx.len
  have rA:=aG lx
  have fx:=aP x
  have gx:=ah x
  have nU:=ar lx
  have gV:=cU (rs:=x) (i:=v) (by omega)
  have iI:=mf (x.getD v rz) ((hx.at v).mono (by decide))
  have vZ:co x v=(x.getD v rz).q:=rfl
  obtain⟨r,hr⟩:=aw (x.getD v rz)
  rw[hr] at gV iI vZ
  unfold Raw.v at iI
  rcases ke r.q with hq | hq | hq
  .have mQ:co x v<0:=by rw[vZ,<-kW,hq];decide
   have wt:=mB (s:=s.take i) (v:=v) (x:=x) (by grind)
   have DJ:=uV (s:=s.take i) mQ
   rw[hq] at iI
   have e1:((-1:Int)==1)=false:=rfl
   have e2:((-1:Int)== -1)=true:=rfl
   refine b9 (fw h2 r1 rA fx gx lx gV) ?_
   repeat refine ag ?_
   refine aW iI ?_
   refine ae (bZ e1 e2 @append_nil.{0}) ?_
   repeat refine ag ?_
   refine ax (i+1,a,c+1) ?_ ⟨by omega,by rw[eO,wt,ha],by rw[eO,DJ,qe,<-hc];rfl⟩
   exact bN []
  .have h0:co x v=0:=by rw[vZ,<-bm,hq]
   have wt:=mB (s:=s.take i) (v:=v) (x:=x) (by grind)
   have DJ:=kh (s:=s.take i) (v:=v) (x:=x) (by grind)
   rw[hq] at iI
   have e1:((0:Int)==1)=false:=rfl
   have e2:((0:Int)== -1)=false:=rfl
   refine b9 (fw h2 r1 rA fx gx lx gV) ?_
   repeat refine ag ?_
   refine aW iI ?_
   refine ae (bZ e1 e2 @append_nil.{0}) ?_
   repeat refine ag ?_
   refine ax (i+1,a,c) ?_ ⟨by omega,by rw[eO,wt,ha],by rw[eO,DJ,hc]⟩
   exact bN []
  have hp:0<co x v:=by rw[vZ,<-kX,hq];decide
  have wt:=ye (s:=s.take i) hp
  have DJ:=kh (s:=s.take i) (v:=v) (x:=x) (by grind)
  rw[hq] at iI
  have e1:((1:Int)==1)=true:=rfl
  refine b9 (fw h2 r1 rA fx gx lx gV) ?_
  repeat refine ag ?_
  refine aW iI ?_
  refine ae (aQ e1 @append_nil.{0}) ?_
  repeat refine ag ?_
  refine ax (i+1,a+1,c) ?_ ⟨by omega,by rw[eO,wt,qe,<-ha];rfl,by rw[eO,DJ,hc]⟩
  exact bN []
 intro h1 h2
 have gN:s.take i=s:=eE (by omega)
 rw[gN,hA] at ha
 rw[gN,hC] at hc
 subst ha hc
 have AI:(0:Int)<=(a:Int)*(c:Int)/\(a:Int)*(c:Int)<=1000000:=by
  constructor
  .exact Int.mul_nonneg (by omega) (by omega)
  have:=Nat.mul_le_mul (show a<=1000 by omega) (show c<=1000 by omega);have e:((a*c:Nat):Int)=(a:Int)*c:=by simp
  omega
 refine ae h2 ?_
 repeat refine ag ?_
 refine bg ?_
 exact Hd
theorem ads (s:List (List Raw)) (v:Nat) (hv:v<8) (hg:GoodW s):
 Den Tryz.prog 256 [] [.fv (.sl (au s)),.int .i64 v] [] (if zW s v then .tup [.fv (.sl []),.bool false] else .tup [.fv (.sl (au (q' s v))),.bool true]):=by
 obtain⟨k,hk,hs,hz,_⟩:=hg
 exact ah1 k s v hv hk hs hz
theorem W0 (s0:List (List Raw)) (vS:GoodW s0):Den Tryz.prog 229 [] [.fv (.sl (au s0))] [] (.bool (eh s0)):=by
 obtain⟨R,hR⟩:=aw (eh s0);rw[hR];refine dq Tryz.func229 41 0 ?_;refine aX ?_;refine wl (α:=List (List Raw)) (fun s=>⟨[.fv (.sl (au s)),.any,.bool false]++replicate 39 .any,[]⟩)
  bA (fun s=>GoodW s/\eh s=R) s0 ?_ ?_ ?_
 .exact bN []
 .exact⟨vS,hR⟩
 rintro s ⟨hg,hf⟩;have rl:=aA s;have VC:=hg.len;refine b8 rl ?_;refine bR ?_ ?_
 .intro h1 h2;refine ae h2 ?_;refine wl (α:=Nat×Int×Int) (fun⟨w,b,l⟩=>⟨[.fv (.sl (au s)),.any,.bool false,.int .i64 b,.int .i64 l]++replicate 7 .any++[.int .i64 w]++replicate 29 .any,[]⟩)
   (fun⟨w,_⟩=>8 - w) (fun⟨w,b,l⟩=>w<=8/\((b= -1/\ ∀ u,u<w->occ s u=false)\/ ∃ u,u<8/\b=(u:Nat)/\occ s u=true/\l=tt s u/\ ∀ q,q<w->occ s q=true->tt s u<=tt s q)) (0,-1,0) ?_ ?_ ?_
  .exact bN []
  .exact⟨eH _,.inl ⟨rfl,fun u hu=>by omega⟩⟩
  rintro⟨w,b,l⟩ ⟨hw,hb⟩;refine aX ?_;refine bR ?_ ?_
  .intro h3 h4;have Ax:=ah2 s w (by omega) hg.lim (by omega);obtain⟨c,hc⟩:=aw (((aN s w).length:Int)*(ay s w).length - (aN s w).length - (ay s w).length);obtain⟨o,ho⟩:=aw (occ s w);rw[hc,ho] at Ax;refine ae h4 ?_;refine aW Ax ?_;cases o with
   | false=>
    refine a9 ?_;refine ax (w+1,b,l) ?_ ⟨by omega,?_⟩
    .exact bN []
    .rcases hb with⟨h5,h6⟩ | h5
     .refine .inl ⟨h5,fun u hu=>?_⟩;by_cases SI:u=w
      .rw[SI];exact ho
      exact h6 u (by omega)
     .obtain⟨u,hu,RK,Z0,hlu,Ol⟩:=h5;exact .inr ⟨u,hu,RK,Z0,hlu,fun q hq Om=>by
       by_cases Z9:q=w
       .rw[Z9,ho] at Om;cases Om
       .exact Ol q (by omega) Om⟩
   | true=>
    have pE:tt s w=c:=hc;refine a9 ?_;refine bR ?_ ?_
    .intro h5 h6;refine ae h6 ?_;have su: ∀ u,u<w->occ s u=false:=by
      rcases hb with⟨_,h8⟩ | ⟨u,_,h8,_⟩
      .exact h8
      omega
     refine ax (w+1,(w:Int),c) ?_ ⟨by omega,.inr ⟨w,by omega,rfl,ho,pE.symm,fun q hq Om=>by
      by_cases Z9:q=w
      .rw[Z9];exact Int.le_refl _
      rw[su q (by omega)] at Om;cases Om⟩⟩
     exact bN []
    intro h5 h6;refine ae h6 ?_;have eo: ∃ u,u<8/\b=(u:Nat)/\occ s u=true/\l=tt s u/\ ∀ q,q<w->occ s q=true->tt s u<=tt s q:=by
     rcases hb with⟨h7,_⟩ | h7
     .omega
     exact h7
    refine bR ?_ ?_
    .intro h7 h8;refine ae h8 ?_;refine ax (w+1,(w:Int),c) ?_ ⟨by omega,.inr ⟨w,by omega,rfl,ho,pE.symm,fun q hq Om=>by
      by_cases Z9:q=w
      .rw[Z9];exact Int.le_refl _
      obtain⟨u,_,_,_,hlu,Ol⟩:=eo;have:=Ol q (by omega) Om;omega⟩⟩
     exact bN []
    intro h7 h8;refine ae h8 ?_;refine ax (w+1,b,l) ?_ ⟨by omega,.inr (by
     obtain⟨u,hu,RK,Z0,hlu,Ol⟩:=eo;refine⟨u,hu,RK,Z0,hlu,fun q hq Om=>?_⟩;by_cases Z9:q=w
     .rw[Z9];omega
     exact Ol q (by omega) Om)⟩
    exact bN []
  intro h3 h4;have hw8:w=8:=by omega
  have eo: ∃ u,u<8/\b=(u:Nat)/\occ s u=true/\l=tt s u/\ ∀ q,q<w->occ s q=true->tt s u<=tt s q:=by
   rcases hb with⟨h7,h8⟩ | h7
   .exfalso;have db:0<s.length:=by omega
    have bf:=ba (ls:=s) (i:=0) db;obtain⟨u,hu,h0⟩:=p7 (hg.nc _ bf);have:=h8 u (by omega);rw[fg.2 ⟨_,bf,h0⟩] at this;cases this
   exact h7
  obtain⟨u,hu,rfl,Z0,_,Ol⟩:=eo;have Ho:=ads s u hu hg;cases zB:zW s u with
  | true=>
   rw[zB,if_pos rfl] at Ho;have VF:R=false:=by rw[<-hf];exact hg.bad hu zB
   subst VF;refine ae h4 ?_;refine aW Ho ?_;refine ae @Bool.not_false ?_;exact bg rfl
  | false=>
   rw[zB,if_neg (by simp)] at Ho;have VF:=hg.feas hu zB;obtain⟨hgs,aH⟩:=hg.step hu Z0 (fun q hq Om=>Ol q (by omega) Om);refine ae h4 ?_;refine aW Ho ?_;refine ae @Bool.not_true ?_;refine ap (q' s u) aH ?_ ⟨hgs,by rw[VF];exact hf⟩;exact bN []
 intro h1 h2;have Lo:s=[]:=List.eq_nil_of_length_eq_zero (by omega);have VF:R=true:=by rw[<-hf,Lo];exact Mo
 subst VF;refine ae h2 ?_;exact bg rfl
theorem ah3 (s0:List (List Raw)) (vS:GoodS s0):Den Tryz.prog 229 [] [.fv (.sl (au s0))] [] (.bool (eh s0)):=W0 s0 vS.w
theorem adt (cs:List (List Raw)) (h:CsOk cs):Den Tryz.prog 228 [] [.fv (.sl (au cs))] [] (if fN cs then .tup [.fv (.sl []),.bool false] else .tup [.fv (.sl (au (sysL cs []))),.bool true]):=
 Yh cs (fun l hl=>(h.ok l hl).mono (by decide)) (by have:=h.len;omega) h.nok h.nc
theorem adu (cs:List (List Raw)) (h:CsW cs):Den Tryz.prog 197 [] [.fv (.sl (au cs))] [] (.bool (aZ cs)):=by
 have D2:=Yh cs (fun l hl=>(h.ok l hl).mono (by decide)) (by have:=h.len;omega) h.nok h.nc;have Xy:=W0 _ h.good;unfold aZ;obtain⟨R,hR⟩:=aw (eh (sysL cs []));rw[hR] at Xy ⊢;cases hv:fN cs with
 | true=>
  rw[hv,if_pos rfl] at D2;refine dq Tryz.func197 14 0 ?_;refine aX ?_;refine aW D2 ?_;refine a9 ?_;exact bg rfl
 | false=>
  rw[hv,if_neg (by simp)] at D2;refine dq Tryz.func197 14 0 ?_;refine aX ?_;refine aW D2 ?_;refine a9 ?_;refine aW Xy ?_;refine a9 ?_;exact bg rfl
theorem adv (cs:List (List Raw)) (h:CsOk cs):Den Tryz.prog 197 [] [.fv (.sl (au cs))] [] (.bool (aZ cs)):=adu cs h.w
theorem ah4 (cs:List (List Raw)) (h:CsOk cs) (hl:cs.length<=40):Den Tryz.prog 155 [] [.fv (.sl (au cs))] [] (.tup [.bool (aZ cs),.int .i64 0]):=by
 have G4:=adv cs h;have rl:=aA cs;have e1:decide ((cs.length:Int)>40)=false:=sB;refine dq Tryz.func155 8 0 ?_;refine b8 (aQ rl e1) ?_;refine aW G4 ?_;refine a9 ?_;exact bg rfl
theorem Fh:(replicate 9 (0:Rat)).map cn=replicate 9 (cn 0):=by simp
theorem d' (q:Rat):(dP q).length=9:=by simp[dP]
theorem dE (v:Nat):(gC v).length=9:=by simp[gC]
theorem Yn (r:Raw) (hr:r.Ok 5000000000):Den Tryz.prog 102 [] [r.v] [] (RL (dP r.q)):=by
 have oG:=nY r hr;have RU:=WG;unfold FL at RU;rw[Fh] at RU;have a_:=d8 (rs:=replicate 9 (cn 0)) (i:=8) (by simp) (cn r.q).neg (cn r.q).num (cn r.q).den;have ue:(⟨(cn r.q).neg,(cn r.q).num,(cn r.q).den⟩:Raw)=cn r.q:=rfl;rw[ue] at a_;change _=flat (dP r.q) at a_;have gO:=d' r.q;obtain⟨y,hy⟩:=aw (dP r.q);obtain⟨z,hz⟩:=aw (replicate 9 (cn 0));have sr:z.length=9:=by rw[<-hz];simp
 obtain⟨c,hc⟩:=aw (cn r.q);rw[hy] at a_ gO ⊢;rw[hz] at RU a_;have afc:Den Tryz.prog 121 [] [r.v] [] c.v:=by rw[<-hc];exact oG
 rw[hc] at a_;unfold Raw.v at afc ⊢;unfold RL at RU ⊢;have gz:=ah z;have gy:=ah y;have pG:=ar gO;have ajM:=ar sr;simp only[Nat.reduceMul,reduceAdd] at a_;refine dq Tryz.func102 8 0 ?_;refine aX ?_;refine aW RU ?_;refine b9 (aQ gz sr) ?_
 repeat refine ag ?_
 refine aW afc ?_;refine ae (fw gz sr a_ pG gy gO @append_nil.{0}) ?_
 repeat refine ag ?_
 exact RetOK.form rfl rfl gO
theorem Yo (v:Nat) (hv:v<8):Den Tryz.prog 100 [] [.int .i64 v] [] (RL (gC v)):=by
 have tT:=mg 1 (by decide);have RU:=WG;unfold FL at RU;rw[Fh] at RU;have a_:=d8 (rs:=replicate 9 (cn 0)) (i:=v) (by simp;omega) (cn ((1:Int):Rat)).neg (cn ((1:Int):Rat)).num (cn ((1:Int):Rat)).den;have ue:(⟨(cn ((1:Int):Rat)).neg,(cn ((1:Int):Rat)).num,(cn ((1:Int):Rat)).den⟩:Raw)=cn ((1:Int):Rat):=rfl;rw[ue] at a_;change _=flat (gC v) at a_;have gO:=dE v;obtain⟨y,hy⟩:=aw (gC v);obtain⟨z,hz⟩:=aw (replicate 9 (cn 0));have sr:z.length=9:=by rw[<-hz];simp
 obtain⟨c,hc⟩:=aw (cn ((1:Int):Rat));rw[hy] at a_ gO ⊢;rw[hz] at RU a_;have AJ:Den Tryz.prog 32 [] [.int .i64 1] [] c.v:=by rw[<-hc];exact tT
 rw[hc] at a_;unfold Raw.v at AJ;unfold RL at RU ⊢;have gz:=ah z;have gy:=ah y;have pG:=ar gO;have ajM:=ar sr;refine dq Tryz.func100 9 0 ?_;refine aX ?_;refine aW RU ?_;refine b9 (aQ gz sr) ?_
 repeat refine ag ?_
 refine aW AJ ?_;refine ae (fw gz sr a_ pG gy gO @append_nil.{0}) ?_
 repeat refine ag ?_
 exact RetOK.form rfl rfl gO
theorem adw (l:List Raw) (h:LOk 1000000 l):Den Tryz.prog 51 [] [RL l] [] (RL (dC l)):=by
 have tT:=mg (-1) (by decide);have Ho:=acH l (cn ((-1:Int):Rat)) (h.mono (by decide)) (bD (Bd.mono (show Bd 1 ((-1:Int):Rat) from⟨by decide,by decide⟩) (by decide)));rw[cQ] at Ho;change Den Tryz.prog 108 [] [RL l,(cn ((-1:Int):Rat)).v] [] (RL (dC l)) at Ho;have oE:=h.len;have gO:=er oE;obtain⟨y,hy⟩:=aw (dC l);obtain⟨c,hc⟩:=aw (cn ((-1:Int):Rat));rw[hy] at Ho gO ⊢;have AJ:Den Tryz.prog 32 [] [.int .i64 (-1)] [] c.v:=by rw[<-hc];exact tT
 rw[hc] at Ho;unfold Raw.v at AJ Ho;unfold RL at Ho ⊢;have gl:=ah l;have gy:=ah y;have pG:=ar gO;have zC:=ar oE;refine dq Tryz.func51 5 0 ?_;refine b8 (aQ gl oE) ?_
 repeat refine ag ?_
 refine dw (by kernel_rfl) ?_;refine ae (bZ zC gl oE) ?_
 repeat refine ag ?_
 refine aW AJ ?_;refine ae @append_nil.{0} ?_;refine lY Ho ?_;refine b9 (aQ gy gO) ?_
 repeat refine ag ?_
 exact RetOK.form rfl rfl gO
theorem TF {ls:List (List Raw)} (h: ∀ l∈ls,l.length=9):(∀ y,y∈au ls->y.length=27)=True:=by
 refine eq_true (fun y hy=>?_);obtain⟨l,hl,rfl⟩:=mem_map.1 hy;rw[aP,h l hl]
theorem Yp (ls:List (List Raw)) (h9: ∀ l∈ls,l.length=9) (hn:ls.length<=1000):Den Tryz.prog 106 [] [.fv (.sl (au ls))] [.row true (au ls)] (.lsl 0 0 ls.length 27):=by
 cases ls with
 | nil=>
  show Den Tryz.prog 106 [] ([]++ .fv (.sl [])::[]) [.row true []] (.lsl 0 0 0 27);refine Den.empty' ?_ (fun b o cap=>?_)
  .show Den Tryz.prog 106 [] [.nilsl] [.row true []] (.lsl 0 0 0 27);refine Lh JG JH Tryz.func106 (cd:=_) rfl (by decide) rfl (n:=7) rfl rfl ?_ 27 (by decide);refine b8 @vQ ?_;exact⟨_,rfl,cS,cS⟩
  .show Den Tryz.prog 106 [] [.fv (.lit (.slice (some ⟨b,o,none⟩) 0 cap))] [.row true []] (.lsl 0 0 0 27);refine dq Tryz.func106 7 0 ?_;refine aX ?_;exact RetOK.own rfl ⟨cS,cS⟩ rfl
 | cons a t=>
  have qW:=TF h9;have rl:=aA (a::t);have e:au (a::t)=cK a::au t:=rfl;rw[e] at qW rl ⊢;obtain⟨n,cZ⟩:=aw ((a::t).length);rw[cZ] at rl hn ⊢;obtain⟨us,gK⟩:=aw (cK a::au t);have zo:us.length=n:=by rw[<-gK];exact rl
  refine dq Tryz.func106 7 0 ?_;refine aX ?_;rw[gK] at qW ⊢;have Vh:(au t).length+1=n:=by simpa using rl
  refine ae (aQ qW Vh) ?_;refine⟨⟨by omega,by omega⟩,?_⟩;exact RetOK.own rfl ⟨cS,cS⟩ rfl
theorem MB (ls:List (List Raw)) (i:Nat):List.take i (au ls)=au (ls.take i):=by simp[au]
theorem MC (ls:List (List Raw)) (i:Nat):List.drop i (au ls)=au (ls.drop i):=by simp[au]
theorem P5 (ls:List (List Raw)) (i:Nat):au (ls.take i)++au (ls.drop (i+1))=au (lO ls i):=by simp[au,lO]
theorem adx (ls:List (List Raw)) (i:Nat) (hi:i<ls.length) (hn:ls.length<=1000):
 Den Tryz.prog 231 [.row true (au ls)] [.lsl 0 0 ls.length 27,.int .i64 i,.int .i64 ((i:Int)+1)] [.row true (au (lO ls i))] (.lsl 0 0 (ls.length - 1) 27):=by
 obtain⟨n,cZ⟩:=aw ls.length
 have rl:=aA ls
 rw[cZ] at rl hi hn ⊢
 have e1:((i:Int)+1).toNat=i+1:=by omega
 have e2:((i:Int)==(i:Int)+1)=false:=by rw[qx];omega
 have e3:i+(n - (i+1))=n - 1:=by omega
 have t1:=MB ls i
 have d1:=MC ls (i+1)
 have dl:(au (ls.drop (i+1))).length=n - (i+1):=by rw[aA,length_drop,cZ]
 have t2:List.take (n - (i+1)) (au (ls.drop (i+1)))=au (ls.drop (i+1)):=eE (by omega)
 have dd:=P5 ls i
 have ddl:(au (lO ls i)).length=n - 1:=by rw[aA];have:=th (s:=ls) (i:=i) (by omega);omega
 obtain⟨Z,hZ⟩:=aw (List.drop (n - 1) (au ls))
 have Zl:Z.length=1:=by rw[<-hZ,length_drop,rl];omega
 obtain⟨D,hD⟩:=aw (au (lO ls i))
 rw[hD] at dd ddl ⊢
 have hWl:(D++Z).length=n:=by rw[qe,ddl,Zl];omega
 have hWt:List.take (n - 1) (D++Z)=D:=List.take_left' ddl
 refine dq Tryz.func231 30 1 ?_
 refine b8 e1 ?_
 repeat refine ag ?_
 refine ae e2 ?_
 refine dw (by kernel_rfl) ?_
 refine ae (bT @Nat.sub_zero e1 t1 d1 t2 dl dd (bZ e3 hZ rl)) ?_
 repeat refine ag ?_
 refine ae hWt ?_
 repeat refine ag ?_
 exact sk rfl ⟨cS,cS⟩ rfl trivial rfl rfl rfl
theorem W3 {w:Nat}:co (replicate 9 rz) w=0:=by
 have rq:rz.q=0:=by
  unfold Raw.q rz gP;simp[val]
 unfold co;rw[qa,List.getElem?_replicate];split
 .exact rq
 exact rq
theorem o6 {l:List Raw} {v w:Nat} {r:Raw} (h:w≠v):co (l.set v r) w=co l w:=by
 unfold co;rw[qa,qm (fun e=>h e.symm),<-qa]
def tv:List Raw:=(replicate 9 rz).set 8 (cn ((-1:Int):Rat))
theorem P6:eD tv=dP ((-1:Int):Rat):=by
 have h9:tv.length=9:=by simp[tv]
 have hl:(bQ tv).q=((-1:Int):Rat):=by
  decide+kernel
 have h0:(bQ tv).q≠0:=by rw[hl];decide
 have ha:fH ((-1:Int):Rat)=1:=by decide+kernel
 have hn:IsCn (dP ((-1:Int):Rat)):=⟨(replicate 9 (0:Rat)).set 8 ((-1:Int):Rat),by simp[dP],by simp⟩;refine xV (ji h9) hn (fun i hi=>?_);rw[nj h9 h0 hi,hl,ha,r6 hi];by_cases h8:i=8
 .subst h8;rw[if_pos rfl];unfold tv co;rw[qa,qv (by simp),Option.getD_some,cQ];grind
 rw[if_neg h8];unfold tv;rw[o6 h8,W3];grind
theorem TG:LOk 1 tv:=by
 refine⟨by simp[tv],fun r hr=>?_⟩;unfold tv at hr;rcases List.mem_or_eq_of_mem_set hr with h1 | h1
 .rw[List.eq_of_mem_replicate h1];exact⟨Dig.nil,Dig.nil,eH _,eH _⟩
 rw[h1];exact bD (bd_int (by decide))
theorem ah5:Den Tryz.prog 230 [] [] [] (.fv (.sl (au [dP ((-1:Int):Rat)]))):=by
 have AA:=xk (-1) (by decide);change Den Tryz.prog 74 [] [.int .i64 (-1)] [] (cn ((-1:Int):Rat)).v at AA;have hN:=WI tv (TG.mono (by decide));change Den Tryz.prog 71 [] [RL tv] [] (RL (eD tv)) at hN;rw[P6] at hN;have gO:=d' ((-1:Int):Rat);have hF:flat tv=[.bool false,.fv (.sl []),.fv (.sl []),.bool false,.fv (.sl []),.fv (.sl []),.bool false,.fv (.sl []),.fv (.sl []),.bool false,.fv (.sl []),.fv (.sl []),.bool false,.fv (.sl []),.fv (.sl []),.bool false,.fv (.sl []),.fv (.sl []),.bool false,.fv (.sl []),.fv (.sl []),.bool false,.fv (.sl []),.fv (.sl []),.bool (cn ((-1:Int):Rat)).neg,.fv (.sl (u32s (cn ((-1:Int):Rat)).num)),.fv (.sl (u32s (cn ((-1:Int):Rat)).den))]:=rfl;unfold RL at hN;rw[hF] at hN;have r1:au [dP ((-1:Int):Rat)]=[cK (dP ((-1:Int):Rat))]:=rfl;rw[r1];obtain⟨c,hc⟩:=aw (cn ((-1:Int):Rat));rw[hc] at AA hN
 obtain⟨y,hy⟩:=aw (dP ((-1:Int):Rat));rw[hy] at hN gO ⊢;have gy:=ah y;have pG:=ar gO;have ug:=aG gO;unfold Raw.v at AA;refine dq Tryz.func230 5 0 ?_;refine aX ?_;refine aW AA ?_;refine a9 ?_;refine aW hN ?_;refine b9 (bZ gy gO ug) ?_;exact bg rfl
theorem TH {s:List (List Raw)} {i:Nat} (hg:GoodT s) (hi:i<s.length):CsOk (lO s i++[dC (s.getD i [])])/\aZ (lO s i++[dC (s.getD i [])])=o0 s i/\Pre (lO s i++[dC (s.getD i [])]):=by
 have hl:=th hi;obtain⟨h1,h2⟩:=hg.turn (t:=lO s i) (fun l hl=>tj hl) (ba hi) (by omega);have h9: ∀ l∈lO s i++[dC (s.getD i [])],l.length=9:=fun l hl=>(h2.ok l hl).len
 refine⟨⟨fun l hl=>(h2.ok l hl).mono (by decide),by have:=h2.len;omega,?_,h1,fun l hl _=>h2.ok l hl⟩,E9 h9 h2.nc,h2⟩;have h3:=lN (lO s i++[dC (s.getD i [])]);have h4:=hg.good.len;rw[qe,N6] at h3;omega
theorem ah6 (cs:List (List Raw)) (h:DX cs):Den Tryz.prog 198 [] [.fv (.sl (au cs))] [] (.fv (.sl (au (aV cs)))):=by
 obtain⟨R,hR⟩:=aw (aV cs);rw[hR];unfold aV aZ at hR;have D2:=adt cs h.cs;have vS:=h.good;have Xy:=ah3 _ vS.good;have Nz:=ah5;cases Z8:fN cs with
 | true=>
  rw[Z8,if_pos rfl] at D2;rw[Z8] at hR;have VF:R=[dP ((-1:Int):Rat)]:=hR.symm;subst VF;refine dq Tryz.func198 46 0 ?_;refine aX ?_;refine aW D2 ?_;refine ae @Bool.not_false ?_;refine aW Nz ?_;refine a9 ?_;exact bg rfl
 | false=>
  rw[Z8,if_neg (by simp)] at D2;rw[Z8] at hR;cases RH:eh (sysL cs []) with
  | false=>
   rw[RH] at hR Xy;have VF:R=[dP ((-1:Int):Rat)]:=hR.symm;subst VF;refine dq Tryz.func198 46 0 ?_;refine aX ?_;refine aW D2 ?_;refine ae @Bool.not_true ?_;refine aW Xy ?_;refine ae @Bool.not_false ?_;refine aW Nz ?_;refine a9 ?_;exact bg rfl
  | true=>
   rw[RH,Bool.not_false,Bool.and_true,if_pos rfl] at hR;rw[RH] at Xy;obtain⟨s0,Lo⟩:=aw (sysL cs []);rw[Lo] at D2 vS Xy hR;have mP:=xk (-1) (by decide);change Den Tryz.prog 74 [] [.int .i64 (-1)] [] (cn ((-1:Int):Rat)).v at mP;have qV: ∀ b:List Raw,LOk 1000 b->Den Tryz.prog 135 [] [RL b,(cn ((-1:Int):Rat)).v] [] (RL (dC b)):=fun b hb=>by
    have:=JW b (cn ((-1:Int):Rat)) (hb.mono (by decide)) (bD (Bd.mono (show Bd 1 ((-1:Int):Rat) from⟨by decide,by decide⟩) (by decide)));rw[cQ] at this;exact this
   obtain⟨c,hc⟩:=aw (cn ((-1:Int):Rat));rw[hc] at mP qV;unfold Raw.v at mP qV;refine dq Tryz.func198 46 0 ?_;refine aX ?_;refine aW D2 ?_;refine ae @Bool.not_true ?_;refine aW Xy ?_;refine ae @Bool.not_true ?_;refine aW mP ?_;refine a9 ?_
   repeat refine ag ?_
   refine wl (α:=Nat×List (List Raw)) (fun⟨i,s⟩=>⟨[.fv (.sl (au cs)),.any,.nilsl,.fv (.sl (au s)),.bool true,.ptr 0 0 0,.int .i64 i]++replicate 40 .any,[.box true [.bool c.neg,.fv (.sl (u32s c.num)),.fv (.sl (u32s c.den))]]⟩)
    (fun⟨i,s⟩=>s.length - i) (fun⟨i,s⟩=>i<=s.length/\GoodT s/\jw (s.length - i) i s=R) (0,s0) ?_ ?_ ?_
   .exact bN [0]
   .exact⟨eH _,vS,hR⟩
   rintro⟨i,s⟩ ⟨hi,hg,gh⟩;have VC:=hg.good.len;have nV:=hg.good.lim;obtain⟨n,cZ⟩:=aw s.length;have rl:=aA s;rw[cZ] at rl VC hi gh;refine b8 rl ?_;refine bR ?_ ?_
   .intro h1 h2;have gA:i<s.length:=by omega
    have bf:=ba (ls:=s) (i:=i) gA;have r1:=bJ s i;obtain⟨eI,ajN,_⟩:=TH hg gA;have G4:=adv _ eI;rw[ajN] at G4;have B':=Yp s (fun l hl=>(nV l hl).len) (by omega);have Z_:=adx s i gA (by omega);have Lu:=th gA;have Z':=Yp (lO s i) (fun l hl=>(nV l (tj hl)).len) (by omega);have Au:=hg.sub (tg (s:=s) (i:=i));have h8:n - i=(n - (i+1))+1:=by omega
    rw[h8] at gh;unfold jw at gh;rw[if_pos gA] at gh;obtain⟨b,hb⟩:=aw (o0 s i);rw[hb] at G4 gh;obtain⟨x,mU⟩:=aw (s.getD i []);rw[mU] at bf r1 G4;have hx:=nV x bf;have lx:=hx.len;have rA:=aG lx;have fx:=aP x;have gx:=ah x;have nU:=ar lx;have Hk:=qV x hx;have gO:=er lx;have rd:=aA (lO s i);have cJ:=dj (lO s i) (dC x);have VG:(lO s i).length=n - 1:=by omega
    rw[VG] at rd Z';have tkd:=cv (ls:=lO s i) (n:=n - 1) (by omega);obtain⟨dd,Dz⟩:=aw (lO s i);rw[Dz] at G4 Z_ Z' Au rd cJ gh VG tkd;obtain⟨y,hy⟩:=aw (dC x);rw[hy] at G4 Hk gO cJ;have gy:=ah y;have ug:=aG gO;have pG:=ar gO;have afd:(dd++[y]).length=n - 1+1:=by rw[qe,VG];rfl
    have rll:=aA (dd++[y]);rw[afd] at rll;rw[cZ] at B' Z_;have hsh: ∀ (H:List Ob) (a b:FV),shutBs H 1 [.lsl 1 0 n 27,.fv a,.fv b]=H:=fun _ _ _=>rfl
    have h0n:0+(n - 1)<=(au dd).length:=by omega
    unfold RL at Hk;refine ae h2 ?_;refine aW B' ?_;refine a9 ?_;refine iD 1 Z_ trivial ?_;simp -dsimp(disch:=omega) only[append_nil,lent,hsh,jQ,reduceAdd];refine Draw.freeze [1] (by kernel_rfl) ?_;refine a9 ?_;refine gp Z' (by simp[cC,iw,gj,fP,rd,tkd]) ?_;refine b9 (gS r1 rA fx lx rl) ?_
    repeat refine ag ?_
    refine lY Hk ?_;refine b9 (fM gy gO ug rd tkd cJ) ?_
    repeat refine ag ?_
    refine GoCall.show G4 (Plain.lit _) (by omega) rfl ?_;cases b with
    | true=>
     rw[if_pos rfl] at gh;refine a9 ?_;refine ax (i+1,s) ?_ ⟨by omega,hg,by rw[cZ];exact gh⟩;exact bN [0]
    | false=>
     rw[if_neg (by simp)] at gh;refine a9 ?_;refine ax (i,dd) ?_ ⟨by omega,Au,by rw[VG,show n - 1 - i=n - (i+1) by omega];exact gh⟩;refine Weak.fz 3 1 0 (n - 1) 27 (au dd) rfl rfl (by omega) ?_;refine eV [0] ?_ ?_
     .simp[bc,dX,cB,tkd]
     simp[ez,fL,c9,cB]
   intro h1 h2;have gA:i=n:=by omega
   have h8:n - i=0:=by omega
   rw[h8] at gh;have afe:s=R:=gh;subst afe;refine ae h2 ?_;exact bg rfl
theorem ah7 (cs:List (List Raw)) (h:DX cs) (hl:cs.length<=40):Den Tryz.prog 156 [] [.fv (.sl (au cs))] [] (.tup [.fv (.sl (au (aV cs))),.int .i64 0]):=by
 have h81:=ah6 cs h;have rl:=aA cs;have e1:decide ((cs.length:Int)>40)=false:=sB;refine dq Tryz.func156 8 0 ?_;refine b8 (aQ rl e1) ?_;refine aW h81 ?_;refine a9 ?_;exact bg rfl
def iu (Ls:List (List RR)):List (List FV):=Ls.map (fun l=>[FV.sl (a8 l)])
theorem z9 (Ls:List (List RR)):(iu Ls).length=Ls.length:=by simp[iu]
theorem vE {Ls:List (List RR)} {i:Nat} (h:i<Ls.length):(iu Ls).getD i []=[FV.sl (a8 (Ls.getD i []))]:=by simp[iu,h]
theorem qg {α:Type} {l:List α} {d:α} {i:Nat} (h:i<l.length):l.getD i d∈l:=by
 rw[qa,qb h];exact kj h
theorem yg {α:Type} {l:List α} {d:α} {i:Nat} (h:i<l.length):l.take (i+1)=l.take i++[l.getD i d]:=by
 rw[List.take_succ_eq_append_getElem h,qa,qb h];rfl
structure MD (ts:List RT):Prop where
 ok:TsOk 1000000000 ts
 pb:PB 1000000000 (ts.map tq)
 len:ts.length<=10000000000
 srt:(nfR ts).length<=bG
def iv (r:RR):Bool:=decide (40<r.1.length)
def fY (l:List RR):Bool:=decide (4000<l.length)||l.any iv
def kF (l:List RR):Bool:=l.all (fun r=>validB r.2)
def r8 (Ls:List (List RR)):Int:=if Ls.any fY=true then 9 else if Ls.all kF=true then 0 else 2
theorem W4 {ts:List RT} (h:MD ts):Den Tryz.prog 61 [] [PL ts] [] (if validB ts then .tup [PL ((nfR ts).map tn),.int .i64 0] else .tup [.fv (.sl []),.int .i64 2]):=by
 cases hv:validB ts with
 | true=>exact Tl ts h.ok h.pb h.len h.srt hv
 | false=>exact WS ts h.ok h.len hv
theorem ady (Ls:List (List RR)) (hn:Ls.length<=10) (aD: ∀ l∈Ls,l.length<=1000000) (hp: ∀ l∈Ls,∀ r∈l,MD r.2) (hc: ∀ l∈Ls,∀ r∈l,r.1.length<=1000000):
 Den Tryz.prog 105 [] [.fv (.sl (iu Ls))] [] (.int .i64 (r8 Ls)):=by
 have rl:=z9 Ls
 obtain⟨n,cZ⟩:=aw Ls.length
 rw[cZ] at rl hn
 obtain⟨R,hR⟩:=aw (r8 Ls)
 rw[hR]
 unfold r8 at hR
 refine dq Tryz.func105 55 0 ?_
 refine b8 rl ?_
 refine wl (α:=Nat) (fun i=>⟨[.fv (.sl (iu Ls)),.any,.int .i64 0,.any,.any,.any,.any,.any,.any,.any,.any,.any,.any,.fv (.sl (iu Ls)),.int .i64 n,.int .i64 i]++replicate 40 .any,[]⟩)
  (fun i=>n - i) (fun i=>i<=n/\(Ls.take i).any fY=false) 0 ?_ ?_ ?_
 .exact bN []
 .exact⟨eH _,rfl⟩
 rintro i ⟨h1,h2⟩
 refine aX ?_
 refine bR ?_ ?_
 .intro g1 g2
  have rx:=vE (Ls:=Ls) (i:=i) (by omega)
  have hm:=qg (l:=Ls) (d:=[]) (i:=i) (by omega)
  have eO:=yg (l:=Ls) (d:=[]) (i:=i) (by omega)
  obtain⟨l,hl⟩:=aw (Ls.getD i [])
  rw[hl] at rx hm eO
  have oE:=aD l hm
  have fG:=hc l hm
  have rll:=bH l
  obtain⟨m,NH⟩:=aw l.length
  rw[NH] at rll oE
  have VH:fY l=true->Ls.any fY=true:=fun h=>j7 hm h
  by_cases h4:4000<m
  .have e1:decide ((m:Int)>4000)=true:=GP
   have hb:fY l=true:=by unfold fY;rw[NH,ib h4];rfl
   rw[if_pos (VH hb)] at hR
   subst hR
   refine ae (gS g2 rx rl rll e1) ?_
   repeat refine ag ?_
   exact bg rfl
  have e1:decide ((m:Int)>4000)=false:=sB
  refine ae (gS g2 rx rl rll e1) ?_
  repeat refine ag ?_
  refine wl (α:=Nat) (fun j=>⟨[.fv (.sl (iu Ls)),.any,.int .i64 0,.any,.any,.any,.any,.any,.any,.any,.any,.any,.any,.fv (.sl (iu Ls)),.int .i64 n,.int .i64 i,.any,.any,.any,.any,.any,.any,.fv (.sl (a8 l)),.int .i64 m,.int .i64 j]++replicate 31 .any,[]⟩)
   (fun j=>m - j) (fun j=>j<=m/\(l.take j).any iv=false) 0 ?_ ?_ ?_
  .exact bN []
  .exact⟨eH _,rfl⟩
  rintro j ⟨k1,k2⟩
  refine aX ?_
  refine bR ?_ ?_
  .intro g3 g4
   have ry:=fk (l:=l) (i:=j) (by omega)
   have kR:=mA (l:=l) (i:=j) (by omega)
   have RV:=r7 (l:=l) (i:=j) (by omega)
   obtain⟨r,hr⟩:=aw (l.getD j sy)
   rw[hr] at ry kR RV
   have hrc:=fG r kR
   have rlc:=aA r.1
   unfold CQ at ry
   by_cases vU:40<r.1.length
   .have e2:decide ((r.1.length:Int)>40)=true:=GP
    have hb:fY l=true:=by
     unfold fY;rw[j7 kR (show iv r=true from ib vU),Bool.or_true]
    rw[if_pos (VH hb)] at hR
    subst hR
    refine ae (gS g4 ry rll rlc e2) ?_
    repeat refine ag ?_
    exact bg rfl
   have e2:decide ((r.1.length:Int)>40)=false:=sB
   refine ae (gS g4 ry rll rlc e2) ?_
   repeat refine ag ?_
   refine ax (j+1) ?_ ⟨by omega,by rw[RV,any_append,k2];simp[iv];omega⟩
   exact bN []
  intro g3 g4
  have hjm:j=m:=by omega
  have gN:l.take j=l:=eE (by omega)
  rw[gN] at k2
  refine ae g4 ?_
  refine ax (i+1) ?_ ⟨by omega,by
   rw[eO,any_append,h2];have:fY l=false:=by unfold fY;rw[k2,NH,mX h4];rfl
   simp[this]⟩
  exact bN []
 intro g1 g2
 have gA:i=n:=by omega
 have gN:Ls.take i=Ls:=eE (by omega)
 rw[gN] at h2
 rw[if_neg (by rw[h2];decide)] at hR
 clear hc
 refine ae (aQ g2 rl) ?_
 refine wl (α:=Nat) (fun i=>⟨[.fv (.sl (iu Ls)),.any,.int .i64 0,.any,.any,.any,.any,.any,.any,.any,.any,.any,.any]++replicate 21 .any++[.fv (.sl (iu Ls)),.int .i64 n,.int .i64 i]++replicate 19 .any,[]⟩)
  (fun i=>n - i) (fun i=>i<=n/\(Ls.take i).all kF=true) 0 ?_ ?_ ?_
 .exact bN []
 .exact⟨eH _,rfl⟩
 rintro i ⟨h1,h2⟩
 refine aX ?_
 refine bR ?_ ?_
 .intro g1 g2
  have rx:=vE (Ls:=Ls) (i:=i) (by omega)
  have hm:=qg (l:=Ls) (d:=[]) (i:=i) (by omega)
  have eO:=yg (l:=Ls) (d:=[]) (i:=i) (by omega)
  obtain⟨l,hl⟩:=aw (Ls.getD i [])
  rw[hl] at rx hm eO
  have oE:=aD l hm
  have mW:=hp l hm
  have rll:=bH l
  obtain⟨m,NH⟩:=aw l.length
  rw[NH] at rll oE
  refine ae (ej g2 rx rl rll) ?_
  repeat refine ag ?_
  refine wl (α:=Nat) (fun j=>⟨[.fv (.sl (iu Ls)),.any,.int .i64 0,.any,.any,.any,.any,.any,.any,.any,.any,.any,.any]++replicate 21 .any++[.fv (.sl (iu Ls)),.int .i64 n,.int .i64 i,.any,.any,.any,.fv (.sl (a8 l)),.int .i64 m,.int .i64 j]++replicate 13 .any,[]⟩)
   (fun j=>m - j) (fun j=>j<=m/\(l.take j).all (fun r=>validB r.2)=true) 0 ?_ ?_ ?_
  .exact bN []
  .exact⟨eH _,rfl⟩
  rintro j ⟨k1,k2⟩
  refine aX ?_
  refine bR ?_ ?_
  .intro g3 g4
   have ry:=fk (l:=l) (i:=j) (by omega)
   have kR:=mA (l:=l) (i:=j) (by omega)
   have RV:=r7 (l:=l) (i:=j) (by omega)
   obtain⟨r,hr⟩:=aw (l.getD j sy)
   rw[hr] at ry kR RV
   have Cb:=W4 (mW r kR)
   unfold CQ at ry
   cases hv:validB r.2 with
   | false=>
    have hb:Ls.all kF=false:=by
     cases ha:Ls.all kF with
     | false=>rfl
     | true=>
      have:=List.all_eq_true.1 (List.all_eq_true.1 ha l hm) r kR;rw[hv] at this;cases this
    rw[hb,if_neg (by decide)] at hR;rw[hv,if_neg (by decide)] at Cb;subst hR;have e2:((2:Int) !=0)=true:=rfl;refine ae (bZ g4 ry rll) ?_
    repeat refine ag ?_
    refine aW Cb ?_;refine ae e2 ?_;exact bg rfl
   | true=>
    rw[hv,if_pos rfl] at Cb;have e2:((0:Int) !=0)=false:=rfl;refine ae (bZ g4 ry rll) ?_
    repeat refine ag ?_
    refine aW Cb ?_;refine ae e2 ?_;refine ax (j+1) ?_ ⟨by omega,by rw[RV,qvb,k2];simp[hv]⟩;exact bN []
  intro g3 g4
  have hjm:j=m:=by omega
  have gN:l.take j=l:=eE (by omega)
  rw[gN] at k2
  refine ae g4 ?_
  refine ax (i+1) ?_ ⟨by omega,by
   rw[eO,qvb,h2];have:kF l=true:=k2;simp[this]⟩
  exact bN []
 intro g1 g2
 have gA:i=n:=by omega
 have gN:Ls.take i=Ls:=eE (by omega)
 rw[gN] at h2
 rw[if_pos h2] at hR
 subst hR
 refine ae g2 ?_
 exact bg rfl
end Go.Proofs.YtjjbkjgifdhlcaaGreat
namespace Go.Pl
open Go.AM
def j8 (s:List RC) (i j:Nat):List RC:=(s.take j).drop i
def polyS' (l:List RC):List Tm:=nf (l.flatMap (·.2))
structure MgI (s M:List RC) (i:Nat):Prop where
 nf:NF M
 lt: ∀ x∈M,∀ y∈s.drop i,cL x.1 y.1<0
 sum: ∀ k m,CnK k->cY k m M=cY k m (s.take i)
theorem MgI.start (s:List RC):MgI s [] 0:=⟨.nil,by simp,fun k m _=>by rw[List.take_zero]⟩
theorem yh {s:List RC} {i j:Nat} (qX:i<=j):(j8 s i j++(s.take i++s.drop j)).Perm s:=by
 have h1:s=s.take i++j8 s i j++s.drop j:=by
  unfold j8;have h2:s.take i=(s.take j).take i:=by rw[List.take_take,Nat.min_eq_left qX]
  rw[h2,List.take_append_drop,List.take_append_drop]
 conv=>rhs;rw[h1]
 rw[<-append_assoc];exact List.Perm.append_right _ List.perm_append_comm
theorem Fi {s:List RC} {i j:Nat} {x:RC} (qX:i<=j) (hj:s[j]?=some x):j8 s i (j+1)=j8 s i j++[x]:=by
 unfold j8;have hl:j<s.length:=(List.getElem?_eq_some_iff.1 hj).1;have hx:s[j]=x:=(List.getElem?_eq_some_iff.1 hj).2;rw[List.take_succ_eq_append_getElem hl,List.drop_append_of_le_length (by rw[length_take];omega),hx]
theorem CR {s:List RC} {i:Nat} {x:RC} (hi:s[i]?=some x):j8 s i (i+1)=[x]:=by
 rw[Fi (qp _) hi];unfold j8;rw[List.drop_of_length_le (by rw[length_take];omega)];rfl
theorem Kz {s:List RC} {i j:Nat} {x:RC} (h:x∈j8 s i j):x∈s:=Cg (VX h)
theorem RcOk.flat {l:List RC} (h:RcOk l):Len8 (l.flatMap (·.2)):=fun t ht=>by
 obtain⟨r,hr,h2⟩:=List.mem_flatMap.1 ht;exact(h r hr).2.len t h2
theorem ME {l:List RC} {x:RC} (hl:RcOk l) (hx:Canon x.2):nf (polyS' l++x.2)=polyS' (l++[x]):=by
 unfold polyS';rw[qyb,List.flatMap_singleton];exact Eqv.nf_eq ((Eqv.nf _).app (Eqv.refl _)) (Len8.app (Len8.nf hl.flat) hx.len) (Len8.app hl.flat hx.len)
theorem tw {x:RC} (hx:Canon x.2):polyS' [x]=x.2:=by
 unfold polyS';rw[List.flatMap_singleton,e7 hx]
theorem Fj {k:Kc} {m:Mn}: ∀ {l:List RC},(∀ x∈l,x.1=k)->cY k m l=bM m (l.flatMap (·.2))
 | [],_=>rfl
 | x::l,h=>by
  rw[cY,if_pos (h x (by simp)),Fj (fun y hy=>h y (ql _ hy)),List.flatMap_cons,gW]
theorem Ie {k k2:Kc} {m:Mn} {l:List RC} (h: ∀ x∈l,x.1=k) (hk:k≠k2):cY k2 m l=0:=qc (fun x hx he=>hk ((h x hx).symm.trans he))
theorem MgI.step {s M:List RC} {i j:Nat} {k:Kc} (hs:s.Pairwise (fun a b=>cL a.1 b.1<=0)) (bE:RcOk s) (h:MgI s M i) (qX:i<j) (hj:j<=s.length)
 (hk: ∀ x∈j8 s i j,x.1=k) (zt: ∀ y,s[j]?=some y->cL y.1 k≠0):
 MgI s (if polyS' (j8 s i j)=[] then M else M++[(k,polyS' (j8 s i j))]) j:=by
 have dU:i<s.length:=by omega
 have Vo:s[i]?=some s[i]:=qb dU
 have aff:s[i]∈j8 s i j:=by
  unfold j8;have:s[i]=(s.take j)[i]'(by rw[length_take];omega):=by rw[List.getElem_take]
  rw[this];have h2:i<(s.take j).length:=by rw[length_take];omega
  rw[drop_eq_getElem_cons h2];simp
 have Jn:s[i].1=k:=hk _ aff
 have afg:CnK k:=by rw[<-Jn];exact(bE _ (kj dU)).1
 have I':s[i]∈s.drop i:=by rw[drop_eq_getElem_cons dU];exact List.mem_cons_self
 have hdj: ∀ y∈s.drop j,y∈s.drop i:=fun y hy=>by
  have:s.drop j=(s.drop i).drop (j - i):=by rw[List.drop_drop];congr 1;omega
  rw[this] at hy;exact VX hy
 have afh: ∀ y∈s.drop j,cL k y.1<0:=fun y hy=>by
  have lC:j<s.length:=by
   have:=length_pos_of_mem hy;rw[length_drop] at this;omega
  have cM:=zt s[j] (qb lC);have dR:cL s[i].1 s[j].1<=0:=List.pairwise_iff_getElem.1 hs i j dU lC qX;rw[Jn] at dR;have Ji:=f_ s[j].1 k;have hcj:=(bE s[j] (kj lC)).1;rw[drop_eq_getElem_cons lC] at hy;rcases List.mem_cons.1 hy with h1 | h1
  .rw[h1];omega
  obtain⟨q,hq,rfl⟩:=List.mem_iff_getElem.1 h1;rw[List.getElem_drop] at*;rw[length_drop] at hq;have h2:=List.pairwise_iff_getElem.1 hs j (j+1+q) lC (by omega) (by omega);exact x9 afg hcj (bE _ (kj _)).1 (by omega) h2
 have Jp:RcOk (j8 s i j):=fun x hx=>bE x (Kz hx)
 have gh:Canon (polyS' (j8 s i j)):=cV Jp.flat
 have gN:s.take j=s.take i++j8 s i j:=by
  unfold j8;have h2:s.take i=(s.take j).take i:=by rw[List.take_take,Nat.min_eq_left (by omega)]
  rw[h2,List.take_append_drop]
 have jL: ∀ k2 m,cY k2 m (j8 s i j)=if k=k2 then bM m (polyS' (j8 s i j)) else 0:=fun k2 m=>by
  by_cases hc:k=k2
  .rw[if_pos hc,<-hc,Fj hk];unfold polyS';rw[rM]
  rw[if_neg hc,Ie hk hc]
 by_cases hp:polyS' (j8 s i j)=[]
 .rw[if_pos hp]
  refine⟨h.nf,fun x hx y hy=>h.lt x hx y (hdj y hy),fun k2 m iJ=>?_⟩
  rw[gN,k7,h.sum k2 m iJ,jL,hp]
  simp[bM];grind
 rw[if_neg hp]
 refine⟨⟨?_,fun x hx=>?_,fun x hx=>?_,fun x hx=>?_⟩,fun x hx y hy=>?_,fun k2 m iJ=>?_⟩
 .rw[List.pairwise_append]
  refine⟨h.nf.sorted,List.pairwise_singleton _ _,fun x hx y hy=>?_⟩
  rw[qz] at hy
  subst hy
  have:=h.lt x hx _ I'
  rw[Jn] at this
  exact this
 .rcases List.mem_append.1 hx with h1 | h1
  .exact h.nf.cn x h1
  rw[qz] at h1;subst h1;exact afg
 .rcases List.mem_append.1 hx with h1 | h1
  .exact h.nf.can x h1
  rw[qz] at h1;subst h1;exact gh
 .rcases List.mem_append.1 hx with h1 | h1
  .exact h.nf.ne x h1
  rw[qz] at h1;subst h1;exact hp
 .rcases List.mem_append.1 hx with h1 | h1
  .exact h.lt x h1 y (hdj y hy)
  rw[qz] at h1;subst h1;exact afh y hy
 rw[k7,h.sum k2 m iJ,gN,k7,jL,cY,cY];grind
theorem MgI.done {s M l:List RC} (h:MgI s M s.length) (hp:s.Perm l) (hl:RcOk l):M=o5 l:=
 h.nf.of hl (fun k m hk=>by rw[h.sum k m hk,List.take_length,Mv hp])
end Go.Pl
namespace Go.Proofs.YtjjbkjgifdhlcaaGreat
open Go.AM Go.Pl
set_option maxRecDepth 100000
set_option maxHeartbeats 4000000
theorem TI {cs:List (List Raw)} (h:DX cs):(∀ l∈aV cs,IsCn l/\LOk 1000 l)/\(aV cs).length<=40:=by
 unfold aV;split
 .have hg:=i5 h.good;exact⟨fun l hl=>⟨hg.good.cnf l hl,hg.good.lim l hl⟩,by have:=hg.good.len;exact gD (show(jw (sysL cs []).length 0 (sysL cs [])).length<=12 from this) (by decide)⟩
 refine⟨fun l hl=>?_,by decide⟩;rw[qz] at hl;subst hl;exact⟨⟨(replicate 9 (0:Rat)).set 8 ((-1:Int):Rat),by simp[dP],by simp⟩,uU.mono (by decide)⟩
noncomputable def mD (r:RR):Bool:=aZ r.1&&!(nfR r.2).isEmpty
noncomputable def normL (L:List RR):List RC:=(L.filter mD).map (fun r=>(aV r.1,nfR r.2))
theorem Ig {L:List RR} {r:RR}:normL (L++[r])=normL L++(if mD r then [(aV r.1,nfR r.2)] else []):=by
 unfold normL;rw[filter_append,v8];congr 1;cases h:mD r<;>simp[h]
structure MF (L:List RR):Prop where
 pg: ∀ r∈L,MD r.2
 val: ∀ r∈L,validB r.2=true
 cs: ∀ r∈L,r.1.length<=40->DX r.1
 len:L.length<=1000000
 lim: ∀ r∈L,r.1.length<=1000000
 few:(normL L).length<20
 mer: ∀ t u:List RC,(t++u).Perm (normL L)->POk 10000000 1024 (polyS' t)/\(polyS' t).length<=bG
theorem P7 {L:List RR} (h:MF L) (hl:L.any iv=false):(∀ r∈normL L,CnK r.1/\AOk 1000 r.1/\r.1.length<=40)/\RcOk (normL L):=by
 have h1: ∀ r∈normL L,(CnK r.1/\AOk 1000 r.1/\r.1.length<=40)/\Canon r.2:=fun r hr=>by
  unfold normL at hr;obtain⟨x,hx,rfl⟩:=mem_map.1 hr;have qT:=(List.mem_filter.1 hx).1;have dR:x.1.length<=40:=by
   cases hc:iv x with
   | false=>simpa [iv] using hc
   | true=>rw[j7 qT hc] at hl;cases hl
  obtain⟨c1,c2⟩:=TI (h.cs x qT dR);exact⟨⟨fun f hf=>(c1 f hf).1,fun f hf=>(c1 f hf).2,c2⟩,cV (tc (h.pg x qT).ok.l8)⟩
 exact⟨fun r hr=>(h1 r hr).1,fun r hr=>⟨(h1 r hr).1.1,(h1 r hr).2⟩⟩
theorem Fk {a:List RR} {b:List RC} (h:a.Perm (b.map rn)): ∃ s:List RC,a=s.map rn/\s.Perm b:=by
 have h2:(a.map (fun r=>((r.1,r.2.map tq):RC))).Perm b:=by
  have:=h.map (fun r=>((r.1,r.2.map tq):RC));rw[List.map_map] at this;have e:((fun r=>((r.1,r.2.map tq):RC)) ∘ rn)=id:=by
   funext x;show(x.1,(x.2.map tn).map tq)=x;rw[bC]
  rw[e,List.map_id] at this;exact this
 refine⟨_,?_,h2⟩;rw[List.map_map]
 conv=>lhs;rw[<-List.map_id a]
 refine List.map_congr_left (fun x hx=>?_);obtain⟨y,_,rfl⟩:=mem_map.1 (h.mem_iff.1 hx);show rn y=(y.1,((y.2.map tn).map tq).map tn);rw[bC];rfl
noncomputable def TJ (L:List RR):PV:=if L.any iv=true then .tup [.fv (.sl []),.int .i64 9] else .tup [RL' ((o5 (normL L)).map rn),.int .i64 0]
theorem adz (L:List RR) (h:MF L):Den Tryz.prog 107 [] [RL' L] [] (TJ L):=by
 have rl:=bH L;have aD:=h.len;obtain⟨n,cZ⟩:=aw L.length;rw[cZ] at rl aD;obtain⟨R,hR⟩:=aw (TJ L);rw[hR];unfold TJ at hR;refine dq Tryz.func107 121 0 ?_;refine b8 rl ?_;refine wl (α:=Nat×List RC) (fun⟨i,out⟩=>⟨[RL' L,.any,.nilsl,.int .i64 0,.lsl 0 0 out.length 2,.any,.any,.any,.any,.any,.any,.any,.any,.any,.any,RL' L,.int .i64 n,.int .i64 i]++replicate 104 .any,[.row true (a8 (out.map rn))]⟩)
  (fun⟨i,_⟩=>n - i) (fun⟨i,out⟩=>i<=n/\out=normL (L.take i)/\(L.take i).any iv=false) (0,[]) ?_ ?_ ?_
 .refine Weak.nil 4 2 (by decide) rfl ?_;refine eV [0] ?_ ?_
  .simp[bc,dX,cB]
  simp[ez,fL];simp[a8]
 .exact⟨eH _,rfl,rfl⟩
 rintro⟨i,out⟩ ⟨h1,h2,h3⟩;have zP:out.length<=i:=by
  rw[h2];unfold normL;rw[length_map];exact gD (List.length_filter_le _ _) (by rw[length_take];omega)
 obtain⟨M,hM⟩:=aw out.length;have rlo:=bH (out.map rn);rw[length_map,hM] at rlo;dsimp only;rw[hM] at zP ⊢;refine aX ?_;refine bR ?_ ?_
 .intro g1 g2;have ry:=fk (l:=L) (i:=i) (by omega);have hm:=mA (l:=L) (i:=i) (by omega);have eO:=r7 (l:=L) (i:=i) (by omega);obtain⟨r,hr⟩:=aw (L.getD i sy);rw[hr] at ry hm eO;have nV:=h.lim r hm;have rlc:=aA r.1;have Cb:=W4 (h.pg r hm);rw[h.val r hm,if_pos rfl] at Cb;unfold CQ at ry;by_cases vU:40<r.1.length
  .have e2:decide ((r.1.length:Int)>40)=true:=GP;rw[if_pos (j7 hm (show iv r=true from ib vU))] at hR;subst hR;refine ae (gS g2 ry rl rlc e2) ?_
   repeat refine ag ?_
   exact bg rfl
  have e2:decide ((r.1.length:Int)>40)=false:=sB;have e3:((0:Int) !=0)=false:=rfl;have eI:=h.cs r hm (by omega);have h20:=ah4 r.1 eI.cs (by omega);have ud:=ah7 r.1 eI (by omega);have wZ:=Ig (L:=L.take i) (r:=r);have hlr:iv r=false:=mX vU;have rlp:=av ((nfR r.2).map tn);rw[length_map] at rlp;have hkb:mD r=(aZ r.1&&!(nfR r.2).isEmpty):=rfl;have d4:=(h.pg r hm).srt;have ND:=kD;obtain⟨b,hb⟩:=aw (aZ r.1);obtain⟨q,hq⟩:=aw (nfR r.2);obtain⟨c,hc⟩:=aw (aV r.1);rw[hb] at h20 hkb;rw[hq] at Cb hkb wZ rlp d4;rw[hc] at ud wZ;refine ae (gS g2 ry rl rlc e2) ?_
  repeat refine ag ?_
  refine aW Cb ?_;refine ae e3 ?_;refine aW h20 ?_;by_cases jD:b=false
  .subst jD;rw[show mD r=false from hkb,if_neg (by decide),append_nil] at wZ;refine ae (aQ e3 @Bool.not_false) ?_;refine ax (i+1,out) ?_ ⟨by omega,by rw[eO,wZ,h2],by rw[eO,any_append,h3];simp[hlr]⟩;exact bN [0]
  have iJ:b=true:=by simpa using jD
  subst iJ;by_cases Nx:q=[]
  .have e4:((q.length:Int)==0)=true:=by rw[Nx];rfl
   rw[show mD r=false by rw[hkb,Nx];rfl,if_neg (by decide),append_nil] at wZ;refine ae (ej e3 @Bool.not_true rlp e4) ?_;refine ax (i+1,out) ?_ ⟨by omega,by rw[eO,wZ,h2],by rw[eO,any_append,h3];simp[hlr]⟩;exact bN [0]
  have e4:((q.length:Int)==0)=false:=by
   have:=length_pos_iff.2 Nx;rw[qx];omega
  have l7:q.isEmpty=false:=by simpa using Nx
  rw[show mD r=true by rw[hkb,l7];rfl,if_pos rfl] at wZ;have cJ:a8 (out.map rn)++[[FV.sl (au c),FV.sl (aq (q.map tn))]]=a8 ((out++[(c,q)]).map rn):=by
   rw[v8];exact i6 _ (rn (c,q))
  have tk:=dQ (l:=out.map rn) (n:=M) (by rw[length_map];omega);refine ae (ej e3 @Bool.not_true rlp e4) ?_;refine aW ud ?_;refine ae (ej e3 tk cJ rlo) ?_
  repeat refine ag ?_
  refine ax (i+1,out++[(c,q)]) ?_ ⟨by omega,by rw[eO,wZ,h2],by rw[eO,any_append,h3];simp[hlr]⟩;exact bN [3]
 intro g1 g2;have gA:i=n:=by omega
 have gN:L.take i=L:=eE (by omega);rw[gN] at h2 h3;rw[if_neg (by rw[h3];decide)] at hR;obtain⟨NJ,NK⟩:=P7 h h3;have VI:=h.few;have aaa:=h.mer;rw[<-h2] at hR NJ NK VI aaa;rw[hM] at VI;obtain⟨ls',eX,hpw,afj⟩:=adq (out.map rn) (fun r hr=>by
  obtain⟨x,hx,rfl⟩:=mem_map.1 hr;have:=(NJ x hx).2.2;exact⟨(NJ x hx).1,fun l hl=>((NJ x hx).2.1 l hl).mono (by decide),show x.1.length<=1000 by omega⟩) (by rw[length_map];omega)
 obtain⟨s,rfl,l_⟩:=Fk eX;rw[length_map,hM] at afj;have ss:s.length=M:=by rw[l_.length_eq,hM]
 have RX:RcOk s:=fun r hr=>NK r (l_.mem_iff.1 hr)
 have jd: ∀ r∈s,AOk 1000 r.1/\r.1.length<=40:=fun r hr=>(NJ r (l_.mem_iff.1 hr)).2
 have Ji:s.Pairwise (fun a b=>cL a.1 b.1<=0):=by
  rw[List.pairwise_map] at hpw;refine hpw.imp (fun{a b} rv=>?_);have e:=f_ a.1 b.1;have: ¬(cL b.1 a.1<0):=rv;omega
 have RY: ∀ t u:List RC,(t++u).Perm s->POk 10000000 1024 (polyS' t)/\(polyS' t).length<=bG:=fun t u hp=>aaa t u (hp.trans l_)
 have ND:=kD;have rls:=bH (s.map rn);rw[length_map,ss] at rls;have tks:=dQ (l:=s.map rn) (n:=M) (by rw[length_map];omega);have NL:((0:Int) !=0)=false:=rfl;clear aaa NJ;refine ae g2 ?_;refine iD 0 afj trivial ?_;simp -dsimp(disch:=omega) only[append_nil,sl2,List.set_cons_zero,jQ];refine wl (α:=Nat×List RC) (fun⟨i,Mg⟩=>⟨[.any,.any,.nilsl,.int .i64 0,.fv (.sl (a8 (s.map rn))),.any,.any,.any,.any,.any,.any,.lsl 0 0 Mg.length 2,.int .i64 i]++replicate 109 .any,[.row true (a8 (Mg.map rn))]⟩)
  (fun⟨i,_⟩=>M - i) (fun⟨i,Mg⟩=>i<=M/\MgI s Mg i/\Mg.length<=i) (0,[]) ?_ ?_ ?_
 .refine Weak.shut [0] ?_;change Weak _ ⟨_,[Ob.row false (a8 (s.map rn))]⟩ _;refine Weak.fz 4 0 0 M 2 (a8 (s.map rn)) rfl rfl (by omega) ?_;refine Weak.nil 11 2 (by decide) rfl ?_;refine eV [1] ?_ ?_
  .simp[bc,dX,cB,tks]
  simp[ez,fL];simp[a8]
 .exact⟨eH _,MgI.start s,qp _⟩
 rintro⟨i,Mg⟩ ⟨h1,hI,wY⟩;obtain⟨K,hK⟩:=aw Mg.length;have rlm:=bH (Mg.map rn);rw[length_map,hK] at rlm;dsimp only at wY ⊢;rw[hK] at wY ⊢;refine b8 rls ?_;refine bR ?_ ?_
 .intro g1 g2;obtain⟨⟨k,p0⟩,hx⟩: ∃ x,s[i]?=some x:=⟨_,qb (by omega)⟩;have SJ:(k,p0)∈s:=List.mem_of_getElem? hx;have ry:=fk (l:=s.map rn) (i:=i) (by rw[length_map];omega);rw[show(s.map rn).getD i sy=rn (k,p0) by rw[qa,List.getElem?_map,hx];rfl] at ry;change _=[FV.sl (au k),FV.sl (aq (p0.map tn))] at ry;have hkc:=RX _ SJ;have Jn:=jd _ SJ;dsimp only at hkc Jn;refine ae (bZ g2 ry rls) ?_
  repeat refine ag ?_
  refine wl (α:=Nat×List Tm) (fun⟨j,p⟩=>⟨[.any,.any,.nilsl,.int .i64 0,.fv (.sl (a8 (s.map rn))),.any,.any,.any,.any,.any,.any,.lsl 0 0 K 2,.int .i64 j,.ptr 1 0 0]++replicate 108 .any,[.row true (a8 (Mg.map rn)),.box true [.fv (.sl (au k)),.fv (.sl (aq (p.map tn)))]]⟩)
   (fun⟨j,_⟩=>M - j) (fun⟨j,p⟩=>i<j/\j<=M/\(∀ x∈j8 s i j,x.1=k)/\p=polyS' (j8 s i j)) (i+1,p0) ?_ ?_ ?_
  .exact bN [0,1]
  .exact⟨by omega,by omega,fun x qT=>by rw[CR hx,qz] at qT;rw[qT],by rw[CR hx,tw hkc.2]⟩
  rintro⟨j,p⟩ ⟨qX,hjM,aab,hp⟩;have rlp:=av (p.map tn);rw[length_map] at rlp;refine aX ?_;refine dw (by kernel_rfl) ?_;refine ae rls ?_;refine bR ?_ ?_
  .intro g3 g4;obtain⟨⟨k2,p2⟩,hy⟩: ∃ x,s[j]?=some x:=⟨_,qb (by omega)⟩;have hym:(k2,p2)∈s:=List.mem_of_getElem? hy;have rz:=fk (l:=s.map rn) (i:=j) (by rw[length_map];omega);rw[show(s.map rn).getD j sy=rn (k2,p2) by rw[qa,List.getElem?_map,hy];rfl] at rz;change _=[FV.sl (au k2),FV.sl (aq (p2.map tn))] at rz;have VJ:=RX _ hym;have afk:=jd _ hym;dsimp only at VJ afk;have afl:=WZ k2 k (fun l hl=>(afk.1 l hl).mono (by decide)) (fun l hl=>(Jn.1 l hl).mono (by decide)) (by omega) (by omega);obtain⟨c,hc⟩:=aw (cL k2 k);rw[hc] at afl;simp -dsimp(disch:=omega) only[g4,rz,rls,↓reduceIte,reduceAdd,Nat.reduceLT,Nat.reduceLeDiff,ru]
   repeat refine ag ?_
   refine aW afl ?_;by_cases NB:c=0
   .have e4:(c==0)=true:=by rw[NB];rfl
    have ajP:k2=k:=k6 VJ.1 hkc.1 (by omega);have eO:=Fi (s:=s) (i:=i) (j:=j) (by omega) hy;have Jp:RcOk (j8 s i j):=fun x hx=>RX x (Kz hx)
    have pJ:=ME Jp (x:=(k2,p2)) VJ.2;rw[<-eO,<-hp] at pJ;dsimp only at pJ;have m1:=RY _ _ (yh (s:=s) (i:=i) (j:=j) (by omega));have m2:=RY _ _ (yh (s:=s) (i:=i) (j:=j+1) (by omega));have m3:=RY [(k2,p2)] _ (show([(k2,p2)]++_).Perm s from by
     have:=yh (s:=s) (i:=j) (j:=j+1) (by omega);rw[CR hy] at this;exact this)
    rw[tw VJ.2] at m3;rw[<-hp] at m1;rw[<-pJ] at m2;have h97:=adj p p2 m1.1 m3.1 m1.2 m3.2 m2.2;obtain⟨p3,hp3⟩:=aw (nf (p++p2));rw[hp3] at h97 pJ;refine ae e4 ?_;refine dw (by kernel_rfl) ?_;simp -dsimp(disch:=omega) only[rz,rls,↓reduceIte,reduceAdd,Nat.reduceLT,Nat.reduceLeDiff,ru]
    repeat refine ag ?_
    refine aW h97 ?_;refine ae NL ?_;refine ax (j+1,p3) ?_ ⟨by omega,by omega,fun x qT=>by
     rw[eO] at qT;rcases List.mem_append.1 qT with h9 | h9
     .exact aab x h9
     rw[qz] at h9;rw[h9];exact ajP,pJ⟩
    exact bN [0,1]
   have e4:(c==0)=false:=by rw[qx];exact NB
   have zt: ∀ y,s[j]?=some y->cL y.1 k≠0:=fun y vi=>by
    rw[hy] at vi;cases vi;dsimp only;omega
   refine ae e4 ?_;have RZ:=hI.step Ji RX qX (by omega) aab zt;rw[<-hp] at RZ;by_cases D0:p=[]
   .have e5:decide ((p.length:Int)>0)=false:=by rw[D0];rfl
    rw[if_pos D0] at RZ;refine ae (aQ rlp e5) ?_;refine ax (j,Mg) ?_ ⟨by omega,RZ,by show Mg.length<=j;omega⟩;exact bN [0]
   have mW:0<p.length:=length_pos_iff.2 D0;have e5:decide ((p.length:Int)>0)=true:=GP;rw[if_neg D0] at RZ;have cJ:a8 (Mg.map rn)++[[FV.sl (au k),FV.sl (aq (p.map tn))]]=a8 ((Mg++[(k,p)]).map rn):=by
    rw[v8];exact i6 _ (rn (k,p))
   have tk:=dQ (l:=Mg.map rn) (n:=K) (by rw[length_map];omega);refine ae (gS rlp e5 tk cJ rlm) ?_
   repeat refine ag ?_
   refine ax (j,Mg++[(k,p)]) ?_ ⟨by omega,RZ,by rw[qe,N6];omega⟩;exact bN [3]
  intro g3 g4;have zt: ∀ y,s[j]?=some y->cL y.1 k≠0:=fun y vi=>by
   rw[List.getElem?_eq_none (by omega)] at vi;cases vi
  have RZ:=hI.step Ji RX qX (by omega) aab zt;rw[<-hp] at RZ;by_cases D0:p=[]
  .have e5:decide ((p.length:Int)>0)=false:=by rw[D0];rfl
   rw[if_pos D0] at RZ;refine ae (bZ g4 rlp e5) ?_;refine ax (j,Mg) ?_ ⟨by omega,RZ,by show Mg.length<=j;omega⟩;exact bN [0]
  have mW:0<p.length:=length_pos_iff.2 D0;have e5:decide ((p.length:Int)>0)=true:=GP;rw[if_neg D0] at RZ;have cJ:a8 (Mg.map rn)++[[FV.sl (au k),FV.sl (aq (p.map tn))]]=a8 ((Mg++[(k,p)]).map rn):=by
   rw[v8];exact i6 _ (rn (k,p))
  have tk:=dQ (l:=Mg.map rn) (n:=K) (by rw[length_map];omega);refine ae (fM g4 rlp e5 tk cJ rlm) ?_
  repeat refine ag ?_
  refine ax (j,Mg++[(k,p)]) ?_ ⟨by omega,RZ,by rw[qe,N6];omega⟩;exact bN [3]
 intro g1 g2;have gA:i=s.length:=by omega
 rw[gA] at hI;have iK:=hI.done l_ NK;rw[<-iK] at hR;subst hR;have e6:decide ((K:Int)>4000)=false:=sB;have tk:=dQ (l:=Mg.map rn) (n:=K) (by rw[length_map];omega);refine ae (aQ g2 e6) ?_;refine Sp (vs:=[.lsl 0 0 K 2,.int .i64 0]) rfl ⟨cS,cS,cS⟩ (show tN [Ob.row true (a8 (Mg.map rn))] [] (.tup [.lsl 0 0 K 2,.int .i64 0])=_ from ?_);exact lX (aQ tk rlm)
theorem TK {L:List RR} (h:r8 [L]=0):L.any iv=false/\L.length<=4000/\ ∀ r∈L,validB r.2=true:=by
 unfold r8 at h;have h1:fY L=false:=by
  cases hb:fY L with
  | false=>rfl
  | true=>rw[if_pos (by simp[hb])] at h;omega
 rw[if_neg (by simp[h1])] at h;have h2:kF L=true:=by
  cases hv:kF L with
  | true=>rfl
  | false=>rw[if_neg (by simp[hv])] at h;omega
 unfold fY at h1;rw[Bool.or_eq_false_iff] at h1;exact⟨h1.2,by simpa using h1.1,fun r hr=>List.all_eq_true.1 h2 r hr⟩
noncomputable def TL (L:List RR):PV:=if r8 [L]=0 then .tup [RL' ((o5 (normL L)).map rn),.int .i64 0] else .tup [.fv (.sl []),.int .i64 (r8 [L])]
theorem adA (L:List RR) (aD:L.length<=1000000) (hp: ∀ r∈L,MD r.2) (hc: ∀ r∈L,r.1.length<=1000000) (h:r8 [L]=0->MF L):
 Den Tryz.prog 90 [] [RL' L] [] (TL L):=by
 have R2:=ady [L] (by simp) (fun l hl=>by rw[qz] at hl;rw[hl];exact aD) (fun l hl=>by rw[qz] at hl;rw[hl];exact hp) (fun l hl=>by rw[qz] at hl;rw[hl];exact hc)
 unfold TL
 have e:iu [L]=[[FV.sl (a8 L)]]:=rfl
 rw[e] at R2
 by_cases h0:r8 [L]=0
 .have aac:=adz L (h h0)
  unfold TJ at aac
  rw[if_neg (by rw[(TK h0).1];decide)] at aac
  rw[if_pos h0]
  rw[h0] at R2
  have e1:((0:Int) !=0)=false:=rfl
  refine dq Tryz.func90 14 0 ?_
  refine aX ?_
  refine aW R2 ?_
  refine ae e1 ?_
  refine aW aac ?_
  refine a9 ?_
  exact bg rfl
 rw[if_neg h0]
 obtain⟨c,pE⟩:=aw (r8 [L])
 rw[pE] at R2 h0 ⊢
 have e1:(c !=0)=true:=by simpa using h0
 refine dq Tryz.func90 14 0 ?_
 refine aX ?_
 refine aW R2 ?_
 refine ae e1 ?_
 exact bg rfl
def minL (a b:List Raw):List Rat:=m6 a ((b.map (fun r=>r.q*(-1))).map cn)
theorem adB (a b:List Raw) (ha:LOk 1000000 a) (hb:LOk 1000000 b):Den Tryz.prog 146 [] [RL a,RL b] [] (FL (minL a b)):=by
 have AA:=xk (-1) (by omega);change Den Tryz.prog 74 [] [.int .i64 (-1)] [] (.agg (cn (-1)).c) at AA;have hc:Raw.Ok 1 (cn (-1)):=bD CJ;have Jg:=JW b (cn (-1)) (hb.mono (by decide)) (hc.mono (by decide));rw[cQ] at Jg;have hs:LOk 1000001 ((b.map (fun r=>r.q*(-1))).map cn):=LOk.map hb.len (fun r hr=>by
  have:=hb.bd (by decide) r hr;exact Bd.mul (j:=1000000) (k:=1) this CJ (by decide))
 have h21:=WN a ((b.map (fun r=>r.q*(-1))).map cn) (ha.mono (by decide)) (hs.mono (by decide));have hrl:(minL a b).length=9:=fT ha.len hs.len;change Den Tryz.prog 162 [] _ [] (FL (minL a b)) at h21;have gO:((minL a b).map cn).length=9:=by rw[length_map];exact hrl
 unfold FL at h21 Jg ⊢;obtain⟨R,hR⟩:=aw ((minL a b).map cn);rw[hR] at h21 gO ⊢;obtain⟨S,hS⟩:=Hs ((b.map (fun r=>r.q*(-1))).map cn);rw[hS] at h21 Jg hs;obtain⟨c,pE⟩:=aw (cn (-1));rw[pE] at AA Jg;have al:=ha.len;have bl:=hb.len;have sl:=hs.len;have a27:=ar al;have b27:=ar bl;have s27:=ar sl;have r27:=ar gO;have ga:=ah a;have gb:=ah b;have gs:=ah S;have gr:=ah R;change Den Tryz.prog 135 [] [RL b,.agg c.c] [] _ at Jg;unfold RL at Jg h21 ⊢;refine dq Tryz.func146 8 0 ?_;refine b8 (ej ga gb al bl) ?_
 repeat refine ag ?_
 refine dw (by kernel_rfl) ?_;refine ae (fM ga gb al bl a27 b27) ?_
 repeat refine ag ?_
 refine aW AA ?_;refine ae (aQ @dM @append_nil.{0}) ?_;refine gp Jg (by simp[cC,iw,ED,L4,jU,jo]) ?_;refine b9 @gq ?_
 repeat refine ag ?_
 refine lY h21 ?_;refine b9 (aQ gr gO) ?_
 repeat refine ag ?_
 exact RetOK.form rfl rfl gO
theorem qq {rs:List Raw} {t:Tm} (h:t∈dZ rs):t.1.length=8/\ ∀ e∈t.1,0<=e/\e<=1024:=by
 obtain⟨u,hu,he⟩:=jV h;obtain⟨w,hw,rfl⟩:=mem_map.1 hu;rw[<-he];show w.1.length=8/\ ∀ e∈w.1,0<=e/\e<=1024;have hv:=vA rs;unfold validB at hv;rw[v7] at hv;have h1:=hv w hw;unfold iq at h1;rw[v7] at h1;refine⟨?_,fun e Hn=>by simpa using h1 e Hn⟩;unfold gv at hw;rcases List.mem_append.1 hw with hw | hw
 .obtain⟨j,_,rfl⟩:=mem_map.1 hw;simp[z8]
 rw[qz] at hw;rw[hw];rfl
theorem tx {rs:List Raw} {k:Nat} (h:LOk k rs) (hk:1<=k):PB (9*(k+1)+1) (dZ rs):=by
 have:=(PB.list hk (ts:=(gv rs).map tq) (fun t ht=>by
  obtain⟨u,hu,rfl⟩:=mem_map.1 ht;exact(xN h u hu).raw.bd hk)).nf
 rw[length_map,fj] at this;exact this
theorem BG (rs:List Raw):(dZ rs).length<=9:=by
 have:=CA ((gv rs).map tq);rw[length_map,fj] at this;exact this
def betT (v:Nat) (lo hi:List Raw) (p:List Tm):List Tm:=nf (fe v (dZ hi) (aU v p)++cW (fe v (dZ lo) (aU v p)) (-1))
theorem ah8 (ts:List RT) (v:Nat) (hv:v<8) (lo hi:List Raw) (h8:TsOk 500000 ts) (hn:ts.length<=20) (hp:POk 900000 1024 (nfR ts)) (hs:(nfR ts).length<=bG) (hvB:validB ts=true) (hlB:v_ v (nfR ts)=true)
 (fF:LOk 1000 lo) (fE:LOk 1000 hi) (Lm:(lo.getD v rz).q=0) (hh0:(hi.getD v rz).q=0)
 (ok1:Kn (dZ hi) (eB v (aU v (nfR ts)))) (VK:Kn (dZ lo) (eB v (aU v (nfR ts)))) (hr:(betT v lo hi (nfR ts)).length<=bG) (ht:xU (betT v lo hi (nfR ts))<=1024) (hb:LOkT 1000000000 1000000 (betT v lo hi (nfR ts))):
 Den Tryz.prog 33 [] [PL ts,.int .i64 v,RL lo,RL hi] [] (.tup [PL ((betT v lo hi (nfR ts)).map tn),.int .i64 0]):=by
 have hm:=kD
 have qW:=ahV ts (v:Int) (by omega) h8 hn hs
 unfold Ye at qW
 rw[if_neg (by rw[hvB];decide),if_neg (by omega),Int.toNat_natCast,if_pos hlB] at qW
 have AG:=hp.prim (v:=v) (by decide) (by decide) hv
 have mW:(aU v (nfR ts)).length<=bG:=by rw[jt];exact hs
 have hP1:=tx fE (by decide)
 have hP2:=tx fF (by decide)
 have Hp:LOkT 1000000 100000 (dZ hi):=⟨fun t ht=>(qq ht).1,fun t ht=>(hP1.bd (by decide) t ht).mono (by decide),fun t ht e he=>by have:=(qq ht).2 e he;omega⟩
 have Jq:LOkT 1000000 100000 (dZ lo):=⟨fun t ht=>(qq ht).1,fun t ht=>(hP2.bd (by decide) t ht).mono (by decide),fun t ht e he=>by have:=(qq ht).2 e he;omega⟩
 have l1:=BG hi
 have l2:=BG lo
 have a1:=ade (aU v (nfR ts)) (dZ hi) v hv (AG.mono (by decide) (by decide)) Hp (by omega) mW (by unfold bG;omega) ok1
 have a2:=ade (aU v (nfR ts)) (dZ lo) v hv (AG.mono (by decide) (by decide)) Jq (by omega) mW (by unfold bG;omega) VK
 have s1:=acY hi (fE.mono (by decide))
 have s2:=acY lo (fF.mono (by decide))
 obtain⟨u1,u2⟩:=ok1.out 0
 obtain⟨w1,w2⟩:=VK.out 0
 rw[List.drop_zero] at u1 u2 w1 w2
 change LOkT _ _ (fe v (dZ hi) (aU v (nfR ts))) at u1
 change (fe v (dZ hi) (aU v (nfR ts))).length<=_ at u2
 change LOkT _ _ (fe v (dZ lo) (aU v (nfR ts))) at w1
 change (fe v (dZ lo) (aU v (nfR ts))).length<=_ at w2
 have c1:POk 1000000 100000 (fe v (dZ hi) (aU v (nfR ts))):=⟨sX AG.canon Hp.len,u1.bd,u1.exp⟩
 have c2:POk 1000000 100000 (fe v (dZ lo) (aU v (nfR ts))):=⟨sX AG.canon Jq.len,w1.bd,w1.exp⟩
 have U8:=ahY _ _ (c1.mono (by decide) (by decide)) (c2.mono (by decide) (by decide)) (by omega) (by omega) w2 hr
 change Den Tryz.prog 85 [] _ [] (PL ((betT v lo hi (nfR ts)).map tn)) at U8
 have Sv:=adg (betT v lo hi (nfR ts)) hb.len (fun t ht x hx=>by have:=hb.exp t ht x hx;omega) (by omega)
 have z1:=mf (lo.getD v rz) ((fF.at v).mono (by decide))
 have z2:=mf (hi.getD v rz) ((fE.at v).mono (by decide))
 rw[Lm] at z1
 rw[hh0] at z2
 change Den Tryz.prog 84 [] [.agg (lo.getD v rz).c] [] (.int .i64 0) at z1
 change Den Tryz.prog 84 [] [.agg (hi.getD v rz).c] [] (.int .i64 0) at z2
 have k1:=fF.len
 have k2:=fE.len
 have f1:List.take 3 (List.drop (v*3) (flat lo))=(lo.getD v rz).c:=cU (by omega)
 have f2:List.take 3 (List.drop (v*3) (flat hi))=(hi.getD v rz).c:=cU (by omega)
 obtain⟨ra,hra⟩:=aw (lo.getD v rz)
 obtain⟨rb,GU⟩:=aw (hi.getD v rz)
 rw[hra] at z1 f1
 rw[GU] at z2 f2
 have g1:=ah lo
 have g2:=ah hi
 have t1:=ar k1
 have t2:=ar k2
 obtain⟨A,hA⟩:=aw ((aU v (nfR ts)).map tn)
 obtain⟨P1,ajS⟩: ∃ A,(dZ hi).map tn=A:=⟨_,rfl⟩
 obtain⟨P2,ajT⟩: ∃ A,(dZ lo).map tn=A:=⟨_,rfl⟩
 obtain⟨B1,hB1⟩:=aw ((fe v (dZ hi) (aU v (nfR ts))).map tn)
 obtain⟨B2,hB2⟩:=aw ((fe v (dZ lo) (aU v (nfR ts))).map tn)
 obtain⟨C,hC⟩:=aw ((betT v lo hi (nfR ts)).map tn)
 rw[hA] at qW a1 a2
 rw[ajS] at a1 s1
 rw[ajT] at a2 s2
 rw[hB1] at a1 U8
 rw[hB2] at a2 U8
 rw[hC] at U8 Sv ⊢
 obtain⟨x,hx⟩:=aw (xU (betT v lo hi (nfR ts)))
 rw[hx] at Sv ht
 have e1:decide (x>1024)=false:=sB
 have NC:((0:Int) !=0)=false:=rfl
 unfold RL at s1 s2 ⊢
 refine dq Tryz.func33 47 0 ?_
 refine b8 (ej g1 g2 k1 k2) ?_
 repeat refine ag ?_
 refine aW qW ?_
 refine ae (gS NC g1 k1 f1 @append_nil.{0}) ?_
 repeat refine ag ?_
 refine zm z1 ?_
 refine ae (fM NC @gq g2 k2 f2 @append_nil.{0}) ?_
 repeat refine ag ?_
 refine zm z2 ?_
 refine ae (bZ NC @gq @append_nil.{0}) ?_
 repeat refine ag ?_
 refine dw (by kernel_rfl) ?_
 refine ae (bZ g2 k2 t2) ?_
 repeat refine ag ?_
 refine lY s1 ?_
 refine Li ?_
 refine aW a1 ?_
 refine ae (ej g1 k1 t1 @append_nil.{0}) ?_
 repeat refine ag ?_
 refine lY s2 ?_
 refine Li ?_
 refine aW a2 ?_
 refine ae @append_nil.{0} ?_
 refine aW U8 ?_
 refine ae @append_nil.{0} ?_
 refine aW Sv ?_
 refine ae (aQ e1 @append_nil.{0}) ?_
 refine bg rfl
end Go.Proofs.YtjjbkjgifdhlcaaGreat
