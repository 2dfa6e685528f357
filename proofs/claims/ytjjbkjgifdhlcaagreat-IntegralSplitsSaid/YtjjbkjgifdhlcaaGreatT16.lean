/- Plain:systems of seven inequalities in three variables,one of which occurs in one alone. -/
import Derived.Test.YtjjbkjgifdhlcaaGreatT15
import Derived.Test.YtjjbkjgifdhlcaaGreatT8
import Derived.Test.YtjjbkjgifdhlcaaGreatT14
import Derived.Test.YtjjbkjgifdhlcaaGreatT12
import Derived.Test.YtjjbkjgifdhlcaaGreatT13
import Derived.Test.YtjjbkjgifdhlcaaGreatT1
set_option linter.all false
open Nat (reduceAdd)
open List (any_append append_assoc append_nil drop_eq_getElem_cons filter_append length_drop length_map length_pos_iff length_pos_of_mem length_take mem_map replicate)
namespace Go.Pl
def tt (s:List (List Raw)) (v:Nat):Int:=((aR s v).length:Int)*(aE s v).length - (aR s v).length - (aE s v).length
structure Sw (k:Nat) (s:List (List Raw)):Prop where
 n3:bD s<=3
 c3:bD s=3->s.length<=7/\k<=14
 c2:bD s=2->s.length<=7/\k<=120
 c1:bD s=1->s.length<=12/\k<=1000
structure Sl (k:Nat) (s:List (List Raw)):Prop where
 n3:bD s<=3
 c3:bD s=3->s.length<=7/\k<=14
 c2:bD s=2->s.length<=12/\k<=120
 c1:bD s=1->s.length<=36/\k<=1000
theorem Sz.w {k:Nat} {s:List (List Raw)} (h:Sz k s):Sw k s:=⟨h.n3,fun e=>by have:=h.c3 e;omega,h.c2,h.c1⟩
theorem Sw.l {k:Nat} {s:List (List Raw)} (h:Sw k s):Sl k s:=⟨h.n3,h.c3,fun e=>by have:=h.c2 e;omega,fun e=>by have:=h.c1 e;omega⟩
theorem Sl.all {k:Nat} {s:List (List Raw)} (h:Sl k s) (hp:0<bD s):s.length<=36/\k<=1000:=by
 have h1:=h.n3;have h2:=h.c3;have h3:=h.c2;have h4:=h.c1;have:bD s=1\/bD s=2\/bD s=3:=by omega
 rcases this with h5 | h5 | h5
 .exact h4 h5
 .have:=h3 h5;omega
 have:=h2 h5;omega
theorem Sl.lim {k:Nat} {s:List (List Raw)} (h:Sl k s) (hs:SysF k s): ∀ l∈s,LOk 1000 l:=fun l hl=>(hs.ok l hl).mono (h.all (nA hl (hs.nc l hl))).2
theorem Sw.len {k:Nat} {s:List (List Raw)} (h:Sw k s) (hs:SysF k s):s.length<=12:=by
 cases s with
 | nil=>exact eB _
 | cons l t=>
  have hp:0<bD (l::t):=nA (List.mem_cons_self ..) (hs.nc l (by simp));have h1:=h.n3;have h2:=h.c3;have h3:=h.c2;have h4:=h.c1;have:bD (l::t)=1\/bD (l::t)=2\/bD (l::t)=3:=by omega
  rcases this with h5 | h5 | h5
  .exact(h4 h5).1
  .have:=h3 h5;omega
  have:=h2 h5;omega
theorem yd {k:Nat} {s:List (List Raw)} {v:Nat} (hs:SysF k s) (hz:Sw k s):(fT s v).length<=100:=by
 have h1:=da s v;have h2:=hz.len hs;rw[rY];exact Td (by omega)
theorem P5 {k:Nat} {s:List (List Raw)} {v:Nat} (hv:v<8) (hs:SysF k s) (ho:occ s v=true) (h5:bD s=1):ncs (fT s v)=[]:=by
 have h9: ∀ l∈s,l.length=9:=fun l hl=>(hs.ok l hl).len
 have h6:=uO hv hs ho;cases h8:ncs (fT s v) with
 | nil=>rfl
 | cons o t=>
  have AK:=(jP (nw h9)).1 (show o∈ncs (fT s v) by rw[h8];simp);have:=nA AK.1 AK.2;omega
theorem ye {k:Nat} {s:List (List Raw)} {v:Nat} (hv:v<8) (hs:SysF k s) (hz:Sw k s):(ncs (fT s v)).length<=12:=by
 have dT:(ncs (fT s v)).length<=(fT s v).length:=List.length_filter_le _ _;cases ho:occ s v with
 | false=>
  have h1:=hz.len hs;rw[(xI ho).1] at dT ⊢;omega
 | true=>
  have h1:=da s v;have h2:=rY s v;have h3:=BB hv ho;have h4:=hz.n3;have:bD s=1\/bD s=2\/bD s=3:=by omega
  rcases this with h5 | h5 | h5
  .rw[P5 hv hs ho h5];exact eB _
  .have:=(hz.c2 h5).1;have:=Po (p:=(aR s v).length) (q:=(aE s v).length) (r:=(d5 s v).length) (by omega);omega
  have:=(hz.c3 h5).1;have:=Po (p:=(aR s v).length) (q:=(aE s v).length) (r:=(d5 s v).length) (by omega);omega
theorem P6 {k:Nat} {s:List (List Raw)} {v:Nat} (hv:v<8) (hk:1<=k) (hs:SysF k s) (hz:Sl k s): ∀ o∈fT s v,¬aN o->LOk 1000 o:=by
 intro o ho hc;cases hoc:occ s v with
 | false=>
  rw[(xI hoc).1] at ho;exact hz.lim hs o ho
 | true=>
  have h6:=uO hv hs hoc;have h7:=nA ho hc;have h8:=hz.n3;have:k<=120:=by
   have:bD s=2\/bD s=3:=by omega
   rcases this with h5 | h5
   .exact(hz.c2 h5).2
   have:=(hz.c3 h5).2;omega
  exact(HT hs.ok hk o ho).mono (by omega)
def GoodW (s:List (List Raw)):Prop:= ∃ k,1<=k/\SysF k s/\Sw k s/\(bD s=3->s.length<=5\/ ∃ u,u<8/\occ s u=true/\tt s u<0)
theorem GoodS.w {s:List (List Raw)} (h:GoodS s):GoodW s:=by
 obtain⟨k,hk,hs,hz⟩:=h;exact⟨k,hk,hs,hz.w,fun e=> .inl (hz.c3 e).1⟩
theorem GoodW.lim {s:List (List Raw)} (h:GoodW s): ∀ l∈s,LOk 1000 l:=by
 obtain⟨k,hk,hs,hz,_⟩:=h;exact hz.l.lim hs
theorem GoodW.len {s:List (List Raw)} (h:GoodW s):s.length<=12:=by
 obtain⟨k,hk,hs,hz,_⟩:=h;exact hz.len hs
theorem GoodW.nc {s:List (List Raw)} (h:GoodW s): ∀ l∈s,¬aN l:=by
 obtain⟨k,hk,hs,hz,_⟩:=h;exact hs.nc
theorem GoodW.feas {s:List (List Raw)} {v:Nat} (hv:v<8) (h:GoodW s) (hb:Ab s v=false):ei (re s v)=ei s:=by
 obtain⟨k,hk,hs,hz,_⟩:=h;rw[Bool.eq_iff_iff,er,er];exact Md hv hs (fun hB=>by rw[(xL (fun l hl=>(hs.ok l hl).len)).2 hB] at hb;cases hb)
theorem GoodW.bad {s:List (List Raw)} {v:Nat} (hv:v<8) (h:GoodW s) (hb:Ab s v=true):ei s=false:=by
 obtain⟨k,hk,hs,hz,_⟩:=h;exact o5.2 (Pp hv hs ((xL (fun l hl=>(hs.ok l hl).len)).1 hb))
theorem GoodW.step {s:List (List Raw)} {v:Nat} (hv:v<8) (h:GoodW s) (ho:occ s v=true) (zF: ∀ u,u<8->occ s u=true->tt s v<=tt s u):GoodW (re s v)/\bD (re s v)<bD s:=by
 obtain⟨k,hk,hs,hz,h7⟩:=h;have hi:=xM v hs;have h9: ∀ l∈s,l.length=9:=fun l hl=>(hs.ok l hl).len
 have hn:=uO hv hs ho;rw[<-uQ (nw h9) hi] at hn;have hl:=ny (nw h9) hi;have dT:(ncs (fT s v)).length<=(fT s v).length:=List.length_filter_le _ _;have h1:=da s v;have h2:=rY s v;have h4:=hz.n3;have hc:=ye hv hs hz;refine⟨⟨8*k+8,by omega,Tf hk hs hi,⟨by omega,fun h=>by omega,fun h=>?_,fun h=>?_⟩,fun h=>by omega⟩,hn⟩
 .have h5:bD s=3:=by omega
  have h6:=hz.c3 h5;refine⟨?_,by omega⟩;rcases h7 h5 with h8 | ⟨u,hu,ZQ,ZB⟩
  .have:=X6 (p:=(aR s v).length) (q:=(aE s v).length) (r:=(d5 s v).length) (by omega);omega
  have AK:=zF u hu ZQ;have e:(((aE s v).length*(aR s v).length:Nat):Int)=((aR s v).length:Int)*(aE s v).length:=by rw[Int.natCast_mul,Int.mul_comm]
  unfold tt at AK ZB;omega
 refine⟨by omega,?_⟩;have:bD s=2\/bD s=3:=by omega
 rcases this with h5 | h5
 .have:=hz.c2 h5;omega
 have:=hz.c3 h5;omega
def adm (s:List (List Raw)):Prop:= ∃ k,1<=k/\SysF k s/\Sl k s
structure amG (cs:List (List Raw)):Prop where
 cnf: ∀ l∈cs,IsCn l
 nc: ∀ l∈cs,¬aN l
 ok: ∀ l∈cs,LOk 1000 l
 len:cs.length<=37
 good:adm (sysL cs [])
structure CsW (cs:List (List Raw)):Prop where
 ok: ∀ l∈cs,LOk 10000 l
 len:cs.length<=100
 nc:(ncs cs).length<=12
 good:GoodW (sysL cs [])
 nok: ∀ l∈cs,¬aN l->LOk 1000 l
theorem CsOk.w {cs:List (List Raw)} (h:CsOk cs):CsW cs:=⟨h.ok,h.len,h.nc,h.good.w,h.nok⟩
end Go.Pl
namespace Go.Proofs.YtjjbkjgifdhlcaaGreat
open Go.AM Go.Pl
set_option maxRecDepth 100000
set_option maxHeartbeats 4000000
theorem yf {s:List (List Raw)} {v:Nat} {x:List Raw} (h:0<co x v):aR (s++[x]) v=aR s v++[bZ v x]:=by simp[aR,filter_append,h]
theorem mG {s:List (List Raw)} {v:Nat} {x:List Raw} (h: ¬0<co x v):aR (s++[x]) v=aR s v:=by simp[aR,filter_append,h]
theorem uX {s:List (List Raw)} {v:Nat} {x:List Raw} (h:co x v<0):aE (s++[x]) v=aE s v++[bZ v x]:=by simp[aE,filter_append,h]
theorem kf {s:List (List Raw)} {v:Nat} {x:List Raw} (h: ¬co x v<0):aE (s++[x]) v=aE s v:=by simp[aE,filter_append,h]
theorem yg {s:List (List Raw)} {v:Nat} {x:List Raw} (h:co x v=0):d5 (s++[x]) v=d5 s v++[x]:=by simp[d5,filter_append,h]
theorem BQ {s:List (List Raw)} {v:Nat} {x:List Raw} (h: ¬co x v=0):d5 (s++[x]) v=d5 s v:=by simp[d5,filter_append,h]
def tu (hi lo:List (List Raw)):List (List Raw):=hi.flatMap fun u=>lo.map fun l=>cB u l
theorem Ii {hi lo:List (List Raw)} {u:List Raw}:tu (hi++[u]) lo=tu hi lo++lo.map (cB u):=by simp[tu]
def Af (u:List Raw) (lo:List (List Raw)):Bool:=lo.any (fun l=>cQ (cB u l)&&decide (co (cB u l) 8<=0))
def P7 (hi lo:List (List Raw)):Bool:=hi.any (fun u=>Af u lo)
theorem MG {u l:List Raw} {lo:List (List Raw)}:Af u (lo++[l])=(Af u lo||(cQ (cB u l)&&decide (co (cB u l) 8<=0))):=by simp[Af,any_append]
theorem MH {u:List Raw} {hi lo:List (List Raw)}:P7 (hi++[u]) lo=(P7 hi lo||Af u lo):=by simp[P7,any_append]
theorem P8 {α:Type} {p:α->Bool} {l:List α} {i:Nat} (h:(l.take i).any p=true):l.any p=true:=by
 rw[qpb] at h ⊢;obtain⟨x,hx,h2⟩:=h;exact⟨x,AY hx,h2⟩
theorem jU {α:Type} {p:α->Bool} {l:List α} {x:α} (hx:x∈l) (h:p x=true):l.any p=true:=List.any_eq_true.2 ⟨x,hx,h⟩
theorem P9 {k:Nat} {s:List (List Raw)} {v:Nat} (hs:SysF k s) (hb: ¬S9 s v): ¬EU (fT s v):=by
 rintro⟨o,ho,hc,hn⟩;rcases kY.1 ho with⟨h1,_⟩ | ⟨l,hl,u,hu,h1,h2,rfl⟩
 .exact hs.nc o h1 hc
 refine hb ⟨bZ v u,ea.2 ⟨u,hu,h2,rfl⟩,bZ v l,fj.2 ⟨l,hl,h1,rfl⟩,hc,?_⟩;grind
theorem ahJ (k:Nat) (s:List (List Raw)) (v:Nat) (hv:v<8) (hk:1<=k) (hs:SysF k s) (hz:Sw k s):
 Den Tryz.prog 256 [] [.fv (.sl (au s)),.int .i64 v] [] (if Ab s v then .tup [.fv (.sl []),.bool false] else .tup [.fv (.sl (au (re s v))),.bool true]):=by
 have oN:=hz.l.lim hs
 have h9: ∀ l∈s,l.length=9:=fun l hl=>(oN l hl).len
 have Vv:=hz.len hs
 have AB: ∀ b∈aR s v,LOk 2001 b:=CQ oN (by decide)
 have zG: ∀ b∈aE s v,LOk 2001 b:=wI oN (by decide)
 have kM:=da s v
 obtain⟨n,cP⟩:=ax s.length
 have rl:=ay s
 rw[cP] at rl Vv kM
 obtain⟨R,hR⟩: ∃ R:PV,(if Ab s v then .tup [.fv (.sl []),.bool false] else .tup [.fv (.sl (au (re s v))),.bool true])=R:=⟨_,rfl⟩
 rw[hR]
 have mU:=xj (-1) (by decide)
 rw[bu] at mU
 refine dq Tryz.func256 86 0 ?_
 refine bU rl ?_
 refine wl (α:=Nat×List (List Raw)×List (List Raw)×List (List Raw)) (fun⟨i,lo,hi,out⟩=>⟨[.fv (.sl (au s)),.int .i64 v,.any,.any,.nilsl,.bool false,.lsl 0 0 lo.length 27,.lsl 1 0 hi.length 27,.lsl 2 0 out.length 27,.any,.any,.any,.any,.any,.any,.any,.any,.any,.any,.any,.fv (.sl (au s)),.int .i64 n,.int .i64 i]++replicate 65 .any,[.row true (au lo),.row true (au hi),.row true (au out)]⟩)
  (fun⟨i,_⟩=>n - i) (fun⟨i,lo,hi,out⟩=>i<=n/\lo=aR (s.take i) v/\hi=aE (s.take i) v/\out=d5 (s.take i) v) (0,[],[],[]) ?_ ?_ ?_
 .refine Weak.nil 6 27 (by decide) rfl ?_
  refine Weak.nil 7 27 (by decide) rfl ?_
  refine Weak.nil 8 27 (by decide) rfl ?_
  refine eS [0,1,2] ?_ ?_
  .simp[bk,dV,cC]
  simp[et,fK]
  simp[au]
 .exact⟨eB _,rfl,rfl,rfl⟩
 rintro⟨i,lo,hi,out⟩ ⟨oI,fR,fL,dF⟩
 have dX:=da (s.take i) v
 rw[<-fR,<-fL,<-dF,length_take,cP] at dX
 obtain⟨L1,ZR⟩:=ax lo.length
 obtain⟨L2,RP⟩:=ax hi.length
 obtain⟨L3,ZS⟩:=ax out.length
 have Xr:=ay lo
 have w3:=ay hi
 have rl3:=ay out
 dsimp only
 rw[ZR] at dX Xr ⊢
 rw[RP] at dX w3 ⊢
 rw[ZS] at dX rl3 ⊢
 have tk1:=b9 (ls:=lo) (n:=L1) (by omega)
 have tk2:=b9 (ls:=hi) (n:=L2) (by omega)
 have ZT:=b9 (ls:=out) (n:=L3) (by omega)
 refine aY ?_
 refine bS ?_ ?_
 .intro h1 h2
  have ez:=ka (cs:=s) (i:=i) (by omega)
  have bm:=bI (ls:=s) (i:=i) (by omega)
  have r1:=bK s i
  obtain⟨x,mZ⟩:=ax (s.getD i [])
  rw[mZ] at bm r1 ez
  have hx:=oN x bm
  have lx:=hx.len
  have rB:=aF lx
  have fx:=aO x
  have gx:=ah x
  have nZ:=ar lx
  by_cases h0:co x v=0
  .have wy:=O1 x v hx hv h0
   have wq:=mG (s:=s.take i) (v:=v) (x:=x) (by grind)
   have DS:=kf (s:=s.take i) (v:=v) (x:=x) (by grind)
   have ja:=yg (s:=s.take i) h0
   have cG:=dc out x
   unfold FL RL at wy
   obtain⟨zs,SB⟩:=ax ((x.map Raw.q).map cn)
   have sw:zs.length=9:=by rw[<-SB];simp[lx]
   have gz:=ah zs
   rw[SB] at wy
   have e1:decide ((0:Int)>0)=false:=rfl
   have e2:decide ((0:Int)<0)=false:=rfl
   refine b_ (fw h2 r1 rB fx gx lx nZ) ?_
   repeat refine ag ?_
   refine kO wy ?_
   refine b_ (bT gz sw e1 gx lx nZ rB (bR ZT cG rl3)) ?_
   repeat refine ag ?_
   refine aw (i+1,lo,hi,out++[x]) ?_ ⟨by omega,by rw[ez,wq,fR],by rw[ez,DS,fL],by rw[ez,ja,dF]⟩
   exact bQ [0,1,6]
  have wy:=Ww x v hx hv h0
  have rA:(bZ v x).length=9:=cL lx
  have ja:=BQ (s:=s.take i) h0
  unfold FL RL at wy
  change Den Tryz.prog 72 [] [.agg (flat x),.int .i64 v] [] (.tup [.agg (flat (bZ v x)),.int .i64 (gA (x.getD v rz).q),.int .i64 0]) at wy
  by_cases hp:0<co x v
  .have wq:=yf (s:=s.take i) hp
   have DS:=kf (s:=s.take i) (v:=v) (x:=x) (by grind)
   have cG:=dc lo (bZ v x)
   obtain⟨y,hy⟩:=ax (bZ v x)
   rw[hy] at wy rA wq cG
   have gy:=ah y
   have uh:=aF rA
   have pN:=ar rA
   rw[show gA (x.getD v rz).q=1 from rU hp] at wy
   have e1:decide ((1:Int)>0)=true:=rfl
   refine b_ (fw h2 r1 rB fx gx lx nZ) ?_
   repeat refine ag ?_
   refine kO wy ?_
   refine b_ (bT gy rA e1 pN uh tk1 cG Xr) ?_
   repeat refine ag ?_
   refine aw (i+1,lo++[y],hi,out) ?_ ⟨by omega,by rw[ez,wq,fR],by rw[ez,DS,fL],by rw[ez,ja,dF]⟩
   exact bQ [6,1,2]
  have mW:co x v<0:=by grind
  have wq:=mG (s:=s.take i) (v:=v) (x:=x) hp
  have DS:=uX (s:=s.take i) mW
  have cG:=dc hi (bZ v x)
  obtain⟨y,hy⟩:=ax (bZ v x)
  rw[hy] at wy rA DS cG
  have gy:=ah y
  have uh:=aF rA
  have pN:=ar rA
  rw[show gA (x.getD v rz).q= -1 from xE mW] at wy
  have e1:decide ((-1:Int)>0)=false:=rfl
  have e2:decide ((-1:Int)<0)=true:=rfl
  refine b_ (fw h2 r1 rB fx gx lx nZ) ?_
  repeat refine ag ?_
  refine kO wy ?_
  refine b_ (bT gy rA e1 e2 pN uh tk2 (aP cG w3)) ?_
  repeat refine ag ?_
  refine aw (i+1,lo,hi++[y],out) ?_ ⟨by omega,by rw[ez,wq,fR],by rw[ez,DS,fL],by rw[ez,ja,dF]⟩
  exact bQ [0,6,2]
 intro h1 h2
 have gF:i=n:=by omega
 have gv:s.take i=s:=eo (by omega)
 rw[gv] at fR fL dF
 have G7:Ab s v=P7 hi lo:=by rw[fR,fL];rfl
 have kR:fT s v=out++tu hi lo:=by rw[fR,fL,dF];rfl
 have Nz: ∀ b∈lo,LOk 2001 b:=by rw[fR];exact AB
 have DN: ∀ b∈hi,LOk 2001 b:=by rw[fL];exact zG
 have RS:=yd (v:=v) hs hz
 rw[kR,qe,ZS] at RS
 clear fR fL dF
 refine ae h2 ?_
 refine aV mU ?_
 refine ae @append_nil.{0} ?_
 repeat refine ag ?_
 obtain⟨ng,hng⟩:=ax (decide (((-1:Int):Rat).num<0))
 obtain⟨nn,ZU⟩:=ax (N ((-1:Int):Rat).num.natAbs)
 obtain⟨nd,mb⟩:=ax (N ((-1:Int):Rat).den)
 rw[hng,ZU,mb]
 have qV: ∀ b:List Raw,LOk 2001 b->Den Tryz.prog 135 [] [RL b,.agg [.bool ng,.fv nn,.fv nd]] [] (RL (cK b)):=fun b hb=>by
  have:=JY b (cn ((-1:Int):Rat)) (hb.mono (by decide)) (bC (Bd.mono (show Bd 1 ((-1:Int):Rat) from⟨by decide,by decide⟩) (by decide)));rw[de] at this;change Den Tryz.prog 135 [] [RL b,FR ((-1:Int):Rat)] [] (RL (cK b)) at this;rw[bu,hng,ZU,mb] at this;exact this
 have hca: ∀ u l:List Raw,LOk 2001 u->LOk 2001 l->Den Tryz.prog 162 [] [RL u,RL (cK l)] [] (RL (cB u l)):=fun u l hu hl=>
  WB u (cK l) (hu.mono (by decide)) ((s5 hl (by decide)).mono (by decide))
 clear hng ZU mb mU
 refine wl (α:=Nat×List (List Raw)) (fun⟨j,j6⟩=>⟨[.fv (.sl (au s)),.int .i64 v,.any,.any,.nilsl,.bool false,.lsl 0 0 L1 27,.lsl 1 0 L2 27,.lsl 2 0 j6.length 27,.any,.any,.any,.any,.any,.ptr 3 0 0]++replicate 38 .any++[.lsl 1 0 L2 27,.int .i64 L2,.int .i64 j]++replicate 32 .any,[.row true (au lo),.row true (au hi),.row true (au j6),.box true [.bool ng,.fv nn,.fv nd]]⟩)
  (fun⟨j,_⟩=>L2 - j) (fun⟨j,j6⟩=>j<=L2/\j6=out++tu (hi.take j) lo/\P7 (hi.take j) lo=false) (0,out) ?_ ?_ ?_
 .exact bQ [0,1,2,3]
 .exact⟨eB _,by simp[tu],rfl⟩
 rintro⟨j,j6⟩ ⟨hj,gw,eC⟩
 obtain⟨M,hM⟩:=ax j6.length
 dsimp only
 rw[hM]
 refine aY ?_
 refine bS ?_ ?_
 .intro h3 h4
  have ez:=ka (cs:=hi) (i:=j) (by omega)
  have bm:=bI (ls:=hi) (i:=j) (by omega)
  have r1:=bK hi j
  obtain⟨u,huu⟩:=ax (hi.getD j [])
  rw[huu] at bm r1 ez
  have hu:=DN u bm
  have lu:=hu.len
  have u27:=aF lu
  have fu:=aO u
  have gu:=ah u
  have DT:=ar lu
  refine b_ (fw h4 r1 u27 fu gu lu w3) ?_
  repeat refine ag ?_
  refine wl (α:=Nat×List (List Raw)) (fun⟨q,tW⟩=>⟨[.fv (.sl (au s)),.int .i64 v,.any,.any,.nilsl,.bool false,.lsl 0 0 L1 27,.lsl 1 0 L2 27,.lsl 2 0 tW.length 27,.any,.any,.any,.any,.any,.ptr 3 0 0,.any,.ptr 4 0 0]++replicate 36 .any++[.lsl 1 0 L2 27,.int .i64 L2,.int .i64 j,.any,.any,.any,.lsl 0 0 L1 27,.int .i64 L1,.int .i64 q]++replicate 26 .any,[.row true (au lo),.row true (au hi),.row true (au tW),.box true [.bool ng,.fv nn,.fv nd],.box true (flat u)]⟩)
   (fun⟨q,_⟩=>L1 - q) (fun⟨q,tW⟩=>q<=L1/\tW=j6++(lo.take q).map (cB u)/\Af u (lo.take q)=false) (0,j6) ?_ ?_ ?_
  .exact tN [0,1,2,3,4]
  .exact⟨eB _,by simp,rfl⟩
  rintro⟨q,tW⟩ ⟨hq,LB,Lo⟩
  have hM3:tW.length<=100:=by
   have e1:tW.length=j6.length+q:=by rw[LB];simp;omega
   have e2:j6.length=L3+(hi.take j).length*lo.length:=by
    rw[gw,qe,ZS];unfold tu;rw[jQ]
   have e3:(tu hi lo).length=hi.length*lo.length:=by unfold tu;rw[jQ]
   have e4:(hi.take j).length=j:=by rw[length_take];omega
   rw[e3] at RS;rw[e4] at e2;have e5:(j+1)*lo.length<=hi.length*lo.length:=qn _ (by omega);rw[Nat.add_mul] at e5;omega
  obtain⟨M3,ae3⟩:=ax tW.length
  have rl4:=ay tW
  rw[ae3] at hM3 rl4
  dsimp only
  rw[ae3]
  refine aY ?_
  refine bS ?_ ?_
  .intro h5 h6
   have RU:=ka (cs:=lo) (i:=q) (by omega)
   have Xs:=bI (ls:=lo) (i:=q) (by omega)
   have r3:=bK lo q
   obtain⟨l,oP⟩:=ax (lo.getD q [])
   rw[oP] at Xs r3 RU
   have hl:=Nz l Xs
   have ll:=hl.len
   have l27:=aF ll
   have fl:=aO l
   have gl:=ah l
   have zJ:=ar ll
   have Ho:=qV l hl
   have Hn:=hca u l hu hl
   have gH:=d' ll
   have fC:=gL lu ll
   have zZ:=MG (u:=u) (l:=l) (lo:=lo.take q)
   have ZV:=wH hu hl (by decide)
   have cG:=dc tW (cB u l)
   have hmp:(lo.take (q+1)).map (cB u)=(lo.take q).map (cB u)++[cB u l]:=by rw[RU,vw];rfl
   have Vw:Af u (lo.take (q+1))=true->Ab s v=true:=fun hb=>by
    rw[G7];exact jU bm (P8 hb)
   obtain⟨nl,ajx⟩:=ax (cK l)
   obtain⟨d,hd⟩:=ax (cB u l)
   rw[ajx] at Ho Hn gH
   rw[hd] at Hn fC zZ ZV cG hmp
   have gnl:=ah nl
   have gd:=ah d
   have Vx:=ar fC
   have d27:=aF fC
   have SF:=o_ fC
   have h74:=Pe d (ZV.mono (by decide))
   have iP:=mm (d.getD 8 rz) ((ZV.at 8).mono (by decide))
   have uk:co d 8=(d.getD 8 rz).q:=rfl
   have ZT:=b9 (ls:=tW) (n:=M3) (by omega)
   obtain⟨r,hr⟩:=ax (d.getD 8 rz)
   rw[hr] at iP SF uk
   unfold Raw.v at iP
   obtain⟨b,hb⟩:=ax (cQ d)
   rw[hb] at h74 zZ
   unfold RL at Ho Hn h74
   refine b_ (fE h6 r3 l27 fl gl ll) ?_
   repeat refine ag ?_
   refine dw (by kernel_rfl) ?_
   refine ae (fE DT zJ gu lu gl ll) ?_
   repeat refine ag ?_
   refine kO Ho ?_
   refine GU ?_
   repeat refine ag ?_
   refine kO Hn ?_
   refine b_ (bR gd fC Vx) ?_
   repeat refine ag ?_
   refine kO h74 ?_
   cases b with
   | true=>
    refine b_ (bR SF gd fC) ?_
    repeat refine ag ?_
    refine aV iP ?_;refine ae @append_nil.{0} ?_;refine bS ?_ ?_
    .intro g1 g2;have hv:Af u (lo.take (q+1))=true:=by
      have dT:r.q<=0:=by
       have:=@kX r.q;grind
      rw[RU,zZ,uk,Lo,ir dT];rfl
     rw[if_pos (Vw hv)] at hR;subst hR;refine ae g2 ?_;refine bj rfl
    .intro g1 g2;have hv:Af u (lo.take (q+1))=false:=by
      have dT: ¬r.q<=0:=by
       have:=@kX r.q;grind
      rw[RU,zZ,uk,Lo,m5 dT];rfl
     refine b_ (bT g2 gd fC Vx d27 ZT cG rl4) ?_
     repeat refine ag ?_
     refine aw (q+1,tW++[d]) ?_ ⟨by omega,by rw[hmp,LB,append_assoc],hv⟩;exact tN [0,1,8,3,4]
   | false=>
    have hv:Af u (lo.take (q+1))=false:=by rw[RU,zZ,Lo];rfl
    refine b_ (fw gd fC Vx d27 ZT cG rl4) ?_
    repeat refine ag ?_
    refine aw (q+1,tW++[d]) ?_ ⟨by omega,by rw[hmp,LB,append_assoc],hv⟩;exact tN [0,1,8,3,4]
  intro h5 h6
  have hqe:q=L1:=by omega
  have ajz:lo.take q=lo:=eo (by omega)
  rw[ajz] at LB Lo
  refine ae h6 ?_
  refine aw (j+1,tW) ?_ ⟨by omega,by rw[ez,Ii,LB,gw,append_assoc],by rw[ez,MH,eC,Lo];rfl⟩
  exact bQ [0,1,2,3]
 intro h3 h4
 have On:j=L2:=by omega
 have RQ:hi.take j=hi:=eo (by omega)
 rw[RQ] at gw eC
 rw[<-kR] at gw
 rw[G7,eC,if_neg (by simp)] at hR
 have hbf: ¬S9 s v:=fun hb=>by
  have:=(xL h9).2 hb;rw[G7,eC] at this;cases this
 have N':fQ j6=false:=by
  have h9o: ∀ o∈j6,o.length=9:=by rw[gw];exact nw h9
  cases ZW:fQ j6 with
  | false=>rfl
  | true=>exact absurd (by have:=(mA h9o).1 ZW;rwa [gw] at this) (P9 hs hbf)
 have D_:=Yb j6 (by rw[gw];exact fun o ho=>(HT oN (by decide) o ho).mono (by decide)) (by
  have:=yd (v:=v) hs hz;rw[gw];omega) (by rw[gw];exact P6 hv hk hs hz.l) (by rw[gw];exact ye hv hs hz)
 rw[N',if_neg (by simp)] at D_
 have rl5:=ay j6
 have tk5:=b9 (ls:=j6) (n:=M) (by omega)
 have dh:re s v=sysL j6 []:=by rw[gw];rfl
 rw[dh] at hR
 subst hR
 rw[hM] at rl5
 refine ae h4 ?_
 refine gp D_ (by simp[cw,gW,fS,fB,rl5,tk5]) ?_
 refine ae @append_nil.{0} ?_
 exact bj rfl
theorem ahK (s:List (List Raw)) (v:Nat) (hv:v<8) (hg: ∀ l∈s,LOk 1000 l) (hn:s.length<=1000):
 Den Tryz.prog 255 [] [.fv (.sl (au s)),.int .i64 v] [] (.tup [.int .i64 (((aR s v).length:Int)*(aE s v).length - (aR s v).length - (aE s v).length),.bool (occ s v)]):=by
 obtain⟨n,cP⟩:=ax s.length
 have rl:=ay s
 rw[cP] at rl hn
 have kM:=da s v
 have NP:occ s v=decide (((aR s v).length:Int)+(aE s v).length>0):=by
  cases ho:occ s v with
  | false=>
   obtain⟨_,h1,h2⟩:=xI ho;rw[h1,h2];rfl
  | true=>
   obtain⟨l,hl,h0⟩:=fh.1 ho;symm;refine ir ?_;by_cases hp:0<co l v
   .have:bZ v l∈aR s v:=fj.2 ⟨l,hl,hp,rfl⟩;have:=length_pos_of_mem this;omega
   have:bZ v l∈aE s v:=ea.2 ⟨l,hl,by grind,rfl⟩;have:=length_pos_of_mem this;omega
 rw[NP]
 obtain⟨A,hA⟩:=ax ((aR s v).length)
 obtain⟨C,hC⟩:=ax ((aE s v).length)
 rw[hA,hC] at kM ⊢
 refine dq Tryz.func255 39 0 ?_
 refine bU rl ?_
 refine wl (α:=Nat×Nat×Nat) (fun⟨i,a,c⟩=>⟨[.fv (.sl (au s)),.int .i64 v,.any,.any,.int .i64 0,.bool false,.int .i64 a,.int .i64 c,.any,.any,.fv (.sl (au s)),.int .i64 n,.int .i64 i]++replicate 28 .any,[]⟩)
  (fun⟨i,_⟩=>n - i) (fun⟨i,a,c⟩=>i<=n/\a=(aR (s.take i) v).length/\c=(aE (s.take i) v).length) (0,0,0) ?_ ?_ ?_
 .exact bQ []
 .exact⟨eB _,rfl,rfl⟩
 rintro⟨i,a,c⟩ ⟨hi,ha,hc⟩
 have dX:=da (s.take i) v
 rw[<-ha,<-hc,length_take,cP] at dX
 refine aY ?_
 refine bS ?_ ?_
 .intro h1 h2
  have ez:=ka (cs:=s) (i:=i) (by omega)
  have bm:=bI (ls:=s) (i:=i) (by omega)
  have r1:=bK s i
  obtain⟨x,mZ⟩:=ax (s.getD i [])
  rw[mZ] at bm r1 ez
  have hx:=hg x bm
  have lx:=hx.len
  have rB:=aF lx
  have fx:=aO x
  have gx:=ah x
  have nZ:=ar lx
  have gG:=cU (rs:=x) (i:=v) (by omega)
  have iP:=mm (x.getD v rz) ((hx.at v).mono (by decide))
  have uk:co x v=(x.getD v rz).q:=rfl
  obtain⟨r,hr⟩:=ax (x.getD v rz)
  rw[hr] at gG iP uk
  unfold Raw.v at iP
  rcases j9 r.q with hq | hq | hq
  .have mW:co x v<0:=by rw[uk,<-kW,hq];decide
   have wq:=mG (s:=s.take i) (v:=v) (x:=x) (by grind)
   have DS:=uX (s:=s.take i) mW
   rw[hq] at iP
   have e1:((-1:Int)==1)=false:=rfl
   have e2:((-1:Int)== -1)=true:=rfl
   refine b_ (fw h2 r1 rB fx gx lx gG) ?_
   repeat refine ag ?_
   refine aV iP ?_
   refine ae (bR e1 e2 @append_nil.{0}) ?_
   repeat refine ag ?_
   refine aw (i+1,a,c+1) ?_ ⟨by omega,by rw[ez,wq,ha],by rw[ez,DS,qe,<-hc];rfl⟩
   exact bQ []
  .have h0:co x v=0:=by rw[uk,<-bh,hq]
   have wq:=mG (s:=s.take i) (v:=v) (x:=x) (by grind)
   have DS:=kf (s:=s.take i) (v:=v) (x:=x) (by grind)
   rw[hq] at iP
   have e1:((0:Int)==1)=false:=rfl
   have e2:((0:Int)== -1)=false:=rfl
   refine b_ (fw h2 r1 rB fx gx lx gG) ?_
   repeat refine ag ?_
   refine aV iP ?_
   refine ae (bR e1 e2 @append_nil.{0}) ?_
   repeat refine ag ?_
   refine aw (i+1,a,c) ?_ ⟨by omega,by rw[ez,wq,ha],by rw[ez,DS,hc]⟩
   exact bQ []
  have hp:0<co x v:=by rw[uk,<-kX,hq];decide
  have wq:=yf (s:=s.take i) hp
  have DS:=kf (s:=s.take i) (v:=v) (x:=x) (by grind)
  rw[hq] at iP
  have e1:((1:Int)==1)=true:=rfl
  refine b_ (fw h2 r1 rB fx gx lx gG) ?_
  repeat refine ag ?_
  refine aV iP ?_
  refine ae (aP e1 @append_nil.{0}) ?_
  repeat refine ag ?_
  refine aw (i+1,a+1,c) ?_ ⟨by omega,by rw[ez,wq,qe,<-ha];rfl,by rw[ez,DS,hc]⟩
  exact bQ []
 intro h1 h2
 have gv:s.take i=s:=eo (by omega)
 rw[gv,hA] at ha
 rw[gv,hC] at hc
 subst ha hc
 have AU:(0:Int)<=(a:Int)*(c:Int)/\(a:Int)*(c:Int)<=1000000:=by
  constructor
  .exact Int.mul_nonneg (by omega) (by omega)
  have:=Nat.mul_le_mul (show a<=1000 by omega) (show c<=1000 by omega);have e:((a*c:Nat):Int)=(a:Int)*c:=by simp
  omega
 refine ae h2 ?_
 repeat refine ag ?_
 refine bj ?_
 exact Hh
theorem adn (s:List (List Raw)) (v:Nat) (hv:v<8) (hg:GoodW s):
 Den Tryz.prog 256 [] [.fv (.sl (au s)),.int .i64 v] [] (if Ab s v then .tup [.fv (.sl []),.bool false] else .tup [.fv (.sl (au (re s v))),.bool true]):=by
 obtain⟨k,hk,hs,hz,_⟩:=hg
 exact ahJ k s v hv hk hs hz
theorem WQ (s0:List (List Raw)) (vV:GoodW s0):Den Tryz.prog 229 [] [.fv (.sl (au s0))] [] (.bool (ei s0)):=by
 obtain⟨R,hR⟩:=ax (ei s0);rw[hR];refine dq Tryz.func229 41 0 ?_;refine aY ?_;refine wl (α:=List (List Raw)) (fun s=>⟨[.fv (.sl (au s)),.any,.bool false]++replicate 39 .any,[]⟩)
  bD (fun s=>GoodW s/\ei s=R) s0 ?_ ?_ ?_
 .exact bQ []
 .exact⟨vV,hR⟩
 rintro s ⟨hg,hf⟩;have rl:=ay s;have Vv:=hg.len;refine bU rl ?_;refine bS ?_ ?_
 .intro h1 h2;refine ae h2 ?_;refine wl (α:=Nat×Int×Int) (fun⟨w,b,l⟩=>⟨[.fv (.sl (au s)),.any,.bool false,.int .i64 b,.int .i64 l]++replicate 7 .any++[.int .i64 w]++replicate 29 .any,[]⟩)
   (fun⟨w,_⟩=>8 - w) (fun⟨w,b,l⟩=>w<=8/\((b= -1/\ ∀ u,u<w->occ s u=false)\/ ∃ u,u<8/\b=(u:Nat)/\occ s u=true/\l=tt s u/\ ∀ q,q<w->occ s q=true->tt s u<=tt s q)) (0,-1,0) ?_ ?_ ?_
  .exact bQ []
  .exact⟨eB _,.inl ⟨rfl,fun u hu=>by omega⟩⟩
  rintro⟨w,b,l⟩ ⟨hw,hb⟩;refine aY ?_;refine bS ?_ ?_
  .intro h3 h4;have AH:=ahK s w (by omega) hg.lim (by omega);obtain⟨c,hc⟩:=ax (((aR s w).length:Int)*(aE s w).length - (aR s w).length - (aE s w).length);obtain⟨o,ho⟩:=ax (occ s w);rw[hc,ho] at AH;refine ae h4 ?_;refine aV AH ?_;cases o with
   | false=>
    refine ba ?_;refine aw (w+1,b,l) ?_ ⟨by omega,?_⟩
    .exact bQ []
    .rcases hb with⟨h5,h6⟩ | h5
     .refine .inl ⟨h5,fun u hu=>?_⟩;by_cases SG:u=w
      .rw[SG];exact ho
      exact h6 u (by omega)
     .obtain⟨u,hu,RK,ZQ,hlu,Oo⟩:=h5;exact .inr ⟨u,hu,RK,ZQ,hlu,fun q hq Oq=>by
       by_cases ZX:q=w
       .rw[ZX,ho] at Oq;cases Oq
       .exact Oo q (by omega) Oq⟩
   | true=>
    have oK:tt s w=c:=hc;refine ba ?_;refine bS ?_ ?_
    .intro h5 h6;refine ae h6 ?_;have ue: ∀ u,u<w->occ s u=false:=by
      rcases hb with⟨_,h8⟩ | ⟨u,_,h8,_⟩
      .exact h8
      omega
     refine aw (w+1,(w:Int),c) ?_ ⟨by omega,.inr ⟨w,by omega,rfl,ho,oK.symm,fun q hq Oq=>by
      by_cases ZX:q=w
      .rw[ZX];exact Int.le_refl _
      rw[ue q (by omega)] at Oq;cases Oq⟩⟩
     exact bQ []
    intro h5 h6;refine ae h6 ?_;have eC: ∃ u,u<8/\b=(u:Nat)/\occ s u=true/\l=tt s u/\ ∀ q,q<w->occ s q=true->tt s u<=tt s q:=by
     rcases hb with⟨h7,_⟩ | h7
     .omega
     exact h7
    refine bS ?_ ?_
    .intro h7 h8;refine ae h8 ?_;refine aw (w+1,(w:Int),c) ?_ ⟨by omega,.inr ⟨w,by omega,rfl,ho,oK.symm,fun q hq Oq=>by
      by_cases ZX:q=w
      .rw[ZX];exact Int.le_refl _
      obtain⟨u,_,_,_,hlu,Oo⟩:=eC;have:=Oo q (by omega) Oq;omega⟩⟩
     exact bQ []
    intro h7 h8;refine ae h8 ?_;refine aw (w+1,b,l) ?_ ⟨by omega,.inr (by
     obtain⟨u,hu,RK,ZQ,hlu,Oo⟩:=eC;refine⟨u,hu,RK,ZQ,hlu,fun q hq Oq=>?_⟩;by_cases ZX:q=w
     .rw[ZX];omega
     exact Oo q (by omega) Oq)⟩
    exact bQ []
  intro h3 h4;have hw8:w=8:=by omega
  have eC: ∃ u,u<8/\b=(u:Nat)/\occ s u=true/\l=tt s u/\ ∀ q,q<w->occ s q=true->tt s u<=tt s q:=by
   rcases hb with⟨h7,h8⟩ | h7
   .exfalso;have dj:0<s.length:=by omega
    have bm:=bI (ls:=s) (i:=0) dj;obtain⟨u,hu,h0⟩:=p_ (hg.nc _ bm);have:=h8 u (by omega);rw[fh.2 ⟨_,bm,h0⟩] at this;cases this
   exact h7
  obtain⟨u,hu,rfl,ZQ,_,Oo⟩:=eC;have G8:=adn s u hu hg;cases G7:Ab s u with
  | true=>
   rw[G7,if_pos rfl] at G8;have NQ:R=false:=by rw[<-hf];exact hg.bad hu G7
   subst NQ;refine ae h4 ?_;refine aV G8 ?_;refine ae @Bool.not_false ?_;exact bj rfl
  | false=>
   rw[G7,if_neg (by simp)] at G8;have NQ:=hg.feas hu G7;obtain⟨hgs,aH⟩:=hg.step hu ZQ (fun q hq Oq=>Oo q (by omega) Oq);refine ae h4 ?_;refine aV G8 ?_;refine ae @Bool.not_true ?_;refine ap (re s u) aH ?_ ⟨hgs,by rw[NQ];exact hf⟩;exact bQ []
 intro h1 h2;have Lr:s=[]:=List.eq_nil_of_length_eq_zero (by omega);have NQ:R=true:=by rw[<-hf,Lr];exact Mv
 subst NQ;refine ae h2 ?_;exact bj rfl
theorem ahL (s0:List (List Raw)) (vV:GoodS s0):Den Tryz.prog 229 [] [.fv (.sl (au s0))] [] (.bool (ei s0)):=WQ s0 vV.w
theorem ado (cs:List (List Raw)) (h:CsOk cs):Den Tryz.prog 228 [] [.fv (.sl (au cs))] [] (if fQ cs then .tup [.fv (.sl []),.bool false] else .tup [.fv (.sl (au (sysL cs []))),.bool true]):=
 Yb cs (fun l hl=>(h.ok l hl).mono (by decide)) (by have:=h.len;omega) h.nok h.nc
theorem adp (cs:List (List Raw)) (h:CsW cs):Den Tryz.prog 197 [] [.fv (.sl (au cs))] [] (.bool (aZ cs)):=by
 have D_:=Yb cs (fun l hl=>(h.ok l hl).mono (by decide)) (by have:=h.len;omega) h.nok h.nc;have RV:=WQ _ h.good;unfold aZ;obtain⟨R,hR⟩:=ax (ei (sysL cs []));rw[hR] at RV ⊢;cases hv:fQ cs with
 | true=>
  rw[hv,if_pos rfl] at D_;refine dq Tryz.func197 14 0 ?_;refine aY ?_;refine aV D_ ?_;refine ba ?_;exact bj rfl
 | false=>
  rw[hv,if_neg (by simp)] at D_;refine dq Tryz.func197 14 0 ?_;refine aY ?_;refine aV D_ ?_;refine ba ?_;refine aV RV ?_;refine ba ?_;exact bj rfl
theorem adq (cs:List (List Raw)) (h:CsOk cs):Den Tryz.prog 197 [] [.fv (.sl (au cs))] [] (.bool (aZ cs)):=adp cs h.w
theorem ahM (cs:List (List Raw)) (h:CsOk cs) (hl:cs.length<=40):Den Tryz.prog 155 [] [.fv (.sl (au cs))] [] (.tup [.bool (aZ cs),.int .i64 0]):=by
 have G9:=adq cs h;have rl:=ay cs;have e1:decide ((cs.length:Int)>40)=false:=sA;refine dq Tryz.func155 8 0 ?_;refine bU (aP rl e1) ?_;refine aV G9 ?_;refine ba ?_;exact bj rfl
theorem Fv:(replicate 9 (0:Rat)).map cn=replicate 9 (cn 0):=by simp
theorem eb (q:Rat):(dR q).length=9:=by simp[dR]
theorem dH (v:Nat):(gB v).length=9:=by simp[gB]
theorem Yh (r:Raw) (hr:r.Ok 5000000000):Den Tryz.prog 102 [] [r.v] [] (RL (dR r.q)):=by
 have oQ:=n5 r hr;have RX:=Wt;unfold FL at RX;rw[Fv] at RX;have bc:=d9 (rs:=replicate 9 (cn 0)) (i:=8) (by simp) (cn r.q).neg (cn r.q).num (cn r.q).den;have ug:(⟨(cn r.q).neg,(cn r.q).num,(cn r.q).den⟩:Raw)=cn r.q:=rfl;rw[ug] at bc;change _=flat (dR r.q) at bc;have gH:=eb r.q;obtain⟨y,hy⟩:=ax (dR r.q);obtain⟨z,hz⟩:=ax (replicate 9 (cn 0));have sw:z.length=9:=by rw[<-hz];simp
 obtain⟨c,hc⟩:=ax (cn r.q);rw[hy] at bc gH ⊢;rw[hz] at RX bc;have ae4:Den Tryz.prog 121 [] [r.v] [] c.v:=by rw[<-hc];exact oQ
 rw[hc] at bc;unfold Raw.v at ae4 ⊢;unfold RL at RX ⊢;have gz:=ah z;have gy:=ah y;have pN:=ar gH;have ajA:=ar sw;simp only[Nat.reduceMul,reduceAdd] at bc;refine dq Tryz.func102 8 0 ?_;refine aY ?_;refine aV RX ?_;refine b_ (aP gz sw) ?_
 repeat refine ag ?_
 refine aV ae4 ?_;refine ae (fw gz sw bc pN gy gH @append_nil.{0}) ?_
 repeat refine ag ?_
 exact RetOK.form rfl rfl gH
theorem Yi (v:Nat) (hv:v<8):Den Tryz.prog 100 [] [.int .i64 v] [] (RL (gB v)):=by
 have tS:=mn 1 (by decide);have RX:=Wt;unfold FL at RX;rw[Fv] at RX;have bc:=d9 (rs:=replicate 9 (cn 0)) (i:=v) (by simp;omega) (cn ((1:Int):Rat)).neg (cn ((1:Int):Rat)).num (cn ((1:Int):Rat)).den;have ug:(⟨(cn ((1:Int):Rat)).neg,(cn ((1:Int):Rat)).num,(cn ((1:Int):Rat)).den⟩:Raw)=cn ((1:Int):Rat):=rfl;rw[ug] at bc;change _=flat (gB v) at bc;have gH:=dH v;obtain⟨y,hy⟩:=ax (gB v);obtain⟨z,hz⟩:=ax (replicate 9 (cn 0));have sw:z.length=9:=by rw[<-hz];simp
 obtain⟨c,hc⟩:=ax (cn ((1:Int):Rat));rw[hy] at bc gH ⊢;rw[hz] at RX bc;have AW:Den Tryz.prog 32 [] [.int .i64 1] [] c.v:=by rw[<-hc];exact tS
 rw[hc] at bc;unfold Raw.v at AW;unfold RL at RX ⊢;have gz:=ah z;have gy:=ah y;have pN:=ar gH;have ajA:=ar sw;refine dq Tryz.func100 9 0 ?_;refine aY ?_;refine aV RX ?_;refine b_ (aP gz sw) ?_
 repeat refine ag ?_
 refine aV AW ?_;refine ae (fw gz sw bc pN gy gH @append_nil.{0}) ?_
 repeat refine ag ?_
 exact RetOK.form rfl rfl gH
theorem Yj (l:List Raw) (h:LOk 1000000 l):Den Tryz.prog 51 [] [RL l] [] (RL (cK l)):=by
 have tS:=mn (-1) (by decide);have G8:=acC l (cn ((-1:Int):Rat)) (h.mono (by decide)) (bC (Bd.mono (show Bd 1 ((-1:Int):Rat) from⟨by decide,by decide⟩) (by decide)));rw[de] at G8;change Den Tryz.prog 108 [] [RL l,(cn ((-1:Int):Rat)).v] [] (RL (cK l)) at G8;have oP:=h.len;have gH:=d' oP;obtain⟨y,hy⟩:=ax (cK l);obtain⟨c,hc⟩:=ax (cn ((-1:Int):Rat));rw[hy] at G8 gH ⊢;have AW:Den Tryz.prog 32 [] [.int .i64 (-1)] [] c.v:=by rw[<-hc];exact tS
 rw[hc] at G8;unfold Raw.v at AW G8;unfold RL at G8 ⊢;have gl:=ah l;have gy:=ah y;have pN:=ar gH;have zJ:=ar oP;refine dq Tryz.func51 5 0 ?_;refine bU (aP gl oP) ?_
 repeat refine ag ?_
 refine dw (by kernel_rfl) ?_;refine ae (bR zJ gl oP) ?_
 repeat refine ag ?_
 refine aV AW ?_;refine ae @append_nil.{0} ?_;refine kO G8 ?_;refine b_ (aP gy gH) ?_
 repeat refine ag ?_
 exact RetOK.form rfl rfl gH
theorem ahN (a:List Raw) (ha:LOk 1000000000 a):Den Tryz.prog 49 [] [RL a] [] (.bool (cQ a)):=by
 obtain⟨R,hR⟩:=ax (cQ a);rw[hR];have la:=ha.len;have fa:=ah a;unfold RL;refine dq Tryz.func49 21 0 ?_;refine bU (aP fa la) ?_
 repeat refine ag ?_
 refine wl (α:=Nat) (fun i=>⟨[.any,.ptr 0 0 0,.bool false,.int .i64 i]++replicate 18 .any,[.box true (flat a)]⟩)
  (fun i=>8 - i) (fun i=>i<=8/\ ∀ j,j<i->co a j=0) 0 ?_ ?_ ?_
 .exact tN [0]
 .exact⟨eB _,fun j h=>by omega⟩
 rintro i ⟨hi,bA⟩;refine aY ?_;refine bS ?_ ?_
 .intro h1 h2;have gG:=cU (rs:=a) (i:=i) (by omega);have bg:=ha.at i;have uk:co a i=(a.getD i rz).q:=rfl;obtain⟨r,hr⟩:=ax (a.getD i rz);rw[hr] at gG bg uk;have Xi:=Ey r;have Cp:=Et r (bg.mono (by decide));unfold Raw.v at Xi Cp;have lF:r.q=0-> ∀ j,j<i+1->co a j=0:=fun h0 j hj=>by
   by_cases AI:j=i
   .rw[AI,uk];exact h0
   exact bA j (by omega)
  refine ae (aP h2 gG) ?_
  repeat refine ag ?_
  refine aV Xi ?_;by_cases h3:(r.num.length:Int)=0
  .have hb:((r.num.length:Int)==0)=true:=by rw[beq_iff_eq];exact h3
   refine ae (aP hb @Bool.not_true) ?_;refine aw (i+1) ?_ ⟨by omega,lF (xk h3)⟩;exact tN [0]
  have hb:((r.num.length:Int)==0)=false:=by rw[qx];exact h3
  refine ae (bR hb @Bool.not_false gG) ?_
  repeat refine ag ?_
  refine aV Cp ?_;refine ba ?_;refine Br.bneInt ?_ ?_
  .intro h5 h6;have NQ:R=false:=by
    rw[<-hR];cases D':cQ a with
    | false=>rfl
    | true=>
     exfalso;have:=(cv la).1 D' i (by omega);rw[uk] at this;exact h5 (bh.2 this)
   subst NQ;refine ae h6 ?_;exact bj rfl
  intro h5 h6;refine ae h6 ?_;refine aw (i+1) ?_ ⟨by omega,lF (bh.1 h5)⟩;exact tN [0]
 intro h1 h2;have NQ:R=true:=by
  rw[<-hR];exact(cv la).2 (fun j hj=>bA j (by omega))
 subst NQ;refine ae h2 ?_;exact bj rfl
theorem TC {ls:List (List Raw)} (h: ∀ l∈ls,l.length=9):(∀ y,y∈au ls->y.length=27)=True:=by
 refine eq_true (fun y hy=>?_);obtain⟨l,hl,rfl⟩:=mem_map.1 hy;rw[aO,h l hl]
theorem TD (ls:List (List Raw)) (h9: ∀ l∈ls,l.length=9) (hn:ls.length<=1000):Den Tryz.prog 106 [] [.fv (.sl (au ls))] [.row true (au ls)] (.lsl 0 0 ls.length 27):=by
 cases ls with
 | nil=>
  show Den Tryz.prog 106 [] ([]++ .fv (.sl [])::[]) [.row true []] (.lsl 0 0 0 27);refine Den.empty' ?_ (fun b o cap=>?_)
  .show Den Tryz.prog 106 [] [.nilsl] [.row true []] (.lsl 0 0 0 27);refine Lm JK JL Tryz.func106 (cd:=_) rfl (by decide) rfl (n:=7) rfl rfl ?_ 27 (by decide);refine bU @vU ?_;exact⟨_,rfl,cW,cW⟩
  .show Den Tryz.prog 106 [] [.fv (.lit (.slice (some ⟨b,o,none⟩) 0 cap))] [.row true []] (.lsl 0 0 0 27);refine dq Tryz.func106 7 0 ?_;refine aY ?_;exact RetOK.own rfl ⟨cW,cW⟩ rfl
 | cons a t=>
  have qW:=TC h9;have rl:=ay (a::t);have e:au (a::t)=cO a::au t:=rfl;rw[e] at qW rl ⊢;obtain⟨n,cP⟩:=ax ((a::t).length);rw[cP] at rl hn ⊢;obtain⟨us,gS⟩:=ax (cO a::au t);have zt:us.length=n:=by rw[<-gS];exact rl
  refine dq Tryz.func106 7 0 ?_;refine aY ?_;rw[gS] at qW ⊢;have U_:(au t).length+1=n:=by simpa using rl
  refine ae (aP qW U_) ?_;refine⟨⟨by omega,by omega⟩,?_⟩;exact RetOK.own rfl ⟨cW,cW⟩ rfl
theorem MI (ls:List (List Raw)) (i:Nat):List.take i (au ls)=au (ls.take i):=by simp[au]
theorem MJ (ls:List (List Raw)) (i:Nat):List.drop i (au ls)=au (ls.drop i):=by simp[au]
theorem P_ (ls:List (List Raw)) (i:Nat):au (ls.take i)++au (ls.drop (i+1))=au (lR ls i):=by simp[au,lR]
theorem adr (ls:List (List Raw)) (i:Nat) (hi:i<ls.length) (hn:ls.length<=1000):
 Den Tryz.prog 231 [.row true (au ls)] [.lsl 0 0 ls.length 27,.int .i64 i,.int .i64 ((i:Int)+1)] [.row true (au (lR ls i))] (.lsl 0 0 (ls.length - 1) 27):=by
 obtain⟨n,cP⟩:=ax ls.length
 have rl:=ay ls
 rw[cP] at rl hi hn ⊢
 have e1:((i:Int)+1).toNat=i+1:=by omega
 have e2:((i:Int)==(i:Int)+1)=false:=by rw[qx];omega
 have e3:i+(n - (i+1))=n - 1:=by omega
 have t1:=MI ls i
 have d1:=MJ ls (i+1)
 have dl:(au (ls.drop (i+1))).length=n - (i+1):=by rw[ay,length_drop,cP]
 have t2:List.take (n - (i+1)) (au (ls.drop (i+1)))=au (ls.drop (i+1)):=eo (by omega)
 have dd:=P_ ls i
 have ddl:(au (lR ls i)).length=n - 1:=by rw[ay];have:=tg (s:=ls) (i:=i) (by omega);omega
 obtain⟨Z,hZ⟩:=ax (List.drop (n - 1) (au ls))
 have Zl:Z.length=1:=by rw[<-hZ,length_drop,rl];omega
 obtain⟨D,hD⟩:=ax (au (lR ls i))
 rw[hD] at dd ddl ⊢
 have hWl:(D++Z).length=n:=by rw[qe,ddl,Zl];omega
 have hWt:List.take (n - 1) (D++Z)=D:=List.take_left' ddl
 refine dq Tryz.func231 30 1 ?_
 refine bU e1 ?_
 repeat refine ag ?_
 refine ae e2 ?_
 refine dw (by kernel_rfl) ?_
 refine ae (bT @Nat.sub_zero e1 t1 d1 t2 dl dd (bR e3 hZ rl)) ?_
 repeat refine ag ?_
 refine ae hWt ?_
 repeat refine ag ?_
 exact sq rfl ⟨cW,cW⟩ rfl trivial rfl rfl rfl
theorem WR {w:Nat}:co (replicate 9 rz) w=0:=by
 have rq:rz.q=0:=by
  unfold Raw.q rz gY;simp[val]
 unfold co;rw[qa,List.getElem?_replicate];split
 .exact rq
 exact rq
theorem pe {l:List Raw} {v w:Nat} {r:Raw} (h:w≠v):co (l.set v r) w=co l w:=by
 unfold co;rw[qa,qm (fun e=>h e.symm),<-qa]
def tv:List Raw:=(replicate 9 rz).set 8 (cn ((-1:Int):Rat))
theorem P':eL tv=dR ((-1:Int):Rat):=by
 have h9:tv.length=9:=by simp[tv]
 have hl:(b' tv).q=((-1:Int):Rat):=by
  decide+kernel
 have h0:(b' tv).q≠0:=by rw[hl];decide
 have ha:fX ((-1:Int):Rat)=1:=by decide+kernel
 have hn:IsCn (dR ((-1:Int):Rat)):=⟨(replicate 9 (0:Rat)).set 8 ((-1:Int):Rat),by simp[dR],by simp⟩;refine CW (jR h9) hn (fun i hi=>?_);rw[qc h9 h0 hi,hl,ha,r7 hi];by_cases h8:i=8
 .subst h8;rw[if_pos rfl];unfold tv co;rw[qa,qv (by simp),Option.getD_some,de];grind
 rw[if_neg h8];unfold tv;rw[pe h8,WR];grind
theorem TE:LOk 1 tv:=by
 refine⟨by simp[tv],fun r hr=>?_⟩;unfold tv at hr;rcases List.mem_or_eq_of_mem_set hr with h1 | h1
 .rw[List.eq_of_mem_replicate h1];exact⟨Dig.nil,Dig.nil,eB _,eB _⟩
 rw[h1];exact bC (bd_int (by decide))
theorem ahO:Den Tryz.prog 230 [] [] [] (.fv (.sl (au [dR ((-1:Int):Rat)]))):=by
 have AN:=xj (-1) (by decide);change Den Tryz.prog 74 [] [.int .i64 (-1)] [] (cn ((-1:Int):Rat)).v at AN;have hN:=Wv tv (TE.mono (by decide));change Den Tryz.prog 71 [] [RL tv] [] (RL (eL tv)) at hN;rw[P'] at hN;have gH:=eb ((-1:Int):Rat);have hF:flat tv=[.bool false,.fv (.sl []),.fv (.sl []),.bool false,.fv (.sl []),.fv (.sl []),.bool false,.fv (.sl []),.fv (.sl []),.bool false,.fv (.sl []),.fv (.sl []),.bool false,.fv (.sl []),.fv (.sl []),.bool false,.fv (.sl []),.fv (.sl []),.bool false,.fv (.sl []),.fv (.sl []),.bool false,.fv (.sl []),.fv (.sl []),.bool (cn ((-1:Int):Rat)).neg,.fv (.sl (u32s (cn ((-1:Int):Rat)).num)),.fv (.sl (u32s (cn ((-1:Int):Rat)).den))]:=rfl;unfold RL at hN;rw[hF] at hN;have r1:au [dR ((-1:Int):Rat)]=[cO (dR ((-1:Int):Rat))]:=rfl;rw[r1];obtain⟨c,hc⟩:=ax (cn ((-1:Int):Rat));rw[hc] at AN hN
 obtain⟨y,hy⟩:=ax (dR ((-1:Int):Rat));rw[hy] at hN gH ⊢;have gy:=ah y;have pN:=ar gH;have uh:=aF gH;unfold Raw.v at AN;refine dq Tryz.func230 5 0 ?_;refine aY ?_;refine aV AN ?_;refine ba ?_;refine aV hN ?_;refine b_ (bR gy gH uh) ?_;exact bj rfl
theorem TF {s:List (List Raw)} {i:Nat} (hg:GoodT s) (hi:i<s.length):CsOk (lR s i++[cK (s.getD i [])])/\aZ (lR s i++[cK (s.getD i [])])=pa s i/\Pre (lR s i++[cK (s.getD i [])]):=by
 have hl:=tg hi;obtain⟨h1,h2⟩:=hg.turn (t:=lR s i) (fun l hl=>th hl) (bI hi) (by omega);have h9: ∀ l∈lR s i++[cK (s.getD i [])],l.length=9:=fun l hl=>(h2.ok l hl).len
 refine⟨⟨fun l hl=>(h2.ok l hl).mono (by decide),by have:=h2.len;omega,?_,h1,fun l hl _=>h2.ok l hl⟩,Fi h9 h2.nc,h2⟩;have h3:=lQ (lR s i++[cK (s.getD i [])]);have h4:=hg.good.len;rw[qe,Hv] at h3;omega
theorem ahP (cs:List (List Raw)) (h:D3 cs):Den Tryz.prog 198 [] [.fv (.sl (au cs))] [] (.fv (.sl (au (aU cs)))):=by
 obtain⟨R,hR⟩:=ax (aU cs);rw[hR];unfold aU aZ at hR;have D_:=ado cs h.cs;have vV:=h.good;have RV:=ahL _ vV.good;have NI:=ahO;cases ZW:fQ cs with
 | true=>
  rw[ZW,if_pos rfl] at D_;rw[ZW] at hR;have NQ:R=[dR ((-1:Int):Rat)]:=hR.symm;subst NQ;refine dq Tryz.func198 46 0 ?_;refine aY ?_;refine aV D_ ?_;refine ae @Bool.not_false ?_;refine aV NI ?_;refine ba ?_;exact bj rfl
 | false=>
  rw[ZW,if_neg (by simp)] at D_;rw[ZW] at hR;cases RH:ei (sysL cs []) with
  | false=>
   rw[RH] at hR RV;have NQ:R=[dR ((-1:Int):Rat)]:=hR.symm;subst NQ;refine dq Tryz.func198 46 0 ?_;refine aY ?_;refine aV D_ ?_;refine ae @Bool.not_true ?_;refine aV RV ?_;refine ae @Bool.not_false ?_;refine aV NI ?_;refine ba ?_;exact bj rfl
  | true=>
   rw[RH,Bool.not_false,Bool.and_true,if_pos rfl] at hR;rw[RH] at RV;obtain⟨s0,Lr⟩:=ax (sysL cs []);rw[Lr] at D_ vV RV hR;have mU:=xj (-1) (by decide);change Den Tryz.prog 74 [] [.int .i64 (-1)] [] (cn ((-1:Int):Rat)).v at mU;have qV: ∀ b:List Raw,LOk 1000 b->Den Tryz.prog 135 [] [RL b,(cn ((-1:Int):Rat)).v] [] (RL (cK b)):=fun b hb=>by
    have:=JY b (cn ((-1:Int):Rat)) (hb.mono (by decide)) (bC (Bd.mono (show Bd 1 ((-1:Int):Rat) from⟨by decide,by decide⟩) (by decide)));rw[de] at this;exact this
   obtain⟨c,hc⟩:=ax (cn ((-1:Int):Rat));rw[hc] at mU qV;unfold Raw.v at mU qV;refine dq Tryz.func198 46 0 ?_;refine aY ?_;refine aV D_ ?_;refine ae @Bool.not_true ?_;refine aV RV ?_;refine ae @Bool.not_true ?_;refine aV mU ?_;refine ba ?_
   repeat refine ag ?_
   refine wl (α:=Nat×List (List Raw)) (fun⟨i,s⟩=>⟨[.fv (.sl (au cs)),.any,.nilsl,.fv (.sl (au s)),.bool true,.ptr 0 0 0,.int .i64 i]++replicate 40 .any,[.box true [.bool c.neg,.fv (.sl (u32s c.num)),.fv (.sl (u32s c.den))]]⟩)
    (fun⟨i,s⟩=>s.length - i) (fun⟨i,s⟩=>i<=s.length/\GoodT s/\jq (s.length - i) i s=R) (0,s0) ?_ ?_ ?_
   .exact bQ [0]
   .exact⟨eB _,vV,hR⟩
   rintro⟨i,s⟩ ⟨hi,hg,gh⟩;have Vv:=hg.good.len;have oN:=hg.good.lim;obtain⟨n,cP⟩:=ax s.length;have rl:=ay s;rw[cP] at rl Vv hi gh;refine bU rl ?_;refine bS ?_ ?_
   .intro h1 h2;have gF:i<s.length:=by omega
    have bm:=bI (ls:=s) (i:=i) gF;have r1:=bK s i;obtain⟨eR,ajB,_⟩:=TF hg gF;have G9:=adq _ eR;rw[ajB] at G9;have Ck:=TD s (fun l hl=>(oN l hl).len) (by omega);have ZY:=adr s i gF (by omega);have Lz:=tg gF;have ZZ:=TD (lR s i) (fun l hl=>(oN l (th hl)).len) (by omega);have AE:=hg.sub (tf (s:=s) (i:=i));have h8:n - i=(n - (i+1))+1:=by omega
    rw[h8] at gh;unfold jq at gh;rw[if_pos gF] at gh;obtain⟨b,hb⟩:=ax (pa s i);rw[hb] at G9 gh;obtain⟨x,mZ⟩:=ax (s.getD i []);rw[mZ] at bm r1 G9;have hx:=oN x bm;have lx:=hx.len;have rB:=aF lx;have fx:=aO x;have gx:=ah x;have nZ:=ar lx;have Ho:=qV x hx;have gH:=d' lx;have rd:=ay (lR s i);have cG:=dc (lR s i) (cK x);have Vy:(lR s i).length=n - 1:=by omega
    rw[Vy] at rd ZZ;have tkd:=b9 (ls:=lR s i) (n:=n - 1) (by omega);obtain⟨dd,DH⟩:=ax (lR s i);rw[DH] at G9 ZY ZZ AE rd cG gh Vy tkd;obtain⟨y,hy⟩:=ax (cK x);rw[hy] at G9 Ho gH cG;have gy:=ah y;have uh:=aF gH;have pN:=ar gH;have ae5:(dd++[y]).length=n - 1+1:=by rw[qe,Vy];rfl
    have rll:=ay (dd++[y]);rw[ae5] at rll;rw[cP] at Ck ZY;have hsh: ∀ (H:List Ob) (a b:FV),shutBs H 1 [.lsl 1 0 n 27,.fv a,.fv b]=H:=fun _ _ _=>rfl
    have h0n:0+(n - 1)<=(au dd).length:=by omega
    unfold RL at Ho;refine ae h2 ?_;refine aV Ck ?_;refine ba ?_;refine ig 1 ZY trivial ?_;simp -dsimp(disch:=omega) only[append_nil,lent,hsh,jJ,reduceAdd];refine Draw.freeze [1] (by kernel_rfl) ?_;refine ba ?_;refine gp ZZ (by simp[cw,gW,fS,fB,rd,tkd]) ?_;refine b_ (im r1 rB fx lx rl) ?_
    repeat refine ag ?_
    refine kO Ho ?_;refine b_ (fE gy gH uh rd tkd cG) ?_
    repeat refine ag ?_
    refine GoCall.show G9 (Plain.lit _) (by omega) rfl ?_;cases b with
    | true=>
     rw[if_pos rfl] at gh;refine ba ?_;refine aw (i+1,s) ?_ ⟨by omega,hg,by rw[cP];exact gh⟩;exact bQ [0]
    | false=>
     rw[if_neg (by simp)] at gh;refine ba ?_;refine aw (i,dd) ?_ ⟨by omega,AE,by rw[Vy,show n - 1 - i=n - (i+1) by omega];exact gh⟩;refine Weak.fz 3 1 0 (n - 1) 27 (au dd) rfl rfl (by omega) ?_;refine eS [0] ?_ ?_
     .simp[bk,dV,cC,tkd]
     simp[et,fK,dp,cC]
   intro h1 h2;have gF:i=n:=by omega
   have h8:n - i=0:=by omega
   rw[h8] at gh;have ae6:s=R:=gh;subst ae6;refine ae h2 ?_;exact bj rfl
theorem ahQ (cs:List (List Raw)) (h:D3 cs) (hl:cs.length<=40):Den Tryz.prog 156 [] [.fv (.sl (au cs))] [] (.tup [.fv (.sl (au (aU cs))),.int .i64 0]):=by
 have h81:=ahP cs h;have rl:=ay cs;have e1:decide ((cs.length:Int)>40)=false:=sA;refine dq Tryz.func156 8 0 ?_;refine bU (aP rl e1) ?_;refine aV h81 ?_;refine ba ?_;exact bj rfl
def gC (Ls:List (List RR)):List (List FV):=Ls.map (fun l=>[FV.sl (aX l)])
theorem Ag (Ls:List (List RR)):(gC Ls).length=Ls.length:=by simp[gC]
theorem vJ {Ls:List (List RR)} {i:Nat} (h:i<Ls.length):(gC Ls).getD i []=[FV.sl (aX (Ls.getD i []))]:=by simp[gC,h]
theorem qw {α:Type} {l:List α} {d:α} {i:Nat} (h:i<l.length):l.getD i d∈l:=by
 rw[qa,qb h];exact ki h
theorem yh {α:Type} {l:List α} {d:α} {i:Nat} (h:i<l.length):l.take (i+1)=l.take i++[l.getD i d]:=by
 rw[List.take_succ_eq_append_getElem h,qa,qb h];rfl
structure MK (ts:List RT):Prop where
 ok:TsOk 1000000000 ts
 pb:PB 1000000000 (ts.map tq)
 len:ts.length<=10000000000
 srt:(nfR ts).length<=bH
def iE (r:RR):Bool:=decide (40<r.1.length)
def f3 (l:List RR):Bool:=decide (4000<l.length)||l.any iE
def kE (l:List RR):Bool:=l.all (fun r=>validB r.2)
def qO (Ls:List (List RR)):Int:=if Ls.any f3=true then 9 else if Ls.all kE=true then 0 else 2
theorem WS {ts:List RT} (h:MK ts):Den Tryz.prog 61 [] [PL ts] [] (if validB ts then .tup [PL ((nfR ts).map tn),.int .i64 0] else .tup [.fv (.sl []),.int .i64 2]):=by
 cases hv:validB ts with
 | true=>exact Tj ts h.ok h.pb h.len h.srt hv
 | false=>exact WG ts h.ok h.len hv
theorem WT (Ls:List (List RR)) (hn:Ls.length<=10) (aD: ∀ l∈Ls,l.length<=1000000) (hp: ∀ l∈Ls,∀ r∈l,MK r.2) (hc: ∀ l∈Ls,∀ r∈l,r.1.length<=1000000):
 Den Tryz.prog 105 [] [.fv (.sl (gC Ls))] [] (.int .i64 (qO Ls)):=by
 have rl:=Ag Ls
 obtain⟨n,cP⟩:=ax Ls.length
 rw[cP] at rl hn
 obtain⟨R,hR⟩:=ax (qO Ls)
 rw[hR]
 unfold qO at hR
 refine dq Tryz.func105 55 0 ?_
 refine bU rl ?_
 refine wl (α:=Nat) (fun i=>⟨[.fv (.sl (gC Ls)),.any,.int .i64 0,.any,.any,.any,.any,.any,.any,.any,.any,.any,.any,.fv (.sl (gC Ls)),.int .i64 n,.int .i64 i]++replicate 40 .any,[]⟩)
  (fun i=>n - i) (fun i=>i<=n/\(Ls.take i).any f3=false) 0 ?_ ?_ ?_
 .exact bQ []
 .exact⟨eB _,rfl⟩
 rintro i ⟨h1,h2⟩
 refine aY ?_
 refine bS ?_ ?_
 .intro g1 g2
  have rx:=vJ (Ls:=Ls) (i:=i) (by omega)
  have hm:=qw (l:=Ls) (d:=[]) (i:=i) (by omega)
  have ez:=yh (l:=Ls) (d:=[]) (i:=i) (by omega)
  obtain⟨l,hl⟩:=ax (Ls.getD i [])
  rw[hl] at rx hm ez
  have oP:=aD l hm
  have fC:=hc l hm
  have rll:=bt l
  obtain⟨m,NO⟩:=ax l.length
  rw[NO] at rll oP
  have Vz:f3 l=true->Ls.any f3=true:=fun h=>jU hm h
  by_cases h4:4000<m
  .have e1:decide ((m:Int)>4000)=true:=GV
   have hb:f3 l=true:=by unfold f3;rw[NO,ir h4];rfl
   rw[if_pos (Vz hb)] at hR
   subst hR
   refine ae (im g2 rx rl rll e1) ?_
   repeat refine ag ?_
   exact bj rfl
  have e1:decide ((m:Int)>4000)=false:=sA
  refine ae (im g2 rx rl rll e1) ?_
  repeat refine ag ?_
  refine wl (α:=Nat) (fun j=>⟨[.fv (.sl (gC Ls)),.any,.int .i64 0,.any,.any,.any,.any,.any,.any,.any,.any,.any,.any,.fv (.sl (gC Ls)),.int .i64 n,.int .i64 i,.any,.any,.any,.any,.any,.any,.fv (.sl (aX l)),.int .i64 m,.int .i64 j]++replicate 31 .any,[]⟩)
   (fun j=>m - j) (fun j=>j<=m/\(l.take j).any iE=false) 0 ?_ ?_ ?_
  .exact bQ []
  .exact⟨eB _,rfl⟩
  rintro j ⟨k1,k2⟩
  refine aY ?_
  refine bS ?_ ?_
  .intro g3 g4
   have ry:=eG (l:=l) (i:=j) (by omega)
   have lr:=ke (l:=l) (i:=j) (by omega)
   have RY:=nJ (l:=l) (i:=j) (by omega)
   obtain⟨r,hr⟩:=ax (l.getD j r8)
   rw[hr] at ry lr RY
   have hrc:=fC r lr
   have rlc:=ay r.1
   unfold BM at ry
   by_cases vX:40<r.1.length
   .have e2:decide ((r.1.length:Int)>40)=true:=GV
    have hb:f3 l=true:=by
     unfold f3;rw[jU lr (show iE r=true from ir vX),Bool.or_true]
    rw[if_pos (Vz hb)] at hR
    subst hR
    refine ae (im g4 ry rll rlc e2) ?_
    repeat refine ag ?_
    exact bj rfl
   have e2:decide ((r.1.length:Int)>40)=false:=sA
   refine ae (im g4 ry rll rlc e2) ?_
   repeat refine ag ?_
   refine aw (j+1) ?_ ⟨by omega,by rw[RY,any_append,k2];simp[iE];omega⟩
   exact bQ []
  intro g3 g4
  have hjm:j=m:=by omega
  have gv:l.take j=l:=eo (by omega)
  rw[gv] at k2
  refine ae g4 ?_
  refine aw (i+1) ?_ ⟨by omega,by
   rw[ez,any_append,h2];have:f3 l=false:=by unfold f3;rw[k2,NO,m5 h4];rfl
   simp[this]⟩
  exact bQ []
 intro g1 g2
 have gF:i=n:=by omega
 have gv:Ls.take i=Ls:=eo (by omega)
 rw[gv] at h2
 rw[if_neg (by rw[h2];decide)] at hR
 clear hc
 refine ae (aP g2 rl) ?_
 refine wl (α:=Nat) (fun i=>⟨[.fv (.sl (gC Ls)),.any,.int .i64 0,.any,.any,.any,.any,.any,.any,.any,.any,.any,.any]++replicate 21 .any++[.fv (.sl (gC Ls)),.int .i64 n,.int .i64 i]++replicate 19 .any,[]⟩)
  (fun i=>n - i) (fun i=>i<=n/\(Ls.take i).all kE=true) 0 ?_ ?_ ?_
 .exact bQ []
 .exact⟨eB _,rfl⟩
 rintro i ⟨h1,h2⟩
 refine aY ?_
 refine bS ?_ ?_
 .intro g1 g2
  have rx:=vJ (Ls:=Ls) (i:=i) (by omega)
  have hm:=qw (l:=Ls) (d:=[]) (i:=i) (by omega)
  have ez:=yh (l:=Ls) (d:=[]) (i:=i) (by omega)
  obtain⟨l,hl⟩:=ax (Ls.getD i [])
  rw[hl] at rx hm ez
  have oP:=aD l hm
  have m4:=hp l hm
  have rll:=bt l
  obtain⟨m,NO⟩:=ax l.length
  rw[NO] at rll oP
  refine ae (eg g2 rx rl rll) ?_
  repeat refine ag ?_
  refine wl (α:=Nat) (fun j=>⟨[.fv (.sl (gC Ls)),.any,.int .i64 0,.any,.any,.any,.any,.any,.any,.any,.any,.any,.any]++replicate 21 .any++[.fv (.sl (gC Ls)),.int .i64 n,.int .i64 i,.any,.any,.any,.fv (.sl (aX l)),.int .i64 m,.int .i64 j]++replicate 13 .any,[]⟩)
   (fun j=>m - j) (fun j=>j<=m/\(l.take j).all (fun r=>validB r.2)=true) 0 ?_ ?_ ?_
  .exact bQ []
  .exact⟨eB _,rfl⟩
  rintro j ⟨k1,k2⟩
  refine aY ?_
  refine bS ?_ ?_
  .intro g3 g4
   have ry:=eG (l:=l) (i:=j) (by omega)
   have lr:=ke (l:=l) (i:=j) (by omega)
   have RY:=nJ (l:=l) (i:=j) (by omega)
   obtain⟨r,hr⟩:=ax (l.getD j r8)
   rw[hr] at ry lr RY
   have Cn:=WS (m4 r lr)
   unfold BM at ry
   cases hv:validB r.2 with
   | false=>
    have hb:Ls.all kE=false:=by
     cases ha:Ls.all kE with
     | false=>rfl
     | true=>
      have:=List.all_eq_true.1 (List.all_eq_true.1 ha l hm) r lr;rw[hv] at this;cases this
    rw[hb,if_neg (by decide)] at hR;rw[hv,if_neg (by decide)] at Cn;subst hR;have e2:((2:Int) !=0)=true:=rfl;refine ae (bR g4 ry rll) ?_
    repeat refine ag ?_
    refine aV Cn ?_;refine ae e2 ?_;exact bj rfl
   | true=>
    rw[hv,if_pos rfl] at Cn;have e2:((0:Int) !=0)=false:=rfl;refine ae (bR g4 ry rll) ?_
    repeat refine ag ?_
    refine aV Cn ?_;refine ae e2 ?_;refine aw (j+1) ?_ ⟨by omega,by rw[RY,qvb,k2];simp[hv]⟩;exact bQ []
  intro g3 g4
  have hjm:j=m:=by omega
  have gv:l.take j=l:=eo (by omega)
  rw[gv] at k2
  refine ae g4 ?_
  refine aw (i+1) ?_ ⟨by omega,by
   rw[ez,qvb,h2];have:kE l=true:=k2;simp[this]⟩
  exact bQ []
 intro g1 g2
 have gF:i=n:=by omega
 have gv:Ls.take i=Ls:=eo (by omega)
 rw[gv] at h2
 rw[if_pos h2] at hR
 subst hR
 refine ae g2 ?_
 exact bj rfl
end Go.Proofs.YtjjbkjgifdhlcaaGreat
namespace Go.Pl
open Go.AM
def jV (s:List RC) (i j:Nat):List RC:=(s.take j).drop i
def polyS' (l:List RC):List Tm:=nf (l.flatMap (·.2))
structure MgI (s M:List RC) (i:Nat):Prop where
 nf:NF M
 lt: ∀ x∈M,∀ y∈s.drop i,cR x.1 y.1<0
 sum: ∀ k m,CnK k->db k m M=db k m (s.take i)
theorem MgI.start (s:List RC):MgI s [] 0:=⟨.nil,by simp,fun k m _=>by rw[List.take_zero]⟩
theorem yi {s:List RC} {i j:Nat} (pL:i<=j):(jV s i j++(s.take i++s.drop j)).Perm s:=by
 have h1:s=s.take i++jV s i j++s.drop j:=by
  unfold jV;have h2:s.take i=(s.take j).take i:=by rw[List.take_take,Nat.min_eq_left pL]
  rw[h2,List.take_append_drop,List.take_append_drop]
 conv=>rhs;rw[h1]
 rw[<-append_assoc];exact List.Perm.append_right _ List.perm_append_comm
theorem Fw {s:List RC} {i j:Nat} {x:RC} (pL:i<=j) (hj:s[j]?=some x):jV s i (j+1)=jV s i j++[x]:=by
 unfold jV;have hl:j<s.length:=(List.getElem?_eq_some_iff.1 hj).1;have hx:s[j]=x:=(List.getElem?_eq_some_iff.1 hj).2;rw[List.take_succ_eq_append_getElem hl,List.drop_append_of_le_length (by rw[length_take];omega),hx]
theorem C0 {s:List RC} {i:Nat} {x:RC} (hi:s[i]?=some x):jV s i (i+1)=[x]:=by
 rw[Fw (qp _) hi];unfold jV;rw[List.drop_of_length_le (by rw[length_take];omega)];rfl
theorem KC {s:List RC} {i j:Nat} {x:RC} (h:x∈jV s i j):x∈s:=AY (VN h)
theorem RcOk.flat {l:List RC} (h:RcOk l):Len8 (l.flatMap (·.2)):=fun t ht=>by
 obtain⟨r,hr,h2⟩:=List.mem_flatMap.1 ht;exact(h r hr).2.len t h2
theorem ML {l:List RC} {x:RC} (hl:RcOk l) (hx:Canon x.2):nf (polyS' l++x.2)=polyS' (l++[x]):=by
 unfold polyS';rw[qyb,List.flatMap_singleton];exact Eqv.nf_eq ((Eqv.nf _).app (Eqv.refl _)) (Len8.app (Len8.nf hl.flat) hx.len) (Len8.app hl.flat hx.len)
theorem tw {x:RC} (hx:Canon x.2):polyS' [x]=x.2:=by
 unfold polyS';rw[List.flatMap_singleton,e_ hx]
theorem Fx {k:Kc} {m:Mn}: ∀ {l:List RC},(∀ x∈l,x.1=k)->db k m l=bP m (l.flatMap (·.2))
 | [],_=>rfl
 | x::l,h=>by
  rw[db,if_pos (h x (by simp)),Fx (fun y hy=>h y (ql _ hy)),List.flatMap_cons,fZ]
theorem Ij {k k2:Kc} {m:Mn} {l:List RC} (h: ∀ x∈l,x.1=k) (hk:k≠k2):db k2 m l=0:=qu (fun x hx he=>hk ((h x hx).symm.trans he))
theorem MgI.step {s M:List RC} {i j:Nat} {k:Kc} (hs:s.Pairwise (fun a b=>cR a.1 b.1<=0)) (bg:RcOk s) (h:MgI s M i) (pL:i<j) (hj:j<=s.length)
 (hk: ∀ x∈jV s i j,x.1=k) (zz: ∀ y,s[j]?=some y->cR y.1 k≠0):
 MgI s (if polyS' (jV s i j)=[] then M else M++[(k,polyS' (jV s i j))]) j:=by
 have dW:i<s.length:=by omega
 have Vh:s[i]?=some s[i]:=qb dW
 have ae7:s[i]∈jV s i j:=by
  unfold jV;have:s[i]=(s.take j)[i]'(by rw[length_take];omega):=by rw[List.getElem_take]
  rw[this];have h2:i<(s.take j).length:=by rw[length_take];omega
  rw[drop_eq_getElem_cons h2];simp
 have Lx:s[i].1=k:=hk _ ae7
 have ae8:CnK k:=by rw[<-Lx];exact(bg _ (ki dW)).1
 have Jd:s[i]∈s.drop i:=by rw[drop_eq_getElem_cons dW];exact List.mem_cons_self
 have hdj: ∀ y∈s.drop j,y∈s.drop i:=fun y hy=>by
  have:s.drop j=(s.drop i).drop (j - i):=by rw[List.drop_drop];congr 1;omega
  rw[this] at hy;exact VN hy
 have ae9: ∀ y∈s.drop j,cR k y.1<0:=fun y hy=>by
  have lD:j<s.length:=by
   have:=length_pos_of_mem hy;rw[length_drop] at this;omega
  have cX:=zz s[j] (qb lD);have dT:cR s[i].1 s[j].1<=0:=List.pairwise_iff_getElem.1 hs i j dW lD pL;rw[Lx] at dT;have Jk:=gf s[j].1 k;have hcj:=(bg s[j] (ki lD)).1;rw[drop_eq_getElem_cons lD] at hy;rcases List.mem_cons.1 hy with h1 | h1
  .rw[h1];omega
  obtain⟨q,hq,rfl⟩:=List.mem_iff_getElem.1 h1;rw[List.getElem_drop] at*;rw[length_drop] at hq;have h2:=List.pairwise_iff_getElem.1 hs j (j+1+q) lD (by omega) (by omega);exact x_ ae8 hcj (bg _ (ki _)).1 (by omega) h2
 have Jq:RcOk (jV s i j):=fun x hx=>bg x (KC hx)
 have gh:Canon (polyS' (jV s i j)):=cS Jq.flat
 have gv:s.take j=s.take i++jV s i j:=by
  unfold jV;have h2:s.take i=(s.take j).take i:=by rw[List.take_take,Nat.min_eq_left (by omega)]
  rw[h2,List.take_append_drop]
 have jD: ∀ k2 m,db k2 m (jV s i j)=if k=k2 then bP m (polyS' (jV s i j)) else 0:=fun k2 m=>by
  by_cases hc:k=k2
  .rw[if_pos hc,<-hc,Fx hk];unfold polyS';rw[rN]
  rw[if_neg hc,Ij hk hc]
 by_cases hp:polyS' (jV s i j)=[]
 .rw[if_pos hp]
  refine⟨h.nf,fun x hx y hy=>h.lt x hx y (hdj y hy),fun k2 m iQ=>?_⟩
  rw[gv,k6,h.sum k2 m iQ,jD,hp]
  simp[bP];grind
 rw[if_neg hp]
 refine⟨⟨?_,fun x hx=>?_,fun x hx=>?_,fun x hx=>?_⟩,fun x hx y hy=>?_,fun k2 m iQ=>?_⟩
 .rw[List.pairwise_append]
  refine⟨h.nf.sorted,List.pairwise_singleton _ _,fun x hx y hy=>?_⟩
  rw[qz] at hy
  subst hy
  have:=h.lt x hx _ Jd
  rw[Lx] at this
  exact this
 .rcases List.mem_append.1 hx with h1 | h1
  .exact h.nf.cn x h1
  rw[qz] at h1;subst h1;exact ae8
 .rcases List.mem_append.1 hx with h1 | h1
  .exact h.nf.can x h1
  rw[qz] at h1;subst h1;exact gh
 .rcases List.mem_append.1 hx with h1 | h1
  .exact h.nf.ne x h1
  rw[qz] at h1;subst h1;exact hp
 .rcases List.mem_append.1 hx with h1 | h1
  .exact h.lt x h1 y (hdj y hy)
  rw[qz] at h1;subst h1;exact ae9 y hy
 rw[k6,h.sum k2 m iQ,gv,k6,jD,db,db];grind
theorem MgI.done {s M l:List RC} (h:MgI s M s.length) (hp:s.Perm l) (hl:RcOk l):M=oC l:=
 h.nf.of hl (fun k m hk=>by rw[h.sum k m hk,List.take_length,MC hp])
end Go.Pl
namespace Go.Proofs.YtjjbkjgifdhlcaaGreat
open Go.AM Go.Pl
set_option maxRecDepth 100000
set_option maxHeartbeats 4000000
theorem TG {cs:List (List Raw)} (h:D3 cs):(∀ l∈aU cs,IsCn l/\LOk 1000 l)/\(aU cs).length<=40:=by
 unfold aU;split
 .have hg:=i5 h.good;exact⟨fun l hl=>⟨hg.good.cnf l hl,hg.good.lim l hl⟩,by have:=hg.good.len;exact gI (show(jq (sysL cs []).length 0 (sysL cs [])).length<=12 from this) (by decide)⟩
 refine⟨fun l hl=>?_,by decide⟩;rw[qz] at hl;subst hl;exact⟨⟨(replicate 9 (0:Rat)).set 8 ((-1:Int):Rat),by simp[dR],by simp⟩,uW.mono (by decide)⟩
noncomputable def mH (r:RR):Bool:=aZ r.1&&!(nfR r.2).isEmpty
noncomputable def normL (L:List RR):List RC:=(L.filter mH).map (fun r=>(aU r.1,nfR r.2))
theorem Ik {L:List RR} {r:RR}:normL (L++[r])=normL L++(if mH r then [(aU r.1,nfR r.2)] else []):=by
 unfold normL;rw[filter_append,vw];congr 1;cases h:mH r<;>simp[h]
structure Il (L:List RR):Prop where
 pg: ∀ r∈L,MK r.2
 val: ∀ r∈L,validB r.2=true
 cs: ∀ r∈L,r.1.length<=40->D3 r.1
 len:L.length<=1000000
 lim: ∀ r∈L,r.1.length<=1000000
 few:(normL L).length<20
 mer: ∀ t u:List RC,(t++u).Perm (normL L)->POk 10000000 1024 (polyS' t)/\(polyS' t).length<=bH
theorem Qa {L:List RR} (h:Il L) (hl:L.any iE=false):(∀ r∈normL L,CnK r.1/\AOk 1000 r.1/\r.1.length<=40)/\RcOk (normL L):=by
 have h1: ∀ r∈normL L,(CnK r.1/\AOk 1000 r.1/\r.1.length<=40)/\Canon r.2:=fun r hr=>by
  unfold normL at hr;obtain⟨x,hx,rfl⟩:=mem_map.1 hr;have qS:=(List.mem_filter.1 hx).1;have dT:x.1.length<=40:=by
   cases hc:iE x with
   | false=>simpa [iE] using hc
   | true=>rw[jU qS hc] at hl;cases hl
  obtain⟨c1,c2⟩:=TG (h.cs x qS dT);exact⟨⟨fun f hf=>(c1 f hf).1,fun f hf=>(c1 f hf).2,c2⟩,cS (s_ (h.pg x qS).ok.l8)⟩
 exact⟨fun r hr=>(h1 r hr).1,fun r hr=>⟨(h1 r hr).1.1,(h1 r hr).2⟩⟩
theorem Fy {a:List RR} {b:List RC} (h:a.Perm (b.map rn)): ∃ s:List RC,a=s.map rn/\s.Perm b:=by
 have h2:(a.map (fun r=>((r.1,r.2.map tq):RC))).Perm b:=by
  have:=h.map (fun r=>((r.1,r.2.map tq):RC));rw[List.map_map] at this;have e:((fun r=>((r.1,r.2.map tq):RC)) ∘ rn)=id:=by
   funext x;show(x.1,(x.2.map tn).map tq)=x;rw[bF]
  rw[e,List.map_id] at this;exact this
 refine⟨_,?_,h2⟩;rw[List.map_map]
 conv=>lhs;rw[<-List.map_id a]
 refine List.map_congr_left (fun x hx=>?_);obtain⟨y,_,rfl⟩:=mem_map.1 (h.mem_iff.1 hx);show rn y=(y.1,((y.2.map tn).map tq).map tn);rw[bF];rfl
noncomputable def Qb (L:List RR):PV:=if L.any iE=true then .tup [.fv (.sl []),.int .i64 9] else .tup [RL' ((oC (normL L)).map rn),.int .i64 0]
theorem WU (L:List RR) (h:Il L):Den Tryz.prog 107 [] [RL' L] [] (Qb L):=by
 have rl:=bt L;have aD:=h.len;obtain⟨n,cP⟩:=ax L.length;rw[cP] at rl aD;obtain⟨R,hR⟩:=ax (Qb L);rw[hR];unfold Qb at hR;refine dq Tryz.func107 121 0 ?_;refine bU rl ?_;refine wl (α:=Nat×List RC) (fun⟨i,out⟩=>⟨[RL' L,.any,.nilsl,.int .i64 0,.lsl 0 0 out.length 2,.any,.any,.any,.any,.any,.any,.any,.any,.any,.any,RL' L,.int .i64 n,.int .i64 i]++replicate 104 .any,[.row true (aX (out.map rn))]⟩)
  (fun⟨i,_⟩=>n - i) (fun⟨i,out⟩=>i<=n/\out=normL (L.take i)/\(L.take i).any iE=false) (0,[]) ?_ ?_ ?_
 .refine Weak.nil 4 2 (by decide) rfl ?_;refine eS [0] ?_ ?_
  .simp[bk,dV,cC]
  simp[et,fK];simp[aX]
 .exact⟨eB _,rfl,rfl⟩
 rintro⟨i,out⟩ ⟨h1,h2,h3⟩;have vm:out.length<=i:=by
  rw[h2];unfold normL;rw[length_map];exact gI (List.length_filter_le _ _) (by rw[length_take];omega)
 obtain⟨M,hM⟩:=ax out.length;have rlo:=bt (out.map rn);rw[length_map,hM] at rlo;dsimp only;rw[hM] at vm ⊢;refine aY ?_;refine bS ?_ ?_
 .intro g1 g2;have ry:=eG (l:=L) (i:=i) (by omega);have hm:=ke (l:=L) (i:=i) (by omega);have ez:=nJ (l:=L) (i:=i) (by omega);obtain⟨r,hr⟩:=ax (L.getD i r8);rw[hr] at ry hm ez;have oN:=h.lim r hm;have rlc:=ay r.1;have Cn:=WS (h.pg r hm);rw[h.val r hm,if_pos rfl] at Cn;unfold BM at ry;by_cases vX:40<r.1.length
  .have e2:decide ((r.1.length:Int)>40)=true:=GV;rw[if_pos (jU hm (show iE r=true from ir vX))] at hR;subst hR;refine ae (im g2 ry rl rlc e2) ?_
   repeat refine ag ?_
   exact bj rfl
  have e2:decide ((r.1.length:Int)>40)=false:=sA;have e3:((0:Int) !=0)=false:=rfl;have eR:=h.cs r hm (by omega);have h20:=ahM r.1 eR.cs (by omega);have ud:=ahQ r.1 eR (by omega);have wX:=Ik (L:=L.take i) (r:=r);have hlr:iE r=false:=m5 vX;have rlp:=av ((nfR r.2).map tn);rw[length_map] at rlp;have Z0:mH r=(aZ r.1&&!(nfR r.2).isEmpty):=rfl;have dX:=(h.pg r hm).srt;have NL:=kC;obtain⟨b,hb⟩:=ax (aZ r.1);obtain⟨q,hq⟩:=ax (nfR r.2);obtain⟨c,hc⟩:=ax (aU r.1);rw[hb] at h20 Z0;rw[hq] at Cn Z0 wX rlp dX;rw[hc] at ud wX;refine ae (im g2 ry rl rlc e2) ?_
  repeat refine ag ?_
  refine aV Cn ?_;refine ae e3 ?_;refine aV h20 ?_;by_cases jG:b=false
  .subst jG;rw[show mH r=false from Z0,if_neg (by decide),append_nil] at wX;refine ae (aP e3 @Bool.not_false) ?_;refine aw (i+1,out) ?_ ⟨by omega,by rw[ez,wX,h2],by rw[ez,any_append,h3];simp[hlr]⟩;exact bQ [0]
  have iQ:b=true:=by simpa using jG
  subst iQ;by_cases NG:q=[]
  .have e4:((q.length:Int)==0)=true:=by rw[NG];rfl
   rw[show mH r=false by rw[Z0,NG];rfl,if_neg (by decide),append_nil] at wX;refine ae (eg e3 @Bool.not_true rlp e4) ?_;refine aw (i+1,out) ?_ ⟨by omega,by rw[ez,wX,h2],by rw[ez,any_append,h3];simp[hlr]⟩;exact bQ [0]
  have e4:((q.length:Int)==0)=false:=by
   have:=length_pos_iff.2 NG;rw[qx];omega
  have mc:q.isEmpty=false:=by simpa using NG
  rw[show mH r=true by rw[Z0,mc];rfl,if_pos rfl] at wX;have cG:aX (out.map rn)++[[FV.sl (au c),FV.sl (aq (q.map tn))]]=aX ((out++[(c,q)]).map rn):=by
   rw[vw];exact g7 _ (rn (c,q))
  have tk:=dB (l:=out.map rn) (n:=M) (by rw[length_map];omega);refine ae (eg e3 @Bool.not_true rlp e4) ?_;refine aV ud ?_;refine ae (eg e3 tk cG rlo) ?_
  repeat refine ag ?_
  refine aw (i+1,out++[(c,q)]) ?_ ⟨by omega,by rw[ez,wX,h2],by rw[ez,any_append,h3];simp[hlr]⟩;exact bQ [3]
 intro g1 g2;have gF:i=n:=by omega
 have gv:L.take i=L:=eo (by omega);rw[gv] at h2 h3;rw[if_neg (by rw[h3];decide)] at hR;obtain⟨NR,DU⟩:=Qa h h3;have VA:=h.few;have Z3:=h.mer;rw[<-h2] at hR NR DU VA Z3;rw[hM] at VA;obtain⟨ls',eY,hpw,afa⟩:=adl (out.map rn) (fun r hr=>by
  obtain⟨x,hx,rfl⟩:=mem_map.1 hr;have:=(NR x hx).2.2;exact⟨(NR x hx).1,fun l hl=>((NR x hx).2.1 l hl).mono (by decide),show x.1.length<=1000 by omega⟩) (by rw[length_map];omega)
 obtain⟨s,rfl,md⟩:=Fy eY;rw[length_map,hM] at afa;have rA:s.length=M:=by rw[md.length_eq,hM]
 have RZ:RcOk s:=fun r hr=>DU r (md.mem_iff.1 hr)
 have f7: ∀ r∈s,AOk 1000 r.1/\r.1.length<=40:=fun r hr=>(NR r (md.mem_iff.1 hr)).2
 have Jk:s.Pairwise (fun a b=>cR a.1 b.1<=0):=by
  rw[List.pairwise_map] at hpw;refine hpw.imp (fun{a b} vo=>?_);have e:=gf a.1 b.1;have: ¬(cR b.1 a.1<0):=vo;omega
 have R0: ∀ t u:List RC,(t++u).Perm s->POk 10000000 1024 (polyS' t)/\(polyS' t).length<=bH:=fun t u hp=>Z3 t u (hp.trans md)
 have NL:=kC;have rls:=bt (s.map rn);rw[length_map,rA] at rls;have tks:=dB (l:=s.map rn) (n:=M) (by rw[length_map];omega);have NS:((0:Int) !=0)=false:=rfl;clear Z3 NR;refine ae g2 ?_;refine ig 0 afa trivial ?_;simp -dsimp(disch:=omega) only[append_nil,sl2,List.set_cons_zero,jJ];refine wl (α:=Nat×List RC) (fun⟨i,Mg⟩=>⟨[.any,.any,.nilsl,.int .i64 0,.fv (.sl (aX (s.map rn))),.any,.any,.any,.any,.any,.any,.lsl 0 0 Mg.length 2,.int .i64 i]++replicate 109 .any,[.row true (aX (Mg.map rn))]⟩)
  (fun⟨i,_⟩=>M - i) (fun⟨i,Mg⟩=>i<=M/\MgI s Mg i/\Mg.length<=i) (0,[]) ?_ ?_ ?_
 .refine Weak.shut [0] ?_;change Weak _ ⟨_,[Ob.row false (aX (s.map rn))]⟩ _;refine Weak.fz 4 0 0 M 2 (aX (s.map rn)) rfl rfl (by omega) ?_;refine Weak.nil 11 2 (by decide) rfl ?_;refine eS [1] ?_ ?_
  .simp[bk,dV,cC,tks]
  simp[et,fK];simp[aX]
 .exact⟨eB _,MgI.start s,qp _⟩
 rintro⟨i,Mg⟩ ⟨h1,hI,wV⟩;obtain⟨K,hK⟩:=ax Mg.length;have rlm:=bt (Mg.map rn);rw[length_map,hK] at rlm;dsimp only at wV ⊢;rw[hK] at wV ⊢;refine bU rls ?_;refine bS ?_ ?_
 .intro g1 g2;obtain⟨⟨k,p0⟩,hx⟩: ∃ x,s[i]?=some x:=⟨_,qb (by omega)⟩;have SH:(k,p0)∈s:=List.mem_of_getElem? hx;have ry:=eG (l:=s.map rn) (i:=i) (by rw[length_map];omega);rw[show(s.map rn).getD i r8=rn (k,p0) by rw[qa,List.getElem?_map,hx];rfl] at ry;change _=[FV.sl (au k),FV.sl (aq (p0.map tn))] at ry;have hkc:=RZ _ SH;have Lx:=f7 _ SH;dsimp only at hkc Lx;refine ae (bR g2 ry rls) ?_
  repeat refine ag ?_
  refine wl (α:=Nat×List Tm) (fun⟨j,p⟩=>⟨[.any,.any,.nilsl,.int .i64 0,.fv (.sl (aX (s.map rn))),.any,.any,.any,.any,.any,.any,.lsl 0 0 K 2,.int .i64 j,.ptr 1 0 0]++replicate 108 .any,[.row true (aX (Mg.map rn)),.box true [.fv (.sl (au k)),.fv (.sl (aq (p.map tn)))]]⟩)
   (fun⟨j,_⟩=>M - j) (fun⟨j,p⟩=>i<j/\j<=M/\(∀ x∈jV s i j,x.1=k)/\p=polyS' (jV s i j)) (i+1,p0) ?_ ?_ ?_
  .exact bQ [0,1]
  .exact⟨by omega,by omega,fun x qS=>by rw[C0 hx,qz] at qS;rw[qS],by rw[C0 hx,tw hkc.2]⟩
  rintro⟨j,p⟩ ⟨pL,hjM,Z4,hp⟩;have rlp:=av (p.map tn);rw[length_map] at rlp;refine aY ?_;refine dw (by kernel_rfl) ?_;refine ae rls ?_;refine bS ?_ ?_
  .intro g3 g4;obtain⟨⟨k2,p2⟩,hy⟩: ∃ x,s[j]?=some x:=⟨_,qb (by omega)⟩;have hym:(k2,p2)∈s:=List.mem_of_getElem? hy;have rz:=eG (l:=s.map rn) (i:=j) (by rw[length_map];omega);rw[show(s.map rn).getD j r8=rn (k2,p2) by rw[qa,List.getElem?_map,hy];rfl] at rz;change _=[FV.sl (au k2),FV.sl (aq (p2.map tn))] at rz;have VB:=RZ _ hym;have afb:=f7 _ hym;dsimp only at VB afb;have afc:=WN k2 k (fun l hl=>(afb.1 l hl).mono (by decide)) (fun l hl=>(Lx.1 l hl).mono (by decide)) (by omega) (by omega);obtain⟨c,hc⟩:=ax (cR k2 k);rw[hc] at afc;simp -dsimp(disch:=omega) only[g4,rz,rls,↓reduceIte,reduceAdd,Nat.reduceLT,Nat.reduceLeDiff,ru]
   repeat refine ag ?_
   refine aV afc ?_;by_cases Cl:c=0
   .have e4:(c==0)=true:=by rw[Cl];rfl
    have ajD:k2=k:=k5 VB.1 hkc.1 (by omega);have ez:=Fw (s:=s) (i:=i) (j:=j) (by omega) hy;have Jq:RcOk (jV s i j):=fun x hx=>RZ x (KC hx)
    have lF:=ML Jq (x:=(k2,p2)) VB.2;rw[<-ez,<-hp] at lF;dsimp only at lF;have m1:=R0 _ _ (yi (s:=s) (i:=i) (j:=j) (by omega));have m2:=R0 _ _ (yi (s:=s) (i:=i) (j:=j+1) (by omega));have m3:=R0 [(k2,p2)] _ (show([(k2,p2)]++_).Perm s from by
     have:=yi (s:=s) (i:=j) (j:=j+1) (by omega);rw[C0 hy] at this;exact this)
    rw[tw VB.2] at m3;rw[<-hp] at m1;rw[<-lF] at m2;have h97:=adf p p2 m1.1 m3.1 m1.2 m3.2 m2.2;obtain⟨p3,hp3⟩:=ax (nf (p++p2));rw[hp3] at h97 lF;refine ae e4 ?_;refine dw (by kernel_rfl) ?_;simp -dsimp(disch:=omega) only[rz,rls,↓reduceIte,reduceAdd,Nat.reduceLT,Nat.reduceLeDiff,ru]
    repeat refine ag ?_
    refine aV h97 ?_;refine ae NS ?_;refine aw (j+1,p3) ?_ ⟨by omega,by omega,fun x qS=>by
     rw[ez] at qS;rcases List.mem_append.1 qS with h9 | h9
     .exact Z4 x h9
     rw[qz] at h9;rw[h9];exact ajD,lF⟩
    exact bQ [0,1]
   have e4:(c==0)=false:=by rw[qx];exact Cl
   have zz: ∀ y,s[j]?=some y->cR y.1 k≠0:=fun y vj=>by
    rw[hy] at vj;cases vj;dsimp only;omega
   refine ae e4 ?_;have R1:=hI.step Jk RZ pL (by omega) Z4 zz;rw[<-hp] at R1;by_cases D8:p=[]
   .have e5:decide ((p.length:Int)>0)=false:=by rw[D8];rfl
    rw[if_pos D8] at R1;refine ae (aP rlp e5) ?_;refine aw (j,Mg) ?_ ⟨by omega,R1,by show Mg.length<=j;omega⟩;exact bQ [0]
   have m4:0<p.length:=length_pos_iff.2 D8;have e5:decide ((p.length:Int)>0)=true:=GV;rw[if_neg D8] at R1;have cG:aX (Mg.map rn)++[[FV.sl (au k),FV.sl (aq (p.map tn))]]=aX ((Mg++[(k,p)]).map rn):=by
    rw[vw];exact g7 _ (rn (k,p))
   have tk:=dB (l:=Mg.map rn) (n:=K) (by rw[length_map];omega);refine ae (im rlp e5 tk cG rlm) ?_
   repeat refine ag ?_
   refine aw (j,Mg++[(k,p)]) ?_ ⟨by omega,R1,by rw[qe,Hv];omega⟩;exact bQ [3]
  intro g3 g4;have zz: ∀ y,s[j]?=some y->cR y.1 k≠0:=fun y vj=>by
   rw[List.getElem?_eq_none (by omega)] at vj;cases vj
  have R1:=hI.step Jk RZ pL (by omega) Z4 zz;rw[<-hp] at R1;by_cases D8:p=[]
  .have e5:decide ((p.length:Int)>0)=false:=by rw[D8];rfl
   rw[if_pos D8] at R1;refine ae (bR g4 rlp e5) ?_;refine aw (j,Mg) ?_ ⟨by omega,R1,by show Mg.length<=j;omega⟩;exact bQ [0]
  have m4:0<p.length:=length_pos_iff.2 D8;have e5:decide ((p.length:Int)>0)=true:=GV;rw[if_neg D8] at R1;have cG:aX (Mg.map rn)++[[FV.sl (au k),FV.sl (aq (p.map tn))]]=aX ((Mg++[(k,p)]).map rn):=by
   rw[vw];exact g7 _ (rn (k,p))
  have tk:=dB (l:=Mg.map rn) (n:=K) (by rw[length_map];omega);refine ae (fE g4 rlp e5 tk cG rlm) ?_
  repeat refine ag ?_
  refine aw (j,Mg++[(k,p)]) ?_ ⟨by omega,R1,by rw[qe,Hv];omega⟩;exact bQ [3]
 intro g1 g2;have gF:i=s.length:=by omega
 rw[gF] at hI;have kR:=hI.done md DU;rw[<-kR] at hR;subst hR;have e6:decide ((K:Int)>4000)=false:=sA;have tk:=dB (l:=Mg.map rn) (n:=K) (by rw[length_map];omega);refine ae (aP g2 e6) ?_;refine Sn (vs:=[.lsl 0 0 K 2,.int .i64 0]) rfl ⟨cW,cW,cW⟩ (show tL [Ob.row true (aX (Mg.map rn))] [] (.tup [.lsl 0 0 K 2,.int .i64 0])=_ from ?_);exact l7 (aP tk rlm)
theorem KD {L:List RR} (h:qO [L]=0):L.any iE=false/\L.length<=4000/\ ∀ r∈L,validB r.2=true:=by
 unfold qO at h;have h1:f3 L=false:=by
  cases hb:f3 L with
  | false=>rfl
  | true=>rw[if_pos (by simp[hb])] at h;omega
 rw[if_neg (by simp[h1])] at h;have h2:kE L=true:=by
  cases hv:kE L with
  | true=>rfl
  | false=>rw[if_neg (by simp[hv])] at h;omega
 unfold f3 at h1;rw[Bool.or_eq_false_iff] at h1;exact⟨h1.2,by simpa using h1.1,fun r hr=>List.all_eq_true.1 h2 r hr⟩
noncomputable def TH (L:List RR):PV:=if qO [L]=0 then .tup [RL' ((oC (normL L)).map rn),.int .i64 0] else .tup [.fv (.sl []),.int .i64 (qO [L])]
theorem ads (L:List RR) (aD:L.length<=1000000) (hp: ∀ r∈L,MK r.2) (hc: ∀ r∈L,r.1.length<=1000000) (h:qO [L]=0->Il L):
 Den Tryz.prog 90 [] [RL' L] [] (TH L):=by
 have zK:=WT [L] (by simp) (fun l hl=>by rw[qz] at hl;rw[hl];exact aD) (fun l hl=>by rw[qz] at hl;rw[hl];exact hp) (fun l hl=>by rw[qz] at hl;rw[hl];exact hc)
 unfold TH
 have e:gC [L]=[[FV.sl (aX L)]]:=rfl
 rw[e] at zK
 by_cases h0:qO [L]=0
 .have AX:=WU L (h h0)
  unfold Qb at AX
  rw[if_neg (by rw[(KD h0).1];decide)] at AX
  rw[if_pos h0]
  rw[h0] at zK
  have e1:((0:Int) !=0)=false:=rfl
  refine dq Tryz.func90 14 0 ?_
  refine aY ?_
  refine aV zK ?_
  refine ae e1 ?_
  refine aV AX ?_
  refine ba ?_
  exact bj rfl
 rw[if_neg h0]
 obtain⟨c,oK⟩:=ax (qO [L])
 rw[oK] at zK h0 ⊢
 have e1:(c !=0)=true:=by simpa using h0
 refine dq Tryz.func90 14 0 ?_
 refine aY ?_
 refine aV zK ?_
 refine ae e1 ?_
 exact bj rfl
def minL (a b:List Raw):List Rat:=nh a ((b.map (fun r=>r.q*(-1))).map cn)
theorem adt (a b:List Raw) (ha:LOk 1000000 a) (hb:LOk 1000000 b):Den Tryz.prog 146 [] [RL a,RL b] [] (FL (minL a b)):=by
 have AN:=xj (-1) (by omega);change Den Tryz.prog 74 [] [.int .i64 (-1)] [] (.agg (cn (-1)).c) at AN;have hc:Raw.Ok 1 (cn (-1)):=bC CS;have Jj:=JY b (cn (-1)) (hb.mono (by decide)) (hc.mono (by decide));rw[de] at Jj;have hs:LOk 1000001 ((b.map (fun r=>r.q*(-1))).map cn):=LOk.map hb.len (fun r hr=>by
  have:=hb.bd (by decide) r hr;exact Bd.mul (j:=1000000) (k:=1) this CS (by decide))
 have h21:=WB a ((b.map (fun r=>r.q*(-1))).map cn) (ha.mono (by decide)) (hs.mono (by decide));have hrl:(minL a b).length=9:=fY ha.len hs.len;change Den Tryz.prog 162 [] _ [] (FL (minL a b)) at h21;have gH:((minL a b).map cn).length=9:=by rw[length_map];exact hrl
 unfold FL at h21 Jj ⊢;obtain⟨R,hR⟩:=ax ((minL a b).map cn);rw[hR] at h21 gH ⊢;obtain⟨S,hS⟩:=Hg ((b.map (fun r=>r.q*(-1))).map cn);rw[hS] at h21 Jj hs;obtain⟨c,oK⟩:=ax (cn (-1));rw[oK] at AN Jj;have al:=ha.len;have bl:=hb.len;have sl:=hs.len;have a27:=ar al;have b27:=ar bl;have s27:=ar sl;have r27:=ar gH;have ga:=ah a;have gb:=ah b;have gs:=ah S;have gr:=ah R;change Den Tryz.prog 135 [] [RL b,.agg c.c] [] _ at Jj;unfold RL at Jj h21 ⊢;refine dq Tryz.func146 8 0 ?_;refine bU (eg ga gb al bl) ?_
 repeat refine ag ?_
 refine dw (by kernel_rfl) ?_;refine ae (fE ga gb al bl a27 b27) ?_
 repeat refine ag ?_
 refine aV AN ?_;refine ae (aP @dP @append_nil.{0}) ?_;refine gp Jj (by simp[cw,gW,EN,Ma,iw,gJ]) ?_;refine b_ @gj ?_
 repeat refine ag ?_
 refine kO h21 ?_;refine b_ (aP gr gH) ?_
 repeat refine ag ?_
 exact RetOK.form rfl rfl gH
theorem qA {rs:List Raw} {t:Tm} (h:t∈d6 rs):t.1.length=8/\ ∀ e∈t.1,0<=e/\e<=1024:=by
 obtain⟨u,hu,he⟩:=jc h;obtain⟨w,hw,rfl⟩:=mem_map.1 hu;rw[<-he];show w.1.length=8/\ ∀ e∈w.1,0<=e/\e<=1024;have hv:=vF rs;unfold validB at hv;rw[pR] at hv;have h1:=hv w hw;unfold iA at h1;rw[pR] at h1;refine⟨?_,fun e Hq=>by simpa using h1 e Hq⟩;unfold gk at hw;rcases List.mem_append.1 hw with hw | hw
 .obtain⟨j,_,rfl⟩:=mem_map.1 hw;simp[z8]
 rw[qz] at hw;rw[hw];rfl
theorem tx {rs:List Raw} {k:Nat} (h:LOk k rs) (hk:1<=k):PB (9*(k+1)+1) (d6 rs):=by
 have:=(PB.list hk (ts:=(gk rs).map tq) (fun t ht=>by
  obtain⟨u,hu,rfl⟩:=mem_map.1 ht;exact(xO h u hu).raw.bd hk)).nf
 rw[length_map,fr] at this;exact this
theorem BR (rs:List Raw):(d6 rs).length<=9:=by
 have:=xy ((gk rs).map tq);rw[length_map,fr] at this;exact this
def betT (v:Nat) (lo hi:List Raw) (p:List Tm):List Tm:=nf (ff v (d6 hi) (a_ v p)++c9 (ff v (d6 lo) (a_ v p)) (-1))
theorem ahR (ts:List RT) (v:Nat) (hv:v<8) (lo hi:List Raw) (h8:TsOk 500000 ts) (hn:ts.length<=20) (hp:POk 900000 1024 (nfR ts)) (hs:(nfR ts).length<=bH) (hvB:validB ts=true) (hlB:v_ v (nfR ts)=true)
 (fR:LOk 1000 lo) (fL:LOk 1000 hi) (Lp:(lo.getD v rz).q=0) (hh0:(hi.getD v rz).q=0)
 (ok1:Ks (d6 hi) (eE v (a_ v (nfR ts)))) (Hr:Ks (d6 lo) (eE v (a_ v (nfR ts)))) (hr:(betT v lo hi (nfR ts)).length<=bH) (ht:xV (betT v lo hi (nfR ts))<=1024) (hb:LOkT 1000000000 1000000 (betT v lo hi (nfR ts))):
 Den Tryz.prog 33 [] [PL ts,.int .i64 v,RL lo,RL hi] [] (.tup [PL ((betT v lo hi (nfR ts)).map tn),.int .i64 0]):=by
 have hm:=kC
 have qW:=ahD ts (v:Int) (by omega) h8 hn hs
 unfold X9 at qW
 rw[if_neg (by rw[hvB];decide),if_neg (by omega),Int.toNat_natCast,if_pos hlB] at qW
 have G3:=hp.prim (v:=v) (by decide) (by decide) hv
 have m4:(a_ v (nfR ts)).length<=bH:=by rw[jm];exact hs
 have hP1:=tx fL (by decide)
 have hP2:=tx fR (by decide)
 have Hs:LOkT 1000000 100000 (d6 hi):=⟨fun t ht=>(qA ht).1,fun t ht=>(hP1.bd (by decide) t ht).mono (by decide),fun t ht e he=>by have:=(qA ht).2 e he;omega⟩
 have Jr:LOkT 1000000 100000 (d6 lo):=⟨fun t ht=>(qA ht).1,fun t ht=>(hP2.bd (by decide) t ht).mono (by decide),fun t ht e he=>by have:=(qA ht).2 e he;omega⟩
 have l1:=BR hi
 have l2:=BR lo
 have a1:=ac8 (a_ v (nfR ts)) (d6 hi) v hv (G3.mono (by decide) (by decide)) Hs (by omega) m4 (by unfold bH;omega) ok1
 have a2:=ac8 (a_ v (nfR ts)) (d6 lo) v hv (G3.mono (by decide) (by decide)) Jr (by omega) m4 (by unfold bH;omega) Hr
 have s1:=acT hi (fL.mono (by decide))
 have s2:=acT lo (fR.mono (by decide))
 obtain⟨u1,u2⟩:=ok1.out 0
 obtain⟨w1,w2⟩:=Hr.out 0
 rw[List.drop_zero] at u1 u2 w1 w2
 change LOkT _ _ (ff v (d6 hi) (a_ v (nfR ts))) at u1
 change (ff v (d6 hi) (a_ v (nfR ts))).length<=_ at u2
 change LOkT _ _ (ff v (d6 lo) (a_ v (nfR ts))) at w1
 change (ff v (d6 lo) (a_ v (nfR ts))).length<=_ at w2
 have c1:POk 1000000 100000 (ff v (d6 hi) (a_ v (nfR ts))):=⟨sW G3.canon Hs.len,u1.bd,u1.exp⟩
 have c2:POk 1000000 100000 (ff v (d6 lo) (a_ v (nfR ts))):=⟨sW G3.canon Jr.len,w1.bd,w1.exp⟩
 have UZ:=ahG _ _ (c1.mono (by decide) (by decide)) (c2.mono (by decide) (by decide)) (by omega) (by omega) w2 hr
 change Den Tryz.prog 85 [] _ [] (PL ((betT v lo hi (nfR ts)).map tn)) at UZ
 have Sr:=ada (betT v lo hi (nfR ts)) hb.len (fun t ht x hx=>by have:=hb.exp t ht x hx;omega) (by omega)
 have z1:=mm (lo.getD v rz) ((fR.at v).mono (by decide))
 have z2:=mm (hi.getD v rz) ((fL.at v).mono (by decide))
 rw[Lp] at z1
 rw[hh0] at z2
 change Den Tryz.prog 84 [] [.agg (lo.getD v rz).c] [] (.int .i64 0) at z1
 change Den Tryz.prog 84 [] [.agg (hi.getD v rz).c] [] (.int .i64 0) at z2
 have k1:=fR.len
 have k2:=fL.len
 have f1:List.take 3 (List.drop (v*3) (flat lo))=(lo.getD v rz).c:=cU (by omega)
 have f2:List.take 3 (List.drop (v*3) (flat hi))=(hi.getD v rz).c:=cU (by omega)
 obtain⟨ra,hra⟩:=ax (lo.getD v rz)
 obtain⟨rb,GY⟩:=ax (hi.getD v rz)
 rw[hra] at z1 f1
 rw[GY] at z2 f2
 have g1:=ah lo
 have g2:=ah hi
 have t1:=ar k1
 have t2:=ar k2
 obtain⟨A,hA⟩:=ax ((a_ v (nfR ts)).map tn)
 obtain⟨P1,ajE⟩: ∃ A,(d6 hi).map tn=A:=⟨_,rfl⟩
 obtain⟨P2,ajF⟩: ∃ A,(d6 lo).map tn=A:=⟨_,rfl⟩
 obtain⟨B1,hB1⟩:=ax ((ff v (d6 hi) (a_ v (nfR ts))).map tn)
 obtain⟨B2,hB2⟩:=ax ((ff v (d6 lo) (a_ v (nfR ts))).map tn)
 obtain⟨C,hC⟩:=ax ((betT v lo hi (nfR ts)).map tn)
 rw[hA] at qW a1 a2
 rw[ajE] at a1 s1
 rw[ajF] at a2 s2
 rw[hB1] at a1 UZ
 rw[hB2] at a2 UZ
 rw[hC] at UZ Sr ⊢
 obtain⟨x,hx⟩:=ax (xV (betT v lo hi (nfR ts)))
 rw[hx] at Sr ht
 have e1:decide (x>1024)=false:=sA
 have NK:((0:Int) !=0)=false:=rfl
 unfold RL at s1 s2 ⊢
 refine dq Tryz.func33 47 0 ?_
 refine bU (eg g1 g2 k1 k2) ?_
 repeat refine ag ?_
 refine aV qW ?_
 refine ae (im NK g1 k1 f1 @append_nil.{0}) ?_
 repeat refine ag ?_
 refine zq z1 ?_
 refine ae (fE NK @gj g2 k2 f2 @append_nil.{0}) ?_
 repeat refine ag ?_
 refine zq z2 ?_
 refine ae (bR NK @gj @append_nil.{0}) ?_
 repeat refine ag ?_
 refine dw (by kernel_rfl) ?_
 refine ae (bR g2 k2 t2) ?_
 repeat refine ag ?_
 refine kO s1 ?_
 refine GU ?_
 refine aV a1 ?_
 refine ae (eg g1 k1 t1 @append_nil.{0}) ?_
 repeat refine ag ?_
 refine kO s2 ?_
 refine GU ?_
 refine aV a2 ?_
 refine ae @append_nil.{0} ?_
 refine aV UZ ?_
 refine ae @append_nil.{0} ?_
 refine aV Sr ?_
 refine ae (aP e1 @append_nil.{0}) ?_
 refine bj rfl
end Go.Proofs.YtjjbkjgifdhlcaaGreat
