/- Plain:systems of seven inequalities in three variables,one of which occurs in one alone. -/
import Derived.Test.YtiaaceeelfhdlaaGreatT15
import Derived.Test.YtiaaceeelfhdlaaGreatT8
import Derived.Test.YtiaaceeelfhdlaaGreatT14
import Derived.Test.YtiaaceeelfhdlaaGreatT12
import Derived.Test.YtiaaceeelfhdlaaGreatT13
import Derived.Test.YtiaaceeelfhdlaaGreatT1
set_option linter.all false
open Nat (reduceAdd reduceEqDiff reduceLT reduceLeDiff reduceMul reduceSub)
open List (any_append append_assoc append_nil drop_eq_getElem_cons filter_append length_drop length_map length_pos_iff length_pos_of_mem length_take mem_cons_self mem_map mem_of_mem_drop replicate)
namespace Go.Pl
open Go.AM
def rM (s:List (List Raw)) (v:Nat):Int:=((dE s v).length:Int)*(bV s v).length - (dE s v).length - (bV s v).length
structure Sw (k:Nat) (s:List (List Raw)):Prop where
 n3:bt s<=3
 c3:bt s=3->s.length<=7/\k<=14
 c2:bt s=2->s.length<=7/\k<=120
 c1:bt s=1->s.length<=12/\k<=1000
structure Sl (k:Nat) (s:List (List Raw)):Prop where
 n3:bt s<=3
 c3:bt s=3->s.length<=7/\k<=14
 c2:bt s=2->s.length<=12/\k<=120
 c1:bt s=1->s.length<=36/\k<=1000
theorem Sz.w {k:Nat} {s:List (List Raw)} (h:Sz k s):Sw k s:=⟨h.n3,fun e=>by have:=h.c3 e;omega,h.c2,h.c1⟩
theorem Sw.l {k:Nat} {s:List (List Raw)} (h:Sw k s):Sl k s:=⟨h.n3,h.c3,fun e=>by have:=h.c2 e;omega,fun e=>by have:=h.c1 e;omega⟩
theorem Sl.all {k:Nat} {s:List (List Raw)} (h:Sl k s) (hp:0<bt s):s.length<=36/\k<=1000:=by
 have h1:=h.n3;have h2:=h.c3;have h3:=h.c2;have h4:=h.c1;have:bt s=1\/bt s=2\/bt s=3:=by omega
 rcases this with h5 | h5 | h5
 .exact h4 h5
 .have:=h3 h5;omega
 have:=h2 h5;omega
theorem Sl.len {k:Nat} {s:List (List Raw)} (h:Sl k s) (hs:SysF k s):s.length<=36:=by
 cases s with
 | nil=>exact dU _
 | cons l t=>exact(h.all (kq (mem_cons_self ..) (hs.nc l (by simp)))).1
theorem Sl.lim {k:Nat} {s:List (List Raw)} (h:Sl k s) (hs:SysF k s): ∀ l∈s,LOk 1000 l:=fun l hl=>(hs.ok l hl).mono (h.all (kq hl (hs.nc l hl))).2
theorem Sw.len {k:Nat} {s:List (List Raw)} (h:Sw k s) (hs:SysF k s):s.length<=12:=by
 cases s with
 | nil=>exact dU _
 | cons l t=>
  have hp:0<bt (l::t):=kq (mem_cons_self ..) (hs.nc l (by simp));have h1:=h.n3;have h2:=h.c3;have h3:=h.c2;have h4:=h.c1;have:bt (l::t)=1\/bt (l::t)=2\/bt (l::t)=3:=by omega
  rcases this with h5 | h5 | h5
  .exact(h4 h5).1
  .have:=h3 h5;omega
  have:=h2 h5;omega
theorem wx {k:Nat} {s:List (List Raw)} {v:Nat} (hs:SysF k s) (hz:Sw k s):(eo s v).length<=100:=by
 have h1:=cU s v;have h2:=hz.len hs;rw[mu];exact P_ (by omega)
theorem ME {k:Nat} {s:List (List Raw)} {v:Nat} (hv:v<8) (hs:SysF k s) (ho:occ s v=true) (h5:bt s=1):ncs (eo s v)=[]:=by
 have h9: ∀ l∈s,l.length=9:=fun l hl=>(hs.ok l hl).len
 have h6:=oS hv hs ho;cases h8:ncs (eo s v) with
 | nil=>rfl
 | cons o t=>
  have BV:=(jr (gR h9)).1 (show o∈ncs (eo s v) by rw[h8];simp);have:=kq BV.1 BV.2;omega
theorem wy {k:Nat} {s:List (List Raw)} {v:Nat} (hv:v<8) (hs:SysF k s) (hz:Sw k s):(ncs (eo s v)).length<=12:=by
 have cX:(ncs (eo s v)).length<=(eo s v).length:=List.length_filter_le _ _;cases ho:occ s v with
 | false=>
  have h1:=hz.len hs;rw[(rC ho).1] at cX ⊢;omega
 | true=>
  have h1:=cU s v;have h2:=mu s v;have h3:=zk hv ho;have h4:=hz.n3;have:bt s=1\/bt s=2\/bt s=3:=by omega
  rcases this with h5 | h5 | h5
  .rw[ME hv hs ho h5];exact dU _
  .have:=(hz.c2 h5).1;have:=AG (p:=(dE s v).length) (q:=(bV s v).length) (r:=(fH s v).length) (by omega);omega
  have:=(hz.c3 h5).1;have:=AG (p:=(dE s v).length) (q:=(bV s v).length) (r:=(fH s v).length) (by omega);omega
theorem MF {k:Nat} {s:List (List Raw)} {v:Nat} (hv:v<8) (hk:1<=k) (hs:SysF k s) (hz:Sl k s): ∀ o∈eo s v,¬aO o->LOk 1000 o:=by
 intro o ho hc;cases hoc:occ s v with
 | false=>
  rw[(rC hoc).1] at ho;exact hz.lim hs o ho
 | true=>
  have h6:=oS hv hs hoc;have h7:=kq ho hc;have h8:=hz.n3;have:k<=120:=by
   have:bt s=2\/bt s=3:=by omega
   rcases this with h5 | h5
   .exact(hz.c2 h5).2
   have:=(hz.c3 h5).2;omega
  exact(AF hs.ok hk o ho).mono (by omega)
def GoodW (s:List (List Raw)):Prop:= ∃ k,1<=k/\SysF k s/\Sw k s/\(bt s=3->s.length<=5\/ ∃ u,u<8/\occ s u=true/\rM s u<0)
theorem GoodS.w {s:List (List Raw)} (h:GoodS s):GoodW s:=by
 obtain⟨k,hk,hs,hz⟩:=h;exact⟨k,hk,hs,hz.w,fun e=> .inl (hz.c3 e).1⟩
theorem GoodW.lim {s:List (List Raw)} (h:GoodW s): ∀ l∈s,LOk 1000 l:=by
 obtain⟨k,hk,hs,hz,_⟩:=h;exact hz.l.lim hs
theorem GoodW.len {s:List (List Raw)} (h:GoodW s):s.length<=12:=by
 obtain⟨k,hk,hs,hz,_⟩:=h;exact hz.len hs
theorem GoodW.nc {s:List (List Raw)} (h:GoodW s): ∀ l∈s,¬aO l:=by
 obtain⟨k,hk,hs,hz,_⟩:=h;exact hs.nc
theorem GoodW.feas {s:List (List Raw)} {v:Nat} (hv:v<8) (h:GoodW s) (hb:rF s v=false):dX (iq s v)=dX s:=by
 obtain⟨k,hk,hs,hz,_⟩:=h;rw[Bool.eq_iff_iff,iB,iB];exact zn hv hs (fun hB=>by rw[(jP (fun l hl=>(hs.ok l hl).len)).2 hB] at hb;cases hb)
theorem GoodW.bad {s:List (List Raw)} {v:Nat} (hv:v<8) (h:GoodW s) (hb:rF s v=true):dX s=false:=by
 obtain⟨k,hk,hs,hz,_⟩:=h;exact tU.2 (CI hv hs ((jP (fun l hl=>(hs.ok l hl).len)).1 hb))
theorem GoodW.step {s:List (List Raw)} {v:Nat} (hv:v<8) (h:GoodW s) (ho:occ s v=true) (Oy: ∀ u,u<8->occ s u=true->rM s v<=rM s u):GoodW (iq s v)/\bt (iq s v)<bt s:=by
 obtain⟨k,hk,hs,hz,h7⟩:=h;have hi:=nX v hs;have h9: ∀ l∈s,l.length=9:=fun l hl=>(hs.ok l hl).len
 have hn:=oS hv hs ho;rw[<-oT (gR h9) hi] at hn;have hl:=mr (gR h9) hi;have cX:(ncs (eo s v)).length<=(eo s v).length:=List.length_filter_le _ _;have h1:=cU s v;have h2:=mu s v;have h4:=hz.n3;have hc:=wy hv hs hz;refine⟨⟨8*k+8,by omega,Hh hk hs hi,⟨by omega,fun h=>by omega,fun h=>?_,fun h=>?_⟩,fun h=>by omega⟩,hn⟩
 .have h5:bt s=3:=by omega
  have h6:=hz.c3 h5;refine⟨?_,by omega⟩;rcases h7 h5 with h8 | ⟨u,hu,WG,hcu⟩
  .have:=UY (p:=(dE s v).length) (q:=(bV s v).length) (r:=(fH s v).length) (by omega);omega
  have BV:=Oy u hu WG;have e:(((bV s v).length*(dE s v).length:Nat):Int)=((dE s v).length:Int)*(bV s v).length:=by rw[Int.natCast_mul,Int.mul_comm]
  unfold rM at BV hcu;omega
 refine⟨by omega,?_⟩;have:bt s=2\/bt s=3:=by omega
 rcases this with h5 | h5
 .have:=hz.c2 h5;omega
 have:=hz.c3 h5;omega
def GoodR (s:List (List Raw)):Prop:= ∃ k,1<=k/\SysF k s/\Sl k s
theorem GoodW.r {s:List (List Raw)} (h:GoodW s):GoodR s:=by
 obtain⟨k,hk,hs,hz,_⟩:=h;exact⟨k,hk,hs,hz.l⟩
theorem GoodR.len9 {s:List (List Raw)} (h:GoodR s): ∀ l∈s,l.length=9:=by
 obtain⟨k,hk,hs,hz⟩:=h;exact fun l hl=>(hs.ok l hl).len
theorem GoodR.lim {s:List (List Raw)} (h:GoodR s): ∀ l∈s,LOk 1000 l:=by
 obtain⟨k,hk,hs,hz⟩:=h;exact hz.lim hs
theorem GoodR.len {s:List (List Raw)} (h:GoodR s):s.length<=36:=by
 obtain⟨k,hk,hs,hz⟩:=h;exact hz.len hs
theorem GoodR.nc {s:List (List Raw)} (h:GoodR s): ∀ l∈s,¬aO l:=by
 obtain⟨k,hk,hs,hz⟩:=h;exact hs.nc
theorem GoodR.feas {s:List (List Raw)} {v:Nat} (hv:v<8) (h:GoodR s) (hb:rF s v=false):dX (iq s v)=dX s:=by
 obtain⟨k,hk,hs,hz⟩:=h;rw[Bool.eq_iff_iff,iB,iB];exact zn hv hs (fun hB=>by rw[(jP (fun l hl=>(hs.ok l hl).len)).2 hB] at hb;cases hb)
theorem GoodR.bad {s:List (List Raw)} {v:Nat} (hv:v<8) (h:GoodR s) (hb:rF s v=true):dX s=false:=by
 obtain⟨k,hk,hs,hz⟩:=h;exact tU.2 (CI hv hs ((jP (fun l hl=>(hs.ok l hl).len)).1 hb))
theorem Qo {p q r:Nat} (h:r+p+q<=12):r+q*p<=36:=by
 have h2:p=0\/p=1\/p=2\/p=3\/p=4\/p=5\/p=6\/p=7\/p=8\/p=9\/p=10\/p=11\/p=12:=by omega
 rcases h2 with h1 | h1 | h1 | h1 | h1 | h1 | h1 | h1 | h1 | h1 | h1 | h1 | h1<;>subst h1<;>omega
theorem GoodR.step {s:List (List Raw)} {v:Nat} (hv:v<8) (h:GoodR s):GoodR (iq s v):=by
 obtain⟨k,hk,hs,hz⟩:=h;have hi:=nX v hs;cases ho:occ s v with
 | false=>
  rw[I5 hs ho hi];exact⟨k,hk,hs,hz⟩
 | true=>
  have h9: ∀ l∈s,l.length=9:=fun l hl=>(hs.ok l hl).len
  have hn:=oS hv hs ho;rw[<-oT (gR h9) hi] at hn;have hl:=mr (gR h9) hi;have cX:(ncs (eo s v)).length<=(eo s v).length:=List.length_filter_le _ _;have h1:=cU s v;have h2:=mu s v;have h4:=hz.n3;refine⟨8*k+8,by omega,Hh hk hs hi,⟨by omega,fun h=>by omega,fun h=>?_,fun h=>?_⟩⟩
  .have h5:bt s=3:=by omega
   have h6:=hz.c3 h5;have:=AG (p:=(dE s v).length) (q:=(bV s v).length) (r:=(fH s v).length) (by omega);omega
  have:bt s=2\/bt s=3:=by omega
  rcases this with h5 | h5
  .have:=hz.c2 h5;have:=Qo (p:=(dE s v).length) (q:=(bV s v).length) (r:=(fH s v).length) (by omega);omega
  have:=hz.c3 h5;have:=AG (p:=(dE s v).length) (q:=(bV s v).length) (r:=(fH s v).length) (by omega);omega
theorem Jr {s:List (List Raw)} {v w:Nat} (hg:GoodR s) (hv:v<8) (hw:w<8) (h:occ (iq s v) w=true):w≠v/\occ s w=true:=by
 have h9:=hg.len9;obtain⟨k,hk,hs,hz⟩:=hg;have h2:=(vg (gR h9) (nX v hs) hw).1 h;refine⟨fun he=>?_,Hd hw h9 h2⟩;subst he;rw[Hg hw hs] at h2;cases h2
theorem GoodR.cnf {s:List (List Raw)} (h:GoodR s): ∀ l∈s,IsCn l:=by
 have h9:=h.len9;obtain⟨k,hk,hs,hz⟩:=h;exact fun l hl=>by rw[<-hs.nm l hl];exact oU (h9 l hl)
theorem GoodR.self {s:List (List Raw)} (h:GoodR s):sysL s []=s:=by
 have h9:=h.len9;obtain⟨k,hk,hs,hz⟩:=h;exact(hs.self.eq h9).symm
structure Qp (cs:List (List Raw)):Prop where
 cnf: ∀ l∈cs,IsCn l
 nc: ∀ l∈cs,¬aO l
 ok: ∀ l∈cs,LOk 1000 l
 len:cs.length<=37
 good:GoodR (sysL cs [])
theorem GoodR.pre {s:List (List Raw)} (h:GoodR s):Qp s:=⟨h.cnf,h.nc,h.lim,by have:=h.len;omega,by rw[h.self];exact h⟩
theorem Pre.r {cs:List (List Raw)} (h:Pre cs):Qp cs:=⟨h.cnf,h.nc,h.ok,by have:=h.len;omega,h.good.w.r⟩
structure CsW (cs:List (List Raw)):Prop where
 ok: ∀ l∈cs,LOk 10000 l
 len:cs.length<=100
 nc:(ncs cs).length<=12
 good:GoodW (sysL cs [])
 nok: ∀ l∈cs,¬aO l->LOk 1000 l
theorem CsOk.w {cs:List (List Raw)} (h:CsOk cs):CsW cs:=⟨h.ok,h.len,h.nc,h.good.w,h.nok⟩
end Go.Pl
namespace Go.Proofs.YtiaaceeelfhdlaaGreat
open Go.AM Go.Pl
set_option maxRecDepth 100000
set_option maxHeartbeats 4000000
theorem wz {s:List (List Raw)} {v:Nat} {x:List Raw} (h:0<co x v):dE (s++[x]) v=dE s v++[en v x]:=by simp[dE,filter_append,h]
theorem lJ {s:List (List Raw)} {v:Nat} {x:List Raw} (h: ¬0<co x v):dE (s++[x]) v=dE s v:=by simp[dE,filter_append,h]
theorem s7 {s:List (List Raw)} {v:Nat} {x:List Raw} (h:co x v<0):bV (s++[x]) v=bV s v++[en v x]:=by simp[bV,filter_append,h]
theorem jB {s:List (List Raw)} {v:Nat} {x:List Raw} (h: ¬co x v<0):bV (s++[x]) v=bV s v:=by simp[bV,filter_append,h]
theorem wA {s:List (List Raw)} {v:Nat} {x:List Raw} (h:co x v=0):fH (s++[x]) v=fH s v++[x]:=by simp[fH,filter_append,h]
theorem zD {s:List (List Raw)} {v:Nat} {x:List Raw} (h: ¬co x v=0):fH (s++[x]) v=fH s v:=by simp[fH,filter_append,h]
def rN (hi lo:List (List Raw)):List (List Raw):=hi.flatMap fun u=>lo.map fun l=>d9 u l
theorem Fc {hi lo:List (List Raw)} {u:List Raw}:rN (hi++[u]) lo=rN hi lo++lo.map (d9 u):=by simp[rN]
def ym (u:List Raw) (lo:List (List Raw)):Bool:=lo.any (fun l=>b8 (d9 u l)&&decide (co (d9 u l) 8<=0))
def MG (hi lo:List (List Raw)):Bool:=hi.any (fun u=>ym u lo)
theorem Js {u l:List Raw} {lo:List (List Raw)}:ym u (lo++[l])=(ym u lo||(b8 (d9 u l)&&decide (co (d9 u l) 8<=0))):=by simp[ym,any_append]
theorem Jt {u:List Raw} {hi lo:List (List Raw)}:MG (hi++[u]) lo=(MG hi lo||ym u lo):=by simp[MG,any_append]
theorem MH {α:Type} {p:α->Bool} {l:List α} {i:Nat} (h:(l.take i).any p=true):l.any p=true:=by
 rw[qpb] at h ⊢;obtain⟨x,hx,h2⟩:=h;exact⟨x,xY hx,h2⟩
theorem kA {α:Type} {p:α->Bool} {l:List α} {x:α} (hx:x∈l) (h:p x=true):l.any p=true:=List.any_eq_true.2 ⟨x,hx,h⟩
theorem MI {k:Nat} {s:List (List Raw)} {v:Nat} (hs:SysF k s) (hb: ¬I3 s v): ¬CE (eo s v):=by
 rintro⟨o,ho,hc,hn⟩;rcases fN.1 ho with⟨h1,_⟩ | ⟨l,hl,u,hu,h1,h2,rfl⟩
 .exact hs.nc o h1 hc
 refine hb ⟨en v u,fc.2 ⟨u,hu,h2,rfl⟩,en v l,gh.2 ⟨l,hl,h1,rfl⟩,hc,?_⟩;grind
theorem aeR (k:Nat) (s:List (List Raw)) (v:Nat) (hv:v<8) (hk:1<=k) (hs:SysF k s) (hz:Sw k s):
 Den Tryz.prog 250 [] [.fv (.sl (ak s)),.int .i64 v] [] (if rF s v then .tup [.fv (.sl []),.bool false] else .tup [.fv (.sl (ak (iq s v))),.bool true]):=by
 have j_:=hz.l.lim hs
 have h9: ∀ l∈s,l.length=9:=fun l hl=>(j_ l hl).len
 have Kw:=hz.len hs
 have D': ∀ b∈dE s v,LOk 2001 b:=E5 j_ (by decide)
 have Eg: ∀ b∈bV s v,LOk 2001 b:=AE j_ (by decide)
 have j0:=cU s v
 obtain⟨n,cB⟩:=ax s.length
 have rl:=aq s
 rw[cB] at rl Kw j0
 obtain⟨R,hR⟩: ∃ R:PV,(if rF s v then .tup [.fv (.sl []),.bool false] else .tup [.fv (.sl (ak (iq s v))),.bool true])=R:=⟨_,rfl⟩
 rw[hR]
 have m_:=Cf (-1) (by decide)
 rw[a_] at m_
 refine dq Tryz.func250 86 0 ?_
 refine cz rl ?_
 refine wl (α:=Nat×List (List Raw)×List (List Raw)×List (List Raw)) (fun⟨i,lo,hi,out⟩=>⟨[.fv (.sl (ak s)),.int .i64 v,.any,.any,.nilsl,.bool false,.lsl 0 0 lo.length 27,.lsl 1 0 hi.length 27,.lsl 2 0 out.length 27,.any,.any,.any,.any,.any,.any,.any,.any,.any,.any,.any,.fv (.sl (ak s)),.int .i64 n,.int .i64 i]++replicate 65 .any,[.row true (ak lo),.row true (ak hi),.row true (ak out)]⟩)
  (fun⟨i,_⟩=>n - i) (fun⟨i,lo,hi,out⟩=>i<=n/\lo=dE (s.take i) v/\hi=bV (s.take i) v/\out=fH (s.take i) v) (0,[],[],[]) ?_ ?_ ?_
 .refine Weak.nil 6 27 (by decide) rfl ?_
  refine Weak.nil 7 27 (by decide) rfl ?_
  refine Weak.nil 8 27 (by decide) rfl ?_
  refine fW [0,1,2] ?_ ?_
  .simp[bO,eT,cJ,aU]
  simp[fM,fC,aU,cJ,bA,bh,aZ,bJ]
  simp[ak]
 .exact⟨dU _,rfl,rfl,rfl⟩
 rintro⟨i,lo,hi,out⟩ ⟨pJ,gj,gK,cZ⟩
 have dh:=cU (s.take i) v
 rw[<-gj,<-gK,<-cZ,length_take,cB] at dh
 obtain⟨L1,hL1⟩:=ax lo.length
 obtain⟨L2,T'⟩:=ax hi.length
 obtain⟨L3,XZ⟩:=ax out.length
 have Ua:=aq lo
 have Eh:=aq hi
 have rl3:=aq out
 dsimp only
 rw[hL1] at dh Ua ⊢
 rw[T'] at dh Eh ⊢
 rw[XZ] at dh rl3 ⊢
 have tk1:=bX (ls:=lo) (n:=L1) (by omega)
 have tk2:=bX (ls:=hi) (n:=L2) (by omega)
 have Ub:=bX (ls:=out) (n:=L3) (by omega)
 refine aW ?_
 refine bK ?_ ?_
 .intro h1 h2
  have ec:=fh (cs:=s) (i:=i) (by omega)
  have bC:=cr (ls:=s) (i:=i) (by omega)
  have r1:=ba s i
  obtain⟨x,iW⟩:=ax (s.getD i [])
  rw[iW] at bC r1 ec
  have hx:=j_ x bC
  have lx:=hx.len
  have l_:=aB lx
  have fx:=aI x
  have gx:=ag x
  have fU:=ar lx
  by_cases h0:co x v=0
  .have uD:=LP x v hx hv h0
   have uT:=lJ (s:=s.take i) (v:=v) (x:=x) (by grind)
   have BE:=jB (s:=s.take i) (v:=v) (x:=x) (by grind)
   have e8:=wA (s:=s.take i) h0
   have cI:=cP out x
   unfold FL RL at uD
   obtain⟨zs,Wt⟩:=ax ((x.map Raw.q).map cn)
   have l7:zs.length=9:=by rw[<-Wt];simp[lx]
   have gz:=ag zs
   rw[Wt] at uD
   have e1:decide ((0:Int)>0)=false:=rfl
   have e2:decide ((0:Int)<0)=false:=rfl
   refine aF (f0 h2 r1 l_ fx gx lx fU) ?_
   repeat refine ae ?_
   refine hY uD ?_
   simp -dsimp(disch:=omega) only[gz,l7,e1,e2,gx,lx,fU,l_,Ub,cI,rl3,IntKind.bits,Int.reduceToNat,Int.reducePow,Option.isNone_none,↓reduceIte,reduceCtorEq,reduceAdd,reduceMul,reduceSub,Nat.reduceBEq,reduceEqDiff,reduceLT,reduceLeDiff,ru,zu]
   repeat refine ae ?_
   refine aw (i+1,lo,hi,out++[x]) ?_ ⟨by omega,by rw[ec,uT,gj],by rw[ec,BE,gK],by rw[ec,e8,cZ]⟩
   exact bP [0,1,6]
  have uD:=Tu x v hx hv h0
  have sd:(en v x).length=9:=er lx
  have e8:=zD (s:=s.take i) h0
  unfold FL RL at uD
  change Den Tryz.prog 274 [] [.agg (flat x),.int .i64 v] [] (.tup [.agg (flat (en v x)),.int .i64 (eg (x.getD v rz).q),.int .i64 0]) at uD
  by_cases hp:0<co x v
  .have uT:=wz (s:=s.take i) hp
   have BE:=jB (s:=s.take i) (v:=v) (x:=x) (by grind)
   have cI:=cP lo (en v x)
   obtain⟨y,hy⟩:=ax (en v x)
   rw[hy] at uD sd uT cI
   have gy:=ag y
   have nh:=aB sd
   have fB:=ar sd
   rw[show eg (x.getD v rz).q=1 from v8 hp] at uD
   have e1:decide ((1:Int)>0)=true:=rfl
   refine aF (f0 h2 r1 l_ fx gx lx fU) ?_
   repeat refine ae ?_
   refine hY uD ?_
   simp -dsimp(disch:=omega) only[gy,sd,e1,fB,nh,tk1,cI,Ua,IntKind.bits,Int.reduceToNat,Int.reducePow,Option.isNone_none,↓reduceIte,reduceCtorEq,reduceAdd,reduceMul,reduceSub,Nat.reduceBEq,reduceEqDiff,reduceLT,reduceLeDiff,ru,zu]
   repeat refine ae ?_
   refine aw (i+1,lo++[y],hi,out) ?_ ⟨by omega,by rw[ec,uT,gj],by rw[ec,BE,gK],by rw[ec,e8,cZ]⟩
   exact bP [6,1,2]
  have jV:co x v<0:=by grind
  have uT:=lJ (s:=s.take i) (v:=v) (x:=x) hp
  have BE:=s7 (s:=s.take i) jV
  have cI:=cP hi (en v x)
  obtain⟨y,hy⟩:=ax (en v x)
  rw[hy] at uD sd BE cI
  have gy:=ag y
  have nh:=aB sd
  have fB:=ar sd
  rw[show eg (x.getD v rz).q= -1 from v9 jV] at uD
  have e1:decide ((-1:Int)>0)=false:=rfl
  have e2:decide ((-1:Int)<0)=true:=rfl
  refine aF (f0 h2 r1 l_ fx gx lx fU) ?_
  repeat refine ae ?_
  refine hY uD ?_
  simp -dsimp(disch:=omega) only[gy,sd,e1,e2,fB,nh,tk2,cI,Eh,IntKind.bits,Int.reduceToNat,Int.reducePow,Option.isNone_none,↓reduceIte,reduceCtorEq,reduceAdd,reduceMul,reduceSub,Nat.reduceBEq,reduceEqDiff,reduceLT,reduceLeDiff,ru,zu]
  repeat refine ae ?_
  refine aw (i+1,lo,hi++[y],out) ?_ ⟨by omega,by rw[ec,uT,gj],by rw[ec,BE,gK],by rw[ec,e8,cZ]⟩
  exact bP [0,6,2]
 intro h1 h2
 have j6:i=n:=by omega
 have fD:s.take i=s:=dm (by omega)
 rw[fD] at gj gK cZ
 have Ei:rF s v=MG hi lo:=by rw[gj,gK];rfl
 have gv:eo s v=out++rN hi lo:=by rw[gj,gK,cZ];rfl
 have D_: ∀ b∈lo,LOk 2001 b:=by rw[gj];exact D'
 have xE: ∀ b∈hi,LOk 2001 b:=by rw[gK];exact Eg
 have OK:=wx (v:=v) hs hz
 rw[gv,qe,XZ] at OK
 clear gj gK cZ
 refine aF h2 ?_
 refine aM m_ ?_
 refine aF (a8 Ua Eh) ?_
 repeat refine ae ?_
 obtain⟨ng,hng⟩:=ax (decide (((-1:Int):Rat).num<0))
 obtain⟨nn,WH⟩:=ax (N ((-1:Int):Rat).num.natAbs)
 obtain⟨nd,l6⟩:=ax (N ((-1:Int):Rat).den)
 rw[hng,WH,l6]
 have nH: ∀ b:List Raw,LOk 2001 b->Den Tryz.prog 140 [] [RL b,.agg [.bool ng,.fv nn,.fv nd]] [] (RL (dL b)):=fun b hb=>by
  have:=GX b (cn ((-1:Int):Rat)) (hb.mono (by decide)) (bn (Bd.mono (show Bd 1 ((-1:Int):Rat) from⟨by decide,by decide⟩) (by decide)));rw[cK] at this;change Den Tryz.prog 140 [] [RL b,FR ((-1:Int):Rat)] [] (RL (dL b)) at this;rw[a_,hng,WH,l6] at this;exact this
 have hca: ∀ u l:List Raw,LOk 2001 u->LOk 2001 l->Den Tryz.prog 171 [] [RL u,RL (dL l)] [] (RL (d9 u l)):=fun u l hu hl=>
  Tz u (dL l) (hu.mono (by decide)) ((rD hl (by decide)).mono (by decide))
 clear hng WH l6 m_
 refine wl (α:=Nat×List (List Raw)) (fun⟨j,fo⟩=>⟨[.fv (.sl (ak s)),.int .i64 v,.any,.any,.nilsl,.bool false,.lsl 0 0 L1 27,.lsl 1 0 L2 27,.lsl 2 0 fo.length 27,.any,.any,.any,.any,.any,.ptr 3 0 0]++replicate 38 .any++[.lsl 1 0 L2 27,.int .i64 L2,.int .i64 j]++replicate 32 .any,[.row true (ak lo),.row true (ak hi),.row true (ak fo),.box true [.bool ng,.fv nn,.fv nd]]⟩)
  (fun⟨j,_⟩=>L2 - j) (fun⟨j,fo⟩=>j<=L2/\fo=out++rN (hi.take j) lo/\MG (hi.take j) lo=false) (0,out) ?_ ?_ ?_
 .exact bP [0,1,2,3]
 .exact⟨dU _,by simp[rN],rfl⟩
 rintro⟨j,fo⟩ ⟨hj,gg,dN⟩
 obtain⟨M,hM⟩:=ax fo.length
 dsimp only
 rw[hM]
 refine aW ?_
 refine bK ?_ ?_
 .intro h3 h4
  have ec:=fh (cs:=hi) (i:=j) (by omega)
  have bC:=cr (ls:=hi) (i:=j) (by omega)
  have r1:=ba hi j
  obtain⟨u,huu⟩:=ax (hi.getD j [])
  rw[huu] at bC r1 ec
  have hu:=xE u bC
  have lu:=hu.len
  have u27:=aB lu
  have fu:=aI u
  have gu:=ag u
  have Sm:=ar lu
  refine aF (bU h4 r1 u27 fu gu lu Sm (a8 Ua Eh)) ?_
  repeat refine ae ?_
  refine wl (α:=Nat×List (List Raw)) (fun⟨q,ib⟩=>⟨[.fv (.sl (ak s)),.int .i64 v,.any,.any,.nilsl,.bool false,.lsl 0 0 L1 27,.lsl 1 0 L2 27,.lsl 2 0 ib.length 27,.any,.any,.any,.any,.any,.ptr 3 0 0,.any,.ptr 4 0 0]++replicate 36 .any++[.lsl 1 0 L2 27,.int .i64 L2,.int .i64 j,.any,.any,.any,.lsl 0 0 L1 27,.int .i64 L1,.int .i64 q]++replicate 26 .any,[.row true (ak lo),.row true (ak hi),.row true (ak ib),.box true [.bool ng,.fv nn,.fv nd],.box true (flat u)]⟩)
   (fun⟨q,_⟩=>L1 - q) (fun⟨q,ib⟩=>q<=L1/\ib=fo++(lo.take q).map (d9 u)/\ym u (lo.take q)=false) (0,fo) ?_ ?_ ?_
  .exact bP [0,1,2,3,4]
  .exact⟨dU _,by simp,rfl⟩
  rintro⟨q,ib⟩ ⟨hq,Kx,EE⟩
  have hM3:ib.length<=100:=by
   have e1:ib.length=fo.length+q:=by rw[Kx];simp;omega
   have e2:fo.length=L3+(hi.take j).length*lo.length:=by
    rw[gg,qe,XZ];unfold rN;rw[fO]
   have e3:(rN hi lo).length=hi.length*lo.length:=by unfold rN;rw[fO]
   have e4:(hi.take j).length=j:=by rw[length_take];omega
   rw[e3] at OK;rw[e4] at e2;have e5:(j+1)*lo.length<=hi.length*lo.length:=qn _ (by omega);rw[Nat.add_mul] at e5;omega
  obtain⟨M3,OL⟩:=ax ib.length
  have X0:=aq ib
  rw[OL] at hM3 X0
  dsimp only
  rw[OL]
  refine aW ?_
  refine bK ?_ ?_
  .intro h5 h6
   have Ej:=fh (cs:=lo) (i:=q) (by omega)
   have Ek:=cr (ls:=lo) (i:=q) (by omega)
   have r3:=ba lo q
   obtain⟨l,pa⟩:=ax (lo.getD q [])
   rw[pa] at Ek r3 Ej
   have hl:=D_ l Ek
   have ll:=hl.len
   have l27:=aB ll
   have fl:=aI l
   have gl:=ag l
   have Ky:=ar ll
   have KW:=nH l hl
   have Wi:=hca u l hu hl
   have d7:=dG ll
   have eO:=rB lu ll
   have ye:=Js (u:=u) (l:=l) (lo:=lo.take q)
   have WI:=Hf hu hl (by decide)
   have cI:=cP ib (d9 u l)
   have X4:(lo.take (q+1)).map (d9 u)=(lo.take q).map (d9 u)++[d9 u l]:=by rw[Ej,BM];rfl
   have Sn:ym u (lo.take (q+1))=true->rF s v=true:=fun hb=>by
    rw[Ei];exact kA bC (MH hb)
   obtain⟨nl,WJ⟩:=ax (dL l)
   obtain⟨d,hd⟩:=ax (d9 u l)
   rw[WJ] at KW Wi d7
   rw[hd] at Wi eO ye WI cI X4
   have gnl:=ag nl
   have gd:=ag d
   have Kz:=ar eO
   have d27:=aB eO
   have OG:=kr eO
   have h74:=L8 d (WI.mono (by decide))
   have g_:=nP (d.getD 8 rz) ((WI.at 8).mono (by decide))
   have nD:co d 8=(d.getD 8 rz).q:=rfl
   have Ub:=bX (ls:=ib) (n:=M3) (by omega)
   obtain⟨r,hr⟩:=ax (d.getD 8 rz)
   rw[hr] at g_ OG nD
   unfold Raw.v at g_
   obtain⟨b,hb⟩:=ax (b8 d)
   rw[hb] at h74 ye
   unfold RL at KW Wi h74
   refine aF (f0 h6 r3 l27 fl gl ll Ky) ?_
   repeat refine ae ?_
   refine dw (by kernel_rfl) ?_
   refine aF (kX Sm Ky gu lu gl ll) ?_
   repeat refine ae ?_
   refine hY KW ?_
   refine aF (a8 gnl d7) ?_
   repeat refine ae ?_
   refine hY Wi ?_
   refine aF (bB gd eO Kz) ?_
   repeat refine ae ?_
   refine hY h74 ?_
   cases b with
   | true=>
    refine aF (fe OG gd eO Kz) ?_
    repeat refine ae ?_
    refine aM g_ ?_;refine kI ?_;refine bK ?_ ?_
    .intro g1 g2;have hv:ym u (lo.take (q+1))=true:=by
      have cX:r.q<=0:=by
       have:=@fG r.q;grind
      rw[Ej,ye,nD,EE,iK cX];rfl
     rw[if_pos (Sn hv)] at hR;subst hR;refine aF g2 ?_;refine bc rfl
    .intro g1 g2;have hv:ym u (lo.take (q+1))=false:=by
      have cX: ¬r.q<=0:=by
       have:=@fG r.q;grind
      rw[Ej,ye,nD,EE,mU cX];rfl
     refine aF (bU g2 gd eO Kz d27 Ub cI X0) ?_
     repeat refine ae ?_
     refine aw (q+1,ib++[d]) ?_ ⟨by omega,by rw[X4,Kx,append_assoc],hv⟩;exact bP [0,1,8,3,4]
   | false=>
    have hv:ym u (lo.take (q+1))=false:=by rw[Ej,ye,EE];rfl
    refine aF (f0 gd eO Kz d27 Ub cI X0) ?_
    repeat refine ae ?_
    refine aw (q+1,ib++[d]) ?_ ⟨by omega,by rw[X4,Kx,append_assoc],hv⟩;exact bP [0,1,8,3,4]
  intro h5 h6
  have hqe:q=L1:=by omega
  have Gm:lo.take q=lo:=dm (by omega)
  rw[Gm] at Kx EE
  refine aF h6 ?_
  refine aw (j+1,ib) ?_ ⟨by omega,by rw[ec,Fc,Kx,gg,append_assoc],by rw[ec,Jt,dN,EE];rfl⟩
  exact bP [0,1,2,3]
 intro h3 h4
 have PG:j=L2:=by omega
 have tF:hi.take j=hi:=dm (by omega)
 rw[tF] at gg dN
 rw[<-gv] at gg
 rw[Ei,dN,if_neg (by simp)] at hR
 have hbf: ¬I3 s v:=fun hb=>by
  have:=(jP h9).2 hb;rw[Ei,dN] at this;cases this
 have RM:dk fo=false:=by
  have h9o: ∀ o∈fo,o.length=9:=by rw[gg];exact gR h9
  cases Im:dk fo with
  | false=>rfl
  | true=>exact absurd (by have:=(lF h9o).1 Im;rwa [gg] at this) (MI hs hbf)
 have nA:=Qg fo (by rw[gg];exact fun o ho=>(AF j_ (by decide) o ho).mono (by decide)) (by
  have:=wx (v:=v) hs hz;rw[gg];omega) (by rw[gg];exact MF hv hk hs hz.l) (by rw[gg];exact wy hv hs hz)
 rw[RM,if_neg (by simp)] at nA
 have rl5:=aq fo
 have tk5:=bX (ls:=fo) (n:=M) (by omega)
 have c6:iq s v=sysL fo []:=by rw[gg];rfl
 rw[c6] at hR
 subst hR
 rw[hM] at rl5
 refine aF h4 ?_
 refine gp nA (by simp[bH,eS,dS,dI,rl5,tk5]) ?_
 refine kI ?_
 exact bc rfl
theorem aac (s:List (List Raw)) (v:Nat) (hv:v<8) (hg: ∀ l∈s,LOk 1000 l) (hn:s.length<=1000):
 Den Tryz.prog 249 [] [.fv (.sl (ak s)),.int .i64 v] [] (.tup [.int .i64 (((dE s v).length:Int)*(bV s v).length - (dE s v).length - (bV s v).length),.bool (occ s v)]):=by
 obtain⟨n,cB⟩:=ax s.length
 have rl:=aq s
 rw[cB] at rl hn
 have j0:=cU s v
 have OM:occ s v=decide (((dE s v).length:Int)+(bV s v).length>0):=by
  cases ho:occ s v with
  | false=>
   obtain⟨_,h1,h2⟩:=rC ho;rw[h1,h2];rfl
  | true=>
   obtain⟨l,hl,h0⟩:=ei.1 ho;symm;refine iK ?_;by_cases hp:0<co l v
   .have:en v l∈dE s v:=gh.2 ⟨l,hl,hp,rfl⟩;have:=length_pos_of_mem this;omega
   have:en v l∈bV s v:=fc.2 ⟨l,hl,by grind,rfl⟩;have:=length_pos_of_mem this;omega
 rw[OM]
 obtain⟨A,hA⟩:=ax ((dE s v).length)
 obtain⟨C,hC⟩:=ax ((bV s v).length)
 rw[hA,hC] at j0 ⊢
 refine dq Tryz.func249 39 0 ?_
 refine cz rl ?_
 refine wl (α:=Nat×Nat×Nat) (fun⟨i,a,c⟩=>⟨[.fv (.sl (ak s)),.int .i64 v,.any,.any,.int .i64 0,.bool false,.int .i64 a,.int .i64 c,.any,.any,.fv (.sl (ak s)),.int .i64 n,.int .i64 i]++replicate 28 .any,[]⟩)
  (fun⟨i,_⟩=>n - i) (fun⟨i,a,c⟩=>i<=n/\a=(dE (s.take i) v).length/\c=(bV (s.take i) v).length) (0,0,0) ?_ ?_ ?_
 .exact bP []
 .exact⟨dU _,rfl,rfl⟩
 rintro⟨i,a,c⟩ ⟨hi,ha,hc⟩
 have dh:=cU (s.take i) v
 rw[<-ha,<-hc,length_take,cB] at dh
 refine aW ?_
 refine bK ?_ ?_
 .intro h1 h2
  have ec:=fh (cs:=s) (i:=i) (by omega)
  have bC:=cr (ls:=s) (i:=i) (by omega)
  have r1:=ba s i
  obtain⟨x,iW⟩:=ax (s.getD i [])
  rw[iW] at bC r1 ec
  have hx:=hg x bC
  have lx:=hx.len
  have l_:=aB lx
  have fx:=aI x
  have gx:=ag x
  have fU:=ar lx
  have dZ:=b9 (rs:=x) (i:=v) (by omega)
  have g_:=nP (x.getD v rz) ((hx.at v).mono (by decide))
  have nD:co x v=(x.getD v rz).q:=rfl
  obtain⟨r,hr⟩:=ax (x.getD v rz)
  rw[hr] at dZ g_ nD
  unfold Raw.v at g_
  rcases jA r.q with hq | hq | hq
  .have jV:co x v<0:=by rw[nD,<-eR,hq];decide
   have uT:=lJ (s:=s.take i) (v:=v) (x:=x) (by grind)
   have BE:=s7 (s:=s.take i) jV
   rw[hq] at g_
   have e1:((-1:Int)==1)=false:=rfl
   have e2:((-1:Int)== -1)=true:=rfl
   refine aF (bU h2 r1 l_ fx gx lx fU dZ) ?_
   repeat refine ae ?_
   refine aM g_ ?_
   simp -dsimp(disch:=omega) only[e1,e2,IntKind.bits,Int.reduceToNat,Int.reducePow,Option.isNone_none,↓reduceIte,reduceCtorEq,reduceAdd,reduceMul,reduceSub,Nat.reduceBEq,reduceEqDiff,reduceLT,reduceLeDiff,ru,zu]
   repeat refine ae ?_
   refine aw (i+1,a,c+1) ?_ ⟨by omega,by rw[ec,uT,ha],by rw[ec,BE,qe,<-hc];rfl⟩
   exact bP []
  .have h0:co x v=0:=by rw[nD,<-aQ,hq]
   have uT:=lJ (s:=s.take i) (v:=v) (x:=x) (by grind)
   have BE:=jB (s:=s.take i) (v:=v) (x:=x) (by grind)
   rw[hq] at g_
   have e1:((0:Int)==1)=false:=rfl
   have e2:((0:Int)== -1)=false:=rfl
   refine aF (bU h2 r1 l_ fx gx lx fU dZ) ?_
   repeat refine ae ?_
   refine aM g_ ?_
   simp -dsimp(disch:=omega) only[e1,e2,IntKind.bits,Int.reduceToNat,Int.reducePow,Option.isNone_none,↓reduceIte,reduceCtorEq,reduceAdd,reduceMul,reduceSub,Nat.reduceBEq,reduceEqDiff,reduceLT,reduceLeDiff,ru,zu]
   repeat refine ae ?_
   refine aw (i+1,a,c) ?_ ⟨by omega,by rw[ec,uT,ha],by rw[ec,BE,hc]⟩
   exact bP []
  have hp:0<co x v:=by rw[nD,<-fG,hq];decide
  have uT:=wz (s:=s.take i) hp
  have BE:=jB (s:=s.take i) (v:=v) (x:=x) (by grind)
  rw[hq] at g_
  have e1:((1:Int)==1)=true:=rfl
  refine aF (bU h2 r1 l_ fx gx lx fU dZ) ?_
  repeat refine ae ?_
  refine aM g_ ?_
  simp -dsimp(disch:=omega) only[e1,IntKind.bits,Int.reduceToNat,Int.reducePow,Option.isNone_none,↓reduceIte,reduceCtorEq,reduceAdd,reduceMul,reduceSub,Nat.reduceBEq,reduceEqDiff,reduceLT,reduceLeDiff,ru,zu]
  repeat refine ae ?_
  refine aw (i+1,a+1,c) ?_ ⟨by omega,by rw[ec,uT,qe,<-ha];rfl,by rw[ec,BE,hc]⟩
  exact bP []
 intro h1 h2
 have fD:s.take i=s:=dm (by omega)
 rw[fD,hA] at ha
 rw[fD,hC] at hc
 subst ha hc
 have Gn:(0:Int)<=(a:Int)*(c:Int)/\(a:Int)*(c:Int)<=1000000:=by
  constructor
  .exact Int.mul_nonneg (by omega) (by omega)
  have:=Nat.mul_le_mul (show a<=1000 by omega) (show c<=1000 by omega);have e:((a*c:Nat):Int)=(a:Int)*c:=by simp
  omega
 refine aF h2 ?_
 repeat refine ae ?_
 refine bc ?_
 exact D7
theorem aad (s:List (List Raw)) (v:Nat) (hv:v<8) (hg:GoodW s):
 Den Tryz.prog 250 [] [.fv (.sl (ak s)),.int .i64 v] [] (if rF s v then .tup [.fv (.sl []),.bool false] else .tup [.fv (.sl (ak (iq s v))),.bool true]):=by
 obtain⟨k,hk,hs,hz,_⟩:=hg
 exact aeR k s v hv hk hs hz
theorem TF (s0:List (List Raw)) (su:GoodW s0):Den Tryz.prog 204 [] [.fv (.sl (ak s0))] [] (.bool (dX s0)):=by
 obtain⟨R,hR⟩:=ax (dX s0);rw[hR];refine dq Tryz.func204 41 0 ?_;refine aW ?_;refine wl (α:=List (List Raw)) (fun s=>⟨[.fv (.sl (ak s)),.any,.bool false]++replicate 39 .any,[]⟩)
  bt (fun s=>GoodW s/\dX s=R) s0 ?_ ?_ ?_
 .exact bP []
 .exact⟨su,hR⟩
 rintro s ⟨hg,hf⟩;have rl:=aq s;have Kw:=hg.len;refine cz rl ?_;refine bK ?_ ?_
 .intro h1 h2;refine ah h2 ?_;refine wl (α:=Nat×Int×Int) (fun⟨w,b,l⟩=>⟨[.fv (.sl (ak s)),.any,.bool false,.int .i64 b,.int .i64 l]++replicate 7 .any++[.int .i64 w]++replicate 29 .any,[]⟩)
   (fun⟨w,_⟩=>8 - w) (fun⟨w,b,l⟩=>w<=8/\((b= -1/\ ∀ u,u<w->occ s u=false)\/ ∃ u,u<8/\b=(u:Nat)/\occ s u=true/\l=rM s u/\ ∀ q,q<w->occ s q=true->rM s u<=rM s q)) (0,-1,0) ?_ ?_ ?_
  .exact bP []
  .exact⟨dU _,.inl ⟨rfl,fun u hu=>by omega⟩⟩
  rintro⟨w,b,l⟩ ⟨hw,hb⟩;refine aW ?_;refine bK ?_ ?_
  .intro h3 h4;have Oo:=aac s w (by omega) hg.lim (by omega);obtain⟨c,hc⟩:=ax (((dE s w).length:Int)*(bV s w).length - (dE s w).length - (bV s w).length);obtain⟨o,ho⟩:=ax (occ s w);rw[hc,ho] at Oo;refine ah h4 ?_;refine aM Oo ?_;cases o with
   | false=>
    refine a9 ?_;refine aw (w+1,b,l) ?_ ⟨by omega,?_⟩
    .exact bP []
    .rcases hb with⟨h5,h6⟩ | h5
     .refine .inl ⟨h5,fun u hu=>?_⟩;by_cases huw:u=w
      .rw[huw];exact ho
      exact h6 u (by omega)
     .obtain⟨u,hu,XV,WG,hlu,K3⟩:=h5;exact .inr ⟨u,hu,XV,WG,hlu,fun q hq K4=>by
       by_cases WK:q=w
       .rw[WK,ho] at K4;cases K4
       .exact K3 q (by omega) K4⟩
   | true=>
    have qX:rM s w=c:=hc;refine a9 ?_;refine bK ?_ ?_
    .intro h5 h6;refine ah h6 ?_;have xG: ∀ u,u<w->occ s u=false:=by
      rcases hb with⟨_,h8⟩ | ⟨u,_,h8,_⟩
      .exact h8
      omega
     refine aw (w+1,(w:Int),c) ?_ ⟨by omega,.inr ⟨w,by omega,rfl,ho,qX.symm,fun q hq K4=>by
      by_cases WK:q=w
      .rw[WK];exact Int.le_refl _
      rw[xG q (by omega)] at K4;cases K4⟩⟩
     exact bP []
    intro h5 h6;refine ah h6 ?_;have dN: ∃ u,u<8/\b=(u:Nat)/\occ s u=true/\l=rM s u/\ ∀ q,q<w->occ s q=true->rM s u<=rM s q:=by
     rcases hb with⟨h7,_⟩ | h7
     .omega
     exact h7
    refine bK ?_ ?_
    .intro h7 h8;refine ah h8 ?_;refine aw (w+1,(w:Int),c) ?_ ⟨by omega,.inr ⟨w,by omega,rfl,ho,qX.symm,fun q hq K4=>by
      by_cases WK:q=w
      .rw[WK];exact Int.le_refl _
      obtain⟨u,_,_,_,hlu,K3⟩:=dN;have:=K3 q (by omega) K4;omega⟩⟩
     exact bP []
    intro h7 h8;refine ah h8 ?_;refine aw (w+1,b,l) ?_ ⟨by omega,.inr (by
     obtain⟨u,hu,XV,WG,hlu,K3⟩:=dN;refine⟨u,hu,XV,WG,hlu,fun q hq K4=>?_⟩;by_cases WK:q=w
     .rw[WK];omega
     exact K3 q (by omega) K4)⟩
    exact bP []
  intro h3 h4;have hw8:w=8:=by omega
  have dN: ∃ u,u<8/\b=(u:Nat)/\occ s u=true/\l=rM s u/\ ∀ q,q<w->occ s q=true->rM s u<=rM s q:=by
   rcases hb with⟨h7,h8⟩ | h7
   .exfalso;have cY:0<s.length:=by omega
    have bC:=cr (ls:=s) (i:=0) cY;obtain⟨u,hu,h0⟩:=sU (hg.nc _ bC);have:=h8 u (by omega);rw[ei.2 ⟨_,bC,h0⟩] at this;cases this
   exact h7
  obtain⟨u,hu,rfl,WG,_,K3⟩:=dN;have uY:=aad s u hu hg;cases Ei:rF s u with
  | true=>
   rw[Ei,if_pos rfl] at uY;have qS:R=false:=by rw[<-hf];exact hg.bad hu Ei
   subst qS;refine ah h4 ?_;refine aM uY ?_;refine ah @Bool.not_false ?_;exact bc rfl
  | false=>
   rw[Ei,if_neg (by simp)] at uY;have qS:=hg.feas hu Ei;obtain⟨T1,aG⟩:=hg.step hu WG (fun q hq K4=>K3 q (by omega) K4);refine ah h4 ?_;refine aM uY ?_;refine ah @Bool.not_true ?_;refine ap (iq s u) aG ?_ ⟨T1,by rw[qS];exact hf⟩;exact bP []
 intro h1 h2;have EI:s=[]:=List.eq_nil_of_length_eq_zero (by omega);have qS:R=true:=by rw[<-hf,EI];exact zt
 subst qS;refine ah h2 ?_;exact bc rfl
theorem aae (s0:List (List Raw)) (su:GoodS s0):Den Tryz.prog 204 [] [.fv (.sl (ak s0))] [] (.bool (dX s0)):=TF s0 su.w
theorem aaf (cs:List (List Raw)) (h:CsOk cs):Den Tryz.prog 203 [] [.fv (.sl (ak cs))] [] (if dk cs then .tup [.fv (.sl []),.bool false] else .tup [.fv (.sl (ak (sysL cs []))),.bool true]):=
 Qg cs (fun l hl=>(h.ok l hl).mono (by decide)) (by have:=h.len;omega) h.nok h.nc
theorem aag (cs:List (List Raw)) (h:CsW cs):Den Tryz.prog 141 [] [.fv (.sl (ak cs))] [] (.bool (cN cs)):=by
 have nA:=Qg cs (fun l hl=>(h.ok l hl).mono (by decide)) (by have:=h.len;omega) h.nok h.nc;have nJ:=TF _ h.good;unfold cN;obtain⟨R,hR⟩:=ax (dX (sysL cs []));rw[hR] at nJ ⊢;cases hv:dk cs with
 | true=>
  rw[hv,if_pos rfl] at nA;refine dq Tryz.func141 14 0 ?_;refine aW ?_;refine aM nA ?_;refine a9 ?_;exact bc rfl
 | false=>
  rw[hv,if_neg (by simp)] at nA;refine dq Tryz.func141 14 0 ?_;refine aW ?_;refine aM nA ?_;refine a9 ?_;refine aM nJ ?_;refine a9 ?_;exact bc rfl
theorem U_ (cs:List (List Raw)) (h:CsOk cs):Den Tryz.prog 141 [] [.fv (.sl (ak cs))] [] (.bool (cN cs)):=aag cs h.w
theorem aeS (cs:List (List Raw)) (h:CsOk cs) (hl:cs.length<=40):Den Tryz.prog 130 [] [.fv (.sl (ak cs))] [] (.tup [.bool (cN cs),.int .i64 0]):=by
 have El:=U_ cs h;have rl:=aq cs;have e1:decide ((cs.length:Int)>40)=false:=qV;refine dq Tryz.func130 8 0 ?_;simp -dsimp(disch:=omega) only[replicate,rl,e1,IntKind.bits,Int.reduceToNat,Int.reducePow,Option.isNone_none,↓reduceIte,reduceCtorEq,reduceAdd,reduceMul,reduceSub,Nat.reduceBEq,reduceEqDiff,reduceLT,reduceLeDiff,ru];refine aM El ?_;refine a9 ?_;exact bc rfl
theorem rO:(replicate 9 (0:Rat)).map cn=replicate 9 (cn 0):=by simp
theorem dH (q:Rat):(dR q).length=9:=by simp[dR]
theorem dz (v:Nat):(mD v).length=9:=by simp[mD]
theorem Qq (r:Raw) (hr:r.Ok 5000000000):Den Tryz.prog 107 [] [r.v] [] (RL (dR r.q)):=by
 have kN:=kg r hr;have Gp:=LM;unfold FL at Gp;rw[rO] at Gp;have bg:=dF (rs:=replicate 9 (cn 0)) (i:=8) (by simp) (cn r.q).neg (cn r.q).num (cn r.q).den;have sx:(⟨(cn r.q).neg,(cn r.q).num,(cn r.q).den⟩:Raw)=cn r.q:=rfl;rw[sx] at bg;change _=flat (dR r.q) at bg;have d7:=dH r.q;obtain⟨y,hy⟩:=ax (dR r.q);obtain⟨z,hz⟩:=ax (replicate 9 (cn 0));have l7:z.length=9:=by rw[<-hz];simp
 obtain⟨c,hc⟩:=ax (cn r.q);rw[hy] at bg d7 ⊢;rw[hz] at Gp bg;have ack:Den Tryz.prog 92 [] [r.v] [] c.v:=by rw[<-hc];exact kN
 rw[hc] at bg;unfold Raw.v at ack ⊢;unfold RL at Gp ⊢;have gz:=ag z;have gy:=ag y;have fB:=ar d7;have WL:=ar l7;simp only[reduceMul,reduceAdd] at bg;refine dq Tryz.func107 8 0 ?_;refine kI ?_;refine aM Gp ?_;refine aF (bB gz l7 WL) ?_
 repeat refine ae ?_
 refine aM ack ?_;refine aF (kX gz l7 bg fB gy d7) ?_
 repeat refine ae ?_
 exact RetOK.form rfl rfl d7
theorem aah (v:Nat) (hv:v<8):Den Tryz.prog 105 [] [.int .i64 v] [] (RL (mD v)):=by
 have nB:=iP 1 (by decide);have Gp:=LM;unfold FL at Gp;rw[rO] at Gp;have bg:=dF (rs:=replicate 9 (cn 0)) (i:=v) (by simp;omega) (cn ((1:Int):Rat)).neg (cn ((1:Int):Rat)).num (cn ((1:Int):Rat)).den;have sx:(⟨(cn ((1:Int):Rat)).neg,(cn ((1:Int):Rat)).num,(cn ((1:Int):Rat)).den⟩:Raw)=cn ((1:Int):Rat):=rfl;rw[sx] at bg;change _=flat (mD v) at bg;have d7:=dz v;obtain⟨y,hy⟩:=ax (mD v);obtain⟨z,hz⟩:=ax (replicate 9 (cn 0));have l7:z.length=9:=by rw[<-hz];simp
 obtain⟨c,hc⟩:=ax (cn ((1:Int):Rat));rw[hy] at bg d7 ⊢;rw[hz] at Gp bg;have yO:Den Tryz.prog 30 [] [.int .i64 1] [] c.v:=by rw[<-hc];exact nB
 rw[hc] at bg;unfold Raw.v at yO;unfold RL at Gp ⊢;have gz:=ag z;have gy:=ag y;have fB:=ar d7;have WL:=ar l7;refine dq Tryz.func105 9 0 ?_;refine kI ?_;refine aM Gp ?_;refine aF (bB gz l7 WL) ?_
 repeat refine ae ?_
 refine aM yO ?_;refine aF (kX gz l7 bg fB gy d7) ?_
 repeat refine ae ?_
 exact RetOK.form rfl rfl d7
theorem Qr (l:List Raw) (h:LOk 1000000 l):Den Tryz.prog 39 [] [RL l] [] (RL (dL l)):=by
 have nB:=iP (-1) (by decide);have uY:=LK l (cn ((-1:Int):Rat)) (h.mono (by decide)) (bn (Bd.mono (show Bd 1 ((-1:Int):Rat) from⟨by decide,by decide⟩) (by decide)));rw[cK] at uY;change Den Tryz.prog 90 [] [RL l,(cn ((-1:Int):Rat)).v] [] (RL (dL l)) at uY;have pa:=h.len;have d7:=dG pa;obtain⟨y,hy⟩:=ax (dL l);obtain⟨c,hc⟩:=ax (cn ((-1:Int):Rat));rw[hy] at uY d7 ⊢;have yO:Den Tryz.prog 30 [] [.int .i64 (-1)] [] c.v:=by rw[<-hc];exact nB
 rw[hc] at uY;unfold Raw.v at yO uY;unfold RL at uY ⊢;have gl:=ag l;have gy:=ag y;have fB:=ar d7;have Ky:=ar pa;refine dq Tryz.func39 5 0 ?_;refine aF (a8 gl pa) ?_
 repeat refine ae ?_
 refine dw (by kernel_rfl) ?_;refine aF (bB Ky gl pa) ?_
 repeat refine ae ?_
 refine aM yO ?_;refine kI ?_;refine hY uY ?_;refine aF (bB gy d7 fB) ?_
 repeat refine ae ?_
 exact RetOK.form rfl rfl d7
theorem aai (a:List Raw) (ha:LOk 1000000000 a):Den Tryz.prog 40 [] [RL a] [] (.bool (b8 a)):=by
 obtain⟨R,hR⟩:=ax (b8 a);rw[hR];have la:=ha.len;have fa:=ag a;unfold RL;refine dq Tryz.func40 21 0 ?_;refine aF (a8 fa la) ?_
 repeat refine ae ?_
 refine wl (α:=Nat) (fun i=>⟨[.any,.ptr 0 0 0,.bool false,.int .i64 i]++replicate 18 .any,[.box true (flat a)]⟩)
  (fun i=>8 - i) (fun i=>i<=8/\ ∀ j,j<i->co a j=0) 0 ?_ ?_ ?_
 .exact bP [0]
 .exact⟨dU _,fun j h=>by omega⟩
 rintro i ⟨hi,bj⟩;refine aW ?_;refine bK ?_ ?_
 .intro h1 h2;have dZ:=b9 (rs:=a) (i:=i) (by omega);have bf:=ha.at i;have nD:co a i=(a.getD i rz).q:=rfl;obtain⟨r,hr⟩:=ax (a.getD i rz);rw[hr] at dZ bf nD;have EH:=tS r;have iX:=kh r (bf.mono (by decide));unfold Raw.v at EH iX;have iu:r.q=0-> ∀ j,j<i+1->co a j=0:=fun h0 j hj=>by
   by_cases o5:j=i
   .rw[o5,nD];exact h0
   exact bj j (by omega)
  refine ah (a8 h2 dZ) ?_
  repeat refine ae ?_
  refine aM EH ?_;by_cases h3:(r.num.length:Int)=0
  .have hb:((r.num.length:Int)==0)=true:=by rw[beq_iff_eq];exact h3
   refine ah (a8 hb @Bool.not_true) ?_;refine aw (i+1) ?_ ⟨by omega,iu (nS h3)⟩;exact bP [0]
  have hb:((r.num.length:Int)==0)=false:=by rw[qx];exact h3
  refine ah (bB hb @Bool.not_false dZ) ?_
  repeat refine ae ?_
  refine aM iX ?_;refine a9 ?_;refine Br.bneInt ?_ ?_
  .intro h5 h6;have qS:R=false:=by
    rw[<-hR];cases vD:b8 a with
    | false=>rfl
    | true=>
     exfalso;have:=(cA la).1 vD i (by omega);rw[nD] at this;exact h5 (aQ.2 this)
   subst qS;refine ah h6 ?_;exact bc rfl
  intro h5 h6;refine ah h6 ?_;refine aw (i+1) ?_ ⟨by omega,iu (aQ.1 h5)⟩;exact bP [0]
 intro h1 h2;have qS:R=true:=by
  rw[<-hR];exact(cA la).2 (fun j hj=>bj j (by omega))
 subst qS;refine ah h2 ?_;exact bc rfl
theorem TG (a b:List Raw) (ha:LOk 1000000000 a) (hb:LOk 1000000000 b):Den Tryz.prog 156 [] [RL a,RL b] [] (.int .i64 (bu a b)):=by
 obtain⟨R,hR⟩:=ax (bu a b);rw[hR];have la:=ha.len;have lb:=hb.len;have fa:=ag a;have fb:=ag b;unfold RL;refine dq Tryz.func156 38 0 ?_;refine aF (fe fa la fb lb) ?_
 repeat refine ae ?_
 refine wl (α:=Nat) (fun i=>⟨[.any,.any,.ptr 0 0 0,.ptr 1 0 0,.int .i64 0,.int .i64 i]++replicate 34 .any,[.box true (flat a),.box true (flat b)]⟩)
  (fun i=>8 - i) (fun i=>i<=8/\bu (a.drop i) (b.drop i)=R) 0 ?_ ?_ ?_
 .exact bP [0,1]
 .exact⟨dU _,hR⟩
 rintro i ⟨hi,bj⟩;refine aW ?_;refine bK ?_ ?_
 .intro h1 h2;have dZ:=b9 (rs:=a) (i:=i) (by omega);have Og:=b9 (rs:=b) (i:=i) (by omega);have acm:=ha.at i;have acn:=hb.at i;rw[sK (by omega) (by omega)] at bj;obtain⟨r,hr⟩:=ax (a.getD i rz);obtain⟨t,ht⟩:=ax (b.getD i rz);rw[hr] at dZ acm bj;rw[ht] at Og acn bj;have EH:=tS r;have Ks:=tS t;have PH:=LF r t (acm.mono (by decide)) (acn.mono (by decide));unfold Raw.v at EH Ks PH;obtain⟨g,hg⟩:=ax (eg (r.q - t.q));rw[hg] at PH bj;have aco:(r.num.length:Int)=0->(t.num.length:Int)=0->g=0:=fun h3 h4=>by
   rw[<-hg,nS h3,nS h4,Rat.sub_self];rfl
  by_cases h3:(r.num.length:Int)=0
  .have dp:((r.num.length:Int)==0)=true:=by rw[beq_iff_eq];exact h3
   by_cases h4:(t.num.length:Int)=0
   .have dN:((t.num.length:Int)==0)=true:=by rw[beq_iff_eq];exact h4
    rw[if_pos (aco h3 h4)] at bj;refine ah (a8 h2 dZ) ?_
    repeat refine ae ?_
    refine aM EH ?_;refine ah (a8 dp Og) ?_
    repeat refine ae ?_
    refine aM Ks ?_;refine ah dN ?_;refine aw (i+1) ?_ ⟨by omega,bj⟩;exact bP [0,1]
   have dN:((t.num.length:Int)==0)=false:=by rw[qx];exact h4
   refine ah (a8 h2 dZ) ?_
   repeat refine ae ?_
   refine aM EH ?_;refine ah (a8 dp Og) ?_
   repeat refine ae ?_
   refine aM Ks ?_;refine ah dN ?_;refine dw (by kernel_rfl) ?_;refine ah (a8 dZ Og) ?_
   repeat refine ae ?_
   refine aM PH ?_;refine a9 ?_;refine Br.bneInt ?_ ?_
   .intro h5 h6;rw[if_neg h5] at bj;subst bj;refine ah h6 ?_;exact bc rfl
   intro h5 h6;rw[if_pos h5] at bj;refine ah h6 ?_;refine aw (i+1) ?_ ⟨by omega,bj⟩;exact bP [0,1]
  have dp:((r.num.length:Int)==0)=false:=by rw[qx];exact h3
  refine ah (a8 h2 dZ) ?_
  repeat refine ae ?_
  refine aM EH ?_;refine ah dp ?_;refine dw (by kernel_rfl) ?_;refine ah (a8 dZ Og) ?_
  repeat refine ae ?_
  refine aM PH ?_;refine a9 ?_;refine Br.bneInt ?_ ?_
  .intro h5 h6;rw[if_neg h5] at bj;subst bj;refine ah h6 ?_;exact bc rfl
  intro h5 h6;rw[if_pos h5] at bj;refine ah h6 ?_;refine aw (i+1) ?_ ⟨by omega,bj⟩;exact bP [0,1]
 intro h1 h2;have yc:i=8:=by omega
 subst yc;rw[y8 (by omega) (by omega)] at bj;have dZ:=b9 (rs:=a) (i:=8) (by omega);have Og:=b9 (rs:=b) (i:=8) (by omega);simp only[reduceMul] at dZ Og;have PH:=LF (a.getD 8 rz) (b.getD 8 rz) ((ha.at 8).mono (by decide)) ((hb.at 8).mono (by decide));rw[bj] at PH;obtain⟨r,hr⟩:=ax (a.getD 8 rz);obtain⟨t,ht⟩:=ax (b.getD 8 rz);rw[hr] at dZ PH;rw[ht] at Og PH;unfold Raw.v at PH;refine ah (bB h2 dZ Og) ?_
 repeat refine ae ?_
 refine aM PH ?_;refine a9 ?_;exact bc rfl
theorem vn {ls:List (List Raw)} (h: ∀ l∈ls,l.length=9):(∀ y,y∈ak ls->y.length=27)=True:=by
 refine eq_true (fun y hy=>?_);obtain⟨l,hl,rfl⟩:=mem_map.1 hy;rw[aI,h l hl]
theorem U' (ls:List (List Raw)) (h9: ∀ l∈ls,l.length=9) (hn:ls.length<=1000):Den Tryz.prog 89 [] [.fv (.sl (ak ls))] [.row true (ak ls)] (.lsl 0 0 ls.length 27):=by
 cases ls with
 | nil=>
  show Den Tryz.prog 89 [] ([]++ .fv (.sl [])::[]) [.row true []] (.lsl 0 0 0 27);refine Den.empty' ?_ (fun b o cap=>?_)
  .show Den Tryz.prog 89 [] [.nilsl] [.row true []] (.lsl 0 0 0 27);refine Ib nM nO Tryz.func89 (cd:=_) rfl (by decide) rfl (n:=7) rfl rfl ?_ 27 (by decide);refine cz (a8 @ox @uv) ?_;exact⟨_,rfl,b',b'⟩
  .show Den Tryz.prog 89 [] [.fv (.lit (.slice (some ⟨b,o,none⟩) 0 cap))] [.row true []] (.lsl 0 0 0 27);refine dq Tryz.func89 7 0 ?_;refine aW ?_;exact RetOK.own rfl ⟨b',b'⟩ rfl
 | cons a t=>
  have kO:=vn h9;have rl:=aq (a::t);have e:ak (a::t)=bR a::ak t:=rfl;rw[e] at kO rl ⊢;obtain⟨n,cB⟩:=ax ((a::t).length);rw[cB] at rl hn ⊢;obtain⟨us,gf⟩:=ax (bR a::ak t);have tC:us.length=n:=by rw[<-gf];exact rl
  refine dq Tryz.func89 7 0 ?_;refine aW ?_;rw[gf] at kO ⊢;have R7:(ak t).length+1=n:=by simpa using rl
  refine ah (bB kO tC R7) ?_;refine⟨⟨by omega,by omega⟩,?_⟩;exact RetOK.own rfl ⟨b',b'⟩ rfl
theorem zE (ls:List (List Raw)) (i:Nat):List.take i (ak ls)=ak (ls.take i):=by simp[ak]
theorem zF (ls:List (List Raw)) (i:Nat):List.drop i (ak ls)=ak (ls.drop i):=by simp[ak]
theorem C0 (ls:List (List Raw)) (i:Nat):ak (ls.take i)++ak (ls.drop (i+1))=ak (p_ ls i):=by simp[ak,p_]
theorem aaj (ls:List (List Raw)) (i:Nat) (hi:i<ls.length) (hn:ls.length<=1000):
 Den Tryz.prog 231 [.row true (ak ls)] [.lsl 0 0 ls.length 27,.int .i64 i,.int .i64 ((i:Int)+1)] [.row true (ak (p_ ls i))] (.lsl 0 0 (ls.length - 1) 27):=by
 obtain⟨n,cB⟩:=ax ls.length
 have rl:=aq ls
 rw[cB] at rl hi hn ⊢
 have e1:((i:Int)+1).toNat=i+1:=by omega
 have e2:((i:Int)==(i:Int)+1)=false:=by rw[qx];omega
 have e3:i+(n - (i+1))=n - 1:=by omega
 have t1:=zE ls i
 have d1:=zF ls (i+1)
 have dl:(ak (ls.drop (i+1))).length=n - (i+1):=by rw[aq,length_drop,cB]
 have t2:List.take (n - (i+1)) (ak (ls.drop (i+1)))=ak (ls.drop (i+1)):=dm (by omega)
 have dd:=C0 ls i
 have ddl:(ak (p_ ls i)).length=n - 1:=by rw[aq];have:=vm (s:=ls) (i:=i) (by omega);omega
 obtain⟨Z,hZ⟩:=ax (List.drop (n - 1) (ak ls))
 have Zl:Z.length=1:=by rw[<-hZ,length_drop,rl];omega
 obtain⟨D,hD⟩:=ax (ak (p_ ls i))
 rw[hD] at dd ddl ⊢
 have hWl:(D++Z).length=n:=by rw[qe,ddl,Zl];omega
 have hWt:List.take (n - 1) (D++Z)=D:=List.take_left' ddl
 refine dq Tryz.func231 30 1 ?_
 simp -dsimp(disch:=omega) only[replicate,rl,e1,IntKind.bits,Int.reduceToNat,Int.reducePow,Option.isNone_none,↓reduceIte,reduceCtorEq,reduceAdd,reduceMul,reduceSub,Nat.reduceBEq,reduceEqDiff,reduceLT,reduceLeDiff,ru]
 repeat refine ae ?_
 simp -dsimp(disch:=omega) only[e2,IntKind.bits,Int.reduceToNat,Int.reducePow,Option.isNone_none,↓reduceIte,reduceCtorEq,reduceAdd,reduceMul,reduceSub,Nat.reduceBEq,reduceEqDiff,reduceLT,reduceLeDiff,ru]
 refine dw (by kernel_rfl) ?_
 simp -dsimp(disch:=omega) only[Nat.sub_zero,e1,t1,d1,t2,dl,dd,e3,hZ,rl,IntKind.bits,Int.reduceToNat,Int.reducePow,Option.isNone_none,↓reduceIte,reduceCtorEq,reduceAdd,reduceMul,reduceSub,Nat.reduceBEq,reduceEqDiff,reduceLT,reduceLeDiff,ru]
 repeat refine ae ?_
 refine ah (bB hWl hWt @Nat.sub_zero) ?_
 repeat refine ae ?_
 exact qL rfl ⟨b',b'⟩ rfl trivial rfl rfl rfl
theorem TH (rs:List Raw) (e8:LOk 100000 rs):Den Tryz.prog 155 [] [RL rs] [] (FL (Ex rs)):=by
 have aA:=e8.len;have k4:=ag rs;have fX:rs≠[]:=fun h=>by rw[h] at aA;simp at aA
 have gj:=e8.ok _ (oJ fX);have xL:=ZB rs (e8.mono (by decide));have iX:=kh (bF rs) (gj.mono (by decide));obtain⟨c,hc⟩:=ax (bF rs);have b1:=gj.bd (by decide);rw[hc] at gj xL iX b1;by_cases h0:c.q=0
 .have Gp:=LM;rw[lA (by rw[hc];exact h0)];rw[aQ.2 h0] at iX;have kO:=Ao (replicate 9 0) rfl;unfold FL RL at Gp ⊢;unfold Raw.v at xL iX;obtain⟨zs,hz⟩:=ax ((replicate 9 (0:Rat)).map cn);have l7:zs.length=9:=by rw[<-hz];simp
  rw[hz] at Gp kO ⊢;unfold RL at xL;have e00:((0:Int)==0)=true:=rfl;refine dq Tryz.func155 25 0 ?_;simp -dsimp(disch:=omega) only[ar aA,IntKind.bits,Int.reduceToNat,Int.reducePow,Option.isNone_none,↓reduceIte,reduceCtorEq,reduceAdd,reduceMul,reduceSub,Nat.reduceBEq,reduceEqDiff,reduceLT,reduceLeDiff,ru,zu];refine⟨by omega,by omega,?_⟩;refine hY xL ?_;refine kI ?_;refine aM iX ?_;refine aF e00 ?_;refine aM Gp ?_;refine aF kO ?_;exact RetOK.form rfl rfl l7
 have h1:=iP 1 (by decide);have dp:Bd 1 ((1:Int):Rat):=⟨by decide,by decide⟩;have T4:=sI (by rw[hc];exact h0);rw[hc] at T4;have OB:rs.map (fun r=>r.q / dV c.q)=rs.map (fun r=>r.q*(1 / dV c.q)):=by
  apply List.map_congr_left;intro r _;exact(Ck _ _).symm
 rw[T4,OB];have hba:Bd 100000 (dV c.q):=by unfold dV;split;exact b1.neg;exact b1
 have KA:=oK h0;have sk:=bn (dp.div hba KA (by decide));have pK:=LK rs (cn (1 / dV c.q)) (e8.mono (by decide)) (Raw.Ok.mono sk (by decide));rw[cK] at pK;have ux:(rs.map (fun r=>r.q*(1 / dV c.q))).length=9:=by simp[aA]
 have kO:=Ao _ ux;have e10:((-1:Int)==0)=false:=rfl;have e11:((-1:Int)== -1)=true:=rfl;have e20:((1:Int)==0)=false:=rfl;have e21:((1:Int)== -1)=false:=rfl;have gL: ∀ x:Rat,((1:Int):Rat) / x=1 / x:=fun _=>rfl
 unfold FL RL at pK ⊢;unfold RL at xL;change Den Tryz.prog 90 [] [.agg (flat rs),FR (1 / dV c.q)] [] _ at pK;obtain⟨zs,hz⟩:=K_ ((rs.map (fun r=>r.q*(1 / dV c.q))).map cn);have l7:zs.length=9:=by rw[<-hz];simp[aA]
 rw[hz] at pK kO ⊢;by_cases jV:c.q.num<0
 .have uW:dV c.q= -c.q:=if_pos jV;rw[uW] at pK KA;rw[vc jV] at iX;have nA:=Tr c (gj.mono (by decide));have nJ:=LC (cn 1) (cn (-c.q)) (Raw.Ok.mono (bn dp) (by decide)) (Raw.Ok.mono (bn b1.neg) (by decide)) (by rw[cK];exact KA);rw[cK,cK] at nJ;change Den Tryz.prog 209 [] [FR 1,FR (-c.q)] [] _ at nJ;change Den Tryz.prog 30 [] _ [] (FR 1) at h1;rw[a_] at nA h1 pK;rw[a_,a_,a_] at nJ;unfold Raw.v at xL iX nA;refine dq Tryz.func155 25 0 ?_;simp -dsimp(disch:=omega) only[ar aA,IntKind.bits,Int.reduceToNat,Int.reducePow,Option.isNone_none,↓reduceIte,reduceCtorEq,reduceAdd,reduceMul,reduceSub,Nat.reduceBEq,reduceEqDiff,reduceLT,reduceLeDiff,ru,zu];refine⟨by omega,by omega,?_⟩;refine hY xL ?_;refine kI ?_;refine aM iX ?_;refine aF (a8 e10 e11) ?_;refine aM nA ?_;refine kI ?_;refine dw (by kernel_rfl) ?_
  refine kI ?_;refine aM h1 ?_;refine kI ?_;refine aM nJ ?_;simp -dsimp(disch:=omega) only[ar aA,IntKind.bits,Int.reduceToNat,Int.reducePow,Option.isNone_none,↓reduceIte,reduceCtorEq,reduceAdd,reduceMul,reduceSub,Nat.reduceBEq,reduceEqDiff,reduceLT,reduceLeDiff,ru,zu]
  repeat refine ae ?_
  refine hY pK ?_;refine aF kO ?_;exact RetOK.form rfl rfl l7
 have uW:dV c.q=c.q:=if_neg jV;rw[uW] at pK KA;rw[GW h0 jV] at iX;have nJ:=LC (cn 1) c (Raw.Ok.mono (bn dp) (by decide)) (gj.mono (by decide)) h0;rw[cK] at nJ;change Den Tryz.prog 209 [] [FR 1,c.v] [] _ at nJ;change Den Tryz.prog 30 [] _ [] (FR 1) at h1;rw[a_] at h1 pK;rw[a_,a_] at nJ;unfold Raw.v at xL iX nJ;refine dq Tryz.func155 25 0 ?_;simp -dsimp(disch:=omega) only[ar aA,IntKind.bits,Int.reduceToNat,Int.reducePow,Option.isNone_none,↓reduceIte,reduceCtorEq,reduceAdd,reduceMul,reduceSub,Nat.reduceBEq,reduceEqDiff,reduceLT,reduceLeDiff,ru,zu];refine⟨by omega,by omega,?_⟩;refine hY xL ?_;refine kI ?_;refine aM iX ?_;refine aF (a8 e20 e21) ?_;refine dw (by kernel_rfl) ?_;refine kI ?_;refine aM h1 ?_;refine kI ?_;refine aM nJ ?_
 simp -dsimp(disch:=omega) only[ar aA,IntKind.bits,Int.reduceToNat,Int.reducePow,Option.isNone_none,↓reduceIte,reduceCtorEq,reduceAdd,reduceMul,reduceSub,Nat.reduceBEq,reduceEqDiff,reduceLT,reduceLeDiff,ru,zu]
 repeat refine ae ?_
 refine hY pK ?_;refine aF kO ?_;exact RetOK.form rfl rfl l7
theorem wB: ∀ (i:Nat) (rs:List Raw),List.drop (i*3) (bR rs)=bR (rs.drop i)
 | 0,rs=>by simp
 | i+1,[]=>by simp[bR]
 | i+1,r::rs=>by
  have e:(i+1)*3=i*3+1+1+1:=by omega
  rw[e];simp only[bR,List.drop_succ_cons];exact wB i rs
theorem MJ {rs:List Raw} {i:Nat} (h:i<rs.length):List.take 3 (List.drop (i*3) (bR rs))=[.lit (.bool (rs.getD i rz).neg),.sl (u32s (rs.getD i rz).num),.sl (u32s (rs.getD i rz).den)]:=by
 rw[wB,drop_eq_getElem_cons h];simp only[bR,List.take_succ_cons,List.take_zero];rw[qa,qb h];rfl
theorem aak (s:List (List Raw)) (v:Nat) (hv:v<8) (hg: ∀ l∈s,LOk 1000000 l) (hn:s.length<=1000):Den Tryz.prog 157 [] [.fv (.sl (ak s)),.int .i64 v] [] (.bool (occ s v)):=by
 obtain⟨R,hR⟩:=ax (occ s v);rw[hR];obtain⟨n,cB⟩:=ax s.length;have rl:=aq s;rw[cB] at rl hn;refine dq Tryz.func157 19 0 ?_;refine aW ?_;refine wl (α:=Nat) (fun i=>⟨[.fv (.sl (ak s)),.int .i64 v,.any,.any,.bool false,.int .i64 i]++replicate 15 .any,[]⟩)
  (fun i=>n - i) (fun i=>i<=n/\ ∀ j,j<i->co (s.getD j []) v=0) 0 ?_ ?_ ?_
 .exact bP []
 .exact⟨dU _,fun j hj=>by omega⟩
 rintro i ⟨hi,j6⟩;refine cz rl ?_;refine bK ?_ ?_
 .intro h1 h2;have bC:=cr (ls:=s) (i:=i) (by omega);have r1:=ba s i;have acp:co (s.getD i []) v=0-> ∀ j,j<i+1->co (s.getD j []) v=0:=fun h0 j hj=>by
   by_cases o5:j=i
   .rw[o5];exact h0
   exact j6 j (by omega)
  obtain⟨x,iW⟩:=ax (s.getD i []);rw[iW] at bC r1 acp;have hx:=hg x bC;have lx:=hx.len;have l_:=aB lx;have fx:=aI x;have dZ:=MJ (rs:=x) (i:=v) (by omega);have iX:=kh (x.getD v rz) ((hx.at v).mono (by decide));have nD:co x v=(x.getD v rz).q:=rfl;obtain⟨r,hr⟩:=ax (x.getD v rz);rw[hr] at dZ iX nD;unfold Raw.v at iX;have x24:List.drop 0 (bR x)=bR x:=rfl;refine aF (bU h2 r1 fx lx rl dZ x24 @length_drop.{0}) ?_
  repeat refine ae ?_
  refine aM iX ?_;refine kI ?_;refine Br.bneInt ?_ ?_
  .intro h3 h4;have qS:R=true:=by
    rw[<-hR];exact ei.2 ⟨x,bC,by rw[nD];exact fun h=>h3 (aQ.2 h)⟩
   subst qS;refine aF h4 ?_;exact bc rfl
  intro h3 h4;refine aF h4 ?_;refine aw (i+1) ?_ ⟨by omega,acp (by rw[nD];exact aQ.1 h3)⟩;exact bP []
 intro h1 h2;have qS:R=false:=by
  rw[<-hR];cases ho:occ s v with
  | false=>rfl
  | true=>
   obtain⟨l,hl,h0⟩:=ei.1 ho;obtain⟨j,hj,rfl⟩:=jQ.1 hl;exact absurd (j6 j (by omega)) h0
 subst qS;refine ah h2 ?_;exact bc rfl
theorem aal (cs:List (List Raw)) (bf: ∀ l∈cs,LOk 100000 l) (hn:cs.length<=100000):
 Den Tryz.prog 84 [] [.fv (.sl (ak cs))] [] (if dk cs then .tup [.fv (.sl []),.bool false] else .tup [.fv (.sl (ak (sysL cs []))),.bool true]):=by
 have h9: ∀ l∈cs,l.length=9:=fun l hl=>(bf l hl).len
 obtain⟨n,cB⟩:=ax cs.length
 obtain⟨R,hR⟩: ∃ R:PV,(if dk cs then .tup [.fv (.sl []),.bool false] else .tup [.fv (.sl (ak (sysL cs []))),.bool true])=R:=⟨_,rfl⟩
 rw[hR]
 have rl:=aq cs
 rw[cB] at rl hn
 refine dq Tryz.func84 67 0 ?_
 refine aW ?_
 refine wl (α:=Nat×List (List Raw)) (fun⟨i,out⟩=>⟨[.fv (.sl (ak cs)),.any,.nilsl,.bool false,.lsl 0 0 out.length 27,.int .i64 i]++replicate 62 .any,[.row true (ak out)]⟩)
  (fun⟨i,_⟩=>n - i) (fun⟨i,out⟩=>i<=n/\out.length<=i/\out=sysL (cs.take i) []/\dk (cs.take i)=false) (0,[]) ?_ ?_ ?_
 .refine Weak.nil 4 27 (by decide) rfl ?_
  refine fW [0] ?_ ?_
  .simp[bO,eT,cJ,aU]
  simp[fM,fC,aU,cJ,bA,bh,aZ,bJ]
  rfl
 .exact⟨dU _,qp _,rfl,rfl⟩
 rintro⟨i,out⟩ ⟨hi,sc,cZ,uC⟩
 have jE: ∀ f∈out,LOk 200000 f:=fun f hf=>by
  have hh:=(iJ (cs:=cs.take i) (fun l hl=>h9 l (xY hl))).mem f;rw[cZ] at hf;obtain⟨l,hl,_,rfl⟩:=hh.1 hf;exact(mq (bf l (xY hl)) (by decide)).mono (by decide)
 obtain⟨L,hL⟩:=ax out.length
 have rlo:=aq out
 rw[hL] at rlo sc
 dsimp only
 rw[hL]
 refine cz rl ?_
 refine bK ?_ ?_
 .intro h1 h2
  have ec:=fh (cs:=cs) (i:=i) (by omega)
  have bC:=cr (ls:=cs) (i:=i) (by omega)
  have r1:=ba cs i
  obtain⟨x,iW⟩:=ax (cs.getD i [])
  rw[iW] at bC r1 ec
  have hx:=bf x bC
  have lx:=hx.len
  have l_:=aB lx
  have fx:=aI x
  have gx:=ag x
  have fU:=ar lx
  have hN:=TH x hx
  change Den Tryz.prog 155 [] [RL x] [] (RL (cT x)) at hN
  have Uc:=mq hx (by decide)
  have d7:=f4 lx
  have vD:=tZ lx
  have R4:=zw lx
  have dT:=mB (cs:=cs.take i) (l:=x)
  have k7:=s4 (l:=x) (cs.take i) []
  rw[<-ec] at dT k7
  rw[uC,Bool.false_or] at dT
  rw[<-cZ] at k7
  obtain⟨y,hy⟩:=ax (cT x)
  rw[hy] at hN Uc d7 vD R4 k7
  have hc:=aai y (Uc.mono (by decide))
  rw[vD] at hc
  obtain⟨b,hb⟩:=ax (b8 x)
  rw[hb] at hc dT k7
  have gy:=ag y
  have fB:=ar d7
  have nh:=aB d7
  have fy:=aI y
  have OG:=kr d7
  unfold RL at hN hc
  refine aF (bU h2 r1 l_ fx gx lx fU rl) ?_
  repeat refine ae ?_
  refine hY hN ?_
  refine aF (bB gy d7 fB) ?_
  repeat refine ae ?_
  refine hY hc ?_
  cases b with
  | true=>
   have g_:=kh (y.getD 8 rz) ((Uc.at 8).mono (by decide));have nD:co y 8=(y.getD 8 rz).q:=rfl;obtain⟨r,hr⟩:=ax (y.getD 8 rz);rw[hr] at g_ OG nD;unfold Raw.v at g_;refine aF (bB OG gy d7) ?_
   repeat refine ae ?_
   refine aM g_ ?_;refine kI ?_;refine bK ?_ ?_
   .intro h3 h4;have hv:dk (cs.take (i+1))=true:=by
     rw[dT,Bool.true_and,iK];exact R4.1.1 (by rw[nD];exact eR.1 h3)
    rw[if_pos (CT hv)] at hR;subst hR;refine aF h4 ?_;refine bc rfl
   .intro h3 h4;have hv:dk (cs.take (i+1))=false:=by
     rw[dT,Bool.true_and,mU];exact fun h=>h3 (eR.2 (by rw[<-nD];exact R4.1.2 h))
    rw[if_pos rfl] at k7;refine aF h4 ?_;refine aw (i+1,out) ?_ ⟨by omega,by rw[hL];omega,k7.symm,hv⟩;exact bP [0]
  | false=>
   have hv:dk (cs.take (i+1))=false:=by rw[dT];rfl
   rw[if_neg (by simp)] at k7;refine kI ?_;refine wl (α:=Nat) (fun j=>⟨[.fv (.sl (ak cs)),.any,.nilsl,.bool false,.lsl 0 0 L 27,.int .i64 i,.ptr 1 0 0,.int .i64 j]++replicate 60 .any,[.row true (ak out),.box true (flat y)]⟩)
    (fun j=>L - j) (fun j=>j<=L/\ ∀ q,q<j->bu (out.getD q []) y<0) 0 ?_ ?_ ?_
   .exact bP [0,1]
   .exact⟨dU _,fun q hq=>by omega⟩
   rintro j ⟨hj,aG⟩;refine aW ?_;refine dw (by kernel_rfl) ?_;refine a9 ?_;refine bK ?_ ?_
   .intro h3 h4;have Ud:=cr (ls:=out) (i:=j) (by omega);have r2:=ba out j;have Gq:=Jg (f:=y) (out:=out) (i:=j) (by omega) aG;have jw:=Qi (f:=y) (out:=out) (i:=j) (by omega) aG;have So:bu (out.getD j []) y<0-> ∀ q,q<j+1->bu (out.getD q []) y<0:=fun h0 q hq=>by
     by_cases TY:q=j
     .rw[TY];exact h0
     exact aG q (by omega)
    obtain⟨a,haa⟩:=ax (out.getD j []);rw[haa] at Ud r2 Gq jw So;have ha:=jE a Ud;have la:=ha.len;have a27:=aB la;have fa:=aI a;have Sp:=TG a y (ha.mono (by decide)) (Uc.mono (by decide));obtain⟨c,qX⟩:=ax (bu a y);rw[qX] at Sp Gq jw So;unfold RL at Sp;refine aF (bU h4 r2 a27 fa la fB gy (a8 d7 rlo)) ?_
    repeat refine ae ?_
    refine hY Sp ?_;refine kI ?_;refine bK ?_ ?_
    .intro h5 h6;refine aF h6 ?_;refine aw (j+1) ?_ ⟨by omega,So h5⟩;exact bP [0,1]
    intro h5 h6;refine aF h6 ?_;refine dw (by kernel_rfl) ?_;refine aF (bU h4 r2 a27 fa la fB gy (a8 d7 rlo)) ?_
    repeat refine ae ?_
    refine hY Sp ?_;refine kI ?_;refine Br.beqInt ?_ ?_
    .intro h7 h8;rw[Gq h7] at k7;refine aF h8 ?_;refine aw (i+1,out) ?_ ⟨by omega,by rw[hL];omega,k7.symm,hv⟩;exact bP [0]
    intro h7 h8;rw[jw (by omega)] at k7;have fD:List.take j (ak out)=ak (out.take j):=by simp[ak]
    have pn:List.drop j (ak out)=ak (out.drop j):=by simp[ak]
    have uB:(ak (out.take j)).length=j:=by rw[aq,length_take];omega
    have tF:List.take j (ak (out.take j))=ak (out.take j):=dm (by omega);have cI:=cP (out.take j) y;have WM:(ak (out.take j++[y])).length=j+1:=by rw[aq,qe,length_take,IA];omega
    have Gm:List.take (j+1) (ak (out.take j++[y]))=ak (out.take j++[y]):=dm (by omega);have WN:(ak (out.drop j)).length=L - j:=by rw[aq,length_drop];omega
    have WQ:List.take (L - j) (ak (out.drop j))=ak (out.drop j):=dm (by omega);have ON:ak (out.take j++[y])++ak (out.drop j)=ak (out.take j++[y]++out.drop j):=by simp[ak]
    have kM:(out.take j++[y]++out.drop j).length=L+1:=by rw[qe,qe,length_take,length_drop,IA];omega
    obtain⟨o2,gg⟩:=ax (out.take j++[y]++out.drop j);rw[gg] at k7 ON kM;refine aF (bU h8 @Nat.sub_zero fD uB tF fB gy (bU d7 nh cI WM Gm pn WN (bB WQ ON rlo))) ?_
    repeat refine ae ?_
    refine aw (i+1,o2) ?_ ⟨by omega,by dsimp only;omega,k7.symm,hv⟩;exact bP [5]
   intro h3 h4;have hjL:j=L:=by omega
   have xB:xZ y out=out.take j++[y]++out.drop j:=by
    rw[Qh (fun q hq=>aG q (by omega)),dm (by omega),List.drop_of_length_le (by omega),append_nil]
   rw[xB] at k7;have h6b:=h4;refine aF h4 ?_;refine dw (by kernel_rfl) ?_;have fD:List.take j (ak out)=ak (out.take j):=by simp[ak]
   have pn:List.drop j (ak out)=ak (out.drop j):=by simp[ak]
   have uB:(ak (out.take j)).length=j:=by rw[aq,length_take];omega
   have tF:List.take j (ak (out.take j))=ak (out.take j):=dm (by omega);have cI:=cP (out.take j) y;have WM:(ak (out.take j++[y])).length=j+1:=by rw[aq,qe,length_take,IA];omega
   have Gm:List.take (j+1) (ak (out.take j++[y]))=ak (out.take j++[y]):=dm (by omega);have WN:(ak (out.drop j)).length=L - j:=by rw[aq,length_drop];omega
   have WQ:List.take (L - j) (ak (out.drop j))=ak (out.drop j):=dm (by omega);have ON:ak (out.take j++[y])++ak (out.drop j)=ak (out.take j++[y]++out.drop j):=by simp[ak]
   have kM:(out.take j++[y]++out.drop j).length=L+1:=by rw[qe,qe,length_take,length_drop,IA];omega
   obtain⟨o2,gg⟩:=ax (out.take j++[y]++out.drop j);rw[gg] at k7 ON kM;refine aF (bU h6b @Nat.sub_zero fD uB tF fB gy (bU d7 nh cI WM Gm pn WN (bB WQ ON rlo))) ?_
   repeat refine ae ?_
   refine aw (i+1,o2) ?_ ⟨by omega,by dsimp only;omega,k7.symm,hv⟩;exact bP [5]
 intro h1 h2
 have j6:i=n:=by omega
 have fD:cs.take i=cs:=dm (by omega)
 rw[fD] at cZ uC
 rw[uC,if_neg (by simp),<-cZ] at hR
 have tF:=bX (ls:=out) (n:=L) (by omega)
 subst hR
 refine ah h2 ?_
 refine Ph (vs:=[.lsl 0 0 L 27,.bool true]) rfl ⟨b',b',b'⟩ ?_
 exact j8 (a8 tF rlo)
theorem Va {l:List Raw} (h:IsCn l):(l.map Raw.q).map cn=l:=by
 obtain⟨qs,rfl,_⟩:=h;rw[nW]
def t7 (lo hi:List (List Raw)):List (List Raw):=lo.flatMap fun l=>hi.map fun u=>d9 u l
theorem Fe {hi lo:List (List Raw)} {l:List Raw}:t7 (lo++[l]) hi=t7 lo hi++hi.map (fun u=>d9 u l):=by simp[t7]
theorem Ju (lo hi:List (List Raw)):(t7 lo hi).length=lo.length*hi.length:=by unfold t7;rw[fO (fun l u=>d9 u l)]
theorem aeT (s:List (List Raw)) (v:Nat) (hv:v<8) (sx: ∀ l∈s,IsCn l) (j_: ∀ l∈s,LOk 1000 l) (hn:s.length<=100):
 Den Tryz.prog 158 [] [.fv (.sl (ak s)),.int .i64 v] [] (.fv (.sl (ak (uK s v)))):=by
 have h9: ∀ l∈s,l.length=9:=fun l hl=>(j_ l hl).len
 have D': ∀ b∈dE s v,LOk 2001 b:=E5 j_ (by decide)
 have Eg: ∀ b∈bV s v,LOk 2001 b:=AE j_ (by decide)
 have j0:=cU s v
 obtain⟨n,cB⟩:=ax s.length
 have rl:=aq s
 rw[cB] at rl hn j0
 obtain⟨R,hR⟩:=ax (uK s v)
 rw[hR]
 refine dq Tryz.func158 69 0 ?_
 refine aW ?_
 refine wl (α:=Nat×List (List Raw)×List (List Raw)×List (List Raw)) (fun⟨i,lo,hi,out⟩=>⟨[.fv (.sl (ak s)),.int .i64 v,.any,.any,.nilsl,.lsl 2 0 out.length 27,.lsl 0 0 lo.length 27,.lsl 1 0 hi.length 27,.int .i64 i]++replicate 62 .any,[.row true (ak lo),.row true (ak hi),.row true (ak out)]⟩)
  (fun⟨i,_⟩=>n - i) (fun⟨i,lo,hi,out⟩=>i<=n/\lo=dE (s.take i) v/\hi=bV (s.take i) v/\out=fH (s.take i) v) (0,[],[],[]) ?_ ?_ ?_
 .refine Weak.nil 6 27 (by decide) rfl ?_
  refine Weak.nil 7 27 (by decide) rfl ?_
  refine Weak.nil 5 27 (by decide) rfl ?_
  refine fW [0,1,2] ?_ ?_
  .simp[bO,eT,cJ,aU]
  simp[fM,fC,aU,cJ,bA,bh,aZ,bJ]
  simp[ak]
 .exact⟨dU _,rfl,rfl,rfl⟩
 rintro⟨i,lo,hi,out⟩ ⟨pJ,gj,gK,cZ⟩
 have dh:=cU (s.take i) v
 rw[<-gj,<-gK,<-cZ,length_take,cB] at dh
 obtain⟨L1,hL1⟩:=ax lo.length
 obtain⟨L2,T'⟩:=ax hi.length
 obtain⟨L3,XZ⟩:=ax out.length
 have Ua:=aq lo
 have Eh:=aq hi
 have rl3:=aq out
 dsimp only
 rw[hL1] at dh Ua ⊢
 rw[T'] at dh Eh ⊢
 rw[XZ] at dh rl3 ⊢
 have tk1:=bX (ls:=lo) (n:=L1) (by omega)
 have tk2:=bX (ls:=hi) (n:=L2) (by omega)
 have Ub:=bX (ls:=out) (n:=L3) (by omega)
 refine cz rl ?_
 refine bK ?_ ?_
 .intro h1 h2
  have ec:=fh (cs:=s) (i:=i) (by omega)
  have bC:=cr (ls:=s) (i:=i) (by omega)
  have r1:=ba s i
  obtain⟨x,iW⟩:=ax (s.getD i [])
  rw[iW] at bC r1 ec
  have hx:=j_ x bC
  have lx:=hx.len
  have l_:=aB lx
  have fx:=aI x
  have gx:=ag x
  have fU:=ar lx
  by_cases h0:co x v=0
  .have uD:=UW x v hx hv h0
   have uT:=lJ (s:=s.take i) (v:=v) (x:=x) (by grind)
   have BE:=jB (s:=s.take i) (v:=v) (x:=x) (by grind)
   have e8:=wA (s:=s.take i) h0
   have cI:=cP out x
   unfold FL at uD
   rw[Va (sx x bC)] at uD
   unfold RL at uD
   have e1:((0:Int)==1)=false:=rfl
   have e2:((0:Int)== -1)=false:=rfl
   refine aF (bU h2 r1 l_ fx gx lx fU rl) ?_
   repeat refine ae ?_
   refine hY uD ?_
   simp -dsimp(disch:=omega) only[e1,e2,gx,lx,fU,l_,Ub,cI,rl3,IntKind.bits,Int.reduceToNat,Int.reducePow,Option.isNone_none,↓reduceIte,reduceCtorEq,reduceAdd,reduceMul,reduceSub,Nat.reduceBEq,reduceEqDiff,reduceLT,reduceLeDiff,ru,zu]
   repeat refine ae ?_
   refine aw (i+1,lo,hi,out++[x]) ?_ ⟨by omega,by rw[ec,uT,gj],by rw[ec,BE,gK],by rw[ec,e8,cZ]⟩
   exact bP [0,1,5]
  have uD:=ZM x v hx hv h0
  have sd:(en v x).length=9:=er lx
  have e8:=zD (s:=s.take i) h0
  unfold FL RL at uD
  change Den Tryz.prog 210 [] [.agg (flat x),.int .i64 v] [] (.tup [.agg (flat (en v x)),.int .i64 (eg (x.getD v rz).q)]) at uD
  by_cases hp:0<co x v
  .have uT:=wz (s:=s.take i) hp
   have BE:=jB (s:=s.take i) (v:=v) (x:=x) (by grind)
   have cI:=cP lo (en v x)
   obtain⟨y,hy⟩:=ax (en v x)
   rw[hy] at uD sd uT cI
   have gy:=ag y
   have nh:=aB sd
   have fB:=ar sd
   rw[show eg (x.getD v rz).q=1 from v8 hp] at uD
   have e1:((1:Int)==1)=true:=rfl
   refine aF (bU h2 r1 l_ fx gx lx fU rl) ?_
   repeat refine ae ?_
   refine hY uD ?_
   simp -dsimp(disch:=omega) only[gy,sd,e1,fB,nh,tk1,cI,Ua,IntKind.bits,Int.reduceToNat,Int.reducePow,Option.isNone_none,↓reduceIte,reduceCtorEq,reduceAdd,reduceMul,reduceSub,Nat.reduceBEq,reduceEqDiff,reduceLT,reduceLeDiff,ru,zu]
   repeat refine ae ?_
   refine aw (i+1,lo++[y],hi,out) ?_ ⟨by omega,by rw[ec,uT,gj],by rw[ec,BE,gK],by rw[ec,e8,cZ]⟩
   exact bP [5,1,2]
  have jV:co x v<0:=by grind
  have uT:=lJ (s:=s.take i) (v:=v) (x:=x) hp
  have BE:=s7 (s:=s.take i) jV
  have cI:=cP hi (en v x)
  obtain⟨y,hy⟩:=ax (en v x)
  rw[hy] at uD sd BE cI
  have gy:=ag y
  have nh:=aB sd
  have fB:=ar sd
  rw[show eg (x.getD v rz).q= -1 from v9 jV] at uD
  have e1:((-1:Int)==1)=false:=rfl
  have e2:((-1:Int)== -1)=true:=rfl
  refine aF (bU h2 r1 l_ fx gx lx fU rl) ?_
  repeat refine ae ?_
  refine hY uD ?_
  simp -dsimp(disch:=omega) only[gy,sd,e1,e2,fB,nh,tk2,cI,Eh,IntKind.bits,Int.reduceToNat,Int.reducePow,Option.isNone_none,↓reduceIte,reduceCtorEq,reduceAdd,reduceMul,reduceSub,Nat.reduceBEq,reduceEqDiff,reduceLT,reduceLeDiff,ru,zu]
  repeat refine ae ?_
  refine aw (i+1,lo,hi++[y],out) ?_ ⟨by omega,by rw[ec,uT,gj],by rw[ec,BE,gK],by rw[ec,e8,cZ]⟩
  exact bP [0,5,2]
 intro h1 h2
 have j6:i=n:=by omega
 have fD:s.take i=s:=dm (by omega)
 rw[fD] at gj gK cZ
 have gv:R=out++t7 lo hi:=by rw[<-hR,gj,gK,cZ];rfl
 have D_: ∀ b∈lo,LOk 2001 b:=by rw[gj];exact D'
 have xE: ∀ b∈hi,LOk 2001 b:=by rw[gK];exact Eg
 have Gn:L1*L2<=10000:=Nat.mul_le_mul (show L1<=100 by omega) (show L2<=100 by omega)
 clear gj gK cZ
 refine ah h2 ?_
 refine wl (α:=Nat×List (List Raw)) (fun⟨j,fo⟩=>⟨[.fv (.sl (ak s)),.int .i64 v,.any,.any,.nilsl,.lsl 2 0 fo.length 27,.lsl 0 0 L1 27,.lsl 1 0 L2 27,.any,.any,.any,.int .i64 j]++replicate 59 .any,[.row true (ak lo),.row true (ak hi),.row true (ak fo)]⟩)
  (fun⟨j,_⟩=>L1 - j) (fun⟨j,fo⟩=>j<=L1/\fo=out++t7 (lo.take j) hi) (0,out) ?_ ?_ ?_
 .exact bP [0,1,2]
 .exact⟨dU _,by simp[t7]⟩
 rintro⟨j,fo⟩ ⟨hj,gg⟩
 obtain⟨M,hM⟩:=ax fo.length
 dsimp only
 rw[hM]
 refine aW ?_
 refine bK ?_ ?_
 .intro h3 h4
  have ec:=fh (cs:=lo) (i:=j) (by omega)
  have bC:=cr (ls:=lo) (i:=j) (by omega)
  have r1:=ba lo j
  obtain⟨l,pa⟩:=ax (lo.getD j [])
  rw[pa] at bC r1 ec
  have hl:=D_ l bC
  have ll:=hl.len
  have l27:=aB ll
  have fl:=aI l
  have gl:=ag l
  have Ky:=ar ll
  refine ah h4 ?_
  refine wl (α:=Nat×List (List Raw)) (fun⟨q,ib⟩=>⟨[.fv (.sl (ak s)),.int .i64 v,.any,.any,.nilsl,.lsl 2 0 ib.length 27,.lsl 0 0 L1 27,.lsl 1 0 L2 27,.any,.any,.any,.int .i64 j,.int .i64 q]++replicate 58 .any,[.row true (ak lo),.row true (ak hi),.row true (ak ib)]⟩)
   (fun⟨q,_⟩=>L2 - q) (fun⟨q,ib⟩=>q<=L2/\ib=fo++(hi.take q).map (fun u=>d9 u l)) (0,fo) ?_ ?_ ?_
  .exact bP [0,1,2]
  .exact⟨dU _,by simp⟩
  rintro⟨q,ib⟩ ⟨hq,Kx⟩
  have hM3:ib.length<=10200:=by
   have e1:ib.length=fo.length+q:=by rw[Kx];simp;omega
   have e2:fo.length=L3+(lo.take j).length*hi.length:=by
    rw[gg,qe,XZ,Ju]
   have e4:(lo.take j).length=j:=by rw[length_take];omega
   rw[e4,T'] at e2;have e5:(j+1)*L2<=L1*L2:=qn _ (by omega);rw[Nat.add_mul] at e5;omega
  obtain⟨M3,OL⟩:=ax ib.length
  have X0:=aq ib
  rw[OL] at hM3 X0
  dsimp only
  rw[OL]
  refine aW ?_
  refine bK ?_ ?_
  .intro h5 h6
   have Ej:=fh (cs:=hi) (i:=q) (by omega)
   have Ek:=cr (ls:=hi) (i:=q) (by omega)
   have r3:=ba hi q
   obtain⟨u,huu⟩:=ax (hi.getD q [])
   rw[huu] at Ek r3 Ej
   have hu:=xE u Ek
   have lu:=hu.len
   have u27:=aB lu
   have fu:=aI u
   have gu:=ag u
   have Sm:=ar lu
   have kN:=Qr l (hl.mono (by decide))
   have Ov:=G_ u (dL l) (hu.mono (by decide)) ((rD hl (by decide)).mono (by decide))
   change Den Tryz.prog 106 [] [RL u,RL (dL l)] [] (RL (d9 u l)) at Ov
   have d7:=dG ll
   have eO:=rB lu ll
   have cI:=cP ib (d9 u l)
   have X4:(hi.take (q+1)).map (fun u=>d9 u l)=(hi.take q).map (fun u=>d9 u l)++[d9 u l]:=by rw[Ej,BM];rfl
   obtain⟨nl,WJ⟩:=ax (dL l)
   obtain⟨d,hd⟩:=ax (d9 u l)
   rw[WJ] at kN Ov d7
   rw[hd] at Ov eO cI X4
   have gnl:=ag nl
   have gd:=ag d
   have Kz:=ar eO
   have d27:=aB eO
   have Ub:=bX (ls:=ib) (n:=M3) (by omega)
   unfold RL at kN Ov
   refine aF h6 ?_
   refine dw (by kernel_rfl) ?_
   refine aF (bU r1 l27 fl gl ll Ky r3 (f0 u27 fu gu lu Sm Ua Eh)) ?_
   repeat refine ae ?_
   refine hY kN ?_
   refine aF (a8 gnl d7) ?_
   repeat refine ae ?_
   refine hY Ov ?_
   refine aF (f0 gd eO Kz d27 Ub cI X0) ?_
   repeat refine ae ?_
   refine aw (q+1,ib++[d]) ?_ ⟨by omega,by rw[X4,Kx,append_assoc]⟩
   exact bP [0,1,4]
  intro h5 h6
  have hqe:q=L2:=by omega
  have Gm:hi.take q=hi:=dm (by omega)
  rw[Gm] at Kx
  refine ah h6 ?_
  refine aw (j+1,ib) ?_ ⟨by omega,by rw[ec,Fe,Kx,gg,append_assoc]⟩
  exact bP [0,1,2]
 intro h3 h4
 have tF:lo.take j=lo:=dm (by omega)
 rw[tF,<-gv] at gg
 subst gg
 have rl5:=aq fo
 have tk5:=bX (ls:=fo) (n:=M) (by omega)
 rw[hM] at rl5
 refine ah h4 ?_
 refine Ph (vs:=[.lsl 2 0 M 27]) rfl ⟨b',b'⟩ ?_
 exact j8 (a8 tk5 rl5)
theorem aam (PJ:List (List Raw)) (pd:Qp PJ):Den Tryz.prog 85 [] [.fv (.sl (ak PJ))] [] (.bool (dX (sysL PJ []))):=by
 obtain⟨R,hR⟩:=ax (dX (sysL PJ []));rw[hR];refine dq Tryz.func85 44 0 ?_;refine aW ?_;refine wl (α:=Nat×List (List Raw)) (fun⟨v,cs⟩=>⟨[.fv (.sl (ak cs)),.any,.bool false,.int .i64 v]++replicate 41 .any,[]⟩)
  (fun⟨v,_⟩=>8 - v) (fun⟨v,cs⟩=>v<=8/\Qp cs/\dX (sysL cs [])=R/\ ∀ w,w<v->occ cs w=false) (0,PJ) ?_ ?_ ?_
 .exact bP []
 .exact⟨dU _,pd,hR,fun w hw=>by omega⟩
 rintro⟨v,cs⟩ ⟨hv8,hp,hf,OM⟩;have h9: ∀ l∈cs,l.length=9:=fun l hl=>(hp.ok l hl).len
 have aix:=hp.len;refine aW ?_;refine bK ?_ ?_
 .intro h1 h2;have hv:v<8:=by omega
  have WR:=aak cs v hv (fun l hl=>(hp.ok l hl).mono (by decide)) (by omega);obtain⟨o,ho⟩:=ax (occ cs v);rw[ho] at WR;cases o with
  | false=>
   refine ah h2 ?_;refine aM WR ?_;refine ah @Bool.not_false ?_;refine aw (v+1,cs) ?_ ⟨by omega,hp,hf,fun w hw=>by
    by_cases hwv:w=v
    .rw[hwv];exact ho
    exact OM w (by omega)⟩
   exact bP []
  | true=>
   have h99:=aeT cs v hv hp.cnf hp.ok (by omega);have Ef:=iJ h9;have hg:=hp.good;obtain⟨s,hs⟩:=ax (sysL cs []);rw[hs] at Ef hg hf;have hos:=Qk hv h9 hp.nc Ef;have ye:=Qj hv h9 hp.nc Ef;have sc: ∀ x∈uK cs v,LOk 4004 x:=fun x hx=>AF hp.ok (by decide) x (nY.1 hx)
   have aA:(uK cs v).length<=2000:=by
    have e1:=cU cs v;have e2:(uK cs v).length=(fH cs v).length+(dE cs v).length*(bV cs v).length:=by
     unfold uK;rw[qe,fO (fun l u=>d9 u l)]
    have e3:(dE cs v).length*(bV cs v).length<=37*37:=Nat.mul_le_mul (by omega) (by omega);omega
   have Ue: ∀ x∈uK cs v,aO x->co x 8<=0->dX s=false:=by
    intro x hx hc h0;have hb:I3 s v:=by
     rw[ye];rcases fN.1 (nY.1 hx) with⟨h3,_⟩ | ⟨l,hl,u,hu,h3,h4,rfl⟩
     .exact absurd hc (hp.nc x h3)
     exact⟨_,fc.2 ⟨u,hu,h4,rfl⟩,_,gh.2 ⟨l,hl,h3,rfl⟩,hc,h0⟩
    exact hg.bad hv ((jP hg.len9).2 hb)
   obtain⟨cc,qX⟩:=ax (uK cs v);rw[qX] at h99 hos sc aA Ue;have h9c: ∀ x∈cc,x.length=9:=fun x hx=>(sc x hx).len
   obtain⟨n,cB⟩:=ax cc.length;have rl:=aq cc;rw[cB] at rl aA;refine ah h2 ?_;refine aM WR ?_;refine ah @Bool.not_true ?_;refine aM h99 ?_;refine a9 ?_;refine wl (α:=Nat×List (List Raw)) (fun⟨i,kept⟩=>⟨[.fv (.sl (ak cc)),.any,.bool false,.int .i64 v,.lsl 0 0 kept.length 27,.int .i64 i]++replicate 39 .any,[.row true (ak kept)]⟩)
    (fun⟨i,_⟩=>n - i) (fun⟨i,kept⟩=>i<=n/\kept=wq (cc.take i)/\ ∀ j,j<i->aO (cc.getD j [])->0<co (cc.getD j []) 8) (0,[]) ?_ ?_ ?_
   .refine Weak.nil 4 27 (by decide) rfl ?_;refine fW [0] ?_ ?_
    .simp[bO,eT,cJ,aU]
    simp[fM,fC,aU,cJ,bA,bh,aZ,bJ];rfl
   .exact⟨dU _,rfl,fun j hj=>by omega⟩
   rintro⟨i,kept⟩ ⟨hi,hk,Oz⟩;have k6:kept.length<=2000:=by
    have e1:=CU (cs:=cc) (i:=i);have e2:(ncs cc).length<=cc.length:=List.length_filter_le _ _;rw[hk];omega
   obtain⟨K,hK⟩:=ax kept.length;have rlk:=aq kept;rw[hK] at rlk k6;dsimp only;rw[hK];refine cz rl ?_;refine bK ?_ ?_
   .intro h3 h4;have ec:=fh (cs:=cc) (i:=i) (by omega);have bC:=cr (ls:=cc) (i:=i) (by omega);have r1:=ba cc i;have OO:(aO (cc.getD i [])->0<co (cc.getD i []) 8)-> ∀ j,j<i+1->aO (cc.getD j [])->0<co (cc.getD j []) 8:=fun h0 j hj=>by
     by_cases o5:j=i
     .rw[o5];exact h0
     exact Oz j (by omega)
    obtain⟨x,iW⟩:=ax (cc.getD i []);rw[iW] at bC r1 ec OO;have hx:=sc x bC;have lx:=hx.len;have l_:=aB lx;have fx:=aI x;have gx:=ag x;have fU:=ar lx;have hN:=TH x (hx.mono (by decide));change Den Tryz.prog 155 [] [RL x] [] (RL (cT x)) at hN;have Uc:=mq hx (by decide);have d7:=f4 lx;have vD:=tZ lx;have R4:=zw lx;have WS:=fun h=>zr (cs:=cc.take i) (l:=x) h
    have acq:=fun h=>tY (cs:=cc.take i) (l:=x) h
    obtain⟨y,hy⟩:=ax (cT x);rw[hy] at hN Uc d7 vD R4 WS;have hc:=aai y (Uc.mono (by decide));rw[vD] at hc;obtain⟨b,hb⟩:=ax (b8 x);rw[hb] at hc WS acq;have gy:=ag y;have fB:=ar d7;have nh:=aB d7;have OG:=kr d7;have tkk:=bX (ls:=kept) (n:=K) (by omega);have cI:=cP kept y;unfold RL at hN hc;refine aF (bU h4 r1 l_ fx gx lx fU rl) ?_
    repeat refine ae ?_
    refine hY hN ?_;refine aF (bB gy d7 fB) ?_
    repeat refine ae ?_
    refine hY hc ?_;cases b with
    | false=>
     have l9: ¬aO x:=fun h=>by rw[(cA lx).2 h] at hb;cases hb
     refine aF (bU @Bool.not_false gy d7 fB nh tkk cI rlk) ?_
     repeat refine ae ?_
     refine aw (i+1,kept++[y]) ?_ ⟨by omega,by rw[ec,WS rfl,hk],OO (fun h=>absurd h l9)⟩;exact bP [3]
    | true=>
     have Sh:aO x:=(cA lx).1 hb;have g_:=kh (y.getD 8 rz) ((Uc.at 8).mono (by decide));have nD:co y 8=(y.getD 8 rz).q:=rfl;obtain⟨r,hr⟩:=ax (y.getD 8 rz);rw[hr] at g_ OG nD;unfold Raw.v at g_;have cX:eg r.q<=0↔co x 8<=0:=by
      rw[<-R4.2,nD];have:=@fG r.q;grind
     refine aF (fe @Bool.not_true OG gy d7) ?_
     repeat refine ae ?_
     refine aM g_ ?_;refine kI ?_;refine bK ?_ ?_
     .intro h5 h6;have qS:R=false:=by rw[<-hf];exact Ue x bC Sh (cX.1 h5)
      subst qS;refine aF h6 ?_;exact bc rfl
     intro h5 h6;refine aF h6 ?_;refine aw (i+1,kept) ?_ ⟨by omega,by rw[ec,acq rfl];exact hk,OO (fun _=>by
      have:=fun h=>h5 (cX.2 h)
      grind)⟩
     exact bP [0]
   intro h3 h4;have fD:cc.take i=cc:=dm (by omega);rw[fD] at hk;have hko: ∀ f∈kept,LOk 100000 f/\ ¬aO f:=fun f Io=>by
    rw[hk] at Io;obtain⟨l,hl,rfl⟩:=mem_map.1 Io;obtain⟨h5,h6⟩:=(jr h9c).1 hl;exact⟨(mq (sc l h5) (by decide)).mono (by decide),jN (h9c l h5) h6⟩
   have Uf:=aal kept (fun f Io=>(hko f Io).1) (by omega);have hvk:dk kept=false:=by
    cases Im:dk kept with
    | false=>rfl
    | true=>
     obtain⟨l,hl,h5,_⟩:=(lF (fun f Io=>(hko f Io).1.len)).1 Im;exact absurd h5 (hko l hl).2
   have gM:sysL kept []=iq s v:=by
    have e1:IsSys kept (iq s v):=by rw[hk];exact(Ql h9c).2 hos
    exact(e1.eq (fun f Io=>(hko f Io).1.len)).symm
   rw[hvk,if_neg (by simp),gM] at Uf;have OJ:rF s v=false:=by
    cases hb:rF s v with
    | false=>rfl
    | true=>
     exfalso;have dN:=ye.1 ((jP hg.len9).1 hb);obtain⟨u,hu,l,hl,h5,h6⟩:=dN;have hm:d9 u l∈cc:=by
      rw[<-qX];unfold uK;rw[qr,List.mem_flatMap];exact .inr ⟨l,hl,mem_map.2 ⟨u,hu,rfl⟩⟩
     obtain⟨j,hj,he⟩:=jQ.1 hm;have:=Oz j (by omega) (by rw[he];exact h5);rw[he] at this;grind
   have tkk:=bX (ls:=kept) (n:=K) (by omega);have T1:=hg.step hv;refine aF h4 ?_;refine gp Uf (by simp[bH,eS,dS,dI,rlk,tkk]) ?_;refine kI ?_;refine aw (v+1,iq s v) ?_ ⟨by omega,T1.pre,by rw[T1.self,hg.feas hv OJ];exact hf,fun w hw=>?_⟩
   .exact bP []
   cases how:occ (iq s v) w with
   | false=>rfl
   | true=>
    obtain⟨h5,h6⟩:=Jr hg hv (by omega) how;have h7:=(vg h9 Ef (by omega)).1 h6;rw[OM w (by omega)] at h7;cases h7
 intro h1 h2;have hv:v=8:=by omega
 have agH:cs=[]:=by
  cases hc:cs with
  | nil=>rfl
  | cons l t=>
   exfalso;have hl:l∈cs:=by rw[hc];simp
   obtain⟨w,hw,h0⟩:=sU (hp.nc l hl);have:=OM w (by omega);rw[ei.2 ⟨l,hl,h0⟩] at this;cases this
 have qS:R=true:=by
  rw[<-hf,agH];exact zt
 subst qS;refine ah h2 ?_;exact bc rfl
theorem aan (PJ:List (List Raw)) (pd:Pre PJ):Den Tryz.prog 85 [] [.fv (.sl (ak PJ))] [] (.bool (dX (sysL PJ []))):=aam PJ pd.r
theorem aao (cs:List (List Raw)) (h:CsOk cs):Den Tryz.prog 84 [] [.fv (.sl (ak cs))] [] (if dk cs then .tup [.fv (.sl []),.bool false] else .tup [.fv (.sl (ak (sysL cs []))),.bool true]):=
 aal cs (fun l hl=>(h.ok l hl).mono (by decide)) (by have:=h.len;omega)
theorem aap (s:List (List Raw)) (h:GoodS s):Den Tryz.prog 85 [] [.fv (.sl (ak s))] [] (.bool (dX s)):=by
 have:=aan s h.pre;rw[h.self] at this;exact this
theorem Hw {w:Nat}:co (replicate 9 rz) w=0:=by
 have rq:rz.q=0:=by
  unfold Raw.q rz f2;simp[val]
 unfold co;rw[qa,List.getElem?_replicate];split
 .exact rq
 exact rq
theorem nZ {l:List Raw} {v w:Nat} {r:Raw} (h:w≠v):co (l.set v r) w=co l w:=by
 unfold co;rw[qa,qm (fun e=>h e.symm),<-qa]
def rQ:List Raw:=(replicate 9 rz).set 8 (cn ((-1:Int):Rat))
theorem MK:cT rQ=dR ((-1:Int):Rat):=by
 have h9:rQ.length=9:=by simp[rQ]
 have hl:(bF rQ).q=((-1:Int):Rat):=by
  decide+kernel
 have h0:(bF rQ).q≠0:=by rw[hl];decide
 have ha:dV ((-1:Int):Rat)=1:=by decide+kernel
 have hn:IsCn (dR ((-1:Int):Rat)):=⟨(replicate 9 (0:Rat)).set 8 ((-1:Int):Rat),by simp[dR,List.map_set],by simp⟩;refine Mx (oU h9) hn (fun i hi=>?_);rw[rA h9 h0 hi,hl,ha,s6 hi];by_cases h8:i=8
 .subst h8;rw[if_pos rfl];unfold rQ co;rw[qa,qv (by simp),Option.getD_some,cK];grind
 rw[if_neg h8];unfold rQ;rw[nZ h8,Hw];grind
theorem Qs:LOk 1 rQ:=by
 refine⟨by simp[rQ],fun r hr=>?_⟩;unfold rQ at hr;rcases List.mem_or_eq_of_mem_set hr with h1 | h1
 .rw[List.eq_of_mem_replicate h1];exact⟨Dig.nil,Dig.nil,dU _,dU _⟩
 rw[h1];exact bn (bd_int (by decide))
theorem aeU:Den Tryz.prog 230 [] [] [] (.fv (.sl (ak [dR ((-1:Int):Rat)]))):=by
 have T6:=Cf (-1) (by decide);change Den Tryz.prog 58 [] [.int .i64 (-1)] [] (cn ((-1:Int):Rat)).v at T6;have hN:=LO rQ (Qs.mono (by decide));change Den Tryz.prog 197 [] [RL rQ] [] (RL (cT rQ)) at hN;rw[MK] at hN;have d7:=dH ((-1:Int):Rat);have hF:flat rQ=[.bool false,.fv (.sl []),.fv (.sl []),.bool false,.fv (.sl []),.fv (.sl []),.bool false,.fv (.sl []),.fv (.sl []),.bool false,.fv (.sl []),.fv (.sl []),.bool false,.fv (.sl []),.fv (.sl []),.bool false,.fv (.sl []),.fv (.sl []),.bool false,.fv (.sl []),.fv (.sl []),.bool false,.fv (.sl []),.fv (.sl []),.bool (cn ((-1:Int):Rat)).neg,.fv (.sl (u32s (cn ((-1:Int):Rat)).num)),.fv (.sl (u32s (cn ((-1:Int):Rat)).den))]:=rfl;unfold RL at hN;rw[hF] at hN;have r1:ak [dR ((-1:Int):Rat)]=[bR (dR ((-1:Int):Rat))]:=rfl;rw[r1];obtain⟨c,hc⟩:=ax (cn ((-1:Int):Rat));rw[hc] at T6 hN
 obtain⟨y,hy⟩:=ax (dR ((-1:Int):Rat));rw[hy] at hN d7 ⊢;have gy:=ag y;have fB:=ar d7;have nh:=aB d7;unfold Raw.v at T6;refine dq Tryz.func230 5 0 ?_;refine aW ?_;refine aM T6 ?_;refine a9 ?_;refine aM hN ?_;refine aF (fe gy d7 fB nh) ?_;exact bc rfl
theorem Vb:Den Tryz.prog 126 [] [] [] (.fv (.sl (ak [dR ((-1:Int):Rat)]))):=by
 have nB:=iP (-1) (by decide);change Den Tryz.prog 30 [] [.int .i64 (-1)] [] (cn ((-1:Int):Rat)).v at nB;have yd:=Qq (cn ((-1:Int):Rat)) (Raw.Ok.mono (bn (bd_int (by decide))) (by decide));rw[cK] at yd;have d7:=dH ((-1:Int):Rat);have r1:ak [dR ((-1:Int):Rat)]=[bR (dR ((-1:Int):Rat))]:=rfl;rw[r1];obtain⟨c,hc⟩:=ax (cn ((-1:Int):Rat));rw[hc] at nB yd;obtain⟨y,hy⟩:=ax (dR ((-1:Int):Rat));rw[hy] at yd d7 ⊢;have gy:=ag y;have fB:=ar d7;have nh:=aB d7;unfold Raw.v at nB yd;unfold RL at yd;refine dq Tryz.func126 4 0 ?_;refine aW ?_;refine aM nB ?_;refine a9 ?_;refine aM yd ?_;refine aF (fe gy d7 fB nh) ?_;exact bc rfl
theorem Hx {s:List (List Raw)} {i:Nat} (hg:GoodT s) (hi:i<s.length):CsOk (p_ s i++[dL (s.getD i [])])/\cN (p_ s i++[dL (s.getD i [])])=Jl s i/\Pre (p_ s i++[dL (s.getD i [])]):=by
 have hl:=vm hi;obtain⟨h1,h2⟩:=hg.turn (t:=p_ s i) (fun l hl=>Hp hl) (cr hi) (by omega);have h9: ∀ l∈p_ s i++[dL (s.getD i [])],l.length=9:=fun l hl=>(h2.ok l hl).len
 refine⟨⟨fun l hl=>(h2.ok l hl).mono (by decide),by have:=h2.len;omega,?_,h1,fun l hl _=>h2.ok l hl⟩,Mz h9 h2.nc,h2⟩;have h3:=AL (p_ s i++[dL (s.getD i [])]);have h4:=hg.good.len;rw[qe,IA] at h3;omega
theorem aeV (cs:List (List Raw)) (h:KT cs):Den Tryz.prog 125 [] [.fv (.sl (ak cs))] [] (.fv (.sl (ak (c7 cs)))):=by
 obtain⟨R,hR⟩:=ax (c7 cs);rw[hR];unfold c7 cN at hR;have nA:=aao cs h.cs;have su:=h.good;have nJ:=aap _ su.good;have Px:=Vb;cases Im:dk cs with
 | true=>
  rw[Im,if_pos rfl] at nA;rw[Im] at hR;have qS:R=[dR ((-1:Int):Rat)]:=hR.symm;subst qS;refine dq Tryz.func125 47 0 ?_;refine aW ?_;refine aM nA ?_;refine ah @Bool.not_false ?_;refine aM Px ?_;refine a9 ?_;exact bc rfl
 | false=>
  rw[Im,if_neg (by simp)] at nA;rw[Im] at hR;cases Gg:dX (sysL cs []) with
  | false=>
   rw[Gg] at hR nJ;have qS:R=[dR ((-1:Int):Rat)]:=hR.symm;subst qS;refine dq Tryz.func125 47 0 ?_;refine aW ?_;refine aM nA ?_;refine ah @Bool.not_true ?_;refine aM nJ ?_;refine ah @Bool.not_false ?_;refine aM Px ?_;refine a9 ?_;exact bc rfl
  | true=>
   rw[Gg,Bool.not_false,Bool.and_true,if_pos rfl] at hR;rw[Gg] at nJ;obtain⟨s0,EI⟩:=ax (sysL cs []);rw[EI] at nA su nJ hR;refine dq Tryz.func125 47 0 ?_;refine aW ?_;refine aM nA ?_;refine ah @Bool.not_true ?_;refine aM nJ ?_;refine ah @Bool.not_true ?_;refine wl (α:=Nat×List (List Raw)) (fun⟨i,s⟩=>⟨[.fv (.sl (ak cs)),.any,.nilsl,.fv (.sl (ak s)),.bool true,.int .i64 i]++replicate 42 .any,[]⟩)
    (fun⟨i,s⟩=>s.length - i) (fun⟨i,s⟩=>i<=s.length/\GoodT s/\wt (s.length - i) i s=R) (0,s0) ?_ ?_ ?_
   .exact bP []
   .exact⟨dU _,su,hR⟩
   rintro⟨i,s⟩ ⟨hi,hg,eF⟩;have Kw:=hg.good.len;have j_:=hg.good.lim;obtain⟨n,cB⟩:=ax s.length;have rl:=aq s;have kO:=vn (ls:=s) (fun l hl=>(j_ l hl).len);rw[cB] at rl Kw hi eF;refine cz rl ?_;refine bK ?_ ?_
   .intro h1 h2;have j6:i<s.length:=by omega
    have bC:=cr (ls:=s) (i:=i) j6;have r1:=ba s i;obtain⟨f_,acr,RU⟩:=Hx hg j6;have Sq:=aan _ RU;have agI:dX (sysL (p_ s i++[dL (s.getD i [])]) [])=Jl s i:=rfl;rw[agI] at Sq;have WN:=vm j6;have BT:=hg.sub (vk (s:=s) (i:=i));have h8:n - i=(n - (i+1))+1:=by omega
    rw[h8] at eF;unfold wt at eF;rw[if_pos j6] at eF;obtain⟨b,hb⟩:=ax (Jl s i);rw[hb] at Sq eF;obtain⟨x,iW⟩:=ax (s.getD i []);rw[iW] at bC r1 Sq;have hx:=j_ x bC;have lx:=hx.len;have l_:=aB lx;have fx:=aI x;have gx:=ag x;have fU:=ar lx;have kN:=Qr x (hx.mono (by decide));have d7:=dG lx;have rd:=aq (p_ s i);have cI:=cP (p_ s i) (dL x);have BF:(p_ s i).length=n - 1:=by omega
    rw[BF] at rd;have tkd:=bX (ls:=p_ s i) (n:=n - 1) (by omega);have e1:((i:Int)+1).toNat=i+1:=by omega
    have t1:=zE s i;have t1l:(ak (s.take i)).length=i:=by rw[aq,length_take];omega
    have t1t:List.take i (ak (s.take i))=ak (s.take i):=dm (by omega);have t1r:=vn (ls:=s.take i) (fun l hl=>(j_ l (xY hl)).len);have d1:=zF s (i+1);have d1l:(ak (s.drop (i+1))).length=n - (i+1):=by rw[aq,length_drop,cB]
    have d1t:List.take (n - (i+1)) (ak (s.drop (i+1)))=ak (s.drop (i+1)):=dm (by omega);have d1r:=vn (ls:=s.drop (i+1)) (fun l hl=>(j_ l (mem_of_mem_drop hl)).len);have acs:=C0 s i;have e3:i+(n - (i+1))=n - 1:=by omega
    obtain⟨dd,yC⟩:=ax (p_ s i);rw[yC] at Sq BT rd cI eF BF tkd acs;obtain⟨y,hy⟩:=ax (dL x);rw[hy] at Sq kN d7 cI;have gy:=ag y;have nh:=aB d7;have fB:=ar d7;have OP:(dd++[y]).length=n - 1+1:=by rw[qe,BF];rfl
    have rll:=aq (dd++[y]);rw[OP] at rll;have h0n:0+(n - 1)<=(ak dd).length:=by omega
    unfold RL at kN;refine ah h2 ?_;refine ah (f0 @Nat.sub_zero rl kO t1 t1l t1t t1r) ?_
    repeat refine ae ?_
    simp -dsimp(disch:=omega) only[Nat.sub_zero,rl,kO,t1,t1l,t1t,t1r,e1,d1,d1l,d1t,d1r,acs,e3,IntKind.bits,Int.reduceToNat,Int.reducePow,Option.isNone_none,↓reduceIte,reduceCtorEq,reduceAdd,reduceMul,reduceSub,Nat.reduceBEq,reduceEqDiff,reduceLT,reduceLeDiff,ru]
    repeat refine ae ?_
    refine dw (by kernel_rfl) ?_;refine aF (bU @Nat.sub_zero rl r1 l_ fx gx lx (bB fU rd tkd)) ?_
    repeat refine ae ?_
    refine hY kN ?_;refine aF (f0 gy d7 fB nh rd tkd cI) ?_
    repeat refine ae ?_
    refine GoCall.show Sq (Plain.lit _) (by omega) rfl ?_;cases b with
    | true=>
     rw[if_pos rfl] at eF;refine kI ?_;refine aw (i+1,s) ?_ ⟨by omega,hg,by rw[cB];exact eF⟩;exact bP []
    | false=>
     rw[if_neg (by simp)] at eF;refine kI ?_;refine aw (i,dd) ?_ ⟨by omega,BT,by rw[BF,show n - 1 - i=n - (i+1) by omega];exact eF⟩;refine Weak.shut [1] ?_;refine Weak.fz 3 1 0 (n - 1) 27 (ak dd) rfl rfl (by omega) ?_;refine fW [] ?_ ?_
     .simp[bO,eT,cJ,aU,tkd]
     simp[fM,fC,aU,cJ,bA,bh,aZ,bJ]
   intro h1 h2;have j6:i=n:=by omega
   have h8:n - i=0:=by omega
   rw[h8] at eF;have OQ:s=R:=eF;subst OQ;refine ah h2 ?_;exact bc rfl
noncomputable def t_ (a b:List (List Raw)):Bool:=@decide (a=b) (Classical.propDecidable _)
theorem oY {a b:List (List Raw)}:t_ a b=true↔a=b:=by unfold t_;rw[@decide_eq_true_iff]
theorem wC (a:List (List Raw)):t_ a a=true:=oY.2 rfl
theorem n5 {a b:List (List Raw)}:t_ a b=false↔a≠b:=by
 constructor
 .intro h he;rw[oY.2 he] at h;cases h
 intro h;cases h2:t_ a b with
 | false=>rfl
 | true=>exact absurd (oY.1 h2) h
theorem aaq (a b:List (List Raw)) (ha: ∀ l∈a,IsCn l/\LOk 1000 l) (hb: ∀ l∈b,IsCn l/\LOk 1000 l) (OI:a.length<=1000) (_:b.length<=1000):
 Den Tryz.prog 78 [] [.fv (.sl (ak a)),.fv (.sl (ak b))] [] (.bool (t_ a b)):=by
 obtain⟨R,hR⟩:=ax (t_ a b)
 rw[hR]
 obtain⟨n,cB⟩:=ax a.length
 obtain⟨m,xI⟩:=ax b.length
 have rla:=aq a
 have rlb:=aq b
 rw[cB] at rla OI
 rw[xI] at rlb
 refine dq Tryz.func78 25 0 ?_
 refine cz (a8 rla rlb) ?_
 refine Br.bneInt ?_ ?_
 .intro h1 h2
  have qS:R=false:=by rw[<-hR,n5];intro he;rw[he] at cB;omega
  subst qS
  refine ah h2 ?_
  exact bc rfl
 intro h1 h2
 refine ah h2 ?_
 refine wl (α:=Nat) (fun i=>⟨[.fv (.sl (ak a)),.fv (.sl (ak b)),.any,.any,.bool false,.int .i64 i]++replicate 21 .any,[]⟩)
  (fun i=>n - i) (fun i=>i<=n/\ ∀ j,j<i->a.getD j []=b.getD j []) 0 ?_ ?_ ?_
 .exact bP []
 .exact⟨dU _,fun j hj=>by omega⟩
 rintro i ⟨hi,j6⟩
 refine cz rla ?_
 refine bK ?_ ?_
 .intro h3 h4
  have hma:=cr (ls:=a) (i:=i) (by omega)
  have hmb:=cr (ls:=b) (i:=i) (by omega)
  have r1:=ba a i
  have r2:=ba b i
  have iu:a.getD i []=b.getD i []-> ∀ j,j<i+1->a.getD j []=b.getD j []:=fun h0 j hj=>by
   by_cases o5:j=i
   .rw[o5];exact h0
   exact j6 j (by omega)
  have OS:a.getD i []≠b.getD i []->R=false:=fun h0=>by
   rw[<-hR,n5];intro he;rw[he] at h0;exact h0 rfl
  obtain⟨x,iW⟩:=ax (a.getD i [])
  obtain⟨y,sy⟩:=ax (b.getD i [])
  rw[iW] at hma r1 iu OS
  rw[sy] at hmb r2 iu OS
  obtain⟨⟨p,hp,Ec⟩,hxo⟩:=ha x hma
  obtain⟨⟨q,hq,Pq⟩,hyo⟩:=hb y hmb
  have WT: ∀ z∈p,Bd 1000000000 z:=fun z hz=>by
   have:=hxo.bd (by decide) (cn z) (by rw[hp];exact mem_map.2 ⟨z,hz,rfl⟩);rw[cK] at this;exact this.mono (by decide)
  have WU: ∀ z∈q,Bd 1000000000 z:=fun z hz=>by
   have:=hyo.bd (by decide) (cn z) (by rw[hq];exact mem_map.2 ⟨z,hz,rfl⟩);rw[cK] at this;exact this.mono (by decide)
  have Ae:=ZC p q Ec Pq WT WU
  unfold FL at Ae
  rw[<-hp,<-hq] at Ae
  have x_:p=q↔x=y:=by
   constructor
   .intro h;rw[hp,hq,h]
   intro h;rw[<-nW p,<-nW q,<-hp,<-hq,h]
  obtain⟨c,hc⟩:=ax (decide (p=q))
  rw[hc] at Ae
  have lx:=hxo.len
  have ly:=hyo.len
  have l_:=aB lx
  have nh:=aB ly
  have fx:=aI x
  have fy:=aI y
  unfold RL at Ae
  refine ah h4 ?_
  refine dw (by kernel_rfl) ?_
  refine aF (bU r1 r2 l_ nh fx fy lx (bB ly rla rlb)) ?_
  repeat refine ae ?_
  refine hY Ae ?_
  cases c with
  | true=>
   have he:=x_.1 (of_decide_eq_true hc);refine aF @Bool.not_true ?_;refine aw (i+1) ?_ ⟨by omega,iu he⟩;exact bP []
  | false=>
   have he:x≠y:=fun h=>(of_decide_eq_false hc) (x_.2 h)
   have qS:=OS he;subst qS;refine aF @Bool.not_false ?_;exact bc rfl
 intro h3 h4
 have qS:R=true:=by
  rw[<-hR,oY];apply List.ext_getElem (by omega);intro j h5 h6;have:=j6 j (by omega);rw[qa,qb h5,qa,qb h6] at this;exact this
 subst qS
 refine ah h4 ?_
 exact bc rfl
theorem aeW (cs:List (List Raw)) (h:KT cs):Den Tryz.prog 194 [] [.fv (.sl (ak cs))] [] (.fv (.sl (ak (c7 cs)))):=by
 obtain⟨R,hR⟩:=ax (c7 cs);rw[hR];unfold c7 cN at hR;have nA:=aaf cs h.cs;have su:=h.good;have nJ:=aae _ su.good;have Px:=aeU;cases Im:dk cs with
 | true=>
  rw[Im,if_pos rfl] at nA;rw[Im] at hR;have qS:R=[dR ((-1:Int):Rat)]:=hR.symm;subst qS;refine dq Tryz.func194 46 0 ?_;refine aW ?_;refine aM nA ?_;refine ah @Bool.not_false ?_;refine aM Px ?_;refine a9 ?_;exact bc rfl
 | false=>
  rw[Im,if_neg (by simp)] at nA;rw[Im] at hR;cases Gg:dX (sysL cs []) with
  | false=>
   rw[Gg] at hR nJ;have qS:R=[dR ((-1:Int):Rat)]:=hR.symm;subst qS;refine dq Tryz.func194 46 0 ?_;refine aW ?_;refine aM nA ?_;refine ah @Bool.not_true ?_;refine aM nJ ?_;refine ah @Bool.not_false ?_;refine aM Px ?_;refine a9 ?_;exact bc rfl
  | true=>
   rw[Gg,Bool.not_false,Bool.and_true,if_pos rfl] at hR;rw[Gg] at nJ;obtain⟨s0,EI⟩:=ax (sysL cs []);rw[EI] at nA su nJ hR;have m_:=Cf (-1) (by decide);change Den Tryz.prog 58 [] [.int .i64 (-1)] [] (cn ((-1:Int):Rat)).v at m_;have nH: ∀ b:List Raw,LOk 1000 b->Den Tryz.prog 140 [] [RL b,(cn ((-1:Int):Rat)).v] [] (RL (dL b)):=fun b hb=>by
    have:=GX b (cn ((-1:Int):Rat)) (hb.mono (by decide)) (bn (Bd.mono (show Bd 1 ((-1:Int):Rat) from⟨by decide,by decide⟩) (by decide)));rw[cK] at this;exact this
   obtain⟨c,hc⟩:=ax (cn ((-1:Int):Rat));rw[hc] at m_ nH;unfold Raw.v at m_ nH;refine dq Tryz.func194 46 0 ?_;refine aW ?_;refine aM nA ?_;refine ah @Bool.not_true ?_;refine aM nJ ?_;refine ah @Bool.not_true ?_;refine aM m_ ?_;refine a9 ?_
   repeat refine ae ?_
   refine wl (α:=Nat×List (List Raw)) (fun⟨i,s⟩=>⟨[.fv (.sl (ak cs)),.any,.nilsl,.fv (.sl (ak s)),.bool true,.ptr 0 0 0,.int .i64 i]++replicate 40 .any,[.box true [.bool c.neg,.fv (.sl (u32s c.num)),.fv (.sl (u32s c.den))]]⟩)
    (fun⟨i,s⟩=>s.length - i) (fun⟨i,s⟩=>i<=s.length/\GoodT s/\wt (s.length - i) i s=R) (0,s0) ?_ ?_ ?_
   .exact bP [0]
   .exact⟨dU _,su,hR⟩
   rintro⟨i,s⟩ ⟨hi,hg,eF⟩;have Kw:=hg.good.len;have j_:=hg.good.lim;obtain⟨n,cB⟩:=ax s.length;have rl:=aq s;rw[cB] at rl Kw hi eF;refine cz rl ?_;refine bK ?_ ?_
   .intro h1 h2;have j6:i<s.length:=by omega
    have bC:=cr (ls:=s) (i:=i) j6;have r1:=ba s i;obtain⟨f_,acr,_⟩:=Hx hg j6;have El:=U_ _ f_;rw[acr] at El;have EG:=U' s (fun l hl=>(j_ l hl).len) (by omega);have WV:=aaj s i j6 (by omega);have WN:=vm j6;have WW:=U' (p_ s i) (fun l hl=>(j_ l (Hp hl)).len) (by omega);have BT:=hg.sub (vk (s:=s) (i:=i));have h8:n - i=(n - (i+1))+1:=by omega
    rw[h8] at eF;unfold wt at eF;rw[if_pos j6] at eF;obtain⟨b,hb⟩:=ax (Jl s i);rw[hb] at El eF;obtain⟨x,iW⟩:=ax (s.getD i []);rw[iW] at bC r1 El;have hx:=j_ x bC;have lx:=hx.len;have l_:=aB lx;have fx:=aI x;have gx:=ag x;have fU:=ar lx;have KW:=nH x hx;have d7:=dG lx;have rd:=aq (p_ s i);have cI:=cP (p_ s i) (dL x);have BF:(p_ s i).length=n - 1:=by omega
    rw[BF] at rd WW;have tkd:=bX (ls:=p_ s i) (n:=n - 1) (by omega);obtain⟨dd,yC⟩:=ax (p_ s i);rw[yC] at El WV WW BT rd cI eF BF tkd;obtain⟨y,hy⟩:=ax (dL x);rw[hy] at El KW d7 cI;have gy:=ag y;have nh:=aB d7;have fB:=ar d7;have OP:(dd++[y]).length=n - 1+1:=by rw[qe,BF];rfl
    have rll:=aq (dd++[y]);rw[OP] at rll;rw[cB] at EG WV;have pL: ∀ (H:List Ob) (a b:FV),shutBs H 1 [.lsl 1 0 n 27,.fv a,.fv b]=H:=fun _ _ _=>rfl
    have h0n:0+(n - 1)<=(ak dd).length:=by omega
    unfold RL at KW;refine ah h2 ?_;refine aM EG ?_;refine a9 ?_;refine d6 1 WV trivial ?_;simp -dsimp(disch:=omega) only[sh1,sh2,sh3,lent,pL,IntKind.bits,Int.reduceToNat,Int.reducePow,Option.isNone_none,↓reduceIte,reduceCtorEq,reduceAdd,reduceMul,reduceSub,Nat.reduceBEq,reduceEqDiff,reduceLT,reduceLeDiff,ru,zu];refine Draw.freeze [1] (by kernel_rfl) ?_;refine a9 ?_;refine gp WW (by simp[bH,eS,dS,dI,rd,tkd]) ?_;refine aF (f0 r1 l_ fx gx lx fU rl) ?_
    repeat refine ae ?_
    refine hY KW ?_;refine aF (f0 gy d7 fB nh rd tkd cI) ?_
    repeat refine ae ?_
    refine GoCall.show El (Plain.lit _) (by omega) rfl ?_;cases b with
    | true=>
     rw[if_pos rfl] at eF;refine kI ?_;refine aw (i+1,s) ?_ ⟨by omega,hg,by rw[cB];exact eF⟩;exact bP [0]
    | false=>
     rw[if_neg (by simp)] at eF;refine kI ?_;refine aw (i,dd) ?_ ⟨by omega,BT,by rw[BF,show n - 1 - i=n - (i+1) by omega];exact eF⟩;refine Weak.fz 3 1 0 (n - 1) 27 (ak dd) rfl rfl (by omega) ?_;refine fW [0] ?_ ?_
     .simp[bO,eT,cJ,aU,tkd]
     simp[fM,fC,aU,cJ,bA,bh,aZ,bJ]
   intro h1 h2;have j6:i=n:=by omega
   have h8:n - i=0:=by omega
   rw[h8] at eF;have OQ:s=R:=eF;subst OQ;refine ah h2 ?_;exact bc rfl
theorem aeX (cs:List (List Raw)) (h:KT cs) (hl:cs.length<=40):Den Tryz.prog 131 [] [.fv (.sl (ak cs))] [] (.tup [.fv (.sl (ak (c7 cs))),.int .i64 0]):=by
 have h81:=aeW cs h;have rl:=aq cs;have e1:decide ((cs.length:Int)>40)=false:=qV;refine dq Tryz.func131 8 0 ?_;simp -dsimp(disch:=omega) only[replicate,rl,e1,IntKind.bits,Int.reduceToNat,Int.reducePow,Option.isNone_none,↓reduceIte,reduceCtorEq,reduceAdd,reduceMul,reduceSub,Nat.reduceBEq,reduceEqDiff,reduceLT,reduceLeDiff,ru];refine aM h81 ?_;refine a9 ?_;exact bc rfl
def gS (Ls:List (List RR)):List (List FV):=Ls.map (fun l=>[FV.sl (aE l)])
theorem yn (Ls:List (List RR)):(gS Ls).length=Ls.length:=by simp[gS]
theorem ua {Ls:List (List RR)} {i:Nat} (h:i<Ls.length):(gS Ls).getD i []=[FV.sl (aE (Ls.getD i []))]:=by simp[gS,h]
theorem zG {α:Type} {l:List α} {d:α} {i:Nat} (h:i<l.length):l.getD i d∈l:=by
 rw[qa,qb h];exact pP h
theorem wD {α:Type} {l:List α} {d:α} {i:Nat} (h:i<l.length):l.take (i+1)=l.take i++[l.getD i d]:=by
 rw[List.take_succ_eq_append_getElem h,qa,qb h];rfl
structure C1 (ts:List RT):Prop where
 ok:TsOk 1000000000 ts
 pb:PB 1000000000 (ts.map tq)
 len:ts.length<=10000000000
 srt:(nfR ts).length<=cE
def d_ (r:RR):Bool:=decide (40<r.1.length)
def dM (l:List RR):Bool:=decide (4000<l.length)||l.any d_
def fY (l:List RR):Bool:=l.all (fun r=>validB r.2)
def ja (Ls:List (List RR)):Int:=if Ls.any dM=true then 9 else if Ls.all fY=true then 0 else 2
theorem TI {ts:List RT} (h:C1 ts):Den Tryz.prog 109 [] [PL ts] [] (if validB ts then .tup [PL ((nfR ts).map tn),.int .i64 0] else .tup [.fv (.sl []),.int .i64 2]):=by
 cases hv:validB ts with
 | true=>exact aeK ts h.ok h.pb h.len h.srt hv
 | false=>exact ZT ts h.ok h.len hv
theorem aar (Ls:List (List RR)) (hn:Ls.length<=10) (aA: ∀ l∈Ls,l.length<=1000000) (hp: ∀ l∈Ls,∀ r∈l,C1 r.2) (hc: ∀ l∈Ls,∀ r∈l,r.1.length<=1000000):
 Den Tryz.prog 57 [] [.fv (.sl (gS Ls))] [] (.int .i64 (ja Ls)):=by
 have rl:=yn Ls
 obtain⟨n,cB⟩:=ax Ls.length
 rw[cB] at rl hn
 obtain⟨R,hR⟩:=ax (ja Ls)
 rw[hR]
 unfold ja at hR
 refine dq Tryz.func57 55 0 ?_
 refine cz rl ?_
 refine wl (α:=Nat) (fun i=>⟨[.fv (.sl (gS Ls)),.any,.int .i64 0,.any,.any,.any,.any,.any,.any,.any,.any,.any,.any,.fv (.sl (gS Ls)),.int .i64 n,.int .i64 i]++replicate 40 .any,[]⟩)
  (fun i=>n - i) (fun i=>i<=n/\(Ls.take i).any dM=false) 0 ?_ ?_ ?_
 .exact bP []
 .exact⟨dU _,rfl⟩
 rintro i ⟨h1,h2⟩
 refine aW ?_
 refine bK ?_ ?_
 .intro g1 g2
  have rx:=ua (Ls:=Ls) (i:=i) (by omega)
  have hm:=zG (l:=Ls) (d:=[]) (i:=i) (by omega)
  have ec:=wD (l:=Ls) (d:=[]) (i:=i) (by omega)
  obtain⟨l,hl⟩:=ax (Ls.getD i [])
  rw[hl] at rx hm ec
  have pa:=aA l hm
  have eO:=hc l hm
  have rll:=aX l
  obtain⟨m,xI⟩:=ax l.length
  rw[xI] at rll pa
  have Sr:dM l=true->Ls.any dM=true:=fun h=>kA hm h
  by_cases h4:4000<m
  .have e1:decide ((m:Int)>4000)=true:=BR
   have hb:dM l=true:=by unfold dM;rw[xI,iK h4];rfl
   rw[if_pos (Sr hb)] at hR
   subst hR
   simp -dsimp(disch:=omega) only[g2,rx,rl,rll,e1,IntKind.bits,Int.reduceToNat,Int.reducePow,Option.isNone_none,↓reduceIte,reduceCtorEq,reduceAdd,reduceMul,reduceSub,Nat.reduceBEq,reduceEqDiff,reduceLT,reduceLeDiff,ru]
   repeat refine ae ?_
   exact bc rfl
  have e1:decide ((m:Int)>4000)=false:=qV
  simp -dsimp(disch:=omega) only[g2,rx,rl,rll,e1,IntKind.bits,Int.reduceToNat,Int.reducePow,Option.isNone_none,↓reduceIte,reduceCtorEq,reduceAdd,reduceMul,reduceSub,Nat.reduceBEq,reduceEqDiff,reduceLT,reduceLeDiff,ru]
  repeat refine ae ?_
  refine wl (α:=Nat) (fun j=>⟨[.fv (.sl (gS Ls)),.any,.int .i64 0,.any,.any,.any,.any,.any,.any,.any,.any,.any,.any,.fv (.sl (gS Ls)),.int .i64 n,.int .i64 i,.any,.any,.any,.any,.any,.any,.fv (.sl (aE l)),.int .i64 m,.int .i64 j]++replicate 31 .any,[]⟩)
   (fun j=>m - j) (fun j=>j<=m/\(l.take j).any d_=false) 0 ?_ ?_ ?_
  .exact bP []
  .exact⟨dU _,rfl⟩
  rintro j ⟨k1,k2⟩
  refine aW ?_
  refine bK ?_ ?_
  .intro g3 g4
   have ry:=db (l:=l) (i:=j) (by omega)
   have kY:=gC (l:=l) (i:=j) (by omega)
   have OT:=iD (l:=l) (i:=j) (by omega)
   obtain⟨r,hr⟩:=ax (l.getD j pB)
   rw[hr] at ry kY OT
   have hrc:=eO r kY
   have rlc:=aq r.1
   unfold t6 at ry
   by_cases Ij:40<r.1.length
   .have e2:decide ((r.1.length:Int)>40)=true:=BR
    have hb:dM l=true:=by
     unfold dM;rw[kA kY (show d_ r=true from iK Ij),Bool.or_true]
    rw[if_pos (Sr hb)] at hR
    subst hR
    simp -dsimp(disch:=omega) only[g4,ry,rll,rlc,e2,IntKind.bits,Int.reduceToNat,Int.reducePow,Option.isNone_none,↓reduceIte,reduceCtorEq,reduceAdd,reduceMul,reduceSub,Nat.reduceBEq,reduceEqDiff,reduceLT,reduceLeDiff,ru]
    repeat refine ae ?_
    exact bc rfl
   have e2:decide ((r.1.length:Int)>40)=false:=qV
   simp -dsimp(disch:=omega) only[g4,ry,rll,rlc,e2,IntKind.bits,Int.reduceToNat,Int.reducePow,Option.isNone_none,↓reduceIte,reduceCtorEq,reduceAdd,reduceMul,reduceSub,Nat.reduceBEq,reduceEqDiff,reduceLT,reduceLeDiff,ru]
   repeat refine ae ?_
   refine aw (j+1) ?_ ⟨by omega,by rw[OT,any_append,k2];simp[d_];omega⟩
   exact bP []
  intro g3 g4
  have hjm:j=m:=by omega
  have fD:l.take j=l:=dm (by omega)
  rw[fD] at k2
  refine ah g4 ?_
  refine aw (i+1) ?_ ⟨by omega,by
   rw[ec,any_append,h2];have:dM l=false:=by unfold dM;rw[k2,xI,mU h4];rfl
   simp[this]⟩
  exact bP []
 intro g1 g2
 have j6:i=n:=by omega
 have fD:Ls.take i=Ls:=dm (by omega)
 rw[fD] at h2
 rw[if_neg (by rw[h2];decide)] at hR
 clear hc
 refine ah (a8 g2 rl) ?_
 refine wl (α:=Nat) (fun i=>⟨[.fv (.sl (gS Ls)),.any,.int .i64 0,.any,.any,.any,.any,.any,.any,.any,.any,.any,.any]++replicate 21 .any++[.fv (.sl (gS Ls)),.int .i64 n,.int .i64 i]++replicate 19 .any,[]⟩)
  (fun i=>n - i) (fun i=>i<=n/\(Ls.take i).all fY=true) 0 ?_ ?_ ?_
 .exact bP []
 .exact⟨dU _,rfl⟩
 rintro i ⟨h1,h2⟩
 refine aW ?_
 refine bK ?_ ?_
 .intro g1 g2
  have rx:=ua (Ls:=Ls) (i:=i) (by omega)
  have hm:=zG (l:=Ls) (d:=[]) (i:=i) (by omega)
  have ec:=wD (l:=Ls) (d:=[]) (i:=i) (by omega)
  obtain⟨l,hl⟩:=ax (Ls.getD i [])
  rw[hl] at rx hm ec
  have pa:=aA l hm
  have Ec:=hp l hm
  have rll:=aX l
  obtain⟨m,xI⟩:=ax l.length
  rw[xI] at rll pa
  refine ah (fe g2 rx rl rll) ?_
  repeat refine ae ?_
  refine wl (α:=Nat) (fun j=>⟨[.fv (.sl (gS Ls)),.any,.int .i64 0,.any,.any,.any,.any,.any,.any,.any,.any,.any,.any]++replicate 21 .any++[.fv (.sl (gS Ls)),.int .i64 n,.int .i64 i,.any,.any,.any,.fv (.sl (aE l)),.int .i64 m,.int .i64 j]++replicate 13 .any,[]⟩)
   (fun j=>m - j) (fun j=>j<=m/\(l.take j).all (fun r=>validB r.2)=true) 0 ?_ ?_ ?_
  .exact bP []
  .exact⟨dU _,rfl⟩
  rintro j ⟨k1,k2⟩
  refine aW ?_
  refine bK ?_ ?_
  .intro g3 g4
   have ry:=db (l:=l) (i:=j) (by omega)
   have kY:=gC (l:=l) (i:=j) (by omega)
   have OT:=iD (l:=l) (i:=j) (by omega)
   obtain⟨r,hr⟩:=ax (l.getD j pB)
   rw[hr] at ry kY OT
   have Ug:=TI (Ec r kY)
   unfold t6 at ry
   cases hv:validB r.2 with
   | false=>
    have hb:Ls.all fY=false:=by
     cases ha:Ls.all fY with
     | false=>rfl
     | true=>
      have:=List.all_eq_true.1 (List.all_eq_true.1 ha l hm) r kY;rw[hv] at this;cases this
    rw[hb,if_neg (by decide)] at hR;rw[hv,if_neg (by decide)] at Ug;subst hR;have e2:((2:Int) !=0)=true:=rfl;refine ah (bB g4 ry rll) ?_
    repeat refine ae ?_
    refine aM Ug ?_;simp -dsimp(disch:=omega) only[e2,IntKind.bits,Int.reduceToNat,Int.reducePow,Option.isNone_none,↓reduceIte,reduceCtorEq,reduceAdd,reduceMul,reduceSub,Nat.reduceBEq,reduceEqDiff,reduceLT,reduceLeDiff,ru];exact bc rfl
   | true=>
    rw[hv,if_pos rfl] at Ug;have e2:((0:Int) !=0)=false:=rfl;refine ah (bB g4 ry rll) ?_
    repeat refine ae ?_
    refine aM Ug ?_;simp -dsimp(disch:=omega) only[e2,IntKind.bits,Int.reduceToNat,Int.reducePow,Option.isNone_none,↓reduceIte,reduceCtorEq,reduceAdd,reduceMul,reduceSub,Nat.reduceBEq,reduceEqDiff,reduceLT,reduceLeDiff,ru];refine aw (j+1) ?_ ⟨by omega,by rw[OT,qvb,k2];simp[hv]⟩;exact bP []
  intro g3 g4
  have hjm:j=m:=by omega
  have fD:l.take j=l:=dm (by omega)
  rw[fD] at k2
  refine ah g4 ?_
  refine aw (i+1) ?_ ⟨by omega,by
   rw[ec,qvb,h2];have:fY l=true:=k2;simp[this]⟩
  exact bP []
 intro g1 g2
 have j6:i=n:=by omega
 have fD:Ls.take i=Ls:=dm (by omega)
 rw[fD] at h2
 rw[if_pos h2] at hR
 subst hR
 refine ah g2 ?_
 exact bc rfl
end Go.Proofs.YtiaaceeelfhdlaaGreat
namespace Go.Pl
open Go.AM
def jt (s:List RC) (i j:Nat):List RC:=(s.take j).drop i
def polyS' (l:List RC):List Tm:=nf (l.flatMap (·.2))
structure MgI (s M:List RC) (i:Nat):Prop where
 nf:NF M
 lt: ∀ x∈M,∀ y∈s.drop i,bT x.1 y.1<0
 sum: ∀ k m,CnK k->da k m M=da k m (s.take i)
theorem MgI.start (s:List RC):MgI s [] 0:=⟨.nil,by simp,fun k m _=>by rw[List.take_zero]⟩
theorem wE {s:List RC} {i j:Nat} (uX:i<=j):(jt s i j++(s.take i++s.drop j)).Perm s:=by
 have h1:s=s.take i++jt s i j++s.drop j:=by
  unfold jt;have h2:s.take i=(s.take j).take i:=by rw[List.take_take,Nat.min_eq_left uX]
  rw[h2,List.take_append_drop,List.take_append_drop]
 conv=>rhs;rw[h1]
 rw[<-append_assoc];exact List.Perm.append_right _ List.perm_append_comm
theorem C2 {s:List RC} {i j:Nat} {x:RC} (uX:i<=j) (hj:s[j]?=some x):jt s i (j+1)=jt s i j++[x]:=by
 unfold jt;have hl:j<s.length:=(List.getElem?_eq_some_iff.1 hj).1;have hx:s[j]=x:=(List.getElem?_eq_some_iff.1 hj).2;rw[List.take_succ_eq_append_getElem hl,List.drop_append_of_le_length (by rw[length_take];omega),hx]
theorem AR {s:List RC} {i:Nat} {x:RC} (hi:s[i]?=some x):jt s i (i+1)=[x]:=by
 rw[C2 (qp _) hi];unfold jt;rw[List.drop_of_length_le (by rw[length_take];omega)];rfl
theorem Hy {s:List RC} {i j:Nat} {x:RC} (h:x∈jt s i j):x∈s:=xY (mem_of_mem_drop h)
theorem RcOk.flat {l:List RC} (h:RcOk l):Len8 (l.flatMap (·.2)):=fun t ht=>by
 obtain⟨r,hr,h2⟩:=List.mem_flatMap.1 ht;exact(h r hr).2.len t h2
theorem Jv {l:List RC} {x:RC} (hl:RcOk l) (hx:Canon x.2):nf (polyS' l++x.2)=polyS' (l++[x]):=by
 unfold polyS';rw[List.flatMap_append,List.flatMap_singleton];exact Eqv.nf_eq ((Eqv.nf _).app (Eqv.refl _)) (Len8.app (Len8.nf hl.flat) hx.len) (Len8.app hl.flat hx.len)
theorem wF {x:RC} (hx:Canon x.2):polyS' [x]=x.2:=by
 unfold polyS';rw[List.flatMap_singleton,oN hx]
theorem C3 {k:Kc} {m:Mn}: ∀ {l:List RC},(∀ x∈l,x.1=k)->da k m l=b_ m (l.flatMap (·.2))
 | [],_=>rfl
 | x::l,h=>by
  rw[da,if_pos (h x (by simp)),C3 (fun y hy=>h y (ql _ hy)),List.flatMap_cons,fF]
theorem Ff {k k2:Kc} {m:Mn} {l:List RC} (h: ∀ x∈l,x.1=k) (hk:k≠k2):da k2 m l=0:=oX (fun x hx he=>hk ((h x hx).symm.trans he))
theorem MgI.step {s M:List RC} {i j:Nat} {k:Kc} (hs:s.Pairwise (fun a b=>bT a.1 b.1<=0)) (bf:RcOk s) (h:MgI s M i) (uX:i<j) (hj:j<=s.length)
 (hk: ∀ x∈jt s i j,x.1=k) (xC: ∀ y,s[j]?=some y->bT y.1 k≠0):
 MgI s (if polyS' (jt s i j)=[] then M else M++[(k,polyS' (jt s i j))]) j:=by
 have eV:i<s.length:=by omega
 have PE:s[i]?=some s[i]:=qb eV
 have acu:s[i]∈jt s i j:=by
  unfold jt;have:s[i]=(s.take j)[i]'(by rw[length_take];omega):=by rw[List.getElem_take]
  rw[this];have h2:i<(s.take j).length:=by rw[length_take];omega
  rw[drop_eq_getElem_cons h2];simp
 have Il:s[i].1=k:=hk _ acu
 have acv:CnK k:=by rw[<-Il];exact(bf _ (pP eV)).1
 have Ga:s[i]∈s.drop i:=by rw[drop_eq_getElem_cons eV];exact mem_cons_self
 have X5: ∀ y∈s.drop j,y∈s.drop i:=fun y hy=>by
  have:s.drop j=(s.drop i).drop (j - i):=by rw[List.drop_drop];congr 1;omega
  rw[this] at hy;exact mem_of_mem_drop hy
 have acw: ∀ y∈s.drop j,bT k y.1<0:=fun y hy=>by
  have nC:j<s.length:=by
   have:=length_pos_of_mem hy;rw[length_drop] at this;omega
  have fX:=xC s[j] (qb nC);have cX:bT s[i].1 s[j].1<=0:=List.pairwise_iff_getElem.1 hs i j eV nC uX;rw[Il] at cX;have Gh:=fQ s[j].1 k;have hcj:=(bf s[j] (pP nC)).1;rw[drop_eq_getElem_cons nC] at hy;rcases List.mem_cons.1 hy with h1 | h1
  .rw[h1];omega
  obtain⟨q,hq,rfl⟩:=List.mem_iff_getElem.1 h1;rw[List.getElem_drop] at*;rw[length_drop] at hq;have h2:=List.pairwise_iff_getElem.1 hs j (j+1+q) nC (by omega) (by omega);exact wu acv hcj (bf _ (pP _)).1 (by omega) h2
 have Gr:RcOk (jt s i j):=fun x hx=>bf x (Hy hx)
 have eF:Canon (polyS' (jt s i j)):=dW Gr.flat
 have fD:s.take j=s.take i++jt s i j:=by
  unfold jt;have h2:s.take i=(s.take j).take i:=by rw[List.take_take,Nat.min_eq_left (by omega)]
  rw[h2,List.take_append_drop]
 have kZ: ∀ k2 m,da k2 m (jt s i j)=if k=k2 then b_ m (polyS' (jt s i j)) else 0:=fun k2 m=>by
  by_cases hc:k=k2
  .rw[if_pos hc,<-hc,C3 hk];unfold polyS';rw[sP]
  rw[if_neg hc,Ff hk hc]
 by_cases hp:polyS' (jt s i j)=[]
 .rw[if_pos hp]
  refine⟨h.nf,fun x hx y hy=>h.lt x hx y (X5 y hy),fun k2 m iY=>?_⟩
  rw[fD,kz,h.sum k2 m iY,kZ,hp]
  simp[b_];grind
 rw[if_neg hp]
 refine⟨⟨?_,fun x hx=>?_,fun x hx=>?_,fun x hx=>?_⟩,fun x hx y hy=>?_,fun k2 m iY=>?_⟩
 .rw[List.pairwise_append]
  refine⟨h.nf.sorted,List.pairwise_singleton _ _,fun x hx y hy=>?_⟩
  rw[qz] at hy
  subst hy
  have:=h.lt x hx _ Ga
  rw[Il] at this
  exact this
 .rcases List.mem_append.1 hx with h1 | h1
  .exact h.nf.cn x h1
  rw[qz] at h1;subst h1;exact acv
 .rcases List.mem_append.1 hx with h1 | h1
  .exact h.nf.can x h1
  rw[qz] at h1;subst h1;exact eF
 .rcases List.mem_append.1 hx with h1 | h1
  .exact h.nf.ne x h1
  rw[qz] at h1;subst h1;exact hp
 .rcases List.mem_append.1 hx with h1 | h1
  .exact h.lt x h1 y (X5 y hy)
  rw[qz] at h1;subst h1;exact acw y hy
 rw[kz,h.sum k2 m iY,fD,kz,kZ,da,da];grind
theorem MgI.done {s M l:List RC} (h:MgI s M s.length) (hp:s.Perm l) (hl:RcOk l):M=js l:=
 h.nf.of hl (fun k m hk=>by rw[h.sum k m hk,List.take_length,Jo hp])
end Go.Pl
namespace Go.Proofs.YtiaaceeelfhdlaaGreat
open Go.AM Go.Pl
set_option maxRecDepth 100000
set_option maxHeartbeats 4000000
theorem Vc {cs:List (List Raw)} (h:KT cs):(∀ l∈c7 cs,IsCn l/\LOk 1000 l)/\(c7 cs).length<=40:=by
 unfold c7;split
 .have hg:=Jn h.good;exact⟨fun l hl=>⟨hg.good.cnf l hl,hg.good.lim l hl⟩,by have:=hg.good.len;exact ka (show(wt (sysL cs []).length 0 (sysL cs [])).length<=12 from this) (by decide)⟩
 refine⟨fun l hl=>?_,by decide⟩;rw[qz] at hl;subst hl;exact⟨⟨(replicate 9 (0:Rat)).set 8 ((-1:Int):Rat),by simp[dR,List.map_set],by simp⟩,zx.mono (by decide)⟩
noncomputable def iS (r:RR):Bool:=cN r.1&&!(nfR r.2).isEmpty
noncomputable def normL (L:List RR):List RC:=(L.filter iS).map (fun r=>(c7 r.1,nfR r.2))
theorem wG {L:List RR} {r:RR}:normL (L++[r])=normL L++(if iS r then [(c7 r.1,nfR r.2)] else []):=by
 unfold normL;rw[filter_append,BM];congr 1;cases h:iS r<;>simp[h]
structure C4 (L:List RR):Prop where
 pg: ∀ r∈L,C1 r.2
 val: ∀ r∈L,validB r.2=true
 cs: ∀ r∈L,r.1.length<=40->KT r.1
 len:L.length<=1000000
 lim: ∀ r∈L,r.1.length<=1000000
 few:(normL L).length<20
 mer: ∀ t u:List RC,(t++u).Perm (normL L)->POk 10000000 1024 (polyS' t)/\(polyS' t).length<=cE
theorem rR {L:List RR} (h:C4 L) (hl:L.any d_=false):(∀ r∈normL L,CnK r.1/\AOk 1000 r.1/\r.1.length<=40)/\RcOk (normL L):=by
 have h1: ∀ r∈normL L,(CnK r.1/\AOk 1000 r.1/\r.1.length<=40)/\Canon r.2:=fun r hr=>by
  unfold normL at hr;obtain⟨x,hx,rfl⟩:=mem_map.1 hr;have pH:=(List.mem_filter.1 hx).1;have cX:x.1.length<=40:=by
   cases hc:d_ x with
   | false=>simpa [d_] using hc
   | true=>rw[kA pH hc] at hl;cases hl
  obtain⟨c1,c2⟩:=Vc (h.cs x pH cX);exact⟨⟨fun f hf=>(c1 f hf).1,fun f hf=>(c1 f hf).2,c2⟩,dW (lG (h.pg x pH).ok.l8)⟩
 exact⟨fun r hr=>(h1 r hr).1,fun r hr=>⟨(h1 r hr).1.1,(h1 r hr).2⟩⟩
theorem C5 {a:List RR} {b:List RC} (h:a.Perm (b.map rn)): ∃ s:List RC,a=s.map rn/\s.Perm b:=by
 have h2:(a.map (fun r=>((r.1,r.2.map tq):RC))).Perm b:=by
  have:=h.map (fun r=>((r.1,r.2.map tq):RC));rw[List.map_map] at this;have e:((fun r=>((r.1,r.2.map tq):RC)) ∘ rn)=id:=by
   funext x;show(x.1,(x.2.map tn).map tq)=x;rw[dQ]
  rw[e,List.map_id] at this;exact this
 refine⟨_,?_,h2⟩;rw[List.map_map]
 conv=>lhs;rw[<-List.map_id a]
 refine List.map_congr_left (fun x hx=>?_);obtain⟨y,_,rfl⟩:=mem_map.1 (h.mem_iff.1 hx);show rn y=(y.1,((y.2.map tn).map tq).map tn);rw[dQ];rfl
noncomputable def Qt (L:List RR):PV:=if L.any d_=true then .tup [.fv (.sl []),.int .i64 9] else .tup [nG ((js (normL L)).map rn),.int .i64 0]
theorem aas (L:List RR) (h:C4 L):Den Tryz.prog 70 [] [nG L] [] (Qt L):=by
 have rl:=aX L;have aA:=h.len;obtain⟨n,cB⟩:=ax L.length;rw[cB] at rl aA;obtain⟨R,hR⟩:=ax (Qt L);rw[hR];unfold Qt at hR;refine dq Tryz.func70 121 0 ?_;refine cz rl ?_;refine wl (α:=Nat×List RC) (fun⟨i,out⟩=>⟨[nG L,.any,.nilsl,.int .i64 0,.lsl 0 0 out.length 2,.any,.any,.any,.any,.any,.any,.any,.any,.any,.any,nG L,.int .i64 n,.int .i64 i]++replicate 104 .any,[.row true (aE (out.map rn))]⟩)
  (fun⟨i,_⟩=>n - i) (fun⟨i,out⟩=>i<=n/\out=normL (L.take i)/\(L.take i).any d_=false) (0,[]) ?_ ?_ ?_
 .refine Weak.nil 4 2 (by decide) rfl ?_;refine fW [0] ?_ ?_
  .simp[bO,eT,cJ,aU]
  simp[fM,fC,aU,cJ,bA,bh,aZ,bJ];simp[aE]
 .exact⟨dU _,rfl,rfl⟩
 rintro⟨i,out⟩ ⟨h1,h2,h3⟩;have sc:out.length<=i:=by
  rw[h2];unfold normL;rw[length_map];exact ka (List.length_filter_le _ _) (by rw[length_take];omega)
 obtain⟨M,hM⟩:=ax out.length;have rlo:=aX (out.map rn);rw[length_map,hM] at rlo;dsimp only;rw[hM] at sc ⊢;refine aW ?_;refine bK ?_ ?_
 .intro g1 g2;have ry:=db (l:=L) (i:=i) (by omega);have hm:=gC (l:=L) (i:=i) (by omega);have ec:=iD (l:=L) (i:=i) (by omega);obtain⟨r,hr⟩:=ax (L.getD i pB);rw[hr] at ry hm ec;have j_:=h.lim r hm;have rlc:=aq r.1;have Ug:=TI (h.pg r hm);rw[h.val r hm,if_pos rfl] at Ug;unfold t6 at ry;by_cases Ij:40<r.1.length
  .have e2:decide ((r.1.length:Int)>40)=true:=BR;rw[if_pos (kA hm (show d_ r=true from iK Ij))] at hR;subst hR;simp -dsimp(disch:=omega) only[g2,ry,rl,rlc,e2,IntKind.bits,Int.reduceToNat,Int.reducePow,Option.isNone_none,↓reduceIte,reduceCtorEq,reduceAdd,reduceMul,reduceSub,Nat.reduceBEq,reduceEqDiff,reduceLT,reduceLeDiff,ru]
   repeat refine ae ?_
   exact bc rfl
  have e2:decide ((r.1.length:Int)>40)=false:=qV;have e3:((0:Int) !=0)=false:=rfl;have f_:=h.cs r hm (by omega);have h20:=aeS r.1 f_.cs (by omega);have sw:=aeX r.1 f_ (by omega);have yH:=wG (L:=L.take i) (r:=r);have X6:d_ r=false:=mU Ij;have rlp:=ay ((nfR r.2).map tn);rw[length_map] at rlp;have hkb:iS r=(cN r.1&&!(nfR r.2).isEmpty):=rfl;have dh:=(h.pg r hm).srt;have XQ:=p9;obtain⟨b,hb⟩:=ax (cN r.1);obtain⟨q,hq⟩:=ax (nfR r.2);obtain⟨c,hc⟩:=ax (c7 r.1);rw[hb] at h20 hkb;rw[hq] at Ug hkb yH rlp dh;rw[hc] at sw yH;simp -dsimp(disch:=omega) only[g2,ry,rl,rlc,e2,IntKind.bits,Int.reduceToNat,Int.reducePow,Option.isNone_none,↓reduceIte,reduceCtorEq,reduceAdd,reduceMul,reduceSub,Nat.reduceBEq,reduceEqDiff,reduceLT,reduceLeDiff,ru]
  repeat refine ae ?_
  refine aM Ug ?_;refine ah e3 ?_;refine aM h20 ?_;by_cases oB:b=false
  .subst oB;rw[show iS r=false from hkb,if_neg (by decide),append_nil] at yH;refine ah (a8 e3 @Bool.not_false) ?_;refine aw (i+1,out) ?_ ⟨by omega,by rw[ec,yH,h2],by rw[ec,any_append,h3];simp[X6]⟩;exact bP [0]
  have iY:b=true:=by simpa using oB
  subst iY;by_cases Kq:q=[]
  .have e4:((q.length:Int)==0)=true:=by rw[Kq];rfl
   rw[show iS r=false by rw[hkb,Kq];rfl,if_neg (by decide),append_nil] at yH;refine ah (fe e3 @Bool.not_true rlp e4) ?_;refine aw (i+1,out) ?_ ⟨by omega,by rw[ec,yH,h2],by rw[ec,any_append,h3];simp[X6]⟩;exact bP [0]
  have e4:((q.length:Int)==0)=false:=by
   have:=length_pos_iff.2 Kq;rw[qx];omega
  have iZ:q.isEmpty=false:=by simpa using Kq
  rw[show iS r=true by rw[hkb,iZ];rfl,if_pos rfl] at yH;have cI:aE (out.map rn)++[[FV.sl (ak c),FV.sl (au (q.map tn))]]=aE ((out++[(c,q)]).map rn):=by
   rw[BM];exact jU _ (rn (c,q))
  have tk:=fI (l:=out.map rn) (n:=M) (by rw[length_map];omega);refine ah (fe e3 @Bool.not_true rlp e4) ?_;refine aM sw ?_;refine ah (fe e3 tk cI rlo) ?_
  repeat refine ae ?_
  refine aw (i+1,out++[(c,q)]) ?_ ⟨by omega,by rw[ec,yH,h2],by rw[ec,any_append,h3];simp[X6]⟩;exact bP [3]
 intro g1 g2;have j6:i=n:=by omega
 have fD:L.take i=L:=dm (by omega);rw[fD] at h2 h3;rw[if_neg (by rw[h3];decide)] at hR;obtain⟨KB,sk⟩:=rR h h3;have WX:=h.few;have WY:=h.mer;rw[<-h2] at hR KB sk WX WY;rw[hM] at WX;obtain⟨ls',eW,XP,acy⟩:=aab (out.map rn) (fun r hr=>by
  obtain⟨x,hx,rfl⟩:=mem_map.1 hr;have:=(KB x hx).2.2;exact⟨(KB x hx).1,fun l hl=>((KB x hx).2.1 l hl).mono (by decide),show x.1.length<=1000 by omega⟩) (by rw[length_map];omega)
 obtain⟨s,rfl,qR⟩:=C5 eW;rw[length_map,hM] at acy;have sd:s.length=M:=by rw[qR.length_eq,hM]
 have Ed:RcOk s:=fun r hr=>sk r (qR.mem_iff.1 hr)
 have gM: ∀ r∈s,AOk 1000 r.1/\r.1.length<=40:=fun r hr=>(KB r (qR.mem_iff.1 hr)).2
 have Gh:s.Pairwise (fun a b=>bT a.1 b.1<=0):=by
  rw[List.pairwise_map] at XP;refine XP.imp (fun{a b} uz=>?_);have e:=fQ a.1 b.1;have: ¬(bT b.1 a.1<0):=uz;omega
 have OU: ∀ t u:List RC,(t++u).Perm s->POk 10000000 1024 (polyS' t)/\(polyS' t).length<=cE:=fun t u hp=>WY t u (hp.trans qR)
 have XQ:=p9;have rls:=aX (s.map rn);rw[length_map,sd] at rls;have tks:=fI (l:=s.map rn) (n:=M) (by rw[length_map];omega);have KC:((0:Int) !=0)=false:=rfl;clear WY KB;refine ah g2 ?_;refine d6 0 acy trivial ?_;simp -dsimp(disch:=omega) only[sh1,sh2,sh3,sl2,List.set_cons_zero,IntKind.bits,Int.reduceToNat,Int.reducePow,Option.isNone_none,↓reduceIte,reduceCtorEq,reduceAdd,reduceMul,reduceSub,Nat.reduceBEq,reduceEqDiff,reduceLT,reduceLeDiff,ru,zu];refine wl (α:=Nat×List RC) (fun⟨i,Mg⟩=>⟨[.any,.any,.nilsl,.int .i64 0,.fv (.sl (aE (s.map rn))),.any,.any,.any,.any,.any,.any,.lsl 0 0 Mg.length 2,.int .i64 i]++replicate 109 .any,[.row true (aE (Mg.map rn))]⟩)
  (fun⟨i,_⟩=>M - i) (fun⟨i,Mg⟩=>i<=M/\MgI s Mg i/\Mg.length<=i) (0,[]) ?_ ?_ ?_
 .refine Weak.shut [0] ?_;change Weak _ ⟨_,[Ob.row false (aE (s.map rn))]⟩ _;refine Weak.fz 4 0 0 M 2 (aE (s.map rn)) rfl rfl (by omega) ?_;refine Weak.nil 11 2 (by decide) rfl ?_;refine fW [1] ?_ ?_
  .simp[bO,eT,cJ,aU,tks]
  simp[fM,fC,aU,cJ,bA,bh,aZ,bJ];simp[aE]
 .exact⟨dU _,MgI.start s,qp _⟩
 rintro⟨i,Mg⟩ ⟨h1,hI,ux⟩;obtain⟨K,hK⟩:=ax Mg.length;have rlm:=aX (Mg.map rn);rw[length_map,hK] at rlm;dsimp only at ux ⊢;rw[hK] at ux ⊢;refine cz rls ?_;refine bK ?_ ?_
 .intro g1 g2;obtain⟨⟨k,p0⟩,hx⟩: ∃ x,s[i]?=some x:=⟨_,qb (by omega)⟩;have Gs:(k,p0)∈s:=List.mem_of_getElem? hx;have ry:=db (l:=s.map rn) (i:=i) (by rw[length_map];omega);rw[show(s.map rn).getD i pB=rn (k,p0) by rw[qa,List.getElem?_map,hx];rfl] at ry;change _=[FV.sl (ak k),FV.sl (au (p0.map tn))] at ry;have hkc:=Ed _ Gs;have Il:=gM _ Gs;dsimp only at hkc Il;refine ah (bB g2 ry rls) ?_
  repeat refine ae ?_
  refine wl (α:=Nat×List Tm) (fun⟨j,p⟩=>⟨[.any,.any,.nilsl,.int .i64 0,.fv (.sl (aE (s.map rn))),.any,.any,.any,.any,.any,.any,.lsl 0 0 K 2,.int .i64 j,.ptr 1 0 0]++replicate 108 .any,[.row true (aE (Mg.map rn)),.box true [.fv (.sl (ak k)),.fv (.sl (au (p.map tn)))]]⟩)
   (fun⟨j,_⟩=>M - j) (fun⟨j,p⟩=>i<j/\j<=M/\(∀ x∈jt s i j,x.1=k)/\p=polyS' (jt s i j)) (i+1,p0) ?_ ?_ ?_
  .exact bP [0,1]
  .exact⟨by omega,by omega,fun x pH=>by rw[AR hx,qz] at pH;rw[pH],by rw[AR hx,wF hkc.2]⟩
  rintro⟨j,p⟩ ⟨uX,hjM,WZ,hp⟩;have rlp:=ay (p.map tn);rw[length_map] at rlp;refine aW ?_;refine dw (by kernel_rfl) ?_;refine ah rls ?_;refine bK ?_ ?_
  .intro g3 g4;obtain⟨⟨k2,p2⟩,hy⟩: ∃ x,s[j]?=some x:=⟨_,qb (by omega)⟩;have hym:(k2,p2)∈s:=List.mem_of_getElem? hy;have rz:=db (l:=s.map rn) (i:=j) (by rw[length_map];omega);rw[show(s.map rn).getD j pB=rn (k2,p2) by rw[qa,List.getElem?_map,hy];rfl] at rz;change _=[FV.sl (ak k2),FV.sl (au (p2.map tn))] at rz;have Ss:=Ed _ hym;have acz:=gM _ hym;dsimp only at Ss acz;have acA:=TE k2 k (fun l hl=>(acz.1 l hl).mono (by decide)) (fun l hl=>(Il.1 l hl).mono (by decide)) (by omega) (by omega);obtain⟨c,hc⟩:=ax (bT k2 k);rw[hc] at acA;simp -dsimp(disch:=omega) only[g4,rz,rls,IntKind.bits,Int.reduceToNat,Int.reducePow,Option.isNone_none,↓reduceIte,reduceCtorEq,reduceAdd,reduceMul,reduceSub,Nat.reduceBEq,reduceEqDiff,reduceLT,reduceLeDiff,ru]
   repeat refine ae ?_
   refine aM acA ?_;by_cases Ig:c=0
   .have e4:(c==0)=true:=by rw[Ig];rfl
    have agL:k2=k:=kv Ss.1 hkc.1 (by omega);have ec:=C2 (s:=s) (i:=i) (j:=j) (by omega) hy;have Gr:RcOk (jt s i j):=fun x hx=>Ed x (Hy hx)
    have iu:=Jv Gr (x:=(k2,p2)) Ss.2;rw[<-ec,<-hp] at iu;dsimp only at iu;have m1:=OU _ _ (wE (s:=s) (i:=i) (j:=j) (by omega));have m2:=OU _ _ (wE (s:=s) (i:=i) (j:=j+1) (by omega));have m3:=OU [(k2,p2)] _ (show([(k2,p2)]++_).Perm s from by
     have:=wE (s:=s) (i:=j) (j:=j+1) (by omega);rw[AR hy] at this;exact this)
    rw[wF Ss.2] at m3;rw[<-hp] at m1;rw[<-iu] at m2;have Sq:=aeP p p2 m1.1 m3.1 m1.2 m3.2 m2.2;obtain⟨p3,hp3⟩:=ax (nf (p++p2));rw[hp3] at Sq iu;refine ah e4 ?_;refine dw (by kernel_rfl) ?_;simp -dsimp(disch:=omega) only[rz,rls,IntKind.bits,Int.reduceToNat,Int.reducePow,Option.isNone_none,↓reduceIte,reduceCtorEq,reduceAdd,reduceMul,reduceSub,Nat.reduceBEq,reduceEqDiff,reduceLT,reduceLeDiff,ru]
    repeat refine ae ?_
    refine aM Sq ?_;refine ah KC ?_;refine aw (j+1,p3) ?_ ⟨by omega,by omega,fun x pH=>by
     rw[ec] at pH;rcases List.mem_append.1 pH with h9 | h9
     .exact WZ x h9
     rw[qz] at h9;rw[h9];exact agL,iu⟩
    exact bP [0,1]
   have e4:(c==0)=false:=by rw[qx];exact Ig
   have xC: ∀ y,s[j]?=some y->bT y.1 k≠0:=fun y tB=>by
    rw[hy] at tB;cases tB;dsimp only;omega
   refine ah e4 ?_;have OV:=hI.step Gh Ed uX (by omega) WZ xC;rw[<-hp] at OV;by_cases pd:p=[]
   .have e5:decide ((p.length:Int)>0)=false:=by rw[pd];rfl
    rw[if_pos pd] at OV;refine ah (bB g4 rlp e5) ?_;refine aw (j,Mg) ?_ ⟨by omega,OV,by show Mg.length<=j;omega⟩;exact bP [0]
   have Ec:0<p.length:=length_pos_iff.2 pd;have e5:decide ((p.length:Int)>0)=true:=BR;rw[if_neg pd] at OV;have cI:aE (Mg.map rn)++[[FV.sl (ak k),FV.sl (au (p.map tn))]]=aE ((Mg++[(k,p)]).map rn):=by
    rw[BM];exact jU _ (rn (k,p))
   have tk:=fI (l:=Mg.map rn) (n:=K) (by rw[length_map];omega);refine ah (kX g4 rlp e5 tk cI rlm) ?_
   repeat refine ae ?_
   refine aw (j,Mg++[(k,p)]) ?_ ⟨by omega,OV,by rw[qe,IA];omega⟩;exact bP [3]
  intro g3 g4;have xC: ∀ y,s[j]?=some y->bT y.1 k≠0:=fun y tB=>by
   rw[List.getElem?_eq_none (by omega)] at tB;cases tB
  have OV:=hI.step Gh Ed uX (by omega) WZ xC;rw[<-hp] at OV;by_cases pd:p=[]
  .have e5:decide ((p.length:Int)>0)=false:=by rw[pd];rfl
   rw[if_pos pd] at OV;refine ah (bB g4 rlp e5) ?_;refine aw (j,Mg) ?_ ⟨by omega,OV,by show Mg.length<=j;omega⟩;exact bP [0]
  have Ec:0<p.length:=length_pos_iff.2 pd;have e5:decide ((p.length:Int)>0)=true:=BR;rw[if_neg pd] at OV;have cI:aE (Mg.map rn)++[[FV.sl (ak k),FV.sl (au (p.map tn))]]=aE ((Mg++[(k,p)]).map rn):=by
   rw[BM];exact jU _ (rn (k,p))
  have tk:=fI (l:=Mg.map rn) (n:=K) (by rw[length_map];omega);refine ah (kX g4 rlp e5 tk cI rlm) ?_
  repeat refine ae ?_
  refine aw (j,Mg++[(k,p)]) ?_ ⟨by omega,OV,by rw[qe,IA];omega⟩;exact bP [3]
 intro g1 g2;have j6:i=s.length:=by omega
 rw[j6] at hI;have gv:=hI.done qR sk;rw[<-gv] at hR;subst hR;have e6:decide ((K:Int)>4000)=false:=qV;have tk:=fI (l:=Mg.map rn) (n:=K) (by rw[length_map];omega);refine ah (a8 g2 e6) ?_;refine Ph (vs:=[.lsl 0 0 K 2,.int .i64 0]) rfl ⟨b',b',b'⟩ (show qG [Ob.row true (aE (Mg.map rn))] [] (.tup [.lsl 0 0 K 2,.int .i64 0])=_ from ?_);exact j8 (a8 tk rlm)
theorem vo {L:List RR} (h:ja [L]=0):L.any d_=false/\L.length<=4000/\ ∀ r∈L,validB r.2=true:=by
 unfold ja at h;have h1:dM L=false:=by
  cases hb:dM L with
  | false=>rfl
  | true=>rw[if_pos (by simp[hb])] at h;omega
 rw[if_neg (by simp[h1])] at h;have h2:fY L=true:=by
  cases hv:fY L with
  | true=>rfl
  | false=>rw[if_neg (by simp[hv])] at h;omega
 unfold dM at h1;rw[Bool.or_eq_false_iff] at h1;exact⟨h1.2,by simpa using h1.1,fun r hr=>List.all_eq_true.1 h2 r hr⟩
noncomputable def ML (L:List RR):PV:=if ja [L]=0 then .tup [nG ((js (normL L)).map rn),.int .i64 0] else .tup [.fv (.sl []),.int .i64 (ja [L])]
theorem aeY (L:List RR) (aA:L.length<=1000000) (hp: ∀ r∈L,C1 r.2) (hc: ∀ r∈L,r.1.length<=1000000) (h:ja [L]=0->C4 L):
 Den Tryz.prog 35 [] [nG L] [] (ML L):=by
 have OW:=aar [L] (by simp) (fun l hl=>by rw[qz] at hl;rw[hl];exact aA) (fun l hl=>by rw[qz] at hl;rw[hl];exact hp) (fun l hl=>by rw[qz] at hl;rw[hl];exact hc)
 unfold ML
 have e:gS [L]=[[FV.sl (aE L)]]:=rfl
 rw[e] at OW
 by_cases h0:ja [L]=0
 .have W0:=aas L (h h0)
  unfold Qt at W0
  rw[if_neg (by rw[(vo h0).1];decide)] at W0
  rw[if_pos h0]
  rw[h0] at OW
  have e1:((0:Int) !=0)=false:=rfl
  refine dq Tryz.func35 14 0 ?_
  refine aW ?_
  refine aM OW ?_
  simp -dsimp(disch:=omega) only[e1,IntKind.bits,Int.reduceToNat,Int.reducePow,Option.isNone_none,↓reduceIte,reduceCtorEq,reduceAdd,reduceMul,reduceSub,Nat.reduceBEq,reduceEqDiff,reduceLT,reduceLeDiff,ru]
  refine aM W0 ?_
  refine a9 ?_
  exact bc rfl
 rw[if_neg h0]
 obtain⟨c,qX⟩:=ax (ja [L])
 rw[qX] at OW h0 ⊢
 have e1:(c !=0)=true:=by simpa using h0
 refine dq Tryz.func35 14 0 ?_
 refine aW ?_
 refine aM OW ?_
 simp -dsimp(disch:=omega) only[e1,IntKind.bits,Int.reduceToNat,Int.reducePow,Option.isNone_none,↓reduceIte,reduceCtorEq,reduceAdd,reduceMul,reduceSub,Nat.reduceBEq,reduceEqDiff,reduceLT,reduceLeDiff,ru]
 exact bc rfl
def minL (a b:List Raw):List Rat:=mg a ((b.map (fun r=>r.q*(-1))).map cn)
set_option maxHeartbeats 8000000
end Go.Proofs.YtiaaceeelfhdlaaGreat
