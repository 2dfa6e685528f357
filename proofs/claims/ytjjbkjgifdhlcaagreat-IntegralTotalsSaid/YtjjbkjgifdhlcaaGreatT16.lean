/- Plain:systems of seven inequalities in three variables,one of which occurs in one alone. -/
import Derived.Test.YtjjbkjgifdhlcaaGreatT15
import Derived.Test.YtjjbkjgifdhlcaaGreatT8
import Derived.Test.YtjjbkjgifdhlcaaGreatT14
import Derived.Test.YtjjbkjgifdhlcaaGreatT12
import Derived.Test.YtjjbkjgifdhlcaaGreatT13
import Derived.Test.YtjjbkjgifdhlcaaGreatT1
set_option linter.all false
open Nat (reduceAdd reduceLT reduceLeDiff)
open List (any_append append_assoc append_nil drop_eq_getElem_cons filter_append length_drop length_map length_pos_iff length_pos_of_mem length_take mem_cons_self mem_map mem_of_mem_drop replicate)
namespace Go.Pl
def uS (s:List (List Raw)) (v:Nat):Int:=((bT s v).length:Int)*(ba s v).length - (bT s v).length - (ba s v).length
structure Sw (k:Nat) (s:List (List Raw)):Prop where
 n3:bL s<=3
 c3:bL s=3->s.length<=7/\k<=14
 c2:bL s=2->s.length<=7/\k<=120
 c1:bL s=1->s.length<=12/\k<=1000
structure Sl (k:Nat) (s:List (List Raw)):Prop where
 n3:bL s<=3
 c3:bL s=3->s.length<=7/\k<=14
 c2:bL s=2->s.length<=12/\k<=120
 c1:bL s=1->s.length<=36/\k<=1000
theorem Sz.w {k:Nat} {s:List (List Raw)} (h:Sz k s):Sw k s:=⟨h.n3,fun e=>by have:=h.c3 e;omega,h.c2,h.c1⟩
theorem Sw.l {k:Nat} {s:List (List Raw)} (h:Sw k s):Sl k s:=⟨h.n3,h.c3,fun e=>by have:=h.c2 e;omega,fun e=>by have:=h.c1 e;omega⟩
theorem Sl.all {k:Nat} {s:List (List Raw)} (h:Sl k s) (hp:0<bL s):s.length<=36/\k<=1000:=by
 have h1:=h.n3;have h2:=h.c3;have h3:=h.c2;have h4:=h.c1;have:bL s=1\/bL s=2\/bL s=3:=by omega
 rcases this with h5 | h5 | h5
 .exact h4 h5
 .have:=h3 h5;omega
 have:=h2 h5;omega
theorem Sl.len {k:Nat} {s:List (List Raw)} (h:Sl k s) (hs:SysF k s):s.length<=36:=by
 cases s with
 | nil=>exact dk _
 | cons l t=>exact(h.all (mj (mem_cons_self ..) (hs.nc l (by simp)))).1
theorem Sl.lim {k:Nat} {s:List (List Raw)} (h:Sl k s) (hs:SysF k s): ∀ l∈s,LOk 1000 l:=fun l hl=>(hs.ok l hl).mono (h.all (mj hl (hs.nc l hl))).2
theorem Sw.len {k:Nat} {s:List (List Raw)} (h:Sw k s) (hs:SysF k s):s.length<=12:=by
 cases s with
 | nil=>exact dk _
 | cons l t=>
  have hp:0<bL (l::t):=mj (mem_cons_self ..) (hs.nc l (by simp));have h1:=h.n3;have h2:=h.c3;have h3:=h.c2;have h4:=h.c1;have:bL (l::t)=1\/bL (l::t)=2\/bL (l::t)=3:=by omega
  rcases this with h5 | h5 | h5
  .exact(h4 h5).1
  .have:=h3 h5;omega
  have:=h2 h5;omega
theorem Ab {k:Nat} {s:List (List Raw)} {v:Nat} (hs:SysF k s) (hz:Sw k s):(ff s v).length<=100:=by
 have h1:=bN s v;have h2:=hz.len hs;rw[oN];exact UW (by omega)
theorem RD {k:Nat} {s:List (List Raw)} {v:Nat} (hv:v<8) (hs:SysF k s) (ho:occ s v=true) (h5:bL s=1):ncs (ff s v)=[]:=by
 have h9: ∀ l∈s,l.length=9:=fun l hl=>(hs.ok l hl).len
 have h6:=rM hv hs ho;cases h8:ncs (ff s v) with
 | nil=>rfl
 | cons o t=>
  have sW:=(kO (i4 h9)).1 (show o∈ncs (ff s v) by rw[h8];simp);have:=mj sW.1 sW.2;omega
theorem Ad {k:Nat} {s:List (List Raw)} {v:Nat} (hv:v<8) (hs:SysF k s) (hz:Sw k s):(ncs (ff s v)).length<=12:=by
 have dP:(ncs (ff s v)).length<=(ff s v).length:=List.length_filter_le _ _;cases ho:occ s v with
 | false=>
  have h1:=hz.len hs;rw[(uG ho).1] at dP ⊢;omega
 | true=>
  have h1:=bN s v;have h2:=oN s v;have h3:=CZ hv ho;have h4:=hz.n3;have:bL s=1\/bL s=2\/bL s=3:=by omega
  rcases this with h5 | h5 | h5
  .rw[RD hv hs ho h5];exact dk _
  .have:=(hz.c2 h5).1;have:=Ej (p:=(bT s v).length) (q:=(ba s v).length) (r:=(ee s v).length) (by omega);omega
  have:=(hz.c3 h5).1;have:=Ej (p:=(bT s v).length) (q:=(ba s v).length) (r:=(ee s v).length) (by omega);omega
theorem RE {k:Nat} {s:List (List Raw)} {v:Nat} (hv:v<8) (hk:1<=k) (hs:SysF k s) (hz:Sl k s): ∀ o∈ff s v,¬aX o->LOk 1000 o:=by
 intro o ho hc;cases hoc:occ s v with
 | false=>
  rw[(uG hoc).1] at ho;exact hz.lim hs o ho
 | true=>
  have h6:=rM hv hs hoc;have h7:=mj ho hc;have h8:=hz.n3;have:k<=120:=by
   have:bL s=2\/bL s=3:=by omega
   rcases this with h5 | h5
   .exact(hz.c2 h5).2
   have:=(hz.c3 h5).2;omega
  exact(Ei hs.ok hk o ho).mono (by omega)
def GoodW (s:List (List Raw)):Prop:= ∃ k,1<=k/\SysF k s/\Sw k s/\(bL s=3->s.length<=5\/ ∃ u,u<8/\occ s u=true/\uS s u<0)
theorem GoodS.w {s:List (List Raw)} (h:GoodS s):GoodW s:=by
 obtain⟨k,hk,hs,hz⟩:=h;exact⟨k,hk,hs,hz.w,fun e=> .inl (hz.c3 e).1⟩
theorem GoodW.lim {s:List (List Raw)} (h:GoodW s): ∀ l∈s,LOk 1000 l:=by
 obtain⟨k,hk,hs,hz,_⟩:=h;exact hz.l.lim hs
theorem GoodW.len {s:List (List Raw)} (h:GoodW s):s.length<=12:=by
 obtain⟨k,hk,hs,hz,_⟩:=h;exact hz.len hs
theorem GoodW.nc {s:List (List Raw)} (h:GoodW s): ∀ l∈s,¬aX l:=by
 obtain⟨k,hk,hs,hz,_⟩:=h;exact hs.nc
theorem GoodW.feas {s:List (List Raw)} {v:Nat} (hv:v<8) (h:GoodW s) (hb:uI s v=false):dr (jm s v)=dr s:=by
 obtain⟨k,hk,hs,hz,_⟩:=h;rw[Bool.eq_iff_iff,eh,eh];exact C3 hv hs (fun hB=>by rw[(lD (fun l hl=>(hs.ok l hl).len)).2 hB] at hb;cases hb)
theorem GoodW.bad {s:List (List Raw)} {v:Nat} (hv:v<8) (h:GoodW s) (hb:uI s v=true):dr s=false:=by
 obtain⟨k,hk,hs,hz,_⟩:=h;exact mo.2 (Gu hv hs ((lD (fun l hl=>(hs.ok l hl).len)).1 hb))
theorem GoodW.step {s:List (List Raw)} {v:Nat} (hv:v<8) (h:GoodW s) (ho:occ s v=true) (Tg: ∀ u,u<8->occ s u=true->uS s v<=uS s u):GoodW (jm s v)/\bL (jm s v)<bL s:=by
 obtain⟨k,hk,hs,hz,h7⟩:=h;have hi:=p7 v hs;have h9: ∀ l∈s,l.length=9:=fun l hl=>(hs.ok l hl).len
 have hn:=rM hv hs ho;rw[<-rN (i4 h9) hi] at hn;have hl:=lC (i4 h9) hi;have dP:(ncs (ff s v)).length<=(ff s v).length:=List.length_filter_le _ _;have h1:=bN s v;have h2:=oN s v;have h4:=hz.n3;have hc:=Ad hv hs hz;refine⟨⟨8*k+8,by omega,LY hk hs hi,⟨by omega,fun h=>by omega,fun h=>?_,fun h=>?_⟩,fun h=>by omega⟩,hn⟩
 .have h5:bL s=3:=by omega
  have h6:=hz.c3 h5;refine⟨?_,by omega⟩;rcases h7 h5 with h8 | ⟨u,hu,hou,hcu⟩
  .have:=ZZ (p:=(bT s v).length) (q:=(ba s v).length) (r:=(ee s v).length) (by omega);omega
  have sW:=Tg u hu hou;have e:(((ba s v).length*(bT s v).length:Nat):Int)=((bT s v).length:Int)*(ba s v).length:=by rw[Int.natCast_mul,Int.mul_comm]
  unfold uS at sW hcu;omega
 refine⟨by omega,?_⟩;have:bL s=2\/bL s=3:=by omega
 rcases this with h5 | h5
 .have:=hz.c2 h5;omega
 have:=hz.c3 h5;omega
def GoodR (s:List (List Raw)):Prop:= ∃ k,1<=k/\SysF k s/\Sl k s
theorem GoodW.r {s:List (List Raw)} (h:GoodW s):GoodR s:=by
 obtain⟨k,hk,hs,hz,_⟩:=h;exact⟨k,hk,hs,hz.l⟩
theorem GoodR.len9 {s:List (List Raw)} (h:GoodR s): ∀ l∈s,l.length=9:=by
 obtain⟨k,hk,hs,hz⟩:=h;exact fun l hl=>(hs.ok l hl).len
theorem GoodR.lim {s:List (List Raw)} (h:GoodR s): ∀ l∈s,LOk 1000 l:=by
 obtain⟨k,hk,hs,hz⟩:=h;exact hz.lim hs
theorem GoodR.len {s:List (List Raw)} (h:GoodR s):s.length<=36:=by
 obtain⟨k,hk,hs,hz⟩:=h;exact hz.len hs
theorem GoodR.nc {s:List (List Raw)} (h:GoodR s): ∀ l∈s,¬aX l:=by
 obtain⟨k,hk,hs,hz⟩:=h;exact hs.nc
theorem GoodR.feas {s:List (List Raw)} {v:Nat} (hv:v<8) (h:GoodR s) (hb:uI s v=false):dr (jm s v)=dr s:=by
 obtain⟨k,hk,hs,hz⟩:=h;rw[Bool.eq_iff_iff,eh,eh];exact C3 hv hs (fun hB=>by rw[(lD (fun l hl=>(hs.ok l hl).len)).2 hB] at hb;cases hb)
theorem GoodR.bad {s:List (List Raw)} {v:Nat} (hv:v<8) (h:GoodR s) (hb:uI s v=true):dr s=false:=by
 obtain⟨k,hk,hs,hz⟩:=h;exact mo.2 (Gu hv hs ((lD (fun l hl=>(hs.ok l hl).len)).1 hb))
theorem Vh {p q r:Nat} (h:r+p+q<=12):r+q*p<=36:=by
 have h2:p=0\/p=1\/p=2\/p=3\/p=4\/p=5\/p=6\/p=7\/p=8\/p=9\/p=10\/p=11\/p=12:=by omega
 rcases h2 with h1 | h1 | h1 | h1 | h1 | h1 | h1 | h1 | h1 | h1 | h1 | h1 | h1<;>subst h1<;>omega
theorem GoodR.step {s:List (List Raw)} {v:Nat} (hv:v<8) (h:GoodR s):GoodR (jm s v):=by
 obtain⟨k,hk,hs,hz⟩:=h;have hi:=p7 v hs;cases ho:occ s v with
 | false=>
  rw[NO hs ho hi];exact⟨k,hk,hs,hz⟩
 | true=>
  have h9: ∀ l∈s,l.length=9:=fun l hl=>(hs.ok l hl).len
  have hn:=rM hv hs ho;rw[<-rN (i4 h9) hi] at hn;have hl:=lC (i4 h9) hi;have dP:(ncs (ff s v)).length<=(ff s v).length:=List.length_filter_le _ _;have h1:=bN s v;have h2:=oN s v;have h4:=hz.n3;refine⟨8*k+8,by omega,LY hk hs hi,⟨by omega,fun h=>by omega,fun h=>?_,fun h=>?_⟩⟩
  .have h5:bL s=3:=by omega
   have h6:=hz.c3 h5;have:=Ej (p:=(bT s v).length) (q:=(ba s v).length) (r:=(ee s v).length) (by omega);omega
  have:bL s=2\/bL s=3:=by omega
  rcases this with h5 | h5
  .have:=hz.c2 h5;have:=Vh (p:=(bT s v).length) (q:=(ba s v).length) (r:=(ee s v).length) (by omega);omega
  have:=hz.c3 h5;have:=Ej (p:=(bT s v).length) (q:=(ba s v).length) (r:=(ee s v).length) (by omega);omega
theorem Oe {s:List (List Raw)} {v w:Nat} (hg:GoodR s) (hv:v<8) (hw:w<8) (h:occ (jm s v) w=true):w≠v/\occ s w=true:=by
 have h9:=hg.len9;obtain⟨k,hk,hs,hz⟩:=hg;have h2:=(yE (i4 h9) (p7 v hs) hw).1 h;refine⟨fun he=>?_,LV hw h9 h2⟩;subst he;rw[LX hw hs] at h2;cases h2
theorem GoodR.cnf {s:List (List Raw)} (h:GoodR s): ∀ l∈s,IsCn l:=by
 have h9:=h.len9;obtain⟨k,hk,hs,hz⟩:=h;exact fun l hl=>by rw[<-hs.nm l hl];exact mn (h9 l hl)
theorem GoodR.self {s:List (List Raw)} (h:GoodR s):sysL s []=s:=by
 have h9:=h.len9;obtain⟨k,hk,hs,hz⟩:=h;exact(hs.self.eq h9).symm
structure Vi (cs:List (List Raw)):Prop where
 cnf: ∀ l∈cs,IsCn l
 nc: ∀ l∈cs,¬aX l
 ok: ∀ l∈cs,LOk 1000 l
 len:cs.length<=37
 good:GoodR (sysL cs [])
theorem GoodR.pre {s:List (List Raw)} (h:GoodR s):Vi s:=⟨h.cnf,h.nc,h.lim,by have:=h.len;omega,by rw[h.self];exact h⟩
theorem Pre.r {cs:List (List Raw)} (h:Pre cs):Vi cs:=⟨h.cnf,h.nc,h.ok,by have:=h.len;omega,h.good.w.r⟩
structure CsW (cs:List (List Raw)):Prop where
 ok: ∀ l∈cs,LOk 10000 l
 len:cs.length<=100
 nc:(ncs cs).length<=12
 good:GoodW (sysL cs [])
 nok: ∀ l∈cs,¬aX l->LOk 1000 l
theorem CsOk.w {cs:List (List Raw)} (h:CsOk cs):CsW cs:=⟨h.ok,h.len,h.nc,h.good.w,h.nok⟩
end Go.Pl
namespace Go.Proofs.YtjjbkjgifdhlcaaGreat
open Go.AM Go.Pl
set_option maxRecDepth 100000
set_option maxHeartbeats 4000000
theorem qC {s:List (List Raw)} {v:Nat} {x:List Raw} (h:0<co x v):bT (s++[x]) v=bT s v++[cJ v x]:=by simp[bT,filter_append,h]
theorem g8 {s:List (List Raw)} {v:Nat} {x:List Raw} (h: ¬0<co x v):bT (s++[x]) v=bT s v:=by simp[bT,filter_append,h]
theorem nV {s:List (List Raw)} {v:Nat} {x:List Raw} (h:co x v<0):ba (s++[x]) v=ba s v++[cJ v x]:=by simp[ba,filter_append,h]
theorem gj {s:List (List Raw)} {v:Nat} {x:List Raw} (h: ¬co x v<0):ba (s++[x]) v=ba s v:=by simp[ba,filter_append,h]
theorem oY {s:List (List Raw)} {v:Nat} {x:List Raw} (h:co x v=0):ee (s++[x]) v=ee s v++[x]:=by simp[ee,filter_append,h]
theorem rZ {s:List (List Raw)} {v:Nat} {x:List Raw} (h: ¬co x v=0):ee (s++[x]) v=ee s v:=by simp[ee,filter_append,h]
def uT (hi lo:List (List Raw)):List (List Raw):=hi.flatMap fun u=>lo.map fun l=>bG u l
theorem JN {hi lo:List (List Raw)} {u:List Raw}:uT (hi++[u]) lo=uT hi lo++lo.map (bG u):=by simp[uT]
def BV (u:List Raw) (lo:List (List Raw)):Bool:=lo.any (fun l=>cy (bG u l)&&decide (co (bG u l) 8<=0))
def RF (hi lo:List (List Raw)):Bool:=hi.any (fun u=>BV u lo)
theorem Og {u l:List Raw} {lo:List (List Raw)}:BV u (lo++[l])=(BV u lo||(cy (bG u l)&&decide (co (bG u l) 8<=0))):=by simp[BV,any_append]
theorem Oh {u:List Raw} {hi lo:List (List Raw)}:RF (hi++[u]) lo=(RF hi lo||BV u lo):=by simp[RF,any_append]
theorem RG {α:Type} {p:α->Bool} {l:List α} {i:Nat} (h:(l.take i).any p=true):l.any p=true:=by
 rw[qpb] at h ⊢;obtain⟨x,hx,h2⟩:=h;exact⟨x,xW hx,h2⟩
theorem fZ {α:Type} {p:α->Bool} {l:List α} {x:α} (hx:x∈l) (h:p x=true):l.any p=true:=List.any_eq_true.2 ⟨x,hx,h⟩
theorem RH {k:Nat} {s:List (List Raw)} {v:Nat} (hs:SysF k s) (hb: ¬NN s v): ¬Gp (ff s v):=by
 rintro⟨o,ho,hc,hn⟩;rcases gO.1 ho with⟨h1,_⟩ | ⟨l,hl,u,hu,h1,h2,rfl⟩
 .exact hs.nc o h1 hc
 refine hb ⟨cJ v u,fI.2 ⟨u,hu,h2,rfl⟩,cJ v l,gN.2 ⟨l,hl,h1,rfl⟩,hc,?_⟩;grind
theorem ajL (k:Nat) (s:List (List Raw)) (v:Nat) (hv:v<8) (hk:1<=k) (hs:SysF k s) (hz:Sw k s):
 Den Tryz.prog 256 [] [.fv (.sl (ai s)),.int .i64 v] [] (if uI s v then .tup [.fv (.sl []),.bool false] else .tup [.fv (.sl (ai (jm s v))),.bool true]):=by
 have f_:=hz.l.lim hs
 have h9: ∀ l∈s,l.length=9:=fun l hl=>(f_ l hl).len
 have Pq:=hz.len hs
 have qX: ∀ b∈bT s v,LOk 2001 b:=wj f_ (by decide)
 have mN: ∀ b∈ba s v,LOk 2001 b:=rL f_ (by decide)
 have kE:=bN s v
 obtain⟨n,b8⟩:=ax s.length
 have rl:=aq s
 rw[b8] at rl Pq kE
 obtain⟨R,hR⟩: ∃ R:PV,(if uI s v then .tup [.fv (.sl []),.bool false] else .tup [.fv (.sl (ai (jm s v))),.bool true])=R:=⟨_,rfl⟩
 rw[hR]
 have pB:=zg (-1) (by decide)
 rw[bt] at pB
 refine dq Tryz.func256 86 0 ?_
 refine bw rl ?_
 refine wl (α:=Nat×List (List Raw)×List (List Raw)×List (List Raw)) (fun⟨i,lo,hi,out⟩=>⟨[.fv (.sl (ai s)),.int .i64 v,.any,.any,.nilsl,.bool false,.lsl 0 0 lo.length 27,.lsl 1 0 hi.length 27,.lsl 2 0 out.length 27,.any,.any,.any,.any,.any,.any,.any,.any,.any,.any,.any,.fv (.sl (ai s)),.int .i64 n,.int .i64 i]++replicate 65 .any,[.row true (ai lo),.row true (ai hi),.row true (ai out)]⟩)
  (fun⟨i,_⟩=>n - i) (fun⟨i,lo,hi,out⟩=>i<=n/\lo=bT (s.take i) v/\hi=ba (s.take i) v/\out=ee (s.take i) v) (0,[],[],[]) ?_ ?_ ?_
 .refine Weak.nil 6 27 (by decide) rfl ?_
  refine Weak.nil 7 27 (by decide) rfl ?_
  refine Weak.nil 8 27 (by decide) rfl ?_
  refine eH [0,1,2] ?_ ?_
  .simp[bh,dF,cw]
  simp[d_,fD]
  simp[ai]
 .exact⟨dk _,rfl,rfl,rfl⟩
 rintro⟨i,lo,hi,out⟩ ⟨nj,ej,eC,cG⟩
 have dQ:=bN (s.take i) v
 rw[<-ej,<-eC,<-cG,length_take,b8] at dQ
 obtain⟨L1,KL⟩:=ax lo.length
 obtain⟨L2,DW⟩:=ax hi.length
 obtain⟨L3,KM⟩:=ax out.length
 have Fj:=aq lo
 have sY:=aq hi
 have Pr:=aq out
 dsimp only
 rw[KL] at dQ Fj ⊢
 rw[DW] at dQ sY ⊢
 rw[KM] at dQ Pr ⊢
 have Xa:=bc (ls:=lo) (n:=L1) (by omega)
 have Xb:=bc (ls:=hi) (n:=L2) (by omega)
 have KN:=bc (ls:=out) (n:=L3) (by omega)
 refine aW ?_
 refine bM ?_ ?_
 .intro h1 h2
  have cL:=eZ (cs:=s) (i:=i) (by omega)
  have aY:=bC (ls:=s) (i:=i) (by omega)
  have r1:=aV s i
  obtain⟨x,jn⟩:=ax (s.getD i [])
  rw[jn] at aY r1 cL
  have hx:=f_ x aY
  have lx:=hx.len
  have jG:=ay lx
  have fx:=aE x
  have gx:=ah x
  have ji:=aj lx
  by_cases h0:co x v=0
  .have kg:=QK x v hx hv h0
   have pe:=g8 (s:=s.take i) (v:=v) (x:=x) (by grind)
   have sF:=gj (s:=s.take i) (v:=v) (x:=x) (by grind)
   have fj:=oY (s:=s.take i) h0
   have bO:=bI out x
   unfold FL RL at kg
   obtain⟨zs,Uj⟩:=ax ((x.map Raw.q).map cn)
   have nu:zs.length=9:=by rw[<-Uj];simp[lx]
   have gz:=ah zs
   rw[Uj] at kg
   have e1:decide ((0:Int)>0)=false:=rfl
   have e2:decide ((0:Int)<0)=false:=rfl
   refine bm (eU h2 r1 jG fx gx lx ji) ?_
   repeat refine ag ?_
   refine gv kg ?_
   refine bm (bu gz nu e1 gx lx ji jG (bA KN bO Pr)) ?_
   repeat refine ag ?_
   refine aA (i+1,lo,hi,out++[x]) ?_ ⟨by omega,by rw[cL,pe,ej],by rw[cL,sF,eC],by rw[cL,fj,cG]⟩
   exact bx [0,1,6]
  have kg:=Yp x v hx hv h0
  have kd:(cJ v x).length=9:=eu lx
  have fj:=rZ (s:=s.take i) h0
  unfold FL RL at kg
  change Den Tryz.prog 72 [] [.agg (flat x),.int .i64 v] [] (.tup [.agg (flat (cJ v x)),.int .i64 (fQ (x.getD v rz).q),.int .i64 0]) at kg
  by_cases hp:0<co x v
  .have pe:=qC (s:=s.take i) hp
   have sF:=gj (s:=s.take i) (v:=v) (x:=x) (by grind)
   have bO:=bI lo (cJ v x)
   obtain⟨y,hy⟩:=ax (cJ v x)
   rw[hy] at kg kd pe bO
   have gy:=ah y
   have kB:=ay kd
   have gf:=aj kd
   rw[show fQ (x.getD v rz).q=1 from lB hp] at kg
   have e1:decide ((1:Int)>0)=true:=rfl
   refine bm (eU h2 r1 jG fx gx lx ji) ?_
   repeat refine ag ?_
   refine gv kg ?_
   refine bm (bu gy kd e1 gf kB Xa bO Fj) ?_
   repeat refine ag ?_
   refine aA (i+1,lo++[y],hi,out) ?_ ⟨by omega,by rw[cL,pe,ej],by rw[cL,sF,eC],by rw[cL,fj,cG]⟩
   exact bx [6,1,2]
  have iw:co x v<0:=by grind
  have pe:=g8 (s:=s.take i) (v:=v) (x:=x) hp
  have sF:=nV (s:=s.take i) iw
  have bO:=bI hi (cJ v x)
  obtain⟨y,hy⟩:=ax (cJ v x)
  rw[hy] at kg kd sF bO
  have gy:=ah y
  have kB:=ay kd
  have gf:=aj kd
  rw[show fQ (x.getD v rz).q= -1 from oK iw] at kg
  have e1:decide ((-1:Int)>0)=false:=rfl
  have e2:decide ((-1:Int)<0)=true:=rfl
  refine bm (eU h2 r1 jG fx gx lx ji) ?_
  repeat refine ag ?_
  refine gv kg ?_
  refine bm (bu gy kd e1 e2 gf kB Xb (aB bO sY)) ?_
  repeat refine ag ?_
  refine aA (i+1,lo,hi++[y],out) ?_ ⟨by omega,by rw[cL,pe,ej],by rw[cL,sF,eC],by rw[cL,fj,cG]⟩
  exact bx [0,6,2]
 intro h1 h2
 have f0:i=n:=by omega
 have eO:s.take i=s:=dm (by omega)
 rw[eO] at ej eC cG
 have Iz:uI s v=RF hi lo:=by rw[ej,eC];rfl
 have jg:ff s v=out++uT hi lo:=by rw[ej,eC,cG];rfl
 have Il: ∀ b∈lo,LOk 2001 b:=by rw[ej];exact qX
 have Bh: ∀ b∈hi,LOk 2001 b:=by rw[eC];exact mN
 have Tw:=Ab (v:=v) hs hz
 rw[jg,qe,KM] at Tw
 clear ej eC cG
 refine ae h2 ?_
 refine aM pB ?_
 refine ae @append_nil.{0} ?_
 repeat refine ag ?_
 obtain⟨ng,Xc⟩:=ax (decide (((-1:Int):Rat).num<0))
 obtain⟨nn,abv⟩:=ax (N ((-1:Int):Rat).num.natAbs)
 obtain⟨nd,oh⟩:=ax (N ((-1:Int):Rat).den)
 rw[Xc,abv,oh]
 have sC: ∀ b:List Raw,LOk 2001 b->Den Tryz.prog 135 [] [RL b,.agg [.bool ng,.fv nn,.fv nd]] [] (RL (cV b)):=fun b hb=>by
  have:=Lz b (cn ((-1:Int):Rat)) (hb.mono (by decide)) (bj (Bd.mono (show Bd 1 ((-1:Int):Rat) from⟨by decide,by decide⟩) (by decide)));rw[cu] at this;change Den Tryz.prog 135 [] [RL b,FR ((-1:Int):Rat)] [] (RL (cV b)) at this;rw[bt,Xc,abv,oh] at this;exact this
 have hca: ∀ u l:List Raw,LOk 2001 u->LOk 2001 l->Den Tryz.prog 162 [] [RL u,RL (cV l)] [] (RL (bG u l)):=fun u l hu hl=>
  Yv u (cV l) (hu.mono (by decide)) ((mi hl (by decide)).mono (by decide))
 clear Xc abv oh pB
 refine wl (α:=Nat×List (List Raw)) (fun⟨j,gw⟩=>⟨[.fv (.sl (ai s)),.int .i64 v,.any,.any,.nilsl,.bool false,.lsl 0 0 L1 27,.lsl 1 0 L2 27,.lsl 2 0 gw.length 27,.any,.any,.any,.any,.any,.ptr 3 0 0]++replicate 38 .any++[.lsl 1 0 L2 27,.int .i64 L2,.int .i64 j]++replicate 32 .any,[.row true (ai lo),.row true (ai hi),.row true (ai gw),.box true [.bool ng,.fv nn,.fv nd]]⟩)
  (fun⟨j,_⟩=>L2 - j) (fun⟨j,gw⟩=>j<=L2/\gw=out++uT (hi.take j) lo/\RF (hi.take j) lo=false) (0,out) ?_ ?_ ?_
 .exact bx [0,1,2,3]
 .exact⟨dk _,by simp[uT],rfl⟩
 rintro⟨j,gw⟩ ⟨hj,fE,eI⟩
 obtain⟨M,hM⟩:=ax gw.length
 dsimp only
 rw[hM]
 refine aW ?_
 refine bM ?_ ?_
 .intro h3 h4
  have cL:=eZ (cs:=hi) (i:=j) (by omega)
  have aY:=bC (ls:=hi) (i:=j) (by omega)
  have r1:=aV hi j
  obtain⟨u,Tx⟩:=ax (hi.getD j [])
  rw[Tx] at aY r1 cL
  have hu:=Bh u aY
  have lu:=hu.len
  have Xd:=ay lu
  have fu:=aE u
  have gu:=ah u
  have Bu:=aj lu
  refine bm (eU h4 r1 Xd fu gu lu sY) ?_
  repeat refine ag ?_
  refine wl (α:=Nat×List (List Raw)) (fun⟨q,jj⟩=>⟨[.fv (.sl (ai s)),.int .i64 v,.any,.any,.nilsl,.bool false,.lsl 0 0 L1 27,.lsl 1 0 L2 27,.lsl 2 0 jj.length 27,.any,.any,.any,.any,.any,.ptr 3 0 0,.any,.ptr 4 0 0]++replicate 36 .any++[.lsl 1 0 L2 27,.int .i64 L2,.int .i64 j,.any,.any,.any,.lsl 0 0 L1 27,.int .i64 L1,.int .i64 q]++replicate 26 .any,[.row true (ai lo),.row true (ai hi),.row true (ai jj),.box true [.bool ng,.fv nn,.fv nd],.box true (flat u)]⟩)
   (fun⟨q,_⟩=>L1 - q) (fun⟨q,jj⟩=>q<=L1/\jj=gw++(lo.take q).map (bG u)/\BV u (lo.take q)=false) (0,gw) ?_ ?_ ?_
  .exact ou [0,1,2,3,4]
  .exact⟨dk _,by simp,rfl⟩
  rintro⟨q,jj⟩ ⟨hq,yV,M6⟩
  have hM3:jj.length<=100:=by
   have e1:jj.length=gw.length+q:=by rw[yV];simp;omega
   have e2:gw.length=L3+(hi.take j).length*lo.length:=by
    rw[fE,qe,KM];unfold uT;rw[gP]
   have e3:(uT hi lo).length=hi.length*lo.length:=by unfold uT;rw[gP]
   have e4:(hi.take j).length=j:=by rw[length_take];omega
   rw[e3] at Tw;rw[e4] at e2;have e5:(j+1)*lo.length<=hi.length*lo.length:=qn _ (by omega);rw[Nat.add_mul] at e5;omega
  obtain⟨M3,Tz⟩:=ax jj.length
  have Ps:=aq jj
  rw[Tz] at hM3 Ps
  dsimp only
  rw[Tz]
  refine aW ?_
  refine bM ?_ ?_
  .intro h5 h6
   have ID:=eZ (cs:=lo) (i:=q) (by omega)
   have IE:=bC (ls:=lo) (i:=q) (by omega)
   have r3:=aV lo q
   obtain⟨l,nk⟩:=ax (lo.getD q [])
   rw[nk] at IE r3 ID
   have hl:=Il l IE
   have ll:=hl.len
   have Zm:=ay ll
   have fl:=aE l
   have gl:=ah l
   have wY:=aj ll
   have I3:=sC l hl
   have I1:=hca u l hu hl
   have ei:=ew ll
   have fr:=d7 lu ll
   have yr:=Og (u:=u) (l:=l) (lo:=lo.take q)
   have abw:=rK hu hl (by decide)
   have bO:=bI jj (bG u l)
   have hmp:(lo.take (q+1)).map (bG u)=(lo.take q).map (bG u)++[bG u l]:=by rw[ID,tY];rfl
   have Xe:BV u (lo.take (q+1))=true->uI s v=true:=fun hb=>by
    rw[Iz];exact fZ aY (RG hb)
   obtain⟨nl,abx⟩:=ax (cV l)
   obtain⟨d,hd⟩:=ax (bG u l)
   rw[abx] at I3 I1 ei
   rw[hd] at I1 fr yr abw bO hmp
   have gnl:=ah nl
   have gd:=ah d
   have Pu:=aj fr
   have Zn:=ay fr
   have I':=jY fr
   have h74:=QZ d (abw.mono (by decide))
   have fM:=nF (d.getD 8 rz) ((abw.at 8).mono (by decide))
   have nv:co d 8=(d.getD 8 rz).q:=rfl
   have KN:=bc (ls:=jj) (n:=M3) (by omega)
   obtain⟨r,hr⟩:=ax (d.getD 8 rz)
   rw[hr] at fM I' nv
   unfold Raw.v at fM
   obtain⟨b,hb⟩:=ax (cy d)
   rw[hb] at h74 yr
   unfold RL at I3 I1 h74
   refine bm (dN h6 r3 Zm fl gl ll) ?_
   repeat refine ag ?_
   refine dw (by kernel_rfl) ?_
   refine ae (dN Bu wY gu lu gl ll) ?_
   repeat refine ag ?_
   refine gv I3 ?_
   refine vG ?_
   repeat refine ag ?_
   refine gv I1 ?_
   refine bm (bA gd fr Pu) ?_
   repeat refine ag ?_
   refine gv h74 ?_
   cases b with
   | true=>
    refine bm (bA I' gd fr) ?_
    repeat refine ag ?_
    refine aM fM ?_;refine ae @append_nil.{0} ?_;refine bM ?_ ?_
    .intro g1 g2;have hv:BV u (lo.take (q+1))=true:=by
      have dP:r.q<=0:=by
       have:=@jW r.q;grind
      rw[ID,yr,nv,M6,f3 dP];rfl
     rw[if_pos (Xe hv)] at hR;subst hR;refine ae g2 ?_;refine a_ rfl
    .intro g1 g2;have hv:BV u (lo.take (q+1))=false:=by
      have dP: ¬r.q<=0:=by
       have:=@jW r.q;grind
      rw[ID,yr,nv,M6,jI dP];rfl
     refine bm (bu g2 gd fr Pu Zn KN bO Ps) ?_
     repeat refine ag ?_
     refine aA (q+1,jj++[d]) ?_ ⟨by omega,by rw[hmp,yV,append_assoc],hv⟩;exact ou [0,1,8,3,4]
   | false=>
    have hv:BV u (lo.take (q+1))=false:=by rw[ID,yr,M6];rfl
    refine bm (eU gd fr Pu Zn KN bO Ps) ?_
    repeat refine ag ?_
    refine aA (q+1,jj++[d]) ?_ ⟨by omega,by rw[hmp,yV,append_assoc],hv⟩;exact ou [0,1,8,3,4]
  intro h5 h6
  have hqe:q=L1:=by omega
  have KO:lo.take q=lo:=dm (by omega)
  rw[KO] at yV M6
  refine ae h6 ?_
  refine aA (j+1,jj) ?_ ⟨by omega,by rw[cL,JN,yV,fE,append_assoc],by rw[cL,Oh,eI,M6];rfl⟩
  exact bx [0,1,2,3]
 intro h3 h4
 have Nc:j=L2:=by omega
 have wX:hi.take j=hi:=dm (by omega)
 rw[wX] at fE eI
 rw[<-jg] at fE
 rw[Iz,eI,if_neg (by simp)] at hR
 have hbf: ¬NN s v:=fun hb=>by
  have:=(lD h9).2 hb;rw[Iz,eI] at this;cases this
 have PW:eg gw=false:=by
  have h9o: ∀ o∈gw,o.length=9:=by rw[fE];exact i4 h9
  cases Nd:eg gw with
  | false=>rfl
  | true=>exact absurd (by have:=(k5 h9o).1 Nd;rwa [fE] at this) (RH hs hbf)
 have pn:=Z3 gw (by rw[fE];exact fun o ho=>(Ei f_ (by decide) o ho).mono (by decide)) (by
  have:=Ab (v:=v) hs hz;rw[fE];omega) (by rw[fE];exact RE hv hk hs hz.l) (by rw[fE];exact Ad hv hs hz)
 rw[PW,if_neg (by simp)] at pn
 have Pv:=aq gw
 have tk5:=bc (ls:=gw) (n:=M) (by omega)
 have dM:jm s v=sysL gw []:=by rw[fE];rfl
 rw[dM] at hR
 subst hR
 rw[hM] at Pv
 refine ae h4 ?_
 refine gp pn (by simp[bJ,eT,eo,dZ,Pv,tk5]) ?_
 refine ae @append_nil.{0} ?_
 exact a_ rfl
theorem ajM (s:List (List Raw)) (v:Nat) (hv:v<8) (hg: ∀ l∈s,LOk 1000 l) (hn:s.length<=1000):
 Den Tryz.prog 255 [] [.fv (.sl (ai s)),.int .i64 v] [] (.tup [.int .i64 (((bT s v).length:Int)*(ba s v).length - (bT s v).length - (ba s v).length),.bool (occ s v)]):=by
 obtain⟨n,b8⟩:=ax s.length
 have rl:=aq s
 rw[b8] at rl hn
 have kE:=bN s v
 have Co:occ s v=decide (((bT s v).length:Int)+(ba s v).length>0):=by
  cases ho:occ s v with
  | false=>
   obtain⟨_,h1,h2⟩:=uG ho;rw[h1,h2];rfl
  | true=>
   obtain⟨l,hl,h0⟩:=eP.1 ho;symm;refine f3 ?_;by_cases hp:0<co l v
   .have:cJ v l∈bT s v:=gN.2 ⟨l,hl,hp,rfl⟩;have:=length_pos_of_mem this;omega
   have:cJ v l∈ba s v:=fI.2 ⟨l,hl,by grind,rfl⟩;have:=length_pos_of_mem this;omega
 rw[Co]
 obtain⟨A,hA⟩:=ax ((bT s v).length)
 obtain⟨C,hC⟩:=ax ((ba s v).length)
 rw[hA,hC] at kE ⊢
 refine dq Tryz.func255 39 0 ?_
 refine bw rl ?_
 refine wl (α:=Nat×Nat×Nat) (fun⟨i,a,c⟩=>⟨[.fv (.sl (ai s)),.int .i64 v,.any,.any,.int .i64 0,.bool false,.int .i64 a,.int .i64 c,.any,.any,.fv (.sl (ai s)),.int .i64 n,.int .i64 i]++replicate 28 .any,[]⟩)
  (fun⟨i,_⟩=>n - i) (fun⟨i,a,c⟩=>i<=n/\a=(bT (s.take i) v).length/\c=(ba (s.take i) v).length) (0,0,0) ?_ ?_ ?_
 .exact bx []
 .exact⟨dk _,rfl,rfl⟩
 rintro⟨i,a,c⟩ ⟨hi,ha,hc⟩
 have dQ:=bN (s.take i) v
 rw[<-ha,<-hc,length_take,b8] at dQ
 refine aW ?_
 refine bM ?_ ?_
 .intro h1 h2
  have cL:=eZ (cs:=s) (i:=i) (by omega)
  have aY:=bC (ls:=s) (i:=i) (by omega)
  have r1:=aV s i
  obtain⟨x,jn⟩:=ax (s.getD i [])
  rw[jn] at aY r1 cL
  have hx:=hg x aY
  have lx:=hx.len
  have jG:=ay lx
  have fx:=aE x
  have gx:=ah x
  have ji:=aj lx
  have dS:=b_ (rs:=x) (i:=v) (by omega)
  have fM:=nF (x.getD v rz) ((hx.at v).mono (by decide))
  have nv:co x v=(x.getD v rz).q:=rfl
  obtain⟨r,hr⟩:=ax (x.getD v rz)
  rw[hr] at dS fM nv
  unfold Raw.v at fM
  rcases kZ r.q with hq | hq | hq
  .have iw:co x v<0:=by rw[nv,<-iB,hq];decide
   have pe:=g8 (s:=s.take i) (v:=v) (x:=x) (by grind)
   have sF:=nV (s:=s.take i) iw
   rw[hq] at fM
   have e1:((-1:Int)==1)=false:=rfl
   have e2:((-1:Int)== -1)=true:=rfl
   refine bm (eU h2 r1 jG fx gx lx dS) ?_
   repeat refine ag ?_
   refine aM fM ?_
   refine ae (bA e1 e2 @append_nil.{0}) ?_
   repeat refine ag ?_
   refine aA (i+1,a,c+1) ?_ ⟨by omega,by rw[cL,pe,ha],by rw[cL,sF,qe,<-hc];rfl⟩
   exact bx []
  .have h0:co x v=0:=by rw[nv,<-a9,hq]
   have pe:=g8 (s:=s.take i) (v:=v) (x:=x) (by grind)
   have sF:=gj (s:=s.take i) (v:=v) (x:=x) (by grind)
   rw[hq] at fM
   have e1:((0:Int)==1)=false:=rfl
   have e2:((0:Int)== -1)=false:=rfl
   refine bm (eU h2 r1 jG fx gx lx dS) ?_
   repeat refine ag ?_
   refine aM fM ?_
   refine ae (bA e1 e2 @append_nil.{0}) ?_
   repeat refine ag ?_
   refine aA (i+1,a,c) ?_ ⟨by omega,by rw[cL,pe,ha],by rw[cL,sF,hc]⟩
   exact bx []
  have hp:0<co x v:=by rw[nv,<-jW,hq];decide
  have pe:=qC (s:=s.take i) hp
  have sF:=gj (s:=s.take i) (v:=v) (x:=x) (by grind)
  rw[hq] at fM
  have e1:((1:Int)==1)=true:=rfl
  refine bm (eU h2 r1 jG fx gx lx dS) ?_
  repeat refine ag ?_
  refine aM fM ?_
  refine ae (aB e1 @append_nil.{0}) ?_
  repeat refine ag ?_
  refine aA (i+1,a+1,c) ?_ ⟨by omega,by rw[cL,pe,qe,<-ha];rfl,by rw[cL,sF,hc]⟩
  exact bx []
 intro h1 h2
 have eO:s.take i=s:=dm (by omega)
 rw[eO,hA] at ha
 rw[eO,hC] at hc
 subst ha hc
 have yu:(0:Int)<=(a:Int)*(c:Int)/\(a:Int)*(c:Int)<=1000000:=by
  constructor
  .exact Int.mul_nonneg (by omega) (by omega)
  have:=Nat.mul_le_mul (show a<=1000 by omega) (show c<=1000 by omega);have e:((a*c:Nat):Int)=(a:Int)*c:=by simp
  omega
 refine ae h2 ?_
 repeat refine ag ?_
 refine a_ ?_
 exact Ih
theorem afa (s:List (List Raw)) (v:Nat) (hv:v<8) (hg:GoodW s):
 Den Tryz.prog 256 [] [.fv (.sl (ai s)),.int .i64 v] [] (if uI s v then .tup [.fv (.sl []),.bool false] else .tup [.fv (.sl (ai (jm s v))),.bool true]):=by
 obtain⟨k,hk,hs,hz,_⟩:=hg
 exact ajL k s v hv hk hs hz
theorem YG (s0:List (List Raw)) (t_:GoodW s0):Den Tryz.prog 229 [] [.fv (.sl (ai s0))] [] (.bool (dr s0)):=by
 obtain⟨R,hR⟩:=ax (dr s0);rw[hR];refine dq Tryz.func229 41 0 ?_;refine aW ?_;refine wl (α:=List (List Raw)) (fun s=>⟨[.fv (.sl (ai s)),.any,.bool false]++replicate 39 .any,[]⟩)
  bL (fun s=>GoodW s/\dr s=R) s0 ?_ ?_ ?_
 .exact bx []
 .exact⟨t_,hR⟩
 rintro s ⟨hg,hf⟩;have rl:=aq s;have Pq:=hg.len;refine bw rl ?_;refine bM ?_ ?_
 .intro h1 h2;refine ae h2 ?_;refine wl (α:=Nat×Int×Int) (fun⟨w,b,l⟩=>⟨[.fv (.sl (ai s)),.any,.bool false,.int .i64 b,.int .i64 l]++replicate 7 .any++[.int .i64 w]++replicate 29 .any,[]⟩)
   (fun⟨w,_⟩=>8 - w) (fun⟨w,b,l⟩=>w<=8/\((b= -1/\ ∀ u,u<w->occ s u=false)\/ ∃ u,u<8/\b=(u:Nat)/\occ s u=true/\l=uS s u/\ ∀ q,q<w->occ s q=true->uS s u<=uS s q)) (0,-1,0) ?_ ?_ ?_
  .exact bx []
  .exact⟨dk _,.inl ⟨rfl,fun u hu=>by omega⟩⟩
  rintro⟨w,b,l⟩ ⟨hw,hb⟩;refine aW ?_;refine bM ?_ ?_
  .intro h3 h4;have lU:=ajM s w (by omega) hg.lim (by omega);obtain⟨c,hc⟩:=ax (((bT s w).length:Int)*(ba s w).length - (bT s w).length - (ba s w).length);obtain⟨o,ho⟩:=ax (occ s w);rw[hc,ho] at lU;refine ae h4 ?_;refine aM lU ?_;cases o with
   | false=>
    refine aN ?_;refine aA (w+1,b,l) ?_ ⟨by omega,?_⟩
    .exact bx []
    .rcases hb with⟨h5,h6⟩ | h5
     .refine .inl ⟨h5,fun u hu=>?_⟩;by_cases Zk:u=w
      .rw[Zk];exact ho
      exact h6 u (by omega)
     .obtain⟨u,hu,Tp,hou,hlu,P8⟩:=h5;exact .inr ⟨u,hu,Tp,hou,hlu,fun q hq P9=>by
       by_cases hqw:q=w
       .rw[hqw,ho] at P9;cases P9
       .exact P8 q (by omega) P9⟩
   | true=>
    have nh:uS s w=c:=hc;refine aN ?_;refine bM ?_ ?_
    .intro h5 h6;refine ae h6 ?_;have vK: ∀ u,u<w->occ s u=false:=by
      rcases hb with⟨_,h8⟩ | ⟨u,_,h8,_⟩
      .exact h8
      omega
     refine aA (w+1,(w:Int),c) ?_ ⟨by omega,.inr ⟨w,by omega,rfl,ho,nh.symm,fun q hq P9=>by
      by_cases hqw:q=w
      .rw[hqw];exact Int.le_refl _
      rw[vK q (by omega)] at P9;cases P9⟩⟩
     exact bx []
    intro h5 h6;refine ae h6 ?_;have eI: ∃ u,u<8/\b=(u:Nat)/\occ s u=true/\l=uS s u/\ ∀ q,q<w->occ s q=true->uS s u<=uS s q:=by
     rcases hb with⟨h7,_⟩ | h7
     .omega
     exact h7
    refine bM ?_ ?_
    .intro h7 h8;refine ae h8 ?_;refine aA (w+1,(w:Int),c) ?_ ⟨by omega,.inr ⟨w,by omega,rfl,ho,nh.symm,fun q hq P9=>by
      by_cases hqw:q=w
      .rw[hqw];exact Int.le_refl _
      obtain⟨u,_,_,_,hlu,P8⟩:=eI;have:=P8 q (by omega) P9;omega⟩⟩
     exact bx []
    intro h7 h8;refine ae h8 ?_;refine aA (w+1,b,l) ?_ ⟨by omega,.inr (by
     obtain⟨u,hu,Tp,hou,hlu,P8⟩:=eI;refine⟨u,hu,Tp,hou,hlu,fun q hq P9=>?_⟩;by_cases hqw:q=w
     .rw[hqw];omega
     exact P8 q (by omega) P9)⟩
    exact bx []
  intro h3 h4;have hw8:w=8:=by omega
  have eI: ∃ u,u<8/\b=(u:Nat)/\occ s u=true/\l=uS s u/\ ∀ q,q<w->occ s q=true->uS s u<=uS s q:=by
   rcases hb with⟨h7,h8⟩ | h7
   .exfalso;have dW:0<s.length:=by omega
    have aY:=bC (ls:=s) (i:=0) dW;obtain⟨u,hu,h0⟩:=nM (hg.nc _ aY);have:=h8 u (by omega);rw[eP.2 ⟨_,aY,h0⟩] at this;cases this
   exact h7
  obtain⟨u,hu,rfl,hou,_,P8⟩:=eI;have yq:=afa s u hu hg;cases Iz:uI s u with
  | true=>
   rw[Iz,if_pos rfl] at yq;have tV:R=false:=by rw[<-hf];exact hg.bad hu Iz
   subst tV;refine ae h4 ?_;refine aM yq ?_;refine ae @Bool.not_false ?_;exact a_ rfl
  | false=>
   rw[Iz,if_neg (by simp)] at yq;have tV:=hg.feas hu Iz;obtain⟨Y6,aL⟩:=hg.step hu hou (fun q hq P9=>P8 q (by omega) P9);refine ae h4 ?_;refine aM yq ?_;refine ae @Bool.not_true ?_;refine ap (jm s u) aL ?_ ⟨Y6,by rw[tV];exact hf⟩;exact bx []
 intro h1 h2;have DT:s=[]:=List.eq_nil_of_length_eq_zero (by omega);have tV:R=true:=by rw[<-hf,DT];exact Db
 subst tV;refine ae h2 ?_;exact a_ rfl
theorem ajN (s0:List (List Raw)) (t_:GoodS s0):Den Tryz.prog 229 [] [.fv (.sl (ai s0))] [] (.bool (dr s0)):=YG s0 t_.w
theorem afb (cs:List (List Raw)) (h:CsOk cs):Den Tryz.prog 228 [] [.fv (.sl (ai cs))] [] (if eg cs then .tup [.fv (.sl []),.bool false] else .tup [.fv (.sl (ai (sysL cs []))),.bool true]):=
 Z3 cs (fun l hl=>(h.ok l hl).mono (by decide)) (by have:=h.len;omega) h.nok h.nc
theorem afc (cs:List (List Raw)) (h:CsW cs):Den Tryz.prog 197 [] [.fv (.sl (ai cs))] [] (.bool (aZ cs)):=by
 have pn:=Z3 cs (fun l hl=>(h.ok l hl).mono (by decide)) (by have:=h.len;omega) h.nok h.nc;have kV:=YG _ h.good;unfold aZ;obtain⟨R,hR⟩:=ax (dr (sysL cs []));rw[hR] at kV ⊢;cases hv:eg cs with
 | true=>
  rw[hv,if_pos rfl] at pn;refine dq Tryz.func197 14 0 ?_;refine aW ?_;refine aM pn ?_;refine aN ?_;exact a_ rfl
 | false=>
  rw[hv,if_neg (by simp)] at pn;refine dq Tryz.func197 14 0 ?_;refine aW ?_;refine aM pn ?_;refine aN ?_;refine aM kV ?_;refine aN ?_;exact a_ rfl
theorem afd (cs:List (List Raw)) (h:CsOk cs):Den Tryz.prog 197 [] [.fv (.sl (ai cs))] [] (.bool (aZ cs)):=afc cs h.w
theorem ajO (cs:List (List Raw)) (h:CsOk cs) (hl:cs.length<=40):Den Tryz.prog 155 [] [.fv (.sl (ai cs))] [] (.tup [.bool (aZ cs),.int .i64 0]):=by
 have IG:=afd cs h;have rl:=aq cs;have e1:decide ((cs.length:Int)>40)=false:=oc;refine dq Tryz.func155 8 0 ?_;refine bw (aB rl e1) ?_;refine aM IG ?_;refine aN ?_;exact a_ rfl
theorem G3:(replicate 9 (0:Rat)).map cn=replicate 9 (cn 0):=by simp
theorem g9 (q:Rat):(dt q).length=9:=by simp[dt]
theorem j0 (v:Nat):(iP v).length=9:=by simp[iP]
theorem Vj (r:Raw) (hr:r.Ok 5000000000):Den Tryz.prog 102 [] [r.v] [] (RL (dt r.q)):=by
 have mJ:=mb r hr;have KP:=QI;unfold FL at KP;rw[G3] at KP;have bn:=er (rs:=replicate 9 (cn 0)) (i:=8) (by simp) (cn r.q).neg (cn r.q).num (cn r.q).den;have sX:(⟨(cn r.q).neg,(cn r.q).num,(cn r.q).den⟩:Raw)=cn r.q:=rfl;rw[sX] at bn;change _=flat (dt r.q) at bn;have ei:=g9 r.q;obtain⟨y,hy⟩:=ax (dt r.q);obtain⟨z,hz⟩:=ax (replicate 9 (cn 0));have nu:z.length=9:=by rw[<-hz];simp
 obtain⟨c,hc⟩:=ax (cn r.q);rw[hy] at bn ei ⊢;rw[hz] at KP bn;have ag3:Den Tryz.prog 121 [] [r.v] [] c.v:=by rw[<-hc];exact mJ
 rw[hc] at bn;unfold Raw.v at ag3 ⊢;unfold RL at KP ⊢;have gz:=ah z;have gy:=ah y;have gf:=aj ei;have alz:=aj nu;simp only[Nat.reduceMul,reduceAdd] at bn;refine dq Tryz.func102 8 0 ?_;refine aW ?_;refine aM KP ?_;refine bm (aB gz nu) ?_
 repeat refine ag ?_
 refine aM ag3 ?_;refine ae (eU gz nu bn gf gy ei @append_nil.{0}) ?_
 repeat refine ag ?_
 exact RetOK.form rfl rfl ei
theorem Z' (v:Nat) (hv:v<8):Den Tryz.prog 100 [] [.int .i64 v] [] (RL (iP v)):=by
 have jN:=iy 1 (by decide);have KP:=QI;unfold FL at KP;rw[G3] at KP;have bn:=er (rs:=replicate 9 (cn 0)) (i:=v) (by simp;omega) (cn ((1:Int):Rat)).neg (cn ((1:Int):Rat)).num (cn ((1:Int):Rat)).den;have sX:(⟨(cn ((1:Int):Rat)).neg,(cn ((1:Int):Rat)).num,(cn ((1:Int):Rat)).den⟩:Raw)=cn ((1:Int):Rat):=rfl;rw[sX] at bn;change _=flat (iP v) at bn;have ei:=j0 v;obtain⟨y,hy⟩:=ax (iP v);obtain⟨z,hz⟩:=ax (replicate 9 (cn 0));have nu:z.length=9:=by rw[<-hz];simp
 obtain⟨c,hc⟩:=ax (cn ((1:Int):Rat));rw[hy] at bn ei ⊢;rw[hz] at KP bn;have Cp:Den Tryz.prog 32 [] [.int .i64 1] [] c.v:=by rw[<-hc];exact jN
 rw[hc] at bn;unfold Raw.v at Cp;unfold RL at KP ⊢;have gz:=ah z;have gy:=ah y;have gf:=aj ei;have alz:=aj nu;refine dq Tryz.func100 9 0 ?_;refine aW ?_;refine aM KP ?_;refine bm (aB gz nu) ?_
 repeat refine ag ?_
 refine aM Cp ?_;refine ae (eU gz nu bn gf gy ei @append_nil.{0}) ?_
 repeat refine ag ?_
 exact RetOK.form rfl rfl ei
theorem Oi (l:List Raw) (h:LOk 1000000 l):Den Tryz.prog 51 [] [RL l] [] (RL (cV l)):=by
 have jN:=iy (-1) (by decide);have yq:=Lw l (cn ((-1:Int):Rat)) (h.mono (by decide)) (bj (Bd.mono (show Bd 1 ((-1:Int):Rat) from⟨by decide,by decide⟩) (by decide)));rw[cu] at yq;change Den Tryz.prog 108 [] [RL l,(cn ((-1:Int):Rat)).v] [] (RL (cV l)) at yq;have nk:=h.len;have ei:=ew nk;obtain⟨y,hy⟩:=ax (cV l);obtain⟨c,hc⟩:=ax (cn ((-1:Int):Rat));rw[hy] at yq ei ⊢;have Cp:Den Tryz.prog 32 [] [.int .i64 (-1)] [] c.v:=by rw[<-hc];exact jN
 rw[hc] at yq;unfold Raw.v at Cp yq;unfold RL at yq ⊢;have gl:=ah l;have gy:=ah y;have gf:=aj ei;have wY:=aj nk;refine dq Tryz.func51 5 0 ?_;refine bw (aB gl nk) ?_
 repeat refine ag ?_
 refine dw (by kernel_rfl) ?_;refine ae (bA wY gl nk) ?_
 repeat refine ag ?_
 refine aM Cp ?_;refine ae @append_nil.{0} ?_;refine gv yq ?_;refine bm (aB gy ei) ?_
 repeat refine ag ?_
 exact RetOK.form rfl rfl ei
theorem afe (a:List Raw) (ha:LOk 1000000000 a):Den Tryz.prog 49 [] [RL a] [] (.bool (cy a)):=by
 obtain⟨R,hR⟩:=ax (cy a);rw[hR];have la:=ha.len;have fa:=ah a;unfold RL;refine dq Tryz.func49 21 0 ?_;refine bw (aB fa la) ?_
 repeat refine ag ?_
 refine wl (α:=Nat) (fun i=>⟨[.any,.ptr 0 0 0,.bool false,.int .i64 i]++replicate 18 .any,[.box true (flat a)]⟩)
  (fun i=>8 - i) (fun i=>i<=8/\ ∀ j,j<i->co a j=0) 0 ?_ ?_ ?_
 .exact ou [0]
 .exact⟨dk _,fun j h=>by omega⟩
 rintro i ⟨hi,bK⟩;refine aW ?_;refine bM ?_ ?_
 .intro h1 h2;have dS:=b_ (rs:=a) (i:=i) (by omega);have bF:=ha.at i;have nv:co a i=(a.getD i rz).q:=rfl;obtain⟨r,hr⟩:=ax (a.getD i rz);rw[hr] at dS bF nv;have I4:=xi r;have jh:=mc r (bF.mono (by decide));unfold Raw.v at I4 jh;have jr:r.q=0-> ∀ j,j<i+1->co a j=0:=fun h0 j hj=>by
   by_cases ss:j=i
   .rw[ss,nv];exact h0
   exact bK j (by omega)
  refine ae (aB h2 dS) ?_
  repeat refine ag ?_
  refine aM I4 ?_;by_cases h3:(r.num.length:Int)=0
  .have hb:((r.num.length:Int)==0)=true:=by rw[beq_iff_eq];exact h3
   refine ae (aB hb @Bool.not_true) ?_;refine aA (i+1) ?_ ⟨by omega,jr (pV h3)⟩;exact ou [0]
  have hb:((r.num.length:Int)==0)=false:=by rw[qx];exact h3
  refine ae (bA hb @Bool.not_false dS) ?_
  repeat refine ag ?_
  refine aM jh ?_;refine aN ?_;refine Br.bneInt ?_ ?_
  .intro h5 h6;have tV:R=false:=by
    rw[<-hR];cases xP:cy a with
    | false=>rfl
    | true=>
     exfalso;have:=(cN la).1 xP i (by omega);rw[nv] at this;exact h5 (a9.2 this)
   subst tV;refine ae h6 ?_;exact a_ rfl
  intro h5 h6;refine ae h6 ?_;refine aA (i+1) ?_ ⟨by omega,jr (a9.1 h5)⟩;exact ou [0]
 intro h1 h2;have tV:R=true:=by
  rw[<-hR];exact(cN la).2 (fun j hj=>bK j (by omega))
 subst tV;refine ae h2 ?_;exact a_ rfl
theorem YH (a b:List Raw) (ha:LOk 1000000000 a) (hb:LOk 1000000000 b):Den Tryz.prog 227 [] [RL a,RL b] [] (.int .i64 (bV a b)):=by
 obtain⟨R,hR⟩:=ax (bV a b);rw[hR];have la:=ha.len;have lb:=hb.len;have fa:=ah a;have fb:=ah b;unfold RL;refine dq Tryz.func227 38 0 ?_;refine bw (dR fa la fb lb) ?_
 repeat refine ag ?_
 refine wl (α:=Nat) (fun i=>⟨[.any,.any,.ptr 0 0 0,.ptr 1 0 0,.int .i64 0,.int .i64 i]++replicate 34 .any,[.box true (flat a),.box true (flat b)]⟩)
  (fun i=>8 - i) (fun i=>i<=8/\bV (a.drop i) (b.drop i)=R) 0 ?_ ?_ ?_
 .exact ou [0,1]
 .exact⟨dk _,hR⟩
 rintro i ⟨hi,bK⟩;refine aW ?_;refine bM ?_ ?_
 .intro h1 h2;have dS:=b_ (rs:=a) (i:=i) (by omega);have M0:=b_ (rs:=b) (i:=i) (by omega);have ag4:=ha.at i;have ag5:=hb.at i;rw[v3 (by omega) (by omega)] at bK;obtain⟨r,hr⟩:=ax (a.getD i rz);obtain⟨t,ht⟩:=ax (b.getD i rz);rw[hr] at dS ag4 bK;rw[ht] at M0 ag5 bK;have I4:=xi r;have Pm:=xi t;have Jc:=Yk r t (ag4.mono (by decide)) (ag5.mono (by decide));unfold Raw.v at I4 Pm Jc;obtain⟨g,hg⟩:=ax (fQ (r.q - t.q));rw[hg] at Jc bK;have ag6:(r.num.length:Int)=0->(t.num.length:Int)=0->g=0:=fun h3 h4=>by
   rw[<-hg,pV h3,pV h4,Rat.sub_self];rfl
  by_cases h3:(r.num.length:Int)=0
  .have dX:((r.num.length:Int)==0)=true:=by rw[beq_iff_eq];exact h3
   by_cases h4:(t.num.length:Int)=0
   .have eI:((t.num.length:Int)==0)=true:=by rw[beq_iff_eq];exact h4
    rw[if_pos (ag6 h3 h4)] at bK;refine ae (aB h2 dS) ?_
    repeat refine ag ?_
    refine aM I4 ?_;refine ae (aB dX M0) ?_
    repeat refine ag ?_
    refine aM Pm ?_;refine ae eI ?_;refine aA (i+1) ?_ ⟨by omega,bK⟩;exact ou [0,1]
   have eI:((t.num.length:Int)==0)=false:=by rw[qx];exact h4
   refine ae (aB h2 dS) ?_
   repeat refine ag ?_
   refine aM I4 ?_;refine ae (aB dX M0) ?_
   repeat refine ag ?_
   refine aM Pm ?_;refine ae eI ?_;refine dw (by kernel_rfl) ?_;refine ae (aB dS M0) ?_
   repeat refine ag ?_
   refine aM Jc ?_;refine aN ?_;refine Br.bneInt ?_ ?_
   .intro h5 h6;rw[if_neg h5] at bK;subst bK;refine ae h6 ?_;exact a_ rfl
   intro h5 h6;rw[if_pos h5] at bK;refine ae h6 ?_;refine aA (i+1) ?_ ⟨by omega,bK⟩;exact ou [0,1]
  have dX:((r.num.length:Int)==0)=false:=by rw[qx];exact h3
  refine ae (aB h2 dS) ?_
  repeat refine ag ?_
  refine aM I4 ?_;refine ae dX ?_;refine dw (by kernel_rfl) ?_;refine ae (aB dS M0) ?_
  repeat refine ag ?_
  refine aM Jc ?_;refine aN ?_;refine Br.bneInt ?_ ?_
  .intro h5 h6;rw[if_neg h5] at bK;subst bK;refine ae h6 ?_;exact a_ rfl
  intro h5 h6;rw[if_pos h5] at bK;refine ae h6 ?_;refine aA (i+1) ?_ ⟨by omega,bK⟩;exact ou [0,1]
 intro h1 h2;have pC:i=8:=by omega
 subst pC;rw[CI (by omega) (by omega)] at bK;have dS:=b_ (rs:=a) (i:=8) (by omega);have M0:=b_ (rs:=b) (i:=8) (by omega);simp only[Nat.reduceMul] at dS M0;have Jc:=Yk (a.getD 8 rz) (b.getD 8 rz) ((ha.at 8).mono (by decide)) ((hb.at 8).mono (by decide));rw[bK] at Jc;obtain⟨r,hr⟩:=ax (a.getD 8 rz);obtain⟨t,ht⟩:=ax (b.getD 8 rz);rw[hr] at dS Jc;rw[ht] at M0 Jc;unfold Raw.v at Jc;refine ae (bA h2 dS M0) ?_
 repeat refine ag ?_
 refine aM Jc ?_;refine aN ?_;exact a_ rfl
theorem yH {ls:List (List Raw)} (h: ∀ l∈ls,l.length=9):(∀ y,y∈ai ls->y.length=27)=True:=by
 refine eq_true (fun y hy=>?_);obtain⟨l,hl,rfl⟩:=mem_map.1 hy;rw[aE,h l hl]
theorem aaa (ls:List (List Raw)) (h9: ∀ l∈ls,l.length=9) (hn:ls.length<=1000):Den Tryz.prog 106 [] [.fv (.sl (ai ls))] [.row true (ai ls)] (.lsl 0 0 ls.length 27):=by
 cases ls with
 | nil=>
  show Den Tryz.prog 106 [] ([]++ .fv (.sl [])::[]) [.row true []] (.lsl 0 0 0 27);refine Den.empty' ?_ (fun b o cap=>?_)
  .show Den Tryz.prog 106 [] [.nilsl] [.row true []] (.lsl 0 0 0 27);refine MY Lf Lg Tryz.func106 (cd:=_) rfl (by decide) rfl (n:=7) rfl rfl ?_ 27 (by decide);refine bw @xK ?_;exact⟨_,rfl,cK,cK⟩
  .show Den Tryz.prog 106 [] [.fv (.lit (.slice (some ⟨b,o,none⟩) 0 cap))] [.row true []] (.lsl 0 0 0 27);refine dq Tryz.func106 7 0 ?_;refine aW ?_;exact RetOK.own rfl ⟨cK,cK⟩ rfl
 | cons a t=>
  have k7:=yH h9;have rl:=aq (a::t);have e:ai (a::t)=cx a::ai t:=rfl;rw[e] at k7 rl ⊢;obtain⟨n,b8⟩:=ax ((a::t).length);rw[b8] at rl hn ⊢;obtain⟨us,gX⟩:=ax (cx a::ai t);have A':us.length=n:=by rw[<-gX];exact rl
  refine dq Tryz.func106 7 0 ?_;refine aW ?_;rw[gX] at k7 ⊢;have WL:(ai t).length+1=n:=by simpa using rl
  refine ae (aB k7 WL) ?_;refine⟨⟨by omega,by omega⟩,?_⟩;exact RetOK.own rfl ⟨cK,cK⟩ rfl
theorem Dk (ls:List (List Raw)) (i:Nat):List.take i (ai ls)=ai (ls.take i):=by simp[ai]
theorem Dl (ls:List (List Raw)) (i:Nat):List.drop i (ai ls)=ai (ls.drop i):=by simp[ai]
theorem G4 (ls:List (List Raw)) (i:Nat):ai (ls.take i)++ai (ls.drop (i+1))=ai (kQ ls i):=by simp[ai,kQ]
theorem aff (ls:List (List Raw)) (i:Nat) (hi:i<ls.length) (hn:ls.length<=1000):
 Den Tryz.prog 231 [.row true (ai ls)] [.lsl 0 0 ls.length 27,.int .i64 i,.int .i64 ((i:Int)+1)] [.row true (ai (kQ ls i))] (.lsl 0 0 (ls.length - 1) 27):=by
 obtain⟨n,b8⟩:=ax ls.length
 have rl:=aq ls
 rw[b8] at rl hi hn ⊢
 have e1:((i:Int)+1).toNat=i+1:=by omega
 have e2:((i:Int)==(i:Int)+1)=false:=by rw[qx];omega
 have e3:i+(n - (i+1))=n - 1:=by omega
 have t1:=Dk ls i
 have d1:=Dl ls (i+1)
 have dl:(ai (ls.drop (i+1))).length=n - (i+1):=by rw[aq,length_drop,b8]
 have t2:List.take (n - (i+1)) (ai (ls.drop (i+1)))=ai (ls.drop (i+1)):=dm (by omega)
 have dd:=G4 ls i
 have ddl:(ai (kQ ls i)).length=n - 1:=by rw[aq];have:=rS (s:=ls) (i:=i) (by omega);omega
 obtain⟨Z,hZ⟩:=ax (List.drop (n - 1) (ai ls))
 have Zl:Z.length=1:=by rw[<-hZ,length_drop,rl];omega
 obtain⟨D,hD⟩:=ax (ai (kQ ls i))
 rw[hD] at dd ddl ⊢
 have hWl:(D++Z).length=n:=by rw[qe,ddl,Zl];omega
 have hWt:List.take (n - 1) (D++Z)=D:=List.take_left' ddl
 refine dq Tryz.func231 30 1 ?_
 refine bw e1 ?_
 repeat refine ag ?_
 refine ae e2 ?_
 refine dw (by kernel_rfl) ?_
 refine ae (bu @Nat.sub_zero e1 t1 d1 t2 dl dd (bA e3 hZ rl)) ?_
 repeat refine ag ?_
 refine ae hWt ?_
 repeat refine ag ?_
 exact sn rfl ⟨cK,cK⟩ rfl trivial rfl rfl rfl
theorem YI (rs:List Raw) (fj:LOk 100000 rs):Den Tryz.prog 251 [] [RL rs] [] (FL (Ny rs)):=by
 have aF:=fj.len;have nt:=ah rs;have e7:rs≠[]:=fun h=>by rw[h] at aF;simp at aF
 have ej:=fj.ok _ (rj e7);have Bv:=aeq rs (fj.mono (by decide));have jh:=mc (bU rs) (ej.mono (by decide));obtain⟨c,hc⟩:=ax (bU rs);have b1:=ej.bd (by decide);rw[hc] at ej Bv jh b1;by_cases h0:c.q=0
 .have KP:=QI;rw[nJ (by rw[hc];exact h0)];rw[a9.2 h0] at jh;have k7:=Ea (replicate 9 0) rfl;unfold FL RL at KP ⊢;unfold Raw.v at Bv jh;obtain⟨zs,hz⟩:=ax ((replicate 9 (0:Rat)).map cn);have nu:zs.length=9:=by rw[<-hz];simp
  rw[hz] at KP k7 ⊢;unfold RL at Bv;have e00:((0:Int)==0)=true:=rfl;refine dq Tryz.func251 25 0 ?_;simp -dsimp(disch:=omega) only[aj aF,↓reduceIte,reduceLT,ru];refine⟨by omega,by omega,?_⟩;refine gv Bv ?_;refine vG ?_;refine aM jh ?_;refine ae (aB e00 @append_nil.{0}) ?_;refine aM KP ?_;refine bm k7 ?_;exact RetOK.form rfl rfl nu
 have h1:=iy 1 (by decide);have dX:Bd 1 ((1:Int):Rat):=⟨by decide,by decide⟩;have yU:=vX (by rw[hc];exact h0);rw[hc] at yU;have Tj:rs.map (fun r=>r.q / d9 c.q)=rs.map (fun r=>r.q*(1 / d9 c.q)):=by
  apply List.map_congr_left;intro r _;exact(F4 _ _).symm
 rw[yU,Tj];have hba:Bd 100000 (d9 c.q):=by unfold d9;split;exact b1.neg;exact b1
 have Pw:=rr h0;have Bw:=bj (dX.div hba Pw (by decide));have sV:=Lw rs (cn (1 / d9 c.q)) (fj.mono (by decide)) (Raw.Ok.mono Bw (by decide));rw[cu] at sV;have xN:(rs.map (fun r=>r.q*(1 / d9 c.q))).length=9:=by simp[aF]
 have k7:=Ea _ xN;have e10:((-1:Int)==0)=false:=rfl;have e11:((-1:Int)== -1)=true:=rfl;have e20:((1:Int)==0)=false:=rfl;have e21:((1:Int)== -1)=false:=rfl;have ib: ∀ x:Rat,((1:Int):Rat) / x=1 / x:=fun _=>rfl
 unfold FL RL at sV ⊢;unfold RL at Bv;change Den Tryz.prog 108 [] [.agg (flat rs),FR (1 / d9 c.q)] [] _ at sV;obtain⟨zs,hz⟩:=Lc ((rs.map (fun r=>r.q*(1 / d9 c.q))).map cn);have nu:zs.length=9:=by rw[<-hz];simp[aF]
 rw[hz] at sV k7 ⊢;by_cases iw:c.q.num<0
 .have vt:d9 c.q= -c.q:=if_pos iw;rw[vt] at sV Pw;rw[yA iw] at jh;have pn:=Yj c (ej.mono (by decide));have kV:=QC (cn 1) (cn (-c.q)) (Raw.Ok.mono (bj dX) (by decide)) (Raw.Ok.mono (bj b1.neg) (by decide)) (by rw[cu];exact Pw);rw[cu,cu] at kV;change Den Tryz.prog 192 [] [FR 1,FR (-c.q)] [] _ at kV;change Den Tryz.prog 32 [] _ [] (FR 1) at h1;rw[bt] at pn h1 sV;rw[bt,bt,bt] at kV;unfold Raw.v at Bv jh pn;refine dq Tryz.func251 25 0 ?_;simp -dsimp(disch:=omega) only[aj aF,↓reduceIte,reduceLT,ru];refine⟨by omega,by omega,?_⟩;refine gv Bv ?_;refine vG ?_;refine aM jh ?_;refine ae (bA e10 e11 @append_nil.{0}) ?_;refine aM pn ?_;refine ae @append_nil.{0} ?_;refine dw (by kernel_rfl) ?_;refine aN ?_;refine aM h1 ?_;refine ae @append_nil.{0} ?_;refine aM kV ?_
  simp -dsimp(disch:=omega) only[append_nil,aj aF,↓reduceIte,reduceAdd,reduceLT,reduceLeDiff,ru]
  repeat refine ag ?_
  refine gv sV ?_;refine bm k7 ?_;exact RetOK.form rfl rfl nu
 have vt:d9 c.q=c.q:=if_neg iw;rw[vt] at sV Pw;rw[Ly h0 iw] at jh;have kV:=QC (cn 1) c (Raw.Ok.mono (bj dX) (by decide)) (ej.mono (by decide)) h0;rw[cu] at kV;change Den Tryz.prog 192 [] [FR 1,c.v] [] _ at kV;change Den Tryz.prog 32 [] _ [] (FR 1) at h1;rw[bt] at h1 sV;rw[bt,bt] at kV;unfold Raw.v at Bv jh kV;refine dq Tryz.func251 25 0 ?_;simp -dsimp(disch:=omega) only[aj aF,↓reduceIte,reduceLT,ru];refine⟨by omega,by omega,?_⟩;refine gv Bv ?_;refine vG ?_;refine aM jh ?_;refine ae (bA e20 e21 @append_nil.{0}) ?_;refine dw (by kernel_rfl) ?_;refine aN ?_;refine aM h1 ?_;refine ae @append_nil.{0} ?_;refine aM kV ?_;simp -dsimp(disch:=omega) only[append_nil,aj aF,↓reduceIte,reduceAdd,reduceLT,reduceLeDiff,ru]
 repeat refine ag ?_
 refine gv sV ?_;refine bm k7 ?_;exact RetOK.form rfl rfl nu
theorem Ae: ∀ (i:Nat) (rs:List Raw),List.drop (i*3) (cx rs)=cx (rs.drop i)
 | 0,rs=>by simp
 | i+1,[]=>by simp[cx]
 | i+1,r::rs=>by
  have e:(i+1)*3=i*3+1+1+1:=by omega
  rw[e];simp only[cx,List.drop_succ_cons];exact Ae i rs
theorem RI {rs:List Raw} {i:Nat} (h:i<rs.length):List.take 3 (List.drop (i*3) (cx rs))=[.lit (.bool (rs.getD i rz).neg),.sl (u32s (rs.getD i rz).num),.sl (u32s (rs.getD i rz).den)]:=by
 rw[Ae,drop_eq_getElem_cons h];simp only[cx,List.take_succ_cons,List.take_zero];rw[qa,qb h];rfl
theorem afg (s:List (List Raw)) (v:Nat) (hv:v<8) (hg: ∀ l∈s,LOk 1000000 l) (hn:s.length<=1000):Den Tryz.prog 252 [] [.fv (.sl (ai s)),.int .i64 v] [] (.bool (occ s v)):=by
 obtain⟨R,hR⟩:=ax (occ s v);rw[hR];obtain⟨n,b8⟩:=ax s.length;have rl:=aq s;rw[b8] at rl hn;refine dq Tryz.func252 19 0 ?_;refine aW ?_;refine wl (α:=Nat) (fun i=>⟨[.fv (.sl (ai s)),.int .i64 v,.any,.any,.bool false,.int .i64 i]++replicate 15 .any,[]⟩)
  (fun i=>n - i) (fun i=>i<=n/\ ∀ j,j<i->co (s.getD j []) v=0) 0 ?_ ?_ ?_
 .exact bx []
 .exact⟨dk _,fun j hj=>by omega⟩
 rintro i ⟨hi,f0⟩;refine bw rl ?_;refine bM ?_ ?_
 .intro h1 h2;have aY:=bC (ls:=s) (i:=i) (by omega);have r1:=aV s i;have ag7:co (s.getD i []) v=0-> ∀ j,j<i+1->co (s.getD j []) v=0:=fun h0 j hj=>by
   by_cases ss:j=i
   .rw[ss];exact h0
   exact f0 j (by omega)
  obtain⟨x,jn⟩:=ax (s.getD i []);rw[jn] at aY r1 ag7;have hx:=hg x aY;have lx:=hx.len;have jG:=ay lx;have fx:=aE x;have dS:=RI (rs:=x) (i:=v) (by omega);have jh:=mc (x.getD v rz) ((hx.at v).mono (by decide));have nv:co x v=(x.getD v rz).q:=rfl;obtain⟨r,hr⟩:=ax (x.getD v rz);rw[hr] at dS jh nv;unfold Raw.v at jh;have x24:List.drop 0 (cx x)=cx x:=rfl;refine ae (bu h2 r1 fx lx rl dS x24 @length_drop.{0}) ?_
  repeat refine ag ?_
  refine aM jh ?_;refine ae @append_nil.{0} ?_;refine Br.bneInt ?_ ?_
  .intro h3 h4;have tV:R=true:=by
    rw[<-hR];exact eP.2 ⟨x,aY,by rw[nv];exact fun h=>h3 (a9.2 h)⟩
   subst tV;refine ae h4 ?_;exact a_ rfl
  intro h3 h4;refine ae h4 ?_;refine aA (i+1) ?_ ⟨by omega,ag7 (by rw[nv];exact a9.1 h3)⟩;exact bx []
 intro h1 h2;have tV:R=false:=by
  rw[<-hR];cases ho:occ s v with
  | false=>rfl
  | true=>
   obtain⟨l,hl,h0⟩:=eP.1 ho;obtain⟨j,hj,rfl⟩:=lF.1 hl;exact absurd (f0 j (by omega)) h0
 subst tV;refine ae h2 ?_;exact a_ rfl
theorem afh (cs:List (List Raw)) (bF: ∀ l∈cs,LOk 100000 l) (hn:cs.length<=100000):
 Den Tryz.prog 225 [] [.fv (.sl (ai cs))] [] (if eg cs then .tup [.fv (.sl []),.bool false] else .tup [.fv (.sl (ai (sysL cs []))),.bool true]):=by
 have h9: ∀ l∈cs,l.length=9:=fun l hl=>(bF l hl).len
 obtain⟨n,b8⟩:=ax cs.length
 obtain⟨R,hR⟩: ∃ R:PV,(if eg cs then .tup [.fv (.sl []),.bool false] else .tup [.fv (.sl (ai (sysL cs []))),.bool true])=R:=⟨_,rfl⟩
 rw[hR]
 have rl:=aq cs
 rw[b8] at rl hn
 refine dq Tryz.func225 67 0 ?_
 refine aW ?_
 refine wl (α:=Nat×List (List Raw)) (fun⟨i,out⟩=>⟨[.fv (.sl (ai cs)),.any,.nilsl,.bool false,.lsl 0 0 out.length 27,.int .i64 i]++replicate 62 .any,[.row true (ai out)]⟩)
  (fun⟨i,_⟩=>n - i) (fun⟨i,out⟩=>i<=n/\out.length<=i/\out=sysL (cs.take i) []/\eg (cs.take i)=false) (0,[]) ?_ ?_ ?_
 .refine Weak.nil 4 27 (by decide) rfl ?_
  refine eH [0] ?_ ?_
  .simp[bh,dF,cw]
  simp[d_,fD]
  rfl
 .exact⟨dk _,qp _,rfl,rfl⟩
 rintro⟨i,out⟩ ⟨hi,pR,cG,xU⟩
 have jf: ∀ f∈out,LOk 200000 f:=fun f hf=>by
  have hh:=(gQ (cs:=cs.take i) (fun l hl=>h9 l (xW hl))).mem f;rw[cG] at hf;obtain⟨l,hl,_,rfl⟩:=hh.1 hf;exact(mh (bF l (xW hl)) (by decide)).mono (by decide)
 obtain⟨L,hL⟩:=ax out.length
 have rlo:=aq out
 rw[hL] at rlo pR
 dsimp only
 rw[hL]
 refine bw rl ?_
 refine bM ?_ ?_
 .intro h1 h2
  have cL:=eZ (cs:=cs) (i:=i) (by omega)
  have aY:=bC (ls:=cs) (i:=i) (by omega)
  have r1:=aV cs i
  obtain⟨x,jn⟩:=ax (cs.getD i [])
  rw[jn] at aY r1 cL
  have hx:=bF x aY
  have lx:=hx.len
  have jG:=ay lx
  have fx:=aE x
  have gx:=ah x
  have ji:=aj lx
  have hN:=YI x hx
  change Den Tryz.prog 251 [] [RL x] [] (RL (dp x)) at hN
  have Zo:=mh hx (by decide)
  have ei:=g7 lx
  have xP:=xr lx
  have Uh:=Dc lx
  have fh:=oV (cs:=cs.take i) (l:=x)
  have mH:=wx (l:=x) (cs.take i) []
  rw[<-cL] at fh mH
  rw[xU,Bool.false_or] at fh
  rw[<-cG] at mH
  obtain⟨y,hy⟩:=ax (dp x)
  rw[hy] at hN Zo ei xP Uh mH
  have hc:=afe y (Zo.mono (by decide))
  rw[xP] at hc
  obtain⟨b,hb⟩:=ax (cy x)
  rw[hb] at hc fh mH
  have gy:=ah y
  have gf:=aj ei
  have kB:=ay ei
  have fy:=aE y
  have I':=jY ei
  unfold RL at hN hc
  refine bm (dN h2 r1 jG fx lx rl) ?_
  repeat refine ag ?_
  refine gv hN ?_
  refine bm (bA gy ei gf) ?_
  repeat refine ag ?_
  refine gv hc ?_
  cases b with
  | true=>
   have fM:=mc (y.getD 8 rz) ((Zo.at 8).mono (by decide));have nv:co y 8=(y.getD 8 rz).q:=rfl;obtain⟨r,hr⟩:=ax (y.getD 8 rz);rw[hr] at fM I' nv;unfold Raw.v at fM;refine bm (bA I' gy ei) ?_
   repeat refine ag ?_
   refine aM fM ?_;refine ae @append_nil.{0} ?_;refine bM ?_ ?_
   .intro h3 h4;have hv:eg (cs.take (i+1))=true:=by
     rw[fh,Bool.true_and,f3];exact Uh.1.1 (by rw[nv];exact iB.1 h3)
    rw[if_pos (GP hv)] at hR;subst hR;refine ae h4 ?_;refine a_ rfl
   .intro h3 h4;have hv:eg (cs.take (i+1))=false:=by
     rw[fh,Bool.true_and,jI];exact fun h=>h3 (iB.2 (by rw[<-nv];exact Uh.1.2 h))
    rw[if_pos rfl] at mH;refine ae h4 ?_;refine aA (i+1,out) ?_ ⟨by omega,by rw[hL];omega,mH.symm,hv⟩;exact bx [0]
  | false=>
   have hv:eg (cs.take (i+1))=false:=by rw[fh];rfl
   rw[if_neg (by simp)] at mH;refine vG ?_;refine wl (α:=Nat) (fun j=>⟨[.fv (.sl (ai cs)),.any,.nilsl,.bool false,.lsl 0 0 L 27,.int .i64 i,.ptr 1 0 0,.int .i64 j]++replicate 60 .any,[.row true (ai out),.box true (flat y)]⟩)
    (fun j=>L - j) (fun j=>j<=L/\ ∀ q,q<j->bV (out.getD q []) y<0) 0 ?_ ?_ ?_
   .exact ou [0,1]
   .exact⟨dk _,fun q hq=>by omega⟩
   rintro j ⟨hj,aL⟩;refine aW ?_;refine dw (by kernel_rfl) ?_;refine aN ?_;refine bM ?_ ?_
   .intro h3 h4;have Zp:=bC (ls:=out) (i:=j) (by omega);have r2:=aV out j;have KR:=N3 (f:=y) (out:=out) (i:=j) (by omega) aL;have kW:=U_ (f:=y) (out:=out) (i:=j) (by omega) aL;have TA:bV (out.getD j []) y<0-> ∀ q,q<j+1->bV (out.getD q []) y<0:=fun h0 q hq=>by
     by_cases Y3:q=j
     .rw[Y3];exact h0
     exact aL q (by omega)
    obtain⟨a,haa⟩:=ax (out.getD j []);rw[haa] at Zp r2 KR kW TA;have ha:=jf a Zp;have la:=ha.len;have a27:=ay la;have fa:=aE a;have Xf:=YH a y (ha.mono (by decide)) (Zo.mono (by decide));obtain⟨c,nh⟩:=ax (bV a y);rw[nh] at Xf KR kW TA;unfold RL at Xf;refine bm (bu h4 r2 a27 fa la gf gy (aB ei rlo)) ?_
    repeat refine ag ?_
    refine gv Xf ?_;refine vG ?_;refine bM ?_ ?_
    .intro h5 h6;refine ae h6 ?_;refine aA (j+1) ?_ ⟨by omega,TA h5⟩;exact ou [0,1]
    intro h5 h6;refine ae h6 ?_;refine dw (by kernel_rfl) ?_;refine bm (bu h4 r2 a27 fa la gf gy (aB ei rlo)) ?_
    repeat refine ag ?_
    refine gv Xf ?_;refine vG ?_;refine Br.beqInt ?_ ?_
    .intro h7 h8;rw[KR h7] at mH;refine ae h8 ?_;refine aA (i+1,out) ?_ ⟨by omega,by rw[hL];omega,mH.symm,hv⟩;exact bx [0]
    intro h7 h8;rw[kW (by omega)] at mH;have eO:List.take j (ai out)=ai (out.take j):=by simp[ai]
    have sw:List.drop j (ai out)=ai (out.drop j):=by simp[ai]
    have xR:(ai (out.take j)).length=j:=by rw[aq,length_take];omega
    have wX:List.take j (ai (out.take j))=ai (out.take j):=dm (by omega);have bO:=bI (out.take j) y;have abz:(ai (out.take j++[y])).length=j+1:=by rw[aq,qe,length_take,D0];omega
    have KO:List.take (j+1) (ai (out.take j++[y]))=ai (out.take j++[y]):=dm (by omega);have xT:(ai (out.drop j)).length=L - j:=by rw[aq,length_drop];omega
    have abA:List.take (L - j) (ai (out.drop j))=ai (out.drop j):=dm (by omega);have Bx:ai (out.take j++[y])++ai (out.drop j)=ai (out.take j++[y]++out.drop j):=by simp[ai]
    have mI:(out.take j++[y]++out.drop j).length=L+1:=by rw[qe,qe,length_take,length_drop,D0];omega
    obtain⟨o2,fE⟩:=ax (out.take j++[y]++out.drop j);rw[fE] at mH Bx mI;refine bm (bu h8 @Nat.sub_zero eO xR wX gf gy (bu ei kB bO abz KO sw xT (bA abA Bx rlo))) ?_
    repeat refine ag ?_
    refine aA (i+1,o2) ?_ ⟨by omega,by dsimp only;omega,mH.symm,hv⟩;exact bx [5]
   intro h3 h4;have hjL:j=L:=by omega
   have Bc:C1 y out=out.take j++[y]++out.drop j:=by
    rw[U9 (fun q hq=>aL q (by omega)),dm (by omega),List.drop_of_length_le (by omega),append_nil]
   rw[Bc] at mH;have h6b:=h4;refine ae h4 ?_;refine dw (by kernel_rfl) ?_;have eO:List.take j (ai out)=ai (out.take j):=by simp[ai]
   have sw:List.drop j (ai out)=ai (out.drop j):=by simp[ai]
   have xR:(ai (out.take j)).length=j:=by rw[aq,length_take];omega
   have wX:List.take j (ai (out.take j))=ai (out.take j):=dm (by omega);have bO:=bI (out.take j) y;have abz:(ai (out.take j++[y])).length=j+1:=by rw[aq,qe,length_take,D0];omega
   have KO:List.take (j+1) (ai (out.take j++[y]))=ai (out.take j++[y]):=dm (by omega);have xT:(ai (out.drop j)).length=L - j:=by rw[aq,length_drop];omega
   have abA:List.take (L - j) (ai (out.drop j))=ai (out.drop j):=dm (by omega);have Bx:ai (out.take j++[y])++ai (out.drop j)=ai (out.take j++[y]++out.drop j):=by simp[ai]
   have mI:(out.take j++[y]++out.drop j).length=L+1:=by rw[qe,qe,length_take,length_drop,D0];omega
   obtain⟨o2,fE⟩:=ax (out.take j++[y]++out.drop j);rw[fE] at mH Bx mI;refine bm (bu h6b @Nat.sub_zero eO xR wX gf gy (bu ei kB bO abz KO sw xT (bA abA Bx rlo))) ?_
   repeat refine ag ?_
   refine aA (i+1,o2) ?_ ⟨by omega,by dsimp only;omega,mH.symm,hv⟩;exact bx [5]
 intro h1 h2
 have f0:i=n:=by omega
 have eO:cs.take i=cs:=dm (by omega)
 rw[eO] at cG xU
 rw[xU,if_neg (by simp),<-cG] at hR
 have wX:=bc (ls:=out) (n:=L) (by omega)
 subst hR
 refine ae h2 ?_
 refine O7 (vs:=[.lsl 0 0 L 27,.bool true]) rfl ⟨cK,cK,cK⟩ ?_
 exact kT (aB wX rlo)
theorem aab {l:List Raw} (h:IsCn l):(l.map Raw.q).map cn=l:=by
 obtain⟨qs,rfl,_⟩:=h;rw[p6]
def xu (lo hi:List (List Raw)):List (List Raw):=lo.flatMap fun l=>hi.map fun u=>bG u l
theorem JO {hi lo:List (List Raw)} {l:List Raw}:xu (lo++[l]) hi=xu lo hi++hi.map (fun u=>bG u l):=by simp[xu]
theorem Oj (lo hi:List (List Raw)):(xu lo hi).length=lo.length*hi.length:=by unfold xu;rw[gP (fun l u=>bG u l)]
theorem ajP (s:List (List Raw)) (v:Nat) (hv:v<8) (sX: ∀ l∈s,IsCn l) (f_: ∀ l∈s,LOk 1000 l) (hn:s.length<=100):
 Den Tryz.prog 253 [] [.fv (.sl (ai s)),.int .i64 v] [] (.fv (.sl (ai (xZ s v)))):=by
 have h9: ∀ l∈s,l.length=9:=fun l hl=>(f_ l hl).len
 have qX: ∀ b∈bT s v,LOk 2001 b:=wj f_ (by decide)
 have mN: ∀ b∈ba s v,LOk 2001 b:=rL f_ (by decide)
 have kE:=bN s v
 obtain⟨n,b8⟩:=ax s.length
 have rl:=aq s
 rw[b8] at rl hn kE
 obtain⟨R,hR⟩:=ax (xZ s v)
 rw[hR]
 refine dq Tryz.func253 69 0 ?_
 refine aW ?_
 refine wl (α:=Nat×List (List Raw)×List (List Raw)×List (List Raw)) (fun⟨i,lo,hi,out⟩=>⟨[.fv (.sl (ai s)),.int .i64 v,.any,.any,.nilsl,.lsl 2 0 out.length 27,.lsl 0 0 lo.length 27,.lsl 1 0 hi.length 27,.int .i64 i]++replicate 62 .any,[.row true (ai lo),.row true (ai hi),.row true (ai out)]⟩)
  (fun⟨i,_⟩=>n - i) (fun⟨i,lo,hi,out⟩=>i<=n/\lo=bT (s.take i) v/\hi=ba (s.take i) v/\out=ee (s.take i) v) (0,[],[],[]) ?_ ?_ ?_
 .refine Weak.nil 6 27 (by decide) rfl ?_
  refine Weak.nil 7 27 (by decide) rfl ?_
  refine Weak.nil 5 27 (by decide) rfl ?_
  refine eH [0,1,2] ?_ ?_
  .simp[bh,dF,cw]
  simp[d_,fD]
  simp[ai]
 .exact⟨dk _,rfl,rfl,rfl⟩
 rintro⟨i,lo,hi,out⟩ ⟨nj,ej,eC,cG⟩
 have dQ:=bN (s.take i) v
 rw[<-ej,<-eC,<-cG,length_take,b8] at dQ
 obtain⟨L1,KL⟩:=ax lo.length
 obtain⟨L2,DW⟩:=ax hi.length
 obtain⟨L3,KM⟩:=ax out.length
 have Fj:=aq lo
 have sY:=aq hi
 have Pr:=aq out
 dsimp only
 rw[KL] at dQ Fj ⊢
 rw[DW] at dQ sY ⊢
 rw[KM] at dQ Pr ⊢
 have Xa:=bc (ls:=lo) (n:=L1) (by omega)
 have Xb:=bc (ls:=hi) (n:=L2) (by omega)
 have KN:=bc (ls:=out) (n:=L3) (by omega)
 refine bw rl ?_
 refine bM ?_ ?_
 .intro h1 h2
  have cL:=eZ (cs:=s) (i:=i) (by omega)
  have aY:=bC (ls:=s) (i:=i) (by omega)
  have r1:=aV s i
  obtain⟨x,jn⟩:=ax (s.getD i [])
  rw[jn] at aY r1 cL
  have hx:=f_ x aY
  have lx:=hx.len
  have jG:=ay lx
  have fx:=aE x
  have gx:=ah x
  have ji:=aj lx
  by_cases h0:co x v=0
  .have kg:=QX x v hx hv h0
   have pe:=g8 (s:=s.take i) (v:=v) (x:=x) (by grind)
   have sF:=gj (s:=s.take i) (v:=v) (x:=x) (by grind)
   have fj:=oY (s:=s.take i) h0
   have bO:=bI out x
   unfold FL at kg
   rw[aab (sX x aY)] at kg
   unfold RL at kg
   have e1:((0:Int)==1)=false:=rfl
   have e2:((0:Int)== -1)=false:=rfl
   refine bm (dN h2 r1 jG fx lx rl) ?_
   repeat refine ag ?_
   refine gv kg ?_
   refine bm (bu e1 e2 gx lx ji jG KN (aB bO Pr)) ?_
   repeat refine ag ?_
   refine aA (i+1,lo,hi,out++[x]) ?_ ⟨by omega,by rw[cL,pe,ej],by rw[cL,sF,eC],by rw[cL,fj,cG]⟩
   exact bx [0,1,5]
  have kg:=Yu x v hx hv h0
  have kd:(cJ v x).length=9:=eu lx
  have fj:=rZ (s:=s.take i) h0
  unfold FL RL at kg
  change Den Tryz.prog 148 [] [.agg (flat x),.int .i64 v] [] (.tup [.agg (flat (cJ v x)),.int .i64 (fQ (x.getD v rz).q)]) at kg
  by_cases hp:0<co x v
  .have pe:=qC (s:=s.take i) hp
   have sF:=gj (s:=s.take i) (v:=v) (x:=x) (by grind)
   have bO:=bI lo (cJ v x)
   obtain⟨y,hy⟩:=ax (cJ v x)
   rw[hy] at kg kd pe bO
   have gy:=ah y
   have kB:=ay kd
   have gf:=aj kd
   rw[show fQ (x.getD v rz).q=1 from lB hp] at kg
   have e1:((1:Int)==1)=true:=rfl
   refine bm (dN h2 r1 jG fx lx rl) ?_
   repeat refine ag ?_
   refine gv kg ?_
   refine bm (bu gy kd e1 gf kB Xa bO Fj) ?_
   repeat refine ag ?_
   refine aA (i+1,lo++[y],hi,out) ?_ ⟨by omega,by rw[cL,pe,ej],by rw[cL,sF,eC],by rw[cL,fj,cG]⟩
   exact bx [5,1,2]
  have iw:co x v<0:=by grind
  have pe:=g8 (s:=s.take i) (v:=v) (x:=x) hp
  have sF:=nV (s:=s.take i) iw
  have bO:=bI hi (cJ v x)
  obtain⟨y,hy⟩:=ax (cJ v x)
  rw[hy] at kg kd sF bO
  have gy:=ah y
  have kB:=ay kd
  have gf:=aj kd
  rw[show fQ (x.getD v rz).q= -1 from oK iw] at kg
  have e1:((-1:Int)==1)=false:=rfl
  have e2:((-1:Int)== -1)=true:=rfl
  refine bm (dN h2 r1 jG fx lx rl) ?_
  repeat refine ag ?_
  refine gv kg ?_
  refine bm (bu gy kd e1 e2 gf kB Xb (aB bO sY)) ?_
  repeat refine ag ?_
  refine aA (i+1,lo,hi++[y],out) ?_ ⟨by omega,by rw[cL,pe,ej],by rw[cL,sF,eC],by rw[cL,fj,cG]⟩
  exact bx [0,5,2]
 intro h1 h2
 have f0:i=n:=by omega
 have eO:s.take i=s:=dm (by omega)
 rw[eO] at ej eC cG
 have jg:R=out++xu lo hi:=by rw[<-hR,ej,eC,cG];rfl
 have Il: ∀ b∈lo,LOk 2001 b:=by rw[ej];exact qX
 have Bh: ∀ b∈hi,LOk 2001 b:=by rw[eC];exact mN
 have yu:L1*L2<=10000:=Nat.mul_le_mul (show L1<=100 by omega) (show L2<=100 by omega)
 clear ej eC cG
 refine ae h2 ?_
 refine wl (α:=Nat×List (List Raw)) (fun⟨j,gw⟩=>⟨[.fv (.sl (ai s)),.int .i64 v,.any,.any,.nilsl,.lsl 2 0 gw.length 27,.lsl 0 0 L1 27,.lsl 1 0 L2 27,.any,.any,.any,.int .i64 j]++replicate 59 .any,[.row true (ai lo),.row true (ai hi),.row true (ai gw)]⟩)
  (fun⟨j,_⟩=>L1 - j) (fun⟨j,gw⟩=>j<=L1/\gw=out++xu (lo.take j) hi) (0,out) ?_ ?_ ?_
 .exact bx [0,1,2]
 .exact⟨dk _,by simp[xu]⟩
 rintro⟨j,gw⟩ ⟨hj,fE⟩
 obtain⟨M,hM⟩:=ax gw.length
 dsimp only
 rw[hM]
 refine aW ?_
 refine bM ?_ ?_
 .intro h3 h4
  have cL:=eZ (cs:=lo) (i:=j) (by omega)
  have aY:=bC (ls:=lo) (i:=j) (by omega)
  have r1:=aV lo j
  obtain⟨l,nk⟩:=ax (lo.getD j [])
  rw[nk] at aY r1 cL
  have hl:=Il l aY
  have ll:=hl.len
  have Zm:=ay ll
  have fl:=aE l
  have gl:=ah l
  have wY:=aj ll
  refine ae h4 ?_
  refine wl (α:=Nat×List (List Raw)) (fun⟨q,jj⟩=>⟨[.fv (.sl (ai s)),.int .i64 v,.any,.any,.nilsl,.lsl 2 0 jj.length 27,.lsl 0 0 L1 27,.lsl 1 0 L2 27,.any,.any,.any,.int .i64 j,.int .i64 q]++replicate 58 .any,[.row true (ai lo),.row true (ai hi),.row true (ai jj)]⟩)
   (fun⟨q,_⟩=>L2 - q) (fun⟨q,jj⟩=>q<=L2/\jj=gw++(hi.take q).map (fun u=>bG u l)) (0,gw) ?_ ?_ ?_
  .exact bx [0,1,2]
  .exact⟨dk _,by simp⟩
  rintro⟨q,jj⟩ ⟨hq,yV⟩
  have hM3:jj.length<=10200:=by
   have e1:jj.length=gw.length+q:=by rw[yV];simp;omega
   have e2:gw.length=L3+(lo.take j).length*hi.length:=by
    rw[fE,qe,KM,Oj]
   have e4:(lo.take j).length=j:=by rw[length_take];omega
   rw[e4,DW] at e2;have e5:(j+1)*L2<=L1*L2:=qn _ (by omega);rw[Nat.add_mul] at e5;omega
  obtain⟨M3,Tz⟩:=ax jj.length
  have Ps:=aq jj
  rw[Tz] at hM3 Ps
  dsimp only
  rw[Tz]
  refine aW ?_
  refine bM ?_ ?_
  .intro h5 h6
   have ID:=eZ (cs:=hi) (i:=q) (by omega)
   have IE:=bC (ls:=hi) (i:=q) (by omega)
   have r3:=aV hi q
   obtain⟨u,Tx⟩:=ax (hi.getD q [])
   rw[Tx] at IE r3 ID
   have hu:=Bh u IE
   have lu:=hu.len
   have Xd:=ay lu
   have fu:=aE u
   have gu:=ah u
   have Bu:=aj lu
   have mJ:=Oi l (hl.mono (by decide))
   have Td:=zC u (cV l) (hu.mono (by decide)) ((mi hl (by decide)).mono (by decide))
   change Den Tryz.prog 101 [] [RL u,RL (cV l)] [] (RL (bG u l)) at Td
   have ei:=ew ll
   have fr:=d7 lu ll
   have bO:=bI jj (bG u l)
   have hmp:(hi.take (q+1)).map (fun u=>bG u l)=(hi.take q).map (fun u=>bG u l)++[bG u l]:=by rw[ID,tY];rfl
   obtain⟨nl,abx⟩:=ax (cV l)
   obtain⟨d,hd⟩:=ax (bG u l)
   rw[abx] at mJ Td ei
   rw[hd] at Td fr bO hmp
   have gnl:=ah nl
   have gd:=ah d
   have Pu:=aj fr
   have Zn:=ay fr
   have KN:=bc (ls:=jj) (n:=M3) (by omega)
   unfold RL at mJ Td
   refine ae h6 ?_
   refine dw (by kernel_rfl) ?_
   refine bm (bu r1 Zm fl ll r3 Xd fu (bA lu Fj sY)) ?_
   repeat refine ag ?_
   refine gv mJ ?_
   refine vG ?_
   repeat refine ag ?_
   refine gv Td ?_
   refine bm (dN gd fr Zn KN bO Ps) ?_
   repeat refine ag ?_
   refine aA (q+1,jj++[d]) ?_ ⟨by omega,by rw[hmp,yV,append_assoc]⟩
   exact bx [0,1,4]
  intro h5 h6
  have hqe:q=L2:=by omega
  have KO:hi.take q=hi:=dm (by omega)
  rw[KO] at yV
  refine ae h6 ?_
  refine aA (j+1,jj) ?_ ⟨by omega,by rw[cL,JO,yV,fE,append_assoc]⟩
  exact bx [0,1,2]
 intro h3 h4
 have wX:lo.take j=lo:=dm (by omega)
 rw[wX,<-jg] at fE
 subst fE
 have Pv:=aq gw
 have tk5:=bc (ls:=gw) (n:=M) (by omega)
 rw[hM] at Pv
 refine ae h4 ?_
 refine O7 (vs:=[.lsl 2 0 M 27]) rfl ⟨cK,cK⟩ ?_
 exact kT (aB tk5 Pv)
theorem afi (Uq:List (List Raw)) (sB:Vi Uq):Den Tryz.prog 226 [] [.fv (.sl (ai Uq))] [] (.bool (dr (sysL Uq []))):=by
 obtain⟨R,hR⟩:=ax (dr (sysL Uq []));rw[hR];refine dq Tryz.func226 44 0 ?_;refine aW ?_;refine wl (α:=Nat×List (List Raw)) (fun⟨v,cs⟩=>⟨[.fv (.sl (ai cs)),.any,.bool false,.int .i64 v]++replicate 41 .any,[]⟩)
  (fun⟨v,_⟩=>8 - v) (fun⟨v,cs⟩=>v<=8/\Vi cs/\dr (sysL cs [])=R/\ ∀ w,w<v->occ cs w=false) (0,Uq) ?_ ?_ ?_
 .exact bx []
 .exact⟨dk _,sB,hR,fun w hw=>by omega⟩
 rintro⟨v,cs⟩ ⟨hv8,hp,hf,Co⟩;have h9: ∀ l∈cs,l.length=9:=fun l hl=>(hp.ok l hl).len
 have anP:=hp.len;refine aW ?_;refine bM ?_ ?_
 .intro h1 h2;have hv:v<8:=by omega
  have abB:=afg cs v hv (fun l hl=>(hp.ok l hl).mono (by decide)) (by omega);obtain⟨o,ho⟩:=ax (occ cs v);rw[ho] at abB;cases o with
  | false=>
   refine ae h2 ?_;refine aM abB ?_;refine ae @Bool.not_false ?_;refine aA (v+1,cs) ?_ ⟨by omega,hp,hf,fun w hw=>by
    by_cases S6:w=v
    .rw[S6];exact ho
    exact Co w (by omega)⟩
   exact bx []
  | true=>
   have h99:=ajP cs v hv hp.cnf hp.ok (by omega);have Iw:=gQ h9;have hg:=hp.good;obtain⟨s,hs⟩:=ax (sysL cs []);rw[hs] at Iw hg hf;have hos:=Va hv h9 hp.nc Iw;have yr:=U' hv h9 hp.nc Iw;have pR: ∀ x∈xZ cs v,LOk 4004 x:=fun x hx=>Ei hp.ok (by decide) x (qg.1 hx)
   have aF:(xZ cs v).length<=2000:=by
    have e1:=bN cs v;have e2:(xZ cs v).length=(ee cs v).length+(bT cs v).length*(ba cs v).length:=by
     unfold xZ;rw[qe,gP (fun l u=>bG u l)]
    have e3:(bT cs v).length*(ba cs v).length<=37*37:=Nat.mul_le_mul (by omega) (by omega);omega
   have Zq: ∀ x∈xZ cs v,aX x->co x 8<=0->dr s=false:=by
    intro x hx hc h0;have hb:NN s v:=by
     rw[yr];rcases gO.1 (qg.1 hx) with⟨h3,_⟩ | ⟨l,hl,u,hu,h3,h4,rfl⟩
     .exact absurd hc (hp.nc x h3)
     exact⟨_,fI.2 ⟨u,hu,h4,rfl⟩,_,gN.2 ⟨l,hl,h3,rfl⟩,hc,h0⟩
    exact hg.bad hv ((lD hg.len9).2 hb)
   obtain⟨cc,nh⟩:=ax (xZ cs v);rw[nh] at h99 hos pR aF Zq;have h9c: ∀ x∈cc,x.length=9:=fun x hx=>(pR x hx).len
   obtain⟨n,b8⟩:=ax cc.length;have rl:=aq cc;rw[b8] at rl aF;refine ae h2 ?_;refine aM abB ?_;refine ae @Bool.not_true ?_;refine aM h99 ?_;refine aN ?_;refine wl (α:=Nat×List (List Raw)) (fun⟨i,kept⟩=>⟨[.fv (.sl (ai cc)),.any,.bool false,.int .i64 v,.lsl 0 0 kept.length 27,.int .i64 i]++replicate 39 .any,[.row true (ai kept)]⟩)
    (fun⟨i,_⟩=>n - i) (fun⟨i,kept⟩=>i<=n/\kept=zX (cc.take i)/\ ∀ j,j<i->aX (cc.getD j [])->0<co (cc.getD j []) 8) (0,[]) ?_ ?_ ?_
   .refine Weak.nil 4 27 (by decide) rfl ?_;refine eH [0] ?_ ?_
    .simp[bh,dF,cw]
    simp[d_,fD];rfl
   .exact⟨dk _,rfl,fun j hj=>by omega⟩
   rintro⟨i,kept⟩ ⟨hi,hk,Th⟩;have pL:kept.length<=2000:=by
    have e1:=GQ (cs:=cc) (i:=i);have e2:(ncs cc).length<=cc.length:=List.length_filter_le _ _;rw[hk];omega
   obtain⟨K,hK⟩:=ax kept.length;have rlk:=aq kept;rw[hK] at rlk pL;dsimp only;rw[hK];refine bw rl ?_;refine bM ?_ ?_
   .intro h3 h4;have cL:=eZ (cs:=cc) (i:=i) (by omega);have aY:=bC (ls:=cc) (i:=i) (by omega);have r1:=aV cc i;have TB:(aX (cc.getD i [])->0<co (cc.getD i []) 8)-> ∀ j,j<i+1->aX (cc.getD j [])->0<co (cc.getD j []) 8:=fun h0 j hj=>by
     by_cases ss:j=i
     .rw[ss];exact h0
     exact Th j (by omega)
    obtain⟨x,jn⟩:=ax (cc.getD i []);rw[jn] at aY r1 cL TB;have hx:=pR x aY;have lx:=hx.len;have jG:=ay lx;have fx:=aE x;have gx:=ah x;have ji:=aj lx;have hN:=YI x (hx.mono (by decide));change Den Tryz.prog 251 [] [RL x] [] (RL (dp x)) at hN;have Zo:=mh hx (by decide);have ei:=g7 lx;have xP:=xr lx;have Uh:=Dc lx;have abC:=fun h=>Da (cs:=cc.take i) (l:=x) h
    have ag8:=fun h=>xq (cs:=cc.take i) (l:=x) h
    obtain⟨y,hy⟩:=ax (dp x);rw[hy] at hN Zo ei xP Uh abC;have hc:=afe y (Zo.mono (by decide));rw[xP] at hc;obtain⟨b,hb⟩:=ax (cy x);rw[hb] at hc abC ag8;have gy:=ah y;have gf:=aj ei;have kB:=ay ei;have I':=jY ei;have tkk:=bc (ls:=kept) (n:=K) (by omega);have bO:=bI kept y;unfold RL at hN hc;refine bm (dN h4 r1 jG fx lx rl) ?_
    repeat refine ag ?_
    refine gv hN ?_;refine bm (bA gy ei gf) ?_
    repeat refine ag ?_
    refine gv hc ?_;cases b with
    | false=>
     have mL: ¬aX x:=fun h=>by rw[(cN lx).2 h] at hb;cases hb
     refine bm (bu @Bool.not_false gy ei gf kB tkk bO rlk) ?_
     repeat refine ag ?_
     refine aA (i+1,kept++[y]) ?_ ⟨by omega,by rw[cL,abC rfl,hk],TB (fun h=>absurd h mL)⟩;exact bx [3]
    | true=>
     have W4:aX x:=(cN lx).1 hb;have fM:=mc (y.getD 8 rz) ((Zo.at 8).mono (by decide));have nv:co y 8=(y.getD 8 rz).q:=rfl;obtain⟨r,hr⟩:=ax (y.getD 8 rz);rw[hr] at fM I' nv;unfold Raw.v at fM;have dP:fQ r.q<=0↔co x 8<=0:=by
      rw[<-Uh.2,nv];have:=@jW r.q;grind
     refine bm (dR @Bool.not_true I' gy ei) ?_
     repeat refine ag ?_
     refine aM fM ?_;refine ae @append_nil.{0} ?_;refine bM ?_ ?_
     .intro h5 h6;have tV:R=false:=by rw[<-hf];exact Zq x aY W4 (dP.1 h5)
      subst tV;refine ae h6 ?_;exact a_ rfl
     intro h5 h6;refine ae h6 ?_;refine aA (i+1,kept) ?_ ⟨by omega,by rw[cL,ag8 rfl];exact hk,TB (fun _=>by
      have:=fun h=>h5 (dP.2 h)
      grind)⟩
     exact bx [0]
   intro h3 h4;have eO:cc.take i=cc:=dm (by omega);rw[eO] at hk;have hko: ∀ f∈kept,LOk 100000 f/\ ¬aX f:=fun f Ur=>by
    rw[hk] at Ur;obtain⟨l,hl,rfl⟩:=mem_map.1 Ur;obtain⟨h5,h6⟩:=(kO h9c).1 hl;exact⟨(mh (pR l h5) (by decide)).mono (by decide),jy (h9c l h5) h6⟩
   have Zr:=afh kept (fun f Ur=>(hko f Ur).1) (by omega);have hvk:eg kept=false:=by
    cases Nd:eg kept with
    | false=>rfl
    | true=>
     obtain⟨l,hl,h5,_⟩:=(k5 (fun f Ur=>(hko f Ur).1.len)).1 Nd;exact absurd h5 (hko l hl).2
   have jH:sysL kept []=jm s v:=by
    have e1:IsSys kept (jm s v):=by rw[hk];exact(Vb h9c).2 hos
    exact(e1.eq (fun f Ur=>(hko f Ur).1.len)).symm
   rw[hvk,if_neg (by simp),jH] at Zr;have Pp:uI s v=false:=by
    cases hb:uI s v with
    | false=>rfl
    | true=>
     exfalso;have eI:=yr.1 ((lD hg.len9).1 hb);obtain⟨u,hu,l,hl,h5,h6⟩:=eI;have hm:bG u l∈cc:=by
      rw[<-nh];unfold xZ;rw[qr,List.mem_flatMap];exact .inr ⟨l,hl,mem_map.2 ⟨u,hu,rfl⟩⟩
     obtain⟨j,hj,he⟩:=lF.1 hm;have:=Th j (by omega) (by rw[he];exact h5);rw[he] at this;grind
   have tkk:=bc (ls:=kept) (n:=K) (by omega);have Y6:=hg.step hv;refine ae h4 ?_;refine gp Zr (by simp[bJ,eT,eo,dZ,rlk,tkk]) ?_;refine ae @append_nil.{0} ?_;refine aA (v+1,jm s v) ?_ ⟨by omega,Y6.pre,by rw[Y6.self,hg.feas hv Pp];exact hf,fun w hw=>?_⟩
   .exact bx []
   cases how:occ (jm s v) w with
   | false=>rfl
   | true=>
    obtain⟨h5,h6⟩:=Oe hg hv (by omega) how;have h7:=(yE h9 Iw (by omega)).1 h6;rw[Co w (by omega)] at h7;cases h7
 intro h1 h2;have hv:v=8:=by omega
 have sG:cs=[]:=by
  cases hc:cs with
  | nil=>rfl
  | cons l t=>
   exfalso;have hl:l∈cs:=by rw[hc];simp
   obtain⟨w,hw,h0⟩:=nM (hp.nc l hl);have:=Co w (by omega);rw[eP.2 ⟨l,hl,h0⟩] at this;cases this
 have tV:R=true:=by
  rw[<-hf,sG];exact Db
 subst tV;refine ae h2 ?_;exact a_ rfl
theorem afj (Uq:List (List Raw)) (sB:Pre Uq):Den Tryz.prog 226 [] [.fv (.sl (ai Uq))] [] (.bool (dr (sysL Uq []))):=afi Uq sB.r
theorem afk (cs:List (List Raw)) (h:CsOk cs):Den Tryz.prog 225 [] [.fv (.sl (ai cs))] [] (if eg cs then .tup [.fv (.sl []),.bool false] else .tup [.fv (.sl (ai (sysL cs []))),.bool true]):=
 afh cs (fun l hl=>(h.ok l hl).mono (by decide)) (by have:=h.len;omega)
theorem afl (s:List (List Raw)) (h:GoodS s):Den Tryz.prog 226 [] [.fv (.sl (ai s))] [] (.bool (dr s)):=by
 have:=afj s h.pre;rw[h.self] at this;exact this
theorem YJ {w:Nat}:co (replicate 9 rz) w=0:=by
 have rq:rz.q=0:=by
  unfold Raw.q rz g5;simp[val]
 unfold co;rw[qa,List.getElem?_replicate];split
 .exact rq
 exact rq
theorem qD {l:List Raw} {v w:Nat} {r:Raw} (h:w≠v):co (l.set v r) w=co l w:=by
 unfold co;rw[qa,qm (fun e=>h e.symm),<-qa]
def uU:List Raw:=(replicate 9 rz).set 8 (cn ((-1:Int):Rat))
theorem RJ:dp uU=dt ((-1:Int):Rat):=by
 have h9:uU.length=9:=by simp[uU]
 have hl:(bU uU).q=((-1:Int):Rat):=by
  decide+kernel
 have h0:(bU uU).q≠0:=by rw[hl];decide
 have ha:d9 ((-1:Int):Rat)=1:=by decide+kernel
 have hn:IsCn (dt ((-1:Int):Rat)):=⟨(replicate 9 (0:Rat)).set 8 ((-1:Int):Rat),by simp[dt],by simp⟩;refine wz (mn h9) hn (fun i hi=>?_);rw[oL h9 h0 hi,hl,ha,zY hi];by_cases h8:i=8
 .subst h8;rw[if_pos rfl];unfold uU co;rw[qa,qv (by simp),Option.getD_some,cu];grind
 rw[if_neg h8];unfold uU;rw[qD h8,YJ];grind
theorem Vk:LOk 1 uU:=by
 refine⟨by simp[uU],fun r hr=>?_⟩;unfold uU at hr;rcases List.mem_or_eq_of_mem_set hr with h1 | h1
 .rw[List.eq_of_mem_replicate h1];exact⟨Dig.nil,Dig.nil,dk _,dk _⟩
 rw[h1];exact bj (bd_int (by decide))
theorem ajQ:Den Tryz.prog 230 [] [] [] (.fv (.sl (ai [dt ((-1:Int):Rat)]))):=by
 have Cj:=zg (-1) (by decide);change Den Tryz.prog 74 [] [.int .i64 (-1)] [] (cn ((-1:Int):Rat)).v at Cj;have hN:=Yo uU (Vk.mono (by decide));change Den Tryz.prog 71 [] [RL uU] [] (RL (dp uU)) at hN;rw[RJ] at hN;have ei:=g9 ((-1:Int):Rat);have hF:flat uU=[.bool false,.fv (.sl []),.fv (.sl []),.bool false,.fv (.sl []),.fv (.sl []),.bool false,.fv (.sl []),.fv (.sl []),.bool false,.fv (.sl []),.fv (.sl []),.bool false,.fv (.sl []),.fv (.sl []),.bool false,.fv (.sl []),.fv (.sl []),.bool false,.fv (.sl []),.fv (.sl []),.bool false,.fv (.sl []),.fv (.sl []),.bool (cn ((-1:Int):Rat)).neg,.fv (.sl (u32s (cn ((-1:Int):Rat)).num)),.fv (.sl (u32s (cn ((-1:Int):Rat)).den))]:=rfl;unfold RL at hN;rw[hF] at hN;have r1:ai [dt ((-1:Int):Rat)]=[cx (dt ((-1:Int):Rat))]:=rfl;rw[r1];obtain⟨c,hc⟩:=ax (cn ((-1:Int):Rat));rw[hc] at Cj hN
 obtain⟨y,hy⟩:=ax (dt ((-1:Int):Rat));rw[hy] at hN ei ⊢;have gy:=ah y;have gf:=aj ei;have kB:=ay ei;unfold Raw.v at Cj;refine dq Tryz.func230 5 0 ?_;refine aW ?_;refine aM Cj ?_;refine aN ?_;refine aM hN ?_;refine bm (bA gy ei kB) ?_;exact a_ rfl
theorem aac:Den Tryz.prog 195 [] [] [] (.fv (.sl (ai [dt ((-1:Int):Rat)]))):=by
 have jN:=iy (-1) (by decide);change Den Tryz.prog 32 [] [.int .i64 (-1)] [] (cn ((-1:Int):Rat)).v at jN;have BN:=Vj (cn ((-1:Int):Rat)) (Raw.Ok.mono (bj (bd_int (by decide))) (by decide));rw[cu] at BN;have ei:=g9 ((-1:Int):Rat);have r1:ai [dt ((-1:Int):Rat)]=[cx (dt ((-1:Int):Rat))]:=rfl;rw[r1];obtain⟨c,hc⟩:=ax (cn ((-1:Int):Rat));rw[hc] at jN BN;obtain⟨y,hy⟩:=ax (dt ((-1:Int):Rat));rw[hy] at BN ei ⊢;have gy:=ah y;have gf:=aj ei;have kB:=ay ei;unfold Raw.v at jN BN;unfold RL at BN;refine dq Tryz.func195 4 0 ?_;refine aW ?_;refine aM jN ?_;refine aN ?_;refine aM BN ?_;refine bm (bA gy ei kB) ?_;exact a_ rfl
theorem Mm {s:List (List Raw)} {i:Nat} (hg:GoodT s) (hi:i<s.length):CsOk (kQ s i++[cV (s.getD i [])])/\aZ (kQ s i++[cV (s.getD i [])])=oW s i/\Pre (kQ s i++[cV (s.getD i [])]):=by
 have hl:=rS hi;obtain⟨h1,h2⟩:=hg.turn (t:=kQ s i) (fun l hl=>uO hl) (bC hi) (by omega);have h9: ∀ l∈kQ s i++[cV (s.getD i [])],l.length=9:=fun l hl=>(h2.ok l hl).len
 refine⟨⟨fun l hl=>(h2.ok l hl).mono (by decide),by have:=h2.len;omega,?_,h1,fun l hl _=>h2.ok l hl⟩,GR h9 h2.nc,h2⟩;have h3:=kn (kQ s i++[cV (s.getD i [])]);have h4:=hg.good.len;rw[qe,D0] at h3;omega
theorem ajR (cs:List (List Raw)) (h:tZ cs):Den Tryz.prog 194 [] [.fv (.sl (ai cs))] [] (.fv (.sl (ai (aQ cs)))):=by
 obtain⟨R,hR⟩:=ax (aQ cs);rw[hR];unfold aQ aZ at hR;have pn:=afk cs h.cs;have t_:=h.good;have kV:=afl _ t_.good;have I2:=aac;cases Nd:eg cs with
 | true=>
  rw[Nd,if_pos rfl] at pn;rw[Nd] at hR;have tV:R=[dt ((-1:Int):Rat)]:=hR.symm;subst tV;refine dq Tryz.func194 47 0 ?_;refine aW ?_;refine aM pn ?_;refine ae @Bool.not_false ?_;refine aM I2 ?_;refine aN ?_;exact a_ rfl
 | false=>
  rw[Nd,if_neg (by simp)] at pn;rw[Nd] at hR;cases KE:dr (sysL cs []) with
  | false=>
   rw[KE] at hR kV;have tV:R=[dt ((-1:Int):Rat)]:=hR.symm;subst tV;refine dq Tryz.func194 47 0 ?_;refine aW ?_;refine aM pn ?_;refine ae @Bool.not_true ?_;refine aM kV ?_;refine ae @Bool.not_false ?_;refine aM I2 ?_;refine aN ?_;exact a_ rfl
  | true=>
   rw[KE,Bool.not_false,Bool.and_true,if_pos rfl] at hR;rw[KE] at kV;obtain⟨s0,DT⟩:=ax (sysL cs []);rw[DT] at pn t_ kV hR;refine dq Tryz.func194 47 0 ?_;refine aW ?_;refine aM pn ?_;refine ae @Bool.not_true ?_;refine aM kV ?_;refine ae @Bool.not_true ?_;refine wl (α:=Nat×List (List Raw)) (fun⟨i,s⟩=>⟨[.fv (.sl (ai cs)),.any,.nilsl,.fv (.sl (ai s)),.bool true,.int .i64 i]++replicate 42 .any,[]⟩)
    (fun⟨i,s⟩=>s.length - i) (fun⟨i,s⟩=>i<=s.length/\GoodT s/\jA (s.length - i) i s=R) (0,s0) ?_ ?_ ?_
   .exact bx []
   .exact⟨dk _,t_,hR⟩
   rintro⟨i,s⟩ ⟨hi,hg,ez⟩;have Pq:=hg.good.len;have f_:=hg.good.lim;obtain⟨n,b8⟩:=ax s.length;have rl:=aq s;have k7:=yH (ls:=s) (fun l hl=>(f_ l hl).len);rw[b8] at rl Pq hi ez;refine bw rl ?_;refine bM ?_ ?_
   .intro h1 h2;have f0:i<s.length:=by omega
    have aY:=bC (ls:=s) (i:=i) f0;have r1:=aV s i;obtain⟨fL,ag9,Wt⟩:=Mm hg f0;have KS:=afj _ Wt;have alD:dr (sysL (kQ s i++[cV (s.getD i [])]) [])=oW s i:=rfl;rw[alD] at KS;have xT:=rS f0;have yR:=hg.sub (rR (s:=s) (i:=i));have h8:n - i=(n - (i+1))+1:=by omega
    rw[h8] at ez;unfold jA at ez;rw[if_pos f0] at ez;obtain⟨b,hb⟩:=ax (oW s i);rw[hb] at KS ez;obtain⟨x,jn⟩:=ax (s.getD i []);rw[jn] at aY r1 KS;have hx:=f_ x aY;have lx:=hx.len;have jG:=ay lx;have fx:=aE x;have gx:=ah x;have ji:=aj lx;have mJ:=Oi x (hx.mono (by decide));have ei:=ew lx;have rd:=aq (kQ s i);have bO:=bI (kQ s i) (cV x);have Fk:(kQ s i).length=n - 1:=by omega
    rw[Fk] at rd;have tkd:=bc (ls:=kQ s i) (n:=n - 1) (by omega);have e1:((i:Int)+1).toNat=i+1:=by omega
    have t1:=Dk s i;have t1l:(ai (s.take i)).length=i:=by rw[aq,length_take];omega
    have t1t:List.take i (ai (s.take i))=ai (s.take i):=dm (by omega);have t1r:=yH (ls:=s.take i) (fun l hl=>(f_ l (xW hl)).len);have d1:=Dl s (i+1);have d1l:(ai (s.drop (i+1))).length=n - (i+1):=by rw[aq,length_drop,b8]
    have d1t:List.take (n - (i+1)) (ai (s.drop (i+1)))=ai (s.drop (i+1)):=dm (by omega);have d1r:=yH (ls:=s.drop (i+1)) (fun l hl=>(f_ l (mem_of_mem_drop hl)).len);have aha:=G4 s i;have e3:i+(n - (i+1))=n - 1:=by omega
    obtain⟨dd,ym⟩:=ax (kQ s i);rw[ym] at KS yR rd bO ez Fk tkd aha;obtain⟨y,hy⟩:=ax (cV x);rw[hy] at KS mJ ei bO;have gy:=ah y;have kB:=ay ei;have gf:=aj ei;have TC:(dd++[y]).length=n - 1+1:=by rw[qe,Fk];rfl
    have rll:=aq (dd++[y]);rw[TC] at rll;have h0n:0+(n - 1)<=(ai dd).length:=by omega
    unfold RL at mJ;refine ae h2 ?_;refine ae (eU @Nat.sub_zero rl k7 t1 t1l t1t t1r) ?_
    repeat refine ag ?_
    refine ae (eU e1 d1 d1l d1t d1r aha e3) ?_
    repeat refine ag ?_
    refine dw (by kernel_rfl) ?_;refine bm (eU rl r1 jG fx lx rd tkd) ?_
    repeat refine ag ?_
    refine gv mJ ?_;refine bm (dN gy ei kB rd tkd bO) ?_
    repeat refine ag ?_
    refine GoCall.show KS (Plain.lit _) (by omega) rfl ?_;cases b with
    | true=>
     rw[if_pos rfl] at ez;refine aN ?_;refine aA (i+1,s) ?_ ⟨by omega,hg,by rw[b8];exact ez⟩;exact bx []
    | false=>
     rw[if_neg (by simp)] at ez;refine aN ?_;refine aA (i,dd) ?_ ⟨by omega,yR,by rw[Fk,show n - 1 - i=n - (i+1) by omega];exact ez⟩;refine Weak.shut [1] ?_;refine Weak.fz 3 1 0 (n - 1) 27 (ai dd) rfl rfl (by omega) ?_;refine eH [] ?_ ?_
     .simp[bh,dF,cw,tkd]
     simp[d_]
   intro h1 h2;have f0:i=n:=by omega
   have h8:n - i=0:=by omega
   rw[h8] at ez;have TD:s=R:=ez;subst TD;refine ae h2 ?_;exact a_ rfl
noncomputable def xv (a b:List (List Raw)):Bool:=@decide (a=b) (Classical.propDecidable _)
theorem r5 {a b:List (List Raw)}:xv a b=true↔a=b:=by unfold xv;rw[@decide_eq_true_iff]
theorem Af (a:List (List Raw)):xv a a=true:=r5.2 rfl
theorem qE {a b:List (List Raw)}:xv a b=false↔a≠b:=by
 constructor
 .intro h he;rw[r5.2 he] at h;cases h
 intro h;cases h2:xv a b with
 | false=>rfl
 | true=>exact absurd (r5.1 h2) h
theorem afm (a b:List (List Raw)) (ha: ∀ l∈a,IsCn l/\LOk 1000 l) (hb: ∀ l∈b,IsCn l/\LOk 1000 l) (Tv:a.length<=1000) (_:b.length<=1000):
 Den Tryz.prog 96 [] [.fv (.sl (ai a)),.fv (.sl (ai b))] [] (.bool (xv a b)):=by
 obtain⟨R,hR⟩:=ax (xv a b)
 rw[hR]
 obtain⟨n,b8⟩:=ax a.length
 obtain⟨m,ub⟩:=ax b.length
 have rla:=aq a
 have rlb:=aq b
 rw[b8] at rla Tv
 rw[ub] at rlb
 refine dq Tryz.func96 25 0 ?_
 refine bw (aB rla rlb) ?_
 refine Br.bneInt ?_ ?_
 .intro h1 h2
  have tV:R=false:=by rw[<-hR,qE];intro he;rw[he] at b8;omega
  subst tV
  refine ae h2 ?_
  exact a_ rfl
 intro h1 h2
 refine ae h2 ?_
 refine wl (α:=Nat) (fun i=>⟨[.fv (.sl (ai a)),.fv (.sl (ai b)),.any,.any,.bool false,.int .i64 i]++replicate 21 .any,[]⟩)
  (fun i=>n - i) (fun i=>i<=n/\ ∀ j,j<i->a.getD j []=b.getD j []) 0 ?_ ?_ ?_
 .exact bx []
 .exact⟨dk _,fun j hj=>by omega⟩
 rintro i ⟨hi,f0⟩
 refine bw rla ?_
 refine bM ?_ ?_
 .intro h3 h4
  have hma:=bC (ls:=a) (i:=i) (by omega)
  have hmb:=bC (ls:=b) (i:=i) (by omega)
  have r1:=aV a i
  have r2:=aV b i
  have jr:a.getD i []=b.getD i []-> ∀ j,j<i+1->a.getD j []=b.getD j []:=fun h0 j hj=>by
   by_cases ss:j=i
   .rw[ss];exact h0
   exact f0 j (by omega)
  have TE:a.getD i []≠b.getD i []->R=false:=fun h0=>by
   rw[<-hR,qE];intro he;rw[he] at h0;exact h0 rfl
  obtain⟨x,jn⟩:=ax (a.getD i [])
  obtain⟨y,vM⟩:=ax (b.getD i [])
  rw[jn] at hma r1 jr TE
  rw[vM] at hmb r2 jr TE
  obtain⟨⟨p,hp,kU⟩,hxo⟩:=ha x hma
  obtain⟨⟨q,hq,Ft⟩,hyo⟩:=hb y hmb
  have Zj: ∀ z∈p,Bd 1000000000 z:=fun z hz=>by
   have:=hxo.bd (by decide) (cn z) (by rw[hp];exact mem_map.2 ⟨z,hz,rfl⟩);rw[cu] at this;exact this.mono (by decide)
  have Us: ∀ z∈q,Bd 1000000000 z:=fun z hz=>by
   have:=hyo.bd (by decide) (cn z) (by rw[hq];exact mem_map.2 ⟨z,hz,rfl⟩);rw[cu] at this;exact this.mono (by decide)
  have DU:=aer p q kU Ft Zj Us
  unfold FL at DU
  rw[<-hp,<-hq] at DU
  have wT:p=q↔x=y:=by
   constructor
   .intro h;rw[hp,hq,h]
   intro h;rw[<-p6 p,<-p6 q,<-hp,<-hq,h]
  obtain⟨c,hc⟩:=ax (decide (p=q))
  rw[hc] at DU
  have lx:=hxo.len
  have ly:=hyo.len
  have jG:=ay lx
  have kB:=ay ly
  have fx:=aE x
  have fy:=aE y
  unfold RL at DU
  refine ae h4 ?_
  refine dw (by kernel_rfl) ?_
  refine bm (bu r1 r2 jG kB fx fy lx (bA ly rla rlb)) ?_
  repeat refine ag ?_
  refine gv DU ?_
  cases c with
  | true=>
   have he:=wT.1 (of_decide_eq_true hc);refine bm @Bool.not_true ?_;refine aA (i+1) ?_ ⟨by omega,jr he⟩;exact bx []
  | false=>
   have he:x≠y:=fun h=>(of_decide_eq_false hc) (wT.2 h)
   have tV:=TE he;subst tV;refine bm @Bool.not_false ?_;exact a_ rfl
 intro h3 h4
 have tV:R=true:=by
  rw[<-hR,r5];apply List.ext_getElem (by omega);intro j h5 h6;have:=f0 j (by omega);rw[qa,qb h5,qa,qb h6] at this;exact this
 subst tV
 refine ae h4 ?_
 exact a_ rfl
theorem ajS (cs:List (List Raw)) (h:tZ cs):Den Tryz.prog 198 [] [.fv (.sl (ai cs))] [] (.fv (.sl (ai (aQ cs)))):=by
 obtain⟨R,hR⟩:=ax (aQ cs);rw[hR];unfold aQ aZ at hR;have pn:=afb cs h.cs;have t_:=h.good;have kV:=ajN _ t_.good;have I2:=ajQ;cases Nd:eg cs with
 | true=>
  rw[Nd,if_pos rfl] at pn;rw[Nd] at hR;have tV:R=[dt ((-1:Int):Rat)]:=hR.symm;subst tV;refine dq Tryz.func198 46 0 ?_;refine aW ?_;refine aM pn ?_;refine ae @Bool.not_false ?_;refine aM I2 ?_;refine aN ?_;exact a_ rfl
 | false=>
  rw[Nd,if_neg (by simp)] at pn;rw[Nd] at hR;cases KE:dr (sysL cs []) with
  | false=>
   rw[KE] at hR kV;have tV:R=[dt ((-1:Int):Rat)]:=hR.symm;subst tV;refine dq Tryz.func198 46 0 ?_;refine aW ?_;refine aM pn ?_;refine ae @Bool.not_true ?_;refine aM kV ?_;refine ae @Bool.not_false ?_;refine aM I2 ?_;refine aN ?_;exact a_ rfl
  | true=>
   rw[KE,Bool.not_false,Bool.and_true,if_pos rfl] at hR;rw[KE] at kV;obtain⟨s0,DT⟩:=ax (sysL cs []);rw[DT] at pn t_ kV hR;have pB:=zg (-1) (by decide);change Den Tryz.prog 74 [] [.int .i64 (-1)] [] (cn ((-1:Int):Rat)).v at pB;have sC: ∀ b:List Raw,LOk 1000 b->Den Tryz.prog 135 [] [RL b,(cn ((-1:Int):Rat)).v] [] (RL (cV b)):=fun b hb=>by
    have:=Lz b (cn ((-1:Int):Rat)) (hb.mono (by decide)) (bj (Bd.mono (show Bd 1 ((-1:Int):Rat) from⟨by decide,by decide⟩) (by decide)));rw[cu] at this;exact this
   obtain⟨c,hc⟩:=ax (cn ((-1:Int):Rat));rw[hc] at pB sC;unfold Raw.v at pB sC;refine dq Tryz.func198 46 0 ?_;refine aW ?_;refine aM pn ?_;refine ae @Bool.not_true ?_;refine aM kV ?_;refine ae @Bool.not_true ?_;refine aM pB ?_;refine aN ?_
   repeat refine ag ?_
   refine wl (α:=Nat×List (List Raw)) (fun⟨i,s⟩=>⟨[.fv (.sl (ai cs)),.any,.nilsl,.fv (.sl (ai s)),.bool true,.ptr 0 0 0,.int .i64 i]++replicate 40 .any,[.box true [.bool c.neg,.fv (.sl (u32s c.num)),.fv (.sl (u32s c.den))]]⟩)
    (fun⟨i,s⟩=>s.length - i) (fun⟨i,s⟩=>i<=s.length/\GoodT s/\jA (s.length - i) i s=R) (0,s0) ?_ ?_ ?_
   .exact bx [0]
   .exact⟨dk _,t_,hR⟩
   rintro⟨i,s⟩ ⟨hi,hg,ez⟩;have Pq:=hg.good.len;have f_:=hg.good.lim;obtain⟨n,b8⟩:=ax s.length;have rl:=aq s;rw[b8] at rl Pq hi ez;refine bw rl ?_;refine bM ?_ ?_
   .intro h1 h2;have f0:i<s.length:=by omega
    have aY:=bC (ls:=s) (i:=i) f0;have r1:=aV s i;obtain⟨fL,ag9,_⟩:=Mm hg f0;have IG:=afd _ fL;rw[ag9] at IG;have DS:=aaa s (fun l hl=>(f_ l hl).len) (by omega);have abD:=aff s i f0 (by omega);have xT:=rS f0;have abE:=aaa (kQ s i) (fun l hl=>(f_ l (uO hl)).len) (by omega);have yR:=hg.sub (rR (s:=s) (i:=i));have h8:n - i=(n - (i+1))+1:=by omega
    rw[h8] at ez;unfold jA at ez;rw[if_pos f0] at ez;obtain⟨b,hb⟩:=ax (oW s i);rw[hb] at IG ez;obtain⟨x,jn⟩:=ax (s.getD i []);rw[jn] at aY r1 IG;have hx:=f_ x aY;have lx:=hx.len;have jG:=ay lx;have fx:=aE x;have gx:=ah x;have ji:=aj lx;have I3:=sC x hx;have ei:=ew lx;have rd:=aq (kQ s i);have bO:=bI (kQ s i) (cV x);have Fk:(kQ s i).length=n - 1:=by omega
    rw[Fk] at rd abE;have tkd:=bc (ls:=kQ s i) (n:=n - 1) (by omega);obtain⟨dd,ym⟩:=ax (kQ s i);rw[ym] at IG abD abE yR rd bO ez Fk tkd;obtain⟨y,hy⟩:=ax (cV x);rw[hy] at IG I3 ei bO;have gy:=ah y;have kB:=ay ei;have gf:=aj ei;have TC:(dd++[y]).length=n - 1+1:=by rw[qe,Fk];rfl
    have rll:=aq (dd++[y]);rw[TC] at rll;rw[b8] at DS abD;have su: ∀ (H:List Ob) (a b:FV),shutBs H 1 [.lsl 1 0 n 27,.fv a,.fv b]=H:=fun _ _ _=>rfl
    have h0n:0+(n - 1)<=(ai dd).length:=by omega
    unfold RL at I3;refine ae h2 ?_;refine aM DS ?_;refine aN ?_;refine eG 1 abD trivial ?_;simp -dsimp(disch:=omega) only[append_nil,lent,su,lQ,reduceAdd];refine Draw.freeze [1] (by kernel_rfl) ?_;refine aN ?_;refine gp abE (by simp[bJ,eT,eo,dZ,rd,tkd]) ?_;refine bm (fO r1 jG fx lx rl) ?_
    repeat refine ag ?_
    refine gv I3 ?_;refine bm (dN gy ei kB rd tkd bO) ?_
    repeat refine ag ?_
    refine GoCall.show IG (Plain.lit _) (by omega) rfl ?_;cases b with
    | true=>
     rw[if_pos rfl] at ez;refine aN ?_;refine aA (i+1,s) ?_ ⟨by omega,hg,by rw[b8];exact ez⟩;exact bx [0]
    | false=>
     rw[if_neg (by simp)] at ez;refine aN ?_;refine aA (i,dd) ?_ ⟨by omega,yR,by rw[Fk,show n - 1 - i=n - (i+1) by omega];exact ez⟩;refine Weak.fz 3 1 0 (n - 1) 27 (ai dd) rfl rfl (by omega) ?_;refine eH [0] ?_ ?_
     .simp[bh,dF,cw,tkd]
     simp[d_,fD,dL,cw]
   intro h1 h2;have f0:i=n:=by omega
   have h8:n - i=0:=by omega
   rw[h8] at ez;have TD:s=R:=ez;subst TD;refine ae h2 ?_;exact a_ rfl
theorem ajT (cs:List (List Raw)) (h:tZ cs) (hl:cs.length<=40):Den Tryz.prog 156 [] [.fv (.sl (ai cs))] [] (.tup [.fv (.sl (ai (aQ cs))),.int .i64 0]):=by
 have h81:=ajS cs h;have rl:=aq cs;have e1:decide ((cs.length:Int)>40)=false:=oc;refine dq Tryz.func156 8 0 ?_;refine bw (aB rl e1) ?_;refine aM h81 ?_;refine aN ?_;exact a_ rfl
def i6 (Ls:List (List RR)):List (List FV):=Ls.map (fun l=>[FV.sl (aG l)])
theorem BW (Ls:List (List RR)):(i6 Ls).length=Ls.length:=by simp[i6]
theorem xw {Ls:List (List RR)} {i:Nat} (h:i<Ls.length):(i6 Ls).getD i []=[FV.sl (aG (Ls.getD i []))]:=by simp[i6,h]
theorem r6 {α:Type} {l:List α} {d:α} {i:Nat} (h:i<l.length):l.getD i d∈l:=by
 rw[qa,qb h];exact lY h
theorem Ag {α:Type} {l:List α} {d:α} {i:Nat} (h:i<l.length):l.take (i+1)=l.take i++[l.getD i d]:=by
 rw[List.take_succ_eq_append_getElem h,qa,qb h];rfl
structure Et (ts:List RT):Prop where
 ok:TsOk 1000000000 ts
 pb:PB 1000000000 (ts.map tq)
 len:ts.length<=10000000000
 srt:(nfR ts).length<=bk
def eY (r:RR):Bool:=decide (40<r.1.length)
def dU (l:List RR):Bool:=decide (4000<l.length)||l.any eY
def fw (l:List RR):Bool:=l.all (fun r=>validB r.2)
def i7 (Ls:List (List RR)):Int:=if Ls.any dU=true then 9 else if Ls.all fw=true then 0 else 2
theorem YK {ts:List RT} (h:Et ts):Den Tryz.prog 61 [] [PL ts] [] (if validB ts then .tup [PL ((nfR ts).map tn),.int .i64 0] else .tup [.fv (.sl []),.int .i64 2]):=by
 cases hv:validB ts with
 | true=>exact UZ ts h.ok h.pb h.len h.srt hv
 | false=>exact Yy ts h.ok h.len hv
theorem afn (Ls:List (List RR)) (hn:Ls.length<=10) (aF: ∀ l∈Ls,l.length<=1000000) (hp: ∀ l∈Ls,∀ r∈l,Et r.2) (hc: ∀ l∈Ls,∀ r∈l,r.1.length<=1000000):
 Den Tryz.prog 105 [] [.fv (.sl (i6 Ls))] [] (.int .i64 (i7 Ls)):=by
 have rl:=BW Ls
 obtain⟨n,b8⟩:=ax Ls.length
 rw[b8] at rl hn
 obtain⟨R,hR⟩:=ax (i7 Ls)
 rw[hR]
 unfold i7 at hR
 refine dq Tryz.func105 55 0 ?_
 refine bw rl ?_
 refine wl (α:=Nat) (fun i=>⟨[.fv (.sl (i6 Ls)),.any,.int .i64 0,.any,.any,.any,.any,.any,.any,.any,.any,.any,.any,.fv (.sl (i6 Ls)),.int .i64 n,.int .i64 i]++replicate 40 .any,[]⟩)
  (fun i=>n - i) (fun i=>i<=n/\(Ls.take i).any dU=false) 0 ?_ ?_ ?_
 .exact bx []
 .exact⟨dk _,rfl⟩
 rintro i ⟨h1,h2⟩
 refine aW ?_
 refine bM ?_ ?_
 .intro g1 g2
  have rx:=xw (Ls:=Ls) (i:=i) (by omega)
  have hm:=r6 (l:=Ls) (d:=[]) (i:=i) (by omega)
  have cL:=Ag (l:=Ls) (d:=[]) (i:=i) (by omega)
  obtain⟨l,hl⟩:=ax (Ls.getD i [])
  rw[hl] at rx hm cL
  have nk:=aF l hm
  have fr:=hc l hm
  have rll:=aK l
  obtain⟨m,ub⟩:=ax l.length
  rw[ub] at rll nk
  have Xg:dU l=true->Ls.any dU=true:=fun h=>fZ hm h
  by_cases h4:4000<m
  .have e1:decide ((m:Int)>4000)=true:=yP
   have hb:dU l=true:=by unfold dU;rw[ub,f3 h4];rfl
   rw[if_pos (Xg hb)] at hR
   subst hR
   refine ae (fO g2 rx rl rll e1) ?_
   repeat refine ag ?_
   exact a_ rfl
  have e1:decide ((m:Int)>4000)=false:=oc
  refine ae (fO g2 rx rl rll e1) ?_
  repeat refine ag ?_
  refine wl (α:=Nat) (fun j=>⟨[.fv (.sl (i6 Ls)),.any,.int .i64 0,.any,.any,.any,.any,.any,.any,.any,.any,.any,.any,.fv (.sl (i6 Ls)),.int .i64 n,.int .i64 i,.any,.any,.any,.any,.any,.any,.fv (.sl (aG l)),.int .i64 m,.int .i64 j]++replicate 31 .any,[]⟩)
   (fun j=>m - j) (fun j=>j<=m/\(l.take j).any eY=false) 0 ?_ ?_ ?_
  .exact bx []
  .exact⟨dk _,rfl⟩
  rintro j ⟨k1,k2⟩
  refine aW ?_
  refine bM ?_ ?_
  .intro g3 g4
   have ry:=cF (l:=l) (i:=j) (by omega)
   have m_:=iG (l:=l) (i:=j) (by omega)
   have TF:=jB (l:=l) (i:=j) (by omega)
   obtain⟨r,hr⟩:=ax (l.getD j qB)
   rw[hr] at ry m_ TF
   have hrc:=fr r m_
   have rlc:=aq r.1
   unfold x9 at ry
   by_cases mK:40<r.1.length
   .have e2:decide ((r.1.length:Int)>40)=true:=yP
    have hb:dU l=true:=by
     unfold dU;rw[fZ m_ (show eY r=true from f3 mK),Bool.or_true]
    rw[if_pos (Xg hb)] at hR
    subst hR
    refine ae (fO g4 ry rll rlc e2) ?_
    repeat refine ag ?_
    exact a_ rfl
   have e2:decide ((r.1.length:Int)>40)=false:=oc
   refine ae (fO g4 ry rll rlc e2) ?_
   repeat refine ag ?_
   refine aA (j+1) ?_ ⟨by omega,by rw[TF,any_append,k2];simp[eY];omega⟩
   exact bx []
  intro g3 g4
  have hjm:j=m:=by omega
  have eO:l.take j=l:=dm (by omega)
  rw[eO] at k2
  refine ae g4 ?_
  refine aA (i+1) ?_ ⟨by omega,by
   rw[cL,any_append,h2];have:dU l=false:=by unfold dU;rw[k2,ub,jI h4];rfl
   simp[this]⟩
  exact bx []
 intro g1 g2
 have f0:i=n:=by omega
 have eO:Ls.take i=Ls:=dm (by omega)
 rw[eO] at h2
 rw[if_neg (by rw[h2];decide)] at hR
 clear hc
 refine ae (aB g2 rl) ?_
 refine wl (α:=Nat) (fun i=>⟨[.fv (.sl (i6 Ls)),.any,.int .i64 0,.any,.any,.any,.any,.any,.any,.any,.any,.any,.any]++replicate 21 .any++[.fv (.sl (i6 Ls)),.int .i64 n,.int .i64 i]++replicate 19 .any,[]⟩)
  (fun i=>n - i) (fun i=>i<=n/\(Ls.take i).all fw=true) 0 ?_ ?_ ?_
 .exact bx []
 .exact⟨dk _,rfl⟩
 rintro i ⟨h1,h2⟩
 refine aW ?_
 refine bM ?_ ?_
 .intro g1 g2
  have rx:=xw (Ls:=Ls) (i:=i) (by omega)
  have hm:=r6 (l:=Ls) (d:=[]) (i:=i) (by omega)
  have cL:=Ag (l:=Ls) (d:=[]) (i:=i) (by omega)
  obtain⟨l,hl⟩:=ax (Ls.getD i [])
  rw[hl] at rx hm cL
  have nk:=aF l hm
  have kU:=hp l hm
  have rll:=aK l
  obtain⟨m,ub⟩:=ax l.length
  rw[ub] at rll nk
  refine ae (dR g2 rx rl rll) ?_
  repeat refine ag ?_
  refine wl (α:=Nat) (fun j=>⟨[.fv (.sl (i6 Ls)),.any,.int .i64 0,.any,.any,.any,.any,.any,.any,.any,.any,.any,.any]++replicate 21 .any++[.fv (.sl (i6 Ls)),.int .i64 n,.int .i64 i,.any,.any,.any,.fv (.sl (aG l)),.int .i64 m,.int .i64 j]++replicate 13 .any,[]⟩)
   (fun j=>m - j) (fun j=>j<=m/\(l.take j).all (fun r=>validB r.2)=true) 0 ?_ ?_ ?_
  .exact bx []
  .exact⟨dk _,rfl⟩
  rintro j ⟨k1,k2⟩
  refine aW ?_
  refine bM ?_ ?_
  .intro g3 g4
   have ry:=cF (l:=l) (i:=j) (by omega)
   have m_:=iG (l:=l) (i:=j) (by omega)
   have TF:=jB (l:=l) (i:=j) (by omega)
   obtain⟨r,hr⟩:=ax (l.getD j qB)
   rw[hr] at ry m_ TF
   have DV:=YK (kU r m_)
   unfold x9 at ry
   cases hv:validB r.2 with
   | false=>
    have hb:Ls.all fw=false:=by
     cases ha:Ls.all fw with
     | false=>rfl
     | true=>
      have:=List.all_eq_true.1 (List.all_eq_true.1 ha l hm) r m_;rw[hv] at this;cases this
    rw[hb,if_neg (by decide)] at hR;rw[hv,if_neg (by decide)] at DV;subst hR;have e2:((2:Int) !=0)=true:=rfl;refine ae (bA g4 ry rll) ?_
    repeat refine ag ?_
    refine aM DV ?_;refine ae e2 ?_;exact a_ rfl
   | true=>
    rw[hv,if_pos rfl] at DV;have e2:((0:Int) !=0)=false:=rfl;refine ae (bA g4 ry rll) ?_
    repeat refine ag ?_
    refine aM DV ?_;refine ae e2 ?_;refine aA (j+1) ?_ ⟨by omega,by rw[TF,qvb,k2];simp[hv]⟩;exact bx []
  intro g3 g4
  have hjm:j=m:=by omega
  have eO:l.take j=l:=dm (by omega)
  rw[eO] at k2
  refine ae g4 ?_
  refine aA (i+1) ?_ ⟨by omega,by
   rw[cL,qvb,h2];have:fw l=true:=k2;simp[this]⟩
  exact bx []
 intro g1 g2
 have f0:i=n:=by omega
 have eO:Ls.take i=Ls:=dm (by omega)
 rw[eO] at h2
 rw[if_pos h2] at hR
 subst hR
 refine ae g2 ?_
 exact a_ rfl
end Go.Proofs.YtjjbkjgifdhlcaaGreat
namespace Go.Pl
open Go.AM
def kR (s:List RC) (i j:Nat):List RC:=(s.take j).drop i
def polyS' (l:List RC):List Tm:=nf (l.flatMap (·.2))
structure MgI (s M:List RC) (i:Nat):Prop where
 nf:NF M
 lt: ∀ x∈M,∀ y∈s.drop i,cj x.1 y.1<0
 sum: ∀ k m,CnK k->dA k m M=dA k m (s.take i)
theorem MgI.start (s:List RC):MgI s [] 0:=⟨.nil,by simp,fun k m _=>by rw[List.take_zero]⟩
theorem Ah {s:List RC} {i j:Nat} (sE:i<=j):(kR s i j++(s.take i++s.drop j)).Perm s:=by
 have h1:s=s.take i++kR s i j++s.drop j:=by
  unfold kR;have h2:s.take i=(s.take j).take i:=by rw[List.take_take,Nat.min_eq_left sE]
  rw[h2,List.take_append_drop,List.take_append_drop]
 conv=>rhs;rw[h1]
 rw[<-append_assoc];exact List.Perm.append_right _ List.perm_append_comm
theorem G5 {s:List RC} {i j:Nat} {x:RC} (sE:i<=j) (hj:s[j]?=some x):kR s i (j+1)=kR s i j++[x]:=by
 unfold kR;have hl:j<s.length:=(List.getElem?_eq_some_iff.1 hj).1;have hx:s[j]=x:=(List.getElem?_eq_some_iff.1 hj).2;rw[List.take_succ_eq_append_getElem hl,List.drop_append_of_le_length (by rw[length_take];omega),hx]
theorem Eu {s:List RC} {i:Nat} {x:RC} (hi:s[i]?=some x):kR s i (i+1)=[x]:=by
 rw[G5 (qp _) hi];unfold kR;rw[List.drop_of_length_le (by rw[length_take];omega)];rfl
theorem Mo {s:List RC} {i j:Nat} {x:RC} (h:x∈kR s i j):x∈s:=xW (mem_of_mem_drop h)
theorem RcOk.flat {l:List RC} (h:RcOk l):Len8 (l.flatMap (·.2)):=fun t ht=>by
 obtain⟨r,hr,h2⟩:=List.mem_flatMap.1 ht;exact(h r hr).2.len t h2
theorem Ol {l:List RC} {x:RC} (hl:RcOk l) (hx:Canon x.2):nf (polyS' l++x.2)=polyS' (l++[x]):=by
 unfold polyS';rw[qyb,List.flatMap_singleton];exact Eqv.nf_eq ((Eqv.nf _).app (Eqv.refl _)) (Len8.app (Len8.nf hl.flat) hx.len) (Len8.app hl.flat hx.len)
theorem lK {x:RC} (hx:Canon x.2):polyS' [x]=x.2:=by
 unfold polyS';rw[List.flatMap_singleton,e_ hx]
theorem G6 {k:Kc} {m:Mn}: ∀ {l:List RC},(∀ x∈l,x.1=k)->dA k m l=b' m (l.flatMap (·.2))
 | [],_=>rfl
 | x::l,h=>by
  rw[dA,if_pos (h x (by simp)),G6 (fun y hy=>h y (ql _ hy)),List.flatMap_cons,fT]
theorem JP {k k2:Kc} {m:Mn} {l:List RC} (h: ∀ x∈l,x.1=k) (hk:k≠k2):dA k2 m l=0:=rX (fun x hx he=>hk ((h x hx).symm.trans he))
theorem MgI.step {s M:List RC} {i j:Nat} {k:Kc} (hs:s.Pairwise (fun a b=>cj a.1 b.1<=0)) (bF:RcOk s) (h:MgI s M i) (sE:i<j) (hj:j<=s.length)
 (hk: ∀ x∈kR s i j,x.1=k) (Be: ∀ y,s[j]?=some y->cj y.1 k≠0):
 MgI s (if polyS' (kR s i j)=[] then M else M++[(k,polyS' (kR s i j))]) j:=by
 have dJ:i<s.length:=by omega
 have KH:s[i]?=some s[i]:=qb dJ
 have ahb:s[i]∈kR s i j:=by
  unfold kR;have:s[i]=(s.take j)[i]'(by rw[length_take];omega):=by rw[List.getElem_take]
  rw[this];have h2:i<(s.take j).length:=by rw[length_take];omega
  rw[drop_eq_getElem_cons h2];simp
 have I_:s[i].1=k:=hk _ ahb
 have ahc:CnK k:=by rw[<-I_];exact(bF _ (lY dJ)).1
 have Ku:s[i]∈s.drop i:=by rw[drop_eq_getElem_cons dJ];exact mem_cons_self
 have hdj: ∀ y∈s.drop j,y∈s.drop i:=fun y hy=>by
  have:s.drop j=(s.drop i).drop (j - i):=by rw[List.drop_drop];congr 1;omega
  rw[this] at hy;exact mem_of_mem_drop hy
 have ahd: ∀ y∈s.drop j,cj k y.1<0:=fun y hy=>by
  have kD:j<s.length:=by
   have:=length_pos_of_mem hy;rw[length_drop] at this;omega
  have e7:=Be s[j] (qb kD);have dP:cj s[i].1 s[j].1<=0:=List.pairwise_iff_getElem.1 hs i j dJ kD sE;rw[I_] at dP;have KF:=gS s[j].1 k;have hcj:=(bF s[j] (lY kD)).1;rw[drop_eq_getElem_cons kD] at hy;rcases List.mem_cons.1 hy with h1 | h1
  .rw[h1];omega
  obtain⟨q,hq,rfl⟩:=List.mem_iff_getElem.1 h1;rw[List.getElem_drop] at*;rw[length_drop] at hq;have h2:=List.pairwise_iff_getElem.1 hs j (j+1+q) kD (by omega) (by omega);exact z' ahc hcj (bF _ (lY _)).1 (by omega) h2
 have KT:RcOk (kR s i j):=fun x hx=>bF x (Mo hx)
 have ez:Canon (polyS' (kR s i j)):=dc KT.flat
 have eO:s.take j=s.take i++kR s i j:=by
  unfold kR;have h2:s.take i=(s.take j).take i:=by rw[List.take_take,Nat.min_eq_left (by omega)]
  rw[h2,List.take_append_drop]
 have ku: ∀ k2 m,dA k2 m (kR s i j)=if k=k2 then b' m (polyS' (kR s i j)) else 0:=fun k2 m=>by
  by_cases hc:k=k2
  .rw[if_pos hc,<-hc,G6 hk];unfold polyS';rw[te]
  rw[if_neg hc,JP hk hc]
 by_cases hp:polyS' (kR s i j)=[]
 .rw[if_pos hp]
  refine⟨h.nf,fun x hx y hy=>h.lt x hx y (hdj y hy),fun k2 m jF=>?_⟩
  rw[eO,iE,h.sum k2 m jF,ku,hp]
  simp[b'];grind
 rw[if_neg hp]
 refine⟨⟨?_,fun x hx=>?_,fun x hx=>?_,fun x hx=>?_⟩,fun x hx y hy=>?_,fun k2 m jF=>?_⟩
 .rw[List.pairwise_append]
  refine⟨h.nf.sorted,List.pairwise_singleton _ _,fun x hx y hy=>?_⟩
  rw[qz] at hy
  subst hy
  have:=h.lt x hx _ Ku
  rw[I_] at this
  exact this
 .rcases List.mem_append.1 hx with h1 | h1
  .exact h.nf.cn x h1
  rw[qz] at h1;subst h1;exact ahc
 .rcases List.mem_append.1 hx with h1 | h1
  .exact h.nf.can x h1
  rw[qz] at h1;subst h1;exact ez
 .rcases List.mem_append.1 hx with h1 | h1
  .exact h.nf.ne x h1
  rw[qz] at h1;subst h1;exact hp
 .rcases List.mem_append.1 hx with h1 | h1
  .exact h.lt x h1 y (hdj y hy)
  rw[qz] at h1;subst h1;exact ahd y hy
 rw[iE,h.sum k2 m jF,eO,iE,ku,dA,dA];grind
theorem MgI.done {s M l:List RC} (h:MgI s M s.length) (hp:s.Perm l) (hl:RcOk l):M=ir l:=
 h.nf.of hl (fun k m hk=>by rw[h.sum k m hk,List.take_length,Oa hp])
end Go.Pl
namespace Go.Proofs.YtjjbkjgifdhlcaaGreat
open Go.AM Go.Pl
set_option maxRecDepth 100000
set_option maxHeartbeats 4000000
theorem Om {cs:List (List Raw)} (h:tZ cs):(∀ l∈aQ cs,IsCn l/\LOk 1000 l)/\(aQ cs).length<=40:=by
 unfold aQ;split
 .have hg:=gR h.good;exact⟨fun l hl=>⟨hg.good.cnf l hl,hg.good.lim l hl⟩,by have:=hg.good.len;exact gD (show(jA (sysL cs []).length 0 (sysL cs [])).length<=12 from this) (by decide)⟩
 refine⟨fun l hl=>?_,by decide⟩;rw[qz] at hl;subst hl;exact⟨⟨(replicate 9 (0:Rat)).set 8 ((-1:Int):Rat),by simp[dt],by simp⟩,rV.mono (by decide)⟩
noncomputable def i9 (r:RR):Bool:=aZ r.1&&!(nfR r.2).isEmpty
noncomputable def normL (L:List RR):List RC:=(L.filter i9).map (fun r=>(aQ r.1,nfR r.2))
theorem Ai {L:List RR} {r:RR}:normL (L++[r])=normL L++(if i9 r then [(aQ r.1,nfR r.2)] else []):=by
 unfold normL;rw[filter_append,tY];congr 1;cases h:i9 r<;>simp[h]
structure G7 (L:List RR):Prop where
 pg: ∀ r∈L,Et r.2
 val: ∀ r∈L,validB r.2=true
 cs: ∀ r∈L,r.1.length<=40->tZ r.1
 len:L.length<=1000000
 lim: ∀ r∈L,r.1.length<=1000000
 few:(normL L).length<20
 mer: ∀ t u:List RC,(t++u).Perm (normL L)->POk 10000000 1024 (polyS' t)/\(polyS' t).length<=bk
theorem uV {L:List RR} (h:G7 L) (hl:L.any eY=false):(∀ r∈normL L,CnK r.1/\AOk 1000 r.1/\r.1.length<=40)/\RcOk (normL L):=by
 have h1: ∀ r∈normL L,(CnK r.1/\AOk 1000 r.1/\r.1.length<=40)/\Canon r.2:=fun r hr=>by
  unfold normL at hr;obtain⟨x,hx,rfl⟩:=mem_map.1 hr;have qW:=(List.mem_filter.1 hx).1;have dP:x.1.length<=40:=by
   cases hc:eY x with
   | false=>simpa [eY] using hc
   | true=>rw[fZ qW hc] at hl;cases hl
  obtain⟨c1,c2⟩:=Om (h.cs x qW dP);exact⟨⟨fun f hf=>(c1 f hf).1,fun f hf=>(c1 f hf).2,c2⟩,dc (p_ (h.pg x qW).ok.l8)⟩
 exact⟨fun r hr=>(h1 r hr).1,fun r hr=>⟨(h1 r hr).1.1,(h1 r hr).2⟩⟩
theorem G8 {a:List RR} {b:List RC} (h:a.Perm (b.map rn)): ∃ s:List RC,a=s.map rn/\s.Perm b:=by
 have h2:(a.map (fun r=>((r.1,r.2.map tq):RC))).Perm b:=by
  have:=h.map (fun r=>((r.1,r.2.map tq):RC));rw[List.map_map] at this;have e:((fun r=>((r.1,r.2.map tq):RC)) ∘ rn)=id:=by
   funext x;show(x.1,(x.2.map tn).map tq)=x;rw[bE]
  rw[e,List.map_id] at this;exact this
 refine⟨_,?_,h2⟩;rw[List.map_map]
 conv=>lhs;rw[<-List.map_id a]
 refine List.map_congr_left (fun x hx=>?_);obtain⟨y,_,rfl⟩:=mem_map.1 (h.mem_iff.1 hx);show rn y=(y.1,((y.2.map tn).map tq).map tn);rw[bE];rfl
noncomputable def Vl (L:List RR):PV:=if L.any eY=true then .tup [.fv (.sl []),.int .i64 9] else .tup [RL' ((ir (normL L)).map rn),.int .i64 0]
theorem afo (L:List RR) (h:G7 L):Den Tryz.prog 107 [] [RL' L] [] (Vl L):=by
 have rl:=aK L;have aF:=h.len;obtain⟨n,b8⟩:=ax L.length;rw[b8] at rl aF;obtain⟨R,hR⟩:=ax (Vl L);rw[hR];unfold Vl at hR;refine dq Tryz.func107 121 0 ?_;refine bw rl ?_;refine wl (α:=Nat×List RC) (fun⟨i,out⟩=>⟨[RL' L,.any,.nilsl,.int .i64 0,.lsl 0 0 out.length 2,.any,.any,.any,.any,.any,.any,.any,.any,.any,.any,RL' L,.int .i64 n,.int .i64 i]++replicate 104 .any,[.row true (aG (out.map rn))]⟩)
  (fun⟨i,_⟩=>n - i) (fun⟨i,out⟩=>i<=n/\out=normL (L.take i)/\(L.take i).any eY=false) (0,[]) ?_ ?_ ?_
 .refine Weak.nil 4 2 (by decide) rfl ?_;refine eH [0] ?_ ?_
  .simp[bh,dF,cw]
  simp[d_,fD];simp[aG]
 .exact⟨dk _,rfl,rfl⟩
 rintro⟨i,out⟩ ⟨h1,h2,h3⟩;have pR:out.length<=i:=by
  rw[h2];unfold normL;rw[length_map];exact gD (List.length_filter_le _ _) (by rw[length_take];omega)
 obtain⟨M,hM⟩:=ax out.length;have rlo:=aK (out.map rn);rw[length_map,hM] at rlo;dsimp only;rw[hM] at pR ⊢;refine aW ?_;refine bM ?_ ?_
 .intro g1 g2;have ry:=cF (l:=L) (i:=i) (by omega);have hm:=iG (l:=L) (i:=i) (by omega);have cL:=jB (l:=L) (i:=i) (by omega);obtain⟨r,hr⟩:=ax (L.getD i qB);rw[hr] at ry hm cL;have f_:=h.lim r hm;have rlc:=aq r.1;have DV:=YK (h.pg r hm);rw[h.val r hm,if_pos rfl] at DV;unfold x9 at ry;by_cases mK:40<r.1.length
  .have e2:decide ((r.1.length:Int)>40)=true:=yP;rw[if_pos (fZ hm (show eY r=true from f3 mK))] at hR;subst hR;refine ae (fO g2 ry rl rlc e2) ?_
   repeat refine ag ?_
   exact a_ rfl
  have e2:decide ((r.1.length:Int)>40)=false:=oc;have e3:((0:Int) !=0)=false:=rfl;have fL:=h.cs r hm (by omega);have h20:=ajO r.1 fL.cs (by omega);have ua:=ajT r.1 fL (by omega);have Ch:=Ai (L:=L.take i) (r:=r);have hlr:eY r=false:=jI mK;have rlp:=aw ((nfR r.2).map tn);rw[length_map] at rlp;have hkb:i9 r=(aZ r.1&&!(nfR r.2).isEmpty):=rfl;have dQ:=(h.pg r hm).srt;have Na:=iq;obtain⟨b,hb⟩:=ax (aZ r.1);obtain⟨q,hq⟩:=ax (nfR r.2);obtain⟨c,hc⟩:=ax (aQ r.1);rw[hb] at h20 hkb;rw[hq] at DV hkb Ch rlp dQ;rw[hc] at ua Ch;refine ae (fO g2 ry rl rlc e2) ?_
  repeat refine ag ?_
  refine aM DV ?_;refine ae e3 ?_;refine aM h20 ?_;by_cases ke:b=false
  .subst ke;rw[show i9 r=false from hkb,if_neg (by decide),append_nil] at Ch;refine ae (aB e3 @Bool.not_false) ?_;refine aA (i+1,out) ?_ ⟨by omega,by rw[cL,Ch,h2],by rw[cL,any_append,h3];simp[hlr]⟩;exact bx [0]
  have jF:b=true:=by simpa using ke
  subst jF;by_cases Ph:q=[]
  .have e4:((q.length:Int)==0)=true:=by rw[Ph];rfl
   rw[show i9 r=false by rw[hkb,Ph];rfl,if_neg (by decide),append_nil] at Ch;refine ae (dR e3 @Bool.not_true rlp e4) ?_;refine aA (i+1,out) ?_ ⟨by omega,by rw[cL,Ch,h2],by rw[cL,any_append,h3];simp[hlr]⟩;exact bx [0]
  have e4:((q.length:Int)==0)=false:=by
   have:=length_pos_iff.2 Ph;rw[qx];omega
  have mO:q.isEmpty=false:=by simpa using Ph
  rw[show i9 r=true by rw[hkb,mO];rfl,if_pos rfl] at Ch;have bO:aG (out.map rn)++[[FV.sl (ai c),FV.sl (av (q.map tn))]]=aG ((out++[(c,q)]).map rn):=by
   rw[tY];exact iu _ (rn (c,q))
  have tk:=cO (l:=out.map rn) (n:=M) (by rw[length_map];omega);refine ae (dR e3 @Bool.not_true rlp e4) ?_;refine aM ua ?_;refine ae (dR e3 tk bO rlo) ?_
  repeat refine ag ?_
  refine aA (i+1,out++[(c,q)]) ?_ ⟨by omega,by rw[cL,Ch,h2],by rw[cL,any_append,h3];simp[hlr]⟩;exact bx [3]
 intro g1 g2;have f0:i=n:=by omega
 have eO:L.take i=L:=dm (by omega);rw[eO] at h2 h3;rw[if_neg (by rw[h3];decide)] at hR;obtain⟨Px,Bw⟩:=uV h h3;have TG:=h.few;have abF:=h.mer;rw[<-h2] at hR Px Bw TG abF;rw[hM] at TG;obtain⟨ls',fW,hpw,ahf⟩:=ae9 (out.map rn) (fun r hr=>by
  obtain⟨x,hx,rfl⟩:=mem_map.1 hr;have:=(Px x hx).2.2;exact⟨(Px x hx).1,fun l hl=>((Px x hx).2.1 l hl).mono (by decide),show x.1.length<=1000 by omega⟩) (by rw[length_map];omega)
 obtain⟨s,rfl,ni⟩:=G8 fW;rw[length_map,hM] at ahf;have kd:s.length=M:=by rw[ni.length_eq,hM]
 have Iv:RcOk s:=fun r hr=>Bw r (ni.mem_iff.1 hr)
 have jH: ∀ r∈s,AOk 1000 r.1/\r.1.length<=40:=fun r hr=>(Px r (ni.mem_iff.1 hr)).2
 have KF:s.Pairwise (fun a b=>cj a.1 b.1<=0):=by
  rw[List.pairwise_map] at hpw;refine hpw.imp (fun{a b} vL=>?_);have e:=gS a.1 b.1;have: ¬(cj b.1 a.1<0):=vL;omega
 have TH: ∀ t u:List RC,(t++u).Perm s->POk 10000000 1024 (polyS' t)/\(polyS' t).length<=bk:=fun t u hp=>abF t u (hp.trans ni)
 have Na:=iq;have rls:=aK (s.map rn);rw[length_map,kd] at rls;have tks:=cO (l:=s.map rn) (n:=M) (by rw[length_map];omega);have Py:((0:Int) !=0)=false:=rfl;clear abF Px;refine ae g2 ?_;refine eG 0 ahf trivial ?_;simp -dsimp(disch:=omega) only[append_nil,sl2,List.set_cons_zero,lQ];refine wl (α:=Nat×List RC) (fun⟨i,Mg⟩=>⟨[.any,.any,.nilsl,.int .i64 0,.fv (.sl (aG (s.map rn))),.any,.any,.any,.any,.any,.any,.lsl 0 0 Mg.length 2,.int .i64 i]++replicate 109 .any,[.row true (aG (Mg.map rn))]⟩)
  (fun⟨i,_⟩=>M - i) (fun⟨i,Mg⟩=>i<=M/\MgI s Mg i/\Mg.length<=i) (0,[]) ?_ ?_ ?_
 .refine Weak.shut [0] ?_;change Weak _ ⟨_,[Ob.row false (aG (s.map rn))]⟩ _;refine Weak.fz 4 0 0 M 2 (aG (s.map rn)) rfl rfl (by omega) ?_;refine Weak.nil 11 2 (by decide) rfl ?_;refine eH [1] ?_ ?_
  .simp[bh,dF,cw,tks]
  simp[d_,fD];simp[aG]
 .exact⟨dk _,MgI.start s,qp _⟩
 rintro⟨i,Mg⟩ ⟨h1,hI,xN⟩;obtain⟨K,hK⟩:=ax Mg.length;have rlm:=aK (Mg.map rn);rw[length_map,hK] at rlm;dsimp only at xN ⊢;rw[hK] at xN ⊢;refine bw rls ?_;refine bM ?_ ?_
 .intro g1 g2;obtain⟨⟨k,p0⟩,hx⟩: ∃ x,s[i]?=some x:=⟨_,qb (by omega)⟩;have sH:(k,p0)∈s:=List.mem_of_getElem? hx;have ry:=cF (l:=s.map rn) (i:=i) (by rw[length_map];omega);rw[show(s.map rn).getD i qB=rn (k,p0) by rw[qa,List.getElem?_map,hx];rfl] at ry;change _=[FV.sl (ai k),FV.sl (av (p0.map tn))] at ry;have hkc:=Iv _ sH;have I_:=jH _ sH;dsimp only at hkc I_;refine ae (bA g2 ry rls) ?_
  repeat refine ag ?_
  refine wl (α:=Nat×List Tm) (fun⟨j,p⟩=>⟨[.any,.any,.nilsl,.int .i64 0,.fv (.sl (aG (s.map rn))),.any,.any,.any,.any,.any,.any,.lsl 0 0 K 2,.int .i64 j,.ptr 1 0 0]++replicate 108 .any,[.row true (aG (Mg.map rn)),.box true [.fv (.sl (ai k)),.fv (.sl (av (p.map tn)))]]⟩)
   (fun⟨j,_⟩=>M - j) (fun⟨j,p⟩=>i<j/\j<=M/\(∀ x∈kR s i j,x.1=k)/\p=polyS' (kR s i j)) (i+1,p0) ?_ ?_ ?_
  .exact bx [0,1]
  .exact⟨by omega,by omega,fun x qW=>by rw[Eu hx,qz] at qW;rw[qW],by rw[Eu hx,lK hkc.2]⟩
  rintro⟨j,p⟩ ⟨sE,hjM,abG,hp⟩;have rlp:=aw (p.map tn);rw[length_map] at rlp;refine aW ?_;refine dw (by kernel_rfl) ?_;refine ae rls ?_;refine bM ?_ ?_
  .intro g3 g4;obtain⟨⟨k2,p2⟩,hy⟩: ∃ x,s[j]?=some x:=⟨_,qb (by omega)⟩;have hym:(k2,p2)∈s:=List.mem_of_getElem? hy;have rz:=cF (l:=s.map rn) (i:=j) (by rw[length_map];omega);rw[show(s.map rn).getD j qB=rn (k2,p2) by rw[qa,List.getElem?_map,hy];rfl] at rz;change _=[FV.sl (ai k2),FV.sl (av (p2.map tn))] at rz;have Xh:=Iv _ hym;have ahg:=jH _ hym;dsimp only at Xh ahg;have ahh:=YF k2 k (fun l hl=>(ahg.1 l hl).mono (by decide)) (fun l hl=>(I_.1 l hl).mono (by decide)) (by omega) (by omega);obtain⟨c,hc⟩:=ax (cj k2 k);rw[hc] at ahh;simp -dsimp(disch:=omega) only[g4,rz,rls,↓reduceIte,reduceAdd,reduceLT,reduceLeDiff,ru]
   repeat refine ag ?_
   refine aM ahh ?_;by_cases Kz:c=0
   .have e4:(c==0)=true:=by rw[Kz];rfl
    have alG:k2=k:=mz Xh.1 hkc.1 (by omega);have cL:=G5 (s:=s) (i:=i) (j:=j) (by omega) hy;have KT:RcOk (kR s i j):=fun x hx=>Iv x (Mo hx)
    have jr:=Ol KT (x:=(k2,p2)) Xh.2;rw[<-cL,<-hp] at jr;dsimp only at jr;have m1:=TH _ _ (Ah (s:=s) (i:=i) (j:=j) (by omega));have m2:=TH _ _ (Ah (s:=s) (i:=i) (j:=j+1) (by omega));have m3:=TH [(k2,p2)] _ (show([(k2,p2)]++_).Perm s from by
     have:=Ah (s:=s) (i:=j) (j:=j+1) (by omega);rw[Eu hy] at this;exact this)
    rw[lK Xh.2] at m3;rw[<-hp] at m1;rw[<-jr] at m2;have KS:=ae3 p p2 m1.1 m3.1 m1.2 m3.2 m2.2;obtain⟨p3,hp3⟩:=ax (nf (p++p2));rw[hp3] at KS jr;refine ae e4 ?_;refine dw (by kernel_rfl) ?_;simp -dsimp(disch:=omega) only[rz,rls,↓reduceIte,reduceAdd,reduceLT,reduceLeDiff,ru]
    repeat refine ag ?_
    refine aM KS ?_;refine ae Py ?_;refine aA (j+1,p3) ?_ ⟨by omega,by omega,fun x qW=>by
     rw[cL] at qW;rcases List.mem_append.1 qW with h9 | h9
     .exact abG x h9
     rw[qz] at h9;rw[h9];exact alG,jr⟩
    exact bx [0,1]
   have e4:(c==0)=false:=by rw[qx];exact Kz
   have Be: ∀ y,s[j]?=some y->cj y.1 k≠0:=fun y wR=>by
    rw[hy] at wR;cases wR;dsimp only;omega
   refine ae e4 ?_;have TI:=hI.step KF Iv sE (by omega) abG Be;rw[<-hp] at TI;by_cases sB:p=[]
   .have e5:decide ((p.length:Int)>0)=false:=by rw[sB];rfl
    rw[if_pos sB] at TI;refine ae (aB rlp e5) ?_;refine aA (j,Mg) ?_ ⟨by omega,TI,by show Mg.length<=j;omega⟩;exact bx [0]
   have kU:0<p.length:=length_pos_iff.2 sB;have e5:decide ((p.length:Int)>0)=true:=yP;rw[if_neg sB] at TI;have bO:aG (Mg.map rn)++[[FV.sl (ai k),FV.sl (av (p.map tn))]]=aG ((Mg++[(k,p)]).map rn):=by
    rw[tY];exact iu _ (rn (k,p))
   have tk:=cO (l:=Mg.map rn) (n:=K) (by rw[length_map];omega);refine ae (fO rlp e5 tk bO rlm) ?_
   repeat refine ag ?_
   refine aA (j,Mg++[(k,p)]) ?_ ⟨by omega,TI,by rw[qe,D0];omega⟩;exact bx [3]
  intro g3 g4;have Be: ∀ y,s[j]?=some y->cj y.1 k≠0:=fun y wR=>by
   rw[List.getElem?_eq_none (by omega)] at wR;cases wR
  have TI:=hI.step KF Iv sE (by omega) abG Be;rw[<-hp] at TI;by_cases sB:p=[]
  .have e5:decide ((p.length:Int)>0)=false:=by rw[sB];rfl
   rw[if_pos sB] at TI;refine ae (bA g4 rlp e5) ?_;refine aA (j,Mg) ?_ ⟨by omega,TI,by show Mg.length<=j;omega⟩;exact bx [0]
  have kU:0<p.length:=length_pos_iff.2 sB;have e5:decide ((p.length:Int)>0)=true:=yP;rw[if_neg sB] at TI;have bO:aG (Mg.map rn)++[[FV.sl (ai k),FV.sl (av (p.map tn))]]=aG ((Mg++[(k,p)]).map rn):=by
   rw[tY];exact iu _ (rn (k,p))
  have tk:=cO (l:=Mg.map rn) (n:=K) (by rw[length_map];omega);refine ae (dN g4 rlp e5 tk bO rlm) ?_
  repeat refine ag ?_
  refine aA (j,Mg++[(k,p)]) ?_ ⟨by omega,TI,by rw[qe,D0];omega⟩;exact bx [3]
 intro g1 g2;have f0:i=s.length:=by omega
 rw[f0] at hI;have jg:=hI.done ni Bw;rw[<-jg] at hR;subst hR;have e6:decide ((K:Int)>4000)=false:=oc;have tk:=cO (l:=Mg.map rn) (n:=K) (by rw[length_map];omega);refine ae (aB g2 e6) ?_;refine O7 (vs:=[.lsl 0 0 K 2,.int .i64 0]) rfl ⟨cK,cK,cK⟩ (show t6 [Ob.row true (aG (Mg.map rn))] [] (.tup [.lsl 0 0 K 2,.int .i64 0])=_ from ?_);exact kT (aB tk rlm)
theorem Mp {L:List RR} (h:i7 [L]=0):L.any eY=false/\L.length<=4000/\ ∀ r∈L,validB r.2=true:=by
 unfold i7 at h;have h1:dU L=false:=by
  cases hb:dU L with
  | false=>rfl
  | true=>rw[if_pos (by simp[hb])] at h;omega
 rw[if_neg (by simp[h1])] at h;have h2:fw L=true:=by
  cases hv:fw L with
  | true=>rfl
  | false=>rw[if_neg (by simp[hv])] at h;omega
 unfold dU at h1;rw[Bool.or_eq_false_iff] at h1;exact⟨h1.2,by simpa using h1.1,fun r hr=>List.all_eq_true.1 h2 r hr⟩
noncomputable def Ev (L:List RR):PV:=if i7 [L]=0 then .tup [RL' ((ir (normL L)).map rn),.int .i64 0] else .tup [.fv (.sl []),.int .i64 (i7 [L])]
theorem RK (L:List RR) (aF:L.length<=1000000) (hp: ∀ r∈L,Et r.2) (hc: ∀ r∈L,r.1.length<=1000000) (h:i7 [L]=0->G7 L):
 Den Tryz.prog 90 [] [RL' L] [] (Ev L):=by
 have TJ:=afn [L] (by simp) (fun l hl=>by rw[qz] at hl;rw[hl];exact aF) (fun l hl=>by rw[qz] at hl;rw[hl];exact hp) (fun l hl=>by rw[qz] at hl;rw[hl];exact hc)
 unfold Ev
 have e:i6 [L]=[[FV.sl (aG L)]]:=rfl
 rw[e] at TJ
 by_cases h0:i7 [L]=0
 .have abH:=afo L (h h0)
  unfold Vl at abH
  rw[if_neg (by rw[(Mp h0).1];decide)] at abH
  rw[if_pos h0]
  rw[h0] at TJ
  have e1:((0:Int) !=0)=false:=rfl
  refine dq Tryz.func90 14 0 ?_
  refine aW ?_
  refine aM TJ ?_
  refine ae e1 ?_
  refine aM abH ?_
  refine aN ?_
  exact a_ rfl
 rw[if_neg h0]
 obtain⟨c,nh⟩:=ax (i7 [L])
 rw[nh] at TJ h0 ⊢
 have e1:(c !=0)=true:=by simpa using h0
 refine dq Tryz.func90 14 0 ?_
 refine aW ?_
 refine aM TJ ?_
 refine ae e1 ?_
 exact a_ rfl
def minL (a b:List Raw):List Rat:=nK a ((b.map (fun r=>r.q*(-1))).map cn)
theorem afp (a b:List Raw) (ha:LOk 1000000 a) (hb:LOk 1000000 b):Den Tryz.prog 146 [] [RL a,RL b] [] (FL (minL a b)):=by
 have Cj:=zg (-1) (by omega);change Den Tryz.prog 74 [] [.int .i64 (-1)] [] (.agg (cn (-1)).c) at Cj;have hc:Raw.Ok 1 (cn (-1)):=bj Em;have KD:=Lz b (cn (-1)) (hb.mono (by decide)) (hc.mono (by decide));rw[cu] at KD;have hs:LOk 1000001 ((b.map (fun r=>r.q*(-1))).map cn):=LOk.map hb.len (fun r hr=>by
  have:=hb.bd (by decide) r hr;exact Bd.mul (j:=1000000) (k:=1) this Em (by decide))
 have h21:=Yv a ((b.map (fun r=>r.q*(-1))).map cn) (ha.mono (by decide)) (hs.mono (by decide));have hrl:(minL a b).length=9:=fR ha.len hs.len;change Den Tryz.prog 162 [] _ [] (FL (minL a b)) at h21;have ei:((minL a b).map cn).length=9:=by rw[length_map];exact hrl
 unfold FL at h21 KD ⊢;obtain⟨R,hR⟩:=ax ((minL a b).map cn);rw[hR] at h21 ei ⊢;obtain⟨S,hS⟩:=Lc ((b.map (fun r=>r.q*(-1))).map cn);rw[hS] at h21 KD hs;obtain⟨c,nh⟩:=ax (cn (-1));rw[nh] at Cj KD;have al:=ha.len;have bl:=hb.len;have sl:=hs.len;have a27:=aj al;have b27:=aj bl;have s27:=aj sl;have r27:=aj ei;have ga:=ah a;have gb:=ah b;have gs:=ah S;have gr:=ah R;change Den Tryz.prog 135 [] [RL b,.agg c.c] [] _ at KD;unfold RL at KD h21 ⊢;refine dq Tryz.func146 8 0 ?_;refine bw (dR ga gb al bl) ?_
 repeat refine ag ?_
 refine dw (by kernel_rfl) ?_;refine ae (dN ga gb al bl a27 b27) ?_
 repeat refine ag ?_
 refine aM Cj ?_;refine ae (aB @da @append_nil.{0}) ?_;refine gp KD (by simp[bJ,eT,zA,Gi,jK,iX]) ?_;refine bm @fG ?_
 repeat refine ag ?_
 refine gv h21 ?_;refine bm (aB gr ei) ?_
 repeat refine ag ?_
 exact RetOK.form rfl rfl ei
theorem gU {rs:List Raw} {t:Tm} (h:t∈cg rs):t.1.length=8/\ ∀ e∈t.1,0<=e/\e<=1024:=by
 obtain⟨u,hu,he⟩:=rF h;obtain⟨w,hw,rfl⟩:=mem_map.1 hu;rw[<-he];show w.1.length=8/\ ∀ e∈w.1,0<=e/\e<=1024;have hv:=xn rs;unfold validB at hv;rw[vP] at hv;have h1:=hv w hw;unfold gG at h1;rw[vP] at h1;refine⟨?_,fun e Jb=>by simpa using h1 e Jb⟩;unfold gI at hw;rcases List.mem_append.1 hw with hw | hw
 .obtain⟨j,_,rfl⟩:=mem_map.1 hw;simp[z8]
 rw[qz] at hw;rw[hw];rfl
theorem j6 {rs:List Raw} {k:Nat} (h:LOk k rs) (hk:1<=k):PB (9*(k+1)+1) (cg rs):=by
 have:=(PB.list hk (ts:=(gI rs).map tq) (fun t ht=>by
  obtain⟨u,hu,rfl⟩:=mem_map.1 ht;exact(uL h u hu).raw.bd hk)).nf
 rw[length_map,fY] at this;exact this
theorem r7 (rs:List Raw):(cg rs).length<=9:=by
 have:=wb ((gI rs).map tq);rw[length_map,fY] at this;exact this
def betT (v:Nat) (lo hi:List Raw) (p:List Tm):List Tm:=nf (cS v (cg hi) (bg v p)++cH (cS v (cg lo) (bg v p)) (-1))
theorem ajU (ts:List RT) (v:Nat) (hv:v<8) (lo hi:List Raw) (h8:TsOk 500000 ts) (hn:ts.length<=20) (hp:POk 900000 1024 (nfR ts)) (hs:(nfR ts).length<=bk) (hvB:validB ts=true) (hlB:xY v (nfR ts)=true)
 (ej:LOk 1000 lo) (eC:LOk 1000 hi) (P0:(lo.getD v rz).q=0) (hh0:(hi.getD v rz).q=0)
 (ok1:zU (cg hi) (dH v (bg v (nfR ts)))) (P_:zU (cg lo) (dH v (bg v (nfR ts)))) (hr:(betT v lo hi (nfR ts)).length<=bk) (ht:zW (betT v lo hi (nfR ts))<=1024) (hb:LOkT 1000000000 1000000 (betT v lo hi (nfR ts))):
 Den Tryz.prog 33 [] [PL ts,.int .i64 v,RL lo,RL hi] [] (.tup [PL ((betT v lo hi (nfR ts)).map tn),.int .i64 0]):=by
 have hm:=iq
 have k7:=ajG ts (v:Int) (by omega) h8 hn hs
 unfold Z1 at k7
 rw[if_neg (by rw[hvB];decide),if_neg (by omega),Int.toNat_natCast,if_pos hlB] at k7
 have wW:=hp.prim (v:=v) (by decide) (by decide) hv
 have kU:(bg v (nfR ts)).length<=bk:=by rw[eJ];exact hs
 have hP1:=j6 eC (by decide)
 have hP2:=j6 ej (by decide)
 have Pz:LOkT 1000000 100000 (cg hi):=⟨fun t ht=>(gU ht).1,fun t ht=>(hP1.bd (by decide) t ht).mono (by decide),fun t ht e he=>by have:=(gU ht).2 e he;omega⟩
 have I6:LOkT 1000000 100000 (cg lo):=⟨fun t ht=>(gU ht).1,fun t ht=>(hP2.bd (by decide) t ht).mono (by decide),fun t ht e he=>by have:=(gU ht).2 e he;omega⟩
 have l1:=r7 hi
 have l2:=r7 lo
 have a1:=aeY (bg v (nfR ts)) (cg hi) v hv (wW.mono (by decide) (by decide)) Pz (by omega) kU (by unfold bk;omega) ok1
 have a2:=aeY (bg v (nfR ts)) (cg lo) v hv (wW.mono (by decide) (by decide)) I6 (by omega) kU (by unfold bk;omega) P_
 have s1:=aeH hi (eC.mono (by decide))
 have s2:=aeH lo (ej.mono (by decide))
 obtain⟨u1,u2⟩:=ok1.out 0
 obtain⟨w1,w2⟩:=P_.out 0
 rw[List.drop_zero] at u1 u2 w1 w2
 change LOkT _ _ (cS v (cg hi) (bg v (nfR ts))) at u1
 change (cS v (cg hi) (bg v (nfR ts))).length<=_ at u2
 change LOkT _ _ (cS v (cg lo) (bg v (nfR ts))) at w1
 change (cS v (cg lo) (bg v (nfR ts))).length<=_ at w2
 have c1:POk 1000000 100000 (cS v (cg hi) (bg v (nfR ts))):=⟨iZ wW.canon Pz.len,u1.bd,u1.exp⟩
 have c2:POk 1000000 100000 (cS v (cg lo) (bg v (nfR ts))):=⟨iZ wW.canon I6.len,w1.bd,w1.exp⟩
 have Ww:=ajJ _ _ (c1.mono (by decide) (by decide)) (c2.mono (by decide) (by decide)) (by omega) (by omega) w2 hr
 change Den Tryz.prog 85 [] _ [] (PL ((betT v lo hi (nfR ts)).map tn)) at Ww
 have Ud:=ae0 (betT v lo hi (nfR ts)) hb.len (fun t ht x hx=>by have:=hb.exp t ht x hx;omega) (by omega)
 have z1:=nF (lo.getD v rz) ((ej.at v).mono (by decide))
 have z2:=nF (hi.getD v rz) ((eC.at v).mono (by decide))
 rw[P0] at z1
 rw[hh0] at z2
 change Den Tryz.prog 84 [] [.agg (lo.getD v rz).c] [] (.int .i64 0) at z1
 change Den Tryz.prog 84 [] [.agg (hi.getD v rz).c] [] (.int .i64 0) at z2
 have k1:=ej.len
 have k2:=eC.len
 have f1:List.take 3 (List.drop (v*3) (flat lo))=(lo.getD v rz).c:=b_ (by omega)
 have f2:List.take 3 (List.drop (v*3) (flat hi))=(hi.getD v rz).c:=b_ (by omega)
 obtain⟨ra,hra⟩:=ax (lo.getD v rz)
 obtain⟨rb,PX⟩:=ax (hi.getD v rz)
 rw[hra] at z1 f1
 rw[PX] at z2 f2
 have g1:=ah lo
 have g2:=ah hi
 have t1:=aj k1
 have t2:=aj k2
 obtain⟨A,hA⟩:=ax ((bg v (nfR ts)).map tn)
 obtain⟨P1,abK⟩: ∃ A,(cg hi).map tn=A:=⟨_,rfl⟩
 obtain⟨P2,abL⟩: ∃ A,(cg lo).map tn=A:=⟨_,rfl⟩
 obtain⟨B1,hB1⟩:=ax ((cS v (cg hi) (bg v (nfR ts))).map tn)
 obtain⟨B2,hB2⟩:=ax ((cS v (cg lo) (bg v (nfR ts))).map tn)
 obtain⟨C,hC⟩:=ax ((betT v lo hi (nfR ts)).map tn)
 rw[hA] at k7 a1 a2
 rw[abK] at a1 s1
 rw[abL] at a2 s2
 rw[hB1] at a1 Ww
 rw[hB2] at a2 Ww
 rw[hC] at Ww Ud ⊢
 obtain⟨x,hx⟩:=ax (zW (betT v lo hi (nfR ts)))
 rw[hx] at Ud ht
 have e1:decide (x>1024)=false:=oc
 have Is:((0:Int) !=0)=false:=rfl
 unfold RL at s1 s2 ⊢
 refine dq Tryz.func33 47 0 ?_
 refine bw (dR g1 g2 k1 k2) ?_
 repeat refine ag ?_
 refine aM k7 ?_
 refine ae (fO Is g1 k1 f1 @append_nil.{0}) ?_
 repeat refine ag ?_
 refine xL z1 ?_
 refine ae (dN Is @fG g2 k2 f2 @append_nil.{0}) ?_
 repeat refine ag ?_
 refine xL z2 ?_
 refine ae (bA Is @fG @append_nil.{0}) ?_
 repeat refine ag ?_
 refine dw (by kernel_rfl) ?_
 refine ae (bA g2 k2 t2) ?_
 repeat refine ag ?_
 refine gv s1 ?_
 refine vG ?_
 refine aM a1 ?_
 refine ae (dR g1 k1 t1 @append_nil.{0}) ?_
 repeat refine ag ?_
 refine gv s2 ?_
 refine vG ?_
 refine aM a2 ?_
 refine ae @append_nil.{0} ?_
 refine aM Ww ?_
 refine ae @append_nil.{0} ?_
 refine aM Ud ?_
 refine ae (aB e1 @append_nil.{0}) ?_
 refine a_ rfl
end Go.Proofs.YtjjbkjgifdhlcaaGreat
