/- Contracts:the reference's fractions:Mul,Div,Add. -/
import Derived.Test.YtjjbkjgifdhlcaaGreatT11
import Derived.Test.YtjjbkjgifdhlcaaGreatT8
import Derived.Test.YtjjbkjgifdhlcaaGreatT10
import Derived.Test.YtjjbkjgifdhlcaaGreatT1
set_option linter.all false
open Nat (reduceAdd reduceLT reduceLeDiff reduceMul)
open List (append_nil drop_eq_getElem_cons drop_succ_cons getElem?_eq_none length_cons length_map length_nil length_take map_cons mem_map nil_append replicate take_succ_cons take_succ_eq_append_getElem)
namespace Go.Proofs.YtjjbkjgifdhlcaaGreat
open Go.AM Go.Pl
set_option maxRecDepth 100000
set_option maxHeartbeats 2000000
theorem OS (r1 r2:Raw) (jC:r1.Ok 2000000000) (iQ:r2.Ok 2000000000):Den Tryz.prog 65 [] [r1.v,r2.v] [] (FR (r1.q*r2.q)):=by
 have ha:=nY r1 (jC.mono (by decide));have hb:=nY r2 (iQ.mono (by decide));have b1:=jC.bd (by decide);have b2:=iQ.bd (by decide);have c1:=bD b1;have c2:=bD b2;have hq:gP (decide (r1.q.num<0) !=decide (r2.q.num<0)) (r1.q.num.natAbs*r2.q.num.natAbs) (r1.q.den*r2.q.den)=r1.q*r2.q:=by
  rw[<-sN,cT,cT]
 have mP:=Ei (ai r1.q.num.natAbs) (ai r2.q.num.natAbs) (ao _) (ao _) (by have:=c1.lnum;simp only[cn] at this;omega) (by have:=c2.lnum;simp only[cn] at this;omega);have kR:=Ei (ai r1.q.den) (ai r2.q.den) (ao _) (ao _) (by have:=c1.lden;simp only[cn] at this;omega) (by have:=c2.lden;simp only[cn] at this;omega);have zw:=cA (aL b1.1 b2.1);have qP:=cA (aL b1.2 b2.2);have Ca:=AW (decide (r1.q.num<0) !=decide (r2.q.num<0)) (ai (r1.q.num.natAbs*r2.q.num.natAbs)) (ai (r1.q.den*r2.q.den)) (ao _) (ao _) (by omega) (by omega) (by rw[aj];exact Nat.mul_ne_zero r1.q.den_nz r2.q.den_nz);rw[aj,aj,hq] at Ca;rw[aj,aj] at mP kR;rw[bk] at ha hb Ca ⊢;unfold Raw.v at ha hb ⊢;rw[dc] at mP kR;rw[dc,dc] at ha hb;refine dq Tryz.func65 23 0 ?_
 refine aX ?_;refine dw (by kernel_rfl) ?_;refine a9 ?_;refine aW ha ?_;refine a9 ?_;refine aW hb ?_;refine a9 ?_;refine dw (by kernel_rfl) ?_;refine a9 ?_;refine aW mP ?_;refine a9 ?_;refine aW kR ?_;refine a9 ?_;refine aW Ca ?_;refine a9 ?_;refine bg rfl
theorem Ct {a c j k m:Nat} (ha:a<B^j) (hc:c<B^k) (hj:j<=m) (hk:k<=m):(ai (a+c)).length<=m+1:=
 cA (m4 (oK ha hj) (oK hc hk))
theorem OT (r1 r2:Raw) (jC:r1.Ok 1000000000) (iQ:r2.Ok 1000000000):Den Tryz.prog 67 [] [r1.v,r2.v] [] (FR (r1.q+r2.q)):=by
 have ha:=nY r1 (jC.mono (by decide));have hb:=nY r2 (iQ.mono (by decide));have b1:=jC.bd (by decide);have b2:=iQ.bd (by decide);have c1:=bD b1;have c2:=bD b2;have hq:=rG (decide (r1.q.num<0)) (decide (r2.q.num<0)) (a:=r1.q.num.natAbs) (c:=r2.q.num.natAbs) r1.q.den_nz r2.q.den_nz;rw[cT,cT] at hq;have gg:=Nat.mul_ne_zero r1.q.den_nz r2.q.den_nz;have mP:=Ei (ai r1.q.num.natAbs) (ai r2.q.den) (ao _) (ao _) (by have:=c1.lnum;simp only[cn] at this;omega) (by have:=c2.lden;simp only[cn] at this;omega);have kR:=Ei (ai r2.q.num.natAbs) (ai r1.q.den) (ao _) (ao _) (by have:=c2.lnum;simp only[cn] at this;omega) (by have:=c1.lden;simp only[cn] at this;omega)
 have Va:=Ei (ai r1.q.den) (ai r2.q.den) (ao _) (ao _) (by have:=c1.lden;simp only[cn] at this;omega) (by have:=c2.lden;simp only[cn] at this;omega);have zw:=cA (aL b1.1 b2.2);have qP:=cA (aL b2.1 b1.2);have Vh:=cA (aL b1.2 b2.2);have wt:=Ct (m:=2000000000) (aL b1.1 b2.2) (aL b2.1 b1.2) (by decide) (by decide);rw[aj,aj] at mP kR Va;rw[bk] at ha hb;unfold Raw.v at ha hb ⊢;rw[dc] at mP kR Va;rw[dc,dc] at ha hb;rw[hq];obtain⟨x,hx⟩:=aw (r1.q.num.natAbs*r2.q.den);obtain⟨y,hy⟩:=aw (r2.q.num.natAbs*r1.q.den);obtain⟨z,hz⟩:=aw (r1.q.den*r2.q.den);rw[hx] at mP zw wt;rw[hy] at kR qP wt;rw[hz] at Va Vh gg;rw[hx,hy,hz];obtain⟨s,hs⟩:=aw (decide (r1.q.num<0));obtain⟨t,ht⟩:=aw (decide (r2.q.num<0));rw[hs] at ha;rw[ht] at hb;rw[hs,ht]
 refine dq Tryz.func67 65 0 ?_;refine aX ?_;refine dw (by kernel_rfl) ?_;refine a9 ?_;refine aW ha ?_;refine a9 ?_;refine aW hb ?_;refine a9 ?_;refine dw (by kernel_rfl) ?_;refine a9 ?_;refine aW mP ?_;refine a9 ?_;refine aW kR ?_;refine a9 ?_;refine aW Va ?_;by_cases bP:s=t
 .have hb:(s==t)=true:=by rw[bP];exact beq_self_eq_true _
  have h56:=Wx (ai x) (ai y) (ao _) (ao _) (by omega) (by omega);rw[aj,aj,dc] at h56;have Ca:=AW s (ai (x+y)) (ai z) (ao _) (ao _) (by omega) (by omega) (by rw[aj];exact gg);rw[aj,aj,<-Cp bP gg,bk] at Ca;rw[bk];refine ae hb ?_;refine dw (by kernel_rfl) ?_;refine a9 ?_;refine aW h56 ?_;refine a9 ?_;refine aW Ca ?_;refine a9 ?_;refine bg rfl
 have hb:(s==t)=false:=by rw[qx];exact bP
 by_cases aH:x<y
 .have h63:=SX (ai x) (ai y) (ao _) (ao _) (by omega) (by omega) (by rw[aj,aj];exact aH);have aer:=Wz (ai y) (ai x) (ao _) (ao _) (by omega) (by omega) (by rw[aj,aj];omega);rw[aj,aj,dc] at aer;have iE:=b' (Nat.sub_le y x);have Ca:=AW t (ai (y - x)) (ai z) (ao _) (ao _) (by omega) (by omega) (by rw[aj];exact gg);rw[aj,aj,<-uq bP aH gg,bk] at Ca;rw[bk];have Ay:((1:Int)==0)=false:=rfl;refine ae hb ?_;refine aW h63 ?_;refine ae Ay ?_;refine aW aer ?_;refine a9 ?_;refine aW Ca ?_;refine a9 ?_;refine bg rfl
 have h63:=Wz (ai x) (ai y) (ao _) (ao _) (by omega) (by omega) (by rw[aj,aj];omega);rw[aj,aj,dc] at h63;have iE:=b' (Nat.sub_le x y);have Ca:=AW s (ai (x - y)) (ai z) (ao _) (ao _) (by omega) (by omega) (by rw[aj];exact gg);rw[aj,aj,<-ur bP aH gg,bk] at Ca;rw[bk];have NC:((0:Int)==0)=true:=rfl;refine ae hb ?_;refine aW h63 ?_;refine ae NC ?_;refine aW Ca ?_;refine a9 ?_;refine bg rfl
theorem ak1 (r1 r2:Raw) (jC:r1.Ok 1000000000) (iQ:r2.Ok 1000000000):Den Tryz.prog 64 [] [r1.v,r2.v] [] (FR (r1.q - r2.q)):=by
 have D2:=acF r2 (iQ.mono (by decide));have b2:=iQ.bd (by decide);have RF:=OT r1 (cn (-r2.q)) jC (bD b2.neg);rw[cQ,<-Rat.sub_eq_add_neg] at RF;change Den Tryz.prog 67 [] [r1.v,FR (-r2.q)] [] _ at RF;rw[bk] at D2;rw[bk,bk] at RF;rw[bk];unfold Raw.v at D2 RF ⊢;refine dq Tryz.func64 7 0 ?_;refine aX ?_;refine dw (by kernel_rfl) ?_;refine a9 ?_;refine aW D2 ?_;refine a9 ?_;refine aW RF ?_;refine a9 ?_;refine bg rfl
theorem mg (n:Int) (hn: -9223372036854775808<=n/\n<9223372036854775808):Den Tryz.prog 32 [] [.int .i64 n] [] (FR (n:Rat)):=by
 have l1:ai 1=[1]:=mc (l:=[1]) (fun d hd=>by simp at hd;subst hd;decide) (Or.inr (by decide));have aiU:((n:Int):Rat).num=n:=rfl;have bU:((n:Int):Rat).den=1:=rfl;rw[bk,aiU,bU];unfold N;rw[l1];refine dq Tryz.func32 28 0 ?_;refine aX ?_;refine bR ?_ ?_
 .intro h1 h2;obtain⟨k,hk⟩: ∃ k:Nat,n=(k:Int):=⟨n.toNat,by omega⟩;have Vi:=Wy k (by omega);rw[<-hk,dc] at Vi;rw[mX (show¬n<0 by omega),show n.natAbs=k by omega];refine ae h2 ?_;refine aW Vi ?_;refine a9 ?_;refine bg rfl
 intro h1 h2;obtain⟨k,hk⟩: ∃ k:Nat,n= -((k:Int)+1):=⟨(-n - 1).toNat,by omega⟩;have Vi:=Wy k (by omega);have rk:(ai k).length<=2:=aB (Nat.lt_of_lt_of_le (show k<18446744073709551616 by omega) (by decide));have h56:=Wx (ai k) [1] (ao _) (Dig.mk (by decide) Dig.nil) (by omega) (by simp);have hv1:val [1]=1:=rfl;rw[aj,hv1,dc] at h56;rw[dc] at Vi;rw[ib (show n<0 by omega),show n.natAbs=k+1 by omega];have e1:0 - (n+1)=(k:Int):=by omega
 refine ae (aQ h2 e1) ?_;refine aW Vi ?_;refine a9 ?_;refine gp h56 ?_ ?_
 .rfl
 refine a9 ?_;refine bg rfl
def vw (r1 r2:Raw):Bool:=r1.neg==r2.neg&&(r1.num==r2.num&&r1.den==r2.den)
theorem OU (p q:Rat):vw (cn p) (cn q)=decide (p=q):=by
 by_cases h:p=q
 .subst h;simp[vw]
 rw[mX h];rcases hb:vw (cn p) (cn q) with _ | _
 .rfl
 exfalso;simp only[vw,DV,beq_iff_eq] at hb;apply h;rw[<-cQ p,<-cQ q];unfold Raw.q;rw[hb.1,hb.2.1,hb.2.2]
theorem WC (r1 r2:Raw) (jC:r1.Ok 5000000000) (iQ:r2.Ok 5000000000):Den Tryz.prog 62 [] [r1.v,r2.v] [] (.bool (vw r1 r2)):=by
 have h1:=Ww r1.num r2.num (by have:=jC.lnum;omega) (by have:=iQ.lnum;omega);have h2:=Ww r1.den r2.den (by have:=jC.lden;omega) (by have:=iQ.lden;omega);unfold Raw.v vw;obtain⟨b1,dV⟩:=aw ((r1.num==r2.num));obtain⟨b2,eo⟩:=aw ((r1.den==r2.den));obtain⟨b0,Hg⟩:=aw ((r1.neg==r2.neg));rw[dV] at h1;rw[eo] at h2;rw[Hg,dV,eo];cases b0
 .refine dq Tryz.func62 22 0 ?_;refine b8 Hg ?_;refine bg rfl
 cases b1
 .refine dq Tryz.func62 22 0 ?_;refine b8 Hg ?_;refine aW h1 ?_;refine a9 ?_;refine bg rfl
 refine dq Tryz.func62 22 0 ?_;refine b8 Hg ?_;refine aW h1 ?_;refine a9 ?_;refine aW h2 ?_;refine a9 ?_;refine bg rfl
theorem Ej (p q:Int) (hq:q≠0):gP (decide (p<0) !=decide (q<0)) p.natAbs q.natAbs=(p:Rat) / (q:Rat):=by
 have h:=Co (s:=decide (p<0)) (t:=decide (q<0)) (a:=p.natAbs) (b:=1) (c:=q.natAbs) (d:=1) (by omega) (by decide);rw[Nat.mul_one,Nat.one_mul,Cs,Cs] at h;exact h.symm
theorem acG (p q:Int) (hp: -9223372036854775808<=p/\p<9223372036854775808) (hq: -9223372036854775808<=q/\q<9223372036854775808) (h0:q≠0):Den Tryz.prog 111 [] [.int .i64 p,.int .i64 q] [] (.tup [FR ((p:Rat) / (q:Rat)),.int .i64 0]):=by
 have ha:=mg p hp;have hb:=mg q hq;have np:((p:Int):Rat).num=p:=rfl;have nq:((q:Int):Rat).num=q:=rfl;have UT:(ai p.natAbs).length<=2:=aB (Nat.lt_of_lt_of_le (show p.natAbs<18446744073709551616 by omega) (by decide));have hlq:(ai q.natAbs).length<=2:=aB (Nat.lt_of_lt_of_le (show q.natAbs<18446744073709551616 by omega) (by decide));have Ca:=AW (decide (p<0) !=decide (q<0)) (ai p.natAbs) (ai q.natAbs) (ao _) (ao _) (by omega) (by omega) (by rw[aj];omega);rw[aj,aj,Ej p q h0] at Ca;rw[bk] at ha hb Ca ⊢;rw[np,dc] at ha;rw[nq,dc] at hb;have hz:(q==0)=false:=by rw[qx];exact h0
 refine dq Tryz.func111 23 0 ?_;refine b8 hz ?_;refine aW ha ?_;refine a9 ?_;refine aW hb ?_;refine a9 ?_;refine aW Ca ?_;refine a9 ?_;refine bg rfl
end Go.Proofs.YtjjbkjgifdhlcaaGreat
namespace Go.Pl
open Go.AM
def Raw.c (r:Raw):List PV:=[.bool r.neg,.fv (.sl (u32s r.num)),.fv (.sl (u32s r.den))]
def Raw.f (r:Raw):List FV:=[.lit (.bool r.neg),.sl (u32s r.num),.sl (u32s r.den)]
def flat:List Raw->List PV
 | []=>[]
 | r::rs=> .bool r.neg:: .fv (.sl (u32s r.num)):: .fv (.sl (u32s r.den))::flat rs
def cK:List Raw->List FV
 | []=>[]
 | r::rs=> .lit (.bool r.neg):: .sl (u32s r.num):: .sl (u32s r.den)::cK rs
def rz:Raw:=⟨false,[],[]⟩
theorem ah: ∀ rs:List Raw,(flat rs).length=3*rs.length
 | []=>rfl
 | r::rs=>by simp only[flat,length_cons,ah rs];omega
theorem uu: ∀ (i:Nat) (rs:List Raw),(flat rs).drop (i*3)=flat (rs.drop i)
 | 0,rs=>by simp
 | i+1,[]=>by simp[flat]
 | i+1,r::rs=>by
  rw[Nat.add_mul,Nat.one_mul];show List.drop (i*3+2+1) _=_;simp only[flat,drop_succ_cons];exact uu i rs
theorem pS: ∀ (i:Nat) (rs:List Raw),(flat rs).take (i*3)=flat (rs.take i)
 | 0,rs=>by simp[flat]
 | i+1,[]=>by simp[flat]
 | i+1,r::rs=>by
  rw[Nat.add_mul,Nat.one_mul];show List.take (i*3+2+1) _=_;simp only[flat,take_succ_cons];rw[pS i rs]
theorem vx: ∀ (a b:List Raw),flat (a++b)=flat a++flat b
 | [],_=>rfl
 | r::a,b=>by simp[flat,vx a b]
theorem cU {rs:List Raw} {i:Nat} (h:i<rs.length):List.take 3 (List.drop (i*3) (flat rs))=[.bool (rs.getD i rz).neg,.fv (.sl (u32s (rs.getD i rz).num)),.fv (.sl (u32s (rs.getD i rz).den))]:=by
 rw[uu,drop_eq_getElem_cons h];simp only[flat,take_succ_cons,List.take_zero];rw[qa,qb h];rfl
theorem d8 {rs:List Raw} {i:Nat} (h:i<rs.length) (s:Bool) (a b:List Nat):
 List.take (i*3) (flat rs)++[.bool s,.fv (.sl (u32s a)),.fv (.sl (u32s b))]++List.drop (i*3+3) (flat rs)=flat (rs.set i ⟨s,a,b⟩):=by
 have e:i*3+3=(i+1)*3:=by omega
 rw[e,uu,pS,List.set_eq_take_append_cons_drop,if_pos h,vx]
 simp[flat]
theorem jU (H:List Ob): ∀ rs:List Raw,lG H (flat rs)=some (cK rs)
 | []=>rfl
 | r::rs=>by
  simp only[flat,lG,fP,jU H rs,cK]
theorem sP: ∀ rs:List Raw,dA 3 rs.length (cK rs)=rs.map Raw.f
 | []=>rfl
 | r::rs=>by
  simp only[cK,length_cons,dA,take_succ_cons,List.take_zero,drop_succ_cons,List.drop_zero,map_cons];rw[sP rs];rfl
def ft (g:Raw->Raw) (i:Nat) (rs:List Raw):List Raw:=(rs.take i).map g++rs.drop i
theorem sQ (g:Raw->Raw) (i:Nat) (rs:List Raw):(ft g i rs).length=rs.length:=by
 unfold ft;rw[qe,length_map,length_take,qt];omega
theorem rH (g:Raw->Raw) (rs:List Raw):ft g 0 rs=rs:=by simp[ft]
theorem AX (g:Raw->Raw) {n:Nat} (rs:List Raw) (h:rs.length=n):ft g n rs=rs.map g:=by
 subst h;simp[ft]
theorem m5 (g:Raw->Raw) {i j:Nat} (rs:List Raw) (h:j<rs.length) (hi:i<=j):(ft g i rs).getD j rz=rs.getD j rz:=by
 unfold ft;rw[qa,qh (by rw[length_map,length_take];omega),List.getElem?_drop,qa];congr 2;rw[length_map,length_take];omega
theorem pT (g:Raw->Raw) {i:Nat} (rs:List Raw) (h:i<rs.length):(ft g i rs).set i (g (rs.getD i rz))=ft g (i+1) rs:=by
 unfold ft;rw[List.set_append_right _ _ (by rw[length_map,length_take];omega)];have e:i - ((rs.take i).map g).length=0:=by rw[length_map,length_take];omega
 rw[e,drop_eq_getElem_cons h,List.set_cons_zero,take_succ_eq_append_getElem h,v8];simp[qa,h]
def RL (rs:List Raw):PV:= .agg (flat rs)
def FL (qs:List Rat):PV:=RL (qs.map cn)
structure LOk (k:Nat) (rs:List Raw):Prop where
 len:rs.length=9
 ok: ∀ r∈rs,r.Ok k
theorem LOk.at {k:Nat} {rs:List Raw} (h:LOk k rs) (i:Nat):(rs.getD i rz).Ok k:=by
 by_cases hi:i<rs.length
 .rw[qa,qb hi];exact h.ok _ (kj hi)
 rw[qa,getElem?_eq_none (by omega)];exact⟨Dig.nil,Dig.nil,eH _,eH _⟩
theorem LOk.mono {j k:Nat} {rs:List Raw} (h:LOk j rs) (hk:j<=k):LOk k rs:=⟨h.len,fun r hr=>(h.ok r hr).mono hk⟩
theorem LOk.map {k:Nat} {rs:List Raw} {g:Raw->Rat} (h:rs.length=9) (hg: ∀ r∈rs,Bd k (g r)):LOk k ((rs.map g).map cn):=
 ⟨by simp[h],fun r hr=>by
  simp only[mem_map] at hr;obtain⟨q,⟨r',hr',rfl⟩,rfl⟩:=hr;exact bD (hg r' hr')⟩
end Go.Pl
namespace Go.Proofs.YtjjbkjgifdhlcaaGreat
open Go.AM Go.Pl
theorem jo: ∀ rs:List Raw,(cK rs).map PV.fv=flat rs
 | []=>rfl
 | r::rs=>by simp only[cK,flat,map_cons,jo rs]
theorem jq: ∀ rs:List Raw,(flat rs).flatMap eY=[]
 | []=>rfl
 | r::rs=>by simp only[flat,List.flatMap_cons,eY,nil_append,jq rs]
theorem iR (f:Nat->Nat): ∀ rs:List Raw,(flat rs).map (reloc1 f)=flat rs
 | []=>rfl
 | r::rs=>by simp only[flat,map_cons,reloc1,iR f rs]
theorem pU (H:List Ob) (keep:List Nat): ∀ rs:List Raw,tM H keep (flat rs)=some (flat rs)
 | []=>rfl
 | r::rs=>by simp only[flat,tM,t_,gj,fP,Option.map_some,pU H keep rs]
theorem ar {rs:List Raw} (h:rs.length=9):List.take 27 (flat rs)=flat rs:=
 eE (by rw[ah];omega)
theorem dp (ids:List Nat): ∀ rs:List Raw,c9 ids (flat rs) (flat rs)
 | []=>by simp[flat,c9]
 | r::rs=>by simp[flat,c9,cB,dp ids rs]
def WE:Option (List FV)->Option (List FV)
 | some x=>some [.fp x]
 | none=>none
def OV:Option Ob->Option (List PV)
 | some (.box _ cs)=>some cs
 | _=>none
theorem mh (H:List Ob):rC H []=some []:=rfl
theorem oL (H:List Ob) (id:Nat):rC H [.ptr id 0 0]=match OV (H[id]?) with | some cs=>WE (lG H cs) | none=>none:=by
 simp only[rC,gj];cases h:H[id]? with
 | none=>rfl
 | some o=>cases o with
  | box w cs=>
   simp only[OV];cases lG H cs<;>rfl
  | row w xs=>rfl
  | dead=>rfl
  | tab n es=>rfl
theorem mj (w:Bool) (cs:List PV):OV (some (.box w cs))=some cs:=rfl
theorem kv (x:List FV):WE (some x)=some [.fp x]:=rfl
def zT (rs:List Raw) (v:Nat):List PV:=List.take (v*3) (flat rs)++[.bool false,.nilsl,.nilsl]++List.drop (v*3+3) (flat rs)
theorem AY (r:Raw) (rs:List Raw) (v:Nat):zT (r::rs) (v+1)= .bool r.neg:: .fv (.sl (u32s r.num)):: .fv (.sl (u32s r.den))::zT rs v:=by
 unfold zT;have e1:(v+1)*3=v*3+2+1:=by omega
 have e2:(v+1)*3+3=(v*3+3)+2+1:=by omega
 rw[e2,e1];simp only[flat,take_succ_cons,drop_succ_cons,List.cons_append]
theorem Ek (H:List Ob): ∀ (v:Nat) (rs:List Raw),v<rs.length->lG H (zT rs v)=some (cK (rs.set v rz))
 | 0,r::rs,_=>by
  have h:=jU H rs;simp[zT,flat,cK,lG,fP,h,rz,u32s]
 | v+1,r::rs,h=>by
  rw[AY];have h2:=Ek H v rs (by simpa using h);simp only[lG,fP,h2,List.set_cons_succ,cK]
 | _,[],h=>by simp at h
theorem El: ∀ (v:Nat) (rs:List Raw),v<rs.length->(zT rs v).flatMap eY=[]
 | 0,r::rs,_=>by
  have h:=jq rs;simp only[zT,flat,Nat.zero_mul,List.take_zero,nil_append,Nat.zero_add,drop_succ_cons,List.drop_zero,List.cons_append,List.flatMap_cons,eY,h]
 | v+1,r::rs,h=>by
  rw[AY];have h2:=El v rs (by simpa using h);simp only[List.flatMap_cons,eY,h2,nil_append]
 | _,[],h=>by simp at h
theorem Em {rs:List Raw} {v:Nat} (h:v<rs.length) (hl:rs.length=9):(zT rs v).length=27:=by
 have:=ah rs;unfold zT;simp only[qe,length_take,qt,length_cons,length_nil];omega
def fS:Nat->List PV
 | 0=>[]
 | n+1=> .bool false:: .nilsl:: .nilsl::fS n
theorem jr:List.drop 27 (fS 9)=[]:=rfl
theorem gG:(fS 9).length=27:=rfl
abbrev zu:=qy @jq (qy @iR (qy @jU (qy @jr (qy @gG (qy @mh (qy @oL (qy @mj (qy @kv (@append_nil.{0})))))))))
theorem pV (ids:List Nat): ∀ n,c9 ids (fS n) (fS n)
 | 0=>by simp[fS,c9]
 | n+1=>by simp[fS,c9,cB,pV ids n]
theorem RetOK.form {st:St} {a id:Nat} {w:Bool} {rs:List Raw} (ha:st.get a= .ptr id 0 0) (hb:st.heap[id]?=some (.box w (flat rs))) (hl:rs.length=9):RetOK tab [.cell a 30] 0 st [] (RL rs):=by
 refine Sp (vs:=[.agg (flat rs)]) (cd:=(0=0/\0+27<=(flat rs).length)/\True) ?_ ⟨⟨rfl,by rw[ah];omega⟩,cS⟩ ?_
 .simp[gJ,zc,ha,SQ,je,hb,kn,ar hl,TyI.isAgg]
 simp[cH,tN,y9,pU,RL]
theorem RetOK.form3 {st:St} {a id x y:Nat} {w:Bool} {rs:List Raw} {v u:FV} (ha:st.get a= .ptr id 0 0) (hb:st.heap[id]?=some (.box w (flat rs))) (hl:rs.length=9) (hx:st.get x= .fv v) (hy:st.get y= .fv u):
 RetOK tab [.cell a 30,.tmp x,.tmp y] 0 st [] (.tup [RL rs,.fv v,.fv u]):=by
 refine Sp (vs:=[.agg (flat rs),.fv v,.fv u]) (cd:=(0=0/\0+27<=(flat rs).length)/\True/\True/\True) ?_ ⟨⟨rfl,by rw[ah];omega⟩,cS,cS,cS⟩ ?_
 .simp[gJ,zc,ha,SQ,je,hb,kn,ar hl,TyI.isAgg,hx,hy]
 simp[cH,tN,y_,y9,pU,RL,t_,gj,fP]
set_option maxRecDepth 100000
set_option maxHeartbeats 2000000
theorem JU (r:Raw):Den Tryz.prog 104 [] [r.v] [] (.bool ((r.num.length:Int)==0)):=by
 unfold Raw.v;refine dq Tryz.func104 6 0 ?_;refine aX ?_;refine bg rfl
theorem Cu {r:Raw} (h:(r.num.length:Int)=0):r.q=0:=by
 have:r.num=[]:=List.length_eq_zero_iff.1 (by omega);unfold Raw.q;rw[this];exact me rfl
theorem acH (rs:List Raw) (c:Raw) (jc:LOk 2000000000 rs) (hc:c.Ok 2000000000):Den Tryz.prog 108 [] [RL rs,c.v] [] (FL (rs.map (fun r=>r.q*c.q))):=by
 have aD:=jc.len;have oH:=ah rs;have tT:=mg 0 (by decide);rw[show((0:Int):Rat)=0 from rfl,bk,bB,bB] at tT;obtain⟨g,hg⟩: ∃ g:Raw->Raw,g=fun r=>cn (r.q*c.q):=⟨_,rfl⟩
 have ZG:(rs.map (fun r=>r.q*c.q)).map cn=rs.map g:=by rw[hg,List.map_map];rfl
 unfold FL RL Raw.v;rw[ZG];refine dq Tryz.func108 32 0 ?_;refine aX ?_;refine⟨by omega,?_⟩;refine wl (α:=Nat) (fun i=>⟨[.any,.any,.ptr 0 0 0,.ptr 1 0 0,.ptr 2 0 0,.int .i64 i]++replicate 28 .any,[.box true (flat (ft g i rs)),.box true [.bool c.neg,.fv (.sl (u32s c.num)),.fv (.sl (u32s c.den))],.box true (fS 9)]⟩)
  (fun i=>8 - i) (fun i=>i<=8) 0 ?_ ?_ ?_
 .exact vf [0,1,2]
 .exact eH _
 rintro i hi;have lA:=sQ g i rs;have hfm:=ah (ft g i rs);refine aX ?_;refine bR ?_ ?_
 .intro h1 h2;have gV:=cU (rs:=ft g i rs) (i:=i) (by omega);rw[m5 g rs (by omega) (qp _)] at gV;have bP:=pT g rs (i:=i) (by omega);obtain⟨r,hr⟩:=aw (rs.getD i rz);have bE:r.Ok 2000000000:=by rw[<-hr];exact jc.at i
  rw[hr] at gV bP;have h70:=JU r;unfold Raw.v at h70;refine ae (aQ h2 gV) ?_;refine⟨by omega,by omega,?_⟩;refine aW h70 ?_;refine a9 ?_;refine Br.beqInt ?_ ?_
  .intro h3 h4;have a_:=d8 (rs:=ft g i rs) (i:=i) (by omega) (decide ((0:Rat).num<0)) (ai (0:Rat).num.natAbs) (ai (0:Rat).den);have wy:g r=⟨decide ((0:Rat).num<0),ai (0:Rat).num.natAbs,ai (0:Rat).den⟩:=by
    rw[hg];dsimp only;rw[Cu h3,Rat.zero_mul];rfl
   rw[<-wy,bP] at a_;refine ae h4 ?_;refine aW tT ?_;refine ae (aQ a_ @append_nil.{0}) ?_
   repeat refine ag ?_
   refine ax (i+1) ?_ (by omega);exact vf [0,1,2]
  intro h3 h4;have Oa:=OS r c bE hc;have wy:g r=⟨decide ((r.q*c.q).num<0),ai (r.q*c.q).num.natAbs,ai (r.q*c.q).den⟩:=by
   rw[hg];rfl
  have a_:=d8 (rs:=ft g i rs) (i:=i) (by omega) (decide ((r.q*c.q).num<0)) (ai (r.q*c.q).num.natAbs) (ai (r.q*c.q).den);rw[<-wy,bP] at a_;rw[bk,bB,bB] at Oa;unfold Raw.v at Oa;refine ae h4 ?_;refine dw (by kernel_rfl) ?_;refine ae gV ?_
  repeat refine ag ?_
  refine aW Oa ?_;refine ae (aQ a_ @append_nil.{0}) ?_
  repeat refine ag ?_
  refine ax (i+1) ?_ (by omega);exact vf [0,1,2]
 intro h1 h2;have uc:i=8:=by omega
 subst uc;have gV:=cU (rs:=ft g 8 rs) (i:=8) (by omega);rw[m5 g rs (by omega) (qp _)] at gV;have bP:=pT g rs (i:=8) (by omega);have sn:=AX g rs aD;obtain⟨r,hr⟩:=aw (rs.getD 8 rz);have bE:r.Ok 2000000000:=by rw[<-hr];exact jc.at 8
 rw[hr] at gV bP;have Oa:=OS r c bE hc;have wy:g r=⟨decide ((r.q*c.q).num<0),ai (r.q*c.q).num.natAbs,ai (r.q*c.q).den⟩:=by
  rw[hg];rfl
 have a_:=d8 (rs:=ft g 8 rs) (i:=8) (by omega) (decide ((r.q*c.q).num<0)) (ai (r.q*c.q).num.natAbs) (ai (r.q*c.q).den);rw[<-wy,bP,sn] at a_;rw[bk,bB,bB] at Oa;unfold Raw.v at Oa;simp only[reduceMul,reduceAdd] at gV a_;have wY:(rs.map g).length=9:=by simp[aD]
 have qW:(flat (rs.map g)).length=27:=by rw[ah];omega
 have ht:=ar wY;refine ae (aQ h2 gV) ?_
 repeat refine ag ?_
 refine aW Oa ?_;refine b9 (bZ a_ ht qW) ?_
 repeat refine ag ?_
 exact RetOK.form rfl rfl wY
theorem acI (rs:List Raw) (jc:LOk 2000000000 rs):Den Tryz.prog 191 [] [RL rs] [] (FL (rs.map Raw.q)):=by
 have aD:=jc.len;have oH:=ah rs;have tT:=mg 0 (by decide);rw[show((0:Int):Rat)=0 from rfl,bk,bB,bB] at tT;obtain⟨g,hg⟩: ∃ g:Raw->Raw,g=fun r=>cn r.q:=⟨_,rfl⟩
 have ZG:(rs.map Raw.q).map cn=rs.map g:=by rw[hg,List.map_map];rfl
 unfold FL RL;rw[ZG];refine dq Tryz.func191 29 0 ?_;refine aX ?_;refine⟨by omega,?_⟩;refine wl (α:=Nat) (fun i=>⟨[.any,.ptr 0 0 0,.ptr 1 0 0,.int .i64 i]++replicate 26 .any,[.box true (flat (ft g i rs)),.box true (fS 9)]⟩)
  (fun i=>8 - i) (fun i=>i<=8) 0 ?_ ?_ ?_
 .exact vf [0,1]
 .exact eH _
 rintro i hi;have lA:=sQ g i rs;have hfm:=ah (ft g i rs);refine aX ?_;refine bR ?_ ?_
 .intro h1 h2;have gV:=cU (rs:=ft g i rs) (i:=i) (by omega);rw[m5 g rs (by omega) (qp _)] at gV;have bP:=pT g rs (i:=i) (by omega);obtain⟨r,hr⟩:=aw (rs.getD i rz);have bE:r.Ok 2000000000:=by rw[<-hr];exact jc.at i
  rw[hr] at gV bP;have h70:=JU r;unfold Raw.v at h70;refine ae (aQ h2 gV) ?_;refine⟨by omega,by omega,?_⟩;refine aW h70 ?_;refine a9 ?_;refine Br.beqInt ?_ ?_
  .intro h3 h4;have a_:=d8 (rs:=ft g i rs) (i:=i) (by omega) (decide ((0:Rat).num<0)) (ai (0:Rat).num.natAbs) (ai (0:Rat).den);have wy:g r=⟨decide ((0:Rat).num<0),ai (0:Rat).num.natAbs,ai (0:Rat).den⟩:=by
    rw[hg];dsimp only;rw[Cu h3];rfl
   rw[<-wy,bP] at a_;refine ae h4 ?_;refine aW tT ?_;refine ae (aQ a_ @append_nil.{0}) ?_
   repeat refine ag ?_
   refine ax (i+1) ?_ (by omega);exact vf [0,1]
  intro h3 h4;have oG:=nY r (bE.mono (by decide));have wy:g r=⟨decide (r.q.num<0),ai r.q.num.natAbs,ai r.q.den⟩:=by
   rw[hg];rfl
  have a_:=d8 (rs:=ft g i rs) (i:=i) (by omega) (decide (r.q.num<0)) (ai r.q.num.natAbs) (ai r.q.den);rw[<-wy,bP] at a_;rw[bk,bB,bB] at oG;unfold Raw.v at oG;refine ae (aQ h4 gV) ?_
  repeat refine ag ?_
  refine aW oG ?_;refine ae (aQ a_ @append_nil.{0}) ?_
  repeat refine ag ?_
  refine ax (i+1) ?_ (by omega);exact vf [0,1]
 intro h1 h2;have uc:i=8:=by omega
 subst uc;have gV:=cU (rs:=ft g 8 rs) (i:=8) (by omega);rw[m5 g rs (by omega) (qp _)] at gV;have bP:=pT g rs (i:=8) (by omega);have sn:=AX g rs aD;obtain⟨r,hr⟩:=aw (rs.getD 8 rz);have bE:r.Ok 2000000000:=by rw[<-hr];exact jc.at 8
 rw[hr] at gV bP;have oG:=nY r (bE.mono (by decide));have wy:g r=⟨decide (r.q.num<0),ai r.q.num.natAbs,ai r.q.den⟩:=by
  rw[hg];rfl
 have a_:=d8 (rs:=ft g 8 rs) (i:=8) (by omega) (decide (r.q.num<0)) (ai r.q.num.natAbs) (ai r.q.den);rw[<-wy,bP,sn] at a_;rw[bk,bB,bB] at oG;unfold Raw.v at oG;simp only[reduceMul,reduceAdd] at gV a_;have wY:(rs.map g).length=9:=by simp[aD]
 have qW:(flat (rs.map g)).length=27:=by rw[ah];omega
 have ht:=ar wY;refine ae (aQ h2 gV) ?_
 repeat refine ag ?_
 refine aW oG ?_;refine b9 (bZ a_ ht qW) ?_
 repeat refine ag ?_
 exact RetOK.form rfl rfl wY
theorem rz_ok {k:Nat}:rz.Ok k:=⟨Dig.nil,Dig.nil,eH _,eH _⟩
theorem ahQ:rz.q=0:=me rfl
theorem sR {k:Nat}:LOk k (replicate 9 rz):=⟨rfl,fun r hr=>by rw[List.eq_of_mem_replicate hr];exact rz_ok⟩
theorem WG:Den Tryz.prog 154 [] [] [] (FL (replicate 9 0)):=by
 have h71:=acI (replicate 9 rz) sR;have e:(replicate 9 rz).map Raw.q=replicate 9 0:=by rw[List.map_replicate,ahQ]
 rw[e] at h71;unfold FL RL at h71 ⊢;obtain⟨zs,hz⟩:=aw ((replicate 9 (0:Rat)).map cn);have sr:zs.length=9:=by rw[<-hz];simp
 rw[hz] at h71 ⊢;have qW:(flat zs).length=27:=by rw[ah];omega
 refine dq Tryz.func154 3 0 ?_;refine aX ?_;refine aW h71 ?_;refine b9 qW ?_
 repeat refine ag ?_
 exact RetOK.form rfl rfl sr
end Go.Proofs.YtjjbkjgifdhlcaaGreat
namespace Go.Pl
open Go.AM
def bQ:List Raw->Raw
 | []=>rz
 | [c]=>c
 | r::s::t=>if r.q=0 then bQ (s::t) else r
theorem Hx {rs:List Raw} {i:Nat} (h:i+1<rs.length):bQ (rs.drop i)=if(rs.getD i rz).q=0 then bQ (rs.drop (i+1)) else rs.getD i rz:=by
 have h1:rs.drop i=rs.getD i rz::rs.drop (i+1):=by
  rw[drop_eq_getElem_cons (by omega)];rw[qa,qb (by omega)];rfl
 have h2:rs.drop (i+1)=rs[i+1]::rs.drop (i+2):=drop_eq_getElem_cons h;rw[h1,h2];rfl
theorem Hy {rs:List Raw} {i:Nat} (h:i+1=rs.length):bQ (rs.drop i)=rs.getD i rz:=by
 have h1:rs.drop i=rs.getD i rz::rs.drop (i+1):=by
  rw[drop_eq_getElem_cons (by omega)];rw[qa,qb (by omega)];rfl
 have h2:rs.drop (i+1)=[]:=List.drop_of_length_le (by omega);rw[h1,h2];rfl
theorem rI: ∀ {rs:List Raw},(bQ rs).q=0-> ∀ r∈rs,r.q=0
 | [],_,r,hr=>by simp at hr
 | [c],h,r,hr=>by
  simp at hr;subst hr;exact h
 | a::s::t,h,r,hr=>by
  unfold bQ at h;split at h
  .rename_i h0;rcases List.mem_cons.1 hr with h1 | h1
   .subst h1;exact h0
   exact rI h r h1
  rename_i h0;exact absurd h h0
theorem uv: ∀ {rs:List Raw},rs≠[]->bQ rs∈rs
 | [],h=>absurd rfl h
 | [c],_=>by simp[bQ]
 | a::s::t,_=>by
  unfold bQ;split
  .exact ql _ (uv (by simp))
  simp
theorem bm {q:Rat}:gk q=0↔q=0:=by
 unfold gk;rw[Int.sign_eq_zero_iff_zero];exact Rat.num_eq_zero
theorem JV:rz.q=0:=me rfl
def fH (c:Rat):Rat:=if c.num<0 then -c else c
def nrm (rs:List Raw):List Rat:=if(bQ rs).q=0 then replicate 9 0 else rs.map (fun r=>r.q / fH (bQ rs).q)
theorem uw {c:Rat} (h:c≠0):fH c≠0:=by
 unfold fH;split
 .intro h1;apply h;grind
 exact h
theorem sS {rs:List Raw} (h:(bQ rs).q=0):nrm rs=replicate 9 0:=if_pos h
theorem xm {rs:List Raw} (h:(bQ rs).q≠0):nrm rs=rs.map (fun r=>r.q / fH (bQ rs).q):=if_neg h
theorem LN {rs:List Raw} (h:(bQ rs).q=0) (hl:rs.length=9):nrm rs=rs.map Raw.q:=by
 rw[sS h];have h1:rs.map Raw.q=rs.map (fun _=>(0:Rat)):=List.map_congr_left (fun r hr=>rI h r hr);rw[h1,List.map_const',hl]
theorem SY {c:Rat} (h0:c≠0) (h: ¬c.num<0):gk c=1:=Cr (fun h1=>h0 (Rat.num_eq_zero.1 (by omega))) h
def js (g:Raw->Raw) (i:Nat) (rs:List Raw):List Raw:=(rs.take i).map g++replicate (rs.length - i) rz
theorem sT (g:Raw->Raw) {i:Nat} (rs:List Raw) (h:i<=rs.length):(js g i rs).length=rs.length:=by
 unfold js;rw[qe,length_map,length_take,qib];omega
theorem AZ (g:Raw->Raw) {i:Nat} (rs:List Raw) (h:i<rs.length):(js g i rs).set i (g (rs.getD i rz))=js g (i+1) rs:=by
 unfold js;rw[List.set_append_right _ _ (by rw[length_map,length_take];omega)];have e:i - ((rs.take i).map g).length=0:=by rw[length_map,length_take];omega
 have e2:rs.length - i=(rs.length - (i+1))+1:=by omega
 rw[e,e2,List.replicate_succ,List.set_cons_zero,take_succ_eq_append_getElem h,v8];simp[qa,h]
theorem A0 (g:Raw->Raw) {n:Nat} (rs:List Raw) (h:rs.length=n):js g n rs=rs.map g:=by
 subst h;simp[js]
theorem xn (g:Raw->Raw) (rs:List Raw):js g 0 rs=replicate rs.length rz:=by simp[js]
theorem Hz {rs:List Raw} {i:Nat} (h:i<rs.length):(rs.map Raw.f).getD i []=[FV.lit (Value.bool (rs.getD i rz).neg),FV.sl (u32s (rs.getD i rz).num),FV.sl (u32s (rs.getD i rz).den)]:=by
 simp[qa,h,Raw.f]
theorem HA {rs:List Raw} {n:Nat} (h:rs.length=n+1):(rs.take n).map Raw.f++[[FV.lit (Value.bool (rs.getD n rz).neg),FV.sl (u32s (rs.getD n rz).num),FV.sl (u32s (rs.getD n rz).den)]]=rs.map Raw.f:=by
 have h1:rs.take (n+1)=rs:=eE (by omega)
 conv=>rhs;rw[<-h1,take_succ_eq_append_getElem (by omega),v8]
 simp[qa,show n<rs.length by omega,Raw.f]
end Go.Pl
namespace Go.Proofs.YtjjbkjgifdhlcaaGreat
open Go.AM Go.Pl
set_option maxRecDepth 100000
set_option maxHeartbeats 2000000
theorem OW (qs:List Rat) (h:qs.length=9):(flat (qs.map cn)).length=27:=by rw[ah,length_map];omega
theorem En {p:List Rat} {i:Nat} (h:i<p.length):(p.map cn).getD i rz=cn (p.getD i 0):=by
 simp[qa,h]
theorem ak2 (p q:List Rat) (hp:p.length=9) (hq:q.length=9) (bp: ∀ x∈p,Bd 1000000000 x) (bq: ∀ x∈q,Bd 1000000000 x):Den Tryz.prog 151 [] [FL p,FL q] [] (.bool (decide (p=q))):=by
 have UT:(p.map cn).length=9:=by simp[hp]
 have hlq:(q.map cn).length=9:=by simp[hq]
 have fp:=OW p hp;have fq:=OW q hq;have okp: ∀ i,i<9->(cn (p.getD i 0)).Ok 5000000000:=fun i hi=>by
  refine Raw.Ok.mono (bD (bp _ ?_)) (by decide);rw[qa,qb (by omega)];exact kj _
 have okq: ∀ i,i<9->(cn (q.getD i 0)).Ok 5000000000:=fun i hi=>by
  refine Raw.Ok.mono (bD (bq _ ?_)) (by decide);rw[qa,qb (by omega)];exact kj _
 unfold FL RL;refine dq Tryz.func151 23 0 ?_;refine aX ?_;refine⟨by omega,by omega,?_⟩;refine wl (α:=Nat) (fun i=>⟨[.any,.any,.ptr 0 0 0,.ptr 1 0 0,.any,.int .i64 i]++replicate 19 .any,[.box true (flat (p.map cn)),.box true (flat (q.map cn))]⟩)
  (fun i=>8 - i) (fun i=>i<=8/\p.take i=q.take i) 0 ?_ ?_ ?_
 .exact vf [0,1]
 .exact⟨eH _,rfl⟩
 rintro i ⟨hi,w5⟩;have iG:=cU (rs:=p.map cn) (i:=i) (by omega);have kS:=cU (rs:=q.map cn) (i:=i) (by omega);rw[En (by omega)] at iG kS;have SB:=WC (cn (p.getD i 0)) (cn (q.getD i 0)) (okp i (by omega)) (okq i (by omega));rw[OU] at SB;have gN:p.getD i 0=q.getD i 0->p.take (i+1)=q.take (i+1):=fun h=>by
  rw[take_succ_eq_append_getElem (by omega),take_succ_eq_append_getElem (by omega),w5];simp only[qa,qb (show i<p.length by omega),qb (show i<q.length by omega),Option.getD_some] at h;rw[h]
 have cM:p.getD i 0≠q.getD i 0->p≠q:=fun h h2=>h (by rw[h2])
 obtain⟨x,hx⟩:=aw (cn (p.getD i 0));obtain⟨y,hy⟩:=aw (cn (q.getD i 0));rw[hx] at iG SB;rw[hy] at kS SB;unfold Raw.v at SB;refine aX ?_;refine bR ?_ ?_
 .intro h1 h2;refine ae h2 ?_;refine dw (by kernel_rfl) ?_;refine ae (aQ iG kS) ?_
  repeat refine ag ?_
  refine aW SB ?_;by_cases he:p.getD i 0=q.getD i 0
  .have hb:(!decide (p.getD i 0=q.getD i 0))=false:=by rw[ib he];rfl
   refine ae hb ?_;refine ax (i+1) ?_ ⟨by omega,gN he⟩;exact vf [0,1]
  have hb:(!decide (p.getD i 0=q.getD i 0))=true:=by rw[mX he];rfl
  rw[mX (cM he)];refine ae hb ?_;refine bg rfl
 intro h1 h2;have uc:i=8:=by omega
 subst uc;simp only[reduceMul] at iG kS;refine ae (bZ h2 iG kS) ?_
 repeat refine ag ?_
 refine aW SB ?_;refine a9 ?_;have hd:decide (p=q)=decide (p.getD 8 0=q.getD 8 0):=by
  by_cases he:p.getD 8 0=q.getD 8 0
  .rw[ib he];have h9:=gN he;rw[eE (by omega),eE (by omega)] at h9;exact ib h9
  rw[mX he,mX (cM he)]
 rw[hd];refine bg rfl
theorem OX (rs:List Raw) (g:Raw->Rat) (jc:rs.length=9)
 (hf: ∀ r∈rs,Den Tryz.prog 68 [] [r.v] [] (FR (g r))):Den Tryz.prog 133 [] [RL rs,.fv (.lit (.func (.func 68) #[] #[]))] [] (FL (rs.map g)):=by
 have oH:=ah rs
 have bf: ∀ i,i<9->rs.getD i rz∈rs:=fun i hi=>by
  rw[qa,qb (by omega)];exact kj _
 obtain⟨g',jM⟩: ∃ g':Raw->Raw,g'=fun r=>cn (g r):=⟨_,rfl⟩
 have ZG:(rs.map g).map cn=rs.map g':=by rw[jM,List.map_map];rfl
 have Vj:js g' 0 rs=replicate 9 rz:=by rw[xn,jc]
 unfold FL RL
 rw[ZG]
 refine dq Tryz.func133 26 0 ?_
 refine aX ?_
 refine⟨by omega,?_⟩
 refine wl (α:=Nat) (fun i=>⟨[.any,.fv (.lit (.func (.func 68) #[] #[])),.ptr 0 0 0,.any,.ptr 1 0 0,.ptr 1 0 0,.any,.any,.int .i64 i]++replicate 19 .any,[.box true (flat rs),.box true (flat (js g' i rs))]⟩)
  (fun i=>8 - i) (fun i=>i<=8) 0 ?_ ?_ ?_
 .refine eV [0,1] ?_ ?_
  .simp[bc,dX,cB]
  simp[ez,fL,c9,cB,dp,Vj,replicate,flat,rz,u32s]
 .exact eH _
 rintro i hi
 have zP:=sT g' rs (i:=i) (by omega)
 have hof:=ah (js g' i rs)
 have gV:=cU (rs:=rs) (i:=i) (by omega)
 have bP:=AZ g' rs (i:=i) (by omega)
 have bU:=hf _ (bf i (by omega))
 obtain⟨r,hr⟩:=aw (rs.getD i rz)
 rw[hr] at gV bP bU
 have wy:g' r=⟨decide ((g r).num<0),ai (g r).num.natAbs,ai (g r).den⟩:=by rw[jM];rfl
 have a_:=d8 (rs:=js g' i rs) (i:=i) (by omega) (decide ((g r).num<0)) (ai (g r).num.natAbs) (ai (g r).den)
 rw[<-wy,bP] at a_
 rw[bk,bB,bB] at bU
 unfold Raw.v at bU
 refine aX ?_
 refine bR ?_ ?_
 .intro h1 h2
  refine ae h2 ?_
  refine dw (by kernel_rfl) ?_
  refine ae gV ?_
  repeat refine ag ?_
  refine aW bU ?_
  refine ae (aQ a_ @append_nil.{0}) ?_
  repeat refine ag ?_
  refine ax (i+1) ?_ (by omega)
  exact vf [0,1]
 intro h1 h2
 have uc:i=8:=by omega
 subst uc
 rw[A0 g' (n:=8+1) rs jc] at a_
 simp only[reduceMul,reduceAdd] at gV a_
 have wY:(rs.map g').length=9:=by simp[jc]
 have qW:(flat (rs.map g')).length=27:=by rw[ah];omega
 have RG:List.drop 27 (flat (rs.map g'))=[]:=List.drop_of_length_le (by omega)
 refine ae (aQ h2 gV) ?_
 repeat refine ag ?_
 refine aW bU ?_
 simp -dsimp(disch:=omega) only[append_nil,a_,qW,ar wY,RG,↓reduceIte,reduceAdd,reduceLT,reduceLeDiff,ru]
 repeat refine ag ?_
 exact RetOK.form rfl rfl wY
theorem HB (rs:List Raw) (k:Nat) (x:FV) (g:Raw->Rat) (jc:rs.length=9)
 (hf: ∀ r∈rs,Den Tryz.prog k [] [r.v,.fv x] [] (FR (g r))):Den Tryz.prog 133 [] [RL rs,.fv (.fn (.func k) [] [x])] [] (FL (rs.map g)):=by
 have oH:=ah rs
 have bf: ∀ i,i<9->rs.getD i rz∈rs:=fun i hi=>by
  rw[qa,qb (by omega)];exact kj _
 obtain⟨g',jM⟩: ∃ g':Raw->Raw,g'=fun r=>cn (g r):=⟨_,rfl⟩
 have ZG:(rs.map g).map cn=rs.map g':=by rw[jM,List.map_map];rfl
 have Vj:js g' 0 rs=replicate 9 rz:=by rw[xn,jc]
 unfold FL RL
 rw[ZG]
 refine dq Tryz.func133 26 0 ?_
 refine aX ?_
 refine⟨by omega,?_⟩
 refine wl (α:=Nat) (fun i=>⟨[.any,.fv (.fn (.func k) [] [x]),.ptr 0 0 0,.any,.ptr 1 0 0,.ptr 1 0 0,.any,.any,.int .i64 i]++replicate 19 .any,[.box true (flat rs),.box true (flat (js g' i rs))]⟩)
  (fun i=>8 - i) (fun i=>i<=8) 0 ?_ ?_ ?_
 .refine eV [0,1] ?_ ?_
  .simp[bc,dX,cB]
  simp[ez,fL,c9,cB,dp,Vj,replicate,flat,rz,u32s]
 .exact eH _
 rintro i hi
 have zP:=sT g' rs (i:=i) (by omega)
 have hof:=ah (js g' i rs)
 have gV:=cU (rs:=rs) (i:=i) (by omega)
 have bP:=AZ g' rs (i:=i) (by omega)
 have bU:=hf _ (bf i (by omega))
 obtain⟨r,hr⟩:=aw (rs.getD i rz)
 rw[hr] at gV bP bU
 have wy:g' r=⟨decide ((g r).num<0),ai (g r).num.natAbs,ai (g r).den⟩:=by rw[jM];rfl
 have a_:=d8 (rs:=js g' i rs) (i:=i) (by omega) (decide ((g r).num<0)) (ai (g r).num.natAbs) (ai (g r).den)
 rw[<-wy,bP] at a_
 rw[bk,bB,bB] at bU
 unfold Raw.v at bU
 refine aX ?_
 refine bR ?_ ?_
 .intro h1 h2
  refine ae h2 ?_
  refine dw (by kernel_rfl) ?_
  refine ae gV ?_
  repeat refine ag ?_
  refine aW bU ?_
  refine ae (aQ a_ @append_nil.{0}) ?_
  repeat refine ag ?_
  refine ax (i+1) ?_ (by omega)
  exact vf [0,1]
 intro h1 h2
 have uc:i=8:=by omega
 subst uc
 rw[A0 g' (n:=8+1) rs jc] at a_
 simp only[reduceMul,reduceAdd] at gV a_
 have wY:(rs.map g').length=9:=by simp[jc]
 have qW:(flat (rs.map g')).length=27:=by rw[ah];omega
 have RG:List.drop 27 (flat (rs.map g'))=[]:=List.drop_of_length_le (by omega)
 refine ae (aQ h2 gV) ?_
 repeat refine ag ?_
 refine aW bU ?_
 simp -dsimp(disch:=omega) only[append_nil,a_,qW,ar wY,RG,↓reduceIte,reduceAdd,reduceLT,reduceLeDiff,ru]
 repeat refine ag ?_
 exact RetOK.form rfl rfl wY
set_option maxHeartbeats 4000000
theorem acJ (r c:Raw) (hr:r.Ok 2000000000) (hc:c.Ok 2000000000):Den Tryz.prog 184 [] [r.v,.fv (.fp c.f)] [] (FR (r.q*c.q)):=by
 have h:=ON r c hr hc;rw[bk] at h ⊢;unfold Raw.v at h ⊢;unfold Raw.f;refine dq Tryz.func184 5 0 ?_;refine aX ?_;refine aW h ?_;refine a9 ?_;refine bg rfl
theorem WH (r c:Raw) (hr:r.Ok 2000000000) (hc:c.Ok 2000000000) (h0:c.q≠0):Den Tryz.prog 134 [] [r.v,.fv (.fp c.f)] [] (FR (r.q / c.q)):=by
 have h:=OO r c hr hc h0;rw[bk] at h ⊢;unfold Raw.v at h ⊢;unfold Raw.f;refine dq Tryz.func134 11 0 ?_;refine aX ?_;refine aW h ?_;refine a9 ?_;refine bg rfl
theorem JW (rs:List Raw) (c:Raw) (jc:LOk 2000000000 rs) (hc:c.Ok 2000000000):Den Tryz.prog 135 [] [RL rs,c.v] [] (FL (rs.map (fun r=>r.q*c.q))):=by
 have aD:=jc.len;have oH:=ah rs;have ud:=HB rs 184 (.fp c.f) (fun r=>r.q*c.q) aD (fun r hr=>acJ r c (jc.ok r hr) hc);unfold FL RL at ud ⊢;unfold Raw.f at ud;obtain⟨zs,hz⟩:=Hs ((rs.map (fun r=>r.q*c.q)).map cn);have sr:zs.length=9:=by rw[<-hz];simp[aD]
 have qW:(flat zs).length=27:=by rw[ah];omega
 rw[hz] at ud ⊢;unfold Raw.v;refine dq Tryz.func135 6 0 ?_;simp -dsimp(disch:=omega) only[replicate,ar aD,↓reduceIte,reduceAdd,reduceLT,ru,zu];refine⟨by omega,by omega,?_⟩;refine lY ud ?_;refine b9 qW ?_;exact RetOK.form rfl rfl sr
theorem WI (rs:List Raw) (jc:LOk 1000 rs):Den Tryz.prog 71 [] [RL rs] [] (FL (nrm rs)):=by
 have aD:=jc.len;have oH:=ah rs;unfold RL;refine dq Tryz.func71 30 0 ?_;refine aX ?_;have gN:List.take 24 (flat rs)=flat (rs.take 8):=pS 8 rs;have fG:[List.take 3 (cK (rs.take 8)),List.take 3 (List.drop 3 (cK (rs.take 8))),List.take 3 (List.drop 3 (List.drop 3 (cK (rs.take 8)))),List.take 3 (List.drop 3 (List.drop 3 (List.drop 3 (cK (rs.take 8))))),List.take 3 (List.drop 3 (List.drop 3 (List.drop 3 (List.drop 3 (cK (rs.take 8)))))),List.take 3 (List.drop 3 (List.drop 3 (List.drop 3 (List.drop 3 (List.drop 3 (cK (rs.take 8))))))),List.take 3 (List.drop 3 (List.drop 3 (List.drop 3 (List.drop 3 (List.drop 3 (List.drop 3 (cK (rs.take 8)))))))),List.take 3 (List.drop 3 (List.drop 3 (List.drop 3 (List.drop 3 (List.drop 3 (List.drop 3 (List.drop 3 (cK (rs.take 8)))))))))]=(rs.take 8).map Raw.f:=by
  have h:=sP (rs.take 8);rw[length_take,aD] at h;exact h
 have aet:=cU (rs:=rs) (i:=8) (by omega);simp only[reduceMul] at aet;have Jf:(rs.take 8).map Raw.f++[[FV.lit (Value.bool (rs.getD 8 rz).neg),FV.sl (u32s (rs.getD 8 rz).num),FV.sl (u32s (rs.getD 8 rz).den)]]=rs.map Raw.f:=HA aD;have aiW:List.take 8 ((rs.take 8).map Raw.f)=(rs.take 8).map Raw.f:=eE (by simp;omega);have aiX:((rs.take 8).map Raw.f).length=8:=by simp[aD]
 have h3s: ∀ y∈(rs.take 8).map Raw.f,y.length=3:=by
  intro y hy;simp only[mem_map] at hy;obtain⟨r,_,rfl⟩:=hy;rfl
 refine⟨by omega,?_⟩;refine Draw.freeze [0] (by kernel_rfl) ?_;simp -dsimp(disch:=omega) only[gN,fG,aet,Jf,aiW,aiX,Option.isSome_some,imp_self,Int.reduceToNat,↓reduceIte,reduceAdd,reduceMul,Nat.reduceSub,reduceLT,reduceLeDiff,ru,zu];have ZH:(rs.map Raw.f).length=9:=by simp[aD]
 refine⟨by omega,by omega,h3s,?_⟩;refine wl (α:=Nat) (fun i=>⟨[.any,.ptr 0 0 0,.ptr 1 0 0,.any,.any,.any,.any,.any,.any,.any,.any,.lsl 2 0 9 3,.int .i64 9,.int .i64 i]++replicate 17 .any,[.box false (flat rs),.box true (fS 9),.row true (rs.map Raw.f)]⟩)
  (fun i=>9 - i) (fun i=>i<=9/\(i<9->bQ (rs.drop i)=bQ rs)/\(i=9->(bQ rs).q=0)) 0 ?_ ?_ ?_
 .exact vf [0,1,3]
 .exact⟨eH _,fun _=>rfl,fun h=>by omega⟩
 rintro i ⟨hi,dR,hl9⟩;refine aX ?_;refine bR ?_ ?_
 .intro h1 h2;have hmf:=Hz (rs:=rs) (i:=i) (by omega);have DZ:bQ (rs.drop i)=if(rs.getD i rz).q=0/\i<8 then bQ (rs.drop (i+1)) else rs.getD i rz:=by
   by_cases h8:i<8
   .rw[Hx (by omega)];simp[h8]
   rw[Hy (by omega)];simp[h8]
  rw[dR (by omega)] at DZ;obtain⟨r,hr⟩:=aw (rs.getD i rz);have bE:r.Ok 1000:=by rw[<-hr];exact jc.at i
  rw[hr] at hmf DZ;have iI:=mf r (bE.mono (by decide));have ZA:=Ws r (bE.mono (by decide));have br:=bE.bd (by decide);have Vh:([FV.lit (Value.bool r.neg),FV.sl (u32s r.num),FV.sl (u32s r.den)]:List FV).length=3:=rfl;by_cases h0:r.q=0
  .rw[bm.2 h0] at iI;unfold Raw.v at iI;have hb:((0:Int) !=0)=false:=rfl;refine ae (ej h2 hmf Vh @append_nil.{0}) ?_
   repeat refine ag ?_
   refine aW iI ?_;refine ae (aQ hb @append_nil.{0}) ?_;refine ax (i+1) ?_ ⟨by omega,fun h9=>?_,fun h9=>?_⟩
   .exact vf [0,1,2]
   .rw[if_pos ⟨h0,by omega⟩] at DZ;exact DZ.symm
   rw[if_neg (by omega)] at DZ;rw[DZ];exact h0
  rw[if_neg (fun h=>h0 h.1)] at DZ;have SC:=xm (rs:=rs) (by rw[DZ];exact h0);rw[DZ] at SC;rw[SC];have Lo:(gk r.q !=0)=true:=by rw[bne_iff_ne];exact fun h=>h0 (bm.1 h)
  obtain⟨zs,hz⟩:=Hs ((rs.map (fun x=>x.q / fH r.q)).map cn);have sr:zs.length=9:=by rw[<-hz];simp[aD]
  have qW:(flat zs).length=27:=by rw[ah];omega
  by_cases mQ:r.q.num<0
  .have Az:fH r.q= -r.q:=if_pos mQ;have Jb:(cn (-r.q)).q≠0:=by rw[cQ,<-Az];exact uw h0
   have ud:=HB rs 134 (.fp (cn (-r.q)).f) (fun x=>x.q / (cn (-r.q)).q) aD (fun x hx=>WH x (cn (-r.q)) ((jc.ok x hx).mono (by decide)) (Raw.Ok.mono (bD br.neg) (by decide)) Jb);rw[cQ,<-Az] at ud;rw[Az] at ud;unfold FL RL at ud;rw[<-Az,hz] at ud;rw[Az] at ud;unfold Raw.f cn at ud;rw[Cq mQ] at iI Lo;rw[bk,bB,bB] at ZA;unfold Raw.v at iI ZA;have tU:decide ((-1:Int)<0)=true:=rfl;unfold FL RL;rw[hz];refine ae (ej h2 hmf Vh @append_nil.{0}) ?_
   repeat refine ag ?_
   refine aW iI ?_;refine ae (bZ Lo tU @append_nil.{0}) ?_;refine aW ZA ?_;simp -dsimp(disch:=omega) only[ar aD,↓reduceIte,reduceAdd,reduceLT,reduceLeDiff,ru,zu]
   repeat refine ag ?_
   refine lY ud ?_;refine b9 qW ?_
   repeat refine ag ?_
   exact RetOK.form rfl rfl sr
  have Az:fH r.q=r.q:=if_neg mQ;have ud:=HB rs 134 (.fp r.f) (fun x=>x.q / r.q) aD (fun x hx=>WH x r ((jc.ok x hx).mono (by decide)) (bE.mono (by decide)) h0);rw[Az] at hz;unfold FL RL at ud;rw[hz] at ud;unfold Raw.f at ud;rw[SY h0 mQ] at iI Lo;unfold Raw.v at iI;have tU:decide ((1:Int)<0)=false:=rfl;unfold FL RL;rw[Az,hz];refine ae (ej h2 hmf Vh @append_nil.{0}) ?_
  repeat refine ag ?_
  refine aW iI ?_;simp -dsimp(disch:=omega) only[Lo,tU,ar aD,↓reduceIte,reduceAdd,ru,zu]
  repeat refine ag ?_
  refine lY ud ?_;refine b9 qW ?_
  repeat refine ag ?_
  exact RetOK.form rfl rfl sr
 intro h1 h2;have hi9:i=9:=by omega
 subst hi9;have ud:=OX rs Raw.q aD (fun r hr=>OL r ((jc.ok r hr).mono (by decide)));rw[LN (hl9 rfl) aD];unfold FL RL at ud ⊢;obtain⟨zs,hz⟩:=aw ((rs.map Raw.q).map cn);have sr:zs.length=9:=by rw[<-hz];simp[aD]
 have qW:(flat zs).length=27:=by rw[ah];omega
 rw[hz] at ud ⊢;simp -dsimp(disch:=omega) only[h2,ar aD,↓reduceIte,Nat.reduceBEq,ru]
 repeat refine ag ?_
 refine lY ud ?_;refine b9 qW ?_
 repeat refine ag ?_
 exact RetOK.form rfl rfl sr
theorem ahR (rs:List Raw) (v:Int) (jc:rs.length=9) (hv:v<0\/8<=v):Den Tryz.prog 72 [] [RL rs,.int .i64 v] [] (.tup [RL (replicate 9 rz),.int .i64 0,.int .i64 1]):=by
 have oH:=ah rs;unfold RL;by_cases h:v<0
 .have h1:decide (v<0)=true:=ib h;refine dq Tryz.func72 42 0 ?_;refine b8 (aQ h1 @append_nil.{0}) ?_
  repeat refine ag ?_
  refine Sp rfl ⟨⟨rfl,qp 27⟩,cS,cS,cS⟩ rfl
 have h1:decide (v<0)=false:=mX h;have h2:decide (v>=8)=true:=GP;refine dq Tryz.func72 42 0 ?_;refine b8 (bZ h1 h2 @append_nil.{0}) ?_
 repeat refine ag ?_
 refine Sp rfl ⟨⟨rfl,qp 27⟩,cS,cS,cS⟩ rfl
theorem OY (rs:List Raw) (v:Nat) (jc:LOk 1000 rs) (hv:v<8) (h0:(rs.getD v rz).q=0):Den Tryz.prog 72 [] [RL rs,.int .i64 v] [] (.tup [FL (rs.map Raw.q),.int .i64 0,.int .i64 0]):=by
 have aD:=jc.len;have oH:=ah rs;have bE:=jc.at v;have gV:=cU (rs:=rs) (i:=v) (by omega);have iI:=mf (rs.getD v rz) (bE.mono (by decide));rw[bm.2 h0] at iI;obtain⟨r,hr⟩:=aw (rs.getD v rz);rw[hr] at gV iI;unfold Raw.v at iI;have ud:=OX rs Raw.q aD (fun r hr=>OL r ((jc.ok r hr).mono (by decide)));unfold FL RL at ud ⊢;obtain⟨zs,hz⟩:=aw ((rs.map Raw.q).map cn);have sr:zs.length=9:=by rw[<-hz];simp[aD]
 have qW:(flat zs).length=27:=by rw[ah];omega
 rw[hz] at ud ⊢;have h1:decide ((v:Int)<0)=false:=sB;have h2:decide ((v:Int)>=8)=false:=sB;have e00:((0:Int)==0)=true:=rfl;refine dq Tryz.func72 42 0 ?_;refine b8 (bZ h1 h2 gV) ?_
 repeat refine ag ?_
 refine aW iI ?_;simp -dsimp(disch:=omega) only[append_nil,e00,ar aD,↓reduceIte,reduceAdd,ru]
 repeat refine ag ?_
 refine lY ud ?_;refine b9 qW ?_
 repeat refine ag ?_
 exact RetOK.form3 rfl rfl sr rfl rfl
theorem X7 {k:Nat} {rs:List Raw} (h:LOk k rs) (v:Nat):LOk k (rs.set v rz):=
 ⟨by simp[h.len],fun r hr=>by
  rcases List.mem_or_eq_of_mem_set hr with h1 | h1
  .exact h.ok r h1
  rw[h1];exact rz_ok⟩
theorem WJ (rs:List Raw) (v:Nat) (jc:LOk 1000 rs) (hv:v<8) (h0:(rs.getD v rz).q≠0):
 Den Tryz.prog 72 [] [RL rs,.int .i64 v] [] (.tup [FL ((rs.set v rz).map (fun r=>r.q*(-1 / (rs.getD v rz).q))),.int .i64 (gk (rs.getD v rz).q),.int .i64 0]):=by
 have aD:=jc.len
 have oH:=ah rs
 have bE:=jc.at v
 have gV:=cU (rs:=rs) (i:=v) (by omega)
 have aeu:(flat rs).length=27:=by omega
 obtain⟨X,hX⟩:=aw (List.take (v*3) (flat rs)++[.fv (.lit (.bool false)),.nilsl,.nilsl]++List.drop (v*3+3) (flat rs))
 have hXh:zT rs v=X:=hX
 have hXl:X.length=27:=by rw[<-hXh];exact Em (by omega) aD
 have hXt:List.take 27 X=X:=eE (by omega)
 have hXf: ∀ H,lG H X=some (cK (rs.set v rz)):=fun H=>by rw[<-hXh];exact Ek H v rs (by omega)
 have hXi:X.flatMap eY=[]:=by rw[<-hXh];exact El v rs (by omega)
 have iI:=mf (rs.getD v rz) (bE.mono (by decide))
 obtain⟨r,hr⟩:=aw (rs.getD v rz)
 rw[hr] at gV iI bE h0
 rw[hr]
 have dV:Bd 1 (((-1:Int)):Rat):=⟨by decide,by decide⟩
 have AA:=xk (-1) (by decide)
 have vU:=OO (cn ((-1:Int):Rat)) r (Raw.Ok.mono (bD dV) (by decide)) (bE.mono (by decide)) h0
 rw[cQ] at vU
 change Den Tryz.prog 73 [] [FR ((-1:Int):Rat),r.v] [] _ at vU
 have AB:=X7 jc v
 have hbd:=dV.div (bE.bd (by decide)) h0 (by decide)
 have Jg:=JW (rs.set v rz) (cn (((-1:Int):Rat) / r.q)) (AB.mono (by decide)) (Raw.Ok.mono (bD hbd) (by decide))
 rw[cQ] at Jg
 change Den Tryz.prog 135 [] [RL (rs.set v rz),FR (((-1:Int):Rat) / r.q)] [] _ at Jg
 have e1:((-1:Int):Rat)= -1:=rfl
 rw[e1] at Jg vU AA
 obtain⟨zs,hz⟩:=Hs (((rs.set v rz).map (fun x=>x.q*(-1 / r.q))).map cn)
 have sr:zs.length=9:=by rw[<-hz];simp[aD]
 have qW:(flat zs).length=27:=by rw[ah];omega
 have ss:(rs.set v rz).length=9:=AB.len
 have hsf:=ah (rs.set v rz)
 unfold FL RL at Jg ⊢
 rw[hz] at Jg ⊢
 rw[bk] at AA Jg
 rw[bk,bk] at vU
 unfold Raw.v at iI vU
 have h1:decide ((v:Int)<0)=false:=sB
 have h2:decide ((v:Int)>=8)=false:=sB
 have Lo:(gk r.q==0)=false:=by rw[qx];exact fun h=>h0 (bm.1 h)
 refine dq Tryz.func72 42 0 ?_
 refine b8 (bZ h1 h2 gV) ?_
 repeat refine ag ?_
 refine aW iI ?_
 simp -dsimp(disch:=omega) only[append_nil,Lo,ar aD,aeu,hX,↓reduceIte,reduceAdd,reduceLT,reduceLeDiff,ru]
 repeat refine ag ?_
 refine dw (by kernel_rfl) ?_
 refine a9 ?_
 refine aW AA ?_
 refine ae (aQ gV @append_nil.{0}) ?_
 repeat refine ag ?_
 refine aW vU ?_
 refine ae (bZ hXt hXl @append_nil.{0}) ?_
 repeat refine ag ?_
 refine gp Jg (by simp[cC,iw,hXf,jo,lG,fP]) ?_
 refine b9 (aQ qW hXi) ?_
 repeat refine ag ?_
 exact RetOK.form3 rfl rfl sr rfl rfl
def ints (xs:List Int):List (List FV):=xs.map (fun n=>[FV.lit (Value.int .i64 n)])
theorem cg (xs:List Int):(ints xs).length=xs.length:=by simp[ints]
theorem iS {xs:List Int} {i:Nat} (h:i<xs.length):(ints xs).getD i []=[FV.lit (Value.int .i64 (xs.getD i 0))]:=by
 simp[ints,qa,h]
def S (xs:List Int) (a:Nat):Ob:= .box true [.fv (.sl (ints xs)),.int .i64 a,.int .i64 0]
def nx (xs:List Int) (a:Nat):Nat:=if a<xs.length then a+1 else a
theorem aI (xs:List Int) (a:Nat):(S xs a).closed:=by
 intro c hc;simp only[AK,List.not_mem_nil,or_false] at hc;rcases hc with h | h | h<;>exact⟨_,h⟩
def W64 (xs:List Int):Prop:= ∀ x∈xs,-9223372036854775808<=x/\x<9223372036854775808
theorem W64.at {xs:List Int} (h:W64 xs) (a:Nat): -9223372036854775808<=xs.getD a 0/\xs.getD a 0<9223372036854775808:=by
 by_cases ha:a<xs.length
 .rw[qa,qb ha];exact h _ (kj ha)
 rw[qa,getElem?_eq_none (by omega)];simp
theorem sh1 (o:Ob) (l:List Ob):shutBs (o::l) 0 [.ptr 0 0 0]=o::l:=rfl
theorem sh2 (o:Ob) (l:List Ob) (v:FV):shutBs (o::l) 0 [.ptr 0 0 0,.fv v]=o::l:=rfl
theorem sh3 (o:Ob) (l:List Ob) (v u:FV):shutBs (o::l) 0 [.ptr 0 0 0,.fv v,.fv u]=o::l:=rfl
theorem LO (x:Int) (n:Int) (hn:0<n):(x.tmod n<0->x.tmod n+n=x % n)/\(¬x.tmod n<0->x.tmod n=x % n):=by
 have h1:=Int.mul_tdiv_add_tmod x n;have h2:=Int.tmod_lt_of_pos x hn;have h3:=Int.lt_tmod_of_pos x hn;have h4:x % n=x.tmod n % n:=by
  conv=>lhs;rw[<-h1]
  rw[Int.add_comm,Int.add_mul_emod_self_left]
 rw[h4];generalize x.tmod n=t at*;constructor
 .intro h;rw[<-Int.add_emod_right,Int.emod_eq_of_lt (by omega) (by omega)]
 intro h;rw[Int.emod_eq_of_lt (by omega) (by omega)]
theorem acK (xs:List Int) (a:Nat) (hl:xs.length<=1000) (ha:a<=xs.length):Den Tryz.prog 81 [S xs a] [.ptr 0 0 0] [S xs (nx xs a)] (.int .i64 (xs.getD a 0)):=by
 have dU:=cg xs;unfold S nx;by_cases h:a<xs.length
 .have hg:=iS h;have h1:decide ((a:Int)>=(xs.length:Int))=false:=sB;have e1:((a:Int)+1 - 1)=(a:Int):=by omega
  have e2:(a:Int)+1=((a+1:Nat):Int):=by omega
  have e3:((a+1:Nat):Int) - 1=(a:Int):=by omega
  rw[if_pos h];refine dq Tryz.func81 30 1 ?_;refine aX ?_;refine dw (by kernel_rfl) ?_;refine ae (aQ dU h1) ?_;refine dw (by kernel_rfl) ?_;refine ae (ej dU e2 e3 hg) ?_;refine⟨by omega,?_⟩;refine sk rfl ⟨cS,cS⟩ rfl (aI xs (a+1)) rfl rfl rfl
 have h1:decide ((a:Int)>=(xs.length:Int))=true:=GP;have h0:xs.getD a 0=0:=by rw[qa,getElem?_eq_none (by omega)];rfl
 rw[if_neg h,h0];refine dq Tryz.func81 30 1 ?_;refine aX ?_;refine dw (by kernel_rfl) ?_;refine ae (aQ dU h1) ?_;refine sk rfl ⟨cS,cS⟩ rfl (aI xs a) rfl rfl rfl
theorem acL (xs:List Int) (a:Nat) (n:Nat) (hl:xs.length<=1000) (ha:a<=xs.length) (hw:W64 xs) (hn:1<=n) (ub:n<1000000):Den Tryz.prog 31 [S xs a] [.ptr 0 0 0,.int .i64 n] [S xs (nx xs a)] (.int .i64 (xs.getD a 0 % n)):=by
 have h50:=acK xs a hl ha;have hx:=hw.at a;obtain⟨x,qT⟩:=aw (xs.getD a 0);rw[qT] at h50 hx ⊢;have hc:=aI xs a;have h1:decide ((n:Int)<1)=false:=sB;unfold S at h50 hc ⊢;refine dq Tryz.func31 16 1 ?_;refine b8 h1 ?_;refine iD 0 h50 hc ?_;have htm:=LO x (n:Int) (by omega);have hb:=Int.lt_tmod_of_pos x (show(0:Int)<n by omega);refine I5 ?_;refine⟨by omega,bR ?_ ?_⟩
 .intro h3 h4;rw[<-htm.1 h3];generalize x.tmod (n:Int)=t at*;refine ae h4 ?_;refine sk rfl ⟨cS,cS⟩ rfl (aI xs _) rfl rfl rfl
 intro h3 h4;rw[<-htm.2 h3];generalize x.tmod (n:Int)=t at*;refine ae h4 ?_;refine sk rfl ⟨cS,cS⟩ rfl (aI xs _) rfl rfl rfl
theorem cD {xs:List Int} {a:Nat} (h:a<=xs.length):nx xs a<=xs.length:=by unfold nx;split<;>omega
def nN (xs:List Int) (a n:Nat):Nat:=(xs.getD a 0 % n).toNat
theorem JX {xs:List Int} {a n:Nat} (hn:1<=n):xs.getD a 0 % (n:Int)=(nN xs a n:Int):=by
 unfold nN;have:=Int.emod_nonneg (xs.getD a 0) (show(n:Int)≠0 by omega);omega
theorem eR {xs:List Int} {a n:Nat} (hn:1<=n):nN xs a n<n:=by
 have h:=JX (xs:=xs) (a:=a) hn;have:=Int.emod_lt_of_pos (xs.getD a 0) (show(0:Int)<n by omega);omega
theorem sU (xs:List Int) (a n:Nat) (hl:xs.length<=1000) (ha:a<=xs.length) (hw:W64 xs) (hn:1<=n) (ub:n<1000000):Den Tryz.prog 31 [S xs a] [.ptr 0 0 0,.int .i64 n] [S xs (nx xs a)] (.int .i64 (nN xs a n)):=by
 have h:=acL xs a n hl ha hw hn ub;rw[JX hn] at h;exact h
theorem A1 (xs:List Int) (a:Nat) (lo hi:Int) (n:Nat) (hl:xs.length<=1000) (ha:a<=xs.length) (hw:W64 xs) (hn:hi - lo+1=n) (kL:1<=n) (ub:n<1000000) (fF: -1000000<lo) (fE:lo<1000000):
 Den Tryz.prog 80 [S xs a] [.ptr 0 0 0,.int .i64 lo,.int .i64 hi] [S xs (nx xs a)] (.int .i64 (lo+nN xs a n)):=by
 have h:=sU xs a n hl ha hw kL ub
 have hc:=aI xs a
 have aH:=eR (xs:=xs) (a:=a) kL
 generalize nN xs a n=m at*
 unfold S at h hc ⊢
 refine dq Tryz.func80 12 1 ?_
 refine b8 hn ?_
 refine iD 0 h hc ?_
 refine I5 ?_
 refine sk rfl ⟨cS,cS⟩ rfl (aI xs _) rfl rfl rfl
theorem OZ (xs:List Int) (a:Nat) (l:List Int) (hl:xs.length<=1000) (ha:a<=xs.length) (hw:W64 xs) (kL:1<=l.length) (ub:l.length<1000):
 Den Tryz.prog 52 [S xs a] [.ptr 0 0 0,.fv (.sl (ints l))] [S xs (nx xs a)] (.int .i64 (l.getD (nN xs a l.length) 0)):=by
 have h:=sU xs a l.length hl ha hw kL (by omega)
 have hc:=aI xs a
 have aH:=eR (xs:=xs) (a:=a) kL
 have dU:=cg l
 have hg:=iS (xs:=l) aH
 obtain⟨m,hm⟩:=aw (nN xs a l.length)
 rw[hm] at h aH hg ⊢
 unfold S at h hc ⊢
 refine dq Tryz.func52 10 1 ?_
 refine b8 dU ?_
 refine iD 0 h hc ?_
 refine vg (aQ hg dU) ?_
 repeat refine ag ?_
 refine sk rfl ⟨cS,cS⟩ rfl (aI xs _) rfl rfl rfl
def qR (xs:List Int) (a:Nat):Rat:=((-6+(nN xs a 13:Int):Int):Rat) / ((1+(nN xs (nx xs a) 5:Int):Int):Rat)
theorem bd_int {n:Int} (h:n.natAbs<4294967296):Bd 1 (n:Rat):=⟨h,(by decide:(1:Nat)<B^1)⟩
theorem wG (xs:List Int) (a:Nat):Bd 2 (qR xs a):=by
 have h1:=eR (xs:=xs) (a:=a) (n:=13) (by decide);have h2:=eR (xs:=xs) (a:=nx xs a) (n:=5) (by decide);refine Bd.div (j:=1) (k:=1) (bd_int (by omega)) (bd_int (by omega)) ?_ (by decide);intro h;have:=congrArg Rat.num h;change (1+(nN xs (nx xs a) 5:Int))=0 at this;omega
theorem O0 (xs:List Int) (a:Nat) (hl:xs.length<=1000) (ha:a<=xs.length) (hw:W64 xs):Den Tryz.prog 55 [S xs a] [.ptr 0 0 0] [S xs (nx xs (nx xs a))] (FR (qR xs a)):=by
 have h1:=A1 xs a (-6) 6 13 hl ha hw (by decide) (by decide) (by decide) (by decide) (by decide);have h2:=A1 xs (nx xs a) 1 5 5 hl (cD ha) hw (by decide) (by decide) (by decide) (by decide) (by decide);have hc:=aI xs a;have qO:=aI xs (nx xs a);have l1:=eR (xs:=xs) (a:=a) (n:=13) (by decide);have l2:=eR (xs:=xs) (a:=nx xs a) (n:=5) (by decide);unfold qR;generalize nN xs a 13=m1 at*;generalize nN xs (nx xs a) 5=m2 at*;have h59:=acG (-6+(m1:Int)) (1+(m2:Int)) (by omega) (by omega) (by omega);rw[bk] at h59 ⊢;unfold S at h1 h2 hc qO ⊢;refine dq Tryz.func55 13 1 ?_;refine aX ?_;refine iD 0 h1 hc ?_;refine I5 ?_;refine iD 0 h2 qO ?_;refine I5 ?_;refine aW h59 ?_;refine ae @append_nil.{0} ?_;refine sk rfl ⟨⟨rfl,qp 3⟩,cS⟩ rfl (aI xs _) rfl rfl rfl
def q8:List Nat:=[0,1,2,3,10,97,65536,2147483648,4294967295,4294967291,123456789,4000000007]
def JY:List Int:=[0,1,2,3,10,97,65536,2147483648,4294967295,4294967291,123456789,4000000007]
theorem LP (i:Nat):JY.getD i 0=((q8.getD i 0:Nat):Int):=by
 have h:JY=q8.map (fun n:Nat=>(n:Int)):=rfl;rw[h];simp only[qa,List.getElem?_map];cases q8[i]?<;>rfl
theorem JZ (i:Nat):q8.getD i 0<4294967296:=by
 by_cases h:i<q8.length
 .have hm:q8.getD i 0∈q8:=by rw[qa,qb h];exact kj h
  have: ∀ x∈q8,x<4294967296:=by decide
  exact this _ hm
 rw[qa,getElem?_eq_none (by omega)];decide
def ij (xs:List Int):Nat->Nat->List Nat
 | 0,_=>[]
 | n+1,a=>q8.getD (nN xs a 12) 0::ij xs n (nx xs a)
def rJ (xs:List Int):Nat->Nat->Nat
 | 0,a=>a
 | n+1,a=>rJ xs n (nx xs a)
theorem rK (xs:List Int): ∀ n a,Dig (ij xs n a)
 | 0,_=>Dig.nil
 | n+1,a=>Dig.mk (JZ _) (rK xs n (nx xs a))
theorem lH (xs:List Int): ∀ n a,(ij xs n a).length=n
 | 0,_=>rfl
 | n+1,a=>by simp[ij,lH xs n]
theorem rL {xs:List Int}: ∀ {n a:Nat},a<=xs.length->rJ xs n a<=xs.length
 | 0,_,h=>h
 | n+1,_,h=>rL (n:=n) (cD h)
theorem SZ (o:Ob) (l:List Ob) (k off n s:Nat):shutBs (o::l) 0 [.ptr 0 0 0,.lsl (k+1) off n s]=shutIds [k+1] (o::l):=rfl
def S2 (out:List Nat):PV:=match out with | []=> .nilsl | _=> .lsl 1 0 out.length 1
def S3 (o:Ob) (out:List Nat):List Ob:=match out with | []=>[o] | _=>[o,.row true (u32s out)]
theorem WK (xs:List Int) (a:Nat) (hl:xs.length<=1000) (ha:a<=xs.length) (hw:W64 xs):
 Den Tryz.prog 117 [S xs a] [.ptr 0 0 0] [S xs (rJ xs (nN xs a 5) (nx xs a))] (.fv (.sl (u32s (ij xs (nN xs a 5) (nx xs a))))):=by
 have h5:=sU xs a 5 hl ha hw (by decide) (by decide)
 have aH:=eR (xs:=xs) (a:=a) (n:=5) (by decide)
 have hc:=aI xs a
 have vV:=cD ha
 obtain⟨a1,ai0⟩: ∃ t,nx xs a=t:=⟨_,rfl⟩
 obtain⟨m,hm⟩:=aw (nN xs a 5)
 rw[hm] at h5 aH ⊢
 rw[ai0] at h5 vV ⊢
 obtain⟨fin,iK⟩:=aw (rJ xs m a1)
 obtain⟨tot,DF⟩:=aw (ij xs m a1)
 rw[iK,DF]
 unfold S at h5 hc ⊢
 refine dq Tryz.func117 18 1 ?_
 refine aX ?_
 refine iD 0 h5 hc ?_
 refine I5 ?_
 refine wl (α:=Nat×Nat×List Nat) (fun⟨n,b,out⟩=>⟨[.ptr 0 0 0,.any,.nilsl,S2 out,.int .i64 n]++replicate 14 .any,S3 (S xs b) out⟩)
  (fun⟨n,_,_⟩=>n) (fun⟨n,b,out⟩=>b<=xs.length/\n+out.length<=4/\rJ xs n b=fin/\out++ij xs n b=tot) (m,a1,[]) ?_ ?_ ?_
 .refine eV [0] ?_ ?_
  .simp[bc,dX,cB,S2]
  simp[ez,fL,c9,cB,S3,S]
 .exact⟨vV,by simp;omega,iK,by rw[nil_append];exact DF⟩
 rintro⟨n,b,out⟩ ⟨hb,su,zQ,cJ⟩
 have Lp:=OZ xs b JY hl hb hw (by decide) (by decide)
 have Hl:=aI xs b
 have mW:=JZ (nN xs b 12)
 rw[show JY.length=12 from rfl,LP] at Lp
 obtain⟨d,hd⟩:=aw (q8.getD (nN xs b 12) 0)
 rw[hd] at Lp mW
 have Ja:IntKind.u32.wrap (d:Int)=(d:Int):=cP (by omega)
 have aev: ∀ k,n=k+1->rJ xs k (nx xs b)=fin/\(out++[d])++ij xs k (nx xs b)=tot:=by
  intro k hk;subst hk;rw[<-zQ,<-cJ,ij,hd];exact⟨rfl,by simp⟩
 have Zo:=cD hb
 cases out with
 | nil=>
  simp only[S2,S3];unfold S at Lp Hl ⊢;refine aX ?_;refine bR ?_ ?_
  .intro h1 h2;obtain⟨k,rfl⟩: ∃ k,n=k+1:=⟨n - 1,by omega⟩;obtain⟨kL,ub⟩:=aev k rfl;have hk:((k+1:Nat):Int) - 1=(k:Int):=by omega
   refine ae (aQ h2 @append_nil.{0}) ?_;refine iD 0 Lp Hl ?_;refine ae (fM @SZ Ja hk @length_cons.{0} @length_nil.{0} @append_nil.{0}) ?_
   repeat refine ag ?_
   refine ax (k,nx xs b,[d]) ?_ ⟨Zo,by simp at su ⊢;omega,kL,ub⟩;refine eV [0,3] ?_ ?_
   .simp[bc,dX,cB]
   simp[ez,fL,c9,cB,u32s]
  .intro h1 h2;have Jb:n=0:=by omega
   subst Jb;have zy:tot=[]:=by rw[<-cJ];rfl
   have RH:fin=b:=zQ.symm;rw[zy,RH];refine ae h2 ?_;refine sk rfl ⟨cS,cS⟩ rfl (aI xs _) rfl rfl rfl
 | cons x out=>
  have zo:(u32s (x::out)).length=(x::out).length:=aM;have gN:List.take (x::out).length (u32s (x::out))=u32s (x::out):=eE (by rw[zo];exact qp _);have GW:u32s (x::out)++[[FV.lit (Value.int .u32 d)]]=u32s (x::(out++[d])):=by simp[u32s]
  simp only[S2,S3];obtain⟨L,hL⟩:=aw ((x::out).length);obtain⟨us,gK⟩:=aw (u32s (x::out));rw[hL,gK] at zo gN;rw[gK] at GW;rw[hL] at su;rw[hL,gK];unfold S at Lp Hl ⊢;refine aX ?_;refine bR ?_ ?_
  .intro h1 h2;obtain⟨k,rfl⟩: ∃ k,n=k+1:=⟨n - 1,by omega⟩;obtain⟨kL,ub⟩:=aev k rfl;have hk:((k+1:Nat):Int) - 1=(k:Int):=by omega
   refine ae (aQ h2 @append_nil.{0}) ?_;refine iD 0 Lp Hl ?_;refine ae (bT @SZ Ja hk gN GW @length_cons.{0} @length_nil.{0} @append_nil.{0}) ?_
   repeat refine ag ?_
   refine ax (k,nx xs b,x::(out++[d])) ?_ ⟨Zo,by simp at hL ⊢;omega,kL,ub⟩;refine eV [0,4] ?_ ?_
   .simp[bc,dX,cB];simp at hL;omega
   simp[ez,fL,c9,cB]
  intro h1 h2;have Jb:n=0:=by omega
  subst Jb;have zy:tot=x::out:=by rw[<-cJ];simp[ij]
  have RH:fin=b:=zQ.symm;rw[zy,RH,gK];refine ae h2 ?_;refine sk rfl ⟨cS,cS⟩ rfl (aI xs _) rfl ?_ rfl;have hi:List.idxOf? 1 [0]=none:=rfl;exact lX (bZ zo gN hi)
def jI (xs:List Int) (a:Nat):Raw×Nat:=
 if nN xs a 4=0 then(cn (qR xs (nx xs a)),nx xs (nx xs (nx xs a)))
 else if nN xs a 4=1 then
  (⟨decide (nN xs (nx xs a) 2=0),ij xs (nN xs (nx xs (nx xs a)) 5) (nx xs (nx xs (nx xs a))),
   ij xs (nN xs (rJ xs (nN xs (nx xs (nx xs a)) 5) (nx xs (nx xs (nx xs a)))) 5) (nx xs (rJ xs (nN xs (nx xs (nx xs a)) 5) (nx xs (nx xs (nx xs a)))))⟩,
   rJ xs (nN xs (rJ xs (nN xs (nx xs (nx xs a)) 5) (nx xs (nx xs (nx xs a)))) 5) (nx xs (rJ xs (nN xs (nx xs (nx xs a)) 5) (nx xs (nx xs (nx xs a))))))
 else(⟨decide (nN xs (nx xs (nx xs a)) 2=0),[(1+nN xs (nx xs a) 6)*nN xs (nx xs (nx xs (nx xs a))) 9,0],[(1+nN xs (nx xs a) 6)*nN xs (nx xs (nx xs (nx xs (nx xs a)))) 6]⟩,nx xs (nx xs (nx xs (nx xs (nx xs a)))))
theorem acM (m:Nat):((m:Int)==0)=decide (m=0):=by
 by_cases h:m=0
 .subst h;rfl
 rw[mX h,qx];omega
theorem acN {x:Nat} (h:x<4294967296):Dig [x]:=Dig.mk h Dig.nil
theorem ux (xs:List Int) (a:Nat):(jI xs a).1.Ok 4:=by
 unfold jI;split
 .exact Raw.Ok.mono (bD (wG xs _)) (by decide)
 split
 .have h1:=eR (xs:=xs) (a:=nx xs (nx xs a)) (n:=5) (by decide);have h2:=eR (xs:=xs) (a:=rJ xs (nN xs (nx xs (nx xs a)) 5) (nx xs (nx xs (nx xs a)))) (n:=5) (by decide);exact⟨rK _ _ _,rK _ _ _,by rw[lH];omega,by rw[lH];omega⟩
 have h1:=eR (xs:=xs) (a:=nx xs a) (n:=6) (by decide);have h2:=eR (xs:=xs) (a:=nx xs (nx xs (nx xs a))) (n:=9) (by decide);have h3:=eR (xs:=xs) (a:=nx xs (nx xs (nx xs (nx xs a)))) (n:=6) (by decide);have h4:(1+nN xs (nx xs a) 6)*nN xs (nx xs (nx xs (nx xs a))) 9<=6*8:=Nat.mul_le_mul (by omega) (by omega);have h5:(1+nN xs (nx xs a) 6)*nN xs (nx xs (nx xs (nx xs (nx xs a)))) 6<=6*5:=Nat.mul_le_mul (by omega) (by omega);exact⟨Dig.mk (by simp only[B];omega) (acN (by omega)),acN (by omega),by simp,by simp⟩
theorem A2 {xs:List Int} {a:Nat} (h:a<=xs.length):(jI xs a).2<=xs.length:=by
 unfold jI;split
 .exact cD (cD (cD h))
 split
 .exact rL (cD (rL (cD (cD (cD h)))))
 exact cD (cD (cD (cD (cD h))))
theorem WL (xs:List Int) (a:Nat) (hl:xs.length<=1000) (ha:a<=xs.length) (hw:W64 xs):
 Den Tryz.prog 60 [S xs a] [.ptr 0 0 0] [S xs (jI xs a).2] (jI xs a).1.v:=by
 have h4:=sU xs a 4 hl ha hw (by decide) (by decide)
 have hc:=aI xs a
 have vV:=cD ha
 unfold jI
 obtain⟨m,hm⟩:=aw (nN xs a 4)
 obtain⟨a1,e1⟩:=aw (nx xs a)
 rw[hm,e1] at h4
 rw[e1] at vV
 rw[hm,e1]
 have c1:=aI xs a1
 by_cases h0:m=0
 .rw[if_pos h0]
  have Jh:=O0 xs a1 hl vV hw
  have hb:((m:Int)==0)=true:=by rw[h0];rfl
  dsimp only
  change Den Tryz.prog 60 _ _ _ (FR (qR xs a1))
  rw[bk] at Jh ⊢
  unfold S at h4 Jh hc c1 ⊢
  refine dq Tryz.func60 38 1 ?_
  refine aX ?_
  refine iD 0 h4 hc ?_
  refine vg hb ?_
  refine iD 0 Jh c1 ?_
  refine I5 ?_
  refine sk rfl ⟨⟨rfl,qp 3⟩,cS⟩ rfl (aI xs _) rfl rfl rfl
 rw[if_neg h0]
 have hb:((m:Int)==0)=false:=by rw[qx];omega
 have Oc:=cD vV
 obtain⟨a2,e2⟩:=aw (nx xs a1)
 have c2:=aI xs a2
 have ZI:=cD (a:=a2) (by rw[<-e2];exact Oc)
 by_cases h1:m=1
 .rw[if_pos h1]
  have dV:((m:Int)==1)=true:=by rw[h1];rfl
  have ub:=sU xs a1 2 hl vV hw (by decide) (by decide)
  rw[e2] at Oc ub ⊢
  have hx:=WK xs a2 hl Oc hw
  have ha4:rJ xs (nN xs a2 5) (nx xs a2)<=xs.length:=rL ZI
  obtain⟨a3,e3⟩:=aw (rJ xs (nN xs a2 5) (nx xs a2))
  have c3:=aI xs a3
  rw[e3] at hx ha4 ⊢
  have hy:=WK xs a3 hl ha4 hw
  obtain⟨p,hp⟩:=aw (nN xs a1 2)
  obtain⟨u,hu⟩:=aw (ij xs (nN xs a2 5) (nx xs a2))
  obtain⟨w,U0⟩:=aw (ij xs (nN xs a3 5) (nx xs a3))
  obtain⟨a4,e4⟩:=aw (rJ xs (nN xs a3 5) (nx xs a3))
  rw[hp] at ub ⊢
  rw[hu] at hx ⊢
  rw[U0,e4] at hy ⊢
  have hbp:=acM p
  unfold Raw.v
  unfold S at h4 ub hx hy hc c1 c2 c3 ⊢
  refine dq Tryz.func60 38 1 ?_
  refine aX ?_
  refine iD 0 h4 hc ?_
  refine vg (aQ hb dV) ?_
  refine iD 0 ub c1 ?_
  refine vg hbp ?_
  refine iD 0 hx c2 ?_
  refine I5 ?_
  refine iD 0 hy c3 ?_
  refine I5 ?_
  refine sk rfl ⟨⟨rfl,qp 3⟩,cS⟩ rfl (aI xs _) rfl rfl rfl
 rw[if_neg h1]
 have dV:((m:Int)==1)=false:=by rw[qx];omega
 have kL:=A1 xs a1 1 6 6 hl vV hw (by decide) (by decide) (by decide) (by decide) (by decide)
 have l1:=eR (xs:=xs) (a:=a1) (n:=6) (by decide)
 rw[e2] at Oc kL ⊢
 have ub:=sU xs a2 2 hl Oc hw (by decide) (by decide)
 obtain⟨a3,e3⟩:=aw (nx xs a2)
 have c3:=aI xs a3
 rw[e3] at ZI ub ⊢
 have hn3:=sU xs a3 9 hl ZI hw (by decide) (by decide)
 have l3:=eR (xs:=xs) (a:=a3) (n:=9) (by decide)
 have ha4:=cD ZI
 obtain⟨a4,e4⟩:=aw (nx xs a3)
 have c4:=aI xs a4
 rw[e4] at ha4 hn3 ⊢
 have hn4:=sU xs a4 6 hl ha4 hw (by decide) (by decide)
 have l4:=eR (xs:=xs) (a:=a4) (n:=6) (by decide)
 obtain⟨k,hk⟩:=aw (nN xs a1 6)
 obtain⟨p,hp⟩:=aw (nN xs a2 2)
 obtain⟨x,hx⟩:=aw (nN xs a3 9)
 obtain⟨y,hy⟩:=aw (nN xs a4 6)
 rw[hk] at kL l1 ⊢
 rw[hp] at ub ⊢
 rw[hx] at hn3 l3 ⊢
 rw[hy] at hn4 l4 ⊢
 have hbp:=acM p
 have q1:(1+k)*x<=6*8:=Nat.mul_le_mul (by omega) (by omega)
 have q2:(1+k)*y<=6*5:=Nat.mul_le_mul (by omega) (by omega)
 have g1:((1:Int)+(k:Int))*(x:Int)=(((1+k)*x:Nat):Int):=by rw[Int.natCast_mul,Int.natCast_add];rfl
 have g2:((1:Int)+(k:Int))*(y:Int)=(((1+k)*y:Nat):Int):=by rw[Int.natCast_mul,Int.natCast_add];rfl
 obtain⟨kx,hkx⟩:=aw ((1+k)*x)
 obtain⟨ky,Vk⟩:=aw ((1+k)*y)
 rw[hkx] at q1 g1 ⊢
 rw[Vk] at q2 g2 ⊢
 unfold Raw.v
 unfold S at h4 kL ub hn3 hn4 hc c1 c2 c3 c4 ⊢
 refine dq Tryz.func60 38 1 ?_
 refine aX ?_
 refine iD 0 h4 hc ?_
 refine vg (aQ hb dV) ?_
 refine iD 0 kL c1 ?_
 refine I5 ?_
 refine iD 0 ub c2 ?_
 refine vg hbp ?_
 refine iD 0 hn3 c3 ?_
 refine vg g1 ?_
 refine iD 0 hn4 c4 ?_
 refine vg g2 ?_
 repeat refine ag ?_
 refine sk rfl ⟨⟨rfl,qp 3⟩,cS⟩ rfl (aI xs _) rfl rfl rfl
theorem A3 (H:List Ob) (keep:List Nat): ∀ rs:List Raw,(flat rs).flatMap (za H keep)=[]
 | []=>rfl
 | r::rs=>by simp only[flat,List.flatMap_cons,za,ma,eY,nil_append,A3 H keep rs]
theorem RetOK.formL {st:St} {ob:Ob} {a id:Nat} {w:Bool} {rs:List Raw} (ha:st.get a= .ptr id 0 0) (hb:st.heap[id]?=some (.box w (flat rs))) (hl:rs.length=9) (hx:st.heap.head?=some ob) (fG:ob.closed) (hrw:ob.rw=true):
 RetOK tab [.cell a 30] 1 st [ob] (RL rs):=by
 refine sk (vs:=[.agg (flat rs)]) (cd:=(0=0/\0+27<=(flat rs).length)/\True) ?_ ⟨⟨rfl,by rw[ah];omega⟩,cS⟩ hx fG hrw ?_ ?_
 .simp[gJ,zc,ha,SQ,je,hb,kn,ar hl,TyI.isAgg]
 .simp[cH,tN,y9,pU,RL]
 simp only[cH,si,zb,A3]
 rw[<-hx];rfl
def zU (xs:List Int):Nat->Nat->Nat->List Raw->List Raw
 | 0,_,_,rs=>rs
 | n+1,i,a,rs=>zU xs n (i+1) (nx xs a) (rs.set i (cn ((-2+(nN xs a 5:Int):Int):Rat)))
theorem pW {k:Nat} {rs:List Raw} (h:LOk k rs) (v:Nat) {r:Raw} (hr:r.Ok k):LOk k (rs.set v r):=
 ⟨by simp[h.len],fun x hx=>by
  rcases List.mem_or_eq_of_mem_set hx with h1 | h1
  .exact h.ok x h1
  rw[h1];exact hr⟩
theorem Cv (xs:List Int): ∀ n i a rs,LOk 4 rs->LOk 4 (zU xs n i a rs)
 | 0,_,_,_,h=>h
 | n+1,i,a,rs,h=>by
  unfold zU;have h1:=eR (xs:=xs) (a:=a) (n:=5) (by decide);exact Cv xs n _ _ _ (pW h i (Raw.Ok.mono (bD (bd_int (by omega))) (by decide)))
theorem RetOK.ownB {T:Tab} {st:St} {rs:List ResultVar} {id:Nat} {ob:Ob} {cd:Prop} (h1:gJ T st rs=some (cd,[.ptr id 0 0])) (hc:cd) (h2:st.heap[id]?=some ob) (fG:ob.closed) (hrw:ob.rw=true):
 RetOK T rs 0 st [ob] (.ptr 0 0 0):=by
 refine⟨cd,[.ptr id 0 0],[id],h1,hc,by simp,fun i hi=>absurd hi (Nat.not_lt_zero i),?_,rfl,fun j k hj=>?_,fun o ho=>?_⟩
 .simp[cH,tN,y9,t_,List.idxOf?_cons]
 .cases j with
  | zero=>
   simp at hj;subst hj;simp[cH,si,zb,za,List.idxOf?_cons,shutIds,h2]
  | succ j=>simp at hj
 simp at ho;subst ho;exact⟨fG,hrw⟩
theorem acO (l:List Int) (hl:l.length<9223372036854775808):Den Tryz.prog 15 [] [.fv (.sl (ints l))] [S (l.take 1000) 0] (.ptr 0 0 0):=by
 have dU:=cg l;have hc:=aI (l.take 1000) 0;have c_: ∀ y∈ints l,y.length=1:=by
  intro y hy;simp only[ints,mem_map] at hy;obtain⟨n,_,rfl⟩:=hy;rfl
 unfold S at hc ⊢;by_cases h:l.length>1000
 .have h1:decide ((l.length:Int)>1000)=true:=GP;have gN:List.take 1000 (ints l)=ints (l.take 1000):=by simp[ints,List.map_take]
  refine dq Tryz.func15 10 0 ?_;refine b8 (bZ dU h1 gN) ?_;refine⟨⟨by omega,by omega,c_⟩,?_⟩;exact RetOK.ownB rfl ⟨cS,cS⟩ rfl hc rfl
 have h1:decide ((l.length:Int)>1000)=false:=sB;rw[eE (by omega)] at hc ⊢;refine dq Tryz.func15 10 0 ?_;refine b8 (aQ dU h1) ?_;exact RetOK.ownB rfl ⟨cS,cS⟩ rfl hc rfl
end Go.Proofs.YtjjbkjgifdhlcaaGreat
