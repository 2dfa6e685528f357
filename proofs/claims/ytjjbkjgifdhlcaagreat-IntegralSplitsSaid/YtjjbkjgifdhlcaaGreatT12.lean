/- Contracts:the reference's fractions:Mul,Div,Add. -/
import Derived.Test.YtjjbkjgifdhlcaaGreatT11
import Derived.Test.YtjjbkjgifdhlcaaGreatT8
import Derived.Test.YtjjbkjgifdhlcaaGreatT10
import Derived.Test.YtjjbkjgifdhlcaaGreatT1
set_option linter.all false
open Nat (reduceAdd reduceLT reduceLeDiff reduceMul)
open List (append_nil drop_eq_getElem_cons drop_succ_cons getElem?_eq_none length_cons length_map length_nil length_take map_cons mem_map nil_append replicate take_succ_cons take_succ_eq_append_getElem)
namespace Go.Proofs.YtjjbkjgifdhlcaaGreat
open Go.AM Go.Pl
set_option maxRecDepth 100000
set_option maxHeartbeats 2000000
theorem OV (r1 r2:Raw) (i_:r1.Ok 2000000000) (gX:r2.Ok 2000000000):Den Tryz.prog 65 [] [r1.v,r2.v] [] (FR (r1.q*r2.q)):=by
 have ha:=n5 r1 (i_.mono (by decide));have hb:=n5 r2 (gX.mono (by decide));have b1:=i_.bd (by decide);have b2:=gX.bd (by decide);have c1:=bC b1;have c2:=bC b2;have hq:gY (decide (r1.q.num<0) !=decide (r2.q.num<0)) (r1.q.num.natAbs*r2.q.num.natAbs) (r1.q.den*r2.q.den)=r1.q*r2.q:=by
  rw[<-sM,cZ,cZ]
 have mU:=Es (ai r1.q.num.natAbs) (ai r2.q.num.natAbs) (ao _) (ao _) (by have:=c1.lnum;simp only[cn] at this;omega) (by have:=c2.lnum;simp only[cn] at this;omega);have lr:=Es (ai r1.q.den) (ai r2.q.den) (ao _) (ao _) (by have:=c1.lden;simp only[cn] at this;omega) (by have:=c2.lden;simp only[cn] at this;omega);have zA:=cE (aL b1.1 b2.1);have qL:=cE (aL b1.2 b2.2);have Cm:=A7 (decide (r1.q.num<0) !=decide (r2.q.num<0)) (ai (r1.q.num.natAbs*r2.q.num.natAbs)) (ai (r1.q.den*r2.q.den)) (ao _) (ao _) (by omega) (by omega) (by rw[aj];exact Nat.mul_ne_zero r1.q.den_nz r2.q.den_nz);rw[aj,aj,hq] at Cm;rw[aj,aj] at mU lr;rw[bu] at ha hb Cm ⊢;unfold Raw.v at ha hb ⊢;rw[dr] at mU lr;rw[dr,dr] at ha hb;refine dq Tryz.func65 23 0 ?_
 refine aY ?_;refine dw (by kernel_rfl) ?_;refine ba ?_;refine aV ha ?_;refine ba ?_;refine aV hb ?_;refine ba ?_;refine dw (by kernel_rfl) ?_;refine ba ?_;refine aV mU ?_;refine ba ?_;refine aV lr ?_;refine ba ?_;refine aV Cm ?_;refine ba ?_;refine bj rfl
theorem CF {a c j k m:Nat} (ha:a<B^j) (hc:c<B^k) (hj:j<=m) (hk:k<=m):(ai (a+c)).length<=m+1:=
 cE (m9 (oV ha hj) (oV hc hk))
theorem OW (r1 r2:Raw) (i_:r1.Ok 1000000000) (gX:r2.Ok 1000000000):Den Tryz.prog 67 [] [r1.v,r2.v] [] (FR (r1.q+r2.q)):=by
 have ha:=n5 r1 (i_.mono (by decide));have hb:=n5 r2 (gX.mono (by decide));have b1:=i_.bd (by decide);have b2:=gX.bd (by decide);have c1:=bC b1;have c2:=bC b2;have hq:=rI (decide (r1.q.num<0)) (decide (r2.q.num<0)) (a:=r1.q.num.natAbs) (c:=r2.q.num.natAbs) r1.q.den_nz r2.q.den_nz;rw[cZ,cZ] at hq;have g8:=Nat.mul_ne_zero r1.q.den_nz r2.q.den_nz;have mU:=Es (ai r1.q.num.natAbs) (ai r2.q.den) (ao _) (ao _) (by have:=c1.lnum;simp only[cn] at this;omega) (by have:=c2.lden;simp only[cn] at this;omega);have lr:=Es (ai r2.q.num.natAbs) (ai r1.q.den) (ao _) (ao _) (by have:=c2.lnum;simp only[cn] at this;omega) (by have:=c1.lden;simp only[cn] at this;omega)
 have U3:=Es (ai r1.q.den) (ai r2.q.den) (ao _) (ao _) (by have:=c1.lden;simp only[cn] at this;omega) (by have:=c2.lden;simp only[cn] at this;omega);have zA:=cE (aL b1.1 b2.2);have qL:=cE (aL b2.1 b1.2);have U_:=cE (aL b1.2 b2.2);have wq:=CF (m:=2000000000) (aL b1.1 b2.2) (aL b2.1 b1.2) (by decide) (by decide);rw[aj,aj] at mU lr U3;rw[bu] at ha hb;unfold Raw.v at ha hb ⊢;rw[dr] at mU lr U3;rw[dr,dr] at ha hb;rw[hq];obtain⟨x,hx⟩:=ax (r1.q.num.natAbs*r2.q.den);obtain⟨y,hy⟩:=ax (r2.q.num.natAbs*r1.q.den);obtain⟨z,hz⟩:=ax (r1.q.den*r2.q.den);rw[hx] at mU zA wq;rw[hy] at lr qL wq;rw[hz] at U3 U_ g8;rw[hx,hy,hz];obtain⟨s,hs⟩:=ax (decide (r1.q.num<0));obtain⟨t,ht⟩:=ax (decide (r2.q.num<0));rw[hs] at ha;rw[ht] at hb;rw[hs,ht]
 refine dq Tryz.func67 65 0 ?_;refine aY ?_;refine dw (by kernel_rfl) ?_;refine ba ?_;refine aV ha ?_;refine ba ?_;refine aV hb ?_;refine ba ?_;refine dw (by kernel_rfl) ?_;refine ba ?_;refine aV mU ?_;refine ba ?_;refine aV lr ?_;refine ba ?_;refine aV U3 ?_;by_cases bM:s=t
 .have hb:(s==t)=true:=by rw[bM];exact beq_self_eq_true _
  have h56:=Wn (ai x) (ai y) (ao _) (ao _) (by omega) (by omega);rw[aj,aj,dr] at h56;have Cm:=A7 s (ai (x+y)) (ai z) (ao _) (ao _) (by omega) (by omega) (by rw[aj];exact g8);rw[aj,aj,<-CA bM g8,bu] at Cm;rw[bu];refine ae hb ?_;refine dw (by kernel_rfl) ?_;refine ba ?_;refine aV h56 ?_;refine ba ?_;refine aV Cm ?_;refine ba ?_;refine bj rfl
 have hb:(s==t)=false:=by rw[qx];exact bM
 by_cases aH:x<y
 .have h63:=SV (ai x) (ai y) (ao _) (ao _) (by omega) (by omega) (by rw[aj,aj];exact aH);have ael:=Wp (ai y) (ai x) (ao _) (ao _) (by omega) (by omega) (by rw[aj,aj];omega);rw[aj,aj,dr] at ael;have gR:=cq (Nat.sub_le y x);have Cm:=A7 t (ai (y - x)) (ai z) (ao _) (ao _) (by omega) (by omega) (by rw[aj];exact g8);rw[aj,aj,<-uv bM aH g8,bu] at Cm;rw[bu];have AK:((1:Int)==0)=false:=rfl;refine ae hb ?_;refine aV h63 ?_;refine ae AK ?_;refine aV ael ?_;refine ba ?_;refine aV Cm ?_;refine ba ?_;refine bj rfl
 have h63:=Wp (ai x) (ai y) (ao _) (ao _) (by omega) (by omega) (by rw[aj,aj];omega);rw[aj,aj,dr] at h63;have gR:=cq (Nat.sub_le x y);have Cm:=A7 s (ai (x - y)) (ai z) (ao _) (ao _) (by omega) (by omega) (by rw[aj];exact g8);rw[aj,aj,<-uw bM aH g8,bu] at Cm;rw[bu];have NK:((0:Int)==0)=true:=rfl;refine ae hb ?_;refine aV h63 ?_;refine ae NK ?_;refine aV Cm ?_;refine ba ?_;refine bj rfl
theorem akM (r1 r2:Raw) (i_:r1.Ok 1000000000) (gX:r2.Ok 1000000000):Den Tryz.prog 64 [] [r1.v,r2.v] [] (FR (r1.q - r2.q)):=by
 have D_:=acA r2 (gX.mono (by decide));have b2:=gX.bd (by decide);have RF:=OW r1 (cn (-r2.q)) i_ (bC b2.neg);rw[de,<-Rat.sub_eq_add_neg] at RF;change Den Tryz.prog 67 [] [r1.v,FR (-r2.q)] [] _ at RF;rw[bu] at D_;rw[bu,bu] at RF;rw[bu];unfold Raw.v at D_ RF ⊢;refine dq Tryz.func64 7 0 ?_;refine aY ?_;refine dw (by kernel_rfl) ?_;refine ba ?_;refine aV D_ ?_;refine ba ?_;refine aV RF ?_;refine ba ?_;refine bj rfl
theorem mn (n:Int) (hn: -9223372036854775808<=n/\n<9223372036854775808):Den Tryz.prog 32 [] [.int .i64 n] [] (FR (n:Rat)):=by
 have l1:ai 1=[1]:=mg (l:=[1]) (fun d hd=>by simp at hd;subst hd;decide) (Or.inr (by decide));have aiJ:((n:Int):Rat).num=n:=rfl;have bW:((n:Int):Rat).den=1:=rfl;rw[bu,aiJ,bW];unfold N;rw[l1];refine dq Tryz.func32 28 0 ?_;refine aY ?_;refine bS ?_ ?_
 .intro h1 h2;obtain⟨k,hk⟩: ∃ k:Nat,n=(k:Int):=⟨n.toNat,by omega⟩;have Va:=Wo k (by omega);rw[<-hk,dr] at Va;rw[m5 (show¬n<0 by omega),show n.natAbs=k by omega];refine ae h2 ?_;refine aV Va ?_;refine ba ?_;refine bj rfl
 intro h1 h2;obtain⟨k,hk⟩: ∃ k:Nat,n= -((k:Int)+1):=⟨(-n - 1).toNat,by omega⟩;have Va:=Wo k (by omega);have oE:(ai k).length<=2:=aA (Nat.lt_of_lt_of_le (show k<18446744073709551616 by omega) (by decide));have h56:=Wn (ai k) [1] (ao _) (Dig.mk (by decide) Dig.nil) (by omega) (by simp);have hv1:val [1]=1:=rfl;rw[aj,hv1,dr] at h56;rw[dr] at Va;rw[ir (show n<0 by omega),show n.natAbs=k+1 by omega];have e1:0 - (n+1)=(k:Int):=by omega
 refine ae (aP h2 e1) ?_;refine aV Va ?_;refine ba ?_;refine gp h56 ?_ ?_
 .rfl
 refine ba ?_;refine bj rfl
def vB (r1 r2:Raw):Bool:=r1.neg==r2.neg&&(r1.num==r2.num&&r1.den==r2.den)
theorem OX (p q:Rat):vB (cn p) (cn q)=decide (p=q):=by
 by_cases h:p=q
 .subst h;simp[vB]
 rw[m5 h];rcases hb:vB (cn p) (cn q) with _ | _
 .rfl
 exfalso;simp only[vB,w8,beq_iff_eq] at hb;apply h;rw[<-de p,<-de q];unfold Raw.q;rw[hb.1,hb.2.1,hb.2.2]
theorem Wr (r1 r2:Raw) (i_:r1.Ok 5000000000) (gX:r2.Ok 5000000000):Den Tryz.prog 62 [] [r1.v,r2.v] [] (.bool (vB r1 r2)):=by
 have h1:=Wm r1.num r2.num (by have:=i_.lnum;omega) (by have:=gX.lnum;omega);have h2:=Wm r1.den r2.den (by have:=i_.lden;omega) (by have:=gX.lden;omega);unfold Raw.v vB;obtain⟨b1,dY⟩:=ax ((r1.num==r2.num));obtain⟨b2,eC⟩:=ax ((r1.den==r2.den));obtain⟨b0,Hl⟩:=ax ((r1.neg==r2.neg));rw[dY] at h1;rw[eC] at h2;rw[Hl,dY,eC];cases b0
 .refine dq Tryz.func62 22 0 ?_;refine bU Hl ?_;refine bj rfl
 cases b1
 .refine dq Tryz.func62 22 0 ?_;refine bU Hl ?_;refine aV h1 ?_;refine ba ?_;refine bj rfl
 refine dq Tryz.func62 22 0 ?_;refine bU Hl ?_;refine aV h1 ?_;refine ba ?_;refine aV h2 ?_;refine ba ?_;refine bj rfl
theorem Eu (p q:Int) (hq:q≠0):gY (decide (p<0) !=decide (q<0)) p.natAbs q.natAbs=(p:Rat) / (q:Rat):=by
 have h:=Cz (s:=decide (p<0)) (t:=decide (q<0)) (a:=p.natAbs) (b:=1) (c:=q.natAbs) (d:=1) (by omega) (by decide);rw[Nat.mul_one,Nat.one_mul,CE,CE] at h;exact h.symm
theorem acB (p q:Int) (hp: -9223372036854775808<=p/\p<9223372036854775808) (hq: -9223372036854775808<=q/\q<9223372036854775808) (h0:q≠0):Den Tryz.prog 111 [] [.int .i64 p,.int .i64 q] [] (.tup [FR ((p:Rat) / (q:Rat)),.int .i64 0]):=by
 have ha:=mn p hp;have hb:=mn q hq;have np:((p:Int):Rat).num=p:=rfl;have nq:((q:Int):Rat).num=q:=rfl;have UK:(ai p.natAbs).length<=2:=aA (Nat.lt_of_lt_of_le (show p.natAbs<18446744073709551616 by omega) (by decide));have hlq:(ai q.natAbs).length<=2:=aA (Nat.lt_of_lt_of_le (show q.natAbs<18446744073709551616 by omega) (by decide));have Cm:=A7 (decide (p<0) !=decide (q<0)) (ai p.natAbs) (ai q.natAbs) (ao _) (ao _) (by omega) (by omega) (by rw[aj];omega);rw[aj,aj,Eu p q h0] at Cm;rw[bu] at ha hb Cm ⊢;rw[np,dr] at ha;rw[nq,dr] at hb;have hz:(q==0)=false:=by rw[qx];exact h0
 refine dq Tryz.func111 23 0 ?_;refine bU hz ?_;refine aV ha ?_;refine ba ?_;refine aV hb ?_;refine ba ?_;refine aV Cm ?_;refine ba ?_;refine bj rfl
end Go.Proofs.YtjjbkjgifdhlcaaGreat
namespace Go.Pl
open Go.AM
def Raw.c (r:Raw):List PV:=[.bool r.neg,.fv (.sl (u32s r.num)),.fv (.sl (u32s r.den))]
def Raw.f (r:Raw):List FV:=[.lit (.bool r.neg),.sl (u32s r.num),.sl (u32s r.den)]
def flat:List Raw->List PV
 | []=>[]
 | r::rs=> .bool r.neg:: .fv (.sl (u32s r.num)):: .fv (.sl (u32s r.den))::flat rs
def cO:List Raw->List FV
 | []=>[]
 | r::rs=> .lit (.bool r.neg):: .sl (u32s r.num):: .sl (u32s r.den)::cO rs
def rz:Raw:=⟨false,[],[]⟩
theorem ah: ∀ rs:List Raw,(flat rs).length=3*rs.length
 | []=>rfl
 | r::rs=>by simp only[flat,length_cons,ah rs];omega
theorem ux: ∀ (i:Nat) (rs:List Raw),(flat rs).drop (i*3)=flat (rs.drop i)
 | 0,rs=>by simp
 | i+1,[]=>by simp[flat]
 | i+1,r::rs=>by
  rw[Nat.add_mul,Nat.one_mul];show List.drop (i*3+2+1) _=_;simp only[flat,drop_succ_cons];exact ux i rs
theorem pW: ∀ (i:Nat) (rs:List Raw),(flat rs).take (i*3)=flat (rs.take i)
 | 0,rs=>by simp[flat]
 | i+1,[]=>by simp[flat]
 | i+1,r::rs=>by
  rw[Nat.add_mul,Nat.one_mul];show List.take (i*3+2+1) _=_;simp only[flat,take_succ_cons];rw[pW i rs]
theorem vC: ∀ (a b:List Raw),flat (a++b)=flat a++flat b
 | [],_=>rfl
 | r::a,b=>by simp[flat,vC a b]
theorem cU {rs:List Raw} {i:Nat} (h:i<rs.length):List.take 3 (List.drop (i*3) (flat rs))=[.bool (rs.getD i rz).neg,.fv (.sl (u32s (rs.getD i rz).num)),.fv (.sl (u32s (rs.getD i rz).den))]:=by
 rw[ux,drop_eq_getElem_cons h];simp only[flat,take_succ_cons,List.take_zero];rw[qa,qb h];rfl
theorem d9 {rs:List Raw} {i:Nat} (h:i<rs.length) (s:Bool) (a b:List Nat):
 List.take (i*3) (flat rs)++[.bool s,.fv (.sl (u32s a)),.fv (.sl (u32s b))]++List.drop (i*3+3) (flat rs)=flat (rs.set i ⟨s,a,b⟩):=by
 have e:i*3+3=(i+1)*3:=by omega
 rw[e,ux,pW,List.set_eq_take_append_cons_drop,if_pos h,vC]
 simp[flat]
theorem iw (H:List Ob): ∀ rs:List Raw,lJ H (flat rs)=some (cO rs)
 | []=>rfl
 | r::rs=>by
  simp only[flat,lJ,fB,iw H rs,cO]
theorem sO: ∀ rs:List Raw,dG 3 rs.length (cO rs)=rs.map Raw.f
 | []=>rfl
 | r::rs=>by
  simp only[cO,length_cons,dG,take_succ_cons,List.take_zero,drop_succ_cons,List.drop_zero,map_cons];rw[sO rs];rfl
def fD (g:Raw->Raw) (i:Nat) (rs:List Raw):List Raw:=(rs.take i).map g++rs.drop i
theorem sP (g:Raw->Raw) (i:Nat) (rs:List Raw):(fD g i rs).length=rs.length:=by
 unfold fD;rw[qe,length_map,length_take,qt];omega
theorem HB (g:Raw->Raw) (rs:List Raw):fD g 0 rs=rs:=by simp[fD]
theorem A8 (g:Raw->Raw) {n:Nat} (rs:List Raw) (h:rs.length=n):fD g n rs=rs.map g:=by
 subst h;simp[fD]
theorem m_ (g:Raw->Raw) {i j:Nat} (rs:List Raw) (h:j<rs.length) (hi:i<=j):(fD g i rs).getD j rz=rs.getD j rz:=by
 unfold fD;rw[qa,qh (by rw[length_map,length_take];omega),List.getElem?_drop,qa];congr 2;rw[length_map,length_take];omega
theorem pX (g:Raw->Raw) {i:Nat} (rs:List Raw) (h:i<rs.length):(fD g i rs).set i (g (rs.getD i rz))=fD g (i+1) rs:=by
 unfold fD;rw[List.set_append_right _ _ (by rw[length_map,length_take];omega)];have e:i - ((rs.take i).map g).length=0:=by rw[length_map,length_take];omega
 rw[e,drop_eq_getElem_cons h,List.set_cons_zero,take_succ_eq_append_getElem h,vw];simp[qa,h]
def RL (rs:List Raw):PV:= .agg (flat rs)
def FL (qs:List Rat):PV:=RL (qs.map cn)
structure LOk (k:Nat) (rs:List Raw):Prop where
 len:rs.length=9
 ok: ∀ r∈rs,r.Ok k
theorem LOk.at {k:Nat} {rs:List Raw} (h:LOk k rs) (i:Nat):(rs.getD i rz).Ok k:=by
 by_cases hi:i<rs.length
 .rw[qa,qb hi];exact h.ok _ (ki hi)
 rw[qa,getElem?_eq_none (by omega)];exact⟨Dig.nil,Dig.nil,eB _,eB _⟩
theorem LOk.mono {j k:Nat} {rs:List Raw} (h:LOk j rs) (hk:j<=k):LOk k rs:=⟨h.len,fun r hr=>(h.ok r hr).mono hk⟩
theorem LOk.map {k:Nat} {rs:List Raw} {g:Raw->Rat} (h:rs.length=9) (hg: ∀ r∈rs,Bd k (g r)):LOk k ((rs.map g).map cn):=
 ⟨by simp[h],fun r hr=>by
  simp only[mem_map] at hr;obtain⟨q,⟨r',hr',rfl⟩,rfl⟩:=hr;exact bC (hg r' hr')⟩
end Go.Pl
namespace Go.Proofs.YtjjbkjgifdhlcaaGreat
open Go.AM Go.Pl
theorem gJ: ∀ rs:List Raw,(cO rs).map PV.fv=flat rs
 | []=>rfl
 | r::rs=>by simp only[cO,flat,map_cons,gJ rs]
theorem jj: ∀ rs:List Raw,(flat rs).flatMap eZ=[]
 | []=>rfl
 | r::rs=>by simp only[flat,List.flatMap_cons,eZ,nil_append,jj rs]
theorem iV (f:Nat->Nat): ∀ rs:List Raw,(flat rs).map (reloc1 f)=flat rs
 | []=>rfl
 | r::rs=>by simp only[flat,map_cons,reloc1,iV f rs]
theorem pY (H:List Ob) (keep:List Nat): ∀ rs:List Raw,tK H keep (flat rs)=some (flat rs)
 | []=>rfl
 | r::rs=>by simp only[flat,tK,t_,fS,fB,Option.map_some,pY H keep rs]
theorem ar {rs:List Raw} (h:rs.length=9):List.take 27 (flat rs)=flat rs:=
 eo (by rw[ah];omega)
theorem dL (ids:List Nat): ∀ rs:List Raw,dp ids (flat rs) (flat rs)
 | []=>by simp[flat,dp]
 | r::rs=>by simp[flat,dp,cC,dL ids rs]
def Ws:Option (List FV)->Option (List FV)
 | some x=>some [.fp x]
 | none=>none
def OY:Option Ob->Option (List PV)
 | some (.box _ cs)=>some cs
 | _=>none
theorem mo (H:List Ob):rE H []=some []:=rfl
theorem oW (H:List Ob) (id:Nat):rE H [.ptr id 0 0]=match OY (H[id]?) with | some cs=>Ws (lJ H cs) | none=>none:=by
 simp only[rE,fS];cases h:H[id]? with
 | none=>rfl
 | some o=>cases o with
  | box w cs=>
   simp only[OY];cases lJ H cs<;>rfl
  | row w xs=>rfl
  | dead=>rfl
  | tab n es=>rfl
theorem mq (w:Bool) (cs:List PV):OY (some (.box w cs))=some cs:=rfl
theorem kr (x:List FV):Ws (some x)=some [.fp x]:=rfl
def z_ (rs:List Raw) (v:Nat):List PV:=List.take (v*3) (flat rs)++[.bool false,.nilsl,.nilsl]++List.drop (v*3+3) (flat rs)
theorem A9 (r:Raw) (rs:List Raw) (v:Nat):z_ (r::rs) (v+1)= .bool r.neg:: .fv (.sl (u32s r.num)):: .fv (.sl (u32s r.den))::z_ rs v:=by
 unfold z_;have e1:(v+1)*3=v*3+2+1:=by omega
 have e2:(v+1)*3+3=(v*3+3)+2+1:=by omega
 rw[e2,e1];simp only[flat,take_succ_cons,drop_succ_cons,List.cons_append]
theorem Ev (H:List Ob): ∀ (v:Nat) (rs:List Raw),v<rs.length->lJ H (z_ rs v)=some (cO (rs.set v rz))
 | 0,r::rs,_=>by
  have h:=iw H rs;simp[z_,flat,cO,lJ,fB,h,rz,u32s]
 | v+1,r::rs,h=>by
  rw[A9];have h2:=Ev H v rs (by simpa using h);simp only[lJ,fB,h2,List.set_cons_succ,cO]
 | _,[],h=>by simp at h
theorem Ew: ∀ (v:Nat) (rs:List Raw),v<rs.length->(z_ rs v).flatMap eZ=[]
 | 0,r::rs,_=>by
  have h:=jj rs;simp only[z_,flat,Nat.zero_mul,List.take_zero,nil_append,Nat.zero_add,drop_succ_cons,List.drop_zero,List.cons_append,List.flatMap_cons,eZ,h]
 | v+1,r::rs,h=>by
  rw[A9];have h2:=Ew v rs (by simpa using h);simp only[List.flatMap_cons,eZ,h2,nil_append]
 | _,[],h=>by simp at h
theorem Ex {rs:List Raw} {v:Nat} (h:v<rs.length) (hl:rs.length=9):(z_ rs v).length=27:=by
 have:=ah rs;unfold z_;simp only[qe,length_take,qt,length_cons,length_nil];omega
def gZ:Nat->List PV
 | 0=>[]
 | n+1=> .bool false:: .nilsl:: .nilsl::gZ n
theorem jk:List.drop 27 (gZ 9)=[]:=rfl
theorem gK:(gZ 9).length=27:=rfl
abbrev zu:=qy @jj (qy @iV (qy @iw (qy @jk (qy @gK (qy @mo (qy @oW (qy @mq (qy @kr (@append_nil.{0})))))))))
theorem A_ (ids:List Nat): ∀ n,dp ids (gZ n) (gZ n)
 | 0=>by simp[gZ,dp]
 | n+1=>by simp[gZ,dp,cC,A_ ids n]
theorem RetOK.form {st:St} {a id:Nat} {w:Bool} {rs:List Raw} (ha:st.get a= .ptr id 0 0) (hb:st.heap[id]?=some (.box w (flat rs))) (hl:rs.length=9):RetOK tab [.cell a 30] 0 st [] (RL rs):=by
 refine Sn (vs:=[.agg (flat rs)]) (cd:=(0=0/\0+27<=(flat rs).length)/\True) ?_ ⟨⟨rfl,by rw[ah];omega⟩,cW⟩ ?_
 .simp[gQ,zh,ha,SO,fP,hb,jf,ar hl,TyI.isAgg]
 simp[cM,tL,zc,pY,RL]
theorem RetOK.form3 {st:St} {a id x y:Nat} {w:Bool} {rs:List Raw} {v u:FV} (ha:st.get a= .ptr id 0 0) (hb:st.heap[id]?=some (.box w (flat rs))) (hl:rs.length=9) (hx:st.get x= .fv v) (hy:st.get y= .fv u):
 RetOK tab [.cell a 30,.tmp x,.tmp y] 0 st [] (.tup [RL rs,.fv v,.fv u]):=by
 refine Sn (vs:=[.agg (flat rs),.fv v,.fv u]) (cd:=(0=0/\0+27<=(flat rs).length)/\True/\True/\True) ?_ ⟨⟨rfl,by rw[ah];omega⟩,cW,cW,cW⟩ ?_
 .simp[gQ,zh,ha,SO,fP,hb,jf,ar hl,TyI.isAgg,hx,hy]
 simp[cM,tL,zd,zc,pY,RL,t_,fS,fB]
set_option maxRecDepth 100000
set_option maxHeartbeats 2000000
theorem Ey (r:Raw):Den Tryz.prog 104 [] [r.v] [] (.bool ((r.num.length:Int)==0)):=by
 unfold Raw.v;refine dq Tryz.func104 6 0 ?_;refine aY ?_;refine bj rfl
theorem xk {r:Raw} (h:(r.num.length:Int)=0):r.q=0:=by
 have:r.num=[]:=List.length_eq_zero_iff.1 (by omega);unfold Raw.q;rw[this];exact mj rfl
theorem acC (rs:List Raw) (c:Raw) (ja:LOk 2000000000 rs) (hc:c.Ok 2000000000):Den Tryz.prog 108 [] [RL rs,c.v] [] (FL (rs.map (fun r=>r.q*c.q))):=by
 have aD:=ja.len;have oT:=ah rs;have tS:=mn 0 (by decide);rw[show((0:Int):Rat)=0 from rfl,bu,bE,bE] at tS;obtain⟨g,hg⟩: ∃ g:Raw->Raw,g=fun r=>cn (r.q*c.q):=⟨_,rfl⟩
 have Zv:(rs.map (fun r=>r.q*c.q)).map cn=rs.map g:=by rw[hg,List.map_map];rfl
 unfold FL RL Raw.v;rw[Zv];refine dq Tryz.func108 32 0 ?_;refine aY ?_;refine⟨by omega,?_⟩;refine wl (α:=Nat) (fun i=>⟨[.any,.any,.ptr 0 0 0,.ptr 1 0 0,.ptr 2 0 0,.int .i64 i]++replicate 28 .any,[.box true (flat (fD g i rs)),.box true [.bool c.neg,.fv (.sl (u32s c.num)),.fv (.sl (u32s c.den))],.box true (gZ 9)]⟩)
  (fun i=>8 - i) (fun i=>i<=8) 0 ?_ ?_ ?_
 .exact tN [0,1,2]
 .exact eB _
 rintro i hi;have lB:=sP g i rs;have hfm:=ah (fD g i rs);refine aY ?_;refine bS ?_ ?_
 .intro h1 h2;have gG:=cU (rs:=fD g i rs) (i:=i) (by omega);rw[m_ g rs (by omega) (qp _)] at gG;have bM:=pX g rs (i:=i) (by omega);obtain⟨r,hr⟩:=ax (rs.getD i rz);have bg:r.Ok 2000000000:=by rw[<-hr];exact ja.at i
  rw[hr] at gG bM;have Xi:=Ey r;unfold Raw.v at Xi;refine ae (aP h2 gG) ?_;refine⟨by omega,by omega,?_⟩;refine aV Xi ?_;refine ba ?_;refine Br.beqInt ?_ ?_
  .intro h3 h4;have bc:=d9 (rs:=fD g i rs) (i:=i) (by omega) (decide ((0:Rat).num<0)) (ai (0:Rat).num.natAbs) (ai (0:Rat).den);have zC:g r=⟨decide ((0:Rat).num<0),ai (0:Rat).num.natAbs,ai (0:Rat).den⟩:=by
    rw[hg];dsimp only;rw[xk h3,Rat.zero_mul];rfl
   rw[<-zC,bM] at bc;refine ae h4 ?_;refine aV tS ?_;refine ae (aP bc @append_nil.{0}) ?_
   repeat refine ag ?_
   refine aw (i+1) ?_ (by omega);exact tN [0,1,2]
  intro h3 h4;have Og:=OV r c bg hc;have zC:g r=⟨decide ((r.q*c.q).num<0),ai (r.q*c.q).num.natAbs,ai (r.q*c.q).den⟩:=by
   rw[hg];rfl
  have bc:=d9 (rs:=fD g i rs) (i:=i) (by omega) (decide ((r.q*c.q).num<0)) (ai (r.q*c.q).num.natAbs) (ai (r.q*c.q).den);rw[<-zC,bM] at bc;rw[bu,bE,bE] at Og;unfold Raw.v at Og;refine ae h4 ?_;refine dw (by kernel_rfl) ?_;refine ae gG ?_
  repeat refine ag ?_
  refine aV Og ?_;refine ae (aP bc @append_nil.{0}) ?_
  repeat refine ag ?_
  refine aw (i+1) ?_ (by omega);exact tN [0,1,2]
 intro h1 h2;have uc:i=8:=by omega
 subst uc;have gG:=cU (rs:=fD g 8 rs) (i:=8) (by omega);rw[m_ g rs (by omega) (qp _)] at gG;have bM:=pX g rs (i:=8) (by omega);have sr:=A8 g rs aD;obtain⟨r,hr⟩:=ax (rs.getD 8 rz);have bg:r.Ok 2000000000:=by rw[<-hr];exact ja.at 8
 rw[hr] at gG bM;have Og:=OV r c bg hc;have zC:g r=⟨decide ((r.q*c.q).num<0),ai (r.q*c.q).num.natAbs,ai (r.q*c.q).den⟩:=by
  rw[hg];rfl
 have bc:=d9 (rs:=fD g 8 rs) (i:=8) (by omega) (decide ((r.q*c.q).num<0)) (ai (r.q*c.q).num.natAbs) (ai (r.q*c.q).den);rw[<-zC,bM,sr] at bc;rw[bu,bE,bE] at Og;unfold Raw.v at Og;simp only[reduceMul,reduceAdd] at gG bc;have wV:(rs.map g).length=9:=by simp[aD]
 have qW:(flat (rs.map g)).length=27:=by rw[ah];omega
 have ht:=ar wV;refine ae (aP h2 gG) ?_
 repeat refine ag ?_
 refine aV Og ?_;refine b_ (bR bc ht qW) ?_
 repeat refine ag ?_
 exact RetOK.form rfl rfl wV
theorem acD (rs:List Raw) (ja:LOk 2000000000 rs):Den Tryz.prog 191 [] [RL rs] [] (FL (rs.map Raw.q)):=by
 have aD:=ja.len;have oT:=ah rs;have tS:=mn 0 (by decide);rw[show((0:Int):Rat)=0 from rfl,bu,bE,bE] at tS;obtain⟨g,hg⟩: ∃ g:Raw->Raw,g=fun r=>cn r.q:=⟨_,rfl⟩
 have Zv:(rs.map Raw.q).map cn=rs.map g:=by rw[hg,List.map_map];rfl
 unfold FL RL;rw[Zv];refine dq Tryz.func191 29 0 ?_;refine aY ?_;refine⟨by omega,?_⟩;refine wl (α:=Nat) (fun i=>⟨[.any,.ptr 0 0 0,.ptr 1 0 0,.int .i64 i]++replicate 26 .any,[.box true (flat (fD g i rs)),.box true (gZ 9)]⟩)
  (fun i=>8 - i) (fun i=>i<=8) 0 ?_ ?_ ?_
 .exact tN [0,1]
 .exact eB _
 rintro i hi;have lB:=sP g i rs;have hfm:=ah (fD g i rs);refine aY ?_;refine bS ?_ ?_
 .intro h1 h2;have gG:=cU (rs:=fD g i rs) (i:=i) (by omega);rw[m_ g rs (by omega) (qp _)] at gG;have bM:=pX g rs (i:=i) (by omega);obtain⟨r,hr⟩:=ax (rs.getD i rz);have bg:r.Ok 2000000000:=by rw[<-hr];exact ja.at i
  rw[hr] at gG bM;have Xi:=Ey r;unfold Raw.v at Xi;refine ae (aP h2 gG) ?_;refine⟨by omega,by omega,?_⟩;refine aV Xi ?_;refine ba ?_;refine Br.beqInt ?_ ?_
  .intro h3 h4;have bc:=d9 (rs:=fD g i rs) (i:=i) (by omega) (decide ((0:Rat).num<0)) (ai (0:Rat).num.natAbs) (ai (0:Rat).den);have zC:g r=⟨decide ((0:Rat).num<0),ai (0:Rat).num.natAbs,ai (0:Rat).den⟩:=by
    rw[hg];dsimp only;rw[xk h3];rfl
   rw[<-zC,bM] at bc;refine ae h4 ?_;refine aV tS ?_;refine ae (aP bc @append_nil.{0}) ?_
   repeat refine ag ?_
   refine aw (i+1) ?_ (by omega);exact tN [0,1]
  intro h3 h4;have oQ:=n5 r (bg.mono (by decide));have zC:g r=⟨decide (r.q.num<0),ai r.q.num.natAbs,ai r.q.den⟩:=by
   rw[hg];rfl
  have bc:=d9 (rs:=fD g i rs) (i:=i) (by omega) (decide (r.q.num<0)) (ai r.q.num.natAbs) (ai r.q.den);rw[<-zC,bM] at bc;rw[bu,bE,bE] at oQ;unfold Raw.v at oQ;refine ae (aP h4 gG) ?_
  repeat refine ag ?_
  refine aV oQ ?_;refine ae (aP bc @append_nil.{0}) ?_
  repeat refine ag ?_
  refine aw (i+1) ?_ (by omega);exact tN [0,1]
 intro h1 h2;have uc:i=8:=by omega
 subst uc;have gG:=cU (rs:=fD g 8 rs) (i:=8) (by omega);rw[m_ g rs (by omega) (qp _)] at gG;have bM:=pX g rs (i:=8) (by omega);have sr:=A8 g rs aD;obtain⟨r,hr⟩:=ax (rs.getD 8 rz);have bg:r.Ok 2000000000:=by rw[<-hr];exact ja.at 8
 rw[hr] at gG bM;have oQ:=n5 r (bg.mono (by decide));have zC:g r=⟨decide (r.q.num<0),ai r.q.num.natAbs,ai r.q.den⟩:=by
  rw[hg];rfl
 have bc:=d9 (rs:=fD g 8 rs) (i:=8) (by omega) (decide (r.q.num<0)) (ai r.q.num.natAbs) (ai r.q.den);rw[<-zC,bM,sr] at bc;rw[bu,bE,bE] at oQ;unfold Raw.v at oQ;simp only[reduceMul,reduceAdd] at gG bc;have wV:(rs.map g).length=9:=by simp[aD]
 have qW:(flat (rs.map g)).length=27:=by rw[ah];omega
 have ht:=ar wV;refine ae (aP h2 gG) ?_
 repeat refine ag ?_
 refine aV oQ ?_;refine b_ (bR bc ht qW) ?_
 repeat refine ag ?_
 exact RetOK.form rfl rfl wV
theorem rz_ok {k:Nat}:rz.Ok k:=⟨Dig.nil,Dig.nil,eB _,eB _⟩
theorem ahz:rz.q=0:=mj rfl
theorem sQ {k:Nat}:LOk k (replicate 9 rz):=⟨rfl,fun r hr=>by rw[List.eq_of_mem_replicate hr];exact rz_ok⟩
theorem Wt:Den Tryz.prog 154 [] [] [] (FL (replicate 9 0)):=by
 have h71:=acD (replicate 9 rz) sQ;have e:(replicate 9 rz).map Raw.q=replicate 9 0:=by rw[List.map_replicate,ahz]
 rw[e] at h71;unfold FL RL at h71 ⊢;obtain⟨zs,hz⟩:=ax ((replicate 9 (0:Rat)).map cn);have sw:zs.length=9:=by rw[<-hz];simp
 rw[hz] at h71 ⊢;have qW:(flat zs).length=27:=by rw[ah];omega
 refine dq Tryz.func154 3 0 ?_;refine aY ?_;refine aV h71 ?_;refine b_ qW ?_
 repeat refine ag ?_
 exact RetOK.form rfl rfl sw
end Go.Proofs.YtjjbkjgifdhlcaaGreat
namespace Go.Pl
open Go.AM
def b':List Raw->Raw
 | []=>rz
 | [c]=>c
 | r::s::t=>if r.q=0 then b' (s::t) else r
theorem HD {rs:List Raw} {i:Nat} (h:i+1<rs.length):b' (rs.drop i)=if(rs.getD i rz).q=0 then b' (rs.drop (i+1)) else rs.getD i rz:=by
 have h1:rs.drop i=rs.getD i rz::rs.drop (i+1):=by
  rw[drop_eq_getElem_cons (by omega)];rw[qa,qb (by omega)];rfl
 have h2:rs.drop (i+1)=rs[i+1]::rs.drop (i+2):=drop_eq_getElem_cons h;rw[h1,h2];rfl
theorem HE {rs:List Raw} {i:Nat} (h:i+1=rs.length):b' (rs.drop i)=rs.getD i rz:=by
 have h1:rs.drop i=rs.getD i rz::rs.drop (i+1):=by
  rw[drop_eq_getElem_cons (by omega)];rw[qa,qb (by omega)];rfl
 have h2:rs.drop (i+1)=[]:=List.drop_of_length_le (by omega);rw[h1,h2];rfl
theorem rJ: ∀ {rs:List Raw},(b' rs).q=0-> ∀ r∈rs,r.q=0
 | [],_,r,hr=>by simp at hr
 | [c],h,r,hr=>by
  simp at hr;subst hr;exact h
 | a::s::t,h,r,hr=>by
  unfold b' at h;split at h
  .rename_i h0;rcases List.mem_cons.1 hr with h1 | h1
   .subst h1;exact h0
   exact rJ h r h1
  rename_i h0;exact absurd h h0
theorem uy: ∀ {rs:List Raw},rs≠[]->b' rs∈rs
 | [],h=>absurd rfl h
 | [c],_=>by simp[b']
 | a::s::t,_=>by
  unfold b';split
  .exact ql _ (uy (by simp))
  simp
theorem bh {q:Rat}:gA q=0↔q=0:=by
 unfold gA;rw[Int.sign_eq_zero_iff_zero];exact Rat.num_eq_zero
theorem JX:rz.q=0:=mj rfl
def fX (c:Rat):Rat:=if c.num<0 then -c else c
def nrm (rs:List Raw):List Rat:=if(b' rs).q=0 then replicate 9 0 else rs.map (fun r=>r.q / fX (b' rs).q)
theorem uA {c:Rat} (h:c≠0):fX c≠0:=by
 unfold fX;split
 .intro h1;apply h;grind
 exact h
theorem sR {rs:List Raw} (h:(b' rs).q=0):nrm rs=replicate 9 0:=if_pos h
theorem xm {rs:List Raw} (h:(b' rs).q≠0):nrm rs=rs.map (fun r=>r.q / fX (b' rs).q):=if_neg h
theorem LU {rs:List Raw} (h:(b' rs).q=0) (hl:rs.length=9):nrm rs=rs.map Raw.q:=by
 rw[sR h];have h1:rs.map Raw.q=rs.map (fun _=>(0:Rat)):=List.map_congr_left (fun r hr=>rJ h r hr);rw[h1,List.map_const',hl]
theorem SW {c:Rat} (h0:c≠0) (h: ¬c.num<0):gA c=1:=CD (fun h1=>h0 (Rat.num_eq_zero.1 (by omega))) h
def jl (g:Raw->Raw) (i:Nat) (rs:List Raw):List Raw:=(rs.take i).map g++replicate (rs.length - i) rz
theorem sS (g:Raw->Raw) {i:Nat} (rs:List Raw) (h:i<=rs.length):(jl g i rs).length=rs.length:=by
 unfold jl;rw[qe,length_map,length_take,qib];omega
theorem A' (g:Raw->Raw) {i:Nat} (rs:List Raw) (h:i<rs.length):(jl g i rs).set i (g (rs.getD i rz))=jl g (i+1) rs:=by
 unfold jl;rw[List.set_append_right _ _ (by rw[length_map,length_take];omega)];have e:i - ((rs.take i).map g).length=0:=by rw[length_map,length_take];omega
 have e2:rs.length - i=(rs.length - (i+1))+1:=by omega
 rw[e,e2,List.replicate_succ,List.set_cons_zero,take_succ_eq_append_getElem h,vw];simp[qa,h]
theorem Ba (g:Raw->Raw) {n:Nat} (rs:List Raw) (h:rs.length=n):jl g n rs=rs.map g:=by
 subst h;simp[jl]
theorem xn (g:Raw->Raw) (rs:List Raw):jl g 0 rs=replicate rs.length rz:=by simp[jl]
theorem HF {rs:List Raw} {i:Nat} (h:i<rs.length):(rs.map Raw.f).getD i []=[FV.lit (Value.bool (rs.getD i rz).neg),FV.sl (u32s (rs.getD i rz).num),FV.sl (u32s (rs.getD i rz).den)]:=by
 simp[qa,h,Raw.f]
theorem HG {rs:List Raw} {n:Nat} (h:rs.length=n+1):(rs.take n).map Raw.f++[[FV.lit (Value.bool (rs.getD n rz).neg),FV.sl (u32s (rs.getD n rz).num),FV.sl (u32s (rs.getD n rz).den)]]=rs.map Raw.f:=by
 have h1:rs.take (n+1)=rs:=eo (by omega)
 conv=>rhs;rw[<-h1,take_succ_eq_append_getElem (by omega),vw]
 simp[qa,show n<rs.length by omega,Raw.f]
end Go.Pl
namespace Go.Proofs.YtjjbkjgifdhlcaaGreat
open Go.AM Go.Pl
set_option maxRecDepth 100000
set_option maxHeartbeats 2000000
theorem OZ (qs:List Rat) (h:qs.length=9):(flat (qs.map cn)).length=27:=by rw[ah,length_map];omega
theorem Ez {p:List Rat} {i:Nat} (h:i<p.length):(p.map cn).getD i rz=cn (p.getD i 0):=by
 simp[qa,h]
theorem akN (p q:List Rat) (hp:p.length=9) (hq:q.length=9) (bp: ∀ x∈p,Bd 1000000000 x) (bq: ∀ x∈q,Bd 1000000000 x):Den Tryz.prog 151 [] [FL p,FL q] [] (.bool (decide (p=q))):=by
 have UK:(p.map cn).length=9:=by simp[hp]
 have hlq:(q.map cn).length=9:=by simp[hq]
 have fp:=OZ p hp;have fq:=OZ q hq;have okp: ∀ i,i<9->(cn (p.getD i 0)).Ok 5000000000:=fun i hi=>by
  refine Raw.Ok.mono (bC (bp _ ?_)) (by decide);rw[qa,qb (by omega)];exact ki _
 have okq: ∀ i,i<9->(cn (q.getD i 0)).Ok 5000000000:=fun i hi=>by
  refine Raw.Ok.mono (bC (bq _ ?_)) (by decide);rw[qa,qb (by omega)];exact ki _
 unfold FL RL;refine dq Tryz.func151 23 0 ?_;refine aY ?_;refine⟨by omega,by omega,?_⟩;refine wl (α:=Nat) (fun i=>⟨[.any,.any,.ptr 0 0 0,.ptr 1 0 0,.any,.int .i64 i]++replicate 19 .any,[.box true (flat (p.map cn)),.box true (flat (q.map cn))]⟩)
  (fun i=>8 - i) (fun i=>i<=8/\p.take i=q.take i) 0 ?_ ?_ ?_
 .exact tN [0,1]
 .exact⟨eB _,rfl⟩
 rintro i ⟨hi,wY⟩;have iO:=cU (rs:=p.map cn) (i:=i) (by omega);have kS:=cU (rs:=q.map cn) (i:=i) (by omega);rw[Ez (by omega)] at iO kS;have Sy:=Wr (cn (p.getD i 0)) (cn (q.getD i 0)) (okp i (by omega)) (okq i (by omega));rw[OX] at Sy;have gv:p.getD i 0=q.getD i 0->p.take (i+1)=q.take (i+1):=fun h=>by
  rw[take_succ_eq_append_getElem (by omega),take_succ_eq_append_getElem (by omega),wY];simp only[qa,qb (show i<p.length by omega),qb (show i<q.length by omega),Option.getD_some] at h;rw[h]
 have cX:p.getD i 0≠q.getD i 0->p≠q:=fun h h2=>h (by rw[h2])
 obtain⟨x,hx⟩:=ax (cn (p.getD i 0));obtain⟨y,hy⟩:=ax (cn (q.getD i 0));rw[hx] at iO Sy;rw[hy] at kS Sy;unfold Raw.v at Sy;refine aY ?_;refine bS ?_ ?_
 .intro h1 h2;refine ae h2 ?_;refine dw (by kernel_rfl) ?_;refine ae (aP iO kS) ?_
  repeat refine ag ?_
  refine aV Sy ?_;by_cases he:p.getD i 0=q.getD i 0
  .have hb:(!decide (p.getD i 0=q.getD i 0))=false:=by rw[ir he];rfl
   refine ae hb ?_;refine aw (i+1) ?_ ⟨by omega,gv he⟩;exact tN [0,1]
  have hb:(!decide (p.getD i 0=q.getD i 0))=true:=by rw[m5 he];rfl
  rw[m5 (cX he)];refine ae hb ?_;refine bj rfl
 intro h1 h2;have uc:i=8:=by omega
 subst uc;simp only[reduceMul] at iO kS;refine ae (bR h2 iO kS) ?_
 repeat refine ag ?_
 refine aV Sy ?_;refine ba ?_;have hd:decide (p=q)=decide (p.getD 8 0=q.getD 8 0):=by
  by_cases he:p.getD 8 0=q.getD 8 0
  .rw[ir he];have h9:=gv he;rw[eo (by omega),eo (by omega)] at h9;exact ir h9
  rw[m5 he,m5 (cX he)]
 rw[hd];refine bj rfl
theorem O0 (rs:List Raw) (g:Raw->Rat) (ja:rs.length=9)
 (hf: ∀ r∈rs,Den Tryz.prog 68 [] [r.v] [] (FR (g r))):Den Tryz.prog 133 [] [RL rs,.fv (.lit (.func (.func 68) #[] #[]))] [] (FL (rs.map g)):=by
 have oT:=ah rs
 have bm: ∀ i,i<9->rs.getD i rz∈rs:=fun i hi=>by
  rw[qa,qb (by omega)];exact ki _
 obtain⟨g',jE⟩: ∃ g':Raw->Raw,g'=fun r=>cn (g r):=⟨_,rfl⟩
 have Zv:(rs.map g).map cn=rs.map g':=by rw[jE,List.map_map];rfl
 have Vb:jl g' 0 rs=replicate 9 rz:=by rw[xn,ja]
 unfold FL RL
 rw[Zv]
 refine dq Tryz.func133 26 0 ?_
 refine aY ?_
 refine⟨by omega,?_⟩
 refine wl (α:=Nat) (fun i=>⟨[.any,.fv (.lit (.func (.func 68) #[] #[])),.ptr 0 0 0,.any,.ptr 1 0 0,.ptr 1 0 0,.any,.any,.int .i64 i]++replicate 19 .any,[.box true (flat rs),.box true (flat (jl g' i rs))]⟩)
  (fun i=>8 - i) (fun i=>i<=8) 0 ?_ ?_ ?_
 .refine eS [0,1] ?_ ?_
  .simp[bk,dV,cC]
  simp[et,fK,dp,cC,dL,Vb,replicate,flat,rz,u32s]
 .exact eB _
 rintro i hi
 have vm:=sS g' rs (i:=i) (by omega)
 have hof:=ah (jl g' i rs)
 have gG:=cU (rs:=rs) (i:=i) (by omega)
 have bM:=A' g' rs (i:=i) (by omega)
 have bW:=hf _ (bm i (by omega))
 obtain⟨r,hr⟩:=ax (rs.getD i rz)
 rw[hr] at gG bM bW
 have zC:g' r=⟨decide ((g r).num<0),ai (g r).num.natAbs,ai (g r).den⟩:=by rw[jE];rfl
 have bc:=d9 (rs:=jl g' i rs) (i:=i) (by omega) (decide ((g r).num<0)) (ai (g r).num.natAbs) (ai (g r).den)
 rw[<-zC,bM] at bc
 rw[bu,bE,bE] at bW
 unfold Raw.v at bW
 refine aY ?_
 refine bS ?_ ?_
 .intro h1 h2
  refine ae h2 ?_
  refine dw (by kernel_rfl) ?_
  refine ae gG ?_
  repeat refine ag ?_
  refine aV bW ?_
  refine ae (aP bc @append_nil.{0}) ?_
  repeat refine ag ?_
  refine aw (i+1) ?_ (by omega)
  exact tN [0,1]
 intro h1 h2
 have uc:i=8:=by omega
 subst uc
 rw[Ba g' (n:=8+1) rs ja] at bc
 simp only[reduceMul,reduceAdd] at gG bc
 have wV:(rs.map g').length=9:=by simp[ja]
 have qW:(flat (rs.map g')).length=27:=by rw[ah];omega
 have RG:List.drop 27 (flat (rs.map g'))=[]:=List.drop_of_length_le (by omega)
 refine ae (aP h2 gG) ?_
 repeat refine ag ?_
 refine aV bW ?_
 simp -dsimp(disch:=omega) only[append_nil,bc,qW,ar wV,RG,↓reduceIte,reduceAdd,reduceLT,reduceLeDiff,ru]
 repeat refine ag ?_
 exact RetOK.form rfl rfl wV
theorem HI (rs:List Raw) (k:Nat) (x:FV) (g:Raw->Rat) (ja:rs.length=9)
 (hf: ∀ r∈rs,Den Tryz.prog k [] [r.v,.fv x] [] (FR (g r))):Den Tryz.prog 133 [] [RL rs,.fv (.fn (.func k) [] [x])] [] (FL (rs.map g)):=by
 have oT:=ah rs
 have bm: ∀ i,i<9->rs.getD i rz∈rs:=fun i hi=>by
  rw[qa,qb (by omega)];exact ki _
 obtain⟨g',jE⟩: ∃ g':Raw->Raw,g'=fun r=>cn (g r):=⟨_,rfl⟩
 have Zv:(rs.map g).map cn=rs.map g':=by rw[jE,List.map_map];rfl
 have Vb:jl g' 0 rs=replicate 9 rz:=by rw[xn,ja]
 unfold FL RL
 rw[Zv]
 refine dq Tryz.func133 26 0 ?_
 refine aY ?_
 refine⟨by omega,?_⟩
 refine wl (α:=Nat) (fun i=>⟨[.any,.fv (.fn (.func k) [] [x]),.ptr 0 0 0,.any,.ptr 1 0 0,.ptr 1 0 0,.any,.any,.int .i64 i]++replicate 19 .any,[.box true (flat rs),.box true (flat (jl g' i rs))]⟩)
  (fun i=>8 - i) (fun i=>i<=8) 0 ?_ ?_ ?_
 .refine eS [0,1] ?_ ?_
  .simp[bk,dV,cC]
  simp[et,fK,dp,cC,dL,Vb,replicate,flat,rz,u32s]
 .exact eB _
 rintro i hi
 have vm:=sS g' rs (i:=i) (by omega)
 have hof:=ah (jl g' i rs)
 have gG:=cU (rs:=rs) (i:=i) (by omega)
 have bM:=A' g' rs (i:=i) (by omega)
 have bW:=hf _ (bm i (by omega))
 obtain⟨r,hr⟩:=ax (rs.getD i rz)
 rw[hr] at gG bM bW
 have zC:g' r=⟨decide ((g r).num<0),ai (g r).num.natAbs,ai (g r).den⟩:=by rw[jE];rfl
 have bc:=d9 (rs:=jl g' i rs) (i:=i) (by omega) (decide ((g r).num<0)) (ai (g r).num.natAbs) (ai (g r).den)
 rw[<-zC,bM] at bc
 rw[bu,bE,bE] at bW
 unfold Raw.v at bW
 refine aY ?_
 refine bS ?_ ?_
 .intro h1 h2
  refine ae h2 ?_
  refine dw (by kernel_rfl) ?_
  refine ae gG ?_
  repeat refine ag ?_
  refine aV bW ?_
  refine ae (aP bc @append_nil.{0}) ?_
  repeat refine ag ?_
  refine aw (i+1) ?_ (by omega)
  exact tN [0,1]
 intro h1 h2
 have uc:i=8:=by omega
 subst uc
 rw[Ba g' (n:=8+1) rs ja] at bc
 simp only[reduceMul,reduceAdd] at gG bc
 have wV:(rs.map g').length=9:=by simp[ja]
 have qW:(flat (rs.map g')).length=27:=by rw[ah];omega
 have RG:List.drop 27 (flat (rs.map g'))=[]:=List.drop_of_length_le (by omega)
 refine ae (aP h2 gG) ?_
 repeat refine ag ?_
 refine aV bW ?_
 simp -dsimp(disch:=omega) only[append_nil,bc,qW,ar wV,RG,↓reduceIte,reduceAdd,reduceLT,reduceLeDiff,ru]
 repeat refine ag ?_
 exact RetOK.form rfl rfl wV
set_option maxHeartbeats 4000000
theorem acE (r c:Raw) (hr:r.Ok 2000000000) (hc:c.Ok 2000000000):Den Tryz.prog 184 [] [r.v,.fv (.fp c.f)] [] (FR (r.q*c.q)):=by
 have h:=OQ r c hr hc;rw[bu] at h ⊢;unfold Raw.v at h ⊢;unfold Raw.f;refine dq Tryz.func184 5 0 ?_;refine aY ?_;refine aV h ?_;refine ba ?_;refine bj rfl
theorem Wu (r c:Raw) (hr:r.Ok 2000000000) (hc:c.Ok 2000000000) (h0:c.q≠0):Den Tryz.prog 134 [] [r.v,.fv (.fp c.f)] [] (FR (r.q / c.q)):=by
 have h:=OS r c hr hc h0;rw[bu] at h ⊢;unfold Raw.v at h ⊢;unfold Raw.f;refine dq Tryz.func134 11 0 ?_;refine aY ?_;refine aV h ?_;refine ba ?_;refine bj rfl
theorem JY (rs:List Raw) (c:Raw) (ja:LOk 2000000000 rs) (hc:c.Ok 2000000000):Den Tryz.prog 135 [] [RL rs,c.v] [] (FL (rs.map (fun r=>r.q*c.q))):=by
 have aD:=ja.len;have oT:=ah rs;have ud:=HI rs 184 (.fp c.f) (fun r=>r.q*c.q) aD (fun r hr=>acE r c (ja.ok r hr) hc);unfold FL RL at ud ⊢;unfold Raw.f at ud;obtain⟨zs,hz⟩:=Hg ((rs.map (fun r=>r.q*c.q)).map cn);have sw:zs.length=9:=by rw[<-hz];simp[aD]
 have qW:(flat zs).length=27:=by rw[ah];omega
 rw[hz] at ud ⊢;unfold Raw.v;refine dq Tryz.func135 6 0 ?_;simp -dsimp(disch:=omega) only[replicate,ar aD,↓reduceIte,reduceAdd,reduceLT,ru,zu];refine⟨by omega,by omega,?_⟩;refine kO ud ?_;refine b_ qW ?_;exact RetOK.form rfl rfl sw
theorem Wv (rs:List Raw) (ja:LOk 1000 rs):Den Tryz.prog 71 [] [RL rs] [] (FL (nrm rs)):=by
 have aD:=ja.len;have oT:=ah rs;unfold RL;refine dq Tryz.func71 30 0 ?_;refine aY ?_;have gv:List.take 24 (flat rs)=flat (rs.take 8):=pW 8 rs;have fC:[List.take 3 (cO (rs.take 8)),List.take 3 (List.drop 3 (cO (rs.take 8))),List.take 3 (List.drop 3 (List.drop 3 (cO (rs.take 8)))),List.take 3 (List.drop 3 (List.drop 3 (List.drop 3 (cO (rs.take 8))))),List.take 3 (List.drop 3 (List.drop 3 (List.drop 3 (List.drop 3 (cO (rs.take 8)))))),List.take 3 (List.drop 3 (List.drop 3 (List.drop 3 (List.drop 3 (List.drop 3 (cO (rs.take 8))))))),List.take 3 (List.drop 3 (List.drop 3 (List.drop 3 (List.drop 3 (List.drop 3 (List.drop 3 (cO (rs.take 8)))))))),List.take 3 (List.drop 3 (List.drop 3 (List.drop 3 (List.drop 3 (List.drop 3 (List.drop 3 (List.drop 3 (cO (rs.take 8)))))))))]=(rs.take 8).map Raw.f:=by
  have h:=sO (rs.take 8);rw[length_take,aD] at h;exact h
 have aem:=cU (rs:=rs) (i:=8) (by omega);simp only[reduceMul] at aem;have Ji:(rs.take 8).map Raw.f++[[FV.lit (Value.bool (rs.getD 8 rz).neg),FV.sl (u32s (rs.getD 8 rz).num),FV.sl (u32s (rs.getD 8 rz).den)]]=rs.map Raw.f:=HG aD;have aiL:List.take 8 ((rs.take 8).map Raw.f)=(rs.take 8).map Raw.f:=eo (by simp;omega);have aiM:((rs.take 8).map Raw.f).length=8:=by simp[aD]
 have h3s: ∀ y∈(rs.take 8).map Raw.f,y.length=3:=by
  intro y hy;simp only[mem_map] at hy;obtain⟨r,_,rfl⟩:=hy;rfl
 refine⟨by omega,?_⟩;refine Draw.freeze [0] (by kernel_rfl) ?_;simp -dsimp(disch:=omega) only[gv,fC,aem,Ji,aiL,aiM,Option.isSome_some,imp_self,Int.reduceToNat,↓reduceIte,reduceAdd,reduceMul,Nat.reduceSub,reduceLT,reduceLeDiff,ru,zu];have Zw:(rs.map Raw.f).length=9:=by simp[aD]
 refine⟨by omega,by omega,h3s,?_⟩;refine wl (α:=Nat) (fun i=>⟨[.any,.ptr 0 0 0,.ptr 1 0 0,.any,.any,.any,.any,.any,.any,.any,.any,.lsl 2 0 9 3,.int .i64 9,.int .i64 i]++replicate 17 .any,[.box false (flat rs),.box true (gZ 9),.row true (rs.map Raw.f)]⟩)
  (fun i=>9 - i) (fun i=>i<=9/\(i<9->b' (rs.drop i)=b' rs)/\(i=9->(b' rs).q=0)) 0 ?_ ?_ ?_
 .exact tN [0,1,3]
 .exact⟨eB _,fun _=>rfl,fun h=>by omega⟩
 rintro i ⟨hi,dT,hl9⟩;refine aY ?_;refine bS ?_ ?_
 .intro h1 h2;have hmf:=HF (rs:=rs) (i:=i) (by omega);have D7:b' (rs.drop i)=if(rs.getD i rz).q=0/\i<8 then b' (rs.drop (i+1)) else rs.getD i rz:=by
   by_cases h8:i<8
   .rw[HD (by omega)];simp[h8]
   rw[HE (by omega)];simp[h8]
  rw[dT (by omega)] at D7;obtain⟨r,hr⟩:=ax (rs.getD i rz);have bg:r.Ok 1000:=by rw[<-hr];exact ja.at i
  rw[hr] at hmf D7;have iP:=mm r (bg.mono (by decide));have Zq:=Wi r (bg.mono (by decide));have br:=bg.bd (by decide);have U_:([FV.lit (Value.bool r.neg),FV.sl (u32s r.num),FV.sl (u32s r.den)]:List FV).length=3:=rfl;by_cases h0:r.q=0
  .rw[bh.2 h0] at iP;unfold Raw.v at iP;have hb:((0:Int) !=0)=false:=rfl;refine ae (eg h2 hmf U_ @append_nil.{0}) ?_
   repeat refine ag ?_
   refine aV iP ?_;refine ae (aP hb @append_nil.{0}) ?_;refine aw (i+1) ?_ ⟨by omega,fun h9=>?_,fun h9=>?_⟩
   .exact tN [0,1,2]
   .rw[if_pos ⟨h0,by omega⟩] at D7;exact D7.symm
   rw[if_neg (by omega)] at D7;rw[D7];exact h0
  rw[if_neg (fun h=>h0 h.1)] at D7;have SA:=xm (rs:=rs) (by rw[D7];exact h0);rw[D7] at SA;rw[SA];have Lr:(gA r.q !=0)=true:=by rw[bne_iff_ne];exact fun h=>h0 (bh.1 h)
  obtain⟨zs,hz⟩:=Hg ((rs.map (fun x=>x.q / fX r.q)).map cn);have sw:zs.length=9:=by rw[<-hz];simp[aD]
  have qW:(flat zs).length=27:=by rw[ah];omega
  by_cases mW:r.q.num<0
  .have AL:fX r.q= -r.q:=if_pos mW;have Jf:(cn (-r.q)).q≠0:=by rw[de,<-AL];exact uA h0
   have ud:=HI rs 134 (.fp (cn (-r.q)).f) (fun x=>x.q / (cn (-r.q)).q) aD (fun x hx=>Wu x (cn (-r.q)) ((ja.ok x hx).mono (by decide)) (Raw.Ok.mono (bC br.neg) (by decide)) Jf);rw[de,<-AL] at ud;rw[AL] at ud;unfold FL RL at ud;rw[<-AL,hz] at ud;rw[AL] at ud;unfold Raw.f cn at ud;rw[CB mW] at iP Lr;rw[bu,bE,bE] at Zq;unfold Raw.v at iP Zq;have qX:decide ((-1:Int)<0)=true:=rfl;unfold FL RL;rw[hz];refine ae (eg h2 hmf U_ @append_nil.{0}) ?_
   repeat refine ag ?_
   refine aV iP ?_;refine ae (bR Lr qX @append_nil.{0}) ?_;refine aV Zq ?_;simp -dsimp(disch:=omega) only[ar aD,↓reduceIte,reduceAdd,reduceLT,reduceLeDiff,ru,zu]
   repeat refine ag ?_
   refine kO ud ?_;refine b_ qW ?_
   repeat refine ag ?_
   exact RetOK.form rfl rfl sw
  have AL:fX r.q=r.q:=if_neg mW;have ud:=HI rs 134 (.fp r.f) (fun x=>x.q / r.q) aD (fun x hx=>Wu x r ((ja.ok x hx).mono (by decide)) (bg.mono (by decide)) h0);rw[AL] at hz;unfold FL RL at ud;rw[hz] at ud;unfold Raw.f at ud;rw[SW h0 mW] at iP Lr;unfold Raw.v at iP;have qX:decide ((1:Int)<0)=false:=rfl;unfold FL RL;rw[AL,hz];refine ae (eg h2 hmf U_ @append_nil.{0}) ?_
  repeat refine ag ?_
  refine aV iP ?_;simp -dsimp(disch:=omega) only[Lr,qX,ar aD,↓reduceIte,reduceAdd,ru,zu]
  repeat refine ag ?_
  refine kO ud ?_;refine b_ qW ?_
  repeat refine ag ?_
  exact RetOK.form rfl rfl sw
 intro h1 h2;have hi9:i=9:=by omega
 subst hi9;have ud:=O0 rs Raw.q aD (fun r hr=>OO r ((ja.ok r hr).mono (by decide)));rw[LU (hl9 rfl) aD];unfold FL RL at ud ⊢;obtain⟨zs,hz⟩:=ax ((rs.map Raw.q).map cn);have sw:zs.length=9:=by rw[<-hz];simp[aD]
 have qW:(flat zs).length=27:=by rw[ah];omega
 rw[hz] at ud ⊢;simp -dsimp(disch:=omega) only[h2,ar aD,↓reduceIte,Nat.reduceBEq,ru]
 repeat refine ag ?_
 refine kO ud ?_;refine b_ qW ?_
 repeat refine ag ?_
 exact RetOK.form rfl rfl sw
theorem ahA (rs:List Raw) (v:Int) (ja:rs.length=9) (hv:v<0\/8<=v):Den Tryz.prog 72 [] [RL rs,.int .i64 v] [] (.tup [RL (replicate 9 rz),.int .i64 0,.int .i64 1]):=by
 have oT:=ah rs;unfold RL;by_cases h:v<0
 .have h1:decide (v<0)=true:=ir h;refine dq Tryz.func72 42 0 ?_;refine bU (aP h1 @append_nil.{0}) ?_
  repeat refine ag ?_
  refine Sn rfl ⟨⟨rfl,qp 27⟩,cW,cW,cW⟩ rfl
 have h1:decide (v<0)=false:=m5 h;have h2:decide (v>=8)=true:=GV;refine dq Tryz.func72 42 0 ?_;refine bU (bR h1 h2 @append_nil.{0}) ?_
 repeat refine ag ?_
 refine Sn rfl ⟨⟨rfl,qp 27⟩,cW,cW,cW⟩ rfl
theorem O1 (rs:List Raw) (v:Nat) (ja:LOk 1000 rs) (hv:v<8) (h0:(rs.getD v rz).q=0):Den Tryz.prog 72 [] [RL rs,.int .i64 v] [] (.tup [FL (rs.map Raw.q),.int .i64 0,.int .i64 0]):=by
 have aD:=ja.len;have oT:=ah rs;have bg:=ja.at v;have gG:=cU (rs:=rs) (i:=v) (by omega);have iP:=mm (rs.getD v rz) (bg.mono (by decide));rw[bh.2 h0] at iP;obtain⟨r,hr⟩:=ax (rs.getD v rz);rw[hr] at gG iP;unfold Raw.v at iP;have ud:=O0 rs Raw.q aD (fun r hr=>OO r ((ja.ok r hr).mono (by decide)));unfold FL RL at ud ⊢;obtain⟨zs,hz⟩:=ax ((rs.map Raw.q).map cn);have sw:zs.length=9:=by rw[<-hz];simp[aD]
 have qW:(flat zs).length=27:=by rw[ah];omega
 rw[hz] at ud ⊢;have h1:decide ((v:Int)<0)=false:=sA;have h2:decide ((v:Int)>=8)=false:=sA;have e00:((0:Int)==0)=true:=rfl;refine dq Tryz.func72 42 0 ?_;refine bU (bR h1 h2 gG) ?_
 repeat refine ag ?_
 refine aV iP ?_;simp -dsimp(disch:=omega) only[append_nil,e00,ar aD,↓reduceIte,reduceAdd,ru]
 repeat refine ag ?_
 refine kO ud ?_;refine b_ qW ?_
 repeat refine ag ?_
 exact RetOK.form3 rfl rfl sw rfl rfl
theorem XY {k:Nat} {rs:List Raw} (h:LOk k rs) (v:Nat):LOk k (rs.set v rz):=
 ⟨by simp[h.len],fun r hr=>by
  rcases List.mem_or_eq_of_mem_set hr with h1 | h1
  .exact h.ok r h1
  rw[h1];exact rz_ok⟩
theorem Ww (rs:List Raw) (v:Nat) (ja:LOk 1000 rs) (hv:v<8) (h0:(rs.getD v rz).q≠0):
 Den Tryz.prog 72 [] [RL rs,.int .i64 v] [] (.tup [FL ((rs.set v rz).map (fun r=>r.q*(-1 / (rs.getD v rz).q))),.int .i64 (gA (rs.getD v rz).q),.int .i64 0]):=by
 have aD:=ja.len
 have oT:=ah rs
 have bg:=ja.at v
 have gG:=cU (rs:=rs) (i:=v) (by omega)
 have aen:(flat rs).length=27:=by omega
 obtain⟨X,hX⟩:=ax (List.take (v*3) (flat rs)++[.fv (.lit (.bool false)),.nilsl,.nilsl]++List.drop (v*3+3) (flat rs))
 have hXh:z_ rs v=X:=hX
 have hXl:X.length=27:=by rw[<-hXh];exact Ex (by omega) aD
 have hXt:List.take 27 X=X:=eo (by omega)
 have hXf: ∀ H,lJ H X=some (cO (rs.set v rz)):=fun H=>by rw[<-hXh];exact Ev H v rs (by omega)
 have hXi:X.flatMap eZ=[]:=by rw[<-hXh];exact Ew v rs (by omega)
 have iP:=mm (rs.getD v rz) (bg.mono (by decide))
 obtain⟨r,hr⟩:=ax (rs.getD v rz)
 rw[hr] at gG iP bg h0
 rw[hr]
 have dY:Bd 1 (((-1:Int)):Rat):=⟨by decide,by decide⟩
 have AN:=xj (-1) (by decide)
 have vX:=OS (cn ((-1:Int):Rat)) r (Raw.Ok.mono (bC dY) (by decide)) (bg.mono (by decide)) h0
 rw[de] at vX
 change Den Tryz.prog 73 [] [FR ((-1:Int):Rat),r.v] [] _ at vX
 have AO:=XY ja v
 have Vc:=dY.div (bg.bd (by decide)) h0 (by decide)
 have Jj:=JY (rs.set v rz) (cn (((-1:Int):Rat) / r.q)) (AO.mono (by decide)) (Raw.Ok.mono (bC Vc) (by decide))
 rw[de] at Jj
 change Den Tryz.prog 135 [] [RL (rs.set v rz),FR (((-1:Int):Rat) / r.q)] [] _ at Jj
 have e1:((-1:Int):Rat)= -1:=rfl
 rw[e1] at Jj vX AN
 obtain⟨zs,hz⟩:=Hg (((rs.set v rz).map (fun x=>x.q*(-1 / r.q))).map cn)
 have sw:zs.length=9:=by rw[<-hz];simp[aD]
 have qW:(flat zs).length=27:=by rw[ah];omega
 have rA:(rs.set v rz).length=9:=AO.len
 have hsf:=ah (rs.set v rz)
 unfold FL RL at Jj ⊢
 rw[hz] at Jj ⊢
 rw[bu] at AN Jj
 rw[bu,bu] at vX
 unfold Raw.v at iP vX
 have h1:decide ((v:Int)<0)=false:=sA
 have h2:decide ((v:Int)>=8)=false:=sA
 have Lr:(gA r.q==0)=false:=by rw[qx];exact fun h=>h0 (bh.1 h)
 refine dq Tryz.func72 42 0 ?_
 refine bU (bR h1 h2 gG) ?_
 repeat refine ag ?_
 refine aV iP ?_
 simp -dsimp(disch:=omega) only[append_nil,Lr,ar aD,aen,hX,↓reduceIte,reduceAdd,reduceLT,reduceLeDiff,ru]
 repeat refine ag ?_
 refine dw (by kernel_rfl) ?_
 refine ba ?_
 refine aV AN ?_
 refine ae (aP gG @append_nil.{0}) ?_
 repeat refine ag ?_
 refine aV vX ?_
 refine ae (bR hXt hXl @append_nil.{0}) ?_
 repeat refine ag ?_
 refine gp Jj (by simp[cw,gW,hXf,gJ,lJ,fB]) ?_
 refine b_ (aP qW hXi) ?_
 repeat refine ag ?_
 exact RetOK.form3 rfl rfl sw rfl rfl
def ints (xs:List Int):List (List FV):=xs.map (fun n=>[FV.lit (Value.int .i64 n)])
theorem cu (xs:List Int):(ints xs).length=xs.length:=by simp[ints]
theorem iW {xs:List Int} {i:Nat} (h:i<xs.length):(ints xs).getD i []=[FV.lit (Value.int .i64 (xs.getD i 0))]:=by
 simp[ints,qa,h]
def S (xs:List Int) (a:Nat):Ob:= .box true [.fv (.sl (ints xs)),.int .i64 a,.int .i64 0]
def nx (xs:List Int) (a:Nat):Nat:=if a<xs.length then a+1 else a
theorem aI (xs:List Int) (a:Nat):(S xs a).closed:=by
 intro c hc;simp only[w7,List.not_mem_nil,or_false] at hc;rcases hc with h | h | h<;>exact⟨_,h⟩
def W64 (xs:List Int):Prop:= ∀ x∈xs,-9223372036854775808<=x/\x<9223372036854775808
theorem W64.at {xs:List Int} (h:W64 xs) (a:Nat): -9223372036854775808<=xs.getD a 0/\xs.getD a 0<9223372036854775808:=by
 by_cases ha:a<xs.length
 .rw[qa,qb ha];exact h _ (ki ha)
 rw[qa,getElem?_eq_none (by omega)];simp
theorem sh1 (o:Ob) (l:List Ob):shutBs (o::l) 0 [.ptr 0 0 0]=o::l:=rfl
theorem sh2 (o:Ob) (l:List Ob) (v:FV):shutBs (o::l) 0 [.ptr 0 0 0,.fv v]=o::l:=rfl
theorem sh3 (o:Ob) (l:List Ob) (v u:FV):shutBs (o::l) 0 [.ptr 0 0 0,.fv v,.fv u]=o::l:=rfl
theorem LV (x:Int) (n:Int) (hn:0<n):(x.tmod n<0->x.tmod n+n=x % n)/\(¬x.tmod n<0->x.tmod n=x % n):=by
 have h1:=Int.mul_tdiv_add_tmod x n;have h2:=Int.tmod_lt_of_pos x hn;have h3:=Int.lt_tmod_of_pos x hn;have h4:x % n=x.tmod n % n:=by
  conv=>lhs;rw[<-h1]
  rw[Int.add_comm,Int.add_mul_emod_self_left]
 rw[h4];generalize x.tmod n=t at*;constructor
 .intro h;rw[<-Int.add_emod_right,Int.emod_eq_of_lt (by omega) (by omega)]
 intro h;rw[Int.emod_eq_of_lt (by omega) (by omega)]
theorem acF (xs:List Int) (a:Nat) (hl:xs.length<=1000) (ha:a<=xs.length):Den Tryz.prog 81 [S xs a] [.ptr 0 0 0] [S xs (nx xs a)] (.int .i64 (xs.getD a 0)):=by
 have dW:=cu xs;unfold S nx;by_cases h:a<xs.length
 .have hg:=iW h;have h1:decide ((a:Int)>=(xs.length:Int))=false:=sA;have e1:((a:Int)+1 - 1)=(a:Int):=by omega
  have e2:(a:Int)+1=((a+1:Nat):Int):=by omega
  have e3:((a+1:Nat):Int) - 1=(a:Int):=by omega
  rw[if_pos h];refine dq Tryz.func81 30 1 ?_;refine aY ?_;refine dw (by kernel_rfl) ?_;refine ae (aP dW h1) ?_;refine dw (by kernel_rfl) ?_;refine ae (eg dW e2 e3 hg) ?_;refine⟨by omega,?_⟩;refine sq rfl ⟨cW,cW⟩ rfl (aI xs (a+1)) rfl rfl rfl
 have h1:decide ((a:Int)>=(xs.length:Int))=true:=GV;have h0:xs.getD a 0=0:=by rw[qa,getElem?_eq_none (by omega)];rfl
 rw[if_neg h,h0];refine dq Tryz.func81 30 1 ?_;refine aY ?_;refine dw (by kernel_rfl) ?_;refine ae (aP dW h1) ?_;refine sq rfl ⟨cW,cW⟩ rfl (aI xs a) rfl rfl rfl
theorem acG (xs:List Int) (a:Nat) (n:Nat) (hl:xs.length<=1000) (ha:a<=xs.length) (hw:W64 xs) (hn:1<=n) (ub:n<1000000):Den Tryz.prog 31 [S xs a] [.ptr 0 0 0,.int .i64 n] [S xs (nx xs a)] (.int .i64 (xs.getD a 0 % n)):=by
 have h50:=acF xs a hl ha;have hx:=hw.at a;obtain⟨x,qS⟩:=ax (xs.getD a 0);rw[qS] at h50 hx ⊢;have hc:=aI xs a;have h1:decide ((n:Int)<1)=false:=sA;unfold S at h50 hc ⊢;refine dq Tryz.func31 16 1 ?_;refine bU h1 ?_;refine ig 0 h50 hc ?_;have Zx:=LV x (n:Int) (by omega);have hb:=Int.lt_tmod_of_pos x (show(0:Int)<n by omega);refine D6 ?_;refine⟨by omega,bS ?_ ?_⟩
 .intro h3 h4;rw[<-Zx.1 h3];generalize x.tmod (n:Int)=t at*;refine ae h4 ?_;refine sq rfl ⟨cW,cW⟩ rfl (aI xs _) rfl rfl rfl
 intro h3 h4;rw[<-Zx.2 h3];generalize x.tmod (n:Int)=t at*;refine ae h4 ?_;refine sq rfl ⟨cW,cW⟩ rfl (aI xs _) rfl rfl rfl
theorem cI {xs:List Int} {a:Nat} (h:a<=xs.length):nx xs a<=xs.length:=by unfold nx;split<;>omega
def nN (xs:List Int) (a n:Nat):Nat:=(xs.getD a 0 % n).toNat
theorem JZ {xs:List Int} {a n:Nat} (hn:1<=n):xs.getD a 0 % (n:Int)=(nN xs a n:Int):=by
 unfold nN;have:=Int.emod_nonneg (xs.getD a 0) (show(n:Int)≠0 by omega);omega
theorem eU {xs:List Int} {a n:Nat} (hn:1<=n):nN xs a n<n:=by
 have h:=JZ (xs:=xs) (a:=a) hn;have:=Int.emod_lt_of_pos (xs.getD a 0) (show(0:Int)<n by omega);omega
theorem sT (xs:List Int) (a n:Nat) (hl:xs.length<=1000) (ha:a<=xs.length) (hw:W64 xs) (hn:1<=n) (ub:n<1000000):Den Tryz.prog 31 [S xs a] [.ptr 0 0 0,.int .i64 n] [S xs (nx xs a)] (.int .i64 (nN xs a n)):=by
 have h:=acG xs a n hl ha hw hn ub;rw[JZ hn] at h;exact h
theorem Bb (xs:List Int) (a:Nat) (lo hi:Int) (n:Nat) (hl:xs.length<=1000) (ha:a<=xs.length) (hw:W64 xs) (hn:hi - lo+1=n) (kJ:1<=n) (ub:n<1000000) (fR: -1000000<lo) (fL:lo<1000000):
 Den Tryz.prog 80 [S xs a] [.ptr 0 0 0,.int .i64 lo,.int .i64 hi] [S xs (nx xs a)] (.int .i64 (lo+nN xs a n)):=by
 have h:=sT xs a n hl ha hw kJ ub
 have hc:=aI xs a
 have aH:=eU (xs:=xs) (a:=a) kJ
 generalize nN xs a n=m at*
 unfold S at h hc ⊢
 refine dq Tryz.func80 12 1 ?_
 refine bU hn ?_
 refine ig 0 h hc ?_
 refine D6 ?_
 refine sq rfl ⟨cW,cW⟩ rfl (aI xs _) rfl rfl rfl
theorem O2 (xs:List Int) (a:Nat) (l:List Int) (hl:xs.length<=1000) (ha:a<=xs.length) (hw:W64 xs) (kJ:1<=l.length) (ub:l.length<1000):
 Den Tryz.prog 52 [S xs a] [.ptr 0 0 0,.fv (.sl (ints l))] [S xs (nx xs a)] (.int .i64 (l.getD (nN xs a l.length) 0)):=by
 have h:=sT xs a l.length hl ha hw kJ (by omega)
 have hc:=aI xs a
 have aH:=eU (xs:=xs) (a:=a) kJ
 have dW:=cu l
 have hg:=iW (xs:=l) aH
 obtain⟨m,hm⟩:=ax (nN xs a l.length)
 rw[hm] at h aH hg ⊢
 unfold S at h hc ⊢
 refine dq Tryz.func52 10 1 ?_
 refine bU dW ?_
 refine ig 0 h hc ?_
 refine nX (aP hg dW) ?_
 repeat refine ag ?_
 refine sq rfl ⟨cW,cW⟩ rfl (aI xs _) rfl rfl rfl
def qN (xs:List Int) (a:Nat):Rat:=((-6+(nN xs a 13:Int):Int):Rat) / ((1+(nN xs (nx xs a) 5:Int):Int):Rat)
theorem bd_int {n:Int} (h:n.natAbs<4294967296):Bd 1 (n:Rat):=⟨h,(by decide:(1:Nat)<B^1)⟩
theorem wD (xs:List Int) (a:Nat):Bd 2 (qN xs a):=by
 have h1:=eU (xs:=xs) (a:=a) (n:=13) (by decide);have h2:=eU (xs:=xs) (a:=nx xs a) (n:=5) (by decide);refine Bd.div (j:=1) (k:=1) (bd_int (by omega)) (bd_int (by omega)) ?_ (by decide);intro h;have:=congrArg Rat.num h;change (1+(nN xs (nx xs a) 5:Int))=0 at this;omega
theorem O3 (xs:List Int) (a:Nat) (hl:xs.length<=1000) (ha:a<=xs.length) (hw:W64 xs):Den Tryz.prog 55 [S xs a] [.ptr 0 0 0] [S xs (nx xs (nx xs a))] (FR (qN xs a)):=by
 have h1:=Bb xs a (-6) 6 13 hl ha hw (by decide) (by decide) (by decide) (by decide) (by decide);have h2:=Bb xs (nx xs a) 1 5 5 hl (cI ha) hw (by decide) (by decide) (by decide) (by decide) (by decide);have hc:=aI xs a;have oH:=aI xs (nx xs a);have l1:=eU (xs:=xs) (a:=a) (n:=13) (by decide);have l2:=eU (xs:=xs) (a:=nx xs a) (n:=5) (by decide);unfold qN;generalize nN xs a 13=m1 at*;generalize nN xs (nx xs a) 5=m2 at*;have h59:=acB (-6+(m1:Int)) (1+(m2:Int)) (by omega) (by omega) (by omega);rw[bu] at h59 ⊢;unfold S at h1 h2 hc oH ⊢;refine dq Tryz.func55 13 1 ?_;refine aY ?_;refine ig 0 h1 hc ?_;refine D6 ?_;refine ig 0 h2 oH ?_;refine D6 ?_;refine aV h59 ?_;refine ae @append_nil.{0} ?_;refine sq rfl ⟨⟨rfl,qp 3⟩,cW⟩ rfl (aI xs _) rfl rfl rfl
def q9:List Nat:=[0,1,2,3,10,97,65536,2147483648,4294967295,4294967291,123456789,4000000007]
def J0:List Int:=[0,1,2,3,10,97,65536,2147483648,4294967295,4294967291,123456789,4000000007]
theorem LW (i:Nat):J0.getD i 0=((q9.getD i 0:Nat):Int):=by
 have h:J0=q9.map (fun n:Nat=>(n:Int)):=rfl;rw[h];simp only[qa,List.getElem?_map];cases q9[i]?<;>rfl
theorem J1 (i:Nat):q9.getD i 0<4294967296:=by
 by_cases h:i<q9.length
 .have hm:q9.getD i 0∈q9:=by rw[qa,qb h];exact ki h
  have: ∀ x∈q9,x<4294967296:=by decide
  exact this _ hm
 rw[qa,getElem?_eq_none (by omega)];decide
def iy (xs:List Int):Nat->Nat->List Nat
 | 0,_=>[]
 | n+1,a=>q9.getD (nN xs a 12) 0::iy xs n (nx xs a)
def rK (xs:List Int):Nat->Nat->Nat
 | 0,a=>a
 | n+1,a=>rK xs n (nx xs a)
theorem rL (xs:List Int): ∀ n a,Dig (iy xs n a)
 | 0,_=>Dig.nil
 | n+1,a=>Dig.mk (J1 _) (rL xs n (nx xs a))
theorem lK (xs:List Int): ∀ n a,(iy xs n a).length=n
 | 0,_=>rfl
 | n+1,a=>by simp[iy,lK xs n]
theorem rM {xs:List Int}: ∀ {n a:Nat},a<=xs.length->rK xs n a<=xs.length
 | 0,_,h=>h
 | n+1,_,h=>rM (n:=n) (cI h)
theorem SX (o:Ob) (l:List Ob) (k off n s:Nat):shutBs (o::l) 0 [.ptr 0 0 0,.lsl (k+1) off n s]=shutIds [k+1] (o::l):=rfl
def SY (out:List Nat):PV:=match out with | []=> .nilsl | _=> .lsl 1 0 out.length 1
def SZ (o:Ob) (out:List Nat):List Ob:=match out with | []=>[o] | _=>[o,.row true (u32s out)]
theorem Wx (xs:List Int) (a:Nat) (hl:xs.length<=1000) (ha:a<=xs.length) (hw:W64 xs):
 Den Tryz.prog 117 [S xs a] [.ptr 0 0 0] [S xs (rK xs (nN xs a 5) (nx xs a))] (.fv (.sl (u32s (iy xs (nN xs a 5) (nx xs a))))):=by
 have h5:=sT xs a 5 hl ha hw (by decide) (by decide)
 have aH:=eU (xs:=xs) (a:=a) (n:=5) (by decide)
 have hc:=aI xs a
 have vn:=cI ha
 obtain⟨a1,aiP⟩: ∃ t,nx xs a=t:=⟨_,rfl⟩
 obtain⟨m,hm⟩:=ax (nN xs a 5)
 rw[hm] at h5 aH ⊢
 rw[aiP] at h5 vn ⊢
 obtain⟨fin,kR⟩:=ax (rK xs m a1)
 obtain⟨tot,DP⟩:=ax (iy xs m a1)
 rw[kR,DP]
 unfold S at h5 hc ⊢
 refine dq Tryz.func117 18 1 ?_
 refine aY ?_
 refine ig 0 h5 hc ?_
 refine D6 ?_
 refine wl (α:=Nat×Nat×List Nat) (fun⟨n,b,out⟩=>⟨[.ptr 0 0 0,.any,.nilsl,SY out,.int .i64 n]++replicate 14 .any,SZ (S xs b) out⟩)
  (fun⟨n,_,_⟩=>n) (fun⟨n,b,out⟩=>b<=xs.length/\n+out.length<=4/\rK xs n b=fin/\out++iy xs n b=tot) (m,a1,[]) ?_ ?_ ?_
 .refine eS [0] ?_ ?_
  .simp[bk,dV,cC,SY]
  simp[et,fK,dp,cC,SZ,S]
 .exact⟨vn,by simp;omega,kR,by rw[nil_append];exact DP⟩
 rintro⟨n,b,out⟩ ⟨hb,ue,wv,cG⟩
 have Lu:=O2 xs b J0 hl hb hw (by decide) (by decide)
 have D':=aI xs b
 have m4:=J1 (nN xs b 12)
 rw[show J0.length=12 from rfl,LW] at Lu
 obtain⟨d,hd⟩:=ax (q9.getD (nN xs b 12) 0)
 rw[hd] at Lu m4
 have Je:IntKind.u32.wrap (d:Int)=(d:Int):=cV (by omega)
 have aeo: ∀ k,n=k+1->rK xs k (nx xs b)=fin/\(out++[d])++iy xs k (nx xs b)=tot:=by
  intro k hk;subst hk;rw[<-wv,<-cG,iy,hd];exact⟨rfl,by simp⟩
 have Ze:=cI hb
 cases out with
 | nil=>
  simp only[SY,SZ];unfold S at Lu D' ⊢;refine aY ?_;refine bS ?_ ?_
  .intro h1 h2;obtain⟨k,rfl⟩: ∃ k,n=k+1:=⟨n - 1,by omega⟩;obtain⟨kJ,ub⟩:=aeo k rfl;have hk:((k+1:Nat):Int) - 1=(k:Int):=by omega
   refine ae (aP h2 @append_nil.{0}) ?_;refine ig 0 Lu D' ?_;refine ae (fE @SX Je hk @length_cons.{0} @length_nil.{0} @append_nil.{0}) ?_
   repeat refine ag ?_
   refine aw (k,nx xs b,[d]) ?_ ⟨Ze,by simp at ue ⊢;omega,kJ,ub⟩;refine eS [0,3] ?_ ?_
   .simp[bk,dV,cC]
   simp[et,fK,dp,cC,u32s]
  .intro h1 h2;have Jf:n=0:=by omega
   subst Jf;have zD:tot=[]:=by rw[<-cG];rfl
   have RH:fin=b:=wv.symm;rw[zD,RH];refine ae h2 ?_;refine sq rfl ⟨cW,cW⟩ rfl (aI xs _) rfl rfl rfl
 | cons x out=>
  have zt:(u32s (x::out)).length=(x::out).length:=aM;have gv:List.take (x::out).length (u32s (x::out))=u32s (x::out):=eo (by rw[zt];exact qp _);have tT:u32s (x::out)++[[FV.lit (Value.int .u32 d)]]=u32s (x::(out++[d])):=by simp[u32s]
  simp only[SY,SZ];obtain⟨L,hL⟩:=ax ((x::out).length);obtain⟨us,gS⟩:=ax (u32s (x::out));rw[hL,gS] at zt gv;rw[gS] at tT;rw[hL] at ue;rw[hL,gS];unfold S at Lu D' ⊢;refine aY ?_;refine bS ?_ ?_
  .intro h1 h2;obtain⟨k,rfl⟩: ∃ k,n=k+1:=⟨n - 1,by omega⟩;obtain⟨kJ,ub⟩:=aeo k rfl;have hk:((k+1:Nat):Int) - 1=(k:Int):=by omega
   refine ae (aP h2 @append_nil.{0}) ?_;refine ig 0 Lu D' ?_;refine ae (bT @SX Je hk gv tT @length_cons.{0} @length_nil.{0} @append_nil.{0}) ?_
   repeat refine ag ?_
   refine aw (k,nx xs b,x::(out++[d])) ?_ ⟨Ze,by simp at hL ⊢;omega,kJ,ub⟩;refine eS [0,4] ?_ ?_
   .simp[bk,dV,cC];simp at hL;omega
   simp[et,fK,dp,cC]
  intro h1 h2;have Jf:n=0:=by omega
  subst Jf;have zD:tot=x::out:=by rw[<-cG];simp[iy]
  have RH:fin=b:=wv.symm;rw[zD,RH,gS];refine ae h2 ?_;refine sq rfl ⟨cW,cW⟩ rfl (aI xs _) rfl ?_ rfl;have hi:List.idxOf? 1 [0]=none:=rfl;exact l7 (bR zt gv hi)
def jA (xs:List Int) (a:Nat):Raw×Nat:=
 if nN xs a 4=0 then(cn (qN xs (nx xs a)),nx xs (nx xs (nx xs a)))
 else if nN xs a 4=1 then
  (⟨decide (nN xs (nx xs a) 2=0),iy xs (nN xs (nx xs (nx xs a)) 5) (nx xs (nx xs (nx xs a))),
   iy xs (nN xs (rK xs (nN xs (nx xs (nx xs a)) 5) (nx xs (nx xs (nx xs a)))) 5) (nx xs (rK xs (nN xs (nx xs (nx xs a)) 5) (nx xs (nx xs (nx xs a)))))⟩,
   rK xs (nN xs (rK xs (nN xs (nx xs (nx xs a)) 5) (nx xs (nx xs (nx xs a)))) 5) (nx xs (rK xs (nN xs (nx xs (nx xs a)) 5) (nx xs (nx xs (nx xs a))))))
 else(⟨decide (nN xs (nx xs (nx xs a)) 2=0),[(1+nN xs (nx xs a) 6)*nN xs (nx xs (nx xs (nx xs a))) 9,0],[(1+nN xs (nx xs a) 6)*nN xs (nx xs (nx xs (nx xs (nx xs a)))) 6]⟩,nx xs (nx xs (nx xs (nx xs (nx xs a)))))
theorem acH (m:Nat):((m:Int)==0)=decide (m=0):=by
 by_cases h:m=0
 .subst h;rfl
 rw[m5 h,qx];omega
theorem acI {x:Nat} (h:x<4294967296):Dig [x]:=Dig.mk h Dig.nil
theorem uB (xs:List Int) (a:Nat):(jA xs a).1.Ok 4:=by
 unfold jA;split
 .exact Raw.Ok.mono (bC (wD xs _)) (by decide)
 split
 .have h1:=eU (xs:=xs) (a:=nx xs (nx xs a)) (n:=5) (by decide);have h2:=eU (xs:=xs) (a:=rK xs (nN xs (nx xs (nx xs a)) 5) (nx xs (nx xs (nx xs a)))) (n:=5) (by decide);exact⟨rL _ _ _,rL _ _ _,by rw[lK];omega,by rw[lK];omega⟩
 have h1:=eU (xs:=xs) (a:=nx xs a) (n:=6) (by decide);have h2:=eU (xs:=xs) (a:=nx xs (nx xs (nx xs a))) (n:=9) (by decide);have h3:=eU (xs:=xs) (a:=nx xs (nx xs (nx xs (nx xs a)))) (n:=6) (by decide);have h4:(1+nN xs (nx xs a) 6)*nN xs (nx xs (nx xs (nx xs a))) 9<=6*8:=Nat.mul_le_mul (by omega) (by omega);have h5:(1+nN xs (nx xs a) 6)*nN xs (nx xs (nx xs (nx xs (nx xs a)))) 6<=6*5:=Nat.mul_le_mul (by omega) (by omega);exact⟨Dig.mk (by simp only[B];omega) (acI (by omega)),acI (by omega),by simp,by simp⟩
theorem Bc {xs:List Int} {a:Nat} (h:a<=xs.length):(jA xs a).2<=xs.length:=by
 unfold jA;split
 .exact cI (cI (cI h))
 split
 .exact rM (cI (rM (cI (cI (cI h)))))
 exact cI (cI (cI (cI (cI h))))
theorem Wy (xs:List Int) (a:Nat) (hl:xs.length<=1000) (ha:a<=xs.length) (hw:W64 xs):
 Den Tryz.prog 60 [S xs a] [.ptr 0 0 0] [S xs (jA xs a).2] (jA xs a).1.v:=by
 have h4:=sT xs a 4 hl ha hw (by decide) (by decide)
 have hc:=aI xs a
 have vn:=cI ha
 unfold jA
 obtain⟨m,hm⟩:=ax (nN xs a 4)
 obtain⟨a1,e1⟩:=ax (nx xs a)
 rw[hm,e1] at h4
 rw[e1] at vn
 rw[hm,e1]
 have c1:=aI xs a1
 by_cases h0:m=0
 .rw[if_pos h0]
  have zE:=O3 xs a1 hl vn hw
  have hb:((m:Int)==0)=true:=by rw[h0];rfl
  dsimp only
  change Den Tryz.prog 60 _ _ _ (FR (qN xs a1))
  rw[bu] at zE ⊢
  unfold S at h4 zE hc c1 ⊢
  refine dq Tryz.func60 38 1 ?_
  refine aY ?_
  refine ig 0 h4 hc ?_
  refine nX hb ?_
  refine ig 0 zE c1 ?_
  refine D6 ?_
  refine sq rfl ⟨⟨rfl,qp 3⟩,cW⟩ rfl (aI xs _) rfl rfl rfl
 rw[if_neg h0]
 have hb:((m:Int)==0)=false:=by rw[qx];omega
 have Lv:=cI vn
 obtain⟨a2,e2⟩:=ax (nx xs a1)
 have c2:=aI xs a2
 have Zy:=cI (a:=a2) (by rw[<-e2];exact Lv)
 by_cases h1:m=1
 .rw[if_pos h1]
  have dY:((m:Int)==1)=true:=by rw[h1];rfl
  have ub:=sT xs a1 2 hl vn hw (by decide) (by decide)
  rw[e2] at Lv ub ⊢
  have hx:=Wx xs a2 hl Lv hw
  have ha4:rK xs (nN xs a2 5) (nx xs a2)<=xs.length:=rM Zy
  obtain⟨a3,e3⟩:=ax (rK xs (nN xs a2 5) (nx xs a2))
  have c3:=aI xs a3
  rw[e3] at hx ha4 ⊢
  have hy:=Wx xs a3 hl ha4 hw
  obtain⟨p,hp⟩:=ax (nN xs a1 2)
  obtain⟨u,hu⟩:=ax (iy xs (nN xs a2 5) (nx xs a2))
  obtain⟨w,NA⟩:=ax (iy xs (nN xs a3 5) (nx xs a3))
  obtain⟨a4,e4⟩:=ax (rK xs (nN xs a3 5) (nx xs a3))
  rw[hp] at ub ⊢
  rw[hu] at hx ⊢
  rw[NA,e4] at hy ⊢
  have hbp:=acH p
  unfold Raw.v
  unfold S at h4 ub hx hy hc c1 c2 c3 ⊢
  refine dq Tryz.func60 38 1 ?_
  refine aY ?_
  refine ig 0 h4 hc ?_
  refine nX (aP hb dY) ?_
  refine ig 0 ub c1 ?_
  refine nX hbp ?_
  refine ig 0 hx c2 ?_
  refine D6 ?_
  refine ig 0 hy c3 ?_
  refine D6 ?_
  refine sq rfl ⟨⟨rfl,qp 3⟩,cW⟩ rfl (aI xs _) rfl rfl rfl
 rw[if_neg h1]
 have dY:((m:Int)==1)=false:=by rw[qx];omega
 have kJ:=Bb xs a1 1 6 6 hl vn hw (by decide) (by decide) (by decide) (by decide) (by decide)
 have l1:=eU (xs:=xs) (a:=a1) (n:=6) (by decide)
 rw[e2] at Lv kJ ⊢
 have ub:=sT xs a2 2 hl Lv hw (by decide) (by decide)
 obtain⟨a3,e3⟩:=ax (nx xs a2)
 have c3:=aI xs a3
 rw[e3] at Zy ub ⊢
 have hn3:=sT xs a3 9 hl Zy hw (by decide) (by decide)
 have l3:=eU (xs:=xs) (a:=a3) (n:=9) (by decide)
 have ha4:=cI Zy
 obtain⟨a4,e4⟩:=ax (nx xs a3)
 have c4:=aI xs a4
 rw[e4] at ha4 hn3 ⊢
 have hn4:=sT xs a4 6 hl ha4 hw (by decide) (by decide)
 have l4:=eU (xs:=xs) (a:=a4) (n:=6) (by decide)
 obtain⟨k,hk⟩:=ax (nN xs a1 6)
 obtain⟨p,hp⟩:=ax (nN xs a2 2)
 obtain⟨x,hx⟩:=ax (nN xs a3 9)
 obtain⟨y,hy⟩:=ax (nN xs a4 6)
 rw[hk] at kJ l1 ⊢
 rw[hp] at ub ⊢
 rw[hx] at hn3 l3 ⊢
 rw[hy] at hn4 l4 ⊢
 have hbp:=acH p
 have q1:(1+k)*x<=6*8:=Nat.mul_le_mul (by omega) (by omega)
 have q2:(1+k)*y<=6*5:=Nat.mul_le_mul (by omega) (by omega)
 have g1:((1:Int)+(k:Int))*(x:Int)=(((1+k)*x:Nat):Int):=by rw[Int.natCast_mul,Int.natCast_add];rfl
 have g2:((1:Int)+(k:Int))*(y:Int)=(((1+k)*y:Nat):Int):=by rw[Int.natCast_mul,Int.natCast_add];rfl
 obtain⟨kx,hkx⟩:=ax ((1+k)*x)
 obtain⟨ky,Vd⟩:=ax ((1+k)*y)
 rw[hkx] at q1 g1 ⊢
 rw[Vd] at q2 g2 ⊢
 unfold Raw.v
 unfold S at h4 kJ ub hn3 hn4 hc c1 c2 c3 c4 ⊢
 refine dq Tryz.func60 38 1 ?_
 refine aY ?_
 refine ig 0 h4 hc ?_
 refine nX (aP hb dY) ?_
 refine ig 0 kJ c1 ?_
 refine D6 ?_
 refine ig 0 ub c2 ?_
 refine nX hbp ?_
 refine ig 0 hn3 c3 ?_
 refine nX g1 ?_
 refine ig 0 hn4 c4 ?_
 refine nX g2 ?_
 repeat refine ag ?_
 refine sq rfl ⟨⟨rfl,qp 3⟩,cW⟩ rfl (aI xs _) rfl rfl rfl
theorem Be (H:List Ob) (keep:List Nat): ∀ rs:List Raw,(flat rs).flatMap (ze H keep)=[]
 | []=>rfl
 | r::rs=>by simp only[flat,List.flatMap_cons,ze,me,eZ,nil_append,Be H keep rs]
theorem RetOK.formL {st:St} {ob:Ob} {a id:Nat} {w:Bool} {rs:List Raw} (ha:st.get a= .ptr id 0 0) (hb:st.heap[id]?=some (.box w (flat rs))) (hl:rs.length=9) (hx:st.heap.head?=some ob) (fC:ob.closed) (hrw:ob.rw=true):
 RetOK tab [.cell a 30] 1 st [ob] (RL rs):=by
 refine sq (vs:=[.agg (flat rs)]) (cd:=(0=0/\0+27<=(flat rs).length)/\True) ?_ ⟨⟨rfl,by rw[ah];omega⟩,cW⟩ hx fC hrw ?_ ?_
 .simp[gQ,zh,ha,SO,fP,hb,jf,ar hl,TyI.isAgg]
 .simp[cM,tL,zc,pY,RL]
 simp only[cM,sn,zg,Be]
 rw[<-hx];rfl
def z' (xs:List Int):Nat->Nat->Nat->List Raw->List Raw
 | 0,_,_,rs=>rs
 | n+1,i,a,rs=>z' xs n (i+1) (nx xs a) (rs.set i (cn ((-2+(nN xs a 5:Int):Int):Rat)))
theorem pZ {k:Nat} {rs:List Raw} (h:LOk k rs) (v:Nat) {r:Raw} (hr:r.Ok k):LOk k (rs.set v r):=
 ⟨by simp[h.len],fun x hx=>by
  rcases List.mem_or_eq_of_mem_set hx with h1 | h1
  .exact h.ok x h1
  rw[h1];exact hr⟩
theorem CG (xs:List Int): ∀ n i a rs,LOk 4 rs->LOk 4 (z' xs n i a rs)
 | 0,_,_,_,h=>h
 | n+1,i,a,rs,h=>by
  unfold z';have h1:=eU (xs:=xs) (a:=a) (n:=5) (by decide);exact CG xs n _ _ _ (pZ h i (Raw.Ok.mono (bC (bd_int (by omega))) (by decide)))
theorem RetOK.ownB {T:Tab} {st:St} {rs:List ResultVar} {id:Nat} {ob:Ob} {cd:Prop} (h1:gQ T st rs=some (cd,[.ptr id 0 0])) (hc:cd) (h2:st.heap[id]?=some ob) (fC:ob.closed) (hrw:ob.rw=true):
 RetOK T rs 0 st [ob] (.ptr 0 0 0):=by
 refine⟨cd,[.ptr id 0 0],[id],h1,hc,by simp,fun i hi=>absurd hi (Nat.not_lt_zero i),?_,rfl,fun j k hj=>?_,fun o ho=>?_⟩
 .simp[cM,tL,zc,t_,List.idxOf?_cons]
 .cases j with
  | zero=>
   simp at hj;subst hj;simp[cM,sn,zg,ze,List.idxOf?_cons,shutIds,h2]
  | succ j=>simp at hj
 simp at ho;subst ho;exact⟨fC,hrw⟩
theorem acJ (l:List Int) (hl:l.length<9223372036854775808):Den Tryz.prog 15 [] [.fv (.sl (ints l))] [S (l.take 1000) 0] (.ptr 0 0 0):=by
 have dW:=cu l;have hc:=aI (l.take 1000) 0;have df: ∀ y∈ints l,y.length=1:=by
  intro y hy;simp only[ints,mem_map] at hy;obtain⟨n,_,rfl⟩:=hy;rfl
 unfold S at hc ⊢;by_cases h:l.length>1000
 .have h1:decide ((l.length:Int)>1000)=true:=GV;have gv:List.take 1000 (ints l)=ints (l.take 1000):=by simp[ints,List.map_take]
  refine dq Tryz.func15 10 0 ?_;refine bU (bR dW h1 gv) ?_;refine⟨⟨by omega,by omega,df⟩,?_⟩;exact RetOK.ownB rfl ⟨cW,cW⟩ rfl hc rfl
 have h1:decide ((l.length:Int)>1000)=false:=sA;rw[eo (by omega)] at hc ⊢;refine dq Tryz.func15 10 0 ?_;refine bU (aP dW h1) ?_;exact RetOK.ownB rfl ⟨cW,cW⟩ rfl hc rfl
end Go.Proofs.YtjjbkjgifdhlcaaGreat
