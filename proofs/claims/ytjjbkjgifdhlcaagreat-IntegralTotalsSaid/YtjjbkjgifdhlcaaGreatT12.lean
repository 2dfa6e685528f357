/- Contracts:the reference's fractions:Mul,Div,Add. -/
import Derived.Test.YtjjbkjgifdhlcaaGreatT11
import Derived.Test.YtjjbkjgifdhlcaaGreatT8
import Derived.Test.YtjjbkjgifdhlcaaGreatT10
import Derived.Test.YtjjbkjgifdhlcaaGreatT1
set_option linter.all false
open Nat (reduceAdd reduceLT reduceLeDiff reduceMul)
open List (append_nil drop_eq_getElem_cons drop_succ_cons getElem?_eq_none length_cons length_map length_nil length_take map_cons mem_map nil_append replicate take_succ_cons take_succ_eq_append_getElem)
namespace Go.Proofs.YtjjbkjgifdhlcaaGreat
open Go.AM Go.Pl
set_option maxRecDepth 100000
set_option maxHeartbeats 2000000
theorem Lv (r1 r2:Raw) (ib:r1.Ok 2000000000) (iM:r2.Ok 2000000000):Den Tryz.prog 65 [] [r1.v,r2.v] [] (FR (r1.q*r2.q)):=by
 have ha:=mb r1 (ib.mono (by decide));have hb:=mb r2 (iM.mono (by decide));have b1:=ib.bd (by decide);have b2:=iM.bd (by decide);have c1:=bj b1;have c2:=bj b2;have hq:g5 (decide (r1.q.num<0) !=decide (r2.q.num<0)) (r1.q.num.natAbs*r2.q.num.natAbs) (r1.q.den*r2.q.den)=r1.q*r2.q:=by
  rw[<-uq,db,db]
 have pB:=zh (ak r1.q.num.natAbs) (ak r2.q.num.natAbs) (ar _) (ar _) (by have:=c1.lnum;simp only[cn] at this;omega) (by have:=c2.lnum;simp only[cn] at this;omega);have m_:=zh (ak r1.q.den) (ak r2.q.den) (ar _) (ar _) (by have:=c1.lden;simp only[cn] at this;omega) (by have:=c2.lden;simp only[cn] at this;omega);have xM:=cC (aP b1.1 b2.1);have qZ:=cC (aP b1.2 b2.2);have yT:=zi (decide (r1.q.num<0) !=decide (r2.q.num<0)) (ak (r1.q.num.natAbs*r2.q.num.natAbs)) (ak (r1.q.den*r2.q.den)) (ar _) (ar _) (by omega) (by omega) (by rw[ao];exact Nat.mul_ne_zero r1.q.den_nz r2.q.den_nz);rw[ao,ao,hq] at yT;rw[ao,ao] at pB m_;rw[bt] at ha hb yT ⊢;unfold Raw.v at ha hb ⊢;rw[dE] at pB m_;rw[dE,dE] at ha hb;refine dq Tryz.func65 23 0 ?_
 refine aW ?_;refine dw (by kernel_rfl) ?_;refine aN ?_;refine aM ha ?_;refine aN ?_;refine aM hb ?_;refine aN ?_;refine dw (by kernel_rfl) ?_;refine aN ?_;refine aM pB ?_;refine aN ?_;refine aM m_ ?_;refine aN ?_;refine aM yT ?_;refine aN ?_;refine a_ rfl
theorem QC (r1 r2:Raw) (ib:r1.Ok 2000000000) (iM:r2.Ok 2000000000) (h0:r2.q≠0):Den Tryz.prog 192 [] [r1.v,r2.v] [] (.tup [FR (r1.q / r2.q),.int .i64 0]):=by
 have ha:=mb r1 (ib.mono (by decide));have hb:=mb r2 (iM.mono (by decide));have b1:=ib.bd (by decide);have b2:=iM.bd (by decide);have c1:=bj b1;have c2:=bj b2;have Bf:r2.q.num.natAbs≠0:=fun h=>h0 (Rat.num_eq_zero.1 (by omega))
 have hq:g5 (decide (r1.q.num<0) !=decide (r2.q.num<0)) (r1.q.num.natAbs*r2.q.den) (r1.q.den*r2.q.num.natAbs)=r1.q / r2.q:=by
  rw[<-yz Bf r2.q.den_nz,db,db]
 have pB:=zh (ak r1.q.num.natAbs) (ak r2.q.den) (ar _) (ar _) (by have:=c1.lnum;simp only[cn] at this;omega) (by have:=c2.lden;simp only[cn] at this;omega);have m_:=zh (ak r1.q.den) (ak r2.q.num.natAbs) (ar _) (ar _) (by have:=c1.lden;simp only[cn] at this;omega) (by have:=c2.lnum;simp only[cn] at this;omega);have xM:=cC (aP b1.1 b2.2);have qZ:=cC (aP b1.2 b2.1);have yT:=zi (decide (r1.q.num<0) !=decide (r2.q.num<0)) (ak (r1.q.num.natAbs*r2.q.den)) (ak (r1.q.den*r2.q.num.natAbs)) (ar _) (ar _) (by omega) (by omega) (by rw[ao];exact Nat.mul_ne_zero r1.q.den_nz Bf);rw[ao,ao,hq] at yT;rw[ao,ao] at pB m_;have hz:(((ak r2.q.num.natAbs).length:Int)==0)=false:=by
  rw[qx];exact fun h=>Bf (d5.1 h)
 rw[bt] at ha hb yT ⊢;unfold Raw.v at ha hb ⊢;rw[dE] at pB m_;rw[dE,dE] at ha hb;refine dq Tryz.func192 29 0 ?_;refine aW ?_;refine dw (by kernel_rfl) ?_;refine aN ?_;refine aM ha ?_;refine aN ?_;refine aM hb ?_;refine ae hz ?_;refine dw (by kernel_rfl) ?_;refine aN ?_;refine aM pB ?_;refine aN ?_;refine aM m_ ?_;refine aN ?_;refine aM yT ?_;refine aN ?_;refine a_ rfl
theorem D' {a c j k m:Nat} (ha:a<B^j) (hc:c<B^k) (hj:j<=m) (hk:k<=m):(ak (a+c)).length<=m+1:=
 cC (oA (pT ha hj) (pT hc hk))
theorem QD (r1 r2:Raw) (ib:r1.Ok 1000000000) (iM:r2.Ok 1000000000):Den Tryz.prog 67 [] [r1.v,r2.v] [] (FR (r1.q+r2.q)):=by
 have ha:=mb r1 (ib.mono (by decide));have hb:=mb r2 (iM.mono (by decide));have b1:=ib.bd (by decide);have b2:=iM.bd (by decide);have c1:=bj b1;have c2:=bj b2;have hq:=s8 (decide (r1.q.num<0)) (decide (r2.q.num<0)) (a:=r1.q.num.natAbs) (c:=r2.q.num.natAbs) r1.q.den_nz r2.q.den_nz;rw[db,db] at hq;have iS:=Nat.mul_ne_zero r1.q.den_nz r2.q.den_nz;have pB:=zh (ak r1.q.num.natAbs) (ak r2.q.den) (ar _) (ar _) (by have:=c1.lnum;simp only[cn] at this;omega) (by have:=c2.lden;simp only[cn] at this;omega);have m_:=zh (ak r2.q.num.natAbs) (ak r1.q.den) (ar _) (ar _) (by have:=c2.lnum;simp only[cn] at this;omega) (by have:=c1.lden;simp only[cn] at this;omega)
 have Wz:=zh (ak r1.q.den) (ak r2.q.den) (ar _) (ar _) (by have:=c1.lden;simp only[cn] at this;omega) (by have:=c2.lden;simp only[cn] at this;omega);have xM:=cC (aP b1.1 b2.2);have qZ:=cC (aP b2.1 b1.2);have WL:=cC (aP b1.2 b2.2);have pe:=D' (m:=2000000000) (aP b1.1 b2.2) (aP b2.1 b1.2) (by decide) (by decide);rw[ao,ao] at pB m_ Wz;rw[bt] at ha hb;unfold Raw.v at ha hb ⊢;rw[dE] at pB m_ Wz;rw[dE,dE] at ha hb;rw[hq];obtain⟨x,hx⟩:=ax (r1.q.num.natAbs*r2.q.den);obtain⟨y,hy⟩:=ax (r2.q.num.natAbs*r1.q.den);obtain⟨z,hz⟩:=ax (r1.q.den*r2.q.den);rw[hx] at pB xM pe;rw[hy] at m_ qZ pe;rw[hz] at Wz WL iS;rw[hx,hy,hz];obtain⟨s,hs⟩:=ax (decide (r1.q.num<0));obtain⟨t,ht⟩:=ax (decide (r2.q.num<0));rw[hs] at ha;rw[ht] at hb;rw[hs,ht]
 refine dq Tryz.func67 65 0 ?_;refine aW ?_;refine dw (by kernel_rfl) ?_;refine aN ?_;refine aM ha ?_;refine aN ?_;refine aM hb ?_;refine aN ?_;refine dw (by kernel_rfl) ?_;refine aN ?_;refine aM pB ?_;refine aN ?_;refine aM m_ ?_;refine aN ?_;refine aM Wz ?_;by_cases ck:s=t
 .have hb:(s==t)=true:=by rw[ck];exact beq_self_eq_true _
  have Td:=Yf (ak x) (ak y) (ar _) (ar _) (by omega) (by omega);rw[ao,ao,dE] at Td;have yT:=zi s (ak (x+y)) (ak z) (ar _) (ar _) (by omega) (by omega) (by rw[ao];exact iS);rw[ao,ao,<-D8 ck iS,bt] at yT;rw[bt];refine ae hb ?_;refine dw (by kernel_rfl) ?_;refine aN ?_;refine aM Td ?_;refine aN ?_;refine aM yT ?_;refine aN ?_;refine a_ rfl
 have hb:(s==t)=false:=by rw[qx];exact ck
 by_cases aL:x<y
 .have P3:=UF (ak x) (ak y) (ar _) (ar _) (by omega) (by omega) (by rw[ao,ao];exact aL);have agr:=Yh (ak y) (ak x) (ar _) (ar _) (by omega) (by omega) (by rw[ao,ao];omega);rw[ao,ao,dE] at agr;have kv:=cM (Nat.sub_le y x);have yT:=zi t (ak (y - x)) (ak z) (ar _) (ar _) (by omega) (by omega) (by rw[ao];exact iS);rw[ao,ao,<-vU ck aL iS,bt] at yT;rw[bt];have sW:((1:Int)==0)=false:=rfl;refine ae hb ?_;refine aM P3 ?_;refine ae sW ?_;refine aM agr ?_;refine aN ?_;refine aM yT ?_;refine aN ?_;refine a_ rfl
 have P3:=Yh (ak x) (ak y) (ar _) (ar _) (by omega) (by omega) (by rw[ao,ao];omega);rw[ao,ao,dE] at P3;have kv:=cM (Nat.sub_le x y);have yT:=zi s (ak (x - y)) (ak z) (ar _) (ar _) (by omega) (by omega) (by rw[ao];exact iS);rw[ao,ao,<-vV ck aL iS,bt] at yT;rw[bt];have Is:((0:Int)==0)=true:=rfl;refine ae hb ?_;refine aM P3 ?_;refine ae Is ?_;refine aM yT ?_;refine aN ?_;refine a_ rfl
theorem aep (r1 r2:Raw) (ib:r1.Ok 1000000000) (iM:r2.Ok 1000000000):Den Tryz.prog 64 [] [r1.v,r2.v] [] (FR (r1.q - r2.q)):=by
 have pn:=Yj r2 (iM.mono (by decide));have b2:=iM.bd (by decide);have Te:=QD r1 (cn (-r2.q)) ib (bj b2.neg);rw[cu,<-Rat.sub_eq_add_neg] at Te;change Den Tryz.prog 67 [] [r1.v,FR (-r2.q)] [] _ at Te;rw[bt] at pn;rw[bt,bt] at Te;rw[bt];unfold Raw.v at pn Te ⊢;refine dq Tryz.func64 7 0 ?_;refine aW ?_;refine dw (by kernel_rfl) ?_;refine aN ?_;refine aM pn ?_;refine aN ?_;refine aM Te ?_;refine aN ?_;refine a_ rfl
theorem Yk (r1 r2:Raw) (ib:r1.Ok 1000000000) (iM:r2.Ok 1000000000):Den Tryz.prog 21 [] [r1.v,r2.v] [] (.int .i64 (fQ (r1.q - r2.q))):=by
 have b1:=ib.bd (by decide);have b2:=iM.bd (by decide);have WM:=aep r1 r2 ib iM;have jh:=mc (cn (r1.q - r2.q)) ((bj (b1.sub b2 (by decide))).mono (by decide));rw[cu] at jh;change Den Tryz.prog 63 [] [FR (r1.q - r2.q)] [] _ at jh;rw[bt] at WM jh;unfold Raw.v at WM ⊢;refine dq Tryz.func21 7 0 ?_;refine aW ?_;refine aM WM ?_;refine aN ?_;refine aM jh ?_;refine aN ?_;refine a_ ?_;exact Ih
theorem iy (n:Int) (hn: -9223372036854775808<=n/\n<9223372036854775808):Den Tryz.prog 32 [] [.int .i64 n] [] (FR (n:Rat)):=by
 have l1:ak 1=[1]:=nB (l:=[1]) (fun d hd=>by simp at hd;subst hd;decide) (Or.inr (by decide));have akQ:((n:Int):Rat).num=n:=rfl;have cA:((n:Int):Rat).den=1:=rfl;rw[bt,akQ,cA];unfold N;rw[l1];refine dq Tryz.func32 28 0 ?_;refine aW ?_;refine bM ?_ ?_
 .intro h1 h2;obtain⟨k,hk⟩: ∃ k:Nat,n=(k:Int):=⟨n.toNat,by omega⟩;have WN:=Yg k (by omega);rw[<-hk,dE] at WN;rw[jI (show¬n<0 by omega),show n.natAbs=k by omega];refine ae h2 ?_;refine aM WN ?_;refine aN ?_;refine a_ rfl
 intro h1 h2;obtain⟨k,hk⟩: ∃ k:Nat,n= -((k:Int)+1):=⟨(-n - 1).toNat,by omega⟩;have WN:=Yg k (by omega);have pL:(ak k).length<=2:=aI (Nat.lt_of_lt_of_le (show k<18446744073709551616 by omega) (by decide));have Td:=Yf (ak k) [1] (ar _) (Dig.mk (by decide) Dig.nil) (by omega) (by simp);have hv1:val [1]=1:=rfl;rw[ao,hv1,dE] at Td;rw[dE] at WN;rw[f3 (show n<0 by omega),show n.natAbs=k+1 by omega];have e1:0 - (n+1)=(k:Int):=by omega
 refine ae (aB h2 e1) ?_;refine aM WN ?_;refine aN ?_;refine gp Td ?_ ?_
 .rfl
 refine aN ?_;refine a_ rfl
def xg (r1 r2:Raw):Bool:=r1.neg==r2.neg&&(r1.num==r2.num&&r1.den==r2.den)
theorem QE (p q:Rat):xg (cn p) (cn q)=decide (p=q):=by
 by_cases h:p=q
 .subst h;simp[xg]
 rw[jI h];rcases hb:xg (cn p) (cn q) with _ | _
 .rfl
 exfalso;simp only[xg,BP,beq_iff_eq] at hb;apply h;rw[<-cu p,<-cu q];unfold Raw.q;rw[hb.1,hb.2.1,hb.2.2]
theorem QF (r1 r2:Raw) (ib:r1.Ok 5000000000) (iM:r2.Ok 5000000000):Den Tryz.prog 62 [] [r1.v,r2.v] [] (.bool (xg r1 r2)):=by
 have h1:=Ye r1.num r2.num (by have:=ib.lnum;omega) (by have:=iM.lnum;omega);have h2:=Ye r1.den r2.den (by have:=ib.lden;omega) (by have:=iM.lden;omega);unfold Raw.v xg;obtain⟨b1,dX⟩:=ax ((r1.num==r2.num));obtain⟨b2,eI⟩:=ax ((r1.den==r2.den));obtain⟨b0,IZ⟩:=ax ((r1.neg==r2.neg));rw[dX] at h1;rw[eI] at h2;rw[IZ,dX,eI];cases b0
 .refine dq Tryz.func62 22 0 ?_;refine bw IZ ?_;refine a_ rfl
 cases b1
 .refine dq Tryz.func62 22 0 ?_;refine bw IZ ?_;refine aM h1 ?_;refine aN ?_;refine a_ rfl
 refine dq Tryz.func62 22 0 ?_;refine bw IZ ?_;refine aM h1 ?_;refine aN ?_;refine aM h2 ?_;refine aN ?_;refine a_ rfl
theorem FZ (p q:Int) (hq:q≠0):g5 (decide (p<0) !=decide (q<0)) p.natAbs q.natAbs=(p:Rat) / (q:Rat):=by
 have h:=yz (s:=decide (p<0)) (t:=decide (q<0)) (a:=p.natAbs) (b:=1) (c:=q.natAbs) (d:=1) (by omega) (by decide);rw[Nat.mul_one,Nat.one_mul,D_,D_] at h;exact h.symm
theorem Yl (p q:Int) (hp: -9223372036854775808<=p/\p<9223372036854775808) (hq: -9223372036854775808<=q/\q<9223372036854775808) (h0:q≠0):Den Tryz.prog 111 [] [.int .i64 p,.int .i64 q] [] (.tup [FR ((p:Rat) / (q:Rat)),.int .i64 0]):=by
 have ha:=iy p hp;have hb:=iy q hq;have np:((p:Int):Rat).num=p:=rfl;have nq:((q:Int):Rat).num=q:=rfl;have Wj:(ak p.natAbs).length<=2:=aI (Nat.lt_of_lt_of_le (show p.natAbs<18446744073709551616 by omega) (by decide));have hlq:(ak q.natAbs).length<=2:=aI (Nat.lt_of_lt_of_le (show q.natAbs<18446744073709551616 by omega) (by decide));have yT:=zi (decide (p<0) !=decide (q<0)) (ak p.natAbs) (ak q.natAbs) (ar _) (ar _) (by omega) (by omega) (by rw[ao];omega);rw[ao,ao,FZ p q h0] at yT;rw[bt] at ha hb yT ⊢;rw[np,dE] at ha;rw[nq,dE] at hb;have hz:(q==0)=false:=by rw[qx];exact h0
 refine dq Tryz.func111 23 0 ?_;refine bw hz ?_;refine aM ha ?_;refine aN ?_;refine aM hb ?_;refine aN ?_;refine aM yT ?_;refine aN ?_;refine a_ rfl
end Go.Proofs.YtjjbkjgifdhlcaaGreat
namespace Go.Pl
open Go.AM
def Raw.c (r:Raw):List PV:=[.bool r.neg,.fv (.sl (u32s r.num)),.fv (.sl (u32s r.den))]
def Raw.f (r:Raw):List FV:=[.lit (.bool r.neg),.sl (u32s r.num),.sl (u32s r.den)]
def flat:List Raw->List PV
 | []=>[]
 | r::rs=> .bool r.neg:: .fv (.sl (u32s r.num)):: .fv (.sl (u32s r.den))::flat rs
def cx:List Raw->List FV
 | []=>[]
 | r::rs=> .lit (.bool r.neg):: .sl (u32s r.num):: .sl (u32s r.den)::cx rs
def rz:Raw:=⟨false,[],[]⟩
theorem ah: ∀ rs:List Raw,(flat rs).length=3*rs.length
 | []=>rfl
 | r::rs=>by simp only[flat,length_cons,ah rs];omega
theorem vW: ∀ (i:Nat) (rs:List Raw),(flat rs).drop (i*3)=flat (rs.drop i)
 | 0,rs=>by simp
 | i+1,[]=>by simp[flat]
 | i+1,r::rs=>by
  rw[Nat.add_mul,Nat.one_mul];show List.drop (i*3+2+1) _=_;simp only[flat,drop_succ_cons];exact vW i rs
theorem rh: ∀ (i:Nat) (rs:List Raw),(flat rs).take (i*3)=flat (rs.take i)
 | 0,rs=>by simp[flat]
 | i+1,[]=>by simp[flat]
 | i+1,r::rs=>by
  rw[Nat.add_mul,Nat.one_mul];show List.take (i*3+2+1) _=_;simp only[flat,take_succ_cons];rw[rh i rs]
theorem xh: ∀ (a b:List Raw),flat (a++b)=flat a++flat b
 | [],_=>rfl
 | r::a,b=>by simp[flat,xh a b]
theorem b_ {rs:List Raw} {i:Nat} (h:i<rs.length):List.take 3 (List.drop (i*3) (flat rs))=[.bool (rs.getD i rz).neg,.fv (.sl (u32s (rs.getD i rz).num)),.fv (.sl (u32s (rs.getD i rz).den))]:=by
 rw[vW,drop_eq_getElem_cons h];simp only[flat,take_succ_cons,List.take_zero];rw[qa,qb h];rfl
theorem er {rs:List Raw} {i:Nat} (h:i<rs.length) (s:Bool) (a b:List Nat):
 List.take (i*3) (flat rs)++[.bool s,.fv (.sl (u32s a)),.fv (.sl (u32s b))]++List.drop (i*3+3) (flat rs)=flat (rs.set i ⟨s,a,b⟩):=by
 have e:i*3+3=(i+1)*3:=by omega
 rw[e,vW,rh,List.set_eq_take_append_cons_drop,if_pos h,xh]
 simp[flat]
theorem jK (H:List Ob): ∀ rs:List Raw,l6 H (flat rs)=some (cx rs)
 | []=>rfl
 | r::rs=>by
  simp only[flat,l6,dZ,jK H rs,cx]
theorem uu: ∀ rs:List Raw,d4 3 rs.length (cx rs)=rs.map Raw.f
 | []=>rfl
 | r::rs=>by
  simp only[cx,length_cons,d4,take_succ_cons,List.take_zero,drop_succ_cons,List.drop_zero,map_cons];rw[uu rs];rfl
def f4 (g:Raw->Raw) (i:Nat) (rs:List Raw):List Raw:=(rs.take i).map g++rs.drop i
theorem uv (g:Raw->Raw) (i:Nat) (rs:List Raw):(f4 g i rs).length=rs.length:=by
 unfold f4;rw[qe,length_map,length_take,qt];omega
theorem Ji (g:Raw->Raw) (rs:List Raw):f4 g 0 rs=rs:=by simp[f4]
theorem Cy (g:Raw->Raw) {n:Nat} (rs:List Raw) (h:rs.length=n):f4 g n rs=rs.map g:=by
 subst h;simp[f4]
theorem oB (g:Raw->Raw) {i j:Nat} (rs:List Raw) (h:j<rs.length) (hi:i<=j):(f4 g i rs).getD j rz=rs.getD j rz:=by
 unfold f4;rw[qa,qh (by rw[length_map,length_take];omega),List.getElem?_drop,qa];congr 2;rw[length_map,length_take];omega
theorem ri (g:Raw->Raw) {i:Nat} (rs:List Raw) (h:i<rs.length):(f4 g i rs).set i (g (rs.getD i rz))=f4 g (i+1) rs:=by
 unfold f4;rw[List.set_append_right _ _ (by rw[length_map,length_take];omega)];have e:i - ((rs.take i).map g).length=0:=by rw[length_map,length_take];omega
 rw[e,drop_eq_getElem_cons h,List.set_cons_zero,take_succ_eq_append_getElem h,tY];simp[qa,h]
def RL (rs:List Raw):PV:= .agg (flat rs)
def FL (qs:List Rat):PV:=RL (qs.map cn)
structure LOk (k:Nat) (rs:List Raw):Prop where
 len:rs.length=9
 ok: ∀ r∈rs,r.Ok k
theorem LOk.at {k:Nat} {rs:List Raw} (h:LOk k rs) (i:Nat):(rs.getD i rz).Ok k:=by
 by_cases hi:i<rs.length
 .rw[qa,qb hi];exact h.ok _ (lY hi)
 rw[qa,getElem?_eq_none (by omega)];exact⟨Dig.nil,Dig.nil,dk _,dk _⟩
theorem LOk.mono {j k:Nat} {rs:List Raw} (h:LOk j rs) (hk:j<=k):LOk k rs:=⟨h.len,fun r hr=>(h.ok r hr).mono hk⟩
theorem LOk.map {k:Nat} {rs:List Raw} {g:Raw->Rat} (h:rs.length=9) (hg: ∀ r∈rs,Bd k (g r)):LOk k ((rs.map g).map cn):=
 ⟨by simp[h],fun r hr=>by
  simp only[mem_map] at hr;obtain⟨q,⟨r',hr',rfl⟩,rfl⟩:=hr;exact bj (hg r' hr')⟩
end Go.Pl
namespace Go.Proofs.YtjjbkjgifdhlcaaGreat
open Go.AM Go.Pl
theorem iX: ∀ rs:List Raw,(cx rs).map PV.fv=flat rs
 | []=>rfl
 | r::rs=>by simp only[cx,flat,map_cons,iX rs]
theorem lh: ∀ rs:List Raw,(flat rs).flatMap fN=[]
 | []=>rfl
 | r::rs=>by simp only[flat,List.flatMap_cons,fN,nil_append,lh rs]
theorem js (f:Nat->Nat): ∀ rs:List Raw,(flat rs).map (reloc1 f)=flat rs
 | []=>rfl
 | r::rs=>by simp only[flat,map_cons,reloc1,js f rs]
theorem nG (H:List Ob) (keep:List Nat): ∀ rs:List Raw,vn H keep (flat rs)=some (flat rs)
 | []=>rfl
 | r::rs=>by simp only[flat,vn,vm,eo,dZ,Option.map_some,nG H keep rs]
theorem aj {rs:List Raw} (h:rs.length=9):List.take 27 (flat rs)=flat rs:=
 dm (by rw[ah];omega)
theorem ec (ids:List Nat): ∀ rs:List Raw,dL ids (flat rs) (flat rs)
 | []=>by simp[flat,dL]
 | r::rs=>by simp[flat,dL,cw,ec ids rs]
def Ym:Option (List FV)->Option (List FV)
 | some x=>some [.fp x]
 | none=>none
def QG:Option Ob->Option (List PV)
 | some (.box _ cs)=>some cs
 | _=>none
theorem nH (H:List Ob):s4 H []=some []:=rfl
theorem pU (H:List Ob) (id:Nat):s4 H [.ptr id 0 0]=match QG (H[id]?) with | some cs=>Ym (l6 H cs) | none=>none:=by
 simp only[s4,eo];cases h:H[id]? with
 | none=>rfl
 | some o=>cases o with
  | box w cs=>
   simp only[QG];cases l6 H cs<;>rfl
  | row w xs=>rfl
  | dead=>rfl
  | tab n es=>rfl
theorem nI (w:Bool) (cs:List PV):QG (some (.box w cs))=some cs:=rfl
theorem lj (x:List FV):Ym (some x)=some [.fp x]:=rfl
def BR (rs:List Raw) (v:Nat):List PV:=List.take (v*3) (flat rs)++[.bool false,.nilsl,.nilsl]++List.drop (v*3+3) (flat rs)
theorem Cz (r:Raw) (rs:List Raw) (v:Nat):BR (r::rs) (v+1)= .bool r.neg:: .fv (.sl (u32s r.num)):: .fv (.sl (u32s r.den))::BR rs v:=by
 unfold BR;have e1:(v+1)*3=v*3+2+1:=by omega
 have e2:(v+1)*3+3=(v*3+3)+2+1:=by omega
 rw[e2,e1];simp only[flat,take_succ_cons,drop_succ_cons,List.cons_append]
theorem F1 (H:List Ob): ∀ (v:Nat) (rs:List Raw),v<rs.length->l6 H (BR rs v)=some (cx (rs.set v rz))
 | 0,r::rs,_=>by
  have h:=jK H rs;simp[BR,flat,cx,l6,dZ,h,rz,u32s]
 | v+1,r::rs,h=>by
  rw[Cz];have h2:=F1 H v rs (by simpa using h);simp only[l6,dZ,h2,List.set_cons_succ,cx]
 | _,[],h=>by simp at h
theorem F2: ∀ (v:Nat) (rs:List Raw),v<rs.length->(BR rs v).flatMap fN=[]
 | 0,r::rs,_=>by
  have h:=lh rs;simp only[BR,flat,Nat.zero_mul,List.take_zero,nil_append,Nat.zero_add,drop_succ_cons,List.drop_zero,List.cons_append,List.flatMap_cons,fN,h]
 | v+1,r::rs,h=>by
  rw[Cz];have h2:=F2 v rs (by simpa using h);simp only[List.flatMap_cons,fN,h2,nil_append]
 | _,[],h=>by simp at h
theorem F3 {rs:List Raw} {v:Nat} (h:v<rs.length) (hl:rs.length=9):(BR rs v).length=27:=by
 have:=ah rs;unfold BR;simp only[qe,length_take,qt,length_cons,length_nil];omega
def ic:Nat->List PV
 | 0=>[]
 | n+1=> .bool false:: .nilsl:: .nilsl::ic n
theorem jS:List.drop 27 (ic 9)=[]:=rfl
theorem g6:(ic 9).length=27:=rfl
abbrev zu:=qy @lh (qy @js (qy @jK (qy @jS (qy @g6 (qy @nH (qy @pU (qy @nI (qy @lj (@append_nil.{0})))))))))
theorem CA (ids:List Nat): ∀ n,dL ids (ic n) (ic n)
 | 0=>by simp[ic,dL]
 | n+1=>by simp[ic,dL,cw,CA ids n]
theorem RetOK.form {st:St} {a id:Nat} {w:Bool} {rs:List Raw} (ha:st.get a= .ptr id 0 0) (hb:st.heap[id]?=some (.box w (flat rs))) (hl:rs.length=9):RetOK tab [.cell a 30] 0 st [] (RL rs):=by
 refine O7 (vs:=[.agg (flat rs)]) (cd:=(0=0/\0+27<=(flat rs).length)/\True) ?_ ⟨⟨rfl,by rw[ah];omega⟩,cK⟩ ?_
 .simp[gW,xI,ha,Qh,iU,hb,kG,aj hl,TyI.isAgg]
 simp[cY,t6,yO,nG,RL]
theorem RetOK.form2 {st:St} {a id x:Nat} {w:Bool} {rs:List Raw} {v:FV} (ha:st.get a= .ptr id 0 0) (hb:st.heap[id]?=some (.box w (flat rs))) (hl:rs.length=9) (hx:st.get x= .fv v):
 RetOK tab [.cell a 30,.tmp x] 0 st [] (.tup [RL rs,.fv v]):=by
 refine O7 (vs:=[.agg (flat rs),.fv v]) (cd:=(0=0/\0+27<=(flat rs).length)/\True/\True) ?_ ⟨⟨rfl,by rw[ah];omega⟩,cK,cK⟩ ?_
 .simp[gW,xI,ha,Qh,iU,hb,kG,aj hl,TyI.isAgg,hx]
 simp[cY,t6,yi,yO,nG,RL,vm,eo,dZ]
theorem RetOK.form3 {st:St} {a id x y:Nat} {w:Bool} {rs:List Raw} {v u:FV} (ha:st.get a= .ptr id 0 0) (hb:st.heap[id]?=some (.box w (flat rs))) (hl:rs.length=9) (hx:st.get x= .fv v) (hy:st.get y= .fv u):
 RetOK tab [.cell a 30,.tmp x,.tmp y] 0 st [] (.tup [RL rs,.fv v,.fv u]):=by
 refine O7 (vs:=[.agg (flat rs),.fv v,.fv u]) (cd:=(0=0/\0+27<=(flat rs).length)/\True/\True/\True) ?_ ⟨⟨rfl,by rw[ah];omega⟩,cK,cK,cK⟩ ?_
 .simp[gW,xI,ha,Qh,iU,hb,kG,aj hl,TyI.isAgg,hx,hy]
 simp[cY,t6,yi,yO,nG,RL,vm,eo,dZ]
set_option maxRecDepth 100000
set_option maxHeartbeats 2000000
theorem xi (r:Raw):Den Tryz.prog 104 [] [r.v] [] (.bool ((r.num.length:Int)==0)):=by
 unfold Raw.v;refine dq Tryz.func104 6 0 ?_;refine aW ?_;refine a_ rfl
theorem pV {r:Raw} (h:(r.num.length:Int)=0):r.q=0:=by
 have:r.num=[]:=List.length_eq_zero_iff.1 (by omega);unfold Raw.q;rw[this];exact nD rfl
theorem Lw (rs:List Raw) (c:Raw) (fj:LOk 2000000000 rs) (hc:c.Ok 2000000000):Den Tryz.prog 108 [] [RL rs,c.v] [] (FL (rs.map (fun r=>r.q*c.q))):=by
 have aF:=fj.len;have nt:=ah rs;have jN:=iy 0 (by decide);rw[show((0:Int):Rat)=0 from rfl,bt,bQ,bQ] at jN;obtain⟨g,hg⟩: ∃ g:Raw->Raw,g=fun r=>cn (r.q*c.q):=⟨_,rfl⟩
 have hgm:(rs.map (fun r=>r.q*c.q)).map cn=rs.map g:=by rw[hg,List.map_map];rfl
 unfold FL RL Raw.v;rw[hgm];refine dq Tryz.func108 32 0 ?_;refine aW ?_;refine⟨by omega,?_⟩;refine wl (α:=Nat) (fun i=>⟨[.any,.any,.ptr 0 0 0,.ptr 1 0 0,.ptr 2 0 0,.int .i64 i]++replicate 28 .any,[.box true (flat (f4 g i rs)),.box true [.bool c.neg,.fv (.sl (u32s c.num)),.fv (.sl (u32s c.den))],.box true (ic 9)]⟩)
  (fun i=>8 - i) (fun i=>i<=8) 0 ?_ ?_ ?_
 .exact ou [0,1,2]
 .exact dk _
 rintro i hi;have jM:=uv g i rs;have hfm:=ah (f4 g i rs);refine aW ?_;refine bM ?_ ?_
 .intro h1 h2;have dS:=b_ (rs:=f4 g i rs) (i:=i) (by omega);rw[oB g rs (by omega) (qp _)] at dS;have ck:=ri g rs (i:=i) (by omega);obtain⟨r,hr⟩:=ax (rs.getD i rz);have bF:r.Ok 2000000000:=by rw[<-hr];exact fj.at i
  rw[hr] at dS ck;have I4:=xi r;unfold Raw.v at I4;refine ae (aB h2 dS) ?_;refine⟨by omega,by omega,?_⟩;refine aM I4 ?_;refine aN ?_;refine Br.beqInt ?_ ?_
  .intro h3 h4;have bn:=er (rs:=f4 g i rs) (i:=i) (by omega) (decide ((0:Rat).num<0)) (ak (0:Rat).num.natAbs) (ak (0:Rat).den);have Bj:g r=⟨decide ((0:Rat).num<0),ak (0:Rat).num.natAbs,ak (0:Rat).den⟩:=by
    rw[hg];dsimp only;rw[pV h3,Rat.zero_mul];rfl
   rw[<-Bj,ck] at bn;refine ae h4 ?_;refine aM jN ?_;refine ae (aB bn @append_nil.{0}) ?_
   repeat refine ag ?_
   refine aA (i+1) ?_ (by omega);exact ou [0,1,2]
  intro h3 h4;have Fw:=Lv r c bF hc;have Bj:g r=⟨decide ((r.q*c.q).num<0),ak (r.q*c.q).num.natAbs,ak (r.q*c.q).den⟩:=by
   rw[hg];rfl
  have bn:=er (rs:=f4 g i rs) (i:=i) (by omega) (decide ((r.q*c.q).num<0)) (ak (r.q*c.q).num.natAbs) (ak (r.q*c.q).den);rw[<-Bj,ck] at bn;rw[bt,bQ,bQ] at Fw;unfold Raw.v at Fw;refine ae h4 ?_;refine dw (by kernel_rfl) ?_;refine ae dS ?_
  repeat refine ag ?_
  refine aM Fw ?_;refine ae (aB bn @append_nil.{0}) ?_
  repeat refine ag ?_
  refine aA (i+1) ?_ (by omega);exact ou [0,1,2]
 intro h1 h2;have pC:i=8:=by omega
 subst pC;have dS:=b_ (rs:=f4 g 8 rs) (i:=8) (by omega);rw[oB g rs (by omega) (qp _)] at dS;have ck:=ri g rs (i:=8) (by omega);have pO:=Cy g rs aF;obtain⟨r,hr⟩:=ax (rs.getD 8 rz);have bF:r.Ok 2000000000:=by rw[<-hr];exact fj.at 8
 rw[hr] at dS ck;have Fw:=Lv r c bF hc;have Bj:g r=⟨decide ((r.q*c.q).num<0),ak (r.q*c.q).num.natAbs,ak (r.q*c.q).den⟩:=by
  rw[hg];rfl
 have bn:=er (rs:=f4 g 8 rs) (i:=8) (by omega) (decide ((r.q*c.q).num<0)) (ak (r.q*c.q).num.natAbs) (ak (r.q*c.q).den);rw[<-Bj,ck,pO] at bn;rw[bt,bQ,bQ] at Fw;unfold Raw.v at Fw;simp only[reduceMul,reduceAdd] at dS bn;have xN:(rs.map g).length=9:=by simp[aF]
 have k7:(flat (rs.map g)).length=27:=by rw[ah];omega
 have ht:=aj xN;refine ae (aB h2 dS) ?_
 repeat refine ag ?_
 refine aM Fw ?_;refine bm (bA bn ht k7) ?_
 repeat refine ag ?_
 exact RetOK.form rfl rfl xN
theorem QH (rs:List Raw) (fj:LOk 2000000000 rs):Den Tryz.prog 191 [] [RL rs] [] (FL (rs.map Raw.q)):=by
 have aF:=fj.len;have nt:=ah rs;have jN:=iy 0 (by decide);rw[show((0:Int):Rat)=0 from rfl,bt,bQ,bQ] at jN;obtain⟨g,hg⟩: ∃ g:Raw->Raw,g=fun r=>cn r.q:=⟨_,rfl⟩
 have hgm:(rs.map Raw.q).map cn=rs.map g:=by rw[hg,List.map_map];rfl
 unfold FL RL;rw[hgm];refine dq Tryz.func191 29 0 ?_;refine aW ?_;refine⟨by omega,?_⟩;refine wl (α:=Nat) (fun i=>⟨[.any,.ptr 0 0 0,.ptr 1 0 0,.int .i64 i]++replicate 26 .any,[.box true (flat (f4 g i rs)),.box true (ic 9)]⟩)
  (fun i=>8 - i) (fun i=>i<=8) 0 ?_ ?_ ?_
 .exact ou [0,1]
 .exact dk _
 rintro i hi;have jM:=uv g i rs;have hfm:=ah (f4 g i rs);refine aW ?_;refine bM ?_ ?_
 .intro h1 h2;have dS:=b_ (rs:=f4 g i rs) (i:=i) (by omega);rw[oB g rs (by omega) (qp _)] at dS;have ck:=ri g rs (i:=i) (by omega);obtain⟨r,hr⟩:=ax (rs.getD i rz);have bF:r.Ok 2000000000:=by rw[<-hr];exact fj.at i
  rw[hr] at dS ck;have I4:=xi r;unfold Raw.v at I4;refine ae (aB h2 dS) ?_;refine⟨by omega,by omega,?_⟩;refine aM I4 ?_;refine aN ?_;refine Br.beqInt ?_ ?_
  .intro h3 h4;have bn:=er (rs:=f4 g i rs) (i:=i) (by omega) (decide ((0:Rat).num<0)) (ak (0:Rat).num.natAbs) (ak (0:Rat).den);have Bj:g r=⟨decide ((0:Rat).num<0),ak (0:Rat).num.natAbs,ak (0:Rat).den⟩:=by
    rw[hg];dsimp only;rw[pV h3];rfl
   rw[<-Bj,ck] at bn;refine ae h4 ?_;refine aM jN ?_;refine ae (aB bn @append_nil.{0}) ?_
   repeat refine ag ?_
   refine aA (i+1) ?_ (by omega);exact ou [0,1]
  intro h3 h4;have mJ:=mb r (bF.mono (by decide));have Bj:g r=⟨decide (r.q.num<0),ak r.q.num.natAbs,ak r.q.den⟩:=by
   rw[hg];rfl
  have bn:=er (rs:=f4 g i rs) (i:=i) (by omega) (decide (r.q.num<0)) (ak r.q.num.natAbs) (ak r.q.den);rw[<-Bj,ck] at bn;rw[bt,bQ,bQ] at mJ;unfold Raw.v at mJ;refine ae (aB h4 dS) ?_
  repeat refine ag ?_
  refine aM mJ ?_;refine ae (aB bn @append_nil.{0}) ?_
  repeat refine ag ?_
  refine aA (i+1) ?_ (by omega);exact ou [0,1]
 intro h1 h2;have pC:i=8:=by omega
 subst pC;have dS:=b_ (rs:=f4 g 8 rs) (i:=8) (by omega);rw[oB g rs (by omega) (qp _)] at dS;have ck:=ri g rs (i:=8) (by omega);have pO:=Cy g rs aF;obtain⟨r,hr⟩:=ax (rs.getD 8 rz);have bF:r.Ok 2000000000:=by rw[<-hr];exact fj.at 8
 rw[hr] at dS ck;have mJ:=mb r (bF.mono (by decide));have Bj:g r=⟨decide (r.q.num<0),ak r.q.num.natAbs,ak r.q.den⟩:=by
  rw[hg];rfl
 have bn:=er (rs:=f4 g 8 rs) (i:=8) (by omega) (decide (r.q.num<0)) (ak r.q.num.natAbs) (ak r.q.den);rw[<-Bj,ck,pO] at bn;rw[bt,bQ,bQ] at mJ;unfold Raw.v at mJ;simp only[reduceMul,reduceAdd] at dS bn;have xN:(rs.map g).length=9:=by simp[aF]
 have k7:(flat (rs.map g)).length=27:=by rw[ah];omega
 have ht:=aj xN;refine ae (aB h2 dS) ?_
 repeat refine ag ?_
 refine aM mJ ?_;refine bm (bA bn ht k7) ?_
 repeat refine ag ?_
 exact RetOK.form rfl rfl xN
theorem rz_ok {k:Nat}:rz.Ok k:=⟨Dig.nil,Dig.nil,dk _,dk _⟩
theorem UG:rz.q=0:=nD rfl
theorem uw {k:Nat}:LOk k (replicate 9 rz):=⟨rfl,fun r hr=>by rw[List.eq_of_mem_replicate hr];exact rz_ok⟩
theorem QI:Den Tryz.prog 154 [] [] [] (FL (replicate 9 0)):=by
 have M8:=QH (replicate 9 rz) uw;have e:(replicate 9 rz).map Raw.q=replicate 9 0:=by rw[List.map_replicate,UG]
 rw[e] at M8;unfold FL RL at M8 ⊢;obtain⟨zs,hz⟩:=ax ((replicate 9 (0:Rat)).map cn);have nu:zs.length=9:=by rw[<-hz];simp
 rw[hz] at M8 ⊢;have k7:(flat zs).length=27:=by rw[ah];omega
 refine dq Tryz.func154 3 0 ?_;refine aW ?_;refine aM M8 ?_;refine bm k7 ?_
 repeat refine ag ?_
 exact RetOK.form rfl rfl nu
end Go.Proofs.YtjjbkjgifdhlcaaGreat
namespace Go.Pl
open Go.AM
def bU:List Raw->Raw
 | []=>rz
 | [c]=>c
 | r::s::t=>if r.q=0 then bU (s::t) else r
theorem zj {rs:List Raw} {i:Nat} (h:i+1<rs.length):bU (rs.drop i)=if(rs.getD i rz).q=0 then bU (rs.drop (i+1)) else rs.getD i rz:=by
 have h1:rs.drop i=rs.getD i rz::rs.drop (i+1):=by
  rw[drop_eq_getElem_cons (by omega)];rw[qa,qb (by omega)];rfl
 have h2:rs.drop (i+1)=rs[i+1]::rs.drop (i+2):=drop_eq_getElem_cons h;rw[h1,h2];rfl
theorem zk {rs:List Raw} {i:Nat} (h:i+1=rs.length):bU (rs.drop i)=rs.getD i rz:=by
 have h1:rs.drop i=rs.getD i rz::rs.drop (i+1):=by
  rw[drop_eq_getElem_cons (by omega)];rw[qa,qb (by omega)];rfl
 have h2:rs.drop (i+1)=[]:=List.drop_of_length_le (by omega);rw[h1,h2];rfl
theorem oC: ∀ {rs:List Raw},(bU rs).q=0-> ∀ r∈rs,r.q=0
 | [],_,r,hr=>by simp at hr
 | [c],h,r,hr=>by
  simp at hr;subst hr;exact h
 | a::s::t,h,r,hr=>by
  unfold bU at h;split at h
  .rename_i h0;rcases List.mem_cons.1 hr with h1 | h1
   .subst h1;exact h0
   exact oC h r h1
  rename_i h0;exact absurd h h0
theorem rj: ∀ {rs:List Raw},rs≠[]->bU rs∈rs
 | [],h=>absurd rfl h
 | [c],_=>by simp[bU]
 | a::s::t,_=>by
  unfold bU;split
  .exact ql _ (rj (by simp))
  simp
theorem a9 {q:Rat}:fQ q=0↔q=0:=by
 unfold fQ;rw[Int.sign_eq_zero_iff_zero];exact Rat.num_eq_zero
theorem Lx:rz.q=0:=nD rfl
def d9 (c:Rat):Rat:=if c.num<0 then -c else c
def Ny (rs:List Raw):List Rat:=if(bU rs).q=0 then replicate 9 0 else rs.map (fun r=>r.q / d9 (bU rs).q)
theorem rr {c:Rat} (h:c≠0):d9 c≠0:=by
 unfold d9;split
 .intro h1;apply h;grind
 exact h
theorem F4 (x c:Rat):x*(1 / c)=x / c:=by grind
theorem nJ {rs:List Raw} (h:(bU rs).q=0):Ny rs=replicate 9 0:=if_pos h
theorem vX {rs:List Raw} (h:(bU rs).q≠0):Ny rs=rs.map (fun r=>r.q / d9 (bU rs).q):=if_neg h
theorem Nz {rs:List Raw} (h:(bU rs).q=0) (hl:rs.length=9):Ny rs=rs.map Raw.q:=by
 rw[nJ h];have h1:rs.map Raw.q=rs.map (fun _=>(0:Rat)):=List.map_congr_left (fun r hr=>oC h r hr);rw[h1,List.map_const',hl]
theorem Ly {c:Rat} (h0:c≠0) (h: ¬c.num<0):fQ c=1:=D9 (fun h1=>h0 (Rat.num_eq_zero.1 (by omega))) h
def jT (g:Raw->Raw) (i:Nat) (rs:List Raw):List Raw:=(rs.take i).map g++replicate (rs.length - i) rz
theorem ux (g:Raw->Raw) {i:Nat} (rs:List Raw) (h:i<=rs.length):(jT g i rs).length=rs.length:=by
 unfold jT;rw[qe,length_map,length_take,qib];omega
theorem CB (g:Raw->Raw) {i:Nat} (rs:List Raw) (h:i<rs.length):(jT g i rs).set i (g (rs.getD i rz))=jT g (i+1) rs:=by
 unfold jT;rw[List.set_append_right _ _ (by rw[length_map,length_take];omega)];have e:i - ((rs.take i).map g).length=0:=by rw[length_map,length_take];omega
 have e2:rs.length - i=(rs.length - (i+1))+1:=by omega
 rw[e,e2,List.replicate_succ,List.set_cons_zero,take_succ_eq_append_getElem h,tY];simp[qa,h]
theorem CD (g:Raw->Raw) {n:Nat} (rs:List Raw) (h:rs.length=n):jT g n rs=rs.map g:=by
 subst h;simp[jT]
theorem zm (g:Raw->Raw) (rs:List Raw):jT g 0 rs=replicate rs.length rz:=by simp[jT]
theorem Jj {rs:List Raw} {i:Nat} (h:i<rs.length):(rs.map Raw.f).getD i []=[FV.lit (Value.bool (rs.getD i rz).neg),FV.sl (u32s (rs.getD i rz).num),FV.sl (u32s (rs.getD i rz).den)]:=by
 simp[qa,h,Raw.f]
theorem Jk {rs:List Raw} {n:Nat} (h:rs.length=n+1):(rs.take n).map Raw.f++[[FV.lit (Value.bool (rs.getD n rz).neg),FV.sl (u32s (rs.getD n rz).num),FV.sl (u32s (rs.getD n rz).den)]]=rs.map Raw.f:=by
 have h1:rs.take (n+1)=rs:=dm (by omega)
 conv=>rhs;rw[<-h1,take_succ_eq_append_getElem (by omega),tY]
 simp[qa,show n<rs.length by omega,Raw.f]
end Go.Pl
namespace Go.Proofs.YtjjbkjgifdhlcaaGreat
open Go.AM Go.Pl
set_option maxRecDepth 100000
set_option maxHeartbeats 2000000
theorem aeq (rs:List Raw) (fj:LOk 2000000000 rs):Den Tryz.prog 273 [] [RL rs] [] (bU rs).v:=by
 have aF:=fj.len;have nt:=ah rs;unfold RL;refine dq Tryz.func273 27 0 ?_;refine aW ?_;refine⟨by omega,?_⟩;refine wl (α:=Nat) (fun i=>⟨[.any,.ptr 0 0 0,.ptr 1 0 0,.int .i64 i]++replicate 24 .any,[.box true (flat rs),.box true [.bool false,.nilsl,.nilsl]]⟩)
  (fun i=>8 - i) (fun i=>i<=8/\bU (rs.drop i)=bU rs) 0 ?_ ?_ ?_
 .exact ou [0,1]
 .exact⟨dk _,rfl⟩
 rintro i ⟨hi,dP⟩;refine aW ?_;refine bM ?_ ?_
 .intro h1 h2;have dS:=b_ (rs:=rs) (i:=i) (by omega);have vH:=zj (rs:=rs) (i:=i) (by omega);obtain⟨r,hr⟩:=ax (rs.getD i rz);have bF:r.Ok 2000000000:=by rw[<-hr];exact fj.at i
  rw[hr] at dS vH;have I4:=xi r;have jh:=mc r (bF.mono (by decide));unfold Raw.v at I4 jh;refine ae (aB h2 dS) ?_;refine⟨by omega,by omega,?_⟩;refine aM I4 ?_;refine aN ?_;by_cases h3:(r.num.length:Int)=0
  .have hb:((r.num.length:Int)==0)=true:=by rw[beq_iff_eq];exact h3
   have eI:(!true)=false:=rfl;rw[if_pos (pV h3)] at vH;refine ae (aB hb eI) ?_;refine aA (i+1) ?_ ⟨by omega,by rw[<-vH,dP]⟩;exact ou [0,1]
  have hb:((r.num.length:Int)==0)=false:=by rw[qx];exact h3
  have eI:(!false)=true:=rfl;refine ae (bA hb eI dS) ?_;refine⟨by omega,by omega,?_⟩;refine aM jh ?_;refine aN ?_;refine Br.bneInt ?_ ?_
  .intro h5 h6;have hq:r.q≠0:=fun h=>h5 (a9.2 h)
   rw[if_neg hq] at vH;rw[<-dP,vH];refine ae (aB h6 dS) ?_
   repeat refine ag ?_
   refine a_ rfl
  intro h5 h6;rw[if_pos (a9.1 h5)] at vH;refine ae h6 ?_;refine aA (i+1) ?_ ⟨by omega,by rw[<-vH,dP]⟩;exact ou [0,1]
 intro h1 h2;have pC:i=8:=by omega
 subst pC;have dS:=b_ (rs:=rs) (i:=8) (by omega);simp only[reduceMul] at dS;have vH:=zk (rs:=rs) (i:=8) (by omega);rw[<-dP,vH];refine ae (aB h2 dS) ?_
 repeat refine ag ?_
 refine a_ rfl
theorem Ea (qs:List Rat) (h:qs.length=9):(flat (qs.map cn)).length=27:=by rw[ah,length_map];omega
theorem F5 {p:List Rat} {i:Nat} (h:i<p.length):(p.map cn).getD i rz=cn (p.getD i 0):=by
 simp[qa,h]
theorem aer (p q:List Rat) (hp:p.length=9) (hq:q.length=9) (bp: ∀ x∈p,Bd 1000000000 x) (bq: ∀ x∈q,Bd 1000000000 x):Den Tryz.prog 151 [] [FL p,FL q] [] (.bool (decide (p=q))):=by
 have Wj:(p.map cn).length=9:=by simp[hp]
 have hlq:(q.map cn).length=9:=by simp[hq]
 have fp:=Ea p hp;have fq:=Ea q hq;have okp: ∀ i,i<9->(cn (p.getD i 0)).Ok 5000000000:=fun i hi=>by
  refine Raw.Ok.mono (bj (bp _ ?_)) (by decide);rw[qa,qb (by omega)];exact lY _
 have okq: ∀ i,i<9->(cn (q.getD i 0)).Ok 5000000000:=fun i hi=>by
  refine Raw.Ok.mono (bj (bq _ ?_)) (by decide);rw[qa,qb (by omega)];exact lY _
 unfold FL RL;refine dq Tryz.func151 23 0 ?_;refine aW ?_;refine⟨by omega,by omega,?_⟩;refine wl (α:=Nat) (fun i=>⟨[.any,.any,.ptr 0 0 0,.ptr 1 0 0,.any,.int .i64 i]++replicate 19 .any,[.box true (flat (p.map cn)),.box true (flat (q.map cn))]⟩)
  (fun i=>8 - i) (fun i=>i<=8/\p.take i=q.take i) 0 ?_ ?_ ?_
 .exact ou [0,1]
 .exact⟨dk _,rfl⟩
 rintro i ⟨hi,wT⟩;have gY:=b_ (rs:=p.map cn) (i:=i) (by omega);have kz:=b_ (rs:=q.map cn) (i:=i) (by omega);rw[F5 (by omega)] at gY kz;have wU:=QF (cn (p.getD i 0)) (cn (q.getD i 0)) (okp i (by omega)) (okq i (by omega));rw[QE] at wU;have eO:p.getD i 0=q.getD i 0->p.take (i+1)=q.take (i+1):=fun h=>by
  rw[take_succ_eq_append_getElem (by omega),take_succ_eq_append_getElem (by omega),wT];simp only[qa,qb (show i<p.length by omega),qb (show i<q.length by omega),Option.getD_some] at h;rw[h]
 have e7:p.getD i 0≠q.getD i 0->p≠q:=fun h h2=>h (by rw[h2])
 obtain⟨x,hx⟩:=ax (cn (p.getD i 0));obtain⟨y,hy⟩:=ax (cn (q.getD i 0));rw[hx] at gY wU;rw[hy] at kz wU;unfold Raw.v at wU;refine aW ?_;refine bM ?_ ?_
 .intro h1 h2;refine ae h2 ?_;refine dw (by kernel_rfl) ?_;refine ae (aB gY kz) ?_
  repeat refine ag ?_
  refine aM wU ?_;by_cases he:p.getD i 0=q.getD i 0
  .have hb:(!decide (p.getD i 0=q.getD i 0))=false:=by rw[f3 he];rfl
   refine ae hb ?_;refine aA (i+1) ?_ ⟨by omega,eO he⟩;exact ou [0,1]
  have hb:(!decide (p.getD i 0=q.getD i 0))=true:=by rw[jI he];rfl
  rw[jI (e7 he)];refine ae hb ?_;refine a_ rfl
 intro h1 h2;have pC:i=8:=by omega
 subst pC;simp only[reduceMul] at gY kz;refine ae (bA h2 gY kz) ?_
 repeat refine ag ?_
 refine aM wU ?_;refine aN ?_;have hd:decide (p=q)=decide (p.getD 8 0=q.getD 8 0):=by
  by_cases he:p.getD 8 0=q.getD 8 0
  .rw[f3 he];have h9:=eO he;rw[dm (by omega),dm (by omega)] at h9;exact f3 h9
  rw[jI he,jI (e7 he)]
 rw[hd];refine a_ rfl
theorem QJ (rs:List Raw) (g:Raw->Rat) (fj:rs.length=9)
 (hf: ∀ r∈rs,Den Tryz.prog 68 [] [r.v] [] (FR (g r))):Den Tryz.prog 133 [] [RL rs,.fv (.lit (.func (.func 68) #[] #[]))] [] (FL (rs.map g)):=by
 have nt:=ah rs
 have aY: ∀ i,i<9->rs.getD i rz∈rs:=fun i hi=>by
  rw[qa,qb (by omega)];exact lY _
 obtain⟨g',kA⟩: ∃ g':Raw->Raw,g'=fun r=>cn (g r):=⟨_,rfl⟩
 have hgm:(rs.map g).map cn=rs.map g':=by rw[kA,List.map_map];rfl
 have WQ:jT g' 0 rs=replicate 9 rz:=by rw[zm,fj]
 unfold FL RL
 rw[hgm]
 refine dq Tryz.func133 26 0 ?_
 refine aW ?_
 refine⟨by omega,?_⟩
 refine wl (α:=Nat) (fun i=>⟨[.any,.fv (.lit (.func (.func 68) #[] #[])),.ptr 0 0 0,.any,.ptr 1 0 0,.ptr 1 0 0,.any,.any,.int .i64 i]++replicate 19 .any,[.box true (flat rs),.box true (flat (jT g' i rs))]⟩)
  (fun i=>8 - i) (fun i=>i<=8) 0 ?_ ?_ ?_
 .refine eH [0,1] ?_ ?_
  .simp[bh,dF,cw]
  simp[d_,fD,dL,cw,ec,WQ,replicate,flat,rz,u32s]
 .exact dk _
 rintro i hi
 have pR:=ux g' rs (i:=i) (by omega)
 have hof:=ah (jT g' i rs)
 have dS:=b_ (rs:=rs) (i:=i) (by omega)
 have ck:=CB g' rs (i:=i) (by omega)
 have cA:=hf _ (aY i (by omega))
 obtain⟨r,hr⟩:=ax (rs.getD i rz)
 rw[hr] at dS ck cA
 have Bj:g' r=⟨decide ((g r).num<0),ak (g r).num.natAbs,ak (g r).den⟩:=by rw[kA];rfl
 have bn:=er (rs:=jT g' i rs) (i:=i) (by omega) (decide ((g r).num<0)) (ak (g r).num.natAbs) (ak (g r).den)
 rw[<-Bj,ck] at bn
 rw[bt,bQ,bQ] at cA
 unfold Raw.v at cA
 refine aW ?_
 refine bM ?_ ?_
 .intro h1 h2
  refine ae h2 ?_
  refine dw (by kernel_rfl) ?_
  refine ae dS ?_
  repeat refine ag ?_
  refine aM cA ?_
  refine ae (aB bn @append_nil.{0}) ?_
  repeat refine ag ?_
  refine aA (i+1) ?_ (by omega)
  exact ou [0,1]
 intro h1 h2
 have pC:i=8:=by omega
 subst pC
 rw[CD g' (n:=8+1) rs fj] at bn
 simp only[reduceMul,reduceAdd] at dS bn
 have xN:(rs.map g').length=9:=by simp[fj]
 have k7:(flat (rs.map g')).length=27:=by rw[ah];omega
 have Tf:List.drop 27 (flat (rs.map g'))=[]:=List.drop_of_length_le (by omega)
 refine ae (aB h2 dS) ?_
 repeat refine ag ?_
 refine aM cA ?_
 simp -dsimp(disch:=omega) only[append_nil,bn,k7,aj xN,Tf,↓reduceIte,reduceAdd,reduceLT,reduceLeDiff,ru]
 repeat refine ag ?_
 exact RetOK.form rfl rfl xN
theorem Jl (rs:List Raw) (k:Nat) (x:FV) (g:Raw->Rat) (fj:rs.length=9)
 (hf: ∀ r∈rs,Den Tryz.prog k [] [r.v,.fv x] [] (FR (g r))):Den Tryz.prog 133 [] [RL rs,.fv (.fn (.func k) [] [x])] [] (FL (rs.map g)):=by
 have nt:=ah rs
 have aY: ∀ i,i<9->rs.getD i rz∈rs:=fun i hi=>by
  rw[qa,qb (by omega)];exact lY _
 obtain⟨g',kA⟩: ∃ g':Raw->Raw,g'=fun r=>cn (g r):=⟨_,rfl⟩
 have hgm:(rs.map g).map cn=rs.map g':=by rw[kA,List.map_map];rfl
 have WQ:jT g' 0 rs=replicate 9 rz:=by rw[zm,fj]
 unfold FL RL
 rw[hgm]
 refine dq Tryz.func133 26 0 ?_
 refine aW ?_
 refine⟨by omega,?_⟩
 refine wl (α:=Nat) (fun i=>⟨[.any,.fv (.fn (.func k) [] [x]),.ptr 0 0 0,.any,.ptr 1 0 0,.ptr 1 0 0,.any,.any,.int .i64 i]++replicate 19 .any,[.box true (flat rs),.box true (flat (jT g' i rs))]⟩)
  (fun i=>8 - i) (fun i=>i<=8) 0 ?_ ?_ ?_
 .refine eH [0,1] ?_ ?_
  .simp[bh,dF,cw]
  simp[d_,fD,dL,cw,ec,WQ,replicate,flat,rz,u32s]
 .exact dk _
 rintro i hi
 have pR:=ux g' rs (i:=i) (by omega)
 have hof:=ah (jT g' i rs)
 have dS:=b_ (rs:=rs) (i:=i) (by omega)
 have ck:=CB g' rs (i:=i) (by omega)
 have cA:=hf _ (aY i (by omega))
 obtain⟨r,hr⟩:=ax (rs.getD i rz)
 rw[hr] at dS ck cA
 have Bj:g' r=⟨decide ((g r).num<0),ak (g r).num.natAbs,ak (g r).den⟩:=by rw[kA];rfl
 have bn:=er (rs:=jT g' i rs) (i:=i) (by omega) (decide ((g r).num<0)) (ak (g r).num.natAbs) (ak (g r).den)
 rw[<-Bj,ck] at bn
 rw[bt,bQ,bQ] at cA
 unfold Raw.v at cA
 refine aW ?_
 refine bM ?_ ?_
 .intro h1 h2
  refine ae h2 ?_
  refine dw (by kernel_rfl) ?_
  refine ae dS ?_
  repeat refine ag ?_
  refine aM cA ?_
  refine ae (aB bn @append_nil.{0}) ?_
  repeat refine ag ?_
  refine aA (i+1) ?_ (by omega)
  exact ou [0,1]
 intro h1 h2
 have pC:i=8:=by omega
 subst pC
 rw[CD g' (n:=8+1) rs fj] at bn
 simp only[reduceMul,reduceAdd] at dS bn
 have xN:(rs.map g').length=9:=by simp[fj]
 have k7:(flat (rs.map g')).length=27:=by rw[ah];omega
 have Tf:List.drop 27 (flat (rs.map g'))=[]:=List.drop_of_length_le (by omega)
 refine ae (aB h2 dS) ?_
 repeat refine ag ?_
 refine aM cA ?_
 simp -dsimp(disch:=omega) only[append_nil,bn,k7,aj xN,Tf,↓reduceIte,reduceAdd,reduceLT,reduceLeDiff,ru]
 repeat refine ag ?_
 exact RetOK.form rfl rfl xN
set_option maxHeartbeats 4000000
theorem aes (r c:Raw) (hr:r.Ok 2000000000) (hc:c.Ok 2000000000):Den Tryz.prog 184 [] [r.v,.fv (.fp c.f)] [] (FR (r.q*c.q)):=by
 have h:=Qy r c hr hc;rw[bt] at h ⊢;unfold Raw.v at h ⊢;unfold Raw.f;refine dq Tryz.func184 5 0 ?_;refine aW ?_;refine aM h ?_;refine aN ?_;refine a_ rfl
theorem Yn (r c:Raw) (hr:r.Ok 2000000000) (hc:c.Ok 2000000000) (h0:c.q≠0):Den Tryz.prog 134 [] [r.v,.fv (.fp c.f)] [] (FR (r.q / c.q)):=by
 have h:=Qz r c hr hc h0;rw[bt] at h ⊢;unfold Raw.v at h ⊢;unfold Raw.f;refine dq Tryz.func134 11 0 ?_;refine aW ?_;refine aM h ?_;refine aN ?_;refine a_ rfl
theorem Lz (rs:List Raw) (c:Raw) (fj:LOk 2000000000 rs) (hc:c.Ok 2000000000):Den Tryz.prog 135 [] [RL rs,c.v] [] (FL (rs.map (fun r=>r.q*c.q))):=by
 have aF:=fj.len;have nt:=ah rs;have ua:=Jl rs 184 (.fp c.f) (fun r=>r.q*c.q) aF (fun r hr=>aes r c (fj.ok r hr) hc);unfold FL RL at ua ⊢;unfold Raw.f at ua;obtain⟨zs,hz⟩:=Lc ((rs.map (fun r=>r.q*c.q)).map cn);have nu:zs.length=9:=by rw[<-hz];simp[aF]
 have k7:(flat zs).length=27:=by rw[ah];omega
 rw[hz] at ua ⊢;unfold Raw.v;refine dq Tryz.func135 6 0 ?_;simp -dsimp(disch:=omega) only[replicate,aj aF,↓reduceIte,reduceAdd,reduceLT,ru,zu];refine⟨by omega,by omega,?_⟩;refine gv ua ?_;refine bm k7 ?_;exact RetOK.form rfl rfl nu
theorem Yo (rs:List Raw) (fj:LOk 1000 rs):Den Tryz.prog 71 [] [RL rs] [] (FL (Ny rs)):=by
 have aF:=fj.len;have nt:=ah rs;unfold RL;refine dq Tryz.func71 30 0 ?_;refine aW ?_;have eO:List.take 24 (flat rs)=flat (rs.take 8):=rh 8 rs;have fr:[List.take 3 (cx (rs.take 8)),List.take 3 (List.drop 3 (cx (rs.take 8))),List.take 3 (List.drop 3 (List.drop 3 (cx (rs.take 8)))),List.take 3 (List.drop 3 (List.drop 3 (List.drop 3 (cx (rs.take 8))))),List.take 3 (List.drop 3 (List.drop 3 (List.drop 3 (List.drop 3 (cx (rs.take 8)))))),List.take 3 (List.drop 3 (List.drop 3 (List.drop 3 (List.drop 3 (List.drop 3 (cx (rs.take 8))))))),List.take 3 (List.drop 3 (List.drop 3 (List.drop 3 (List.drop 3 (List.drop 3 (List.drop 3 (cx (rs.take 8)))))))),List.take 3 (List.drop 3 (List.drop 3 (List.drop 3 (List.drop 3 (List.drop 3 (List.drop 3 (List.drop 3 (cx (rs.take 8)))))))))]=(rs.take 8).map Raw.f:=by
  have h:=uu (rs.take 8);rw[length_take,aF] at h;exact h
 have ags:=b_ (rs:=rs) (i:=8) (by omega);simp only[reduceMul] at ags;have KC:(rs.take 8).map Raw.f++[[FV.lit (Value.bool (rs.getD 8 rz).neg),FV.sl (u32s (rs.getD 8 rz).num),FV.sl (u32s (rs.getD 8 rz).den)]]=rs.map Raw.f:=Jk aF;have akS:List.take 8 ((rs.take 8).map Raw.f)=(rs.take 8).map Raw.f:=dm (by simp;omega);have akT:((rs.take 8).map Raw.f).length=8:=by simp[aF]
 have h3s: ∀ y∈(rs.take 8).map Raw.f,y.length=3:=by
  intro y hy;simp only[mem_map] at hy;obtain⟨r,_,rfl⟩:=hy;rfl
 refine⟨by omega,?_⟩;refine Draw.freeze [0] (by kernel_rfl) ?_;simp -dsimp(disch:=omega) only[eO,fr,ags,KC,akS,akT,Option.isSome_some,imp_self,Int.reduceToNat,↓reduceIte,reduceAdd,reduceMul,Nat.reduceSub,reduceLT,reduceLeDiff,ru,zu];have hlf:(rs.map Raw.f).length=9:=by simp[aF]
 refine⟨by omega,by omega,h3s,?_⟩;refine wl (α:=Nat) (fun i=>⟨[.any,.ptr 0 0 0,.ptr 1 0 0,.any,.any,.any,.any,.any,.any,.any,.any,.lsl 2 0 9 3,.int .i64 9,.int .i64 i]++replicate 17 .any,[.box false (flat rs),.box true (ic 9),.row true (rs.map Raw.f)]⟩)
  (fun i=>9 - i) (fun i=>i<=9/\(i<9->bU (rs.drop i)=bU rs)/\(i=9->(bU rs).q=0)) 0 ?_ ?_ ?_
 .exact ou [0,1,3]
 .exact⟨dk _,fun _=>rfl,fun h=>by omega⟩
 rintro i ⟨hi,dP,hl9⟩;refine aW ?_;refine bM ?_ ?_
 .intro h1 h2;have hmf:=Jj (rs:=rs) (i:=i) (by omega);have vH:bU (rs.drop i)=if(rs.getD i rz).q=0/\i<8 then bU (rs.drop (i+1)) else rs.getD i rz:=by
   by_cases h8:i<8
   .rw[zj (by omega)];simp[h8]
   rw[zk (by omega)];simp[h8]
  rw[dP (by omega)] at vH;obtain⟨r,hr⟩:=ax (rs.getD i rz);have bF:r.Ok 1000:=by rw[<-hr];exact fj.at i
  rw[hr] at hmf vH;have fM:=nF r (bF.mono (by decide));have Ky:=Ya r (bF.mono (by decide));have br:=bF.bd (by decide);have WL:([FV.lit (Value.bool r.neg),FV.sl (u32s r.num),FV.sl (u32s r.den)]:List FV).length=3:=rfl;by_cases h0:r.q=0
  .rw[a9.2 h0] at fM;unfold Raw.v at fM;have hb:((0:Int) !=0)=false:=rfl;refine ae (dR h2 hmf WL @append_nil.{0}) ?_
   repeat refine ag ?_
   refine aM fM ?_;refine ae (aB hb @append_nil.{0}) ?_;refine aA (i+1) ?_ ⟨by omega,fun h9=>?_,fun h9=>?_⟩
   .exact ou [0,1,2]
   .rw[if_pos ⟨h0,by omega⟩] at vH;exact vH.symm
   rw[if_neg (by omega)] at vH;rw[vH];exact h0
  rw[if_neg (fun h=>h0 h.1)] at vH;have yU:=vX (rs:=rs) (by rw[vH];exact h0);rw[vH] at yU;rw[yU];have DT:(fQ r.q !=0)=true:=by rw[bne_iff_ne];exact fun h=>h0 (a9.1 h)
  obtain⟨zs,hz⟩:=Lc ((rs.map (fun x=>x.q / d9 r.q)).map cn);have nu:zs.length=9:=by rw[<-hz];simp[aF]
  have k7:(flat zs).length=27:=by rw[ah];omega
  by_cases iw:r.q.num<0
  .have vt:d9 r.q= -r.q:=if_pos iw;have Bf:(cn (-r.q)).q≠0:=by rw[cu,<-vt];exact rr h0
   have ua:=Jl rs 134 (.fp (cn (-r.q)).f) (fun x=>x.q / (cn (-r.q)).q) aF (fun x hx=>Yn x (cn (-r.q)) ((fj.ok x hx).mono (by decide)) (Raw.Ok.mono (bj br.neg) (by decide)) Bf);rw[cu,<-vt] at ua;rw[vt] at ua;unfold FL RL at ua;rw[<-vt,hz] at ua;rw[vt] at ua;unfold Raw.f cn at ua;rw[yA iw] at fM DT;rw[bt,bQ,bQ] at Ky;unfold Raw.v at fM Ky;have vu:decide ((-1:Int)<0)=true:=rfl;unfold FL RL;rw[hz];refine ae (dR h2 hmf WL @append_nil.{0}) ?_
   repeat refine ag ?_
   refine aM fM ?_;refine ae (bA DT vu @append_nil.{0}) ?_;refine aM Ky ?_;simp -dsimp(disch:=omega) only[aj aF,↓reduceIte,reduceAdd,reduceLT,reduceLeDiff,ru,zu]
   repeat refine ag ?_
   refine gv ua ?_;refine bm k7 ?_
   repeat refine ag ?_
   exact RetOK.form rfl rfl nu
  have vt:d9 r.q=r.q:=if_neg iw;have ua:=Jl rs 134 (.fp r.f) (fun x=>x.q / r.q) aF (fun x hx=>Yn x r ((fj.ok x hx).mono (by decide)) (bF.mono (by decide)) h0);rw[vt] at hz;unfold FL RL at ua;rw[hz] at ua;unfold Raw.f at ua;rw[Ly h0 iw] at fM DT;unfold Raw.v at fM;have vu:decide ((1:Int)<0)=false:=rfl;unfold FL RL;rw[vt,hz];refine ae (dR h2 hmf WL @append_nil.{0}) ?_
  repeat refine ag ?_
  refine aM fM ?_;simp -dsimp(disch:=omega) only[DT,vu,aj aF,↓reduceIte,reduceAdd,ru,zu]
  repeat refine ag ?_
  refine gv ua ?_;refine bm k7 ?_
  repeat refine ag ?_
  exact RetOK.form rfl rfl nu
 intro h1 h2;have hi9:i=9:=by omega
 subst hi9;have ua:=QJ rs Raw.q aF (fun r hr=>Qw r ((fj.ok r hr).mono (by decide)));rw[Nz (hl9 rfl) aF];unfold FL RL at ua ⊢;obtain⟨zs,hz⟩:=ax ((rs.map Raw.q).map cn);have nu:zs.length=9:=by rw[<-hz];simp[aF]
 have k7:(flat zs).length=27:=by rw[ah];omega
 rw[hz] at ua ⊢;simp -dsimp(disch:=omega) only[h2,aj aF,↓reduceIte,Nat.reduceBEq,ru]
 repeat refine ag ?_
 refine gv ua ?_;refine bm k7 ?_
 repeat refine ag ?_
 exact RetOK.form rfl rfl nu
theorem ajC (rs:List Raw) (v:Int) (fj:rs.length=9) (hv:v<0\/8<=v):Den Tryz.prog 72 [] [RL rs,.int .i64 v] [] (.tup [RL (replicate 9 rz),.int .i64 0,.int .i64 1]):=by
 have nt:=ah rs;unfold RL;by_cases h:v<0
 .have h1:decide (v<0)=true:=f3 h;refine dq Tryz.func72 42 0 ?_;refine bw (aB h1 @append_nil.{0}) ?_
  repeat refine ag ?_
  refine O7 rfl ⟨⟨rfl,qp 27⟩,cK,cK,cK⟩ rfl
 have h1:decide (v<0)=false:=jI h;have h2:decide (v>=8)=true:=yP;refine dq Tryz.func72 42 0 ?_;refine bw (bA h1 h2 @append_nil.{0}) ?_
 repeat refine ag ?_
 refine O7 rfl ⟨⟨rfl,qp 27⟩,cK,cK,cK⟩ rfl
theorem QK (rs:List Raw) (v:Nat) (fj:LOk 1000 rs) (hv:v<8) (h0:(rs.getD v rz).q=0):Den Tryz.prog 72 [] [RL rs,.int .i64 v] [] (.tup [FL (rs.map Raw.q),.int .i64 0,.int .i64 0]):=by
 have aF:=fj.len;have nt:=ah rs;have bF:=fj.at v;have dS:=b_ (rs:=rs) (i:=v) (by omega);have fM:=nF (rs.getD v rz) (bF.mono (by decide));rw[a9.2 h0] at fM;obtain⟨r,hr⟩:=ax (rs.getD v rz);rw[hr] at dS fM;unfold Raw.v at fM;have ua:=QJ rs Raw.q aF (fun r hr=>Qw r ((fj.ok r hr).mono (by decide)));unfold FL RL at ua ⊢;obtain⟨zs,hz⟩:=ax ((rs.map Raw.q).map cn);have nu:zs.length=9:=by rw[<-hz];simp[aF]
 have k7:(flat zs).length=27:=by rw[ah];omega
 rw[hz] at ua ⊢;have h1:decide ((v:Int)<0)=false:=oc;have h2:decide ((v:Int)>=8)=false:=oc;have e00:((0:Int)==0)=true:=rfl;refine dq Tryz.func72 42 0 ?_;refine bw (bA h1 h2 dS) ?_
 repeat refine ag ?_
 refine aM fM ?_;simp -dsimp(disch:=omega) only[append_nil,e00,aj aF,↓reduceIte,reduceAdd,ru]
 repeat refine ag ?_
 refine gv ua ?_;refine bm k7 ?_
 repeat refine ag ?_
 exact RetOK.form3 rfl rfl nu rfl rfl
theorem QL {k:Nat} {rs:List Raw} (h:LOk k rs) (v:Nat):LOk k (rs.set v rz):=
 ⟨by simp[h.len],fun r hr=>by
  rcases List.mem_or_eq_of_mem_set hr with h1 | h1
  .exact h.ok r h1
  rw[h1];exact rz_ok⟩
theorem Yp (rs:List Raw) (v:Nat) (fj:LOk 1000 rs) (hv:v<8) (h0:(rs.getD v rz).q≠0):
 Den Tryz.prog 72 [] [RL rs,.int .i64 v] [] (.tup [FL ((rs.set v rz).map (fun r=>r.q*(-1 / (rs.getD v rz).q))),.int .i64 (fQ (rs.getD v rz).q),.int .i64 0]):=by
 have aF:=fj.len
 have nt:=ah rs
 have bF:=fj.at v
 have dS:=b_ (rs:=rs) (i:=v) (by omega)
 have Y':(flat rs).length=27:=by omega
 obtain⟨X,hX⟩:=ax (List.take (v*3) (flat rs)++[.fv (.lit (.bool false)),.nilsl,.nilsl]++List.drop (v*3+3) (flat rs))
 have hXh:BR rs v=X:=hX
 have hXl:X.length=27:=by rw[<-hXh];exact F3 (by omega) aF
 have hXt:List.take 27 X=X:=dm (by omega)
 have hXf: ∀ H,l6 H X=some (cx (rs.set v rz)):=fun H=>by rw[<-hXh];exact F1 H v rs (by omega)
 have hXi:X.flatMap fN=[]:=by rw[<-hXh];exact F2 v rs (by omega)
 have fM:=nF (rs.getD v rz) (bF.mono (by decide))
 obtain⟨r,hr⟩:=ax (rs.getD v rz)
 rw[hr] at dS fM bF h0
 rw[hr]
 have dX:Bd 1 (((-1:Int)):Rat):=⟨by decide,by decide⟩
 have Cj:=zg (-1) (by decide)
 have mK:=Qz (cn ((-1:Int):Rat)) r (Raw.Ok.mono (bj dX) (by decide)) (bF.mono (by decide)) h0
 rw[cu] at mK
 change Den Tryz.prog 73 [] [FR ((-1:Int):Rat),r.v] [] _ at mK
 have Ck:=QL fj v
 have hbd:=dX.div (bF.bd (by decide)) h0 (by decide)
 have KD:=Lz (rs.set v rz) (cn (((-1:Int):Rat) / r.q)) (Ck.mono (by decide)) (Raw.Ok.mono (bj hbd) (by decide))
 rw[cu] at KD
 change Den Tryz.prog 135 [] [RL (rs.set v rz),FR (((-1:Int):Rat) / r.q)] [] _ at KD
 have e1:((-1:Int):Rat)= -1:=rfl
 rw[e1] at KD mK Cj
 obtain⟨zs,hz⟩:=Lc (((rs.set v rz).map (fun x=>x.q*(-1 / r.q))).map cn)
 have nu:zs.length=9:=by rw[<-hz];simp[aF]
 have k7:(flat zs).length=27:=by rw[ah];omega
 have kd:(rs.set v rz).length=9:=Ck.len
 have hsf:=ah (rs.set v rz)
 unfold FL RL at KD ⊢
 rw[hz] at KD ⊢
 rw[bt] at Cj KD
 rw[bt,bt] at mK
 unfold Raw.v at fM mK
 have h1:decide ((v:Int)<0)=false:=oc
 have h2:decide ((v:Int)>=8)=false:=oc
 have DT:(fQ r.q==0)=false:=by rw[qx];exact fun h=>h0 (a9.1 h)
 refine dq Tryz.func72 42 0 ?_
 refine bw (bA h1 h2 dS) ?_
 repeat refine ag ?_
 refine aM fM ?_
 simp -dsimp(disch:=omega) only[append_nil,DT,aj aF,Y',hX,↓reduceIte,reduceAdd,reduceLT,reduceLeDiff,ru]
 repeat refine ag ?_
 refine dw (by kernel_rfl) ?_
 refine aN ?_
 refine aM Cj ?_
 refine ae (aB dS @append_nil.{0}) ?_
 repeat refine ag ?_
 refine aM mK ?_
 refine ae (bA hXt hXl @append_nil.{0}) ?_
 repeat refine ag ?_
 refine gp KD (by simp[bJ,eT,hXf,iX,l6,dZ]) ?_
 refine bm (aB k7 hXi) ?_
 repeat refine ag ?_
 exact RetOK.form3 rfl rfl nu rfl rfl
def ints (xs:List Int):List (List FV):=xs.map (fun n=>[FV.lit (Value.int .i64 n)])
theorem cv (xs:List Int):(ints xs).length=xs.length:=by simp[ints]
theorem iz {xs:List Int} {i:Nat} (h:i<xs.length):(ints xs).getD i []=[FV.lit (Value.int .i64 (xs.getD i 0))]:=by
 simp[ints,qa,h]
def S (xs:List Int) (a:Nat):Ob:= .box true [.fv (.sl (ints xs)),.int .i64 a,.int .i64 0]
def nx (xs:List Int) (a:Nat):Nat:=if a<xs.length then a+1 else a
theorem aD (xs:List Int) (a:Nat):(S xs a).closed:=by
 intro c hc;simp only[BL,List.not_mem_nil,or_false] at hc;rcases hc with h | h | h<;>exact⟨_,h⟩
def W64 (xs:List Int):Prop:= ∀ x∈xs,-9223372036854775808<=x/\x<9223372036854775808
theorem W64.at {xs:List Int} (h:W64 xs) (a:Nat): -9223372036854775808<=xs.getD a 0/\xs.getD a 0<9223372036854775808:=by
 by_cases ha:a<xs.length
 .rw[qa,qb ha];exact h _ (lY ha)
 rw[qa,getElem?_eq_none (by omega)];simp
theorem sh1 (o:Ob) (l:List Ob):shutBs (o::l) 0 [.ptr 0 0 0]=o::l:=rfl
theorem sh2 (o:Ob) (l:List Ob) (v:FV):shutBs (o::l) 0 [.ptr 0 0 0,.fv v]=o::l:=rfl
theorem sh3 (o:Ob) (l:List Ob) (v u:FV):shutBs (o::l) 0 [.ptr 0 0 0,.fv v,.fv u]=o::l:=rfl
theorem NA (x:Int) (n:Int) (hn:0<n):(x.tmod n<0->x.tmod n+n=x % n)/\(¬x.tmod n<0->x.tmod n=x % n):=by
 have h1:=Int.mul_tdiv_add_tmod x n;have h2:=Int.tmod_lt_of_pos x hn;have h3:=Int.lt_tmod_of_pos x hn;have h4:x % n=x.tmod n % n:=by
  conv=>lhs;rw[<-h1]
  rw[Int.add_comm,Int.add_mul_emod_self_left]
 rw[h4];generalize x.tmod n=t at*;constructor
 .intro h;rw[<-Int.add_emod_right,Int.emod_eq_of_lt (by omega) (by omega)]
 intro h;rw[Int.emod_eq_of_lt (by omega) (by omega)]
theorem aet (xs:List Int) (a:Nat) (hl:xs.length<=1000) (ha:a<=xs.length):Den Tryz.prog 81 [S xs a] [.ptr 0 0 0] [S xs (nx xs a)] (.int .i64 (xs.getD a 0)):=by
 have dJ:=cv xs;unfold S nx;by_cases h:a<xs.length
 .have hg:=iz h;have h1:decide ((a:Int)>=(xs.length:Int))=false:=oc;have e1:((a:Int)+1 - 1)=(a:Int):=by omega
  have e2:(a:Int)+1=((a+1:Nat):Int):=by omega
  have e3:((a+1:Nat):Int) - 1=(a:Int):=by omega
  rw[if_pos h];refine dq Tryz.func81 30 1 ?_;refine aW ?_;refine dw (by kernel_rfl) ?_;refine ae (aB dJ h1) ?_;refine dw (by kernel_rfl) ?_;refine ae (dR dJ e2 e3 hg) ?_;refine⟨by omega,?_⟩;refine sn rfl ⟨cK,cK⟩ rfl (aD xs (a+1)) rfl rfl rfl
 have h1:decide ((a:Int)>=(xs.length:Int))=true:=yP;have h0:xs.getD a 0=0:=by rw[qa,getElem?_eq_none (by omega)];rfl
 rw[if_neg h,h0];refine dq Tryz.func81 30 1 ?_;refine aW ?_;refine dw (by kernel_rfl) ?_;refine ae (aB dJ h1) ?_;refine sn rfl ⟨cK,cK⟩ rfl (aD xs a) rfl rfl rfl
theorem aeu (xs:List Int) (a:Nat) (n:Nat) (hl:xs.length<=1000) (ha:a<=xs.length) (hw:W64 xs) (hn:1<=n) (vI:n<1000000):Den Tryz.prog 31 [S xs a] [.ptr 0 0 0,.int .i64 n] [S xs (nx xs a)] (.int .i64 (xs.getD a 0 % n)):=by
 have h50:=aet xs a hl ha;have hx:=hw.at a;obtain⟨x,qW⟩:=ax (xs.getD a 0);rw[qW] at h50 hx ⊢;have hc:=aD xs a;have h1:decide ((n:Int)<1)=false:=oc;unfold S at h50 hc ⊢;refine dq Tryz.func31 16 1 ?_;refine bw h1 ?_;refine eG 0 h50 hc ?_;have M9:=NA x (n:Int) (by omega);have hb:=Int.lt_tmod_of_pos x (show(0:Int)<n by omega);refine so ?_;refine⟨by omega,bM ?_ ?_⟩
 .intro h3 h4;rw[<-M9.1 h3];generalize x.tmod (n:Int)=t at*;refine ae h4 ?_;refine sn rfl ⟨cK,cK⟩ rfl (aD xs _) rfl rfl rfl
 intro h3 h4;rw[<-M9.2 h3];generalize x.tmod (n:Int)=t at*;refine ae h4 ?_;refine sn rfl ⟨cK,cK⟩ rfl (aD xs _) rfl rfl rfl
theorem cD {xs:List Int} {a:Nat} (h:a<=xs.length):nx xs a<=xs.length:=by unfold nx;split<;>omega
def nN (xs:List Int) (a n:Nat):Nat:=(xs.getD a 0 % n).toNat
theorem LA {xs:List Int} {a n:Nat} (hn:1<=n):xs.getD a 0 % (n:Int)=(nN xs a n:Int):=by
 unfold nN;have:=Int.emod_nonneg (xs.getD a 0) (show(n:Int)≠0 by omega);omega
theorem et {xs:List Int} {a n:Nat} (hn:1<=n):nN xs a n<n:=by
 have h:=LA (xs:=xs) (a:=a) hn;have:=Int.emod_lt_of_pos (xs.getD a 0) (show(0:Int)<n by omega);omega
theorem l_ (xs:List Int) (a n:Nat) (hl:xs.length<=1000) (ha:a<=xs.length) (hw:W64 xs) (hn:1<=n) (vI:n<1000000):Den Tryz.prog 31 [S xs a] [.ptr 0 0 0,.int .i64 n] [S xs (nx xs a)] (.int .i64 (nN xs a n)):=by
 have h:=aeu xs a n hl ha hw hn vI;rw[LA hn] at h;exact h
theorem CE (xs:List Int) (a:Nat) (lo hi:Int) (n:Nat) (hl:xs.length<=1000) (ha:a<=xs.length) (hw:W64 xs) (hn:hi - lo+1=n) (lR:1<=n) (vI:n<1000000) (ej: -1000000<lo) (eC:lo<1000000):
 Den Tryz.prog 80 [S xs a] [.ptr 0 0 0,.int .i64 lo,.int .i64 hi] [S xs (nx xs a)] (.int .i64 (lo+nN xs a n)):=by
 have h:=l_ xs a n hl ha hw lR vI
 have hc:=aD xs a
 have aL:=et (xs:=xs) (a:=a) lR
 generalize nN xs a n=m at*
 unfold S at h hc ⊢
 refine dq Tryz.func80 12 1 ?_
 refine bw hn ?_
 refine eG 0 h hc ?_
 refine so ?_
 refine sn rfl ⟨cK,cK⟩ rfl (aD xs _) rfl rfl rfl
theorem LB (xs:List Int) (a:Nat) (l:List Int) (hl:xs.length<=1000) (ha:a<=xs.length) (hw:W64 xs) (lR:1<=l.length) (vI:l.length<1000):
 Den Tryz.prog 52 [S xs a] [.ptr 0 0 0,.fv (.sl (ints l))] [S xs (nx xs a)] (.int .i64 (l.getD (nN xs a l.length) 0)):=by
 have h:=l_ xs a l.length hl ha hw lR (by omega)
 have hc:=aD xs a
 have aL:=et (xs:=xs) (a:=a) lR
 have dJ:=cv l
 have hg:=iz (xs:=l) aL
 obtain⟨m,hm⟩:=ax (nN xs a l.length)
 rw[hm] at h aL hg ⊢
 unfold S at h hc ⊢
 refine dq Tryz.func52 10 1 ?_
 refine bw dJ ?_
 refine eG 0 h hc ?_
 refine f9 (aB hg dJ) ?_
 repeat refine ag ?_
 refine sn rfl ⟨cK,cK⟩ rfl (aD xs _) rfl rfl rfl
def sy (xs:List Int) (a:Nat):Rat:=((-6+(nN xs a 13:Int):Int):Rat) / ((1+(nN xs (nx xs a) 5:Int):Int):Rat)
theorem bd_int {n:Int} (h:n.natAbs<4294967296):Bd 1 (n:Rat):=⟨h,(by decide:(1:Nat)<B^1)⟩
theorem yB (xs:List Int) (a:Nat):Bd 2 (sy xs a):=by
 have h1:=et (xs:=xs) (a:=a) (n:=13) (by decide);have h2:=et (xs:=xs) (a:=nx xs a) (n:=5) (by decide);refine Bd.div (j:=1) (k:=1) (bd_int (by omega)) (bd_int (by omega)) ?_ (by decide);intro h;have:=congrArg Rat.num h;change (1+(nN xs (nx xs a) 5:Int))=0 at this;omega
theorem QM (xs:List Int) (a:Nat) (hl:xs.length<=1000) (ha:a<=xs.length) (hw:W64 xs):Den Tryz.prog 55 [S xs a] [.ptr 0 0 0] [S xs (nx xs (nx xs a))] (FR (sy xs a)):=by
 have h1:=CE xs a (-6) 6 13 hl ha hw (by decide) (by decide) (by decide) (by decide) (by decide);have h2:=CE xs (nx xs a) 1 5 5 hl (cD ha) hw (by decide) (by decide) (by decide) (by decide) (by decide);have hc:=aD xs a;have pz:=aD xs (nx xs a);have l1:=et (xs:=xs) (a:=a) (n:=13) (by decide);have l2:=et (xs:=xs) (a:=nx xs a) (n:=5) (by decide);unfold sy;generalize nN xs a 13=m1 at*;generalize nN xs (nx xs a) 5=m2 at*;have h59:=Yl (-6+(m1:Int)) (1+(m2:Int)) (by omega) (by omega) (by omega);rw[bt] at h59 ⊢;unfold S at h1 h2 hc pz ⊢;refine dq Tryz.func55 13 1 ?_;refine aW ?_;refine eG 0 h1 hc ?_;refine so ?_;refine eG 0 h2 pz ?_;refine so ?_;refine aM h59 ?_;refine ae @append_nil.{0} ?_;refine sn rfl ⟨⟨rfl,qp 3⟩,cK⟩ rfl (aD xs _) rfl rfl rfl
def sM:List Nat:=[0,1,2,3,10,97,65536,2147483648,4294967295,4294967291,123456789,4000000007]
def LC:List Int:=[0,1,2,3,10,97,65536,2147483648,4294967295,4294967291,123456789,4000000007]
theorem NB (i:Nat):LC.getD i 0=((sM.getD i 0:Nat):Int):=by
 have h:LC=sM.map (fun n:Nat=>(n:Int)):=rfl;rw[h];simp only[qa,List.getElem?_map];cases sM[i]?<;>rfl
theorem LD (i:Nat):sM.getD i 0<4294967296:=by
 by_cases h:i<sM.length
 .have hm:sM.getD i 0∈sM:=by rw[qa,qb h];exact lY h
  have: ∀ x∈sM,x<4294967296:=by decide
  exact this _ hm
 rw[qa,getElem?_eq_none (by omega)];decide
def iY (xs:List Int):Nat->Nat->List Nat
 | 0,_=>[]
 | n+1,a=>sM.getD (nN xs a 12) 0::iY xs n (nx xs a)
def s9 (xs:List Int):Nat->Nat->Nat
 | 0,a=>a
 | n+1,a=>s9 xs n (nx xs a)
theorem s_ (xs:List Int): ∀ n a,Dig (iY xs n a)
 | 0,_=>Dig.nil
 | n+1,a=>Dig.mk (LD _) (s_ xs n (nx xs a))
theorem mR (xs:List Int): ∀ n a,(iY xs n a).length=n
 | 0,_=>rfl
 | n+1,a=>by simp[iY,mR xs n]
theorem tc {xs:List Int}: ∀ {n a:Nat},a<=xs.length->s9 xs n a<=xs.length
 | 0,_,h=>h
 | n+1,_,h=>tc (n:=n) (cD h)
theorem UH (o:Ob) (l:List Ob) (k off n s:Nat):shutBs (o::l) 0 [.ptr 0 0 0,.lsl (k+1) off n s]=shutIds [k+1] (o::l):=rfl
def UI (out:List Nat):PV:=match out with | []=> .nilsl | _=> .lsl 1 0 out.length 1
def UJ (o:Ob) (out:List Nat):List Ob:=match out with | []=>[o] | _=>[o,.row true (u32s out)]
theorem Yq (xs:List Int) (a:Nat) (hl:xs.length<=1000) (ha:a<=xs.length) (hw:W64 xs):
 Den Tryz.prog 117 [S xs a] [.ptr 0 0 0] [S xs (s9 xs (nN xs a 5) (nx xs a))] (.fv (.sl (u32s (iY xs (nN xs a 5) (nx xs a))))):=by
 have h5:=l_ xs a 5 hl ha hw (by decide) (by decide)
 have aL:=et (xs:=xs) (a:=a) (n:=5) (by decide)
 have hc:=aD xs a
 have sv:=cD ha
 obtain⟨a1,akW⟩: ∃ t,nx xs a=t:=⟨_,rfl⟩
 obtain⟨m,hm⟩:=ax (nN xs a 5)
 rw[hm] at h5 aL ⊢
 rw[akW] at h5 sv ⊢
 obtain⟨fin,jg⟩:=ax (s9 xs m a1)
 obtain⟨tot,Fe⟩:=ax (iY xs m a1)
 rw[jg,Fe]
 unfold S at h5 hc ⊢
 refine dq Tryz.func117 18 1 ?_
 refine aW ?_
 refine eG 0 h5 hc ?_
 refine so ?_
 refine wl (α:=Nat×Nat×List Nat) (fun⟨n,b,out⟩=>⟨[.ptr 0 0 0,.any,.nilsl,UI out,.int .i64 n]++replicate 14 .any,UJ (S xs b) out⟩)
  (fun⟨n,_,_⟩=>n) (fun⟨n,b,out⟩=>b<=xs.length/\n+out.length<=4/\s9 xs n b=fin/\out++iY xs n b=tot) (m,a1,[]) ?_ ?_ ?_
 .refine eH [0] ?_ ?_
  .simp[bh,dF,cw,UI]
  simp[d_,fD,dL,cw,UJ,S]
 .exact⟨sv,by simp;omega,jg,by rw[nil_append];exact Fe⟩
 rintro⟨n,b,out⟩ ⟨hb,vK,ox,bO⟩
 have DU:=LB xs b LC hl hb hw (by decide) (by decide)
 have xP:=aD xs b
 have kU:=LD (nN xs b 12)
 rw[show LC.length=12 from rfl,NB] at DU
 obtain⟨d,hd⟩:=ax (sM.getD (nN xs b 12) 0)
 rw[hd] at DU kU
 have Kw:IntKind.u32.wrap (d:Int)=(d:Int):=dD (by omega)
 have agv: ∀ k,n=k+1->s9 xs k (nx xs b)=fin/\(out++[d])++iY xs k (nx xs b)=tot:=by
  intro k hk;subst hk;rw[<-ox,<-bO,iY,hd];exact⟨rfl,by simp⟩
 have hbn:=cD hb
 cases out with
 | nil=>
  simp only[UI,UJ];unfold S at DU xP ⊢;refine aW ?_;refine bM ?_ ?_
  .intro h1 h2;obtain⟨k,rfl⟩: ∃ k,n=k+1:=⟨n - 1,by omega⟩;obtain⟨lR,vI⟩:=agv k rfl;have hk:((k+1:Nat):Int) - 1=(k:Int):=by omega
   refine ae (aB h2 @append_nil.{0}) ?_;refine eG 0 DU xP ?_;refine ae (dN @UH Kw hk @length_cons.{0} @length_nil.{0} @append_nil.{0}) ?_
   repeat refine ag ?_
   refine aA (k,nx xs b,[d]) ?_ ⟨hbn,by simp at vK ⊢;omega,lR,vI⟩;refine eH [0,3] ?_ ?_
   .simp[bh,dF,cw]
   simp[d_,fD,dL,cw,u32s]
  .intro h1 h2;have Bf:n=0:=by omega
   subst Bf;have Bo:tot=[]:=by rw[<-bO];rfl
   have KE:fin=b:=ox.symm;rw[Bo,KE];refine ae h2 ?_;refine sn rfl ⟨cK,cK⟩ rfl (aD xs _) rfl rfl rfl
 | cons x out=>
  have A':(u32s (x::out)).length=(x::out).length:=aR;have eO:List.take (x::out).length (u32s (x::out))=u32s (x::out):=dm (by rw[A'];exact qp _);have Iu:u32s (x::out)++[[FV.lit (Value.int .u32 d)]]=u32s (x::(out++[d])):=by simp[u32s]
  simp only[UI,UJ];obtain⟨L,hL⟩:=ax ((x::out).length);obtain⟨us,gX⟩:=ax (u32s (x::out));rw[hL,gX] at A' eO;rw[gX] at Iu;rw[hL] at vK;rw[hL,gX];unfold S at DU xP ⊢;refine aW ?_;refine bM ?_ ?_
  .intro h1 h2;obtain⟨k,rfl⟩: ∃ k,n=k+1:=⟨n - 1,by omega⟩;obtain⟨lR,vI⟩:=agv k rfl;have hk:((k+1:Nat):Int) - 1=(k:Int):=by omega
   refine ae (aB h2 @append_nil.{0}) ?_;refine eG 0 DU xP ?_;refine ae (bu @UH Kw hk eO Iu @length_cons.{0} @length_nil.{0} @append_nil.{0}) ?_
   repeat refine ag ?_
   refine aA (k,nx xs b,x::(out++[d])) ?_ ⟨hbn,by simp at hL ⊢;omega,lR,vI⟩;refine eH [0,4] ?_ ?_
   .simp[bh,dF,cw];simp at hL;omega
   simp[d_,fD,dL,cw]
  intro h1 h2;have Bf:n=0:=by omega
  subst Bf;have Bo:tot=x::out:=by rw[<-bO];simp[iY]
  have KE:fin=b:=ox.symm;rw[Bo,KE,gX];refine ae h2 ?_;refine sn rfl ⟨cK,cK⟩ rfl (aD xs _) rfl ?_ rfl;have hi:List.idxOf? 1 [0]=none:=rfl;exact kT (bA A' eO hi)
def kj (xs:List Int) (a:Nat):Raw×Nat:=
 if nN xs a 4=0 then(cn (sy xs (nx xs a)),nx xs (nx xs (nx xs a)))
 else if nN xs a 4=1 then
  (⟨decide (nN xs (nx xs a) 2=0),iY xs (nN xs (nx xs (nx xs a)) 5) (nx xs (nx xs (nx xs a))),
   iY xs (nN xs (s9 xs (nN xs (nx xs (nx xs a)) 5) (nx xs (nx xs (nx xs a)))) 5) (nx xs (s9 xs (nN xs (nx xs (nx xs a)) 5) (nx xs (nx xs (nx xs a)))))⟩,
   s9 xs (nN xs (s9 xs (nN xs (nx xs (nx xs a)) 5) (nx xs (nx xs (nx xs a)))) 5) (nx xs (s9 xs (nN xs (nx xs (nx xs a)) 5) (nx xs (nx xs (nx xs a))))))
 else(⟨decide (nN xs (nx xs (nx xs a)) 2=0),[(1+nN xs (nx xs a) 6)*nN xs (nx xs (nx xs (nx xs a))) 9,0],[(1+nN xs (nx xs a) 6)*nN xs (nx xs (nx xs (nx xs (nx xs a)))) 6]⟩,nx xs (nx xs (nx xs (nx xs (nx xs a)))))
theorem aev (m:Nat):((m:Int)==0)=decide (m=0):=by
 by_cases h:m=0
 .subst h;rfl
 rw[jI h,qx];omega
theorem aew {x:Nat} (h:x<4294967296):Dig [x]:=Dig.mk h Dig.nil
theorem vY (xs:List Int) (a:Nat):(kj xs a).1.Ok 4:=by
 unfold kj;split
 .exact Raw.Ok.mono (bj (yB xs _)) (by decide)
 split
 .have h1:=et (xs:=xs) (a:=nx xs (nx xs a)) (n:=5) (by decide);have h2:=et (xs:=xs) (a:=s9 xs (nN xs (nx xs (nx xs a)) 5) (nx xs (nx xs (nx xs a)))) (n:=5) (by decide);exact⟨s_ _ _ _,s_ _ _ _,by rw[mR];omega,by rw[mR];omega⟩
 have h1:=et (xs:=xs) (a:=nx xs a) (n:=6) (by decide);have h2:=et (xs:=xs) (a:=nx xs (nx xs (nx xs a))) (n:=9) (by decide);have h3:=et (xs:=xs) (a:=nx xs (nx xs (nx xs (nx xs a)))) (n:=6) (by decide);have h4:(1+nN xs (nx xs a) 6)*nN xs (nx xs (nx xs (nx xs a))) 9<=6*8:=Nat.mul_le_mul (by omega) (by omega);have h5:(1+nN xs (nx xs a) 6)*nN xs (nx xs (nx xs (nx xs (nx xs a)))) 6<=6*5:=Nat.mul_le_mul (by omega) (by omega);exact⟨Dig.mk (by simp only[B];omega) (aew (by omega)),aew (by omega),by simp,by simp⟩
theorem CF {xs:List Int} {a:Nat} (h:a<=xs.length):(kj xs a).2<=xs.length:=by
 unfold kj;split
 .exact cD (cD (cD h))
 split
 .exact tc (cD (tc (cD (cD (cD h)))))
 exact cD (cD (cD (cD (cD h))))
theorem Yr (xs:List Int) (a:Nat) (hl:xs.length<=1000) (ha:a<=xs.length) (hw:W64 xs):
 Den Tryz.prog 60 [S xs a] [.ptr 0 0 0] [S xs (kj xs a).2] (kj xs a).1.v:=by
 have h4:=l_ xs a 4 hl ha hw (by decide) (by decide)
 have hc:=aD xs a
 have sv:=cD ha
 unfold kj
 obtain⟨m,hm⟩:=ax (nN xs a 4)
 obtain⟨a1,e1⟩:=ax (nx xs a)
 rw[hm,e1] at h4
 rw[e1] at sv
 rw[hm,e1]
 have c1:=aD xs a1
 by_cases h0:m=0
 .rw[if_pos h0]
  have BN:=QM xs a1 hl sv hw
  have hb:((m:Int)==0)=true:=by rw[h0];rfl
  dsimp only
  change Den Tryz.prog 60 _ _ _ (FR (sy xs a1))
  rw[bt] at BN ⊢
  unfold S at h4 BN hc c1 ⊢
  refine dq Tryz.func60 38 1 ?_
  refine aW ?_
  refine eG 0 h4 hc ?_
  refine f9 hb ?_
  refine eG 0 BN c1 ?_
  refine so ?_
  refine sn rfl ⟨⟨rfl,qp 3⟩,cK⟩ rfl (aD xs _) rfl rfl rfl
 rw[if_neg h0]
 have hb:((m:Int)==0)=false:=by rw[qx];omega
 have Fx:=cD sv
 obtain⟨a2,e2⟩:=ax (nx xs a1)
 have c2:=aD xs a2
 have Ui:=cD (a:=a2) (by rw[<-e2];exact Fx)
 by_cases h1:m=1
 .rw[if_pos h1]
  have dX:((m:Int)==1)=true:=by rw[h1];rfl
  have vI:=l_ xs a1 2 hl sv hw (by decide) (by decide)
  rw[e2] at Fx vI ⊢
  have hx:=Yq xs a2 hl Fx hw
  have Za:s9 xs (nN xs a2 5) (nx xs a2)<=xs.length:=tc Ui
  obtain⟨a3,e3⟩:=ax (s9 xs (nN xs a2 5) (nx xs a2))
  have c3:=aD xs a3
  rw[e3] at hx Za ⊢
  have hy:=Yq xs a3 hl Za hw
  obtain⟨p,hp⟩:=ax (nN xs a1 2)
  obtain⟨u,hu⟩:=ax (iY xs (nN xs a2 5) (nx xs a2))
  obtain⟨w,hw2⟩:=ax (iY xs (nN xs a3 5) (nx xs a3))
  obtain⟨a4,e4⟩:=ax (s9 xs (nN xs a3 5) (nx xs a3))
  rw[hp] at vI ⊢
  rw[hu] at hx ⊢
  rw[hw2,e4] at hy ⊢
  have hbp:=aev p
  unfold Raw.v
  unfold S at h4 vI hx hy hc c1 c2 c3 ⊢
  refine dq Tryz.func60 38 1 ?_
  refine aW ?_
  refine eG 0 h4 hc ?_
  refine f9 (aB hb dX) ?_
  refine eG 0 vI c1 ?_
  refine f9 hbp ?_
  refine eG 0 hx c2 ?_
  refine so ?_
  refine eG 0 hy c3 ?_
  refine so ?_
  refine sn rfl ⟨⟨rfl,qp 3⟩,cK⟩ rfl (aD xs _) rfl rfl rfl
 rw[if_neg h1]
 have dX:((m:Int)==1)=false:=by rw[qx];omega
 have lR:=CE xs a1 1 6 6 hl sv hw (by decide) (by decide) (by decide) (by decide) (by decide)
 have l1:=et (xs:=xs) (a:=a1) (n:=6) (by decide)
 rw[e2] at Fx lR ⊢
 have vI:=l_ xs a2 2 hl Fx hw (by decide) (by decide)
 obtain⟨a3,e3⟩:=ax (nx xs a2)
 have c3:=aD xs a3
 rw[e3] at Ui vI ⊢
 have hn3:=l_ xs a3 9 hl Ui hw (by decide) (by decide)
 have l3:=et (xs:=xs) (a:=a3) (n:=9) (by decide)
 have Za:=cD Ui
 obtain⟨a4,e4⟩:=ax (nx xs a3)
 have c4:=aD xs a4
 rw[e4] at Za hn3 ⊢
 have hn4:=l_ xs a4 6 hl Za hw (by decide) (by decide)
 have l4:=et (xs:=xs) (a:=a4) (n:=6) (by decide)
 obtain⟨k,hk⟩:=ax (nN xs a1 6)
 obtain⟨p,hp⟩:=ax (nN xs a2 2)
 obtain⟨x,hx⟩:=ax (nN xs a3 9)
 obtain⟨y,hy⟩:=ax (nN xs a4 6)
 rw[hk] at lR l1 ⊢
 rw[hp] at vI ⊢
 rw[hx] at hn3 l3 ⊢
 rw[hy] at hn4 l4 ⊢
 have hbp:=aev p
 have q1:(1+k)*x<=6*8:=Nat.mul_le_mul (by omega) (by omega)
 have q2:(1+k)*y<=6*5:=Nat.mul_le_mul (by omega) (by omega)
 have g1:((1:Int)+(k:Int))*(x:Int)=(((1+k)*x:Nat):Int):=by rw[Int.natCast_mul,Int.natCast_add];rfl
 have g2:((1:Int)+(k:Int))*(y:Int)=(((1+k)*y:Nat):Int):=by rw[Int.natCast_mul,Int.natCast_add];rfl
 obtain⟨kx,hkx⟩:=ax ((1+k)*x)
 obtain⟨ky,WR⟩:=ax ((1+k)*y)
 rw[hkx] at q1 g1 ⊢
 rw[WR] at q2 g2 ⊢
 unfold Raw.v
 unfold S at h4 lR vI hn3 hn4 hc c1 c2 c3 c4 ⊢
 refine dq Tryz.func60 38 1 ?_
 refine aW ?_
 refine eG 0 h4 hc ?_
 refine f9 (aB hb dX) ?_
 refine eG 0 lR c1 ?_
 refine so ?_
 refine eG 0 vI c2 ?_
 refine f9 hbp ?_
 refine eG 0 hn3 c3 ?_
 refine f9 g1 ?_
 refine eG 0 hn4 c4 ?_
 refine f9 g2 ?_
 repeat refine ag ?_
 refine sn rfl ⟨⟨rfl,qp 3⟩,cK⟩ rfl (aD xs _) rfl rfl rfl
theorem CG (H:List Ob) (keep:List Nat): ∀ rs:List Raw,(flat rs).flatMap (A2 H keep)=[]
 | []=>rfl
 | r::rs=>by simp only[flat,List.flatMap_cons,A2,ny,fN,nil_append,CG H keep rs]
theorem RetOK.formL {st:St} {ob:Ob} {a id:Nat} {w:Bool} {rs:List Raw} (ha:st.get a= .ptr id 0 0) (hb:st.heap[id]?=some (.box w (flat rs))) (hl:rs.length=9) (hx:st.heap.head?=some ob) (fr:ob.closed) (hrw:ob.rw=true):
 RetOK tab [.cell a 30] 1 st [ob] (RL rs):=by
 refine sn (vs:=[.agg (flat rs)]) (cd:=(0=0/\0+27<=(flat rs).length)/\True) ?_ ⟨⟨rfl,by rw[ah];omega⟩,cK⟩ hx fr hrw ?_ ?_
 .simp[gW,xI,ha,Qh,iU,hb,kG,aj hl,TyI.isAgg]
 .simp[cY,t6,yO,nG,RL]
 simp only[cY,tM,A3,CG]
 rw[<-hx];rfl
def BS (xs:List Int):Nat->Nat->Nat->List Raw->List Raw
 | 0,_,_,rs=>rs
 | n+1,i,a,rs=>BS xs n (i+1) (nx xs a) (rs.set i (cn ((-2+(nN xs a 5:Int):Int):Rat)))
theorem rv {k:Nat} {rs:List Raw} (h:LOk k rs) (v:Nat) {r:Raw} (hr:r.Ok k):LOk k (rs.set v r):=
 ⟨by simp[h.len],fun x hx=>by
  rcases List.mem_or_eq_of_mem_set hx with h1 | h1
  .exact h.ok x h1
  rw[h1];exact hr⟩
theorem Eb (xs:List Int): ∀ n i a rs,LOk 4 rs->LOk 4 (BS xs n i a rs)
 | 0,_,_,_,h=>h
 | n+1,i,a,rs,h=>by
  unfold BS;have h1:=et (xs:=xs) (a:=a) (n:=5) (by decide);exact Eb xs n _ _ _ (rv h i (Raw.Ok.mono (bj (bd_int (by omega))) (by decide)))
theorem RetOK.ownB {T:Tab} {st:St} {rs:List ResultVar} {id:Nat} {ob:Ob} {cd:Prop} (h1:gW T st rs=some (cd,[.ptr id 0 0])) (hc:cd) (h2:st.heap[id]?=some ob) (fr:ob.closed) (hrw:ob.rw=true):
 RetOK T rs 0 st [ob] (.ptr 0 0 0):=by
 refine⟨cd,[.ptr id 0 0],[id],h1,hc,by simp,fun i hi=>absurd hi (Nat.not_lt_zero i),?_,rfl,fun j k hj=>?_,fun o ho=>?_⟩
 .simp[cY,t6,yO,vm,List.idxOf?_cons]
 .cases j with
  | zero=>
   simp at hj;subst hj;simp[cY,tM,A3,A2,List.idxOf?_cons,shutIds,h2]
  | succ j=>simp at hj
 simp at ho;subst ho;exact⟨fr,hrw⟩
theorem Ys (l:List Int) (hl:l.length<9223372036854775808):Den Tryz.prog 15 [] [.fv (.sl (ints l))] [S (l.take 1000) 0] (.ptr 0 0 0):=by
 have dJ:=cv l;have hc:=aD (l.take 1000) 0;have dh: ∀ y∈ints l,y.length=1:=by
  intro y hy;simp only[ints,mem_map] at hy;obtain⟨n,_,rfl⟩:=hy;rfl
 unfold S at hc ⊢;by_cases h:l.length>1000
 .have h1:decide ((l.length:Int)>1000)=true:=yP;have eO:List.take 1000 (ints l)=ints (l.take 1000):=by simp[ints,List.map_take]
  refine dq Tryz.func15 10 0 ?_;refine bw (bA dJ h1 eO) ?_;refine⟨⟨by omega,by omega,dh⟩,?_⟩;exact RetOK.ownB rfl ⟨cK,cK⟩ rfl hc rfl
 have h1:decide ((l.length:Int)>1000)=false:=oc;rw[dm (by omega)] at hc ⊢;refine dq Tryz.func15 10 0 ?_;refine bw (aB dJ h1) ?_;exact RetOK.ownB rfl ⟨cK,cK⟩ rfl hc rfl
end Go.Proofs.YtjjbkjgifdhlcaaGreat
