/- Contracts:the reference's fractions:Mul,Div,Add. -/
import Derived.Test.YtiaaceeelfhdlaaGreatT11
import Derived.Test.YtiaaceeelfhdlaaGreatT8
import Derived.Test.YtiaaceeelfhdlaaGreatT10
import Derived.Test.YtiaaceeelfhdlaaGreatT1
set_option linter.all false
open Nat (reduceAdd reduceEqDiff reduceLT reduceLeDiff reduceMul reduceSub)
open List (drop_eq_getElem_cons drop_succ_cons getElem?_eq_none length_cons length_map length_nil length_take map_cons mem_map nil_append replicate take_succ_cons take_succ_eq_append_getElem)
namespace Go.Proofs.YtiaaceeelfhdlaaGreat
open Go.AM Go.Pl
set_option maxRecDepth 100000
set_option maxHeartbeats 2000000
theorem LB (r1 r2:Raw) (gL:r1.Ok 2000000000) (f1:r2.Ok 2000000000):Den Tryz.prog 49 [] [r1.v,r2.v] [] (FR (r1.q*r2.q)):=by
 have ha:=kg r1 (gL.mono (by decide));have hb:=kg r2 (f1.mono (by decide));have b1:=gL.bd (by decide);have b2:=f1.bd (by decide);have c1:=bn b1;have c2:=bn b2;have hq:f2 (decide (r1.q.num<0) !=decide (r2.q.num<0)) (r1.q.num.natAbs*r2.q.num.natAbs) (r1.q.den*r2.q.den)=r1.q*r2.q:=by
  rw[<-q_,cG,cG]
 have m_:=vQ (ai r1.q.num.natAbs) (ai r2.q.num.natAbs) (al _) (al _) (by have:=c1.lnum;simp only[cn] at this;omega) (by have:=c2.lnum;simp only[cn] at this;omega);have kY:=vQ (ai r1.q.den) (ai r2.q.den) (al _) (al _) (by have:=c1.lden;simp only[cn] at this;omega) (by have:=c2.lden;simp only[cn] at this;omega);have vB:=bZ (aK b1.1 b2.1);have nI:=bZ (aK b1.2 b2.2);have vC:=vR (decide (r1.q.num<0) !=decide (r2.q.num<0)) (ai (r1.q.num.natAbs*r2.q.num.natAbs)) (ai (r1.q.den*r2.q.den)) (al _) (al _) (by omega) (by omega) (by rw[aj];exact Nat.mul_ne_zero r1.q.den_nz r2.q.den_nz);rw[aj,aj,hq] at vC;rw[aj,aj] at m_ kY;rw[a_] at ha hb vC ⊢;unfold Raw.v at ha hb ⊢;rw[cR] at m_ kY;rw[cR,cR] at ha hb;refine dq Tryz.func49 23 0 ?_
 refine aW ?_;refine dw (by kernel_rfl) ?_;refine a9 ?_;refine aM ha ?_;refine a9 ?_;refine aM hb ?_;refine a9 ?_;refine dw (by kernel_rfl) ?_;refine a9 ?_;refine aM m_ ?_;refine a9 ?_;refine aM kY ?_;refine a9 ?_;refine aM vC ?_;refine a9 ?_;refine bc rfl
theorem LC (r1 r2:Raw) (gL:r1.Ok 2000000000) (f1:r2.Ok 2000000000) (h0:r2.q≠0):Den Tryz.prog 209 [] [r1.v,r2.v] [] (.tup [FR (r1.q / r2.q),.int .i64 0]):=by
 have ha:=kg r1 (gL.mono (by decide));have hb:=kg r2 (f1.mono (by decide));have b1:=gL.bd (by decide);have b2:=f1.bd (by decide);have c1:=bn b1;have c2:=bn b2;have yI:r2.q.num.natAbs≠0:=fun h=>h0 (Rat.num_eq_zero.1 (by omega))
 have hq:f2 (decide (r1.q.num<0) !=decide (r2.q.num<0)) (r1.q.num.natAbs*r2.q.den) (r1.q.den*r2.q.num.natAbs)=r1.q / r2.q:=by
  rw[<-u_ yI r2.q.den_nz,cG,cG]
 have m_:=vQ (ai r1.q.num.natAbs) (ai r2.q.den) (al _) (al _) (by have:=c1.lnum;simp only[cn] at this;omega) (by have:=c2.lden;simp only[cn] at this;omega);have kY:=vQ (ai r1.q.den) (ai r2.q.num.natAbs) (al _) (al _) (by have:=c1.lden;simp only[cn] at this;omega) (by have:=c2.lnum;simp only[cn] at this;omega);have vB:=bZ (aK b1.1 b2.2);have nI:=bZ (aK b1.2 b2.1);have vC:=vR (decide (r1.q.num<0) !=decide (r2.q.num<0)) (ai (r1.q.num.natAbs*r2.q.den)) (ai (r1.q.den*r2.q.num.natAbs)) (al _) (al _) (by omega) (by omega) (by rw[aj];exact Nat.mul_ne_zero r1.q.den_nz yI);rw[aj,aj,hq] at vC;rw[aj,aj] at m_ kY;have hz:(((ai r2.q.num.natAbs).length:Int)==0)=false:=by
  rw[qx];exact fun h=>yI (dt.1 h)
 rw[a_] at ha hb vC ⊢;unfold Raw.v at ha hb ⊢;rw[cR] at m_ kY;rw[cR,cR] at ha hb;refine dq Tryz.func209 29 0 ?_;refine aW ?_;refine dw (by kernel_rfl) ?_;refine a9 ?_;refine aM ha ?_;refine a9 ?_;refine aM hb ?_;refine ah hz ?_;refine dw (by kernel_rfl) ?_;refine a9 ?_;refine aM m_ ?_;refine a9 ?_;refine aM kY ?_;refine a9 ?_;refine aM vC ?_;refine a9 ?_;refine bc rfl
theorem An {a c j k m:Nat} (ha:a<B^j) (hc:c<B^k) (hj:j<=m) (hk:k<=m):(ai (a+c)).length<=m+1:=
 bZ (md (nQ ha hj) (nQ hc hk))
theorem LD (r1 r2:Raw) (gL:r1.Ok 1000000000) (f1:r2.Ok 1000000000):Den Tryz.prog 48 [] [r1.v,r2.v] [] (FR (r1.q+r2.q)):=by
 have ha:=kg r1 (gL.mono (by decide));have hb:=kg r2 (f1.mono (by decide));have b1:=gL.bd (by decide);have b2:=f1.bd (by decide);have c1:=bn b1;have c2:=bn b2;have hq:=pU (decide (r1.q.num<0)) (decide (r2.q.num<0)) (a:=r1.q.num.natAbs) (c:=r2.q.num.natAbs) r1.q.den_nz r2.q.den_nz;rw[cG,cG] at hq;have gJ:=Nat.mul_ne_zero r1.q.den_nz r2.q.den_nz;have m_:=vQ (ai r1.q.num.natAbs) (ai r2.q.den) (al _) (al _) (by have:=c1.lnum;simp only[cn] at this;omega) (by have:=c2.lden;simp only[cn] at this;omega);have kY:=vQ (ai r2.q.num.natAbs) (ai r1.q.den) (al _) (al _) (by have:=c2.lnum;simp only[cn] at this;omega) (by have:=c1.lden;simp only[cn] at this;omega)
 have R0:=vQ (ai r1.q.den) (ai r2.q.den) (al _) (al _) (by have:=c1.lden;simp only[cn] at this;omega) (by have:=c2.lden;simp only[cn] at this;omega);have vB:=bZ (aK b1.1 b2.2);have nI:=bZ (aK b2.1 b1.2);have R7:=bZ (aK b1.2 b2.2);have uT:=An (m:=2000000000) (aK b1.1 b2.2) (aK b2.1 b1.2) (by decide) (by decide);rw[aj,aj] at m_ kY R0;rw[a_] at ha hb;unfold Raw.v at ha hb ⊢;rw[cR] at m_ kY R0;rw[cR,cR] at ha hb;rw[hq];obtain⟨x,hx⟩:=ax (r1.q.num.natAbs*r2.q.den);obtain⟨y,hy⟩:=ax (r2.q.num.natAbs*r1.q.den);obtain⟨z,hz⟩:=ax (r1.q.den*r2.q.den);rw[hx] at m_ vB uT;rw[hy] at kY nI uT;rw[hz] at R0 R7 gJ;rw[hx,hy,hz];obtain⟨s,hs⟩:=ax (decide (r1.q.num<0));obtain⟨t,ht⟩:=ax (decide (r2.q.num<0));rw[hs] at ha;rw[ht] at hb;rw[hs,ht]
 refine dq Tryz.func48 65 0 ?_;refine aW ?_;refine dw (by kernel_rfl) ?_;refine a9 ?_;refine aM ha ?_;refine a9 ?_;refine aM hb ?_;refine a9 ?_;refine dw (by kernel_rfl) ?_;refine a9 ?_;refine aM m_ ?_;refine a9 ?_;refine aM kY ?_;refine a9 ?_;refine aM R0 ?_;by_cases bQ:s=t
 .have hb:(s==t)=true:=by rw[bQ];exact beq_self_eq_true _
  have Ov:=Tl (ai x) (ai y) (al _) (al _) (by omega) (by omega);rw[aj,aj,cR] at Ov;have vC:=vR s (ai (x+y)) (ai z) (al _) (al _) (by omega) (by omega) (by rw[aj];exact gJ);rw[aj,aj,<-Ak bQ gJ,a_] at vC;rw[a_];refine ah hb ?_;refine dw (by kernel_rfl) ?_;refine a9 ?_;refine aM Ov ?_;refine a9 ?_;refine aM vC ?_;refine a9 ?_;refine bc rfl
 have hb:(s==t)=false:=by rw[qx];exact bQ
 by_cases aG:x<y
 .have KX:=PY (ai x) (ai y) (al _) (al _) (by omega) (by omega) (by rw[aj,aj];exact aG);have abK:=Tp (ai y) (ai x) (al _) (al _) (by omega) (by omega) (by rw[aj,aj];omega);rw[aj,aj,cR] at abK;have ia:=cq (Nat.sub_le y x);have vC:=vR t (ai (y - x)) (ai z) (al _) (al _) (by omega) (by omega) (by rw[aj];exact gJ);rw[aj,aj,<-sF bQ aG gJ,a_] at vC;rw[a_];have BV:((1:Int)==0)=false:=rfl;refine ah hb ?_;refine aM KX ?_;refine ah BV ?_;refine aM abK ?_;refine a9 ?_;refine aM vC ?_;refine a9 ?_;refine bc rfl
 have KX:=Tp (ai x) (ai y) (al _) (al _) (by omega) (by omega) (by rw[aj,aj];omega);rw[aj,aj,cR] at KX;have ia:=cq (Nat.sub_le x y);have vC:=vR s (ai (x - y)) (ai z) (al _) (al _) (by omega) (by omega) (by rw[aj];exact gJ);rw[aj,aj,<-sG bQ aG gJ,a_] at vC;rw[a_];have h00:((0:Int)==0)=true:=rfl;refine ah hb ?_;refine aM KX ?_;refine ah h00 ?_;refine aM vC ?_;refine a9 ?_;refine bc rfl
theorem Zz (r1 r2:Raw) (gL:r1.Ok 1000000000) (f1:r2.Ok 1000000000):Den Tryz.prog 86 [] [r1.v,r2.v] [] (FR (r1.q - r2.q)):=by
 have nA:=Tr r2 (f1.mono (by decide));have b2:=f1.bd (by decide);have Ow:=LD r1 (cn (-r2.q)) gL (bn b2.neg);rw[cK,<-Rat.sub_eq_add_neg] at Ow;change Den Tryz.prog 48 [] [r1.v,FR (-r2.q)] [] _ at Ow;rw[a_] at nA;rw[a_,a_] at Ow;rw[a_];unfold Raw.v at nA Ow ⊢;refine dq Tryz.func86 7 0 ?_;refine aW ?_;refine dw (by kernel_rfl) ?_;refine a9 ?_;refine aM nA ?_;refine a9 ?_;refine aM Ow ?_;refine a9 ?_;refine bc rfl
theorem LF (r1 r2:Raw) (gL:r1.Ok 1000000000) (f1:r2.Ok 1000000000):Den Tryz.prog 34 [] [r1.v,r2.v] [] (.int .i64 (eg (r1.q - r2.q))):=by
 have b1:=gL.bd (by decide);have b2:=f1.bd (by decide);have R8:=Zz r1 r2 gL f1;have iX:=kh (cn (r1.q - r2.q)) ((bn (b1.sub b2 (by decide))).mono (by decide));rw[cK] at iX;change Den Tryz.prog 41 [] [FR (r1.q - r2.q)] [] _ at iX;rw[a_] at R8 iX;unfold Raw.v at R8 ⊢;refine dq Tryz.func34 7 0 ?_;refine aW ?_;refine aM R8 ?_;refine a9 ?_;refine aM iX ?_;refine a9 ?_;refine bc ?_;exact D7
theorem iP (n:Int) (hn: -9223372036854775808<=n/\n<9223372036854775808):Den Tryz.prog 30 [] [.int .i64 n] [] (FR (n:Rat)):=by
 have l1:ai 1=[1]:=ld (l:=[1]) (fun d hd=>by simp at hd;subst hd;decide) (Or.inr (by decide));have afR:((n:Int):Rat).num=n:=rfl;have bW:((n:Int):Rat).den=1:=rfl;rw[a_,afR,bW];unfold N;rw[l1];refine dq Tryz.func30 28 0 ?_;refine aW ?_;refine bK ?_ ?_
 .intro h1 h2;obtain⟨k,hk⟩: ∃ k:Nat,n=(k:Int):=⟨n.toNat,by omega⟩;have KY:=Tn k (by omega);rw[<-hk,cR] at KY;rw[mU (show¬n<0 by omega),show n.natAbs=k by omega];refine ah h2 ?_;refine aM KY ?_;refine a9 ?_;refine bc rfl
 intro h1 h2;obtain⟨k,hk⟩: ∃ k:Nat,n= -((k:Int)+1):=⟨(-n - 1).toNat,by omega⟩;have KY:=Tn k (by omega);have k6:(ai k).length<=2:=aD (Nat.lt_of_lt_of_le (show k<18446744073709551616 by omega) (by decide));have Ov:=Tl (ai k) [1] (al _) (Dig.mk (by decide) Dig.nil) (by omega) (by simp);have hv1:val [1]=1:=rfl;rw[aj,hv1,cR] at Ov;rw[cR] at KY;rw[iK (show n<0 by omega),show n.natAbs=k+1 by omega];have e1:0 - (n+1)=(k:Int):=by omega
 simp -dsimp(disch:=omega) only[h2,e1,IntKind.bits,Int.reduceToNat,Int.reducePow,Option.isNone_none,↓reduceIte,reduceCtorEq,reduceAdd,reduceMul,reduceSub,Nat.reduceBEq,reduceEqDiff,reduceLT,reduceLeDiff,ru];refine aM KY ?_;refine a9 ?_;refine gp Ov ?_ ?_
 .rfl
 refine a9 ?_;refine bc rfl
def tQ (r1 r2:Raw):Bool:=r1.neg==r2.neg&&(r1.num==r2.num&&r1.den==r2.den)
theorem LG (p q:Rat):tQ (cn p) (cn q)=decide (p=q):=by
 by_cases h:p=q
 .subst h;simp[tQ]
 rw[mU h];rcases hb:tQ (cn p) (cn q) with _ | _
 .rfl
 exfalso;simp only[tQ,hG,beq_iff_eq] at hb;apply h;rw[<-cK p,<-cK q];unfold Raw.q;rw[hb.1,hb.2.1,hb.2.2]
theorem LI (r1 r2:Raw) (gL:r1.Ok 5000000000) (f1:r2.Ok 5000000000):Den Tryz.prog 19 [] [r1.v,r2.v] [] (.bool (tQ r1 r2)):=by
 have h1:=Tk r1.num r2.num (by have:=gL.lnum;omega) (by have:=f1.lnum;omega);have h2:=Tk r1.den r2.den (by have:=gL.lden;omega) (by have:=f1.lden;omega);unfold Raw.v tQ;obtain⟨b1,dp⟩:=ax ((r1.num==r2.num));obtain⟨b2,dN⟩:=ax ((r1.den==r2.den));obtain⟨b0,ED⟩:=ax ((r1.neg==r2.neg));rw[dp] at h1;rw[dN] at h2;rw[ED,dp,dN];cases b0
 .refine dq Tryz.func19 22 0 ?_;refine cz ED ?_;refine bc rfl
 cases b1
 .refine dq Tryz.func19 22 0 ?_;refine cz ED ?_;refine aM h1 ?_;refine a9 ?_;refine bc rfl
 refine dq Tryz.func19 22 0 ?_;refine cz ED ?_;refine aM h1 ?_;refine a9 ?_;refine aM h2 ?_;refine a9 ?_;refine bc rfl
theorem Cg (p q:Int) (hq:q≠0):f2 (decide (p<0) !=decide (q<0)) p.natAbs q.natAbs=(p:Rat) / (q:Rat):=by
 have h:=u_ (s:=decide (p<0)) (t:=decide (q<0)) (a:=p.natAbs) (b:=1) (c:=q.natAbs) (d:=1) (by omega) (by decide);rw[Nat.mul_one,Nat.one_mul,Am,Am] at h;exact h.symm
theorem ZA (p q:Int) (hp: -9223372036854775808<=p/\p<9223372036854775808) (hq: -9223372036854775808<=q/\q<9223372036854775808) (h0:q≠0):Den Tryz.prog 93 [] [.int .i64 p,.int .i64 q] [] (.tup [FR ((p:Rat) / (q:Rat)),.int .i64 0]):=by
 have ha:=iP p hp;have hb:=iP q hq;have np:((p:Int):Rat).num=p:=rfl;have nq:((q:Int):Rat).num=q:=rfl;have RI:(ai p.natAbs).length<=2:=aD (Nat.lt_of_lt_of_le (show p.natAbs<18446744073709551616 by omega) (by decide));have hlq:(ai q.natAbs).length<=2:=aD (Nat.lt_of_lt_of_le (show q.natAbs<18446744073709551616 by omega) (by decide));have vC:=vR (decide (p<0) !=decide (q<0)) (ai p.natAbs) (ai q.natAbs) (al _) (al _) (by omega) (by omega) (by rw[aj];omega);rw[aj,aj,Cg p q h0] at vC;rw[a_] at ha hb vC ⊢;rw[np,cR] at ha;rw[nq,cR] at hb;have hz:(q==0)=false:=by rw[qx];exact h0
 refine dq Tryz.func93 23 0 ?_;refine cz hz ?_;refine aM ha ?_;refine a9 ?_;refine aM hb ?_;refine a9 ?_;refine aM vC ?_;refine a9 ?_;refine bc rfl
end Go.Proofs.YtiaaceeelfhdlaaGreat
namespace Go.Pl
open Go.AM
def Raw.c (r:Raw):List PV:=[.bool r.neg,.fv (.sl (u32s r.num)),.fv (.sl (u32s r.den))]
def Raw.f (r:Raw):List FV:=[.lit (.bool r.neg),.sl (u32s r.num),.sl (u32s r.den)]
def flat:List Raw->List PV
 | []=>[]
 | r::rs=> .bool r.neg:: .fv (.sl (u32s r.num)):: .fv (.sl (u32s r.den))::flat rs
def bR:List Raw->List FV
 | []=>[]
 | r::rs=> .lit (.bool r.neg):: .sl (u32s r.num):: .sl (u32s r.den)::bR rs
def rz:Raw:=⟨false,[],[]⟩
theorem ag: ∀ rs:List Raw,(flat rs).length=3*rs.length
 | []=>rfl
 | r::rs=>by simp only[flat,length_cons,ag rs];omega
theorem sH: ∀ (i:Nat) (rs:List Raw),(flat rs).drop (i*3)=flat (rs.drop i)
 | 0,rs=>by simp
 | i+1,[]=>by simp[flat]
 | i+1,r::rs=>by
  rw[Nat.add_mul,Nat.one_mul];show List.drop (i*3+2+1) _=_;simp only[flat,drop_succ_cons];exact sH i rs
theorem oH: ∀ (i:Nat) (rs:List Raw),(flat rs).take (i*3)=flat (rs.take i)
 | 0,rs=>by simp[flat]
 | i+1,[]=>by simp[flat]
 | i+1,r::rs=>by
  rw[Nat.add_mul,Nat.one_mul];show List.take (i*3+2+1) _=_;simp only[flat,take_succ_cons];rw[oH i rs]
theorem tR: ∀ (a b:List Raw),flat (a++b)=flat a++flat b
 | [],_=>rfl
 | r::a,b=>by simp[flat,tR a b]
theorem b9 {rs:List Raw} {i:Nat} (h:i<rs.length):List.take 3 (List.drop (i*3) (flat rs))=[.bool (rs.getD i rz).neg,.fv (.sl (u32s (rs.getD i rz).num)),.fv (.sl (u32s (rs.getD i rz).den))]:=by
 rw[sH,drop_eq_getElem_cons h];simp only[flat,take_succ_cons,List.take_zero];rw[qa,qb h];rfl
theorem dF {rs:List Raw} {i:Nat} (h:i<rs.length) (s:Bool) (a b:List Nat):
 List.take (i*3) (flat rs)++[.bool s,.fv (.sl (u32s a)),.fv (.sl (u32s b))]++List.drop (i*3+3) (flat rs)=flat (rs.set i ⟨s,a,b⟩):=by
 have e:i*3+3=(i+1)*3:=by omega
 rw[e,sH,oH,List.set_eq_take_append_cons_drop,if_pos h,tR]
 simp[flat]
theorem ki (H:List Ob): ∀ rs:List Raw,kc H (flat rs)=some (bR rs)
 | []=>rfl
 | r::rs=>by
  simp only[flat,kc,dI,ki H rs,bR]
theorem re: ∀ rs:List Raw,dr 3 rs.length (bR rs)=rs.map Raw.f
 | []=>rfl
 | r::rs=>by
  simp only[bR,length_cons,dr,take_succ_cons,List.take_zero,drop_succ_cons,List.drop_zero,map_cons];rw[re rs];rfl
def e_ (g:Raw->Raw) (i:Nat) (rs:List Raw):List Raw:=(rs.take i).map g++rs.drop i
theorem rh (g:Raw->Raw) (i:Nat) (rs:List Raw):(e_ g i rs).length=rs.length:=by
 unfold e_;rw[qe,length_map,length_take,qt];omega
theorem aZ (g:Raw->Raw) (rs:List Raw):e_ g 0 rs=rs:=by simp[e_]
theorem yY (g:Raw->Raw) {n:Nat} (rs:List Raw) (h:rs.length=n):e_ g n rs=rs.map g:=by
 subst h;simp[e_]
theorem me (g:Raw->Raw) {i j:Nat} (rs:List Raw) (h:j<rs.length) (hi:i<=j):(e_ g i rs).getD j rz=rs.getD j rz:=by
 unfold e_;rw[qa,qh (by rw[length_map,length_take];omega),List.getElem?_drop,qa];congr 2;rw[length_map,length_take];omega
theorem oI (g:Raw->Raw) {i:Nat} (rs:List Raw) (h:i<rs.length):(e_ g i rs).set i (g (rs.getD i rz))=e_ g (i+1) rs:=by
 unfold e_;rw[List.set_append_right _ _ (by rw[length_map,length_take];omega)];have e:i - ((rs.take i).map g).length=0:=by rw[length_map,length_take];omega
 rw[e,drop_eq_getElem_cons h,List.set_cons_zero,take_succ_eq_append_getElem h,BM];simp[qa,h]
def RL (rs:List Raw):PV:= .agg (flat rs)
def FL (qs:List Rat):PV:=RL (qs.map cn)
structure LOk (k:Nat) (rs:List Raw):Prop where
 len:rs.length=9
 ok: ∀ r∈rs,r.Ok k
theorem LOk.at {k:Nat} {rs:List Raw} (h:LOk k rs) (i:Nat):(rs.getD i rz).Ok k:=by
 by_cases hi:i<rs.length
 .rw[qa,qb hi];exact h.ok _ (pP hi)
 rw[qa,getElem?_eq_none (by omega)];exact⟨Dig.nil,Dig.nil,dU _,dU _⟩
theorem LOk.mono {j k:Nat} {rs:List Raw} (h:LOk j rs) (hk:j<=k):LOk k rs:=⟨h.len,fun r hr=>(h.ok r hr).mono hk⟩
theorem LOk.map {k:Nat} {rs:List Raw} {g:Raw->Rat} (h:rs.length=9) (hg: ∀ r∈rs,Bd k (g r)):LOk k ((rs.map g).map cn):=
 ⟨by simp[h],fun r hr=>by
  simp only[mem_map] at hr;obtain⟨q,⟨r',hr',rfl⟩,rfl⟩:=hr;exact bn (hg r' hr')⟩
end Go.Pl
namespace Go.Proofs.YtiaaceeelfhdlaaGreat
open Go.AM Go.Pl
theorem gP: ∀ rs:List Raw,(bR rs).map PV.fv=flat rs
 | []=>rfl
 | r::rs=>by simp only[bR,flat,map_cons,gP rs]
theorem jJ: ∀ rs:List Raw,(flat rs).flatMap eu=[]
 | []=>rfl
 | r::rs=>by simp only[flat,List.flatMap_cons,eu,nil_append,jJ rs]
theorem iv (f:Nat->Nat): ∀ rs:List Raw,(flat rs).map (reloc1 f)=flat rs
 | []=>rfl
 | r::rs=>by simp only[flat,map_cons,reloc1,iv f rs]
theorem lj (H:List Ob) (keep:List Nat): ∀ rs:List Raw,qE H keep (flat rs)=some (flat rs)
 | []=>rfl
 | r::rs=>by simp only[flat,qE,qD,dS,dI,Option.map_some,lj H keep rs]
theorem ar {rs:List Raw} (h:rs.length=9):List.take 27 (flat rs)=flat rs:=
 dm (by rw[ag];omega)
theorem bA (ids:List Nat): ∀ rs:List Raw,aU ids (flat rs) (flat rs)
 | []=>by simp[flat,aU]
 | r::rs=>by simp[flat,aU,cJ,bA ids rs]
def Ts:Option (List FV)->Option (List FV)
 | some x=>some [.fp x]
 | none=>none
def LJ:Option Ob->Option (List PV)
 | some (.box _ cs)=>some cs
 | _=>none
theorem ln (H:List Ob):pQ H []=some []:=rfl
theorem nR (H:List Ob) (id:Nat):pQ H [.ptr id 0 0]=match LJ (H[id]?) with | some cs=>Ts (kc H cs) | none=>none:=by
 simp only[pQ,dS];cases h:H[id]? with
 | none=>rfl
 | some o=>cases o with
  | box w cs=>
   simp only[LJ];cases kc H cs<;>rfl
  | row w xs=>rfl
  | dead=>rfl
  | tab n es=>rfl
theorem lz (w:Bool) (cs:List PV):LJ (some (.box w cs))=some cs:=rfl
theorem jK (x:List FV):Ts (some x)=some [.fp x]:=rfl
def yg (rs:List Raw) (v:Nat):List PV:=List.take (v*3) (flat rs)++[.bool false,.nilsl,.nilsl]++List.drop (v*3+3) (flat rs)
theorem yZ (r:Raw) (rs:List Raw) (v:Nat):yg (r::rs) (v+1)= .bool r.neg:: .fv (.sl (u32s r.num)):: .fv (.sl (u32s r.den))::yg rs v:=by
 unfold yg;have e1:(v+1)*3=v*3+2+1:=by omega
 have e2:(v+1)*3+3=(v*3+3)+2+1:=by omega
 rw[e2,e1];simp only[flat,take_succ_cons,drop_succ_cons,List.cons_append]
theorem Ch (H:List Ob): ∀ (v:Nat) (rs:List Raw),v<rs.length->kc H (yg rs v)=some (bR (rs.set v rz))
 | 0,r::rs,_=>by
  have h:=ki H rs;simp[yg,flat,bR,kc,dI,h,rz,u32s]
 | v+1,r::rs,h=>by
  rw[yZ];have h2:=Ch H v rs (by simpa using h);simp only[kc,dI,h2,List.set_cons_succ,bR]
 | _,[],h=>by simp at h
theorem Ci: ∀ (v:Nat) (rs:List Raw),v<rs.length->(yg rs v).flatMap eu=[]
 | 0,r::rs,_=>by
  have h:=jJ rs;simp only[yg,flat,Nat.zero_mul,List.take_zero,nil_append,Nat.zero_add,drop_succ_cons,List.drop_zero,List.cons_append,List.flatMap_cons,eu,h]
 | v+1,r::rs,h=>by
  rw[yZ];have h2:=Ci v rs (by simpa using h);simp only[List.flatMap_cons,eu,h2,nil_append]
 | _,[],h=>by simp at h
theorem Cj {rs:List Raw} {v:Nat} (h:v<rs.length) (hl:rs.length=9):(yg rs v).length=27:=by
 have:=ag rs;unfold yg;simp only[qe,length_take,qt,length_cons,length_nil];omega
def bJ:Nat->List PV
 | 0=>[]
 | n+1=> .bool false:: .nilsl:: .nilsl::bJ n
theorem iQ:List.drop 27 (bJ 9)=[]:=rfl
theorem f3:(bJ 9).length=27:=rfl
abbrev zu:=qy @jJ (qy @iv (qy @ki (qy @iQ (qy @f3 (qy @ln (qy @nR (qy @lz (qy @jK (@List.append_nil.{0})))))))))
theorem bh (ids:List Nat): ∀ n,aU ids (bJ n) (bJ n)
 | 0=>by simp[bJ,aU]
 | n+1=>by simp[bJ,aU,cJ,bh ids n]
theorem RetOK.form {st:St} {a id:Nat} {w:Bool} {rs:List Raw} (ha:st.get a= .ptr id 0 0) (hb:st.heap[id]?=some (.box w (flat rs))) (hl:rs.length=9):RetOK tab [.cell a 60] 0 st [] (RL rs):=by
 refine Ph (vs:=[.agg (flat rs)]) (cd:=(0=0/\0+27<=(flat rs).length)/\True) ?_ ⟨⟨rfl,by rw[ag];omega⟩,b'⟩ ?_
 .simp[eB,r9,ha,Ld,IE,ee,hb,ig,ar hl,TyI.isAgg]
 simp[bN,qG,ur,lj,RL]
theorem RetOK.form2 {st:St} {a id x:Nat} {w:Bool} {rs:List Raw} {v:FV} (ha:st.get a= .ptr id 0 0) (hb:st.heap[id]?=some (.box w (flat rs))) (hl:rs.length=9) (hx:st.get x= .fv v):
 RetOK tab [.cell a 60,.tmp x] 0 st [] (.tup [RL rs,.fv v]):=by
 refine Ph (vs:=[.agg (flat rs),.fv v]) (cd:=(0=0/\0+27<=(flat rs).length)/\True/\True) ?_ ⟨⟨rfl,by rw[ag];omega⟩,b',b'⟩ ?_
 .simp[eB,r9,ha,Ld,IE,ee,hb,ig,ar hl,TyI.isAgg,hx]
 simp[bN,qG,qF,ur,lj,RL,qD,dS,dI]
theorem RetOK.form3 {st:St} {a id x y:Nat} {w:Bool} {rs:List Raw} {v u:FV} (ha:st.get a= .ptr id 0 0) (hb:st.heap[id]?=some (.box w (flat rs))) (hl:rs.length=9) (hx:st.get x= .fv v) (hy:st.get y= .fv u):
 RetOK tab [.cell a 60,.tmp x,.tmp y] 0 st [] (.tup [RL rs,.fv v,.fv u]):=by
 refine Ph (vs:=[.agg (flat rs),.fv v,.fv u]) (cd:=(0=0/\0+27<=(flat rs).length)/\True/\True/\True) ?_ ⟨⟨rfl,by rw[ag];omega⟩,b',b',b'⟩ ?_
 .simp[eB,r9,ha,Ld,IE,ee,hb,ig,ar hl,TyI.isAgg,hx,hy]
 simp[bN,qG,qF,ur,lj,RL,qD,dS,dI]
set_option maxRecDepth 100000
set_option maxHeartbeats 2000000
theorem tS (r:Raw):Den Tryz.prog 91 [] [r.v] [] (.bool ((r.num.length:Int)==0)):=by
 unfold Raw.v;refine dq Tryz.func91 6 0 ?_;refine aW ?_;refine bc rfl
theorem nS {r:Raw} (h:(r.num.length:Int)=0):r.q=0:=by
 have:r.num=[]:=List.length_eq_zero_iff.1 (by omega);unfold Raw.q;rw[this];exact lh rfl
theorem LK (rs:List Raw) (c:Raw) (e8:LOk 2000000000 rs) (hc:c.Ok 2000000000):Den Tryz.prog 90 [] [RL rs,c.v] [] (FL (rs.map (fun r=>r.q*c.q))):=by
 have aA:=e8.len;have k4:=ag rs;have nB:=iP 0 (by decide);rw[show((0:Int):Rat)=0 from rfl,a_,bx,bx] at nB;obtain⟨g,hg⟩: ∃ g:Raw->Raw,g=fun r=>cn (r.q*c.q):=⟨_,rfl⟩
 have Wo:(rs.map (fun r=>r.q*c.q)).map cn=rs.map g:=by rw[hg,List.map_map];rfl
 unfold FL RL Raw.v;rw[Wo];refine dq Tryz.func90 32 0 ?_;refine aW ?_;refine⟨by omega,?_⟩;refine wl (α:=Nat) (fun i=>⟨[.any,.any,.ptr 0 0 0,.ptr 1 0 0,.ptr 2 0 0,.int .i64 i]++replicate 28 .any,[.box true (flat (e_ g i rs)),.box true [.bool c.neg,.fv (.sl (u32s c.num)),.fv (.sl (u32s c.den))],.box true (bJ 9)]⟩)
  (fun i=>8 - i) (fun i=>i<=8) 0 ?_ ?_ ?_
 .exact bP [0,1,2]
 .exact dU _
 rintro i hi;have tD:=rh g i rs;have hfm:=ag (e_ g i rs);refine aW ?_;refine bK ?_ ?_
 .intro h1 h2;have dZ:=b9 (rs:=e_ g i rs) (i:=i) (by omega);rw[me g rs (by omega) (qp _)] at dZ;have bQ:=oI g rs (i:=i) (by omega);obtain⟨r,hr⟩:=ax (rs.getD i rz);have bf:r.Ok 2000000000:=by rw[<-hr];exact e8.at i
  rw[hr] at dZ bQ;have EH:=tS r;unfold Raw.v at EH;refine ah (a8 h2 dZ) ?_;refine⟨by omega,by omega,?_⟩;refine aM EH ?_;refine a9 ?_;refine Br.beqInt ?_ ?_
  .intro h3 h4;have bg:=dF (rs:=e_ g i rs) (i:=i) (by omega) (decide ((0:Rat).num<0)) (ai (0:Rat).num.natAbs) (ai (0:Rat).den);have xF:g r=⟨decide ((0:Rat).num<0),ai (0:Rat).num.natAbs,ai (0:Rat).den⟩:=by
    rw[hg];dsimp only;rw[nS h3,Rat.zero_mul];rfl
   rw[<-xF,bQ] at bg;refine aF h4 ?_;refine aM nB ?_;refine aF bg ?_
   repeat refine ae ?_
   refine aw (i+1) ?_ (by omega);exact bP [0,1,2]
  intro h3 h4;have KZ:=LB r c bf hc;have xF:g r=⟨decide ((r.q*c.q).num<0),ai (r.q*c.q).num.natAbs,ai (r.q*c.q).den⟩:=by
   rw[hg];rfl
  have bg:=dF (rs:=e_ g i rs) (i:=i) (by omega) (decide ((r.q*c.q).num<0)) (ai (r.q*c.q).num.natAbs) (ai (r.q*c.q).den);rw[<-xF,bQ] at bg;rw[a_,bx,bx] at KZ;unfold Raw.v at KZ;refine aF h4 ?_;refine dw (by kernel_rfl) ?_;refine aF dZ ?_
  repeat refine ae ?_
  refine aM KZ ?_;refine aF bg ?_
  repeat refine ae ?_
  refine aw (i+1) ?_ (by omega);exact bP [0,1,2]
 intro h1 h2;have yc:i=8:=by omega
 subst yc;have dZ:=b9 (rs:=e_ g 8 rs) (i:=8) (by omega);rw[me g rs (by omega) (qp _)] at dZ;have bQ:=oI g rs (i:=8) (by omega);have pe:=yY g rs aA;obtain⟨r,hr⟩:=ax (rs.getD 8 rz);have bf:r.Ok 2000000000:=by rw[<-hr];exact e8.at 8
 rw[hr] at dZ bQ;have KZ:=LB r c bf hc;have xF:g r=⟨decide ((r.q*c.q).num<0),ai (r.q*c.q).num.natAbs,ai (r.q*c.q).den⟩:=by
  rw[hg];rfl
 have bg:=dF (rs:=e_ g 8 rs) (i:=8) (by omega) (decide ((r.q*c.q).num<0)) (ai (r.q*c.q).num.natAbs) (ai (r.q*c.q).den);rw[<-xF,bQ,pe] at bg;rw[a_,bx,bx] at KZ;unfold Raw.v at KZ;simp only[reduceMul,reduceAdd] at dZ bg;have ux:(rs.map g).length=9:=by simp[aA]
 have kO:(flat (rs.map g)).length=27:=by rw[ag];omega
 have ht:=ar ux;refine aF (a8 h2 dZ) ?_
 repeat refine ae ?_
 refine aM KZ ?_;refine aF (bB bg ht kO) ?_
 repeat refine ae ?_
 exact RetOK.form rfl rfl ux
theorem LL (rs:List Raw) (e8:LOk 2000000000 rs):Den Tryz.prog 221 [] [RL rs] [] (FL (rs.map Raw.q)):=by
 have aA:=e8.len;have k4:=ag rs;have nB:=iP 0 (by decide);rw[show((0:Int):Rat)=0 from rfl,a_,bx,bx] at nB;obtain⟨g,hg⟩: ∃ g:Raw->Raw,g=fun r=>cn r.q:=⟨_,rfl⟩
 have Wo:(rs.map Raw.q).map cn=rs.map g:=by rw[hg,List.map_map];rfl
 unfold FL RL;rw[Wo];refine dq Tryz.func221 29 0 ?_;refine aW ?_;refine⟨by omega,?_⟩;refine wl (α:=Nat) (fun i=>⟨[.any,.ptr 0 0 0,.ptr 1 0 0,.int .i64 i]++replicate 26 .any,[.box true (flat (e_ g i rs)),.box true (bJ 9)]⟩)
  (fun i=>8 - i) (fun i=>i<=8) 0 ?_ ?_ ?_
 .exact bP [0,1]
 .exact dU _
 rintro i hi;have tD:=rh g i rs;have hfm:=ag (e_ g i rs);refine aW ?_;refine bK ?_ ?_
 .intro h1 h2;have dZ:=b9 (rs:=e_ g i rs) (i:=i) (by omega);rw[me g rs (by omega) (qp _)] at dZ;have bQ:=oI g rs (i:=i) (by omega);obtain⟨r,hr⟩:=ax (rs.getD i rz);have bf:r.Ok 2000000000:=by rw[<-hr];exact e8.at i
  rw[hr] at dZ bQ;have EH:=tS r;unfold Raw.v at EH;refine ah (a8 h2 dZ) ?_;refine⟨by omega,by omega,?_⟩;refine aM EH ?_;refine a9 ?_;refine Br.beqInt ?_ ?_
  .intro h3 h4;have bg:=dF (rs:=e_ g i rs) (i:=i) (by omega) (decide ((0:Rat).num<0)) (ai (0:Rat).num.natAbs) (ai (0:Rat).den);have xF:g r=⟨decide ((0:Rat).num<0),ai (0:Rat).num.natAbs,ai (0:Rat).den⟩:=by
    rw[hg];dsimp only;rw[nS h3];rfl
   rw[<-xF,bQ] at bg;refine aF h4 ?_;refine aM nB ?_;refine aF bg ?_
   repeat refine ae ?_
   refine aw (i+1) ?_ (by omega);exact bP [0,1]
  intro h3 h4;have kN:=kg r (bf.mono (by decide));have xF:g r=⟨decide (r.q.num<0),ai r.q.num.natAbs,ai r.q.den⟩:=by
   rw[hg];rfl
  have bg:=dF (rs:=e_ g i rs) (i:=i) (by omega) (decide (r.q.num<0)) (ai r.q.num.natAbs) (ai r.q.den);rw[<-xF,bQ] at bg;rw[a_,bx,bx] at kN;unfold Raw.v at kN;refine aF (a8 h4 dZ) ?_
  repeat refine ae ?_
  refine aM kN ?_;refine aF bg ?_
  repeat refine ae ?_
  refine aw (i+1) ?_ (by omega);exact bP [0,1]
 intro h1 h2;have yc:i=8:=by omega
 subst yc;have dZ:=b9 (rs:=e_ g 8 rs) (i:=8) (by omega);rw[me g rs (by omega) (qp _)] at dZ;have bQ:=oI g rs (i:=8) (by omega);have pe:=yY g rs aA;obtain⟨r,hr⟩:=ax (rs.getD 8 rz);have bf:r.Ok 2000000000:=by rw[<-hr];exact e8.at 8
 rw[hr] at dZ bQ;have kN:=kg r (bf.mono (by decide));have xF:g r=⟨decide (r.q.num<0),ai r.q.num.natAbs,ai r.q.den⟩:=by
  rw[hg];rfl
 have bg:=dF (rs:=e_ g 8 rs) (i:=8) (by omega) (decide (r.q.num<0)) (ai r.q.num.natAbs) (ai r.q.den);rw[<-xF,bQ,pe] at bg;rw[a_,bx,bx] at kN;unfold Raw.v at kN;simp only[reduceMul,reduceAdd] at dZ bg;have ux:(rs.map g).length=9:=by simp[aA]
 have kO:(flat (rs.map g)).length=27:=by rw[ag];omega
 have ht:=ar ux;refine aF (a8 h2 dZ) ?_
 repeat refine ae ?_
 refine aM kN ?_;refine aF (bB bg ht kO) ?_
 repeat refine ae ?_
 exact RetOK.form rfl rfl ux
theorem rz_ok {k:Nat}:rz.Ok k:=⟨Dig.nil,Dig.nil,dU _,dU _⟩
theorem PZ:rz.q=0:=lh rfl
theorem nT {k:Nat}:LOk k (replicate 9 rz):=⟨rfl,fun r hr=>by rw[List.eq_of_mem_replicate hr];exact rz_ok⟩
theorem LM:Den Tryz.prog 175 [] [] [] (FL (replicate 9 0)):=by
 have Ii:=LL (replicate 9 rz) nT;have e:(replicate 9 rz).map Raw.q=replicate 9 0:=by rw[List.map_replicate,PZ]
 rw[e] at Ii;unfold FL RL at Ii ⊢;obtain⟨zs,hz⟩:=ax ((replicate 9 (0:Rat)).map cn);have l7:zs.length=9:=by rw[<-hz];simp
 rw[hz] at Ii ⊢;have kO:(flat zs).length=27:=by rw[ag];omega
 refine dq Tryz.func175 3 0 ?_;refine kI ?_;refine aM Ii ?_;refine aF kO ?_
 repeat refine ae ?_
 exact RetOK.form rfl rfl l7
end Go.Proofs.YtiaaceeelfhdlaaGreat
namespace Go.Pl
open Go.AM
def bF:List Raw->Raw
 | []=>rz
 | [c]=>c
 | r::s::t=>if r.q=0 then bF (s::t) else r
theorem vS {rs:List Raw} {i:Nat} (h:i+1<rs.length):bF (rs.drop i)=if(rs.getD i rz).q=0 then bF (rs.drop (i+1)) else rs.getD i rz:=by
 have h1:rs.drop i=rs.getD i rz::rs.drop (i+1):=by
  rw[drop_eq_getElem_cons (by omega)];rw[qa,qb (by omega)];rfl
 have h2:rs.drop (i+1)=rs[i+1]::rs.drop (i+2):=drop_eq_getElem_cons h;rw[h1,h2];rfl
theorem vT {rs:List Raw} {i:Nat} (h:i+1=rs.length):bF (rs.drop i)=rs.getD i rz:=by
 have h1:rs.drop i=rs.getD i rz::rs.drop (i+1):=by
  rw[drop_eq_getElem_cons (by omega)];rw[qa,qb (by omega)];rfl
 have h2:rs.drop (i+1)=[]:=List.drop_of_length_le (by omega);rw[h1,h2];rfl
theorem mf: ∀ {rs:List Raw},(bF rs).q=0-> ∀ r∈rs,r.q=0
 | [],_,r,hr=>by simp at hr
 | [c],h,r,hr=>by
  simp at hr;subst hr;exact h
 | a::s::t,h,r,hr=>by
  unfold bF at h;split at h
  .rename_i h0;rcases List.mem_cons.1 hr with h1 | h1
   .subst h1;exact h0
   exact mf h r h1
  rename_i h0;exact absurd h h0
theorem oJ: ∀ {rs:List Raw},rs≠[]->bF rs∈rs
 | [],h=>absurd rfl h
 | [c],_=>by simp[bF]
 | a::s::t,_=>by
  unfold bF;split
  .exact ql _ (oJ (by simp))
  simp
theorem aQ {q:Rat}:eg q=0↔q=0:=by
 unfold eg;rw[Int.sign_eq_zero_iff_zero];exact Rat.num_eq_zero
theorem GV:rz.q=0:=lh rfl
def dV (c:Rat):Rat:=if c.num<0 then -c else c
def Ex (rs:List Raw):List Rat:=if(bF rs).q=0 then replicate 9 0 else rs.map (fun r=>r.q / dV (bF rs).q)
theorem oK {c:Rat} (h:c≠0):dV c≠0:=by
 unfold dV;split
 .intro h1;apply h;grind
 exact h
theorem Ck (x c:Rat):x*(1 / c)=x / c:=by grind
theorem lA {rs:List Raw} (h:(bF rs).q=0):Ex rs=replicate 9 0:=if_pos h
theorem sI {rs:List Raw} (h:(bF rs).q≠0):Ex rs=rs.map (fun r=>r.q / dV (bF rs).q):=if_neg h
theorem IL {rs:List Raw} (h:(bF rs).q=0) (hl:rs.length=9):Ex rs=rs.map Raw.q:=by
 rw[lA h];have h1:rs.map Raw.q=rs.map (fun _=>(0:Rat)):=List.map_congr_left (fun r hr=>mf h r hr);rw[h1,List.map_const',hl]
theorem GW {c:Rat} (h0:c≠0) (h: ¬c.num<0):eg c=1:=Al (fun h1=>h0 (Rat.num_eq_zero.1 (by omega))) h
def iR (g:Raw->Raw) (i:Nat) (rs:List Raw):List Raw:=(rs.take i).map g++replicate (rs.length - i) rz
theorem ri (g:Raw->Raw) {i:Nat} (rs:List Raw) (h:i<=rs.length):(iR g i rs).length=rs.length:=by
 unfold iR;rw[qe,length_map,length_take,Ux];omega
theorem y0 (g:Raw->Raw) {i:Nat} (rs:List Raw) (h:i<rs.length):(iR g i rs).set i (g (rs.getD i rz))=iR g (i+1) rs:=by
 unfold iR;rw[List.set_append_right _ _ (by rw[length_map,length_take];omega)];have e:i - ((rs.take i).map g).length=0:=by rw[length_map,length_take];omega
 have e2:rs.length - i=(rs.length - (i+1))+1:=by omega
 rw[e,e2,List.replicate_succ,List.set_cons_zero,take_succ_eq_append_getElem h,BM];simp[qa,h]
theorem y3 (g:Raw->Raw) {n:Nat} (rs:List Raw) (h:rs.length=n):iR g n rs=rs.map g:=by
 subst h;simp[iR]
theorem vU (g:Raw->Raw) (rs:List Raw):iR g 0 rs=replicate rs.length rz:=by simp[iR]
theorem ES {rs:List Raw} {i:Nat} (h:i<rs.length):(rs.map Raw.f).getD i []=[FV.lit (Value.bool (rs.getD i rz).neg),FV.sl (u32s (rs.getD i rz).num),FV.sl (u32s (rs.getD i rz).den)]:=by
 simp[qa,h,Raw.f]
theorem ET {rs:List Raw} {n:Nat} (h:rs.length=n+1):(rs.take n).map Raw.f++[[FV.lit (Value.bool (rs.getD n rz).neg),FV.sl (u32s (rs.getD n rz).num),FV.sl (u32s (rs.getD n rz).den)]]=rs.map Raw.f:=by
 have h1:rs.take (n+1)=rs:=dm (by omega)
 conv=>rhs;rw[<-h1,take_succ_eq_append_getElem (by omega),BM]
 simp[qa,show n<rs.length by omega,Raw.f]
end Go.Pl
namespace Go.Proofs.YtiaaceeelfhdlaaGreat
open Go.AM Go.Pl
set_option maxRecDepth 100000
set_option maxHeartbeats 2000000
theorem ZB (rs:List Raw) (e8:LOk 2000000000 rs):Den Tryz.prog 208 [] [RL rs] [] (bF rs).v:=by
 have aA:=e8.len;have k4:=ag rs;unfold RL;refine dq Tryz.func208 27 0 ?_;refine aW ?_;refine⟨by omega,?_⟩;refine wl (α:=Nat) (fun i=>⟨[.any,.ptr 0 0 0,.ptr 1 0 0,.int .i64 i]++replicate 24 .any,[.box true (flat rs),.box true [.bool false,.nilsl,.nilsl]]⟩)
  (fun i=>8 - i) (fun i=>i<=8/\bF (rs.drop i)=bF rs) 0 ?_ ?_ ?_
 .exact bP [0,1]
 .exact⟨dU _,rfl⟩
 rintro i ⟨hi,cX⟩;refine aW ?_;refine bK ?_ ?_
 .intro h1 h2;have dZ:=b9 (rs:=rs) (i:=i) (by omega);have sr:=vS (rs:=rs) (i:=i) (by omega);obtain⟨r,hr⟩:=ax (rs.getD i rz);have bf:r.Ok 2000000000:=by rw[<-hr];exact e8.at i
  rw[hr] at dZ sr;have EH:=tS r;have iX:=kh r (bf.mono (by decide));unfold Raw.v at EH iX;refine ah (a8 h2 dZ) ?_;refine⟨by omega,by omega,?_⟩;refine aM EH ?_;refine a9 ?_;by_cases h3:(r.num.length:Int)=0
  .have hb:((r.num.length:Int)==0)=true:=by rw[beq_iff_eq];exact h3
   have dN:(!true)=false:=rfl;rw[if_pos (nS h3)] at sr;refine ah (a8 hb dN) ?_;refine aw (i+1) ?_ ⟨by omega,by rw[<-sr,cX]⟩;exact bP [0,1]
  have hb:((r.num.length:Int)==0)=false:=by rw[qx];exact h3
  have dN:(!false)=true:=rfl;refine ah (bB hb dN dZ) ?_;refine⟨by omega,by omega,?_⟩;refine aM iX ?_;refine a9 ?_;refine Br.bneInt ?_ ?_
  .intro h5 h6;have hq:r.q≠0:=fun h=>h5 (aQ.2 h)
   rw[if_neg hq] at sr;rw[<-cX,sr];refine ah (a8 h6 dZ) ?_
   repeat refine ae ?_
   refine bc rfl
  intro h5 h6;rw[if_pos (aQ.1 h5)] at sr;refine ah h6 ?_;refine aw (i+1) ?_ ⟨by omega,by rw[<-sr,cX]⟩;exact bP [0,1]
 intro h1 h2;have yc:i=8:=by omega
 subst yc;have dZ:=b9 (rs:=rs) (i:=8) (by omega);simp only[reduceMul] at dZ;have sr:=vT (rs:=rs) (i:=8) (by omega);rw[<-cX,sr];refine ah (a8 h2 dZ) ?_
 repeat refine ae ?_
 refine bc rfl
theorem Ao (qs:List Rat) (h:qs.length=9):(flat (qs.map cn)).length=27:=by rw[ag,length_map];omega
theorem Cl {p:List Rat} {i:Nat} (h:i<p.length):(p.map cn).getD i rz=cn (p.getD i 0):=by
 simp[qa,h]
theorem ZC (p q:List Rat) (hp:p.length=9) (hq:q.length=9) (bp: ∀ x∈p,Bd 1000000000 x) (bq: ∀ x∈q,Bd 1000000000 x):Den Tryz.prog 151 [] [FL p,FL q] [] (.bool (decide (p=q))):=by
 have RI:(p.map cn).length=9:=by simp[hp]
 have hlq:(q.map cn).length=9:=by simp[hq]
 have fp:=Ao p hp;have fq:=Ao q hq;have okp: ∀ i,i<9->(cn (p.getD i 0)).Ok 5000000000:=fun i hi=>by
  refine Raw.Ok.mono (bn (bp _ ?_)) (by decide);rw[qa,qb (by omega)];exact pP _
 have okq: ∀ i,i<9->(cn (q.getD i 0)).Ok 5000000000:=fun i hi=>by
  refine Raw.Ok.mono (bn (bq _ ?_)) (by decide);rw[qa,qb (by omega)];exact pP _
 unfold FL RL;refine dq Tryz.func151 23 0 ?_;refine aW ?_;refine⟨by omega,by omega,?_⟩;refine wl (α:=Nat) (fun i=>⟨[.any,.any,.ptr 0 0 0,.ptr 1 0 0,.any,.int .i64 i]++replicate 19 .any,[.box true (flat (p.map cn)),.box true (flat (q.map cn))]⟩)
  (fun i=>8 - i) (fun i=>i<=8/\p.take i=q.take i) 0 ?_ ?_ ?_
 .exact bP [0,1]
 .exact⟨dU _,rfl⟩
 rintro i ⟨hi,x_⟩;have jW:=b9 (rs:=p.map cn) (i:=i) (by omega);have j9:=b9 (rs:=q.map cn) (i:=i) (by omega);rw[Cl (by omega)] at jW j9;have BW:=LI (cn (p.getD i 0)) (cn (q.getD i 0)) (okp i (by omega)) (okq i (by omega));rw[LG] at BW;have fD:p.getD i 0=q.getD i 0->p.take (i+1)=q.take (i+1):=fun h=>by
  rw[take_succ_eq_append_getElem (by omega),take_succ_eq_append_getElem (by omega),x_];simp only[qa,qb (show i<p.length by omega),qb (show i<q.length by omega),Option.getD_some] at h;rw[h]
 have fX:p.getD i 0≠q.getD i 0->p≠q:=fun h h2=>h (by rw[h2])
 obtain⟨x,hx⟩:=ax (cn (p.getD i 0));obtain⟨y,hy⟩:=ax (cn (q.getD i 0));rw[hx] at jW BW;rw[hy] at j9 BW;unfold Raw.v at BW;refine aW ?_;refine bK ?_ ?_
 .intro h1 h2;refine ah h2 ?_;refine dw (by kernel_rfl) ?_;refine ah (a8 jW j9) ?_
  repeat refine ae ?_
  refine aM BW ?_;by_cases he:p.getD i 0=q.getD i 0
  .have hb:(!decide (p.getD i 0=q.getD i 0))=false:=by rw[iK he];rfl
   refine ah hb ?_;refine aw (i+1) ?_ ⟨by omega,fD he⟩;exact bP [0,1]
  have hb:(!decide (p.getD i 0=q.getD i 0))=true:=by rw[mU he];rfl
  rw[mU (fX he)];refine ah hb ?_;refine bc rfl
 intro h1 h2;have yc:i=8:=by omega
 subst yc;simp only[reduceMul] at jW j9;refine ah (bB h2 jW j9) ?_
 repeat refine ae ?_
 refine aM BW ?_;refine a9 ?_;have hd:decide (p=q)=decide (p.getD 8 0=q.getD 8 0):=by
  by_cases he:p.getD 8 0=q.getD 8 0
  .rw[iK he];have h9:=fD he;rw[dm (by omega),dm (by omega)] at h9;exact iK h9
  rw[mU he,mU (fX he)]
 rw[hd];refine bc rfl
theorem LN (rs:List Raw) (g:Raw->Rat) (e8:rs.length=9)
 (hf: ∀ r∈rs,Den Tryz.prog 180 [] [r.v] [] (FR (g r))):Den Tryz.prog 201 [] [RL rs,.fv (.lit (.func (.func 180) #[] #[]))] [] (FL (rs.map g)):=by
 have k4:=ag rs
 have bC: ∀ i,i<9->rs.getD i rz∈rs:=fun i hi=>by
  rw[qa,qb (by omega)];exact pP _
 obtain⟨g',kP⟩: ∃ g':Raw->Raw,g'=fun r=>cn (g r):=⟨_,rfl⟩
 have Wo:(rs.map g).map cn=rs.map g':=by rw[kP,List.map_map];rfl
 have R9:iR g' 0 rs=replicate 9 rz:=by rw[vU,e8]
 unfold FL RL
 rw[Wo]
 refine dq Tryz.func201 26 0 ?_
 refine aW ?_
 refine⟨by omega,?_⟩
 refine wl (α:=Nat) (fun i=>⟨[.any,.fv (.lit (.func (.func 180) #[] #[])),.ptr 0 0 0,.any,.ptr 1 0 0,.ptr 1 0 0,.any,.any,.int .i64 i]++replicate 19 .any,[.box true (flat rs),.box true (flat (iR g' i rs))]⟩)
  (fun i=>8 - i) (fun i=>i<=8) 0 ?_ ?_ ?_
 .refine fW [0,1] ?_ ?_
  .simp[bO,eT,cJ,aU]
  simp[fM,fC,aU,cJ,bA,R9,replicate,flat,rz,u32s]
 .exact dU _
 rintro i hi
 have sc:=ri g' rs (i:=i) (by omega)
 have hof:=ag (iR g' i rs)
 have dZ:=b9 (rs:=rs) (i:=i) (by omega)
 have bQ:=y0 g' rs (i:=i) (by omega)
 have bW:=hf _ (bC i (by omega))
 obtain⟨r,hr⟩:=ax (rs.getD i rz)
 rw[hr] at dZ bQ bW
 have xF:g' r=⟨decide ((g r).num<0),ai (g r).num.natAbs,ai (g r).den⟩:=by rw[kP];rfl
 have bg:=dF (rs:=iR g' i rs) (i:=i) (by omega) (decide ((g r).num<0)) (ai (g r).num.natAbs) (ai (g r).den)
 rw[<-xF,bQ] at bg
 rw[a_,bx,bx] at bW
 unfold Raw.v at bW
 refine aW ?_
 refine bK ?_ ?_
 .intro h1 h2
  refine aF h2 ?_
  refine dw (by kernel_rfl) ?_
  refine aF dZ ?_
  repeat refine ae ?_
  refine aM bW ?_
  refine aF bg ?_
  repeat refine ae ?_
  refine aw (i+1) ?_ (by omega)
  exact bP [0,1]
 intro h1 h2
 have yc:i=8:=by omega
 subst yc
 rw[y3 g' (n:=8+1) rs e8] at bg
 simp only[reduceMul,reduceAdd] at dZ bg
 have ux:(rs.map g').length=9:=by simp[e8]
 have kO:(flat (rs.map g')).length=27:=by rw[ag];omega
 have Ox:List.drop 27 (flat (rs.map g'))=[]:=List.drop_of_length_le (by omega)
 refine aF (a8 h2 dZ) ?_
 repeat refine ae ?_
 refine aM bW ?_
 simp -dsimp(disch:=omega) only[bg,kO,ar ux,Ox,IntKind.bits,Int.reduceToNat,Int.reducePow,Option.isNone_none,↓reduceIte,reduceCtorEq,reduceAdd,reduceMul,reduceSub,Nat.reduceBEq,reduceEqDiff,reduceLT,reduceLeDiff,ru,zu]
 repeat refine ae ?_
 exact RetOK.form rfl rfl ux
theorem EU (rs:List Raw) (k:Nat) (x:FV) (g:Raw->Rat) (e8:rs.length=9)
 (hf: ∀ r∈rs,Den Tryz.prog k [] [r.v,.fv x] [] (FR (g r))):Den Tryz.prog 201 [] [RL rs,.fv (.fn (.func k) [] [x])] [] (FL (rs.map g)):=by
 have k4:=ag rs
 have bC: ∀ i,i<9->rs.getD i rz∈rs:=fun i hi=>by
  rw[qa,qb (by omega)];exact pP _
 obtain⟨g',kP⟩: ∃ g':Raw->Raw,g'=fun r=>cn (g r):=⟨_,rfl⟩
 have Wo:(rs.map g).map cn=rs.map g':=by rw[kP,List.map_map];rfl
 have R9:iR g' 0 rs=replicate 9 rz:=by rw[vU,e8]
 unfold FL RL
 rw[Wo]
 refine dq Tryz.func201 26 0 ?_
 refine aW ?_
 refine⟨by omega,?_⟩
 refine wl (α:=Nat) (fun i=>⟨[.any,.fv (.fn (.func k) [] [x]),.ptr 0 0 0,.any,.ptr 1 0 0,.ptr 1 0 0,.any,.any,.int .i64 i]++replicate 19 .any,[.box true (flat rs),.box true (flat (iR g' i rs))]⟩)
  (fun i=>8 - i) (fun i=>i<=8) 0 ?_ ?_ ?_
 .refine fW [0,1] ?_ ?_
  .simp[bO,eT,cJ,aU]
  simp[fM,fC,aU,cJ,bA,R9,replicate,flat,rz,u32s]
 .exact dU _
 rintro i hi
 have sc:=ri g' rs (i:=i) (by omega)
 have hof:=ag (iR g' i rs)
 have dZ:=b9 (rs:=rs) (i:=i) (by omega)
 have bQ:=y0 g' rs (i:=i) (by omega)
 have bW:=hf _ (bC i (by omega))
 obtain⟨r,hr⟩:=ax (rs.getD i rz)
 rw[hr] at dZ bQ bW
 have xF:g' r=⟨decide ((g r).num<0),ai (g r).num.natAbs,ai (g r).den⟩:=by rw[kP];rfl
 have bg:=dF (rs:=iR g' i rs) (i:=i) (by omega) (decide ((g r).num<0)) (ai (g r).num.natAbs) (ai (g r).den)
 rw[<-xF,bQ] at bg
 rw[a_,bx,bx] at bW
 unfold Raw.v at bW
 refine aW ?_
 refine bK ?_ ?_
 .intro h1 h2
  refine aF h2 ?_
  refine dw (by kernel_rfl) ?_
  refine aF dZ ?_
  repeat refine ae ?_
  refine aM bW ?_
  refine aF bg ?_
  repeat refine ae ?_
  refine aw (i+1) ?_ (by omega)
  exact bP [0,1]
 intro h1 h2
 have yc:i=8:=by omega
 subst yc
 rw[y3 g' (n:=8+1) rs e8] at bg
 simp only[reduceMul,reduceAdd] at dZ bg
 have ux:(rs.map g').length=9:=by simp[e8]
 have kO:(flat (rs.map g')).length=27:=by rw[ag];omega
 have Ox:List.drop 27 (flat (rs.map g'))=[]:=List.drop_of_length_le (by omega)
 refine aF (a8 h2 dZ) ?_
 repeat refine ae ?_
 refine aM bW ?_
 simp -dsimp(disch:=omega) only[bg,kO,ar ux,Ox,IntKind.bits,Int.reduceToNat,Int.reducePow,Option.isNone_none,↓reduceIte,reduceCtorEq,reduceAdd,reduceMul,reduceSub,Nat.reduceBEq,reduceEqDiff,reduceLT,reduceLeDiff,ru,zu]
 repeat refine ae ?_
 exact RetOK.form rfl rfl ux
set_option maxHeartbeats 4000000
theorem ZD (r c:Raw) (hr:r.Ok 2000000000) (hc:c.Ok 2000000000):Den Tryz.prog 202 [] [r.v,.fv (.fp c.f)] [] (FR (r.q*c.q)):=by
 have h:=Te r c hr hc;rw[a_] at h ⊢;unfold Raw.v at h ⊢;unfold Raw.f;refine dq Tryz.func202 5 0 ?_;refine aW ?_;refine aM h ?_;refine a9 ?_;refine bc rfl
theorem Tt (r c:Raw) (hr:r.Ok 2000000000) (hc:c.Ok 2000000000) (h0:c.q≠0):Den Tryz.prog 235 [] [r.v,.fv (.fp c.f)] [] (FR (r.q / c.q)):=by
 have h:=Ly r c hr hc h0;rw[a_] at h ⊢;unfold Raw.v at h ⊢;unfold Raw.f;refine dq Tryz.func235 11 0 ?_;refine aW ?_;refine aM h ?_;refine a9 ?_;refine bc rfl
theorem GX (rs:List Raw) (c:Raw) (e8:LOk 2000000000 rs) (hc:c.Ok 2000000000):Den Tryz.prog 140 [] [RL rs,c.v] [] (FL (rs.map (fun r=>r.q*c.q))):=by
 have aA:=e8.len;have k4:=ag rs;have sw:=EU rs 202 (.fp c.f) (fun r=>r.q*c.q) aA (fun r hr=>ZD r c (e8.ok r hr) hc);unfold FL RL at sw ⊢;unfold Raw.f at sw;obtain⟨zs,hz⟩:=K_ ((rs.map (fun r=>r.q*c.q)).map cn);have l7:zs.length=9:=by rw[<-hz];simp[aA]
 have kO:(flat zs).length=27:=by rw[ag];omega
 rw[hz] at sw ⊢;unfold Raw.v;refine dq Tryz.func140 6 0 ?_;simp -dsimp(disch:=omega) only[replicate,ar aA,IntKind.bits,Int.reduceToNat,Int.reducePow,Option.isNone_none,↓reduceIte,reduceCtorEq,reduceAdd,reduceMul,reduceSub,Nat.reduceBEq,reduceEqDiff,reduceLT,reduceLeDiff,ru,zu];refine⟨by omega,by omega,?_⟩;refine hY sw ?_;refine aF kO ?_;exact RetOK.form rfl rfl l7
theorem LO (rs:List Raw) (e8:LOk 1000 rs):Den Tryz.prog 197 [] [RL rs] [] (FL (Ex rs)):=by
 have aA:=e8.len;have k4:=ag rs;unfold RL;refine dq Tryz.func197 30 0 ?_;refine kI ?_;have fD:List.take 24 (flat rs)=flat (rs.take 8):=oH 8 rs;have eO:[List.take 3 (bR (rs.take 8)),List.take 3 (List.drop 3 (bR (rs.take 8))),List.take 3 (List.drop 3 (List.drop 3 (bR (rs.take 8)))),List.take 3 (List.drop 3 (List.drop 3 (List.drop 3 (bR (rs.take 8))))),List.take 3 (List.drop 3 (List.drop 3 (List.drop 3 (List.drop 3 (bR (rs.take 8)))))),List.take 3 (List.drop 3 (List.drop 3 (List.drop 3 (List.drop 3 (List.drop 3 (bR (rs.take 8))))))),List.take 3 (List.drop 3 (List.drop 3 (List.drop 3 (List.drop 3 (List.drop 3 (List.drop 3 (bR (rs.take 8)))))))),List.take 3 (List.drop 3 (List.drop 3 (List.drop 3 (List.drop 3 (List.drop 3 (List.drop 3 (List.drop 3 (bR (rs.take 8)))))))))]=(rs.take 8).map Raw.f:=by
  have h:=re (rs.take 8);rw[length_take,aA] at h;exact h
 have abM:=b9 (rs:=rs) (i:=8) (by omega);simp only[reduceMul] at abM;have Gf:(rs.take 8).map Raw.f++[[FV.lit (Value.bool (rs.getD 8 rz).neg),FV.sl (u32s (rs.getD 8 rz).num),FV.sl (u32s (rs.getD 8 rz).den)]]=rs.map Raw.f:=ET aA;have afT:List.take 8 ((rs.take 8).map Raw.f)=(rs.take 8).map Raw.f:=dm (by simp;omega);have afU:((rs.take 8).map Raw.f).length=8:=by simp[aA]
 have h3s: ∀ y∈(rs.take 8).map Raw.f,y.length=3:=by
  intro y hy;simp only[mem_map] at hy;obtain⟨r,_,rfl⟩:=hy;rfl
 refine⟨by omega,?_⟩;refine Draw.freeze [0] (by kernel_rfl) ?_;simp -dsimp(disch:=omega) only[fD,eO,abM,Gf,afT,afU,Option.isSome_some,imp_self,IntKind.bits,Int.reduceToNat,Int.reducePow,Option.isNone_none,↓reduceIte,reduceCtorEq,reduceAdd,reduceMul,reduceSub,Nat.reduceBEq,reduceEqDiff,reduceLT,reduceLeDiff,ru,zu];have hlf:(rs.map Raw.f).length=9:=by simp[aA]
 refine⟨by omega,by omega,h3s,?_⟩;refine wl (α:=Nat) (fun i=>⟨[.any,.ptr 0 0 0,.ptr 1 0 0,.any,.any,.any,.any,.any,.any,.any,.any,.lsl 2 0 9 3,.int .i64 9,.int .i64 i]++replicate 17 .any,[.box false (flat rs),.box true (bJ 9),.row true (rs.map Raw.f)]⟩)
  (fun i=>9 - i) (fun i=>i<=9/\(i<9->bF (rs.drop i)=bF rs)/\(i=9->(bF rs).q=0)) 0 ?_ ?_ ?_
 .exact bP [0,1,3]
 .exact⟨dU _,fun _=>rfl,fun h=>by omega⟩
 rintro i ⟨hi,cX,hl9⟩;refine aW ?_;refine bK ?_ ?_
 .intro h1 h2;have hmf:=ES (rs:=rs) (i:=i) (by omega);have sr:bF (rs.drop i)=if(rs.getD i rz).q=0/\i<8 then bF (rs.drop (i+1)) else rs.getD i rz:=by
   by_cases h8:i<8
   .rw[vS (by omega)];simp[h8]
   rw[vT (by omega)];simp[h8]
  rw[cX (by omega)] at sr;obtain⟨r,hr⟩:=ax (rs.getD i rz);have bf:r.Ok 1000:=by rw[<-hr];exact e8.at i
  rw[hr] at hmf sr;have g_:=nP r (bf.mono (by decide));have Wj:=Lx r (bf.mono (by decide));have br:=bf.bd (by decide);have R7:([FV.lit (Value.bool r.neg),FV.sl (u32s r.num),FV.sl (u32s r.den)]:List FV).length=3:=rfl;by_cases h0:r.q=0
  .rw[aQ.2 h0] at g_;unfold Raw.v at g_;have hb:((0:Int) !=0)=false:=rfl;refine aF (bB h2 hmf R7) ?_
   repeat refine ae ?_
   refine aM g_ ?_;refine aF hb ?_;refine aw (i+1) ?_ ⟨by omega,fun h9=>?_,fun h9=>?_⟩
   .exact bP [0,1,2]
   .rw[if_pos ⟨h0,by omega⟩] at sr;exact sr.symm
   rw[if_neg (by omega)] at sr;rw[sr];exact h0
  rw[if_neg (fun h=>h0 h.1)] at sr;have T4:=sI (rs:=rs) (by rw[sr];exact h0);rw[sr] at T4;rw[T4];have EI:(eg r.q !=0)=true:=by rw[bne_iff_ne];exact fun h=>h0 (aQ.1 h)
  obtain⟨zs,hz⟩:=K_ ((rs.map (fun x=>x.q / dV r.q)).map cn);have l7:zs.length=9:=by rw[<-hz];simp[aA]
  have kO:(flat zs).length=27:=by rw[ag];omega
  by_cases jV:r.q.num<0
  .have uW:dV r.q= -r.q:=if_pos jV;have yI:(cn (-r.q)).q≠0:=by rw[cK,<-uW];exact oK h0
   have sw:=EU rs 235 (.fp (cn (-r.q)).f) (fun x=>x.q / (cn (-r.q)).q) aA (fun x hx=>Tt x (cn (-r.q)) ((e8.ok x hx).mono (by decide)) (Raw.Ok.mono (bn br.neg) (by decide)) yI);rw[cK,<-uW] at sw;rw[uW] at sw;unfold FL RL at sw;rw[<-uW,hz] at sw;rw[uW] at sw;unfold Raw.f cn at sw;rw[vc jV] at g_ EI;rw[a_,bx,bx] at Wj;unfold Raw.v at g_ Wj;have pj:decide ((-1:Int)<0)=true:=rfl;unfold FL RL;rw[hz];refine aF (bB h2 hmf R7) ?_
   repeat refine ae ?_
   refine aM g_ ?_;refine aF (a8 EI pj) ?_;refine aM Wj ?_;simp -dsimp(disch:=omega) only[ar aA,IntKind.bits,Int.reduceToNat,Int.reducePow,Option.isNone_none,↓reduceIte,reduceCtorEq,reduceAdd,reduceMul,reduceSub,Nat.reduceBEq,reduceEqDiff,reduceLT,reduceLeDiff,ru,zu]
   repeat refine ae ?_
   refine hY sw ?_;refine aF kO ?_
   repeat refine ae ?_
   exact RetOK.form rfl rfl l7
  have uW:dV r.q=r.q:=if_neg jV;have sw:=EU rs 235 (.fp r.f) (fun x=>x.q / r.q) aA (fun x hx=>Tt x r ((e8.ok x hx).mono (by decide)) (bf.mono (by decide)) h0);rw[uW] at hz;unfold FL RL at sw;rw[hz] at sw;unfold Raw.f at sw;rw[GW h0 jV] at g_ EI;unfold Raw.v at g_;have pj:decide ((1:Int)<0)=false:=rfl;unfold FL RL;rw[uW,hz];refine aF (bB h2 hmf R7) ?_
  repeat refine ae ?_
  refine aM g_ ?_;simp -dsimp(disch:=omega) only[EI,pj,ar aA,IntKind.bits,Int.reduceToNat,Int.reducePow,Option.isNone_none,↓reduceIte,reduceCtorEq,reduceAdd,reduceMul,reduceSub,Nat.reduceBEq,reduceEqDiff,reduceLT,reduceLeDiff,ru,zu]
  repeat refine ae ?_
  refine hY sw ?_;refine aF kO ?_
  repeat refine ae ?_
  exact RetOK.form rfl rfl l7
 intro h1 h2;have hi9:i=9:=by omega
 subst hi9;have sw:=LN rs Raw.q aA (fun r hr=>GS r ((e8.ok r hr).mono (by decide)));rw[IL (hl9 rfl) aA];unfold FL RL at sw ⊢;obtain⟨zs,hz⟩:=ax ((rs.map Raw.q).map cn);have l7:zs.length=9:=by rw[<-hz];simp[aA]
 have kO:(flat zs).length=27:=by rw[ag];omega
 rw[hz] at sw ⊢;simp -dsimp(disch:=omega) only[h2,ar aA,IntKind.bits,Int.reduceToNat,Int.reducePow,Option.isNone_none,↓reduceIte,reduceCtorEq,reduceAdd,reduceMul,reduceSub,Nat.reduceBEq,reduceEqDiff,reduceLT,reduceLeDiff,ru,zu]
 repeat refine ae ?_
 refine hY sw ?_;refine aF kO ?_
 repeat refine ae ?_
 exact RetOK.form rfl rfl l7
theorem aeH (rs:List Raw) (v:Int) (e8:rs.length=9) (hv:v<0\/8<=v):Den Tryz.prog 274 [] [RL rs,.int .i64 v] [] (.tup [RL (replicate 9 rz),.int .i64 0,.int .i64 1]):=by
 have k4:=ag rs;unfold RL;by_cases h:v<0
 .have h1:decide (v<0)=true:=iK h;refine dq Tryz.func274 42 0 ?_;refine aF h1 ?_
  repeat refine ae ?_
  refine Ph rfl ⟨⟨rfl,qp 27⟩,b',b',b'⟩ rfl
 have h1:decide (v<0)=false:=mU h;have h2:decide (v>=8)=true:=BR;refine dq Tryz.func274 42 0 ?_;refine aF (a8 h1 h2) ?_
 repeat refine ae ?_
 refine Ph rfl ⟨⟨rfl,qp 27⟩,b',b',b'⟩ rfl
theorem LP (rs:List Raw) (v:Nat) (e8:LOk 1000 rs) (hv:v<8) (h0:(rs.getD v rz).q=0):Den Tryz.prog 274 [] [RL rs,.int .i64 v] [] (.tup [FL (rs.map Raw.q),.int .i64 0,.int .i64 0]):=by
 have aA:=e8.len;have k4:=ag rs;have bf:=e8.at v;have dZ:=b9 (rs:=rs) (i:=v) (by omega);have g_:=nP (rs.getD v rz) (bf.mono (by decide));rw[aQ.2 h0] at g_;obtain⟨r,hr⟩:=ax (rs.getD v rz);rw[hr] at dZ g_;unfold Raw.v at g_;have sw:=LN rs Raw.q aA (fun r hr=>GS r ((e8.ok r hr).mono (by decide)));unfold FL RL at sw ⊢;obtain⟨zs,hz⟩:=ax ((rs.map Raw.q).map cn);have l7:zs.length=9:=by rw[<-hz];simp[aA]
 have kO:(flat zs).length=27:=by rw[ag];omega
 rw[hz] at sw ⊢;have h1:decide ((v:Int)<0)=false:=qV;have h2:decide ((v:Int)>=8)=false:=qV;have e00:((0:Int)==0)=true:=rfl;refine dq Tryz.func274 42 0 ?_;refine aF (bB h1 h2 dZ) ?_
 repeat refine ae ?_
 refine aM g_ ?_;simp -dsimp(disch:=omega) only[e00,ar aA,IntKind.bits,Int.reduceToNat,Int.reducePow,Option.isNone_none,↓reduceIte,reduceCtorEq,reduceAdd,reduceMul,reduceSub,Nat.reduceBEq,reduceEqDiff,reduceLT,reduceLeDiff,ru,zu]
 repeat refine ae ?_
 refine hY sw ?_;refine aF kO ?_
 repeat refine ae ?_
 exact RetOK.form3 rfl rfl l7 rfl rfl
theorem LQ {k:Nat} {rs:List Raw} (h:LOk k rs) (v:Nat):LOk k (rs.set v rz):=
 ⟨by simp[h.len],fun r hr=>by
  rcases List.mem_or_eq_of_mem_set hr with h1 | h1
  .exact h.ok r h1
  rw[h1];exact rz_ok⟩
theorem Tu (rs:List Raw) (v:Nat) (e8:LOk 1000 rs) (hv:v<8) (h0:(rs.getD v rz).q≠0):
 Den Tryz.prog 274 [] [RL rs,.int .i64 v] [] (.tup [FL ((rs.set v rz).map (fun r=>r.q*(-1 / (rs.getD v rz).q))),.int .i64 (eg (rs.getD v rz).q),.int .i64 0]):=by
 have aA:=e8.len
 have k4:=ag rs
 have bf:=e8.at v
 have dZ:=b9 (rs:=rs) (i:=v) (by omega)
 have T5:(flat rs).length=27:=by omega
 obtain⟨X,hX⟩:=ax (List.take (v*3) (flat rs)++[.fv (.lit (.bool false)),.nilsl,.nilsl]++List.drop (v*3+3) (flat rs))
 have hXh:yg rs v=X:=hX
 have hXl:X.length=27:=by rw[<-hXh];exact Cj (by omega) aA
 have hXt:List.take 27 X=X:=dm (by omega)
 have hXf: ∀ H,kc H X=some (bR (rs.set v rz)):=fun H=>by rw[<-hXh];exact Ch H v rs (by omega)
 have hXi:X.flatMap eu=[]:=by rw[<-hXh];exact Ci v rs (by omega)
 have g_:=nP (rs.getD v rz) (bf.mono (by decide))
 obtain⟨r,hr⟩:=ax (rs.getD v rz)
 rw[hr] at dZ g_ bf h0
 rw[hr]
 have dp:Bd 1 (((-1:Int)):Rat):=⟨by decide,by decide⟩
 have T6:=Cf (-1) (by decide)
 have Ij:=Ly (cn ((-1:Int):Rat)) r (Raw.Ok.mono (bn dp) (by decide)) (bf.mono (by decide)) h0
 rw[cK] at Ij
 change Den Tryz.prog 236 [] [FR ((-1:Int):Rat),r.v] [] _ at Ij
 have yK:=LQ e8 v
 have Wp:=dp.div (bf.bd (by decide)) h0 (by decide)
 have Wq:=GX (rs.set v rz) (cn (((-1:Int):Rat) / r.q)) (yK.mono (by decide)) (Raw.Ok.mono (bn Wp) (by decide))
 rw[cK] at Wq
 change Den Tryz.prog 140 [] [RL (rs.set v rz),FR (((-1:Int):Rat) / r.q)] [] _ at Wq
 have e1:((-1:Int):Rat)= -1:=rfl
 rw[e1] at Wq Ij T6
 obtain⟨zs,hz⟩:=K_ (((rs.set v rz).map (fun x=>x.q*(-1 / r.q))).map cn)
 have l7:zs.length=9:=by rw[<-hz];simp[aA]
 have kO:(flat zs).length=27:=by rw[ag];omega
 have sd:(rs.set v rz).length=9:=yK.len
 have hsf:=ag (rs.set v rz)
 unfold FL RL at Wq ⊢
 rw[hz] at Wq ⊢
 rw[a_] at T6 Wq
 rw[a_,a_] at Ij
 unfold Raw.v at g_ Ij
 have h1:decide ((v:Int)<0)=false:=qV
 have h2:decide ((v:Int)>=8)=false:=qV
 have EI:(eg r.q==0)=false:=by rw[qx];exact fun h=>h0 (aQ.1 h)
 refine dq Tryz.func274 42 0 ?_
 refine aF (bB h1 h2 dZ) ?_
 repeat refine ae ?_
 refine aM g_ ?_
 simp -dsimp(disch:=omega) only[EI,ar aA,T5,hX,IntKind.bits,Int.reduceToNat,Int.reducePow,Option.isNone_none,↓reduceIte,reduceCtorEq,reduceAdd,reduceMul,reduceSub,Nat.reduceBEq,reduceEqDiff,reduceLT,reduceLeDiff,ru,zu]
 repeat refine ae ?_
 refine dw (by kernel_rfl) ?_
 refine kI ?_
 refine aM T6 ?_
 refine aF dZ ?_
 repeat refine ae ?_
 refine aM Ij ?_
 refine aF (a8 hXt hXl) ?_
 repeat refine ae ?_
 refine gp Wq (by simp[bH,eS,hXf,gP,kc,dS,dI]) ?_
 refine aF (a8 kO hXi) ?_
 repeat refine ae ?_
 exact RetOK.form3 rfl rfl l7 rfl rfl
def ints (xs:List Int):List (List FV):=xs.map (fun n=>[FV.lit (Value.int .i64 n)])
theorem cD (xs:List Int):(ints xs).length=xs.length:=by simp[ints]
theorem jz {xs:List Int} {i:Nat} (h:i<xs.length):(ints xs).getD i []=[FV.lit (Value.int .i64 (xs.getD i 0))]:=by
 simp[ints,qa,h]
def S (xs:List Int) (a:Nat):Ob:= .box true [.fv (.sl (ints xs)),.int .i64 a,.int .i64 0]
def nx (xs:List Int) (a:Nat):Nat:=if a<xs.length then a+1 else a
theorem av (xs:List Int) (a:Nat):(S xs a).closed:=by
 intro c hc;simp only[uI,List.not_mem_nil,or_false] at hc;rcases hc with h | h | h<;>exact⟨_,h⟩
def W64 (xs:List Int):Prop:= ∀ x∈xs,-9223372036854775808<=x/\x<9223372036854775808
theorem W64.at {xs:List Int} (h:W64 xs) (a:Nat): -9223372036854775808<=xs.getD a 0/\xs.getD a 0<9223372036854775808:=by
 by_cases ha:a<xs.length
 .rw[qa,qb ha];exact h _ (pP ha)
 rw[qa,getElem?_eq_none (by omega)];simp
theorem sh1 (o:Ob) (l:List Ob):shutBs (o::l) 0 [.ptr 0 0 0]=o::l:=rfl
theorem sh2 (o:Ob) (l:List Ob) (v:FV):shutBs (o::l) 0 [.ptr 0 0 0,.fv v]=o::l:=rfl
theorem sh3 (o:Ob) (l:List Ob) (v u:FV):shutBs (o::l) 0 [.ptr 0 0 0,.fv v,.fv u]=o::l:=rfl
theorem IM (x:Int) (n:Int) (hn:0<n):(x.tmod n<0->x.tmod n+n=x % n)/\(¬x.tmod n<0->x.tmod n=x % n):=by
 have h1:=Int.mul_tdiv_add_tmod x n;have h2:=Int.tmod_lt_of_pos x hn;have h3:=Int.lt_tmod_of_pos x hn;have h4:x % n=x.tmod n % n:=by
  conv=>lhs;rw[<-h1]
  rw[Int.add_comm,Int.add_mul_emod_self_left]
 rw[h4];generalize x.tmod n=t at*;constructor
 .intro h;rw[<-Int.add_emod_right,Int.emod_eq_of_lt (by omega) (by omega)]
 intro h;rw[Int.emod_eq_of_lt (by omega) (by omega)]
theorem ZE (xs:List Int) (a:Nat) (hl:xs.length<=1000) (ha:a<=xs.length):Den Tryz.prog 67 [S xs a] [.ptr 0 0 0] [S xs (nx xs a)] (.int .i64 (xs.getD a 0)):=by
 have eV:=cD xs;unfold S nx;by_cases h:a<xs.length
 .have hg:=jz h;have h1:decide ((a:Int)>=(xs.length:Int))=false:=qV;have e1:((a:Int)+1 - 1)=(a:Int):=by omega
  have e2:(a:Int)+1=((a+1:Nat):Int):=by omega
  have e3:((a+1:Nat):Int) - 1=(a:Int):=by omega
  rw[if_pos h];refine dq Tryz.func67 30 1 ?_;refine aW ?_;refine dw (by kernel_rfl) ?_;refine ah (a8 eV h1) ?_;refine dw (by kernel_rfl) ?_;simp -dsimp(disch:=omega) only[eV,e2,e3,hg,IntKind.bits,Int.reduceToNat,Int.reducePow,Option.isNone_none,↓reduceIte,reduceCtorEq,reduceAdd,reduceMul,reduceSub,Nat.reduceBEq,reduceEqDiff,reduceLT,reduceLeDiff,ru];refine⟨by omega,?_⟩;refine qL rfl ⟨b',b'⟩ rfl (av xs (a+1)) rfl rfl rfl
 have h1:decide ((a:Int)>=(xs.length:Int))=true:=BR;have h0:xs.getD a 0=0:=by rw[qa,getElem?_eq_none (by omega)];rfl
 rw[if_neg h,h0];refine dq Tryz.func67 30 1 ?_;refine aW ?_;refine dw (by kernel_rfl) ?_;refine ah (a8 eV h1) ?_;refine qL rfl ⟨b',b'⟩ rfl (av xs a) rfl rfl rfl
theorem ZF (xs:List Int) (a:Nat) (n:Nat) (hl:xs.length<=1000) (ha:a<=xs.length) (hw:W64 xs) (hn:1<=n) (qN:n<1000000):Den Tryz.prog 22 [S xs a] [.ptr 0 0 0,.int .i64 n] [S xs (nx xs a)] (.int .i64 (xs.getD a 0 % n)):=by
 have h50:=ZE xs a hl ha;have hx:=hw.at a;obtain⟨x,pH⟩:=ax (xs.getD a 0);rw[pH] at h50 hx ⊢;have hc:=av xs a;have h1:decide ((n:Int)<1)=false:=qV;unfold S at h50 hc ⊢;refine dq Tryz.func22 16 1 ?_;refine cz h1 ?_;refine d6 0 h50 hc ?_;have Wr:=IM x (n:Int) (by omega);have hb:=Int.lt_tmod_of_pos x (show(0:Int)<n by omega);refine cv ?_;refine⟨by omega,bK ?_ ?_⟩
 .intro h3 h4;rw[<-Wr.1 h3];generalize x.tmod (n:Int)=t at*;refine bE h4 ?_;refine qL rfl ⟨b',b'⟩ rfl (av xs _) rfl rfl rfl
 intro h3 h4;rw[<-Wr.2 h3];generalize x.tmod (n:Int)=t at*;refine bE h4 ?_;refine qL rfl ⟨b',b'⟩ rfl (av xs _) rfl rfl rfl
theorem bL {xs:List Int} {a:Nat} (h:a<=xs.length):nx xs a<=xs.length:=by unfold nx;split<;>omega
def nN (xs:List Int) (a n:Nat):Nat:=(xs.getD a 0 % n).toNat
theorem GY {xs:List Int} {a n:Nat} (hn:1<=n):xs.getD a 0 % (n:Int)=(nN xs a n:Int):=by
 unfold nN;have:=Int.emod_nonneg (xs.getD a 0) (show(n:Int)≠0 by omega);omega
theorem d5 {xs:List Int} {a n:Nat} (hn:1<=n):nN xs a n<n:=by
 have h:=GY (xs:=xs) (a:=a) hn;have:=Int.emod_lt_of_pos (xs.getD a 0) (show(0:Int)<n by omega);omega
theorem jn (xs:List Int) (a n:Nat) (hl:xs.length<=1000) (ha:a<=xs.length) (hw:W64 xs) (hn:1<=n) (qN:n<1000000):Den Tryz.prog 22 [S xs a] [.ptr 0 0 0,.int .i64 n] [S xs (nx xs a)] (.int .i64 (nN xs a n)):=by
 have h:=ZF xs a n hl ha hw hn qN;rw[GY hn] at h;exact h
theorem y4 (xs:List Int) (a:Nat) (lo hi:Int) (n:Nat) (hl:xs.length<=1000) (ha:a<=xs.length) (hw:W64 xs) (hn:hi - lo+1=n) (jd:1<=n) (qN:n<1000000) (gj: -1000000<lo) (gK:lo<1000000):
 Den Tryz.prog 87 [S xs a] [.ptr 0 0 0,.int .i64 lo,.int .i64 hi] [S xs (nx xs a)] (.int .i64 (lo+nN xs a n)):=by
 have h:=jn xs a n hl ha hw jd qN
 have hc:=av xs a
 have aG:=d5 (xs:=xs) (a:=a) jd
 generalize nN xs a n=m at*
 unfold S at h hc ⊢
 refine dq Tryz.func87 12 1 ?_
 refine cz hn ?_
 refine d6 0 h hc ?_
 refine cv ?_
 refine qL rfl ⟨b',b'⟩ rfl (av xs _) rfl rfl rfl
theorem Cm (xs:List Int) (a:Nat) (l:List Int) (hl:xs.length<=1000) (ha:a<=xs.length) (hw:W64 xs) (jd:1<=l.length) (qN:l.length<1000):
 Den Tryz.prog 16 [S xs a] [.ptr 0 0 0,.fv (.sl (ints l))] [S xs (nx xs a)] (.int .i64 (l.getD (nN xs a l.length) 0)):=by
 have h:=jn xs a l.length hl ha hw jd (by omega)
 have hc:=av xs a
 have aG:=d5 (xs:=xs) (a:=a) jd
 have eV:=cD l
 have hg:=jz (xs:=l) aG
 obtain⟨m,hm⟩:=ax (nN xs a l.length)
 rw[hm] at h aG hg ⊢
 unfold S at h hc ⊢
 refine dq Tryz.func16 10 1 ?_
 refine cz eV ?_
 refine d6 0 h hc ?_
 refine bE (a8 hg eV) ?_
 repeat refine ae ?_
 refine qL rfl ⟨b',b'⟩ rfl (av xs _) rfl rfl rfl
def o7 (xs:List Int) (a:Nat):Rat:=((-6+(nN xs a 13:Int):Int):Rat) / ((1+(nN xs (nx xs a) 5:Int):Int):Rat)
theorem bd_int {n:Int} (h:n.natAbs<4294967296):Bd 1 (n:Rat):=⟨h,(by decide:(1:Nat)<B^1)⟩
theorem vd (xs:List Int) (a:Nat):Bd 2 (o7 xs a):=by
 have h1:=d5 (xs:=xs) (a:=a) (n:=13) (by decide);have h2:=d5 (xs:=xs) (a:=nx xs a) (n:=5) (by decide);refine Bd.div (j:=1) (k:=1) (bd_int (by omega)) (bd_int (by omega)) ?_ (by decide);intro h;have:=congrArg Rat.num h;change (1+(nN xs (nx xs a) 5:Int))=0 at this;omega
theorem LR (xs:List Int) (a:Nat) (hl:xs.length<=1000) (ha:a<=xs.length) (hw:W64 xs):Den Tryz.prog 43 [S xs a] [.ptr 0 0 0] [S xs (nx xs (nx xs a))] (FR (o7 xs a)):=by
 have h1:=y4 xs a (-6) 6 13 hl ha hw (by decide) (by decide) (by decide) (by decide) (by decide);have h2:=y4 xs (nx xs a) 1 5 5 hl (bL ha) hw (by decide) (by decide) (by decide) (by decide) (by decide);have hc:=av xs a;have lX:=av xs (nx xs a);have l1:=d5 (xs:=xs) (a:=a) (n:=13) (by decide);have l2:=d5 (xs:=xs) (a:=nx xs a) (n:=5) (by decide);unfold o7;generalize nN xs a 13=m1 at*;generalize nN xs (nx xs a) 5=m2 at*;have h59:=ZA (-6+(m1:Int)) (1+(m2:Int)) (by omega) (by omega) (by omega);rw[a_] at h59 ⊢;unfold S at h1 h2 hc lX ⊢;refine dq Tryz.func43 13 1 ?_;refine aW ?_;refine d6 0 h1 hc ?_;refine cv ?_;refine d6 0 h2 lX ?_;refine cv ?_;refine aM h59 ?_;refine cv ?_;refine qL rfl ⟨⟨rfl,qp 3⟩,b'⟩ rfl (av xs _) rfl rfl rfl
def px:List Nat:=[0,1,2,3,10,97,65536,2147483648,4294967295,4294967291,123456789,4000000007]
def GZ:List Int:=[0,1,2,3,10,97,65536,2147483648,4294967295,4294967291,123456789,4000000007]
theorem IP (i:Nat):GZ.getD i 0=((px.getD i 0:Nat):Int):=by
 have h:GZ=px.map (fun n:Nat=>(n:Int)):=rfl;rw[h];simp only[qa,List.getElem?_map];cases px[i]?<;>rfl
theorem G0 (i:Nat):px.getD i 0<4294967296:=by
 by_cases h:i<px.length
 .have hm:px.getD i 0∈px:=by rw[qa,qb h];exact pP h
  have: ∀ x∈px,x<4294967296:=by decide
  exact this _ hm
 rw[qa,getElem?_eq_none (by omega)];decide
def gQ (xs:List Int):Nat->Nat->List Nat
 | 0,_=>[]
 | n+1,a=>px.getD (nN xs a 12) 0::gQ xs n (nx xs a)
def pV (xs:List Int):Nat->Nat->Nat
 | 0,a=>a
 | n+1,a=>pV xs n (nx xs a)
theorem pW (xs:List Int): ∀ n a,Dig (gQ xs n a)
 | 0,_=>Dig.nil
 | n+1,a=>Dig.mk (G0 _) (pW xs n (nx xs a))
theorem kS (xs:List Int): ∀ n a,(gQ xs n a).length=n
 | 0,_=>rfl
 | n+1,a=>by simp[gQ,kS xs n]
theorem pX {xs:List Int}: ∀ {n a:Nat},a<=xs.length->pV xs n a<=xs.length
 | 0,_,h=>h
 | n+1,_,h=>pX (n:=n) (bL h)
theorem P0 (o:Ob) (l:List Ob) (k off n s:Nat):shutBs (o::l) 0 [.ptr 0 0 0,.lsl (k+1) off n s]=shutIds [k+1] (o::l):=rfl
def IQ (out:List Nat):PV:=match out with | []=> .nilsl | _=> .lsl 1 0 out.length 1
def IS (o:Ob) (out:List Nat):List Ob:=match out with | []=>[o] | _=>[o,.row true (u32s out)]
theorem Tv (xs:List Int) (a:Nat) (hl:xs.length<=1000) (ha:a<=xs.length) (hw:W64 xs):
 Den Tryz.prog 160 [S xs a] [.ptr 0 0 0] [S xs (pV xs (nN xs a 5) (nx xs a))] (.fv (.sl (u32s (gQ xs (nN xs a 5) (nx xs a))))):=by
 have h5:=jn xs a 5 hl ha hw (by decide) (by decide)
 have aG:=d5 (xs:=xs) (a:=a) (n:=5) (by decide)
 have hc:=av xs a
 have jX:=bL ha
 obtain⟨a1,afX⟩: ∃ t,nx xs a=t:=⟨_,rfl⟩
 obtain⟨m,hm⟩:=ax (nN xs a 5)
 rw[hm] at h5 aG ⊢
 rw[afX] at h5 jX ⊢
 obtain⟨fin,gv⟩:=ax (pV xs m a1)
 obtain⟨tot,BD⟩:=ax (gQ xs m a1)
 rw[gv,BD]
 unfold S at h5 hc ⊢
 refine dq Tryz.func160 18 1 ?_
 refine aW ?_
 refine d6 0 h5 hc ?_
 refine cv ?_
 refine wl (α:=Nat×Nat×List Nat) (fun⟨n,b,out⟩=>⟨[.ptr 0 0 0,.any,.nilsl,IQ out,.int .i64 n]++replicate 14 .any,IS (S xs b) out⟩)
  (fun⟨n,_,_⟩=>n) (fun⟨n,b,out⟩=>b<=xs.length/\n+out.length<=4/\pV xs n b=fin/\out++gQ xs n b=tot) (m,a1,[]) ?_ ?_ ?_
 .refine fW [0] ?_ ?_
  .simp[bO,eT,cJ,aU,IQ]
  simp[fM,fC,aU,cJ,IS,S]
 .exact⟨jX,by simp;omega,gv,by rw[nil_append];exact BD⟩
 rintro⟨n,b,out⟩ ⟨hb,xG,yL,cI⟩
 have Ae:=Cm xs b GZ hl hb hw (by decide) (by decide)
 have vD:=av xs b
 have Ec:=G0 (nN xs b 12)
 rw[show GZ.length=12 from rfl,IP] at Ae
 obtain⟨d,hd⟩:=ax (px.getD (nN xs b 12) 0)
 rw[hd] at Ae Ec
 have Gb:IntKind.u32.wrap (d:Int)=(d:Int):=cQ (by omega)
 have abO: ∀ k,n=k+1->pV xs k (nx xs b)=fin/\(out++[d])++gQ xs k (nx xs b)=tot:=by
  intro k hk;subst hk;rw[<-yL,<-cI,gQ,hd];exact⟨rfl,by simp⟩
 have V8:=bL hb
 cases out with
 | nil=>
  simp only[IQ,IS];unfold S at Ae vD ⊢;refine aW ?_;refine bK ?_ ?_
  .intro h1 h2;obtain⟨k,rfl⟩: ∃ k,n=k+1:=⟨n - 1,by omega⟩;obtain⟨jd,qN⟩:=abO k rfl;have hk:((k+1:Nat):Int) - 1=(k:Int):=by omega
   refine bE h2 ?_;refine d6 0 Ae vD ?_;refine bE (gn @P0 Gb hk @length_cons.{0} @length_nil.{0}) ?_
   repeat refine ae ?_
   refine aw (k,nx xs b,[d]) ?_ ⟨V8,by simp at xG ⊢;omega,jd,qN⟩;refine fW [0,3] ?_ ?_
   .simp[bO,eT,cJ,aU,IQ]
   simp[fM,fC,aU,cJ,IS,S,u32s]
  .intro h1 h2;have yI:n=0:=by omega
   subst yI;have xH:tot=[]:=by rw[<-cI];rfl
   have Gg:fin=b:=yL.symm;rw[xH,Gg];refine bE h2 ?_;refine qL rfl ⟨b',b'⟩ rfl (av xs _) rfl rfl rfl
 | cons x out=>
  have tC:(u32s (x::out)).length=(x::out).length:=aJ;have fD:List.take (x::out).length (u32s (x::out))=u32s (x::out):=dm (by rw[tC];exact qp _);have se:u32s (x::out)++[[FV.lit (Value.int .u32 d)]]=u32s (x::(out++[d])):=by simp[u32s]
  simp only[IQ,IS];obtain⟨L,hL⟩:=ax ((x::out).length);obtain⟨us,gf⟩:=ax (u32s (x::out));rw[hL,gf] at tC fD;rw[gf] at se;rw[hL] at xG;rw[hL,gf];unfold S at Ae vD ⊢;refine aW ?_;refine bK ?_ ?_
  .intro h1 h2;obtain⟨k,rfl⟩: ∃ k,n=k+1:=⟨n - 1,by omega⟩;obtain⟨jd,qN⟩:=abO k rfl;have hk:((k+1:Nat):Int) - 1=(k:Int):=by omega
   refine bE h2 ?_;refine d6 0 Ae vD ?_;refine bE (f0 @P0 Gb hk fD se @length_cons.{0} @length_nil.{0}) ?_
   repeat refine ae ?_
   refine aw (k,nx xs b,x::(out++[d])) ?_ ⟨V8,by simp at hL ⊢;omega,jd,qN⟩;refine fW [0,4] ?_ ?_
   .simp[bO,eT,cJ,aU,IQ];simp at hL;omega
   simp[fM,fC,aU,cJ,IS,S]
  intro h1 h2;have yI:n=0:=by omega
  subst yI;have xH:tot=x::out:=by rw[<-cI];simp[gQ]
  have Gg:fin=b:=yL.symm;rw[xH,Gg,gf];refine bE h2 ?_;refine qL rfl ⟨b',b'⟩ rfl (av xs _) rfl ?_ rfl;have hi:List.idxOf? 1 [0]=none:=rfl;exact j8 (bB tC fD hi)
def i_ (xs:List Int) (a:Nat):Raw×Nat:=
 if nN xs a 4=0 then(cn (o7 xs (nx xs a)),nx xs (nx xs (nx xs a)))
 else if nN xs a 4=1 then
  (⟨decide (nN xs (nx xs a) 2=0),gQ xs (nN xs (nx xs (nx xs a)) 5) (nx xs (nx xs (nx xs a))),
   gQ xs (nN xs (pV xs (nN xs (nx xs (nx xs a)) 5) (nx xs (nx xs (nx xs a)))) 5) (nx xs (pV xs (nN xs (nx xs (nx xs a)) 5) (nx xs (nx xs (nx xs a)))))⟩,
   pV xs (nN xs (pV xs (nN xs (nx xs (nx xs a)) 5) (nx xs (nx xs (nx xs a)))) 5) (nx xs (pV xs (nN xs (nx xs (nx xs a)) 5) (nx xs (nx xs (nx xs a))))))
 else(⟨decide (nN xs (nx xs (nx xs a)) 2=0),[(1+nN xs (nx xs a) 6)*nN xs (nx xs (nx xs (nx xs a))) 9,0],[(1+nN xs (nx xs a) 6)*nN xs (nx xs (nx xs (nx xs (nx xs a)))) 6]⟩,nx xs (nx xs (nx xs (nx xs (nx xs a)))))
theorem ZG (m:Nat):((m:Int)==0)=decide (m=0):=by
 by_cases h:m=0
 .subst h;rfl
 rw[mU h,qx];omega
theorem ZH {x:Nat} (h:x<4294967296):Dig [x]:=Dig.mk h Dig.nil
theorem sJ (xs:List Int) (a:Nat):(i_ xs a).1.Ok 4:=by
 unfold i_;split
 .exact Raw.Ok.mono (bn (vd xs _)) (by decide)
 split
 .have h1:=d5 (xs:=xs) (a:=nx xs (nx xs a)) (n:=5) (by decide);have h2:=d5 (xs:=xs) (a:=pV xs (nN xs (nx xs (nx xs a)) 5) (nx xs (nx xs (nx xs a)))) (n:=5) (by decide);exact⟨pW _ _ _,pW _ _ _,by rw[kS];omega,by rw[kS];omega⟩
 have h1:=d5 (xs:=xs) (a:=nx xs a) (n:=6) (by decide);have h2:=d5 (xs:=xs) (a:=nx xs (nx xs (nx xs a))) (n:=9) (by decide);have h3:=d5 (xs:=xs) (a:=nx xs (nx xs (nx xs (nx xs a)))) (n:=6) (by decide);have h4:(1+nN xs (nx xs a) 6)*nN xs (nx xs (nx xs (nx xs a))) 9<=6*8:=Nat.mul_le_mul (by omega) (by omega);have h5:(1+nN xs (nx xs a) 6)*nN xs (nx xs (nx xs (nx xs (nx xs a)))) 6<=6*5:=Nat.mul_le_mul (by omega) (by omega);exact⟨Dig.mk (by simp only[B];omega) (ZH (by omega)),ZH (by omega),by simp,by simp⟩
theorem y5 {xs:List Int} {a:Nat} (h:a<=xs.length):(i_ xs a).2<=xs.length:=by
 unfold i_;split
 .exact bL (bL (bL h))
 split
 .exact pX (bL (pX (bL (bL (bL h)))))
 exact bL (bL (bL (bL (bL h))))
theorem Tw (xs:List Int) (a:Nat) (hl:xs.length<=1000) (ha:a<=xs.length) (hw:W64 xs):
 Den Tryz.prog 88 [S xs a] [.ptr 0 0 0] [S xs (i_ xs a).2] (i_ xs a).1.v:=by
 have h4:=jn xs a 4 hl ha hw (by decide) (by decide)
 have hc:=av xs a
 have jX:=bL ha
 unfold i_
 obtain⟨m,hm⟩:=ax (nN xs a 4)
 obtain⟨a1,e1⟩:=ax (nx xs a)
 rw[hm,e1] at h4
 rw[e1] at jX
 rw[hm,e1]
 have c1:=av xs a1
 by_cases h0:m=0
 .rw[if_pos h0]
  have yd:=LR xs a1 hl jX hw
  have hb:((m:Int)==0)=true:=by rw[h0];rfl
  dsimp only
  change Den Tryz.prog 88 _ _ _ (FR (o7 xs a1))
  rw[a_] at yd ⊢
  unfold S at h4 yd hc c1 ⊢
  refine dq Tryz.func88 38 1 ?_
  refine aW ?_
  refine d6 0 h4 hc ?_
  refine bE hb ?_
  refine d6 0 yd c1 ?_
  refine cv ?_
  refine qL rfl ⟨⟨rfl,qp 3⟩,b'⟩ rfl (av xs _) rfl rfl rfl
 rw[if_neg h0]
 have hb:((m:Int)==0)=false:=by rw[qx];omega
 have BX:=bL jX
 obtain⟨a2,e2⟩:=ax (nx xs a1)
 have c2:=av xs a2
 have K0:=bL (a:=a2) (by rw[<-e2];exact BX)
 by_cases h1:m=1
 .rw[if_pos h1]
  have dp:((m:Int)==1)=true:=by rw[h1];rfl
  have qN:=jn xs a1 2 hl jX hw (by decide) (by decide)
  rw[e2] at BX qN ⊢
  have hx:=Tv xs a2 hl BX hw
  have T7:pV xs (nN xs a2 5) (nx xs a2)<=xs.length:=pX K0
  obtain⟨a3,e3⟩:=ax (pV xs (nN xs a2 5) (nx xs a2))
  have c3:=av xs a3
  rw[e3] at hx T7 ⊢
  have hy:=Tv xs a3 hl T7 hw
  obtain⟨p,hp⟩:=ax (nN xs a1 2)
  obtain⟨u,hu⟩:=ax (gQ xs (nN xs a2 5) (nx xs a2))
  obtain⟨w,Pp⟩:=ax (gQ xs (nN xs a3 5) (nx xs a3))
  obtain⟨a4,e4⟩:=ax (pV xs (nN xs a3 5) (nx xs a3))
  rw[hp] at qN ⊢
  rw[hu] at hx ⊢
  rw[Pp,e4] at hy ⊢
  have hbp:=ZG p
  unfold Raw.v
  unfold S at h4 qN hx hy hc c1 c2 c3 ⊢
  refine dq Tryz.func88 38 1 ?_
  refine aW ?_
  refine d6 0 h4 hc ?_
  refine bE (a8 hb dp) ?_
  refine d6 0 qN c1 ?_
  refine bE hbp ?_
  refine d6 0 hx c2 ?_
  refine cv ?_
  refine d6 0 hy c3 ?_
  refine cv ?_
  refine qL rfl ⟨⟨rfl,qp 3⟩,b'⟩ rfl (av xs _) rfl rfl rfl
 rw[if_neg h1]
 have dp:((m:Int)==1)=false:=by rw[qx];omega
 have jd:=y4 xs a1 1 6 6 hl jX hw (by decide) (by decide) (by decide) (by decide) (by decide)
 have l1:=d5 (xs:=xs) (a:=a1) (n:=6) (by decide)
 rw[e2] at BX jd ⊢
 have qN:=jn xs a2 2 hl BX hw (by decide) (by decide)
 obtain⟨a3,e3⟩:=ax (nx xs a2)
 have c3:=av xs a3
 rw[e3] at K0 qN ⊢
 have hn3:=jn xs a3 9 hl K0 hw (by decide) (by decide)
 have l3:=d5 (xs:=xs) (a:=a3) (n:=9) (by decide)
 have T7:=bL K0
 obtain⟨a4,e4⟩:=ax (nx xs a3)
 have c4:=av xs a4
 rw[e4] at T7 hn3 ⊢
 have hn4:=jn xs a4 6 hl T7 hw (by decide) (by decide)
 have l4:=d5 (xs:=xs) (a:=a4) (n:=6) (by decide)
 obtain⟨k,hk⟩:=ax (nN xs a1 6)
 obtain⟨p,hp⟩:=ax (nN xs a2 2)
 obtain⟨x,hx⟩:=ax (nN xs a3 9)
 obtain⟨y,hy⟩:=ax (nN xs a4 6)
 rw[hk] at jd l1 ⊢
 rw[hp] at qN ⊢
 rw[hx] at hn3 l3 ⊢
 rw[hy] at hn4 l4 ⊢
 have hbp:=ZG p
 have q1:(1+k)*x<=6*8:=Nat.mul_le_mul (by omega) (by omega)
 have q2:(1+k)*y<=6*5:=Nat.mul_le_mul (by omega) (by omega)
 have g1:((1:Int)+(k:Int))*(x:Int)=(((1+k)*x:Nat):Int):=by rw[Int.natCast_mul,Int.natCast_add];rfl
 have g2:((1:Int)+(k:Int))*(y:Int)=(((1+k)*y:Nat):Int):=by rw[Int.natCast_mul,Int.natCast_add];rfl
 obtain⟨kx,hkx⟩:=ax ((1+k)*x)
 obtain⟨ky,R_⟩:=ax ((1+k)*y)
 rw[hkx] at q1 g1 ⊢
 rw[R_] at q2 g2 ⊢
 unfold Raw.v
 unfold S at h4 jd qN hn3 hn4 hc c1 c2 c3 c4 ⊢
 refine dq Tryz.func88 38 1 ?_
 refine aW ?_
 refine d6 0 h4 hc ?_
 refine bE (a8 hb dp) ?_
 refine d6 0 jd c1 ?_
 refine cv ?_
 refine d6 0 qN c2 ?_
 refine bE hbp ?_
 refine d6 0 hn3 c3 ?_
 refine bE g1 ?_
 refine d6 0 hn4 c4 ?_
 refine bE (a8 g1 g2) ?_
 repeat refine ae ?_
 refine qL rfl ⟨⟨rfl,qp 3⟩,b'⟩ rfl (av xs _) rfl rfl rfl
theorem y6 (H:List Ob) (keep:List Nat): ∀ rs:List Raw,(flat rs).flatMap (tu H keep)=[]
 | []=>rfl
 | r::rs=>by simp only[flat,List.flatMap_cons,tu,j7,eu,nil_append,y6 H keep rs]
theorem RetOK.formL {st:St} {ob:Ob} {a id:Nat} {w:Bool} {rs:List Raw} (ha:st.get a= .ptr id 0 0) (hb:st.heap[id]?=some (.box w (flat rs))) (hl:rs.length=9) (hx:st.heap.head?=some ob) (eO:ob.closed) (hrw:ob.rw=true):
 RetOK tab [.cell a 60] 1 st [ob] (RL rs):=by
 refine qL (vs:=[.agg (flat rs)]) (cd:=(0=0/\0+27<=(flat rs).length)/\True) ?_ ⟨⟨rfl,by rw[ag];omega⟩,b'⟩ hx eO hrw ?_ ?_
 .simp[eB,r9,ha,Ld,IE,ee,hb,ig,ar hl,TyI.isAgg]
 .simp[bN,qG,ur,lj,RL]
 simp only[bN,lW,tv,y6]
 rw[<-hx];rfl
def yh (xs:List Int):Nat->Nat->Nat->List Raw->List Raw
 | 0,_,_,rs=>rs
 | n+1,i,a,rs=>yh xs n (i+1) (nx xs a) (rs.set i (cn ((-2+(nN xs a 5:Int):Int):Rat)))
theorem oL {k:Nat} {rs:List Raw} (h:LOk k rs) (v:Nat) {r:Raw} (hr:r.Ok k):LOk k (rs.set v r):=
 ⟨by simp[h.len],fun x hx=>by
  rcases List.mem_or_eq_of_mem_set hx with h1 | h1
  .exact h.ok x h1
  rw[h1];exact hr⟩
theorem Aq (xs:List Int): ∀ n i a rs,LOk 4 rs->LOk 4 (yh xs n i a rs)
 | 0,_,_,_,h=>h
 | n+1,i,a,rs,h=>by
  unfold yh;have h1:=d5 (xs:=xs) (a:=a) (n:=5) (by decide);exact Aq xs n _ _ _ (oL h i (Raw.Ok.mono (bn (bd_int (by omega))) (by decide)))
theorem RetOK.ownB {T:Tab} {st:St} {rs:List ResultVar} {id:Nat} {ob:Ob} {cd:Prop} (h1:eB T st rs=some (cd,[.ptr id 0 0])) (hc:cd) (h2:st.heap[id]?=some ob) (eO:ob.closed) (hrw:ob.rw=true):
 RetOK T rs 0 st [ob] (.ptr 0 0 0):=by
 refine⟨cd,[.ptr id 0 0],[id],h1,hc,by simp,fun i hi=>absurd hi (Nat.not_lt_zero i),?_,rfl,fun j k hj=>?_,fun o ho=>?_⟩
 .simp[bN,qG,ur,qD,List.idxOf?_cons]
 .cases j with
  | zero=>
   simp at hj;subst hj;simp[bN,lW,tv,tu,List.idxOf?_cons,shutIds,h2]
  | succ j=>simp at hj
 simp at ho;subst ho;exact⟨eO,hrw⟩
theorem ZI (l:List Int) (hl:l.length<9223372036854775808):Den Tryz.prog 13 [] [.fv (.sl (ints l))] [S (l.take 1000) 0] (.ptr 0 0 0):=by
 have eV:=cD l;have hc:=av (l.take 1000) 0;have eA: ∀ y∈ints l,y.length=1:=by
  intro y hy;simp only[ints,mem_map] at hy;obtain⟨n,_,rfl⟩:=hy;rfl
 unfold S at hc ⊢;by_cases h:l.length>1000
 .have h1:decide ((l.length:Int)>1000)=true:=BR;have fD:List.take 1000 (ints l)=ints (l.take 1000):=by simp[ints,List.map_take]
  refine dq Tryz.func13 10 0 ?_;refine cz (bB eV h1 fD) ?_;refine⟨⟨by omega,by omega,eA⟩,?_⟩;exact RetOK.ownB rfl ⟨b',b'⟩ rfl hc rfl
 have h1:decide ((l.length:Int)>1000)=false:=qV;rw[dm (by omega)] at hc ⊢;refine dq Tryz.func13 10 0 ?_;refine cz (a8 eV h1) ?_;exact RetOK.ownB rfl ⟨b',b'⟩ rfl hc rfl
end Go.Proofs.YtiaaceeelfhdlaaGreat
