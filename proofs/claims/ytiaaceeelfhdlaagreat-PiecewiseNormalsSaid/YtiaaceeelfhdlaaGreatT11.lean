/- Contracts:math/bits.Len32,LeadingZeros32. -/
import Derived.Test.YtiaaceeelfhdlaaGreatT10
import Derived.Lib.Tables
import Derived.Test.YtiaaceeelfhdlaaGreatT8
import Derived.Test.YtiaaceeelfhdlaaGreatT1
set_option linter.all false
open Nat (reduceAdd reduceEqDiff reduceLT reduceLeDiff reduceMul reduceSub)
open List (getElem?_eq_none getElem?_set_ne getElem?_take length_drop length_eq_one_iff length_take nodup_nil replicate take_succ_eq_append_getElem)
namespace Go.Proofs.YtiaaceeelfhdlaaGreat
open Go.AM Go.Pl
set_option maxRecDepth 100000
set_option maxHeartbeats 1000000
def dJ (n:Nat):Nat:=if n=0 then 0 else Nat.log2 n+1
theorem B7: ∀ n:Fin 256,(((Lib.len8tab[n.val]?).getD 0).toNat:Nat)=dJ n.val:=by decide+kernel
theorem gw {s:ByteArray}:PV.ofValue (.string s)= .fv (.lit (.string s)):=rfl
theorem tM:(⟨List.toArray (List.append (List.append [0,1,2,2,3,3,3,3,4,4,4,4,4,4,4,4,5,5,5,5,5,5,5,5,5,5,5,5,5,5,5,5,6,6,6,6,6,6,6,6,6,6,6,6,6,6,6,6,6,6,6,6,6,6,6,6,6,6,6,6,6,6,6,6] [7,7,7,7,7,7,7,7,7,7,7,7,7,7,7,7,7,7,7,7,7,7,7,7,7,7,7,7,7,7,7,7,7,7,7,7,7,7,7,7,7,7,7,7,7,7,7,7,7,7,7,7,7,7,7,7,7,7,7,7,7,7,7,7]) (List.append [8,8,8,8,8,8,8,8,8,8,8,8,8,8,8,8,8,8,8,8,8,8,8,8,8,8,8,8,8,8,8,8,8,8,8,8,8,8,8,8,8,8,8,8,8,8,8,8,8,8,8,8,8,8,8,8,8,8,8,8,8,8,8,8] [8,8,8,8,8,8,8,8,8,8,8,8,8,8,8,8,8,8,8,8,8,8,8,8,8,8,8,8,8,8,8,8,8,8,8,8,8,8,8,8,8,8,8,8,8,8,8,8,8,8,8,8,8,8,8,8,8,8,8,8,8,8,8,8]))⟩:ByteArray)=Lib.len8tab:=by kernel_rfl
theorem Ll {n:Nat} (h:1<=n):dJ n=1+dJ (n / 2):=by
 unfold dJ;rw[if_neg (by omega),Nat.log2_def];split
 .rw[if_neg (by omega)];omega
 have:n / 2=0:=by omega
 rw[if_pos this]
theorem pS {n:Nat} (k:Nat) (h:2^k<=n):dJ n=k+dJ (n / 2^k):=by
 induction k generalizing n with
 | zero=>simp
 | succ k ih=>
  have hk:=Nat.two_pow_pos k;rw[Nat.pow_succ] at h ⊢;rw[Ll (by omega),ih (n:=n / 2) (by omega),Nat.div_div_eq_div_mul,Nat.mul_comm 2];omega
theorem UE (x:Nat) (hx:x<4294967296):Den Tryz.prog 245 [] [.int .u32 x] [] (.int .i64 (dJ x:Int)):=by
 have h8: ∀ n:Nat,n<256->(((Lib.len8tab[n]?).getD 0).toNat:Nat)=dJ n:=fun n hn=>B7 ⟨n,hn⟩
 have dh:Lib.len8tab.size=256:=Lib.len8tab_size;have fin: ∀ (b y:Nat),y<256->b<=24->dJ x=b+dJ y->dJ y<100->True:=fun _ _ _ _ _ _=>trivial
 have hb8: ∀ n:Nat,n<256->dJ n<=8:=by
  intro n hn;have: ∀ m:Fin 256,dJ m.val<=8:=by decide+kernel
  exact this ⟨n,hn⟩
 refine dq Tryz.func245 18 0 ?_;refine cz (a8 @tM @gw) ?_;refine bK ?_ ?_
 .intro h1 h2;have e1:=pS (n:=x) 16 (by omega);have c1:(x:Int) / 65536=((x / 65536:Nat):Int):=by rw[Int.natCast_ediv];rfl
  have e1':dJ x=16+dJ (x / 65536):=e1;have hy:x / 65536<65536:=by omega
  generalize x / 65536=y at*;refine ah (fe h2 c1 @tM @gw) ?_;refine⟨by omega,?_⟩;refine bK ?_ ?_
  .intro h3 h4;have e2:dJ y=8+dJ (y / 256):=pS (n:=y) 8 (by omega);have c2:(y:Int) / 256=((y / 256:Nat):Int):=by rw[Int.natCast_ediv];rfl
   have hz:y / 256<256:=by omega
   generalize y / 256=z at*;have:=hb8 z hz;refine ah (gn h4 c2 @tM @gw h8) ?_;refine⟨by omega,by rw[dh];omega,?_⟩;refine bc ?_;refine o_ ?_;rw[e1',e2];simp;omega
  intro h3 h4;have:=hb8 y (by omega);refine ah (fe h4 @tM @gw h8) ?_;refine⟨by rw[dh];omega,?_⟩;refine bc ?_;refine o_ ?_;rw[e1'];simp
 intro h1 h2;refine ah (bB h2 @tM @gw) ?_;refine bK ?_ ?_
 .intro h3 h4;have e2:dJ x=8+dJ (x / 256):=pS (n:=x) 8 (by omega);have c2:(x:Int) / 256=((x / 256:Nat):Int):=by rw[Int.natCast_ediv];rfl
  have hz:x / 256<256:=by omega
  generalize x / 256=z at*;have:=hb8 z hz;refine ah (gn h4 c2 @tM @gw h8) ?_;refine⟨by omega,by rw[dh];omega,?_⟩;refine bc ?_;refine o_ ?_;rw[e2];simp
 intro h3 h4;have:=hb8 x (by omega);refine ah (fe h4 @tM @gw h8) ?_;refine⟨by rw[dh];omega,?_⟩;refine bc ?_;refine o_ ?_;simp
theorem GM {x:Nat} (hx:x<4294967296):dJ x<=32:=by
 unfold dJ;split
 .omega
 have:x.log2<32:=(Nat.log2_lt (by omega)).2 (by omega);omega
theorem UF (x:Nat) (hx:x<4294967296):Den Tryz.prog 257 [] [.int .u32 x] [] (.int .i64 ((32 - dJ x:Nat):Int)):=by
 have hb:=GM hx;refine dq Tryz.func257 5 0 ?_;refine aW ?_;refine gp (UE x hx) rfl ?_;refine a9 ?_;refine bc ?_;refine o_ ?_;simp;omega
theorem Tc (l:List Nat) (hl:Dig l) (pa:l.length<=2):Den Tryz.prog 223 [] [.fv (.sl (u32s l))] [] (.int .u64 ((val l:Nat):Int)):=by
 refine dq Tryz.func223 21 0 ?_;refine aW ?_;refine wl (α:=Nat) (fun i=>⟨.fv (.sl (u32s l)):: .any:: .fv (.lit (.int .u64 0)):: .int .u64 ((val (l.take i):Nat):Int):: .any:: .any:: .fv (.sl (u32s l)):: .int .i64 l.length:: .int .i64 i::replicate 13 .any,[]⟩)
  (fun i=>l.length - i) (fun i=>i<=l.length) 0 ?_ ?_ ?_
 .refine fW [] ?_ ?_
  .simp[bO,eT,cJ,val]
  trivial
 .omega
 intro i hi;refine aW ?_;refine bK ?_ ?_
 .intro h1 h2;have hx:=hl.getD i;have fD:=aH l i;have XH:=bD (hl.take i);rw[length_take,Nat.min_eq_left hi] at XH;simp only[B] at hx;have gq:i=0\/i=1:=by omega
  rcases gq with rfl | rfl
  .generalize z':l.getD 0 0=x at*;have ht0:val (l.take 0)=0:=by simp[val]
   rw[ht0] at fD ⊢;refine ah (f0 h2 z' @Lg @q0 @Int.natCast_zero @Int.mul_zero @Int.toNat_zero) ?_;refine⟨by omega,by omega,?_⟩;refine aw 1 ?_ (by omega);refine fW [] ?_ ?_
   .have:(x:Int)=((val (l.take 1):Nat):Int):=by rw[fD];simp
    simp[bO,eT,cJ,<-this]
   trivial
  generalize z':l.getD 1 0=x at*;generalize val (l.take 1)=v at*;have hv:v<4294967296:=by simpa using XH
  refine ah (kX h2 z' @Lg @q0 @Int.natCast_one @Int.mul_one) ?_;refine⟨by omega,by omega,?_⟩;refine aw 2 ?_ (by omega);refine fW [] ?_ ?_
  .have:(v:Int)+x*4294967296=((val (l.take 2):Nat):Int):=by rw[fD];simp[B,Int.mul_comm]
   simp[bO,eT,cJ,<-this]
  trivial
 intro h1 h2;refine ah h2 ?_;have eV:i=l.length:=by omega
 refine bc ?_;refine o_ ?_;rw[eV,aN (qp _)]
end Go.Proofs.YtiaaceeelfhdlaaGreat
namespace Go.Pl
open Go.AM
theorem vK {w v first low top vl P:Nat} (_:0<P) (hw:w=first*P+low) (hl:low<P) (hv:v=top*P+vl) {q:Nat} (hq:q*v<=w):q*top<=first:=by
 have h1:q*top*P<=q*v:=by
  rw[hv,Nat.mul_add,Nat.mul_assoc];exact Nat.le_add_right _ _
 have h2:q*top*P<(first+1)*P:=by
  rw[Nat.add_mul,Nat.one_mul];omega
 have:=Nat.lt_of_mul_lt_mul_right h2;omega
theorem PS {w v w2 v2 lw lv Q g:Nat} (hw:w=w2*Q+lw) (hv:v=v2*Q+lv) (hl:lv<Q) (hg:g*v2<=w2) (mR:g<=v2):(g - 1)*v<=w:=by
 rcases Nat.eq_zero_or_pos g with h0 | h0
 .subst h0;simp
 obtain⟨k,rfl⟩: ∃ k,g=k+1:=⟨g - 1,by omega⟩;rw[Nat.add_sub_cancel,hw,hv];have h1:k*lv<=k*Q:=Nat.mul_le_mul_left _ (by omega);have h2:(k+1)*v2*Q<=w2*Q:=qn _ hg;have h3:k*Q<=v2*Q:=qn _ (by omega);have h4:(k+1)*v2*Q=k*(v2*Q)+v2*Q:=by grind
 rw[Nat.mul_add];omega
structure tN (first top q g r:Nat):Prop where
 sum:g*top+r=first
 low:q<=g
theorem B8 {first top q:Nat} (ht:0<top) (h:q*top<=first):tN first top q (first / top) (first % top):=
 ⟨by have:=Nat.div_add_mod first top;rw[Nat.mul_comm] at this;exact this,(Nat.le_div_iff_mul_le ht).2 h⟩
theorem u7 {first top q g r:Nat} (h:tN first top q g r) (aG:q<g):tN first top q (g - 1) (r+top):=by
 obtain⟨k,rfl⟩: ∃ k,g=k+1:=⟨g - 1,by omega⟩;refine⟨?_,by omega⟩;have:=h.sum;rw[Nat.add_mul,Nat.one_mul] at this;rw[Nat.add_sub_cancel];omega
theorem GN {w v w2 first u2 top second lw lv Q q g r:Nat} (hQ:0<Q) (hw:w=w2*Q+lw) (hlw:lw<Q) (Pp:w2=first*4294967296+u2) (hv:v=(top*4294967296+second)*Q+lv) (hq:q*v<=w)
 (h:tN first top q g r) (ht:r*4294967296+u2<g*second):q<g:=by
 rcases Nat.lt_or_ge q g with h1 | h1
 .exact h1
 exfalso
 have h2:=vK hQ hw hlw hv hq
 have h3:g*(top*4294967296+second)<=q*(top*4294967296+second):=qn _ h1
 have h4:=h.sum
 have h5:g*(top*4294967296+second)=(g*top)*4294967296+g*second:=by grind
 omega
theorem oE {first u2 top second g r q:Nat} (h:tN first top q g r) (ht:g*second<=r*4294967296+u2):g*(top*4294967296+second)<=first*4294967296+u2:=by
 have h4:=h.sum;have h5:g*(top*4294967296+second)=(g*top)*4294967296+g*second:=by grind
 omega
theorem Ah {first top second g r q:Nat} (h:tN first top q g r) (hr:4294967296<=r) (hf:first<=top*4294967296+4294967295) (hs:second<4294967296):g<4294967296/\g*second<=r*4294967296:=by
 have h4:=h.sum;have h1:g*top<4294967296*top:=by omega
 have hg:g<4294967296:=Nat.lt_of_mul_lt_mul_right h1;refine⟨hg,?_⟩;have h2:g*second<=r*second:=qn _ (by omega);have h3:r*second<=r*4294967296:=Nat.mul_le_mul_left _ (by omega);exact ka h2 h3
theorem Lm {first top:Nat} (ht:2147483648<=top) (hf:first<=top*4294967296+4294967295):first / top<=4294967297:=by
 have:first / top<4294967298:=by
  rw[Nat.div_lt_iff_lt_mul (by omega)];omega
 omega
end Go.Pl
namespace Go.Pl
open Go.AM
def fg (u:List Nat) (j i:Nat):Nat:=val ((u.drop j).take i)
theorem EN (u:List Nat) (j i:Nat):(u.drop j).getD i 0=u.getD (j+i) 0:=by
 simp[qa,List.getElem?_drop]
theorem q5 (u:List Nat) (j:Nat):fg u j 0=0:=by simp[fg,val]
theorem iM (u:List Nat) (j i:Nat):fg u j (i+1)=fg u j i+B^i*u.getD (j+i) 0:=by
 unfold fg;rw[aH,EN]
theorem iI {u:List Nat} {j i:Nat} (h:j+i<u.length) (x:Nat):fg (u.set (j+i) x) j (i+1)=fg u j i+B^i*x:=by
 unfold fg;have h1:(u.set (j+i) x).drop j=(u.drop j).set i x:=by
  rw[List.drop_set];rw[if_neg (by omega),Nat.add_sub_cancel_left]
 rw[h1,cw (by rw[length_drop];omega)]
theorem sB {u:List Nat} (hu:Dig u) (j i:Nat):fg u j i<B^i:=by
 unfold fg;have h:=bD ((hu.drop j).take i);have h2:((u.drop j).take i).length<=i:=by rw[length_take];omega
 exact Nat.lt_of_lt_of_le h (Nat.pow_le_pow_right (by decide) h2)
theorem GO {u:List Nat} {j n:Nat} (h:j+n<=u.length):val u=val (u.take j)+B^j*(fg u j n+B^n*val (u.drop (j+n))):=by
 rw[iL u j (by omega)];congr 2;rw[iL (u.drop j) n (by rw[length_drop];omega)];unfold fg;rw[List.drop_drop]
theorem Td {a c b:Int}:IntKind.u64.wrap (IntKind.u64.wrap (a - c) - b)=(a - c - b) % 18446744073709551616:=by
 rw[o4,o4];omega
theorem B9 {a c b:Nat} (ha:a<4294967296) (hc:c<4294967296) (hb:b<=1):
 ∃ d b2:Nat,d<4294967296/\b2<=1/\d+c+b=a+b2*4294967296/\((a:Int) - c - b) % 18446744073709551616 % 4294967296=(d:Int)/\((a:Int) - c - b) % 18446744073709551616 / 9223372036854775808=(b2:Int):=by
 by_cases h:c+b<=a
 .exact⟨a - (c+b),0,by omega,by omega,by omega,by omega,by omega⟩
 exact⟨a+4294967296 - (c+b),1,by omega,by omega,by omega,by omega,by omega⟩
theorem iO {S S0 P g Vt v c b a d b2:Nat} (hv:S+g*Vt=S0+(c+b)*P) (h:d+(c+g*v) % 4294967296+b=a+b2*4294967296):
 S+P*d+g*(Vt+P*v)=S0+P*a+((c+g*v) / 4294967296+b2)*(P*4294967296):=by
 have h1:=Nat.mod_add_div (c+g*v) 4294967296
 generalize (c+g*v) % 4294967296=lo at*
 generalize (c+g*v) / 4294967296=hi at*
 have h2:P*d+P*lo+P*b=P*a+b2*(P*4294967296):=by
  have:=congrArg (P* ·) h;grind
 have h3:P*lo+hi*(P*4294967296)=P*c+g*(P*v):=by
  have:=congrArg (P* ·) h1;grind
 have h4:(c+b)*P=P*c+P*b:=by grind
 have h5:(hi+b2)*(P*4294967296)=hi*(P*4294967296)+b2*(P*4294967296):=by rw[Nat.add_mul]
 rw[h5,Nat.mul_add g]
 omega
theorem B_ {W W1 g V:Nat} (h:W1+g*V=W) (hq:W<(g+1)*V):W1<V:=by
 rw[Nat.add_mul,Nat.one_mul] at hq;omega
theorem vL {W W1 W2 g V M c:Nat} (hV:V<=M) (h:W1+g*V=W+M) (hg:0<g) (D':(g - 1)*V<=W) (gK:W<g*V) (h2:W2+c*M=W1+V) (hW2:W2<M):W2+(g - 1)*V=W/\W2<V:=by
 obtain⟨k,rfl⟩: ∃ k,g=k+1:=⟨g - 1,by omega⟩;rw[Nat.add_sub_cancel] at*;rw[Nat.add_mul,Nat.one_mul] at h gK;have h3:W2+c*M+k*V=W+M:=by omega
 rcases Nat.lt_trichotomy c 1 with hc | hc | hc
 .have:c=0:=by omega
  subst this;omega
 .subst hc;omega
 exfalso;have:2*M<=c*M:=qn _ hc;omega
theorem B' {u:List Nat} {j n:Nat} (h:j+n<=u.length):val (u.drop j)=fg u j n+B^n*val (u.drop (j+n)):=by
 unfold fg;rw[iL (u.drop j) n (by rw[length_drop];omega),List.drop_drop]
theorem q6 {u w:List Nat} {j:Nat} (hl:u.length=w.length) (h: ∀ t,j<=t->u.getD t 0=w.getD t 0):u.drop j=w.drop j:=by
 apply List.ext_getElem?;intro i;rw[List.getElem?_drop,List.getElem?_drop];have:=h (j+i) (by omega);by_cases hi:j+i<u.length
 .have hw:j+i<w.length:=by omega
  simp[hi,hw] at this;rw[qb hi,qb hw,this]
 rw[getElem?_eq_none (by omega),getElem?_eq_none (by omega)]
theorem q7 {u w:List Nat} {j:Nat} (hl:u.length=w.length) (h: ∀ t,t<j->u.getD t 0=w.getD t 0):u.take j=w.take j:=by
 apply List.ext_getElem?;intro i;rw[getElem?_take,getElem?_take];split
 .have:=h i (by omega);by_cases hi:i<u.length
  .have hw:i<w.length:=by omega
   simp[hi,hw] at this;rw[qb hi,qb hw,this]
  rw[getElem?_eq_none (by omega),getElem?_eq_none (by omega)]
 rfl
theorem UG {s0 a1 a2 P:Nat}:s0+P*a2+P*4294967296*a1=(a1*4294967296+a2)*P+s0:=by grind
theorem UH {f P s a:Nat}:f*(P*4294967296)+(s+P*a)=(f*4294967296+a)*P+s:=by grind
theorem Ln {V W f s r t P:Nat} (hk:V=t*P+r) (hr:r<P) (hW:W<V*4294967296) (hf:W=f*P+s):f<=t*4294967296+4294967295:=by
 have h4:V*4294967296<=(t*P+P)*4294967296:=qn _ (by omega);have h5:(t*P+P)*4294967296=(t*4294967296+4294967296)*P:=by grind
 have h6:f*P<(t*4294967296+4294967296)*P:=by omega
 have:=Nat.lt_of_mul_lt_mul_right h6;omega
theorem UI {d0 d1 V:Nat} (h0:d0<4294967296) (h:d1<V):d0+4294967296*d1<V*4294967296:=by omega
theorem PT {s P x M:Nat} (h:s+P*x<M) (hM:M<=P):x=0:=by
 rcases Nat.eq_zero_or_pos x with h1 | h1
 .exact h1
 exfalso;have:P*1<=P*x:=Nat.mul_le_mul_left _ h1;omega
structure Ca (u v:List Nat) (j n:Nat):Prop where
 all:val (u.drop j)=fg u j (n+1)
 tail:val (u.drop (j+n+1))=0
 h1:fg u j (n+1)=(u.getD (j+n) 0*4294967296+u.getD (j+n - 1) 0)*B^(n - 1)+fg u j (n - 1)
 h2:fg u j (n+1)=((u.getD (j+n) 0*4294967296+u.getD (j+n - 1) 0)*4294967296+u.getD (j+n - 2) 0)*B^(n - 2)+fg u j (n - 2)
 v1:val v=v.getD (n - 1) 0*B^(n - 1)+val (v.take (n - 1))
 v2:val v=(v.getD (n - 1) 0*4294967296+v.getD (n - 2) 0)*B^(n - 2)+val (v.take (n - 2))
 lt:fg u j (n+1)<val v*B
 first:u.getD (j+n) 0*4294967296+u.getD (j+n - 1) 0<=v.getD (n - 1) 0*4294967296+4294967295
 l1:val (v.take (n - 1))<B^(n - 1)
 l2:val (v.take (n - 2))<B^(n - 2)
 s1:fg u j (n - 1)<B^(n - 1)
 s2:fg u j (n - 2)<B^(n - 2)
theorem sC {u v:List Nat} {j n:Nat} (hu:Dig u) (hv:Dig v) (hvl:v.length=n) (hn:2<=n) (hj:j+n+1<=u.length) (aG:val (u.drop (j+1))<val v):Ca u v j n:=by
 obtain⟨p,rfl⟩: ∃ p,n=p+2:=⟨n - 2,by omega⟩;have hV:=bD hv;rw[hvl] at hV;have hf:=B' (u:=u) (j:=j) (n:=p+2+1) (by omega);have hd:=ew (l:=u) (j:=j) (by omega);have BS:u.getD j 0<4294967296:=hu.getD j;have hW:val (u.drop j)<val v*4294967296:=by
  rw[hd];exact UI BS aG
 have hW2:val v*4294967296<=B^(p+2+1):=by
  rw[Nat.pow_succ];exact qn _ (Nat.le_of_lt hV)
 have ht:val (u.drop (j+(p+2+1)))=0:=by
  rw[hf] at hW;exact PT hW hW2
 have pe:val (u.drop j)=fg u j (p+2+1):=by
  rw[hf,ht,Nat.mul_zero,Nat.add_zero]
 have c1:p+2 - 1=p+1:=by omega
 have c2:p+2 - 2=p:=by omega
 have c3:j+(p+2) - 1=j+(p+1):=by omega
 have c4:j+(p+2) - 2=j+p:=by omega
 have e1:=iM u j (p+2);have e2:=iM u j (p+1);have e3:=iM u j p;have w1:=aH v (p+1);have w2:=aH v p;have w0:val (v.take (p+1+1))=val v:=aN (by omega);have Aa: ∀ i,B^(i+1)=B^i*4294967296:=fun i=>Nat.pow_succ _ _
 have g1:fg u j (p+2+1)=(u.getD (j+(p+2)) 0*4294967296+u.getD (j+(p+1)) 0)*B^(p+1)+fg u j (p+1):=by
  rw[e1,e2,Aa (p+1)];exact UG
 have k1:val v=v.getD (p+1) 0*B^(p+1)+val (v.take (p+1)):=by
  rw[<-w0,w1,Nat.add_comm,Nat.mul_comm]
 have q1:val (v.take (p+1))<B^(p+1):=by
  have:=bD (hv.take (p+1));rw[length_take,Nat.min_eq_left (by omega)] at this;exact this
 have q2:val (v.take p)<B^p:=by
  have:=bD (hv.take p);rw[length_take,Nat.min_eq_left (by omega)] at this;exact this
 refine⟨pe,ht,?_,?_,?_,?_,?_,?_,?_,?_,?_,?_⟩
 .rw[c1,c3];exact g1
 .rw[c2,c3,c4,g1,e3,Aa];exact UH
 .rw[c1];exact k1
 .rw[c1,c2,k1,w2,Aa];generalize B^p=P;grind
 .rw[<-pe];exact hW
 .rw[c1,c3];rw[pe] at hW;exact Ln k1 q1 hW g1
 .rw[c1];exact q1
 .rw[c2];exact q2
 .rw[c1];exact sB hu _ _
 rw[c2];exact sB hu _ _
theorem pT {u u4 qd:List Nat} {j n A g V:Nat} (hl:u4.length=u.length) (hjn:j+n+1<=u.length) (hjq:j<qd.length)
 (ph: ∀ t,(t<j\/j+n+1<=t)->u4.getD t 0=u.getD t 0) (T0:val (u.drop (j+n+1))=0)
 (hW:fg u4 j (n+1)+g*V=fg u j (n+1)) (aG:fg u4 j (n+1)<V) (bj:val u+V*(B^(j+1)*val (qd.drop (j+1)))=A):
 val u4+V*(B^j*val ((qd.set j g).drop j))=A/\val (u4.drop j)<V:=by
 have h1:u4.drop (j+n+1)=u.drop (j+n+1):=q6 hl (fun t ht=>ph t (Or.inr ht))
 have h2:u4.take j=u.take j:=q7 hl (fun t ht=>ph t (Or.inl ht))
 have h3:=GO (u:=u) (j:=j) (n:=n+1) (by omega)
 have h4:=GO (u:=u4) (j:=j) (n:=n+1) (by omega)
 have h5:=B' (u:=u4) (j:=j) (n:=n+1) (by omega)
 rw[show j+(n+1)=j+n+1 by omega] at h3 h4 h5
 rw[h1,T0] at h4 h5
 rw[T0] at h3
 rw[Nat.mul_zero,Nat.add_zero] at h3 h4 h5
 have h6:=mb (l:=qd) (j:=j) (x:=g) hjq
 refine⟨?_,by rw[h5];exact aG⟩
 rw[h6,h4,h2,<-bj,h3,<-hW,Nat.pow_succ]
 generalize val (u.take j)=x1
 generalize B^j=x2
 generalize fg u4 j (n+1)=x3
 generalize val (qd.drop (j+1))=x4
 grind
theorem jy {u v:List Nat} {j n g:Nat} (h:Ca u v j n) (hg:g<4294967296) (uU:2147483648<=v.getD (n - 1) 0)
 (h2:g*(v.getD (n - 1) 0*4294967296+v.getD (n - 2) 0)<=(u.getD (j+n) 0*4294967296+u.getD (j+n - 1) 0)*4294967296+u.getD (j+n - 2) 0):
 (g - 1)*val v<=fg u j (n+1):=
 PS h.h2 h.v2 h.l2 h2 (by omega)
theorem IH {S1 S S0 U P g V c b x d b2:Nat} (bg:S1=S+P*d) (k7:U=S0+P*x) (kZ:S+g*V=S0+(c+b)*P) (RN:d+c+b=x+b2*4294967296):
 S1+g*V=U+b2*(P*4294967296):=by
 have h1:P*d+P*c+P*b=P*x+b2*(P*4294967296):=by
  have:=congrArg (P* ·) RN;grind
 have h2:(c+b)*P=P*c+P*b:=by grind
 omega
theorem mc {S S0 P Vt c z y cc:Nat} (hs:S+c*P=S0+Vt) (qX:c+(z+y)=cc):
 S+P*(cc % 4294967296)+cc / 4294967296*(P*4294967296)=S0+P*z+(Vt+P*y):=by
 have h1:=Nat.mod_add_div cc 4294967296
 have h2:P*(cc % 4294967296)+cc / 4294967296*(P*4294967296)=P*cc:=by
  have:=congrArg (P* ·) h1;grind
 have h3:P*cc=P*c+P*z+P*y:=by rw[<-qX];grind
 have h4:P*c=c*P:=Nat.mul_comm _ _
 omega
theorem Ai {S1 S U S0 P V c z:Nat} (bg:S1=S+P*((z+c) % 4294967296)) (k7:U=S0+P*z) (hs:S+c*P=S0+V):
 S1+(z+c) / 4294967296*(P*4294967296)=U+V:=by
 have h1:=Nat.mod_add_div (z+c) 4294967296
 have h2:P*((z+c) % 4294967296)+(z+c) / 4294967296*(P*4294967296)=P*(z+c):=by
  have:=congrArg (P* ·) h1;grind
 have h3:P*(z+c)=P*z+c*P:=by grind
 omega
theorem GP {w v g:Nat} (hv:0<v) (h:w / v<=g):w<(g+1)*v:=by
 rw[<-Nat.div_lt_iff_lt_mul hv];omega
theorem pw {l:List Nat} {i k:Nat} (hk:k<=32) (hi:i<l.length):
 (l.getD i 0+l.getD (i+1) 0*4294967296) / 2^k % 4294967296=val (l.drop i) / 2^k % 4294967296:=by
 have h1:=ew hi
 have h2: ∃ r,val (l.drop (i+1))=l.getD (i+1) 0+B*r:=by
  by_cases h:i+1<l.length
  .exact⟨_,ew h⟩
  refine⟨0,?_⟩;rw[List.drop_of_length_le (by omega),qa,getElem?_eq_none (by omega)];rfl
 obtain⟨r,hr⟩:=h2
 have hb:4294967296=2^k*2^(32 - k):=by
  rw[<-Nat.pow_add,show k+(32 - k)=32 by omega]
 rw[h1,hr]
 generalize l.getD i 0=x
 generalize l.getD (i+1) 0=y
 have h3:x+B*(y+B*r)=x+y*4294967296+2^k*(2^(32 - k)*4294967296*r):=by
  have:2^k*(2^(32 - k)*4294967296*r)=(2^k*2^(32 - k))*4294967296*r:=by grind
  rw[this,<-hb];simp only[B];grind
 rw[h3,Nat.add_mul_div_left _ _ (Nat.two_pow_pos k)]
 have h4:2^(32 - k)*4294967296*r=4294967296*(2^(32 - k)*r):=by grind
 rw[h4,Nat.add_mul_mod_self_left]
theorem yR (i x:Nat):gG (i+1) x=gG i x++[x / B^i % B]:=by
 induction i generalizing x with
 | zero=>simp[gG]
 | succ i ih=>
  rw[gG,ih]
  conv=>rhs;rw[gG]
  rw[Nat.div_div_eq_div_mul,Nat.pow_succ,Nat.mul_comm B];simp
theorem gO {l:List Nat} (hl:Dig l) {i:Nat} (hi:i<=l.length):val l / B^i=val (l.drop i):=by
 rw[iL l i hi];have h:=bD (hl.take i);rw[length_take,Nat.min_eq_left hi] at h;rw[Nat.add_mul_div_left _ _ (IB (by decide)),Nat.div_eq_of_lt h,Nat.zero_add]
theorem vM {x P V T K Bn Bm Bl:Nat} (hx:P<Bl) (hK:K<=T) (hV:T*Bn<=V) (hB:Bn*Bm=Bl) (Kl:x=P*K) (hT:0<T) (hm:0<Bm):x / Bm<V:=by
 rw[Nat.div_lt_iff_lt_mul hm,Kl];have h1:P*K<=P*T:=Nat.mul_le_mul_left _ hK;have h2:P*T<Bl*T:=Nat.mul_lt_mul_of_pos_right hx hT;have h3:T*Bn*Bm<=V*Bm:=qn _ hV;have h4:T*Bn*Bm=Bl*T:=by rw[<-hB];grind
 omega
theorem Cb {u q a b K V:Nat} (hV:V=b*K) (hK:0<K) (h:u+V*q=a*K) (hu:u<V):q=a / b/\u / K=a % b:=by
 have h1:q=a*K / V:=by rw[<-h,Nat.add_mul_div_left _ _ (by omega),Nat.div_eq_of_lt hu,Nat.zero_add]
 have h2:u=a*K % V:=by rw[<-h,Nat.add_mul_mod_self_left,Nat.mod_eq_of_lt hu]
 constructor
 .rw[h1,hV,Nat.mul_div_mul_right _ _ hK]
 rw[h2,hV,Nat.mul_mod_mul_right,Nat.mul_div_cancel _ hK]
end Go.Pl
namespace Go.Proofs.YtiaaceeelfhdlaaGreat
open Go.AM Go.Pl
set_option maxRecDepth 100000
set_option maxHeartbeats 4000000
theorem PU (n:Nat):n<2^dJ n:=by
 unfold dJ;split
 .subst_vars;simp
 exact Nat.lt_log2_self
theorem Lo {n:Nat} (h:n≠0):2^(dJ n - 1)<=n:=by
 unfold dJ;rw[if_neg h,Nat.add_sub_cancel];exact Nat.log2_self_le h
theorem UJ (a b:List Nat) (k:Nat) (ha:Dig a) (hb:Dig b) (uR:a.length<10000000000) (Km:2<=b.length) (x8:b.length<=a.length)
 (hk:k=32 - dJ (b.getD (b.length - 1) 0)) (RQ:k<32) (v:List Nat) (hv:ai (val b*2^k)=v) (hvl:v.length=b.length) (uU:2147483648<=v.getD (v.length - 1) 0):
 Den Tryz.prog 226 [] [.fv (.sl (u32s a)),.fv (.sl (u32s b))] [] (.tup [.fv (N (val a / val b)),.fv (N (val a % val b))]):=by
 have Og:(((b.length:Nat):Int) - 1).toNat=b.length - 1:=by omega
 have sb:=hb.getD (b.length - 1)
 simp only[B] at sb
 have hkc:IntKind.u64.wrap ((k:Nat):Int)=(k:Int):=dA (by omega)
 have abo:=UF (b.getD (b.length - 1) 0) sb
 rw[<-hk] at abo
 have hsb:val (gG (b.length+1) (val b*2^k))=val b*2^k:=by
  apply jI;rw[Nat.pow_succ];exact Nat.mul_lt_mul'' (bD hb) (Nat.lt_of_lt_of_le (Nat.pow_lt_pow_right (by decide) RQ) (by decide))
 have XI:=gN (gG (b.length+1) (val b*2^k)) (jH _ _) (by rw[cC];omega)
 rw[hsb] at XI
 refine dq Tryz.func226 249 0 ?_
 refine cz Og ?_
 refine⟨by omega,?_⟩
 refine aM abo ?_
 refine ah hkc ?_
 refine gp (Lk a k ha (by omega) RQ) rfl ?_
 refine a9 ?_
 refine gp (Lk b k hb (by omega) RQ) rfl ?_
 refine a9 ?_
 refine gp XI ?_ ?_
 .simp[bH,eS,dS,dI,aJ,cC]
  rw[dm (by simp[aJ,cC])]
 simp -dsimp(disch:=omega) only[bx,hv,IntKind.bits,Int.reduceToNat,Int.reducePow,Option.isNone_none,↓reduceIte,reduceCtorEq,reduceAdd,reduceMul,reduceSub,Nat.reduceBEq,reduceEqDiff,reduceLT,reduceLeDiff,ru]
 refine dw (by kernel_rfl) ?_
 obtain⟨n,hn⟩:=ax v.length
 have V8:b.length=n:=by omega
 have jd:((n:Int) - 1).toNat=n - 1:=by omega
 have qN:((n:Int) - 2).toNat=n - 2:=by omega
 have hlm:(((a.length+1:Nat):Int) - (n:Int)).toNat=a.length+1 - n:=by omega
 have yF:Dig v:=by rw[<-hv];exact al _
 have Oh:=yF.getD (n - 1)
 have Oi:=yF.getD (n - 2)
 have Oj:val v=val b*2^k:=by rw[<-hv,aj]
 simp only[B] at Oh Oi
 rw[hn] at uU
 obtain⟨top,ht⟩:=ax (v.getD (n - 1) 0)
 obtain⟨sec,hs⟩:=ax (v.getD (n - 2) 0)
 obtain⟨m,hm⟩:=ax (a.length+1 - n)
 rw[ht] at Oh uU
 rw[hs] at Oi
 have hua:val (gG (a.length+1) (val a*2^k))=val a*2^k:=by
  apply jI;rw[Nat.pow_succ];exact Nat.mul_lt_mul'' (bD ha) (Nat.lt_of_lt_of_le (Nat.pow_lt_pow_right (by decide) RQ) (by decide))
 refine ah (f0 hn jd qN ht hs hlm hm) ?_
 refine⟨by omega,by omega,by omega,?_⟩
 refine wl (α:=Nat×List Nat×List Nat) (fun⟨j1,qd,u⟩=>⟨.fv (.sl (u32s a)):: .fv (.sl (u32s b)):: .any:: .any:: .lsl 1 0 m 1:: .nilsl:: .int .u64 k:: .lsl 0 0 (a.length+1) 1:: .fv (.sl (u32s v)):: .int .i64 n:: .int .u64 top:: .int .u64 sec:: .int .i64 ((j1:Int) - 1)::replicate 238 .any,[.row true (u32s u),.row true (u32s qd)]⟩)
  (fun⟨j1,_,_⟩=>j1) (fun⟨j1,qd,u⟩=>j1<=m/\u.length=a.length+1/\qd.length=m/\Dig u/\Dig qd/\val (u.drop j1)<val v/\val u+val v*(B^j1*val (qd.drop j1))=val a*2^k) (m,replicate m 0,gG (a.length+1) (val a*2^k)) ?_ ?_ ?_
 .exact gm [0,2]
 .refine⟨qp _,cC _ _,by simp,jH _ _,Dig.zeros,?_,?_⟩
  .rw[<-gO (jH _ _) (by rw[cC];omega),hua]
   have h1:=aH v (n - 1)
   rw[aN (by omega),ht] at h1
   refine vM (x:=val a*2^k) (P:=val a) (T:=2147483648) (K:=2^k) (Bn:=B^(n - 1)) (Bl:=B^a.length) (bD ha) (Nat.pow_le_pow_right (by decide) (show k<=31 by omega)) ?_ ?_ rfl (by decide) (IB (by decide))
   .rw[h1,Nat.mul_comm]
    exact ka (Nat.mul_le_mul_left _ uU) (Nat.le_add_left _ _)
   rw[<-Nat.pow_add];congr 1;omega
  rw[hua,List.drop_of_length_le (by simp)]
  simp[val]
 rintro⟨j1,qd,u⟩ ⟨XJ,tC,Pq,x9,XK,aG,bj⟩
 refine aW ?_
 refine bK ?_ ?_
 .intro h1 h2
  obtain⟨j,rfl⟩: ∃ j,j1=j+1:=⟨j1 - 1,by omega⟩
  have i1:(((j+1:Nat):Int) - 1+(n:Int)).toNat=j+n:=by omega
  have i2:(((j+1:Nat):Int) - 1+(n:Int) - 1).toNat=j+n - 1:=by omega
  have i3:(((j+1:Nat):Int) - 1+(n:Int) - 2).toNat=j+n - 2:=by omega
  have i0:(((j+1:Nat):Int) - 1).toNat=j:=by omega
  have LH:=sC (j:=j) x9 yF hn (by omega) (by omega) aG
  have d1:=x9.getD (j+n)
  have d2:=x9.getD (j+n - 1)
  have d3:=x9.getD (j+n - 2)
  simp only[B] at d1 d2 d3
  have gr:=LH.first
  rw[ht] at gr
  obtain⟨x1,uw⟩:=ax (u.getD (j+n) 0)
  obtain⟨x2,pH⟩:=ax (u.getD (j+n - 1) 0)
  obtain⟨x3,Kn⟩:=ax (u.getD (j+n - 2) 0)
  rw[uw] at d1 gr
  rw[pH] at d2 gr
  rw[Kn] at d3
  refine ah h2 ?_
  refine dw (by kernel_rfl) ?_
  refine ah (gn i1 i2 uw pH @q0) ?_
  refine⟨by omega,by omega,by omega,by omega,by omega,?_⟩
  obtain⟨F,hF⟩: ∃ F,F=x1*4294967296+x2:=⟨_,rfl⟩
  have hFi:(x1:Int)*4294967296+(x2:Int)=(F:Int):=by omega
  rw[<-hF] at gr
  have hFt:F / top<=4294967297:=Lm uU gr
  have hFm:F % top<top:=Nat.mod_lt _ (by omega)
  have cY:0<val v:=by have:=LH.v1;rw[ht] at this;have h0:0<top*B^(n - 1):=Nat.mul_pos (by omega) (IB (by decide));omega
  obtain⟨Q,hQ⟩: ∃ Q,Q=fg u j (n+1) / val v:=⟨_,rfl⟩
  have hQv:Q*val v<=fg u j (n+1):=by rw[hQ];exact Nat.div_mul_le_self _ _
  have LH1:=LH.h1
  rw[uw,pH,<-hF] at LH1
  have LHv:=LH.v1
  rw[ht] at LHv
  have bQ:=B8 (q:=Q) (by omega) (vK (IB (by decide)) LH1 LH.s1 LHv hQv)
  have hQb:Q<4294967296:=by
   rw[hQ,Nat.div_lt_iff_lt_mul cY,Nat.mul_comm];exact LH.lt
  have hq:(F:Int) / (top:Int)=((F / top:Nat):Int):=by rw[Int.natCast_ediv]
  have hr:(F:Int) % (top:Int)=((F % top:Nat):Int):=by rw[Int.natCast_emod]
  generalize F / top=g0 at*
  generalize F % top=r0 at*
  refine ah hFi ?_
  refine dw (by kernel_rfl) ?_
  refine ah (a8 hq hr) ?_
  refine⟨by omega,by omega,?_⟩
  refine WA.blockcut (fun(y:Nat×(Nat->PV))=>⟨[.fv (.sl (u32s a)),.fv (.sl (u32s b)),.any,.any,.lsl 1 0 m 1,.nilsl,.int .u64 k,.lsl 0 0 (a.length+1) 1,.fv (.sl (u32s v)),.int .i64 n,.int .u64 top,.int .u64 sec,.int .i64 (((j+1:Nat):Int) - 1),.any,.int .u64 y.1]++tl y.2 15 236,[.row true (u32s u),.row true (u32s qd)]⟩)
   (fun y=>Q<=y.1/\y.1<4294967296/\(y.1 - 1)*val v<=fg u j (n+1)) ?_ ?_
  .refine wl (α:=Nat×Nat) (fun⟨g,r⟩=>⟨.fv (.sl (u32s a)):: .fv (.sl (u32s b)):: .any:: .any:: .lsl 1 0 m 1:: .nilsl:: .int .u64 k:: .lsl 0 0 (a.length+1) 1:: .fv (.sl (u32s v)):: .int .i64 n:: .int .u64 top:: .int .u64 sec:: .int .i64 (((j+1:Nat):Int) - 1):: .any:: .int .u64 g:: .int .u64 r::replicate 235 .any,[.row true (u32s u),.row true (u32s qd)]⟩)
    (fun⟨g,_⟩=>g) (fun⟨g,r⟩=>tN F top Q g r/\r<4294967296/\g<=4294967297) (g0,r0) ?_ ?_ ?_
   .exact gm [0,1]
   .exact⟨bQ,by omega,hFt⟩
   rintro⟨g,r⟩ ⟨EC,Pr,mR⟩
   have BT:(g:Int) / 4294967296=((g / 4294967296:Nat):Int):=by rw[Int.natCast_ediv];rfl
   refine cz BT ?_
   refine⟨by omega,Br.bneInt ?_ ?_⟩
   .intro h3 h4
    have lY:Q<g:=by omega
    obtain⟨g',rfl⟩: ∃ g',g=g'+1:=⟨g - 1,by omega⟩
    have mS:=u7 EC lY
    rw[Nat.add_sub_cancel] at mS
    have BC:((g'+1:Nat):Int) - 1=(g':Int):=by omega
    refine ah (a8 h4 BC) ?_
    refine⟨by omega,Br.bneInt ?_ ?_⟩
    .intro h5 h6
     refine ah h6 ?_
     have qO:=Ah (second:=sec) mS (by omega) gr (by omega)
     refine Mid.ex g' rfl ⟨by omega,qO.1,?_⟩
     refine jy LH qO.1 (by omega) ?_
     rw[ht,hs,uw,pH,Kn,<-hF]
     exact oE mS (ka qO.2 (Nat.le_add_right _ _))
    intro h5 h6
    refine ah h6 ?_
    refine aw (g',r+top) ?_ ⟨mS,by omega,by omega⟩
    exact gm [0,1]
   intro h3 h4
   have ux:g<4294967296:=by omega
   have T1:g*sec<=4294967295*4294967295:=Nat.mul_le_mul (by omega) (by omega)
   have RS:(g:Int)*(sec:Int)=((g*sec:Nat):Int):=by rw[Int.natCast_mul]
   obtain⟨gs,F9⟩:=ax (g*sec)
   rw[F9] at T1 RS
   refine ah (gn h4 RS i3 Kn @q0) ?_
   refine⟨by omega,by omega,by omega,bK ?_ ?_⟩
   .intro h7 h8
    have lY:Q<g:=by
     have LH2:=LH.h2;have LHv2:=LH.v2;rw[uw,pH,Kn,<-hF] at LH2;rw[ht,hs] at LHv2;exact GN (IB (by decide)) LH2 LH.s2 rfl LHv2 hQv EC (by rw[F9];omega)
    obtain⟨g',rfl⟩: ∃ g',g=g'+1:=⟨g - 1,by omega⟩
    have mS:=u7 EC lY
    rw[Nat.add_sub_cancel] at mS
    have BC:((g'+1:Nat):Int) - 1=(g':Int):=by omega
    refine ah (a8 h8 BC) ?_
    refine⟨by omega,Br.bneInt ?_ ?_⟩
    .intro h5 h6
     refine ah h6 ?_
     have qO:=Ah (second:=sec) mS (by omega) gr (by omega)
     refine Mid.ex g' rfl ⟨by omega,qO.1,?_⟩
     refine jy LH qO.1 (by omega) ?_
     rw[ht,hs,uw,pH,Kn,<-hF]
     exact oE mS (ka qO.2 (Nat.le_add_right _ _))
    intro h5 h6
    refine ah h6 ?_
    refine aw (g',r+top) ?_ ⟨mS,by omega,by omega⟩
    exact gm [0,1]
   intro h7 h8
   refine ah h8 ?_
   refine Mid.ex g rfl ⟨EC.low,ux,?_⟩
   refine jy LH ux (by omega) ?_
   rw[ht,hs,uw,pH,Kn,<-hF]
   exact oE EC (by rw[F9];omega)
  rintro⟨g,x⟩ ⟨Ps,eC,Ab⟩
  have RU:u.length=a.length+1:=tC
  have V9:=GP (g:=g) cY (by rw[<-hQ];exact Ps)
  simp only[] at Ps eC Ab
  simp -dsimp(disch:=omega) only[tl,IntKind.bits,Int.reduceToNat,Int.reducePow,Option.isNone_none,↓reduceIte,reduceCtorEq,reduceAdd,reduceMul,reduceSub,Nat.reduceBEq,reduceEqDiff,reduceLT,reduceLeDiff,ru]
  refine wl (α:=Nat×Nat×Nat×List Nat) (fun⟨i,bo,c,u'⟩=>⟨[.fv (.sl (u32s a)),.fv (.sl (u32s b)),.any,.any,.lsl 1 0 m 1,.nilsl,.int .u64 k,.lsl 0 0 (a.length+1) 1,.fv (.sl (u32s v)),.int .i64 n,.int .u64 top,.int .u64 sec,.int .i64 (((j+1:Nat):Int) - 1),.any,.int .u64 g,.any,.int .u64 bo,.int .u64 c]++replicate 99 .any++[.fv (.sl (u32s v)),.int .i64 n,.int .i64 i]++replicate 131 .any,[.row true (u32s u'),.row true (u32s qd)]⟩)
   (fun⟨i,_,_,_⟩=>n - i) (fun⟨i,bo,c,u'⟩=>i<=n/\bo<=1/\c<4294967296/\u'.length=a.length+1/\Dig u'/\(∀ t,(t<j\/j+i<=t)->u'.getD t 0=u.getD t 0)/\fg u' j i+g*val (v.take i)=fg u j i+(c+bo)*B^i) (0,0,0,u) ?_ ?_ ?_
  .refine fW [0,1] ?_ ?_
   .simp[bO,eT,cJ,aU,hn]
   simp[fM,fC]
  .refine⟨by omega,by omega,by omega,tC,x9,fun _ _=>rfl,?_⟩
   simp[q5,val]
  rintro⟨i,bo,c,u'⟩ ⟨hi,T2,hc,abt,RV,ph,kZ⟩
  refine aW ?_
  refine bK ?_ ?_
  .intro h3 h4
   have dv:=yF.getD i
   have du:=RV.getD (j+i)
   simp only[B] at dv du
   have dT:=aH v i
   have k7:=iM u j i
   have F_:=ph (j+i) (Or.inr (qp _))
   rw[<-F_] at k7
   obtain⟨y,hy⟩:=ax (v.getD i 0)
   obtain⟨z,hz⟩:=ax (u'.getD (j+i) 0)
   rw[hy] at dT dv
   rw[hz] at k7 du
   have ik:(((j+1:Nat):Int) - 1+(i:Int)).toNat=j+i:=by omega
   have hgy:g*y<=4294967295*4294967295:=Nat.mul_le_mul (by omega) (by omega)
   have Ol:(g:Int)*(y:Int)=((g*y:Nat):Int):=by rw[Int.natCast_mul]
   obtain⟨cc,qX⟩:=ax (c+g*y)
   obtain⟨gy,V_⟩:=ax (g*y)
   rw[V_] at hgy Ol
   have xz:(c:Int)+(gy:Int)=(cc:Int):=by omega
   have afx:cc<=18446744073709551616 - 4294967296:=by omega
   obtain⟨d,b2,hd,dN,RN,Ga,XL⟩:=B9 (a:=z) (c:=cc % 4294967296) (b:=bo) du (by omega) T2
   have nH:(cc:Int) % 4294967296=((cc % 4294967296:Nat):Int):=by rw[Int.natCast_emod];rfl
   have jv:(cc:Int) / 4294967296=((cc / 4294967296:Nat):Int):=by rw[Int.natCast_ediv];rfl
   have bQ:=iO (S:=fg u' j i) (S0:=fg u j i) (P:=B^i) (g:=g) (Vt:=val (v.take i)) (v:=y) (c:=c) (b:=bo) (a:=z) (d:=d) (b2:=b2) kZ (by rw[qX];exact RN)
   have bg:=iI (u:=u') (j:=j) (i:=i) (by omega) d
   obtain⟨xx,iW⟩:=ax (((z:Int) - ((cc % 4294967296:Nat):Int) - (bo:Int)) % 18446744073709551616)
   have hxw:IntKind.u64.wrap (IntKind.u64.wrap ((z:Int) - ((cc % 4294967296:Nat):Int)) - (bo:Int))=xx:=by rw[Td,iW]
   have hxr:0<=xx/\xx<18446744073709551616:=by omega
   rw[iW] at Ga XL
   have xA:IntKind.u32.wrap xx=(d:Int):=by rw[df];exact Ga
   refine ah (bU h4 hy hz ik Ol xz @Lh (gn nH jv hxw xA XL)) ?_
   refine⟨by omega,by omega,by omega,by omega,by omega,by omega,by omega,?_⟩
   refine aw (i+1,b2,cc / 4294967296,u'.set (j+i) d) ?_ ⟨by omega,dN,by omega,by simp[abt],RV.set _ hd,?_,?_⟩
   .refine fW [0,1] ?_ ?_
    .simp[bO,eT,cJ,aU,hn]
    simp[fM,fC]
   .intro t V7
    rw[<-ph t (by omega),qa,getElem?_set_ne (by omega),<-qa]
   rw[bg,dT,k7,Nat.pow_succ,<-qX]
   exact bQ
  intro h3 h4
  have j6:i=n:=by omega
  subst j6
  have Eb:val (v.take i)=val v:=aN (by omega)
  rw[Eb] at kZ
  have du:=RV.getD (j+i)
  simp only[B] at du
  have k7:=iM u j i
  rw[<-ph (j+i) (Or.inr (qp _))] at k7
  have F_:=ph (j+i) (Or.inr (qp _))
  rw[uw] at F_
  rw[F_] at du k7
  have ik:(((j+1:Nat):Int) - 1+(i:Int)).toNat=j+i:=by omega
  obtain⟨d,b2,hd,dN,RN,Ga,XL⟩:=B9 (a:=x1) (c:=c) (b:=bo) du hc T2
  obtain⟨xx,iW⟩:=ax (((x1:Int) - (c:Int) - (bo:Int)) % 18446744073709551616)
  have hxw:IntKind.u64.wrap (IntKind.u64.wrap ((x1:Int) - (c:Int)) - (bo:Int))=xx:=by rw[Td,iW]
  have hxr:0<=xx/\xx<18446744073709551616:=by omega
  rw[iW] at Ga XL
  have xA:IntKind.u32.wrap xx=(d:Int):=by rw[df];exact Ga
  have bg:=iI (u:=u') (j:=j) (i:=i) (by omega) d
  have kM:(u'.set (j+i) d).length=a.length+1:=by simp[abt]
  have Pt:Dig (u'.set (j+i) d):=RV.set _ hd
  have V': ∀ t,(t<j\/j+i+1<=t)->(u'.set (j+i) d).getD t 0=u.getD t 0:=by
   intro t V7;rw[<-ph t (by omega),qa,getElem?_set_ne (by omega),<-qa]
  have Ad:fg (u'.set (j+i) d) j (i+1)+g*val v=fg u j (i+1)+b2*B^(i+1):=IH bg k7 kZ RN
  obtain⟨w,hw⟩:=ax (u'.set (j+i) d)
  rw[hw] at kM Pt V' Ad
  refine ah (f0 h4 F_ ik hxw xA XL hw) ?_
  refine⟨by omega,by omega,by omega,by omega,by omega,Br.bneInt ?_ ?_⟩
  .intro h5 h6
   have dp:b2=1:=by omega
   subst dp
   rw[Nat.one_mul] at Ad
   have afz:=sB Pt j (i+1)
   have hVM:val v<=B^(i+1):=by
    have h7:=bD yF;rw[hn] at h7;exact ka (Nat.le_of_lt h7) (Nat.pow_le_pow_right (by decide) (by omega))
   have gK:fg u j (i+1)<g*val v:=by omega
   have su:0<g:=by
    rcases Nat.eq_zero_or_pos g with h7 | h7
    .rw[h7,Nat.zero_mul] at gK;omega
    exact h7
   obtain⟨g',rfl⟩: ∃ g',g=g'+1:=⟨g - 1,by omega⟩
   have BC:((g'+1:Nat):Int) - 1=(g':Int):=by omega
   refine ah (a8 h6 BC) ?_
   refine wl (α:=Nat×Nat×List Nat) (fun⟨t,c,w'⟩=>⟨[.fv (.sl (u32s a)),.fv (.sl (u32s b)),.any,.any,.lsl 1 0 m 1,.nilsl,.int .u64 k,.lsl 0 0 (a.length+1) 1,.fv (.sl (u32s v)),.int .i64 i,.int .u64 top,.int .u64 sec,.int .i64 (((j+1:Nat):Int) - 1),.any,.int .u64 g',.any,.any,.int .u64 c]++replicate 159 .any++[.fv (.sl (u32s v)),.int .i64 i,.int .i64 t]++replicate 71 .any,[.row true (u32s w'),.row true (u32s qd)]⟩)
    (fun⟨t,_,_⟩=>i - t) (fun⟨t,c,w'⟩=>t<=i/\c<=1/\w'.length=a.length+1/\Dig w'/\(∀ s,(s<j\/j+t<=s)->w'.getD s 0=w.getD s 0)/\fg w' j t+c*B^t=fg w j t+val (v.take t)) (0,0,w) ?_ ?_ ?_
   .refine fW [0,1] ?_ ?_
    .simp[bO,eT,cJ,aU,hn]
    simp[fM,fC]
   .refine⟨by omega,by omega,kM,Pt,fun _ _=>rfl,?_⟩
    simp[q5,val]
   rintro⟨t,c',w'⟩ ⟨eN,Wa,T3,Gb,Wb,Om⟩
   have dv:=yF.getD t
   have du:=Gb.getD (j+t)
   simp only[B] at dv du
   have dT:=aH v t
   have xB:=iM w j t
   have Wc:=Wb (j+t) (Or.inr (qp _))
   rw[<-Wc] at xB
   obtain⟨y,hy⟩: ∃ t',v.getD t 0=t':=⟨_,rfl⟩
   obtain⟨z,hz⟩: ∃ t',w'.getD (j+t) 0=t':=⟨_,rfl⟩
   rw[hy] at dT dv
   rw[hz] at xB du
   have XM:(((j+1:Nat):Int) - 1+(t:Int)).toNat=j+t:=by omega
   refine aW ?_
   refine bK ?_ ?_
   .intro h7 h8
    obtain⟨cc,qX⟩:=ax (c'+(z+y))
    have xz:(c':Int)+((z:Int)+(y:Int))=(cc:Int):=by omega
    have jv:(cc:Int) / 4294967296=((cc / 4294967296:Nat):Int):=by rw[Int.natCast_ediv];rfl
    have Wd:IntKind.u32.wrap (cc:Int)=((cc % 4294967296:Nat):Int):=by rw[df,Int.natCast_emod];rfl
    have m9:=iI (u:=w') (j:=j) (i:=t) (by omega) (cc % 4294967296)
    refine ah (f0 h8 hy hz XM xz jv Wd) ?_
    refine⟨by omega,by omega,by omega,by omega,by omega,by omega,?_⟩
    refine aw (t+1,cc / 4294967296,w'.set (j+t) (cc % 4294967296)) ?_ ⟨by omega,by omega,by simp[T3],Gb.set _ (Nat.mod_lt _ (by decide)),?_,?_⟩
    .refine fW [0,1] ?_ ?_
     .simp[bO,eT,cJ,aU,hn]
     simp[fM,fC]
    .intro s BU
     rw[<-Wb s (by omega),qa,getElem?_set_ne (by omega),<-qa]
    rw[m9,dT,xB,Nat.pow_succ]
    exact mc Om qX
   intro h7 h8
   have afB:t=i:=by omega
   subst afB
   rw[Eb] at Om
   have m9:=iI (u:=w') (j:=j) (i:=t) (by omega) ((z+c') % 4294967296)
   have hwc:IntKind.u32.wrap (c':Int)=(c':Int):=cQ (by omega)
   have Wd:IntKind.u32.wrap ((z:Int)+(c':Int))=(((z+c') % 4294967296:Nat):Int):=by rw[df,Int.natCast_emod];rfl
   have hd4:Dig (w'.set (j+t) ((z+c') % 4294967296)):=Gb.set _ (Nat.mod_lt _ (by decide))
   have hl4:(w'.set (j+t) ((z+c') % 4294967296)).length=a.length+1:=by simp[T3]
   have abu: ∀ s,(s<j\/j+t+1<=s)->(w'.set (j+t) ((z+c') % 4294967296)).getD s 0=u.getD s 0:=by
    intro s BU;rw[<-V' s (by omega),<-Wb s (by omega),qa,getElem?_set_ne (by omega),<-qa]
   have hs4:fg (w'.set (j+t) ((z+c') % 4294967296)) j (t+1)+((z+c') / 4294967296)*B^(t+1)=fg w j (t+1)+val v:=Ai m9 xB Om
   obtain⟨w4,hw4⟩:=ax (w'.set (j+t) ((z+c') % 4294967296))
   rw[hw4] at hd4 hl4 abu hs4
   have Pr:=vL hVM Ad su Ab gK hs4 (sB hd4 _ _)
   rw[Nat.add_sub_cancel] at Pr
   have We:IntKind.u32.wrap (g':Int)=(g':Int):=cQ (by omega)
   have hr:=pT (u:=u) (u4:=w4) (qd:=qd) (j:=j) (n:=t) (g:=g') (V:=val v) (by omega) (by omega) (by omega) abu LH.tail Pr.1 Pr.2 bj
   refine ah (bU h8 hz XM hwc Wd hw4 We i0) ?_
   refine⟨by omega,by omega,by omega,by omega,by omega,by omega,?_⟩
   refine aw (j,qd.set j g',w4) ?_ ⟨by omega,hl4,by simp[Pq],hd4,XK.set _ (by simp only[B];omega),hr.2,hr.1⟩
   exact gm [0,1]
  intro h5 h6
  have ED:b2=0:=by omega
  subst ED
  rw[Nat.zero_mul,Nat.add_zero] at Ad
  have We:IntKind.u32.wrap (g:Int)=(g:Int):=cQ (by omega)
  have Pu:=B_ Ad V9
  have hr:=pT (u:=u) (u4:=w) (qd:=qd) (j:=j) (n:=i) (g:=g) (V:=val v) (by omega) (by omega) (by omega) V' LH.tail Ad Pu bj
  refine ah (bB h6 We i0) ?_
  refine⟨by omega,by omega,?_⟩
  refine aw (j,qd.set j g,w) ?_ ⟨by omega,kM,by simp[Pq],Pt,XK.set _ eC,hr.2,hr.1⟩
  exact gm [0,1]
 intro h1 h2
 have BS:j1=0:=by omega
 subst BS
 rw[List.drop_zero] at aG
 rw[List.drop_zero,Nat.pow_zero,Nat.one_mul] at bj
 have pd:0<2^k:=Nat.two_pow_pos k
 have xC:=Cb Oj pd bj aG
 have afE:val u / 2^k<B^n:=by
  refine GH (Nat.div_le_self _ _) (Nat.lt_trans aG ?_);rw[<-hn];exact bD yF
 refine ah h2 ?_
 refine⟨by omega,?_⟩
 refine wl (α:=Nat×List Nat) (fun⟨i,out⟩=>⟨[.fv (.sl (u32s a)),.fv (.sl (u32s b)),.any,.any,.lsl 1 0 m 1,.lsl 2 0 n 1,.int .u64 k,.lsl 0 0 (a.length+1) 1]++replicate 215 .any++[.int .i64 n,.int .i64 i]++replicate 26 .any,[.row true (u32s u),.row true (u32s qd),.row true (u32s out)]⟩)
  (fun⟨i,_⟩=>n - i) (fun⟨i,out⟩=>i<=n/\out.length=n/\Dig out/\out.take i=gG i (val u / 2^k)) (0,replicate n 0) ?_ ?_ ?_
 .exact gm [0,1,2]
 .exact⟨by omega,by simp,Dig.zeros,by simp[gG]⟩
 rintro⟨i,out⟩ ⟨hi,ho,yD,hv3⟩
 refine aW ?_
 refine bK ?_ ?_
 .intro h3 h4
  have hx:=x9.getD i
  have hy:=x9.getD (i+1)
  have On:(u.getD i 0+u.getD (i+1) 0*4294967296) / 2^k % 4294967296=val u / 2^k / B^i % 4294967296:=by
   rw[pw (l:=u) (i:=i) (k:=k) (by omega) (by omega),<-gO x9 (by omega),Nat.div_div_eq_div_mul,Nat.div_div_eq_div_mul,Nat.mul_comm (2^k)]
  have pJ:((i:Int)+1).toNat=i+1:=by omega
  have yE:(k<=64)=True:=by simp;omega
  simp only[B] at hx hy
  obtain⟨x,z'⟩:=ax (u.getD i 0)
  obtain⟨y,Pn⟩:=ax (u.getD (i+1) 0)
  rw[z'] at hx On
  rw[Pn] at hy On
  obtain⟨s,hs⟩:=ax (x+y*4294967296)
  rw[hs] at On
  have pK:(y:Int)*4294967296+x=(s:Int):=by omega
  have hpc:((s:Int)) / 2^k=((s / 2^k:Nat):Int):=by rw[Int.natCast_ediv,Int.natCast_pow];rfl
  have Ko:IntKind.u32.wrap ((s / 2^k:Nat):Int)=((s / 2^k % 4294967296:Nat):Int):=by rw[df];rfl
  have hpp:(0:Int)<=2^k:=by
   have:(2:Int)^k=((2^k:Nat):Int):=by rw[Int.natCast_pow];rfl
   omega
  obtain⟨dg,Pm⟩:=ax (s / 2^k % 4294967296)
  have RX:dg<4294967296:=by rw[<-Pm];exact Nat.mod_lt _ (by decide)
  rw[Pm] at Ko On
  have c6:(out.set i dg).take (i+1)=gG (i+1) (val u / 2^k):=by
   rw[yR,<-hv3,take_succ_eq_append_getElem (by simp;omega),List.take_set_of_le (qp i)];simp only[List.getElem_set_self,B] at*;rw[On]
  refine ah h4 ?_
  refine dw (by kernel_rfl) ?_
  refine ah (bU z' Pn pJ @q0 pK yE hpc Ko) ?_
  refine⟨by omega,by omega,by omega,by omega,by omega,by omega,by omega,by omega,?_⟩
  refine aw (i+1,out.set i dg) ?_ ⟨by omega,by simp[ho],yD.set _ RX,c6⟩
  exact gm [0,1,2]
 intro h3 h4
 refine ah h4 ?_
 have j6:i=n:=by omega
 have hvo:val out=val u / 2^k:=by
  rw[j6,dm (by omega)] at hv3;rw[hv3,jI afE]
 refine gp (gN qd XK (by omega)) ?_ ?_
 .simp[bH,eS,dS,dI,aJ,Pq]
  rw[dm (by simp[aJ,Pq])]
 refine a9 ?_
 refine gp (gN out yD (by omega)) ?_ ?_
 .simp[bH,eS,dS,dI,aJ,ho]
  rw[dm (by simp[aJ,ho])]
 refine a9 ?_
 refine bc ?_
 rw[xC.1,hvo,xC.2]
 exact D7
end Go.Proofs.YtiaaceeelfhdlaaGreat
namespace Go.Pl
open Go.AM
theorem II {x n:Nat} (h:(ai x).length=n+1):B^n<=x:=by
 rcases Nat.lt_or_ge x (B^n) with h1 | h1
 .have:=aD h1;omega
 exact h1
theorem uJ {x n:Nat} (h1:B^n<=x) (h2:x<B^(n+1)):(ai x).length=n+1:=by
 have h3:=aD h2;rcases Nat.lt_or_ge (ai x).length (n+1) with h4 | h4
 .exfalso;have h5:=bG (n:=x);have h6:B^(ai x).length<=B^n:=Nat.pow_le_pow_right (by decide) (by omega);exact absurd (Nat.lt_of_lt_of_le h5 h6) (by omega)
 omega
theorem sD {x n:Nat} (h:(ai x).length=n+1):(ai x).getD n 0=x / B^n:=by
 have h1:=gO (al x) (i:=n) (by omega);have h2:=ew (l:=ai x) (j:=n) (by omega);rw[List.drop_of_length_le (i:=n+1) (by omega),show val []=0 from rfl,Nat.mul_zero,Nat.add_zero] at h2;rw[<-h2,<-h1,aj]
theorem Zp {b top P K:Nat} (h:top*P<=b) (hk:2147483648<=top*K):2147483648*P<=b*K:=by
 have h1:top*P*K<=b*K:=qn _ h;have h2:2147483648*P<=top*K*P:=qn _ hk;have h3:top*P*K=top*K*P:=by grind
 omega
theorem Zq {b top P K:Nat} (h:b<(top+1)*P) (hK:0<K) (hk:(top+1)*K<=4294967296):b*K<P*4294967296:=by
 have h1:b*K<(top+1)*P*K:=Nat.mul_lt_mul_of_pos_right h hK;have h2:(top+1)*K*P<=4294967296*P:=qn _ hk;have h3:(top+1)*P*K=(top+1)*K*P:=by grind
 have h4:4294967296*P=P*4294967296:=Nat.mul_comm _ _;omega
theorem vN {b n k top:Nat} (h:(ai b).length=n+1) (ht:(ai b).getD n 0=top) (hk:k<=32) (h1:2147483648<=top*2^k) (h2:top*2^k<4294967296):
 (ai (b*2^k)).length=n+1/\2147483648<=(ai (b*2^k)).getD n 0:=by
 have hp:0<2^k:=Nat.two_pow_pos k
 have hP:0<B^n:=IB (by decide)
 have h3:top=b / B^n:=by rw[<-ht,sD h]
 have gj:top*B^n<=b:=by rw[h3];exact Nat.div_mul_le_self _ _
 have gK:b<(top+1)*B^n:=by rw[<-Nat.div_lt_iff_lt_mul hP,<-h3];omega
 have kL:top*2^k+2^k<=4294967296:=B4 hk (Nat.mul_mod_left _ _) h2
 have Wf:(top+1)*2^k<=4294967296:=by rw[Nat.add_mul,Nat.one_mul];exact kL
 have yG:=Zp gj h1
 have aG:b*2^k<B^(n+1):=by rw[Nat.pow_succ];exact Zq gK hp Wf
 have aA:(ai (b*2^k)).length=n+1:=uJ (ka (Nat.le_mul_of_pos_left _ (by decide)) yG) aG
 refine⟨aA,?_⟩
 rw[sD aA,Nat.le_div_iff_mul_le hP]
 exact yG
theorem GQ {b n:Nat} (h:(ai b).length=n+1):0<(ai b).getD n 0:=by
 rw[sD h];exact Nat.div_pos (II h) (IB (by decide))
theorem fE {b:Nat} (h:(ai b).length=0):b=0:=by
 have:=bG (n:=b);rw[h] at this;simpa using this
theorem cq {x y:Nat} (h:x<=y):(ai x).length<=(ai y).length:=
 aD (GH h bG)
def i7 (u:List Nat) (j m x:Nat):List Nat:=u.take j++(gG m x++u.drop (j+m))
theorem yf {u:List Nat} {j m x:Nat} (h:j+m<=u.length):(i7 u j m x).length=u.length:=by
 simp[i7,cC];omega
theorem EO {u:List Nat} {j m x:Nat} (h:Dig u):Dig (i7 u j m x):=(h.take j).app ((jH _ _).app (h.drop _))
theorem yS {u w:List Nat} {j m x:Nat} (hl:w.length=u.length) (hd:Dig w) (hj:j+m<=u.length) (ph: ∀ t,(t<j\/j+m<=t)->w.getD t 0=u.getD t 0) (hs:fg w j m=x):i7 u j m x=w:=by
 unfold i7;have h1:w.take j=u.take j:=q7 hl (fun t ht=>ph t (Or.inl ht));have h2:w.drop (j+m)=u.drop (j+m):=q6 hl (fun t ht=>ph t (Or.inr ht));have h3:=Ag ((hd.drop j).take m);have h4:((w.drop j).take m).length=m:=by rw[length_take,length_drop];omega
 rw[h4] at h3;have h5:val ((w.drop j).take m)=x:=hs;rw[h5] at h3;rw[<-h1,<-h2,<-h3,<-List.drop_drop,List.take_append_drop,List.take_append_drop]
theorem Cc {u:List Nat} {j m x t:Nat} (hj:j+m<=u.length) (ht:t<j\/j+m<=t):(i7 u j m x).getD t 0=u.getD t 0:=by
 unfold i7;simp only[qa];congr 1;rcases ht with h | h
 .rw[qi (by rw[length_take];omega),getElem?_take,if_pos h]
 rw[qh (by rw[length_take];omega),qh (by rw[length_take,cC];omega),List.getElem?_drop];congr 1;rw[length_take,cC];omega
theorem EP {u:List Nat} {j m x:Nat} (hj:j+m<=u.length) (hx:x<B^m):fg (i7 u j m x) j m=x:=by
 unfold fg i7;rw[List.drop_left' (by rw[length_take];omega),List.take_left' (cC _ _),jI hx]
theorem vO {r g V W:Nat} (h:r+g*V=W) (hr:r<V):W / V=g/\r=W % V:=by
 have h1:W=r+V*g:=by rw[<-h,Nat.mul_comm]
 rw[h1,Nat.add_mul_div_left _ _ (by omega),Nat.div_eq_of_lt hr,Nat.zero_add,Nat.add_mul_mod_self_left,Nat.mod_eq_of_lt hr];exact⟨rfl,rfl⟩
theorem Lp {t s:Nat} (ht:0<t) (h:t*2^s<2147483648):s<31:=by
 rcases Nat.lt_or_ge s 31 with h1 | h1
 .exact h1
 exfalso;have h2:2^31<=2^s:=Nat.pow_le_pow_right (by decide) h1;have h3:1*2^s<=t*2^s:=qn _ ht;omega
end Go.Pl
namespace Go.Proofs.YtiaaceeelfhdlaaGreat
open Go.AM Go.Pl
set_option maxRecDepth 100000
set_option maxHeartbeats 4000000
theorem q8 {x y:Nat}:nk x y<0↔x<y:=by
 unfold nk;split
 .omega
 split<;>omega
theorem PW (a b:Nat) (uR:(ai a).length<10000000000) (Km:2<=(ai b).length) (x8:(ai b).length<=(ai a).length):
 Den Tryz.prog 226 [] [.fv (N a),.fv (N b)] [] (.tup [.fv (N (a / b)),.fv (N (a % b))]):=by
 obtain⟨n,hn⟩: ∃ n,(ai b).length=n+1:=⟨(ai b).length - 1,by omega⟩
 have uU:=GQ hn
 have KV:=(al b).getD n
 simp only[B] at KV
 have dp:=PU ((ai b).getD n 0)
 have dN:=Lo (n:=(ai b).getD n 0) (by omega)
 have EE:dJ ((ai b).getD n 0)<=32:=GM KV
 have Pv:1<=dJ ((ai b).getD n 0):=by
  rcases Nat.eq_zero_or_pos (dJ ((ai b).getD n 0)) with h | h
  .rw[h] at dp;omega
  exact h
 have yH:=vN (k:=32 - dJ ((ai b).getD n 0)) hn rfl (by omega) ?_ ?_
 .have h:=UJ (ai a) (ai b) (32 - dJ ((ai b).getD n 0)) (al a) (al b) uR Km x8 (by rw[hn,Nat.add_sub_cancel]) (by omega) (ai (b*2^(32 - dJ ((ai b).getD n 0)))) (by rw[aj]) (by rw[yH.1,hn]) (by rw[yH.1,Nat.add_sub_cancel];exact yH.2)
  rw[aj,aj] at h
  exact h
 .have h1:2^(dJ ((ai b).getD n 0) - 1)*2^(32 - dJ ((ai b).getD n 0))=2147483648:=by
   rw[<-Nat.pow_add,show dJ ((ai b).getD n 0) - 1+(32 - dJ ((ai b).getD n 0))=31 by omega]
  rw[<-h1]
  exact qn _ dN
 have h1:2^(dJ ((ai b).getD n 0))*2^(32 - dJ ((ai b).getD n 0))=4294967296:=by
  rw[<-Nat.pow_add,show dJ ((ai b).getD n 0)+(32 - dJ ((ai b).getD n 0))=32 by omega]
 have h2:=Nat.mul_lt_mul_of_pos_right dp (Nat.two_pow_pos (32 - dJ ((ai b).getD n 0)))
 omega
theorem aeF (a b:List Nat) (ha:Dig a) (hb:Dig b) (uR:a.length<10000000000) (x8:b.length<10000000000) (h0:val b=0):
 Den Tryz.prog 179 [] [.fv (.sl (u32s a)),.fv (.sl (u32s b))] [] (.tup [.fv (N 0),.fv (N 0),.int .i64 3]):=by
 refine dq Tryz.func179 46 0 ?_
 refine aW ?_
 refine gp (gN a ha (by omega)) rfl ?_
 refine a9 ?_
 refine gp (gN b hb (by omega)) rfl ?_
 have Pw:(ai 0).length=0:=by rw[bk];rfl
 have vB:((0:Nat):Int)=0:=rfl
 have nI:((0:Int)==0)=true:=rfl
 refine ah (gn @bx h0 Pw vB nI) ?_
 refine bc ?_
 refine o_ ?_
 simp[N,bk,u32s]
theorem GR (a b:List Nat) (ha:Dig a) (hb:Dig b) (uR:a.length<10000000000) (x8:b.length<10000000000) (h0:val b≠0):
 Den Tryz.prog 179 [] [.fv (.sl (u32s a)),.fv (.sl (u32s b))] [] (.tup [.fv (N (val a / val b)),.fv (N (val a % val b)),.int .i64 0]):=by
 have Wg:=aD (bD ha)
 have Km:=aD (bD hb)
 have afG:(ai (val b)).length≠0:=fun h=>h0 (fE h)
 refine dq Tryz.func179 46 0 ?_
 refine aW ?_
 refine gp (gN a ha (by omega)) rfl ?_
 refine a9 ?_
 refine gp (gN b hb (by omega)) rfl ?_
 have hz:(((ai (val b)).length:Int)==0)=false:=by rw[qx];omega
 refine ah (a8 @bx hz) ?_
 refine gp (B6 (ai (val a)) (ai (val b)) (al _) (al _) (by omega) (by omega)) rfl ?_
 refine ah @aj ?_
 refine bK ?_ ?_
 .intro h1 h2
  rw[q8] at h1
  refine ah h2 ?_
  refine gp (S' (u32s (ai (val a))) (by simp[u32s]) (by simp[u32s];omega)) rfl ?_
  refine a9 ?_
  refine bc ?_
  refine o_ ?_
  rw[Nat.div_eq_of_lt h1,Nat.mod_eq_of_lt h1]
  simp[N,bk,u32s]
 intro h1 h2
 rw[q8] at h1
 refine ah h2 ?_
 refine Br.beqInt ?_ ?_
 .intro h3 h4
  obtain⟨d,hd⟩: ∃ d,ai (val b)=[d]:=length_eq_one_iff.1 (by omega)
  have hbv:val b=d:=by rw[<-aj (val b),hd];simp[val]
  have yC:d<4294967296:=by have:=al (val b);rw[hd] at this;exact this d (by simp)
  have su:(u32s [d]).getD 0 []=[FV.lit (Value.int .u32 d)]:=rfl
  have gJ:0<d:=by omega
  have dN:=Nat.mod_lt (val a) gJ
  have abx:=UD (ai (val a)) d (al _) (by omega) yC gJ
  rw[aj] at abx
  refine ah (bB h4 hd su) ?_
  refine⟨by simp,?_⟩
  refine aM abx ?_
  obtain⟨r,hr⟩:=ax (val a % d)
  rw[hr] at dN
  have hrc:IntKind.u64.wrap (r:Int)=(r:Int):=dA (by omega)
  refine ah (a8 hr hrc) ?_
  refine gp (Tb r (by omega)) rfl ?_
  refine a9 ?_
  refine bc ?_
  exact j8 (a8 hbv hr)
 intro h3 h4
 have cX:(ai (val b)).length<=(ai (val a)).length:=cq (by omega)
 have aby:=PW (val a) (val b) (by omega) (by omega) cX
 rw[bx,bx] at aby
 refine ah h4 ?_
 refine aM aby ?_
 refine a9 ?_
 refine bc ?_
 exact D7
theorem Zr (a b:List Nat) (ha:Dig a) (hb:Dig b) (uR:a.length<10000000000) (x8:b.length<10000000000):
 Den Tryz.prog 178 [] [.fv (.sl (u32s a)),.fv (.sl (u32s b))] [] (.fv (N (Nat.gcd (val a) (val b)))):=by
 have Wg:=aD (bD ha)
 have Km:=aD (bD hb)
 refine dq Tryz.func178 45 0 ?_
 refine aW ?_
 refine gp (B5 a ha (by omega)) rfl ?_
 refine a9 ?_
 refine gp (B5 b hb (by omega)) rfl ?_
 refine ah @bx ?_
 generalize hg:Nat.gcd (val a) (val b)=g
 refine wl (α:=Nat×Nat) (fun⟨x,y⟩=>⟨.fv (.sl (u32s (ai x))):: .fv (.sl (u32s (ai y))):: .any:: .any:: .nilsl::replicate 42 .any,[]⟩)
  (fun⟨_,y⟩=>y) (fun⟨x,y⟩=>(ai x).length<10000000000/\(ai y).length<10000000000/\Nat.gcd x y=g) (val a,val b) ?_ ?_ ?_
 .exact gm []
 .exact⟨by omega,by omega,hg⟩
 rintro⟨x,y⟩ ⟨hx,hy,EB⟩
 refine aW ?_
 refine bK ?_ ?_
 .intro h1 h2
  refine ah h2 ?_
  refine Br.beqInt ?_ ?_
  .intro h5 h6
   have uV:y=0:=fE (by omega)
   subst uV
   refine ah h6 ?_
   refine bc ?_
   rw[Nat.gcd_zero_right] at EB
   refine tA EB ?_
   rfl
  intro h5 h6
  have uV:y≠0:=fun h=>h5 (by rw[h,bk];rfl)
  have h86:=GR (ai x) (ai y) (al _) (al _) hx hy (by rw[aj];exact uV)
  rw[aj,aj,bx,bx] at h86
  refine ah h6 ?_
  refine aM h86 ?_
  refine a9 ?_
  have aG:=Nat.mod_lt x (Nat.pos_of_ne_zero uV)
  refine ap (y,x % y) (by exact aG) ?_ ⟨hy,GH (cq (Nat.le_of_lt aG)) hy,?_⟩
  .exact gm []
  rw[<-EB,Nat.gcd_comm y,<-Nat.gcd_rec,Nat.gcd_comm]
 intro h1 h2
 refine ah h2 ?_
 refine bK ?_ ?_
 .intro h3 h4
  refine ah h4 ?_
  refine Br.beqInt ?_ ?_
  .intro h5 h6
   have uV:y=0:=fE (by omega)
   subst uV
   refine ah h6 ?_
   refine bc ?_
   rw[Nat.gcd_zero_right] at EB
   refine tA EB ?_
   rfl
  intro h5 h6
  have uV:y≠0:=fun h=>h5 (by rw[h,bk];rfl)
  have h86:=GR (ai x) (ai y) (al _) (al _) hx hy (by rw[aj];exact uV)
  rw[aj,aj,bx,bx] at h86
  refine ah h6 ?_
  refine aM h86 ?_
  refine a9 ?_
  have aG:=Nat.mod_lt x (Nat.pos_of_ne_zero uV)
  refine ap (y,x % y) (by exact aG) ?_ ⟨hy,GH (cq (Nat.le_of_lt aG)) hy,?_⟩
  .exact gm []
  rw[<-EB,Nat.gcd_comm y,<-Nat.gcd_rec,Nat.gcd_comm]
 intro h3 h4
 have XG:x<18446744073709551616:=Nat.lt_of_lt_of_le (bG (n:=x)) (Nat.pow_le_pow_right (n:=B) (by decide) (show(ai x).length<=2 by omega))
 have hyv:y<18446744073709551616:=Nat.lt_of_lt_of_le (bG (n:=y)) (Nat.pow_le_pow_right (n:=B) (by decide) (show(ai y).length<=2 by omega))
 have abA:=Tc (ai x) (al x) (by omega)
 have abB:=Tc (ai y) (al y) (by omega)
 rw[aj] at abA abB
 refine ah h4 ?_
 refine aM abA ?_
 refine a9 ?_
 refine aM abB ?_
 refine a9 ?_
 refine wl (α:=Nat×Nat) (fun⟨p,q⟩=>⟨.any:: .any:: .any:: .any:: .nilsl:: .any:: .any:: .any:: .int .u64 p:: .int .u64 q::replicate 37 .any,[]⟩)
  (fun⟨_,q⟩=>q) (fun⟨p,q⟩=>p<18446744073709551616/\q<18446744073709551616/\Nat.gcd p q=g) (x,y) ?_ ?_ ?_
 .exact gm []
 .exact⟨XG,hyv,EB⟩
 rintro⟨p,q⟩ ⟨hp,hq,x_⟩
 refine aW ?_
 refine Br.bneInt ?_ ?_
 .intro h5 h6
  have aG:=Nat.mod_lt p (show q>0 by omega)
  have hmi:(p:Int) % (q:Int)=((p % q:Nat):Int):=by rw[Int.natCast_emod]
  obtain⟨r,hr⟩:=ax (p % q)
  rw[hr] at aG hmi
  refine ah h6 ?_
  refine dw (by kernel_rfl) ?_
  refine ah hmi ?_
  refine⟨by omega,?_⟩
  refine ap (q,r) (by exact aG) ?_ ⟨hq,by omega,?_⟩
  .exact gm []
  rw[<-x_,<-hr,Nat.gcd_comm q,<-Nat.gcd_rec,Nat.gcd_comm]
 intro h5 h6
 have Kq:q=0:=by omega
 subst Kq
 rw[Nat.gcd_zero_right] at x_
 refine ah h6 ?_
 refine gp (Tb p hp) rfl ?_
 refine a9 ?_
 refine bc ?_
 exact j8 x_
end Go.Proofs.YtiaaceeelfhdlaaGreat
namespace Go.Pl
open Go.AM
def sg (s:Bool) (n:Nat):Int:=if s then -(n:Int) else(n:Int)
def f2 (s:Bool) (n d:Nat):Rat:=mkRat (sg s n) d
theorem sE (s:Bool) (n:Nat):(sg s n).natAbs=n:=by unfold sg;split<;>simp
theorem UK (q:Rat):sg (decide (q.num<0)) q.num.natAbs=q.num:=by
 unfold sg;by_cases h:q.num<0
 .simp only[h,decide_true,if_true];omega
 simp only[h,decide_false];simp;omega
theorem cG (q:Rat):f2 (decide (q.num<0)) q.num.natAbs q.den=q:=by
 unfold f2;rw[UK,Rat.mkRat_self]
theorem lh {s:Bool} {n d:Nat} (h:n=0):f2 s n d=0:=by
 subst h;unfold f2 sg;have:(if s=true then -((0:Nat):Int) else((0:Nat):Int))=0:=by split<;>rfl
 rw[this,Rat.zero_mkRat]
theorem vP {s:Bool} {n d:Nat} (h:d=0):f2 s n d=0:=by
 subst h;unfold f2;rw[Rat.mkRat_zero]
theorem UL {s:Bool} {n g:Nat} (h:g∣n):sg s n / (g:Int)=sg s (n / g):=by
 unfold sg;split
 .rw[Int.neg_ediv_of_dvd (by exact Int.natCast_dvd_natCast.2 h),Int.natCast_ediv]
 rw[Int.natCast_ediv]
theorem yT {s:Bool} {n d:Nat} (hd:d≠0):(f2 s n d).num=sg s (n / Nat.gcd n d)/\(f2 s n d).den=d / Nat.gcd n d:=by
 unfold f2;rw[<-Rat.normalize_eq_mkRat hd,Rat.normalize_eq hd];simp only[sE];exact⟨UL (Nat.gcd_dvd_left n d),b'⟩
theorem UM {s:Bool} {n:Nat} (h:n≠0):decide (sg s n<0)=s:=by
 unfold sg;cases s
 .simp
 simp;omega
theorem yU {s:Bool} {n d:Nat} (hn:n≠0) (hd:d≠0):decide ((f2 s n d).num<0)=s/\(f2 s n d).num.natAbs=n / Nat.gcd n d/\(f2 s n d).den=d / Nat.gcd n d:=by
 obtain⟨h1,h2⟩:=yT (s:=s) (n:=n) hd;have h3:n / Nat.gcd n d≠0:=by
  have:=Nat.div_pos (Nat.le_of_dvd (by omega) (Nat.gcd_dvd_left n d)) (Nat.gcd_pos_of_pos_left d (by omega));omega
 rw[h1,h2];exact⟨UM h3,sE _ _,rfl⟩
def Bd (k:Nat) (q:Rat):Prop:=q.num.natAbs<B^k/\q.den<B^k
theorem Bd.mono {j k:Nat} {q:Rat} (h:Bd j q) (hk:j<=k):Bd k q:=
 ⟨Nat.lt_of_lt_of_le h.1 (Nat.pow_le_pow_right (by decide) hk),Nat.lt_of_lt_of_le h.2 (Nat.pow_le_pow_right (by decide) hk)⟩
theorem Bd.zero {k:Nat} (hk:1<=k):Bd k 0:=by
 have:1<B^k:=Nat.lt_of_lt_of_le (show 1<B^1 by decide) (Nat.pow_le_pow_right (by decide) hk);exact⟨IB (by decide),this⟩
theorem Bd.mk {k n d:Nat} {s:Bool} (hk:1<=k) (hn:n<B^k) (hd:d<B^k):Bd k (f2 s n d):=by
 by_cases h:d=0
 .rw[vP h];exact Bd.zero hk
 obtain⟨h1,h2⟩:=yT (s:=s) (n:=n) h;unfold Bd;rw[h1,h2,sE];exact⟨GH (Nat.div_le_self _ _) hn,GH (Nat.div_le_self _ _) hd⟩
structure Raw where
 neg:Bool
 num:List Nat
 den:List Nat
def Raw.q (r:Raw):Rat:=f2 r.neg (val r.num) (val r.den)
structure Raw.Ok (k:Nat) (r:Raw):Prop where
 num:Dig r.num
 den:Dig r.den
 lnum:r.num.length<=k
 lden:r.den.length<=k
theorem Raw.Ok.mono {j k:Nat} {r:Raw} (h:r.Ok j) (hk:j<=k):r.Ok k:=⟨h.num,h.den,ka h.lnum hk,ka h.lden hk⟩
theorem Raw.Ok.bd {k:Nat} {r:Raw} (h:r.Ok k) (hk:1<=k):Bd k r.q:=
 Bd.mk hk (Nat.lt_of_lt_of_le (bD h.num) (Nat.pow_le_pow_right (by decide) h.lnum)) (Nat.lt_of_lt_of_le (bD h.den) (Nat.pow_le_pow_right (by decide) h.lden))
def cn (q:Rat):Raw:=⟨decide (q.num<0),ai q.num.natAbs,ai q.den⟩
theorem cK (q:Rat):(cn q).q=q:=by
 unfold Raw.q cn;simp only[aj];exact cG q
theorem bn {k:Nat} {q:Rat} (h:Bd k q):(cn q).Ok k:=⟨al _,al _,aD h.1,aD h.2⟩
theorem Aj:cn 0=⟨false,[],[1]⟩:=by
 unfold cn;have h1:ai (0:Rat).num.natAbs=[]:=bk;have h2:ai (0:Rat).den=[1]:=by
  have:(0:Rat).den=val [1]:=rfl;rw[this];exact ld (fun d hd=>by simp at hd;subst hd;decide) (Or.inr (by decide))
 rw[h1,h2];rfl
def Raw.v (r:Raw):PV:= .agg [.bool r.neg,.fv (.sl (u32s r.num)),.fv (.sl (u32s r.den))]
def FR (q:Rat):PV:=(cn q).v
theorem a_ (q:Rat):FR q= .agg [.bool (decide (q.num<0)),.fv (N q.num.natAbs),.fv (N q.den)]:=rfl
end Go.Pl
namespace Go.Proofs.YtiaaceeelfhdlaaGreat
open Go.AM Go.Pl
set_option maxRecDepth 100000
set_option maxHeartbeats 1000000
theorem IJ {x:Nat}:(nk x 0==0)=decide (x=0):=by
 unfold nk;by_cases h:x=0
 .subst h;rfl
 have h1: ¬x<0:=by omega
 have h2:0<x:=by omega
 simp[h,h2]
theorem Zs (l:List Nat) (hl:Dig l) (pa:l.length<100000000000):Den Tryz.prog 185 [] [.fv (.sl (u32s l))] [] (.bool (decide (val l=0))):=by
 refine dq Tryz.func185 5 0 ?_;refine aW ?_;have h:=B6 l [] hl Dig.nil pa (by simp);refine aM h ?_;have hv:val []=0:=rfl;simp -dsimp(disch:=omega) only[hv,IJ,IntKind.bits,Int.reduceToNat,Int.reducePow,Option.isNone_none,↓reduceIte,reduceCtorEq,reduceAdd,reduceMul,reduceSub,Nat.reduceBEq,reduceEqDiff,reduceLT,reduceLeDiff,ru];refine bc ?_;exact D7
theorem tP (s:Bool) (n d:List Nat) (hn:Dig n) (hd:Dig d) (jF:n.length<10000000000) (sr:d.length<10000000000) (gJ:val d≠0):
 Den Tryz.prog 111 [] [.bool s,.fv (.sl (u32s n)),.fv (.sl (u32s d))] [] (FR (f2 s (val n) (val d))):=by
 have qN:=aD (bD hn)
 have Pt:=aD (bD hd)
 refine dq Tryz.func111 47 0 ?_
 refine aW ?_
 refine gp (B5 n hn (by omega)) rfl ?_
 refine a9 ?_
 refine gp (B5 d hd (by omega)) rfl ?_
 refine ah @bx ?_
 refine Br.beqInt ?_ ?_
 .intro h1 h2
  have h0:val n=0:=fE (by omega)
  refine ah h2 ?_
  refine bc ?_
  rw[lh h0,FR,Aj]
  rfl
 intro h1 h2
 have yI:val n≠0:=fun h=>h1 (by rw[h,bk];rfl)
 have hgn:Nat.gcd (val n) (val d)<=val n:=Nat.le_of_dvd (by omega) (Nat.gcd_dvd_left _ _)
 have su:Nat.gcd (val n) (val d)≠0:=by
  have:=Nat.gcd_pos_of_pos_left (val d) (show 0<val n by omega);omega
 have eF:=yU (s:=s) yI gJ
 have h85:=Zr (ai (val n)) (ai (val d)) (al _) (al _) (by omega) (by omega)
 rw[aj,aj,bx] at h85
 have ux:=cq hgn
 have XN:=Nat.mul_div_cancel_left (val n) (Nat.pos_of_ne_zero su)
 obtain⟨g,hg⟩:=ax (Nat.gcd (val n) (val d))
 rw[hg] at eF h85 su ux
 have RY:=GR (ai (val n)) (ai g) (al _) (al _) (by omega) (by omega) (by rw[aj];exact su)
 have RZ:=GR (ai (val d)) (ai g) (al _) (al _) (by omega) (by omega) (by rw[aj];exact su)
 rw[aj,aj,bx,bx] at RY RZ
 have hFR:FR (f2 s (val n) (val d))= .agg [.bool s,.fv (.sl (u32s (ai (val n / g)))),.fv (.sl (u32s (ai (val d / g))))]:=by
  rw[a_,eF.1,eF.2.1,eF.2.2];rfl
 rw[hFR]
 refine ah h2 ?_
 refine aM h85 ?_
 refine a9 ?_
 refine Br.bneInt ?_ ?_
 .intro h3 h4
  refine ah h4 ?_
  refine aM RY ?_
  refine a9 ?_
  refine aM RZ ?_
  refine a9 ?_
  refine bc rfl
 intro h3 h4
 obtain⟨y,hy⟩: ∃ y,ai g=[y]:=length_eq_one_iff.1 (by omega)
 have hgy:g=y:=by rw[<-aj g,hy];simp[val]
 have hyg:(u32s [y]).getD 0 []=[FV.lit (Value.int .u32 y)]:=rfl
 have yJ:((1:Int) !=1)=false:=rfl
 have Wh:([y]:List Nat).length=1:=rfl
 have qW:(((1:Nat):Int) !=1)=false:=rfl
 refine ah (gn h4 hy hyg Wh qW) ?_
 refine⟨by simp,?_⟩
 refine Br.bneInt ?_ ?_
 .intro h5 h6
  rw[hy] at RY RZ
  refine ah h6 ?_
  refine aM RY ?_
  refine a9 ?_
  refine aM RZ ?_
  refine a9 ?_
  refine bc rfl
 intro h5 h6
 have Ps:g=1:=by omega
 refine ah h6 ?_
 refine bc ?_
 rw[Ps,Nat.div_one,Nat.div_one]
 rfl
theorem q9 (r:Raw) (hr:r.Ok 5000000000):Den Tryz.prog 119 [] [r.v] [] (FR r.q):=by
 unfold Raw.v;refine dq Tryz.func119 14 0 ?_;refine aW ?_;refine gp (Zs r.den hr.den (by have:=hr.lden;omega)) rfl ?_;refine a9 ?_;refine bK ?_ ?_
 .intro h1 h2;have uy:=tP false [] [1] Dig.nil (Dig.mk (by decide) Dig.nil) (by simp) (by simp) (by simp[val]);rw[lh (n:=val []) rfl,a_] at uy;refine ah h2 ?_;refine aM uy ?_;have h0:val r.den=0:=h1;have hq:r.q=0:=vP h0;rw[hq,a_];refine a9 ?_;refine bc rfl
 intro h1 h2;have uy:=tP r.neg r.num r.den hr.num hr.den (by have:=hr.lnum;omega) (by have:=hr.lden;omega) h1;rw[a_] at uy;refine ah h2 ?_;refine aM uy ?_;refine a9 ?_;refine bc rfl
end Go.Proofs.YtiaaceeelfhdlaaGreat
namespace Go.Pl
open Go.AM
theorem UN (s t:Bool) (a c:Nat):sg s a*sg t c=sg (s !=t) (a*c):=by
 unfold sg;cases s<;>cases t<;>simp[Int.neg_mul,Int.mul_neg]
theorem q_ (s t:Bool) (a b c d:Nat):f2 s a b*f2 t c d=f2 (s !=t) (a*c) (b*d):=by
 unfold f2;rw[Rat.mkRat_mul_mkRat,UN]
theorem PX {n:Nat} (h:n≠0):f2 false n n=1:=by
 unfold f2 sg;have h1:(1:Rat)=mkRat 1 1:=rfl;rw[h1,Rat.mkRat_eq_iff h (by decide)];simp
theorem ER {p q r:Rat} (h:q*r=1):p / q=p*r:=by grind
theorem u_ {s t:Bool} {a b c d:Nat} (hc:c≠0) (hd:d≠0):f2 s a b / f2 t c d=f2 (s !=t) (a*d) (b*c):=by
 have h:f2 t c d*f2 t d c=1:=by
  rw[q_,Nat.mul_comm d c,bne_self_eq_false,PX (Nat.mul_ne_zero hc hd)]
 rw[ER h,q_]
theorem Lq {n m:Int} {b d:Nat} (hb:b≠0) (hd:d≠0) (h:n*d=m*b):mkRat n b=mkRat m d:=(Rat.mkRat_eq_iff hb hd).2 h
theorem UO (s:Bool) (a c:Nat):sg s a+sg s c=sg s (a+c):=by
 unfold sg;cases s<;>simp;omega
theorem Lr {s t:Bool} (h:s≠t) {a c:Nat} (hl:a<c):sg s a+sg t c=sg t (c - a):=by
 unfold sg;cases s<;>cases t<;>simp at h ⊢ <;>omega
theorem Lu {s t:Bool} (h:s≠t) {a c:Nat} (hl: ¬a<c):sg s a+sg t c=sg s (a - c):=by
 unfold sg;cases s<;>cases t<;>simp at h ⊢ <;>omega
theorem oG (n m:Int) {d:Nat} (hd:d≠0):mkRat n d+mkRat m d=mkRat (n+m) d:=by
 rw[Rat.mkRat_add_mkRat _ _ hd hd];apply Lq (Nat.mul_ne_zero hd hd) hd;grind
theorem Ak {s t:Bool} (h:s=t) {a c d:Nat} (hd:d≠0):f2 s a d+f2 t c d=f2 s (a+c) d:=by
 subst h;unfold f2;rw[oG _ _ hd,UO]
theorem sF {s t:Bool} (h:s≠t) {a c d:Nat} (hl:a<c) (hd:d≠0):f2 s a d+f2 t c d=f2 t (c - a) d:=by
 unfold f2;rw[oG _ _ hd,Lr h hl]
theorem sG {s t:Bool} (h:s≠t) {a c d:Nat} (hl: ¬a<c) (hd:d≠0):f2 s a d+f2 t c d=f2 s (a - c) d:=by
 unfold f2;rw[oG _ _ hd,Lu h hl]
theorem Lv (s:Bool) (a k:Nat):sg s (a*k)=sg s a*k:=by
 unfold sg;cases s<;>simp[Int.neg_mul]
theorem yV {s:Bool} {a b k:Nat} (hb:b≠0) (hk:k≠0):f2 s (a*k) (b*k)=f2 s a b:=by
 unfold f2;apply Lq (Nat.mul_ne_zero hb hk) hb;rw[Lv];grind
theorem aK {a c j k:Nat} (ha:a<B^j) (hc:c<B^k):a*c<B^(j+k):=by
 rw[Nat.pow_add];exact Nat.mul_lt_mul'' ha hc
theorem md {a c k:Nat} (ha:a<B^k) (hc:c<B^k):a+c<B^(k+1):=by
 have h2:2*B^k<=B^k*4294967296:=by rw[Nat.mul_comm];exact Nat.mul_le_mul_left _ (by decide)
 have h3:B^(k+1)=B^k*4294967296:=Nat.pow_succ _ _;rw[h3];omega
theorem Bd.neg {k:Nat} {q:Rat} (h:Bd k q):Bd k (-q):=by
 unfold Bd;have h1:(-q).num= -q.num:=rfl;have h2:(-q).den=q.den:=rfl;rw[h1,h2,Int.natAbs_neg];exact h
theorem Bd.mul {j k:Nat} {p q:Rat} (hp:Bd j p) (hq:Bd k q) (hk:1<=j+k):Bd (j+k) (p*q):=by
 rw[<-cG p,<-cG q,q_];exact Bd.mk hk (aK hp.1 hq.1) (aK hp.2 hq.2)
theorem Bd.div {j k:Nat} {p q:Rat} (hp:Bd j p) (hq:Bd k q) (h0:q≠0) (hk:1<=j+k):Bd (j+k) (p / q):=by
 have hn:q.num.natAbs≠0:=fun h=>h0 (Rat.num_eq_zero.1 (by omega))
 rw[<-cG p,<-cG q,u_ hn q.den_nz];exact Bd.mk hk (aK hp.1 hq.2) (aK hp.2 hq.1)
theorem pU (s t:Bool) {a b c d:Nat} (hb:b≠0) (hd:d≠0):f2 s a b+f2 t c d=f2 s (a*d) (b*d)+f2 t (c*b) (b*d):=by
 rw[yV hb hd,Nat.mul_comm b d,yV hd hb]
theorem Bd.sum {k n d a c:Nat} {s t:Bool} (hk:1<=k) (ha:a<B^k) (hc:c<B^k) (hd:d<B^(k+1)) (gJ:d≠0) (hn:n=k+1):Bd n (f2 s a d+f2 t c d):=by
 subst hn;have h1:c - a<B^(k+1):=GH (Nat.sub_le _ _) (Nat.lt_trans hc (Nat.pow_lt_pow_right (by decide) (by omega)));have h2:a - c<B^(k+1):=GH (Nat.sub_le _ _) (Nat.lt_trans ha (Nat.pow_lt_pow_right (by decide) (by omega)));by_cases h:s=t
 .rw[Ak h gJ];exact Bd.mk (by omega) (md ha hc) hd
 by_cases hl:a<c
 .rw[sF h hl gJ];exact Bd.mk (by omega) h1 hd
 rw[sG h hl gJ];exact Bd.mk (by omega) h2 hd
theorem Bd.add {j k:Nat} {p q:Rat} (hp:Bd j p) (hq:Bd k q) (hk:1<=j+k):Bd (j+k+1) (p+q):=by
 rw[<-cG p,<-cG q,pU _ _ p.den_nz q.den_nz];refine Bd.sum hk (aK hp.1 hq.2) ?_ ?_ (Nat.mul_ne_zero p.den_nz q.den_nz) rfl
 .rw[Nat.add_comm];exact aK hq.1 hp.2
 exact Nat.lt_trans (aK hp.2 hq.2) (Nat.pow_lt_pow_right (by decide) (by omega))
theorem Bd.sub {j k:Nat} {p q:Rat} (hp:Bd j p) (hq:Bd k q) (hk:1<=j+k):Bd (j+k+1) (p - q):=by
 rw[Rat.sub_eq_add_neg];exact hp.add hq.neg hk
def eg (q:Rat):Int:=q.num.sign
theorem Cd {q:Rat} (h:q.num.natAbs=0):eg q=0:=by
 unfold eg;have:q.num=0:=by omega
 rw[this];rfl
theorem vc {q:Rat} (h:q.num<0):eg q= -1:=Int.sign_eq_neg_one_of_neg h
theorem Al {q:Rat} (h0:q.num.natAbs≠0) (h: ¬q.num<0):eg q=1:=Int.sign_eq_one_of_pos (by omega)
end Go.Pl
namespace Go.Proofs.YtiaaceeelfhdlaaGreat
open Go.AM Go.Pl
set_option maxRecDepth 100000
set_option maxHeartbeats 1000000
theorem yW (q:Rat):Den Tryz.prog 112 [] [FR q] [] (FR q):=by
 rw[a_];refine dq Tryz.func112 12 0 ?_;refine aW ?_;refine bc rfl
theorem GS (r:Raw) (hr:r.Ok 5000000000):Den Tryz.prog 180 [] [r.v] [] (FR r.q):=by
 have Kr:=q9 r hr;have xD:=yW r.q;rw[a_] at Kr xD ⊢;unfold Raw.v at Kr ⊢;refine dq Tryz.func180 5 0 ?_;refine aW ?_;refine aM Kr ?_;refine a9 ?_;refine aM xD ?_;refine a9 ?_;refine bc rfl
theorem nP (r:Raw) (hr:r.Ok 5000000000):Den Tryz.prog 113 [] [r.v] [] (.int .i64 (eg r.q)):=by
 have Kr:=q9 r hr;rw[a_] at Kr;unfold Raw.v at Kr ⊢;obtain⟨n,hn⟩:=ax r.q.num.natAbs;have hz:((ai n).length:Int)=0↔n=0:=⟨fun h=>fE (by omega),fun h=>by rw[h,bk];rfl⟩;rw[hn,bx] at Kr;refine dq Tryz.func113 15 0 ?_;refine aW ?_;refine aM Kr ?_;refine a9 ?_;refine Br.beqInt ?_ ?_
 .intro h1 h2;have hs:=Cd (hn.trans (hz.1 h1));refine ah h2 ?_;refine bc ?_;exact j8 hs
 intro h1 h2;refine ah h2 ?_;refine bK ?_ ?_
 .intro h3 h4;have hs:=vc h3;refine ah h4 ?_;refine bc ?_;exact j8 hs
 intro h3 h4;have hs:=Al (q:=r.q) (fun h=>h1 (hz.2 (hn.symm.trans h))) h3;refine ah h4 ?_;refine bc ?_;exact j8 hs
set_option maxHeartbeats 2000000
theorem dt {n:Nat}:((ai n).length:Int)=0↔n=0:=⟨fun h=>fE (by omega),fun h=>by rw[h,bk];rfl⟩
theorem bZ {n k:Nat} (h:n<B^k):(ai n).length<=k:=aD h
theorem Lw (q:Rat):FR (-q)= .agg [.bool (!decide (q.num<0)&&decide (((ai q.num.natAbs).length:Int)>0)),.fv (N q.num.natAbs),.fv (N q.den)]:=by
 have h1:(-q).num= -q.num:=rfl;have h2:(-q).den=q.den:=rfl;rw[a_,h1,h2,Int.natAbs_neg];congr 3;by_cases h:q.num=0
 .have h3:((ai q.num.natAbs).length:Int)=0:=dt.2 (by omega);rw[h3,h];rfl
 have h3:((ai q.num.natAbs).length:Int)≠0:=fun h4=>h (by have:=dt.1 h4;omega)
 have h4:((ai q.num.natAbs).length:Int)>0:=by omega
 rw[iK h4,Bool.and_true];by_cases h5:q.num<0
 .rw[iK h5,mU (show¬(-q.num<0) by omega)];rfl
 rw[mU h5,iK (show -q.num<0 by omega)];rfl
theorem Lx (r:Raw) (hr:r.Ok 5000000000):Den Tryz.prog 234 [] [r.v] [] (FR (-r.q)):=by
 have Kr:=q9 r hr;have xD:=yW (-r.q);rw[a_] at Kr;rw[Lw] at xD ⊢;unfold Raw.v at Kr ⊢;obtain⟨n,hn⟩:=ax r.q.num.natAbs;obtain⟨s,hs⟩:=ax (decide (r.q.num<0));obtain⟨d,hd⟩:=ax (N r.q.den);rw[hn,hs,hd,bx] at Kr xD ⊢;refine dq Tryz.func234 20 0 ?_;refine aW ?_;refine aM Kr ?_;cases s
 .have e1:(!false)=true:=rfl;have e2: ∀ b,(true&&b)=b:=fun _=>rfl
  rw[e1,e2] at xD ⊢;simp -dsimp(disch:=omega) only[e1,IntKind.bits,Int.reduceToNat,Int.reducePow,Option.isNone_none,↓reduceIte,reduceCtorEq,reduceAdd,reduceMul,reduceSub,Nat.reduceBEq,reduceEqDiff,reduceLT,reduceLeDiff,ru];refine aM xD ?_;refine a9 ?_;refine bc rfl
 have e1:(!true)=false:=rfl;have e2: ∀ b,(false&&b)=false:=fun _=>rfl
 rw[e1,e2] at xD ⊢;simp -dsimp(disch:=omega) only[e1,IntKind.bits,Int.reduceToNat,Int.reducePow,Option.isNone_none,↓reduceIte,reduceCtorEq,reduceAdd,reduceMul,reduceSub,Nat.reduceBEq,reduceEqDiff,reduceLT,reduceLeDiff,ru];refine aM xD ?_;refine a9 ?_;refine bc rfl
theorem Te (r1 r2:Raw) (gL:r1.Ok 2000000000) (f1:r2.Ok 2000000000):Den Tryz.prog 181 [] [r1.v,r2.v] [] (FR (r1.q*r2.q)):=by
 have ha:=q9 r1 (gL.mono (by decide));have hb:=q9 r2 (f1.mono (by decide));have b1:=gL.bd (by decide);have b2:=f1.bd (by decide);have c1:=bn b1;have c2:=bn b2;have hq:f2 (decide (r1.q.num<0) !=decide (r2.q.num<0)) (r1.q.num.natAbs*r2.q.num.natAbs) (r1.q.den*r2.q.den)=r1.q*r2.q:=by
  rw[<-q_,cG,cG]
 have m_:=vJ (ai r1.q.num.natAbs) (ai r2.q.num.natAbs) (al _) (al _) (by have:=c1.lnum;simp only[cn] at this;omega) (by have:=c2.lnum;simp only[cn] at this;omega);have kY:=vJ (ai r1.q.den) (ai r2.q.den) (al _) (al _) (by have:=c1.lden;simp only[cn] at this;omega) (by have:=c2.lden;simp only[cn] at this;omega);have vB:=bZ (aK b1.1 b2.1);have nI:=bZ (aK b1.2 b2.2);have uy:=tP (decide (r1.q.num<0) !=decide (r2.q.num<0)) (ai (r1.q.num.natAbs*r2.q.num.natAbs)) (ai (r1.q.den*r2.q.den)) (al _) (al _) (by omega) (by omega) (by rw[aj];exact Nat.mul_ne_zero r1.q.den_nz r2.q.den_nz);rw[aj,aj,hq] at uy;rw[aj,aj] at m_ kY;have xD:=yW (r1.q*r2.q);rw[a_] at ha hb uy xD ⊢;unfold Raw.v at ha hb ⊢;rw[bx] at m_ kY;rw[bx,bx] at ha hb
 refine dq Tryz.func181 32 0 ?_;refine aW ?_;refine dw (by kernel_rfl) ?_;refine a9 ?_;refine aM ha ?_;refine a9 ?_;refine aM hb ?_;refine a9 ?_;refine dw (by kernel_rfl) ?_;refine a9 ?_;refine aM m_ ?_;refine a9 ?_;refine aM kY ?_;refine a9 ?_;refine aM uy ?_;refine a9 ?_;refine aM xD ?_;refine a9 ?_;refine bc rfl
theorem Ly (r1 r2:Raw) (gL:r1.Ok 2000000000) (f1:r2.Ok 2000000000) (h0:r2.q≠0):Den Tryz.prog 236 [] [r1.v,r2.v] [] (.tup [FR (r1.q / r2.q),.int .i64 0]):=by
 have ha:=q9 r1 (gL.mono (by decide));have hb:=q9 r2 (f1.mono (by decide));have b1:=gL.bd (by decide);have b2:=f1.bd (by decide);have c1:=bn b1;have c2:=bn b2;have yI:r2.q.num.natAbs≠0:=fun h=>h0 (Rat.num_eq_zero.1 (by omega))
 have hq:f2 (decide (r1.q.num<0) !=decide (r2.q.num<0)) (r1.q.num.natAbs*r2.q.den) (r1.q.den*r2.q.num.natAbs)=r1.q / r2.q:=by
  rw[<-u_ yI r2.q.den_nz,cG,cG]
 have m_:=vJ (ai r1.q.num.natAbs) (ai r2.q.den) (al _) (al _) (by have:=c1.lnum;simp only[cn] at this;omega) (by have:=c2.lden;simp only[cn] at this;omega);have kY:=vJ (ai r1.q.den) (ai r2.q.num.natAbs) (al _) (al _) (by have:=c1.lden;simp only[cn] at this;omega) (by have:=c2.lnum;simp only[cn] at this;omega);have vB:=bZ (aK b1.1 b2.2);have nI:=bZ (aK b1.2 b2.1);have uy:=tP (decide (r1.q.num<0) !=decide (r2.q.num<0)) (ai (r1.q.num.natAbs*r2.q.den)) (ai (r1.q.den*r2.q.num.natAbs)) (al _) (al _) (by omega) (by omega) (by rw[aj];exact Nat.mul_ne_zero r1.q.den_nz yI);rw[aj,aj,hq] at uy;rw[aj,aj] at m_ kY;have xD:=yW (r1.q / r2.q);have hz:(((ai r2.q.num.natAbs).length:Int)==0)=false:=by
  rw[qx];exact fun h=>yI (dt.1 h)
 rw[a_] at ha hb uy xD ⊢;unfold Raw.v at ha hb ⊢;rw[bx] at m_ kY;rw[bx,bx] at ha hb;refine dq Tryz.func236 39 0 ?_;refine aW ?_;refine dw (by kernel_rfl) ?_;refine a9 ?_;refine aM ha ?_;refine a9 ?_;refine aM hb ?_;refine ah hz ?_;refine dw (by kernel_rfl) ?_;refine a9 ?_;refine aM m_ ?_;refine a9 ?_;refine aM kY ?_;refine a9 ?_;refine aM uy ?_;refine a9 ?_;refine aM xD ?_;refine a9 ?_;refine bc rfl
theorem Tf (d:Nat) (hd:(ai d).length<100000000000):Den Tryz.prog 120 [] [.fv (.sl (u32s (ai d)))] [] (.bool (decide (d=1))):=by
 have vB:(ai 1)=[1]:=ld (l:=[1]) (fun d hd=>by simp at hd;subst hd;decide) (Or.inr (by decide));have hv:=aj d;obtain⟨l,hl⟩:=ax (ai d);rw[hl] at hd hv;rw[hl];refine dq Tryz.func120 11 0 ?_;refine aW ?_;refine Br.beqInt ?_ ?_
 .intro h1 h2;obtain⟨y,rfl⟩: ∃ y,l=[y]:=length_eq_one_iff.1 (by omega);have hdy:d=y:=by rw[<-hv];simp[val]
  have hyg:(u32s [y]).getD 0 []=[FV.lit (Value.int .u32 y)]:=rfl;have hb:((y:Int)==1)=decide (d=1):=by
   rw[hdy];by_cases h:y=1
   .subst h;rfl
   rw[mU h,qx];omega
  have Wh:([y]:List Nat).length=1:=rfl;have qW:(((1:Nat):Int)==1)=true:=rfl;refine ah (gn h2 hyg hb Wh qW) ?_;refine⟨by simp,?_⟩;refine bc ?_;exact D7
 intro h1 h2;have hb:decide (d=1)=false:=mU (fun h=>h1 (by rw[h,vB] at hl;subst hl;rfl));refine ah h2 ?_;refine bc ?_;exact j8 hb
theorem Tg (k:Nat) (hk:k<=4000000000) (s t:Bool) (a c d:Nat) (ha:a<B^k) (hc:c<B^k) (hd:d<B^k) (gJ:d≠0):
 Den Tryz.prog 121 [] [.bool s,.fv (.sl (u32s (ai a))),.bool t,.fv (.sl (u32s (ai c))),.fv (.sl (u32s (ai d)))] [] (FR (f2 s a d+f2 t c d)):=by
 have uR:=bZ ha
 have XO:=bZ hc
 have sr:=bZ hd
 have uT:=bZ (md ha hc)
 by_cases bQ:s=t
 .have Oo:=Zn (ai a) (ai c) (al _) (al _) (by omega) (by omega)
  rw[aj,aj,bx] at Oo
  have uy:=tP s (ai (a+c)) (ai d) (al _) (al _) (by omega) (by omega) (by rw[aj];exact gJ)
  rw[aj,aj,<-Ak bQ gJ,a_] at uy
  rw[a_]
  have hb:(s==t)=true:=by rw[bQ];exact beq_self_eq_true _
  refine dq Tryz.func121 34 0 ?_
  refine cz hb ?_
  refine aM Oo ?_
  refine a9 ?_
  refine aM uy ?_
  refine a9 ?_
  refine bc rfl
 have hb:(s==t)=false:=by rw[qx];exact bQ
 have Wi:=B6 (ai a) (ai c) (al _) (al _) (by omega) (by omega)
 rw[aj,aj] at Wi
 refine dq Tryz.func121 34 0 ?_
 refine cz hb ?_
 refine aM Wi ?_
 refine a9 ?_
 refine bK ?_ ?_
 .intro h1 h2
  rw[q8] at h1
  have Oq:=Ta (ai c) (ai a) (al _) (al _) (by omega) (by omega) (by rw[aj,aj];omega)
  rw[aj,aj,bx] at Oq
  have ia:=cq (Nat.sub_le c a)
  have uy:=tP t (ai (c - a)) (ai d) (al _) (al _) (by omega) (by omega) (by rw[aj];exact gJ)
  rw[aj,aj,<-sF bQ h1 gJ,a_] at uy
  rw[a_]
  refine ah h2 ?_
  refine aM Oq ?_
  refine a9 ?_
  refine aM uy ?_
  refine a9 ?_
  refine bc rfl
 intro h1 h2
 rw[q8] at h1
 have Oq:=Ta (ai a) (ai c) (al _) (al _) (by omega) (by omega) (by rw[aj,aj];omega)
 rw[aj,aj,bx] at Oq
 have ia:=cq (Nat.sub_le a c)
 have uy:=tP s (ai (a - c)) (ai d) (al _) (al _) (by omega) (by omega) (by rw[aj];exact gJ)
 rw[aj,aj,<-sG bQ h1 gJ,a_] at uy
 rw[a_]
 refine ah h2 ?_
 refine aM Oq ?_
 refine a9 ?_
 refine aM uy ?_
 refine a9 ?_
 refine bc rfl
theorem nQ {x j m:Nat} (h:x<B^j) (hj:j<=m):x<B^m:=Nat.lt_of_lt_of_le h (Nat.pow_le_pow_right (by decide) hj)
theorem Ce (r1 r2:Raw) (gL:r1.Ok 1000000000) (f1:r2.Ok 1000000000):Den Tryz.prog 61 [] [r1.v,r2.v] [] (FR (r1.q+r2.q)):=by
 have ha:=q9 r1 (gL.mono (by decide));have hb:=q9 r2 (f1.mono (by decide));have b1:=gL.bd (by decide);have b2:=f1.bd (by decide);have c1:=bn b1;have c2:=bn b2;have o1:=Tf r1.q.den (by have:=c1.lden;simp only[cn] at this;omega);have o2:=Tf r2.q.den (by have:=c2.lden;simp only[cn] at this;omega);have hq:=pU (decide (r1.q.num<0)) (decide (r2.q.num<0)) (a:=r1.q.num.natAbs) (c:=r2.q.num.natAbs) r1.q.den_nz r2.q.den_nz;rw[cG,cG] at hq;have m_:=vJ (ai r1.q.num.natAbs) (ai r2.q.den) (al _) (al _) (by have:=c1.lnum;simp only[cn] at this;omega) (by have:=c2.lden;simp only[cn] at this;omega);have kY:=vJ (ai r2.q.num.natAbs) (ai r1.q.den) (al _) (al _) (by have:=c2.lnum;simp only[cn] at this;omega) (by have:=c1.lden;simp only[cn] at this;omega)
 have R0:=vJ (ai r1.q.den) (ai r2.q.den) (al _) (al _) (by have:=c1.lden;simp only[cn] at this;omega) (by have:=c2.lden;simp only[cn] at this;omega);obtain⟨k,hk⟩: ∃ k,k=2000000000:=⟨_,rfl⟩;have hc:=Tg k (by omega) (decide (r1.q.num<0)) (decide (r2.q.num<0)) (r1.q.num.natAbs*r2.q.den) (r2.q.num.natAbs*r1.q.den) (r1.q.den*r2.q.den) (nQ (aK b1.1 b2.2) (by omega)) (nQ (aK b2.1 b1.2) (by omega)) (nQ (aK b1.2 b2.2) (by omega)) (Nat.mul_ne_zero r1.q.den_nz r2.q.den_nz);have qW:=Tg k (by omega) (decide (r1.q.num<0)) (decide (r2.q.num<0)) r1.q.num.natAbs r2.q.num.natAbs r1.q.den (nQ b1.1 (by omega)) (nQ b2.1 (by omega)) (nQ b1.2 (by omega)) r1.q.den_nz;rw[<-hq] at hc;rw[aj,aj] at m_ kY R0;have xD:=yW (r1.q+r2.q)
 have eD:r1.q.den=1->r2.q.den=1->f2 (decide (r1.q.num<0)) r1.q.num.natAbs r1.q.den+f2 (decide (r2.q.num<0)) r2.q.num.natAbs r1.q.den=r1.q+r2.q:=by
  intro h1 h2;have e1:=cG r1.q;have e2:=cG r2.q;rw[h2] at e2;rw[h1] at e1;rw[h1,e1,e2]
 generalize kZ:r1.q+r2.q=z at*;rw[a_] at ha hb hc qW xD ⊢;unfold Raw.v at ha hb ⊢;rw[bx] at m_ kY R0;rw[bx,bx] at ha hb;refine dq Tryz.func61 65 0 ?_;refine aW ?_;refine dw (by kernel_rfl) ?_;refine a9 ?_;refine aM ha ?_;refine a9 ?_;refine aM hb ?_;refine a9 ?_;refine aM o1 ?_;refine a9 ?_;refine bK ?_ ?_
 .intro h1 h2;refine ah h2 ?_;refine aM o2 ?_;refine a9 ?_;refine bK ?_ ?_
  .intro h3 h4;rw[eD h1 h3] at qW;refine ah h4 ?_;refine aM qW ?_;refine a9 ?_;refine aM xD ?_;refine a9 ?_;refine bc rfl
  intro h3 h4;refine ah h4 ?_;refine dw (by kernel_rfl) ?_;refine a9 ?_;refine aM m_ ?_;refine a9 ?_;refine aM kY ?_;refine a9 ?_;refine aM R0 ?_;refine a9 ?_;refine aM hc ?_;refine a9 ?_;refine aM xD ?_;refine a9 ?_;refine bc rfl
 intro h1 h2;refine ah h2 ?_;refine dw (by kernel_rfl) ?_;refine a9 ?_;refine aM m_ ?_;refine a9 ?_;refine aM kY ?_;refine a9 ?_;refine aM R0 ?_;refine a9 ?_;refine aM hc ?_;refine a9 ?_;refine aM xD ?_;refine a9 ?_;refine bc rfl
theorem Th (r1 r2:Raw) (gL:r1.Ok 1000000000) (f1:r2.Ok 1000000000):Den Tryz.prog 247 [] [r1.v,r2.v] [] (FR (r1.q - r2.q)):=by
 have Wj:=Lx r2 (f1.mono (by decide));have b2:=f1.bd (by decide);have EF:=Ce r1 (cn (-r2.q)) gL (bn b2.neg);rw[cK,<-Rat.sub_eq_add_neg] at EF;change Den Tryz.prog 61 [] [r1.v,FR (-r2.q)] [] _ at EF;rw[a_] at Wj;rw[a_,a_] at EF;rw[a_];unfold Raw.v at Wj EF ⊢;refine dq Tryz.func247 7 0 ?_;refine aW ?_;refine dw (by kernel_rfl) ?_;refine a9 ?_;refine aM Wj ?_;refine a9 ?_;refine aM EF ?_;refine a9 ?_;refine bc rfl
theorem Ti (r1 r2:Raw) (gL:r1.Ok 1000000000) (f1:r2.Ok 1000000000):Den Tryz.prog 200 [] [r1.v,r2.v] [] (.int .i64 (eg (r1.q - r2.q))):=by
 have b1:=gL.bd (by decide);have b2:=f1.bd (by decide);have h77:=Th r1 r2 gL f1;have g_:=nP (cn (r1.q - r2.q)) ((bn (b1.sub b2 (by decide))).mono (by decide));rw[cK] at g_;change Den Tryz.prog 113 [] [FR (r1.q - r2.q)] [] _ at g_;rw[a_] at h77 g_;unfold Raw.v at h77 ⊢;refine dq Tryz.func200 7 0 ?_;refine aW ?_;refine aM h77 ?_;refine a9 ?_;refine aM g_ ?_;refine a9 ?_;refine bc ?_;exact D7
theorem Zt (n:Int) (hn: -9223372036854775808<=n/\n<9223372036854775808):Den Tryz.prog 110 [] [.int .i64 n] [] (.tup [.bool (decide (n<0)),.fv (N n.natAbs)]):=by
 refine dq Tryz.func110 19 0 ?_;refine aW ?_;obtain⟨x,hx⟩:=ax n.natAbs;rw[hx];have gj:IntKind.u32.wrap (x:Int)=((x % 4294967296:Nat):Int):=by rw[df,Int.natCast_emod];rfl
 have gK:(x:Int) / 4294967296=((x / 4294967296:Nat):Int):=by rw[Int.natCast_ediv];rfl
 have Px:=B5 [x % 4294967296,x / 4294967296] (Dig.mk (Nat.mod_lt _ (by decide)) (Dig.mk (by simp only[B];omega) Dig.nil)) (by simp);have hv:val [x % 4294967296,x / 4294967296]=x:=by
  simp only[val,B,Nat.mul_zero,Nat.add_zero];exact Nat.mod_add_div x 4294967296
 rw[hv] at Px;obtain⟨lo,V5⟩:=ax (x % 4294967296);obtain⟨hi,abC⟩:=ax (x / 4294967296);rw[V5] at gj;rw[abC] at gK;rw[V5,abC] at Px;refine bK ?_ ?_
 .intro h1 h2;have hw:IntKind.u64.wrap (0 - IntKind.u64.wrap n)=(x:Int):=by rw[o4,o4];omega
  refine ah (fe h2 hw gj gK) ?_;refine⟨by omega,?_⟩;refine gp Px ?_ ?_
  .rfl
  refine a9 ?_;refine bc ?_;refine o_ ?_;rw[h2]
 intro h1 h2;have hw:IntKind.u64.wrap n=(x:Int):=by rw[o4];omega
 refine ah (fe h2 hw gj gK) ?_;refine⟨by omega,?_⟩;refine gp Px ?_ ?_
 .rfl
 refine a9 ?_;refine bc ?_;refine o_ ?_;rw[h2]
theorem Am (n:Int):f2 (decide (n<0)) n.natAbs 1=(n:Rat):=by
 unfold f2;have h:sg (decide (n<0)) n.natAbs=n:=by
  unfold sg;by_cases h:n<0
  .simp only[h,decide_true,if_true];omega
  simp only[h,decide_false];simp;omega
 rw[h];exact Rat.mkRat_one n
theorem Cf (n:Int) (hn: -9223372036854775808<=n/\n<9223372036854775808):Den Tryz.prog 58 [] [.int .i64 n] [] (FR (n:Rat)):=by
 have h72:=Zt n hn;have hl:(ai n.natAbs).length<=2:=aD (Nat.lt_of_lt_of_le (show n.natAbs<18446744073709551616 by omega) (by decide));have uy:=tP (decide (n<0)) (ai n.natAbs) [1] (al _) (Dig.mk (by decide) Dig.nil) (by omega) (by simp) (by simp[val]);have hv1:val [1]=1:=rfl;rw[aj,hv1,Am] at uy;have xD:=yW (n:Rat);rw[a_] at xD uy ⊢;rw[bx] at h72;refine dq Tryz.func58 14 0 ?_;refine aW ?_;refine aM h72 ?_;refine a9 ?_;refine gp uy ?_ ?_
 .rfl
 refine a9 ?_;refine aM xD ?_;refine a9 ?_;refine bc rfl
theorem Tj (l:List Nat) (hd:Dig l) (hl:l.length<1000000000000):Den Tryz.prog 153 [] [.fv (.sl (u32s l))] [.row true (u32s (ai (val l)))] (.lsl 0 0 (ai (val l)).length 1):=by
 refine dq Tryz.func153 21 0 ?_;refine aW ?_;refine wl (α:=Nat) (fun n=>⟨.fv (.sl (u32s l)):: .any:: .nilsl:: .int .i64 n::replicate 18 .any,[]⟩) (fun n=>n) (fun n=>n<=l.length/\ke (l.take n)=ke l) l.length ?_ ?_ ?_
 .refine wk [] nodup_nil rfl ?_ ?_
  .simp[bO,eT,cJ,aU]
  trivial
 .exact⟨qp _,by rw[List.take_length]⟩
 rintro n ⟨hn,ht⟩;have aG:(l.take n).length=n:=by rw[length_take];omega
 refine aW ?_;refine bK ?_ ?_
 .intro h1 h2;obtain⟨j,rfl⟩: ∃ j,n=j+1:=⟨n - 1,by omega⟩;have hj:(((j+1:Nat):Int) - 1).toNat=j:=by omega
  refine ah (a8 h2 hj) ?_;refine⟨by omega,?_⟩;have hg:(l.take (j+1)).getD ((l.take (j+1)).length - 1) 0=l.getD j 0:=by
   rw[aG,Nat.add_sub_cancel];simp only[qa];rw[List.getElem?_take_of_lt (by omega)]
  refine Br.beqInt ?_ ?_
  .intro h3 h4;refine ah h4 ?_;refine aw j ?_ ⟨by omega,?_⟩
   .refine wk [] nodup_nil rfl ?_ ?_
    .simp[bO,eT,cJ]
    trivial
   rw[<-ht]
   conv=>rhs;rw[ke.eq_def]
   rw[dif_pos (by omega),if_pos (by rw[hg];omega),aG,Nat.add_sub_cancel,List.take_take,Nat.min_eq_left (by omega)]
  intro h3 h4;have gv:l.take (j+1)=ai (val l):=by
   rw[<-qY l hd,<-ht,ke.eq_def,dif_pos (by omega),if_neg (by rw[hg];omega)]
  refine ah (bB h4 @Nat.sub_zero aG) ?_;refine⟨by omega,by omega,?_⟩;rw[<-gv,aG];exact RetOK.own rfl ⟨b',b'⟩ rfl
 intro h1 h2;have yI:n=0:=by omega
 have gv:l.take n=ai (val l):=by
  rw[<-qY l hd,<-ht,ke.eq_def,dif_neg (by omega)]
 refine ah (bB h2 @Nat.sub_zero aG) ?_;refine⟨by omega,by omega,?_⟩;rw[<-gv,aG];exact RetOK.own rfl ⟨b',b'⟩ rfl
theorem eX (l:List Nat) (hd:Dig l) (hl:l.length<1000000000000):Den Tryz.prog 153 [] [.fv (.sl (u32s l))] [] (.fv (N (val l))):=by
 refine(Tj l hd hl).freeze ?_;simp[qG,ur,qD,dS,dI,List.idxOf?_nil,aJ,N];rw[dm (by simp[aJ])]
theorem Tk (a b:List Nat) (uR:a.length<1000000000000) (x8:b.length<1000000000000):Den Tryz.prog 64 [] [.fv (.sl (u32s a)),.fv (.sl (u32s b))] [] (.bool (a==b)):=by
 refine dq Tryz.func64 24 0 ?_;refine aW ?_;refine Br.bneInt ?_ ?_
 .intro h1 h2;refine ah h2 ?_;refine bc ?_;refine o_ ?_;have:a≠b:=by intro h;subst h;exact h1 rfl
  simp[this]
 intro h1 h2;refine ah h2 ?_;refine wl (α:=Nat) (fun i=>⟨.fv (.sl (u32s a)):: .fv (.sl (u32s b)):: .any:: .any:: .fv (.lit (.bool false)):: .int .i64 i::replicate 20 .any,[]⟩) (fun i=>a.length - i) (fun i=>i<=a.length/\a.take i=b.take i) 0 ?_ ?_ ?_
 .refine wk [] nodup_nil rfl ?_ ?_
  .simp[bO,eT,cJ,aU]
  trivial
 .exact⟨by omega,by simp⟩
 rintro i ⟨hi,ht⟩;refine aW ?_;refine bK ?_ ?_
 .intro h3 h4;refine ah h4 ?_;refine dw (by kernel_rfl) ?_;refine ah h4 ?_;refine⟨by omega,by omega,?_⟩;refine Br.bneInt ?_ ?_
  .intro h5 h6;refine ah h6 ?_;refine bc ?_;refine o_ ?_;have:a≠b:=by intro h;subst h;exact h5 rfl
   simp[this]
  intro h5 h6;refine ah h6 ?_;refine aw (i+1) ?_ ⟨by omega,?_⟩
  .refine wk [] nodup_nil rfl ?_ ?_
   .simp[bO,eT,cJ]
   trivial
  have hia:i<a.length:=by omega
  have hib:i<b.length:=by omega
  rw[take_succ_eq_append_getElem hia,take_succ_eq_append_getElem hib,ht];have e1:a.getD i 0=a[i]:=by simp[hia]
  have e2:b.getD i 0=b[i]:=by simp[hib]
  rw[<-e1,<-e2,show a.getD i 0=b.getD i 0 by omega]
 intro h3 h4;refine ah h4 ?_;refine bc ?_;refine o_ ?_;rw[dm (by omega),dm (by omega)] at ht;simp[ht]
theorem Lz (a b:List Nat) (ha:Dig a) (hb:Dig b) (uR:a.length<100000000000) (x8:b.length<100000000000):Den Tryz.prog 167 [] [.fv (.sl (u32s a)),.fv (.sl (u32s b))] [] (.int .i64 (nk (val a) (val b))):=by
 have hxa:(ai (val a)).length<=a.length:=aD (bD ha);have kK:(ai (val b)).length<=b.length:=aD (bD hb);have hda:=al (val a);have RN:=al (val b);refine dq Tryz.func167 43 0 ?_;refine aW ?_;refine gp (eX a ha (by omega)) rfl ?_;refine a9 ?_;refine gp (eX b hb (by omega)) rfl ?_;refine ah @bx ?_;refine Br.bneInt ?_ ?_
 .intro h1 h2;refine ah h2 ?_;refine bK ?_ ?_
  .intro h3 h4;refine ah h4 ?_;refine bc ?_;refine o_ ?_;rw[oD (jm (by omega))]
  intro h3 h4;refine ah h4 ?_;refine bc ?_;refine o_ ?_;rw[u5 (jm (by omega))]
 intro h1 h2;refine ah h2 ?_;generalize hp:ai (val a)=p at*;generalize hq:ai (val b)=q at*;refine wl (α:=Nat) (fun k=>⟨.fv (.sl (u32s p)):: .fv (.sl (u32s q)):: .any:: .any:: .int .i64 0:: .int .i64 ((k:Int) - 1)::replicate 39 .any,[]⟩) (fun k=>k) (fun k=>k<=p.length/\p.drop k=q.drop k) p.length ?_ ?_ ?_
 .exact gm []
 .exact⟨qp _,by rw[List.drop_of_length_le (qp _),List.drop_of_length_le (by omega)]⟩
 rintro k ⟨hk,Od⟩;refine aW ?_;refine bK ?_ ?_
 .intro h3 h4;refine ah h4 ?_;refine dw (by kernel_rfl) ?_;refine a9 ?_;refine⟨by omega,by omega,?_⟩;obtain⟨j,rfl⟩: ∃ j,k=j+1:=⟨k - 1,by omega⟩;have hj:(((j+1:Nat):Int) - 1).toNat=j:=by omega
  rw[hj];have yA:val p=val a:=by rw[<-hp,aj]
  have Oe:val q=val b:=by rw[<-hq,aj]
  refine bK ?_ ?_
  .intro h5 h6;refine ah h6 ?_;refine bc ?_;refine o_ ?_;rw[<-yA,<-Oe,oD (qZ hda (by omega) (by omega) Od (by omega))]
  intro h5 h6;refine ah h6 ?_;refine dw (by kernel_rfl) ?_;refine ah (a8 h6 hj) ?_;refine⟨by omega,by omega,?_⟩;refine bK ?_ ?_
  .intro h7 h8;refine ah h8 ?_;refine bc ?_;refine o_ ?_;rw[<-yA,<-Oe,u5 (qZ RN (by omega) (by omega) Od.symm (by omega))]
  intro h7 h8;refine ah h8 ?_;refine aw j ?_ ⟨by omega,?_⟩
  .exact gm []
  have V3:p.drop j=p.getD j 0::p.drop (j+1):=by rw[qj (by omega)];simp[show j<p.length by omega]
  have TY:q.drop j=q.getD j 0::q.drop (j+1):=by rw[qj (by omega)];simp[show j<q.length by omega]
  rw[V3,TY,Od,show p.getD j 0=q.getD j 0 by omega]
 intro h3 h4;refine ah h4 ?_;refine bc ?_;refine o_ ?_;have RO:k=0:=by omega
 subst RO;simp only[List.drop_zero] at Od;subst Od;have:val a=val b:=by rw[<-aj (val a),hp,<-hq,aj]
 rw[this,GJ]
theorem Zu (l:List Nat) (d:Nat) (hl:Dig l) (pa:l.length<100000000000) (hd:d<4294967296) (gJ:0<d):
 Den Tryz.prog 213 [] [.fv (.sl (u32s l)),.int .u32 d] [] (.tup [.fv (N (val l / d)),.int .u32 ((val l % d:Nat):Int)]):=by
 refine dq Tryz.func213 42 0 ?_
 refine aW ?_
 refine⟨by omega,?_⟩
 refine wl (α:=Nat×Nat×List Nat) (fun⟨k,r,out⟩=>⟨.fv (.sl (u32s l)):: .int .u32 d:: .any:: .any:: .nilsl:: .fv (.lit (.int .u32 0)):: .lsl 0 0 l.length 1:: .int .u64 r:: .int .i64 ((k:Int) - 1)::replicate 35 .any,[.row true (u32s out)]⟩)
  (fun⟨k,_,_⟩=>k) (fun⟨k,r,out⟩=>k<=l.length/\r<d/\out.length=l.length/\Dig out/\val (out.drop k)*d+r=val (l.drop k)) (l.length,0,replicate l.length 0) ?_ ?_ ?_
 .exact gm [0]
 .exact⟨by omega,gJ,by simp,Dig.zeros,by simp[val]⟩
 rintro⟨k,r,out⟩ ⟨hk,hr,ho,yD,hv⟩
 refine aW ?_
 refine bK ?_ ?_
 .intro h1 h2
  obtain⟨j,rfl⟩: ∃ j,k=j+1:=⟨k - 1,by omega⟩
  have hj:(((j+1:Nat):Int) - 1).toNat=j:=by omega
  have hx:=hl.getD j
  simp only[B] at hx
  have sr:=ew (l:=l) (j:=j) (by omega)
  generalize z':l.getD j 0=x at*
  have hq:(r*4294967296+x) / d<4294967296:=by
   rw[Nat.div_lt_iff_lt_mul (by omega)];have:(r+1)*4294967296<=d*4294967296:=qn _ hr;rw[Nat.mul_comm 4294967296 d];omega
  have f1:(r*4294967296+x) % d<d:=Nat.mod_lt _ (by omega)
  have hqr:=Nat.mod_add_div (r*4294967296+x) d
  have e1:((r:Int)*4294967296+x) / d=(((r*4294967296+x) / d:Nat):Int):=by
   rw[Int.natCast_ediv,Int.natCast_add,Int.natCast_mul];rfl
  have e2:((r:Int)*4294967296+x) % d=(((r*4294967296+x) % d:Nat):Int):=by
   rw[Int.natCast_emod,Int.natCast_add,Int.natCast_mul];rfl
  generalize (r*4294967296+x) / d=Q at*
  generalize (r*4294967296+x) % d=R at*
  simp -dsimp(disch:=omega) only[h2,hj,z',q0,e1,e2,IntKind.bits,Int.reduceToNat,Int.reducePow,Option.isNone_none,↓reduceIte,reduceCtorEq,reduceAdd,reduceMul,reduceSub,Nat.reduceBEq,reduceEqDiff,reduceLT,reduceLeDiff,ru]
  refine⟨by omega,by omega,by omega,by omega,by omega,by omega,?_⟩
  have RP:=mb (l:=out) (j:=j) (x:=Q) (by omega)
  refine aw (j,R,out.set j Q) ?_ ⟨by omega,f1,by simp[ho],yD.set _ hq,?_⟩
  .exact gm [0]
  rw[RP,sr,<-hv]
  simp only[B]
  grind
 intro h1 h2
 refine ah h2 ?_
 have RO:k=0:=by omega
 subst RO
 simp only[List.drop_zero] at hv
 have qM:val out=val l / d/\r=val l % d:=by
  rw[<-hv,Nat.mul_comm,Nat.mul_add_div gJ,Nat.mul_add_mod,Nat.div_eq_of_lt hr,Nat.mod_eq_of_lt hr];exact⟨rfl,rfl⟩
 refine gp (eX out yD (by omega)) ?_ ?_
 .simp[bH,eS,dS,dI,aJ,ho]
  rw[dm (by simp[aJ,ho])]
 refine a9 ?_
 refine bc ?_
 rw[<-qM.1,<-qM.2]
 exact D7
theorem Tl (p q:List Nat) (hp:Dig p) (hq:Dig q) (RI:p.length<100000000000) (hlq:q.length<100000000000):Den Tryz.prog 82 [] [.fv (.sl (u32s p)),.fv (.sl (u32s q))] [] (.fv (N (val p+val q))):=by
 refine dq Tryz.func82 50 0 ?_;refine aW ?_;have Gc: ∃ M:Nat,M=max p.length q.length:=⟨_,rfl⟩;obtain⟨M,hM⟩:=Gc;have hmi:(if(q.length:Int)>(p.length:Int) then(q.length:Int) else(p.length:Int))=(M:Int):=by split<;>omega
 refine ah hmi ?_;have hn:((M:Int)+1).toNat=M+1:=by omega
 refine⟨by omega,?_⟩;refine wl (α:=Nat×Nat×List Nat) (fun⟨i,c,out⟩=>⟨.fv (.sl (u32s p)):: .fv (.sl (u32s q)):: .any:: .any:: .nilsl:: .lsl 0 0 (M+1) 1:: .int .u64 c:: .int .i64 i::replicate 44 .any,[.row true (u32s out)]⟩)
  (fun⟨i,_,_⟩=>M+1 - i)
  (fun⟨i,c,out⟩=>i<=M+1/\c<=1/\out.length=M+1/\Dig out/\val (out.take i)+c*B^i=val (p.take i)+val (q.take i)) (0,0,replicate (M+1) 0) ?_ ?_ ?_
 .refine fW [0] ?_ ?_
  .simp[bO,eT,cJ,hn]
  simp[fM,fC,hn]
 .exact⟨by omega,by omega,by simp,Dig.zeros,by simp[val]⟩
 rintro⟨i,c,out⟩ ⟨hi,hc,ho,hd,nw⟩;refine aW ?_;refine bK ?_ ?_
 .intro h1 h2;have Pj:=hp.getD i;have Pk:=hq.getD i;have RJ:=aH p i;have V2:=aH q i;have pd:p.length<=i->p.getD i 0=0:=fun h=>by rw[qa,getElem?_eq_none h];rfl
  have Kq:q.length<=i->q.getD i 0=0:=fun h=>by rw[qa,getElem?_eq_none h];rfl
  simp only[B] at Pj Pk;generalize hP:p.getD i 0=x at*;generalize hQ:q.getD i 0=y at*;obtain⟨s,hs⟩: ∃ s,s=c+x+y:=⟨_,rfl⟩;have bQ:=cw (l:=out) (i:=i) (by omega) (s % 4294967296);have f_:=jG (B^i) s;have c6:val ((out.set i (s % 4294967296)).take (i+1))+s / 4294967296*B^(i+1)=val (p.take (i+1))+val (q.take (i+1)):=by
   rw[Nat.pow_succ,bQ,RJ,V2,Nat.add_assoc];have h7:B^i*(s % 4294967296)+s / 4294967296*(B^i*B)=B^i*s:=f_;rw[h7,hs];grind
  have ny:Dig (out.set i (s % 4294967296)):=hd.set i (Nat.mod_lt _ (by decide));refine ah h2 ?_;refine bK ?_ ?_
  .intro h3 h4;refine ah (a8 h4 hP) ?_;refine⟨by omega,?_⟩;refine bK ?_ ?_
   .intro h5 h6;have hw:IntKind.u32.wrap ((c:Int)+x+y)=((s % 4294967296:Nat):Int):=by rw[df];omega
    have Wk:((c:Int)+x+y) / 4294967296=((s / 4294967296:Nat):Int):=by omega
    refine ah (gn h6 hP hQ hw Wk) ?_;refine⟨by omega,by omega,by omega,by omega,?_⟩;refine aw (i+1,s / 4294967296,out.set i (s % 4294967296)) ?_ ⟨by omega,by omega,by simp[ho],ny,c6⟩;exact gm [0]
   intro h5 h6;have:=Kq (by omega);have hw:IntKind.u32.wrap ((c:Int)+x)=((s % 4294967296:Nat):Int):=by rw[df];omega
   have Wk:((c:Int)+x) / 4294967296=((s / 4294967296:Nat):Int):=by omega
   refine ah (gn h6 hP hQ hw Wk) ?_;refine⟨by omega,by omega,by omega,?_⟩;refine aw (i+1,s / 4294967296,out.set i (s % 4294967296)) ?_ ⟨by omega,by omega,by simp[ho],ny,c6⟩;exact gm [0]
  intro h3 h4;have:=pd (by omega);refine ah h4 ?_;refine bK ?_ ?_
  .intro h5 h6;have hw:IntKind.u32.wrap ((c:Int)+y)=((s % 4294967296:Nat):Int):=by rw[df];omega
   have Wk:((c:Int)+y) / 4294967296=((s / 4294967296:Nat):Int):=by omega
   refine ah (gn h6 hP hQ hw Wk) ?_;refine⟨by omega,by omega,by omega,by omega,?_⟩;refine aw (i+1,s / 4294967296,out.set i (s % 4294967296)) ?_ ⟨by omega,by omega,by simp[ho],ny,c6⟩;exact gm [0]
  intro h5 h6;have:=Kq (by omega);have hw:IntKind.u32.wrap ((c:Int))=((s % 4294967296:Nat):Int):=by rw[df];omega
  have Wk:((c:Int)) / 4294967296=((s / 4294967296:Nat):Int):=by omega
  refine ah (gn h6 hP hQ hw Wk) ?_;refine⟨by omega,by omega,by omega,?_⟩;refine aw (i+1,s / 4294967296,out.set i (s % 4294967296)) ?_ ⟨by omega,by omega,by simp[ho],ny,c6⟩;exact gm [0]
 intro h1 h2;refine ah h2 ?_;have hiM:i=M+1:=by omega
 have RM:val out=val p+val q:=by
  rw[hiM,aN (by omega),aN (by omega),aN (by omega)] at nw;have h5:=Nat.lt_of_lt_of_le (bD hp) (Nat.pow_le_pow_right (show 0<B by decide) (show p.length<=M by omega));have h6:=Nat.lt_of_lt_of_le (bD hq) (Nat.pow_le_pow_right (show 0<B by decide) (show q.length<=M by omega));rw[Nat.pow_succ] at nw;rcases Nat.eq_zero_or_pos c with h | h
  .subst h;omega
  exfalso;have:c=1:=by omega
  subst this;simp only[B] at*;omega
 refine gp (eX out hd (by omega)) ?_ ?_
 .simp[bH,eS,dS,dI,aJ,ho];rw[dm (by simp[aJ,ho])]
 refine a9 ?_;refine bc ?_;refine o_ ?_;rw[RM]
theorem q' {x:Int} (h:0<=x/\x<18446744073709551616):(BitVec.ofInt IntKind.i64.bits x).toNat=x.toNat:=by
 show(BitVec.ofInt 64 x).toNat=x.toNat;rw[BitVec.toNat_ofInt];have:((2^64:Nat):Int)=18446744073709551616:=by decide
 rw[this];omega
theorem UQ {x:Int} (hx:0<=x/\x<9223372036854775808):
 IntKind.i64.wrap ((BitVec.ofInt IntKind.i64.bits x&&& BitVec.ofInt IntKind.i64.bits 4294967295).toNat:Int)=x % 4294967296:=by
 rw[BitVec.toNat_and,q' (by omega),q' (by omega)]
 have:(4294967295:Int).toNat=2^32 - 1:=by decide
 rw[this,Nat.and_two_pow_sub_one_eq_mod,jc (by omega)]
 omega
theorem Tn (n:Nat) (hn:n<9223372036854775808):Den Tryz.prog 81 [] [.int .i64 n] [] (.tup [.fv (N n),.int .i64 0]):=by
 have hv:val [n % 4294967296,n / 4294967296]=n:=by
  simp only[val,B];omega
 have hd:Dig [n % 4294967296,n / 4294967296]:=by
  intro d hd;simp at hd;rcases hd with rfl | rfl<;>(simp only[B];omega)
 have EG:=eX [n % 4294967296,n / 4294967296] hd (by simp);rw[hv] at EG;have jV:decide ((n:Int)<0)=false:=by simp
 refine dq Tryz.func81 13 0 ?_;refine cz (a8 jV @UQ) ?_;refine⟨by omega,?_⟩;refine gp EG ?_ ?_
 .simp[bH,eS,dS,dI,u32s]
 refine a9 ?_;refine bc ?_;exact D7
theorem PY (a b:List Nat) (ha:Dig a) (hb:Dig b) (uR:a.length<100000000000) (x8:b.length<100000000000) (aG:val a<val b):
 Den Tryz.prog 100 [] [.fv (.sl (u32s a)),.fv (.sl (u32s b))] [] (.tup [.fv (.sl []),.int .i64 1]):=by
 refine dq Tryz.func100 54 0 ?_
 refine aW ?_
 refine gp (Lz a b ha hb uR x8) rfl ?_
 simp -dsimp(disch:=omega) only[oD aG,IntKind.bits,Int.reduceToNat,Int.reducePow,Option.isNone_none,↓reduceIte,reduceCtorEq,reduceAdd,reduceMul,reduceSub,Nat.reduceBEq,reduceEqDiff,reduceLT,reduceLeDiff,ru]
 refine bK ?_ ?_
 .intro h1 h2
  refine ah h2 ?_
  refine bc ?_
  exact D7
 intro h1 h2
 omega
theorem Tp (a b:List Nat) (ha:Dig a) (hb:Dig b) (uR:a.length<100000000000) (x8:b.length<100000000000) (cX:val b<=val a):
 Den Tryz.prog 100 [] [.fv (.sl (u32s a)),.fv (.sl (u32s b))] [] (.tup [.fv (N (val a - val b)),.int .i64 0]):=by
 have hxa:(ai (val a)).length<=a.length:=aD (bD ha)
 have kK:(ai (val b)).length<=(ai (val a)).length:=q4 cX
 have hp:=al (val a)
 have hq:=al (val b)
 have yA:=aj (val a)
 have Oe:=aj (val b)
 have yB:decide (nk (val a) (val b)<0)=false:=by
  unfold nk;rw[if_neg (by omega)];split<;>simp
 refine dq Tryz.func100 54 0 ?_
 refine aW ?_
 refine gp (Lz a b ha hb uR x8) rfl ?_
 refine ah yB ?_
 refine gp (Tj a ha (by omega)) rfl ?_
 refine a9 ?_
 refine gp (eX b hb (by omega)) rfl ?_
 refine ah @bx ?_
 generalize ai (val a)=p at*
 generalize ai (val b)=q at*
 refine wl (α:=Nat×Nat×List Nat) (fun⟨i,c,out⟩=>⟨.fv (.sl (u32s a)):: .fv (.sl (u32s q)):: .any:: .any:: .nilsl:: .any:: .lsl 0 0 p.length 1:: .int .u64 c:: .int .i64 i::replicate 47 .any,[.row true (u32s out)]⟩)
  (fun⟨i,_,_⟩=>p.length - i)
  (fun⟨i,c,out⟩=>i<=p.length/\c<=1/\out.length=p.length/\Dig out/\(∀ j,i<=j->out.getD j 0=p.getD j 0)/\val (out.take i)+val (q.take i)=val (p.take i)+c*B^i) (0,0,p) ?_ ?_ ?_
 .exact gm [0]
 .exact⟨by omega,by omega,rfl,hp,fun _ _=>rfl,by simp[val]⟩
 rintro⟨i,c,out⟩ ⟨hi,hc,ho,hd,fA,nw⟩
 refine aW ?_
 refine bK ?_ ?_
 .intro h1 h2
  have Pj:=hp.getD i
  have Pk:=hq.getD i
  have RJ:=aH p i
  have V2:=aH q i
  have hO:out.getD i 0=p.getD i 0:=fA i (qp _)
  have Kq:q.length<=i->q.getD i 0=0:=fun h=>by rw[qa,getElem?_eq_none h];rfl
  simp only[B] at Pj Pk
  generalize p.getD i 0=x at*
  generalize hQ:q.getD i 0=y at*
  have fin: ∀ dg c2:Nat,dg+y+c=x+c2*4294967296->val ((out.set i dg).take (i+1))+val (q.take (i+1))=val (p.take (i+1))+c2*B^(i+1):=by
   intro dg c2 h;rw[Nat.pow_succ,cw (by omega),RJ,V2];simp only[B] at*;grind
  have rest: ∀ dg:Nat,∀ j,i+1<=j->(out.set i dg).getD j 0=p.getD j 0:=by
   intro dg j hj;rw[<-fA j (by omega)];simp only[qa];rw[getElem?_set_ne (by omega)]
  refine ah h2 ?_
  refine bK ?_ ?_
  .intro h3 h4
   refine ah (bB h4 hO hQ) ?_
   refine⟨by omega,by omega,by omega,?_⟩
   refine bK ?_ ?_
   .intro h5 h6
    obtain⟨dg,Pm⟩: ∃ dg,dg+(c+y)=x+4294967296:=⟨x+4294967296 - ((c+y)),by omega⟩
    have ny:Dig (out.set i dg):=hd.set i (by simp only[B];omega)
    have c6:=fun(c2:Nat) (h:dg+y+c=x+c2*4294967296)=>fin dg c2 h
    have qP:=rest dg
    have hw:IntKind.u32.wrap ((x:Int)+4294967296 - ((c:Int)+y))=((dg:Nat):Int):=by rw[df];omega
    refine ah (fe h6 hO hQ hw) ?_
    refine⟨by omega,by omega,?_⟩
    refine aw (i+1,1,out.set i dg) ?_ ⟨by omega,by omega,by simp[ho],ny,qP,c6 _ (by omega)⟩
    exact gm [0]
   intro h5 h6
   obtain⟨dg,Pm⟩: ∃ dg,dg+(c+y)=x:=⟨x - ((c+y)),by omega⟩
   have ny:Dig (out.set i dg):=hd.set i (by simp only[B];omega)
   have c6:=fun(c2:Nat) (h:dg+y+c=x+c2*4294967296)=>fin dg c2 h
   have qP:=rest dg
   have hw:IntKind.u32.wrap ((x:Int) - ((c:Int)+y))=((dg:Nat):Int):=by rw[df];omega
   refine ah (fe h6 hO hQ hw) ?_
   refine⟨by omega,by omega,?_⟩
   refine aw (i+1,0,out.set i dg) ?_ ⟨by omega,by omega,by simp[ho],ny,qP,c6 _ (by omega)⟩
   exact gm [0]
  intro h3 h4
  have:=Kq (by omega)
  refine ah (a8 h4 hO) ?_
  refine⟨by omega,by omega,?_⟩
  refine bK ?_ ?_
  .intro h5 h6
   obtain⟨dg,Pm⟩: ∃ dg,dg+c=x+4294967296:=⟨x+4294967296 - (c),by omega⟩
   have ny:Dig (out.set i dg):=hd.set i (by simp only[B];omega)
   have c6:=fun(c2:Nat) (h:dg+y+c=x+c2*4294967296)=>fin dg c2 h
   have qP:=rest dg
   have hw:IntKind.u32.wrap ((x:Int)+4294967296 - ((c:Int)))=((dg:Nat):Int):=by rw[df];omega
   refine ah (fe h6 hO hQ hw) ?_
   refine⟨by omega,by omega,?_⟩
   refine aw (i+1,1,out.set i dg) ?_ ⟨by omega,by omega,by simp[ho],ny,qP,c6 _ (by omega)⟩
   exact gm [0]
  intro h5 h6
  obtain⟨dg,Pm⟩: ∃ dg,dg+c=x:=⟨x - (c),by omega⟩
  have ny:Dig (out.set i dg):=hd.set i (by simp only[B];omega)
  have c6:=fun(c2:Nat) (h:dg+y+c=x+c2*4294967296)=>fin dg c2 h
  have qP:=rest dg
  have hw:IntKind.u32.wrap ((x:Int) - ((c:Int)))=((dg:Nat):Int):=by rw[df];omega
  refine ah (fe h6 hO hQ hw) ?_
  refine⟨by omega,by omega,?_⟩
  refine aw (i+1,0,out.set i dg) ?_ ⟨by omega,by omega,by simp[ho],ny,qP,c6 _ (by omega)⟩
  exact gm [0]
 intro h1 h2
 refine ah h2 ?_
 have RK:i=p.length:=by omega
 have RM:val out=val a - val b:=by
  rw[RK,aN (by omega),aN kK,aN (qp _),yA,Oe] at nw;have h5:=bD hd;rw[ho] at h5;have h6:c=0:=by
   rcases Nat.eq_zero_or_pos c with h | h
   .exact h
   exfalso;have:c=1:=by omega
   subst this;omega
  subst h6;omega
 refine gp (eX out hd (by omega)) ?_ ?_
 .simp[bH,eS,dS,dI,aJ,ho]
  rw[dm (by simp[aJ,ho])]
 refine a9 ?_
 refine bc ?_
 refine o_ ?_
 rw[RM]
theorem Zv {x y:Nat} (k:Nat) (hx:x % 2^k=0) (hy:y<2^k) (pH:x<18446744073709551616) (tB:y<18446744073709551616):
 IntKind.u64.wrap ((BitVec.ofInt IntKind.u64.bits (x:Int)||| BitVec.ofInt IntKind.u64.bits (y:Int)).toNat:Int)=((x+y:Nat):Int):=by
 rw[u6,BitVec.toNat_or,dP (by omega),dP (by omega),Int.toNat_natCast,Int.toNat_natCast,Af k hx hy]
theorem Tq (l:List Nat) (k:Nat) (hl:Dig l) (pa:l.length<100000000000) (hk:k<32):
 Den Tryz.prog 214 [] [.fv (.sl (u32s l)),.int .i64 k] [.row true (u32s (gG (l.length+1) (val l*2^k)))] (.lsl 0 0 (l.length+1) 1):=by
 have Ie:2^k<=2147483648:=Nat.pow_le_pow_right (by decide) (show k<=31 by omega)
 have pd:0<2^k:=Nat.two_pow_pos k
 have yE:(k<=64)=True:=by simp;omega
 have hwk:IntKind.u64.wrap (k:Int)=(k:Int):=dA (by omega)
 refine dq Tryz.func214 41 0 ?_
 refine aW ?_
 refine⟨by omega,?_⟩
 have hn:((l.length:Int)+1).toNat=l.length+1:=by omega
 refine wl (α:=Nat×Nat×List Nat) (fun⟨i,c,out⟩=>⟨.fv (.sl (u32s l)):: .int .i64 k:: .any:: .any:: .nilsl:: .lsl 0 0 (l.length+1) 1:: .int .u64 c:: .int .i64 i::replicate 35 .any,[.row true (u32s out)]⟩)
  (fun⟨i,_,_⟩=>l.length - i) (fun⟨i,c,out⟩=>i<=l.length/\c<2^k/\out.length=l.length+1/\Dig out/\val (out.take i)+c*B^i=val (l.take i)*2^k) (0,0,replicate (l.length+1) 0) ?_ ?_ ?_
 .refine fW [0] ?_ ?_
  .simp[bO,eT,cJ,hn]
  simp[fM,fC,hn]
 .exact⟨by omega,pd,by simp,Dig.zeros,by simp[val]⟩
 rintro⟨i,c,out⟩ ⟨hi,hc,ho,yD,hv⟩
 refine aW ?_
 refine bK ?_ ?_
 .intro h1 h2
  have hx:=hl.getD i
  simp only[B] at hx
  have fD:=aH l i
  generalize z':l.getD i 0=x at*
  have XG:x*2^k<9223372036854775808:=by
   have:x*2^k<=4294967295*2147483648:=Nat.mul_le_mul (by omega) Ie;omega
  have Ea:(x:Int)*2^k=((x*2^k:Nat):Int):=by rw[Int.natCast_mul,Int.natCast_pow];rfl
  have D8:x*2^k % 2^k=0:=Nat.mul_mod_left _ _
  have gK:(x*2^k+c) / 4294967296<2^k:=by
   rw[Nat.div_lt_iff_lt_mul (by decide)];have:(x+1)*2^k<=4294967296*2^k:=qn _ hx;rw[Nat.mul_comm 4294967296] at this;rw[Nat.add_mul] at this;omega
  generalize yF:x*2^k=v at*
  have Po:=Zv k D8 hc (by omega) (by omega)
  obtain⟨s,hs⟩: ∃ s,s=v+c:=⟨_,rfl⟩
  rw[<-hs] at gK Po
  have Ko:IntKind.u32.wrap (s:Int)=((s % 4294967296:Nat):Int):=by rw[df];rfl
  have RP:(s:Int) / 4294967296=((s / 4294967296:Nat):Int):=by rw[Int.natCast_ediv];rfl
  have bQ:=cw (l:=out) (i:=i) (by omega) (s % 4294967296)
  have f_:=jG (B^i) s
  refine ah (bU h2 yE hwk Ea z' Po Ko RP) ?_
  refine⟨by omega,by omega,by omega,by omega,by omega,?_⟩
  refine aw (i+1,s / 4294967296,out.set i (s % 4294967296)) ?_ ⟨by omega,gK,by simp[ho],yD.set _ (Nat.mod_lt _ (by decide)),?_⟩
  .exact gm [0]
  rw[Nat.pow_succ,bQ,fD,Nat.add_assoc]
  have h7:B^i*(s % 4294967296)+s / 4294967296*(B^i*B)=B^i*s:=f_
  rw[h7,hs]
  grind
 intro h1 h2
 have eV:i=l.length:=by omega
 have hwc:IntKind.u32.wrap (c:Int)=(c:Int):=cQ (by omega)
 refine ah (a8 h2 hwc) ?_
 refine⟨by omega,by omega,?_⟩
 have bQ:=cw (l:=out) (i:=l.length) (by omega) c
 have gj:(out.set l.length c).length=l.length+1:=by simp[ho]
 rw[aN (by omega)] at bQ
 rw[eV,aN (qp _)] at hv
 have hvo:val (out.set l.length c)=val l*2^k:=by rw[bQ,<-hv,Nat.mul_comm]
 rw[<-hvo,<-gj,<-Ag (yD.set _ (by simp only[B];omega)),gj]
 exact RetOK.own rfl ⟨b',b'⟩ rfl
theorem GU {l:List Nat} {i:Nat} (hi:i<l.length) (x:Nat):val (l.set i x)+B^i*l.getD i 0=val l+B^i*x:=by
 have h1:=iL (l.set i x) (i+1) (by simp;omega);have h2:=iL l (i+1) (by omega);rw[cw hi,List.drop_set_of_lt (by omega)] at h1;rw[aH] at h2;omega
theorem vQ (p q:List Nat) (hp:Dig p) (hq:Dig q) (RI:p.length<10000000000) (hlq:q.length<10000000000):
 Den Tryz.prog 98 [] [.fv (.sl (u32s p)),.fv (.sl (u32s q))] [] (.fv (N (val p*val q))):=by
 refine dq Tryz.func98 83 0 ?_
 refine aW ?_
 refine⟨by omega,?_⟩
 have hn:((p.length:Int)+(q.length:Int)+1).toNat=p.length+q.length+1:=by omega
 obtain⟨L,hL⟩: ∃ L,L=p.length+q.length+1:=⟨_,rfl⟩
 refine wl (α:=Nat×List Nat) (fun⟨i,out⟩=>⟨.fv (.sl (u32s p)):: .fv (.sl (u32s q)):: .any:: .any:: .nilsl:: .lsl 0 0 L 1:: .int .i64 i::replicate 78 .any,[.row true (u32s out)]⟩)
  (fun⟨i,_⟩=>p.length - i)
  (fun⟨i,out⟩=>i<=p.length/\out.length=L/\Dig out/\val out=val (p.take i)*val q) (0,replicate L 0) ?_ ?_ ?_
 .refine fW [0] ?_ ?_
  .simp[bO,eT,cJ,hn,hL]
  simp[fM,fC,hn,hL]
 .exact⟨by omega,by simp,Dig.zeros,by simp[val,yQ]⟩
 rintro⟨i,uS⟩ ⟨hi,D9,gJ,EA⟩
 refine aW ?_
 refine bK ?_ ?_
 .intro h1 h2
  refine ah h2 ?_
  have hx:=hp.getD i
  have RJ:=aH p i
  simp only[B] at hx
  generalize z':p.getD i 0=x at*
  refine wl (α:=Nat×Nat×List Nat) (fun⟨k,c,out⟩=>⟨.fv (.sl (u32s p)):: .fv (.sl (u32s q)):: .any:: .any:: .nilsl:: .lsl 0 0 L 1:: .int .i64 i:: .int .u64 c:: .int .i64 k::replicate 76 .any,[.row true (u32s out)]⟩)
   (fun⟨k,_,_⟩=>q.length - k)
   (fun⟨k,c,out⟩=>k<=q.length/\c<4294967296/\out.length=L/\Dig out/\val out+c*B^(i+k)=val uS+x*val (q.take k)*B^i) (0,0,uS) ?_ ?_ ?_
  .exact gm [0]
  .exact⟨by omega,by omega,D9,gJ,by simp[val]⟩
  rintro⟨k,c,out⟩ ⟨hk,hc,ho,hd,hv⟩
  refine aW ?_
  refine bK ?_ ?_
  .intro h3 h4
   refine ah h4 ?_
   refine dw (by kernel_rfl) ?_
   have hy:=hq.getD k
   have hqk:=aH q k
   simp only[B] at hy
   have V4:((i:Int)+(k:Int)).toNat=i+k:=by omega
   have jE:=hd.getD (i+k)
   simp only[B] at jE
   have bQ:=fun z=>GU (l:=out) (i:=i+k) (by omega) z
   have f_:=jG (B^(i+k))
   generalize Pn:q.getD k 0=y at*
   generalize hod:out.getD (i+k) 0=o at*
   have EB:x*y<=18446744065119617025:=ka (Nat.mul_le_mul (show x<=4294967295 by omega) (show y<=4294967295 by omega)) (by decide)
   have Ea:(x:Int)*y=((x*y:Nat):Int):=by rw[Int.natCast_mul]
   generalize hm:x*y=m at*
   obtain⟨s,hs⟩: ∃ s,s=m+o+c:=⟨_,rfl⟩
   have pK:(m:Int)+o+c=(s:Int):=by omega
   have Ko:IntKind.u32.wrap (s:Int)=((s % 4294967296:Nat):Int):=by rw[df];rfl
   have RP:(s:Int) / 4294967296=((s / 4294967296:Nat):Int):=by rw[Int.natCast_ediv];rfl
   refine ah (bU Pn z' V4 hod Ea pK Ko RP) ?_
   refine⟨by omega,by omega,by omega,by omega,by omega,by omega,by omega,?_⟩
   have c6:val (out.set (i+k) (s % 4294967296))+s / 4294967296*B^(i+(k+1))=val uS+x*val (q.take (k+1))*B^i:=by
    have h5:=bQ (s % 4294967296);have h6:B^(i+k)*(s % 4294967296)+s / 4294967296*(B^(i+k)*B)=B^(i+k)*s:=f_ s;rw[hqk,<-Nat.add_assoc i k 1,Nat.pow_succ];have h7:B^(i+k)*s=B^(i+k)*m+B^(i+k)*o+c*B^(i+k):=by rw[hs];grind
    have h8:x*(val (q.take k)+B^k*y)*B^i=x*val (q.take k)*B^i+B^(i+k)*m:=by rw[Nat.pow_add,<-hm];grind
    rw[h8];omega
   refine aw (k+1,s / 4294967296,out.set (i+k) (s % 4294967296)) ?_ ⟨by omega,by omega,by simp[ho],hd.set _ (Nat.mod_lt _ (by decide)),c6⟩
   exact gm [0]
  intro h3 h4
  refine ah h4 ?_
  have hkq:k=q.length:=by omega
  have hT:val out+c*B^(i+q.length)=val (p.take (i+1))*val q:=by
   rw[hkq,aN (qp _),EA] at hv;rw[hv,RJ];grind
  have aG:val (p.take (i+1))*val q<B^(p.length+q.length):=by
   rw[Nat.pow_add];have h5:=bD (hp.take (i+1));have h6:B^(p.take (i+1)).length<=B^p.length:=Nat.pow_le_pow_right (by decide) (by rw[length_take];omega);exact Nat.mul_lt_mul'' (Nat.lt_of_lt_of_le h5 h6) (bD hq)
  generalize R1:val (p.take (i+1))*val q=TT at*
  refine wl (α:=Nat×Nat×List Nat) (fun⟨k,c,out⟩=>⟨.fv (.sl (u32s p)):: .fv (.sl (u32s q)):: .any:: .any:: .nilsl:: .lsl 0 0 L 1:: .int .i64 i:: .int .u64 c:: .any:: .any:: .int .i64 k::replicate 74 .any,[.row true (u32s out)]⟩)
   (fun⟨k,_,_⟩=>L - k)
   (fun⟨k,c,out⟩=>c<4294967296/\out.length=L/\Dig out/\val out+c*B^k=TT) (i+q.length,c,out) ?_ ?_ ?_
  .exact gm [0]
  .exact⟨hc,ho,hd,hT⟩
  rintro⟨j,c1,Ot⟩ ⟨qW,h_,Py,hv1⟩
  have Wl:0<c1->j<p.length+q.length:=by
   intro h;have h5:1*B^j<=c1*B^j:=qn _ h;have h6:B^j<B^(p.length+q.length):=by omega
   exact(Nat.pow_lt_pow_iff_right (by decide)).1 h6
  refine aW ?_
  refine bK ?_ ?_
  .intro h5 h6
   have hj:=Wl (by omega)
   have jE:=Py.getD j
   simp only[B] at jE
   have bQ:=fun z=>GU (l:=Ot) (i:=j) (by omega) z
   have f_:=jG (B^j)
   generalize hod:Ot.getD j 0=o at*
   obtain⟨s,hs⟩: ∃ s,s=o+c1:=⟨_,rfl⟩
   have pK:(o:Int)+c1=(s:Int):=by omega
   have Ko:IntKind.u32.wrap (s:Int)=((s % 4294967296:Nat):Int):=by rw[df];rfl
   have RP:(s:Int) / 4294967296=((s / 4294967296:Nat):Int):=by rw[Int.natCast_ediv];rfl
   refine ah (gn h6 hod pK Ko RP) ?_
   refine⟨by omega,by omega,by omega,by omega,by omega,?_⟩
   have c6:val (Ot.set j (s % 4294967296))+s / 4294967296*B^(j+1)=TT:=by
    have h7:=bQ (s % 4294967296);have h8:B^j*(s % 4294967296)+s / 4294967296*(B^j*B)=B^j*s:=f_ s;rw[Nat.pow_succ];have h9:B^j*s=B^j*o+c1*B^j:=by rw[hs];grind
    omega
   refine aw (j+1,s / 4294967296,Ot.set j (s % 4294967296)) ?_ ⟨by omega,by simp[h_],Py.set _ (Nat.mod_lt _ (by decide)),c6⟩
   exact gm [0]
  intro h5 h6
  have Ig:c1=0:=by omega
  subst Ig
  refine ah h6 ?_
  refine aw (i+1,Ot) ?_ ⟨by omega,h_,Py,by rw[R1];simpa using hv1⟩
  exact gm [0]
 intro h1 h2
 refine ah h2 ?_
 have RK:i=p.length:=by omega
 refine gp (eX uS gJ (by omega)) ?_ ?_
 .simp[bH,eS,dS,dI,aJ,D9]
  rw[dm (by simp[aJ,D9])]
 refine a9 ?_
 refine bc ?_
 rw[RK,aN (qp _)] at EA
 exact j8 EA
theorem Zw (l:List Nat) (k:Nat) (hl:Dig l) (pa:l.length<100000000000) (hk:k<32):
 Den Tryz.prog 216 [] [.fv (.sl (u32s l)),.int .i64 k] [] (.fv (N (val l / 2^k))):=by
 have yE:(k<=64)=True:=by simp;omega
 have hwk:IntKind.u64.wrap (k:Int)=(k:Int):=dA (by omega)
 refine dq Tryz.func216 44 0 ?_
 refine aW ?_
 refine⟨by omega,?_⟩
 refine wl (α:=Nat×List Nat) (fun⟨i,out⟩=>⟨.fv (.sl (u32s l)):: .int .i64 k:: .any:: .any:: .nilsl:: .lsl 0 0 l.length 1:: .int .i64 i::replicate 39 .any,[.row true (u32s out)]⟩)
  (fun⟨i,_⟩=>l.length - i) (fun⟨i,out⟩=>i<=l.length/\out.length=l.length/\Dig out/\out.take i=gG i (val l / 2^k)) (0,replicate l.length 0) ?_ ?_ ?_
 .exact gm [0]
 .exact⟨by omega,by simp,Dig.zeros,by simp[gG]⟩
 rintro⟨i,out⟩ ⟨hi,ho,yD,hv⟩
 refine aW ?_
 refine bK ?_ ?_
 .intro h1 h2
  have hx:=hl.getD i
  have hy:=hl.getD (i+1)
  have x9:(l.getD i 0+l.getD (i+1) 0*4294967296) / 2^k % 4294967296=val l / 2^k / B^i % 4294967296:=by
   rw[pw (l:=l) (i:=i) (k:=k) (by omega) (by omega),<-gO hl hi,Nat.div_div_eq_div_mul,Nat.div_div_eq_div_mul,Nat.mul_comm (2^k)]
  have pJ:((i:Int)+1).toNat=i+1:=by omega
  have pd:0<2^k:=Nat.two_pow_pos k
  have uV:l.length<=i+1->l.getD (i+1) 0=0:=fun h=>by rw[qa,getElem?_eq_none h];rfl
  simp only[B] at hx hy
  generalize z':l.getD i 0=x at*
  generalize Pn:l.getD (i+1) 0=y at*
  obtain⟨s,hs⟩: ∃ s,s=x+y*4294967296:=⟨_,rfl⟩
  rw[<-hs] at x9
  have pK:(x:Int)+y*4294967296=(s:Int):=by omega
  have hpc:((s:Int)) / 2^k=((s / 2^k:Nat):Int):=by rw[Int.natCast_ediv,Int.natCast_pow];rfl
  have Ko:IntKind.u32.wrap ((s / 2^k:Nat):Int)=((s / 2^k % 4294967296:Nat):Int):=by rw[df];rfl
  have hpp:(0:Int)<=2^k:=by
   have:(2:Int)^k=((2^k:Nat):Int):=by rw[Int.natCast_pow];rfl
   omega
  generalize Pm:s / 2^k % 4294967296=dg at*
  have RX:dg<4294967296:=by rw[<-Pm];exact Nat.mod_lt _ (by decide)
  have c6:(out.set i dg).take (i+1)=gG (i+1) (val l / 2^k):=by
   rw[yR,<-hv,take_succ_eq_append_getElem (by simp;omega),List.take_set_of_le (qp i)];simp only[List.getElem_set_self,B] at*;rw[x9]
  refine ah (a8 h2 z') ?_
  refine⟨by omega,?_⟩
  refine bK ?_ ?_
  .intro h3 h4
   refine ah (bU h4 z' pJ Pn @Lg pK yE (bB hwk hpc Ko)) ?_
   refine⟨by omega,by omega,by omega,by omega,by omega,?_⟩
   refine aw (i+1,out.set i dg) ?_ ⟨by omega,by simp[ho],yD.set _ RX,c6⟩
   exact gm [0]
  intro h3 h4
  have yJ:=uV (by omega)
  have hsx:(x:Int)=(s:Int):=by omega
  refine ah (kX h4 hsx yE hwk hpc Ko) ?_
  refine⟨by omega,by omega,by omega,?_⟩
  refine aw (i+1,out.set i dg) ?_ ⟨by omega,by simp[ho],yD.set _ RX,c6⟩
  exact gm [0]
 intro h1 h2
 refine ah h2 ?_
 have eV:i=l.length:=by omega
 have hvo:val out=val l / 2^k:=by
  rw[eV,dm (by omega)] at hv;rw[hv,jI];exact GH (Nat.div_le_self _ _) (bD hl)
 refine gp (eX out yD (by omega)) ?_ ?_
 .simp[bH,eS,dS,dI,aJ,ho]
  rw[dm (by simp[aJ,ho])]
 refine a9 ?_
 refine bc ?_
 exact j8 hvo
set_option maxHeartbeats 4000000
theorem Zx (u v:List Nat) (j n:Nat) (x9:Dig u) (yF:Dig v) (hn:v.length=n) (qN:2<=n) (hj:j+n+1<=u.length) (tC:u.length<10000000010) (uU:2147483648<=v.getD (n - 1) 0) (aG:val (u.drop (j+1))<val v):
 Den Tryz.prog 215 [.row true (u32s u)] [.lsl 0 0 u.length 1,.fv (.sl (u32s v)),.int .i64 j] [.row true (u32s (i7 u j (n+1) (fg u j (n+1) % val v)))] (.int .u32 ((fg u j (n+1) / val v:Nat):Int)):=by
 obtain⟨L,hL⟩:=ax u.length
 have Wm:((n:Int) - 1).toNat=n - 1:=by omega
 have afO:((n:Int) - 2).toNat=n - 2:=by omega
 have Oh:=yF.getD (n - 1)
 have Oi:=yF.getD (n - 2)
 simp only[B] at Oh Oi
 obtain⟨top,ht⟩:=ax (v.getD (n - 1) 0)
 obtain⟨sec,hs⟩:=ax (v.getD (n - 2) 0)
 rw[ht] at Oh uU
 rw[hs] at Oi
 have i1:((j:Int)+(n:Int)).toNat=j+n:=by omega
 have i2:((j:Int)+(n:Int) - 1).toNat=j+n - 1:=by omega
 have i3:((j:Int)+(n:Int) - 2).toNat=j+n - 2:=by omega
 have LH:=sC (j:=j) x9 yF hn qN (by omega) aG
 have d1:=x9.getD (j+n)
 have d2:=x9.getD (j+n - 1)
 have d3:=x9.getD (j+n - 2)
 simp only[B] at d1 d2 d3
 have gr:=LH.first
 rw[ht] at gr
 obtain⟨x1,uw⟩:=ax (u.getD (j+n) 0)
 obtain⟨x2,pH⟩:=ax (u.getD (j+n - 1) 0)
 obtain⟨x3,Kn⟩:=ax (u.getD (j+n - 2) 0)
 rw[uw] at d1 gr
 rw[pH] at d2 gr
 rw[Kn] at d3
 obtain⟨F,hF⟩: ∃ F,F=x1*4294967296+x2:=⟨_,rfl⟩
 have hFi:(x1:Int)*4294967296+(x2:Int)=(F:Int):=by omega
 rw[<-hF] at gr
 have hFt:F / top<=4294967297:=Lm uU gr
 have hFm:F % top<top:=Nat.mod_lt _ (by omega)
 have cY:0<val v:=by have:=LH.v1;rw[ht] at this;have h0:0<top*B^(n - 1):=Nat.mul_pos (by omega) (IB (by decide));omega
 obtain⟨Q,hQ⟩: ∃ Q,Q=fg u j (n+1) / val v:=⟨_,rfl⟩
 have hQv:Q*val v<=fg u j (n+1):=by rw[hQ];exact Nat.div_mul_le_self _ _
 have LH1:=LH.h1
 rw[uw,pH,<-hF] at LH1
 have LHv:=LH.v1
 rw[ht] at LHv
 have bQ:=B8 (q:=Q) (by omega) (vK (IB (by decide)) LH1 LH.s1 LHv hQv)
 have hQb:Q<4294967296:=by
  rw[hQ,Nat.div_lt_iff_lt_mul cY,Nat.mul_comm];exact LH.lt
 have hq:(F:Int) / (top:Int)=((F / top:Nat):Int):=by rw[Int.natCast_ediv]
 have hr:(F:Int) % (top:Int)=((F % top:Nat):Int):=by rw[Int.natCast_emod]
 generalize F / top=g0 at*
 generalize F % top=r0 at*
 refine dq Tryz.func215 176 1 ?_
 refine ah (a8 hn hL) ?_
 refine dw (by kernel_rfl) ?_
 refine ah (f0 hn i1 i2 uw pH @q0 hFi) ?_
 refine⟨by omega,by omega,by omega,by omega,by omega,?_⟩
 refine dw (by kernel_rfl) ?_
 refine ah (gn hn Wm ht hq hr) ?_
 refine⟨by omega,by omega,by omega,by omega,?_⟩
 refine WA.blockcut (fun(y:Nat×(Nat->PV))=>⟨[.lsl 0 0 L 1,.fv (.sl (u32s v)),.int .i64 j,.any,.any,.any,.any,.int .i64 n,.any,.int .u64 y.1]++tl y.2 10 169,[.row true (u32s u)]⟩)
  (fun y=>Q<=y.1/\y.1<4294967296/\(y.1 - 1)*val v<=fg u j (n+1)) ?_ ?_
 .refine wl (α:=Nat×Nat) (fun⟨g,r⟩=>⟨.lsl 0 0 L 1:: .fv (.sl (u32s v)):: .int .i64 j:: .any:: .any:: .any:: .any:: .int .i64 n:: .any:: .int .u64 g:: .int .u64 r::replicate 168 .any,[.row true (u32s u)]⟩)
   (fun⟨g,_⟩=>g) (fun⟨g,r⟩=>tN F top Q g r/\r<4294967296/\g<=4294967297) (g0,r0) ?_ ?_ ?_
  .exact gm [0]
  .exact⟨bQ,by omega,hFt⟩
  rintro⟨g,r⟩ ⟨EC,Pr,mR⟩
  refine aW ?_
  refine dw (by kernel_rfl) ?_
  refine a9 ?_
  refine bK ?_ ?_
  .intro h3 h4
   have lY:Q<g:=by omega
   obtain⟨g',rfl⟩: ∃ g',g=g'+1:=⟨g - 1,by omega⟩
   have mS:=u7 EC lY
   rw[Nat.add_sub_cancel] at mS
   have BC:((g'+1:Nat):Int) - 1=(g':Int):=by omega
   refine ah (gn h4 BC hn Wm ht) ?_
   repeat refine ae ?_
   refine bK ?_ ?_
   .intro h5 h6
    refine ah h6 ?_
    have qO:=Ah (second:=sec) mS (by omega) gr (by omega)
    refine Mid.ex g' rfl ⟨by omega,qO.1,?_⟩
    refine jy LH qO.1 (by omega) ?_
    rw[ht,hs,uw,pH,Kn,<-hF]
    exact oE mS (ka qO.2 (Nat.le_add_right _ _))
   intro h5 h6
   refine ah h6 ?_
   refine aw (g',r+top) ?_ ⟨mS,by omega,by omega⟩
   exact gm [0]
  intro h3 h4
  have ux:g<4294967296:=by omega
  have T1:g*sec<=4294967295*4294967295:=Nat.mul_le_mul (by omega) (by omega)
  have RS:(g:Int)*(sec:Int)=((g*sec:Nat):Int):=by rw[Int.natCast_mul]
  obtain⟨gs,F9⟩:=ax (g*sec)
  rw[F9] at T1 RS
  have hrd:decide ((r:Int)<4294967296)=true:=BR
  refine ah (bU h4 hrd RS afO hs i3 Kn @q0) ?_
  repeat refine ae ?_
  refine bK ?_ ?_
  .intro h7 h8
   have lY:Q<g:=by
    have LH2:=LH.h2;have LHv2:=LH.v2;rw[uw,pH,Kn,<-hF] at LH2;rw[ht,hs] at LHv2;exact GN (IB (by decide)) LH2 LH.s2 rfl LHv2 hQv EC (by rw[F9];omega)
   obtain⟨g',rfl⟩: ∃ g',g=g'+1:=⟨g - 1,by omega⟩
   have mS:=u7 EC lY
   rw[Nat.add_sub_cancel] at mS
   have BC:((g'+1:Nat):Int) - 1=(g':Int):=by omega
   refine ah (gn h8 BC hn Wm ht) ?_
   repeat refine ae ?_
   refine bK ?_ ?_
   .intro h5 h6
    refine ah h6 ?_
    have qO:=Ah (second:=sec) mS (by omega) gr (by omega)
    refine Mid.ex g' rfl ⟨by omega,qO.1,?_⟩
    refine jy LH qO.1 (by omega) ?_
    rw[ht,hs,uw,pH,Kn,<-hF]
    exact oE mS (ka qO.2 (Nat.le_add_right _ _))
   intro h5 h6
   refine ah h6 ?_
   refine aw (g',r+top) ?_ ⟨mS,by omega,by omega⟩
   exact gm [0]
  intro h7 h8
  refine ah h8 ?_
  refine Mid.ex g rfl ⟨EC.low,ux,?_⟩
  refine jy LH ux (by omega) ?_
  rw[ht,hs,uw,pH,Kn,<-hF]
  exact oE EC (by rw[F9];omega)
 rintro⟨g,x⟩ ⟨Ps,eC,Ab⟩
 have V9:=GP (g:=g) cY (by rw[<-hQ];exact Ps)
 simp only[] at Ps eC Ab
 simp -dsimp(disch:=omega) only[tl,IntKind.bits,Int.reduceToNat,Int.reducePow,Option.isNone_none,↓reduceIte,reduceCtorEq,reduceAdd,reduceMul,reduceSub,Nat.reduceBEq,reduceEqDiff,reduceLT,reduceLeDiff,ru]
 refine wl (α:=Nat×Nat×Nat×List Nat) (fun⟨i,bo,c,w⟩=>⟨[.lsl 0 0 L 1,.fv (.sl (u32s v)),.int .i64 j,.any,.any,.any,.any,.int .i64 n,.any,.int .u64 g,.any,.int .u64 bo,.int .u64 c,.int .i64 i]++replicate 165 .any,[.row true (u32s w)]⟩)
  (fun⟨i,_,_,_⟩=>n+1 - i) (fun⟨i,bo,c,w⟩=>i<=n+1/\bo<=1/\c<4294967296/\w.length=L/\Dig w/\(∀ t,(t<j\/j+i<=t)->w.getD t 0=u.getD t 0)/\fg w j i+g*val (v.take i)=fg u j i+(c+bo)*B^i/\(i=n+1->c=0)) (0,0,0,u) ?_ ?_ ?_
 .exact gm [0]
 .refine⟨by omega,by omega,by omega,hL,x9,fun _ _=>rfl,?_,fun _=>rfl⟩
  simp[q5,val]
 rintro⟨i,bo,c,w⟩ ⟨hi,T2,hc,T3,Gb,ph,kZ,hce⟩
 refine aW ?_
 refine bK ?_ ?_
 .intro h1 h2
  have dv:=yF.getD i
  have du:=Gb.getD (j+i)
  simp only[B] at dv du
  have dT:=aH v i
  have k7:=iM u j i
  have F_:=ph (j+i) (Or.inr (qp _))
  rw[<-F_] at k7
  have EA:n<=i->v.getD i 0=0:=fun h=>by rw[qa,getElem?_eq_none (by omega)];rfl
  obtain⟨y,hy⟩:=ax (v.getD i 0)
  obtain⟨z,hz⟩:=ax (w.getD (j+i) 0)
  rw[hy] at dT dv EA
  rw[hz] at k7 du
  have ik:((j:Int)+(i:Int)).toNat=j+i:=by omega
  refine ah h2 ?_
  refine bK ?_ ?_
  .intro h3 h4
   have hgy:g*y<=4294967295*4294967295:=Nat.mul_le_mul (by omega) (by omega)
   have Ol:(g:Int)*(y:Int)=((g*y:Nat):Int):=by rw[Int.natCast_mul]
   obtain⟨cc,qX⟩:=ax (c+g*y)
   obtain⟨gy,V_⟩:=ax (g*y)
   rw[V_] at hgy Ol
   have xz:(c:Int)+(gy:Int)=(cc:Int):=by omega
   have afx:cc<=18446744073709551616 - 4294967296:=by omega
   have nH:(cc:Int) % 4294967296=((cc % 4294967296:Nat):Int):=by rw[Int.natCast_emod];rfl
   have jv:(cc:Int) / 4294967296=((cc / 4294967296:Nat):Int):=by rw[Int.natCast_ediv];rfl
   obtain⟨lo,gj⟩:=ax (cc % 4294967296)
   obtain⟨oy,Gd⟩: ∃ t,cc / 4294967296=t:=⟨_,rfl⟩
   have D_:lo<4294967296:=by omega
   have xE:oy<4294967296:=by omega
   rw[gj] at nH
   rw[Gd] at jv
   refine ah (bU h4 hn hy Ol xz @Lh nH (bB jv hz ik)) ?_
   repeat refine ae ?_
   refine bK ?_ ?_
   .intro h7 h8
    obtain⟨d,yC⟩:=ax (z+4294967296 - (lo+bo))
    have Ga:(z:Int)+4294967296 - ((lo:Int)+(bo:Int))=(d:Int):=by omega
    have bg:=iI (u:=w) (j:=j) (i:=i) (by omega) d
    have xA:IntKind.u32.wrap (d:Int)=(d:Int):=cQ (by omega)
    have bQ:=iO (S:=fg w j i) (S0:=fg u j i) (P:=B^i) (g:=g) (Vt:=val (v.take i)) (v:=y) (c:=c) (b:=bo) (a:=z) (d:=d) (b2:=1) kZ (by rw[qX,gj];omega)
    refine ah (fe h8 ik Ga xA) ?_
    repeat refine ae ?_
    refine aw (i+1,1,oy,w.set (j+i) d) ?_ ⟨by omega,by omega,xE,by simp[T3],Gb.set _ (by simp only[B];omega),?_,?_,by omega⟩
    .exact gm [0]
    .intro t V7
     rw[<-ph t (by omega),qa,getElem?_set_ne (by omega),<-qa]
    rw[bg,dT,k7,Nat.pow_succ,<-Gd,<-qX]
    exact bQ
   intro h7 h8
   obtain⟨d,yC⟩:=ax (z - (lo+bo))
   have Ga:(z:Int) - ((lo:Int)+(bo:Int))=(d:Int):=by omega
   have bg:=iI (u:=w) (j:=j) (i:=i) (by omega) d
   have xA:IntKind.u32.wrap (d:Int)=(d:Int):=cQ (by omega)
   have bQ:=iO (S:=fg w j i) (S0:=fg u j i) (P:=B^i) (g:=g) (Vt:=val (v.take i)) (v:=y) (c:=c) (b:=bo) (a:=z) (d:=d) (b2:=0) kZ (by rw[qX,gj];omega)
   refine ah (fe h8 ik Ga xA) ?_
   repeat refine ae ?_
   refine aw (i+1,0,oy,w.set (j+i) d) ?_ ⟨by omega,by omega,xE,by simp[T3],Gb.set _ (by simp only[B];omega),?_,?_,by omega⟩
   .exact gm [0]
   .intro t V7
    rw[<-ph t (by omega),qa,getElem?_set_ne (by omega),<-qa]
   rw[bg,dT,k7,Nat.pow_succ,<-Gd,<-qX]
   exact bQ
  intro h3 h4
  have uV:=EA (by omega)
  obtain⟨cc,afP⟩: ∃ t,c=t:=⟨_,rfl⟩
  have xz:(c:Int)=(cc:Int):=by omega
  have qX:c+g*y=cc:=by rw[uV,Nat.mul_zero,afP];rfl
  have nH:(cc:Int) % 4294967296=((cc % 4294967296:Nat):Int):=by rw[Int.natCast_emod];rfl
  have jv:(cc:Int) / 4294967296=((cc / 4294967296:Nat):Int):=by rw[Int.natCast_ediv];rfl
  obtain⟨lo,gj⟩:=ax (cc % 4294967296)
  obtain⟨oy,Gd⟩: ∃ t,cc / 4294967296=t:=⟨_,rfl⟩
  have D_:lo<4294967296:=by omega
  have xE:oy<4294967296:=by omega
  rw[gj] at nH
  rw[Gd] at jv
  refine ah (f0 h4 xz @Lh nH jv hz ik) ?_
  repeat refine ae ?_
  refine bK ?_ ?_
  .intro h7 h8
   obtain⟨d,yC⟩:=ax (z+4294967296 - (lo+bo))
   have Ga:(z:Int)+4294967296 - ((lo:Int)+(bo:Int))=(d:Int):=by omega
   have bg:=iI (u:=w) (j:=j) (i:=i) (by omega) d
   have xA:IntKind.u32.wrap (d:Int)=(d:Int):=cQ (by omega)
   have bQ:=iO (S:=fg w j i) (S0:=fg u j i) (P:=B^i) (g:=g) (Vt:=val (v.take i)) (v:=y) (c:=c) (b:=bo) (a:=z) (d:=d) (b2:=1) kZ (by rw[qX,gj];omega)
   refine ah (fe h8 ik Ga xA) ?_
   repeat refine ae ?_
   refine aw (i+1,1,oy,w.set (j+i) d) ?_ ⟨by omega,by omega,xE,by simp[T3],Gb.set _ (by simp only[B];omega),?_,?_,by omega⟩
   .exact gm [0]
   .intro t V7
    rw[<-ph t (by omega),qa,getElem?_set_ne (by omega),<-qa]
   rw[bg,dT,k7,Nat.pow_succ,<-Gd,<-qX]
   exact bQ
  intro h7 h8
  obtain⟨d,yC⟩:=ax (z - (lo+bo))
  have Ga:(z:Int) - ((lo:Int)+(bo:Int))=(d:Int):=by omega
  have bg:=iI (u:=w) (j:=j) (i:=i) (by omega) d
  have xA:IntKind.u32.wrap (d:Int)=(d:Int):=cQ (by omega)
  have bQ:=iO (S:=fg w j i) (S0:=fg u j i) (P:=B^i) (g:=g) (Vt:=val (v.take i)) (v:=y) (c:=c) (b:=bo) (a:=z) (d:=d) (b2:=0) kZ (by rw[qX,gj];omega)
  refine ah (fe h8 ik Ga xA) ?_
  repeat refine ae ?_
  refine aw (i+1,0,oy,w.set (j+i) d) ?_ ⟨by omega,by omega,xE,by simp[T3],Gb.set _ (by simp only[B];omega),?_,?_,by omega⟩
  .exact gm [0]
  .intro t V7
   rw[<-ph t (by omega),qa,getElem?_set_ne (by omega),<-qa]
  rw[bg,dT,k7,Nat.pow_succ,<-Gd,<-qX]
  exact bQ
 intro h1 h2
 have j6:i=n+1:=by omega
 have Ig:=hce j6
 subst j6
 subst Ig
 have Eb:val (v.take (n+1))=val v:=aN (by omega)
 rw[Eb,Nat.zero_add] at kZ
 refine ah h2 ?_
 refine Br.beqInt ?_ ?_
 .intro h3 h4
  have ED:bo=0:=by omega
  subst ED
  rw[Nat.zero_mul,Nat.add_zero] at kZ
  have Pu:=B_ kZ V9
  have qM:=vO kZ Pu
  have We:IntKind.u32.wrap (g:Int)=(g:Int):=cQ (by omega)
  have ct:=yS (x:=fg u j (n+1) % val v) (by omega) Gb (by omega) ph qM.2
  refine ah (a8 h4 We) ?_
  refine RetOK.lent rfl ⟨b',b'⟩ (by rw[ct]) ?_ rfl
  rw[<-qM.1]
  rfl
 intro h3 h4
 have dp:bo=1:=by omega
 subst dp
 rw[Nat.one_mul] at kZ
 have afz:=sB Gb j (n+1)
 have hVM:val v<=B^(n+1):=by
  have h7:=bD yF;rw[hn] at h7;exact ka (Nat.le_of_lt h7) (Nat.pow_le_pow_right (by decide) (by omega))
 have gK:fg u j (n+1)<g*val v:=by omega
 have su:0<g:=by
  rcases Nat.eq_zero_or_pos g with h7 | h7
  .rw[h7,Nat.zero_mul] at gK;omega
  exact h7
 refine ah h4 ?_
 refine wl (α:=Nat×Nat×List Nat) (fun⟨t,c,w'⟩=>⟨[.lsl 0 0 L 1,.fv (.sl (u32s v)),.int .i64 j,.any,.any,.any,.any,.int .i64 n,.any,.int .u64 g,.any,.any,.int .u64 c,.any,.any,.any,.any,.int .i64 t]++replicate 161 .any,[.row true (u32s w')]⟩)
  (fun⟨t,_,_⟩=>n+1 - t) (fun⟨t,c,w'⟩=>t<=n+1/\c<=1/\w'.length=L/\Dig w'/\(∀ s,(s<j\/j+t<=s)->w'.getD s 0=w.getD s 0)/\fg w' j t+c*B^t=fg w j t+val (v.take t)) (0,0,w) ?_ ?_ ?_
 .exact gm [0]
 .refine⟨by omega,by omega,T3,Gb,fun _ _=>rfl,?_⟩
  simp[q5,val]
 rintro⟨t,c',w'⟩ ⟨ht',Wa,abG,Ou,R2,Ih⟩
 refine aW ?_
 refine bK ?_ ?_
 .intro h5 h6
  have dv:=yF.getD t
  have du:=Ou.getD (j+t)
  simp only[B] at dv du
  have dT:=aH v t
  have xB:=iM w j t
  have Wc:=R2 (j+t) (Or.inr (qp _))
  rw[<-Wc] at xB
  have EA:n<=t->v.getD t 0=0:=fun h=>by rw[qa,getElem?_eq_none (by omega)];rfl
  obtain⟨y,hy⟩: ∃ t',v.getD t 0=t':=⟨_,rfl⟩
  obtain⟨z,hz⟩: ∃ t',w'.getD (j+t) 0=t':=⟨_,rfl⟩
  rw[hy] at dT dv EA
  rw[hz] at xB du
  have XM:((j:Int)+(t:Int)).toNat=j+t:=by omega
  refine ah (bB h6 hz XM) ?_
  repeat refine ae ?_
  refine bK ?_ ?_
  .intro h7 h8
   obtain⟨cc,qX⟩:=ax (c'+(z+y))
   have xz:(z:Int)+(c':Int)+(y:Int)=(cc:Int):=by omega
   have jv:(cc:Int) / 4294967296=((cc / 4294967296:Nat):Int):=by rw[Int.natCast_ediv];rfl
   have Wd:IntKind.u32.wrap (cc:Int)=((cc % 4294967296:Nat):Int):=by rw[df,Int.natCast_emod];rfl
   have m9:=iI (u:=w') (j:=j) (i:=t) (by omega) (cc % 4294967296)
   refine ah (bU h8 hn hy hz XM xz jv Wd) ?_
   repeat refine ae ?_
   refine aw (t+1,cc / 4294967296,w'.set (j+t) (cc % 4294967296)) ?_ ⟨by omega,by omega,by simp[abG],Ou.set _ (Nat.mod_lt _ (by decide)),?_,?_⟩
   .exact gm [0]
   .intro s BU
    rw[<-R2 s (by omega),qa,getElem?_set_ne (by omega),<-qa]
   rw[m9,dT,xB,Nat.pow_succ]
   exact mc Ih qX
  intro h7 h8
  have uV:=EA (by omega)
  obtain⟨cc,qX⟩:=ax (c'+(z+y))
  have xz:(z:Int)+(c':Int)=(cc:Int):=by omega
  have jv:(cc:Int) / 4294967296=((cc / 4294967296:Nat):Int):=by rw[Int.natCast_ediv];rfl
  have Wd:IntKind.u32.wrap (cc:Int)=((cc % 4294967296:Nat):Int):=by rw[df,Int.natCast_emod];rfl
  have m9:=iI (u:=w') (j:=j) (i:=t) (by omega) (cc % 4294967296)
  refine ah (kX h8 hz XM xz jv Wd) ?_
  repeat refine ae ?_
  refine aw (t+1,cc / 4294967296,w'.set (j+t) (cc % 4294967296)) ?_ ⟨by omega,by omega,by simp[abG],Ou.set _ (Nat.mod_lt _ (by decide)),?_,?_⟩
  .exact gm [0]
  .intro s BU
   rw[<-R2 s (by omega),qa,getElem?_set_ne (by omega),<-qa]
  rw[m9,dT,xB,Nat.pow_succ]
  exact mc Ih qX
 intro h5 h6
 have htn:t=n+1:=by omega
 subst htn
 rw[Eb] at Ih
 have Pr:=vL hVM kZ su Ab gK Ih (sB Ou _ _)
 have qM:=vO Pr.1 Pr.2
 have ct:=yS (u:=u) (x:=fg u j (n+1) % val v) (by omega) Ou (by omega) (fun s BU=>by rw[R2 s BU,ph s BU]) qM.2
 have RS:(g:Int) - 1=((g - 1:Nat):Int):=by omega
 have We:IntKind.u32.wrap ((g - 1:Nat):Int)=((g - 1:Nat):Int):=cQ (by omega)
 refine ah (bB h6 RS We) ?_
 refine RetOK.lent rfl ⟨b',b'⟩ (by rw[ct]) ?_ rfl
 rw[<-qM.1]
 rfl
theorem yX {x y:Nat}:nk x y<0↔x<y:=by
 unfold nk;split
 .omega
 split<;>omega
theorem cR (n:Nat):N n= .sl (u32s (ai n)):=rfl
theorem aeG (a b:List Nat) (ha:Dig a) (hb:Dig b) (uR:a.length<10000000000) (x8:b.length<10000000000) (h0:val b=0):
 Den Tryz.prog 166 [] [.fv (.sl (u32s a)),.fv (.sl (u32s b))] [] (.tup [.fv (N 0),.fv (N 0),.int .i64 3]):=by
 refine dq Tryz.func166 84 0 ?_
 refine aW ?_
 refine gp (eX a ha (by omega)) rfl ?_
 refine a9 ?_
 refine gp (eX b hb (by omega)) rfl ?_
 have Pw:(ai 0).length=0:=by rw[bk];rfl
 have vB:((0:Nat):Int)=0:=rfl
 have nI:((0:Int)==0)=true:=rfl
 refine ah (gn @cR h0 Pw vB nI) ?_
 refine bc ?_
 refine o_ ?_
 simp[N,bk,u32s]
theorem LA (a b:List Nat) (ha:Dig a) (hb:Dig b) (uR:a.length<10000000000) (x8:b.length<10000000000) (h0:val b≠0):
 Den Tryz.prog 166 [] [.fv (.sl (u32s a)),.fv (.sl (u32s b))] [] (.tup [.fv (N (val a / val b)),.fv (N (val a % val b)),.int .i64 0]):=by
 have Wg:=aD (bD ha)
 have Km:=aD (bD hb)
 have afG:(ai (val b)).length≠0:=fun h=>h0 (fE h)
 refine dq Tryz.func166 84 0 ?_
 refine aW ?_
 refine gp (eX a ha (by omega)) rfl ?_
 refine a9 ?_
 refine gp (eX b hb (by omega)) rfl ?_
 have hz:(((ai (val b)).length:Int)==0)=false:=by rw[qx];omega
 refine ah (a8 @cR hz) ?_
 refine gp (Lz (ai (val a)) (ai (val b)) (al _) (al _) (by omega) (by omega)) rfl ?_
 refine ah @aj ?_
 refine bK ?_ ?_
 .intro h1 h2
  rw[yX] at h1
  refine ah h2 ?_
  refine bc ?_
  refine o_ ?_
  rw[Nat.div_eq_of_lt h1,Nat.mod_eq_of_lt h1]
  simp[N,bk,u32s]
 intro h1 h2
 rw[yX] at h1
 refine ah h2 ?_
 refine Br.beqInt ?_ ?_
 .intro h3 h4
  obtain⟨d,hd⟩: ∃ d,ai (val b)=[d]:=length_eq_one_iff.1 (by omega)
  have hbv:val b=d:=by rw[<-aj (val b),hd];simp[val]
  have yC:d<4294967296:=by have:=al (val b);rw[hd] at this;exact this d (by simp)
  have su:(u32s [d]).getD 0 []=[FV.lit (Value.int .u32 d)]:=rfl
  have gJ:0<d:=by omega
  have dN:=Nat.mod_lt (val a) gJ
  have h93:=Zu (ai (val a)) d (al _) (by omega) yC gJ
  rw[aj] at h93
  refine ah (bB h4 hd su) ?_
  refine⟨by simp,?_⟩
  refine aM h93 ?_
  obtain⟨r,hr⟩:=ax (val a % d)
  rw[hr] at dN
  have EG:=eX [r] (Dig.mk (by simp only[B];omega) Dig.nil) (by simp)
  have hvr:val [r]=r:=by simp[val]
  rw[hvr] at EG
  refine ah hr ?_
  refine gp EG ?_ ?_
  .rfl
  refine a9 ?_
  refine bc ?_
  exact j8 (a8 hbv hr)
 intro h3 h4
 have cX:(ai (val b)).length<=(ai (val a)).length:=cq (by omega)
 obtain⟨n,hn⟩: ∃ n,(ai (val b)).length=n+1:=⟨(ai (val b)).length - 1,by omega⟩
 have uU:=GQ hn
 have KV:=(al (val b)).getD n
 simp only[B] at KV
 obtain⟨top,ht⟩:=ax ((ai (val b)).getD n 0)
 rw[ht] at uU KV
 have jd:(((n+1:Nat):Int) - 1).toNat=n:=by omega
 refine ah h4 ?_
 refine wl (α:=Nat) (fun s=>⟨[.fv (N (val a)),.fv (N (val b)),.any,.any,.nilsl,.nilsl,.any,.any,.any,.int .i64 s]++replicate 76 .any,[]⟩)
  (fun s=>32 - s) (fun s=>s<32/\top*2^s<4294967296) 0 ?_ ?_ ?_
 .refine fW [] ?_ ?_
  .simp[bO,eT,cJ,aU,N]
  trivial
 .exact⟨by omega,by simpa using KV⟩
 rintro s ⟨hs,dD⟩
 have yE:(s<=32)=True:=by simp;omega
 have Ko:IntKind.u64.wrap (s:Int)=(s:Int):=dA (by omega)
 obtain⟨w,hw⟩:=ax (top*2^s)
 have hwi:(top:Int)*2^s=(w:Int):=by rw[<-hw,Int.natCast_mul,Int.natCast_pow];rfl
 rw[hw] at dD
 have hww:IntKind.u32.wrap (w:Int)=(w:Int):=cQ (by omega)
 refine cz (bU @cR hn jd ht yE Ko hwi hww) ?_
 repeat refine ae ?_
 refine bK ?_ ?_
 .intro h5 h6
  refine ah h6 ?_
  have ajX:=Lp uU (by rw[hw];omega:top*2^s<2147483648)
  refine aw (s+1) ?_ ⟨by omega,by rw[Nat.pow_succ,<-Nat.mul_assoc,hw];omega⟩
  refine fW [] ?_ ?_
  .simp[bO,eT,cJ,aU,N]
  trivial
 intro h5 h6
 refine ah h6 ?_
 have yH:=vN (k:=s) hn ht (by omega) (by rw[hw];omega) (by rw[hw];omega)
 obtain⟨V,hV⟩:=ax (val b*2^s)
 rw[hV] at yH
 obtain⟨la,R3⟩: ∃ t,(ai (val a)).length=t:=⟨_,rfl⟩
 have abI:=Tq (ai (val a)) s (al _) (by omega) hs
 have abJ:=Tq (ai (val b)) s (al _) (by omega) hs
 rw[aj,R3] at abI
 rw[aj,hn,hV] at abJ
 have EG:=eX (gG (n+1+1) V) (jH _ _) (by rw[cC];omega)
 have hVd:val (gG (n+1+1) V)=V:=by
  apply jI;have:=bG (n:=V);rw[yH.1] at this;exact Nat.lt_of_lt_of_le this (Nat.pow_le_pow_right (by decide) (by omega))
 rw[hVd] at EG
 have hua:val (gG (la+1) (val a*2^s))=val a*2^s:=by
  apply jI;rw[Nat.pow_succ];have:=bG (n:=val a);rw[R3] at this;exact Nat.mul_lt_mul'' this (Nat.lt_of_lt_of_le (Nat.pow_lt_pow_right (by decide) hs) (by decide))
 obtain⟨v,hv⟩:=ax (ai V)
 have yF:Dig v:=by rw[<-hv];exact al _
 have Oj:val v=V:=by rw[<-hv,aj]
 rw[hv] at yH
 have hlm:((la:Int) - ((n+1:Nat):Int)+1).toNat=la - n:=by omega
 obtain⟨m,hm⟩:=ax (la - n)
 refine aM abI ?_
 refine a9 ?_
 refine aM abJ ?_
 refine a9 ?_
 refine gp EG ?_ ?_
 .simp[bH,eS,dS,dI,aJ,cC]
  rw[dm (by simp[aJ,cC])]
 simp -dsimp(disch:=omega) only[cR,hv,R3,hn,hlm,hm,IntKind.bits,Int.reduceToNat,Int.reducePow,Option.isNone_none,↓reduceIte,reduceCtorEq,reduceAdd,reduceMul,reduceSub,Nat.reduceBEq,reduceEqDiff,reduceLT,reduceLeDiff,ru]
 refine⟨by omega,?_⟩
 refine wl (α:=Nat×List Nat×List Nat) (fun⟨j1,qd,u⟩=>⟨[.any,.any,.any,.any,.nilsl,.nilsl,.any,.any,.any,.int .i64 s,.lsl 0 0 (la+1) 1,.fv (.sl (u32s v)),.lsl 1 0 m 1,.int .i64 ((j1:Int) - 1)]++replicate 72 .any,[.row true (u32s u),.row true (u32s qd)]⟩)
  (fun⟨j1,_,_⟩=>j1) (fun⟨j1,qd,u⟩=>j1<=m/\u.length=la+1/\qd.length=m/\Dig u/\Dig qd/\val (u.drop j1)<val v/\val u+val v*(B^j1*val (qd.drop j1))=val a*2^s) (m,replicate m 0,gG (la+1) (val a*2^s)) ?_ ?_ ?_
 .exact gm [0,2]
 .refine⟨qp _,cC _ _,by simp,jH _ _,Dig.zeros,?_,?_⟩
  .rw[<-gO (jH _ _) (by rw[cC];omega),hua]
   have h7:=aH v n
   rw[aN (by omega)] at h7
   have h8:=bG (n:=val a)
   rw[R3] at h8
   refine vM (x:=val a*2^s) (P:=val a) (T:=2147483648) (K:=2^s) (Bn:=B^n) (Bl:=B^la) h8 (Nat.pow_le_pow_right (by decide) (show s<=31 by omega)) ?_ ?_ rfl (by decide) (IB (by decide))
   .rw[h7,Nat.mul_comm]
    exact ka (Nat.mul_le_mul_left _ yH.2) (Nat.le_add_left _ _)
   rw[<-Nat.pow_add,show n+m=la by omega]
  rw[hua,List.drop_of_length_le (by simp)]
  simp[val]
 rintro⟨j1,qd,u⟩ ⟨XJ,tC,Pq,x9,XK,aG,bj⟩
 refine aW ?_
 refine bK ?_ ?_
 .intro h7 h8
  obtain⟨j,rfl⟩: ∃ j,j1=j+1:=⟨j1 - 1,by omega⟩
  have BS:((j+1:Nat):Int) - 1=(j:Int):=by omega
  have o5:((j:Nat):Int).toNat=j:=by omega
  have LH:=sC (j:=j) x9 yF yH.1 (by omega) (by omega) aG
  have cY:0<val v:=by omega
  have h95:=Zx u v j (n+1) x9 yF yH.1 (by omega) (by omega) (by omega) yH.2 aG
  have tD:=Nat.mod_lt (fg u j (n+1+1)) cY
  have hVB:val v<=B^(n+1+1):=by
   have h9:=bD yF;rw[yH.1] at h9;exact ka (Nat.le_of_lt h9) (Nat.pow_le_pow_right (by decide) (by omega))
  have R4:=EP (u:=u) (j:=j) (m:=n+1+1) (x:=fg u j (n+1+1) % val v) (by omega) (Nat.lt_of_lt_of_le tD hVB)
  have Ec:=yf (u:=u) (j:=j) (m:=n+1+1) (x:=fg u j (n+1+1) % val v) (by omega)
  have hpd:=EO (j:=j) (m:=n+1+1) (x:=fg u j (n+1+1) % val v) x9
  have qQ: ∀ t,(t<j\/j+(n+1+1)<=t)->(i7 u j (n+1+1) (fg u j (n+1+1) % val v)).getD t 0=u.getD t 0:=fun t R5=>Cc (by omega) R5
  have hgB:fg u j (n+1+1) / val v<4294967296:=by
   rw[Nat.div_lt_iff_lt_mul cY,Nat.mul_comm];exact LH.lt
  have qM:=Nat.mod_add_div (fg u j (n+1+1)) (val v)
  rw[Nat.mul_comm] at qM
  obtain⟨w,hw4⟩:=ax (i7 u j (n+1+1) (fg u j (n+1+1) % val v))
  obtain⟨g,hg⟩:=ax (fg u j (n+1+1) / val v)
  rw[hw4] at R4 Ec hpd qQ
  rw[hg] at hgB qM
  rw[hw4,hg,tC] at h95
  rw[<-R4] at qM tD
  have hr:=pT (u:=u) (u4:=w) (qd:=qd) (j:=j) (n:=n+1) (g:=g) (V:=val v) Ec (by omega) (by omega) qQ LH.tail qM tD bj
  refine ah (a8 h8 BS) ?_
  refine d6 0 h95 trivial ?_
  have pL:shutBs [Ob.row true (u32s u),Ob.row true (u32s qd)] 0 [PV.lsl 0 0 (la+1) 1,PV.fv (FV.sl (u32s v)),PV.int IntKind.i64 (j:Int)]=[Ob.row true (u32s u),Ob.row true (u32s qd)]:=rfl
  refine ah (bB BS pL @List.append_nil.{0}) ?_
  repeat refine ae ?_
  refine aw (j,qd.set j g,w) ?_ ⟨by omega,by omega,by simp[Pq],hpd,XK.set _ (by simp only[B];omega),hr.2,hr.1⟩
  exact gm [0,1]
 intro h7 h8
 have BS:j1=0:=by omega
 subst BS
 rw[List.drop_zero] at aG
 rw[List.drop_zero,Nat.pow_zero,Nat.one_mul] at bj
 have xC:=Cb (Oj.trans hV.symm) (Nat.two_pow_pos s) bj aG
 refine ah h8 ?_
 refine gp (eX qd XK (by omega)) ?_ ?_
 .simp[bH,eS,dS,dI,aJ,Pq]
  rw[dm (by simp[aJ,Pq])]
 refine a9 ?_
 refine gp (Zw u s x9 (by omega) hs) ?_ ?_
 .simp[bH,eS,dS,dI,aJ,tC]
  rw[dm (by simp[aJ,tC])]
 refine a9 ?_
 refine bc ?_
 rw[xC.1,xC.2]
 exact D7
theorem Zy (a b:List Nat) (ha:Dig a) (hb:Dig b) (uR:a.length<10000000000) (x8:b.length<10000000000):
 Den Tryz.prog 165 [] [.fv (.sl (u32s a)),.fv (.sl (u32s b))] [] (.fv (N (Nat.gcd (val a) (val b)))):=by
 have Wg:=aD (bD ha)
 have Km:=aD (bD hb)
 refine dq Tryz.func165 23 0 ?_
 refine aW ?_
 refine gp (eX a ha (by omega)) rfl ?_
 refine a9 ?_
 refine gp (eX b hb (by omega)) rfl ?_
 refine ah @cR ?_
 generalize hg:Nat.gcd (val a) (val b)=g
 refine wl (α:=Nat×Nat) (fun⟨x,y⟩=>⟨.fv (.sl (u32s (ai x))):: .fv (.sl (u32s (ai y))):: .any:: .any:: .nilsl::replicate 20 .any,[]⟩)
  (fun⟨_,y⟩=>y) (fun⟨x,y⟩=>(ai x).length<10000000000/\(ai y).length<10000000000/\Nat.gcd x y=g) (val a,val b) ?_ ?_ ?_
 .exact gm []
 .exact⟨by omega,by omega,hg⟩
 rintro⟨x,y⟩ ⟨hx,hy,EB⟩
 refine aW ?_
 refine bK ?_ ?_
 .intro h5 h6
  have uV:y≠0:=fun h=>by rw[h,bk] at h5;simp at h5
  have h80:=LA (ai x) (ai y) (al _) (al _) hx hy (by rw[aj];exact uV)
  rw[aj,aj,cR,cR] at h80
  refine ah h6 ?_
  refine aM h80 ?_
  refine a9 ?_
  have aG:=Nat.mod_lt x (Nat.pos_of_ne_zero uV)
  refine ap (y,x % y) (by exact aG) ?_ ⟨hy,GH (cq (Nat.le_of_lt aG)) hy,?_⟩
  .exact gm []
  rw[<-EB,Nat.gcd_comm y,<-Nat.gcd_rec,Nat.gcd_comm]
 intro h5 h6
 have uV:y=0:=fE (by omega)
 subst uV
 refine ah h6 ?_
 refine bc ?_
 rw[Nat.gcd_zero_right] at EB
 refine tA EB ?_
 rfl
theorem IK {s:Bool} {n d:Nat} (hd:d≠0):FR (f2 s n d)= .agg [.bool (s&&decide (((ai (n / Nat.gcd n d)).length:Int)>0)),.fv (N (n / Nat.gcd n d)),.fv (N (d / Nat.gcd n d))]:=by
 by_cases hn:n=0
 .subst hn;rw[lh rfl,FR,Aj,Nat.gcd_zero_left,Nat.zero_div,Nat.div_self (by omega)];have h1:ai 1=[1]:=ld (l:=[1]) (fun d hd=>by simp at hd;subst hd;decide) (Or.inr (by decide));unfold N Raw.v;rw[bk,h1];simp[u32s]
 obtain⟨h1,h2,h3⟩:=yU (s:=s) hn hd;rw[a_,h1,h2,h3];have h4:n / Nat.gcd n d≠0:=by
  have:=Nat.div_pos (Nat.le_of_dvd (by omega) (Nat.gcd_dvd_left n d)) (Nat.gcd_pos_of_pos_left d (by omega));omega
 have h5:((ai (n / Nat.gcd n d)).length:Int)≠0:=fun h=>h4 (dt.1 h)
 rw[iK (show((ai (n / Nat.gcd n d)).length:Int)>0 by omega),Bool.and_true]
theorem vR (s:Bool) (n d:List Nat) (hn:Dig n) (hd:Dig d) (jF:n.length<10000000000) (sr:d.length<10000000000) (gJ:val d≠0):
 Den Tryz.prog 99 [] [.bool s,.fv (.sl (u32s n)),.fv (.sl (u32s d))] [] (FR (f2 s (val n) (val d))):=by
 have Pt:=aD (bD hd)
 have BT:Nat.gcd (val n) (val d)<=val d:=Nat.le_of_dvd (by omega) (Nat.gcd_dvd_right _ _)
 have su:Nat.gcd (val n) (val d)≠0:=by
  have:=Nat.gcd_pos_of_pos_right (val n) (show 0<val d by omega);omega
 have ux:=cq BT
 have KW:=Zy n d hn hd jF sr
 rw[IK gJ]
 obtain⟨g,hg⟩:=ax (Nat.gcd (val n) (val d))
 rw[hg] at KW su ux ⊢
 have R6:=LA n (ai g) hn (al _) jF (by omega) (by rw[aj];exact su)
 have Wn:=LA d (ai g) hd (al _) sr (by omega) (by rw[aj];exact su)
 rw[aj] at R6 Wn
 obtain⟨x,hx⟩:=ax (val n / g)
 rw[cR] at KW
 rw[hx,cR x] at R6 ⊢
 cases s
 .refine dq Tryz.func99 37 0 ?_
  refine aW ?_
  refine aM KW ?_
  refine a9 ?_
  refine aM R6 ?_
  refine a9 ?_
  refine aM Wn ?_
  refine a9 ?_
  refine bc rfl
 refine dq Tryz.func99 37 0 ?_
 refine aW ?_
 refine aM KW ?_
 refine a9 ?_
 refine aM R6 ?_
 refine a9 ?_
 refine aM Wn ?_
 refine a9 ?_
 refine bc rfl
theorem kg (r:Raw) (hr:r.Ok 5000000000):Den Tryz.prog 92 [] [r.v] [] (FR r.q):=by
 have EG:=eX r.den hr.den (by have:=hr.lden;omega);rw[cR] at EG;by_cases h0:val r.den=0
 .have hq:r.q=0:=vP h0;rw[h0,bk] at EG;rw[hq,FR,Aj];unfold Raw.v;have hz:(((0:Nat):Int)==0)=true:=rfl;have hl:(u32s []).length=0:=rfl;have nI:([]:List Nat).length=0:=rfl;refine dq Tryz.func92 16 0 ?_;refine aW ?_;refine aM EG ?_;refine ah (bB hl nI hz) ?_;refine bc rfl
 have vC:=vR r.neg r.num r.den hr.num hr.den (by have:=hr.lnum;omega) (by have:=hr.lden;omega) h0;change Den Tryz.prog 99 [] _ [] (FR r.q) at vC;have hz:(((ai (val r.den)).length:Int)==0)=false:=by rw[qx];exact fun h=>h0 (dt.1 h)
 rw[a_] at vC ⊢;unfold Raw.v;refine dq Tryz.func92 16 0 ?_;refine aW ?_;refine aM EG ?_;refine ah hz ?_;refine aM vC ?_;refine a9 ?_;refine bc rfl
theorem kh (r:Raw) (hr:r.Ok 5000000000):Den Tryz.prog 41 [] [r.v] [] (.int .i64 (eg r.q)):=by
 have kN:=kg r hr;rw[a_] at kN;unfold Raw.v at kN ⊢;obtain⟨n,hn⟩:=ax r.q.num.natAbs;rw[hn,cR] at kN;refine dq Tryz.func41 10 0 ?_;refine aW ?_;refine aM kN ?_;refine a9 ?_;refine Br.beqInt ?_ ?_
 .intro h1 h2;have hs:=Cd (hn.trans (dt.1 h1));refine ah h2 ?_;refine bc ?_;exact j8 hs
 intro h1 h2;refine ah h2 ?_;refine bK ?_ ?_
 .intro h3 h4;have hs:=vc h3;refine ah h4 ?_;refine bc ?_;exact j8 hs
 intro h3 h4;have hs:=Al (q:=r.q) (fun h=>h1 (dt.2 (hn.symm.trans h))) h3;refine ah h4 ?_;refine bc ?_;exact j8 hs
theorem Tr (r:Raw) (hr:r.Ok 5000000000):Den Tryz.prog 159 [] [r.v] [] (FR (-r.q)):=by
 have kN:=kg r hr;rw[a_] at kN;rw[Lw];unfold Raw.v at kN ⊢;obtain⟨n,hn⟩:=ax r.q.num.natAbs;obtain⟨s,hs⟩:=ax (decide (r.q.num<0));obtain⟨d,hd⟩:=ax (N r.q.den);rw[hn,hs,hd,cR] at kN;rw[hn,hs,hd,cR];refine dq Tryz.func159 15 0 ?_;refine aW ?_;refine aM kN ?_;cases s
 .have e1:(!false)=true:=rfl;simp -dsimp(disch:=omega) only[e1,IntKind.bits,Int.reduceToNat,Int.reducePow,Option.isNone_none,↓reduceIte,reduceCtorEq,reduceAdd,reduceMul,reduceSub,Nat.reduceBEq,reduceEqDiff,reduceLT,reduceLeDiff,ru];refine bc rfl
 have e1:(!true)=false:=rfl;simp -dsimp(disch:=omega) only[e1,IntKind.bits,Int.reduceToNat,Int.reducePow,Option.isNone_none,↓reduceIte,reduceCtorEq,reduceAdd,reduceMul,reduceSub,Nat.reduceBEq,reduceEqDiff,reduceLT,reduceLeDiff,ru];refine bc rfl
end Go.Proofs.YtiaaceeelfhdlaaGreat
