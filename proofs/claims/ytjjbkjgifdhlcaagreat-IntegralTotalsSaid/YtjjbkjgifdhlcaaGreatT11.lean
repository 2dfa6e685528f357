/- Contracts:math/bits.Len32,LeadingZeros32. -/
import Derived.Test.YtjjbkjgifdhlcaaGreatT10
import Derived.Lib.Tables
import Derived.Test.YtjjbkjgifdhlcaaGreatT8
import Derived.Test.YtjjbkjgifdhlcaaGreatT1
set_option linter.all false
open List (getElem?_eq_none getElem?_set_ne getElem?_take length_drop length_eq_one_iff length_take nodup_nil replicate take_succ_eq_append_getElem)
namespace Go.Proofs.YtjjbkjgifdhlcaaGreat
open Go.AM Go.Pl
set_option maxRecDepth 100000
set_option maxHeartbeats 1000000
def eA (n:Nat):Nat:=if n=0 then 0 else Nat.log2 n+1
theorem FK: ∀ n:Fin 256,(((Lib.len8tab[n.val]?).getD 0).toNat:Nat)=eA n.val:=by decide+kernel
theorem nC {s:ByteArray}:PV.ofValue (.string s)= .fv (.lit (.string s)):=rfl
theorem FM:(⟨List.toArray (List.append (List.append [0,1,2,2,3,3,3,3,4,4,4,4,4,4,4,4,5,5,5,5,5,5,5,5,5,5,5,5,5,5,5,5,6,6,6,6,6,6,6,6,6,6,6,6,6,6,6,6,6,6,6,6,6,6,6,6,6,6,6,6,6,6,6,6] [7,7,7,7,7,7,7,7,7,7,7,7,7,7,7,7,7,7,7,7,7,7,7,7,7,7,7,7,7,7,7,7,7,7,7,7,7,7,7,7,7,7,7,7,7,7,7,7,7,7,7,7,7,7,7,7,7,7,7,7,7,7,7,7]) (List.append [8,8,8,8,8,8,8,8,8,8,8,8,8,8,8,8,8,8,8,8,8,8,8,8,8,8,8,8,8,8,8,8,8,8,8,8,8,8,8,8,8,8,8,8,8,8,8,8,8,8,8,8,8,8,8,8,8,8,8,8,8,8,8,8] [8,8,8,8,8,8,8,8,8,8,8,8,8,8,8,8,8,8,8,8,8,8,8,8,8,8,8,8,8,8,8,8,8,8,8,8,8,8,8,8,8,8,8,8,8,8,8,8,8,8,8,8,8,8,8,8,8,8,8,8,8,8,8,8]))⟩:ByteArray)=Lib.len8tab:=by kernel_rfl
theorem Qn {n:Nat} (h:1<=n):eA n=1+eA (n / 2):=by
 unfold eA;rw[if_neg (by omega),Nat.log2_def];split
 .rw[if_neg (by omega)];omega
 have:n / 2=0:=by omega
 rw[if_pos this]
theorem s6 {n:Nat} (k:Nat) (h:2^k<=n):eA n=k+eA (n / 2^k):=by
 induction k generalizing n with
 | zero=>simp
 | succ k ih=>
  have hk:=Nat.two_pow_pos k;rw[Nat.pow_succ] at h ⊢;rw[Qn (by omega),ih (n:=n / 2) (by omega),Nat.div_div_eq_div_mul,Nat.mul_comm 2];omega
theorem ZK (x:Nat) (hx:x<4294967296):Den Tryz.prog 244 [] [.int .u32 x] [] (.int .i64 (eA x:Int)):=by
 have h8: ∀ n:Nat,n<256->(((Lib.len8tab[n]?).getD 0).toNat:Nat)=eA n:=fun n hn=>FK ⟨n,hn⟩
 have dQ:Lib.len8tab.size=256:=Lib.len8tab_size;have fin: ∀ (b y:Nat),y<256->b<=24->eA x=b+eA y->eA y<100->True:=fun _ _ _ _ _ _=>trivial
 have hb8: ∀ n:Nat,n<256->eA n<=8:=by
  intro n hn;have: ∀ m:Fin 256,eA m.val<=8:=by decide+kernel
  exact this ⟨n,hn⟩
 refine dq Tryz.func244 18 0 ?_;refine aW ?_;refine bM ?_ ?_
 .intro h1 h2;have e1:=s6 (n:=x) 16 (by omega);have c1:(x:Int) / 65536=((x / 65536:Nat):Int):=by rw[Int.natCast_ediv];rfl
  have e1':eA x=16+eA (x / 65536):=e1;have hy:x / 65536<65536:=by omega
  generalize x / 65536=y at*;refine ae (aB h2 c1) ?_;refine⟨by omega,?_⟩;refine bM ?_ ?_
  .intro h3 h4;have e2:eA y=8+eA (y / 256):=s6 (n:=y) 8 (by omega);have c2:(y:Int) / 256=((y / 256:Nat):Int):=by rw[Int.natCast_ediv];rfl
   have hz:y / 256<256:=by omega
   generalize y / 256=z at*;have:=hb8 z hz;refine ae (fO h4 c2 @FM @nC h8) ?_;refine⟨by omega,by rw[dQ];omega,?_⟩;refine a_ ?_;refine sA ?_;rw[e1',e2];simp;omega
  intro h3 h4;have:=hb8 y (by omega);refine ae (dR h4 @FM @nC h8) ?_;refine⟨by rw[dQ];omega,?_⟩;refine a_ ?_;refine sA ?_;rw[e1'];simp
 intro h1 h2;refine ae h2 ?_;refine bM ?_ ?_
 .intro h3 h4;have e2:eA x=8+eA (x / 256):=s6 (n:=x) 8 (by omega);have c2:(x:Int) / 256=((x / 256:Nat):Int):=by rw[Int.natCast_ediv];rfl
  have hz:x / 256<256:=by omega
  generalize x / 256=z at*;have:=hb8 z hz;refine ae (fO h4 c2 @FM @nC h8) ?_;refine⟨by omega,by rw[dQ];omega,?_⟩;refine a_ ?_;refine sA ?_;rw[e2];simp
 intro h3 h4;have:=hb8 x (by omega);refine ae (dR h4 @FM @nC h8) ?_;refine⟨by rw[dQ];omega,?_⟩;refine a_ ?_;refine sA ?_;simp
theorem Ll {x:Nat} (hx:x<4294967296):eA x<=32:=by
 unfold eA;split
 .omega
 have:x.log2<32:=(Nat.log2_lt (by omega)).2 (by omega);omega
theorem ZL (x:Nat) (hx:x<4294967296):Den Tryz.prog 248 [] [.int .u32 x] [] (.int .i64 ((32 - eA x:Nat):Int)):=by
 have hb:=Ll hx;refine dq Tryz.func248 5 0 ?_;refine aW ?_;refine gp (ZK x hx) rfl ?_;refine aN ?_;refine a_ ?_;refine sA ?_;simp;omega
theorem X9 (l:List Nat) (hl:Dig l) (nk:l.length<=2):Den Tryz.prog 215 [] [.fv (.sl (u32s l))] [] (.int .u64 ((val l:Nat):Int)):=by
 refine dq Tryz.func215 21 0 ?_;refine aW ?_;refine wl (α:=Nat) (fun i=>⟨.fv (.sl (u32s l)):: .any:: .fv (.lit (.int .u64 0)):: .int .u64 ((val (l.take i):Nat):Int):: .any:: .any:: .fv (.sl (u32s l)):: .int .i64 l.length:: .int .i64 i::replicate 13 .any,[]⟩)
  (fun i=>l.length - i) (fun i=>i<=l.length) 0 ?_ ?_ ?_
 .refine eH [] ?_ ?_
  .simp[bh,dF,cw,val]
  trivial
 .omega
 intro i hi;refine aW ?_;refine bM ?_ ?_
 .intro h1 h2;have hx:=hl.getD i;have eO:=aO l i;have hvt:=bZ (hl.take i);rw[length_take,Nat.min_eq_left hi] at hvt;simp only[B] at hx;have iR:i=0\/i=1:=by omega
  rcases iR with rfl | rfl
  .generalize Fb:l.getD 0 0=x at*;have ht0:val (l.take 0)=0:=by simp[val]
   rw[ht0] at eO ⊢;refine ae (fO Fb @xd @Int.natCast_zero @Int.mul_zero @Int.toNat_zero) ?_;refine⟨by omega,by omega,?_⟩;refine aA 1 ?_ (by omega);refine eH [] ?_ ?_
   .have:(x:Int)=((val (l.take 1):Nat):Int):=by rw[eO];simp
    simp[bh,dF,cw,<-this]
   trivial
  generalize Fb:l.getD 1 0=x at*;generalize val (l.take 1)=v at*;have hv:v<4294967296:=by simpa using hvt
  refine ae (dR Fb @X6 @Int.natCast_one @Int.mul_one) ?_;refine⟨by omega,by omega,?_⟩;refine aA 2 ?_ (by omega);refine eH [] ?_ ?_
  .have:(v:Int)+x*4294967296=((val (l.take 2):Nat):Int):=by rw[eO];simp[B,Int.mul_comm]
   simp[bh,dF,cw,<-this]
  trivial
 intro h1 h2;refine ae h2 ?_;have dJ:i=l.length:=by omega
 refine a_ ?_;refine sA ?_;rw[dJ,a8 (qp _)]
end Go.Proofs.YtjjbkjgifdhlcaaGreat
namespace Go.Pl
theorem y_ {w v first low top vl P:Nat} (_:0<P) (hw:w=first*P+low) (hl:low<P) (hv:v=top*P+vl) {q:Nat} (hq:q*v<=w):q*top<=first:=by
 have h1:q*top*P<=q*v:=by
  rw[hv,Nat.mul_add,Nat.mul_assoc];exact Nat.le_add_right _ _
 have h2:q*top*P<(first+1)*P:=by
  rw[Nat.add_mul,Nat.one_mul];omega
 have:=Nat.lt_of_mul_lt_mul_right h2;omega
theorem UA {w v w2 v2 lw lv Q g:Nat} (hw:w=w2*Q+lw) (hv:v=v2*Q+lv) (hl:lv<Q) (hg:g*v2<=w2) (pN:g<=v2):(g - 1)*v<=w:=by
 rcases Nat.eq_zero_or_pos g with h0 | h0
 .subst h0;simp
 obtain⟨k,rfl⟩: ∃ k,g=k+1:=⟨g - 1,by omega⟩;rw[Nat.add_sub_cancel,hw,hv];have h1:k*lv<=k*Q:=Nat.mul_le_mul_left _ (by omega);have h2:(k+1)*v2*Q<=w2*Q:=qn _ hg;have h3:k*Q<=v2*Q:=qn _ (by omega);have h4:(k+1)*v2*Q=k*(v2*Q)+v2*Q:=by grind
 rw[Nat.mul_add];omega
structure xe (first top q g r:Nat):Prop where
 sum:g*top+r=first
 low:q<=g
theorem FO {first top q:Nat} (ht:0<top) (h:q*top<=first):xe first top q (first / top) (first % top):=
 ⟨by have:=Nat.div_add_mod first top;rw[Nat.mul_comm] at this;exact this,(Nat.le_div_iff_mul_le ht).2 h⟩
theorem yy {first top q g r:Nat} (h:xe first top q g r) (aL:q<g):xe first top q (g - 1) (r+top):=by
 obtain⟨k,rfl⟩: ∃ k,g=k+1:=⟨g - 1,by omega⟩;refine⟨?_,by omega⟩;have:=h.sum;rw[Nat.add_mul,Nat.one_mul] at this;rw[Nat.add_sub_cancel];omega
theorem Lm {w v w2 first u2 top second lw lv Q q g r:Nat} (hQ:0<Q) (hw:w=w2*Q+lw) (hlw:lw<Q) (hw2:w2=first*4294967296+u2) (hv:v=(top*4294967296+second)*Q+lv) (hq:q*v<=w)
 (h:xe first top q g r) (ht:r*4294967296+u2<g*second):q<g:=by
 rcases Nat.lt_or_ge q g with h1 | h1
 .exact h1
 exfalso
 have h2:=y_ hQ hw hlw hv hq
 have h3:g*(top*4294967296+second)<=q*(top*4294967296+second):=qn _ h1
 have h4:=h.sum
 have h5:g*(top*4294967296+second)=(g*top)*4294967296+g*second:=by grind
 omega
theorem q' {first u2 top second g r q:Nat} (h:xe first top q g r) (ht:g*second<=r*4294967296+u2):g*(top*4294967296+second)<=first*4294967296+u2:=by
 have h4:=h.sum;have h5:g*(top*4294967296+second)=(g*top)*4294967296+g*second:=by grind
 omega
theorem D5 {first top second g r q:Nat} (h:xe first top q g r) (hr:4294967296<=r) (hf:first<=top*4294967296+4294967295) (hs:second<4294967296):g<4294967296/\g*second<=r*4294967296:=by
 have h4:=h.sum;have h1:g*top<4294967296*top:=by omega
 have hg:g<4294967296:=Nat.lt_of_mul_lt_mul_right h1;refine⟨hg,?_⟩;have h2:g*second<=r*second:=qn _ (by omega);have h3:r*second<=r*4294967296:=Nat.mul_le_mul_left _ (by omega);exact gD h2 h3
theorem Qo {first top:Nat} (ht:2147483648<=top) (hf:first<=top*4294967296+4294967295):first / top<=4294967297:=by
 have:first / top<4294967298:=by
  rw[Nat.div_lt_iff_lt_mul (by omega)];omega
 omega
end Go.Pl
namespace Go.Pl
open Go.AM
def gh (u:List Nat) (j i:Nat):Nat:=val ((u.drop j).take i)
theorem Je (u:List Nat) (j i:Nat):(u.drop j).getD i 0=u.getD (j+i) 0:=by
 simp[qa,List.getElem?_drop]
theorem uh (u:List Nat) (j:Nat):gh u j 0=0:=by simp[gh,val]
theorem jQ (u:List Nat) (j i:Nat):gh u j (i+1)=gh u j i+B^i*u.getD (j+i) 0:=by
 unfold gh;rw[aO,Je]
theorem jJ {u:List Nat} {j i:Nat} (h:j+i<u.length) (x:Nat):gh (u.set (j+i) x) j (i+1)=gh u j i+B^i*x:=by
 unfold gh;have h1:(u.set (j+i) x).drop j=(u.drop j).set i x:=by
  rw[List.drop_set];rw[if_neg (by omega),Nat.add_sub_cancel_left]
 rw[h1,cR (by rw[length_drop];omega)]
theorem vQ {u:List Nat} (hu:Dig u) (j i:Nat):gh u j i<B^i:=by
 unfold gh;have h:=bZ ((hu.drop j).take i);have h2:((u.drop j).take i).length<=i:=by rw[length_take];omega
 exact Nat.lt_of_lt_of_le h (Nat.pow_le_pow_right (by decide) h2)
theorem Ln {u:List Nat} {j n:Nat} (h:j+n<=u.length):val u=val (u.take j)+B^j*(gh u j n+B^n*val (u.drop (j+n))):=by
 rw[jP u j (by omega)];congr 2;rw[jP (u.drop j) n (by rw[length_drop];omega)];unfold gh;rw[List.drop_drop]
theorem X_ {a c b:Int}:IntKind.u64.wrap (IntKind.u64.wrap (a - c) - b)=(a - c - b) % 18446744073709551616:=by
 rw[sk,sk];omega
theorem FP {a c b:Nat} (ha:a<4294967296) (hc:c<4294967296) (hb:b<=1):
 ∃ d b2:Nat,d<4294967296/\b2<=1/\d+c+b=a+b2*4294967296/\((a:Int) - c - b) % 18446744073709551616 % 4294967296=(d:Int)/\((a:Int) - c - b) % 18446744073709551616 / 9223372036854775808=(b2:Int):=by
 by_cases h:c+b<=a
 .exact⟨a - (c+b),0,by omega,by omega,by omega,by omega,by omega⟩
 exact⟨a+4294967296 - (c+b),1,by omega,by omega,by omega,by omega,by omega⟩
theorem jR {S S0 P g Vt v c b a d b2:Nat} (hv:S+g*Vt=S0+(c+b)*P) (h:d+(c+g*v) % 4294967296+b=a+b2*4294967296):
 S+P*d+g*(Vt+P*v)=S0+P*a+((c+g*v) / 4294967296+b2)*(P*4294967296):=by
 have h1:=Nat.mod_add_div (c+g*v) 4294967296
 generalize (c+g*v) % 4294967296=lo at*
 generalize (c+g*v) / 4294967296=hi at*
 have h2:P*d+P*lo+P*b=P*a+b2*(P*4294967296):=by
  have:=congrArg (P* ·) h;grind
 have h3:P*lo+hi*(P*4294967296)=P*c+g*(P*v):=by
  have:=congrArg (P* ·) h1;grind
 have h4:(c+b)*P=P*c+P*b:=by grind
 have h5:(hi+b2)*(P*4294967296)=hi*(P*4294967296)+b2*(P*4294967296):=by rw[Nat.add_mul]
 rw[h5,Nat.mul_add g]
 omega
theorem FQ {W W1 g V:Nat} (h:W1+g*V=W) (hq:W<(g+1)*V):W1<V:=by
 rw[Nat.add_mul,Nat.one_mul] at hq;omega
theorem za {W W1 W2 g V M c:Nat} (hV:V<=M) (h:W1+g*V=W+M) (hg:0<g) (qX:(g - 1)*V<=W) (eC:W<g*V) (h2:W2+c*M=W1+V) (hW2:W2<M):W2+(g - 1)*V=W/\W2<V:=by
 obtain⟨k,rfl⟩: ∃ k,g=k+1:=⟨g - 1,by omega⟩;rw[Nat.add_sub_cancel] at*;rw[Nat.add_mul,Nat.one_mul] at h eC;have h3:W2+c*M+k*V=W+M:=by omega
 rcases Nat.lt_trichotomy c 1 with hc | hc | hc
 .have:c=0:=by omega
  subst this;omega
 .subst hc;omega
 exfalso;have:2*M<=c*M:=qn _ hc;omega
theorem FT {u:List Nat} {j n:Nat} (h:j+n<=u.length):val (u.drop j)=gh u j n+B^n*val (u.drop (j+n)):=by
 unfold gh;rw[jP (u.drop j) n (by rw[length_drop];omega),List.drop_drop]
theorem uj {u w:List Nat} {j:Nat} (hl:u.length=w.length) (h: ∀ t,j<=t->u.getD t 0=w.getD t 0):u.drop j=w.drop j:=by
 apply List.ext_getElem?;intro i;rw[List.getElem?_drop,List.getElem?_drop];have:=h (j+i) (by omega);by_cases hi:j+i<u.length
 .have hw:j+i<w.length:=by omega
  simp[hi,hw] at this;rw[qb hi,qb hw,this]
 rw[getElem?_eq_none (by omega),getElem?_eq_none (by omega)]
theorem uk {u w:List Nat} {j:Nat} (hl:u.length=w.length) (h: ∀ t,t<j->u.getD t 0=w.getD t 0):u.take j=w.take j:=by
 apply List.ext_getElem?;intro i;rw[getElem?_take,getElem?_take];split
 .have:=h i (by omega);by_cases hi:i<u.length
  .have hw:i<w.length:=by omega
   simp[hi,hw] at this;rw[qb hi,qb hw,this]
  rw[getElem?_eq_none (by omega),getElem?_eq_none (by omega)]
 rfl
theorem ZM {s0 a1 a2 P:Nat}:s0+P*a2+P*4294967296*a1=(a1*4294967296+a2)*P+s0:=by grind
theorem ZN {f P s a:Nat}:f*(P*4294967296)+(s+P*a)=(f*4294967296+a)*P+s:=by grind
theorem Qp {V W f s r t P:Nat} (hk:V=t*P+r) (hr:r<P) (hW:W<V*4294967296) (hf:W=f*P+s):f<=t*4294967296+4294967295:=by
 have h4:V*4294967296<=(t*P+P)*4294967296:=qn _ (by omega);have h5:(t*P+P)*4294967296=(t*4294967296+4294967296)*P:=by grind
 have h6:f*P<(t*4294967296+4294967296)*P:=by omega
 have:=Nat.lt_of_mul_lt_mul_right h6;omega
theorem ZO {d0 d1 V:Nat} (h0:d0<4294967296) (h:d1<V):d0+4294967296*d1<V*4294967296:=by omega
theorem UB {s P x M:Nat} (h:s+P*x<M) (hM:M<=P):x=0:=by
 rcases Nat.eq_zero_or_pos x with h1 | h1
 .exact h1
 exfalso;have:P*1<=P*x:=Nat.mul_le_mul_left _ h1;omega
structure FU (u v:List Nat) (j n:Nat):Prop where
 all:val (u.drop j)=gh u j (n+1)
 tail:val (u.drop (j+n+1))=0
 h1:gh u j (n+1)=(u.getD (j+n) 0*4294967296+u.getD (j+n - 1) 0)*B^(n - 1)+gh u j (n - 1)
 h2:gh u j (n+1)=((u.getD (j+n) 0*4294967296+u.getD (j+n - 1) 0)*4294967296+u.getD (j+n - 2) 0)*B^(n - 2)+gh u j (n - 2)
 v1:val v=v.getD (n - 1) 0*B^(n - 1)+val (v.take (n - 1))
 v2:val v=(v.getD (n - 1) 0*4294967296+v.getD (n - 2) 0)*B^(n - 2)+val (v.take (n - 2))
 lt:gh u j (n+1)<val v*B
 first:u.getD (j+n) 0*4294967296+u.getD (j+n - 1) 0<=v.getD (n - 1) 0*4294967296+4294967295
 l1:val (v.take (n - 1))<B^(n - 1)
 l2:val (v.take (n - 2))<B^(n - 2)
 s1:gh u j (n - 1)<B^(n - 1)
 s2:gh u j (n - 2)<B^(n - 2)
theorem vR {u v:List Nat} {j n:Nat} (hu:Dig u) (hv:Dig v) (hvl:v.length=n) (hn:2<=n) (hj:j+n+1<=u.length) (aL:val (u.drop (j+1))<val v):FU u v j n:=by
 obtain⟨p,rfl⟩: ∃ p,n=p+2:=⟨n - 2,by omega⟩;have hV:=bZ hv;rw[hvl] at hV;have hf:=FT (u:=u) (j:=j) (n:=p+2+1) (by omega);have hd:=ft (l:=u) (j:=j) (by omega);have Iq:u.getD j 0<4294967296:=hu.getD j;have hW:val (u.drop j)<val v*4294967296:=by
  rw[hd];exact ZO Iq aL
 have hW2:val v*4294967296<=B^(p+2+1):=by
  rw[Nat.pow_succ];exact qn _ (Nat.le_of_lt hV)
 have ht:val (u.drop (j+(p+2+1)))=0:=by
  rw[hf] at hW;exact UB hW hW2
 have pO:val (u.drop j)=gh u j (p+2+1):=by
  rw[hf,ht,Nat.mul_zero,Nat.add_zero]
 have c1:p+2 - 1=p+1:=by omega
 have c2:p+2 - 2=p:=by omega
 have c3:j+(p+2) - 1=j+(p+1):=by omega
 have c4:j+(p+2) - 2=j+p:=by omega
 have e1:=jQ u j (p+2);have e2:=jQ u j (p+1);have e3:=jQ u j p;have w1:=aO v (p+1);have w2:=aO v p;have w0:val (v.take (p+1+1))=val v:=a8 (by omega);have DP: ∀ i,B^(i+1)=B^i*4294967296:=fun i=>Nat.pow_succ _ _
 have g1:gh u j (p+2+1)=(u.getD (j+(p+2)) 0*4294967296+u.getD (j+(p+1)) 0)*B^(p+1)+gh u j (p+1):=by
  rw[e1,e2,DP (p+1)];exact ZM
 have k1:val v=v.getD (p+1) 0*B^(p+1)+val (v.take (p+1)):=by
  rw[<-w0,w1,Nat.add_comm,Nat.mul_comm]
 have q1:val (v.take (p+1))<B^(p+1):=by
  have:=bZ (hv.take (p+1));rw[length_take,Nat.min_eq_left (by omega)] at this;exact this
 have q2:val (v.take p)<B^p:=by
  have:=bZ (hv.take p);rw[length_take,Nat.min_eq_left (by omega)] at this;exact this
 refine⟨pO,ht,?_,?_,?_,?_,?_,?_,?_,?_,?_,?_⟩
 .rw[c1,c3];exact g1
 .rw[c2,c3,c4,g1,e3,DP];exact ZN
 .rw[c1];exact k1
 .rw[c1,c2,k1,w2,DP];generalize B^p=P;grind
 .rw[<-pO];exact hW
 .rw[c1,c3];rw[pO] at hW;exact Qp k1 q1 hW g1
 .rw[c1];exact q1
 .rw[c2];exact q2
 .rw[c1];exact vQ hu _ _
 rw[c2];exact vQ hu _ _
theorem s7 {u u4 qd:List Nat} {j n A g V:Nat} (hl:u4.length=u.length) (hjn:j+n+1<=u.length) (hjq:j<qd.length)
 (tR: ∀ t,(t<j\/j+n+1<=t)->u4.getD t 0=u.getD t 0) (Y5:val (u.drop (j+n+1))=0)
 (hW:gh u4 j (n+1)+g*V=gh u j (n+1)) (aL:gh u4 j (n+1)<V) (bK:val u+V*(B^(j+1)*val (qd.drop (j+1)))=A):
 val u4+V*(B^j*val ((qd.set j g).drop j))=A/\val (u4.drop j)<V:=by
 have h1:u4.drop (j+n+1)=u.drop (j+n+1):=uj hl (fun t ht=>tR t (Or.inr ht))
 have h2:u4.take j=u.take j:=uk hl (fun t ht=>tR t (Or.inl ht))
 have h3:=Ln (u:=u) (j:=j) (n:=n+1) (by omega)
 have h4:=Ln (u:=u4) (j:=j) (n:=n+1) (by omega)
 have h5:=FT (u:=u4) (j:=j) (n:=n+1) (by omega)
 rw[show j+(n+1)=j+n+1 by omega] at h3 h4 h5
 rw[h1,Y5] at h4 h5
 rw[Y5] at h3
 rw[Nat.mul_zero,Nat.add_zero] at h3 h4 h5
 have h6:=oy (l:=qd) (j:=j) (x:=g) hjq
 refine⟨?_,by rw[h5];exact aL⟩
 rw[h6,h4,h2,<-bK,h3,<-hW,Nat.pow_succ]
 generalize val (u.take j)=x1
 generalize B^j=x2
 generalize gh u4 j (n+1)=x3
 generalize val (qd.drop (j+1))=x4
 grind
theorem kY {u v:List Nat} {j n g:Nat} (h:FU u v j n) (hg:g<4294967296) (yo:2147483648<=v.getD (n - 1) 0)
 (h2:g*(v.getD (n - 1) 0*4294967296+v.getD (n - 2) 0)<=(u.getD (j+n) 0*4294967296+u.getD (j+n - 1) 0)*4294967296+u.getD (j+n - 2) 0):
 (g - 1)*val v<=gh u j (n+1):=
 UA h.h2 h.v2 h.l2 h2 (by omega)
theorem Ns {S1 S S0 U P g V c b x d b2:Nat} (bn:S1=S+P*d) (mH:U=S0+P*x) (ku:S+g*V=S0+(c+b)*P) (Wm:d+c+b=x+b2*4294967296):
 S1+g*V=U+b2*(P*4294967296):=by
 have h1:P*d+P*c+P*b=P*x+b2*(P*4294967296):=by
  have:=congrArg (P* ·) Wm;grind
 have h2:(c+b)*P=P*c+P*b:=by grind
 omega
theorem oz {S S0 P Vt c z y cc:Nat} (hs:S+c*P=S0+Vt) (nh:c+(z+y)=cc):
 S+P*(cc % 4294967296)+cc / 4294967296*(P*4294967296)=S0+P*z+(Vt+P*y):=by
 have h1:=Nat.mod_add_div cc 4294967296
 have h2:P*(cc % 4294967296)+cc / 4294967296*(P*4294967296)=P*cc:=by
  have:=congrArg (P* ·) h1;grind
 have h3:P*cc=P*c+P*z+P*y:=by rw[<-nh];grind
 have h4:P*c=c*P:=Nat.mul_comm _ _
 omega
theorem D6 {S1 S U S0 P V c z:Nat} (bn:S1=S+P*((z+c) % 4294967296)) (mH:U=S0+P*z) (hs:S+c*P=S0+V):
 S1+(z+c) / 4294967296*(P*4294967296)=U+V:=by
 have h1:=Nat.mod_add_div (z+c) 4294967296
 have h2:P*((z+c) % 4294967296)+(z+c) / 4294967296*(P*4294967296)=P*(z+c):=by
  have:=congrArg (P* ·) h1;grind
 have h3:P*(z+c)=P*z+c*P:=by grind
 omega
theorem Lo {w v g:Nat} (hv:0<v) (h:w / v<=g):w<(g+1)*v:=by
 rw[<-Nat.div_lt_iff_lt_mul hv];omega
theorem sL {l:List Nat} {i k:Nat} (hk:k<=32) (hi:i<l.length):
 (l.getD i 0+l.getD (i+1) 0*4294967296) / 2^k % 4294967296=val (l.drop i) / 2^k % 4294967296:=by
 have h1:=ft hi
 have h2: ∃ r,val (l.drop (i+1))=l.getD (i+1) 0+B*r:=by
  by_cases h:i+1<l.length
  .exact⟨_,ft h⟩
  refine⟨0,?_⟩;rw[List.drop_of_length_le (by omega),qa,getElem?_eq_none (by omega)];rfl
 obtain⟨r,hr⟩:=h2
 have hb:4294967296=2^k*2^(32 - k):=by
  rw[<-Nat.pow_add,show k+(32 - k)=32 by omega]
 rw[h1,hr]
 generalize l.getD i 0=x
 generalize l.getD (i+1) 0=y
 have h3:x+B*(y+B*r)=x+y*4294967296+2^k*(2^(32 - k)*4294967296*r):=by
  have:2^k*(2^(32 - k)*4294967296*r)=(2^k*2^(32 - k))*4294967296*r:=by grind
  rw[this,<-hb];simp only[B];grind
 rw[h3,Nat.add_mul_div_left _ _ (Nat.two_pow_pos k)]
 have h4:2^(32 - k)*4294967296*r=4294967296*(2^(32 - k)*r):=by grind
 rw[h4,Nat.add_mul_mod_self_left]
theorem Cr (i x:Nat):iO (i+1) x=iO i x++[x / B^i % B]:=by
 induction i generalizing x with
 | zero=>simp[iO]
 | succ i ih=>
  rw[iO,ih]
  conv=>rhs;rw[iO]
  rw[Nat.div_div_eq_div_mul,Nat.pow_succ,Nat.mul_comm B];simp
theorem iW {l:List Nat} (hl:Dig l) {i:Nat} (hi:i<=l.length):val l / B^i=val (l.drop i):=by
 rw[jP l i hi];have h:=bZ (hl.take i);rw[length_take,Nat.min_eq_left hi] at h;rw[Nat.add_mul_div_left _ _ (Lb (by decide)),Nat.div_eq_of_lt h,Nat.zero_add]
theorem zb {x P V T K Bn Bm Bl:Nat} (hx:P<Bl) (hK:K<=T) (hV:T*Bn<=V) (hB:Bn*Bm=Bl) (Pd:x=P*K) (hT:0<T) (hm:0<Bm):x / Bm<V:=by
 rw[Nat.div_lt_iff_lt_mul hm,Pd];have h1:P*K<=P*T:=Nat.mul_le_mul_left _ hK;have h2:P*T<Bl*T:=Nat.mul_lt_mul_of_pos_right hx hT;have h3:T*Bn*Bm<=V*Bm:=qn _ hV;have h4:T*Bn*Bm=Bl*T:=by rw[<-hB];grind
 omega
theorem FW {u q a b K V:Nat} (hV:V=b*K) (hK:0<K) (h:u+V*q=a*K) (hu:u<V):q=a / b/\u / K=a % b:=by
 have h1:q=a*K / V:=by rw[<-h,Nat.add_mul_div_left _ _ (by omega),Nat.div_eq_of_lt hu,Nat.zero_add]
 have h2:u=a*K % V:=by rw[<-h,Nat.add_mul_mod_self_left,Nat.mod_eq_of_lt hu]
 constructor
 .rw[h1,hV,Nat.mul_div_mul_right _ _ hK]
 rw[h2,hV,Nat.mul_mod_mul_right,Nat.mul_div_cancel _ hK]
end Go.Pl
namespace Go.Proofs.YtjjbkjgifdhlcaaGreat
open Go.AM Go.Pl
set_option maxRecDepth 100000
set_option maxHeartbeats 4000000
theorem UC (n:Nat):n<2^eA n:=by
 unfold eA;split
 .subst_vars;simp
 exact Nat.lt_log2_self
theorem Qq {n:Nat} (h:n≠0):2^(eA n - 1)<=n:=by
 unfold eA;rw[if_neg h,Nat.add_sub_cancel];exact Nat.log2_self_le h
theorem ZP (a b:List Nat) (k:Nat) (ha:Dig a) (hb:Dig b) (yk:a.length<10000000000) (Pe:2<=b.length) (yQ:b.length<=a.length)
 (hk:k=32 - eA (b.getD (b.length - 1) 0)) (Wq:k<32) (v:List Nat) (hv:ak (val b*2^k)=v) (hvl:v.length=b.length) (yo:2147483648<=v.getD (v.length - 1) 0):
 Den Tryz.prog 218 [] [.fv (.sl (u32s a)),.fv (.sl (u32s b))] [] (.tup [.fv (N (val a / val b)),.fv (N (val a % val b))]):=by
 have M0:(((b.length:Nat):Int) - 1).toNat=b.length - 1:=by omega
 have wS:=hb.getD (b.length - 1)
 simp only[B] at wS
 have hkc:IntKind.u64.wrap ((k:Nat):Int)=(k:Int):=d8 (by omega)
 have af9:=ZL (b.getD (b.length - 1) 0) wS
 rw[<-hk] at af9
 have hsb:val (iO (b.length+1) (val b*2^k))=val b*2^k:=by
  apply k_;rw[Nat.pow_succ];exact Nat.mul_lt_mul'' (bZ hb) (Nat.lt_of_lt_of_le (Nat.pow_lt_pow_right (by decide) Wq) (by decide))
 have Ud:=iV (iO (b.length+1) (val b*2^k)) (k9 _ _) (by rw[c9];omega)
 rw[hsb] at Ud
 refine dq Tryz.func218 249 0 ?_
 refine bw M0 ?_
 refine⟨by omega,?_⟩
 refine aM af9 ?_
 refine ae hkc ?_
 refine gp (Qm a k ha (by omega) Wq) rfl ?_
 refine aN ?_
 refine gp (Qm b k hb (by omega) Wq) rfl ?_
 refine aN ?_
 refine gp Ud ?_ ?_
 .simp[bJ,eT,eo,dZ,aR,c9]
  rw[dm (by simp[aR,c9])]
 refine ae (aB @bQ hv) ?_
 refine dw (by kernel_rfl) ?_
 obtain⟨n,hn⟩:=ax v.length
 have hbn:b.length=n:=by omega
 have lR:((n:Int) - 1).toNat=n - 1:=by omega
 have vI:((n:Int) - 2).toNat=n - 2:=by omega
 have hlm:(((a.length+1:Nat):Int) - (n:Int)).toNat=a.length+1 - n:=by omega
 have Cg:Dig v:=by rw[<-hv];exact ar _
 have S7:=Cg.getD (n - 1)
 have S8:=Cg.getD (n - 2)
 have Wr:val v=val b*2^k:=by rw[<-hv,ao]
 simp only[B] at S7 S8
 rw[hn] at yo
 obtain⟨top,ht⟩:=ax (v.getD (n - 1) 0)
 obtain⟨sec,hs⟩:=ax (v.getD (n - 2) 0)
 obtain⟨m,hm⟩:=ax (a.length+1 - n)
 rw[ht] at S7 yo
 rw[hs] at S8
 have hua:val (iO (a.length+1) (val a*2^k))=val a*2^k:=by
  apply k_;rw[Nat.pow_succ];exact Nat.mul_lt_mul'' (bZ ha) (Nat.lt_of_lt_of_le (Nat.pow_lt_pow_right (by decide) Wq) (by decide))
 refine ae (eU hn lR vI ht hs hlm hm) ?_
 refine⟨by omega,by omega,by omega,?_⟩
 refine wl (α:=Nat×List Nat×List Nat) (fun⟨j1,qd,u⟩=>⟨.fv (.sl (u32s a)):: .fv (.sl (u32s b)):: .any:: .any:: .lsl 1 0 m 1:: .nilsl:: .int .u64 k:: .lsl 0 0 (a.length+1) 1:: .fv (.sl (u32s v)):: .int .i64 n:: .int .u64 top:: .int .u64 sec:: .int .i64 ((j1:Int) - 1)::replicate 238 .any,[.row true (u32s u),.row true (u32s qd)]⟩)
  (fun⟨j1,_,_⟩=>j1) (fun⟨j1,qd,u⟩=>j1<=m/\u.length=a.length+1/\qd.length=m/\Dig u/\Dig qd/\val (u.drop j1)<val v/\val u+val v*(B^j1*val (qd.drop j1))=val a*2^k) (m,replicate m 0,iO (a.length+1) (val a*2^k)) ?_ ?_ ?_
 .exact bx [0,2]
 .refine⟨qp _,c9 _ _,by simp,k9 _ _,Dig.zeros,?_,?_⟩
  .rw[<-iW (k9 _ _) (by rw[c9];omega),hua]
   have h1:=aO v (n - 1)
   rw[a8 (by omega),ht] at h1
   refine zb (x:=val a*2^k) (P:=val a) (T:=2147483648) (K:=2^k) (Bn:=B^(n - 1)) (Bl:=B^a.length) (bZ ha) (Nat.pow_le_pow_right (by decide) (show k<=31 by omega)) ?_ ?_ rfl (by decide) (Lb (by decide))
   .rw[h1,Nat.mul_comm]
    exact gD (Nat.mul_le_mul_left _ yo) (Nat.le_add_left _ _)
   rw[<-Nat.pow_add];congr 1;omega
  rw[hua,List.drop_of_length_le (by simp)]
  simp[val]
 rintro⟨j1,qd,u⟩ ⟨M4,A',Ft,BM,hqd,aL,bK⟩
 refine aW ?_
 refine bM ?_ ?_
 .intro h1 h2
  obtain⟨j,rfl⟩: ∃ j,j1=j+1:=⟨j1 - 1,by omega⟩
  have i1:(((j+1:Nat):Int) - 1+(n:Int)).toNat=j+n:=by omega
  have i2:(((j+1:Nat):Int) - 1+(n:Int) - 1).toNat=j+n - 1:=by omega
  have i3:(((j+1:Nat):Int) - 1+(n:Int) - 2).toNat=j+n - 2:=by omega
  have i0:(((j+1:Nat):Int) - 1).toNat=j:=by omega
  have LH:=vR (j:=j) BM Cg hn (by omega) (by omega) aL
  have d1:=BM.getD (j+n)
  have d2:=BM.getD (j+n - 1)
  have d3:=BM.getD (j+n - 2)
  simp only[B] at d1 d2 d3
  have iv:=LH.first
  rw[ht] at iv
  obtain⟨x1,vJ⟩:=ax (u.getD (j+n) 0)
  obtain⟨x2,qW⟩:=ax (u.getD (j+n - 1) 0)
  obtain⟨x3,Pf⟩:=ax (u.getD (j+n - 2) 0)
  rw[vJ] at d1 iv
  rw[qW] at d2 iv
  rw[Pf] at d3
  refine ae h2 ?_
  refine dw (by kernel_rfl) ?_
  refine ae (fO i1 i2 vJ qW @xd) ?_
  refine⟨by omega,by omega,by omega,by omega,by omega,?_⟩
  obtain⟨F,hF⟩: ∃ F,F=x1*4294967296+x2:=⟨_,rfl⟩
  have hFi:(x1:Int)*4294967296+(x2:Int)=(F:Int):=by omega
  rw[<-hF] at iv
  have hFt:F / top<=4294967297:=Qo yo iv
  have hFm:F % top<top:=Nat.mod_lt _ (by omega)
  have dW:0<val v:=by have:=LH.v1;rw[ht] at this;have h0:0<top*B^(n - 1):=Nat.mul_pos (by omega) (Lb (by decide));omega
  obtain⟨Q,hQ⟩: ∃ Q,Q=gh u j (n+1) / val v:=⟨_,rfl⟩
  have hQv:Q*val v<=gh u j (n+1):=by rw[hQ];exact Nat.div_mul_le_self _ _
  have LH1:=LH.h1
  rw[vJ,qW,<-hF] at LH1
  have LHv:=LH.v1
  rw[ht] at LHv
  have ck:=FO (q:=Q) (by omega) (y_ (Lb (by decide)) LH1 LH.s1 LHv hQv)
  have hQb:Q<4294967296:=by
   rw[hQ,Nat.div_lt_iff_lt_mul dW,Nat.mul_comm];exact LH.lt
  have hq:(F:Int) / (top:Int)=((F / top:Nat):Int):=by rw[Int.natCast_ediv]
  have hr:(F:Int) % (top:Int)=((F % top:Nat):Int):=by rw[Int.natCast_emod]
  generalize F / top=g0 at*
  generalize F % top=r0 at*
  refine ae hFi ?_
  refine dw (by kernel_rfl) ?_
  refine ae (aB hq hr) ?_
  refine⟨by omega,by omega,?_⟩
  refine WA.blockcut (fun(y:Nat×(Nat->PV))=>⟨[.fv (.sl (u32s a)),.fv (.sl (u32s b)),.any,.any,.lsl 1 0 m 1,.nilsl,.int .u64 k,.lsl 0 0 (a.length+1) 1,.fv (.sl (u32s v)),.int .i64 n,.int .u64 top,.int .u64 sec,.int .i64 (((j+1:Nat):Int) - 1),.any,.int .u64 y.1]++tl y.2 15 236,[.row true (u32s u),.row true (u32s qd)]⟩)
   (fun y=>Q<=y.1/\y.1<4294967296/\(y.1 - 1)*val v<=gh u j (n+1)) ?_ ?_
  .refine wl (α:=Nat×Nat) (fun⟨g,r⟩=>⟨.fv (.sl (u32s a)):: .fv (.sl (u32s b)):: .any:: .any:: .lsl 1 0 m 1:: .nilsl:: .int .u64 k:: .lsl 0 0 (a.length+1) 1:: .fv (.sl (u32s v)):: .int .i64 n:: .int .u64 top:: .int .u64 sec:: .int .i64 (((j+1:Nat):Int) - 1):: .any:: .int .u64 g:: .int .u64 r::replicate 235 .any,[.row true (u32s u),.row true (u32s qd)]⟩)
    (fun⟨g,_⟩=>g) (fun⟨g,r⟩=>xe F top Q g r/\r<4294967296/\g<=4294967297) (g0,r0) ?_ ?_ ?_
   .exact bx [0,1]
   .exact⟨ck,by omega,hFt⟩
   rintro⟨g,r⟩ ⟨M5,PX,pN⟩
   have yR:(g:Int) / 4294967296=((g / 4294967296:Nat):Int):=by rw[Int.natCast_ediv];rfl
   refine bw yR ?_
   refine⟨by omega,Br.bneInt ?_ ?_⟩
   .intro h3 h4
    have om:Q<g:=by omega
    obtain⟨g',rfl⟩: ∃ g',g=g'+1:=⟨g - 1,by omega⟩
    have ph:=yy M5 om
    rw[Nat.add_sub_cancel] at ph
    have Fc:((g'+1:Nat):Int) - 1=(g':Int):=by omega
    refine ae (aB h4 Fc) ?_
    refine⟨by omega,Br.bneInt ?_ ?_⟩
    .intro h5 h6
     refine ae h6 ?_
     have tS:=D5 (second:=sec) ph (by omega) iv (by omega)
     refine Mid.ex g' rfl ⟨by omega,tS.1,?_⟩
     refine kY LH tS.1 (by omega) ?_
     rw[ht,hs,vJ,qW,Pf,<-hF]
     exact q' ph (gD tS.2 (Nat.le_add_right _ _))
    intro h5 h6
    refine ae h6 ?_
    refine aA (g',r+top) ?_ ⟨ph,by omega,by omega⟩
    exact bx [0,1]
   intro h3 h4
   have xN:g<4294967296:=by omega
   have Y6:g*sec<=4294967295*4294967295:=Nat.mul_le_mul (by omega) (by omega)
   have Ws:(g:Int)*(sec:Int)=((g*sec:Nat):Int):=by rw[Int.natCast_mul]
   obtain⟨gs,Ks⟩:=ax (g*sec)
   rw[Ks] at Y6 Ws
   refine ae (fO h4 Ws i3 Pf @xd) ?_
   refine⟨by omega,by omega,by omega,bM ?_ ?_⟩
   .intro h7 h8
    have om:Q<g:=by
     have LH2:=LH.h2;have LHv2:=LH.v2;rw[vJ,qW,Pf,<-hF] at LH2;rw[ht,hs] at LHv2;exact Lm (Lb (by decide)) LH2 LH.s2 rfl LHv2 hQv M5 (by rw[Ks];omega)
    obtain⟨g',rfl⟩: ∃ g',g=g'+1:=⟨g - 1,by omega⟩
    have ph:=yy M5 om
    rw[Nat.add_sub_cancel] at ph
    have Fc:((g'+1:Nat):Int) - 1=(g':Int):=by omega
    refine ae (aB h8 Fc) ?_
    refine⟨by omega,Br.bneInt ?_ ?_⟩
    .intro h5 h6
     refine ae h6 ?_
     have tS:=D5 (second:=sec) ph (by omega) iv (by omega)
     refine Mid.ex g' rfl ⟨by omega,tS.1,?_⟩
     refine kY LH tS.1 (by omega) ?_
     rw[ht,hs,vJ,qW,Pf,<-hF]
     exact q' ph (gD tS.2 (Nat.le_add_right _ _))
    intro h5 h6
    refine ae h6 ?_
    refine aA (g',r+top) ?_ ⟨ph,by omega,by omega⟩
    exact bx [0,1]
   intro h7 h8
   refine ae h8 ?_
   refine Mid.ex g rfl ⟨M5.low,xN,?_⟩
   refine kY LH xN (by omega) ?_
   rw[ht,hs,vJ,qW,Pf,<-hF]
   exact q' M5 (by rw[Ks];omega)
  rintro⟨g,x⟩ ⟨Ue,fg,DQ⟩
  have Wt:u.length=a.length+1:=A'
  have aaX:=Lo (g:=g) dW (by rw[<-hQ];exact Ue)
  simp only[] at Ue fg DQ
  simp -dsimp(disch:=omega) only[tl,Nat.reduceAdd,ru]
  refine wl (α:=Nat×Nat×Nat×List Nat) (fun⟨i,bo,c,u'⟩=>⟨[.fv (.sl (u32s a)),.fv (.sl (u32s b)),.any,.any,.lsl 1 0 m 1,.nilsl,.int .u64 k,.lsl 0 0 (a.length+1) 1,.fv (.sl (u32s v)),.int .i64 n,.int .u64 top,.int .u64 sec,.int .i64 (((j+1:Nat):Int) - 1),.any,.int .u64 g,.any,.int .u64 bo,.int .u64 c]++replicate 99 .any++[.fv (.sl (u32s v)),.int .i64 n,.int .i64 i]++replicate 131 .any,[.row true (u32s u'),.row true (u32s qd)]⟩)
   (fun⟨i,_,_,_⟩=>n - i) (fun⟨i,bo,c,u'⟩=>i<=n/\bo<=1/\c<4294967296/\u'.length=a.length+1/\Dig u'/\(∀ t,(t<j\/j+i<=t)->u'.getD t 0=u.getD t 0)/\gh u' j i+g*val (v.take i)=gh u j i+(c+bo)*B^i) (0,0,0,u) ?_ ?_ ?_
  .refine eH [0,1] ?_ ?_
   .simp[bh,dF,cw,hn]
   simp[d_,fD]
  .refine⟨by omega,by omega,by omega,A',BM,fun _ _=>rfl,?_⟩
   simp[uh,val]
  rintro⟨i,bo,c,u'⟩ ⟨hi,Y7,hc,agd,Wu,tR,ku⟩
  refine aW ?_
  refine bM ?_ ?_
  .intro h3 h4
   have dv:=Cg.getD i
   have du:=Wu.getD (j+i)
   simp only[B] at dv du
   have fh:=aO v i
   have mH:=jQ u j i
   have Kt:=tR (j+i) (Or.inr (qp _))
   rw[<-Kt] at mH
   obtain⟨y,hy⟩:=ax (v.getD i 0)
   obtain⟨z,hz⟩:=ax (u'.getD (j+i) 0)
   rw[hy] at fh dv
   rw[hz] at mH du
   have ik:(((j+1:Nat):Int) - 1+(i:Int)).toNat=j+i:=by omega
   have hgy:g*y<=4294967295*4294967295:=Nat.mul_le_mul (by omega) (by omega)
   have S9:(g:Int)*(y:Int)=((g*y:Nat):Int):=by rw[Int.natCast_mul]
   obtain⟨cc,nh⟩:=ax (c+g*y)
   obtain⟨gy,aaY⟩:=ax (g*y)
   rw[aaY] at hgy S9
   have Ba:(c:Int)+(gy:Int)=(cc:Int):=by omega
   have akx:cc<=18446744073709551616 - 4294967296:=by omega
   obtain⟨d,b2,hd,eI,Wm,Ku,Kv⟩:=FP (a:=z) (c:=cc % 4294967296) (b:=bo) du (by omega) Y7
   have sC:(cc:Int) % 4294967296=((cc % 4294967296:Nat):Int):=by rw[Int.natCast_emod];rfl
   have lS:(cc:Int) / 4294967296=((cc / 4294967296:Nat):Int):=by rw[Int.natCast_ediv];rfl
   have ck:=jR (S:=gh u' j i) (S0:=gh u j i) (P:=B^i) (g:=g) (Vt:=val (v.take i)) (v:=y) (c:=c) (b:=bo) (a:=z) (d:=d) (b2:=b2) ku (by rw[nh];exact Wm)
   have bn:=jJ (u:=u') (j:=j) (i:=i) (by omega) d
   obtain⟨xx,jn⟩:=ax (((z:Int) - ((cc % 4294967296:Nat):Int) - (bo:Int)) % 18446744073709551616)
   have hxw:IntKind.u64.wrap (IntKind.u64.wrap ((z:Int) - ((cc % 4294967296:Nat):Int)) - (bo:Int))=xx:=by rw[X_,jn]
   have hxr:0<=xx/\xx<18446744073709551616:=by omega
   rw[jn] at Ku Kv
   have Bb:IntKind.u32.wrap xx=(d:Int):=by rw[dV];exact Ku
   refine ae (bu h4 hy hz ik S9 Ba @Qj (fO sC lS hxw Bb Kv)) ?_
   refine⟨by omega,by omega,by omega,by omega,by omega,by omega,by omega,?_⟩
   refine aA (i+1,b2,cc / 4294967296,u'.set (j+i) d) ?_ ⟨by omega,eI,by omega,by simp[agd],Wu.set _ hd,?_,?_⟩
   .exact bx [0,1]
   .intro t hto
    rw[<-tR t (by omega),qa,getElem?_set_ne (by omega),<-qa]
   rw[bn,fh,mH,Nat.pow_succ,<-nh]
   exact ck
  intro h3 h4
  have f0:i=n:=by omega
  subst f0
  have Ir:val (v.take i)=val v:=a8 (by omega)
  rw[Ir] at ku
  have du:=Wu.getD (j+i)
  simp only[B] at du
  have mH:=jQ u j i
  rw[<-tR (j+i) (Or.inr (qp _))] at mH
  have Kt:=tR (j+i) (Or.inr (qp _))
  rw[vJ] at Kt
  rw[Kt] at du mH
  have ik:(((j+1:Nat):Int) - 1+(i:Int)).toNat=j+i:=by omega
  obtain⟨d,b2,hd,eI,Wm,Ku,Kv⟩:=FP (a:=x1) (c:=c) (b:=bo) du hc Y7
  obtain⟨xx,jn⟩:=ax (((x1:Int) - (c:Int) - (bo:Int)) % 18446744073709551616)
  have hxw:IntKind.u64.wrap (IntKind.u64.wrap ((x1:Int) - (c:Int)) - (bo:Int))=xx:=by rw[X_,jn]
  have hxr:0<=xx/\xx<18446744073709551616:=by omega
  rw[jn] at Ku Kv
  have Bb:IntKind.u32.wrap xx=(d:Int):=by rw[dV];exact Ku
  have bn:=jJ (u:=u') (j:=j) (i:=i) (by omega) d
  have mI:(u'.set (j+i) d).length=a.length+1:=by simp[agd]
  have Y8:Dig (u'.set (j+i) d):=Wu.set _ hd
  have aaZ: ∀ t,(t<j\/j+i+1<=t)->(u'.set (j+i) d).getD t 0=u.getD t 0:=by
   intro t hto;rw[<-tR t (by omega),qa,getElem?_set_ne (by omega),<-qa]
  have DR:gh (u'.set (j+i) d) j (i+1)+g*val v=gh u j (i+1)+b2*B^(i+1):=Ns bn mH ku Wm
  obtain⟨w,hw⟩:=ax (u'.set (j+i) d)
  rw[hw] at mI Y8 aaZ DR
  refine ae (eU h4 Kt ik hxw Bb Kv hw) ?_
  refine⟨by omega,by omega,by omega,by omega,by omega,Br.bneInt ?_ ?_⟩
  .intro h5 h6
   have dX:b2=1:=by omega
   subst dX
   rw[Nat.one_mul] at DR
   have akz:=vQ Y8 j (i+1)
   have hVM:val v<=B^(i+1):=by
    have h7:=bZ Cg;rw[hn] at h7;exact gD (Nat.le_of_lt h7) (Nat.pow_le_pow_right (by decide) (by omega))
   have eC:gh u j (i+1)<g*val v:=by omega
   have t_:0<g:=by
    rcases Nat.eq_zero_or_pos g with h7 | h7
    .rw[h7,Nat.zero_mul] at eC;omega
    exact h7
   obtain⟨g',rfl⟩: ∃ g',g=g'+1:=⟨g - 1,by omega⟩
   have Fc:((g'+1:Nat):Int) - 1=(g':Int):=by omega
   refine ae (aB h6 Fc) ?_
   refine wl (α:=Nat×Nat×List Nat) (fun⟨t,c,w'⟩=>⟨[.fv (.sl (u32s a)),.fv (.sl (u32s b)),.any,.any,.lsl 1 0 m 1,.nilsl,.int .u64 k,.lsl 0 0 (a.length+1) 1,.fv (.sl (u32s v)),.int .i64 i,.int .u64 top,.int .u64 sec,.int .i64 (((j+1:Nat):Int) - 1),.any,.int .u64 g',.any,.any,.int .u64 c]++replicate 159 .any++[.fv (.sl (u32s v)),.int .i64 i,.int .i64 t]++replicate 71 .any,[.row true (u32s w'),.row true (u32s qd)]⟩)
    (fun⟨t,_,_⟩=>i - t) (fun⟨t,c,w'⟩=>t<=i/\c<=1/\w'.length=a.length+1/\Dig w'/\(∀ s,(s<j\/j+t<=s)->w'.getD s 0=w.getD s 0)/\gh w' j t+c*B^t=gh w j t+val (v.take t)) (0,0,w) ?_ ?_ ?_
   .refine eH [0,1] ?_ ?_
    .simp[bh,dF,cw,hn]
    simp[d_,fD]
   .refine⟨by omega,by omega,mI,Y8,fun _ _=>rfl,?_⟩
    simp[uh,val]
   rintro⟨t,c',w'⟩ ⟨fP,hc',Y9,Kw,aa0,S_⟩
   have dv:=Cg.getD t
   have du:=Kw.getD (j+t)
   simp only[B] at dv du
   have fh:=aO v t
   have Bc:=jQ w j t
   have aa1:=aa0 (j+t) (Or.inr (qp _))
   rw[<-aa1] at Bc
   obtain⟨y,hy⟩: ∃ t',v.getD t 0=t':=⟨_,rfl⟩
   obtain⟨z,hz⟩: ∃ t',w'.getD (j+t) 0=t':=⟨_,rfl⟩
   rw[hy] at fh dv
   rw[hz] at Bc du
   have ik2:(((j+1:Nat):Int) - 1+(t:Int)).toNat=j+t:=by omega
   refine aW ?_
   refine bM ?_ ?_
   .intro h7 h8
    obtain⟨cc,nh⟩:=ax (c'+(z+y))
    have Ba:(c':Int)+((z:Int)+(y:Int))=(cc:Int):=by omega
    have lS:(cc:Int) / 4294967296=((cc / 4294967296:Nat):Int):=by rw[Int.natCast_ediv];rfl
    have hw3:IntKind.u32.wrap (cc:Int)=((cc % 4294967296:Nat):Int):=by rw[dV,Int.natCast_emod];rfl
    have pA:=jJ (u:=w') (j:=j) (i:=t) (by omega) (cc % 4294967296)
    refine ae (eU h8 hy hz ik2 Ba lS hw3) ?_
    refine⟨by omega,by omega,by omega,by omega,by omega,by omega,?_⟩
    refine aA (t+1,cc / 4294967296,w'.set (j+t) (cc % 4294967296)) ?_ ⟨by omega,by omega,by simp[Y9],Kw.set _ (Nat.mod_lt _ (by decide)),?_,?_⟩
    .exact bx [0,1]
    .intro s Fu
     rw[<-aa0 s (by omega),qa,getElem?_set_ne (by omega),<-qa]
    rw[pA,fh,Bc,Nat.pow_succ]
    exact oz S_ nh
   intro h7 h8
   have akB:t=i:=by omega
   subst akB
   rw[Ir] at S_
   have pA:=jJ (u:=w') (j:=j) (i:=t) (by omega) ((z+c') % 4294967296)
   have hwc:IntKind.u32.wrap (c':Int)=(c':Int):=dD (by omega)
   have hw3:IntKind.u32.wrap ((z:Int)+(c':Int))=(((z+c') % 4294967296:Nat):Int):=by rw[dV,Int.natCast_emod];rfl
   have hd4:Dig (w'.set (j+t) ((z+c') % 4294967296)):=Kw.set _ (Nat.mod_lt _ (by decide))
   have hl4:(w'.set (j+t) ((z+c') % 4294967296)).length=a.length+1:=by simp[Y9]
   have age: ∀ s,(s<j\/j+t+1<=s)->(w'.set (j+t) ((z+c') % 4294967296)).getD s 0=u.getD s 0:=by
    intro s Fu;rw[<-aaZ s (by omega),<-aa0 s (by omega),qa,getElem?_set_ne (by omega),<-qa]
   have hs4:gh (w'.set (j+t) ((z+c') % 4294967296)) j (t+1)+((z+c') / 4294967296)*B^(t+1)=gh w j (t+1)+val v:=D6 pA Bc S_
   obtain⟨w4,hw4⟩:=ax (w'.set (j+t) ((z+c') % 4294967296))
   rw[hw4] at hd4 hl4 age hs4
   have PX:=za hVM DR t_ DQ eC hs4 (vQ hd4 _ _)
   rw[Nat.add_sub_cancel] at PX
   have hwg:IntKind.u32.wrap (g':Int)=(g':Int):=dD (by omega)
   have hr:=s7 (u:=u) (u4:=w4) (qd:=qd) (j:=j) (n:=t) (g:=g') (V:=val v) (by omega) (by omega) (by omega) age LH.tail PX.1 PX.2 bK
   refine ae (bu h8 hz ik2 hwc hw3 hw4 hwg i0) ?_
   refine⟨by omega,by omega,by omega,by omega,by omega,by omega,?_⟩
   refine aA (j,qd.set j g',w4) ?_ ⟨by omega,hl4,by simp[Ft],hd4,hqd.set _ (by simp only[B];omega),hr.2,hr.1⟩
   exact bx [0,1]
  intro h5 h6
  have IZ:b2=0:=by omega
  subst IZ
  rw[Nat.zero_mul,Nat.add_zero] at DR
  have hwg:IntKind.u32.wrap (g:Int)=(g:Int):=dD (by omega)
  have I0:=FQ DR aaX
  have hr:=s7 (u:=u) (u4:=w) (qd:=qd) (j:=j) (n:=i) (g:=g) (V:=val v) (by omega) (by omega) (by omega) aaZ LH.tail DR I0 bK
  refine ae (bA h6 hwg i0) ?_
  refine⟨by omega,by omega,?_⟩
  refine aA (j,qd.set j g,w) ?_ ⟨by omega,mI,by simp[Ft],Y8,hqd.set _ fg,hr.2,hr.1⟩
  exact bx [0,1]
 intro h1 h2
 have Iq:j1=0:=by omega
 subst Iq
 rw[List.drop_zero] at aL
 rw[List.drop_zero,Nat.pow_zero,Nat.one_mul] at bK
 have sB:0<2^k:=Nat.two_pow_pos k
 have Be:=FW Wr sB bK aL
 have akE:val u / 2^k<B^n:=by
  refine FD (Nat.div_le_self _ _) (Nat.lt_trans aL ?_);rw[<-hn];exact bZ Cg
 refine ae h2 ?_
 refine⟨by omega,?_⟩
 refine wl (α:=Nat×List Nat) (fun⟨i,out⟩=>⟨[.fv (.sl (u32s a)),.fv (.sl (u32s b)),.any,.any,.lsl 1 0 m 1,.lsl 2 0 n 1,.int .u64 k,.lsl 0 0 (a.length+1) 1]++replicate 215 .any++[.int .i64 n,.int .i64 i]++replicate 26 .any,[.row true (u32s u),.row true (u32s qd),.row true (u32s out)]⟩)
  (fun⟨i,_⟩=>n - i) (fun⟨i,out⟩=>i<=n/\out.length=n/\Dig out/\out.take i=iO i (val u / 2^k)) (0,replicate n 0) ?_ ?_ ?_
 .exact bx [0,1,2]
 .exact⟨by omega,by simp,Dig.zeros,by simp[iO]⟩
 rintro⟨i,out⟩ ⟨hi,ho,Ce,hv3⟩
 refine aW ?_
 refine bM ?_ ?_
 .intro h3 h4
  have hx:=BM.getD i
  have hy:=BM.getD (i+1)
  have S':(u.getD i 0+u.getD (i+1) 0*4294967296) / 2^k % 4294967296=val u / 2^k / B^i % 4294967296:=by
   rw[sL (l:=u) (i:=i) (k:=k) (by omega) (by omega),<-iW BM (by omega),Nat.div_div_eq_div_mul,Nat.div_div_eq_div_mul,Nat.mul_comm (2^k)]
  have nj:((i:Int)+1).toNat=i+1:=by omega
  have Cf:(k<=64)=True:=by simp;omega
  simp only[B] at hx hy
  obtain⟨x,Fb⟩:=ax (u.getD i 0)
  obtain⟨y,Ub⟩:=ax (u.getD (i+1) 0)
  rw[Fb] at hx S'
  rw[Ub] at hy S'
  obtain⟨s,hs⟩:=ax (x+y*4294967296)
  rw[hs] at S'
  have sV:(y:Int)*4294967296+x=(s:Int):=by omega
  have PY:((s:Int)) / 2^k=((s / 2^k:Nat):Int):=by rw[Int.natCast_ediv,Int.natCast_pow];rfl
  have Pg:IntKind.u32.wrap ((s / 2^k:Nat):Int)=((s / 2^k % 4294967296:Nat):Int):=by rw[dV];rfl
  have hpp:(0:Int)<=2^k:=by
   have:(2:Int)^k=((2^k:Nat):Int):=by rw[Int.natCast_pow];rfl
   omega
  obtain⟨dg,Kr⟩:=ax (s / 2^k % 4294967296)
  have Wv:dg<4294967296:=by rw[<-Kr];exact Nat.mod_lt _ (by decide)
  rw[Kr] at Pg S'
  have dM:(out.set i dg).take (i+1)=iO (i+1) (val u / 2^k):=by
   rw[Cr,<-hv3,take_succ_eq_append_getElem (by simp;omega),List.take_set_of_le (qp i)];simp only[List.getElem_set_self,B] at*;rw[S']
  refine ae h4 ?_
  refine dw (by kernel_rfl) ?_
  refine ae (bu Fb Ub nj @xd sV Cf PY Pg) ?_
  refine⟨by omega,by omega,by omega,by omega,by omega,by omega,by omega,by omega,?_⟩
  refine aA (i+1,out.set i dg) ?_ ⟨by omega,by simp[ho],Ce.set _ Wv,dM⟩
  exact bx [0,1,2]
 intro h3 h4
 refine ae h4 ?_
 have f0:i=n:=by omega
 have hvo:val out=val u / 2^k:=by
  rw[f0,dm (by omega)] at hv3;rw[hv3,k_ akE]
 refine gp (iV qd hqd (by omega)) ?_ ?_
 .simp[bJ,eT,eo,dZ,aR,Ft]
  rw[dm (by simp[aR,Ft])]
 refine aN ?_
 refine gp (iV out Ce (by omega)) ?_ ?_
 .simp[bJ,eT,eo,dZ,aR,ho]
  rw[dm (by simp[aR,ho])]
 refine aN ?_
 refine a_ ?_
 rw[Be.1,hvo,Be.2]
 exact Ih
end Go.Proofs.YtjjbkjgifdhlcaaGreat
namespace Go.Pl
open Go.AM
theorem Nt {x n:Nat} (h:(ak x).length=n+1):B^n<=x:=by
 rcases Nat.lt_or_ge x (B^n) with h1 | h1
 .have:=aI h1;omega
 exact h1
theorem xX {x n:Nat} (h1:B^n<=x) (h2:x<B^(n+1)):(ak x).length=n+1:=by
 have h3:=aI h2;rcases Nat.lt_or_ge (ak x).length (n+1) with h4 | h4
 .exfalso;have h5:=b9 (n:=x);have h6:B^(ak x).length<=B^n:=Nat.pow_le_pow_right (by decide) (by omega);exact absurd (Nat.lt_of_lt_of_le h5 h6) (by omega)
 omega
theorem vS {x n:Nat} (h:(ak x).length=n+1):(ak x).getD n 0=x / B^n:=by
 have h1:=iW (ar x) (i:=n) (by omega);have h2:=ft (l:=ak x) (j:=n) (by omega);rw[List.drop_of_length_le (i:=n+1) (by omega),show val []=0 from rfl,Nat.mul_zero,Nat.add_zero] at h2;rw[<-h2,<-h1,ao]
theorem aed {b top P K:Nat} (h:top*P<=b) (hk:2147483648<=top*K):2147483648*P<=b*K:=by
 have h1:top*P*K<=b*K:=qn _ h;have h2:2147483648*P<=top*K*P:=qn _ hk;have h3:top*P*K=top*K*P:=by grind
 omega
theorem aee {b top P K:Nat} (h:b<(top+1)*P) (hK:0<K) (hk:(top+1)*K<=4294967296):b*K<P*4294967296:=by
 have h1:b*K<(top+1)*P*K:=Nat.mul_lt_mul_of_pos_right h hK;have h2:(top+1)*K*P<=4294967296*P:=qn _ hk;have h3:(top+1)*P*K=(top+1)*K*P:=by grind
 have h4:4294967296*P=P*4294967296:=Nat.mul_comm _ _;omega
theorem zc {b n k top:Nat} (h:(ak b).length=n+1) (ht:(ak b).getD n 0=top) (hk:k<=32) (h1:2147483648<=top*2^k) (h2:top*2^k<4294967296):
 (ak (b*2^k)).length=n+1/\2147483648<=(ak (b*2^k)).getD n 0:=by
 have hp:0<2^k:=Nat.two_pow_pos k
 have hP:0<B^n:=Lb (by decide)
 have h3:top=b / B^n:=by rw[<-ht,vS h]
 have ej:top*B^n<=b:=by rw[h3];exact Nat.div_mul_le_self _ _
 have eC:b<(top+1)*B^n:=by rw[<-Nat.div_lt_iff_lt_mul hP,<-h3];omega
 have qY:top*2^k+2^k<=4294967296:=FH hk (Nat.mul_mod_left _ _) h2
 have aa4:(top+1)*2^k<=4294967296:=by rw[Nat.add_mul,Nat.one_mul];exact qY
 have Fv:=aed ej h1
 have aL:b*2^k<B^(n+1):=by rw[Nat.pow_succ];exact aee eC hp aa4
 have aF:(ak (b*2^k)).length=n+1:=xX (gD (Nat.le_mul_of_pos_left _ (by decide)) Fv) aL
 refine⟨aF,?_⟩
 rw[vS aF,Nat.le_div_iff_mul_le hP]
 exact Fv
theorem Lp {b n:Nat} (h:(ak b).length=n+1):0<(ak b).getD n 0:=by
 rw[vS h];exact Nat.div_pos (Nt h) (Lb (by decide))
theorem gF {b:Nat} (h:(ak b).length=0):b=0:=by
 have:=b9 (n:=b);rw[h] at this;simpa using this
theorem cM {x y:Nat} (h:x<=y):(ak x).length<=(ak y).length:=
 aI (FD h b9)
def ki (u:List Nat) (j m x:Nat):List Nat:=u.take j++(iO m x++u.drop (j+m))
theorem BQ {u:List Nat} {j m x:Nat} (h:j+m<=u.length):(ki u j m x).length=u.length:=by
 simp[ki,c9];omega
theorem Jf {u:List Nat} {j m x:Nat} (h:Dig u):Dig (ki u j m x):=(h.take j).app ((k9 _ _).app (h.drop _))
theorem Cs {u w:List Nat} {j m x:Nat} (hl:w.length=u.length) (hd:Dig w) (hj:j+m<=u.length) (tR: ∀ t,(t<j\/j+m<=t)->w.getD t 0=u.getD t 0) (hs:gh w j m=x):ki u j m x=w:=by
 unfold ki;have h1:w.take j=u.take j:=uk hl (fun t ht=>tR t (Or.inl ht));have h2:w.drop (j+m)=u.drop (j+m):=uj hl (fun t ht=>tR t (Or.inr ht));have h3:=D4 ((hd.drop j).take m);have h4:((w.drop j).take m).length=m:=by rw[length_take,length_drop];omega
 rw[h4] at h3;have h5:val ((w.drop j).take m)=x:=hs;rw[h5] at h3;rw[<-h1,<-h2,<-h3,<-List.drop_drop,List.take_append_drop,List.take_append_drop]
theorem FX {u:List Nat} {j m x t:Nat} (hj:j+m<=u.length) (ht:t<j\/j+m<=t):(ki u j m x).getD t 0=u.getD t 0:=by
 unfold ki;simp only[qa];congr 1;rcases ht with h | h
 .rw[qi (by rw[length_take];omega),getElem?_take,if_pos h]
 rw[qh (by rw[length_take];omega),qh (by rw[length_take,c9];omega),List.getElem?_drop];congr 1;rw[length_take,c9];omega
theorem Jg {u:List Nat} {j m x:Nat} (hj:j+m<=u.length) (hx:x<B^m):gh (ki u j m x) j m=x:=by
 unfold gh ki;rw[List.drop_left' (by rw[length_take];omega),List.take_left' (c9 _ _),k_ hx]
theorem zd {r g V W:Nat} (h:r+g*V=W) (hr:r<V):W / V=g/\r=W % V:=by
 have h1:W=r+V*g:=by rw[<-h,Nat.mul_comm]
 rw[h1,Nat.add_mul_div_left _ _ (by omega),Nat.div_eq_of_lt hr,Nat.zero_add,Nat.add_mul_mod_self_left,Nat.mod_eq_of_lt hr];exact⟨rfl,rfl⟩
theorem Qr {t s:Nat} (ht:0<t) (h:t*2^s<2147483648):s<31:=by
 rcases Nat.lt_or_ge s 31 with h1 | h1
 .exact h1
 exfalso;have h2:2^31<=2^s:=Nat.pow_le_pow_right (by decide) h1;have h3:1*2^s<=t*2^s:=qn _ ht;omega
end Go.Pl
namespace Go.Proofs.YtjjbkjgifdhlcaaGreat
open Go.AM Go.Pl
set_option maxRecDepth 100000
set_option maxHeartbeats 4000000
theorem um {x y:Nat}:pH x y<0↔x<y:=by
 unfold pH;split
 .omega
 split<;>omega
theorem UD (a b:Nat) (yk:(ak a).length<10000000000) (Pe:2<=(ak b).length) (yQ:(ak b).length<=(ak a).length):
 Den Tryz.prog 218 [] [.fv (N a),.fv (N b)] [] (.tup [.fv (N (a / b)),.fv (N (a % b))]):=by
 obtain⟨n,hn⟩: ∃ n,(ak b).length=n+1:=⟨(ak b).length - 1,by omega⟩
 have yo:=Lp hn
 have PZ:=(ar b).getD n
 simp only[B] at PZ
 have dX:=UC ((ak b).getD n 0)
 have eI:=Qq (n:=(ak b).getD n 0) (by omega)
 have M6:eA ((ak b).getD n 0)<=32:=Ll PZ
 have Y_:1<=eA ((ak b).getD n 0):=by
  rcases Nat.eq_zero_or_pos (eA ((ak b).getD n 0)) with h | h
  .rw[h] at dX;omega
  exact h
 have Ch:=zc (k:=32 - eA ((ak b).getD n 0)) hn rfl (by omega) ?_ ?_
 .have h:=ZP (ak a) (ak b) (32 - eA ((ak b).getD n 0)) (ar a) (ar b) yk Pe yQ (by rw[hn,Nat.add_sub_cancel]) (by omega) (ak (b*2^(32 - eA ((ak b).getD n 0)))) (by rw[ao]) (by rw[Ch.1,hn]) (by rw[Ch.1,Nat.add_sub_cancel];exact Ch.2)
  rw[ao,ao] at h
  exact h
 .have h1:2^(eA ((ak b).getD n 0) - 1)*2^(32 - eA ((ak b).getD n 0))=2147483648:=by
   rw[<-Nat.pow_add,show eA ((ak b).getD n 0) - 1+(32 - eA ((ak b).getD n 0))=31 by omega]
  rw[<-h1]
  exact qn _ eI
 have h1:2^(eA ((ak b).getD n 0))*2^(32 - eA ((ak b).getD n 0))=4294967296:=by
  rw[<-Nat.pow_add,show eA ((ak b).getD n 0)+(32 - eA ((ak b).getD n 0))=32 by omega]
 have h2:=Nat.mul_lt_mul_of_pos_right dX (Nat.two_pow_pos (32 - eA ((ak b).getD n 0)))
 omega
theorem ajA (a b:List Nat) (ha:Dig a) (hb:Dig b) (yk:a.length<10000000000) (yQ:b.length<10000000000) (h0:val b=0):
 Den Tryz.prog 183 [] [.fv (.sl (u32s a)),.fv (.sl (u32s b))] [] (.tup [.fv (N 0),.fv (N 0),.int .i64 3]):=by
 refine dq Tryz.func183 46 0 ?_
 refine aW ?_
 refine gp (iV a ha (by omega)) rfl ?_
 refine aN ?_
 refine gp (iV b hb (by omega)) rfl ?_
 have P0:(ak 0).length=0:=by rw[bR];rfl
 have xM:((0:Nat):Int)=0:=rfl
 have qZ:((0:Int)==0)=true:=rfl
 refine ae (fO @bQ h0 P0 xM qZ) ?_
 refine a_ ?_
 refine sA ?_
 simp[bR,u32s]
theorem Lq (a b:List Nat) (ha:Dig a) (hb:Dig b) (yk:a.length<10000000000) (yQ:b.length<10000000000) (h0:val b≠0):
 Den Tryz.prog 183 [] [.fv (.sl (u32s a)),.fv (.sl (u32s b))] [] (.tup [.fv (N (val a / val b)),.fv (N (val a % val b)),.int .i64 0]):=by
 have aa5:=aI (bZ ha)
 have Pe:=aI (bZ hb)
 have akH:(ak (val b)).length≠0:=fun h=>h0 (gF h)
 refine dq Tryz.func183 46 0 ?_
 refine aW ?_
 refine gp (iV a ha (by omega)) rfl ?_
 refine aN ?_
 refine gp (iV b hb (by omega)) rfl ?_
 have hz:(((ak (val b)).length:Int)==0)=false:=by rw[qx];omega
 refine ae (aB @bQ hz) ?_
 refine gp (FJ (ak (val a)) (ak (val b)) (ar _) (ar _) (by omega) (by omega)) rfl ?_
 refine ae @ao ?_
 refine bM ?_ ?_
 .intro h1 h2
  rw[um] at h1
  refine ae h2 ?_
  refine gp (X5 (u32s (ak (val a))) (by simp[u32s]) (by simp[u32s];omega)) rfl ?_
  refine aN ?_
  refine a_ ?_
  refine sA ?_
  rw[Nat.div_eq_of_lt h1,Nat.mod_eq_of_lt h1]
  simp[N,bR,u32s]
 intro h1 h2
 rw[um] at h1
 refine ae h2 ?_
 refine Br.beqInt ?_ ?_
 .intro h3 h4
  obtain⟨d,hd⟩: ∃ d,ak (val b)=[d]:=length_eq_one_iff.1 (by omega)
  have hbv:val b=d:=by rw[<-ao (val b),hd];simp[val]
  have ym:d<4294967296:=by have:=ar (val b);rw[hd] at this;exact this d (by simp)
  have t_:(u32s [d]).getD 0 []=[FV.lit (Value.int .u32 d)]:=rfl
  have iS:0<d:=by omega
  have eI:=Nat.mod_lt (val a) iS
  have agi:=ZJ (ak (val a)) d (ar _) (by omega) ym iS
  rw[ao] at agi
  refine ae (aB hd t_) ?_
  refine⟨by simp,?_⟩
  refine aM agi ?_
  obtain⟨r,hr⟩:=ax (val a % d)
  rw[hr] at eI
  have hrc:IntKind.u64.wrap (r:Int)=(r:Int):=d8 (by omega)
  refine ae (aB hr hrc) ?_
  refine gp (X8 r (by omega)) rfl ?_
  refine aN ?_
  refine a_ ?_
  exact kT (aB hbv hr)
 intro h3 h4
 have dP:(ak (val b)).length<=(ak (val a)).length:=cM (by omega)
 have sD:=UD (val a) (val b) (by omega) (by omega) dP
 rw[bQ,bQ] at sD
 refine ae h4 ?_
 refine aM sD ?_
 refine aN ?_
 refine a_ ?_
 exact Ih
theorem aef (a b:List Nat) (ha:Dig a) (hb:Dig b) (yk:a.length<10000000000) (yQ:b.length<10000000000):
 Den Tryz.prog 182 [] [.fv (.sl (u32s a)),.fv (.sl (u32s b))] [] (.fv (N (Nat.gcd (val a) (val b)))):=by
 have aa5:=aI (bZ ha)
 have Pe:=aI (bZ hb)
 refine dq Tryz.func182 45 0 ?_
 refine aW ?_
 refine gp (FI a ha (by omega)) rfl ?_
 refine aN ?_
 refine gp (FI b hb (by omega)) rfl ?_
 refine ae @bQ ?_
 generalize hg:Nat.gcd (val a) (val b)=g
 refine wl (α:=Nat×Nat) (fun⟨x,y⟩=>⟨.fv (.sl (u32s (ak x))):: .fv (.sl (u32s (ak y))):: .any:: .any:: .nilsl::replicate 42 .any,[]⟩)
  (fun⟨_,y⟩=>y) (fun⟨x,y⟩=>(ak x).length<10000000000/\(ak y).length<10000000000/\Nat.gcd x y=g) (val a,val b) ?_ ?_ ?_
 .exact bx []
 .exact⟨by omega,by omega,hg⟩
 rintro⟨x,y⟩ ⟨hx,hy,IY⟩
 refine aW ?_
 refine bM ?_ ?_
 .intro h1 h2
  refine ae h2 ?_
  refine Br.beqInt ?_ ?_
  .intro h5 h6
   have yp:y=0:=gF (by omega)
   subst yp
   refine ae h6 ?_
   refine a_ ?_
   rw[Nat.gcd_zero_right] at IY
   refine vq IY ?_
   rfl
  intro h5 h6
  have yp:y≠0:=fun h=>h5 (by rw[h,bR];rfl)
  have h86:=Lq (ak x) (ak y) (ar _) (ar _) hx hy (by rw[ao];exact yp)
  rw[ao,ao,bQ,bQ] at h86
  refine ae h6 ?_
  refine aM h86 ?_
  refine aN ?_
  have aL:=Nat.mod_lt x (Nat.pos_of_ne_zero yp)
  refine ap (y,x % y) (by exact aL) ?_ ⟨hy,FD (cM (Nat.le_of_lt aL)) hy,?_⟩
  .exact bx []
  rw[<-IY,Nat.gcd_comm y,<-Nat.gcd_rec,Nat.gcd_comm]
 intro h1 h2
 refine ae h2 ?_
 refine bM ?_ ?_
 .intro h3 h4
  refine ae h4 ?_
  refine Br.beqInt ?_ ?_
  .intro h5 h6
   have yp:y=0:=gF (by omega)
   subst yp
   refine ae h6 ?_
   refine a_ ?_
   rw[Nat.gcd_zero_right] at IY
   refine vq IY ?_
   rfl
  intro h5 h6
  have yp:y≠0:=fun h=>h5 (by rw[h,bR];rfl)
  have h86:=Lq (ak x) (ak y) (ar _) (ar _) hx hy (by rw[ao];exact yp)
  rw[ao,ao,bQ,bQ] at h86
  refine ae h6 ?_
  refine aM h86 ?_
  refine aN ?_
  have aL:=Nat.mod_lt x (Nat.pos_of_ne_zero yp)
  refine ap (y,x % y) (by exact aL) ?_ ⟨hy,FD (cM (Nat.le_of_lt aL)) hy,?_⟩
  .exact bx []
  rw[<-IY,Nat.gcd_comm y,<-Nat.gcd_rec,Nat.gcd_comm]
 intro h3 h4
 have hxv:x<18446744073709551616:=Nat.lt_of_lt_of_le (b9 (n:=x)) (Nat.pow_le_pow_right (n:=B) (by decide) (show(ak x).length<=2 by omega))
 have hyv:y<18446744073709551616:=Nat.lt_of_lt_of_le (b9 (n:=y)) (Nat.pow_le_pow_right (n:=B) (by decide) (show(ak y).length<=2 by omega))
 have agk:=X9 (ak x) (ar x) (by omega)
 have agl:=X9 (ak y) (ar y) (by omega)
 rw[ao] at agk agl
 refine ae h4 ?_
 refine aM agk ?_
 refine aN ?_
 refine aM agl ?_
 refine aN ?_
 refine wl (α:=Nat×Nat) (fun⟨p,q⟩=>⟨.any:: .any:: .any:: .any:: .nilsl:: .any:: .any:: .any:: .int .u64 p:: .int .u64 q::replicate 37 .any,[]⟩)
  (fun⟨_,q⟩=>q) (fun⟨p,q⟩=>p<18446744073709551616/\q<18446744073709551616/\Nat.gcd p q=g) (x,y) ?_ ?_ ?_
 .exact bx []
 .exact⟨hxv,hyv,IY⟩
 rintro⟨p,q⟩ ⟨hp,hq,wT⟩
 refine aW ?_
 refine Br.bneInt ?_ ?_
 .intro h5 h6
  have aL:=Nat.mod_lt p (show q>0 by omega)
  have hmi:(p:Int) % (q:Int)=((p % q:Nat):Int):=by rw[Int.natCast_emod]
  obtain⟨r,hr⟩:=ax (p % q)
  rw[hr] at aL hmi
  refine ae h6 ?_
  refine dw (by kernel_rfl) ?_
  refine ae hmi ?_
  refine⟨by omega,?_⟩
  refine ap (q,r) (by exact aL) ?_ ⟨hq,by omega,?_⟩
  .exact bx []
  rw[<-wT,<-hr,Nat.gcd_comm q,<-Nat.gcd_rec,Nat.gcd_comm]
 intro h5 h6
 have Ph:q=0:=by omega
 subst Ph
 rw[Nat.gcd_zero_right] at wT
 refine ae h6 ?_
 refine gp (X8 p hp) rfl ?_
 refine aN ?_
 refine a_ ?_
 exact kT wT
end Go.Proofs.YtjjbkjgifdhlcaaGreat
namespace Go.Pl
open Go.AM
def sg (s:Bool) (n:Nat):Int:=if s then -(n:Int) else(n:Int)
def g5 (s:Bool) (n d:Nat):Rat:=mkRat (sg s n) d
theorem vT (s:Bool) (n:Nat):(sg s n).natAbs=n:=by unfold sg;split<;>simp
theorem ZQ (q:Rat):sg (decide (q.num<0)) q.num.natAbs=q.num:=by
 unfold sg;by_cases h:q.num<0
 .simp only[h,decide_true,if_true];omega
 simp only[h,decide_false];simp;omega
theorem db (q:Rat):g5 (decide (q.num<0)) q.num.natAbs q.den=q:=by
 unfold g5;rw[ZQ,Rat.mkRat_self]
theorem nD {s:Bool} {n d:Nat} (h:n=0):g5 s n d=0:=by
 subst h;unfold g5 sg;have:(if s=true then -((0:Nat):Int) else((0:Nat):Int))=0:=by split<;>rfl
 rw[this,Rat.zero_mkRat]
theorem ze {s:Bool} {n d:Nat} (h:d=0):g5 s n d=0:=by
 subst h;unfold g5;rw[Rat.mkRat_zero]
theorem ZR {s:Bool} {n g:Nat} (h:g∣n):sg s n / (g:Int)=sg s (n / g):=by
 unfold sg;split
 .rw[Int.neg_ediv_of_dvd (by exact Int.natCast_dvd_natCast.2 h),Int.natCast_ediv]
 rw[Int.natCast_ediv]
theorem Ct {s:Bool} {n d:Nat} (hd:d≠0):(g5 s n d).num=sg s (n / Nat.gcd n d)/\(g5 s n d).den=d / Nat.gcd n d:=by
 unfold g5;rw[<-Rat.normalize_eq_mkRat hd,Rat.normalize_eq hd];simp only[vT];exact⟨ZR (Nat.gcd_dvd_left n d),cK⟩
theorem ZS {s:Bool} {n:Nat} (h:n≠0):decide (sg s n<0)=s:=by
 unfold sg;cases s
 .simp
 simp;omega
theorem Cu {s:Bool} {n d:Nat} (hn:n≠0) (hd:d≠0):decide ((g5 s n d).num<0)=s/\(g5 s n d).num.natAbs=n / Nat.gcd n d/\(g5 s n d).den=d / Nat.gcd n d:=by
 obtain⟨h1,h2⟩:=Ct (s:=s) (n:=n) hd;have h3:n / Nat.gcd n d≠0:=by
  have:=Nat.div_pos (Nat.le_of_dvd (by omega) (Nat.gcd_dvd_left n d)) (Nat.gcd_pos_of_pos_left d (by omega));omega
 rw[h1,h2];exact⟨ZS h3,vT _ _,rfl⟩
def Bd (k:Nat) (q:Rat):Prop:=q.num.natAbs<B^k/\q.den<B^k
theorem Bd.mono {j k:Nat} {q:Rat} (h:Bd j q) (hk:j<=k):Bd k q:=
 ⟨Nat.lt_of_lt_of_le h.1 (Nat.pow_le_pow_right (by decide) hk),Nat.lt_of_lt_of_le h.2 (Nat.pow_le_pow_right (by decide) hk)⟩
theorem Bd.zero {k:Nat} (hk:1<=k):Bd k 0:=by
 have:1<B^k:=Nat.lt_of_lt_of_le (show 1<B^1 by decide) (Nat.pow_le_pow_right (by decide) hk);exact⟨Lb (by decide),this⟩
theorem Bd.mk {k n d:Nat} {s:Bool} (hk:1<=k) (hn:n<B^k) (hd:d<B^k):Bd k (g5 s n d):=by
 by_cases h:d=0
 .rw[ze h];exact Bd.zero hk
 obtain⟨h1,h2⟩:=Ct (s:=s) (n:=n) h;unfold Bd;rw[h1,h2,vT];exact⟨FD (Nat.div_le_self _ _) hn,FD (Nat.div_le_self _ _) hd⟩
structure Raw where
 neg:Bool
 num:List Nat
 den:List Nat
def Raw.q (r:Raw):Rat:=g5 r.neg (val r.num) (val r.den)
structure Raw.Ok (k:Nat) (r:Raw):Prop where
 num:Dig r.num
 den:Dig r.den
 lnum:r.num.length<=k
 lden:r.den.length<=k
theorem Raw.Ok.mono {j k:Nat} {r:Raw} (h:r.Ok j) (hk:j<=k):r.Ok k:=⟨h.num,h.den,gD h.lnum hk,gD h.lden hk⟩
theorem Raw.Ok.bd {k:Nat} {r:Raw} (h:r.Ok k) (hk:1<=k):Bd k r.q:=
 Bd.mk hk (Nat.lt_of_lt_of_le (bZ h.num) (Nat.pow_le_pow_right (by decide) h.lnum)) (Nat.lt_of_lt_of_le (bZ h.den) (Nat.pow_le_pow_right (by decide) h.lden))
def cn (q:Rat):Raw:=⟨decide (q.num<0),ak q.num.natAbs,ak q.den⟩
theorem cu (q:Rat):(cn q).q=q:=by
 unfold Raw.q cn;simp only[ao];exact db q
theorem bj {k:Nat} {q:Rat} (h:Bd k q):(cn q).Ok k:=⟨ar _,ar _,aI h.1,aI h.2⟩
theorem D7:cn 0=⟨false,[],[1]⟩:=by
 unfold cn;have h1:ak (0:Rat).num.natAbs=[]:=bR;have h2:ak (0:Rat).den=[1]:=by
  have:(0:Rat).den=val [1]:=rfl;rw[this];exact nB (fun d hd=>by simp at hd;subst hd;decide) (Or.inr (by decide))
 rw[h1,h2];rfl
def Raw.v (r:Raw):PV:= .agg [.bool r.neg,.fv (.sl (u32s r.num)),.fv (.sl (u32s r.den))]
def FR (q:Rat):PV:=(cn q).v
theorem bt (q:Rat):FR q= .agg [.bool (decide (q.num<0)),.fv (N q.num.natAbs),.fv (N q.den)]:=rfl
end Go.Pl
namespace Go.Proofs.YtjjbkjgifdhlcaaGreat
open Go.AM Go.Pl
set_option maxRecDepth 100000
set_option maxHeartbeats 1000000
theorem Nu {x:Nat}:(pH x 0==0)=decide (x=0):=by
 unfold pH;by_cases h:x=0
 .subst h;rfl
 have h1: ¬x<0:=by omega
 have h2:0<x:=by omega
 simp[h,h2]
theorem aeg (l:List Nat) (hl:Dig l) (nk:l.length<100000000000):Den Tryz.prog 174 [] [.fv (.sl (u32s l))] [] (.bool (decide (val l=0))):=by
 refine dq Tryz.func174 5 0 ?_;refine aW ?_;have h:=FJ l [] hl Dig.nil nk (by simp);refine aM h ?_;have hv:val []=0:=rfl;refine ae (aB hv @Nu) ?_;refine a_ ?_;exact Ih
theorem xf (s:Bool) (n d:List Nat) (hn:Dig n) (hd:Dig d) (kf:n.length<10000000000) (vH:d.length<10000000000) (iS:val d≠0):
 Den Tryz.prog 131 [] [.bool s,.fv (.sl (u32s n)),.fv (.sl (u32s d))] [] (FR (g5 s (val n) (val d))):=by
 have vI:=aI (bZ hn)
 have Y8:=aI (bZ hd)
 refine dq Tryz.func131 47 0 ?_
 refine aW ?_
 refine gp (FI n hn (by omega)) rfl ?_
 refine aN ?_
 refine gp (FI d hd (by omega)) rfl ?_
 refine ae @bQ ?_
 refine Br.beqInt ?_ ?_
 .intro h1 h2
  have h0:val n=0:=gF (by omega)
  refine ae h2 ?_
  refine a_ ?_
  rw[nD h0,FR,D7]
  rfl
 intro h1 h2
 have Bf:val n≠0:=fun h=>h1 (by rw[h,bR];rfl)
 have hgn:Nat.gcd (val n) (val d)<=val n:=Nat.le_of_dvd (by omega) (Nat.gcd_dvd_left _ _)
 have t_:Nat.gcd (val n) (val d)≠0:=by
  have:=Nat.gcd_pos_of_pos_left (val d) (show 0<val n by omega);omega
 have ez:=Cu (s:=s) Bf iS
 have Ww:=aef (ak (val n)) (ak (val d)) (ar _) (ar _) (by omega) (by omega)
 rw[ao,ao,bQ] at Ww
 have xN:=cM hgn
 have hdn:=Nat.mul_div_cancel_left (val n) (Nat.pos_of_ne_zero t_)
 obtain⟨g,hg⟩:=ax (Nat.gcd (val n) (val d))
 rw[hg] at ez Ww t_ xN
 have Wx:=Lq (ak (val n)) (ak g) (ar _) (ar _) (by omega) (by omega) (by rw[ao];exact t_)
 have Wy:=Lq (ak (val d)) (ak g) (ar _) (ar _) (by omega) (by omega) (by rw[ao];exact t_)
 rw[ao,ao,bQ,bQ] at Wx Wy
 have hFR:FR (g5 s (val n) (val d))= .agg [.bool s,.fv (.sl (u32s (ak (val n / g)))),.fv (.sl (u32s (ak (val d / g))))]:=by
  rw[bt,ez.1,ez.2.1,ez.2.2];rfl
 rw[hFR]
 refine ae h2 ?_
 refine aM Ww ?_
 refine aN ?_
 refine Br.bneInt ?_ ?_
 .intro h3 h4
  refine ae h4 ?_
  refine aM Wx ?_
  refine aN ?_
  refine aM Wy ?_
  refine aN ?_
  refine a_ rfl
 intro h3 h4
 obtain⟨y,hy⟩: ∃ y,ak g=[y]:=length_eq_one_iff.1 (by omega)
 have hgy:g=y:=by rw[<-ao g,hy];simp[val]
 have hyg:(u32s [y]).getD 0 []=[FV.lit (Value.int .u32 y)]:=rfl
 have Ci:((1:Int) !=1)=false:=rfl
 have aa6:([y]:List Nat).length=1:=rfl
 have sq:(((1:Nat):Int) !=1)=false:=rfl
 refine ae (dR hy hyg aa6 sq) ?_
 refine⟨by simp,?_⟩
 refine Br.bneInt ?_ ?_
 .intro h5 h6
  rw[hy] at Wx Wy
  refine ae h6 ?_
  refine aM Wx ?_
  refine aN ?_
  refine aM Wy ?_
  refine aN ?_
  refine a_ rfl
 intro h5 h6
 have Ue:g=1:=by omega
 refine ae h6 ?_
 refine a_ ?_
 rw[Ue,Nat.div_one,Nat.div_one]
 rfl
theorem uo (r:Raw) (hr:r.Ok 5000000000):Den Tryz.prog 126 [] [r.v] [] (FR r.q):=by
 unfold Raw.v;refine dq Tryz.func126 14 0 ?_;refine aW ?_;refine gp (aeg r.den hr.den (by have:=hr.lden;omega)) rfl ?_;refine aN ?_;refine bM ?_ ?_
 .intro h1 h2;have xO:=xf false [] [1] Dig.nil (Dig.mk (by decide) Dig.nil) (by simp) (by simp) (by simp[val]);rw[nD (n:=val []) rfl,bt] at xO;refine ae h2 ?_;refine aM xO ?_;have h0:val r.den=0:=h1;have hq:r.q=0:=ze h0;rw[hq,bt];refine aN ?_;refine a_ rfl
 intro h1 h2;have xO:=xf r.neg r.num r.den hr.num hr.den (by have:=hr.lnum;omega) (by have:=hr.lden;omega) h1;rw[bt] at xO;refine ae h2 ?_;refine aM xO ?_;refine aN ?_;refine a_ rfl
end Go.Proofs.YtjjbkjgifdhlcaaGreat
namespace Go.Pl
open Go.AM
theorem ZT (s t:Bool) (a c:Nat):sg s a*sg t c=sg (s !=t) (a*c):=by
 unfold sg;cases s<;>cases t<;>simp[Int.neg_mul,Int.mul_neg]
theorem uq (s t:Bool) (a b c d:Nat):g5 s a b*g5 t c d=g5 (s !=t) (a*c) (b*d):=by
 unfold g5;rw[Rat.mkRat_mul_mkRat,ZT]
theorem UE {n:Nat} (h:n≠0):g5 false n n=1:=by
 unfold g5 sg;have h1:(1:Rat)=mkRat 1 1:=rfl;rw[h1,Rat.mkRat_eq_iff h (by decide)];simp
theorem Jh {p q r:Rat} (h:q*r=1):p / q=p*r:=by grind
theorem yz {s t:Bool} {a b c d:Nat} (hc:c≠0) (hd:d≠0):g5 s a b / g5 t c d=g5 (s !=t) (a*d) (b*c):=by
 have h:g5 t c d*g5 t d c=1:=by
  rw[uq,Nat.mul_comm d c,bne_self_eq_false,UE (Nat.mul_ne_zero hc hd)]
 rw[Jh h,uq]
theorem Qs {n m:Int} {b d:Nat} (hb:b≠0) (hd:d≠0) (h:n*d=m*b):mkRat n b=mkRat m d:=(Rat.mkRat_eq_iff hb hd).2 h
theorem ZU (s:Bool) (a c:Nat):sg s a+sg s c=sg s (a+c):=by
 unfold sg;cases s<;>simp;omega
theorem Qt {s t:Bool} (h:s≠t) {a c:Nat} (hl:a<c):sg s a+sg t c=sg t (c - a):=by
 unfold sg;cases s<;>cases t<;>simp at h ⊢ <;>omega
theorem Qu {s t:Bool} (h:s≠t) {a c:Nat} (hl: ¬a<c):sg s a+sg t c=sg s (a - c):=by
 unfold sg;cases s<;>cases t<;>simp at h ⊢ <;>omega
theorem re (n m:Int) {d:Nat} (hd:d≠0):mkRat n d+mkRat m d=mkRat (n+m) d:=by
 rw[Rat.mkRat_add_mkRat _ _ hd hd];apply Qs (Nat.mul_ne_zero hd hd) hd;grind
theorem D8 {s t:Bool} (h:s=t) {a c d:Nat} (hd:d≠0):g5 s a d+g5 t c d=g5 s (a+c) d:=by
 subst h;unfold g5;rw[re _ _ hd,ZU]
theorem vU {s t:Bool} (h:s≠t) {a c d:Nat} (hl:a<c) (hd:d≠0):g5 s a d+g5 t c d=g5 t (c - a) d:=by
 unfold g5;rw[re _ _ hd,Qt h hl]
theorem vV {s t:Bool} (h:s≠t) {a c d:Nat} (hl: ¬a<c) (hd:d≠0):g5 s a d+g5 t c d=g5 s (a - c) d:=by
 unfold g5;rw[re _ _ hd,Qu h hl]
theorem Qv (s:Bool) (a k:Nat):sg s (a*k)=sg s a*k:=by
 unfold sg;cases s<;>simp[Int.neg_mul]
theorem Cv {s:Bool} {a b k:Nat} (hb:b≠0) (hk:k≠0):g5 s (a*k) (b*k)=g5 s a b:=by
 unfold g5;apply Qs (Nat.mul_ne_zero hb hk) hb;rw[Qv];grind
theorem aP {a c j k:Nat} (ha:a<B^j) (hc:c<B^k):a*c<B^(j+k):=by
 rw[Nat.pow_add];exact Nat.mul_lt_mul'' ha hc
theorem oA {a c k:Nat} (ha:a<B^k) (hc:c<B^k):a+c<B^(k+1):=by
 have h2:2*B^k<=B^k*4294967296:=by rw[Nat.mul_comm];exact Nat.mul_le_mul_left _ (by decide)
 have h3:B^(k+1)=B^k*4294967296:=Nat.pow_succ _ _;rw[h3];omega
theorem Bd.neg {k:Nat} {q:Rat} (h:Bd k q):Bd k (-q):=by
 unfold Bd;have h1:(-q).num= -q.num:=rfl;have h2:(-q).den=q.den:=rfl;rw[h1,h2,Int.natAbs_neg];exact h
theorem Bd.mul {j k:Nat} {p q:Rat} (hp:Bd j p) (hq:Bd k q) (hk:1<=j+k):Bd (j+k) (p*q):=by
 rw[<-db p,<-db q,uq];exact Bd.mk hk (aP hp.1 hq.1) (aP hp.2 hq.2)
theorem Bd.div {j k:Nat} {p q:Rat} (hp:Bd j p) (hq:Bd k q) (h0:q≠0) (hk:1<=j+k):Bd (j+k) (p / q):=by
 have hn:q.num.natAbs≠0:=fun h=>h0 (Rat.num_eq_zero.1 (by omega))
 rw[<-db p,<-db q,yz hn q.den_nz];exact Bd.mk hk (aP hp.1 hq.2) (aP hp.2 hq.1)
theorem s8 (s t:Bool) {a b c d:Nat} (hb:b≠0) (hd:d≠0):g5 s a b+g5 t c d=g5 s (a*d) (b*d)+g5 t (c*b) (b*d):=by
 rw[Cv hb hd,Nat.mul_comm b d,Cv hd hb]
theorem Bd.sum {k n d a c:Nat} {s t:Bool} (hk:1<=k) (ha:a<B^k) (hc:c<B^k) (hd:d<B^(k+1)) (iS:d≠0) (hn:n=k+1):Bd n (g5 s a d+g5 t c d):=by
 subst hn;have h1:c - a<B^(k+1):=FD (Nat.sub_le _ _) (Nat.lt_trans hc (Nat.pow_lt_pow_right (by decide) (by omega)));have h2:a - c<B^(k+1):=FD (Nat.sub_le _ _) (Nat.lt_trans ha (Nat.pow_lt_pow_right (by decide) (by omega)));by_cases h:s=t
 .rw[D8 h iS];exact Bd.mk (by omega) (oA ha hc) hd
 by_cases hl:a<c
 .rw[vU h hl iS];exact Bd.mk (by omega) h1 hd
 rw[vV h hl iS];exact Bd.mk (by omega) h2 hd
theorem Bd.add {j k:Nat} {p q:Rat} (hp:Bd j p) (hq:Bd k q) (hk:1<=j+k):Bd (j+k+1) (p+q):=by
 rw[<-db p,<-db q,s8 _ _ p.den_nz q.den_nz];refine Bd.sum hk (aP hp.1 hq.2) ?_ ?_ (Nat.mul_ne_zero p.den_nz q.den_nz) rfl
 .rw[Nat.add_comm];exact aP hq.1 hp.2
 exact Nat.lt_trans (aP hp.2 hq.2) (Nat.pow_lt_pow_right (by decide) (by omega))
theorem Bd.sub {j k:Nat} {p q:Rat} (hp:Bd j p) (hq:Bd k q) (hk:1<=j+k):Bd (j+k+1) (p - q):=by
 rw[Rat.sub_eq_add_neg];exact hp.add hq.neg hk
def fQ (q:Rat):Int:=q.num.sign
theorem FY {q:Rat} (h:q.num.natAbs=0):fQ q=0:=by
 unfold fQ;have:q.num=0:=by omega
 rw[this];rfl
theorem yA {q:Rat} (h:q.num<0):fQ q= -1:=Int.sign_eq_neg_one_of_neg h
theorem D9 {q:Rat} (h0:q.num.natAbs≠0) (h: ¬q.num<0):fQ q=1:=Int.sign_eq_one_of_pos (by omega)
end Go.Pl
namespace Go.Proofs.YtjjbkjgifdhlcaaGreat
open Go.AM Go.Pl
set_option maxRecDepth 100000
set_option maxHeartbeats 1000000
theorem Cw (q:Rat):Den Tryz.prog 127 [] [FR q] [] (FR q):=by
 rw[bt];refine dq Tryz.func127 12 0 ?_;refine aW ?_;refine a_ rfl
theorem Qw (r:Raw) (hr:r.Ok 5000000000):Den Tryz.prog 68 [] [r.v] [] (FR r.q):=by
 have Pj:=uo r hr;have Bg:=Cw r.q;rw[bt] at Pj Bg ⊢;unfold Raw.v at Pj ⊢;refine dq Tryz.func68 5 0 ?_;refine aW ?_;refine aM Pj ?_;refine aN ?_;refine aM Bg ?_;refine aN ?_;refine a_ rfl
theorem nF (r:Raw) (hr:r.Ok 5000000000):Den Tryz.prog 84 [] [r.v] [] (.int .i64 (fQ r.q)):=by
 have Pj:=uo r hr;rw[bt] at Pj;unfold Raw.v at Pj ⊢;obtain⟨n,hn⟩:=ax r.q.num.natAbs;have hz:((ak n).length:Int)=0↔n=0:=⟨fun h=>gF (by omega),fun h=>by rw[h,bR];rfl⟩;rw[hn,bQ] at Pj;refine dq Tryz.func84 15 0 ?_;refine aW ?_;refine aM Pj ?_;refine aN ?_;refine Br.beqInt ?_ ?_
 .intro h1 h2;have hs:=FY (hn.trans (hz.1 h1));refine ae h2 ?_;refine a_ ?_;exact kT hs
 intro h1 h2;refine ae h2 ?_;refine bM ?_ ?_
 .intro h3 h4;have hs:=yA h3;refine ae h4 ?_;refine a_ ?_;exact kT hs
 intro h3 h4;have hs:=D9 (q:=r.q) (fun h=>h1 (hz.2 (hn.symm.trans h))) h3;refine ae h4 ?_;refine a_ ?_;exact kT hs
set_option maxHeartbeats 2000000
theorem d5 {n:Nat}:((ak n).length:Int)=0↔n=0:=⟨fun h=>gF (by omega),fun h=>by rw[h,bR];rfl⟩
theorem cC {n k:Nat} (h:n<B^k):(ak n).length<=k:=aI h
theorem Qx (q:Rat):FR (-q)= .agg [.bool (!decide (q.num<0)&&decide (((ak q.num.natAbs).length:Int)>0)),.fv (N q.num.natAbs),.fv (N q.den)]:=by
 have h1:(-q).num= -q.num:=rfl;have h2:(-q).den=q.den:=rfl;rw[bt,h1,h2,Int.natAbs_neg];congr 3;by_cases h:q.num=0
 .have h3:((ak q.num.natAbs).length:Int)=0:=d5.2 (by omega);rw[h3,h];rfl
 have h3:((ak q.num.natAbs).length:Int)≠0:=fun h4=>h (by have:=d5.1 h4;omega)
 have h4:((ak q.num.natAbs).length:Int)>0:=by omega
 rw[f3 h4,Bool.and_true];by_cases h5:q.num<0
 .rw[f3 h5,jI (show¬(-q.num<0) by omega)];rfl
 rw[jI h5,f3 (show -q.num<0 by omega)];rfl
theorem Ya (r:Raw) (hr:r.Ok 5000000000):Den Tryz.prog 132 [] [r.v] [] (FR (-r.q)):=by
 have Pj:=uo r hr;have Bg:=Cw (-r.q);rw[bt] at Pj;rw[Qx] at Bg ⊢;unfold Raw.v at Pj ⊢;obtain⟨n,hn⟩:=ax r.q.num.natAbs;obtain⟨s,hs⟩:=ax (decide (r.q.num<0));obtain⟨d,hd⟩:=ax (N r.q.den);rw[hn,hs,hd,bQ] at Pj Bg ⊢;refine dq Tryz.func132 20 0 ?_;refine aW ?_;refine aM Pj ?_;cases s
 .have e1:(!false)=true:=rfl;have e2: ∀ b,(true&&b)=b:=fun _=>rfl
  rw[e1,e2] at Bg ⊢;refine ae e1 ?_;refine aM Bg ?_;refine aN ?_;refine a_ rfl
 have e1:(!true)=false:=rfl;have e2: ∀ b,(false&&b)=false:=fun _=>rfl
 rw[e1,e2] at Bg ⊢;refine ae e1 ?_;refine aM Bg ?_;refine aN ?_;refine a_ rfl
theorem Qy (r1 r2:Raw) (ib:r1.Ok 2000000000) (iM:r2.Ok 2000000000):Den Tryz.prog 70 [] [r1.v,r2.v] [] (FR (r1.q*r2.q)):=by
 have ha:=uo r1 (ib.mono (by decide));have hb:=uo r2 (iM.mono (by decide));have b1:=ib.bd (by decide);have b2:=iM.bd (by decide);have c1:=bj b1;have c2:=bj b2;have hq:g5 (decide (r1.q.num<0) !=decide (r2.q.num<0)) (r1.q.num.natAbs*r2.q.num.natAbs) (r1.q.den*r2.q.den)=r1.q*r2.q:=by
  rw[<-uq,db,db]
 have pB:=y9 (ak r1.q.num.natAbs) (ak r2.q.num.natAbs) (ar _) (ar _) (by have:=c1.lnum;simp only[cn] at this;omega) (by have:=c2.lnum;simp only[cn] at this;omega);have m_:=y9 (ak r1.q.den) (ak r2.q.den) (ar _) (ar _) (by have:=c1.lden;simp only[cn] at this;omega) (by have:=c2.lden;simp only[cn] at this;omega);have xM:=cC (aP b1.1 b2.1);have qZ:=cC (aP b1.2 b2.2);have xO:=xf (decide (r1.q.num<0) !=decide (r2.q.num<0)) (ak (r1.q.num.natAbs*r2.q.num.natAbs)) (ak (r1.q.den*r2.q.den)) (ar _) (ar _) (by omega) (by omega) (by rw[ao];exact Nat.mul_ne_zero r1.q.den_nz r2.q.den_nz);rw[ao,ao,hq] at xO;rw[ao,ao] at pB m_;have Bg:=Cw (r1.q*r2.q);rw[bt] at ha hb xO Bg ⊢;unfold Raw.v at ha hb ⊢;rw[bQ] at pB m_;rw[bQ,bQ] at ha hb
 refine dq Tryz.func70 32 0 ?_;refine aW ?_;refine dw (by kernel_rfl) ?_;refine aN ?_;refine aM ha ?_;refine aN ?_;refine aM hb ?_;refine aN ?_;refine dw (by kernel_rfl) ?_;refine aN ?_;refine aM pB ?_;refine aN ?_;refine aM m_ ?_;refine aN ?_;refine aM xO ?_;refine aN ?_;refine aM Bg ?_;refine aN ?_;refine a_ rfl
theorem Qz (r1 r2:Raw) (ib:r1.Ok 2000000000) (iM:r2.Ok 2000000000) (h0:r2.q≠0):Den Tryz.prog 73 [] [r1.v,r2.v] [] (.tup [FR (r1.q / r2.q),.int .i64 0]):=by
 have ha:=uo r1 (ib.mono (by decide));have hb:=uo r2 (iM.mono (by decide));have b1:=ib.bd (by decide);have b2:=iM.bd (by decide);have c1:=bj b1;have c2:=bj b2;have Bf:r2.q.num.natAbs≠0:=fun h=>h0 (Rat.num_eq_zero.1 (by omega))
 have hq:g5 (decide (r1.q.num<0) !=decide (r2.q.num<0)) (r1.q.num.natAbs*r2.q.den) (r1.q.den*r2.q.num.natAbs)=r1.q / r2.q:=by
  rw[<-yz Bf r2.q.den_nz,db,db]
 have pB:=y9 (ak r1.q.num.natAbs) (ak r2.q.den) (ar _) (ar _) (by have:=c1.lnum;simp only[cn] at this;omega) (by have:=c2.lden;simp only[cn] at this;omega);have m_:=y9 (ak r1.q.den) (ak r2.q.num.natAbs) (ar _) (ar _) (by have:=c1.lden;simp only[cn] at this;omega) (by have:=c2.lnum;simp only[cn] at this;omega);have xM:=cC (aP b1.1 b2.2);have qZ:=cC (aP b1.2 b2.1);have xO:=xf (decide (r1.q.num<0) !=decide (r2.q.num<0)) (ak (r1.q.num.natAbs*r2.q.den)) (ak (r1.q.den*r2.q.num.natAbs)) (ar _) (ar _) (by omega) (by omega) (by rw[ao];exact Nat.mul_ne_zero r1.q.den_nz Bf);rw[ao,ao,hq] at xO;rw[ao,ao] at pB m_;have Bg:=Cw (r1.q / r2.q);have hz:(((ak r2.q.num.natAbs).length:Int)==0)=false:=by
  rw[qx];exact fun h=>Bf (d5.1 h)
 rw[bt] at ha hb xO Bg ⊢;unfold Raw.v at ha hb ⊢;rw[bQ] at pB m_;rw[bQ,bQ] at ha hb;refine dq Tryz.func73 39 0 ?_;refine aW ?_;refine dw (by kernel_rfl) ?_;refine aN ?_;refine aM ha ?_;refine aN ?_;refine aM hb ?_;refine ae hz ?_;refine dw (by kernel_rfl) ?_;refine aN ?_;refine aM pB ?_;refine aN ?_;refine aM m_ ?_;refine aN ?_;refine aM xO ?_;refine aN ?_;refine aM Bg ?_;refine aN ?_;refine a_ rfl
theorem Yb (d:Nat) (hd:(ak d).length<100000000000):Den Tryz.prog 128 [] [.fv (.sl (u32s (ak d)))] [] (.bool (decide (d=1))):=by
 have xM:(ak 1)=[1]:=nB (l:=[1]) (fun d hd=>by simp at hd;subst hd;decide) (Or.inr (by decide));have hv:=ao d;obtain⟨l,hl⟩:=ax (ak d);rw[hl] at hd hv;rw[hl];refine dq Tryz.func128 11 0 ?_;refine aW ?_;refine Br.beqInt ?_ ?_
 .intro h1 h2;obtain⟨y,rfl⟩: ∃ y,l=[y]:=length_eq_one_iff.1 (by omega);have hdy:d=y:=by rw[<-hv];simp[val]
  have hyg:(u32s [y]).getD 0 []=[FV.lit (Value.int .u32 y)]:=rfl;have hb:((y:Int)==1)=decide (d=1):=by
   rw[hdy];by_cases h:y=1
   .subst h;rfl
   rw[jI h,qx];omega
  have aa6:([y]:List Nat).length=1:=rfl;have sq:(((1:Nat):Int)==1)=true:=rfl;refine ae (dR hyg hb aa6 sq) ?_;refine⟨by simp,?_⟩;refine a_ ?_;exact Ih
 intro h1 h2;have hb:decide (d=1)=false:=jI (fun h=>h1 (by rw[h,xM] at hl;subst hl;rfl));refine ae h2 ?_;refine a_ ?_;exact kT hb
theorem Yc (k:Nat) (hk:k<=4000000000) (s t:Bool) (a c d:Nat) (ha:a<B^k) (hc:c<B^k) (hd:d<B^k) (iS:d≠0):
 Den Tryz.prog 129 [] [.bool s,.fv (.sl (u32s (ak a))),.bool t,.fv (.sl (u32s (ak c))),.fv (.sl (u32s (ak d)))] [] (FR (g5 s a d+g5 t c d)):=by
 have yk:=cC ha
 have Kx:=cC hc
 have vH:=cC hd
 have pe:=cC (oA ha hc)
 by_cases ck:s=t
 .have lU:=aeb (ak a) (ak c) (ar _) (ar _) (by omega) (by omega)
  rw[ao,ao,bQ] at lU
  have xO:=xf s (ak (a+c)) (ak d) (ar _) (ar _) (by omega) (by omega) (by rw[ao];exact iS)
  rw[ao,ao,<-D8 ck iS,bt] at xO
  rw[bt]
  have hb:(s==t)=true:=by rw[ck];exact beq_self_eq_true _
  refine dq Tryz.func129 34 0 ?_
  refine bw hb ?_
  refine aM lU ?_
  refine aN ?_
  refine aM xO ?_
  refine aN ?_
  refine a_ rfl
 have hb:(s==t)=false:=by rw[qx];exact ck
 have I1:=FJ (ak a) (ak c) (ar _) (ar _) (by omega) (by omega)
 rw[ao,ao] at I1
 refine dq Tryz.func129 34 0 ?_
 refine bw hb ?_
 refine aM I1 ?_
 refine aN ?_
 refine bM ?_ ?_
 .intro h1 h2
  rw[um] at h1
  have lV:=X7 (ak c) (ak a) (ar _) (ar _) (by omega) (by omega) (by rw[ao,ao];omega)
  rw[ao,ao,bQ] at lV
  have kv:=cM (Nat.sub_le c a)
  have xO:=xf t (ak (c - a)) (ak d) (ar _) (ar _) (by omega) (by omega) (by rw[ao];exact iS)
  rw[ao,ao,<-vU ck h1 iS,bt] at xO
  rw[bt]
  refine ae h2 ?_
  refine aM lV ?_
  refine aN ?_
  refine aM xO ?_
  refine aN ?_
  refine a_ rfl
 intro h1 h2
 rw[um] at h1
 have lV:=X7 (ak a) (ak c) (ar _) (ar _) (by omega) (by omega) (by rw[ao,ao];omega)
 rw[ao,ao,bQ] at lV
 have kv:=cM (Nat.sub_le a c)
 have xO:=xf s (ak (a - c)) (ak d) (ar _) (ar _) (by omega) (by omega) (by rw[ao];exact iS)
 rw[ao,ao,<-vV ck h1 iS,bt] at xO
 rw[bt]
 refine ae h2 ?_
 refine aM lV ?_
 refine aN ?_
 refine aM xO ?_
 refine aN ?_
 refine a_ rfl
theorem pT {x j m:Nat} (h:x<B^j) (hj:j<=m):x<B^m:=Nat.lt_of_lt_of_le h (Nat.pow_le_pow_right (by decide) hj)
theorem Lr (r1 r2:Raw) (ib:r1.Ok 1000000000) (iM:r2.Ok 1000000000):Den Tryz.prog 69 [] [r1.v,r2.v] [] (FR (r1.q+r2.q)):=by
 have ha:=uo r1 (ib.mono (by decide));have hb:=uo r2 (iM.mono (by decide));have b1:=ib.bd (by decide);have b2:=iM.bd (by decide);have c1:=bj b1;have c2:=bj b2;have o1:=Yb r1.q.den (by have:=c1.lden;simp only[cn] at this;omega);have o2:=Yb r2.q.den (by have:=c2.lden;simp only[cn] at this;omega);have hq:=s8 (decide (r1.q.num<0)) (decide (r2.q.num<0)) (a:=r1.q.num.natAbs) (c:=r2.q.num.natAbs) r1.q.den_nz r2.q.den_nz;rw[db,db] at hq;have pB:=y9 (ak r1.q.num.natAbs) (ak r2.q.den) (ar _) (ar _) (by have:=c1.lnum;simp only[cn] at this;omega) (by have:=c2.lden;simp only[cn] at this;omega);have m_:=y9 (ak r2.q.num.natAbs) (ak r1.q.den) (ar _) (ar _) (by have:=c2.lnum;simp only[cn] at this;omega) (by have:=c1.lden;simp only[cn] at this;omega)
 have Wz:=y9 (ak r1.q.den) (ak r2.q.den) (ar _) (ar _) (by have:=c1.lden;simp only[cn] at this;omega) (by have:=c2.lden;simp only[cn] at this;omega);obtain⟨k,hk⟩: ∃ k,k=2000000000:=⟨_,rfl⟩;have hc:=Yc k (by omega) (decide (r1.q.num<0)) (decide (r2.q.num<0)) (r1.q.num.natAbs*r2.q.den) (r2.q.num.natAbs*r1.q.den) (r1.q.den*r2.q.den) (pT (aP b1.1 b2.2) (by omega)) (pT (aP b2.1 b1.2) (by omega)) (pT (aP b1.2 b2.2) (by omega)) (Nat.mul_ne_zero r1.q.den_nz r2.q.den_nz);have sq:=Yc k (by omega) (decide (r1.q.num<0)) (decide (r2.q.num<0)) r1.q.num.natAbs r2.q.num.natAbs r1.q.den (pT b1.1 (by omega)) (pT b2.1 (by omega)) (pT b1.2 (by omega)) r1.q.den_nz;rw[<-hq] at hc;rw[ao,ao] at pB m_ Wz;have Bg:=Cw (r1.q+r2.q)
 have fA:r1.q.den=1->r2.q.den=1->g5 (decide (r1.q.num<0)) r1.q.num.natAbs r1.q.den+g5 (decide (r2.q.num<0)) r2.q.num.natAbs r1.q.den=r1.q+r2.q:=by
  intro h1 h2;have e1:=db r1.q;have e2:=db r2.q;rw[h2] at e2;rw[h1] at e1;rw[h1,e1,e2]
 generalize ku:r1.q+r2.q=z at*;rw[bt] at ha hb hc sq Bg ⊢;unfold Raw.v at ha hb ⊢;rw[bQ] at pB m_ Wz;rw[bQ,bQ] at ha hb;refine dq Tryz.func69 65 0 ?_;refine aW ?_;refine dw (by kernel_rfl) ?_;refine aN ?_;refine aM ha ?_;refine aN ?_;refine aM hb ?_;refine aN ?_;refine aM o1 ?_;refine aN ?_;refine bM ?_ ?_
 .intro h1 h2;refine ae h2 ?_;refine aM o2 ?_;refine aN ?_;refine bM ?_ ?_
  .intro h3 h4;rw[fA h1 h3] at sq;refine ae h4 ?_;refine aM sq ?_;refine aN ?_;refine aM Bg ?_;refine aN ?_;refine a_ rfl
  intro h3 h4;refine ae h4 ?_;refine dw (by kernel_rfl) ?_;refine aN ?_;refine aM pB ?_;refine aN ?_;refine aM m_ ?_;refine aN ?_;refine aM Wz ?_;refine aN ?_;refine aM hc ?_;refine aN ?_;refine aM Bg ?_;refine aN ?_;refine a_ rfl
 intro h1 h2;refine ae h2 ?_;refine dw (by kernel_rfl) ?_;refine aN ?_;refine aM pB ?_;refine aN ?_;refine aM m_ ?_;refine aN ?_;refine aM Wz ?_;refine aN ?_;refine aM hc ?_;refine aN ?_;refine aM Bg ?_;refine aN ?_;refine a_ rfl
theorem aeh (r1 r2:Raw) (ib:r1.Ok 1000000000) (iM:r2.Ok 1000000000):Den Tryz.prog 258 [] [r1.v,r2.v] [] (FR (r1.q - r2.q)):=by
 have Ky:=Ya r2 (iM.mono (by decide));have b2:=iM.bd (by decide);have yS:=Lr r1 (cn (-r2.q)) ib (bj b2.neg);rw[cu,<-Rat.sub_eq_add_neg] at yS;change Den Tryz.prog 69 [] [r1.v,FR (-r2.q)] [] _ at yS;rw[bt] at Ky;rw[bt,bt] at yS;rw[bt];unfold Raw.v at Ky yS ⊢;refine dq Tryz.func258 7 0 ?_;refine aW ?_;refine dw (by kernel_rfl) ?_;refine aN ?_;refine aM Ky ?_;refine aN ?_;refine aM yS ?_;refine aN ?_;refine a_ rfl
theorem aei (r1 r2:Raw) (ib:r1.Ok 1000000000) (iM:r2.Ok 1000000000):Den Tryz.prog 234 [] [r1.v,r2.v] [] (.int .i64 (fQ (r1.q - r2.q))):=by
 have b1:=ib.bd (by decide);have b2:=iM.bd (by decide);have h77:=aeh r1 r2 ib iM;have fM:=nF (cn (r1.q - r2.q)) ((bj (b1.sub b2 (by decide))).mono (by decide));rw[cu] at fM;change Den Tryz.prog 84 [] [FR (r1.q - r2.q)] [] _ at fM;rw[bt] at h77 fM;unfold Raw.v at h77 ⊢;refine dq Tryz.func234 7 0 ?_;refine aW ?_;refine aM h77 ?_;refine aN ?_;refine aM fM ?_;refine aN ?_;refine a_ ?_;exact Ih
theorem aej (n:Int) (hn: -9223372036854775808<=n/\n<9223372036854775808):Den Tryz.prog 136 [] [.int .i64 n] [] (.tup [.bool (decide (n<0)),.fv (N n.natAbs)]):=by
 refine dq Tryz.func136 19 0 ?_;refine aW ?_;obtain⟨x,hx⟩:=ax n.natAbs;rw[hx];have ej:IntKind.u32.wrap (x:Int)=((x % 4294967296:Nat):Int):=by rw[dV,Int.natCast_emod];rfl
 have eC:(x:Int) / 4294967296=((x / 4294967296:Nat):Int):=by rw[Int.natCast_ediv];rfl
 have I2:=FI [x % 4294967296,x / 4294967296] (Dig.mk (Nat.mod_lt _ (by decide)) (Dig.mk (by simp only[B];omega) Dig.nil)) (by simp);have hv:val [x % 4294967296,x / 4294967296]=x:=by
  simp only[val,B,Nat.mul_zero,Nat.add_zero];exact Nat.mod_add_div x 4294967296
 rw[hv] at I2;obtain⟨lo,aaT⟩:=ax (x % 4294967296);obtain⟨hi,agm⟩:=ax (x / 4294967296);rw[aaT] at ej;rw[agm] at eC;rw[aaT,agm] at I2;refine bM ?_ ?_
 .intro h1 h2;have hw:IntKind.u64.wrap (0 - IntKind.u64.wrap n)=(x:Int):=by rw[sk,sk];omega
  refine ae (dR h2 hw ej eC) ?_;refine⟨by omega,?_⟩;refine gp I2 ?_ ?_
  .rfl
  refine aN ?_;refine a_ ?_;refine sA ?_;rw[h2]
 intro h1 h2;have hw:IntKind.u64.wrap n=(x:Int):=by rw[sk];omega
 refine ae (dR h2 hw ej eC) ?_;refine⟨by omega,?_⟩;refine gp I2 ?_ ?_
 .rfl
 refine aN ?_;refine a_ ?_;refine sA ?_;rw[h2]
theorem D_ (n:Int):g5 (decide (n<0)) n.natAbs 1=(n:Rat):=by
 unfold g5;have h:sg (decide (n<0)) n.natAbs=n:=by
  unfold sg;by_cases h:n<0
  .simp only[h,decide_true,if_true];omega
  simp only[h,decide_false];simp;omega
 rw[h];exact Rat.mkRat_one n
theorem zg (n:Int) (hn: -9223372036854775808<=n/\n<9223372036854775808):Den Tryz.prog 74 [] [.int .i64 n] [] (FR (n:Rat)):=by
 have h72:=aej n hn;have hl:(ak n.natAbs).length<=2:=aI (Nat.lt_of_lt_of_le (show n.natAbs<18446744073709551616 by omega) (by decide));have xO:=xf (decide (n<0)) (ak n.natAbs) [1] (ar _) (Dig.mk (by decide) Dig.nil) (by omega) (by simp) (by simp[val]);have hv1:val [1]=1:=rfl;rw[ao,hv1,D_] at xO;have Bg:=Cw (n:Rat);rw[bt] at Bg xO ⊢;rw[bQ] at h72;refine dq Tryz.func74 14 0 ?_;refine aW ?_;refine aM h72 ?_;refine aN ?_;refine gp xO ?_ ?_
 .rfl
 refine aN ?_;refine aM Bg ?_;refine aN ?_;refine a_ rfl
theorem Yd (l:List Nat) (hd:Dig l) (hl:l.length<1000000000000):Den Tryz.prog 138 [] [.fv (.sl (u32s l))] [.row true (u32s (ak (val l)))] (.lsl 0 0 (ak (val l)).length 1):=by
 refine dq Tryz.func138 21 0 ?_;refine aW ?_;refine wl (α:=Nat) (fun n=>⟨.fv (.sl (u32s l)):: .any:: .nilsl:: .int .i64 n::replicate 18 .any,[]⟩) (fun n=>n) (fun n=>n<=l.length/\ma (l.take n)=ma l) l.length ?_ ?_ ?_
 .refine wk [] nodup_nil rfl ?_ ?_
  .simp[bh,dF,cw]
  trivial
 .exact⟨qp _,by rw[List.take_length]⟩
 rintro n ⟨hn,ht⟩;have aL:(l.take n).length=n:=by rw[length_take];omega
 refine aW ?_;refine bM ?_ ?_
 .intro h1 h2;obtain⟨j,rfl⟩: ∃ j,n=j+1:=⟨n - 1,by omega⟩;have hj:(((j+1:Nat):Int) - 1).toNat=j:=by omega
  refine ae (aB h2 hj) ?_;refine⟨by omega,?_⟩;have hg:(l.take (j+1)).getD ((l.take (j+1)).length - 1) 0=l.getD j 0:=by
   rw[aL,Nat.add_sub_cancel];simp only[qa];rw[List.getElem?_take_of_lt (by omega)]
  refine Br.beqInt ?_ ?_
  .intro h3 h4;refine ae h4 ?_;refine aA j ?_ ⟨by omega,?_⟩
   .refine wk [] nodup_nil rfl ?_ ?_
    .simp[bh,dF,cw]
    trivial
   rw[<-ht]
   conv=>rhs;rw[ma.eq_def]
   rw[dif_pos (by omega),if_pos (by rw[hg];omega),aL,Nat.add_sub_cancel,List.take_take,Nat.min_eq_left (by omega)]
  intro h3 h4;have jg:l.take (j+1)=ak (val l):=by
   rw[<-ud l hd,<-ht,ma.eq_def,dif_pos (by omega),if_neg (by rw[hg];omega)]
  refine ae (bA h4 @Nat.sub_zero aL) ?_;refine⟨by omega,by omega,?_⟩;rw[<-jg,aL];exact RetOK.own rfl ⟨cK,cK⟩ rfl
 intro h1 h2;have Bf:n=0:=by omega
 have jg:l.take n=ak (val l):=by
  rw[<-ud l hd,<-ht,ma.eq_def,dif_neg (by omega)]
 refine ae (bA h2 @Nat.sub_zero aL) ?_;refine⟨by omega,by omega,?_⟩;rw[<-jg,aL];exact RetOK.own rfl ⟨cK,cK⟩ rfl
theorem fX (l:List Nat) (hd:Dig l) (hl:l.length<1000000000000):Den Tryz.prog 138 [] [.fv (.sl (u32s l))] [] (.fv (N (val l))):=by
 refine(Yd l hd hl).freeze ?_;simp[t6,yO,vm,eo,dZ,List.idxOf?_nil,aR,N];rw[dm (by simp[aR])]
theorem Ye (a b:List Nat) (yk:a.length<1000000000000) (yQ:b.length<1000000000000):Den Tryz.prog 120 [] [.fv (.sl (u32s a)),.fv (.sl (u32s b))] [] (.bool (a==b)):=by
 refine dq Tryz.func120 24 0 ?_;refine aW ?_;refine Br.bneInt ?_ ?_
 .intro h1 h2;refine ae h2 ?_;refine a_ ?_;refine sA ?_;have:a≠b:=by intro h;subst h;exact h1 rfl
  simp[this]
 intro h1 h2;refine ae h2 ?_;refine wl (α:=Nat) (fun i=>⟨.fv (.sl (u32s a)):: .fv (.sl (u32s b)):: .any:: .any:: .fv (.lit (.bool false)):: .int .i64 i::replicate 20 .any,[]⟩) (fun i=>a.length - i) (fun i=>i<=a.length/\a.take i=b.take i) 0 ?_ ?_ ?_
 .refine wk [] nodup_nil rfl ?_ ?_
  .simp[bh,dF,cw]
  trivial
 .exact⟨by omega,by simp⟩
 rintro i ⟨hi,ht⟩;refine aW ?_;refine bM ?_ ?_
 .intro h3 h4;refine ae h4 ?_;refine dw (by kernel_rfl) ?_;refine aN ?_;refine⟨by omega,by omega,?_⟩;refine Br.bneInt ?_ ?_
  .intro h5 h6;refine ae h6 ?_;refine a_ ?_;refine sA ?_;have:a≠b:=by intro h;subst h;exact h5 rfl
   simp[this]
  intro h5 h6;refine ae h6 ?_;refine aA (i+1) ?_ ⟨by omega,?_⟩
  .refine wk [] nodup_nil rfl ?_ ?_
   .simp[bh,dF,cw]
   trivial
  have hia:i<a.length:=by omega
  have WB:i<b.length:=by omega
  rw[take_succ_eq_append_getElem hia,take_succ_eq_append_getElem WB,ht];have e1:a.getD i 0=a[i]:=by simp[hia]
  have e2:b.getD i 0=b[i]:=by simp[WB]
  rw[<-e1,<-e2,show a.getD i 0=b.getD i 0 by omega]
 intro h3 h4;refine ae h4 ?_;refine a_ ?_;refine sA ?_;rw[dm (by omega),dm (by omega)] at ht;simp[ht]
theorem QA (a b:List Nat) (ha:Dig a) (hb:Dig b) (yk:a.length<100000000000) (yQ:b.length<100000000000):Den Tryz.prog 173 [] [.fv (.sl (u32s a)),.fv (.sl (u32s b))] [] (.int .i64 (pH (val a) (val b))):=by
 have hxa:(ak (val a)).length<=a.length:=aI (bZ ha);have mG:(ak (val b)).length<=b.length:=aI (bZ hb);have hda:=ar (val a);have Wm:=ar (val b);refine dq Tryz.func173 43 0 ?_;refine aW ?_;refine gp (fX a ha (by omega)) rfl ?_;refine aN ?_;refine gp (fX b hb (by omega)) rfl ?_;refine ae @bQ ?_;refine Br.bneInt ?_ ?_
 .intro h1 h2;refine ae h2 ?_;refine bM ?_ ?_
  .intro h3 h4;refine ae h4 ?_;refine a_ ?_;refine sA ?_;rw[q_ (kL (by omega))]
  intro h3 h4;refine ae h4 ?_;refine a_ ?_;refine sA ?_;rw[yw (kL (by omega))]
 intro h1 h2;refine ae h2 ?_;generalize hp:ak (val a)=p at*;generalize hq:ak (val b)=q at*;refine wl (α:=Nat) (fun k=>⟨.fv (.sl (u32s p)):: .fv (.sl (u32s q)):: .any:: .any:: .int .i64 0:: .int .i64 ((k:Int) - 1)::replicate 39 .any,[]⟩) (fun k=>k) (fun k=>k<=p.length/\p.drop k=q.drop k) p.length ?_ ?_ ?_
 .exact bx []
 .exact⟨qp _,by rw[List.drop_of_length_le (qp _),List.drop_of_length_le (by omega)]⟩
 rintro k ⟨hk,Pb⟩;refine aW ?_;refine bM ?_ ?_
 .intro h3 h4;refine ae h4 ?_;refine dw (by kernel_rfl) ?_;refine aN ?_;refine⟨by omega,by omega,?_⟩;obtain⟨j,rfl⟩: ∃ j,k=j+1:=⟨k - 1,by omega⟩;have hj:(((j+1:Nat):Int) - 1).toNat=j:=by omega
  rw[hj];have Cc:val p=val a:=by rw[<-hp,ao]
  have Ij:val q=val b:=by rw[<-hq,ao]
  refine bM ?_ ?_
  .intro h5 h6;refine ae h6 ?_;refine a_ ?_;refine sA ?_;rw[<-Cc,<-Ij,q_ (ue hda (by omega) (by omega) Pb (by omega))]
  intro h5 h6;refine ae h6 ?_;refine dw (by kernel_rfl) ?_;refine ae hj ?_;refine⟨by omega,by omega,?_⟩;refine bM ?_ ?_
  .intro h7 h8;refine ae h8 ?_;refine a_ ?_;refine sA ?_;rw[<-Cc,<-Ij,yw (ue Wm (by omega) (by omega) Pb.symm (by omega))]
  intro h7 h8;refine ae h8 ?_;refine aA j ?_ ⟨by omega,?_⟩
  .exact bx []
  have hpj:p.drop j=p.getD j 0::p.drop (j+1):=by rw[qj (by omega)];simp[show j<p.length by omega]
  have Y3:q.drop j=q.getD j 0::q.drop (j+1):=by rw[qj (by omega)];simp[show j<q.length by omega]
  rw[hpj,Y3,Pb,show p.getD j 0=q.getD j 0 by omega]
 intro h3 h4;refine ae h4 ?_;refine a_ ?_;refine sA ?_;have Wn:k=0:=by omega
 subst Wn;simp only[List.drop_zero] at Pb;subst Pb;have:val a=val b:=by rw[<-ao (val a),hp,<-hq,ao]
 rw[this,Li]
theorem aek (l:List Nat) (d:Nat) (hl:Dig l) (nk:l.length<100000000000) (hd:d<4294967296) (iS:0<d):
 Den Tryz.prog 209 [] [.fv (.sl (u32s l)),.int .u32 d] [] (.tup [.fv (N (val l / d)),.int .u32 ((val l % d:Nat):Int)]):=by
 refine dq Tryz.func209 42 0 ?_
 refine aW ?_
 refine⟨by omega,?_⟩
 refine wl (α:=Nat×Nat×List Nat) (fun⟨k,r,out⟩=>⟨.fv (.sl (u32s l)):: .int .u32 d:: .any:: .any:: .nilsl:: .fv (.lit (.int .u32 0)):: .lsl 0 0 l.length 1:: .int .u64 r:: .int .i64 ((k:Int) - 1)::replicate 35 .any,[.row true (u32s out)]⟩)
  (fun⟨k,_,_⟩=>k) (fun⟨k,r,out⟩=>k<=l.length/\r<d/\out.length=l.length/\Dig out/\val (out.drop k)*d+r=val (l.drop k)) (l.length,0,replicate l.length 0) ?_ ?_ ?_
 .exact bx [0]
 .exact⟨by omega,iS,by simp,Dig.zeros,by simp[val]⟩
 rintro⟨k,r,out⟩ ⟨hk,hr,ho,Ce,hv⟩
 refine aW ?_
 refine bM ?_ ?_
 .intro h1 h2
  obtain⟨j,rfl⟩: ∃ j,k=j+1:=⟨k - 1,by omega⟩
  have hj:(((j+1:Nat):Int) - 1).toNat=j:=by omega
  have hx:=hl.getD j
  simp only[B] at hx
  have vH:=ft (l:=l) (j:=j) (by omega)
  generalize Fb:l.getD j 0=x at*
  have hq:(r*4294967296+x) / d<4294967296:=by
   rw[Nat.div_lt_iff_lt_mul (by omega)];have:(r+1)*4294967296<=d*4294967296:=qn _ hr;rw[Nat.mul_comm 4294967296 d];omega
  have iM:(r*4294967296+x) % d<d:=Nat.mod_lt _ (by omega)
  have hqr:=Nat.mod_add_div (r*4294967296+x) d
  have e1:((r:Int)*4294967296+x) / d=(((r*4294967296+x) / d:Nat):Int):=by
   rw[Int.natCast_ediv,Int.natCast_add,Int.natCast_mul];rfl
  have e2:((r:Int)*4294967296+x) % d=(((r*4294967296+x) % d:Nat):Int):=by
   rw[Int.natCast_emod,Int.natCast_add,Int.natCast_mul];rfl
  generalize (r*4294967296+x) / d=Q at*
  generalize (r*4294967296+x) % d=R at*
  refine ae (dN h2 hj Fb @xd e1 e2) ?_
  refine⟨by omega,by omega,by omega,by omega,by omega,by omega,?_⟩
  have Wp:=oy (l:=out) (j:=j) (x:=Q) (by omega)
  refine aA (j,R,out.set j Q) ?_ ⟨by omega,iM,by simp[ho],Ce.set _ hq,?_⟩
  .exact bx [0]
  rw[Wp,vH,<-hv]
  simp only[B]
  grind
 intro h1 h2
 refine ae h2 ?_
 have Wn:k=0:=by omega
 subst Wn
 simp only[List.drop_zero] at hv
 have tQ:val out=val l / d/\r=val l % d:=by
  rw[<-hv,Nat.mul_comm,Nat.mul_add_div iS,Nat.mul_add_mod,Nat.div_eq_of_lt hr,Nat.mod_eq_of_lt hr];exact⟨rfl,rfl⟩
 refine gp (fX out Ce (by omega)) ?_ ?_
 .simp[bJ,eT,eo,dZ,aR,ho]
  rw[dm (by simp[aR,ho])]
 refine aN ?_
 refine a_ ?_
 rw[<-tQ.1,<-tQ.2]
 exact Ih
theorem Yf (p q:List Nat) (hp:Dig p) (hq:Dig q) (Wj:p.length<100000000000) (hlq:q.length<100000000000):Den Tryz.prog 83 [] [.fv (.sl (u32s p)),.fv (.sl (u32s q))] [] (.fv (N (val p+val q))):=by
 refine dq Tryz.func83 50 0 ?_;refine aW ?_;have Pk: ∃ M:Nat,M=max p.length q.length:=⟨_,rfl⟩;obtain⟨M,hM⟩:=Pk;have hmi:(if(q.length:Int)>(p.length:Int) then(q.length:Int) else(p.length:Int))=(M:Int):=by split<;>omega
 refine ae hmi ?_;have hn:((M:Int)+1).toNat=M+1:=by omega
 refine⟨by omega,?_⟩;refine wl (α:=Nat×Nat×List Nat) (fun⟨i,c,out⟩=>⟨.fv (.sl (u32s p)):: .fv (.sl (u32s q)):: .any:: .any:: .nilsl:: .lsl 0 0 (M+1) 1:: .int .u64 c:: .int .i64 i::replicate 44 .any,[.row true (u32s out)]⟩)
  (fun⟨i,_,_⟩=>M+1 - i)
  (fun⟨i,c,out⟩=>i<=M+1/\c<=1/\out.length=M+1/\Dig out/\val (out.take i)+c*B^i=val (p.take i)+val (q.take i)) (0,0,replicate (M+1) 0) ?_ ?_ ?_
 .refine eH [0] ?_ ?_
  .simp[bh,dF,cw,hn]
  simp[d_,fD,hn]
 .exact⟨by omega,by omega,by simp,Dig.zeros,by simp[val]⟩
 rintro⟨i,c,out⟩ ⟨hi,hc,ho,hd,ow⟩;refine aW ?_;refine bM ?_ ?_
 .intro h1 h2;have T':=hp.getD i;have Ua:=hq.getD i;have Wk:=aO p i;have htq:=aO q i;have sB:p.length<=i->p.getD i 0=0:=fun h=>by rw[qa,getElem?_eq_none h];rfl
  have Ph:q.length<=i->q.getD i 0=0:=fun h=>by rw[qa,getElem?_eq_none h];rfl
  simp only[B] at T' Ua;generalize hP:p.getD i 0=x at*;generalize hQ:q.getD i 0=y at*;obtain⟨s,hs⟩: ∃ s,s=c+x+y:=⟨_,rfl⟩;have ck:=cR (l:=out) (i:=i) (by omega) (s % 4294967296);have fL:=k8 (B^i) s;have dM:val ((out.set i (s % 4294967296)).take (i+1))+s / 4294967296*B^(i+1)=val (p.take (i+1))+val (q.take (i+1)):=by
   rw[Nat.pow_succ,ck,Wk,htq,Nat.add_assoc];have h7:B^i*(s % 4294967296)+s / 4294967296*(B^i*B)=B^i*s:=fL;rw[h7,hs];grind
  have pM:Dig (out.set i (s % 4294967296)):=hd.set i (Nat.mod_lt _ (by decide));refine ae h2 ?_;refine bM ?_ ?_
  .intro h3 h4;refine ae (aB h4 hP) ?_;refine⟨by omega,?_⟩;refine bM ?_ ?_
   .intro h5 h6;have hw:IntKind.u32.wrap ((c:Int)+x+y)=((s % 4294967296:Nat):Int):=by rw[dV];omega
    have Ta:((c:Int)+x+y) / 4294967296=((s / 4294967296:Nat):Int):=by omega
    refine ae (dR h6 hQ hw Ta) ?_;refine⟨by omega,by omega,by omega,by omega,?_⟩;refine aA (i+1,s / 4294967296,out.set i (s % 4294967296)) ?_ ⟨by omega,by omega,by simp[ho],pM,dM⟩;exact bx [0]
   intro h5 h6;have:=Ph (by omega);have hw:IntKind.u32.wrap ((c:Int)+x)=((s % 4294967296:Nat):Int):=by rw[dV];omega
   have Ta:((c:Int)+x) / 4294967296=((s / 4294967296:Nat):Int):=by omega
   refine ae (bA h6 hw Ta) ?_;refine⟨by omega,by omega,by omega,?_⟩;refine aA (i+1,s / 4294967296,out.set i (s % 4294967296)) ?_ ⟨by omega,by omega,by simp[ho],pM,dM⟩;exact bx [0]
  intro h3 h4;have:=sB (by omega);refine ae h4 ?_;refine bM ?_ ?_
  .intro h5 h6;have hw:IntKind.u32.wrap ((c:Int)+y)=((s % 4294967296:Nat):Int):=by rw[dV];omega
   have Ta:((c:Int)+y) / 4294967296=((s / 4294967296:Nat):Int):=by omega
   refine ae (dR h6 hQ hw Ta) ?_;refine⟨by omega,by omega,by omega,by omega,?_⟩;refine aA (i+1,s / 4294967296,out.set i (s % 4294967296)) ?_ ⟨by omega,by omega,by simp[ho],pM,dM⟩;exact bx [0]
  intro h5 h6;have:=Ph (by omega);have hw:IntKind.u32.wrap ((c:Int))=((s % 4294967296:Nat):Int):=by rw[dV];omega
  have Ta:((c:Int)) / 4294967296=((s / 4294967296:Nat):Int):=by omega
  refine ae (bA h6 hw Ta) ?_;refine⟨by omega,by omega,by omega,?_⟩;refine aA (i+1,s / 4294967296,out.set i (s % 4294967296)) ?_ ⟨by omega,by omega,by simp[ho],pM,dM⟩;exact bx [0]
 intro h1 h2;refine ae h2 ?_;have hiM:i=M+1:=by omega
 have PW:val out=val p+val q:=by
  rw[hiM,a8 (by omega),a8 (by omega),a8 (by omega)] at ow;have h5:=Nat.lt_of_lt_of_le (bZ hp) (Nat.pow_le_pow_right (show 0<B by decide) (show p.length<=M by omega));have h6:=Nat.lt_of_lt_of_le (bZ hq) (Nat.pow_le_pow_right (show 0<B by decide) (show q.length<=M by omega));rw[Nat.pow_succ] at ow;rcases Nat.eq_zero_or_pos c with h | h
  .subst h;omega
  exfalso;have:c=1:=by omega
  subst this;simp only[B] at*;omega
 refine gp (fX out hd (by omega)) ?_ ?_
 .simp[bJ,eT,eo,dZ,aR,ho];rw[dm (by simp[aR,ho])]
 refine aN ?_;refine a_ ?_;refine sA ?_;rw[PW]
theorem ur {x:Int} (h:0<=x/\x<18446744073709551616):(BitVec.ofInt IntKind.i64.bits x).toNat=x.toNat:=by
 show(BitVec.ofInt 64 x).toNat=x.toNat;rw[BitVec.toNat_ofInt];have:((2^64:Nat):Int)=18446744073709551616:=by decide
 rw[this];omega
theorem ZV {x:Int} (hx:0<=x/\x<9223372036854775808):
 IntKind.i64.wrap ((BitVec.ofInt IntKind.i64.bits x&&& BitVec.ofInt IntKind.i64.bits 4294967295).toNat:Int)=x % 4294967296:=by
 rw[BitVec.toNat_and,ur (by omega),ur (by omega)]
 have:(4294967295:Int).toNat=2^32 - 1:=by decide
 rw[this,Nat.and_two_pow_sub_one_eq_mod,kr (by omega)]
 omega
theorem Yg (n:Nat) (hn:n<9223372036854775808):Den Tryz.prog 82 [] [.int .i64 n] [] (.tup [.fv (N n),.int .i64 0]):=by
 have hv:val [n % 4294967296,n / 4294967296]=n:=by
  simp only[val,B];omega
 have hd:Dig [n % 4294967296,n / 4294967296]:=by
  intro d hd;simp at hd;rcases hd with rfl | rfl<;>(simp only[B];omega)
 have DS:=fX [n % 4294967296,n / 4294967296] hd (by simp);rw[hv] at DS;have iw:decide ((n:Int)<0)=false:=by simp
 refine dq Tryz.func82 13 0 ?_;refine bw (aB iw @ZV) ?_;refine⟨by omega,?_⟩;refine gp DS ?_ ?_
 .simp[bJ,eT,eo,dZ,u32s]
 refine aN ?_;refine a_ ?_;exact Ih
theorem UF (a b:List Nat) (ha:Dig a) (hb:Dig b) (yk:a.length<100000000000) (yQ:b.length<100000000000) (aL:val a<val b):
 Den Tryz.prog 125 [] [.fv (.sl (u32s a)),.fv (.sl (u32s b))] [] (.tup [.fv (.sl []),.int .i64 1]):=by
 refine dq Tryz.func125 54 0 ?_
 refine aW ?_
 refine gp (QA a b ha hb yk yQ) rfl ?_
 simp -dsimp(disch:=omega) only[q_ aL,↓reduceIte,ru]
 refine bM ?_ ?_
 .intro h1 h2
  refine ae h2 ?_
  refine a_ ?_
  exact Ih
 intro h1 h2
 omega
theorem Yh (a b:List Nat) (ha:Dig a) (hb:Dig b) (yk:a.length<100000000000) (yQ:b.length<100000000000) (dP:val b<=val a):
 Den Tryz.prog 125 [] [.fv (.sl (u32s a)),.fv (.sl (u32s b))] [] (.tup [.fv (N (val a - val b)),.int .i64 0]):=by
 have hxa:(ak (val a)).length<=a.length:=aI (bZ ha)
 have mG:(ak (val b)).length<=(ak (val a)).length:=ug dP
 have hp:=ar (val a)
 have hq:=ar (val b)
 have Cc:=ao (val a)
 have Ij:=ao (val b)
 have Cd:decide (pH (val a) (val b)<0)=false:=by
  unfold pH;rw[if_neg (by omega)];split<;>simp
 refine dq Tryz.func125 54 0 ?_
 refine aW ?_
 refine gp (QA a b ha hb yk yQ) rfl ?_
 refine ae Cd ?_
 refine gp (Yd a ha (by omega)) rfl ?_
 refine aN ?_
 refine gp (fX b hb (by omega)) rfl ?_
 refine ae @bQ ?_
 generalize ak (val a)=p at*
 generalize ak (val b)=q at*
 refine wl (α:=Nat×Nat×List Nat) (fun⟨i,c,out⟩=>⟨.fv (.sl (u32s a)):: .fv (.sl (u32s q)):: .any:: .any:: .nilsl:: .any:: .lsl 0 0 p.length 1:: .int .u64 c:: .int .i64 i::replicate 47 .any,[.row true (u32s out)]⟩)
  (fun⟨i,_,_⟩=>p.length - i)
  (fun⟨i,c,out⟩=>i<=p.length/\c<=1/\out.length=p.length/\Dig out/\(∀ j,i<=j->out.getD j 0=p.getD j 0)/\val (out.take i)+val (q.take i)=val (p.take i)+c*B^i) (0,0,p) ?_ ?_ ?_
 .exact bx [0]
 .exact⟨by omega,by omega,rfl,hp,fun _ _=>rfl,by simp[val]⟩
 rintro⟨i,c,out⟩ ⟨hi,hc,ho,hd,gA,ow⟩
 refine aW ?_
 refine bM ?_ ?_
 .intro h1 h2
  have T':=hp.getD i
  have Ua:=hq.getD i
  have Wk:=aO p i
  have htq:=aO q i
  have hO:out.getD i 0=p.getD i 0:=gA i (qp _)
  have Ph:q.length<=i->q.getD i 0=0:=fun h=>by rw[qa,getElem?_eq_none h];rfl
  simp only[B] at T' Ua
  generalize p.getD i 0=x at*
  generalize hQ:q.getD i 0=y at*
  have fin: ∀ dg c2:Nat,dg+y+c=x+c2*4294967296->val ((out.set i dg).take (i+1))+val (q.take (i+1))=val (p.take (i+1))+c2*B^(i+1):=by
   intro dg c2 h;rw[Nat.pow_succ,cR (by omega),Wk,htq];simp only[B] at*;grind
  have rest: ∀ dg:Nat,∀ j,i+1<=j->(out.set i dg).getD j 0=p.getD j 0:=by
   intro dg j hj;rw[<-gA j (by omega)];simp only[qa];rw[getElem?_set_ne (by omega)]
  refine ae h2 ?_
  refine bM ?_ ?_
  .intro h3 h4
   refine ae (bA h4 hO hQ) ?_
   refine⟨by omega,by omega,by omega,?_⟩
   refine bM ?_ ?_
   .intro h5 h6
    obtain⟨dg,Kr⟩: ∃ dg,dg+(c+y)=x+4294967296:=⟨x+4294967296 - ((c+y)),by omega⟩
    have pM:Dig (out.set i dg):=hd.set i (by simp only[B];omega)
    have dM:=fun(c2:Nat) (h:dg+y+c=x+c2*4294967296)=>fin dg c2 h
    have tT:=rest dg
    have hw:IntKind.u32.wrap ((x:Int)+4294967296 - ((c:Int)+y))=((dg:Nat):Int):=by rw[dV];omega
    refine ae (bA h6 hO hw) ?_
    refine⟨by omega,by omega,?_⟩
    refine aA (i+1,1,out.set i dg) ?_ ⟨by omega,by omega,by simp[ho],pM,tT,dM _ (by omega)⟩
    exact bx [0]
   intro h5 h6
   obtain⟨dg,Kr⟩: ∃ dg,dg+(c+y)=x:=⟨x - ((c+y)),by omega⟩
   have pM:Dig (out.set i dg):=hd.set i (by simp only[B];omega)
   have dM:=fun(c2:Nat) (h:dg+y+c=x+c2*4294967296)=>fin dg c2 h
   have tT:=rest dg
   have hw:IntKind.u32.wrap ((x:Int) - ((c:Int)+y))=((dg:Nat):Int):=by rw[dV];omega
   refine ae (bA h6 hO hw) ?_
   refine⟨by omega,by omega,?_⟩
   refine aA (i+1,0,out.set i dg) ?_ ⟨by omega,by omega,by simp[ho],pM,tT,dM _ (by omega)⟩
   exact bx [0]
  intro h3 h4
  have:=Ph (by omega)
  refine ae (aB h4 hO) ?_
  refine⟨by omega,by omega,?_⟩
  refine bM ?_ ?_
  .intro h5 h6
   obtain⟨dg,Kr⟩: ∃ dg,dg+c=x+4294967296:=⟨x+4294967296 - (c),by omega⟩
   have pM:Dig (out.set i dg):=hd.set i (by simp only[B];omega)
   have dM:=fun(c2:Nat) (h:dg+y+c=x+c2*4294967296)=>fin dg c2 h
   have tT:=rest dg
   have hw:IntKind.u32.wrap ((x:Int)+4294967296 - ((c:Int)))=((dg:Nat):Int):=by rw[dV];omega
   refine ae (bA h6 hO hw) ?_
   refine⟨by omega,by omega,?_⟩
   refine aA (i+1,1,out.set i dg) ?_ ⟨by omega,by omega,by simp[ho],pM,tT,dM _ (by omega)⟩
   exact bx [0]
  intro h5 h6
  obtain⟨dg,Kr⟩: ∃ dg,dg+c=x:=⟨x - (c),by omega⟩
  have pM:Dig (out.set i dg):=hd.set i (by simp only[B];omega)
  have dM:=fun(c2:Nat) (h:dg+y+c=x+c2*4294967296)=>fin dg c2 h
  have tT:=rest dg
  have hw:IntKind.u32.wrap ((x:Int) - ((c:Int)))=((dg:Nat):Int):=by rw[dV];omega
  refine ae (bA h6 hO hw) ?_
  refine⟨by omega,by omega,?_⟩
  refine aA (i+1,0,out.set i dg) ?_ ⟨by omega,by omega,by simp[ho],pM,tT,dM _ (by omega)⟩
  exact bx [0]
 intro h1 h2
 refine ae h2 ?_
 have Wl:i=p.length:=by omega
 have PW:val out=val a - val b:=by
  rw[Wl,a8 (by omega),a8 mG,a8 (qp _),Cc,Ij] at ow;have h5:=bZ hd;rw[ho] at h5;have h6:c=0:=by
   rcases Nat.eq_zero_or_pos c with h | h
   .exact h
   exfalso;have:c=1:=by omega
   subst this;omega
  subst h6;omega
 refine gp (fX out hd (by omega)) ?_ ?_
 .simp[bJ,eT,eo,dZ,aR,ho]
  rw[dm (by simp[aR,ho])]
 refine aN ?_
 refine a_ ?_
 refine sA ?_
 rw[PW]
theorem ael {x y:Nat} (k:Nat) (hx:x % 2^k=0) (hy:y<2^k) (qW:x<18446744073709551616) (wR:y<18446744073709551616):
 IntKind.u64.wrap ((BitVec.ofInt IntKind.u64.bits (x:Int)||| BitVec.ofInt IntKind.u64.bits (y:Int)).toNat:Int)=((x+y:Nat):Int):=by
 rw[yx,BitVec.toNat_or,eB (by omega),eB (by omega),Int.toNat_natCast,Int.toNat_natCast,D3 k hx hy]
theorem Yi (l:List Nat) (k:Nat) (hl:Dig l) (nk:l.length<100000000000) (hk:k<32):
 Den Tryz.prog 210 [] [.fv (.sl (u32s l)),.int .i64 k] [.row true (u32s (iO (l.length+1) (val l*2^k)))] (.lsl 0 0 (l.length+1) 1):=by
 have Im:2^k<=2147483648:=Nat.pow_le_pow_right (by decide) (show k<=31 by omega)
 have sB:0<2^k:=Nat.two_pow_pos k
 have Cf:(k<=64)=True:=by simp;omega
 have hwk:IntKind.u64.wrap (k:Int)=(k:Int):=d8 (by omega)
 refine dq Tryz.func210 41 0 ?_
 refine aW ?_
 refine⟨by omega,?_⟩
 have hn:((l.length:Int)+1).toNat=l.length+1:=by omega
 refine wl (α:=Nat×Nat×List Nat) (fun⟨i,c,out⟩=>⟨.fv (.sl (u32s l)):: .int .i64 k:: .any:: .any:: .nilsl:: .lsl 0 0 (l.length+1) 1:: .int .u64 c:: .int .i64 i::replicate 35 .any,[.row true (u32s out)]⟩)
  (fun⟨i,_,_⟩=>l.length - i) (fun⟨i,c,out⟩=>i<=l.length/\c<2^k/\out.length=l.length+1/\Dig out/\val (out.take i)+c*B^i=val (l.take i)*2^k) (0,0,replicate (l.length+1) 0) ?_ ?_ ?_
 .refine eH [0] ?_ ?_
  .simp[bh,dF,cw,hn]
  simp[d_,fD,hn]
 .exact⟨by omega,sB,by simp,Dig.zeros,by simp[val]⟩
 rintro⟨i,c,out⟩ ⟨hi,hc,ho,Ce,hv⟩
 refine aW ?_
 refine bM ?_ ?_
 .intro h1 h2
  have hx:=hl.getD i
  simp only[B] at hx
  have eO:=aO l i
  generalize Fb:l.getD i 0=x at*
  have hxv:x*2^k<9223372036854775808:=by
   have:x*2^k<=4294967295*2147483648:=Nat.mul_le_mul (by omega) Im;omega
  have Io:(x:Int)*2^k=((x*2^k:Nat):Int):=by rw[Int.natCast_mul,Int.natCast_pow];rfl
  have Ik:x*2^k % 2^k=0:=Nat.mul_mod_left _ _
  have eC:(x*2^k+c) / 4294967296<2^k:=by
   rw[Nat.div_lt_iff_lt_mul (by decide)];have:(x+1)*2^k<=4294967296*2^k:=qn _ hx;rw[Nat.mul_comm 4294967296] at this;rw[Nat.add_mul] at this;omega
  generalize Cg:x*2^k=v at*
  have Uc:=ael k Ik hc (by omega) (by omega)
  obtain⟨s,hs⟩: ∃ s,s=v+c:=⟨_,rfl⟩
  rw[<-hs] at eC Uc
  have Pg:IntKind.u32.wrap (s:Int)=((s % 4294967296:Nat):Int):=by rw[dV];rfl
  have Wp:(s:Int) / 4294967296=((s / 4294967296:Nat):Int):=by rw[Int.natCast_ediv];rfl
  have ck:=cR (l:=out) (i:=i) (by omega) (s % 4294967296)
  have fL:=k8 (B^i) s
  refine ae (bu h2 Cf hwk Io Fb Uc Pg Wp) ?_
  refine⟨by omega,by omega,by omega,by omega,by omega,?_⟩
  refine aA (i+1,s / 4294967296,out.set i (s % 4294967296)) ?_ ⟨by omega,eC,by simp[ho],Ce.set _ (Nat.mod_lt _ (by decide)),?_⟩
  .exact bx [0]
  rw[Nat.pow_succ,ck,eO,Nat.add_assoc]
  have h7:B^i*(s % 4294967296)+s / 4294967296*(B^i*B)=B^i*s:=fL
  rw[h7,hs]
  grind
 intro h1 h2
 have dJ:i=l.length:=by omega
 have hwc:IntKind.u32.wrap (c:Int)=(c:Int):=dD (by omega)
 refine ae (aB h2 hwc) ?_
 refine⟨by omega,by omega,?_⟩
 have ck:=cR (l:=out) (i:=l.length) (by omega) c
 have ej:(out.set l.length c).length=l.length+1:=by simp[ho]
 rw[a8 (by omega)] at ck
 rw[dJ,a8 (qp _)] at hv
 have hvo:val (out.set l.length c)=val l*2^k:=by rw[ck,<-hv,Nat.mul_comm]
 rw[<-hvo,<-ej,<-D4 (Ce.set _ (by simp only[B];omega)),ej]
 exact RetOK.own rfl ⟨cK,cK⟩ rfl
theorem Lu {l:List Nat} {i:Nat} (hi:i<l.length) (x:Nat):val (l.set i x)+B^i*l.getD i 0=val l+B^i*x:=by
 have h1:=jP (l.set i x) (i+1) (by simp;omega);have h2:=jP l (i+1) (by omega);rw[cR hi,List.drop_set_of_lt (by omega)] at h1;rw[aO] at h2;omega
theorem zh (p q:List Nat) (hp:Dig p) (hq:Dig q) (Wj:p.length<10000000000) (hlq:q.length<10000000000):
 Den Tryz.prog 124 [] [.fv (.sl (u32s p)),.fv (.sl (u32s q))] [] (.fv (N (val p*val q))):=by
 refine dq Tryz.func124 83 0 ?_
 refine aW ?_
 refine⟨by omega,?_⟩
 have hn:((p.length:Int)+(q.length:Int)+1).toNat=p.length+q.length+1:=by omega
 obtain⟨L,hL⟩: ∃ L,L=p.length+q.length+1:=⟨_,rfl⟩
 refine wl (α:=Nat×List Nat) (fun⟨i,out⟩=>⟨.fv (.sl (u32s p)):: .fv (.sl (u32s q)):: .any:: .any:: .nilsl:: .lsl 0 0 L 1:: .int .i64 i::replicate 78 .any,[.row true (u32s out)]⟩)
  (fun⟨i,_⟩=>p.length - i)
  (fun⟨i,out⟩=>i<=p.length/\out.length=L/\Dig out/\val out=val (p.take i)*val q) (0,replicate L 0) ?_ ?_ ?_
 .refine eH [0] ?_ ?_
  .simp[bh,dF,cw,hn,hL]
  simp[d_,fD,hn,hL]
 .exact⟨by omega,by simp,Dig.zeros,by simp[val,Cq]⟩
 rintro⟨i,yn⟩ ⟨hi,Pc,iS,IX⟩
 refine aW ?_
 refine bM ?_ ?_
 .intro h1 h2
  refine ae h2 ?_
  have hx:=hp.getD i
  have Wk:=aO p i
  simp only[B] at hx
  generalize Fb:p.getD i 0=x at*
  refine wl (α:=Nat×Nat×List Nat) (fun⟨k,c,out⟩=>⟨.fv (.sl (u32s p)):: .fv (.sl (u32s q)):: .any:: .any:: .nilsl:: .lsl 0 0 L 1:: .int .i64 i:: .int .u64 c:: .int .i64 k::replicate 76 .any,[.row true (u32s out)]⟩)
   (fun⟨k,_,_⟩=>q.length - k)
   (fun⟨k,c,out⟩=>k<=q.length/\c<4294967296/\out.length=L/\Dig out/\val out+c*B^(i+k)=val yn+x*val (q.take k)*B^i) (0,0,yn) ?_ ?_ ?_
  .exact bx [0]
  .exact⟨by omega,by omega,Pc,iS,by simp[val]⟩
  rintro⟨k,c,out⟩ ⟨hk,hc,ho,hd,hv⟩
  refine aW ?_
  refine bM ?_ ?_
  .intro h3 h4
   refine ae h4 ?_
   refine dw (by kernel_rfl) ?_
   have hy:=hq.getD k
   have hqk:=aO q k
   simp only[B] at hy
   have hik:((i:Int)+(k:Int)).toNat=i+k:=by omega
   have jf:=hd.getD (i+k)
   simp only[B] at jf
   have ck:=fun z=>Lu (l:=out) (i:=i+k) (by omega) z
   have fL:=k8 (B^(i+k))
   generalize Ub:q.getD k 0=y at*
   generalize hod:out.getD (i+k) 0=o at*
   have IY:x*y<=18446744065119617025:=gD (Nat.mul_le_mul (show x<=4294967295 by omega) (show y<=4294967295 by omega)) (by decide)
   have Io:(x:Int)*y=((x*y:Nat):Int):=by rw[Int.natCast_mul]
   generalize hm:x*y=m at*
   obtain⟨s,hs⟩: ∃ s,s=m+o+c:=⟨_,rfl⟩
   have sV:(m:Int)+o+c=(s:Int):=by omega
   have Pg:IntKind.u32.wrap (s:Int)=((s % 4294967296:Nat):Int):=by rw[dV];rfl
   have Wp:(s:Int) / 4294967296=((s / 4294967296:Nat):Int):=by rw[Int.natCast_ediv];rfl
   refine ae (bu Ub Fb hik hod Io sV Pg Wp) ?_
   refine⟨by omega,by omega,by omega,by omega,by omega,by omega,by omega,?_⟩
   have dM:val (out.set (i+k) (s % 4294967296))+s / 4294967296*B^(i+(k+1))=val yn+x*val (q.take (k+1))*B^i:=by
    have h5:=ck (s % 4294967296);have h6:B^(i+k)*(s % 4294967296)+s / 4294967296*(B^(i+k)*B)=B^(i+k)*s:=fL s;rw[hqk,<-Nat.add_assoc i k 1,Nat.pow_succ];have h7:B^(i+k)*s=B^(i+k)*m+B^(i+k)*o+c*B^(i+k):=by rw[hs];grind
    have h8:x*(val (q.take k)+B^k*y)*B^i=x*val (q.take k)*B^i+B^(i+k)*m:=by rw[Nat.pow_add,<-hm];grind
    rw[h8];omega
   refine aA (k+1,s / 4294967296,out.set (i+k) (s % 4294967296)) ?_ ⟨by omega,by omega,by simp[ho],hd.set _ (Nat.mod_lt _ (by decide)),dM⟩
   exact bx [0]
  intro h3 h4
  refine ae h4 ?_
  have hkq:k=q.length:=by omega
  have hT:val out+c*B^(i+q.length)=val (p.take (i+1))*val q:=by
   rw[hkq,a8 (qp _),IX] at hv;rw[hv,Wk];grind
  have aL:val (p.take (i+1))*val q<B^(p.length+q.length):=by
   rw[Nat.pow_add];have h5:=bZ (hp.take (i+1));have h6:B^(p.take (i+1)).length<=B^p.length:=Nat.pow_le_pow_right (by decide) (by rw[length_take];omega);exact Nat.mul_lt_mul'' (Nat.lt_of_lt_of_le h5 h6) (bZ hq)
  generalize WC:val (p.take (i+1))*val q=TT at*
  refine wl (α:=Nat×Nat×List Nat) (fun⟨k,c,out⟩=>⟨.fv (.sl (u32s p)):: .fv (.sl (u32s q)):: .any:: .any:: .nilsl:: .lsl 0 0 L 1:: .int .i64 i:: .int .u64 c:: .any:: .any:: .int .i64 k::replicate 74 .any,[.row true (u32s out)]⟩)
   (fun⟨k,_,_⟩=>L - k)
   (fun⟨k,c,out⟩=>c<4294967296/\out.length=L/\Dig out/\val out+c*B^k=TT) (i+q.length,c,out) ?_ ?_ ?_
  .exact bx [0]
  .exact⟨hc,ho,hd,hT⟩
  rintro⟨j,c1,Tb⟩ ⟨sq,jo,Uf,hv1⟩
  have aa7:0<c1->j<p.length+q.length:=by
   intro h;have h5:1*B^j<=c1*B^j:=qn _ h;have h6:B^j<B^(p.length+q.length):=by omega
   exact(Nat.pow_lt_pow_iff_right (by decide)).1 h6
  refine aW ?_
  refine bM ?_ ?_
  .intro h5 h6
   have hj:=aa7 (by omega)
   have jf:=Uf.getD j
   simp only[B] at jf
   have ck:=fun z=>Lu (l:=Tb) (i:=j) (by omega) z
   have fL:=k8 (B^j)
   generalize hod:Tb.getD j 0=o at*
   obtain⟨s,hs⟩: ∃ s,s=o+c1:=⟨_,rfl⟩
   have sV:(o:Int)+c1=(s:Int):=by omega
   have Pg:IntKind.u32.wrap (s:Int)=((s % 4294967296:Nat):Int):=by rw[dV];rfl
   have Wp:(s:Int) / 4294967296=((s / 4294967296:Nat):Int):=by rw[Int.natCast_ediv];rfl
   refine ae (fO h6 hod sV Pg Wp) ?_
   refine⟨by omega,by omega,by omega,by omega,by omega,?_⟩
   have dM:val (Tb.set j (s % 4294967296))+s / 4294967296*B^(j+1)=TT:=by
    have h7:=ck (s % 4294967296);have h8:B^j*(s % 4294967296)+s / 4294967296*(B^j*B)=B^j*s:=fL s;rw[Nat.pow_succ];have h9:B^j*s=B^j*o+c1*B^j:=by rw[hs];grind
    omega
   refine aA (j+1,s / 4294967296,Tb.set j (s % 4294967296)) ?_ ⟨by omega,by simp[jo],Uf.set _ (Nat.mod_lt _ (by decide)),dM⟩
   exact bx [0]
  intro h5 h6
  have Kz:c1=0:=by omega
  subst Kz
  refine ae h6 ?_
  refine aA (i+1,Tb) ?_ ⟨by omega,jo,Uf,by rw[WC];simpa using hv1⟩
  exact bx [0]
 intro h1 h2
 refine ae h2 ?_
 have Wl:i=p.length:=by omega
 refine gp (fX yn iS (by omega)) ?_ ?_
 .simp[bJ,eT,eo,dZ,aR,Pc]
  rw[dm (by simp[aR,Pc])]
 refine aN ?_
 refine a_ ?_
 rw[Wl,a8 (qp _)] at IX
 exact kT IX
theorem aem (l:List Nat) (k:Nat) (hl:Dig l) (nk:l.length<100000000000) (hk:k<32):
 Den Tryz.prog 212 [] [.fv (.sl (u32s l)),.int .i64 k] [] (.fv (N (val l / 2^k))):=by
 have Cf:(k<=64)=True:=by simp;omega
 have hwk:IntKind.u64.wrap (k:Int)=(k:Int):=d8 (by omega)
 refine dq Tryz.func212 44 0 ?_
 refine aW ?_
 refine⟨by omega,?_⟩
 refine wl (α:=Nat×List Nat) (fun⟨i,out⟩=>⟨.fv (.sl (u32s l)):: .int .i64 k:: .any:: .any:: .nilsl:: .lsl 0 0 l.length 1:: .int .i64 i::replicate 39 .any,[.row true (u32s out)]⟩)
  (fun⟨i,_⟩=>l.length - i) (fun⟨i,out⟩=>i<=l.length/\out.length=l.length/\Dig out/\out.take i=iO i (val l / 2^k)) (0,replicate l.length 0) ?_ ?_ ?_
 .exact bx [0]
 .exact⟨by omega,by simp,Dig.zeros,by simp[iO]⟩
 rintro⟨i,out⟩ ⟨hi,ho,Ce,hv⟩
 refine aW ?_
 refine bM ?_ ?_
 .intro h1 h2
  have hx:=hl.getD i
  have hy:=hl.getD (i+1)
  have BM:(l.getD i 0+l.getD (i+1) 0*4294967296) / 2^k % 4294967296=val l / 2^k / B^i % 4294967296:=by
   rw[sL (l:=l) (i:=i) (k:=k) (by omega) (by omega),<-iW hl hi,Nat.div_div_eq_div_mul,Nat.div_div_eq_div_mul,Nat.mul_comm (2^k)]
  have nj:((i:Int)+1).toNat=i+1:=by omega
  have sB:0<2^k:=Nat.two_pow_pos k
  have yp:l.length<=i+1->l.getD (i+1) 0=0:=fun h=>by rw[qa,getElem?_eq_none h];rfl
  simp only[B] at hx hy
  generalize Fb:l.getD i 0=x at*
  generalize Ub:l.getD (i+1) 0=y at*
  obtain⟨s,hs⟩: ∃ s,s=x+y*4294967296:=⟨_,rfl⟩
  rw[<-hs] at BM
  have sV:(x:Int)+y*4294967296=(s:Int):=by omega
  have PY:((s:Int)) / 2^k=((s / 2^k:Nat):Int):=by rw[Int.natCast_ediv,Int.natCast_pow];rfl
  have Pg:IntKind.u32.wrap ((s / 2^k:Nat):Int)=((s / 2^k % 4294967296:Nat):Int):=by rw[dV];rfl
  have hpp:(0:Int)<=2^k:=by
   have:(2:Int)^k=((2^k:Nat):Int):=by rw[Int.natCast_pow];rfl
   omega
  generalize Kr:s / 2^k % 4294967296=dg at*
  have Wv:dg<4294967296:=by rw[<-Kr];exact Nat.mod_lt _ (by decide)
  have dM:(out.set i dg).take (i+1)=iO (i+1) (val l / 2^k):=by
   rw[Cr,<-hv,take_succ_eq_append_getElem (by simp;omega),List.take_set_of_le (qp i)];simp only[List.getElem_set_self,B] at*;rw[BM]
  refine ae (aB h2 Fb) ?_
  refine⟨by omega,?_⟩
  refine bM ?_ ?_
  .intro h3 h4
   refine ae (bu h4 nj Ub @X6 sV Cf hwk (aB PY Pg)) ?_
   refine⟨by omega,by omega,by omega,by omega,by omega,?_⟩
   refine aA (i+1,out.set i dg) ?_ ⟨by omega,by simp[ho],Ce.set _ Wv,dM⟩
   exact bx [0]
  intro h3 h4
  have Ci:=yp (by omega)
  have hsx:(x:Int)=(s:Int):=by omega
  refine ae (dN h4 hsx Cf hwk PY Pg) ?_
  refine⟨by omega,by omega,by omega,?_⟩
  refine aA (i+1,out.set i dg) ?_ ⟨by omega,by simp[ho],Ce.set _ Wv,dM⟩
  exact bx [0]
 intro h1 h2
 refine ae h2 ?_
 have dJ:i=l.length:=by omega
 have hvo:val out=val l / 2^k:=by
  rw[dJ,dm (by omega)] at hv;rw[hv,k_];exact FD (Nat.div_le_self _ _) (bZ hl)
 refine gp (fX out Ce (by omega)) ?_ ?_
 .simp[bJ,eT,eo,dZ,aR,ho]
  rw[dm (by simp[aR,ho])]
 refine aN ?_
 refine a_ ?_
 exact kT hvo
set_option maxHeartbeats 4000000
theorem aen (u v:List Nat) (j n:Nat) (BM:Dig u) (Cg:Dig v) (hn:v.length=n) (vI:2<=n) (hj:j+n+1<=u.length) (A':u.length<10000000010) (yo:2147483648<=v.getD (n - 1) 0) (aL:val (u.drop (j+1))<val v):
 Den Tryz.prog 211 [.row true (u32s u)] [.lsl 0 0 u.length 1,.fv (.sl (u32s v)),.int .i64 j] [.row true (u32s (ki u j (n+1) (gh u j (n+1) % val v)))] (.int .u32 ((gh u j (n+1) / val v:Nat):Int)):=by
 obtain⟨L,hL⟩:=ax u.length
 have aa8:((n:Int) - 1).toNat=n - 1:=by omega
 have akN:((n:Int) - 2).toNat=n - 2:=by omega
 have S7:=Cg.getD (n - 1)
 have S8:=Cg.getD (n - 2)
 simp only[B] at S7 S8
 obtain⟨top,ht⟩:=ax (v.getD (n - 1) 0)
 obtain⟨sec,hs⟩:=ax (v.getD (n - 2) 0)
 rw[ht] at S7 yo
 rw[hs] at S8
 have i1:((j:Int)+(n:Int)).toNat=j+n:=by omega
 have i2:((j:Int)+(n:Int) - 1).toNat=j+n - 1:=by omega
 have i3:((j:Int)+(n:Int) - 2).toNat=j+n - 2:=by omega
 have LH:=vR (j:=j) BM Cg hn vI (by omega) aL
 have d1:=BM.getD (j+n)
 have d2:=BM.getD (j+n - 1)
 have d3:=BM.getD (j+n - 2)
 simp only[B] at d1 d2 d3
 have iv:=LH.first
 rw[ht] at iv
 obtain⟨x1,vJ⟩:=ax (u.getD (j+n) 0)
 obtain⟨x2,qW⟩:=ax (u.getD (j+n - 1) 0)
 obtain⟨x3,Pf⟩:=ax (u.getD (j+n - 2) 0)
 rw[vJ] at d1 iv
 rw[qW] at d2 iv
 rw[Pf] at d3
 obtain⟨F,hF⟩: ∃ F,F=x1*4294967296+x2:=⟨_,rfl⟩
 have hFi:(x1:Int)*4294967296+(x2:Int)=(F:Int):=by omega
 rw[<-hF] at iv
 have hFt:F / top<=4294967297:=Qo yo iv
 have hFm:F % top<top:=Nat.mod_lt _ (by omega)
 have dW:0<val v:=by have:=LH.v1;rw[ht] at this;have h0:0<top*B^(n - 1):=Nat.mul_pos (by omega) (Lb (by decide));omega
 obtain⟨Q,hQ⟩: ∃ Q,Q=gh u j (n+1) / val v:=⟨_,rfl⟩
 have hQv:Q*val v<=gh u j (n+1):=by rw[hQ];exact Nat.div_mul_le_self _ _
 have LH1:=LH.h1
 rw[vJ,qW,<-hF] at LH1
 have LHv:=LH.v1
 rw[ht] at LHv
 have ck:=FO (q:=Q) (by omega) (y_ (Lb (by decide)) LH1 LH.s1 LHv hQv)
 have hQb:Q<4294967296:=by
  rw[hQ,Nat.div_lt_iff_lt_mul dW,Nat.mul_comm];exact LH.lt
 have hq:(F:Int) / (top:Int)=((F / top:Nat):Int):=by rw[Int.natCast_ediv]
 have hr:(F:Int) % (top:Int)=((F % top:Nat):Int):=by rw[Int.natCast_emod]
 generalize F / top=g0 at*
 generalize F % top=r0 at*
 refine dq Tryz.func211 176 1 ?_
 refine ae (aB hn hL) ?_
 refine dw (by kernel_rfl) ?_
 refine ae (dN i1 i2 vJ qW @xd hFi) ?_
 refine⟨by omega,by omega,by omega,by omega,by omega,?_⟩
 refine dw (by kernel_rfl) ?_
 refine ae (fO hn aa8 ht hq hr) ?_
 refine⟨by omega,by omega,by omega,by omega,?_⟩
 refine WA.blockcut (fun(y:Nat×(Nat->PV))=>⟨[.lsl 0 0 L 1,.fv (.sl (u32s v)),.int .i64 j,.any,.any,.any,.any,.int .i64 n,.any,.int .u64 y.1]++tl y.2 10 169,[.row true (u32s u)]⟩)
  (fun y=>Q<=y.1/\y.1<4294967296/\(y.1 - 1)*val v<=gh u j (n+1)) ?_ ?_
 .refine wl (α:=Nat×Nat) (fun⟨g,r⟩=>⟨.lsl 0 0 L 1:: .fv (.sl (u32s v)):: .int .i64 j:: .any:: .any:: .any:: .any:: .int .i64 n:: .any:: .int .u64 g:: .int .u64 r::replicate 168 .any,[.row true (u32s u)]⟩)
   (fun⟨g,_⟩=>g) (fun⟨g,r⟩=>xe F top Q g r/\r<4294967296/\g<=4294967297) (g0,r0) ?_ ?_ ?_
  .exact bx [0]
  .exact⟨ck,by omega,hFt⟩
  rintro⟨g,r⟩ ⟨M5,PX,pN⟩
  refine aW ?_
  refine dw (by kernel_rfl) ?_
  refine aN ?_
  refine bM ?_ ?_
  .intro h3 h4
   have om:Q<g:=by omega
   obtain⟨g',rfl⟩: ∃ g',g=g'+1:=⟨g - 1,by omega⟩
   have ph:=yy M5 om
   rw[Nat.add_sub_cancel] at ph
   have Fc:((g'+1:Nat):Int) - 1=(g':Int):=by omega
   refine ae (fO h4 Fc hn aa8 ht) ?_
   repeat refine ag ?_
   refine bM ?_ ?_
   .intro h5 h6
    refine ae h6 ?_
    have tS:=D5 (second:=sec) ph (by omega) iv (by omega)
    refine Mid.ex g' rfl ⟨by omega,tS.1,?_⟩
    refine kY LH tS.1 (by omega) ?_
    rw[ht,hs,vJ,qW,Pf,<-hF]
    exact q' ph (gD tS.2 (Nat.le_add_right _ _))
   intro h5 h6
   refine ae h6 ?_
   refine aA (g',r+top) ?_ ⟨ph,by omega,by omega⟩
   exact bx [0]
  intro h3 h4
  have xN:g<4294967296:=by omega
  have Y6:g*sec<=4294967295*4294967295:=Nat.mul_le_mul (by omega) (by omega)
  have Ws:(g:Int)*(sec:Int)=((g*sec:Nat):Int):=by rw[Int.natCast_mul]
  obtain⟨gs,Ks⟩:=ax (g*sec)
  rw[Ks] at Y6 Ws
  have hrd:decide ((r:Int)<4294967296)=true:=yP
  refine ae (bu h4 hrd Ws akN hs i3 Pf @xd) ?_
  repeat refine ag ?_
  refine bM ?_ ?_
  .intro h7 h8
   have om:Q<g:=by
    have LH2:=LH.h2;have LHv2:=LH.v2;rw[vJ,qW,Pf,<-hF] at LH2;rw[ht,hs] at LHv2;exact Lm (Lb (by decide)) LH2 LH.s2 rfl LHv2 hQv M5 (by rw[Ks];omega)
   obtain⟨g',rfl⟩: ∃ g',g=g'+1:=⟨g - 1,by omega⟩
   have ph:=yy M5 om
   rw[Nat.add_sub_cancel] at ph
   have Fc:((g'+1:Nat):Int) - 1=(g':Int):=by omega
   refine ae (fO h8 Fc hn aa8 ht) ?_
   repeat refine ag ?_
   refine bM ?_ ?_
   .intro h5 h6
    refine ae h6 ?_
    have tS:=D5 (second:=sec) ph (by omega) iv (by omega)
    refine Mid.ex g' rfl ⟨by omega,tS.1,?_⟩
    refine kY LH tS.1 (by omega) ?_
    rw[ht,hs,vJ,qW,Pf,<-hF]
    exact q' ph (gD tS.2 (Nat.le_add_right _ _))
   intro h5 h6
   refine ae h6 ?_
   refine aA (g',r+top) ?_ ⟨ph,by omega,by omega⟩
   exact bx [0]
  intro h7 h8
  refine ae h8 ?_
  refine Mid.ex g rfl ⟨M5.low,xN,?_⟩
  refine kY LH xN (by omega) ?_
  rw[ht,hs,vJ,qW,Pf,<-hF]
  exact q' M5 (by rw[Ks];omega)
 rintro⟨g,x⟩ ⟨Ue,fg,DQ⟩
 have aaX:=Lo (g:=g) dW (by rw[<-hQ];exact Ue)
 simp only[] at Ue fg DQ
 simp -dsimp(disch:=omega) only[tl,lQ,Nat.reduceAdd]
 refine wl (α:=Nat×Nat×Nat×List Nat) (fun⟨i,bo,c,w⟩=>⟨[.lsl 0 0 L 1,.fv (.sl (u32s v)),.int .i64 j,.any,.any,.any,.any,.int .i64 n,.any,.int .u64 g,.any,.int .u64 bo,.int .u64 c,.int .i64 i]++replicate 165 .any,[.row true (u32s w)]⟩)
  (fun⟨i,_,_,_⟩=>n+1 - i) (fun⟨i,bo,c,w⟩=>i<=n+1/\bo<=1/\c<4294967296/\w.length=L/\Dig w/\(∀ t,(t<j\/j+i<=t)->w.getD t 0=u.getD t 0)/\gh w j i+g*val (v.take i)=gh u j i+(c+bo)*B^i/\(i=n+1->c=0)) (0,0,0,u) ?_ ?_ ?_
 .exact bx [0]
 .refine⟨by omega,by omega,by omega,hL,BM,fun _ _=>rfl,?_,fun _=>rfl⟩
  simp[uh,val]
 rintro⟨i,bo,c,w⟩ ⟨hi,Y7,hc,Y9,Kw,tR,ku,WE⟩
 refine aW ?_
 refine bM ?_ ?_
 .intro h1 h2
  have dv:=Cg.getD i
  have du:=Kw.getD (j+i)
  simp only[B] at dv du
  have fh:=aO v i
  have mH:=jQ u j i
  have Kt:=tR (j+i) (Or.inr (qp _))
  rw[<-Kt] at mH
  have IX:n<=i->v.getD i 0=0:=fun h=>by rw[qa,getElem?_eq_none (by omega)];rfl
  obtain⟨y,hy⟩:=ax (v.getD i 0)
  obtain⟨z,hz⟩:=ax (w.getD (j+i) 0)
  rw[hy] at fh dv IX
  rw[hz] at mH du
  have ik:((j:Int)+(i:Int)).toNat=j+i:=by omega
  refine ae h2 ?_
  refine bM ?_ ?_
  .intro h3 h4
   have hgy:g*y<=4294967295*4294967295:=Nat.mul_le_mul (by omega) (by omega)
   have S9:(g:Int)*(y:Int)=((g*y:Nat):Int):=by rw[Int.natCast_mul]
   obtain⟨cc,nh⟩:=ax (c+g*y)
   obtain⟨gy,aaY⟩:=ax (g*y)
   rw[aaY] at hgy S9
   have Ba:(c:Int)+(gy:Int)=(cc:Int):=by omega
   have akx:cc<=18446744073709551616 - 4294967296:=by omega
   have sC:(cc:Int) % 4294967296=((cc % 4294967296:Nat):Int):=by rw[Int.natCast_emod];rfl
   have lS:(cc:Int) / 4294967296=((cc / 4294967296:Nat):Int):=by rw[Int.natCast_ediv];rfl
   obtain⟨lo,ej⟩:=ax (cc % 4294967296)
   obtain⟨pj,KA⟩: ∃ t,cc / 4294967296=t:=⟨_,rfl⟩
   have Il:lo<4294967296:=by omega
   have Bh:pj<4294967296:=by omega
   rw[ej] at sC
   rw[KA] at lS
   refine ae (bu h4 hn hy S9 Ba @Qj sC (bA lS hz ik)) ?_
   repeat refine ag ?_
   refine bM ?_ ?_
   .intro h7 h8
    obtain⟨d,ym⟩:=ax (z+4294967296 - (lo+bo))
    have Ku:(z:Int)+4294967296 - ((lo:Int)+(bo:Int))=(d:Int):=by omega
    have bn:=jJ (u:=w) (j:=j) (i:=i) (by omega) d
    have Bb:IntKind.u32.wrap (d:Int)=(d:Int):=dD (by omega)
    have ck:=jR (S:=gh w j i) (S0:=gh u j i) (P:=B^i) (g:=g) (Vt:=val (v.take i)) (v:=y) (c:=c) (b:=bo) (a:=z) (d:=d) (b2:=1) ku (by rw[nh,ej];omega)
    refine ae (dR h8 ik Ku Bb) ?_
    repeat refine ag ?_
    refine aA (i+1,1,pj,w.set (j+i) d) ?_ ⟨by omega,by omega,Bh,by simp[Y9],Kw.set _ (by simp only[B];omega),?_,?_,by omega⟩
    .exact bx [0]
    .intro t hto
     rw[<-tR t (by omega),qa,getElem?_set_ne (by omega),<-qa]
    rw[bn,fh,mH,Nat.pow_succ,<-KA,<-nh]
    exact ck
   intro h7 h8
   obtain⟨d,ym⟩:=ax (z - (lo+bo))
   have Ku:(z:Int) - ((lo:Int)+(bo:Int))=(d:Int):=by omega
   have bn:=jJ (u:=w) (j:=j) (i:=i) (by omega) d
   have Bb:IntKind.u32.wrap (d:Int)=(d:Int):=dD (by omega)
   have ck:=jR (S:=gh w j i) (S0:=gh u j i) (P:=B^i) (g:=g) (Vt:=val (v.take i)) (v:=y) (c:=c) (b:=bo) (a:=z) (d:=d) (b2:=0) ku (by rw[nh,ej];omega)
   refine ae (dR h8 ik Ku Bb) ?_
   repeat refine ag ?_
   refine aA (i+1,0,pj,w.set (j+i) d) ?_ ⟨by omega,by omega,Bh,by simp[Y9],Kw.set _ (by simp only[B];omega),?_,?_,by omega⟩
   .exact bx [0]
   .intro t hto
    rw[<-tR t (by omega),qa,getElem?_set_ne (by omega),<-qa]
   rw[bn,fh,mH,Nat.pow_succ,<-KA,<-nh]
   exact ck
  intro h3 h4
  have yp:=IX (by omega)
  obtain⟨cc,akO⟩: ∃ t,c=t:=⟨_,rfl⟩
  have Ba:(c:Int)=(cc:Int):=by omega
  have nh:c+g*y=cc:=by rw[yp,Nat.mul_zero,akO];rfl
  have sC:(cc:Int) % 4294967296=((cc % 4294967296:Nat):Int):=by rw[Int.natCast_emod];rfl
  have lS:(cc:Int) / 4294967296=((cc / 4294967296:Nat):Int):=by rw[Int.natCast_ediv];rfl
  obtain⟨lo,ej⟩:=ax (cc % 4294967296)
  obtain⟨pj,KA⟩: ∃ t,cc / 4294967296=t:=⟨_,rfl⟩
  have Il:lo<4294967296:=by omega
  have Bh:pj<4294967296:=by omega
  rw[ej] at sC
  rw[KA] at lS
  refine ae (eU h4 Ba @Qj sC lS hz ik) ?_
  repeat refine ag ?_
  refine bM ?_ ?_
  .intro h7 h8
   obtain⟨d,ym⟩:=ax (z+4294967296 - (lo+bo))
   have Ku:(z:Int)+4294967296 - ((lo:Int)+(bo:Int))=(d:Int):=by omega
   have bn:=jJ (u:=w) (j:=j) (i:=i) (by omega) d
   have Bb:IntKind.u32.wrap (d:Int)=(d:Int):=dD (by omega)
   have ck:=jR (S:=gh w j i) (S0:=gh u j i) (P:=B^i) (g:=g) (Vt:=val (v.take i)) (v:=y) (c:=c) (b:=bo) (a:=z) (d:=d) (b2:=1) ku (by rw[nh,ej];omega)
   refine ae (dR h8 ik Ku Bb) ?_
   repeat refine ag ?_
   refine aA (i+1,1,pj,w.set (j+i) d) ?_ ⟨by omega,by omega,Bh,by simp[Y9],Kw.set _ (by simp only[B];omega),?_,?_,by omega⟩
   .exact bx [0]
   .intro t hto
    rw[<-tR t (by omega),qa,getElem?_set_ne (by omega),<-qa]
   rw[bn,fh,mH,Nat.pow_succ,<-KA,<-nh]
   exact ck
  intro h7 h8
  obtain⟨d,ym⟩:=ax (z - (lo+bo))
  have Ku:(z:Int) - ((lo:Int)+(bo:Int))=(d:Int):=by omega
  have bn:=jJ (u:=w) (j:=j) (i:=i) (by omega) d
  have Bb:IntKind.u32.wrap (d:Int)=(d:Int):=dD (by omega)
  have ck:=jR (S:=gh w j i) (S0:=gh u j i) (P:=B^i) (g:=g) (Vt:=val (v.take i)) (v:=y) (c:=c) (b:=bo) (a:=z) (d:=d) (b2:=0) ku (by rw[nh,ej];omega)
  refine ae (dR h8 ik Ku Bb) ?_
  repeat refine ag ?_
  refine aA (i+1,0,pj,w.set (j+i) d) ?_ ⟨by omega,by omega,Bh,by simp[Y9],Kw.set _ (by simp only[B];omega),?_,?_,by omega⟩
  .exact bx [0]
  .intro t hto
   rw[<-tR t (by omega),qa,getElem?_set_ne (by omega),<-qa]
  rw[bn,fh,mH,Nat.pow_succ,<-KA,<-nh]
  exact ck
 intro h1 h2
 have f0:i=n+1:=by omega
 have Kz:=WE f0
 subst f0
 subst Kz
 have Ir:val (v.take (n+1))=val v:=a8 (by omega)
 rw[Ir,Nat.zero_add] at ku
 refine ae h2 ?_
 refine Br.beqInt ?_ ?_
 .intro h3 h4
  have IZ:bo=0:=by omega
  subst IZ
  rw[Nat.zero_mul,Nat.add_zero] at ku
  have I0:=FQ ku aaX
  have tQ:=zd ku I0
  have hwg:IntKind.u32.wrap (g:Int)=(g:Int):=dD (by omega)
  have bS:=Cs (x:=gh u j (n+1) % val v) (by omega) Kw (by omega) tR tQ.2
  refine ae (aB h4 hwg) ?_
  refine RetOK.lent rfl ⟨cK,cK⟩ (by rw[bS]) ?_ rfl
  rw[<-tQ.1]
  rfl
 intro h3 h4
 have dX:bo=1:=by omega
 subst dX
 rw[Nat.one_mul] at ku
 have akz:=vQ Kw j (n+1)
 have hVM:val v<=B^(n+1):=by
  have h7:=bZ Cg;rw[hn] at h7;exact gD (Nat.le_of_lt h7) (Nat.pow_le_pow_right (by decide) (by omega))
 have eC:gh u j (n+1)<g*val v:=by omega
 have t_:0<g:=by
  rcases Nat.eq_zero_or_pos g with h7 | h7
  .rw[h7,Nat.zero_mul] at eC;omega
  exact h7
 refine ae h4 ?_
 refine wl (α:=Nat×Nat×List Nat) (fun⟨t,c,w'⟩=>⟨[.lsl 0 0 L 1,.fv (.sl (u32s v)),.int .i64 j,.any,.any,.any,.any,.int .i64 n,.any,.int .u64 g,.any,.any,.int .u64 c,.any,.any,.any,.any,.int .i64 t]++replicate 161 .any,[.row true (u32s w')]⟩)
  (fun⟨t,_,_⟩=>n+1 - t) (fun⟨t,c,w'⟩=>t<=n+1/\c<=1/\w'.length=L/\Dig w'/\(∀ s,(s<j\/j+t<=s)->w'.getD s 0=w.getD s 0)/\gh w' j t+c*B^t=gh w j t+val (v.take t)) (0,0,w) ?_ ?_ ?_
 .exact bx [0]
 .refine⟨by omega,by omega,Y9,Kw,fun _ _=>rfl,?_⟩
  simp[uh,val]
 rintro⟨t,c',w'⟩ ⟨ht',hc',agp,Tc,WG,M7⟩
 refine aW ?_
 refine bM ?_ ?_
 .intro h5 h6
  have dv:=Cg.getD t
  have du:=Tc.getD (j+t)
  simp only[B] at dv du
  have fh:=aO v t
  have Bc:=jQ w j t
  have aa1:=WG (j+t) (Or.inr (qp _))
  rw[<-aa1] at Bc
  have IX:n<=t->v.getD t 0=0:=fun h=>by rw[qa,getElem?_eq_none (by omega)];rfl
  obtain⟨y,hy⟩: ∃ t',v.getD t 0=t':=⟨_,rfl⟩
  obtain⟨z,hz⟩: ∃ t',w'.getD (j+t) 0=t':=⟨_,rfl⟩
  rw[hy] at fh dv IX
  rw[hz] at Bc du
  have ik2:((j:Int)+(t:Int)).toNat=j+t:=by omega
  refine ae (bA h6 hz ik2) ?_
  repeat refine ag ?_
  refine bM ?_ ?_
  .intro h7 h8
   obtain⟨cc,nh⟩:=ax (c'+(z+y))
   have Ba:(z:Int)+(c':Int)+(y:Int)=(cc:Int):=by omega
   have lS:(cc:Int) / 4294967296=((cc / 4294967296:Nat):Int):=by rw[Int.natCast_ediv];rfl
   have hw3:IntKind.u32.wrap (cc:Int)=((cc % 4294967296:Nat):Int):=by rw[dV,Int.natCast_emod];rfl
   have pA:=jJ (u:=w') (j:=j) (i:=t) (by omega) (cc % 4294967296)
   refine ae (bu h8 hn hy hz ik2 Ba lS hw3) ?_
   repeat refine ag ?_
   refine aA (t+1,cc / 4294967296,w'.set (j+t) (cc % 4294967296)) ?_ ⟨by omega,by omega,by simp[agp],Tc.set _ (Nat.mod_lt _ (by decide)),?_,?_⟩
   .exact bx [0]
   .intro s Fu
    rw[<-WG s (by omega),qa,getElem?_set_ne (by omega),<-qa]
   rw[pA,fh,Bc,Nat.pow_succ]
   exact oz M7 nh
  intro h7 h8
  have yp:=IX (by omega)
  obtain⟨cc,nh⟩:=ax (c'+(z+y))
  have Ba:(z:Int)+(c':Int)=(cc:Int):=by omega
  have lS:(cc:Int) / 4294967296=((cc / 4294967296:Nat):Int):=by rw[Int.natCast_ediv];rfl
  have hw3:IntKind.u32.wrap (cc:Int)=((cc % 4294967296:Nat):Int):=by rw[dV,Int.natCast_emod];rfl
  have pA:=jJ (u:=w') (j:=j) (i:=t) (by omega) (cc % 4294967296)
  refine ae (dN h8 hz ik2 Ba lS hw3) ?_
  repeat refine ag ?_
  refine aA (t+1,cc / 4294967296,w'.set (j+t) (cc % 4294967296)) ?_ ⟨by omega,by omega,by simp[agp],Tc.set _ (Nat.mod_lt _ (by decide)),?_,?_⟩
  .exact bx [0]
  .intro s Fu
   rw[<-WG s (by omega),qa,getElem?_set_ne (by omega),<-qa]
  rw[pA,fh,Bc,Nat.pow_succ]
  exact oz M7 nh
 intro h5 h6
 have WH:t=n+1:=by omega
 subst WH
 rw[Ir] at M7
 have PX:=za hVM ku t_ DQ eC M7 (vQ Tc _ _)
 have tQ:=zd PX.1 PX.2
 have bS:=Cs (u:=u) (x:=gh u j (n+1) % val v) (by omega) Tc (by omega) (fun s Fu=>by rw[WG s Fu,tR s Fu]) tQ.2
 have Ws:(g:Int) - 1=((g - 1:Nat):Int):=by omega
 have hwg:IntKind.u32.wrap ((g - 1:Nat):Int)=((g - 1:Nat):Int):=dD (by omega)
 refine ae (bA h6 Ws hwg) ?_
 refine RetOK.lent rfl ⟨cK,cK⟩ (by rw[bS]) ?_ rfl
 rw[<-tQ.1]
 rfl
theorem Cx {x y:Nat}:pH x y<0↔x<y:=by
 unfold pH;split
 .omega
 split<;>omega
theorem dE (n:Nat):N n= .sl (u32s (ak n)):=rfl
theorem ajB (a b:List Nat) (ha:Dig a) (hb:Dig b) (yk:a.length<10000000000) (yQ:b.length<10000000000) (h0:val b=0):
 Den Tryz.prog 172 [] [.fv (.sl (u32s a)),.fv (.sl (u32s b))] [] (.tup [.fv (N 0),.fv (N 0),.int .i64 3]):=by
 refine dq Tryz.func172 84 0 ?_
 refine aW ?_
 refine gp (fX a ha (by omega)) rfl ?_
 refine aN ?_
 refine gp (fX b hb (by omega)) rfl ?_
 have P0:(ak 0).length=0:=by rw[bR];rfl
 have xM:((0:Nat):Int)=0:=rfl
 have qZ:((0:Int)==0)=true:=rfl
 refine ae (fO @dE h0 P0 xM qZ) ?_
 refine a_ ?_
 refine sA ?_
 simp[bR,u32s]
theorem QB (a b:List Nat) (ha:Dig a) (hb:Dig b) (yk:a.length<10000000000) (yQ:b.length<10000000000) (h0:val b≠0):
 Den Tryz.prog 172 [] [.fv (.sl (u32s a)),.fv (.sl (u32s b))] [] (.tup [.fv (N (val a / val b)),.fv (N (val a % val b)),.int .i64 0]):=by
 have aa5:=aI (bZ ha)
 have Pe:=aI (bZ hb)
 have akH:(ak (val b)).length≠0:=fun h=>h0 (gF h)
 refine dq Tryz.func172 84 0 ?_
 refine aW ?_
 refine gp (fX a ha (by omega)) rfl ?_
 refine aN ?_
 refine gp (fX b hb (by omega)) rfl ?_
 have hz:(((ak (val b)).length:Int)==0)=false:=by rw[qx];omega
 refine ae (aB @dE hz) ?_
 refine gp (QA (ak (val a)) (ak (val b)) (ar _) (ar _) (by omega) (by omega)) rfl ?_
 refine ae @ao ?_
 refine bM ?_ ?_
 .intro h1 h2
  rw[Cx] at h1
  refine ae h2 ?_
  refine a_ ?_
  refine sA ?_
  rw[Nat.div_eq_of_lt h1,Nat.mod_eq_of_lt h1]
  simp[N,bR,u32s]
 intro h1 h2
 rw[Cx] at h1
 refine ae h2 ?_
 refine Br.beqInt ?_ ?_
 .intro h3 h4
  obtain⟨d,hd⟩: ∃ d,ak (val b)=[d]:=length_eq_one_iff.1 (by omega)
  have hbv:val b=d:=by rw[<-ao (val b),hd];simp[val]
  have ym:d<4294967296:=by have:=ar (val b);rw[hd] at this;exact this d (by simp)
  have t_:(u32s [d]).getD 0 []=[FV.lit (Value.int .u32 d)]:=rfl
  have iS:0<d:=by omega
  have eI:=Nat.mod_lt (val a) iS
  have Ug:=aek (ak (val a)) d (ar _) (by omega) ym iS
  rw[ao] at Ug
  refine ae (aB hd t_) ?_
  refine⟨by simp,?_⟩
  refine aM Ug ?_
  obtain⟨r,hr⟩:=ax (val a % d)
  rw[hr] at eI
  have DS:=fX [r] (Dig.mk (by simp only[B];omega) Dig.nil) (by simp)
  have hvr:val [r]=r:=by simp[val]
  rw[hvr] at DS
  refine ae hr ?_
  refine gp DS ?_ ?_
  .rfl
  refine aN ?_
  refine a_ ?_
  exact kT (aB hbv hr)
 intro h3 h4
 have dP:(ak (val b)).length<=(ak (val a)).length:=cM (by omega)
 obtain⟨n,hn⟩: ∃ n,(ak (val b)).length=n+1:=⟨(ak (val b)).length - 1,by omega⟩
 have yo:=Lp hn
 have PZ:=(ar (val b)).getD n
 simp only[B] at PZ
 obtain⟨top,ht⟩:=ax ((ak (val b)).getD n 0)
 rw[ht] at yo PZ
 have lR:(((n+1:Nat):Int) - 1).toNat=n:=by omega
 refine ae h4 ?_
 refine wl (α:=Nat) (fun s=>⟨[.fv (N (val a)),.fv (N (val b)),.any,.any,.nilsl,.nilsl,.any,.any,.any,.int .i64 s]++replicate 76 .any,[]⟩)
  (fun s=>32 - s) (fun s=>s<32/\top*2^s<4294967296) 0 ?_ ?_ ?_
 .refine eH [] ?_ ?_
  .simp[bh,dF,cw,N]
  trivial
 .exact⟨by omega,by simpa using PZ⟩
 rintro s ⟨hs,en⟩
 have Cf:(s<=32)=True:=by simp;omega
 have Pg:IntKind.u64.wrap (s:Int)=(s:Int):=d8 (by omega)
 obtain⟨w,hw⟩:=ax (top*2^s)
 have hwi:(top:Int)*2^s=(w:Int):=by rw[<-hw,Int.natCast_mul,Int.natCast_pow];rfl
 rw[hw] at en
 have hww:IntKind.u32.wrap (w:Int)=(w:Int):=dD (by omega)
 refine bw (bu @dE hn lR ht Cf Pg hwi hww) ?_
 repeat refine ag ?_
 refine bM ?_ ?_
 .intro h5 h6
  refine ae h6 ?_
  have apj:=Qr yo (by rw[hw];omega:top*2^s<2147483648)
  refine aA (s+1) ?_ ⟨by omega,by rw[Nat.pow_succ,<-Nat.mul_assoc,hw];omega⟩
  refine eH [] ?_ ?_
  .simp[bh,dF,cw,N]
  trivial
 intro h5 h6
 refine ae h6 ?_
 have Ch:=zc (k:=s) hn ht (by omega) (by rw[hw];omega) (by rw[hw];omega)
 obtain⟨V,hV⟩:=ax (val b*2^s)
 rw[hV] at Ch
 obtain⟨la,WI⟩: ∃ t,(ak (val a)).length=t:=⟨_,rfl⟩
 have WJ:=Yi (ak (val a)) s (ar _) (by omega) hs
 have agq:=Yi (ak (val b)) s (ar _) (by omega) hs
 rw[ao,WI] at WJ
 rw[ao,hn,hV] at agq
 have DS:=fX (iO (n+1+1) V) (k9 _ _) (by rw[c9];omega)
 have hVd:val (iO (n+1+1) V)=V:=by
  apply k_;have:=b9 (n:=V);rw[Ch.1] at this;exact Nat.lt_of_lt_of_le this (Nat.pow_le_pow_right (by decide) (by omega))
 rw[hVd] at DS
 have hua:val (iO (la+1) (val a*2^s))=val a*2^s:=by
  apply k_;rw[Nat.pow_succ];have:=b9 (n:=val a);rw[WI] at this;exact Nat.mul_lt_mul'' this (Nat.lt_of_lt_of_le (Nat.pow_lt_pow_right (by decide) hs) (by decide))
 obtain⟨v,hv⟩:=ax (ak V)
 have Cg:Dig v:=by rw[<-hv];exact ar _
 have Wr:val v=V:=by rw[<-hv,ao]
 rw[hv] at Ch
 have hlm:((la:Int) - ((n+1:Nat):Int)+1).toNat=la - n:=by omega
 obtain⟨m,hm⟩:=ax (la - n)
 refine aM WJ ?_
 refine aN ?_
 refine aM agq ?_
 refine aN ?_
 refine gp DS ?_ ?_
 .simp[bJ,eT,eo,dZ,aR,c9]
  rw[dm (by simp[aR,c9])]
 refine ae (dN @dE hv WI hn hlm hm) ?_
 refine⟨by omega,?_⟩
 refine wl (α:=Nat×List Nat×List Nat) (fun⟨j1,qd,u⟩=>⟨[.any,.any,.any,.any,.nilsl,.nilsl,.any,.any,.any,.int .i64 s,.lsl 0 0 (la+1) 1,.fv (.sl (u32s v)),.lsl 1 0 m 1,.int .i64 ((j1:Int) - 1)]++replicate 72 .any,[.row true (u32s u),.row true (u32s qd)]⟩)
  (fun⟨j1,_,_⟩=>j1) (fun⟨j1,qd,u⟩=>j1<=m/\u.length=la+1/\qd.length=m/\Dig u/\Dig qd/\val (u.drop j1)<val v/\val u+val v*(B^j1*val (qd.drop j1))=val a*2^s) (m,replicate m 0,iO (la+1) (val a*2^s)) ?_ ?_ ?_
 .exact bx [0,2]
 .refine⟨qp _,c9 _ _,by simp,k9 _ _,Dig.zeros,?_,?_⟩
  .rw[<-iW (k9 _ _) (by rw[c9];omega),hua]
   have h7:=aO v n
   rw[a8 (by omega)] at h7
   have h8:=b9 (n:=val a)
   rw[WI] at h8
   refine zb (x:=val a*2^s) (P:=val a) (T:=2147483648) (K:=2^s) (Bn:=B^n) (Bl:=B^la) h8 (Nat.pow_le_pow_right (by decide) (show s<=31 by omega)) ?_ ?_ rfl (by decide) (Lb (by decide))
   .rw[h7,Nat.mul_comm]
    exact gD (Nat.mul_le_mul_left _ Ch.2) (Nat.le_add_left _ _)
   rw[<-Nat.pow_add,show n+m=la by omega]
  rw[hua,List.drop_of_length_le (by simp)]
  simp[val]
 rintro⟨j1,qd,u⟩ ⟨M4,A',Ft,BM,hqd,aL,bK⟩
 refine aW ?_
 refine bM ?_ ?_
 .intro h7 h8
  obtain⟨j,rfl⟩: ∃ j,j1=j+1:=⟨j1 - 1,by omega⟩
  have Iq:((j+1:Nat):Int) - 1=(j:Int):=by omega
  have ss:((j:Nat):Int).toNat=j:=by omega
  have LH:=vR (j:=j) BM Cg Ch.1 (by omega) (by omega) aL
  have dW:0<val v:=by omega
  have h95:=aen u v j (n+1) BM Cg Ch.1 (by omega) (by omega) (by omega) Ch.2 aL
  have jM:=Nat.mod_lt (gh u j (n+1+1)) dW
  have hVB:val v<=B^(n+1+1):=by
   have h9:=bZ Cg;rw[Ch.1] at h9;exact gD (Nat.le_of_lt h9) (Nat.pow_le_pow_right (by decide) (by omega))
  have Uh:=Jg (u:=u) (j:=j) (m:=n+1+1) (x:=gh u j (n+1+1) % val v) (by omega) (Nat.lt_of_lt_of_le jM hVB)
  have kU:=BQ (u:=u) (j:=j) (m:=n+1+1) (x:=gh u j (n+1+1) % val v) (by omega)
  have hpd:=Jf (j:=j) (m:=n+1+1) (x:=gh u j (n+1+1) % val v) BM
  have pQ: ∀ t,(t<j\/j+(n+1+1)<=t)->(ki u j (n+1+1) (gh u j (n+1+1) % val v)).getD t 0=u.getD t 0:=fun t KB=>FX (by omega) KB
  have hgB:gh u j (n+1+1) / val v<4294967296:=by
   rw[Nat.div_lt_iff_lt_mul dW,Nat.mul_comm];exact LH.lt
  have tQ:=Nat.mod_add_div (gh u j (n+1+1)) (val v)
  rw[Nat.mul_comm] at tQ
  obtain⟨w,hw4⟩:=ax (ki u j (n+1+1) (gh u j (n+1+1) % val v))
  obtain⟨g,hg⟩:=ax (gh u j (n+1+1) / val v)
  rw[hw4] at Uh kU hpd pQ
  rw[hg] at hgB tQ
  rw[hw4,hg,A'] at h95
  rw[<-Uh] at tQ jM
  have hr:=s7 (u:=u) (u4:=w) (qd:=qd) (j:=j) (n:=n+1) (g:=g) (V:=val v) kU (by omega) (by omega) pQ LH.tail tQ jM bK
  refine ae Iq ?_
  refine eG 0 h95 trivial ?_
  have su:shutBs [Ob.row true (u32s u),Ob.row true (u32s qd)] 0 [PV.lsl 0 0 (la+1) 1,PV.fv (FV.sl (u32s v)),PV.int IntKind.i64 (j:Int)]=[Ob.row true (u32s u),Ob.row true (u32s qd)]:=rfl
  refine ae (aB su @List.append_nil.{0}) ?_
  repeat refine ag ?_
  refine aA (j,qd.set j g,w) ?_ ⟨by omega,by omega,by simp[Ft],hpd,hqd.set _ (by simp only[B];omega),hr.2,hr.1⟩
  exact bx [0,1]
 intro h7 h8
 have Iq:j1=0:=by omega
 subst Iq
 rw[List.drop_zero] at aL
 rw[List.drop_zero,Nat.pow_zero,Nat.one_mul] at bK
 have Be:=FW (Wr.trans hV.symm) (Nat.two_pow_pos s) bK aL
 refine ae h8 ?_
 refine gp (fX qd hqd (by omega)) ?_ ?_
 .simp[bJ,eT,eo,dZ,aR,Ft]
  rw[dm (by simp[aR,Ft])]
 refine aN ?_
 refine gp (aem u s BM (by omega) hs) ?_ ?_
 .simp[bJ,eT,eo,dZ,aR,A']
  rw[dm (by simp[aR,A'])]
 refine aN ?_
 refine a_ ?_
 rw[Be.1,Be.2]
 exact Ih
theorem aeo (a b:List Nat) (ha:Dig a) (hb:Dig b) (yk:a.length<10000000000) (yQ:b.length<10000000000):
 Den Tryz.prog 171 [] [.fv (.sl (u32s a)),.fv (.sl (u32s b))] [] (.fv (N (Nat.gcd (val a) (val b)))):=by
 have aa5:=aI (bZ ha)
 have Pe:=aI (bZ hb)
 refine dq Tryz.func171 23 0 ?_
 refine aW ?_
 refine gp (fX a ha (by omega)) rfl ?_
 refine aN ?_
 refine gp (fX b hb (by omega)) rfl ?_
 refine ae @dE ?_
 generalize hg:Nat.gcd (val a) (val b)=g
 refine wl (α:=Nat×Nat) (fun⟨x,y⟩=>⟨.fv (.sl (u32s (ak x))):: .fv (.sl (u32s (ak y))):: .any:: .any:: .nilsl::replicate 20 .any,[]⟩)
  (fun⟨_,y⟩=>y) (fun⟨x,y⟩=>(ak x).length<10000000000/\(ak y).length<10000000000/\Nat.gcd x y=g) (val a,val b) ?_ ?_ ?_
 .exact bx []
 .exact⟨by omega,by omega,hg⟩
 rintro⟨x,y⟩ ⟨hx,hy,IY⟩
 refine aW ?_
 refine bM ?_ ?_
 .intro h5 h6
  have yp:y≠0:=fun h=>by rw[h,bR] at h5;simp at h5
  have h80:=QB (ak x) (ak y) (ar _) (ar _) hx hy (by rw[ao];exact yp)
  rw[ao,ao,dE,dE] at h80
  refine ae h6 ?_
  refine aM h80 ?_
  refine aN ?_
  have aL:=Nat.mod_lt x (Nat.pos_of_ne_zero yp)
  refine ap (y,x % y) (by exact aL) ?_ ⟨hy,FD (cM (Nat.le_of_lt aL)) hy,?_⟩
  .exact bx []
  rw[<-IY,Nat.gcd_comm y,<-Nat.gcd_rec,Nat.gcd_comm]
 intro h5 h6
 have yp:y=0:=gF (by omega)
 subst yp
 refine ae h6 ?_
 refine a_ ?_
 rw[Nat.gcd_zero_right] at IY
 refine vq IY ?_
 rfl
theorem Nx {s:Bool} {n d:Nat} (hd:d≠0):FR (g5 s n d)= .agg [.bool (s&&decide (((ak (n / Nat.gcd n d)).length:Int)>0)),.fv (N (n / Nat.gcd n d)),.fv (N (d / Nat.gcd n d))]:=by
 by_cases hn:n=0
 .subst hn;rw[nD rfl,FR,D7,Nat.gcd_zero_left,Nat.zero_div,Nat.div_self (by omega)];have h1:ak 1=[1]:=nB (l:=[1]) (fun d hd=>by simp at hd;subst hd;decide) (Or.inr (by decide));unfold N Raw.v;rw[bR,h1];simp[u32s]
 obtain⟨h1,h2,h3⟩:=Cu (s:=s) hn hd;rw[bt,h1,h2,h3];have h4:n / Nat.gcd n d≠0:=by
  have:=Nat.div_pos (Nat.le_of_dvd (by omega) (Nat.gcd_dvd_left n d)) (Nat.gcd_pos_of_pos_left d (by omega));omega
 have h5:((ak (n / Nat.gcd n d)).length:Int)≠0:=fun h=>h4 (d5.1 h)
 rw[f3 (show((ak (n / Nat.gcd n d)).length:Int)>0 by omega),Bool.and_true]
theorem zi (s:Bool) (n d:List Nat) (hn:Dig n) (hd:Dig d) (kf:n.length<10000000000) (vH:d.length<10000000000) (iS:val d≠0):
 Den Tryz.prog 123 [] [.bool s,.fv (.sl (u32s n)),.fv (.sl (u32s d))] [] (FR (g5 s (val n) (val d))):=by
 have Y8:=aI (bZ hd)
 have yR:Nat.gcd (val n) (val d)<=val d:=Nat.le_of_dvd (by omega) (Nat.gcd_dvd_right _ _)
 have t_:Nat.gcd (val n) (val d)≠0:=by
  have:=Nat.gcd_pos_of_pos_right (val n) (show 0<val d by omega);omega
 have xN:=cM yR
 have I3:=aeo n d hn hd kf vH
 rw[Nx iS]
 obtain⟨g,hg⟩:=ax (Nat.gcd (val n) (val d))
 rw[hg] at I3 t_ xN ⊢
 have WK:=QB n (ak g) hn (ar _) kf (by omega) (by rw[ao];exact t_)
 have aa9:=QB d (ak g) hd (ar _) vH (by omega) (by rw[ao];exact t_)
 rw[ao] at WK aa9
 obtain⟨x,hx⟩:=ax (val n / g)
 rw[dE] at I3
 rw[hx,dE x] at WK ⊢
 cases s
 .refine dq Tryz.func123 37 0 ?_
  refine aW ?_
  refine aM I3 ?_
  refine aN ?_
  refine aM WK ?_
  refine aN ?_
  refine aM aa9 ?_
  refine aN ?_
  refine a_ rfl
 refine dq Tryz.func123 37 0 ?_
 refine aW ?_
 refine aM I3 ?_
 refine aN ?_
 refine aM WK ?_
 refine aN ?_
 refine aM aa9 ?_
 refine aN ?_
 refine a_ rfl
theorem mb (r:Raw) (hr:r.Ok 5000000000):Den Tryz.prog 121 [] [r.v] [] (FR r.q):=by
 have DS:=fX r.den hr.den (by have:=hr.lden;omega);rw[dE] at DS;by_cases h0:val r.den=0
 .have hq:r.q=0:=ze h0;rw[h0,bR] at DS;rw[hq,FR,D7];unfold Raw.v;have hz:(((0:Nat):Int)==0)=true:=rfl;have hl:(u32s []).length=0:=rfl;have qZ:([]:List Nat).length=0:=rfl;refine dq Tryz.func121 16 0 ?_;refine aW ?_;refine aM DS ?_;refine ae (aB hl hz) ?_;refine a_ rfl
 have yT:=zi r.neg r.num r.den hr.num hr.den (by have:=hr.lnum;omega) (by have:=hr.lden;omega) h0;change Den Tryz.prog 123 [] _ [] (FR r.q) at yT;have hz:(((ak (val r.den)).length:Int)==0)=false:=by rw[qx];exact fun h=>h0 (d5.1 h)
 rw[bt] at yT ⊢;unfold Raw.v;refine dq Tryz.func121 16 0 ?_;refine aW ?_;refine aM DS ?_;refine ae hz ?_;refine aM yT ?_;refine aN ?_;refine a_ rfl
theorem mc (r:Raw) (hr:r.Ok 5000000000):Den Tryz.prog 63 [] [r.v] [] (.int .i64 (fQ r.q)):=by
 have mJ:=mb r hr;rw[bt] at mJ;unfold Raw.v at mJ ⊢;obtain⟨n,hn⟩:=ax r.q.num.natAbs;rw[hn,dE] at mJ;refine dq Tryz.func63 10 0 ?_;refine aW ?_;refine aM mJ ?_;refine aN ?_;refine Br.beqInt ?_ ?_
 .intro h1 h2;have hs:=FY (hn.trans (d5.1 h1));refine ae h2 ?_;refine a_ ?_;exact kT hs
 intro h1 h2;refine ae h2 ?_;refine bM ?_ ?_
 .intro h3 h4;have hs:=yA h3;refine ae h4 ?_;refine a_ ?_;exact kT hs
 intro h3 h4;have hs:=D9 (q:=r.q) (fun h=>h1 (d5.2 (hn.symm.trans h))) h3;refine ae h4 ?_;refine a_ ?_;exact kT hs
theorem Yj (r:Raw) (hr:r.Ok 5000000000):Den Tryz.prog 122 [] [r.v] [] (FR (-r.q)):=by
 have mJ:=mb r hr;rw[bt] at mJ;rw[Qx];unfold Raw.v at mJ ⊢;obtain⟨n,hn⟩:=ax r.q.num.natAbs;obtain⟨s,hs⟩:=ax (decide (r.q.num<0));obtain⟨d,hd⟩:=ax (N r.q.den);rw[hn,hs,hd,dE] at mJ;rw[hn,hs,hd,dE];refine dq Tryz.func122 15 0 ?_;refine aW ?_;refine aM mJ ?_;cases s
 .have e1:(!false)=true:=rfl;refine ae e1 ?_;refine a_ rfl
 have e1:(!true)=false:=rfl;refine ae e1 ?_;refine a_ rfl
end Go.Proofs.YtjjbkjgifdhlcaaGreat
