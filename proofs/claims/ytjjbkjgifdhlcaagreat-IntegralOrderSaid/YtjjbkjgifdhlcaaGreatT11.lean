/- Contracts:math/bits.Len32,LeadingZeros32. -/
import Derived.Test.YtjjbkjgifdhlcaaGreatT10
import Derived.Lib.Tables
import Derived.Test.YtjjbkjgifdhlcaaGreatT8
import Derived.Test.YtjjbkjgifdhlcaaGreatT1
set_option linter.all false
open Nat (reduceAdd)
open List (getElem?_eq_none getElem?_set_ne getElem?_take length_drop length_eq_one_iff length_take nodup_nil replicate take_succ_eq_append_getElem)
namespace Go.Proofs.YtjjbkjgifdhlcaaGreat
open Go.AM Go.Pl
set_option maxRecDepth 100000
set_option maxHeartbeats 1000000
def dW (n:Nat):Nat:=if n=0 then 0 else Nat.log2 n+1
theorem D_: ∀ n:Fin 256,(((Lib.len8tab[n.val]?).getD 0).toNat:Nat)=dW n.val:=by decide+kernel
theorem md {s:ByteArray}:PV.ofValue (.string s)= .fv (.lit (.string s)):=rfl
theorem D':(⟨List.toArray (List.append (List.append [0,1,2,2,3,3,3,3,4,4,4,4,4,4,4,4,5,5,5,5,5,5,5,5,5,5,5,5,5,5,5,5,6,6,6,6,6,6,6,6,6,6,6,6,6,6,6,6,6,6,6,6,6,6,6,6,6,6,6,6,6,6,6,6] [7,7,7,7,7,7,7,7,7,7,7,7,7,7,7,7,7,7,7,7,7,7,7,7,7,7,7,7,7,7,7,7,7,7,7,7,7,7,7,7,7,7,7,7,7,7,7,7,7,7,7,7,7,7,7,7,7,7,7,7,7,7,7,7]) (List.append [8,8,8,8,8,8,8,8,8,8,8,8,8,8,8,8,8,8,8,8,8,8,8,8,8,8,8,8,8,8,8,8,8,8,8,8,8,8,8,8,8,8,8,8,8,8,8,8,8,8,8,8,8,8,8,8,8,8,8,8,8,8,8,8] [8,8,8,8,8,8,8,8,8,8,8,8,8,8,8,8,8,8,8,8,8,8,8,8,8,8,8,8,8,8,8,8,8,8,8,8,8,8,8,8,8,8,8,8,8,8,8,8,8,8,8,8,8,8,8,8,8,8,8,8,8,8,8,8]))⟩:ByteArray)=Lib.len8tab:=by kernel_rfl
theorem OB {n:Nat} (h:1<=n):dW n=1+dW (n / 2):=by
 unfold dW;rw[if_neg (by omega),Nat.log2_def];split
 .rw[if_neg (by omega)];omega
 have:n / 2=0:=by omega
 rw[if_pos this]
theorem rE {n:Nat} (k:Nat) (h:2^k<=n):dW n=k+dW (n / 2^k):=by
 induction k generalizing n with
 | zero=>simp
 | succ k ih=>
  have hk:=Nat.two_pow_pos k;rw[Nat.pow_succ] at h ⊢;rw[OB (by omega),ih (n:=n / 2) (by omega),Nat.div_div_eq_div_mul,Nat.mul_comm 2];omega
theorem XS (x:Nat) (hx:x<4294967296):Den Tryz.prog 244 [] [.int .u32 x] [] (.int .i64 (dW x:Int)):=by
 have h8: ∀ n:Nat,n<256->(((Lib.len8tab[n]?).getD 0).toNat:Nat)=dW n:=fun n hn=>D_ ⟨n,hn⟩
 have d4:Lib.len8tab.size=256:=Lib.len8tab_size;have fin: ∀ (b y:Nat),y<256->b<=24->dW x=b+dW y->dW y<100->True:=fun _ _ _ _ _ _=>trivial
 have hb8: ∀ n:Nat,n<256->dW n<=8:=by
  intro n hn;have: ∀ m:Fin 256,dW m.val<=8:=by decide+kernel
  exact this ⟨n,hn⟩
 refine dq Tryz.func244 18 0 ?_;refine aX ?_;refine bR ?_ ?_
 .intro h1 h2;have e1:=rE (n:=x) 16 (by omega);have c1:(x:Int) / 65536=((x / 65536:Nat):Int):=by rw[Int.natCast_ediv];rfl
  have e1':dW x=16+dW (x / 65536):=e1;have hy:x / 65536<65536:=by omega
  generalize x / 65536=y at*;refine ae (aQ h2 c1) ?_;refine⟨by omega,?_⟩;refine bR ?_ ?_
  .intro h3 h4;have e2:dW y=8+dW (y / 256):=rE (n:=y) 8 (by omega);have c2:(y:Int) / 256=((y / 256:Nat):Int):=by rw[Int.natCast_ediv];rfl
   have hz:y / 256<256:=by omega
   generalize y / 256=z at*;have:=hb8 z hz;refine ae (gS h4 c2 @D' @md h8) ?_;refine⟨by omega,by rw[d4];omega,?_⟩;refine bg ?_;refine qS ?_;rw[e1',e2];simp;omega
  intro h3 h4;have:=hb8 y (by omega);refine ae (ej h4 @D' @md h8) ?_;refine⟨by rw[d4];omega,?_⟩;refine bg ?_;refine qS ?_;rw[e1'];simp
 intro h1 h2;refine ae h2 ?_;refine bR ?_ ?_
 .intro h3 h4;have e2:dW x=8+dW (x / 256):=rE (n:=x) 8 (by omega);have c2:(x:Int) / 256=((x / 256:Nat):Int):=by rw[Int.natCast_ediv];rfl
  have hz:x / 256<256:=by omega
  generalize x / 256=z at*;have:=hb8 z hz;refine ae (gS h4 c2 @D' @md h8) ?_;refine⟨by omega,by rw[d4];omega,?_⟩;refine bg ?_;refine qS ?_;rw[e2];simp
 intro h3 h4;have:=hb8 x (by omega);refine ae (ej h4 @D' @md h8) ?_;refine⟨by rw[d4];omega,?_⟩;refine bg ?_;refine qS ?_;simp
theorem JL {x:Nat} (hx:x<4294967296):dW x<=32:=by
 unfold dW;split
 .omega
 have:x.log2<32:=(Nat.log2_lt (by omega)).2 (by omega);omega
theorem XT (x:Nat) (hx:x<4294967296):Den Tryz.prog 248 [] [.int .u32 x] [] (.int .i64 ((32 - dW x:Nat):Int)):=by
 have hb:=JL hx;refine dq Tryz.func248 5 0 ?_;refine aX ?_;refine gp (XS x hx) rfl ?_;refine a9 ?_;refine bg ?_;refine qS ?_;simp;omega
theorem Wq (l:List Nat) (hl:Dig l) (oE:l.length<=2):Den Tryz.prog 215 [] [.fv (.sl (u32s l))] [] (.int .u64 ((val l:Nat):Int)):=by
 refine dq Tryz.func215 21 0 ?_;refine aX ?_;refine wl (α:=Nat) (fun i=>⟨.fv (.sl (u32s l)):: .any:: .fv (.lit (.int .u64 0)):: .int .u64 ((val (l.take i):Nat):Int):: .any:: .any:: .fv (.sl (u32s l)):: .int .i64 l.length:: .int .i64 i::replicate 13 .any,[]⟩)
  (fun i=>l.length - i) (fun i=>i<=l.length) 0 ?_ ?_ ?_
 .refine eV [] ?_ ?_
  .simp[bc,dX,cB,val]
  trivial
 .omega
 intro i hi;refine aX ?_;refine bR ?_ ?_
 .intro h1 h2;have hx:=hl.getD i;have gN:=aJ l i;have hvt:=bF (hl.take i);rw[length_take,Nat.min_eq_left hi] at hvt;simp only[B] at hx;have iH:i=0\/i=1:=by omega
  rcases iH with rfl | rfl
  .generalize DA:l.getD 0 0=x at*;have ht0:val (l.take 0)=0:=by simp[val]
   rw[ht0] at gN ⊢;refine ae (gS DA @vt @Int.natCast_zero @Int.mul_zero @Int.toNat_zero) ?_;refine⟨by omega,by omega,?_⟩;refine ax 1 ?_ (by omega);refine eV [] ?_ ?_
   .have:(x:Int)=((val (l.take 1):Nat):Int):=by rw[gN];simp
    simp[bc,dX,cB,<-this]
   trivial
  generalize DA:l.getD 1 0=x at*;generalize val (l.take 1)=v at*;have hv:v<4294967296:=by simpa using hvt
  refine ae (ej DA @Wn @Int.natCast_one @Int.mul_one) ?_;refine⟨by omega,by omega,?_⟩;refine ax 2 ?_ (by omega);refine eV [] ?_ ?_
  .have:(v:Int)+x*4294967296=((val (l.take 2):Nat):Int):=by rw[gN];simp[B,Int.mul_comm]
   simp[bc,dX,cB,<-this]
  trivial
 intro h1 h2;refine ae h2 ?_;have dU:i=l.length:=by omega
 refine bg ?_;refine qS ?_;rw[dU,aR (qp _)]
end Go.Proofs.YtjjbkjgifdhlcaaGreat
namespace Go.Pl
theorem xe {w v first low top vl P:Nat} (_:0<P) (hw:w=first*P+low) (hl:low<P) (hv:v=top*P+vl) {q:Nat} (hq:q*v<=w):q*top<=first:=by
 have h1:q*top*P<=q*v:=by
  rw[hv,Nat.mul_add,Nat.mul_assoc];exact Nat.le_add_right _ _
 have h2:q*top*P<(first+1)*P:=by
  rw[Nat.add_mul,Nat.one_mul];omega
 have:=Nat.lt_of_mul_lt_mul_right h2;omega
theorem SR {w v w2 v2 lw lv Q g:Nat} (hw:w=w2*Q+lw) (hv:v=v2*Q+lv) (hl:lv<Q) (hg:g*v2<=w2) (oB:g<=v2):(g - 1)*v<=w:=by
 rcases Nat.eq_zero_or_pos g with h0 | h0
 .subst h0;simp
 obtain⟨k,rfl⟩: ∃ k,g=k+1:=⟨g - 1,by omega⟩;rw[Nat.add_sub_cancel,hw,hv];have h1:k*lv<=k*Q:=Nat.mul_le_mul_left _ (by omega);have h2:(k+1)*v2*Q<=w2*Q:=qn _ hg;have h3:k*Q<=v2*Q:=qn _ (by omega);have h4:(k+1)*v2*Q=k*(v2*Q)+v2*Q:=by grind
 rw[Nat.mul_add];omega
structure vu (first top q g r:Nat):Prop where
 sum:g*top+r=first
 low:q<=g
theorem Ea {first top q:Nat} (ht:0<top) (h:q*top<=first):vu first top q (first / top) (first % top):=
 ⟨by have:=Nat.div_add_mod first top;rw[Nat.mul_comm] at this;exact this,(Nat.le_div_iff_mul_le ht).2 h⟩
theorem wF {first top q g r:Nat} (h:vu first top q g r) (aH:q<g):vu first top q (g - 1) (r+top):=by
 obtain⟨k,rfl⟩: ∃ k,g=k+1:=⟨g - 1,by omega⟩;refine⟨?_,by omega⟩;have:=h.sum;rw[Nat.add_mul,Nat.one_mul] at this;rw[Nat.add_sub_cancel];omega
theorem JM {w v w2 first u2 top second lw lv Q q g r:Nat} (hQ:0<Q) (hw:w=w2*Q+lw) (hlw:lw<Q) (U0:w2=first*4294967296+u2) (hv:v=(top*4294967296+second)*Q+lv) (hq:q*v<=w)
 (h:vu first top q g r) (ht:r*4294967296+u2<g*second):q<g:=by
 rcases Nat.lt_or_ge q g with h1 | h1
 .exact h1
 exfalso
 have h2:=xe hQ hw hlw hv hq
 have h3:g*(top*4294967296+second)<=q*(top*4294967296+second):=qn _ h1
 have h4:=h.sum
 have h5:g*(top*4294967296+second)=(g*top)*4294967296+g*second:=by grind
 omega
theorem pQ {first u2 top second g r q:Nat} (h:vu first top q g r) (ht:g*second<=r*4294967296+u2):g*(top*4294967296+second)<=first*4294967296+u2:=by
 have h4:=h.sum;have h5:g*(top*4294967296+second)=(g*top)*4294967296+g*second:=by grind
 omega
theorem Cl {first top second g r q:Nat} (h:vu first top q g r) (hr:4294967296<=r) (hf:first<=top*4294967296+4294967295) (hs:second<4294967296):g<4294967296/\g*second<=r*4294967296:=by
 have h4:=h.sum;have h1:g*top<4294967296*top:=by omega
 have hg:g<4294967296:=Nat.lt_of_mul_lt_mul_right h1;refine⟨hg,?_⟩;have h2:g*second<=r*second:=qn _ (by omega);have h3:r*second<=r*4294967296:=Nat.mul_le_mul_left _ (by omega);exact gD h2 h3
theorem OC {first top:Nat} (ht:2147483648<=top) (hf:first<=top*4294967296+4294967295):first / top<=4294967297:=by
 have:first / top<4294967298:=by
  rw[Nat.div_lt_iff_lt_mul (by omega)];omega
 omega
end Go.Pl
namespace Go.Pl
open Go.AM
def fB (u:List Nat) (j i:Nat):Nat:=val ((u.drop j).take i)
theorem Ht (u:List Nat) (j i:Nat):(u.drop j).getD i 0=u.getD (j+i) 0:=by
 simp[qa,List.getElem?_drop]
theorem sI (u:List Nat) (j:Nat):fB u j 0=0:=by simp[fB,val]
theorem jm (u:List Nat) (j i:Nat):fB u j (i+1)=fB u j i+B^i*u.getD (j+i) 0:=by
 unfold fB;rw[aJ,Ht]
theorem jf {u:List Nat} {j i:Nat} (h:j+i<u.length) (x:Nat):fB (u.set (j+i) x) j (i+1)=fB u j i+B^i*x:=by
 unfold fB;have h1:(u.set (j+i) x).drop j=(u.drop j).set i x:=by
  rw[List.drop_set];rw[if_neg (by omega),Nat.add_sub_cancel_left]
 rw[h1,cq (by rw[length_drop];omega)]
theorem uj {u:List Nat} (hu:Dig u) (j i:Nat):fB u j i<B^i:=by
 unfold fB;have h:=bF ((hu.drop j).take i);have h2:((u.drop j).take i).length<=i:=by rw[length_take];omega
 exact Nat.lt_of_lt_of_le h (Nat.pow_le_pow_right (by decide) h2)
theorem JN {u:List Nat} {j n:Nat} (h:j+n<=u.length):val u=val (u.take j)+B^j*(fB u j n+B^n*val (u.drop (j+n))):=by
 rw[jl u j (by omega)];congr 2;rw[jl (u.drop j) n (by rw[length_drop];omega)];unfold fB;rw[List.drop_drop]
theorem Wr {a c b:Int}:IntKind.u64.wrap (IntKind.u64.wrap (a - c) - b)=(a - c - b) % 18446744073709551616:=by
 rw[qN,qN];omega
theorem Eb {a c b:Nat} (ha:a<4294967296) (hc:c<4294967296) (hb:b<=1):
 ∃ d b2:Nat,d<4294967296/\b2<=1/\d+c+b=a+b2*4294967296/\((a:Int) - c - b) % 18446744073709551616 % 4294967296=(d:Int)/\((a:Int) - c - b) % 18446744073709551616 / 9223372036854775808=(b2:Int):=by
 by_cases h:c+b<=a
 .exact⟨a - (c+b),0,by omega,by omega,by omega,by omega,by omega⟩
 exact⟨a+4294967296 - (c+b),1,by omega,by omega,by omega,by omega,by omega⟩
theorem jn {S S0 P g Vt v c b a d b2:Nat} (hv:S+g*Vt=S0+(c+b)*P) (h:d+(c+g*v) % 4294967296+b=a+b2*4294967296):
 S+P*d+g*(Vt+P*v)=S0+P*a+((c+g*v) / 4294967296+b2)*(P*4294967296):=by
 have h1:=Nat.mod_add_div (c+g*v) 4294967296
 generalize (c+g*v) % 4294967296=lo at*
 generalize (c+g*v) / 4294967296=hi at*
 have h2:P*d+P*lo+P*b=P*a+b2*(P*4294967296):=by
  have:=congrArg (P* ·) h;grind
 have h3:P*lo+hi*(P*4294967296)=P*c+g*(P*v):=by
  have:=congrArg (P* ·) h1;grind
 have h4:(c+b)*P=P*c+P*b:=by grind
 have h5:(hi+b2)*(P*4294967296)=hi*(P*4294967296)+b2*(P*4294967296):=by rw[Nat.add_mul]
 rw[h5,Nat.mul_add g]
 omega
theorem Ec {W W1 g V:Nat} (h:W1+g*V=W) (hq:W<(g+1)*V):W1<V:=by
 rw[Nat.add_mul,Nat.one_mul] at hq;omega
theorem xf {W W1 W2 g V M c:Nat} (hV:V<=M) (h:W1+g*V=W+M) (hg:0<g) (Aq:(g - 1)*V<=W) (fE:W<g*V) (h2:W2+c*M=W1+V) (hW2:W2<M):W2+(g - 1)*V=W/\W2<V:=by
 obtain⟨k,rfl⟩: ∃ k,g=k+1:=⟨g - 1,by omega⟩;rw[Nat.add_sub_cancel] at*;rw[Nat.add_mul,Nat.one_mul] at h fE;have h3:W2+c*M+k*V=W+M:=by omega
 rcases Nat.lt_trichotomy c 1 with hc | hc | hc
 .have:c=0:=by omega
  subst this;omega
 .subst hc;omega
 exfalso;have:2*M<=c*M:=qn _ hc;omega
theorem Ed {u:List Nat} {j n:Nat} (h:j+n<=u.length):val (u.drop j)=fB u j n+B^n*val (u.drop (j+n)):=by
 unfold fB;rw[jl (u.drop j) n (by rw[length_drop];omega),List.drop_drop]
theorem sJ {u w:List Nat} {j:Nat} (hl:u.length=w.length) (h: ∀ t,j<=t->u.getD t 0=w.getD t 0):u.drop j=w.drop j:=by
 apply List.ext_getElem?;intro i;rw[List.getElem?_drop,List.getElem?_drop];have:=h (j+i) (by omega);by_cases hi:j+i<u.length
 .have hw:j+i<w.length:=by omega
  simp[hi,hw] at this;rw[qb hi,qb hw,this]
 rw[getElem?_eq_none (by omega),getElem?_eq_none (by omega)]
theorem sK {u w:List Nat} {j:Nat} (hl:u.length=w.length) (h: ∀ t,t<j->u.getD t 0=w.getD t 0):u.take j=w.take j:=by
 apply List.ext_getElem?;intro i;rw[getElem?_take,getElem?_take];split
 .have:=h i (by omega);by_cases hi:i<u.length
  .have hw:i<w.length:=by omega
   simp[hi,hw] at this;rw[qb hi,qb hw,this]
  rw[getElem?_eq_none (by omega),getElem?_eq_none (by omega)]
 rfl
theorem XU {s0 a1 a2 P:Nat}:s0+P*a2+P*4294967296*a1=(a1*4294967296+a2)*P+s0:=by grind
theorem XV {f P s a:Nat}:f*(P*4294967296)+(s+P*a)=(f*4294967296+a)*P+s:=by grind
theorem OD {V W f s r t P:Nat} (hk:V=t*P+r) (hr:r<P) (hW:W<V*4294967296) (hf:W=f*P+s):f<=t*4294967296+4294967295:=by
 have h4:V*4294967296<=(t*P+P)*4294967296:=qn _ (by omega);have h5:(t*P+P)*4294967296=(t*4294967296+4294967296)*P:=by grind
 have h6:f*P<(t*4294967296+4294967296)*P:=by omega
 have:=Nat.lt_of_mul_lt_mul_right h6;omega
theorem XW {d0 d1 V:Nat} (h0:d0<4294967296) (h:d1<V):d0+4294967296*d1<V*4294967296:=by omega
theorem SS {s P x M:Nat} (h:s+P*x<M) (hM:M<=P):x=0:=by
 rcases Nat.eq_zero_or_pos x with h1 | h1
 .exact h1
 exfalso;have:P*1<=P*x:=Nat.mul_le_mul_left _ h1;omega
structure Ee (u v:List Nat) (j n:Nat):Prop where
 all:val (u.drop j)=fB u j (n+1)
 tail:val (u.drop (j+n+1))=0
 h1:fB u j (n+1)=(u.getD (j+n) 0*4294967296+u.getD (j+n - 1) 0)*B^(n - 1)+fB u j (n - 1)
 h2:fB u j (n+1)=((u.getD (j+n) 0*4294967296+u.getD (j+n - 1) 0)*4294967296+u.getD (j+n - 2) 0)*B^(n - 2)+fB u j (n - 2)
 v1:val v=v.getD (n - 1) 0*B^(n - 1)+val (v.take (n - 1))
 v2:val v=(v.getD (n - 1) 0*4294967296+v.getD (n - 2) 0)*B^(n - 2)+val (v.take (n - 2))
 lt:fB u j (n+1)<val v*B
 first:u.getD (j+n) 0*4294967296+u.getD (j+n - 1) 0<=v.getD (n - 1) 0*4294967296+4294967295
 l1:val (v.take (n - 1))<B^(n - 1)
 l2:val (v.take (n - 2))<B^(n - 2)
 s1:fB u j (n - 1)<B^(n - 1)
 s2:fB u j (n - 2)<B^(n - 2)
theorem uk {u v:List Nat} {j n:Nat} (hu:Dig u) (hv:Dig v) (hvl:v.length=n) (hn:2<=n) (hj:j+n+1<=u.length) (aH:val (u.drop (j+1))<val v):Ee u v j n:=by
 obtain⟨p,rfl⟩: ∃ p,n=p+2:=⟨n - 2,by omega⟩;have hV:=bF hv;rw[hvl] at hV;have hf:=Ed (u:=u) (j:=j) (n:=p+2+1) (by omega);have hd:=eA (l:=u) (j:=j) (by omega);have wu:u.getD j 0<4294967296:=hu.getD j;have hW:val (u.drop j)<val v*4294967296:=by
  rw[hd];exact XW wu aH
 have hW2:val v*4294967296<=B^(p+2+1):=by
  rw[Nat.pow_succ];exact qn _ (Nat.le_of_lt hV)
 have ht:val (u.drop (j+(p+2+1)))=0:=by
  rw[hf] at hW;exact SS hW hW2
 have sn:val (u.drop j)=fB u j (p+2+1):=by
  rw[hf,ht,Nat.mul_zero,Nat.add_zero]
 have c1:p+2 - 1=p+1:=by omega
 have c2:p+2 - 2=p:=by omega
 have c3:j+(p+2) - 1=j+(p+1):=by omega
 have c4:j+(p+2) - 2=j+p:=by omega
 have e1:=jm u j (p+2);have e2:=jm u j (p+1);have e3:=jm u j p;have w1:=aJ v (p+1);have w2:=aJ v p;have w0:val (v.take (p+1+1))=val v:=aR (by omega);have B7: ∀ i,B^(i+1)=B^i*4294967296:=fun i=>Nat.pow_succ _ _
 have g1:fB u j (p+2+1)=(u.getD (j+(p+2)) 0*4294967296+u.getD (j+(p+1)) 0)*B^(p+1)+fB u j (p+1):=by
  rw[e1,e2,B7 (p+1)];exact XU
 have k1:val v=v.getD (p+1) 0*B^(p+1)+val (v.take (p+1)):=by
  rw[<-w0,w1,Nat.add_comm,Nat.mul_comm]
 have q1:val (v.take (p+1))<B^(p+1):=by
  have:=bF (hv.take (p+1));rw[length_take,Nat.min_eq_left (by omega)] at this;exact this
 have q2:val (v.take p)<B^p:=by
  have:=bF (hv.take p);rw[length_take,Nat.min_eq_left (by omega)] at this;exact this
 refine⟨sn,ht,?_,?_,?_,?_,?_,?_,?_,?_,?_,?_⟩
 .rw[c1,c3];exact g1
 .rw[c2,c3,c4,g1,e3,B7];exact XV
 .rw[c1];exact k1
 .rw[c1,c2,k1,w2,B7];generalize B^p=P;grind
 .rw[<-sn];exact hW
 .rw[c1,c3];rw[sn] at hW;exact OD k1 q1 hW g1
 .rw[c1];exact q1
 .rw[c2];exact q2
 .rw[c1];exact uj hu _ _
 rw[c2];exact uj hu _ _
theorem rF {u u4 qd:List Nat} {j n A g V:Nat} (hl:u4.length=u.length) (hjn:j+n+1<=u.length) (hjq:j<qd.length)
 (so: ∀ t,(t<j\/j+n+1<=t)->u4.getD t 0=u.getD t 0) (Xj:val (u.drop (j+n+1))=0)
 (hW:fB u4 j (n+1)+g*V=fB u j (n+1)) (aH:fB u4 j (n+1)<V) (bO:val u+V*(B^(j+1)*val (qd.drop (j+1)))=A):
 val u4+V*(B^j*val ((qd.set j g).drop j))=A/\val (u4.drop j)<V:=by
 have h1:u4.drop (j+n+1)=u.drop (j+n+1):=sJ hl (fun t ht=>so t (Or.inr ht))
 have h2:u4.take j=u.take j:=sK hl (fun t ht=>so t (Or.inl ht))
 have h3:=JN (u:=u) (j:=j) (n:=n+1) (by omega)
 have h4:=JN (u:=u4) (j:=j) (n:=n+1) (by omega)
 have h5:=Ed (u:=u4) (j:=j) (n:=n+1) (by omega)
 rw[show j+(n+1)=j+n+1 by omega] at h3 h4 h5
 rw[h1,Xj] at h4 h5
 rw[Xj] at h3
 rw[Nat.mul_zero,Nat.add_zero] at h3 h4 h5
 have h6:=mY (l:=qd) (j:=j) (x:=g) hjq
 refine⟨?_,by rw[h5];exact aH⟩
 rw[h6,h4,h2,<-bO,h3,<-hW,Nat.pow_succ]
 generalize val (u.take j)=x1
 generalize B^j=x2
 generalize fB u4 j (n+1)=x3
 generalize val (qd.drop (j+1))=x4
 grind
theorem kd {u v:List Nat} {j n g:Nat} (h:Ee u v j n) (hg:g<4294967296) (wv:2147483648<=v.getD (n - 1) 0)
 (h2:g*(v.getD (n - 1) 0*4294967296+v.getD (n - 2) 0)<=(u.getD (j+n) 0*4294967296+u.getD (j+n - 1) 0)*4294967296+u.getD (j+n - 2) 0):
 (g - 1)*val v<=fB u j (n+1):=
 SR h.h2 h.v2 h.l2 h2 (by omega)
theorem LJ {S1 S S0 U P g V c b x d b2:Nat} (a_:S1=S+P*d) (ua:U=S0+P*x) (jL:S+g*V=S0+(c+b)*P) (UX:d+c+b=x+b2*4294967296):
 S1+g*V=U+b2*(P*4294967296):=by
 have h1:P*d+P*c+P*b=P*x+b2*(P*4294967296):=by
  have:=congrArg (P* ·) UX;grind
 have h2:(c+b)*P=P*c+P*b:=by grind
 omega
theorem mZ {S S0 P Vt c z y cc:Nat} (hs:S+c*P=S0+Vt) (pE:c+(z+y)=cc):
 S+P*(cc % 4294967296)+cc / 4294967296*(P*4294967296)=S0+P*z+(Vt+P*y):=by
 have h1:=Nat.mod_add_div cc 4294967296
 have h2:P*(cc % 4294967296)+cc / 4294967296*(P*4294967296)=P*cc:=by
  have:=congrArg (P* ·) h1;grind
 have h3:P*cc=P*c+P*z+P*y:=by rw[<-pE];grind
 have h4:P*c=c*P:=Nat.mul_comm _ _
 omega
theorem Cm {S1 S U S0 P V c z:Nat} (a_:S1=S+P*((z+c) % 4294967296)) (ua:U=S0+P*z) (hs:S+c*P=S0+V):
 S1+(z+c) / 4294967296*(P*4294967296)=U+V:=by
 have h1:=Nat.mod_add_div (z+c) 4294967296
 have h2:P*((z+c) % 4294967296)+(z+c) / 4294967296*(P*4294967296)=P*(z+c):=by
  have:=congrArg (P* ·) h1;grind
 have h3:P*(z+c)=P*z+c*P:=by grind
 omega
theorem JO {w v g:Nat} (hv:0<v) (h:w / v<=g):w<(g+1)*v:=by
 rw[<-Nat.div_lt_iff_lt_mul hv];omega
theorem q7 {l:List Nat} {i k:Nat} (hk:k<=32) (hi:i<l.length):
 (l.getD i 0+l.getD (i+1) 0*4294967296) / 2^k % 4294967296=val (l.drop i) / 2^k % 4294967296:=by
 have h1:=eA hi
 have h2: ∃ r,val (l.drop (i+1))=l.getD (i+1) 0+B*r:=by
  by_cases h:i+1<l.length
  .exact⟨_,eA h⟩
  refine⟨0,?_⟩;rw[List.drop_of_length_le (by omega),qa,getElem?_eq_none (by omega)];rfl
 obtain⟨r,hr⟩:=h2
 have hb:4294967296=2^k*2^(32 - k):=by
  rw[<-Nat.pow_add,show k+(32 - k)=32 by omega]
 rw[h1,hr]
 generalize l.getD i 0=x
 generalize l.getD (i+1) 0=y
 have h3:x+B*(y+B*r)=x+y*4294967296+2^k*(2^(32 - k)*4294967296*r):=by
  have:2^k*(2^(32 - k)*4294967296*r)=(2^k*2^(32 - k))*4294967296*r:=by grind
  rw[this,<-hb];simp only[B];grind
 rw[h3,Nat.add_mul_div_left _ _ (Nat.two_pow_pos k)]
 have h4:2^(32 - k)*4294967296*r=4294967296*(2^(32 - k)*r):=by grind
 rw[h4,Nat.add_mul_mod_self_left]
theorem AN (i x:Nat):h_ (i+1) x=h_ i x++[x / B^i % B]:=by
 induction i generalizing x with
 | zero=>simp[h_]
 | succ i ih=>
  rw[h_,ih]
  conv=>rhs;rw[h_]
  rw[Nat.div_div_eq_div_mul,Nat.pow_succ,Nat.mul_comm B];simp
theorem ig {l:List Nat} (hl:Dig l) {i:Nat} (hi:i<=l.length):val l / B^i=val (l.drop i):=by
 rw[jl l i hi];have h:=bF (hl.take i);rw[length_take,Nat.min_eq_left hi] at h;rw[Nat.add_mul_div_left _ _ (JE (by decide)),Nat.div_eq_of_lt h,Nat.zero_add]
theorem xg {x P V T K Bn Bm Bl:Nat} (hx:P<Bl) (hK:K<=T) (hV:T*Bn<=V) (hB:Bn*Bm=Bl) (U2:x=P*K) (hT:0<T) (hm:0<Bm):x / Bm<V:=by
 rw[Nat.div_lt_iff_lt_mul hm,U2];have h1:P*K<=P*T:=Nat.mul_le_mul_left _ hK;have h2:P*T<Bl*T:=Nat.mul_lt_mul_of_pos_right hx hT;have h3:T*Bn*Bm<=V*Bm:=qn _ hV;have h4:T*Bn*Bm=Bl*T:=by rw[<-hB];grind
 omega
theorem Ef {u q a b K V:Nat} (hV:V=b*K) (hK:0<K) (h:u+V*q=a*K) (hu:u<V):q=a / b/\u / K=a % b:=by
 have h1:q=a*K / V:=by rw[<-h,Nat.add_mul_div_left _ _ (by omega),Nat.div_eq_of_lt hu,Nat.zero_add]
 have h2:u=a*K % V:=by rw[<-h,Nat.add_mul_mod_self_left,Nat.mod_eq_of_lt hu]
 constructor
 .rw[h1,hV,Nat.mul_div_mul_right _ _ hK]
 rw[h2,hV,Nat.mul_mod_mul_right,Nat.mul_div_cancel _ hK]
end Go.Pl
namespace Go.Proofs.YtjjbkjgifdhlcaaGreat
open Go.AM Go.Pl
set_option maxRecDepth 100000
set_option maxHeartbeats 4000000
theorem SU (n:Nat):n<2^dW n:=by
 unfold dW;split
 .subst_vars;simp
 exact Nat.lt_log2_self
theorem OE {n:Nat} (h:n≠0):2^(dW n - 1)<=n:=by
 unfold dW;rw[if_neg h,Nat.add_sub_cancel];exact Nat.log2_self_le h
theorem XX (a b:List Nat) (k:Nat) (ha:Dig a) (hb:Dig b) (wo:a.length<10000000000) (Ns:2<=b.length) (wW:b.length<=a.length)
 (hk:k=32 - dW (b.getD (b.length - 1) 0)) (U3:k<32) (v:List Nat) (hv:ai (val b*2^k)=v) (hvl:v.length=b.length) (wv:2147483648<=v.getD (v.length - 1) 0):
 Den Tryz.prog 218 [] [.fv (.sl (u32s a)),.fv (.sl (u32s b))] [] (.tup [.fv (N (val a / val b)),.fv (N (val a % val b))]):=by
 have hbt:(((b.length:Nat):Int) - 1).toNat=b.length - 1:=by omega
 have wx:=hb.getD (b.length - 1)
 simp only[B] at wx
 have hkc:IntKind.u64.wrap ((k:Nat):Int)=(k:Int):=dF (by omega)
 have ad6:=XT (b.getD (b.length - 1) 0) wx
 rw[<-hk] at ad6
 have hsb:val (h_ (b.length+1) (val b*2^k))=val b*2^k:=by
  apply ku;rw[Nat.pow_succ];exact Nat.mul_lt_mul'' (bF hb) (Nat.lt_of_lt_of_le (Nat.pow_lt_pow_right (by decide) U3) (by decide))
 have Sv:=ic (h_ (b.length+1) (val b*2^k)) (kr _ _) (by rw[cy];omega)
 rw[hsb] at Sv
 refine dq Tryz.func218 249 0 ?_
 refine b8 hbt ?_
 refine⟨by omega,?_⟩
 refine aW ad6 ?_
 refine ae hkc ?_
 refine gp (OA a k ha (by omega) U3) rfl ?_
 refine a9 ?_
 refine gp (OA b k hb (by omega) U3) rfl ?_
 refine a9 ?_
 refine gp Sv ?_ ?_
 .simp[cC,iw,gj,fP,aM,cy]
  rw[eE (by simp[aM,cy])]
 simp -dsimp(disch:=omega) only[bB,hv,reduceAdd,ru]
 refine dw (by kernel_rfl) ?_
 obtain⟨n,hn⟩:=aw v.length
 have Zo:b.length=n:=by omega
 have kL:((n:Int) - 1).toNat=n - 1:=by omega
 have ub:((n:Int) - 2).toNat=n - 2:=by omega
 have hlm:(((a.length+1:Nat):Int) - (n:Int)).toNat=a.length+1 - n:=by omega
 have Ar:Dig v:=by rw[<-hv];exact ao _
 have Rv:=Ar.getD (n - 1)
 have Rx:=Ar.getD (n - 2)
 have hvv:val v=val b*2^k:=by rw[<-hv,aj]
 simp only[B] at Rv Rx
 rw[hn] at wv
 obtain⟨top,ht⟩:=aw (v.getD (n - 1) 0)
 obtain⟨sec,hs⟩:=aw (v.getD (n - 2) 0)
 obtain⟨m,hm⟩:=aw (a.length+1 - n)
 rw[ht] at Rv wv
 rw[hs] at Rx
 have hua:val (h_ (a.length+1) (val a*2^k))=val a*2^k:=by
  apply ku;rw[Nat.pow_succ];exact Nat.mul_lt_mul'' (bF ha) (Nat.lt_of_lt_of_le (Nat.pow_lt_pow_right (by decide) U3) (by decide))
 refine ae (fw hn kL ub ht hs hlm hm) ?_
 refine⟨by omega,by omega,by omega,?_⟩
 refine wl (α:=Nat×List Nat×List Nat) (fun⟨j1,qd,u⟩=>⟨.fv (.sl (u32s a)):: .fv (.sl (u32s b)):: .any:: .any:: .lsl 1 0 m 1:: .nilsl:: .int .u64 k:: .lsl 0 0 (a.length+1) 1:: .fv (.sl (u32s v)):: .int .i64 n:: .int .u64 top:: .int .u64 sec:: .int .i64 ((j1:Int) - 1)::replicate 238 .any,[.row true (u32s u),.row true (u32s qd)]⟩)
  (fun⟨j1,_,_⟩=>j1) (fun⟨j1,qd,u⟩=>j1<=m/\u.length=a.length+1/\qd.length=m/\Dig u/\Dig qd/\val (u.drop j1)<val v/\val u+val v*(B^j1*val (qd.drop j1))=val a*2^k) (m,replicate m 0,h_ (a.length+1) (val a*2^k)) ?_ ?_ ?_
 .exact bN [0,2]
 .refine⟨qp _,cy _ _,by simp,kr _ _,Dig.zeros,?_,?_⟩
  .rw[<-ig (kr _ _) (by rw[cy];omega),hua]
   have h1:=aJ v (n - 1)
   rw[aR (by omega),ht] at h1
   refine xg (x:=val a*2^k) (P:=val a) (T:=2147483648) (K:=2^k) (Bn:=B^(n - 1)) (Bl:=B^a.length) (bF ha) (Nat.pow_le_pow_right (by decide) (show k<=31 by omega)) ?_ ?_ rfl (by decide) (JE (by decide))
   .rw[h1,Nat.mul_comm]
    exact gD (Nat.mul_le_mul_left _ wv) (Nat.le_add_left _ _)
   rw[<-Nat.pow_add];congr 1;omega
  rw[hua,List.drop_of_length_le (by simp)]
  simp[val]
 rintro⟨j1,qd,u⟩ ⟨Sx,zo,I7,zN,hqd,aH,bO⟩
 refine aX ?_
 refine bR ?_ ?_
 .intro h1 h2
  obtain⟨j,rfl⟩: ∃ j,j1=j+1:=⟨j1 - 1,by omega⟩
  have i1:(((j+1:Nat):Int) - 1+(n:Int)).toNat=j+n:=by omega
  have i2:(((j+1:Nat):Int) - 1+(n:Int) - 1).toNat=j+n - 1:=by omega
  have i3:(((j+1:Nat):Int) - 1+(n:Int) - 2).toNat=j+n - 2:=by omega
  have i0:(((j+1:Nat):Int) - 1).toNat=j:=by omega
  have LH:=uk (j:=j) zN Ar hn (by omega) (by omega) aH
  have d1:=zN.getD (j+n)
  have d2:=zN.getD (j+n - 1)
  have d3:=zN.getD (j+n - 2)
  simp only[B] at d1 d2 d3
  have gU:=LH.first
  rw[ht] at gU
  obtain⟨x1,zp⟩:=aw (u.getD (j+n) 0)
  obtain⟨x2,qT⟩:=aw (u.getD (j+n - 1) 0)
  obtain⟨x3,Nt⟩:=aw (u.getD (j+n - 2) 0)
  rw[zp] at d1 gU
  rw[qT] at d2 gU
  rw[Nt] at d3
  refine ae h2 ?_
  refine dw (by kernel_rfl) ?_
  refine ae (gS i1 i2 zp qT @vt) ?_
  refine⟨by omega,by omega,by omega,by omega,by omega,?_⟩
  obtain⟨F,hF⟩: ∃ F,F=x1*4294967296+x2:=⟨_,rfl⟩
  have hFi:(x1:Int)*4294967296+(x2:Int)=(F:Int):=by omega
  rw[<-hF] at gU
  have hFt:F / top<=4294967297:=OC wv gU
  have hFm:F % top<top:=Nat.mod_lt _ (by omega)
  have db:0<val v:=by have:=LH.v1;rw[ht] at this;have h0:0<top*B^(n - 1):=Nat.mul_pos (by omega) (JE (by decide));omega
  obtain⟨Q,hQ⟩: ∃ Q,Q=fB u j (n+1) / val v:=⟨_,rfl⟩
  have hQv:Q*val v<=fB u j (n+1):=by rw[hQ];exact Nat.div_mul_le_self _ _
  have LH1:=LH.h1
  rw[zp,qT,<-hF] at LH1
  have LHv:=LH.v1
  rw[ht] at LHv
  have bP:=Ea (q:=Q) (by omega) (xe (JE (by decide)) LH1 LH.s1 LHv hQv)
  have hQb:Q<4294967296:=by
   rw[hQ,Nat.div_lt_iff_lt_mul db,Nat.mul_comm];exact LH.lt
  have hq:(F:Int) / (top:Int)=((F / top:Nat):Int):=by rw[Int.natCast_ediv]
  have hr:(F:Int) % (top:Int)=((F % top:Nat):Int):=by rw[Int.natCast_emod]
  generalize F / top=g0 at*
  generalize F % top=r0 at*
  refine ae hFi ?_
  refine dw (by kernel_rfl) ?_
  refine ae (aQ hq hr) ?_
  refine⟨by omega,by omega,?_⟩
  refine WA.blockcut (fun(y:Nat×(Nat->PV))=>⟨[.fv (.sl (u32s a)),.fv (.sl (u32s b)),.any,.any,.lsl 1 0 m 1,.nilsl,.int .u64 k,.lsl 0 0 (a.length+1) 1,.fv (.sl (u32s v)),.int .i64 n,.int .u64 top,.int .u64 sec,.int .i64 (((j+1:Nat):Int) - 1),.any,.int .u64 y.1]++tl y.2 15 236,[.row true (u32s u),.row true (u32s qd)]⟩)
   (fun y=>Q<=y.1/\y.1<4294967296/\(y.1 - 1)*val v<=fB u j (n+1)) ?_ ?_
  .refine wl (α:=Nat×Nat) (fun⟨g,r⟩=>⟨.fv (.sl (u32s a)):: .fv (.sl (u32s b)):: .any:: .any:: .lsl 1 0 m 1:: .nilsl:: .int .u64 k:: .lsl 0 0 (a.length+1) 1:: .fv (.sl (u32s v)):: .int .i64 n:: .int .u64 top:: .int .u64 sec:: .int .i64 (((j+1:Nat):Int) - 1):: .any:: .int .u64 g:: .int .u64 r::replicate 235 .any,[.row true (u32s u),.row true (u32s qd)]⟩)
    (fun⟨g,_⟩=>g) (fun⟨g,r⟩=>vu F top Q g r/\r<4294967296/\g<=4294967297) (g0,r0) ?_ ?_ ?_
   .exact bN [0,1]
   .exact⟨bP,by omega,hFt⟩
   rintro⟨g,r⟩ ⟨Lk,GU,oB⟩
   have Au:(g:Int) / 4294967296=((g / 4294967296:Nat):Int):=by rw[Int.natCast_ediv];rfl
   refine b8 Au ?_
   refine⟨by omega,Br.bneInt ?_ ?_⟩
   .intro h3 h4
    have mO:Q<g:=by omega
    obtain⟨g',rfl⟩: ∃ g',g=g'+1:=⟨g - 1,by omega⟩
    have nT:=wF Lk mO
    rw[Nat.add_sub_cancel] at nT
    have DB:((g'+1:Nat):Int) - 1=(g':Int):=by omega
    refine ae (aQ h4 DB) ?_
    refine⟨by omega,Br.bneInt ?_ ?_⟩
    .intro h5 h6
     refine ae h6 ?_
     have qU:=Cl (second:=sec) nT (by omega) gU (by omega)
     refine Mid.ex g' rfl ⟨by omega,qU.1,?_⟩
     refine kd LH qU.1 (by omega) ?_
     rw[ht,hs,zp,qT,Nt,<-hF]
     exact pQ nT (gD qU.2 (Nat.le_add_right _ _))
    intro h5 h6
    refine ae h6 ?_
    refine ax (g',r+top) ?_ ⟨nT,by omega,by omega⟩
    exact bN [0,1]
   intro h3 h4
   have wY:g<4294967296:=by omega
   have hgs:g*sec<=4294967295*4294967295:=Nat.mul_le_mul (by omega) (by omega)
   have U4:(g:Int)*(sec:Int)=((g*sec:Nat):Int):=by rw[Int.natCast_mul]
   obtain⟨gs,I9⟩:=aw (g*sec)
   rw[I9] at hgs U4
   refine ae (gS h4 U4 i3 Nt @vt) ?_
   refine⟨by omega,by omega,by omega,bR ?_ ?_⟩
   .intro h7 h8
    have mO:Q<g:=by
     have LH2:=LH.h2;have LHv2:=LH.v2;rw[zp,qT,Nt,<-hF] at LH2;rw[ht,hs] at LHv2;exact JM (JE (by decide)) LH2 LH.s2 rfl LHv2 hQv Lk (by rw[I9];omega)
    obtain⟨g',rfl⟩: ∃ g',g=g'+1:=⟨g - 1,by omega⟩
    have nT:=wF Lk mO
    rw[Nat.add_sub_cancel] at nT
    have DB:((g'+1:Nat):Int) - 1=(g':Int):=by omega
    refine ae (aQ h8 DB) ?_
    refine⟨by omega,Br.bneInt ?_ ?_⟩
    .intro h5 h6
     refine ae h6 ?_
     have qU:=Cl (second:=sec) nT (by omega) gU (by omega)
     refine Mid.ex g' rfl ⟨by omega,qU.1,?_⟩
     refine kd LH qU.1 (by omega) ?_
     rw[ht,hs,zp,qT,Nt,<-hF]
     exact pQ nT (gD qU.2 (Nat.le_add_right _ _))
    intro h5 h6
    refine ae h6 ?_
    refine ax (g',r+top) ?_ ⟨nT,by omega,by omega⟩
    exact bN [0,1]
   intro h7 h8
   refine ae h8 ?_
   refine Mid.ex g rfl ⟨Lk.low,wY,?_⟩
   refine kd LH wY (by omega) ?_
   rw[ht,hs,zp,qT,Nt,<-hF]
   exact pQ Lk (by rw[I9];omega)
  rintro⟨g,x⟩ ⟨Sy,et,B8⟩
  have anf:u.length=a.length+1:=zo
  have Zp:=JO (g:=g) db (by rw[<-hQ];exact Sy)
  simp only[] at Sy et B8
  simp -dsimp(disch:=omega) only[tl,reduceAdd,ru]
  refine wl (α:=Nat×Nat×Nat×List Nat) (fun⟨i,bo,c,u'⟩=>⟨[.fv (.sl (u32s a)),.fv (.sl (u32s b)),.any,.any,.lsl 1 0 m 1,.nilsl,.int .u64 k,.lsl 0 0 (a.length+1) 1,.fv (.sl (u32s v)),.int .i64 n,.int .u64 top,.int .u64 sec,.int .i64 (((j+1:Nat):Int) - 1),.any,.int .u64 g,.any,.int .u64 bo,.int .u64 c]++replicate 99 .any++[.fv (.sl (u32s v)),.int .i64 n,.int .i64 i]++replicate 131 .any,[.row true (u32s u'),.row true (u32s qd)]⟩)
   (fun⟨i,_,_,_⟩=>n - i) (fun⟨i,bo,c,u'⟩=>i<=n/\bo<=1/\c<4294967296/\u'.length=a.length+1/\Dig u'/\(∀ t,(t<j\/j+i<=t)->u'.getD t 0=u.getD t 0)/\fB u' j i+g*val (v.take i)=fB u j i+(c+bo)*B^i) (0,0,0,u) ?_ ?_ ?_
  .refine eV [0,1] ?_ ?_
   .simp[bc,dX,cB,hn]
   simp[ez,fL]
  .refine⟨by omega,by omega,by omega,zo,zN,fun _ _=>rfl,?_⟩
   simp[sI,val]
  rintro⟨i,bo,c,u'⟩ ⟨hi,hbo,hc,aea,U5,so,jL⟩
  refine aX ?_
  refine bR ?_ ?_
  .intro h3 h4
   have dv:=Ar.getD i
   have du:=U5.getD (j+i)
   simp only[B] at dv du
   have fr:=aJ v i
   have ua:=jm u j i
   have I_:=so (j+i) (Or.inr (qp _))
   rw[<-I_] at ua
   obtain⟨y,hy⟩:=aw (v.getD i 0)
   obtain⟨z,hz⟩:=aw (u'.getD (j+i) 0)
   rw[hy] at fr dv
   rw[hz] at ua du
   have ik:(((j+1:Nat):Int) - 1+(i:Int)).toNat=j+i:=by omega
   have hgy:g*y<=4294967295*4294967295:=Nat.mul_le_mul (by omega) (by omega)
   have Ry:(g:Int)*(y:Int)=((g*y:Nat):Int):=by rw[Int.natCast_mul]
   obtain⟨cc,pE⟩:=aw (c+g*y)
   obtain⟨gy,Zq⟩:=aw (g*y)
   rw[Zq] at hgy Ry
   have zq:(c:Int)+(gy:Int)=(cc:Int):=by omega
   have aiB:cc<=18446744073709551616 - 4294967296:=by omega
   obtain⟨d,b2,hd,eo,UX,I',N_⟩:=Eb (a:=z) (c:=cc % 4294967296) (b:=bo) du (by omega) hbo
   have qV:(cc:Int) % 4294967296=((cc % 4294967296:Nat):Int):=by rw[Int.natCast_emod];rfl
   have kM:(cc:Int) / 4294967296=((cc / 4294967296:Nat):Int):=by rw[Int.natCast_ediv];rfl
   have bP:=jn (S:=fB u' j i) (S0:=fB u j i) (P:=B^i) (g:=g) (Vt:=val (v.take i)) (v:=y) (c:=c) (b:=bo) (a:=z) (d:=d) (b2:=b2) jL (by rw[pE];exact UX)
   have a_:=jf (u:=u') (j:=j) (i:=i) (by omega) d
   obtain⟨xx,mU⟩:=aw (((z:Int) - ((cc % 4294967296:Nat):Int) - (bo:Int)) % 18446744073709551616)
   have hxw:IntKind.u64.wrap (IntKind.u64.wrap ((z:Int) - ((cc % 4294967296:Nat):Int)) - (bo:Int))=xx:=by rw[Wr,mU]
   have hxr:0<=xx/\xx<18446744073709551616:=by omega
   rw[mU] at I' N_
   have zr:IntKind.u32.wrap xx=(d:Int):=by rw[dm];exact I'
   refine ae (bT h4 hy hz ik Ry zq @Ox (gS qV kM hxw zr N_)) ?_
   refine⟨by omega,by omega,by omega,by omega,by omega,by omega,by omega,?_⟩
   refine ax (i+1,b2,cc / 4294967296,u'.set (j+i) d) ?_ ⟨by omega,eo,by omega,by simp[aea],U5.set _ hd,?_,?_⟩
   .exact bN [0,1]
   .intro t Zn
    rw[<-so t (by omega),qa,getElem?_set_ne (by omega),<-qa]
   rw[a_,fr,ua,Nat.pow_succ,<-pE]
   exact bP
  intro h3 h4
  have gA:i=n:=by omega
  subst gA
  have GV:val (v.take i)=val v:=aR (by omega)
  rw[GV] at jL
  have du:=U5.getD (j+i)
  simp only[B] at du
  have ua:=jm u j i
  rw[<-so (j+i) (Or.inr (qp _))] at ua
  have I_:=so (j+i) (Or.inr (qp _))
  rw[zp] at I_
  rw[I_] at du ua
  have ik:(((j+1:Nat):Int) - 1+(i:Int)).toNat=j+i:=by omega
  obtain⟨d,b2,hd,eo,UX,I',N_⟩:=Eb (a:=x1) (c:=c) (b:=bo) du hc hbo
  obtain⟨xx,mU⟩:=aw (((x1:Int) - (c:Int) - (bo:Int)) % 18446744073709551616)
  have hxw:IntKind.u64.wrap (IntKind.u64.wrap ((x1:Int) - (c:Int)) - (bo:Int))=xx:=by rw[Wr,mU]
  have hxr:0<=xx/\xx<18446744073709551616:=by omega
  rw[mU] at I' N_
  have zr:IntKind.u32.wrap xx=(d:Int):=by rw[dm];exact I'
  have a_:=jf (u:=u') (j:=j) (i:=i) (by omega) d
  have rr:(u'.set (j+i) d).length=a.length+1:=by simp[aea]
  have Xk:Dig (u'.set (j+i) d):=U5.set _ hd
  have Zr: ∀ t,(t<j\/j+i+1<=t)->(u'.set (j+i) d).getD t 0=u.getD t 0:=by
   intro t Zn;rw[<-so t (by omega),qa,getElem?_set_ne (by omega),<-qa]
  have B9:fB (u'.set (j+i) d) j (i+1)+g*val v=fB u j (i+1)+b2*B^(i+1):=LJ a_ ua jL UX
  obtain⟨w,hw⟩:=aw (u'.set (j+i) d)
  rw[hw] at rr Xk Zr B9
  refine ae (fw h4 I_ ik hxw zr N_ hw) ?_
  refine⟨by omega,by omega,by omega,by omega,by omega,Br.bneInt ?_ ?_⟩
  .intro h5 h6
   have dV:b2=1:=by omega
   subst dV
   rw[Nat.one_mul] at B9
   have aiD:=uj Xk j (i+1)
   have hVM:val v<=B^(i+1):=by
    have h7:=bF Ar;rw[hn] at h7;exact gD (Nat.le_of_lt h7) (Nat.pow_le_pow_right (by decide) (by omega))
   have fE:fB u j (i+1)<g*val v:=by omega
   have vS:0<g:=by
    rcases Nat.eq_zero_or_pos g with h7 | h7
    .rw[h7,Nat.zero_mul] at fE;omega
    exact h7
   obtain⟨g',rfl⟩: ∃ g',g=g'+1:=⟨g - 1,by omega⟩
   have DB:((g'+1:Nat):Int) - 1=(g':Int):=by omega
   refine ae (aQ h6 DB) ?_
   refine wl (α:=Nat×Nat×List Nat) (fun⟨t,c,w'⟩=>⟨[.fv (.sl (u32s a)),.fv (.sl (u32s b)),.any,.any,.lsl 1 0 m 1,.nilsl,.int .u64 k,.lsl 0 0 (a.length+1) 1,.fv (.sl (u32s v)),.int .i64 i,.int .u64 top,.int .u64 sec,.int .i64 (((j+1:Nat):Int) - 1),.any,.int .u64 g',.any,.any,.int .u64 c]++replicate 159 .any++[.fv (.sl (u32s v)),.int .i64 i,.int .i64 t]++replicate 71 .any,[.row true (u32s w'),.row true (u32s qd)]⟩)
    (fun⟨t,_,_⟩=>i - t) (fun⟨t,c,w'⟩=>t<=i/\c<=1/\w'.length=a.length+1/\Dig w'/\(∀ s,(s<j\/j+t<=s)->w'.getD s 0=w.getD s 0)/\fB w' j t+c*B^t=fB w j t+val (v.take t)) (0,0,w) ?_ ?_ ?_
   .refine eV [0,1] ?_ ?_
    .simp[bc,dX,cB,hn]
    simp[ez,fL]
   .refine⟨by omega,by omega,rr,Xk,fun _ _=>rfl,?_⟩
    simp[sI,val]
   rintro⟨t,c',w'⟩ ⟨eP,hc',Xl,Ja,Zu,Rz⟩
   have dv:=Ar.getD t
   have du:=Ja.getD (j+t)
   simp only[B] at dv du
   have fr:=aJ v t
   have DC:=jm w j t
   have Zv:=Zu (j+t) (Or.inr (qp _))
   rw[<-Zv] at DC
   obtain⟨y,hy⟩: ∃ t',v.getD t 0=t':=⟨_,rfl⟩
   obtain⟨z,hz⟩: ∃ t',w'.getD (j+t) 0=t':=⟨_,rfl⟩
   rw[hy] at fr dv
   rw[hz] at DC du
   have ik2:(((j+1:Nat):Int) - 1+(t:Int)).toNat=j+t:=by omega
   refine aX ?_
   refine bR ?_ ?_
   .intro h7 h8
    obtain⟨cc,pE⟩:=aw (c'+(z+y))
    have zq:(c':Int)+((z:Int)+(y:Int))=(cc:Int):=by omega
    have kM:(cc:Int) / 4294967296=((cc / 4294967296:Nat):Int):=by rw[Int.natCast_ediv];rfl
    have U6:IntKind.u32.wrap (cc:Int)=((cc % 4294967296:Nat):Int):=by rw[dm,Int.natCast_emod];rfl
    have oh:=jf (u:=w') (j:=j) (i:=t) (by omega) (cc % 4294967296)
    refine ae (fw h8 hy hz ik2 zq kM U6) ?_
    refine⟨by omega,by omega,by omega,by omega,by omega,by omega,?_⟩
    refine ax (t+1,cc / 4294967296,w'.set (j+t) (cc % 4294967296)) ?_ ⟨by omega,by omega,by simp[Xl],Ja.set _ (Nat.mod_lt _ (by decide)),?_,?_⟩
    .exact bN [0,1]
    .intro s B_
     rw[<-Zu s (by omega),qa,getElem?_set_ne (by omega),<-qa]
    rw[oh,fr,DC,Nat.pow_succ]
    exact mZ Rz pE
   intro h7 h8
   have aiF:t=i:=by omega
   subst aiF
   rw[GV] at Rz
   have oh:=jf (u:=w') (j:=j) (i:=t) (by omega) ((z+c') % 4294967296)
   have hwc:IntKind.u32.wrap (c':Int)=(c':Int):=cP (by omega)
   have U6:IntKind.u32.wrap ((z:Int)+(c':Int))=(((z+c') % 4294967296:Nat):Int):=by rw[dm,Int.natCast_emod];rfl
   have hd4:Dig (w'.set (j+t) ((z+c') % 4294967296)):=Ja.set _ (Nat.mod_lt _ (by decide))
   have hl4:(w'.set (j+t) ((z+c') % 4294967296)).length=a.length+1:=by simp[Xl]
   have aeb: ∀ s,(s<j\/j+t+1<=s)->(w'.set (j+t) ((z+c') % 4294967296)).getD s 0=u.getD s 0:=by
    intro s B_;rw[<-Zr s (by omega),<-Zu s (by omega),qa,getElem?_set_ne (by omega),<-qa]
   have hs4:fB (w'.set (j+t) ((z+c') % 4294967296)) j (t+1)+((z+c') / 4294967296)*B^(t+1)=fB w j (t+1)+val v:=Cm oh DC Rz
   obtain⟨w4,hw4⟩:=aw (w'.set (j+t) ((z+c') % 4294967296))
   rw[hw4] at hd4 hl4 aeb hs4
   have GU:=xf hVM B9 vS B8 fE hs4 (uj hd4 _ _)
   rw[Nat.add_sub_cancel] at GU
   have Zw:IntKind.u32.wrap (g':Int)=(g':Int):=cP (by omega)
   have hr:=rF (u:=u) (u4:=w4) (qd:=qd) (j:=j) (n:=t) (g:=g') (V:=val v) (by omega) (by omega) (by omega) aeb LH.tail GU.1 GU.2 bO
   refine ae (bT h8 hz ik2 hwc U6 hw4 Zw i0) ?_
   refine⟨by omega,by omega,by omega,by omega,by omega,by omega,?_⟩
   refine ax (j,qd.set j g',w4) ?_ ⟨by omega,hl4,by simp[I7],hd4,hqd.set _ (by simp only[B];omega),hr.2,hr.1⟩
   exact bN [0,1]
  intro h5 h6
  have Hg:b2=0:=by omega
  subst Hg
  rw[Nat.zero_mul,Nat.add_zero] at B9
  have Zw:IntKind.u32.wrap (g:Int)=(g:Int):=cP (by omega)
  have Hh:=Ec B9 Zp
  have hr:=rF (u:=u) (u4:=w) (qd:=qd) (j:=j) (n:=i) (g:=g) (V:=val v) (by omega) (by omega) (by omega) Zr LH.tail B9 Hh bO
  refine ae (bZ h6 Zw i0) ?_
  refine⟨by omega,by omega,?_⟩
  refine ax (j,qd.set j g,w) ?_ ⟨by omega,rr,by simp[I7],Xk,hqd.set _ et,hr.2,hr.1⟩
  exact bN [0,1]
 intro h1 h2
 have wu:j1=0:=by omega
 subst wu
 rw[List.drop_zero] at aH
 rw[List.drop_zero,Nat.pow_zero,Nat.one_mul] at bO
 have D0:0<2^k:=Nat.two_pow_pos k
 have zt:=Ef hvv D0 bO aH
 have aiI:val u / 2^k<B^n:=by
  refine Hr (Nat.div_le_self _ _) (Nat.lt_trans aH ?_);rw[<-hn];exact bF Ar
 refine ae h2 ?_
 refine⟨by omega,?_⟩
 refine wl (α:=Nat×List Nat) (fun⟨i,out⟩=>⟨[.fv (.sl (u32s a)),.fv (.sl (u32s b)),.any,.any,.lsl 1 0 m 1,.lsl 2 0 n 1,.int .u64 k,.lsl 0 0 (a.length+1) 1]++replicate 215 .any++[.int .i64 n,.int .i64 i]++replicate 26 .any,[.row true (u32s u),.row true (u32s qd),.row true (u32s out)]⟩)
  (fun⟨i,_⟩=>n - i) (fun⟨i,out⟩=>i<=n/\out.length=n/\Dig out/\out.take i=h_ i (val u / 2^k)) (0,replicate n 0) ?_ ?_ ?_
 .exact bN [0,1,2]
 .exact⟨by omega,by simp,Dig.zeros,by simp[h_]⟩
 rintro⟨i,out⟩ ⟨hi,ho,An,hv3⟩
 refine aX ?_
 refine bR ?_ ?_
 .intro h3 h4
  have hx:=zN.getD i
  have hy:=zN.getD (i+1)
  have RA:(u.getD i 0+u.getD (i+1) 0*4294967296) / 2^k % 4294967296=val u / 2^k / B^i % 4294967296:=by
   rw[q7 (l:=u) (i:=i) (k:=k) (by omega) (by omega),<-ig zN (by omega),Nat.div_div_eq_div_mul,Nat.div_div_eq_div_mul,Nat.mul_comm (2^k)]
  have oA:((i:Int)+1).toNat=i+1:=by omega
  have Ao:(k<=64)=True:=by simp;omega
  simp only[B] at hx hy
  obtain⟨x,DA⟩:=aw (u.getD i 0)
  obtain⟨y,Ss⟩:=aw (u.getD (i+1) 0)
  rw[DA] at hx RA
  rw[Ss] at hy RA
  obtain⟨s,hs⟩:=aw (x+y*4294967296)
  rw[hs] at RA
  have Av:(y:Int)*4294967296+x=(s:Int):=by omega
  have Xm:((s:Int)) / 2^k=((s / 2^k:Nat):Int):=by rw[Int.natCast_ediv,Int.natCast_pow];rfl
  have Nu:IntKind.u32.wrap ((s / 2^k:Nat):Int)=((s / 2^k % 4294967296:Nat):Int):=by rw[dm];rfl
  have hpp:(0:Int)<=2^k:=by
   have:(2:Int)^k=((2^k:Nat):Int):=by rw[Int.natCast_pow];rfl
   omega
  obtain⟨dg,Np⟩:=aw (s / 2^k % 4294967296)
  have U7:dg<4294967296:=by rw[<-Np];exact Nat.mod_lt _ (by decide)
  rw[Np] at Nu RA
  have da:(out.set i dg).take (i+1)=h_ (i+1) (val u / 2^k):=by
   rw[AN,<-hv3,take_succ_eq_append_getElem (by simp;omega),List.take_set_of_le (qp i)];simp only[List.getElem_set_self,B] at*;rw[RA]
  refine ae h4 ?_
  refine dw (by kernel_rfl) ?_
  refine ae (bT DA Ss oA @vt Av Ao Xm Nu) ?_
  refine⟨by omega,by omega,by omega,by omega,by omega,by omega,by omega,by omega,?_⟩
  refine ax (i+1,out.set i dg) ?_ ⟨by omega,by simp[ho],An.set _ U7,da⟩
  exact bN [0,1,2]
 intro h3 h4
 refine ae h4 ?_
 have gA:i=n:=by omega
 have hvo:val out=val u / 2^k:=by
  rw[gA,eE (by omega)] at hv3;rw[hv3,ku aiI]
 refine gp (ic qd hqd (by omega)) ?_ ?_
 .simp[cC,iw,gj,fP,aM,I7]
  rw[eE (by simp[aM,I7])]
 refine a9 ?_
 refine gp (ic out An (by omega)) ?_ ?_
 .simp[cC,iw,gj,fP,aM,ho]
  rw[eE (by simp[aM,ho])]
 refine a9 ?_
 refine bg ?_
 rw[zt.1,hvo,zt.2]
 exact Hd
end Go.Proofs.YtjjbkjgifdhlcaaGreat
namespace Go.Pl
open Go.AM
theorem LK {x n:Nat} (h:(ai x).length=n+1):B^n<=x:=by
 rcases Nat.lt_or_ge x (B^n) with h1 | h1
 .have:=aB h1;omega
 exact h1
theorem v9 {x n:Nat} (h1:B^n<=x) (h2:x<B^(n+1)):(ai x).length=n+1:=by
 have h3:=aB h2;rcases Nat.lt_or_ge (ai x).length (n+1) with h4 | h4
 .exfalso;have h5:=bI (n:=x);have h6:B^(ai x).length<=B^n:=Nat.pow_le_pow_right (by decide) (by omega);exact absurd (Nat.lt_of_lt_of_le h5 h6) (by omega)
 omega
theorem um {x n:Nat} (h:(ai x).length=n+1):(ai x).getD n 0=x / B^n:=by
 have h1:=ig (ao x) (i:=n) (by omega);have h2:=eA (l:=ai x) (j:=n) (by omega);rw[List.drop_of_length_le (i:=n+1) (by omega),show val []=0 from rfl,Nat.mul_zero,Nat.add_zero] at h2;rw[<-h2,<-h1,aj]
theorem acs {b top P K:Nat} (h:top*P<=b) (hk:2147483648<=top*K):2147483648*P<=b*K:=by
 have h1:top*P*K<=b*K:=qn _ h;have h2:2147483648*P<=top*K*P:=qn _ hk;have h3:top*P*K=top*K*P:=by grind
 omega
theorem acu {b top P K:Nat} (h:b<(top+1)*P) (hK:0<K) (hk:(top+1)*K<=4294967296):b*K<P*4294967296:=by
 have h1:b*K<(top+1)*P*K:=Nat.mul_lt_mul_of_pos_right h hK;have h2:(top+1)*K*P<=4294967296*P:=qn _ hk;have h3:(top+1)*P*K=(top+1)*K*P:=by grind
 have h4:4294967296*P=P*4294967296:=Nat.mul_comm _ _;omega
theorem xh {b n k top:Nat} (h:(ai b).length=n+1) (ht:(ai b).getD n 0=top) (hk:k<=32) (h1:2147483648<=top*2^k) (h2:top*2^k<4294967296):
 (ai (b*2^k)).length=n+1/\2147483648<=(ai (b*2^k)).getD n 0:=by
 have hp:0<2^k:=Nat.two_pow_pos k
 have hP:0<B^n:=JE (by decide)
 have h3:top=b / B^n:=by rw[<-ht,um h]
 have fF:top*B^n<=b:=by rw[h3];exact Nat.div_mul_le_self _ _
 have fE:b<(top+1)*B^n:=by rw[<-Nat.div_lt_iff_lt_mul hP,<-h3];omega
 have pD:top*2^k+2^k<=4294967296:=D7 hk (Nat.mul_mod_left _ _) h2
 have Zx:(top+1)*2^k<=4294967296:=by rw[Nat.add_mul,Nat.one_mul];exact pD
 have D1:=acs fF h1
 have aH:b*2^k<B^(n+1):=by rw[Nat.pow_succ];exact acu fE hp Zx
 have aD:(ai (b*2^k)).length=n+1:=v9 (gD (Nat.le_mul_of_pos_left _ (by decide)) D1) aH
 refine⟨aD,?_⟩
 rw[um aD,Nat.le_div_iff_mul_le hP]
 exact D1
theorem JP {b n:Nat} (h:(ai b).length=n+1):0<(ai b).getD n 0:=by
 rw[um h];exact Nat.div_pos (LK h) (JE (by decide))
theorem fR {b:Nat} (h:(ai b).length=0):b=0:=by
 have:=bI (n:=b);rw[h] at this;simpa using this
theorem b' {x y:Nat} (h:x<=y):(ai x).length<=(ai y).length:=
 aB (Hr h bI)
def jH (u:List Nat) (j m x:Nat):List Nat:=u.take j++(h_ m x++u.drop (j+m))
theorem zS {u:List Nat} {j m x:Nat} (h:j+m<=u.length):(jH u j m x).length=u.length:=by
 simp[jH,cy];omega
theorem Hu {u:List Nat} {j m x:Nat} (h:Dig u):Dig (jH u j m x):=(h.take j).app ((kr _ _).app (h.drop _))
theorem AO {u w:List Nat} {j m x:Nat} (hl:w.length=u.length) (hd:Dig w) (hj:j+m<=u.length) (so: ∀ t,(t<j\/j+m<=t)->w.getD t 0=u.getD t 0) (hs:fB w j m=x):jH u j m x=w:=by
 unfold jH;have h1:w.take j=u.take j:=sK hl (fun t ht=>so t (Or.inl ht));have h2:w.drop (j+m)=u.drop (j+m):=sJ hl (fun t ht=>so t (Or.inr ht));have h3:=Ck ((hd.drop j).take m);have h4:((w.drop j).take m).length=m:=by rw[length_take,length_drop];omega
 rw[h4] at h3;have h5:val ((w.drop j).take m)=x:=hs;rw[h5] at h3;rw[<-h1,<-h2,<-h3,<-List.drop_drop,List.take_append_drop,List.take_append_drop]
theorem Eg {u:List Nat} {j m x t:Nat} (hj:j+m<=u.length) (ht:t<j\/j+m<=t):(jH u j m x).getD t 0=u.getD t 0:=by
 unfold jH;simp only[qa];congr 1;rcases ht with h | h
 .rw[qi (by rw[length_take];omega),getElem?_take,if_pos h]
 rw[qh (by rw[length_take];omega),qh (by rw[length_take,cy];omega),List.getElem?_drop];congr 1;rw[length_take,cy];omega
theorem Hv {u:List Nat} {j m x:Nat} (hj:j+m<=u.length) (hx:x<B^m):fB (jH u j m x) j m=x:=by
 unfold fB jH;rw[List.drop_left' (by rw[length_take];omega),List.take_left' (cy _ _),ku hx]
theorem xi {r g V W:Nat} (h:r+g*V=W) (hr:r<V):W / V=g/\r=W % V:=by
 have h1:W=r+V*g:=by rw[<-h,Nat.mul_comm]
 rw[h1,Nat.add_mul_div_left _ _ (by omega),Nat.div_eq_of_lt hr,Nat.zero_add,Nat.add_mul_mod_self_left,Nat.mod_eq_of_lt hr];exact⟨rfl,rfl⟩
theorem OG {t s:Nat} (ht:0<t) (h:t*2^s<2147483648):s<31:=by
 rcases Nat.lt_or_ge s 31 with h1 | h1
 .exact h1
 exfalso;have h2:2^31<=2^s:=Nat.pow_le_pow_right (by decide) h1;have h3:1*2^s<=t*2^s:=qn _ ht;omega
end Go.Pl
namespace Go.Proofs.YtjjbkjgifdhlcaaGreat
open Go.AM Go.Pl
set_option maxRecDepth 100000
set_option maxHeartbeats 4000000
theorem sL {x y:Nat}:ou x y<0↔x<y:=by
 unfold ou;split
 .omega
 split<;>omega
theorem SV (a b:Nat) (wo:(ai a).length<10000000000) (Ns:2<=(ai b).length) (wW:(ai b).length<=(ai a).length):
 Den Tryz.prog 218 [] [.fv (N a),.fv (N b)] [] (.tup [.fv (N (a / b)),.fv (N (a % b))]):=by
 obtain⟨n,hn⟩: ∃ n,(ai b).length=n+1:=⟨(ai b).length - 1,by omega⟩
 have wv:=JP hn
 have N':=(ao b).getD n
 simp only[B] at N'
 have dV:=SU ((ai b).getD n 0)
 have eo:=OE (n:=(ai b).getD n 0) (by omega)
 have Ll:dW ((ai b).getD n 0)<=32:=JL N'
 have Xn:1<=dW ((ai b).getD n 0):=by
  rcases Nat.eq_zero_or_pos (dW ((ai b).getD n 0)) with h | h
  .rw[h] at dV;omega
  exact h
 have wZ:=xh (k:=32 - dW ((ai b).getD n 0)) hn rfl (by omega) ?_ ?_
 .have h:=XX (ai a) (ai b) (32 - dW ((ai b).getD n 0)) (ao a) (ao b) wo Ns wW (by rw[hn,Nat.add_sub_cancel]) (by omega) (ai (b*2^(32 - dW ((ai b).getD n 0)))) (by rw[aj]) (by rw[wZ.1,hn]) (by rw[wZ.1,Nat.add_sub_cancel];exact wZ.2)
  rw[aj,aj] at h
  exact h
 .have h1:2^(dW ((ai b).getD n 0) - 1)*2^(32 - dW ((ai b).getD n 0))=2147483648:=by
   rw[<-Nat.pow_add,show dW ((ai b).getD n 0) - 1+(32 - dW ((ai b).getD n 0))=31 by omega]
  rw[<-h1]
  exact qn _ eo
 have h1:2^(dW ((ai b).getD n 0))*2^(32 - dW ((ai b).getD n 0))=4294967296:=by
  rw[<-Nat.pow_add,show dW ((ai b).getD n 0)+(32 - dW ((ai b).getD n 0))=32 by omega]
 have h2:=Nat.mul_lt_mul_of_pos_right dV (Nat.two_pow_pos (32 - dW ((ai b).getD n 0)))
 omega
theorem ahO (a b:List Nat) (ha:Dig a) (hb:Dig b) (wo:a.length<10000000000) (wW:b.length<10000000000) (h0:val b=0):
 Den Tryz.prog 183 [] [.fv (.sl (u32s a)),.fv (.sl (u32s b))] [] (.tup [.fv (N 0),.fv (N 0),.int .i64 3]):=by
 refine dq Tryz.func183 46 0 ?_
 refine aX ?_
 refine gp (ic a ha (by omega)) rfl ?_
 refine a9 ?_
 refine gp (ic b hb (by omega)) rfl ?_
 have Lm:(ai 0).length=0:=by rw[bx];rfl
 have zw:((0:Nat):Int)=0:=rfl
 have qP:((0:Int)==0)=true:=rfl
 refine ae (gS @bB h0 Lm zw qP) ?_
 refine bg ?_
 refine qS ?_
 simp[bx,u32s]
theorem JQ (a b:List Nat) (ha:Dig a) (hb:Dig b) (wo:a.length<10000000000) (wW:b.length<10000000000) (h0:val b≠0):
 Den Tryz.prog 183 [] [.fv (.sl (u32s a)),.fv (.sl (u32s b))] [] (.tup [.fv (N (val a / val b)),.fv (N (val a % val b)),.int .i64 0]):=by
 have Zy:=aB (bF ha)
 have Ns:=aB (bF hb)
 have aiL:(ai (val b)).length≠0:=fun h=>h0 (fR h)
 refine dq Tryz.func183 46 0 ?_
 refine aX ?_
 refine gp (ic a ha (by omega)) rfl ?_
 refine a9 ?_
 refine gp (ic b hb (by omega)) rfl ?_
 have hz:(((ai (val b)).length:Int)==0)=false:=by rw[qx];omega
 refine ae (aQ @bB hz) ?_
 refine gp (D9 (ai (val a)) (ai (val b)) (ao _) (ao _) (by omega) (by omega)) rfl ?_
 refine ae @aj ?_
 refine bR ?_ ?_
 .intro h1 h2
  rw[sL] at h1
  refine ae h2 ?_
  refine gp (Wm (u32s (ai (val a))) (by simp[u32s]) (by simp[u32s];omega)) rfl ?_
  refine a9 ?_
  refine bg ?_
  refine qS ?_
  rw[Nat.div_eq_of_lt h1,Nat.mod_eq_of_lt h1]
  simp[N,bx,u32s]
 intro h1 h2
 rw[sL] at h1
 refine ae h2 ?_
 refine Br.beqInt ?_ ?_
 .intro h3 h4
  obtain⟨d,hd⟩: ∃ d,ai (val b)=[d]:=length_eq_one_iff.1 (by omega)
  have hbv:val b=d:=by rw[<-aj (val b),hd];simp[val]
  have Dz:d<4294967296:=by have:=ao (val b);rw[hd] at this;exact this d (by simp)
  have vS:(u32s [d]).getD 0 []=[FV.lit (Value.int .u32 d)]:=rfl
  have gg:0<d:=by omega
  have eo:=Nat.mod_lt (val a) gg
  have aee:=XR (ai (val a)) d (ao _) (by omega) Dz gg
  rw[aj] at aee
  refine ae (aQ hd vS) ?_
  refine⟨by simp,?_⟩
  refine aW aee ?_
  obtain⟨r,hr⟩:=aw (val a % d)
  rw[hr] at eo
  have hrc:IntKind.u64.wrap (r:Int)=(r:Int):=dF (by omega)
  refine ae (aQ hr hrc) ?_
  refine gp (Wp r (by omega)) rfl ?_
  refine a9 ?_
  refine bg ?_
  exact lX (aQ hbv hr)
 intro h3 h4
 have dR:(ai (val b)).length<=(ai (val a)).length:=b' (by omega)
 have aef:=SV (val a) (val b) (by omega) (by omega) dR
 rw[bB,bB] at aef
 refine ae h4 ?_
 refine aW aef ?_
 refine a9 ?_
 refine bg ?_
 exact Hd
theorem acv (a b:List Nat) (ha:Dig a) (hb:Dig b) (wo:a.length<10000000000) (wW:b.length<10000000000):
 Den Tryz.prog 182 [] [.fv (.sl (u32s a)),.fv (.sl (u32s b))] [] (.fv (N (Nat.gcd (val a) (val b)))):=by
 have Zy:=aB (bF ha)
 have Ns:=aB (bF hb)
 refine dq Tryz.func182 45 0 ?_
 refine aX ?_
 refine gp (D8 a ha (by omega)) rfl ?_
 refine a9 ?_
 refine gp (D8 b hb (by omega)) rfl ?_
 refine ae @bB ?_
 generalize hg:Nat.gcd (val a) (val b)=g
 refine wl (α:=Nat×Nat) (fun⟨x,y⟩=>⟨.fv (.sl (u32s (ai x))):: .fv (.sl (u32s (ai y))):: .any:: .any:: .nilsl::replicate 42 .any,[]⟩)
  (fun⟨_,y⟩=>y) (fun⟨x,y⟩=>(ai x).length<10000000000/\(ai y).length<10000000000/\Nat.gcd x y=g) (val a,val b) ?_ ?_ ?_
 .exact bN []
 .exact⟨by omega,by omega,hg⟩
 rintro⟨x,y⟩ ⟨hx,hy,Hf⟩
 refine aX ?_
 refine bR ?_ ?_
 .intro h1 h2
  refine ae h2 ?_
  refine Br.beqInt ?_ ?_
  .intro h5 h6
   have tS:y=0:=fR (by omega)
   subst tS
   refine ae h6 ?_
   refine bg ?_
   rw[Nat.gcd_zero_right] at Hf
   refine Dy Hf ?_
   rfl
  intro h5 h6
  have tS:y≠0:=fun h=>h5 (by rw[h,bx];rfl)
  have h86:=JQ (ai x) (ai y) (ao _) (ao _) hx hy (by rw[aj];exact tS)
  rw[aj,aj,bB,bB] at h86
  refine ae h6 ?_
  refine aW h86 ?_
  refine a9 ?_
  have aH:=Nat.mod_lt x (Nat.pos_of_ne_zero tS)
  refine ap (y,x % y) (by exact aH) ?_ ⟨hy,Hr (b' (Nat.le_of_lt aH)) hy,?_⟩
  .exact bN []
  rw[<-Hf,Nat.gcd_comm y,<-Nat.gcd_rec,Nat.gcd_comm]
 intro h1 h2
 refine ae h2 ?_
 refine bR ?_ ?_
 .intro h3 h4
  refine ae h4 ?_
  refine Br.beqInt ?_ ?_
  .intro h5 h6
   have tS:y=0:=fR (by omega)
   subst tS
   refine ae h6 ?_
   refine bg ?_
   rw[Nat.gcd_zero_right] at Hf
   refine Dy Hf ?_
   rfl
  intro h5 h6
  have tS:y≠0:=fun h=>h5 (by rw[h,bx];rfl)
  have h86:=JQ (ai x) (ai y) (ao _) (ao _) hx hy (by rw[aj];exact tS)
  rw[aj,aj,bB,bB] at h86
  refine ae h6 ?_
  refine aW h86 ?_
  refine a9 ?_
  have aH:=Nat.mod_lt x (Nat.pos_of_ne_zero tS)
  refine ap (y,x % y) (by exact aH) ?_ ⟨hy,Hr (b' (Nat.le_of_lt aH)) hy,?_⟩
  .exact bN []
  rw[<-Hf,Nat.gcd_comm y,<-Nat.gcd_rec,Nat.gcd_comm]
 intro h3 h4
 have hxv:x<18446744073709551616:=Nat.lt_of_lt_of_le (bI (n:=x)) (Nat.pow_le_pow_right (n:=B) (by decide) (show(ai x).length<=2 by omega))
 have hyv:y<18446744073709551616:=Nat.lt_of_lt_of_le (bI (n:=y)) (Nat.pow_le_pow_right (n:=B) (by decide) (show(ai y).length<=2 by omega))
 have aeh:=Wq (ai x) (ao x) (by omega)
 have aei:=Wq (ai y) (ao y) (by omega)
 rw[aj] at aeh aei
 refine ae h4 ?_
 refine aW aeh ?_
 refine a9 ?_
 refine aW aei ?_
 refine a9 ?_
 refine wl (α:=Nat×Nat) (fun⟨p,q⟩=>⟨.any:: .any:: .any:: .any:: .nilsl:: .any:: .any:: .any:: .int .u64 p:: .int .u64 q::replicate 37 .any,[]⟩)
  (fun⟨_,q⟩=>q) (fun⟨p,q⟩=>p<18446744073709551616/\q<18446744073709551616/\Nat.gcd p q=g) (x,y) ?_ ?_ ?_
 .exact bN []
 .exact⟨hxv,hyv,Hf⟩
 rintro⟨p,q⟩ ⟨hp,hq,w5⟩
 refine aX ?_
 refine Br.bneInt ?_ ?_
 .intro h5 h6
  have aH:=Nat.mod_lt p (show q>0 by omega)
  have hmi:(p:Int) % (q:Int)=((p % q:Nat):Int):=by rw[Int.natCast_emod]
  obtain⟨r,hr⟩:=aw (p % q)
  rw[hr] at aH hmi
  refine ae h6 ?_
  refine dw (by kernel_rfl) ?_
  refine ae hmi ?_
  refine⟨by omega,?_⟩
  refine ap (q,r) (by exact aH) ?_ ⟨hq,by omega,?_⟩
  .exact bN []
  rw[<-w5,<-hr,Nat.gcd_comm q,<-Nat.gcd_rec,Nat.gcd_comm]
 intro h5 h6
 have Nx:q=0:=by omega
 subst Nx
 rw[Nat.gcd_zero_right] at w5
 refine ae h6 ?_
 refine gp (Wp p hp) rfl ?_
 refine a9 ?_
 refine bg ?_
 exact lX w5
end Go.Proofs.YtjjbkjgifdhlcaaGreat
namespace Go.Pl
open Go.AM
def sg (s:Bool) (n:Nat):Int:=if s then -(n:Int) else(n:Int)
def gP (s:Bool) (n d:Nat):Rat:=mkRat (sg s n) d
theorem uo (s:Bool) (n:Nat):(sg s n).natAbs=n:=by unfold sg;split<;>simp
theorem XY (q:Rat):sg (decide (q.num<0)) q.num.natAbs=q.num:=by
 unfold sg;by_cases h:q.num<0
 .simp only[h,decide_true,if_true];omega
 simp only[h,decide_false];simp;omega
theorem cT (q:Rat):gP (decide (q.num<0)) q.num.natAbs q.den=q:=by
 unfold gP;rw[XY,Rat.mkRat_self]
theorem me {s:Bool} {n d:Nat} (h:n=0):gP s n d=0:=by
 subst h;unfold gP sg;have:(if s=true then -((0:Nat):Int) else((0:Nat):Int))=0:=by split<;>rfl
 rw[this,Rat.zero_mkRat]
theorem xj {s:Bool} {n d:Nat} (h:d=0):gP s n d=0:=by
 subst h;unfold gP;rw[Rat.mkRat_zero]
theorem XZ {s:Bool} {n g:Nat} (h:g∣n):sg s n / (g:Int)=sg s (n / g):=by
 unfold sg;split
 .rw[Int.neg_ediv_of_dvd (by exact Int.natCast_dvd_natCast.2 h),Int.natCast_ediv]
 rw[Int.natCast_ediv]
theorem AP {s:Bool} {n d:Nat} (hd:d≠0):(gP s n d).num=sg s (n / Nat.gcd n d)/\(gP s n d).den=d / Nat.gcd n d:=by
 unfold gP;rw[<-Rat.normalize_eq_mkRat hd,Rat.normalize_eq hd];simp only[uo];exact⟨XZ (Nat.gcd_dvd_left n d),cS⟩
theorem X0 {s:Bool} {n:Nat} (h:n≠0):decide (sg s n<0)=s:=by
 unfold sg;cases s
 .simp
 simp;omega
theorem AQ {s:Bool} {n d:Nat} (hn:n≠0) (hd:d≠0):decide ((gP s n d).num<0)=s/\(gP s n d).num.natAbs=n / Nat.gcd n d/\(gP s n d).den=d / Nat.gcd n d:=by
 obtain⟨h1,h2⟩:=AP (s:=s) (n:=n) hd;have h3:n / Nat.gcd n d≠0:=by
  have:=Nat.div_pos (Nat.le_of_dvd (by omega) (Nat.gcd_dvd_left n d)) (Nat.gcd_pos_of_pos_left d (by omega));omega
 rw[h1,h2];exact⟨X0 h3,uo _ _,rfl⟩
def Bd (k:Nat) (q:Rat):Prop:=q.num.natAbs<B^k/\q.den<B^k
theorem Bd.mono {j k:Nat} {q:Rat} (h:Bd j q) (hk:j<=k):Bd k q:=
 ⟨Nat.lt_of_lt_of_le h.1 (Nat.pow_le_pow_right (by decide) hk),Nat.lt_of_lt_of_le h.2 (Nat.pow_le_pow_right (by decide) hk)⟩
theorem Bd.zero {k:Nat} (hk:1<=k):Bd k 0:=by
 have:1<B^k:=Nat.lt_of_lt_of_le (show 1<B^1 by decide) (Nat.pow_le_pow_right (by decide) hk);exact⟨JE (by decide),this⟩
theorem Bd.mk {k n d:Nat} {s:Bool} (hk:1<=k) (hn:n<B^k) (hd:d<B^k):Bd k (gP s n d):=by
 by_cases h:d=0
 .rw[xj h];exact Bd.zero hk
 obtain⟨h1,h2⟩:=AP (s:=s) (n:=n) h;unfold Bd;rw[h1,h2,uo];exact⟨Hr (Nat.div_le_self _ _) hn,Hr (Nat.div_le_self _ _) hd⟩
structure Raw where
 neg:Bool
 num:List Nat
 den:List Nat
def Raw.q (r:Raw):Rat:=gP r.neg (val r.num) (val r.den)
structure Raw.Ok (k:Nat) (r:Raw):Prop where
 num:Dig r.num
 den:Dig r.den
 lnum:r.num.length<=k
 lden:r.den.length<=k
theorem Raw.Ok.mono {j k:Nat} {r:Raw} (h:r.Ok j) (hk:j<=k):r.Ok k:=⟨h.num,h.den,gD h.lnum hk,gD h.lden hk⟩
theorem Raw.Ok.bd {k:Nat} {r:Raw} (h:r.Ok k) (hk:1<=k):Bd k r.q:=
 Bd.mk hk (Nat.lt_of_lt_of_le (bF h.num) (Nat.pow_le_pow_right (by decide) h.lnum)) (Nat.lt_of_lt_of_le (bF h.den) (Nat.pow_le_pow_right (by decide) h.lden))
def cn (q:Rat):Raw:=⟨decide (q.num<0),ai q.num.natAbs,ai q.den⟩
theorem cQ (q:Rat):(cn q).q=q:=by
 unfold Raw.q cn;simp only[aj];exact cT q
theorem bD {k:Nat} {q:Rat} (h:Bd k q):(cn q).Ok k:=⟨ao _,ao _,aB h.1,aB h.2⟩
theorem Cn:cn 0=⟨false,[],[1]⟩:=by
 unfold cn;have h1:ai (0:Rat).num.natAbs=[]:=bx;have h2:ai (0:Rat).den=[1]:=by
  have:(0:Rat).den=val [1]:=rfl;rw[this];exact mc (fun d hd=>by simp at hd;subst hd;decide) (Or.inr (by decide))
 rw[h1,h2];rfl
def Raw.v (r:Raw):PV:= .agg [.bool r.neg,.fv (.sl (u32s r.num)),.fv (.sl (u32s r.den))]
def FR (q:Rat):PV:=(cn q).v
theorem bk (q:Rat):FR q= .agg [.bool (decide (q.num<0)),.fv (N q.num.natAbs),.fv (N q.den)]:=rfl
end Go.Pl
namespace Go.Proofs.YtjjbkjgifdhlcaaGreat
open Go.AM Go.Pl
set_option maxRecDepth 100000
set_option maxHeartbeats 1000000
theorem LL {x:Nat}:(ou x 0==0)=decide (x=0):=by
 unfold ou;by_cases h:x=0
 .subst h;rfl
 have h1: ¬x<0:=by omega
 have h2:0<x:=by omega
 simp[h,h2]
theorem acw (l:List Nat) (hl:Dig l) (oE:l.length<100000000000):Den Tryz.prog 174 [] [.fv (.sl (u32s l))] [] (.bool (decide (val l=0))):=by
 refine dq Tryz.func174 5 0 ?_;refine aX ?_;have h:=D9 l [] hl Dig.nil oE (by simp);refine aW h ?_;have hv:val []=0:=rfl;simp -dsimp(disch:=omega) only[hv,LL,↓reduceIte,ru];refine bg ?_;exact Hd
theorem vv (s:Bool) (n d:List Nat) (hn:Dig n) (hd:Dig d) (qQ:n.length<10000000000) (DZ:d.length<10000000000) (gg:val d≠0):
 Den Tryz.prog 131 [] [.bool s,.fv (.sl (u32s n)),.fv (.sl (u32s d))] [] (FR (gP s (val n) (val d))):=by
 have ub:=aB (bF hn)
 have Xk:=aB (bF hd)
 refine dq Tryz.func131 47 0 ?_
 refine aX ?_
 refine gp (D8 n hn (by omega)) rfl ?_
 refine a9 ?_
 refine gp (D8 d hd (by omega)) rfl ?_
 refine ae @bB ?_
 refine Br.beqInt ?_ ?_
 .intro h1 h2
  have h0:val n=0:=fR (by omega)
  refine ae h2 ?_
  refine bg ?_
  rw[me h0,FR,Cn]
  rfl
 intro h1 h2
 have Jb:val n≠0:=fun h=>h1 (by rw[h,bx];rfl)
 have hgn:Nat.gcd (val n) (val d)<=val n:=Nat.le_of_dvd (by omega) (Nat.gcd_dvd_left _ _)
 have vS:Nat.gcd (val n) (val d)≠0:=by
  have:=Nat.gcd_pos_of_pos_left (val d) (show 0<val n by omega);omega
 have gh:=AQ (s:=s) Jb gg
 have U8:=acv (ai (val n)) (ai (val d)) (ao _) (ao _) (by omega) (by omega)
 rw[aj,aj,bB] at U8
 have wY:=b' hgn
 have Jc:=Nat.mul_div_cancel_left (val n) (Nat.pos_of_ne_zero vS)
 obtain⟨g,hg⟩:=aw (Nat.gcd (val n) (val d))
 rw[hg] at gh U8 vS wY
 have U9:=JQ (ai (val n)) (ai g) (ao _) (ao _) (by omega) (by omega) (by rw[aj];exact vS)
 have U_:=JQ (ai (val d)) (ai g) (ao _) (ao _) (by omega) (by omega) (by rw[aj];exact vS)
 rw[aj,aj,bB,bB] at U9 U_
 have hFR:FR (gP s (val n) (val d))= .agg [.bool s,.fv (.sl (u32s (ai (val n / g)))),.fv (.sl (u32s (ai (val d / g))))]:=by
  rw[bk,gh.1,gh.2.1,gh.2.2];rfl
 rw[hFR]
 refine ae h2 ?_
 refine aW U8 ?_
 refine a9 ?_
 refine Br.bneInt ?_ ?_
 .intro h3 h4
  refine ae h4 ?_
  refine aW U9 ?_
  refine a9 ?_
  refine aW U_ ?_
  refine a9 ?_
  refine bg rfl
 intro h3 h4
 obtain⟨y,hy⟩: ∃ y,ai g=[y]:=length_eq_one_iff.1 (by omega)
 have hgy:g=y:=by rw[<-aj g,hy];simp[val]
 have hyg:(u32s [y]).getD 0 []=[FV.lit (Value.int .u32 y)]:=rfl
 have Aw:((1:Int) !=1)=false:=rfl
 have Zz:([y]:List Nat).length=1:=rfl
 have vR:(((1:Nat):Int) !=1)=false:=rfl
 refine ae (ej hy hyg Zz vR) ?_
 refine⟨by simp,?_⟩
 refine Br.bneInt ?_ ?_
 .intro h5 h6
  rw[hy] at U9 U_
  refine ae h6 ?_
  refine aW U9 ?_
  refine a9 ?_
  refine aW U_ ?_
  refine a9 ?_
  refine bg rfl
 intro h5 h6
 have Sy:g=1:=by omega
 refine ae h6 ?_
 refine bg ?_
 rw[Sy,Nat.div_one,Nat.div_one]
 rfl
theorem sM (r:Raw) (hr:r.Ok 5000000000):Den Tryz.prog 126 [] [r.v] [] (FR r.q):=by
 unfold Raw.v;refine dq Tryz.func126 14 0 ?_;refine aX ?_;refine gp (acw r.den hr.den (by have:=hr.lden;omega)) rfl ?_;refine a9 ?_;refine bR ?_ ?_
 .intro h1 h2;have vT:=vv false [] [1] Dig.nil (Dig.mk (by decide) Dig.nil) (by simp) (by simp) (by simp[val]);rw[me (n:=val []) rfl,bk] at vT;refine ae h2 ?_;refine aW vT ?_;have h0:val r.den=0:=h1;have hq:r.q=0:=xj h0;rw[hq,bk];refine a9 ?_;refine bg rfl
 intro h1 h2;have vT:=vv r.neg r.num r.den hr.num hr.den (by have:=hr.lnum;omega) (by have:=hr.lden;omega) h1;rw[bk] at vT;refine ae h2 ?_;refine aW vT ?_;refine a9 ?_;refine bg rfl
end Go.Proofs.YtjjbkjgifdhlcaaGreat
namespace Go.Pl
open Go.AM
theorem X4 (s t:Bool) (a c:Nat):sg s a*sg t c=sg (s !=t) (a*c):=by
 unfold sg;cases s<;>cases t<;>simp[Int.neg_mul,Int.mul_neg]
theorem sN (s t:Bool) (a b c d:Nat):gP s a b*gP t c d=gP (s !=t) (a*c) (b*d):=by
 unfold gP;rw[Rat.mkRat_mul_mkRat,X4]
theorem SW {n:Nat} (h:n≠0):gP false n n=1:=by
 unfold gP sg;have h1:(1:Rat)=mkRat 1 1:=rfl;rw[h1,Rat.mkRat_eq_iff h (by decide)];simp
theorem Hw {p q r:Rat} (h:q*r=1):p / q=p*r:=by grind
theorem Co {s t:Bool} {a b c d:Nat} (hc:c≠0) (hd:d≠0):gP s a b / gP t c d=gP (s !=t) (a*d) (b*c):=by
 have h:gP t c d*gP t d c=1:=by
  rw[sN,Nat.mul_comm d c,bne_self_eq_false,SW (Nat.mul_ne_zero hc hd)]
 rw[Hw h,sN]
theorem OH {n m:Int} {b d:Nat} (hb:b≠0) (hd:d≠0) (h:n*d=m*b):mkRat n b=mkRat m d:=(Rat.mkRat_eq_iff hb hd).2 h
theorem X5 (s:Bool) (a c:Nat):sg s a+sg s c=sg s (a+c):=by
 unfold sg;cases s<;>simp;omega
theorem OI {s t:Bool} (h:s≠t) {a c:Nat} (hl:a<c):sg s a+sg t c=sg t (c - a):=by
 unfold sg;cases s<;>cases t<;>simp at h ⊢ <;>omega
theorem OJ {s t:Bool} (h:s≠t) {a c:Nat} (hl: ¬a<c):sg s a+sg t c=sg s (a - c):=by
 unfold sg;cases s<;>cases t<;>simp at h ⊢ <;>omega
theorem pR (n m:Int) {d:Nat} (hd:d≠0):mkRat n d+mkRat m d=mkRat (n+m) d:=by
 rw[Rat.mkRat_add_mkRat _ _ hd hd];apply OH (Nat.mul_ne_zero hd hd) hd;grind
theorem Cp {s t:Bool} (h:s=t) {a c d:Nat} (hd:d≠0):gP s a d+gP t c d=gP s (a+c) d:=by
 subst h;unfold gP;rw[pR _ _ hd,X5]
theorem uq {s t:Bool} (h:s≠t) {a c d:Nat} (hl:a<c) (hd:d≠0):gP s a d+gP t c d=gP t (c - a) d:=by
 unfold gP;rw[pR _ _ hd,OI h hl]
theorem ur {s t:Bool} (h:s≠t) {a c d:Nat} (hl: ¬a<c) (hd:d≠0):gP s a d+gP t c d=gP s (a - c) d:=by
 unfold gP;rw[pR _ _ hd,OJ h hl]
theorem OK (s:Bool) (a k:Nat):sg s (a*k)=sg s a*k:=by
 unfold sg;cases s<;>simp[Int.neg_mul]
theorem AR {s:Bool} {a b k:Nat} (hb:b≠0) (hk:k≠0):gP s (a*k) (b*k)=gP s a b:=by
 unfold gP;apply OH (Nat.mul_ne_zero hb hk) hb;rw[OK];grind
theorem aL {a c j k:Nat} (ha:a<B^j) (hc:c<B^k):a*c<B^(j+k):=by
 rw[Nat.pow_add];exact Nat.mul_lt_mul'' ha hc
theorem m4 {a c k:Nat} (ha:a<B^k) (hc:c<B^k):a+c<B^(k+1):=by
 have h2:2*B^k<=B^k*4294967296:=by rw[Nat.mul_comm];exact Nat.mul_le_mul_left _ (by decide)
 have h3:B^(k+1)=B^k*4294967296:=Nat.pow_succ _ _;rw[h3];omega
theorem Bd.neg {k:Nat} {q:Rat} (h:Bd k q):Bd k (-q):=by
 unfold Bd;have h1:(-q).num= -q.num:=rfl;have h2:(-q).den=q.den:=rfl;rw[h1,h2,Int.natAbs_neg];exact h
theorem Bd.mul {j k:Nat} {p q:Rat} (hp:Bd j p) (hq:Bd k q) (hk:1<=j+k):Bd (j+k) (p*q):=by
 rw[<-cT p,<-cT q,sN];exact Bd.mk hk (aL hp.1 hq.1) (aL hp.2 hq.2)
theorem Bd.div {j k:Nat} {p q:Rat} (hp:Bd j p) (hq:Bd k q) (h0:q≠0) (hk:1<=j+k):Bd (j+k) (p / q):=by
 have hn:q.num.natAbs≠0:=fun h=>h0 (Rat.num_eq_zero.1 (by omega))
 rw[<-cT p,<-cT q,Co hn q.den_nz];exact Bd.mk hk (aL hp.1 hq.2) (aL hp.2 hq.1)
theorem rG (s t:Bool) {a b c d:Nat} (hb:b≠0) (hd:d≠0):gP s a b+gP t c d=gP s (a*d) (b*d)+gP t (c*b) (b*d):=by
 rw[AR hb hd,Nat.mul_comm b d,AR hd hb]
theorem Bd.sum {k n d a c:Nat} {s t:Bool} (hk:1<=k) (ha:a<B^k) (hc:c<B^k) (hd:d<B^(k+1)) (gg:d≠0) (hn:n=k+1):Bd n (gP s a d+gP t c d):=by
 subst hn;have h1:c - a<B^(k+1):=Hr (Nat.sub_le _ _) (Nat.lt_trans hc (Nat.pow_lt_pow_right (by decide) (by omega)));have h2:a - c<B^(k+1):=Hr (Nat.sub_le _ _) (Nat.lt_trans ha (Nat.pow_lt_pow_right (by decide) (by omega)));by_cases h:s=t
 .rw[Cp h gg];exact Bd.mk (by omega) (m4 ha hc) hd
 by_cases hl:a<c
 .rw[uq h hl gg];exact Bd.mk (by omega) h1 hd
 rw[ur h hl gg];exact Bd.mk (by omega) h2 hd
theorem Bd.add {j k:Nat} {p q:Rat} (hp:Bd j p) (hq:Bd k q) (hk:1<=j+k):Bd (j+k+1) (p+q):=by
 rw[<-cT p,<-cT q,rG _ _ p.den_nz q.den_nz];refine Bd.sum hk (aL hp.1 hq.2) ?_ ?_ (Nat.mul_ne_zero p.den_nz q.den_nz) rfl
 .rw[Nat.add_comm];exact aL hq.1 hp.2
 exact Nat.lt_trans (aL hp.2 hq.2) (Nat.pow_lt_pow_right (by decide) (by omega))
theorem Bd.sub {j k:Nat} {p q:Rat} (hp:Bd j p) (hq:Bd k q) (hk:1<=j+k):Bd (j+k+1) (p - q):=by
 rw[Rat.sub_eq_add_neg];exact hp.add hq.neg hk
def gk (q:Rat):Int:=q.num.sign
theorem Eh {q:Rat} (h:q.num.natAbs=0):gk q=0:=by
 unfold gk;have:q.num=0:=by omega
 rw[this];rfl
theorem Cq {q:Rat} (h:q.num<0):gk q= -1:=Int.sign_eq_neg_one_of_neg h
theorem Cr {q:Rat} (h0:q.num.natAbs≠0) (h: ¬q.num<0):gk q=1:=Int.sign_eq_one_of_pos (by omega)
end Go.Pl
namespace Go.Proofs.YtjjbkjgifdhlcaaGreat
open Go.AM Go.Pl
set_option maxRecDepth 100000
set_option maxHeartbeats 1000000
theorem AU (q:Rat):Den Tryz.prog 127 [] [FR q] [] (FR q):=by
 rw[bk];refine dq Tryz.func127 12 0 ?_;refine aX ?_;refine bg rfl
theorem OL (r:Raw) (hr:r.Ok 5000000000):Den Tryz.prog 68 [] [r.v] [] (FR r.q):=by
 have Ny:=sM r hr;have zx:=AU r.q;rw[bk] at Ny zx ⊢;unfold Raw.v at Ny ⊢;refine dq Tryz.func68 5 0 ?_;refine aX ?_;refine aW Ny ?_;refine a9 ?_;refine aW zx ?_;refine a9 ?_;refine bg rfl
theorem mf (r:Raw) (hr:r.Ok 5000000000):Den Tryz.prog 84 [] [r.v] [] (.int .i64 (gk r.q)):=by
 have Ny:=sM r hr;rw[bk] at Ny;unfold Raw.v at Ny ⊢;obtain⟨n,hn⟩:=aw r.q.num.natAbs;have hz:((ai n).length:Int)=0↔n=0:=⟨fun h=>fR (by omega),fun h=>by rw[h,bx];rfl⟩;rw[hn,bB] at Ny;refine dq Tryz.func84 15 0 ?_;refine aX ?_;refine aW Ny ?_;refine a9 ?_;refine Br.beqInt ?_ ?_
 .intro h1 h2;have hs:=Eh (hn.trans (hz.1 h1));refine ae h2 ?_;refine bg ?_;exact lX hs
 intro h1 h2;refine ae h2 ?_;refine bR ?_ ?_
 .intro h3 h4;have hs:=Cq h3;refine ae h4 ?_;refine bg ?_;exact lX hs
 intro h3 h4;have hs:=Cr (q:=r.q) (fun h=>h1 (hz.2 (hn.symm.trans h))) h3;refine ae h4 ?_;refine bg ?_;exact lX hs
set_option maxHeartbeats 2000000
theorem d7 {n:Nat}:((ai n).length:Int)=0↔n=0:=⟨fun h=>fR (by omega),fun h=>by rw[h,bx];rfl⟩
theorem cA {n k:Nat} (h:n<B^k):(ai n).length<=k:=aB h
theorem OM (q:Rat):FR (-q)= .agg [.bool (!decide (q.num<0)&&decide (((ai q.num.natAbs).length:Int)>0)),.fv (N q.num.natAbs),.fv (N q.den)]:=by
 have h1:(-q).num= -q.num:=rfl;have h2:(-q).den=q.den:=rfl;rw[bk,h1,h2,Int.natAbs_neg];congr 3;by_cases h:q.num=0
 .have h3:((ai q.num.natAbs).length:Int)=0:=d7.2 (by omega);rw[h3,h];rfl
 have h3:((ai q.num.natAbs).length:Int)≠0:=fun h4=>h (by have:=d7.1 h4;omega)
 have h4:((ai q.num.natAbs).length:Int)>0:=by omega
 rw[ib h4,Bool.and_true];by_cases h5:q.num<0
 .rw[ib h5,mX (show¬(-q.num<0) by omega)];rfl
 rw[mX h5,ib (show -q.num<0 by omega)];rfl
theorem Ws (r:Raw) (hr:r.Ok 5000000000):Den Tryz.prog 132 [] [r.v] [] (FR (-r.q)):=by
 have Ny:=sM r hr;have zx:=AU (-r.q);rw[bk] at Ny;rw[OM] at zx ⊢;unfold Raw.v at Ny ⊢;obtain⟨n,hn⟩:=aw r.q.num.natAbs;obtain⟨s,hs⟩:=aw (decide (r.q.num<0));obtain⟨d,hd⟩:=aw (N r.q.den);rw[hn,hs,hd,bB] at Ny zx ⊢;refine dq Tryz.func132 20 0 ?_;refine aX ?_;refine aW Ny ?_;cases s
 .have e1:(!false)=true:=rfl;have e2: ∀ b,(true&&b)=b:=fun _=>rfl
  rw[e1,e2] at zx ⊢;refine ae e1 ?_;refine aW zx ?_;refine a9 ?_;refine bg rfl
 have e1:(!true)=false:=rfl;have e2: ∀ b,(false&&b)=false:=fun _=>rfl
 rw[e1,e2] at zx ⊢;refine ae e1 ?_;refine aW zx ?_;refine a9 ?_;refine bg rfl
theorem ON (r1 r2:Raw) (jC:r1.Ok 2000000000) (iQ:r2.Ok 2000000000):Den Tryz.prog 70 [] [r1.v,r2.v] [] (FR (r1.q*r2.q)):=by
 have ha:=sM r1 (jC.mono (by decide));have hb:=sM r2 (iQ.mono (by decide));have b1:=jC.bd (by decide);have b2:=iQ.bd (by decide);have c1:=bD b1;have c2:=bD b2;have hq:gP (decide (r1.q.num<0) !=decide (r2.q.num<0)) (r1.q.num.natAbs*r2.q.num.natAbs) (r1.q.den*r2.q.den)=r1.q*r2.q:=by
  rw[<-sN,cT,cT]
 have mP:=xd (ai r1.q.num.natAbs) (ai r2.q.num.natAbs) (ao _) (ao _) (by have:=c1.lnum;simp only[cn] at this;omega) (by have:=c2.lnum;simp only[cn] at this;omega);have kR:=xd (ai r1.q.den) (ai r2.q.den) (ao _) (ao _) (by have:=c1.lden;simp only[cn] at this;omega) (by have:=c2.lden;simp only[cn] at this;omega);have zw:=cA (aL b1.1 b2.1);have qP:=cA (aL b1.2 b2.2);have vT:=vv (decide (r1.q.num<0) !=decide (r2.q.num<0)) (ai (r1.q.num.natAbs*r2.q.num.natAbs)) (ai (r1.q.den*r2.q.den)) (ao _) (ao _) (by omega) (by omega) (by rw[aj];exact Nat.mul_ne_zero r1.q.den_nz r2.q.den_nz);rw[aj,aj,hq] at vT;rw[aj,aj] at mP kR;have zx:=AU (r1.q*r2.q);rw[bk] at ha hb vT zx ⊢;unfold Raw.v at ha hb ⊢;rw[bB] at mP kR;rw[bB,bB] at ha hb
 refine dq Tryz.func70 32 0 ?_;refine aX ?_;refine dw (by kernel_rfl) ?_;refine a9 ?_;refine aW ha ?_;refine a9 ?_;refine aW hb ?_;refine a9 ?_;refine dw (by kernel_rfl) ?_;refine a9 ?_;refine aW mP ?_;refine a9 ?_;refine aW kR ?_;refine a9 ?_;refine aW vT ?_;refine a9 ?_;refine aW zx ?_;refine a9 ?_;refine bg rfl
theorem OO (r1 r2:Raw) (jC:r1.Ok 2000000000) (iQ:r2.Ok 2000000000) (h0:r2.q≠0):Den Tryz.prog 73 [] [r1.v,r2.v] [] (.tup [FR (r1.q / r2.q),.int .i64 0]):=by
 have ha:=sM r1 (jC.mono (by decide));have hb:=sM r2 (iQ.mono (by decide));have b1:=jC.bd (by decide);have b2:=iQ.bd (by decide);have c1:=bD b1;have c2:=bD b2;have Jb:r2.q.num.natAbs≠0:=fun h=>h0 (Rat.num_eq_zero.1 (by omega))
 have hq:gP (decide (r1.q.num<0) !=decide (r2.q.num<0)) (r1.q.num.natAbs*r2.q.den) (r1.q.den*r2.q.num.natAbs)=r1.q / r2.q:=by
  rw[<-Co Jb r2.q.den_nz,cT,cT]
 have mP:=xd (ai r1.q.num.natAbs) (ai r2.q.den) (ao _) (ao _) (by have:=c1.lnum;simp only[cn] at this;omega) (by have:=c2.lden;simp only[cn] at this;omega);have kR:=xd (ai r1.q.den) (ai r2.q.num.natAbs) (ao _) (ao _) (by have:=c1.lden;simp only[cn] at this;omega) (by have:=c2.lnum;simp only[cn] at this;omega);have zw:=cA (aL b1.1 b2.2);have qP:=cA (aL b1.2 b2.1);have vT:=vv (decide (r1.q.num<0) !=decide (r2.q.num<0)) (ai (r1.q.num.natAbs*r2.q.den)) (ai (r1.q.den*r2.q.num.natAbs)) (ao _) (ao _) (by omega) (by omega) (by rw[aj];exact Nat.mul_ne_zero r1.q.den_nz Jb);rw[aj,aj,hq] at vT;rw[aj,aj] at mP kR;have zx:=AU (r1.q / r2.q);have hz:(((ai r2.q.num.natAbs).length:Int)==0)=false:=by
  rw[qx];exact fun h=>Jb (d7.1 h)
 rw[bk] at ha hb vT zx ⊢;unfold Raw.v at ha hb ⊢;rw[bB] at mP kR;rw[bB,bB] at ha hb;refine dq Tryz.func73 39 0 ?_;refine aX ?_;refine dw (by kernel_rfl) ?_;refine a9 ?_;refine aW ha ?_;refine a9 ?_;refine aW hb ?_;refine ae hz ?_;refine dw (by kernel_rfl) ?_;refine a9 ?_;refine aW mP ?_;refine a9 ?_;refine aW kR ?_;refine a9 ?_;refine aW vT ?_;refine a9 ?_;refine aW zx ?_;refine a9 ?_;refine bg rfl
theorem Wt (d:Nat) (hd:(ai d).length<100000000000):Den Tryz.prog 128 [] [.fv (.sl (u32s (ai d)))] [] (.bool (decide (d=1))):=by
 have zw:(ai 1)=[1]:=mc (l:=[1]) (fun d hd=>by simp at hd;subst hd;decide) (Or.inr (by decide));have hv:=aj d;obtain⟨l,hl⟩:=aw (ai d);rw[hl] at hd hv;rw[hl];refine dq Tryz.func128 11 0 ?_;refine aX ?_;refine Br.beqInt ?_ ?_
 .intro h1 h2;obtain⟨y,rfl⟩: ∃ y,l=[y]:=length_eq_one_iff.1 (by omega);have hdy:d=y:=by rw[<-hv];simp[val]
  have hyg:(u32s [y]).getD 0 []=[FV.lit (Value.int .u32 y)]:=rfl;have hb:((y:Int)==1)=decide (d=1):=by
   rw[hdy];by_cases h:y=1
   .subst h;rfl
   rw[mX h,qx];omega
  have Zz:([y]:List Nat).length=1:=rfl;have vR:(((1:Nat):Int)==1)=true:=rfl;refine ae (ej hyg hb Zz vR) ?_;refine⟨by simp,?_⟩;refine bg ?_;exact Hd
 intro h1 h2;have hb:decide (d=1)=false:=mX (fun h=>h1 (by rw[h,zw] at hl;subst hl;rfl));refine ae h2 ?_;refine bg ?_;exact lX hb
theorem Wu (k:Nat) (hk:k<=4000000000) (s t:Bool) (a c d:Nat) (ha:a<B^k) (hc:c<B^k) (hd:d<B^k) (gg:d≠0):
 Den Tryz.prog 129 [] [.bool s,.fv (.sl (u32s (ai a))),.bool t,.fv (.sl (u32s (ai c))),.fv (.sl (u32s (ai d)))] [] (FR (gP s a d+gP t c d)):=by
 have wo:=cA ha
 have RB:=cA hc
 have DZ:=cA hd
 have wt:=cA (m4 ha hc)
 by_cases bP:s=t
 .have Ax:=acq (ai a) (ai c) (ao _) (ao _) (by omega) (by omega)
  rw[aj,aj,bB] at Ax
  have vT:=vv s (ai (a+c)) (ai d) (ao _) (ao _) (by omega) (by omega) (by rw[aj];exact gg)
  rw[aj,aj,<-Cp bP gg,bk] at vT
  rw[bk]
  have hb:(s==t)=true:=by rw[bP];exact beq_self_eq_true _
  refine dq Tryz.func129 34 0 ?_
  refine b8 hb ?_
  refine aW Ax ?_
  refine a9 ?_
  refine aW vT ?_
  refine a9 ?_
  refine bg rfl
 have hb:(s==t)=false:=by rw[qx];exact bP
 have Hi:=D9 (ai a) (ai c) (ao _) (ao _) (by omega) (by omega)
 rw[aj,aj] at Hi
 refine dq Tryz.func129 34 0 ?_
 refine b8 hb ?_
 refine aW Hi ?_
 refine a9 ?_
 refine bR ?_ ?_
 .intro h1 h2
  rw[sL] at h1
  have h92:=Wo (ai c) (ai a) (ao _) (ao _) (by omega) (by omega) (by rw[aj,aj];omega)
  rw[aj,aj,bB] at h92
  have iE:=b' (Nat.sub_le c a)
  have vT:=vv t (ai (c - a)) (ai d) (ao _) (ao _) (by omega) (by omega) (by rw[aj];exact gg)
  rw[aj,aj,<-uq bP h1 gg,bk] at vT
  rw[bk]
  refine ae h2 ?_
  refine aW h92 ?_
  refine a9 ?_
  refine aW vT ?_
  refine a9 ?_
  refine bg rfl
 intro h1 h2
 rw[sL] at h1
 have h92:=Wo (ai a) (ai c) (ao _) (ao _) (by omega) (by omega) (by rw[aj,aj];omega)
 rw[aj,aj,bB] at h92
 have iE:=b' (Nat.sub_le a c)
 have vT:=vv s (ai (a - c)) (ai d) (ao _) (ao _) (by omega) (by omega) (by rw[aj];exact gg)
 rw[aj,aj,<-ur bP h1 gg,bk] at vT
 rw[bk]
 refine ae h2 ?_
 refine aW h92 ?_
 refine a9 ?_
 refine aW vT ?_
 refine a9 ?_
 refine bg rfl
theorem oK {x j m:Nat} (h:x<B^j) (hj:j<=m):x<B^m:=Nat.lt_of_lt_of_le h (Nat.pow_le_pow_right (by decide) hj)
theorem JR (r1 r2:Raw) (jC:r1.Ok 1000000000) (iQ:r2.Ok 1000000000):Den Tryz.prog 69 [] [r1.v,r2.v] [] (FR (r1.q+r2.q)):=by
 have ha:=sM r1 (jC.mono (by decide));have hb:=sM r2 (iQ.mono (by decide));have b1:=jC.bd (by decide);have b2:=iQ.bd (by decide);have c1:=bD b1;have c2:=bD b2;have o1:=Wt r1.q.den (by have:=c1.lden;simp only[cn] at this;omega);have o2:=Wt r2.q.den (by have:=c2.lden;simp only[cn] at this;omega);have hq:=rG (decide (r1.q.num<0)) (decide (r2.q.num<0)) (a:=r1.q.num.natAbs) (c:=r2.q.num.natAbs) r1.q.den_nz r2.q.den_nz;rw[cT,cT] at hq;have mP:=xd (ai r1.q.num.natAbs) (ai r2.q.den) (ao _) (ao _) (by have:=c1.lnum;simp only[cn] at this;omega) (by have:=c2.lden;simp only[cn] at this;omega);have kR:=xd (ai r2.q.num.natAbs) (ai r1.q.den) (ao _) (ao _) (by have:=c2.lnum;simp only[cn] at this;omega) (by have:=c1.lden;simp only[cn] at this;omega)
 have Va:=xd (ai r1.q.den) (ai r2.q.den) (ao _) (ao _) (by have:=c1.lden;simp only[cn] at this;omega) (by have:=c2.lden;simp only[cn] at this;omega);obtain⟨k,hk⟩: ∃ k,k=2000000000:=⟨_,rfl⟩;have hc:=Wu k (by omega) (decide (r1.q.num<0)) (decide (r2.q.num<0)) (r1.q.num.natAbs*r2.q.den) (r2.q.num.natAbs*r1.q.den) (r1.q.den*r2.q.den) (oK (aL b1.1 b2.2) (by omega)) (oK (aL b2.1 b1.2) (by omega)) (oK (aL b1.2 b2.2) (by omega)) (Nat.mul_ne_zero r1.q.den_nz r2.q.den_nz);have vR:=Wu k (by omega) (decide (r1.q.num<0)) (decide (r2.q.num<0)) r1.q.num.natAbs r2.q.num.natAbs r1.q.den (oK b1.1 (by omega)) (oK b2.1 (by omega)) (oK b1.2 (by omega)) r1.q.den_nz;rw[<-hq] at hc;rw[aj,aj] at mP kR Va;have zx:=AU (r1.q+r2.q)
 have eF:r1.q.den=1->r2.q.den=1->gP (decide (r1.q.num<0)) r1.q.num.natAbs r1.q.den+gP (decide (r2.q.num<0)) r2.q.num.natAbs r1.q.den=r1.q+r2.q:=by
  intro h1 h2;have e1:=cT r1.q;have e2:=cT r2.q;rw[h2] at e2;rw[h1] at e1;rw[h1,e1,e2]
 generalize jL:r1.q+r2.q=z at*;rw[bk] at ha hb hc vR zx ⊢;unfold Raw.v at ha hb ⊢;rw[bB] at mP kR Va;rw[bB,bB] at ha hb;refine dq Tryz.func69 65 0 ?_;refine aX ?_;refine dw (by kernel_rfl) ?_;refine a9 ?_;refine aW ha ?_;refine a9 ?_;refine aW hb ?_;refine a9 ?_;refine aW o1 ?_;refine a9 ?_;refine bR ?_ ?_
 .intro h1 h2;refine ae h2 ?_;refine aW o2 ?_;refine a9 ?_;refine bR ?_ ?_
  .intro h3 h4;rw[eF h1 h3] at vR;refine ae h4 ?_;refine aW vR ?_;refine a9 ?_;refine aW zx ?_;refine a9 ?_;refine bg rfl
  intro h3 h4;refine ae h4 ?_;refine dw (by kernel_rfl) ?_;refine a9 ?_;refine aW mP ?_;refine a9 ?_;refine aW kR ?_;refine a9 ?_;refine aW Va ?_;refine a9 ?_;refine aW hc ?_;refine a9 ?_;refine aW zx ?_;refine a9 ?_;refine bg rfl
 intro h1 h2;refine ae h2 ?_;refine dw (by kernel_rfl) ?_;refine a9 ?_;refine aW mP ?_;refine a9 ?_;refine aW kR ?_;refine a9 ?_;refine aW Va ?_;refine a9 ?_;refine aW hc ?_;refine a9 ?_;refine aW zx ?_;refine a9 ?_;refine bg rfl
theorem acx (r1 r2:Raw) (jC:r1.Ok 1000000000) (iQ:r2.Ok 1000000000):Den Tryz.prog 258 [] [r1.v,r2.v] [] (FR (r1.q - r2.q)):=by
 have ZA:=Ws r2 (iQ.mono (by decide));have b2:=iQ.bd (by decide);have Hj:=JR r1 (cn (-r2.q)) jC (bD b2.neg);rw[cQ,<-Rat.sub_eq_add_neg] at Hj;change Den Tryz.prog 69 [] [r1.v,FR (-r2.q)] [] _ at Hj;rw[bk] at ZA;rw[bk,bk] at Hj;rw[bk];unfold Raw.v at ZA Hj ⊢;refine dq Tryz.func258 7 0 ?_;refine aX ?_;refine dw (by kernel_rfl) ?_;refine a9 ?_;refine aW ZA ?_;refine a9 ?_;refine aW Hj ?_;refine a9 ?_;refine bg rfl
theorem acy (r1 r2:Raw) (jC:r1.Ok 1000000000) (iQ:r2.Ok 1000000000):Den Tryz.prog 234 [] [r1.v,r2.v] [] (.int .i64 (gk (r1.q - r2.q))):=by
 have b1:=jC.bd (by decide);have b2:=iQ.bd (by decide);have h77:=acx r1 r2 jC iQ;have iI:=mf (cn (r1.q - r2.q)) ((bD (b1.sub b2 (by decide))).mono (by decide));rw[cQ] at iI;change Den Tryz.prog 84 [] [FR (r1.q - r2.q)] [] _ at iI;rw[bk] at h77 iI;unfold Raw.v at h77 ⊢;refine dq Tryz.func234 7 0 ?_;refine aX ?_;refine aW h77 ?_;refine a9 ?_;refine aW iI ?_;refine a9 ?_;refine bg ?_;exact Hd
theorem acz (n:Int) (hn: -9223372036854775808<=n/\n<9223372036854775808):Den Tryz.prog 136 [] [.int .i64 n] [] (.tup [.bool (decide (n<0)),.fv (N n.natAbs)]):=by
 refine dq Tryz.func136 19 0 ?_;refine aX ?_;obtain⟨x,hx⟩:=aw n.natAbs;rw[hx];have fF:IntKind.u32.wrap (x:Int)=((x % 4294967296:Nat):Int):=by rw[dm,Int.natCast_emod];rfl
 have fE:(x:Int) / 4294967296=((x / 4294967296:Nat):Int):=by rw[Int.natCast_ediv];rfl
 have Nz:=D8 [x % 4294967296,x / 4294967296] (Dig.mk (Nat.mod_lt _ (by decide)) (Dig.mk (by simp only[B];omega) Dig.nil)) (by simp);have hv:val [x % 4294967296,x / 4294967296]=x:=by
  simp only[val,B,Nat.mul_zero,Nat.add_zero];exact Nat.mod_add_div x 4294967296
 rw[hv] at Nz;obtain⟨lo,Zk⟩:=aw (x % 4294967296);obtain⟨hi,aek⟩:=aw (x / 4294967296);rw[Zk] at fF;rw[aek] at fE;rw[Zk,aek] at Nz;refine bR ?_ ?_
 .intro h1 h2;have hw:IntKind.u64.wrap (0 - IntKind.u64.wrap n)=(x:Int):=by rw[qN,qN];omega
  refine ae (ej h2 hw fF fE) ?_;refine⟨by omega,?_⟩;refine gp Nz ?_ ?_
  .rfl
  refine a9 ?_;refine bg ?_;refine qS ?_;rw[h2]
 intro h1 h2;have hw:IntKind.u64.wrap n=(x:Int):=by rw[qN];omega
 refine ae (ej h2 hw fF fE) ?_;refine⟨by omega,?_⟩;refine gp Nz ?_ ?_
 .rfl
 refine a9 ?_;refine bg ?_;refine qS ?_;rw[h2]
theorem Cs (n:Int):gP (decide (n<0)) n.natAbs 1=(n:Rat):=by
 unfold gP;have h:sg (decide (n<0)) n.natAbs=n:=by
  unfold sg;by_cases h:n<0
  .simp only[h,decide_true,if_true];omega
  simp only[h,decide_false];simp;omega
 rw[h];exact Rat.mkRat_one n
theorem xk (n:Int) (hn: -9223372036854775808<=n/\n<9223372036854775808):Den Tryz.prog 74 [] [.int .i64 n] [] (FR (n:Rat)):=by
 have h72:=acz n hn;have hl:(ai n.natAbs).length<=2:=aB (Nat.lt_of_lt_of_le (show n.natAbs<18446744073709551616 by omega) (by decide));have vT:=vv (decide (n<0)) (ai n.natAbs) [1] (ao _) (Dig.mk (by decide) Dig.nil) (by omega) (by simp) (by simp[val]);have hv1:val [1]=1:=rfl;rw[aj,hv1,Cs] at vT;have zx:=AU (n:Rat);rw[bk] at zx vT ⊢;rw[bB] at h72;refine dq Tryz.func74 14 0 ?_;refine aX ?_;refine aW h72 ?_;refine a9 ?_;refine gp vT ?_ ?_
 .rfl
 refine a9 ?_;refine aW zx ?_;refine a9 ?_;refine bg rfl
theorem Wv (l:List Nat) (hd:Dig l) (hl:l.length<1000000000000):Den Tryz.prog 138 [] [.fv (.sl (u32s l))] [.row true (u32s (ai (val l)))] (.lsl 0 0 (ai (val l)).length 1):=by
 refine dq Tryz.func138 21 0 ?_;refine aX ?_;refine wl (α:=Nat) (fun n=>⟨.fv (.sl (u32s l)):: .any:: .nilsl:: .int .i64 n::replicate 18 .any,[]⟩) (fun n=>n) (fun n=>n<=l.length/\kT (l.take n)=kT l) l.length ?_ ?_ ?_
 .refine wk [] nodup_nil rfl ?_ ?_
  .simp[bc,dX,cB]
  trivial
 .exact⟨qp _,by rw[List.take_length]⟩
 rintro n ⟨hn,ht⟩;have aH:(l.take n).length=n:=by rw[length_take];omega
 refine aX ?_;refine bR ?_ ?_
 .intro h1 h2;obtain⟨j,rfl⟩: ∃ j,n=j+1:=⟨n - 1,by omega⟩;have hj:(((j+1:Nat):Int) - 1).toNat=j:=by omega
  refine ae (aQ h2 hj) ?_;refine⟨by omega,?_⟩;have hg:(l.take (j+1)).getD ((l.take (j+1)).length - 1) 0=l.getD j 0:=by
   rw[aH,Nat.add_sub_cancel];simp only[qa];rw[List.getElem?_take_of_lt (by omega)]
  refine Br.beqInt ?_ ?_
  .intro h3 h4;refine ae h4 ?_;refine ax j ?_ ⟨by omega,?_⟩
   .refine wk [] nodup_nil rfl ?_ ?_
    .simp[bc,dX,cB]
    trivial
   rw[<-ht]
   conv=>rhs;rw[kT.eq_def]
   rw[dif_pos (by omega),if_pos (by rw[hg];omega),aH,Nat.add_sub_cancel,List.take_take,Nat.min_eq_left (by omega)]
  intro h3 h4;have iK:l.take (j+1)=ai (val l):=by
   rw[<-sF l hd,<-ht,kT.eq_def,dif_pos (by omega),if_neg (by rw[hg];omega)]
  refine ae (bZ h4 @Nat.sub_zero aH) ?_;refine⟨by omega,by omega,?_⟩;rw[<-iK,aH];exact RetOK.own rfl ⟨cS,cS⟩ rfl
 intro h1 h2;have Jb:n=0:=by omega
 have iK:l.take n=ai (val l):=by
  rw[<-sF l hd,<-ht,kT.eq_def,dif_neg (by omega)]
 refine ae (bZ h2 @Nat.sub_zero aH) ?_;refine⟨by omega,by omega,?_⟩;rw[<-iK,aH];exact RetOK.own rfl ⟨cS,cS⟩ rfl
theorem eZ (l:List Nat) (hd:Dig l) (hl:l.length<1000000000000):Den Tryz.prog 138 [] [.fv (.sl (u32s l))] [] (.fv (N (val l))):=by
 refine(Wv l hd hl).freeze ?_;simp[tN,y9,t_,gj,fP,List.idxOf?_nil,aM,N];rw[eE (by simp[aM])]
theorem Ww (a b:List Nat) (wo:a.length<1000000000000) (wW:b.length<1000000000000):Den Tryz.prog 120 [] [.fv (.sl (u32s a)),.fv (.sl (u32s b))] [] (.bool (a==b)):=by
 refine dq Tryz.func120 24 0 ?_;refine aX ?_;refine Br.bneInt ?_ ?_
 .intro h1 h2;refine ae h2 ?_;refine bg ?_;refine qS ?_;have:a≠b:=by intro h;subst h;exact h1 rfl
  simp[this]
 intro h1 h2;refine ae h2 ?_;refine wl (α:=Nat) (fun i=>⟨.fv (.sl (u32s a)):: .fv (.sl (u32s b)):: .any:: .any:: .fv (.lit (.bool false)):: .int .i64 i::replicate 20 .any,[]⟩) (fun i=>a.length - i) (fun i=>i<=a.length/\a.take i=b.take i) 0 ?_ ?_ ?_
 .refine wk [] nodup_nil rfl ?_ ?_
  .simp[bc,dX,cB]
  trivial
 .exact⟨by omega,by simp⟩
 rintro i ⟨hi,ht⟩;refine aX ?_;refine bR ?_ ?_
 .intro h3 h4;refine ae h4 ?_;refine dw (by kernel_rfl) ?_;refine a9 ?_;refine⟨by omega,by omega,?_⟩;refine Br.bneInt ?_ ?_
  .intro h5 h6;refine ae h6 ?_;refine bg ?_;refine qS ?_;have:a≠b:=by intro h;subst h;exact h5 rfl
   simp[this]
  intro h5 h6;refine ae h6 ?_;refine ax (i+1) ?_ ⟨by omega,?_⟩
  .refine wk [] nodup_nil rfl ?_ ?_
   .simp[bc,dX,cB]
   trivial
  have hia:i<a.length:=by omega
  have hib:i<b.length:=by omega
  rw[take_succ_eq_append_getElem hia,take_succ_eq_append_getElem hib,ht];have e1:a.getD i 0=a[i]:=by simp[hia]
  have e2:b.getD i 0=b[i]:=by simp[hib]
  rw[<-e1,<-e2,show a.getD i 0=b.getD i 0 by omega]
 intro h3 h4;refine ae h4 ?_;refine bg ?_;refine qS ?_;rw[eE (by omega),eE (by omega)] at ht;simp[ht]
theorem OP (a b:List Nat) (ha:Dig a) (hb:Dig b) (wo:a.length<100000000000) (wW:b.length<100000000000):Den Tryz.prog 173 [] [.fv (.sl (u32s a)),.fv (.sl (u32s b))] [] (.int .i64 (ou (val a) (val b))):=by
 have hxa:(ai (val a)).length<=a.length:=aB (bF ha);have lr:(ai (val b)).length<=b.length:=aB (bF hb);have Zg:=ao (val a);have UX:=ao (val b);refine dq Tryz.func173 43 0 ?_;refine aX ?_;refine gp (eZ a ha (by omega)) rfl ?_;refine a9 ?_;refine gp (eZ b hb (by omega)) rfl ?_;refine ae @bB ?_;refine Br.bneInt ?_ ?_
 .intro h1 h2;refine ae h2 ?_;refine bR ?_ ?_
  .intro h3 h4;refine ae h4 ?_;refine bg ?_;refine qS ?_;rw[pP (jT (by omega))]
  intro h3 h4;refine ae h4 ?_;refine bg ?_;refine qS ?_;rw[wD (jT (by omega))]
 intro h1 h2;refine ae h2 ?_;generalize hp:ai (val a)=p at*;generalize hq:ai (val b)=q at*;refine wl (α:=Nat) (fun k=>⟨.fv (.sl (u32s p)):: .fv (.sl (u32s q)):: .any:: .any:: .int .i64 0:: .int .i64 ((k:Int) - 1)::replicate 39 .any,[]⟩) (fun k=>k) (fun k=>k<=p.length/\p.drop k=q.drop k) p.length ?_ ?_ ?_
 .exact bN []
 .exact⟨qp _,by rw[List.drop_of_length_le (qp _),List.drop_of_length_le (by omega)]⟩
 rintro k ⟨hk,No⟩;refine aX ?_;refine bR ?_ ?_
 .intro h3 h4;refine ae h4 ?_;refine dw (by kernel_rfl) ?_;refine a9 ?_;refine⟨by omega,by omega,?_⟩;obtain⟨j,rfl⟩: ∃ j,k=j+1:=⟨k - 1,by omega⟩;have hj:(((j+1:Nat):Int) - 1).toNat=j:=by omega
  rw[hj];have Al:val p=val a:=by rw[<-hp,aj]
  have Lj:val q=val b:=by rw[<-hq,aj]
  refine bR ?_ ?_
  .intro h5 h6;refine ae h6 ?_;refine bg ?_;refine qS ?_;rw[<-Al,<-Lj,pP (sG Zg (by omega) (by omega) No (by omega))]
  intro h5 h6;refine ae h6 ?_;refine dw (by kernel_rfl) ?_;refine ae hj ?_;refine⟨by omega,by omega,?_⟩;refine bR ?_ ?_
  .intro h7 h8;refine ae h8 ?_;refine bg ?_;refine qS ?_;rw[<-Al,<-Lj,wD (sG UX (by omega) (by omega) No.symm (by omega))]
  intro h7 h8;refine ae h8 ?_;refine ax j ?_ ⟨by omega,?_⟩
  .exact bN []
  have Zh:p.drop j=p.getD j 0::p.drop (j+1):=by rw[qj (by omega)];simp[show j<p.length by omega]
  have hqj:q.drop j=q.getD j 0::q.drop (j+1):=by rw[qj (by omega)];simp[show j<q.length by omega]
  rw[Zh,hqj,No,show p.getD j 0=q.getD j 0 by omega]
 intro h3 h4;refine ae h4 ?_;refine bg ?_;refine qS ?_;have Ru:k=0:=by omega
 subst Ru;simp only[List.drop_zero] at No;subst No;have:val a=val b:=by rw[<-aj (val a),hp,<-hq,aj]
 rw[this,JI]
theorem acA (l:List Nat) (d:Nat) (hl:Dig l) (oE:l.length<100000000000) (hd:d<4294967296) (gg:0<d):
 Den Tryz.prog 209 [] [.fv (.sl (u32s l)),.int .u32 d] [] (.tup [.fv (N (val l / d)),.int .u32 ((val l % d:Nat):Int)]):=by
 refine dq Tryz.func209 42 0 ?_
 refine aX ?_
 refine⟨by omega,?_⟩
 refine wl (α:=Nat×Nat×List Nat) (fun⟨k,r,out⟩=>⟨.fv (.sl (u32s l)):: .int .u32 d:: .any:: .any:: .nilsl:: .fv (.lit (.int .u32 0)):: .lsl 0 0 l.length 1:: .int .u64 r:: .int .i64 ((k:Int) - 1)::replicate 35 .any,[.row true (u32s out)]⟩)
  (fun⟨k,_,_⟩=>k) (fun⟨k,r,out⟩=>k<=l.length/\r<d/\out.length=l.length/\Dig out/\val (out.drop k)*d+r=val (l.drop k)) (l.length,0,replicate l.length 0) ?_ ?_ ?_
 .exact bN [0]
 .exact⟨by omega,gg,by simp,Dig.zeros,by simp[val]⟩
 rintro⟨k,r,out⟩ ⟨hk,hr,ho,An,hv⟩
 refine aX ?_
 refine bR ?_ ?_
 .intro h1 h2
  obtain⟨j,rfl⟩: ∃ j,k=j+1:=⟨k - 1,by omega⟩
  have hj:(((j+1:Nat):Int) - 1).toNat=j:=by omega
  have hx:=hl.getD j
  simp only[B] at hx
  have DZ:=eA (l:=l) (j:=j) (by omega)
  generalize DA:l.getD j 0=x at*
  have hq:(r*4294967296+x) / d<4294967296:=by
   rw[Nat.div_lt_iff_lt_mul (by omega)];have:(r+1)*4294967296<=d*4294967296:=qn _ hr;rw[Nat.mul_comm 4294967296 d];omega
  have iQ:(r*4294967296+x) % d<d:=Nat.mod_lt _ (by omega)
  have hqr:=Nat.mod_add_div (r*4294967296+x) d
  have e1:((r:Int)*4294967296+x) / d=(((r*4294967296+x) / d:Nat):Int):=by
   rw[Int.natCast_ediv,Int.natCast_add,Int.natCast_mul];rfl
  have e2:((r:Int)*4294967296+x) % d=(((r*4294967296+x) % d:Nat):Int):=by
   rw[Int.natCast_emod,Int.natCast_add,Int.natCast_mul];rfl
  generalize (r*4294967296+x) / d=Q at*
  generalize (r*4294967296+x) % d=R at*
  refine ae (fM h2 hj DA @vt e1 e2) ?_
  refine⟨by omega,by omega,by omega,by omega,by omega,by omega,?_⟩
  have UY:=mY (l:=out) (j:=j) (x:=Q) (by omega)
  refine ax (j,R,out.set j Q) ?_ ⟨by omega,iQ,by simp[ho],An.set _ hq,?_⟩
  .exact bN [0]
  rw[UY,DZ,<-hv]
  simp only[B]
  grind
 intro h1 h2
 refine ae h2 ?_
 have Ru:k=0:=by omega
 subst Ru
 simp only[List.drop_zero] at hv
 have wX:val out=val l / d/\r=val l % d:=by
  rw[<-hv,Nat.mul_comm,Nat.mul_add_div gg,Nat.mul_add_mod,Nat.div_eq_of_lt hr,Nat.mod_eq_of_lt hr];exact⟨rfl,rfl⟩
 refine gp (eZ out An (by omega)) ?_ ?_
 .simp[cC,iw,gj,fP,aM,ho]
  rw[eE (by simp[aM,ho])]
 refine a9 ?_
 refine bg ?_
 rw[<-wX.1,<-wX.2]
 exact Hd
theorem Wx (p q:List Nat) (hp:Dig p) (hq:Dig q) (UT:p.length<100000000000) (hlq:q.length<100000000000):Den Tryz.prog 83 [] [.fv (.sl (u32s p)),.fv (.sl (u32s q))] [] (.fv (N (val p+val q))):=by
 refine dq Tryz.func83 50 0 ?_;refine aX ?_;have NA: ∃ M:Nat,M=max p.length q.length:=⟨_,rfl⟩;obtain⟨M,hM⟩:=NA;have hmi:(if(q.length:Int)>(p.length:Int) then(q.length:Int) else(p.length:Int))=(M:Int):=by split<;>omega
 refine ae hmi ?_;have hn:((M:Int)+1).toNat=M+1:=by omega
 refine⟨by omega,?_⟩;refine wl (α:=Nat×Nat×List Nat) (fun⟨i,c,out⟩=>⟨.fv (.sl (u32s p)):: .fv (.sl (u32s q)):: .any:: .any:: .nilsl:: .lsl 0 0 (M+1) 1:: .int .u64 c:: .int .i64 i::replicate 44 .any,[.row true (u32s out)]⟩)
  (fun⟨i,_,_⟩=>M+1 - i)
  (fun⟨i,c,out⟩=>i<=M+1/\c<=1/\out.length=M+1/\Dig out/\val (out.take i)+c*B^i=val (p.take i)+val (q.take i)) (0,0,replicate (M+1) 0) ?_ ?_ ?_
 .refine eV [0] ?_ ?_
  .simp[bc,dX,cB,hn]
  simp[ez,fL,hn]
 .exact⟨by omega,by omega,by simp,Dig.zeros,by simp[val]⟩
 rintro⟨i,c,out⟩ ⟨hi,hc,ho,hd,mT⟩;refine aX ?_;refine bR ?_ ?_
 .intro h1 h2;have Sq:=hp.getD i;have Sr:=hq.getD i;have UU:=aJ p i;have Ze:=aJ q i;have D0:p.length<=i->p.getD i 0=0:=fun h=>by rw[qa,getElem?_eq_none h];rfl
  have Nx:q.length<=i->q.getD i 0=0:=fun h=>by rw[qa,getElem?_eq_none h];rfl
  simp only[B] at Sq Sr;generalize hP:p.getD i 0=x at*;generalize hQ:q.getD i 0=y at*;obtain⟨s,hs⟩: ∃ s,s=c+x+y:=⟨_,rfl⟩;have bP:=cq (l:=out) (i:=i) (by omega) (s % 4294967296);have eI:=ko (B^i) s;have da:val ((out.set i (s % 4294967296)).take (i+1))+s / 4294967296*B^(i+1)=val (p.take (i+1))+val (q.take (i+1)):=by
   rw[Nat.pow_succ,bP,UU,Ze,Nat.add_assoc];have h7:B^i*(s % 4294967296)+s / 4294967296*(B^i*B)=B^i*s:=eI;rw[h7,hs];grind
  have oz:Dig (out.set i (s % 4294967296)):=hd.set i (Nat.mod_lt _ (by decide));refine ae h2 ?_;refine bR ?_ ?_
  .intro h3 h4;refine ae (aQ h4 hP) ?_;refine⟨by omega,?_⟩;refine bR ?_ ?_
   .intro h5 h6;have hw:IntKind.u32.wrap ((c:Int)+x+y)=((s % 4294967296:Nat):Int):=by rw[dm];omega
    have Vb:((c:Int)+x+y) / 4294967296=((s / 4294967296:Nat):Int):=by omega
    refine ae (ej h6 hQ hw Vb) ?_;refine⟨by omega,by omega,by omega,by omega,?_⟩;refine ax (i+1,s / 4294967296,out.set i (s % 4294967296)) ?_ ⟨by omega,by omega,by simp[ho],oz,da⟩;exact bN [0]
   intro h5 h6;have:=Nx (by omega);have hw:IntKind.u32.wrap ((c:Int)+x)=((s % 4294967296:Nat):Int):=by rw[dm];omega
   have Vb:((c:Int)+x) / 4294967296=((s / 4294967296:Nat):Int):=by omega
   refine ae (bZ h6 hw Vb) ?_;refine⟨by omega,by omega,by omega,?_⟩;refine ax (i+1,s / 4294967296,out.set i (s % 4294967296)) ?_ ⟨by omega,by omega,by simp[ho],oz,da⟩;exact bN [0]
  intro h3 h4;have:=D0 (by omega);refine ae h4 ?_;refine bR ?_ ?_
  .intro h5 h6;have hw:IntKind.u32.wrap ((c:Int)+y)=((s % 4294967296:Nat):Int):=by rw[dm];omega
   have Vb:((c:Int)+y) / 4294967296=((s / 4294967296:Nat):Int):=by omega
   refine ae (ej h6 hQ hw Vb) ?_;refine⟨by omega,by omega,by omega,by omega,?_⟩;refine ax (i+1,s / 4294967296,out.set i (s % 4294967296)) ?_ ⟨by omega,by omega,by simp[ho],oz,da⟩;exact bN [0]
  intro h5 h6;have:=Nx (by omega);have hw:IntKind.u32.wrap ((c:Int))=((s % 4294967296:Nat):Int):=by rw[dm];omega
  have Vb:((c:Int)) / 4294967296=((s / 4294967296:Nat):Int):=by omega
  refine ae (bZ h6 hw Vb) ?_;refine⟨by omega,by omega,by omega,?_⟩;refine ax (i+1,s / 4294967296,out.set i (s % 4294967296)) ?_ ⟨by omega,by omega,by simp[ho],oz,da⟩;exact bN [0]
 intro h1 h2;refine ae h2 ?_;have hiM:i=M+1:=by omega
 have N7:val out=val p+val q:=by
  rw[hiM,aR (by omega),aR (by omega),aR (by omega)] at mT;have h5:=Nat.lt_of_lt_of_le (bF hp) (Nat.pow_le_pow_right (show 0<B by decide) (show p.length<=M by omega));have h6:=Nat.lt_of_lt_of_le (bF hq) (Nat.pow_le_pow_right (show 0<B by decide) (show q.length<=M by omega));rw[Nat.pow_succ] at mT;rcases Nat.eq_zero_or_pos c with h | h
  .subst h;omega
  exfalso;have:c=1:=by omega
  subst this;simp only[B] at*;omega
 refine gp (eZ out hd (by omega)) ?_ ?_
 .simp[cC,iw,gj,fP,aM,ho];rw[eE (by simp[aM,ho])]
 refine a9 ?_;refine bg ?_;refine qS ?_;rw[N7]
theorem sO {x:Int} (h:0<=x/\x<18446744073709551616):(BitVec.ofInt IntKind.i64.bits x).toNat=x.toNat:=by
 show(BitVec.ofInt 64 x).toNat=x.toNat;rw[BitVec.toNat_ofInt];have:((2^64:Nat):Int)=18446744073709551616:=by decide
 rw[this];omega
theorem X6 {x:Int} (hx:0<=x/\x<9223372036854775808):
 IntKind.i64.wrap ((BitVec.ofInt IntKind.i64.bits x&&& BitVec.ofInt IntKind.i64.bits 4294967295).toNat:Int)=x % 4294967296:=by
 rw[BitVec.toNat_and,sO (by omega),sO (by omega)]
 have:(4294967295:Int).toNat=2^32 - 1:=by decide
 rw[this,Nat.and_two_pow_sub_one_eq_mod,jK (by omega)]
 omega
theorem Wy (n:Nat) (hn:n<9223372036854775808):Den Tryz.prog 82 [] [.int .i64 n] [] (.tup [.fv (N n),.int .i64 0]):=by
 have hv:val [n % 4294967296,n / 4294967296]=n:=by
  simp only[val,B];omega
 have hd:Dig [n % 4294967296,n / 4294967296]:=by
  intro d hd;simp at hd;rcases hd with rfl | rfl<;>(simp only[B];omega)
 have B':=eZ [n % 4294967296,n / 4294967296] hd (by simp);rw[hv] at B';have mQ:decide ((n:Int)<0)=false:=by simp
 refine dq Tryz.func82 13 0 ?_;refine b8 (aQ mQ @X6) ?_;refine⟨by omega,?_⟩;refine gp B' ?_ ?_
 .simp[cC,iw,gj,fP,u32s]
 refine a9 ?_;refine bg ?_;exact Hd
theorem SX (a b:List Nat) (ha:Dig a) (hb:Dig b) (wo:a.length<100000000000) (wW:b.length<100000000000) (aH:val a<val b):
 Den Tryz.prog 125 [] [.fv (.sl (u32s a)),.fv (.sl (u32s b))] [] (.tup [.fv (.sl []),.int .i64 1]):=by
 refine dq Tryz.func125 54 0 ?_
 refine aX ?_
 refine gp (OP a b ha hb wo wW) rfl ?_
 simp -dsimp(disch:=omega) only[pP aH,↓reduceIte,ru]
 refine bR ?_ ?_
 .intro h1 h2
  refine ae h2 ?_
  refine bg ?_
  exact Hd
 intro h1 h2
 omega
theorem Wz (a b:List Nat) (ha:Dig a) (hb:Dig b) (wo:a.length<100000000000) (wW:b.length<100000000000) (dR:val b<=val a):
 Den Tryz.prog 125 [] [.fv (.sl (u32s a)),.fv (.sl (u32s b))] [] (.tup [.fv (N (val a - val b)),.int .i64 0]):=by
 have hxa:(ai (val a)).length<=a.length:=aB (bF ha)
 have lr:(ai (val b)).length<=(ai (val a)).length:=sH dR
 have hp:=ao (val a)
 have hq:=ao (val b)
 have Al:=aj (val a)
 have Lj:=aj (val b)
 have Am:decide (ou (val a) (val b)<0)=false:=by
  unfold ou;rw[if_neg (by omega)];split<;>simp
 refine dq Tryz.func125 54 0 ?_
 refine aX ?_
 refine gp (OP a b ha hb wo wW) rfl ?_
 refine ae Am ?_
 refine gp (Wv a ha (by omega)) rfl ?_
 refine a9 ?_
 refine gp (eZ b hb (by omega)) rfl ?_
 refine ae @bB ?_
 generalize ai (val a)=p at*
 generalize ai (val b)=q at*
 refine wl (α:=Nat×Nat×List Nat) (fun⟨i,c,out⟩=>⟨.fv (.sl (u32s a)):: .fv (.sl (u32s q)):: .any:: .any:: .nilsl:: .any:: .lsl 0 0 p.length 1:: .int .u64 c:: .int .i64 i::replicate 47 .any,[.row true (u32s out)]⟩)
  (fun⟨i,_,_⟩=>p.length - i)
  (fun⟨i,c,out⟩=>i<=p.length/\c<=1/\out.length=p.length/\Dig out/\(∀ j,i<=j->out.getD j 0=p.getD j 0)/\val (out.take i)+val (q.take i)=val (p.take i)+c*B^i) (0,0,p) ?_ ?_ ?_
 .exact bN [0]
 .exact⟨by omega,by omega,rfl,hp,fun _ _=>rfl,by simp[val]⟩
 rintro⟨i,c,out⟩ ⟨hi,hc,ho,hd,eW,mT⟩
 refine aX ?_
 refine bR ?_ ?_
 .intro h1 h2
  have Sq:=hp.getD i
  have Sr:=hq.getD i
  have UU:=aJ p i
  have Ze:=aJ q i
  have hO:out.getD i 0=p.getD i 0:=eW i (qp _)
  have Nx:q.length<=i->q.getD i 0=0:=fun h=>by rw[qa,getElem?_eq_none h];rfl
  simp only[B] at Sq Sr
  generalize p.getD i 0=x at*
  generalize hQ:q.getD i 0=y at*
  have fin: ∀ dg c2:Nat,dg+y+c=x+c2*4294967296->val ((out.set i dg).take (i+1))+val (q.take (i+1))=val (p.take (i+1))+c2*B^(i+1):=by
   intro dg c2 h;rw[Nat.pow_succ,cq (by omega),UU,Ze];simp only[B] at*;grind
  have rest: ∀ dg:Nat,∀ j,i+1<=j->(out.set i dg).getD j 0=p.getD j 0:=by
   intro dg j hj;rw[<-eW j (by omega)];simp only[qa];rw[getElem?_set_ne (by omega)]
  refine ae h2 ?_
  refine bR ?_ ?_
  .intro h3 h4
   refine ae (bZ h4 hO hQ) ?_
   refine⟨by omega,by omega,by omega,?_⟩
   refine bR ?_ ?_
   .intro h5 h6
    obtain⟨dg,Np⟩: ∃ dg,dg+(c+y)=x+4294967296:=⟨x+4294967296 - ((c+y)),by omega⟩
    have oz:Dig (out.set i dg):=hd.set i (by simp only[B];omega)
    have da:=fun(c2:Nat) (h:dg+y+c=x+c2*4294967296)=>fin dg c2 h
    have sq:=rest dg
    have hw:IntKind.u32.wrap ((x:Int)+4294967296 - ((c:Int)+y))=((dg:Nat):Int):=by rw[dm];omega
    refine ae (bZ h6 hO hw) ?_
    refine⟨by omega,by omega,?_⟩
    refine ax (i+1,1,out.set i dg) ?_ ⟨by omega,by omega,by simp[ho],oz,sq,da _ (by omega)⟩
    exact bN [0]
   intro h5 h6
   obtain⟨dg,Np⟩: ∃ dg,dg+(c+y)=x:=⟨x - ((c+y)),by omega⟩
   have oz:Dig (out.set i dg):=hd.set i (by simp only[B];omega)
   have da:=fun(c2:Nat) (h:dg+y+c=x+c2*4294967296)=>fin dg c2 h
   have sq:=rest dg
   have hw:IntKind.u32.wrap ((x:Int) - ((c:Int)+y))=((dg:Nat):Int):=by rw[dm];omega
   refine ae (bZ h6 hO hw) ?_
   refine⟨by omega,by omega,?_⟩
   refine ax (i+1,0,out.set i dg) ?_ ⟨by omega,by omega,by simp[ho],oz,sq,da _ (by omega)⟩
   exact bN [0]
  intro h3 h4
  have:=Nx (by omega)
  refine ae (aQ h4 hO) ?_
  refine⟨by omega,by omega,?_⟩
  refine bR ?_ ?_
  .intro h5 h6
   obtain⟨dg,Np⟩: ∃ dg,dg+c=x+4294967296:=⟨x+4294967296 - (c),by omega⟩
   have oz:Dig (out.set i dg):=hd.set i (by simp only[B];omega)
   have da:=fun(c2:Nat) (h:dg+y+c=x+c2*4294967296)=>fin dg c2 h
   have sq:=rest dg
   have hw:IntKind.u32.wrap ((x:Int)+4294967296 - ((c:Int)))=((dg:Nat):Int):=by rw[dm];omega
   refine ae (bZ h6 hO hw) ?_
   refine⟨by omega,by omega,?_⟩
   refine ax (i+1,1,out.set i dg) ?_ ⟨by omega,by omega,by simp[ho],oz,sq,da _ (by omega)⟩
   exact bN [0]
  intro h5 h6
  obtain⟨dg,Np⟩: ∃ dg,dg+c=x:=⟨x - (c),by omega⟩
  have oz:Dig (out.set i dg):=hd.set i (by simp only[B];omega)
  have da:=fun(c2:Nat) (h:dg+y+c=x+c2*4294967296)=>fin dg c2 h
  have sq:=rest dg
  have hw:IntKind.u32.wrap ((x:Int) - ((c:Int)))=((dg:Nat):Int):=by rw[dm];omega
  refine ae (bZ h6 hO hw) ?_
  refine⟨by omega,by omega,?_⟩
  refine ax (i+1,0,out.set i dg) ?_ ⟨by omega,by omega,by simp[ho],oz,sq,da _ (by omega)⟩
  exact bN [0]
 intro h1 h2
 refine ae h2 ?_
 have UW:i=p.length:=by omega
 have N7:val out=val a - val b:=by
  rw[UW,aR (by omega),aR lr,aR (qp _),Al,Lj] at mT;have h5:=bF hd;rw[ho] at h5;have h6:c=0:=by
   rcases Nat.eq_zero_or_pos c with h | h
   .exact h
   exfalso;have:c=1:=by omega
   subst this;omega
  subst h6;omega
 refine gp (eZ out hd (by omega)) ?_ ?_
 .simp[cC,iw,gj,fP,aM,ho]
  rw[eE (by simp[aM,ho])]
 refine a9 ?_
 refine bg ?_
 refine qS ?_
 rw[N7]
theorem acB {x y:Nat} (k:Nat) (hx:x % 2^k=0) (hy:y<2^k) (qT:x<18446744073709551616) (vi:y<18446744073709551616):
 IntKind.u64.wrap ((BitVec.ofInt IntKind.u64.bits (x:Int)||| BitVec.ofInt IntKind.u64.bits (y:Int)).toNat:Int)=((x+y:Nat):Int):=by
 rw[wE,BitVec.toNat_or,dY (by omega),dY (by omega),Int.toNat_natCast,Int.toNat_natCast,Cj k hx hy]
theorem WB (l:List Nat) (k:Nat) (hl:Dig l) (oE:l.length<100000000000) (hk:k<32):
 Den Tryz.prog 210 [] [.fv (.sl (u32s l)),.int .i64 k] [.row true (u32s (h_ (l.length+1) (val l*2^k)))] (.lsl 0 0 (l.length+1) 1):=by
 have N9:2^k<=2147483648:=Nat.pow_le_pow_right (by decide) (show k<=31 by omega)
 have D0:0<2^k:=Nat.two_pow_pos k
 have Ao:(k<=64)=True:=by simp;omega
 have hwk:IntKind.u64.wrap (k:Int)=(k:Int):=dF (by omega)
 refine dq Tryz.func210 41 0 ?_
 refine aX ?_
 refine⟨by omega,?_⟩
 have hn:((l.length:Int)+1).toNat=l.length+1:=by omega
 refine wl (α:=Nat×Nat×List Nat) (fun⟨i,c,out⟩=>⟨.fv (.sl (u32s l)):: .int .i64 k:: .any:: .any:: .nilsl:: .lsl 0 0 (l.length+1) 1:: .int .u64 c:: .int .i64 i::replicate 35 .any,[.row true (u32s out)]⟩)
  (fun⟨i,_,_⟩=>l.length - i) (fun⟨i,c,out⟩=>i<=l.length/\c<2^k/\out.length=l.length+1/\Dig out/\val (out.take i)+c*B^i=val (l.take i)*2^k) (0,0,replicate (l.length+1) 0) ?_ ?_ ?_
 .refine eV [0] ?_ ?_
  .simp[bc,dX,cB,hn]
  simp[ez,fL,hn]
 .exact⟨by omega,D0,by simp,Dig.zeros,by simp[val]⟩
 rintro⟨i,c,out⟩ ⟨hi,hc,ho,An,hv⟩
 refine aX ?_
 refine bR ?_ ?_
 .intro h1 h2
  have hx:=hl.getD i
  simp only[B] at hx
  have gN:=aJ l i
  generalize DA:l.getD i 0=x at*
  have hxv:x*2^k<9223372036854775808:=by
   have:x*2^k<=4294967295*2147483648:=Nat.mul_le_mul (by omega) N9;omega
  have GR:(x:Int)*2^k=((x*2^k:Nat):Int):=by rw[Int.natCast_mul,Int.natCast_pow];rfl
  have GQ:x*2^k % 2^k=0:=Nat.mul_mod_left _ _
  have fE:(x*2^k+c) / 4294967296<2^k:=by
   rw[Nat.div_lt_iff_lt_mul (by decide)];have:(x+1)*2^k<=4294967296*2^k:=qn _ hx;rw[Nat.mul_comm 4294967296] at this;rw[Nat.add_mul] at this;omega
  generalize Ar:x*2^k=v at*
  have Su:=acB k GQ hc (by omega) (by omega)
  obtain⟨s,hs⟩: ∃ s,s=v+c:=⟨_,rfl⟩
  rw[<-hs] at fE Su
  have Nu:IntKind.u32.wrap (s:Int)=((s % 4294967296:Nat):Int):=by rw[dm];rfl
  have UY:(s:Int) / 4294967296=((s / 4294967296:Nat):Int):=by rw[Int.natCast_ediv];rfl
  have bP:=cq (l:=out) (i:=i) (by omega) (s % 4294967296)
  have eI:=ko (B^i) s
  refine ae (bT h2 Ao hwk GR DA Su Nu UY) ?_
  refine⟨by omega,by omega,by omega,by omega,by omega,?_⟩
  refine ax (i+1,s / 4294967296,out.set i (s % 4294967296)) ?_ ⟨by omega,fE,by simp[ho],An.set _ (Nat.mod_lt _ (by decide)),?_⟩
  .exact bN [0]
  rw[Nat.pow_succ,bP,gN,Nat.add_assoc]
  have h7:B^i*(s % 4294967296)+s / 4294967296*(B^i*B)=B^i*s:=eI
  rw[h7,hs]
  grind
 intro h1 h2
 have dU:i=l.length:=by omega
 have hwc:IntKind.u32.wrap (c:Int)=(c:Int):=cP (by omega)
 refine ae (aQ h2 hwc) ?_
 refine⟨by omega,by omega,?_⟩
 have bP:=cq (l:=out) (i:=l.length) (by omega) c
 have fF:(out.set l.length c).length=l.length+1:=by simp[ho]
 rw[aR (by omega)] at bP
 rw[dU,aR (qp _)] at hv
 have hvo:val (out.set l.length c)=val l*2^k:=by rw[bP,<-hv,Nat.mul_comm]
 rw[<-hvo,<-fF,<-Ck (An.set _ (by simp only[B];omega)),fF]
 exact RetOK.own rfl ⟨cS,cS⟩ rfl
theorem JS {l:List Nat} {i:Nat} (hi:i<l.length) (x:Nat):val (l.set i x)+B^i*l.getD i 0=val l+B^i*x:=by
 have h1:=jl (l.set i x) (i+1) (by simp;omega);have h2:=jl l (i+1) (by omega);rw[cq hi,List.drop_set_of_lt (by omega)] at h1;rw[aJ] at h2;omega
theorem Ei (p q:List Nat) (hp:Dig p) (hq:Dig q) (UT:p.length<10000000000) (hlq:q.length<10000000000):
 Den Tryz.prog 124 [] [.fv (.sl (u32s p)),.fv (.sl (u32s q))] [] (.fv (N (val p*val q))):=by
 refine dq Tryz.func124 83 0 ?_
 refine aX ?_
 refine⟨by omega,?_⟩
 have hn:((p.length:Int)+(q.length:Int)+1).toNat=p.length+q.length+1:=by omega
 obtain⟨L,hL⟩: ∃ L,L=p.length+q.length+1:=⟨_,rfl⟩
 refine wl (α:=Nat×List Nat) (fun⟨i,out⟩=>⟨.fv (.sl (u32s p)):: .fv (.sl (u32s q)):: .any:: .any:: .nilsl:: .lsl 0 0 L 1:: .int .i64 i::replicate 78 .any,[.row true (u32s out)]⟩)
  (fun⟨i,_⟩=>p.length - i)
  (fun⟨i,out⟩=>i<=p.length/\out.length=L/\Dig out/\val out=val (p.take i)*val q) (0,replicate L 0) ?_ ?_ ?_
 .refine eV [0] ?_ ?_
  .simp[bc,dX,cB,hn,hL]
  simp[ez,fL,hn,hL]
 .exact⟨by omega,by simp,Dig.zeros,by simp[val,AL]⟩
 rintro⟨i,wq⟩ ⟨hi,Zi,gg,He⟩
 refine aX ?_
 refine bR ?_ ?_
 .intro h1 h2
  refine ae h2 ?_
  have hx:=hp.getD i
  have UU:=aJ p i
  simp only[B] at hx
  generalize DA:p.getD i 0=x at*
  refine wl (α:=Nat×Nat×List Nat) (fun⟨k,c,out⟩=>⟨.fv (.sl (u32s p)):: .fv (.sl (u32s q)):: .any:: .any:: .nilsl:: .lsl 0 0 L 1:: .int .i64 i:: .int .u64 c:: .int .i64 k::replicate 76 .any,[.row true (u32s out)]⟩)
   (fun⟨k,_,_⟩=>q.length - k)
   (fun⟨k,c,out⟩=>k<=q.length/\c<4294967296/\out.length=L/\Dig out/\val out+c*B^(i+k)=val wq+x*val (q.take k)*B^i) (0,0,wq) ?_ ?_ ?_
  .exact bN [0]
  .exact⟨by omega,by omega,Zi,gg,by simp[val]⟩
  rintro⟨k,c,out⟩ ⟨hk,hc,ho,hd,hv⟩
  refine aX ?_
  refine bR ?_ ?_
  .intro h3 h4
   refine ae h4 ?_
   refine dw (by kernel_rfl) ?_
   have hy:=hq.getD k
   have hqk:=aJ q k
   simp only[B] at hy
   have Zj:((i:Int)+(k:Int)).toNat=i+k:=by omega
   have iP:=hd.getD (i+k)
   simp only[B] at iP
   have bP:=fun z=>JS (l:=out) (i:=i+k) (by omega) z
   have eI:=ko (B^(i+k))
   generalize Ss:q.getD k 0=y at*
   generalize hod:out.getD (i+k) 0=o at*
   have Hf:x*y<=18446744065119617025:=gD (Nat.mul_le_mul (show x<=4294967295 by omega) (show y<=4294967295 by omega)) (by decide)
   have GR:(x:Int)*y=((x*y:Nat):Int):=by rw[Int.natCast_mul]
   generalize hm:x*y=m at*
   obtain⟨s,hs⟩: ∃ s,s=m+o+c:=⟨_,rfl⟩
   have Av:(m:Int)+o+c=(s:Int):=by omega
   have Nu:IntKind.u32.wrap (s:Int)=((s % 4294967296:Nat):Int):=by rw[dm];rfl
   have UY:(s:Int) / 4294967296=((s / 4294967296:Nat):Int):=by rw[Int.natCast_ediv];rfl
   refine ae (bT Ss DA Zj hod GR Av Nu UY) ?_
   refine⟨by omega,by omega,by omega,by omega,by omega,by omega,by omega,?_⟩
   have da:val (out.set (i+k) (s % 4294967296))+s / 4294967296*B^(i+(k+1))=val wq+x*val (q.take (k+1))*B^i:=by
    have h5:=bP (s % 4294967296);have h6:B^(i+k)*(s % 4294967296)+s / 4294967296*(B^(i+k)*B)=B^(i+k)*s:=eI s;rw[hqk,<-Nat.add_assoc i k 1,Nat.pow_succ];have h7:B^(i+k)*s=B^(i+k)*m+B^(i+k)*o+c*B^(i+k):=by rw[hs];grind
    have h8:x*(val (q.take k)+B^k*y)*B^i=x*val (q.take k)*B^i+B^(i+k)*m:=by rw[Nat.pow_add,<-hm];grind
    rw[h8];omega
   refine ax (k+1,s / 4294967296,out.set (i+k) (s % 4294967296)) ?_ ⟨by omega,by omega,by simp[ho],hd.set _ (Nat.mod_lt _ (by decide)),da⟩
   exact bN [0]
  intro h3 h4
  refine ae h4 ?_
  have hkq:k=q.length:=by omega
  have hT:val out+c*B^(i+q.length)=val (p.take (i+1))*val q:=by
   rw[hkq,aR (qp _),He] at hv;rw[hv,UU];grind
  have aH:val (p.take (i+1))*val q<B^(p.length+q.length):=by
   rw[Nat.pow_add];have h5:=bF (hp.take (i+1));have h6:B^(p.take (i+1)).length<=B^p.length:=Nat.pow_le_pow_right (by decide) (by rw[length_take];omega);exact Nat.mul_lt_mul'' (Nat.lt_of_lt_of_le h5 h6) (bF hq)
  generalize Vc:val (p.take (i+1))*val q=TT at*
  refine wl (α:=Nat×Nat×List Nat) (fun⟨k,c,out⟩=>⟨.fv (.sl (u32s p)):: .fv (.sl (u32s q)):: .any:: .any:: .nilsl:: .lsl 0 0 L 1:: .int .i64 i:: .int .u64 c:: .any:: .any:: .int .i64 k::replicate 74 .any,[.row true (u32s out)]⟩)
   (fun⟨k,_,_⟩=>L - k)
   (fun⟨k,c,out⟩=>c<4294967296/\out.length=L/\Dig out/\val out+c*B^k=TT) (i+q.length,c,out) ?_ ?_ ?_
  .exact bN [0]
  .exact⟨hc,ho,hd,hT⟩
  rintro⟨j,c1,RD⟩ ⟨vR,jF,SA,hv1⟩
  have ZB:0<c1->j<p.length+q.length:=by
   intro h;have h5:1*B^j<=c1*B^j:=qn _ h;have h6:B^j<B^(p.length+q.length):=by omega
   exact(Nat.pow_lt_pow_iff_right (by decide)).1 h6
  refine aX ?_
  refine bR ?_ ?_
  .intro h5 h6
   have hj:=ZB (by omega)
   have iP:=SA.getD j
   simp only[B] at iP
   have bP:=fun z=>JS (l:=RD) (i:=j) (by omega) z
   have eI:=ko (B^j)
   generalize hod:RD.getD j 0=o at*
   obtain⟨s,hs⟩: ∃ s,s=o+c1:=⟨_,rfl⟩
   have Av:(o:Int)+c1=(s:Int):=by omega
   have Nu:IntKind.u32.wrap (s:Int)=((s % 4294967296:Nat):Int):=by rw[dm];rfl
   have UY:(s:Int) / 4294967296=((s / 4294967296:Nat):Int):=by rw[Int.natCast_ediv];rfl
   refine ae (gS h6 hod Av Nu UY) ?_
   refine⟨by omega,by omega,by omega,by omega,by omega,?_⟩
   have da:val (RD.set j (s % 4294967296))+s / 4294967296*B^(j+1)=TT:=by
    have h7:=bP (s % 4294967296);have h8:B^j*(s % 4294967296)+s / 4294967296*(B^j*B)=B^j*s:=eI s;rw[Nat.pow_succ];have h9:B^j*s=B^j*o+c1*B^j:=by rw[hs];grind
    omega
   refine ax (j+1,s / 4294967296,RD.set j (s % 4294967296)) ?_ ⟨by omega,by simp[jF],SA.set _ (Nat.mod_lt _ (by decide)),da⟩
   exact bN [0]
  intro h5 h6
  have NB:c1=0:=by omega
  subst NB
  refine ae h6 ?_
  refine ax (i+1,RD) ?_ ⟨by omega,jF,SA,by rw[Vc];simpa using hv1⟩
  exact bN [0]
 intro h1 h2
 refine ae h2 ?_
 have UW:i=p.length:=by omega
 refine gp (eZ wq gg (by omega)) ?_ ?_
 .simp[cC,iw,gj,fP,aM,Zi]
  rw[eE (by simp[aM,Zi])]
 refine a9 ?_
 refine bg ?_
 rw[UW,aR (qp _)] at He
 exact lX He
theorem acC (l:List Nat) (k:Nat) (hl:Dig l) (oE:l.length<100000000000) (hk:k<32):
 Den Tryz.prog 212 [] [.fv (.sl (u32s l)),.int .i64 k] [] (.fv (N (val l / 2^k))):=by
 have Ao:(k<=64)=True:=by simp;omega
 have hwk:IntKind.u64.wrap (k:Int)=(k:Int):=dF (by omega)
 refine dq Tryz.func212 44 0 ?_
 refine aX ?_
 refine⟨by omega,?_⟩
 refine wl (α:=Nat×List Nat) (fun⟨i,out⟩=>⟨.fv (.sl (u32s l)):: .int .i64 k:: .any:: .any:: .nilsl:: .lsl 0 0 l.length 1:: .int .i64 i::replicate 39 .any,[.row true (u32s out)]⟩)
  (fun⟨i,_⟩=>l.length - i) (fun⟨i,out⟩=>i<=l.length/\out.length=l.length/\Dig out/\out.take i=h_ i (val l / 2^k)) (0,replicate l.length 0) ?_ ?_ ?_
 .exact bN [0]
 .exact⟨by omega,by simp,Dig.zeros,by simp[h_]⟩
 rintro⟨i,out⟩ ⟨hi,ho,An,hv⟩
 refine aX ?_
 refine bR ?_ ?_
 .intro h1 h2
  have hx:=hl.getD i
  have hy:=hl.getD (i+1)
  have zN:(l.getD i 0+l.getD (i+1) 0*4294967296) / 2^k % 4294967296=val l / 2^k / B^i % 4294967296:=by
   rw[q7 (l:=l) (i:=i) (k:=k) (by omega) (by omega),<-ig hl hi,Nat.div_div_eq_div_mul,Nat.div_div_eq_div_mul,Nat.mul_comm (2^k)]
  have oA:((i:Int)+1).toNat=i+1:=by omega
  have D0:0<2^k:=Nat.two_pow_pos k
  have tS:l.length<=i+1->l.getD (i+1) 0=0:=fun h=>by rw[qa,getElem?_eq_none h];rfl
  simp only[B] at hx hy
  generalize DA:l.getD i 0=x at*
  generalize Ss:l.getD (i+1) 0=y at*
  obtain⟨s,hs⟩: ∃ s,s=x+y*4294967296:=⟨_,rfl⟩
  rw[<-hs] at zN
  have Av:(x:Int)+y*4294967296=(s:Int):=by omega
  have Xm:((s:Int)) / 2^k=((s / 2^k:Nat):Int):=by rw[Int.natCast_ediv,Int.natCast_pow];rfl
  have Nu:IntKind.u32.wrap ((s / 2^k:Nat):Int)=((s / 2^k % 4294967296:Nat):Int):=by rw[dm];rfl
  have hpp:(0:Int)<=2^k:=by
   have:(2:Int)^k=((2^k:Nat):Int):=by rw[Int.natCast_pow];rfl
   omega
  generalize Np:s / 2^k % 4294967296=dg at*
  have U7:dg<4294967296:=by rw[<-Np];exact Nat.mod_lt _ (by decide)
  have da:(out.set i dg).take (i+1)=h_ (i+1) (val l / 2^k):=by
   rw[AN,<-hv,take_succ_eq_append_getElem (by simp;omega),List.take_set_of_le (qp i)];simp only[List.getElem_set_self,B] at*;rw[zN]
  refine ae (aQ h2 DA) ?_
  refine⟨by omega,?_⟩
  refine bR ?_ ?_
  .intro h3 h4
   refine ae (bT h4 oA Ss @Wn Av Ao hwk (aQ Xm Nu)) ?_
   refine⟨by omega,by omega,by omega,by omega,by omega,?_⟩
   refine ax (i+1,out.set i dg) ?_ ⟨by omega,by simp[ho],An.set _ U7,da⟩
   exact bN [0]
  intro h3 h4
  have Aw:=tS (by omega)
  have hsx:(x:Int)=(s:Int):=by omega
  refine ae (fM h4 hsx Ao hwk Xm Nu) ?_
  refine⟨by omega,by omega,by omega,?_⟩
  refine ax (i+1,out.set i dg) ?_ ⟨by omega,by simp[ho],An.set _ U7,da⟩
  exact bN [0]
 intro h1 h2
 refine ae h2 ?_
 have dU:i=l.length:=by omega
 have hvo:val out=val l / 2^k:=by
  rw[dU,eE (by omega)] at hv;rw[hv,ku];exact Hr (Nat.div_le_self _ _) (bF hl)
 refine gp (eZ out An (by omega)) ?_ ?_
 .simp[cC,iw,gj,fP,aM,ho]
  rw[eE (by simp[aM,ho])]
 refine a9 ?_
 refine bg ?_
 exact lX hvo
set_option maxHeartbeats 4000000
theorem acD (u v:List Nat) (j n:Nat) (zN:Dig u) (Ar:Dig v) (hn:v.length=n) (ub:2<=n) (hj:j+n+1<=u.length) (zo:u.length<10000000010) (wv:2147483648<=v.getD (n - 1) 0) (aH:val (u.drop (j+1))<val v):
 Den Tryz.prog 211 [.row true (u32s u)] [.lsl 0 0 u.length 1,.fv (.sl (u32s v)),.int .i64 j] [.row true (u32s (jH u j (n+1) (fB u j (n+1) % val v)))] (.int .u32 ((fB u j (n+1) / val v:Nat):Int)):=by
 obtain⟨L,hL⟩:=aw u.length
 have ZC:((n:Int) - 1).toNat=n - 1:=by omega
 have aiQ:((n:Int) - 2).toNat=n - 2:=by omega
 have Rv:=Ar.getD (n - 1)
 have Rx:=Ar.getD (n - 2)
 simp only[B] at Rv Rx
 obtain⟨top,ht⟩:=aw (v.getD (n - 1) 0)
 obtain⟨sec,hs⟩:=aw (v.getD (n - 2) 0)
 rw[ht] at Rv wv
 rw[hs] at Rx
 have i1:((j:Int)+(n:Int)).toNat=j+n:=by omega
 have i2:((j:Int)+(n:Int) - 1).toNat=j+n - 1:=by omega
 have i3:((j:Int)+(n:Int) - 2).toNat=j+n - 2:=by omega
 have LH:=uk (j:=j) zN Ar hn ub (by omega) aH
 have d1:=zN.getD (j+n)
 have d2:=zN.getD (j+n - 1)
 have d3:=zN.getD (j+n - 2)
 simp only[B] at d1 d2 d3
 have gU:=LH.first
 rw[ht] at gU
 obtain⟨x1,zp⟩:=aw (u.getD (j+n) 0)
 obtain⟨x2,qT⟩:=aw (u.getD (j+n - 1) 0)
 obtain⟨x3,Nt⟩:=aw (u.getD (j+n - 2) 0)
 rw[zp] at d1 gU
 rw[qT] at d2 gU
 rw[Nt] at d3
 obtain⟨F,hF⟩: ∃ F,F=x1*4294967296+x2:=⟨_,rfl⟩
 have hFi:(x1:Int)*4294967296+(x2:Int)=(F:Int):=by omega
 rw[<-hF] at gU
 have hFt:F / top<=4294967297:=OC wv gU
 have hFm:F % top<top:=Nat.mod_lt _ (by omega)
 have db:0<val v:=by have:=LH.v1;rw[ht] at this;have h0:0<top*B^(n - 1):=Nat.mul_pos (by omega) (JE (by decide));omega
 obtain⟨Q,hQ⟩: ∃ Q,Q=fB u j (n+1) / val v:=⟨_,rfl⟩
 have hQv:Q*val v<=fB u j (n+1):=by rw[hQ];exact Nat.div_mul_le_self _ _
 have LH1:=LH.h1
 rw[zp,qT,<-hF] at LH1
 have LHv:=LH.v1
 rw[ht] at LHv
 have bP:=Ea (q:=Q) (by omega) (xe (JE (by decide)) LH1 LH.s1 LHv hQv)
 have hQb:Q<4294967296:=by
  rw[hQ,Nat.div_lt_iff_lt_mul db,Nat.mul_comm];exact LH.lt
 have hq:(F:Int) / (top:Int)=((F / top:Nat):Int):=by rw[Int.natCast_ediv]
 have hr:(F:Int) % (top:Int)=((F % top:Nat):Int):=by rw[Int.natCast_emod]
 generalize F / top=g0 at*
 generalize F % top=r0 at*
 refine dq Tryz.func211 176 1 ?_
 refine ae (aQ hn hL) ?_
 refine dw (by kernel_rfl) ?_
 refine ae (fM i1 i2 zp qT @vt hFi) ?_
 refine⟨by omega,by omega,by omega,by omega,by omega,?_⟩
 refine dw (by kernel_rfl) ?_
 refine ae (gS hn ZC ht hq hr) ?_
 refine⟨by omega,by omega,by omega,by omega,?_⟩
 refine WA.blockcut (fun(y:Nat×(Nat->PV))=>⟨[.lsl 0 0 L 1,.fv (.sl (u32s v)),.int .i64 j,.any,.any,.any,.any,.int .i64 n,.any,.int .u64 y.1]++tl y.2 10 169,[.row true (u32s u)]⟩)
  (fun y=>Q<=y.1/\y.1<4294967296/\(y.1 - 1)*val v<=fB u j (n+1)) ?_ ?_
 .refine wl (α:=Nat×Nat) (fun⟨g,r⟩=>⟨.lsl 0 0 L 1:: .fv (.sl (u32s v)):: .int .i64 j:: .any:: .any:: .any:: .any:: .int .i64 n:: .any:: .int .u64 g:: .int .u64 r::replicate 168 .any,[.row true (u32s u)]⟩)
   (fun⟨g,_⟩=>g) (fun⟨g,r⟩=>vu F top Q g r/\r<4294967296/\g<=4294967297) (g0,r0) ?_ ?_ ?_
  .exact bN [0]
  .exact⟨bP,by omega,hFt⟩
  rintro⟨g,r⟩ ⟨Lk,GU,oB⟩
  refine aX ?_
  refine dw (by kernel_rfl) ?_
  refine a9 ?_
  refine bR ?_ ?_
  .intro h3 h4
   have mO:Q<g:=by omega
   obtain⟨g',rfl⟩: ∃ g',g=g'+1:=⟨g - 1,by omega⟩
   have nT:=wF Lk mO
   rw[Nat.add_sub_cancel] at nT
   have DB:((g'+1:Nat):Int) - 1=(g':Int):=by omega
   refine ae (gS h4 DB hn ZC ht) ?_
   repeat refine ag ?_
   refine bR ?_ ?_
   .intro h5 h6
    refine ae h6 ?_
    have qU:=Cl (second:=sec) nT (by omega) gU (by omega)
    refine Mid.ex g' rfl ⟨by omega,qU.1,?_⟩
    refine kd LH qU.1 (by omega) ?_
    rw[ht,hs,zp,qT,Nt,<-hF]
    exact pQ nT (gD qU.2 (Nat.le_add_right _ _))
   intro h5 h6
   refine ae h6 ?_
   refine ax (g',r+top) ?_ ⟨nT,by omega,by omega⟩
   exact bN [0]
  intro h3 h4
  have wY:g<4294967296:=by omega
  have hgs:g*sec<=4294967295*4294967295:=Nat.mul_le_mul (by omega) (by omega)
  have U4:(g:Int)*(sec:Int)=((g*sec:Nat):Int):=by rw[Int.natCast_mul]
  obtain⟨gs,I9⟩:=aw (g*sec)
  rw[I9] at hgs U4
  have hrd:decide ((r:Int)<4294967296)=true:=GP
  refine ae (bT h4 hrd U4 aiQ hs i3 Nt @vt) ?_
  repeat refine ag ?_
  refine bR ?_ ?_
  .intro h7 h8
   have mO:Q<g:=by
    have LH2:=LH.h2;have LHv2:=LH.v2;rw[zp,qT,Nt,<-hF] at LH2;rw[ht,hs] at LHv2;exact JM (JE (by decide)) LH2 LH.s2 rfl LHv2 hQv Lk (by rw[I9];omega)
   obtain⟨g',rfl⟩: ∃ g',g=g'+1:=⟨g - 1,by omega⟩
   have nT:=wF Lk mO
   rw[Nat.add_sub_cancel] at nT
   have DB:((g'+1:Nat):Int) - 1=(g':Int):=by omega
   refine ae (gS h8 DB hn ZC ht) ?_
   repeat refine ag ?_
   refine bR ?_ ?_
   .intro h5 h6
    refine ae h6 ?_
    have qU:=Cl (second:=sec) nT (by omega) gU (by omega)
    refine Mid.ex g' rfl ⟨by omega,qU.1,?_⟩
    refine kd LH qU.1 (by omega) ?_
    rw[ht,hs,zp,qT,Nt,<-hF]
    exact pQ nT (gD qU.2 (Nat.le_add_right _ _))
   intro h5 h6
   refine ae h6 ?_
   refine ax (g',r+top) ?_ ⟨nT,by omega,by omega⟩
   exact bN [0]
  intro h7 h8
  refine ae h8 ?_
  refine Mid.ex g rfl ⟨Lk.low,wY,?_⟩
  refine kd LH wY (by omega) ?_
  rw[ht,hs,zp,qT,Nt,<-hF]
  exact pQ Lk (by rw[I9];omega)
 rintro⟨g,x⟩ ⟨Sy,et,B8⟩
 have Zp:=JO (g:=g) db (by rw[<-hQ];exact Sy)
 simp only[] at Sy et B8
 simp -dsimp(disch:=omega) only[tl,jQ,reduceAdd]
 refine wl (α:=Nat×Nat×Nat×List Nat) (fun⟨i,bo,c,w⟩=>⟨[.lsl 0 0 L 1,.fv (.sl (u32s v)),.int .i64 j,.any,.any,.any,.any,.int .i64 n,.any,.int .u64 g,.any,.int .u64 bo,.int .u64 c,.int .i64 i]++replicate 165 .any,[.row true (u32s w)]⟩)
  (fun⟨i,_,_,_⟩=>n+1 - i) (fun⟨i,bo,c,w⟩=>i<=n+1/\bo<=1/\c<4294967296/\w.length=L/\Dig w/\(∀ t,(t<j\/j+i<=t)->w.getD t 0=u.getD t 0)/\fB w j i+g*val (v.take i)=fB u j i+(c+bo)*B^i/\(i=n+1->c=0)) (0,0,0,u) ?_ ?_ ?_
 .exact bN [0]
 .refine⟨by omega,by omega,by omega,hL,zN,fun _ _=>rfl,?_,fun _=>rfl⟩
  simp[sI,val]
 rintro⟨i,bo,c,w⟩ ⟨hi,hbo,hc,Xl,Ja,so,jL,ZD⟩
 refine aX ?_
 refine bR ?_ ?_
 .intro h1 h2
  have dv:=Ar.getD i
  have du:=Ja.getD (j+i)
  simp only[B] at dv du
  have fr:=aJ v i
  have ua:=jm u j i
  have I_:=so (j+i) (Or.inr (qp _))
  rw[<-I_] at ua
  have He:n<=i->v.getD i 0=0:=fun h=>by rw[qa,getElem?_eq_none (by omega)];rfl
  obtain⟨y,hy⟩:=aw (v.getD i 0)
  obtain⟨z,hz⟩:=aw (w.getD (j+i) 0)
  rw[hy] at fr dv He
  rw[hz] at ua du
  have ik:((j:Int)+(i:Int)).toNat=j+i:=by omega
  refine ae h2 ?_
  refine bR ?_ ?_
  .intro h3 h4
   have hgy:g*y<=4294967295*4294967295:=Nat.mul_le_mul (by omega) (by omega)
   have Ry:(g:Int)*(y:Int)=((g*y:Nat):Int):=by rw[Int.natCast_mul]
   obtain⟨cc,pE⟩:=aw (c+g*y)
   obtain⟨gy,Zq⟩:=aw (g*y)
   rw[Zq] at hgy Ry
   have zq:(c:Int)+(gy:Int)=(cc:Int):=by omega
   have aiB:cc<=18446744073709551616 - 4294967296:=by omega
   have qV:(cc:Int) % 4294967296=((cc % 4294967296:Nat):Int):=by rw[Int.natCast_emod];rfl
   have kM:(cc:Int) / 4294967296=((cc / 4294967296:Nat):Int):=by rw[Int.natCast_ediv];rfl
   obtain⟨lo,fF⟩:=aw (cc % 4294967296)
   obtain⟨oC,Jd⟩: ∃ t,cc / 4294967296=t:=⟨_,rfl⟩
   have Nq:lo<4294967296:=by omega
   have DD:oC<4294967296:=by omega
   rw[fF] at qV
   rw[Jd] at kM
   refine ae (bT h4 hn hy Ry zq @Ox qV (bZ kM hz ik)) ?_
   repeat refine ag ?_
   refine bR ?_ ?_
   .intro h7 h8
    obtain⟨d,Dz⟩:=aw (z+4294967296 - (lo+bo))
    have I':(z:Int)+4294967296 - ((lo:Int)+(bo:Int))=(d:Int):=by omega
    have a_:=jf (u:=w) (j:=j) (i:=i) (by omega) d
    have zr:IntKind.u32.wrap (d:Int)=(d:Int):=cP (by omega)
    have bP:=jn (S:=fB w j i) (S0:=fB u j i) (P:=B^i) (g:=g) (Vt:=val (v.take i)) (v:=y) (c:=c) (b:=bo) (a:=z) (d:=d) (b2:=1) jL (by rw[pE,fF];omega)
    refine ae (ej h8 ik I' zr) ?_
    repeat refine ag ?_
    refine ax (i+1,1,oC,w.set (j+i) d) ?_ ⟨by omega,by omega,DD,by simp[Xl],Ja.set _ (by simp only[B];omega),?_,?_,by omega⟩
    .exact bN [0]
    .intro t Zn
     rw[<-so t (by omega),qa,getElem?_set_ne (by omega),<-qa]
    rw[a_,fr,ua,Nat.pow_succ,<-Jd,<-pE]
    exact bP
   intro h7 h8
   obtain⟨d,Dz⟩:=aw (z - (lo+bo))
   have I':(z:Int) - ((lo:Int)+(bo:Int))=(d:Int):=by omega
   have a_:=jf (u:=w) (j:=j) (i:=i) (by omega) d
   have zr:IntKind.u32.wrap (d:Int)=(d:Int):=cP (by omega)
   have bP:=jn (S:=fB w j i) (S0:=fB u j i) (P:=B^i) (g:=g) (Vt:=val (v.take i)) (v:=y) (c:=c) (b:=bo) (a:=z) (d:=d) (b2:=0) jL (by rw[pE,fF];omega)
   refine ae (ej h8 ik I' zr) ?_
   repeat refine ag ?_
   refine ax (i+1,0,oC,w.set (j+i) d) ?_ ⟨by omega,by omega,DD,by simp[Xl],Ja.set _ (by simp only[B];omega),?_,?_,by omega⟩
   .exact bN [0]
   .intro t Zn
    rw[<-so t (by omega),qa,getElem?_set_ne (by omega),<-qa]
   rw[a_,fr,ua,Nat.pow_succ,<-Jd,<-pE]
   exact bP
  intro h3 h4
  have tS:=He (by omega)
  obtain⟨cc,aiR⟩: ∃ t,c=t:=⟨_,rfl⟩
  have zq:(c:Int)=(cc:Int):=by omega
  have pE:c+g*y=cc:=by rw[tS,Nat.mul_zero,aiR];rfl
  have qV:(cc:Int) % 4294967296=((cc % 4294967296:Nat):Int):=by rw[Int.natCast_emod];rfl
  have kM:(cc:Int) / 4294967296=((cc / 4294967296:Nat):Int):=by rw[Int.natCast_ediv];rfl
  obtain⟨lo,fF⟩:=aw (cc % 4294967296)
  obtain⟨oC,Jd⟩: ∃ t,cc / 4294967296=t:=⟨_,rfl⟩
  have Nq:lo<4294967296:=by omega
  have DD:oC<4294967296:=by omega
  rw[fF] at qV
  rw[Jd] at kM
  refine ae (fw h4 zq @Ox qV kM hz ik) ?_
  repeat refine ag ?_
  refine bR ?_ ?_
  .intro h7 h8
   obtain⟨d,Dz⟩:=aw (z+4294967296 - (lo+bo))
   have I':(z:Int)+4294967296 - ((lo:Int)+(bo:Int))=(d:Int):=by omega
   have a_:=jf (u:=w) (j:=j) (i:=i) (by omega) d
   have zr:IntKind.u32.wrap (d:Int)=(d:Int):=cP (by omega)
   have bP:=jn (S:=fB w j i) (S0:=fB u j i) (P:=B^i) (g:=g) (Vt:=val (v.take i)) (v:=y) (c:=c) (b:=bo) (a:=z) (d:=d) (b2:=1) jL (by rw[pE,fF];omega)
   refine ae (ej h8 ik I' zr) ?_
   repeat refine ag ?_
   refine ax (i+1,1,oC,w.set (j+i) d) ?_ ⟨by omega,by omega,DD,by simp[Xl],Ja.set _ (by simp only[B];omega),?_,?_,by omega⟩
   .exact bN [0]
   .intro t Zn
    rw[<-so t (by omega),qa,getElem?_set_ne (by omega),<-qa]
   rw[a_,fr,ua,Nat.pow_succ,<-Jd,<-pE]
   exact bP
  intro h7 h8
  obtain⟨d,Dz⟩:=aw (z - (lo+bo))
  have I':(z:Int) - ((lo:Int)+(bo:Int))=(d:Int):=by omega
  have a_:=jf (u:=w) (j:=j) (i:=i) (by omega) d
  have zr:IntKind.u32.wrap (d:Int)=(d:Int):=cP (by omega)
  have bP:=jn (S:=fB w j i) (S0:=fB u j i) (P:=B^i) (g:=g) (Vt:=val (v.take i)) (v:=y) (c:=c) (b:=bo) (a:=z) (d:=d) (b2:=0) jL (by rw[pE,fF];omega)
  refine ae (ej h8 ik I' zr) ?_
  repeat refine ag ?_
  refine ax (i+1,0,oC,w.set (j+i) d) ?_ ⟨by omega,by omega,DD,by simp[Xl],Ja.set _ (by simp only[B];omega),?_,?_,by omega⟩
  .exact bN [0]
  .intro t Zn
   rw[<-so t (by omega),qa,getElem?_set_ne (by omega),<-qa]
  rw[a_,fr,ua,Nat.pow_succ,<-Jd,<-pE]
  exact bP
 intro h1 h2
 have gA:i=n+1:=by omega
 have NB:=ZD gA
 subst gA
 subst NB
 have GV:val (v.take (n+1))=val v:=aR (by omega)
 rw[GV,Nat.zero_add] at jL
 refine ae h2 ?_
 refine Br.beqInt ?_ ?_
 .intro h3 h4
  have Hg:bo=0:=by omega
  subst Hg
  rw[Nat.zero_mul,Nat.add_zero] at jL
  have Hh:=Ec jL Zp
  have wX:=xi jL Hh
  have Zw:IntKind.u32.wrap (g:Int)=(g:Int):=cP (by omega)
  have bV:=AO (x:=fB u j (n+1) % val v) (by omega) Ja (by omega) so wX.2
  refine ae (aQ h4 Zw) ?_
  refine RetOK.lent rfl ⟨cS,cS⟩ (by rw[bV]) ?_ rfl
  rw[<-wX.1]
  rfl
 intro h3 h4
 have dV:bo=1:=by omega
 subst dV
 rw[Nat.one_mul] at jL
 have aiD:=uj Ja j (n+1)
 have hVM:val v<=B^(n+1):=by
  have h7:=bF Ar;rw[hn] at h7;exact gD (Nat.le_of_lt h7) (Nat.pow_le_pow_right (by decide) (by omega))
 have fE:fB u j (n+1)<g*val v:=by omega
 have vS:0<g:=by
  rcases Nat.eq_zero_or_pos g with h7 | h7
  .rw[h7,Nat.zero_mul] at fE;omega
  exact h7
 refine ae h4 ?_
 refine wl (α:=Nat×Nat×List Nat) (fun⟨t,c,w'⟩=>⟨[.lsl 0 0 L 1,.fv (.sl (u32s v)),.int .i64 j,.any,.any,.any,.any,.int .i64 n,.any,.int .u64 g,.any,.any,.int .u64 c,.any,.any,.any,.any,.int .i64 t]++replicate 161 .any,[.row true (u32s w')]⟩)
  (fun⟨t,_,_⟩=>n+1 - t) (fun⟨t,c,w'⟩=>t<=n+1/\c<=1/\w'.length=L/\Dig w'/\(∀ s,(s<j\/j+t<=s)->w'.getD s 0=w.getD s 0)/\fB w' j t+c*B^t=fB w j t+val (v.take t)) (0,0,w) ?_ ?_ ?_
 .exact bN [0]
 .refine⟨by omega,by omega,Xl,Ja,fun _ _=>rfl,?_⟩
  simp[sI,val]
 rintro⟨t,c',w'⟩ ⟨ht',hc',aen,RE,Vd,Ln⟩
 refine aX ?_
 refine bR ?_ ?_
 .intro h5 h6
  have dv:=Ar.getD t
  have du:=RE.getD (j+t)
  simp only[B] at dv du
  have fr:=aJ v t
  have DC:=jm w j t
  have Zv:=Vd (j+t) (Or.inr (qp _))
  rw[<-Zv] at DC
  have He:n<=t->v.getD t 0=0:=fun h=>by rw[qa,getElem?_eq_none (by omega)];rfl
  obtain⟨y,hy⟩: ∃ t',v.getD t 0=t':=⟨_,rfl⟩
  obtain⟨z,hz⟩: ∃ t',w'.getD (j+t) 0=t':=⟨_,rfl⟩
  rw[hy] at fr dv He
  rw[hz] at DC du
  have ik2:((j:Int)+(t:Int)).toNat=j+t:=by omega
  refine ae (bZ h6 hz ik2) ?_
  repeat refine ag ?_
  refine bR ?_ ?_
  .intro h7 h8
   obtain⟨cc,pE⟩:=aw (c'+(z+y))
   have zq:(z:Int)+(c':Int)+(y:Int)=(cc:Int):=by omega
   have kM:(cc:Int) / 4294967296=((cc / 4294967296:Nat):Int):=by rw[Int.natCast_ediv];rfl
   have U6:IntKind.u32.wrap (cc:Int)=((cc % 4294967296:Nat):Int):=by rw[dm,Int.natCast_emod];rfl
   have oh:=jf (u:=w') (j:=j) (i:=t) (by omega) (cc % 4294967296)
   refine ae (bT h8 hn hy hz ik2 zq kM U6) ?_
   repeat refine ag ?_
   refine ax (t+1,cc / 4294967296,w'.set (j+t) (cc % 4294967296)) ?_ ⟨by omega,by omega,by simp[aen],RE.set _ (Nat.mod_lt _ (by decide)),?_,?_⟩
   .exact bN [0]
   .intro s B_
    rw[<-Vd s (by omega),qa,getElem?_set_ne (by omega),<-qa]
   rw[oh,fr,DC,Nat.pow_succ]
   exact mZ Ln pE
  intro h7 h8
  have tS:=He (by omega)
  obtain⟨cc,pE⟩:=aw (c'+(z+y))
  have zq:(z:Int)+(c':Int)=(cc:Int):=by omega
  have kM:(cc:Int) / 4294967296=((cc / 4294967296:Nat):Int):=by rw[Int.natCast_ediv];rfl
  have U6:IntKind.u32.wrap (cc:Int)=((cc % 4294967296:Nat):Int):=by rw[dm,Int.natCast_emod];rfl
  have oh:=jf (u:=w') (j:=j) (i:=t) (by omega) (cc % 4294967296)
  refine ae (fM h8 hz ik2 zq kM U6) ?_
  repeat refine ag ?_
  refine ax (t+1,cc / 4294967296,w'.set (j+t) (cc % 4294967296)) ?_ ⟨by omega,by omega,by simp[aen],RE.set _ (Nat.mod_lt _ (by decide)),?_,?_⟩
  .exact bN [0]
  .intro s B_
   rw[<-Vd s (by omega),qa,getElem?_set_ne (by omega),<-qa]
  rw[oh,fr,DC,Nat.pow_succ]
  exact mZ Ln pE
 intro h5 h6
 have Ve:t=n+1:=by omega
 subst Ve
 rw[GV] at Ln
 have GU:=xf hVM jL vS B8 fE Ln (uj RE _ _)
 have wX:=xi GU.1 GU.2
 have bV:=AO (u:=u) (x:=fB u j (n+1) % val v) (by omega) RE (by omega) (fun s B_=>by rw[Vd s B_,so s B_]) wX.2
 have U4:(g:Int) - 1=((g - 1:Nat):Int):=by omega
 have Zw:IntKind.u32.wrap ((g - 1:Nat):Int)=((g - 1:Nat):Int):=cP (by omega)
 refine ae (bZ h6 U4 Zw) ?_
 refine RetOK.lent rfl ⟨cS,cS⟩ (by rw[bV]) ?_ rfl
 rw[<-wX.1]
 rfl
theorem AV {x y:Nat}:ou x y<0↔x<y:=by
 unfold ou;split
 .omega
 split<;>omega
theorem dc (n:Nat):N n= .sl (u32s (ai n)):=rfl
theorem ahP (a b:List Nat) (ha:Dig a) (hb:Dig b) (wo:a.length<10000000000) (wW:b.length<10000000000) (h0:val b=0):
 Den Tryz.prog 172 [] [.fv (.sl (u32s a)),.fv (.sl (u32s b))] [] (.tup [.fv (N 0),.fv (N 0),.int .i64 3]):=by
 refine dq Tryz.func172 84 0 ?_
 refine aX ?_
 refine gp (eZ a ha (by omega)) rfl ?_
 refine a9 ?_
 refine gp (eZ b hb (by omega)) rfl ?_
 have Lm:(ai 0).length=0:=by rw[bx];rfl
 have zw:((0:Nat):Int)=0:=rfl
 have qP:((0:Int)==0)=true:=rfl
 refine ae (gS @dc h0 Lm zw qP) ?_
 refine bg ?_
 refine qS ?_
 simp[bx,u32s]
theorem OQ (a b:List Nat) (ha:Dig a) (hb:Dig b) (wo:a.length<10000000000) (wW:b.length<10000000000) (h0:val b≠0):
 Den Tryz.prog 172 [] [.fv (.sl (u32s a)),.fv (.sl (u32s b))] [] (.tup [.fv (N (val a / val b)),.fv (N (val a % val b)),.int .i64 0]):=by
 have Zy:=aB (bF ha)
 have Ns:=aB (bF hb)
 have aiL:(ai (val b)).length≠0:=fun h=>h0 (fR h)
 refine dq Tryz.func172 84 0 ?_
 refine aX ?_
 refine gp (eZ a ha (by omega)) rfl ?_
 refine a9 ?_
 refine gp (eZ b hb (by omega)) rfl ?_
 have hz:(((ai (val b)).length:Int)==0)=false:=by rw[qx];omega
 refine ae (aQ @dc hz) ?_
 refine gp (OP (ai (val a)) (ai (val b)) (ao _) (ao _) (by omega) (by omega)) rfl ?_
 refine ae @aj ?_
 refine bR ?_ ?_
 .intro h1 h2
  rw[AV] at h1
  refine ae h2 ?_
  refine bg ?_
  refine qS ?_
  rw[Nat.div_eq_of_lt h1,Nat.mod_eq_of_lt h1]
  simp[N,bx,u32s]
 intro h1 h2
 rw[AV] at h1
 refine ae h2 ?_
 refine Br.beqInt ?_ ?_
 .intro h3 h4
  obtain⟨d,hd⟩: ∃ d,ai (val b)=[d]:=length_eq_one_iff.1 (by omega)
  have hbv:val b=d:=by rw[<-aj (val b),hd];simp[val]
  have Dz:d<4294967296:=by have:=ao (val b);rw[hd] at this;exact this d (by simp)
  have vS:(u32s [d]).getD 0 []=[FV.lit (Value.int .u32 d)]:=rfl
  have gg:0<d:=by omega
  have eo:=Nat.mod_lt (val a) gg
  have h93:=acA (ai (val a)) d (ao _) (by omega) Dz gg
  rw[aj] at h93
  refine ae (aQ hd vS) ?_
  refine⟨by simp,?_⟩
  refine aW h93 ?_
  obtain⟨r,hr⟩:=aw (val a % d)
  rw[hr] at eo
  have B':=eZ [r] (Dig.mk (by simp only[B];omega) Dig.nil) (by simp)
  have hvr:val [r]=r:=by simp[val]
  rw[hvr] at B'
  refine ae hr ?_
  refine gp B' ?_ ?_
  .rfl
  refine a9 ?_
  refine bg ?_
  exact lX (aQ hbv hr)
 intro h3 h4
 have dR:(ai (val b)).length<=(ai (val a)).length:=b' (by omega)
 obtain⟨n,hn⟩: ∃ n,(ai (val b)).length=n+1:=⟨(ai (val b)).length - 1,by omega⟩
 have wv:=JP hn
 have N':=(ao (val b)).getD n
 simp only[B] at N'
 obtain⟨top,ht⟩:=aw ((ai (val b)).getD n 0)
 rw[ht] at wv N'
 have kL:(((n+1:Nat):Int) - 1).toNat=n:=by omega
 refine ae h4 ?_
 refine wl (α:=Nat) (fun s=>⟨[.fv (N (val a)),.fv (N (val b)),.any,.any,.nilsl,.nilsl,.any,.any,.any,.int .i64 s]++replicate 76 .any,[]⟩)
  (fun s=>32 - s) (fun s=>s<32/\top*2^s<4294967296) 0 ?_ ?_ ?_
 .refine eV [] ?_ ?_
  .simp[bc,dX,cB,N]
  trivial
 .exact⟨by omega,by simpa using N'⟩
 rintro s ⟨hs,ef⟩
 have Ao:(s<=32)=True:=by simp;omega
 have Nu:IntKind.u64.wrap (s:Int)=(s:Int):=dF (by omega)
 obtain⟨w,hw⟩:=aw (top*2^s)
 have hwi:(top:Int)*2^s=(w:Int):=by rw[<-hw,Int.natCast_mul,Int.natCast_pow];rfl
 rw[hw] at ef
 have hww:IntKind.u32.wrap (w:Int)=(w:Int):=cP (by omega)
 refine b8 (bT @dc hn kL ht Ao Nu hwi hww) ?_
 repeat refine ag ?_
 refine bR ?_ ?_
 .intro h5 h6
  refine ae h6 ?_
  have ano:=OG wv (by rw[hw];omega:top*2^s<2147483648)
  refine ax (s+1) ?_ ⟨by omega,by rw[Nat.pow_succ,<-Nat.mul_assoc,hw];omega⟩
  refine eV [] ?_ ?_
  .simp[bc,dX,cB,N]
  trivial
 intro h5 h6
 refine ae h6 ?_
 have wZ:=xh (k:=s) hn ht (by omega) (by rw[hw];omega) (by rw[hw];omega)
 obtain⟨V,hV⟩:=aw (val b*2^s)
 rw[hV] at wZ
 obtain⟨la,Vf⟩: ∃ t,(ai (val a)).length=t:=⟨_,rfl⟩
 have aeo:=WB (ai (val a)) s (ao _) (by omega) hs
 have aep:=WB (ai (val b)) s (ao _) (by omega) hs
 rw[aj,Vf] at aeo
 rw[aj,hn,hV] at aep
 have B':=eZ (h_ (n+1+1) V) (kr _ _) (by rw[cy];omega)
 have hVd:val (h_ (n+1+1) V)=V:=by
  apply ku;have:=bI (n:=V);rw[wZ.1] at this;exact Nat.lt_of_lt_of_le this (Nat.pow_le_pow_right (by decide) (by omega))
 rw[hVd] at B'
 have hua:val (h_ (la+1) (val a*2^s))=val a*2^s:=by
  apply ku;rw[Nat.pow_succ];have:=bI (n:=val a);rw[Vf] at this;exact Nat.mul_lt_mul'' this (Nat.lt_of_lt_of_le (Nat.pow_lt_pow_right (by decide) hs) (by decide))
 obtain⟨v,hv⟩:=aw (ai V)
 have Ar:Dig v:=by rw[<-hv];exact ao _
 have hvv:val v=V:=by rw[<-hv,aj]
 rw[hv] at wZ
 have hlm:((la:Int) - ((n+1:Nat):Int)+1).toNat=la - n:=by omega
 obtain⟨m,hm⟩:=aw (la - n)
 refine aW aeo ?_
 refine a9 ?_
 refine aW aep ?_
 refine a9 ?_
 refine gp B' ?_ ?_
 .simp[cC,iw,gj,fP,aM,cy]
  rw[eE (by simp[aM,cy])]
 simp -dsimp(disch:=omega) only[dc,hv,Vf,hn,hlm,hm,↓reduceIte,reduceAdd,Nat.reduceLT,ru]
 refine⟨by omega,?_⟩
 refine wl (α:=Nat×List Nat×List Nat) (fun⟨j1,qd,u⟩=>⟨[.any,.any,.any,.any,.nilsl,.nilsl,.any,.any,.any,.int .i64 s,.lsl 0 0 (la+1) 1,.fv (.sl (u32s v)),.lsl 1 0 m 1,.int .i64 ((j1:Int) - 1)]++replicate 72 .any,[.row true (u32s u),.row true (u32s qd)]⟩)
  (fun⟨j1,_,_⟩=>j1) (fun⟨j1,qd,u⟩=>j1<=m/\u.length=la+1/\qd.length=m/\Dig u/\Dig qd/\val (u.drop j1)<val v/\val u+val v*(B^j1*val (qd.drop j1))=val a*2^s) (m,replicate m 0,h_ (la+1) (val a*2^s)) ?_ ?_ ?_
 .exact bN [0,2]
 .refine⟨qp _,cy _ _,by simp,kr _ _,Dig.zeros,?_,?_⟩
  .rw[<-ig (kr _ _) (by rw[cy];omega),hua]
   have h7:=aJ v n
   rw[aR (by omega)] at h7
   have h8:=bI (n:=val a)
   rw[Vf] at h8
   refine xg (x:=val a*2^s) (P:=val a) (T:=2147483648) (K:=2^s) (Bn:=B^n) (Bl:=B^la) h8 (Nat.pow_le_pow_right (by decide) (show s<=31 by omega)) ?_ ?_ rfl (by decide) (JE (by decide))
   .rw[h7,Nat.mul_comm]
    exact gD (Nat.mul_le_mul_left _ wZ.2) (Nat.le_add_left _ _)
   rw[<-Nat.pow_add,show n+m=la by omega]
  rw[hua,List.drop_of_length_le (by simp)]
  simp[val]
 rintro⟨j1,qd,u⟩ ⟨Sx,zo,I7,zN,hqd,aH,bO⟩
 refine aX ?_
 refine bR ?_ ?_
 .intro h7 h8
  obtain⟨j,rfl⟩: ∃ j,j1=j+1:=⟨j1 - 1,by omega⟩
  have wu:((j+1:Nat):Int) - 1=(j:Int):=by omega
  have DE:((j:Nat):Int).toNat=j:=by omega
  have LH:=uk (j:=j) zN Ar wZ.1 (by omega) (by omega) aH
  have db:0<val v:=by omega
  have h95:=acD u v j (n+1) zN Ar wZ.1 (by omega) (by omega) (by omega) wZ.2 aH
  have lA:=Nat.mod_lt (fB u j (n+1+1)) db
  have hVB:val v<=B^(n+1+1):=by
   have h9:=bF Ar;rw[wZ.1] at h9;exact gD (Nat.le_of_lt h9) (Nat.pow_le_pow_right (by decide) (by omega))
  have hsg:=Hv (u:=u) (j:=j) (m:=n+1+1) (x:=fB u j (n+1+1) % val v) (by omega) (Nat.lt_of_lt_of_le lA hVB)
  have mW:=zS (u:=u) (j:=j) (m:=n+1+1) (x:=fB u j (n+1+1) % val v) (by omega)
  have hpd:=Hu (j:=j) (m:=n+1+1) (x:=fB u j (n+1+1) % val v) zN
  have zO: ∀ t,(t<j\/j+(n+1+1)<=t)->(jH u j (n+1+1) (fB u j (n+1+1) % val v)).getD t 0=u.getD t 0:=fun t Je=>Eg (by omega) Je
  have hgB:fB u j (n+1+1) / val v<4294967296:=by
   rw[Nat.div_lt_iff_lt_mul db,Nat.mul_comm];exact LH.lt
  have wX:=Nat.mod_add_div (fB u j (n+1+1)) (val v)
  rw[Nat.mul_comm] at wX
  obtain⟨w,hw4⟩:=aw (jH u j (n+1+1) (fB u j (n+1+1) % val v))
  obtain⟨g,hg⟩:=aw (fB u j (n+1+1) / val v)
  rw[hw4] at hsg mW hpd zO
  rw[hg] at hgB wX
  rw[hw4,hg,zo] at h95
  rw[<-hsg] at wX lA
  have hr:=rF (u:=u) (u4:=w) (qd:=qd) (j:=j) (n:=n+1) (g:=g) (V:=val v) mW (by omega) (by omega) zO LH.tail wX lA bO
  refine ae wu ?_
  refine iD 0 h95 trivial ?_
  have hsh:shutBs [Ob.row true (u32s u),Ob.row true (u32s qd)] 0 [PV.lsl 0 0 (la+1) 1,PV.fv (FV.sl (u32s v)),PV.int IntKind.i64 (j:Int)]=[Ob.row true (u32s u),Ob.row true (u32s qd)]:=rfl
  refine ae (aQ hsh @List.append_nil.{0}) ?_
  repeat refine ag ?_
  refine ax (j,qd.set j g,w) ?_ ⟨by omega,by omega,by simp[I7],hpd,hqd.set _ (by simp only[B];omega),hr.2,hr.1⟩
  exact bN [0,1]
 intro h7 h8
 have wu:j1=0:=by omega
 subst wu
 rw[List.drop_zero] at aH
 rw[List.drop_zero,Nat.pow_zero,Nat.one_mul] at bO
 have zt:=Ef (hvv.trans hV.symm) (Nat.two_pow_pos s) bO aH
 refine ae h8 ?_
 refine gp (eZ qd hqd (by omega)) ?_ ?_
 .simp[cC,iw,gj,fP,aM,I7]
  rw[eE (by simp[aM,I7])]
 refine a9 ?_
 refine gp (acC u s zN (by omega) hs) ?_ ?_
 .simp[cC,iw,gj,fP,aM,zo]
  rw[eE (by simp[aM,zo])]
 refine a9 ?_
 refine bg ?_
 rw[zt.1,zt.2]
 exact Hd
theorem acE (a b:List Nat) (ha:Dig a) (hb:Dig b) (wo:a.length<10000000000) (wW:b.length<10000000000):
 Den Tryz.prog 171 [] [.fv (.sl (u32s a)),.fv (.sl (u32s b))] [] (.fv (N (Nat.gcd (val a) (val b)))):=by
 have Zy:=aB (bF ha)
 have Ns:=aB (bF hb)
 refine dq Tryz.func171 23 0 ?_
 refine aX ?_
 refine gp (eZ a ha (by omega)) rfl ?_
 refine a9 ?_
 refine gp (eZ b hb (by omega)) rfl ?_
 refine ae @dc ?_
 generalize hg:Nat.gcd (val a) (val b)=g
 refine wl (α:=Nat×Nat) (fun⟨x,y⟩=>⟨.fv (.sl (u32s (ai x))):: .fv (.sl (u32s (ai y))):: .any:: .any:: .nilsl::replicate 20 .any,[]⟩)
  (fun⟨_,y⟩=>y) (fun⟨x,y⟩=>(ai x).length<10000000000/\(ai y).length<10000000000/\Nat.gcd x y=g) (val a,val b) ?_ ?_ ?_
 .exact bN []
 .exact⟨by omega,by omega,hg⟩
 rintro⟨x,y⟩ ⟨hx,hy,Hf⟩
 refine aX ?_
 refine bR ?_ ?_
 .intro h5 h6
  have tS:y≠0:=fun h=>by rw[h,bx] at h5;simp at h5
  have h80:=OQ (ai x) (ai y) (ao _) (ao _) hx hy (by rw[aj];exact tS)
  rw[aj,aj,dc,dc] at h80
  refine ae h6 ?_
  refine aW h80 ?_
  refine a9 ?_
  have aH:=Nat.mod_lt x (Nat.pos_of_ne_zero tS)
  refine ap (y,x % y) (by exact aH) ?_ ⟨hy,Hr (b' (Nat.le_of_lt aH)) hy,?_⟩
  .exact bN []
  rw[<-Hf,Nat.gcd_comm y,<-Nat.gcd_rec,Nat.gcd_comm]
 intro h5 h6
 have tS:y=0:=fR (by omega)
 subst tS
 refine ae h6 ?_
 refine bg ?_
 rw[Nat.gcd_zero_right] at Hf
 refine Dy Hf ?_
 rfl
theorem LM {s:Bool} {n d:Nat} (hd:d≠0):FR (gP s n d)= .agg [.bool (s&&decide (((ai (n / Nat.gcd n d)).length:Int)>0)),.fv (N (n / Nat.gcd n d)),.fv (N (d / Nat.gcd n d))]:=by
 by_cases hn:n=0
 .subst hn;rw[me rfl,FR,Cn,Nat.gcd_zero_left,Nat.zero_div,Nat.div_self (by omega)];have h1:ai 1=[1]:=mc (l:=[1]) (fun d hd=>by simp at hd;subst hd;decide) (Or.inr (by decide));unfold N Raw.v;rw[bx,h1];simp[u32s]
 obtain⟨h1,h2,h3⟩:=AQ (s:=s) hn hd;rw[bk,h1,h2,h3];have h4:n / Nat.gcd n d≠0:=by
  have:=Nat.div_pos (Nat.le_of_dvd (by omega) (Nat.gcd_dvd_left n d)) (Nat.gcd_pos_of_pos_left d (by omega));omega
 have h5:((ai (n / Nat.gcd n d)).length:Int)≠0:=fun h=>h4 (d7.1 h)
 rw[ib (show((ai (n / Nat.gcd n d)).length:Int)>0 by omega),Bool.and_true]
theorem AW (s:Bool) (n d:List Nat) (hn:Dig n) (hd:Dig d) (qQ:n.length<10000000000) (DZ:d.length<10000000000) (gg:val d≠0):
 Den Tryz.prog 123 [] [.bool s,.fv (.sl (u32s n)),.fv (.sl (u32s d))] [] (FR (gP s (val n) (val d))):=by
 have Xk:=aB (bF hd)
 have Au:Nat.gcd (val n) (val d)<=val d:=Nat.le_of_dvd (by omega) (Nat.gcd_dvd_right _ _)
 have vS:Nat.gcd (val n) (val d)≠0:=by
  have:=Nat.gcd_pos_of_pos_right (val n) (show 0<val d by omega);omega
 have wY:=b' Au
 have Hk:=acE n d hn hd qQ DZ
 rw[LM gg]
 obtain⟨g,hg⟩:=aw (Nat.gcd (val n) (val d))
 rw[hg] at Hk vS wY ⊢
 have Vg:=OQ n (ai g) hn (ao _) qQ (by omega) (by rw[aj];exact vS)
 have ZE:=OQ d (ai g) hd (ao _) DZ (by omega) (by rw[aj];exact vS)
 rw[aj] at Vg ZE
 obtain⟨x,hx⟩:=aw (val n / g)
 rw[dc] at Hk
 rw[hx,dc x] at Vg ⊢
 cases s
 .refine dq Tryz.func123 37 0 ?_
  refine aX ?_
  refine aW Hk ?_
  refine a9 ?_
  refine aW Vg ?_
  refine a9 ?_
  refine aW ZE ?_
  refine a9 ?_
  refine bg rfl
 refine dq Tryz.func123 37 0 ?_
 refine aX ?_
 refine aW Hk ?_
 refine a9 ?_
 refine aW Vg ?_
 refine a9 ?_
 refine aW ZE ?_
 refine a9 ?_
 refine bg rfl
theorem nY (r:Raw) (hr:r.Ok 5000000000):Den Tryz.prog 121 [] [r.v] [] (FR r.q):=by
 have B':=eZ r.den hr.den (by have:=hr.lden;omega);rw[dc] at B';by_cases h0:val r.den=0
 .have hq:r.q=0:=xj h0;rw[h0,bx] at B';rw[hq,FR,Cn];unfold Raw.v;have hz:(((0:Nat):Int)==0)=true:=rfl;have hl:(u32s []).length=0:=rfl;have qP:([]:List Nat).length=0:=rfl;refine dq Tryz.func121 16 0 ?_;refine aX ?_;refine aW B' ?_;refine ae (aQ hl hz) ?_;refine bg rfl
 have Ca:=AW r.neg r.num r.den hr.num hr.den (by have:=hr.lnum;omega) (by have:=hr.lden;omega) h0;change Den Tryz.prog 123 [] _ [] (FR r.q) at Ca;have hz:(((ai (val r.den)).length:Int)==0)=false:=by rw[qx];exact fun h=>h0 (d7.1 h)
 rw[bk] at Ca ⊢;unfold Raw.v;refine dq Tryz.func121 16 0 ?_;refine aX ?_;refine aW B' ?_;refine ae hz ?_;refine aW Ca ?_;refine a9 ?_;refine bg rfl
theorem JT (r:Raw) (hr:r.Ok 5000000000):Den Tryz.prog 63 [] [r.v] [] (.int .i64 (gk r.q)):=by
 have oG:=nY r hr;rw[bk] at oG;unfold Raw.v at oG ⊢;obtain⟨n,hn⟩:=aw r.q.num.natAbs;rw[hn,dc] at oG;refine dq Tryz.func63 10 0 ?_;refine aX ?_;refine aW oG ?_;refine a9 ?_;refine Br.beqInt ?_ ?_
 .intro h1 h2;have hs:=Eh (hn.trans (d7.1 h1));refine ae h2 ?_;refine bg ?_;exact lX hs
 intro h1 h2;refine ae h2 ?_;refine bR ?_ ?_
 .intro h3 h4;have hs:=Cq h3;refine ae h4 ?_;refine bg ?_;exact lX hs
 intro h3 h4;have hs:=Cr (q:=r.q) (fun h=>h1 (d7.2 (hn.symm.trans h))) h3;refine ae h4 ?_;refine bg ?_;exact lX hs
theorem acF (r:Raw) (hr:r.Ok 5000000000):Den Tryz.prog 122 [] [r.v] [] (FR (-r.q)):=by
 have oG:=nY r hr;rw[bk] at oG;rw[OM];unfold Raw.v at oG ⊢;obtain⟨n,hn⟩:=aw r.q.num.natAbs;obtain⟨s,hs⟩:=aw (decide (r.q.num<0));obtain⟨d,hd⟩:=aw (N r.q.den);rw[hn,hs,hd,dc] at oG;rw[hn,hs,hd,dc];refine dq Tryz.func122 15 0 ?_;refine aX ?_;refine aW oG ?_;cases s
 .have e1:(!false)=true:=rfl;refine ae e1 ?_;refine bg rfl
 have e1:(!true)=false:=rfl;refine ae e1 ?_;refine bg rfl
end Go.Proofs.YtjjbkjgifdhlcaaGreat
