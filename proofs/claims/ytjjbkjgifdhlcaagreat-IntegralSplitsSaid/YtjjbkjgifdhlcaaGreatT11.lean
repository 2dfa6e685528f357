/- Contracts:math/bits.Len32,LeadingZeros32. -/
import Derived.Test.YtjjbkjgifdhlcaaGreatT10
import Derived.Lib.Tables
import Derived.Test.YtjjbkjgifdhlcaaGreatT8
import Derived.Test.YtjjbkjgifdhlcaaGreatT1
set_option linter.all false
open Nat (reduceAdd)
open List (getElem?_eq_none getElem?_set_ne getElem?_take length_drop length_eq_one_iff length_take nodup_nil replicate take_succ_eq_append_getElem)
namespace Go.Proofs.YtjjbkjgifdhlcaaGreat
open Go.AM Go.Pl
set_option maxRecDepth 100000
set_option maxHeartbeats 1000000
def dZ (n:Nat):Nat:=if n=0 then 0 else Nat.log2 n+1
theorem Eh: ∀ n:Fin 256,(((Lib.len8tab[n.val]?).getD 0).toNat:Nat)=dZ n.val:=by decide+kernel
theorem mh {s:ByteArray}:PV.ofValue (.string s)= .fv (.lit (.string s)):=rfl
theorem Ei:(⟨List.toArray (List.append (List.append [0,1,2,2,3,3,3,3,4,4,4,4,4,4,4,4,5,5,5,5,5,5,5,5,5,5,5,5,5,5,5,5,6,6,6,6,6,6,6,6,6,6,6,6,6,6,6,6,6,6,6,6,6,6,6,6,6,6,6,6,6,6,6,6] [7,7,7,7,7,7,7,7,7,7,7,7,7,7,7,7,7,7,7,7,7,7,7,7,7,7,7,7,7,7,7,7,7,7,7,7,7,7,7,7,7,7,7,7,7,7,7,7,7,7,7,7,7,7,7,7,7,7,7,7,7,7,7,7]) (List.append [8,8,8,8,8,8,8,8,8,8,8,8,8,8,8,8,8,8,8,8,8,8,8,8,8,8,8,8,8,8,8,8,8,8,8,8,8,8,8,8,8,8,8,8,8,8,8,8,8,8,8,8,8,8,8,8,8,8,8,8,8,8,8,8] [8,8,8,8,8,8,8,8,8,8,8,8,8,8,8,8,8,8,8,8,8,8,8,8,8,8,8,8,8,8,8,8,8,8,8,8,8,8,8,8,8,8,8,8,8,8,8,8,8,8,8,8,8,8,8,8,8,8,8,8,8,8,8,8]))⟩:ByteArray)=Lib.len8tab:=by kernel_rfl
theorem OE {n:Nat} (h:1<=n):dZ n=1+dZ (n / 2):=by
 unfold dZ;rw[if_neg (by omega),Nat.log2_def];split
 .rw[if_neg (by omega)];omega
 have:n / 2=0:=by omega
 rw[if_pos this]
theorem rG {n:Nat} (k:Nat) (h:2^k<=n):dZ n=k+dZ (n / 2^k):=by
 induction k generalizing n with
 | zero=>simp
 | succ k ih=>
  have hk:=Nat.two_pow_pos k;rw[Nat.pow_succ] at h ⊢;rw[OE (by omega),ih (n:=n / 2) (by omega),Nat.div_div_eq_div_mul,Nat.mul_comm 2];omega
theorem XM (x:Nat) (hx:x<4294967296):Den Tryz.prog 244 [] [.int .u32 x] [] (.int .i64 (dZ x:Int)):=by
 have h8: ∀ n:Nat,n<256->(((Lib.len8tab[n]?).getD 0).toNat:Nat)=dZ n:=fun n hn=>Eh ⟨n,hn⟩
 have dX:Lib.len8tab.size=256:=Lib.len8tab_size;have fin: ∀ (b y:Nat),y<256->b<=24->dZ x=b+dZ y->dZ y<100->True:=fun _ _ _ _ _ _=>trivial
 have hb8: ∀ n:Nat,n<256->dZ n<=8:=by
  intro n hn;have: ∀ m:Fin 256,dZ m.val<=8:=by decide+kernel
  exact this ⟨n,hn⟩
 refine dq Tryz.func244 18 0 ?_;refine aY ?_;refine bS ?_ ?_
 .intro h1 h2;have e1:=rG (n:=x) 16 (by omega);have c1:(x:Int) / 65536=((x / 65536:Nat):Int):=by rw[Int.natCast_ediv];rfl
  have e1':dZ x=16+dZ (x / 65536):=e1;have hy:x / 65536<65536:=by omega
  generalize x / 65536=y at*;refine ae (aP h2 c1) ?_;refine⟨by omega,?_⟩;refine bS ?_ ?_
  .intro h3 h4;have e2:dZ y=8+dZ (y / 256):=rG (n:=y) 8 (by omega);have c2:(y:Int) / 256=((y / 256:Nat):Int):=by rw[Int.natCast_ediv];rfl
   have hz:y / 256<256:=by omega
   generalize y / 256=z at*;have:=hb8 z hz;refine ae (im h4 c2 @Ei @mh h8) ?_;refine⟨by omega,by rw[dX];omega,?_⟩;refine bj ?_;refine qR ?_;rw[e1',e2];simp;omega
  intro h3 h4;have:=hb8 y (by omega);refine ae (eg h4 @Ei @mh h8) ?_;refine⟨by rw[dX];omega,?_⟩;refine bj ?_;refine qR ?_;rw[e1'];simp
 intro h1 h2;refine ae h2 ?_;refine bS ?_ ?_
 .intro h3 h4;have e2:dZ x=8+dZ (x / 256):=rG (n:=x) 8 (by omega);have c2:(x:Int) / 256=((x / 256:Nat):Int):=by rw[Int.natCast_ediv];rfl
  have hz:x / 256<256:=by omega
  generalize x / 256=z at*;have:=hb8 z hz;refine ae (im h4 c2 @Ei @mh h8) ?_;refine⟨by omega,by rw[dX];omega,?_⟩;refine bj ?_;refine qR ?_;rw[e2];simp
 intro h3 h4;have:=hb8 x (by omega);refine ae (eg h4 @Ei @mh h8) ?_;refine⟨by rw[dX];omega,?_⟩;refine bj ?_;refine qR ?_;simp
theorem JP {x:Nat} (hx:x<4294967296):dZ x<=32:=by
 unfold dZ;split
 .omega
 have:x.log2<32:=(Nat.log2_lt (by omega)).2 (by omega);omega
theorem XN (x:Nat) (hx:x<4294967296):Den Tryz.prog 248 [] [.int .u32 x] [] (.int .i64 ((32 - dZ x:Nat):Int)):=by
 have hb:=JP hx;refine dq Tryz.func248 5 0 ?_;refine aY ?_;refine gp (XM x hx) rfl ?_;refine ba ?_;refine bj ?_;refine qR ?_;simp;omega
theorem Wg (l:List Nat) (hl:Dig l) (oP:l.length<=2):Den Tryz.prog 215 [] [.fv (.sl (u32s l))] [] (.int .u64 ((val l:Nat):Int)):=by
 refine dq Tryz.func215 21 0 ?_;refine aY ?_;refine wl (α:=Nat) (fun i=>⟨.fv (.sl (u32s l)):: .any:: .fv (.lit (.int .u64 0)):: .int .u64 ((val (l.take i):Nat):Int):: .any:: .any:: .fv (.sl (u32s l)):: .int .i64 l.length:: .int .i64 i::replicate 13 .any,[]⟩)
  (fun i=>l.length - i) (fun i=>i<=l.length) 0 ?_ ?_ ?_
 .refine eS [] ?_ ?_
  .simp[bk,dV,cC,val]
  trivial
 .omega
 intro i hi;refine aY ?_;refine bS ?_ ?_
 .intro h1 h2;have hx:=hl.getD i;have gv:=aJ l i;have hvt:=bG (hl.take i);rw[length_take,Nat.min_eq_left hi] at hvt;simp only[B] at hx;have iq:i=0\/i=1:=by omega
  rcases iq with rfl | rfl
  .generalize DI:l.getD 0 0=x at*;have ht0:val (l.take 0)=0:=by simp[val]
   rw[ht0] at gv ⊢;refine ae (im DI @vy @Int.natCast_zero @Int.mul_zero @Int.toNat_zero) ?_;refine⟨by omega,by omega,?_⟩;refine aw 1 ?_ (by omega);refine eS [] ?_ ?_
   .have:(x:Int)=((val (l.take 1):Nat):Int):=by rw[gv];simp
    simp[bk,dV,cC,<-this]
   trivial
  generalize DI:l.getD 1 0=x at*;generalize val (l.take 1)=v at*;have hv:v<4294967296:=by simpa using hvt
  refine ae (eg DI @Wd @Int.natCast_one @Int.mul_one) ?_;refine⟨by omega,by omega,?_⟩;refine aw 2 ?_ (by omega);refine eS [] ?_ ?_
  .have:(v:Int)+x*4294967296=((val (l.take 2):Nat):Int):=by rw[gv];simp[B,Int.mul_comm]
   simp[bk,dV,cC,<-this]
  trivial
 intro h1 h2;refine ae h2 ?_;have dW:i=l.length:=by omega
 refine bj ?_;refine qR ?_;rw[dW,aQ (qp _)]
end Go.Proofs.YtjjbkjgifdhlcaaGreat
namespace Go.Pl
theorem xd {w v first low top vl P:Nat} (_:0<P) (hw:w=first*P+low) (hl:low<P) (hv:v=top*P+vl) {q:Nat} (hq:q*v<=w):q*top<=first:=by
 have h1:q*top*P<=q*v:=by
  rw[hv,Nat.mul_add,Nat.mul_assoc];exact Nat.le_add_right _ _
 have h2:q*top*P<(first+1)*P:=by
  rw[Nat.add_mul,Nat.one_mul];omega
 have:=Nat.lt_of_mul_lt_mul_right h2;omega
theorem SP {w v w2 v2 lw lv Q g:Nat} (hw:w=w2*Q+lw) (hv:v=v2*Q+lv) (hl:lv<Q) (hg:g*v2<=w2) (oJ:g<=v2):(g - 1)*v<=w:=by
 rcases Nat.eq_zero_or_pos g with h0 | h0
 .subst h0;simp
 obtain⟨k,rfl⟩: ∃ k,g=k+1:=⟨g - 1,by omega⟩;rw[Nat.add_sub_cancel,hw,hv];have h1:k*lv<=k*Q:=Nat.mul_le_mul_left _ (by omega);have h2:(k+1)*v2*Q<=w2*Q:=qn _ hg;have h3:k*Q<=v2*Q:=qn _ (by omega);have h4:(k+1)*v2*Q=k*(v2*Q)+v2*Q:=by grind
 rw[Nat.mul_add];omega
structure vz (first top q g r:Nat):Prop where
 sum:g*top+r=first
 low:q<=g
theorem Ej {first top q:Nat} (ht:0<top) (h:q*top<=first):vz first top q (first / top) (first % top):=
 ⟨by have:=Nat.div_add_mod first top;rw[Nat.mul_comm] at this;exact this,(Nat.le_div_iff_mul_le ht).2 h⟩
theorem wC {first top q g r:Nat} (h:vz first top q g r) (aH:q<g):vz first top q (g - 1) (r+top):=by
 obtain⟨k,rfl⟩: ∃ k,g=k+1:=⟨g - 1,by omega⟩;refine⟨?_,by omega⟩;have:=h.sum;rw[Nat.add_mul,Nat.one_mul] at this;rw[Nat.add_sub_cancel];omega
theorem JQ {w v w2 first u2 top second lw lv Q q g r:Nat} (hQ:0<Q) (hw:w=w2*Q+lw) (hlw:lw<Q) (NA:w2=first*4294967296+u2) (hv:v=(top*4294967296+second)*Q+lv) (hq:q*v<=w)
 (h:vz first top q g r) (ht:r*4294967296+u2<g*second):q<g:=by
 rcases Nat.lt_or_ge q g with h1 | h1
 .exact h1
 exfalso
 have h2:=xd hQ hw hlw hv hq
 have h3:g*(top*4294967296+second)<=q*(top*4294967296+second):=qn _ h1
 have h4:=h.sum
 have h5:g*(top*4294967296+second)=(g*top)*4294967296+g*second:=by grind
 omega
theorem pU {first u2 top second g r q:Nat} (h:vz first top q g r) (ht:g*second<=r*4294967296+u2):g*(top*4294967296+second)<=first*4294967296+u2:=by
 have h4:=h.sum;have h5:g*(top*4294967296+second)=(g*top)*4294967296+g*second:=by grind
 omega
theorem Cw {first top second g r q:Nat} (h:vz first top q g r) (hr:4294967296<=r) (hf:first<=top*4294967296+4294967295) (hs:second<4294967296):g<4294967296/\g*second<=r*4294967296:=by
 have h4:=h.sum;have h1:g*top<4294967296*top:=by omega
 have hg:g<4294967296:=Nat.lt_of_mul_lt_mul_right h1;refine⟨hg,?_⟩;have h2:g*second<=r*second:=qn _ (by omega);have h3:r*second<=r*4294967296:=Nat.mul_le_mul_left _ (by omega);exact gI h2 h3
theorem OG {first top:Nat} (ht:2147483648<=top) (hf:first<=top*4294967296+4294967295):first / top<=4294967297:=by
 have:first / top<4294967298:=by
  rw[Nat.div_lt_iff_lt_mul (by omega)];omega
 omega
end Go.Pl
namespace Go.Pl
open Go.AM
def fG (u:List Nat) (j i:Nat):Nat:=val ((u.drop j).take i)
theorem Hx (u:List Nat) (j i:Nat):(u.drop j).getD i 0=u.getD (j+i) 0:=by
 simp[qa,List.getElem?_drop]
theorem sH (u:List Nat) (j:Nat):fG u j 0=0:=by simp[fG,val]
theorem jh (u:List Nat) (j i:Nat):fG u j (i+1)=fG u j i+B^i*u.getD (j+i) 0:=by
 unfold fG;rw[aJ,Hx]
theorem jb {u:List Nat} {j i:Nat} (h:j+i<u.length) (x:Nat):fG (u.set (j+i) x) j (i+1)=fG u j i+B^i*x:=by
 unfold fG;have h1:(u.set (j+i) x).drop j=(u.drop j).set i x:=by
  rw[List.drop_set];rw[if_neg (by omega),Nat.add_sub_cancel_left]
 rw[h1,cy (by rw[length_drop];omega)]
theorem uo {u:List Nat} (hu:Dig u) (j i:Nat):fG u j i<B^i:=by
 unfold fG;have h:=bG ((hu.drop j).take i);have h2:((u.drop j).take i).length<=i:=by rw[length_take];omega
 exact Nat.lt_of_lt_of_le h (Nat.pow_le_pow_right (by decide) h2)
theorem JR {u:List Nat} {j n:Nat} (h:j+n<=u.length):val u=val (u.take j)+B^j*(fG u j n+B^n*val (u.drop (j+n))):=by
 rw[jg u j (by omega)];congr 2;rw[jg (u.drop j) n (by rw[length_drop];omega)];unfold fG;rw[List.drop_drop]
theorem Wh {a c b:Int}:IntKind.u64.wrap (IntKind.u64.wrap (a - c) - b)=(a - c - b) % 18446744073709551616:=by
 rw[qK,qK];omega
theorem Ek {a c b:Nat} (ha:a<4294967296) (hc:c<4294967296) (hb:b<=1):
 ∃ d b2:Nat,d<4294967296/\b2<=1/\d+c+b=a+b2*4294967296/\((a:Int) - c - b) % 18446744073709551616 % 4294967296=(d:Int)/\((a:Int) - c - b) % 18446744073709551616 / 9223372036854775808=(b2:Int):=by
 by_cases h:c+b<=a
 .exact⟨a - (c+b),0,by omega,by omega,by omega,by omega,by omega⟩
 exact⟨a+4294967296 - (c+b),1,by omega,by omega,by omega,by omega,by omega⟩
theorem ji {S S0 P g Vt v c b a d b2:Nat} (hv:S+g*Vt=S0+(c+b)*P) (h:d+(c+g*v) % 4294967296+b=a+b2*4294967296):
 S+P*d+g*(Vt+P*v)=S0+P*a+((c+g*v) / 4294967296+b2)*(P*4294967296):=by
 have h1:=Nat.mod_add_div (c+g*v) 4294967296
 generalize (c+g*v) % 4294967296=lo at*
 generalize (c+g*v) / 4294967296=hi at*
 have h2:P*d+P*lo+P*b=P*a+b2*(P*4294967296):=by
  have:=congrArg (P* ·) h;grind
 have h3:P*lo+hi*(P*4294967296)=P*c+g*(P*v):=by
  have:=congrArg (P* ·) h1;grind
 have h4:(c+b)*P=P*c+P*b:=by grind
 have h5:(hi+b2)*(P*4294967296)=hi*(P*4294967296)+b2*(P*4294967296):=by rw[Nat.add_mul]
 rw[h5,Nat.mul_add g]
 omega
theorem El {W W1 g V:Nat} (h:W1+g*V=W) (hq:W<(g+1)*V):W1<V:=by
 rw[Nat.add_mul,Nat.one_mul] at hq;omega
theorem xe {W W1 W2 g V M c:Nat} (hV:V<=M) (h:W1+g*V=W+M) (hg:0<g) (AB:(g - 1)*V<=W) (fL:W<g*V) (h2:W2+c*M=W1+V) (hW2:W2<M):W2+(g - 1)*V=W/\W2<V:=by
 obtain⟨k,rfl⟩: ∃ k,g=k+1:=⟨g - 1,by omega⟩;rw[Nat.add_sub_cancel] at*;rw[Nat.add_mul,Nat.one_mul] at h fL;have h3:W2+c*M+k*V=W+M:=by omega
 rcases Nat.lt_trichotomy c 1 with hc | hc | hc
 .have:c=0:=by omega
  subst this;omega
 .subst hc;omega
 exfalso;have:2*M<=c*M:=qn _ hc;omega
theorem Em {u:List Nat} {j n:Nat} (h:j+n<=u.length):val (u.drop j)=fG u j n+B^n*val (u.drop (j+n)):=by
 unfold fG;rw[jg (u.drop j) n (by rw[length_drop];omega),List.drop_drop]
theorem sI {u w:List Nat} {j:Nat} (hl:u.length=w.length) (h: ∀ t,j<=t->u.getD t 0=w.getD t 0):u.drop j=w.drop j:=by
 apply List.ext_getElem?;intro i;rw[List.getElem?_drop,List.getElem?_drop];have:=h (j+i) (by omega);by_cases hi:j+i<u.length
 .have hw:j+i<w.length:=by omega
  simp[hi,hw] at this;rw[qb hi,qb hw,this]
 rw[getElem?_eq_none (by omega),getElem?_eq_none (by omega)]
theorem sJ {u w:List Nat} {j:Nat} (hl:u.length=w.length) (h: ∀ t,t<j->u.getD t 0=w.getD t 0):u.take j=w.take j:=by
 apply List.ext_getElem?;intro i;rw[getElem?_take,getElem?_take];split
 .have:=h i (by omega);by_cases hi:i<u.length
  .have hw:i<w.length:=by omega
   simp[hi,hw] at this;rw[qb hi,qb hw,this]
  rw[getElem?_eq_none (by omega),getElem?_eq_none (by omega)]
 rfl
theorem XO {s0 a1 a2 P:Nat}:s0+P*a2+P*4294967296*a1=(a1*4294967296+a2)*P+s0:=by grind
theorem XP {f P s a:Nat}:f*(P*4294967296)+(s+P*a)=(f*4294967296+a)*P+s:=by grind
theorem OH {V W f s r t P:Nat} (hk:V=t*P+r) (hr:r<P) (hW:W<V*4294967296) (hf:W=f*P+s):f<=t*4294967296+4294967295:=by
 have h4:V*4294967296<=(t*P+P)*4294967296:=qn _ (by omega);have h5:(t*P+P)*4294967296=(t*4294967296+4294967296)*P:=by grind
 have h6:f*P<(t*4294967296+4294967296)*P:=by omega
 have:=Nat.lt_of_mul_lt_mul_right h6;omega
theorem XQ {d0 d1 V:Nat} (h0:d0<4294967296) (h:d1<V):d0+4294967296*d1<V*4294967296:=by omega
theorem SQ {s P x M:Nat} (h:s+P*x<M) (hM:M<=P):x=0:=by
 rcases Nat.eq_zero_or_pos x with h1 | h1
 .exact h1
 exfalso;have:P*1<=P*x:=Nat.mul_le_mul_left _ h1;omega
structure En (u v:List Nat) (j n:Nat):Prop where
 all:val (u.drop j)=fG u j (n+1)
 tail:val (u.drop (j+n+1))=0
 h1:fG u j (n+1)=(u.getD (j+n) 0*4294967296+u.getD (j+n - 1) 0)*B^(n - 1)+fG u j (n - 1)
 h2:fG u j (n+1)=((u.getD (j+n) 0*4294967296+u.getD (j+n - 1) 0)*4294967296+u.getD (j+n - 2) 0)*B^(n - 2)+fG u j (n - 2)
 v1:val v=v.getD (n - 1) 0*B^(n - 1)+val (v.take (n - 1))
 v2:val v=(v.getD (n - 1) 0*4294967296+v.getD (n - 2) 0)*B^(n - 2)+val (v.take (n - 2))
 lt:fG u j (n+1)<val v*B
 first:u.getD (j+n) 0*4294967296+u.getD (j+n - 1) 0<=v.getD (n - 1) 0*4294967296+4294967295
 l1:val (v.take (n - 1))<B^(n - 1)
 l2:val (v.take (n - 2))<B^(n - 2)
 s1:fG u j (n - 1)<B^(n - 1)
 s2:fG u j (n - 2)<B^(n - 2)
theorem uq {u v:List Nat} {j n:Nat} (hu:Dig u) (hv:Dig v) (hvl:v.length=n) (hn:2<=n) (hj:j+n+1<=u.length) (aH:val (u.drop (j+1))<val v):En u v j n:=by
 obtain⟨p,rfl⟩: ∃ p,n=p+2:=⟨n - 2,by omega⟩;have hV:=bG hv;rw[hvl] at hV;have hf:=Em (u:=u) (j:=j) (n:=p+2+1) (by omega);have hd:=eD (l:=u) (j:=j) (by omega);have wt:u.getD j 0<4294967296:=hu.getD j;have hW:val (u.drop j)<val v*4294967296:=by
  rw[hd];exact XQ wt aH
 have hW2:val v*4294967296<=B^(p+2+1):=by
  rw[Nat.pow_succ];exact qn _ (Nat.le_of_lt hV)
 have ht:val (u.drop (j+(p+2+1)))=0:=by
  rw[hf] at hW;exact SQ hW hW2
 have sr:val (u.drop j)=fG u j (p+2+1):=by
  rw[hf,ht,Nat.mul_zero,Nat.add_zero]
 have c1:p+2 - 1=p+1:=by omega
 have c2:p+2 - 2=p:=by omega
 have c3:j+(p+2) - 1=j+(p+1):=by omega
 have c4:j+(p+2) - 2=j+p:=by omega
 have e1:=jh u j (p+2);have e2:=jh u j (p+1);have e3:=jh u j p;have w1:=aJ v (p+1);have w2:=aJ v p;have w0:val (v.take (p+1+1))=val v:=aQ (by omega);have Ch: ∀ i,B^(i+1)=B^i*4294967296:=fun i=>Nat.pow_succ _ _
 have g1:fG u j (p+2+1)=(u.getD (j+(p+2)) 0*4294967296+u.getD (j+(p+1)) 0)*B^(p+1)+fG u j (p+1):=by
  rw[e1,e2,Ch (p+1)];exact XO
 have k1:val v=v.getD (p+1) 0*B^(p+1)+val (v.take (p+1)):=by
  rw[<-w0,w1,Nat.add_comm,Nat.mul_comm]
 have q1:val (v.take (p+1))<B^(p+1):=by
  have:=bG (hv.take (p+1));rw[length_take,Nat.min_eq_left (by omega)] at this;exact this
 have q2:val (v.take p)<B^p:=by
  have:=bG (hv.take p);rw[length_take,Nat.min_eq_left (by omega)] at this;exact this
 refine⟨sr,ht,?_,?_,?_,?_,?_,?_,?_,?_,?_,?_⟩
 .rw[c1,c3];exact g1
 .rw[c2,c3,c4,g1,e3,Ch];exact XP
 .rw[c1];exact k1
 .rw[c1,c2,k1,w2,Ch];generalize B^p=P;grind
 .rw[<-sr];exact hW
 .rw[c1,c3];rw[sr] at hW;exact OH k1 q1 hW g1
 .rw[c1];exact q1
 .rw[c2];exact q2
 .rw[c1];exact uo hu _ _
 rw[c2];exact uo hu _ _
theorem rH {u u4 qd:List Nat} {j n A g V:Nat} (hl:u4.length=u.length) (hjn:j+n+1<=u.length) (hjq:j<qd.length)
 (qT: ∀ t,(t<j\/j+n+1<=t)->u4.getD t 0=u.getD t 0) (Xc:val (u.drop (j+n+1))=0)
 (hW:fG u4 j (n+1)+g*V=fG u j (n+1)) (aH:fG u4 j (n+1)<V) (bA:val u+V*(B^(j+1)*val (qd.drop (j+1)))=A):
 val u4+V*(B^j*val ((qd.set j g).drop j))=A/\val (u4.drop j)<V:=by
 have h1:u4.drop (j+n+1)=u.drop (j+n+1):=sI hl (fun t ht=>qT t (Or.inr ht))
 have h2:u4.take j=u.take j:=sJ hl (fun t ht=>qT t (Or.inl ht))
 have h3:=JR (u:=u) (j:=j) (n:=n+1) (by omega)
 have h4:=JR (u:=u4) (j:=j) (n:=n+1) (by omega)
 have h5:=Em (u:=u4) (j:=j) (n:=n+1) (by omega)
 rw[show j+(n+1)=j+n+1 by omega] at h3 h4 h5
 rw[h1,Xc] at h4 h5
 rw[Xc] at h3
 rw[Nat.mul_zero,Nat.add_zero] at h3 h4 h5
 have h6:=m6 (l:=qd) (j:=j) (x:=g) hjq
 refine⟨?_,by rw[h5];exact aH⟩
 rw[h6,h4,h2,<-bA,h3,<-hW,Nat.pow_succ]
 generalize val (u.take j)=x1
 generalize B^j=x2
 generalize fG u4 j (n+1)=x3
 generalize val (qd.drop (j+1))=x4
 grind
theorem j8 {u v:List Nat} {j n g:Nat} (h:En u v j n) (hg:g<4294967296) (wu:2147483648<=v.getD (n - 1) 0)
 (h2:g*(v.getD (n - 1) 0*4294967296+v.getD (n - 2) 0)<=(u.getD (j+n) 0*4294967296+u.getD (j+n - 1) 0)*4294967296+u.getD (j+n - 2) 0):
 (g - 1)*val v<=fG u j (n+1):=
 SP h.h2 h.v2 h.l2 h2 (by omega)
theorem LP {S1 S S0 U P g V c b x d b2:Nat} (bc:S1=S+P*d) (ua:U=S0+P*x) (jD:S+g*V=S0+(c+b)*P) (UN:d+c+b=x+b2*4294967296):
 S1+g*V=U+b2*(P*4294967296):=by
 have h1:P*d+P*c+P*b=P*x+b2*(P*4294967296):=by
  have:=congrArg (P* ·) UN;grind
 have h2:(c+b)*P=P*c+P*b:=by grind
 omega
theorem m7 {S S0 P Vt c z y cc:Nat} (hs:S+c*P=S0+Vt) (oK:c+(z+y)=cc):
 S+P*(cc % 4294967296)+cc / 4294967296*(P*4294967296)=S0+P*z+(Vt+P*y):=by
 have h1:=Nat.mod_add_div cc 4294967296
 have h2:P*(cc % 4294967296)+cc / 4294967296*(P*4294967296)=P*cc:=by
  have:=congrArg (P* ·) h1;grind
 have h3:P*cc=P*c+P*z+P*y:=by rw[<-oK];grind
 have h4:P*c=c*P:=Nat.mul_comm _ _
 omega
theorem Cx {S1 S U S0 P V c z:Nat} (bc:S1=S+P*((z+c) % 4294967296)) (ua:U=S0+P*z) (hs:S+c*P=S0+V):
 S1+(z+c) / 4294967296*(P*4294967296)=U+V:=by
 have h1:=Nat.mod_add_div (z+c) 4294967296
 have h2:P*((z+c) % 4294967296)+(z+c) / 4294967296*(P*4294967296)=P*(z+c):=by
  have:=congrArg (P* ·) h1;grind
 have h3:P*(z+c)=P*z+c*P:=by grind
 omega
theorem JS {w v g:Nat} (hv:0<v) (h:w / v<=g):w<(g+1)*v:=by
 rw[<-Nat.div_lt_iff_lt_mul hv];omega
theorem q8 {l:List Nat} {i k:Nat} (hk:k<=32) (hi:i<l.length):
 (l.getD i 0+l.getD (i+1) 0*4294967296) / 2^k % 4294967296=val (l.drop i) / 2^k % 4294967296:=by
 have h1:=eD hi
 have h2: ∃ r,val (l.drop (i+1))=l.getD (i+1) 0+B*r:=by
  by_cases h:i+1<l.length
  .exact⟨_,eD h⟩
  refine⟨0,?_⟩;rw[List.drop_of_length_le (by omega),qa,getElem?_eq_none (by omega)];rfl
 obtain⟨r,hr⟩:=h2
 have hb:4294967296=2^k*2^(32 - k):=by
  rw[<-Nat.pow_add,show k+(32 - k)=32 by omega]
 rw[h1,hr]
 generalize l.getD i 0=x
 generalize l.getD (i+1) 0=y
 have h3:x+B*(y+B*r)=x+y*4294967296+2^k*(2^(32 - k)*4294967296*r):=by
  have:2^k*(2^(32 - k)*4294967296*r)=(2^k*2^(32 - k))*4294967296*r:=by grind
  rw[this,<-hb];simp only[B];grind
 rw[h3,Nat.add_mul_div_left _ _ (Nat.two_pow_pos k)]
 have h4:2^(32 - k)*4294967296*r=4294967296*(2^(32 - k)*r):=by grind
 rw[h4,Nat.add_mul_mod_self_left]
theorem A0 (i x:Nat):ij (i+1) x=ij i x++[x / B^i % B]:=by
 induction i generalizing x with
 | zero=>simp[ij]
 | succ i ih=>
  rw[ij,ih]
  conv=>rhs;rw[ij]
  rw[Nat.div_div_eq_div_mul,Nat.pow_succ,Nat.mul_comm B];simp
theorem iv {l:List Nat} (hl:Dig l) {i:Nat} (hi:i<=l.length):val l / B^i=val (l.drop i):=by
 rw[jg l i hi];have h:=bG (hl.take i);rw[length_take,Nat.min_eq_left hi] at h;rw[Nat.add_mul_div_left _ _ (JI (by decide)),Nat.div_eq_of_lt h,Nat.zero_add]
theorem xf {x P V T K Bn Bm Bl:Nat} (hx:P<Bl) (hK:K<=T) (hV:T*Bn<=V) (hB:Bn*Bm=Bl) (US:x=P*K) (hT:0<T) (hm:0<Bm):x / Bm<V:=by
 rw[Nat.div_lt_iff_lt_mul hm,US];have h1:P*K<=P*T:=Nat.mul_le_mul_left _ hK;have h2:P*T<Bl*T:=Nat.mul_lt_mul_of_pos_right hx hT;have h3:T*Bn*Bm<=V*Bm:=qn _ hV;have h4:T*Bn*Bm=Bl*T:=by rw[<-hB];grind
 omega
theorem Eo {u q a b K V:Nat} (hV:V=b*K) (hK:0<K) (h:u+V*q=a*K) (hu:u<V):q=a / b/\u / K=a % b:=by
 have h1:q=a*K / V:=by rw[<-h,Nat.add_mul_div_left _ _ (by omega),Nat.div_eq_of_lt hu,Nat.zero_add]
 have h2:u=a*K % V:=by rw[<-h,Nat.add_mul_mod_self_left,Nat.mod_eq_of_lt hu]
 constructor
 .rw[h1,hV,Nat.mul_div_mul_right _ _ hK]
 rw[h2,hV,Nat.mul_mod_mul_right,Nat.mul_div_cancel _ hK]
end Go.Pl
namespace Go.Proofs.YtjjbkjgifdhlcaaGreat
open Go.AM Go.Pl
set_option maxRecDepth 100000
set_option maxHeartbeats 4000000
theorem SR (n:Nat):n<2^dZ n:=by
 unfold dZ;split
 .subst_vars;simp
 exact Nat.lt_log2_self
theorem OI {n:Nat} (h:n≠0):2^(dZ n - 1)<=n:=by
 unfold dZ;rw[if_neg h,Nat.add_sub_cancel];exact Nat.log2_self_le h
theorem XR (a b:List Nat) (k:Nat) (ha:Dig a) (hb:Dig b) (wm:a.length<10000000000) (NB:2<=b.length) (wT:b.length<=a.length)
 (hk:k=32 - dZ (b.getD (b.length - 1) 0)) (UT:k<32) (v:List Nat) (hv:ai (val b*2^k)=v) (hvl:v.length=b.length) (wu:2147483648<=v.getD (v.length - 1) 0):
 Den Tryz.prog 218 [] [.fv (.sl (u32s a)),.fv (.sl (u32s b))] [] (.tup [.fv (N (val a / val b)),.fv (N (val a % val b))]):=by
 have hbt:(((b.length:Nat):Int) - 1).toNat=b.length - 1:=by omega
 have vk:=hb.getD (b.length - 1)
 simp only[B] at vk
 have hkc:IntKind.u64.wrap ((k:Nat):Int)=(k:Int):=dI (by omega)
 have adZ:=XN (b.getD (b.length - 1) 0) vk
 rw[<-hk] at adZ
 have hsb:val (ij (b.length+1) (val b*2^k))=val b*2^k:=by
  apply ko;rw[Nat.pow_succ];exact Nat.mul_lt_mul'' (bG hb) (Nat.lt_of_lt_of_le (Nat.pow_lt_pow_right (by decide) UT) (by decide))
 have Sr:=iu (ij (b.length+1) (val b*2^k)) (kn _ _) (by rw[cD];omega)
 rw[hsb] at Sr
 refine dq Tryz.func218 249 0 ?_
 refine bU hbt ?_
 refine⟨by omega,?_⟩
 refine aV adZ ?_
 refine ae hkc ?_
 refine gp (OD a k ha (by omega) UT) rfl ?_
 refine ba ?_
 refine gp (OD b k hb (by omega) UT) rfl ?_
 refine ba ?_
 refine gp Sr ?_ ?_
 .simp[cw,gW,fS,fB,aM,cD]
  rw[eo (by simp[aM,cD])]
 simp -dsimp(disch:=omega) only[bE,hv,reduceAdd,ru]
 refine dw (by kernel_rfl) ?_
 obtain⟨n,hn⟩:=ax v.length
 have Ze:b.length=n:=by omega
 have kJ:((n:Int) - 1).toNat=n - 1:=by omega
 have ub:((n:Int) - 2).toNat=n - 2:=by omega
 have hlm:(((a.length+1:Nat):Int) - (n:Int)).toNat=a.length+1 - n:=by omega
 have AD:Dig v:=by rw[<-hv];exact ao _
 have Rv:=AD.getD (n - 1)
 have Rx:=AD.getD (n - 2)
 have hvv:val v=val b*2^k:=by rw[<-hv,aj]
 simp only[B] at Rv Rx
 rw[hn] at wu
 obtain⟨top,ht⟩:=ax (v.getD (n - 1) 0)
 obtain⟨sec,hs⟩:=ax (v.getD (n - 2) 0)
 obtain⟨m,hm⟩:=ax (a.length+1 - n)
 rw[ht] at Rv wu
 rw[hs] at Rx
 have hua:val (ij (a.length+1) (val a*2^k))=val a*2^k:=by
  apply ko;rw[Nat.pow_succ];exact Nat.mul_lt_mul'' (bG ha) (Nat.lt_of_lt_of_le (Nat.pow_lt_pow_right (by decide) UT) (by decide))
 refine ae (fw hn kJ ub ht hs hlm hm) ?_
 refine⟨by omega,by omega,by omega,?_⟩
 refine wl (α:=Nat×List Nat×List Nat) (fun⟨j1,qd,u⟩=>⟨.fv (.sl (u32s a)):: .fv (.sl (u32s b)):: .any:: .any:: .lsl 1 0 m 1:: .nilsl:: .int .u64 k:: .lsl 0 0 (a.length+1) 1:: .fv (.sl (u32s v)):: .int .i64 n:: .int .u64 top:: .int .u64 sec:: .int .i64 ((j1:Int) - 1)::replicate 238 .any,[.row true (u32s u),.row true (u32s qd)]⟩)
  (fun⟨j1,_,_⟩=>j1) (fun⟨j1,qd,u⟩=>j1<=m/\u.length=a.length+1/\qd.length=m/\Dig u/\Dig qd/\val (u.drop j1)<val v/\val u+val v*(B^j1*val (qd.drop j1))=val a*2^k) (m,replicate m 0,ij (a.length+1) (val a*2^k)) ?_ ?_ ?_
 .exact bQ [0,2]
 .refine⟨qp _,cD _ _,by simp,kn _ _,Dig.zeros,?_,?_⟩
  .rw[<-iv (kn _ _) (by rw[cD];omega),hua]
   have h1:=aJ v (n - 1)
   rw[aQ (by omega),ht] at h1
   refine xf (x:=val a*2^k) (P:=val a) (T:=2147483648) (K:=2^k) (Bn:=B^(n - 1)) (Bl:=B^a.length) (bG ha) (Nat.pow_le_pow_right (by decide) (show k<=31 by omega)) ?_ ?_ rfl (by decide) (JI (by decide))
   .rw[h1,Nat.mul_comm]
    exact gI (Nat.mul_le_mul_left _ wu) (Nat.le_add_left _ _)
   rw[<-Nat.pow_add];congr 1;omega
  rw[hua,List.drop_of_length_le (by simp)]
  simp[val]
 rintro⟨j1,qd,u⟩ ⟨Ss,zt,Ja,zY,hqd,aH,bA⟩
 refine aY ?_
 refine bS ?_ ?_
 .intro h1 h2
  obtain⟨j,rfl⟩: ∃ j,j1=j+1:=⟨j1 - 1,by omega⟩
  have i1:(((j+1:Nat):Int) - 1+(n:Int)).toNat=j+n:=by omega
  have i2:(((j+1:Nat):Int) - 1+(n:Int) - 1).toNat=j+n - 1:=by omega
  have i3:(((j+1:Nat):Int) - 1+(n:Int) - 2).toNat=j+n - 2:=by omega
  have i0:(((j+1:Nat):Int) - 1).toNat=j:=by omega
  have LH:=uq (j:=j) zY AD hn (by omega) (by omega) aH
  have d1:=zY.getD (j+n)
  have d2:=zY.getD (j+n - 1)
  have d3:=zY.getD (j+n - 2)
  simp only[B] at d1 d2 d3
  have g9:=LH.first
  rw[ht] at g9
  obtain⟨x1,zw⟩:=ax (u.getD (j+n) 0)
  obtain⟨x2,qS⟩:=ax (u.getD (j+n - 1) 0)
  obtain⟨x3,NC⟩:=ax (u.getD (j+n - 2) 0)
  rw[zw] at d1 g9
  rw[qS] at d2 g9
  rw[NC] at d3
  refine ae h2 ?_
  refine dw (by kernel_rfl) ?_
  refine ae (im i1 i2 zw qS @vy) ?_
  refine⟨by omega,by omega,by omega,by omega,by omega,?_⟩
  obtain⟨F,hF⟩: ∃ F,F=x1*4294967296+x2:=⟨_,rfl⟩
  have hFi:(x1:Int)*4294967296+(x2:Int)=(F:Int):=by omega
  rw[<-hF] at g9
  have hFt:F / top<=4294967297:=OG wu g9
  have hFm:F % top<top:=Nat.mod_lt _ (by omega)
  have dj:0<val v:=by have:=LH.v1;rw[ht] at this;have h0:0<top*B^(n - 1):=Nat.mul_pos (by omega) (JI (by decide));omega
  obtain⟨Q,hQ⟩: ∃ Q,Q=fG u j (n+1) / val v:=⟨_,rfl⟩
  have hQv:Q*val v<=fG u j (n+1):=by rw[hQ];exact Nat.div_mul_le_self _ _
  have LH1:=LH.h1
  rw[zw,qS,<-hF] at LH1
  have LHv:=LH.v1
  rw[ht] at LHv
  have bM:=Ej (q:=Q) (by omega) (xd (JI (by decide)) LH1 LH.s1 LHv hQv)
  have hQb:Q<4294967296:=by
   rw[hQ,Nat.div_lt_iff_lt_mul dj,Nat.mul_comm];exact LH.lt
  have hq:(F:Int) / (top:Int)=((F / top:Nat):Int):=by rw[Int.natCast_ediv]
  have hr:(F:Int) % (top:Int)=((F % top:Nat):Int):=by rw[Int.natCast_emod]
  generalize F / top=g0 at*
  generalize F % top=r0 at*
  refine ae hFi ?_
  refine dw (by kernel_rfl) ?_
  refine ae (aP hq hr) ?_
  refine⟨by omega,by omega,?_⟩
  refine WA.blockcut (fun(y:Nat×(Nat->PV))=>⟨[.fv (.sl (u32s a)),.fv (.sl (u32s b)),.any,.any,.lsl 1 0 m 1,.nilsl,.int .u64 k,.lsl 0 0 (a.length+1) 1,.fv (.sl (u32s v)),.int .i64 n,.int .u64 top,.int .u64 sec,.int .i64 (((j+1:Nat):Int) - 1),.any,.int .u64 y.1]++tl y.2 15 236,[.row true (u32s u),.row true (u32s qd)]⟩)
   (fun y=>Q<=y.1/\y.1<4294967296/\(y.1 - 1)*val v<=fG u j (n+1)) ?_ ?_
  .refine wl (α:=Nat×Nat) (fun⟨g,r⟩=>⟨.fv (.sl (u32s a)):: .fv (.sl (u32s b)):: .any:: .any:: .lsl 1 0 m 1:: .nilsl:: .int .u64 k:: .lsl 0 0 (a.length+1) 1:: .fv (.sl (u32s v)):: .int .i64 n:: .int .u64 top:: .int .u64 sec:: .int .i64 (((j+1:Nat):Int) - 1):: .any:: .int .u64 g:: .int .u64 r::replicate 235 .any,[.row true (u32s u),.row true (u32s qd)]⟩)
    (fun⟨g,_⟩=>g) (fun⟨g,r⟩=>vz F top Q g r/\r<4294967296/\g<=4294967297) (g0,r0) ?_ ?_ ?_
   .exact bQ [0,1]
   .exact⟨bM,by omega,hFt⟩
   rintro⟨g,r⟩ ⟨Hk,GY,oJ⟩
   have AE:(g:Int) / 4294967296=((g / 4294967296:Nat):Int):=by rw[Int.natCast_ediv];rfl
   refine bU AE ?_
   refine⟨by omega,Br.bneInt ?_ ?_⟩
   .intro h3 h4
    have mT:Q<g:=by omega
    obtain⟨g',rfl⟩: ∃ g',g=g'+1:=⟨g - 1,by omega⟩
    have nY:=wC Hk mT
    rw[Nat.add_sub_cancel] at nY
    have DJ:((g'+1:Nat):Int) - 1=(g':Int):=by omega
    refine ae (aP h4 DJ) ?_
    refine⟨by omega,Br.bneInt ?_ ?_⟩
    .intro h5 h6
     refine ae h6 ?_
     have qU:=Cw (second:=sec) nY (by omega) g9 (by omega)
     refine Mid.ex g' rfl ⟨by omega,qU.1,?_⟩
     refine j8 LH qU.1 (by omega) ?_
     rw[ht,hs,zw,qS,NC,<-hF]
     exact pU nY (gI qU.2 (Nat.le_add_right _ _))
    intro h5 h6
    refine ae h6 ?_
    refine aw (g',r+top) ?_ ⟨nY,by omega,by omega⟩
    exact bQ [0,1]
   intro h3 h4
   have wV:g<4294967296:=by omega
   have hgs:g*sec<=4294967295*4294967295:=Nat.mul_le_mul (by omega) (by omega)
   have UU:(g:Int)*(sec:Int)=((g*sec:Nat):Int):=by rw[Int.natCast_mul]
   obtain⟨gs,Jb⟩:=ax (g*sec)
   rw[Jb] at hgs UU
   refine ae (im h4 UU i3 NC @vy) ?_
   refine⟨by omega,by omega,by omega,bS ?_ ?_⟩
   .intro h7 h8
    have mT:Q<g:=by
     have LH2:=LH.h2;have LHv2:=LH.v2;rw[zw,qS,NC,<-hF] at LH2;rw[ht,hs] at LHv2;exact JQ (JI (by decide)) LH2 LH.s2 rfl LHv2 hQv Hk (by rw[Jb];omega)
    obtain⟨g',rfl⟩: ∃ g',g=g'+1:=⟨g - 1,by omega⟩
    have nY:=wC Hk mT
    rw[Nat.add_sub_cancel] at nY
    have DJ:((g'+1:Nat):Int) - 1=(g':Int):=by omega
    refine ae (aP h8 DJ) ?_
    refine⟨by omega,Br.bneInt ?_ ?_⟩
    .intro h5 h6
     refine ae h6 ?_
     have qU:=Cw (second:=sec) nY (by omega) g9 (by omega)
     refine Mid.ex g' rfl ⟨by omega,qU.1,?_⟩
     refine j8 LH qU.1 (by omega) ?_
     rw[ht,hs,zw,qS,NC,<-hF]
     exact pU nY (gI qU.2 (Nat.le_add_right _ _))
    intro h5 h6
    refine ae h6 ?_
    refine aw (g',r+top) ?_ ⟨nY,by omega,by omega⟩
    exact bQ [0,1]
   intro h7 h8
   refine ae h8 ?_
   refine Mid.ex g rfl ⟨Hk.low,wV,?_⟩
   refine j8 LH wV (by omega) ?_
   rw[ht,hs,zw,qS,NC,<-hF]
   exact pU Hk (by rw[Jb];omega)
  rintro⟨g,x⟩ ⟨Su,eu,Ci⟩
  have ad3:u.length=a.length+1:=zt
  have Zg:=JS (g:=g) dj (by rw[<-hQ];exact Su)
  simp only[] at Su eu Ci
  simp -dsimp(disch:=omega) only[tl,reduceAdd,ru]
  refine wl (α:=Nat×Nat×Nat×List Nat) (fun⟨i,bo,c,u'⟩=>⟨[.fv (.sl (u32s a)),.fv (.sl (u32s b)),.any,.any,.lsl 1 0 m 1,.nilsl,.int .u64 k,.lsl 0 0 (a.length+1) 1,.fv (.sl (u32s v)),.int .i64 n,.int .u64 top,.int .u64 sec,.int .i64 (((j+1:Nat):Int) - 1),.any,.int .u64 g,.any,.int .u64 bo,.int .u64 c]++replicate 99 .any++[.fv (.sl (u32s v)),.int .i64 n,.int .i64 i]++replicate 131 .any,[.row true (u32s u'),.row true (u32s qd)]⟩)
   (fun⟨i,_,_,_⟩=>n - i) (fun⟨i,bo,c,u'⟩=>i<=n/\bo<=1/\c<4294967296/\u'.length=a.length+1/\Dig u'/\(∀ t,(t<j\/j+i<=t)->u'.getD t 0=u.getD t 0)/\fG u' j i+g*val (v.take i)=fG u j i+(c+bo)*B^i) (0,0,0,u) ?_ ?_ ?_
  .refine eS [0,1] ?_ ?_
   .simp[bk,dV,cC,hn]
   simp[et,fK]
  .refine⟨by omega,by omega,by omega,zt,zY,fun _ _=>rfl,?_⟩
   simp[sH,val]
  rintro⟨i,bo,c,u'⟩ ⟨hi,Xd,hc,ad4,UW,qT,jD⟩
  refine aY ?_
  refine bS ?_ ?_
  .intro h3 h4
   have dv:=AD.getD i
   have du:=UW.getD (j+i)
   simp only[B] at dv du
   have fA:=aJ v i
   have ua:=jh u j i
   have Jc:=qT (j+i) (Or.inr (qp _))
   rw[<-Jc] at ua
   obtain⟨y,hy⟩:=ax (v.getD i 0)
   obtain⟨z,hz⟩:=ax (u'.getD (j+i) 0)
   rw[hy] at fA dv
   rw[hz] at ua du
   have ik:(((j+1:Nat):Int) - 1+(i:Int)).toNat=j+i:=by omega
   have hgy:g*y<=4294967295*4294967295:=Nat.mul_le_mul (by omega) (by omega)
   have Ry:(g:Int)*(y:Int)=((g*y:Nat):Int):=by rw[Int.natCast_mul]
   obtain⟨cc,oK⟩:=ax (c+g*y)
   obtain⟨gy,Zh⟩:=ax (g*y)
   rw[Zh] at hgy Ry
   have zx:(c:Int)+(gy:Int)=(cc:Int):=by omega
   have aiq:cc<=18446744073709551616 - 4294967296:=by omega
   obtain⟨d,b2,hd,eC,UN,Jd,Od⟩:=Ek (a:=z) (c:=cc % 4294967296) (b:=bo) du (by omega) Xd
   have qV:(cc:Int) % 4294967296=((cc % 4294967296:Nat):Int):=by rw[Int.natCast_emod];rfl
   have kK:(cc:Int) / 4294967296=((cc / 4294967296:Nat):Int):=by rw[Int.natCast_ediv];rfl
   have bM:=ji (S:=fG u' j i) (S0:=fG u j i) (P:=B^i) (g:=g) (Vt:=val (v.take i)) (v:=y) (c:=c) (b:=bo) (a:=z) (d:=d) (b2:=b2) jD (by rw[oK];exact UN)
   have bc:=jb (u:=u') (j:=j) (i:=i) (by omega) d
   obtain⟨xx,mZ⟩:=ax (((z:Int) - ((cc % 4294967296:Nat):Int) - (bo:Int)) % 18446744073709551616)
   have hxw:IntKind.u64.wrap (IntKind.u64.wrap ((z:Int) - ((cc % 4294967296:Nat):Int)) - (bo:Int))=xx:=by rw[Wh,mZ]
   have hxr:0<=xx/\xx<18446744073709551616:=by omega
   rw[mZ] at Jd Od
   have zy:IntKind.u32.wrap xx=(d:Int):=by rw[dC];exact Jd
   refine ae (bT h4 hy hz ik Ry zx @OA (im qV kK hxw zy Od)) ?_
   refine⟨by omega,by omega,by omega,by omega,by omega,by omega,by omega,?_⟩
   refine aw (i+1,b2,cc / 4294967296,u'.set (j+i) d) ?_ ⟨by omega,eC,by omega,by simp[ad4],UW.set _ hd,?_,?_⟩
   .exact bQ [0,1]
   .intro t Zd
    rw[<-qT t (by omega),qa,getElem?_set_ne (by omega),<-qa]
   rw[bc,fA,ua,Nat.pow_succ,<-oK]
   exact bM
  intro h3 h4
  have gF:i=n:=by omega
  subst gF
  have GZ:val (v.take i)=val v:=aQ (by omega)
  rw[GZ] at jD
  have du:=UW.getD (j+i)
  simp only[B] at du
  have ua:=jh u j i
  rw[<-qT (j+i) (Or.inr (qp _))] at ua
  have Jc:=qT (j+i) (Or.inr (qp _))
  rw[zw] at Jc
  rw[Jc] at du ua
  have ik:(((j+1:Nat):Int) - 1+(i:Int)).toNat=j+i:=by omega
  obtain⟨d,b2,hd,eC,UN,Jd,Od⟩:=Ek (a:=x1) (c:=c) (b:=bo) du hc Xd
  obtain⟨xx,mZ⟩:=ax (((x1:Int) - (c:Int) - (bo:Int)) % 18446744073709551616)
  have hxw:IntKind.u64.wrap (IntKind.u64.wrap ((x1:Int) - (c:Int)) - (bo:Int))=xx:=by rw[Wh,mZ]
  have hxr:0<=xx/\xx<18446744073709551616:=by omega
  rw[mZ] at Jd Od
  have zy:IntKind.u32.wrap xx=(d:Int):=by rw[dC];exact Jd
  have bc:=jb (u:=u') (j:=j) (i:=i) (by omega) d
  have rv:(u'.set (j+i) d).length=a.length+1:=by simp[ad4]
  have Sv:Dig (u'.set (j+i) d):=UW.set _ hd
  have Zi: ∀ t,(t<j\/j+i+1<=t)->(u'.set (j+i) d).getD t 0=u.getD t 0:=by
   intro t Zd;rw[<-qT t (by omega),qa,getElem?_set_ne (by omega),<-qa]
  have Cj:fG (u'.set (j+i) d) j (i+1)+g*val v=fG u j (i+1)+b2*B^(i+1):=LP bc ua jD UN
  obtain⟨w,hw⟩:=ax (u'.set (j+i) d)
  rw[hw] at rv Sv Zi Cj
  refine ae (fw h4 Jc ik hxw zy Od hw) ?_
  refine⟨by omega,by omega,by omega,by omega,by omega,Br.bneInt ?_ ?_⟩
  .intro h5 h6
   have dY:b2=1:=by omega
   subst dY
   rw[Nat.one_mul] at Cj
   have ais:=uo Sv j (i+1)
   have hVM:val v<=B^(i+1):=by
    have h7:=bG AD;rw[hn] at h7;exact gI (Nat.le_of_lt h7) (Nat.pow_le_pow_right (by decide) (by omega))
   have fL:fG u j (i+1)<g*val v:=by omega
   have vV:0<g:=by
    rcases Nat.eq_zero_or_pos g with h7 | h7
    .rw[h7,Nat.zero_mul] at fL;omega
    exact h7
   obtain⟨g',rfl⟩: ∃ g',g=g'+1:=⟨g - 1,by omega⟩
   have DJ:((g'+1:Nat):Int) - 1=(g':Int):=by omega
   refine ae (aP h6 DJ) ?_
   refine wl (α:=Nat×Nat×List Nat) (fun⟨t,c,w'⟩=>⟨[.fv (.sl (u32s a)),.fv (.sl (u32s b)),.any,.any,.lsl 1 0 m 1,.nilsl,.int .u64 k,.lsl 0 0 (a.length+1) 1,.fv (.sl (u32s v)),.int .i64 i,.int .u64 top,.int .u64 sec,.int .i64 (((j+1:Nat):Int) - 1),.any,.int .u64 g',.any,.any,.int .u64 c]++replicate 159 .any++[.fv (.sl (u32s v)),.int .i64 i,.int .i64 t]++replicate 71 .any,[.row true (u32s w'),.row true (u32s qd)]⟩)
    (fun⟨t,_,_⟩=>i - t) (fun⟨t,c,w'⟩=>t<=i/\c<=1/\w'.length=a.length+1/\Dig w'/\(∀ s,(s<j\/j+t<=s)->w'.getD s 0=w.getD s 0)/\fG w' j t+c*B^t=fG w j t+val (v.take t)) (0,0,w) ?_ ?_ ?_
   .refine eS [0,1] ?_ ?_
    .simp[bk,dV,cC,hn]
    simp[et,fK]
   .refine⟨by omega,by omega,rv,Sv,fun _ _=>rfl,?_⟩
    simp[sH,val]
   rintro⟨t,c',w'⟩ ⟨eT,hc',Xe,Je,Zj,Rz⟩
   have dv:=AD.getD t
   have du:=Je.getD (j+t)
   simp only[B] at dv du
   have fA:=aJ v t
   have DK:=jh w j t
   have Zk:=Zj (j+t) (Or.inr (qp _))
   rw[<-Zk] at DK
   obtain⟨y,hy⟩: ∃ t',v.getD t 0=t':=⟨_,rfl⟩
   obtain⟨z,hz⟩: ∃ t',w'.getD (j+t) 0=t':=⟨_,rfl⟩
   rw[hy] at fA dv
   rw[hz] at DK du
   have ik2:(((j+1:Nat):Int) - 1+(t:Int)).toNat=j+t:=by omega
   refine aY ?_
   refine bS ?_ ?_
   .intro h7 h8
    obtain⟨cc,oK⟩:=ax (c'+(z+y))
    have zx:(c':Int)+((z:Int)+(y:Int))=(cc:Int):=by omega
    have kK:(cc:Int) / 4294967296=((cc / 4294967296:Nat):Int):=by rw[Int.natCast_ediv];rfl
    have UX:IntKind.u32.wrap (cc:Int)=((cc % 4294967296:Nat):Int):=by rw[dC,Int.natCast_emod];rfl
    have ot:=jb (u:=w') (j:=j) (i:=t) (by omega) (cc % 4294967296)
    refine ae (fw h8 hy hz ik2 zx kK UX) ?_
    refine⟨by omega,by omega,by omega,by omega,by omega,by omega,?_⟩
    refine aw (t+1,cc / 4294967296,w'.set (j+t) (cc % 4294967296)) ?_ ⟨by omega,by omega,by simp[Xe],Je.set _ (Nat.mod_lt _ (by decide)),?_,?_⟩
    .exact bQ [0,1]
    .intro s wW
     rw[<-Zj s (by omega),qa,getElem?_set_ne (by omega),<-qa]
    rw[ot,fA,DK,Nat.pow_succ]
    exact m7 Rz oK
   intro h7 h8
   have aiu:t=i:=by omega
   subst aiu
   rw[GZ] at Rz
   have ot:=jb (u:=w') (j:=j) (i:=t) (by omega) ((z+c') % 4294967296)
   have hwc:IntKind.u32.wrap (c':Int)=(c':Int):=cV (by omega)
   have UX:IntKind.u32.wrap ((z:Int)+(c':Int))=(((z+c') % 4294967296:Nat):Int):=by rw[dC,Int.natCast_emod];rfl
   have hd4:Dig (w'.set (j+t) ((z+c') % 4294967296)):=Je.set _ (Nat.mod_lt _ (by decide))
   have hl4:(w'.set (j+t) ((z+c') % 4294967296)).length=a.length+1:=by simp[Xe]
   have ad5: ∀ s,(s<j\/j+t+1<=s)->(w'.set (j+t) ((z+c') % 4294967296)).getD s 0=u.getD s 0:=by
    intro s wW;rw[<-Zi s (by omega),<-Zj s (by omega),qa,getElem?_set_ne (by omega),<-qa]
   have hs4:fG (w'.set (j+t) ((z+c') % 4294967296)) j (t+1)+((z+c') / 4294967296)*B^(t+1)=fG w j (t+1)+val v:=Cx ot DK Rz
   obtain⟨w4,hw4⟩:=ax (w'.set (j+t) ((z+c') % 4294967296))
   rw[hw4] at hd4 hl4 ad5 hs4
   have GY:=xe hVM Cj vV Ci fL hs4 (uo hd4 _ _)
   rw[Nat.add_sub_cancel] at GY
   have Zm:IntKind.u32.wrap (g':Int)=(g':Int):=cV (by omega)
   have hr:=rH (u:=u) (u4:=w4) (qd:=qd) (j:=j) (n:=t) (g:=g') (V:=val v) (by omega) (by omega) (by omega) ad5 LH.tail GY.1 GY.2 bA
   refine ae (bT h8 hz ik2 hwc UX hw4 Zm i0) ?_
   refine⟨by omega,by omega,by omega,by omega,by omega,by omega,?_⟩
   refine aw (j,qd.set j g',w4) ?_ ⟨by omega,hl4,by simp[Ja],hd4,hqd.set _ (by simp only[B];omega),hr.2,hr.1⟩
   exact bQ [0,1]
  intro h5 h6
  have Hl:b2=0:=by omega
  subst Hl
  rw[Nat.zero_mul,Nat.add_zero] at Cj
  have Zm:IntKind.u32.wrap (g:Int)=(g:Int):=cV (by omega)
  have Hm:=El Cj Zg
  have hr:=rH (u:=u) (u4:=w) (qd:=qd) (j:=j) (n:=i) (g:=g) (V:=val v) (by omega) (by omega) (by omega) Zi LH.tail Cj Hm bA
  refine ae (bR h6 Zm i0) ?_
  refine⟨by omega,by omega,?_⟩
  refine aw (j,qd.set j g,w) ?_ ⟨by omega,rv,by simp[Ja],Sv,hqd.set _ eu,hr.2,hr.1⟩
  exact bQ [0,1]
 intro h1 h2
 have wt:j1=0:=by omega
 subst wt
 rw[List.drop_zero] at aH
 rw[List.drop_zero,Nat.pow_zero,Nat.one_mul] at bA
 have D8:0<2^k:=Nat.two_pow_pos k
 have zz:=Eo hvv D8 bA aH
 have aix:val u / 2^k<B^n:=by
  refine Hw (Nat.div_le_self _ _) (Nat.lt_trans aH ?_);rw[<-hn];exact bG AD
 refine ae h2 ?_
 refine⟨by omega,?_⟩
 refine wl (α:=Nat×List Nat) (fun⟨i,out⟩=>⟨[.fv (.sl (u32s a)),.fv (.sl (u32s b)),.any,.any,.lsl 1 0 m 1,.lsl 2 0 n 1,.int .u64 k,.lsl 0 0 (a.length+1) 1]++replicate 215 .any++[.int .i64 n,.int .i64 i]++replicate 26 .any,[.row true (u32s u),.row true (u32s qd),.row true (u32s out)]⟩)
  (fun⟨i,_⟩=>n - i) (fun⟨i,out⟩=>i<=n/\out.length=n/\Dig out/\out.take i=ij i (val u / 2^k)) (0,replicate n 0) ?_ ?_ ?_
 .exact bQ [0,1,2]
 .exact⟨by omega,by simp,Dig.zeros,by simp[ij]⟩
 rintro⟨i,out⟩ ⟨hi,ho,Az,hv3⟩
 refine aY ?_
 refine bS ?_ ?_
 .intro h3 h4
  have hx:=zY.getD i
  have hy:=zY.getD (i+1)
  have RA:(u.getD i 0+u.getD (i+1) 0*4294967296) / 2^k % 4294967296=val u / 2^k / B^i % 4294967296:=by
   rw[q8 (l:=u) (i:=i) (k:=k) (by omega) (by omega),<-iv zY (by omega),Nat.div_div_eq_div_mul,Nat.div_div_eq_div_mul,Nat.mul_comm (2^k)]
  have oI:((i:Int)+1).toNat=i+1:=by omega
  have AA:(k<=64)=True:=by simp;omega
  simp only[B] at hx hy
  obtain⟨x,DI⟩:=ax (u.getD i 0)
  obtain⟨y,Sq⟩:=ax (u.getD (i+1) 0)
  rw[DI] at hx RA
  rw[Sq] at hy RA
  obtain⟨s,hs⟩:=ax (x+y*4294967296)
  rw[hs] at RA
  have AF:(y:Int)*4294967296+x=(s:Int):=by omega
  have Xf:((s:Int)) / 2^k=((s / 2^k:Nat):Int):=by rw[Int.natCast_ediv,Int.natCast_pow];rfl
  have ND:IntKind.u32.wrap ((s / 2^k:Nat):Int)=((s / 2^k % 4294967296:Nat):Int):=by rw[dC];rfl
  have hpp:(0:Int)<=2^k:=by
   have:(2:Int)^k=((2^k:Nat):Int):=by rw[Int.natCast_pow];rfl
   omega
  obtain⟨dg,Ny⟩:=ax (s / 2^k % 4294967296)
  have UY:dg<4294967296:=by rw[<-Ny];exact Nat.mod_lt _ (by decide)
  rw[Ny] at ND RA
  have dh:(out.set i dg).take (i+1)=ij (i+1) (val u / 2^k):=by
   rw[A0,<-hv3,take_succ_eq_append_getElem (by simp;omega),List.take_set_of_le (qp i)];simp only[List.getElem_set_self,B] at*;rw[RA]
  refine ae h4 ?_
  refine dw (by kernel_rfl) ?_
  refine ae (bT DI Sq oI @vy AF AA Xf ND) ?_
  refine⟨by omega,by omega,by omega,by omega,by omega,by omega,by omega,by omega,?_⟩
  refine aw (i+1,out.set i dg) ?_ ⟨by omega,by simp[ho],Az.set _ UY,dh⟩
  exact bQ [0,1,2]
 intro h3 h4
 refine ae h4 ?_
 have gF:i=n:=by omega
 have hvo:val out=val u / 2^k:=by
  rw[gF,eo (by omega)] at hv3;rw[hv3,ko aix]
 refine gp (iu qd hqd (by omega)) ?_ ?_
 .simp[cw,gW,fS,fB,aM,Ja]
  rw[eo (by simp[aM,Ja])]
 refine ba ?_
 refine gp (iu out Az (by omega)) ?_ ?_
 .simp[cw,gW,fS,fB,aM,ho]
  rw[eo (by simp[aM,ho])]
 refine ba ?_
 refine bj ?_
 rw[zz.1,hvo,zz.2]
 exact Hh
end Go.Proofs.YtjjbkjgifdhlcaaGreat
namespace Go.Pl
open Go.AM
theorem LQ {x n:Nat} (h:(ai x).length=n+1):B^n<=x:=by
 rcases Nat.lt_or_ge x (B^n) with h1 | h1
 .have:=aA h1;omega
 exact h1
theorem v9 {x n:Nat} (h1:B^n<=x) (h2:x<B^(n+1)):(ai x).length=n+1:=by
 have h3:=aA h2;rcases Nat.lt_or_ge (ai x).length (n+1) with h4 | h4
 .exfalso;have h5:=bJ (n:=x);have h6:B^(ai x).length<=B^n:=Nat.pow_le_pow_right (by decide) (by omega);exact absurd (Nat.lt_of_lt_of_le h5 h6) (by omega)
 omega
theorem ur {x n:Nat} (h:(ai x).length=n+1):(ai x).getD n 0=x / B^n:=by
 have h1:=iv (ao x) (i:=n) (by omega);have h2:=eD (l:=ai x) (j:=n) (by omega);rw[List.drop_of_length_le (i:=n+1) (by omega),show val []=0 from rfl,Nat.mul_zero,Nat.add_zero] at h2;rw[<-h2,<-h1,aj]
theorem acn {b top P K:Nat} (h:top*P<=b) (hk:2147483648<=top*K):2147483648*P<=b*K:=by
 have h1:top*P*K<=b*K:=qn _ h;have h2:2147483648*P<=top*K*P:=qn _ hk;have h3:top*P*K=top*K*P:=by grind
 omega
theorem aco {b top P K:Nat} (h:b<(top+1)*P) (hK:0<K) (hk:(top+1)*K<=4294967296):b*K<P*4294967296:=by
 have h1:b*K<(top+1)*P*K:=Nat.mul_lt_mul_of_pos_right h hK;have h2:(top+1)*K*P<=4294967296*P:=qn _ hk;have h3:(top+1)*P*K=(top+1)*K*P:=by grind
 have h4:4294967296*P=P*4294967296:=Nat.mul_comm _ _;omega
theorem xg {b n k top:Nat} (h:(ai b).length=n+1) (ht:(ai b).getD n 0=top) (hk:k<=32) (h1:2147483648<=top*2^k) (h2:top*2^k<4294967296):
 (ai (b*2^k)).length=n+1/\2147483648<=(ai (b*2^k)).getD n 0:=by
 have hp:0<2^k:=Nat.two_pow_pos k
 have hP:0<B^n:=JI (by decide)
 have h3:top=b / B^n:=by rw[<-ht,ur h]
 have fR:top*B^n<=b:=by rw[h3];exact Nat.div_mul_le_self _ _
 have fL:b<(top+1)*B^n:=by rw[<-Nat.div_lt_iff_lt_mul hP,<-h3];omega
 have pK:top*2^k+2^k<=4294967296:=Ee hk (Nat.mul_mod_left _ _) h2
 have Zn:(top+1)*2^k<=4294967296:=by rw[Nat.add_mul,Nat.one_mul];exact pK
 have D9:=acn fR h1
 have aH:b*2^k<B^(n+1):=by rw[Nat.pow_succ];exact aco fL hp Zn
 have aD:(ai (b*2^k)).length=n+1:=v9 (gI (Nat.le_mul_of_pos_left _ (by decide)) D9) aH
 refine⟨aD,?_⟩
 rw[ur aD,Nat.le_div_iff_mul_le hP]
 exact D9
theorem JT {b n:Nat} (h:(ai b).length=n+1):0<(ai b).getD n 0:=by
 rw[ur h];exact Nat.div_pos (LQ h) (JI (by decide))
theorem fW {b:Nat} (h:(ai b).length=0):b=0:=by
 have:=bJ (n:=b);rw[h] at this;simpa using this
theorem cq {x y:Nat} (h:x<=y):(ai x).length<=(ai y).length:=
 aA (Hw h bJ)
def jz (u:List Nat) (j m x:Nat):List Nat:=u.take j++(ij m x++u.drop (j+m))
theorem z9 {u:List Nat} {j m x:Nat} (h:j+m<=u.length):(jz u j m x).length=u.length:=by
 simp[jz,cD];omega
theorem Hy {u:List Nat} {j m x:Nat} (h:Dig u):Dig (jz u j m x):=(h.take j).app ((kn _ _).app (h.drop _))
theorem A1 {u w:List Nat} {j m x:Nat} (hl:w.length=u.length) (hd:Dig w) (hj:j+m<=u.length) (qT: ∀ t,(t<j\/j+m<=t)->w.getD t 0=u.getD t 0) (hs:fG w j m=x):jz u j m x=w:=by
 unfold jz;have h1:w.take j=u.take j:=sJ hl (fun t ht=>qT t (Or.inl ht));have h2:w.drop (j+m)=u.drop (j+m):=sI hl (fun t ht=>qT t (Or.inr ht));have h3:=Cv ((hd.drop j).take m);have h4:((w.drop j).take m).length=m:=by rw[length_take,length_drop];omega
 rw[h4] at h3;have h5:val ((w.drop j).take m)=x:=hs;rw[h5] at h3;rw[<-h1,<-h2,<-h3,<-List.drop_drop,List.take_append_drop,List.take_append_drop]
theorem Ep {u:List Nat} {j m x t:Nat} (hj:j+m<=u.length) (ht:t<j\/j+m<=t):(jz u j m x).getD t 0=u.getD t 0:=by
 unfold jz;simp only[qa];congr 1;rcases ht with h | h
 .rw[qi (by rw[length_take];omega),getElem?_take,if_pos h]
 rw[qh (by rw[length_take];omega),qh (by rw[length_take,cD];omega),List.getElem?_drop];congr 1;rw[length_take,cD];omega
theorem Hz {u:List Nat} {j m x:Nat} (hj:j+m<=u.length) (hx:x<B^m):fG (jz u j m x) j m=x:=by
 unfold fG jz;rw[List.drop_left' (by rw[length_take];omega),List.take_left' (cD _ _),ko hx]
theorem xh {r g V W:Nat} (h:r+g*V=W) (hr:r<V):W / V=g/\r=W % V:=by
 have h1:W=r+V*g:=by rw[<-h,Nat.mul_comm]
 rw[h1,Nat.add_mul_div_left _ _ (by omega),Nat.div_eq_of_lt hr,Nat.zero_add,Nat.add_mul_mod_self_left,Nat.mod_eq_of_lt hr];exact⟨rfl,rfl⟩
theorem OJ {t s:Nat} (ht:0<t) (h:t*2^s<2147483648):s<31:=by
 rcases Nat.lt_or_ge s 31 with h1 | h1
 .exact h1
 exfalso;have h2:2^31<=2^s:=Nat.pow_le_pow_right (by decide) h1;have h3:1*2^s<=t*2^s:=qn _ ht;omega
end Go.Pl
namespace Go.Proofs.YtjjbkjgifdhlcaaGreat
open Go.AM Go.Pl
set_option maxRecDepth 100000
set_option maxHeartbeats 4000000
theorem sK {x y:Nat}:oA x y<0↔x<y:=by
 unfold oA;split
 .omega
 split<;>omega
theorem SS (a b:Nat) (wm:(ai a).length<10000000000) (NB:2<=(ai b).length) (wT:(ai b).length<=(ai a).length):
 Den Tryz.prog 218 [] [.fv (N a),.fv (N b)] [] (.tup [.fv (N (a / b)),.fv (N (a % b))]):=by
 obtain⟨n,hn⟩: ∃ n,(ai b).length=n+1:=⟨(ai b).length - 1,by omega⟩
 have wu:=JT hn
 have Oe:=(ao b).getD n
 simp only[B] at Oe
 have dY:=SR ((ai b).getD n 0)
 have eC:=OI (n:=(ai b).getD n 0) (by omega)
 have Lo:dZ ((ai b).getD n 0)<=32:=JP Oe
 have Xg:1<=dZ ((ai b).getD n 0):=by
  rcases Nat.eq_zero_or_pos (dZ ((ai b).getD n 0)) with h | h
  .rw[h] at dY;omega
  exact h
 have wX:=xg (k:=32 - dZ ((ai b).getD n 0)) hn rfl (by omega) ?_ ?_
 .have h:=XR (ai a) (ai b) (32 - dZ ((ai b).getD n 0)) (ao a) (ao b) wm NB wT (by rw[hn,Nat.add_sub_cancel]) (by omega) (ai (b*2^(32 - dZ ((ai b).getD n 0)))) (by rw[aj]) (by rw[wX.1,hn]) (by rw[wX.1,Nat.add_sub_cancel];exact wX.2)
  rw[aj,aj] at h
  exact h
 .have h1:2^(dZ ((ai b).getD n 0) - 1)*2^(32 - dZ ((ai b).getD n 0))=2147483648:=by
   rw[<-Nat.pow_add,show dZ ((ai b).getD n 0) - 1+(32 - dZ ((ai b).getD n 0))=31 by omega]
  rw[<-h1]
  exact qn _ eC
 have h1:2^(dZ ((ai b).getD n 0))*2^(32 - dZ ((ai b).getD n 0))=4294967296:=by
  rw[<-Nat.pow_add,show dZ ((ai b).getD n 0)+(32 - dZ ((ai b).getD n 0))=32 by omega]
 have h2:=Nat.mul_lt_mul_of_pos_right dY (Nat.two_pow_pos (32 - dZ ((ai b).getD n 0)))
 omega
theorem ahx (a b:List Nat) (ha:Dig a) (hb:Dig b) (wm:a.length<10000000000) (wT:b.length<10000000000) (h0:val b=0):
 Den Tryz.prog 183 [] [.fv (.sl (u32s a)),.fv (.sl (u32s b))] [] (.tup [.fv (N 0),.fv (N 0),.int .i64 3]):=by
 refine dq Tryz.func183 46 0 ?_
 refine aY ?_
 refine gp (iu a ha (by omega)) rfl ?_
 refine ba ?_
 refine gp (iu b hb (by omega)) rfl ?_
 have Lp:(ai 0).length=0:=by rw[bB];rfl
 have zA:((0:Nat):Int)=0:=rfl
 have qL:((0:Int)==0)=true:=rfl
 refine ae (im @bE h0 Lp zA qL) ?_
 refine bj ?_
 refine qR ?_
 simp[bB,u32s]
theorem JU (a b:List Nat) (ha:Dig a) (hb:Dig b) (wm:a.length<10000000000) (wT:b.length<10000000000) (h0:val b≠0):
 Den Tryz.prog 183 [] [.fv (.sl (u32s a)),.fv (.sl (u32s b))] [] (.tup [.fv (N (val a / val b)),.fv (N (val a % val b)),.int .i64 0]):=by
 have Zo:=aA (bG ha)
 have NB:=aA (bG hb)
 have aiA:(ai (val b)).length≠0:=fun h=>h0 (fW h)
 refine dq Tryz.func183 46 0 ?_
 refine aY ?_
 refine gp (iu a ha (by omega)) rfl ?_
 refine ba ?_
 refine gp (iu b hb (by omega)) rfl ?_
 have hz:(((ai (val b)).length:Int)==0)=false:=by rw[qx];omega
 refine ae (aP @bE hz) ?_
 refine gp (Eg (ai (val a)) (ai (val b)) (ao _) (ao _) (by omega) (by omega)) rfl ?_
 refine ae @aj ?_
 refine bS ?_ ?_
 .intro h1 h2
  rw[sK] at h1
  refine ae h2 ?_
  refine gp (Wc (u32s (ai (val a))) (by simp[u32s]) (by simp[u32s];omega)) rfl ?_
  refine ba ?_
  refine bj ?_
  refine qR ?_
  rw[Nat.div_eq_of_lt h1,Nat.mod_eq_of_lt h1]
  simp[N,bB,u32s]
 intro h1 h2
 rw[sK] at h1
 refine ae h2 ?_
 refine Br.beqInt ?_ ?_
 .intro h3 h4
  obtain⟨d,hd⟩: ∃ d,ai (val b)=[d]:=length_eq_one_iff.1 (by omega)
  have hbv:val b=d:=by rw[<-aj (val b),hd];simp[val]
  have DH:d<4294967296:=by have:=ao (val b);rw[hd] at this;exact this d (by simp)
  have vV:(u32s [d]).getD 0 []=[FV.lit (Value.int .u32 d)]:=rfl
  have g8:0<d:=by omega
  have eC:=Nat.mod_lt (val a) g8
  have ad8:=XL (ai (val a)) d (ao _) (by omega) DH g8
  rw[aj] at ad8
  refine ae (aP hd vV) ?_
  refine⟨by simp,?_⟩
  refine aV ad8 ?_
  obtain⟨r,hr⟩:=ax (val a % d)
  rw[hr] at eC
  have hrc:IntKind.u64.wrap (r:Int)=(r:Int):=dI (by omega)
  refine ae (aP hr hrc) ?_
  refine gp (Wf r (by omega)) rfl ?_
  refine ba ?_
  refine bj ?_
  exact l7 (aP hbv hr)
 intro h3 h4
 have dT:(ai (val b)).length<=(ai (val a)).length:=cq (by omega)
 have ad9:=SS (val a) (val b) (by omega) (by omega) dT
 rw[bE,bE] at ad9
 refine ae h4 ?_
 refine aV ad9 ?_
 refine ba ?_
 refine bj ?_
 exact Hh
theorem acp (a b:List Nat) (ha:Dig a) (hb:Dig b) (wm:a.length<10000000000) (wT:b.length<10000000000):
 Den Tryz.prog 182 [] [.fv (.sl (u32s a)),.fv (.sl (u32s b))] [] (.fv (N (Nat.gcd (val a) (val b)))):=by
 have Zo:=aA (bG ha)
 have NB:=aA (bG hb)
 refine dq Tryz.func182 45 0 ?_
 refine aY ?_
 refine gp (Ef a ha (by omega)) rfl ?_
 refine ba ?_
 refine gp (Ef b hb (by omega)) rfl ?_
 refine ae @bE ?_
 generalize hg:Nat.gcd (val a) (val b)=g
 refine wl (α:=Nat×Nat) (fun⟨x,y⟩=>⟨.fv (.sl (u32s (ai x))):: .fv (.sl (u32s (ai y))):: .any:: .any:: .nilsl::replicate 42 .any,[]⟩)
  (fun⟨_,y⟩=>y) (fun⟨x,y⟩=>(ai x).length<10000000000/\(ai y).length<10000000000/\Nat.gcd x y=g) (val a,val b) ?_ ?_ ?_
 .exact bQ []
 .exact⟨by omega,by omega,hg⟩
 rintro⟨x,y⟩ ⟨hx,hy,Hj⟩
 refine aY ?_
 refine bS ?_ ?_
 .intro h1 h2
  refine ae h2 ?_
  refine Br.beqInt ?_ ?_
  .intro h5 h6
   have tR:y=0:=fW (by omega)
   subst tR
   refine ae h6 ?_
   refine bj ?_
   rw[Nat.gcd_zero_right] at Hj
   refine DG Hj ?_
   rfl
  intro h5 h6
  have tR:y≠0:=fun h=>h5 (by rw[h,bB];rfl)
  have h86:=JU (ai x) (ai y) (ao _) (ao _) hx hy (by rw[aj];exact tR)
  rw[aj,aj,bE,bE] at h86
  refine ae h6 ?_
  refine aV h86 ?_
  refine ba ?_
  have aH:=Nat.mod_lt x (Nat.pos_of_ne_zero tR)
  refine ap (y,x % y) (by exact aH) ?_ ⟨hy,Hw (cq (Nat.le_of_lt aH)) hy,?_⟩
  .exact bQ []
  rw[<-Hj,Nat.gcd_comm y,<-Nat.gcd_rec,Nat.gcd_comm]
 intro h1 h2
 refine ae h2 ?_
 refine bS ?_ ?_
 .intro h3 h4
  refine ae h4 ?_
  refine Br.beqInt ?_ ?_
  .intro h5 h6
   have tR:y=0:=fW (by omega)
   subst tR
   refine ae h6 ?_
   refine bj ?_
   rw[Nat.gcd_zero_right] at Hj
   refine DG Hj ?_
   rfl
  intro h5 h6
  have tR:y≠0:=fun h=>h5 (by rw[h,bB];rfl)
  have h86:=JU (ai x) (ai y) (ao _) (ao _) hx hy (by rw[aj];exact tR)
  rw[aj,aj,bE,bE] at h86
  refine ae h6 ?_
  refine aV h86 ?_
  refine ba ?_
  have aH:=Nat.mod_lt x (Nat.pos_of_ne_zero tR)
  refine ap (y,x % y) (by exact aH) ?_ ⟨hy,Hw (cq (Nat.le_of_lt aH)) hy,?_⟩
  .exact bQ []
  rw[<-Hj,Nat.gcd_comm y,<-Nat.gcd_rec,Nat.gcd_comm]
 intro h3 h4
 have hxv:x<18446744073709551616:=Nat.lt_of_lt_of_le (bJ (n:=x)) (Nat.pow_le_pow_right (n:=B) (by decide) (show(ai x).length<=2 by omega))
 have hyv:y<18446744073709551616:=Nat.lt_of_lt_of_le (bJ (n:=y)) (Nat.pow_le_pow_right (n:=B) (by decide) (show(ai y).length<=2 by omega))
 have aeb:=Wg (ai x) (ao x) (by omega)
 have aec:=Wg (ai y) (ao y) (by omega)
 rw[aj] at aeb aec
 refine ae h4 ?_
 refine aV aeb ?_
 refine ba ?_
 refine aV aec ?_
 refine ba ?_
 refine wl (α:=Nat×Nat) (fun⟨p,q⟩=>⟨.any:: .any:: .any:: .any:: .nilsl:: .any:: .any:: .any:: .int .u64 p:: .int .u64 q::replicate 37 .any,[]⟩)
  (fun⟨_,q⟩=>q) (fun⟨p,q⟩=>p<18446744073709551616/\q<18446744073709551616/\Nat.gcd p q=g) (x,y) ?_ ?_ ?_
 .exact bQ []
 .exact⟨hxv,hyv,Hj⟩
 rintro⟨p,q⟩ ⟨hp,hq,wY⟩
 refine aY ?_
 refine Br.bneInt ?_ ?_
 .intro h5 h6
  have aH:=Nat.mod_lt p (show q>0 by omega)
  have hmi:(p:Int) % (q:Int)=((p % q:Nat):Int):=by rw[Int.natCast_emod]
  obtain⟨r,hr⟩:=ax (p % q)
  rw[hr] at aH hmi
  refine ae h6 ?_
  refine dw (by kernel_rfl) ?_
  refine ae hmi ?_
  refine⟨by omega,?_⟩
  refine ap (q,r) (by exact aH) ?_ ⟨hq,by omega,?_⟩
  .exact bQ []
  rw[<-wY,<-hr,Nat.gcd_comm q,<-Nat.gcd_rec,Nat.gcd_comm]
 intro h5 h6
 have NG:q=0:=by omega
 subst NG
 rw[Nat.gcd_zero_right] at wY
 refine ae h6 ?_
 refine gp (Wf p hp) rfl ?_
 refine ba ?_
 refine bj ?_
 exact l7 wY
end Go.Proofs.YtjjbkjgifdhlcaaGreat
namespace Go.Pl
open Go.AM
def sg (s:Bool) (n:Nat):Int:=if s then -(n:Int) else(n:Int)
def gY (s:Bool) (n d:Nat):Rat:=mkRat (sg s n) d
theorem uu (s:Bool) (n:Nat):(sg s n).natAbs=n:=by unfold sg;split<;>simp
theorem XS (q:Rat):sg (decide (q.num<0)) q.num.natAbs=q.num:=by
 unfold sg;by_cases h:q.num<0
 .simp only[h,decide_true,if_true];omega
 simp only[h,decide_false];simp;omega
theorem cZ (q:Rat):gY (decide (q.num<0)) q.num.natAbs q.den=q:=by
 unfold gY;rw[XS,Rat.mkRat_self]
theorem mj {s:Bool} {n d:Nat} (h:n=0):gY s n d=0:=by
 subst h;unfold gY sg;have:(if s=true then -((0:Nat):Int) else((0:Nat):Int))=0:=by split<;>rfl
 rw[this,Rat.zero_mkRat]
theorem xi {s:Bool} {n d:Nat} (h:d=0):gY s n d=0:=by
 subst h;unfold gY;rw[Rat.mkRat_zero]
theorem XT {s:Bool} {n g:Nat} (h:g∣n):sg s n / (g:Int)=sg s (n / g):=by
 unfold sg;split
 .rw[Int.neg_ediv_of_dvd (by exact Int.natCast_dvd_natCast.2 h),Int.natCast_ediv]
 rw[Int.natCast_ediv]
theorem A2 {s:Bool} {n d:Nat} (hd:d≠0):(gY s n d).num=sg s (n / Nat.gcd n d)/\(gY s n d).den=d / Nat.gcd n d:=by
 unfold gY;rw[<-Rat.normalize_eq_mkRat hd,Rat.normalize_eq hd];simp only[uu];exact⟨XT (Nat.gcd_dvd_left n d),cW⟩
theorem XU {s:Bool} {n:Nat} (h:n≠0):decide (sg s n<0)=s:=by
 unfold sg;cases s
 .simp
 simp;omega
theorem A3 {s:Bool} {n d:Nat} (hn:n≠0) (hd:d≠0):decide ((gY s n d).num<0)=s/\(gY s n d).num.natAbs=n / Nat.gcd n d/\(gY s n d).den=d / Nat.gcd n d:=by
 obtain⟨h1,h2⟩:=A2 (s:=s) (n:=n) hd;have h3:n / Nat.gcd n d≠0:=by
  have:=Nat.div_pos (Nat.le_of_dvd (by omega) (Nat.gcd_dvd_left n d)) (Nat.gcd_pos_of_pos_left d (by omega));omega
 rw[h1,h2];exact⟨XU h3,uu _ _,rfl⟩
def Bd (k:Nat) (q:Rat):Prop:=q.num.natAbs<B^k/\q.den<B^k
theorem Bd.mono {j k:Nat} {q:Rat} (h:Bd j q) (hk:j<=k):Bd k q:=
 ⟨Nat.lt_of_lt_of_le h.1 (Nat.pow_le_pow_right (by decide) hk),Nat.lt_of_lt_of_le h.2 (Nat.pow_le_pow_right (by decide) hk)⟩
theorem Bd.zero {k:Nat} (hk:1<=k):Bd k 0:=by
 have:1<B^k:=Nat.lt_of_lt_of_le (show 1<B^1 by decide) (Nat.pow_le_pow_right (by decide) hk);exact⟨JI (by decide),this⟩
theorem Bd.mk {k n d:Nat} {s:Bool} (hk:1<=k) (hn:n<B^k) (hd:d<B^k):Bd k (gY s n d):=by
 by_cases h:d=0
 .rw[xi h];exact Bd.zero hk
 obtain⟨h1,h2⟩:=A2 (s:=s) (n:=n) h;unfold Bd;rw[h1,h2,uu];exact⟨Hw (Nat.div_le_self _ _) hn,Hw (Nat.div_le_self _ _) hd⟩
structure Raw where
 neg:Bool
 num:List Nat
 den:List Nat
def Raw.q (r:Raw):Rat:=gY r.neg (val r.num) (val r.den)
structure Raw.Ok (k:Nat) (r:Raw):Prop where
 num:Dig r.num
 den:Dig r.den
 lnum:r.num.length<=k
 lden:r.den.length<=k
theorem Raw.Ok.mono {j k:Nat} {r:Raw} (h:r.Ok j) (hk:j<=k):r.Ok k:=⟨h.num,h.den,gI h.lnum hk,gI h.lden hk⟩
theorem Raw.Ok.bd {k:Nat} {r:Raw} (h:r.Ok k) (hk:1<=k):Bd k r.q:=
 Bd.mk hk (Nat.lt_of_lt_of_le (bG h.num) (Nat.pow_le_pow_right (by decide) h.lnum)) (Nat.lt_of_lt_of_le (bG h.den) (Nat.pow_le_pow_right (by decide) h.lden))
def cn (q:Rat):Raw:=⟨decide (q.num<0),ai q.num.natAbs,ai q.den⟩
theorem de (q:Rat):(cn q).q=q:=by
 unfold Raw.q cn;simp only[aj];exact cZ q
theorem bC {k:Nat} {q:Rat} (h:Bd k q):(cn q).Ok k:=⟨ao _,ao _,aA h.1,aA h.2⟩
theorem Cy:cn 0=⟨false,[],[1]⟩:=by
 unfold cn;have h1:ai (0:Rat).num.natAbs=[]:=bB;have h2:ai (0:Rat).den=[1]:=by
  have:(0:Rat).den=val [1]:=rfl;rw[this];exact mg (fun d hd=>by simp at hd;subst hd;decide) (Or.inr (by decide))
 rw[h1,h2];rfl
def Raw.v (r:Raw):PV:= .agg [.bool r.neg,.fv (.sl (u32s r.num)),.fv (.sl (u32s r.den))]
def FR (q:Rat):PV:=(cn q).v
theorem bu (q:Rat):FR q= .agg [.bool (decide (q.num<0)),.fv (N q.num.natAbs),.fv (N q.den)]:=rfl
end Go.Pl
namespace Go.Proofs.YtjjbkjgifdhlcaaGreat
open Go.AM Go.Pl
set_option maxRecDepth 100000
set_option maxHeartbeats 1000000
theorem LR {x:Nat}:(oA x 0==0)=decide (x=0):=by
 unfold oA;by_cases h:x=0
 .subst h;rfl
 have h1: ¬x<0:=by omega
 have h2:0<x:=by omega
 simp[h,h2]
theorem acq (l:List Nat) (hl:Dig l) (oP:l.length<100000000000):Den Tryz.prog 174 [] [.fv (.sl (u32s l))] [] (.bool (decide (val l=0))):=by
 refine dq Tryz.func174 5 0 ?_;refine aY ?_;have h:=Eg l [] hl Dig.nil oP (by simp);refine aV h ?_;have hv:val []=0:=rfl;simp -dsimp(disch:=omega) only[hv,LR,↓reduceIte,ru];refine bj ?_;exact Hh
theorem vA (s:Bool) (n d:List Nat) (hn:Dig n) (hd:Dig d) (qM:n.length<10000000000) (D7:d.length<10000000000) (g8:val d≠0):
 Den Tryz.prog 131 [] [.bool s,.fv (.sl (u32s n)),.fv (.sl (u32s d))] [] (FR (gY s (val n) (val d))):=by
 have ub:=aA (bG hn)
 have Sv:=aA (bG hd)
 refine dq Tryz.func131 47 0 ?_
 refine aY ?_
 refine gp (Ef n hn (by omega)) rfl ?_
 refine ba ?_
 refine gp (Ef d hd (by omega)) rfl ?_
 refine ae @bE ?_
 refine Br.beqInt ?_ ?_
 .intro h1 h2
  have h0:val n=0:=fW (by omega)
  refine ae h2 ?_
  refine bj ?_
  rw[mj h0,FR,Cy]
  rfl
 intro h1 h2
 have Jf:val n≠0:=fun h=>h1 (by rw[h,bB];rfl)
 have hgn:Nat.gcd (val n) (val d)<=val n:=Nat.le_of_dvd (by omega) (Nat.gcd_dvd_left _ _)
 have vV:Nat.gcd (val n) (val d)≠0:=by
  have:=Nat.gcd_pos_of_pos_left (val d) (show 0<val n by omega);omega
 have gh:=A3 (s:=s) Jf g8
 have UZ:=acp (ai (val n)) (ai (val d)) (ao _) (ao _) (by omega) (by omega)
 rw[aj,aj,bE] at UZ
 have wV:=cq hgn
 have Xh:=Nat.mul_div_cancel_left (val n) (Nat.pos_of_ne_zero vV)
 obtain⟨g,hg⟩:=ax (Nat.gcd (val n) (val d))
 rw[hg] at gh UZ vV wV
 have U0:=JU (ai (val n)) (ai g) (ao _) (ao _) (by omega) (by omega) (by rw[aj];exact vV)
 have U2:=JU (ai (val d)) (ai g) (ao _) (ao _) (by omega) (by omega) (by rw[aj];exact vV)
 rw[aj,aj,bE,bE] at U0 U2
 have hFR:FR (gY s (val n) (val d))= .agg [.bool s,.fv (.sl (u32s (ai (val n / g)))),.fv (.sl (u32s (ai (val d / g))))]:=by
  rw[bu,gh.1,gh.2.1,gh.2.2];rfl
 rw[hFR]
 refine ae h2 ?_
 refine aV UZ ?_
 refine ba ?_
 refine Br.bneInt ?_ ?_
 .intro h3 h4
  refine ae h4 ?_
  refine aV U0 ?_
  refine ba ?_
  refine aV U2 ?_
  refine ba ?_
  refine bj rfl
 intro h3 h4
 obtain⟨y,hy⟩: ∃ y,ai g=[y]:=length_eq_one_iff.1 (by omega)
 have hgy:g=y:=by rw[<-aj g,hy];simp[val]
 have hyg:(u32s [y]).getD 0 []=[FV.lit (Value.int .u32 y)]:=rfl
 have AG:((1:Int) !=1)=false:=rfl
 have Zp:([y]:List Nat).length=1:=rfl
 have sB:(((1:Nat):Int) !=1)=false:=rfl
 refine ae (eg hy hyg Zp sB) ?_
 refine⟨by simp,?_⟩
 refine Br.bneInt ?_ ?_
 .intro h5 h6
  rw[hy] at U0 U2
  refine ae h6 ?_
  refine aV U0 ?_
  refine ba ?_
  refine aV U2 ?_
  refine ba ?_
  refine bj rfl
 intro h5 h6
 have Su:g=1:=by omega
 refine ae h6 ?_
 refine bj ?_
 rw[Su,Nat.div_one,Nat.div_one]
 rfl
theorem sL (r:Raw) (hr:r.Ok 5000000000):Den Tryz.prog 126 [] [r.v] [] (FR r.q):=by
 unfold Raw.v;refine dq Tryz.func126 14 0 ?_;refine aY ?_;refine gp (acq r.den hr.den (by have:=hr.lden;omega)) rfl ?_;refine ba ?_;refine bS ?_ ?_
 .intro h1 h2;have vW:=vA false [] [1] Dig.nil (Dig.mk (by decide) Dig.nil) (by simp) (by simp) (by simp[val]);rw[mj (n:=val []) rfl,bu] at vW;refine ae h2 ?_;refine aV vW ?_;have h0:val r.den=0:=h1;have hq:r.q=0:=xi h0;rw[hq,bu];refine ba ?_;refine bj rfl
 intro h1 h2;have vW:=vA r.neg r.num r.den hr.num hr.den (by have:=hr.lnum;omega) (by have:=hr.lden;omega) h1;rw[bu] at vW;refine ae h2 ?_;refine aV vW ?_;refine ba ?_;refine bj rfl
end Go.Proofs.YtjjbkjgifdhlcaaGreat
namespace Go.Pl
open Go.AM
theorem XV (s t:Bool) (a c:Nat):sg s a*sg t c=sg (s !=t) (a*c):=by
 unfold sg;cases s<;>cases t<;>simp[Int.neg_mul,Int.mul_neg]
theorem sM (s t:Bool) (a b c d:Nat):gY s a b*gY t c d=gY (s !=t) (a*c) (b*d):=by
 unfold gY;rw[Rat.mkRat_mul_mkRat,XV]
theorem SU {n:Nat} (h:n≠0):gY false n n=1:=by
 unfold gY sg;have h1:(1:Rat)=mkRat 1 1:=rfl;rw[h1,Rat.mkRat_eq_iff h (by decide)];simp
theorem HA {p q r:Rat} (h:q*r=1):p / q=p*r:=by grind
theorem Cz {s t:Bool} {a b c d:Nat} (hc:c≠0) (hd:d≠0):gY s a b / gY t c d=gY (s !=t) (a*d) (b*c):=by
 have h:gY t c d*gY t d c=1:=by
  rw[sM,Nat.mul_comm d c,bne_self_eq_false,SU (Nat.mul_ne_zero hc hd)]
 rw[HA h,sM]
theorem OK {n m:Int} {b d:Nat} (hb:b≠0) (hd:d≠0) (h:n*d=m*b):mkRat n b=mkRat m d:=(Rat.mkRat_eq_iff hb hd).2 h
theorem XW (s:Bool) (a c:Nat):sg s a+sg s c=sg s (a+c):=by
 unfold sg;cases s<;>simp;omega
theorem OL {s t:Bool} (h:s≠t) {a c:Nat} (hl:a<c):sg s a+sg t c=sg t (c - a):=by
 unfold sg;cases s<;>cases t<;>simp at h ⊢ <;>omega
theorem OM {s t:Bool} (h:s≠t) {a c:Nat} (hl: ¬a<c):sg s a+sg t c=sg s (a - c):=by
 unfold sg;cases s<;>cases t<;>simp at h ⊢ <;>omega
theorem pV (n m:Int) {d:Nat} (hd:d≠0):mkRat n d+mkRat m d=mkRat (n+m) d:=by
 rw[Rat.mkRat_add_mkRat _ _ hd hd];apply OK (Nat.mul_ne_zero hd hd) hd;grind
theorem CA {s t:Bool} (h:s=t) {a c d:Nat} (hd:d≠0):gY s a d+gY t c d=gY s (a+c) d:=by
 subst h;unfold gY;rw[pV _ _ hd,XW]
theorem uv {s t:Bool} (h:s≠t) {a c d:Nat} (hl:a<c) (hd:d≠0):gY s a d+gY t c d=gY t (c - a) d:=by
 unfold gY;rw[pV _ _ hd,OL h hl]
theorem uw {s t:Bool} (h:s≠t) {a c d:Nat} (hl: ¬a<c) (hd:d≠0):gY s a d+gY t c d=gY s (a - c) d:=by
 unfold gY;rw[pV _ _ hd,OM h hl]
theorem ON (s:Bool) (a k:Nat):sg s (a*k)=sg s a*k:=by
 unfold sg;cases s<;>simp[Int.neg_mul]
theorem A4 {s:Bool} {a b k:Nat} (hb:b≠0) (hk:k≠0):gY s (a*k) (b*k)=gY s a b:=by
 unfold gY;apply OK (Nat.mul_ne_zero hb hk) hb;rw[ON];grind
theorem aL {a c j k:Nat} (ha:a<B^j) (hc:c<B^k):a*c<B^(j+k):=by
 rw[Nat.pow_add];exact Nat.mul_lt_mul'' ha hc
theorem m9 {a c k:Nat} (ha:a<B^k) (hc:c<B^k):a+c<B^(k+1):=by
 have h2:2*B^k<=B^k*4294967296:=by rw[Nat.mul_comm];exact Nat.mul_le_mul_left _ (by decide)
 have h3:B^(k+1)=B^k*4294967296:=Nat.pow_succ _ _;rw[h3];omega
theorem Bd.neg {k:Nat} {q:Rat} (h:Bd k q):Bd k (-q):=by
 unfold Bd;have h1:(-q).num= -q.num:=rfl;have h2:(-q).den=q.den:=rfl;rw[h1,h2,Int.natAbs_neg];exact h
theorem Bd.mul {j k:Nat} {p q:Rat} (hp:Bd j p) (hq:Bd k q) (hk:1<=j+k):Bd (j+k) (p*q):=by
 rw[<-cZ p,<-cZ q,sM];exact Bd.mk hk (aL hp.1 hq.1) (aL hp.2 hq.2)
theorem Bd.div {j k:Nat} {p q:Rat} (hp:Bd j p) (hq:Bd k q) (h0:q≠0) (hk:1<=j+k):Bd (j+k) (p / q):=by
 have hn:q.num.natAbs≠0:=fun h=>h0 (Rat.num_eq_zero.1 (by omega))
 rw[<-cZ p,<-cZ q,Cz hn q.den_nz];exact Bd.mk hk (aL hp.1 hq.2) (aL hp.2 hq.1)
theorem rI (s t:Bool) {a b c d:Nat} (hb:b≠0) (hd:d≠0):gY s a b+gY t c d=gY s (a*d) (b*d)+gY t (c*b) (b*d):=by
 rw[A4 hb hd,Nat.mul_comm b d,A4 hd hb]
theorem Bd.sum {k n d a c:Nat} {s t:Bool} (hk:1<=k) (ha:a<B^k) (hc:c<B^k) (hd:d<B^(k+1)) (g8:d≠0) (hn:n=k+1):Bd n (gY s a d+gY t c d):=by
 subst hn;have h1:c - a<B^(k+1):=Hw (Nat.sub_le _ _) (Nat.lt_trans hc (Nat.pow_lt_pow_right (by decide) (by omega)));have h2:a - c<B^(k+1):=Hw (Nat.sub_le _ _) (Nat.lt_trans ha (Nat.pow_lt_pow_right (by decide) (by omega)));by_cases h:s=t
 .rw[CA h g8];exact Bd.mk (by omega) (m9 ha hc) hd
 by_cases hl:a<c
 .rw[uv h hl g8];exact Bd.mk (by omega) h1 hd
 rw[uw h hl g8];exact Bd.mk (by omega) h2 hd
theorem Bd.add {j k:Nat} {p q:Rat} (hp:Bd j p) (hq:Bd k q) (hk:1<=j+k):Bd (j+k+1) (p+q):=by
 rw[<-cZ p,<-cZ q,rI _ _ p.den_nz q.den_nz];refine Bd.sum hk (aL hp.1 hq.2) ?_ ?_ (Nat.mul_ne_zero p.den_nz q.den_nz) rfl
 .rw[Nat.add_comm];exact aL hq.1 hp.2
 exact Nat.lt_trans (aL hp.2 hq.2) (Nat.pow_lt_pow_right (by decide) (by omega))
theorem Bd.sub {j k:Nat} {p q:Rat} (hp:Bd j p) (hq:Bd k q) (hk:1<=j+k):Bd (j+k+1) (p - q):=by
 rw[Rat.sub_eq_add_neg];exact hp.add hq.neg hk
def gA (q:Rat):Int:=q.num.sign
theorem Er {q:Rat} (h:q.num.natAbs=0):gA q=0:=by
 unfold gA;have:q.num=0:=by omega
 rw[this];rfl
theorem CB {q:Rat} (h:q.num<0):gA q= -1:=Int.sign_eq_neg_one_of_neg h
theorem CD {q:Rat} (h0:q.num.natAbs≠0) (h: ¬q.num<0):gA q=1:=Int.sign_eq_one_of_pos (by omega)
end Go.Pl
namespace Go.Proofs.YtjjbkjgifdhlcaaGreat
open Go.AM Go.Pl
set_option maxRecDepth 100000
set_option maxHeartbeats 1000000
theorem A5 (q:Rat):Den Tryz.prog 127 [] [FR q] [] (FR q):=by
 rw[bu];refine dq Tryz.func127 12 0 ?_;refine aY ?_;refine bj rfl
theorem OO (r:Raw) (hr:r.Ok 5000000000):Den Tryz.prog 68 [] [r.v] [] (FR r.q):=by
 have NH:=sL r hr;have zB:=A5 r.q;rw[bu] at NH zB ⊢;unfold Raw.v at NH ⊢;refine dq Tryz.func68 5 0 ?_;refine aY ?_;refine aV NH ?_;refine ba ?_;refine aV zB ?_;refine ba ?_;refine bj rfl
theorem mm (r:Raw) (hr:r.Ok 5000000000):Den Tryz.prog 84 [] [r.v] [] (.int .i64 (gA r.q)):=by
 have NH:=sL r hr;rw[bu] at NH;unfold Raw.v at NH ⊢;obtain⟨n,hn⟩:=ax r.q.num.natAbs;have hz:((ai n).length:Int)=0↔n=0:=⟨fun h=>fW (by omega),fun h=>by rw[h,bB];rfl⟩;rw[hn,bE] at NH;refine dq Tryz.func84 15 0 ?_;refine aY ?_;refine aV NH ?_;refine ba ?_;refine Br.beqInt ?_ ?_
 .intro h1 h2;have hs:=Er (hn.trans (hz.1 h1));refine ae h2 ?_;refine bj ?_;exact l7 hs
 intro h1 h2;refine ae h2 ?_;refine bS ?_ ?_
 .intro h3 h4;have hs:=CB h3;refine ae h4 ?_;refine bj ?_;exact l7 hs
 intro h3 h4;have hs:=CD (q:=r.q) (fun h=>h1 (hz.2 (hn.symm.trans h))) h3;refine ae h4 ?_;refine bj ?_;exact l7 hs
set_option maxHeartbeats 2000000
theorem d8 {n:Nat}:((ai n).length:Int)=0↔n=0:=⟨fun h=>fW (by omega),fun h=>by rw[h,bB];rfl⟩
theorem cE {n k:Nat} (h:n<B^k):(ai n).length<=k:=aA h
theorem OP (q:Rat):FR (-q)= .agg [.bool (!decide (q.num<0)&&decide (((ai q.num.natAbs).length:Int)>0)),.fv (N q.num.natAbs),.fv (N q.den)]:=by
 have h1:(-q).num= -q.num:=rfl;have h2:(-q).den=q.den:=rfl;rw[bu,h1,h2,Int.natAbs_neg];congr 3;by_cases h:q.num=0
 .have h3:((ai q.num.natAbs).length:Int)=0:=d8.2 (by omega);rw[h3,h];rfl
 have h3:((ai q.num.natAbs).length:Int)≠0:=fun h4=>h (by have:=d8.1 h4;omega)
 have h4:((ai q.num.natAbs).length:Int)>0:=by omega
 rw[ir h4,Bool.and_true];by_cases h5:q.num<0
 .rw[ir h5,m5 (show¬(-q.num<0) by omega)];rfl
 rw[m5 h5,ir (show -q.num<0 by omega)];rfl
theorem Wi (r:Raw) (hr:r.Ok 5000000000):Den Tryz.prog 132 [] [r.v] [] (FR (-r.q)):=by
 have NH:=sL r hr;have zB:=A5 (-r.q);rw[bu] at NH;rw[OP] at zB ⊢;unfold Raw.v at NH ⊢;obtain⟨n,hn⟩:=ax r.q.num.natAbs;obtain⟨s,hs⟩:=ax (decide (r.q.num<0));obtain⟨d,hd⟩:=ax (N r.q.den);rw[hn,hs,hd,bE] at NH zB ⊢;refine dq Tryz.func132 20 0 ?_;refine aY ?_;refine aV NH ?_;cases s
 .have e1:(!false)=true:=rfl;have e2: ∀ b,(true&&b)=b:=fun _=>rfl
  rw[e1,e2] at zB ⊢;refine ae e1 ?_;refine aV zB ?_;refine ba ?_;refine bj rfl
 have e1:(!true)=false:=rfl;have e2: ∀ b,(false&&b)=false:=fun _=>rfl
 rw[e1,e2] at zB ⊢;refine ae e1 ?_;refine aV zB ?_;refine ba ?_;refine bj rfl
theorem OQ (r1 r2:Raw) (i_:r1.Ok 2000000000) (gX:r2.Ok 2000000000):Den Tryz.prog 70 [] [r1.v,r2.v] [] (FR (r1.q*r2.q)):=by
 have ha:=sL r1 (i_.mono (by decide));have hb:=sL r2 (gX.mono (by decide));have b1:=i_.bd (by decide);have b2:=gX.bd (by decide);have c1:=bC b1;have c2:=bC b2;have hq:gY (decide (r1.q.num<0) !=decide (r2.q.num<0)) (r1.q.num.natAbs*r2.q.num.natAbs) (r1.q.den*r2.q.den)=r1.q*r2.q:=by
  rw[<-sM,cZ,cZ]
 have mU:=w_ (ai r1.q.num.natAbs) (ai r2.q.num.natAbs) (ao _) (ao _) (by have:=c1.lnum;simp only[cn] at this;omega) (by have:=c2.lnum;simp only[cn] at this;omega);have lr:=w_ (ai r1.q.den) (ai r2.q.den) (ao _) (ao _) (by have:=c1.lden;simp only[cn] at this;omega) (by have:=c2.lden;simp only[cn] at this;omega);have zA:=cE (aL b1.1 b2.1);have qL:=cE (aL b1.2 b2.2);have vW:=vA (decide (r1.q.num<0) !=decide (r2.q.num<0)) (ai (r1.q.num.natAbs*r2.q.num.natAbs)) (ai (r1.q.den*r2.q.den)) (ao _) (ao _) (by omega) (by omega) (by rw[aj];exact Nat.mul_ne_zero r1.q.den_nz r2.q.den_nz);rw[aj,aj,hq] at vW;rw[aj,aj] at mU lr;have zB:=A5 (r1.q*r2.q);rw[bu] at ha hb vW zB ⊢;unfold Raw.v at ha hb ⊢;rw[bE] at mU lr;rw[bE,bE] at ha hb
 refine dq Tryz.func70 32 0 ?_;refine aY ?_;refine dw (by kernel_rfl) ?_;refine ba ?_;refine aV ha ?_;refine ba ?_;refine aV hb ?_;refine ba ?_;refine dw (by kernel_rfl) ?_;refine ba ?_;refine aV mU ?_;refine ba ?_;refine aV lr ?_;refine ba ?_;refine aV vW ?_;refine ba ?_;refine aV zB ?_;refine ba ?_;refine bj rfl
theorem OS (r1 r2:Raw) (i_:r1.Ok 2000000000) (gX:r2.Ok 2000000000) (h0:r2.q≠0):Den Tryz.prog 73 [] [r1.v,r2.v] [] (.tup [FR (r1.q / r2.q),.int .i64 0]):=by
 have ha:=sL r1 (i_.mono (by decide));have hb:=sL r2 (gX.mono (by decide));have b1:=i_.bd (by decide);have b2:=gX.bd (by decide);have c1:=bC b1;have c2:=bC b2;have Jf:r2.q.num.natAbs≠0:=fun h=>h0 (Rat.num_eq_zero.1 (by omega))
 have hq:gY (decide (r1.q.num<0) !=decide (r2.q.num<0)) (r1.q.num.natAbs*r2.q.den) (r1.q.den*r2.q.num.natAbs)=r1.q / r2.q:=by
  rw[<-Cz Jf r2.q.den_nz,cZ,cZ]
 have mU:=w_ (ai r1.q.num.natAbs) (ai r2.q.den) (ao _) (ao _) (by have:=c1.lnum;simp only[cn] at this;omega) (by have:=c2.lden;simp only[cn] at this;omega);have lr:=w_ (ai r1.q.den) (ai r2.q.num.natAbs) (ao _) (ao _) (by have:=c1.lden;simp only[cn] at this;omega) (by have:=c2.lnum;simp only[cn] at this;omega);have zA:=cE (aL b1.1 b2.2);have qL:=cE (aL b1.2 b2.1);have vW:=vA (decide (r1.q.num<0) !=decide (r2.q.num<0)) (ai (r1.q.num.natAbs*r2.q.den)) (ai (r1.q.den*r2.q.num.natAbs)) (ao _) (ao _) (by omega) (by omega) (by rw[aj];exact Nat.mul_ne_zero r1.q.den_nz Jf);rw[aj,aj,hq] at vW;rw[aj,aj] at mU lr;have zB:=A5 (r1.q / r2.q);have hz:(((ai r2.q.num.natAbs).length:Int)==0)=false:=by
  rw[qx];exact fun h=>Jf (d8.1 h)
 rw[bu] at ha hb vW zB ⊢;unfold Raw.v at ha hb ⊢;rw[bE] at mU lr;rw[bE,bE] at ha hb;refine dq Tryz.func73 39 0 ?_;refine aY ?_;refine dw (by kernel_rfl) ?_;refine ba ?_;refine aV ha ?_;refine ba ?_;refine aV hb ?_;refine ae hz ?_;refine dw (by kernel_rfl) ?_;refine ba ?_;refine aV mU ?_;refine ba ?_;refine aV lr ?_;refine ba ?_;refine aV vW ?_;refine ba ?_;refine aV zB ?_;refine ba ?_;refine bj rfl
theorem Wj (d:Nat) (hd:(ai d).length<100000000000):Den Tryz.prog 128 [] [.fv (.sl (u32s (ai d)))] [] (.bool (decide (d=1))):=by
 have zA:(ai 1)=[1]:=mg (l:=[1]) (fun d hd=>by simp at hd;subst hd;decide) (Or.inr (by decide));have hv:=aj d;obtain⟨l,hl⟩:=ax (ai d);rw[hl] at hd hv;rw[hl];refine dq Tryz.func128 11 0 ?_;refine aY ?_;refine Br.beqInt ?_ ?_
 .intro h1 h2;obtain⟨y,rfl⟩: ∃ y,l=[y]:=length_eq_one_iff.1 (by omega);have hdy:d=y:=by rw[<-hv];simp[val]
  have hyg:(u32s [y]).getD 0 []=[FV.lit (Value.int .u32 y)]:=rfl;have hb:((y:Int)==1)=decide (d=1):=by
   rw[hdy];by_cases h:y=1
   .subst h;rfl
   rw[m5 h,qx];omega
  have Zp:([y]:List Nat).length=1:=rfl;have sB:(((1:Nat):Int)==1)=true:=rfl;refine ae (eg hyg hb Zp sB) ?_;refine⟨by simp,?_⟩;refine bj ?_;exact Hh
 intro h1 h2;have hb:decide (d=1)=false:=m5 (fun h=>h1 (by rw[h,zA] at hl;subst hl;rfl));refine ae h2 ?_;refine bj ?_;exact l7 hb
theorem Wk (k:Nat) (hk:k<=4000000000) (s t:Bool) (a c d:Nat) (ha:a<B^k) (hc:c<B^k) (hd:d<B^k) (g8:d≠0):
 Den Tryz.prog 129 [] [.bool s,.fv (.sl (u32s (ai a))),.bool t,.fv (.sl (u32s (ai c))),.fv (.sl (u32s (ai d)))] [] (FR (gY s a d+gY t c d)):=by
 have wm:=cE ha
 have RB:=cE hc
 have D7:=cE hd
 have wq:=cE (m9 ha hc)
 by_cases bM:s=t
 .have AH:=ack (ai a) (ai c) (ao _) (ao _) (by omega) (by omega)
  rw[aj,aj,bE] at AH
  have vW:=vA s (ai (a+c)) (ai d) (ao _) (ao _) (by omega) (by omega) (by rw[aj];exact g8)
  rw[aj,aj,<-CA bM g8,bu] at vW
  rw[bu]
  have hb:(s==t)=true:=by rw[bM];exact beq_self_eq_true _
  refine dq Tryz.func129 34 0 ?_
  refine bU hb ?_
  refine aV AH ?_
  refine ba ?_
  refine aV vW ?_
  refine ba ?_
  refine bj rfl
 have hb:(s==t)=false:=by rw[qx];exact bM
 have Hn:=Eg (ai a) (ai c) (ao _) (ao _) (by omega) (by omega)
 rw[aj,aj] at Hn
 refine dq Tryz.func129 34 0 ?_
 refine bU hb ?_
 refine aV Hn ?_
 refine ba ?_
 refine bS ?_ ?_
 .intro h1 h2
  rw[sK] at h1
  have h92:=We (ai c) (ai a) (ao _) (ao _) (by omega) (by omega) (by rw[aj,aj];omega)
  rw[aj,aj,bE] at h92
  have gR:=cq (Nat.sub_le c a)
  have vW:=vA t (ai (c - a)) (ai d) (ao _) (ao _) (by omega) (by omega) (by rw[aj];exact g8)
  rw[aj,aj,<-uv bM h1 g8,bu] at vW
  rw[bu]
  refine ae h2 ?_
  refine aV h92 ?_
  refine ba ?_
  refine aV vW ?_
  refine ba ?_
  refine bj rfl
 intro h1 h2
 rw[sK] at h1
 have h92:=We (ai a) (ai c) (ao _) (ao _) (by omega) (by omega) (by rw[aj,aj];omega)
 rw[aj,aj,bE] at h92
 have gR:=cq (Nat.sub_le a c)
 have vW:=vA s (ai (a - c)) (ai d) (ao _) (ao _) (by omega) (by omega) (by rw[aj];exact g8)
 rw[aj,aj,<-uw bM h1 g8,bu] at vW
 rw[bu]
 refine ae h2 ?_
 refine aV h92 ?_
 refine ba ?_
 refine aV vW ?_
 refine ba ?_
 refine bj rfl
theorem oV {x j m:Nat} (h:x<B^j) (hj:j<=m):x<B^m:=Nat.lt_of_lt_of_le h (Nat.pow_le_pow_right (by decide) hj)
theorem JV (r1 r2:Raw) (i_:r1.Ok 1000000000) (gX:r2.Ok 1000000000):Den Tryz.prog 69 [] [r1.v,r2.v] [] (FR (r1.q+r2.q)):=by
 have ha:=sL r1 (i_.mono (by decide));have hb:=sL r2 (gX.mono (by decide));have b1:=i_.bd (by decide);have b2:=gX.bd (by decide);have c1:=bC b1;have c2:=bC b2;have o1:=Wj r1.q.den (by have:=c1.lden;simp only[cn] at this;omega);have o2:=Wj r2.q.den (by have:=c2.lden;simp only[cn] at this;omega);have hq:=rI (decide (r1.q.num<0)) (decide (r2.q.num<0)) (a:=r1.q.num.natAbs) (c:=r2.q.num.natAbs) r1.q.den_nz r2.q.den_nz;rw[cZ,cZ] at hq;have mU:=w_ (ai r1.q.num.natAbs) (ai r2.q.den) (ao _) (ao _) (by have:=c1.lnum;simp only[cn] at this;omega) (by have:=c2.lden;simp only[cn] at this;omega);have lr:=w_ (ai r2.q.num.natAbs) (ai r1.q.den) (ao _) (ao _) (by have:=c2.lnum;simp only[cn] at this;omega) (by have:=c1.lden;simp only[cn] at this;omega)
 have U3:=w_ (ai r1.q.den) (ai r2.q.den) (ao _) (ao _) (by have:=c1.lden;simp only[cn] at this;omega) (by have:=c2.lden;simp only[cn] at this;omega);obtain⟨k,hk⟩: ∃ k,k=2000000000:=⟨_,rfl⟩;have hc:=Wk k (by omega) (decide (r1.q.num<0)) (decide (r2.q.num<0)) (r1.q.num.natAbs*r2.q.den) (r2.q.num.natAbs*r1.q.den) (r1.q.den*r2.q.den) (oV (aL b1.1 b2.2) (by omega)) (oV (aL b2.1 b1.2) (by omega)) (oV (aL b1.2 b2.2) (by omega)) (Nat.mul_ne_zero r1.q.den_nz r2.q.den_nz);have sB:=Wk k (by omega) (decide (r1.q.num<0)) (decide (r2.q.num<0)) r1.q.num.natAbs r2.q.num.natAbs r1.q.den (oV b1.1 (by omega)) (oV b2.1 (by omega)) (oV b1.2 (by omega)) r1.q.den_nz;rw[<-hq] at hc;rw[aj,aj] at mU lr U3;have zB:=A5 (r1.q+r2.q)
 have eI:r1.q.den=1->r2.q.den=1->gY (decide (r1.q.num<0)) r1.q.num.natAbs r1.q.den+gY (decide (r2.q.num<0)) r2.q.num.natAbs r1.q.den=r1.q+r2.q:=by
  intro h1 h2;have e1:=cZ r1.q;have e2:=cZ r2.q;rw[h2] at e2;rw[h1] at e1;rw[h1,e1,e2]
 generalize jD:r1.q+r2.q=z at*;rw[bu] at ha hb hc sB zB ⊢;unfold Raw.v at ha hb ⊢;rw[bE] at mU lr U3;rw[bE,bE] at ha hb;refine dq Tryz.func69 65 0 ?_;refine aY ?_;refine dw (by kernel_rfl) ?_;refine ba ?_;refine aV ha ?_;refine ba ?_;refine aV hb ?_;refine ba ?_;refine aV o1 ?_;refine ba ?_;refine bS ?_ ?_
 .intro h1 h2;refine ae h2 ?_;refine aV o2 ?_;refine ba ?_;refine bS ?_ ?_
  .intro h3 h4;rw[eI h1 h3] at sB;refine ae h4 ?_;refine aV sB ?_;refine ba ?_;refine aV zB ?_;refine ba ?_;refine bj rfl
  intro h3 h4;refine ae h4 ?_;refine dw (by kernel_rfl) ?_;refine ba ?_;refine aV mU ?_;refine ba ?_;refine aV lr ?_;refine ba ?_;refine aV U3 ?_;refine ba ?_;refine aV hc ?_;refine ba ?_;refine aV zB ?_;refine ba ?_;refine bj rfl
 intro h1 h2;refine ae h2 ?_;refine dw (by kernel_rfl) ?_;refine ba ?_;refine aV mU ?_;refine ba ?_;refine aV lr ?_;refine ba ?_;refine aV U3 ?_;refine ba ?_;refine aV hc ?_;refine ba ?_;refine aV zB ?_;refine ba ?_;refine bj rfl
theorem acr (r1 r2:Raw) (i_:r1.Ok 1000000000) (gX:r2.Ok 1000000000):Den Tryz.prog 258 [] [r1.v,r2.v] [] (FR (r1.q - r2.q)):=by
 have Zq:=Wi r2 (gX.mono (by decide));have b2:=gX.bd (by decide);have DL:=JV r1 (cn (-r2.q)) i_ (bC b2.neg);rw[de,<-Rat.sub_eq_add_neg] at DL;change Den Tryz.prog 69 [] [r1.v,FR (-r2.q)] [] _ at DL;rw[bu] at Zq;rw[bu,bu] at DL;rw[bu];unfold Raw.v at Zq DL ⊢;refine dq Tryz.func258 7 0 ?_;refine aY ?_;refine dw (by kernel_rfl) ?_;refine ba ?_;refine aV Zq ?_;refine ba ?_;refine aV DL ?_;refine ba ?_;refine bj rfl
theorem acs (r1 r2:Raw) (i_:r1.Ok 1000000000) (gX:r2.Ok 1000000000):Den Tryz.prog 234 [] [r1.v,r2.v] [] (.int .i64 (gA (r1.q - r2.q))):=by
 have b1:=i_.bd (by decide);have b2:=gX.bd (by decide);have h77:=acr r1 r2 i_ gX;have iP:=mm (cn (r1.q - r2.q)) ((bC (b1.sub b2 (by decide))).mono (by decide));rw[de] at iP;change Den Tryz.prog 84 [] [FR (r1.q - r2.q)] [] _ at iP;rw[bu] at h77 iP;unfold Raw.v at h77 ⊢;refine dq Tryz.func234 7 0 ?_;refine aY ?_;refine aV h77 ?_;refine ba ?_;refine aV iP ?_;refine ba ?_;refine bj ?_;exact Hh
theorem acu (n:Int) (hn: -9223372036854775808<=n/\n<9223372036854775808):Den Tryz.prog 136 [] [.int .i64 n] [] (.tup [.bool (decide (n<0)),.fv (N n.natAbs)]):=by
 refine dq Tryz.func136 19 0 ?_;refine aY ?_;obtain⟨x,hx⟩:=ax n.natAbs;rw[hx];have fR:IntKind.u32.wrap (x:Int)=((x % 4294967296:Nat):Int):=by rw[dC,Int.natCast_emod];rfl
 have fL:(x:Int) / 4294967296=((x / 4294967296:Nat):Int):=by rw[Int.natCast_ediv];rfl
 have NI:=Ef [x % 4294967296,x / 4294967296] (Dig.mk (Nat.mod_lt _ (by decide)) (Dig.mk (by simp only[B];omega) Dig.nil)) (by simp);have hv:val [x % 4294967296,x / 4294967296]=x:=by
  simp only[val,B,Nat.mul_zero,Nat.add_zero];exact Nat.mod_add_div x 4294967296
 rw[hv] at NI;obtain⟨lo,Zb⟩:=ax (x % 4294967296);obtain⟨hi,aee⟩:=ax (x / 4294967296);rw[Zb] at fR;rw[aee] at fL;rw[Zb,aee] at NI;refine bS ?_ ?_
 .intro h1 h2;have hw:IntKind.u64.wrap (0 - IntKind.u64.wrap n)=(x:Int):=by rw[qK,qK];omega
  refine ae (eg h2 hw fR fL) ?_;refine⟨by omega,?_⟩;refine gp NI ?_ ?_
  .rfl
  refine ba ?_;refine bj ?_;refine qR ?_;rw[h2]
 intro h1 h2;have hw:IntKind.u64.wrap n=(x:Int):=by rw[qK];omega
 refine ae (eg h2 hw fR fL) ?_;refine⟨by omega,?_⟩;refine gp NI ?_ ?_
 .rfl
 refine ba ?_;refine bj ?_;refine qR ?_;rw[h2]
theorem CE (n:Int):gY (decide (n<0)) n.natAbs 1=(n:Rat):=by
 unfold gY;have h:sg (decide (n<0)) n.natAbs=n:=by
  unfold sg;by_cases h:n<0
  .simp only[h,decide_true,if_true];omega
  simp only[h,decide_false];simp;omega
 rw[h];exact Rat.mkRat_one n
theorem xj (n:Int) (hn: -9223372036854775808<=n/\n<9223372036854775808):Den Tryz.prog 74 [] [.int .i64 n] [] (FR (n:Rat)):=by
 have h72:=acu n hn;have hl:(ai n.natAbs).length<=2:=aA (Nat.lt_of_lt_of_le (show n.natAbs<18446744073709551616 by omega) (by decide));have vW:=vA (decide (n<0)) (ai n.natAbs) [1] (ao _) (Dig.mk (by decide) Dig.nil) (by omega) (by simp) (by simp[val]);have hv1:val [1]=1:=rfl;rw[aj,hv1,CE] at vW;have zB:=A5 (n:Rat);rw[bu] at zB vW ⊢;rw[bE] at h72;refine dq Tryz.func74 14 0 ?_;refine aY ?_;refine aV h72 ?_;refine ba ?_;refine gp vW ?_ ?_
 .rfl
 refine ba ?_;refine aV zB ?_;refine ba ?_;refine bj rfl
theorem Wl (l:List Nat) (hd:Dig l) (hl:l.length<1000000000000):Den Tryz.prog 138 [] [.fv (.sl (u32s l))] [.row true (u32s (ai (val l)))] (.lsl 0 0 (ai (val l)).length 1):=by
 refine dq Tryz.func138 21 0 ?_;refine aY ?_;refine wl (α:=Nat) (fun n=>⟨.fv (.sl (u32s l)):: .any:: .nilsl:: .int .i64 n::replicate 18 .any,[]⟩) (fun n=>n) (fun n=>n<=l.length/\kT (l.take n)=kT l) l.length ?_ ?_ ?_
 .refine wk [] nodup_nil rfl ?_ ?_
  .simp[bk,dV,cC]
  trivial
 .exact⟨qp _,by rw[List.take_length]⟩
 rintro n ⟨hn,ht⟩;have aH:(l.take n).length=n:=by rw[length_take];omega
 refine aY ?_;refine bS ?_ ?_
 .intro h1 h2;obtain⟨j,rfl⟩: ∃ j,n=j+1:=⟨n - 1,by omega⟩;have hj:(((j+1:Nat):Int) - 1).toNat=j:=by omega
  refine ae (aP h2 hj) ?_;refine⟨by omega,?_⟩;have hg:(l.take (j+1)).getD ((l.take (j+1)).length - 1) 0=l.getD j 0:=by
   rw[aH,Nat.add_sub_cancel];simp only[qa];rw[List.getElem?_take_of_lt (by omega)]
  refine Br.beqInt ?_ ?_
  .intro h3 h4;refine ae h4 ?_;refine aw j ?_ ⟨by omega,?_⟩
   .refine wk [] nodup_nil rfl ?_ ?_
    .simp[bk,dV,cC]
    trivial
   rw[<-ht]
   conv=>rhs;rw[kT.eq_def]
   rw[dif_pos (by omega),if_pos (by rw[hg];omega),aH,Nat.add_sub_cancel,List.take_take,Nat.min_eq_left (by omega)]
  intro h3 h4;have kR:l.take (j+1)=ai (val l):=by
   rw[<-sE l hd,<-ht,kT.eq_def,dif_pos (by omega),if_neg (by rw[hg];omega)]
  refine ae (bR h4 @Nat.sub_zero aH) ?_;refine⟨by omega,by omega,?_⟩;rw[<-kR,aH];exact RetOK.own rfl ⟨cW,cW⟩ rfl
 intro h1 h2;have Jf:n=0:=by omega
 have kR:l.take n=ai (val l):=by
  rw[<-sE l hd,<-ht,kT.eq_def,dif_neg (by omega)]
 refine ae (bR h2 @Nat.sub_zero aH) ?_;refine⟨by omega,by omega,?_⟩;rw[<-kR,aH];exact RetOK.own rfl ⟨cW,cW⟩ rfl
theorem e7 (l:List Nat) (hd:Dig l) (hl:l.length<1000000000000):Den Tryz.prog 138 [] [.fv (.sl (u32s l))] [] (.fv (N (val l))):=by
 refine(Wl l hd hl).freeze ?_;simp[tL,zc,t_,fS,fB,List.idxOf?_nil,aM,N];rw[eo (by simp[aM])]
theorem Wm (a b:List Nat) (wm:a.length<1000000000000) (wT:b.length<1000000000000):Den Tryz.prog 120 [] [.fv (.sl (u32s a)),.fv (.sl (u32s b))] [] (.bool (a==b)):=by
 refine dq Tryz.func120 24 0 ?_;refine aY ?_;refine Br.bneInt ?_ ?_
 .intro h1 h2;refine ae h2 ?_;refine bj ?_;refine qR ?_;have:a≠b:=by intro h;subst h;exact h1 rfl
  simp[this]
 intro h1 h2;refine ae h2 ?_;refine wl (α:=Nat) (fun i=>⟨.fv (.sl (u32s a)):: .fv (.sl (u32s b)):: .any:: .any:: .fv (.lit (.bool false)):: .int .i64 i::replicate 20 .any,[]⟩) (fun i=>a.length - i) (fun i=>i<=a.length/\a.take i=b.take i) 0 ?_ ?_ ?_
 .refine wk [] nodup_nil rfl ?_ ?_
  .simp[bk,dV,cC]
  trivial
 .exact⟨by omega,by simp⟩
 rintro i ⟨hi,ht⟩;refine aY ?_;refine bS ?_ ?_
 .intro h3 h4;refine ae h4 ?_;refine dw (by kernel_rfl) ?_;refine ba ?_;refine⟨by omega,by omega,?_⟩;refine Br.bneInt ?_ ?_
  .intro h5 h6;refine ae h6 ?_;refine bj ?_;refine qR ?_;have:a≠b:=by intro h;subst h;exact h5 rfl
   simp[this]
  intro h5 h6;refine ae h6 ?_;refine aw (i+1) ?_ ⟨by omega,?_⟩
  .refine wk [] nodup_nil rfl ?_ ?_
   .simp[bk,dV,cC]
   trivial
  have hia:i<a.length:=by omega
  have hib:i<b.length:=by omega
  rw[take_succ_eq_append_getElem hia,take_succ_eq_append_getElem hib,ht];have e1:a.getD i 0=a[i]:=by simp[hia]
  have e2:b.getD i 0=b[i]:=by simp[hib]
  rw[<-e1,<-e2,show a.getD i 0=b.getD i 0 by omega]
 intro h3 h4;refine ae h4 ?_;refine bj ?_;refine qR ?_;rw[eo (by omega),eo (by omega)] at ht;simp[ht]
theorem OT (a b:List Nat) (ha:Dig a) (hb:Dig b) (wm:a.length<100000000000) (wT:b.length<100000000000):Den Tryz.prog 173 [] [.fv (.sl (u32s a)),.fv (.sl (u32s b))] [] (.int .i64 (oA (val a) (val b))):=by
 have hxa:(ai (val a)).length<=a.length:=aA (bG ha);have lA:(ai (val b)).length<=b.length:=aA (bG hb);have hda:=ao (val a);have UN:=ao (val b);refine dq Tryz.func173 43 0 ?_;refine aY ?_;refine gp (e7 a ha (by omega)) rfl ?_;refine ba ?_;refine gp (e7 b hb (by omega)) rfl ?_;refine ae @bE ?_;refine Br.bneInt ?_ ?_
 .intro h1 h2;refine ae h2 ?_;refine bS ?_ ?_
  .intro h3 h4;refine ae h4 ?_;refine bj ?_;refine qR ?_;rw[pT (jM (by omega))]
  intro h3 h4;refine ae h4 ?_;refine bj ?_;refine qR ?_;rw[wA (jM (by omega))]
 intro h1 h2;refine ae h2 ?_;generalize hp:ai (val a)=p at*;generalize hq:ai (val b)=q at*;refine wl (α:=Nat) (fun k=>⟨.fv (.sl (u32s p)):: .fv (.sl (u32s q)):: .any:: .any:: .int .i64 0:: .int .i64 ((k:Int) - 1)::replicate 39 .any,[]⟩) (fun k=>k) (fun k=>k<=p.length/\p.drop k=q.drop k) p.length ?_ ?_ ?_
 .exact bQ []
 .exact⟨qp _,by rw[List.drop_of_length_le (qp _),List.drop_of_length_le (by omega)]⟩
 rintro k ⟨hk,Nx⟩;refine aY ?_;refine bS ?_ ?_
 .intro h3 h4;refine ae h4 ?_;refine dw (by kernel_rfl) ?_;refine ba ?_;refine⟨by omega,by omega,?_⟩;obtain⟨j,rfl⟩: ∃ j,k=j+1:=⟨k - 1,by omega⟩;have hj:(((j+1:Nat):Int) - 1).toNat=j:=by omega
  rw[hj];have Ax:val p=val a:=by rw[<-hp,aj]
  have Ln:val q=val b:=by rw[<-hq,aj]
  refine bS ?_ ?_
  .intro h5 h6;refine ae h6 ?_;refine bj ?_;refine qR ?_;rw[<-Ax,<-Ln,pT (sF hda (by omega) (by omega) Nx (by omega))]
  intro h5 h6;refine ae h6 ?_;refine dw (by kernel_rfl) ?_;refine ae hj ?_;refine⟨by omega,by omega,?_⟩;refine bS ?_ ?_
  .intro h7 h8;refine ae h8 ?_;refine bj ?_;refine qR ?_;rw[<-Ax,<-Ln,wA (sF UN (by omega) (by omega) Nx.symm (by omega))]
  intro h7 h8;refine ae h8 ?_;refine aw j ?_ ⟨by omega,?_⟩
  .exact bQ []
  have Y_:p.drop j=p.getD j 0::p.drop (j+1):=by rw[qj (by omega)];simp[show j<p.length by omega]
  have hqj:q.drop j=q.getD j 0::q.drop (j+1):=by rw[qj (by omega)];simp[show j<q.length by omega]
  rw[Y_,hqj,Nx,show p.getD j 0=q.getD j 0 by omega]
 intro h3 h4;refine ae h4 ?_;refine bj ?_;refine qR ?_;have UO:k=0:=by omega
 subst UO;simp only[List.drop_zero] at Nx;subst Nx;have:val a=val b:=by rw[<-aj (val a),hp,<-hq,aj]
 rw[this,JM]
theorem acv (l:List Nat) (d:Nat) (hl:Dig l) (oP:l.length<100000000000) (hd:d<4294967296) (g8:0<d):
 Den Tryz.prog 209 [] [.fv (.sl (u32s l)),.int .u32 d] [] (.tup [.fv (N (val l / d)),.int .u32 ((val l % d:Nat):Int)]):=by
 refine dq Tryz.func209 42 0 ?_
 refine aY ?_
 refine⟨by omega,?_⟩
 refine wl (α:=Nat×Nat×List Nat) (fun⟨k,r,out⟩=>⟨.fv (.sl (u32s l)):: .int .u32 d:: .any:: .any:: .nilsl:: .fv (.lit (.int .u32 0)):: .lsl 0 0 l.length 1:: .int .u64 r:: .int .i64 ((k:Int) - 1)::replicate 35 .any,[.row true (u32s out)]⟩)
  (fun⟨k,_,_⟩=>k) (fun⟨k,r,out⟩=>k<=l.length/\r<d/\out.length=l.length/\Dig out/\val (out.drop k)*d+r=val (l.drop k)) (l.length,0,replicate l.length 0) ?_ ?_ ?_
 .exact bQ [0]
 .exact⟨by omega,g8,by simp,Dig.zeros,by simp[val]⟩
 rintro⟨k,r,out⟩ ⟨hk,hr,ho,Az,hv⟩
 refine aY ?_
 refine bS ?_ ?_
 .intro h1 h2
  obtain⟨j,rfl⟩: ∃ j,k=j+1:=⟨k - 1,by omega⟩
  have hj:(((j+1:Nat):Int) - 1).toNat=j:=by omega
  have hx:=hl.getD j
  simp only[B] at hx
  have D7:=eD (l:=l) (j:=j) (by omega)
  generalize DI:l.getD j 0=x at*
  have hq:(r*4294967296+x) / d<4294967296:=by
   rw[Nat.div_lt_iff_lt_mul (by omega)];have:(r+1)*4294967296<=d*4294967296:=qn _ hr;rw[Nat.mul_comm 4294967296 d];omega
  have gX:(r*4294967296+x) % d<d:=Nat.mod_lt _ (by omega)
  have hqr:=Nat.mod_add_div (r*4294967296+x) d
  have e1:((r:Int)*4294967296+x) / d=(((r*4294967296+x) / d:Nat):Int):=by
   rw[Int.natCast_ediv,Int.natCast_add,Int.natCast_mul];rfl
  have e2:((r:Int)*4294967296+x) % d=(((r*4294967296+x) % d:Nat):Int):=by
   rw[Int.natCast_emod,Int.natCast_add,Int.natCast_mul];rfl
  generalize (r*4294967296+x) / d=Q at*
  generalize (r*4294967296+x) % d=R at*
  refine ae (fE h2 hj DI @vy e1 e2) ?_
  refine⟨by omega,by omega,by omega,by omega,by omega,by omega,?_⟩
  have UQ:=m6 (l:=out) (j:=j) (x:=Q) (by omega)
  refine aw (j,R,out.set j Q) ?_ ⟨by omega,gX,by simp[ho],Az.set _ hq,?_⟩
  .exact bQ [0]
  rw[UQ,D7,<-hv]
  simp only[B]
  grind
 intro h1 h2
 refine ae h2 ?_
 have UO:k=0:=by omega
 subst UO
 simp only[List.drop_zero] at hv
 have wU:val out=val l / d/\r=val l % d:=by
  rw[<-hv,Nat.mul_comm,Nat.mul_add_div g8,Nat.mul_add_mod,Nat.div_eq_of_lt hr,Nat.mod_eq_of_lt hr];exact⟨rfl,rfl⟩
 refine gp (e7 out Az (by omega)) ?_ ?_
 .simp[cw,gW,fS,fB,aM,ho]
  rw[eo (by simp[aM,ho])]
 refine ba ?_
 refine bj ?_
 rw[<-wU.1,<-wU.2]
 exact Hh
theorem Wn (p q:List Nat) (hp:Dig p) (hq:Dig q) (UK:p.length<100000000000) (hlq:q.length<100000000000):Den Tryz.prog 83 [] [.fv (.sl (u32s p)),.fv (.sl (u32s q))] [] (.fv (N (val p+val q))):=by
 refine dq Tryz.func83 50 0 ?_;refine aY ?_;have NJ: ∃ M:Nat,M=max p.length q.length:=⟨_,rfl⟩;obtain⟨M,hM⟩:=NJ;have hmi:(if(q.length:Int)>(p.length:Int) then(q.length:Int) else(p.length:Int))=(M:Int):=by split<;>omega
 refine ae hmi ?_;have hn:((M:Int)+1).toNat=M+1:=by omega
 refine⟨by omega,?_⟩;refine wl (α:=Nat×Nat×List Nat) (fun⟨i,c,out⟩=>⟨.fv (.sl (u32s p)):: .fv (.sl (u32s q)):: .any:: .any:: .nilsl:: .lsl 0 0 (M+1) 1:: .int .u64 c:: .int .i64 i::replicate 44 .any,[.row true (u32s out)]⟩)
  (fun⟨i,_,_⟩=>M+1 - i)
  (fun⟨i,c,out⟩=>i<=M+1/\c<=1/\out.length=M+1/\Dig out/\val (out.take i)+c*B^i=val (p.take i)+val (q.take i)) (0,0,replicate (M+1) 0) ?_ ?_ ?_
 .refine eS [0] ?_ ?_
  .simp[bk,dV,cC,hn]
  simp[et,fK,hn]
 .exact⟨by omega,by omega,by simp,Dig.zeros,by simp[val]⟩
 rintro⟨i,c,out⟩ ⟨hi,hc,ho,hd,mY⟩;refine aY ?_;refine bS ?_ ?_
 .intro h1 h2;have So:=hp.getD i;have Sp:=hq.getD i;have UL:=aJ p i;have Y9:=aJ q i;have D8:p.length<=i->p.getD i 0=0:=fun h=>by rw[qa,getElem?_eq_none h];rfl
  have NG:q.length<=i->q.getD i 0=0:=fun h=>by rw[qa,getElem?_eq_none h];rfl
  simp only[B] at So Sp;generalize hP:p.getD i 0=x at*;generalize hQ:q.getD i 0=y at*;obtain⟨s,hs⟩: ∃ s,s=c+x+y:=⟨_,rfl⟩;have bM:=cy (l:=out) (i:=i) (by omega) (s % 4294967296);have eR:=kj (B^i) s;have dh:val ((out.set i (s % 4294967296)).take (i+1))+s / 4294967296*B^(i+1)=val (p.take (i+1))+val (q.take (i+1)):=by
   rw[Nat.pow_succ,bM,UL,Y9,Nat.add_assoc];have h7:B^i*(s % 4294967296)+s / 4294967296*(B^i*B)=B^i*s:=eR;rw[h7,hs];grind
  have oG:Dig (out.set i (s % 4294967296)):=hd.set i (Nat.mod_lt _ (by decide));refine ae h2 ?_;refine bS ?_ ?_
  .intro h3 h4;refine ae (aP h4 hP) ?_;refine⟨by omega,?_⟩;refine bS ?_ ?_
   .intro h5 h6;have hw:IntKind.u32.wrap ((c:Int)+x+y)=((s % 4294967296:Nat):Int):=by rw[dC];omega
    have U4:((c:Int)+x+y) / 4294967296=((s / 4294967296:Nat):Int):=by omega
    refine ae (eg h6 hQ hw U4) ?_;refine⟨by omega,by omega,by omega,by omega,?_⟩;refine aw (i+1,s / 4294967296,out.set i (s % 4294967296)) ?_ ⟨by omega,by omega,by simp[ho],oG,dh⟩;exact bQ [0]
   intro h5 h6;have:=NG (by omega);have hw:IntKind.u32.wrap ((c:Int)+x)=((s % 4294967296:Nat):Int):=by rw[dC];omega
   have U4:((c:Int)+x) / 4294967296=((s / 4294967296:Nat):Int):=by omega
   refine ae (bR h6 hw U4) ?_;refine⟨by omega,by omega,by omega,?_⟩;refine aw (i+1,s / 4294967296,out.set i (s % 4294967296)) ?_ ⟨by omega,by omega,by simp[ho],oG,dh⟩;exact bQ [0]
  intro h3 h4;have:=D8 (by omega);refine ae h4 ?_;refine bS ?_ ?_
  .intro h5 h6;have hw:IntKind.u32.wrap ((c:Int)+y)=((s % 4294967296:Nat):Int):=by rw[dC];omega
   have U4:((c:Int)+y) / 4294967296=((s / 4294967296:Nat):Int):=by omega
   refine ae (eg h6 hQ hw U4) ?_;refine⟨by omega,by omega,by omega,by omega,?_⟩;refine aw (i+1,s / 4294967296,out.set i (s % 4294967296)) ?_ ⟨by omega,by omega,by simp[ho],oG,dh⟩;exact bQ [0]
  intro h5 h6;have:=NG (by omega);have hw:IntKind.u32.wrap ((c:Int))=((s % 4294967296:Nat):Int):=by rw[dC];omega
  have U4:((c:Int)) / 4294967296=((s / 4294967296:Nat):Int):=by omega
  refine ae (bR h6 hw U4) ?_;refine⟨by omega,by omega,by omega,?_⟩;refine aw (i+1,s / 4294967296,out.set i (s % 4294967296)) ?_ ⟨by omega,by omega,by simp[ho],oG,dh⟩;exact bQ [0]
 intro h1 h2;refine ae h2 ?_;have hiM:i=M+1:=by omega
 have N':val out=val p+val q:=by
  rw[hiM,aQ (by omega),aQ (by omega),aQ (by omega)] at mY;have h5:=Nat.lt_of_lt_of_le (bG hp) (Nat.pow_le_pow_right (show 0<B by decide) (show p.length<=M by omega));have h6:=Nat.lt_of_lt_of_le (bG hq) (Nat.pow_le_pow_right (show 0<B by decide) (show q.length<=M by omega));rw[Nat.pow_succ] at mY;rcases Nat.eq_zero_or_pos c with h | h
  .subst h;omega
  exfalso;have:c=1:=by omega
  subst this;simp only[B] at*;omega
 refine gp (e7 out hd (by omega)) ?_ ?_
 .simp[cw,gW,fS,fB,aM,ho];rw[eo (by simp[aM,ho])]
 refine ba ?_;refine bj ?_;refine qR ?_;rw[N']
theorem sN {x:Int} (h:0<=x/\x<18446744073709551616):(BitVec.ofInt IntKind.i64.bits x).toNat=x.toNat:=by
 show(BitVec.ofInt 64 x).toNat=x.toNat;rw[BitVec.toNat_ofInt];have:((2^64:Nat):Int)=18446744073709551616:=by decide
 rw[this];omega
theorem XX {x:Int} (hx:0<=x/\x<9223372036854775808):
 IntKind.i64.wrap ((BitVec.ofInt IntKind.i64.bits x&&& BitVec.ofInt IntKind.i64.bits 4294967295).toNat:Int)=x % 4294967296:=by
 rw[BitVec.toNat_and,sN (by omega),sN (by omega)]
 have:(4294967295:Int).toNat=2^32 - 1:=by decide
 rw[this,Nat.and_two_pow_sub_one_eq_mod,jC (by omega)]
 omega
theorem Wo (n:Nat) (hn:n<9223372036854775808):Den Tryz.prog 82 [] [.int .i64 n] [] (.tup [.fv (N n),.int .i64 0]):=by
 have hv:val [n % 4294967296,n / 4294967296]=n:=by
  simp only[val,B];omega
 have hd:Dig [n % 4294967296,n / 4294967296]:=by
  intro d hd;simp at hd;rcases hd with rfl | rfl<;>(simp only[B];omega)
 have Ck:=e7 [n % 4294967296,n / 4294967296] hd (by simp);rw[hv] at Ck;have mW:decide ((n:Int)<0)=false:=by simp
 refine dq Tryz.func82 13 0 ?_;refine bU (aP mW @XX) ?_;refine⟨by omega,?_⟩;refine gp Ck ?_ ?_
 .simp[cw,gW,fS,fB,u32s]
 refine ba ?_;refine bj ?_;exact Hh
theorem SV (a b:List Nat) (ha:Dig a) (hb:Dig b) (wm:a.length<100000000000) (wT:b.length<100000000000) (aH:val a<val b):
 Den Tryz.prog 125 [] [.fv (.sl (u32s a)),.fv (.sl (u32s b))] [] (.tup [.fv (.sl []),.int .i64 1]):=by
 refine dq Tryz.func125 54 0 ?_
 refine aY ?_
 refine gp (OT a b ha hb wm wT) rfl ?_
 simp -dsimp(disch:=omega) only[pT aH,↓reduceIte,ru]
 refine bS ?_ ?_
 .intro h1 h2
  refine ae h2 ?_
  refine bj ?_
  exact Hh
 intro h1 h2
 omega
theorem Wp (a b:List Nat) (ha:Dig a) (hb:Dig b) (wm:a.length<100000000000) (wT:b.length<100000000000) (dT:val b<=val a):
 Den Tryz.prog 125 [] [.fv (.sl (u32s a)),.fv (.sl (u32s b))] [] (.tup [.fv (N (val a - val b)),.int .i64 0]):=by
 have hxa:(ai (val a)).length<=a.length:=aA (bG ha)
 have lA:(ai (val b)).length<=(ai (val a)).length:=sG dT
 have hp:=ao (val a)
 have hq:=ao (val b)
 have Ax:=aj (val a)
 have Ln:=aj (val b)
 have Ay:decide (oA (val a) (val b)<0)=false:=by
  unfold oA;rw[if_neg (by omega)];split<;>simp
 refine dq Tryz.func125 54 0 ?_
 refine aY ?_
 refine gp (OT a b ha hb wm wT) rfl ?_
 refine ae Ay ?_
 refine gp (Wl a ha (by omega)) rfl ?_
 refine ba ?_
 refine gp (e7 b hb (by omega)) rfl ?_
 refine ae @bE ?_
 generalize ai (val a)=p at*
 generalize ai (val b)=q at*
 refine wl (α:=Nat×Nat×List Nat) (fun⟨i,c,out⟩=>⟨.fv (.sl (u32s a)):: .fv (.sl (u32s q)):: .any:: .any:: .nilsl:: .any:: .lsl 0 0 p.length 1:: .int .u64 c:: .int .i64 i::replicate 47 .any,[.row true (u32s out)]⟩)
  (fun⟨i,_,_⟩=>p.length - i)
  (fun⟨i,c,out⟩=>i<=p.length/\c<=1/\out.length=p.length/\Dig out/\(∀ j,i<=j->out.getD j 0=p.getD j 0)/\val (out.take i)+val (q.take i)=val (p.take i)+c*B^i) (0,0,p) ?_ ?_ ?_
 .exact bQ [0]
 .exact⟨by omega,by omega,rfl,hp,fun _ _=>rfl,by simp[val]⟩
 rintro⟨i,c,out⟩ ⟨hi,hc,ho,hd,eX,mY⟩
 refine aY ?_
 refine bS ?_ ?_
 .intro h1 h2
  have So:=hp.getD i
  have Sp:=hq.getD i
  have UL:=aJ p i
  have Y9:=aJ q i
  have hO:out.getD i 0=p.getD i 0:=eX i (qp _)
  have NG:q.length<=i->q.getD i 0=0:=fun h=>by rw[qa,getElem?_eq_none h];rfl
  simp only[B] at So Sp
  generalize p.getD i 0=x at*
  generalize hQ:q.getD i 0=y at*
  have fin: ∀ dg c2:Nat,dg+y+c=x+c2*4294967296->val ((out.set i dg).take (i+1))+val (q.take (i+1))=val (p.take (i+1))+c2*B^(i+1):=by
   intro dg c2 h;rw[Nat.pow_succ,cy (by omega),UL,Y9];simp only[B] at*;grind
  have rest: ∀ dg:Nat,∀ j,i+1<=j->(out.set i dg).getD j 0=p.getD j 0:=by
   intro dg j hj;rw[<-eX j (by omega)];simp only[qa];rw[getElem?_set_ne (by omega)]
  refine ae h2 ?_
  refine bS ?_ ?_
  .intro h3 h4
   refine ae (bR h4 hO hQ) ?_
   refine⟨by omega,by omega,by omega,?_⟩
   refine bS ?_ ?_
   .intro h5 h6
    obtain⟨dg,Ny⟩: ∃ dg,dg+(c+y)=x+4294967296:=⟨x+4294967296 - ((c+y)),by omega⟩
    have oG:Dig (out.set i dg):=hd.set i (by simp only[B];omega)
    have dh:=fun(c2:Nat) (h:dg+y+c=x+c2*4294967296)=>fin dg c2 h
    have su:=rest dg
    have hw:IntKind.u32.wrap ((x:Int)+4294967296 - ((c:Int)+y))=((dg:Nat):Int):=by rw[dC];omega
    refine ae (bR h6 hO hw) ?_
    refine⟨by omega,by omega,?_⟩
    refine aw (i+1,1,out.set i dg) ?_ ⟨by omega,by omega,by simp[ho],oG,su,dh _ (by omega)⟩
    exact bQ [0]
   intro h5 h6
   obtain⟨dg,Ny⟩: ∃ dg,dg+(c+y)=x:=⟨x - ((c+y)),by omega⟩
   have oG:Dig (out.set i dg):=hd.set i (by simp only[B];omega)
   have dh:=fun(c2:Nat) (h:dg+y+c=x+c2*4294967296)=>fin dg c2 h
   have su:=rest dg
   have hw:IntKind.u32.wrap ((x:Int) - ((c:Int)+y))=((dg:Nat):Int):=by rw[dC];omega
   refine ae (bR h6 hO hw) ?_
   refine⟨by omega,by omega,?_⟩
   refine aw (i+1,0,out.set i dg) ?_ ⟨by omega,by omega,by simp[ho],oG,su,dh _ (by omega)⟩
   exact bQ [0]
  intro h3 h4
  have:=NG (by omega)
  refine ae (aP h4 hO) ?_
  refine⟨by omega,by omega,?_⟩
  refine bS ?_ ?_
  .intro h5 h6
   obtain⟨dg,Ny⟩: ∃ dg,dg+c=x+4294967296:=⟨x+4294967296 - (c),by omega⟩
   have oG:Dig (out.set i dg):=hd.set i (by simp only[B];omega)
   have dh:=fun(c2:Nat) (h:dg+y+c=x+c2*4294967296)=>fin dg c2 h
   have su:=rest dg
   have hw:IntKind.u32.wrap ((x:Int)+4294967296 - ((c:Int)))=((dg:Nat):Int):=by rw[dC];omega
   refine ae (bR h6 hO hw) ?_
   refine⟨by omega,by omega,?_⟩
   refine aw (i+1,1,out.set i dg) ?_ ⟨by omega,by omega,by simp[ho],oG,su,dh _ (by omega)⟩
   exact bQ [0]
  intro h5 h6
  obtain⟨dg,Ny⟩: ∃ dg,dg+c=x:=⟨x - (c),by omega⟩
  have oG:Dig (out.set i dg):=hd.set i (by simp only[B];omega)
  have dh:=fun(c2:Nat) (h:dg+y+c=x+c2*4294967296)=>fin dg c2 h
  have su:=rest dg
  have hw:IntKind.u32.wrap ((x:Int) - ((c:Int)))=((dg:Nat):Int):=by rw[dC];omega
  refine ae (bR h6 hO hw) ?_
  refine⟨by omega,by omega,?_⟩
  refine aw (i+1,0,out.set i dg) ?_ ⟨by omega,by omega,by simp[ho],oG,su,dh _ (by omega)⟩
  exact bQ [0]
 intro h1 h2
 refine ae h2 ?_
 have UM:i=p.length:=by omega
 have N':val out=val a - val b:=by
  rw[UM,aQ (by omega),aQ lA,aQ (qp _),Ax,Ln] at mY;have h5:=bG hd;rw[ho] at h5;have h6:c=0:=by
   rcases Nat.eq_zero_or_pos c with h | h
   .exact h
   exfalso;have:c=1:=by omega
   subst this;omega
  subst h6;omega
 refine gp (e7 out hd (by omega)) ?_ ?_
 .simp[cw,gW,fS,fB,aM,ho]
  rw[eo (by simp[aM,ho])]
 refine ba ?_
 refine bj ?_
 refine qR ?_
 rw[N']
theorem acw {x y:Nat} (k:Nat) (hx:x % 2^k=0) (hy:y<2^k) (qS:x<18446744073709551616) (vj:y<18446744073709551616):
 IntKind.u64.wrap ((BitVec.ofInt IntKind.u64.bits (x:Int)||| BitVec.ofInt IntKind.u64.bits (y:Int)).toNat:Int)=((x+y:Nat):Int):=by
 rw[wB,BitVec.toNat_or,d4 (by omega),d4 (by omega),Int.toNat_natCast,Int.toNat_natCast,Cu k hx hy]
theorem Wq (l:List Nat) (k:Nat) (hl:Dig l) (oP:l.length<100000000000) (hk:k<32):
 Den Tryz.prog 210 [] [.fv (.sl (u32s l)),.int .i64 k] [.row true (u32s (ij (l.length+1) (val l*2^k)))] (.lsl 0 0 (l.length+1) 1):=by
 have Oa:2^k<=2147483648:=Nat.pow_le_pow_right (by decide) (show k<=31 by omega)
 have D8:0<2^k:=Nat.two_pow_pos k
 have AA:(k<=64)=True:=by simp;omega
 have hwk:IntKind.u64.wrap (k:Int)=(k:Int):=dI (by omega)
 refine dq Tryz.func210 41 0 ?_
 refine aY ?_
 refine⟨by omega,?_⟩
 have hn:((l.length:Int)+1).toNat=l.length+1:=by omega
 refine wl (α:=Nat×Nat×List Nat) (fun⟨i,c,out⟩=>⟨.fv (.sl (u32s l)):: .int .i64 k:: .any:: .any:: .nilsl:: .lsl 0 0 (l.length+1) 1:: .int .u64 c:: .int .i64 i::replicate 35 .any,[.row true (u32s out)]⟩)
  (fun⟨i,_,_⟩=>l.length - i) (fun⟨i,c,out⟩=>i<=l.length/\c<2^k/\out.length=l.length+1/\Dig out/\val (out.take i)+c*B^i=val (l.take i)*2^k) (0,0,replicate (l.length+1) 0) ?_ ?_ ?_
 .refine eS [0] ?_ ?_
  .simp[bk,dV,cC,hn]
  simp[et,fK,hn]
 .exact⟨by omega,D8,by simp,Dig.zeros,by simp[val]⟩
 rintro⟨i,c,out⟩ ⟨hi,hc,ho,Az,hv⟩
 refine aY ?_
 refine bS ?_ ?_
 .intro h1 h2
  have hx:=hl.getD i
  simp only[B] at hx
  have gv:=aJ l i
  generalize DI:l.getD i 0=x at*
  have hxv:x*2^k<9223372036854775808:=by
   have:x*2^k<=4294967295*2147483648:=Nat.mul_le_mul (by omega) Oa;omega
  have GX:(x:Int)*2^k=((x*2^k:Nat):Int):=by rw[Int.natCast_mul,Int.natCast_pow];rfl
  have GW:x*2^k % 2^k=0:=Nat.mul_mod_left _ _
  have fL:(x*2^k+c) / 4294967296<2^k:=by
   rw[Nat.div_lt_iff_lt_mul (by decide)];have:(x+1)*2^k<=4294967296*2^k:=qn _ hx;rw[Nat.mul_comm 4294967296] at this;rw[Nat.add_mul] at this;omega
  generalize AD:x*2^k=v at*
  have Oc:=acw k GW hc (by omega) (by omega)
  obtain⟨s,hs⟩: ∃ s,s=v+c:=⟨_,rfl⟩
  rw[<-hs] at fL Oc
  have ND:IntKind.u32.wrap (s:Int)=((s % 4294967296:Nat):Int):=by rw[dC];rfl
  have UQ:(s:Int) / 4294967296=((s / 4294967296:Nat):Int):=by rw[Int.natCast_ediv];rfl
  have bM:=cy (l:=out) (i:=i) (by omega) (s % 4294967296)
  have eR:=kj (B^i) s
  refine ae (bT h2 AA hwk GX DI Oc ND UQ) ?_
  refine⟨by omega,by omega,by omega,by omega,by omega,?_⟩
  refine aw (i+1,s / 4294967296,out.set i (s % 4294967296)) ?_ ⟨by omega,fL,by simp[ho],Az.set _ (Nat.mod_lt _ (by decide)),?_⟩
  .exact bQ [0]
  rw[Nat.pow_succ,bM,gv,Nat.add_assoc]
  have h7:B^i*(s % 4294967296)+s / 4294967296*(B^i*B)=B^i*s:=eR
  rw[h7,hs]
  grind
 intro h1 h2
 have dW:i=l.length:=by omega
 have hwc:IntKind.u32.wrap (c:Int)=(c:Int):=cV (by omega)
 refine ae (aP h2 hwc) ?_
 refine⟨by omega,by omega,?_⟩
 have bM:=cy (l:=out) (i:=l.length) (by omega) c
 have fR:(out.set l.length c).length=l.length+1:=by simp[ho]
 rw[aQ (by omega)] at bM
 rw[dW,aQ (qp _)] at hv
 have hvo:val (out.set l.length c)=val l*2^k:=by rw[bM,<-hv,Nat.mul_comm]
 rw[<-hvo,<-fR,<-Cv (Az.set _ (by simp only[B];omega)),fR]
 exact RetOK.own rfl ⟨cW,cW⟩ rfl
theorem JW {l:List Nat} {i:Nat} (hi:i<l.length) (x:Nat):val (l.set i x)+B^i*l.getD i 0=val l+B^i*x:=by
 have h1:=jg (l.set i x) (i+1) (by simp;omega);have h2:=jg l (i+1) (by omega);rw[cy hi,List.drop_set_of_lt (by omega)] at h1;rw[aJ] at h2;omega
theorem Es (p q:List Nat) (hp:Dig p) (hq:Dig q) (UK:p.length<10000000000) (hlq:q.length<10000000000):
 Den Tryz.prog 124 [] [.fv (.sl (u32s p)),.fv (.sl (u32s q))] [] (.fv (N (val p*val q))):=by
 refine dq Tryz.func124 83 0 ?_
 refine aY ?_
 refine⟨by omega,?_⟩
 have hn:((p.length:Int)+(q.length:Int)+1).toNat=p.length+q.length+1:=by omega
 obtain⟨L,hL⟩: ∃ L,L=p.length+q.length+1:=⟨_,rfl⟩
 refine wl (α:=Nat×List Nat) (fun⟨i,out⟩=>⟨.fv (.sl (u32s p)):: .fv (.sl (u32s q)):: .any:: .any:: .nilsl:: .lsl 0 0 L 1:: .int .i64 i::replicate 78 .any,[.row true (u32s out)]⟩)
  (fun⟨i,_⟩=>p.length - i)
  (fun⟨i,out⟩=>i<=p.length/\out.length=L/\Dig out/\val out=val (p.take i)*val q) (0,replicate L 0) ?_ ?_ ?_
 .refine eS [0] ?_ ?_
  .simp[bk,dV,cC,hn,hL]
  simp[et,fK,hn,hL]
 .exact⟨by omega,by simp,Dig.zeros,by simp[val,AZ]⟩
 rintro⟨i,wo⟩ ⟨hi,Y',g8,Hi⟩
 refine aY ?_
 refine bS ?_ ?_
 .intro h1 h2
  refine ae h2 ?_
  have hx:=hp.getD i
  have UL:=aJ p i
  simp only[B] at hx
  generalize DI:p.getD i 0=x at*
  refine wl (α:=Nat×Nat×List Nat) (fun⟨k,c,out⟩=>⟨.fv (.sl (u32s p)):: .fv (.sl (u32s q)):: .any:: .any:: .nilsl:: .lsl 0 0 L 1:: .int .i64 i:: .int .u64 c:: .int .i64 k::replicate 76 .any,[.row true (u32s out)]⟩)
   (fun⟨k,_,_⟩=>q.length - k)
   (fun⟨k,c,out⟩=>k<=q.length/\c<4294967296/\out.length=L/\Dig out/\val out+c*B^(i+k)=val wo+x*val (q.take k)*B^i) (0,0,wo) ?_ ?_ ?_
  .exact bQ [0]
  .exact⟨by omega,by omega,Y',g8,by simp[val]⟩
  rintro⟨k,c,out⟩ ⟨hk,hc,ho,hd,hv⟩
  refine aY ?_
  refine bS ?_ ?_
  .intro h3 h4
   refine ae h4 ?_
   refine dw (by kernel_rfl) ?_
   have hy:=hq.getD k
   have hqk:=aJ q k
   simp only[B] at hy
   have Za:((i:Int)+(k:Int)).toNat=i+k:=by omega
   have iU:=hd.getD (i+k)
   simp only[B] at iU
   have bM:=fun z=>JW (l:=out) (i:=i+k) (by omega) z
   have eR:=kj (B^(i+k))
   generalize Sq:q.getD k 0=y at*
   generalize hod:out.getD (i+k) 0=o at*
   have Hj:x*y<=18446744065119617025:=gI (Nat.mul_le_mul (show x<=4294967295 by omega) (show y<=4294967295 by omega)) (by decide)
   have GX:(x:Int)*y=((x*y:Nat):Int):=by rw[Int.natCast_mul]
   generalize hm:x*y=m at*
   obtain⟨s,hs⟩: ∃ s,s=m+o+c:=⟨_,rfl⟩
   have AF:(m:Int)+o+c=(s:Int):=by omega
   have ND:IntKind.u32.wrap (s:Int)=((s % 4294967296:Nat):Int):=by rw[dC];rfl
   have UQ:(s:Int) / 4294967296=((s / 4294967296:Nat):Int):=by rw[Int.natCast_ediv];rfl
   refine ae (bT Sq DI Za hod GX AF ND UQ) ?_
   refine⟨by omega,by omega,by omega,by omega,by omega,by omega,by omega,?_⟩
   have dh:val (out.set (i+k) (s % 4294967296))+s / 4294967296*B^(i+(k+1))=val wo+x*val (q.take (k+1))*B^i:=by
    have h5:=bM (s % 4294967296);have h6:B^(i+k)*(s % 4294967296)+s / 4294967296*(B^(i+k)*B)=B^(i+k)*s:=eR s;rw[hqk,<-Nat.add_assoc i k 1,Nat.pow_succ];have h7:B^(i+k)*s=B^(i+k)*m+B^(i+k)*o+c*B^(i+k):=by rw[hs];grind
    have h8:x*(val (q.take k)+B^k*y)*B^i=x*val (q.take k)*B^i+B^(i+k)*m:=by rw[Nat.pow_add,<-hm];grind
    rw[h8];omega
   refine aw (k+1,s / 4294967296,out.set (i+k) (s % 4294967296)) ?_ ⟨by omega,by omega,by simp[ho],hd.set _ (Nat.mod_lt _ (by decide)),dh⟩
   exact bQ [0]
  intro h3 h4
  refine ae h4 ?_
  have hkq:k=q.length:=by omega
  have hT:val out+c*B^(i+q.length)=val (p.take (i+1))*val q:=by
   rw[hkq,aQ (qp _),Hi] at hv;rw[hv,UL];grind
  have aH:val (p.take (i+1))*val q<B^(p.length+q.length):=by
   rw[Nat.pow_add];have h5:=bG (hp.take (i+1));have h6:B^(p.take (i+1)).length<=B^p.length:=Nat.pow_le_pow_right (by decide) (by rw[length_take];omega);exact Nat.mul_lt_mul'' (Nat.lt_of_lt_of_le h5 h6) (bG hq)
  generalize U5:val (p.take (i+1))*val q=TT at*
  refine wl (α:=Nat×Nat×List Nat) (fun⟨k,c,out⟩=>⟨.fv (.sl (u32s p)):: .fv (.sl (u32s q)):: .any:: .any:: .nilsl:: .lsl 0 0 L 1:: .int .i64 i:: .int .u64 c:: .any:: .any:: .int .i64 k::replicate 74 .any,[.row true (u32s out)]⟩)
   (fun⟨k,_,_⟩=>L - k)
   (fun⟨k,c,out⟩=>c<4294967296/\out.length=L/\Dig out/\val out+c*B^k=TT) (i+q.length,c,out) ?_ ?_ ?_
  .exact bQ [0]
  .exact⟨hc,ho,hd,hT⟩
  rintro⟨j,c1,RD⟩ ⟨sB,jx,Sx,hv1⟩
  have Zr:0<c1->j<p.length+q.length:=by
   intro h;have h5:1*B^j<=c1*B^j:=qn _ h;have h6:B^j<B^(p.length+q.length):=by omega
   exact(Nat.pow_lt_pow_iff_right (by decide)).1 h6
  refine aY ?_
  refine bS ?_ ?_
  .intro h5 h6
   have hj:=Zr (by omega)
   have iU:=Sx.getD j
   simp only[B] at iU
   have bM:=fun z=>JW (l:=RD) (i:=j) (by omega) z
   have eR:=kj (B^j)
   generalize hod:RD.getD j 0=o at*
   obtain⟨s,hs⟩: ∃ s,s=o+c1:=⟨_,rfl⟩
   have AF:(o:Int)+c1=(s:Int):=by omega
   have ND:IntKind.u32.wrap (s:Int)=((s % 4294967296:Nat):Int):=by rw[dC];rfl
   have UQ:(s:Int) / 4294967296=((s / 4294967296:Nat):Int):=by rw[Int.natCast_ediv];rfl
   refine ae (im h6 hod AF ND UQ) ?_
   refine⟨by omega,by omega,by omega,by omega,by omega,?_⟩
   have dh:val (RD.set j (s % 4294967296))+s / 4294967296*B^(j+1)=TT:=by
    have h7:=bM (s % 4294967296);have h8:B^j*(s % 4294967296)+s / 4294967296*(B^j*B)=B^j*s:=eR s;rw[Nat.pow_succ];have h9:B^j*s=B^j*o+c1*B^j:=by rw[hs];grind
    omega
   refine aw (j+1,s / 4294967296,RD.set j (s % 4294967296)) ?_ ⟨by omega,by simp[jx],Sx.set _ (Nat.mod_lt _ (by decide)),dh⟩
   exact bQ [0]
  intro h5 h6
  have Cl:c1=0:=by omega
  subst Cl
  refine ae h6 ?_
  refine aw (i+1,RD) ?_ ⟨by omega,jx,Sx,by rw[U5];simpa using hv1⟩
  exact bQ [0]
 intro h1 h2
 refine ae h2 ?_
 have UM:i=p.length:=by omega
 refine gp (e7 wo g8 (by omega)) ?_ ?_
 .simp[cw,gW,fS,fB,aM,Y']
  rw[eo (by simp[aM,Y'])]
 refine ba ?_
 refine bj ?_
 rw[UM,aQ (qp _)] at Hi
 exact l7 Hi
theorem acx (l:List Nat) (k:Nat) (hl:Dig l) (oP:l.length<100000000000) (hk:k<32):
 Den Tryz.prog 212 [] [.fv (.sl (u32s l)),.int .i64 k] [] (.fv (N (val l / 2^k))):=by
 have AA:(k<=64)=True:=by simp;omega
 have hwk:IntKind.u64.wrap (k:Int)=(k:Int):=dI (by omega)
 refine dq Tryz.func212 44 0 ?_
 refine aY ?_
 refine⟨by omega,?_⟩
 refine wl (α:=Nat×List Nat) (fun⟨i,out⟩=>⟨.fv (.sl (u32s l)):: .int .i64 k:: .any:: .any:: .nilsl:: .lsl 0 0 l.length 1:: .int .i64 i::replicate 39 .any,[.row true (u32s out)]⟩)
  (fun⟨i,_⟩=>l.length - i) (fun⟨i,out⟩=>i<=l.length/\out.length=l.length/\Dig out/\out.take i=ij i (val l / 2^k)) (0,replicate l.length 0) ?_ ?_ ?_
 .exact bQ [0]
 .exact⟨by omega,by simp,Dig.zeros,by simp[ij]⟩
 rintro⟨i,out⟩ ⟨hi,ho,Az,hv⟩
 refine aY ?_
 refine bS ?_ ?_
 .intro h1 h2
  have hx:=hl.getD i
  have hy:=hl.getD (i+1)
  have zY:(l.getD i 0+l.getD (i+1) 0*4294967296) / 2^k % 4294967296=val l / 2^k / B^i % 4294967296:=by
   rw[q8 (l:=l) (i:=i) (k:=k) (by omega) (by omega),<-iv hl hi,Nat.div_div_eq_div_mul,Nat.div_div_eq_div_mul,Nat.mul_comm (2^k)]
  have oI:((i:Int)+1).toNat=i+1:=by omega
  have D8:0<2^k:=Nat.two_pow_pos k
  have tR:l.length<=i+1->l.getD (i+1) 0=0:=fun h=>by rw[qa,getElem?_eq_none h];rfl
  simp only[B] at hx hy
  generalize DI:l.getD i 0=x at*
  generalize Sq:l.getD (i+1) 0=y at*
  obtain⟨s,hs⟩: ∃ s,s=x+y*4294967296:=⟨_,rfl⟩
  rw[<-hs] at zY
  have AF:(x:Int)+y*4294967296=(s:Int):=by omega
  have Xf:((s:Int)) / 2^k=((s / 2^k:Nat):Int):=by rw[Int.natCast_ediv,Int.natCast_pow];rfl
  have ND:IntKind.u32.wrap ((s / 2^k:Nat):Int)=((s / 2^k % 4294967296:Nat):Int):=by rw[dC];rfl
  have hpp:(0:Int)<=2^k:=by
   have:(2:Int)^k=((2^k:Nat):Int):=by rw[Int.natCast_pow];rfl
   omega
  generalize Ny:s / 2^k % 4294967296=dg at*
  have UY:dg<4294967296:=by rw[<-Ny];exact Nat.mod_lt _ (by decide)
  have dh:(out.set i dg).take (i+1)=ij (i+1) (val l / 2^k):=by
   rw[A0,<-hv,take_succ_eq_append_getElem (by simp;omega),List.take_set_of_le (qp i)];simp only[List.getElem_set_self,B] at*;rw[zY]
  refine ae (aP h2 DI) ?_
  refine⟨by omega,?_⟩
  refine bS ?_ ?_
  .intro h3 h4
   refine ae (bT h4 oI Sq @Wd AF AA hwk (aP Xf ND)) ?_
   refine⟨by omega,by omega,by omega,by omega,by omega,?_⟩
   refine aw (i+1,out.set i dg) ?_ ⟨by omega,by simp[ho],Az.set _ UY,dh⟩
   exact bQ [0]
  intro h3 h4
  have AG:=tR (by omega)
  have hsx:(x:Int)=(s:Int):=by omega
  refine ae (fE h4 hsx AA hwk Xf ND) ?_
  refine⟨by omega,by omega,by omega,?_⟩
  refine aw (i+1,out.set i dg) ?_ ⟨by omega,by simp[ho],Az.set _ UY,dh⟩
  exact bQ [0]
 intro h1 h2
 refine ae h2 ?_
 have dW:i=l.length:=by omega
 have hvo:val out=val l / 2^k:=by
  rw[dW,eo (by omega)] at hv;rw[hv,ko];exact Hw (Nat.div_le_self _ _) (bG hl)
 refine gp (e7 out Az (by omega)) ?_ ?_
 .simp[cw,gW,fS,fB,aM,ho]
  rw[eo (by simp[aM,ho])]
 refine ba ?_
 refine bj ?_
 exact l7 hvo
set_option maxHeartbeats 4000000
theorem acy (u v:List Nat) (j n:Nat) (zY:Dig u) (AD:Dig v) (hn:v.length=n) (ub:2<=n) (hj:j+n+1<=u.length) (zt:u.length<10000000010) (wu:2147483648<=v.getD (n - 1) 0) (aH:val (u.drop (j+1))<val v):
 Den Tryz.prog 211 [.row true (u32s u)] [.lsl 0 0 u.length 1,.fv (.sl (u32s v)),.int .i64 j] [.row true (u32s (jz u j (n+1) (fG u j (n+1) % val v)))] (.int .u32 ((fG u j (n+1) / val v:Nat):Int)):=by
 obtain⟨L,hL⟩:=ax u.length
 have Zs:((n:Int) - 1).toNat=n - 1:=by omega
 have aiG:((n:Int) - 2).toNat=n - 2:=by omega
 have Rv:=AD.getD (n - 1)
 have Rx:=AD.getD (n - 2)
 simp only[B] at Rv Rx
 obtain⟨top,ht⟩:=ax (v.getD (n - 1) 0)
 obtain⟨sec,hs⟩:=ax (v.getD (n - 2) 0)
 rw[ht] at Rv wu
 rw[hs] at Rx
 have i1:((j:Int)+(n:Int)).toNat=j+n:=by omega
 have i2:((j:Int)+(n:Int) - 1).toNat=j+n - 1:=by omega
 have i3:((j:Int)+(n:Int) - 2).toNat=j+n - 2:=by omega
 have LH:=uq (j:=j) zY AD hn ub (by omega) aH
 have d1:=zY.getD (j+n)
 have d2:=zY.getD (j+n - 1)
 have d3:=zY.getD (j+n - 2)
 simp only[B] at d1 d2 d3
 have g9:=LH.first
 rw[ht] at g9
 obtain⟨x1,zw⟩:=ax (u.getD (j+n) 0)
 obtain⟨x2,qS⟩:=ax (u.getD (j+n - 1) 0)
 obtain⟨x3,NC⟩:=ax (u.getD (j+n - 2) 0)
 rw[zw] at d1 g9
 rw[qS] at d2 g9
 rw[NC] at d3
 obtain⟨F,hF⟩: ∃ F,F=x1*4294967296+x2:=⟨_,rfl⟩
 have hFi:(x1:Int)*4294967296+(x2:Int)=(F:Int):=by omega
 rw[<-hF] at g9
 have hFt:F / top<=4294967297:=OG wu g9
 have hFm:F % top<top:=Nat.mod_lt _ (by omega)
 have dj:0<val v:=by have:=LH.v1;rw[ht] at this;have h0:0<top*B^(n - 1):=Nat.mul_pos (by omega) (JI (by decide));omega
 obtain⟨Q,hQ⟩: ∃ Q,Q=fG u j (n+1) / val v:=⟨_,rfl⟩
 have hQv:Q*val v<=fG u j (n+1):=by rw[hQ];exact Nat.div_mul_le_self _ _
 have LH1:=LH.h1
 rw[zw,qS,<-hF] at LH1
 have LHv:=LH.v1
 rw[ht] at LHv
 have bM:=Ej (q:=Q) (by omega) (xd (JI (by decide)) LH1 LH.s1 LHv hQv)
 have hQb:Q<4294967296:=by
  rw[hQ,Nat.div_lt_iff_lt_mul dj,Nat.mul_comm];exact LH.lt
 have hq:(F:Int) / (top:Int)=((F / top:Nat):Int):=by rw[Int.natCast_ediv]
 have hr:(F:Int) % (top:Int)=((F % top:Nat):Int):=by rw[Int.natCast_emod]
 generalize F / top=g0 at*
 generalize F % top=r0 at*
 refine dq Tryz.func211 176 1 ?_
 refine ae (aP hn hL) ?_
 refine dw (by kernel_rfl) ?_
 refine ae (fE i1 i2 zw qS @vy hFi) ?_
 refine⟨by omega,by omega,by omega,by omega,by omega,?_⟩
 refine dw (by kernel_rfl) ?_
 refine ae (im hn Zs ht hq hr) ?_
 refine⟨by omega,by omega,by omega,by omega,?_⟩
 refine WA.blockcut (fun(y:Nat×(Nat->PV))=>⟨[.lsl 0 0 L 1,.fv (.sl (u32s v)),.int .i64 j,.any,.any,.any,.any,.int .i64 n,.any,.int .u64 y.1]++tl y.2 10 169,[.row true (u32s u)]⟩)
  (fun y=>Q<=y.1/\y.1<4294967296/\(y.1 - 1)*val v<=fG u j (n+1)) ?_ ?_
 .refine wl (α:=Nat×Nat) (fun⟨g,r⟩=>⟨.lsl 0 0 L 1:: .fv (.sl (u32s v)):: .int .i64 j:: .any:: .any:: .any:: .any:: .int .i64 n:: .any:: .int .u64 g:: .int .u64 r::replicate 168 .any,[.row true (u32s u)]⟩)
   (fun⟨g,_⟩=>g) (fun⟨g,r⟩=>vz F top Q g r/\r<4294967296/\g<=4294967297) (g0,r0) ?_ ?_ ?_
  .exact bQ [0]
  .exact⟨bM,by omega,hFt⟩
  rintro⟨g,r⟩ ⟨Hk,GY,oJ⟩
  refine aY ?_
  refine dw (by kernel_rfl) ?_
  refine ba ?_
  refine bS ?_ ?_
  .intro h3 h4
   have mT:Q<g:=by omega
   obtain⟨g',rfl⟩: ∃ g',g=g'+1:=⟨g - 1,by omega⟩
   have nY:=wC Hk mT
   rw[Nat.add_sub_cancel] at nY
   have DJ:((g'+1:Nat):Int) - 1=(g':Int):=by omega
   refine ae (im h4 DJ hn Zs ht) ?_
   repeat refine ag ?_
   refine bS ?_ ?_
   .intro h5 h6
    refine ae h6 ?_
    have qU:=Cw (second:=sec) nY (by omega) g9 (by omega)
    refine Mid.ex g' rfl ⟨by omega,qU.1,?_⟩
    refine j8 LH qU.1 (by omega) ?_
    rw[ht,hs,zw,qS,NC,<-hF]
    exact pU nY (gI qU.2 (Nat.le_add_right _ _))
   intro h5 h6
   refine ae h6 ?_
   refine aw (g',r+top) ?_ ⟨nY,by omega,by omega⟩
   exact bQ [0]
  intro h3 h4
  have wV:g<4294967296:=by omega
  have hgs:g*sec<=4294967295*4294967295:=Nat.mul_le_mul (by omega) (by omega)
  have UU:(g:Int)*(sec:Int)=((g*sec:Nat):Int):=by rw[Int.natCast_mul]
  obtain⟨gs,Jb⟩:=ax (g*sec)
  rw[Jb] at hgs UU
  have hrd:decide ((r:Int)<4294967296)=true:=GV
  refine ae (bT h4 hrd UU aiG hs i3 NC @vy) ?_
  repeat refine ag ?_
  refine bS ?_ ?_
  .intro h7 h8
   have mT:Q<g:=by
    have LH2:=LH.h2;have LHv2:=LH.v2;rw[zw,qS,NC,<-hF] at LH2;rw[ht,hs] at LHv2;exact JQ (JI (by decide)) LH2 LH.s2 rfl LHv2 hQv Hk (by rw[Jb];omega)
   obtain⟨g',rfl⟩: ∃ g',g=g'+1:=⟨g - 1,by omega⟩
   have nY:=wC Hk mT
   rw[Nat.add_sub_cancel] at nY
   have DJ:((g'+1:Nat):Int) - 1=(g':Int):=by omega
   refine ae (im h8 DJ hn Zs ht) ?_
   repeat refine ag ?_
   refine bS ?_ ?_
   .intro h5 h6
    refine ae h6 ?_
    have qU:=Cw (second:=sec) nY (by omega) g9 (by omega)
    refine Mid.ex g' rfl ⟨by omega,qU.1,?_⟩
    refine j8 LH qU.1 (by omega) ?_
    rw[ht,hs,zw,qS,NC,<-hF]
    exact pU nY (gI qU.2 (Nat.le_add_right _ _))
   intro h5 h6
   refine ae h6 ?_
   refine aw (g',r+top) ?_ ⟨nY,by omega,by omega⟩
   exact bQ [0]
  intro h7 h8
  refine ae h8 ?_
  refine Mid.ex g rfl ⟨Hk.low,wV,?_⟩
  refine j8 LH wV (by omega) ?_
  rw[ht,hs,zw,qS,NC,<-hF]
  exact pU Hk (by rw[Jb];omega)
 rintro⟨g,x⟩ ⟨Su,eu,Ci⟩
 have Zg:=JS (g:=g) dj (by rw[<-hQ];exact Su)
 simp only[] at Su eu Ci
 simp -dsimp(disch:=omega) only[tl,jJ,reduceAdd]
 refine wl (α:=Nat×Nat×Nat×List Nat) (fun⟨i,bo,c,w⟩=>⟨[.lsl 0 0 L 1,.fv (.sl (u32s v)),.int .i64 j,.any,.any,.any,.any,.int .i64 n,.any,.int .u64 g,.any,.int .u64 bo,.int .u64 c,.int .i64 i]++replicate 165 .any,[.row true (u32s w)]⟩)
  (fun⟨i,_,_,_⟩=>n+1 - i) (fun⟨i,bo,c,w⟩=>i<=n+1/\bo<=1/\c<4294967296/\w.length=L/\Dig w/\(∀ t,(t<j\/j+i<=t)->w.getD t 0=u.getD t 0)/\fG w j i+g*val (v.take i)=fG u j i+(c+bo)*B^i/\(i=n+1->c=0)) (0,0,0,u) ?_ ?_ ?_
 .exact bQ [0]
 .refine⟨by omega,by omega,by omega,hL,zY,fun _ _=>rfl,?_,fun _=>rfl⟩
  simp[sH,val]
 rintro⟨i,bo,c,w⟩ ⟨hi,Xd,hc,Xe,Je,qT,jD,Zt⟩
 refine aY ?_
 refine bS ?_ ?_
 .intro h1 h2
  have dv:=AD.getD i
  have du:=Je.getD (j+i)
  simp only[B] at dv du
  have fA:=aJ v i
  have ua:=jh u j i
  have Jc:=qT (j+i) (Or.inr (qp _))
  rw[<-Jc] at ua
  have Hi:n<=i->v.getD i 0=0:=fun h=>by rw[qa,getElem?_eq_none (by omega)];rfl
  obtain⟨y,hy⟩:=ax (v.getD i 0)
  obtain⟨z,hz⟩:=ax (w.getD (j+i) 0)
  rw[hy] at fA dv Hi
  rw[hz] at ua du
  have ik:((j:Int)+(i:Int)).toNat=j+i:=by omega
  refine ae h2 ?_
  refine bS ?_ ?_
  .intro h3 h4
   have hgy:g*y<=4294967295*4294967295:=Nat.mul_le_mul (by omega) (by omega)
   have Ry:(g:Int)*(y:Int)=((g*y:Nat):Int):=by rw[Int.natCast_mul]
   obtain⟨cc,oK⟩:=ax (c+g*y)
   obtain⟨gy,Zh⟩:=ax (g*y)
   rw[Zh] at hgy Ry
   have zx:(c:Int)+(gy:Int)=(cc:Int):=by omega
   have aiq:cc<=18446744073709551616 - 4294967296:=by omega
   have qV:(cc:Int) % 4294967296=((cc % 4294967296:Nat):Int):=by rw[Int.natCast_emod];rfl
   have kK:(cc:Int) / 4294967296=((cc / 4294967296:Nat):Int):=by rw[Int.natCast_ediv];rfl
   obtain⟨lo,fR⟩:=ax (cc % 4294967296)
   obtain⟨oL,Jg⟩: ∃ t,cc / 4294967296=t:=⟨_,rfl⟩
   have Nz:lo<4294967296:=by omega
   have DN:oL<4294967296:=by omega
   rw[fR] at qV
   rw[Jg] at kK
   refine ae (bT h4 hn hy Ry zx @OA qV (bR kK hz ik)) ?_
   repeat refine ag ?_
   refine bS ?_ ?_
   .intro h7 h8
    obtain⟨d,DH⟩:=ax (z+4294967296 - (lo+bo))
    have Jd:(z:Int)+4294967296 - ((lo:Int)+(bo:Int))=(d:Int):=by omega
    have bc:=jb (u:=w) (j:=j) (i:=i) (by omega) d
    have zy:IntKind.u32.wrap (d:Int)=(d:Int):=cV (by omega)
    have bM:=ji (S:=fG w j i) (S0:=fG u j i) (P:=B^i) (g:=g) (Vt:=val (v.take i)) (v:=y) (c:=c) (b:=bo) (a:=z) (d:=d) (b2:=1) jD (by rw[oK,fR];omega)
    refine ae (eg h8 ik Jd zy) ?_
    repeat refine ag ?_
    refine aw (i+1,1,oL,w.set (j+i) d) ?_ ⟨by omega,by omega,DN,by simp[Xe],Je.set _ (by simp only[B];omega),?_,?_,by omega⟩
    .exact bQ [0]
    .intro t Zd
     rw[<-qT t (by omega),qa,getElem?_set_ne (by omega),<-qa]
    rw[bc,fA,ua,Nat.pow_succ,<-Jg,<-oK]
    exact bM
   intro h7 h8
   obtain⟨d,DH⟩:=ax (z - (lo+bo))
   have Jd:(z:Int) - ((lo:Int)+(bo:Int))=(d:Int):=by omega
   have bc:=jb (u:=w) (j:=j) (i:=i) (by omega) d
   have zy:IntKind.u32.wrap (d:Int)=(d:Int):=cV (by omega)
   have bM:=ji (S:=fG w j i) (S0:=fG u j i) (P:=B^i) (g:=g) (Vt:=val (v.take i)) (v:=y) (c:=c) (b:=bo) (a:=z) (d:=d) (b2:=0) jD (by rw[oK,fR];omega)
   refine ae (eg h8 ik Jd zy) ?_
   repeat refine ag ?_
   refine aw (i+1,0,oL,w.set (j+i) d) ?_ ⟨by omega,by omega,DN,by simp[Xe],Je.set _ (by simp only[B];omega),?_,?_,by omega⟩
   .exact bQ [0]
   .intro t Zd
    rw[<-qT t (by omega),qa,getElem?_set_ne (by omega),<-qa]
   rw[bc,fA,ua,Nat.pow_succ,<-Jg,<-oK]
   exact bM
  intro h3 h4
  have tR:=Hi (by omega)
  obtain⟨cc,aiH⟩: ∃ t,c=t:=⟨_,rfl⟩
  have zx:(c:Int)=(cc:Int):=by omega
  have oK:c+g*y=cc:=by rw[tR,Nat.mul_zero,aiH];rfl
  have qV:(cc:Int) % 4294967296=((cc % 4294967296:Nat):Int):=by rw[Int.natCast_emod];rfl
  have kK:(cc:Int) / 4294967296=((cc / 4294967296:Nat):Int):=by rw[Int.natCast_ediv];rfl
  obtain⟨lo,fR⟩:=ax (cc % 4294967296)
  obtain⟨oL,Jg⟩: ∃ t,cc / 4294967296=t:=⟨_,rfl⟩
  have Nz:lo<4294967296:=by omega
  have DN:oL<4294967296:=by omega
  rw[fR] at qV
  rw[Jg] at kK
  refine ae (fw h4 zx @OA qV kK hz ik) ?_
  repeat refine ag ?_
  refine bS ?_ ?_
  .intro h7 h8
   obtain⟨d,DH⟩:=ax (z+4294967296 - (lo+bo))
   have Jd:(z:Int)+4294967296 - ((lo:Int)+(bo:Int))=(d:Int):=by omega
   have bc:=jb (u:=w) (j:=j) (i:=i) (by omega) d
   have zy:IntKind.u32.wrap (d:Int)=(d:Int):=cV (by omega)
   have bM:=ji (S:=fG w j i) (S0:=fG u j i) (P:=B^i) (g:=g) (Vt:=val (v.take i)) (v:=y) (c:=c) (b:=bo) (a:=z) (d:=d) (b2:=1) jD (by rw[oK,fR];omega)
   refine ae (eg h8 ik Jd zy) ?_
   repeat refine ag ?_
   refine aw (i+1,1,oL,w.set (j+i) d) ?_ ⟨by omega,by omega,DN,by simp[Xe],Je.set _ (by simp only[B];omega),?_,?_,by omega⟩
   .exact bQ [0]
   .intro t Zd
    rw[<-qT t (by omega),qa,getElem?_set_ne (by omega),<-qa]
   rw[bc,fA,ua,Nat.pow_succ,<-Jg,<-oK]
   exact bM
  intro h7 h8
  obtain⟨d,DH⟩:=ax (z - (lo+bo))
  have Jd:(z:Int) - ((lo:Int)+(bo:Int))=(d:Int):=by omega
  have bc:=jb (u:=w) (j:=j) (i:=i) (by omega) d
  have zy:IntKind.u32.wrap (d:Int)=(d:Int):=cV (by omega)
  have bM:=ji (S:=fG w j i) (S0:=fG u j i) (P:=B^i) (g:=g) (Vt:=val (v.take i)) (v:=y) (c:=c) (b:=bo) (a:=z) (d:=d) (b2:=0) jD (by rw[oK,fR];omega)
  refine ae (eg h8 ik Jd zy) ?_
  repeat refine ag ?_
  refine aw (i+1,0,oL,w.set (j+i) d) ?_ ⟨by omega,by omega,DN,by simp[Xe],Je.set _ (by simp only[B];omega),?_,?_,by omega⟩
  .exact bQ [0]
  .intro t Zd
   rw[<-qT t (by omega),qa,getElem?_set_ne (by omega),<-qa]
  rw[bc,fA,ua,Nat.pow_succ,<-Jg,<-oK]
  exact bM
 intro h1 h2
 have gF:i=n+1:=by omega
 have Cl:=Zt gF
 subst gF
 subst Cl
 have GZ:val (v.take (n+1))=val v:=aQ (by omega)
 rw[GZ,Nat.zero_add] at jD
 refine ae h2 ?_
 refine Br.beqInt ?_ ?_
 .intro h3 h4
  have Hl:bo=0:=by omega
  subst Hl
  rw[Nat.zero_mul,Nat.add_zero] at jD
  have Hm:=El jD Zg
  have wU:=xh jD Hm
  have Zm:IntKind.u32.wrap (g:Int)=(g:Int):=cV (by omega)
  have bX:=A1 (x:=fG u j (n+1) % val v) (by omega) Je (by omega) qT wU.2
  refine ae (aP h4 Zm) ?_
  refine RetOK.lent rfl ⟨cW,cW⟩ (by rw[bX]) ?_ rfl
  rw[<-wU.1]
  rfl
 intro h3 h4
 have dY:bo=1:=by omega
 subst dY
 rw[Nat.one_mul] at jD
 have ais:=uo Je j (n+1)
 have hVM:val v<=B^(n+1):=by
  have h7:=bG AD;rw[hn] at h7;exact gI (Nat.le_of_lt h7) (Nat.pow_le_pow_right (by decide) (by omega))
 have fL:fG u j (n+1)<g*val v:=by omega
 have vV:0<g:=by
  rcases Nat.eq_zero_or_pos g with h7 | h7
  .rw[h7,Nat.zero_mul] at fL;omega
  exact h7
 refine ae h4 ?_
 refine wl (α:=Nat×Nat×List Nat) (fun⟨t,c,w'⟩=>⟨[.lsl 0 0 L 1,.fv (.sl (u32s v)),.int .i64 j,.any,.any,.any,.any,.int .i64 n,.any,.int .u64 g,.any,.any,.int .u64 c,.any,.any,.any,.any,.int .i64 t]++replicate 161 .any,[.row true (u32s w')]⟩)
  (fun⟨t,_,_⟩=>n+1 - t) (fun⟨t,c,w'⟩=>t<=n+1/\c<=1/\w'.length=L/\Dig w'/\(∀ s,(s<j\/j+t<=s)->w'.getD s 0=w.getD s 0)/\fG w' j t+c*B^t=fG w j t+val (v.take t)) (0,0,w) ?_ ?_ ?_
 .exact bQ [0]
 .refine⟨by omega,by omega,Xe,Je,fun _ _=>rfl,?_⟩
  simp[sH,val]
 rintro⟨t,c',w'⟩ ⟨ht',hc',aeh,RE,U6,Lq⟩
 refine aY ?_
 refine bS ?_ ?_
 .intro h5 h6
  have dv:=AD.getD t
  have du:=RE.getD (j+t)
  simp only[B] at dv du
  have fA:=aJ v t
  have DK:=jh w j t
  have Zk:=U6 (j+t) (Or.inr (qp _))
  rw[<-Zk] at DK
  have Hi:n<=t->v.getD t 0=0:=fun h=>by rw[qa,getElem?_eq_none (by omega)];rfl
  obtain⟨y,hy⟩: ∃ t',v.getD t 0=t':=⟨_,rfl⟩
  obtain⟨z,hz⟩: ∃ t',w'.getD (j+t) 0=t':=⟨_,rfl⟩
  rw[hy] at fA dv Hi
  rw[hz] at DK du
  have ik2:((j:Int)+(t:Int)).toNat=j+t:=by omega
  refine ae (bR h6 hz ik2) ?_
  repeat refine ag ?_
  refine bS ?_ ?_
  .intro h7 h8
   obtain⟨cc,oK⟩:=ax (c'+(z+y))
   have zx:(z:Int)+(c':Int)+(y:Int)=(cc:Int):=by omega
   have kK:(cc:Int) / 4294967296=((cc / 4294967296:Nat):Int):=by rw[Int.natCast_ediv];rfl
   have UX:IntKind.u32.wrap (cc:Int)=((cc % 4294967296:Nat):Int):=by rw[dC,Int.natCast_emod];rfl
   have ot:=jb (u:=w') (j:=j) (i:=t) (by omega) (cc % 4294967296)
   refine ae (bT h8 hn hy hz ik2 zx kK UX) ?_
   repeat refine ag ?_
   refine aw (t+1,cc / 4294967296,w'.set (j+t) (cc % 4294967296)) ?_ ⟨by omega,by omega,by simp[aeh],RE.set _ (Nat.mod_lt _ (by decide)),?_,?_⟩
   .exact bQ [0]
   .intro s wW
    rw[<-U6 s (by omega),qa,getElem?_set_ne (by omega),<-qa]
   rw[ot,fA,DK,Nat.pow_succ]
   exact m7 Lq oK
  intro h7 h8
  have tR:=Hi (by omega)
  obtain⟨cc,oK⟩:=ax (c'+(z+y))
  have zx:(z:Int)+(c':Int)=(cc:Int):=by omega
  have kK:(cc:Int) / 4294967296=((cc / 4294967296:Nat):Int):=by rw[Int.natCast_ediv];rfl
  have UX:IntKind.u32.wrap (cc:Int)=((cc % 4294967296:Nat):Int):=by rw[dC,Int.natCast_emod];rfl
  have ot:=jb (u:=w') (j:=j) (i:=t) (by omega) (cc % 4294967296)
  refine ae (fE h8 hz ik2 zx kK UX) ?_
  repeat refine ag ?_
  refine aw (t+1,cc / 4294967296,w'.set (j+t) (cc % 4294967296)) ?_ ⟨by omega,by omega,by simp[aeh],RE.set _ (Nat.mod_lt _ (by decide)),?_,?_⟩
  .exact bQ [0]
  .intro s wW
   rw[<-U6 s (by omega),qa,getElem?_set_ne (by omega),<-qa]
  rw[ot,fA,DK,Nat.pow_succ]
  exact m7 Lq oK
 intro h5 h6
 have U7:t=n+1:=by omega
 subst U7
 rw[GZ] at Lq
 have GY:=xe hVM jD vV Ci fL Lq (uo RE _ _)
 have wU:=xh GY.1 GY.2
 have bX:=A1 (u:=u) (x:=fG u j (n+1) % val v) (by omega) RE (by omega) (fun s wW=>by rw[U6 s wW,qT s wW]) wU.2
 have UU:(g:Int) - 1=((g - 1:Nat):Int):=by omega
 have Zm:IntKind.u32.wrap ((g - 1:Nat):Int)=((g - 1:Nat):Int):=cV (by omega)
 refine ae (bR h6 UU Zm) ?_
 refine RetOK.lent rfl ⟨cW,cW⟩ (by rw[bX]) ?_ rfl
 rw[<-wU.1]
 rfl
theorem A6 {x y:Nat}:oA x y<0↔x<y:=by
 unfold oA;split
 .omega
 split<;>omega
theorem dr (n:Nat):N n= .sl (u32s (ai n)):=rfl
theorem ahy (a b:List Nat) (ha:Dig a) (hb:Dig b) (wm:a.length<10000000000) (wT:b.length<10000000000) (h0:val b=0):
 Den Tryz.prog 172 [] [.fv (.sl (u32s a)),.fv (.sl (u32s b))] [] (.tup [.fv (N 0),.fv (N 0),.int .i64 3]):=by
 refine dq Tryz.func172 84 0 ?_
 refine aY ?_
 refine gp (e7 a ha (by omega)) rfl ?_
 refine ba ?_
 refine gp (e7 b hb (by omega)) rfl ?_
 have Lp:(ai 0).length=0:=by rw[bB];rfl
 have zA:((0:Nat):Int)=0:=rfl
 have qL:((0:Int)==0)=true:=rfl
 refine ae (im @dr h0 Lp zA qL) ?_
 refine bj ?_
 refine qR ?_
 simp[bB,u32s]
theorem OU (a b:List Nat) (ha:Dig a) (hb:Dig b) (wm:a.length<10000000000) (wT:b.length<10000000000) (h0:val b≠0):
 Den Tryz.prog 172 [] [.fv (.sl (u32s a)),.fv (.sl (u32s b))] [] (.tup [.fv (N (val a / val b)),.fv (N (val a % val b)),.int .i64 0]):=by
 have Zo:=aA (bG ha)
 have NB:=aA (bG hb)
 have aiA:(ai (val b)).length≠0:=fun h=>h0 (fW h)
 refine dq Tryz.func172 84 0 ?_
 refine aY ?_
 refine gp (e7 a ha (by omega)) rfl ?_
 refine ba ?_
 refine gp (e7 b hb (by omega)) rfl ?_
 have hz:(((ai (val b)).length:Int)==0)=false:=by rw[qx];omega
 refine ae (aP @dr hz) ?_
 refine gp (OT (ai (val a)) (ai (val b)) (ao _) (ao _) (by omega) (by omega)) rfl ?_
 refine ae @aj ?_
 refine bS ?_ ?_
 .intro h1 h2
  rw[A6] at h1
  refine ae h2 ?_
  refine bj ?_
  refine qR ?_
  rw[Nat.div_eq_of_lt h1,Nat.mod_eq_of_lt h1]
  simp[N,bB,u32s]
 intro h1 h2
 rw[A6] at h1
 refine ae h2 ?_
 refine Br.beqInt ?_ ?_
 .intro h3 h4
  obtain⟨d,hd⟩: ∃ d,ai (val b)=[d]:=length_eq_one_iff.1 (by omega)
  have hbv:val b=d:=by rw[<-aj (val b),hd];simp[val]
  have DH:d<4294967296:=by have:=ao (val b);rw[hd] at this;exact this d (by simp)
  have vV:(u32s [d]).getD 0 []=[FV.lit (Value.int .u32 d)]:=rfl
  have g8:0<d:=by omega
  have eC:=Nat.mod_lt (val a) g8
  have h93:=acv (ai (val a)) d (ao _) (by omega) DH g8
  rw[aj] at h93
  refine ae (aP hd vV) ?_
  refine⟨by simp,?_⟩
  refine aV h93 ?_
  obtain⟨r,hr⟩:=ax (val a % d)
  rw[hr] at eC
  have Ck:=e7 [r] (Dig.mk (by simp only[B];omega) Dig.nil) (by simp)
  have hvr:val [r]=r:=by simp[val]
  rw[hvr] at Ck
  refine ae hr ?_
  refine gp Ck ?_ ?_
  .rfl
  refine ba ?_
  refine bj ?_
  exact l7 (aP hbv hr)
 intro h3 h4
 have dT:(ai (val b)).length<=(ai (val a)).length:=cq (by omega)
 obtain⟨n,hn⟩: ∃ n,(ai (val b)).length=n+1:=⟨(ai (val b)).length - 1,by omega⟩
 have wu:=JT hn
 have Oe:=(ao (val b)).getD n
 simp only[B] at Oe
 obtain⟨top,ht⟩:=ax ((ai (val b)).getD n 0)
 rw[ht] at wu Oe
 have kJ:(((n+1:Nat):Int) - 1).toNat=n:=by omega
 refine ae h4 ?_
 refine wl (α:=Nat) (fun s=>⟨[.fv (N (val a)),.fv (N (val b)),.any,.any,.nilsl,.nilsl,.any,.any,.any,.int .i64 s]++replicate 76 .any,[]⟩)
  (fun s=>32 - s) (fun s=>s<32/\top*2^s<4294967296) 0 ?_ ?_ ?_
 .refine eS [] ?_ ?_
  .simp[bk,dV,cC,N]
  trivial
 .exact⟨by omega,by simpa using Oe⟩
 rintro s ⟨hs,ef⟩
 have AA:(s<=32)=True:=by simp;omega
 have ND:IntKind.u64.wrap (s:Int)=(s:Int):=dI (by omega)
 obtain⟨w,hw⟩:=ax (top*2^s)
 have hwi:(top:Int)*2^s=(w:Int):=by rw[<-hw,Int.natCast_mul,Int.natCast_pow];rfl
 rw[hw] at ef
 have hww:IntKind.u32.wrap (w:Int)=(w:Int):=cV (by omega)
 refine bU (bT @dr hn kJ ht AA ND hwi hww) ?_
 repeat refine ag ?_
 refine bS ?_ ?_
 .intro h5 h6
  refine ae h6 ?_
  have am4:=OJ wu (by rw[hw];omega:top*2^s<2147483648)
  refine aw (s+1) ?_ ⟨by omega,by rw[Nat.pow_succ,<-Nat.mul_assoc,hw];omega⟩
  refine eS [] ?_ ?_
  .simp[bk,dV,cC,N]
  trivial
 intro h5 h6
 refine ae h6 ?_
 have wX:=xg (k:=s) hn ht (by omega) (by rw[hw];omega) (by rw[hw];omega)
 obtain⟨V,hV⟩:=ax (val b*2^s)
 rw[hV] at wX
 obtain⟨la,U8⟩: ∃ t,(ai (val a)).length=t:=⟨_,rfl⟩
 have aei:=Wq (ai (val a)) s (ao _) (by omega) hs
 have aej:=Wq (ai (val b)) s (ao _) (by omega) hs
 rw[aj,U8] at aei
 rw[aj,hn,hV] at aej
 have Ck:=e7 (ij (n+1+1) V) (kn _ _) (by rw[cD];omega)
 have hVd:val (ij (n+1+1) V)=V:=by
  apply ko;have:=bJ (n:=V);rw[wX.1] at this;exact Nat.lt_of_lt_of_le this (Nat.pow_le_pow_right (by decide) (by omega))
 rw[hVd] at Ck
 have hua:val (ij (la+1) (val a*2^s))=val a*2^s:=by
  apply ko;rw[Nat.pow_succ];have:=bJ (n:=val a);rw[U8] at this;exact Nat.mul_lt_mul'' this (Nat.lt_of_lt_of_le (Nat.pow_lt_pow_right (by decide) hs) (by decide))
 obtain⟨v,hv⟩:=ax (ai V)
 have AD:Dig v:=by rw[<-hv];exact ao _
 have hvv:val v=V:=by rw[<-hv,aj]
 rw[hv] at wX
 have hlm:((la:Int) - ((n+1:Nat):Int)+1).toNat=la - n:=by omega
 obtain⟨m,hm⟩:=ax (la - n)
 refine aV aei ?_
 refine ba ?_
 refine aV aej ?_
 refine ba ?_
 refine gp Ck ?_ ?_
 .simp[cw,gW,fS,fB,aM,cD]
  rw[eo (by simp[aM,cD])]
 simp -dsimp(disch:=omega) only[dr,hv,U8,hn,hlm,hm,↓reduceIte,reduceAdd,Nat.reduceLT,ru]
 refine⟨by omega,?_⟩
 refine wl (α:=Nat×List Nat×List Nat) (fun⟨j1,qd,u⟩=>⟨[.any,.any,.any,.any,.nilsl,.nilsl,.any,.any,.any,.int .i64 s,.lsl 0 0 (la+1) 1,.fv (.sl (u32s v)),.lsl 1 0 m 1,.int .i64 ((j1:Int) - 1)]++replicate 72 .any,[.row true (u32s u),.row true (u32s qd)]⟩)
  (fun⟨j1,_,_⟩=>j1) (fun⟨j1,qd,u⟩=>j1<=m/\u.length=la+1/\qd.length=m/\Dig u/\Dig qd/\val (u.drop j1)<val v/\val u+val v*(B^j1*val (qd.drop j1))=val a*2^s) (m,replicate m 0,ij (la+1) (val a*2^s)) ?_ ?_ ?_
 .exact bQ [0,2]
 .refine⟨qp _,cD _ _,by simp,kn _ _,Dig.zeros,?_,?_⟩
  .rw[<-iv (kn _ _) (by rw[cD];omega),hua]
   have h7:=aJ v n
   rw[aQ (by omega)] at h7
   have h8:=bJ (n:=val a)
   rw[U8] at h8
   refine xf (x:=val a*2^s) (P:=val a) (T:=2147483648) (K:=2^s) (Bn:=B^n) (Bl:=B^la) h8 (Nat.pow_le_pow_right (by decide) (show s<=31 by omega)) ?_ ?_ rfl (by decide) (JI (by decide))
   .rw[h7,Nat.mul_comm]
    exact gI (Nat.mul_le_mul_left _ wX.2) (Nat.le_add_left _ _)
   rw[<-Nat.pow_add,show n+m=la by omega]
  rw[hua,List.drop_of_length_le (by simp)]
  simp[val]
 rintro⟨j1,qd,u⟩ ⟨Ss,zt,Ja,zY,hqd,aH,bA⟩
 refine aY ?_
 refine bS ?_ ?_
 .intro h7 h8
  obtain⟨j,rfl⟩: ∃ j,j1=j+1:=⟨j1 - 1,by omega⟩
  have wt:((j+1:Nat):Int) - 1=(j:Int):=by omega
  have AI:((j:Nat):Int).toNat=j:=by omega
  have LH:=uq (j:=j) zY AD wX.1 (by omega) (by omega) aH
  have dj:0<val v:=by omega
  have h95:=acy u v j (n+1) zY AD wX.1 (by omega) (by omega) (by omega) wX.2 aH
  have lB:=Nat.mod_lt (fG u j (n+1+1)) dj
  have hVB:val v<=B^(n+1+1):=by
   have h9:=bG AD;rw[wX.1] at h9;exact gI (Nat.le_of_lt h9) (Nat.pow_le_pow_right (by decide) (by omega))
  have hsg:=Hz (u:=u) (j:=j) (m:=n+1+1) (x:=fG u j (n+1+1) % val v) (by omega) (Nat.lt_of_lt_of_le lB hVB)
  have m4:=z9 (u:=u) (j:=j) (m:=n+1+1) (x:=fG u j (n+1+1) % val v) (by omega)
  have hpd:=Hy (j:=j) (m:=n+1+1) (x:=fG u j (n+1+1) % val v) zY
  have AJ: ∀ t,(t<j\/j+(n+1+1)<=t)->(jz u j (n+1+1) (fG u j (n+1+1) % val v)).getD t 0=u.getD t 0:=fun t Jh=>Ep (by omega) Jh
  have hgB:fG u j (n+1+1) / val v<4294967296:=by
   rw[Nat.div_lt_iff_lt_mul dj,Nat.mul_comm];exact LH.lt
  have wU:=Nat.mod_add_div (fG u j (n+1+1)) (val v)
  rw[Nat.mul_comm] at wU
  obtain⟨w,hw4⟩:=ax (jz u j (n+1+1) (fG u j (n+1+1) % val v))
  obtain⟨g,hg⟩:=ax (fG u j (n+1+1) / val v)
  rw[hw4] at hsg m4 hpd AJ
  rw[hg] at hgB wU
  rw[hw4,hg,zt] at h95
  rw[<-hsg] at wU lB
  have hr:=rH (u:=u) (u4:=w) (qd:=qd) (j:=j) (n:=n+1) (g:=g) (V:=val v) m4 (by omega) (by omega) AJ LH.tail wU lB bA
  refine ae wt ?_
  refine ig 0 h95 trivial ?_
  have hsh:shutBs [Ob.row true (u32s u),Ob.row true (u32s qd)] 0 [PV.lsl 0 0 (la+1) 1,PV.fv (FV.sl (u32s v)),PV.int IntKind.i64 (j:Int)]=[Ob.row true (u32s u),Ob.row true (u32s qd)]:=rfl
  refine ae (aP hsh @List.append_nil.{0}) ?_
  repeat refine ag ?_
  refine aw (j,qd.set j g,w) ?_ ⟨by omega,by omega,by simp[Ja],hpd,hqd.set _ (by simp only[B];omega),hr.2,hr.1⟩
  exact bQ [0,1]
 intro h7 h8
 have wt:j1=0:=by omega
 subst wt
 rw[List.drop_zero] at aH
 rw[List.drop_zero,Nat.pow_zero,Nat.one_mul] at bA
 have zz:=Eo (hvv.trans hV.symm) (Nat.two_pow_pos s) bA aH
 refine ae h8 ?_
 refine gp (e7 qd hqd (by omega)) ?_ ?_
 .simp[cw,gW,fS,fB,aM,Ja]
  rw[eo (by simp[aM,Ja])]
 refine ba ?_
 refine gp (acx u s zY (by omega) hs) ?_ ?_
 .simp[cw,gW,fS,fB,aM,zt]
  rw[eo (by simp[aM,zt])]
 refine ba ?_
 refine bj ?_
 rw[zz.1,zz.2]
 exact Hh
theorem acz (a b:List Nat) (ha:Dig a) (hb:Dig b) (wm:a.length<10000000000) (wT:b.length<10000000000):
 Den Tryz.prog 171 [] [.fv (.sl (u32s a)),.fv (.sl (u32s b))] [] (.fv (N (Nat.gcd (val a) (val b)))):=by
 have Zo:=aA (bG ha)
 have NB:=aA (bG hb)
 refine dq Tryz.func171 23 0 ?_
 refine aY ?_
 refine gp (e7 a ha (by omega)) rfl ?_
 refine ba ?_
 refine gp (e7 b hb (by omega)) rfl ?_
 refine ae @dr ?_
 generalize hg:Nat.gcd (val a) (val b)=g
 refine wl (α:=Nat×Nat) (fun⟨x,y⟩=>⟨.fv (.sl (u32s (ai x))):: .fv (.sl (u32s (ai y))):: .any:: .any:: .nilsl::replicate 20 .any,[]⟩)
  (fun⟨_,y⟩=>y) (fun⟨x,y⟩=>(ai x).length<10000000000/\(ai y).length<10000000000/\Nat.gcd x y=g) (val a,val b) ?_ ?_ ?_
 .exact bQ []
 .exact⟨by omega,by omega,hg⟩
 rintro⟨x,y⟩ ⟨hx,hy,Hj⟩
 refine aY ?_
 refine bS ?_ ?_
 .intro h5 h6
  have tR:y≠0:=fun h=>by rw[h,bB] at h5;simp at h5
  have h80:=OU (ai x) (ai y) (ao _) (ao _) hx hy (by rw[aj];exact tR)
  rw[aj,aj,dr,dr] at h80
  refine ae h6 ?_
  refine aV h80 ?_
  refine ba ?_
  have aH:=Nat.mod_lt x (Nat.pos_of_ne_zero tR)
  refine ap (y,x % y) (by exact aH) ?_ ⟨hy,Hw (cq (Nat.le_of_lt aH)) hy,?_⟩
  .exact bQ []
  rw[<-Hj,Nat.gcd_comm y,<-Nat.gcd_rec,Nat.gcd_comm]
 intro h5 h6
 have tR:y=0:=fW (by omega)
 subst tR
 refine ae h6 ?_
 refine bj ?_
 rw[Nat.gcd_zero_right] at Hj
 refine DG Hj ?_
 rfl
theorem LS {s:Bool} {n d:Nat} (hd:d≠0):FR (gY s n d)= .agg [.bool (s&&decide (((ai (n / Nat.gcd n d)).length:Int)>0)),.fv (N (n / Nat.gcd n d)),.fv (N (d / Nat.gcd n d))]:=by
 by_cases hn:n=0
 .subst hn;rw[mj rfl,FR,Cy,Nat.gcd_zero_left,Nat.zero_div,Nat.div_self (by omega)];have h1:ai 1=[1]:=mg (l:=[1]) (fun d hd=>by simp at hd;subst hd;decide) (Or.inr (by decide));unfold N Raw.v;rw[bB,h1];simp[u32s]
 obtain⟨h1,h2,h3⟩:=A3 (s:=s) hn hd;rw[bu,h1,h2,h3];have h4:n / Nat.gcd n d≠0:=by
  have:=Nat.div_pos (Nat.le_of_dvd (by omega) (Nat.gcd_dvd_left n d)) (Nat.gcd_pos_of_pos_left d (by omega));omega
 have h5:((ai (n / Nat.gcd n d)).length:Int)≠0:=fun h=>h4 (d8.1 h)
 rw[ir (show((ai (n / Nat.gcd n d)).length:Int)>0 by omega),Bool.and_true]
theorem A7 (s:Bool) (n d:List Nat) (hn:Dig n) (hd:Dig d) (qM:n.length<10000000000) (D7:d.length<10000000000) (g8:val d≠0):
 Den Tryz.prog 123 [] [.bool s,.fv (.sl (u32s n)),.fv (.sl (u32s d))] [] (FR (gY s (val n) (val d))):=by
 have Sv:=aA (bG hd)
 have AE:Nat.gcd (val n) (val d)<=val d:=Nat.le_of_dvd (by omega) (Nat.gcd_dvd_right _ _)
 have vV:Nat.gcd (val n) (val d)≠0:=by
  have:=Nat.gcd_pos_of_pos_right (val n) (show 0<val d by omega);omega
 have wV:=cq AE
 have Ho:=acz n d hn hd qM D7
 rw[LS g8]
 obtain⟨g,hg⟩:=ax (Nat.gcd (val n) (val d))
 rw[hg] at Ho vV wV ⊢
 have U9:=OU n (ai g) hn (ao _) qM (by omega) (by rw[aj];exact vV)
 have Zu:=OU d (ai g) hd (ao _) D7 (by omega) (by rw[aj];exact vV)
 rw[aj] at U9 Zu
 obtain⟨x,hx⟩:=ax (val n / g)
 rw[dr] at Ho
 rw[hx,dr x] at U9 ⊢
 cases s
 .refine dq Tryz.func123 37 0 ?_
  refine aY ?_
  refine aV Ho ?_
  refine ba ?_
  refine aV U9 ?_
  refine ba ?_
  refine aV Zu ?_
  refine ba ?_
  refine bj rfl
 refine dq Tryz.func123 37 0 ?_
 refine aY ?_
 refine aV Ho ?_
 refine ba ?_
 refine aV U9 ?_
 refine ba ?_
 refine aV Zu ?_
 refine ba ?_
 refine bj rfl
theorem n5 (r:Raw) (hr:r.Ok 5000000000):Den Tryz.prog 121 [] [r.v] [] (FR r.q):=by
 have Ck:=e7 r.den hr.den (by have:=hr.lden;omega);rw[dr] at Ck;by_cases h0:val r.den=0
 .have hq:r.q=0:=xi h0;rw[h0,bB] at Ck;rw[hq,FR,Cy];unfold Raw.v;have hz:(((0:Nat):Int)==0)=true:=rfl;have hl:(u32s []).length=0:=rfl;have qL:([]:List Nat).length=0:=rfl;refine dq Tryz.func121 16 0 ?_;refine aY ?_;refine aV Ck ?_;refine ae (aP hl hz) ?_;refine bj rfl
 have Cm:=A7 r.neg r.num r.den hr.num hr.den (by have:=hr.lnum;omega) (by have:=hr.lden;omega) h0;change Den Tryz.prog 123 [] _ [] (FR r.q) at Cm;have hz:(((ai (val r.den)).length:Int)==0)=false:=by rw[qx];exact fun h=>h0 (d8.1 h)
 rw[bu] at Cm ⊢;unfold Raw.v;refine dq Tryz.func121 16 0 ?_;refine aY ?_;refine aV Ck ?_;refine ae hz ?_;refine aV Cm ?_;refine ba ?_;refine bj rfl
theorem Et (r:Raw) (hr:r.Ok 5000000000):Den Tryz.prog 63 [] [r.v] [] (.int .i64 (gA r.q)):=by
 have oQ:=n5 r hr;rw[bu] at oQ;unfold Raw.v at oQ ⊢;obtain⟨n,hn⟩:=ax r.q.num.natAbs;rw[hn,dr] at oQ;refine dq Tryz.func63 10 0 ?_;refine aY ?_;refine aV oQ ?_;refine ba ?_;refine Br.beqInt ?_ ?_
 .intro h1 h2;have hs:=Er (hn.trans (d8.1 h1));refine ae h2 ?_;refine bj ?_;exact l7 hs
 intro h1 h2;refine ae h2 ?_;refine bS ?_ ?_
 .intro h3 h4;have hs:=CB h3;refine ae h4 ?_;refine bj ?_;exact l7 hs
 intro h3 h4;have hs:=CD (q:=r.q) (fun h=>h1 (d8.2 (hn.symm.trans h))) h3;refine ae h4 ?_;refine bj ?_;exact l7 hs
theorem acA (r:Raw) (hr:r.Ok 5000000000):Den Tryz.prog 122 [] [r.v] [] (FR (-r.q)):=by
 have oQ:=n5 r hr;rw[bu] at oQ;rw[OP];unfold Raw.v at oQ ⊢;obtain⟨n,hn⟩:=ax r.q.num.natAbs;obtain⟨s,hs⟩:=ax (decide (r.q.num<0));obtain⟨d,hd⟩:=ax (N r.q.den);rw[hn,hs,hd,dr] at oQ;rw[hn,hs,hd,dr];refine dq Tryz.func122 15 0 ?_;refine aY ?_;refine aV oQ ?_;cases s
 .have e1:(!false)=true:=rfl;refine ae e1 ?_;refine bj rfl
 have e1:(!true)=false:=rfl;refine ae e1 ?_;refine bj rfl
end Go.Proofs.YtjjbkjgifdhlcaaGreat
