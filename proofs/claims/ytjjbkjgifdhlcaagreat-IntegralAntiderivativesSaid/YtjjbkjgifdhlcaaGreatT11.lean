/- Contracts:math/bits.Len32,LeadingZeros32. -/
import Derived.Test.YtjjbkjgifdhlcaaGreatT10
import Derived.Lib.Tables
import Derived.Test.YtjjbkjgifdhlcaaGreatT8
import Derived.Test.YtjjbkjgifdhlcaaGreatT1
open Nat (reduceAdd reduceLT reduceLeDiff reduceMul)
open List (getD_cons_zero getElem?_eq_none getElem?_set_ne getElem?_take length_drop length_eq_one_iff length_take nodup_nil replicate take_succ_eq_append_getElem)
namespace Go.Proofs.YtjjbkjgifdhlcaaGreat
open Go.AM Go.Pl
set_option maxRecDepth 100000
set_option maxHeartbeats 1000000
def blen (n:Nat):Nat:=if n=0 then 0 else Nat.log2 n+1
theorem len8_all: ∀ n:Fin 256,(((Lib.len8tab[n.val]?).getD 0).toNat:Nat)=blen n.val:=by decide+kernel
theorem of_string {s:ByteArray}:PV.ofValue (.string s)= .fv (.lit (.string s)):=rfl
theorem fold8:(⟨List.toArray (List.append (List.append [0,1,2,2,3,3,3,3,4,4,4,4,4,4,4,4,5,5,5,5,5,5,5,5,5,5,5,5,5,5,5,5,6,6,6,6,6,6,6,6,6,6,6,6,6,6,6,6,6,6,6,6,6,6,6,6,6,6,6,6,6,6,6,6] [7,7,7,7,7,7,7,7,7,7,7,7,7,7,7,7,7,7,7,7,7,7,7,7,7,7,7,7,7,7,7,7,7,7,7,7,7,7,7,7,7,7,7,7,7,7,7,7,7,7,7,7,7,7,7,7,7,7,7,7,7,7,7,7]) (List.append [8,8,8,8,8,8,8,8,8,8,8,8,8,8,8,8,8,8,8,8,8,8,8,8,8,8,8,8,8,8,8,8,8,8,8,8,8,8,8,8,8,8,8,8,8,8,8,8,8,8,8,8,8,8,8,8,8,8,8,8,8,8,8,8] [8,8,8,8,8,8,8,8,8,8,8,8,8,8,8,8,8,8,8,8,8,8,8,8,8,8,8,8,8,8,8,8,8,8,8,8,8,8,8,8,8,8,8,8,8,8,8,8,8,8,8,8,8,8,8,8,8,8,8,8,8,8,8,8]))⟩:ByteArray)=Lib.len8tab:=by kernel_rfl
theorem blen_two {n:Nat} (h:1<=n):blen n=1+blen (n / 2):=by
 unfold blen;rw[if_neg (by omega),Nat.log2_def];split
 ·rw[if_neg (by omega)];omega
 ·have:n / 2=0:=by omega
  rw[if_pos this]
theorem blen_shift {n:Nat} (k:Nat) (h:2^k<=n):blen n=k+blen (n / 2^k):=by
 induction k generalizing n with
 | zero=>simp
 | succ k ih=>
  have hk:=Nat.two_pow_pos k;rw[Nat.pow_succ] at h ⊢;rw[blen_two (by omega),ih (n:=n / 2) (by omega),Nat.div_div_eq_div_mul,Nat.mul_comm 2];omega
theorem den106 (x:Nat) (hx:x<4294967296):Den Tryz.prog 244 [] [.int .u32 x] [] (.int .i64 (blen x:Int)):=by
 have h8: ∀ n:Nat,n<256->(((Lib.len8tab[n]?).getD 0).toNat:Nat)=blen n:=fun n hn=>len8_all ⟨n,hn⟩
 have hsz:Lib.len8tab.size=256:=Lib.len8tab_size;have fin: ∀ (b y:Nat),y<256->b<=24->blen x=b+blen y->blen y<100->True:=fun _ _ _ _ _ _=>trivial
 have hb8: ∀ n:Nat,n<256->blen n<=8:=by
  intro n hn;have: ∀ m:Fin 256,blen m.val<=8:=by decide+kernel
  exact this ⟨n,hn⟩
 refine den_of tabOk mixed Tryz.func244 (cd:=_) rfl (by decide) rfl (n:=18) rfl rfl (m:=0) rfl ?_;simp -dsimp(disch:=omega) only[replicate,↓reduceIte,ru];refine bd_ ?_ ?_
 ·intro h1 h2;have e1:=blen_shift (n:=x) 16 (by omega);have c1:(x:Int) / 65536=((x / 65536:Nat):Int):=by rw[Int.natCast_ediv];rfl
  have e1':blen x=16+blen (x / 65536):=e1;have hy:x / 65536<65536:=by omega
  generalize x / 65536=y at*;simp -dsimp(disch:=omega) only[h2,c1,IntKind.bits,Int.reduceToNat,Int.reducePow,↓reduceIte,reduceLeDiff,ru];refine⟨by omega,?_⟩;refine bd_ ?_ ?_
  ·intro h3 h4;have e2:blen y=8+blen (y / 256):=blen_shift (n:=y) 8 (by omega);have c2:(y:Int) / 256=((y / 256:Nat):Int):=by rw[Int.natCast_ediv];rfl
   have hz:y / 256<256:=by omega
   generalize y / 256=z at*;have:=hb8 z hz;simp -dsimp(disch:=omega) only[h4,c2,fold8,of_string,h8,IntKind.bits,Int.reduceToNat,Int.reducePow,↓reduceIte,reduceLeDiff,ru];refine⟨by omega,by rw[hsz];omega,?_⟩;refine rpq rfl ⟨tvq,tvq⟩ ?_;simp(disch:=omega) only[St.get,fzX,oneRes,fzV,fzC,fz1,fz0,Option.map_some,qk,getD_cons_zero];rw[e1',e2];simp;omega
  ·intro h3 h4;have:=hb8 y (by omega);simp -dsimp(disch:=omega) only[h4,fold8,of_string,h8,↓reduceIte,ru];refine⟨by rw[hsz];omega,?_⟩;refine rpq rfl ⟨tvq,tvq⟩ ?_;simp(disch:=omega) only[St.get,fzX,oneRes,fzV,fzC,fz1,fz0,Option.map_some,qk,getD_cons_zero];rw[e1'];simp
 ·intro h1 h2;simp -dsimp(disch:=omega) only[h2,↓reduceIte,ru];refine bd_ ?_ ?_
  ·intro h3 h4;have e2:blen x=8+blen (x / 256):=blen_shift (n:=x) 8 (by omega);have c2:(x:Int) / 256=((x / 256:Nat):Int):=by rw[Int.natCast_ediv];rfl
   have hz:x / 256<256:=by omega
   generalize x / 256=z at*;have:=hb8 z hz;simp -dsimp(disch:=omega) only[h4,c2,fold8,of_string,h8,IntKind.bits,Int.reduceToNat,Int.reducePow,↓reduceIte,reduceLeDiff,ru];refine⟨by omega,by rw[hsz];omega,?_⟩;refine rpq rfl ⟨tvq,tvq⟩ ?_;simp(disch:=omega) only[St.get,fzX,oneRes,fzV,fzC,fz1,fz0,Option.map_some,qk,getD_cons_zero];rw[e2];simp
  ·intro h3 h4;have:=hb8 x (by omega);simp -dsimp(disch:=omega) only[h4,fold8,of_string,h8,↓reduceIte,ru];refine⟨by rw[hsz];omega,?_⟩;refine rpq rfl ⟨tvq,tvq⟩ ?_;simp(disch:=omega) only[St.get,fzX,oneRes,fzV,fzC,fz1,fz0,Option.map_some,qk,getD_cons_zero];simp
theorem blen_le {x:Nat} (hx:x<4294967296):blen x<=32:=by
 unfold blen;split
 ·omega
 ·have:x.log2<32:=(Nat.log2_lt (by omega)).2 (by omega);omega
theorem den104 (x:Nat) (hx:x<4294967296):Den Tryz.prog 248 [] [.int .u32 x] [] (.int .i64 ((32 - blen x:Nat):Int)):=by
 have hb:=blen_le hx;refine den_of tabOk mixed Tryz.func248 (cd:=_) rfl (by decide) rfl (n:=5) rfl rfl (m:=0) rfl ?_;simp -dsimp(disch:=omega) only[replicate,rules];refine gp (den106 x hx) rfl ?_;simp -dsimp(disch:=omega) only[↓reduceIte,ru];refine rpq rfl ⟨tvq,tvq⟩ ?_;simp(disch:=omega) only[St.get,fzX,oneRes,fzV,fzC,fz1,fz0,Option.map_some,qk,getD_cons_zero];simp;omega
theorem den98 (l:List Nat) (hl:Dig l) (hll:l.length<=2):Den Tryz.prog 215 [] [.fv (.sl (u32s l))] [] (.int .u64 ((val l:Nat):Int)):=by
 refine den_of tabOk mixed Tryz.func215 (cd:=_) rfl (by decide) rfl (n:=21) rfl rfl (m:=0) rfl ?_;simp -dsimp(disch:=omega) only[replicate,ru];refine wl (α:=Nat) (fun i=>⟨.fv (.sl (u32s l)):: .any:: .fv (.lit (.int .u64 0)):: .int .u64 ((val (l.take i):Nat):Int):: .any:: .any:: .fv (.sl (u32s l)):: .int .i64 l.length:: .int .i64 i::replicate 13 .any,[]⟩)
  (fun i=>l.length - i) (fun i=>i<=l.length) 0 ?_ ?_ ?_
 ·refine wk [] (by simp) rfl ?_ ?_
  ·simp[leVs,leV,le1,val]
  ·trivial
 ·omega
 ·intro i hi;simp -dsimp(disch:=omega) only[replicate,↓reduceIte,ru];refine bd_ ?_ ?_
  ·intro h1 h2;have hx:=hl.getD i;have htk:=val_take_succ l i;have hvt:=val_lt (hl.take i);rw[length_take,Nat.min_eq_left hi] at hvt;simp only[B] at hx;have hi2:i=0\/i=1:=by omega
   rcases hi2 with rfl | rfl
   ·generalize hxd:l.getD 0 0=x at*;have ht0:val (l.take 0)=0:=by simp[val]
    rw[ht0] at htk ⊢;simp -dsimp(disch:=omega) only[hxd,or64s,Int.natCast_zero,Int.mul_zero,Int.toNat_zero,IntKind.bits,Int.reducePow,↓reduceIte,reduceLT,reduceLeDiff,ru];refine⟨by omega,by omega,?_⟩;refine ap 1 (by omega) ?_ (by omega);refine wk [] (by simp) rfl ?_ ?_
    ·have:(x:Int)=((val (l.take 1):Nat):Int):=by rw[htk];simp
     simp[leVs,leV,le1,<-this]
    ·trivial
   ·generalize hxd:l.getD 1 0=x at*;generalize val (l.take 1)=v at*;have hv:v<4294967296:=by simpa using hvt
    simp -dsimp(disch:=omega) only[hxd,or64t,Int.natCast_one,Int.mul_one,IntKind.bits,Int.reduceToNat,Int.reducePow,↓reduceIte,reduceLT,reduceLeDiff,ru];refine⟨by omega,by omega,?_⟩;refine ap 2 (by omega) ?_ (by omega);refine wk [] (by simp) rfl ?_ ?_
    ·have:(v:Int)+x*4294967296=((val (l.take 2):Nat):Int):=by rw[htk];simp[B,Int.mul_comm]
     simp[leVs,leV,le1,<-this]
    ·trivial
  ·intro h1 h2;simp -dsimp(disch:=omega) only[h2,Nat.reduceBEq,ru];have hil:i=l.length:=by omega
   refine rpq rfl ⟨tvq,tvq⟩ ?_;simp(disch:=omega) only[St.get,fzX,oneRes,fzV,fzC,fz1,fz0,Option.map_some,qk,getD_cons_zero];rw[hil,val_take_all (qp _)]
end Go.Proofs.YtjjbkjgifdhlcaaGreat
namespace Go.Pl
theorem kn_first {w v first low top vl P:Nat} (_:0<P) (hw:w=first*P+low) (hl:low<P) (hv:v=top*P+vl) {q:Nat} (hq:q*v<=w):q*top<=first:=by
 have h1:q*top*P<=q*v:=by
  rw[hv,Nat.mul_add,Nat.mul_assoc];exact Nat.le_add_right _ _
 have h2:q*top*P<(first+1)*P:=by
  rw[Nat.add_mul,Nat.one_mul];omega
 have:=Nat.lt_of_mul_lt_mul_right h2;omega
theorem kn_exit {w v w2 v2 lw lv Q g:Nat} (hw:w=w2*Q+lw) (hv:v=v2*Q+lv) (hl:lv<Q) (hg:g*v2<=w2) (hgb:g<=v2):(g - 1)*v<=w:=by
 rcases Nat.eq_zero_or_pos g with h0 | h0
 ·subst h0;simp
 obtain⟨k,rfl⟩: ∃ k,g=k+1:=⟨g - 1,by omega⟩;rw[Nat.add_sub_cancel,hw,hv];have h1:k*lv<=k*Q:=Nat.mul_le_mul_left _ (by omega);have h2:(k+1)*v2*Q<=w2*Q:=qn _ hg;have h3:k*Q<=v2*Q:=qn _ (by omega);have h4:(k+1)*v2*Q=k*(v2*Q)+v2*Q:=by grind
 rw[Nat.mul_add];omega
structure KnInv (first top q g r:Nat):Prop where
 sum:g*top+r=first
 low:q<=g
theorem kn_start {first top q:Nat} (ht:0<top) (h:q*top<=first):KnInv first top q (first / top) (first % top):=
 ⟨by have:=Nat.div_add_mod first top;rw[Nat.mul_comm] at this;exact this,(Nat.le_div_iff_mul_le ht).2 h⟩
theorem kn_next {first top q g r:Nat} (h:KnInv first top q g r) (hlt:q<g):KnInv first top q (g - 1) (r+top):=by
 obtain⟨k,rfl⟩: ∃ k,g=k+1:=⟨g - 1,by omega⟩;refine⟨?_,by omega⟩;have:=h.sum;rw[Nat.add_mul,Nat.one_mul] at this;rw[Nat.add_sub_cancel];omega
theorem kn_test {w v w2 first u2 top second lw lv Q q g r:Nat} (hQ:0<Q) (hw:w=w2*Q+lw) (hlw:lw<Q) (hw2:w2=first*4294967296+u2) (hv:v=(top*4294967296+second)*Q+lv) (hq:q*v<=w)
 (h:KnInv first top q g r) (ht:r*4294967296+u2<g*second):q<g:=by
 rcases Nat.lt_or_ge q g with h1 | h1
 ·exact h1
 exfalso
 have h2:=kn_first hQ hw hlw hv hq
 have h3:g*(top*4294967296+second)<=q*(top*4294967296+second):=qn _ h1
 have h4:=h.sum
 have h5:g*(top*4294967296+second)=(g*top)*4294967296+g*second:=by grind
 omega
theorem kn_pass {first u2 top second g r q:Nat} (h:KnInv first top q g r) (ht:g*second<=r*4294967296+u2):g*(top*4294967296+second)<=first*4294967296+u2:=by
 have h4:=h.sum;have h5:g*(top*4294967296+second)=(g*top)*4294967296+g*second:=by grind
 omega
theorem kn_big {first top second g r q:Nat} (h:KnInv first top q g r) (hr:4294967296<=r) (hf:first<=top*4294967296+4294967295) (hs:second<4294967296):g<4294967296/\g*second<=r*4294967296:=by
 have h4:=h.sum;have h1:g*top<4294967296*top:=by omega
 have hg:g<4294967296:=Nat.lt_of_mul_lt_mul_right h1;refine⟨hg,?_⟩;have h2:g*second<=r*second:=qn _ (by omega);have h3:r*second<=r*4294967296:=Nat.mul_le_mul_left _ (by omega);exact qnb h2 h3
theorem kn_top {first top:Nat} (ht:2147483648<=top) (hf:first<=top*4294967296+4294967295):first / top<=4294967297:=by
 have:first / top<4294967298:=by
  rw[Nat.div_lt_iff_lt_mul (by omega)];omega
 omega
end Go.Pl
namespace Go.Pl
open Go.AM
def seg (u:List Nat) (j i:Nat):Nat:=val ((u.drop j).take i)
theorem getD_drop' (u:List Nat) (j i:Nat):(u.drop j).getD i 0=u.getD (j+i) 0:=by
 simp[List.getElem?_drop]
theorem seg_zero (u:List Nat) (j:Nat):seg u j 0=0:=by simp[seg,val]
theorem seg_succ (u:List Nat) (j i:Nat):seg u j (i+1)=seg u j i+B^i*u.getD (j+i) 0:=by
 unfold seg;rw[val_take_succ,getD_drop']
theorem seg_set {u:List Nat} {j i:Nat} (h:j+i<u.length) (x:Nat):seg (u.set (j+i) x) j (i+1)=seg u j i+B^i*x:=by
 unfold seg;have h1:(u.set (j+i) x).drop j=(u.drop j).set i x:=by
  rw[List.drop_set];rw[if_neg (by omega),Nat.add_sub_cancel_left]
 rw[h1,val_set_take (by rw[length_drop];omega)]
theorem seg_lt {u:List Nat} (hu:Dig u) (j i:Nat):seg u j i<B^i:=by
 unfold seg;have h:=val_lt ((hu.drop j).take i);have h2:((u.drop j).take i).length<=i:=by rw[length_take];omega
 exact Nat.lt_of_lt_of_le h (Nat.pow_le_pow_right (by decide) h2)
theorem val_seg {u:List Nat} {j n:Nat} (h:j+n<=u.length):val u=val (u.take j)+B^j*(seg u j n+B^n*val (u.drop (j+n))):=by
 rw[val_drop u j (by omega)];congr 2;rw[val_drop (u.drop j) n (by rw[length_drop];omega)];unfold seg;rw[List.drop_drop]
theorem sub64 {a c b:Int}:IntKind.u64.wrap (IntKind.u64.wrap (a - c) - b)=(a - c - b) % 18446744073709551616:=by
 rw[wrapU64,wrapU64];omega
theorem sub_limb {a c b:Nat} (ha:a<4294967296) (hc:c<4294967296) (hb:b<=1):
 ∃ d b2:Nat,d<4294967296/\b2<=1/\d+c+b=a+b2*4294967296/\((a:Int) - c - b) % 18446744073709551616 % 4294967296=(d:Int)/\((a:Int) - c - b) % 18446744073709551616 / 9223372036854775808=(b2:Int):=by
 by_cases h:c+b<=a
 ·exact⟨a - (c+b),0,by omega,by omega,by omega,by omega,by omega⟩
 ·exact⟨a+4294967296 - (c+b),1,by omega,by omega,by omega,by omega,by omega⟩
theorem mulsub_step {S S0 P g Vt v c b a d b2:Nat} (hv:S+g*Vt=S0+(c+b)*P) (h:d+(c+g*v) % 4294967296+b=a+b2*4294967296):
 S+P*d+g*(Vt+P*v)=S0+P*a+((c+g*v) / 4294967296+b2)*(P*4294967296):=by
 have h1:=Nat.mod_add_div (c+g*v) 4294967296
 generalize (c+g*v) % 4294967296=lo at*
 generalize (c+g*v) / 4294967296=hi at*
 have h2:P*d+P*lo+P*b=P*a+b2*(P*4294967296):=by
  have:=congrArg (P* ·) h;grind
 have h3:P*lo+hi*(P*4294967296)=P*c+g*(P*v):=by
  have:=congrArg (P* ·) h1;grind
 have h4:(c+b)*P=P*c+P*b:=by grind
 have h5:(hi+b2)*(P*4294967296)=hi*(P*4294967296)+b2*(P*4294967296):=by rw[Nat.add_mul]
 rw[h5,Nat.mul_add g]
 omega
theorem round_ok {W W1 g V:Nat} (h:W1+g*V=W) (hq:W<(g+1)*V):W1<V:=by
 rw[Nat.add_mul,Nat.one_mul] at hq;omega
theorem round_back {W W1 W2 g V M c:Nat} (hV:V<=M) (h:W1+g*V=W+M) (hg:0<g) (hlow:(g - 1)*V<=W) (hhi:W<g*V) (h2:W2+c*M=W1+V) (hW2:W2<M):W2+(g - 1)*V=W/\W2<V:=by
 obtain⟨k,rfl⟩: ∃ k,g=k+1:=⟨g - 1,by omega⟩;rw[Nat.add_sub_cancel] at*;rw[Nat.add_mul,Nat.one_mul] at h hhi;have h3:W2+c*M+k*V=W+M:=by omega
 rcases Nat.lt_trichotomy c 1 with hc | hc | hc
 ·have:c=0:=by omega
  subst this;omega
 ·subst hc;omega
 ·exfalso;have:2*M<=c*M:=qn _ hc;omega
theorem seg_full {u:List Nat} {j n:Nat} (h:j+n<=u.length):val (u.drop j)=seg u j n+B^n*val (u.drop (j+n)):=by
 unfold seg;rw[val_drop (u.drop j) n (by rw[length_drop];omega),List.drop_drop]
theorem getD_of_drop {u w:List Nat} {j:Nat} (hl:u.length=w.length) (h: ∀ t,j<=t->u.getD t 0=w.getD t 0):u.drop j=w.drop j:=by
 apply List.ext_getElem?;intro i;rw[List.getElem?_drop,List.getElem?_drop];have:=h (j+i) (by omega);by_cases hi:j+i<u.length
 ·have hw:j+i<w.length:=by omega
  simp[hi,hw] at this;rw[qb hi,qb hw,this]
 ·rw[getElem?_eq_none (by omega),getElem?_eq_none (by omega)]
theorem getD_of_take {u w:List Nat} {j:Nat} (hl:u.length=w.length) (h: ∀ t,t<j->u.getD t 0=w.getD t 0):u.take j=w.take j:=by
 apply List.ext_getElem?;intro i;rw[getElem?_take,getElem?_take];split
 ·have:=h i (by omega);by_cases hi:i<u.length
  ·have hw:i<w.length:=by omega
   simp[hi,hw] at this;rw[qb hi,qb hw,this]
  ·rw[getElem?_eq_none (by omega),getElem?_eq_none (by omega)]
 ·rfl
theorem lh_seg {s0 a1 a2 P:Nat}:s0+P*a2+P*4294967296*a1=(a1*4294967296+a2)*P+s0:=by grind
theorem lh_two {f P s a:Nat}:f*(P*4294967296)+(s+P*a)=(f*4294967296+a)*P+s:=by grind
theorem lh_first {V W f s r t P:Nat} (hk:V=t*P+r) (hr:r<P) (hW:W<V*4294967296) (hf:W=f*P+s):f<=t*4294967296+4294967295:=by
 have h4:V*4294967296<=(t*P+P)*4294967296:=qn _ (by omega);have h5:(t*P+P)*4294967296=(t*4294967296+4294967296)*P:=by grind
 have h6:f*P<(t*4294967296+4294967296)*P:=by omega
 have:=Nat.lt_of_mul_lt_mul_right h6;omega
theorem lh_all {d0 d1 V:Nat} (h0:d0<4294967296) (h:d1<V):d0+4294967296*d1<V*4294967296:=by omega
theorem lh_tail {s P x M:Nat} (h:s+P*x<M) (hM:M<=P):x=0:=by
 rcases Nat.eq_zero_or_pos x with h1 | h1
 ·exact h1
 ·exfalso;have:P*1<=P*x:=Nat.mul_le_mul_left _ h1;omega
structure LongHead (u v:List Nat) (j n:Nat):Prop where
 all:val (u.drop j)=seg u j (n+1)
 tail:val (u.drop (j+n+1))=0
 h1:seg u j (n+1)=(u.getD (j+n) 0*4294967296+u.getD (j+n - 1) 0)*B^(n - 1)+seg u j (n - 1)
 h2:seg u j (n+1)=((u.getD (j+n) 0*4294967296+u.getD (j+n - 1) 0)*4294967296+u.getD (j+n - 2) 0)*B^(n - 2)+seg u j (n - 2)
 v1:val v=v.getD (n - 1) 0*B^(n - 1)+val (v.take (n - 1))
 v2:val v=(v.getD (n - 1) 0*4294967296+v.getD (n - 2) 0)*B^(n - 2)+val (v.take (n - 2))
 lt:seg u j (n+1)<val v*B
 first:u.getD (j+n) 0*4294967296+u.getD (j+n - 1) 0<=v.getD (n - 1) 0*4294967296+4294967295
 l1:val (v.take (n - 1))<B^(n - 1)
 l2:val (v.take (n - 2))<B^(n - 2)
 s1:seg u j (n - 1)<B^(n - 1)
 s2:seg u j (n - 2)<B^(n - 2)
theorem long_head {u v:List Nat} {j n:Nat} (hu:Dig u) (hv:Dig v) (hvl:v.length=n) (hn:2<=n) (hj:j+n+1<=u.length) (hlt:val (u.drop (j+1))<val v):LongHead u v j n:=by
 obtain⟨p,rfl⟩: ∃ p,n=p+2:=⟨n - 2,by omega⟩;have hV:=val_lt hv;rw[hvl] at hV;have hf:=seg_full (u:=u) (j:=j) (n:=p+2+1) (by omega);have hd:=val_drop_succ (l:=u) (j:=j) (by omega);have hj0:u.getD j 0<4294967296:=hu.getD j;have hW:val (u.drop j)<val v*4294967296:=by
  rw[hd];exact lh_all hj0 hlt
 have hW2:val v*4294967296<=B^(p+2+1):=by
  rw[Nat.pow_succ];exact qn _ (Nat.le_of_lt hV)
 have ht:val (u.drop (j+(p+2+1)))=0:=by
  rw[hf] at hW;exact lh_tail hW hW2
 have hall:val (u.drop j)=seg u j (p+2+1):=by
  rw[hf,ht,Nat.mul_zero,Nat.add_zero]
 have c1:p+2 - 1=p+1:=by omega
 have c2:p+2 - 2=p:=by omega
 have c3:j+(p+2) - 1=j+(p+1):=by omega
 have c4:j+(p+2) - 2=j+p:=by omega
 have e1:=seg_succ u j (p+2);have e2:=seg_succ u j (p+1);have e3:=seg_succ u j p;have w1:=val_take_succ v (p+1);have w2:=val_take_succ v p;have w0:val (v.take (p+1+1))=val v:=val_take_all (by omega);have hp1: ∀ i,B^(i+1)=B^i*4294967296:=fun i=>Nat.pow_succ _ _
 have g1:seg u j (p+2+1)=(u.getD (j+(p+2)) 0*4294967296+u.getD (j+(p+1)) 0)*B^(p+1)+seg u j (p+1):=by
  rw[e1,e2,hp1 (p+1)];exact lh_seg
 have k1:val v=v.getD (p+1) 0*B^(p+1)+val (v.take (p+1)):=by
  rw[<-w0,w1,Nat.add_comm,Nat.mul_comm]
 have q1:val (v.take (p+1))<B^(p+1):=by
  have:=val_lt (hv.take (p+1));rw[length_take,Nat.min_eq_left (by omega)] at this;exact this
 have q2:val (v.take p)<B^p:=by
  have:=val_lt (hv.take p);rw[length_take,Nat.min_eq_left (by omega)] at this;exact this
 refine⟨hall,ht,?_,?_,?_,?_,?_,?_,?_,?_,?_,?_⟩
 ·rw[c1,c3];exact g1
 ·rw[c2,c3,c4,g1,e3,hp1];exact lh_two
 ·rw[c1];exact k1
 ·rw[c1,c2,k1,w2,hp1];generalize B^p=P;grind
 ·rw[<-hall];exact hW
 ·rw[c1,c3];rw[hall] at hW;exact lh_first k1 q1 hW g1
 ·rw[c1];exact q1
 ·rw[c2];exact q2
 ·rw[c1];exact seg_lt hu _ _
 ·rw[c2];exact seg_lt hu _ _
theorem long_round {u u4 qd:List Nat} {j n A g V:Nat} (hl:u4.length=u.length) (hjn:j+n+1<=u.length) (hjq:j<qd.length)
 (hag: ∀ t,(t<j\/j+n+1<=t)->u4.getD t 0=u.getD t 0) (htail:val (u.drop (j+n+1))=0)
 (hW:seg u4 j (n+1)+g*V=seg u j (n+1)) (hlt:seg u4 j (n+1)<V) (hinv:val u+V*(B^(j+1)*val (qd.drop (j+1)))=A):
 val u4+V*(B^j*val ((qd.set j g).drop j))=A/\val (u4.drop j)<V:=by
 have h1:u4.drop (j+n+1)=u.drop (j+n+1):=getD_of_drop hl (fun t ht=>hag t (Or.inr ht))
 have h2:u4.take j=u.take j:=getD_of_take hl (fun t ht=>hag t (Or.inl ht))
 have h3:=val_seg (u:=u) (j:=j) (n:=n+1) (by omega)
 have h4:=val_seg (u:=u4) (j:=j) (n:=n+1) (by omega)
 have h5:=seg_full (u:=u4) (j:=j) (n:=n+1) (by omega)
 rw[show j+(n+1)=j+n+1 by omega] at h3 h4 h5
 rw[h1,htail] at h4 h5
 rw[htail] at h3
 rw[Nat.mul_zero,Nat.add_zero] at h3 h4 h5
 have h6:=val_drop_set (l:=qd) (j:=j) (x:=g) hjq
 refine⟨?_,by rw[h5];exact hlt⟩
 rw[h6,h4,h2,<-hinv,h3,<-hW,Nat.pow_succ]
 generalize val (u.take j)=x1
 generalize B^j=x2
 generalize seg u4 j (n+1)=x3
 generalize val (qd.drop (j+1))=x4
 grind
theorem guess_low {u v:List Nat} {j n g:Nat} (h:LongHead u v j n) (hg:g<4294967296) (htop:2147483648<=v.getD (n - 1) 0)
 (h2:g*(v.getD (n - 1) 0*4294967296+v.getD (n - 2) 0)<=(u.getD (j+n) 0*4294967296+u.getD (j+n - 1) 0)*4294967296+u.getD (j+n - 2) 0):
 (g - 1)*val v<=seg u j (n+1):=
 kn_exit h.h2 h.v2 h.l2 h2 (by omega)
theorem long_last {S1 S S0 U P g V c b x d b2:Nat} (hset:S1=S+P*d) (hss:U=S0+P*x) (hsum:S+g*V=S0+(c+b)*P) (hdb:d+c+b=x+b2*4294967296):
 S1+g*V=U+b2*(P*4294967296):=by
 have h1:P*d+P*c+P*b=P*x+b2*(P*4294967296):=by
  have:=congrArg (P* ·) hdb;grind
 have h2:(c+b)*P=P*c+P*b:=by grind
 omega
theorem addback_step {S S0 P Vt c z y cc:Nat} (hs:S+c*P=S0+Vt) (hcc:c+(z+y)=cc):
 S+P*(cc % 4294967296)+cc / 4294967296*(P*4294967296)=S0+P*z+(Vt+P*y):=by
 have h1:=Nat.mod_add_div cc 4294967296
 have h2:P*(cc % 4294967296)+cc / 4294967296*(P*4294967296)=P*cc:=by
  have:=congrArg (P* ·) h1;grind
 have h3:P*cc=P*c+P*z+P*y:=by rw[<-hcc];grind
 have h4:P*c=c*P:=Nat.mul_comm _ _
 omega
theorem addback_last {S1 S U S0 P V c z:Nat} (hset:S1=S+P*((z+c) % 4294967296)) (hss:U=S0+P*z) (hs:S+c*P=S0+V):
 S1+(z+c) / 4294967296*(P*4294967296)=U+V:=by
 have h1:=Nat.mod_add_div (z+c) 4294967296
 have h2:P*((z+c) % 4294967296)+(z+c) / 4294967296*(P*4294967296)=P*(z+c):=by
  have:=congrArg (P* ·) h1;grind
 have h3:P*(z+c)=P*z+c*P:=by grind
 omega
theorem quot_hi {w v g:Nat} (hv:0<v) (h:w / v<=g):w<(g+1)*v:=by
 rw[<-Nat.div_lt_iff_lt_mul hv];omega
theorem unshift_digit {l:List Nat} {i k:Nat} (hk:k<=32) (hi:i<l.length):
 (l.getD i 0+l.getD (i+1) 0*4294967296) / 2^k % 4294967296=val (l.drop i) / 2^k % 4294967296:=by
 have h1:=val_drop_succ hi
 have h2: ∃ r,val (l.drop (i+1))=l.getD (i+1) 0+B*r:=by
  by_cases h:i+1<l.length
  ·exact⟨_,val_drop_succ h⟩
  ·refine⟨0,?_⟩;rw[List.drop_of_length_le (by omega),qa,getElem?_eq_none (by omega)];rfl
 obtain⟨r,hr⟩:=h2
 have hb:4294967296=2^k*2^(32 - k):=by
  rw[<-Nat.pow_add,show k+(32 - k)=32 by omega]
 rw[h1,hr]
 generalize l.getD i 0=x
 generalize l.getD (i+1) 0=y
 have h3:x+B*(y+B*r)=x+y*4294967296+2^k*(2^(32 - k)*4294967296*r):=by
  have:2^k*(2^(32 - k)*4294967296*r)=(2^k*2^(32 - k))*4294967296*r:=by grind
  rw[this,<-hb];simp only[B];grind
 rw[h3,Nat.add_mul_div_left _ _ (Nat.two_pow_pos k)]
 have h4:2^(32 - k)*4294967296*r=4294967296*(2^(32 - k)*r):=by grind
 rw[h4,Nat.add_mul_mod_self_left]
theorem digs_succ (i x:Nat):digs (i+1) x=digs i x++[x / B^i % B]:=by
 induction i generalizing x with
 | zero=>simp[digs]
 | succ i ih=>
  rw[digs,ih]
  conv=>rhs;rw[digs]
  rw[Nat.div_div_eq_div_mul,Nat.pow_succ,Nat.mul_comm B];simp
theorem val_drop_div {l:List Nat} (hl:Dig l) {i:Nat} (hi:i<=l.length):val l / B^i=val (l.drop i):=by
 rw[val_drop l i hi];have h:=val_lt (hl.take i);rw[length_take,Nat.min_eq_left hi] at h;rw[Nat.add_mul_div_left _ _ (qeb (by decide)),Nat.div_eq_of_lt h,Nat.zero_add]
theorem val_div_lt {x P V T K Bn Bm Bl:Nat} (hx:P<Bl) (hK:K<=T) (hV:T*Bn<=V) (hB:Bn*Bm=Bl) (hxe:x=P*K) (hT:0<T) (hm:0<Bm):x / Bm<V:=by
 rw[Nat.div_lt_iff_lt_mul hm,hxe];have h1:P*K<=P*T:=Nat.mul_le_mul_left _ hK;have h2:P*T<Bl*T:=Nat.mul_lt_mul_of_pos_right hx hT;have h3:T*Bn*Bm<=V*Bm:=qn _ hV;have h4:T*Bn*Bm=Bl*T:=by rw[<-hB];grind
 omega
theorem long_end {u q a b K V:Nat} (hV:V=b*K) (hK:0<K) (h:u+V*q=a*K) (hu:u<V):q=a / b/\u / K=a % b:=by
 have h1:q=a*K / V:=by rw[<-h,Nat.add_mul_div_left _ _ (by omega),Nat.div_eq_of_lt hu,Nat.zero_add]
 have h2:u=a*K % V:=by rw[<-h,Nat.add_mul_mod_self_left,Nat.mod_eq_of_lt hu]
 constructor
 ·rw[h1,hV,Nat.mul_div_mul_right _ _ hK]
 ·rw[h2,hV,Nat.mul_mod_mul_right,Nat.mul_div_cancel _ hK]
end Go.Pl
namespace Go.Proofs.YtjjbkjgifdhlcaaGreat
open Go.AM Go.Pl
set_option maxRecDepth 100000
set_option maxHeartbeats 4000000
theorem blen_lt (n:Nat):n<2^blen n:=by
 unfold blen;split
 ·subst_vars;simp
 ·exact Nat.lt_log2_self
theorem blen_pow {n:Nat} (h:n≠0):2^(blen n - 1)<=n:=by
 unfold blen;rw[if_neg h,Nat.add_sub_cancel];exact Nat.log2_self_le h
theorem den101 (a b:List Nat) (k:Nat) (ha:Dig a) (hb:Dig b) (hla:a.length<10000000000) (hlb2:2<=b.length) (hlb:b.length<=a.length)
 (hk:k=32 - blen (b.getD (b.length - 1) 0)) (hk32:k<32) (v:List Nat) (hv:limbs (val b*2^k)=v) (hvl:v.length=b.length) (htop:2147483648<=v.getD (v.length - 1) 0):
 Den Tryz.prog 218 [] [.fv (.sl (u32s a)),.fv (.sl (u32s b))] [] (.tup [.fv (N (val a / val b)),.fv (N (val a % val b))]):=by
 have hbt:(((b.length:Nat):Int) - 1).toNat=b.length - 1:=by omega
 have htb:=hb.getD (b.length - 1)
 simp only[B] at htb
 have hkc:IntKind.u64.wrap ((k:Nat):Int)=(k:Int):=wrapU64c (by omega)
 have h104:=den104 (b.getD (b.length - 1) 0) htb
 rw[<-hk] at h104
 have hsb:val (digs (b.length+1) (val b*2^k))=val b*2^k:=by
  apply val_digs;rw[Nat.pow_succ];exact Nat.mul_lt_mul'' (val_lt hb) (Nat.lt_of_lt_of_le (Nat.pow_lt_pow_right (by decide) hk32) (by decide))
 have h87:=den87 (digs (b.length+1) (val b*2^k)) (digs_dig _ _) (by rw[digs_length];omega)
 rw[hsb] at h87
 refine den_of tabOk mixed Tryz.func218 (cd:=_) rfl (by decide) rfl (n:=249) rfl rfl (m:=0) rfl ?_
 simp -dsimp(disch:=omega) only[replicate,hbt,↓reduceIte,reduceLT,reduceLeDiff,ru]
 refine⟨by omega,?_⟩
 refine gp h104 rfl ?_
 simp -dsimp(disch:=omega) only[hkc,ru]
 refine gp (den105 a k ha (by omega) hk32) rfl ?_
 simp -dsimp(disch:=omega) only[rules]
 refine gp (den105 b k hb (by omega) hk32) rfl ?_
 simp -dsimp(disch:=omega) only[rules,reduceAdd]
 refine gp h87 ?_ ?_
 ·simp[fzAs,fzA,fz1,fz0,u32s_length,digs_length]
  rw[qdq (by simp[u32s_length,digs_length])]
 simp -dsimp(disch:=omega) only[N_val,hv,reduceAdd,ru]
 refine dw (by kernel_rfl) ?_
 obtain⟨n,hn⟩:=ex1 (v.length)
 have hbn:b.length=n:=by omega
 have hn1:((n:Int) - 1).toNat=n - 1:=by omega
 have hn2:((n:Int) - 2).toNat=n - 2:=by omega
 have hlm:(((a.length+1:Nat):Int) - (n:Int)).toNat=a.length+1 - n:=by omega
 have hvd:Dig v:=by rw[<-hv];exact limbs_dig _
 have htb2:=hvd.getD (n - 1)
 have hsb2:=hvd.getD (n - 2)
 have hvv:val v=val b*2^k:=by rw[<-hv,val_limbs]
 simp only[B] at htb2 hsb2
 rw[hn] at htop
 obtain⟨top,ht⟩: ∃ t,v.getD (n - 1) 0=t:=⟨_,rfl⟩
 obtain⟨sec,hs⟩: ∃ t,v.getD (n - 2) 0=t:=⟨_,rfl⟩
 obtain⟨m,hm⟩:=ex1 (a.length+1 - n)
 rw[ht] at htb2 htop
 rw[hs] at hsb2
 have hua:val (digs (a.length+1) (val a*2^k))=val a*2^k:=by
  apply val_digs;rw[Nat.pow_succ];exact Nat.mul_lt_mul'' (val_lt ha) (Nat.lt_of_lt_of_le (Nat.pow_lt_pow_right (by decide) hk32) (by decide))
 simp -dsimp(disch:=omega) only[hn,hn1,hn2,ht,hs,hlm,hm,↓reduceIte,reduceAdd,reduceLT,reduceLeDiff,ru]
 refine⟨by omega,by omega,by omega,?_⟩
 refine wl (α:=Nat×List Nat×List Nat) (fun⟨j1,qd,u⟩=>⟨.fv (.sl (u32s a)):: .fv (.sl (u32s b)):: .any:: .any:: .lsl 1 0 m 1:: .nilsl:: .int .u64 k:: .lsl 0 0 (a.length+1) 1:: .fv (.sl (u32s v)):: .int .i64 n:: .int .u64 top:: .int .u64 sec:: .int .i64 ((j1:Int) - 1)::replicate 238 .any,[.row true (u32s u),.row true (u32s qd)]⟩)
  (fun⟨j1,_,_⟩=>j1) (fun⟨j1,qd,u⟩=>j1<=m/\u.length=a.length+1/\qd.length=m/\Dig u/\Dig qd/\val (u.drop j1)<val v/\val u+val v*(B^j1*val (qd.drop j1))=val a*2^k) (m,replicate m 0,digs (a.length+1) (val a*2^k)) ?_ ?_ ?_
 ·refine wk [0,2] (by simp) rfl ?_ ?_
  ·simp[leVs,leV,le1]
  ·simp[leH,leO]
 ·refine⟨qp _,digs_length _ _,by simp,digs_dig _ _,Dig.zeros,?_,?_⟩
  ·rw[<-val_drop_div (digs_dig _ _) (by rw[digs_length];omega),hua]
   have h1:=val_take_succ v (n - 1)
   rw[val_take_all (by omega),ht] at h1
   refine val_div_lt (x:=val a*2^k) (P:=val a) (T:=2147483648) (K:=2^k) (Bn:=B^(n - 1)) (Bl:=B^a.length) (val_lt ha) (Nat.pow_le_pow_right (by decide) (show k<=31 by omega)) ?_ ?_ rfl (by decide) (qeb (by decide))
   ·rw[h1,Nat.mul_comm]
    exact qnb (Nat.mul_le_mul_left _ htop) (Nat.le_add_left _ _)
   ·rw[<-Nat.pow_add];congr 1;omega
  ·rw[hua,List.drop_of_length_le (by simp)]
   simp[val]
 ·rintro⟨j1,qd,u⟩ ⟨hj1,hul,hql,hud,hqd,hlt,hinv⟩
  simp -dsimp(disch:=omega) only[replicate,↓reduceIte,ru]
  refine bd_ ?_ ?_
  ·intro h1 h2
   obtain⟨j,rfl⟩: ∃ j,j1=j+1:=⟨j1 - 1,by omega⟩
   have i1:(((j+1:Nat):Int) - 1+(n:Int)).toNat=j+n:=by omega
   have i2:(((j+1:Nat):Int) - 1+(n:Int) - 1).toNat=j+n - 1:=by omega
   have i3:(((j+1:Nat):Int) - 1+(n:Int) - 2).toNat=j+n - 2:=by omega
   have i0:(((j+1:Nat):Int) - 1).toNat=j:=by omega
   have LH:=long_head (j:=j) hud hvd hn (by omega) (by omega) hlt
   have d1:=hud.getD (j+n)
   have d2:=hud.getD (j+n - 1)
   have d3:=hud.getD (j+n - 2)
   simp only[B] at d1 d2 d3
   have hfirst:=LH.first
   rw[ht] at hfirst
   obtain⟨x1,hx1⟩: ∃ t,u.getD (j+n) 0=t:=⟨_,rfl⟩
   obtain⟨x2,hx2⟩: ∃ t,u.getD (j+n - 1) 0=t:=⟨_,rfl⟩
   obtain⟨x3,hx3⟩: ∃ t,u.getD (j+n - 2) 0=t:=⟨_,rfl⟩
   rw[hx1] at d1 hfirst
   rw[hx2] at d2 hfirst
   rw[hx3] at d3
   simp -dsimp(disch:=omega) only[h2,rules]
   refine dw (by kernel_rfl) ?_
   simp -dsimp(disch:=omega) only[i1,i2,hx1,hx2,or64s,IntKind.bits,Int.reduceToNat,Int.reducePow,↓reduceIte,reduceLeDiff,ru]
   refine⟨by omega,by omega,by omega,by omega,by omega,?_⟩
   obtain⟨F,hF⟩: ∃ F,F=x1*4294967296+x2:=⟨_,rfl⟩
   have hFi:(x1:Int)*4294967296+(x2:Int)=(F:Int):=by omega
   rw[<-hF] at hfirst
   have hFt:F / top<=4294967297:=kn_top htop hfirst
   have hFm:F % top<top:=Nat.mod_lt _ (by omega)
   have hpos:0<val v:=by have:=LH.v1;rw[ht] at this;have h0:0<top*B^(n - 1):=Nat.mul_pos (by omega) (qeb (by decide));omega
   obtain⟨Q,hQ⟩: ∃ Q,Q=seg u j (n+1) / val v:=⟨_,rfl⟩
   have hQv:Q*val v<=seg u j (n+1):=by rw[hQ];exact Nat.div_mul_le_self _ _
   have LH1:=LH.h1
   rw[hx1,hx2,<-hF] at LH1
   have LHv:=LH.v1
   rw[ht] at LHv
   have hst:=kn_start (q:=Q) (by omega) (kn_first (qeb (by decide)) LH1 LH.s1 LHv hQv)
   have hQb:Q<4294967296:=by
    rw[hQ,Nat.div_lt_iff_lt_mul hpos,Nat.mul_comm];exact LH.lt
   have hq:(F:Int) / (top:Int)=((F / top:Nat):Int):=by rw[Int.natCast_ediv]
   have hr:(F:Int) % (top:Int)=((F % top:Nat):Int):=by rw[Int.natCast_emod]
   generalize F / top=g0 at*
   generalize F % top=r0 at*
   simp -dsimp(disch:=omega) only[hFi]
   refine dw (by kernel_rfl) ?_
   simp -dsimp(disch:=omega) only[hq,hr,↓reduceIte,ru]
   refine⟨by omega,by omega,?_⟩
   refine WA.blockcut (fun(y:Nat×(Nat->PV))=>⟨[.fv (.sl (u32s a)),.fv (.sl (u32s b)),.any,.any,.lsl 1 0 m 1,.nilsl,.int .u64 k,.lsl 0 0 (a.length+1) 1,.fv (.sl (u32s v)),.int .i64 n,.int .u64 top,.int .u64 sec,.int .i64 (((j+1:Nat):Int) - 1),.any,.int .u64 y.1]++tl y.2 15 236,[.row true (u32s u),.row true (u32s qd)]⟩)
    (fun y=>Q<=y.1/\y.1<4294967296/\(y.1 - 1)*val v<=seg u j (n+1)) ?_ ?_
   ·refine wl (α:=Nat×Nat) (fun⟨g,r⟩=>⟨.fv (.sl (u32s a)):: .fv (.sl (u32s b)):: .any:: .any:: .lsl 1 0 m 1:: .nilsl:: .int .u64 k:: .lsl 0 0 (a.length+1) 1:: .fv (.sl (u32s v)):: .int .i64 n:: .int .u64 top:: .int .u64 sec:: .int .i64 (((j+1:Nat):Int) - 1):: .any:: .int .u64 g:: .int .u64 r::replicate 235 .any,[.row true (u32s u),.row true (u32s qd)]⟩)
     (fun⟨g,_⟩=>g) (fun⟨g,r⟩=>KnInv F top Q g r/\r<4294967296/\g<=4294967297) (g0,r0) ?_ ?_ ?_
    ·refine wk [0,1] (by simp) rfl ?_ ?_
     ·simp[leVs,leV,le1]
     ·simp[leH,leO]
    ·exact⟨hst,by omega,hFt⟩
    ·rintro⟨g,r⟩ ⟨hkn,hrb,hgb⟩
     have hgd:(g:Int) / 4294967296=((g / 4294967296:Nat):Int):=by rw[Int.natCast_ediv];rfl
     simp -dsimp(disch:=omega) only[replicate,hgd,IntKind.bits,Int.reduceToNat,Int.reducePow,↓reduceIte,reduceLeDiff,ru]
     refine⟨by omega,Br.bneInt ?_ ?_⟩
     ·intro h3 h4
      have hlt':Q<g:=by omega
      obtain⟨g',rfl⟩: ∃ g',g=g'+1:=⟨g - 1,by omega⟩
      have hkn':=kn_next hkn hlt'
      rw[Nat.add_sub_cancel] at hkn'
      have hgi':((g'+1:Nat):Int) - 1=(g':Int):=by omega
      simp -dsimp(disch:=omega) only[h4,hgi',IntKind.bits,Int.reduceToNat,Int.reducePow,↓reduceIte,reduceLeDiff,ru]
      refine⟨by omega,Br.bneInt ?_ ?_⟩
      ·intro h5 h6
       simp -dsimp(disch:=omega) only[h6,rules,Nat.reduceBEq]
       have hbig:=kn_big (second:=sec) hkn' (by omega) hfirst (by omega)
       refine Mid.ex g' rfl ⟨by omega,hbig.1,?_⟩
       refine guess_low LH hbig.1 (by omega) ?_
       rw[ht,hs,hx1,hx2,hx3,<-hF]
       exact kn_pass hkn' (qnb hbig.2 (Nat.le_add_right _ _))
      ·intro h5 h6
       simp -dsimp(disch:=omega) only[h6,rules]
       refine ap (g',r+top) (by dsimp only;omega) ?_ ⟨hkn',by omega,by omega⟩
       refine wk [0,1] (by simp) rfl ?_ ?_
       ·simp[leVs,leV,le1]
       ·simp[leH,leO]
     ·intro h3 h4
      have hgl:g<4294967296:=by omega
      have hgs:g*sec<=4294967295*4294967295:=Nat.mul_le_mul (by omega) (by omega)
      have hgi:(g:Int)*(sec:Int)=((g*sec:Nat):Int):=by rw[Int.natCast_mul]
      obtain⟨gs,hgs2⟩: ∃ t,g*sec=t:=⟨_,rfl⟩
      rw[hgs2] at hgs hgi
      simp -dsimp(disch:=omega) only[h4,hgi,i3,hx3,or64s,IntKind.bits,Int.reduceToNat,Int.reducePow,↓reduceIte,reduceLeDiff,ru]
      refine⟨by omega,by omega,by omega,bd_ ?_ ?_⟩
      ·intro h7 h8
       have hlt':Q<g:=by
        have LH2:=LH.h2;have LHv2:=LH.v2;rw[hx1,hx2,hx3,<-hF] at LH2;rw[ht,hs] at LHv2;exact kn_test (qeb (by decide)) LH2 LH.s2 rfl LHv2 hQv hkn (by rw[hgs2];omega)
       obtain⟨g',rfl⟩: ∃ g',g=g'+1:=⟨g - 1,by omega⟩
       have hkn':=kn_next hkn hlt'
       rw[Nat.add_sub_cancel] at hkn'
       have hgi':((g'+1:Nat):Int) - 1=(g':Int):=by omega
       simp -dsimp(disch:=omega) only[h8,hgi',IntKind.bits,Int.reduceToNat,Int.reducePow,↓reduceIte,reduceLeDiff,ru]
       refine⟨by omega,Br.bneInt ?_ ?_⟩
       ·intro h5 h6
        simp -dsimp(disch:=omega) only[h6,rules,Nat.reduceBEq]
        have hbig:=kn_big (second:=sec) hkn' (by omega) hfirst (by omega)
        refine Mid.ex g' rfl ⟨by omega,hbig.1,?_⟩
        refine guess_low LH hbig.1 (by omega) ?_
        rw[ht,hs,hx1,hx2,hx3,<-hF]
        exact kn_pass hkn' (qnb hbig.2 (Nat.le_add_right _ _))
       ·intro h5 h6
        simp -dsimp(disch:=omega) only[h6,rules]
        refine ap (g',r+top) (by dsimp only;omega) ?_ ⟨hkn',by omega,by omega⟩
        refine wk [0,1] (by simp) rfl ?_ ?_
        ·simp[leVs,leV,le1]
        ·simp[leH,leO]
      ·intro h7 h8
       simp -dsimp(disch:=omega) only[h8,rules,Nat.reduceBEq]
       refine Mid.ex g rfl ⟨hkn.low,hgl,?_⟩
       refine guess_low LH hgl (by omega) ?_
       rw[ht,hs,hx1,hx2,hx3,<-hF]
       exact kn_pass hkn (by rw[hgs2];omega)
   ·rintro⟨g,x⟩ ⟨hg1,hg2,hg3⟩
    have hpre:u.length=a.length+1:=hul
    have hWhi:=quot_hi (g:=g) hpos (by rw[<-hQ];exact hg1)
    simp only[] at hg1 hg2 hg3
    simp -dsimp(disch:=omega) only[tl,reduceAdd,ru]
    refine wl (α:=Nat×Nat×Nat×List Nat) (fun⟨i,bo,c,u'⟩=>⟨[.fv (.sl (u32s a)),.fv (.sl (u32s b)),.any,.any,.lsl 1 0 m 1,.nilsl,.int .u64 k,.lsl 0 0 (a.length+1) 1,.fv (.sl (u32s v)),.int .i64 n,.int .u64 top,.int .u64 sec,.int .i64 (((j+1:Nat):Int) - 1),.any,.int .u64 g,.any,.int .u64 bo,.int .u64 c]++replicate 99 .any++[.fv (.sl (u32s v)),.int .i64 n,.int .i64 i]++replicate 131 .any,[.row true (u32s u'),.row true (u32s qd)]⟩)
     (fun⟨i,_,_,_⟩=>n - i) (fun⟨i,bo,c,u'⟩=>i<=n/\bo<=1/\c<4294967296/\u'.length=a.length+1/\Dig u'/\(∀ t,(t<j\/j+i<=t)->u'.getD t 0=u.getD t 0)/\seg u' j i+g*val (v.take i)=seg u j i+(c+bo)*B^i) (0,0,0,u) ?_ ?_ ?_
    ·refine wk [0,1] (by simp) rfl ?_ ?_
     ·simp[leVs,leV,le1,hn]
     ·simp[leH,leO]
    ·refine⟨by omega,by omega,by omega,hul,hud,fun _ _=>rfl,?_⟩
     simp[seg_zero,val]
    ·rintro⟨i,bo,c,u'⟩ ⟨hi,hbo,hc,hul',hud',hag,hsum⟩
     simp -dsimp(disch:=omega) only[replicate,↓reduceIte,ru]
     refine bd_ ?_ ?_
     ·intro h3 h4
      have dv:=hvd.getD i
      have du:=hud'.getD (j+i)
      simp only[B] at dv du
      have hvs:=val_take_succ v i
      have hss:=seg_succ u j i
      have hag1:=hag (j+i) (Or.inr (qp _))
      rw[<-hag1] at hss
      obtain⟨y,hy⟩: ∃ t,v.getD i 0=t:=⟨_,rfl⟩
      obtain⟨z,hz⟩: ∃ t,u'.getD (j+i) 0=t:=⟨_,rfl⟩
      rw[hy] at hvs dv
      rw[hz] at hss du
      have ik:(((j+1:Nat):Int) - 1+(i:Int)).toNat=j+i:=by omega
      have hgy:g*y<=4294967295*4294967295:=Nat.mul_le_mul (by omega) (by omega)
      have hgyi:(g:Int)*(y:Int)=((g*y:Nat):Int):=by rw[Int.natCast_mul]
      obtain⟨cc,hcc⟩: ∃ t,c+g*y=t:=⟨_,rfl⟩
      obtain⟨gy,hgy2⟩: ∃ t,g*y=t:=⟨_,rfl⟩
      rw[hgy2] at hgy hgyi
      have hcci:(c:Int)+(gy:Int)=(cc:Int):=by omega
      have hccb:cc<=18446744073709551616 - 4294967296:=by omega
      obtain⟨d,b2,hd,hb2,hdb,hdi,hbi⟩:=sub_limb (a:=z) (c:=cc % 4294967296) (b:=bo) du (by omega) hbo
      have hcm:(cc:Int) % 4294967296=((cc % 4294967296:Nat):Int):=by rw[Int.natCast_emod];rfl
      have hcd:(cc:Int) / 4294967296=((cc / 4294967296:Nat):Int):=by rw[Int.natCast_ediv];rfl
      have hst:=mulsub_step (S:=seg u' j i) (S0:=seg u j i) (P:=B^i) (g:=g) (Vt:=val (v.take i)) (v:=y) (c:=c) (b:=bo) (a:=z) (d:=d) (b2:=b2) hsum (by rw[hcc];exact hdb)
      have hset:=seg_set (u:=u') (j:=j) (i:=i) (by omega) d
      obtain⟨xx,hxx⟩: ∃ t,((z:Int) - ((cc % 4294967296:Nat):Int) - (bo:Int)) % 18446744073709551616=t:=⟨_,rfl⟩
      have hxw:IntKind.u64.wrap (IntKind.u64.wrap ((z:Int) - ((cc % 4294967296:Nat):Int)) - (bo:Int))=xx:=by rw[sub64,hxx]
      have hxr:0<=xx/\xx<18446744073709551616:=by omega
      rw[hxx] at hdi hbi
      have hw32:IntKind.u32.wrap xx=(d:Int):=by rw[wrap32];exact hdi
      simp -dsimp(disch:=omega) only[h4,hy,hz,ik,hgyi,hcci,and64,hcm,hcd,hxw,hw32,hbi,IntKind.bits,Int.reduceToNat,Int.reducePow,↓reduceIte,reduceLT,reduceLeDiff,ru]
      refine⟨by omega,by omega,by omega,by omega,by omega,by omega,by omega,?_⟩
      refine ap (i+1,b2,cc / 4294967296,u'.set (j+i) d) (by dsimp only;omega) ?_ ⟨by omega,hb2,by omega,by simp[hul'],hud'.set _ hd,?_,?_⟩
      ·refine wk [0,1] (by simp) rfl ?_ ?_
       ·simp[leVs,leV,le1]
       ·simp[leH,leO]
      ·intro t hto
       rw[<-hag t (by omega),qa,getElem?_set_ne (by omega),<-qa]
      ·rw[hset,hvs,hss,Nat.pow_succ,<-hcc]
       exact hst
     ·intro h3 h4
      have hin:i=n:=by omega
      subst hin
      have hvall:val (v.take i)=val v:=val_take_all (by omega)
      rw[hvall] at hsum
      have du:=hud'.getD (j+i)
      simp only[B] at du
      have hss:=seg_succ u j i
      rw[<-hag (j+i) (Or.inr (qp _))] at hss
      have hag1:=hag (j+i) (Or.inr (qp _))
      rw[hx1] at hag1
      rw[hag1] at du hss
      have ik:(((j+1:Nat):Int) - 1+(i:Int)).toNat=j+i:=by omega
      obtain⟨d,b2,hd,hb2,hdb,hdi,hbi⟩:=sub_limb (a:=x1) (c:=c) (b:=bo) du hc hbo
      obtain⟨xx,hxx⟩: ∃ t,((x1:Int) - (c:Int) - (bo:Int)) % 18446744073709551616=t:=⟨_,rfl⟩
      have hxw:IntKind.u64.wrap (IntKind.u64.wrap ((x1:Int) - (c:Int)) - (bo:Int))=xx:=by rw[sub64,hxx]
      have hxr:0<=xx/\xx<18446744073709551616:=by omega
      rw[hxx] at hdi hbi
      have hw32:IntKind.u32.wrap xx=(d:Int):=by rw[wrap32];exact hdi
      have hset:=seg_set (u:=u') (j:=j) (i:=i) (by omega) d
      have hlen2:(u'.set (j+i) d).length=a.length+1:=by simp[hul']
      have hd2:Dig (u'.set (j+i) d):=hud'.set _ hd
      have hag2: ∀ t,(t<j\/j+i+1<=t)->(u'.set (j+i) d).getD t 0=u.getD t 0:=by
       intro t hto;rw[<-hag t (by omega),qa,getElem?_set_ne (by omega),<-qa]
      have hsum2:seg (u'.set (j+i) d) j (i+1)+g*val v=seg u j (i+1)+b2*B^(i+1):=long_last hset hss hsum hdb
      obtain⟨w,hw⟩:=ex1 (u'.set (j+i) d)
      rw[hw] at hlen2 hd2 hag2 hsum2
      simp -dsimp(disch:=omega) only[h4,hag1,ik,hxw,hw32,hbi,hw,IntKind.bits,Int.reduceToNat,Int.reducePow,↓reduceIte,Nat.reduceBEq,reduceLT,reduceLeDiff,ru]
      refine⟨by omega,by omega,by omega,by omega,by omega,Br.bneInt ?_ ?_⟩
      ·intro h5 h6
       have hb1:b2=1:=by omega
       subst hb1
       rw[Nat.one_mul] at hsum2
       have hwlt:=seg_lt hd2 j (i+1)
       have hVM:val v<=B^(i+1):=by
        have h7:=val_lt hvd;rw[hn] at h7;exact qnb (Nat.le_of_lt h7) (Nat.pow_le_pow_right (by decide) (by omega))
       have hhi:seg u j (i+1)<g*val v:=by omega
       have hg0:0<g:=by
        rcases Nat.eq_zero_or_pos g with h7 | h7
        ·rw[h7,Nat.zero_mul] at hhi;omega
        ·exact h7
       obtain⟨g',rfl⟩: ∃ g',g=g'+1:=⟨g - 1,by omega⟩
       have hgi':((g'+1:Nat):Int) - 1=(g':Int):=by omega
       simp -dsimp(disch:=omega) only[h6,hgi',↓reduceIte,ru]
       refine wl (α:=Nat×Nat×List Nat) (fun⟨t,c,w'⟩=>⟨[.fv (.sl (u32s a)),.fv (.sl (u32s b)),.any,.any,.lsl 1 0 m 1,.nilsl,.int .u64 k,.lsl 0 0 (a.length+1) 1,.fv (.sl (u32s v)),.int .i64 i,.int .u64 top,.int .u64 sec,.int .i64 (((j+1:Nat):Int) - 1),.any,.int .u64 g',.any,.any,.int .u64 c]++replicate 159 .any++[.fv (.sl (u32s v)),.int .i64 i,.int .i64 t]++replicate 71 .any,[.row true (u32s w'),.row true (u32s qd)]⟩)
        (fun⟨t,_,_⟩=>i - t) (fun⟨t,c,w'⟩=>t<=i/\c<=1/\w'.length=a.length+1/\Dig w'/\(∀ s,(s<j\/j+t<=s)->w'.getD s 0=w.getD s 0)/\seg w' j t+c*B^t=seg w j t+val (v.take t)) (0,0,w) ?_ ?_ ?_
       ·refine wk [0,1] (by simp) rfl ?_ ?_
        ·simp[leVs,leV,le1,hn]
        ·simp[leH,leO]
       ·refine⟨by omega,by omega,hlen2,hd2,fun _ _=>rfl,?_⟩
        simp[seg_zero,val]
       ·rintro⟨t,c',w'⟩ ⟨hti,hc',hwl,hwd,hwag,hwsum⟩
        have dv:=hvd.getD t
        have du:=hwd.getD (j+t)
        simp only[B] at dv du
        have hvs:=val_take_succ v t
        have hss2:=seg_succ w j t
        have hag3:=hwag (j+t) (Or.inr (qp _))
        rw[<-hag3] at hss2
        obtain⟨y,hy⟩: ∃ t',v.getD t 0=t':=⟨_,rfl⟩
        obtain⟨z,hz⟩: ∃ t',w'.getD (j+t) 0=t':=⟨_,rfl⟩
        rw[hy] at hvs dv
        rw[hz] at hss2 du
        have ik2:(((j+1:Nat):Int) - 1+(t:Int)).toNat=j+t:=by omega
        simp -dsimp(disch:=omega) only[replicate,↓reduceIte,ru]
        refine bd_ ?_ ?_
        ·intro h7 h8
         obtain⟨cc,hcc⟩: ∃ s,c'+(z+y)=s:=⟨_,rfl⟩
         have hcci:(c':Int)+((z:Int)+(y:Int))=(cc:Int):=by omega
         have hcd:(cc:Int) / 4294967296=((cc / 4294967296:Nat):Int):=by rw[Int.natCast_ediv];rfl
         have hw3:IntKind.u32.wrap (cc:Int)=((cc % 4294967296:Nat):Int):=by rw[wrap32,Int.natCast_emod];rfl
         have hset2:=seg_set (u:=w') (j:=j) (i:=t) (by omega) (cc % 4294967296)
         simp -dsimp(disch:=omega) only[h8,hy,hz,ik2,hcci,hcd,hw3,IntKind.bits,Int.reduceToNat,Int.reducePow,↓reduceIte,reduceLT,reduceLeDiff,ru]
         refine⟨by omega,by omega,by omega,by omega,by omega,by omega,?_⟩
         refine ap (t+1,cc / 4294967296,w'.set (j+t) (cc % 4294967296)) (by dsimp only;omega) ?_ ⟨by omega,by omega,by simp[hwl],hwd.set _ (Nat.mod_lt _ (by decide)),?_,?_⟩
         ·refine wk [0,1] (by simp) rfl ?_ ?_
          ·simp[leVs,leV,le1]
          ·simp[leH,leO]
         ·intro s hs2
          rw[<-hwag s (by omega),qa,getElem?_set_ne (by omega),<-qa]
         ·rw[hset2,hvs,hss2,Nat.pow_succ]
          exact addback_step hwsum hcc
        ·intro h7 h8
         have hti2:t=i:=by omega
         subst hti2
         rw[hvall] at hwsum
         have hset2:=seg_set (u:=w') (j:=j) (i:=t) (by omega) ((z+c') % 4294967296)
         have hwc:IntKind.u32.wrap (c':Int)=(c':Int):=wrap32c (by omega)
         have hw3:IntKind.u32.wrap ((z:Int)+(c':Int))=(((z+c') % 4294967296:Nat):Int):=by rw[wrap32,Int.natCast_emod];rfl
         have hd4:Dig (w'.set (j+t) ((z+c') % 4294967296)):=hwd.set _ (Nat.mod_lt _ (by decide))
         have hl4:(w'.set (j+t) ((z+c') % 4294967296)).length=a.length+1:=by simp[hwl]
         have hag4: ∀ s,(s<j\/j+t+1<=s)->(w'.set (j+t) ((z+c') % 4294967296)).getD s 0=u.getD s 0:=by
          intro s hs2;rw[<-hag2 s (by omega),<-hwag s (by omega),qa,getElem?_set_ne (by omega),<-qa]
         have hs4:seg (w'.set (j+t) ((z+c') % 4294967296)) j (t+1)+((z+c') / 4294967296)*B^(t+1)=seg w j (t+1)+val v:=addback_last hset2 hss2 hwsum
         obtain⟨w4,hw4⟩:=ex1 (w'.set (j+t) ((z+c') % 4294967296))
         rw[hw4] at hd4 hl4 hag4 hs4
         have hrb:=round_back hVM hsum2 hg0 hg3 hhi hs4 (seg_lt hd4 _ _)
         rw[Nat.add_sub_cancel] at hrb
         have hwg:IntKind.u32.wrap (g':Int)=(g':Int):=wrap32c (by omega)
         have hr:=long_round (u:=u) (u4:=w4) (qd:=qd) (j:=j) (n:=t) (g:=g') (V:=val v) (by omega) (by omega) (by omega) hag4 LH.tail hrb.1 hrb.2 hinv
         simp -dsimp(disch:=omega) only[h8,hz,ik2,hwc,hw3,hw4,hwg,i0,↓reduceIte,Nat.reduceBEq,reduceLT,reduceLeDiff,ru]
         refine⟨by omega,by omega,by omega,by omega,by omega,by omega,?_⟩
         refine ap (j,qd.set j g',w4) (by dsimp only;omega) ?_ ⟨by omega,hl4,by simp[hql],hd4,hqd.set _ (by simp only[B];omega),hr.2,hr.1⟩
         refine wk [0,1] (by simp) rfl ?_ ?_
         ·simp[leVs,leV,le1]
         ·simp[leH,leO]
      ·intro h5 h6
       have hb0:b2=0:=by omega
       subst hb0
       rw[Nat.zero_mul,Nat.add_zero] at hsum2
       have hwg:IntKind.u32.wrap (g:Int)=(g:Int):=wrap32c (by omega)
       have hro:=round_ok hsum2 hWhi
       have hr:=long_round (u:=u) (u4:=w) (qd:=qd) (j:=j) (n:=i) (g:=g) (V:=val v) (by omega) (by omega) (by omega) hag2 LH.tail hsum2 hro hinv
       simp -dsimp(disch:=omega) only[h6,hwg,i0,↓reduceIte,reduceLT,reduceLeDiff,ru]
       refine⟨by omega,by omega,?_⟩
       refine ap (j,qd.set j g,w) (by dsimp only;omega) ?_ ⟨by omega,hlen2,by simp[hql],hd2,hqd.set _ hg2,hr.2,hr.1⟩
       refine wk [0,1] (by simp) rfl ?_ ?_
       ·simp[leVs,leV,le1]
       ·simp[leH,leO]
  ·intro h1 h2
   have hj0:j1=0:=by omega
   subst hj0
   rw[List.drop_zero] at hlt
   rw[List.drop_zero,Nat.pow_zero,Nat.one_mul] at hinv
   have hp0:0<2^k:=Nat.two_pow_pos k
   have hend:=long_end hvv hp0 hinv hlt
   have hul2:val u / 2^k<B^n:=by
    refine qmb (Nat.div_le_self _ _) (Nat.lt_trans hlt ?_);rw[<-hn];exact val_lt hvd
   simp -dsimp(disch:=omega) only[h2,↓reduceIte,reduceAdd,Nat.reduceBEq,reduceLT,ru]
   refine⟨by omega,?_⟩
   refine wl (α:=Nat×List Nat) (fun⟨i,out⟩=>⟨[.fv (.sl (u32s a)),.fv (.sl (u32s b)),.any,.any,.lsl 1 0 m 1,.lsl 2 0 n 1,.int .u64 k,.lsl 0 0 (a.length+1) 1]++replicate 215 .any++[.int .i64 n,.int .i64 i]++replicate 26 .any,[.row true (u32s u),.row true (u32s qd),.row true (u32s out)]⟩)
    (fun⟨i,_⟩=>n - i) (fun⟨i,out⟩=>i<=n/\out.length=n/\Dig out/\out.take i=digs i (val u / 2^k)) (0,replicate n 0) ?_ ?_ ?_
   ·refine wk [0,1,2] (by simp) rfl ?_ ?_
    ·simp[leVs,leV,le1]
    ·simp[leH,leO]
   ·exact⟨by omega,by simp,Dig.zeros,by simp[digs]⟩
   ·rintro⟨i,out⟩ ⟨hi,ho,hdo,hv3⟩
    simp -dsimp(disch:=omega) only[replicate,↓reduceIte,ru]
    refine bd_ ?_ ?_
    ·intro h3 h4
     have hx:=hud.getD i
     have hy:=hud.getD (i+1)
     have hudg:(u.getD i 0+u.getD (i+1) 0*4294967296) / 2^k % 4294967296=val u / 2^k / B^i % 4294967296:=by
      rw[unshift_digit (l:=u) (i:=i) (k:=k) (by omega) (by omega),<-val_drop_div hud (by omega),Nat.div_div_eq_div_mul,Nat.div_div_eq_div_mul,Nat.mul_comm (2^k)]
     have hi1:((i:Int)+1).toNat=i+1:=by omega
     have hk64:(k<=64)=True:=by simp;omega
     simp only[B] at hx hy
     obtain⟨x,hxd⟩: ∃ t,u.getD i 0=t:=⟨_,rfl⟩
     obtain⟨y,hyd⟩: ∃ t,u.getD (i+1) 0=t:=⟨_,rfl⟩
     rw[hxd] at hx hudg
     rw[hyd] at hy hudg
     obtain⟨s,hs⟩:=ex1 (x+y*4294967296)
     rw[hs] at hudg
     have hsc:(y:Int)*4294967296+x=(s:Int):=by omega
     have hpc:((s:Int)) / 2^k=((s / 2^k:Nat):Int):=by rw[Int.natCast_ediv,Int.natCast_pow];rfl
     have hws:IntKind.u32.wrap ((s / 2^k:Nat):Int)=((s / 2^k % 4294967296:Nat):Int):=by rw[wrap32];rfl
     have hpp:(0:Int)<=2^k:=by
      have:(2:Int)^k=((2^k:Nat):Int):=by rw[Int.natCast_pow];rfl
      omega
     obtain⟨dg,hdg⟩: ∃ t,s / 2^k % 4294967296=t:=⟨_,rfl⟩
     have hdgb:dg<4294967296:=by rw[<-hdg];exact Nat.mod_lt _ (by decide)
     rw[hdg] at hws hudg
     have hstep:(out.set i dg).take (i+1)=digs (i+1) (val u / 2^k):=by
      rw[digs_succ,<-hv3,take_succ_eq_append_getElem (by simp;omega),List.take_set_of_le (qp i)];simp only[List.getElem_set_self,B] at*;rw[hudg]
     simp -dsimp(disch:=omega) only[h4,rules]
     refine dw (by kernel_rfl) ?_
     simp -dsimp(disch:=omega) only[hxd,hyd,hi1,or64s,hsc,hk64,hpc,hws,IntKind.bits,Int.reduceToNat,Int.reducePow,↓reduceIte,reduceLT,reduceLeDiff,ru]
     refine⟨by omega,by omega,by omega,by omega,by omega,by omega,by omega,by omega,?_⟩
     refine ap (i+1,out.set i dg) (by dsimp only;omega) ?_ ⟨by omega,by simp[ho],hdo.set _ hdgb,hstep⟩
     refine wk [0,1,2] (by simp) rfl ?_ ?_
     ·simp[leVs,leV,le1]
     ·simp[leH,leO]
    ·intro h3 h4
     simp -dsimp(disch:=omega) only[h4,rules,Nat.reduceBEq]
     have hin:i=n:=by omega
     have hvo:val out=val u / 2^k:=by
      rw[hin,qdq (by omega)] at hv3;rw[hv3,val_digs hul2]
     refine gp (den87 qd hqd (by omega)) ?_ ?_
     ·simp[fzAs,fzA,fz1,fz0,u32s_length,hql]
      rw[qdq (by simp[u32s_length,hql])]
     ·simp -dsimp(disch:=omega) only[rules,reduceAdd]
      refine gp (den87 out hdo (by omega)) ?_ ?_
      ·simp[fzAs,fzA,fz1,fz0,u32s_length,ho]
       rw[qdq (by simp[u32s_length,ho])]
      ·simp -dsimp(disch:=omega) only[reduceAdd,ru]
       refine rpq rfl ⟨tvq,tvq,tvq⟩ ?_
       rw[hend.1,hvo,hend.2]
       simp(disch:=omega) only[St.get,fzX,oneRes,fzV,fzVs,fzC,fz1,fz0,Option.map_some,qk,getD_cons_zero]
end Go.Proofs.YtjjbkjgifdhlcaaGreat
namespace Go.Pl
open Go.AM
theorem limbs_low {x n:Nat} (h:(limbs x).length=n+1):B^n<=x:=by
 rcases Nat.lt_or_ge x (B^n) with h1 | h1
 ·have:=limbs_length_le h1;omega
 ·exact h1
theorem limbs_length_eq {x n:Nat} (h1:B^n<=x) (h2:x<B^(n+1)):(limbs x).length=n+1:=by
 have h3:=limbs_length_le h2;rcases Nat.lt_or_ge (limbs x).length (n+1) with h4 | h4
 ·exfalso;have h5:=lt_of_limbs_length (n:=x);have h6:B^(limbs x).length<=B^n:=Nat.pow_le_pow_right (by decide) (by omega);exact absurd (Nat.lt_of_lt_of_le h5 h6) (by omega)
 ·omega
theorem limbs_top {x n:Nat} (h:(limbs x).length=n+1):(limbs x).getD n 0=x / B^n:=by
 have h1:=val_drop_div (limbs_dig x) (i:=n) (by omega);have h2:=val_drop_succ (l:=limbs x) (j:=n) (by omega);rw[List.drop_of_length_le (i:=n+1) (by omega),show val []=0 from rfl,Nat.mul_zero,Nat.add_zero] at h2;rw[<-h2,<-h1,val_limbs]
theorem ns_ge {b top P K:Nat} (h:top*P<=b) (hk:2147483648<=top*K):2147483648*P<=b*K:=by
 have h1:top*P*K<=b*K:=qn _ h;have h2:2147483648*P<=top*K*P:=qn _ hk;have h3:top*P*K=top*K*P:=by grind
 omega
theorem ns_lt {b top P K:Nat} (h:b<(top+1)*P) (hK:0<K) (hk:(top+1)*K<=4294967296):b*K<P*4294967296:=by
 have h1:b*K<(top+1)*P*K:=Nat.mul_lt_mul_of_pos_right h hK;have h2:(top+1)*K*P<=4294967296*P:=qn _ hk;have h3:(top+1)*P*K=(top+1)*K*P:=by grind
 have h4:4294967296*P=P*4294967296:=Nat.mul_comm _ _;omega
theorem norm_shift {b n k top:Nat} (h:(limbs b).length=n+1) (ht:(limbs b).getD n 0=top) (hk:k<=32) (h1:2147483648<=top*2^k) (h2:top*2^k<4294967296):
 (limbs (b*2^k)).length=n+1/\2147483648<=(limbs (b*2^k)).getD n 0:=by
 have hp:0<2^k:=Nat.two_pow_pos k
 have hP:0<B^n:=qeb (by decide)
 have h3:top=b / B^n:=by rw[<-ht,limbs_top h]
 have hlo:top*B^n<=b:=by rw[h3];exact Nat.div_mul_le_self _ _
 have hhi:b<(top+1)*B^n:=by rw[<-Nat.div_lt_iff_lt_mul hP,<-h3];omega
 have hroom:top*2^k+2^k<=4294967296:=top_room hk (Nat.mul_mod_left _ _) h2
 have hroom2:(top+1)*2^k<=4294967296:=by rw[Nat.add_mul,Nat.one_mul];exact hroom
 have hge:=ns_ge hlo h1
 have hlt:b*2^k<B^(n+1):=by rw[Nat.pow_succ];exact ns_lt hhi hp hroom2
 have hlen:(limbs (b*2^k)).length=n+1:=limbs_length_eq (qnb (Nat.le_mul_of_pos_left _ (by decide)) hge) hlt
 refine⟨hlen,?_⟩
 rw[limbs_top hlen,Nat.le_div_iff_mul_le hP]
 exact hge
theorem top_pos {b n:Nat} (h:(limbs b).length=n+1):0<(limbs b).getD n 0:=by
 rw[limbs_top h];exact Nat.div_pos (limbs_low h) (qeb (by decide))
theorem limbs_len0 {b:Nat} (h:(limbs b).length=0):b=0:=by
 have:=lt_of_limbs_length (n:=b);rw[h] at this;simpa using this
theorem limbs_len_mono {x y:Nat} (h:x<=y):(limbs x).length<=(limbs y).length:=
 limbs_length_le (qmb h lt_of_limbs_length)
def putSeg (u:List Nat) (j m x:Nat):List Nat:=u.take j++(digs m x++u.drop (j+m))
theorem putSeg_length {u:List Nat} {j m x:Nat} (h:j+m<=u.length):(putSeg u j m x).length=u.length:=by
 simp[putSeg,digs_length];omega
theorem putSeg_dig {u:List Nat} {j m x:Nat} (h:Dig u):Dig (putSeg u j m x):=(h.take j).app ((digs_dig _ _).app (h.drop _))
theorem putSeg_eq {u w:List Nat} {j m x:Nat} (hl:w.length=u.length) (hd:Dig w) (hj:j+m<=u.length) (hag: ∀ t,(t<j\/j+m<=t)->w.getD t 0=u.getD t 0) (hs:seg w j m=x):putSeg u j m x=w:=by
 unfold putSeg;have h1:w.take j=u.take j:=getD_of_take hl (fun t ht=>hag t (Or.inl ht));have h2:w.drop (j+m)=u.drop (j+m):=getD_of_drop hl (fun t ht=>hag t (Or.inr ht));have h3:=digs_eq ((hd.drop j).take m);have h4:((w.drop j).take m).length=m:=by rw[length_take,length_drop];omega
 rw[h4] at h3;have h5:val ((w.drop j).take m)=x:=hs;rw[h5] at h3;rw[<-h1,<-h2,<-h3,<-List.drop_drop,List.take_append_drop,List.take_append_drop]
theorem putSeg_getD {u:List Nat} {j m x t:Nat} (hj:j+m<=u.length) (ht:t<j\/j+m<=t):(putSeg u j m x).getD t 0=u.getD t 0:=by
 unfold putSeg;simp only[qa];congr 1;rcases ht with h | h
 ·rw[qi (by rw[length_take];omega),getElem?_take,if_pos h]
 ·rw[qh (by rw[length_take];omega),qh (by rw[length_take,digs_length];omega),List.getElem?_drop];congr 1;rw[length_take,digs_length];omega
theorem putSeg_seg {u:List Nat} {j m x:Nat} (hj:j+m<=u.length) (hx:x<B^m):seg (putSeg u j m x) j m=x:=by
 unfold seg putSeg;rw[List.drop_left' (by rw[length_take];omega),List.take_left' (digs_length _ _),val_digs hx]
theorem div_mod_of {r g V W:Nat} (h:r+g*V=W) (hr:r<V):W / V=g/\r=W % V:=by
 have h1:W=r+V*g:=by rw[<-h,Nat.mul_comm]
 rw[h1,Nat.add_mul_div_left _ _ (by omega),Nat.div_eq_of_lt hr,Nat.zero_add,Nat.add_mul_mod_self_left,Nat.mod_eq_of_lt hr];exact⟨rfl,rfl⟩
theorem pow_room {t s:Nat} (ht:0<t) (h:t*2^s<2147483648):s<31:=by
 rcases Nat.lt_or_ge s 31 with h1 | h1
 ·exact h1
 ·exfalso;have h2:2^31<=2^s:=Nat.pow_le_pow_right (by decide) h1;have h3:1*2^s<=t*2^s:=qn _ ht;omega
end Go.Pl
namespace Go.Proofs.YtjjbkjgifdhlcaaGreat
open Go.AM Go.Pl
set_option maxRecDepth 100000
set_option maxHeartbeats 4000000
theorem cmpN_neg {x y:Nat}:cmpN x y<0↔x<y:=by
 unfold cmpN;split
 ·omega
 ·split<;>omega
theorem den101N (a b:Nat) (hla:(limbs a).length<10000000000) (hlb2:2<=(limbs b).length) (hlb:(limbs b).length<=(limbs a).length):
 Den Tryz.prog 218 [] [.fv (N a),.fv (N b)] [] (.tup [.fv (N (a / b)),.fv (N (a % b))]):=by
 obtain⟨n,hn⟩: ∃ n,(limbs b).length=n+1:=⟨(limbs b).length - 1,by omega⟩
 have htop:=top_pos hn
 have htd:=(limbs_dig b).getD n
 simp only[B] at htd
 have hb1:=blen_lt ((limbs b).getD n 0)
 have hb2:=blen_pow (n:=(limbs b).getD n 0) (by omega)
 have hb3:blen ((limbs b).getD n 0)<=32:=blen_le htd
 have hb4:1<=blen ((limbs b).getD n 0):=by
  rcases Nat.eq_zero_or_pos (blen ((limbs b).getD n 0)) with h | h
  ·rw[h] at hb1;omega
  ·exact h
 have hns:=norm_shift (k:=32 - blen ((limbs b).getD n 0)) hn rfl (by omega) ?_ ?_
 ·have h:=den101 (limbs a) (limbs b) (32 - blen ((limbs b).getD n 0)) (limbs_dig a) (limbs_dig b) hla hlb2 hlb (by rw[hn,Nat.add_sub_cancel]) (by omega) (limbs (b*2^(32 - blen ((limbs b).getD n 0)))) (by rw[val_limbs]) (by rw[hns.1,hn]) (by rw[hns.1,Nat.add_sub_cancel];exact hns.2)
  rw[val_limbs,val_limbs] at h
  exact h
 ·have h1:2^(blen ((limbs b).getD n 0) - 1)*2^(32 - blen ((limbs b).getD n 0))=2147483648:=by
   rw[<-Nat.pow_add,show blen ((limbs b).getD n 0) - 1+(32 - blen ((limbs b).getD n 0))=31 by omega]
  rw[<-h1]
  exact qn _ hb2
 ·have h1:2^(blen ((limbs b).getD n 0))*2^(32 - blen ((limbs b).getD n 0))=4294967296:=by
   rw[<-Nat.pow_add,show blen ((limbs b).getD n 0)+(32 - blen ((limbs b).getD n 0))=32 by omega]
  have h2:=Nat.mul_lt_mul_of_pos_right hb1 (Nat.two_pow_pos (32 - blen ((limbs b).getD n 0)))
  omega
theorem den86z (a b:List Nat) (ha:Dig a) (hb:Dig b) (hla:a.length<10000000000) (hlb:b.length<10000000000) (h0:val b=0):
 Den Tryz.prog 183 [] [.fv (.sl (u32s a)),.fv (.sl (u32s b))] [] (.tup [.fv (N 0),.fv (N 0),.int .i64 3]):=by
 refine den_of tabOk mixed Tryz.func183 (cd:=_) rfl (by decide) rfl (n:=46) rfl rfl (m:=0) rfl ?_
 simp -dsimp(disch:=omega) only[replicate,rules]
 refine gp (den87 a ha (by omega)) rfl ?_
 simp -dsimp(disch:=omega) only[rules]
 refine gp (den87 b hb (by omega)) rfl ?_
 have hl0:(limbs 0).length=0:=by rw[limbs_zero];rfl
 have hl1:((0:Nat):Int)=0:=rfl
 have hl2:((0:Int)==0)=true:=rfl
 simp -dsimp(disch:=omega) only[N_val,h0,hl0,hl1,hl2,↓reduceIte,ru]
 refine rpq rfl ⟨tvq,tvq,tvq,tvq⟩ ?_
 simp(disch:=omega) only[St.get,fzX,oneRes,fzV,fzVs,fzC,fz1,fz0,Option.map_some,qk,getD_cons_zero]
 simp[limbs_zero,u32s]
theorem den86 (a b:List Nat) (ha:Dig a) (hb:Dig b) (hla:a.length<10000000000) (hlb:b.length<10000000000) (h0:val b≠0):
 Den Tryz.prog 183 [] [.fv (.sl (u32s a)),.fv (.sl (u32s b))] [] (.tup [.fv (N (val a / val b)),.fv (N (val a % val b)),.int .i64 0]):=by
 have hla2:=limbs_length_le (val_lt ha)
 have hlb2:=limbs_length_le (val_lt hb)
 have hlb0:(limbs (val b)).length≠0:=fun h=>h0 (limbs_len0 h)
 refine den_of tabOk mixed Tryz.func183 (cd:=_) rfl (by decide) rfl (n:=46) rfl rfl (m:=0) rfl ?_
 simp -dsimp(disch:=omega) only[replicate,rules]
 refine gp (den87 a ha (by omega)) rfl ?_
 simp -dsimp(disch:=omega) only[rules]
 refine gp (den87 b hb (by omega)) rfl ?_
 have hz:(((limbs (val b)).length:Int)==0)=false:=by rw[qx];omega
 simp -dsimp(disch:=omega) only[N_val,hz,↓reduceIte,ru]
 refine gp (den91 (limbs (val a)) (limbs (val b)) (limbs_dig _) (limbs_dig _) (by omega) (by omega)) rfl ?_
 simp -dsimp(disch:=omega) only[val_limbs,↓reduceIte,ru]
 refine bd_ ?_ ?_
 ·intro h1 h2
  rw[cmpN_neg] at h1
  simp -dsimp(disch:=omega) only[h2,rules]
  refine gp (den97 (u32s (limbs (val a))) (by simp[u32s]) (by simp[u32s];omega)) rfl ?_
  simp -dsimp(disch:=omega) only[ru]
  refine rpq rfl ⟨tvq,tvq,tvq,tvq⟩ ?_
  simp(disch:=omega) only[St.get,fzX,oneRes,fzV,fzVs,fzC,fz1,fz0,Option.map_some,qk,getD_cons_zero]
  rw[Nat.div_eq_of_lt h1,Nat.mod_eq_of_lt h1]
  simp[N,limbs_zero,u32s]
 ·intro h1 h2
  rw[cmpN_neg] at h1
  simp -dsimp(disch:=omega) only[h2,↓reduceIte,ru]
  refine Br.beqInt ?_ ?_
  ·intro h3 h4
   obtain⟨d,hd⟩: ∃ d,limbs (val b)=[d]:=length_eq_one_iff.1 (by omega)
   have hbv:val b=d:=by rw[<-val_limbs (val b),hd];simp[val]
   have hdd:d<4294967296:=by have:=limbs_dig (val b);rw[hd] at this;exact this d (by simp)
   have hg0:(u32s [d]).getD 0 []=[FV.lit (Value.int .u32 d)]:=rfl
   have hd0:0<d:=by omega
   have hb2:=Nat.mod_lt (val a) hd0
   have h100:=den100 (limbs (val a)) d (limbs_dig _) (by omega) hdd hd0
   rw[val_limbs] at h100
   simp -dsimp(disch:=omega) only[hd,hg0,Int.reduceToNat,↓reduceIte,reduceLT,reduceLeDiff,ru]
   refine⟨by simp,?_⟩
   refine gp h100 rfl ?_
   obtain⟨r,hr⟩:=ex1 (val a % d)
   rw[hr] at hb2
   have hrc:IntKind.u64.wrap (r:Int)=(r:Int):=wrapU64c (by omega)
   simp -dsimp(disch:=omega) only[hr,hrc,ru]
   refine gp (den99 r (by omega)) rfl ?_
   simp -dsimp(disch:=omega) only[ru]
   refine rpq rfl ⟨tvq,tvq,tvq,tvq⟩ ?_
   simp(disch:=omega) only[hbv,hr,St.get,fzX,oneRes,fzV,fzVs,fzC,fz1,fz0,Option.map_some,qk,getD_cons_zero]
  ·intro h3 h4
   have hle:(limbs (val b)).length<=(limbs (val a)).length:=limbs_len_mono (by omega)
   have h101:=den101N (val a) (val b) (by omega) (by omega) hle
   rw[N_val,N_val] at h101
   simp -dsimp(disch:=omega) only[h4,rules]
   refine gp h101 rfl ?_
   simp -dsimp(disch:=omega) only[ru]
   refine rpq rfl ⟨tvq,tvq,tvq,tvq⟩ ?_
   simp(disch:=omega) only[St.get,fzX,oneRes,fzV,fzVs,fzC,fz1,fz0,Option.map_some,qk,getD_cons_zero]
theorem den85 (a b:List Nat) (ha:Dig a) (hb:Dig b) (hla:a.length<10000000000) (hlb:b.length<10000000000):
 Den Tryz.prog 182 [] [.fv (.sl (u32s a)),.fv (.sl (u32s b))] [] (.fv (N (Nat.gcd (val a) (val b)))):=by
 have hla2:=limbs_length_le (val_lt ha)
 have hlb2:=limbs_length_le (val_lt hb)
 refine den_of tabOk mixed Tryz.func182 (cd:=_) rfl (by decide) rfl (n:=45) rfl rfl (m:=0) rfl ?_
 simp -dsimp(disch:=omega) only[replicate,rules]
 refine gp (den84 a ha (by omega)) rfl ?_
 simp -dsimp(disch:=omega) only[rules]
 refine gp (den84 b hb (by omega)) rfl ?_
 simp -dsimp(disch:=omega) only[N_val,rules]
 generalize hg:Nat.gcd (val a) (val b)=g
 refine wl (α:=Nat×Nat) (fun⟨x,y⟩=>⟨.fv (.sl (u32s (limbs x))):: .fv (.sl (u32s (limbs y))):: .any:: .any:: .nilsl::replicate 42 .any,[]⟩)
  (fun⟨_,y⟩=>y) (fun⟨x,y⟩=>(limbs x).length<10000000000/\(limbs y).length<10000000000/\Nat.gcd x y=g) (val a,val b) ?_ ?_ ?_
 ·refine wk [] (by simp) rfl ?_ ?_
  ·simp[leVs,leV,le1]
  ·trivial
 ·exact⟨by omega,by omega,hg⟩
 ·rintro⟨x,y⟩ ⟨hx,hy,hxy⟩
  simp -dsimp(disch:=omega) only[replicate,↓reduceIte,ru]
  refine bd_ ?_ ?_
  ·intro h1 h2
   simp -dsimp(disch:=omega) only[h2,↓reduceIte,ru]
   refine Br.beqInt ?_ ?_
   ·intro h5 h6
    have hy0:y=0:=limbs_len0 (by omega)
    subst hy0
    simp -dsimp(disch:=omega) only[h6,ru]
    refine rpq rfl ⟨tvq,tvq⟩ ?_
    rw[Nat.gcd_zero_right] at hxy
    simp(disch:=omega) only[hxy,St.get,fzX,oneRes,fzV,fzC,fz1,fz0,Option.map_some,qk,getD_cons_zero]
    rfl
   ·intro h5 h6
    have hy0:y≠0:=fun h=>h5 (by rw[h,limbs_zero];rfl)
    have h86:=den86 (limbs x) (limbs y) (limbs_dig _) (limbs_dig _) hx hy (by rw[val_limbs];exact hy0)
    rw[val_limbs,val_limbs,N_val,N_val] at h86
    simp -dsimp(disch:=omega) only[h6,rules]
    refine gp h86 rfl ?_
    simp -dsimp(disch:=omega) only[rules]
    have hlt:=Nat.mod_lt x (Nat.pos_of_ne_zero hy0)
    refine ap (y,x % y) (by exact hlt) ?_ ⟨hy,qmb (limbs_len_mono (Nat.le_of_lt hlt)) hy,?_⟩
    ·refine wk [] (by simp) rfl ?_ ?_
     ·simp[leVs,leV,le1]
     ·trivial
    ·rw[<-hxy,Nat.gcd_comm y,<-Nat.gcd_rec,Nat.gcd_comm]
  ·intro h1 h2
   simp -dsimp(disch:=omega) only[h2,↓reduceIte,ru]
   refine bd_ ?_ ?_
   ·intro h3 h4
    simp -dsimp(disch:=omega) only[h4,↓reduceIte,ru]
    refine Br.beqInt ?_ ?_
    ·intro h5 h6
     have hy0:y=0:=limbs_len0 (by omega)
     subst hy0
     simp -dsimp(disch:=omega) only[h6,ru]
     refine rpq rfl ⟨tvq,tvq⟩ ?_
     rw[Nat.gcd_zero_right] at hxy
     simp(disch:=omega) only[hxy,St.get,fzX,oneRes,fzV,fzC,fz1,fz0,Option.map_some,qk,getD_cons_zero]
     rfl
    ·intro h5 h6
     have hy0:y≠0:=fun h=>h5 (by rw[h,limbs_zero];rfl)
     have h86:=den86 (limbs x) (limbs y) (limbs_dig _) (limbs_dig _) hx hy (by rw[val_limbs];exact hy0)
     rw[val_limbs,val_limbs,N_val,N_val] at h86
     simp -dsimp(disch:=omega) only[h6,rules]
     refine gp h86 rfl ?_
     simp -dsimp(disch:=omega) only[rules]
     have hlt:=Nat.mod_lt x (Nat.pos_of_ne_zero hy0)
     refine ap (y,x % y) (by exact hlt) ?_ ⟨hy,qmb (limbs_len_mono (Nat.le_of_lt hlt)) hy,?_⟩
     ·refine wk [] (by simp) rfl ?_ ?_
      ·simp[leVs,leV,le1]
      ·trivial
     ·rw[<-hxy,Nat.gcd_comm y,<-Nat.gcd_rec,Nat.gcd_comm]
   ·intro h3 h4
    have hxv:x<18446744073709551616:=Nat.lt_of_lt_of_le (lt_of_limbs_length (n:=x)) (Nat.pow_le_pow_right (n:=B) (by decide) (show(limbs x).length<=2 by omega))
    have hyv:y<18446744073709551616:=Nat.lt_of_lt_of_le (lt_of_limbs_length (n:=y)) (Nat.pow_le_pow_right (n:=B) (by decide) (show(limbs y).length<=2 by omega))
    have h98x:=den98 (limbs x) (limbs_dig x) (by omega)
    have h98y:=den98 (limbs y) (limbs_dig y) (by omega)
    rw[val_limbs] at h98x h98y
    simp -dsimp(disch:=omega) only[h4,rules,Nat.reduceBEq]
    refine gp h98x rfl ?_
    simp -dsimp(disch:=omega) only[rules]
    refine gp h98y rfl ?_
    simp -dsimp(disch:=omega) only[rules]
    refine wl (α:=Nat×Nat) (fun⟨p,q⟩=>⟨.any:: .any:: .any:: .any:: .nilsl:: .any:: .any:: .any:: .int .u64 p:: .int .u64 q::replicate 37 .any,[]⟩)
     (fun⟨_,q⟩=>q) (fun⟨p,q⟩=>p<18446744073709551616/\q<18446744073709551616/\Nat.gcd p q=g) (x,y) ?_ ?_ ?_
    ·refine wk [] (by simp) rfl ?_ ?_
     ·simp[leVs,leV,le1]
     ·trivial
    ·exact⟨hxv,hyv,hxy⟩
    ·rintro⟨p,q⟩ ⟨hp,hq,hpq⟩
     simp -dsimp(disch:=omega) only[replicate,↓reduceIte,ru]
     refine Br.bneInt ?_ ?_
     ·intro h5 h6
      have hlt:=Nat.mod_lt p (show q>0 by omega)
      have hmi:(p:Int) % (q:Int)=((p % q:Nat):Int):=by rw[Int.natCast_emod]
      obtain⟨r,hr⟩:=ex1 (p % q)
      rw[hr] at hlt hmi
      simp -dsimp(disch:=omega) only[h6,rules]
      refine dw (by kernel_rfl) ?_
      simp -dsimp(disch:=omega) only[hmi,↓reduceIte,ru]
      refine⟨by omega,?_⟩
      refine ap (q,r) (by exact hlt) ?_ ⟨hq,by omega,?_⟩
      ·refine wk [] (by simp) rfl ?_ ?_
       ·simp[leVs,leV,le1]
       ·trivial
      ·rw[<-hpq,<-hr,Nat.gcd_comm q,<-Nat.gcd_rec,Nat.gcd_comm]
     ·intro h5 h6
      have hq0:q=0:=by omega
      subst hq0
      rw[Nat.gcd_zero_right] at hpq
      simp -dsimp(disch:=omega) only[h6,rules,Nat.reduceBEq]
      refine gp (den99 p hp) rfl ?_
      simp -dsimp(disch:=omega) only[ru]
      refine rpq rfl ⟨tvq,tvq⟩ ?_
      simp(disch:=omega) only[hpq,St.get,fzX,oneRes,fzV,fzC,fz1,fz0,Option.map_some,qk,getD_cons_zero]
end Go.Proofs.YtjjbkjgifdhlcaaGreat
namespace Go.Pl
open Go.AM
def sg (s:Bool) (n:Nat):Int:=if s then -(n:Int) else(n:Int)
def mkq (s:Bool) (n d:Nat):Rat:=mkRat (sg s n) d
theorem sg_natAbs (s:Bool) (n:Nat):(sg s n).natAbs=n:=by unfold sg;split<;>simp
theorem sg_num (q:Rat):sg (decide (q.num<0)) q.num.natAbs=q.num:=by
 unfold sg;by_cases h:q.num<0
 ·simp only[h,decide_true,if_true];omega
 ·simp only[h,decide_false];simp;omega
theorem mkq_self (q:Rat):mkq (decide (q.num<0)) q.num.natAbs q.den=q:=by
 unfold mkq;rw[sg_num,Rat.mkRat_self]
theorem mkq_num0 {s:Bool} {n d:Nat} (h:n=0):mkq s n d=0:=by
 subst h;unfold mkq sg;have:(if s=true then -((0:Nat):Int) else((0:Nat):Int))=0:=by split<;>rfl
 rw[this,Rat.zero_mkRat]
theorem mkq_den0 {s:Bool} {n d:Nat} (h:d=0):mkq s n d=0:=by
 subst h;unfold mkq;rw[Rat.mkRat_zero]
theorem sg_div {s:Bool} {n g:Nat} (h:g∣n):sg s n / (g:Int)=sg s (n / g):=by
 unfold sg;split
 ·rw[Int.neg_ediv_of_dvd (by exact Int.natCast_dvd_natCast.2 h),Int.natCast_ediv]
 ·rw[Int.natCast_ediv]
theorem mkq_parts {s:Bool} {n d:Nat} (hd:d≠0):(mkq s n d).num=sg s (n / Nat.gcd n d)/\(mkq s n d).den=d / Nat.gcd n d:=by
 unfold mkq;rw[<-Rat.normalize_eq_mkRat hd,Rat.normalize_eq hd];simp only[sg_natAbs];exact⟨sg_div (Nat.gcd_dvd_left n d),tvq⟩
theorem sg_neg {s:Bool} {n:Nat} (h:n≠0):decide (sg s n<0)=s:=by
 unfold sg;cases s
 ·simp
 ·simp;omega
theorem mkq_canon {s:Bool} {n d:Nat} (hn:n≠0) (hd:d≠0):decide ((mkq s n d).num<0)=s/\(mkq s n d).num.natAbs=n / Nat.gcd n d/\(mkq s n d).den=d / Nat.gcd n d:=by
 obtain⟨h1,h2⟩:=mkq_parts (s:=s) (n:=n) hd;have h3:n / Nat.gcd n d≠0:=by
  have:=Nat.div_pos (Nat.le_of_dvd (by omega) (Nat.gcd_dvd_left n d)) (Nat.gcd_pos_of_pos_left d (by omega));omega
 rw[h1,h2];exact⟨sg_neg h3,sg_natAbs _ _,rfl⟩
def Bd (k:Nat) (q:Rat):Prop:=q.num.natAbs<B^k/\q.den<B^k
theorem Bd.mono {j k:Nat} {q:Rat} (h:Bd j q) (hk:j<=k):Bd k q:=
 ⟨Nat.lt_of_lt_of_le h.1 (Nat.pow_le_pow_right (by decide) hk),Nat.lt_of_lt_of_le h.2 (Nat.pow_le_pow_right (by decide) hk)⟩
theorem Bd.zero {k:Nat} (hk:1<=k):Bd k 0:=by
 have:1<B^k:=Nat.lt_of_lt_of_le (show 1<B^1 by decide) (Nat.pow_le_pow_right (by decide) hk);exact⟨qeb (by decide),this⟩
theorem Bd.mk {k n d:Nat} {s:Bool} (hk:1<=k) (hn:n<B^k) (hd:d<B^k):Bd k (mkq s n d):=by
 by_cases h:d=0
 ·rw[mkq_den0 h];exact Bd.zero hk
 ·obtain⟨h1,h2⟩:=mkq_parts (s:=s) (n:=n) h;unfold Bd;rw[h1,h2,sg_natAbs];exact⟨qmb (Nat.div_le_self _ _) hn,qmb (Nat.div_le_self _ _) hd⟩
structure Raw where
 neg:Bool
 num:List Nat
 den:List Nat
def Raw.q (r:Raw):Rat:=mkq r.neg (val r.num) (val r.den)
structure Raw.Ok (k:Nat) (r:Raw):Prop where
 num:Dig r.num
 den:Dig r.den
 lnum:r.num.length<=k
 lden:r.den.length<=k
theorem Raw.Ok.mono {j k:Nat} {r:Raw} (h:r.Ok j) (hk:j<=k):r.Ok k:=⟨h.num,h.den,qnb h.lnum hk,qnb h.lden hk⟩
theorem Raw.Ok.bd {k:Nat} {r:Raw} (h:r.Ok k) (hk:1<=k):Bd k r.q:=
 Bd.mk hk (Nat.lt_of_lt_of_le (val_lt h.num) (Nat.pow_le_pow_right (by decide) h.lnum)) (Nat.lt_of_lt_of_le (val_lt h.den) (Nat.pow_le_pow_right (by decide) h.lden))
def cn (q:Rat):Raw:=⟨decide (q.num<0),limbs q.num.natAbs,limbs q.den⟩
theorem cn_q (q:Rat):(cn q).q=q:=by
 unfold Raw.q cn;simp only[val_limbs];exact mkq_self q
theorem cn_ok {k:Nat} {q:Rat} (h:Bd k q):(cn q).Ok k:=⟨limbs_dig _,limbs_dig _,limbs_length_le h.1,limbs_length_le h.2⟩
theorem cn_zero:cn 0=⟨false,[],[1]⟩:=by
 unfold cn;have h1:limbs (0:Rat).num.natAbs=[]:=limbs_zero;have h2:limbs (0:Rat).den=[1]:=by
  have:(0:Rat).den=val [1]:=rfl;rw[this];exact limbs_val (fun d hd=>by simp at hd;subst hd;decide) (Or.inr (by decide))
 rw[h1,h2];rfl
def Raw.v (r:Raw):PV:= .agg [.bool r.neg,.fv (.sl (u32s r.num)),.fv (.sl (u32s r.den))]
def FR (q:Rat):PV:=(cn q).v
theorem FR_eq (q:Rat):FR q= .agg [.bool (decide (q.num<0)),.fv (N q.num.natAbs),.fv (N q.den)]:=rfl
end Go.Pl
namespace Go.Proofs.YtjjbkjgifdhlcaaGreat
open Go.AM Go.Pl
set_option maxRecDepth 100000
set_option maxHeartbeats 1000000
theorem cmpN_zero {x:Nat}:(cmpN x 0==0)=decide (x=0):=by
 unfold cmpN;by_cases h:x=0
 ·subst h;rfl
 ·have h1: ¬x<0:=by omega
  have h2:0<x:=by omega
  simp[h,h2]
theorem den83 (l:List Nat) (hl:Dig l) (hll:l.length<100000000000):Den Tryz.prog 174 [] [.fv (.sl (u32s l))] [] (.bool (decide (val l=0))):=by
 refine den_of tabOk mixed Tryz.func174 (cd:=_) rfl (by decide) rfl (n:=5) rfl rfl (m:=0) rfl ?_;simp -dsimp(disch:=omega) only[replicate,rules];have h:=den91 l [] hl Dig.nil hll (by simp);refine gp h rfl ?_;have hv:val []=0:=rfl;simp -dsimp(disch:=omega) only[hv,cmpN_zero,↓reduceIte,ru];refine rpq rfl ⟨tvq,tvq⟩ ?_;simp(disch:=omega) only[St.get,fzX,oneRes,fzV,fzC,fz1,fz0,Option.map_some,qk,getD_cons_zero]
theorem den68 (s:Bool) (n d:List Nat) (hn:Dig n) (hd:Dig d) (hln:n.length<10000000000) (hld:d.length<10000000000) (hd0:val d≠0):
 Den Tryz.prog 131 [] [.bool s,.fv (.sl (u32s n)),.fv (.sl (u32s d))] [] (FR (mkq s (val n) (val d))):=by
 have hn2:=limbs_length_le (val_lt hn)
 have hd2:=limbs_length_le (val_lt hd)
 refine den_of tabOk mixed Tryz.func131 (cd:=_) rfl (by decide) rfl (n:=47) rfl rfl (m:=0) rfl ?_
 simp -dsimp(disch:=omega) only[replicate,ru]
 refine gp (den84 n hn (by omega)) rfl ?_
 simp -dsimp(disch:=omega) only[rules]
 refine gp (den84 d hd (by omega)) rfl ?_
 simp -dsimp(disch:=omega) only[N_val,↓reduceIte,ru]
 refine Br.beqInt ?_ ?_
 ·intro h1 h2
  have h0:val n=0:=limbs_len0 (by omega)
  simp -dsimp(disch:=omega) only[h2,↓reduceIte,reduceAdd,reduceMul,reduceLT,reduceLeDiff,ru]
  refine rpq rfl ⟨⟨rfl,qp 3⟩,tvq⟩ ?_
  rw[mkq_num0 h0,FR,cn_zero]
  rfl
 ·intro h1 h2
  have hn0:val n≠0:=fun h=>h1 (by rw[h,limbs_zero];rfl)
  have hgn:Nat.gcd (val n) (val d)<=val n:=Nat.le_of_dvd (by omega) (Nat.gcd_dvd_left _ _)
  have hg0:Nat.gcd (val n) (val d)≠0:=by
   have:=Nat.gcd_pos_of_pos_left (val d) (show 0<val n by omega);omega
  have hcan:=mkq_canon (s:=s) hn0 hd0
  have h85:=den85 (limbs (val n)) (limbs (val d)) (limbs_dig _) (limbs_dig _) (by omega) (by omega)
  rw[val_limbs,val_limbs,N_val] at h85
  have hgl:=limbs_len_mono hgn
  have hdn:=Nat.mul_div_cancel_left (val n) (Nat.pos_of_ne_zero hg0)
  obtain⟨g,hg⟩:=ex1 (Nat.gcd (val n) (val d))
  rw[hg] at hcan h85 hg0 hgl
  have h86a:=den86 (limbs (val n)) (limbs g) (limbs_dig _) (limbs_dig _) (by omega) (by omega) (by rw[val_limbs];exact hg0)
  have h86b:=den86 (limbs (val d)) (limbs g) (limbs_dig _) (limbs_dig _) (by omega) (by omega) (by rw[val_limbs];exact hg0)
  rw[val_limbs,val_limbs,N_val,N_val] at h86a h86b
  have hFR:FR (mkq s (val n) (val d))= .agg [.bool s,.fv (.sl (u32s (limbs (val n / g)))),.fv (.sl (u32s (limbs (val d / g))))]:=by
   rw[FR_eq,hcan.1,hcan.2.1,hcan.2.2];rfl
  rw[hFR]
  simp -dsimp(disch:=omega) only[h2,rules]
  refine gp h85 rfl ?_
  simp -dsimp(disch:=omega) only[↓reduceIte,ru]
  refine Br.bneInt ?_ ?_
  ·intro h3 h4
   simp -dsimp(disch:=omega) only[h4,↓reduceIte,ru]
   refine gp h86a rfl ?_
   simp -dsimp(disch:=omega) only[rules]
   refine gp h86b rfl ?_
   simp -dsimp(disch:=omega) only[↓reduceIte,reduceAdd,reduceLT,reduceLeDiff,ru]
   refine rpq rfl ⟨⟨rfl,qp 3⟩,tvq⟩ rfl
  ·intro h3 h4
   obtain⟨y,hy⟩: ∃ y,limbs g=[y]:=length_eq_one_iff.1 (by omega)
   have hgy:g=y:=by rw[<-val_limbs g,hy];simp[val]
   have hyg:(u32s [y]).getD 0 []=[FV.lit (Value.int .u32 y)]:=rfl
   have hy1:((1:Int) !=1)=false:=rfl
   have hln1:([y]:List Nat).length=1:=rfl
   have hc1:(((1:Nat):Int) !=1)=false:=rfl
   simp -dsimp(disch:=omega) only[hy,hyg,hln1,hc1,Int.reduceToNat,↓reduceIte,reduceLT,reduceLeDiff,ru]
   refine⟨by simp,?_⟩
   refine Br.bneInt ?_ ?_
   ·intro h5 h6
    rw[hy] at h86a h86b
    simp -dsimp(disch:=omega) only[h6,rules]
    refine gp h86a rfl ?_
    simp -dsimp(disch:=omega) only[rules]
    refine gp h86b rfl ?_
    simp -dsimp(disch:=omega) only[↓reduceIte,reduceAdd,reduceLT,reduceLeDiff,ru]
    refine rpq rfl ⟨⟨rfl,qp 3⟩,tvq⟩ rfl
   ·intro h5 h6
    have hg1:g=1:=by omega
    simp -dsimp(disch:=omega) only[h6,↓reduceIte,reduceAdd,reduceLT,reduceLeDiff,ru]
    refine rpq rfl ⟨⟨rfl,qp 3⟩,tvq⟩ ?_
    rw[hg1,Nat.div_one,Nat.div_one]
    rfl
theorem den66 (r:Raw) (hr:r.Ok 5000000000):Den Tryz.prog 126 [] [r.v] [] (FR r.q):=by
 unfold Raw.v;refine den_of tabOk mixed Tryz.func126 (cd:=_) rfl (by decide) rfl (n:=14) rfl rfl (m:=0) rfl ?_;simp -dsimp(disch:=omega) only[replicate,↓reduceIte,reduceAdd,reduceLT,reduceLeDiff,ru];refine gp (den83 r.den hr.den (by have:=hr.lden;omega)) rfl ?_;simp -dsimp(disch:=omega) only[rules,reduceAdd];refine bd_ ?_ ?_
 ·intro h1 h2;have h68:=den68 false [] [1] Dig.nil (Dig.mk (by decide) Dig.nil) (by simp) (by simp) (by simp[val]);rw[mkq_num0 (n:=val []) rfl,FR_eq] at h68;simp -dsimp(disch:=omega) only[h2,↓reduceIte,reduceAdd,reduceMul,reduceLT,reduceLeDiff,ru];refine gp h68 rfl ?_;have h0:val r.den=0:=h1;have hq:r.q=0:=mkq_den0 h0;rw[hq,FR_eq];simp -dsimp(disch:=omega) only[reduceAdd,reduceLT,reduceLeDiff,ru];refine rpq rfl ⟨⟨rfl,qp 3⟩,tvq⟩ rfl
 ·intro h1 h2;have h68:=den68 r.neg r.num r.den hr.num hr.den (by have:=hr.lnum;omega) (by have:=hr.lden;omega) h1;rw[FR_eq] at h68;simp -dsimp(disch:=omega) only[h2,↓reduceIte,reduceAdd,reduceLeDiff,ru];refine gp h68 rfl ?_;simp -dsimp(disch:=omega) only[reduceAdd,reduceLT,reduceLeDiff,ru];refine rpq rfl ⟨⟨rfl,qp 3⟩,tvq⟩ rfl
end Go.Proofs.YtjjbkjgifdhlcaaGreat
namespace Go.Pl
open Go.AM
theorem sg_mul (s t:Bool) (a c:Nat):sg s a*sg t c=sg (s !=t) (a*c):=by
 unfold sg;cases s<;>cases t<;>simp[Int.neg_mul,Int.mul_neg]
theorem mkq_mul (s t:Bool) (a b c d:Nat):mkq s a b*mkq t c d=mkq (s !=t) (a*c) (b*d):=by
 unfold mkq;rw[Rat.mkRat_mul_mkRat,sg_mul]
theorem mkq_one {n:Nat} (h:n≠0):mkq false n n=1:=by
 unfold mkq sg;have h1:(1:Rat)=mkRat 1 1:=rfl;rw[h1,Rat.mkRat_eq_iff h (by decide)];simp
theorem rat_div_of {p q r:Rat} (h:q*r=1):p / q=p*r:=by grind
theorem mkq_div {s t:Bool} {a b c d:Nat} (hc:c≠0) (hd:d≠0):mkq s a b / mkq t c d=mkq (s !=t) (a*d) (b*c):=by
 have h:mkq t c d*mkq t d c=1:=by
  rw[mkq_mul,Nat.mul_comm d c,bne_self_eq_false,mkq_one (Nat.mul_ne_zero hc hd)]
 rw[rat_div_of h,mkq_mul]
theorem mkq_eq {n m:Int} {b d:Nat} (hb:b≠0) (hd:d≠0) (h:n*d=m*b):mkRat n b=mkRat m d:=(Rat.mkRat_eq_iff hb hd).2 h
theorem sg_add (s:Bool) (a c:Nat):sg s a+sg s c=sg s (a+c):=by
 unfold sg;cases s<;>simp;omega
theorem sg_addlt {s t:Bool} (h:s≠t) {a c:Nat} (hl:a<c):sg s a+sg t c=sg t (c - a):=by
 unfold sg;cases s<;>cases t<;>simp at h ⊢ <;>omega
theorem sg_addge {s t:Bool} (h:s≠t) {a c:Nat} (hl: ¬a<c):sg s a+sg t c=sg s (a - c):=by
 unfold sg;cases s<;>cases t<;>simp at h ⊢ <;>omega
theorem mkRat_add (n m:Int) {d:Nat} (hd:d≠0):mkRat n d+mkRat m d=mkRat (n+m) d:=by
 rw[Rat.mkRat_add_mkRat _ _ hd hd];apply mkq_eq (Nat.mul_ne_zero hd hd) hd;grind
theorem mkq_add {s t:Bool} (h:s=t) {a c d:Nat} (hd:d≠0):mkq s a d+mkq t c d=mkq s (a+c) d:=by
 subst h;unfold mkq;rw[mkRat_add _ _ hd,sg_add]
theorem mkq_addlt {s t:Bool} (h:s≠t) {a c d:Nat} (hl:a<c) (hd:d≠0):mkq s a d+mkq t c d=mkq t (c - a) d:=by
 unfold mkq;rw[mkRat_add _ _ hd,sg_addlt h hl]
theorem mkq_addge {s t:Bool} (h:s≠t) {a c d:Nat} (hl: ¬a<c) (hd:d≠0):mkq s a d+mkq t c d=mkq s (a - c) d:=by
 unfold mkq;rw[mkRat_add _ _ hd,sg_addge h hl]
theorem sg_scale (s:Bool) (a k:Nat):sg s (a*k)=sg s a*k:=by
 unfold sg;cases s<;>simp[Int.neg_mul]
theorem mkq_scale {s:Bool} {a b k:Nat} (hb:b≠0) (hk:k≠0):mkq s (a*k) (b*k)=mkq s a b:=by
 unfold mkq;apply mkq_eq (Nat.mul_ne_zero hb hk) hb;rw[sg_scale];grind
theorem natAbs_pow_lt {a c j k:Nat} (ha:a<B^j) (hc:c<B^k):a*c<B^(j+k):=by
 rw[Nat.pow_add];exact Nat.mul_lt_mul'' ha hc
theorem add_pow_lt {a c k:Nat} (ha:a<B^k) (hc:c<B^k):a+c<B^(k+1):=by
 have h2:2*B^k<=B^k*4294967296:=by rw[Nat.mul_comm];exact Nat.mul_le_mul_left _ (by decide)
 have h3:B^(k+1)=B^k*4294967296:=Nat.pow_succ _ _;rw[h3];omega
theorem Bd.neg {k:Nat} {q:Rat} (h:Bd k q):Bd k (-q):=by
 unfold Bd;have h1:(-q).num= -q.num:=rfl;have h2:(-q).den=q.den:=rfl;rw[h1,h2,Int.natAbs_neg];exact h
theorem Bd.mul {j k:Nat} {p q:Rat} (hp:Bd j p) (hq:Bd k q) (hk:1<=j+k):Bd (j+k) (p*q):=by
 rw[<-mkq_self p,<-mkq_self q,mkq_mul];exact Bd.mk hk (natAbs_pow_lt hp.1 hq.1) (natAbs_pow_lt hp.2 hq.2)
theorem Bd.div {j k:Nat} {p q:Rat} (hp:Bd j p) (hq:Bd k q) (h0:q≠0) (hk:1<=j+k):Bd (j+k) (p / q):=by
 have hn:q.num.natAbs≠0:=fun h=>h0 (Rat.num_eq_zero.1 (by omega))
 rw[<-mkq_self p,<-mkq_self q,mkq_div hn q.den_nz];exact Bd.mk hk (natAbs_pow_lt hp.1 hq.2) (natAbs_pow_lt hp.2 hq.1)
theorem mkq_common (s t:Bool) {a b c d:Nat} (hb:b≠0) (hd:d≠0):mkq s a b+mkq t c d=mkq s (a*d) (b*d)+mkq t (c*b) (b*d):=by
 rw[mkq_scale hb hd,Nat.mul_comm b d,mkq_scale hd hb]
theorem Bd.sum {k n d a c:Nat} {s t:Bool} (hk:1<=k) (ha:a<B^k) (hc:c<B^k) (hd:d<B^(k+1)) (hd0:d≠0) (hn:n=k+1):Bd n (mkq s a d+mkq t c d):=by
 subst hn;have h1:c - a<B^(k+1):=qmb (Nat.sub_le _ _) (Nat.lt_trans hc (Nat.pow_lt_pow_right (by decide) (by omega)));have h2:a - c<B^(k+1):=qmb (Nat.sub_le _ _) (Nat.lt_trans ha (Nat.pow_lt_pow_right (by decide) (by omega)));by_cases h:s=t
 ·rw[mkq_add h hd0];exact Bd.mk (by omega) (add_pow_lt ha hc) hd
 ·by_cases hl:a<c
  ·rw[mkq_addlt h hl hd0];exact Bd.mk (by omega) h1 hd
  ·rw[mkq_addge h hl hd0];exact Bd.mk (by omega) h2 hd
theorem Bd.add {j k:Nat} {p q:Rat} (hp:Bd j p) (hq:Bd k q) (hk:1<=j+k):Bd (j+k+1) (p+q):=by
 rw[<-mkq_self p,<-mkq_self q,mkq_common _ _ p.den_nz q.den_nz];refine Bd.sum hk (natAbs_pow_lt hp.1 hq.2) ?_ ?_ (Nat.mul_ne_zero p.den_nz q.den_nz) rfl
 ·rw[Nat.add_comm];exact natAbs_pow_lt hq.1 hp.2
 ·exact Nat.lt_trans (natAbs_pow_lt hp.2 hq.2) (Nat.pow_lt_pow_right (by decide) (by omega))
theorem Bd.sub {j k:Nat} {p q:Rat} (hp:Bd j p) (hq:Bd k q) (hk:1<=j+k):Bd (j+k+1) (p - q):=by
 rw[Rat.sub_eq_add_neg];exact hp.add hq.neg hk
def sgq (q:Rat):Int:=q.num.sign
theorem sgq_zero {q:Rat} (h:q.num.natAbs=0):sgq q=0:=by
 unfold sgq;have:q.num=0:=by omega
 rw[this];rfl
theorem sgq_neg {q:Rat} (h:q.num<0):sgq q= -1:=Int.sign_eq_neg_one_of_neg h
theorem sgq_pos {q:Rat} (h0:q.num.natAbs≠0) (h: ¬q.num<0):sgq q=1:=Int.sign_eq_one_of_pos (by omega)
end Go.Pl
namespace Go.Proofs.YtjjbkjgifdhlcaaGreat
open Go.AM Go.Pl
set_option maxRecDepth 100000
set_option maxHeartbeats 1000000
theorem den67 (q:Rat):Den Tryz.prog 127 [] [FR q] [] (FR q):=by
 rw[FR_eq];refine den_of tabOk mixed Tryz.func127 (cd:=_) rfl (by decide) rfl (n:=12) rfl rfl (m:=0) rfl ?_;simp -dsimp(disch:=omega) only[replicate,↓reduceIte,reduceAdd,reduceLT,reduceLeDiff,ru];refine rpq rfl ⟨⟨rfl,qp 3⟩,tvq⟩ rfl
theorem den41 (r:Raw) (hr:r.Ok 5000000000):Den Tryz.prog 68 [] [r.v] [] (FR r.q):=by
 have h66:=den66 r hr;have h67:=den67 r.q;rw[FR_eq] at h66 h67 ⊢;unfold Raw.v at h66 ⊢;refine den_of tabOk mixed Tryz.func68 (cd:=_) rfl (by decide) rfl (n:=5) rfl rfl (m:=0) rfl ?_;simp -dsimp(disch:=omega) only[replicate,↓reduceIte,reduceAdd,reduceLT,reduceLeDiff,ru];refine gp h66 rfl ?_;simp -dsimp(disch:=omega) only[rules,reduceAdd];refine gp h67 rfl ?_;simp -dsimp(disch:=omega) only[reduceAdd,reduceLT,reduceLeDiff,ru];refine rpq rfl ⟨⟨rfl,qp 3⟩,tvq⟩ rfl
theorem den36 (r:Raw) (hr:r.Ok 5000000000):Den Tryz.prog 84 [] [r.v] [] (.int .i64 (sgq r.q)):=by
 have h66:=den66 r hr;rw[FR_eq] at h66;unfold Raw.v at h66 ⊢;obtain⟨n,hn⟩:=ex1 (r.q.num.natAbs);have hz:((limbs n).length:Int)=0↔n=0:=⟨fun h=>limbs_len0 (by omega),fun h=>by rw[h,limbs_zero];rfl⟩;rw[hn,N_val] at h66;refine den_of tabOk mixed Tryz.func84 (cd:=_) rfl (by decide) rfl (n:=15) rfl rfl (m:=0) rfl ?_;simp -dsimp(disch:=omega) only[replicate,↓reduceIte,reduceAdd,reduceLT,reduceLeDiff,ru];refine gp h66 rfl ?_;simp -dsimp(disch:=omega) only[↓reduceIte,reduceAdd,reduceLT,reduceLeDiff,ru];refine Br.beqInt ?_ ?_
 ·intro h1 h2;have hs:=sgq_zero (hn.trans (hz.1 h1));simp -dsimp(disch:=omega) only[h2,ru];refine rpq rfl ⟨tvq,tvq⟩ ?_;simp(disch:=omega) only[hs,St.get,fzX,oneRes,fzV,fzC,fz1,fz0,Option.map_some,qk,getD_cons_zero]
 ·intro h1 h2;simp -dsimp(disch:=omega) only[h2,↓reduceIte,reduceAdd,reduceLeDiff,ru];refine bd_ ?_ ?_
  ·intro h3 h4;have hs:=sgq_neg h3;simp -dsimp(disch:=omega) only[h4,ru];refine rpq rfl ⟨tvq,tvq⟩ ?_;simp(disch:=omega) only[hs,St.get,fzX,oneRes,fzV,fzC,fz1,fz0,Option.map_some,qk,getD_cons_zero]
  ·intro h3 h4;have hs:=sgq_pos (q:=r.q) (fun h=>h1 (hz.2 (hn.symm.trans h))) h3;simp -dsimp(disch:=omega) only[h4,ru];refine rpq rfl ⟨tvq,tvq⟩ ?_;simp(disch:=omega) only[hs,St.get,fzX,oneRes,fzV,fzC,fz1,fz0,Option.map_some,qk,getD_cons_zero]
set_option maxHeartbeats 2000000
theorem limbs_len_zero {n:Nat}:((limbs n).length:Int)=0↔n=0:=⟨fun h=>limbs_len0 (by omega),fun h=>by rw[h,limbs_zero];rfl⟩
theorem limbs_lt_of {n k:Nat} (h:n<B^k):(limbs n).length<=k:=limbs_length_le h
theorem FR_neg (q:Rat):FR (-q)= .agg [.bool (!decide (q.num<0)&&decide (((limbs q.num.natAbs).length:Int)>0)),.fv (N q.num.natAbs),.fv (N q.den)]:=by
 have h1:(-q).num= -q.num:=rfl;have h2:(-q).den=q.den:=rfl;rw[FR_eq,h1,h2,Int.natAbs_neg];congr 3;by_cases h:q.num=0
 ·have h3:((limbs q.num.natAbs).length:Int)=0:=limbs_len_zero.2 (by omega);rw[h3,h];rfl
 ·have h3:((limbs q.num.natAbs).length:Int)≠0:=fun h4=>h (by have:=limbs_len_zero.1 h4;omega)
  have h4:((limbs q.num.natAbs).length:Int)>0:=by omega
  rw[qbb h4,Bool.and_true];by_cases h5:q.num<0
  ·rw[qbb h5,qcb (show¬(-q.num<0) by omega)];rfl
  ·rw[qcb h5,qbb (show -q.num<0 by omega)];rfl
theorem den37 (r:Raw) (hr:r.Ok 5000000000):Den Tryz.prog 132 [] [r.v] [] (FR (-r.q)):=by
 have h66:=den66 r hr;have h67:=den67 (-r.q);rw[FR_eq] at h66;rw[FR_neg] at h67 ⊢;unfold Raw.v at h66 ⊢;obtain⟨n,hn⟩:=ex1 (r.q.num.natAbs);obtain⟨s,hs⟩:=ex1 (decide (r.q.num<0));obtain⟨d,hd⟩:=ex1 (N r.q.den);rw[hn,hs,hd,N_val] at h66 h67 ⊢;refine den_of tabOk mixed Tryz.func132 (cd:=_) rfl (by decide) rfl (n:=20) rfl rfl (m:=0) rfl ?_;simp -dsimp(disch:=omega) only[replicate,↓reduceIte,reduceAdd,reduceLT,reduceLeDiff,ru];refine gp h66 rfl ?_;cases s
 ·have e1:(!false)=true:=rfl;have e2: ∀ b,(true&&b)=b:=fun _=>rfl
  rw[e1,e2] at h67 ⊢;simp -dsimp(disch:=omega) only[e1,↓reduceIte,reduceAdd,reduceLT,reduceLeDiff,ru];refine gp h67 rfl ?_;simp -dsimp(disch:=omega) only[reduceAdd,reduceLT,reduceLeDiff,ru];refine rpq rfl ⟨⟨rfl,qp 3⟩,tvq⟩ rfl
 ·have e1:(!true)=false:=rfl;have e2: ∀ b,(false&&b)=false:=fun _=>rfl
  rw[e1,e2] at h67 ⊢;simp -dsimp(disch:=omega) only[e1,↓reduceIte,reduceAdd,reduceLT,reduceLeDiff,ru];refine gp h67 rfl ?_;simp -dsimp(disch:=omega) only[reduceAdd,reduceLT,reduceLeDiff,ru];refine rpq rfl ⟨⟨rfl,qp 3⟩,tvq⟩ rfl
theorem den54 (r1 r2:Raw) (hr1:r1.Ok 2000000000) (hr2:r2.Ok 2000000000):Den Tryz.prog 70 [] [r1.v,r2.v] [] (FR (r1.q*r2.q)):=by
 have ha:=den66 r1 (hr1.mono (by decide));have hb:=den66 r2 (hr2.mono (by decide));have b1:=hr1.bd (by decide);have b2:=hr2.bd (by decide);have c1:=cn_ok b1;have c2:=cn_ok b2;have hq:mkq (decide (r1.q.num<0) !=decide (r2.q.num<0)) (r1.q.num.natAbs*r2.q.num.natAbs) (r1.q.den*r2.q.den)=r1.q*r2.q:=by
  rw[<-mkq_mul,mkq_self,mkq_self]
 have hm1:=den69 (limbs r1.q.num.natAbs) (limbs r2.q.num.natAbs) (limbs_dig _) (limbs_dig _) (by have:=c1.lnum;simp only[cn] at this;omega) (by have:=c2.lnum;simp only[cn] at this;omega);have hm2:=den69 (limbs r1.q.den) (limbs r2.q.den) (limbs_dig _) (limbs_dig _) (by have:=c1.lden;simp only[cn] at this;omega) (by have:=c2.lden;simp only[cn] at this;omega);have hl1:=limbs_lt_of (natAbs_pow_lt b1.1 b2.1);have hl2:=limbs_lt_of (natAbs_pow_lt b1.2 b2.2);have h68:=den68 (decide (r1.q.num<0) !=decide (r2.q.num<0)) (limbs (r1.q.num.natAbs*r2.q.num.natAbs)) (limbs (r1.q.den*r2.q.den)) (limbs_dig _) (limbs_dig _) (by omega) (by omega) (by rw[val_limbs];exact Nat.mul_ne_zero r1.q.den_nz r2.q.den_nz);rw[val_limbs,val_limbs,hq] at h68;rw[val_limbs,val_limbs] at hm1 hm2;have h67:=den67 (r1.q*r2.q);rw[FR_eq] at ha hb h68 h67 ⊢;unfold Raw.v at ha hb ⊢;rw[N_val] at hm1 hm2;rw[N_val,N_val] at ha hb
 refine den_of tabOk mixed Tryz.func70 (cd:=_) rfl (by decide) rfl (n:=32) rfl rfl (m:=0) rfl ?_;simp -dsimp(disch:=omega) only[replicate,reduceAdd,reduceLT,ru];refine dw (by kernel_rfl) ?_;simp -dsimp(disch:=omega) only[↓reduceIte,reduceAdd,reduceLeDiff,ru];refine gp ha rfl ?_;simp -dsimp(disch:=omega) only[↓reduceIte,reduceAdd,reduceLeDiff,ru];refine gp hb rfl ?_;simp -dsimp(disch:=omega) only[reduceAdd,reduceLT,reduceLeDiff,ru];refine dw (by kernel_rfl) ?_;simp -dsimp(disch:=omega) only[↓reduceIte,reduceCtorEq,reduceAdd,reduceLeDiff,ru];refine gp hm1 rfl ?_;simp -dsimp(disch:=omega) only[↓reduceIte,reduceAdd,reduceLeDiff,ru];refine gp hm2 rfl ?_;simp -dsimp(disch:=omega) only[rules,reduceAdd];refine gp h68 rfl ?_;simp -dsimp(disch:=omega) only[rules,reduceAdd];refine gp h67 rfl ?_;simp -dsimp(disch:=omega) only[reduceAdd,reduceLT,reduceLeDiff,ru];refine rpq rfl ⟨⟨rfl,qp 3⟩,tvq⟩ rfl
theorem den40 (r1 r2:Raw) (hr1:r1.Ok 2000000000) (hr2:r2.Ok 2000000000) (h0:r2.q≠0):Den Tryz.prog 73 [] [r1.v,r2.v] [] (.tup [FR (r1.q / r2.q),.int .i64 0]):=by
 have ha:=den66 r1 (hr1.mono (by decide));have hb:=den66 r2 (hr2.mono (by decide));have b1:=hr1.bd (by decide);have b2:=hr2.bd (by decide);have c1:=cn_ok b1;have c2:=cn_ok b2;have hn0:r2.q.num.natAbs≠0:=fun h=>h0 (Rat.num_eq_zero.1 (by omega))
 have hq:mkq (decide (r1.q.num<0) !=decide (r2.q.num<0)) (r1.q.num.natAbs*r2.q.den) (r1.q.den*r2.q.num.natAbs)=r1.q / r2.q:=by
  rw[<-mkq_div hn0 r2.q.den_nz,mkq_self,mkq_self]
 have hm1:=den69 (limbs r1.q.num.natAbs) (limbs r2.q.den) (limbs_dig _) (limbs_dig _) (by have:=c1.lnum;simp only[cn] at this;omega) (by have:=c2.lden;simp only[cn] at this;omega);have hm2:=den69 (limbs r1.q.den) (limbs r2.q.num.natAbs) (limbs_dig _) (limbs_dig _) (by have:=c1.lden;simp only[cn] at this;omega) (by have:=c2.lnum;simp only[cn] at this;omega);have hl1:=limbs_lt_of (natAbs_pow_lt b1.1 b2.2);have hl2:=limbs_lt_of (natAbs_pow_lt b1.2 b2.1);have h68:=den68 (decide (r1.q.num<0) !=decide (r2.q.num<0)) (limbs (r1.q.num.natAbs*r2.q.den)) (limbs (r1.q.den*r2.q.num.natAbs)) (limbs_dig _) (limbs_dig _) (by omega) (by omega) (by rw[val_limbs];exact Nat.mul_ne_zero r1.q.den_nz hn0);rw[val_limbs,val_limbs,hq] at h68;rw[val_limbs,val_limbs] at hm1 hm2;have h67:=den67 (r1.q / r2.q);have hz:(((limbs r2.q.num.natAbs).length:Int)==0)=false:=by
  rw[qx];exact fun h=>hn0 (limbs_len_zero.1 h)
 rw[FR_eq] at ha hb h68 h67 ⊢;unfold Raw.v at ha hb ⊢;rw[N_val] at hm1 hm2;rw[N_val,N_val] at ha hb;refine den_of tabOk mixed Tryz.func73 (cd:=_) rfl (by decide) rfl (n:=39) rfl rfl (m:=0) rfl ?_;simp -dsimp(disch:=omega) only[replicate,reduceAdd,reduceLT,ru];refine dw (by kernel_rfl) ?_;simp -dsimp(disch:=omega) only[↓reduceIte,reduceAdd,reduceLeDiff,ru];refine gp ha rfl ?_;simp -dsimp(disch:=omega) only[↓reduceIte,reduceAdd,reduceLeDiff,ru];refine gp hb rfl ?_;simp -dsimp(disch:=omega) only[hz,↓reduceIte,reduceAdd,reduceLT,reduceLeDiff,ru];refine dw (by kernel_rfl) ?_;simp -dsimp(disch:=omega) only[↓reduceIte,reduceCtorEq,reduceAdd,reduceLeDiff,ru];refine gp hm1 rfl ?_;simp -dsimp(disch:=omega) only[↓reduceIte,reduceAdd,reduceLeDiff,ru];refine gp hm2 rfl ?_;simp -dsimp(disch:=omega) only[rules,reduceAdd];refine gp h68 rfl ?_;simp -dsimp(disch:=omega) only[rules,reduceAdd]
 refine gp h67 rfl ?_;simp -dsimp(disch:=omega) only[reduceAdd,reduceLT,reduceLeDiff,ru];refine rpq rfl ⟨⟨rfl,qp 3⟩,tvq,tvq⟩ rfl
theorem den75 (d:Nat) (hd:(limbs d).length<100000000000):Den Tryz.prog 128 [] [.fv (.sl (u32s (limbs d)))] [] (.bool (decide (d=1))):=by
 have hl1:(limbs 1)=[1]:=limbs_val (l:=[1]) (fun d hd=>by simp at hd;subst hd;decide) (Or.inr (by decide));have hv:=val_limbs d;obtain⟨l,hl⟩:=ex1 (limbs d);rw[hl] at hd hv;rw[hl];refine den_of tabOk mixed Tryz.func128 (cd:=_) rfl (by decide) rfl (n:=11) rfl rfl (m:=0) rfl ?_;simp -dsimp(disch:=omega) only[replicate,↓reduceIte,ru];refine Br.beqInt ?_ ?_
 ·intro h1 h2;obtain⟨y,rfl⟩: ∃ y,l=[y]:=length_eq_one_iff.1 (by omega);have hdy:d=y:=by rw[<-hv];simp[val]
  have hyg:(u32s [y]).getD 0 []=[FV.lit (Value.int .u32 y)]:=rfl;have hb:((y:Int)==1)=decide (d=1):=by
   rw[hdy];by_cases h:y=1
   ·subst h;rfl
   ·rw[qcb h,qx];omega
  have hln1:([y]:List Nat).length=1:=rfl;have hc1:(((1:Nat):Int)==1)=true:=rfl;simp -dsimp(disch:=omega) only[hyg,hb,hln1,hc1,Int.reduceToNat,↓reduceIte,reduceLT,reduceLeDiff,ru];refine⟨by simp,?_⟩;refine rpq rfl ⟨tvq,tvq⟩ ?_;simp(disch:=omega) only[St.get,fzX,oneRes,fzV,fzC,fz1,fz0,Option.map_some,qk,getD_cons_zero]
 ·intro h1 h2;have hb:decide (d=1)=false:=qcb (fun h=>h1 (by rw[h,hl1] at hl;subst hl;rfl));simp -dsimp(disch:=omega) only[h2,↓reduceIte,ru];refine rpq rfl ⟨tvq,tvq⟩ ?_;simp(disch:=omega) only[hb,St.get,fzX,oneRes,fzV,fzC,fz1,fz0,Option.map_some,qk,getD_cons_zero]
theorem den76 (k:Nat) (hk:k<=4000000000) (s t:Bool) (a c d:Nat) (ha:a<B^k) (hc:c<B^k) (hd:d<B^k) (hd0:d≠0):
 Den Tryz.prog 129 [] [.bool s,.fv (.sl (u32s (limbs a))),.bool t,.fv (.sl (u32s (limbs c))),.fv (.sl (u32s (limbs d)))] [] (FR (mkq s a d+mkq t c d)):=by
 have hla:=limbs_lt_of ha
 have hlc:=limbs_lt_of hc
 have hld:=limbs_lt_of hd
 have hls:=limbs_lt_of (add_pow_lt ha hc)
 by_cases hst:s=t
 ·have h90:=den90 (limbs a) (limbs c) (limbs_dig _) (limbs_dig _) (by omega) (by omega)
  rw[val_limbs,val_limbs,N_val] at h90
  have h68:=den68 s (limbs (a+c)) (limbs d) (limbs_dig _) (limbs_dig _) (by omega) (by omega) (by rw[val_limbs];exact hd0)
  rw[val_limbs,val_limbs,<-mkq_add hst hd0,FR_eq] at h68
  rw[FR_eq]
  have hb:(s==t)=true:=by rw[hst];exact beq_self_eq_true _
  refine den_of tabOk mixed Tryz.func129 (cd:=_) rfl (by decide) rfl (n:=34) rfl rfl (m:=0) rfl ?_
  simp -dsimp(disch:=omega) only[replicate,hb,↓reduceIte,reduceCtorEq,ru]
  refine gp h90 rfl ?_
  simp -dsimp(disch:=omega) only[rules]
  refine gp h68 rfl ?_
  simp -dsimp(disch:=omega) only[reduceAdd,reduceLT,reduceLeDiff,ru]
  refine rpq rfl ⟨⟨rfl,qp 3⟩,tvq⟩ rfl
 ·have hb:(s==t)=false:=by rw[qx];exact hst
  have h91:=den91 (limbs a) (limbs c) (limbs_dig _) (limbs_dig _) (by omega) (by omega)
  rw[val_limbs,val_limbs] at h91
  refine den_of tabOk mixed Tryz.func129 (cd:=_) rfl (by decide) rfl (n:=34) rfl rfl (m:=0) rfl ?_
  simp -dsimp(disch:=omega) only[replicate,hb,↓reduceIte,reduceCtorEq,ru]
  refine gp h91 rfl ?_
  simp -dsimp(disch:=omega) only[↓reduceIte,ru]
  refine bd_ ?_ ?_
  ·intro h1 h2
   rw[cmpN_neg] at h1
   have h92:=den92 (limbs c) (limbs a) (limbs_dig _) (limbs_dig _) (by omega) (by omega) (by rw[val_limbs,val_limbs];omega)
   rw[val_limbs,val_limbs,N_val] at h92
   have hsub:=limbs_len_mono (Nat.sub_le c a)
   have h68:=den68 t (limbs (c - a)) (limbs d) (limbs_dig _) (limbs_dig _) (by omega) (by omega) (by rw[val_limbs];exact hd0)
   rw[val_limbs,val_limbs,<-mkq_addlt hst h1 hd0,FR_eq] at h68
   rw[FR_eq]
   simp -dsimp(disch:=omega) only[h2,rules]
   refine gp h92 rfl ?_
   simp -dsimp(disch:=omega) only[rules]
   refine gp h68 rfl ?_
   simp -dsimp(disch:=omega) only[reduceAdd,reduceLT,reduceLeDiff,ru]
   refine rpq rfl ⟨⟨rfl,qp 3⟩,tvq⟩ rfl
  ·intro h1 h2
   rw[cmpN_neg] at h1
   have h92:=den92 (limbs a) (limbs c) (limbs_dig _) (limbs_dig _) (by omega) (by omega) (by rw[val_limbs,val_limbs];omega)
   rw[val_limbs,val_limbs,N_val] at h92
   have hsub:=limbs_len_mono (Nat.sub_le a c)
   have h68:=den68 s (limbs (a - c)) (limbs d) (limbs_dig _) (limbs_dig _) (by omega) (by omega) (by rw[val_limbs];exact hd0)
   rw[val_limbs,val_limbs,<-mkq_addge hst h1 hd0,FR_eq] at h68
   rw[FR_eq]
   simp -dsimp(disch:=omega) only[h2,rules]
   refine gp h92 rfl ?_
   simp -dsimp(disch:=omega) only[rules]
   refine gp h68 rfl ?_
   simp -dsimp(disch:=omega) only[reduceAdd,reduceLT,reduceLeDiff,ru]
   refine rpq rfl ⟨⟨rfl,qp 3⟩,tvq⟩ rfl
theorem pow_up {x j m:Nat} (h:x<B^j) (hj:j<=m):x<B^m:=Nat.lt_of_lt_of_le h (Nat.pow_le_pow_right (by decide) hj)
theorem den51 (r1 r2:Raw) (hr1:r1.Ok 1000000000) (hr2:r2.Ok 1000000000):Den Tryz.prog 69 [] [r1.v,r2.v] [] (FR (r1.q+r2.q)):=by
 have ha:=den66 r1 (hr1.mono (by decide));have hb:=den66 r2 (hr2.mono (by decide));have b1:=hr1.bd (by decide);have b2:=hr2.bd (by decide);have c1:=cn_ok b1;have c2:=cn_ok b2;have o1:=den75 r1.q.den (by have:=c1.lden;simp only[cn] at this;omega);have o2:=den75 r2.q.den (by have:=c2.lden;simp only[cn] at this;omega);have hq:=mkq_common (decide (r1.q.num<0)) (decide (r2.q.num<0)) (a:=r1.q.num.natAbs) (c:=r2.q.num.natAbs) r1.q.den_nz r2.q.den_nz;rw[mkq_self,mkq_self] at hq;have hm1:=den69 (limbs r1.q.num.natAbs) (limbs r2.q.den) (limbs_dig _) (limbs_dig _) (by have:=c1.lnum;simp only[cn] at this;omega) (by have:=c2.lden;simp only[cn] at this;omega);have hm2:=den69 (limbs r2.q.num.natAbs) (limbs r1.q.den) (limbs_dig _) (limbs_dig _) (by have:=c2.lnum;simp only[cn] at this;omega) (by have:=c1.lden;simp only[cn] at this;omega)
 have hm3:=den69 (limbs r1.q.den) (limbs r2.q.den) (limbs_dig _) (limbs_dig _) (by have:=c1.lden;simp only[cn] at this;omega) (by have:=c2.lden;simp only[cn] at this;omega);obtain⟨k,hk⟩: ∃ k,k=2000000000:=⟨_,rfl⟩;have hc:=den76 k (by omega) (decide (r1.q.num<0)) (decide (r2.q.num<0)) (r1.q.num.natAbs*r2.q.den) (r2.q.num.natAbs*r1.q.den) (r1.q.den*r2.q.den) (pow_up (natAbs_pow_lt b1.1 b2.2) (by omega)) (pow_up (natAbs_pow_lt b2.1 b1.2) (by omega)) (pow_up (natAbs_pow_lt b1.2 b2.2) (by omega)) (Nat.mul_ne_zero r1.q.den_nz r2.q.den_nz);have hc1:=den76 k (by omega) (decide (r1.q.num<0)) (decide (r2.q.num<0)) r1.q.num.natAbs r2.q.num.natAbs r1.q.den (pow_up b1.1 (by omega)) (pow_up b2.1 (by omega)) (pow_up b1.2 (by omega)) r1.q.den_nz;rw[<-hq] at hc;rw[val_limbs,val_limbs] at hm1 hm2 hm3;have h67:=den67 (r1.q+r2.q)
 have hsame:r1.q.den=1->r2.q.den=1->mkq (decide (r1.q.num<0)) r1.q.num.natAbs r1.q.den+mkq (decide (r2.q.num<0)) r2.q.num.natAbs r1.q.den=r1.q+r2.q:=by
  intro h1 h2;have e1:=mkq_self r1.q;have e2:=mkq_self r2.q;rw[h2] at e2;rw[h1] at e1;rw[h1,e1,e2]
 generalize hsum:r1.q+r2.q=z at*;rw[FR_eq] at ha hb hc hc1 h67 ⊢;unfold Raw.v at ha hb ⊢;rw[N_val] at hm1 hm2 hm3;rw[N_val,N_val] at ha hb;refine den_of tabOk mixed Tryz.func69 (cd:=_) rfl (by decide) rfl (n:=65) rfl rfl (m:=0) rfl ?_;simp -dsimp(disch:=omega) only[replicate,reduceAdd,reduceLT,ru];refine dw (by kernel_rfl) ?_;simp -dsimp(disch:=omega) only[↓reduceIte,reduceAdd,reduceLeDiff,ru];refine gp ha rfl ?_;simp -dsimp(disch:=omega) only[↓reduceIte,reduceAdd,reduceLeDiff,ru];refine gp hb rfl ?_;simp -dsimp(disch:=omega) only[↓reduceIte,reduceAdd,reduceLT,reduceLeDiff,ru];refine gp o1 rfl ?_;simp -dsimp(disch:=omega) only[rules,reduceAdd];refine bd_ ?_ ?_
 ·intro h1 h2;simp -dsimp(disch:=omega) only[h2,↓reduceIte,reduceAdd,reduceLeDiff,ru];refine gp o2 rfl ?_;simp -dsimp(disch:=omega) only[↓reduceIte,reduceAdd,ru];refine bd_ ?_ ?_
  ·intro h3 h4;rw[hsame h1 h3] at hc1;simp -dsimp(disch:=omega) only[h4,↓reduceIte,reduceAdd,reduceLeDiff,ru];refine gp hc1 rfl ?_;simp -dsimp(disch:=omega) only[rules,reduceAdd];refine gp h67 rfl ?_;simp -dsimp(disch:=omega) only[reduceAdd,reduceLT,reduceLeDiff,ru];refine rpq rfl ⟨⟨rfl,qp 3⟩,tvq⟩ rfl
  ·intro h3 h4;simp -dsimp(disch:=omega) only[h4,rules];refine dw (by kernel_rfl) ?_;simp -dsimp(disch:=omega) only[↓reduceIte,reduceAdd,reduceLeDiff,ru];refine gp hm1 rfl ?_;simp -dsimp(disch:=omega) only[↓reduceIte,reduceAdd,reduceLeDiff,ru];refine gp hm2 rfl ?_;simp -dsimp(disch:=omega) only[↓reduceIte,reduceAdd,reduceLeDiff,ru];refine gp hm3 rfl ?_;simp -dsimp(disch:=omega) only[rules,reduceAdd];refine gp hc rfl ?_;simp -dsimp(disch:=omega) only[rules,reduceAdd];refine gp h67 rfl ?_;simp -dsimp(disch:=omega) only[reduceAdd,reduceLT,reduceLeDiff,ru];refine rpq rfl ⟨⟨rfl,qp 3⟩,tvq⟩ rfl
 ·intro h1 h2;simp -dsimp(disch:=omega) only[h2,rules,↓reduceIte];refine dw (by kernel_rfl) ?_;simp -dsimp(disch:=omega) only[↓reduceIte,reduceAdd,reduceLeDiff,ru];refine gp hm1 rfl ?_;simp -dsimp(disch:=omega) only[↓reduceIte,reduceAdd,reduceLeDiff,ru];refine gp hm2 rfl ?_;simp -dsimp(disch:=omega) only[↓reduceIte,reduceAdd,reduceLeDiff,ru];refine gp hm3 rfl ?_;simp -dsimp(disch:=omega) only[rules,reduceAdd];refine gp hc rfl ?_;simp -dsimp(disch:=omega) only[rules,reduceAdd];refine gp h67 rfl ?_;simp -dsimp(disch:=omega) only[reduceAdd,reduceLT,reduceLeDiff,ru];refine rpq rfl ⟨⟨rfl,qp 3⟩,tvq⟩ rfl
theorem den77 (r1 r2:Raw) (hr1:r1.Ok 1000000000) (hr2:r2.Ok 1000000000):Den Tryz.prog 258 [] [r1.v,r2.v] [] (FR (r1.q - r2.q)):=by
 have h37:=den37 r2 (hr2.mono (by decide));have b2:=hr2.bd (by decide);have h51:=den51 r1 (cn (-r2.q)) hr1 (cn_ok b2.neg);rw[cn_q,<-Rat.sub_eq_add_neg] at h51;change Den Tryz.prog 69 [] [r1.v,FR (-r2.q)] [] _ at h51;rw[FR_eq] at h37;rw[FR_eq,FR_eq] at h51;rw[FR_eq];unfold Raw.v at h37 h51 ⊢;refine den_of tabOk mixed Tryz.func258 (cd:=_) rfl (by decide) rfl (n:=7) rfl rfl (m:=0) rfl ?_;simp -dsimp(disch:=omega) only[replicate,reduceAdd,reduceLT,ru];refine dw (by kernel_rfl) ?_;simp -dsimp(disch:=omega) only[↓reduceIte,reduceAdd,reduceLeDiff,ru];refine gp h37 rfl ?_;simp -dsimp(disch:=omega) only[rules,reduceAdd];refine gp h51 rfl ?_;simp -dsimp(disch:=omega) only[reduceAdd,reduceLT,reduceLeDiff,ru];refine rpq rfl ⟨⟨rfl,qp 3⟩,tvq⟩ rfl
theorem den52 (r1 r2:Raw) (hr1:r1.Ok 1000000000) (hr2:r2.Ok 1000000000):Den Tryz.prog 234 [] [r1.v,r2.v] [] (.int .i64 (sgq (r1.q - r2.q))):=by
 have b1:=hr1.bd (by decide);have b2:=hr2.bd (by decide);have h77:=den77 r1 r2 hr1 hr2;have h36:=den36 (cn (r1.q - r2.q)) ((cn_ok (b1.sub b2 (by decide))).mono (by decide));rw[cn_q] at h36;change Den Tryz.prog 84 [] [FR (r1.q - r2.q)] [] _ at h36;rw[FR_eq] at h77 h36;unfold Raw.v at h77 ⊢;refine den_of tabOk mixed Tryz.func234 (cd:=_) rfl (by decide) rfl (n:=7) rfl rfl (m:=0) rfl ?_;simp -dsimp(disch:=omega) only[replicate,↓reduceIte,reduceAdd,reduceLT,reduceLeDiff,ru];refine gp h77 rfl ?_;simp -dsimp(disch:=omega) only[rules,reduceAdd];refine gp h36 rfl ?_;simp -dsimp(disch:=omega) only[reduceAdd,ru];refine rpq rfl ⟨tvq,tvq⟩ ?_;simp(disch:=omega) only[St.get,fzX,oneRes,fzV,fzC,fz1,fz0,Option.map_some,qk,getD_cons_zero]
theorem den72 (n:Int) (hn: -9223372036854775808<=n/\n<9223372036854775808):Den Tryz.prog 136 [] [.int .i64 n] [] (.tup [.bool (decide (n<0)),.fv (N n.natAbs)]):=by
 refine den_of tabOk mixed Tryz.func136 (cd:=_) rfl (by decide) rfl (n:=19) rfl rfl (m:=0) rfl ?_;simp -dsimp(disch:=omega) only[replicate,↓reduceIte,ru];obtain⟨x,hx⟩:=ex1 (n.natAbs);rw[hx];have hlo:IntKind.u32.wrap (x:Int)=((x % 4294967296:Nat):Int):=by rw[wrap32,Int.natCast_emod];rfl
 have hhi:(x:Int) / 4294967296=((x / 4294967296:Nat):Int):=by rw[Int.natCast_ediv];rfl
 have h84:=den84 [x % 4294967296,x / 4294967296] (Dig.mk (Nat.mod_lt _ (by decide)) (Dig.mk (by simp only[B];omega) Dig.nil)) (by simp);have hv:val [x % 4294967296,x / 4294967296]=x:=by
  simp only[val,B,Nat.mul_zero,Nat.add_zero];exact Nat.mod_add_div x 4294967296
 rw[hv] at h84;obtain⟨lo,hlo1⟩: ∃ t,x % 4294967296=t:=⟨_,rfl⟩;obtain⟨hi,hhi1⟩: ∃ t,x / 4294967296=t:=⟨_,rfl⟩;rw[hlo1] at hlo;rw[hhi1] at hhi;rw[hlo1,hhi1] at h84;refine bd_ ?_ ?_
 ·intro h1 h2;have hw:IntKind.u64.wrap (0 - IntKind.u64.wrap n)=(x:Int):=by rw[wrapU64,wrapU64];omega
  simp -dsimp(disch:=omega) only[h2,hw,hlo,hhi,IntKind.bits,Int.reduceToNat,Int.reducePow,↓reduceIte,reduceAdd,reduceMul,reduceLT,reduceLeDiff,ru];refine⟨by omega,?_⟩;refine gp h84 ?_ ?_
  ·rfl
  simp -dsimp(disch:=omega) only[ru];refine rpq rfl ⟨tvq,tvq,tvq⟩ ?_;simp(disch:=omega) only[St.get,fzX,oneRes,fzV,fzVs,fzC,fz1,fz0,Option.map_some,qk,getD_cons_zero];rw[h2]
 ·intro h1 h2;have hw:IntKind.u64.wrap n=(x:Int):=by rw[wrapU64];omega
  simp -dsimp(disch:=omega) only[h2,hw,hlo,hhi,IntKind.bits,Int.reduceToNat,Int.reducePow,↓reduceIte,reduceAdd,reduceMul,reduceLT,reduceLeDiff,ru];refine⟨by omega,?_⟩;refine gp h84 ?_ ?_
  ·rfl
  simp -dsimp(disch:=omega) only[ru];refine rpq rfl ⟨tvq,tvq,tvq⟩ ?_;simp(disch:=omega) only[St.get,fzX,oneRes,fzV,fzVs,fzC,fz1,fz0,Option.map_some,qk,getD_cons_zero];rw[h2]
theorem mkq_int (n:Int):mkq (decide (n<0)) n.natAbs 1=(n:Rat):=by
 unfold mkq;have h:sg (decide (n<0)) n.natAbs=n:=by
  unfold sg;by_cases h:n<0
  ·simp only[h,decide_true,if_true];omega
  ·simp only[h,decide_false];simp;omega
 rw[h];exact Rat.mkRat_one n
theorem den47 (n:Int) (hn: -9223372036854775808<=n/\n<9223372036854775808):Den Tryz.prog 74 [] [.int .i64 n] [] (FR (n:Rat)):=by
 have h72:=den72 n hn;have hl:(limbs n.natAbs).length<=2:=limbs_length_le (Nat.lt_of_lt_of_le (show n.natAbs<18446744073709551616 by omega) (by decide));have h68:=den68 (decide (n<0)) (limbs n.natAbs) [1] (limbs_dig _) (Dig.mk (by decide) Dig.nil) (by omega) (by simp) (by simp[val]);have hv1:val [1]=1:=rfl;rw[val_limbs,hv1,mkq_int] at h68;have h67:=den67 (n:Rat);rw[FR_eq] at h67 h68 ⊢;rw[N_val] at h72;refine den_of tabOk mixed Tryz.func74 (cd:=_) rfl (by decide) rfl (n:=14) rfl rfl (m:=0) rfl ?_;simp -dsimp(disch:=omega) only[replicate,ru];refine gp h72 rfl ?_;simp -dsimp(disch:=omega) only[↓reduceIte,reduceMul,reduceLT,reduceLeDiff,ru];refine gp h68 ?_ ?_
 ·rfl
 simp -dsimp(disch:=omega) only[rules,reduceAdd];refine gp h67 rfl ?_;simp -dsimp(disch:=omega) only[reduceAdd,reduceLT,reduceLeDiff,ru];refine rpq rfl ⟨⟨rfl,qp 3⟩,tvq⟩ rfl
theorem den78 (l:List Nat) (hd:Dig l) (hl:l.length<1000000000000):Den Tryz.prog 138 [] [.fv (.sl (u32s l))] [.row true (u32s (limbs (val l)))] (.lsl 0 0 (limbs (val l)).length 1):=by
 refine den_of tabOk mixed Tryz.func138 (cd:=_) rfl (by decide) rfl (n:=21) rfl rfl (m:=0) rfl ?_;simp -dsimp(disch:=omega) only[replicate,ru];refine wl (α:=Nat) (fun n=>⟨.fv (.sl (u32s l)):: .any:: .nilsl:: .int .i64 n::replicate 18 .any,[]⟩) (fun n=>n) (fun n=>n<=l.length/\trimL (l.take n)=trimL l) l.length ?_ ?_ ?_
 ·refine wk [] nodup_nil rfl ?_ ?_
  ·simp[leVs,leV,le1]
  ·trivial
 ·exact⟨qp _,by rw[List.take_length]⟩
 rintro n ⟨hn,ht⟩;have hlt:(l.take n).length=n:=by rw[length_take];omega
 simp -dsimp(disch:=omega) only[replicate,↓reduceIte,ru];refine bd_ ?_ ?_
 ·intro h1 h2;obtain⟨j,rfl⟩: ∃ j,n=j+1:=⟨n - 1,by omega⟩;have hj:(((j+1:Nat):Int) - 1).toNat=j:=by omega
  simp -dsimp(disch:=omega) only[h2,hj,↓reduceIte,reduceLT,reduceLeDiff,ru];refine⟨by omega,?_⟩;have hg:(l.take (j+1)).getD ((l.take (j+1)).length - 1) 0=l.getD j 0:=by
   rw[hlt,Nat.add_sub_cancel];simp only[qa];rw[List.getElem?_take_of_lt (by omega)]
  refine Br.beqInt ?_ ?_
  ·intro h3 h4;simp -dsimp(disch:=omega) only[h4,↓reduceIte,ru];refine ap j (by omega) ?_ ⟨by omega,?_⟩
   ·refine wk [] nodup_nil rfl ?_ ?_
    ·simp[leVs,leV,le1]
    ·trivial
   ·rw[<-ht]
    conv=>rhs;rw[trimL.eq_def]
    rw[dif_pos (by omega),if_pos (by rw[hg];omega),hlt,Nat.add_sub_cancel,List.take_take,Nat.min_eq_left (by omega)]
  ·intro h3 h4;have hfin:l.take (j+1)=limbs (val l):=by
    rw[<-trimL_eq l hd,<-ht,trimL.eq_def,dif_pos (by omega),if_neg (by rw[hg];omega)]
   simp -dsimp(disch:=omega) only[h4,Nat.sub_zero,hlt,↓reduceIte,Nat.reduceBEq,reduceLT,reduceLeDiff,ru];refine⟨by omega,by omega,?_⟩;rw[<-hfin,hlt];exact RetOK.own rfl ⟨tvq,tvq⟩ rfl
 ·intro h1 h2;have hn0:n=0:=by omega
  have hfin:l.take n=limbs (val l):=by
   rw[<-trimL_eq l hd,<-ht,trimL.eq_def,dif_neg (by omega)]
  simp -dsimp(disch:=omega) only[h2,Nat.sub_zero,hlt,↓reduceIte,Nat.reduceBEq,reduceLT,ru];refine⟨by omega,by omega,?_⟩;rw[<-hfin,hlt];exact RetOK.own rfl ⟨tvq,tvq⟩ rfl
theorem den78f (l:List Nat) (hd:Dig l) (hl:l.length<1000000000000):Den Tryz.prog 138 [] [.fv (.sl (u32s l))] [] (.fv (N (val l))):=by
 refine(den78 l hd hl).freeze ?_;simp[fzX,fzV,fzC,fz1,fz0,List.idxOf?_nil,u32s_length,N];rw[qdq (by simp[u32s_length])]
theorem den65 (a b:List Nat) (hla:a.length<1000000000000) (hlb:b.length<1000000000000):Den Tryz.prog 120 [] [.fv (.sl (u32s a)),.fv (.sl (u32s b))] [] (.bool (a==b)):=by
 refine den_of tabOk mixed Tryz.func120 (cd:=_) rfl (by decide) rfl (n:=24) rfl rfl (m:=0) rfl ?_;simp -dsimp(disch:=omega) only[replicate,↓reduceIte,ru];refine Br.bneInt ?_ ?_
 ·intro h1 h2;simp -dsimp(disch:=omega) only[h2,ru];refine rpq rfl ⟨tvq,tvq⟩ ?_;simp(disch:=omega) only[St.get,fzX,oneRes,fzV,fzC,fz1,fz0,Option.map_some,qk,getD_cons_zero];have:a≠b:=by intro h;subst h;exact h1 rfl
  simp[this]
 ·intro h1 h2;simp -dsimp(disch:=omega) only[h2,rules];refine wl (α:=Nat) (fun i=>⟨.fv (.sl (u32s a)):: .fv (.sl (u32s b)):: .any:: .any:: .fv (.lit (.bool false)):: .int .i64 i::replicate 20 .any,[]⟩) (fun i=>a.length - i) (fun i=>i<=a.length/\a.take i=b.take i) 0 ?_ ?_ ?_
  ·refine wk [] nodup_nil rfl ?_ ?_
   ·simp[leVs,leV,le1]
   ·trivial
  ·exact⟨by omega,by simp⟩
  ·rintro i ⟨hi,ht⟩;simp -dsimp(disch:=omega) only[replicate,↓reduceIte,ru];refine bd_ ?_ ?_
   ·intro h3 h4;simp -dsimp(disch:=omega) only[h4,rules];refine dw (by kernel_rfl) ?_;simp -dsimp(disch:=omega) only[↓reduceIte,reduceLT,reduceLeDiff,ru];refine⟨by omega,by omega,?_⟩;refine Br.bneInt ?_ ?_
    ·intro h5 h6;simp -dsimp(disch:=omega) only[h6,ru];refine rpq rfl ⟨tvq,tvq⟩ ?_;simp(disch:=omega) only[St.get,fzX,oneRes,fzV,fzC,fz1,fz0,Option.map_some,qk,getD_cons_zero];have:a≠b:=by intro h;subst h;exact h5 rfl
     simp[this]
    ·intro h5 h6;simp -dsimp(disch:=omega) only[h6,↓reduceIte,ru];refine ap (i+1) (by omega) ?_ ⟨by omega,?_⟩
     ·refine wk [] nodup_nil rfl ?_ ?_
      ·simp[leVs,leV,le1]
      ·trivial
     ·have hia:i<a.length:=by omega
      have hib:i<b.length:=by omega
      rw[take_succ_eq_append_getElem hia,take_succ_eq_append_getElem hib,ht];have e1:a.getD i 0=a[i]:=by simp[hia]
      have e2:b.getD i 0=b[i]:=by simp[hib]
      rw[<-e1,<-e2,show a.getD i 0=b.getD i 0 by omega]
   ·intro h3 h4;simp -dsimp(disch:=omega) only[h4,Nat.reduceBEq,ru];refine rpq rfl ⟨tvq,tvq⟩ ?_;simp(disch:=omega) only[St.get,fzX,oneRes,fzV,fzC,fz1,fz0,Option.map_some,qk,getD_cons_zero];rw[qdq (by omega),qdq (by omega)] at ht;simp[ht]
theorem den81 (a b:List Nat) (ha:Dig a) (hb:Dig b) (hla:a.length<100000000000) (hlb:b.length<100000000000):Den Tryz.prog 173 [] [.fv (.sl (u32s a)),.fv (.sl (u32s b))] [] (.int .i64 (cmpN (val a) (val b))):=by
 have hxa:(limbs (val a)).length<=a.length:=limbs_length_le (val_lt ha);have hxb:(limbs (val b)).length<=b.length:=limbs_length_le (val_lt hb);have hda:=limbs_dig (val a);have hdb:=limbs_dig (val b);refine den_of tabOk mixed Tryz.func173 (cd:=_) rfl (by decide) rfl (n:=43) rfl rfl (m:=0) rfl ?_;simp -dsimp(disch:=omega) only[replicate,rules];refine gp (den78f a ha (by omega)) rfl ?_;simp -dsimp(disch:=omega) only[rules];refine gp (den78f b hb (by omega)) rfl ?_;simp -dsimp(disch:=omega) only[N_val,↓reduceIte,ru];refine Br.bneInt ?_ ?_
 ·intro h1 h2;simp -dsimp(disch:=omega) only[h2,↓reduceIte,ru];refine bd_ ?_ ?_
  ·intro h3 h4;simp -dsimp(disch:=omega) only[h4,ru];refine rpq rfl ⟨tvq,tvq⟩ ?_;simp(disch:=omega) only[St.get,fzX,oneRes,fzV,fzC,fz1,fz0,Option.map_some,qk,getD_cons_zero];rw[cmpN_lt (limbs_len_lt (by omega))]
  ·intro h3 h4;simp -dsimp(disch:=omega) only[h4,ru];refine rpq rfl ⟨tvq,tvq⟩ ?_;simp(disch:=omega) only[St.get,fzX,oneRes,fzV,fzC,fz1,fz0,Option.map_some,qk,getD_cons_zero];rw[cmpN_gt (limbs_len_lt (by omega))]
 ·intro h1 h2;simp -dsimp(disch:=omega) only[h2,↓reduceIte,ru];generalize hp:limbs (val a)=p at*;generalize hq:limbs (val b)=q at*;refine wl (α:=Nat) (fun k=>⟨.fv (.sl (u32s p)):: .fv (.sl (u32s q)):: .any:: .any:: .int .i64 0:: .int .i64 ((k:Int) - 1)::replicate 39 .any,[]⟩) (fun k=>k) (fun k=>k<=p.length/\p.drop k=q.drop k) p.length ?_ ?_ ?_
  ·refine wk [] (by simp) rfl ?_ ?_
   ·simp[leVs,leV,le1]
   ·trivial
  ·exact⟨qp _,by rw[List.drop_of_length_le (qp _),List.drop_of_length_le (by omega)]⟩
  ·rintro k ⟨hk,hkd⟩;simp -dsimp(disch:=omega) only[replicate,↓reduceIte,ru];refine bd_ ?_ ?_
   ·intro h3 h4;simp -dsimp(disch:=omega) only[h4,rules];refine dw (by kernel_rfl) ?_;simp -dsimp(disch:=omega) only[↓reduceIte,reduceLT,reduceLeDiff,ru];refine⟨by omega,by omega,?_⟩;obtain⟨j,rfl⟩: ∃ j,k=j+1:=⟨k - 1,by omega⟩;have hj:(((j+1:Nat):Int) - 1).toNat=j:=by omega
    rw[hj];have hpv:val p=val a:=by rw[<-hp,val_limbs]
    have hqv:val q=val b:=by rw[<-hq,val_limbs]
    refine bd_ ?_ ?_
    ·intro h5 h6;simp -dsimp(disch:=omega) only[h6,ru];refine rpq rfl ⟨tvq,tvq⟩ ?_;simp(disch:=omega) only[St.get,fzX,oneRes,fzV,fzC,fz1,fz0,Option.map_some,qk,getD_cons_zero];rw[<-hpv,<-hqv,cmpN_lt (digit_lt hda (by omega) (by omega) hkd (by omega))]
    ·intro h5 h6;simp -dsimp(disch:=omega) only[h6,rules];refine dw (by kernel_rfl) ?_;simp -dsimp(disch:=omega) only[hj,↓reduceIte,reduceLT,reduceLeDiff,ru];refine⟨by omega,by omega,?_⟩;refine bd_ ?_ ?_
     ·intro h7 h8;simp -dsimp(disch:=omega) only[h8,ru];refine rpq rfl ⟨tvq,tvq⟩ ?_;simp(disch:=omega) only[St.get,fzX,oneRes,fzV,fzC,fz1,fz0,Option.map_some,qk,getD_cons_zero];rw[<-hpv,<-hqv,cmpN_gt (digit_lt hdb (by omega) (by omega) hkd.symm (by omega))]
     ·intro h7 h8;simp -dsimp(disch:=omega) only[h8,↓reduceIte,ru];refine ap j (by omega) ?_ ⟨by omega,?_⟩
      ·refine wk [] (by simp) rfl ?_ ?_
       ·simp[leVs,leV,le1]
       ·trivial
      ·have hpj:p.drop j=p.getD j 0::p.drop (j+1):=by rw[qj (by omega)];simp[show j<p.length by omega]
       have hqj:q.drop j=q.getD j 0::q.drop (j+1):=by rw[qj (by omega)];simp[show j<q.length by omega]
       rw[hpj,hqj,hkd,show p.getD j 0=q.getD j 0 by omega]
   ·intro h3 h4;simp -dsimp(disch:=omega) only[h4,Nat.reduceBEq,ru];refine rpq rfl ⟨tvq,tvq⟩ ?_;simp(disch:=omega) only[St.get,fzX,oneRes,fzV,fzC,fz1,fz0,Option.map_some,qk,getD_cons_zero];have hk0:k=0:=by omega
    subst hk0;simp only[List.drop_zero] at hkd;subst hkd;have:val a=val b:=by rw[<-val_limbs (val a),hp,<-hq,val_limbs]
    rw[this,cmpN_eq]
theorem den93 (l:List Nat) (d:Nat) (hl:Dig l) (hll:l.length<100000000000) (hd:d<4294967296) (hd0:0<d):
 Den Tryz.prog 209 [] [.fv (.sl (u32s l)),.int .u32 d] [] (.tup [.fv (N (val l / d)),.int .u32 ((val l % d:Nat):Int)]):=by
 refine den_of tabOk mixed Tryz.func209 (cd:=_) rfl (by decide) rfl (n:=42) rfl rfl (m:=0) rfl ?_
 simp -dsimp(disch:=omega) only[replicate,↓reduceIte,reduceLT,ru]
 refine⟨by omega,?_⟩
 refine wl (α:=Nat×Nat×List Nat) (fun⟨k,r,out⟩=>⟨.fv (.sl (u32s l)):: .int .u32 d:: .any:: .any:: .nilsl:: .fv (.lit (.int .u32 0)):: .lsl 0 0 l.length 1:: .int .u64 r:: .int .i64 ((k:Int) - 1)::replicate 35 .any,[.row true (u32s out)]⟩)
  (fun⟨k,_,_⟩=>k) (fun⟨k,r,out⟩=>k<=l.length/\r<d/\out.length=l.length/\Dig out/\val (out.drop k)*d+r=val (l.drop k)) (l.length,0,replicate l.length 0) ?_ ?_ ?_
 ·refine wk [0] (by simp) rfl ?_ ?_
  ·simp[leVs,leV,le1]
  ·simp[leH,leO]
 ·exact⟨by omega,hd0,by simp,Dig.zeros,by simp[val]⟩
 ·rintro⟨k,r,out⟩ ⟨hk,hr,ho,hdo,hv⟩
  simp -dsimp(disch:=omega) only[replicate,↓reduceIte,ru]
  refine bd_ ?_ ?_
  ·intro h1 h2
   obtain⟨j,rfl⟩: ∃ j,k=j+1:=⟨k - 1,by omega⟩
   have hj:(((j+1:Nat):Int) - 1).toNat=j:=by omega
   have hx:=hl.getD j
   simp only[B] at hx
   have hld:=val_drop_succ (l:=l) (j:=j) (by omega)
   generalize hxd:l.getD j 0=x at*
   have hq:(r*4294967296+x) / d<4294967296:=by
    rw[Nat.div_lt_iff_lt_mul (by omega)];have:(r+1)*4294967296<=d*4294967296:=qn _ hr;rw[Nat.mul_comm 4294967296 d];omega
   have hr2:(r*4294967296+x) % d<d:=Nat.mod_lt _ (by omega)
   have hqr:=Nat.mod_add_div (r*4294967296+x) d
   have e1:((r:Int)*4294967296+x) / d=(((r*4294967296+x) / d:Nat):Int):=by
    rw[Int.natCast_ediv,Int.natCast_add,Int.natCast_mul];rfl
   have e2:((r:Int)*4294967296+x) % d=(((r*4294967296+x) % d:Nat):Int):=by
    rw[Int.natCast_emod,Int.natCast_add,Int.natCast_mul];rfl
   generalize (r*4294967296+x) / d=Q at*
   generalize (r*4294967296+x) % d=R at*
   simp -dsimp(disch:=omega) only[h2,hj,hxd,or64s,e1,e2,IntKind.bits,Int.reduceToNat,Int.reducePow,↓reduceIte,reduceLT,reduceLeDiff,ru]
   refine⟨by omega,by omega,by omega,by omega,by omega,by omega,?_⟩
   have hds:=val_drop_set (l:=out) (j:=j) (x:=Q) (by omega)
   refine ap (j,R,out.set j Q) (by dsimp only;omega) ?_ ⟨by omega,hr2,by simp[ho],hdo.set _ hq,?_⟩
   ·refine wk [0] (by simp) rfl ?_ ?_
    ·simp[leVs,leV,le1]
    ·simp[leH,leO]
   ·rw[hds,hld,<-hv]
    simp only[B]
    grind
  ·intro h1 h2
   simp -dsimp(disch:=omega) only[h2,rules,Nat.reduceBEq]
   have hk0:k=0:=by omega
   subst hk0
   simp only[List.drop_zero] at hv
   have hdm:val out=val l / d/\r=val l % d:=by
    rw[<-hv,Nat.mul_comm,Nat.mul_add_div hd0,Nat.mul_add_mod,Nat.div_eq_of_lt hr,Nat.mod_eq_of_lt hr];exact⟨rfl,rfl⟩
   refine gp (den78f out hdo (by omega)) ?_ ?_
   ·simp[fzAs,fzA,fz1,fz0,u32s_length,ho]
    rw[qdq (by simp[u32s_length,ho])]
   ·simp -dsimp(disch:=omega) only[ru]
    refine rpq rfl ⟨tvq,tvq,tvq⟩ ?_
    rw[<-hdm.1,<-hdm.2]
    simp(disch:=omega) only[St.get,fzX,oneRes,fzV,fzVs,fzC,fz1,fz0,Option.map_some,qk,getD_cons_zero]
theorem den56 (p q:List Nat) (hp:Dig p) (hq:Dig q) (hlp:p.length<100000000000) (hlq:q.length<100000000000):Den Tryz.prog 83 [] [.fv (.sl (u32s p)),.fv (.sl (u32s q))] [] (.fv (N (val p+val q))):=by
 refine den_of tabOk mixed Tryz.func83 (cd:=_) rfl (by decide) rfl (n:=50) rfl rfl (m:=0) rfl ?_;simp -dsimp(disch:=omega) only[replicate,↓reduceIte,reduceLT,ru];have hmx: ∃ M:Nat,M=max p.length q.length:=⟨_,rfl⟩;obtain⟨M,hM⟩:=hmx;have hmi:(if(q.length:Int)>(p.length:Int) then(q.length:Int) else(p.length:Int))=(M:Int):=by split<;>omega
 simp -dsimp(disch:=omega) only[hmi];have hn:((M:Int)+1).toNat=M+1:=by omega
 refine⟨by omega,?_⟩;refine wl (α:=Nat×Nat×List Nat) (fun⟨i,c,out⟩=>⟨.fv (.sl (u32s p)):: .fv (.sl (u32s q)):: .any:: .any:: .nilsl:: .lsl 0 0 (M+1) 1:: .int .u64 c:: .int .i64 i::replicate 44 .any,[.row true (u32s out)]⟩)
  (fun⟨i,_,_⟩=>M+1 - i)
  (fun⟨i,c,out⟩=>i<=M+1/\c<=1/\out.length=M+1/\Dig out/\val (out.take i)+c*B^i=val (p.take i)+val (q.take i)) (0,0,replicate (M+1) 0) ?_ ?_ ?_
 ·refine wk [0] (by simp) rfl ?_ ?_
  ·simp[leVs,leV,le1,hn]
  ·simp[leH,leO,hn]
 ·exact⟨by omega,by omega,by simp,Dig.zeros,by simp[val]⟩
 ·rintro⟨i,c,out⟩ ⟨hi,hc,ho,hd,hv2⟩;simp -dsimp(disch:=omega) only[replicate,↓reduceIte,ru];refine bd_ ?_ ?_
  ·intro h1 h2;have hdp:=hp.getD i;have hdq:=hq.getD i;have htp:=val_take_succ p i;have htq:=val_take_succ q i;have hp0:p.length<=i->p.getD i 0=0:=fun h=>by rw[qa,getElem?_eq_none h];rfl
   have hq0:q.length<=i->q.getD i 0=0:=fun h=>by rw[qa,getElem?_eq_none h];rfl
   simp only[B] at hdp hdq;generalize hP:p.getD i 0=x at*;generalize hQ:q.getD i 0=y at*;obtain⟨s,hs⟩: ∃ s,s=c+x+y:=⟨_,rfl⟩;have hst:=val_set_take (l:=out) (i:=i) (by omega) (s % 4294967296);have hcs:=carry_step (B^i) s;have hstep:val ((out.set i (s % 4294967296)).take (i+1))+s / 4294967296*B^(i+1)=val (p.take (i+1))+val (q.take (i+1)):=by
    rw[Nat.pow_succ,hst,htp,htq,Nat.add_assoc];have h7:B^i*(s % 4294967296)+s / 4294967296*(B^i*B)=B^i*s:=hcs;rw[h7,hs];grind
   have hdig:Dig (out.set i (s % 4294967296)):=hd.set i (Nat.mod_lt _ (by decide));simp -dsimp(disch:=omega) only[h2,↓reduceIte,ru];refine bd_ ?_ ?_
   ·intro h3 h4;simp -dsimp(disch:=omega) only[h4,hP,↓reduceIte,reduceLT,reduceLeDiff,ru];refine⟨by omega,?_⟩;refine bd_ ?_ ?_
    ·intro h5 h6;have hw:IntKind.u32.wrap ((c:Int)+x+y)=((s % 4294967296:Nat):Int):=by rw[wrap32];omega
     have hdv:((c:Int)+x+y) / 4294967296=((s / 4294967296:Nat):Int):=by omega
     simp -dsimp(disch:=omega) only[h6,hQ,hw,hdv,IntKind.bits,Int.reduceToNat,Int.reducePow,↓reduceIte,reduceLT,reduceLeDiff,ru];refine⟨by omega,by omega,by omega,by omega,?_⟩;refine ap (i+1,s / 4294967296,out.set i (s % 4294967296)) (by dsimp only;omega) ?_ ⟨by omega,by omega,by simp[ho],hdig,hstep⟩;refine wk [0] (by simp) rfl ?_ ?_
     ·simp[leVs,leV,le1]
     ·simp[leH,leO]
    ·intro h5 h6;have:=hq0 (by omega);have hw:IntKind.u32.wrap ((c:Int)+x)=((s % 4294967296:Nat):Int):=by rw[wrap32];omega
     have hdv:((c:Int)+x) / 4294967296=((s / 4294967296:Nat):Int):=by omega
     simp -dsimp(disch:=omega) only[h6,hw,hdv,IntKind.bits,Int.reduceToNat,Int.reducePow,↓reduceIte,reduceLT,reduceLeDiff,ru];refine⟨by omega,by omega,by omega,?_⟩;refine ap (i+1,s / 4294967296,out.set i (s % 4294967296)) (by dsimp only;omega) ?_ ⟨by omega,by omega,by simp[ho],hdig,hstep⟩;refine wk [0] (by simp) rfl ?_ ?_
     ·simp[leVs,leV,le1]
     ·simp[leH,leO]
   ·intro h3 h4;have:=hp0 (by omega);simp -dsimp(disch:=omega) only[h4,↓reduceIte,ru];refine bd_ ?_ ?_
    ·intro h5 h6;have hw:IntKind.u32.wrap ((c:Int)+y)=((s % 4294967296:Nat):Int):=by rw[wrap32];omega
     have hdv:((c:Int)+y) / 4294967296=((s / 4294967296:Nat):Int):=by omega
     simp -dsimp(disch:=omega) only[h6,hQ,hw,hdv,IntKind.bits,Int.reduceToNat,Int.reducePow,↓reduceIte,reduceLT,reduceLeDiff,ru];refine⟨by omega,by omega,by omega,by omega,?_⟩;refine ap (i+1,s / 4294967296,out.set i (s % 4294967296)) (by dsimp only;omega) ?_ ⟨by omega,by omega,by simp[ho],hdig,hstep⟩;refine wk [0] (by simp) rfl ?_ ?_
     ·simp[leVs,leV,le1]
     ·simp[leH,leO]
    ·intro h5 h6;have:=hq0 (by omega);have hw:IntKind.u32.wrap ((c:Int))=((s % 4294967296:Nat):Int):=by rw[wrap32];omega
     have hdv:((c:Int)) / 4294967296=((s / 4294967296:Nat):Int):=by omega
     simp -dsimp(disch:=omega) only[h6,hw,hdv,IntKind.bits,Int.reduceToNat,Int.reducePow,↓reduceIte,reduceLT,reduceLeDiff,ru];refine⟨by omega,by omega,by omega,?_⟩;refine ap (i+1,s / 4294967296,out.set i (s % 4294967296)) (by dsimp only;omega) ?_ ⟨by omega,by omega,by simp[ho],hdig,hstep⟩;refine wk [0] (by simp) rfl ?_ ?_
     ·simp[leVs,leV,le1]
     ·simp[leH,leO]
  ·intro h1 h2;simp -dsimp(disch:=omega) only[h2,rules,Nat.reduceBEq];have hiM:i=M+1:=by omega
   have hvf:val out=val p+val q:=by
    rw[hiM,val_take_all (by omega),val_take_all (by omega),val_take_all (by omega)] at hv2;have h5:=Nat.lt_of_lt_of_le (val_lt hp) (Nat.pow_le_pow_right (show 0<B by decide) (show p.length<=M by omega));have h6:=Nat.lt_of_lt_of_le (val_lt hq) (Nat.pow_le_pow_right (show 0<B by decide) (show q.length<=M by omega));rw[Nat.pow_succ] at hv2;rcases Nat.eq_zero_or_pos c with h | h
    ·subst h;omega
    ·exfalso;have:c=1:=by omega
     subst this;simp only[B] at*;omega
   refine gp (den78f out hd (by omega)) ?_ ?_
   ·simp[fzAs,fzA,fz1,fz0,u32s_length,ho];rw[qdq (by simp[u32s_length,ho])]
   ·simp -dsimp(disch:=omega) only[ru];refine rpq rfl ⟨tvq,tvq⟩ ?_;simp(disch:=omega) only[St.get,fzX,oneRes,fzV,fzC,fz1,fz0,Option.map_some,qk,getD_cons_zero];rw[hvf]
theorem toNat_ofIntS {x:Int} (h:0<=x/\x<18446744073709551616):(BitVec.ofInt IntKind.i64.bits x).toNat=x.toNat:=by
 show(BitVec.ofInt 64 x).toNat=x.toNat;rw[BitVec.toNat_ofInt];have:((2^64:Nat):Int)=18446744073709551616:=by decide
 rw[this];omega
theorem andS64 {x:Int} (hx:0<=x/\x<9223372036854775808):
 IntKind.i64.wrap ((BitVec.ofInt IntKind.i64.bits x&&& BitVec.ofInt IntKind.i64.bits 4294967295).toNat:Int)=x % 4294967296:=by
 rw[BitVec.toNat_and,toNat_ofIntS (by omega),toNat_ofIntS (by omega)]
 have:(4294967295:Int).toNat=2^32 - 1:=by decide
 rw[this,Nat.and_two_pow_sub_one_eq_mod,wrap64 (by omega)]
 omega
theorem den55 (n:Nat) (hn:n<9223372036854775808):Den Tryz.prog 82 [] [.int .i64 n] [] (.tup [.fv (N n),.int .i64 0]):=by
 have hv:val [n % 4294967296,n / 4294967296]=n:=by
  simp only[val,B];omega
 have hd:Dig [n % 4294967296,n / 4294967296]:=by
  intro d hd;simp at hd;rcases hd with rfl | rfl<;>(simp only[B];omega)
 have h78:=den78f [n % 4294967296,n / 4294967296] hd (by simp);rw[hv] at h78;have hneg:decide ((n:Int)<0)=false:=by simp
 refine den_of tabOk mixed Tryz.func82 (cd:=_) rfl (by decide) rfl (n:=13) rfl rfl (m:=0) rfl ?_;simp -dsimp(disch:=omega) only[replicate,hneg,andS64,IntKind.bits,Int.reduceToNat,Int.reducePow,↓reduceIte,reduceAdd,reduceMul,reduceLT,reduceLeDiff,ru];refine⟨by omega,?_⟩;refine gp h78 ?_ ?_
 ·simp[fzAs,fzA,fz1,fz0,u32s]
 ·simp -dsimp(disch:=omega) only[ru];refine rpq rfl ⟨tvq,tvq,tvq⟩ ?_;simp(disch:=omega) only[St.get,fzX,oneRes,fzV,fzVs,fzC,fz1,fz0,Option.map_some,qk,getD_cons_zero]
theorem den63lt (a b:List Nat) (ha:Dig a) (hb:Dig b) (hla:a.length<100000000000) (hlb:b.length<100000000000) (hlt:val a<val b):
 Den Tryz.prog 125 [] [.fv (.sl (u32s a)),.fv (.sl (u32s b))] [] (.tup [.fv (.sl []),.int .i64 1]):=by
 refine den_of tabOk mixed Tryz.func125 (cd:=_) rfl (by decide) rfl (n:=54) rfl rfl (m:=0) rfl ?_
 simp -dsimp(disch:=omega) only[replicate,rules]
 refine gp (den81 a b ha hb hla hlb) rfl ?_
 simp -dsimp(disch:=omega) only[cmpN_lt hlt,↓reduceIte,ru]
 refine bd_ ?_ ?_
 ·intro h1 h2
  simp -dsimp(disch:=omega) only[h2,ru]
  refine rpq rfl ⟨tvq,tvq,tvq⟩ ?_
  simp(disch:=omega) only[St.get,fzX,oneRes,fzV,fzVs,fzC,fz1,fz0,Option.map_some,qk,getD_cons_zero]
 ·intro h1 h2
  omega
theorem den63 (a b:List Nat) (ha:Dig a) (hb:Dig b) (hla:a.length<100000000000) (hlb:b.length<100000000000) (hle:val b<=val a):
 Den Tryz.prog 125 [] [.fv (.sl (u32s a)),.fv (.sl (u32s b))] [] (.tup [.fv (N (val a - val b)),.int .i64 0]):=by
 have hxa:(limbs (val a)).length<=a.length:=limbs_length_le (val_lt ha)
 have hxb:(limbs (val b)).length<=(limbs (val a)).length:=limbs_len_le hle
 have hp:=limbs_dig (val a)
 have hq:=limbs_dig (val b)
 have hpv:=val_limbs (val a)
 have hqv:=val_limbs (val b)
 have hcmp:decide (cmpN (val a) (val b)<0)=false:=by
  unfold cmpN;rw[if_neg (by omega)];split<;>simp
 refine den_of tabOk mixed Tryz.func125 (cd:=_) rfl (by decide) rfl (n:=54) rfl rfl (m:=0) rfl ?_
 simp -dsimp(disch:=omega) only[replicate,rules]
 refine gp (den81 a b ha hb hla hlb) rfl ?_
 simp -dsimp(disch:=omega) only[hcmp,↓reduceIte,ru]
 refine gp (den78 a ha (by omega)) rfl ?_
 simp -dsimp(disch:=omega) only[rules]
 refine gp (den78f b hb (by omega)) rfl ?_
 simp -dsimp(disch:=omega) only[N_val,rules]
 generalize limbs (val a)=p at*
 generalize limbs (val b)=q at*
 refine wl (α:=Nat×Nat×List Nat) (fun⟨i,c,out⟩=>⟨.fv (.sl (u32s a)):: .fv (.sl (u32s q)):: .any:: .any:: .nilsl:: .any:: .lsl 0 0 p.length 1:: .int .u64 c:: .int .i64 i::replicate 47 .any,[.row true (u32s out)]⟩)
  (fun⟨i,_,_⟩=>p.length - i)
  (fun⟨i,c,out⟩=>i<=p.length/\c<=1/\out.length=p.length/\Dig out/\(∀ j,i<=j->out.getD j 0=p.getD j 0)/\val (out.take i)+val (q.take i)=val (p.take i)+c*B^i) (0,0,p) ?_ ?_ ?_
 ·refine wk [0] (by simp) rfl ?_ ?_
  ·simp[leVs,leV,le1]
  ·simp[leH,leO]
 ·exact⟨by omega,by omega,rfl,hp,fun _ _=>rfl,by simp[val]⟩
 ·rintro⟨i,c,out⟩ ⟨hi,hc,ho,hd,hrest,hv2⟩
  simp -dsimp(disch:=omega) only[replicate,↓reduceIte,ru]
  refine bd_ ?_ ?_
  ·intro h1 h2
   have hdp:=hp.getD i
   have hdq:=hq.getD i
   have htp:=val_take_succ p i
   have htq:=val_take_succ q i
   have hO:out.getD i 0=p.getD i 0:=hrest i (qp _)
   have hq0:q.length<=i->q.getD i 0=0:=fun h=>by rw[qa,getElem?_eq_none h];rfl
   simp only[B] at hdp hdq
   generalize p.getD i 0=x at*
   generalize hQ:q.getD i 0=y at*
   have fin: ∀ dg c2:Nat,dg+y+c=x+c2*4294967296->val ((out.set i dg).take (i+1))+val (q.take (i+1))=val (p.take (i+1))+c2*B^(i+1):=by
    intro dg c2 h;rw[Nat.pow_succ,val_set_take (by omega),htp,htq];simp only[B] at*;grind
   have rest: ∀ dg:Nat,∀ j,i+1<=j->(out.set i dg).getD j 0=p.getD j 0:=by
    intro dg j hj;rw[<-hrest j (by omega)];simp only[qa];rw[getElem?_set_ne (by omega)]
   simp -dsimp(disch:=omega) only[h2,↓reduceIte,ru]
   refine bd_ ?_ ?_
   ·intro h3 h4
    simp -dsimp(disch:=omega) only[h4,hO,hQ,↓reduceIte,reduceLT,reduceLeDiff,ru]
    refine⟨by omega,by omega,by omega,?_⟩
    refine bd_ ?_ ?_
    ·intro h5 h6
     obtain⟨dg,hdg⟩: ∃ dg,dg+(c+y)=x+4294967296:=⟨x+4294967296 - ((c+y)),by omega⟩
     have hdig:Dig (out.set i dg):=hd.set i (by simp only[B];omega)
     have hstep:=fun(c2:Nat) (h:dg+y+c=x+c2*4294967296)=>fin dg c2 h
     have hrest2:=rest dg
     have hw:IntKind.u32.wrap ((x:Int)+4294967296 - ((c:Int)+y))=((dg:Nat):Int):=by rw[wrap32];omega
     simp -dsimp(disch:=omega) only[h6,hO,hw,↓reduceIte,reduceLT,reduceLeDiff,ru]
     refine⟨by omega,by omega,?_⟩
     refine ap (i+1,1,out.set i dg) (by dsimp only;omega) ?_ ⟨by omega,by omega,by simp[ho],hdig,hrest2,hstep _ (by omega)⟩
     refine wk [0] (by simp) rfl ?_ ?_
     ·simp[leVs,leV,le1]
     ·simp[leH,leO]
    ·intro h5 h6
     obtain⟨dg,hdg⟩: ∃ dg,dg+(c+y)=x:=⟨x - ((c+y)),by omega⟩
     have hdig:Dig (out.set i dg):=hd.set i (by simp only[B];omega)
     have hstep:=fun(c2:Nat) (h:dg+y+c=x+c2*4294967296)=>fin dg c2 h
     have hrest2:=rest dg
     have hw:IntKind.u32.wrap ((x:Int) - ((c:Int)+y))=((dg:Nat):Int):=by rw[wrap32];omega
     simp -dsimp(disch:=omega) only[h6,hO,hw,↓reduceIte,reduceLT,reduceLeDiff,ru]
     refine⟨by omega,by omega,?_⟩
     refine ap (i+1,0,out.set i dg) (by dsimp only;omega) ?_ ⟨by omega,by omega,by simp[ho],hdig,hrest2,hstep _ (by omega)⟩
     refine wk [0] (by simp) rfl ?_ ?_
     ·simp[leVs,leV,le1]
     ·simp[leH,leO]
   ·intro h3 h4
    have:=hq0 (by omega)
    simp -dsimp(disch:=omega) only[h4,hO,↓reduceIte,reduceLeDiff,ru]
    refine⟨by omega,by omega,?_⟩
    refine bd_ ?_ ?_
    ·intro h5 h6
     obtain⟨dg,hdg⟩: ∃ dg,dg+c=x+4294967296:=⟨x+4294967296 - (c),by omega⟩
     have hdig:Dig (out.set i dg):=hd.set i (by simp only[B];omega)
     have hstep:=fun(c2:Nat) (h:dg+y+c=x+c2*4294967296)=>fin dg c2 h
     have hrest2:=rest dg
     have hw:IntKind.u32.wrap ((x:Int)+4294967296 - ((c:Int)))=((dg:Nat):Int):=by rw[wrap32];omega
     simp -dsimp(disch:=omega) only[h6,hO,hw,↓reduceIte,reduceLT,reduceLeDiff,ru]
     refine⟨by omega,by omega,?_⟩
     refine ap (i+1,1,out.set i dg) (by dsimp only;omega) ?_ ⟨by omega,by omega,by simp[ho],hdig,hrest2,hstep _ (by omega)⟩
     refine wk [0] (by simp) rfl ?_ ?_
     ·simp[leVs,leV,le1]
     ·simp[leH,leO]
    ·intro h5 h6
     obtain⟨dg,hdg⟩: ∃ dg,dg+c=x:=⟨x - (c),by omega⟩
     have hdig:Dig (out.set i dg):=hd.set i (by simp only[B];omega)
     have hstep:=fun(c2:Nat) (h:dg+y+c=x+c2*4294967296)=>fin dg c2 h
     have hrest2:=rest dg
     have hw:IntKind.u32.wrap ((x:Int) - ((c:Int)))=((dg:Nat):Int):=by rw[wrap32];omega
     simp -dsimp(disch:=omega) only[h6,hO,hw,↓reduceIte,reduceLT,reduceLeDiff,ru]
     refine⟨by omega,by omega,?_⟩
     refine ap (i+1,0,out.set i dg) (by dsimp only;omega) ?_ ⟨by omega,by omega,by simp[ho],hdig,hrest2,hstep _ (by omega)⟩
     refine wk [0] (by simp) rfl ?_ ?_
     ·simp[leVs,leV,le1]
     ·simp[leH,leO]
  ·intro h1 h2
   simp -dsimp(disch:=omega) only[h2,rules,Nat.reduceBEq]
   have hip:i=p.length:=by omega
   have hvf:val out=val a - val b:=by
    rw[hip,val_take_all (by omega),val_take_all hxb,val_take_all (qp _),hpv,hqv] at hv2;have h5:=val_lt hd;rw[ho] at h5;have h6:c=0:=by
     rcases Nat.eq_zero_or_pos c with h | h
     ·exact h
     ·exfalso;have:c=1:=by omega
      subst this;omega
    subst h6;omega
   refine gp (den78f out hd (by omega)) ?_ ?_
   ·simp[fzAs,fzA,fz1,fz0,u32s_length,ho]
    rw[qdq (by simp[u32s_length,ho])]
   ·simp -dsimp(disch:=omega) only[ru]
    refine rpq rfl ⟨tvq,tvq,tvq⟩ ?_
    simp(disch:=omega) only[St.get,fzX,oneRes,fzV,fzVs,fzC,fz1,fz0,Option.map_some,qk,getD_cons_zero]
    rw[hvf]
theorem or64k {x y:Nat} (k:Nat) (hx:x % 2^k=0) (hy:y<2^k) (hx2:x<18446744073709551616) (hy2:y<18446744073709551616):
 IntKind.u64.wrap ((BitVec.ofInt IntKind.u64.bits (x:Int)||| BitVec.ofInt IntKind.u64.bits (y:Int)).toNat:Int)=((x+y:Nat):Int):=by
 rw[wrapT64,BitVec.toNat_or,toNat_ofInt64 (by omega),toNat_ofInt64 (by omega),Int.toNat_natCast,Int.toNat_natCast,or_add k hx hy]
theorem den94 (l:List Nat) (k:Nat) (hl:Dig l) (hll:l.length<100000000000) (hk:k<32):
 Den Tryz.prog 210 [] [.fv (.sl (u32s l)),.int .i64 k] [.row true (u32s (digs (l.length+1) (val l*2^k)))] (.lsl 0 0 (l.length+1) 1):=by
 have hp2:2^k<=2147483648:=Nat.pow_le_pow_right (by decide) (show k<=31 by omega)
 have hp0:0<2^k:=Nat.two_pow_pos k
 have hk64:(k<=64)=True:=by simp;omega
 have hwk:IntKind.u64.wrap (k:Int)=(k:Int):=wrapU64c (by omega)
 refine den_of tabOk mixed Tryz.func210 (cd:=_) rfl (by decide) rfl (n:=41) rfl rfl (m:=0) rfl ?_
 simp -dsimp(disch:=omega) only[replicate,↓reduceIte,reduceLT,ru]
 refine⟨by omega,?_⟩
 have hn:((l.length:Int)+1).toNat=l.length+1:=by omega
 refine wl (α:=Nat×Nat×List Nat) (fun⟨i,c,out⟩=>⟨.fv (.sl (u32s l)):: .int .i64 k:: .any:: .any:: .nilsl:: .lsl 0 0 (l.length+1) 1:: .int .u64 c:: .int .i64 i::replicate 35 .any,[.row true (u32s out)]⟩)
  (fun⟨i,_,_⟩=>l.length - i) (fun⟨i,c,out⟩=>i<=l.length/\c<2^k/\out.length=l.length+1/\Dig out/\val (out.take i)+c*B^i=val (l.take i)*2^k) (0,0,replicate (l.length+1) 0) ?_ ?_ ?_
 ·refine wk [0] (by simp) rfl ?_ ?_
  ·simp[leVs,leV,le1,hn]
  ·simp[leH,leO,hn]
 ·exact⟨by omega,hp0,by simp,Dig.zeros,by simp[val]⟩
 ·rintro⟨i,c,out⟩ ⟨hi,hc,ho,hdo,hv⟩
  simp -dsimp(disch:=omega) only[replicate,↓reduceIte,ru]
  refine bd_ ?_ ?_
  ·intro h1 h2
   have hx:=hl.getD i
   simp only[B] at hx
   have htk:=val_take_succ l i
   generalize hxd:l.getD i 0=x at*
   have hxv:x*2^k<9223372036854775808:=by
    have:x*2^k<=4294967295*2147483648:=Nat.mul_le_mul (by omega) hp2;omega
   have hcast:(x:Int)*2^k=((x*2^k:Nat):Int):=by rw[Int.natCast_mul,Int.natCast_pow];rfl
   have hmod:x*2^k % 2^k=0:=Nat.mul_mod_left _ _
   have hhi:(x*2^k+c) / 4294967296<2^k:=by
    rw[Nat.div_lt_iff_lt_mul (by decide)];have:(x+1)*2^k<=4294967296*2^k:=qn _ hx;rw[Nat.mul_comm 4294967296] at this;rw[Nat.add_mul] at this;omega
   generalize hvd:x*2^k=v at*
   have hor:=or64k k hmod hc (by omega) (by omega)
   obtain⟨s,hs⟩: ∃ s,s=v+c:=⟨_,rfl⟩
   rw[<-hs] at hhi hor
   have hws:IntKind.u32.wrap (s:Int)=((s % 4294967296:Nat):Int):=by rw[wrap32];rfl
   have hds:(s:Int) / 4294967296=((s / 4294967296:Nat):Int):=by rw[Int.natCast_ediv];rfl
   have hst:=val_set_take (l:=out) (i:=i) (by omega) (s % 4294967296)
   have hcs:=carry_step (B^i) s
   simp -dsimp(disch:=omega) only[h2,hk64,hwk,hcast,hxd,hor,hws,hds,IntKind.bits,Int.reduceToNat,Int.reducePow,↓reduceIte,reduceLT,reduceLeDiff,ru]
   refine⟨by omega,by omega,by omega,by omega,by omega,?_⟩
   refine ap (i+1,s / 4294967296,out.set i (s % 4294967296)) (by dsimp only;omega) ?_ ⟨by omega,hhi,by simp[ho],hdo.set _ (Nat.mod_lt _ (by decide)),?_⟩
   ·refine wk [0] (by simp) rfl ?_ ?_
    ·simp[leVs,leV,le1]
    ·simp[leH,leO]
   ·rw[Nat.pow_succ,hst,htk,Nat.add_assoc]
    have h7:B^i*(s % 4294967296)+s / 4294967296*(B^i*B)=B^i*s:=hcs
    rw[h7,hs]
    grind
  ·intro h1 h2
   have hil:i=l.length:=by omega
   have hwc:IntKind.u32.wrap (c:Int)=(c:Int):=wrap32c (by omega)
   simp -dsimp(disch:=omega) only[h2,hwc,↓reduceIte,Nat.reduceBEq,reduceLT,reduceLeDiff,ru]
   refine⟨by omega,by omega,?_⟩
   have hst:=val_set_take (l:=out) (i:=l.length) (by omega) c
   have hlo:(out.set l.length c).length=l.length+1:=by simp[ho]
   rw[val_take_all (by omega)] at hst
   rw[hil,val_take_all (qp _)] at hv
   have hvo:val (out.set l.length c)=val l*2^k:=by rw[hst,<-hv,Nat.mul_comm]
   rw[<-hvo,<-hlo,<-digs_eq (hdo.set _ (by simp only[B];omega)),hlo]
   exact RetOK.own rfl ⟨tvq,tvq⟩ rfl
theorem val_set {l:List Nat} {i:Nat} (hi:i<l.length) (x:Nat):val (l.set i x)+B^i*l.getD i 0=val l+B^i*x:=by
 have h1:=val_drop (l.set i x) (i+1) (by simp;omega);have h2:=val_drop l (i+1) (by omega);rw[val_set_take hi,List.drop_set_of_lt (by omega)] at h1;rw[val_take_succ] at h2;omega
theorem den61 (p q:List Nat) (hp:Dig p) (hq:Dig q) (hlp:p.length<10000000000) (hlq:q.length<10000000000):
 Den Tryz.prog 124 [] [.fv (.sl (u32s p)),.fv (.sl (u32s q))] [] (.fv (N (val p*val q))):=by
 refine den_of tabOk mixed Tryz.func124 (cd:=_) rfl (by decide) rfl (n:=83) rfl rfl (m:=0) rfl ?_
 simp -dsimp(disch:=omega) only[replicate,↓reduceIte,reduceLT,ru]
 refine⟨by omega,?_⟩
 have hn:((p.length:Int)+(q.length:Int)+1).toNat=p.length+q.length+1:=by omega
 obtain⟨L,hL⟩: ∃ L,L=p.length+q.length+1:=⟨_,rfl⟩
 refine wl (α:=Nat×List Nat) (fun⟨i,out⟩=>⟨.fv (.sl (u32s p)):: .fv (.sl (u32s q)):: .any:: .any:: .nilsl:: .lsl 0 0 L 1:: .int .i64 i::replicate 78 .any,[.row true (u32s out)]⟩)
  (fun⟨i,_⟩=>p.length - i)
  (fun⟨i,out⟩=>i<=p.length/\out.length=L/\Dig out/\val out=val (p.take i)*val q) (0,replicate L 0) ?_ ?_ ?_
 ·refine wk [0] (by simp) rfl ?_ ?_
  ·simp[leVs,leV,le1,hn,hL]
  ·simp[leH,leO,hn,hL]
 ·exact⟨by omega,by simp,Dig.zeros,by simp[val,val_zeros]⟩
 ·rintro⟨i,out0⟩ ⟨hi,ho0,hd0,hv0⟩
  simp -dsimp(disch:=omega) only[replicate,↓reduceIte,ru]
  refine bd_ ?_ ?_
  ·intro h1 h2
   simp -dsimp(disch:=omega) only[h2,rules]
   have hx:=hp.getD i
   have htp:=val_take_succ p i
   simp only[B] at hx
   generalize hxd:p.getD i 0=x at*
   refine wl (α:=Nat×Nat×List Nat) (fun⟨k,c,out⟩=>⟨.fv (.sl (u32s p)):: .fv (.sl (u32s q)):: .any:: .any:: .nilsl:: .lsl 0 0 L 1:: .int .i64 i:: .int .u64 c:: .int .i64 k::replicate 76 .any,[.row true (u32s out)]⟩)
    (fun⟨k,_,_⟩=>q.length - k)
    (fun⟨k,c,out⟩=>k<=q.length/\c<4294967296/\out.length=L/\Dig out/\val out+c*B^(i+k)=val out0+x*val (q.take k)*B^i) (0,0,out0) ?_ ?_ ?_
   ·refine wk [0] (by simp) rfl ?_ ?_
    ·simp[leVs,leV,le1]
    ·simp[leH,leO]
   ·exact⟨by omega,by omega,ho0,hd0,by simp[val]⟩
   ·rintro⟨k,c,out⟩ ⟨hk,hc,ho,hd,hv⟩
    simp -dsimp(disch:=omega) only[replicate,↓reduceIte,ru]
    refine bd_ ?_ ?_
    ·intro h3 h4
     simp -dsimp(disch:=omega) only[h4,rules]
     refine dw (by kernel_rfl) ?_
     have hy:=hq.getD k
     have hqk:=val_take_succ q k
     simp only[B] at hy
     have hik:((i:Int)+(k:Int)).toNat=i+k:=by omega
     have hoo:=hd.getD (i+k)
     simp only[B] at hoo
     have hst:=fun z=>val_set (l:=out) (i:=i+k) (by omega) z
     have hcs:=carry_step (B^(i+k))
     generalize hyd:q.getD k 0=y at*
     generalize hod:out.getD (i+k) 0=o at*
     have hxy:x*y<=18446744065119617025:=qnb (Nat.mul_le_mul (show x<=4294967295 by omega) (show y<=4294967295 by omega)) (by decide)
     have hcast:(x:Int)*y=((x*y:Nat):Int):=by rw[Int.natCast_mul]
     generalize hm:x*y=m at*
     obtain⟨s,hs⟩: ∃ s,s=m+o+c:=⟨_,rfl⟩
     have hsc:(m:Int)+o+c=(s:Int):=by omega
     have hws:IntKind.u32.wrap (s:Int)=((s % 4294967296:Nat):Int):=by rw[wrap32];rfl
     have hds:(s:Int) / 4294967296=((s / 4294967296:Nat):Int):=by rw[Int.natCast_ediv];rfl
     simp -dsimp(disch:=omega) only[hyd,hxd,hik,hod,hcast,hsc,hws,hds,IntKind.bits,Int.reduceToNat,Int.reducePow,↓reduceIte,reduceLT,reduceLeDiff,ru]
     refine⟨by omega,by omega,by omega,by omega,by omega,by omega,by omega,?_⟩
     have hstep:val (out.set (i+k) (s % 4294967296))+s / 4294967296*B^(i+(k+1))=val out0+x*val (q.take (k+1))*B^i:=by
      have h5:=hst (s % 4294967296);have h6:B^(i+k)*(s % 4294967296)+s / 4294967296*(B^(i+k)*B)=B^(i+k)*s:=hcs s;rw[hqk,<-Nat.add_assoc i k 1,Nat.pow_succ];have h7:B^(i+k)*s=B^(i+k)*m+B^(i+k)*o+c*B^(i+k):=by rw[hs];grind
      have h8:x*(val (q.take k)+B^k*y)*B^i=x*val (q.take k)*B^i+B^(i+k)*m:=by rw[Nat.pow_add,<-hm];grind
      rw[h8];omega
     refine ap (k+1,s / 4294967296,out.set (i+k) (s % 4294967296)) (by dsimp only;omega) ?_ ⟨by omega,by omega,by simp[ho],hd.set _ (Nat.mod_lt _ (by decide)),hstep⟩
     refine wk [0] (by simp) rfl ?_ ?_
     ·simp[leVs,leV,le1]
     ·simp[leH,leO]
    ·intro h3 h4
     simp -dsimp(disch:=omega) only[h4,↓reduceIte,Nat.reduceBEq,ru]
     have hkq:k=q.length:=by omega
     have hT:val out+c*B^(i+q.length)=val (p.take (i+1))*val q:=by
      rw[hkq,val_take_all (qp _),hv0] at hv;rw[hv,htp];grind
     have hlt:val (p.take (i+1))*val q<B^(p.length+q.length):=by
      rw[Nat.pow_add];have h5:=val_lt (hp.take (i+1));have h6:B^(p.take (i+1)).length<=B^p.length:=Nat.pow_le_pow_right (by decide) (by rw[length_take];omega);exact Nat.mul_lt_mul'' (Nat.lt_of_lt_of_le h5 h6) (val_lt hq)
     generalize hTT:val (p.take (i+1))*val q=TT at*
     refine wl (α:=Nat×Nat×List Nat) (fun⟨k,c,out⟩=>⟨.fv (.sl (u32s p)):: .fv (.sl (u32s q)):: .any:: .any:: .nilsl:: .lsl 0 0 L 1:: .int .i64 i:: .int .u64 c:: .any:: .any:: .int .i64 k::replicate 74 .any,[.row true (u32s out)]⟩)
      (fun⟨k,_,_⟩=>L - k)
      (fun⟨k,c,out⟩=>c<4294967296/\out.length=L/\Dig out/\val out+c*B^k=TT) (i+q.length,c,out) ?_ ?_ ?_
     ·refine wk [0] (by simp) rfl ?_ ?_
      ·simp[leVs,leV,le1]
      ·simp[leH,leO]
     ·exact⟨hc,ho,hd,hT⟩
     ·rintro⟨j,c1,out1⟩ ⟨hc1,ho1,hd1,hv1⟩
      have hjlt:0<c1->j<p.length+q.length:=by
       intro h;have h5:1*B^j<=c1*B^j:=qn _ h;have h6:B^j<B^(p.length+q.length):=by omega
       exact(Nat.pow_lt_pow_iff_right (by decide)).1 h6
      simp -dsimp(disch:=omega) only[replicate,↓reduceIte,ru]
      refine bd_ ?_ ?_
      ·intro h5 h6
       have hj:=hjlt (by omega)
       have hoo:=hd1.getD j
       simp only[B] at hoo
       have hst:=fun z=>val_set (l:=out1) (i:=j) (by omega) z
       have hcs:=carry_step (B^j)
       generalize hod:out1.getD j 0=o at*
       obtain⟨s,hs⟩: ∃ s,s=o+c1:=⟨_,rfl⟩
       have hsc:(o:Int)+c1=(s:Int):=by omega
       have hws:IntKind.u32.wrap (s:Int)=((s % 4294967296:Nat):Int):=by rw[wrap32];rfl
       have hds:(s:Int) / 4294967296=((s / 4294967296:Nat):Int):=by rw[Int.natCast_ediv];rfl
       simp -dsimp(disch:=omega) only[h6,hod,hsc,hws,hds,IntKind.bits,Int.reduceToNat,Int.reducePow,↓reduceIte,reduceLT,reduceLeDiff,ru]
       refine⟨by omega,by omega,by omega,by omega,by omega,?_⟩
       have hstep:val (out1.set j (s % 4294967296))+s / 4294967296*B^(j+1)=TT:=by
        have h7:=hst (s % 4294967296);have h8:B^j*(s % 4294967296)+s / 4294967296*(B^j*B)=B^j*s:=hcs s;rw[Nat.pow_succ];have h9:B^j*s=B^j*o+c1*B^j:=by rw[hs];grind
        omega
       refine ap (j+1,s / 4294967296,out1.set j (s % 4294967296)) (by dsimp only;omega) ?_ ⟨by omega,by simp[ho1],hd1.set _ (Nat.mod_lt _ (by decide)),hstep⟩
       refine wk [0] (by simp) rfl ?_ ?_
       ·simp[leVs,leV,le1]
       ·simp[leH,leO]
      ·intro h5 h6
       have hc0:c1=0:=by omega
       subst hc0
       simp -dsimp(disch:=omega) only[h6,↓reduceIte,Nat.reduceBEq,ru]
       refine ap (i+1,out1) (by dsimp only;omega) ?_ ⟨by omega,ho1,hd1,by rw[hTT];simpa using hv1⟩
       refine wk [0] (by simp) rfl ?_ ?_
       ·simp[leVs,leV,le1]
       ·simp[leH,leO]
  ·intro h1 h2
   simp -dsimp(disch:=omega) only[h2,rules,Nat.reduceBEq]
   have hip:i=p.length:=by omega
   refine gp (den78f out0 hd0 (by omega)) ?_ ?_
   ·simp[fzAs,fzA,fz1,fz0,u32s_length,ho0]
    rw[qdq (by simp[u32s_length,ho0])]
   ·simp -dsimp(disch:=omega) only[ru]
    refine rpq rfl ⟨tvq,tvq⟩ ?_
    rw[hip,val_take_all (qp _)] at hv0
    simp(disch:=omega) only[hv0,St.get,fzX,oneRes,fzV,fzC,fz1,fz0,Option.map_some,qk,getD_cons_zero]
theorem den96 (l:List Nat) (k:Nat) (hl:Dig l) (hll:l.length<100000000000) (hk:k<32):
 Den Tryz.prog 212 [] [.fv (.sl (u32s l)),.int .i64 k] [] (.fv (N (val l / 2^k))):=by
 have hk64:(k<=64)=True:=by simp;omega
 have hwk:IntKind.u64.wrap (k:Int)=(k:Int):=wrapU64c (by omega)
 refine den_of tabOk mixed Tryz.func212 (cd:=_) rfl (by decide) rfl (n:=44) rfl rfl (m:=0) rfl ?_
 simp -dsimp(disch:=omega) only[replicate,↓reduceIte,reduceLT,ru]
 refine⟨by omega,?_⟩
 refine wl (α:=Nat×List Nat) (fun⟨i,out⟩=>⟨.fv (.sl (u32s l)):: .int .i64 k:: .any:: .any:: .nilsl:: .lsl 0 0 l.length 1:: .int .i64 i::replicate 39 .any,[.row true (u32s out)]⟩)
  (fun⟨i,_⟩=>l.length - i) (fun⟨i,out⟩=>i<=l.length/\out.length=l.length/\Dig out/\out.take i=digs i (val l / 2^k)) (0,replicate l.length 0) ?_ ?_ ?_
 ·refine wk [0] (by simp) rfl ?_ ?_
  ·simp[leVs,leV,le1]
  ·simp[leH,leO]
 ·exact⟨by omega,by simp,Dig.zeros,by simp[digs]⟩
 ·rintro⟨i,out⟩ ⟨hi,ho,hdo,hv⟩
  simp -dsimp(disch:=omega) only[replicate,↓reduceIte,ru]
  refine bd_ ?_ ?_
  ·intro h1 h2
   have hx:=hl.getD i
   have hy:=hl.getD (i+1)
   have hud:(l.getD i 0+l.getD (i+1) 0*4294967296) / 2^k % 4294967296=val l / 2^k / B^i % 4294967296:=by
    rw[unshift_digit (l:=l) (i:=i) (k:=k) (by omega) (by omega),<-val_drop_div hl hi,Nat.div_div_eq_div_mul,Nat.div_div_eq_div_mul,Nat.mul_comm (2^k)]
   have hi1:((i:Int)+1).toNat=i+1:=by omega
   have hp0:0<2^k:=Nat.two_pow_pos k
   have hy0:l.length<=i+1->l.getD (i+1) 0=0:=fun h=>by rw[qa,getElem?_eq_none h];rfl
   simp only[B] at hx hy
   generalize hxd:l.getD i 0=x at*
   generalize hyd:l.getD (i+1) 0=y at*
   obtain⟨s,hs⟩: ∃ s,s=x+y*4294967296:=⟨_,rfl⟩
   rw[<-hs] at hud
   have hsc:(x:Int)+y*4294967296=(s:Int):=by omega
   have hpc:((s:Int)) / 2^k=((s / 2^k:Nat):Int):=by rw[Int.natCast_ediv,Int.natCast_pow];rfl
   have hws:IntKind.u32.wrap ((s / 2^k:Nat):Int)=((s / 2^k % 4294967296:Nat):Int):=by rw[wrap32];rfl
   have hpp:(0:Int)<=2^k:=by
    have:(2:Int)^k=((2^k:Nat):Int):=by rw[Int.natCast_pow];rfl
    omega
   generalize hdg:s / 2^k % 4294967296=dg at*
   have hdgb:dg<4294967296:=by rw[<-hdg];exact Nat.mod_lt _ (by decide)
   have hstep:(out.set i dg).take (i+1)=digs (i+1) (val l / 2^k):=by
    rw[digs_succ,<-hv,take_succ_eq_append_getElem (by simp;omega),List.take_set_of_le (qp i)];simp only[List.getElem_set_self,B] at*;rw[hud]
   simp -dsimp(disch:=omega) only[h2,hxd,↓reduceIte,reduceLT,reduceLeDiff,ru]
   refine⟨by omega,?_⟩
   refine bd_ ?_ ?_
   ·intro h3 h4
    simp -dsimp(disch:=omega) only[h4,hi1,hyd,or64t,hsc,hk64,hwk,hpc,hws,IntKind.bits,Int.reduceToNat,Int.reducePow,↓reduceIte,reduceLT,reduceLeDiff,ru]
    refine⟨by omega,by omega,by omega,by omega,by omega,?_⟩
    refine ap (i+1,out.set i dg) (by dsimp only;omega) ?_ ⟨by omega,by simp[ho],hdo.set _ hdgb,hstep⟩
    refine wk [0] (by simp) rfl ?_ ?_
    ·simp[leVs,leV,le1]
    ·simp[leH,leO]
   ·intro h3 h4
    have hy1:=hy0 (by omega)
    have hsx:(x:Int)=(s:Int):=by omega
    simp -dsimp(disch:=omega) only[h4,hsx,hk64,hwk,hpc,hws,IntKind.bits,↓reduceIte,reduceLT,reduceLeDiff,ru]
    refine⟨by omega,by omega,by omega,?_⟩
    refine ap (i+1,out.set i dg) (by dsimp only;omega) ?_ ⟨by omega,by simp[ho],hdo.set _ hdgb,hstep⟩
    refine wk [0] (by simp) rfl ?_ ?_
    ·simp[leVs,leV,le1]
    ·simp[leH,leO]
  ·intro h1 h2
   simp -dsimp(disch:=omega) only[h2,rules,Nat.reduceBEq]
   have hil:i=l.length:=by omega
   have hvo:val out=val l / 2^k:=by
    rw[hil,qdq (by omega)] at hv;rw[hv,val_digs];exact qmb (Nat.div_le_self _ _) (val_lt hl)
   refine gp (den78f out hdo (by omega)) ?_ ?_
   ·simp[fzAs,fzA,fz1,fz0,u32s_length,ho]
    rw[qdq (by simp[u32s_length,ho])]
   ·simp -dsimp(disch:=omega) only[ru]
    refine rpq rfl ⟨tvq,tvq⟩ ?_
    simp(disch:=omega) only[hvo,St.get,fzX,oneRes,fzV,fzC,fz1,fz0,Option.map_some,qk,getD_cons_zero]
end Go.Proofs.YtjjbkjgifdhlcaaGreat
