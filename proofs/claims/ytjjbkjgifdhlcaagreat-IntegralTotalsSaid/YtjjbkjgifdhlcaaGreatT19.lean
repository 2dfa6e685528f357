/- Contracts:the law IntegralAntiderivatives. -/
import Derived.Test.YtjjbkjgifdhlcaaGreatT18
import Derived.Test.YtjjbkjgifdhlcaaGreatT1
set_option linter.all false
open List (append_nil)
namespace Go.Proofs.YtjjbkjgifdhlcaaGreat
open Go.AM Go.Pl
set_option maxRecDepth 100000
set_option maxHeartbeats 4000000
theorem ake (N:List RC) (hn:N.length<=12) (h: ∀ r∈N,SmR r):Den Tryz.prog 38 [] [RL' (N.map rn),RL' (N.map rn)] [] (.bool true):=by
 have rl:=aK (N.map rn);rw[qu] at rl;obtain⟨n,b8⟩:=ax N.length;rw[b8] at rl hn;have e0:((n:Int) !=(n:Int))=false:=by simp
 refine dq Tryz.func38 41 0 ?_;refine bw (aB rl e0) ?_;refine wl (α:=Nat) (fun i=>⟨[RL' (N.map rn),RL' (N.map rn),.any,.any,.bool false,.int .i64 i]++List.replicate 37 .any,[]⟩) (fun i=>n - i) (fun i=>i<=n) 0 ?_ (dk _) ?_
 .exact bx []
 rintro i hi;refine bw rl ?_;refine bM ?_ ?_
 .intro g1 g2;obtain⟨r,hx⟩: ∃ x,N[i]?=some x:=⟨_,qb (by omega)⟩;have hr:=h r (List.mem_of_getElem? hx);have ry:(aG (N.map rn)).getD i []=[.sl (ai r.1),.sl (av (r.2.map tn))]:=by
   rw[cF (l:=N.map rn) (i:=i) (by rw[qu];omega),u6 hx];rfl
  have Zr:=afm r.1 r.1 hr.cn hr.cn (by have:=hr.len;omega) (by have:=hr.len;omega);rw[Af] at Zr;have Xt:=U4 (r.2.map tn) hr.ts.1 hr.ts.2;refine ae g2 ?_
  repeat refine ag ?_
  refine dw (by kernel_rfl) ?_;refine ae (aB ry rl) ?_
  repeat refine ag ?_
  refine gp Zr (by simp[bJ,eT,eo,dZ]) ?_;refine ae (bA @Bool.not_true ry rl) ?_
  repeat refine ag ?_
  refine gp Xt (by simp[bJ,eT,eo,dZ]) ?_;refine ae @Bool.not_true ?_;refine aA (i+1) ?_ (by omega);exact bx []
 intro g1 g2;refine ae g2 ?_;exact a_ rfl
theorem akf (xs:List Int) (a:Nat) (u v w:List Int) (hl:xs.length<=1000) (ha:a<=xs.length) (hw:W64 xs):
 Den Tryz.prog 39 [S xs a] [.ptr 0 0 0,.fv (.sl (ints u)),.fv (.sl (ints v)),.fv (.sl (ints w))] [S xs (nx xs a)] (.fv (.sl (ints ([u,v,w].getD (nN xs a 3) [])))):=by
 have hN:=l_ xs a 3 hl ha hw (by omega) (by omega)
 have aL:=et (xs:=xs) (a:=a) (n:=3) (by omega)
 have hc:=aD xs a
 obtain⟨a1,e1⟩:=ax (nx xs a)
 rw[e1] at hN ⊢
 obtain⟨k,hk⟩:=ax (nN xs a 3)
 rw[hk] at hN aL ⊢
 have hg:([[FV.sl (ints u)],[FV.sl (ints v)],[FV.sl (ints w)]]:List (List FV)).getD k []=[FV.sl (ints ([u,v,w].getD k []))]:=by
  have:k=0\/k=1\/k=2:=by omega
  rcases this with h | h | h<;>rw[h]<;>rfl
 unfold S at hN hc ⊢
 refine dq Tryz.func39 13 1 ?_
 refine aW ?_
 refine eG 0 hN hc ?_
 refine f9 hg ?_
 repeat refine ag ?_
 refine sn rfl ⟨cK,cK⟩ rfl (aD xs _) rfl rfl rfl
def SmS (xs:List Int) (H1:List Ob) (res:PV):Prop:= ∃ (L:List RR) (a':Nat),H1=[S xs a',.row true (aG L)]/\res=PV.lsl 1 0 L.length 2/\a'<=xs.length/\L.length<=2/\VB L
theorem RgS.sm {xs:List Int} {H1:List Ob} {res:PV} (h:RgS xs H1 res):SmS xs H1 res:=by
 obtain⟨L,a,h1,h2,h3,h4,h5⟩:=h;exact⟨L,a,h1,h2,h3,h4,.inl ⟨h5,h4⟩⟩
theorem afM (xs:List Int) (a:Nat) (hl:xs.length<=1000) (ha:a<=xs.length) (hw:W64 xs): ∃ H1 res,SmS xs H1 res/\Den Tryz.prog 35 [S xs a] [.ptr 0 0 0] H1 res:=by
 have hN:=l_ xs a 8 hl ha hw (by omega) (by omega);have aL:=et (xs:=xs) (a:=a) (n:=8) (by omega);have hc:=aD xs a;have sv:=cD ha;obtain⟨a1,e1⟩:=ax (nx xs a);rw[e1] at hN sv;obtain⟨k,hk⟩:=ax (nN xs a 8);rw[hk] at hN aL;have c1:=aD xs a1;have dP:lent 0 1 1=1:=rfl;unfold SmS;by_cases h0:k=0
 .have b0:((k:Int)==0)=true:=by rw[h0];rfl
  obtain⟨H1,res,hS,h89⟩:=akb xs a1 hl sv hw;obtain⟨L,a',rfl,rfl,hL⟩:=hS.sm;unfold S at hN hc c1 h89;unfold S;refine Lh Tryz.func35 16 1 ?_;refine aW ?_;refine eG 0 hN hc ?_;refine f9 b0 ?_;refine eG 0 h89 c1 ?_;refine f9 dP ?_;exact⟨[.box true [.fv (.sl (ints xs)),.int .i64 a',.int .i64 0],.row true (aG L)],.lsl 1 0 L.length 2,⟨L,a',rfl,rfl,hL⟩,RetOK.lentOwn (cd:=True/\True) rfl ⟨cK,cK⟩ rfl (aD xs a') rfl (by decide) rfl⟩
 have b0:((k:Int)==0)=false:=by rw[qx];omega
 by_cases h1:k=1
 .have b1:((k:Int)==1)=true:=by rw[h1];rfl
  obtain⟨H1,res,⟨ts,a',rfl,rfl,ha',kf,en⟩,h25⟩:=aj8 xs a1 1 2 hl sv hw (by decide) (by decide);have rl:=aw ts;obtain⟨n,hn⟩:=ax ts.length;rw[hn] at rl h25;have tk:=bB (ts:=ts) (n:=n) (by omega);unfold S at hN hc c1 h25;unfold S;refine Lh Tryz.func35 16 1 ?_;refine aW ?_;refine eG 0 hN hc ?_;refine f9 (aB b0 b1) ?_;refine eG 0 h25 c1 ?_;refine f9 (dR dP tk rl @qp) ?_;exact⟨[.box true [.fv (.sl (ints xs)),.int .i64 a',.int .i64 0],.row true (aG [([],ts)])],.lsl 1 0 1 2,⟨[([],ts)],a',rfl,rfl,ha',by simp,.inr ⟨ts,rfl,en,by omega⟩⟩,RetOK.lentOwn (cd:=True/\True) rfl ⟨cK,cK⟩ rfl (aD xs a') rfl (by decide) rfl⟩
 have b1:((k:Int)==1)=false:=by rw[qx];omega
 obtain⟨H1,res,hS,yq⟩:=akc xs a1 hl sv hw;obtain⟨L,a',rfl,rfl,hL⟩:=hS.sm;unfold S at hN hc c1 yq;unfold S;refine Lh Tryz.func35 16 1 ?_;refine aW ?_;refine eG 0 hN hc ?_;refine f9 (aB b0 b1) ?_;refine eG 0 yq c1 ?_;refine f9 dP ?_;exact⟨[.box true [.fv (.sl (ints xs)),.int .i64 a',.int .i64 0],.row true (aG L)],.lsl 1 0 L.length 2,⟨L,a',rfl,rfl,hL⟩,RetOK.lentOwn (cd:=True/\True) rfl ⟨cK,cK⟩ rfl (aD xs a') rfl (by decide) rfl⟩
theorem jq6 (l:List Int) (v:Int) (hl:l.length<9223372036854775808) (hw:W64 l) (hv: -9223372036854775808<=v/\v<9223372036854775808):Den Tryz.prog 6 [] [.fv (.sl (ints l)),.int .i64 v] [] (.bool true):=by
 have sW:=Ys l hl;have Qa:W64 (l.take 1000):=fun x hx=>hw x (xW hx)
 have I9:(l.take 1000).length<=1000:=by rw[qf];omega
 obtain⟨xs,hxs⟩:=ax (l.take 1000);rw[hxs] at sW Qa I9;obtain⟨H1,res,⟨L,a1,rfl,rfl,sv,kf,Xu⟩,wU⟩:=afM xs 0 I9 (dk _) Qa;have hc:=aD xs 0;have c1:=aD xs a1;have jh:=aj6 xs a1 v I9 sv Qa;obtain⟨⟨w,a2⟩,hp⟩: ∃ t,EJ xs a1 v=t:=⟨_,rfl⟩;rw[hp] at jh;dsimp only at jh;obtain⟨N,c,fM,Ky,hN,hS⟩:=Oy Xu w;have ua:=ake N hN hS;have Jc:=afL;have rl:=aK L;obtain⟨n,hn⟩:=ax L.length;rw[hn] at rl wU;have tk:=cO (l:=L) (n:=n) (by omega);have e1:(c==c)=true:=by simp
 have dP:lent 0 1 1=1:=rfl;unfold S at sW wU jh hc c1;refine dq Tryz.func6 39 0 ?_;refine aW ?_;refine aM sW ?_;refine ae @append_nil.{0} ?_;refine eG 0 wU hc ?_;refine f9 dP ?_;refine eG 0 jh c1 ?_;refine so ?_;refine gp fM (by simp[bJ,eT,eo,dZ,tk,rl]) ?_;refine ae @append_nil.{0} ?_;refine gp Ky (by simp[bJ,eT,eo,dZ,tk,rl]) ?_;refine ae (aB e1 @append_nil.{0}) ?_;refine aM ua ?_;refine ae @append_nil.{0} ?_;refine aM Jc ?_;refine ae @append_nil.{0} ?_;exact a_ rfl
theorem jq7 (l vs:List Int) (hl:l.length<9223372036854775808) (hw:W64 l) (hvl:vs.length<9223372036854775808) (nw:W64 vs):Den Tryz.prog 7 [] [.fv (.sl (ints l)),.fv (.sl (ints vs))] [] (.bool true):=by
 have sW:=Ys l hl;have Qa:W64 (l.take 1000):=fun x hx=>hw x (xW hx)
 have I9:(l.take 1000).length<=1000:=by rw[qf];omega
 obtain⟨xs,hxs⟩:=ax (l.take 1000);rw[hxs] at sW Qa I9;obtain⟨H1,res,⟨L,a1,rfl,rfl,sv,kf,Xu⟩,wU⟩:=afM xs 0 I9 (dk _) Qa;have hc:=aD xs 0;have c1:=aD xs a1;have h3:=l_ xs a1 3 I9 sv Qa (by decide) (by decide);have Fx:=cD sv;obtain⟨a2,e2⟩:=ax (nx xs a1);rw[e2] at h3 Fx;obtain⟨k,hk⟩:=ax (nN xs a1 3);rw[hk] at h3;have c2:=aD xs a2;have Jc:=afL;have rl:=aK L;obtain⟨n,hn⟩:=ax L.length;rw[hn] at rl wU;have tk:=cO (l:=L) (n:=n) (by omega);have dP:lent 0 1 1=1:=rfl;have dJ:=cv vs;obtain⟨q,hq⟩:=ax vs.length;rw[hq] at dJ hvl;by_cases hpk:0<k\/4<q
 .have h39:=akf xs a2 [0,1] [1,0] [0] I9 Fx Qa;have hwu: ∀ us:List Int,us=[([0,1]:List Int),[1,0],[0]].getD (nN xs a2 3) []->W64 us/\us.length<=1000:=fun us hu=>by
   have h3:=et (xs:=xs) (a:=a2) (n:=3) (by decide);have:nN xs a2 3=0\/nN xs a2 3=1\/nN xs a2 3=2:=by omega
   rcases this with h | h | h<;>rw[hu,h]<;>refine⟨?_,by decide⟩<;>intro x hx<;>simp at hx<;>omega
  obtain⟨us,gX⟩:=ax ([([0,1]:List Int),[1,0],[0]].getD (nN xs a2 3) []);obtain⟨amz,amA⟩:=hwu us gX.symm;rw[gX] at h39;obtain⟨P,c,mK,Fg,hP1,hP2⟩:=Ho Xu us amz amA;have Xt:=U4 (P.map tn) hP1 hP2;have e1:(c==c)=true:=by simp
  have su: ∀ (o p:Ob) (a b c:List (List FV)),shutBs [o,p,.row true a,.row true b,.row true c] 0 [.ptr 0 0 0,.lsl 2 0 2 1,.lsl 3 0 2 1,.lsl 4 0 1 1]=[o,p,.row false a,.row false b,.row false c]:=fun _ _ _ _ _=>rfl
  unfold S at sW wU h3 h39 hc c1 c2;have hb:(decide ((k:Int)>0)=true)\/(decide ((k:Int)>0)=false/\decide ((q:Int)>4)=true):=by
   by_cases h:0<k
   .exact .inl (f3 (by omega))
   exact .inr ⟨jI (by omega),f3 (by omega)⟩
  rcases hb with b1 | ⟨b1,b2⟩
  .refine dq Tryz.func7 49 0 ?_;refine aW ?_;refine aM sW ?_;refine ae @append_nil.{0} ?_;refine eG 0 wU hc ?_;refine f9 dP ?_;refine eG 0 h3 c1 ?_;refine f9 b1 ?_;refine eG 0 h39 c2 ?_;refine ae (aB su @append_nil.{0}) ?_;refine gp mK (by simp[bJ,eT,eo,dZ,tk,rl]) ?_;refine ae @append_nil.{0} ?_;refine gp Fg (by simp[bJ,eT,eo,dZ,tk,rl]) ?_;refine ae (aB e1 @append_nil.{0}) ?_;refine aM Xt ?_;refine ae @append_nil.{0} ?_;refine aM Jc ?_;refine ae @append_nil.{0} ?_;exact a_ rfl
  refine dq Tryz.func7 49 0 ?_;refine aW ?_;refine aM sW ?_;refine ae @append_nil.{0} ?_;refine eG 0 wU hc ?_;refine f9 dP ?_;refine eG 0 h3 c1 ?_;refine f9 (bA b1 b2 dJ) ?_;refine eG 0 h39 c2 ?_;refine ae (aB su @append_nil.{0}) ?_;refine gp mK (by simp[bJ,eT,eo,dZ,tk,rl]) ?_;refine ae @append_nil.{0} ?_;refine gp Fg (by simp[bJ,eT,eo,dZ,tk,rl]) ?_;refine ae (aB e1 @append_nil.{0}) ?_;refine aM Xt ?_;refine ae @append_nil.{0} ?_;refine aM Jc ?_;refine ae @append_nil.{0} ?_;exact a_ rfl
 have b1:decide ((k:Int)>0)=false:=oc;have b2:decide ((q:Int)>4)=false:=oc;obtain⟨P,c,mK,Fg,hP1,hP2⟩:=Ho Xu vs nw (by omega);have Xt:=U4 (P.map tn) hP1 hP2;have e1:(c==c)=true:=by simp
 unfold S at sW wU h3 hc c1;refine dq Tryz.func7 49 0 ?_;refine aW ?_;refine aM sW ?_;refine ae @append_nil.{0} ?_;refine eG 0 wU hc ?_;refine f9 dP ?_;refine eG 0 h3 c1 ?_;refine f9 (bA b1 b2 dJ) ?_;refine gp mK (by simp[bJ,eT,eo,dZ,tk,rl]) ?_;refine ae @append_nil.{0} ?_;refine gp Fg (by simp[bJ,eT,eo,dZ,tk,rl]) ?_;refine ae (aB e1 @append_nil.{0}) ?_;refine aM Xt ?_;refine ae @append_nil.{0} ?_;refine aM Jc ?_;refine ae @append_nil.{0} ?_;exact a_ rfl
end Go.Proofs.YtjjbkjgifdhlcaaGreat
