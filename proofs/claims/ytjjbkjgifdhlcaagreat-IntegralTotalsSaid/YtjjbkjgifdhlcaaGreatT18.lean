/- Contracts:the reference of layer 30:Check. -/
import Derived.Test.YtjjbkjgifdhlcaaGreatT17
import Derived.Test.YtjjbkjgifdhlcaaGreatT16
import Derived.Test.YtjjbkjgifdhlcaaGreatT8
import Derived.Test.YtjjbkjgifdhlcaaGreatT15
import Derived.Test.YtjjbkjgifdhlcaaGreatT1
set_option linter.all false
open Nat (reduceAdd reduceLT reduceLeDiff reduceMul)
open List (any_append append_assoc append_nil eq_of_mem_replicate filter_cons_of_neg getElem?_set_ne length_cons length_eq_zero_iff length_map length_nil length_set map_cons map_nil mem_filter mem_map mem_of_getElem? mem_or_eq_of_mem_set nil_append not_mem_nil replicate)
namespace Go.Proofs.YtjjbkjgifdhlcaaGreat
open Go.AM Go.Pl
set_option maxRecDepth 100000
set_option maxHeartbeats 4000000
theorem YO (l:List RR) (hn:l.length<=1000000) (hc: ∀ r∈l,r.1.length<=1000000):Den Tryz.prog 223 [] [RL' l] [] (.bool (dU l)):=by
 have rl:=aK l;obtain⟨n,b8⟩:=ax l.length;rw[b8] at rl hn;obtain⟨R,hR⟩:=ax (dU l);rw[hR];unfold dU at hR;rw[b8] at hR;refine dq Tryz.func223 23 0 ?_;refine aW ?_;refine wl (α:=Nat) (fun i=>⟨[RL' l,.any,.bool false,.int .i64 i]++replicate 20 .any,[]⟩)
  (fun i=>n+1 - i) (fun i=>i<=n/\i<=4001/\(l.take i).any eY=false) 0 ?_ ?_ ?_
 .exact bx []
 .exact⟨dk _,dk _,rfl⟩
 rintro i ⟨h1,h2,h3⟩;refine bw rl ?_;refine bM ?_ ?_
 .intro g1 g2;refine ae g2 ?_;refine bM ?_ ?_
  .intro g3 g4;have ry:=cF (l:=l) (i:=i) (by omega);have hm:=iG (l:=l) (i:=i) (by omega);have cL:=jB (l:=l) (i:=i) (by omega);obtain⟨r,hr⟩:=ax (l.getD i qB);rw[hr] at ry hm cL;have hrc:=hc r hm;have rlc:=aq r.1;unfold x9 at ry;by_cases mK:40<r.1.length
   .have e2:decide ((r.1.length:Int)>40)=true:=yP;have hb:R=true:=by
     rw[<-hR,fZ hm (show eY r=true from f3 mK),Bool.or_true]
    subst hb;refine ae (fO g4 ry rl rlc e2) ?_
    repeat refine ag ?_
    exact a_ rfl
   have e2:decide ((r.1.length:Int)>40)=false:=oc;refine ae (fO g4 ry rl rlc e2) ?_
   repeat refine ag ?_
   refine aA (i+1) ?_ ⟨by omega,by omega,by rw[cL,any_append,h3];simp[eY];omega⟩;exact bx []
  intro g3 g4;have e2:decide ((n:Int)>4000)=true:=yP;rw[f3 (show 4000<n by omega),Bool.true_or] at hR;subst hR;refine ae (bA g4 rl e2) ?_;exact a_ rfl
 intro g1 g2;have eO:l.take i=l:=dm (by omega);rw[eO] at h3;rw[h3,Bool.or_false] at hR;subst hR;have e2:decide ((n:Int)>4000)=decide (4000<n):=by
  by_cases h:4000<n
  .rw[f3 h,f3 (by omega)]
  rw[jI h,jI (by omega)]
 refine ae (bA g2 rl e2) ?_;exact a_ rfl
theorem YP (l:List RR) (hn:l.length<=1000000) (hp: ∀ r∈l,(∀ t∈r.2,t.1.length=8)/\r.2.length<=1000000000000):Den Tryz.prog 224 [] [RL' l] [] (.bool (fw l)):=by
 have rl:=aK l;obtain⟨n,b8⟩:=ax l.length;rw[b8] at rl hn;obtain⟨R,hR⟩:=ax (fw l);rw[hR];refine dq Tryz.func224 16 0 ?_;refine aW ?_;refine wl (α:=Nat) (fun i=>⟨[RL' l,.any,.bool false,.int .i64 i]++replicate 13 .any,[]⟩)
  (fun i=>n - i) (fun i=>i<=n/\(l.take i).all (fun r=>validB r.2)=true) 0 ?_ ?_ ?_
 .exact bx []
 .exact⟨dk _,rfl⟩
 rintro i ⟨h1,h3⟩;refine bw rl ?_;refine bM ?_ ?_
 .intro g1 g2;have ry:=cF (l:=l) (i:=i) (by omega);have hm:=iG (l:=l) (i:=i) (by omega);have cL:=jB (l:=l) (i:=i) (by omega);obtain⟨r,hr⟩:=ax (l.getD i qB);rw[hr] at ry hm cL;have h75:=aeL r.2 (hp r hm).1 (hp r hm).2;unfold x9 at ry;cases hv:validB r.2 with
  | false=>
   have hb:R=false:=by
    rw[<-hR];cases ha:fw l with
    | false=>rfl
    | true=>
     have:=List.all_eq_true.1 ha r hm;rw[hv] at this;cases this
   subst hb;rw[hv] at h75;refine ae (bA g2 ry rl) ?_
   repeat refine ag ?_
   refine aM h75 ?_;refine ae @Bool.not_false ?_;exact a_ rfl
  | true=>
   rw[hv] at h75;refine ae (bA g2 ry rl) ?_
   repeat refine ag ?_
   refine aM h75 ?_;refine ae @Bool.not_true ?_;refine aA (i+1) ?_ ⟨by omega,by rw[cL,qvb,h3];simp[hv]⟩;exact bx []
 intro g1 g2;have eO:l.take i=l:=dm (by omega);rw[eO] at h3;have hb:R=true:=by rw[<-hR];exact h3
 subst hb;refine ae g2 ?_;exact a_ rfl
structure aaf (l:List RR):Prop where
 len:l.length<=1000000
 cons: ∀ r∈l,r.1.length<=1000000
 poly: ∀ r∈l,(∀ t∈r.2,t.1.length=8)/\r.2.length<=1000000000000
theorem afz (a b:List RR) (ha:aaf a) (hb:aaf b):Den Tryz.prog 190 [] [RL' a,RL' b] [] (.int .i64 (i7 [a,b])):=by
 have a1:=YO a ha.len ha.cons;have a2:=YP a ha.len ha.poly;have b1:=YO b hb.len hb.cons;have b2:=YP b hb.len hb.poly;have hR:i7 [a,b]=if(dU a||dU b)=true then 9 else if(fw a&&fw b)=true then 0 else 2:=by
  unfold i7;rw[List.any_cons,List.any_cons,List.any_nil,List.all_cons,List.all_cons,List.all_nil,Bool.or_false,Bool.and_true]
 rw[hR];clear hR;obtain⟨x,hx⟩:=ax (dU a);obtain⟨y,hy⟩:=ax (dU b);obtain⟨z,hz⟩:=ax (fw a);obtain⟨w,hw⟩:=ax (fw b);rw[hx] at a1 ⊢;rw[hy] at b1 ⊢;rw[hz] at a2 ⊢;rw[hw] at b2 ⊢;cases x with
 | true=>
  refine dq Tryz.func190 17 0 ?_;refine aW ?_;refine aM a1 ?_;refine aN ?_;exact a_ rfl
 | false=>
  cases y with
  | true=>
   refine dq Tryz.func190 17 0 ?_;refine aW ?_;refine aM a1 ?_;refine aN ?_;refine aM b1 ?_;refine aN ?_;exact a_ rfl
  | false=>
   cases z with
   | false=>
    refine dq Tryz.func190 17 0 ?_;refine aW ?_;refine aM a1 ?_;refine aN ?_;refine aM b1 ?_;refine aN ?_;refine aM a2 ?_;refine ae @Bool.not_false ?_;exact a_ rfl
   | true=>
    cases w<;>
    .refine dq Tryz.func190 17 0 ?_;refine aW ?_;refine aM a1 ?_;refine aN ?_;refine aM b1 ?_;refine aN ?_;refine aM a2 ?_;refine ae @Bool.not_true ?_;refine aM b2 ?_;refine ae (aB @Bool.not_true @Bool.not_false) ?_;exact a_ rfl
theorem afA (a:List RR) (ha:aaf a):Den Tryz.prog 147 [] [RL' a] [] (.int .i64 (i7 [a])):=by
 have h:=afz a [] ha ⟨by decide,by simp,by simp⟩;have he:i7 [a,[]]=i7 [a]:=by
  have e1:dU []=false:=by decide
  have e2:fw []=true:=by decide
  unfold i7;rw[List.any_cons,List.any_cons,List.any_cons,List.any_nil,List.all_cons,List.all_cons,List.all_cons,List.all_nil,e1,e2,Bool.or_false,Bool.and_true]
 rw[he] at h;change Den Tryz.prog 190 [] [RL' a,.fv (.sl [])] [] _ at h;refine dq Tryz.func147 4 0 ?_;refine aW ?_;refine aM h ?_;refine aN ?_;exact a_ rfl
theorem Vu (z:Int):fQ (z:Rat)=z.sign:=by unfold fQ;rw[Rat.num_intCast]
theorem YQ (a b:List (List Raw)) (ha:AOk 1000000000 a) (hb:AOk 1000000000 b) (Tv:a.length<=1000) (Pp:b.length<=1000):
 Den Tryz.prog 196 [] [.fv (.sl (ai a)),.fv (.sl (ai b))] [] (.int .i64 (cj a b)):=by
 have rla:=aq a
 have rlb:=aq b
 obtain⟨n,b8⟩:=ax a.length
 obtain⟨m,ub⟩:=ax b.length
 rw[b8] at rla Tv
 rw[ub] at rlb Pp
 obtain⟨R,hR⟩:=ax (cj a b)
 rw[hR]
 have jN:=iy ((n:Int) - m) (by omega)
 have hbd:Bd 1 (((n:Int) - m:Int):Rat):=bd_int (by
  have:((n:Int) - m).natAbs<=1000:=by omega
  exact FD this (by decide))
 have P3:=mc (cn (((n:Int) - m:Int):Rat)) ((bj hbd).mono (by decide))
 rw[cu,Vu] at P3
 change Den Tryz.prog 32 [] _ [] (.agg (cn (((n:Int) - m:Int):Rat)).c) at jN
 change Den Tryz.prog 63 [] [.agg (cn (((n:Int) - m:Int):Rat)).c] [] _ at P3
 obtain⟨q,hq⟩:=ax (cn (((n:Int) - m:Int):Rat))
 rw[hq] at jN P3
 have fin: ∀ i,(i=n\/i=m)->i<=n->i<=m->cj (a.drop i) (b.drop i)=R->((n:Int) - m).sign=R:=fun i h0 h1 h2 h3=>by
  by_cases aL:m<n
  .have he:=Dh (a:=a) (b:=b) (i:=i) (by omega) (by omega);rw[h3] at he;rw[he];exact Int.sign_eq_one_of_pos (by omega)
  have he:=G2 (a:=a) (b:=b) (i:=i) (by omega) (by omega);rw[h3,ub] at he;by_cases hnm:n<m
  .rw[if_pos (by omega)] at he;rw[he];exact Int.sign_eq_neg_one_of_neg (by omega)
  rw[if_neg (by omega)] at he;rw[he,show(n:Int) - m=0 by omega];rfl
 refine dq Tryz.func196 36 0 ?_
 refine aW ?_
 refine wl (α:=Nat) (fun i=>⟨[.fv (.sl (ai a)),.fv (.sl (ai b)),.any,.any,.int .i64 0,.int .i64 i]++replicate 32 .any,[]⟩)
  (fun i=>n - i) (fun i=>i<=n/\i<=m/\cj (a.drop i) (b.drop i)=R) 0 ?_ ?_ ?_
 .exact bx []
 .exact⟨dk _,dk _,by rw[List.drop_zero,List.drop_zero];exact hR⟩
 rintro i ⟨h1,h2,h3⟩
 refine bw rla ?_
 refine bM ?_ ?_
 .intro g1 g2
  refine ae (aB g2 rlb) ?_
  refine bM ?_ ?_
  .intro g3 g4
   have mx:=bC (ls:=a) (i:=i) (by omega)
   have rx:=aV a i
   have hx:=ha _ mx
   have sw:=Dg (a:=a) (b:=b) (i:=i) (by omega) (by omega)
   have my:=bC (ls:=b) (i:=i) (by omega)
   have ry:=aV b i
   have hy:=hb _ my
   obtain⟨x,jn⟩:=ax (a.getD i [])
   rw[jn] at rx hx sw
   obtain⟨y,vM⟩:=ax (b.getD i [])
   rw[vM] at ry hy sw
   have lx:=hx.len
   have jG:=ay lx
   have fx:=aE x
   have gx:=ah x
   have ji:=aj lx
   have ly:=hy.len
   have kB:=ay ly
   have fy:=aE y
   have gy:=ah y
   have gf:=aj ly
   have hd:=YH x y hx hy
   obtain⟨c,hc⟩:=ax (bV x y)
   rw[hc] at hd sw
   rw[h3] at sw
   unfold RL at hd
   refine ae g4 ?_
   refine dw (by kernel_rfl) ?_
   refine bm (bu rx jG fx lx ry kB fy (bA ly rla rlb)) ?_
   repeat refine ag ?_
   refine gv hd ?_
   refine vG ?_
   by_cases h0:c=0
   .have e2:(c !=0)=false:=by rw[h0];rfl
    rw[if_pos h0] at sw
    refine ae e2 ?_
    refine aA (i+1) ?_ ⟨by omega,by omega,sw.symm⟩
    exact bx []
   have e2:(c !=0)=true:=by simp[h0]
   rw[if_neg h0] at sw
   refine ae e2 ?_
   subst sw
   exact a_ rfl
  intro g3 g4
  have he:=fin i (by omega) h1 h2 h3
  rw[he] at P3
  refine ae (bA g4 rla rlb) ?_
  refine aM jN ?_
  refine ae (aB @da @append_nil.{0}) ?_
  refine xL P3 ?_
  refine ae (aB @fG @append_nil.{0}) ?_
  exact a_ rfl
 intro g1 g2
 have he:=fin i (by omega) h1 h2 h3
 rw[he] at P3
 refine ae (bA g2 rla rlb) ?_
 refine aM jN ?_
 refine ae (aB @da @append_nil.{0}) ?_
 refine xL P3 ?_
 refine ae (aB @fG @append_nil.{0}) ?_
 exact a_ rfl
theorem Mx {k:Kc} {p:List Tm} (hp:p≠[]): ∀ {M:List RC} {i:Nat},i<=M.length->(∀ x∈M.take i,cj x.1 k<0)->(∀ x,M[i]?=some x-> ¬cj x.1 k<0)->
 gB M (k,p)=M.take i++(match M[i]? with
  | none=>[(k,p)]
  | some x=>(if cj x.1 k=0 then(if nf (p++x.2)=[] then [] else [(k,nf (p++x.2))]) else [(k,p),x])++M.drop (i+1))
 | [],0,_,_,_=>by simp[gB,hp]
 | x::M,0,_,_,h2=>by
  have:=h2 x rfl;unfold gB;rw[if_neg hp,if_neg this];simp only[List.take_zero,nil_append,List.getElem?_cons_zero,List.drop_succ_cons,List.drop_zero];split
  .split<;>simp
  .simp
 | x::M,i+1,h0,h1,h2=>by
  have hx:=h1 x (by simp);have ih:=Mx hp (M:=M) (i:=i) (by simp at h0;omega) (fun y hy=>h1 y (by simp[hy])) (fun y hy=>h2 y (by simpa using hy));unfold gB;rw[if_neg hp,if_pos hx,ih];simp
structure afB (M:List RC):Prop where
 key: ∀ x∈M,AOk 1000000000 x.1/\x.1.length<=1000
 pol: ∀ x∈M,Len8 x.2/\x.2.length<=1000000/\(∀ t∈x.2,∀ e∈t.1,-1000000000000<=e/\e<=1000000000000)
 len:M.length<=1000000
theorem u6 {M:List RC} {i:Nat} {x:RC} (h:M[i]?=some x):(M.map rn).getD i qB=rn x:=by
 rw[qa,List.getElem?_map,h];rfl
theorem afC (M:List RC) (cs K:Kc) (p:List Tm) (b:Bool) (hM:afB M) (aob:M.Pairwise (fun a b=>cj a.1 b.1<0)) (hp:Canon p) (hpn:p.length<=1000000)
 (hK:AOk 1000000000 K) (hKn:K.length<=1000) (abU:Den Tryz.prog 194 [] [.fv (.sl (ai cs))] [] (.fv (.sl (ai K))))
 (Zr:Den Tryz.prog 96 [] [.fv (.sl (ai K)),.fv (.sl (ai [dt ((-1:Int):Rat)]))] [] (.bool b))
 (hs:b=false->p≠[]-> ∀ x∈M,x.1=K->PB 1000000000 (p++x.2)) (KX: ∀ x∈M,cj x.1 K=0->x.1=K):
 Den Tryz.prog 150 [] [RL' (M.map rn),.agg [.fv (.sl (ai cs)),.fv (.sl (av (p.map tn)))]] [] (RL' ((if b=true then M else gB M (K,p)).map rn)):=by
 have rl:=aK (M.map rn)
 have rp:=aw (p.map tn)
 obtain⟨n,b8⟩:=ax M.length
 obtain⟨m,ub⟩:=ax p.length
 have hMn:=hM.len
 rw[length_map,b8] at rl
 rw[length_map,ub] at rp
 rw[b8] at hMn
 rw[ub] at hpn
 by_cases sB:p=[]
 .have e0:((m:Int)==0)=true:=by rw[<-ub,sB];rfl
  have au:(if b=true then M else gB M (K,p))=M:=by
   split
   .rfl
   cases M with
   | nil=>simp[gB,sB]
   | cons x l=>simp[gB,sB]
  rw[au]
  refine dq Tryz.func150 78 0 ?_
  refine aW ?_
  refine aM abU ?_
  refine ae (aB rp e0) ?_
  exact a_ rfl
 have e0:((m:Int)==0)=false:=by
  have:m≠0:=fun h=>sB (length_eq_zero_iff.1 (by omega))
  simpa using this
 cases b with
 | true=>
  rw[if_pos rfl];refine dq Tryz.func150 78 0 ?_;refine aW ?_;refine aM abU ?_;refine ae (aB rp e0) ?_;refine aM aac ?_;refine aN ?_;refine aM Zr ?_;refine aN ?_;exact a_ rfl
 | false=>
  rw[if_neg (by decide)];obtain⟨R,hR⟩:=ax (gB M (K,p));rw[hR];refine dq Tryz.func150 78 0 ?_;refine aW ?_;refine aM abU ?_;refine ae (aB rp e0) ?_;refine aM aac ?_;refine aN ?_;refine aM Zr ?_;refine aN ?_;refine WA.blockcut (fun(y:Nat×(Nat->PV))=>⟨[RL' (M.map rn),.any,.any,.ptr 0 0 0,.any,.fv (.sl (ai K)),.int .i64 y.1]++tl y.2 7 73,[.box true [.fv (.sl (ai cs)),.fv (.sl (av (p.map tn)))]]⟩)
   (fun y=>y.1<=n/\(∀ x∈M.take y.1,cj x.1 K<0)/\ ∀ x,M[y.1]?=some x-> ¬cj x.1 K<0) ?_ ?_
  refine wl (α:=Nat) (fun i=>⟨[RL' (M.map rn),.any,.any,.ptr 0 0 0,.any,.fv (.sl (ai K)),.int .i64 i]++replicate 73 .any,[.box true [.fv (.sl (ai cs)),.fv (.sl (av (p.map tn)))]]⟩)
   (fun i=>n - i) (fun i=>i<=n/\ ∀ x∈M.take i,cj x.1 K<0) 0 ?_ ?_ ?_
  .exact bx [0]
  .exact⟨dk _,by simp⟩
  .rintro i ⟨h1,h2⟩;refine bw rl ?_;refine bM ?_ ?_
   .intro g1 g2;obtain⟨x,hx⟩: ∃ x,M[i]?=some x:=⟨_,qb (by omega)⟩;have sH:x∈M:=mem_of_getElem? hx;have cL:M.take (i+1)=M.take i++[x]:=by rw[List.take_add_one,hx];rfl
    have ry:(aG (M.map rn)).getD i []=[.sl (ai x.1),.sl (av (x.2.map tn))]:=by
     rw[cF (l:=M.map rn) (i:=i) (by rw[length_map];omega),u6 hx];rfl
    have PD:=YQ x.1 K (hM.key x sH).1 hK (hM.key x sH).2 hKn;by_cases aL:cj x.1 K<0
    .have e2:decide (cj x.1 K<0)=true:=f3 aL;refine ae (bA g2 ry rl) ?_
     repeat refine ag ?_
     refine gp PD (by simp[bJ,eT,eo,dZ]) ?_;refine ae (aB e2 @append_nil.{0}) ?_;refine aA (i+1) ?_ ⟨by omega,fun y hy=>by
      rw[cL] at hy;rcases List.mem_append.1 hy with h | h
      .exact h2 y h
      rw[List.mem_singleton.1 h];exact aL⟩
     exact bx [0]
    have e2:decide (cj x.1 K<0)=false:=jI aL;refine ae (bA g2 ry rl) ?_
    repeat refine ag ?_
    refine gp PD (by simp[bJ,eT,eo,dZ]) ?_;refine ae (aB e2 @append_nil.{0}) ?_;exact Mid.ex i rfl ⟨h1,h2,fun y hy=>by rw[hx] at hy;cases hy;exact aL⟩
   intro g1 g2;refine ae g2 ?_;exact Mid.ex i rfl ⟨h1,h2,fun y hy=>by rw[List.getElem?_eq_none (by omega)] at hy;cases hy⟩
  rintro⟨i,tmp⟩ ⟨h1,h2,h3⟩;have bS:=Mx (k:=K) sB (by omega) h2 h3;have xR:List.take i (aG (M.map rn))=aG ((M.take i).map rn):=by simp[aG,List.map_take]
  have Un:List.drop i (aG (M.map rn))=aG ((M.drop i).map rn):=by simp[aG,List.map_drop]
  have lt_:(aG ((M.take i).map rn)).length=i:=by rw[aK,length_map,qf];omega
  have I7:(aG ((M.drop i).map rn)).length=n - i:=by rw[aK,length_map,qt,b8]
  have r2: ∀ (l:List RC),∀ y∈aG (l.map rn),y.length=2:=fun l y hy=>by
   simp only[aG,mem_map] at hy;obtain⟨u,_,rfl⟩:=hy;rfl
  have P':=r2 M;have r2a:=r2 (M.take i);have TR:=r2 (M.drop i);have tk_:List.take i (aG ((M.take i).map rn))=aG ((M.take i).map rn):=dm (by omega);have Ff:List.take (n - i) (aG ((M.drop i).map rn))=aG ((M.drop i).map rn):=dm (by omega);simp -dsimp(disch:=omega) only[tl,rl,xR,Nat.sub_zero,lt_,↓reduceIte,reduceAdd,reduceLT,ru];refine⟨⟨by omega,by omega,by omega,P'⟩,⟨r2a,by omega,by omega⟩,?_⟩;refine dw (by kernel_rfl) ?_;have em:decide ((m:Int)>0)=true:=f3 (by
   have:m≠0:=fun h=>sB (length_eq_zero_iff.1 (by omega))
   omega)
  have dn1:(aG ((M.drop (i+1)).map rn)).length=n - i - 1:=by rw[aK,length_map,qt,b8];omega
  have Tn:List.take (n - i - 1) (aG ((M.drop (i+1)).map rn))=aG ((M.drop (i+1)).map rn):=dm (by omega);have dl1:List.drop 1 (aG ((M.drop i).map rn))=aG ((M.drop (i+1)).map rn):=by simp[aG,List.map_drop]
  have TS:=r2 (M.drop (i+1));cases hx:M[i]? with
  | none=>
   have f0:i=n:=by
    have:=List.getElem?_eq_none_iff.1 hx;omega
   have e1:decide (((n - i:Nat):Int)>0)=false:=oc;have hdn:M.drop i=[]:=List.drop_eq_nil_of_le (by omega);rw[hx] at bS;have hRe:R=M.take i++[(K,p)]++M.drop i:=by rw[<-hR,bS,hdn,append_nil]
   have bO:aG ((M.take i).map rn)++[[.sl (ai K),.sl (av (p.map tn))]]++aG ((M.drop i).map rn)=aG (R.map rn):=by rw[hRe];simp[aG,rn,x9]
   have jg:=aK (R.map rn);have kf:i+1+(n - i)=(aG (R.map rn)).length:=by
    rw[<-bO];simp only[qe,length_cons,length_nil,lt_,I7]
   obtain⟨FN,vx⟩:=ax (aG (R.map rn));rw[vx] at bO kf;have Tr:(aG ((M.take i).map rn)++[[FV.sl (ai K),.sl (av (p.map tn))]]).length=i+1:=by rw[qe,lt_];rfl
   have tkap:List.take (i+1) (aG ((M.take i).map rn)++[[FV.sl (ai K),.sl (av (p.map tn))]])=aG ((M.take i).map rn)++[[FV.sl (ai K),.sl (av (p.map tn))]]:=dm (by omega);have tkF:List.take (i+1+(n - i)) FN=FN:=dm (by omega);refine ae (bu rl Un I7 Ff e1 rp em (fO tk_ Tr tkap bO @append_nil.{0})) ?_
   repeat refine qy (by repeat' (first | omega | exact P' | exact TR | exact TS | apply qy)) ?_
   refine a_ ?_;refine vq kf ?_;rw[<-vx]
  | some x=>
   have f0:i<n:=by
    obtain⟨h,_⟩:=List.getElem?_eq_some_iff.1 hx;omega
   have sH:x∈M:=mem_of_getElem? hx;have e1:decide (((n - i:Nat):Int)>0)=true:=yP;have hdx:M.drop i=x::M.drop (i+1):=by
    obtain⟨h,he⟩:=List.getElem?_eq_some_iff.1 hx;rw[qj h,he]
   have rx:(aG ((M.drop i).map rn)).getD 0 []=[.sl (ai x.1),.sl (av (x.2.map tn))]:=by rw[hdx];rfl
   have PD:=YQ x.1 K (hM.key x sH).1 hK (hM.key x sH).2 hKn;rw[hx] at bS;by_cases h0:cj x.1 K=0
   .have e2:(cj x.1 K==0)=true:=by simp[h0]
    have kV:=RY p x.2 hp (hM.pol x sH).1 (hs rfl sB x sH (KX x sH h0)) (hM.pol x sH).2.2 (by omega) (hM.pol x sH).2.1;have lX:gB M (K,p)=M.take i++((if nf (p++x.2)=[] then [] else [(K,nf (p++x.2))])++M.drop (i+1)):=by
     rw[bS];simp only[h0,if_true]
    have rP:=aw ((nf (p++x.2)).map tn);rw[length_map] at rP;obtain⟨P,hP⟩:=ax (nf (p++x.2));rw[hP] at kV lX rP;obtain⟨q,hq⟩:=ax P.length;rw[hq] at rP;by_cases hP0:P=[]
    .have e3:decide ((q:Int)>0)=false:=jI (by rw[<-hq,hP0];decide);rw[if_pos hP0] at lX;have hRe:R=M.take i++[]++M.drop (i+1):=by rw[<-hR,lX,append_nil,nil_append]
     have bO:aG ((M.take i).map rn)++aG ((M.drop (i+1)).map rn)=aG (R.map rn):=by rw[hRe];simp[aG]
     have jg:=aK (R.map rn);have kf:i+(n - i - 1)=(aG (R.map rn)).length:=by
      rw[<-bO];simp only[qe,lt_,dn1]
     obtain⟨FN,vx⟩:=ax (aG (R.map rn));rw[vx] at bO kf;have tkF:List.take (i+(n - i - 1)) FN=FN:=dm (by omega);refine ae (dN rl Un I7 Ff e1 rx) ?_
     repeat refine qy (by repeat' (first | omega | exact P' | exact TR | exact TS | apply qy)) ?_
     refine gp PD (by simp[bJ,eT,eo,dZ]) ?_;refine ae (aB e2 @append_nil.{0}) ?_
     repeat refine qy (by repeat' (first | omega | exact P' | exact TR | exact TS | apply qy)) ?_
     refine dw (by kernel_rfl) ?_;refine ae (aB rx I7) ?_
     repeat refine qy (by repeat' (first | omega | exact P' | exact TR | exact TS | apply qy)) ?_
     refine gp kV (by simp[bJ,eT,eo,dZ]) ?_;refine ae (bu I7 dl1 dn1 Tn rP e3 tk_ (aB bO @append_nil.{0})) ?_
     repeat refine qy (by repeat' (first | omega | exact P' | exact TR | exact TS | apply qy)) ?_
     refine a_ ?_;refine vq kf ?_;rw[<-vx]
    have e3:decide ((q:Int)>0)=true:=f3 (by
     have:q≠0:=fun h=>hP0 (length_eq_zero_iff.1 (by omega))
     omega)
    rw[if_neg hP0] at lX;have hRe:R=M.take i++[(K,P)]++M.drop (i+1):=by rw[<-hR,lX,append_assoc]
    have bO:aG ((M.take i).map rn)++[[.sl (ai K),.sl (av (P.map tn))]]++aG ((M.drop (i+1)).map rn)=aG (R.map rn):=by rw[hRe];simp[aG,rn,x9]
    have jg:=aK (R.map rn);have kf:i+1+(n - i - 1)=(aG (R.map rn)).length:=by
     rw[<-bO];simp only[qe,length_cons,length_nil,lt_,dn1]
    obtain⟨FN,vx⟩:=ax (aG (R.map rn));rw[vx] at bO kf;have Tr:(aG ((M.take i).map rn)++[[FV.sl (ai K),.sl (av (P.map tn))]]).length=i+1:=by rw[qe,lt_];rfl
    have tkap:List.take (i+1) (aG ((M.take i).map rn)++[[FV.sl (ai K),.sl (av (P.map tn))]])=aG ((M.take i).map rn)++[[FV.sl (ai K),.sl (av (P.map tn))]]:=dm (by omega);have tkF:List.take (i+1+(n - i - 1)) FN=FN:=dm (by omega);refine ae (dN rl Un I7 Ff e1 rx) ?_
    repeat refine qy (by repeat' (first | omega | exact P' | exact TR | exact TS | apply qy)) ?_
    refine gp PD (by simp[bJ,eT,eo,dZ]) ?_;refine ae (aB e2 @append_nil.{0}) ?_
    repeat refine qy (by repeat' (first | omega | exact P' | exact TR | exact TS | apply qy)) ?_
    refine dw (by kernel_rfl) ?_;refine ae (aB rx I7) ?_
    repeat refine qy (by repeat' (first | omega | exact P' | exact TR | exact TS | apply qy)) ?_
    refine gp kV (by simp[bJ,eT,eo,dZ]) ?_;refine ae (bu I7 dl1 dn1 Tn rP e3 tk_ (dR Tr tkap bO @append_nil.{0})) ?_
    repeat refine qy (by repeat' (first | omega | exact P' | exact TR | exact TS | apply qy)) ?_
    refine a_ ?_;refine vq kf ?_;rw[<-vx]
   have e2:(cj x.1 K==0)=false:=by simp[h0]
   have lX:gB M (K,p)=M.take i++([(K,p)]++M.drop i):=by
    rw[bS,hdx];simp[h0]
   have hRe:R=M.take i++[(K,p)]++M.drop i:=by rw[<-hR,lX,append_assoc]
   have bO:aG ((M.take i).map rn)++[[.sl (ai K),.sl (av (p.map tn))]]++aG ((M.drop i).map rn)=aG (R.map rn):=by rw[hRe];simp[aG,rn,x9]
   have jg:=aK (R.map rn);have kf:i+1+(n - i)=(aG (R.map rn)).length:=by
    rw[<-bO];simp only[qe,length_cons,length_nil,lt_,I7]
   obtain⟨FN,vx⟩:=ax (aG (R.map rn));rw[vx] at bO kf;have Tr:(aG ((M.take i).map rn)++[[FV.sl (ai K),.sl (av (p.map tn))]]).length=i+1:=by rw[qe,lt_];rfl
   have tkap:List.take (i+1) (aG ((M.take i).map rn)++[[FV.sl (ai K),.sl (av (p.map tn))]])=aG ((M.take i).map rn)++[[FV.sl (ai K),.sl (av (p.map tn))]]:=dm (by omega);have tkF:List.take (i+1+(n - i)) FN=FN:=dm (by omega);refine ae (dN rl Un I7 Ff e1 rx) ?_
   repeat refine qy (by repeat' (first | omega | exact P' | exact TR | exact TS | apply qy)) ?_
   refine gp PD (by simp[bJ,eT,eo,dZ]) ?_;refine ae (bu e2 I7 rp em tk_ Tr tkap (aB bO @append_nil.{0})) ?_
   repeat refine qy (by repeat' (first | omega | exact P' | exact TR | exact TS | apply qy)) ?_
   refine a_ ?_;refine vq kf ?_;rw[<-vx]
theorem Vv {cs:List (List Raw)} (h:tZ cs):Den Tryz.prog 96 [] [.fv (.sl (ai (aQ cs))),.fv (.sl (ai [dt ((-1:Int):Rat)]))] [] (.bool (!aZ cs)):=by
 obtain⟨c1,c2⟩:=Om h;have h1: ∀ l∈[dt ((-1:Int):Rat)],IsCn l/\LOk 1000 l:=fun l hl=>by
  rw[qz] at hl;subst hl;exact⟨⟨(replicate 9 (0:Rat)).set 8 ((-1:Int):Rat),by simp[dt],by simp⟩,rV.mono (by decide)⟩
 have:=afm (aQ cs) [dt ((-1:Int):Rat)] c1 h1 (by omega) (by decide);have he:xv (aQ cs) [dt ((-1:Int):Rat)]=!aZ cs:=by
  cases hi:aZ cs with
  | false=>
   have e:aQ cs=[dt ((-1:Int):Rat)]:=by unfold aQ;rw[hi];rfl
   rw[e];exact Af _
  | true=>
   show _=false;rw[qE];intro he;have hm:dt ((-1:Int):Rat)∈aQ cs:=by rw[he];simp
   obtain⟨l,hl,mL,hn⟩:=tD h.cs.len9 hi hm;refine jy (h.cs.len9 l hl) mL ?_;rw[<-hn];exact fun i hi=>by rw[zY (by omega),if_neg (by omega)]
 rw[he] at this;exact this
structure OrOk (L:List RR):Prop where
 nr:G7 L
 lim40: ∀ r∈L,r.1.length<=40
theorem OrOk.large {L:List RR} (h:OrOk L):L.any eY=false:=by
 rw[List.any_eq_false];intro x hx;have:=h.lim40 x hx;simp[eY];omega
theorem JT {L:List RR} {i:Nat}: ∃ u,(normL L).Perm (normL (L.take i)++u):=⟨normL (L.drop i),by
 unfold normL;rw[<-tY,<-List.filter_append,List.take_append_drop]⟩
theorem Ot {L:List RR} (h:OrOk L) {x:RC} (hx:x∈normL L):CnK x.1/\AOk 1000 x.1/\x.1.length<=40:=(uV h.nr h.large).1 x hx
theorem OrOk.sub {L:List RR} (h:OrOk L) {t u:List RC} (hp:(t++u).Perm (normL L)):(RcOk t)/\ ∀ x∈ir t,(AOk 1000 x.1/\x.1.length<=40/\CnK x.1)/\POk 10000000 1024 x.2/\x.2.length<=bk:=by
 have hr:RcOk t:=fun x hx=>(uV h.nr h.large).2 x (hp.mem_iff.1 (List.mem_append_left _ hx))
 refine⟨hr,fun x hx=>?_⟩;obtain⟨e1,y,hy,e2⟩:=Am hr hx;have hk:=Ot h (hp.mem_iff.1 (List.mem_append_left _ hy));rw[e2] at hk;refine⟨⟨hk.2.1,hk.2.2,hk.1⟩,?_⟩;rw[e1];exact h.nr.mer _ (t.filter (fun y=>!decide (y.1=x.1))++u) (by
  rw[<-append_assoc];exact((List.filter_append_perm (fun y:RC=>decide (y.1=x.1)) t).append_right u).trans hp)
theorem OrOk.pre {L:List RR} (h:OrOk L) {M:List RC} {i:Nat} (hM:M=ir (normL (L.take i))):afB M/\M.Pairwise (fun a b=>cj a.1 b.1<0)/\(∀ x∈M,POk 10000000 1024 x.2/\x.2.length<=bk)/\ ∀ x∈M,CnK x.1:=by
 obtain⟨u,hu⟩:=JT (L:=L) (i:=i);obtain⟨h1,h2⟩:=h.sub hu.symm;rw[<-hM] at h2;have hl:M.length<=1000000:=by
  have a:=qA (normL (L.take i)) [];have b:=hu.length_eq;have c:=h.nr.few;rw[qe] at b;unfold ir at hM;rw[<-hM,length_nil] at a;omega
 refine⟨⟨fun x hx=>⟨fun l hl=>((h2 x hx).1.1 l hl).mono (by decide),by have:=(h2 x hx).1.2.1;omega⟩,fun x hx=>⟨(h2 x hx).2.1.canon.len,by have:=(h2 x hx).2.2;unfold bk at this;omega,fun t ht e he=>by have:=(h2 x hx).2.1.exp t ht e he;omega⟩,hl⟩,?_,fun x hx=>(h2 x hx).2,fun x hx=>(h2 x hx).1.2.2⟩;rw[hM];exact(rY h1).sorted
theorem OrOk.one {L:List RR} (h:OrOk L) {r:RR} (hm:r∈L) (hk:i9 r=true):POk 10000000 1024 (nfR r.2):=by
 have aY:(aQ r.1,nfR r.2)∈normL L:=mem_map.2 ⟨r,mem_filter.2 ⟨hm,hk⟩,rfl⟩;obtain⟨a,b,vL⟩:=List.append_of_mem aY;have:=(h.nr.mer [(aQ r.1,nfR r.2)] (a++b) (by rw[vL];exact(List.perm_middle (l₁:=a)).symm)).1;rw[lK ((uV h.nr h.large).2 _ aY).2] at this;exact this
theorem afD (L:List RR) (h:OrOk L):Den Tryz.prog 95 [] [RL' L] [] (RL' ((ir (normL L)).map rn)):=by
 have rl:=aK L;obtain⟨n,b8⟩:=ax L.length;have hnL:=h.nr.len;rw[b8] at rl hnL;obtain⟨R,hR⟩:=ax (ir (normL L));rw[hR];refine dq Tryz.func95 25 0 ?_;refine aW ?_;refine wl (α:=Nat×List RC) (fun⟨i,M⟩=>⟨[RL' L,.any,.any,RL' (M.map rn),.int .i64 i]++replicate 21 .any,[]⟩)
  (fun⟨i,_⟩=>n - i) (fun⟨i,M⟩=>i<=n/\M=ir (normL (L.take i))) (0,[]) ?_ ?_ ?_
 .refine eH [] ?_ ?_
  .simp[bh,dF,cw];trivial
  simp[d_]
 .exact⟨dk _,rfl⟩
 rintro⟨i,M⟩ ⟨h1,hMe⟩;refine bw rl ?_;refine bM ?_ ?_
 .intro g1 g2;have ry:=cF (l:=L) (i:=i) (by omega);have hm:=iG (l:=L) (i:=i) (by omega);have cL:=jB (l:=L) (i:=i) (by omega);obtain⟨r,hr⟩:=ax (L.getD i qB);rw[hr] at ry hm cL;have pQ:=h.nr.pg r hm;have fL:=h.nr.cs r hm (h.lim40 r hm);have pn:=U3 r.2 pQ.ok pQ.pb (by have:=pQ.len;omega);obtain⟨c1,c2⟩:=Om fL;have al7:Den Tryz.prog 150 [] [RL' (M.map rn),.agg [.fv (.sl (ai r.1)),.fv (.sl (av ((nfR r.2).map tn)))]] [] (RL' ((ir (normL (L.take (i+1)))).map rn)):=by
   obtain⟨m1,m2,m3,m4⟩:=h.pre hMe;have Im:i9 r=true-> ∀ t∈nfR r.2,Bd 10000000 t.2:=fun hk=>by
    have:=h.one hm hk;exact this.bd
   have:=afC M r.1 (aQ r.1) (nfR r.2) (!aZ r.1) m1 m2 (dc (p_ pQ.ok.l8)) (by have:=pQ.srt;unfold bk at this;omega) (fun l hl=>(c1 l hl).2.mono (by decide)) (by omega) (ajR r.1 fL) (Vv fL)
    (fun hb hpn x hx _=>PB.terms (n:=24) (j:=10000000) (by decide) (fun t ht=>by
     rcases List.mem_append.1 ht with h1 | h1
     .exact Im (by unfold i9;cases hi:aZ r.1<;>simp_all) t h1
     .exact(m3 x hx).1.bd t h1) (by
     have h1:=pQ.srt;have h2:=(m3 x hx).2;unfold bk at h1 h2;rw[qe];omega) (by decide)) (fun x hx h0=>mz (m4 x hx) (fun f hf=>(c1 f hf).1) h0)
   have he:(if(!aZ r.1)=true then M else gB M (aQ r.1,nfR r.2))=ir (normL (L.take (i+1))):=by
    rw[cL,Ai];unfold i9;cases hi:aZ r.1 with
    | false=>simp[hMe]
    | true=>
     by_cases sB:nfR r.2=[]
     .rw[sB];simp only[Bool.not_true,Bool.false_eq_true,if_false,List.isEmpty_nil,Bool.and_false,append_nil,<-hMe];cases M<;>simp[gB]
     have h1:(nfR r.2).isEmpty=false:=by rw[List.isEmpty_eq_false_iff];exact sB
     rw[h1];simp only[Bool.not_true,Bool.not_false,Bool.false_eq_true,if_false,Bool.and_true,if_true,Oc,<-hMe]
   rw[he] at this;exact this
  change Den Tryz.prog 44 [] [PL r.2] [] (PL ((nfR r.2).map tn)) at pn;unfold x9 at ry;refine ae g2 ?_;refine dw (by kernel_rfl) ?_;refine ae (aB ry rl) ?_
  repeat refine ag ?_
  refine gp pn (by simp[bJ,eT,eo,dZ]) ?_;refine aN ?_;refine gp al7 (by simp[bJ,eT,l6,eo,dZ]) ?_;refine aN ?_;refine aA (i+1,ir (normL (L.take (i+1)))) ?_ ⟨by omega,rfl⟩;exact bx []
 intro g1 g2;have eO:L.take i=L:=dm (by omega);rw[eO,hR] at hMe;subst hMe;refine ae g2 ?_;exact a_ rfl
theorem afE (M:List RC) (hn:M.length<=4000) (h: ∀ x∈M,POk 10000000 1024 x.2/\x.2.length<=1000000/\x.1.length<=40):Den Tryz.prog 94 [] [RL' (M.map rn)] [] (.tup [RL' (M.map rn),.int .i64 0]):=by
 have rl:=aK (M.map rn);obtain⟨n,b8⟩:=ax M.length;rw[length_map,b8] at rl;rw[b8] at hn;have e0:decide ((n:Int)>4000)=false:=oc;refine dq Tryz.func94 36 0 ?_;refine bw (aB rl e0) ?_;refine wl (α:=Nat) (fun i=>⟨[RL' (M.map rn),.any,.any,.any,.int .i64 i]++replicate 32 .any,[]⟩)
  (fun i=>n - i) (fun i=>i<=n) 0 ?_ (dk _) ?_
 .exact bx []
 rintro i h1;refine bw rl ?_;refine bM ?_ ?_
 .intro g1 g2;obtain⟨x,hx⟩: ∃ x,M[i]?=some x:=⟨_,qb (by omega)⟩;have sH:x∈M:=mem_of_getElem? hx;have ry:(aG (M.map rn)).getD i []=[.sl (ai x.1),.sl (av (x.2.map tn))]:=by
   rw[cF (l:=M.map rn) (i:=i) (by rw[length_map];omega),u6 hx];rfl
  obtain⟨hp,hl,hk⟩:=h x sH;have h76:=aeM (x.2.map tn) (fun t ht=>by
   obtain⟨u,hu,rfl⟩:=mem_map.1 ht;exact hp.canon.len u hu) (by rw[length_map];omega) hp.validB
  have rk:=aq x.1;obtain⟨k,I_⟩:=ax x.1.length;rw[I_] at rk hk;have e1:((0:Int) !=0)=false:=rfl;have e4:decide ((k:Int)>40)=false:=oc;refine ae (bA g2 ry rl) ?_
  repeat refine ag ?_
  refine gp h76 (by simp[bJ,eT,eo,dZ]) ?_;refine ae (fO ry rl rk e4 e1) ?_
  repeat refine ag ?_
  refine aA (i+1) ?_ (by omega);exact bx []
 intro g1 g2;refine ae g2 ?_;exact a_ rfl
theorem Vw (L:List RR) (aF:L.length<=1000000) (hp: ∀ r∈L,Et r.2) (hc: ∀ r∈L,r.1.length<=1000000) (h:i7 [L]=0->G7 L):
 Den Tryz.prog 92 [] [RL' L] [] (Ev L):=by
 have Xn:=afA L ⟨aF,hc,fun r hr=>⟨(hp r hr).ok.l8,by have:=(hp r hr).len;omega⟩⟩
 unfold Ev
 by_cases h0:i7 [L]=0
 .rw[if_pos h0]
  have hO:OrOk L:=⟨h h0,fun r hr=>by
   have h1:=(Mp h0).1;cases hc':eY r with
   | false=>simpa [eY] using hc'
   | true=>rw[fZ hr hc'] at h1;cases h1⟩
  have h95:=afD L hO
  have ub:=hO.sub (t:=normL L) (u:=[]) (by rw[append_nil])
  have hlm:(ir (normL L)).length<=4000:=by
   have a:=qA (normL L) [];have c:=hO.nr.few;unfold ir;rw[length_nil] at a;omega
  have h94:=afE (ir (normL L)) hlm (fun x hx=>⟨(ub.2 x hx).2.1,by have:=(ub.2 x hx).2.2;unfold bk at this;omega,(ub.2 x hx).1.2.1⟩)
  rw[h0] at Xn
  have e1:((0:Int) !=0)=false:=rfl
  refine dq Tryz.func92 14 0 ?_
  refine aW ?_
  refine aM Xn ?_
  refine ae e1 ?_
  refine aM h95 ?_
  refine aN ?_
  refine aM h94 ?_
  refine aN ?_
  exact a_ rfl
 rw[if_neg h0]
 obtain⟨c,hc⟩:=ax (i7 [L])
 rw[hc] at Xn h0 ⊢
 have e1:(c !=0)=true:=by simp[h0]
 refine dq Tryz.func92 14 0 ?_
 refine aW ?_
 refine aM Xn ?_
 refine ae e1 ?_
 exact a_ rfl
def elimR (M:List RC) (v:Nat):List RC:=M.flatMap (fun r=>u5 r.1 r.2 v)
theorem R0 {v:Nat} {r:RC}:(decide (0<(bT r.1 v).length)&&decide (0<(ba r.1 v).length))=!missB v r:=by
 unfold missB;cases h1:bT r.1 v<;>cases h2:ba r.1 v<;>simp
theorem aj4 (L:List RR) (M N:List RC) (v:Nat) (hv:v<8) (lV:Den Tryz.prog 92 [] [RL' L] [] (.tup [RL' (M.map rn),.int .i64 0])) (hM:M.length<=100000) (hs: ∀ r∈M,Ds r.1 r.2 v)
 (aF:(elimR M v).length<=4000) (vr:M.any (missB v)=false-> ∀ x∈elimR M v,POk 10000000 1024 x.2/\x.2.length<=1000000/\x.1.length<=40)
 (h95:M.any (missB v)=false->Den Tryz.prog 95 [] [RL' ((elimR M v).map rn)] [] (RL' (N.map rn))) (h94:M.any (missB v)=false->Den Tryz.prog 94 [] [RL' (N.map rn)] [] (.tup [RL' (N.map rn),.int .i64 0])):
 Den Tryz.prog 37 [] [RL' L,.int .i64 v] [] (if M.any (missB v)=true then ko 15 else .tup [RL' (N.map rn),.int .i64 0]):=by
 obtain⟨R,hR⟩:=ax ((if M.any (missB v)=true then ko 15 else .tup [RL' (N.map rn),.int .i64 0]))
 rw[hR]
 have rl:=aK (M.map rn)
 rw[length_map] at rl
 obtain⟨n,b8⟩:=ax M.length
 rw[b8] at rl hM
 have e0:((0:Int) !=0)=false:=rfl
 have e1:decide ((v:Int)<0)=false:=oc
 have e2:decide ((v:Int)>=8)=false:=oc
 refine dq Tryz.func37 78 0 ?_
 refine aW ?_
 refine aM lV ?_
 refine ae (bA e0 e1 e2) ?_
 refine wl (α:=Nat×List RC) (fun⟨i,out⟩=>⟨[.any,.int .i64 v,.any,.any,.nilsl,.int .i64 0,RL' (M.map rn),.any,.lsl 0 0 out.length 2,.int .i64 i]++replicate 70 .any,[.row true (aG (out.map rn))]⟩)
  (fun⟨i,_⟩=>n - i) (fun⟨i,out⟩=>i<=n/\out=elimR (M.take i) v/\(M.take i).any (missB v)=false) (0,[]) ?_ ?_ ?_
 .refine Weak.nil 8 2 (by decide) rfl ?_
  refine eH [0] ?_ ?_
  .simp[bh,dF,cw]
  simp[d_,fD]
  simp[aG]
 .exact⟨dk _,rfl,rfl⟩
 rintro⟨i,out⟩ ⟨h1,h2,h3⟩
 have pR:out.length<=4000:=by
  refine gD ?_ aF;rw[h2];unfold elimR
  conv=>rhs;rw[<-List.take_append_drop i M,qyb,qe]
  omega
 obtain⟨K,hK⟩:=ax out.length
 have rlo:=aK (out.map rn)
 rw[length_map,hK] at rlo
 dsimp only
 rw[hK] at pR ⊢
 refine bw rl ?_
 refine bM ?_ ?_
 .intro g1 g2
  obtain⟨⟨c,p⟩,hx⟩: ∃ x,M[i]?=some x:=⟨_,qb (by omega)⟩
  have sH:(c,p)∈M:=mem_of_getElem? hx
  have ry:(aG (M.map rn)).getD i []=[.sl (ai c),.sl (av (p.map tn))]:=by
   rw[cF (l:=M.map rn) (i:=i) (by rw[length_map];omega),u6 hx];rfl
  have Ug:=aj3 c p v (hs _ sH)
  rw[show(decide (0<(bT c v).length)&&decide (0<(ba c v).length))=!missB v (c,p) from R0 (v:=v) (r:=(c,p))] at Ug
  change Den Tryz.prog 93 [] [.agg [.fv (.sl (ai c)),.fv (.sl (av (p.map tn)))],.int .i64 v] [] _ at Ug
  have cL:M.take (i+1)=M.take i++[(c,p)]:=by
   rw[List.take_add_one,hx];rfl
  by_cases BO:missB v (c,p)=true
  .rw[BO] at Ug
   rw[if_pos (fZ sH BO)] at hR
   subst hR
   refine ae (bA g2 ry rl) ?_
   repeat refine ag ?_
   refine aM Ug ?_
   refine ae (bA @Bool.not_true @Bool.not_false @append_nil.{0}) ?_
   exact a_ rfl
  rw[show missB v (c,p)=false by simpa using BO] at Ug
  have kd:elimR (M.take (i+1)) v=out++u5 c p v:=by
   rw[cL,h2];unfold elimR;rw[qyb,List.flatMap_singleton]
  have kU:(u5 c p v).length<=4000:=by
   refine gD ?_ aF;unfold elimR;rw[List.flatMap_def];exact(List.sublist_flatten_of_mem (List.mem_map_of_mem (f:=fun r:RC=>u5 r.1 r.2 v) sH)).length_le
  obtain⟨q,hq⟩:=ax (u5 c p v)
  rw[hq] at Ug kd kU
  have rlq:=aK (q.map rn)
  rw[length_map] at rlq
  have bO:aG (out.map rn)++aG (q.map rn)=aG ((out++q).map rn):=by
   unfold aG;rw[tY,tY]
  have tk:=cO (l:=out.map rn) (n:=K) (by rw[length_map];omega)
  have TN: ∀ y,y∈aG (q.map rn)->y.length=2:=fun y hy=>by
   unfold aG at hy;obtain⟨x,_,rfl⟩:=mem_map.1 hy;rfl
  have h2t:(∀ y,y∈aG (q.map rn)->y.length=2)=True:=eq_true TN
  refine ae (bA g2 ry rl) ?_
  repeat refine ag ?_
  refine aM Ug ?_
  refine ae (eU @Bool.not_true @Bool.not_false tk bO rlo rlq h2t) ?_
  repeat refine ag ?_
  refine aA (i+1,out++q) ?_ ⟨by omega,kd.symm,by rw[cL,any_append,h3];simpa using BO⟩
  exact bx [1]
 intro g1 g2
 have f0:i=n:=by omega
 have eO:M.take i=M:=dm (by omega)
 rw[eO] at h2 h3
 have ahy:=h95 h3
 have WJ:=h94 h3
 have hva:=vr h3
 rw[<-h2] at ahy hva
 rw[if_neg (by rw[h3];decide)] at hR
 subst hR
 have tk:=cO (l:=out.map rn) (n:=K) (by rw[length_map];omega)
 refine ae g2 ?_
 refine wl (α:=Nat) (fun k=>⟨[.any,.any,.any,.any,.nilsl,.int .i64 0,.any,.any,RL' (out.map rn),.any,.any,.any,.int .i64 k]++replicate 67 .any,[]⟩) (fun k=>K - k) (fun k=>k<=K) 0 ?_ (dk _) ?_
 .refine Weak.shut [0] ?_
  change Weak _ ⟨_,[Ob.row false (aG (out.map rn))]⟩ _
  refine Weak.fz 8 0 0 K 2 (aG (out.map rn)) rfl rfl (by omega) ?_
  refine eH [] ?_ ?_
  .simp[bh,dF,cw,tk]
  simp[d_]
 rintro k hk
 refine bw rlo ?_
 refine bM ?_ ?_
 .intro f1 f2
  obtain⟨x,hx⟩: ∃ x,out[k]?=some x:=⟨_,qb (by omega)⟩
  have sH:x∈out:=mem_of_getElem? hx
  have ry:(aG (out.map rn)).getD k []=[.sl (ai x.1),.sl (av (x.2.map tn))]:=by
   rw[cF (l:=out.map rn) (i:=k) (by rw[length_map];omega),u6 hx];rfl
  obtain⟨hp,hl,ama⟩:=hva x sH
  have h76:=aeM (x.2.map tn) (fun t ht=>by
   obtain⟨u,hu,rfl⟩:=mem_map.1 ht;exact hp.canon.len u hu) (by rw[length_map];omega) hp.validB
  have rk:=aq x.1
  obtain⟨m,hm⟩:=ax x.1.length
  rw[hm] at rk ama
  have e4:decide ((m:Int)>40)=false:=oc
  refine ae (bA f2 ry rlo) ?_
  repeat refine ag ?_
  refine gp h76 (by simp[bJ,eT,eo,dZ]) ?_
  refine ae (fO ry rlo rk e4 e0) ?_
  repeat refine ag ?_
  refine aA (k+1) ?_ (by omega)
  exact bx []
 intro f1 f2
 refine ae f2 ?_
 refine aM ahy ?_
 refine aN ?_
 refine aM WJ ?_
 refine aN ?_
 exact a_ rfl
theorem afF (L:List RR) (v c:Int) (hc:c≠0) (lV:Den Tryz.prog 92 [] [RL' L] [] (ko c)):
 Den Tryz.prog 37 [] [RL' L,.int .i64 v] [] (ko c):=by
 have e0:(c !=0)=true:=by simpa using hc
 unfold ko at lV ⊢
 refine dq Tryz.func37 78 0 ?_
 refine aW ?_
 refine aM lV ?_
 refine ae e0 ?_
 exact a_ rfl
theorem afG (L:List RR) (M:List RC) (v:Int) (hv:v<0\/8<=v) (lV:Den Tryz.prog 92 [] [RL' L] [] (.tup [RL' (M.map rn),.int .i64 0])):
 Den Tryz.prog 37 [] [RL' L,.int .i64 v] [] (ko 1):=by
 have e0:((0:Int) !=0)=false:=rfl
 unfold ko
 by_cases h1:v<0
 .have e1:decide (v<0)=true:=f3 h1
  refine dq Tryz.func37 78 0 ?_
  refine aW ?_
  refine aM lV ?_
  refine ae (aB e0 e1) ?_
  exact a_ rfl
 have e1:decide (v<0)=false:=jI h1
 have e2:decide (v>=8)=true:=yP
 refine dq Tryz.func37 78 0 ?_
 refine aW ?_
 refine aM lV ?_
 refine ae (bA e0 e1 e2) ?_
 exact a_ rfl
theorem Vx {v w Nv Nw kp j F:Nat} {p:List Tm} {lo hi:List Raw} (hv:v<8) (hw:w<8) (nw:v≠w) (hp:Canon p) (hd:Duo v w Nv Nw p) (hb:PB kp p) (kU:p.length<=12) (hF:0<F) (hFB:F<B)
 (Ta: ∀ d,1<=d->d<=Nv+1->d∣F) (ej:RO w j lo) (eC:RO w j hi) (hj:1<=j) (wZ:j<=1000) (hN:Nw+Nv<=8) (ke:1<=kp) (jF:kp<=400000)
 (K:Nat) (hK:(Nv+2)*(9*(j+1)+1+(kp+1)+1)+1=K) (hK2:K+9*(j+1)+1<=900000):
 Den Tryz.prog 88 [] [PL (p.map tn),.int .i64 v,RL lo,RL hi] [] (PL ((betT v lo hi p).map tn)):=by
 have PY: ∀ t∈p,0<=t.1.getD v 0:=fun t ht=>(hd t ht).2.2.1.1
 have wW:=oI (v:=v) hv hp PY
 have TP:Duo v w ((Nv+1:Nat):Int) Nw (bg v p):=by
  have:=hd.prim hv nw;rw[show((Nv:Int)+1)=((Nv+1:Nat):Int) by omega] at this;exact this
 have TQ:=hb.prim (v:=v) hF hFB (fun t ht=>⟨PY t ht,Ta _ (by have:=PY t ht;omega) (by have:=(hd t ht).2.2.1;omega)⟩)
 have uhi:=sb hw eC
 have ulo:=sb hw ej
 have bhi:=j6 eC.ok hj
 have blo:=j6 ej.ok hj
 have eK:(Nv+1+1)*(9*(j+1)+1+(kp+1)+1)+1=K:=hK
 have s1:=EB (Nv:=Nv+1) (Nw:=Nw) hv hw nw wW TP TQ (j9 hi) uhi bhi (by omega) (by omega) (by rw[eK];omega)
 have s2:=EB (Nv:=Nv+1) (Nw:=Nw) hv hw nw wW TP TQ (j9 lo) ulo blo (by omega) (by omega) (by rw[eK];omega)
 have Xk:=yJ hd (K:=1024) (by omega) (by omega) (by omega)
 exact aj2 p v hv lo hi ⟨hp,fun t ht=>(hb.bd ke t ht).mono (by omega),Xk⟩ kU (ej.ok.mono wZ) (eC.ok.mono wZ) s1.1 s2.1
theorem Vy {rest lo hi:List (List Raw)} {p:List Tm} {v:Nat} {x:RC} (h:x∈BZ rest lo hi p v lo.length):
 ∃ i j,i<lo.length/\j<hi.length/\x=(u3 rest lo hi i j,betT v (lo.getD i []) (hi.getD j []) p):=by
 unfold BZ at h
 obtain⟨i,nj,h⟩:=List.mem_flatMap.1 h
 unfold x_ at h
 obtain⟨j,M4,h⟩:=mem_map.1 h
 exact⟨i,j,List.mem_range.1 nj,List.mem_range.1 M4,h.symm⟩
theorem Ay (rest lo hi:List (List Raw)) (i j:Nat):(u3 rest lo hi i j).Perm (j7 rest lo hi i j):=by
 have e1:oS 1 (lo.getD i [])=bG (lo.getD i []):=by funext b;unfold oS;rw[if_pos rfl]
 have e2:oS (-1) (hi.getD j [])=fun o=>bG o (hi.getD j []):=by funext b;unfold oS;rw[if_neg (by decide)]
 unfold u3 j7;rw[e1,e2];simp only[append_assoc];refine List.Perm.append_left _ ?_;rw[<-append_assoc];exact List.perm_append_comm
theorem qJ {cs:List (List Raw)} (h:tZ cs) (hi:aQ cs=cs): ∀ l∈cs,IsCn l:=fun l hl=>by
 rw[<-hi] at hl;exact((Om h).1 l hl).1
theorem Hj {v w Nv Nw j kp n c K F:Nat} {r:RC} (s:g_ v w Nv Nw j kp n c) (nw:v≠w) (t:Vn Nv Nw j kp n K F) (h:RgV v w Nv Nw j kp n r) (w3:r.2.length<=12):
 Ds r.1 r.2 v/\ ∀ x∈u5 r.1 r.2 v,(∀ l∈x.1,LOk (4*j+4) l)/\Two w w x.1/\x.1.length<=n/\Canon x.2/\Uni w ((Nw+Nv+2:Nat):Int) x.2/\PB (2*K+2) x.2:=by
 have wZ:=t.j2
 have M4:=s.j1
 obtain⟨hl,hh⟩:=Mr s.hv h.q.ok s.j1 h.q.two
 have vy: ∀ l∈bT r.1 v,∀ u∈ba r.1 v,_:=fun l Ja u Bz=>
  RP (p:=r.2) s.hv s.hw nw h.q.can h.q.duo h.q.pb w3 t.F0 t.FB t.dv (⟨(hl l Ja).1,(hl l Ja).2⟩:RO w (2*j+1) l) (⟨(hh u Bz).1,(hh u Bz).2⟩:RO w (2*j+1) u) (by omega) (by omega) t.N8 s.k1 t.kp2 K t.hK t.hK2
 have Xp: ∀ l∈bT r.1 v,∀ u∈ba r.1 v,_:=fun l Ja u Bz=>
  Vx (p:=r.2) s.hv s.hw nw h.q.can h.q.duo h.q.pb w3 t.F0 t.FB t.dv (⟨(hl l Ja).1,(hl l Ja).2⟩:RO w (2*j+1) l) (⟨(hh u Bz).1,(hh u Bz).2⟩:RO w (2*j+1) u) (by omega) (by omega) t.N8 s.k1 t.kp2 K t.hK t.hK2
 refine⟨⟨s.hv,fun l hl=>(h.q.ok l hl).mono (by omega),qJ (h.q.cst s) h.idem,h.q.len,fun l Ja u Bz=>Xp l Ja u Bz⟩,fun x hx=>?_⟩
 unfold u5 at hx
 obtain⟨i,k,hi,hk,rfl⟩:=Vy hx
 have Ts:=Ay (ee r.1 v) (bT r.1 v) (ba r.1 v) i k
 have ml:=bC (ls:=bT r.1 v) hi
 have mu:=bC (ls:=ba r.1 v) hk
 have Fi:=hl _ ml
 have PC:=hh _ mu
 have hb:=vy _ ml _ mu
 have hsp:=bN r.1 v
 have hrl:=h.len
 have BA: ∀ a b:List Raw,LOk (2*j+1) a->LOk (2*j+1) b->LOk (4*j+4) (bG a b):=fun a b ha hb=>(rK ha hb (by omega)).mono (by omega)
 have key: ∀ f∈j7 (ee r.1 v) (bT r.1 v) (ba r.1 v) i k,LOk (4*j+4) f/\ ∀ i,i<8->i≠w->co f i=0:=fun f hf=>by
  unfold j7 at hf;rcases List.mem_append.1 hf with hf | hf
  .rcases List.mem_append.1 hf with hf | hf
   .rcases List.mem_append.1 hf with hf | hf
    .obtain⟨h1,h2⟩:=nP.1 hf;refine⟨(h.q.ok f h1).mono (by omega),fun q hq e7=>?_⟩;by_cases Ij:q=v
     .rw[Ij];exact h2
     exact h.q.two f h1 q hq Ij e7
    rw[qz] at hf;subst hf;exact⟨BA _ _ PC.1 Fi.1,nW PC.1.len Fi.1.len PC.2 Fi.2⟩
   obtain⟨o,ho,rfl⟩:=yK hf;have:=hl o ho;exact⟨BA _ _ Fi.1 this.1,nW Fi.1.len this.1.len Fi.2 this.2⟩
  obtain⟨o,ho,rfl⟩:=yK hf;have:=hh o ho;exact⟨BA _ _ this.1 PC.1,nW this.1.len PC.1.len this.2 PC.2⟩
 refine⟨fun l hl=>(key l (Ts.mem_iff.1 hl)).1,fun l hl i hi e7 _=>(key l (Ts.mem_iff.1 hl)).2 i hi e7,?_,hb.2.1,hb.2.2.1,hb.2.2.2⟩
 have o1:=uX (bG ((bT r.1 v).getD i [])) (bT r.1 v) hi
 have o2:=uX (fun o=>bG o ((ba r.1 v).getD k [])) (ba r.1 v) hk
 show(u3 _ _ _ i k).length<=n
 rw[Ts.length_eq]
 unfold j7
 rw[qe,qe,qe,D0]
 omega
theorem JU {u l:List Raw} (hu:IsCn u) (hl:IsCn l) (hs:sQ u l=true):(aX (bG u l)/\co (bG u l) 8<0)\/u=l:=by
 unfold sQ at hs;rw[BP] at hs;have hc:=(cN (d7 hu.len hl.len)).1 hs.1;have h2:=of_decide_eq_true hs.2;by_cases h:co (bG u l) 8<0
 .exact .inl ⟨hc,h⟩
 refine .inr (wz hu hl (fun i hi=>?_));have hz:co (bG u l) i=0:=by
  by_cases pC:i<8
  .exact hc i pC
  have:i=8:=by omega
  subst this;by_cases hp:0<co (bG u l) 8
  .rw[lB hp] at h2;omega
  grind
 rw[kM hu.len hl.len hi] at hz;grind
theorem R1 {v:Nat} {l:List Raw} {p:List Tm} (hp:Canon (bg v p)):betT v l l p=[]:=by
 unfold betT;have h8:Len8 (cS v (cg l) (bg v p)):=(iZ hp (fun t ht=>(gU ht).1)).len;have:nf (cS v (cg l) (bg v p)++cH (cS v (cg l) (bg v p)) (-1))=nf []:=uy (h8.app h8.scale) Len8.nil (fun m=>by
  rw[fT,Jn,b'];grind)
 rw[this];rfl
theorem JV {b:Kc} {d:List Raw} (h9: ∀ l∈b,l.length=9) (hd:d∈b) (hc:aX d) (hn:co d 8<0):aZ b=false:=by
 cases hb:aZ b with
 | false=>rfl
 | true=>
  exfalso;obtain⟨x,hx⟩:=(cX h9).1 hb;have h1:=hx d hd;rw[jx hc] at h1;rcases h1 with h1 | h1
  .grind
  have:=h1.2;grind
noncomputable def qK (l:List RC):List RC:=(l.filter (fun r=>aZ r.1)).map (fun r=>(aQ r.1,r.2))
theorem Hk (l:List RC):nrmL l=ir (qK l):=rfl
theorem R2 (a b:List RC):qK (a++b)=qK a++qK b:=by unfold qK;rw[List.filter_append,tY]
theorem jD {α:Type} (f:α->List RC): ∀ l:List α,qK (l.flatMap f)=l.flatMap (fun a=>qK (f a))
 | []=>rfl
 | a::l=>by rw[List.flatMap_cons,List.flatMap_cons,R2,jD f l]
def EqK (a b:List RC):Prop:= ∀ k m,dA k m a=dA k m b
theorem u7 {α:Type} {f g:α->List RC}: ∀ {l:List α},(∀ a∈l,EqK (f a) (g a))->EqK (l.flatMap f) (l.flatMap g)
 | [],_=>fun _ _=>rfl
 | a::l,h=>fun k m=>by rw[List.flatMap_cons,List.flatMap_cons,iE,iE,h a (by simp) k m,u7 (fun b hb=>h b (by simp[hb])) k m]
theorem R3 {α β:Type} (f:α->β): ∀ l:List α,l.map f=l.flatMap (fun a=>[f a])
 | []=>rfl
 | a::l=>by rw[map_cons,List.flatMap_cons,R3 f l];rfl
theorem R4 {a b:Kc} {q:List Tm} (hp:a.Perm b) (ha:tZ a) (hb:tZ b):qK [(a,q)]=qK [(b,q)]:=by
 have f0:aZ a=aZ b:=by
  cases h1:aZ a with
  | true=>
   obtain⟨x,hx⟩:=(cX ha.cs.len9).1 h1;exact((cX hb.cs.len9).2 ⟨x,fun l hl=>hx l (hp.mem_iff.2 hl)⟩).symm
  | false=>
   cases h2:aZ b with
   | false=>rfl
   | true=>
    obtain⟨x,hx⟩:=(cX hb.cs.len9).1 h2;rw[(cX ha.cs.len9).2 ⟨x,fun l hl=>hx l (hp.mem_iff.1 hl)⟩] at h1;cases h1
 have hk:aQ a=aQ b:=(JL ha hb).2 (fun x=>⟨fun h l hl=>h l (hp.mem_iff.2 hl),fun h l hl=>h l (hp.mem_iff.1 hl)⟩);unfold qK;cases h:aZ b with
 | true=>
  rw[List.filter_cons_of_pos (by simp[f0,h]),List.filter_cons_of_pos (by simp[h])];simp[hk]
 | false=>
  rw[filter_cons_of_neg (by simp[f0,h]),filter_cons_of_neg (by simp[h])]
theorem R5 {a b:Kc} {q:List Tm} (hp:a.Perm b) (h9: ∀ l∈b,l.length=9) (hb:aZ b=false):qK [(a,q)]=[]:=by
 have f0:aZ a=false:=by
  cases h1:aZ a with
  | false=>rfl
  | true=>
   obtain⟨x,hx⟩:=(cX (fun l hl=>h9 l (hp.mem_iff.1 hl))).1 h1;rw[(cX h9).2 ⟨x,fun l hl=>hx l (hp.mem_iff.2 hl)⟩] at hb;cases hb
 unfold qK;rw[filter_cons_of_neg (by simp[f0])];rfl
theorem R6 (a:Kc):EqK (qK [(a,[])]) []:=fun k m=>by
 unfold qK;cases h:aZ a with
 | false=>rw[filter_cons_of_neg (by simp[h])];rfl
 | true=>
  rw[List.filter_cons_of_pos (by simp[h])];simp[dA,b'];try grind
theorem R7 {c:Kc} {p:List Tm} {v:Nat} (hp:Canon (bg v p)) (h9: ∀ l∈c,l.length=9) (fL: ∀ x∈u5 c p v,tZ x.1) (amb: ∀ x∈mA c p v,tZ x.1):EqK (qK (u5 c p v)) (qK (mA c p v)):=by
 have Kx: ∀ l∈bT c v,IsCn l:=fun l hl=>by
  obtain⟨x,hx,rfl⟩:=mem_map.1 hl;have:=h9 x (mem_filter.1 hx).1;exact⟨_,rfl,by rw[length_map,length_set];exact this⟩
 have Zt: ∀ l∈ba c v,IsCn l:=fun l hl=>by
  obtain⟨x,hx,rfl⟩:=mem_map.1 hl;have:=h9 x (mem_filter.1 hx).1;exact⟨_,rfl,by rw[length_map,length_set];exact this⟩
 unfold u5 mA BZ sR at*;rw[jD,jD];refine u7 (fun i hi=>?_);unfold x_ px;rw[R3,jD,jD];refine u7 (fun j hj=>?_);have Ts:=Ay (ee c v) (bT c v) (ba c v) i j;have h1:tZ (u3 (ee c v) (bT c v) (ba c v) i j):=fL _ (List.mem_flatMap.2 ⟨i,hi,by unfold x_;exact mem_map.2 ⟨j,hj,rfl⟩⟩);cases hs:sQ ((ba c v).getD j []) ((bT c v).getD i []) with
 | true=>
  have h9: ∀ l∈j7 (ee c v) (bT c v) (ba c v) i j,l.length=9:=fun l hl=>h1.cs.len9 l (Ts.mem_iff.2 hl)
  rw[if_pos rfl];rcases JU (Zt _ (bC (List.mem_range.1 hj))) (Kx _ (bC (List.mem_range.1 hi))) hs with h | h
  .rw[R5 Ts h9 (JV h9 (by unfold j7;simp) h.1 h.2)];exact fun _ _=>rfl
  .rw[h,R1 hp];exact R6 _
 | false=>
  have h2:tZ (j7 (ee c v) (bT c v) (ba c v) i j):=amb (_,betT v ((bT c v).getD i []) ((ba c v).getD j []) p) (List.mem_flatMap.2 ⟨i,hi,by
   unfold px;exact List.mem_flatMap.2 ⟨j,hj,by rw[hs,if_neg (by decide)];exact List.mem_singleton_self _⟩⟩)
  rw[R4 Ts h1 h2];exact fun _ _=>rfl
theorem My {l:List RC} (h: ∀ x∈l,tZ x.1/\Canon x.2):RcOk (qK l):=fun x hx=>by
 obtain⟨r,hr,rfl⟩:=mem_map.1 hx;have iM:=(mem_filter.1 hr).1;exact⟨fun f hf=>((Om (h r iM).1).1 f hf).1,(h r iM).2⟩
theorem Ou {M:List RC} {v:Nat} (hM: ∀ r∈M,Canon (bg v r.2)/\ ∀ l∈r.1,l.length=9) (h1: ∀ x∈elimR M v,tZ x.1/\Canon x.2) (h2: ∀ x∈elimO M v,tZ x.1/\Canon x.2):nrmL (elimR M v)=nrmL (elimO M v):=by
 rw[Hk,Hk];refine Aa (My h1) (My h2) (fun k m _=>?_);unfold elimR elimO at*;rw[jD,jD];exact u7 (fun r hr=>R7 (hM r hr).1 (hM r hr).2 (fun x hx=>(h1 x (List.mem_flatMap.2 ⟨r,hr,hx⟩)).1) (fun x hx=>(h2 x (List.mem_flatMap.2 ⟨r,hr,hx⟩)).1)) k m
structure Mz (M:List RC) (u:Nat):Prop where
 reg: ∀ r∈M,Ds r.1 r.2 u
 len:(elimR M u).length<=4000
 val:M.any (missB u)=false-> ∀ x∈elimR M u,POk 10000000 1024 x.2/\x.2.length<=1000000/\x.1.length<=40
 ord:M.any (missB u)=false->Den Tryz.prog 95 [] [RL' ((elimR M u).map rn)] [] (RL' ((nrmL (elimO M u)).map rn))
theorem sf {v q:Nat}: ∀ {M:List RC},(∀ r∈M,(bT r.1 v).length*(ba r.1 v).length<=q)->(elimR M v).length<=M.length*q
 | [],_=>by simp[elimR]
 | r::M,h=>by
  have ih:=sf (v:=v) (q:=q) (M:=M) (fun x hx=>h x (ql _ hx));have h1:=h r (by simp);have h2:(u5 r.1 r.2 v).length=(bT r.1 v).length*(ba r.1 v).length:=Ax _ _ _ _ _ _;unfold elimR at ih ⊢;rw[List.flatMap_cons,qe,length_cons,Nat.add_mul];omega
theorem Az {v w Nv Nw j kp n c u:Nat} {M:List RC} (s:g_ v w Nv Nw j kp n c) (h1: ∀ x∈elimR M u,RgQ v w Nv Nw j kp n x) (h2: ∀ x∈elimO M u,RgQ v w Nv Nw j kp n x) (hc:(elimR M u).length<=c)
 (hM: ∀ r∈M,Canon (bg u r.2)/\ ∀ l∈r.1,l.length=9):
 (∀ x∈elimR M u,POk 10000000 1024 x.2/\x.2.length<=1000000/\x.1.length<=40)/\Den Tryz.prog 95 [] [RL' ((elimR M u).map rn)] [] (RL' ((nrmL (elimO M u)).map rn)):=by
 have yU:=Mt s h1 hc
 refine⟨fun x hx=>?_,?_⟩
 .have hp:=(h1 x hx).pok s (by have:=List.length_pos_of_mem hx;omega)
  exact⟨hp.1,by omega,(h1 x hx).len⟩
 have:=afD ((elimR M u).map rn) ⟨yU,fun x hx=>by
  obtain⟨r,hr,rfl⟩:=mem_map.1 hx;exact(h1 r hr).len⟩
 rw[(nX (fun r hr=>⟨(h1 r hr).can,(h1 r hr).cst s⟩)).2,Ou hM (fun x hx=>⟨(h1 x hx).cst s,(h1 x hx).can⟩) (fun x hx=>⟨(h2 x hx).cst s,(h2 x hx).can⟩)] at this
 exact this
theorem RgV.prim {v w Nv Nw j kp n:Nat} {r:RC} (hv:v<8) (h:RgV v w Nv Nw j kp n r):Canon (bg v r.2)/\ ∀ l∈r.1,l.length=9:=
 ⟨oI hv h.q.can (fun t ht=>(h.q.duo t ht).2.2.1.1),fun l hl=>(h.q.ok l hl).len⟩
theorem IA.ref {v w:Nat} {M:List RC} (hv:v<8) (hw:w<8) (nw:v≠w) (h:IA v w M):Mz M v:=by
 have w3: ∀ r∈M,r.2.length<=12:=fun r hr=>((h.rg r hr).q.pok (nZ hv hw) (by decide)).2
 have hs:=fun r hr=>Hj (nZ hv hw) nw RU (h.rg r hr) (w3 r hr)
 have ho:=fun r hr=>nY (nZ hv hw) nw RU (h.rg r hr) (w3 r hr)
 have hl:(elimR M v).length<=12:=by
  have:=sf (v:=v) (q:=6) (M:=M) (fun r hr=>RS (by
   have h1:=bN r.1 v;have h2:=(h.rg r hr).len;omega) (qp 5) (by decide))
  have h2:=h.len;omega
 have q1: ∀ x∈elimR M v,RgQ w v 6 0 52 2292 5 x:=fun x hx=>by
  obtain⟨r,hr,hx⟩:=List.mem_flatMap.1 hx;obtain⟨a1,a2,a3,a4,a5,a6⟩:=(hs r hr).2 x hx;exact⟨a1,fun l hl i hi h1 h2=>a2 l hl i hi h1 h1,by omega,gD (kn _) a3,a4,a5.duo hv nw,a6,.inr ⟨a2,by decide,by decide⟩⟩
 have q2: ∀ x∈elimO M v,RgQ w v 6 0 52 2292 5 x:=fun x hx=>by
  obtain⟨r,hr,hx⟩:=List.mem_flatMap.1 hx;obtain⟨a1,a2,a3,a4,a5,a6⟩:=(ho r hr).2 x hx;exact⟨a1,fun l hl i hi h1 h2=>a2 l hl i hi h1 h1,by omega,gD (kn _) a3,a4,a5.duo hv nw,a6,.inr ⟨a2,by decide,by decide⟩⟩
 have ck:=Az (EF hw hv) q1 q2 hl (fun r hr=>(h.rg r hr).prim hv);exact⟨fun r hr=>(hs r hr).1,by omega,fun _=>ck.1,fun _=>ck.2⟩
theorem IB.ref {v w:Nat} {M:List RC} (hv:v<8) (hw:w<8) (nw:v≠w) (h:IB v w M):Mz M v:=by
 have w3: ∀ r∈M,r.2.length<=12:=fun r hr=>((h.rg r hr).1.q.pok (kH hv hw) (by decide)).2
 have hs:=fun r hr=>Hj (kH hv hw) nw Mu (h.rg r hr).1 (w3 r hr)
 have ho:=fun r hr=>nY (kH hv hw) nw Mu (h.rg r hr).1 (w3 r hr)
 have hl:(elimR M v).length<=12:=by
  have:=sf (v:=v) (q:=1) (M:=M) (fun r hr=>by
   obtain⟨h1,h2⟩:=Hb (kH hv hw) (h.rg r hr).1 (h.rg r hr).2;exact Nat.mul_le_mul h1 h2)
  have h2:=h.len;omega
 have q1: ∀ x∈elimR M v,RgQ w v 8 0 420 470564 5 x:=fun x hx=>by
  obtain⟨r,hr,hx⟩:=List.mem_flatMap.1 hx;obtain⟨a1,a2,a3,a4,a5,a6⟩:=(hs r hr).2 x hx;exact⟨a1,fun l hl i hi h1 h2=>a2 l hl i hi h1 h1,by omega,gD (kn _) a3,a4,a5.duo hv nw,a6,.inr ⟨a2,by decide,by decide⟩⟩
 have q2: ∀ x∈elimO M v,RgQ w v 8 0 420 470564 5 x:=fun x hx=>by
  obtain⟨r,hr,hx⟩:=List.mem_flatMap.1 hx;obtain⟨a1,a2,a3,a4,a5,a6⟩:=(ho r hr).2 x hx;exact⟨a1,fun l hl i hi h1 h2=>a2 l hl i hi h1 h1,by omega,gD (kn _) a3,a4,a5.duo hv nw,a6,.inr ⟨a2,by decide,by decide⟩⟩
 have ck:=Az (JR hw hv) q1 q2 hl (fun r hr=>(h.rg r hr).1.prim hv);exact⟨fun r hr=>(hs r hr).1,by omega,fun _=>ck.1,fun _=>ck.2⟩
theorem u9 {M:List RC} {u:Nat} (h: ∀ r∈M,Ds r.1 r.2 u/\missB u r=true):Mz M u:=by
 have sG:M.any (missB u)=false->M=[]:=fun hm=>by
  cases M with
  | nil=>rfl
  | cons r M=>rw[fZ (List.mem_cons_self) (h r (by simp)).2] at hm;cases hm
 have hz:(elimR M u).length<=M.length*0:=sf (fun r hr=>by
  rcases jC.1 (h r hr).2 with h3 | h3
  .rw[h3,length_nil,Nat.zero_mul];exact qp _
  rw[h3,length_nil,Nat.mul_zero];exact qp _)
 refine⟨fun r hr=>(h r hr).1,by omega,fun hm=>?_,fun hm=>?_⟩
 .rw[sG hm];simp[elimR]
 rw[sG hm];have ck:=Az (M:=[]) (u:=u) (nZ (v:=0) (w:=1) (by decide) (by decide)) (by simp[elimR]) (by simp[elimO]) (by simp[elimR]) (by simp);exact ck.2
theorem AA {v w u Nv Nw j kp n c:Nat} {r:RC} (s:g_ v w Nv Nw j kp n c) (hu:u<8) (hj:j<=499) (h:RgV v w Nv Nw j kp n r) (h1:bT r.1 u=[]):Ds r.1 r.2 u/\missB u r=true:=
 ⟨⟨hu,fun l hl=>(h.q.ok l hl).mono hj,qJ (h.q.cst s) h.idem,h.q.len,fun l hl=>by rw[h1] at hl;simp at hl⟩,jC.2 (.inl h1)⟩
theorem IT.ref {M:List RC} (h:IT M) {u:Nat} (hu:u<8):Mz M u:=by
 rcases h with h | h | h | h
 .by_cases h0:u=0
  .subst h0;exact h.ref (by decide) (by decide) (by decide)
  by_cases h1:u=1
  .subst h1;exact h.swap.ref (by decide) (by decide) (by decide)
  exact u9 (fun r hr=>AA (nZ (by decide) (by decide)) hu (by decide) (h.rg r hr) (uW (h.rg r hr).q.two hu h0 h1).1)
 .by_cases h0:u=0
  .subst h0;exact h.ref (by decide) (by decide) (by decide)
  exact u9 (fun r hr=>AA (kH (by decide) (by decide)) hu (by decide) (h.rg r hr).1 (uW (h.rg r hr).2 hu h0 h0).1)
 .by_cases h0:u=1
  .subst h0;exact h.ref (by decide) (by decide) (by decide)
  exact u9 (fun r hr=>AA (kH (by decide) (by decide)) hu (by decide) (h.rg r hr).1 (uW (h.rg r hr).2 hu h0 h0).1)
 refine u9 (fun r hr=>?_);have h0:=(h.rg r hr).1;refine⟨⟨hu,by rw[h0];simp,by rw[h0];simp,by rw[h0];simp,by rw[h0];simp[bT]⟩,jC.2 (.inl (by rw[h0];rfl))⟩
theorem IT.k40 {M:List RC} (h:IT M): ∀ r∈M,r.1.length<=40:=fun r hr=>by
 rcases h with h | h | h | h
 .exact(h.rg r hr).q.len
 .exact(h.rg r hr).1.q.len
 .exact(h.rg r hr).1.q.len
 rw[(h.rg r hr).1];simp
theorem MA {L:List RR} {M:List RC} (h:IT M) (lV:Den Tryz.prog 92 [] [RL' L] [] (.tup [RL' (M.map rn),.int .i64 0])) (v:Int):Den Tryz.prog 37 [] [RL' L,.int .i64 v] [] (listV (f5 M v)):=by
 unfold f5 listV;by_cases hv:v<0\/8<=v
 .rw[if_pos hv,if_neg (by decide)];exact afG L M v hv lV
 obtain⟨u,rfl⟩: ∃ u:Nat,v=(u:Int):=⟨v.toNat,by omega⟩;have hu:u<8:=by omega
 have hn:=h.ref hu;have hp:=h.next hu;rw[if_neg hv,Int.toNat_natCast];have:=aj4 L M (nrmL (elimO M u)) u hu lV (by have:=h.len;omega) hn.reg hn.len hn.val hn.ord (fun hm=>by
  have hi:=hp.it hm;exact afE _ (by have:=hi.len;omega) (fun x hx=>⟨(hi.pok x hx).1,by have:=(hi.pok x hx).2;omega,hi.k40 x hx⟩))
 by_cases hm:M.any (missB u)=true
 .rw[if_pos hm] at this ⊢;rw[if_neg (by decide)];exact this
 rw[if_neg hm] at this ⊢;rw[if_pos rfl];exact this
theorem aj5 (E:List RC->Int->Int×List RC) (I:List RC->Prop) (hT:RN E I) (amc: ∀ M,I M-> ∀ v:Int,Den Tryz.prog 37 [] [RL' (M.map rn),.int .i64 v] [] (listV (E M v)))
 (L:List RR) (M:List RC) (vs:List Int) (hn:vs.length<=1000) (hI:I M) (lV:Den Tryz.prog 92 [] [RL' L] [] (.tup [RL' (M.map rn),.int .i64 0])):
 Den Tryz.prog 41 [] [RL' L,.fv (.sl (ints vs))] [] (mB (wE E M vs)):=by
 obtain⟨R,hR⟩:=ax (mB (wE E M vs))
 rw[hR]
 have rl:=cv vs
 obtain⟨n,b8⟩:=ax vs.length
 rw[b8] at rl hn
 have e0:((0:Int) !=0)=false:=rfl
 refine dq Tryz.func41 56 0 ?_
 refine aW ?_
 refine aM lV ?_
 refine ae e0 ?_
 refine wl (α:=Nat×List RC) (fun⟨i,M'⟩=>⟨[.any,.fv (.sl (ints vs)),.any,.any,.nilsl,.int .i64 0,RL' (M'.map rn),.any,.int .i64 i]++replicate 49 .any,[]⟩)
  (fun⟨i,_⟩=>n - i) (fun⟨i,M'⟩=>i<=n/\I M'/\qG E M vs=qG E M' (vs.drop i)) (0,M) ?_ ?_ ?_
 .exact bx []
 .exact⟨dk _,hI,by rw[List.drop_zero]⟩
 rintro⟨i,M'⟩ ⟨h1,h2,h3⟩
 refine aW ?_
 refine bM ?_ ?_
 .intro g1 g2
  have hi:i<vs.length:=by omega
  have hd:vs.drop i=vs.getD i 0::vs.drop (i+1):=by
   rw[qj hi,qa,qb hi];rfl
  have ry:=iz (xs:=vs) hi
  obtain⟨v,hv⟩:=ax (vs.getD i 0)
  rw[hv] at hd ry
  rw[hd] at h3
  have fM:=amc M' h2 v
  have ox:=hT.next M' h2 v
  rw[qH] at h3
  unfold listV at fM
  obtain⟨⟨c,N⟩,hE⟩: ∃ x,E M' v=x:=⟨_,rfl⟩
  rw[hE] at fM ox h3
  dsimp only at fM ox h3
  by_cases hc:c=0
  .subst hc
   rw[if_pos rfl] at fM h3
   refine ae (aB ry rl) ?_
   repeat refine ag ?_
   refine aM fM ?_
   refine ae e0 ?_
   refine aA (i+1,N) ?_ ⟨by omega,ox rfl,h3⟩
   exact bx []
  rw[if_neg hc] at fM h3
  have e1:(c !=0)=true:=by simpa using hc
  unfold ko at fM
  unfold wE at hR
  rw[h3] at hR
  dsimp only at hR
  rw[if_neg hc] at hR
  unfold mB at hR
  rw[if_neg hc] at hR
  subst hR
  refine ae (aB ry rl) ?_
  repeat refine ag ?_
  refine aM fM ?_
  refine ae e1 ?_
  exact a_ rfl
 intro g1 g2
 have hd:vs.drop i=[]:=List.drop_of_length_le (by omega)
 rw[hd] at h3
 rw[Ey] at h3
 unfold wE at hR
 rw[h3] at hR
 dsimp only at hR
 rw[if_pos rfl] at hR
 have rlm:=aK (M'.map rn)
 rw[length_map] at rlm
 have jM:=hT.len M' h2
 obtain⟨m,hm⟩:=ax M'.length
 rw[hm] at rlm jM
 refine ae g2 ?_
 refine wl (α:=Nat×List Tm) (fun⟨i,s⟩=>⟨[.any,.any,.any,.any,.nilsl,.int .i64 0,RL' (M'.map rn),.any,.any,.fv (.sl (av (s.map tn))),.int .i64 i]++replicate 47 .any,[]⟩)
  (fun⟨i,_⟩=>m - i) (fun⟨i,s⟩=>i<=m/\s=polyS' (M'.take i)/\(M'.take i).any (fun r=>!r.1.isEmpty)=false) (0,[]) ?_ ?_ ?_
 .refine Weak.nil 9 11 (by decide) rfl ?_
  refine Weak.shut [0] ?_
  change Weak _ ⟨_,[Ob.row false []]⟩ _
  refine Weak.fz 9 0 0 0 11 [] rfl rfl (by simp) ?_
  refine eH [] ?_ ?_
  .simp[bh,dF,cw,av]
  simp[d_]
 .exact⟨dk _,rfl,rfl⟩
 rintro⟨i,s⟩ ⟨k1,k2,k3⟩
 refine aW ?_
 refine bM ?_ ?_
 .intro f1 f2
  obtain⟨⟨c,p⟩,hx⟩: ∃ x,M'[i]?=some x:=⟨_,qb (by omega)⟩
  have sH:(c,p)∈M':=mem_of_getElem? hx
  have ry:=cF (l:=M'.map rn) (i:=i) (by rw[length_map];omega)
  rw[show(M'.map rn).getD i qB=rn (c,p) by rw[qa,List.getElem?_map,hx];rfl] at ry
  change _=[FV.sl (ai c),FV.sl (av (p.map tn))] at ry
  have rlc:=aq c
  have cL:M'.take (i+1)=M'.take i++[(c,p)]:=by
   rw[List.take_add_one,hx];rfl
  cases c with
  | cons c0 c1=>
   have e1:decide (((c0::c1).length:Int)>0)=true:=f3 (by rw[length_cons];omega);unfold BX at hR;rw[if_pos (fZ sH rfl)] at hR;unfold mB at hR;rw[if_neg (by decide)] at hR;obtain⟨c,nh⟩:=ax (c0::c1);rw[nh] at ry rlc e1;subst hR;refine ae (dR ry rlm rlc e1) ?_
   repeat refine ag ?_
   exact a_ rfl
  | nil=>
   have vN:=hT.nf M' h2;have dh:=hT.one M' h2 _ sH rfl;dsimp only at dh;have Cn:i=0:=by
    cases i with
    | zero=>rfl
    | succ q=>
     exfalso;have h0l:0<M'.length:=by omega
     have Kz:(M'[0]'h0l).1=[]:=by
      have aY:M'[0]'h0l∈M'.take (q+1):=by
       rw[List.mem_iff_getElem];exact⟨0,by rw[qf];omega,by rw[List.getElem_take]⟩
      cases hh:(M'[0]'h0l).1 with
      | nil=>rfl
      | cons a b=>rw[fZ aY (by rw[hh];rfl)] at k3;cases k3
     have Ft:q+1<M'.length:=by omega
     have hcq:M'[q+1]'Ft=([],p):=(List.getElem?_eq_some_iff.1 hx).2;have:=List.pairwise_iff_getElem.1 vN.sorted 0 (q+1) h0l Ft (by omega);rw[Kz,hcq] at this;simp[cj] at this
   subst Cn;have DT:s=[]:=k2;subst DT;have ez:=(vN.can _ sH);have ni:nf ([]++p)=polyS' (M'.take 1):=by
    have:M'.take 1=[([],p)]:=by rw[cL];rfl
    rw[this,lK ez,nil_append,e_ ez]
   have Na:p.length<=12:=dh.2;have KS:=RY [] p .nil dh.1.canon.len ((PB.list (by decide) dh.1.bd).mono (by omega)) (fun t ht e he=>by have:=dh.1.exp t ht e he;omega) (by simp) (by omega);have e1:decide ((([]:List (List Raw)).length:Int)>0)=false:=rfl;obtain⟨c,nh⟩:=ax (([]:List (List Raw)));have WE:c.isEmpty=true:=by rw[<-nh];rfl
   rw[nh] at ry rlc e1 cL;obtain⟨s2,Fu⟩:=ax (nf (([]:List Tm)++p));rw[Fu] at KS ni;refine ae (dR ry rlm rlc e1) ?_
   repeat refine ag ?_
   refine aM KS ?_;refine aN ?_;refine aA (0+1,s2) ?_ ⟨by omega,ni,by rw[cL,any_append,k3];simp[WE]⟩;exact bx []
 intro f1 f2
 have eO:M'.take i=M':=dm (by omega)
 rw[eO] at k2 k3
 unfold BX at hR
 rw[if_neg (by rw[k3];decide),<-k2] at hR
 unfold mB at hR
 rw[if_pos rfl] at hR
 subst hR
 refine ae f2 ?_
 exact a_ rfl
theorem afH (L:List RR) (vs:List Int) (c:Int) (hc:c≠0) (lV:Den Tryz.prog 92 [] [RL' L] [] (ko c)):
 Den Tryz.prog 41 [] [RL' L,.fv (.sl (ints vs))] [] (ko c):=by
 have e0:(c !=0)=true:=by simpa using hc
 unfold ko at lV ⊢
 refine dq Tryz.func41 56 0 ?_
 refine aW ?_
 refine aM lV ?_
 refine ae e0 ?_
 exact a_ rfl
theorem afI (L:List RR) (vs:List Int) (c:Int) (hc:c≠0) (lU:Den Tryz.prog 90 [] [RL' L] [] (ko c)):
 Den Tryz.prog 40 [] [RL' L,.fv (.sl (ints vs))] [] (ko c):=by
 have e0:(c !=0)=true:=by simpa using hc
 unfold ko at lU ⊢
 refine dq Tryz.func40 56 0 ?_
 refine aW ?_
 refine aM lU ?_
 refine ae e0 ?_
 exact a_ rfl
theorem Vz {L:List RR} {M:List RC} (h:IT M) (lV:Den Tryz.prog 92 [] [RL' L] [] (.tup [RL' (M.map rn),.int .i64 0])) (amd: ∀ M,IT M->Den Tryz.prog 92 [] [RL' (M.map rn)] [] (.tup [RL' (M.map rn),.int .i64 0])) (vs:List Int) (hn:vs.length<=1000):
 Den Tryz.prog 41 [] [RL' L,.fv (.sl (ints vs))] [] (mB (wE f5 M vs)):=aj5 f5 IT EG (fun M hM v=>MA hM (amd M hM) v) L M vs hn h lV
def EJ (xs:List Int) (a:Nat) (v:Int):Int×Nat:=if nN xs a 6=0 then(v,nx xs a) else((nN xs (nx xs a) 2:Int),nx xs (nx xs a))
theorem aj6 (xs:List Int) (a:Nat) (v:Int) (hl:xs.length<=1000) (ha:a<=xs.length) (hw:W64 xs):
 Den Tryz.prog 26 [S xs a] [.ptr 0 0 0,.int .i64 v] [S xs (EJ xs a v).2] (.int .i64 (EJ xs a v).1):=by
 have h1:=l_ xs a 6 hl ha hw (by decide) (by decide)
 have h2:=l_ xs (nx xs a) 2 hl (cD ha) hw (by decide) (by decide)
 have hc:=aD xs a
 have sq:=aD xs (nx xs a)
 have aL:=et (xs:=xs) (a:=a) (n:=6) (by decide)
 have TA:=et (xs:=xs) (a:=nx xs a) (n:=2) (by decide)
 unfold EJ
 generalize nN xs a 6=m at*
 generalize nN xs (nx xs a) 2=k at*
 by_cases hm:m=0
 .subst hm
  rw[if_pos rfl]
  have e1:decide (((0:Nat):Int)>0)=false:=rfl
  unfold S at h1 h2 hc sq ⊢
  refine dq Tryz.func26 9 1 ?_
  refine aW ?_
  refine eG 0 h1 hc ?_
  refine f9 e1 ?_
  refine sn rfl ⟨cK,cK⟩ rfl (aD xs _) rfl rfl rfl
 rw[if_neg hm]
 have e1:decide ((m:Int)>0)=true:=yP
 unfold S at h1 h2 hc sq ⊢
 refine dq Tryz.func26 9 1 ?_
 refine aW ?_
 refine eG 0 h1 hc ?_
 refine f9 e1 ?_
 refine eG 0 h2 sq ?_
 refine so ?_
 refine sn rfl ⟨cK,cK⟩ rfl (aD xs _) rfl rfl rfl
def Rd3 (ts:List RT):Prop:= ∀ t∈ts,t.1.length=8/\(∀ e∈t.1,0<=e/\e<=2)/\t.2.Ok 4
theorem Rd3.snoc {ts:List RT} {t:RT} (h:Rd3 ts) (h1:t.1.length=8) (h2: ∀ e∈t.1,0<=e/\e<=2) (h3:t.2.Ok 4):Rd3 (ts++[t]):=fun u hu=>by
 rcases List.mem_append.1 hu with hu | hu
 .exact h u hu
 rw[qz] at hu;subst hu;exact⟨h1,h2,h3⟩
theorem R8: ∀ e∈z8,0<=e/\e<=(2:Int):=fun x hx=>by
 rw[eq_of_mem_replicate hx];omega
abbrev T9:List Int:=[0,0,1,1,2]
theorem R9 (i:Nat):0<=T9.getD i 0/\T9.getD i 0<=2:=jX (by decide) (by decide) i
def Zf (vars:Nat) (ts:List RT):Prop:= ∀ t∈ts,∀ k,vars<=k->t.1.getD k 0=0
theorem Zf.snoc {vars:Nat} {ts:List RT} {t:RT} (h:Zf vars ts) (h1: ∀ k,vars<=k->t.1.getD k 0=0):Zf vars (ts++[t]):=fun u hu=>by
 rcases List.mem_append.1 hu with hu | hu
 .exact h u hu
 rw[qz] at hu;subst hu;exact h1
theorem MB (k:Nat):z8.getD k 0=(0:Int):=by
 rw[qa,z8,List.getElem?_replicate];split<;>rfl
theorem R_ (xs:List Int) (a vars terms:Nat) (hl:xs.length<=1000) (ha:a<=xs.length) (hw:W64 xs) (hv:vars<=8) (ht:terms<=100):
 ∃ H1 res,(fun H1 res=> ∃ ts:List RT,∃ a':Nat,H1=[S xs a',.row true (av ts)]/\res=PV.lsl 1 0 ts.length 11/\a'<=xs.length/\ts.length<=terms/\Rd3 ts/\Zf vars ts) H1 res/\
  Den Tryz.prog 42 [S xs a] [.ptr 0 0 0,.int .i64 vars,.int .i64 terms] H1 res:=by
 have hN:=l_ xs a (terms+1) hl ha hw (by omega) (by omega)
 have aL:=et (xs:=xs) (a:=a) (n:=terms+1) (by omega)
 have hc:=aD xs a
 have Pw:=cD ha
 generalize nN xs a (terms+1)=n at*
 have e0:((terms:Int)+1)=((terms+1:Nat):Int):=by simp
 obtain⟨a0,hA⟩:=ax (nx xs a)
 rw[hA] at hN Pw
 have hS0: ∀ a,Ob.box true [.fv (.sl (ints xs)),.int .i64 (a:Nat),.int .i64 0]=S xs a:=fun _=>rfl
 unfold S at hN hc
 unfold S
 refine Lh Tryz.func42 41 1 ?_
 refine bw e0 ?_
 refine eG 0 hN hc ?_
 refine so ?_
 refine wl (α:=Nat×Nat×List RT) (fun⟨i,a,ts⟩=>⟨[.ptr 0 0 0,.int .i64 vars,.any,.any,.any,.any,.any,.lsl 1 0 ts.length 11,.int .i64 i]++replicate 35 .any,[.box true [.fv (.sl (ints xs)),.int .i64 a,.int .i64 0],.row true (av ts)]⟩)
  (fun⟨i,_,_⟩=>i) (fun⟨i,a,ts⟩=>i+ts.length<=terms/\a<=xs.length/\Rd3 ts/\Zf vars ts) (n,a0,[]) ?_ ⟨by simp;omega,Pw,fun t ht=>by simp at ht,fun t ht=>by simp at ht⟩ ?_
 .refine Weak.nil 7 11 (by decide) rfl ?_
  refine eH [0,1] ?_ ?_
  .simp[bh,dF,cw]
  simp[d_,fD,dL,cw]
  rfl
 rintro⟨i,a,ts⟩ ⟨hi,ha,en,vA⟩
 refine aW ?_
 refine bM ?_ ?_
 .intro h1 h2
  have BN:=QM xs a hl ha hw
  have hca:=aD xs a
  have hb:=yB xs a
  obtain⟨q,hq⟩:=ax (sy xs a)
  obtain⟨a1,sv⟩:=ax (nx xs (nx xs a))
  have la1:a1<=xs.length:=by rw[<-sv];exact cD (cD ha)
  rw[hq,sv] at BN
  rw[hq] at hb
  change Den Tryz.prog 55 _ _ _ (.agg (cn q).c) at BN
  have h8:=l_ xs a1 8 hl la1 hw (by decide) (by decide)
  have sq:=aD xs a1
  have l8:=et (xs:=xs) (a:=a1) (n:=8) (by decide)
  obtain⟨m,hm⟩:=ax (nN xs a1 8)
  obtain⟨a2,Fx⟩:=ax (nx xs a1)
  have Zu:a2<=xs.length:=by rw[<-Fx];exact cD la1
  rw[hm,Fx] at h8
  rw[hm] at l8
  have bF:=bj hb
  obtain⟨r,hr⟩:=ax (cn q)
  rw[hr] at BN bF
  have zl:=aH (t:=(z8,r)) bX
  unfold S at BN h8 hca sq
  refine ae h2 ?_
  refine eG 0 BN hca ?_
  refine f9 (dR @da @cz @NR zl) ?_
  repeat refine ag ?_
  refine eG 0 h8 sq ?_
  refine so ?_
  refine Br.beqInt ?_ ?_
  .intro h3 h4
   have IG:=Yr xs a2 hl Zu hw
   have pz:=aD xs a2
   have rok:=vY xs a2
   have la3:=CF Zu
   obtain⟨r3,Zv⟩:=ax ((kj xs a2).1)
   obtain⟨a3,Ui⟩:=ax ((kj xs a2).2)
   rw[Zv,Ui] at IG
   rw[Zv] at rok
   rw[Ui] at la3
   change Den Tryz.prog 60 _ _ _ (.agg r3.c) at IG
   have pc:=lA (t:=(z8,r)) (r:=r3) bX
   unfold S at IG pz
   refine ae h4 ?_
   refine eG 0 IG pz ?_
   refine f9 (dR @da @cz zl pc) ?_
   repeat refine ag ?_
   refine wl (α:=Nat×Nat×List Int) (fun⟨v,b,m⟩=>⟨[.ptr 0 0 0,.int .i64 vars,.any,.any,.any,.any,.any,.lsl 1 0 ts.length 11,.int .i64 i,.ptr 2 0 0,.int .i64 v]++replicate 33 .any,[.box true [.fv (.sl (ints xs)),.int .i64 b,.int .i64 0],.row true (av ts),.box true (fC (m,r3))]⟩)
    (fun⟨v,_,_⟩=>vars - v) (fun⟨v,b,m⟩=>v<=vars/\b<=xs.length/\m.length=8/\(∀ e∈m,0<=e/\e<=2)/\ ∀ k,v<=k->m.getD k 0=0) (0,a3,z8) ?_ ⟨dk _,la3,rfl,R8,fun k _=>MB k⟩ ?_
   .refine eH [0,1,2] ?_ ?_
    .simp[bh,dF,cw]
    simp[d_,fD,ij,dL,cw]
   rintro⟨v,b,m⟩ ⟨ow,lb,xS,Pn,hmz⟩
   refine aW ?_
   refine bM ?_ ?_
   .intro g1 g2
    have DU:=LB xs b T9 hl lb hw (by decide) (by decide)
    have xP:=aD xs b
    have hd:=R9 (nN xs b T9.length)
    obtain⟨d,ym⟩:=ax (T9.getD (nN xs b T9.length) 0)
    rw[ym] at DU hd
    have bS:=me (t:=(m,r3)) (i:=v) (x:=d) (by omega) xS
    dsimp only at bS
    have tl:=aH (t:=(m,r3)) xS
    unfold S at DU xP
    refine ae (aB g2 @append_nil.{0}) ?_
    refine eG 0 DU xP ?_
    simp -dsimp(disch:=omega) only[append_nil,UH,bS,tl,Nat.mul_one,↓reduceIte,reduceAdd,reduceLT,reduceLeDiff,ru]
    repeat refine ag ?_
    refine aA (v+1,nx xs b,m.set v d) ?_ ⟨by omega,cD lb,by simp[xS],fun e he=>?_,fun k hk=>by rw[qa,getElem?_set_ne (by omega),<-qa];exact hmz k (by omega)⟩
    .refine eH [0,1,2] ?_ ?_
     .simp[bh,dF,cw]
     simp[d_,fD,ij,dL,cw]
    rcases mem_or_eq_of_mem_set he with h9 | h9
    .exact Pn e h9
    rw[h9];exact hd
   intro g1 g2
   have tl:=aH (t:=(m,r3)) xS
   have KG:=cW (t:=(m,r3)) xS
   have q4:=aU (t:=(m,r3)) xS
   have fl:=aJ (t:=(m,r3)) xS
   have bO:=dT ts (m,r3)
   have rt:=aw ts
   have tk:=bB (ts:=ts) (n:=ts.length) (qp _)
   have e9:((i:Int) - 1)=((i - 1:Nat):Int):=by omega
   simp -dsimp(disch:=omega) only[g2,tl,KG,q4,cT,c_,rt,tk,bO,e9,append_nil,↓reduceIte,reduceAdd,reduceMul,Nat.reduceBEq,reduceLT,reduceLeDiff,ru]
   repeat refine ag ?_
   refine aA (i - 1,b,ts++[(m,r3)]) ?_ ⟨by rw[qe];show i - 1+(ts.length+1)<=terms;omega,lb,en.snoc xS Pn rok,vA.snoc (fun k hk=>hmz k (by omega))⟩
   exact bx [0,4]
  intro h3 h4
  refine ae h4 ?_
  refine wl (α:=Nat×Nat×List Int) (fun⟨v,b,m⟩=>⟨[.ptr 0 0 0,.int .i64 vars,.any,.any,.any,.any,.any,.lsl 1 0 ts.length 11,.int .i64 i,.ptr 2 0 0,.int .i64 v]++replicate 33 .any,[.box true [.fv (.sl (ints xs)),.int .i64 b,.int .i64 0],.row true (av ts),.box true (fC (m,r))]⟩)
   (fun⟨v,_,_⟩=>vars - v) (fun⟨v,b,m⟩=>v<=vars/\b<=xs.length/\m.length=8/\(∀ e∈m,0<=e/\e<=2)/\ ∀ k,v<=k->m.getD k 0=0) (0,a2,z8) ?_ ⟨dk _,Zu,rfl,R8,fun k _=>MB k⟩ ?_
  .refine eH [0,1,2] ?_ ?_
   .simp[bh,dF,cw]
   simp[d_,fD,ij,dL,cw]
  rintro⟨v,b,m⟩ ⟨ow,lb,xS,Pn,hmz⟩
  refine aW ?_
  refine bM ?_ ?_
  .intro g1 g2
   have DU:=LB xs b T9 hl lb hw (by decide) (by decide)
   have xP:=aD xs b
   have hd:=R9 (nN xs b T9.length)
   obtain⟨d,ym⟩:=ax (T9.getD (nN xs b T9.length) 0)
   rw[ym] at DU hd
   have bS:=me (t:=(m,r)) (i:=v) (x:=d) (by omega) xS
   dsimp only at bS
   have tl:=aH (t:=(m,r)) xS
   unfold S at DU xP
   refine ae (aB g2 @append_nil.{0}) ?_
   refine eG 0 DU xP ?_
   simp -dsimp(disch:=omega) only[append_nil,UH,bS,tl,Nat.mul_one,↓reduceIte,reduceAdd,reduceLT,reduceLeDiff,ru]
   repeat refine ag ?_
   refine aA (v+1,nx xs b,m.set v d) ?_ ⟨by omega,cD lb,by simp[xS],fun e he=>?_,fun k hk=>by rw[qa,getElem?_set_ne (by omega),<-qa];exact hmz k (by omega)⟩
   .refine eH [0,1,2] ?_ ?_
    .simp[bh,dF,cw]
    simp[d_,fD,ij,dL,cw]
   rcases mem_or_eq_of_mem_set he with h9 | h9
   .exact Pn e h9
   rw[h9];exact hd
  intro g1 g2
  have tl:=aH (t:=(m,r)) xS
  have KG:=cW (t:=(m,r)) xS
  have q4:=aU (t:=(m,r)) xS
  have fl:=aJ (t:=(m,r)) xS
  have bO:=dT ts (m,r)
  have rt:=aw ts
  have tk:=bB (ts:=ts) (n:=ts.length) (qp _)
  have e9:((i:Int) - 1)=((i - 1:Nat):Int):=by omega
  simp -dsimp(disch:=omega) only[g2,tl,KG,q4,cT,c_,rt,tk,bO,e9,append_nil,↓reduceIte,reduceAdd,reduceMul,Nat.reduceBEq,reduceLT,reduceLeDiff,ru]
  repeat refine ag ?_
  refine aA (i - 1,b,ts++[(m,r)]) ?_ ⟨by rw[qe];show i - 1+(ts.length+1)<=terms;omega,lb,en.snoc xS Pn (bF.mono (by decide)),vA.snoc (fun k hk=>hmz k (by omega))⟩
  exact bx [0,4]
 intro h1 h2
 have Cn:i=0:=by omega
 subst Cn
 refine ae h2 ?_
 exact⟨[.box true [.fv (.sl (ints xs)),.int .i64 a,.int .i64 0],.row true (av ts)],.lsl 1 0 ts.length 11,⟨ts,a,rfl,rfl,ha,by omega,en,vA⟩,RetOK.lentOwn (cd:=True/\True) rfl ⟨cK,cK⟩ rfl (aD xs a) rfl (by decide) rfl⟩
theorem aj7 (xs:List Int) (a vars terms:Nat) (hl:xs.length<=1000) (ha:a<=xs.length) (hw:W64 xs) (hv:vars<=8) (ht:terms<=100):
 ∃ H1 res,(fun H1 res=> ∃ ts:List RT,∃ a':Nat,H1=[S xs a',.row true (av ts)]/\res=PV.lsl 1 0 ts.length 11/\a'<=xs.length/\ts.length<=terms/\Rd3 ts) H1 res/\
  Den Tryz.prog 42 [S xs a] [.ptr 0 0 0,.int .i64 vars,.int .i64 terms] H1 res:=by
 obtain⟨H1,res,⟨ts,a1,h1,h2,h3,h4,h5,_⟩,h⟩:=R_ xs a vars terms hl ha hw hv ht
 exact⟨H1,res,⟨ts,a1,h1,h2,h3,h4,h5⟩,h⟩
end Go.Proofs.YtjjbkjgifdhlcaaGreat
namespace Go.AM
section
variable {P:Program} {T:Tab}
theorem Hl {H:List Ob} {ρ ρ':Operand->PV} {op:Op} (h: ∀ x∈op.operands.toList,ρ x=ρ' x):cq T H ρ op=cq T H ρ' op:=by
 cases op
 case build t parts=>
  have e:parts.toList.map (fun p=>(p.1,ρ p.2))=parts.toList.map (fun p=>(p.1,ρ' p.2)):=List.map_congr_left (fun p hp=>by
   rw[h p.2 (by simp only[Op.operands];exact mem_map.2 ⟨p,hp,rfl⟩)])
  simp only[cq];rw[e]
 case buildSlice t n parts=>
  have e:parts.toList.map (fun p=>(p.1,ρ p.2))=parts.toList.map (fun p=>(p.1,ρ' p.2)):=List.map_congr_left (fun p hp=>by
   rw[h p.2 (by simp only[Op.operands];exact mem_map.2 ⟨p,hp,rfl⟩)])
  simp only[cq];rw[e]
 case makeMap t r=>cases r<;>rfl
 case makeFunc fn first captured=>
  have e1:first.toList.map ρ=first.toList.map ρ':=List.map_congr_left (fun p hp=>h p (by simp only[Op.operands,Array.toList_append,qr];exact .inl hp));have e2:captured.toList.map ρ=captured.toList.map ρ':=List.map_congr_left (fun p hp=>h p (by simp only[Op.operands,Array.toList_append,qr];exact .inr hp));simp only[cq];rw[e1,e2]
 case slice t x lo hi mx=>
  have e0:ρ x=ρ' x:=h x (by simp[Op.operands]);have e1:lo.map ρ=lo.map ρ':=by
   cases lo with
   | none=>rfl
   | some y=>simp only[Option.map_some];rw[h y (by simp[Op.operands])]
  have e2:hi.map ρ=hi.map ρ':=by
   cases hi with
   | none=>rfl
   | some y=>simp only[Option.map_some];rw[h y (by simp[Op.operands])]
  have e3:mx.map ρ=mx.map ρ':=by
   cases mx with
   | none=>rfl
   | some y=>simp only[Option.map_some];rw[h y (by simp[Op.operands])]
  simp only[cq];rw[e0,e1,e2,e3];cases T.at t with
  | none=>rfl
  | some i=>
   obtain⟨d,hd⟩:=Lc (i.d);cases mx with
   | none=>simp only[hd];cases d<;>rfl
   | some y=>
    have ey:ρ y=ρ' y:=h y (by simp[Op.operands]);simp only[hd];cases d<;>first | rfl | (simp only[ey])
 all_goals first
  | rfl
  | (simp[Op.operands] at h;simp only[cq];simp only[h];done)
  | (simp[Op.operands] at h;simp only[cq,h];done)
theorem R' {st:St} {op:Op} {K:PV->List Ob->Prop} (hc: ∀ c,op≠ .call c):WPop P T op st K=(match cq T st.heap (ev st.env) op with | some r=>r.cond/\K r.val r.heap | none=>False):=by
 cases op<;>first | rfl | exact absurd rfl (hc _)
theorem WPop.congr {env env':List PV} {H:List Ob} {op:Op} {K:PV->List Ob->Prop} (h: ∀ x∈op.operands.toList,ev env x=ev env' x) (hw:WPop P T op ⟨env,H⟩ K):WPop P T op ⟨env',H⟩ K:=by
 by_cases hc: ∃ c,op= .call c
 .obtain⟨c,rfl⟩:=hc;obtain⟨callee,args,ts⟩:=c;have ea:args.toList.map (ev env)=args.toList.map (ev env'):=List.map_congr_left (fun x hx=>h x (by
   simp only[Op.operands,Call.operands,Array.toList_append,qr];exact .inr hx))
  simp only[WPop,WPcall] at hw ⊢;cases callee with
  | builtin b=>
   simp only at hw ⊢;rw[ea] at hw;exact hw
  | value f=>
   have ef:ev env f=ev env' f:=h f (by simp[Op.operands,Call.operands]);simp only at hw ⊢;rw[ea,ef] at hw;exact hw
  | invoke r m=>exact hw.elim
 have hr:=Hl (T:=T) (H:=H) h;rw[R' (fun c e=>hc ⟨c,e⟩)] at hw ⊢;simp only at hw ⊢;rw[hr] at hw;exact hw
def wG (ops:Array Oper) (listed:Array Bool) (i d:Nat) (o:Oper):Bool:=
 (List.range ops.size).all fun j=>j==i||listed.getD j true||match ops[j]? with
  | none=>true
  | some oj=>(oj.after.toList.any fun e=>dB e&&e.on==i)||
   (!((oj.op.operands.toList.filterMap Hs).contains d)&&(match oj.dst with | some dj=>dj !=d&&!((o.op.operands.toList.filterMap Hs).contains dj) | none=>true))
theorem Ov {ops:Array Oper} {listed:Array Bool} {i d:Nat} {o:Oper} (h:wG ops listed i d o=true) {j:Nat} {oj:Oper} (hj:ops[j]?=some oj) (e7:j≠i) (hl:listed.getD j true=false) (hn: ∀ e∈oj.after,dB e=true->e.on≠i):
 (∀ x∈oj.op.operands.toList,x≠ .tmp d)/\ ∀ dj,oj.dst=some dj->dj≠d/\ ∀ x∈o.op.operands.toList,x≠ .tmp dj:=by
 unfold wG at h
 rw[vP] at h
 have aL:=(Array.getElem?_eq_some_iff.1 hj).1
 have h1:=h j (List.mem_range.2 aL)
 rw[hj,hl,Bool.or_false] at h1
 have hb:(j==i)=false:=by simpa using e7
 rw[hb,Bool.false_or] at h1
 simp only[qsb,BP,Bool.not_eq_true'] at h1
 rcases h1 with h1 | ⟨h1,h2⟩
 .exfalso
  rw[qpb] at h1
  obtain⟨e,he,h2⟩:=h1
  rw[BP] at h2
  exact hn e (Array.mem_toList_iff.1 he) h2.1 (by simpa using h2.2)
 refine⟨fun x hx Pd=>?_,fun dj hd=>?_⟩
 .subst Pd
  have hm:d∈oj.op.operands.toList.filterMap Hs:=List.mem_filterMap.2 ⟨.tmp d,hx,rfl⟩
  rw[List.contains_iff_mem.2 hm] at h1
  cases h1
 rw[hd] at h2
 simp only[BP,bne_iff_ne,ne_eq,Bool.not_eq_true'] at h2
 refine⟨h2.1,fun x hx Pd=>?_⟩
 subst Pd
 have hm:dj∈o.op.operands.toList.filterMap Hs:=List.mem_filterMap.2 ⟨.tmp dj,hx,rfl⟩
 rw[List.contains_iff_mem.2 hm] at h2
 cases h2.2
theorem YR {env:List PV} {x:Operand} {d:Nat} {v:PV} (h:x≠ .tmp d):ev (env.set d v) x=ev env x:=by
 cases x with
 | tmp t=>
  have e7:d≠t:=fun e=>h (by rw[e])
  show(env.set d v).getD t .any=env.getD t .any;rw[qa,getElem?_set_ne e7,<-qa]
 | _=>rfl
theorem WPany.free {ops:Array Oper} {i d:Nat} {o:Oper} {v:PV} {K:St->Prop} (ho:ops[i]?=some o) (hg:o.guard=none) (hd:o.dst=some d):
 ∀ (n:Nat) (listed:Array Bool) (env:List PV) (H:List Ob),listed.size=ops.size->wG ops listed i d o=true->i∈Region.ready .any ops listed->(∀ H,WPop P T o.op ⟨env,H⟩ (fun v' H'=>v'=v/\H'=H))->
  WPany P T ops n (listed.setIfInBounds i true) ⟨env.set d v,H⟩ K->WPany P T ops (n+1) listed ⟨env,H⟩ K
 | n,listed,env,H,dQ,hfo,hi,hf,hw=>by
  refine⟨fun e=>(by rw[e] at hi;cases hi),fun j hj=>?_⟩;by_cases ss:j=i
  .subst ss;rw[ho];refine⟨hg,WPop.mono (fun v' H' h=>?_) (hf H)⟩;obtain⟨rfl,rfl⟩:=h;rw[hd];exact hw
  obtain⟨sx,oj,PE,pO⟩:=mem_ready.1 hj;obtain⟨ahA,oi,hoi,ahB⟩:=mem_ready.1 hi;have dJ:i<listed.size:=by rw[dQ];exact(Array.getElem?_eq_some_iff.1 ho).1
  have kD:j<listed.size:=by rw[dQ];exact(Array.getElem?_eq_some_iff.1 PE).1
  have set_get: ∀ (a b:Nat) (L:Array Bool),a<L.size->(L.setIfInBounds a true).getD b false=if a=b then true else L.getD b false:=by
   intro a b L ha;by_cases vL:a=b
   .subst vL;simp[ha]
   rw[if_neg vL];simp[Array.getElem?_setIfInBounds_ne vL]
  have set_getT: ∀ (a b:Nat) (L:Array Bool),a≠b->(L.setIfInBounds a true).getD b true=L.getD b true:=by
   intro a b L vL;simp[Array.getElem?_setIfInBounds_ne vL]
  have wZ:j∈Region.ready .any ops (listed.setIfInBounds i true):=mem_ready.2 ⟨by rw[set_getT i j listed (fun e=>ss e.symm)];exact sx,oj,PE,fun e he hb=>by
   rw[set_get i _ listed dJ];split
   .rfl
   exact pO e he hb⟩
  have iR:i∈Region.ready .any ops (listed.setIfInBounds j true):=mem_ready.2 ⟨by rw[set_getT j i listed ss];exact ahA,oi,hoi,fun e he hb=>by
   rw[set_get j _ listed kD];split
   .rfl
   exact ahB e he hb⟩
  cases n with
  | zero=>rw[hw.1] at wZ;cases wZ
  | succ m=>
   have h2:=hw.2 j wZ;rw[PE] at h2 ⊢;obtain⟨Xq,hwj⟩:=h2;obtain⟨k1,k2⟩:=Ov hfo PE ss sx (fun e he hp heq=>by
    have:=pO e he (by rw[wP];exact hp);rw[heq,<-o_ dJ,ahA] at this;cases this)
   have amf:WPop P T oj.op ⟨env,H⟩ (fun v' H'=>WPany P T ops m ((listed.setIfInBounds i true).setIfInBounds j true) (St.upd ⟨env.set d v,H⟩ oj.dst v' H') K):=
    WPop.congr (fun x hx=>YR (k1 x hx)) hwj
   refine⟨Xq,WPop.mono (fun v' H' h=>?_) amf⟩;have bn:(listed.setIfInBounds i true).setIfInBounds j true=(listed.setIfInBounds j true).setIfInBounds i true:=by
    exact Array.setIfInBounds_comm _ _ (fun e=>ss e.symm)
   rw[bn] at h;have ahC:wG ops (listed.setIfInBounds j true) i d o=true:=by
    unfold wG at hfo ⊢;rw[vP] at hfo ⊢;intro q hq;have:=hfo q hq;by_cases Y3:q=j
    .subst Y3;have e:(listed.setIfInBounds q true).getD q true=true:=by simp[kD]
     rw[e];simp
    rw[set_getT j q listed (fun e=>Y3 e.symm)];exact this
   cases hdj:oj.dst with
   | none=>
    rw[hdj] at h;exact WPany.free ho hg hd m _ env H' (by simpa using dQ) ahC iR hf h
   | some dj=>
    rw[hdj] at h;obtain⟨q1,q2⟩:=k2 dj hdj;refine WPany.free ho hg hd m _ (env.set dj v') H' (by simpa using dQ) ahC iR (fun H=>WPop.congr (fun x hx=>(YR (q2 x hx)).symm) (hf H)) ?_;have e:(env.set d v).set dj v'=(env.set dj v').set d v:=List.set_comm _ _ (fun e=>q1 e.symm);show WPany P T ops m _ ⟨(env.set dj v').set d v,H'⟩ K;rw[<-e];exact h
theorem AN.free (i:Nat) (v:PV) {l:List Oper} {n:Nat} {listed:Array Bool} {env:List PV} {H:List Ob} {jO:St} {t:cZ _} (rs:List Nat) (h:Region.ready .any (List.toArray l) listed=rs) (hi:i∈rs) (dQ:listed.size=l.length)
 {d:Nat} {op:Op} {ty:TypeId} {pos:String} {af:Array Edge} (ho:l[i]?=some {dst:=some d,op:=op,type:=ty,pos:=pos,after:=af,guard:=none})
 (hfo:wG (List.toArray l) listed i d {dst:=some d,op:=op,type:=ty,pos:=pos,after:=af,guard:=none}=true)
 (hf: ∀ H,W1 P T op ⟨env,H⟩ (fun v' H'=>v'=v/\H'=H) ⟨⟩)
 (k:AN P T l n (listed.setIfInBounds i true) ⟨env.set d v,H⟩ jO ⟨⟩):AN P T l (n+1) listed ⟨env,H⟩ jO t:=
 WPany.free (o:={dst:=some d,op:=op,type:=ty,pos:=pos,after:=af,guard:=none}) (by rw[List.getElem?_toArray];exact ho) rfl rfl n listed env H (by rw[dQ];simp) hfo (by rw[h];exact hi) hf k
end
end Go.AM
namespace Go.Proofs.YtjjbkjgifdhlcaaGreat
open Go.AM Go.Pl
set_option maxRecDepth 100000
set_option maxHeartbeats 4000000
section
variable {P:Program} {T:Tab}
theorem AN.oneO (i0:Nat) {l:List Oper} {n:Nat} {listed:Array Bool} {env:List PV} {H:List Ob} {jO:St} {t:cZ _} (h:Region.ready .any (List.toArray l) listed=[i0])
 {d0:Option Nat} {Zw:Op} {ty0:TypeId} {TU:String} {af0:Array Edge} (Pc:l[i0]?=some {dst:=d0,op:=Zw,type:=ty0,pos:=TU,after:=af0,guard:=none})
 (k0:W1 P T Zw ⟨env,H⟩ (fun v H=>AN P T l n (listed.setIfInBounds i0 true) ⟨tN env d0 v,H⟩ jO ⟨⟩) ⟨⟩)
 :AN P T l (n+1) listed ⟨env,H⟩ jO t:=
 AN.step [i0] h (by simp) (fun j hj=>by
  simp only[BL,not_mem_nil,or_false] at hj;subst hj;exact⟨_,Pc,rfl,k0⟩)
theorem AN.twoO (i0 i1:Nat) {l:List Oper} {n:Nat} {listed:Array Bool} {env:List PV} {H:List Ob} {jO:St} {t:cZ _} (h:Region.ready .any (List.toArray l) listed=[i0,i1])
 {d0:Option Nat} {Zw:Op} {ty0:TypeId} {TU:String} {af0:Array Edge} (Pc:l[i0]?=some {dst:=d0,op:=Zw,type:=ty0,pos:=TU,after:=af0,guard:=none})
 {d1:Option Nat} {op1:Op} {ty1:TypeId} {abW:String} {af1:Array Edge} (jo:l[i1]?=some {dst:=d1,op:=op1,type:=ty1,pos:=abW,after:=af1,guard:=none})
 (k0:W1 P T Zw ⟨env,H⟩ (fun v H=>AN P T l n (listed.setIfInBounds i0 true) ⟨tN env d0 v,H⟩ jO ⟨⟩) ⟨⟩)
 (k1:W1 P T op1 ⟨env,H⟩ (fun v H=>AN P T l n (listed.setIfInBounds i1 true) ⟨tN env d1 v,H⟩ jO ⟨⟩) ⟨⟩)
 :AN P T l (n+1) listed ⟨env,H⟩ jO t:=
 AN.step [i0,i1] h (by simp) (fun j hj=>by
  simp only[BL,not_mem_nil,or_false] at hj;rcases hj with rfl | rfl
  .exact⟨_,Pc,rfl,k0⟩
  exact⟨_,jo,rfl,k1⟩)
theorem AN.threeO (i0 i1 i2:Nat) {l:List Oper} {n:Nat} {listed:Array Bool} {env:List PV} {H:List Ob} {jO:St} {t:cZ _} (h:Region.ready .any (List.toArray l) listed=[i0,i1,i2])
 {d0:Option Nat} {Zw:Op} {ty0:TypeId} {TU:String} {af0:Array Edge} (Pc:l[i0]?=some {dst:=d0,op:=Zw,type:=ty0,pos:=TU,after:=af0,guard:=none})
 {d1:Option Nat} {op1:Op} {ty1:TypeId} {abW:String} {af1:Array Edge} (jo:l[i1]?=some {dst:=d1,op:=op1,type:=ty1,pos:=abW,after:=af1,guard:=none})
 {d2:Option Nat} {op2:Op} {ty2:TypeId} {ami:String} {af2:Array Edge} (fE:l[i2]?=some {dst:=d2,op:=op2,type:=ty2,pos:=ami,after:=af2,guard:=none})
 (k0:W1 P T Zw ⟨env,H⟩ (fun v H=>AN P T l n (listed.setIfInBounds i0 true) ⟨tN env d0 v,H⟩ jO ⟨⟩) ⟨⟩)
 (k1:W1 P T op1 ⟨env,H⟩ (fun v H=>AN P T l n (listed.setIfInBounds i1 true) ⟨tN env d1 v,H⟩ jO ⟨⟩) ⟨⟩)
 (k2:W1 P T op2 ⟨env,H⟩ (fun v H=>AN P T l n (listed.setIfInBounds i2 true) ⟨tN env d2 v,H⟩ jO ⟨⟩) ⟨⟩)
 :AN P T l (n+1) listed ⟨env,H⟩ jO t:=
 AN.step [i0,i1,i2] h (by simp) (fun j hj=>by
  simp only[BL,not_mem_nil,or_false] at hj;rcases hj with rfl | rfl | rfl
  .exact⟨_,Pc,rfl,k0⟩
  .exact⟨_,jo,rfl,k1⟩
  exact⟨_,fE,rfl,k2⟩)
theorem Draw.goO (f:St->St) {l:List Oper} {K:St->Prop} {st:St} {t:cZ _} (h:AN P T l l.length (Array.replicate l.length false) st (f st) ⟨⟩) (k:K (f st)):Draw P T l st K t:=Draw.any (f st) h k
end
theorem Rd3.ts {ts:List RT} (h:Rd3 ts):TsOk 10 ts:=fun t ht=>⟨(h t ht).1,fun x hx=>by have:=(h t ht).2.1 x hx;omega,(h t ht).2.2.mono (by decide)⟩
abbrev YS:List Int:=[-1,1024,1025]
theorem aag (i:Nat): -1<=YS.getD i 0/\YS.getD i 0<=1025:=by
 rcases i with _ | _ | _ | i<;>simp[YS]
theorem VA {t:RT} {i:Nat} {x:Int} (h:i<8) (hl:t.1.length=8):List.take i (gC t)++([FV.lit (.int .i64 x)]++List.drop (i+1) (gC t))=gC (t.1.set i x,t.2):=by
 unfold gC jl;rw[List.take_append_of_le_length (by simp;omega),List.drop_append_of_le_length (by simp;omega),List.set_eq_take_append_cons_drop,if_pos (by omega)];simp
theorem aj8 (xs:List Int) (a vars terms:Nat) (hl:xs.length<=1000) (ha:a<=xs.length) (hw:W64 xs) (hv:vars<=8) (ht:terms<=100):
 ∃ H1 res,(fun H1 res=> ∃ ts:List RT,∃ a':Nat,H1=[S xs a',.row true (av ts)]/\res=PV.lsl 1 0 ts.length 11/\a'<=xs.length/\ts.length<=terms/\TsOk 10 ts) H1 res/\
  Den Tryz.prog 25 [S xs a] [.ptr 0 0 0,.int .i64 vars,.int .i64 terms] H1 res:=by
 obtain⟨H1,res,⟨ts,a1,rfl,rfl,la1,aF,en⟩,Bv⟩:=aj7 xs a vars terms hl ha hw hv ht
 have hc:=aD xs a
 have h6:=l_ xs a1 6 hl la1 hw (by decide) (by decide)
 have sq:=aD xs a1
 have Zu:nx xs a1<=xs.length:=cD la1
 obtain⟨n,hn⟩:=ax ts.length
 obtain⟨m,hm⟩:=ax (nN xs a1 6)
 obtain⟨a2,Fx⟩:=ax (nx xs a1)
 rw[hm,Fx] at h6
 rw[Fx] at Zu
 rw[hn] at Bv aF
 have rl:=aw ts
 rw[hn] at rl
 have dP:lent 0 1 1=1:=rfl
 unfold S at Bv hc h6 sq
 unfold S
 by_cases h0:n=0
 .have e1:decide ((n:Int)>0)=false:=oc
  refine Lh Tryz.func25 31 1 ?_
  refine aW ?_
  refine eG 0 Bv hc ?_
  refine f9 (bA e1 dP @iL) ?_
  exact⟨[.box true [.fv (.sl (ints xs)),.int .i64 a1,.int .i64 0],.row true (av ts)],.lsl 1 0 n 11,⟨ts,a1,rfl,by rw[hn],la1,by omega,en.ts⟩,RetOK.lentOwn (cd:=True/\True) rfl ⟨cK,cK⟩ rfl (aD xs a1) rfl (by decide) rfl⟩
 have e1:decide ((n:Int)>0)=true:=yP
 by_cases h5:m=5
 .have e2:((m:Int)==5)=true:=by rw[h5];rfl
  have g1:=l_ xs a2 n hl Zu hw (by omega) (by omega)
  have pz:=aD xs a2
  have lt1:=et (xs:=xs) (a:=a2) (n:=n) (by omega)
  obtain⟨k,hk⟩:=ax (nN xs a2 n)
  obtain⟨a3,Ui⟩:=ax (nx xs a2)
  have la3:a3<=xs.length:=by rw[<-Ui];exact cD Zu
  rw[hk,Ui] at g1
  rw[hk] at lt1
  have g2:=l_ xs a3 8 hl la3 hw (by decide) (by decide)
  have Jd:=aD xs a3
  have lt2:=et (xs:=xs) (a:=a3) (n:=8) (by omega)
  obtain⟨v,Wr⟩:=ax (nN xs a3 8)
  obtain⟨a4,Za⟩:=ax (nx xs a3)
  have la4:a4<=xs.length:=by rw[<-Za];exact cD la3
  rw[Wr,Za] at g2
  rw[Wr] at lt2
  have g3:=LB xs a4 YS hl la4 hw (by decide) (by decide)
  have w5:=aD xs a4
  have la5:nx xs a4<=xs.length:=cD la4
  obtain⟨a5,ha5⟩:=ax (nx xs a4)
  have hd:=aag (nN xs a4 YS.length)
  obtain⟨d,ym⟩:=ax (YS.getD (nN xs a4 YS.length) 0)
  rw[ym] at g3 hd
  rw[ha5] at g3 la5
  have pL:k<ts.length:=by omega
  have r1:=cE (ts:=ts) (i:=k) pL
  have aY:=fH pL
  have Ze:=(en _ aY).1
  have bS:=VA (t:=ts.getD k mf) (i:=v) (x:=d) lt2 Ze
  have tl:=aJ Ze
  have bn:=rQ ts k ((ts.getD k mf).1.set v d,(ts.getD k mf).2)
  have Bw:TsOk 10 (ts.set k ((ts.getD k mf).1.set v d,(ts.getD k mf).2)):=fun u hu=>by
   rcases mem_or_eq_of_mem_set hu with h9 | h9
   .exact en.ts u h9
   rw[h9];have:=en.ts _ aY;exact⟨by rw[length_set];exact this.len,fun x hx=>by
    rcases mem_or_eq_of_mem_set hx with sW | sW
    .exact this.rng x sW
    rw[sW];omega,this.raw⟩
  obtain⟨t,Bp⟩:=ax (ts.getD k mf)
  rw[Bp] at r1 bS tl bn Bw
  unfold S at g1 g2 g3 pz Jd w5
  refine Lh Tryz.func25 31 1 ?_
  refine aW ?_
  refine eG 0 Bv hc ?_
  refine f9 (aB e1 dP) ?_
  refine eG 0 h6 sq ?_
  refine f9 e2 ?_
  have su: ∀ (o:Ob) (l:List Ob),shutBs (o::l) 0 [.ptr 0 0 0,.lsl 2 0 3 1]=shutIds [2] (o::l):=fun _ _=>rfl
  have lX:List.take v (gC t)++[FV.lit (.int .i64 d)]++List.drop (v+1) (gC t)=gC (t.1.set v d,t.2):=by rw[append_assoc];exact bS
  refine Draw.goO (fun s=>⟨s.env.take 20++([.lsl 1 0 n 11,.ptr 0 0 0,.lsl 1 0 n 11,.int .i64 n,.int .i64 k,.ptr 0 0 0,.int .i64 v,.ptr 0 0 0,.lsl 2 0 3 1,.int .i64 d,.ptr 1 k 0,.ptr 1 k 0,.ptr 1 k v]:List PV)++s.env.drop 33,[.box true [.fv (.sl (ints xs)),.int .i64 (a5:Int),.int .i64 0],.row true (av (ts.set k (t.1.set v d,t.2))),.row false (ints YS)]⟩) ?_ ?_
  .refine AN.free 0 (.lsl 1 0 n 11) [0,1,2,5,7,8] (by kernel_rfl) (by simp) rfl rfl (by kernel_rfl) ?_ ?_
   .intro H
    refine aN ?_;trivial
   refine AN.free 1 (.ptr 0 0 0) [1,2,5,7,8] (by kernel_rfl) (by simp) rfl rfl (by kernel_rfl) ?_ ?_
   .intro H
    refine aN ?_;trivial
   refine AN.free 2 (.lsl 1 0 n 11) [2,5,7,8] (by kernel_rfl) (by simp) rfl rfl (by kernel_rfl) ?_ ?_
   .intro H
    refine aN ?_;trivial
   refine AN.free 3 (.int .i64 n) [3,5,7,8] (by kernel_rfl) (by simp) rfl rfl (by kernel_rfl) ?_ ?_
   .intro H
    refine aN ?_;trivial
   refine AN.free 5 (.ptr 0 0 0) [4,5,7,8] (by kernel_rfl) (by simp) rfl rfl (by kernel_rfl) ?_ ?_
   .intro H
    refine aN ?_;trivial
   refine AN.free 7 (.ptr 0 0 0) [4,7,8] (by kernel_rfl) (by simp) rfl rfl (by kernel_rfl) ?_ ?_
   .intro H
    refine aN ?_;trivial
   refine AN.twoO 4 8 (by kernel_rfl) rfl rfl ?_ ?_
   refine aN ?_
   refine eG 0 g1 pz ?_
   refine so ?_
   refine AN.threeO 6 8 10 (by kernel_rfl) rfl rfl rfl ?_ ?_ ?_
   refine aN ?_
   refine eG 0 g2 Jd ?_
   refine so ?_
   refine AN.twoO 8 10 (by kernel_rfl) rfl rfl ?_ ?_
   refine ae @append_nil.{0} ?_
   refine AN.twoO 9 10 (by kernel_rfl) rfl rfl ?_ ?_
   refine aN ?_
   refine vF 0 g3 (by simp[]) rfl w5 rfl rfl rfl ?_
   refine ae (aB su @append_nil.{0}) ?_
   refine AN.oneO 10 (by kernel_rfl) rfl ?_
   refine aN ?_
   refine⟨by omega,?_⟩
   refine AN.oneO 11 (by kernel_rfl) rfl ?_
   refine aN ?_
   rotate_left
   refine aN ?_
   refine⟨by omega,?_⟩
   refine AN.twoO 9 11 (by kernel_rfl) rfl rfl ?_ ?_
   refine aN ?_
   refine vF 0 g3 (by simp[]) rfl w5 rfl rfl rfl ?_
   refine ae (aB su @append_nil.{0}) ?_
   refine AN.oneO 11 (by kernel_rfl) rfl ?_
   refine aN ?_
   rotate_left
   refine aN ?_
   refine AN.oneO 9 (by kernel_rfl) rfl ?_
   refine aN ?_
   refine vF 0 g3 (by simp[]) rfl w5 rfl rfl rfl ?_
   refine ae (aB su @append_nil.{0}) ?_
   rotate_left
   refine aN ?_
   refine⟨by omega,?_⟩
   refine AN.twoO 8 11 (by kernel_rfl) rfl rfl ?_ ?_
   refine ae @append_nil.{0} ?_
   refine AN.twoO 9 11 (by kernel_rfl) rfl rfl ?_ ?_
   refine aN ?_
   refine vF 0 g3 (by simp[]) rfl w5 rfl rfl rfl ?_
   refine ae (aB su @append_nil.{0}) ?_
   refine AN.oneO 11 (by kernel_rfl) rfl ?_
   refine aN ?_
   rotate_left
   refine aN ?_
   refine AN.oneO 9 (by kernel_rfl) rfl ?_
   refine aN ?_
   refine vF 0 g3 (by simp[]) rfl w5 rfl rfl rfl ?_
   refine ae (aB su @append_nil.{0}) ?_
   rotate_left
   refine aN ?_
   refine AN.oneO 8 (by kernel_rfl) rfl ?_
   refine ae @append_nil.{0} ?_
   refine AN.oneO 9 (by kernel_rfl) rfl ?_
   refine aN ?_
   refine vF 0 g3 (by simp[]) rfl w5 rfl rfl rfl ?_
   refine ae (aB su @append_nil.{0}) ?_
   rotate_left
   refine ae @append_nil.{0} ?_
   refine AN.twoO 6 10 (by kernel_rfl) rfl rfl ?_ ?_
   refine aN ?_
   refine eG 0 g2 Jd ?_
   refine so ?_
   refine AN.twoO 9 10 (by kernel_rfl) rfl rfl ?_ ?_
   refine aN ?_
   refine vF 0 g3 (by simp[]) rfl w5 rfl rfl rfl ?_
   refine ae (aB su @append_nil.{0}) ?_
   refine AN.oneO 10 (by kernel_rfl) rfl ?_
   refine aN ?_
   refine⟨by omega,?_⟩
   refine AN.oneO 11 (by kernel_rfl) rfl ?_
   refine aN ?_
   rotate_left
   refine aN ?_
   refine⟨by omega,?_⟩
   refine AN.twoO 9 11 (by kernel_rfl) rfl rfl ?_ ?_
   refine aN ?_
   refine vF 0 g3 (by simp[]) rfl w5 rfl rfl rfl ?_
   refine ae (aB su @append_nil.{0}) ?_
   refine AN.oneO 11 (by kernel_rfl) rfl ?_
   refine aN ?_
   rotate_left
   refine aN ?_
   refine AN.oneO 9 (by kernel_rfl) rfl ?_
   refine aN ?_
   refine vF 0 g3 (by simp[]) rfl w5 rfl rfl rfl ?_
   refine ae (aB su @append_nil.{0}) ?_
   rotate_left
   refine aN ?_
   refine⟨by omega,?_⟩
   refine AN.twoO 6 11 (by kernel_rfl) rfl rfl ?_ ?_
   refine aN ?_
   refine eG 0 g2 Jd ?_
   refine so ?_
   refine AN.twoO 9 11 (by kernel_rfl) rfl rfl ?_ ?_
   refine aN ?_
   refine vF 0 g3 (by simp[]) rfl w5 rfl rfl rfl ?_
   refine ae (aB su @append_nil.{0}) ?_
   refine AN.oneO 11 (by kernel_rfl) rfl ?_
   refine aN ?_
   rotate_left
   refine aN ?_
   refine AN.oneO 9 (by kernel_rfl) rfl ?_
   refine aN ?_
   refine vF 0 g3 (by simp[]) rfl w5 rfl rfl rfl ?_
   refine ae (aB su @append_nil.{0}) ?_
   rotate_left
   refine aN ?_
   refine AN.oneO 6 (by kernel_rfl) rfl ?_
   refine aN ?_
   refine eG 0 g2 Jd ?_
   refine so ?_
   refine AN.oneO 9 (by kernel_rfl) rfl ?_
   refine aN ?_
   refine vF 0 g3 (by simp[]) rfl w5 rfl rfl rfl ?_
   refine ae (aB su @append_nil.{0}) ?_
   rotate_left
   refine aN ?_
   refine⟨by omega,?_⟩
   refine AN.threeO 6 8 11 (by kernel_rfl) rfl rfl rfl ?_ ?_ ?_
   refine aN ?_
   refine eG 0 g2 Jd ?_
   refine so ?_
   refine AN.twoO 8 11 (by kernel_rfl) rfl rfl ?_ ?_
   refine ae @append_nil.{0} ?_
   refine AN.twoO 9 11 (by kernel_rfl) rfl rfl ?_ ?_
   refine aN ?_
   refine vF 0 g3 (by simp[]) rfl w5 rfl rfl rfl ?_
   refine ae (aB su @append_nil.{0}) ?_
   refine AN.oneO 11 (by kernel_rfl) rfl ?_
   refine aN ?_
   rotate_left
   refine aN ?_
   refine AN.oneO 9 (by kernel_rfl) rfl ?_
   refine aN ?_
   refine vF 0 g3 (by simp[]) rfl w5 rfl rfl rfl ?_
   refine ae (aB su @append_nil.{0}) ?_
   rotate_left
   refine aN ?_
   refine AN.oneO 8 (by kernel_rfl) rfl ?_
   refine ae @append_nil.{0} ?_
   refine AN.oneO 9 (by kernel_rfl) rfl ?_
   refine aN ?_
   refine vF 0 g3 (by simp[]) rfl w5 rfl rfl rfl ?_
   refine ae (aB su @append_nil.{0}) ?_
   rotate_left
   refine ae @append_nil.{0} ?_
   refine AN.twoO 6 11 (by kernel_rfl) rfl rfl ?_ ?_
   refine aN ?_
   refine eG 0 g2 Jd ?_
   refine so ?_
   refine AN.twoO 9 11 (by kernel_rfl) rfl rfl ?_ ?_
   refine aN ?_
   refine vF 0 g3 (by simp[]) rfl w5 rfl rfl rfl ?_
   refine ae (aB su @append_nil.{0}) ?_
   refine AN.oneO 11 (by kernel_rfl) rfl ?_
   refine aN ?_
   rotate_left
   refine aN ?_
   refine AN.oneO 9 (by kernel_rfl) rfl ?_
   refine aN ?_
   refine vF 0 g3 (by simp[]) rfl w5 rfl rfl rfl ?_
   refine ae (aB su @append_nil.{0}) ?_
   rotate_left
   refine aN ?_
   refine AN.oneO 6 (by kernel_rfl) rfl ?_
   refine aN ?_
   refine eG 0 g2 Jd ?_
   refine so ?_
   refine AN.oneO 9 (by kernel_rfl) rfl ?_
   refine aN ?_
   refine vF 0 g3 (by simp[]) rfl w5 rfl rfl rfl ?_
   refine ae (aB su @append_nil.{0}) ?_
   rotate_left
   refine aN ?_
   refine AN.twoO 6 8 (by kernel_rfl) rfl rfl ?_ ?_
   refine aN ?_
   refine eG 0 g2 Jd ?_
   refine so ?_
   refine AN.oneO 8 (by kernel_rfl) rfl ?_
   refine ae @append_nil.{0} ?_
   refine AN.oneO 9 (by kernel_rfl) rfl ?_
   refine aN ?_
   refine vF 0 g3 (by simp[]) rfl w5 rfl rfl rfl ?_
   refine ae (aB su @append_nil.{0}) ?_
   rotate_left
   refine ae @append_nil.{0} ?_
   refine AN.oneO 6 (by kernel_rfl) rfl ?_
   refine aN ?_
   refine eG 0 g2 Jd ?_
   refine so ?_
   refine AN.oneO 9 (by kernel_rfl) rfl ?_
   refine aN ?_
   refine vF 0 g3 (by simp[]) rfl w5 rfl rfl rfl ?_
   refine ae (aB su @append_nil.{0}) ?_
   rotate_left
   refine ae @append_nil.{0} ?_
   refine AN.oneO 4 (by kernel_rfl) rfl ?_
   refine aN ?_
   refine eG 0 g1 pz ?_
   refine so ?_
   refine AN.twoO 6 10 (by kernel_rfl) rfl rfl ?_ ?_
   refine aN ?_
   refine eG 0 g2 Jd ?_
   refine so ?_
   refine AN.twoO 9 10 (by kernel_rfl) rfl rfl ?_ ?_
   refine aN ?_
   refine vF 0 g3 (by simp[]) rfl w5 rfl rfl rfl ?_
   refine ae (aB su @append_nil.{0}) ?_
   refine AN.oneO 10 (by kernel_rfl) rfl ?_
   refine aN ?_
   refine⟨by omega,?_⟩
   refine AN.oneO 11 (by kernel_rfl) rfl ?_
   refine aN ?_
   rotate_left
   refine aN ?_
   refine⟨by omega,?_⟩
   refine AN.twoO 9 11 (by kernel_rfl) rfl rfl ?_ ?_
   refine aN ?_
   refine vF 0 g3 (by simp[]) rfl w5 rfl rfl rfl ?_
   refine ae (aB su @append_nil.{0}) ?_
   refine AN.oneO 11 (by kernel_rfl) rfl ?_
   refine aN ?_
   rotate_left
   refine aN ?_
   refine AN.oneO 9 (by kernel_rfl) rfl ?_
   refine aN ?_
   refine vF 0 g3 (by simp[]) rfl w5 rfl rfl rfl ?_
   refine ae (aB su @append_nil.{0}) ?_
   rotate_left
   refine aN ?_
   refine⟨by omega,?_⟩
   refine AN.twoO 6 11 (by kernel_rfl) rfl rfl ?_ ?_
   refine aN ?_
   refine eG 0 g2 Jd ?_
   refine so ?_
   refine AN.twoO 9 11 (by kernel_rfl) rfl rfl ?_ ?_
   refine aN ?_
   refine vF 0 g3 (by simp[]) rfl w5 rfl rfl rfl ?_
   refine ae (aB su @append_nil.{0}) ?_
   refine AN.oneO 11 (by kernel_rfl) rfl ?_
   refine aN ?_
   rotate_left
   refine aN ?_
   refine AN.oneO 9 (by kernel_rfl) rfl ?_
   refine aN ?_
   refine vF 0 g3 (by simp[]) rfl w5 rfl rfl rfl ?_
   refine ae (aB su @append_nil.{0}) ?_
   rotate_left
   refine aN ?_
   refine AN.oneO 6 (by kernel_rfl) rfl ?_
   refine aN ?_
   refine eG 0 g2 Jd ?_
   refine so ?_
   refine AN.oneO 9 (by kernel_rfl) rfl ?_
   refine aN ?_
   refine vF 0 g3 (by simp[]) rfl w5 rfl rfl rfl ?_
   refine ae (aB su @append_nil.{0}) ?_
   rotate_left
   all_goals
    refine AN.oneO 12 (by kernel_rfl) rfl ?_;refine ae @Nat.mul_one ?_;refine⟨by omega,?_⟩;refine AN.oneO 13 (by kernel_rfl) rfl ?_;refine ae (fO rl r1 lX bn @append_nil.{0}) ?_
    repeat refine ag ?_
    exact AN.nil (by kernel_rfl) rfl
  refine ae @iL ?_
  exact⟨[.box true [.fv (.sl (ints xs)),.int .i64 a5,.int .i64 0],.row true (av (ts.set k (t.1.set v d,t.2)))],.lsl 1 0 n 11,⟨ts.set k (t.1.set v d,t.2),a5,rfl,by rw[length_set,hn],la5,by rw[length_set];omega,Bw⟩,RetOK.lentOwn (cd:=True/\True) rfl ⟨cK,cK⟩ rfl (aD xs a5) rfl (by decide) rfl⟩
 have e2:((m:Int)==5)=false:=by rw[qx];omega
 refine Lh Tryz.func25 31 1 ?_
 refine aW ?_
 refine eG 0 Bv hc ?_
 refine f9 (aB e1 dP) ?_
 refine eG 0 h6 sq ?_
 refine f9 (aB e2 @iL) ?_
 exact⟨[.box true [.fv (.sl (ints xs)),.int .i64 a2,.int .i64 0],.row true (av ts)],.lsl 1 0 n 11,⟨ts,a2,rfl,by rw[hn],Zu,by omega,en.ts⟩,RetOK.lentOwn (cd:=True/\True) rfl ⟨cK,cK⟩ rfl (aD xs a2) rfl (by decide) rfl⟩
end Go.Proofs.YtjjbkjgifdhlcaaGreat
namespace Go.Proofs.YtjjbkjgifdhlcaaGreat
open Go.AM Go.Pl
set_option maxRecDepth 100000
set_option maxHeartbeats 4000000
structure RdR (r:RR):Prop where
 ok: ∀ l∈r.1,LOk 4 l
 two:Two 0 1 r.1
 len:r.1.length<=5
 rd:Rd3 r.2
 duo: ∀ t∈r.2,∀ i,2<=i->t.1.getD i 0=0
 few:r.2.length<=2
def VB (L:List RR):Prop:=((∀ r∈L,RdR r)/\L.length<=2)\/ ∃ ts,L=[([],ts)]/\TsOk 10 ts/\ts.length<=2
theorem aah {ts:List RT} (h:Rd3 ts):validB ts=true:=by
 unfold validB;rw[vP];intro t ht;unfold gG;rw[vP];intro e he;have:=(h t ht).2.1 e he;rw[BP];exact⟨f3 (by omega),f3 (by omega)⟩
theorem Sa {ts:List RT} {j k n:Nat} (hj:1<=j) (h:TsOk j ts) (hn:ts.length<=n) (hk:n*(j+1)+1<=k):PB k (ts.map tq):=PB.terms hj (fun t ht=>by
 obtain⟨u,hu,rfl⟩:=mem_map.1 ht;exact(h u hu).raw.bd hj) (by rw[length_map];exact hn) hk
theorem YT {ts:List RT} (h:TsOk 10 ts) (hn:ts.length<=2):Et ts:=by
 have h1:=Ek ts;have h2:bk=12:=rfl;exact⟨fun t ht=>(h t ht).mono (by decide),(Sa (k:=23) (by decide) h hn (by decide)).mono (by decide),by omega,by omega⟩
theorem RdR.q {r:RR} (h:RdR r):RgQ 0 1 2 2 6 23 5 (r.1,nfR r.2):=by
 have sW:=h.rd.ts;refine⟨fun l hl=>(h.ok l hl).mono (by decide),h.two,by have:=h.len;show r.1.length<=40;omega,gD (kn _) h.len,dc (p_ sW.l8),?_,(Sa (k:=23) (by decide) sW h.few (by decide)).nf,.inl (by decide)⟩;refine Duo.nf (fun t ht=>?_);obtain⟨u,hu,rfl⟩:=mem_map.1 ht;have h1:=h.rd u hu;exact⟨h1.1,fun i _ h2 h3=>h.duo u hu i (by omega),jX (by decide) h1.2.1 0,jX (by decide) h1.2.1 1⟩
theorem Dt: ∀ {L:List RR},(∀ r∈L,Canon (nfR r.2))->normL ((L.map (fun r=>(r.1,nfR r.2))).map rn)=normL L
 | [],_=>rfl
 | r::L,h=>by
  have ih:=Dt (L:=L) (fun x hx=>h x (ql _ hx));have hr:nfR ((nfR r.2).map tn)=nfR r.2:=sc (h r (by simp));have hk:i9 (rn (r.1,nfR r.2))=i9 r:=by
   unfold i9;show(aZ r.1&&!(nfR ((nfR r.2).map tn)).isEmpty)=_;rw[hr]
  unfold normL at ih ⊢;rw[map_cons,map_cons];cases hb:i9 r with
  | true=>
   rw[List.filter_cons_of_pos (by rw[hk,hb]),List.filter_cons_of_pos hb,map_cons,map_cons,ih];show(aQ r.1,nfR ((nfR r.2).map tn))::_=_;rw[hr]
  | false=>rw[filter_cons_of_neg (by rw[hk,hb];decide),filter_cons_of_neg (by rw[hb];decide),ih]
theorem MC {L:List RR} (hc:L.length<=4000) (h: ∀ r∈L,r.1.length<=40) (hv: ∀ r∈L,validB r.2=true):i7 [L]=0:=by
 have h1:dU L=false:=by
  unfold dU;rw[Bool.or_eq_false_iff];refine⟨jI (by omega),?_⟩;rw[List.any_eq_false];intro x hx;have:=h x hx;simp[eY];omega
 have h2:fw L=true:=by
  unfold fw;rw[vP];exact hv
 unfold i7;rw[if_neg (by simp[h1]),if_pos (by simp[h2])]
theorem MD:g_ 0 1 2 2 6 23 5 2:=⟨by decide,by decide,by decide,by decide,by decide,by decide,by decide,by decide⟩
def EK (L:List RR) (x:PV):Prop:=Den Tryz.prog 90 [] [RL' L] [] x/\Den Tryz.prog 92 [] [RL' L] [] x
theorem Sb {L:List RR} (h: ∀ r∈L,RdR r) (hl:L.length<=2): ∃ M,IA 0 1 M/\EK L (.tup [RL' (M.map rn),.int .i64 0]):=by
 obtain⟨L',hL'⟩: ∃ t,L.map (fun r=>(r.1,nfR r.2))=t:=⟨_,rfl⟩;have hq: ∀ r∈L',RgQ 0 1 2 2 6 23 5 r:=fun r hr=>by
  rw[<-hL'] at hr;obtain⟨x,hx,rfl⟩:=mem_map.1 hr;exact(h x hx).q
 have nk:L'.length<=2:=by rw[<-hL',length_map];exact hl
 have hn:normL (L'.map rn)=normL L:=by rw[<-hL'];exact Dt (fun r hr=>(h r hr).q.can)
 have yU:=Mt MD hq nk;have hf:=yU.few;have hm:=yU.mer;rw[hn] at hf hm;have pQ: ∀ r∈L,Et r.2:=fun r hr=>YT (h r hr).rd.ts (h r hr).few
 have f_: ∀ r∈L,r.1.length<=1000000:=fun r hr=>by have:=(h r hr).len;omega
 have hv: ∀ r∈L,validB r.2=true:=fun r hr=>aah (h r hr).rd
 have hNr:G7 L:=⟨pQ,hv,fun r hr _=>(h r hr).q.cst MD,by omega,f_,hf,hm⟩;have hz:i7 [L]=0:=MC (by omega) (fun r hr=>by have:=(h r hr).len;omega) hv;have ho:=(nX (l:=L') (fun r hr=>⟨(hq r hr).can,(hq r hr).cst MD⟩)).2;rw[hn] at ho;have lU:=RK L (by omega) pQ f_ (fun _=>hNr);have lV:=Vw L (by omega) pQ f_ (fun _=>hNr);unfold Ev at lU lV;rw[if_pos hz,ho] at lU lV;have aY:=EE MD hq (fun r hr=> .inl (by decide)) nk;exact⟨nrmL L',⟨aY.1,aY.2.1,aY.2.2⟩,lU,lV⟩
def nilM (p:List Tm):List RC:=if p=[] then [] else [([],p)]
theorem Ow (p:List Tm):ir (nilM p)=nilM p:=by
 unfold nilM;by_cases h:p=[]
 .rw[if_pos h];rfl
 rw[if_neg h];show gB [] ([],p)=_;unfold gB;rw[if_neg h]
theorem AB (p:List Tm):(nilM p).length<=1:=by
 unfold nilM;split
 .exact dk _
 exact qp _
theorem n5 {p:List Tm} {x:RC} (h:x∈nilM p):x=([],p)/\p≠[]:=by
 unfold nilM at h;split at h
 .simp at h
 next h0=>exact⟨List.mem_singleton.1 h,h0⟩
theorem VC:tZ []:=JQ (v:=0) (w:=0) (k:=1) (by simp) (by decide) (by intro l hl;simp at hl) (by simp) (.inl (by simp[ncs]))
theorem Ox (ts:List RT):normL [([],ts)]=nilM (nfR ts):=by
 have hk:i9 ([],ts)=!(nfR ts).isEmpty:=by
  unfold i9;show(aZ []&&_)=_;rw[wF,Bool.true_and]
 unfold normL nilM;cases hp:nfR ts with
 | nil=>
  rw[if_pos rfl,filter_cons_of_neg (by rw[hk,hp];decide)];rfl
 | cons a b=>
  rw[if_neg (by simp),List.filter_cons_of_pos (by rw[hk,hp];rfl)];show [(aQ [],nfR ts)]=_;rw[Aq,hp]
theorem Hm {ts:List RT} (pQ:Et ts) (hv:validB ts=true) (hp:POk 10000000 1024 (nfR ts)) (hl:(nfR ts).length<=12):EK [([],ts)] (.tup [RL' ((nilM (nfR ts)).map rn),.int .i64 0]):=by
 have aY: ∀ r:RR,r∈[(([],ts):RR)]->r=([],ts):=fun r hr=>List.mem_singleton.1 hr
 have abX: ∀ r∈[(([],ts):RR)],Et r.2:=fun r hr=>by rw[aY r hr];exact pQ
 have f_: ∀ r∈[(([],ts):RR)],r.1.length<=1000000:=fun r hr=>by rw[aY r hr];simp
 have fh: ∀ r∈[(([],ts):RR)],validB r.2=true:=fun r hr=>by rw[aY r hr];exact hv
 have hn:=Ox ts;have hNr:G7 [([],ts)]:=⟨abX,fh,fun r hr _=>by rw[aY r hr];exact VC,by simp,f_,by rw[hn];have:=AB (nfR ts);omega,fun t u ht=>by
  rw[hn] at ht;have aF:=ht.length_eq;have h1:=AB (nfR ts);rw[qe] at aF
  match t,ht,aF with
  | [],_,_=>exact⟨Ez,by simp[polyS',nf]⟩
  | [x],ht,_=>
   have hx:=(n5 (ht.mem_iff.1 (List.mem_append_left _ (List.mem_singleton_self x)))).1;subst hx;rw[lK (x:=([],nfR ts)) hp.canon];exact⟨hp,hl⟩
  | _::_::_,_,aF=>simp at aF;omega⟩
 have hz:i7 [[(([],ts):RR)]]=0:=MC (by simp) (fun r hr=>by rw[aY r hr];simp) fh;have lU:=RK [([],ts)] (by simp) abX f_ (fun _=>hNr);have lV:=Vw [([],ts)] (by simp) abX f_ (fun _=>hNr);unfold Ev at lU lV;rw[if_pos hz,hn,Ow] at lU lV;exact⟨lU,lV⟩
theorem wH {v w Nv Nw j kp n c:Nat} {l:List RC} (s:g_ v w Nv Nw j kp n c) (h: ∀ r∈l,RgQ v w Nv Nw j kp n r) (hc:l.length<=c):EK (l.map rn) (.tup [RL' ((nrmL l).map rn),.int .i64 0]):=by
 have yU:=Mt s h hc;have TG:=s.few;have hz:=Ha (l:=l) (by omega) (fun r hr=>(h r hr).len) (fun r hr=>((h r hr).pok s (by have:=List.length_pos_of_mem hr;omega)).1);have lU:=RK (l.map rn) yU.len yU.pg yU.lim (fun _=>yU);have lV:=Vw (l.map rn) yU.len yU.pg yU.lim (fun _=>yU);unfold Ev at lU lV;rw[if_pos hz,(nX (fun r hr=>⟨(h r hr).can,(h r hr).cst s⟩)).2] at lU lV;exact⟨lU,lV⟩
theorem Sc:EK (([]:List RC).map rn) (.tup [RL' (([]:List RC).map rn),.int .i64 0]):=wH (l:=[]) (nZ (v:=0) (w:=1) (by decide) (by decide)) (by simp) (by simp)
theorem Du {p:List Tm} (hp:POk 10000000 1024 p) (hl:p.length<=12):EK ((nilM p).map rn) (.tup [RL' ((nilM p).map rn),.int .i64 0]):=by
 by_cases h:p=[]
 .have:nilM p=[]:=if_pos h;rw[this];exact Sc
 have e:nilM p=[([],p)]:=if_neg h;have vN:=sc hp.canon;have hb:=Hm (ts:=p.map tn) ⟨fun t ht=>(hp.ts (by decide) t ht).mono (by decide),by rw[bE];exact(PB.list (by decide) hp.bd).mono (by omega),by rw[length_map];omega,by rw[vN];exact hl⟩ hp.validB (by rw[vN];exact hp) (by rw[vN];exact hl);rw[vN] at hb;rw[e] at hb ⊢;exact hb
theorem VD {p:List Tm} (hp:POk 10000000 1024 p) (hl:p.length<=12):IC (nilM p):=by
 refine⟨⟨?_,fun r hr=>?_,fun r hr=>?_,fun r hr=>?_⟩,AB p,fun r hr=>?_,(Du hp hl).1⟩
 .unfold nilM;split
  .exact .nil
  exact List.pairwise_singleton _ _
 .rw[(n5 hr).1];intro f hf;simp at hf
 .rw[(n5 hr).1];exact hp.canon
 .rw[(n5 hr).1];exact(n5 hr).2
 rw[(n5 hr).1];exact⟨rfl,hp,hl⟩
theorem IC.nilM {M:List RC} (h:IC M): ∃ p,M=nilM p/\POk 10000000 1024 p/\p.length<=12:=by
 match M,h with
 | [],_=>exact⟨[],rfl,Ez,by simp⟩
 | [r],h=>
  obtain⟨h1,h2,h3⟩:=h.rg r (by simp);have e7:=h.nf.ne r (by simp);refine⟨r.2,?_,h2,h3⟩;unfold Go.Proofs.YtjjbkjgifdhlcaaGreat.nilM;rw[if_neg e7,<-h1]
 | _::_::_,h=>have:=h.len;simp at this
theorem IT.both {M:List RC} (h:IT M):EK (M.map rn) (.tup [RL' (M.map rn),.int .i64 0]):=by
 have hB: ∀ {v w},v<8->w<8->IB v w M->EK (M.map rn) (.tup [RL' (M.map rn),.int .i64 0]):=fun hv hw h=>by
  have:=wH (kH hv hw) (fun r hr=>(h.rg r hr).1.q) h.len;rw[qI h.nf (fun r hr=>(h.rg r hr).1)] at this;exact this
 rcases h with h | h | h | h
 .have:=wH (nZ (by decide) (by decide)) (fun r hr=>(h.rg r hr).q) h.len;rw[qI h.nf h.rg] at this;exact this
 .exact hB (by decide) (by decide) h
 .exact hB (by decide) (by decide) h
 obtain⟨p,rfl,hp,hl⟩:=h.nilM;exact Du hp hl
theorem Hn {L:List RR} (h:VB L):(∃ c,c≠0/\EK L (ko c))\/ ∃ M,IT M/\EK L (.tup [RL' (M.map rn),.int .i64 0]):=by
 rcases h with⟨h1,h2⟩ | ⟨ts,rfl,h1,h2⟩
 .obtain⟨M,a,b⟩:=Sb h1 h2;exact .inr ⟨M,.inl a,b⟩
 have pQ:=YT h1 h2;cases hv:validB ts with
 | true=>
  have hp:=Rf (n:=2) (k:=23) (by decide) h1 h2 (by decide) hv;have hl:=Ek ts;have Im:=hp.mono (k:=10000000) (F:=1024) (by decide) (by decide);exact .inr ⟨nilM (nfR ts),.inr (.inr (.inr (VD Im (by omega)))),Hm pQ hv Im (by omega)⟩
 | false=>
  have aY: ∀ r:RR,r∈[(([],ts):RR)]->r=([],ts):=fun r hr=>List.mem_singleton.1 hr
  have hz:i7 [[(([],ts):RR)]]=2:=by
   have e1:dU [(([],ts):RR)]=false:=by simp[dU,eY]
   have e2:fw [(([],ts):RR)]=false:=by simp[fw,hv]
   unfold i7;rw[if_neg (by simp[e1]),if_neg (by simp[e2])]
  have Bf: ¬i7 [[(([],ts):RR)]]=0:=by rw[hz];decide
  have lU:=RK [([],ts)] (by simp) (fun r hr=>by rw[aY r hr];exact pQ) (fun r hr=>by rw[aY r hr];simp) (fun h=>absurd h Bf);have lV:=Vw [([],ts)] (by simp) (fun r hr=>by rw[aY r hr];exact pQ) (fun r hr=>by rw[aY r hr];simp) (fun h=>absurd h Bf);unfold Ev at lU lV;rw[if_neg Bf,hz] at lU lV;exact .inl ⟨2,by decide,lU,lV⟩
structure SmR (r:RC):Prop where
 cn: ∀ l∈r.1,IsCn l/\LOk 1000 l
 len:r.1.length<=40
 pok:POk 10000000 1024 r.2
 few:r.2.length<=12
theorem RgV.sm {v w Nv Nw j kp n c:Nat} {r:RC} (s:g_ v w Nv Nw j kp n c) (hc:1<=c) (hj:j<=1000) (h:RgV v w Nv Nw j kp n r):SmR r:=
 ⟨fun l hl=>⟨qJ (h.q.cst s) h.idem l hl,(h.q.ok l hl).mono hj⟩,h.q.len,(h.q.pok s hc).1,(h.q.pok s hc).2⟩
theorem IT.sm {M:List RC} (h:IT M): ∀ r∈M,SmR r:=fun r hr=>by
 rcases h with h | h | h | h
 .exact(h.rg r hr).sm (nZ (by decide) (by decide)) (by decide) (by decide)
 .exact(h.rg r hr).1.sm (kH (by decide) (by decide)) (by decide) (by decide)
 .exact(h.rg r hr).1.sm (kH (by decide) (by decide)) (by decide) (by decide)
 obtain⟨h1,h2,h3⟩:=h.rg r hr;exact⟨by rw[h1];simp,by rw[h1];simp,h2,h3⟩
theorem SmR.ts {r:RC} (h:SmR r):TsOk 5000000000 (r.2.map tn)/\(r.2.map tn).length<=10000000000:=
 ⟨fun t ht=>(h.pok.ts (by decide) t ht).mono (by decide),by rw[length_map];have:=h.few;omega⟩
theorem Oy {L:List RR} (h:VB L) (v:Int): ∃ (N:List RC) (c:Int),Den Tryz.prog 36 [] [RL' L,.int .i64 v] [] (.tup [RL' (N.map rn),.int .i64 c])/\Den Tryz.prog 37 [] [RL' L,.int .i64 v] [] (.tup [RL' (N.map rn),.int .i64 c])/\
 N.length<=12/\ ∀ r∈N,SmR r:=by
 rcases Hn h with⟨c,hc,lU,lV⟩ | ⟨M,hM,lU,lV⟩
 .exact⟨[],c,afq L v c hc lU,afF L v c hc lV,by simp,by simp⟩
 have fM:=He hM lU v
 have Ky:=MA hM lV v
 have ox:=EG.next M hM v
 unfold listV at fM Ky
 by_cases h0:(f5 M v).1=0
 .rw[if_pos h0] at fM Ky
  have hi:=ox h0
  exact⟨(f5 M v).2,0,fM,Ky,hi.len,hi.sm⟩
 rw[if_neg h0] at fM Ky
 exact⟨[],(f5 M v).1,fM,Ky,by simp,by simp⟩
theorem Sd: ∀ {vs:List Int} {M:List RC},IT M->(qG f5 M vs).1=0->IT (qG f5 M vs).2
 | [],M,h,_=>h
 | v::vs,M,h,h0=>by
  rw[qH] at h0 ⊢;by_cases h1:(f5 M v).1=0
  .rw[if_pos h1] at h0 ⊢;exact Sd (EG.next M h v h1) h0
  rw[if_neg h1] at h0;exact absurd h0 h1
theorem Ho {L:List RR} (h:VB L) (vs:List Int) (hw:W64 vs) (hn:vs.length<=1000): ∃ (P:List Tm) (c:Int),Den Tryz.prog 40 [] [RL' L,.fv (.sl (ints vs))] [] (.tup [PL (P.map tn),.int .i64 c])/\
 Den Tryz.prog 41 [] [RL' L,.fv (.sl (ints vs))] [] (.tup [PL (P.map tn),.int .i64 c])/\TsOk 5000000000 (P.map tn)/\(P.map tn).length<=10000000000:=by
 have sG:TsOk 5000000000 (([]:List Tm).map tn)/\(([]:List Tm).map tn).length<=10000000000:=⟨fun t ht=>by simp at ht,by simp⟩
 rcases Hn h with⟨c,hc,lU,lV⟩ | ⟨M,hM,lU,lV⟩
 .exact⟨[],c,afI L vs c hc lU,afH L vs c hc lV,sG⟩
 have mK:=Mv hM lU vs hw hn
 have Fg:=Vz hM lV (fun M h=>h.both.2) vs hn
 have hit:=Sd (vs:=vs) hM
 unfold mB wE at mK Fg
 by_cases h0:(qG f5 M vs).1=0
 .have hi:=hit h0
  rw[if_pos h0] at mK Fg
  obtain⟨N,hN⟩:=ax ((qG f5 M vs).2)
  rw[hN] at mK Fg hi
  cases ha:N.any (fun r=>!r.1.isEmpty) with
  | true=>
   have hS:BX N=(2,[]):=by unfold BX;rw[if_pos ha]
   rw[hS,if_neg (by decide)] at mK Fg;exact⟨[],2,mK,Fg,sG⟩
  | false=>
   have hS:BX N=(0,polyS' N):=by unfold BX;rw[if_neg (by rw[ha];decide)]
   rw[hS,if_pos rfl] at mK Fg;refine⟨polyS' N,0,mK,Fg,?_⟩;have ei: ∀ r∈N,r.1=[]:=fun r hr=>by
    rw[List.any_eq_false] at ha;have:=ha r hr;cases h9:r.1 with
    | nil=>rfl
    | cons a b=>rw[h9] at this;simp at this
   have hN1:=Ar hi.nf ei
   match N,hN1,hi with
   | [],_,_=>exact sG
   | [r],_,hi=>
    rw[lK (hi.nf.can r (by simp))];exact(hi.sm r (by simp)).ts
   | _::_::_,h9,_=>simp at h9
 rw[if_neg h0] at mK Fg
 rw[if_neg h0] at mK Fg
 exact⟨[],(qG f5 M vs).1,mK,Fg,sG⟩
def wI (xs:List Int) (n a:Nat):List Raw×Nat:=
 if nN xs (nx xs (nx xs (s9 xs n a))) 6=0 then
  (((BS xs n 0 a (replicate 9 rz)).set 8 (cn (sy xs (s9 xs n a)))).set 8 (kj xs (nx xs (nx xs (nx xs (s9 xs n a))))).1,(kj xs (nx xs (nx xs (nx xs (s9 xs n a))))).2)
 else((BS xs n 0 a (replicate 9 rz)).set 8 (cn (sy xs (s9 xs n a))),nx xs (nx xs (nx xs (s9 xs n a))))
theorem ME (xs:List Int) (n a:Nat):LOk 4 (wI xs n a).1:=by
 have h1:=rv (Eb xs n 0 a _ uw) 8 (Raw.Ok.mono (bj (yB xs (s9 xs n a))) (by decide));unfold wI;split
 .exact rv h1 8 (vY _ _)
 exact h1
theorem MF {xs:List Int} {n a:Nat} (h:a<=xs.length):(wI xs n a).2<=xs.length:=by
 have h3:=tc (n:=n) h;unfold wI;split
 .exact CF (cD (cD (cD h3)))
 exact cD (cD (cD h3))
theorem aj9 (xs:List Int) (n a:Nat) (hn8:n<=8) (hl:xs.length<=1000) (ha:a<=xs.length) (hw:W64 xs):
 Den Tryz.prog 30 [S xs a] [.ptr 0 0 0,.int .i64 n] [S xs (wI xs n a).2] (RL (wI xs n a).1):=by
 have a3l:=tc (n:=n) ha
 have aml:=Eb xs n 0 a _ uw
 unfold wI
 obtain⟨rsf,abY⟩:=ax (BS xs n 0 a (replicate 9 rz))
 obtain⟨a3,e3⟩:=ax (s9 xs n a)
 rw[e3] at a3l
 rw[abY] at aml
 rw[abY,e3]
 unfold S
 refine dq Tryz.func30 26 1 ?_
 refine aW ?_
 refine wl (α:=Nat×Nat×List Raw) (fun⟨i,b,rs⟩=>⟨[.ptr 0 0 0,.int .i64 n,.any,.any,.ptr 1 0 0,.ptr 2 0 0,.int .i64 i]++replicate 21 .any,[.box true [.fv (.sl (ints xs)),.int .i64 b,.int .i64 0],.box true (ic 9),.box true (flat rs)]⟩)
  (fun⟨i,_,_⟩=>n - i) (fun⟨i,b,rs⟩=>i<=n/\b<=xs.length/\LOk 4 rs/\BS xs (n - i) i b rs=rsf/\s9 xs (n - i) b=a3) (0,a,replicate 9 rz) ?_ ?_ ?_
 .refine eH [0,1,2] ?_ ?_
  .simp[bh,dF,cw]
  simp[d_,fD,dL,cw,ic,replicate,flat,rz,u32s]
 .exact⟨by omega,ha,uw,abY,e3⟩
 rintro⟨i,b,rs⟩ ⟨hi,hb,bF,hS,hX⟩
 have aF:=bF.len
 have nt:=ah rs
 have cb:=aD xs b
 refine aW ?_
 refine bM ?_ ?_
 .intro h1 h2
  have IG:=CE xs b (-2) 2 5 hl hb hw (by decide) (by decide) (by decide) (by decide) (by decide)
  have l5:=et (xs:=xs) (a:=b) (n:=5) (by decide)
  obtain⟨k,hk⟩: ∃ k,n - i=k+1:=⟨n - 1 - i,by omega⟩
  have jF:n - (i+1)=k:=by omega
  rw[hk] at hS hX
  unfold BS at hS
  unfold s9 at hX
  have jN:=iy (-2+(nN xs b 5:Int)) (by omega)
  have bn:=er (rs:=rs) (i:=i) (by omega) (decide (((-2+(nN xs b 5:Int):Int):Rat).num<0)) (ak ((-2+(nN xs b 5:Int):Int):Rat).num.natAbs) (ak ((-2+(nN xs b 5:Int):Int):Rat).den)
  have sX:(⟨decide (((-2+(nN xs b 5:Int):Int):Rat).num<0),ak ((-2+(nN xs b 5:Int):Int):Rat).num.natAbs,ak ((-2+(nN xs b 5:Int):Int):Rat).den⟩:Raw)=cn ((-2+(nN xs b 5:Int):Int):Rat):=rfl
  have ahH:(cn ((-2+(nN xs b 5:Int):Int):Rat)).Ok 4:=Raw.Ok.mono (bj (bd_int (by omega))) (by decide)
  rw[sX] at bn
  obtain⟨z,hz⟩: ∃ z:Int,-2+(nN xs b 5:Int)=z:=⟨_,rfl⟩
  rw[hz] at IG jN bn hS ahH
  rw[bt,bQ,bQ] at jN
  unfold S at IG cb
  refine ae h2 ?_
  refine eG 0 IG cb ?_
  refine so ?_
  refine aM jN ?_
  refine ae (aB bn @append_nil.{0}) ?_
  repeat refine ag ?_
  refine aA (i+1,nx xs b,rs.set i (cn (z:Rat))) ?_ ⟨by omega,cD hb,rv bF i ahH,by rw[jF];exact hS,by rw[jF];exact hX⟩
  exact ou [0,1,2]
 intro h1 h2
 have hi3:n - i=0:=by omega
 rw[hi3] at hS hX
 have fj:rs=rsf:=hS
 have hba:b=a3:=hX
 subst fj
 subst hba
 have BN:=QM xs b hl hb hw
 have Y_:=cD (cD hb)
 obtain⟨a4,e4⟩:=ax (nx xs (nx xs b))
 rw[e4] at BN Y_ ⊢
 have c4:=aD xs a4
 have hn6:=l_ xs a4 6 hl Y_ hw (by decide) (by decide)
 have hb5:=cD Y_
 obtain⟨a5,e5⟩:=ax (nx xs a4)
 rw[e5] at hn6 hb5 ⊢
 have c5:=aD xs a5
 have h34:=Yr xs a5 hl hb5 hw
 obtain⟨m,hm⟩:=ax (nN xs a4 6)
 rw[hm] at hn6 ⊢
 have bn:=er (rs:=rs) (i:=8) (by omega) (decide ((sy xs b).num<0)) (ak (sy xs b).num.natAbs) (ak (sy xs b).den)
 have sX:(⟨decide ((sy xs b).num<0),ak (sy xs b).num.natAbs,ak (sy xs b).den⟩:Raw)=cn (sy xs b):=rfl
 rw[sX] at bn
 have abZ:=rv bF 8 (Raw.Ok.mono (bj (yB xs b)) (by decide))
 obtain⟨rs8,amm⟩:=ax (rs.set 8 (cn (sy xs b)))
 rw[amm] at bn abZ ⊢
 simp only[reduceMul,reduceAdd] at bn
 have M_:=abZ.len
 have hf8:=ah rs8
 have amn:(flat rs8).length=27:=by omega
 rw[bt,bQ,bQ] at BN
 unfold S at BN hn6 h34 cb c4 c5
 by_cases h0:m=0
 .rw[if_pos h0]
  have IZ:((m:Int)==0)=true:=by rw[h0];rfl
  obtain⟨⟨r,a6⟩,hr6⟩: ∃ t,kj xs a5=t:=⟨_,rfl⟩
  have I0:=vY xs a5
  rw[hr6] at h34 I0 ⊢
  dsimp only at h34 I0 ⊢
  have pA:=er (rs:=rs8) (i:=8) (by omega) r.neg r.num r.den
  have iM:(⟨r.neg,r.num,r.den⟩:Raw)=r:=rfl
  rw[iM] at pA
  have ahK:=rv abZ 8 I0
  obtain⟨rs9,amo⟩:=ax (rs8.set 8 r)
  rw[amo] at pA ahK ⊢
  simp only[reduceMul,reduceAdd] at pA
  have hl9:=ahK.len
  have hf9:=ah rs9
  have ahL:(flat rs9).length=27:=by omega
  unfold Raw.v at h34
  refine ae h2 ?_
  refine eG 0 BN cb ?_
  refine f9 bn ?_
  repeat refine ag ?_
  refine eG 0 hn6 c4 ?_
  refine f9 IZ ?_
  refine eG 0 h34 c5 ?_
  simp -dsimp(disch:=omega) only[sh1,pA,aj hl9,ahL,↓reduceIte,reduceAdd,reduceLT,reduceLeDiff,ru,zu]
  repeat refine ag ?_
  exact RetOK.formL rfl rfl hl9 rfl (aD xs _) rfl
 rw[if_neg h0]
 have IZ:((m:Int)==0)=false:=by rw[qx];omega
 refine ae h2 ?_
 refine eG 0 BN cb ?_
 refine f9 bn ?_
 repeat refine ag ?_
 refine eG 0 hn6 c4 ?_
 simp -dsimp(disch:=omega) only[sh2,IZ,aj M_,amn,↓reduceIte,reduceAdd,reduceLT,reduceLeDiff,ru,zu]
 repeat refine ag ?_
 exact RetOK.formL rfl rfl M_ rfl (aD xs _) rfl
def kI (xs:List Int) (n:Nat):Nat->Nat->List (List Raw)
 | 0,_=>[]
 | k+1,b=>(wI xs n b).1::kI xs n k (wI xs n b).2
def xy (xs:List Int) (n:Nat):Nat->Nat->Nat
 | 0,b=>b
 | k+1,b=>xy xs n k (wI xs n b).2
theorem wJ (xs:List Int) (n:Nat): ∀ k b,(kI xs n k b).length=k
 | 0,_=>rfl
 | k+1,b=>by simp[kI,wJ xs n k]
theorem AD (xs:List Int) (n:Nat): ∀ k b,∀ l∈kI xs n k b,LOk 4 l
 | 0,b,l,h=>by simp[kI] at h
 | k+1,b,l,h=>by
  simp only[kI,BL] at h;rcases h with h | h
  .rw[h];exact ME xs n b
  exact AD xs n k _ l h
theorem AE {xs:List Int} {n:Nat}: ∀ {k b},b<=xs.length->xy xs n k b<=xs.length
 | 0,_,h=>h
 | k+1,_,h=>AE (k:=k) (MF h)
theorem afJ (xs:List Int) (n m a:Nat) (hn8:n<=8) (hm:m<=100) (hl:xs.length<=1000) (ha:a<=xs.length) (hw:W64 xs):
 Den Tryz.prog 99 [S xs a] [.ptr 0 0 0,.int .i64 n,.int .i64 m] [S xs (xy xs n (nN xs a (m+1)) (nx xs a))] (.fv (.sl (ai (kI xs n (nN xs a (m+1)) (nx xs a))))):=by
 have hN:=l_ xs a (m+1) hl ha hw (by omega) (by omega)
 have aL:=et (xs:=xs) (a:=a) (n:=m+1) (by omega)
 have hc:=aD xs a
 have sv:=cD ha
 obtain⟨k0,Wn⟩:=ax (nN xs a (m+1))
 obtain⟨a1,e1⟩:=ax (nx xs a)
 rw[Wn] at hN aL ⊢
 rw[e1] at hN sv ⊢
 obtain⟨fin,jg⟩:=ax (xy xs n k0 a1)
 obtain⟨tot,Fe⟩:=ax (kI xs n k0 a1)
 rw[jg,Fe]
 have em:((m:Int)+1)=((m+1:Nat):Int):=by omega
 unfold S at hN hc ⊢
 refine dq Tryz.func99 21 1 ?_
 refine aW ?_
 rw[em]
 refine eG 0 hN hc ?_
 refine so ?_
 refine wl (α:=Nat×Nat×List (List Raw)) (fun⟨i,b,out⟩=>⟨[.ptr 0 0 0,.int .i64 n,.int .i64 m,.any,.any,.any,.nilsl,.lsl 1 0 out.length 27,.int .i64 i]++replicate 15 .any,[S xs b,.row true (ai out)]⟩)
  (fun⟨i,_,_⟩=>i) (fun⟨i,b,out⟩=>b<=xs.length/\out.length+i=k0/\xy xs n i b=fin/\out++kI xs n i b=tot) (k0,a1,[]) ?_ ?_ ?_
 .refine Weak.nil 7 27 (by decide) rfl ?_
  refine eH [0,1] ?_ ?_
  .simp[bh,dF,cw]
  simp[d_,fD,dL,cw,S,ai]
 .exact⟨sv,by simp,jg,by rw[nil_append];exact Fe⟩
 rintro⟨i,b,out⟩ ⟨hb,pR,ox,bO⟩
 obtain⟨L,hL⟩:=ax out.length
 have rlo:=aq out
 rw[hL] at rlo pR
 have eO:=bc (ls:=out) (n:=L) (by omega)
 have xP:=aD xs b
 dsimp only
 rw[hL]
 unfold S at xP ⊢
 refine aW ?_
 refine bM ?_ ?_
 .intro h1 h2
  obtain⟨p,rfl⟩: ∃ p,i=p+1:=⟨i - 1,by omega⟩
  have ep:(((p+1:Nat):Int) - 1)=(p:Int):=by omega
  have WM:=aj9 xs n b hn8 hl hb hw
  have bF:=ME xs n b
  have eI:=MF (n:=n) hb
  simp only[xy] at ox
  simp only[kI] at bO
  obtain⟨⟨y,b2⟩,hy⟩: ∃ t,wI xs n b=t:=⟨_,rfl⟩
  rw[hy] at WM bF eI ox bO
  dsimp only at WM bF eI ox bO
  have Fy:=bF.len
  have gy:=ah y
  have kB:=ay Fy
  have gf:=aj Fy
  have fj:=bI out y
  unfold S at WM
  unfold RL at WM
  refine ae h2 ?_
  refine eG 0 WM xP ?_
  refine akk (eU gy Fy kB eO fj rlo ep) ?_
  repeat refine ag ?_
  refine aA (p,b2,out++[y]) ?_ ⟨eI,by rw[qe,hL];simp;omega,ox,by rw[<-bO];simp⟩
  exact bx [0,3]
 intro h1 h2
 have Cn:i=0:=by omega
 subst Cn
 have KE:b=fin:=ox
 have Bo:out=tot:=by rw[<-bO];simp[kI]
 subst KE
 subst Bo
 refine ae h2 ?_
 refine sn rfl ⟨cK,cK⟩ rfl (aD xs _) rfl ?_ rfl
 have nj:List.idxOf? 1 [0]=none:=rfl
 exact kT (bA rlo eO nj)
theorem u_ {q:Rat} (h:Bd 1 q):LOk 1 (dt q):=by
 refine⟨g9 q,fun r hr=>?_⟩;unfold dt at hr;rcases mem_or_eq_of_mem_set hr with h1 | h1
 .rw[eq_of_mem_replicate h1];exact bj (Bd.zero (by decide))
 rw[h1];exact bj h
theorem oZ (v:Nat):LOk 1 (iP v):=by
 refine⟨j0 v,fun r hr=>?_⟩;unfold iP at hr;rcases mem_or_eq_of_mem_set hr with h1 | h1
 .rw[eq_of_mem_replicate h1];exact bj (Bd.zero (by decide))
 rw[h1];exact bj (bd_int (by decide))
def Dv (v:Nat) (z:Int):List Raw:=(nK (iP v) (dt (z:Rat))).map cn
def Dw (v:Nat) (z:Int):List Raw:=(nK (cV (iP v)) (dt (z:Rat))).map cn
theorem Hp (v:Nat) {z:Int} (h:z.natAbs<4294967296):LOk 4 (Dv v z):=
 LOk.of_map (fR (j0 v) (g9 _)) (fun q hq=>Bd.mono (Ec ((oZ v).bd (by decide)) ((u_ (bd_int h)).bd (by decide)) (by decide) q hq) (by decide))
theorem Hq (v:Nat) {z:Int} (h:z.natAbs<4294967296):LOk 4 (Dw v z):=
 LOk.of_map (fR (ew (j0 v)) (g9 _)) (fun q hq=>Bd.mono (Ec (Eh ((oZ v).bd (by decide))) ((u_ (bd_int h)).bd (by decide)) (by decide) q hq) (by decide))
def vc (xs:List Int) (b:Nat):Int:= -1+(nN xs b 3:Int)
def Dx (xs:List Int) (b:Nat):Int:=vc xs b+(1+(nN xs (nx xs b) 2:Int))
def vd (xs:List Int):Nat->Nat->Nat->List (List Raw)
 | 0,_,_=>[]
 | k+1,v,b=>Dv v (-vc xs b)::Dw v (Dx xs b)::vd xs k (v+1) (nx xs (nx xs b))
theorem Dy (xs:List Int) (b:Nat): -1<=vc xs b/\vc xs b<=1/\vc xs b<Dx xs b/\Dx xs b<=3:=by
 have h1:=et (xs:=xs) (a:=b) (n:=3) (by decide);have h2:=et (xs:=xs) (a:=nx xs b) (n:=2) (by decide);unfold Dx vc;omega
theorem AF (xs:List Int): ∀ k v b,(vd xs k v b).length=2*k
 | 0,_,_=>rfl
 | k+1,v,b=>by simp only[vd,length_cons,AF xs k];omega
theorem MG (xs:List Int): ∀ k v b,∀ l∈vd xs k v b,LOk 4 l
 | 0,v,b,l,h=>by simp[vd] at h
 | k+1,v,b,l,h=>by
  have hb:=Dy xs b;simp only[vd,BL] at h;rcases h with h | h | h
  .rw[h];exact Hp v (by omega)
  .rw[h];exact Hq v (by omega)
  exact MG xs k _ _ l h
theorem aka (xs:List Int) (n a:Nat) (hn8:n<=8) (hl:xs.length<=1000) (ha:a<=xs.length) (hw:W64 xs):
 Den Tryz.prog 47 [S xs a] [.ptr 0 0 0,.int .i64 n] [S xs (s9 xs (2*n) a),.row true (ai (vd xs n 0 a))] (.lsl 1 0 (2*n) 27):=by
 have hc:=aD xs a
 obtain⟨fin,jg⟩:=ax (s9 xs (2*n) a)
 obtain⟨tot,Fe⟩:=ax (vd xs n 0 a)
 have xR:tot.length=2*n:=by rw[<-Fe,AF]
 rw[jg,Fe]
 unfold S at hc ⊢
 refine dq Tryz.func47 40 1 ?_
 refine aW ?_
 refine wl (α:=Nat×Nat×List (List Raw)) (fun⟨i,b,out⟩=>⟨[.ptr 0 0 0,.int .i64 n,.any,.any,.nilsl,.lsl 1 0 out.length 27,.int .i64 i]++replicate 35 .any,[S xs b,.row true (ai out)]⟩)
  (fun⟨i,_,_⟩=>n - i) (fun⟨i,b,out⟩=>i<=n/\b<=xs.length/\out.length=2*i/\s9 xs (2*(n - i)) b=fin/\out++vd xs (n - i) i b=tot) (0,a,[]) ?_ ?_ ?_
 .refine Weak.nil 5 27 (by decide) rfl ?_
  refine eH [0,1] ?_ ?_
  .simp[bh,dF,cw]
  simp[d_,fD,dL,cw,S,ai]
 .exact⟨dk _,ha,rfl,jg,by rw[nil_append];exact Fe⟩
 rintro⟨i,b,out⟩ ⟨hi,hb,pR,ox,bO⟩
 obtain⟨L,hL⟩:=ax out.length
 have rlo:=aq out
 rw[hL] at rlo pR
 have eO:=bc (ls:=out) (n:=L) (by omega)
 have xP:=aD xs b
 dsimp only
 rw[hL]
 unfold S at xP ⊢
 refine aW ?_
 refine bM ?_ ?_
 .intro h1 h2
  obtain⟨p,hp⟩: ∃ p,n - i=p+1:=⟨n - i - 1,by omega⟩
  have Im:n - (i+1)=p:=by omega
  have e2:2*(p+1)=2*p+1+1:=by omega
  rw[hp] at ox bO
  rw[e2] at ox
  simp only[s9] at ox
  simp only[vd] at bO
  have Xr:=CE xs b (-1) 1 3 hl hb hw (by decide) (by decide) (by decide) (by decide) (by decide)
  have dX:=cD hb
  have eI:=cD dX
  have TV:=CE xs (nx xs b) 1 2 2 hl dX hw (by decide) (by decide) (by decide) (by decide) (by decide)
  have Na:=Dy xs b
  have ej:vc xs b= -1+(nN xs b 3:Int):=rfl
  have eC:Dx xs b=vc xs b+(1+(nN xs (nx xs b) 2:Int)):=rfl
  obtain⟨b1,amp⟩:=ax (nx xs b)
  rw[amp] at Xr TV dX eI ox bO eC
  obtain⟨b2,amq⟩:=ax (nx xs b1)
  rw[amq] at TV eI ox bO
  have c1:=aD xs b1
  have c2:=aD xs b2
  obtain⟨w,hw2⟩: ∃ t:Int,1+(nN xs b1 2:Int)=t:=⟨_,rfl⟩
  rw[hw2] at TV eC
  obtain⟨lo,Il⟩:=ax (vc xs b)
  rw[Il] at Na ej eC bO
  rw[<-ej] at Xr
  obtain⟨pj,Bh⟩: ∃ t,Dx xs b=t:=⟨_,rfl⟩
  rw[Bh] at Na eC bO
  have eneg:(0:Int) - lo= -lo:=by omega
  have WN:=Z' i (by omega)
  have Xs:=iy (-lo) (by omega)
  have Cp:=iy pj (by omega)
  have PF:=Vj (cn ((-lo:Int):Rat)) (Raw.Ok.mono (bj (bd_int (by omega))) (by decide))
  have PG:=Vj (cn ((pj:Int):Rat)) (Raw.Ok.mono (bj (bd_int (by omega))) (by decide))
  rw[cu] at PF PG
  have mJ:=Oi (iP i) ((oZ i).mono (by decide))
  have PH:=zC (iP i) (dt ((-lo:Int):Rat)) ((oZ i).mono (by decide)) ((u_ (bd_int (by omega))).mono (by decide))
  have KY:=zC (cV (iP i)) (dt ((pj:Int):Rat)) ((mi (oZ i) (by decide)).mono (by decide)) ((u_ (bd_int (by omega))).mono (by decide))
  change Den Tryz.prog 101 [] [_,_] [] (RL (Dv i (-lo))) at PH
  change Den Tryz.prog 101 [] [_,_] [] (RL (Dw i pj)) at KY
  have oka:=Hp i (z:= -lo) (by omega)
  have okb:=Hq i (z:=pj) (by omega)
  change Den Tryz.prog 32 [] _ [] (cn ((-lo:Int):Rat)).v at Xs
  change Den Tryz.prog 32 [] _ [] (cn ((pj:Int):Rat)).v at Cp
  obtain⟨ra,hra⟩:=ax (cn ((-lo:Int):Rat))
  obtain⟨rb,PX⟩:=ax (cn ((pj:Int):Rat))
  rw[hra] at Xs PF
  rw[PX] at Cp PG
  have lx:=j0 i
  have lna:=g9 ((-lo:Int):Rat)
  have lnb:=g9 ((pj:Int):Rat)
  have lng:=ew lx
  obtain⟨x,hx⟩:=ax (iP i)
  rw[hx] at WN mJ PH KY lx lng
  obtain⟨na,Tv⟩:=ax (dt ((-lo:Int):Rat))
  rw[Tv] at PF PH lna
  obtain⟨nb,Pp⟩:=ax (dt ((pj:Int):Rat))
  rw[Pp] at PG KY lnb
  obtain⟨ng,Xc⟩:=ax (cV x)
  rw[Xc] at mJ KY lng
  obtain⟨ya,hya⟩:=ax (Dv i (-lo))
  rw[hya] at PH oka bO
  obtain⟨yb,hyb⟩:=ax (Dw i pj)
  rw[hyb] at KY okb bO
  have lya:=oka.len
  have lyb:=okb.len
  have gx:=ah x
  have ji:=aj lx
  have gna:=ah na
  have aol:=aj lna
  have gnb:=ah nb
  have aom:=aj lnb
  have gng:=ah ng
  have aon:=aj lng
  have gya:=ah ya
  have aoo:=aj lya
  have amr:=ay lya
  have gyb:=ah yb
  have aop:=aj lyb
  have ams:=ay lyb
  have fj:=bI out ya
  have amt:=bI (out++[ya]) yb
  have sY:(ai (out++[ya])).length=L+1:=by rw[aq,qe,hL];rfl
  have wX:List.take (L+1) (ai (out++[ya]))=ai (out++[ya]):=dm (by omega)
  have elen:L+1+1=L+2:=rfl
  unfold S at Xr TV c1 c2
  unfold Raw.v at Xs Cp PF PG
  unfold RL at WN mJ PH KY PF PG
  refine ae h2 ?_
  refine eG 0 Xr xP ?_
  refine so ?_
  refine eG 0 TV c1 ?_
  refine so ?_
  repeat refine ag ?_
  refine aM WN ?_
  refine bm (aB gx lx) ?_
  repeat refine ag ?_
  refine dw (by kernel_rfl) ?_
  refine ae (dR gx lx ji eneg) ?_
  repeat refine ag ?_
  have ehi:lo+w=pj:=eC.symm
  refine aM Xs ?_
  refine ae @append_nil.{0} ?_
  refine aM PF ?_
  refine vG ?_
  repeat refine ag ?_
  refine gv PH ?_
  refine bm (bu gya lya amr eO fj rlo gx (aB lx ji)) ?_
  repeat refine ag ?_
  refine gv mJ ?_
  refine bm ehi ?_
  refine aM Cp ?_
  refine ae @append_nil.{0} ?_
  refine aM PG ?_
  refine vG ?_
  refine gv KY ?_
  refine bm (eU gyb lyb ams wX amt sY elen) ?_
  repeat refine ag ?_
  refine aA (i+1,b2,out++[ya]++[yb]) ?_ ⟨by omega,eI,by simp;omega,by rw[Im];exact ox,by rw[Im,<-bO];simp⟩
  exact bx [0,6]
 intro h1 h2
 have Bf:n - i=0:=by omega
 rw[Bf] at bO ox
 have Bo:out=tot:=by rw[<-bO];simp[vd]
 have KE:b=fin:=ox
 have DW:L=2*n:=by omega
 subst Bo
 subst KE
 subst DW
 refine ae h2 ?_
 exact RetOK.lentOwn rfl ⟨cK,cK⟩ rfl (aD xs _) rfl (by decide) rfl
theorem MH {xs:List Int}: ∀ {n i a:Nat} {rs:List Raw} {k:Nat},(k<i\/i+n<=k)->co (BS xs n i a rs) k=co rs k
 | 0,_,_,_,_,_=>rfl
 | n+1,i,a,rs,k,h=>by
  unfold BS;rw[MH (n:=n) (by omega),qD (by omega)]
theorem VE {xs:List Int} {n a k:Nat} (h:n<=k) (h8:k<8):co (wI xs n a).1 k=0:=by
 have h1:=MH (xs:=xs) (n:=n) (i:=0) (a:=a) (rs:=replicate 9 rz) (k:=k) (by omega);rw[YJ] at h1;unfold wI;split
 .show co (List.set _ 8 _) k=0;rw[qD (by omega),qD (by omega),h1]
 show co (List.set _ 8 _) k=0;rw[qD (by omega),h1]
theorem AG (xs:List Int): ∀ (k b:Nat),Two 0 1 (kI xs 2 k b)
 | 0,b=>by intro l h;simp[kI] at h
 | k+1,b=>by
  intro l h i hi h0 h1;simp only[kI,BL] at h;rcases h with h | h
  .rw[h];exact VE (by omega) hi
  exact AG xs k _ l h i hi h0 h1
theorem Se {a b:List Raw} {i:Nat} (ha:a.length=9) (hb:b.length=9) (hi:i<9):co ((nK a b).map cn) i=co a i+co b i:=by
 unfold co;rw[rD (by omega) (by omega),cu]
theorem ve {v i:Nat} {z:Int} (hv:v<8) (hi:i<8) (h:i≠v):co (Dv v z) i=0/\co (Dw v z) i=0:=by
 unfold Dv Dw;rw[Se (j0 v) (g9 _) (by omega),Se (ew (j0 v)) (g9 _) (by omega),oM (j0 v) (by omega),Z5 (by omega) (by omega),zY (by omega),if_neg h,if_neg (by omega)];constructor<;>grind
theorem VF (xs:List Int) (b:Nat):Two 0 1 (vd xs 2 0 b):=by
 intro l h i hi h0 h1;simp only[vd,BL,not_mem_nil,or_false] at h;rcases h with h | h | h | h<;>rw[h]
 .exact(ve (by decide) hi h0).1
 .exact(ve (by decide) hi h0).2
 .exact(ve (by decide) hi h1).1
 exact(ve (by decide) hi h1).2
theorem VG {a b:List (List Raw)} (ha:Two 0 1 a) (hb:Two 0 1 b):Two 0 1 (a++b):=fun l hl=>by
 rcases List.mem_append.1 hl with h | h
 .exact ha l h
 exact hb l h
theorem VH {ls:List (List Raw)} (h: ∀ l∈ls,l.length=9): ∀ y∈ai ls,y.length=27:=by
 intro y hy;unfold ai at hy;obtain⟨l,hl,rfl⟩:=mem_map.1 hy;rw[aE,h l hl]
def RgS (xs:List Int) (H1:List Ob) (res:PV):Prop:= ∃ (L:List RR) (a':Nat),H1=[S xs a',.row true (aG L)]/\res=PV.lsl 1 0 L.length 2/\a'<=xs.length/\L.length<=2/\ ∀ r∈L,RdR r
theorem MI {L:List RR} {r:RR} (h: ∀ r∈L,RdR r) (hr:RdR r): ∀ x∈L++[r],RdR x:=fun x hx=>by
 rcases List.mem_append.1 hx with h1 | h1
 .exact h x h1
 rw[qz] at h1;rw[h1];exact hr
theorem akb (xs:List Int) (a:Nat) (hl:xs.length<=1000) (ha:a<=xs.length) (hw:W64 xs): ∃ H1 res,RgS xs H1 res/\Den Tryz.prog 89 [S xs a] [.ptr 0 0 0,.int .i64 2,.int .i64 2] H1 res:=by
 have hN:=l_ xs a 3 hl ha hw (by omega) (by omega);have aL:=et (xs:=xs) (a:=a) (n:=3) (by omega);have hc:=aD xs a;have Pw:=cD ha;generalize nN xs a 3=n at*;obtain⟨a0,hA⟩:=ax (nx xs a);rw[hA] at hN Pw;have e3:((2:Int)+1)=((3:Nat):Int):=rfl;unfold RgS;unfold S at hN hc;unfold S;refine Lh Tryz.func89 25 1 ?_;refine bw e3 ?_;refine eG 0 hN hc ?_;refine so ?_;refine wl (α:=Nat×Nat×List RR) (fun⟨i,b,L⟩=>⟨[.ptr 0 0 0,.int .i64 2,.int .i64 2,.any,.any,.any,.any,.lsl 1 0 L.length 2,.int .i64 i]++replicate 19 .any,[.box true [.fv (.sl (ints xs)),.int .i64 b,.int .i64 0],.row true (aG L)]⟩)
  (fun⟨i,_,_⟩=>i) (fun⟨i,b,L⟩=>i+L.length<=2/\b<=xs.length/\ ∀ r∈L,RdR r) (n,a0,[]) ?_ ⟨by simp;omega,Pw,fun t ht=>by simp at ht⟩ ?_
 .refine Weak.nil 7 2 (by decide) rfl ?_;refine eH [0,1] ?_ ?_
  .simp[bh,dF,cw]
  simp[d_,fD,dL,cw];rfl
 rintro⟨i,b,L⟩ ⟨hi,hb,hL⟩;refine aW ?_;refine bM ?_ ?_
 .intro h1 h2;have Py:=afJ xs 2 2 b (by decide) (by decide) hl hb hw;have dX:=AE (xs:=xs) (n:=2) (k:=nN xs b 3) (cD hb);have hk3:=et (xs:=xs) (a:=b) (n:=3) (by decide);have fr:=wJ xs 2 (nN xs b 3) (nx xs b);have nv:=AD xs 2 (nN xs b 3) (nx xs b);have pz:=AG xs (nN xs b 3) (nx xs b);simp only[reduceAdd] at Py;obtain⟨b1,eb1⟩:=ax (xy xs 2 (nN xs b 3) (nx xs b));obtain⟨cc,ecc⟩:=ax (kI xs 2 (nN xs b 3) (nx xs b));rw[eb1] at Py dX;rw[ecc] at Py fr nv pz;obtain⟨H1,res,⟨ts,b2,rfl,rfl,eI,xR,en,hz⟩,Bv⟩:=R_ xs b1 2 2 hl dX hw (by decide) (by decide);have cb:=aD xs b;have cb1:=aD xs b1;have hr:RdR (cc,ts):=⟨nv,pz,by show cc.length<=5;omega,en,hz,xR⟩;have bO:=iu L (cc,ts);unfold x9 at bO;have rlt:=aw ts;obtain⟨m,hm⟩:=ax ts.length;rw[hm] at rlt Bv;have tk:=bB (ts:=ts) (n:=m) (by omega)
  have rlL:=aK L;obtain⟨K,hK⟩:=ax L.length;rw[hK] at rlL hi;have tkL:=cO (l:=L) (n:=K) (by omega);dsimp only;rw[hK];have dP:lent 0 2 1=2:=rfl;have amv:lent 0 3 1=3:=rfl;have ahN:lent 0 4 1=4:=rfl;have e9:((i:Int) - 1)=((i - 1:Nat):Int):=by omega
  unfold S at Py Bv cb cb1;refine ae h2 ?_;refine eG 0 Py cb ?_;refine so ?_;refine eG 0 Bv cb1 ?_;refine f9 (bu dP tk rlt tkL rlL bO e9 @qp) ?_
  repeat refine ag ?_
  refine aA (i - 1,b2,L++[(cc,ts)]) ?_ ⟨by rw[qe,hK];show i - 1+(K+1)<=2;omega,eI,MI hL hr⟩;exact bx [0,4]
 intro h1 h2;have Cn:i=0:=by omega
 subst Cn;refine ae h2 ?_;exact⟨[.box true [.fv (.sl (ints xs)),.int .i64 b,.int .i64 0],.row true (aG L)],.lsl 1 0 L.length 2,⟨L,b,rfl,rfl,hb,by omega,hL⟩,RetOK.lentOwn (cd:=True/\True) rfl ⟨cK,cK⟩ rfl (aD xs b) rfl (by decide) rfl⟩
theorem akc (xs:List Int) (a:Nat) (hl:xs.length<=1000) (ha:a<=xs.length) (hw:W64 xs): ∃ H1 res,RgS xs H1 res/\Den Tryz.prog 46 [S xs a] [.ptr 0 0 0,.int .i64 2,.int .i64 2] H1 res:=by
 have hN:=l_ xs a 3 hl ha hw (by omega) (by omega);have aL:=et (xs:=xs) (a:=a) (n:=3) (by omega);have hc:=aD xs a;have Pw:=cD ha;generalize nN xs a 3=n at*;obtain⟨a0,hA⟩:=ax (nx xs a);rw[hA] at hN Pw;have e3:((2:Int)+1)=((3:Nat):Int):=rfl;unfold RgS;unfold S at hN hc;unfold S;refine Lh Tryz.func46 29 1 ?_;refine bw e3 ?_;refine eG 0 hN hc ?_;refine so ?_;refine wl (α:=Nat×Nat×List RR) (fun⟨i,b,L⟩=>⟨[.ptr 0 0 0,.int .i64 2,.int .i64 2,.any,.any,.any,.any,.lsl 1 0 L.length 2,.int .i64 i]++replicate 23 .any,[.box true [.fv (.sl (ints xs)),.int .i64 b,.int .i64 0],.row true (aG L)]⟩)
  (fun⟨i,_,_⟩=>i) (fun⟨i,b,L⟩=>i+L.length<=2/\b<=xs.length/\ ∀ r∈L,RdR r) (n,a0,[]) ?_ ⟨by simp;omega,Pw,fun t ht=>by simp at ht⟩ ?_
 .refine Weak.nil 7 2 (by decide) rfl ?_;refine eH [0,1] ?_ ?_
  .simp[bh,dF,cw]
  simp[d_,fD,dL,cw];rfl
 rintro⟨i,b,L⟩ ⟨hi,hb,hL⟩;refine aW ?_;refine bM ?_ ?_
 .intro h1 h2;have h17:=aka xs 2 b (by decide) hl hb hw;simp only[reduceMul] at h17;have IZ:s9 xs 4 b<=xs.length:=tc hb;have hbl:=AF xs 2 0 b;have Y7:=MG xs 2 0 b;have ahO:=VF xs b;obtain⟨b0,eb0⟩:=ax (s9 xs 4 b);obtain⟨bb,ebb⟩:=ax (vd xs 2 0 b);rw[eb0] at IZ;rw[eb0,ebb] at h17;rw[ebb] at hbl Y7 ahO;have Py:=afJ xs 2 1 b0 (by decide) (by decide) hl IZ hw;have dX:=AE (xs:=xs) (n:=2) (k:=nN xs b0 2) (cD IZ);have hk3:=et (xs:=xs) (a:=b0) (n:=2) (by decide);have fr:=wJ xs 2 (nN xs b0 2) (nx xs b0);have nv:=AD xs 2 (nN xs b0 2) (nx xs b0);have pz:=AG xs (nN xs b0 2) (nx xs b0);simp only[reduceAdd] at Py;obtain⟨b1,eb1⟩:=ax (xy xs 2 (nN xs b0 2) (nx xs b0));obtain⟨cc,ecc⟩:=ax (kI xs 2 (nN xs b0 2) (nx xs b0));rw[eb1] at Py dX;rw[ecc] at Py fr nv pz
  obtain⟨H1,res,⟨ts,b2,rfl,rfl,eI,xR,en,hz⟩,Bv⟩:=R_ xs b1 2 2 hl dX hw (by decide) (by decide);have cb:=aD xs b;have cb0:=aD xs b0;have cb1:=aD xs b1;have hr:RdR (bb++cc,ts):=⟨fun l hl=>by
   rcases List.mem_append.1 hl with h | h
   .exact Y7 l h
   exact nv l h,VG ahO pz,by show(bb++cc).length<=5;rw[qe];omega,en,hz,xR⟩
  have bO:=iu L (bb++cc,ts);unfold x9 at bO;have rlt:=aw ts;obtain⟨m,hm⟩:=ax ts.length;rw[hm] at rlt Bv;have tk:=bB (ts:=ts) (n:=m) (by omega);have rlL:=aK L;obtain⟨K,hK⟩:=ax L.length;rw[hK] at rlL hi;have tkL:=cO (l:=L) (n:=K) (by omega);have rlb:=aq bb;have rlc:=aq cc;have tkb:=bc (ls:=bb) (n:=4) (by omega);have amw:(∀ y,y∈ai cc->y.length=27)=True:=eq_true (VH (ls:=cc) (fun l hl=>(nv l hl).len));have amx:ai bb++ai cc=ai (bb++cc):=by simp[ai]
  have rlbc:=aq (bb++cc);rw[qe] at rlbc;obtain⟨q,hq⟩:=ax cc.length;rw[hq] at rlc rlbc;rw[hbl] at rlb rlbc;have tkc:=bc (ls:=bb++cc) (n:=4+q) (by rw[qe];omega);dsimp only;rw[hK];have dP:lent 0 2 1=2:=rfl;have amv:lent 0 3 1=3:=rfl;have ahN:lent 0 4 1=4:=rfl;have e9:((i:Int) - 1)=((i - 1:Nat):Int):=by omega
  unfold S at h17 Py Bv cb cb0 cb1;refine ae h2 ?_;refine eG 0 h17 cb ?_;refine f9 dP ?_;refine eG 0 Py cb0 ?_;refine f9 (eU amw tkb amx rlb rlc @map_cons.{0,0} @map_nil.{0,0}) ?_
  repeat refine ag ?_
  refine eG 0 Bv cb1 ?_;refine f9 (bu ahN tk rlt tkc rlbc tkL rlL (bA bO e9 @qp)) ?_
  repeat refine ag ?_
  refine aA (i - 1,b2,L++[(bb++cc,ts)]) ?_ ⟨by rw[qe,hK];show i - 1+(K+1)<=2;omega,eI,MI hL hr⟩;exact bx [0,6]
 intro h1 h2;have Cn:i=0:=by omega
 subst Cn;refine ae h2 ?_;exact⟨[.box true [.fv (.sl (ints xs)),.int .i64 b,.int .i64 0],.row true (aG L)],.lsl 1 0 L.length 2,⟨L,b,rfl,rfl,hb,by omega,hL⟩,RetOK.lentOwn (cd:=True/\True) rfl ⟨cK,cK⟩ rfl (aD xs b) rfl (by decide) rfl⟩
def fm (a b c:Rat):List Raw:=[cn a,cn b,cn 0,cn 0,cn 0,cn 0,cn 0,cn 0,cn c]
theorem MJ (a b c:Rat) (x:Nat->Rat):bf (fm a b c) x=c+a*x 0+b*x 1:=by
 have e: ∀ q:Rat,(cn q).q=q:=cu;have c8:co (fm a b c) 8=c:=e c;have c0:co (fm a b c) 0=a:=e a;have c1:co (fm a b c) 1=b:=e b;have c2:co (fm a b c) 2=0:=e 0;have c3:co (fm a b c) 3=0:=e 0;have c4:co (fm a b c) 4=0:=e 0;have c5:co (fm a b c) 5=0:=e 0;have c6:co (fm a b c) 6=0:=e 0;have c7:co (fm a b c) 7=0:=e 0;rw[uN,c8,c0,c1,c2,c3,c4,c5,c6,c7];grind
def pt (x y:Rat):Nat->Rat:=fun i=>if i=0 then x else y
theorem pt0 (x y:Rat):pt x y 0=x:=rfl
theorem pt1 (x y:Rat):pt x y 1=y:=rfl
theorem MK {a b c a1 b1 c1 a2 b2 c2 x y:Rat} (h0:0<c+a*x+b*y) (h1:0<c1+a1*x+b1*y) (h2:0<c2+a2*x+b2*y):dr [fm a b c,fm a1 b1 c1,fm a2 b2 c2]=true:=by
 refine eh.2 ⟨pt x y,fun l hl=>?_⟩;simp only[BL,not_mem_nil,or_false] at hl;rcases hl with rfl | rfl | rfl<;>rw[MJ,pt0,pt1]<;>assumption
theorem Sf {a b c a1 b1 c1 x y:Rat} (h0:0<c+a*x+b*y) (h1:0<c1+a1*x+b1*y):dr [fm a b c,fm a1 b1 c1]=true:=by
 refine eh.2 ⟨pt x y,fun l hl=>?_⟩;simp only[BL,not_mem_nil,or_false] at hl;rcases hl with rfl | rfl<;>rw[MJ,pt0,pt1]<;>assumption
abbrev qL:List (List Raw):=[fm (-1) (-1) 1,fm 0 1 0,fm 1 0 0]
abbrev B0:List (List Raw):=[fm 0 (-1) 1,fm 0 1 0]
theorem AH {s t:List (List Raw)} {i:Nat} (h:sysL (kQ s i++[cV (s.getD i [])]) []=t) (hf:dr t=true):oW s i=true:=by
 unfold oW;rw[h];exact hf
theorem JW:jA 3 0 qL=qL:=by
 have r0:oW qL 0=true:=AH (t:=[fm 0 1 0,fm 1 0 0,fm 1 1 (-1)]) (by decide+kernel) (MK (x:=1) (y:=1) (by decide+kernel) (by decide+kernel) (by decide+kernel));have r1:oW qL 1=true:=AH (t:=[fm (-1) (-1) 1,fm 0 (-1) 0,fm 1 0 0]) (by decide+kernel) (MK (x:=1) (y:= -1) (by decide+kernel) (by decide+kernel) (by decide+kernel));have r2:oW qL 2=true:=AH (t:=[fm (-1) (-1) 1,fm (-1) 0 0,fm 0 1 0]) (by decide+kernel) (MK (x:= -1) (y:=1) (by decide+kernel) (by decide+kernel) (by decide+kernel));unfold jA;rw[if_pos (by decide),if_pos r0];unfold jA;rw[if_pos (by decide),if_pos r1];unfold jA;rw[if_pos (by decide),if_pos r2];unfold jA;rfl
theorem JX:jA 2 0 B0=B0:=by
 have r0:oW B0 0=true:=AH (t:=[fm 0 1 (-1),fm 0 1 0]) (by decide+kernel) (Sf (x:=0) (y:=2) (by decide+kernel) (by decide+kernel));have r1:oW B0 1=true:=AH (t:=[fm 0 (-1) 0,fm 0 (-1) 1]) (by decide+kernel) (Sf (x:=0) (y:= -1) (by decide+kernel) (by decide+kernel));unfold jA;rw[if_pos (by decide),if_pos r0];unfold jA;rw[if_pos (by decide),if_pos r1];unfold jA;rfl
theorem wK {cs s t:List (List Raw)} (hv:eg cs=false) (hs:sysL cs []=s) (hf:dr s=true) (ht:jA s.length 0 s=t):aZ cs=true/\aQ cs=t:=by
 have h1:aZ cs=true:=by unfold aZ;rw[hv,hs,hf];rfl
 refine⟨h1,?_⟩;unfold aQ;rw[if_pos h1,hs,ht]
abbrev B4:List (List Raw):=[iP 0,iP 1,(nK (dt 1) (cV ((nK (iP 0) (iP 1)).map cn))).map cn]
theorem EL:B4=[fm 1 0 0,fm 0 1 0,fm (-1) (-1) 1]:=by decide+kernel
theorem Oz:aZ B4=true/\aQ B4=qL:=wK (s:=qL) (by rw[EL];decide+kernel) (by rw[EL];decide+kernel) (MK (x:=1 / 4) (y:=1 / 4) (by decide+kernel) (by decide+kernel) (by decide+kernel)) JW
theorem EM {cs t:List (List Raw)} {p:List Tm} (h:aZ cs=true/\aQ cs=t) (hp:p≠[]):nrmL [(cs,p)]=[(t,p)]:=by
 unfold nrmL;rw[List.filter_cons_of_pos (by simp[h.1]),List.filter_nil,map_cons,map_nil,h.2];show gB [] (t,p)=_;unfold gB;rw[if_neg hp]
theorem VI:wE f5 [(qL,[(z8,1)])] [0,1]=(0,[(z8,1 / 2)]):=by
 have p1:([(z8.set 1 1,-1),(z8,1)]:List Tm)≠[]:=by simp
 have p2:([(z8,1 / 2)]:List Tm)≠[]:=by simp
 have s1:elimO [(qL,[(z8,1)])] 0=[([fm 0 1 0,fm 0 (-1) 1],[(z8.set 1 1,-1),(z8,1)])]:=by decide+kernel
 have s2:elimO [(B0,[(z8.set 1 1,-1),(z8,1)])] 1=[([fm 0 0 1],[(z8,1 / 2)])]:=by decide+kernel
 have m1:([(qL,[(z8,1)])]:List RC).any (missB 0)=false:=by decide+kernel
 have m2:([(B0,[(z8.set 1 1,-1),(z8,1)])]:List RC).any (missB 1)=false:=by decide+kernel
 have c1:aZ [fm 0 1 0,fm 0 (-1) 1]=true/\aQ [fm 0 1 0,fm 0 (-1) 1]=B0:=wK (s:=B0) (by decide+kernel) (by decide+kernel) (Sf (x:=0) (y:=1 / 2) (by decide+kernel) (by decide+kernel)) JX;have c2:aZ [fm 0 0 1]=true/\aQ [fm 0 0 1]=[]:=wK (s:=[]) (by decide+kernel) (by decide+kernel) (eh.2 Gs) rfl;have e1:f5 [(qL,[(z8,1)])] 0=(0,[(B0,[(z8.set 1 1,-1),(z8,1)])]):=by
  unfold f5;rw[if_neg (by decide),show(0:Int).toNat=0 from rfl,if_neg (by rw[m1];decide),s1,EM c1 p1]
 have e2:f5 [(B0,[(z8.set 1 1,-1),(z8,1)])] 1=(0,[([],[(z8,1 / 2)])]):=by
  unfold f5;rw[if_neg (by decide),show(1:Int).toNat=1 from rfl,if_neg (by rw[m2];decide),s2,EM c2 p2]
 have t1:qG f5 [(qL,[(z8,1)])] [0,1]=(0,[([],[(z8,1 / 2)])]):=by
  rw[qH,e1,if_pos rfl,qH,e2,if_pos rfl,Ey]
 unfold wE;rw[t1,if_pos rfl];unfold BX;rw[if_neg (by decide)];have:polyS' [(([]:List (List Raw)),([(z8,1 / 2)]:List Tm))]=[(z8,1 / 2)]:=by decide+kernel
 rw[this]
abbrev T_:List Raw:=(nK (iP 0) (iP 1)).map cn
abbrev fr3:List Raw:=(nK (dt 1) (cV T_)).map cn
theorem aai:T_=fm 1 1 0:=by decide+kernel
theorem aaj:fr3=fm (-1) (-1) 1:=by decide+kernel
theorem Sg {a b c:Rat} (ha:Bd 1 a) (hb:Bd 1 b) (hc:Bd 1 c):LOk 1 (fm a b c):=by
 have h0:Bd 1 (0:Rat):=⟨by decide,by decide⟩;refine⟨rfl,fun r hr=>?_⟩;unfold fm at hr;simp only[BL,not_mem_nil,or_false] at hr;rcases hr with rfl | rfl | rfl | rfl | rfl | rfl | rfl | rfl | rfl<;>refine bj ?_<;>assumption
theorem m5:Bd 1 (1:Rat):=⟨by decide,by decide⟩
theorem vf:Bd 1 (0:Rat):=⟨by decide,by decide⟩
theorem yL:Bd 1 (-1:Rat):=⟨by decide,by decide⟩
theorem aak {l:List Raw} (h:l.length=9): ∃ a b c d e f g h i,l=[a,b,c,d,e,f,g,h,i]:=by
 match l,h with
 | [a,b,c,d,e,f,g,h,i],_=>exact⟨a,b,c,d,e,f,g,h,i,rfl⟩
theorem akd (P:List RT):Den Tryz.prog 78 [] [PL P] [] (RL' [(B4,P)]):=by
 have h0:=Z' 0 (by decide);have h1:=Z' 1 (by decide);have jN:=iy 1 (by omega);have KZ:=Vj (cn ((1:Int):Rat)) ((bj (Bd.mono m5 (by decide))));rw[cu] at KZ;have hx:LOk 1 (iP 0):=oZ 0;have hy:LOk 1 (iP 1):=oZ 1;have hn:LOk 1 (dt 1):=u_ m5;have hs:LOk 1 T_:=by rw[aai];exact Sg m5 m5 vf
 have a1:=zC (iP 0) (iP 1) (hx.mono (by decide)) (hy.mono (by decide));have a2:=Oi T_ (hs.mono (by decide));have hm:LOk 2 (cV T_):=mi hs (by decide);have a3:=zC (dt 1) (cV T_) (hn.mono (by decide)) (hm.mono (by decide));change Den Tryz.prog 101 [] [RL (iP 0),RL (iP 1)] [] (RL T_) at a1;change Den Tryz.prog 101 [] [RL (dt 1),RL (cV T_)] [] (RL fr3) at a3;change Den Tryz.prog 32 [] _ [] (.agg (cn ((1:Int):Rat)).c) at jN;change Den Tryz.prog 102 [] [.agg (cn ((1:Int):Rat)).c] [] (RL (dt 1)) at KZ;have hf:LOk 1 fr3:=by rw[aaj];exact Sg yL yL m5
 have hR:RL' [(B4,P)]= .fv (.sl [[.sl (ai [iP 0,iP 1,fr3]),.sl (av P)]]):=rfl;rw[hR];have lx:=hx.len;have ly:=hy.len;have ls:=hs.len;have ln:=hn.len;have lm:=hm.len;have lf:=hf.len;obtain⟨X,hX⟩:=ax (iP 0);obtain⟨Y,hY⟩:=ax (iP 1);obtain⟨Z,hZ⟩:=ax fr3;obtain⟨S,hS⟩:=ax T_;obtain⟨M,hM⟩:=ax (cV T_);obtain⟨N,hN⟩:=ax (dt 1);obtain⟨c,hc⟩:=ax (cn ((1:Int):Rat));rw[hZ] at a3 lf ⊢;rw[hM] at a2 a3 lm;rw[hS] at a1 a2 ls;rw[hX] at h0 a1 lx ⊢;rw[hY] at h1 a1 ly ⊢;rw[hN] at KZ a3 ln;rw[hc] at jN KZ;have gx:=ah X;have gy:=ah Y;have gz:=ah Z;have gs:=ah S;have gm:=ah M;have gn:=ah N;have jG:=aj lx;have kB:=aj ly;have z27:=aj lf;have X27:=ay lx;have Y27:=ay ly;have Z27:=ay lf;have fx:=aE X;have fy:=aE Y;have fz:=aE Z
 have tU:ai [X,Y,Z]=[cx X,cx Y,cx Z]:=rfl;unfold RL at h0 h1 a1 a2 a3 KZ;refine dq Tryz.func78 21 0 ?_;refine aW ?_;refine aM h0 ?_;refine vG ?_
 repeat refine ag ?_
 refine aM h1 ?_;refine bm (dR gx lx gy ly) ?_
 repeat refine ag ?_
 refine dw (by kernel_rfl) ?_;refine aN ?_;refine aM jN ?_;refine ae (aB @da @append_nil.{0}) ?_;refine xL KZ ?_;refine bm (eU @fG gx lx jG gy ly kB) ?_
 repeat refine ag ?_
 refine gv a1 ?_;refine vG ?_;refine gv a2 ?_;refine vG ?_;refine gv a3 ?_;refine bm (bA gz lf z27) ?_
 repeat refine ag ?_
 clear h0 h1 jN KZ a1 a2 a3 hX hY hZ hS hM hN hc hx hy hn hs hm hf hR gx gy gz gs gm gn jG kB z27 X27 Y27 Z27 fx fy fz tU ls lm ln;obtain⟨x0,x1,x2,x3,x4,x5,x6,x7,x8,rfl⟩:=aak lx;obtain⟨y0,y1,y2,y3,y4,y5,y6,y7,y8,rfl⟩:=aak ly;obtain⟨z0,z1,z2,z3,z4,z5,z6,z7,z8,rfl⟩:=aak lf;simp -dsimp(disch:=omega) only[flat,ai,cx,map_cons,map_nil,↓reduceIte,reduceAdd,reduceMul,reduceLT,reduceLeDiff,ru];exact O7 (vs:=[.lsl 4 0 1 2]) rfl ⟨cK,cK⟩ rfl
theorem aal:IT [(qL,n4)]/\Den Tryz.prog 90 [] [RL' [(B4,n4.map tn)]] [] (.tup [RL' ([(qL,n4)].map rn),.int .i64 0]):=by
 have hs:g_ 0 1 2 2 6 23 5 2:=⟨by decide,by decide,by decide,by decide,by decide,by decide,by decide,by decide⟩;have hq: ∀ r∈[((B4,n4):RC)],RgQ 0 1 2 2 6 23 5 r:=fun r hr=>by
  rw[qz] at hr;subst hr;have h9: ∀ l∈B4,∃ a b c,l=fm a b c/\Bd 1 a/\Bd 1 b/\Bd 1 c:=fun l hl=>by
   rw[EL] at hl;simp only[BL,not_mem_nil,or_false] at hl;rcases hl with rfl | rfl | rfl
   .exact⟨_,_,_,rfl,m5,vf,vf⟩
   .exact⟨_,_,_,rfl,vf,m5,vf⟩
   exact⟨_,_,_,rfl,yL,yL,m5⟩
  have sX:Canon n4:=RX ▸ dc (by intro t ht;rw[qz] at ht;rw[ht];exact bX);refine⟨fun l hl=>?_,fun l hl i hi h0 h1=>?_,by decide,gD (kn _) (by decide),sX,fun t ht=>?_,?_,.inl (by decide)⟩
  .obtain⟨a,b,c,rfl,ha,hb,hc⟩:=h9 l hl;exact(Sg ha hb hc).mono (by decide)
  .obtain⟨a,b,c,rfl,ha,hb,hc⟩:=h9 l hl;have:i=2\/i=3\/i=4\/i=5\/i=6\/i=7:=by omega
   rcases this with rfl | rfl | rfl | rfl | rfl | rfl<;>exact cu 0
  .unfold n4 at ht;rw[qz] at ht;subst ht;exact⟨bX,fun i _ _ _=>sa,by show 0<=z8.getD 0 0/\z8.getD 0 0<=2;rw[sa];omega,by show 0<=z8.getD 1 0/\z8.getD 1 0<=2;rw[sa];omega⟩
  exact(PB.one (t:=(z8,1)) (Bd.mono m5 (show 1<=23 by decide)))
 have h1:=lL hs hq (by decide);have h2:=EE hs hq (fun r _=> .inl (by decide)) (by decide);have he:nrmL [(B4,n4)]=[(qL,n4)]:=EM Oz (by simp[n4]);rw[he] at h1 h2;exact⟨.inl ⟨h2.1,h2.2.1,h2.2.2⟩,h1⟩
theorem afL:Den Tryz.prog 29 [] [] [] (.bool true):=by
 have I3:=ajZ;have DS:=akd (n4.map tn);obtain⟨h1,h2⟩:=aal;have mK:=Mv h1 h2 [0,1] (fun x hx=>by
  simp only[BL,not_mem_nil,or_false] at hx;rcases hx with rfl | rfl<;>decide) (by decide)
 rw[show([(qL,n4)]:List RC)=[(qL,[(z8,1)])] from rfl,VI] at mK;unfold mB at mK;rw[if_pos rfl] at mK;have hl:LOkT 1000000 1000000 [(z8,(1:Rat) / 2)]:=⟨fun t ht=>by rw[qz] at ht;rw[ht];exact bX,fun t ht=>by
  rw[qz] at ht;rw[ht];exact Bd.mono (j:=1) ⟨by decide+kernel,by decide+kernel⟩ (by decide),fun t ht e he=>by
  rw[qz] at ht;rw[ht] at he;have:=eq_of_mem_replicate he;omega⟩
 have Bs:=aft [(z8,(1:Rat) / 2)] (cn ((2:Int):Rat)) hl (bj (Bd.mono (j:=1) ⟨by decide,by decide⟩ (by decide))) (by decide);rw[cu] at Bs;have ho:i_ [(z8,(1:Rat) / 2)] (z8,((2:Int):Rat))=n4:=by decide+kernel
 rw[ho] at Bs;have jN:=iy 2 (by omega);change Den Tryz.prog 32 [] _ [] (.agg (cn ((2:Int):Rat)).c) at jN;have Xt:=U4 (n4.map tn) (fun t ht=>by
  obtain⟨u,hu,rfl⟩:=mem_map.1 ht;unfold n4 at hu;rw[qz] at hu;subst hu;exact⟨bX,fun x hx=>by have:=eq_of_mem_replicate hx;omega,bj (Bd.mono m5 (by decide))⟩) (by decide)
 have hi:ints [0,1]=[[FV.lit (.int .i64 0)],[FV.lit (.int .i64 1)]]:=rfl;rw[hi] at mK;obtain⟨T,hT⟩:=ax ([(B4,n4.map tn)]);rw[hT] at DS mK;obtain⟨Q,hQ⟩:=ax (([(z8,(1:Rat) / 2)]:List Tm).map tn);dsimp only at mK;rw[hQ] at mK Bs;obtain⟨O,hO⟩:=ax (n4.map tn);rw[hO] at I3 DS Bs Xt;obtain⟨c,hc⟩:=ax (cn ((2:Int):Rat));rw[hc] at jN Bs;have e1:((0:Int)==0)=true:=rfl;refine dq Tryz.func29 19 0 ?_;refine aW ?_;refine aM I3 ?_;refine aN ?_;refine aM DS ?_;refine aN ?_;refine gp mK (by simp[bJ,eT,eo,dZ]) ?_;refine ae e1 ?_;refine aM jN ?_;refine ae (aB @da @append_nil.{0}) ?_;refine xL Bs ?_;refine aN ?_;refine aM I3 ?_;refine aN ?_;refine aM Xt ?_;refine aN ?_;exact a_ rfl
end Go.Proofs.YtjjbkjgifdhlcaaGreat
