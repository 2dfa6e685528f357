/- Plain:a canonical list is told by its region. -/
import Derived.Test.YtjjbkjgifdhlcaaGreatT16
import Derived.Test.YtjjbkjgifdhlcaaGreatT14
import Derived.Test.YtjjbkjgifdhlcaaGreatT8
import Derived.Test.YtjjbkjgifdhlcaaGreatT1
open Nat (reduceAdd reduceLT reduceLeDiff reduceMul)
open List (append_assoc append_nil drop_eq_getElem_cons filter_append length_cons length_take mem_cons_of_mem pairwise_cons replicate)
namespace Go.Pl
open Go.AM
def way (x y:Nat->Rat) (t:Rat):Nat->Rat:=fun i=>x i+t*(y i - x i)
theorem lv_way (a:List Raw) (x y:Nat->Rat) (t:Rat): ∀ k,lv a (way x y t) k=lv a x k+t*(lv a y k - lv a x k)
 | 0=>by simp only[lv];grind
 | k+1=>by
  simp only[lv];rw[lv_way a x y t k];simp only[way];grind
theorem lval_way (a:List Raw) (x y:Nat->Rat) (t:Rat):lval a (way x y t)=lval a x+t*(lval a y - lval a x):=lv_way a x y t 8
theorem pos_way (y:Nat->Rat): ∀ (s:List (List Raw)) (x:Nat->Rat),Pos s x-> ∃ e:Rat,0<e/\ ∀ t:Rat,0<=t->t<=e->Pos s (way x y t)
 | [],x,_=>⟨1,by decide,fun t _ _ l hl=>by simp at hl⟩
 | m::s,x,h=>by
  obtain⟨e1,h1,k1⟩:=pos_way y s x (fun l hl=>h l (mem_cons_of_mem _ hl));obtain⟨e2,h2,k2⟩:=near (lval m x) (lval m y - lval m x) (h m (by simp));by_cases h3:e1<=e2
  ·refine⟨e1,h1,fun t ht1 ht2 l hl=>?_⟩;rcases List.mem_cons.1 hl with h4 | h4
   ·subst h4;rw[lval_way];have:=k2 t (by grind) (by grind);grind
   ·exact k1 t ht1 ht2 l h4
  ·refine⟨e2,h2,fun t ht1 ht2 l hl=>?_⟩;rcases List.mem_cons.1 hl with h4 | h4
   ·subst h4;rw[lval_way];have:=k2 t (by grind) ht2;grind
   ·exact k1 t ht1 (by grind) l h4
theorem touch {s:List (List Raw)} {l m:List Raw} {z x0:Nat->Rat} (H: ∀ x,Pos s x->0<lval l x->0<lval m x) (hz:Pos s z) (hl:lval l z=0) (hm:lval m z<=0) (hx:0<lval l x0):
 lval m z=0/\ ∀ y,0<lval l y->0<lval m y:=by
 have key: ∀ y,0<lval l y-> ∃ e:Rat,0<e/\ ∀ t:Rat,0<t->t<=e->0<lval m z+t*(lval m y - lval m z):=by
  intro y hy;obtain⟨e,he,k⟩:=pos_way y s z hz;refine⟨e,he,fun t h1 h2=>?_⟩;have h3:=H _ (k t (Rat.le_of_lt h1) h2) (by
   rw[lval_way,hl];have:=Rat.mul_pos h1 hy;grind)
  rw[lval_way] at h3;exact h3
 have h0:lval m z=0:=by
  by_cases h:lval m z=0
  ·exact h
  ·exfalso;obtain⟨e,he,k⟩:=key x0 hx;obtain⟨e2,he2,k2⟩:=near (-lval m z) (-(lval m x0 - lval m z)) (by grind);by_cases h3:e<=e2
   ·have a1:=k e he Rat.le_refl;have a2:=k2 e (by grind) h3;grind
   ·have a1:=k e2 he2 (by grind);have a2:=k2 e2 (by grind) Rat.le_refl;grind
 refine⟨h0,fun y hy=>?_⟩
 obtain⟨e,he,k⟩:=key y hy
 have a1:=k e he Rat.le_refl
 rw[h0] at a1
 by_cases h:0<lval m y
 ·exact h
 ·exfalso
  have:=Rat.mul_nonneg (Rat.le_of_lt he) (show 0<= -lval m y by grind)
  grind
theorem lin_all {a b:Rat} (h: ∀ k:Rat,0<a+k*b):b=0:=by
 by_cases hb:b=0
 ·exact hb
 ·exfalso;have h1:=h (-(a+1) / b);have h2: -(a+1) / b*b= -(a+1):=by grind
  grind
theorem half_lin {l m:List Raw} {z x0:Nat->Rat} (hlc: ¬IsConst l) (hmc: ¬IsConst m) (h: ∀ y,0<lval l y->0<lval m y) (hl:lval l z=0) (hm:lval m z=0) (hx:0<lval l x0):
 ∃ c:Rat,0<c/\ ∀ i,i<9->co m i=c*co l i:=by
 obtain⟨u,hu,hcu⟩:=not_const hlc
 have key: ∀ w,w<8->co m w*co l u=co m u*co l w:=by
  intro w hw;by_cases huw:w=u
  ·rw[huw]
  ·have:co m w*co l u - co m u*co l w=0:=lin_all (a:=lval m x0) (fun k=>by
    have h1:=h (upd (upd x0 w (x0 w+k*co l u)) u (x0 u - k*co l w)) (by
     rw[lval_upd hu,lval_upd hw,upd_ne (fun e=>huw e.symm)];grind)
    rw[lval_upd hu,lval_upd hw,upd_ne (fun e=>huw e.symm)] at h1;grind)
   grind
 have hmu:co m u≠0:=fun h0=>hmc (fun w hw=>by
  have:=key w hw;rw[h0,Rat.zero_mul] at this;rcases Rat.mul_eq_zero.1 this with h1 | h1
  ·exact h1
  ·exact absurd h1 hcu)
 have hsg:0<=co m u*co l u:=by
  by_cases h0:0<=co m u*co l u
  ·exact h0
  ·exfalso;have hn:0< -(co m u*co l u):=by grind
   have hx2:=h x0 hx;have hinv:0<(-(co m u*co l u))⁻¹:=Rat.inv_pos.2 hn;have hk:0<=(lval m x0+1)*(-(co m u*co l u))⁻¹:=Rat.mul_nonneg (by grind) (Rat.le_of_lt hinv);have hkk:(lval m x0+1)*(-(co m u*co l u))⁻¹*(co m u*co l u)= -(lval m x0+1):=by
    have:=Rat.mul_inv_cancel (-(co m u*co l u)) (by grind);grind
   obtain⟨k,hkd⟩:=ex1 ((lval m x0+1)*(-(co m u*co l u))⁻¹);rw[hkd] at hk hkk;have h1:=h (upd x0 u (x0 u+k*co l u)) (by
    rw[lval_upd hu];have hsq:0<=co l u*co l u:=by
     by_cases hp:0<=co l u
     ·exact Rat.mul_nonneg hp hp
     ·have:=Rat.mul_nonneg (show 0<= -co l u by grind) (show 0<= -co l u by grind);grind
    have:=Rat.mul_nonneg hk hsq;grind)
   rw[lval_upd hu] at h1;grind
 have hc:0<co m u / co l u:=by
  have hne:co m u*co l u≠0:=fun h0=>by
   rcases Rat.mul_eq_zero.1 h0 with h1 | h1
   ·exact hmu h1
   ·exact hcu h1
  by_cases hp:0<co m u / co l u
  ·exact hp
  ·exfalso;have e:co m u / co l u*(co l u*co l u)=co m u*co l u:=by grind
   have hsq:0<=co l u*co l u:=by
    by_cases hp:0<=co l u
    ·exact Rat.mul_nonneg hp hp
    ·have:=Rat.mul_nonneg (show 0<= -co l u by grind) (show 0<= -co l u by grind);grind
   have:=Rat.mul_nonneg (show 0<= -(co m u / co l u) by grind) hsq;grind
 obtain⟨c,hcd⟩:=ex1 (co m u / co l u)
 have hcu2:c*co l u=co m u:=by rw[<-hcd];grind
 rw[hcd] at hc
 have hlin: ∀ w,w<8->co m w=c*co l w:=by
  intro w hw;have:=key w hw;have e:(co m w - c*co l w)*co l u=0:=by rw[<-hcu2] at this;grind
  rcases Rat.mul_eq_zero.1 e with h1 | h1
  ·grind
  ·exact absurd h1 hcu
 refine⟨c,hc,fun i hi=>?_⟩
 by_cases h8:i<8
 ·exact hlin i h8
 ·have hi8:i=8:=by omega
  subst hi8
  rw[lval_eq] at hl hm
  rw[hlin 0 (by decide),hlin 1 (by decide),hlin 2 (by decide),hlin 3 (by decide),hlin 4 (by decide),hlin 5 (by decide),hlin 6 (by decide),hlin 7 (by decide)] at hm
  grind
theorem absq_div {x C:Rat} (hC:0<C):absq (x / C)=absq x / C:=by
 have h1:(x / C).num<0↔x / C<0:=num_neg_iff;have h2:x.num<0↔x<0:=num_neg_iff;have e:x / C*C=x:=by grind
 have h3:x / C<0↔x<0:=by
  constructor
  ·intro h;have:=Rat.mul_pos (show 0< -(x / C) by grind) hC;grind
  ·intro h;by_cases h4:x / C<0
   ·exact h4
   ·have:=Rat.mul_nonneg (show 0<=x / C by grind) (Rat.le_of_lt hC);grind
 unfold absq;split<;>split<;>grind
theorem nrm_one {l m:List Raw} {c:Rat} (hl:IsCn l) (hm:IsCn m) (nl:nrmR l=l) (nm:nrmR m=m) (hlc: ¬IsConst l) (hmc: ¬IsConst m) (hc:0<c) (h: ∀ i,i<9->co m i=c*co l i):m=l:=by
 have h9l:=hl.len;have h9m:=hm.len;have hinv:0<c⁻¹:=Rat.inv_pos.2 hc;have hcc:c*c⁻¹=1:=Rat.mul_inv_cancel c (by grind);have e:m=(l.map (fun r=>r.q / c⁻¹)).map cn:=by
  refine cn_ext hm ⟨_,rfl,by simp[h9l]⟩ (fun i hi=>?_);rw[h i hi];unfold co;rw[qa,qa,qb (by omega),qb (by simp;omega)];simp only[Option.getD_some,List.getElem_map,cn_q];grind
 have hlead:(leadL m).q=(leadL l).q / c⁻¹:=by
  have:=lead_map2 (C:=c⁻¹) (by grind) (rs:=l);rw[<-e] at this;exact this
 have l0:=lead_ne h9l hlc;have m0:=lead_ne h9m hmc;have habs:absq (leadL m).q=c*absq (leadL l).q:=by rw[hlead,absq_div hinv];grind
 have hp:=absq_pos2 l0;rw[<-nl,<-nm];refine cn_ext (nrmR_cn h9m) (nrmR_cn h9l) (fun i hi=>?_);rw[nrmR_at h9m m0 hi,nrmR_at h9l l0 hi,habs,h i hi];grind
end Go.Pl
namespace Go.Pl
theorem numL_length (q:Rat):(numL q).length=9:=by simp[numL]
theorem numL_okk {k:Nat} {q:Rat} (hk:1<=k) (h:Bd k q):LOk k (numL q):=by
 have:numL q=((replicate 9 (0:Rat)).set 8 q).map cn:=by simp[numL]
 rw[this];refine LOk.of_map (by simp) (fun p hp=>?_);rcases List.mem_or_eq_of_mem_set hp with h1 | h1
 ·rw[List.eq_of_mem_replicate h1];exact Bd.zero hk
 ·rw[h1];exact h
theorem rz_ok (k:Nat):rz.Ok k:=by
 refine⟨?_,?_,?_,?_⟩<;>simp[rz,Dig]
end Go.Pl
namespace Go.Pl
open Go.AM
theorem GoodT.nm {s:List (List Raw)} (h:GoodT s): ∀ l∈s,nrmR l=l:=by
 obtain⟨k,hk,hs,hz⟩:=h;exact hs.nm
theorem GoodT.sorted {s:List (List Raw)} (h:GoodT s):s.Pairwise (fun a b=>cmpR a b<0):=by
 obtain⟨k,hk,hs,hz⟩:=h;exact hs.sorted
theorem facet_in {s t:List (List Raw)} (hs:GoodT s) (ht:GoodT t) (hirr:Irr s) {x0:Nat->Rat} (h0:Pos s x0) (hst: ∀ x,Pos s x↔Pos t x): ∀ l∈s,l∈t:=by
 intro l hl;obtain⟨i,hi,hil⟩:=List.mem_iff_getElem.1 hl;have hgd:s.getD i []=l:=by rw[qa,qb hi,Option.getD_some,hil]
 obtain⟨y,hy,hly⟩:=(red_iff hs hi).1 (hirr i hi);rw[hgd] at hly;have hp:0<lval l x0:=h0 l hl;have hd:0<lval l x0 - lval l y:=by grind
 have hinv:0<(lval l x0 - lval l y)⁻¹:=Rat.inv_pos.2 hd;have hcan:(lval l x0 - lval l y)*(lval l x0 - lval l y)⁻¹=1:=Rat.mul_inv_cancel _ (by grind);obtain⟨t0,ht0⟩:=ex1 (lval l x0*(lval l x0 - lval l y)⁻¹);have ht0p:0<t0:=by rw[<-ht0];exact Rat.mul_pos hp hinv
 have h1t:0<1 - t0:=by
  have:1 - t0=(-lval l y)*(lval l x0 - lval l y)⁻¹:=by rw[<-ht0];grind
  rw[this];exact Rat.mul_pos (by grind) hinv
 have hlz:lval l (way x0 y t0)=0:=by rw[lval_way,<-ht0];grind
 have hz:Pos (del s i) (way x0 y t0):=by
  intro a ha;rw[lval_way];have a1:=Rat.mul_pos h1t (h0 a (del_mem ha));have a2:=Rat.mul_pos ht0p (hy a ha);grind
 have hnt: ¬Pos t (way x0 y t0):=fun h=>by
  have:=(hst _).2 h l hl;rw[hlz] at this;exact absurd this (by grind)
 obtain⟨m,hm,hmz⟩: ∃ m,m∈t/\ ¬0<lval m (way x0 y t0):=by
  apply Classical.byContradiction;intro hne;exact hnt (fun m hm=>Classical.byContradiction (fun h=>hne ⟨m,hm,h⟩))
 have H: ∀ x,Pos (del s i) x->0<lval l x->0<lval m x:=by
  intro x hx hlx;refine(hst x).1 (fun a ha=>?_) m hm;rcases mem_del hi ha with h | h
  ·exact hx a h
  ·rw[h,hgd];exact hlx
 obtain⟨hmz0,hall⟩:=touch H hz hlz (by grind) hp;obtain⟨c,hc,hco⟩:=half_lin (hs.good.nc l hl) (ht.good.nc m hm) hall hlz hmz0 hp;have:=nrm_one (hs.good.cnf l hl) (ht.good.cnf m hm) (hs.nm l hl) (ht.nm m hm) (hs.good.nc l hl) (ht.good.nc m hm) hc hco;rw[<-this];exact hm
theorem canon_unique {s t:List (List Raw)} (hs:GoodT s) (ht:GoodT t) (is:Irr s) (it:Irr t) {x0:Nat->Rat} (h0:Pos s x0) (hst: ∀ x,Pos s x↔Pos t x):s=t:=
 sorted_unique (lt:=fun a b=>cmpR a b<0) (fun a b h h'=>by rw[cmpR_swap] at h';omega) s t hs.sorted ht.sorted
  (fun f=>⟨facet_in hs ht is h0 hst f,facet_in ht hs it ((hst x0).1 h0) (fun x=>(hst x).symm) f⟩)
theorem minus_const:constB (numL ((-1:Int):Rat))=true:=(constB_iff (numL_length _)).2 (fun i hi=>by rw[co_num (by omega),if_neg (by omega)])
theorem minus_okk:LOk 1 (numL ((-1:Int):Rat)):=numL_okk (by decide) ⟨by decide,by decide⟩
theorem minus_cs:CsT [numL ((-1:Int):Rat)]:=by
 have hs:sysL [numL ((-1:Int):Rat)] []=[]:=by
  show(if constB (numL ((-1:Int):Rat)) then _ else _)=_;rw[if_pos minus_const];rfl
 have hnc:ncs [numL ((-1:Int):Rat)]=[]:=ncs_const (fun l hl=>by
  rw[qz] at hl;subst hl;exact minus_const)
 have hg:GoodT (sysL [numL ((-1:Int):Rat)] []):=by
  rw[hs];have h0:nvars []=0:=by decide
  exact⟨1,qp _,⟨List.Pairwise.nil,by simp,by simp,by simp⟩,⟨by omega,fun h=>by omega,fun h=>by omega,fun h=>by omega⟩⟩
 refine⟨⟨fun l hl=>?_,by decide,by rw[hnc];decide,hg.good,fun l hl _=>?_⟩,hg⟩
 ·rw[qz] at hl;subst hl;exact minus_okk.mono (by decide)
 ·rw[qz] at hl;subst hl;exact minus_okk.mono (by decide)
theorem minus_inner:innerB [numL ((-1:Int):Rat)]=false:=by
 cases h:innerB [numL ((-1:Int):Rat)] with
 | false=>rfl
 | true=>
  obtain⟨x,hx⟩:=(innerB_iff minus_cs.cs.len9).1 h;exact absurd hx minus_in
theorem canonP_cs {a:List (List Raw)} (h:CsT a):CsT (canonP a):=by
 unfold canonP;split
 ·exact gs_cs (canS_good h.good)
 ·exact minus_cs
theorem canonP_len {a:List (List Raw)} (h:CsT a):(canonP a).length<=40:=by
 unfold canonP;split
 ·have:=(canS_good h.good).good.len;exact qnb (show(canL (sysL a []).length 0 (sysL a [])).length<=12 from this) (by decide)
 ·decide
theorem canonP_idem {a:List (List Raw)} (h:CsT a):canonP (canonP a)=canonP a:=by
 cases hi:innerB a with
 | false=>
  have e:canonP a=[numL ((-1:Int):Rat)]:=by unfold canonP;rw[hi];rfl
  rw[e];unfold canonP;rw[minus_inner];rfl
 | true=>
  have e:canonP a=canS (sysL a []):=by unfold canonP;rw[hi];rfl
  have hg:=canS_good h.good;have hf:feasB (canS (sysL a []))=true:=(canS_feas h.good).trans (inner_feas hi);rw[e,gs_canon hg hf];obtain⟨x0,hx0⟩:=feasB_iff.1 hf;exact canon_unique (canS_good hg) hg (canS_irr hg) (canS_irr h.good) ((canS_pos hg x0).2 hx0) (fun x=>canS_pos hg x)
abbrev Kc:=List (List Raw)
abbrev RC:=List (List Raw)×List Tm
def cmpC:Kc->Kc->Int
 | [],[]=>0
 | [],_::_=> -1
 | _::_,[]=>1
 | a::az,b::bs=>if cmpR a b=0 then cmpC az bs else cmpR a b
def CnK (k:Kc):Prop:= ∀ f∈k,IsCn f
theorem CnK.tail {f:List Raw} {k:Kc} (h:CnK (f::k)):CnK k:=fun g hg=>h g (mem_cons_of_mem _ hg)
theorem CnK.head {f:List Raw} {k:Kc} (h:CnK (f::k)):IsCn f:=h f (by simp)
theorem cmpC_self: ∀ a:Kc,cmpC a a=0
 | []=>rfl
 | a::az=>by unfold cmpC;rw[if_pos (cmpR_self a)];exact cmpC_self az
theorem cmpC_swap: ∀ a b:Kc,cmpC a b= -cmpC b a
 | [],[]=>rfl
 | [],_::_=>rfl
 | _::_,[]=>rfl
 | a::az,b::bs=>by
  have h:=cmpR_swap a b;unfold cmpC;by_cases h0:cmpR a b=0
  ·rw[if_pos h0,if_pos (by omega)];exact cmpC_swap az bs
  ·rw[if_neg h0,if_neg (by omega)];exact h
theorem cmpC_eq: ∀ {a b:Kc},CnK a->CnK b->cmpC a b=0->a=b
 | [],[],_,_,_=>rfl
 | [],_::_,_,_,h=>by simp[cmpC] at h
 | _::_,[],_,_,h=>by simp[cmpC] at h
 | a::az,b::bs,ha,hb,h=>by
  unfold cmpC at h;by_cases h0:cmpR a b=0
  ·rw[if_pos h0] at h;rw[cn_eq ha.head hb.head h0,cmpC_eq ha.tail hb.tail h]
  ·rw[if_neg h0] at h;exact absurd h h0
theorem cmpC_trans: ∀ {a b c:Kc},CnK a->CnK b->CnK c->cmpC a b<0->cmpC b c<0->cmpC a c<0
 | [],[],_,_,_,_,h,_=>by simp[cmpC] at h
 | [],_::_,[],_,_,_,_,h=>by simp[cmpC] at h
 | [],_::_,_::_,_,_,_,_,_=>by simp[cmpC]
 | _::_,[],_,_,_,_,h,_=>by simp[cmpC] at h
 | _::_,_::_,[],_,_,_,_,h=>by simp[cmpC] at h
 | a::az,b::bs,c::cs,ha,hb,hc,h1,h2=>by
  unfold cmpC at h1 h2 ⊢;by_cases e1:cmpR a b=0
  ·rw[if_pos e1] at h1;rw[cn_eq ha.head hb.head e1];by_cases e2:cmpR b c=0
   ·rw[if_pos e2] at h2 ⊢;exact cmpC_trans ha.tail hb.tail hc.tail h1 h2
   ·rw[if_neg e2] at h2 ⊢;exact h2
  ·rw[if_neg e1] at h1;by_cases e2:cmpR b c=0
   ·rw[<-cn_eq hb.head hc.head e2,if_neg e1];exact h1
   ·rw[if_neg e2] at h2;have:=cn_lt_trans ha.head hb.head hc.head h1 h2;rw[if_neg (by omega)];exact this
theorem cmpC_lt_le {a b c:Kc} (ha:CnK a) (hb:CnK b) (hc:CnK c) (h1:cmpC a b<0) (h2:cmpC b c<=0):cmpC a c<0:=by
 by_cases h:cmpC b c=0
 ·rw[<-cmpC_eq hb hc h];exact h1
 ·exact cmpC_trans ha hb hc h1 (by omega)
theorem cmpC_le_trans {a b c:Kc} (ha:CnK a) (hb:CnK b) (hc:CnK c) (h1:cmpC a b<=0) (h2:cmpC b c<=0):cmpC a c<=0:=by
 by_cases h:cmpC a b=0
 ·rw[cmpC_eq ha hb h];exact h2
 ·have:=cmpC_lt_le ha hb hc (by omega) h2;omega
instance:DecidableEq Raw:=fun a b=>decidable_of_iff (a.neg=b.neg/\a.num=b.num/\a.den=b.den) ⟨fun⟨h1,h2,h3⟩=>by cases a;cases b;simp_all,fun h=>by subst h;exact⟨rfl,rfl,rfl⟩⟩
def sumK (k:Kc) (m:Mn):List RC->Rat
 | []=>0
 | r::l=>(if r.1=k then sumC m r.2 else 0)+sumK k m l
theorem sumK_append (k:Kc) (m:Mn): ∀ a b:List RC,sumK k m (a++b)=sumK k m a+sumK k m b
 | [],b=>by simp[sumK,Rat.zero_add]
 | r::a,b=>by
  rw[List.cons_append,sumK,sumK,sumK_append k m a b,Rat.add_assoc]
theorem sumK_perm {k:Kc} {m:Mn} {a b:List RC} (h:a.Perm b):sumK k m a=sumK k m b:=by
 induction h with
 | nil=>rfl
 | cons x _ ih=>rw[sumK,sumK,ih]
 | swap x y l=>simp only[sumK];grind
 | trans _ _ h1 h2=>rw[h1,h2]
theorem sumK_none {k:Kc} {m:Mn}: ∀ {l:List RC},(∀ r∈l,r.1≠k)->sumK k m l=0
 | [],_=>rfl
 | r::l,h=>by
  rw[sumK,if_neg (h r (by simp)),sumK_none (fun x hx=>h x (mem_cons_of_mem _ hx))];grind
structure NF (l:List RC):Prop where
 sorted:l.Pairwise (fun a b=>cmpC a.1 b.1<0)
 cn: ∀ r∈l,CnK r.1
 can: ∀ r∈l,Canon r.2
 ne: ∀ r∈l,r.2≠[]
theorem NF.nil:NF []:=⟨.nil,by simp,by simp,by simp⟩
theorem NF.tail {r:RC} {l:List RC} (h:NF (r::l)):NF l:=
 ⟨(pairwise_cons.1 h.sorted).2,fun x hx=>h.cn x (mem_cons_of_mem _ hx),fun x hx=>h.can x (mem_cons_of_mem _ hx),fun x hx=>h.ne x (mem_cons_of_mem _ hx)⟩
theorem NF.head {r:RC} {l:List RC} (h:NF (r::l)): ∀ x∈l,cmpC r.1 x.1<0:=(pairwise_cons.1 h.sorted).1
theorem NF.up {k:Kc} {m:Mn} {r:RC} {l:List RC} (h:NF (r::l)) (hk:CnK k) (hc:cmpC k r.1<0):sumK k m (r::l)=0:=
 sumK_none (fun x hx he=>by
  rcases List.mem_cons.1 hx with h1 | h1
  ·rw[h1] at he;rw[he,cmpC_self] at hc;omega
  ·have:=cmpC_trans hk (h.cn r (by simp)) (h.cn x hx) hc (h.head x h1);rw[he,cmpC_self] at this;omega)
theorem NF.own {m:Mn} {r:RC} {l:List RC} (h:NF (r::l)):sumK r.1 m (r::l)=sumC m r.2:=by
 rw[sumK,if_pos rfl,sumK_none (fun x hx he=>by have:=h.head x hx;rw[he,cmpC_self] at this;omega)];grind
theorem canon_some {p:List Tm} (hp:Canon p) (h:p≠[]): ∃ m,sumC m p≠0:=by
 match p,hp,h with
 | t::q,hp,_=>exact⟨t.1,by rw[hp.sum_head];exact hp.nz t (by simp)⟩
theorem NF.uniq: ∀ {p q:List RC},NF p->NF q->(∀ k m,CnK k->sumK k m p=sumK k m q)->p=q
 | [],[],_,_,_=>rfl
 | [],r::q,_,hq,h=>by
  obtain⟨m,hm⟩:=canon_some (hq.can r (by simp)) (hq.ne r (by simp));have:=h r.1 m (hq.cn r (by simp));rw[hq.own,sumK] at this;exact absurd this.symm hm
 | r::p,[],hp,_,h=>by
  obtain⟨m,hm⟩:=canon_some (hp.can r (by simp)) (hp.ne r (by simp));have:=h r.1 m (hp.cn r (by simp));rw[hp.own,sumK] at this;exact absurd this hm
 | r::p,s::q,hp,hq,h=>by
  have hr:=hp.cn r (by simp);have hs:=hq.cn s (by simp);have hsw:=cmpC_swap r.1 s.1;by_cases h1:cmpC r.1 s.1<0
  ·obtain⟨m,hm⟩:=canon_some (hp.can r (by simp)) (hp.ne r (by simp));have:=h r.1 m hr;rw[hp.own,hq.up hr h1] at this;exact absurd this hm
  ·by_cases h2:cmpC s.1 r.1<0
   ·obtain⟨m,hm⟩:=canon_some (hq.can s (by simp)) (hq.ne s (by simp));have:=h s.1 m hs;rw[hq.own,hp.up hs h2] at this;exact absurd this.symm hm
   ·have he:r.1=s.1:=cmpC_eq hr hs (by omega);have hpoly:r.2=s.2:=canon_uniq (hp.can r (by simp)) (hq.can s (by simp)) (fun m=>by
     have:=h r.1 m hr;rw[hp.own,he,hq.own] at this;exact this)
    have hrs:r=s:=Prod.ext he hpoly;rw[hrs];rw[hrs] at h;rw[NF.uniq hp.tail hq.tail (fun k m hk=>by
     have:=h k m hk;rw[sumK,sumK] at this;grind)]
def putR:List RC->RC->List RC
 | [],r=>if r.2=[] then [] else [r]
 | x::l,r=>if r.2=[] then x::l else if cmpC x.1 r.1<0 then x::putR l r else
  if cmpC x.1 r.1=0 then(if nf (r.2++x.2)=[] then l else(r.1,nf (r.2++x.2))::l) else r::x::l
theorem putR_mem: ∀ {l:List RC} {r y:RC},y∈putR l r->y∈l\/y.1=r.1
 | [],r,y,h=>by
  unfold putR at h;split at h
  ·simp at h
  ·rw[qz] at h;right;rw[h]
 | x::l,r,y,h=>by
  unfold putR at h;split at h
  ·exact .inl h
  ·split at h
   ·rcases List.mem_cons.1 h with h | h
    ·left;rw[h];simp
    ·rcases putR_mem h with h | h
     ·exact .inl (mem_cons_of_mem _ h)
     ·exact .inr h
   ·split at h
    ·split at h
     ·exact .inl (mem_cons_of_mem _ h)
     ·rcases List.mem_cons.1 h with h | h
      ·right;rw[h]
      ·exact .inl (mem_cons_of_mem _ h)
    ·rcases List.mem_cons.1 h with h | h
     ·right;rw[h]
     ·exact .inl h
theorem putR_sum (k:Kc) (m:Mn): ∀ {l:List RC} {r:RC},(∀ x∈l,CnK x.1)->CnK r.1->sumK k m (putR l r)=sumK k m l+(if r.1=k then sumC m r.2 else 0)
 | [],r,_,hr=>by
  unfold putR;by_cases h:r.2=[]
  ·rw[if_pos h,h];simp[sumK,sumC];grind
  ·rw[if_neg h];simp only[sumK];grind
 | x::l,r,hl,hr=>by
  unfold putR;by_cases h:r.2=[]
  ·rw[if_pos h,h];simp[sumC];grind
  ·rw[if_neg h];by_cases h1:cmpC x.1 r.1<0
   ·rw[if_pos h1,sumK,putR_sum k m (fun y hy=>hl y (mem_cons_of_mem _ hy)) hr,sumK];grind
   ·rw[if_neg h1];by_cases h2:cmpC x.1 r.1=0
    ·rw[if_pos h2];have he:=cmpC_eq (hl x (by simp)) hr h2;have hs:sumC m (nf (r.2++x.2))=sumC m r.2+sumC m x.2:=by rw[nf_sum,sumC_append]
     by_cases h3:nf (r.2++x.2)=[]
     ·rw[if_pos h3];rw[h3] at hs;have h0:sumC m ([]:List Tm)=0:=rfl;rw[h0] at hs;rw[sumK,he];split<;>grind
     ·rw[if_neg h3,sumK,sumK,he];dsimp only;rw[hs];split<;>grind
    ·rw[if_neg h2];simp only[sumK];grind
theorem putR_NF: ∀ {l:List RC} {r:RC},NF l->CnK r.1->Canon r.2->NF (putR l r)
 | [],r,_,hr,hc=>by
  unfold putR;split
  ·exact .nil
  ·next h=>exact⟨by simp,by simpa using hr,by simpa using hc,by simpa using h⟩
 | x::l,r,hl,hr,hc=>by
  unfold putR;by_cases h:r.2=[]
  ·rw[if_pos h];exact hl
  ·rw[if_neg h];have hx:=hl.cn x (by simp);by_cases h1:cmpC x.1 r.1<0
   ·rw[if_pos h1];have ih:=putR_NF hl.tail hr hc;refine⟨pairwise_cons.2 ⟨fun y hy=>?_,ih.sorted⟩,fun y hy=>?_,fun y hy=>?_,fun y hy=>?_⟩
    ·rcases putR_mem hy with h2 | h2
     ·exact hl.head y h2
     ·rw[h2];exact h1
    ·rcases List.mem_cons.1 hy with h2 | h2
     ·rw[h2];exact hx
     ·exact ih.cn y h2
    ·rcases List.mem_cons.1 hy with h2 | h2
     ·rw[h2];exact hl.can x (by simp)
     ·exact ih.can y h2
    ·rcases List.mem_cons.1 hy with h2 | h2
     ·rw[h2];exact hl.ne x (by simp)
     ·exact ih.ne y h2
   ·rw[if_neg h1];by_cases h2:cmpC x.1 r.1=0
    ·rw[if_pos h2];have he:=cmpC_eq hx hr h2;by_cases h3:nf (r.2++x.2)=[]
     ·rw[if_pos h3];exact hl.tail
     ·rw[if_neg h3];refine⟨pairwise_cons.2 ⟨fun y hy=>?_,hl.tail.sorted⟩,fun y hy=>?_,fun y hy=>?_,fun y hy=>?_⟩
      ·have:=hl.head y hy;rw[he] at this;exact this
      ·rcases List.mem_cons.1 hy with h4 | h4
       ·rw[h4];exact hr
       ·exact hl.tail.cn y h4
      ·rcases List.mem_cons.1 hy with h4 | h4
       ·rw[h4];exact nf_canon (Len8.app hc.len (hl.can x (by simp)).len)
       ·exact hl.tail.can y h4
      ·rcases List.mem_cons.1 hy with h4 | h4
       ·rw[h4];exact h3
       ·exact hl.tail.ne y h4
    ·rw[if_neg h2];have hsw:=cmpC_swap r.1 x.1;have hlt:cmpC r.1 x.1<0:=by omega
     refine⟨pairwise_cons.2 ⟨fun y hy=>?_,hl.sorted⟩,fun y hy=>?_,fun y hy=>?_,fun y hy=>?_⟩
     ·rcases List.mem_cons.1 hy with h4 | h4
      ·rw[h4];exact hlt
      ·exact cmpC_trans hr hx (hl.tail.cn y h4) hlt (hl.head y h4)
     ·rcases List.mem_cons.1 hy with h4 | h4
      ·rw[h4];exact hr
      ·exact hl.cn y h4
     ·rcases List.mem_cons.1 hy with h4 | h4
      ·rw[h4];exact hc
      ·exact hl.can y h4
     ·rcases List.mem_cons.1 hy with h4 | h4
      ·rw[h4];exact h
      ·exact hl.ne y h4
def ordR (l:List RC):List RC:=l.foldl putR []
def RcOk (l:List RC):Prop:= ∀ r∈l,CnK r.1/\Canon r.2
theorem fold_NF: ∀ {l s:List RC},NF s->RcOk l->NF (l.foldl putR s)/\ ∀ k m,sumK k m (l.foldl putR s)=sumK k m s+sumK k m l
 | [],s,hs,_=>⟨hs,fun k m=>by simp[sumK];grind⟩
 | r::l,s,hs,h=>by
  have hr:=h r (by simp);obtain⟨h1,h2⟩:=fold_NF (l:=l) (putR_NF hs hr.1 hr.2) (fun x hx=>h x (mem_cons_of_mem _ hx));refine⟨h1,fun k m=>?_⟩;rw[List.foldl_cons,h2 k m,putR_sum k m hs.cn hr.1,sumK,Rat.add_assoc]
theorem ordR_NF {l:List RC} (h:RcOk l):NF (ordR l):=(fold_NF NF.nil h).1
theorem ordR_sum {l:List RC} (h:RcOk l) (k:Kc) (m:Mn):sumK k m (ordR l)=sumK k m l:=by
 have:=(fold_NF NF.nil h).2 k m;rw[show sumK k m []=0 from rfl,Rat.zero_add] at this;exact this
theorem NF.of {M l:List RC} (hM:NF M) (hl:RcOk l) (h: ∀ k m,CnK k->sumK k m M=sumK k m l):M=ordR l:=
 hM.uniq (ordR_NF hl) (fun k m hk=>by rw[h k m hk,ordR_sum hl])
theorem NF.self {M:List RC} (hM:NF M):ordR M=M:=(hM.of (fun r hr=>⟨hM.cn r hr,hM.can r hr⟩) (fun _ _ _=>rfl)).symm
theorem ordR_congr {a b:List RC} (ha:RcOk a) (hb:RcOk b) (h: ∀ k m,CnK k->sumK k m a=sumK k m b):ordR a=ordR b:=
 (ordR_NF ha).of hb (fun k m hk=>by rw[ordR_sum ha,h k m hk])
theorem ordR_len: ∀ (l s:List RC),(l.foldl putR s).length<=s.length+l.length
 | [],s=>by simp
 | r::l,s=>by
  have h:=ordR_len l (putR s r);have h2: ∀ s:List RC,(putR s r).length<=s.length+1:=fun s=>by
   induction s with
   | nil=>unfold putR;split<;>simp
   | cons x s ih=>
    unfold putR;split
    ·simp
    ·split
     ·simp only[length_cons];omega
     ·split
      ·split
       ·simp only[length_cons];omega
       ·simp
      ·simp
  have:=h2 s;rw[List.foldl_cons,length_cons];omega
end Go.Pl
namespace Go.Proofs.YtjjbkjgifdhlcaaGreat
open Go.AM Go.Pl
set_option maxRecDepth 100000
set_option maxHeartbeats 4000000
abbrev RR:=List (List Raw)×List RT
def rgF (r:RR):List FV:=[.sl (rowsF r.1),.sl (rowsT r.2)]
def rgC (r:RR):List PV:=[.fv (.sl (rowsF r.1)),.fv (.sl (rowsT r.2))]
def rowsR (l:List RR):List (List FV):=l.map rgF
def rr0:RR:=([],[])
def rn (r:RC):RR:=(r.1,r.2.map tn)
abbrev RL' (l:List RR):PV:= .fv (.sl (rowsR l))
theorem rgF_fv (r:RR):(rgF r).map .fv=rgC r:=rfl
theorem rowsR_length (l:List RR):(rowsR l).length=l.length:=by simp[rowsR]
theorem rowsR_getD {l:List RR} {i:Nat} (h:i<l.length):(rowsR l).getD i []=rgF (l.getD i rr0):=by simp[rowsR,h]
theorem rowsR_set (l:List RR) (i:Nat) (r:RR):(rowsR l).set i (rgF r)=rowsR (l.set i r):=by simp[rowsR,List.map_set]
theorem rowsR_snoc (l:List RR) (r:RR):rowsR l++[rgF r]=rowsR (l++[r]):=by simp[rowsR]
theorem getD_memR {l:List RR} {i:Nat} (h:i<l.length):l.getD i rr0∈l:=by
 rw[qa,qb h];exact qqb h
theorem take_snocR {l:List RR} {i:Nat} (h:i<l.length):l.take (i+1)=l.take i++[l.getD i rr0]:=by
 rw[List.take_succ_eq_append_getElem h,qa,qb h];rfl
theorem take_rowsR {l:List RR} {n:Nat} (h:l.length<=n):List.take n (rowsR l)=rowsR l:=qdq (by rw[rowsR_length];exact h)
theorem cmpC_drop {a b:Kc} {i:Nat} (ha:i<a.length) (hb:i<b.length):cmpC (a.drop i) (b.drop i)=
 if cmpR (a.getD i []) (b.getD i [])=0 then cmpC (a.drop (i+1)) (b.drop (i+1)) else cmpR (a.getD i []) (b.getD i []):=by
 rw[drop_eq_getElem_cons ha,drop_eq_getElem_cons hb,qa,qa,qb ha,qb hb]
 rfl
theorem cmpC_left {a b:Kc} {i:Nat} (ha:i<a.length) (hb:b.length<=i):cmpC (a.drop i) (b.drop i)=1:=by
 rw[drop_eq_getElem_cons ha,List.drop_of_length_le hb];rfl
theorem cmpC_end {a b:Kc} {i:Nat} (ha:a.length<=i) (hi:i<=b.length):cmpC (a.drop i) (b.drop i)=if i<b.length then -1 else 0:=by
 rw[List.drop_of_length_le ha];by_cases h:i<b.length
 ·rw[if_pos h,drop_eq_getElem_cons h];rfl
 ·rw[if_neg h,List.drop_of_length_le (by omega)];rfl
theorem jq200 (a b:List (List Raw)) (ha:AOk 1000000000 a) (hb:AOk 1000000000 b) (hna:a.length<=1000) (hnb:b.length<=1000):
 Den Tryz.prog 200 [] [.fv (.sl (rowsF a)),.fv (.sl (rowsF b)),fV 201] [] (.int .i64 (cmpC a b)):=by
 have rla:=rowsF_length a
 have rlb:=rowsF_length b
 obtain⟨n,hnn⟩:=ex1 (a.length)
 obtain⟨m,hmm⟩:=ex1 (b.length)
 rw[hnn] at rla hna
 rw[hmm] at rlb hnb
 obtain⟨R,hR⟩:=ex1 (cmpC a b)
 rw[hR]
 refine den_of tabOk mixed Tryz.func200 (cd:=_) rfl (by decide) rfl (n:=36) rfl rfl (m:=0) rfl ?_
 simp -dsimp(disch:=omega) only[replicate,rla,ru]
 refine wl (α:=Nat) (fun i=>⟨[.fv (.sl (rowsF a)),.fv (.sl (rowsF b)),fV 201,.any,.any,.any,.int .i64 0,.any,.any,.any,.any,.fv (.sl (rowsF a)),.int .i64 n,.int .i64 i]++replicate 25 .any,[]⟩)
  (fun i=>n - i) (fun i=>i<=n/\i<=m/\cmpC (a.drop i) (b.drop i)=R) 0 ?_ ?_ ?_
 ·refine wk [] (by simp) rfl ?_ ?_
  ·simp[leVs,leV,le1]
  ·simp[leH]
 ·exact⟨qsq _,qsq _,by rw[List.drop_zero,List.drop_zero];exact hR⟩
 ·rintro i ⟨h1,h2,h3⟩
  simp -dsimp(disch:=omega) only[replicate,↓reduceIte,ru]
  refine bd_ ?_ ?_
  ·intro g1 g2
   have mx:=at_mem (ls:=a) (i:=i) (by omega)
   have rx:=rowsF_getD a i
   have hx:=ha _ mx
   have hdr:=fun h=>cmpC_drop (a:=a) (b:=b) (i:=i) (by omega) h
   obtain⟨x,hxx⟩:=ex1 (a.getD i [])
   rw[hxx] at rx hx hdr
   have lx:=hx.len
   have x27:=flatF_take27 lx
   have fx:=flatF_length x
   have gx:=flat_length x
   have gx27:=flat_take27 lx
   by_cases hm:i<m
   ·have e1:decide ((i:Int)>=(m:Int))=false:=qcb (by omega)
    have my:=at_mem (ls:=b) (i:=i) (by omega)
    have ry:=rowsF_getD b i
    have hy:=hb _ my
    have hdr2:=hdr (by omega)
    obtain⟨y,hyy⟩:=ex1 (b.getD i [])
    rw[hyy] at ry hy hdr2
    have ly:=hy.len
    have y27:=flatF_take27 ly
    have fy:=flatF_length y
    have gy:=flat_length y
    have gy27:=flat_take27 ly
    have hd:=den22 x y hx hy
    obtain⟨c,hc⟩:=ex1 (cmpR x y)
    rw[hc] at hd hdr2
    rw[h3] at hdr2
    unfold RL at hd
    simp -dsimp(disch:=omega) only[append_nil,g2,rx,x27,flatF_fv,fx,gx,lx,gx27,rlb,e1,↓reduceIte,reduceAdd,reduceMul,reduceLT,reduceLeDiff,ru]
    repeat refine qy (by omega) ?_
    simp -dsimp(disch:=omega) only[append_nil,ry,y27,flatF_fv,fy,gy,ly,gy27,reduceMul,reduceLeDiff,ru]
    repeat refine qy (by omega) ?_
    refine gp hd (by simp[fzAs,fzA,flat_fz,flatF_fv]) ?_
    simp -dsimp(disch:=omega) only[↓reduceIte,reduceAdd,ru,zu]
    by_cases h0:c=0
    ·have e2:(c !=0)=false:=by rw[h0];rfl
     rw[if_pos h0] at hdr2
     simp -dsimp(disch:=omega) only[e2,↓reduceIte,ru]
     refine ap (i+1) (by omega) ?_ ⟨by omega,by omega,hdr2.symm⟩
     refine wk [] (by simp) rfl ?_ ?_
     ·simp[leVs,leV,le1]
      try omega
     ·simp[leH]
    ·have e2:(c !=0)=true:=by simp[h0]
     rw[if_neg h0] at hdr2
     simp -dsimp(disch:=omega) only[e2,ru]
     subst hdr2
     exact rpq rfl ⟨tvq,tvq⟩ rfl
   ·have e1:decide ((i:Int)>=(m:Int))=true:=qbb (by omega)
    have he:=cmpC_left (a:=a) (b:=b) (i:=i) (by omega) (by omega)
    rw[h3] at he
    subst he
    simp -dsimp(disch:=omega) only[append_nil,g2,rx,x27,flatF_fv,fx,gx,lx,rlb,e1,↓reduceIte,reduceAdd,reduceMul,reduceLT,reduceLeDiff,ru]
    repeat refine qy (by omega) ?_
    exact rpq rfl ⟨tvq,tvq⟩ rfl
  ·intro g1 g2
   have hin:i=n:=by omega
   have he:=cmpC_end (a:=a) (b:=b) (i:=i) (by omega) (by omega)
   rw[h3,hmm,hin] at he
   simp -dsimp(disch:=omega) only[g2,rla,rlb,↓reduceIte,Nat.reduceBEq,ru]
   by_cases h0:n<m
   ·have e2:decide ((n:Int)<(m:Int))=true:=qbb (by omega)
    rw[if_pos h0] at he
    subst he
    simp -dsimp(disch:=omega) only[e2,ru]
    exact rpq rfl ⟨tvq,tvq⟩ rfl
   ·have e2:decide ((n:Int)<(m:Int))=false:=qcb (by omega)
    rw[if_neg h0] at he
    subst he
    simp -dsimp(disch:=omega) only[e2,ru]
    exact rpq rfl ⟨tvq,tvq⟩ rfl
theorem jq159 (a b:List (List Raw)) (ha:AOk 1000000000 a) (hb:AOk 1000000000 b) (hna:a.length<=1000) (hnb:b.length<=1000):
 Den Tryz.prog 159 [] [.fv (.sl (rowsF a)),.fv (.sl (rowsF b))] [] (.int .i64 (cmpC a b)):=by
 have h:=jq200 a b ha hb hna hnb
 refine den_of tabOk mixed Tryz.func159 (cd:=_) rfl (by decide) rfl (n:=6) rfl rfl (m:=0) rfl ?_
 simp -dsimp(disch:=omega) only[replicate,rules]
 refine gp h rfl ?_
 simp -dsimp(disch:=omega) only[ru]
 exact rpq rfl ⟨tvq,tvq⟩ rfl
theorem jq158 (a b:RR) (ha:AOk 1000000000 a.1) (hb:AOk 1000000000 b.1) (hna:a.1.length<=1000) (hnb:b.1.length<=1000):
 Den Tryz.prog 158 [] [.agg (rgC a),.agg (rgC b)] [] (.int .i64 (cmpC a.1 b.1)):=by
 have h:=jq159 a.1 b.1 ha hb hna hnb
 unfold rgC
 refine den_of tabOk mixed Tryz.func158 (cd:=_) rfl (by decide) rfl (n:=8) rfl rfl (m:=0) rfl ?_
 simp -dsimp(disch:=omega) only[replicate,↓reduceIte,reduceAdd,reduceLT,reduceLeDiff,ru]
 refine gp h rfl ?_
 simp -dsimp(disch:=omega) only[reduceAdd,ru]
 exact rpq rfl ⟨tvq,tvq⟩ rfl
theorem sl2 (o:Ob) (l:List Ob) (a b c:Nat) (u:FV):shutBs (o::l) 0 [.lsl 0 a b c,.fv u]=o::l:=rfl
theorem sl4 (o:Ob) (l:List Ob) (a b c:Nat) (u v w:FV):shutBs (o::l) 0 [.lsl 0 a b c,.fv u,.fv v,.fv w]=o::l:=rfl
theorem rgF_len (r:RR):(rgF r).length=2:=rfl
theorem rgC_len (r:RR):(rgC r).length=2:=rfl
theorem rgF_take2 (r:RR):List.take 2 (rgF r)=rgF r:=rfl
theorem rgF_drop2 (r:RR):List.drop 2 (rgF r)=[]:=rfl
theorem fzs_rgC (H:List Ob) (r:RR):fzs H (rgC r)=some (rgF r):=rfl
theorem ids_rgC (r:RR):(rgC r).flatMap ids0=[]:=rfl
def ltC (a b:RR):Prop:=cmpC a.1 b.1<0
theorem ltC_asym (x y:RR) (h:ltC x y): ¬ltC y x:=by
 unfold ltC at h ⊢;have:=cmpC_swap x.1 y.1;omega
theorem ltC_nt {x y z:RR} (hx:CnK x.1) (hy:CnK y.1) (hz:CnK z.1) (h1: ¬ltC x y) (h2: ¬ltC y z): ¬ltC x z:=by
 unfold ltC at h1 h2 ⊢;have e1:=cmpC_swap x.1 y.1;have e2:=cmpC_swap y.1 z.1;have e3:=cmpC_swap x.1 z.1;have:=cmpC_le_trans hz hy hx (by omega) (by omega);omega
structure RgOk (r:RR):Prop where
 cn:CnK r.1
 ok:AOk 1000000000 r.1
 len:r.1.length<=1000
theorem jq232 (ls:List RR) (hl: ∀ r∈ls,RgOk r) (hn:ls.length<=1000000):
 ∃ H1 res,(fun H1 res=> ∃ ls',H1=[.row true (rowsR ls')]/\res=PV.tup []/\ls'.Perm ls/\ls'.Pairwise (fun a b=>¬ltC b a)) H1 res/\
  Den Tryz.prog 232 [.row true (rowsR ls)] [.lsl 0 0 ls.length 2,.int .i64 0,.int .i64 ls.length,fV 158] H1 res:=by
 obtain⟨n,hnn⟩:=ex1 (ls.length)
 rw[hnn] at hn ⊢
 refine den_some tabOk mixed Tryz.func232 (cd:=_) rfl (by decide) rfl (n:=49) rfl rfl (m:=1) rfl ?_
 simp -dsimp(disch:=omega) only[replicate,↓reduceIte,ru]
 refine wl (α:=Nat×List RR) (fun⟨i,l⟩=>⟨[.lsl 0 0 n 2,.int .i64 0,.int .i64 n,fV 158,.any,.any,.any,.any,.int .i64 i]++replicate 44 .any,[.row true (rowsR l)]⟩)
  (fun⟨i,_⟩=>n+1 - i) (fun⟨i,l⟩=>1<=i/\(i<=n\/i=1)/\l.Perm ls/\ ∀ p q,p<q->q<i->q<n-> ¬ltC (l.getD q rr0) (l.getD p rr0)) (1,ls) ?_ ?_ ?_
 ·refine wk [0] (by simp) rfl ?_ ?_
  ·simp[leVs,leV,le1]
  ·simp[leH,leO]
 ·exact⟨qp _,Or.inr rfl,List.Perm.refl _,fun p q h1 h2 h3=>by omega⟩
 ·rintro⟨i,l⟩ ⟨hi1,hin,hperm,hord⟩
  have hll:l.length=n:=by rw[hperm.length_eq,hnn]
  simp -dsimp(disch:=omega) only[replicate,↓reduceIte,ru]
  refine bd_ ?_ ?_
  ·intro h1 h2
   simp -dsimp(disch:=omega) only[h2,rules]
   refine wl (α:=Nat×List RR) (fun⟨j,l⟩=>⟨[.lsl 0 0 n 2,.int .i64 0,.int .i64 n,fV 158,.any,.any,.any,.any,.int .i64 i,.int .i64 j]++replicate 43 .any,[.row true (rowsR l)]⟩)
    (fun⟨j,_⟩=>j) (fun⟨j,l⟩=>j<=i/\l.Perm ls/\SrtG rr0 ltC l i j) (i,l) ?_ ?_ ?_
   ·refine wk [0] (by simp) rfl ?_ ?_
    ·simp[leVs,leV,le1]
    ·simp[leH,leO]
   ·exact⟨qp _,hperm,fun p q h3 h4 h5=>hord p q h3 (by omega) (by omega)⟩
   ·rintro⟨j,l⟩ ⟨hj,hperm,hsrt⟩
    have hll:l.length=n:=by rw[hperm.length_eq,hnn]
    have hl8: ∀ t∈l,RgOk t:=fun t ht=>hl t (hperm.mem_iff.1 ht)
    have hnt: ∀ x∈l,∀ y∈l,∀ z∈l,¬ltC x y-> ¬ltC y z-> ¬ltC x z:=fun x hx y hy z hz=>ltC_nt (hl8 x hx).cn (hl8 y hy).cn (hl8 z hz).cn
    simp -dsimp(disch:=omega) only[replicate,rules]
    refine dw (by kernel_rfl) ?_
    simp -dsimp(disch:=omega) only[↓reduceIte,ru]
    refine bd_ ?_ ?_
    ·intro h3 h4
     obtain⟨p,rfl⟩: ∃ p,j=p+1:=⟨j - 1,by omega⟩
     have hp1:(((p+1:Nat):Int) - 1)=(p:Int):=by omega
     have m1:=hl8 _ (getD_memR (l:=l) (i:=p+1) (by omega))
     have m2:=hl8 _ (getD_memR (l:=l) (i:=p) (by omega))
     have hden:=jq158 _ _ m1.ok m2.ok m1.len m2.len
     have r1:=rowsR_getD (l:=l) (i:=p+1) (by omega)
     have r2:=rowsR_getD (l:=l) (i:=p) (by omega)
     have hlt:ltC (l.getD (p+1) rr0) (l.getD p rr0)↔cmpC (l.getD (p+1) rr0).1 (l.getD p rr0).1<0:=Iff.rfl
     have hsw:((rowsR l).set (p+1) (rgF (l.getD p rr0))).set p (rgF (l.getD (p+1) rr0))=rowsR (swapG rr0 l (p+1)):=by
      rw[rowsR_set,rowsR_set];unfold swapG;rw[Nat.add_sub_cancel]
     have r3:((rowsR l).set (p+1) (rgF (l.getD p rr0))).getD p []=rgF (l.getD p rr0):=by
      rw[qa,qm (by omega),<-qa,r2]
     have hswap:=fun h=>srtG_swap rr0 ltC ltC_asym (ls:=l) (i:=i) (j:=p+1) (by omega) hj (by omega) hsrt h
     have hdone:=fun h=>srtG_done rr0 ltC (ls:=l) hnt (i:=i) (j:=p+1) (by omega) hj hsrt h
     have hsp:=swapG_perm rr0 (ls:=l) (j:=p+1) (by omega) (by omega)
     rw[Nat.add_sub_cancel] at hswap hdone
     obtain⟨x,hxx⟩:=ex1 (l.getD (p+1) rr0)
     obtain⟨y,hyy⟩: ∃ x,l.getD p rr0=x:=⟨_,rfl⟩
     rw[hxx] at hden r1 hlt hsw hswap hdone
     rw[hyy] at hden r2 r3 hlt hsw hswap hdone
     have rl:=rowsR_length l
     obtain⟨z,hz⟩:=ex1 (cmpC x.1 y.1)
     rw[hz] at hden hlt
     simp -dsimp(disch:=omega) only[h4,hp1,r1,r2,rgF_take2,rgF_fv,rl,rgF_len,↓reduceIte,reduceLeDiff,ru]
     repeat refine qy (by omega) ?_
     refine gp hden (by simp[fzAs,fzA,fzs_rgC,rgF_fv]) ?_
     simp -dsimp(disch:=omega) only[ids_rgC,↓reduceIte,ru]
     refine bd_ ?_ ?_
     ·intro h5 h6
      simp -dsimp(disch:=omega) only[h6,rules]
      refine dw (by kernel_rfl) ?_
      simp -dsimp(disch:=omega) only[hp1,r1,r2,r3,rgF_take2,rgF_fv,rl,rgF_len,rgC_len,rgF_drop2,hsw,qkb,fzs_rgC,ids_rgC,append_nil,↓reduceIte,reduceLT,reduceLeDiff,ru]
      repeat refine qy (by omega) ?_
      refine ap (p,swapG rr0 l (p+1)) (by dsimp only;omega) ?_ ⟨by omega,hsp.trans hperm,hswap (hlt.2 h5)⟩
      refine wk [0] (by simp) rfl ?_ ?_
      ·simp[leVs,leV,le1]
      ·simp[leH,leO]
     ·intro h5 h6
      have hd:=hdone (Or.inr (fun h=>h5 (hlt.1 h)))
      simp -dsimp(disch:=omega) only[h6,↓reduceIte,Nat.reduceBEq,ru]
      refine ap (i+1,l) (by dsimp only;omega) ?_ ⟨by omega,by omega,hperm,fun p q h7 h8 h9=>hd p q h7 (by omega)⟩
      refine wk [0] (by simp) rfl ?_ ?_
      ·simp[leVs,leV,le1]
      ·simp[leH,leO]
    ·intro h3 h4
     have hd:=srtG_done rr0 ltC (ls:=l) hnt (i:=i) (j:=j) (by omega) hj hsrt (Or.inl (by omega))
     simp -dsimp(disch:=omega) only[h4,↓reduceIte,Nat.reduceBEq,ru]
     refine ap (i+1,l) (by dsimp only;omega) ?_ ⟨by omega,by omega,hperm,fun p q h7 h8 h9=>hd p q h7 (by omega)⟩
     refine wk [0] (by simp) rfl ?_ ?_
     ·simp[leVs,leV,le1]
     ·simp[leH,leO]
  ·intro h1 h2
   have hpw:l.Pairwise (fun a b=>¬ltC b a):=pairwise_getD rr0 ltC (fun p q h3 h4=>hord p q h3 (by omega) (by omega))
   simp -dsimp(disch:=omega) only[h2,rules,Nat.reduceBEq]
   exact⟨[.row true (rowsR l)],.tup [],⟨l,rfl,rfl,hperm,hpw⟩,rl_ (cd:=True) (vs:=[]) rfl trivial rfl trivial rfl rfl rfl⟩
theorem jq199 (ls ls':List RR) (hn:ls.length<20) (h:Den Tryz.prog 232 [.row true (rowsR ls)] [.lsl 0 0 ls.length 2,.int .i64 0,.int .i64 ls.length,fV 158] [.row true (rowsR ls')] (.tup [])):
 Den Tryz.prog 199 [.row true (rowsR ls)] [.lsl 0 0 ls.length 2,.int .i64 ls.length,fV 158] [.row true (rowsR ls')] (.tup []):=by
 obtain⟨n,hnn⟩:=ex1 (ls.length)
 rw[hnn] at h hn ⊢
 have e1:decide ((20:Int)<=(n:Int))=false:=qcb (by omega)
 have e2:decide ((20:Int)<(n:Int))=false:=qcb (by omega)
 refine den_of tabOk mixed Tryz.func199 (cd:=_) rfl (by decide) rfl (n:=60) rfl rfl (m:=1) rfl ?_
 simp -dsimp(disch:=omega) only[replicate,rules]
 refine wl (α:=Unit) (fun _=>⟨[.lsl 0 0 n 2,.int .i64 n,fV 158,.any,.any,.any,.int .i64 20,.int .i64 0,.int .i64 20]++replicate 54 .any,[.row true (rowsR ls)]⟩)
  (fun _=>0) (fun _=>True) () ?_ trivial ?_
 ·refine wk [0] (by simp) rfl ?_ ?_
  ·simp[leVs,leV,le1]
  ·simp[leH,leO]
 ·rintro⟨⟩ _
  simp -dsimp(disch:=omega) only[replicate,e1,↓reduceIte,Nat.reduceBEq,ru]
  refine gl_ 0 h rfl rfl trivial rfl rfl rfl ?_
  simp -dsimp(disch:=omega) only[append_nil,sl4,List.set_cons_zero,rules]
  refine wl (α:=Unit) (fun _=>⟨[.lsl 0 0 n 2,.int .i64 n,fV 158,.any,.any,.any,.int .i64 20,.int .i64 0,.int .i64 20]++replicate 54 .any,[.row true (rowsR ls')]⟩)
   (fun _=>0) (fun _=>True) () ?_ trivial ?_
  ·refine wk [0] (by simp) rfl ?_ ?_
   ·simp[leVs,leV,le1]
   ·simp[leH,leO]
  ·rintro⟨⟩ _
   simp -dsimp(disch:=omega) only[replicate,e2,↓reduceIte,Nat.reduceBEq,ru]
   exact rl_ (cd:=True) (vs:=[]) rfl trivial rfl trivial rfl rfl rfl
theorem jq157 (ls:List RR) (hl: ∀ r∈ls,RgOk r) (hn:ls.length<20):
 ∃ ls',ls'.Perm ls/\ls'.Pairwise (fun a b=>¬ltC b a)/\Den Tryz.prog 157 [.row true (rowsR ls)] [.lsl 0 0 ls.length 2,fV 158] [.row true (rowsR ls')] (.tup []):=by
 obtain⟨H1,res,⟨ls',rfl,rfl,hp,hs⟩,h⟩:=jq232 ls hl (by omega)
 refine⟨ls',hp,hs,?_⟩
 have h2:=jq199 ls ls' hn h
 obtain⟨n,hnn⟩:=ex1 (ls.length)
 rw[hnn] at h2 hn ⊢
 refine den_of tabOk mixed Tryz.func157 (cd:=_) rfl (by decide) rfl (n:=7) rfl rfl (m:=1) rfl ?_
 simp -dsimp(disch:=omega) only[replicate,ru]
 refine gl_ 0 h2 rfl rfl trivial rfl rfl rfl ?_
 simp -dsimp(disch:=omega) only[append_nil,ru]
 exact rl_ (cd:=True) (vs:=[]) rfl trivial rfl trivial rfl rfl rfl
end Go.Proofs.YtjjbkjgifdhlcaaGreat
namespace Go.Pl
def cost (s:List (List Raw)) (v:Nat):Int:=((lowL s v).length:Int)*(highL s v).length - (lowL s v).length - (highL s v).length
structure Sw (k:Nat) (s:List (List Raw)):Prop where
 n3:nvars s<=3
 c3:nvars s=3->s.length<=7/\k<=14
 c2:nvars s=2->s.length<=7/\k<=120
 c1:nvars s=1->s.length<=12/\k<=1000
structure Sl (k:Nat) (s:List (List Raw)):Prop where
 n3:nvars s<=3
 c3:nvars s=3->s.length<=7/\k<=14
 c2:nvars s=2->s.length<=12/\k<=120
 c1:nvars s=1->s.length<=36/\k<=1000
theorem Sz.w {k:Nat} {s:List (List Raw)} (h:Sz k s):Sw k s:=⟨h.n3,fun e=>by have:=h.c3 e;omega,h.c2,h.c1⟩
theorem Sw.l {k:Nat} {s:List (List Raw)} (h:Sw k s):Sl k s:=⟨h.n3,h.c3,fun e=>by have:=h.c2 e;omega,fun e=>by have:=h.c1 e;omega⟩
theorem Sl.all {k:Nat} {s:List (List Raw)} (h:Sl k s) (hp:0<nvars s):s.length<=36/\k<=1000:=by
 have h1:=h.n3;have h2:=h.c3;have h3:=h.c2;have h4:=h.c1;have:nvars s=1\/nvars s=2\/nvars s=3:=by omega
 rcases this with h5 | h5 | h5
 ·exact h4 h5
 ·have:=h3 h5;omega
 ·have:=h2 h5;omega
theorem Sl.lim {k:Nat} {s:List (List Raw)} (h:Sl k s) (hs:SysF k s): ∀ l∈s,LOk 1000 l:=fun l hl=>(hs.ok l hl).mono (h.all (occ_pos hl (hs.nc l hl))).2
theorem Sw.len {k:Nat} {s:List (List Raw)} (h:Sw k s) (hs:SysF k s):s.length<=12:=by
 cases s with
 | nil=>exact qsq _
 | cons l t=>
  have hp:0<nvars (l::t):=occ_pos (List.mem_cons_self ..) (hs.nc l (by simp));have h1:=h.n3;have h2:=h.c3;have h3:=h.c2;have h4:=h.c1;have:nvars (l::t)=1\/nvars (l::t)=2\/nvars (l::t)=3:=by omega
  rcases this with h5 | h5 | h5
  ·exact(h4 h5).1
  ·have:=h3 h5;omega
  ·have:=h2 h5;omega
theorem outw_short {k:Nat} {s:List (List Raw)} {v:Nat} (hs:SysF k s) (hz:Sw k s):(outL s v).length<=100:=by
 have h1:=split_length s v;have h2:=hz.len hs;rw[out_length];exact arith12 (by omega)
theorem out_none {k:Nat} {s:List (List Raw)} {v:Nat} (hv:v<8) (hs:SysF k s) (ho:occ s v=true) (h5:nvars s=1):ncs (outL s v)=[]:=by
 have h9: ∀ l∈s,l.length=9:=fun l hl=>(hs.ok l hl).len
 have h6:=nvars_out hv hs ho;cases h8:ncs (outL s v) with
 | nil=>rfl
 | cons o t=>
  have h10:=(mem_ncs (out_len h9)).1 (show o∈ncs (outL s v) by rw[h8];simp);have:=occ_pos h10.1 h10.2;omega
theorem outw_count {k:Nat} {s:List (List Raw)} {v:Nat} (hv:v<8) (hs:SysF k s) (hz:Sw k s):(ncs (outL s v)).length<=12:=by
 have hle:(ncs (outL s v)).length<=(outL s v).length:=List.length_filter_le _ _;cases ho:occ s v with
 | false=>
  have h1:=hz.len hs;rw[(out_same ho).1] at hle ⊢;omega
 | true=>
  have h1:=split_length s v;have h2:=out_length s v;have h3:=nvars_pos hv ho;have h4:=hz.n3;have:nvars s=1\/nvars s=2\/nvars s=3:=by omega
  rcases this with h5 | h5 | h5
  ·rw[out_none hv hs ho h5];exact qsq _
  ·have:=(hz.c2 h5).1;have:=arith7 (p:=(lowL s v).length) (q:=(highL s v).length) (r:=(restL s v).length) (by omega);omega
  ·have:=(hz.c3 h5).1;have:=arith7 (p:=(lowL s v).length) (q:=(highL s v).length) (r:=(restL s v).length) (by omega);omega
theorem outl_lim {k:Nat} {s:List (List Raw)} {v:Nat} (hv:v<8) (hk:1<=k) (hs:SysF k s) (hz:Sl k s): ∀ o∈outL s v,¬IsConst o->LOk 1000 o:=by
 intro o ho hc;cases hoc:occ s v with
 | false=>
  rw[(out_same hoc).1] at ho;exact hz.lim hs o ho
 | true=>
  have h6:=nvars_out hv hs hoc;have h7:=occ_pos ho hc;have h8:=hz.n3;have:k<=120:=by
   have:nvars s=2\/nvars s=3:=by omega
   rcases this with h5 | h5
   ·exact(hz.c2 h5).2
   ·have:=(hz.c3 h5).2;omega
  exact(out_ok hs.ok hk o ho).mono (by omega)
def GoodW (s:List (List Raw)):Prop:= ∃ k,1<=k/\SysF k s/\Sw k s/\(nvars s=3->s.length<=5\/ ∃ u,u<8/\occ s u=true/\cost s u<0)
theorem GoodS.w {s:List (List Raw)} (h:GoodS s):GoodW s:=by
 obtain⟨k,hk,hs,hz⟩:=h;exact⟨k,hk,hs,hz.w,fun e=> .inl (hz.c3 e).1⟩
theorem GoodW.lim {s:List (List Raw)} (h:GoodW s): ∀ l∈s,LOk 1000 l:=by
 obtain⟨k,hk,hs,hz,_⟩:=h;exact hz.l.lim hs
theorem GoodW.len {s:List (List Raw)} (h:GoodW s):s.length<=12:=by
 obtain⟨k,hk,hs,hz,_⟩:=h;exact hz.len hs
theorem GoodW.nc {s:List (List Raw)} (h:GoodW s): ∀ l∈s,¬IsConst l:=by
 obtain⟨k,hk,hs,hz,_⟩:=h;exact hs.nc
theorem GoodW.feas {s:List (List Raw)} {v:Nat} (hv:v<8) (h:GoodW s) (hb:badB s v=false):feasB (stepL s v)=feasB s:=by
 obtain⟨k,hk,hs,hz,_⟩:=h;rw[Bool.eq_iff_iff,feasB_iff,feasB_iff];exact step_feas hv hs (fun hB=>by rw[(badB_iff (fun l hl=>(hs.ok l hl).len)).2 hB] at hb;cases hb)
theorem GoodW.bad {s:List (List Raw)} {v:Nat} (hv:v<8) (h:GoodW s) (hb:badB s v=true):feasB s=false:=by
 obtain⟨k,hk,hs,hz,_⟩:=h;exact feasB_false.2 (bad_feas hv hs ((badB_iff (fun l hl=>(hs.ok l hl).len)).1 hb))
theorem GoodW.step {s:List (List Raw)} {v:Nat} (hv:v<8) (h:GoodW s) (ho:occ s v=true) (hmin: ∀ u,u<8->occ s u=true->cost s v<=cost s u):GoodW (stepL s v)/\nvars (stepL s v)<nvars s:=by
 obtain⟨k,hk,hs,hz,h7⟩:=h;have hi:=stepL_is v hs;have h9: ∀ l∈s,l.length=9:=fun l hl=>(hs.ok l hl).len
 have hn:=nvars_out hv hs ho;rw[<-sys_nvars (out_len h9) hi] at hn;have hl:=sys_length (out_len h9) hi;have hle:(ncs (outL s v)).length<=(outL s v).length:=List.length_filter_le _ _;have h1:=split_length s v;have h2:=out_length s v;have h4:=hz.n3;have hc:=outw_count hv hs hz;refine⟨⟨8*k+8,by omega,step_ok hk hs hi,⟨by omega,fun h=>by omega,fun h=>?_,fun h=>?_⟩,fun h=>by omega⟩,hn⟩
 ·have h5:nvars s=3:=by omega
  have h6:=hz.c3 h5;refine⟨?_,by omega⟩;rcases h7 h5 with h8 | ⟨u,hu,hou,hcu⟩
  ·have:=arith5 (p:=(lowL s v).length) (q:=(highL s v).length) (r:=(restL s v).length) (by omega);omega
  ·have h10:=hmin u hu hou;have e:(((highL s v).length*(lowL s v).length:Nat):Int)=((lowL s v).length:Int)*(highL s v).length:=by rw[Int.natCast_mul,Int.mul_comm]
   unfold cost at h10 hcu;omega
 ·refine⟨by omega,?_⟩;have:nvars s=2\/nvars s=3:=by omega
  rcases this with h5 | h5
  ·have:=hz.c2 h5;omega
  ·have:=hz.c3 h5;omega
def GoodR (s:List (List Raw)):Prop:= ∃ k,1<=k/\SysF k s/\Sl k s
structure PreR (cs:List (List Raw)):Prop where
 cnf: ∀ l∈cs,IsCn l
 nc: ∀ l∈cs,¬IsConst l
 ok: ∀ l∈cs,LOk 1000 l
 len:cs.length<=37
 good:GoodR (sysL cs [])
structure CsW (cs:List (List Raw)):Prop where
 ok: ∀ l∈cs,LOk 10000 l
 len:cs.length<=100
 nc:(ncs cs).length<=12
 good:GoodW (sysL cs [])
 nok: ∀ l∈cs,¬IsConst l->LOk 1000 l
theorem CsOk.w {cs:List (List Raw)} (h:CsOk cs):CsW cs:=⟨h.ok,h.len,h.nc,h.good.w,h.nok⟩
end Go.Pl
namespace Go.Proofs.YtjjbkjgifdhlcaaGreat
open Go.AM Go.Pl
set_option maxRecDepth 100000
set_option maxHeartbeats 4000000
theorem lowL_pos {s:List (List Raw)} {v:Nat} {x:List Raw} (h:0<co x v):lowL (s++[x]) v=lowL s v++[solR v x]:=by simp[lowL,filter_append,h]
theorem lowL_not {s:List (List Raw)} {v:Nat} {x:List Raw} (h: ¬0<co x v):lowL (s++[x]) v=lowL s v:=by simp[lowL,filter_append,h]
theorem highL_neg {s:List (List Raw)} {v:Nat} {x:List Raw} (h:co x v<0):highL (s++[x]) v=highL s v++[solR v x]:=by simp[highL,filter_append,h]
theorem highL_not {s:List (List Raw)} {v:Nat} {x:List Raw} (h: ¬co x v<0):highL (s++[x]) v=highL s v:=by simp[highL,filter_append,h]
theorem restL_zero {s:List (List Raw)} {v:Nat} {x:List Raw} (h:co x v=0):restL (s++[x]) v=restL s v++[x]:=by simp[restL,filter_append,h]
theorem restL_not {s:List (List Raw)} {v:Nat} {x:List Raw} (h: ¬co x v=0):restL (s++[x]) v=restL s v:=by simp[restL,filter_append,h]
def combs (hi lo:List (List Raw)):List (List Raw):=hi.flatMap fun u=>lo.map fun l=>comb u l
theorem combs_snoc {hi lo:List (List Raw)} {u:List Raw}:combs (hi++[u]) lo=combs hi lo++lo.map (comb u):=by simp[combs]
def badU (u:List Raw) (lo:List (List Raw)):Bool:=lo.any (fun l=>constB (comb u l)&&decide (co (comb u l) 8<=0))
def badS (hi lo:List (List Raw)):Bool:=hi.any (fun u=>badU u lo)
theorem badU_snoc {u l:List Raw} {lo:List (List Raw)}:badU u (lo++[l])=(badU u lo||(constB (comb u l)&&decide (co (comb u l) 8<=0))):=by simp[badU]
theorem badS_snoc {u:List Raw} {hi lo:List (List Raw)}:badS (hi++[u]) lo=(badS hi lo||badU u lo):=by simp[badS]
theorem any_take {α:Type} {p:α->Bool} {l:List α} {i:Nat} (h:(l.take i).any p=true):l.any p=true:=by
 rw[qpb] at h ⊢;obtain⟨x,hx,h2⟩:=h;exact⟨x,qfb hx,h2⟩
theorem any_mem {α:Type} {p:α->Bool} {l:List α} {x:α} (hx:x∈l) (h:p x=true):l.any p=true:=List.any_eq_true.2 ⟨x,hx,h⟩
theorem out_viol {k:Nat} {s:List (List Raw)} {v:Nat} (hs:SysF k s) (hb: ¬Bad s v): ¬Viol (outL s v):=by
 rintro⟨o,ho,hc,hn⟩;rcases mem_out.1 ho with⟨h1,_⟩ | ⟨l,hl,u,hu,h1,h2,rfl⟩
 ·exact hs.nc o h1 hc
 ·refine hb ⟨solR v u,mem_high.2 ⟨u,hu,h2,rfl⟩,solR v l,mem_low.2 ⟨l,hl,h1,rfl⟩,hc,?_⟩;grind
theorem pd46 (k:Nat) (s:List (List Raw)) (v:Nat) (hv:v<8) (hk:1<=k) (hs:SysF k s) (hz:Sw k s):
 Den Tryz.prog 256 [] [.fv (.sl (rowsF s)),.int .i64 v] [] (if badB s v then .tup [.fv (.sl []),.bool false] else .tup [.fv (.sl (rowsF (stepL s v))),.bool true]):=by
 have hlim:=hz.l.lim hs
 have h9: ∀ l∈s,l.length=9:=fun l hl=>(hlim l hl).len
 have hn12:=hz.len hs
 have hlow: ∀ b∈lowL s v,LOk 2001 b:=low_ok hlim (by decide)
 have hhigh: ∀ b∈highL s v,LOk 2001 b:=high_ok hlim (by decide)
 have hsplit:=split_length s v
 obtain⟨n,hnn⟩:=ex1 (s.length)
 have rl:=rowsF_length s
 rw[hnn] at rl hn12 hsplit
 obtain⟨R,hR⟩: ∃ R:PV,(if badB s v then .tup [.fv (.sl []),.bool false] else .tup [.fv (.sl (rowsF (stepL s v))),.bool true])=R:=⟨_,rfl⟩
 rw[hR]
 have hm1:=den47 (-1) (by decide)
 rw[FR_eq] at hm1
 refine den_of tabOk mixed Tryz.func256 (cd:=_) rfl (by decide) rfl (n:=86) rfl rfl (m:=0) rfl ?_
 simp -dsimp(disch:=omega) only[replicate,rl,ru]
 refine wl (α:=Nat×List (List Raw)×List (List Raw)×List (List Raw)) (fun⟨i,lo,hi,out⟩=>⟨[.fv (.sl (rowsF s)),.int .i64 v,.any,.any,.nilsl,.bool false,.lsl 0 0 lo.length 27,.lsl 1 0 hi.length 27,.lsl 2 0 out.length 27,.any,.any,.any,.any,.any,.any,.any,.any,.any,.any,.any,.fv (.sl (rowsF s)),.int .i64 n,.int .i64 i]++replicate 65 .any,[.row true (rowsF lo),.row true (rowsF hi),.row true (rowsF out)]⟩)
  (fun⟨i,_⟩=>n - i) (fun⟨i,lo,hi,out⟩=>i<=n/\lo=lowL (s.take i) v/\hi=highL (s.take i) v/\out=restL (s.take i) v) (0,[],[],[]) ?_ ?_ ?_
 ·refine Weak.nil 6 27 (by decide) rfl ?_
  refine Weak.nil 7 27 (by decide) rfl ?_
  refine Weak.nil 8 27 (by decide) rfl ?_
  refine wk [0,1,2] (by simp) rfl ?_ ?_
  ·simp[leVs,leV,le1]
  ·simp[leH,leO]
   simp[rowsF]
 ·exact⟨qsq _,rfl,rfl,rfl⟩
 ·rintro⟨i,lo,hi,out⟩ ⟨hi1,hlo,hhi,hout⟩
  have hsz:=split_length (s.take i) v
  rw[<-hlo,<-hhi,<-hout,length_take,hnn] at hsz
  obtain⟨L1,hL1⟩: ∃ L,lo.length=L:=⟨_,rfl⟩
  obtain⟨L2,hL2⟩: ∃ L,hi.length=L:=⟨_,rfl⟩
  obtain⟨L3,hL3⟩: ∃ L,out.length=L:=⟨_,rfl⟩
  have rl1:=rowsF_length lo
  have rl2:=rowsF_length hi
  have rl3:=rowsF_length out
  dsimp only
  rw[hL1] at hsz rl1 ⊢
  rw[hL2] at hsz rl2 ⊢
  rw[hL3] at hsz rl3 ⊢
  have tk1:=take_rows (ls:=lo) (n:=L1) (by omega)
  have tk2:=take_rows (ls:=hi) (n:=L2) (by omega)
  have tk3:=take_rows (ls:=out) (n:=L3) (by omega)
  simp -dsimp(disch:=omega) only[replicate,↓reduceIte,ru]
  refine bd_ ?_ ?_
  ·intro h1 h2
   have hsn:=take_snoc (cs:=s) (i:=i) (by omega)
   have hmem:=at_mem (ls:=s) (i:=i) (by omega)
   have r1:=rowsF_getD s i
   obtain⟨x,hxx⟩:=ex1 (s.getD i [])
   rw[hxx] at hmem r1 hsn
   have hx:=hlim x hmem
   have lx:=hx.len
   have x27:=flatF_take27 lx
   have fx:=flatF_length x
   have gx:=flat_length x
   have gx27:=flat_take27 lx
   by_cases h0:co x v=0
   ·have h16:=den16n x v hx hv h0
    have hls:=lowL_not (s:=s.take i) (v:=v) (x:=x) (by grind)
    have hhs:=highL_not (s:=s.take i) (v:=v) (x:=x) (by grind)
    have hrs:=restL_zero (s:=s.take i) h0
    have hap:=rows_snoc out x
    unfold FL RL at h16
    obtain⟨zs,hzz⟩:=ex1 ((x.map Raw.q).map cn)
    have hzl:zs.length=9:=by rw[<-hzz];simp[lx]
    have gz:=flat_length zs
    rw[hzz] at h16
    have e1:decide ((0:Int)>0)=false:=rfl
    have e2:decide ((0:Int)<0)=false:=rfl
    simp -dsimp(disch:=omega) only[append_nil,h2,r1,x27,flatF_fv,fx,gx,lx,gx27,↓reduceIte,reduceAdd,reduceMul,reduceLT,reduceLeDiff,ru]
    repeat refine qy (by omega) ?_
    refine gp h16 (by simp[fzAs,fzA,flat_fz,flatF_fv,fz1,fz0]) ?_
    simp -dsimp(disch:=omega) only[gz,hzl,e1,gx,lx,gx27,x27,tk3,hap,rl3,↓reduceIte,reduceAdd,reduceMul,Nat.reduceBEq,reduceLT,reduceLeDiff,ru,zu]
    repeat refine qy (by omega) ?_
    refine ap (i+1,lo,hi,out++[x]) (by dsimp only;omega) ?_ ⟨by omega,by rw[hsn,hls,hlo],by rw[hsn,hhs,hhi],by rw[hsn,hrs,hout]⟩
    refine wk [0,1,6] (by simp) rfl ?_ ?_
    ·simp[leVs,leV,le1]
     omega
    ·simp[leH,leO]
   ·have h16:=den16 x v hx hv h0
    have hsl:(solR v x).length=9:=solR_len lx
    have hrs:=restL_not (s:=s.take i) h0
    unfold FL RL at h16
    change Den Tryz.prog 72 [] [.agg (flat x),.int .i64 v] [] (.tup [.agg (flat (solR v x)),.int .i64 (sgq (x.getD v rz).q),.int .i64 0]) at h16
    by_cases hp:0<co x v
    ·have hls:=lowL_pos (s:=s.take i) hp
     have hhs:=highL_not (s:=s.take i) (v:=v) (x:=x) (by grind)
     have hap:=rows_snoc lo (solR v x)
     obtain⟨y,hy⟩:=ex1 (solR v x)
     rw[hy] at h16 hsl hls hap
     have gy:=flat_length y
     have y27:=flatF_take27 hsl
     have gy27:=flat_take27 hsl
     rw[show sgq (x.getD v rz).q=1 from sgq_of_pos hp] at h16
     have e1:decide ((1:Int)>0)=true:=rfl
     simp -dsimp(disch:=omega) only[append_nil,h2,r1,x27,flatF_fv,fx,gx,lx,gx27,↓reduceIte,reduceAdd,reduceMul,reduceLT,reduceLeDiff,ru]
     repeat refine qy (by omega) ?_
     refine gp h16 (by simp[fzAs,fzA,flat_fz,flatF_fv,fz1,fz0]) ?_
     simp -dsimp(disch:=omega) only[gy,hsl,e1,gy27,y27,tk1,hap,rl1,↓reduceIte,reduceAdd,reduceMul,Nat.reduceBEq,reduceLT,reduceLeDiff,ru,zu]
     repeat refine qy (by omega) ?_
     refine ap (i+1,lo++[y],hi,out) (by dsimp only;omega) ?_ ⟨by omega,by rw[hsn,hls,hlo],by rw[hsn,hhs,hhi],by rw[hsn,hrs,hout]⟩
     refine wk [6,1,2] (by simp) rfl ?_ ?_
     ·simp[leVs,leV,le1]
      omega
     ·simp[leH,leO]
    ·have hneg:co x v<0:=by grind
     have hls:=lowL_not (s:=s.take i) (v:=v) (x:=x) hp
     have hhs:=highL_neg (s:=s.take i) hneg
     have hap:=rows_snoc hi (solR v x)
     obtain⟨y,hy⟩:=ex1 (solR v x)
     rw[hy] at h16 hsl hhs hap
     have gy:=flat_length y
     have y27:=flatF_take27 hsl
     have gy27:=flat_take27 hsl
     rw[show sgq (x.getD v rz).q= -1 from sgq_of_neg hneg] at h16
     have e1:decide ((-1:Int)>0)=false:=rfl
     have e2:decide ((-1:Int)<0)=true:=rfl
     simp -dsimp(disch:=omega) only[append_nil,h2,r1,x27,flatF_fv,fx,gx,lx,gx27,↓reduceIte,reduceAdd,reduceMul,reduceLT,reduceLeDiff,ru]
     repeat refine qy (by omega) ?_
     refine gp h16 (by simp[fzAs,fzA,flat_fz,flatF_fv,fz1,fz0]) ?_
     simp -dsimp(disch:=omega) only[gy,hsl,e1,e2,gy27,y27,tk2,hap,rl2,↓reduceIte,reduceAdd,reduceMul,Nat.reduceBEq,reduceLT,reduceLeDiff,ru,zu]
     repeat refine qy (by omega) ?_
     refine ap (i+1,lo,hi++[y],out) (by dsimp only;omega) ?_ ⟨by omega,by rw[hsn,hls,hlo],by rw[hsn,hhs,hhi],by rw[hsn,hrs,hout]⟩
     refine wk [0,6,2] (by simp) rfl ?_ ?_
     ·simp[leVs,leV,le1]
      omega
     ·simp[leH,leO]
  ·intro h1 h2
   have hin:i=n:=by omega
   have htk:s.take i=s:=qdq (by omega)
   rw[htk] at hlo hhi hout
   have hbad:badB s v=badS hi lo:=by rw[hlo,hhi];rfl
   have hfin:outL s v=out++combs hi lo:=by rw[hlo,hhi,hout];rfl
   have hlo2: ∀ b∈lo,LOk 2001 b:=by rw[hlo];exact hlow
   have hhi2: ∀ b∈hi,LOk 2001 b:=by rw[hhi];exact hhigh
   have hshort:=outw_short (v:=v) hs hz
   rw[hfin,qe,hL3] at hshort
   clear hlo hhi hout
   simp -dsimp(disch:=omega) only[h2,rules,Nat.reduceBEq]
   refine gp hm1 rfl ?_
   simp -dsimp(disch:=omega) only[append_nil,reduceAdd,reduceLT,reduceLeDiff,ru]
   repeat refine qy (by omega) ?_
   obtain⟨ng,hng⟩: ∃ t,decide (((-1:Int):Rat).num<0)=t:=⟨_,rfl⟩
   obtain⟨nn,hnn2⟩: ∃ t,N ((-1:Int):Rat).num.natAbs=t:=⟨_,rfl⟩
   obtain⟨nd,hnd⟩: ∃ t,N ((-1:Int):Rat).den=t:=⟨_,rfl⟩
   rw[hng,hnn2,hnd]
   have hcm: ∀ b:List Raw,LOk 2001 b->Den Tryz.prog 135 [] [RL b,.agg [.bool ng,.fv nn,.fv nd]] [] (RL (negR b)):=fun b hb=>by
    have:=den23 b (cn ((-1:Int):Rat)) (hb.mono (by decide)) (cn_ok (Bd.mono (show Bd 1 ((-1:Int):Rat) from⟨by decide,by decide⟩) (by decide)));rw[cn_q] at this;change Den Tryz.prog 135 [] [RL b,FR ((-1:Int):Rat)] [] (RL (negR b)) at this;rw[FR_eq,hng,hnn2,hnd] at this;exact this
   have hca: ∀ u l:List Raw,LOk 2001 u->LOk 2001 l->Den Tryz.prog 162 [] [RL u,RL (negR l)] [] (RL (comb u l)):=fun u l hu hl=>
    den21 u (negR l) (hu.mono (by decide)) ((negR_ok hl (by decide)).mono (by decide))
   clear hng hnn2 hnd hm1
   refine wl (α:=Nat×List (List Raw)) (fun⟨j,out2⟩=>⟨[.fv (.sl (rowsF s)),.int .i64 v,.any,.any,.nilsl,.bool false,.lsl 0 0 L1 27,.lsl 1 0 L2 27,.lsl 2 0 out2.length 27,.any,.any,.any,.any,.any,.ptr 3 0 0]++replicate 38 .any++[.lsl 1 0 L2 27,.int .i64 L2,.int .i64 j]++replicate 32 .any,[.row true (rowsF lo),.row true (rowsF hi),.row true (rowsF out2),.box true [.bool ng,.fv nn,.fv nd]]⟩)
    (fun⟨j,_⟩=>L2 - j) (fun⟨j,out2⟩=>j<=L2/\out2=out++combs (hi.take j) lo/\badS (hi.take j) lo=false) (0,out) ?_ ?_ ?_
   ·refine wk [0,1,2,3] (by simp) rfl ?_ ?_
    ·simp[leVs,leV,le1]
     omega
    ·simp[leH,leO,le1s,le1]
   ·exact⟨qsq _,by simp[combs],rfl⟩
   ·rintro⟨j,out2⟩ ⟨hj,ho2,hb2⟩
    obtain⟨M,hM⟩: ∃ L,out2.length=L:=⟨_,rfl⟩
    dsimp only
    rw[hM]
    simp -dsimp(disch:=omega) only[replicate,↓reduceIte,ru]
    refine bd_ ?_ ?_
    ·intro h3 h4
     have hsn:=take_snoc (cs:=hi) (i:=j) (by omega)
     have hmem:=at_mem (ls:=hi) (i:=j) (by omega)
     have r1:=rowsF_getD hi j
     obtain⟨u,huu⟩: ∃ x,hi.getD j []=x:=⟨_,rfl⟩
     rw[huu] at hmem r1 hsn
     have hu:=hhi2 u hmem
     have lu:=hu.len
     have u27:=flatF_take27 lu
     have fu:=flatF_length u
     have gu:=flat_length u
     have gu27:=flat_take27 lu
     simp -dsimp(disch:=omega) only[append_nil,h4,r1,u27,flatF_fv,fu,gu,lu,rl2,↓reduceIte,reduceAdd,reduceMul,reduceLT,reduceLeDiff,ru]
     repeat refine qy (by omega) ?_
     refine wl (α:=Nat×List (List Raw)) (fun⟨q,out3⟩=>⟨[.fv (.sl (rowsF s)),.int .i64 v,.any,.any,.nilsl,.bool false,.lsl 0 0 L1 27,.lsl 1 0 L2 27,.lsl 2 0 out3.length 27,.any,.any,.any,.any,.any,.ptr 3 0 0,.any,.ptr 4 0 0]++replicate 36 .any++[.lsl 1 0 L2 27,.int .i64 L2,.int .i64 j,.any,.any,.any,.lsl 0 0 L1 27,.int .i64 L1,.int .i64 q]++replicate 26 .any,[.row true (rowsF lo),.row true (rowsF hi),.row true (rowsF out3),.box true [.bool ng,.fv nn,.fv nd],.box true (flat u)]⟩)
      (fun⟨q,_⟩=>L1 - q) (fun⟨q,out3⟩=>q<=L1/\out3=out2++(lo.take q).map (comb u)/\badU u (lo.take q)=false) (0,out2) ?_ ?_ ?_
     ·refine wk [0,1,2,3,4] (by simp) rfl ?_ ?_
      ·simp[leVs,leV,le1]
       omega
      ·simp[leH,leO,le1s,le1,le_flat]
     ·exact⟨qsq _,by simp,rfl⟩
     ·rintro⟨q,out3⟩ ⟨hq,ho3,hb3⟩
      have hM3:out3.length<=100:=by
       have e1:out3.length=out2.length+q:=by rw[ho3];simp;omega
       have e2:out2.length=L3+(hi.take j).length*lo.length:=by
        rw[ho2,qe,hL3];unfold combs;rw[flat_length']
       have e3:(combs hi lo).length=hi.length*lo.length:=by unfold combs;rw[flat_length']
       have e4:(hi.take j).length=j:=by rw[length_take];omega
       rw[e3] at hshort;rw[e4] at e2;have e5:(j+1)*lo.length<=hi.length*lo.length:=qn _ (by omega);rw[Nat.add_mul] at e5;omega
      obtain⟨M3,hM3e⟩: ∃ L,out3.length=L:=⟨_,rfl⟩
      have rl4:=rowsF_length out3
      rw[hM3e] at hM3 rl4
      dsimp only
      rw[hM3e]
      simp -dsimp(disch:=omega) only[replicate,↓reduceIte,ru]
      refine bd_ ?_ ?_
      ·intro h5 h6
       have hsn3:=take_snoc (cs:=lo) (i:=q) (by omega)
       have hmem3:=at_mem (ls:=lo) (i:=q) (by omega)
       have r3:=rowsF_getD lo q
       obtain⟨l,hll⟩: ∃ x,lo.getD q []=x:=⟨_,rfl⟩
       rw[hll] at hmem3 r3 hsn3
       have hl:=hlo2 l hmem3
       have ll:=hl.len
       have l27:=flatF_take27 ll
       have fl:=flatF_length l
       have gl:=flat_length l
       have gl27:=flat_take27 ll
       have h79:=hcm l hl
       have h91:=hca u l hu hl
       have hnl:=negR_len ll
       have hcl:=comb_len lu ll
       have hbs:=badU_snoc (u:=u) (l:=l) (lo:=lo.take q)
       have hcok:=comb_ok hu hl (by decide)
       have hap:=rows_snoc out3 (comb u l)
       have hmp:(lo.take (q+1)).map (comb u)=(lo.take q).map (comb u)++[comb u l]:=by rw[hsn3,qwb];rfl
       have hbadall:badU u (lo.take (q+1))=true->badB s v=true:=fun hb=>by
        rw[hbad];exact any_mem hmem (any_take hb)
       obtain⟨nl,hnle⟩: ∃ x,negR l=x:=⟨_,rfl⟩
       obtain⟨d,hd⟩: ∃ x,comb u l=x:=⟨_,rfl⟩
       rw[hnle] at h79 h91 hnl
       rw[hd] at h91 hcl hbs hcok hap hmp
       have gnl:=flat_length nl
       have gd:=flat_length d
       have gd27:=flat_take27 hcl
       have d27:=flatF_take27 hcl
       have hfc:=flat_const' hcl
       have h74:=den25 d (hcok.mono (by decide))
       have h36:=den36 (d.getD 8 rz) ((hcok.at 8).mono (by decide))
       have hco:co d 8=(d.getD 8 rz).q:=rfl
       have tk3:=take_rows (ls:=out3) (n:=M3) (by omega)
       obtain⟨r,hr⟩:=ex1 (d.getD 8 rz)
       rw[hr] at h36 hfc hco
       unfold Raw.v at h36
       obtain⟨b,hb⟩:=ex1 (constB d)
       rw[hb] at h74 hbs
       unfold RL at h79 h91 h74
       simp -dsimp(disch:=omega) only[append_nil,h6,r3,l27,flatF_fv,fl,gl,ll,↓reduceIte,reduceAdd,reduceMul,reduceLT,reduceLeDiff,ru]
       repeat refine qy (by omega) ?_
       refine dw (by kernel_rfl) ?_
       simp -dsimp(disch:=omega) only[gu27,gl27,gu,lu,gl,ll,↓reduceIte,reduceAdd,reduceMul,reduceLeDiff,ru]
       repeat refine qy (by omega) ?_
       refine gp h79 (by simp[fzAs,fzA,flat_fz,flatF_fv,fzs,fz0]) ?_
       simp -dsimp(disch:=omega) only[flat_ids,flat_reloc,append_nil,rules,reduceAdd]
       repeat refine qy (by omega) ?_
       refine gp h91 (by simp[fzAs,fzA,flat_fz,flatF_fv]) ?_
       simp -dsimp(disch:=omega) only[gd,hcl,gd27,↓reduceIte,reduceAdd,reduceMul,reduceLT,reduceLeDiff,ru,zu]
       repeat refine qy (by omega) ?_
       refine gp h74 (by simp[fzAs,fzA,flat_fz,flatF_fv]) ?_
       cases b with
       | true=>
        simp -dsimp(disch:=omega) only[hfc,gd,hcl,↓reduceIte,reduceAdd,reduceMul,reduceLeDiff,ru,zu]
        repeat refine qy (by omega) ?_
        refine gp h36 rfl ?_;simp -dsimp(disch:=omega) only[append_nil,↓reduceIte,reduceAdd,ru];refine bd_ ?_ ?_
        ·intro g1 g2;have hv:badU u (lo.take (q+1))=true:=by
          have hle:r.q<=0:=by
           have:=@sgq_pos_iff r.q;grind
          rw[hsn3,hbs,hco,hb3,qbb hle];rfl
         rw[if_pos (hbadall hv)] at hR;subst hR;simp -dsimp(disch:=omega) only[g2,ru];refine rpq rfl ⟨tvq,tvq,tvq⟩ rfl
        ·intro g1 g2;have hv:badU u (lo.take (q+1))=false:=by
          have hle: ¬r.q<=0:=by
           have:=@sgq_pos_iff r.q;grind
          rw[hsn3,hbs,hco,hb3,qcb hle];rfl
         simp -dsimp(disch:=omega) only[g2,gd,hcl,gd27,d27,tk3,hap,rl4,↓reduceIte,reduceAdd,reduceMul,Nat.reduceBEq,reduceLT,reduceLeDiff,ru,zu]
         repeat refine qy (by omega) ?_
         refine ap (q+1,out3++[d]) (by dsimp only;omega) ?_ ⟨by omega,by rw[hmp,ho3,append_assoc],hv⟩;refine wk [0,1,8,3,4] (by simp) rfl ?_ ?_
         ·simp[leVs,leV,le1];omega
         ·simp[leH,leO,le1s,le1,le_flat]
       | false=>
        have hv:badU u (lo.take (q+1))=false:=by rw[hsn3,hbs,hb3];rfl
        simp -dsimp(disch:=omega) only[gd,hcl,gd27,d27,tk3,hap,rl4,↓reduceIte,reduceAdd,reduceMul,Nat.reduceBEq,reduceLT,reduceLeDiff,ru,zu]
        repeat refine qy (by omega) ?_
        refine ap (q+1,out3++[d]) (by dsimp only;omega) ?_ ⟨by omega,by rw[hmp,ho3,append_assoc],hv⟩;refine wk [0,1,8,3,4] (by simp) rfl ?_ ?_
        ·simp[leVs,leV,le1];omega
        ·simp[leH,leO,le1s,le1,le_flat]
      ·intro h5 h6
       have hqe:q=L1:=by omega
       have htk3:lo.take q=lo:=qdq (by omega)
       rw[htk3] at ho3 hb3
       simp -dsimp(disch:=omega) only[h6,↓reduceIte,Nat.reduceBEq,ru]
       refine ap (j+1,out3) (by dsimp only;omega) ?_ ⟨by omega,by rw[hsn,combs_snoc,ho3,ho2,append_assoc],by rw[hsn,badS_snoc,hb2,hb3];rfl⟩
       refine wk [0,1,2,3] (by simp) rfl ?_ ?_
       ·simp[leVs,leV,le1]
        omega
       ·simp[leH,leO,le1s,le1]
    ·intro h3 h4
     have hje:j=L2:=by omega
     have htk2:hi.take j=hi:=qdq (by omega)
     rw[htk2] at ho2 hb2
     rw[<-hfin] at ho2
     rw[hbad,hb2,if_neg (by simp)] at hR
     have hbf: ¬Bad s v:=fun hb=>by
      have:=(badB_iff h9).2 hb;rw[hbad,hb2] at this;cases this
     have hvf:violB out2=false:=by
      have h9o: ∀ o∈out2,o.length=9:=by rw[ho2];exact out_len h9
      cases hvb:violB out2 with
      | false=>rfl
      | true=>exact absurd (by have:=(violB_iff h9o).1 hvb;rwa [ho2] at this) (out_viol hs hbf)
     have h44:=pd44 out2 (by rw[ho2];exact fun o ho=>(out_ok hlim (by decide) o ho).mono (by decide)) (by
      have:=outw_short (v:=v) hs hz;rw[ho2];omega) (by rw[ho2];exact outl_lim hv hk hs hz.l) (by rw[ho2];exact outw_count hv hs hz)
     rw[hvf,if_neg (by simp)] at h44
     have rl5:=rowsF_length out2
     have tk5:=take_rows (ls:=out2) (n:=M) (by omega)
     have hstep:stepL s v=sysL out2 []:=by rw[ho2];rfl
     rw[hstep] at hR
     subst hR
     rw[hM] at rl5
     simp -dsimp(disch:=omega) only[h4,rules,Nat.reduceBEq]
     refine gp h44 (by simp[fzAs,fzA,fz1,fz0,rl5,tk5]) ?_
     simp -dsimp(disch:=omega) only[append_nil,reduceAdd,ru]
     exact rpq rfl ⟨tvq,tvq,tvq⟩ rfl
theorem pd90 (s:List (List Raw)) (v:Nat) (hv:v<8) (hg: ∀ l∈s,LOk 1000 l) (hn:s.length<=1000):
 Den Tryz.prog 255 [] [.fv (.sl (rowsF s)),.int .i64 v] [] (.tup [.int .i64 (((lowL s v).length:Int)*(highL s v).length - (lowL s v).length - (highL s v).length),.bool (occ s v)]):=by
 obtain⟨n,hnn⟩:=ex1 (s.length)
 have rl:=rowsF_length s
 rw[hnn] at rl hn
 have hsplit:=split_length s v
 have hocc:occ s v=decide (((lowL s v).length:Int)+(highL s v).length>0):=by
  cases ho:occ s v with
  | false=>
   obtain⟨_,h1,h2⟩:=out_same ho;rw[h1,h2];rfl
  | true=>
   obtain⟨l,hl,h0⟩:=occ_iff.1 ho;symm;refine qbb ?_;by_cases hp:0<co l v
   ·have:solR v l∈lowL s v:=mem_low.2 ⟨l,hl,hp,rfl⟩;have:=qw this;omega
   ·have:solR v l∈highL s v:=mem_high.2 ⟨l,hl,by grind,rfl⟩;have:=qw this;omega
 rw[hocc]
 obtain⟨A,hA⟩:=ex1 ((lowL s v).length)
 obtain⟨C,hC⟩:=ex1 ((highL s v).length)
 rw[hA,hC] at hsplit ⊢
 refine den_of tabOk mixed Tryz.func255 (cd:=_) rfl (by decide) rfl (n:=39) rfl rfl (m:=0) rfl ?_
 simp -dsimp(disch:=omega) only[replicate,rl,ru]
 refine wl (α:=Nat×Nat×Nat) (fun⟨i,a,c⟩=>⟨[.fv (.sl (rowsF s)),.int .i64 v,.any,.any,.int .i64 0,.bool false,.int .i64 a,.int .i64 c,.any,.any,.fv (.sl (rowsF s)),.int .i64 n,.int .i64 i]++replicate 28 .any,[]⟩)
  (fun⟨i,_⟩=>n - i) (fun⟨i,a,c⟩=>i<=n/\a=(lowL (s.take i) v).length/\c=(highL (s.take i) v).length) (0,0,0) ?_ ?_ ?_
 ·refine wk [] (by simp) rfl ?_ ?_
  ·simp[leVs,leV,le1]
  ·simp[leH]
 ·exact⟨qsq _,rfl,rfl⟩
 ·rintro⟨i,a,c⟩ ⟨hi,ha,hc⟩
  have hsz:=split_length (s.take i) v
  rw[<-ha,<-hc,length_take,hnn] at hsz
  simp -dsimp(disch:=omega) only[replicate,↓reduceIte,ru]
  refine bd_ ?_ ?_
  ·intro h1 h2
   have hsn:=take_snoc (cs:=s) (i:=i) (by omega)
   have hmem:=at_mem (ls:=s) (i:=i) (by omega)
   have r1:=rowsF_getD s i
   obtain⟨x,hxx⟩:=ex1 (s.getD i [])
   rw[hxx] at hmem r1 hsn
   have hx:=hg x hmem
   have lx:=hx.len
   have x27:=flatF_take27 lx
   have fx:=flatF_length x
   have gx:=flat_length x
   have gx27:=flat_take27 lx
   have hat:=flat_at (rs:=x) (i:=v) (by omega)
   have h36:=den36 (x.getD v rz) ((hx.at v).mono (by decide))
   have hco:co x v=(x.getD v rz).q:=rfl
   obtain⟨r,hr⟩:=ex1 (x.getD v rz)
   rw[hr] at hat h36 hco
   unfold Raw.v at h36
   rcases sgq_range r.q with hq | hq | hq
   ·have hneg:co x v<0:=by rw[hco,<-sgq_neg_iff,hq];decide
    have hls:=lowL_not (s:=s.take i) (v:=v) (x:=x) (by grind)
    have hhs:=highL_neg (s:=s.take i) hneg
    rw[hq] at h36
    have e1:((-1:Int)==1)=false:=rfl
    have e2:((-1:Int)== -1)=true:=rfl
    simp -dsimp(disch:=omega) only[append_nil,h2,r1,x27,flatF_fv,fx,gx,lx,hat,↓reduceIte,reduceAdd,reduceMul,reduceLT,reduceLeDiff,ru]
    repeat refine qy (by omega) ?_
    refine gp h36 rfl ?_
    simp -dsimp(disch:=omega) only[append_nil,e1,e2,↓reduceIte,ru]
    repeat refine qy (by omega) ?_
    refine ap (i+1,a,c+1) (by dsimp only;omega) ?_ ⟨by omega,by rw[hsn,hls,ha],by rw[hsn,hhs,qe,<-hc];rfl⟩
    refine wk [] (by simp) rfl ?_ ?_
    ·simp[leVs,leV,le1]
    ·simp[leH]
   ·have h0:co x v=0:=by rw[hco,<-sgq_eq_zero,hq]
    have hls:=lowL_not (s:=s.take i) (v:=v) (x:=x) (by grind)
    have hhs:=highL_not (s:=s.take i) (v:=v) (x:=x) (by grind)
    rw[hq] at h36
    have e1:((0:Int)==1)=false:=rfl
    have e2:((0:Int)== -1)=false:=rfl
    simp -dsimp(disch:=omega) only[append_nil,h2,r1,x27,flatF_fv,fx,gx,lx,hat,↓reduceIte,reduceAdd,reduceMul,reduceLT,reduceLeDiff,ru]
    repeat refine qy (by omega) ?_
    refine gp h36 rfl ?_
    simp -dsimp(disch:=omega) only[append_nil,e1,e2,↓reduceIte,ru]
    repeat refine qy (by omega) ?_
    refine ap (i+1,a,c) (by dsimp only;omega) ?_ ⟨by omega,by rw[hsn,hls,ha],by rw[hsn,hhs,hc]⟩
    refine wk [] (by simp) rfl ?_ ?_
    ·simp[leVs,leV,le1]
    ·simp[leH]
   ·have hp:0<co x v:=by rw[hco,<-sgq_pos_iff,hq];decide
    have hls:=lowL_pos (s:=s.take i) hp
    have hhs:=highL_not (s:=s.take i) (v:=v) (x:=x) (by grind)
    rw[hq] at h36
    have e1:((1:Int)==1)=true:=rfl
    simp -dsimp(disch:=omega) only[append_nil,h2,r1,x27,flatF_fv,fx,gx,lx,hat,↓reduceIte,reduceAdd,reduceMul,reduceLT,reduceLeDiff,ru]
    repeat refine qy (by omega) ?_
    refine gp h36 rfl ?_
    simp -dsimp(disch:=omega) only[append_nil,e1,↓reduceIte,ru]
    repeat refine qy (by omega) ?_
    refine ap (i+1,a+1,c) (by dsimp only;omega) ?_ ⟨by omega,by rw[hsn,hls,qe,<-ha];rfl,by rw[hsn,hhs,hc]⟩
    refine wk [] (by simp) rfl ?_ ?_
    ·simp[leVs,leV,le1]
    ·simp[leH]
  ·intro h1 h2
   have htk:s.take i=s:=qdq (by omega)
   rw[htk,hA] at ha
   rw[htk,hC] at hc
   subst ha hc
   have hmul:(0:Int)<=(a:Int)*(c:Int)/\(a:Int)*(c:Int)<=1000000:=by
    constructor
    ·exact Int.mul_nonneg (by omega) (by omega)
    ·have:=Nat.mul_le_mul (show a<=1000 by omega) (show c<=1000 by omega);have e:((a*c:Nat):Int)=(a:Int)*c:=by simp
     omega
   simp -dsimp(disch:=omega) only[h2,↓reduceIte,Nat.reduceBEq,ru]
   repeat refine qy (by omega) ?_
   refine rpq rfl ⟨tvq,tvq,tvq⟩ ?_
   simp(disch:=omega) only[St.get,fzX,oneRes,fzV,fzVs,fzC,fz1,fz0,Option.map_some,qk,List.getD_cons_zero]
theorem pd46w (s:List (List Raw)) (v:Nat) (hv:v<8) (hg:GoodW s):
 Den Tryz.prog 256 [] [.fv (.sl (rowsF s)),.int .i64 v] [] (if badB s v then .tup [.fv (.sl []),.bool false] else .tup [.fv (.sl (rowsF (stepL s v))),.bool true]):=by
 obtain⟨k,hk,hs,hz,_⟩:=hg
 exact pd46 k s v hv hk hs hz
theorem pd45w (s0:List (List Raw)) (hg0:GoodW s0):Den Tryz.prog 229 [] [.fv (.sl (rowsF s0))] [] (.bool (feasB s0)):=by
 obtain⟨R,hR⟩:=ex1 (feasB s0);rw[hR];refine den_of tabOk mixed Tryz.func229 (cd:=_) rfl (by decide) rfl (n:=41) rfl rfl (m:=0) rfl ?_;simp -dsimp(disch:=omega) only[replicate,rules];refine wl (α:=List (List Raw)) (fun s=>⟨[.fv (.sl (rowsF s)),.any,.bool false]++replicate 39 .any,[]⟩)
  nvars (fun s=>GoodW s/\feasB s=R) s0 ?_ ?_ ?_
 ·refine wk [] (by simp) rfl ?_ ?_
  ·simp[leVs,leV,le1]
  ·simp[leH]
 ·exact⟨hg0,hR⟩
 ·rintro s ⟨hg,hf⟩;have rl:=rowsF_length s;have hn12:=hg.len;simp -dsimp(disch:=omega) only[replicate,rl,↓reduceIte,ru];refine bd_ ?_ ?_
  ·intro h1 h2;simp -dsimp(disch:=omega) only[h2,rules];refine wl (α:=Nat×Int×Int) (fun⟨w,b,l⟩=>⟨[.fv (.sl (rowsF s)),.any,.bool false,.int .i64 b,.int .i64 l]++replicate 7 .any++[.int .i64 w]++replicate 29 .any,[]⟩)
    (fun⟨w,_⟩=>8 - w) (fun⟨w,b,l⟩=>w<=8/\((b= -1/\ ∀ u,u<w->occ s u=false)\/ ∃ u,u<8/\b=(u:Nat)/\occ s u=true/\l=cost s u/\ ∀ q,q<w->occ s q=true->cost s u<=cost s q)) (0,-1,0) ?_ ?_ ?_
   ·refine wk [] (by simp) rfl ?_ ?_
    ·simp[leVs,leV,le1]
    ·simp[leH]
   ·exact⟨qsq _,.inl ⟨rfl,fun u hu=>by omega⟩⟩
   ·rintro⟨w,b,l⟩ ⟨hw,hb⟩;simp -dsimp(disch:=omega) only[replicate,↓reduceIte,ru];refine bd_ ?_ ?_
    ·intro h3 h4;have h90:=pd90 s w (by omega) hg.lim (by omega);obtain⟨c,hc⟩:=ex1 (((lowL s w).length:Int)*(highL s w).length - (lowL s w).length - (highL s w).length);obtain⟨o,ho⟩:=ex1 (occ s w);rw[hc,ho] at h90;simp -dsimp(disch:=omega) only[h4,rules];refine gp h90 rfl ?_;cases o with
     | false=>
      simp -dsimp(disch:=omega) only[↓reduceIte,ru];refine ap (w+1,b,l) (by dsimp only;omega) ?_ ⟨by omega,?_⟩
      ·refine wk [] (by simp) rfl ?_ ?_
       ·simp[leVs,leV,le1]
       ·simp[leH]
      ·rcases hb with⟨h5,h6⟩ | h5
       ·refine .inl ⟨h5,fun u hu=>?_⟩;by_cases huw:u=w
        ·rw[huw];exact ho
        ·exact h6 u (by omega)
       ·obtain⟨u,hu,hbu,hou,hlu,hmn⟩:=h5;exact .inr ⟨u,hu,hbu,hou,hlu,fun q hq hoq=>by
         by_cases hqw:q=w
         ·rw[hqw,ho] at hoq;cases hoq
         ·exact hmn q (by omega) hoq⟩
     | true=>
      have hcc:cost s w=c:=hc;simp -dsimp(disch:=omega) only[↓reduceIte,ru];refine bd_ ?_ ?_
      ·intro h5 h6;simp -dsimp(disch:=omega) only[h6,↓reduceIte,ru];have hno: ∀ u,u<w->occ s u=false:=by
        rcases hb with⟨_,h8⟩ | ⟨u,_,h8,_⟩
        ·exact h8
        ·omega
       refine ap (w+1,(w:Int),c) (by dsimp only;omega) ?_ ⟨by omega,.inr ⟨w,by omega,rfl,ho,hcc.symm,fun q hq hoq=>by
        by_cases hqw:q=w
        ·rw[hqw];exact Int.le_refl _
        ·rw[hno q (by omega)] at hoq;cases hoq⟩⟩
       refine wk [] (by simp) rfl ?_ ?_
       ·simp[leVs,leV,le1]
       ·simp[leH]
      ·intro h5 h6;simp -dsimp(disch:=omega) only[h6,↓reduceIte,ru];have hb2: ∃ u,u<8/\b=(u:Nat)/\occ s u=true/\l=cost s u/\ ∀ q,q<w->occ s q=true->cost s u<=cost s q:=by
        rcases hb with⟨h7,_⟩ | h7
        ·omega
        ·exact h7
       refine bd_ ?_ ?_
       ·intro h7 h8;simp -dsimp(disch:=omega) only[h8,↓reduceIte,ru];refine ap (w+1,(w:Int),c) (by dsimp only;omega) ?_ ⟨by omega,.inr ⟨w,by omega,rfl,ho,hcc.symm,fun q hq hoq=>by
         by_cases hqw:q=w
         ·rw[hqw];exact Int.le_refl _
         ·obtain⟨u,_,_,_,hlu,hmn⟩:=hb2;have:=hmn q (by omega) hoq;omega⟩⟩
        refine wk [] (by simp) rfl ?_ ?_
        ·simp[leVs,leV,le1]
        ·simp[leH]
       ·intro h7 h8;simp -dsimp(disch:=omega) only[h8,↓reduceIte,ru];refine ap (w+1,b,l) (by dsimp only;omega) ?_ ⟨by omega,.inr (by
         obtain⟨u,hu,hbu,hou,hlu,hmn⟩:=hb2;refine⟨u,hu,hbu,hou,hlu,fun q hq hoq=>?_⟩;by_cases hqw:q=w
         ·rw[hqw];omega
         ·exact hmn q (by omega) hoq)⟩
        refine wk [] (by simp) rfl ?_ ?_
        ·simp[leVs,leV,le1]
        ·simp[leH]
    ·intro h3 h4;have hw8:w=8:=by omega
     have hb2: ∃ u,u<8/\b=(u:Nat)/\occ s u=true/\l=cost s u/\ ∀ q,q<w->occ s q=true->cost s u<=cost s q:=by
      rcases hb with⟨h7,h8⟩ | h7
      ·exfalso;have hpos:0<s.length:=by omega
       have hmem:=at_mem (ls:=s) (i:=0) hpos;obtain⟨u,hu,h0⟩:=not_const (hg.nc _ hmem);have:=h8 u (by omega);rw[occ_iff.2 ⟨_,hmem,h0⟩] at this;cases this
      ·exact h7
     obtain⟨u,hu,rfl,hou,_,hmn⟩:=hb2;have h46:=pd46w s u hu hg;cases hbad:badB s u with
     | true=>
      rw[hbad,if_pos rfl] at h46;have hR2:R=false:=by rw[<-hf];exact hg.bad hu hbad
      subst hR2;simp -dsimp(disch:=omega) only[h4,rules,Nat.reduceBEq];refine gp h46 rfl ?_;simp -dsimp(disch:=omega) only[Bool.not_false,ru];exact rpq rfl ⟨tvq,tvq⟩ rfl
     | false=>
      rw[hbad,if_neg (by simp)] at h46;have hR2:=hg.feas hu hbad;obtain⟨hgs,hlt⟩:=hg.step hu hou (fun q hq hoq=>hmn q (by omega) hoq);simp -dsimp(disch:=omega) only[h4,rules,Nat.reduceBEq];refine gp h46 rfl ?_;simp -dsimp(disch:=omega) only[Bool.not_true,rules];refine ap (stepL s u) hlt ?_ ⟨hgs,by rw[hR2];exact hf⟩;refine wk [] (by simp) rfl ?_ ?_
      ·simp[leVs,leV,le1]
      ·simp[leH]
  ·intro h1 h2;have hs0:s=[]:=List.eq_nil_of_length_eq_zero (by omega);have hR2:R=true:=by rw[<-hf,hs0];exact feasB_nil
   subst hR2;simp -dsimp(disch:=omega) only[h2,Nat.reduceBEq,ru];exact rpq rfl ⟨tvq,tvq⟩ rfl
theorem pd45 (s0:List (List Raw)) (hg0:GoodS s0):Den Tryz.prog 229 [] [.fv (.sl (rowsF s0))] [] (.bool (feasB s0)):=pd45w s0 hg0.w
theorem pd44g (cs:List (List Raw)) (h:CsOk cs):Den Tryz.prog 228 [] [.fv (.sl (rowsF cs))] [] (if violB cs then .tup [.fv (.sl []),.bool false] else .tup [.fv (.sl (rowsF (sysL cs []))),.bool true]):=
 pd44 cs (fun l hl=>(h.ok l hl).mono (by decide)) (by have:=h.len;omega) h.nok h.nc
theorem pd60w (cs:List (List Raw)) (h:CsW cs):Den Tryz.prog 197 [] [.fv (.sl (rowsF cs))] [] (.bool (innerB cs)):=by
 have h44:=pd44 cs (fun l hl=>(h.ok l hl).mono (by decide)) (by have:=h.len;omega) h.nok h.nc;have h45:=pd45w _ h.good;unfold innerB;obtain⟨R,hR⟩:=ex1 (feasB (sysL cs []));rw[hR] at h45 ⊢;cases hv:violB cs with
 | true=>
  rw[hv,if_pos rfl] at h44;refine den_of tabOk mixed Tryz.func197 (cd:=_) rfl (by decide) rfl (n:=14) rfl rfl (m:=0) rfl ?_;simp -dsimp(disch:=omega) only[replicate,rules];refine gp h44 rfl ?_;simp -dsimp(disch:=omega) only[↓reduceIte,ru];exact rpq rfl ⟨tvq,tvq⟩ rfl
 | false=>
  rw[hv,if_neg (by simp)] at h44;refine den_of tabOk mixed Tryz.func197 (cd:=_) rfl (by decide) rfl (n:=14) rfl rfl (m:=0) rfl ?_;simp -dsimp(disch:=omega) only[replicate,rules];refine gp h44 rfl ?_;simp -dsimp(disch:=omega) only[rules];refine gp h45 rfl ?_;simp -dsimp(disch:=omega) only[↓reduceIte,ru];exact rpq rfl ⟨tvq,tvq⟩ rfl
theorem pd60 (cs:List (List Raw)) (h:CsOk cs):Den Tryz.prog 197 [] [.fv (.sl (rowsF cs))] [] (.bool (innerB cs)):=pd60w cs h.w
theorem pd20 (cs:List (List Raw)) (h:CsOk cs) (hl:cs.length<=40):Den Tryz.prog 155 [] [.fv (.sl (rowsF cs))] [] (.tup [.bool (innerB cs),.int .i64 0]):=by
 have h60:=pd60 cs h;have rl:=rowsF_length cs;have e1:decide ((cs.length:Int)>40)=false:=qcb (by omega);refine den_of tabOk mixed Tryz.func155 (cd:=_) rfl (by decide) rfl (n:=8) rfl rfl (m:=0) rfl ?_;simp -dsimp(disch:=omega) only[replicate,rl,e1,↓reduceIte,ru];refine gp h60 rfl ?_;simp -dsimp(disch:=omega) only[ru];exact rpq rfl ⟨tvq,tvq,tvq⟩ rfl
theorem zeros_cn:(replicate 9 (0:Rat)).map cn=replicate 9 (cn 0):=by simp
theorem numL_len (q:Rat):(numL q).length=9:=by simp[numL]
theorem varL_len (v:Nat):(varL v).length=9:=by simp[varL]
theorem pd30 (r:Raw) (hr:r.Ok 5000000000):Den Tryz.prog 102 [] [r.v] [] (RL (numL r.q)):=by
 have h57:=den57 r hr;have h43:=den43;unfold FL at h43;rw[zeros_cn] at h43;have hset:=flat_set (rs:=replicate 9 (cn 0)) (i:=8) (by simp) (cn r.q).neg (cn r.q).num (cn r.q).den;have hcn:(⟨(cn r.q).neg,(cn r.q).num,(cn r.q).den⟩:Raw)=cn r.q:=rfl;rw[hcn] at hset;change _=flat (numL r.q) at hset;have hnl:=numL_len r.q;obtain⟨y,hy⟩:=ex1 (numL r.q);obtain⟨z,hz⟩:=ex1 (replicate 9 (cn 0));have hzl:z.length=9:=by rw[<-hz];simp
 obtain⟨c,hc⟩:=ex1 (cn r.q);rw[hy] at hset hnl ⊢;rw[hz] at h43 hset;have h57b:Den Tryz.prog 121 [] [r.v] [] c.v:=by rw[<-hc];exact h57
 rw[hc] at hset;unfold Raw.v at h57b ⊢;unfold RL at h43 ⊢;have gz:=flat_length z;have gy:=flat_length y;have gy27:=flat_take27 hnl;have gz27:=flat_take27 hzl;simp only[reduceMul,reduceAdd] at hset;refine den_of tabOk mixed Tryz.func102 (cd:=_) rfl (by decide) rfl (n:=8) rfl rfl (m:=0) rfl ?_;simp -dsimp(disch:=omega) only[replicate,reduceAdd,reduceLT,ru];refine gp h43 rfl ?_;simp -dsimp(disch:=omega) only[gz,hzl,↓reduceIte,reduceAdd,reduceMul,reduceLT,reduceLeDiff,ru,zu]
 repeat refine qy (by omega) ?_
 refine gp h57b rfl ?_;simp -dsimp(disch:=omega) only[append_nil,gz,hzl,hset,gy27,gy,hnl,↓reduceIte,reduceAdd,reduceMul,reduceLT,reduceLeDiff,ru]
 repeat refine qy (by omega) ?_
 exact RetOK.form rfl rfl hnl
theorem pd55 (v:Nat) (hv:v<8):Den Tryz.prog 100 [] [.int .i64 v] [] (RL (varL v)):=by
 have h24:=den24 1 (by decide);have h43:=den43;unfold FL at h43;rw[zeros_cn] at h43;have hset:=flat_set (rs:=replicate 9 (cn 0)) (i:=v) (by simp;omega) (cn ((1:Int):Rat)).neg (cn ((1:Int):Rat)).num (cn ((1:Int):Rat)).den;have hcn:(⟨(cn ((1:Int):Rat)).neg,(cn ((1:Int):Rat)).num,(cn ((1:Int):Rat)).den⟩:Raw)=cn ((1:Int):Rat):=rfl;rw[hcn] at hset;change _=flat (varL v) at hset;have hnl:=varL_len v;obtain⟨y,hy⟩:=ex1 (varL v);obtain⟨z,hz⟩:=ex1 (replicate 9 (cn 0));have hzl:z.length=9:=by rw[<-hz];simp
 obtain⟨c,hc⟩:=ex1 (cn ((1:Int):Rat));rw[hy] at hset hnl ⊢;rw[hz] at h43 hset;have h24b:Den Tryz.prog 32 [] [.int .i64 1] [] c.v:=by rw[<-hc];exact h24
 rw[hc] at hset;unfold Raw.v at h24b;unfold RL at h43 ⊢;have gz:=flat_length z;have gy:=flat_length y;have gy27:=flat_take27 hnl;have gz27:=flat_take27 hzl;refine den_of tabOk mixed Tryz.func100 (cd:=_) rfl (by decide) rfl (n:=9) rfl rfl (m:=0) rfl ?_;simp -dsimp(disch:=omega) only[replicate,ru];refine gp h43 rfl ?_;simp -dsimp(disch:=omega) only[gz,hzl,reduceAdd,reduceMul,reduceLT,reduceLeDiff,ru,zu]
 repeat refine qy (by omega) ?_
 refine gp h24b rfl ?_;simp -dsimp(disch:=omega) only[append_nil,gz,hzl,hset,gy27,gy,hnl,↓reduceIte,reduceAdd,reduceMul,reduceLT,reduceLeDiff,ru]
 repeat refine qy (by omega) ?_
 exact RetOK.form rfl rfl hnl
theorem pd57 (l:List Raw) (h:LOk 1000000 l):Den Tryz.prog 51 [] [RL l] [] (RL (negR l)):=by
 have h24:=den24 (-1) (by decide);have h46:=den46 l (cn ((-1:Int):Rat)) (h.mono (by decide)) (cn_ok (Bd.mono (show Bd 1 ((-1:Int):Rat) from⟨by decide,by decide⟩) (by decide)));rw[cn_q] at h46;change Den Tryz.prog 108 [] [RL l,(cn ((-1:Int):Rat)).v] [] (RL (negR l)) at h46;have hll:=h.len;have hnl:=negR_len hll;obtain⟨y,hy⟩:=ex1 (negR l);obtain⟨c,hc⟩:=ex1 (cn ((-1:Int):Rat));rw[hy] at h46 hnl ⊢;have h24b:Den Tryz.prog 32 [] [.int .i64 (-1)] [] c.v:=by rw[<-hc];exact h24
 rw[hc] at h46;unfold Raw.v at h24b h46;unfold RL at h46 ⊢;have gl:=flat_length l;have gy:=flat_length y;have gy27:=flat_take27 hnl;have gl27:=flat_take27 hll;refine den_of tabOk mixed Tryz.func51 (cd:=_) rfl (by decide) rfl (n:=5) rfl rfl (m:=0) rfl ?_;simp -dsimp(disch:=omega) only[replicate,gl,hll,reduceMul,reduceLT,ru]
 repeat refine qy (by omega) ?_
 refine dw (by kernel_rfl) ?_;simp -dsimp(disch:=omega) only[gl27,gl,hll,↓reduceIte,reduceMul,reduceLeDiff,ru]
 repeat refine qy (by omega) ?_
 refine gp h24b rfl ?_;simp -dsimp(disch:=omega) only[append_nil,rules,reduceAdd];refine gp h46 (by simp[fzAs,fzA,flat_fz,flatF_fv,fzs,fz0]) ?_;simp -dsimp(disch:=omega) only[gy,hnl,reduceAdd,reduceMul,reduceLT,reduceLeDiff,ru,zu]
 repeat refine qy (by omega) ?_
 exact RetOK.form rfl rfl hnl
theorem rows_27 {ls:List (List Raw)} (h: ∀ l∈ls,l.length=9):(∀ y,y∈rowsF ls->y.length=27)=True:=by
 refine eq_true (fun y hy=>?_);obtain⟨l,hl,rfl⟩:=List.mem_map.1 hy;rw[flatF_length,h l hl]
theorem pd78 (ls:List (List Raw)) (h9: ∀ l∈ls,l.length=9) (hn:ls.length<=1000):Den Tryz.prog 106 [] [.fv (.sl (rowsF ls))] [.row true (rowsF ls)] (.lsl 0 0 ls.length 27):=by
 cases ls with
 | nil=>
  show Den Tryz.prog 106 [] ([]++ .fv (.sl [])::[]) [.row true []] (.lsl 0 0 0 27);refine Den.empty' ?_ (fun b o cap=>?_)
  ·show Den Tryz.prog 106 [] [.nilsl] [.row true []] (.lsl 0 0 0 27);refine den_nil tabOk mixed Tryz.func106 (cd:=_) rfl (by decide) rfl (n:=7) rfl rfl ?_ 27 (by decide);simp -dsimp(disch:=omega) only[replicate,Ap_endN_ret,↓reduceIte,ru];exact⟨_,rfl,tvq,tvq⟩
  ·show Den Tryz.prog 106 [] [.fv (.lit (.slice (some ⟨b,o,none⟩) 0 cap))] [.row true []] (.lsl 0 0 0 27);refine den_of tabOk mixed Tryz.func106 (cd:=_) rfl (by decide) rfl (n:=7) rfl rfl (m:=0) rfl ?_;simp -dsimp(disch:=omega) only[replicate,↓reduceIte,reduceMul,reduceLT,reduceLeDiff,ru];exact RetOK.own rfl ⟨tvq,tvq⟩ rfl
 | cons a t=>
  have h27:=rows_27 h9;have rl:=rowsF_length (a::t);have e:rowsF (a::t)=flatF a::rowsF t:=rfl;rw[e] at h27 rl ⊢;obtain⟨n,hnn⟩:=ex1 ((a::t).length);rw[hnn] at rl hn ⊢;obtain⟨us,hus⟩:=ex1 (flatF a::rowsF t);have hul:us.length=n:=by rw[<-hus];exact rl
  refine den_of tabOk mixed Tryz.func106 (cd:=_) rfl (by decide) rfl (n:=7) rfl rfl (m:=0) rfl ?_;simp -dsimp(disch:=omega) only[replicate,↓reduceIte,reduceLT,reduceLeDiff,ru];rw[hus] at h27 ⊢;have hl3:(rowsF t).length+1=n:=by simpa using rl
  simp -dsimp(disch:=omega) only[h27,hl3,rules];refine⟨⟨by omega,by omega⟩,?_⟩;exact RetOK.own rfl ⟨tvq,tvq⟩ rfl
theorem rows_take (ls:List (List Raw)) (i:Nat):List.take i (rowsF ls)=rowsF (ls.take i):=by simp[rowsF]
theorem rows_drop (ls:List (List Raw)) (i:Nat):List.drop i (rowsF ls)=rowsF (ls.drop i):=by simp[rowsF]
theorem rows_del (ls:List (List Raw)) (i:Nat):rowsF (ls.take i)++rowsF (ls.drop (i+1))=rowsF (del ls i):=by simp[rowsF,del]
theorem pd114 (ls:List (List Raw)) (i:Nat) (hi:i<ls.length) (hn:ls.length<=1000):
 Den Tryz.prog 231 [.row true (rowsF ls)] [.lsl 0 0 ls.length 27,.int .i64 i,.int .i64 ((i:Int)+1)] [.row true (rowsF (del ls i))] (.lsl 0 0 (ls.length - 1) 27):=by
 obtain⟨n,hnn⟩:=ex1 (ls.length)
 have rl:=rowsF_length ls
 rw[hnn] at rl hi hn ⊢
 have e1:((i:Int)+1).toNat=i+1:=by omega
 have e2:((i:Int)==(i:Int)+1)=false:=by rw[qx];omega
 have e3:i+(n - (i+1))=n - 1:=by omega
 have t1:=rows_take ls i
 have d1:=rows_drop ls (i+1)
 have dl:(rowsF (ls.drop (i+1))).length=n - (i+1):=by rw[rowsF_length,qt,hnn]
 have t2:List.take (n - (i+1)) (rowsF (ls.drop (i+1)))=rowsF (ls.drop (i+1)):=qdq (by omega)
 have dd:=rows_del ls i
 have ddl:(rowsF (del ls i)).length=n - 1:=by rw[rowsF_length];have:=del_len (s:=ls) (i:=i) (by omega);omega
 obtain⟨Z,hZ⟩:=ex1 (List.drop (n - 1) (rowsF ls))
 have Zl:Z.length=1:=by rw[<-hZ,qt,rl];omega
 obtain⟨D,hD⟩:=ex1 (rowsF (del ls i))
 rw[hD] at dd ddl ⊢
 have hWl:(D++Z).length=n:=by rw[qe,ddl,Zl];omega
 have hWt:List.take (n - 1) (D++Z)=D:=List.take_left' ddl
 refine den_of tabOk mixed Tryz.func231 (cd:=_) rfl (by decide) rfl (n:=30) rfl rfl (m:=1) rfl ?_
 simp -dsimp(disch:=omega) only[replicate,e1,↓reduceIte,ru]
 repeat refine qy (by omega) ?_
 simp -dsimp(disch:=omega) only[e2,ru]
 refine dw (by kernel_rfl) ?_
 simp -dsimp(disch:=omega) only[Nat.sub_zero,e1,t1,d1,t2,dl,dd,e3,hZ,rl,↓reduceIte,Nat.reduceBEq,reduceLT,ru]
 repeat refine qy (by omega) ?_
 simp -dsimp(disch:=omega) only[hWt]
 repeat refine qy (by omega) ?_
 exact rl_ rfl ⟨tvq,tvq⟩ rfl trivial rfl rfl rfl
end Go.Proofs.YtjjbkjgifdhlcaaGreat
