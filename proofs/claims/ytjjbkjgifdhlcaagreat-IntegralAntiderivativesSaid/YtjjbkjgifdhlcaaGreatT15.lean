/- Plain:systems by insertion;feasibility. -/
import Derived.Test.YtjjbkjgifdhlcaaGreatT14
import Derived.Test.YtjjbkjgifdhlcaaGreatT8
import Derived.Test.YtjjbkjgifdhlcaaGreatT11
import Derived.Test.YtjjbkjgifdhlcaaGreatT12
import Derived.Test.YtjjbkjgifdhlcaaGreatT1
open Nat (reduceAdd reduceLT reduceLeDiff reduceMul)
open List (any_eq_true append_nil drop_eq_getElem_cons eq_of_mem_replicate filter_append getD_cons_zero getElem?_cons_succ idxOf?_nil length_cons length_drop length_map length_nil length_set length_take mem_cons_of_mem mem_map mem_or_eq_of_mem_set pairwise_cons replicate)
namespace Go.Pl
open Go.AM
def ins (f:List Raw):List (List Raw)->List (List Raw)
 | []=>[f]
 | a::s=>if cmpR a f<0 then a::ins f s else if cmpR a f=0 then a::s else f::a::s
def IsCn (f:List Raw):Prop:= ∃ qs:List Rat,f=qs.map cn/\qs.length=9
theorem IsCn.len {f:List Raw} (h:IsCn f):f.length=9:=by obtain⟨qs,rfl,hl⟩:=h;simp[hl]
theorem nrmR_cn {l:List Raw} (h:l.length=9):IsCn (nrmR l):=by
 have:=nrmR_len h;exact⟨nrm l,rfl,by simpa [nrmR] using this⟩
theorem map_cn_q (qs:List Rat):(qs.map cn).map Raw.q=qs:=by
 rw[List.map_map]
 conv=>rhs;rw[<-List.map_id qs]
 exact List.map_congr_left (fun q _=>cn_q q)
theorem cn_eq {f g:List Raw} (hf:IsCn f) (hg:IsCn g) (h:cmpR f g=0):f=g:=by
 have h2:=(cmpR_zero f g (by rw[hf.len,hg.len])).1 h;obtain⟨p,rfl,_⟩:=hf;obtain⟨q,rfl,_⟩:=hg;rw[map_cn_q,map_cn_q] at h2;rw[h2]
theorem cmpR_self (f:List Raw):cmpR f f=0:=by have:=cmpR_swap f f;omega
theorem cn_lt_trans {a b c:List Raw} (ha:IsCn a) (hb:IsCn b) (hc:IsCn c) (h1:cmpR a b<0) (h2:cmpR b c<0):cmpR a c<0:=by
 have h3:=cmpR_trans a b c (by rw[ha.len,hb.len]) (by rw[hb.len,hc.len]) (by omega) (by omega);rcases Int.lt_or_eq_of_le h3 with h4 | h4
 ·exact h4
 ·have h5:=cn_eq ha hc h4;subst h5;rw[cmpR_swap] at h2;omega
theorem ins_mem {f:List Raw} (hf:IsCn f): ∀ {s:List (List Raw)},(∀ a∈s,IsCn a)-> ∀ g,g∈ins f s↔g=f\/g∈s
 | [],_,g=>by simp[ins]
 | a::s,h,g=>by
  unfold ins;split
  ·rw[qhb,ins_mem hf (fun b hb=>h b (mem_cons_of_mem _ hb)),qhb];exact⟨fun h1=>by rcases h1 with h1 | h1 | h1<;>simp[h1],fun h1=>by rcases h1 with h1 | h1 | h1<;>simp[h1]⟩
  ·split
   ·rename_i h1;have:=cn_eq (h a (by simp)) hf h1;subst this;simp
   ·simp
theorem ins_sorted {f:List Raw} (hf:IsCn f): ∀ {s:List (List Raw)},(∀ a∈s,IsCn a)->s.Pairwise (fun a b=>cmpR a b<0)->(ins f s).Pairwise (fun a b=>cmpR a b<0)
 | [],_,_=>by simp[ins]
 | a::s,h,hs=>by
  have h2:=pairwise_cons.1 hs;have hsc: ∀ b∈s,IsCn b:=fun b hb=>h b (mem_cons_of_mem _ hb)
  unfold ins;split
  ·rename_i h1;refine pairwise_cons.2 ⟨fun b hb=>?_,ins_sorted hf hsc h2.2⟩;rcases(ins_mem hf hsc b).1 hb with h3 | h3
   ·rw[h3];exact h1
   ·exact h2.1 b h3
  ·split
   ·exact hs
   ·rename_i h1 h3;have hfa:cmpR f a<0:=by rw[cmpR_swap];omega
    refine pairwise_cons.2 ⟨fun b hb=>?_,hs⟩;rcases List.mem_cons.1 hb with h4 | h4
    ·rw[h4];exact hfa
    ·exact cn_lt_trans hf (h a (by simp)) (hsc b h4) hfa (h2.1 b h4)
def sysL:List (List Raw)->List (List Raw)->List (List Raw)
 | [],s=>s
 | l::cs,s=>if constB l then sysL cs s else sysL cs (ins (nrmR l) s)
theorem sysL_is': ∀ (cs s:List (List Raw)),(∀ l∈cs,l.length=9)->(∀ a∈s,IsCn a)->s.Pairwise (fun a b=>cmpR a b<0)->
 (sysL cs s).Pairwise (fun a b=>cmpR a b<0)/\ ∀ f,f∈sysL cs s↔f∈s\/ ∃ l∈cs,¬IsConst l/\f=nrmR l
 | [],s,_,_,hp=>⟨hp,fun f=>by simp[sysL]⟩
 | l::cs,s,h9,hs,hp=>by
  have hl:=h9 l (by simp);have h9': ∀ l∈cs,l.length=9:=fun k hk=>h9 k (mem_cons_of_mem _ hk)
  unfold sysL;by_cases hc:constB l=true
  ·rw[if_pos hc];obtain⟨h1,h2⟩:=sysL_is' cs s h9' hs hp;refine⟨h1,fun f=>?_⟩;rw[h2];have hk:=(constB_iff hl).1 hc;constructor
   ·rintro(h3 | ⟨k,hk,h3⟩)
    ·exact .inl h3
    ·exact .inr ⟨k,mem_cons_of_mem _ hk,h3⟩
   ·rintro(h3 | ⟨k,hk2,h3⟩)
    ·exact .inl h3
    ·rcases List.mem_cons.1 hk2 with h4 | h4
     ·subst h4;exact absurd hk h3.1
     ·exact .inr ⟨k,h4,h3⟩
  ·rw[if_neg hc];have hnc:=fun h=>hc ((constB_iff hl).2 h)
   have hcn:=nrmR_cn hl;obtain⟨h1,h2⟩:=sysL_is' cs (ins (nrmR l) s) h9' (fun a ha=>by
    rcases(ins_mem hcn hs a).1 ha with h3 | h3
    ·rw[h3];exact hcn
    ·exact hs a h3) (ins_sorted hcn hs hp)
   refine⟨h1,fun f=>?_⟩;rw[h2,ins_mem hcn hs];constructor
   ·rintro((h3 | h3) | ⟨k,hk,h3⟩)
    ·exact .inr ⟨l,by simp,hnc,h3⟩
    ·exact .inl h3
    ·exact .inr ⟨k,mem_cons_of_mem _ hk,h3⟩
   ·rintro(h3 | ⟨k,hk2,h3⟩)
    ·exact .inl (.inr h3)
    ·rcases List.mem_cons.1 hk2 with h4 | h4
     ·subst h4;exact .inl (.inl h3.2)
     ·exact .inr ⟨k,h4,h3⟩
theorem sysL_is {cs:List (List Raw)} (h9: ∀ l∈cs,l.length=9):IsSys cs (sysL cs []):=by
 obtain⟨h1,h2⟩:=sysL_is' cs [] h9 (by simp) List.Pairwise.nil;exact⟨h1,fun f=>by rw[h2];simp⟩
theorem IsSys.eq {cs s:List (List Raw)} (h9: ∀ l∈cs,l.length=9) (h:IsSys cs s):s=sysL cs []:=h.unique (sysL_is h9)
def violB (cs:List (List Raw)):Bool:=cs.any (fun l=>constB l&&decide (co l 8<0))
theorem violB_iff {cs:List (List Raw)} (h9: ∀ l∈cs,l.length=9):violB cs=true↔Viol cs:=by
 unfold violB Viol;rw[any_eq_true];constructor
 ·rintro⟨l,hl,h⟩;rw[qtb,constB_iff (h9 l hl),decide_eq_true_iff] at h;exact⟨l,hl,h⟩
 ·rintro⟨l,hl,h⟩;refine⟨l,hl,?_⟩;rw[qtb,constB_iff (h9 l hl),decide_eq_true_iff];exact h
noncomputable def feasB (cs:List (List Raw)):Bool:=@decide (Feas cs) (Classical.propDecidable _)
theorem feasB_iff {cs:List (List Raw)}:feasB cs=true↔Feas cs:=by unfold feasB;rw[@decide_eq_true_iff]
theorem feasB_false {cs:List (List Raw)}:feasB cs=false↔ ¬Feas cs:=by
 rw[<-feasB_iff];cases feasB cs<;>simp
noncomputable def innerB (cs:List (List Raw)):Bool:=!violB cs&&feasB (sysL cs [])
theorem innerB_iff {cs:List (List Raw)} (h9: ∀ l∈cs,l.length=9):innerB cs=true↔ ∃ x,In cs x:=by
 unfold innerB;rw[qtb,feasB_iff,Bool.not_eq_true'];constructor
 ·rintro⟨h1,x,hx⟩;exact⟨x,(sys_in h9 (sysL_is h9) (fun hv=>by rw[(violB_iff h9).2 hv] at h1;cases h1) x).2 hx⟩
 ·rintro⟨x,hx⟩;have hnv: ¬Viol cs:=fun hv=>viol_in hv x hx
  refine⟨?_,x,(sys_in h9 (sysL_is h9) hnv x).1 hx⟩;cases h:violB cs with
  | false=>rfl
  | true=>exact absurd ((violB_iff h9).1 h) hnv
theorem feas_nil:Feas []:=⟨fun _=>0,by simp⟩
def badB (s:List (List Raw)) (v:Nat):Bool:=(highL s v).any (fun u=>(lowL s v).any (fun l=>constB (comb u l)&&decide (co (comb u l) 8<=0)))
theorem badB_iff {s:List (List Raw)} {v:Nat} (h9: ∀ l∈s,l.length=9):badB s v=true↔Bad s v:=by
 unfold badB Bad;rw[any_eq_true];have hl: ∀ u∈highL s v,∀ l∈lowL s v,(comb u l).length=9:=fun u hu l hl=>by
  obtain⟨a,ha,_,rfl⟩:=mem_high.1 hu;obtain⟨b,hb,_,rfl⟩:=mem_low.1 hl;exact comb_len (solR_len (h9 a ha)) (solR_len (h9 b hb))
 constructor
 ·rintro⟨u,hu,h⟩;rw[any_eq_true] at h;obtain⟨l,hl2,h⟩:=h;rw[qtb,constB_iff (hl u hu l hl2),decide_eq_true_iff] at h;exact⟨u,hu,l,hl2,h⟩
 ·rintro⟨u,hu,l,hl2,h⟩;refine⟨u,hu,?_⟩;rw[any_eq_true];refine⟨l,hl2,?_⟩;rw[qtb,constB_iff (hl u hu l hl2),decide_eq_true_iff];exact h
def stepL (s:List (List Raw)) (v:Nat):List (List Raw):=sysL (outL s v) []
theorem stepL_is {k:Nat} {s:List (List Raw)} (v:Nat) (hs:SysF k s):IsSys (outL s v) (stepL s v):=sysL_is (out_len (fun l hl=>(hs.ok l hl).len))
theorem step_feas {k:Nat} {s:List (List Raw)} {v:Nat} (hv:v<8) (hs:SysF k s) (hb: ¬Bad s v):Feas (stepL s v)↔Feas s:=by
 constructor
 ·rintro⟨x,hx⟩;obtain⟨t,ht⟩:=(step_pos hv hs hb (stepL_is v hs) x).1 hx;exact⟨_,ht⟩
 ·rintro⟨x,hx⟩;refine⟨x,(step_pos hv hs hb (stepL_is v hs) x).2 ⟨x v,?_⟩⟩;have:upd x v (x v)=x:=by funext i;unfold upd;split<;>simp_all
  rw[this];exact hx
theorem bad_feas {k:Nat} {s:List (List Raw)} {v:Nat} (hv:v<8) (hs:SysF k s) (hb:Bad s v): ¬Feas s:=fun⟨x,hx⟩=>bad_pos hv hs hb x hx
end Go.Pl
namespace Go.Proofs.YtjjbkjgifdhlcaaGreat
open Go.AM Go.Pl
set_option maxRecDepth 100000
set_option maxHeartbeats 4000000
def rowsF (ls:List (List Raw)):List (List FV):=ls.map flatF
theorem rowsF_length (ls:List (List Raw)):(rowsF ls).length=ls.length:=by simp[rowsF]
theorem rowsF_getD (ls:List (List Raw)) (i:Nat):(rowsF ls).getD i []=flatF (ls.getD i []):=by
 by_cases h:i<ls.length
 ·simp[rowsF,h]
 ·simp[rowsF,List.getElem?_eq_none (show ls.length<=i by omega),flatF]
theorem flatF_length: ∀ rs:List Raw,(flatF rs).length=3*rs.length
 | []=>rfl
 | r::rs=>by simp only[flatF,length_cons,flatF_length rs];omega
theorem rowsF_set (ls:List (List Raw)) (i:Nat) (x:List Raw):(rowsF ls).set i (flatF x)=rowsF (ls.set i x):=by simp[rowsF,List.map_set]
def AOk (k:Nat) (ls:List (List Raw)):Prop:= ∀ l∈ls,LOk k l
theorem AOk.at {k:Nat} {ls:List (List Raw)} (h:AOk k ls) {i:Nat} (hi:i<ls.length):LOk k (ls.getD i []):=by
 rw[qa,qb hi];exact h _ (qqb hi)
def swapL (ls:List (List Raw)) (j:Nat):List (List Raw):=(ls.set j (ls.getD (j - 1) [])).set (j - 1) (ls.getD j [])
theorem swapL_length (ls:List (List Raw)) (j:Nat):(swapL ls j).length=ls.length:=by simp[swapL]
theorem swapL_getD {ls:List (List Raw)} {j:Nat} (h0:0<j) (hj:j<ls.length) (q:Nat):(swapL ls j).getD q []=if q=j then ls.getD (j - 1) [] else if q=j - 1 then ls.getD j [] else ls.getD q []:=by
 unfold swapL;simp only[qa,List.getElem?_set,length_set];by_cases h1:q=j
 ·subst h1;rw[if_neg (by omega),if_pos rfl,if_pos hj,if_pos rfl];rfl
 ·rw[if_neg h1];by_cases h2:q=j - 1
  ·subst h2;rw[if_pos rfl,if_pos (by omega),if_pos rfl];rfl
  ·rw[if_neg (fun h=>h2 h.symm),if_neg (fun h=>h1 h.symm),if_neg h2]
theorem mem_getD {ls:List (List Raw)} {f:List Raw}:f∈ls↔ ∃ i,i<ls.length/\ls.getD i []=f:=by
 rw[List.mem_iff_getElem];constructor
 ·rintro⟨i,hi,rfl⟩;exact⟨i,hi,by rw[qa,qb hi];rfl⟩
 ·rintro⟨i,hi,h⟩;rw[qa,qb hi] at h;exact⟨i,hi,h⟩
theorem swapL_mem {ls:List (List Raw)} {j:Nat} (h0:0<j) (hj:j<ls.length) (f:List Raw):f∈swapL ls j↔f∈ls:=by
 rw[mem_getD,mem_getD,swapL_length];constructor
 ·rintro⟨q,hq,h⟩;rw[swapL_getD h0 hj] at h;by_cases h1:q=j
  ·rw[if_pos h1] at h;exact⟨j - 1,by omega,h⟩
  ·rw[if_neg h1] at h;by_cases h2:q=j - 1
   ·rw[if_pos h2] at h;exact⟨j,hj,h⟩
   ·rw[if_neg h2] at h;exact⟨q,hq,h⟩
 ·rintro⟨q,hq,h⟩;by_cases h1:q=j
  ·subst h1;exact⟨q - 1,by omega,by rw[swapL_getD h0 hj,if_neg (by omega),if_pos rfl];exact h⟩
  ·by_cases h2:q=j - 1
   ·subst h2;exact⟨j,hj,by rw[swapL_getD h0 hj,if_pos rfl];exact h⟩
   ·exact⟨q,hq,by rw[swapL_getD h0 hj,if_neg h1,if_neg h2];exact h⟩
def Srt (ls:List (List Raw)) (i j:Nat):Prop:= ∀ p q,p<q->q<=i->q≠j->cmpR (ls.getD p []) (ls.getD q [])<=0
theorem srt_swap {ls:List (List Raw)} {i j:Nat} (hj0:0<j) (hji:j<=i) (hi:i<ls.length) (h:Srt ls i j) (hc:cmpR (ls.getD j []) (ls.getD (j - 1) [])<0):Srt (swapL ls j) i (j - 1):=by
 intro p q hpq hqi hq;rw[swapL_getD hj0 (by omega),swapL_getD hj0 (by omega)];by_cases h1:q=j
 ·subst h1;rw[if_pos rfl,if_neg (by omega: ¬p=q)];by_cases h2:p=q - 1
  ·rw[if_pos h2];omega
  ·rw[if_neg h2];exact h p (q - 1) (by omega) (by omega) (by omega)
 ·rw[if_neg h1,if_neg hq];by_cases h2:p=j
  ·rw[if_pos h2];exact h (j - 1) q (by omega) hqi h1
  ·rw[if_neg h2];by_cases h3:p=j - 1
   ·rw[if_pos h3];exact h j q (by omega) hqi h1
   ·rw[if_neg h3];exact h p q hpq hqi h1
theorem srt_done {k:Nat} {ls:List (List Raw)} {i j:Nat} (hok:AOk k ls) (hi:i<ls.length) (hji:j<=i) (h:Srt ls i j) (hc:j=0\/0<=cmpR (ls.getD j []) (ls.getD (j - 1) [])): ∀ p q,p<q->q<=i->cmpR (ls.getD p []) (ls.getD q [])<=0:=by
 intro p q hpq hqi;by_cases hq:q=j
 ·subst hq;rcases hc with h0 | h0
  ·omega
  ·rw[cmpR_swap] at h0;have h1:cmpR (ls.getD (q - 1) []) (ls.getD q [])<=0:=by omega
   by_cases hp:p=q - 1
   ·rw[hp];exact h1
   ·have h2:=h p (q - 1) (by omega) (by omega) (by omega);exact cmpR_trans _ _ _ (by rw[(hok.at (i:=p) (by omega)).len,(hok.at (i:=q - 1) (by omega)).len]) (by rw[(hok.at (i:=q - 1) (by omega)).len,(hok.at (i:=q) (by omega)).len]) h2 h1
 ·exact h p q hpq hqi hq
theorem flatF_drop27 {rs:List Raw} (h:rs.length=9):List.drop 27 (flatF rs)=[]:=List.drop_of_length_le (by rw[flatF_length];omega)
theorem flatF_take27 {rs:List Raw} (h:rs.length=9):List.take 27 (flatF rs)=flatF rs:=qdq (by rw[flatF_length];omega)
structure SortOf (ls ls':List (List Raw)):Prop where
 len:ls'.length=ls.length
 mem: ∀ f,f∈ls'↔f∈ls
 ord: ∀ p q,p<q->q<ls'.length->cmpR (ls'.getD p []) (ls'.getD q [])<=0
abbrev cmpV:PV:= .fv (.lit (.func (.func 201) #[] #[]))
theorem AOk.of_mem {k:Nat} {ls ls':List (List Raw)} (h:AOk k ls) (hm: ∀ f,f∈ls'↔f∈ls):AOk k ls':=fun l hl=>h l ((hm l).1 hl)
theorem pd134 (ls:List (List Raw)) (hok:AOk 1000000000 ls) (hn:ls.length<=1000):
 ∃ H1 res,(fun H1 res=> ∃ ls',H1=[.row true (rowsF ls')]/\res=PV.tup []/\SortOf ls ls') H1 res/\Den Tryz.prog 259 [.row true (rowsF ls)] [.lsl 0 0 ls.length 27,.int .i64 0,.int .i64 ls.length,cmpV] H1 res:=by
 obtain⟨n,hnn⟩:=ex1 (ls.length)
 rw[hnn] at hn ⊢
 refine den_some tabOk mixed Tryz.func259 (cd:=_) rfl (by decide) rfl (n:=49) rfl rfl (m:=1) rfl ?_
 simp -dsimp(disch:=omega) only[replicate,↓reduceIte,ru]
 refine wl (α:=Nat×List (List Raw)) (fun⟨i,l⟩=>⟨[.lsl 0 0 n 27,.int .i64 0,.int .i64 n,cmpV,.any,.any,.any,.any,.int .i64 i]++replicate 44 .any,[.row true (rowsF l)]⟩)
  (fun⟨i,_⟩=>n+1 - i) (fun⟨i,l⟩=>1<=i/\(i<=n\/i=1)/\l.length=n/\(∀ f,f∈l↔f∈ls)/\ ∀ p q,p<q->q<i->q<n->cmpR (l.getD p []) (l.getD q [])<=0) (1,ls) ?_ ?_ ?_
 ·refine wk [0] (by simp) rfl ?_ ?_
  ·simp[leVs,leV,le1]
  ·simp[leH,leO]
 ·exact⟨qp _,Or.inr rfl,hnn,fun f=>Iff.rfl,fun p q h1 h2 h3=>by omega⟩
 ·rintro⟨i,l⟩ ⟨hi1,hin,hll,hmem,hord⟩
  simp -dsimp(disch:=omega) only[replicate,↓reduceIte,ru]
  refine bd_ ?_ ?_
  ·intro h1 h2
   simp -dsimp(disch:=omega) only[h2,rules]
   refine wl (α:=Nat×List (List Raw)) (fun⟨j,l⟩=>⟨[.lsl 0 0 n 27,.int .i64 0,.int .i64 n,cmpV,.any,.any,.any,.any,.int .i64 i,.int .i64 j]++replicate 43 .any,[.row true (rowsF l)]⟩)
    (fun⟨j,_⟩=>j) (fun⟨j,l⟩=>j<=i/\l.length=n/\(∀ f,f∈l↔f∈ls)/\Srt l i j) (i,l) ?_ ?_ ?_
   ·refine wk [0] (by simp) rfl ?_ ?_
    ·simp[leVs,leV,le1]
    ·simp[leH,leO]
   ·exact⟨qp _,hll,hmem,fun p q h3 h4 h5=>hord p q h3 (by omega) (by omega)⟩
   ·rintro⟨j,l⟩ ⟨hj,hll,hmem,hsrt⟩
    have hokl:=hok.of_mem hmem
    simp -dsimp(disch:=omega) only[replicate,rules]
    refine dw (by kernel_rfl) ?_
    simp -dsimp(disch:=omega) only[↓reduceIte,ru]
    refine bd_ ?_ ?_
    ·intro h3 h4
     obtain⟨p,rfl⟩: ∃ p,j=p+1:=⟨j - 1,by omega⟩
     have hp1:(((p+1:Nat):Int) - 1)=(p:Int):=by omega
     have hx:=hokl.at (i:=p+1) (by omega)
     have hy:=hokl.at (i:=p) (by omega)
     have hden:=den22 _ _ hx hy
     have r1:=rowsF_getD l (p+1)
     have r2:=rowsF_getD l p
     obtain⟨x,hxx⟩:=ex1 (l.getD (p+1) [])
     obtain⟨y,hyy⟩: ∃ x,l.getD p []=x:=⟨_,rfl⟩
     rw[hxx] at hx hden r1
     rw[hyy] at hy hden r2
     have rl:=rowsF_length l
     have x27:=flatF_take27 hx.len
     have y27:=flatF_take27 hy.len
     have fx:=flatF_length x
     have fy:=flatF_length y
     have lx:=hx.len
     have ly:=hy.len
     unfold RL at hden
     have dx:=flatF_drop27 hx.len
     have dy:=flatF_drop27 hy.len
     have gx:=flat_length x
     have gy:=flat_length y
     have hsw:((rowsF l).set (p+1) (flatF y)).set p (flatF x)=rowsF (swapL l (p+1)):=by
      rw[rowsF_set,rowsF_set];unfold swapL;rw[Nat.add_sub_cancel,hxx,hyy]
     have r3:((rowsF l).set (p+1) (flatF y)).getD p []=flatF y:=by
      rw[rowsF_set,rowsF_getD,qa,qm (by omega),<-qa,hyy]
     obtain⟨z,hz⟩:=ex1 (cmpR x y)
     rw[hz] at hden
     simp -dsimp(disch:=omega) only[h4,hp1,r1,r2,x27,y27,flatF_fv,rl,↓reduceIte,ru]
     repeat refine qy (by omega) ?_
     refine gp hden (by simp[fzAs,fzA,flat_fz,flatF_fv]) ?_
     simp -dsimp(disch:=omega) only[↓reduceIte,ru,zu]
     refine bd_ ?_ ?_
     ·intro h5 h6
      simp -dsimp(disch:=omega) only[h6,rules]
      refine dw (by kernel_rfl) ?_
      simp -dsimp(disch:=omega) only[hp1,r1,r2,r3,x27,y27,flatF_fv,rl,fx,fy,gx,gy,lx,ly,dx,dy,hsw,length_set,↓reduceIte,reduceMul,reduceLT,reduceLeDiff,ru,zu]
      repeat refine qy (by omega) ?_
      refine ap (p,swapL l (p+1)) (by dsimp only;omega) ?_ ⟨by omega,by rw[swapL_length];exact hll,fun f=>by rw[swapL_mem (by omega) (by omega),hmem],?_⟩
      ·refine wk [0] (by simp) rfl ?_ ?_
       ·simp[leVs,leV,le1]
       ·simp[leH,leO]
      ·have:=srt_swap (j:=p+1) (by omega) hj (by omega) hsrt (by rw[hxx,Nat.add_sub_cancel,hyy,hz];exact h5)
       rwa [Nat.add_sub_cancel] at this
     ·intro h5 h6
      have hd:=srt_done hokl (by omega) hj hsrt (Or.inr (by rw[hxx,Nat.add_sub_cancel,hyy,hz];omega))
      simp -dsimp(disch:=omega) only[h6,↓reduceIte,Nat.reduceBEq,ru]
      refine ap (i+1,l) (by dsimp only;omega) ?_ ⟨by omega,by omega,hll,hmem,fun p q h7 h8 h9=>hd p q h7 (by omega)⟩
      refine wk [0] (by simp) rfl ?_ ?_
      ·simp[leVs,leV,le1]
      ·simp[leH,leO]
    ·intro h3 h4
     have hd:=srt_done hokl (by omega) hj hsrt (Or.inl (by omega))
     simp -dsimp(disch:=omega) only[h4,↓reduceIte,Nat.reduceBEq,ru]
     refine ap (i+1,l) (by dsimp only;omega) ?_ ⟨by omega,by omega,hll,hmem,fun p q h7 h8 h9=>hd p q h7 (by omega)⟩
     refine wk [0] (by simp) rfl ?_ ?_
     ·simp[leVs,leV,le1]
     ·simp[leH,leO]
  ·intro h1 h2
   simp -dsimp(disch:=omega) only[h2,Ap_endR_normal,rules,Nat.reduceBEq]
   exact⟨[.row true (rowsF l)],.tup [],⟨l,rfl,rfl,by rw[hll,hnn],hmem,fun p q h3 h4=>hord p q h3 (by omega) (by omega)⟩,rl_ (cd:=True) (vs:=[]) rfl trivial rfl trivial rfl rfl rfl⟩
theorem pd143 (x:Nat) (hx:x<256):Den Tryz.prog 245 [] [.int .u64 x] [] (.int .i64 (blen x:Int)):=by
 have h8: ∀ n:Nat,n<256->(((Lib.len8tab[n]?).getD 0).toNat:Nat)=blen n:=fun n hn=>len8_all ⟨n,hn⟩
 have hsz:Lib.len8tab.size=256:=Lib.len8tab_size;have hb8:blen x<=8:=by
  have: ∀ m:Fin 256,blen m.val<=8:=by decide+kernel
  exact this ⟨x,hx⟩
 have e1:decide ((x:Int)>=4294967296)=false:=qcb (by omega);have e2:decide ((x:Int)>=65536)=false:=qcb (by omega);have e3:decide ((x:Int)>=256)=false:=qcb (by omega);refine den_of tabOk mixed Tryz.func245 (cd:=_) rfl (by decide) rfl (n:=24) rfl rfl (m:=0) rfl ?_;simp -dsimp(disch:=omega) only[replicate,fold8,of_string,e1,e2,e3,h8,↓reduceIte,ru];refine⟨by rw[hsz];omega,?_⟩;refine rpq rfl ⟨tvq,tvq⟩ ?_;simp(disch:=omega) only[St.get,fzX,oneRes,fzV,fzC,fz1,fz0,Option.map_some,qk,getD_cons_zero];simp
theorem pd118 (x:Nat) (hx:x<256):Den Tryz.prog 207 [] [.int .u64 x] [] (.int .i64 (blen x:Int)):=by
 refine den_of tabOk mixed Tryz.func207 (cd:=_) rfl (by decide) rfl (n:=7) rfl rfl (m:=0) rfl ?_;simp -dsimp(disch:=omega) only[replicate,rules];refine gp (pd143 x hx) rfl ?_;simp -dsimp(disch:=omega) only[ru];refine rpq rfl ⟨tvq,tvq⟩ rfl
theorem pd117 (ls ls':List (List Raw)) (lim:Int) (hn:ls.length<=12) (h:Den Tryz.prog 259 [.row true (rowsF ls)] [.lsl 0 0 ls.length 27,.int .i64 0,.int .i64 ls.length,cmpV] [.row true (rowsF ls')] (.tup [])):
 Den Tryz.prog 235 [.row true (rowsF ls)] [.lsl 0 0 ls.length 27,.int .i64 0,.int .i64 ls.length,.int .i64 lim,cmpV] [.row true (rowsF ls')] (.tup []):=by
 obtain⟨n,hnn⟩:=ex1 (ls.length)
 rw[hnn] at h hn ⊢
 have e1:decide ((n:Int) - 0<=12)=true:=qbb (by omega)
 refine den_of tabOk mixed Tryz.func235 (cd:=_) rfl (by decide) rfl (n:=143) rfl rfl (m:=1) rfl ?_
 simp -dsimp(disch:=omega) only[replicate,rules]
 refine wl (α:=Unit) (fun _=>⟨[.lsl 0 0 n 27,.int .i64 0,.int .i64 n,.int .i64 lim,cmpV,.any,.any,.any,.any,.any,.bool true,.bool true]++replicate 136 .any,[.row true (rowsF ls)]⟩)
  (fun _=>0) (fun _=>True) () ?_ trivial ?_
 ·refine wk [0] (by simp) rfl ?_ ?_
  ·simp[leVs,leV,le1]
  ·simp[leH,leO]
 ·rintro⟨⟩ _
  simp -dsimp(disch:=omega) only[replicate,e1,↓reduceIte,ru]
  refine gl_ 0 h rfl rfl trivial rfl rfl rfl ?_
  simp -dsimp(disch:=omega) only[append_nil,ru]
  exact rl_ (cd:=True) (vs:=[]) rfl trivial rfl trivial rfl rfl rfl
theorem pd86 (ls:List (List Raw)) (hok:AOk 1000000000 ls) (hn:ls.length<=12):
 ∃ ls',SortOf ls ls'/\Den Tryz.prog 203 [.row true (rowsF ls)] [.lsl 0 0 ls.length 27,cmpV] [.row true (rowsF ls')] (.tup []):=by
 obtain⟨H1,res,⟨ls',rfl,rfl,hs⟩,h⟩:=pd134 ls hok (by omega)
 refine⟨ls',hs,?_⟩
 have h2:=pd117 ls ls' (blen ls.length:Int) hn h
 obtain⟨n,hnn⟩:=ex1 (ls.length)
 rw[hnn] at h2 hn ⊢
 refine den_of tabOk mixed Tryz.func203 (cd:=_) rfl (by decide) rfl (n:=12) rfl rfl (m:=1) rfl ?_
 simp -dsimp(disch:=omega) only[replicate,ru]
 refine gp (pd118 n (by omega)) rfl ?_
 simp -dsimp(disch:=omega) only[rules]
 refine gl_ 0 h2 rfl rfl trivial rfl rfl rfl ?_
 simp -dsimp(disch:=omega) only[append_nil,ru]
 exact rl_ (cd:=True) (vs:=[]) rfl trivial rfl trivial rfl rfl rfl
theorem pd89 (a b:List Raw) (ha:LOk 1000000000 a) (hb:LOk 1000000000 b):Den Tryz.prog 254 [] [RL a,RL b] [] (.bool (cmpR a b==0)):=by
 have hden:=den22 a b ha hb;have ga:=flat_length a;have gb:=flat_length b;have la:=ha.len;have lb:=hb.len;have a27:=flat_take27 la;have b27:=flat_take27 lb;obtain⟨z,hz⟩:=ex1 (cmpR a b);rw[hz] at hden ⊢;unfold RL at hden ⊢;refine den_of tabOk mixed Tryz.func254 (cd:=_) rfl (by decide) rfl (n:=7) rfl rfl (m:=0) rfl ?_;simp -dsimp(disch:=omega) only[replicate,a27,b27,↓reduceIte,reduceLT,ru]
 repeat refine qy (by omega) ?_
 refine gp hden (by simp[fzAs,fzA,flat_fz,flatF_fv]) ?_;simp -dsimp(disch:=omega) only[↓reduceIte,reduceAdd,ru,zu];refine rpq rfl ⟨tvq,tvq⟩ rfl
theorem rowsT_set (ts:List RT) (i:Nat) (t:RT):(rowsT ts).set i (tmF t)=rowsT (ts.set i t):=by simp[rowsT,List.map_set]
theorem tmF_drop11 {t:RT} (h:t.1.length=8):List.drop 11 (tmF t)=[]:=List.drop_of_length_le (by rw[tmF_length h];omega)
abbrev mV (g:Nat) (v:Value):PV:= .fv (.lit (.func (.func g) #[v] #[]))
theorem iq236 (g:Nat) (v:Value) (u:FV) (hv:PV.ofValue v= .agg [.fv u]) (ls:List RT) (hl: ∀ t∈ls,t.1.length=8) (hn:ls.length<=1000000)
 (hcmp: ∀ s∈ls,∀ t∈ls,Den Tryz.prog g [] [.agg [.fv u],.agg (tmC s),.agg (tmC t)] [] (.int .i64 (-(cmpM s.1 t.1)))):
 ∃ H1 res,(fun H1 res=> ∃ ls',H1=[.row true (rowsT ls')]/\res=PV.tup []/\ls'.Perm ls/\ls'.Pairwise (fun a b=>¬ltT b a)) H1 res/\
  Den Tryz.prog 236 [.row true (rowsT ls)] [.lsl 0 0 ls.length 11,.int .i64 0,.int .i64 ls.length,mV g v] H1 res:=by
 obtain⟨n,hnn⟩:=ex1 (ls.length)
 rw[hnn] at hn ⊢
 refine den_some tabOk mixed Tryz.func236 (cd:=_) rfl (by decide) rfl (n:=49) rfl rfl (m:=1) rfl ?_
 simp -dsimp(disch:=omega) only[replicate,↓reduceIte,ru]
 refine wl (α:=Nat×List RT) (fun⟨i,l⟩=>⟨[.lsl 0 0 n 11,.int .i64 0,.int .i64 n,mV g v,.any,.any,.any,.any,.int .i64 i]++replicate 44 .any,[.row true (rowsT l)]⟩)
  (fun⟨i,_⟩=>n+1 - i) (fun⟨i,l⟩=>1<=i/\(i<=n\/i=1)/\l.Perm ls/\ ∀ p q,p<q->q<i->q<n-> ¬ltT (l.getD q rt0) (l.getD p rt0)) (1,ls) ?_ ?_ ?_
 ·refine wk [0] (by simp) rfl ?_ ?_
  ·simp[leVs,leV,le1]
  ·simp[leH,leO]
 ·exact⟨qp _,Or.inr rfl,List.Perm.refl _,fun p q h1 h2 h3=>by omega⟩
 ·rintro⟨i,l⟩ ⟨hi1,hin,hperm,hord⟩
  have hll:l.length=n:=by rw[hperm.length_eq,hnn]
  simp -dsimp(disch:=omega) only[replicate,↓reduceIte,ru]
  refine bd_ ?_ ?_
  ·intro h1 h2
   simp -dsimp(disch:=omega) only[h2,rules]
   refine wl (α:=Nat×List RT) (fun⟨j,l⟩=>⟨[.lsl 0 0 n 11,.int .i64 0,.int .i64 n,mV g v,.any,.any,.any,.any,.int .i64 i,.int .i64 j]++replicate 43 .any,[.row true (rowsT l)]⟩)
    (fun⟨j,_⟩=>j) (fun⟨j,l⟩=>j<=i/\l.Perm ls/\SrtG rt0 ltT l i j) (i,l) ?_ ?_ ?_
   ·refine wk [0] (by simp) rfl ?_ ?_
    ·simp[leVs,leV,le1]
    ·simp[leH,leO]
   ·exact⟨qp _,hperm,fun p q h3 h4 h5=>hord p q h3 (by omega) (by omega)⟩
   ·rintro⟨j,l⟩ ⟨hj,hperm,hsrt⟩
    have hll:l.length=n:=by rw[hperm.length_eq,hnn]
    have hl8: ∀ t∈l,t.1.length=8:=fun t ht=>hl t (hperm.mem_iff.1 ht)
    have hnt: ∀ x∈l,∀ y∈l,∀ z∈l,¬ltT x y-> ¬ltT y z-> ¬ltT x z:=fun x hx y hy z hz=>ltT_nt (hl8 x hx) (hl8 y hy) (hl8 z hz)
    simp -dsimp(disch:=omega) only[replicate,rules]
    refine dw (by kernel_rfl) ?_
    simp -dsimp(disch:=omega) only[↓reduceIte,ru]
    refine bd_ ?_ ?_
    ·intro h3 h4
     obtain⟨p,rfl⟩: ∃ p,j=p+1:=⟨j - 1,by omega⟩
     have hp1:(((p+1:Nat):Int) - 1)=(p:Int):=by omega
     have m1:=getD_memT (ts:=l) (i:=p+1) (by omega)
     have m2:=getD_memT (ts:=l) (i:=p) (by omega)
     have hden:=hcmp _ (hperm.mem_iff.1 m1) _ (hperm.mem_iff.1 m2)
     have r1:=rowsT_getD (ts:=l) (i:=p+1) (by omega)
     have r2:=rowsT_getD (ts:=l) (i:=p) (by omega)
     have lx:=hl8 _ m1
     have ly:=hl8 _ m2
     have hlt:ltT (l.getD (p+1) rt0) (l.getD p rt0)↔ -(cmpM (l.getD (p+1) rt0).1 (l.getD p rt0).1)<0:=by
      unfold ltT;rw[<-cmpM_gt];omega
     have hsw:((rowsT l).set (p+1) (tmF (l.getD p rt0))).set p (tmF (l.getD (p+1) rt0))=rowsT (swapG rt0 l (p+1)):=by
      rw[rowsT_set,rowsT_set];unfold swapG;rw[Nat.add_sub_cancel]
     have r3:((rowsT l).set (p+1) (tmF (l.getD p rt0))).getD p []=tmF (l.getD p rt0):=by
      rw[qa,qm (by omega),<-qa,r2]
     have hswap:=fun h=>srtG_swap rt0 ltT ltT_asym (ls:=l) (i:=i) (j:=p+1) (by omega) hj (by omega) hsrt h
     have hdone:=fun h=>srtG_done rt0 ltT (ls:=l) hnt (i:=i) (j:=p+1) (by omega) hj hsrt h
     have hsp:=swapG_perm rt0 (ls:=l) (j:=p+1) (by omega) (by omega)
     rw[Nat.add_sub_cancel] at hswap hdone
     obtain⟨x,hxx⟩:=ex1 (l.getD (p+1) rt0)
     obtain⟨y,hyy⟩: ∃ x,l.getD p rt0=x:=⟨_,rfl⟩
     rw[hxx] at hden r1 lx hlt hsw hswap hdone
     rw[hyy] at hden r2 r3 ly hlt hsw hswap hdone
     have rl:=rowsT_length l
     have x11:=tmF_take11 lx
     have y11:=tmF_take11 ly
     have fx:=tmF_length lx
     have fy:=tmF_length ly
     have dx:=tmF_drop11 lx
     have dy:=tmF_drop11 ly
     have gx:=tmC_length lx
     have gy:=tmC_length ly
     obtain⟨z,hz⟩:=ex1 (-(cmpM x.1 y.1))
     rw[hz] at hden hlt
     simp -dsimp(disch:=omega) only[h4,hp1,r1,r2,x11,y11,tmF_fv,rl,hv,fx,fy,↓reduceIte,reduceLeDiff,ru]
     repeat refine qy (by omega) ?_
     refine gp hden (by simp[fzAs,fzA,fzs_tmC,tmF_fv,fzs,fz0]) ?_
     simp -dsimp(disch:=omega) only[ids_tmC,↓reduceIte,ru]
     refine bd_ ?_ ?_
     ·intro h5 h6
      simp -dsimp(disch:=omega) only[h6,rules]
      refine dw (by kernel_rfl) ?_
      simp -dsimp(disch:=omega) only[hp1,r1,r2,r3,x11,y11,tmF_fv,rl,fx,fy,gx,gy,dx,dy,hsw,length_set,fzs_tmC,ids_tmC,append_nil,↓reduceIte,reduceLT,reduceLeDiff,ru]
      repeat refine qy (by omega) ?_
      refine ap (p,swapG rt0 l (p+1)) (by dsimp only;omega) ?_ ⟨by omega,hsp.trans hperm,hswap (hlt.2 h5)⟩
      refine wk [0] (by simp) rfl ?_ ?_
      ·simp[leVs,leV,le1]
      ·simp[leH,leO]
     ·intro h5 h6
      have hd:=hdone (Or.inr (fun h=>h5 (hlt.1 h)))
      simp -dsimp(disch:=omega) only[h6,↓reduceIte,Nat.reduceBEq,ru]
      refine ap (i+1,l) (by dsimp only;omega) ?_ ⟨by omega,by omega,hperm,fun p q h7 h8 h9=>hd p q h7 (by omega)⟩
      refine wk [0] (by simp) rfl ?_ ?_
      ·simp[leVs,leV,le1]
      ·simp[leH,leO]
    ·intro h3 h4
     have hd:=srtG_done rt0 ltT (ls:=l) hnt (i:=i) (j:=j) (by omega) hj hsrt (Or.inl (by omega))
     simp -dsimp(disch:=omega) only[h4,↓reduceIte,Nat.reduceBEq,ru]
     refine ap (i+1,l) (by dsimp only;omega) ?_ ⟨by omega,by omega,hperm,fun p q h7 h8 h9=>hd p q h7 (by omega)⟩
     refine wk [0] (by simp) rfl ?_ ?_
     ·simp[leVs,leV,le1]
     ·simp[leH,leO]
  ·intro h1 h2
   have hpw:l.Pairwise (fun a b=>¬ltT b a):=pairwise_getD rt0 ltT (fun p q h3 h4=>hord p q h3 (by omega) (by omega))
   simp -dsimp(disch:=omega) only[h2,rules,Nat.reduceBEq]
   exact⟨[.row true (rowsT l)],.tup [],⟨l,rfl,rfl,hperm,hpw⟩,rl_ (cd:=True) (vs:=[]) rfl trivial rfl trivial rfl rfl rfl⟩
theorem iq206 (V:PV) (ls ls':List RT) (lim:Int) (hn:ls.length<=12) (h:Den Tryz.prog 236 [.row true (rowsT ls)] [.lsl 0 0 ls.length 11,.int .i64 0,.int .i64 ls.length,V] [.row true (rowsT ls')] (.tup [])) (hV: ∃ v g,V=mV g v):
 Den Tryz.prog 206 [.row true (rowsT ls)] [.lsl 0 0 ls.length 11,.int .i64 0,.int .i64 ls.length,.int .i64 lim,V] [.row true (rowsT ls')] (.tup []):=by
 obtain⟨v,g,rfl⟩:=hV
 obtain⟨n,hnn⟩:=ex1 (ls.length)
 rw[hnn] at h hn ⊢
 have e1:decide ((n:Int) - 0<=12)=true:=qbb (by omega)
 refine den_of tabOk mixed Tryz.func206 (cd:=_) rfl (by decide) rfl (n:=143) rfl rfl (m:=1) rfl ?_
 simp -dsimp(disch:=omega) only[replicate,rules]
 refine wl (α:=Unit) (fun _=>⟨[.lsl 0 0 n 11,.int .i64 0,.int .i64 n,.int .i64 lim,mV g v,.any,.any,.any,.any,.any,.bool true,.bool true]++replicate 136 .any,[.row true (rowsT ls)]⟩)
  (fun _=>0) (fun _=>True) () ?_ trivial ?_
 ·refine wk [0] (by simp) rfl ?_ ?_
  ·simp[leVs,leV,le1]
  ·simp[leH,leO]
 ·rintro⟨⟩ _
  simp -dsimp(disch:=omega) only[replicate,e1,↓reduceIte,ru]
  refine gl_ 0 h rfl rfl trivial rfl rfl rfl ?_
  simp -dsimp(disch:=omega) only[append_nil,ru]
  exact rl_ (cd:=True) (vs:=[]) rfl trivial rfl trivial rfl rfl rfl
def sortMax:Nat:=12
theorem iq169 (g:Nat) (v:Value) (u:FV) (hv:PV.ofValue v= .agg [.fv u]) (ls:List RT) (hl: ∀ t∈ls,t.1.length=8) (hn:ls.length<=sortMax)
 (hcmp: ∀ s∈ls,∀ t∈ls,Den Tryz.prog g [] [.agg [.fv u],.agg (tmC s),.agg (tmC t)] [] (.int .i64 (-(cmpM s.1 t.1)))):
 ∃ ls',ls'.Perm ls/\ls'.Pairwise (fun a b=>¬ltT b a)/\Den Tryz.prog 169 [.row true (rowsT ls)] [.lsl 0 0 ls.length 11,mV g v] [.row true (rowsT ls')] (.tup []):=by
 unfold sortMax at hn
 obtain⟨H1,res,⟨ls',rfl,rfl,hp,hs⟩,h⟩:=iq236 g v u hv ls hl (by omega) hcmp
 refine⟨ls',hp,hs,?_⟩
 have h2:=iq206 (mV g v) ls ls' (blen ls.length:Int) hn h ⟨v,g,rfl⟩
 obtain⟨n,hnn⟩:=ex1 (ls.length)
 rw[hnn] at h2 hn ⊢
 refine den_of tabOk mixed Tryz.func169 (cd:=_) rfl (by decide) rfl (n:=12) rfl rfl (m:=1) rfl ?_
 simp -dsimp(disch:=omega) only[replicate,ru]
 refine gp (pd118 n (by omega)) rfl ?_
 simp -dsimp(disch:=omega) only[rules]
 refine gl_ 0 h2 rfl rfl trivial rfl rfl rfl ?_
 simp -dsimp(disch:=omega) only[append_nil,ru]
 exact rl_ (cd:=True) (vs:=[]) rfl trivial rfl trivial rfl rfl rfl
theorem validM_drop {m:List Int} {i:Nat} (h:i<m.length):validM (m.drop i)=(decide (0<=m.getD i 0)&&decide (m.getD i 0<=1024)&&validM (m.drop (i+1))):=by
 rw[drop_eq_getElem_cons h,qa,qb h];rfl
theorem validB_drop {ts:List RT} {i:Nat} (h:i<ts.length):validB (ts.drop i)=(validM (ts.getD i rt0).1&&validB (ts.drop (i+1))):=by
 rw[drop_eq_getElem_cons h,qa,qb h];rfl
theorem iq118 (ts:List RT) (hl: ∀ t∈ts,t.1.length=8) (hn:ts.length<=1000000000000):Den Tryz.prog 118 [] [PL ts] [] (.bool (validB ts)):=by
 have rl:=rowsT_length ts;obtain⟨n,hnn⟩:=ex1 (ts.length);rw[hnn] at rl hn;obtain⟨R,hR⟩:=ex1 (validB ts);rw[hR];refine den_of tabOk mixed Tryz.func118 (cd:=_) rfl (by decide) rfl (n:=25) rfl rfl (m:=0) rfl ?_;simp -dsimp(disch:=omega) only[replicate,rl,ru];refine wl (α:=Nat) (fun i=>⟨[PL ts,.any,.any,.any,.any,.any,.any,PL ts,.int .i64 n,.int .i64 i]++replicate 16 .any,[]⟩) (fun i=>n - i) (fun i=>i<=n/\validB (ts.drop i)=R) 0 ?_ ?_ ?_
 ·refine wk [] (by simp) rfl ?_ ?_
  ·simp[leVs,leV,le1]
  ·simp[leH]
 ·exact⟨qsq _,hR⟩
 ·rintro i ⟨hi,hv⟩;simp -dsimp(disch:=omega) only[replicate,↓reduceIte,ru];refine bd_ ?_ ?_
  ·intro h1 h2;have r1:=rowsT_getD (ts:=ts) (i:=i) (by omega);have hm:=hl _ (getD_memT (ts:=ts) (i:=i) (by omega));have hd:=validB_drop (ts:=ts) (i:=i) (by omega);obtain⟨t,ht⟩:=ex1 (ts.getD i rt0);rw[ht] at r1 hm hd;rw[hv] at hd;have t11:=tmF_take11 hm;have fl:=tmF_length hm;have c8:=tmC_take8 hm;have cl:=tmC_length hm;have ml:=mC_length t.1;rw[hm] at ml;simp -dsimp(disch:=omega) only[h2,r1,t11,tmF_fv,fl,c8,cl,rl,append_nil,↓reduceIte,reduceAdd,reduceLT,reduceLeDiff,ru]
   repeat refine qy (by omega) ?_
   refine wl (α:=Nat) (fun k=>⟨[PL ts,.any,.any,.any,.any,.any,.any,PL ts,.int .i64 n,.int .i64 i,.any,.any,.any,.any,.agg (mC t.1),.int .i64 k]++replicate 10 .any,[]⟩) (fun k=>8 - k) (fun k=>k<=8/\validM (t.1.drop k)=validM t.1) 0 ?_ ?_ ?_
   ·refine wk [] (by simp) rfl ?_ ?_
    ·simp[leVs,leV,le1,le_mC]
    ·simp[leH]
   ·exact⟨qsq _,rfl⟩
   ·rintro k ⟨hk,hvm⟩;simp -dsimp(disch:=omega) only[replicate,↓reduceIte,ru];refine bd_ ?_ ?_
    ·intro h3 h4;have hat:=mC_at (m:=t.1) (i:=k) (by omega);have hdm:=validM_drop (m:=t.1) (i:=k) (by omega);obtain⟨x,hx⟩:=ex1 (t.1.getD k 0);rw[hx] at hat hdm;rw[hvm] at hdm;simp -dsimp(disch:=omega) only[h4,hat,ml,Nat.mul_one,↓reduceIte,reduceLeDiff,ru]
     repeat refine qy (by omega) ?_
     by_cases hx0:x<0
     ·have e1:decide (x<0)=true:=qbb hx0;have hRf:R=false:=by rw[hd,hdm,qcb (show¬0<=x by omega)];rfl
      rw[hRf];simp -dsimp(disch:=omega) only[e1,↓reduceIte,ru];refine rpq rfl ⟨tvq,tvq⟩ rfl
     ·have e1:decide (x<0)=false:=qcb hx0;by_cases hx1:1024<x
      ·have e2:decide (x>1024)=true:=qbb hx1;have hRf:R=false:=by rw[hd,hdm,qcb (show¬x<=1024 by omega)];simp
       rw[hRf];simp -dsimp(disch:=omega) only[e1,e2,↓reduceIte,ru];refine rpq rfl ⟨tvq,tvq⟩ rfl
      ·have e2:decide (x>1024)=false:=qcb hx1;rw[qbb (show 0<=x by omega),qbb (show x<=1024 by omega)] at hdm;simp -dsimp(disch:=omega) only[e1,e2,↓reduceIte,ru];refine ap (k+1) (by omega) ?_ ⟨by omega,by rw[hdm];rfl⟩;refine wk [] (by simp) rfl ?_ ?_
       ·simp[leVs,leV,le1,le_mC]
       ·simp[leH]
    ·intro h3 h4;have hvt:validM t.1=true:=by rw[<-hvm,List.drop_of_length_le (by omega)];rfl
     rw[hvt] at hd;simp -dsimp(disch:=omega) only[h4,↓reduceIte,Nat.reduceBEq,ru];refine ap (i+1) (by omega) ?_ ⟨by omega,by rw[hd];rfl⟩;refine wk [] (by simp) rfl ?_ ?_
     ·simp[leVs,leV,le1]
     ·simp[leH]
  ·intro h1 h2;have hRt:R=true:=by rw[<-hv,List.drop_of_length_le (by omega)];rfl
   rw[hRt];simp -dsimp(disch:=omega) only[h2,Nat.reduceBEq,ru];refine rpq rfl ⟨tvq,tvq⟩ rfl
def tabE (acc:List Tm):List (List Int×PV):=acc.map (fun t=>(t.1,PV.agg (cn t.2).c))
def curR (acc:List Tm) (m:Mn):Raw:=match accF acc m with | some q=>cn q | none=>rz
theorem tabFind_E: ∀ (acc:List Tm) (m:Mn),tabFind (tabE acc) m=(accF acc m).map (fun q=>PV.agg (cn q).c)
 | [],m=>rfl
 | t::acc,m=>by
  have ih:=tabFind_E acc m;unfold tabFind tabE accF at ih ⊢;by_cases h:t.1=m
  ·rw[List.map_cons,List.find?_cons_of_pos (by simpa using h),List.find?_cons_of_pos (by simpa using h)];rfl
  ·rw[List.map_cons,List.find?_cons_of_neg (by simpa using h),List.find?_cons_of_neg (by simpa using h)];exact ih
theorem tabGet_E (acc:List Tm) (m:Mn):(tabFind (tabE acc) m).getD (.agg [.bool false,.fv (.sl []),.fv (.sl [])])= .agg (curR acc m).c:=by
 rw[tabFind_E];unfold curR;cases accF acc m<;>rfl
theorem tabIs_E (acc:List Tm) (m:Mn):(tabFind (tabE acc) m).isSome=decide (m∈acc.map (·.1)):=by
 rw[tabFind_E];have h:=accF_none (a:=acc) (m:=m);cases hf:accF acc m with
 | none=>rw[qcb (h.1 hf)];rfl
 | some q=>
  rw[qbb (by
   cases hd:decide (m∈acc.map (·.1)) with
   | true=>exact of_decide_eq_true hd
   | false=>rw[h.2 (of_decide_eq_false hd)] at hf;cases hf)]
  rfl
theorem curR_q (acc:List Tm) (m:Mn):(curR acc m).q=(accF acc m).getD 0:=by
 unfold curR;cases accF acc m with
 | none=>exact rz_q'
 | some q=>exact cn_q q
theorem tabPut_E: ∀ (acc:List Tm) (m:Mn) (q:Rat),tabPut (tabE acc) m (.agg (cn ((curR acc m).q+q)).c)=tabE (accAdd acc m q)
 | [],m,q=>by
  rw[curR_q];show [(m,PV.agg (cn (0+q)).c)]=[(m,PV.agg (cn q).c)];rw[show(0:Rat)+q=q by grind]
 | t::acc,m,q=>by
  have ih:=tabPut_E acc m q;rw[curR_q] at ih ⊢;unfold accAdd;by_cases h:t.1=m
  ·have h1:accF (t::acc) m=some t.2:=by
    unfold accF;rw[List.find?_cons_of_pos (by simpa using h)];rfl
   rw[h1,if_pos h];show(if(t.1==m)=true then(m,PV.agg (cn (t.2+q)).c)::tabE acc else _)=_;rw[if_pos (by simpa using h)];rfl
  ·have h1:accF (t::acc) m=accF acc m:=by
    unfold accF;rw[List.find?_cons_of_neg (by simpa using h)]
   rw[h1,if_neg h];show(if(t.1==m)=true then _ else(t.1,PV.agg (cn t.2).c)::tabPut (tabE acc) m _)=_;rw[if_neg (by simpa using h),ih];rfl
theorem accF_mem {acc:List Tm} {m:Mn} {q:Rat} (h:accF acc m=some q):(m,q)∈acc:=by
 unfold accF at h;rw[Option.map_eq_some_iff] at h;obtain⟨t,ht,rfl⟩:=h;have h1:=List.find?_some ht;have h2:=List.mem_of_find?_eq_some ht;have h3:t.1=m:=of_decide_eq_true h1;rw[<-h3];exact h2
theorem rz_okk (k:Nat):rz.Ok k:=⟨fun d hd=>by simp[rz] at hd,fun d hd=>by simp[rz] at hd,by simp[rz],by simp[rz]⟩
theorem curR_ok {acc:List Tm} {k:Nat} (h: ∀ t∈acc,Bd k t.2) (m:Mn):(curR acc m).Ok k:=by
 unfold curR;cases hf:accF acc m with
 | none=>exact rz_okk k
 | some q=>exact cn_ok (h _ (accF_mem hf))
theorem tq_tn (t:Tm):tq (tn t)=t:=by
 unfold tq tn;rw[cn_q]
theorem map_tq_tn (ts:List Tm):(ts.map tn).map tq=ts:=by
 rw[List.map_map]
 conv=>rhs;rw[<-List.map_id ts]
 exact List.map_congr_left (fun t _=>tq_tn t)
theorem shB2 {H:List Ob} {id off n s:Nat} {v:FV}:shutBs H id [.lsl id off n s,.fv v]=H:=by simp[shutBs,idsB,shutIds,idsA,ids1,ids0]
theorem iq119 (ts:List RT) (h8:TsOk 1000000000 ts) (hb:PB 1000000000 (ts.map tq)) (hn:ts.length<=10000000000) (hs:(nf (ts.map tq)).length<=sortMax):
 Den Tryz.prog 119 [] [PL ts] [] (PL ((nf (ts.map tq)).map tn)):=by
 have rl:=rowsT_length ts
 obtain⟨n,hnn⟩:=ex1 (ts.length)
 rw[hnn] at rl hn
 obtain⟨T,hT⟩:=ex1 (ts.map tq)
 have hTl:T.length=n:=by rw[<-hT,length_map,hnn]
 have hT8:Len8 T:=fun t ht=>by
  rw[<-hT] at ht;obtain⟨u,hu,rfl⟩:=mem_map.1 ht;exact(h8 u hu).len
 have hTrng: ∀ t∈T,∀ x∈t.1,-1000000000000<=x/\x<=1000000000000:=fun t ht=>by
  rw[<-hT] at ht;obtain⟨u,hu,rfl⟩:=mem_map.1 ht;exact(h8 u hu).rng
 rw[hT] at hb hs ⊢
 refine den_of tabOk mixed Tryz.func119 (cd:=_) rfl (by decide) rfl (n:=68) rfl rfl (m:=0) rfl ?_
 simp -dsimp(disch:=omega) only[replicate,rl,ru]
 refine wl (α:=Nat) (fun i=>⟨[PL ts,.any,.any,.tab 0,.lsl 1 0 (accL (T.take i)).length 8,.any,.any,.any,.any,.any,.any,.any,.any,PL ts,.int .i64 n,.int .i64 i]++replicate 53 .any,[.tab 8 (tabE (accL (T.take i))),.row true (rowsM ((accL (T.take i)).map (·.1)))]⟩) (fun i=>n - i) (fun i=>i<=n) 0 ?_ (qsq _) ?_
 ·refine Weak.nil 4 8 (by decide) rfl ?_
  refine wk [0,1] (by simp) rfl ?_ ?_
  ·simp[leVs,leV,le1]
   simp[accL]
  ·simp[leH,leO]
   simp[accL,tabE,rowsM]
 ·rintro i hi
  have hkl:(accL (T.take i)).length<=i:=by
   have:=accL_len (T.take i);rw[length_take] at this;omega
  obtain⟨acc,hacc⟩:=ex1 (accL (T.take i))
  have hbA: ∀ t∈acc,Bd 1000000000 t.2:=by rw[<-hacc];exact((hb.take i).accL).bd (by decide)
  rw[hacc] at hkl ⊢
  obtain⟨K,hK⟩:=ex1 (acc.length)
  have rm:=rowsM_length (acc.map (·.1))
  rw[length_map,hK] at rm
  have tkm:=take_rowsM (ms:=acc.map (·.1)) (n:=K) (by rw[length_map];omega)
  rw[hK] at hkl ⊢
  simp -dsimp(disch:=omega) only[replicate,↓reduceIte,ru]
  refine bd_ ?_ ?_
  ·intro h1 h2
   have r1:=rowsT_getD (ts:=ts) (i:=i) (by omega)
   have hmem:=getD_memT (ts:=ts) (i:=i) (by omega)
   have hok:=h8 _ hmem
   have hsn:T.take (i+1)=T.take i++[tq (ts.getD i rt0)]:=by
    rw[List.take_add_one,<-hT,List.getElem?_map,qa,qb (by omega)];rfl
   obtain⟨t,ht⟩:=ex1 (ts.getD i rt0)
   rw[ht] at r1 hok hsn
   have hac:=accL_snoc (T.take i) (tq t)
   rw[<-hsn,hacc] at hac
   change accL (T.take (i+1))=accAdd acc t.1 t.2.q at hac
   have hm:=hok.len
   have hrg:=hok.rng
   have hky:=accAdd_keys acc t.1 t.2.q
   have hlen:=congrArg List.length hky
   rw[length_map] at hlen
   have t11:=tmF_take11 hm
   have fl:=tmF_length hm
   have c8:=tmC_take8 hm
   have cl:=tmC_length hm
   have ml:=mC_length t.1
   rw[hm] at ml
   have m8:=monoF_take hm
   have mfl:=monoF_length t.1
   rw[hm] at mfl
   have cc:=tmC_coef hm
   have h51:=den51 (curR acc t.1) t.2 (curR_ok hbA t.1) hok.raw
   change Den Tryz.prog 69 [] [.agg (curR acc t.1).c,.agg t.2.c] [] (.agg (cn ((curR acc t.1).q+t.2.q)).c) at h51
   have hput:=tabPut_E acc t.1 t.2.q
   have hget:=tabGet_E acc t.1
   have his:=tabIs_E acc t.1
   obtain⟨cur,hcur⟩: ∃ r,curR acc t.1=r:=⟨_,rfl⟩
   obtain⟨sm,hsm⟩: ∃ r,cn (cur.q+t.2.q)=r:=⟨_,rfl⟩
   rw[hcur] at h51 hput hget
   rw[hsm] at h51 hput
   have hbnd:(∀ x∈t.1,-9223372036854775808<=x/\x<9223372036854775808):=fun x hx=>by have:=hrg x hx;omega
   by_cases hk:t.1∈acc.map (·.1)
   ·rw[qbb hk] at his
    rw[if_pos hk] at hky hlen
    simp -dsimp(disch:=omega) only[h2,r1,t11,tmF_fv,fl,c8,cl,rl,append_nil,hm,hget,his,c_length,Bool.not_true,↓reduceIte,reduceAdd,reduceLT,reduceLeDiff,ru]
    repeat refine qy (by omega) ?_
    refine dw (by kernel_rfl) ?_
    simp -dsimp(disch:=omega) only[c8,cl,hm,hget,cc,↓reduceIte,reduceAdd,reduceLeDiff,ru]
    repeat refine qy (by omega) ?_
    refine gp h51 (by simp[fzAs,fzA,fzs_c,f_fv]) ?_
    simp -dsimp(disch:=omega) only[ids_c,append_nil,c_reloc,hput,hm,still_c,↓reduceIte,reduceAdd,ru]
    repeat refine qy (by omega) ?_
    refine ap (i+1) (by omega) ?_ (by omega)
    rw[hac,hlen,length_map,hK,hky]
    refine wk [0,1] (by simp) rfl ?_ ?_
    ·simp[leVs,leV,le1]
    ·simp[leH,leO]
   ·rw[qcb hk] at his
    rw[if_neg hk] at hky hlen
    have hap:=rowsM_snoc (acc.map (·.1)) t.1
    simp -dsimp(disch:=omega) only[h2,r1,t11,tmF_fv,fl,c8,cl,rl,append_nil,hm,hget,his,c_length,Bool.not_false,ml,fzs_mC,ids_mC,m8,rm,tkm,hap,↓reduceIte,reduceAdd,reduceMul,Nat.reduceBEq,reduceLT,reduceLeDiff,ru]
    repeat refine qy (by omega) ?_
    refine dw (by kernel_rfl) ?_
    simp -dsimp(disch:=omega) only[c8,cl,hm,hget,cc,↓reduceIte,reduceAdd,reduceLeDiff,ru]
    repeat refine qy (by omega) ?_
    refine gp h51 (by simp[fzAs,fzA,fzs_c,f_fv]) ?_
    simp -dsimp(disch:=omega) only[ids_c,append_nil,c_reloc,hput,hm,still_c,↓reduceIte,reduceAdd,ru]
    repeat refine qy (by omega) ?_
    refine ap (i+1) (by omega) ?_ (by omega)
    rw[hac,hlen,hky,qe,length_map,hK]
    refine wk [0,5] (by simp) rfl ?_ ?_
    ·simp[leVs,leV,le1]
    ·simp[leH,leO]
  ·intro h1 h2
   have hin:i=n:=by omega
   have hTT:T.take i=T:=qdq (by omega)
   rw[hTT] at hacc
   have hnd:=accL_nodup T
   have hacc8:=accL_len8 hT8
   have haccr: ∀ u∈acc,∀ x∈u.1,-1000000000000<=x/\x<=1000000000000:=fun u hu=>by
    rw[<-hacc] at hu;obtain⟨w,hw,he⟩:=mem_map.1 (accL_key (mem_map.2 ⟨u,hu,rfl⟩));rw[<-he];exact hTrng w hw
   have hkeep:keepL T=acc.filter (fun t=>decide (t.2≠0)):=by unfold keepL;rw[hacc]
   rw[hacc] at hnd hacc8
   have hO:(keepL T).length<=n:=by
    rw[hkeep];have:=List.length_filter_le (fun t:Tm=>decide (t.2≠0)) acc;omega
   simp -dsimp(disch:=omega) only[h2,Nat.reduceBEq,ru]
   refine wl (α:=Nat) (fun j=>⟨[.any,.any,.any,.tab 0,.any,.any,.any,.any,.any,.lsl 2 0 ((acc.take j).filter (fun t=>decide (t.2≠0))).length 11]++replicate 34 .any++[.lsl 1 0 K 8,.int .i64 K,.int .i64 j]++replicate 22 .any,
    [.tab 8 (tabE acc),.row true (rowsM (acc.map (·.1))),.row true (rowsT (((acc.take j).filter (fun t=>decide (t.2≠0))).map tn))]⟩) (fun j=>K - j) (fun j=>j<=K) 0 ?_ (qsq _) ?_
   ·refine Weak.nil 9 11 (by decide) rfl ?_
    refine wk [0,1,2] (by simp) rfl ?_ ?_
    ·simp[leVs,leV,le1]
    ·simp[leH,leO]
     simp[rowsT]
   ·intro j hj
    obtain⟨out,hout⟩: ∃ o,(acc.take j).filter (fun t=>decide (t.2≠0))=o:=⟨_,rfl⟩
    have hol:out.length<=j:=by
     rw[<-hout];have:=List.length_filter_le (fun t:Tm=>decide (t.2≠0)) (acc.take j);rw[length_take] at this;omega
    rw[hout]
    obtain⟨O,hOl⟩:=ex1 (out.length)
    have ro:=rowsT_length (out.map tn)
    rw[length_map,hOl] at ro
    have tko:=take_rowsT (ts:=out.map tn) (n:=O) (by rw[length_map];omega)
    rw[hOl] at hol ⊢
    simp -dsimp(disch:=omega) only[replicate,↓reduceIte,ru]
    refine bd_ ?_ ?_
    ·intro h3 h4
     obtain⟨u,hu⟩: ∃ u,acc[j]?=some u:=⟨acc[j]'(by omega),by simp⟩
     have hju:=List.mem_of_getElem? hu
     have rmg:=rowsM_getD (ms:=acc.map (·.1)) (i:=j) (by rw[length_map];omega)
     have hkj:(acc.map (·.1)).getD j []=u.1:=by rw[qa,List.getElem?_map,hu];rfl
     rw[hkj] at rmg
     have hm:=hacc8 u hju
     have hrg:=haccr u hju
     have hcu:curR acc u.1=cn u.2:=by
      unfold curR;rw[accF_at hnd hu]
     have hget:=tabGet_E acc u.1
     rw[hcu] at hget
     have hrok:=cn_ok (hbA u hju)
     have h36:=den36 (cn u.2) (hrok.mono (by decide))
     rw[cn_q] at h36
     change Den Tryz.prog 84 [] [.agg (cn u.2).c] [] _ at h36
     have htk:acc.take (j+1)=acc.take j++[u]:=by
      rw[List.take_add_one,hu];rfl
     have ml:=mC_length u.1
     rw[hm] at ml
     have mfl:=monoF_length u.1
     rw[hm] at mfl
     have m8:=mC_take hm
     have mf8:=monoF_take hm
     have hbnd:(∀ x∈u.1,-9223372036854775808<=x/\x<9223372036854775808):=fun x hx=>by have:=hrg x hx;omega
     simp -dsimp(disch:=omega) only[h4,rm,rmg,mf8,mfl,monoF_fv,ml,m8,append_nil,hm,hget,↓reduceIte,reduceAdd,reduceLT,reduceLeDiff,ru]
     repeat refine qy (by omega) ?_
     refine gp h36 (by simp[fzAs,fzA,fzs_c,f_fv]) ?_
     simp -dsimp(disch:=omega) only[ids_c,↓reduceIte,reduceAdd,ru]
     refine Br.bneInt ?_ ?_
     ·intro h5 h6
      have hnz:u.2≠0:=fun h=>h5 (sgq_eq_zero.2 h)
      have hout2:(acc.take (j+1)).filter (fun t=>decide (t.2≠0))=out++[u]:=by
       rw[htk,filter_append,hout,List.filter_cons_of_pos (by simpa using hnz)];rfl
      have hap:=rowsT_snoc (out.map tn) (tn u)
      have hmap:(out++[u]).map tn=out.map tn++[tn u]:=by simp
      rw[<-hmap] at hap
      have htn:(tn u).1.length=8:=hm
      have b1:List.take 8 (mC u.1++[PV.bool false,.nilsl,.nilsl])=mC u.1:=by rw[List.take_append_of_le_length (by omega),m8]
      have b2:List.drop 11 (mC u.1++[PV.bool false,.nilsl,.nilsl])=[]:=List.drop_of_length_le (by simp[ml])
      have b3:mC u.1++(cn u.2).c=tmC (tn u):=rfl
      have b4:=tmF_take11 htn
      have b5:=tmC_length htn
      have b6:=tmF_length htn
      have b7:(mC u.1++[PV.bool false,.nilsl,.nilsl]).length=11:=by simp[ml]
      simp -dsimp(disch:=omega) only[h6,rules]
      refine dw (by kernel_rfl) ?_
      simp -dsimp(disch:=omega) only[m8,ml,hm,hget,c_length,b1,b2,b3,b4,b5,b7,append_nil,fzs_tmC,ids_tmC,ro,tko,hap,↓reduceIte,reduceAdd,reduceMul,Nat.reduceBEq,reduceLT,reduceLeDiff,ru]
      repeat refine qy (by omega) ?_
      refine ap (j+1) (by omega) ?_ (by omega)
      rw[hout2,qe,hOl]
      refine wk [0,1,5] (by simp) rfl ?_ ?_
      ·simp[leVs,leV,le1]
      ·simp[leH,leO]
     ·intro h5 h6
      have hz:u.2=0:=sgq_eq_zero.1 h5
      have hout2:(acc.take (j+1)).filter (fun t=>decide (t.2≠0))=out:=by
       rw[htk,filter_append,hout,List.filter_cons_of_neg (by simpa using hz)];simp
      simp -dsimp(disch:=omega) only[h6,↓reduceIte,ru]
      refine ap (j+1) (by omega) ?_ (by omega)
      rw[hout2,hOl]
      refine wk [0,1,2] (by simp) rfl ?_ ?_
      ·simp[leVs,leV,le1]
      ·simp[leH,leO]
    ·intro h3 h4
     have hjk:acc.take j=acc:=qdq (by omega)
     rw[hjk] at hout
     rw[hout] at hkeep
     have hkl2:=keep_len hT8
     rw[hkeep,hOl] at hkl2
     have ho8: ∀ t∈out.map tn,t.1.length=8:=fun t ht=>by
      obtain⟨u,hu,rfl⟩:=mem_map.1 ht;rw[<-hout] at hu;exact hacc8 u (List.mem_filter.1 hu).1
     obtain⟨ls',hp,hso,h169⟩:=iq169 170 (.agg #[.bool true]) (.lit (.bool true)) rfl (out.map tn) ho8 (by rw[length_map];omega) (fun s hs t ht=>iq170 s t (ho8 s hs) (ho8 t ht))
     have hres:ls'=(nf T).map tn:=by
      have h5:(ls'.map tq).Perm (keepL T):=by
       rw[hkeep];have:=hp.map tq;rw[map_tq_tn] at this;exact this
      have h6:(ls'.map tq).Pairwise (fun a b=>gtM b.1 a.1=false):=by
       rw[List.pairwise_map];refine hso.imp ?_;intro a b hab;have: ¬gtM b.1 a.1=true:=hab;exact Bool.eq_false_iff.2 this
      rw[<-sort_nf hT8 h5 h6,List.map_map]
      conv=>lhs;rw[<-List.map_id ls']
      refine List.map_congr_left (fun t ht=>?_);obtain⟨w,_,rfl⟩:=mem_map.1 (hp.mem_iff.1 ht);show tn w=tn (tq (tn w));rw[tq_tn]
     rw[hres] at h169
     have hfl:((nf T).map tn).length=O:=by rw[length_map,<-hkl2]
     have tkf:=take_rowsT (ts:=(nf T).map tn) (n:=O) (by omega)
     have rf:=rowsT_length ((nf T).map tn)
     rw[hfl] at rf
     rw[length_map,hOl] at h169
     have hfa: ∀ cs l (H:List Ob),fz1s H (.agg cs::l)=none:=fun cs l H=>by simp[fz1s,fz1,fz0]
     simp -dsimp(disch:=omega) only[h4,hfa,↓reduceIte,Nat.reduceBEq,reduceLeDiff,ru]
     refine gl_ 2 h169 rfl rfl trivial rfl rfl rfl ?_
     simp -dsimp(disch:=omega) only[append_nil,shB2,reduceAdd,ru]
     refine rpq rfl ⟨tvq,tvq⟩ ?_
     simp(disch:=omega) only[tkf,rf,List.drop_zero,Nat.zero_add,qp,↓reduceIte,idxOf?_nil,St.get,fzX,oneRes,fzV,fzC,fz1,fz0,Option.map_some,qk,getD_cons_zero,List.getElem?_cons_zero,getElem?_cons_succ]
theorem TsOk.l8 {k:Nat} {ts:List RT} (h:TsOk k ts): ∀ t∈ts,t.1.length=8:=fun t ht=>(h t ht).len
theorem iq61 (ts:List RT) (h8:TsOk 1000000000 ts) (hb:PB 1000000000 (ts.map tq)) (hn:ts.length<=10000000000) (hs:(nf (ts.map tq)).length<=sortMax) (hv:validB ts=true):
 Den Tryz.prog 61 [] [PL ts] [] (.tup [PL ((nf (ts.map tq)).map tn),.int .i64 0]):=by
 have h1:=iq118 ts h8.l8 (by omega)
 rw[hv] at h1
 refine den_of tabOk mixed Tryz.func61 (cd:=_) rfl (by decide) rfl (n:=8) rfl rfl (m:=0) rfl ?_
 simp -dsimp(disch:=omega) only[replicate,rules]
 refine gp h1 rfl ?_
 simp -dsimp(disch:=omega) only[Bool.not_true,rules]
 refine gp (iq119 ts h8 hb hn hs) rfl ?_
 simp -dsimp(disch:=omega) only[ru]
 refine rpq rfl ⟨tvq,tvq,tvq⟩ rfl
theorem iq61n (ts:List RT) (h8:TsOk 1000000000 ts) (hn:ts.length<=10000000000) (hv:validB ts=false):
 Den Tryz.prog 61 [] [PL ts] [] (.tup [.fv (.sl []),.int .i64 2]):=by
 have h1:=iq118 ts h8.l8 (by omega)
 rw[hv] at h1
 refine den_of tabOk mixed Tryz.func61 (cd:=_) rfl (by decide) rfl (n:=8) rfl rfl (m:=0) rfl ?_
 simp -dsimp(disch:=omega) only[replicate,rules]
 refine gp h1 rfl ?_
 simp -dsimp(disch:=omega) only[Bool.not_false,ru]
 refine rpq rfl ⟨tvq,tvq,tvq⟩ rfl
def z8:List Int:=replicate 8 0
theorem z8_length:z8.length=8:=rfl
theorem z8_c (r:Raw):PV.int .i64 0::PV.int .i64 0::PV.int .i64 0::PV.int .i64 0::PV.int .i64 0::PV.int .i64 0::PV.int .i64 0::PV.int .i64 0::r.c=tmC (z8,r):=rfl
def formT (rs:List Raw) (i:Nat):List RT:=(List.range i).map (fun j=>(z8.set j 1,rs.getD j rz))
def polyR (rs:List Raw):List RT:=formT rs 8++[(z8,rs.getD 8 rz)]
theorem formT_succ (rs:List Raw) (i:Nat):formT rs (i+1)=formT rs i++[(z8.set i 1,rs.getD i rz)]:=by
 unfold formT;rw[List.range_succ,qwb];rfl
theorem formT_length (rs:List Raw) (i:Nat):(formT rs i).length=i:=by simp[formT]
theorem set_rng {m:List Int} {i:Nat} {x:Int} (h: ∀ y∈m,-1000000000000<=y/\y<=1000000000000) (hx: -1000000000000<=x/\x<=1000000000000): ∀ y∈m.set i x,-1000000000000<=y/\y<=1000000000000:=fun y hy=>by
 rcases mem_or_eq_of_mem_set hy with h1 | h1
 ·exact h y h1
 ·rw[h1];exact hx
theorem z8_rng: ∀ y∈z8,-1000000000000<=y/\y<=(1000000000000:Int):=fun y hy=>by
 rw[eq_of_mem_replicate hy];omega
theorem polyR_ok {k:Nat} {rs:List Raw} (h:LOk k rs):TsOk k (polyR rs):=by
 intro t ht;unfold polyR at ht;rcases List.mem_append.1 ht with ht | ht
 ·obtain⟨j,_,rfl⟩:=mem_map.1 ht;exact⟨by simp[z8],set_rng z8_rng (by omega),h.at j⟩
 ·rw[qz] at ht;subst ht;exact⟨rfl,z8_rng,h.at 8⟩
theorem polyR_valid (rs:List Raw):validB (polyR rs)=true:=by
 unfold validB;rw[qob];intro t ht;have hz: ∀ y∈t.1,y=0\/y=1:=by
  unfold polyR at ht;rcases List.mem_append.1 ht with ht | ht
  ·obtain⟨j,_,rfl⟩:=mem_map.1 ht;intro y hy;rcases mem_or_eq_of_mem_set hy with h1 | h1
   ·exact .inl (eq_of_mem_replicate h1)
   ·exact .inr h1
  ·rw[qz] at ht;subst ht;intro y hy;exact .inl (eq_of_mem_replicate hy)
 unfold validM;rw[qob];intro y hy;rcases hz y hy with h | h<;>rw[h]<;>rfl
theorem polyR_length (rs:List Raw):(polyR rs).length=9:=by simp[polyR,formT_length]
theorem flat_coefs {rs:List Raw} {i:Nat} (h:i<8) (hl:rs.length=9):List.take 3 (List.drop (i*3) (List.take 24 (flat rs)))=(rs.getD i rz).c:=by
 have h1:=flat_at (rs:=rs) (i:=i) (by omega);rw[List.drop_take,List.take_take,Nat.min_eq_left (by omega)];exact h1
theorem flat_last {rs:List Raw} (hl:rs.length=9):List.take 3 (List.drop 24 (flat rs))=(rs.getD 8 rz).c:=by
 have h1:=flat_at (rs:=rs) (i:=8) (by omega);exact h1
theorem le_tk (ids:List Nat): ∀ (n:Nat) (a:List PV),le1s ids a a->le1s ids (a.take n) (a.take n)
 | 0,a,_=>by simp[le1s]
 | n+1,[],_=>by simp[le1s]
 | n+1,x::a,h=>⟨h.1,le_tk ids n a h.2⟩
theorem le_tkflat (ids:List Nat) (n:Nat) (rs:List Raw):le1s ids ((flat rs).take n) ((flat rs).take n):=le_tk ids n _ (le_flat ids rs)
def polyT (rs:List Raw):List Tm:=nf ((polyR rs).map tq)
theorem iq18 (rs:List Raw) (h:LOk 10000000 rs):Den Tryz.prog 18 [] [RL rs] [] (PL ((polyT rs).map tn)):=by
 have hl:=h.len;have hok:TsOk 1000000000 (polyR rs):=fun t ht=>(polyR_ok h t ht).mono (by decide)
 have hb:PB 1000000000 ((polyR rs).map tq):=by
  refine(PB.list (k:=10000000) (by decide) (fun t ht=>?_)).mono ?_
  ·obtain⟨u,hu,rfl⟩:=mem_map.1 ht;exact(polyR_ok h u hu).raw.bd (by decide)
  ·rw[length_map,polyR_length];decide
 have h61:=iq61 (polyR rs) hok hb (by rw[polyR_length];decide) (qnb (nf_len _) (by rw[length_map,polyR_length];decide)) (polyR_valid rs);unfold RL;have fl:=flat_length rs;rw[hl] at fl;have pl9:=rowsT_length (polyR rs);rw[polyR_length] at pl9;have tk9:=take_rowsT (ts:=polyR rs) (n:=9) (by rw[polyR_length];omega);change Den Tryz.prog 61 [] [PL (polyR rs)] [] (.tup [PL ((polyT rs).map tn),.int .i64 0]) at h61;obtain⟨Q,hQ⟩:=ex1 ((polyT rs).map tn);rw[hQ] at h61 ⊢;refine den_of tabOk mixed Tryz.func18 (cd:=_) rfl (by decide) rfl (n:=35) rfl rfl (m:=0) rfl ?_;simp -dsimp(disch:=omega) only[replicate,fl,↓reduceIte,reduceMul,reduceLT,reduceLeDiff,ru]
 repeat refine qy (by omega) ?_
 refine wl (α:=Nat) (fun i=>⟨[.any,.ptr 0 0 0,.any,.lsl 1 0 i 11,.any,.any,.any,.any,.any,.any,.agg (List.take 24 (flat rs)),.int .i64 i]++replicate 24 .any,[.box true (flat rs),.row true (rowsT (formT rs i))]⟩) (fun i=>8 - i) (fun i=>i<=8) 0 ?_ (qsq _) ?_
 ·refine Weak.nil 3 11 (by decide) rfl ?_;refine wk [0,1] (by simp) rfl ?_ ?_
  ·simp[leVs,leV,le1,le_tkflat]
  ·simp[leH,leO,le_flat,formT,rowsT]
 ·intro i hi;have tki:=take_rowsT (ts:=formT rs i) (n:=i) (by rw[formT_length];omega);have rli:=rowsT_length (formT rs i);rw[formT_length] at rli;simp -dsimp(disch:=omega) only[replicate,↓reduceIte,ru];refine bd_ ?_ ?_
  ·intro h1 h2;have fc:=flat_coefs (rs:=rs) (i:=i) (by omega) hl;have fl24:(List.take 24 (flat rs)).length=24:=by rw[length_take,fl];rfl
   have hsn:=formT_succ rs i;obtain⟨r,hr⟩:=ex1 (rs.getD i rz);rw[hr] at fc hsn;have hap:=rowsT_snoc (formT rs i) (z8.set i 1,r);rw[<-hsn] at hap;have hput:=tmC_put (t:=(z8,r)) (i:=i) (x:=1) (by omega) z8_length;have t1:((z8.set i 1,r):RT).1.length=8:=by simp[z8]
   have t0:((z8,r):RT).1.length=8:=z8_length;have c11:=tmC_take11 t1;have f11:=tmF_take11 t1;have cl:=tmC_length t1;have cl0:=tmC_length t0;have fl1:=tmF_length t1;simp -dsimp(disch:=omega) only[h2,fc,fl24,c_length,c_take,z8_c,append_nil,cl0,cl,hput,c11,f11,fzs_tmC,ids_tmC,tki,rli,hap,Nat.mul_one,Nat.zero_add,↓reduceIte,reduceAdd,reduceMul,Nat.reduceBEq,reduceLT,reduceLeDiff,ru]
   repeat refine qy (by omega) ?_
   refine ap (i+1) (by omega) ?_ (by omega);refine wk [0,5] (by simp) rfl ?_ ?_
   ·simp[leVs,leV,le1,le_tkflat]
   ·simp[leH,leO,le_flat]
  ·intro h1 h2;have hi8:i=8:=by omega
   subst hi8;have hap:=rowsT_snoc (formT rs 8) (z8,rs.getD 8 rz);change rowsT (formT rs 8)++[tmF (z8,rs.getD 8 rz)]=rowsT (polyR rs) at hap;have fc:=flat_last hl;obtain⟨r,hr⟩:=ex1 (rs.getD 8 rz);rw[hr] at fc hap;have t0:((z8,r):RT).1.length=8:=z8_length;have f11:=tmF_take11 t0;have fl1:=tmF_length t0;have cl0:=tmC_length t0;simp -dsimp(disch:=omega) only[h2,fl,fc,cl0,c_length,z8_c,append_nil,f11,fzs_tmC,ids_tmC,tki,rli,hap,↓reduceIte,reduceAdd,reduceMul,Nat.reduceBEq,reduceLT,reduceLeDiff,ru]
   repeat refine qy (by omega) ?_
   refine gp h61 (by simp[fzAs,fzA,fz1,fz0,tk9,pl9]) ?_;simp -dsimp(disch:=omega) only[reduceAdd,ru];refine rpq rfl ⟨tvq,tvq⟩ rfl
theorem gtM_drop {a b:List Int} {i:Nat} (ha:i<a.length) (hb:i<b.length):gtM (a.drop i) (b.drop i)=if a.getD i 0=b.getD i 0 then gtM (a.drop (i+1)) (b.drop (i+1)) else decide (a.getD i 0>b.getD i 0):=by
 rw[drop_eq_getElem_cons ha,drop_eq_getElem_cons hb,gtM,qa,qa,qb ha,qb hb];rfl
theorem iq153 (a b:List Int) (ha:a.length=8) (hb:b.length=8):Den Tryz.prog 153 [] [.agg (mC a),.agg (mC b)] [] (.bool (gtM a b)):=by
 have la:=mC_length a;have lb:=mC_length b;rw[ha] at la;rw[hb] at lb;obtain⟨R,hR⟩:=ex1 (gtM a b);rw[hR];refine den_of tabOk mixed Tryz.func153 (cd:=_) rfl (by decide) rfl (n:=22) rfl rfl (m:=0) rfl ?_;simp -dsimp(disch:=omega) only[replicate,la,lb,reduceLT,ru]
 repeat refine qy (by omega) ?_
 refine wl (α:=Nat) (fun i=>⟨[.any,.any,.ptr 0 0 0,.ptr 1 0 0,.any,.int .i64 i]++replicate 18 .any,[.box true (mC a),.box true (mC b)]⟩) (fun i=>8 - i) (fun i=>i<=8/\gtM (a.drop i) (b.drop i)=R) 0 ?_ ?_ ?_
 ·refine wk [0,1] (by simp) rfl ?_ ?_
  ·simp[leVs,leV,le1]
  ·simp[leH,leO,le_mC]
 ·exact⟨qsq _,hR⟩
 ·rintro i ⟨hi,hv⟩;simp -dsimp(disch:=omega) only[replicate,↓reduceIte,ru];refine bd_ ?_ ?_
  ·intro h1 h2;have aa:=mC_at (m:=a) (i:=i) (by omega);have ab:=mC_at (m:=b) (i:=i) (by omega);have hd:=gtM_drop (a:=a) (b:=b) (i:=i) (by omega) (by omega);obtain⟨x,hx⟩:=ex1 (a.getD i 0);obtain⟨y,hy⟩: ∃ x,b.getD i 0=x:=⟨_,rfl⟩;rw[hx] at aa hd;rw[hy] at ab hd;rw[hv] at hd;simp -dsimp(disch:=omega) only[h2,rules];refine dw (by kernel_rfl) ?_;simp -dsimp(disch:=omega) only[aa,ab,la,lb,Nat.mul_one,Nat.zero_add,↓reduceIte,reduceLT,reduceLeDiff,ru]
   repeat refine qy (by omega) ?_
   refine Br.bneInt ?_ ?_
   ·intro h3 h4;rw[if_neg h3] at hd;rw[hd];simp -dsimp(disch:=omega) only[h4,rules];refine dw (by kernel_rfl) ?_;simp -dsimp(disch:=omega) only[aa,ab,la,lb,Nat.mul_one,Nat.zero_add,↓reduceIte,reduceLT,reduceLeDiff,ru]
    repeat refine qy (by omega) ?_
    refine rpq rfl ⟨tvq,tvq⟩ rfl
   ·intro h3 h4;rw[if_pos h3] at hd;simp -dsimp(disch:=omega) only[h4,↓reduceIte,ru];refine ap (i+1) (by omega) ?_ ⟨by omega,hd.symm⟩;refine wk [0,1] (by simp) rfl ?_ ?_
    ·simp[leVs,leV,le1]
    ·simp[leH,leO,le_mC]
  ·intro h1 h2;have hRf:R=false:=by
    rw[<-hv,List.drop_of_length_le (by omega),List.drop_of_length_le (by omega)];rfl
   rw[hRf];simp -dsimp(disch:=omega) only[h2,Nat.reduceBEq,ru];refine rpq rfl ⟨tvq,tvq⟩ rfl
theorem insT_eq {p:List Tm} {m:Mn} {q:Rat} {k:Nat} (hlow: ∀ i (h:i<p.length),i<k->gtM (p[i]'h).1 m=true) (hhigh: ∀ i (h:i<p.length),k<=i->gtM (p[i]'h).1 m=false) (hk:k<=p.length):
 insT p (m,q)=if _h:k<p.length/\(p.getD k ([],0)).1=m then
  (if q+(p.getD k ([],0)).2=0 then p.take k++p.drop (k+1) else p.take k++[(m,q+(p.getD k ([],0)).2)]++p.drop (k+1)) else
  (if q=0 then p.take k++p.drop k else p.take k++[(m,q)]++p.drop k):=by
 rw[insT_lt (p:=p) (t:=(m,q)) (k:=k) (fun i h hik=>hlow i h hik) hk]
 by_cases hkl:k<p.length
 ·have hx:=hhigh k hkl (qp _)
  have hgd:p.getD k ([],0)=p[k]:=by rw[qa,qb hkl];rfl
  rw[hgd]
  rw[drop_eq_getElem_cons hkl]
  unfold insT
  rw[hx]
  by_cases he:p[k].1=m
  ·rw[dif_pos ⟨hkl,he⟩]
   simp only[he]
   by_cases hz:q+p[k].2=0
   ·simp[hz]
   ·simp[hz]
  ·rw[dif_neg (fun h=>he h.2)]
   simp only[he]
   by_cases hz:q=0
   ·simp[hz]
   ·simp[hz]
 ·rw[dif_neg (fun h=>hkl h.1),List.drop_of_length_le (by omega)]
  unfold insT
  by_cases hz:q=0
  ·simp[hz]
  ·simp[hz]
theorem canon_at {p:List Tm} (h:Canon p) {i j:Nat} (hj:j<p.length) (hij:i<j):gtM (p[i]'(by omega)).1 p[j].1=true:=List.pairwise_iff_getElem.1 h.sorted i j (by omega) hj hij
theorem iq98 (p:List Tm) (t:RT) (hp:Canon p) (hb: ∀ u∈p,Bd 1000000000 u.2) (hok:TOk 1000000000 t) (hn:p.length<=10000000000)
 (hs: ∀ u∈p,u.1=t.1->Bd 1000000000 (t.2.q+u.2)):
 Den Tryz.prog 98 [] [PL (p.map tn),.agg (tmC t)] [] (PL ((insT p (tq t)).map tn)):=by
 have hm:=hok.len
 have cl:=tmC_length hm
 have rl:=rowsT_length (p.map tn)
 have p8: ∀ u∈p.map tn,u.1.length=8:=fun u hu=>by
  obtain⟨w,hw,rfl⟩:=mem_map.1 hu;exact hp.len w hw
 have r11: ∀ y∈rowsT (p.map tn),y.length=11:=fun y hy=>by
  obtain⟨u,hu,rfl⟩:=mem_map.1 hy;exact tmF_length (p8 u hu)
 obtain⟨n,hnn⟩:=ex1 (p.length)
 rw[length_map,hnn] at rl
 rw[hnn] at hn
 have c8:=tmC_take8 hm
 refine den_of tabOk mixed Tryz.func98 (cd:=_) rfl (by decide) rfl (n:=73) rfl rfl (m:=0) rfl ?_
 simp -dsimp(disch:=omega) only[replicate,cl,rl,reduceLT,ru]
 repeat refine qy (by omega) ?_
 refine wl (α:=Nat×Nat) (fun⟨lo,hi⟩=>⟨[PL (p.map tn),.any,.any,.ptr 0 0 0,.any,.int .i64 lo,.int .i64 hi]++replicate 68 .any,[.box true (tmC t)]⟩) (fun⟨lo,hi⟩=>hi - lo)
  (fun⟨lo,hi⟩=>lo<=hi/\hi<=n/\(∀ i (h:i<p.length),i<lo->gtM (p[i]'h).1 t.1=true)/\(∀ i (h:i<p.length),hi<=i->gtM (p[i]'h).1 t.1=false)) (0,n) ?_ ?_ ?_
 ·refine wk [0] (by simp) rfl ?_ ?_
  ·simp[leVs,leV,le1]
  ·simp[leH,leO,le_tmC]
 ·exact⟨qsq _,qp _,fun i _ h=>by omega,fun i h h2=>by omega⟩
 ·rintro⟨lo,hi⟩ ⟨h1,h2,hlo,hhi⟩
  simp -dsimp(disch:=omega) only[replicate,↓reduceIte,ru]
  refine bd_ ?_ ?_
  ·intro h3 h4
   obtain⟨mid,hmid⟩: ∃ m:Nat,(lo+hi) / 2=m:=⟨_,rfl⟩
   have e1:((lo:Int)+(hi:Int)) / 2=(mid:Int):=by omega
   have hml:mid<p.length:=by omega
   have r1:=rowsT_getD (ts:=p.map tn) (i:=mid) (by rw[length_map];omega)
   have hx8:=p8 _ (getD_memT (ts:=p.map tn) (i:=mid) (by rw[length_map];omega))
   have hgx:((p.map tn).getD mid rt0).1=p[mid].1:=by
    rw[qa,List.getElem?_map,qb hml];rfl
   obtain⟨x,hx⟩:=ex1 ((p.map tn).getD mid rt0)
   rw[hx] at r1 hx8 hgx
   have x11:=tmF_take8 hx8
   have xl:=tmF_length hx8
   have hg:=iq153 x.1 t.1 hx8 hm
   have hgt:gtM x.1 t.1=gtM p[mid].1 t.1:=by rw[hgx]
   simp -dsimp(disch:=omega) only[h4,e1,↓reduceIte,ru]
   refine⟨by decide,?_⟩
   refine dw (by kernel_rfl) ?_
   simp -dsimp(disch:=omega) only[r1,x11,xl,monoF_fv,rl,c8,cl,↓reduceIte,reduceLT,reduceLeDiff,ru]
   repeat refine qy (by omega) ?_
   refine gp hg (by simp[fzAs,fzA,fzs_mC,monoF_fv]) ?_
   simp -dsimp(disch:=omega) only[ids_mC,rules]
   cases hgv:gtM x.1 t.1 with
   | true=>
    rw[hgv] at hgt;simp -dsimp(disch:=omega) only[↓reduceIte,ru];refine ap (mid+1,hi) (by dsimp only;omega) ?_ ⟨by omega,h2,fun i h hi2=>?_,hhi⟩
    ·refine wk [0] (by simp) rfl ?_ ?_
     ·simp[leVs,leV,le1]
     ·simp[leH,leO,le_tmC]
    ·by_cases hie:i=mid
     ·subst hie;exact hgt.symm
     ·exact gtM_trans (canon_at hp hml (by omega)) hgt.symm
   | false=>
    rw[hgv] at hgt;simp -dsimp(disch:=omega) only[rules];refine ap (lo,mid) (by dsimp only;omega) ?_ ⟨by omega,by omega,hlo,fun i h hi2=>?_⟩
    ·refine wk [0] (by simp) rfl ?_ ?_
     ·simp[leVs,leV,le1]
     ·simp[leH,leO,le_tmC]
    ·by_cases hie:i=mid
     ·subst hie;exact hgt.symm
     ·cases hgi:gtM p[i].1 t.1 with
      | false=>rfl
      | true=>
       have:=gtM_trans (canon_at hp h (show mid<i by omega)) hgi;rw[<-hgt] at this;cases this
  ·intro h3 h4
   have hle:lo=hi:=by omega
   subst hle
   have heq:=insT_eq (q:=t.2.q) hlo hhi (by omega)
   have htl:List.take lo (rowsT (p.map tn))=rowsT ((p.take lo).map tn):=by simp[rowsT,List.map_take]
   have dl0:List.drop lo (rowsT (p.map tn))=rowsT ((p.drop lo).map tn):=by simp[rowsT,List.map_drop]
   have dl1:List.drop (lo+1) (rowsT (p.map tn))=rowsT ((p.drop (lo+1)).map tn):=by simp[rowsT,List.map_drop]
   have lt_:(rowsT ((p.take lo).map tn)).length=lo:=by rw[rowsT_length,length_map,length_take];omega
   have dn0:(rowsT ((p.drop lo).map tn)).length=n - lo:=by rw[rowsT_length,length_map,length_drop,hnn]
   have dn1:(rowsT ((p.drop (lo+1)).map tn)).length=n - (lo+1):=by rw[rowsT_length,length_map,length_drop,hnn]
   have tk_:List.take lo (rowsT ((p.take lo).map tn))=rowsT ((p.take lo).map tn):=qdq (by omega)
   have tkd0:List.take (n - lo) (rowsT ((p.drop lo).map tn))=rowsT ((p.drop lo).map tn):=qdq (by omega)
   have tkd1:List.take (n - (lo+1)) (rowsT ((p.drop (lo+1)).map tn))=rowsT ((p.drop (lo+1)).map tn):=qdq (by omega)
   have tn1:((lo:Int)+1).toNat=lo+1:=by omega
   have r11a: ∀ y∈rowsT ((p.take lo).map tn),y.length=11:=fun y hy=>r11 y (by rw[<-htl] at hy;exact qfb hy)
   have r11b: ∀ y∈rowsT ((p.drop lo).map tn),y.length=11:=fun y hy=>r11 y (by rw[<-dl0] at hy;exact qgb hy)
   have r11c: ∀ y∈rowsT ((p.drop (lo+1)).map tn),y.length=11:=fun y hy=>r11 y (by rw[<-dl1] at hy;exact qgb hy)
   by_cases hln:lo<n
   ·have hlp:lo<p.length:=by omega
    have r1:=rowsT_getD (ts:=p.map tn) (i:=lo) (by rw[length_map];omega)
    have hx8:=p8 _ (getD_memT (ts:=p.map tn) (i:=lo) (by rw[length_map];omega))
    have hxe:(p.map tn).getD lo rt0=tn p[lo]:=by
     rw[qa,List.getElem?_map,qb hlp];rfl
    have hgd:p.getD lo ([],0)=p[lo]:=by rw[qa,qb hlp];rfl
    rw[hxe] at r1 hx8
    rw[hgd] at heq
    have hsu:=hs p[lo] (qqb hlp)
    have hbu:=hb p[lo] (qqb hlp)
    obtain⟨u,hu⟩:=ex1 (p[lo])
    rw[hu] at r1 hx8 heq hsu hbu
    have x11:=tmF_take8 hx8
    have xl:=tmF_length hx8
    have hx1:(tn u).1=u.1:=rfl
    rw[hx1] at x11 hx8
    have hd1:decide ((lo:Int)<(n:Int))=true:=qbb (by omega)
    have xc:=tmF_drop8 (t:=tn u) hx8
    by_cases hee:u.1=t.1
    ·have hb1:(u.1==t.1)=true:=by rw[hee];exact beq_self_eq_true _
     simp -dsimp(disch:=omega) only[h4,htl,lt_,Nat.sub_zero,↓reduceIte,Nat.reduceBEq,reduceLT,ru]
     refine⟨⟨by omega,by omega,by omega,r11⟩,⟨r11a,by omega,by omega⟩,?_⟩
     refine dw (by kernel_rfl) ?_
     simp -dsimp(disch:=omega) only[rl,hd1,r1,x11,xl,monoF_fv,c8,cl,hx8,hm,hb1,Bool.and_self,↓reduceIte,Nat.reduceBEq,reduceLT,reduceLeDiff,ru]
     repeat refine qy (by omega) ?_
     have hbs:=hsu hee
     have h31:=den31 t.2 (cn u.2) hok.raw (cn_ok hbu)
     rw[cn_q] at h31
     change Den Tryz.prog 67 [] [.agg t.2.c,.agg (cn u.2).c] [] (.agg (cn (t.2.q+u.2)).c) at h31
     have hput1:=tmC_putc (t:=t) (r:=cn (t.2.q+u.2)) hm
     have tcc:=tmC_coef hm
     have xcc:(tn u).2.f.map .fv=(cn u.2).c:=rfl
     rw[dif_pos ⟨by omega,hee⟩] at heq
     obtain⟨c,hc⟩:=ex1 (t.2.q+u.2)
     rw[hc] at heq h31 hput1 hbs
     obtain⟨r,hr⟩:=ex1 (cn c)
     have hrq:r.q=c:=by rw[<-hr,cn_q]
     have hrok:r.Ok 1000000000:=by rw[<-hr];exact cn_ok hbs
     rw[hr] at h31 hput1
     refine dw (by kernel_rfl) ?_
     simp -dsimp(disch:=omega) only[tcc,cl,r1,rl,xc,xcc,xl,f_length,f_take,↓reduceIte,reduceAdd,reduceLT,reduceLeDiff,ru]
     repeat refine qy (by omega) ?_
     refine gp h31 (by simp[fzAs,fzA,fzs_c,f_fv]) ?_
     simp -dsimp(disch:=omega) only[ids_c,c_reloc,append_nil,cl,c_length,hput1,↓reduceIte,reduceAdd,reduceLT,reduceLeDiff,ru]
     repeat refine qy (by omega) ?_
     have h57:=den57 r (hrok.mono (by decide))
     change Den Tryz.prog 121 [] [.agg r.c] [] (.agg (cn r.q).c) at h57
     rw[hrq] at h57
     have hbc:Bd 1000000000 c:=hbs
     have h26:=den26 (cn c) ((cn_ok hbc).mono (by decide))
     rw[cn_q] at h26
     change Den Tryz.prog 63 [] [.agg (cn c).c] [] (.int .i64 (sgq c)) at h26
     have htt:((t.1,cn c):RT).1.length=8:=hm
     have kk1:=tmC_take11 htt
     have kk2:=tmF_take11 htt
     have kk3:=tmC_length htt
     have kk4:=tmF_length htt
     have kk5:=tmC_coef htt
     have hput2:=tmC_putc (t:=(t.1,r)) (r:=cn c) hm
     have c8r:List.take 3 (List.drop 8 (tmC (t.1,r)))=r.c:=tmC_coef (t:=(t.1,r)) hm
     have clr:(tmC (t.1,r)).length=11:=tmC_length (t:=(t.1,r)) hm
     simp -dsimp(disch:=omega) only[c8r,clr,rules,reduceLeDiff]
     repeat refine qy (by omega) ?_
     refine gp h57 (by simp[fzAs,fzA,fzs_c,f_fv]) ?_
     simp -dsimp(disch:=omega) only[ids_c,c_reloc,clr,c_length,hput2,kk3,kk5,↓reduceIte,reduceAdd,reduceLT,reduceLeDiff,ru]
     repeat refine qy (by omega) ?_
     refine gp h26 (by simp[fzAs,fzA,fzs_c,f_fv]) ?_
     simp -dsimp(disch:=omega) only[ids_c,↓reduceIte,reduceAdd,ru]
     refine Br.bneInt ?_ ?_
     ·intro h5 h6
      have hnz:c≠0:=fun h=>h5 (sgq_eq_zero.2 h)
      have hap:rowsT ((p.take lo).map tn)++[tmF (t.1,cn c)]++rowsT ((p.drop (lo+1)).map tn)=rowsT ((insT p (tq t)).map tn):=by
       have:insT p (tq t)=p.take lo++[(t.1,c)]++p.drop (lo+1):=by show insT p (t.1,t.2.q)=_;rw[heq,if_neg hnz]
       rw[this];simp[rowsT,tn]
      have hfin:=rowsT_length ((insT p (tq t)).map tn)
      have hln:(rowsT ((p.take lo).map tn)).length+1+(n - (lo+1))=(rowsT ((insT p (tq t)).map tn)).length:=by
       rw[<-hap];simp only[qe,length_cons,length_nil,rowsT_length,length_map,length_drop,hnn]
      rw[lt_] at hln
      obtain⟨FN,hFN⟩: ∃ F,rowsT ((insT p (tq t)).map tn)=F:=⟨_,rfl⟩
      rw[hFN] at hap hln
      have ap1:(rowsT ((p.take lo).map tn)++[tmF (t.1,cn c)]).length=lo+1:=by rw[qe,lt_];rfl
      have tkap:List.take (lo+1) (rowsT ((p.take lo).map tn)++[tmF (t.1,cn c)])=rowsT ((p.take lo).map tn)++[tmF (t.1,cn c)]:=qdq (by omega)
      have tkF:List.take (lo+1+(n - (lo+1))) FN=FN:=qdq (by omega)
      simp -dsimp(disch:=omega) only[h6,kk1,kk2,kk3,fzs_tmC,ids_tmC,rl,lt_,tk_,dl1,dn1,tkd1,ap1,tkap,tn1,hap,append_nil,↓reduceIte,reduceAdd,reduceMul,Nat.reduceBEq,reduceLT,reduceLeDiff,ru]
      repeat refine qy (by repeat' (first | omega | exact r11 | exact r11c | apply qy)) ?_
      refine rpq rfl ⟨tvq,tvq⟩ ?_
      simp(disch:=omega) only[hln,List.drop_zero,List.take_length,Nat.zero_add,qp,↓reduceIte,idxOf?_nil,St.get,fzX,oneRes,fzV,fzC,fz1,fz0,Option.map_some,qk,getD_cons_zero,List.getElem?_cons_zero,getElem?_cons_succ]
      rw[<-hFN]
     ·intro h5 h6
      have hz:c=0:=sgq_eq_zero.1 h5
      have hap:rowsT ((p.take lo).map tn)++rowsT ((p.drop (lo+1)).map tn)=rowsT ((insT p (tq t)).map tn):=by
       have:insT p (tq t)=p.take lo++p.drop (lo+1):=by show insT p (t.1,t.2.q)=_;rw[heq,if_pos hz]
       rw[this];simp[rowsT]
      have hln:(rowsT ((p.take lo).map tn)).length+(n - (lo+1))=(rowsT ((insT p (tq t)).map tn)).length:=by
       rw[<-hap];simp only[qe,rowsT_length,length_map,length_drop,hnn]
      rw[lt_] at hln
      obtain⟨FN,hFN⟩: ∃ F,rowsT ((insT p (tq t)).map tn)=F:=⟨_,rfl⟩
      rw[hFN] at hap hln
      have tkF:List.take (lo+(n - (lo+1))) FN=FN:=qdq (by omega)
      simp -dsimp(disch:=omega) only[h6,rl,lt_,tk_,dl1,dn1,tkd1,tn1,hap,↓reduceIte,reduceAdd,reduceLT,ru]
      repeat refine qy (by repeat' (first | omega | exact r11 | exact r11c | apply qy)) ?_
      refine rpq rfl ⟨tvq,tvq⟩ ?_
      simp(disch:=omega) only[hln,List.drop_zero,List.take_length,Nat.zero_add,qp,↓reduceIte,idxOf?_nil,St.get,fzX,oneRes,fzV,fzC,fz1,fz0,Option.map_some,qk,getD_cons_zero,List.getElem?_cons_zero,getElem?_cons_succ]
      rw[<-hFN]
    ·have hb1:(u.1==t.1)=false:=by rw[qx];exact hee
     simp -dsimp(disch:=omega) only[h4,htl,lt_,Nat.sub_zero,↓reduceIte,Nat.reduceBEq,reduceLT,ru]
     refine⟨⟨by omega,by omega,by omega,r11⟩,⟨r11a,by omega,by omega⟩,?_⟩
     refine dw (by kernel_rfl) ?_
     simp -dsimp(disch:=omega) only[rl,hd1,r1,x11,xl,monoF_fv,c8,cl,hx8,hm,hb1,Bool.and_self,↓reduceIte,reduceAdd,Nat.reduceBEq,reduceLT,reduceLeDiff,ru]
     repeat refine qy (by omega) ?_
     rw[dif_neg (fun h=>hee h.2)] at heq
     obtain⟨r,hr⟩:=ex1 (t.2)
     have hrq:r.q=t.2.q:=by rw[<-hr]
     have hrok:r.Ok 1000000000:=by rw[<-hr];exact hok.raw
     have htr:tmC t=tmC (t.1,r):=by rw[<-hr]
     have hbs:Bd 1000000000 t.2.q:=hok.raw.bd (by decide)
     obtain⟨c,hc⟩:=ex1 (t.2.q)
     rw[hc] at heq hrq hbs
     rw[htr]
     have h57:=den57 r (hrok.mono (by decide))
     change Den Tryz.prog 121 [] [.agg r.c] [] (.agg (cn r.q).c) at h57
     rw[hrq] at h57
     have hbc:Bd 1000000000 c:=hbs
     have h26:=den26 (cn c) ((cn_ok hbc).mono (by decide))
     rw[cn_q] at h26
     change Den Tryz.prog 63 [] [.agg (cn c).c] [] (.int .i64 (sgq c)) at h26
     have htt:((t.1,cn c):RT).1.length=8:=hm
     have kk1:=tmC_take11 htt
     have kk2:=tmF_take11 htt
     have kk3:=tmC_length htt
     have kk4:=tmF_length htt
     have kk5:=tmC_coef htt
     have hput2:=tmC_putc (t:=(t.1,r)) (r:=cn c) hm
     have c8r:List.take 3 (List.drop 8 (tmC (t.1,r)))=r.c:=tmC_coef (t:=(t.1,r)) hm
     have clr:(tmC (t.1,r)).length=11:=tmC_length (t:=(t.1,r)) hm
     simp -dsimp(disch:=omega) only[c8r]
     repeat refine qy (by omega) ?_
     refine gp h57 (by simp[fzAs,fzA,fzs_c,f_fv]) ?_
     simp -dsimp(disch:=omega) only[ids_c,c_reloc,clr,c_length,hput2,kk3,kk5,↓reduceIte,reduceAdd,reduceLT,reduceLeDiff,ru]
     repeat refine qy (by omega) ?_
     refine gp h26 (by simp[fzAs,fzA,fzs_c,f_fv]) ?_
     simp -dsimp(disch:=omega) only[ids_c,↓reduceIte,reduceAdd,ru]
     refine Br.bneInt ?_ ?_
     ·intro h5 h6
      have hnz:c≠0:=fun h=>h5 (sgq_eq_zero.2 h)
      have hap:rowsT ((p.take lo).map tn)++[tmF (t.1,cn c)]++rowsT ((p.drop lo).map tn)=rowsT ((insT p (tq t)).map tn):=by
       have:insT p (tq t)=p.take lo++[(t.1,c)]++p.drop lo:=by show insT p (t.1,t.2.q)=_;rw[show t.2.q=c from hc,heq,if_neg hnz]
       rw[this];simp[rowsT,tn]
      have hfin:=rowsT_length ((insT p (tq t)).map tn)
      have hln:(rowsT ((p.take lo).map tn)).length+1+(n - lo)=(rowsT ((insT p (tq t)).map tn)).length:=by
       rw[<-hap];simp only[qe,length_cons,length_nil,rowsT_length,length_map,length_drop,hnn]
      rw[lt_] at hln
      obtain⟨FN,hFN⟩: ∃ F,rowsT ((insT p (tq t)).map tn)=F:=⟨_,rfl⟩
      rw[hFN] at hap hln
      have ap1:(rowsT ((p.take lo).map tn)++[tmF (t.1,cn c)]).length=lo+1:=by rw[qe,lt_];rfl
      have tkap:List.take (lo+1) (rowsT ((p.take lo).map tn)++[tmF (t.1,cn c)])=rowsT ((p.take lo).map tn)++[tmF (t.1,cn c)]:=qdq (by omega)
      have tkF:List.take (lo+1+(n - lo)) FN=FN:=qdq (by omega)
      simp -dsimp(disch:=omega) only[h6,kk1,kk2,kk3,fzs_tmC,ids_tmC,rl,lt_,tk_,dl0,dn0,tkd0,ap1,tkap,hap,append_nil,↓reduceIte,reduceAdd,reduceMul,Nat.reduceBEq,reduceLT,reduceLeDiff,ru]
      repeat refine qy (by repeat' (first | omega | exact r11 | exact r11b | apply qy)) ?_
      refine rpq rfl ⟨tvq,tvq⟩ ?_
      simp(disch:=omega) only[hln,List.drop_zero,List.take_length,Nat.zero_add,qp,↓reduceIte,idxOf?_nil,St.get,fzX,oneRes,fzV,fzC,fz1,fz0,Option.map_some,qk,getD_cons_zero,List.getElem?_cons_zero,getElem?_cons_succ]
      rw[<-hFN]
     ·intro h5 h6
      have hz:c=0:=sgq_eq_zero.1 h5
      have hap:rowsT ((p.take lo).map tn)++rowsT ((p.drop lo).map tn)=rowsT ((insT p (tq t)).map tn):=by
       have:insT p (tq t)=p.take lo++p.drop lo:=by show insT p (t.1,t.2.q)=_;rw[show t.2.q=c from hc,heq,if_pos hz]
       rw[this];simp[rowsT]
      have hln:(rowsT ((p.take lo).map tn)).length+(n - lo)=(rowsT ((insT p (tq t)).map tn)).length:=by
       rw[<-hap];simp only[qe,rowsT_length,length_map,length_drop,hnn]
      rw[lt_] at hln
      obtain⟨FN,hFN⟩: ∃ F,rowsT ((insT p (tq t)).map tn)=F:=⟨_,rfl⟩
      rw[hFN] at hap hln
      have tkF:List.take (lo+(n - lo)) FN=FN:=qdq (by omega)
      simp -dsimp(disch:=omega) only[h6,rl,lt_,tk_,dl0,dn0,tkd0,hap,↓reduceIte,reduceAdd,reduceLT,ru]
      repeat refine qy (by repeat' (first | omega | exact r11 | exact r11b | apply qy)) ?_
      refine rpq rfl ⟨tvq,tvq⟩ ?_
      simp(disch:=omega) only[hln,List.drop_zero,List.take_length,Nat.zero_add,qp,↓reduceIte,idxOf?_nil,St.get,fzX,oneRes,fzV,fzC,fz1,fz0,Option.map_some,qk,getD_cons_zero,List.getElem?_cons_zero,getElem?_cons_succ]
      rw[<-hFN]
   ·have hd1:decide ((lo:Int)<(n:Int))=false:=qcb (by omega)
    simp -dsimp(disch:=omega) only[h4,htl,lt_,Nat.sub_zero,↓reduceIte,Nat.reduceBEq,reduceLT,ru]
    refine⟨⟨by omega,by omega,by omega,r11⟩,⟨r11a,by omega,by omega⟩,?_⟩
    refine dw (by kernel_rfl) ?_
    simp -dsimp(disch:=omega) only[rl,hd1,↓reduceIte,reduceAdd,ru]
    rw[dif_neg (fun h=>hln (by omega))] at heq
    obtain⟨r,hr⟩:=ex1 (t.2)
    have hrq:r.q=t.2.q:=by rw[<-hr]
    have hrok:r.Ok 1000000000:=by rw[<-hr];exact hok.raw
    have htr:tmC t=tmC (t.1,r):=by rw[<-hr]
    have hbs:Bd 1000000000 t.2.q:=hok.raw.bd (by decide)
    obtain⟨c,hc⟩:=ex1 (t.2.q)
    rw[hc] at heq hrq hbs
    rw[htr]
    have h57:=den57 r (hrok.mono (by decide))
    change Den Tryz.prog 121 [] [.agg r.c] [] (.agg (cn r.q).c) at h57
    rw[hrq] at h57
    have hbc:Bd 1000000000 c:=hbs
    have h26:=den26 (cn c) ((cn_ok hbc).mono (by decide))
    rw[cn_q] at h26
    change Den Tryz.prog 63 [] [.agg (cn c).c] [] (.int .i64 (sgq c)) at h26
    have htt:((t.1,cn c):RT).1.length=8:=hm
    have kk1:=tmC_take11 htt
    have kk2:=tmF_take11 htt
    have kk3:=tmC_length htt
    have kk4:=tmF_length htt
    have kk5:=tmC_coef htt
    have hput2:=tmC_putc (t:=(t.1,r)) (r:=cn c) hm
    have c8r:List.take 3 (List.drop 8 (tmC (t.1,r)))=r.c:=tmC_coef (t:=(t.1,r)) hm
    have clr:(tmC (t.1,r)).length=11:=tmC_length (t:=(t.1,r)) hm
    simp -dsimp(disch:=omega) only[c8r,clr,rules,reduceLeDiff]
    repeat refine qy (by omega) ?_
    refine gp h57 (by simp[fzAs,fzA,fzs_c,f_fv]) ?_
    simp -dsimp(disch:=omega) only[ids_c,c_reloc,clr,c_length,hput2,kk3,kk5,↓reduceIte,reduceAdd,reduceLT,reduceLeDiff,ru]
    repeat refine qy (by omega) ?_
    refine gp h26 (by simp[fzAs,fzA,fzs_c,f_fv]) ?_
    simp -dsimp(disch:=omega) only[ids_c,↓reduceIte,reduceAdd,ru]
    refine Br.bneInt ?_ ?_
    ·intro h5 h6
     have hnz:c≠0:=fun h=>h5 (sgq_eq_zero.2 h)
     have hap:rowsT ((p.take lo).map tn)++[tmF (t.1,cn c)]++rowsT ((p.drop lo).map tn)=rowsT ((insT p (tq t)).map tn):=by
      have:insT p (tq t)=p.take lo++[(t.1,c)]++p.drop lo:=by show insT p (t.1,t.2.q)=_;rw[show t.2.q=c from hc,heq,if_neg hnz]
      rw[this];simp[rowsT,tn]
     have hfin:=rowsT_length ((insT p (tq t)).map tn)
     have hln:(rowsT ((p.take lo).map tn)).length+1+(n - lo)=(rowsT ((insT p (tq t)).map tn)).length:=by
      rw[<-hap];simp only[qe,length_cons,length_nil,rowsT_length,length_map,length_drop,hnn]
     rw[lt_] at hln
     obtain⟨FN,hFN⟩: ∃ F,rowsT ((insT p (tq t)).map tn)=F:=⟨_,rfl⟩
     rw[hFN] at hap hln
     have ap1:(rowsT ((p.take lo).map tn)++[tmF (t.1,cn c)]).length=lo+1:=by rw[qe,lt_];rfl
     have tkap:List.take (lo+1) (rowsT ((p.take lo).map tn)++[tmF (t.1,cn c)])=rowsT ((p.take lo).map tn)++[tmF (t.1,cn c)]:=qdq (by omega)
     have tkF:List.take (lo+1+(n - lo)) FN=FN:=qdq (by omega)
     simp -dsimp(disch:=omega) only[h6,kk1,kk2,kk3,fzs_tmC,ids_tmC,rl,lt_,tk_,dl0,dn0,tkd0,ap1,tkap,hap,append_nil,↓reduceIte,reduceAdd,reduceMul,Nat.reduceBEq,reduceLT,reduceLeDiff,ru]
     repeat refine qy (by repeat' (first | omega | exact r11 | exact r11b | apply qy)) ?_
     refine rpq rfl ⟨tvq,tvq⟩ ?_
     simp(disch:=omega) only[hln,List.drop_zero,List.take_length,Nat.zero_add,qp,↓reduceIte,idxOf?_nil,St.get,fzX,oneRes,fzV,fzC,fz1,fz0,Option.map_some,qk,getD_cons_zero,List.getElem?_cons_zero,getElem?_cons_succ]
     rw[<-hFN]
    ·intro h5 h6
     have hz:c=0:=sgq_eq_zero.1 h5
     have hap:rowsT ((p.take lo).map tn)++rowsT ((p.drop lo).map tn)=rowsT ((insT p (tq t)).map tn):=by
      have:insT p (tq t)=p.take lo++p.drop lo:=by show insT p (t.1,t.2.q)=_;rw[show t.2.q=c from hc,heq,if_pos hz]
      rw[this];simp[rowsT]
     have hln:(rowsT ((p.take lo).map tn)).length+(n - lo)=(rowsT ((insT p (tq t)).map tn)).length:=by
      rw[<-hap];simp only[qe,rowsT_length,length_map,length_drop,hnn]
     rw[lt_] at hln
     obtain⟨FN,hFN⟩: ∃ F,rowsT ((insT p (tq t)).map tn)=F:=⟨_,rfl⟩
     rw[hFN] at hap hln
     have tkF:List.take (lo+(n - lo)) FN=FN:=qdq (by omega)
     simp -dsimp(disch:=omega) only[h6,rl,lt_,tk_,dl0,dn0,tkd0,hap,↓reduceIte,reduceAdd,reduceLT,ru]
     repeat refine qy (by repeat' (first | omega | exact r11 | exact r11b | apply qy)) ?_
     refine rpq rfl ⟨tvq,tvq⟩ ?_
     simp(disch:=omega) only[hln,List.drop_zero,List.take_length,Nat.zero_add,qp,↓reduceIte,idxOf?_nil,St.get,fzX,oneRes,fzV,fzC,fz1,fz0,Option.map_some,qk,getD_cons_zero,List.getElem?_cons_zero,getElem?_cons_succ]
     rw[<-hFN]
theorem iq44 (ts:List RT) (h8:TsOk 1000000000 ts) (hb:PB 1000000000 (ts.map tq)) (hn:ts.length<=10000000000):Den Tryz.prog 44 [] [PL ts] [] (PL ((nf (ts.map tq)).map tn)):=by
 have rl:=rowsT_length ts;obtain⟨n,hnn⟩:=ex1 (ts.length);rw[hnn] at rl hn;obtain⟨T,hT⟩:=ex1 (ts.map tq);have hTl:T.length=n:=by rw[<-hT,length_map,hnn]
 have hT8:Len8 T:=fun t ht=>by
  rw[<-hT] at ht;obtain⟨u,hu,rfl⟩:=mem_map.1 ht;exact(h8 u hu).len
 rw[hT] at hb ⊢;refine den_of tabOk mixed Tryz.func44 (cd:=_) rfl (by decide) rfl (n:=17) rfl rfl (m:=0) rfl ?_;simp -dsimp(disch:=omega) only[replicate,rules];refine wl (α:=Nat) (fun i=>⟨[PL ts,.any,.any,PL ((nf (T.take i)).map tn),.int .i64 i]++replicate 13 .any,[]⟩) (fun i=>n - i) (fun i=>i<=n) 0 ?_ (qsq _) ?_
 ·refine wk [] (by simp) rfl ?_ ?_
  ·simp[leVs,leV,le1];simp[nf];trivial
  ·simp[leH]
 ·intro i hi;simp -dsimp(disch:=omega) only[replicate,rl,↓reduceIte,ru];refine bd_ ?_ ?_
  ·intro h1 h2;have r1:=rowsT_getD (ts:=ts) (i:=i) (by omega);have hok:=h8 _ (getD_memT (ts:=ts) (i:=i) (by omega));have hsn:T.take (i+1)=T.take i++[tq (ts.getD i rt0)]:=by
    rw[List.take_add_one,<-hT,List.getElem?_map,qa,qb (by omega)];rfl
   obtain⟨t,ht⟩:=ex1 (ts.getD i rt0);rw[ht] at r1 hok hsn;have hb1:=hb.take (i+1);rw[hsn] at hb1;have hT8i:Len8 (T.take i):=fun u hu=>hT8 u (qfb hu)
   have hlen:(nf (T.take i)).length<=10000000000:=by
    have:=nf_len (T.take i);rw[length_take] at this;omega
   have h98:=iq98 (nf (T.take i)) t (nf_canon hT8i) ((hb.take i).nf.bd (by decide)) hok hlen (fun u hu _=>hb1.snoc_bd (by decide) u hu);have hni:insT (nf (T.take i)) (tq t)=nf (T.take (i+1)):=by
    rw[hsn];unfold nf;rw[List.foldl_append];rfl
   rw[hni] at h98;have hm:=hok.len;have t11:=tmF_take11 hm;have fl:=tmF_length hm;have cl:=tmC_length hm;obtain⟨P,hP⟩:=ex1 ((nf (T.take i)).map tn);rw[hP] at h98 ⊢;simp -dsimp(disch:=omega) only[h2,r1,rl,t11,tmF_fv,fl,↓reduceIte,reduceLT,reduceLeDiff,ru]
   repeat refine qy (by omega) ?_
   refine gp h98 (by simp[fzAs,fzA,fz1,fz0,fzs_tmC,tmF_fv]) ?_;simp -dsimp(disch:=omega) only[ids_tmC,↓reduceIte,ru];refine ap (i+1) (by omega) ?_ (by omega);refine wk [] (by simp) rfl ?_ ?_
   ·simp[leVs,leV,le1]
   ·simp[leH]
  ·intro h1 h2;have hTT:T.take i=T:=qdq (by omega);rw[hTT];simp -dsimp(disch:=omega) only[h2,Nat.reduceBEq,ru];refine rpq rfl ⟨tvq,tvq⟩ rfl
theorem iq19 (ts:List RT) (h8:TsOk 5000000000 ts) (hn:ts.length<=10000000000):Den Tryz.prog 19 [] [PL ts,PL ts] [] (.bool true):=by
 have rl:=rowsT_length ts;obtain⟨n,hnn⟩:=ex1 (ts.length);rw[hnn] at rl hn;have e1:((n:Int) !=(n:Int))=false:=by simp
 refine den_of tabOk mixed Tryz.func19 (cd:=_) rfl (by decide) rfl (n:=40) rfl rfl (m:=0) rfl ?_;simp -dsimp(disch:=omega) only[replicate,rl,e1,↓reduceIte,ru];refine wl (α:=Nat) (fun i=>⟨[PL ts,PL ts,.any,.any,.any,.int .i64 i]++replicate 36 .any,[]⟩) (fun i=>n - i) (fun i=>i<=n) 0 ?_ (qsq _) ?_
 ·refine wk [] (by simp) rfl ?_ ?_
  ·simp[leVs,leV,le1]
  ·simp[leH]
 ·intro i hi;simp -dsimp(disch:=omega) only[replicate,rl,↓reduceIte,ru];refine bd_ ?_ ?_
  ·intro h1 h2;have r1:=rowsT_getD (ts:=ts) (i:=i) (by omega);have hok:=h8 _ (getD_memT (ts:=ts) (i:=i) (by omega));obtain⟨t,ht⟩:=ex1 (ts.getD i rt0);rw[ht] at r1 hok;have hm:=hok.len;have f8:=tmF_take8 hm;have fl:=tmF_length hm;have fd:=tmF_drop8 hm;have hb1:(t.1==t.1)=true:=beq_self_eq_true _;have h35:=den35 t.2 t.2 hok.raw hok.raw;rw[sameR_self] at h35;change Den Tryz.prog 62 [] [.agg t.2.c,.agg t.2.c] [] _ at h35;simp -dsimp(disch:=omega) only[h2,rules];refine dw (by kernel_rfl) ?_;simp -dsimp(disch:=omega) only[r1,rl,f8,fl,fd,monoF_fv,hm,hb1,Bool.and_self,Bool.not_true,f_take,f_length,f_fv,↓reduceIte,reduceAdd,Nat.reduceBEq,reduceLT,reduceLeDiff,ru]
   repeat refine qy (by omega) ?_
   refine gp h35 (by simp[fzAs,fzA,fzs_c,f_fv]) ?_;simp -dsimp(disch:=omega) only[ids_c,append_nil,Bool.not_true,↓reduceIte,ru]
   repeat refine qy (by omega) ?_
   refine ap (i+1) (by omega) ?_ (by omega);refine wk [] (by simp) rfl ?_ ?_
   ·simp[leVs,leV,le1]
   ·simp[leH]
  ·intro h1 h2;simp -dsimp(disch:=omega) only[h2,Nat.reduceBEq,ru];refine rpq rfl ⟨tvq,tvq⟩ rfl
theorem iq75 (ts:List RT) (hl: ∀ t∈ts,t.1.length=8) (hn:ts.length<=1000000000000):Den Tryz.prog 75 [] [PL ts] [] (.bool (validB ts)):=by
 have rl:=rowsT_length ts;obtain⟨n,hnn⟩:=ex1 (ts.length);rw[hnn] at rl hn;obtain⟨R,hR⟩:=ex1 (validB ts);rw[hR];refine den_of tabOk mixed Tryz.func75 (cd:=_) rfl (by decide) rfl (n:=32) rfl rfl (m:=0) rfl ?_;simp -dsimp(disch:=omega) only[replicate,rules];refine wl (α:=Nat) (fun i=>⟨[PL ts,.any,.any,.int .i64 i]++replicate 29 .any,[]⟩) (fun i=>n - i) (fun i=>i<=n/\validB (ts.drop i)=R) 0 ?_ ?_ ?_
 ·refine wk [] (by simp) rfl ?_ ?_
  ·simp[leVs,leV,le1]
  ·simp[leH]
 ·exact⟨qsq _,hR⟩
 ·rintro i ⟨hi,hv⟩;simp -dsimp(disch:=omega) only[replicate,rl,↓reduceIte,ru];refine bd_ ?_ ?_
  ·intro h1 h2;have r1:=rowsT_getD (ts:=ts) (i:=i) (by omega);have hm:=hl _ (getD_memT (ts:=ts) (i:=i) (by omega));have hd:=validB_drop (ts:=ts) (i:=i) (by omega);obtain⟨t,ht⟩:=ex1 (ts.getD i rt0);rw[ht] at r1 hm hd;rw[hv] at hd;have fl:=tmF_length hm;have t8:=tmF_take8 hm;have ml:=monoF_length t.1;rw[hm] at ml;simp -dsimp(disch:=omega) only[h2,rules];refine wl (α:=Nat) (fun k=>⟨[PL ts,.any,.any,.int .i64 i,.int .i64 k]++replicate 28 .any,[]⟩) (fun k=>8 - k) (fun k=>k<=8/\validM (t.1.drop k)=validM t.1) 0 ?_ ?_ ?_
   ·refine wk [] (by simp) rfl ?_ ?_
    ·simp[leVs,leV,le1]
    ·simp[leH]
   ·exact⟨qsq _,rfl⟩
   ·rintro k ⟨hk,hvm⟩;simp -dsimp(disch:=omega) only[replicate,↓reduceIte,ru];refine bd_ ?_ ?_
    ·intro h3 h4;have hat:=tmF_at (t:=t) (i:=k) (by omega) hm;have hdm:=validM_drop (m:=t.1) (i:=k) (by omega);obtain⟨x,hx⟩:=ex1 (t.1.getD k 0);rw[hx] at hat hdm;rw[hvm] at hdm;simp -dsimp(disch:=omega) only[h4,r1,rl,fl,hat,Nat.mul_one,length_drop,↓reduceIte,reduceLT,reduceLeDiff,ru]
     repeat refine qy (by omega) ?_
     by_cases hx0:x<0
     ·have e1:decide (x<0)=true:=qbb hx0;have hRf:R=false:=by rw[hd,hdm,qcb (show¬0<=x by omega)];rfl
      rw[hRf];simp -dsimp(disch:=omega) only[e1,↓reduceIte,ru]
      repeat refine qy (by omega) ?_
      refine rpq rfl ⟨tvq,tvq⟩ rfl
     ·have e1:decide (x<0)=false:=qcb hx0;by_cases hx1:1024<x
      ·have e2:decide (x>1024)=true:=qbb hx1;have hRf:R=false:=by rw[hd,hdm,qcb (show¬x<=1024 by omega)];simp
       rw[hRf];simp -dsimp(disch:=omega) only[e1,e2,r1,rl,fl,hat,Nat.mul_one,length_drop,↓reduceIte,reduceLT,reduceLeDiff,ru]
       repeat refine qy (by omega) ?_
       refine rpq rfl ⟨tvq,tvq⟩ rfl
      ·have e2:decide (x>1024)=false:=qcb hx1;rw[qbb (show 0<=x by omega),qbb (show x<=1024 by omega)] at hdm;simp -dsimp(disch:=omega) only[e1,e2,r1,rl,fl,hat,Nat.mul_one,length_drop,↓reduceIte,reduceLT,reduceLeDiff,ru]
       repeat refine qy (by omega) ?_
       refine ap (k+1) (by omega) ?_ ⟨by omega,by rw[hdm];rfl⟩;refine wk [] (by simp) rfl ?_ ?_
       ·simp[leVs,leV,le1]
       ·simp[leH]
    ·intro h3 h4;have hvt:validM t.1=true:=by rw[<-hvm,List.drop_of_length_le (by omega)];rfl
     rw[hvt] at hd;simp -dsimp(disch:=omega) only[h4,↓reduceIte,Nat.reduceBEq,ru];refine ap (i+1) (by omega) ?_ ⟨by omega,by rw[hd];rfl⟩;refine wk [] (by simp) rfl ?_ ?_
     ·simp[leVs,leV,le1]
     ·simp[leH]
  ·intro h1 h2;have hRt:R=true:=by rw[<-hv,List.drop_of_length_le (by omega)];rfl
   rw[hRt];simp -dsimp(disch:=omega) only[h2,Nat.reduceBEq,ru];refine rpq rfl ⟨tvq,tvq⟩ rfl
theorem iq76 (ts:List RT) (hl: ∀ t∈ts,t.1.length=8) (hn:ts.length<=1000000000000) (hv:validB ts=true):Den Tryz.prog 76 [] [PL ts] [] (.tup [PL ts,.int .i64 0]):=by
 have h1:=iq75 ts hl hn;rw[hv] at h1;refine den_of tabOk mixed Tryz.func76 (cd:=_) rfl (by decide) rfl (n:=7) rfl rfl (m:=0) rfl ?_;simp -dsimp(disch:=omega) only[replicate,rules];refine gp h1 rfl ?_;simp -dsimp(disch:=omega) only[Bool.not_true,ru];refine rpq rfl ⟨tvq,tvq,tvq⟩ rfl
theorem iq76n (ts:List RT) (hl: ∀ t∈ts,t.1.length=8) (hn:ts.length<=1000000000000) (hv:validB ts=false):Den Tryz.prog 76 [] [PL ts] [] (.tup [.fv (.sl []),.int .i64 9]):=by
 have h1:=iq75 ts hl hn;rw[hv] at h1;refine den_of tabOk mixed Tryz.func76 (cd:=_) rfl (by decide) rfl (n:=7) rfl rfl (m:=0) rfl ?_;simp -dsimp(disch:=omega) only[replicate,rules];refine gp h1 rfl ?_;simp -dsimp(disch:=omega) only[Bool.not_false,ru];refine rpq rfl ⟨tvq,tvq,tvq⟩ rfl
structure POk (k:Nat) (E:Int) (p:List Tm):Prop where
 canon:Canon p
 bd: ∀ t∈p,Bd k t.2
 exp: ∀ t∈p,∀ e∈t.1,0<=e/\e<=E
theorem POk.mono {j k:Nat} {E F:Int} {p:List Tm} (h:POk j E p) (hk:j<=k) (hE:E<=F):POk k F p:=
 ⟨h.canon,fun t ht=>(h.bd t ht).mono hk,fun t ht e he=>by have:=h.exp t ht e he;omega⟩
theorem getD_exp {m:List Int} {E:Int} (hE:0<=E) (h: ∀ x∈m,0<=x/\x<=E) (i:Nat):0<=m.getD i 0/\m.getD i 0<=E:=by
 rw[qa];cases hi:m[i]? with
 | none=>simp[hE]
 | some x=>exact h x (List.mem_of_getElem? hi)
theorem POk.at {k:Nat} {E:Int} {p:List Tm} (h:POk k E p) (hE:0<=E) (v:Nat): ∀ t∈p,0<=t.1.getD v 0/\t.1.getD v 0<=E:=fun t ht=>getD_exp hE (h.exp t ht) v
theorem POk.ts {k:Nat} {E:Int} {p:List Tm} (h:POk k E p) (hE:E<=1000000000000):TsOk k (p.map tn):=fun t ht=>by
 obtain⟨u,hu,rfl⟩:=mem_map.1 ht;exact⟨h.canon.len u hu,fun x hx=>by have:=h.exp u hu x hx;omega,cn_ok (h.bd u hu)⟩
theorem POk.prim {k:Nat} {E:Int} {p:List Tm} (h:POk k E p) (hE:0<=E) (hE2:E<=1000000) {v:Nat} (hv:v<8):POk (k+1) (E+1) (primL v p):=by
 refine⟨prim_canon hv h.canon (fun t ht=>(h.at hE v t ht).1),prim_bd h.bd (fun t ht=>by have:=h.at hE v t ht;omega),fun t ht e he=>?_⟩;obtain⟨u,hu,rfl⟩:=mem_map.1 ht;have h1:=h.at hE v u hu;rcases mem_or_eq_of_mem_set he with h2 | h2
 ·have:=h.exp u hu e h2;omega
 ·omega
theorem getD_map {p:List Tm} {i:Nat} (h:i<p.length):(p.map tn).getD i rt0=tn p[i]:=by
 rw[qa,List.getElem?_map,qb h];rfl
theorem prim_snoc {v i:Nat} {p:List Tm} (h:i<p.length):primL v (p.take (i+1))=primL v (p.take i)++[(p[i].1.set v (p[i].1.getD v 0+1),p[i].2 / (p[i].1.getD v 0+1))]:=by
 unfold primL;rw[List.take_add_one,qb h,qwb];rfl
theorem map_snoc (p:List Tm) (t:Tm):(p++[t]).map tn=p.map tn++[tn t]:=by rw[qwb];rfl
theorem iq77 (p:List Tm) (v k:Nat) (hv:v<8) (hp:POk k 1000000 p) (hn:p.length<=10000) (hk:k<=10000):Den Tryz.prog 77 [] [PL (p.map tn),.int .i64 v] [] (PL ((primL v p).map tn)):=by
 have hpr:=hp.prim (by decide) (by decide) hv;have hTs:TsOk 1000000000 ((primL v p).map tn):=fun t ht=>(hpr.ts (by decide) t ht).mono (by omega)
 have h44:=iq44 ((primL v p).map tn) hTs (by
  rw[map_tq_tn];exact PB.terms (n:=10000) (j:=10001) (by decide) (fun t ht=>(hpr.bd t ht).mono (by omega)) (by rw[prim_len];exact hn) (by decide)) (by rw[length_map,prim_len];omega)
 rw[map_tq_tn,nf_self hpr.canon] at h44;have rl:=rowsT_length (p.map tn);rw[length_map] at rl;obtain⟨n,hnn⟩:=ex1 (p.length);rw[hnn] at rl hn;have rT:=rowsT_length ((primL v p).map tn);rw[length_map,prim_len,hnn] at rT;have tkT:=take_rowsT (ts:=(primL v p).map tn) (n:=n) (by rw[length_map,prim_len];omega);refine den_of tabOk mixed Tryz.func77 (cd:=_) rfl (by decide) rfl (n:=44) rfl rfl (m:=0) rfl ?_;simp -dsimp(disch:=omega) only[replicate,rules];refine wl (α:=Nat) (fun i=>⟨[PL (p.map tn),.int .i64 v,.any,.any,.any,.lsl 0 0 i 11,.int .i64 i]++replicate 39 .any,[.row true (rowsT ((primL v (p.take i)).map tn))]⟩) (fun i=>n - i) (fun i=>i<=n) 0 ?_ (qsq _) ?_
 ·refine Weak.nil 5 11 (by decide) rfl ?_;refine wk [0] (by simp) rfl ?_ ?_
  ·simp[leVs,leV,le1]
  ·simp[leH,leO,primL,rowsT]
 ·intro i hi;have rli:=rowsT_length ((primL v (p.take i)).map tn);rw[length_map,prim_len,length_take,hnn,Nat.min_eq_left hi] at rli;have tki:=take_rowsT (ts:=(primL v (p.take i)).map tn) (n:=i) (by rw[length_map,prim_len,length_take];omega);simp -dsimp(disch:=omega) only[replicate,rl,↓reduceIte,ru];refine bd_ ?_ ?_
  ·intro h1 h2;have hil:i<p.length:=by omega
   have r1:=rowsT_getD (ts:=p.map tn) (i:=i) (by rw[length_map];omega);rw[getD_map hil] at r1;have hmem:p[i]∈p:=qqb hil;have hbi:=hp.bd _ hmem;have hme:=hp.at (by decide) v _ hmem;have hm:=hp.canon.len _ hmem;have hsn:=prim_snoc (v:=v) hil;obtain⟨t,ht⟩:=ex1 (p[i]);rw[ht] at r1 hbi hme hm hsn;have hap:=rowsT_snoc ((primL v (p.take i)).map tn) (tn (t.1.set v (t.1.getD v 0+1),t.2 / (t.1.getD v 0+1)));rw[<-map_snoc,<-hsn] at hap;obtain⟨x,hx⟩:=ex1 (t.1.getD v 0);rw[hx] at hme hap;have h59:=den59 1 (x+1) (by omega) (by omega) (by omega);have hb1:Bd 2 (((1:Int):Rat) / ((x+1:Int):Rat)):=Bd.div (j:=1) (k:=1) (bd_int (by decide)) (bd_int (qmb (show _<=1000001 by omega) (by decide))) (intCast_ne (by omega)) (by decide);have h32:=den32 (cn t.2) (cn (((1:Int):Rat) / ((x+1:Int):Rat))) ((cn_ok hbi).mono (by omega)) ((cn_ok hb1).mono (by omega))
   rw[cn_q,cn_q,show t.2*(((1:Int):Rat) / ((x+1:Int):Rat))=t.2 / (x+1) by rw[cast_succ];have:=intCast_ne (x:=x+1) (by omega);grind] at h32;change Den Tryz.prog 111 [] [.int .i64 1,.int .i64 (x+1)] [] (.tup [.agg (cn (((1:Int):Rat) / ((x+1:Int):Rat))).c,.int .i64 0]) at h59;change Den Tryz.prog 65 [] [.agg (cn t.2).c,.agg (cn (((1:Int):Rat) / ((x+1:Int):Rat))).c] [] (.agg (cn (t.2 / (x+1))).c) at h32;have t0:((t.1.set v (x+1),cn (t.2 / (x+1))):RT).1.length=8:=by simp[hm]
   have t1:((t.1.set v (x+1),cn t.2):RT).1.length=8:=by simp[hm]
   have t2:(tn t).1.length=8:=hm;have hput:=tmC_put (t:=tn t) (i:=v) (x:=x+1) hv hm;have hat:=tmC_at (t:=tn t) (i:=v) hv hm;have hat1:=tmC_at (t:=(t.1.set v (x+1),cn t.2)) (i:=v) hv t1;change List.take 1 (List.drop v (tmC (tn t)))=[PV.int .i64 (t.1.getD v 0)] at hat;rw[hx] at hat;dsimp only at hat1;rw[show(t.1.set v (x+1)).getD v 0=x+1 by rw[qa,qv (by omega)];rfl] at hat1;have cf:=tmC_coef t1;have pc:=tmC_putc (r:=cn (t.2 / (x+1))) t1;have f11:=tmF_take11 t2;have fl0:=tmF_length t2;have c11:=tmC_take11 t0;have cl0:=tmC_length t0;have cl1:=tmC_length t1;have cl2:=tmC_length t2;have f11z:=tmF_take11 t0;have fl0z:=tmF_length t0;obtain⟨y,hy⟩:=ex1 (cn (((1:Int):Rat) / ((x+1:Int):Rat)));rw[hy] at h59 h32;obtain⟨z,hz⟩:=ex1 (cn (t.2 / (x+1)));rw[hz] at h32 pc c11 cl0 f11z fl0z
   change List.take v (tmC (tn t))++[PV.int IntKind.i64 (x+1)]++List.drop (v+1) (tmC (tn t))=tmC (t.1.set v (x+1),cn t.2) at hput;change rowsT ((primL v (p.take i)).map tn)++[tmF (t.1.set v (x+1),cn (t.2 / ((x:Rat)+1)))]=_ at hap;rw[hz] at hap;have p1:((1:Int)<=0)=False:=by simp
   simp -dsimp(disch:=omega) only[h2,r1,rl,f11,tmF_fv,fl0,cl1,cl2,hat,hat1,hput,Nat.mul_one,append_nil,↓reduceIte,reduceAdd,reduceLT,reduceLeDiff,ru]
   repeat refine qy (by omega) ?_
   refine gp h59 rfl ?_;simp -dsimp(disch:=omega) only[c_reloc,append_nil,c_length,cf,cl1,↓reduceIte,reduceAdd,reduceLT,reduceLeDiff,ru]
   repeat refine qy (by omega) ?_
   refine gp h32 (by simp[fzAs,fzA,fzs_c,f_fv,c_take]) ?_;simp -dsimp(disch:=omega) only[ids_c,c_reloc,append_nil,c_length,c_take,pc,c11,cl0,cl1,fzs_tmC,ids_tmC,f11z,tki,rli,hap,↓reduceIte,reduceAdd,reduceMul,Nat.reduceBEq,reduceLT,reduceLeDiff,ru]
   repeat refine qy (by omega) ?_
   refine ap (i+1) (by omega) ?_ (by omega);refine wk [4] (by simp) rfl ?_ ?_
   ·simp[leVs,leV,le1]
   ·simp[leH,leO]
  ·intro h1 h2;have hi':p.take i=p:=qdq (by omega);have hin:i=n:=by omega
   subst hin;rw[hi'];simp -dsimp(disch:=omega) only[h2,rules,Nat.reduceBEq]
   repeat refine qy (by omega) ?_
   refine gp h44 (by simp[fzAs,fzA,fz1,fz0,tkT,rT]) ?_;simp -dsimp(disch:=omega) only[ru];refine rpq rfl ⟨tvq,tvq⟩ rfl
def lowB (v:Nat) (p:List Tm):Bool:=p.all (fun t=>decide (t.1.getD v 0+1<=1024))
abbrev nfR (ts:List RT):List Tm:=nf (ts.map tq)
theorem len8_map {ts:List RT} (h: ∀ t∈ts,t.1.length=8):Len8 (ts.map tq):=fun t ht=>by
 obtain⟨u,hu,rfl⟩:=mem_map.1 ht;exact h u hu
theorem validB_exp {ts:List RT} (h:validB ts=true): ∀ t∈ts,∀ e∈t.1,0<=e/\e<=1024:=fun t ht e he=>by
 unfold validB at h;rw[qob] at h;have h1:=h t ht;unfold validM at h1;rw[qob] at h1;simpa using h1 e he
theorem nfR_ok {ts:List RT} {j k n:Nat} (hj:1<=j) (h:TsOk j ts) (hn:ts.length<=n) (hk:n*(j+1)+1<=k) (hv:validB ts=true):POk k 1024 (nfR ts):=by
 have hb:PB k (ts.map tq):=PB.terms hj (fun t ht=>by
  obtain⟨u,hu,rfl⟩:=mem_map.1 ht;exact(h u hu).raw.bd hj) (by rw[length_map];exact hn) hk
 refine⟨nf_canon (len8_map h.l8),hb.nf.bd (by omega),fun t ht=>?_⟩;obtain⟨x,hx,he⟩:=nf_keys ht;obtain⟨u,hu,rfl⟩:=mem_map.1 hx;rw[<-he];exact validB_exp hv u hu
theorem fit_prim {p:List Tm} {k v:Nat} (h:POk k 1024 p) (hv:v<8):validB ((primL v p).map tn)=lowB v p:=by
 rw[Bool.eq_iff_iff];unfold validB lowB;rw[qob,qob];have key: ∀ u∈p,(validM (u.1.set v (u.1.getD v 0+1))=true↔u.1.getD v 0+1<=1024):=fun u hu=>by
  have h8:=h.canon.len u hu;have h0:=h.at (by decide) v u hu;unfold validM;rw[qob];constructor
  ·intro h1;have:=h1 (u.1.getD v 0+1) (List.mem_iff_getElem?.2 ⟨v,qv (by omega)⟩);rw[qtb] at this;exact of_decide_eq_true this.2
  ·intro h1 e he;rw[qtb];rcases mem_or_eq_of_mem_set he with h2 | h2
   ·have:=h.exp u hu e h2;exact⟨qbb (by omega),qbb (by omega)⟩
   ·exact⟨qbb (by omega),qbb (by omega)⟩
 constructor
 ·intro h1 u hu;refine qbb ((key u hu).1 ?_);exact h1 (tn (u.1.set v (u.1.getD v 0+1),u.2 / (u.1.getD v 0+1))) (mem_map.2 ⟨_,mem_map.2 ⟨u,hu,rfl⟩,rfl⟩)
 ·intro h1 t ht;obtain⟨w,hw,rfl⟩:=mem_map.1 ht;obtain⟨u,hu,rfl⟩:=mem_map.1 hw;exact(key u hu).2 (of_decide_eq_true (h1 u hu))
theorem nfR_len (ts:List RT):(nfR ts).length<=ts.length:=by
 have:=nf_len (ts.map tq);rwa [length_map] at this
def antV (ts:List RT) (v:Int):PV:=
 if validB ts=false then .tup [.fv (.sl []),.int .i64 2]
 else if v<0\/8<=v then .tup [.fv (.sl []),.int .i64 1]
 else if lowB v.toNat (nfR ts)=true then .tup [PL ((primL v.toNat (nfR ts)).map tn),.int .i64 0]
 else .tup [.fv (.sl []),.int .i64 9]
theorem iq28 (ts:List RT) (v:Int) (hw: -9223372036854775808<=v/\v<9223372036854775808) (h8:TsOk 10 ts) (hn:ts.length<=100):Den Tryz.prog 28 [] [PL ts,.int .i64 v] [] (antV ts v):=by
 have h75:=iq75 ts h8.l8 (by omega);have hb:PB 1000000000 (ts.map tq):=PB.terms (j:=10) (n:=100) (by decide) (fun t ht=>by
  obtain⟨u,hu,rfl⟩:=mem_map.1 ht;exact(h8 u hu).raw.bd (by decide)) (by rw[length_map];exact hn) (by decide)
 have h44:=iq44 ts (fun t ht=>(h8 t ht).mono (by decide)) hb (by omega);change Den Tryz.prog 44 [] [PL ts] [] (PL ((nfR ts).map tn)) at h44;have hnl:=nfR_len ts;unfold antV;by_cases hv:validB ts=true
 ·have hp:=nfR_ok (n:=100) (k:=10000) (by decide) h8 hn (by decide) hv;rw[hv] at h75;rw[if_neg (by rw[hv];decide)];by_cases hlo:v<0
  ·rw[if_pos (.inl hlo)];have e1:decide (v<0)=true:=qbb hlo;refine den_of tabOk mixed Tryz.func28 (cd:=_) rfl (by decide) rfl (n:=20) rfl rfl (m:=0) rfl ?_;simp -dsimp(disch:=omega) only[replicate,rules];refine gp h75 rfl ?_;simp -dsimp(disch:=omega) only[Bool.not_true,e1,↓reduceIte,ru];refine rpq rfl ⟨tvq,tvq,tvq⟩ rfl
  ·have e1:decide (v<0)=false:=qcb hlo;by_cases hhi:8<=v
   ·rw[if_pos (.inr hhi)];have e2:decide (v>=8)=true:=qbb hhi;refine den_of tabOk mixed Tryz.func28 (cd:=_) rfl (by decide) rfl (n:=20) rfl rfl (m:=0) rfl ?_;simp -dsimp(disch:=omega) only[replicate,rules];refine gp h75 rfl ?_;simp -dsimp(disch:=omega) only[Bool.not_true,e1,e2,↓reduceIte,ru];refine rpq rfl ⟨tvq,tvq,tvq⟩ rfl
   ·have e2:decide (v>=8)=false:=qcb hhi;rw[if_neg (by omega)];obtain⟨w,rfl⟩: ∃ w:Nat,v=(w:Int):=⟨v.toNat,by omega⟩;rw[Int.toNat_natCast];have hf:=fit_prim (v:=w) hp (by omega);have hpr:=(hp.mono (k:=10000) (F:=1000000) (by decide) (by decide)).prim (v:=w) (by decide) (by decide) (by omega);have hTs:=hpr.ts (by decide);have h77:=iq77 (nfR ts) w 10000 (by omega) (hp.mono (by decide) (by decide)) (by omega) (by decide);have hll:((primL w (nfR ts)).map tn).length<=1000000000000:=by rw[length_map,prim_len];omega
    by_cases hl:lowB w (nfR ts)=true
    ·rw[if_pos hl];have h76:=iq76 ((primL w (nfR ts)).map tn) hTs.l8 hll (by rw[hf,hl]);obtain⟨P,hP⟩:=ex1 ((nfR ts).map tn);obtain⟨Q,hQ⟩:=ex1 ((primL w (nfR ts)).map tn);rw[hP] at h44 h77;rw[hQ] at h77 h76 ⊢;refine den_of tabOk mixed Tryz.func28 (cd:=_) rfl (by decide) rfl (n:=20) rfl rfl (m:=0) rfl ?_;simp -dsimp(disch:=omega) only[replicate,rules];refine gp h75 rfl ?_;simp -dsimp(disch:=omega) only[Bool.not_true,e1,e2,↓reduceIte,ru];refine gp h44 rfl ?_;simp -dsimp(disch:=omega) only[rules];refine gp h77 rfl ?_;simp -dsimp(disch:=omega) only[rules];refine gp h76 rfl ?_;simp -dsimp(disch:=omega) only[ru];refine rpq rfl ⟨tvq,tvq,tvq⟩ rfl
    ·rw[if_neg hl];have h76:=iq76n ((primL w (nfR ts)).map tn) hTs.l8 hll (by rw[hf];simpa using hl);obtain⟨P,hP⟩:=ex1 ((nfR ts).map tn);obtain⟨Q,hQ⟩:=ex1 ((primL w (nfR ts)).map tn);rw[hP] at h44 h77;rw[hQ] at h77 h76;refine den_of tabOk mixed Tryz.func28 (cd:=_) rfl (by decide) rfl (n:=20) rfl rfl (m:=0) rfl ?_;simp -dsimp(disch:=omega) only[replicate,rules];refine gp h75 rfl ?_;simp -dsimp(disch:=omega) only[Bool.not_true,e1,e2,↓reduceIte,ru];refine gp h44 rfl ?_;simp -dsimp(disch:=omega) only[rules];refine gp h77 rfl ?_;simp -dsimp(disch:=omega) only[rules];refine gp h76 rfl ?_;simp -dsimp(disch:=omega) only[ru];refine rpq rfl ⟨tvq,tvq,tvq⟩ rfl
 ·have hvf:validB ts=false:=by simpa using hv
  rw[if_pos hvf];rw[hvf] at h75;refine den_of tabOk mixed Tryz.func28 (cd:=_) rfl (by decide) rfl (n:=20) rfl rfl (m:=0) rfl ?_;simp -dsimp(disch:=omega) only[replicate,rules];refine gp h75 rfl ?_;simp -dsimp(disch:=omega) only[Bool.not_false,ru];refine rpq rfl ⟨tvq,tvq,tvq⟩ rfl
theorem lowB_take {v:Nat} {p:List Tm} {i:Nat} (h:i<p.length):lowB v (p.take (i+1))=(lowB v (p.take i)&&decide (p[i].1.getD v 0+1<=1024)):=by
 unfold lowB;rw[List.take_add_one,qb h,qvb];simp
theorem lowB_false {v:Nat} {p:List Tm} {i:Nat} (h:i<p.length) (h2: ¬p[i].1.getD v 0+1<=1024):lowB v p=false:=by
 unfold lowB;rw[List.all_eq_false];exact⟨p[i],qqb h,by simpa using h2⟩
theorem bld_len {m:List Int} (h:m.length=8) (a b c:PV):(mC m++[a,b,c]).length=11:=by rw[qe,mC_length,h];rfl
theorem bld_put {m:List Int} (h:m.length=8) (a b c:PV) (r:Raw):List.take 8 (mC m++[a,b,c])++r.c++List.drop 11 (mC m++[a,b,c])=tmC (m,r):=by
 rw[List.drop_of_length_le (by rw[bld_len h];omega),List.take_append_of_le_length (by rw[mC_length];omega),mC_take h,append_nil];rfl
theorem iq27 (ts:List RT) (v:Int) (hw: -9223372036854775808<=v/\v<9223372036854775808) (h8:TsOk 500000 ts) (hn:ts.length<=20) (hs:(nfR ts).length<=sortMax):Den Tryz.prog 27 [] [PL ts,.int .i64 v] [] (antV ts v):=by
 have hb:PB 1000000000 (ts.map tq):=PB.terms (j:=500000) (n:=20) (by decide) (fun t ht=>by
  obtain⟨u,hu,rfl⟩:=mem_map.1 ht;exact(h8 u hu).raw.bd (by decide)) (by rw[length_map];exact hn) (by decide)
 have hnl:=nfR_len ts;unfold antV;by_cases hv:validB ts=true
 ·have hp:=nfR_ok (n:=20) (k:=20000000) (by decide) h8 hn (by decide) hv;have h61:=iq61 ts (fun t ht=>(h8 t ht).mono (by decide)) hb (by omega) hs hv;change Den Tryz.prog 61 [] [PL ts] [] (.tup [PL ((nfR ts).map tn),.int .i64 0]) at h61;rw[if_neg (by rw[hv];decide)];obtain⟨p,hpp⟩:=ex1 (nfR ts);rw[hpp] at h61 hp hnl hs ⊢;have h00:((0:Int) !=0)=false:=rfl;by_cases hlo:v<0
  ·rw[if_pos (.inl hlo)];have e1:decide (v<0)=true:=qbb hlo;refine den_of tabOk mixed Tryz.func27 (cd:=_) rfl (by decide) rfl (n:=65) rfl rfl (m:=0) rfl ?_;simp -dsimp(disch:=omega) only[replicate,rules];refine gp h61 rfl ?_;simp -dsimp(disch:=omega) only[e1,h00,↓reduceIte,ru];refine rpq rfl ⟨tvq,tvq,tvq⟩ rfl
  ·have e1:decide (v<0)=false:=qcb hlo;by_cases hhi:8<=v
   ·rw[if_pos (.inr hhi)];have e2:decide (v>=8)=true:=qbb hhi;refine den_of tabOk mixed Tryz.func27 (cd:=_) rfl (by decide) rfl (n:=65) rfl rfl (m:=0) rfl ?_;simp -dsimp(disch:=omega) only[replicate,rules];refine gp h61 rfl ?_;simp -dsimp(disch:=omega) only[e1,e2,h00,↓reduceIte,ru];refine rpq rfl ⟨tvq,tvq,tvq⟩ rfl
   ·have e2:decide (v>=8)=false:=qcb hhi;rw[if_neg (by omega)];obtain⟨w,rfl⟩: ∃ w:Nat,v=(w:Int):=⟨v.toNat,by omega⟩;rw[Int.toNat_natCast];have hw8:w<8:=by omega
    have hf:=fit_prim (v:=w) hp hw8;have hpr:=(hp.mono (k:=20000000) (F:=1000000) (by decide) (by decide)).prim (v:=w) (by decide) (by decide) hw8;have hTs:=hpr.ts (by decide);have hB2:PB 1000000000 (primL w p):=PB.terms (n:=20) (j:=20000001) (by decide) hpr.bd (by rw[prim_len];omega) (by decide);obtain⟨R,hR⟩: ∃ R:PV,(if lowB w p=true then PV.tup [PL ((primL w p).map tn),.int .i64 0] else .tup [.fv (.sl []),.int .i64 9])=R:=⟨_,rfl⟩;rw[hR];have rl:=rowsT_length (p.map tn);rw[length_map] at rl;obtain⟨n,hnn⟩:=ex1 (p.length);rw[hnn] at rl hnl;have rT:=rowsT_length ((primL w p).map tn);rw[length_map,prim_len,hnn] at rT;have tkT:=take_rowsT (ts:=(primL w p).map tn) (n:=n) (by rw[length_map,prim_len];omega)
    have h61b:=fun h=>iq61 ((primL w p).map tn) (fun t ht=>(hTs t ht).mono (by decide)) (by rw[map_tq_tn];exact hB2) (by rw[length_map,prim_len];omega) (by rw[map_tq_tn,nf_self hpr.canon,prim_len];exact hs) h
    rw[map_tq_tn,nf_self hpr.canon,hf] at h61b;refine den_of tabOk mixed Tryz.func27 (cd:=_) rfl (by decide) rfl (n:=65) rfl rfl (m:=0) rfl ?_;simp -dsimp(disch:=omega) only[replicate,rules];refine gp h61 rfl ?_;simp -dsimp(disch:=omega) only[e1,e2,h00,rl,↓reduceIte,ru];refine wl (α:=Nat) (fun i=>⟨[PL (p.map tn),.int .i64 w,.any,.any,.any,.any,.any,.lsl 0 0 i 11]++replicate 18 .any++[PL (p.map tn),.int .i64 n,.int .i64 i]++replicate 38 .any,[.row true (rowsT ((primL w (p.take i)).map tn))]⟩) (fun i=>n - i) (fun i=>i<=n/\lowB w (p.take i)=true) 0 ?_ ⟨qsq _,rfl⟩ ?_
    ·refine Weak.nil 7 11 (by decide) rfl ?_;refine wk [0] (by simp) rfl ?_ ?_
     ·simp[leVs,leV,le1]
     ·simp[leH,leO,primL,rowsT]
    ·rintro i ⟨hi,hlw⟩;have rli:=rowsT_length ((primL w (p.take i)).map tn);rw[length_map,prim_len,length_take,hnn,Nat.min_eq_left hi] at rli;have tki:=take_rowsT (ts:=(primL w (p.take i)).map tn) (n:=i) (by rw[length_map,prim_len,length_take];omega);simp -dsimp(disch:=omega) only[replicate,↓reduceIte,ru];refine bd_ ?_ ?_
     ·intro h1 h2;have hil:i<p.length:=by omega
      have r1:=rowsT_getD (ts:=p.map tn) (i:=i) (by rw[length_map];omega);rw[getD_map hil] at r1;have hmem:p[i]∈p:=qqb hil;have hbi:=hp.bd _ hmem;have hme:=hp.at (by decide) w _ hmem;have hm:=hp.canon.len _ hmem;have hsn:=prim_snoc (v:=w) hil;have hlt:=lowB_take (v:=w) hil;have hlf:=lowB_false (v:=w) hil;obtain⟨t,ht⟩:=ex1 (p[i]);rw[ht] at r1 hbi hme hm hsn hlt hlf;have hap:=rowsT_snoc ((primL w (p.take i)).map tn) (tn (t.1.set w (t.1.getD w 0+1),t.2 / (t.1.getD w 0+1)));rw[<-map_snoc,<-hsn] at hap;obtain⟨x,hx⟩:=ex1 (t.1.getD w 0);rw[hx] at hme hap hlt hlf;have t1:((t.1.set w (x+1),cn t.2):RT).1.length=8:=by simp[hm]
      have t2:(tn t).1.length=8:=hm;have hput:=tmC_put (t:=tn t) (i:=w) (x:=x+1) hw8 hm;change List.take w (tmC (tn t))++[PV.int IntKind.i64 (x+1)]++List.drop (w+1) (tmC (tn t))=tmC (t.1.set w (x+1),cn t.2) at hput;have hat:=tmC_at (t:=tn t) (i:=w) hw8 hm;have hat1:=tmC_at (t:=(t.1.set w (x+1),cn t.2)) (i:=w) hw8 t1;change List.take 1 (List.drop w (tmC (tn t)))=[PV.int .i64 (t.1.getD w 0)] at hat;rw[hx] at hat;dsimp only at hat1;rw[show(t.1.set w (x+1)).getD w 0=x+1 by rw[qa,qv (by omega)];rfl] at hat1;have f11:=tmF_take11 t2;have fl0:=tmF_length t2;have cl1:=tmC_length t1;have cl2:=tmC_length t2;by_cases hxl:x+1<=1024
      ·have e3:decide (x+1>1024)=false:=qcb (by omega);have h47:=den47 (x+1) (by omega);have hb1:Bd 1 ((x+1:Int):Rat):=bd_int (qmb (show _<=1000001 by omega) (by decide));have h40:=den40 (cn t.2) (cn ((x+1:Int):Rat)) ((cn_ok hbi).mono (by decide)) ((cn_ok hb1).mono (by decide)) (by rw[cn_q];exact intCast_ne (by omega));rw[cn_q,cn_q,<-cast_succ] at h40;change Den Tryz.prog 74 [] [.int .i64 (x+1)] [] (.agg (cn ((x+1:Int):Rat)).c) at h47;rw[<-cast_succ] at h47;change Den Tryz.prog 73 [] [.agg (cn t.2).c,.agg (cn ((x:Rat)+1)).c] [] (.tup [.agg (cn (t.2 / ((x:Rat)+1))).c,.int .i64 0]) at h40;change rowsT ((primL w (p.take i)).map tn)++[tmF (t.1.set w (x+1),cn (t.2 / ((x:Rat)+1)))]=_ at hap;rw[qbb hxl,hlw] at hlt;have cf:=tmC_coef t1;have c8:=tmC_take8 t1;obtain⟨y,hy⟩:=ex1 (cn ((x:Rat)+1));rw[hy] at h47 h40;obtain⟨z,hz⟩:=ex1 (cn (t.2 / ((x:Rat)+1)));rw[hz] at h40 hap
       have t0:((t.1.set w (x+1),z):RT).1.length=8:=by simp[hm]
       have c11:=tmC_take11 t0;have cl0:=tmC_length t0;have f11z:=tmF_take11 t0;have fl0z:=tmF_length t0;have ml:=mC_length (t.1.set w (x+1));rw[length_set,hm] at ml;have mt:=mC_take t0;have m8:(t.1.set w (x+1)).length=8:=by simp[hm]
       have clz:=bld_len m8 (.fv (.lit (.bool false))) PV.nilsl PV.nilsl;have pc:=bld_put m8 (.fv (.lit (.bool false))) PV.nilsl PV.nilsl z;simp -dsimp(disch:=omega) only[h2,r1,rl,f11,tmF_fv,fl0,cl1,cl2,hat,hat1,hput,Nat.mul_one,append_nil,e3,↓reduceIte,reduceAdd,reduceLT,reduceLeDiff,ru]
       repeat refine qy (by omega) ?_
       refine dw (by kernel_rfl) ?_;simp -dsimp(disch:=omega) only[Nat.mul_one,hat1,cf,cl1,↓reduceIte,reduceAdd,reduceLT,reduceLeDiff,ru]
       repeat refine qy (by omega) ?_
       refine gp h47 rfl ?_;simp -dsimp(disch:=omega) only[c_reloc,append_nil,rules,reduceAdd];refine gp h40 (by simp[fzAs,fzA,fzs_c,f_fv]) ?_;simp -dsimp(disch:=omega) only[ids_c,c_reloc,append_nil,c_length,c_take,c8,ml,clz,pc,cl0,cl1,fzs_tmC,ids_tmC,f11z,tki,rli,hap,↓reduceIte,reduceAdd,reduceMul,Nat.reduceBEq,reduceLT,reduceLeDiff,ru]
       repeat refine qy (by omega) ?_
       refine ap (i+1) (by omega) ?_ ⟨by omega,hlt⟩;refine wk [4] (by simp) rfl ?_ ?_
       ·simp[leVs,leV,le1]
       ·simp[leH,leO]
      ·have e3:decide (x+1>1024)=true:=qbb (by omega);have hl:=hlf hxl;rw[if_neg (by rw[hl];decide)] at hR;subst hR;simp -dsimp(disch:=omega) only[h2,r1,rl,f11,tmF_fv,fl0,cl1,cl2,hat,hat1,hput,Nat.mul_one,append_nil,e3,↓reduceIte,reduceAdd,reduceLT,reduceLeDiff,ru]
       repeat refine qy (by omega) ?_
       refine rpq rfl ⟨tvq,tvq,tvq⟩ rfl
     ·intro h1 h2;have hi':p.take i=p:=qdq (by omega);have hin:i=n:=by omega
      subst hin;rw[hi'] at hlw ⊢;rw[if_pos hlw] at hR;subst hR;have h61c:=h61b hlw;simp -dsimp(disch:=omega) only[h2,rules,Nat.reduceBEq]
      repeat refine qy (by omega) ?_
      refine gp h61c (by simp[fzAs,fzA,fz1,fz0,tkT,rT]) ?_;simp -dsimp(disch:=omega) only[ru];refine rpq rfl ⟨tvq,tvq,tvq⟩ rfl
 ·have hvf:validB ts=false:=by simpa using hv
  rw[if_pos hvf];have h61:=iq61n ts (fun t ht=>(h8 t ht).mono (by decide)) (by omega) hvf;have h20:((2:Int) !=0)=true:=rfl;refine den_of tabOk mixed Tryz.func27 (cd:=_) rfl (by decide) rfl (n:=65) rfl rfl (m:=0) rfl ?_;simp -dsimp(disch:=omega) only[replicate,rules];refine gp h61 rfl ?_;simp -dsimp(disch:=omega) only[h20,↓reduceIte,ru];refine rpq rfl ⟨tvq,tvq,tvq⟩ rfl
abbrev eqV:PV:= .fv (.lit (.func (.func 254) #[] #[]))
def Asc (l:List (List Raw)) (i:Nat):Prop:= ∀ p q,p<q->q<i->cmpR (l.getD p []) (l.getD q [])<0
structure Cmp (ls cur:List (List Raw)) (i j:Nat):Prop where
 len:cur.length=ls.length
 pos:1<=i
 lt:i+1<=j
 le:j<=ls.length
 same: ∀ q,i<=q->cur.getD q []=ls.getD q []
 asc:Asc cur i
 sub: ∀ q,q<i->cur.getD q []∈ls
 sup: ∀ p,p<j-> ∃ q,q<i/\cur.getD q []=ls.getD p []
 last:cur.getD (i - 1) []=ls.getD (j - 1) []
theorem at_mem {ls:List (List Raw)} {i:Nat} (h:i<ls.length):ls.getD i []∈ls:=mem_getD.2 ⟨i,h,rfl⟩
theorem getD_set {ls:List (List Raw)} {i q:Nat} {x:List Raw} (h:i<ls.length):(ls.set i x).getD q []=if q=i then x else ls.getD q []:=by
 simp only[qa,List.getElem?_set];by_cases hq:i=q
 ·subst hq;rw[if_pos rfl,if_pos h,if_pos rfl];rfl
 ·rw[if_neg hq,if_neg (fun e=>hq e.symm)]
theorem Cmp.skip {ls cur:List (List Raw)} {i j:Nat} (h:Cmp ls cur i j) (hj:j<ls.length) (he:ls.getD j []=ls.getD (j - 1) []):Cmp ls cur i (j+1):=by
 have hp:=h.pos;have hlt:=h.lt;refine⟨h.len,h.pos,by omega,by omega,h.same,h.asc,h.sub,fun p hp2=>?_,?_⟩
 ·by_cases hpj:p=j
  ·subst hpj;rw[he];exact h.sup (p - 1) (by omega)
  ·exact h.sup p (by omega)
 ·rw[Nat.add_sub_cancel,he];exact h.last
theorem Cmp.take {ls cur:List (List Raw)} {i j:Nat} {k:Nat} (hok:AOk k ls) (h:Cmp ls cur i j) (hcan: ∀ a∈ls,∀ b∈ls,cmpR a b=0->a=b) (hord: ∀ p q,p<q->q<ls.length->cmpR (ls.getD p []) (ls.getD q [])<=0) (hj:j<ls.length)
 (he:cmpR (ls.getD j []) (ls.getD (j - 1) [])≠0):Cmp ls (cur.set i (ls.getD j [])) (i+1) (j+1):=by
 have hp:=h.pos
 have hlt:=h.lt
 have hl:=h.len
 have hic:i<cur.length:=by omega
 have hstep:cmpR (ls.getD (j - 1) []) (ls.getD j [])<0:=by
  have h1:=hord (j - 1) j (by omega) hj;have h2:=cmpR_swap (ls.getD j []) (ls.getD (j - 1) []);omega
 refine⟨by rw[length_set];exact hl,by omega,by omega,by omega,fun q hq=>?_,fun p q hpq hq=>?_,fun q hq=>?_,fun p hp2=>?_,?_⟩
 ·rw[getD_set hic,if_neg (by omega)];exact h.same q (by omega)
 ·rw[getD_set hic,getD_set hic,if_neg (show¬p=i by omega)]
  by_cases hqi:q=i
  ·rw[if_pos hqi]
   have h9: ∀ f∈ls,f.length=9:=fun f hf=>(hok f hf).len
   have m1:=h.sub p (by omega)
   have m2:=at_mem (i:=j) hj
   by_cases hpi:p=i - 1
   ·rw[hpi,h.last];exact hstep
   ·have h1:=h.asc p (i - 1) (by omega) (by omega)
    rw[h.last] at h1
    have h3:=cmpR_trans _ _ _ (by rw[h9 _ m1,h9 _ (at_mem (i:=j - 1) (by omega))]) (by rw[h9 _ (at_mem (i:=j - 1) (by omega)),h9 _ m2]) (Int.le_of_lt h1) (Int.le_of_lt hstep)
    rcases Int.lt_or_eq_of_le h3 with h4 | h4
    ·exact h4
    ·exfalso
     have h5:=hcan _ m1 _ m2 h4
     rw[h5,cmpR_swap] at h1
     omega
  ·rw[if_neg hqi];exact h.asc p q hpq (by omega)
 ·rw[getD_set hic]
  split
  ·exact at_mem hj
  ·exact h.sub q (by omega)
 ·by_cases hpj:p=j
  ·exact⟨i,by omega,by rw[getD_set hic,if_pos rfl,hpj]⟩
  ·obtain⟨q,hq,hqe⟩:=h.sup p (by omega)
   exact⟨q,by omega,by rw[getD_set hic,if_neg (by omega)];exact hqe⟩
 ·rw[getD_set hic,if_pos (by omega),Nat.add_sub_cancel]
structure CompOf (ls out:List (List Raw)):Prop where
 sorted:out.Pairwise (fun a b=>cmpR a b<0)
 mem: ∀ f,f∈out↔f∈ls
theorem pairwise_of {l:List (List Raw)} (h:Asc l l.length):l.Pairwise (fun a b=>cmpR a b<0):=by
 rw[List.pairwise_iff_getElem];intro p q hp hq hpq;have:=h p q hpq hq;rw[qa,qb hp,qa,qb hq] at this;exact this
theorem Cmp.done {ls cur:List (List Raw)} {i:Nat} (h:Cmp ls cur i ls.length):CompOf ls (cur.take i):=by
 have hlt:=h.lt;have hl:=h.len;have hg: ∀ q,q<i->(cur.take i).getD q []=cur.getD q []:=fun q hq=>by
  rw[qa,List.getElem?_take,if_pos hq,qa]
 have hli:(cur.take i).length=i:=by rw[length_take];omega
 refine⟨pairwise_of (fun p q hpq hq=>?_),fun f=>?_⟩
 ·rw[hli] at hq;rw[hg p (by omega),hg q hq];exact h.asc p q hpq hq
 ·rw[mem_getD];constructor
  ·rintro⟨q,hq,rfl⟩;rw[hli] at hq;rw[hg q hq];exact h.sub q hq
  ·intro hf;obtain⟨p,hp,rfl⟩:=mem_getD.1 hf;obtain⟨q,hq,he⟩:=h.sup p hp;exact⟨q,by rw[hli];exact hq,by rw[hg q hq];exact he⟩
theorem comp_all {ls:List (List Raw)} (h:Asc ls ls.length):CompOf ls ls:=⟨pairwise_of h,fun _=>Iff.rfl⟩
theorem pd88 (ls:List (List Raw)) (hok:AOk 1000000000 ls) (hn:ls.length<=1000) (hcan: ∀ a∈ls,∀ b∈ls,cmpR a b=0->a=b) (hord: ∀ p q,p<q->q<ls.length->cmpR (ls.getD p []) (ls.getD q [])<=0):
 ∃ H1 res,(fun H1 res=> ∃ out,H1=[.row true (rowsF out)]/\res=PV.lsl 0 0 out.length 27/\CompOf ls out) H1 res/\Den Tryz.prog 204 [.row true (rowsF ls)] [.lsl 0 0 ls.length 27,eqV] H1 res:=by
 obtain⟨n,hnn⟩:=ex1 (ls.length)
 rw[hnn] at hn ⊢
 refine den_some tabOk mixed Tryz.func204 (cd:=_) rfl (by decide) rfl (n:=64) rfl rfl (m:=1) rfl ?_
 simp -dsimp(disch:=omega) only[replicate,↓reduceIte,ru]
 refine bd_ ?_ ?_
 ·intro h1 h2
  simp -dsimp(disch:=omega) only[h2,Ap_endR_ret,rules]
  exact⟨[.row true (rowsF ls)],.lsl 0 0 n 27,⟨ls,rfl,by rw[hnn],comp_all (fun p q h3 h4=>by omega)⟩,rl_ (cd:=True/\True) (vs:=[.lsl 0 0 n 27]) rfl ⟨tvq,tvq⟩ rfl trivial rfl rfl rfl⟩
 ·intro h1 h2
  simp -dsimp(disch:=omega) only[h2,rules]
  refine wl (α:=Nat) (fun k=>⟨[.lsl 0 0 n 27,eqV,.any,.any,.nilsl,.int .i64 k]++replicate 60 .any,[.row true (rowsF ls)]⟩)
   (fun k=>n+1 - k) (fun k=>1<=k/\k<=n/\Asc ls k) 1 ?_ ?_ ?_
  ·refine wk [0] (by simp) rfl ?_ ?_
   ·simp[leVs,leV,le1]
   ·simp[leH,leO]
  ·exact⟨qp _,by omega,fun p q h3 h4=>by omega⟩
  ·rintro k ⟨hk1,hkn,hasc⟩
   simp -dsimp(disch:=omega) only[replicate,↓reduceIte,ru]
   refine bd_ ?_ ?_
   ·intro h3 h4
    obtain⟨m,rfl⟩: ∃ m,k=m+1:=⟨k - 1,by omega⟩
    have hp1:(((m+1:Nat):Int) - 1)=(m:Int):=by omega
    have hx:=hok.at (i:=m+1) (by omega)
    have hy:=hok.at (i:=m) (by omega)
    have hden:=pd89 _ _ hx hy
    have r1:=rowsF_getD ls (m+1)
    have r2:=rowsF_getD ls m
    obtain⟨x,hxx⟩:=ex1 (ls.getD (m+1) [])
    obtain⟨y,hyy⟩: ∃ x,ls.getD m []=x:=⟨_,rfl⟩
    rw[hxx] at hx hden r1
    rw[hyy] at hy hden r2
    have rl:=rowsF_length ls
    have x27:=flatF_take27 hx.len
    have y27:=flatF_take27 hy.len
    have fx:=flatF_length x
    have fy:=flatF_length y
    have lx:=hx.len
    have ly:=hy.len
    obtain⟨z,hz⟩:=ex1 (cmpR x y)
    rw[hz] at hden
    unfold RL at hden
    simp -dsimp(disch:=omega) only[h4,rules]
    refine dw (by kernel_rfl) ?_
    simp -dsimp(disch:=omega) only[hp1,r1,r2,x27,y27,flatF_fv,rl,↓reduceIte,ru]
    repeat refine qy (by omega) ?_
    refine gp hden (by simp[fzAs,fzA,flat_fz,flatF_fv]) ?_
    simp -dsimp(disch:=omega) only[flat_ids,append_nil,rules]
    refine Br.beqInt ?_ ?_
    ·intro h5 h6
     simp -dsimp(disch:=omega) only[h6,↓reduceIte,ru]
     repeat refine qy (by omega) ?_
     have hq0:Cmp ls ls (m+1) (m+1+1):=by
      refine⟨rfl,by omega,qp _,by omega,fun q _=>rfl,hasc,fun q hq=>at_mem (by omega),fun p hp=>?_,?_⟩
      ·by_cases hpm:p=m+1
       ·refine⟨m,by omega,?_⟩;rw[hpm,hxx,hyy];exact(hcan _ (hxx ▸ at_mem (by omega)) _ (hyy ▸ at_mem (by omega)) (by rw[hz];exact h5)).symm
       ·exact⟨p,by omega,rfl⟩
      ·rw[show m+1 - 1=m by omega,show m+1+1 - 1=m+1 by omega,hxx,hyy];exact(hcan _ (hxx ▸ at_mem (by omega)) _ (hyy ▸ at_mem (by omega)) (by rw[hz];exact h5)).symm
     clear hden hxx hyy hx hy x27 y27 fx fy lx ly r1 r2 hz
     refine wl (α:=Nat×Nat×List (List Raw)) (fun⟨i,k2,cur⟩=>⟨[.lsl 0 0 n 27,eqV,.any,.any,.nilsl,.int .i64 i,.lsl 0 (m+1) (n - (m+1)) 27,.int .i64 k2]++replicate 58 .any,[.row true (rowsF cur)]⟩)
      (fun⟨_,k2,_⟩=>n - k2) (fun⟨i,k2,cur⟩=>1<=k2/\Cmp ls cur i (m+1+k2)) (m+1,1,ls) ?_ ?_ ?_
     ·refine wk [0] (by simp) rfl ?_ ?_
      ·simp[leVs,leV,le1]
      ·simp[leH,leO]
     ·exact⟨qp _,hq0⟩
     ·rintro⟨i,k2,cur⟩ ⟨hk2,hc⟩
      have hcl:=hc.len
      have hclt:=hc.lt
      have hcle:=hc.le
      simp -dsimp(disch:=omega) only[replicate,↓reduceIte,ru]
      refine bd_ ?_ ?_
      ·intro g1 g2
       obtain⟨p,rfl⟩: ∃ p,k2=p+1:=⟨k2 - 1,by omega⟩
       have hp1:(((p+1:Nat):Int) - 1)=(p:Int):=by omega
       have e1:cur.getD (m+1+(p+1)) []=ls.getD (m+1+(p+1)) []:=hc.same _ (by omega)
       have e2:cur.getD (m+1+p) []=ls.getD (m+1+p) []:=hc.same _ (by omega)
       have hx:=hok.at (i:=m+1+(p+1)) (by omega)
       have hy:=hok.at (i:=m+1+p) (by omega)
       have hden:=pd89 _ _ hx hy
       have r1:=rowsF_getD cur (m+1+(p+1))
       have r2:=rowsF_getD cur (m+1+p)
       have r4:=rowsF_getD cur i
       have hil:(cur.getD i []).length=9:=by rw[hc.same i (qp _)];exact(hok.at (by omega)).len
       have fi:=flatF_length (cur.getD i [])
       rw[e1] at r1
       rw[e2] at r2
       obtain⟨x,hxx⟩:=ex1 (ls.getD (m+1+(p+1)) [])
       obtain⟨y,hyy⟩: ∃ x,ls.getD (m+1+p) []=x:=⟨_,rfl⟩
       obtain⟨c0,hc0⟩: ∃ x,cur.getD i []=x:=⟨_,rfl⟩
       rw[hc0] at r4 hil fi
       rw[hxx] at hx hden r1
       rw[hyy] at hy hden r2
       have rl2:=rowsF_length cur
       have x27:=flatF_take27 hx.len
       have y27:=flatF_take27 hy.len
       have fx:=flatF_length x
       have fy:=flatF_length y
       have lx:=hx.len
       have ly:=hy.len
       have gx:=flat_length x
       have di:List.drop 27 (flatF c0)=[]:=flatF_drop27 hil
       have hst:(rowsF cur).set i (flatF x)=rowsF (cur.set i x):=rowsF_set cur i x
       obtain⟨z,hz⟩:=ex1 (cmpR x y)
       rw[hz] at hden
       obtain⟨bz,hbz⟩: ∃ b,(z==0)=b:=⟨_,rfl⟩
       rw[hbz] at hden
       unfold RL at hden
       simp -dsimp(disch:=omega) only[g2,rules]
       refine dw (by kernel_rfl) ?_
       simp -dsimp(disch:=omega) only[hp1,r1,r2,x27,y27,flatF_fv,rl2,↓reduceIte,ru]
       repeat refine qy (by omega) ?_
       refine gp hden (by simp[fzAs,fzA,flat_fz,flatF_fv]) ?_
       cases bz with
       | true=>
        have hz0:z=0:=by simpa using hbz
        simp -dsimp(disch:=omega) only[Bool.not_true,↓reduceIte,ru,zu];refine ap (i,p+1+1,cur) (by dsimp only;omega) ?_ ⟨by omega,?_⟩
        ·refine wk [0] (by simp) rfl ?_ ?_
         ·simp[leVs,leV,le1]
         ·simp[leH,leO]
        ·refine hc.skip (by omega) ?_;rw[show m+1+(p+1) - 1=m+1+p by omega,hxx,hyy];exact hcan _ (hxx ▸ at_mem (by omega)) _ (hyy ▸ at_mem (by omega)) (by rw[hz];exact hz0)
       | false=>
        have hz0:z≠0:=by simpa using hbz
        simp -dsimp(disch:=omega) only[Bool.not_false,r1,r4,x27,flatF_fv,rl2,fi,hil,gx,lx,di,fx,hst,↓reduceIte,reduceMul,reduceLT,reduceLeDiff,ru,zu]
        repeat refine qy (by omega) ?_
        refine ap (i+1,p+1+1,cur.set i x) (by dsimp only;omega) ?_ ⟨by omega,?_⟩
        ·refine wk [0] (by simp) rfl ?_ ?_
         ·simp[leVs,leV,le1]
         ·simp[leH,leO]
        ·have:=hc.take hok hcan hord (by omega) (by rw[show m+1+(p+1) - 1=m+1+p by omega,hxx,hyy,hz];exact hz0);rw[hxx] at this;exact this
      ·intro g1 g2
       have hkk:m+1+k2=ls.length:=by omega
       rw[hkk] at hc
       have hdone:=hc.done
       have rl2:=rowsF_length cur
       have htk:List.take i (rowsF cur)=rowsF (cur.take i):=by simp[rowsF]
       have htl:(cur.take i).length=i:=by rw[length_take];omega
       simp -dsimp(disch:=omega) only[g2,rl2,htk,Ap_endR_ret,↓reduceIte,Nat.reduceBEq,ru]
       repeat refine qy (by omega) ?_
       exact⟨[.row true (rowsF (cur.take i))],.lsl 0 0 i 27,⟨cur.take i,rfl,by rw[htl],hdone⟩,rl_ (cd:=True/\True) (vs:=[.lsl 0 0 i 27]) rfl ⟨tvq,tvq⟩ rfl trivial rfl rfl rfl⟩
    ·intro h5 h6
     simp -dsimp(disch:=omega) only[h6,↓reduceIte,ru]
     refine ap (m+1+1) (by omega) ?_ ⟨by omega,by omega,fun p q h7 h8=>?_⟩
     ·refine wk [0] (by simp) rfl ?_ ?_
      ·simp[leVs,leV,le1]
      ·simp[leH,leO]
     ·by_cases hq:q=m+1
      ·subst hq
       have hlt:cmpR (ls.getD m []) (ls.getD (m+1) [])<0:=by
        have e1:=hord m (m+1) (by omega) (by omega);have e2:=cmpR_swap (ls.getD (m+1) []) (ls.getD m []);rw[hxx,hyy] at e1 e2 ⊢;omega
       by_cases hpm:p=m
       ·rw[hpm];exact hlt
       ·have e1:=hasc p m (by omega) (by omega)
        have e2:=hord p (m+1) (by omega) (by omega)
        rcases Int.lt_or_eq_of_le e2 with e3 | e3
        ·exact e3
        ·exfalso
         have e4:=hcan _ (at_mem (by omega)) _ (at_mem (by omega)) e3
         rw[e4,cmpR_swap] at e1
         omega
      ·exact hasc p q h7 (by omega)
   ·intro h3 h4
    have hkn2:k=n:=by omega
    subst hkn2
    simp -dsimp(disch:=omega) only[h4,Ap_endR_ret,rules,Nat.reduceBEq]
    exact⟨[.row true (rowsF ls)],.lsl 0 0 k 27,⟨ls,rfl,by rw[hnn],comp_all (fun p q h5 h6=>hasc p q h5 (by omega))⟩,rl_ (cd:=True/\True) (vs:=[.lsl 0 0 k 27]) rfl ⟨tvq,tvq⟩ rfl trivial rfl rfl rfl⟩
abbrev nzV:PV:= .fv (.lit (.func (.func 220) #[] #[]))
def nzB (t:Tm):Bool:=decide (t.2≠0)
theorem iq220 (t:Tm) (h8:t.1.length=8) (hb:Bd 1000000000 t.2):Den Tryz.prog 220 [] [.agg (tmC (tn t))] [] (.bool (! nzB t)):=by
 have h36:=den36 (cn t.2) ((cn_ok hb).mono (by decide));rw[cn_q] at h36;change Den Tryz.prog 84 [] [.agg (cn t.2).c] [] _ at h36;have ht:(tn t).1.length=8:=h8;have cl:=tmC_length ht;have cf:=tmC_coef ht;have e:(sgq t.2==0)=! nzB t:=by
  unfold nzB;by_cases h:t.2=0
  ·rw[qcb (by simpa using h),sgq_eq_zero.2 h];rfl
  ·rw[qbb h];have:sgq t.2≠0:=fun h2=>h (sgq_eq_zero.1 h2)
   simpa using this
 obtain⟨z,hz⟩:=ex1 (sgq t.2);obtain⟨b,hbb⟩:=ex1 ((! nzB t));rw[hz] at h36 e;rw[hbb] at e ⊢;change List.take 3 (List.drop 8 (tmC (tn t)))=(cn t.2).c at cf;refine den_of tabOk mixed Tryz.func220 (cd:=_) rfl (by decide) rfl (n:=6) rfl rfl (m:=0) rfl ?_;simp -dsimp(disch:=omega) only[replicate,cl,↓reduceIte,reduceAdd,reduceLT,reduceLeDiff,ru]
 repeat refine qy (by omega) ?_
 refine gp h36 (by simp[fzAs,fzA,fzs_c,f_fv,cf]) ?_;simp -dsimp(disch:=omega) only[e,↓reduceIte,ru];refine rpq rfl ⟨tvq,tvq⟩ rfl
theorem filt_take {ts:List Tm} {i:Nat} (h:i<ts.length) (hf:(ts.take i).filter nzB=ts.take i) (hz:nzB ts[i]=true):(ts.take (i+1)).filter nzB=ts.take (i+1):=by
 rw[List.take_add_one,qb h,filter_append,hf];simp[hz]
theorem iq250 (ts:List Tm) (h8:Len8 ts) (hb: ∀ t∈ts,Bd 1000000000 t.2) (hn:ts.length<=10000000000):
 ∃ H1 res,(fun H1 res=>H1=[.row true (rowsT (ts.map tn))]/\((res=PV.int .i64 (-1)/\ts.filter nzB=ts)\/ ∃ i:Nat,∃ h:i<ts.length,res=PV.int .i64 i/\(ts.take i).filter nzB=ts.take i/\nzB ts[i]=false)) H1 res/\
  Den Tryz.prog 250 [.row true (rowsT (ts.map tn))] [.lsl 0 0 ts.length 11,nzV] H1 res:=by
 obtain⟨n,hnn⟩:=ex1 (ts.length)
 have rl:=rowsT_length (ts.map tn)
 rw[length_map,hnn] at rl
 rw[hnn] at hn
 refine den_some tabOk mixed Tryz.func250 (cd:=_) rfl (by decide) rfl (n:=17) rfl rfl (m:=1) rfl ?_
 simp -dsimp(disch:=omega) only[replicate,hnn,ru]
 refine wl (α:=Nat) (fun i=>⟨[.lsl 0 0 n 11,nzV,.any,.any,.any,.any,.any,.int .i64 n,.int .i64 i]++replicate 10 .any,[.row true (rowsT (ts.map tn))]⟩)
  (fun i=>n - i) (fun i=>i<=n/\(ts.take i).filter nzB=ts.take i) 0 ?_ ?_ ?_
 ·refine wk [0] (by simp) rfl ?_ ?_
  ·simp[leVs,leV,le1]
  ·simp[leH,leO]
 ·exact⟨qsq _,rfl⟩
 ·rintro i ⟨hi,hf⟩
  simp -dsimp(disch:=omega) only[replicate,↓reduceIte,ru]
  refine bd_ ?_ ?_
  ·intro h1 h2
   have hil:i<ts.length:=by omega
   have r1:=rowsT_getD (ts:=ts.map tn) (i:=i) (by rw[length_map];omega)
   rw[getD_map hil] at r1
   have hmem:ts[i]∈ts:=qqb hil
   have hm:=h8 _ hmem
   have hd:=iq220 ts[i] hm (hb _ hmem)
   have hft:=filt_take hil hf
   obtain⟨t,ht⟩:=ex1 (ts[i])
   rw[ht] at r1 hm hd hft
   have hm2:(tn t).1.length=8:=hm
   have f11:=tmF_take11 hm2
   have fl:=tmF_length hm2
   obtain⟨b,hbb⟩:=ex1 (nzB t)
   rw[hbb] at hd hft
   simp -dsimp(disch:=omega) only[h2,r1,f11,tmF_fv,rl,fl,↓reduceIte,reduceLeDiff,ru]
   repeat refine qy (by omega) ?_
   refine gp hd (by simp[fzAs,fzA,fzs_tmC,tmF_fv]) ?_
   simp -dsimp(disch:=omega) only[ids_tmC,rules]
   cases b with
   | true=>
    simp -dsimp(disch:=omega) only[Bool.not_true,↓reduceIte,ru];refine ap (i+1) (by omega) ?_ ⟨by omega,hft rfl⟩;refine wk [0] (by simp) rfl ?_ ?_
    ·simp[leVs,leV,le1]
    ·simp[leH,leO]
   | false=>
    simp -dsimp(disch:=omega) only[Bool.not_false,rules];exact⟨[.row true (rowsT (ts.map tn))],.int .i64 i,⟨rfl,.inr ⟨i,hil,rfl,hf,by rw[ht];exact hbb⟩⟩,rl_ (cd:=True/\True) (vs:=[.int .i64 i]) rfl ⟨tvq,tvq⟩ rfl trivial rfl rfl rfl⟩
  ·intro h1 h2
   have hTT:ts.take i=ts:=qdq (by omega)
   rw[hTT] at hf
   simp -dsimp(disch:=omega) only[h2,rules,Nat.reduceBEq]
   exact⟨[.row true (rowsT (ts.map tn))],.int .i64 (-1),⟨rfl,.inl ⟨rfl,hf⟩⟩,rl_ (cd:=True/\True) (vs:=[.int .i64 (-1)]) rfl ⟨tvq,tvq⟩ rfl trivial rfl rfl rfl⟩
end Go.Proofs.YtjjbkjgifdhlcaaGreat
