/- Contracts:terms:DeleteFunc. -/
import Derived.Test.YtjjbkjgifdhlcaaGreatT15
import Derived.Test.YtjjbkjgifdhlcaaGreatT8
import Derived.Test.YtjjbkjgifdhlcaaGreatT1
open Nat (reduceAdd reduceLT reduceLeDiff reduceMul)
open List (append_assoc append_nil drop_eq_getElem_cons filter_append getElem?_append_right getElem?_set_ne length_cons length_drop length_map length_set length_take length_zipWith map_cons mem_cons_of_mem mem_map nodup_range replicate set_cons_zero)
namespace Go.Proofs.YtjjbkjgifdhlcaaGreat
open Go.AM Go.Pl
set_option maxRecDepth 100000
set_option maxHeartbeats 4000000
def delM (ts:List Tm) (j:Nat):List Tm:=(ts.take j).filter nzB++ts.drop ((ts.take j).filter nzB).length
def delI (ts:List Tm) (j:Nat):Nat:=((ts.take j).filter nzB).length
theorem delI_le (ts:List Tm) (j:Nat):delI ts j<=j:=by
 unfold delI;have:=List.length_filter_le nzB (ts.take j);rw[length_take] at this;omega
theorem delM_length (ts:List Tm) {j:Nat} (h:j<=ts.length):(delM ts j).length=ts.length:=by
 have:=delI_le ts j;unfold delI at this;unfold delM;rw[qe,length_drop];omega
theorem delM_at {ts:List Tm} {j q:Nat} (h:delI ts j<=q) (hq:q<ts.length):(delM ts j).getD q ([],0)=ts[q]:=by
 unfold delI at h;unfold delM;rw[qa,getElem?_append_right h,List.getElem?_drop,Nat.add_sub_cancel' h,qb hq];rfl
theorem delM_keep {ts:List Tm} {j:Nat} (h:j<ts.length) (hz:nzB ts[j]=true):delM ts (j+1)=(delM ts j).set (delI ts j) ts[j]/\delI ts (j+1)=delI ts j+1:=by
 have e:(ts.take (j+1)).filter nzB=(ts.take j).filter nzB++[ts[j]]:=by
  rw[List.take_add_one,qb h,filter_append];simp[hz]
 have hl:=delI_le ts j;unfold delI at hl;unfold delM delI;rw[e,qe];refine⟨?_,rfl⟩;rw[List.set_append_right _ _ (qp _),Nat.sub_self,append_assoc];congr 1;rw[drop_eq_getElem_cons (i:=((ts.take j).filter nzB).length) (by omega),set_cons_zero];rfl
theorem delM_skip {ts:List Tm} {j:Nat} (h:j<ts.length) (hz:nzB ts[j]=false):delM ts (j+1)=delM ts j/\delI ts (j+1)=delI ts j:=by
 have e:(ts.take (j+1)).filter nzB=(ts.take j).filter nzB:=by
  rw[List.take_add_one,qb h,filter_append];simp[hz]
 unfold delM delI;rw[e];exact⟨rfl,rfl⟩
theorem delM_done {ts:List Tm}:delI ts ts.length=(ts.filter nzB).length/\(delM ts ts.length).take (delI ts ts.length)=ts.filter nzB:=by
 unfold delM delI;rw[List.take_length];exact⟨rfl,List.take_left' rfl⟩
theorem rowsT_mapset (ts:List Tm) (i:Nat) (t:Tm):(rowsT (ts.map tn)).set i (tmF (tn t))=rowsT ((ts.set i t).map tn):=by rw[rowsT_set,List.map_set]
theorem getD_mapn {p:List Tm} {i:Nat} (h:i<p.length):(rowsT (p.map tn)).getD i []=tmF (tn (p.getD i ([],0))):=by
 rw[rowsT_getD (by rw[length_map];exact h),getD_map h,qa,qb h];rfl
theorem iq219 (ts:List Tm) (h8:Len8 ts) (hb: ∀ t∈ts,Bd 1000000000 t.2) (hn:ts.length<=10000000000):
 Den Tryz.prog 219 [.row true (rowsT (ts.map tn))] [.lsl 0 0 ts.length 11,nzV] [.row true (rowsT ((ts.filter nzB).map tn))] (.lsl 0 0 (ts.filter nzB).length 11):=by
 obtain⟨H1,res,⟨hH,hres⟩,h250⟩:=iq250 ts h8 hb hn
 obtain⟨n,hnn⟩:=ex1 (ts.length)
 have rl:=rowsT_length (ts.map tn)
 rw[length_map,hnn] at rl
 rw[hnn] at hn h250 ⊢
 rcases hres with⟨rfl,hf⟩ | ⟨i,hil,rfl,hfi,hzi⟩
 ·subst hH
  rw[hf,hnn]
  have e1:((-1:Int)== -1)=true:=rfl
  refine den_of tabOk mixed Tryz.func219 (cd:=_) rfl (by decide) rfl (n:=40) rfl rfl (m:=1) rfl ?_
  simp -dsimp(disch:=omega) only[replicate,rules]
  refine gl_ 0 h250 rfl rfl trivial rfl rfl rfl ?_
  simp -dsimp(disch:=omega) only[append_nil,e1,shB2,↓reduceIte,ru]
  exact rl_ (cd:=True/\True) (vs:=[.lsl 0 0 n 11]) rfl ⟨tvq,tvq⟩ rfl trivial rfl rfl rfl
 ·subst hH
  have e1:((i:Int)== -1)=false:=by rw[qx];omega
  have hI:delI ts (i+1)=i:=by
   rw[(delM_skip hil hzi).2];unfold delI;rw[hfi,length_take];omega
  have hM:delM ts (i+1)=ts:=by
   rw[(delM_skip hil hzi).1];unfold delM;rw[hfi,length_take,Nat.min_eq_left (by omega),List.take_append_drop]
  refine den_of tabOk mixed Tryz.func219 (cd:=_) rfl (by decide) rfl (n:=40) rfl rfl (m:=1) rfl ?_
  simp -dsimp(disch:=omega) only[replicate,rules]
  refine gl_ 0 h250 rfl rfl trivial rfl rfl rfl ?_
  simp -dsimp(disch:=omega) only[append_nil,e1,shB2,↓reduceIte,ru]
  refine wl (α:=Nat) (fun j=>⟨[.lsl 0 0 n 11,nzV,.any,.any,.any,.int .i64 (delI ts j),.int .i64 j]++replicate 35 .any,[.row true (rowsT ((delM ts j).map tn))]⟩)
   (fun j=>n - j) (fun j=>j<=n/\delI ts j<j) (i+1) ?_ ⟨by omega,by omega⟩ ?_
  ·rw[hI,hM]
   refine wk [0] (by simp) rfl ?_ ?_
   ·simp[leVs,leV,le1]
   ·simp[leH,leO]
  ·rintro j ⟨hj,hij⟩
   obtain⟨q,hq⟩:=ex1 (delI ts j)
   have hML:=delM_length ts (j:=j) (by omega)
   rw[hnn] at hML
   rw[hq] at hij ⊢
   have rm:=rowsT_length ((delM ts j).map tn)
   rw[length_map,hML] at rm
   simp -dsimp(disch:=omega) only[replicate,↓reduceIte,ru]
   refine bd_ ?_ ?_
   ·intro h1 h2
    have hjl:j<ts.length:=by omega
    have r1:=getD_mapn (p:=delM ts j) (i:=j) (by omega)
    rw[delM_at (by omega) hjl] at r1
    have r2:=getD_mapn (p:=delM ts j) (i:=q) (by omega)
    rw[delM_at (by omega) (show q<ts.length by omega)] at r2
    have hmem:ts[j]∈ts:=qqb hjl
    have hm:=h8 _ hmem
    have hmq:=h8 _ (qqb (show q<ts.length by omega))
    have hd:=iq220 ts[j] hm (hb _ hmem)
    have hk:=delM_keep hjl
    have hsk:=delM_skip hjl
    have hset:=rowsT_mapset (delM ts j) q ts[j]
    rw[hq] at hk hsk
    obtain⟨t,ht⟩:=ex1 (ts[j])
    rw[ht] at r1 hm hd hk hsk hset
    obtain⟨u,hu⟩:=ex1 (ts[q])
    rw[hu] at r2 hmq
    have hm2:(tn t).1.length=8:=hm
    have hmu:(tn u).1.length=8:=hmq
    have f11:=tmF_take11 hm2
    have fl:=tmF_length hm2
    have flu:=tmF_length hmu
    have du:=tmF_drop11 hmu
    have c11:=tmC_take11 hm2
    have cl:=tmC_length hm2
    obtain⟨b,hbb⟩:=ex1 (nzB t)
    rw[hbb] at hd hk hsk
    simp -dsimp(disch:=omega) only[h2,r1,f11,tmF_fv,rm,fl,cl,c11,append_nil,↓reduceIte,reduceAdd,reduceLT,reduceLeDiff,ru]
    repeat refine qy (by omega) ?_
    refine gp hd (by simp[fzAs,fzA,fzs_tmC,tmF_fv]) ?_
    simp -dsimp(disch:=omega) only[ids_tmC,rules,reduceAdd]
    cases b with
    | true=>
     obtain⟨k1,k2⟩:=hk rfl;rw[<-k1] at hset;simp -dsimp(disch:=omega) only[Bool.not_true,Bool.not_false,r2,c11,cl,fl,flu,du,rm,fzs_tmC,ids_tmC,hset,append_nil,↓reduceIte,reduceLT,reduceLeDiff,ru]
     repeat refine qy (by omega) ?_
     refine ap (j+1) (by omega) ?_ ⟨by omega,by omega⟩;rw[k2];refine wk [0] (by simp) rfl ?_ ?_
     ·simp[leVs,leV,le1]
     ·simp[leH,leO]
    | false=>
     obtain⟨k1,k2⟩:=hsk rfl;simp -dsimp(disch:=omega) only[Bool.not_true,Bool.not_false,↓reduceIte,ru];refine ap (j+1) (by omega) ?_ ⟨by omega,by omega⟩;rw[k1,k2];refine wk [0] (by simp) rfl ?_ ?_
     ·simp[leVs,leV,le1]
     ·simp[leH,leO]
   ·intro h1 h2
    have hjn:j=ts.length:=by omega
    subst hjn
    have hdn:=delM_done (ts:=ts)
    rw[hq] at hdn
    have htk:List.take q (rowsT ((delM ts ts.length).map tn))=rowsT ((ts.filter nzB).map tn):=by
     rw[<-hdn.2];simp[rowsT]
    rw[<-hdn.1]
    simp -dsimp(disch:=omega) only[h2,rm,htk,↓reduceIte,Nat.reduceBEq,ru]
    repeat refine qy (by omega) ?_
    exact rl_ (cd:=True/\True) (vs:=[.lsl 0 0 q 11]) rfl ⟨tvq,tvq⟩ rfl trivial rfl rfl rfl
def tabJ:Nat->List Tm->List (List Int×PV)
 | _,[]=>[]
 | k,t::acc=>(t.1,.int .i64 k)::tabJ (k+1) acc
theorem tabFind_cons (a m:List Int) (v:PV) (es:List (List Int×PV)):tabFind ((a,v)::es) m=if a=m then some v else tabFind es m:=by
 unfold tabFind;by_cases h:a=m
 ·rw[List.find?_cons_of_pos (by simpa using h),if_pos h];rfl
 ·rw[List.find?_cons_of_neg (by simpa using h),if_neg h]
theorem tabJ_none: ∀ {acc:List Tm} {k:Nat} {m:Mn},m∉acc.map (·.1)->tabFind (tabJ k acc) m=none
 | [],_,_,_=>rfl
 | t::acc,k,m,h=>by
  have ih:=tabJ_none (acc:=acc) (k:=k+1) (m:=m) (fun h2=>h (mem_cons_of_mem _ h2));have hne:t.1≠m:=fun e=>h (by rw[<-e];simp)
  unfold tabJ;rw[tabFind_cons,if_neg hne];exact ih
theorem tabJ_put: ∀ {acc:List Tm} {k:Nat} {m:Mn} {q:Rat},m∉acc.map (·.1)->tabPut (tabJ k acc) m (.int .i64 ((k+acc.length:Nat):Int))=tabJ k (acc++[(m,q)])
 | [],k,m,q,_=>rfl
 | t::acc,k,m,q,h=>by
  have ih:=tabJ_put (acc:=acc) (k:=k+1) (m:=m) (q:=q) (fun h2=>h (mem_cons_of_mem _ h2));have hne:t.1≠m:=fun e=>h (by rw[<-e];simp)
  show(if(t.1==m)=true then _ else(t.1,PV.int .i64 k)::tabPut (tabJ (k+1) acc) m _)=(t.1,PV.int .i64 k)::tabJ (k+1) (acc++[(m,q)]);rw[if_neg (by simpa using hne),<-ih,length_cons];congr 4;omega
theorem accAdd_new: ∀ {acc:List Tm} {m:Mn} {q:Rat},m∉acc.map (·.1)->accAdd acc m q=acc++[(m,q)]
 | [],_,_,_=>rfl
 | t::acc,m,q,h=>by
  have ih:=accAdd_new (acc:=acc) (m:=m) (q:=q) (fun h2=>h (mem_cons_of_mem _ h2));have hne:t.1≠m:=fun e=>h (by rw[<-e];simp)
  unfold accAdd;rw[if_neg hne,ih];rfl
theorem tabJ_some: ∀ {acc:List Tm} {k:Nat} {m:Mn} (q:Rat),m∈acc.map (·.1)-> ∃ i,∃ h:i<acc.length,acc[i].1=m/\tabFind (tabJ k acc) m=some (.int .i64 ((k+i:Nat):Int))/\
 accAdd acc m q=acc.set i (m,acc[i].2+q)/\tabJ k (acc.set i (m,acc[i].2+q))=tabJ k acc
 | [],_,_,_,h=>by simp at h
 | t::acc,k,m,q,h=>by
  by_cases he:t.1=m
  ·refine⟨0,by simp,he,?_,?_,?_⟩
   ·unfold tabJ;rw[tabFind_cons,if_pos he];rfl
   ·unfold accAdd;rw[if_pos he,set_cons_zero,List.getElem_cons_zero,<-he]
   ·rw[set_cons_zero];show(m,_)::tabJ (k+1) acc=(t.1,_)::tabJ (k+1) acc;rw[he]
  ·have hm:m∈acc.map (·.1):=by
    rcases List.mem_cons.1 h with h2 | h2
    ·exact absurd h2.symm he
    ·exact h2
   obtain⟨i,hi,h1,h2,h3,h4⟩:=tabJ_some (k:=k+1) q hm;refine⟨i+1,by simpa using hi,h1,?_,?_,?_⟩
   ·unfold tabJ;rw[tabFind_cons,if_neg he,h2];congr 3;omega
   ·unfold accAdd;rw[if_neg he,h3];rfl
   ·show(t.1,_)::tabJ (k+1) (acc.set i (m,acc[i].2+q))=(t.1,_)::tabJ (k+1) acc;rw[h4]
theorem tmF_putc {t:RT} {r:Raw} (h:t.1.length=8):List.take 8 (tmF t)++r.f++List.drop 11 (tmF t)=tmF (t.1,r):=by
 rw[tmF_take8 h,tmF_drop11 h,append_nil];rfl
theorem tmF_coef {t:RT} (h:t.1.length=8):List.take 3 (List.drop 8 (tmF t))=t.2.f:=by rw[tmF_drop8 h];rfl
theorem iq221 (s t:RT) (hs:s.1.length=8) (ht:t.1.length=8):Den Tryz.prog 221 [] [.agg [.int .i64 8],.agg (tmC s),.agg (tmC t)] [] (.int .i64 (-(cmpM s.1 t.1))):=by
 have h1:=iq208 s.1 t.1 8 hs ht (by decide);have g1:=groups1 s.1 8 hs;have g2:=groups1 t.1 8 ht;have r:=cmpM_range s.1 t.1;obtain⟨z,hz⟩:=ex1 (cmpM s.1 t.1);rw[hz] at h1 r ⊢;have ls:=tmC_length hs;have lt:=tmC_length ht;have k1:=tmC_take8 hs;have k2:=tmC_take8 ht;have i1:List.take 8 (ints s.1)=ints s.1:=qdq (by rw[ints_length];omega);have i2:List.take 8 (ints t.1)=ints t.1:=qdq (by rw[ints_length];omega);have e0:(0:Int) - z= -z:=by omega
 refine den_of tabOk mixed Tryz.func221 (cd:=_) rfl (by decide) rfl (n:=14) rfl rfl (m:=0) rfl ?_;simp -dsimp(disch:=omega) only[replicate,ls,lt,reduceAdd,reduceLT,ru]
 repeat refine qy (by omega) ?_
 refine Draw.freeze [1,2] (by kernel_rfl) ?_;simp -dsimp(disch:=omega) only[k1,fzs_mC,ids_mC,ls,g1,Option.isSome_none,i1,Int.reduceToNat,↓reduceIte,reduceMul,Nat.reduceSub,reduceLT,reduceLeDiff,ru]
 repeat refine qy (by omega) ?_
 simp -dsimp(disch:=omega) only[k2,fzs_mC,ids_mC,lt,g2,Option.isSome_none,i2,Int.reduceToNat,↓reduceIte,reduceMul,Nat.reduceSub,reduceLT,reduceLeDiff,ru]
 repeat refine qy (by omega) ?_
 simp -dsimp(disch:=omega) only[rules];refine gp h1 (by simp[fzAs,fzA,fz1,fz0]) ?_;simp -dsimp(disch:=omega) only[e0,reduceAdd,ru]
 repeat refine qy (by omega) ?_
 refine rpq rfl ⟨tvq,tvq⟩ rfl
theorem getD_n {p:List Tm} {i:Nat} (h:i<p.length):(rowsT (p.map tn)).getD i []=tmF (tn p[i]):=by
 rw[rowsT_getD (by rw[length_map];exact h),getD_map h]
theorem filt_keep (l:List Tm):l.filter nzB=l.filter (fun t=>decide (t.2≠0)):=rfl
theorem iq185 (ts:List RT) (h8:TsOk 1000000000 ts) (hb:PB 1000000000 (ts.map tq)) (hn:ts.length<=1000000000) (hs:(nf (ts.map tq)).length<=sortMax):
 Den Tryz.prog 185 [] [PL ts] [] (PL ((nf (ts.map tq)).map tn)):=by
 have rl:=rowsT_length ts
 obtain⟨n,hnn⟩:=ex1 (ts.length)
 rw[hnn] at rl hn
 obtain⟨T,hT⟩:=ex1 (ts.map tq)
 have hTl:T.length=n:=by rw[<-hT,length_map,hnn]
 have hT8:Len8 T:=by rw[<-hT];exact len8_map h8.l8
 rw[hT] at hb hs ⊢
 refine den_of tabOk mixed Tryz.func185 (cd:=_) rfl (by decide) rfl (n:=60) rfl rfl (m:=0) rfl ?_
 simp -dsimp(disch:=omega) only[replicate,rl,Int.reduceToNat,↓reduceIte,reduceAdd,reduceLT,ru]
 repeat refine qy (by omega) ?_
 refine wl (α:=Nat) (fun i=>⟨[PL ts,.any,.any,.tab 0,.lsl 1 0 (accL (T.take i)).length 11,.any,.any,.any,.any,.any,.any,.any,.any,PL ts,.int .i64 n,.int .i64 i]++replicate 45 .any,[.tab 8 (tabJ 0 (accL (T.take i))),.row true (rowsT ((accL (T.take i)).map tn))]⟩) (fun i=>n - i) (fun i=>i<=n) 0 ?_ (qsq _) ?_
 ·refine wk [0,1] (by simp) rfl ?_ ?_
  ·simp[leVs,leV,le1]
   simp[accL]
  ·simp[leH,leO]
   simp[accL,tabJ,rowsT]
 ·rintro i hi
  have hkl:(accL (T.take i)).length<=i:=by
   have:=accL_len (T.take i);rw[length_take] at this;omega
  have hacc8:=accL_len8 (ts:=T.take i) (fun t ht=>hT8 t (qfb ht))
  obtain⟨acc,hacc⟩:=ex1 (accL (T.take i))
  have hbA: ∀ t∈acc,Bd 1000000000 t.2:=by rw[<-hacc];exact((hb.take i).accL).bd (by decide)
  rw[hacc] at hkl hacc8 ⊢
  obtain⟨K,hK⟩:=ex1 (acc.length)
  have rm:=rowsT_length (acc.map tn)
  rw[length_map,hK] at rm
  have tkm:=take_rowsT (ts:=acc.map tn) (n:=K) (by rw[length_map];omega)
  rw[hK] at hkl ⊢
  simp -dsimp(disch:=omega) only[replicate,↓reduceIte,ru]
  refine bd_ ?_ ?_
  ·intro h1 h2
   have r1:=rowsT_getD (ts:=ts) (i:=i) (by omega)
   have hmem:=getD_memT (ts:=ts) (i:=i) (by omega)
   have hok:=h8 _ hmem
   have hsn:T.take (i+1)=T.take i++[tq (ts.getD i rt0)]:=by
    rw[List.take_add_one,<-hT,List.getElem?_map,qa,qb (by omega)];rfl
   obtain⟨t,ht⟩:=ex1 (ts.getD i rt0)
   rw[ht] at r1 hok hsn
   have hac:=accL_snoc (T.take i) (tq t)
   rw[<-hsn,hacc] at hac
   change accL (T.take (i+1))=accAdd acc t.1 t.2.q at hac
   have hm:=hok.len
   have hrg:=hok.rng
   have t11:=tmF_take11 hm
   have fl:=tmF_length hm
   have c8:=tmC_take8 hm
   have cl:=tmC_length hm
   have ml:=mC_length t.1
   rw[hm] at ml
   have m8:=mC_take hm
   have cc:=tmC_coef hm
   have hbnd:(∀ x∈t.1,-9223372036854775808<=x/\x<9223372036854775808):=fun x hx=>by have:=hrg x hx;omega
   by_cases hk:t.1∈acc.map (·.1)
   ·obtain⟨j,hj,hj1,hfd,hadd,htb⟩:=tabJ_some (k:=0) t.2.q hk
    rw[Nat.zero_add] at hfd
    have r2:=getD_n hj
    have hmj:=hacc8 _ (qqb hj)
    have hbj:=hbA _ (qqb hj)
    have hset:=rowsT_mapset acc j (t.1,acc[j].2+t.2.q)
    rw[<-hadd] at hset htb
    obtain⟨u,hu⟩:=ex1 (acc[j])
    rw[hu] at r2 hmj hbj hset hj1
    have h51:=den51 (cn u.2) t.2 (cn_ok hbj) hok.raw
    rw[cn_q] at h51
    change Den Tryz.prog 69 [] [.agg (cn u.2).c,.agg t.2.c] [] (.agg (cn (u.2+t.2.q)).c) at h51
    change _=rowsT _ at hset
    have htu:(tn u).1.length=8:=hmj
    have pf:=tmF_putc (r:=cn (u.2+t.2.q)) htu
    change _=tmF (u.1,cn (u.2+t.2.q)) at pf
    rw[hj1] at pf
    change (rowsT (acc.map tn)).set j (tmF (t.1,cn (u.2+t.2.q)))=_ at hset
    have flu:=tmF_length htu
    have cfu:=tmF_coef htu
    change List.take 3 (List.drop 8 (tmF (tn u)))=(cn u.2).f at cfu
    obtain⟨z,hz⟩:=ex1 (cn (u.2+t.2.q))
    rw[hz] at h51 pf hset
    have pf2:List.take 8 (tmF (tn u))++(z.f++List.drop (8+z.f.length) (tmF (tn u)))=tmF (t.1,z):=by
     rw[<-append_assoc];exact pf
    have hlen:(accAdd acc t.1 t.2.q).length=K:=by rw[hadd,length_set,hK]
    have hjK:j<K:=by omega
    simp -dsimp(disch:=omega) only[h2,r1,t11,tmF_fv,fl,c8,cl,rl,append_nil,hm,hfd,Option.getD_some,Option.isSome_some,↓reduceIte,reduceAdd,reduceLT,reduceLeDiff,ru]
    repeat refine qy (by omega) ?_
    refine dw (by kernel_rfl) ?_
    simp -dsimp(disch:=omega) only[r2,rm,flu,cfu,f_fv,cl,cc,↓reduceIte,reduceAdd,reduceLeDiff,ru]
    repeat refine qy (by omega) ?_
    refine gp h51 (by simp[fzAs,fzA,fzs_c,f_fv]) ?_
    simp -dsimp(disch:=omega) only[ids_c,append_nil,c_reloc,c_length,r2,rm,flu,fzs_c,↓reduceIte,reduceAdd,Nat.reduceBEq,reduceLT,reduceLeDiff,ru]
    repeat refine qy (by omega) ?_
    refine ap (i+1) (by omega) ?_ (by omega)
    rw[hac,hlen,<-htb]
    refine wk [0,1] (by simp) rfl ?_ ?_
    ·simp[leVs,leV,le1]
    ·simp[leH,leO]
     rw[pf2,hset]
   ·have hfd:=tabJ_none (k:=0) hk
    have hput:=tabJ_put (k:=0) (q:=t.2.q) hk
    rw[Nat.zero_add,hK] at hput
    have hadd:=accAdd_new (q:=t.2.q) hk
    have h41:=den41 t.2 (hok.raw.mono (by decide))
    change Den Tryz.prog 68 [] [.agg t.2.c] [] (.agg (cn t.2.q).c) at h41
    have hap:=rowsT_snoc (acc.map tn) (tn (t.1,t.2.q))
    rw[<-map_snoc,<-hadd] at hap
    rw[<-hadd] at hput
    change rowsT (acc.map tn)++[tmF (t.1,cn t.2.q)]=_ at hap
    obtain⟨z,hz⟩:=ex1 (cn t.2.q)
    rw[hz] at h41 hap
    have hlen:(accAdd acc t.1 t.2.q).length=K+1:=by rw[hadd,qe,hK];rfl
    have tz:((t.1,z):RT).1.length=8:=hm
    have c11:=tmC_take11 tz
    have clz:=tmC_length tz
    have f11:=tmF_take11 tz
    have flz:=tmF_length tz
    have bl:=bld_len hm (.fv (.lit (.bool false))) PV.nilsl PV.nilsl
    have pc:=bld_put hm (.fv (.lit (.bool false))) PV.nilsl PV.nilsl z
    simp -dsimp(disch:=omega) only[h2,r1,t11,tmF_fv,fl,c8,cl,rl,append_nil,hm,hfd,Option.getD_none,Option.isSome_none,hput,still,↓reduceIte,reduceAdd,reduceLT,reduceLeDiff,ru]
    repeat refine qy (by omega) ?_
    refine dw (by kernel_rfl) ?_
    simp -dsimp(disch:=omega) only[c8,cl,cc,↓reduceIte,reduceAdd,reduceLeDiff,ru]
    repeat refine qy (by omega) ?_
    refine gp h41 (by simp[fzAs,fzA,fzs_c,f_fv]) ?_
    simp -dsimp(disch:=omega) only[ids_c,append_nil,c_reloc,c_length,ml,bl,pc,clz,f11,fzs_tmC,ids_tmC,rm,tkm,hap,↓reduceIte,reduceAdd,reduceMul,Nat.reduceBEq,reduceLT,reduceLeDiff,ru]
    repeat refine qy (by omega) ?_
    refine ap (i+1) (by omega) ?_ (by omega)
    rw[hac,hlen]
    refine wk [0,4] (by simp) rfl ?_ ?_
    ·simp[leVs,leV,le1]
    ·simp[leH,leO]
  ·intro h1 h2
   have hTT:T.take i=T:=qdq (by omega)
   rw[hTT] at hacc
   have hkeep:keepL T=acc.filter nzB:=by rw[filt_keep,<-hacc];rfl
   have hkl2:=keep_len hT8
   rw[hkeep] at hkl2
   have h219:=iq219 acc hacc8 hbA (by omega)
   rw[hK] at h219
   obtain⟨out,hout⟩: ∃ o,acc.filter nzB=o:=⟨_,rfl⟩
   rw[hout] at hkeep hkl2 h219
   have ho8: ∀ t∈out.map tn,t.1.length=8:=fun t ht=>by
    obtain⟨u,hu,rfl⟩:=mem_map.1 ht;rw[<-hout] at hu;exact hacc8 u (List.mem_filter.1 hu).1
   obtain⟨ls',hp,hso,h169⟩:=iq169 221 (.agg #[.int .i64 8]) (.lit (.int .i64 8)) rfl (out.map tn) ho8 (by rw[length_map];omega) (fun s hs t ht=>iq221 s t (ho8 s hs) (ho8 t ht))
   have hres:ls'=(nf T).map tn:=by
    have h5:(ls'.map tq).Perm (keepL T):=by
     rw[hkeep];have:=hp.map tq;rw[map_tq_tn] at this;exact this
    have h6:(ls'.map tq).Pairwise (fun a b=>gtM b.1 a.1=false):=by
     rw[List.pairwise_map];refine hso.imp ?_;intro a b hab;have: ¬gtM b.1 a.1=true:=hab;exact Bool.eq_false_iff.2 this
    rw[<-sort_nf hT8 h5 h6,List.map_map]
    conv=>lhs;rw[<-List.map_id ls']
    refine List.map_congr_left (fun t ht=>?_);obtain⟨w,_,rfl⟩:=mem_map.1 (hp.mem_iff.1 ht);show tn w=tn (tq (tn w));rw[tq_tn]
   rw[hres] at h169
   obtain⟨O,hOl⟩:=ex1 (out.length)
   rw[hOl] at hkl2 h219
   have hfl:((nf T).map tn).length=O:=by rw[length_map,<-hkl2]
   have tkf:=take_rowsT (ts:=(nf T).map tn) (n:=O) (by omega)
   have rf:=rowsT_length ((nf T).map tn)
   rw[hfl] at rf
   rw[length_map,hOl] at h169
   have hfa: ∀ cs l (H:List Ob),fz1s H (.agg cs::l)=none:=fun cs l H=>by simp[fz1s,fz1,fz0]
   simp -dsimp(disch:=omega) only[h2,rules,Nat.reduceBEq]
   refine gl_ 1 h219 rfl rfl trivial rfl rfl rfl ?_
   have hle:lent 1 2 0=1:=rfl
   simp -dsimp(disch:=omega) only[append_nil,shB2,hfa,hle,↓reduceIte,reduceAdd,reduceLeDiff,ru]
   refine gl_ 1 h169 rfl rfl trivial rfl rfl rfl ?_
   simp -dsimp(disch:=omega) only[append_nil,shB2,reduceAdd,ru]
   refine rpq rfl ⟨tvq,tvq⟩ ?_
   simp(disch:=omega) only[tkf,rf,List.drop_zero,Nat.zero_add,qp,↓reduceIte,List.idxOf?_nil,St.get,fzX,oneRes,fzV,fzC,fz1,fz0,Option.map_some,qk,List.getD_cons_zero,List.getElem?_cons_zero,List.getElem?_cons_succ]
theorem rows_11 {ts:List RT} (h: ∀ t∈ts,t.1.length=8):(∀ y,y∈rowsT ts->y.length=11)=True:=by
 refine eq_true (fun y hy=>?_);obtain⟨t,ht,rfl⟩:=mem_map.1 hy;exact tmF_length (h t ht)
theorem iq186 (ts:List RT) (h8: ∀ t∈ts,t.1.length=8) (hn:ts.length<=1000000000):Den Tryz.prog 186 [] [PL ts] [.row true (rowsT ts)] (.lsl 0 0 ts.length 11):=by
 cases ts with
 | nil=>
  show Den Tryz.prog 186 [] ([]++ .fv (.sl [])::[]) [.row true []] (.lsl 0 0 0 11);refine Den.empty' ?_ (fun b o cap=>?_)
  ·show Den Tryz.prog 186 [] [.nilsl] [.row true []] (.lsl 0 0 0 11);refine den_nil tabOk mixed Tryz.func186 (cd:=_) rfl (by decide) rfl (n:=7) rfl rfl ?_ 11 (by decide);simp -dsimp(disch:=omega) only[replicate,Ap_endN_ret,↓reduceIte,ru];exact⟨_,rfl,tvq,tvq⟩
  ·show Den Tryz.prog 186 [] [.fv (.lit (.slice (some ⟨b,o,none⟩) 0 cap))] [.row true []] (.lsl 0 0 0 11);refine den_of tabOk mixed Tryz.func186 (cd:=_) rfl (by decide) rfl (n:=7) rfl rfl (m:=0) rfl ?_;simp -dsimp(disch:=omega) only[replicate,↓reduceIte,reduceMul,reduceLT,reduceLeDiff,ru];exact RetOK.own rfl ⟨tvq,tvq⟩ rfl
 | cons a t=>
  have h11:=rows_11 h8;have rl:=rowsT_length (a::t);show Den Tryz.prog 186 [] [.fv (.sl (rowsT (a::t)))] [.row true (rowsT (a::t))] (.lsl 0 0 (a::t).length 11);have e:rowsT (a::t)=tmF a::rowsT t:=rfl;rw[e] at h11 rl ⊢;obtain⟨n,hnn⟩:=ex1 ((a::t).length);rw[hnn] at rl hn ⊢;obtain⟨us,hus⟩:=ex1 (tmF a::rowsT t);have hul:us.length=n:=by rw[<-hus];exact rl
  refine den_of tabOk mixed Tryz.func186 (cd:=_) rfl (by decide) rfl (n:=7) rfl rfl (m:=0) rfl ?_;simp -dsimp(disch:=omega) only[replicate,↓reduceIte,reduceLT,reduceLeDiff,ru];rw[hus] at h11 ⊢;have hl3:(rowsT t).length+1=n:=by simpa using rl
  simp -dsimp(disch:=omega) only[h11,hl3,rules];refine⟨⟨by omega,by omega⟩,?_⟩;exact RetOK.own rfl ⟨tvq,tvq⟩ rfl
theorem rowsT_app (a b:List RT):rowsT a++rowsT b=rowsT (a++b):=by simp[rowsT]
theorem iq139 (ps qs:List RT) (h8:TsOk 1000000000 ps) (h8q:TsOk 1000000000 qs) (hb:PB 1000000000 ((ps++qs).map tq)) (hn:ps.length<=400000000) (hnq:qs.length<=400000000) (hs:(nf ((ps++qs).map tq)).length<=sortMax):
 Den Tryz.prog 139 [] [PL ps,PL qs] [] (PL ((nf ((ps++qs).map tq)).map tn)):=by
 have h186:=iq186 ps h8.l8 (by omega)
 have h185:=iq185 (ps++qs) (fun t ht=>by
  rcases List.mem_append.1 ht with h | h
  ·exact h8 t h
  ·exact h8q t h) hb (by rw[qe];omega) hs
 have hap:=rowsT_app ps qs
 have lp:=rowsT_length ps
 have lq:=rowsT_length qs
 have la:=rowsT_length (ps++qs)
 rw[qe] at la
 have tp:=take_rowsT (ts:=ps) (n:=ps.length) (qp _)
 have ta:=take_rowsT (ts:=ps++qs) (n:=ps.length+qs.length) (by rw[qe];omega)
 have q11:=rows_11 h8q.l8
 obtain⟨R,hR⟩:=ex1 ((nf ((ps++qs).map tq)).map tn)
 rw[hR] at h185 ⊢
 refine den_of tabOk mixed Tryz.func139 (cd:=_) rfl (by decide) rfl (n:=8) rfl rfl (m:=0) rfl ?_
 simp -dsimp(disch:=omega) only[replicate,rules]
 refine gp h186 rfl ?_
 simp -dsimp(disch:=omega) only[append_nil,tp,lp,lq,q11,↓reduceIte,reduceLT,ru]
 refine⟨⟨by omega,by omega,by omega⟩,?_⟩
 simp -dsimp(disch:=omega) only[hap]
 refine gp h185 (by simp[fzAs,fzA,fz1,fz0,ta,la]) ?_
 simp -dsimp(disch:=omega) only[reduceAdd,ru]
 refine rpq rfl ⟨tvq,tvq⟩ rfl
theorem scaleT_length (p:List Tm) (r:Rat):(scaleT p r).length=p.length:=by simp[scaleT]
def sclM (p:List Tm) (r:Rat) (i:Nat):List Tm:=scaleT (p.take i) r++p.drop i
theorem sclM_length (p:List Tm) (r:Rat) {i:Nat} (h:i<=p.length):(sclM p r i).length=p.length:=by
 unfold sclM;rw[qe,scaleT_length,length_take,length_drop];omega
theorem sclM_at {p:List Tm} {r:Rat} {i:Nat} (h:i<p.length):(sclM p r i).getD i ([],0)=p[i]:=by
 have e:(scaleT (p.take i) r).length=i:=by rw[scaleT_length,length_take];omega
 unfold sclM;rw[qa,getElem?_append_right (by omega),e,Nat.sub_self,List.getElem?_drop,qb (by omega)];rfl
theorem sclM_step {p:List Tm} {r:Rat} {i:Nat} (h:i<p.length):(sclM p r i).set i (p[i].1,p[i].2*r)=sclM p r (i+1):=by
 have e:(scaleT (p.take i) r).length=i:=by rw[scaleT_length,length_take];omega
 unfold sclM;rw[List.set_append_right _ _ (by omega),e,Nat.sub_self,drop_eq_getElem_cons h,set_cons_zero];unfold scaleT;rw[List.take_add_one,qb h,qwb,append_assoc];rfl
theorem sclM_done (p:List Tm) (r:Rat):sclM p r p.length=scaleT p r:=by
 unfold sclM;rw[List.take_length,List.drop_length,append_nil]
theorem scale_bd {p:List Tm} {r:Rat} {j k:Nat} (h: ∀ t∈p,Bd j t.2) (hr:Bd k r) (hk:1<=j+k): ∀ t∈scaleT p r,Bd (j+k) t.2:=fun t ht=>by
 obtain⟨u,hu,rfl⟩:=mem_map.1 ht;exact Bd.mul (h u hu) hr hk
theorem POk.scale {j k:Nat} {E:Int} {p:List Tm} {r:Rat} (h:POk j E p) (hr:Bd k r) (hk:1<=j+k) (h0:r≠0):POk (j+k) E (scaleT p r):=by
 refine⟨⟨?_,?_,Len8.scale h.canon.len⟩,scale_bd h.bd hr hk,?_⟩
 ·unfold scaleT;rw[List.pairwise_map];exact h.canon.sorted
 ·intro t ht;obtain⟨u,hu,rfl⟩:=mem_map.1 ht;have:=h.canon.nz u hu;exact fun h2=>by
   rcases Rat.mul_eq_zero.1 h2 with h3 | h3
   ·exact this h3
   ·exact h0 h3
 ·intro t ht e he;obtain⟨u,hu,rfl⟩:=mem_map.1 ht;exact h.exp u hu e he
theorem iq163 (p:List Tm) (r:Rat) (hp:POk 10000000 1000000 p) (hr:Bd 10000 r) (h0:r≠0) (hn:p.length<=50) (hs:p.length<=sortMax):
 Den Tryz.prog 163 [] [PL (p.map tn),.agg (cn r).c] [] (PL ((scaleT p r).map tn)):=by
 have hTs:=hp.ts (by decide)
 have hps:=hp.scale hr (by decide) h0
 have hTp:=hps.ts (by decide)
 have h186:=iq186 (p.map tn) hTs.l8 (by rw[length_map];omega)
 rw[length_map] at h186
 have h185:=iq185 ((scaleT p r).map tn) (fun t ht=>(hTp t ht).mono (by decide)) (by
  rw[map_tq_tn];exact PB.terms (n:=50) (by decide) hps.bd (by rw[scaleT_length];exact hn) (by decide)) (by rw[length_map,scaleT_length];omega) (by rw[map_tq_tn,nf_self hps.canon,scaleT_length];exact hs)
 rw[map_tq_tn,nf_self hps.canon] at h185
 obtain⟨n,hnn⟩:=ex1 (p.length)
 rw[hnn] at h186
 have hdone:=sclM_done p r
 rw[hnn] at hdone
 have hM0:sclM p r 0=p:=rfl
 have rT:=rowsT_length ((scaleT p r).map tn)
 rw[length_map,scaleT_length,hnn] at rT
 have tkT:=take_rowsT (ts:=(scaleT p r).map tn) (n:=n) (by rw[length_map,scaleT_length];omega)
 refine den_of tabOk mixed Tryz.func163 (cd:=_) rfl (by decide) rfl (n:=26) rfl rfl (m:=0) rfl ?_
 simp -dsimp(disch:=omega) only[replicate,c_length,reduceLT,ru]
 repeat refine qy (by omega) ?_
 refine gp h186 rfl ?_
 simp -dsimp(disch:=omega) only[reduceAdd,ru]
 refine wl (α:=Nat) (fun i=>⟨[.any,.any,.any,.ptr 0 0 0,.any,.lsl 1 0 n 11,.any,.any,.any,.any,.int .i64 n,.int .i64 i]++replicate 16 .any,[.box true (cn r).c,.row true (rowsT ((sclM p r i).map tn))]⟩) (fun i=>n - i) (fun i=>i<=n) 0 ?_ (qsq _) ?_
 ·rw[hM0]
  refine wk [0,1] (by simp) rfl ?_ ?_
  ·simp[leVs,leV,le1]
  ·simp[leH,leO,le_c]
 ·intro i hi
  have hML:=sclM_length p r (i:=i) (by omega)
  rw[hnn] at hML
  have rm:=rowsT_length ((sclM p r i).map tn)
  rw[length_map,hML] at rm
  simp -dsimp(disch:=omega) only[replicate,↓reduceIte,ru]
  refine bd_ ?_ ?_
  ·intro h1 h2
   have hil:i<p.length:=by omega
   have r1:=getD_mapn (p:=sclM p r i) (i:=i) (by omega)
   rw[sclM_at hil] at r1
   have hmem:p[i]∈p:=qqb hil
   have hbi:=hp.bd _ hmem
   have hm:=hp.canon.len _ hmem
   have hset:=rowsT_mapset (sclM p r i) i (p[i].1,p[i].2*r)
   rw[sclM_step hil] at hset
   obtain⟨t,ht⟩:=ex1 (p[i])
   rw[ht] at r1 hbi hm hset
   have h54:=den54 (cn t.2) (cn r) ((cn_ok hbi).mono (by decide)) ((cn_ok hr).mono (by decide))
   rw[cn_q,cn_q] at h54
   change Den Tryz.prog 70 [] [.agg (cn t.2).c,.agg (cn r).c] [] (.agg (cn (t.2*r)).c) at h54
   have htn:(tn t).1.length=8:=hm
   have pf:=tmF_putc (r:=cn (t.2*r)) htn
   change _=tmF (t.1,cn (t.2*r)) at pf
   change (rowsT ((sclM p r i).map tn)).set i (tmF (t.1,cn (t.2*r)))=_ at hset
   have fl:=tmF_length htn
   have cf:=tmF_coef htn
   change List.take 3 (List.drop 8 (tmF (tn t)))=(cn t.2).f at cf
   obtain⟨z,hz⟩:=ex1 (cn (t.2*r))
   rw[hz] at h54 pf hset
   obtain⟨y,hy⟩: ∃ z,cn r=z:=⟨_,rfl⟩
   rw[hy] at h54 ⊢
   have pf2:List.take 8 (tmF (tn t))++(z.f++List.drop (8+z.f.length) (tmF (tn t)))=tmF (t.1,z):=by
    rw[<-append_assoc];exact pf
   simp -dsimp(disch:=omega) only[h2,rules]
   refine dw (by kernel_rfl) ?_
   simp -dsimp(disch:=omega) only[r1,rm,fl,cf,f_fv,c_length,c_take,↓reduceIte,reduceAdd,reduceLeDiff,ru]
   repeat refine qy (by omega) ?_
   refine gp h54 (by simp[fzAs,fzA,fzs_c,f_fv]) ?_
   simp -dsimp(disch:=omega) only[ids_c,append_nil,c_reloc,c_length,r1,rm,fl,fzs_c,↓reduceIte,reduceAdd,reduceLT,reduceLeDiff,ru]
   repeat refine qy (by omega) ?_
   refine ap (i+1) (by omega) ?_ (by omega)
   refine wk [0,1] (by simp) rfl ?_ ?_
   ·simp[leVs,leV,le1]
   ·simp[leH,leO,le_c]
    rw[pf2,hset]
  ·intro h1 h2
   have hin:i=n:=by omega
   subst hin
   rw[hdone]
   simp -dsimp(disch:=omega) only[h2,rules,Nat.reduceBEq]
   refine gp h185 (by simp[fzAs,fzA,fz1,fz0,tkT,rT]) ?_
   simp -dsimp(disch:=omega) only[reduceAdd,ru]
   refine rpq rfl ⟨tvq,tvq⟩ rfl
theorem iq140 (p:List Tm) (hp:POk 10000000 1000000 p) (hn:p.length<=50) (hs:p.length<=sortMax):
 Den Tryz.prog 140 [] [PL (p.map tn)] [] (PL ((scaleT p (-1)).map tn)):=by
 have h47:=den47 (-1) (by omega)
 have h163:=iq163 p (-1) hp (Bd.mono (j:=1) (Go.Pl.bd_int (x:= -1) (by decide)) (by decide)) (by decide) hn hs
 change Den Tryz.prog 74 [] [.int .i64 (-1)] [] (.agg (cn (-1)).c) at h47
 obtain⟨z,hz⟩:=ex1 (cn (-1))
 rw[hz] at h47 h163
 obtain⟨P,hP⟩:=ex1 (p.map tn)
 obtain⟨Q,hQ⟩: ∃ P,(scaleT p (-1)).map tn=P:=⟨_,rfl⟩
 rw[hP,hQ] at h163
 rw[hP,hQ]
 refine den_of tabOk mixed Tryz.func140 (cd:=_) rfl (by decide) rfl (n:=5) rfl rfl (m:=0) rfl ?_
 simp -dsimp(disch:=omega) only[replicate,rules]
 refine gp h47 rfl ?_
 simp -dsimp(disch:=omega) only[c_reloc,append_nil,rules]
 refine gp h163 rfl ?_
 simp -dsimp(disch:=omega) only[ru]
 refine rpq rfl ⟨tvq,tvq⟩ rfl
theorem bd_neg1:Bd 1 (-1:Rat):=Go.Pl.bd_int (x:= -1) (by decide)
structure LOkT (k:Nat) (E:Int) (p:List Tm):Prop where
 len:Len8 p
 bd: ∀ t∈p,Bd k t.2
 exp: ∀ t∈p,∀ e∈t.1,0<=e/\e<=E
theorem POk.l {k:Nat} {E:Int} {p:List Tm} (h:POk k E p):LOkT k E p:=⟨h.canon.len,h.bd,h.exp⟩
theorem LOkT.ts {k:Nat} {E:Int} {p:List Tm} (h:LOkT k E p) (hE:E<=1000000000000):TsOk k (p.map tn):=fun t ht=>by
 obtain⟨u,hu,rfl⟩:=mem_map.1 ht;exact⟨h.len u hu,fun x hx=>by have:=h.exp u hu x hx;omega,cn_ok (h.bd u hu)⟩
theorem LOkT.app {k:Nat} {E:Int} {p q:List Tm} (h:LOkT k E p) (hq:LOkT k E q):LOkT k E (p++q):=by
 refine⟨h.len.app hq.len,fun t ht=>?_,fun t ht=>?_⟩<;>rcases List.mem_append.1 ht with h1 | h1
 ·exact h.bd t h1
 ·exact hq.bd t h1
 ·exact h.exp t h1
 ·exact hq.exp t h1
theorem LOkT.mono {j k:Nat} {E F:Int} {p:List Tm} (h:LOkT j E p) (hk:j<=k) (hE:E<=F):LOkT k F p:=
 ⟨h.len,fun t ht=>(h.bd t ht).mono hk,fun t ht e he=>by have:=h.exp t ht e he;omega⟩
theorem iq139t (p q:List Tm) (hp:LOkT 10000000 1000000 p) (hq:LOkT 10000000 1000000 q) (hn:p.length<=20) (hnq:q.length<=20) (hs:(nf (p++q)).length<=sortMax):
 Den Tryz.prog 139 [] [PL (p.map tn),PL (q.map tn)] [] (PL ((nf (p++q)).map tn)):=by
 have e:((p.map tn)++(q.map tn)).map tq=p++q:=by rw[<-qwb,map_tq_tn]
 have h:=iq139 (p.map tn) (q.map tn) (fun t ht=>((hp.ts (by decide)) t ht).mono (by decide)) (fun t ht=>((hq.ts (by decide)) t ht).mono (by decide)) (by
  rw[e];exact PB.terms (n:=40) (j:=10000000) (by decide) (hp.app hq).bd (by rw[qe];omega) (by decide)) (by rw[length_map];omega) (by rw[length_map];omega) (by rw[e];exact hs)
 rw[e] at h
 exact h
theorem iq85 (p q:List Tm) (hp:POk 1000000 1000000 p) (hq:POk 1000000 1000000 q) (hn:p.length<=20) (hnq:q.length<=20) (hqs:q.length<=sortMax) (hs:(nf (p++scaleT q (-1))).length<=sortMax):
 Den Tryz.prog 85 [] [PL (p.map tn),PL (q.map tn)] [] (PL ((nf (p++scaleT q (-1))).map tn)):=by
 have h1:=iq140 q (hq.mono (by decide) (by decide)) (by omega) hqs
 have h2:=iq139t p (scaleT q (-1)) (hp.mono (by decide) (by decide)).l ((hq.scale bd_neg1 (by decide) (by decide)).mono (by decide) (by decide)).l hn (by rw[scaleT_length];exact hnq) hs
 obtain⟨P,hP⟩:=ex1 (p.map tn)
 obtain⟨Q,hQ⟩: ∃ P,q.map tn=P:=⟨_,rfl⟩
 obtain⟨N,hN⟩: ∃ P,(scaleT q (-1)).map tn=P:=⟨_,rfl⟩
 obtain⟨R,hR⟩: ∃ P,(nf (p++scaleT q (-1))).map tn=P:=⟨_,rfl⟩
 rw[hQ,hN] at h1
 rw[hP,hN,hR] at h2
 rw[hP,hQ,hR]
 refine den_of tabOk mixed Tryz.func85 (cd:=_) rfl (by decide) rfl (n:=7) rfl rfl (m:=0) rfl ?_
 simp -dsimp(disch:=omega) only[replicate,rules]
 refine gp h1 rfl ?_
 simp -dsimp(disch:=omega) only[rules]
 refine gp h2 rfl ?_
 simp -dsimp(disch:=omega) only[ru]
 refine rpq rfl ⟨tvq,tvq⟩ rfl
def addI (a b:Mn) (i:Nat):Mn:=addM (a.take i) (b.take i)++a.drop i
theorem addI_length {a b:Mn} {i:Nat} (ha:a.length=8) (hb:b.length=8) (hi:i<=8):(addI a b i).length=8:=by
 unfold addI addM;rw[qe,length_zipWith,length_take,length_take,length_drop];omega
theorem addI_at {a b:Mn} {i:Nat} (ha:a.length=8) (hb:b.length=8) (hi:i<8):(addI a b i).getD i 0=a.getD i 0:=by
 have e:(addM (a.take i) (b.take i)).length=i:=by
  unfold addM;rw[length_zipWith,length_take,length_take];omega
 unfold addI;rw[qa,getElem?_append_right (by omega),e,Nat.sub_self,List.getElem?_drop,qa];rfl
theorem addI_step {a b:Mn} {i:Nat} (ha:a.length=8) (hb:b.length=8) (hi:i<8):(addI a b i).set i (a.getD i 0+b.getD i 0)=addI a b (i+1):=by
 have e:(addM (a.take i) (b.take i)).length=i:=by
  unfold addM;rw[length_zipWith,length_take,length_take];omega
 unfold addI;rw[List.set_append_right _ _ (by omega),e,Nat.sub_self,drop_eq_getElem_cons (i:=i) (by omega),set_cons_zero];rw[List.take_add_one,qb (l:=a) (by omega),List.take_add_one,qb (l:=b) (by omega)];unfold addM;rw[List.zipWith_append (by rw[length_take,length_take];omega),append_assoc];rw[qa,qb (by omega),qa,qb (by omega)];rfl
theorem addI_done {a b:Mn} (ha:a.length=8) (hb:b.length=8):addI a b 8=addM a b:=by
 unfold addI;rw[qdq (by omega),qdq (by omega),List.drop_of_length_le (by omega),append_nil]
theorem fzCs_mC (H:List Ob) (keep:List Nat): ∀ m:List Int,fzCs H keep (mC m)=some (mC m)
 | []=>rfl
 | n::m=>by
  have ih:=fzCs_mC H keep m;unfold mC at ih ⊢;simp only[map_cons,fzCs,ih];rfl
theorem iq188 (a b:Mn) (ha:a.length=8) (hb:b.length=8) (ra: ∀ x∈a,0<=x/\x<=1000000) (rb: ∀ x∈b,0<=x/\x<=1000000):
 Den Tryz.prog 188 [] [.agg (mC a),.agg (mC b)] [] (.agg (mC (addM a b))):=by
 have la:=mC_length a
 have lb:=mC_length b
 rw[ha] at la
 rw[hb] at lb
 have ta:=mC_take ha
 have tb:=mC_take hb
 have hd:=addI_done ha hb
 have h0:addI a b 0=a:=by simp[addI,addM]
 refine den_of tabOk mixed Tryz.func188 (cd:=_) rfl (by decide) rfl (n:=17) rfl rfl (m:=0) rfl ?_
 simp -dsimp(disch:=omega) only[replicate,la,lb,reduceAdd,reduceLT,ru]
 repeat refine qy (by omega) ?_
 refine wl (α:=Nat) (fun i=>⟨[.any,.any,.ptr 0 0 0,.ptr 1 0 0,.ptr 2 0 0,.any,.int .i64 i]++replicate 12 .any,[.box true (mC (addI a b i)),.box true (mC b),.box true (mC z8)]⟩) (fun i=>8 - i) (fun i=>i<=8) 0 ?_ (qsq _) ?_
 ·rw[h0]
  refine wk [0,1,2] (by simp) rfl ?_ ?_
  ·simp[leVs,leV,le1]
  ·simp[leH,leO,le_mC]
   exact le_mC _ z8
 ·intro i hi
  have lI:=mC_length (addI a b i)
  rw[addI_length ha hb hi] at lI
  simp -dsimp(disch:=omega) only[replicate,↓reduceIte,ru]
  refine bd_ ?_ ?_
  ·intro h1 h2
   have a1:=mC_at (m:=addI a b i) (i:=i) (by rw[addI_length ha hb hi];omega)
   rw[addI_at ha hb (by omega)] at a1
   have b1:=mC_at (m:=b) (i:=i) (by omega)
   have hput:=mC_put (m:=addI a b i) (i:=i) (x:=a.getD i 0+b.getD i 0) (by rw[addI_length ha hb hi];omega)
   rw[addI_step ha hb (by omega)] at hput
   have ga:=getD_exp (by decide) ra i
   have gb:=getD_exp (by decide) rb i
   obtain⟨x,hx⟩:=ex1 (a.getD i 0)
   obtain⟨y,hy⟩: ∃ x,b.getD i 0=x:=⟨_,rfl⟩
   rw[hx] at a1 hput ga
   rw[hy] at b1 hput gb
   simp -dsimp(disch:=omega) only[h2,rules]
   refine dw (by kernel_rfl) ?_
   simp -dsimp(disch:=omega) only[a1,b1,lI,lb,Nat.mul_one,hput,↓reduceIte,reduceLT,reduceLeDiff,ru]
   repeat refine qy (by omega) ?_
   refine ap (i+1) (by omega) ?_ (by omega)
   refine wk [0,1,2] (by simp) rfl ?_ ?_
   ·simp[leVs,leV,le1]
   ·simp[leH,leO,le_mC]
  ·intro h1 h2
   have hi8:i=8:=by omega
   subst hi8
   rw[hd]
   have ld:=mC_length (addM a b)
   rw[addM_length ha hb] at ld
   have td:=mC_take (addM_length ha hb)
   have lz:(mC z8).length=8:=rfl
   have dz:List.drop 8 (mC z8)=[]:=rfl
   simp -dsimp(disch:=omega) only[h2,ld,td,lz,dz,append_nil,↓reduceIte,Nat.reduceBEq,reduceLT,reduceLeDiff,ru]
   repeat refine qy (by omega) ?_
   refine rpq rfl ⟨⟨rfl,by rw[ld];exact qp 8⟩,tvq⟩ ?_
   show fzX _ [] (.agg (List.take 8 (mC (addM a b))))=_
   rw[td]
   show(fzCs _ [] (mC (addM a b))).map PV.agg=_
   rw[fzCs_mC]
   rfl
def mulT (s t:Tm):Tm:=(addM s.1 t.1,s.2*t.2)
theorem prodT_step {p q:List Tm} {i:Nat} (h:i<p.length):prodT (p.take (i+1)) q=prodT (p.take i) q++q.map (mulT p[i]):=by
 unfold prodT;rw[List.take_add_one,qb h,List.flatMap_append];simp[mulT]
theorem addM_exp {a b:Mn} {E F:Int} (ha: ∀ x∈a,0<=x/\x<=E) (hb: ∀ x∈b,0<=x/\x<=F): ∀ x∈addM a b,0<=x/\x<=E+F:=fun x hx=>by
 obtain⟨i,hi⟩:=List.mem_iff_getElem?.1 hx;unfold addM at hi;rw[List.getElem?_zipWith] at hi;cases h1:a[i]? with
 | none=>rw[h1] at hi;cases hi
 | some u=>
  cases h2:b[i]? with
  | none=>rw[h1,h2] at hi;cases hi
  | some w=>
   rw[h1,h2] at hi;have e:u+w=x:=by simpa using hi
   have:=ha u (List.mem_of_getElem? h1);have:=hb w (List.mem_of_getElem? h2);omega
theorem prod_ok {j k:Nat} {E F:Int} {p q:List Tm} (hp:LOkT j E p) (hq:LOkT k F q) (hk:1<=j+k):LOkT (j+k) (E+F) (prodT p q):=by
 have key: ∀ t∈prodT p q,∃ u∈p,∃ w∈q,t=mulT u w:=fun t ht=>by
  unfold prodT at ht;obtain⟨u,hu,h2⟩:=List.mem_flatMap.1 ht;obtain⟨w,hw,rfl⟩:=mem_map.1 h2;exact⟨u,hu,w,hw,rfl⟩
 refine⟨Len8.prod hp.len hq.len,fun t ht=>?_,fun t ht=>?_⟩
 ·obtain⟨u,hu,w,hw,rfl⟩:=key t ht;exact Bd.mul (hp.bd u hu) (hq.bd w hw) hk
 ·obtain⟨u,hu,w,hw,rfl⟩:=key t ht;exact addM_exp (hp.exp u hu) (hq.exp w hw)
theorem takeq_step {q:List Tm} {s:Tm} {j:Nat} (h:j<q.length):(q.take (j+1)).map (mulT s)=(q.take j).map (mulT s)++[mulT s q[j]]:=by
 rw[List.take_add_one,qb h,qwb];rfl
theorem mC_reloc (f:Nat->Nat): ∀ m:List Int,List.map (reloc1 f) (mC m)=mC m
 | []=>rfl
 | n::m=>by
  have ih:=mC_reloc f m;unfold mC at ih ⊢;simp only[map_cons,ih];rfl
theorem iq142 (p q:List Tm) (hp:LOkT 1000000 100000 p) (hq:LOkT 1000000 100000 q) (hn:p.length<=20) (hnq:q.length<=20) (hs:(nf (prodT p q)).length<=sortMax):
 Den Tryz.prog 142 [] [PL (p.map tn),PL (q.map tn)] [] (PL ((nf (prodT p q)).map tn)):=by
 have hpr:=prod_ok hp hq (by decide)
 have hTs:=hpr.ts (by decide)
 have hpl:=prodT_len p q
 have hle:p.length*q.length<=20*20:=Nat.mul_le_mul hn hnq
 have h185:=iq185 ((prodT p q).map tn) (fun t ht=>(hTs t ht).mono (by decide)) (by
  rw[map_tq_tn];exact PB.terms (n:=400) (j:=2000000) (by decide) hpr.bd (by omega) (by decide)) (by rw[length_map];omega) (by rw[map_tq_tn];exact hs)
 rw[map_tq_tn] at h185
 obtain⟨R,hR⟩:=ex1 ((nf (prodT p q)).map tn)
 rw[hR] at h185 ⊢
 have rp:=rowsT_length (p.map tn)
 have rq:=rowsT_length (q.map tn)
 rw[length_map] at rp rq
 obtain⟨n,hnn⟩:=ex1 (p.length)
 obtain⟨m,hmm⟩:=ex1 (q.length)
 have rT:=rowsT_length ((prodT p q).map tn)
 rw[length_map] at rT
 have tkT:=take_rowsT (ts:=(prodT p q).map tn) (n:=(prodT p q).length) (by rw[length_map];omega)
 rw[hnn,hmm] at hpl hle
 rw[hnn] at rp hn
 rw[hmm] at rq hnq
 have hmul:(n:Int)*(m:Int)=((n*m:Nat):Int):=by simp
 obtain⟨N,hN⟩:=ex1 (n*m)
 rw[hN] at hmul hpl hle
 refine den_of tabOk mixed Tryz.func142 (cd:=_) rfl (by decide) rfl (n:=44) rfl rfl (m:=0) rfl ?_
 simp -dsimp(disch:=omega) only[replicate,rp,rq,hmul,Int.reduceToNat,↓reduceIte,reduceAdd,reduceLT,ru]
 repeat refine qy (by omega) ?_
 refine wl (α:=Nat) (fun i=>⟨[PL (p.map tn),PL (q.map tn),.any,.any,.any,.lsl 0 0 (prodT (p.take i) q).length 11,.any,.any,.any,.any,.any,.any,.any,.any,.any,.any,PL (p.map tn),.int .i64 n,.int .i64 i]++replicate 27 .any,[.row true (rowsT ((prodT (p.take i) q).map tn))]⟩) (fun i=>n - i) (fun i=>i<=n) 0 ?_ (qsq _) ?_
 ·refine wk [0] (by simp) rfl ?_ ?_
  ·simp[leVs,leV,le1]
   simp[prodT]
  ·simp[leH,leO]
   simp[prodT,rowsT]
 ·intro i hi
  simp -dsimp(disch:=omega) only[replicate,↓reduceIte,ru]
  refine bd_ ?_ ?_
  ·intro h1 h2
   have hil:i<p.length:=by omega
   have r1:=getD_n hil
   have hmem:p[i]∈p:=qqb hil
   have hms:=hp.len _ hmem
   have hbs:=hp.bd _ hmem
   have hes:=hp.exp _ hmem
   have hst:=prodT_step (q:=q) hil
   obtain⟨s,hss⟩:=ex1 (p[i])
   rw[hss] at r1 hms hbs hes hst
   have hs8:(tn s).1.length=8:=hms
   have s11:=tmF_take11 hs8
   have sfl:=tmF_length hs8
   have scl:=tmC_length hs8
   have sc8:=tmC_take8 hs8
   have scf:=tmC_coef hs8
   change List.take 3 (List.drop 8 (tmC (tn s)))=(cn s.2).c at scf
   change List.take 8 (tmC (tn s))=mC s.1 at sc8
   have hO:(prodT (p.take i) q).length<=2500:=by
    rw[prodT_len,length_take];exact qnb (Nat.mul_le_mul (Nat.min_le_left _ _) (qp _)) (qnb (Nat.mul_le_mul (show i<=50 by omega) (show q.length<=50 by omega)) (by decide))
   obtain⟨O,hOO⟩:=ex1 (prodT (p.take i) q)
   rw[hOO] at hO hst ⊢
   simp -dsimp(disch:=omega) only[h2,r1,s11,tmF_fv,sfl,scl,rp,rq,append_nil,↓reduceIte,reduceAdd,reduceLT,reduceLeDiff,ru]
   repeat refine qy (by omega) ?_
   refine wl (α:=Nat) (fun j=>⟨[PL (p.map tn),PL (q.map tn),.any,.any,.any,.lsl 0 0 (O.length+j) 11,.any,.ptr 1 0 0,.any,.any,.any,.any,.any,.any,.any,.any,PL (p.map tn),.int .i64 n,.int .i64 i,.any,.any,.any,PL (q.map tn),.int .i64 m,.int .i64 j]++replicate 21 .any,[.row true (rowsT ((O++(q.take j).map (mulT s)).map tn)),.box true (tmC (tn s))]⟩) (fun j=>m - j) (fun j=>j<=m) 0 ?_ (qsq _) ?_
   ·refine wk [0,1] (by simp) rfl ?_ ?_
    ·simp[leVs,leV,le1]
    ·simp[leH,leO,le_tmC]
   ·intro j hj
    have ro:=rowsT_length ((O++(q.take j).map (mulT s)).map tn)
    rw[length_map,qe,length_map,length_take,hmm,Nat.min_eq_left hj] at ro
    have tko:=take_rowsT (ts:=(O++(q.take j).map (mulT s)).map tn) (n:=O.length+j) (by rw[length_map,qe,length_map,length_take];omega)
    simp -dsimp(disch:=omega) only[replicate,↓reduceIte,ru]
    refine bd_ ?_ ?_
    ·intro h3 h4
     have hjl:j<q.length:=by omega
     have r2:=getD_n hjl
     have hmem:q[j]∈q:=qqb hjl
     have hmt:=hq.len _ hmem
     have hbt:=hq.bd _ hmem
     have het:=hq.exp _ hmem
     have hst2:=takeq_step (s:=s) hjl
     obtain⟨t,htt⟩: ∃ s,q[j]=s:=⟨_,rfl⟩
     rw[htt] at r2 hmt hbt het hst2
     have ht8:(tn t).1.length=8:=hmt
     have t11:=tmF_take11 ht8
     have tfl:=tmF_length ht8
     have tcl:=tmC_length ht8
     have tc8:=tmC_take8 ht8
     have tcf:=tmC_coef ht8
     change List.take 3 (List.drop 8 (tmC (tn t)))=(cn t.2).c at tcf
     change List.take 8 (tmC (tn t))=mC t.1 at tc8
     have h188:=iq188 s.1 t.1 hms hmt (fun x hx=>by have:=hes x hx;omega) (fun x hx=>by have:=het x hx;omega)
     have h54:=den54 (cn s.2) (cn t.2) ((cn_ok hbs).mono (by decide)) ((cn_ok hbt).mono (by decide))
     rw[cn_q,cn_q] at h54
     change Den Tryz.prog 70 [] [.agg (cn s.2).c,.agg (cn t.2).c] [] (.agg (cn (s.2*t.2)).c) at h54
     have hap:=rowsT_snoc ((O++(q.take j).map (mulT s)).map tn) (tn (mulT s t))
     rw[<-map_snoc,append_assoc,<-hst2] at hap
     change _++[tmF (addM s.1 t.1,cn (s.2*t.2))]=_ at hap
     have hm8:=addM_length hms hmt
     obtain⟨z,hz⟩:=ex1 (cn (s.2*t.2))
     rw[hz] at h54 hap
     obtain⟨M,hM⟩:=ex1 (addM s.1 t.1)
     rw[hM] at h188 hap hm8
     have h8:((M,z):RT).1.length=8:=hm8
     have c11:=tmC_take11 h8
     have clz:=tmC_length h8
     have f11:=tmF_take11 h8
     have flz:=tmF_length h8
     have ml:=mC_length M
     rw[hm8] at ml
     have m8:=mC_take hm8
     have bl:=bld_len hm8 (.fv (.lit (.bool false))) PV.nilsl PV.nilsl
     have pc:=bld_put hm8 (.fv (.lit (.bool false))) PV.nilsl PV.nilsl z
     simp -dsimp(disch:=omega) only[h4,r2,t11,tmF_fv,tfl,tcl,rq,append_nil,↓reduceIte,reduceAdd,reduceLT,reduceLeDiff,ru]
     repeat refine qy (by omega) ?_
     refine dw (by kernel_rfl) ?_
     simp -dsimp(disch:=omega) only[sc8,tc8,scl,tcl,↓reduceIte,reduceLeDiff,ru]
     repeat refine qy (by omega) ?_
     refine gp h188 (by simp[fzAs,fzA,fzs_mC,monoF_fv]) ?_
     simp -dsimp(disch:=omega) only[scf,tcf,scl,tcl,mC_reloc,ids_mC,append_nil,↓reduceIte,reduceAdd,reduceLeDiff,ru]
     repeat refine qy (by omega) ?_
     refine gp h54 (by simp[fzAs,fzA,fzs_c,f_fv]) ?_
     simp -dsimp(disch:=omega) only[ids_c,append_nil,c_reloc,c_length,ml,bl,pc,clz,f11,fzs_tmC,ids_tmC,ro,tko,hap,↓reduceIte,reduceAdd,reduceMul,Nat.reduceBEq,reduceLT,reduceLeDiff,ru]
     repeat refine qy (by omega) ?_
     refine ap (j+1) (by omega) ?_ (by omega)
     refine wk [4,1] (by simp) rfl ?_ ?_
     ·simp[leVs,leV,le1]
      omega
     ·simp[leH,leO,le_tmC]
    ·intro h3 h4
     have hjm:q.take j=q:=qdq (by omega)
     have hjj:j=m:=by omega
     subst hjj
     rw[hjm,<-hst]
     simp -dsimp(disch:=omega) only[h4,↓reduceIte,Nat.reduceBEq,ru]
     refine ap (i+1) (by omega) ?_ (by omega)
     rw[hst,qe,length_map,hmm,<-hst]
     refine wk [0] (by simp) rfl ?_ ?_
     ·simp[leVs,leV,le1]
     ·simp[leH,leO]
  ·intro h1 h2
   have hin:i=n:=by omega
   subst hin
   have hii:p.take i=p:=qdq (by omega)
   rw[hii]
   simp -dsimp(disch:=omega) only[h2,rules,Nat.reduceBEq]
   refine gp h185 (by simp[fzAs,fzA,fz1,fz0,tkT,rT]) ?_
   simp -dsimp(disch:=omega) only[ru]
   refine rpq rfl ⟨tvq,tvq⟩ rfl
end Go.Proofs.YtjjbkjgifdhlcaaGreat
namespace Go.AM
end Go.AM
namespace Go.Proofs.YtjjbkjgifdhlcaaGreat
open Go.AM Go.Pl
set_option maxRecDepth 100000
set_option maxHeartbeats 4000000
theorem degT_take {v:Nat} {p:List Tm} {i:Nat} (h:i<p.length):degT v (p.take (i+1))=max (degT v (p.take i)) (p[i].1.getD v 0):=by
 rw[List.take_add_one,qb h];exact degT_snoc
theorem iq187 (p:List Tm) (v:Nat) (hv:v<8) (hl:Len8 p) (hn:p.length<=10000):Den Tryz.prog 187 [] [PL (p.map tn),.int .i64 v] [] (.int .i64 (degT v p)):=by
 have rp:=rowsT_length (p.map tn);rw[length_map] at rp;obtain⟨n,hnn⟩:=ex1 (p.length);rw[hnn] at rp hn;refine den_of tabOk mixed Tryz.func187 (cd:=_) rfl (by decide) rfl (n:=20) rfl rfl (m:=0) rfl ?_;simp -dsimp(disch:=omega) only[replicate,rp,ru];refine wl (α:=Nat) (fun i=>⟨[PL (p.map tn),.int .i64 v,.any,.any,.any,.int .i64 (degT v (p.take i)),.any,.any,PL (p.map tn),.int .i64 n,.int .i64 i]++replicate 11 .any,[]⟩) (fun i=>n - i) (fun i=>i<=n) 0 ?_ (qsq _) ?_
 ·refine wk [] (by simp) rfl ?_ ?_
  ·simp[leVs,leV,le1];rfl
  ·simp[leH]
 ·intro i hi;simp -dsimp(disch:=omega) only[replicate,↓reduceIte,ru];refine bd_ ?_ ?_
  ·intro h1 h2;have hil:i<p.length:=by omega
   have r1:=getD_n hil;have hm:=hl _ (qqb hil);have hd:=degT_take (v:=v) hil;obtain⟨t,ht⟩:=ex1 (p[i]);rw[ht] at r1 hm hd;have h8:(tn t).1.length=8:=hm;have f11:=tmF_take11 h8;have fl:=tmF_length h8;have cl:=tmC_length h8;have hat:=tmC_at (t:=tn t) (i:=v) hv h8;change List.take 1 (List.drop v (tmC (tn t)))=[PV.int .i64 (t.1.getD v 0)] at hat;simp -dsimp(disch:=omega) only[h2,r1,f11,tmF_fv,fl,cl,rp,hat,Nat.mul_one,append_nil,↓reduceIte,reduceAdd,reduceLT,reduceLeDiff,ru]
   repeat refine qy (by omega) ?_
   refine ap (i+1) (by omega) ?_ (by omega);rw[hd];refine wk [] (by simp) rfl ?_ ?_
   ·simp[leVs,leV,le1];split<;>omega
   ·simp[leH]
  ·intro h1 h2;have hii:p.take i=p:=qdq (by omega);rw[hii];simp -dsimp(disch:=omega) only[h2,Nat.reduceBEq,ru];refine rpq rfl ⟨tvq,tvq⟩ rfl
end Go.Proofs.YtjjbkjgifdhlcaaGreat
namespace Go.AM
theorem Weak.nilc {m:Nat} {env:List PV} {H:List Ob} {st':St} (b j s:Nat) (rwb:Bool) (cs:List PV) (hs:0<s) (hb:H[b]?=some (.box rwb cs)) (hj:cs[j]?=some .nilsl)
 (h2:Weak m ⟨env,H.set b (.box rwb (cs.set j (.lsl H.length 0 0 s)))++[.row true []]⟩ st'):Weak m ⟨env,H⟩ st':=by
 intro c a w hml ⟨X,ρ,h,henv,hd,hkp⟩
 have hbl:b<H.length:=(List.getElem?_eq_some_iff.1 hb).1
 have hjl:j<cs.length:=(List.getElem?_eq_some_iff.1 hj).1
 have hle:ρ.Le (ρ++[some ⟨none,0,s,0⟩]):=Places.Le.append ρ _
 have hmono: ∀ {v:Value} {y:PV},PRd w X ρ v y->PRd w X (ρ++[some ⟨none,0,s,0⟩]) v y:=fun hy=>hy.mono (Same.refl X w) (fun _ _ h=>h) hle
 have key: ∀ (id:Nat) p o,(ρ++[some ⟨none,0,s,0⟩])[id]?=some (some p)->(H.set b (.box rwb (cs.set j (.lsl H.length 0 0 s)))++[Ob.row true []])[id]?=some o->
  (ρ[id]?=some (some p)/\ ∃ o2,H[id]?=some o2/\o2.rw=o.rw/\((id=b/\o= .box rwb (cs.set j (.lsl H.length 0 0 s)))\/(o=o2)))\/(p=⟨none,0,s,0⟩/\o= .row true []):=by
  intro id p o hp ho
  by_cases hlt:id<ρ.length
  ·rw[qi hlt] at hp
   rw[qi (by rw[length_set,<-h.len];exact hlt)] at ho
   left
   by_cases hi:b=id
   ·subst hi
    rw[qv hbl] at ho
    cases ho
    exact⟨hp,_,hb,rfl,.inl ⟨rfl,rfl⟩⟩
   ·rw[getElem?_set_ne hi] at ho
    exact⟨hp,o,ho,rfl,.inr rfl⟩
  ·rw[getElem?_append_right (by omega)] at hp
   rw[getElem?_append_right (by rw[length_set,<-h.len];omega),length_set,<-h.len] at ho
   right
   cases hi:id - ρ.length with
   | zero=>rw[hi] at hp ho;simp at hp ho;exact⟨hp.symm,ho.symm⟩
   | succ j=>rw[hi] at hp;simp at hp
 refine h2 c a w hml ⟨X,ρ++[some ⟨none,0,s,0⟩],⟨by simp[h.len],?_,?_,?_,h.xo,h.xlt,h.ge,h.base.trans hle⟩,⟨henv.1,fun i v x hv hx=>hmono (henv.2 i v x hv hx)⟩,hd,hkp⟩
 ·intro id p o hp ho
  rcases key id p o hp ho with⟨h3,o2,h4,_,⟨rfl,rfl⟩ | rfl⟩ | ⟨rfl,rfl⟩
  ·obtain⟨⟨g,us,hg,hh,hsz,h1,hc⟩,hrw⟩:=h.ob id p _ h3 hb
   refine⟨⟨g,us,hg,hh,by rw[length_set];exact hsz,h1,fun k u x hu hx=>?_⟩,hrw⟩
   by_cases hk:j=k
   ·subst hk
    rw[qv hjl] at hx
    cases hx
    have hu2:=(hc j u _ hu hj).nilInv
    subst hu2
    have:=PRd.lsl0 (w:=w) (X:=X) (ρ:=ρ++[some ⟨none,0,s,0⟩]) H.length ⟨none,0,s,0⟩ (by rw[<-h.len];simp) rfl
    exact this
   ·rw[getElem?_set_ne hk] at hx
    exact hmono (hc k u x hu hx)
  ·exact(h.ob id p o h3 h4).keep (Same.refl X w) (fun _ _ hx=>hx) hle (fun _ g _ _=>⟨rfl,Iff.rfl⟩)
  ·exact⟨⟨hs,by simp,[],by simpa [Place.val] using World.ownsRow_nil w 0 0 s,by simp⟩,by simp⟩
 ·intro i k p q o r g hp hq ho hr h3 h4 h5 h6
  rcases key i p o hp ho with⟨h7,o2,h8,h9,_⟩ | ⟨rfl,rfl⟩
  ·rcases key k q r hq hr with⟨h10,o3,h11,h12,_⟩ | ⟨rfl,rfl⟩
   ·exact h.inj i k p q o2 o3 g h7 h10 h8 h11 (by rw[h9];exact h3) (by rw[h12];exact h4) h5 h6
   ·simp at h6
  ·simp at h5
 ·intro i p o g hp ho h3 h4
  rcases key i p o hp ho with⟨h7,o2,h8,h9,_⟩ | ⟨rfl,rfl⟩
  ·exact h.own i p o2 g h7 h8 (by rw[h9];exact h3) h4
  ·simp at h4
theorem le1s_of {keep:List Nat}: ∀ {a b:List PV},a.length=b.length->(∀ (i:Nat) x y,a[i]?=some x->b[i]?=some y->le1 keep x y)->le1s keep a b
 | [],[],_,_=>trivial
 | x::a,y::b,hl,h=>⟨h 0 x y rfl rfl,le1s_of (by simpa using hl) (fun i u v hu hv=>h (i+1) u v hu hv)⟩
 | [],_::_,hl,_=>by simp at hl
 | _::_,[],hl,_=>by simp at hl
theorem leH_of {keep:List Nat} {H:List Ob}: ∀ {ids:List Nat} {H':List Ob},ids.length=H'.length->(∀ (i k:Nat) o',ids[i]?=some k->H'[i]?=some o'-> ∃ o,H[k]?=some o/\leO keep o o')->leH keep H ids H'
 | [],[],_,_=>trivial
 | k::ids,o::os,hl,h=>⟨by obtain⟨o2,h1,h2⟩:=h 0 k o rfl rfl;rw[h1];exact h2,leH_of (by simpa using hl) (fun i k o hk ho=>h (i+1) k o hk ho)⟩
 | [],_::_,hl,_=>by simp at hl
 | _::_,[],hl,_=>by simp at hl
theorem Weak.nilcs {m:Nat} {env:List PV} {st':St} (s:Nat) (rwb:Bool) (hs:0<s): ∀ (k:Nat) (pre:List PV) (H:List Ob) (H0:List Ob),H= .box rwb (pre++replicate k .nilsl)::H0->
 Weak m ⟨env,.box rwb (pre++(List.range k).map (fun i=> .lsl (H0.length+1+i) 0 0 s))::H0++replicate k (.row true [])⟩ st'->Weak m ⟨env,H⟩ st'
 | 0,pre,H,H0,hH,h=>by
  subst hH;simpa using h
 | k+1,pre,H,H0,hH,h=>by
  subst hH;refine Weak.nilc 0 pre.length s rwb _ hs rfl (by rw[getElem?_append_right (qp _),Nat.sub_self];rfl) ?_;refine Weak.nilcs s rwb hs k (pre++[.lsl (H0.length+1) 0 0 s]) _ (H0++[.row true []]) ?_ ?_
  ·rw[List.set_append_right _ _ (qp _),Nat.sub_self,List.replicate_succ];simp
  ·have e:(List.range (k+1)).map (fun i=>PV.lsl (H0.length+1+i) 0 0 s)= .lsl (H0.length+1) 0 0 s::(List.range k).map (fun i=>PV.lsl ((H0++[Ob.row true []]).length+1+i) 0 0 s):=by
    rw[List.range_succ_eq_map,map_cons,List.map_map];congr 1;refine List.map_congr_left fun i _=>?_
    simp only[Function.comp,qe,length_cons,List.length_nil];congr 1;omega
   rw[e,List.replicate_succ] at h;simpa using h
end Go.AM
namespace Go.Proofs.YtjjbkjgifdhlcaaGreat
open Go.AM Go.Pl
set_option maxRecDepth 100000
set_option maxHeartbeats 4000000
abbrev plC (c:List Tm):PV:= .fv (.sl (rowsT (c.map tn)))
def PLs (cs:List (List Tm)):PV:= .fv (.sl (cs.map fun c=>[FV.sl (rowsT (c.map tn))]))
def cellsL (v D:Nat) (p:List Tm):List PV:=(List.range D).map (fun d:Nat=>PV.lsl (d+1) 0 (partT v (d:Int) p).length 11)
def rowsL (v D:Nat) (p:List Tm):List Ob:=(List.range D).map (fun d:Nat=>Ob.row true (rowsT ((partT v (d:Int) p).map tn)))
def HC (v D:Nat) (p:List Tm):List Ob:= .box true (cellsL v D p)::rowsL v D p
theorem cellsL_length (v D:Nat) (p:List Tm):(cellsL v D p).length=D:=by simp[cellsL]
theorem rowsL_length (v D:Nat) (p:List Tm):(rowsL v D p).length=D:=by simp[rowsL]
theorem HC_length (v D:Nat) (p:List Tm):(HC v D p).length=D+1:=by simp[HC,rowsL_length]
theorem cellsL_at {v D d:Nat} {p:List Tm} (h:d<D):(cellsL v D p)[d]?=some (.lsl (d+1) 0 (partT v (d:Int) p).length 11):=by
 unfold cellsL;rw[List.getElem?_map,List.getElem?_range h];rfl
theorem rowsL_at {v D d:Nat} {p:List Tm} (h:d<D):(rowsL v D p)[d]?=some (.row true (rowsT ((partT v (d:Int) p).map tn))):=by
 unfold rowsL;rw[List.getElem?_map,List.getElem?_range h];rfl
theorem HC_0 (v D:Nat) (p:List Tm) (l:List Ob):(HC v D p++l)[0]?=some (.box true (cellsL v D p)):=rfl
theorem HC_row {v D d:Nat} {p:List Tm} (h:d<D) (l:List Ob):(HC v D p++l)[d+1]?=some (.row true (rowsT ((partT v (d:Int) p).map tn))):=by
 show(rowsL v D p++l)[d]?=_;rw[qi (by rw[rowsL_length];exact h)];exact rowsL_at h
theorem HC_00 (v D:Nat) (p:List Tm) (d:Nat) (a b c:Ob):((HC v D p++[a,b]).set (d+1) Ob.dead++[c])[0]?=some (.box true (cellsL v D p)):=rfl
theorem grown_app2 (H:List Ob) (a b:Ob):Grown (H++[a]) (H++[a,b]):=⟨[b],by simp⟩
theorem take1_at {α:Type} {l:List α} {i:Nat} {x:α} (h:l[i]?=some x):List.take 1 (List.drop i l)=[x]:=by
 obtain⟨hl,rfl⟩:=List.getElem?_eq_some_iff.1 h;rw[drop_eq_getElem_cons hl];rfl
theorem app_at {H0:List Ob} {L:Nat} (h:H0.length=L) (x:Ob):(H0++[x])[L]?=some x:=by subst h;simp
theorem app_at3 {H0:List Ob} {L:Nat} (h:H0.length=L) (x y:Ob):(H0++[x,y])[L+1]?=some y:=by subst h;simp
theorem app_set {H0:List Ob} {L:Nat} (h:H0.length=L) (x y:Ob):(H0++[x]).set L y=H0++[y]:=by subst h;simp
def keepC (D d:Nat):List Nat:=0::(List.range D).map (fun k=>if k=d then D+1+2 else k+1)
theorem keepC_nodup {D d:Nat} (_:d<D):(keepC D d).Nodup:=by
 unfold keepC;rw[List.nodup_cons];constructor
 ·intro h0;obtain⟨k,_,hk⟩:=mem_map.1 h0;split at hk<;>omega
 ·unfold List.Nodup;rw[List.pairwise_map];refine(List.Pairwise.and_mem.1 nodup_range).imp ?_;rintro a b ⟨ha,hb,hab⟩;have:=List.mem_range.1 ha;have:=List.mem_range.1 hb;have hne:a≠b:=hab;split<;>split<;>omega
theorem keepC_at {D d k:Nat} (h:k<D):(keepC D d)[k+1]?=some (if k=d then D+1+2 else k+1):=by
 unfold keepC;rw[List.getElem?_cons_succ,List.getElem?_map,List.getElem?_range h];rfl
theorem keepC_len (D d:Nat):(keepC D d).length=D+1:=by simp[keepC]
theorem keepC_le {v D d:Nat} {p Q:List Tm} {t:Tm} {a b:Ob} (hdD:d<D) (hd:t.1.getD v 0=(d:Int)) (hQ:partT v (d:Int) p++[(t.1.set v 0,t.2)]=Q):
 leH (keepC D d) (((HC v D p++[a,b]).set (d+1) Ob.dead++[Ob.row true (rowsT (Q.map tn))]).set 0 (Ob.box true (List.take d (cellsL v D p)++PV.lsl (D+1+2) 0 ((partT v (d:Int) p).length+1) 11::List.drop (d+1) (cellsL v D p)))) (keepC D d) (HC v D (p++[t])):=by
 have hset:List.take d (cellsL v D p)++PV.lsl (D+1+2) 0 ((partT v (d:Int) p).length+1) 11::List.drop (d+1) (cellsL v D p)=(cellsL v D p).set d (PV.lsl (D+1+2) 0 ((partT v (d:Int) p).length+1) 11):=by
  rw[List.set_eq_take_append_cons_drop,if_pos (by rw[cellsL_length];exact hdD)]
 rw[hset]
 have hsn: ∀ k:Nat,partT v (k:Int) (p++[t])=if k=d then Q else partT v (k:Int) p:=fun k=>by
  rw[partT_snoc,hd];by_cases hk:k=d
  ·subst hk;rw[if_pos rfl,if_pos rfl,hQ]
  ·rw[if_neg (by omega),if_neg hk]
 have hQl:Q.length=(partT v (d:Int) p).length+1:=by rw[<-hQ,qe];rfl
 refine leH_of (by rw[keepC_len,HC_length]) fun i k o' hk ho=>?_
 cases i with
 | zero=>
  unfold keepC at hk;simp only[List.getElem?_cons_zero,qo] at hk;subst hk;unfold HC at ho;simp only[List.getElem?_cons_zero,qo] at ho;subst ho;refine⟨_,rfl,rfl,le1s_of (by rw[length_set,cellsL_length,cellsL_length]) fun j x y hx hy=>?_⟩;have hj:j<D:=by
   have:=(List.getElem?_eq_some_iff.1 hy).1;rwa [cellsL_length] at this
  rw[cellsL_at hj,hsn] at hy;cases hy;by_cases hjd:d=j
  ·subst hjd;rw[qv (by rw[cellsL_length];exact hj)] at hx;cases hx;rw[if_pos rfl,hQl];exact⟨by rw[keepC_at hj,if_pos rfl],rfl,rfl,rfl⟩
  ·rw[getElem?_set_ne hjd,cellsL_at hj] at hx;cases hx;rw[if_neg (fun e=>hjd e.symm)];exact⟨by rw[keepC_at hj,if_neg (fun e=>hjd e.symm)],rfl,rfl,rfl⟩
 | succ j=>
  have hj:j<D:=by
   have:=(List.getElem?_eq_some_iff.1 ho).1;rw[HC_length] at this;omega
  rw[keepC_at hj] at hk;cases hk;have ho2:(rowsL v D (p++[t]))[j]?=some o':=ho;rw[rowsL_at hj,hsn] at ho2;cases ho2;by_cases hjd:j=d
  ·rw[if_pos hjd,if_pos hjd];refine⟨Ob.row true (rowsT (Q.map tn)),?_,rfl,rfl⟩;rw[getElem?_set_ne (by omega),getElem?_append_right (by rw[length_set,qe,HC_length];simp),length_set,qe,HC_length];simp
  ·rw[if_neg hjd,if_neg hjd];refine⟨Ob.row true (rowsT ((partT v (j:Int) p).map tn)),?_,rfl,rfl⟩;rw[getElem?_set_ne (by omega),qi (by rw[length_set,qe,HC_length];omega),getElem?_set_ne (by omega)];exact HC_row hj _
theorem keepC_0 (D d:Nat):(keepC D d)[0]?=some 0:=rfl
theorem HC_self (v D:Nat) (p:List Tm):leH (List.range (D+1)) (HC v D p) (List.range (D+1)) (HC v D p):=by
 refine leH_of (by rw[List.length_range,HC_length]) fun i k o hk ho=>?_
 have hi:i<D+1:=by
  have:=(List.getElem?_eq_some_iff.1 ho).1;rwa [HC_length] at this
 rw[List.getElem?_range hi] at hk;cases hk;refine⟨o,ho,?_⟩;cases i with
 | zero=>
  cases ho;refine⟨rfl,le1s_of rfl fun j x y hx hy=>?_⟩;have hj:j<D:=by
   have:=(List.getElem?_eq_some_iff.1 hy).1;rwa [cellsL_length] at this
  rw[cellsL_at hj] at hx hy;cases hx;cases hy;exact⟨List.getElem?_range (by omega),rfl,rfl,rfl⟩
 | succ j=>
  have ho2:(rowsL v D p)[j]?=some o:=ho;rw[rowsL_at (by omega)] at ho2;cases ho2;exact⟨rfl,rfl⟩
def rowsS (v D:Nat) (p:List Tm) (k:Nat):List Ob:=(List.range D).map (fun d:Nat=>Ob.row (decide (k<=d)) (rowsT ((partT v (d:Int) p).map tn)))
def outSt (v D:Nat) (p:List Tm) (k:Nat):List PV:=(List.range D).map (fun d:Nat=>plC (if d<k then partT v (d:Int) p else []))
def HS (v D:Nat) (p:List Tm) (k:Nat):List Ob:=(.box true (cellsL v D p)::rowsS v D p k)++[.box true (outSt v D p k)]
theorem rowsS_length (v D:Nat) (p:List Tm) (k:Nat):(rowsS v D p k).length=D:=by simp[rowsS]
theorem outS_length (v D:Nat) (p:List Tm) (k:Nat):(outSt v D p k).length=D:=by simp[outSt]
theorem HS_length (v D:Nat) (p:List Tm) (k:Nat):(HS v D p k).length=D+2:=by simp[HS,rowsS_length]
theorem rowsS_at {v D d:Nat} {p:List Tm} {k:Nat} (h:d<D):(rowsS v D p k)[d]?=some (.row (decide (k<=d)) (rowsT ((partT v (d:Int) p).map tn))):=by
 unfold rowsS;rw[List.getElem?_map,List.getElem?_range h];rfl
theorem outS_at {v D d:Nat} {p:List Tm} {k:Nat} (h:d<D):(outSt v D p k)[d]?=some (plC (if d<k then partT v (d:Int) p else [])):=by
 unfold outSt;rw[List.getElem?_map,List.getElem?_range h];rfl
theorem HS_0 (v D:Nat) (p:List Tm) (k:Nat):(HS v D p k)[0]?=some (.box true (cellsL v D p)):=rfl
theorem HS_row {v D d:Nat} {p:List Tm} {k:Nat} (h:d<D):(HS v D p k)[d+1]?=some (.row (decide (k<=d)) (rowsT ((partT v (d:Int) p).map tn))):=by
 show(rowsS v D p k++_)[d]?=_;rw[qi (by rw[rowsS_length];exact h)];exact rowsS_at h
theorem HS_out (v D:Nat) (p:List Tm) (k:Nat):(HS v D p k)[D+1]?=some (.box true (outSt v D p k)):=by
 show(rowsS v D p k++_)[D]?=_;rw[getElem?_append_right (by rw[rowsS_length];omega),rowsS_length,Nat.sub_self];rfl
theorem mod_ne {l:List Ob} {i j:Nat} (h:i≠j):(l.modify i Ob.ro)[j]?=l[j]?:=by
 rw[List.getElem?_modify];simp only[if_neg h];cases l[j]?<;>rfl
theorem HS_step {v D k:Nat} {p:List Tm} (hk:k<D):leH (List.range (D+2)) (((HS v D p k).modify (k+1) Ob.ro).set (D+1) (Ob.box true (List.take k (outSt v D p k)++plC (partT v (k:Int) p)::List.drop (k+1) (outSt v D p k)))) (List.range (D+2)) (HS v D p (k+1)):=by
 have hset:List.take k (outSt v D p k)++plC (partT v (k:Int) p)::List.drop (k+1) (outSt v D p k)=(outSt v D p k).set k (plC (partT v (k:Int) p)):=by
  rw[List.set_eq_take_append_cons_drop,if_pos (by rw[outS_length];exact hk)]
 rw[hset];refine leH_of (by rw[List.length_range,HS_length]) fun i j o hj ho=>?_
 have hi:i<D+2:=by
  have:=(List.getElem?_eq_some_iff.1 ho).1;rwa [HS_length] at this
 rw[List.getElem?_range hi] at hj;cases hj;by_cases hiD:i=D+1
 ·subst hiD;rw[HS_out] at ho;cases ho;refine⟨_,qv (by rw[List.length_modify,HS_length];omega),rfl,le1s_of (by rw[length_set,outS_length,outS_length]) fun j x y hx hy=>?_⟩;have hj:j<D:=by
   have:=(List.getElem?_eq_some_iff.1 hy).1;rwa [outS_length] at this
  rw[outS_at hj] at hy;cases hy;by_cases hjk:k=j
  ·subst hjk;rw[qv (by rw[outS_length];exact hj)] at hx;cases hx;rw[if_pos (by omega)];rfl
  ·rw[getElem?_set_ne hjk,outS_at hj] at hx;cases hx;by_cases hlt:j<k
   ·rw[if_pos hlt,if_pos (by omega)];rfl
   ·rw[if_neg hlt,if_neg (by omega)];rfl
 ·cases i with
  | zero=>
   cases ho;refine⟨.box true (cellsL v D p),?_,rfl,le1s_of rfl fun j x y hx hy=>?_⟩
   ·rw[getElem?_set_ne (by omega),mod_ne (by omega)];rfl
   ·have hj:j<D:=by
     have:=(List.getElem?_eq_some_iff.1 hy).1;rwa [cellsL_length] at this
    rw[cellsL_at hj] at hx hy;cases hx;cases hy;exact⟨List.getElem?_range (by omega),rfl,rfl,rfl⟩
  | succ j=>
   have hj:j<D:=by omega
   rw[HS_row hj] at ho;cases ho;by_cases hjk:k=j
   ·subst hjk;refine⟨Ob.row false (rowsT ((partT v (k:Int) p).map tn)),?_,?_,rfl⟩
    ·rw[getElem?_set_ne (by omega),List.getElem?_modify_eq,HS_row hj];rfl
    ·rw[qcb (by omega)]
   ·refine⟨Ob.row (decide (k<=j)) (rowsT ((partT v (j:Int) p).map tn)),?_,?_,rfl⟩
    ·rw[getElem?_set_ne (by omega),mod_ne (by omega),HS_row hj]
    ·by_cases h9:k<=j
     ·rw[qbb h9,qbb (by omega)]
     ·rw[qcb h9,qcb (by omega)]
theorem HS_start {v D:Nat} {p:List Tm}:leH (List.range (D+2)) (HC v D p++[Ob.box true (replicate D PV.nilsl)]) (List.range (D+2)) (HS v D p 0):=by
 refine leH_of (by rw[List.length_range,HS_length]) fun i j o hj ho=>?_
 have hi:i<D+2:=by
  have:=(List.getElem?_eq_some_iff.1 ho).1;rwa [HS_length] at this
 rw[List.getElem?_range hi] at hj;cases hj;by_cases hiD:i=D+1
 ·subst hiD;rw[HS_out] at ho;cases ho;refine⟨_,app_at (HC_length v D p) _,rfl,le1s_of (by rw[qib,outS_length]) fun j x y hx hy=>?_⟩;have hj:j<D:=by
   have:=(List.getElem?_eq_some_iff.1 hy).1;rwa [outS_length] at this
  rw[outS_at hj,if_neg (by omega)] at hy;cases hy;rw[List.getElem?_replicate,if_pos hj] at hx;cases hx;exact trivial
 ·cases i with
  | zero=>
   cases ho;refine⟨.box true (cellsL v D p),rfl,rfl,le1s_of rfl fun j x y hx hy=>?_⟩;have hj:j<D:=by
    have:=(List.getElem?_eq_some_iff.1 hy).1;rwa [cellsL_length] at this
   rw[cellsL_at hj] at hx hy;cases hx;cases hy;exact⟨List.getElem?_range (by omega),rfl,rfl,rfl⟩
  | succ j=>
   have hj:j<D:=by omega
   rw[HS_row hj] at ho;cases ho;exact⟨_,HC_row hj _,by rw[qbb (qsq _)],rfl⟩
theorem part_ok {k:Nat} {E:Int} {p:List Tm} {v:Nat} {d:Int} (h:POk k E p) (hE:0<=E):POk k E (partT v d p):=by
 refine⟨partT_canon h.canon,fun t ht=>?_,fun t ht e he=>?_⟩
 all_goals
  unfold partT at ht;obtain⟨u,hu,rfl⟩:=mem_map.1 ht;have hu2:=(List.mem_filter.1 hu).1
 ·exact h.bd u hu2
 ·rcases List.mem_or_eq_of_mem_set he with h1 | h1
  ·exact h.exp u hu2 e h1
  ·omega
theorem fzs_outS (H:List Ob) (f:Nat->List Tm): ∀ l:List Nat,fzs H (l.map (fun d=>plC (f d)))=some (l.map (fun d=>FV.sl (rowsT ((f d).map tn))))
 | []=>rfl
 | d::l=>by
  rw[map_cons,map_cons,fzs,fzs_outS H f l];rfl
def envC (D:Nat) (x:PV) (y:PV):List PV:=[.any,.any,.any,.any,.any,.any,.any,.any,.any,x]++replicate 34 .any++[y,.int .i64 D,.int .i64 D]++replicate 11 .any
theorem weak_done {v D:Nat} {p:List Tm} (hD:degT v p+1=(D:Int)):Weak 0 ⟨envC D (.lsl (D+1) 0 D 1) (.lsl 0 0 D 1),HS v D p D⟩ ⟨envC D (PLs (partsT v p)) .any,[]⟩:=by
 have co:=HS_out v D p D;have hl:=HS_length v D p D;have e:outSt v D p D=(List.range D).map (fun d:Nat=>plC (partT v (d:Int) p)):=by
  unfold outSt;refine List.map_congr_left fun d hd=>?_
  rw[if_pos (List.mem_range.1 hd)]
 rw[e] at co;obtain⟨HH,hHH⟩: ∃ C,HS v D p D=C:=⟨_,rfl⟩;rw[hHH] at co hl ⊢;refine Weak.shut [D+1] ?_;show Weak 0 ⟨envC D (.lsl (D+1) 0 D 1) (.lsl 0 0 D 1),HH.modify (D+1) Ob.ro⟩ _;refine Weak.fzb 9 (D+1) D ((List.range D).map (fun d:Nat=>plC (partT v (d:Int) p))) ((List.range D).map (fun d:Nat=>FV.sl (rowsT ((partT v (d:Int) p).map tn)))) rfl ?_ (by simp) (fzs_outS _ (fun d:Nat=>partT v (d:Int) p) _) ?_ ?_
 ·rw[List.getElem?_modify_eq,co];rfl
 ·intro k hk;obtain⟨c,hc,hk2⟩:=List.mem_flatMap.1 hk;obtain⟨d,_,rfl⟩:=mem_map.1 hc;simp[ids0] at hk2
 ·have e2:(PV.fv (.sl (((List.range D).map (fun d:Nat=>FV.sl (rowsT ((partT v (d:Int) p).map tn)))).map fun x=>[x])))=PLs (partsT v p):=by
   unfold PLs partsT;rw[hD,Int.toNat_natCast,List.map_map,List.map_map];rfl
  rw[e2];refine wk [] (by simp) rfl ?_ trivial;show leVs [] _ _;unfold PLs envC;simp[leVs,leV,le1]
theorem iq141 (p:List Tm) (v:Nat) (hv:v<8) (hp:POk 10000000 2000 p) (hn:p.length<=50) (hs:p.length<=sortMax):
 Den Tryz.prog 141 [] [PL (p.map tn),.int .i64 v] [] (PLs (partsT v p)):=by
 have h187:=iq187 p v hv hp.canon.len (by omega)
 have hdg:=degT_ge (v:=v) (p:=p)
 have hdl:degT v p<=2000:=degT_lt (by decide) (fun t ht=>(hp.at (by decide) v t ht).2)
 obtain⟨D,hD⟩: ∃ D:Nat,degT v p+1=(D:Int):=⟨(degT v p+1).toNat,by omega⟩
 have hDl:D<=2001:=by omega
 have rp:=rowsT_length (p.map tn)
 rw[length_map] at rp
 obtain⟨n,hnn⟩:=ex1 (p.length)
 rw[hnn] at rp hn
 obtain⟨g,hg⟩:=ex1 (degT v p)
 rw[hg] at h187 hD
 refine den_of tabOk mixed Tryz.func141 (cd:=_) rfl (by decide) rfl (n:=56) rfl rfl (m:=0) rfl ?_
 simp -dsimp(disch:=omega) only[replicate,rules]
 refine gp h187 rfl ?_
 simp -dsimp(disch:=omega) only[hD,rp,Int.toNat_natCast,↓reduceIte,ru]
 repeat refine qy (by omega) ?_
 refine wl (α:=Nat) (fun i=>⟨[PL (p.map tn),.int .i64 v,.any,.any,.any,.lsl 0 0 D 1,.any,.any,.any,.any,.any,.any,.any,.any,.any,.any,.any,PL (p.map tn),.int .i64 n,.int .i64 i]++replicate 38 .any,HC v D (p.take i)⟩) (fun i=>n - i) (fun i=>i<=n) 0 ?_ (qsq _) ?_
 ·refine Weak.nilcs 11 true (by decide) D [] _ [] rfl ?_
  have e:(Ob.box true ([]++(List.range D).map (fun i=>PV.lsl (([]:List Ob).length+1+i) 0 0 11))::[]++replicate D (Ob.row true []))=HC v D (p.take 0):=by
   unfold HC;show _::_=_::_;congr 1
   ·unfold cellsL;show Ob.box true (List.map _ _)=_;congr 1;refine List.map_congr_left fun d _=>?_
    show PV.lsl (0+1+d) 0 0 11=PV.lsl (d+1) 0 0 11;congr 1;omega
   ·unfold rowsL;show replicate D _=_;symm;rw[List.eq_replicate_iff];refine⟨by simp,fun o ho=>?_⟩;obtain⟨d,_,rfl⟩:=mem_map.1 ho;rfl
  rw[e]
  refine wk (List.range (D+1)) nodup_range rfl ?_ (HC_self v D _)
  simp[leVs,leV,le1]
 ·intro i hi
  have cl:=cellsL_length v D (p.take i)
  simp -dsimp(disch:=omega) only[replicate,↓reduceIte,ru]
  refine bd_ ?_ ?_
  ·intro h1 h2
   have hil:i<p.length:=by omega
   have r1:=getD_n hil
   have hmem:p[i]∈p:=qqb hil
   have hm:=hp.canon.len _ hmem
   have hat:=hp.at (by decide) v _ hmem
   have hdle:=degT_le (v:=v) hmem
   have htk:p.take (i+1)=p.take i++[p[i]]:=by rw[List.take_add_one,qb hil];rfl
   obtain⟨t,ht⟩:=ex1 (p[i])
   rw[ht] at r1 hm hat hdle htk
   obtain⟨d,hd⟩: ∃ d:Nat,t.1.getD v 0=(d:Int):=⟨(t.1.getD v 0).toNat,by omega⟩
   have hdD:d<D:=by omega
   have ca:=take1_at (cellsL_at (v:=v) (p:=p.take i) hdD)
   have h8:(tn t).1.length=8:=hm
   have f11:=tmF_take11 h8
   have fl:=tmF_length h8
   have tcl:=tmC_length h8
   have tat:=tmC_at (t:=tn t) (i:=v) hv h8
   change List.take 1 (List.drop v (tmC (tn t)))=[PV.int .i64 (t.1.getD v 0)] at tat
   rw[hd] at tat
   have hput:=tmC_put (t:=tn t) (i:=v) (x:=0) hv h8
   change List.take v (tmC (tn t))++[PV.int IntKind.i64 0]++List.drop (v+1) (tmC (tn t))=tmC (tn (t.1.set v 0,t.2)) at hput
   have h8z:(tn (t.1.set v 0,t.2)).1.length=8:=by simp[tn,hm]
   obtain⟨u,hu⟩:=ex1 (tn (t.1.set v 0,t.2))
   have hap:=rowsT_snoc ((partT v (d:Int) (p.take i)).map tn) (tn (t.1.set v 0,t.2))
   rw[<-map_snoc] at hap
   obtain⟨Q,hQ⟩:=ex1 (partT v (d:Int) (p.take i)++[(t.1.set v 0,t.2)])
   have hpl:(partT v (d:Int) (p.take i)).length<=i:=by
    have:=partT_len (v:=v) (d:=(d:Int)) (p:=p.take i);rw[length_take] at this;omega
   have ro:=rowsT_length ((partT v (d:Int) (p.take i)).map tn)
   rw[length_map] at ro
   have hQl:Q.length=(partT v (d:Int) (p.take i)).length+1:=by rw[<-hQ,qe];rfl
   have tko:=take_rowsT (ts:=(partT v (d:Int) (p.take i)).map tn) (n:=(partT v (d:Int) (p.take i)).length) (by rw[length_map];omega)
   have hrow:=HC_row (v:=v) (p:=p.take i) hdD
   have h0:=HC_0 v D (p.take i)
   have hL:=HC_length v D (p.take i)
   have h00:=HC_00 v D (p.take i) d
   rw[hQ] at hap
   rw[hu] at hput h8z hap
   obtain⟨O,hO⟩:=ex1 (partT v (d:Int) (p.take i))
   rw[hO] at ca hap hpl ro hQl hrow tko
   obtain⟨CC,hCC⟩: ∃ C,cellsL v D (p.take i)=C:=⟨_,rfl⟩
   rw[hCC] at ca cl h0 h00
   obtain⟨HH,hHH⟩: ∃ C,HC v D (p.take i)=C:=⟨_,rfl⟩
   rw[hHH] at hrow h0 h00 hL ⊢
   have u11:=tmC_take11 h8z
   have ul:=tmC_length h8z
   have uf11:=tmF_take11 h8z
   have ufl:=tmF_length h8z
   have hdd:(D+1+1==d+1)=false:=by rw[qx];omega
   simp -dsimp(disch:=omega) only[h2,r1,f11,tmF_fv,fl,tcl,rp,tat,hput,Nat.mul_one,append_nil,hL,app_at hL,app_set hL,↓reduceIte,reduceAdd,reduceLT,reduceLeDiff,ru]
   repeat refine qy (by omega) ?_
   refine dw (by kernel_rfl) ?_
   simp -dsimp(disch:=omega) only[h0,ca,cl,u11,ul,uf11,fzs_tmC,ids_tmC,ro,tko,hap,hrow,append_nil,hL,app_at hL,app_at3 hL,hdd,qe,length_cons,List.length_nil,append_assoc,↓reduceIte,reduceAdd,reduceMul,reduceLT,reduceLeDiff,ru]
   repeat refine qy (by omega) ?_
   refine⟨grown_app2 _ _ _,?_⟩
   repeat refine qy (by omega) ?_
   simp -dsimp(disch:=omega) only[h00,cl,↓reduceIte,ru]
   repeat refine qy (by omega) ?_
   refine ap (i+1) (by omega) ?_ (by omega)
   refine wk (keepC D d) (keepC_nodup hdD) rfl ?_ ?_
   ·simp[leVs,leV,le1]
    exact keepC_0 D d
   ·rw[<-hHH,<-hCC,<-hO,htk]
    exact keepC_le hdD hd (by rw[hQ])
  ·intro h1 h2
   have hii:p.take i=p:=qdq (by omega)
   rw[hii]
   have hL:=HC_length v D p
   obtain⟨HH,hHH⟩: ∃ C,HC v D p=C:=⟨_,rfl⟩
   rw[hHH] at hL ⊢
   simp -dsimp(disch:=omega) only[h2,hL,Int.toNat_natCast,↓reduceIte,Nat.reduceBEq,ru]
   repeat refine qy (by omega) ?_
   refine wl (α:=Nat) (fun k=>if k=D then⟨envC D (PLs (partsT v p)) .any,[]⟩ else⟨[.any,.any,.any,.any,.any,.any,.any,.any,.any,.lsl (D+1) 0 D 1]++replicate 34 .any++[.lsl 0 0 D 1,.int .i64 D,.int .i64 k]++replicate 11 .any,HS v D p k⟩) (fun k=>D - k) (fun k=>k<=D) 0 ?_ (qsq _) ?_
   ·by_cases hD0:0=D
    ·rw[if_pos hD0]
     have wd:=weak_done (v:=v) (p:=p) (D:=D) (by rw[hg];exact hD)
     refine Weak.trans ?_ wd
     subst hD0
     refine wk (List.range (0+2)) nodup_range rfl ?_ ?_
     ·unfold envC
      simp[leVs,leV,le1]
     ·rw[<-hHH]
      exact HS_start
    ·rw[if_neg hD0]
     refine wk (List.range (D+2)) nodup_range rfl ?_ ?_
     ·simp[leVs,leV,le1]
     ·rw[<-hHH]
      exact HS_start
   ·intro k hk
    by_cases hkD:k=D
    ·rw[if_pos hkD]
     subst hkD
     unfold envC
     have h4:decide ((k:Int)<(k:Int))=false:=qcb (by omega)
     simp -dsimp(disch:=omega) only[replicate,h4,↓reduceIte,Nat.reduceBEq,ru]
     refine rpq rfl ⟨tvq,tvq⟩ ?_
     unfold PLs
     rfl
    ·rw[if_neg hkD]
     have hkD:k<D:=by omega
     have h4:decide ((k:Int)<(D:Int))=true:=qbb (by omega)
     simp -dsimp(disch:=omega) only[replicate,↓reduceIte,ru]
     have ca:=take1_at (cellsL_at (v:=v) (p:=p) hkD)
     have c0:=HS_0 v D p k
     have cr:=HS_row (v:=v) (p:=p) (k:=k) hkD
     have co:=HS_out v D p k
     have cl:=cellsL_length v D p
     have ol:=outS_length v D p k
     obtain⟨HH,hHH⟩: ∃ C,HS v D p k=C:=⟨_,rfl⟩
     rw[hHH] at c0 cr co ⊢
     have hpo:=part_ok (v:=v) (d:=(k:Int)) hp (by decide)
     have hpl:(partT v (k:Int) p).length<=n:=by
      have:=partT_len (v:=v) (d:=(k:Int)) (p:=p);omega
     have h185:=iq185 ((partT v (k:Int) p).map tn) (fun t ht=>((hpo.ts (by decide)) t ht).mono (by decide)) (by
      rw[map_tq_tn];exact PB.terms (n:=50) (j:=10000000) (by decide) hpo.bd (by omega) (by decide)) (by rw[length_map];omega) (by rw[map_tq_tn,nf_self hpo.canon];omega)
     rw[map_tq_tn,nf_self hpo.canon] at h185
     have rt:=rowsT_length ((partT v (k:Int) p).map tn)
     rw[length_map] at rt
     have tk:=take_rowsT (ts:=(partT v (k:Int) p).map tn) (n:=(partT v (k:Int) p).length) (by rw[length_map];omega)
     simp -dsimp(disch:=omega) only[h4,c0,ca,cl,↓reduceIte,ru]
     repeat refine qy (by omega) ?_
     refine gp h185 (by simp[fzAs,fzA,fz1,fz0,cr,tk,rt]) ?_
     have cm:(HH.modify (k+1) Ob.ro)[D+1]?=some (.box true (outSt v D p k)):=by
      rw[mod_ne (by omega)];exact co
     simp -dsimp(disch:=omega) only[cm,ol,append_nil,↓reduceIte,reduceLT,ru]
     repeat refine qy (by omega) ?_
     refine ap (k+1) (by omega) ?_ (by omega)
     by_cases hk1:k+1=D
     ·rw[if_pos hk1]
      refine Weak.trans ?_ (weak_done (v:=v) (p:=p) (D:=D) (by rw[hg];exact hD))
      refine wk (List.range (D+2)) nodup_range rfl ?_ ?_
      ·unfold envC
       simp[leVs,leV,le1]
       omega
      ·rw[<-hHH,append_assoc]
       have e8:HS v D p D=HS v D p (k+1):=by rw[hk1]
       rw[e8]
       exact HS_step hkD
     ·rw[if_neg hk1]
      refine wk (List.range (D+2)) nodup_range rfl ?_ ?_
      ·simp[leVs,leV,le1]
      ·rw[<-hHH,append_assoc]
       exact HS_step hkD
structure SubOk (q:List Tm) (cs:List (List Tm)):Prop where
 out: ∀ i,LOkT 1000000 100000 (hornT q (cs.drop i))/\(hornT q (cs.drop i)).length<=sortMax
 prod: ∀ i,LOkT 1000000 100000 (nf (prodT (hornT q (cs.drop i)) q))/\(nf (prodT (hornT q (cs.drop i)) q)).length<=sortMax
 part: ∀ c∈cs,LOkT 1000000 100000 c/\c.length<=sortMax
theorem sortMax_le:sortMax<=20:=by decide
theorem plsRow {cs:List (List Tm)} {i:Nat} (h:i<cs.length):(cs.map fun c=>[FV.sl (rowsT (c.map tn))]).getD i []=[FV.sl (rowsT (cs[i].map tn))]:=by
 rw[qa,List.getElem?_map,qb h];rfl
theorem iq86 (p q:List Tm) (v:Nat) (hv:v<8) (hp:POk 1000000 2000 p) (hq:LOkT 1000000 100000 q) (hn:p.length<=20) (hs:p.length<=sortMax) (hqs:q.length<=sortMax) (hok:SubOk q (partsT v p)):
 Den Tryz.prog 86 [] [PL (p.map tn),.int .i64 v,PL (q.map tn)] [] (PL ((substT v q p).map tn)):=by
 have h141:=iq141 p v hv (hp.mono (by decide) (by decide)) (by omega) hs
 have hm:=sortMax_le
 have hdg:=degT_ge (v:=v) (p:=p)
 have hdl:degT v p<=2000:=degT_lt (by decide) (fun t ht=>(hp.at (by decide) v t ht).2)
 have hcl:=partsT_len v p
 unfold substT
 obtain⟨cs,hcs⟩:=ex1 (partsT v p)
 rw[hcs] at h141 hok hcl ⊢
 obtain⟨D,hD⟩:=ex1 (cs.length)
 have hDl:D<=2001:=by omega
 have hml:(cs.map fun c=>[FV.sl (rowsT (c.map tn))]).length=D:=by rw[length_map,hD]
 unfold PLs at h141
 obtain⟨X,hX⟩:=ex1 ((cs.map fun c=>[FV.sl (rowsT (c.map tn))]))
 have hrow: ∀ i,(h:i<cs.length)->X.getD i []=[FV.sl (rowsT (cs[i].map tn))]:=fun i h=>by rw[<-hX];exact plsRow h
 rw[hX] at h141 hml
 refine den_of tabOk mixed Tryz.func86 (cd:=_) rfl (by decide) rfl (n:=26) rfl rfl (m:=0) rfl ?_
 simp -dsimp(disch:=omega) only[replicate,rules]
 refine gp h141 rfl ?_
 simp -dsimp(disch:=omega) only[hml,↓reduceIte,ru]
 refine wl (α:=Nat) (fun i=>⟨[.any,.any,PL (q.map tn),.any,.any,.any,.any,.fv (.sl X),PL ((hornT q (cs.drop i)).map tn),.int .i64 ((i:Int) - 1)]++replicate 19 .any,[]⟩) (fun i=>i) (fun i=>i<=D) D ?_ (qp _) ?_
 ·refine wk [] (by simp) rfl ?_ ?_
  ·rw[List.drop_of_length_le (by omega)]
   simp[leVs,leV,le1]
   exact trivial
  ·simp[leH]
 ·intro i hi
  simp -dsimp(disch:=omega) only[replicate,↓reduceIte,ru]
  refine bd_ ?_ ?_
  ·intro h1 h2
   obtain⟨j,rfl⟩: ∃ j,i=j+1:=⟨i - 1,by omega⟩
   have e1:(((j+1:Nat):Int) - 1)=(j:Int):=by omega
   have hjl:j<cs.length:=by omega
   have hr:=hrow j hjl
   obtain⟨o1,o2⟩:=hok.out (j+1)
   obtain⟨p1,p2⟩:=hok.prod (j+1)
   obtain⟨c1,c2⟩:=hok.part _ (qqb hjl)
   have hdr:hornT q (cs.drop j)=nf (nf (prodT (hornT q (cs.drop (j+1))) q)++cs[j]):=by
    rw[drop_eq_getElem_cons hjl,horn_step o1.len hq.len c1.len];rfl
   obtain⟨u1,u2⟩:=hok.out j
   rw[hdr] at u2
   have h142:=iq142 (hornT q (cs.drop (j+1))) q o1 hq (by omega) (by omega) p2
   have h139:=iq139t (nf (prodT (hornT q (cs.drop (j+1))) q)) cs[j] (p1.mono (by decide) (by decide)) (c1.mono (by decide) (by decide)) (by omega) (by omega) u2
   rw[<-hdr] at h139
   obtain⟨A,hA⟩:=ex1 ((hornT q (cs.drop (j+1))).map tn)
   obtain⟨Q,hQ⟩: ∃ A,q.map tn=A:=⟨_,rfl⟩
   obtain⟨M,hM⟩: ∃ A,(nf (prodT (hornT q (cs.drop (j+1))) q)).map tn=A:=⟨_,rfl⟩
   obtain⟨C,hC⟩: ∃ A,cs[j].map tn=A:=⟨_,rfl⟩
   rw[hA,hQ,hM] at h142
   rw[hM,hC] at h139
   rw[hC] at hr
   rw[hA,hQ]
   simp -dsimp(disch:=omega) only[e1,rules]
   refine dw (by kernel_rfl) ?_
   simp -dsimp(disch:=omega) only[rules]
   refine gp h142 rfl ?_
   simp -dsimp(disch:=omega) only[hml,hr,↓reduceIte,reduceLT,reduceLeDiff,ru]
   repeat refine qy (by omega) ?_
   refine gp h139 rfl ?_
   simp -dsimp(disch:=omega) only[↓reduceIte,ru]
   repeat refine qy (by omega) ?_
   refine ap j (by omega) ?_ (by omega)
   rw[<-hQ]
   refine wk [] (by simp) rfl ?_ ?_
   ·simp[leVs,leV,le1]
   ·simp[leH]
  ·intro h1 h2
   have hi0:i=0:=by omega
   subst hi0
   simp -dsimp(disch:=omega) only[h2,List.drop_zero,Nat.reduceBEq,ru]
   refine rpq rfl ⟨tvq,tvq⟩ rfl
def mxL (m:List Int) (i:Nat):Int:=(m.take i).foldl max (m.getD 0 0)
theorem mxL_step {m:List Int} {i:Nat} (h:i<m.length):mxL m (i+1)=max (mxL m i) (m.getD i 0):=by
 unfold mxL;rw[List.take_add_one,qb h,List.foldl_append,qa (i:=i),qb h];rfl
theorem mxL_one {m:List Int} (h:0<m.length):mxL m 1=m.getD 0 0:=by
 cases m with
 | nil=>simp at h
 | cons x m=>simp[mxL]
theorem foldmax_le: ∀ (m:List Int) (a N:Int),m.foldl max a<=N↔a<=N/\ ∀ x∈m,x<=N
 | [],a,N=>by simp
 | x::m,a,N=>by
  rw[List.foldl_cons,foldmax_le m (max a x) N];constructor
  ·rintro⟨h1,h2⟩;exact⟨by omega,fun y hy=>by
    rcases List.mem_cons.1 hy with rfl | hy
    ·omega
    ·exact h2 y hy⟩
  ·rintro⟨h1,h2⟩;exact⟨by have:=h2 x (by simp);omega,fun y hy=>h2 y (mem_cons_of_mem _ hy)⟩
theorem mxL_le {m:List Int} {N:Int} (h:0<m.length):mxL m m.length<=N↔ ∀ x∈m,x<=N:=by
 unfold mxL;rw[List.take_length,foldmax_le];constructor
 ·exact fun h2=>h2.2
 ·refine fun h2=>⟨h2 _ ?_,h2⟩
  rw[qa,qb h];exact qqb h
def topT (p:List Tm):Int:=p.foldl (fun d t=>max d (mxL t.1 8)) 0
theorem topT_take {p:List Tm} {i:Nat} (h:i<p.length):topT (p.take (i+1))=max (topT (p.take i)) (mxL p[i].1 8):=by
 unfold topT;rw[List.take_add_one,qb h,List.foldl_append];rfl
theorem iq143 (m:List Int) (h0:0<m.length) (hn:m.length<=1000):Den Tryz.prog 143 [] [.fv (.sl (ints m))] [] (.int .i64 (mxL m m.length)):=by
 have il:=ints_length m;obtain⟨n,hnn⟩:=ex1 (m.length);rw[hnn] at il h0 hn ⊢;have h1:decide ((n:Int)<1)=false:=qcb (by omega);have g0:=ints_getD (xs:=m) (i:=0) (by omega);have m1:=mxL_one (m:=m) (by omega);refine den_of tabOk mixed Tryz.func143 (cd:=_) rfl (by decide) rfl (n:=24) rfl rfl (m:=0) rfl ?_;simp -dsimp(disch:=omega) only[replicate,il,h1,g0,Int.reduceToNat,↓reduceIte,reduceLT,reduceLeDiff,ru]
 repeat refine qy (by omega) ?_
 refine wl (α:=Nat) (fun i=>⟨[.fv (.sl (ints m)),.any,.any,.int .i64 (mxL m i),.int .i64 i]++replicate 20 .any,[]⟩) (fun i=>n - i) (fun i=>1<=i/\i<=n) 1 ?_ ⟨qp _,by omega⟩ ?_
 ·rw[m1];refine wk [] (by simp) rfl ?_ ?_
  ·simp[leVs,leV,le1]
  ·simp[leH]
 ·rintro i ⟨hi1,hi⟩;simp -dsimp(disch:=omega) only[replicate,il,↓reduceIte,ru];refine bd_ ?_ ?_
  ·intro h2 h3;have gi:=ints_getD (xs:=m) (i:=i) (by omega);have hst:=mxL_step (m:=m) (i:=i) (by omega);obtain⟨x,hx⟩:=ex1 (m.getD i 0);rw[hx] at gi hst;obtain⟨y,hy⟩: ∃ x,mxL m i=x:=⟨_,rfl⟩;rw[hy] at hst ⊢;simp -dsimp(disch:=omega) only[h3,il,gi,↓reduceIte,reduceLT,reduceLeDiff,ru]
   repeat refine qy (by omega) ?_
   refine ap (i+1) (by omega) ?_ ⟨by omega,by omega⟩;rw[hst];refine wk [] (by simp) rfl ?_ ?_
   ·simp[leVs,leV,le1];split<;>omega
   ·simp[leH]
  ·intro h2 h3;have hin:i=n:=by omega
   subst hin;simp -dsimp(disch:=omega) only[h3,Nat.reduceBEq,ru];refine rpq rfl ⟨tvq,tvq⟩ rfl
theorem iq87 (p:List Tm) (hl:Len8 p) (_: ∀ t∈p,∀ x∈t.1,-1000000000000<=x/\x<=1000000000000) (hn:p.length<=10000):Den Tryz.prog 87 [] [PL (p.map tn)] [] (.int .i64 (topT p)):=by
 have rp:=rowsT_length (p.map tn);rw[length_map] at rp;obtain⟨n,hnn⟩:=ex1 (p.length);rw[hnn] at rp hn;refine den_of tabOk mixed Tryz.func87 (cd:=_) rfl (by decide) rfl (n:=18) rfl rfl (m:=0) rfl ?_;simp -dsimp(disch:=omega) only[replicate,rp,ru];refine wl (α:=Nat) (fun i=>⟨[PL (p.map tn),.any,.any,.int .i64 (topT (p.take i)),.any,.any,PL (p.map tn),.int .i64 n,.int .i64 i]++replicate 10 .any,[]⟩) (fun i=>n - i) (fun i=>i<=n) 0 ?_ (qsq _) ?_
 ·refine wk [] (by simp) rfl ?_ ?_
  ·simp[leVs,leV,le1];rfl
  ·simp[leH]
 ·intro i hi;simp -dsimp(disch:=omega) only[replicate,↓reduceIte,ru];refine bd_ ?_ ?_
  ·intro h1 h2;have hil:i<p.length:=by omega
   have r1:=getD_n hil;have hm:=hl _ (qqb hil);have hst:=topT_take hil;obtain⟨t,ht⟩:=ex1 (p[i]);rw[ht] at r1 hm hst;have h8:(tn t).1.length=8:=hm;have f11:=tmF_take11 h8;have fl:=tmF_length h8;have cl:=tmC_length h8;have c8:=tmC_take8 h8;change List.take 8 (tmC (tn t))=mC t.1 at c8;have h143:=iq143 t.1 (by omega) (by omega);rw[hm] at h143;have g1:=groups1 t.1 8 hm;have i1:List.take 8 (ints t.1)=ints t.1:=qdq (by rw[ints_length];omega);obtain⟨x,hx⟩:=ex1 (mxL t.1 8);rw[hx] at h143 hst;obtain⟨y,hy⟩: ∃ x,topT (p.take i)=x:=⟨_,rfl⟩;rw[hy] at hst ⊢;simp -dsimp(disch:=omega) only[h2,r1,f11,tmF_fv,fl,cl,rp,append_nil,c8,fzs_mC,ids_mC,g1,Option.isSome_none,imp_self,i1,↓reduceIte,reduceAdd,reduceMul,Nat.reduceSub,reduceLT,reduceLeDiff,ru]
   repeat refine qy (by omega) ?_
   refine gp h143 (by simp[fzAs,fzA,fz1,fz0]) ?_;simp -dsimp(disch:=omega) only[↓reduceIte,ru]
   repeat refine qy (by omega) ?_
   refine ap (i+1) (by omega) ?_ (by omega);rw[hst];refine wk [] (by simp) rfl ?_ ?_
   ·simp[leVs,leV,le1];split<;>omega
   ·simp[leH]
  ·intro h1 h2;have hii:p.take i=p:=qdq (by omega);rw[hii];simp -dsimp(disch:=omega) only[h2,Nat.reduceBEq,ru];refine rpq rfl ⟨tvq,tvq⟩ rfl
theorem foldT_le: ∀ (p:List Tm) (a N:Int),p.foldl (fun d t=>max d (mxL t.1 8)) a<=N↔a<=N/\ ∀ t∈p,mxL t.1 8<=N
 | [],a,N=>by simp
 | t::p,a,N=>by
  rw[List.foldl_cons,foldT_le p _ N];constructor
  ·rintro⟨h1,h2⟩;exact⟨by omega,fun y hy=>by
    rcases List.mem_cons.1 hy with rfl | hy
    ·omega
    ·exact h2 y hy⟩
  ·rintro⟨h1,h2⟩;exact⟨by have:=h2 t (by simp);omega,fun y hy=>h2 y (mem_cons_of_mem _ hy)⟩
theorem topT_le {p:List Tm} {N:Int} (hN:0<=N) (hl:Len8 p):topT p<=N↔ ∀ t∈p,∀ x∈t.1,x<=N:=by
 unfold topT;rw[foldT_le];constructor
 ·rintro⟨_,h⟩ t ht;have h8:=hl t ht;have:=h t ht;rw[<-h8] at this;exact(mxL_le (by omega)).1 this
 ·intro h;refine⟨hN,fun t ht=>?_⟩;have h8:=hl t ht;have:=(mxL_le (m:=t.1) (N:=N) (by omega)).2 (h t ht);rwa [h8] at this
theorem iq161 (p:List Tm) (hp:LOkT 1000000000 1024 p) (hn:p.length<=10000):Den Tryz.prog 161 [] [PL (p.map tn)] [] (.tup [PL (p.map tn),.int .i64 0]):=by
 have h87:=iq87 p hp.len (fun t ht x hx=>by have:=hp.exp t ht x hx;omega) hn;have ht:=(topT_le (N:=1024) (by decide) hp.len).2 (fun t ht x hx=>(hp.exp t ht x hx).2);obtain⟨x,hx⟩:=ex1 (topT p);rw[hx] at h87 ht;obtain⟨P,hP⟩: ∃ A,p.map tn=A:=⟨_,rfl⟩;rw[hP] at h87 ⊢;have e1:decide (x>1024)=false:=qcb (by omega);refine den_of tabOk mixed Tryz.func161 (cd:=_) rfl (by decide) rfl (n:=7) rfl rfl (m:=0) rfl ?_;simp -dsimp(disch:=omega) only[replicate,rules];refine gp h87 rfl ?_;simp -dsimp(disch:=omega) only[e1,↓reduceIte,ru];refine rpq rfl ⟨tvq,tvq,tvq⟩ rfl
theorem nf_ok {k j n:Nat} {E:Int} {p:List Tm} (hj:1<=j) (h:LOkT j E p) (hn:p.length<=n) (hk:n*(j+1)+1<=k):POk k E (nf p):=
 ⟨nf_canon h.len,((PB.terms hj h.bd hn hk).nf).bd (by omega),nf_valid (P:=fun m=> ∀ e∈m,0<=e/\e<=E) h.exp⟩
theorem POk.validB {k:Nat} {p:List Tm} (h:POk k 1024 p):validB (p.map tn)=true:=by
 unfold Go.Proofs.YtjjbkjgifdhlcaaGreat.validB;rw[qob];intro t ht;obtain⟨u,hu,rfl⟩:=mem_map.1 ht;unfold validM;rw[qob];intro e he;have:=h.exp u hu e he;rw[qtb];exact⟨qbb this.1,qbb this.2⟩
abbrev fV (g:Nat):PV:= .fv (.lit (.func (.func g) #[] #[]))
theorem iq97 (p q:List Tm) (hp:POk 10000000 1024 p) (hq:POk 10000000 1024 q) (hps:p.length<=sortMax) (hqs:q.length<=sortMax) (hs:(nf (p++q)).length<=sortMax):
 Den Tryz.prog 97 [] [PL (p.map tn),PL (q.map tn)] [] (.tup [PL ((nf (p++q)).map tn),.int .i64 0]):=by
 have hm:=sortMax_le
 have tsp:=hp.ts (by decide)
 have tsq:=hq.ts (by decide)
 have v1:=iq118 (p.map tn) tsp.l8 (by rw[length_map];omega)
 have v2:=iq118 (q.map tn) tsq.l8 (by rw[length_map];omega)
 rw[hp.validB] at v1
 rw[hq.validB] at v2
 have n1:=iq119 (p.map tn) (fun t ht=>(tsp t ht).mono (by decide)) (by rw[map_tq_tn];exact PB.terms (n:=20) (j:=10000000) (by decide) hp.bd (by omega) (by decide)) (by rw[length_map];omega) (by rw[map_tq_tn,nf_self hp.canon];exact hps)
 have n2:=iq119 (q.map tn) (fun t ht=>(tsq t ht).mono (by decide)) (by rw[map_tq_tn];exact PB.terms (n:=20) (j:=10000000) (by decide) hq.bd (by omega) (by decide)) (by rw[length_map];omega) (by rw[map_tq_tn,nf_self hq.canon];exact hqs)
 rw[map_tq_tn,nf_self hp.canon] at n1
 rw[map_tq_tn,nf_self hq.canon] at n2
 have hl:=hp.l.app hq.l
 have h139:=iq139t p q (hp.l.mono (by decide) (by decide)) (hq.l.mono (by decide) (by decide)) (by omega) (by omega) hs
 have hr:=nf_ok (k:=1000000000) (n:=40) (by decide) hl (by rw[qe];omega) (by decide)
 have h161:=iq161 (nf (p++q)) hr.l (by omega)
 obtain⟨P,hP⟩: ∃ A,p.map tn=A:=⟨_,rfl⟩
 obtain⟨Q,hQ⟩: ∃ A,q.map tn=A:=⟨_,rfl⟩
 obtain⟨R,hR⟩: ∃ A,(nf (p++q)).map tn=A:=⟨_,rfl⟩
 rw[hP] at v1 n1 h139
 rw[hQ] at v2 n2 h139
 rw[hR] at h139 h161
 rw[hP,hQ,hR]
 have h152:Den Tryz.prog 152 [] [PL P,PL Q,fV 139] [] (.tup [PL R,.int .i64 0]):=by
  refine den_of tabOk mixed Tryz.func152 (cd:=_) rfl (by decide) rfl (n:=22) rfl rfl (m:=0) rfl ?_;simp -dsimp(disch:=omega) only[replicate,rules];refine gp v1 rfl ?_;simp -dsimp(disch:=omega) only[Bool.not_true,rules];refine gp v2 rfl ?_;simp -dsimp(disch:=omega) only[Bool.not_true,rules,↓reduceIte];refine gp n1 rfl ?_;simp -dsimp(disch:=omega) only[rules];refine gp n2 rfl ?_;simp -dsimp(disch:=omega) only[rules];refine gp h139 rfl ?_;simp -dsimp(disch:=omega) only[rules];refine gp h161 rfl ?_;simp -dsimp(disch:=omega) only[ru];refine rpq rfl ⟨tvq,tvq,tvq⟩ rfl
 refine den_of tabOk mixed Tryz.func97 (cd:=_) rfl (by decide) rfl (n:=9) rfl rfl (m:=0) rfl ?_
 simp -dsimp(disch:=omega) only[replicate,rules]
 refine gp h152 rfl ?_
 simp -dsimp(disch:=omega) only[ru]
 refine rpq rfl ⟨tvq,tvq,tvq⟩ rfl
def outS (cs:List (List Raw)):List (List Raw):=(ncs cs).map nrmR
theorem outS_snoc_c {cs:List (List Raw)} {l:List Raw} (h:constB l=true):outS (cs++[l])=outS cs:=by simp[outS,ncs,filter_append,h]
theorem outS_snoc {cs:List (List Raw)} {l:List Raw} (h:constB l=false):outS (cs++[l])=outS cs++[nrmR l]:=by simp[outS,ncs,filter_append,h]
theorem violB_snoc {cs:List (List Raw)} {l:List Raw}:violB (cs++[l])=(violB cs||(constB l&&decide (co l 8<0))):=by simp[violB]
theorem take_snoc {cs:List (List Raw)} {i:Nat} (h:i<cs.length):cs.take (i+1)=cs.take i++[cs.getD i []]:=by
 rw[List.take_succ_eq_append_getElem h,qa,qb h];rfl
theorem violB_of {cs:List (List Raw)} {i:Nat} (h:violB (cs.take i)=true):violB cs=true:=by
 unfold violB at h ⊢;rw[qpb] at h ⊢;obtain⟨l,hl,h2⟩:=h;exact⟨l,qfb hl,h2⟩
theorem outS_len {cs:List (List Raw)} {i:Nat}:(outS (cs.take i)).length<=(ncs cs).length:=by
 unfold outS;rw[length_map];unfold ncs;exact List.Sublist.length_le (List.Sublist.filter _ (List.take_sublist i cs))
theorem take_rows {ls:List (List Raw)} {n:Nat} (h:ls.length<=n):List.take n (rowsF ls)=rowsF ls:=qdq (by rw[rowsF_length];exact h)
theorem rows_snoc (ls:List (List Raw)) (x:List Raw):rowsF ls++[flatF x]=rowsF (ls++[x]):=by simp[rowsF]
theorem flat_const {l:List Raw} (h:l.length=9):((flat l).drop 24).take 3=(l.getD 8 rz).f.map .fv:=by
 match l,h with
 | [a,b,c,d,e,f,g,i,j],_=>rfl
theorem flat_const' {l:List Raw} (h:l.length=9):((flat l).drop 24)=[.fv (.lit (.bool (l.getD 8 rz).neg)),.fv (.sl (u32s (l.getD 8 rz).num)),.fv (.sl (u32s (l.getD 8 rz).den))]:=by
 match l,h with
 | [a,b,c,d,e,f,g,i,j],_=>rfl
theorem pd44 (cs:List (List Raw)) (hok:AOk 1000000000 cs) (hn:cs.length<=1000) (hlo: ∀ l∈cs,¬IsConst l->LOk 1000 l) (h12:(ncs cs).length<=12):
 Den Tryz.prog 228 [] [.fv (.sl (rowsF cs))] [] (if violB cs then .tup [.fv (.sl []),.bool false] else .tup [.fv (.sl (rowsF (sysL cs []))),.bool true]):=by
 obtain⟨n,hnn⟩:=ex1 (cs.length)
 obtain⟨R,hR⟩: ∃ R:PV,(if violB cs then .tup [.fv (.sl []),.bool false] else .tup [.fv (.sl (rowsF (sysL cs []))),.bool true])=R:=⟨_,rfl⟩
 rw[hR]
 have rl:=rowsF_length cs
 rw[hnn] at rl
 refine den_of tabOk mixed Tryz.func228 (cd:=_) rfl (by decide) rfl (n:=28) rfl rfl (m:=0) rfl ?_
 simp -dsimp(disch:=omega) only[replicate,rl,ru]
 refine wl (α:=Nat×List (List Raw)) (fun⟨i,out⟩=>⟨[.fv (.sl (rowsF cs)),.any,.nilsl,.bool false,.lsl 0 0 out.length 27,.any,.any,.fv (.sl (rowsF cs)),.int .i64 n,.int .i64 i]++replicate 19 .any,[.row true (rowsF out)]⟩)
  (fun⟨i,_⟩=>n - i) (fun⟨i,out⟩=>i<=n/\out=outS (cs.take i)/\violB (cs.take i)=false) (0,[]) ?_ ?_ ?_
 ·refine Weak.nil 4 27 (by decide) rfl ?_
  refine wk [0] (by simp) rfl ?_ ?_
  ·simp[leVs,leV,le1]
  ·simp[leH,leO]
   rfl
 ·exact⟨qsq _,rfl,rfl⟩
 ·rintro⟨i,out⟩ ⟨hi,hout,hviol⟩
  have hol:out.length<=12:=by rw[hout];exact qnb outS_len h12
  obtain⟨L,hL⟩:=ex1 (out.length)
  have rlo:=rowsF_length out
  rw[hL] at rlo hol
  dsimp only
  rw[hL]
  simp -dsimp(disch:=omega) only[replicate,↓reduceIte,ru]
  refine bd_ ?_ ?_
  ·intro h1 h2
   have hsn:=take_snoc (cs:=cs) (i:=i) (by omega)
   have hx:=hok.at (i:=i) (by omega)
   have hmem:=at_mem (ls:=cs) (i:=i) (by omega)
   have r1:=rowsF_getD cs i
   obtain⟨x,hxx⟩:=ex1 (cs.getD i [])
   rw[hxx] at hx hmem r1 hsn
   have hc:=den25 x hx
   have lx:=hx.len
   have x27:=flatF_take27 lx
   have fx:=flatF_length x
   have gx:=flat_length x
   have gx27:=flat_take27 lx
   have hfc:=flat_const' lx
   obtain⟨b,hb⟩:=ex1 (constB x)
   rw[hb] at hc
   unfold RL at hc
   simp -dsimp(disch:=omega) only[append_nil,h2,r1,x27,flatF_fv,fx,gx,lx,gx27,↓reduceIte,reduceAdd,reduceMul,reduceLT,reduceLeDiff,ru]
   repeat refine qy (by omega) ?_
   refine gp hc (by simp[fzAs,fzA,flat_fz,flatF_fv]) ?_
   cases b with
   | true=>
    have h36:=den36 (x.getD 8 rz) ((hx.at 8).mono (by decide));have hco:co x 8=(x.getD 8 rz).q:=rfl;obtain⟨r,hr⟩:=ex1 (x.getD 8 rz);rw[hr] at h36 hfc hco;unfold Raw.v at h36;simp -dsimp(disch:=omega) only[hfc,gx,lx,↓reduceIte,reduceAdd,reduceMul,reduceLeDiff,ru,zu]
    repeat refine qy (by omega) ?_
    refine gp h36 rfl ?_;simp -dsimp(disch:=omega) only[append_nil,↓reduceIte,reduceAdd,ru];refine bd_ ?_ ?_
    ·intro h3 h4;have hv:violB (cs.take (i+1))=true:=by
      rw[hsn,violB_snoc,hb,hco,qbb (sgq_neg_iff.1 h3)];simp
     rw[if_pos (violB_of hv)] at hR;subst hR;simp -dsimp(disch:=omega) only[h4,ru];refine rpq rfl ⟨tvq,tvq,tvq⟩ rfl
    ·intro h3 h4;have hv:violB (cs.take (i+1))=false:=by
      rw[hsn,violB_snoc,hb,hco,qcb (fun h=>h3 (sgq_neg_iff.2 h)),hviol];simp
     simp -dsimp(disch:=omega) only[h4,↓reduceIte,Nat.reduceBEq,ru];refine ap (i+1,out) (by dsimp only;omega) ?_ ⟨by omega,by rw[hsn,outS_snoc_c hb];exact hout,hv⟩;refine wk [0] (by simp) rfl ?_ ?_
     ·simp[leVs,leV,le1];omega
     ·simp[leH,leO]
   | false=>
    have hnc: ¬IsConst x:=fun h=>by rw[(constB_iff lx).2 h] at hb;cases hb
    have hN:=den12 x (hlo x hmem hnc);have hv:violB (cs.take (i+1))=false:=by
     rw[hsn,violB_snoc,hb,hviol];simp
    have hnl:=nrmR_len lx;change Den Tryz.prog _ [] [RL x] [] (RL (nrmR x)) at hN;have hos:=outS_snoc (cs:=cs.take i) hb;have hrs:=rows_snoc out (nrmR x);obtain⟨y,hy⟩:=ex1 (nrmR x);rw[hy] at hN hnl hos hrs;have gy:=flat_length y;have htk:=take_rows (ls:=out) (n:=L) (by omega);have y27:=flatF_take27 hnl;unfold RL at hN;simp -dsimp(disch:=omega) only[gx27,gx,lx,↓reduceIte,reduceAdd,reduceMul,reduceLeDiff,ru,zu]
    repeat refine qy (by omega) ?_
    refine gp hN (by simp[fzAs,fzA,flat_fz,flatF_fv]) ?_;simp -dsimp(disch:=omega) only[gy,hnl,htk,y27,hrs,rlo,↓reduceIte,reduceAdd,reduceMul,Nat.reduceBEq,reduceLT,reduceLeDiff,ru,zu]
    repeat refine qy (by omega) ?_
    refine ap (i+1,out++[y]) (by dsimp only;omega) ?_ ⟨by omega,by rw[hsn,hos,hout],hv⟩;refine wk [3] (by simp) rfl ?_ ?_
    ·simp[leVs,leV,le1];omega
    ·simp[leH,leO]
  ·intro h1 h2
   have hin:i=n:=by omega
   have htk:cs.take i=cs:=qdq (by omega)
   rw[htk] at hout hviol
   rw[hviol,if_neg (by simp)] at hR
   have h9: ∀ l∈cs,l.length=9:=fun l hl=>(hok l hl).len
   have hoo:AOk 1000000000 out:=fun f hf=>by
    rw[hout] at hf;obtain⟨l,hl,rfl⟩:=mem_map.1 hf;obtain⟨h3,h4⟩:=(mem_ncs h9).1 hl;exact(nrmR_ok (hlo l h3 h4) (by decide)).mono (by decide)
   obtain⟨ls',hsrt,hs86⟩:=pd86 out hoo (by omega)
   have hok':=hoo.of_mem hsrt.mem
   have hl':=hsrt.len
   have hcan: ∀ a∈ls',∀ b∈ls',cmpR a b=0->a=b:=by
    intro a ha b hb hab;have key: ∀ f∈ls',IsCn f:=fun f hf=>by
     have:=(hsrt.mem f).1 hf;rw[hout] at this;obtain⟨l,hl,rfl⟩:=mem_map.1 this;exact nrmR_cn (h9 l ((mem_ncs h9).1 hl).1)
    exact cn_eq (key a ha) (key b hb) hab
   obtain⟨H1,res,⟨out2,rfl,rfl,hcomp⟩,h88⟩:=pd88 ls' hok' (by omega) hcan hsrt.ord
   have hsys:IsSys cs out2:=⟨hcomp.sorted,fun f=>by
    rw[hcomp.mem,hsrt.mem,hout];unfold outS;rw[mem_map];constructor
    ·rintro⟨l,hl,rfl⟩;obtain⟨h3,h4⟩:=(mem_ncs h9).1 hl;exact⟨l,h3,h4,rfl⟩
    ·rintro⟨l,h3,h4,rfl⟩;exact⟨l,(mem_ncs h9).2 ⟨h3,h4⟩,rfl⟩⟩
   have he:=hsys.eq h9
   rw[<-he] at hR
   have hL2:ls'.length=L:=by omega
   rw[hL] at hs86
   rw[hL2] at h88
   have htk2:=take_rows (ls:=out2) (qp _)
   have rl2:=rowsF_length out2
   subst hR
   simp -dsimp(disch:=omega) only[h2,rules,Nat.reduceBEq]
   refine gl_ 0 hs86 rfl rfl trivial rfl rfl rfl ?_
   simp -dsimp(disch:=omega) only[append_nil,rules]
   refine gl_ 0 h88 rfl rfl trivial rfl rfl rfl ?_
   simp -dsimp(disch:=omega) only[append_nil,ru]
   refine rpq (vs:=[.lsl 0 0 out2.length 27,.bool true]) rfl ⟨tvq,tvq,tvq⟩ (show fzX [Ob.row true (rowsF out2)] [] (.tup [.lsl 0 0 out2.length 27,.bool true])=_ from ?_)
   simp(disch:=omega) only[htk2,rl2,List.drop_zero,Nat.zero_add,qp,↓reduceIte,List.idxOf?_nil,fzX,fzV,fzVs,fzC,fz1,fz0,Option.map_some,List.getElem?_cons_zero]
end Go.Proofs.YtjjbkjgifdhlcaaGreat
namespace Go.Pl
open Go.AM
def GoodS (s:List (List Raw)):Prop:= ∃ k,1<=k/\SysF k s/\Sz k s
theorem GoodS.len9 {s:List (List Raw)} (h:GoodS s): ∀ l∈s,l.length=9:=by
 obtain⟨k,hk,hs,hz⟩:=h;exact fun l hl=>(hs.ok l hl).len
theorem GoodS.lim {s:List (List Raw)} (h:GoodS s): ∀ l∈s,LOk 1000 l:=by
 obtain⟨k,hk,hs,hz⟩:=h;exact hz.lim hs
theorem GoodS.len {s:List (List Raw)} (h:GoodS s):s.length<=12:=by
 obtain⟨k,hk,hs,hz⟩:=h;exact hz.len hs
theorem GoodS.nc {s:List (List Raw)} (h:GoodS s): ∀ l∈s,¬IsConst l:=by
 obtain⟨k,hk,hs,hz⟩:=h;exact hs.nc
theorem feasB_nil:feasB []=true:=feasB_iff.2 feas_nil
def minL:Rat->List Rat->Rat
 | m,[]=>m
 | m,q::l=>minL (if sgq (q - m)<0 then q else m) l
def lowQ (s:List (List Raw)) (v:Nat):List Rat:=(lowL s v).map (fun b=>co b 8)
def highQ (s:List (List Raw)) (v:Nat):List Rat:=(highL s v).map (fun b=>co b 8)
structure CsOk (cs:List (List Raw)):Prop where
 ok: ∀ l∈cs,LOk 10000 l
 len:cs.length<=100
 nc:(ncs cs).length<=12
 good:GoodS (sysL cs [])
 nok: ∀ l∈cs,¬IsConst l->LOk 1000 l
theorem CsOk.len9 {cs:List (List Raw)} (h:CsOk cs): ∀ l∈cs,l.length=9:=fun l hl=>(h.ok l hl).len
theorem upd_ne {x:Nat->Rat} {v w:Nat} {t:Rat} (h:w≠v):upd x v t w=x w:=by simp[upd,h]
structure Pre (cs:List (List Raw)):Prop where
 cnf: ∀ l∈cs,IsCn l
 nc: ∀ l∈cs,¬IsConst l
 ok: ∀ l∈cs,LOk 1000 l
 len:cs.length<=13
 good:GoodS (sysL cs [])
theorem GoodS.cnf {s:List (List Raw)} (h:GoodS s): ∀ l∈s,IsCn l:=by
 have h9:=h.len9;obtain⟨k,hk,hs,hz⟩:=h;exact fun l hl=>by rw[<-hs.nm l hl];exact nrmR_cn (h9 l hl)
theorem GoodS.self {s:List (List Raw)} (h:GoodS s):sysL s []=s:=by
 have h9:=h.len9;obtain⟨k,hk,hs,hz⟩:=h;exact(hs.self.eq h9).symm
theorem ncs_le (cs:List (List Raw)):(ncs cs).length<=cs.length:=List.length_filter_le _ _
theorem ncs_const {cs:List (List Raw)} (h: ∀ l∈cs,constB l=true):ncs cs=[]:=by
 unfold ncs;exact filter_none (fun l hl=>by rw[h l hl];rfl)
def numL (q:Rat):List Raw:=(replicate 9 (cn 0)).set 8 (cn q)
def varL (v:Nat):List Raw:=(replicate 9 (cn 0)).set v (cn ((1:Int):Rat))
theorem co_set {v w:Nat} {q:Rat} (_:v<9) (hw:w<9):co ((replicate 9 (cn 0)).set v (cn q)) w=if w=v then q else 0:=by
 unfold co;rw[qa,List.getElem?_set];by_cases h:v=w
 ·subst h;rw[if_pos rfl,if_pos (by simp;omega),if_pos rfl,Option.getD_some,cn_q]
 ·rw[if_neg h,if_neg (fun e=>h e.symm),List.getElem?_replicate,if_pos hw,Option.getD_some,cn_q]
theorem co_num {w:Nat} {q:Rat} (hw:w<9):co (numL q) w=if w=8 then q else 0:=co_set (by omega) hw
theorem lval_eq (l:List Raw) (x:Nat->Rat):lval l x=co l 8+co l 0*x 0+co l 1*x 1+co l 2*x 2+co l 3*x 3+co l 4*x 4+co l 5*x 5+co l 6*x 6+co l 7*x 7:=rfl
def del (s:List (List Raw)) (i:Nat):List (List Raw):=s.take i++s.drop (i+1)
theorem del_sub {s:List (List Raw)} {i:Nat}:(del s i).Sublist s:=by
 unfold del;have h:=List.take_append_drop i s
 conv=>rhs;rw[<-h]
 refine List.Sublist.append (List.Sublist.refl _) ?_;rw[<-List.drop_drop];exact List.drop_sublist _ _
theorem del_len {s:List (List Raw)} {i:Nat} (h:i<s.length):(del s i).length+1=s.length:=by
 unfold del;rw[qe,length_take,length_drop];omega
theorem del_mem {s:List (List Raw)} {i:Nat} {l:List Raw} (h:l∈del s i):l∈s:=del_sub.subset h
theorem mem_del {s:List (List Raw)} {i:Nat} (hi:i<s.length) {l:List Raw} (h:l∈s):l∈del s i\/l=s.getD i []:=by
 have h2:=List.take_append_drop i s;rw[<-h2,qr] at h;unfold del;rw[qr];rcases h with h | h
 ·exact .inl (.inl h)
 ·rw[drop_eq_getElem_cons hi] at h;rcases List.mem_cons.1 h with h | h
  ·right;rw[h,qa,qb hi];rfl
  ·exact .inl (.inr h)
def GoodT (s:List (List Raw)):Prop:= ∃ k,1<=k/\SysF k s/\Sz (k+1) s
theorem Sz.mono {j k:Nat} {s:List (List Raw)} (h:Sz k s) (hk:j<=k):Sz j s:=⟨h.n3,fun h3=>by have:=h.c3 h3;omega,fun h2=>by have:=h.c2 h2;omega,fun h1=>by have:=h.c1 h1;omega⟩
theorem Sz.sub {k:Nat} {s t:List (List Raw)} (h:Sz k s) (hl:t.length<=s.length) (hn:nvars t<=nvars s):Sz k t:=by
 have h3:=h.n3;have c3:=h.c3;have c2:=h.c2;have c1:=h.c1;refine⟨by omega,fun h=>?_,fun h=>?_,fun h=>?_⟩
 ·have:=c3 (by omega);omega
 ·have:nvars s=2\/nvars s=3:=by omega
  rcases this with h5 | h5
  ·have:=c2 h5;omega
  ·have:=c3 h5;omega
 ·have:nvars s=1\/nvars s=2\/nvars s=3:=by omega
  rcases this with h5 | h5 | h5
  ·have:=c1 h5;omega
  ·have:=c2 h5;omega
  ·have:=c3 h5;omega
theorem nvars_sub {s t:List (List Raw)} (h: ∀ l∈t,l∈s):nvars t<=nvars s:=nvars_le (fun w _ ho=>by
 obtain⟨l,hl,h0⟩:=occ_iff.1 ho;exact occ_iff.2 ⟨l,h l hl,h0⟩)
theorem GoodT.good {s:List (List Raw)} (h:GoodT s):GoodS s:=by
 obtain⟨k,hk,hs,hz⟩:=h;exact⟨k,hk,hs,hz.mono (by omega)⟩
theorem GoodT.sub {s t:List (List Raw)} (h:GoodT s) (ht:t.Sublist s):GoodT t:=by
 obtain⟨k,hk,hs,hz⟩:=h;exact⟨k,hk,⟨hs.sorted.sublist ht,fun l hl=>hs.ok l (ht.subset hl),fun l hl=>hs.nc l (ht.subset hl),fun l hl=>hs.nm l (ht.subset hl)⟩,hz.sub ht.length_le (nvars_sub (fun l hl=>ht.subset hl))⟩
theorem leadL_neg (l:List Raw):(leadL (negR l)).q= -(leadL l).q:=by
 have h:=lead_map2 (C:= -1) (by decide) (rs:=l);have e:(l.map (fun r=>r.q / (-1)))=l.map (fun r=>r.q*((-1:Int):Rat)):=List.map_congr_left (fun r _=>by
  have:((-1:Int):Rat)= -1:=rfl;rw[this];grind)
 rw[e] at h;show(leadL (((l.map (fun r=>r.q*((-1:Int):Rat))).map cn))).q=_;rw[h];grind
theorem absq_neg (c:Rat):absq (-c)=absq c:=by
 unfold absq;have h1:(-c).num<0↔ -c<0:=num_neg_iff;have h2:c.num<0↔c<0:=num_neg_iff;split<;>split<;>grind
theorem negR_cn (l:List Raw) (h:l.length=9):IsCn (negR l):=⟨l.map (fun r=>r.q*((-1:Int):Rat)),rfl,by simp[h]⟩
theorem cn_ext {f g:List Raw} (hf:IsCn f) (hg:IsCn g) (h: ∀ i,i<9->co f i=co g i):f=g:=by
 have lf:=hf.len;have lg:=hg.len;obtain⟨p,rfl,hp⟩:=hf;obtain⟨q,rfl,hq⟩:=hg;congr 1;apply List.ext_getElem (by omega);intro i h1 h2;have:=h i (by omega);unfold co at this;rw[qa,qb (by simpa using h1),qa,qb (by simpa using h2)] at this;simp only[Option.getD_some,List.getElem_map,cn_q] at this;exact this
theorem nrmR_neg {l:List Raw} (h9:l.length=9) (hc: ¬IsConst l):nrmR (negR l)=negR (nrmR l):=by
 have hn9:=negR_len h9;have h0:=lead_ne h9 hc;have e:=leadL_neg l;have h0':(leadL (negR l)).q≠0:=by rw[e];grind
 refine cn_ext (nrmR_cn hn9) (negR_cn _ (nrmR_len h9)) (fun i hi=>?_);rw[nrmR_at hn9 h0' hi,negR_at h9 hi,negR_at (nrmR_len h9) hi,nrmR_at h9 h0 hi,e,absq_neg];grind
theorem neg_nc {l:List Raw} (h9:l.length=9) (hc: ¬IsConst l): ¬IsConst (negR l):=fun h=>hc (fun i hi=>by
 have:=h i hi;rw[negR_at h9 (by omega)] at this;grind)
theorem GoodT.turn {s t:List (List Raw)} (h:GoodT s) (ht: ∀ l∈t,l∈s) {x:List Raw} (hx:x∈s) (hl:t.length+1<=s.length):GoodS (sysL (t++[negR x]) [])/\Pre (t++[negR x]):=by
 have hlen:=h.good.len;have hlim:=h.good.lim;have hcn:=h.good.cnf;obtain⟨k,hk,hs,hz⟩:=h;have h9: ∀ l∈s,l.length=9:=fun l hl=>(hs.ok l hl).len
 have h9t: ∀ l∈t++[negR x],l.length=9:=fun l hl=>by
  rcases List.mem_append.1 hl with h1 | h1
  ·exact h9 l (ht l h1)
  ·rw[List.mem_singleton.1 h1];exact negR_len (h9 x hx)
 have hnc: ∀ l∈t++[negR x],¬IsConst l:=fun l hl=>by
  rcases List.mem_append.1 hl with h1 | h1
  ·exact hs.nc l (ht l h1)
  ·rw[List.mem_singleton.1 h1];exact neg_nc (h9 x hx) (hs.nc x hx)
 have his:=sysL_is h9t;have hok: ∀ l∈t++[negR x],¬IsConst l->LOk (k+1) (nrmR l):=fun l hl _=>by
  rcases List.mem_append.1 hl with h1 | h1
  ·rw[hs.nm l (ht l h1)];exact(hs.ok l (ht l h1)).mono (by omega)
  ·rw[List.mem_singleton.1 h1,nrmR_neg (h9 x hx) (hs.nc x hx),hs.nm x hx];exact negR_ok (hs.ok x hx) hk
 have hnv:nvars (sysL (t++[negR x]) [])<=nvars s:=by
  rw[sys_nvars h9t his];refine nvars_le (fun w hw ho=>?_);obtain⟨l,hl,h0⟩:=occ_iff.1 ho;rcases List.mem_append.1 hl with h1 | h1
  ·exact occ_iff.2 ⟨l,ht l h1,h0⟩
  ·rw[List.mem_singleton.1 h1,negR_at (h9 x hx) (by omega)] at h0;exact occ_iff.2 ⟨x,hx,fun h2=>h0 (by rw[h2];rfl)⟩
 have hln:=sys_length h9t his;have hle:=ncs_le (t++[negR x]);rw[qe,qab] at hle;have hg:GoodS (sysL (t++[negR x]) []):=⟨k+1,by omega,SysF.of h9t his hok,hz.sub (by omega) hnv⟩;refine⟨hg,?_,hnc,?_,?_,hg⟩
 ·intro l hl;rcases List.mem_append.1 hl with h1 | h1
  ·exact hcn l (ht l h1)
  ·rw[List.mem_singleton.1 h1];exact negR_cn x (h9 x hx)
 ·have hzk:k+1<=1000:=(hz.all (occ_pos hx (hs.nc x hx))).2;intro l hl;rcases List.mem_append.1 hl with h1 | h1
  ·exact hlim l (ht l h1)
  ·rw[List.mem_singleton.1 h1];exact(negR_ok (hs.ok x hx) hk).mono hzk
 ·rw[qe,qab];omega
noncomputable def redB (s:List (List Raw)) (i:Nat):Bool:=feasB (sysL (del s i++[negR (s.getD i [])]) [])
noncomputable def canL:Nat->Nat->List (List Raw)->List (List Raw)
 | 0,_,s=>s
 | n+1,i,s=>if i<s.length then(if redB s i then canL n (i+1) s else canL n i (del s i)) else s
noncomputable def canonP (cs:List (List Raw)):List (List Raw):=if innerB cs then canL (sysL cs []).length 0 (sysL cs []) else [numL ((-1:Int):Rat)]
theorem canL_sub: ∀ (n i:Nat) (s:List (List Raw)),(canL n i s).Sublist s
 | 0,_,s=>List.Sublist.refl s
 | n+1,i,s=>by
  unfold canL;split
  ·split
   ·exact canL_sub n (i+1) s
   ·exact(canL_sub n i (del s i)).trans del_sub
  ·exact List.Sublist.refl s
theorem turn_viol {t:List (List Raw)} (h: ∀ l∈t,¬IsConst l): ¬Viol t:=fun⟨l,hl,hc,_⟩=>h l hl hc
theorem inner_nc {t:List (List Raw)} (h9: ∀ l∈t,l.length=9) (h: ∀ l∈t,¬IsConst l):innerB t=feasB (sysL t []):=by
 unfold innerB;have:violB t=false:=by
  cases hv:violB t with
  | false=>rfl
  | true=>exact absurd ((violB_iff h9).1 hv) (turn_viol h)
 rw[this];rfl
structure CsT (ds:List (List Raw)):Prop where
 cs:CsOk ds
 good:GoodT (sysL ds [])
theorem near (a c:Rat) (ha:0<a): ∃ e:Rat,0<e/\ ∀ t:Rat,-e<=t->t<=e->0<a+c*t:=by
 by_cases h0:c=0
 ·exact⟨1,by decide,fun t _ _=>by rw[h0,Rat.zero_mul,Rat.add_zero];exact ha⟩
 ·by_cases hp:0<c
  ·have hce:c*(a / (2*c))=a / 2:=by grind
   have he:0<a / (2*c):=by
    by_cases h:0<a / (2*c)
    ·exact h
    ·exfalso;have:=Rat.mul_nonneg (show 0<= -(a / (2*c)) by grind) (show 0<=c by grind);grind
   refine⟨a / (2*c),he,fun t h1 _=>?_⟩;have:=Rat.mul_nonneg (show 0<=t+a / (2*c) by grind) (show 0<=c by grind);grind
  ·have hn:0< -c:=by grind
   have hce:(-c)*(a / (2*(-c)))=a / 2:=by grind
   have he:0<a / (2*(-c)):=by
    by_cases h:0<a / (2*(-c))
    ·exact h
    ·exfalso;have:=Rat.mul_nonneg (show 0<= -(a / (2*(-c))) by grind) (show 0<= -c by grind);grind
   refine⟨a / (2*(-c)),he,fun t _ h2=>?_⟩;have:=Rat.mul_nonneg (show 0<=a / (2*(-c)) - t by grind) (show 0<= -c by grind);grind
theorem pos_open {w:Nat} (hw:w<8): ∀ (s:List (List Raw)) (x:Nat->Rat),Pos s x-> ∃ e:Rat,0<e/\ ∀ t:Rat,-e<=t->t<=e->Pos s (upd x w (x w+t))
 | [],x,_=>⟨1,by decide,fun t _ _ l hl=>by simp at hl⟩
 | m::s,x,h=>by
  obtain⟨e1,h1,k1⟩:=pos_open hw s x (fun l hl=>h l (mem_cons_of_mem _ hl));obtain⟨e2,h2,k2⟩:=near (lval m x) (co m w) (h m (by simp));by_cases h3:e1<=e2
  ·refine⟨e1,h1,fun t ht1 ht2 l hl=>?_⟩;rcases List.mem_cons.1 hl with h4 | h4
   ·subst h4;rw[lval_upd hw];have:=k2 t (by grind) (by grind);grind
   ·exact k1 t ht1 ht2 l h4
  ·refine⟨e2,h2,fun t ht1 ht2 l hl=>?_⟩;rcases List.mem_cons.1 hl with h4 | h4
   ·subst h4;rw[lval_upd hw];have:=k2 t ht1 ht2;grind
   ·exact k1 t (by grind) (by grind) l h4
theorem pos_cross {s:List (List Raw)} {l:List Raw} {x:Nat->Rat} (hl: ¬IsConst l) (hx:Pos s x) (h0:lval l x=0): ∃ y,Pos s y/\lval l y<0:=by
 obtain⟨w,hw,hc⟩:=not_const hl;obtain⟨e,he,k⟩:=pos_open hw s x hx;by_cases hp:0<co l w
 ·refine⟨upd x w (x w+ -e),k _ (by grind) (by grind),?_⟩;rw[lval_upd hw,h0];have:=Rat.mul_pos hp he;grind
 ·refine⟨upd x w (x w+e),k _ (by grind) (by grind),?_⟩;rw[lval_upd hw,h0];have:=Rat.mul_pos (show 0< -(co l w) by grind) he;grind
theorem lval_negR {l:List Raw} (h9:l.length=9) (x:Nat->Rat):lval (negR l) x= -lval l x:=by
 have c:=fun w hw=>negR_at h9 (i:=w) hw
 rw[lval_eq,lval_eq,c 8 (by decide),c 0 (by decide),c 1 (by decide),c 2 (by decide),c 3 (by decide),c 4 (by decide),c 5 (by decide),c 6 (by decide),c 7 (by decide)];grind
theorem in_pos {t:List (List Raw)} (h: ∀ l∈t,¬IsConst l) (x:Nat->Rat):In t x↔Pos t x:=
 ⟨fun hi l hl=>by
  rcases hi l hl with h1 | h1
  ·exact h1
  ·exact absurd h1.1 (h l hl),fun hp l hl=> .inl (hp l hl)⟩
theorem feas_sys {t:List (List Raw)} (h9: ∀ l∈t,l.length=9) (h: ∀ l∈t,¬IsConst l):feasB (sysL t [])=true↔ ∃ x,Pos t x:=by
 rw[feasB_iff];have:=fun x=>(sys_in h9 (sysL_is h9) (turn_viol h) x).symm.trans (in_pos h x)
 exact⟨fun⟨x,hx⟩=>⟨x,(this x).1 hx⟩,fun⟨x,hx⟩=>⟨x,(this x).2 hx⟩⟩
theorem red_iff {s:List (List Raw)} {i:Nat} (hg:GoodT s) (hi:i<s.length):redB s i=true↔ ∃ y,Pos (del s i) y/\lval (s.getD i []) y<0:=by
 have hmem:s.getD i []∈s:=by rw[qa,qb hi];exact qqb _
 have hl:=del_len hi;obtain⟨h1,h2⟩:=hg.turn (t:=del s i) (fun l hl=>del_mem hl) hmem (by omega);have h9: ∀ l∈del s i++[negR (s.getD i [])],l.length=9:=fun l hl=>(h2.ok l hl).len
 have hx9:(s.getD i []).length=9:=hg.good.len9 _ hmem;unfold redB;rw[feas_sys h9 h2.nc];constructor
 ·rintro⟨y,hy⟩;refine⟨y,fun l hl=>hy l (List.mem_append_left _ hl),?_⟩;have:=hy (negR (s.getD i [])) (by simp);rw[lval_negR hx9] at this;grind
 ·rintro⟨y,hy,hn⟩;refine⟨y,fun l hl=>?_⟩;rcases List.mem_append.1 hl with h3 | h3
  ·exact hy l h3
  ·rw[List.mem_singleton.1 h3,lval_negR hx9];grind
theorem del_pos {s:List (List Raw)} {i:Nat} (hg:GoodT s) (hi:i<s.length) (hr:redB s i=false) (x:Nat->Rat):Pos (del s i) x↔Pos s x:=by
 have hmem:s.getD i []∈s:=by rw[qa,qb hi];exact qqb _
 constructor
 ·intro hp l hl;rcases mem_del hi hl with h1 | h1
  ·exact hp l h1
  ·rw[h1];have hno: ∀ y,Pos (del s i) y-> ¬lval (s.getD i []) y<0:=fun y hy hn=>by
    have:=(red_iff hg hi).2 ⟨y,hy,hn⟩;rw[hr] at this;cases this
   by_cases h0:lval (s.getD i []) x=0
   ·obtain⟨y,hy,hn⟩:=pos_cross (hg.good.nc _ hmem) hp h0;exact absurd hn (hno y hy)
   ·have:=hno x hp;grind
 ·exact fun hp l hl=>hp l (del_mem hl)
theorem canL_pos: ∀ (n i:Nat) {s:List (List Raw)},GoodT s-> ∀ x,Pos (canL n i s) x↔Pos s x
 | 0,_,_,_,_=>Iff.rfl
 | n+1,i,s,hg,x=>by
  unfold canL;split
  ·rename_i hi;split
   ·exact canL_pos n (i+1) hg x
   ·rename_i hr;rw[canL_pos n i (hg.sub del_sub) x];exact del_pos hg hi (by simpa using hr) x
  ·exact Iff.rfl
theorem del_at {s:List (List Raw)} {i j:Nat} (hj:j<i) (hi:i<s.length):(del s i).getD j []=s.getD j []:=by
 unfold del;rw[qa,qi (by rw[length_take];omega),List.getElem?_take,if_pos hj,<-qa]
theorem del_del {s:List (List Raw)} {i j:Nat} (hj:j<i) (hi:i<s.length): ∀ l∈del (del s i) j,l∈del s j:=by
 intro l hl;unfold del at hl ⊢;rw[qr] at hl ⊢;rcases hl with hl | hl
 ·left;rw[List.take_append_of_le_length (by rw[length_take];omega),List.take_take] at hl;rwa [Nat.min_eq_left (by omega)] at hl
 ·right;rw[List.drop_append_of_le_length (by rw[length_take];omega),qr] at hl;rcases hl with hl | hl
  ·rw[List.drop_take] at hl;exact qfb hl
  ·have e:i+1=(j+1)+(i - j):=by omega
   rw[e,<-List.drop_drop] at hl;exact qgb hl
theorem canL_irr: ∀ (n i:Nat) {s:List (List Raw)},GoodT s->s.length<=n+i->(∀ j,j<i->j<s.length->redB s j=true)-> ∀ j,j<(canL n i s).length->redB (canL n i s) j=true
 | 0,i,s,_,hn,h,j,hj=>h j (by have:j<s.length:=hj;omega) hj
 | n+1,i,s,hg,hn,h,j,hj=>by
  unfold canL at hj ⊢;by_cases hi:i<s.length
  ·rw[if_pos hi] at hj ⊢;by_cases hr:redB s i=true
   ·rw[if_pos hr] at hj ⊢;refine canL_irr n (i+1) hg (by omega) (fun q hq hql=>?_) j hj;by_cases hqi:q=i
    ·rw[hqi];exact hr
    ·exact h q (by omega) hql
   ·rw[if_neg hr] at hj ⊢;have hl:=del_len hi;have hgd:=hg.sub (del_sub (s:=s) (i:=i));refine canL_irr n i hgd (by omega) (fun q hq hql=>?_) j hj;obtain⟨y,hy,hneg⟩:=(red_iff hg (show q<s.length by omega)).1 (h q hq (by omega));refine(red_iff hgd hql).2 ⟨y,fun l hl=>hy l (del_del hq hi l hl),?_⟩;rw[del_at hq hi];exact hneg
  ·rw[if_neg hi] at hj ⊢;exact h j (by omega) hj
noncomputable def canS (s:List (List Raw)):List (List Raw):=canL s.length 0 s
def Irr (s:List (List Raw)):Prop:= ∀ j,j<s.length->redB s j=true
theorem canS_sub (s:List (List Raw)):(canS s).Sublist s:=canL_sub _ _ _
theorem canS_good {s:List (List Raw)} (h:GoodT s):GoodT (canS s):=h.sub (canS_sub s)
theorem canS_pos {s:List (List Raw)} (h:GoodT s) (x:Nat->Rat):Pos (canS s) x↔Pos s x:=canL_pos _ _ h x
theorem canS_irr {s:List (List Raw)} (h:GoodT s):Irr (canS s):=canL_irr s.length 0 h (by omega) (fun j hj=>by omega)
theorem canS_feas {s:List (List Raw)} (h:GoodT s):feasB (canS s)=feasB s:=by
 have key:Feas (canS s)↔Feas s:=⟨fun⟨x,hx⟩=>⟨x,(canS_pos h x).1 hx⟩,fun⟨x,hx⟩=>⟨x,(canS_pos h x).2 hx⟩⟩;cases h1:feasB s with
 | true=>exact feasB_iff.2 (key.2 (feasB_iff.1 h1))
 | false=>exact feasB_false.2 (fun h2=>feasB_false.1 h1 (key.1 h2))
structure Shad (c d:List (List Raw)) (i:Nat):Prop where
 good:GoodT d
 feas:feasB d=true
 irr:Irr d
 pos: ∀ x,Pos d x↔ ∃ t,Pos c (upd x i t)
 occs: ∀ w,w<8->w≠i->Pl.occ c w=false->Pl.occ d w=false
 gone:Pl.occ d i=false
structure Elim (v n i:Nat) (c d:List (List Raw)):Prop where
 good:GoodT d
 irr:Irr d
 feas:feasB d=true
 pos: ∀ x,Pos d x↔ ∃ y,(∀ w,(w<i\/i+n<=w\/w=v)->y w=x w)/\Pos c y
 occs:(∀ w,w<i->w≠v->Pl.occ c w=false)-> ∀ w,w<i+n->w≠v->Pl.occ d w=false
theorem one_low {s:List (List Raw)} {v:Nat} (hv:v<8) (hg:GoodT s) (hirr:Irr s) (hocc: ∀ w,w<8->w≠v->occ s w=false) {i j:Nat} (hi:i<s.length) (hj:j<s.length) (hij:i≠j):
 (¬(0<co (s.getD i []) v/\0<co (s.getD j []) v))/\ ¬(co (s.getD i []) v<0/\co (s.getD j []) v<0):=by
 have hm: ∀ q,q<s.length->s.getD q []∈s:=fun q hq=>by rw[qa,qb hq];exact qqb _
 have hval: ∀ q (hq:q<s.length),co (s.getD q []) v≠0-> ∀ x,lval (s.getD q []) x=co (s.getD q []) v*(x v - co (solR v (s.getD q [])) 8):=by
  intro q hq h0 x;have h9:=hg.good.len9 _ (hm q hq);have hb:=solR_bound (v:=v) h9 h0;have hc:lval (solR v (s.getD q [])) x=co (solR v (s.getD q [])) 8:=lval_const (fun w hw=>by
   rw[hb.2 w (by omega)];by_cases hwv:v=w
   ·rw[if_pos hwv]
   ·rw[if_neg hwv,occ_false (hocc w hw (fun e=>hwv e.symm)) _ (hm q hq)];simp[Rat.zero_mul])
  rw[<-hc];exact lval_bound hb hv
 have hmemd: ∀ p q,p<s.length->q<s.length->p≠q->s.getD q []∈del s p:=by
  intro p q hp hq hpq;unfold del;rw[qr];by_cases hlt:q<p
  ·left;rw[qa,qb hq];exact List.mem_take_iff_getElem.2 ⟨q,by omega,rfl⟩
  ·right;rw[qa,qb hq];refine List.mem_drop_iff_getElem.2 ⟨q - (p+1),by omega,?_⟩;congr 1;omega
 have up: ∀ p q,p<s.length->q<s.length->p≠q->0<co (s.getD p []) v->0<co (s.getD q []) v-> ¬co (solR v (s.getD p [])) 8<=co (solR v (s.getD q [])) 8:=by
  intro p q hp hq hpq h1 h2 hle;obtain⟨y,hy,hn⟩:=(red_iff hg hp).1 (hirr p hp);have h3:=hy _ (hmemd p q hp hq hpq);rw[hval q hq (by grind)] at h3;rw[hval p hp (by grind)] at hn;have h4:co (solR v (s.getD q [])) 8<y v:=by
   by_cases h:co (solR v (s.getD q [])) 8<y v
   ·exact h
   ·have:=Rat.mul_nonneg (show 0<=co (s.getD q []) v by grind) (show 0<=co (solR v (s.getD q [])) 8 - y v by grind);grind
  have:=Rat.mul_nonneg (show 0<=co (s.getD p []) v by grind) (show 0<=y v - co (solR v (s.getD p [])) 8 by grind);grind
 have dn: ∀ p q,p<s.length->q<s.length->p≠q->co (s.getD p []) v<0->co (s.getD q []) v<0-> ¬co (solR v (s.getD q [])) 8<=co (solR v (s.getD p [])) 8:=by
  intro p q hp hq hpq h1 h2 hle;obtain⟨y,hy,hn⟩:=(red_iff hg hp).1 (hirr p hp);have h3:=hy _ (hmemd p q hp hq hpq);rw[hval q hq (by grind)] at h3;rw[hval p hp (by grind)] at hn;have h4:y v<co (solR v (s.getD q [])) 8:=by
   by_cases h:y v<co (solR v (s.getD q [])) 8
   ·exact h
   ·have:=Rat.mul_nonneg (show 0<= -(co (s.getD q []) v) by grind) (show 0<=y v - co (solR v (s.getD q [])) 8 by grind);grind
  have:=Rat.mul_nonneg (show 0<= -(co (s.getD p []) v) by grind) (show 0<=co (solR v (s.getD p [])) 8 - y v by grind);grind
 constructor
 ·rintro⟨h1,h2⟩
  have a:=up i j hi hj hij h1 h2
  have b:=up j i hj hi (fun e=>hij e.symm) h2 h1
  grind
 ·rintro⟨h1,h2⟩
  have a:=dn i j hi hj hij h1 h2
  have b:=dn j i hj hi (fun e=>hij e.symm) h2 h1
  grind
theorem filter_le_one {α:Type} {p:α->Bool}: ∀ {l:List α},(∀ (i j:Nat) (hi:i<l.length) (hj:j<l.length),i≠j-> ¬(p l[i]=true/\p l[j]=true))->(l.filter p).length<=1
 | [],_=>by simp
 | a::l,h=>by
  have ih:=filter_le_one (l:=l) (p:=p) (fun i j hi hj hij=>h (i+1) (j+1) (by simp;omega) (by simp;omega) (by omega));cases hp:p a with
  | false=>rw[List.filter_cons_of_neg (by rw[hp];simp)];exact ih
  | true=>
   rw[List.filter_cons_of_pos hp];have:l.filter p=[]:=by
    rw[List.filter_eq_nil_iff];intro b hb hpb;obtain⟨j,hj,rfl⟩:=List.mem_iff_getElem.1 hb;exact h 0 (j+1) (by simp) (by simp;omega) (by omega) ⟨hp,hpb⟩
   rw[this];simp
theorem low_le_one {s:List (List Raw)} {v:Nat} (hv:v<8) (hg:GoodT s) (hirr:Irr s) (hocc: ∀ w,w<8->w≠v->occ s w=false):(lowQ s v).length<=1/\(highQ s v).length<=1:=by
 have e: ∀ (i:Nat) (hi:i<s.length),s[i]=s.getD i []:=fun i hi=>by rw[qa,qb hi];rfl
 constructor
 ·unfold lowQ lowL;rw[length_map,length_map];refine filter_le_one (fun i j hi hj hij h=>?_);rw[decide_eq_true_iff,decide_eq_true_iff,e i hi,e j hj] at h;exact(one_low hv hg hirr hocc hi hj hij).1 h
 ·unfold highQ highL;rw[length_map,length_map];refine filter_le_one (fun i j hi hj hij h=>?_);rw[decide_eq_true_iff,decide_eq_true_iff,e i hi,e j hj] at h;exact(one_low hv hg hirr hocc hi hj hij).2 h
end Go.Pl
namespace Go.Pl
theorem gs_cs {c:List (List Raw)} (h:GoodT c):CsT c:=by
 have hl:=h.good.len;have hn:=ncs_le c;refine⟨⟨fun l hl=>(h.good.lim l hl).mono (by decide),by omega,by omega,?_,fun l hl _=>h.good.lim l hl⟩,?_⟩
 ·rw[h.good.self];exact h.good
 ·rw[h.good.self];exact h
theorem gs_canon {c:List (List Raw)} (h:GoodT c) (hf:feasB c=true):canonP c=canS c:=by
 unfold canonP;rw[inner_nc h.good.len9 h.good.nc,h.good.self,hf,if_pos rfl];rfl
theorem minus_in {x:Nat->Rat}: ¬In [numL ((-1:Int):Rat)] x:=by
 intro h;have h1:=h _ (List.mem_singleton.2 rfl);have c:=fun w hw=>co_num (q:=((-1:Int):Rat)) (w:=w) hw
 rw[lval_eq,c 8 (by decide),c 0 (by decide),c 1 (by decide),c 2 (by decide),c 3 (by decide),c 4 (by decide),c 5 (by decide),c 6 (by decide),c 7 (by decide)] at h1;have e:((-1:Int):Rat)= -1:=rfl;simp[e] at h1;rcases h1 with h1 | h1
 ·exact absurd h1 (by grind)
 ·exact absurd h1.2 (by grind)
theorem inner_pos {cs:List (List Raw)} (h9: ∀ l∈cs,l.length=9) (hi:innerB cs=true) (x:Nat->Rat):In cs x↔Pos (sysL cs []) x:=by
 have h2:=hi;unfold innerB at h2;rw[qtb,Bool.not_eq_true'] at h2;exact sys_in h9 (sysL_is h9) (fun hv=>by rw[(violB_iff h9).2 hv] at h2;cases h2.1) x
theorem inner_feas {cs:List (List Raw)} (hi:innerB cs=true):feasB (sysL cs [])=true:=by
 unfold innerB at hi;rw[qtb] at hi;exact hi.2
theorem canon_in {cs:List (List Raw)} (h:CsT cs) (x:Nat->Rat):In (canonP cs) x↔In cs x:=by
 have h9:=h.cs.len9;unfold canonP;cases hi:innerB cs with
 | true=>
  rw[if_pos rfl,inner_pos h9 hi];have hg:=canS_good h.good;have h1:=in_pos hg.good.nc x;have h2:=canS_pos h.good x;exact h1.trans h2
 | false=>
  rw[if_neg (by simp)];refine⟨fun hx=>absurd hx minus_in,fun hx=>?_⟩;rw[(innerB_iff h9).2 ⟨x,hx⟩] at hi;cases hi
end Go.Pl
