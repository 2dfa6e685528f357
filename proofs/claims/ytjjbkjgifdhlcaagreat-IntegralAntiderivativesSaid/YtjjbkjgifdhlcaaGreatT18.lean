/- Contracts:regions in the reference:project,strict,Inner,Feasible. -/
import Derived.Test.YtjjbkjgifdhlcaaGreatT17
import Derived.Test.YtjjbkjgifdhlcaaGreatT16
import Derived.Test.YtjjbkjgifdhlcaaGreatT15
import Derived.Test.YtjjbkjgifdhlcaaGreatT13
import Derived.Test.YtjjbkjgifdhlcaaGreatT14
import Derived.Test.YtjjbkjgifdhlcaaGreatT1
open Nat (reduceAdd reduceLT reduceLeDiff reduceMul)
open List (any_append append_nil drop_eq_getElem_cons filter_append flatMap_append length_cons length_map length_pos_iff length_take mem_cons_of_mem mem_map mem_of_getElem? pairwise_iff_getElem range_succ replicate)
namespace Go.Proofs.YtjjbkjgifdhlcaaGreat
open Go.AM Go.Pl
set_option maxRecDepth 100000
set_option maxHeartbeats 4000000
theorem co_rz {w:Nat}:co (replicate 9 rz) w=0:=by
 have rq:rz.q=0:=by
  unfold Raw.q rz mkq;simp[val]
 unfold co;rw[qa,List.getElem?_replicate];split
 ·exact rq
 ·exact rq
theorem co_setne {l:List Raw} {v w:Nat} {r:Raw} (h:w≠v):co (l.set v r) w=co l w:=by
 unfold co;rw[qa,qm (fun e=>h e.symm),<-qa]
def negF:List Raw:=(replicate 9 rz).set 8 (cn ((-1:Int):Rat))
theorem negF_nrm:nrmR negF=numL ((-1:Int):Rat):=by
 have h9:negF.length=9:=by simp[negF]
 have hl:(leadL negF).q=((-1:Int):Rat):=by
  decide+kernel
 have h0:(leadL negF).q≠0:=by rw[hl];decide
 have ha:absq ((-1:Int):Rat)=1:=by decide+kernel
 have hn:IsCn (numL ((-1:Int):Rat)):=⟨(replicate 9 (0:Rat)).set 8 ((-1:Int):Rat),by simp[numL],by simp⟩;refine cn_ext (nrmR_cn h9) hn (fun i hi=>?_);rw[nrmR_at h9 h0 hi,hl,ha,co_num hi];by_cases h8:i=8
 ·subst h8;rw[if_pos rfl];unfold negF co;rw[qa,qv (by simp),Option.getD_some,cn_q];grind
 ·rw[if_neg h8];unfold negF;rw[co_setne h8,co_rz];grind
theorem negF_ok:LOk 1 negF:=by
 refine⟨by simp[negF],fun r hr=>?_⟩;unfold negF at hr;rcases List.mem_or_eq_of_mem_set hr with h1 | h1
 ·rw[List.eq_of_mem_replicate h1];exact⟨Dig.nil,Dig.nil,qsq _,qsq _⟩
 ·rw[h1];exact cn_ok (bd_int (by decide))
theorem pd84:Den Tryz.prog 230 [] [] [] (.fv (.sl (rowsF [numL ((-1:Int):Rat)]))):=by
 have h47:=den47 (-1) (by decide);change Den Tryz.prog 74 [] [.int .i64 (-1)] [] (cn ((-1:Int):Rat)).v at h47;have hN:=den12 negF (negF_ok.mono (by decide));change Den Tryz.prog 71 [] [RL negF] [] (RL (nrmR negF)) at hN;rw[negF_nrm] at hN;have hnl:=numL_len ((-1:Int):Rat);have hF:flat negF=[.bool false,.fv (.sl []),.fv (.sl []),.bool false,.fv (.sl []),.fv (.sl []),.bool false,.fv (.sl []),.fv (.sl []),.bool false,.fv (.sl []),.fv (.sl []),.bool false,.fv (.sl []),.fv (.sl []),.bool false,.fv (.sl []),.fv (.sl []),.bool false,.fv (.sl []),.fv (.sl []),.bool false,.fv (.sl []),.fv (.sl []),.bool (cn ((-1:Int):Rat)).neg,.fv (.sl (u32s (cn ((-1:Int):Rat)).num)),.fv (.sl (u32s (cn ((-1:Int):Rat)).den))]:=rfl;unfold RL at hN;rw[hF] at hN;have r1:rowsF [numL ((-1:Int):Rat)]=[flatF (numL ((-1:Int):Rat))]:=rfl;rw[r1];obtain⟨c,hc⟩:=ex1 (cn ((-1:Int):Rat));rw[hc] at h47 hN
 obtain⟨y,hy⟩:=ex1 (numL ((-1:Int):Rat));rw[hy] at hN hnl ⊢;have gy:=flat_length y;have gy27:=flat_take27 hnl;have y27:=flatF_take27 hnl;unfold Raw.v at h47;refine den_of tabOk mixed Tryz.func230 (cd:=_) rfl (by decide) rfl (n:=5) rfl rfl (m:=0) rfl ?_;simp -dsimp(disch:=omega) only[replicate,rules];refine gp h47 rfl ?_;simp -dsimp(disch:=omega) only[↓reduceIte,reduceAdd,reduceLeDiff,ru];refine gp hN rfl ?_;simp -dsimp(disch:=omega) only[gy,hnl,y27,↓reduceIte,reduceAdd,reduceMul,reduceLT,reduceLeDiff,ru,zu];exact rpq rfl ⟨tvq,tvq⟩ rfl
theorem turn_cs {s:List (List Raw)} {i:Nat} (hg:GoodT s) (hi:i<s.length):CsOk (del s i++[negR (s.getD i [])])/\innerB (del s i++[negR (s.getD i [])])=redB s i/\Pre (del s i++[negR (s.getD i [])]):=by
 have hl:=del_len hi;obtain⟨h1,h2⟩:=hg.turn (t:=del s i) (fun l hl=>del_mem hl) (at_mem hi) (by omega);have h9: ∀ l∈del s i++[negR (s.getD i [])],l.length=9:=fun l hl=>(h2.ok l hl).len
 refine⟨⟨fun l hl=>(h2.ok l hl).mono (by decide),by have:=h2.len;omega,?_,h1,fun l hl _=>h2.ok l hl⟩,inner_nc h9 h2.nc,h2⟩;have h3:=ncs_le (del s i++[negR (s.getD i [])]);have h4:=hg.good.len;rw[qe,qab] at h3;omega
theorem pd81 (cs:List (List Raw)) (h:CsT cs):Den Tryz.prog 198 [] [.fv (.sl (rowsF cs))] [] (.fv (.sl (rowsF (canonP cs)))):=by
 obtain⟨R,hR⟩:=ex1 (canonP cs);rw[hR];unfold canonP innerB at hR;have h44:=pd44g cs h.cs;have hg0:=h.good;have h45:=pd45 _ hg0.good;have h84:=pd84;cases hvb:violB cs with
 | true=>
  rw[hvb,if_pos rfl] at h44;rw[hvb] at hR;have hR2:R=[numL ((-1:Int):Rat)]:=hR.symm;subst hR2;refine den_of tabOk mixed Tryz.func198 (cd:=_) rfl (by decide) rfl (n:=46) rfl rfl (m:=0) rfl ?_;simp -dsimp(disch:=omega) only[replicate,rules];refine gp h44 rfl ?_;simp -dsimp(disch:=omega) only[Bool.not_false,↓reduceIte,ru];refine gp h84 rfl ?_;simp -dsimp(disch:=omega) only[ru];exact rpq rfl ⟨tvq,tvq⟩ rfl
 | false=>
  rw[hvb,if_neg (by simp)] at h44;rw[hvb] at hR;cases hfb:feasB (sysL cs []) with
  | false=>
   rw[hfb] at hR h45;have hR2:R=[numL ((-1:Int):Rat)]:=hR.symm;subst hR2;refine den_of tabOk mixed Tryz.func198 (cd:=_) rfl (by decide) rfl (n:=46) rfl rfl (m:=0) rfl ?_;simp -dsimp(disch:=omega) only[replicate,rules];refine gp h44 rfl ?_;simp -dsimp(disch:=omega) only[Bool.not_true,rules];refine gp h45 rfl ?_;simp -dsimp(disch:=omega) only[Bool.not_false,rules,↓reduceIte];refine gp h84 rfl ?_;simp -dsimp(disch:=omega) only[ru];exact rpq rfl ⟨tvq,tvq⟩ rfl
  | true=>
   rw[hfb,Bool.not_false,Bool.and_true,if_pos rfl] at hR;rw[hfb] at h45;obtain⟨s0,hs0⟩: ∃ s,sysL cs []=s:=⟨_,rfl⟩;rw[hs0] at h44 hg0 h45 hR;have hm1:=den47 (-1) (by decide);change Den Tryz.prog 74 [] [.int .i64 (-1)] [] (cn ((-1:Int):Rat)).v at hm1;have hcm: ∀ b:List Raw,LOk 1000 b->Den Tryz.prog 135 [] [RL b,(cn ((-1:Int):Rat)).v] [] (RL (negR b)):=fun b hb=>by
    have:=den23 b (cn ((-1:Int):Rat)) (hb.mono (by decide)) (cn_ok (Bd.mono (show Bd 1 ((-1:Int):Rat) from⟨by decide,by decide⟩) (by decide)));rw[cn_q] at this;exact this
   obtain⟨c,hc⟩:=ex1 (cn ((-1:Int):Rat));rw[hc] at hm1 hcm;unfold Raw.v at hm1 hcm;refine den_of tabOk mixed Tryz.func198 (cd:=_) rfl (by decide) rfl (n:=46) rfl rfl (m:=0) rfl ?_;simp -dsimp(disch:=omega) only[replicate,rules];refine gp h44 rfl ?_;simp -dsimp(disch:=omega) only[Bool.not_true,rules];refine gp h45 rfl ?_;simp -dsimp(disch:=omega) only[Bool.not_true,rules,↓reduceIte];refine gp hm1 rfl ?_;simp -dsimp(disch:=omega) only[reduceAdd,reduceLT,reduceLeDiff,ru]
   repeat refine qy (by omega) ?_
   refine wl (α:=Nat×List (List Raw)) (fun⟨i,s⟩=>⟨[.fv (.sl (rowsF cs)),.any,.nilsl,.fv (.sl (rowsF s)),.bool true,.ptr 0 0 0,.int .i64 i]++replicate 40 .any,[.box true [.bool c.neg,.fv (.sl (u32s c.num)),.fv (.sl (u32s c.den))]]⟩)
    (fun⟨i,s⟩=>s.length - i) (fun⟨i,s⟩=>i<=s.length/\GoodT s/\canL (s.length - i) i s=R) (0,s0) ?_ ?_ ?_
   ·refine wk [0] (by simp) rfl ?_ ?_
    ·simp[leVs,leV,le1]
    ·simp[leH,leO,le1s,le1]
   ·exact⟨qsq _,hg0,hR⟩
   ·rintro⟨i,s⟩ ⟨hi,hg,hcan⟩;have hn12:=hg.good.len;have hlim:=hg.good.lim;obtain⟨n,hnn⟩:=ex1 (s.length);have rl:=rowsF_length s;rw[hnn] at rl hn12 hi hcan;simp -dsimp(disch:=omega) only[replicate,rl,↓reduceIte,ru];refine bd_ ?_ ?_
    ·intro h1 h2;have hin:i<s.length:=by omega
     have hmem:=at_mem (ls:=s) (i:=i) hin;have r1:=rowsF_getD s i;obtain⟨hcs,hinn,_⟩:=turn_cs hg hin;have h60:=pd60 _ hcs;rw[hinn] at h60;have h78:=pd78 s (fun l hl=>(hlim l hl).len) (by omega);have h114:=pd114 s i hin (by omega);have hdl:=del_len hin;have h78b:=pd78 (del s i) (fun l hl=>(hlim l (del_mem hl)).len) (by omega);have hgd:=hg.sub (del_sub (s:=s) (i:=i));have h8:n - i=(n - (i+1))+1:=by omega
     rw[h8] at hcan;unfold canL at hcan;rw[if_pos hin] at hcan;obtain⟨b,hb⟩:=ex1 (redB s i);rw[hb] at h60 hcan;obtain⟨x,hxx⟩:=ex1 (s.getD i []);rw[hxx] at hmem r1 h60;have hx:=hlim x hmem;have lx:=hx.len;have x27:=flatF_take27 lx;have fx:=flatF_length x;have gx:=flat_length x;have gx27:=flat_take27 lx;have h79:=hcm x hx;have hnl:=negR_len lx;have rd:=rowsF_length (del s i);have hap:=rows_snoc (del s i) (negR x);have hdl2:(del s i).length=n - 1:=by omega
     rw[hdl2] at rd h78b;have tkd:=take_rows (ls:=del s i) (n:=n - 1) (by omega);obtain⟨dd,hdd⟩: ∃ d,del s i=d:=⟨_,rfl⟩;rw[hdd] at h60 h114 h78b hgd rd hap hcan hdl2 tkd;obtain⟨y,hy⟩:=ex1 (negR x);rw[hy] at h60 h79 hnl hap;have gy:=flat_length y;have y27:=flatF_take27 hnl;have gy27:=flat_take27 hnl;have hlen1:(dd++[y]).length=n - 1+1:=by rw[qe,hdl2];rfl
     have rll:=rowsF_length (dd++[y]);rw[hlen1] at rll;rw[hnn] at h78 h114;have hsh: ∀ (H:List Ob) (a b:FV),shutBs H 1 [.lsl 1 0 n 27,.fv a,.fv b]=H:=fun _ _ _=>rfl
     have h0n:0+(n - 1)<=(rowsF dd).length:=by omega
     unfold RL at h79;simp -dsimp(disch:=omega) only[h2,rules];refine gp h78 rfl ?_;simp -dsimp(disch:=omega) only[↓reduceIte,reduceAdd,ru];refine gl_ 1 h114 rfl rfl trivial rfl rfl rfl ?_;simp -dsimp(disch:=omega) only[append_nil,lent,hsh,rules,reduceAdd];refine Draw.freeze [1] (by kernel_rfl) ?_;simp -dsimp(disch:=omega) only[rules];refine gp h78b (by simp[fzAs,fzA,fz1,fz0,rd,tkd]) ?_;simp -dsimp(disch:=omega) only[append_nil,r1,x27,flatF_fv,fx,lx,rl,↓reduceIte,reduceAdd,reduceMul,reduceLT,reduceLeDiff,ru]
     repeat refine qy (by omega) ?_
     refine gp h79 (by simp[fzAs,fzA,flat_fz,flatF_fv,fzs,fz0]) ?_;simp -dsimp(disch:=omega) only[gy,hnl,y27,rd,tkd,hap,↓reduceIte,reduceAdd,reduceMul,Nat.reduceBEq,reduceLT,reduceLeDiff,ru,zu]
     repeat refine qy (by omega) ?_
     refine GoCall.show h60 (Plain.lit _) (by omega) rfl ?_;cases b with
     | true=>
      rw[if_pos rfl] at hcan;simp -dsimp(disch:=omega) only[↓reduceIte,reduceAdd,Nat.reduceBEq,ru];refine ap (i+1,s) (by dsimp only;omega) ?_ ⟨by omega,hg,by rw[hnn];exact hcan⟩;refine wk [0] (by simp) rfl ?_ ?_
      ·simp[leVs,leV,le1]
      ·simp[leH,leO,le1s,le1]
     | false=>
      rw[if_neg (by simp)] at hcan;simp -dsimp(disch:=omega) only[rules,reduceAdd];refine ap (i,dd) (by dsimp only;omega) ?_ ⟨by omega,hgd,by rw[hdl2,show n - 1 - i=n - (i+1) by omega];exact hcan⟩;refine Weak.fz 3 1 0 (n - 1) 27 (rowsF dd) rfl rfl (by omega) ?_;refine wk [0] (by simp) rfl ?_ ?_
      ·simp[leVs,leV,le1,tkd]
      ·simp[leH,leO,le1s,le1]
    ·intro h1 h2;have hin:i=n:=by omega
     have h8:n - i=0:=by omega
     rw[h8] at hcan;have hcan2:s=R:=hcan;subst hcan2;simp -dsimp(disch:=omega) only[h2,Nat.reduceBEq,ru];exact rpq rfl ⟨tvq,tvq⟩ rfl
theorem pd38 (cs:List (List Raw)) (h:CsT cs) (hl:cs.length<=40):Den Tryz.prog 156 [] [.fv (.sl (rowsF cs))] [] (.tup [.fv (.sl (rowsF (canonP cs))),.int .i64 0]):=by
 have h81:=pd81 cs h;have rl:=rowsF_length cs;have e1:decide ((cs.length:Int)>40)=false:=qcb (by omega);refine den_of tabOk mixed Tryz.func156 (cd:=_) rfl (by decide) rfl (n:=8) rfl rfl (m:=0) rfl ?_;simp -dsimp(disch:=omega) only[replicate,rl,e1,↓reduceIte,ru];refine gp h81 rfl ?_;simp -dsimp(disch:=omega) only[ru];exact rpq rfl ⟨tvq,tvq,tvq⟩ rfl
def rowsRL (Ls:List (List RR)):List (List FV):=Ls.map (fun l=>[FV.sl (rowsR l)])
theorem rowsRL_length (Ls:List (List RR)):(rowsRL Ls).length=Ls.length:=by simp[rowsRL]
theorem rowsRL_getD {Ls:List (List RR)} {i:Nat} (h:i<Ls.length):(rowsRL Ls).getD i []=[FV.sl (rowsR (Ls.getD i []))]:=by simp[rowsRL,h]
theorem getD_memG {α:Type} {l:List α} {d:α} {i:Nat} (h:i<l.length):l.getD i d∈l:=by
 rw[qa,qb h];exact qqb h
theorem take_snocG {α:Type} {l:List α} {d:α} {i:Nat} (h:i<l.length):l.take (i+1)=l.take i++[l.getD i d]:=by
 rw[List.take_succ_eq_append_getElem h,qa,qb h];rfl
structure PgOk (ts:List RT):Prop where
 ok:TsOk 1000000000 ts
 pb:PB 1000000000 (ts.map tq)
 len:ts.length<=10000000000
 srt:(nfR ts).length<=sortMax
def largeC (r:RR):Bool:=decide (40<r.1.length)
def largeB (l:List RR):Bool:=decide (4000<l.length)||l.any largeC
def validR (l:List RR):Bool:=l.all (fun r=>validB r.2)
def chkV (Ls:List (List RR)):Int:=if Ls.any largeB=true then 9 else if Ls.all validR=true then 0 else 2
theorem iq61' {ts:List RT} (h:PgOk ts):Den Tryz.prog 61 [] [PL ts] [] (if validB ts then .tup [PL ((nfR ts).map tn),.int .i64 0] else .tup [.fv (.sl []),.int .i64 2]):=by
 cases hv:validB ts with
 | true=>exact iq61 ts h.ok h.pb h.len h.srt hv
 | false=>exact iq61n ts h.ok h.len hv
theorem jq105 (Ls:List (List RR)) (hn:Ls.length<=10) (hlen: ∀ l∈Ls,l.length<=1000000) (hp: ∀ l∈Ls,∀ r∈l,PgOk r.2) (hc: ∀ l∈Ls,∀ r∈l,r.1.length<=1000000):
 Den Tryz.prog 105 [] [.fv (.sl (rowsRL Ls))] [] (.int .i64 (chkV Ls)):=by
 have rl:=rowsRL_length Ls
 obtain⟨n,hnn⟩:=ex1 (Ls.length)
 rw[hnn] at rl hn
 obtain⟨R,hR⟩:=ex1 (chkV Ls)
 rw[hR]
 unfold chkV at hR
 refine den_of tabOk mixed Tryz.func105 (cd:=_) rfl (by decide) rfl (n:=55) rfl rfl (m:=0) rfl ?_
 simp -dsimp(disch:=omega) only[replicate,rl,ru]
 refine wl (α:=Nat) (fun i=>⟨[.fv (.sl (rowsRL Ls)),.any,.int .i64 0,.any,.any,.any,.any,.any,.any,.any,.any,.any,.any,.fv (.sl (rowsRL Ls)),.int .i64 n,.int .i64 i]++replicate 40 .any,[]⟩)
  (fun i=>n - i) (fun i=>i<=n/\(Ls.take i).any largeB=false) 0 ?_ ?_ ?_
 ·refine wk [] (by simp) rfl ?_ ?_
  ·simp[leVs,leV,le1]
  ·simp[leH]
 ·exact⟨qsq _,rfl⟩
 ·rintro i ⟨h1,h2⟩
  simp -dsimp(disch:=omega) only[replicate,↓reduceIte,ru]
  refine bd_ ?_ ?_
  ·intro g1 g2
   have rx:=rowsRL_getD (Ls:=Ls) (i:=i) (by omega)
   have hm:=getD_memG (l:=Ls) (d:=[]) (i:=i) (by omega)
   have hsn:=take_snocG (l:=Ls) (d:=[]) (i:=i) (by omega)
   obtain⟨l,hl⟩:=ex1 (Ls.getD i [])
   rw[hl] at rx hm hsn
   have hll:=hlen l hm
   have hcl:=hc l hm
   have rll:=rowsR_length l
   obtain⟨m,hmm⟩:=ex1 (l.length)
   rw[hmm] at rll hll
   have hany:largeB l=true->Ls.any largeB=true:=fun h=>any_mem hm h
   by_cases h4:4000<m
   ·have e1:decide ((m:Int)>4000)=true:=qbb (by omega)
    have hb:largeB l=true:=by unfold largeB;rw[hmm,qbb h4];rfl
    rw[if_pos (hany hb)] at hR
    subst hR
    simp -dsimp(disch:=omega) only[g2,rx,rl,rll,e1,↓reduceIte,reduceLT,reduceLeDiff,ru]
    repeat refine qy (by omega) ?_
    exact rpq rfl ⟨tvq,tvq⟩ rfl
   ·have e1:decide ((m:Int)>4000)=false:=qcb (by omega)
    simp -dsimp(disch:=omega) only[g2,rx,rl,rll,e1,↓reduceIte,reduceLT,reduceLeDiff,ru]
    repeat refine qy (by omega) ?_
    refine wl (α:=Nat) (fun j=>⟨[.fv (.sl (rowsRL Ls)),.any,.int .i64 0,.any,.any,.any,.any,.any,.any,.any,.any,.any,.any,.fv (.sl (rowsRL Ls)),.int .i64 n,.int .i64 i,.any,.any,.any,.any,.any,.any,.fv (.sl (rowsR l)),.int .i64 m,.int .i64 j]++replicate 31 .any,[]⟩)
     (fun j=>m - j) (fun j=>j<=m/\(l.take j).any largeC=false) 0 ?_ ?_ ?_
    ·refine wk [] (by simp) rfl ?_ ?_
     ·simp[leVs,leV,le1]
     ·simp[leH]
    ·exact⟨qsq _,rfl⟩
    ·rintro j ⟨k1,k2⟩
     simp -dsimp(disch:=omega) only[replicate,↓reduceIte,ru]
     refine bd_ ?_ ?_
     ·intro g3 g4
      have ry:=rowsR_getD (l:=l) (i:=j) (by omega)
      have hm2:=getD_memR (l:=l) (i:=j) (by omega)
      have hsn2:=take_snocR (l:=l) (i:=j) (by omega)
      obtain⟨r,hr⟩:=ex1 (l.getD j rr0)
      rw[hr] at ry hm2 hsn2
      have hrc:=hcl r hm2
      have rlc:=rowsF_length r.1
      unfold rgF at ry
      by_cases h40:40<r.1.length
      ·have e2:decide ((r.1.length:Int)>40)=true:=qbb (by omega)
       have hb:largeB l=true:=by
        unfold largeB;rw[any_mem hm2 (show largeC r=true from qbb h40),Bool.or_true]
       rw[if_pos (hany hb)] at hR
       subst hR
       simp -dsimp(disch:=omega) only[g4,ry,rll,rlc,e2,↓reduceIte,reduceAdd,reduceLT,reduceLeDiff,ru]
       repeat refine qy (by omega) ?_
       exact rpq rfl ⟨tvq,tvq⟩ rfl
      ·have e2:decide ((r.1.length:Int)>40)=false:=qcb (by omega)
       simp -dsimp(disch:=omega) only[g4,ry,rll,rlc,e2,↓reduceIte,reduceAdd,reduceLT,reduceLeDiff,ru]
       repeat refine qy (by omega) ?_
       refine ap (j+1) (by omega) ?_ ⟨by omega,by rw[hsn2,any_append,k2];simp[largeC];omega⟩
       refine wk [] (by simp) rfl ?_ ?_
       ·simp[leVs,leV,le1]
        try omega
       ·simp[leH]
     ·intro g3 g4
      have hjm:j=m:=by omega
      have htk:l.take j=l:=qdq (by omega)
      rw[htk] at k2
      simp -dsimp(disch:=omega) only[g4,↓reduceIte,Nat.reduceBEq,ru]
      refine ap (i+1) (by omega) ?_ ⟨by omega,by
       rw[hsn,any_append,h2];have:largeB l=false:=by unfold largeB;rw[k2,hmm,qcb h4];rfl
       simp[this]⟩
      refine wk [] (by simp) rfl ?_ ?_
      ·simp[leVs,leV,le1]
       try omega
      ·simp[leH]
  ·intro g1 g2
   have hin:i=n:=by omega
   have htk:Ls.take i=Ls:=qdq (by omega)
   rw[htk] at h2
   rw[if_neg (by rw[h2];decide)] at hR
   clear hc
   simp -dsimp(disch:=omega) only[g2,rl,Nat.reduceBEq,ru]
   refine wl (α:=Nat) (fun i=>⟨[.fv (.sl (rowsRL Ls)),.any,.int .i64 0,.any,.any,.any,.any,.any,.any,.any,.any,.any,.any]++replicate 21 .any++[.fv (.sl (rowsRL Ls)),.int .i64 n,.int .i64 i]++replicate 19 .any,[]⟩)
    (fun i=>n - i) (fun i=>i<=n/\(Ls.take i).all validR=true) 0 ?_ ?_ ?_
   ·refine wk [] (by simp) rfl ?_ ?_
    ·simp[leVs,leV,le1]
    ·simp[leH]
   ·exact⟨qsq _,rfl⟩
   ·rintro i ⟨h1,h2⟩
    simp -dsimp(disch:=omega) only[replicate,↓reduceIte,ru]
    refine bd_ ?_ ?_
    ·intro g1 g2
     have rx:=rowsRL_getD (Ls:=Ls) (i:=i) (by omega)
     have hm:=getD_memG (l:=Ls) (d:=[]) (i:=i) (by omega)
     have hsn:=take_snocG (l:=Ls) (d:=[]) (i:=i) (by omega)
     obtain⟨l,hl⟩:=ex1 (Ls.getD i [])
     rw[hl] at rx hm hsn
     have hll:=hlen l hm
     have hpl:=hp l hm
     have rll:=rowsR_length l
     obtain⟨m,hmm⟩:=ex1 (l.length)
     rw[hmm] at rll hll
     simp -dsimp(disch:=omega) only[g2,rx,rl,rll,↓reduceIte,reduceLT,reduceLeDiff,ru]
     repeat refine qy (by omega) ?_
     refine wl (α:=Nat) (fun j=>⟨[.fv (.sl (rowsRL Ls)),.any,.int .i64 0,.any,.any,.any,.any,.any,.any,.any,.any,.any,.any]++replicate 21 .any++[.fv (.sl (rowsRL Ls)),.int .i64 n,.int .i64 i,.any,.any,.any,.fv (.sl (rowsR l)),.int .i64 m,.int .i64 j]++replicate 13 .any,[]⟩)
      (fun j=>m - j) (fun j=>j<=m/\(l.take j).all (fun r=>validB r.2)=true) 0 ?_ ?_ ?_
     ·refine wk [] (by simp) rfl ?_ ?_
      ·simp[leVs,leV,le1]
      ·simp[leH]
     ·exact⟨qsq _,rfl⟩
     ·rintro j ⟨k1,k2⟩
      simp -dsimp(disch:=omega) only[replicate,↓reduceIte,ru]
      refine bd_ ?_ ?_
      ·intro g3 g4
       have ry:=rowsR_getD (l:=l) (i:=j) (by omega)
       have hm2:=getD_memR (l:=l) (i:=j) (by omega)
       have hsn2:=take_snocR (l:=l) (i:=j) (by omega)
       obtain⟨r,hr⟩:=ex1 (l.getD j rr0)
       rw[hr] at ry hm2 hsn2
       have h61:=iq61' (hpl r hm2)
       unfold rgF at ry
       cases hv:validB r.2 with
       | false=>
        have hb:Ls.all validR=false:=by
         cases ha:Ls.all validR with
         | false=>rfl
         | true=>
          have:=List.all_eq_true.1 (List.all_eq_true.1 ha l hm) r hm2;rw[hv] at this;cases this
        rw[hb,if_neg (by decide)] at hR;rw[hv,if_neg (by decide)] at h61;subst hR;have e2:((2:Int) !=0)=true:=rfl;simp -dsimp(disch:=omega) only[g4,ry,rll,↓reduceIte,reduceAdd,reduceLT,reduceLeDiff,ru]
        repeat refine qy (by omega) ?_
        refine gp h61 rfl ?_;simp -dsimp(disch:=omega) only[e2,↓reduceIte,ru];exact rpq rfl ⟨tvq,tvq⟩ rfl
       | true=>
        rw[hv,if_pos rfl] at h61;have e2:((0:Int) !=0)=false:=rfl;simp -dsimp(disch:=omega) only[g4,ry,rll,↓reduceIte,reduceAdd,reduceLT,reduceLeDiff,ru]
        repeat refine qy (by omega) ?_
        refine gp h61 rfl ?_;simp -dsimp(disch:=omega) only[e2,↓reduceIte,ru];refine ap (j+1) (by omega) ?_ ⟨by omega,by rw[hsn2,qvb,k2];simp[hv]⟩;refine wk [] (by simp) rfl ?_ ?_
        ·simp[leVs,leV,le1]
         try omega
        ·simp[leH]
      ·intro g3 g4
       have hjm:j=m:=by omega
       have htk:l.take j=l:=qdq (by omega)
       rw[htk] at k2
       simp -dsimp(disch:=omega) only[g4,↓reduceIte,Nat.reduceBEq,ru]
       refine ap (i+1) (by omega) ?_ ⟨by omega,by
        rw[hsn,qvb,h2];have:validR l=true:=k2;simp[this]⟩
       refine wk [] (by simp) rfl ?_ ?_
       ·simp[leVs,leV,le1]
        try omega
       ·simp[leH]
    ·intro g1 g2
     have hin:i=n:=by omega
     have htk:Ls.take i=Ls:=qdq (by omega)
     rw[htk] at h2
     rw[if_pos h2] at hR
     subst hR
     simp -dsimp(disch:=omega) only[g2,Nat.reduceBEq,ru]
     exact rpq rfl ⟨tvq,tvq⟩ rfl
end Go.Proofs.YtjjbkjgifdhlcaaGreat
namespace Go.Pl
open Go.AM
def segR (s:List RC) (i j:Nat):List RC:=(s.take j).drop i
def polyS' (l:List RC):List Tm:=nf (l.flatMap (·.2))
structure MgI (s M:List RC) (i:Nat):Prop where
 nf:NF M
 lt: ∀ x∈M,∀ y∈s.drop i,cmpC x.1 y.1<0
 sum: ∀ k m,CnK k->sumK k m M=sumK k m (s.take i)
theorem MgI.start (s:List RC):MgI s [] 0:=⟨.nil,by simp,fun k m _=>by rw[List.take_zero]⟩
theorem seg_perm {s:List RC} {i j:Nat} (hij:i<=j):(segR s i j++(s.take i++s.drop j)).Perm s:=by
 have h1:s=s.take i++segR s i j++s.drop j:=by
  unfold segR;have h2:s.take i=(s.take j).take i:=by rw[List.take_take,Nat.min_eq_left hij]
  rw[h2,List.take_append_drop,List.take_append_drop]
 conv=>rhs;rw[h1]
 rw[<-qlb];exact List.Perm.append_right _ List.perm_append_comm
theorem seg_snoc {s:List RC} {i j:Nat} {x:RC} (hij:i<=j) (hj:s[j]?=some x):segR s i (j+1)=segR s i j++[x]:=by
 unfold segR;have hl:j<s.length:=(List.getElem?_eq_some_iff.1 hj).1;have hx:s[j]=x:=(List.getElem?_eq_some_iff.1 hj).2;rw[List.take_succ_eq_append_getElem hl,List.drop_append_of_le_length (by rw[length_take];omega),hx]
theorem seg_one {s:List RC} {i:Nat} {x:RC} (hi:s[i]?=some x):segR s i (i+1)=[x]:=by
 rw[seg_snoc (qp _) hi];unfold segR;rw[List.drop_of_length_le (by rw[length_take];omega)];rfl
theorem seg_mem {s:List RC} {i j:Nat} {x:RC} (h:x∈segR s i j):x∈s:=qfb (qgb h)
theorem RcOk.flat {l:List RC} (h:RcOk l):Len8 (l.flatMap (·.2)):=fun t ht=>by
 obtain⟨r,hr,h2⟩:=List.mem_flatMap.1 ht;exact(h r hr).2.len t h2
theorem poly_snoc {l:List RC} {x:RC} (hl:RcOk l) (hx:Canon x.2):nf (polyS' l++x.2)=polyS' (l++[x]):=by
 unfold polyS';rw[flatMap_append,List.flatMap_singleton];exact Eqv.nf_eq ((Eqv.nf _).app (Eqv.refl _)) (Len8.app (Len8.nf hl.flat) hx.len) (Len8.app hl.flat hx.len)
theorem poly_one {x:RC} (hx:Canon x.2):polyS' [x]=x.2:=by
 unfold polyS';rw[List.flatMap_singleton,nf_self hx]
theorem sumK_key {k:Kc} {m:Mn}: ∀ {l:List RC},(∀ x∈l,x.1=k)->sumK k m l=sumC m (l.flatMap (·.2))
 | [],_=>rfl
 | x::l,h=>by
  rw[sumK,if_pos (h x (by simp)),sumK_key (fun y hy=>h y (mem_cons_of_mem _ hy)),List.flatMap_cons,sumC_append]
theorem sumK_other {k k2:Kc} {m:Mn} {l:List RC} (h: ∀ x∈l,x.1=k) (hk:k≠k2):sumK k2 m l=0:=sumK_none (fun x hx he=>hk ((h x hx).symm.trans he))
theorem MgI.step {s M:List RC} {i j:Nat} {k:Kc} (hs:s.Pairwise (fun a b=>cmpC a.1 b.1<=0)) (hok:RcOk s) (h:MgI s M i) (hij:i<j) (hj:j<=s.length)
 (hk: ∀ x∈segR s i j,x.1=k) (hend: ∀ y,s[j]?=some y->cmpC y.1 k≠0):
 MgI s (if polyS' (segR s i j)=[] then M else M++[(k,polyS' (segR s i j))]) j:=by
 have hil:i<s.length:=by omega
 have hx0:s[i]?=some s[i]:=qb hil
 have hmem0:s[i]∈segR s i j:=by
  unfold segR;have:s[i]=(s.take j)[i]'(by rw[length_take];omega):=by rw[List.getElem_take]
  rw[this];have h2:i<(s.take j).length:=by rw[length_take];omega
  rw[drop_eq_getElem_cons h2];simp
 have hkk:s[i].1=k:=hk _ hmem0
 have hcnk:CnK k:=by rw[<-hkk];exact(hok _ (qqb hil)).1
 have hdi:s[i]∈s.drop i:=by rw[drop_eq_getElem_cons hil];exact List.mem_cons_self
 have hdj: ∀ y∈s.drop j,y∈s.drop i:=fun y hy=>by
  have:s.drop j=(s.drop i).drop (j - i):=by rw[List.drop_drop];congr 1;omega
  rw[this] at hy;exact qgb hy
 have hlate: ∀ y∈s.drop j,cmpC k y.1<0:=fun y hy=>by
  have hjl:j<s.length:=by
   have:=qw hy;rw[qt] at this;omega
  have hne:=hend s[j] (qb hjl);have hle:cmpC s[i].1 s[j].1<=0:=pairwise_iff_getElem.1 hs i j hil hjl hij;rw[hkk] at hle;have hsw:=cmpC_swap s[j].1 k;have hcj:=(hok s[j] (qqb hjl)).1;rw[drop_eq_getElem_cons hjl] at hy;rcases List.mem_cons.1 hy with h1 | h1
  ·rw[h1];omega
  ·obtain⟨q,hq,rfl⟩:=List.mem_iff_getElem.1 h1;rw[List.getElem_drop] at*;rw[qt] at hq;have h2:=pairwise_iff_getElem.1 hs j (j+1+q) hjl (by omega) (by omega);exact cmpC_lt_le hcnk hcj (hok _ (qqb _)).1 (by omega) h2
 have hsegok:RcOk (segR s i j):=fun x hx=>hok x (seg_mem hx)
 have hcan:Canon (polyS' (segR s i j)):=nf_canon hsegok.flat
 have htk:s.take j=s.take i++segR s i j:=by
  unfold segR;have h2:s.take i=(s.take j).take i:=by rw[List.take_take,Nat.min_eq_left (by omega)]
  rw[h2,List.take_append_drop]
 have hsum: ∀ k2 m,sumK k2 m (segR s i j)=if k=k2 then sumC m (polyS' (segR s i j)) else 0:=fun k2 m=>by
  by_cases hc:k=k2
  ·rw[if_pos hc,<-hc,sumK_key hk];unfold polyS';rw[nf_sum]
  ·rw[if_neg hc,sumK_other hk hc]
 by_cases hp:polyS' (segR s i j)=[]
 ·rw[if_pos hp]
  refine⟨h.nf,fun x hx y hy=>h.lt x hx y (hdj y hy),fun k2 m hk2=>?_⟩
  rw[htk,sumK_append,h.sum k2 m hk2,hsum,hp]
  simp[sumC];grind
 ·rw[if_neg hp]
  refine⟨⟨?_,fun x hx=>?_,fun x hx=>?_,fun x hx=>?_⟩,fun x hx y hy=>?_,fun k2 m hk2=>?_⟩
  ·rw[List.pairwise_append]
   refine⟨h.nf.sorted,List.pairwise_singleton _ _,fun x hx y hy=>?_⟩
   rw[qz] at hy
   subst hy
   have:=h.lt x hx _ hdi
   rw[hkk] at this
   exact this
  ·rcases List.mem_append.1 hx with h1 | h1
   ·exact h.nf.cn x h1
   ·rw[qz] at h1;subst h1;exact hcnk
  ·rcases List.mem_append.1 hx with h1 | h1
   ·exact h.nf.can x h1
   ·rw[qz] at h1;subst h1;exact hcan
  ·rcases List.mem_append.1 hx with h1 | h1
   ·exact h.nf.ne x h1
   ·rw[qz] at h1;subst h1;exact hp
  ·rcases List.mem_append.1 hx with h1 | h1
   ·exact h.lt x h1 y (hdj y hy)
   ·rw[qz] at h1;subst h1;exact hlate y hy
  ·rw[sumK_append,h.sum k2 m hk2,htk,sumK_append,hsum,sumK,sumK];grind
theorem MgI.done {s M l:List RC} (h:MgI s M s.length) (hp:s.Perm l) (hl:RcOk l):M=ordR l:=
 h.nf.of hl (fun k m hk=>by rw[h.sum k m hk,List.take_length,sumK_perm hp])
end Go.Pl
namespace Go.Proofs.YtjjbkjgifdhlcaaGreat
open Go.AM Go.Pl
set_option maxRecDepth 100000
set_option maxHeartbeats 4000000
theorem canQ {cs:List (List Raw)} (h:CsT cs):(∀ l∈canonP cs,IsCn l/\LOk 1000 l)/\(canonP cs).length<=40:=by
 unfold canonP;split
 ·have hg:=canS_good h.good;exact⟨fun l hl=>⟨hg.good.cnf l hl,hg.good.lim l hl⟩,by have:=hg.good.len;exact qnb (show(canL (sysL cs []).length 0 (sysL cs [])).length<=12 from this) (by decide)⟩
 ·refine⟨fun l hl=>?_,by decide⟩;rw[qz] at hl;subst hl;exact⟨⟨(replicate 9 (0:Rat)).set 8 ((-1:Int):Rat),by simp[numL],by simp⟩,minus_okk.mono (by decide)⟩
noncomputable def keepB (r:RR):Bool:=innerB r.1&&!(nfR r.2).isEmpty
noncomputable def normL (L:List RR):List RC:=(L.filter keepB).map (fun r=>(canonP r.1,nfR r.2))
theorem normL_snoc {L:List RR} {r:RR}:normL (L++[r])=normL L++(if keepB r then [(canonP r.1,nfR r.2)] else []):=by
 unfold normL;rw[filter_append,qwb];congr 1;cases h:keepB r<;>simp[h]
structure NrOk (L:List RR):Prop where
 pg: ∀ r∈L,PgOk r.2
 val: ∀ r∈L,validB r.2=true
 cs: ∀ r∈L,r.1.length<=40->CsT r.1
 len:L.length<=1000000
 lim: ∀ r∈L,r.1.length<=1000000
 few:(normL L).length<20
 mer: ∀ t u:List RC,(t++u).Perm (normL L)->POk 10000000 1024 (polyS' t)/\(polyS' t).length<=sortMax
theorem normL_ok {L:List RR} (h:NrOk L) (hl:L.any largeC=false):(∀ r∈normL L,CnK r.1/\AOk 1000 r.1/\r.1.length<=40)/\RcOk (normL L):=by
 have h1: ∀ r∈normL L,(CnK r.1/\AOk 1000 r.1/\r.1.length<=40)/\Canon r.2:=fun r hr=>by
  unfold normL at hr;obtain⟨x,hx,rfl⟩:=mem_map.1 hr;have hx2:=(List.mem_filter.1 hx).1;have hle:x.1.length<=40:=by
   cases hc:largeC x with
   | false=>simpa [largeC] using hc
   | true=>rw[any_mem hx2 hc] at hl;cases hl
  obtain⟨c1,c2⟩:=canQ (h.cs x hx2 hle);exact⟨⟨fun f hf=>(c1 f hf).1,fun f hf=>(c1 f hf).2,c2⟩,nf_canon (len8_map (h.pg x hx2).ok.l8)⟩
 exact⟨fun r hr=>(h1 r hr).1,fun r hr=>⟨(h1 r hr).1.1,(h1 r hr).2⟩⟩
theorem rn_map_perm {a:List RR} {b:List RC} (h:a.Perm (b.map rn)): ∃ s:List RC,a=s.map rn/\s.Perm b:=by
 have h2:(a.map (fun r=>((r.1,r.2.map tq):RC))).Perm b:=by
  have:=h.map (fun r=>((r.1,r.2.map tq):RC));rw[List.map_map] at this;have e:((fun r=>((r.1,r.2.map tq):RC)) ∘ rn)=id:=by
   funext x;show(x.1,(x.2.map tn).map tq)=x;rw[map_tq_tn]
  rw[e,List.map_id] at this;exact this
 refine⟨_,?_,h2⟩;rw[List.map_map]
 conv=>lhs;rw[<-List.map_id a]
 refine List.map_congr_left (fun x hx=>?_);obtain⟨y,_,rfl⟩:=mem_map.1 (h.mem_iff.1 hx);show rn y=(y.1,((y.2.map tn).map tq).map tn);rw[map_tq_tn];rfl
noncomputable def nrmV (L:List RR):PV:=if L.any largeC=true then .tup [.fv (.sl []),.int .i64 9] else .tup [RL' ((ordR (normL L)).map rn),.int .i64 0]
theorem jq107 (L:List RR) (h:NrOk L):Den Tryz.prog 107 [] [RL' L] [] (nrmV L):=by
 have rl:=rowsR_length L;have hlen:=h.len;obtain⟨n,hnn⟩:=ex1 (L.length);rw[hnn] at rl hlen;obtain⟨R,hR⟩:=ex1 (nrmV L);rw[hR];unfold nrmV at hR;refine den_of tabOk mixed Tryz.func107 (cd:=_) rfl (by decide) rfl (n:=121) rfl rfl (m:=0) rfl ?_;simp -dsimp(disch:=omega) only[replicate,rl,ru];refine wl (α:=Nat×List RC) (fun⟨i,out⟩=>⟨[RL' L,.any,.nilsl,.int .i64 0,.lsl 0 0 out.length 2,.any,.any,.any,.any,.any,.any,.any,.any,.any,.any,RL' L,.int .i64 n,.int .i64 i]++replicate 104 .any,[.row true (rowsR (out.map rn))]⟩)
  (fun⟨i,_⟩=>n - i) (fun⟨i,out⟩=>i<=n/\out=normL (L.take i)/\(L.take i).any largeC=false) (0,[]) ?_ ?_ ?_
 ·refine Weak.nil 4 2 (by decide) rfl ?_;refine wk [0] (by simp) rfl ?_ ?_
  ·simp[leVs,leV,le1]
  ·simp[leH,leO];simp[rowsR]
 ·exact⟨qsq _,rfl,rfl⟩
 ·rintro⟨i,out⟩ ⟨h1,h2,h3⟩;have hol:out.length<=i:=by
   rw[h2];unfold normL;rw[length_map];exact qnb (List.length_filter_le _ _) (by rw[length_take];omega)
  obtain⟨M,hM⟩:=ex1 (out.length);have rlo:=rowsR_length (out.map rn);rw[length_map,hM] at rlo;dsimp only;rw[hM] at hol ⊢;simp -dsimp(disch:=omega) only[replicate,↓reduceIte,ru];refine bd_ ?_ ?_
  ·intro g1 g2;have ry:=rowsR_getD (l:=L) (i:=i) (by omega);have hm:=getD_memR (l:=L) (i:=i) (by omega);have hsn:=take_snocR (l:=L) (i:=i) (by omega);obtain⟨r,hr⟩:=ex1 (L.getD i rr0);rw[hr] at ry hm hsn;have hlim:=h.lim r hm;have rlc:=rowsF_length r.1;have h61:=iq61' (h.pg r hm);rw[h.val r hm,if_pos rfl] at h61;unfold rgF at ry;by_cases h40:40<r.1.length
   ·have e2:decide ((r.1.length:Int)>40)=true:=qbb (by omega);rw[if_pos (any_mem hm (show largeC r=true from qbb h40))] at hR;subst hR;simp -dsimp(disch:=omega) only[g2,ry,rl,rlc,e2,↓reduceIte,reduceAdd,reduceLT,reduceLeDiff,ru]
    repeat refine qy (by omega) ?_
    exact rpq rfl ⟨tvq,tvq,tvq⟩ rfl
   ·have e2:decide ((r.1.length:Int)>40)=false:=qcb (by omega);have e3:((0:Int) !=0)=false:=rfl;have hcs:=h.cs r hm (by omega);have h20:=pd20 r.1 hcs.cs (by omega);have h38:=pd38 r.1 hcs (by omega);have hns:=normL_snoc (L:=L.take i) (r:=r);have hlr:largeC r=false:=qcb h40;have rlp:=rowsT_length ((nfR r.2).map tn);rw[length_map] at rlp;have hkb:keepB r=(innerB r.1&&!(nfR r.2).isEmpty):=rfl;have hsz:=(h.pg r hm).srt;have hsm:=sortMax_le;obtain⟨b,hb⟩:=ex1 (innerB r.1);obtain⟨q,hq⟩:=ex1 (nfR r.2);obtain⟨c,hc⟩:=ex1 (canonP r.1);rw[hb] at h20 hkb;rw[hq] at h61 hkb hns rlp hsz;rw[hc] at h38 hns;simp -dsimp(disch:=omega) only[g2,ry,rl,rlc,e2,↓reduceIte,reduceAdd,reduceLT,reduceLeDiff,ru]
    repeat refine qy (by omega) ?_
    refine gp h61 rfl ?_;simp -dsimp(disch:=omega) only[e3,↓reduceIte,reduceAdd,reduceLeDiff,ru];refine gp h20 rfl ?_;by_cases hk1:b=false
    ·subst hk1;rw[show keepB r=false from hkb,if_neg (by decide),append_nil] at hns;simp -dsimp(disch:=omega) only[e3,Bool.not_false,↓reduceIte,reduceAdd,Nat.reduceBEq,ru];refine ap (i+1,out) (by dsimp only;omega) ?_ ⟨by omega,by rw[hsn,hns,h2],by rw[hsn,any_append,h3];simp[hlr]⟩;refine wk [0] (by simp) rfl ?_ ?_
     ·simp[leVs,leV,le1];omega
     ·simp[leH,leO]
    ·have hk2:b=true:=by simpa using hk1
     subst hk2;by_cases hq0:q=[]
     ·have e4:((q.length:Int)==0)=true:=by rw[hq0];rfl
      rw[show keepB r=false by rw[hkb,hq0];rfl,if_neg (by decide),append_nil] at hns;simp -dsimp(disch:=omega) only[e3,Bool.not_true,rlp,e4,↓reduceIte,reduceAdd,Nat.reduceBEq,ru];refine ap (i+1,out) (by dsimp only;omega) ?_ ⟨by omega,by rw[hsn,hns,h2],by rw[hsn,any_append,h3];simp[hlr]⟩;refine wk [0] (by simp) rfl ?_ ?_
      ·simp[leVs,leV,le1];omega
      ·simp[leH,leO]
     ·have e4:((q.length:Int)==0)=false:=by
       have:=length_pos_iff.2 hq0;rw[qx];omega
      have hie:q.isEmpty=false:=by simpa using hq0
      rw[show keepB r=true by rw[hkb,hie];rfl,if_pos rfl] at hns;have hap:rowsR (out.map rn)++[[FV.sl (rowsF c),FV.sl (rowsT (q.map tn))]]=rowsR ((out++[(c,q)]).map rn):=by
       rw[qwb];exact rowsR_snoc _ (rn (c,q))
      have tk:=take_rowsR (l:=out.map rn) (n:=M) (by rw[length_map];omega);simp -dsimp(disch:=omega) only[e3,Bool.not_true,rlp,e4,↓reduceIte,reduceAdd,reduceLeDiff,ru];refine gp h38 rfl ?_;simp -dsimp(disch:=omega) only[e3,tk,hap,rlo,↓reduceIte,reduceAdd,reduceMul,Nat.reduceBEq,reduceLT,reduceLeDiff,ru]
      repeat refine qy (by omega) ?_
      refine ap (i+1,out++[(c,q)]) (by dsimp only;omega) ?_ ⟨by omega,by rw[hsn,hns,h2],by rw[hsn,any_append,h3];simp[hlr]⟩;refine wk [3] (by simp) rfl ?_ ?_
      ·simp[leVs,leV,le1];omega
      ·simp[leH,leO]
  ·intro g1 g2;have hin:i=n:=by omega
   have htk:L.take i=L:=qdq (by omega);rw[htk] at h2 h3;rw[if_neg (by rw[h3];decide)] at hR;obtain⟨hok1,hok2⟩:=normL_ok h h3;have hfew:=h.few;have hmer:=h.mer;rw[<-h2] at hR hok1 hok2 hfew hmer;rw[hM] at hfew;obtain⟨ls',hperm,hpw,h157⟩:=jq157 (out.map rn) (fun r hr=>by
    obtain⟨x,hx,rfl⟩:=mem_map.1 hr;have:=(hok1 x hx).2.2;exact⟨(hok1 x hx).1,fun l hl=>((hok1 x hx).2.1 l hl).mono (by decide),show x.1.length<=1000 by omega⟩) (by rw[length_map];omega)
   obtain⟨s,rfl,hps⟩:=rn_map_perm hperm;rw[length_map,hM] at h157;have hsl:s.length=M:=by rw[hps.length_eq,hM]
   have hsok:RcOk s:=fun r hr=>hok2 r (hps.mem_iff.1 hr)
   have hsk: ∀ r∈s,AOk 1000 r.1/\r.1.length<=40:=fun r hr=>(hok1 r (hps.mem_iff.1 hr)).2
   have hsw:s.Pairwise (fun a b=>cmpC a.1 b.1<=0):=by
    rw[List.pairwise_map] at hpw;refine hpw.imp (fun{a b} hab=>?_);have e:=cmpC_swap a.1 b.1;have: ¬(cmpC b.1 a.1<0):=hab;omega
   have hmer2: ∀ t u:List RC,(t++u).Perm s->POk 10000000 1024 (polyS' t)/\(polyS' t).length<=sortMax:=fun t u hp=>hmer t u (hp.trans hps)
   have hsm:=sortMax_le;have rls:=rowsR_length (s.map rn);rw[length_map,hsl] at rls;have tks:=take_rowsR (l:=s.map rn) (n:=M) (by rw[length_map];omega);have h18:((0:Int) !=0)=false:=rfl;clear hmer hok1;simp -dsimp(disch:=omega) only[g2,rules,Nat.reduceBEq];refine gl_ 0 h157 rfl rfl trivial rfl rfl rfl ?_;simp -dsimp(disch:=omega) only[append_nil,sl2,List.set_cons_zero,rules];refine wl (α:=Nat×List RC) (fun⟨i,Mg⟩=>⟨[.any,.any,.nilsl,.int .i64 0,.fv (.sl (rowsR (s.map rn))),.any,.any,.any,.any,.any,.any,.lsl 0 0 Mg.length 2,.int .i64 i]++replicate 109 .any,[.row true (rowsR (Mg.map rn))]⟩)
    (fun⟨i,_⟩=>M - i) (fun⟨i,Mg⟩=>i<=M/\MgI s Mg i/\Mg.length<=i) (0,[]) ?_ ?_ ?_
   ·refine Weak.shut [0] ?_;change Weak _ ⟨_,[Ob.row false (rowsR (s.map rn))]⟩ _;refine Weak.fz 4 0 0 M 2 (rowsR (s.map rn)) rfl rfl (by omega) ?_;refine Weak.nil 11 2 (by decide) rfl ?_;refine wk [1] (by simp) rfl ?_ ?_
    ·simp[leVs,leV,le1,tks]
    ·simp[leH,leO];simp[rowsR]
   ·exact⟨qsq _,MgI.start s,qp _⟩
   ·rintro⟨i,Mg⟩ ⟨h1,hI,hgl⟩;obtain⟨K,hK⟩:=ex1 (Mg.length);have rlm:=rowsR_length (Mg.map rn);rw[length_map,hK] at rlm;dsimp only at hgl ⊢;rw[hK] at hgl ⊢;simp -dsimp(disch:=omega) only[replicate,rls,↓reduceIte,ru];refine bd_ ?_ ?_
    ·intro g1 g2;obtain⟨⟨k,p0⟩,hx⟩: ∃ x,s[i]?=some x:=⟨_,qb (by omega)⟩;have hxm:(k,p0)∈s:=mem_of_getElem? hx;have ry:=rowsR_getD (l:=s.map rn) (i:=i) (by rw[length_map];omega);rw[show(s.map rn).getD i rr0=rn (k,p0) by rw[qa,List.getElem?_map,hx];rfl] at ry;change _=[FV.sl (rowsF k),FV.sl (rowsT (p0.map tn))] at ry;have hkc:=hsok _ hxm;have hkk:=hsk _ hxm;dsimp only at hkc hkk;simp -dsimp(disch:=omega) only[g2,ry,rls,↓reduceIte,reduceAdd,reduceLT,reduceLeDiff,ru]
     repeat refine qy (by omega) ?_
     refine wl (α:=Nat×List Tm) (fun⟨j,p⟩=>⟨[.any,.any,.nilsl,.int .i64 0,.fv (.sl (rowsR (s.map rn))),.any,.any,.any,.any,.any,.any,.lsl 0 0 K 2,.int .i64 j,.ptr 1 0 0]++replicate 108 .any,[.row true (rowsR (Mg.map rn)),.box true [.fv (.sl (rowsF k)),.fv (.sl (rowsT (p.map tn)))]]⟩)
      (fun⟨j,_⟩=>M - j) (fun⟨j,p⟩=>i<j/\j<=M/\(∀ x∈segR s i j,x.1=k)/\p=polyS' (segR s i j)) (i+1,p0) ?_ ?_ ?_
     ·refine wk [0,1] (by simp) rfl ?_ ?_
      ·simp[leVs,leV,le1]
       try omega
      ·simp[leH,leO,le1s,le1]
     ·exact⟨by omega,by omega,fun x hx2=>by rw[seg_one hx,qz] at hx2;rw[hx2],by rw[seg_one hx,poly_one hkc.2]⟩
     ·rintro⟨j,p⟩ ⟨hij,hjM,hseg,hp⟩;have rlp:=rowsT_length (p.map tn);rw[length_map] at rlp;simp -dsimp(disch:=omega) only[replicate,rules];refine dw (by kernel_rfl) ?_;simp -dsimp(disch:=omega) only[rls,↓reduceIte,ru];refine bd_ ?_ ?_
      ·intro g3 g4;obtain⟨⟨k2,p2⟩,hy⟩: ∃ x,s[j]?=some x:=⟨_,qb (by omega)⟩;have hym:(k2,p2)∈s:=mem_of_getElem? hy;have rz:=rowsR_getD (l:=s.map rn) (i:=j) (by rw[length_map];omega);rw[show(s.map rn).getD j rr0=rn (k2,p2) by rw[qa,List.getElem?_map,hy];rfl] at rz;change _=[FV.sl (rowsF k2),FV.sl (rowsT (p2.map tn))] at rz;have hk2c:=hsok _ hym;have hk2k:=hsk _ hym;dsimp only at hk2c hk2k;have h159:=jq159 k2 k (fun l hl=>(hk2k.1 l hl).mono (by decide)) (fun l hl=>(hkk.1 l hl).mono (by decide)) (by omega) (by omega);obtain⟨c,hc⟩:=ex1 (cmpC k2 k);rw[hc] at h159;simp -dsimp(disch:=omega) only[g4,rz,rls,↓reduceIte,reduceAdd,reduceLT,reduceLeDiff,ru]
       repeat refine qy (by omega) ?_
       refine gp h159 rfl ?_;by_cases hc0:c=0
       ·have e4:(c==0)=true:=by rw[hc0];rfl
        have hkeq:k2=k:=cmpC_eq hk2c.1 hkc.1 (by omega);have hsn:=seg_snoc (s:=s) (i:=i) (j:=j) (by omega) hy;have hsegok:RcOk (segR s i j):=fun x hx=>hsok x (seg_mem hx)
        have hnext:=poly_snoc hsegok (x:=(k2,p2)) hk2c.2;rw[<-hsn,<-hp] at hnext;dsimp only at hnext;have m1:=hmer2 _ _ (seg_perm (s:=s) (i:=i) (j:=j) (by omega));have m2:=hmer2 _ _ (seg_perm (s:=s) (i:=i) (j:=j+1) (by omega));have m3:=hmer2 [(k2,p2)] _ (show([(k2,p2)]++_).Perm s from by
         have:=seg_perm (s:=s) (i:=j) (j:=j+1) (by omega);rw[seg_one hy] at this;exact this)
        rw[poly_one hk2c.2] at m3;rw[<-hp] at m1;rw[<-hnext] at m2;have h97:=iq97 p p2 m1.1 m3.1 m1.2 m3.2 m2.2;obtain⟨p3,hp3⟩: ∃ q,nf (p++p2)=q:=⟨_,rfl⟩;rw[hp3] at h97 hnext;simp -dsimp(disch:=omega) only[e4,↓reduceIte,reduceAdd,ru];refine dw (by kernel_rfl) ?_;simp -dsimp(disch:=omega) only[rz,rls,↓reduceIte,reduceAdd,reduceLT,reduceLeDiff,ru]
        repeat refine qy (by omega) ?_
        refine gp h97 rfl ?_;simp -dsimp(disch:=omega) only[h18,↓reduceIte,reduceAdd,reduceLT,reduceLeDiff,ru];refine ap (j+1,p3) (by dsimp only;omega) ?_ ⟨by omega,by omega,fun x hx2=>by
         rw[hsn] at hx2;rcases List.mem_append.1 hx2 with h9 | h9
         ·exact hseg x h9
         ·rw[qz] at h9;rw[h9];exact hkeq,hnext⟩
        refine wk [0,1] (by simp) rfl ?_ ?_
        ·simp[leVs,leV,le1]
         try omega
        ·simp[leH,leO,le1s,le1]
       ·have e4:(c==0)=false:=by rw[qx];exact hc0
        have hend: ∀ y,s[j]?=some y->cmpC y.1 k≠0:=fun y hy2=>by
         rw[hy] at hy2;cases hy2;dsimp only;omega
        simp -dsimp(disch:=omega) only[e4,↓reduceIte,reduceAdd,Nat.reduceBEq,reduceLeDiff,ru];have hI2:=hI.step hsw hsok hij (by omega) hseg hend;rw[<-hp] at hI2;by_cases hp0:p=[]
        ·have e5:decide ((p.length:Int)>0)=false:=by rw[hp0];rfl
         rw[if_pos hp0] at hI2;simp -dsimp(disch:=omega) only[rlp,e5,rules];refine ap (j,Mg) (by dsimp only;omega) ?_ ⟨by omega,hI2,by show Mg.length<=j;omega⟩;refine wk [0] (by simp) rfl ?_ ?_
         ·simp[leVs,leV,le1];omega
         ·simp[leH,leO]
        ·have hpl:0<p.length:=length_pos_iff.2 hp0;have e5:decide ((p.length:Int)>0)=true:=qbb (by omega);rw[if_neg hp0] at hI2;have hap:rowsR (Mg.map rn)++[[FV.sl (rowsF k),FV.sl (rowsT (p.map tn))]]=rowsR ((Mg++[(k,p)]).map rn):=by
          rw[qwb];exact rowsR_snoc _ (rn (k,p))
         have tk:=take_rowsR (l:=Mg.map rn) (n:=K) (by rw[length_map];omega);simp -dsimp(disch:=omega) only[rlp,e5,tk,hap,rlm,↓reduceIte,reduceAdd,reduceMul,Nat.reduceBEq,reduceLT,reduceLeDiff,ru]
         repeat refine qy (by omega) ?_
         refine ap (j,Mg++[(k,p)]) (by dsimp only;omega) ?_ ⟨by omega,hI2,by rw[qe,qab];omega⟩;refine wk [3] (by simp) rfl ?_ ?_
         ·simp[leVs,leV,le1];omega
         ·simp[leH,leO]
      ·intro g3 g4;have hend: ∀ y,s[j]?=some y->cmpC y.1 k≠0:=fun y hy2=>by
        rw[List.getElem?_eq_none (by omega)] at hy2;cases hy2
       have hI2:=hI.step hsw hsok hij (by omega) hseg hend;rw[<-hp] at hI2;by_cases hp0:p=[]
       ·have e5:decide ((p.length:Int)>0)=false:=by rw[hp0];rfl
        rw[if_pos hp0] at hI2;simp -dsimp(disch:=omega) only[g4,rlp,e5,↓reduceIte,reduceAdd,Nat.reduceBEq,reduceLeDiff,ru];refine ap (j,Mg) (by dsimp only;omega) ?_ ⟨by omega,hI2,by show Mg.length<=j;omega⟩;refine wk [0] (by simp) rfl ?_ ?_
        ·simp[leVs,leV,le1];omega
        ·simp[leH,leO]
       ·have hpl:0<p.length:=length_pos_iff.2 hp0;have e5:decide ((p.length:Int)>0)=true:=qbb (by omega);rw[if_neg hp0] at hI2;have hap:rowsR (Mg.map rn)++[[FV.sl (rowsF k),FV.sl (rowsT (p.map tn))]]=rowsR ((Mg++[(k,p)]).map rn):=by
         rw[qwb];exact rowsR_snoc _ (rn (k,p))
        have tk:=take_rowsR (l:=Mg.map rn) (n:=K) (by rw[length_map];omega);simp -dsimp(disch:=omega) only[g4,rlp,e5,tk,hap,rlm,↓reduceIte,reduceAdd,reduceMul,Nat.reduceBEq,reduceLT,reduceLeDiff,ru]
        repeat refine qy (by omega) ?_
        refine ap (j,Mg++[(k,p)]) (by dsimp only;omega) ?_ ⟨by omega,hI2,by rw[qe,qab];omega⟩;refine wk [3] (by simp) rfl ?_ ?_
        ·simp[leVs,leV,le1];omega
        ·simp[leH,leO]
    ·intro g1 g2;have hin:i=s.length:=by omega
     rw[hin] at hI;have hfin:=hI.done hps hok2;rw[<-hfin] at hR;subst hR;have e6:decide ((K:Int)>4000)=false:=qcb (by omega);have tk:=take_rowsR (l:=Mg.map rn) (n:=K) (by rw[length_map];omega);simp -dsimp(disch:=omega) only[g2,e6,↓reduceIte,Nat.reduceBEq,ru];refine rpq (vs:=[.lsl 0 0 K 2,.int .i64 0]) rfl ⟨tvq,tvq,tvq⟩ (show fzX [Ob.row true (rowsR (Mg.map rn))] [] (.tup [.lsl 0 0 K 2,.int .i64 0])=_ from ?_);simp(disch:=omega) only[tk,rlm,List.drop_zero,Nat.zero_add,qp,↓reduceIte,List.idxOf?_nil,fzX,fzV,fzVs,fzC,fz1,fz0,Option.map_some,List.getElem?_cons_zero]
theorem chk_one {L:List RR} (h:chkV [L]=0):L.any largeC=false/\L.length<=4000/\ ∀ r∈L,validB r.2=true:=by
 unfold chkV at h;have h1:largeB L=false:=by
  cases hb:largeB L with
  | false=>rfl
  | true=>rw[if_pos (by simp[hb])] at h;omega
 rw[if_neg (by simp[h1])] at h;have h2:validR L=true:=by
  cases hv:validR L with
  | true=>rfl
  | false=>rw[if_neg (by simp[hv])] at h;omega
 unfold largeB at h1;rw[Bool.or_eq_false_iff] at h1;exact⟨h1.2,by simpa using h1.1,fun r hr=>List.all_eq_true.1 h2 r hr⟩
noncomputable def norV (L:List RR):PV:=if chkV [L]=0 then .tup [RL' ((ordR (normL L)).map rn),.int .i64 0] else .tup [.fv (.sl []),.int .i64 (chkV [L])]
theorem jq90 (L:List RR) (hlen:L.length<=1000000) (hp: ∀ r∈L,PgOk r.2) (hc: ∀ r∈L,r.1.length<=1000000) (h:chkV [L]=0->NrOk L):
 Den Tryz.prog 90 [] [RL' L] [] (norV L):=by
 have h105:=jq105 [L] (by simp) (fun l hl=>by rw[qz] at hl;rw[hl];exact hlen) (fun l hl=>by rw[qz] at hl;rw[hl];exact hp) (fun l hl=>by rw[qz] at hl;rw[hl];exact hc)
 unfold norV
 have e:rowsRL [L]=[[FV.sl (rowsR L)]]:=rfl
 rw[e] at h105
 by_cases h0:chkV [L]=0
 ·have h107:=jq107 L (h h0)
  unfold nrmV at h107
  rw[if_neg (by rw[(chk_one h0).1];decide)] at h107
  rw[if_pos h0]
  rw[h0] at h105
  have e1:((0:Int) !=0)=false:=rfl
  refine den_of tabOk mixed Tryz.func90 (cd:=_) rfl (by decide) rfl (n:=14) rfl rfl (m:=0) rfl ?_
  simp -dsimp(disch:=omega) only[replicate,↓reduceIte,reduceMul,reduceLT,reduceLeDiff,ru]
  refine gp h105 rfl ?_
  simp -dsimp(disch:=omega) only[e1,↓reduceIte,ru]
  refine gp h107 rfl ?_
  simp -dsimp(disch:=omega) only[ru]
  exact rpq rfl ⟨tvq,tvq,tvq⟩ rfl
 ·rw[if_neg h0]
  obtain⟨c,hcc⟩:=ex1 (chkV [L])
  rw[hcc] at h105 h0 ⊢
  have e1:(c !=0)=true:=by simpa using h0
  refine den_of tabOk mixed Tryz.func90 (cd:=_) rfl (by decide) rfl (n:=14) rfl rfl (m:=0) rfl ?_
  simp -dsimp(disch:=omega) only[replicate,↓reduceIte,reduceMul,reduceLT,reduceLeDiff,ru]
  refine gp h105 rfl ?_
  simp -dsimp(disch:=omega) only[e1,↓reduceIte,ru]
  exact rpq rfl ⟨tvq,tvq,tvq⟩ rfl
def minL (a b:List Raw):List Rat:=addL a ((b.map (fun r=>r.q*(-1))).map cn)
theorem iq146 (a b:List Raw) (ha:LOk 1000000 a) (hb:LOk 1000000 b):Den Tryz.prog 146 [] [RL a,RL b] [] (FL (minL a b)):=by
 have h47:=den47 (-1) (by omega);change Den Tryz.prog 74 [] [.int .i64 (-1)] [] (.agg (cn (-1)).c) at h47;have hc:Raw.Ok 1 (cn (-1)):=cn_ok bd_neg1;have h23:=den23 b (cn (-1)) (hb.mono (by decide)) (hc.mono (by decide));rw[cn_q] at h23;have hs:LOk 1000001 ((b.map (fun r=>r.q*(-1))).map cn):=LOk.map hb.len (fun r hr=>by
  have:=hb.bd (by decide) r hr;exact Bd.mul (j:=1000000) (k:=1) this bd_neg1 (by decide))
 have h21:=den21 a ((b.map (fun r=>r.q*(-1))).map cn) (ha.mono (by decide)) (hs.mono (by decide));have hrl:(minL a b).length=9:=addL_length ha.len hs.len;change Den Tryz.prog 162 [] _ [] (FL (minL a b)) at h21;have hnl:((minL a b).map cn).length=9:=by rw[length_map];exact hrl
 unfold FL at h21 h23 ⊢;obtain⟨R,hR⟩:=ex1 ((minL a b).map cn);rw[hR] at h21 hnl ⊢;obtain⟨S,hS⟩:=ex1 ((b.map (fun r=>r.q*(-1))).map cn);rw[hS] at h21 h23 hs;obtain⟨c,hcc⟩:=ex1 (cn (-1));rw[hcc] at h47 h23;have al:=ha.len;have bl:=hb.len;have sl:=hs.len;have a27:=flat_take27 al;have b27:=flat_take27 bl;have s27:=flat_take27 sl;have r27:=flat_take27 hnl;have ga:=flat_length a;have gb:=flat_length b;have gs:=flat_length S;have gr:=flat_length R;change Den Tryz.prog 135 [] [RL b,.agg c.c] [] _ at h23;unfold RL at h23 h21 ⊢;refine den_of tabOk mixed Tryz.func146 (cd:=_) rfl (by decide) rfl (n:=8) rfl rfl (m:=0) rfl ?_;simp -dsimp(disch:=omega) only[replicate,ga,gb,al,bl,reduceAdd,reduceMul,reduceLT,ru]
 repeat refine qy (by omega) ?_
 refine dw (by kernel_rfl) ?_;simp -dsimp(disch:=omega) only[ga,gb,al,bl,a27,b27,↓reduceIte,reduceMul,reduceLeDiff,ru]
 repeat refine qy (by omega) ?_
 refine gp h47 rfl ?_;simp -dsimp(disch:=omega) only[append_nil,c_reloc,rules,reduceAdd];refine gp h23 (by simp[fzAs,fzA,fzs_c,f_fv,flat_fz,flatF_fv]) ?_;simp -dsimp(disch:=omega) only[flat_ids,flat_reloc,append_nil,ids_c,rules,reduceAdd]
 repeat refine qy (by omega) ?_
 refine gp h21 (by simp[fzAs,fzA,flat_fz,flatF_fv]) ?_;simp -dsimp(disch:=omega) only[gr,hnl,reduceAdd,reduceMul,reduceLT,reduceLeDiff,ru,zu]
 repeat refine qy (by omega) ?_
 exact RetOK.form rfl rfl hnl
theorem polyT_mem {rs:List Raw} {t:Tm} (h:t∈polyT rs):t.1.length=8/\ ∀ e∈t.1,0<=e/\e<=1024:=by
 obtain⟨u,hu,he⟩:=nf_keys h;obtain⟨w,hw,rfl⟩:=mem_map.1 hu;rw[<-he];show w.1.length=8/\ ∀ e∈w.1,0<=e/\e<=1024;have hv:=polyR_valid rs;unfold validB at hv;rw[qob] at hv;have h1:=hv w hw;unfold validM at h1;rw[qob] at h1;refine⟨?_,fun e he2=>by simpa using h1 e he2⟩;unfold polyR at hw;rcases List.mem_append.1 hw with hw | hw
 ·obtain⟨j,_,rfl⟩:=mem_map.1 hw;simp[z8]
 ·rw[qz] at hw;rw[hw];rfl
theorem polyT_bd {rs:List Raw} {k:Nat} (h:LOk k rs) (hk:1<=k):PB (9*(k+1)+1) (polyT rs):=by
 have:=(PB.list hk (ts:=(polyR rs).map tq) (fun t ht=>by
  obtain⟨u,hu,rfl⟩:=mem_map.1 ht;exact(polyR_ok h u hu).raw.bd hk)).nf
 rw[length_map,polyR_length] at this;exact this
theorem polyT_len (rs:List Raw):(polyT rs).length<=9:=by
 have:=nf_len ((polyR rs).map tq);rw[length_map,polyR_length] at this;exact this
def betT (v:Nat) (lo hi:List Raw) (p:List Tm):List Tm:=nf (substT v (polyT hi) (primL v p)++scaleT (substT v (polyT lo) (primL v p)) (-1))
theorem iq33 (ts:List RT) (v:Nat) (hv:v<8) (lo hi:List Raw) (h8:TsOk 500000 ts) (hn:ts.length<=20) (hp:POk 900000 1024 (nfR ts)) (hs:(nfR ts).length<=sortMax) (hvB:validB ts=true) (hlB:lowB v (nfR ts)=true)
 (hlo:LOk 1000 lo) (hhi:LOk 1000 hi) (hl0:(lo.getD v rz).q=0) (hh0:(hi.getD v rz).q=0)
 (ok1:SubOk (polyT hi) (partsT v (primL v (nfR ts)))) (ok2:SubOk (polyT lo) (partsT v (primL v (nfR ts)))) (hr:(betT v lo hi (nfR ts)).length<=sortMax) (ht:topT (betT v lo hi (nfR ts))<=1024) (hb:LOkT 1000000000 1000000 (betT v lo hi (nfR ts))):
 Den Tryz.prog 33 [] [PL ts,.int .i64 v,RL lo,RL hi] [] (.tup [PL ((betT v lo hi (nfR ts)).map tn),.int .i64 0]):=by
 have hm:=sortMax_le
 have h27:=iq27 ts (v:Int) (by omega) h8 hn hs
 unfold antV at h27
 rw[if_neg (by rw[hvB];decide),if_neg (by omega),Int.toNat_natCast,if_pos hlB] at h27
 have hpr:=hp.prim (v:=v) (by decide) (by decide) hv
 have hpl:(primL v (nfR ts)).length<=sortMax:=by rw[prim_len];exact hs
 have hP1:=polyT_bd hhi (by decide)
 have hP2:=polyT_bd hlo (by decide)
 have hq1:LOkT 1000000 100000 (polyT hi):=⟨fun t ht=>(polyT_mem ht).1,fun t ht=>(hP1.bd (by decide) t ht).mono (by decide),fun t ht e he=>by have:=(polyT_mem ht).2 e he;omega⟩
 have hq2:LOkT 1000000 100000 (polyT lo):=⟨fun t ht=>(polyT_mem ht).1,fun t ht=>(hP2.bd (by decide) t ht).mono (by decide),fun t ht e he=>by have:=(polyT_mem ht).2 e he;omega⟩
 have l1:=polyT_len hi
 have l2:=polyT_len lo
 have a1:=iq86 (primL v (nfR ts)) (polyT hi) v hv (hpr.mono (by decide) (by decide)) hq1 (by omega) hpl (by unfold sortMax;omega) ok1
 have a2:=iq86 (primL v (nfR ts)) (polyT lo) v hv (hpr.mono (by decide) (by decide)) hq2 (by omega) hpl (by unfold sortMax;omega) ok2
 have s1:=iq18 hi (hhi.mono (by decide))
 have s2:=iq18 lo (hlo.mono (by decide))
 obtain⟨u1,u2⟩:=ok1.out 0
 obtain⟨w1,w2⟩:=ok2.out 0
 rw[List.drop_zero] at u1 u2 w1 w2
 change LOkT _ _ (substT v (polyT hi) (primL v (nfR ts))) at u1
 change (substT v (polyT hi) (primL v (nfR ts))).length<=_ at u2
 change LOkT _ _ (substT v (polyT lo) (primL v (nfR ts))) at w1
 change (substT v (polyT lo) (primL v (nfR ts))).length<=_ at w2
 have c1:POk 1000000 100000 (substT v (polyT hi) (primL v (nfR ts))):=⟨substT_canon hpr.canon hq1.len,u1.bd,u1.exp⟩
 have c2:POk 1000000 100000 (substT v (polyT lo) (primL v (nfR ts))):=⟨substT_canon hpr.canon hq2.len,w1.bd,w1.exp⟩
 have h85:=iq85 _ _ (c1.mono (by decide) (by decide)) (c2.mono (by decide) (by decide)) (by omega) (by omega) w2 hr
 change Den Tryz.prog 85 [] _ [] (PL ((betT v lo hi (nfR ts)).map tn)) at h85
 have h87:=iq87 (betT v lo hi (nfR ts)) hb.len (fun t ht x hx=>by have:=hb.exp t ht x hx;omega) (by omega)
 have z1:=den36 (lo.getD v rz) ((hlo.at v).mono (by decide))
 have z2:=den36 (hi.getD v rz) ((hhi.at v).mono (by decide))
 rw[hl0] at z1
 rw[hh0] at z2
 change Den Tryz.prog 84 [] [.agg (lo.getD v rz).c] [] (.int .i64 0) at z1
 change Den Tryz.prog 84 [] [.agg (hi.getD v rz).c] [] (.int .i64 0) at z2
 have k1:=hlo.len
 have k2:=hhi.len
 have f1:List.take 3 (List.drop (v*3) (flat lo))=(lo.getD v rz).c:=flat_at (by omega)
 have f2:List.take 3 (List.drop (v*3) (flat hi))=(hi.getD v rz).c:=flat_at (by omega)
 obtain⟨ra,hra⟩: ∃ r,lo.getD v rz=r:=⟨_,rfl⟩
 obtain⟨rb,hrb⟩: ∃ r,hi.getD v rz=r:=⟨_,rfl⟩
 rw[hra] at z1 f1
 rw[hrb] at z2 f2
 have g1:=flat_length lo
 have g2:=flat_length hi
 have t1:=flat_take27 k1
 have t2:=flat_take27 k2
 obtain⟨A,hA⟩:=ex1 ((primL v (nfR ts)).map tn)
 obtain⟨P1,hP1'⟩: ∃ A,(polyT hi).map tn=A:=⟨_,rfl⟩
 obtain⟨P2,hP2'⟩: ∃ A,(polyT lo).map tn=A:=⟨_,rfl⟩
 obtain⟨B1,hB1⟩: ∃ A,(substT v (polyT hi) (primL v (nfR ts))).map tn=A:=⟨_,rfl⟩
 obtain⟨B2,hB2⟩: ∃ A,(substT v (polyT lo) (primL v (nfR ts))).map tn=A:=⟨_,rfl⟩
 obtain⟨C,hC⟩: ∃ A,(betT v lo hi (nfR ts)).map tn=A:=⟨_,rfl⟩
 rw[hA] at h27 a1 a2
 rw[hP1'] at a1 s1
 rw[hP2'] at a2 s2
 rw[hB1] at a1 h85
 rw[hB2] at a2 h85
 rw[hC] at h85 h87 ⊢
 obtain⟨x,hx⟩:=ex1 (topT (betT v lo hi (nfR ts)))
 rw[hx] at h87 ht
 have e1:decide (x>1024)=false:=qcb (by omega)
 have h00:((0:Int) !=0)=false:=rfl
 unfold RL at s1 s2 ⊢
 refine den_of tabOk mixed Tryz.func33 (cd:=_) rfl (by decide) rfl (n:=47) rfl rfl (m:=0) rfl ?_
 simp -dsimp(disch:=omega) only[replicate,g1,g2,k1,k2,reduceMul,reduceLT,ru]
 repeat refine qy (by omega) ?_
 refine gp h27 rfl ?_
 simp -dsimp(disch:=omega) only[append_nil,h00,g1,k1,f1,↓reduceIte,reduceAdd,reduceMul,reduceLT,reduceLeDiff,ru]
 repeat refine qy (by omega) ?_
 refine gp z1 (by simp[fzAs,fzA,fzs_c,f_fv]) ?_
 simp -dsimp(disch:=omega) only[append_nil,h00,ids_c,g2,k2,f2,↓reduceIte,reduceAdd,reduceMul,reduceLT,reduceLeDiff,ru]
 repeat refine qy (by omega) ?_
 refine gp z2 (by simp[fzAs,fzA,fzs_c,f_fv]) ?_
 simp -dsimp(disch:=omega) only[append_nil,h00,ids_c,↓reduceIte,reduceAdd,ru]
 repeat refine qy (by omega) ?_
 refine dw (by kernel_rfl) ?_
 simp -dsimp(disch:=omega) only[g2,k2,t2,↓reduceIte,reduceMul,reduceLeDiff,ru]
 repeat refine qy (by omega) ?_
 refine gp s1 (by simp[fzAs,fzA,flat_fz,flatF_fv]) ?_
 simp -dsimp(disch:=omega) only[flat_ids,append_nil,rules,reduceAdd]
 refine gp a1 rfl ?_
 simp -dsimp(disch:=omega) only[append_nil,g1,k1,t1,↓reduceIte,reduceAdd,reduceMul,reduceLeDiff,ru]
 repeat refine qy (by omega) ?_
 refine gp s2 (by simp[fzAs,fzA,flat_fz,flatF_fv]) ?_
 simp -dsimp(disch:=omega) only[flat_ids,append_nil,rules,reduceAdd]
 refine gp a2 rfl ?_
 simp -dsimp(disch:=omega) only[append_nil,rules,reduceAdd]
 refine gp h85 rfl ?_
 simp -dsimp(disch:=omega) only[append_nil,rules,reduceAdd]
 refine gp h87 rfl ?_
 simp -dsimp(disch:=omega) only[append_nil,e1,↓reduceIte,reduceAdd,ru]
 refine rpq rfl ⟨tvq,tvq,tvq⟩ rfl
set_option maxHeartbeats 8000000
theorem jq146 (a b:List Raw) (ha:LOk 1000000 a) (hb:LOk 1000000 b):Den Tryz.prog 146 [] [RL a,RL b] [] (RL (comb a b)):=iq146 a b ha hb
def othL (f:List Raw->List Raw) (l:List (List Raw)) (i n:Nat):List (List Raw):=((List.range n).filter (fun k=>decide (k≠i))).map (fun k=>f (l.getD k []))
theorem oth_zero (f:List Raw->List Raw) (l:List (List Raw)) (i:Nat):othL f l i 0=[]:=rfl
theorem oth_eq (f:List Raw->List Raw) (l:List (List Raw)) (i:Nat):othL f l i (i+1)=othL f l i i:=by
 unfold othL;rw[range_succ,filter_append];simp
theorem oth_ne (f:List Raw->List Raw) (l:List (List Raw)) {i k:Nat} (h:k≠i):othL f l i (k+1)=othL f l i k++[f (l.getD k [])]:=by
 unfold othL;rw[range_succ,filter_append];simp[h]
theorem oth_len (f:List Raw->List Raw) (l:List (List Raw)) (i n:Nat):(othL f l i n).length<=n:=by
 unfold othL;rw[length_map];exact qnb (List.length_filter_le _ _) (by rw[List.length_range];exact qp _)
def skipB (u l:List Raw):Bool:=constB (comb u l)&&decide (sgq (co (comb u l) 8)<=0)
def consP (rest lo hi:List (List Raw)) (i j:Nat):List (List Raw):=
 rest++[comb (hi.getD j []) (lo.getD i [])]++othL (comb (lo.getD i [])) lo i lo.length++othL (fun o=>comb o (hi.getD j [])) hi j hi.length
def slabJ (rest lo hi:List (List Raw)) (p:List Tm) (v i n:Nat):List RC:=
 (List.range n).flatMap fun j=>if skipB (hi.getD j []) (lo.getD i []) then [] else [(consP rest lo hi i j,betT v (lo.getD i []) (hi.getD j []) p)]
def slabI (rest lo hi:List (List Raw)) (p:List Tm) (v n:Nat):List RC:=(List.range n).flatMap fun i=>slabJ rest lo hi p v i hi.length
def slabL (c:Kc) (p:List Tm) (v:Nat):List RC:=slabI (restL c v) (lowL c v) (highL c v) p v (lowL c v).length
theorem slabJ_succ {rest lo hi:List (List Raw)} {p:List Tm} {v i n:Nat}:slabJ rest lo hi p v i (n+1)=slabJ rest lo hi p v i n++(if skipB (hi.getD n []) (lo.getD i []) then [] else [(consP rest lo hi i n,betT v (lo.getD i []) (hi.getD n []) p)]):=by
 unfold slabJ;rw[range_succ,flatMap_append,List.flatMap_singleton]
theorem slabI_succ {rest lo hi:List (List Raw)} {p:List Tm} {v n:Nat}:slabI rest lo hi p v (n+1)=slabI rest lo hi p v n++slabJ rest lo hi p v n hi.length:=by
 unfold slabI;rw[range_succ,flatMap_append,List.flatMap_singleton]
theorem slabJ_len (rest lo hi:List (List Raw)) (p:List Tm) (v i:Nat): ∀ n,(slabJ rest lo hi p v i n).length<=n
 | 0=>by simp[slabJ]
 | n+1=>by
  have:=slabJ_len rest lo hi p v i n;rw[slabJ_succ,qe];split<;>simp<;>omega
theorem slabI_len (rest lo hi:List (List Raw)) (p:List Tm) (v:Nat): ∀ n,(slabI rest lo hi p v n).length<=n*hi.length
 | 0=>by simp[slabI]
 | n+1=>by
  have h1:=slabI_len rest lo hi p v n;have h2:=slabJ_len rest lo hi p v n hi.length;rw[slabI_succ,qe,Nat.add_mul];omega
structure SlabOk (c:Kc) (p:List Tm) (v:Nat):Prop where
 hv:v<8
 ok: ∀ l∈c,LOk 499 l
 len:c.length<=40
 bet: ∀ l∈lowL c v,∀ u∈highL c v,skipB u l=false->Den Tryz.prog 33 [] [PL (p.map tn),.int .i64 v,RL l,RL u] [] (.tup [PL ((betT v l u p).map tn),.int .i64 0])
def slabV (c:Kc) (p:List Tm) (v:Nat):PV:=if lowL c v=[]\/highL c v=[] then .tup [.fv (.sl []),.int .i64 15] else .tup [RL' ((slabL c p v).map rn),.int .i64 0]
theorem jq91 (c:Kc) (p:List Tm) (v:Nat) (h:SlabOk c p v):Den Tryz.prog 91 [] [.agg (rgC (rn (c,p))),.int .i64 v] [] (slabV c p v):=by
 have hv:=h.hv;have hlim: ∀ l∈c,LOk 1000 l:=fun l hl=>(h.ok l hl).mono (by decide)
 have hlow: ∀ b∈lowL c v,LOk 999 b:=low_ok h.ok (by decide);have hhigh: ∀ b∈highL c v,LOk 999 b:=high_ok h.ok (by decide);have hsplit:=split_length c v;have hc40:=h.len;obtain⟨n,hnn⟩:=ex1 (c.length);have rl:=rowsF_length c;rw[hnn] at rl hc40 hsplit;obtain⟨R,hR⟩:=ex1 (slabV c p v);rw[hR];have hbet:=h.bet;unfold slabV slabL at hR;obtain⟨Pt,hPt⟩: ∃ P,p.map tn=P:=⟨_,rfl⟩;rw[hPt] at hbet;have erg:rgC (rn (c,p))=[.fv (.sl (rowsF c)),.fv (.sl (rowsT Pt))]:=by rw[<-hPt];rfl
 rw[erg];clear erg;refine den_of tabOk mixed Tryz.func91 (cd:=_) rfl (by decide) rfl (n:=159) rfl rfl (m:=0) rfl ?_;simp -dsimp(disch:=omega) only[replicate,rl,↓reduceIte,reduceAdd,reduceLT,reduceLeDiff,ru];refine wl (α:=Nat×List (List Raw)×List (List Raw)×List (List Raw)) (fun⟨i,lo,hi,out⟩=>⟨[.any,.int .i64 v,.ptr 0 0 0,.any,.nilsl,.int .i64 0,.lsl 1 0 lo.length 27,.lsl 2 0 hi.length 27,.lsl 3 0 out.length 27]++replicate 17 .any++[.fv (.sl (rowsF c)),.int .i64 n,.int .i64 i]++replicate 132 .any,[.box true [.fv (.sl (rowsF c)),.fv (.sl (rowsT Pt))],.row true (rowsF lo),.row true (rowsF hi),.row true (rowsF out)]⟩)
  (fun⟨i,_⟩=>n - i) (fun⟨i,lo,hi,out⟩=>i<=n/\lo=lowL (c.take i) v/\hi=highL (c.take i) v/\out=restL (c.take i) v) (0,[],[],[]) ?_ ?_ ?_
 ·refine Weak.nil 6 27 (by decide) rfl ?_;refine Weak.nil 7 27 (by decide) rfl ?_;refine Weak.nil 8 27 (by decide) rfl ?_;refine wk [0,1,2,3] (by simp) rfl ?_ ?_
  ·simp[leVs,leV,le1]
  ·simp[leH,leO,le1s,le1];simp[rowsF]
 ·exact⟨qsq _,rfl,rfl,rfl⟩
 ·rintro⟨i,lo,hi,out⟩ ⟨hi1,hlo,hhi,hout⟩;have hsz:=split_length (c.take i) v;rw[<-hlo,<-hhi,<-hout,length_take,hnn] at hsz;obtain⟨L1,hL1⟩: ∃ L,lo.length=L:=⟨_,rfl⟩;obtain⟨L2,hL2⟩: ∃ L,hi.length=L:=⟨_,rfl⟩;obtain⟨L3,hL3⟩: ∃ L,out.length=L:=⟨_,rfl⟩;have rl1:=rowsF_length lo;have rl2:=rowsF_length hi;have rl3:=rowsF_length out;dsimp only;rw[hL1] at hsz rl1 ⊢;rw[hL2] at hsz rl2 ⊢;rw[hL3] at hsz rl3 ⊢;have tk1:=take_rows (ls:=lo) (n:=L1) (by omega);have tk2:=take_rows (ls:=hi) (n:=L2) (by omega);have tk3:=take_rows (ls:=out) (n:=L3) (by omega);simp -dsimp(disch:=omega) only[replicate,↓reduceIte,ru];refine bd_ ?_ ?_
  ·intro h1 h2;have hsn:=take_snoc (cs:=c) (i:=i) (by omega);have hmem:=at_mem (ls:=c) (i:=i) (by omega);have r1:=rowsF_getD c i;obtain⟨x,hxx⟩:=ex1 (c.getD i []);rw[hxx] at hmem r1 hsn;have hx:=hlim x hmem;have lx:=hx.len;have x27:=flatF_take27 lx;have fx:=flatF_length x;have gx:=flat_length x;have gx27:=flat_take27 lx;have e0:((0:Int) !=0)=false:=rfl;by_cases h0:co x v=0
   ·have h16:=den16n x v hx hv h0;have hls:=lowL_not (s:=c.take i) (v:=v) (x:=x) (by grind);have hhs:=highL_not (s:=c.take i) (v:=v) (x:=x) (by grind);have hrs:=restL_zero (s:=c.take i) h0;have hap:=rows_snoc out x;unfold FL RL at h16;obtain⟨zs,hzz⟩:=ex1 ((x.map Raw.q).map cn);have hzl:zs.length=9:=by rw[<-hzz];simp[lx]
    have gz:=flat_length zs;rw[hzz] at h16;have e1:decide ((0:Int)>0)=false:=rfl;have e2:decide ((0:Int)<0)=false:=rfl;simp -dsimp(disch:=omega) only[append_nil,h2,r1,x27,flatF_fv,fx,gx,lx,gx27,↓reduceIte,reduceAdd,reduceMul,reduceLT,reduceLeDiff,ru]
    repeat refine qy (by omega) ?_
    refine gp h16 (by simp[fzAs,fzA,flat_fz,flatF_fv,fz1,fz0]) ?_;simp -dsimp(disch:=omega) only[gz,hzl,e0,e1,gx,lx,gx27,x27,tk3,hap,rl3,↓reduceIte,reduceAdd,reduceMul,Nat.reduceBEq,reduceLT,reduceLeDiff,ru,zu]
    repeat refine qy (by omega) ?_
    refine ap (i+1,lo,hi,out++[x]) (by dsimp only;omega) ?_ ⟨by omega,by rw[hsn,hls,hlo],by rw[hsn,hhs,hhi],by rw[hsn,hrs,hout]⟩;refine wk [0,1,2,7] (by simp) rfl ?_ ?_
    ·simp[leVs,leV,le1];omega
    ·simp[leH,leO,le1s,le1]
   ·have h16:=den16 x v hx hv h0;have hsl:(solR v x).length=9:=solR_len lx;have hrs:=restL_not (s:=c.take i) h0;unfold FL RL at h16;change Den Tryz.prog 72 [] [.agg (flat x),.int .i64 v] [] (.tup [.agg (flat (solR v x)),.int .i64 (sgq (x.getD v rz).q),.int .i64 0]) at h16;by_cases hp:0<co x v
    ·have hls:=lowL_pos (s:=c.take i) hp;have hhs:=highL_not (s:=c.take i) (v:=v) (x:=x) (by grind);have hap:=rows_snoc lo (solR v x);obtain⟨y,hy⟩:=ex1 (solR v x);rw[hy] at h16 hsl hls hap;have gy:=flat_length y;have y27:=flatF_take27 hsl;have gy27:=flat_take27 hsl;rw[show sgq (x.getD v rz).q=1 from sgq_of_pos hp] at h16;have e1:decide ((1:Int)>0)=true:=rfl;simp -dsimp(disch:=omega) only[append_nil,h2,r1,x27,flatF_fv,fx,gx,lx,gx27,↓reduceIte,reduceAdd,reduceMul,reduceLT,reduceLeDiff,ru]
     repeat refine qy (by omega) ?_
     refine gp h16 (by simp[fzAs,fzA,flat_fz,flatF_fv,fz1,fz0]) ?_;simp -dsimp(disch:=omega) only[gy,hsl,e0,e1,gy27,y27,tk1,hap,rl1,↓reduceIte,reduceAdd,reduceMul,Nat.reduceBEq,reduceLT,reduceLeDiff,ru,zu]
     repeat refine qy (by omega) ?_
     refine ap (i+1,lo++[y],hi,out) (by dsimp only;omega) ?_ ⟨by omega,by rw[hsn,hls,hlo],by rw[hsn,hhs,hhi],by rw[hsn,hrs,hout]⟩;refine wk [0,7,2,3] (by simp) rfl ?_ ?_
     ·simp[leVs,leV,le1];omega
     ·simp[leH,leO,le1s,le1]
    ·have hneg:co x v<0:=by grind
     have hls:=lowL_not (s:=c.take i) (v:=v) (x:=x) hp;have hhs:=highL_neg (s:=c.take i) hneg;have hap:=rows_snoc hi (solR v x);obtain⟨y,hy⟩:=ex1 (solR v x);rw[hy] at h16 hsl hhs hap;have gy:=flat_length y;have y27:=flatF_take27 hsl;have gy27:=flat_take27 hsl;rw[show sgq (x.getD v rz).q= -1 from sgq_of_neg hneg] at h16;have e1:decide ((-1:Int)>0)=false:=rfl;have e2:decide ((-1:Int)<0)=true:=rfl;simp -dsimp(disch:=omega) only[append_nil,h2,r1,x27,flatF_fv,fx,gx,lx,gx27,↓reduceIte,reduceAdd,reduceMul,reduceLT,reduceLeDiff,ru]
     repeat refine qy (by omega) ?_
     refine gp h16 (by simp[fzAs,fzA,flat_fz,flatF_fv,fz1,fz0]) ?_;simp -dsimp(disch:=omega) only[gy,hsl,e0,e1,e2,gy27,y27,tk2,hap,rl2,↓reduceIte,reduceAdd,reduceMul,Nat.reduceBEq,reduceLT,reduceLeDiff,ru,zu]
     repeat refine qy (by omega) ?_
     refine ap (i+1,lo,hi++[y],out) (by dsimp only;omega) ?_ ⟨by omega,by rw[hsn,hls,hlo],by rw[hsn,hhs,hhi],by rw[hsn,hrs,hout]⟩;refine wk [0,1,7,3] (by simp) rfl ?_ ?_
     ·simp[leVs,leV,le1];omega
     ·simp[leH,leO,le1s,le1]
  ·intro h1 h2;have hin:i=n:=by omega
   have htk:c.take i=c:=qdq (by omega);rw[htk] at hlo hhi hout;rw[<-hlo] at hlow hbet hR;rw[<-hhi] at hhigh hbet hR;rw[<-hout] at hR;have hres: ∀ l∈out,LOk 1000 l:=fun l hl=>by rw[hout] at hl;exact hlim l (mem_rest.1 hl).1
   clear hlo hhi hout htk hlim;by_cases hz1:L1=0
   ·have e1:((L1:Int)==0)=true:=by rw[hz1];rfl
    rw[if_pos (.inl (List.length_eq_zero_iff.1 (by omega)))] at hR;subst hR;simp -dsimp(disch:=omega) only[h2,e1,↓reduceIte,Nat.reduceBEq,ru];exact rpq rfl ⟨tvq,tvq,tvq⟩ rfl
   have e1:((L1:Int)==0)=false:=by rw[qx];omega
   by_cases hz2:L2=0
   ·have e2:((L2:Int)==0)=true:=by rw[hz2];rfl
    rw[if_pos (.inr (List.length_eq_zero_iff.1 (by omega)))] at hR;subst hR;simp -dsimp(disch:=omega) only[h2,e1,e2,↓reduceIte,Nat.reduceBEq,ru];exact rpq rfl ⟨tvq,tvq,tvq⟩ rfl
   have e2:((L2:Int)==0)=false:=by rw[qx];omega
   rw[if_neg (fun hh=>by
    rcases hh with hh | hh
    ·rw[hh] at hL1;simp at hL1;omega
    ·rw[hh] at hL2;simp at hL2;omega)] at hR
   simp -dsimp(disch:=omega) only[h2,e1,e2,↓reduceIte,Nat.reduceBEq,ru];refine wl (α:=Nat×List RC) (fun⟨i,o2⟩=>⟨[.any,.int .i64 v,.ptr 0 0 0,.any,.nilsl,.int .i64 0,.fv (.sl (rowsF lo)),.fv (.sl (rowsF hi)),.fv (.sl (rowsF out))]++replicate 5 .any++[.lsl 1 0 o2.length 2]++replicate 54 .any++[.fv (.sl (rowsF lo)),.int .i64 L1,.int .i64 i]++replicate 89 .any,[.box true [.fv (.sl (rowsF c)),.fv (.sl (rowsT Pt))],.row true (rowsR (o2.map rn))]⟩)
    (fun⟨i,_⟩=>L1 - i) (fun⟨i,o2⟩=>i<=L1/\o2=slabI out lo hi p v i) (0,[]) ?_ ?_ ?_
   ·refine Weak.shut [1,2,3] ?_;change Weak _ ⟨_,[Ob.box true [.fv (.sl (rowsF c)),.fv (.sl (rowsT Pt))],Ob.row false (rowsF lo),Ob.row false (rowsF hi),Ob.row false (rowsF out)]⟩ _;refine Weak.fz 6 1 0 L1 27 (rowsF lo) rfl rfl (by omega) ?_;refine Weak.fz 69 1 0 L1 27 (rowsF lo) rfl rfl (by omega) ?_;refine Weak.fz 7 2 0 L2 27 (rowsF hi) rfl rfl (by omega) ?_;refine Weak.fz 8 3 0 L3 27 (rowsF out) rfl rfl (by omega) ?_;refine Weak.nil 14 2 (by decide) rfl ?_;refine wk [0,4] (by simp) rfl ?_ ?_
    ·simp[leVs,leV,le1,tk1,tk2,tk3]
    ·simp[leH,leO,le1s,le1];simp[rowsR]
   ·exact⟨qsq _,rfl⟩
   ·rintro⟨i,o2⟩ ⟨hi1,ho2⟩;have hK2:=slabI_len out lo hi p v i;rw[<-ho2] at hK2;have hmul:i*hi.length<=1600:=qnb (Nat.mul_le_mul (show i<=40 by omega) (show hi.length<=40 by omega)) (by decide);obtain⟨K2,hK2e⟩: ∃ K,o2.length=K:=⟨_,rfl⟩;have rlk:=rowsR_length (o2.map rn);rw[length_map,hK2e] at rlk;dsimp only;rw[hK2e] at hK2 ⊢;simp -dsimp(disch:=omega) only[replicate,↓reduceIte,ru];refine bd_ ?_ ?_
    ·intro g1 g2;have hml:=at_mem (ls:=lo) (i:=i) (by omega);have rl4:=rowsF_getD lo i;have hl:=hlow _ hml;obtain⟨l,hll⟩: ∃ x,lo.getD i []=x:=⟨_,rfl⟩;rw[hll] at hml rl4 hl;have ll:=hl.len;have l27:=flatF_take27 ll;have fl:=flatF_length l;have gl:=flat_length l;have gl27:=flat_take27 ll;simp -dsimp(disch:=omega) only[append_nil,g2,rl4,l27,flatF_fv,fl,gl,ll,rl1,rl2,WA_scope,↓reduceIte,reduceAdd,reduceMul,reduceLT,reduceLeDiff,ru]
     repeat refine qy (by omega) ?_
     refine wl (α:=Nat×List RC) (fun⟨j,o3⟩=>⟨[.any,.int .i64 v,.ptr 0 0 0,.any,.nilsl,.int .i64 0,.fv (.sl (rowsF lo)),.fv (.sl (rowsF hi)),.fv (.sl (rowsF out))]++replicate 5 .any++[.lsl 1 0 o3.length 2,.int .i64 i,.ptr 2 0 0]++replicate 52 .any++[.fv (.sl (rowsF lo)),.int .i64 L1,.int .i64 i]++replicate 4 .any++[.fv (.sl (rowsF hi)),.int .i64 L2,.int .i64 j]++replicate 82 .any,[.box true [.fv (.sl (rowsF c)),.fv (.sl (rowsT Pt))],.row true (rowsR (o3.map rn)),.box true (flat l)]⟩)
      (fun⟨j,_⟩=>L2 - j) (fun⟨j,o3⟩=>j<=L2/\o3=o2++slabJ out lo hi p v i j) (0,o2) ?_ ?_ ?_
     ·refine wk [0,1,2] (by simp) rfl ?_ ?_
      ·simp[leVs,leV,le1]
       try omega
      ·simp[leH,leO,le1s,le1,le_flat]
     ·exact⟨qsq _,by simp[slabJ]⟩
     ·rintro⟨j,o3⟩ ⟨hj1,ho3⟩;have hK3:=slabJ_len out lo hi p v i j;obtain⟨K3,hK3e⟩: ∃ K,o3.length=K:=⟨_,rfl⟩;have hK3b:K3<=1700:=by
       rw[<-hK3e,ho3,qe,hK2e];omega
      have rlk3:=rowsR_length (o3.map rn);rw[length_map,hK3e] at rlk3;dsimp only;rw[hK3e];simp -dsimp(disch:=omega) only[replicate,↓reduceIte,ru];refine bd_ ?_ ?_
      ·intro g3 g4;have hmu:=at_mem (ls:=hi) (i:=j) (by omega);have rl5:=rowsF_getD hi j;have hu:=hhigh _ hmu;obtain⟨u,huu⟩: ∃ x,hi.getD j []=x:=⟨_,rfl⟩;rw[huu] at hmu rl5 hu;have lu:=hu.len;have u27:=flatF_take27 lu;have fu:=flatF_length u;have gu:=flat_length u;have gu27:=flat_take27 lu;have h146:=jq146 u l (hu.mono (by decide)) (hl.mono (by decide));have hdl:=comb_len lu ll;have hdk:=comb_ok hu hl (by decide);have hsj:=slabJ_succ (rest:=out) (lo:=lo) (hi:=hi) (p:=p) (v:=v) (i:=i) (n:=j);rw[hll,huu] at hsj;have hsk:skipB u l=(constB (comb u l)&&decide (sgq (co (comb u l) 8)<=0)):=rfl;obtain⟨d,hd⟩:=ex1 (comb u l);rw[hd] at h146 hdl hdk hsk;have hdk2:LOk 2000 d:=hdk;have gd:=flat_length d;have gd27:=flat_take27 hdl;have d27:=flatF_take27 hdl;have hfc:=flat_const' hdl;have h145:=den25 d (hdk2.mono (by decide));have h84:=den36 (d.getD 8 rz) ((hdk2.at 8).mono (by decide))
       have hco:co d 8=(d.getD 8 rz).q:=rfl;obtain⟨r,hr⟩:=ex1 (d.getD 8 rz);rw[hr] at h84 hfc hco;rw[hco] at hsk;unfold Raw.v at h84;unfold RL at h146 h145;obtain⟨b,hb⟩:=ex1 (constB d);rw[hb] at h145 hsk;by_cases hskp:skipB u l=true
       ·rw[hskp] at hsk;have hb1:b=true:=by cases b<;>simp at hsk ⊢
        have hs1:decide (sgq r.q<=0)=true:=by rw[hb1] at hsk;simpa using hsk.symm
        subst hb1;rw[if_pos hskp,append_nil] at hsj;simp -dsimp(disch:=omega) only[append_nil,g4,rl5,u27,flatF_fv,fu,gu,lu,gu27,gl,ll,gl27,rl2,↓reduceIte,reduceAdd,reduceMul,reduceLT,reduceLeDiff,ru]
        repeat refine qy (by omega) ?_
        refine gp h146 (by simp[fzAs,fzA,flat_fz,flatF_fv]) ?_;simp -dsimp(disch:=omega) only[flat_ids,flat_reloc,append_nil,rules,reduceAdd]
        repeat refine qy (by omega) ?_
        refine gp h145 (by simp[fzAs,fzA,flat_fz,flatF_fv]) ?_;simp -dsimp(disch:=omega) only[gu,lu,gu27,gl,ll,gl27,↓reduceIte,reduceAdd,reduceMul,reduceLeDiff,ru,zu]
        repeat refine qy (by omega) ?_
        refine gp h146 (by simp[fzAs,fzA,flat_fz,flatF_fv]) ?_;simp -dsimp(disch:=omega) only[hfc,gd,hdl,↓reduceIte,reduceAdd,reduceMul,reduceLeDiff,ru,zu]
        repeat refine qy (by omega) ?_
        refine gp h84 rfl ?_;simp -dsimp(disch:=omega) only[append_nil,hs1,↓reduceIte,reduceAdd,Nat.reduceBEq,ru];refine ap (j+1,o3) (by dsimp only;omega) ?_ ⟨by omega,by rw[ho3,hsj]⟩;refine wk [0,1,2] (by simp) rfl ?_ ?_
        ·simp[leVs,leV,le1];omega
        ·simp[leH,leO,le1s,le1,le_flat]
       ·have hskf:skipB u l=false:=by simpa using hskp
        rw[if_neg hskp] at hsj;have h33:=hbet l hml u hmu hskf;have h106:=pd78 out (fun f hf=>(hres f hf).len) (by omega);have rl6:=rowsF_length out;rw[hL3] at rl6 h106;have hap:=rows_snoc out d;have tk6:=take_rows (ls:=out) (n:=L3) (by omega);obtain⟨q,hq⟩:=ex1 (betT v l u p);rw[hq] at h33 hsj;unfold RL at h33;have hlong: ∀ X:St->Prop,X=X:=fun _=>rfl
        simp -dsimp(disch:=omega) only[append_nil,g4,rl5,u27,flatF_fv,fu,gu,lu,gu27,gl,ll,gl27,rl2,↓reduceIte,reduceAdd,reduceMul,reduceLT,reduceLeDiff,ru]
        repeat refine qy (by omega) ?_
        refine gp h146 (by simp[fzAs,fzA,flat_fz,flatF_fv]) ?_;simp -dsimp(disch:=omega) only[flat_ids,flat_reloc,append_nil,rules,reduceAdd]
        repeat refine qy (by omega) ?_
        refine gp h145 (by simp[fzAs,fzA,flat_fz,flatF_fv]) ?_;cases b
        case' true=>
         have hs1:decide (sgq r.q<=0)=false:=by rw[hskf] at hsk;simpa using hsk.symm
         simp -dsimp(disch:=omega) only[gu,lu,gu27,gl,ll,gl27,↓reduceIte,reduceAdd,reduceMul,reduceLeDiff,ru,zu]
         repeat refine qy (by omega) ?_
         refine gp h146 (by simp[fzAs,fzA,flat_fz,flatF_fv]) ?_;simp -dsimp(disch:=omega) only[hfc,gd,hdl,↓reduceIte,reduceAdd,reduceMul,reduceLeDiff,ru,zu]
         repeat refine qy (by omega) ?_
         refine gp h84 rfl ?_;simp -dsimp(disch:=omega) only[append_nil,hs1,↓reduceIte,reduceAdd,ru]
        case' false=>
         simp -dsimp(disch:=omega) only[flat_ids,append_nil,rules,↓reduceIte,reduceAdd]
        all_goals
         refine dw (by kernel_rfl) ?_;simp -dsimp(disch:=omega) only[rules];refine gp h106 rfl ?_;simp -dsimp(disch:=omega) only[append_nil,gu,lu,gu27,gl,ll,gl27,↓reduceIte,reduceAdd,reduceMul,reduceLeDiff,ru]
         repeat refine qy (by omega) ?_
         refine gp h146 (by simp[fzAs,fzA,flat_fz,flatF_fv]) ?_;simp -dsimp(disch:=omega) only[gd,hdl,d27,tk6,hap,rl6,↓reduceIte,reduceAdd,reduceMul,Nat.reduceBEq,reduceLT,reduceLeDiff,ru,zu]
         repeat refine qy (by omega) ?_
         clear h84 h145 hsk hfc;refine wl (α:=Nat×List (List Raw)) (fun⟨k,cs⟩=>⟨[.any,.int .i64 v,.ptr 0 0 0,.any,.nilsl,.int .i64 0,.fv (.sl (rowsF lo)),.fv (.sl (rowsF hi)),.fv (.sl (rowsF out))]++replicate 5 .any++[.lsl 1 0 K3 2,.int .i64 i,.ptr 2 0 0,.int .i64 j,.ptr 3 0 0,.ptr 5 0 0]++replicate 49 .any++[.fv (.sl (rowsF lo)),.int .i64 L1,.int .i64 i]++replicate 4 .any++[.fv (.sl (rowsF hi)),.int .i64 L2,.int .i64 j]++replicate 24 .any++[.fv (.sl (rowsF lo)),.int .i64 L1,.int .i64 k]++replicate 55 .any,[.box true [.fv (.sl (rowsF c)),.fv (.sl (rowsT Pt))],.row true (rowsR (o3.map rn)),.box true (flat l),.box true (flat u),.row true (rowsF cs),.box true [.lsl 4 0 cs.length 27,.nilsl]]⟩)
          (fun⟨k,_⟩=>L1 - k) (fun⟨k,cs⟩=>k<=L1/\cs=(out++[d])++othL (comb l) lo i k) (0,out++[d]) ?_ ?_ ?_
         ·refine wk [0,1,2,3,6,7] (by simp) rfl ?_ ?_
          ·simp[leVs,leV,le1]
           try omega
          ·simp[leH,leO,le1s,le1,le_flat]
           try omega
         ·exact⟨qsq _,by rw[oth_zero,append_nil]⟩
         ·rintro⟨k,cs⟩ ⟨hk1,hcs⟩;have hcl:cs.length<=L3+1+k:=by
           have:=oth_len (comb l) lo i k;rw[hcs,qe,qe,qab,hL3];omega
          obtain⟨C,hC⟩:=ex1 (cs.length);have rlc:=rowsF_length cs;rw[hC] at rlc hcl;have tkc:=take_rows (ls:=cs) (n:=C) (by omega);dsimp only;rw[hC];simp -dsimp(disch:=omega) only[replicate,↓reduceIte,ru];refine bd_ ?_ ?_
          ·intro f1 f2;have hmo:=at_mem (ls:=lo) (i:=k) (by omega);have rlo:=rowsF_getD lo k;have hone:=fun hh=>oth_ne (comb l) lo (i:=i) (k:=k) hh
           have ho:=hlow _ hmo;obtain⟨o,hoo⟩: ∃ x,lo.getD k []=x:=⟨_,rfl⟩;rw[hoo] at hmo rlo ho hone;have lo':=ho.len;have o27:=flatF_take27 lo';have fo:=flatF_length o;have go:=flat_length o;have go27:=flat_take27 lo';by_cases hki:k=i
           ·have e5:((k:Int) !=(i:Int))=false:=by rw[hki];simp
            simp -dsimp(disch:=omega) only[append_nil,f2,rlo,o27,flatF_fv,fo,go,lo',rl1,e5,↓reduceIte,reduceAdd,reduceMul,reduceLT,reduceLeDiff,ru]
            repeat refine qy (by omega) ?_
            refine ap (k+1,cs) (by dsimp only;omega) ?_ ⟨by omega,by rw[hcs,hki,oth_eq]⟩;refine wk [0,1,2,3,4,5] (by simp) rfl ?_ ?_
            ·simp[leVs,leV,le1]
             try omega
            ·simp[leH,leO,le1s,le1,le_flat]
             try omega
           ·have e5:((k:Int) !=(i:Int))=true:=by simp;omega
            have h146:=jq146 l o (hl.mono (by decide)) (ho.mono (by decide));have hel:(comb l o).length=9:=comb_len ll lo';have hap2:=rows_snoc cs (comb l o);have hone2:=hone hki;obtain⟨e,hee⟩: ∃ x,comb l o=x:=⟨_,rfl⟩;change _=_++[comb l o] at hone2;rw[hee] at h146 hel hap2 hone2;have ge:=flat_length e;have ge27:=flat_take27 hel;have e27:=flatF_take27 hel;unfold RL at h146;simp -dsimp(disch:=omega) only[append_nil,f2,rlo,o27,flatF_fv,fo,go,lo',rl1,e5,↓reduceIte,reduceAdd,reduceMul,reduceLT,reduceLeDiff,ru]
            repeat refine qy (by omega) ?_
            refine dw (by kernel_rfl) ?_;simp -dsimp(disch:=omega) only[gl,ll,gl27,go,lo',go27,↓reduceIte,reduceAdd,reduceMul,reduceLeDiff,ru]
            repeat refine qy (by omega) ?_
            refine gp h146 (by simp[fzAs,fzA,flat_fz,flatF_fv]) ?_;simp -dsimp(disch:=omega) only[ge,hel,e27,tkc,hap2,rlc,↓reduceIte,reduceAdd,reduceMul,Nat.reduceBEq,reduceLT,reduceLeDiff,ru,zu]
            repeat refine qy (by omega) ?_
            refine ap (k+1,cs++[e]) (by dsimp only;omega) ?_ ⟨by omega,by rw[hone2,hcs];simp⟩;refine wk [0,1,2,3,8,5] (by simp) rfl ?_ ?_
            ·simp[leVs,leV,le1]
             try omega
            ·simp[leH,leO,le1s,le1,le_flat]
             try omega
          ·intro f1 f2;have hke:k=L1:=by omega
           rw[hke] at hcs;clear tkc;have hcs':=hcs;have hc1l:cs.length<=L3+1+L1:=by omega
           simp -dsimp(disch:=omega) only[f2,rl2,Nat.reduceBEq,ru];refine wl (α:=Nat×List (List Raw)) (fun⟨k,ct⟩=>⟨[.any,.int .i64 v,.ptr 0 0 0,.any,.nilsl,.int .i64 0,.fv (.sl (rowsF lo)),.fv (.sl (rowsF hi)),.fv (.sl (rowsF out))]++replicate 5 .any++[.lsl 1 0 K3 2,.int .i64 i,.ptr 2 0 0,.int .i64 j,.ptr 3 0 0,.ptr 5 0 0]++replicate 49 .any++[.fv (.sl (rowsF lo)),.int .i64 L1,.int .i64 i]++replicate 4 .any++[.fv (.sl (rowsF hi)),.int .i64 L2,.int .i64 j]++replicate 43 .any++[.fv (.sl (rowsF hi)),.int .i64 L2,.int .i64 k]++replicate 36 .any,[.box true [.fv (.sl (rowsF c)),.fv (.sl (rowsT Pt))],.row true (rowsR (o3.map rn)),.box true (flat l),.box true (flat u),.row true (rowsF ct),.box true [.lsl 4 0 ct.length 27,.nilsl]]⟩)
            (fun⟨k,_⟩=>L2 - k) (fun⟨k,ct⟩=>k<=L2/\ct=cs++othL (fun o=>comb o u) hi j k) (0,cs) ?_ ?_ ?_
           ·refine wk [0,1,2,3,4,5] (by simp) rfl ?_ ?_
            ·simp[leVs,leV,le1]
             try omega
            ·simp[leH,leO,le1s,le1,le_flat]
             try omega
           ·exact⟨qsq _,by rw[oth_zero,append_nil]⟩
           ·rintro⟨k,ct⟩ ⟨hk1,hcs⟩;have hcl:ct.length<=(L3+1+L1)+k:=by
             have:=oth_len (fun o=>comb o u) hi j k;rw[hcs,qe];omega
            obtain⟨C,hC⟩:=ex1 (ct.length);have rlc:=rowsF_length ct;rw[hC] at rlc hcl;have tkc:=take_rows (ls:=ct) (n:=C) (by omega);dsimp only;rw[hC];simp -dsimp(disch:=omega) only[replicate,↓reduceIte,ru];refine bd_ ?_ ?_
            ·intro f1 f2;have hmo:=at_mem (ls:=hi) (i:=k) (by omega);have rlo:=rowsF_getD hi k;have hone:=fun hh=>oth_ne (fun o=>comb o u) hi (i:=j) (k:=k) hh
             have ho:=hhigh _ hmo;obtain⟨o,hoo⟩: ∃ x,hi.getD k []=x:=⟨_,rfl⟩;rw[hoo] at hmo rlo ho hone;have lo':=ho.len;have o27:=flatF_take27 lo';have fo:=flatF_length o;have go:=flat_length o;have go27:=flat_take27 lo';by_cases hki:k=j
             ·have e5:((k:Int) !=(j:Int))=false:=by rw[hki];simp
              simp -dsimp(disch:=omega) only[append_nil,f2,rlo,o27,flatF_fv,fo,go,lo',rl2,e5,↓reduceIte,reduceAdd,reduceMul,reduceLT,reduceLeDiff,ru]
              repeat refine qy (by omega) ?_
              refine ap (k+1,ct) (by dsimp only;omega) ?_ ⟨by omega,by rw[hcs,hki,oth_eq]⟩;refine wk [0,1,2,3,4,5] (by simp) rfl ?_ ?_
              ·simp[leVs,leV,le1]
               try omega
              ·simp[leH,leO,le1s,le1,le_flat]
               try omega
             ·have e5:((k:Int) !=(j:Int))=true:=by simp;omega
              have h146:=jq146 o u (ho.mono (by decide)) (hu.mono (by decide));have hel:(comb o u).length=9:=comb_len lo' lu;have hap2:=rows_snoc ct (comb o u);have hone2:=hone hki;obtain⟨e,hee⟩: ∃ x,comb o u=x:=⟨_,rfl⟩;change _=_++[comb o u] at hone2;rw[hee] at h146 hel hap2 hone2;have ge:=flat_length e;have ge27:=flat_take27 hel;have e27:=flatF_take27 hel;unfold RL at h146;simp -dsimp(disch:=omega) only[append_nil,f2,rlo,o27,flatF_fv,fo,go,lo',rl2,e5,↓reduceIte,reduceAdd,reduceMul,reduceLT,reduceLeDiff,ru]
              repeat refine qy (by omega) ?_
              refine dw (by kernel_rfl) ?_;simp -dsimp(disch:=omega) only[gu,lu,gu27,go,lo',go27,↓reduceIte,reduceAdd,reduceMul,reduceLeDiff,ru]
              repeat refine qy (by omega) ?_
              refine gp h146 (by simp[fzAs,fzA,flat_fz,flatF_fv]) ?_;simp -dsimp(disch:=omega) only[ge,hel,e27,tkc,hap2,rlc,↓reduceIte,reduceAdd,reduceMul,Nat.reduceBEq,reduceLT,reduceLeDiff,ru,zu]
              repeat refine qy (by omega) ?_
              refine ap (k+1,ct++[e]) (by dsimp only;omega) ?_ ⟨by omega,by rw[hone2,hcs];simp⟩;refine wk [0,1,2,3,8,5] (by simp) rfl ?_ ?_
              ·simp[leVs,leV,le1]
               try omega
              ·simp[leH,leO,le1s,le1,le_flat]
               try omega
            ·intro f1 f2;have hke:k=L2:=by omega
             rw[hke] at hcs;clear tkc;have hcons:ct=consP out lo hi i j:=by
              unfold consP;rw[hll,huu,hd,hL1,hL2,hcs,hcs']
             have tkc:=take_rows (ls:=ct) (n:=C) (by omega);have hap3:rowsR (o3.map rn)++[[FV.sl (rowsF ct),FV.sl (rowsT (q.map tn))]]=rowsR ((o3++[(ct,q)]).map rn):=by
              rw[qwb];exact rowsR_snoc _ (rn (ct,q))
             have tk7:=take_rowsR (l:=o3.map rn) (n:=K3) (by rw[length_map];omega);have e6:((0:Int) !=0)=false:=rfl;simp -dsimp(disch:=omega) only[f2,gl,ll,gl27,gu,lu,gu27,↓reduceIte,reduceAdd,reduceMul,Nat.reduceBEq,reduceLeDiff,ru]
             repeat refine qy (by omega) ?_
             refine gp h33 (by simp[fzAs,fzA,flat_fz,flatF_fv,fz1,fz0]) ?_;simp -dsimp(disch:=omega) only[e6,tkc,rlc,hap3,tk7,rlk3,qp,↓reduceIte,reduceAdd,reduceMul,Nat.reduceBEq,reduceLT,reduceLeDiff,ru,zu]
             repeat refine qy (by omega) ?_
             refine ap (j+1,o3++[(ct,q)]) (by dsimp only;omega) ?_ ⟨by omega,by rw[ho3,hsj,hcons,qlb]⟩;refine wk [0,7,2] (by simp) rfl ?_ ?_
             ·simp[leVs,leV,le1]
              try omega
             ·simp[leH,leO,le1s,le1,le_flat]
      ·intro g3 g4;have hje:j=L2:=by omega
       rw[hje,<-hL2] at ho3;simp -dsimp(disch:=omega) only[g4,↓reduceIte,Nat.reduceBEq,ru];refine ap (i+1,o3) (by dsimp only;omega) ?_ ⟨by omega,by rw[slabI_succ,ho3,ho2]⟩;refine wk [0,1] (by simp) rfl ?_ ?_
       ·simp[leVs,leV,le1];omega
       ·simp[leH,leO,le1s,le1]
    ·intro g1 g2;have hie:i=L1:=by omega
     rw[hie,<-hL1] at ho2;rw[<-ho2] at hR;subst hR;have tk:=take_rowsR (l:=o2.map rn) (n:=K2) (by rw[length_map];omega);simp -dsimp(disch:=omega) only[g2,Nat.reduceBEq,ru];refine rpq (vs:=[.lsl 1 0 K2 2,.int .i64 0]) rfl ⟨tvq,tvq,tvq⟩ (show fzX [Ob.box true [.fv (.sl (rowsF c)),.fv (.sl (rowsT Pt))],Ob.row true (rowsR (o2.map rn))] [] (.tup [.lsl 1 0 K2 2,.int .i64 0])=_ from ?_);simp(disch:=omega) only[tk,rlk,List.drop_zero,Nat.zero_add,qp,↓reduceIte,List.idxOf?_nil,fzX,fzV,fzVs,fzC,fz1,fz0,Option.map_some,List.getElem?_cons_zero,List.getElem?_cons_succ]
def missB (v:Nat) (r:RC):Bool:=(lowL r.1 v).isEmpty||(highL r.1 v).isEmpty
def elimO (M:List RC) (v:Nat):List RC:=M.flatMap (fun r=>slabL r.1 r.2 v)
theorem missB_iff {v:Nat} {r:RC}:missB v r=true↔lowL r.1 v=[]\/highL r.1 v=[]:=by
 unfold missB;rw[qsb,List.isEmpty_iff,List.isEmpty_iff]
def errV (c:Int):PV:= .tup [.fv (.sl []),.int .i64 c]
theorem jq36 (L:List RR) (M N:List RC) (v:Nat) (hv:v<8) (h90:Den Tryz.prog 90 [] [RL' L] [] (.tup [RL' (M.map rn),.int .i64 0])) (hM:M.length<=100000) (hs: ∀ r∈M,SlabOk r.1 r.2 v)
 (hlen:(elimO M v).length<=10000000)
 (h90':M.any (missB v)=false->Den Tryz.prog 90 [] [RL' ((elimO M v).map rn)] [] (.tup [RL' (N.map rn),.int .i64 0])):
 Den Tryz.prog 36 [] [RL' L,.int .i64 v] [] (if M.any (missB v)=true then errV 15 else .tup [RL' (N.map rn),.int .i64 0]):=by
 obtain⟨R,hR⟩:=ex1 ((if M.any (missB v)=true then errV 15 else .tup [RL' (N.map rn),.int .i64 0]))
 rw[hR]
 have rl:=rowsR_length (M.map rn)
 rw[length_map] at rl
 obtain⟨n,hnn⟩:=ex1 (M.length)
 rw[hnn] at rl hM
 have e0:((0:Int) !=0)=false:=rfl
 have e1:decide ((v:Int)<0)=false:=qcb (by omega)
 have e2:decide ((v:Int)>=8)=false:=qcb (by omega)
 refine den_of tabOk mixed Tryz.func36 (cd:=_) rfl (by decide) rfl (n:=47) rfl rfl (m:=0) rfl ?_
 simp -dsimp(disch:=omega) only[replicate,rules]
 refine gp h90 rfl ?_
 simp -dsimp(disch:=omega) only[e0,e1,e2,rl,↓reduceIte,ru]
 refine wl (α:=Nat×List RC) (fun⟨i,out⟩=>⟨[.any,.int .i64 v,.any,.any,.nilsl,.int .i64 0,.any,.lsl 0 0 out.length 2]++replicate 18 .any++[.fv (.sl (rowsR (M.map rn))),.int .i64 n,.int .i64 i]++replicate 20 .any,[.row true (rowsR (out.map rn))]⟩)
  (fun⟨i,_⟩=>n - i) (fun⟨i,out⟩=>i<=n/\out=elimO (M.take i) v/\(M.take i).any (missB v)=false) (0,[]) ?_ ?_ ?_
 ·refine Weak.nil 7 2 (by decide) rfl ?_
  refine wk [0] (by simp) rfl ?_ ?_
  ·simp[leVs,leV,le1]
  ·simp[leH,leO]
   simp[rowsR]
 ·exact⟨qsq _,rfl,rfl⟩
 ·rintro⟨i,out⟩ ⟨h1,h2,h3⟩
  have hol:out.length<=10000000:=by
   refine qnb ?_ hlen;rw[h2];unfold elimO
   conv=>rhs;rw[<-List.take_append_drop i M,flatMap_append,qe]
   omega
  obtain⟨K,hK⟩:=ex1 (out.length)
  have rlo:=rowsR_length (out.map rn)
  rw[length_map,hK] at rlo
  dsimp only
  rw[hK] at hol ⊢
  simp -dsimp(disch:=omega) only[replicate,↓reduceIte,ru]
  refine bd_ ?_ ?_
  ·intro g1 g2
   obtain⟨⟨c,p⟩,hx⟩: ∃ x,M[i]?=some x:=⟨_,qb (by omega)⟩
   have hxm:(c,p)∈M:=mem_of_getElem? hx
   have ry:=rowsR_getD (l:=M.map rn) (i:=i) (by rw[length_map];omega)
   rw[show(M.map rn).getD i rr0=rn (c,p) by rw[qa,List.getElem?_map,hx];rfl] at ry
   change _=[FV.sl (rowsF c),FV.sl (rowsT (p.map tn))] at ry
   have h91:=jq91 c p v (hs _ hxm)
   change Den Tryz.prog 91 [] [.agg [.fv (.sl (rowsF c)),.fv (.sl (rowsT (p.map tn)))],.int .i64 v] [] _ at h91
   have hsn:M.take (i+1)=M.take i++[(c,p)]:=by
    rw[List.take_add_one,hx];rfl
   by_cases hms:missB v (c,p)=true
   ·unfold slabV at h91
    rw[if_pos (missB_iff.1 hms)] at h91
    rw[if_pos (any_mem hxm hms)] at hR
    subst hR
    have e3:((15:Int) !=0)=true:=rfl
    simp -dsimp(disch:=omega) only[g2,ry,rl,↓reduceIte,reduceAdd,reduceLT,reduceLeDiff,ru]
    repeat refine qy (by omega) ?_
    refine gp h91 rfl ?_
    simp -dsimp(disch:=omega) only[e3,↓reduceIte,reduceAdd,ru]
    exact rpq rfl ⟨tvq,tvq,tvq⟩ rfl
   ·unfold slabV at h91
    rw[if_neg (fun hh=>hms (missB_iff.2 hh))] at h91
    have hsl:elimO (M.take (i+1)) v=out++slabL c p v:=by
     rw[hsn,h2];unfold elimO;rw[flatMap_append,List.flatMap_singleton]
    have hpl:(slabL c p v).length<=10000000:=by
     refine qnb ?_ hlen;unfold elimO;rw[List.flatMap_def];exact(List.sublist_flatten_of_mem (List.mem_map_of_mem (f:=fun r:RC=>slabL r.1 r.2 v) hxm)).length_le
    obtain⟨q,hq⟩:=ex1 (slabL c p v)
    rw[hq] at h91 hsl hpl
    have rlq:=rowsR_length (q.map rn)
    rw[length_map] at rlq
    have hap:rowsR (out.map rn)++rowsR (q.map rn)=rowsR ((out++q).map rn):=by
     unfold rowsR;rw[qwb,qwb]
    have tk:=take_rowsR (l:=out.map rn) (n:=K) (by rw[length_map];omega)
    have h2len: ∀ y,y∈rowsR (q.map rn)->y.length=2:=fun y hy=>by
     unfold rowsR at hy;obtain⟨x,_,rfl⟩:=mem_map.1 hy;rfl
    have h2t:(∀ y,y∈rowsR (q.map rn)->y.length=2)=True:=eq_true h2len
    simp -dsimp(disch:=omega) only[g2,ry,rl,↓reduceIte,reduceAdd,reduceLT,reduceLeDiff,ru]
    repeat refine qy (by omega) ?_
    refine gp h91 rfl ?_
    simp -dsimp(disch:=omega) only[e0,tk,hap,rlo,rlq,h2t,↓reduceIte,reduceAdd,reduceLT,ru]
    repeat refine qy (by omega) ?_
    refine ap (i+1,out++q) (by dsimp only;omega) ?_ ⟨by omega,hsl.symm,by rw[hsn,any_append,h3];simpa using hms⟩
    refine wk [2] (by simp) rfl ?_ ?_
    ·simp[leVs,leV,le1]
     try omega
    ·simp[leH,leO]
  ·intro g1 g2
   have hin:i=n:=by omega
   have htk:M.take i=M:=qdq (by omega)
   rw[htk] at h2 h3
   have h90a:=h90' h3
   rw[<-h2] at h90a
   rw[if_neg (by rw[h3];decide)] at hR
   subst hR
   have tk:=take_rowsR (l:=out.map rn) (n:=K) (by rw[length_map];omega)
   simp -dsimp(disch:=omega) only[g2,rules,Nat.reduceBEq]
   refine gp h90a (by simp[fzAs,fzA,fz1,fz0,tk,rlo]) ?_
   simp -dsimp(disch:=omega) only[ru]
   exact rpq rfl ⟨tvq,tvq,tvq⟩ rfl
theorem jq36v (L:List RR) (M:List RC) (v:Int) (hv:v<0\/8<=v) (h90:Den Tryz.prog 90 [] [RL' L] [] (.tup [RL' (M.map rn),.int .i64 0])):
 Den Tryz.prog 36 [] [RL' L,.int .i64 v] [] (errV 1):=by
 have e0:((0:Int) !=0)=false:=rfl
 unfold errV
 by_cases h1:v<0
 ·have e1:decide (v<0)=true:=qbb h1
  refine den_of tabOk mixed Tryz.func36 (cd:=_) rfl (by decide) rfl (n:=47) rfl rfl (m:=0) rfl ?_
  simp -dsimp(disch:=omega) only[replicate,rules]
  refine gp h90 rfl ?_
  simp -dsimp(disch:=omega) only[e0,e1,↓reduceIte,ru]
  exact rpq rfl ⟨tvq,tvq,tvq⟩ rfl
 ·have e1:decide (v<0)=false:=qcb h1
  have e2:decide (v>=8)=true:=qbb (by omega)
  refine den_of tabOk mixed Tryz.func36 (cd:=_) rfl (by decide) rfl (n:=47) rfl rfl (m:=0) rfl ?_
  simp -dsimp(disch:=omega) only[replicate,rules]
  refine gp h90 rfl ?_
  simp -dsimp(disch:=omega) only[e0,e1,e2,↓reduceIte,ru]
  exact rpq rfl ⟨tvq,tvq,tvq⟩ rfl
def sumE (M:List RC):Int×List Tm:=if M.any (fun r=>!r.1.isEmpty) then(2,[]) else(0,polyS' M)
def totE (E:List RC->Int->Int×List RC):List RC->List Int->Int×List RC
 | M,[]=>(0,M)
 | M,v::vs=>if(E M v).1=0 then totE E (E M v).2 vs else((E M v).1,[])
theorem tot_nil (E:List RC->Int->Int×List RC) (M:List RC):totE E M []=(0,M):=rfl
theorem tot_cons (E:List RC->Int->Int×List RC) (M:List RC) (v:Int) (vs:List Int):totE E M (v::vs)=if(E M v).1=0 then totE E (E M v).2 vs else((E M v).1,[]):=rfl
def listV (x:Int×List RC):PV:=if x.1=0 then .tup [RL' (x.2.map rn),.int .i64 0] else errV x.1
def polyV (x:Int×List Tm):PV:=if x.1=0 then .tup [PL (x.2.map tn),.int .i64 0] else errV x.1
def totP (E:List RC->Int->Int×List RC) (M:List RC) (vs:List Int):Int×List Tm:=if(totE E M vs).1=0 then sumE (totE E M vs).2 else((totE E M vs).1,[])
structure TotOk (E:List RC->Int->Int×List RC) (I:List RC->Prop):Prop where
 den: ∀ M,I M-> ∀ v:Int,-9223372036854775808<=v->v<9223372036854775808->Den Tryz.prog 36 [] [RL' (M.map rn),.int .i64 v] [] (listV (E M v))
 next: ∀ M,I M-> ∀ v,(E M v).1=0->I (E M v).2
 len: ∀ M,I M->M.length<=1000000
 nf: ∀ M,I M->NF M
 one: ∀ M,I M-> ∀ r∈M,r.1=[]->POk 10000000 1024 r.2/\r.2.length<=sortMax
theorem pok_nil:POk 10000000 1024 []:=⟨.nil,by simp,by simp⟩
theorem jq40 (E:List RC->Int->Int×List RC) (I:List RC->Prop) (hT:TotOk E I) (L:List RR) (M:List RC) (vs:List Int) (hw:W64 vs) (hn:vs.length<=1000) (hI:I M) (h90:Den Tryz.prog 90 [] [RL' L] [] (.tup [RL' (M.map rn),.int .i64 0])):
 Den Tryz.prog 40 [] [RL' L,.fv (.sl (ints vs))] [] (polyV (totP E M vs)):=by
 obtain⟨R,hR⟩:=ex1 (polyV (totP E M vs))
 rw[hR]
 have rl:=ints_length vs
 obtain⟨n,hnn⟩:=ex1 (vs.length)
 rw[hnn] at rl hn
 have e0:((0:Int) !=0)=false:=rfl
 refine den_of tabOk mixed Tryz.func40 (cd:=_) rfl (by decide) rfl (n:=56) rfl rfl (m:=0) rfl ?_
 simp -dsimp(disch:=omega) only[replicate,rules]
 refine gp h90 rfl ?_
 simp -dsimp(disch:=omega) only[e0,rl,↓reduceIte,ru]
 refine wl (α:=Nat×List RC) (fun⟨i,M'⟩=>⟨[.fv (.sl (rowsR (M'.map rn))),.any,.any,.any,.nilsl,.int .i64 0]++replicate 14 .any++[.fv (.sl (ints vs)),.int .i64 n,.int .i64 i]++replicate 35 .any,[]⟩)
  (fun⟨i,_⟩=>n - i) (fun⟨i,M'⟩=>i<=n/\I M'/\totE E M vs=totE E M' (vs.drop i)) (0,M) ?_ ?_ ?_
 ·refine wk [] (by simp) rfl ?_ ?_
  ·simp[leVs,leV,le1]
  ·simp[leH]
 ·exact⟨qsq _,hI,by rw[List.drop_zero]⟩
 ·rintro⟨i,M'⟩ ⟨h1,h2,h3⟩
  simp -dsimp(disch:=omega) only[replicate,↓reduceIte,ru]
  refine bd_ ?_ ?_
  ·intro g1 g2
   have hi:i<vs.length:=by omega
   have hd:vs.drop i=vs.getD i 0::vs.drop (i+1):=by
    rw[drop_eq_getElem_cons hi,qa,qb hi];rfl
   have ry:=ints_getD (xs:=vs) hi
   have hwv:=hw _ (getD_memG (l:=vs) (d:=0) hi)
   obtain⟨v,hv⟩:=ex1 (vs.getD i 0)
   rw[hv] at hd ry hwv
   rw[hd] at h3
   have h36:=hT.den M' h2 v hwv.1 hwv.2
   have hnx:=hT.next M' h2 v
   rw[tot_cons] at h3
   unfold listV at h36
   obtain⟨⟨c,N⟩,hE⟩: ∃ x,E M' v=x:=⟨_,rfl⟩
   rw[hE] at h36 hnx h3
   dsimp only at h36 hnx h3
   by_cases hc:c=0
   ·subst hc
    rw[if_pos rfl] at h36 h3
    simp -dsimp(disch:=omega) only[g2,ry,rl,↓reduceIte,reduceLT,reduceLeDiff,ru]
    repeat refine qy (by omega) ?_
    refine gp h36 rfl ?_
    simp -dsimp(disch:=omega) only[e0,↓reduceIte,ru]
    refine ap (i+1,N) (by dsimp only;omega) ?_ ⟨by omega,hnx rfl,h3⟩
    refine wk [] (by simp) rfl ?_ ?_
    ·simp[leVs,leV,le1]
     try omega
    ·simp[leH]
   ·rw[if_neg hc] at h36 h3
    have e1:(c !=0)=true:=by simpa using hc
    unfold errV at h36
    unfold totP at hR
    rw[h3] at hR
    dsimp only at hR
    rw[if_neg hc] at hR
    unfold polyV at hR
    rw[if_neg hc] at hR
    subst hR
    simp -dsimp(disch:=omega) only[g2,ry,rl,↓reduceIte,reduceLT,reduceLeDiff,ru]
    repeat refine qy (by omega) ?_
    refine gp h36 rfl ?_
    simp -dsimp(disch:=omega) only[e1,↓reduceIte,ru]
    exact rpq rfl ⟨tvq,tvq,tvq⟩ rfl
  ·intro g1 g2
   have hd:vs.drop i=[]:=List.drop_of_length_le (by omega)
   rw[hd] at h3
   rw[tot_nil] at h3
   unfold totP at hR
   rw[h3] at hR
   dsimp only at hR
   rw[if_pos rfl] at hR
   have rlm:=rowsR_length (M'.map rn)
   rw[length_map] at rlm
   have hml:=hT.len M' h2
   obtain⟨m,hm⟩:=ex1 (M'.length)
   rw[hm] at rlm hml
   simp -dsimp(disch:=omega) only[g2,rlm,Nat.reduceBEq,ru]
   refine wl (α:=Nat×List Tm) (fun⟨i,s⟩=>⟨[.any,.any,.any,.any,.nilsl,.int .i64 0,.any,.any,.any,.fv (.sl (rowsT (s.map tn)))]++replicate 26 .any++[.fv (.sl (rowsR (M'.map rn))),.int .i64 m,.int .i64 i]++replicate 19 .any,[]⟩)
    (fun⟨i,_⟩=>m - i) (fun⟨i,s⟩=>i<=m/\s=polyS' (M'.take i)/\(M'.take i).any (fun r=>!r.1.isEmpty)=false) (0,[]) ?_ ?_ ?_
   ·refine Weak.nil 9 11 (by decide) rfl ?_
    refine Weak.shut [0] ?_
    change Weak _ ⟨_,[Ob.row false []]⟩ _
    refine Weak.fz 9 0 0 0 11 [] rfl rfl (by simp) ?_
    refine wk [] (by simp) rfl ?_ ?_
    ·simp[leVs,leV,le1,rowsT]
    ·simp[leH]
   ·exact⟨qsq _,rfl,rfl⟩
   ·rintro⟨i,s⟩ ⟨k1,k2,k3⟩
    simp -dsimp(disch:=omega) only[replicate,↓reduceIte,ru]
    refine bd_ ?_ ?_
    ·intro f1 f2
     obtain⟨⟨c,p⟩,hx⟩: ∃ x,M'[i]?=some x:=⟨_,qb (by omega)⟩
     have hxm:(c,p)∈M':=mem_of_getElem? hx
     have ry:=rowsR_getD (l:=M'.map rn) (i:=i) (by rw[length_map];omega)
     rw[show(M'.map rn).getD i rr0=rn (c,p) by rw[qa,List.getElem?_map,hx];rfl] at ry
     change _=[FV.sl (rowsF c),FV.sl (rowsT (p.map tn))] at ry
     have rlc:=rowsF_length c
     have hsn:M'.take (i+1)=M'.take i++[(c,p)]:=by
      rw[List.take_add_one,hx];rfl
     cases c with
     | cons c0 c1=>
      have e1:decide (((c0::c1).length:Int)>0)=true:=qbb (by rw[length_cons];omega);unfold sumE at hR;rw[if_pos (any_mem hxm rfl)] at hR;unfold polyV at hR;rw[if_neg (by decide)] at hR;obtain⟨c,hcc⟩:=ex1 (c0::c1);rw[hcc] at ry rlc e1;subst hR;simp -dsimp(disch:=omega) only[f2,ry,rlm,rlc,e1,↓reduceIte,reduceAdd,reduceLT,reduceLeDiff,ru]
      repeat refine qy (by omega) ?_
      exact rpq rfl ⟨tvq,tvq,tvq⟩ rfl
     | nil=>
      have hnf:=hT.nf M' h2;have hone:=hT.one M' h2 _ hxm rfl;dsimp only at hone;have hi0:i=0:=by
       cases i with
       | zero=>rfl
       | succ q=>
        exfalso;have h0l:0<M'.length:=by omega
        have hc0:(M'[0]'h0l).1=[]:=by
         have hmem:M'[0]'h0l∈M'.take (q+1):=by
          rw[List.mem_iff_getElem];exact⟨0,by rw[length_take];omega,by rw[List.getElem_take]⟩
         cases hh:(M'[0]'h0l).1 with
         | nil=>rfl
         | cons a b=>rw[any_mem hmem (by rw[hh];rfl)] at k3;cases k3
        have hql:q+1<M'.length:=by omega
        have hcq:M'[q+1]'hql=([],p):=(List.getElem?_eq_some_iff.1 hx).2;have:=pairwise_iff_getElem.1 hnf.sorted 0 (q+1) h0l hql (by omega);rw[hc0,hcq] at this;simp[cmpC] at this
      subst hi0;have hs0:s=[]:=k2;subst hs0;have hcan:=(hnf.can _ hxm);have hps:nf ([]++p)=polyS' (M'.take 1):=by
       have:M'.take 1=[([],p)]:=by rw[hsn];rfl
       rw[this,poly_one hcan,List.nil_append,nf_self hcan]
      have h97:=iq97 [] p pok_nil hone.1 (by simp) hone.2 (by rw[List.nil_append,nf_self hcan];exact hone.2);have e1:decide ((([]:List (List Raw)).length:Int)>0)=false:=rfl;obtain⟨c,hcc⟩:=ex1 (([]:List (List Raw)));have hce:c.isEmpty=true:=by rw[<-hcc];rfl
      rw[hcc] at ry rlc e1 hsn;obtain⟨s2,hs2⟩: ∃ x,nf (([]:List Tm)++p)=x:=⟨_,rfl⟩;rw[hs2] at h97 hps;simp -dsimp(disch:=omega) only[f2,ry,rlm,rlc,e1,↓reduceIte,reduceAdd,reduceLT,reduceLeDiff,ru]
      repeat refine qy (by omega) ?_
      refine gp h97 rfl ?_;simp -dsimp(disch:=omega) only[e0,↓reduceIte,ru];refine ap (0+1,s2) (by dsimp only;omega) ?_ ⟨by omega,hps,by rw[hsn,any_append,k3];simp[hce]⟩;refine wk [] (by simp) rfl ?_ ?_
      ·simp[leVs,leV,le1]
       try omega
      ·simp[leH]
    ·intro f1 f2
     have htk:M'.take i=M':=qdq (by omega)
     rw[htk] at k2 k3
     unfold sumE at hR
     rw[if_neg (by rw[k3];decide),<-k2] at hR
     unfold polyV at hR
     rw[if_pos rfl] at hR
     subst hR
     simp -dsimp(disch:=omega) only[f2,Nat.reduceBEq,ru]
     exact rpq rfl ⟨tvq,tvq,tvq⟩ rfl
end Go.Proofs.YtjjbkjgifdhlcaaGreat
namespace Go.Pl
open Go.AM
def Duo (v w:Nat) (Nv Nw:Int) (p:List Tm):Prop:= ∀ t∈p,t.1.length=8/\(∀ i,i<8->i≠v->i≠w->t.1.getD i 0=0)/\(0<=t.1.getD v 0/\t.1.getD v 0<=Nv)/\0<=t.1.getD w 0/\t.1.getD w 0<=Nw
def Uni (w:Nat) (N:Int) (p:List Tm):Prop:= ∀ t∈p,t.1.length=8/\(∀ i,i<8->i≠w->t.1.getD i 0=0)/\0<=t.1.getD w 0/\t.1.getD w 0<=N
theorem Uni.len8 {w:Nat} {N:Int} {p:List Tm} (h:Uni w N p):Len8 p:=fun t ht=>(h t ht).1
theorem Duo.len8 {v w:Nat} {N M:Int} {p:List Tm} (h:Duo v w N M p):Len8 p:=fun t ht=>(h t ht).1
theorem Uni.mono {w:Nat} {N M:Int} {p:List Tm} (h:Uni w N p) (hm:N<=M):Uni w M p:=fun t ht=>by
 obtain⟨a,b,c,d⟩:=h t ht;exact⟨a,b,c,by omega⟩
theorem Uni.nil {w:Nat} {N:Int}:Uni w N []:=fun t ht=>by simp at ht
theorem Uni.app {w:Nat} {N:Int} {p q:List Tm} (h:Uni w N p) (k:Uni w N q):Uni w N (p++q):=fun t ht=>by
 rcases List.mem_append.1 ht with h1 | h1
 ·exact h t h1
 ·exact k t h1
theorem Uni.nf {w:Nat} {N:Int} {p:List Tm} (h:Uni w N p):Uni w N (Go.Pl.nf p):=fun t ht=>by
 obtain⟨x,hx,he⟩:=nf_keys ht;rw[<-he];exact h x hx
theorem addM_getD {a b:Mn} (ha:a.length=8) (hb:b.length=8) {i:Nat} (hi:i<8):(addM a b).getD i 0=a.getD i 0+b.getD i 0:=by
 unfold addM;rw[qa,qa,qa,List.getElem?_zipWith,qb (by omega),qb (by omega)];rfl
theorem Uni.prod {w:Nat} {N M:Int} {p q:List Tm} (hw:w<8) (h:Uni w N p) (k:Uni w M q):Uni w (N+M) (prodT p q):=fun t ht=>by
 unfold prodT at ht;obtain⟨s,hs,ht⟩:=List.mem_flatMap.1 ht;obtain⟨u,hu,rfl⟩:=mem_map.1 ht;obtain⟨a1,a2,a3,a4⟩:=h s hs;obtain⟨b1,b2,b3,b4⟩:=k u hu;refine⟨addM_length a1 b1,fun i hi hne=>?_,?_⟩
 ·show(addM s.1 u.1).getD i 0=0;rw[addM_getD a1 b1 hi,a2 i hi hne,b2 i hi hne];rfl
 ·show 0<=(addM s.1 u.1).getD w 0/\(addM s.1 u.1).getD w 0<=N+M;rw[addM_getD a1 b1 hw];omega
theorem Uni.scale {w:Nat} {N:Int} {p:List Tm} {r:Rat} (h:Uni w N p):Uni w N (scaleT p r):=fun t ht=>by
 obtain⟨u,hu,rfl⟩:=mem_map.1 ht;exact h u hu
theorem getD_set_self {m:Mn} {v:Nat} {x:Int} (h:v<m.length):(m.set v x).getD v 0=x:=by
 rw[qa,qv h];rfl
theorem getD_set_other {m:Mn} {v i:Nat} {x:Int} (h:v≠i):(m.set v x).getD i 0=m.getD i 0:=by
 rw[qa,qm h,qa]
theorem Duo.part {v w:Nat} {Nv Nw:Int} {d:Int} {p:List Tm} (hv:v<8) (hvw:v≠w) (h:Duo v w Nv Nw p):Uni w Nw (partT v d p):=fun t ht=>by
 unfold partT at ht;obtain⟨u,hu,rfl⟩:=mem_map.1 ht;obtain⟨a1,a2,a3,a4⟩:=h u (List.mem_filter.1 hu).1;refine⟨by rw[qkb];exact a1,fun i hi hne=>?_,?_⟩
 ·by_cases hiv:i=v
  ·subst hiv;exact getD_set_self (by omega)
  ·show(u.1.set v 0).getD i 0=0;rw[getD_set_other (Ne.symm hiv)];exact a2 i hi hiv hne
 ·show 0<=(u.1.set v 0).getD w 0/\(u.1.set v 0).getD w 0<=Nw;rw[getD_set_other hvw];exact a4
theorem Duo.prim {v w:Nat} {Nv Nw:Int} {p:List Tm} (hv:v<8) (hvw:v≠w) (h:Duo v w Nv Nw p):Duo v w (Nv+1) Nw (primL v p):=fun t ht=>by
 obtain⟨u,hu,rfl⟩:=mem_map.1 ht;obtain⟨a1,a2,a3,a4⟩:=h u hu;refine⟨by rw[qkb];exact a1,fun i hi h1 h2=>?_,?_,?_⟩
 ·show(u.1.set v _).getD i 0=0;rw[getD_set_other (Ne.symm h1)];exact a2 i hi h1 h2
 ·show 0<=(u.1.set v _).getD v 0/\(u.1.set v _).getD v 0<=Nv+1;rw[getD_set_self (by omega)];omega
 ·show 0<=(u.1.set v _).getD w 0/\(u.1.set v _).getD w 0<=Nw;rw[getD_set_other hvw];exact a4
theorem Duo.deg {v w:Nat} {Nv Nw:Int} {p:List Tm} (hN: -1<=Nv) (h:Duo v w Nv Nw p):degT v p<=Nv:=degT_lt hN (fun t ht=>(h t ht).2.2.1.2)
theorem Duo.parts {v w:Nat} {Nv Nw:Int} {p:List Tm} (hv:v<8) (hvw:v≠w) (h:Duo v w Nv Nw p): ∀ c∈partsT v p,Uni w Nw c:=fun c hc=>by
 obtain⟨i,_,rfl⟩:=mem_map.1 hc;exact h.part hv hvw
theorem horn_uni {w:Nat} (hw:w<8) {q:List Tm} (hq:Uni w 1 q) {N:Int}: ∀ {cs:List (List Tm)},(∀ c∈cs,Uni w N c)->Uni w (N+cs.length) (hornT q cs)
 | [],_=>Uni.nil
 | c::cs,h=>by
  have ih:=horn_uni hw hq (fun c hc=>h c (mem_cons_of_mem _ hc));have e:N+(((c::cs).length:Nat):Int)=N+(cs.length:Int)+1:=by rw[length_cons];omega
  rw[e];exact((ih.prod hw hq).app ((h c (by simp)).mono (by omega))).nf
theorem gtM_uni {w:Nat} (_hw:w<8) {a b:Mn} (ha:a.length=8) (hb:b.length=8) (h1: ∀ i,i<8->i≠w->a.getD i 0=0) (h2: ∀ i,i<8->i≠w->b.getD i 0=0) (h:gtM a b=true):a.getD w 0≠b.getD w 0:=fun he=>by
 refine gtM_ne h (List.ext_getElem (by omega) (fun i hi1 hi2=>?_));have e:a.getD i 0=b.getD i 0:=by
  by_cases hiw:i=w
  ·rw[hiw];exact he
  ·rw[h1 i (by omega) hiw,h2 i (by omega) hiw]
 rw[qa,qb hi1,qa,qb hi2] at e;exact e
theorem nodup_len: ∀ (N:Nat) (l:List Int),l.Nodup->(∀ x∈l,0<=x/\x<N)->l.length<=N
 | 0,l,_,h=>by
  match l with
  | []=>simp
  | x::l=>have:=h x (by simp);omega
 | N+1,l,hd,h=>by
  by_cases hm:(N:Int)∈l
  ·have h1:=nodup_len N (l.erase N) (hd.erase _) (fun x hx=>by
    have h2:=h x (List.mem_of_mem_erase hx);have h3:x≠N:=fun he=>by rw[he] at hx;exact(List.Nodup.not_mem_erase hd) hx
    omega)
   rw[List.length_erase_of_mem hm] at h1;omega
  ·have h1:=nodup_len N l hd (fun x hx=>by
    have h2:=h x hx;have h3:x≠N:=fun he=>hm (by rw[<-he];exact hx)
    omega)
   omega
theorem uni_len {w:Nat} (hw:w<8) {N:Nat} {p:List Tm} (hc:Canon p) (h:Uni w N p):p.length<=N+1:=by
 have h1:(p.map (fun t=>t.1.getD w 0)).Nodup:=by
  have:p.Pairwise (fun a b=>(fun t:Tm=>t.1.getD w 0) a≠(fun t:Tm=>t.1.getD w 0) b):=by
   refine List.Pairwise.imp_of_mem (fun{a b} ha hb hg=>?_) hc.sorted;exact gtM_uni hw (h a ha).1 (h b hb).1 (h a ha).2.1 (h b hb).2.1 hg
  exact List.pairwise_map.2 this
 have h2:=nodup_len (N+1) _ h1 (fun x hx=>by
  obtain⟨t,ht,rfl⟩:=mem_map.1 hx;have:=(h t ht).2.2;omega)
 rw[length_map] at h2;exact h2
theorem DM.prim {D v F:Nat} (hF:0<F): ∀ {p:List Tm} {M:Nat},DM D p M->(∀ t∈p,0<=t.1.getD v 0/\(t.1.getD v 0+1).toNat∣F)->DM (D*F) (primL v p) (M*F)
 | [],_,_,_=>trivial
 | t::p,M,⟨z,N,h1,h2,h3⟩,he=>by
  obtain⟨h4,h5⟩:=he t (by simp);obtain⟨g,hg⟩:=h5;obtain⟨e,hee⟩: ∃ e:Nat,t.1.getD v 0+1=(e:Int):=⟨(t.1.getD v 0+1).toNat,by omega⟩;rw[hee,Int.toNat_natCast] at hg;have he0:e≠0:=by omega
  have hg0:g≠0:=fun h0=>by rw[h0] at hg;omega
  refine⟨z*g,N*F,?_,?_,DM.prim hF h3 (fun u hu=>he u (mem_cons_of_mem _ hu))⟩
  ·show t.2 / ((t.1.getD v 0:Rat)+1)=mkRat (z*g) (D*F);rw[cast_succ,hee,h1,hg];by_cases hD:D=0
   ·subst hD;simp;rw[Rat.div_def,Rat.zero_mul]
   ·have e1:mkRat (z*g) (D*(e*g))=mkRat z (D*e):=by
     rw[show D*(e*g)=(D*e)*g by rw[Nat.mul_assoc]];exact(mkRat_lift (z:=z) (D:=D*e) hg0).symm
    rw[e1];have e2:((e:Int):Rat)≠0:=intCast_ne (by omega);have e3:mkRat z D=mkRat z (D*e)*((e:Int):Rat):=by
     rw[show((e:Int):Rat)=mkRat (e:Int) 1 by rw[Rat.mkRat_one],mkRat_prod,Nat.mul_one,<-mkRat_lift he0]
    rw[e3];grind
  ·have h6:(z*(g:Int)).natAbs=z.natAbs*g:=by rw[Int.natAbs_mul,Int.natAbs_natCast]
   rw[h6];have h7:z.natAbs*g<=z.natAbs*F:=Nat.mul_le_mul_left _ (Nat.le_of_dvd hF ⟨e,by rw[hg,Nat.mul_comm]⟩);have h8:=qn F h2;rw[Nat.add_mul] at h8;omega
theorem PB.prim {k v F:Nat} {p:List Tm} (hF:0<F) (hFB:F<B) (h:PB k p) (he: ∀ t∈p,0<=t.1.getD v 0/\(t.1.getD v 0+1).toNat∣F):PB (k+1) (primL v p):=by
 obtain⟨D,M,h1,h2,h3,h4⟩:=h;have hp:0<B^k:=qeb (by decide);refine⟨D*F,M*F,Nat.mul_pos h1 hF,?_,?_,h4.prim hF he⟩
 ·rw[Nat.pow_succ];exact Nat.mul_lt_mul'' h2 hFB
 ·rw[Nat.pow_succ];exact Nat.mul_lt_mul'' h3 hFB
structure U1 (w N k:Nat) (p:List Tm):Prop where
 can:Canon p
 uni:Uni w N p
 pb:PB k p
theorem PB.flat {k:Nat} (hk:1<=k): ∀ {l:List (List Tm)},(∀ p∈l,PB k p)->PB (l.length*(k+1)+1) l.flatten
 | [],_=>(PB.nil (qp 1)).mono (by simp)
 | p::l,h=>by
  have ih:=PB.flat hk (fun q hq=>h q (mem_cons_of_mem _ hq));refine((h p (by simp)).append ih).mono ?_;rw[length_cons,Nat.add_mul];omega
end Go.Pl
