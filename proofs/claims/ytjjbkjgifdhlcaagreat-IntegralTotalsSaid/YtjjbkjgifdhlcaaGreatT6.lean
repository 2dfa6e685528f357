/- The abstract machine:maps. -/
import Derived.Test.YtjjbkjgifdhlcaaGreatT5
import Derived.MapKept
import Derived.Test.YtjjbkjgifdhlcaaGreatT1
set_option linter.all false
open List (append_assoc append_nil getElem?_append_right getElem?_of_mem getElem?_set_ne getElem?_take length_cons length_drop length_set map_cons mem_iff_getElem mem_map mem_of_getElem? nil_append range' replicate set_append_left)
namespace Go.AM
section
variable {P:Program} {T:Tab}
theorem VQ {c:PV} {n:Int} (h:Uz c=some n):c= .fv (.lit (.int .i64 n)):=by
 unfold Uz at h;split at h
 .cases h;rfl
 cases h
theorem DE: ∀ (cs:List PV) (ks:List Int),sI cs=some ks->cs=ks.map (fun n=> .fv (.lit (.int .i64 n)))
 | [],ks,h=>by simp[sI] at h;subst h;rfl
 | c::cs,ks,h=>by
  simp only[sI] at h;split at h
  .rename_i n ns h1 h2;cases h;rw[map_cons,<-DE cs ns h2,VQ h1]
  cases h
theorem MR {w:World} {X:Nat->Prop} {ρ:Places} {u:Value} {x:PV} {ks:List Int} (h:PRd w X ρ u x) (hk:pS x=some ks):u= .agg (ks.map (Value.int .i64)).toArray:=by
 unfold pS at hk;split at hk;rotate_left
 .cases hk
 have:=DE _ _ hk;subst this;cases h with
 | agg us _ hn h1 hr=>
  congr 1;apply Array.ext
  .simpa using hn
  intro i nj iR;have:=hr i us[i] (.fv (.lit (.int .i64 (ks[i]'(by simpa using iR))))) (by simp[nj]) (by simp at iR;simp[iR]);have h2:=this.litInv;rw[h2];simp
theorem HL {a b:List Int} (h:(Value.agg (a.map (Value.int .i64)).toArray)= .agg (b.map (Value.int .i64)).toArray):a=b:=by
 injection h with h
 have h2:a.map (Value.int .i64)=b.map (Value.int .i64):=by
  have:=congrArg Array.toList h;simpa using this
 exact(List.map_inj_right (fun x y e=>by injection e)).1 h2
theorem EY {es:List (List Int×PV)} {k:List Int} (h: ∀ e∈es,e.1≠k):d' es k=none:=by
 unfold d';rw[Option.map_eq_none_iff,List.find?_eq_none];intro e he hk;exact h e he (by simpa using hk)
theorem vi: ∀ {es:List (List Int×PV)} {k:List Int} {v:PV} {i:Nat},(es.map (·.1)).Nodup->es[i]?=some (k,v)->d' es k=some v
 | [],k,v,i,_,h=>by simp at h
 | e::es,k,v,i,hn,h=>by
  unfold d';rw[map_cons,List.nodup_cons] at hn;cases i with
  | zero=>
   simp at h;subst h;simp
  | succ i=>
   simp at h;have aY:k∈es.map (·.1):=mem_map.2 ⟨(k,v),mem_of_getElem? h,rfl⟩;have e7:(e.1==k)=false:=by
    rw[qx];intro he;exact hn.1 (he ▸ aY)
   rw[List.find?_cons,e7];exact vi hn.2 h
theorem HM {w:World} {X:Nat->Prop} {ρ ρ':Places} {u:Value} {x:PV} (h:PRd w X ρ u x) (hs:still x=true):PRd w X ρ' u x:=by
 unfold still at hs;split at hs
 .cases h with | fv _ _ hf=>exact .fv _ _ hf
 .rename_i cs;rw[vP] at hs;cases h with
  | agg us _ hn h1 hr=>
   refine .agg us cs hn h1 (fun i v c hv hc=>?_);have pz:=hs c (mem_of_getElem? hc);have hp:=hr i v c hv hc;split at pz
   .cases hp with | fv _ _ hf=>exact .fv _ _ hf
   cases pz
 cases hs
theorem MS {w:World} {X:Nat->Prop} {ρ:Places} {u:Value} {id:Nat} (h:PRd w X ρ u (.tab id)): ∃ g p,u= .map (some g)/\ρ[id]?=some (some p)/\p.b=some g:=by
 cases h with | tab _ g p hp hg=>exact⟨g,p,rfl,hp,hg⟩
theorem HN (_hT:cQ P T) (t:TypeId):EffOp P T (.makeMap t none):=by
 intro c w X ρ H D R o e ρv r ho h hD hρ au hc aF;simp only[cq] at au;split at au;rotate_left
 .cases au
 rename_i i hi;split at au;rotate_left
 .cases au
 rename_i n _ hd;cases au;obtain⟨d,rfl⟩:=o8 (D:=D) (by simp at aF;omega);have ZC:=hD H.length (qp _) (by simp);let p:Place:=⟨some w.heap.size,0,0,0⟩;have aL:H.length<ρ.length:=(List.getElem?_eq_some_iff.1 ZC).1;have hg:=World.grownBy_alloc w (.map #[] 0) none;have hF:(H++([d]++R)).set H.length (.tab n [])=(H++[.tab n []])++R:=by simp
 have bS:=h.put (id:=H.length) (p:=p) (ob:= .tab n []) (row:=none) (w':=w.alloc (.map #[] 0)) (by simp) (.inl ZC) hg (by simp)
  (fun j q o g hj hq ho hr hb=>⟨by simp,by
   have:=(h.own j q o g hq ho hr hb).2;intro he;simp only[p,qo] at he;omega⟩)
  (fun g hg=>by simp only[p,qo] at hg;left;omega)
  (fun g hg=>by simp only[p,qo] at hg;subst hg;exact⟨.inl h.ge,by simp⟩)
  (by simp)
  ⟨⟨by simp,w.heap.size,0,#[],rfl,heap_alloc_new w _,rfl,by simp,fun i e k v he hv=>by simp at he⟩,fun g hg=> .inr hg⟩
 rw[hF] at bS;refine⟨_,_,_,_,.inl ?_,bS.2,bS.1,.tab H.length w.heap.size p (by simp[aL]) rfl,fun id eD=>by
  rw[getElem?_set_ne (by simp at eD;omega)]⟩
 simp[execOp,ho,Instr.makeMap]
theorem EZ (hT:cQ P T) (t:TypeId) (m k:Operand) (ok:Bool):eS P T (.lookup t m k ok):=by
 intro c w X ρ H F o e ρv r lo hi ho h hH hρ au hc;have hm:=hρ m (by simp[Op.operands]);have hk:=hρ k (by simp[Op.operands]);simp only[cq] at au;split at au;rotate_left
 .cases au
 rename_i i id ks hi hmv hkv;split at au;rotate_left
 .cases au
 rename_i n zv n2 es hd gM;split at au;rotate_left
 .cases au
 rename_i mI;obtain⟨aF,rfl⟩:=mI;simp only[Res.if,qo] at au;subst au;rw[hmv] at hm;obtain⟨g,p,Fz,hp,pQ⟩:=MS hm;have hku:=MR hk hkv;obtain⟨⟨PJ,g2,clock,vs,fg,hh,dQ,oh,hcell⟩,_⟩:=h.ob id p _ hp (hH id _ gM);rw[pQ] at fg;cases fg;have PZ:=(hT _ _ hi).desc;rw[hd] at PZ;obtain⟨kt,el,ti,z,hu,fP,hz,ck,hzr,PQ,KX⟩:=PZ;obtain⟨lk,Nl⟩:=KX ks aF hc;have BK:=fun em=>PQ.check w em Nl
 have cI:(getObj g).run P w= .ok (.map vs clock) w:=by simp[getObj,Sem.run,hh]
 have T1: ∀ (j:Nat) ent,vs[j]?=some ent-> ∃ k' v',es[j]?=some (k',v')/\ent.key= .agg (k'.map (Value.int .i64)).toArray/\still v'=true/\PRd w X [] ent.val v':=by
  intro j ent hj;have aL:j<es.length:=by rw[<-dQ];exact(Array.getElem?_eq_some_iff.1 hj).1
  obtain⟨a1,a2,a3⟩:=hcell j ent es[j].1 es[j].2 hj (by simp[aL]);exact⟨_,_,by simp[aL],a1,a2,a3⟩
 have pO: ∀ e∈vs.toList,∃ l,keyOf P kt e.key=some l:=by
  intro ent he;obtain⟨j,hj,Nc⟩:=mem_iff_getElem.1 he;obtain⟨k',v',h1,h2,_⟩:=T1 j ent (by rw[<-Nc];simp at hj;simp[hj]);obtain⟨b1,b2⟩:=PJ _ (mem_of_getElem? h1);rw[h2];exact KX k' b1 b2
 have hzv:(zeroValue el).run P w= .ok z w:=by simp[zeroValue,typeInfo,fP,hz]
 rcases PQ.find w Nl vs.toList pO with⟨hf,vK⟩ | ⟨j,ent,hf,hj,Tk⟩
 .have ahX:d' es ks=none:=by
   refine EY (fun e he PN=>?_);obtain⟨j,hj,Nc⟩:=mem_iff_getElem.1 he;have hjv:j<vs.size:=by rw[dQ];exact hj
   obtain⟨a1,_,_⟩:=hcell j vs[j] e.1 e.2 (by simp[hjv]) (by rw[qb hj,Nc]);exact vK vs[j] (Array.mem_toList_iff.2 (Array.getElem_mem hjv)) (by rw[a1,PN])
  refine⟨rfl,OpOK.still (u:=if ok then .tuple #[z,.bool false] else z) h ?_ ?_⟩
  .simp only[execOp,ho,Fz,hku];cases ok<;>simp[Instr.lookup,run_underlying hu,cI,BK,hf,hzv]
  rw[ahX];cases ok with
  | false=>exact hzr w X ρ
  | true=>exact .tup _ _ rfl (fun i u c hu hc=>by
   match i with
   | 0=>simp at hu hc;subst hu;subst hc;exact hzr w X ρ
   | 1=>simp at hu hc;subst hu;subst hc;exact .fv _ _ (.lit _ rfl)
   | i+2=>simp at hu)
 obtain⟨k',v',h1,h2,h3,h4⟩:=T1 j ent (by simpa using hj);have I_:k'=ks:=HL (h2.symm.trans Tk);rw[I_] at h1;have ahZ:=vi oh h1;have hv:PRd w X ρ ent.val v':=HM h4 h3;refine⟨rfl,OpOK.still (u:=if ok then .tuple #[ent.val,.bool true] else ent.val) h ?_ ?_⟩
 .simp only[execOp,ho,Fz,hku];cases ok<;>simp[Instr.lookup,run_underlying hu,cI,BK,hf]
 rw[ahZ];cases ok with
 | false=>exact hv
 | true=>exact .tup _ _ rfl (fun i u c hu hc=>by
  match i with
  | 0=>simp at hu hc;subst hu;subst hc;exact hv
  | 1=>simp at hu hc;subst hu;subst hc;exact .fv _ _ (.lit _ rfl)
  | i+2=>simp at hu)
theorem xD: ∀ {es:List (List Int×PV)} {k:List Int} {v:PV},(∀ e∈es,e.1≠k)->kh es k v=es++[(k,v)]
 | [],k,v,_=>rfl
 | e::es,k,v,h=>by
  have e7:(e.1==k)=false:=by rw[qx];exact h e (by simp)
  simp only[kh,e7];rw[xD (fun e he=>h e (ql _ he))];rfl
theorem xE: ∀ {es:List (List Int×PV)} {k:List Int} {v u:PV} {i:Nat},(es.map (·.1)).Nodup->es[i]?=some (k,u)->kh es k v=es.set i (k,v)
 | [],k,v,u,i,_,h=>by simp at h
 | e::es,k,v,u,i,hn,h=>by
  rw[map_cons,List.nodup_cons] at hn;cases i with
  | zero=>
   simp at h;subst h;simp[kh]
  | succ i=>
   simp at h;have aY:k∈es.map (·.1):=mem_map.2 ⟨(k,u),mem_of_getElem? h,rfl⟩;have e7:(e.1==k)=false:=by
    rw[qx];intro he;exact hn.1 (he ▸ aY)
   simp only[kh,e7];rw[xE hn.2 h];rfl
theorem HRd.reTab {c:gZ} {w:World} {X:Nat->Prop} {ρ:Places} {F:List Ob} (h:HRd c w X ρ F) {id g n:Nat} {p:Place} {es es':List (List Int×PV)} {vs vs':Array MapEntry} {clock clock':Nat}
 (hp:ρ[id]?=some (some p)) (gM:F[id]?=some (.tab n es)) (pQ:p.b=some g) (hh:w.heap[g]?=some (.map vs clock))
 (PJ: ∀ e∈es',e.1.length=n/\ ∀ x∈e.1,-9223372036854775808<=x/\x<9223372036854775808) (dQ:vs'.size=es'.length) (oh:(es'.map (·.1)).Nodup)
 (hcell: ∀ (i:Nat) e k v,vs'[i]?=some e->es'[i]?=some (k,v)->e.key= .agg (k.map (Value.int .i64)).toArray/\still v=true/\PRd w X [] e.val v):
 ∃ X',Stp c w {w with heap:=w.heap.setIfInBounds g (.map vs' clock')} X X' ρ ρ/\HRd c {w with heap:=w.heap.setIfInBounds g (.map vs' clock')} X' ρ (F.set id (.tab n es')):=by
 have aL:g<w.heap.size:=(Array.getElem?_eq_some_iff.1 hh).1
 have w7:X g:=(h.ob id p _ hp gM).2 g pQ
 have pN:w.grownBy {w with heap:=w.heap.setIfInBounds g (.map vs' clock')} (some g):=
  ⟨rfl,rfl,rfl,by simp,fun k _ hk=>by simp[Array.getElem?_setIfInBounds_ne (show g≠k from fun e=>hk (by rw[e]))]⟩
 have kv: ∀ b,(X b\/p.b=some b)->X b:=fun b hb=>by
  rcases hb with hb | hb
  .exact hb
  rw[pQ] at hb;cases hb;exact w7
 have bS:=h.put (id:=id) (p:=p) (ob:= .tab n es') (row:=some g) (w':={w with heap:=w.heap.setIfInBounds g (.map vs' clock')}) (List.getElem?_eq_some_iff.1 gM).1 (.inr hp) pN
  (by intro g' kA;cases kA;exact w7)
  (fun j2 q o2 g2 wZ hq fE iM eI=>by
   have e7:g2≠g:=by
    intro he;subst he;exact wZ (h.inj j2 id q p o2 _ g2 hq hp fE gM iM rfl eI pQ)
   exact⟨by simp[e7],by rw[pQ];simp;exact fun he=>e7 he.symm⟩)
  (fun g2 fg=>by rw[pQ] at fg;cases fg;exact .inr w7)
  (fun g2 fg=>by rw[pQ] at fg;cases fg;exact⟨(h.own id p _ g hp gM rfl pQ).1,Nat.lt_of_lt_of_le (h.own id p _ g hp gM rfl pQ).2 pN.size⟩)
  (fun g2 fg=>by cases fg;exact(h.own id p _ g hp gM rfl pQ).1)
  ⟨⟨PJ,g,clock',vs',pQ,by simp[aL],dQ,oh,fun i e k v he hv=>by
   obtain⟨a1,a2,a3⟩:=hcell i e k v he hv;exact⟨a1,a2,a3.mono ⟨pN.size,fun b hb mG=>pN.block b hb (fun he=>mG (by cases he;exact w7))⟩ (fun b _ hb=>kv b hb) (Places.Le.refl [])⟩⟩,fun g2 fg=> .inr fg⟩
 rw[qN hp] at bS
 exact⟨_,bS.2,bS.1⟩
theorem B8 (hT:cQ P T) (t:TypeId) (m k x:Operand):EffOp P T (.mapUpdate t m k x):=by
 intro c w X ρ H D R o e ρv r ho h hD hρ au hc aF;have hm:=hρ m (by simp[Op.operands]);have hk:=hρ k (by simp[Op.operands]);have hx:=hρ x (by simp[Op.operands]);simp only[cq] at au;split at au;rotate_left
 .cases au
 rename_i i id ks hi hmv hkv;split at au;rotate_left
 .cases au
 rename_i n zv n2 es hd gM;split at au;rotate_left
 .cases au
 rename_i mI;obtain⟨pL,rfl,hsx⟩:=mI;cases au;simp only at hc aF;have iS:D=[]:=List.eq_nil_of_length_eq_zero (by simp at aF;simpa using aF);subst iS;rw[hmv] at hm;obtain⟨g,p,Fz,hp,pQ⟩:=MS hm;have hku:=MR hk hkv;have ab9:(H++([]++R))[id]?=some (.tab n2 es):=bP id _ gM;obtain⟨⟨PJ,g2,clock,vs,fg,hh,dQ,oh,hcell⟩,_⟩:=h.ob id p _ hp ab9;rw[pQ] at fg;cases fg;have PZ:=(hT _ _ hi).desc;rw[hd] at PZ;obtain⟨kt,el,ti,z,hu,fP,hz,ck,hzr,PQ,KX⟩:=PZ;obtain⟨lk,Nl⟩:=KX ks pL hc;have BK:=fun em=>PQ.check w em Nl
 have ah0:=PQ.stays w Nl;have cI:(getObj g).run P w= .ok (.map vs clock) w:=by simp[getObj,Sem.run,hh]
 have bn: ∀ ob:Obj,(setObj g ob).run P w= .ok () {w with heap:=w.heap.setIfInBounds g ob}:=fun ob=>by simp[setObj,Sem.run,hh]
 have hxr:PRd w X [] (e x) (ρv x):=HM hx hsx;have T1: ∀ (j:Nat) ent,vs[j]?=some ent-> ∃ k' v',es[j]?=some (k',v')/\ent.key= .agg (k'.map (Value.int .i64)).toArray/\still v'=true/\PRd w X [] ent.val v':=by
  intro j ent hj;have aL:j<es.length:=by rw[<-dQ];exact(Array.getElem?_eq_some_iff.1 hj).1
  obtain⟨a1,a2,a3⟩:=hcell j ent es[j].1 es[j].2 hj (by simp[aL]);exact⟨_,_,by simp[aL],a1,a2,a3⟩
 have pO: ∀ e∈vs.toList,∃ l,keyOf P kt e.key=some l:=by
  intro ent he;obtain⟨j,hj,Nc⟩:=mem_iff_getElem.1 he;obtain⟨k',v',h1,h2,_⟩:=T1 j ent (by rw[<-Nc];simp at hj;simp[hj]);obtain⟨b1,b2⟩:=PJ _ (mem_of_getElem? h1);rw[h2];exact KX k' b1 b2
 have T0: ∀ ob:Ob,(H++([]++R)).set id ob=H.set id ob++R:=fun ob=>by
  rw[nil_append,set_append_left _ _ (List.getElem?_eq_some_iff.1 gM).1]
 rcases PQ.find w Nl vs.toList pO with⟨hf,vK⟩ | ⟨j,ent,hf,hj,Tk⟩
 .have hnk: ∀ e∈es,e.1≠ks:=fun e he PN=>by
   obtain⟨j,hj,Nc⟩:=mem_iff_getElem.1 he;have hjv:j<vs.size:=by rw[dQ];exact hj
   obtain⟨a1,_,_⟩:=hcell j vs[j] e.1 e.2 (by simp[hjv]) (by rw[qb hj,Nc]);exact vK vs[j] (Array.mem_toList_iff.2 (Array.getElem_mem hjv)) (by rw[a1,PN])
  rw[xD hnk];obtain⟨X',hs,yX⟩:=h.reTab (es':=es++[(ks,ρv x)]) (vs':=vs.push {key:= .agg (ks.map (Value.int .i64)).toArray,val:=e x,born:=clock}) (clock':=clock+1) hp ab9 pQ hh
   (fun e he=>by
    rcases List.mem_append.1 he with he | he
    .exact PJ e he
    rw[qz] at he;subst he;exact⟨pL,hc⟩)
   (by simp[dQ])
   (by
    rw[tY,List.nodup_append];refine⟨oh,by simp,fun a ha b hb=>?_⟩;simp at hb;subst hb;obtain⟨e,he,rfl⟩:=mem_map.1 ha;exact hnk e he)
   (fun i e2 k2 v2 Jb ow=>by
    by_cases iR:i<vs.size
    .rw[Array.getElem?_push_lt iR] at Jb;rw[qi (by omega)] at ow;exact hcell i e2 k2 v2 (by rw[<-Jb];simp[iR]) ow
    have dJ:i=vs.size:=by
     have:=(List.getElem?_eq_some_iff.1 ow).1;simp at this;omega
    subst dJ;rw[getElem?_append_right (by omega),dQ] at ow;simp at Jb ow;obtain⟨rfl,rfl⟩:=ow;subst Jb;exact⟨rfl,hsx,hxr⟩)
  rw[T0] at yX;refine⟨undef,_,X',ρ,.inr ⟨?_,rfl⟩,hs,yX,.tup #[] [] rfl (by simp),fun _ _=>rfl⟩;simp only[execOp,ho,Fz,hku];simp[Instr.mapUpdate,run_underlying hu,cI,BK,hf,bn]
 obtain⟨k',v',h1,h2,h3,h4⟩:=T1 j ent (by simpa using hj);have I_:k'=ks:=HL (h2.symm.trans Tk);rw[I_] at h1;rw[xE oh h1];have hjs:j<vs.size:=by rw[dQ];exact(List.getElem?_eq_some_iff.1 h1).1
 have hvj:vs[j]?=some ent:=by simpa using hj
 obtain⟨X',hs,yX⟩:=h.reTab (es':=es.set j (ks,ρv x)) (vs':=vs.modify j fun q=>{q with key:= .agg (ks.map (Value.int .i64)).toArray,val:=e x}) (clock':=clock) hp ab9 pQ hh
  (fun e he=>by
   rcases List.mem_or_eq_of_mem_set he with he | he
   .exact PJ e he
   subst he;exact⟨pL,hc⟩)
  (by simp[dQ])
  (by
   have:(es.set j (ks,ρv x)).map (·.1)=es.map (·.1):=by
    apply List.ext_getElem?;intro q;rw[List.getElem?_map,List.getElem?_map];by_cases hq:j=q
    .subst hq;rw[qv (by omega),h1];rfl
    rw[getElem?_set_ne hq]
   rw[this];exact oh)
  (fun i e2 k2 v2 Jb ow=>by
   by_cases sE:j=i
   .subst sE;rw[qv (by omega)] at ow;cases ow;rw[Array.getElem?_modify,if_pos rfl,hvj] at Jb;cases Jb;exact⟨rfl,hsx,hxr⟩
   rw[getElem?_set_ne sE] at ow;rw[Array.getElem?_modify,if_neg sE] at Jb;exact hcell i e2 k2 v2 Jb ow)
 rw[T0] at yX;refine⟨undef,_,X',ρ,.inr ⟨?_,rfl⟩,hs,yX,.tup #[] [] rfl (by simp),fun _ _=>rfl⟩;have hvk:ent.key= .agg (ks.map (Value.int .i64)).toArray:=Tk;simp only[execOp,ho,Fz,hku];simp[Instr.mapUpdate,run_underlying hu,cI,BK,hf,bn,hvj,hvk,ah0]
end
end Go.AM
namespace Go.AM
section
variable {P:Program} {T:Tab}
theorem OE {w:World} {n l h m:Nat} {lo hi mx:Option Operand} {e:Operand->Value} {ρv:Operand->PV} {X:Nat->Prop} {ρ:Places}
 (ej: ∀ x∈lo.toArray,PRd w X ρ (e x) (ρv x)) (eC: ∀ x∈hi.toArray,PRd w X ρ (e x) (ρv x)) (Pk: ∀ x∈mx.toArray,PRd w X ρ (e x) (ρv x)) {c1 c2 c3:Prop} (P8:mx.isSome=true->hi.isSome=true)
 (dX:eV (lo.map ρv) 0=some (c1,l)) (eI:eV (hi.map ρv) n=some (c2,h)) (M6:eV (mx.map ρv) n=some (c3,m)) (sq:c1) (pz:c2) (Jd:c3) (K4:l<=h) (hhm:h<=m) (aca:m<=n):
 (Instr.sliceBounds false n n (lo.map e) (hi.map e) (mx.map e)).run P w= .ok (l,h,m) w:=by
 rcases n9 ej dX with⟨rfl,rfl,_⟩ | ⟨x,k,a,rfl,hx,rfl,rfl⟩<;>
  rcases n9 eC eI with⟨rfl,rfl,_⟩ | ⟨y,k',b,rfl,hy,rfl,rfl⟩<;>
   rcases n9 Pk M6 with⟨rfl,rfl,_⟩ | ⟨z,k2,d,rfl,hz,rfl,rfl⟩
 .simp[Instr.sliceBounds]
 .simp at P8
 .have h1:0<=b/\b<=(m:Int):=by omega
  simp[Instr.sliceBounds,Instr.sliceBound,hy,asIntOf,h1]
 .have h1:0<=d/\d<=(n:Int):=by omega
  have h2:0<=b/\b<=max d 0:=by omega
  simp[Instr.sliceBounds,Instr.sliceBound,hy,hz,asIntOf,h1,h2]
 .have h1:0<=a/\a<=(m:Int):=by omega
  simp[Instr.sliceBounds,Instr.sliceBound,hx,asIntOf,h1]
 .simp at P8
 .have h1:0<=b/\b<=(m:Int):=by omega
  have h2:0<=a/\a<=max b 0:=by omega
  simp[Instr.sliceBounds,Instr.sliceBound,hx,hy,asIntOf,h1,h2]
 have h1:0<=d/\d<=(n:Int):=by omega
 have h2:0<=b/\b<=max d 0:=by omega
 have h3:0<=a/\a<=max b 0:=by omega
 simp[Instr.sliceBounds,Instr.sliceBound,hx,hy,hz,asIntOf,h1,h2,h3]
theorem Ss {w:World} {X:Nat->Prop} {ad:Addr} {n m:Nat} {xs:List (List FV)} (hf:FRd w X (.slice (some ad) n n) (.sl xs)) (hm:m<=n):FRd w X (.slice (some ad) m m) (.sl (xs.take m)):=by
 cases hf with
 | sl _ _ _ s _ us hn hc hs h0 hX hb hcell hrd=>
  refine .sl ad m m s _ us (by simp;omega) (qp _) (fun x hx=>hs x (xW hx)) h0 (fun hz=>hX (by omega)) (fun hz=>hb (by omega)) (fun i j x y hx hy=>?_) (fun i j x y hx hy=>?_)
  .rw[getElem?_take] at hx;split at hx
   .exact hcell i j x y hx hy
   cases hx
  rw[getElem?_take] at hx;split at hx
  .exact hrd i j x y hx hy
  cases hx
theorem E0 (hT:cQ P T) {t:TypeId} {i:TyI} (hi:T.at t=some i) {n el:Nat} (l7:i.d= .arr n el) (x:Operand) (lo pj mx:Option Operand):EffOp P T (.slice t x lo pj mx):=by
 intro c w X ρ H D R o e ρv r ho h hD hρ au hc aF;have hx:=hρ x (by simp[Op.operands]);have ej: ∀ y∈lo.toArray,PRd w X ρ (e y) (ρv y):=fun y hy=>hρ y (by simp[Op.operands] at hy ⊢;simp[hy])
 have eC: ∀ y∈pj.toArray,PRd w X ρ (e y) (ρv y):=fun y hy=>hρ y (by simp[Op.operands] at hy ⊢;simp[hy])
 have Pk: ∀ y∈mx.toArray,PRd w X ρ (e y) (ρv y):=fun y hy=>hρ y (by simp[Op.operands] at hy ⊢;simp[hy])
 have hd:=(hT _ _ hi).desc;rw[l7] at hd;simp only[gq] at hd;simp only[cq,hi,l7] at au;split at au;rotate_left
 .cases au
 rename_i ie id j off c1 l c2 hh c3 m mO hv dX eI M6;rw[hv] at hx;split at au;rotate_left
 .cases au
 rename_i rw cs gM;split at au;rotate_left
 .cases au
 rename_i fs Fo;split at au;rotate_left
 .cases au
 rename_i hg;obtain⟨rfl,dW,Bf,P8⟩:=hg;cases au;have h5:(shutIds (id::((cs.drop off).take (n*ie.size)).flatMap fN) H).length=H.length+D.length:=aF;rw[bH] at h5;have iS:D=[]:=List.eq_nil_of_length_eq_zero (by omega);subst iS;obtain⟨sq,pz,Jd,K4,hhm,aca,PO⟩:=hc;obtain⟨ti,z,fP,en,_⟩:=(hT _ _ mO).info;have q6: ∀ k∈id::((cs.drop off).take (n*ie.size)).flatMap fN,k<H.length:=by
  intro k hk;rw[BL] at hk;rcases hk with rfl | hk
  .exact(List.getElem?_eq_some_iff.1 gM).1
  exact si Fo k hk
 generalize mP:e x=u at hx;cases hx with
 | ptr _ _ _ g p hp jk=>
  have amN:=OE (P:=P) (w:=w) ej eC Pk P8 dX eI M6 sq pz Jd K4 hhm aca;refine OpOK.shutting q6 h (u:= .slice (if m=l then some ⟨g,off,none⟩ else(some (⟨g,off,none⟩:Addr)).map (·.add (l*ie.size))) (hh - l) (m - l)) ?_ (fun X' hX hn=>?_)
  .have he:(0*p.size+off)=off:=by omega
   rw[he] at mP;simp only[execOp,ho,mP];simp only[Instr.sliceAt,Sem.run_bind,run_underlying hd,Result.andThen_ok,Instr.sureAddr,Sem.run_pure,amN,sizeOf,typeInfo,run_program,fP,en];split<;>simp
  obtain⟨⟨g',us,kA,hhp,dQ,dh,hcell⟩,_⟩:=h.ob id p _ hp (bP id _ gM);rw[jk] at kA;cases kA;have nt:fs.length=n*ie.size:=by rw[gK Fo];simp;omega
  have Qc: ∀ (k:Nat) y,fs[k]?=some y->w.cell? ⟨g,off+k,none⟩=some (us.getD (off+k) undef)/\FRd w X' (us.getD (off+k) undef) y:=by
   intro k y hy;have hk:k<n*ie.size:=by rw[<-nt];exact(List.getElem?_eq_some_iff.1 hy).1
   have aL:off+k<us.size:=by omega
   have hc5:((cs.drop off).take (n*ie.size))[k]?=some cs[off+k]:=by
    rw[getElem?_take,if_pos hk,List.getElem?_drop];simp[show off+k<cs.length by omega]
   obtain⟨y',DZ,PK⟩:=mD Fo k _ hc5;rw[hy] at DZ;cases DZ;rw[show us.getD (off+k) undef=us[off+k] by simp[aL]];refine⟨by rw[cell_of_row w g _ us _ _ hhp];simp[aL],?_⟩;refine m7 h bP (hcell _ _ _ (Array.getElem?_eq_getElem aL) (by simp[show off+k<cs.length by omega])) PK hX (fun k2 jF=>hn k2 ?_);rw[BL,List.mem_flatMap];exact .inr ⟨_,mem_of_getElem? hc5,jF⟩
  have TZ:FRd w X' (.slice (some ⟨g,off,none⟩) n n) (.sl (d4 ie.size n fs)):=by
   refine .sl _ n n ie.size _ (fun i j=>us.getD (off+(i*ie.size+j)) undef) (h_ _ _ _) (qp _) (tI nt) rfl (fun _=>hn id (by simp) p _ g hp (bP id _ gM) trivial jk) (fun _=>(Array.getElem?_eq_some_iff.1 hhp).1) (fun i j x y hx hy=>?_) (fun i j x y hx hy=>?_)
   .exact(Qc _ _ (qM hx hy).1).1
   exact(Qc _ _ (qM hx hy).1).2
  have kv:=EP (Ss TZ aca) (sz:=ie.size) (fun x hx=>tI nt x (xW hx)) (cap:=m) K4 hhm;have hte:(((d4 ie.size n fs).take m).drop l).take (hh - l)=((d4 ie.size n fs).drop l).take (hh - l):=by
   rw[List.drop_take,List.take_take,Nat.min_eq_left (by omega)]
  rw[hte] at kv;show PRd w X' ρ _ (if m=hh then _ else _);by_cases hmh:m=hh
  .rw[if_pos hmh];have e1:m - l=hh - l:=by rw[hmh]
   rw[e1] at kv ⊢;exact .clip _ _ _ kv
  rw[if_neg hmh];exact .fv _ _ kv
theorem xF {w:World} {t:TypeId} {ti:TypeInfo} (fP:P.info? t=some ti) {v:Value} (hv:v.cells.size=ti.size) {g o e':Nat} {cur:Array Value} (hg:w.heap[g]?=some (.cells cur e' (0,0)))
 (hl:o+v.cells.size<=cur.size) (h1: ∀ (i:Nat) u,v.cells[i]?=some u->u.oneCell'=true):
 (Instr.storeAt t (.pointer (some ⟨g,o,none⟩)) v).run P w= .ok () (w.setRow g (cur.toList.take o++v.cells.toList++cur.toList.drop (o+v.cells.size)).toArray):=by
 have ck:=run_storeCells_at P g o e' v.cells.toList 0 cur w hg (by simpa using hl) (fun u hu=>by
  obtain⟨i,hi⟩:=getElem?_of_mem hu;exact h1 i u (by simpa using hi))
 simp only[Nat.add_zero,Array.length_toList] at ck
 simp[Instr.storeAt,Instr.sureAddr,storeVar,sizeOf,typeInfo,fP,hv,ck]
theorem OG (hT:cQ P T) (t:TypeId) (a x:Operand):EffOp P T (.store t a x):=by
 intro c w X ρ H D R o e ρv r ho h hD hρ au hc aF;have ha:=hρ a (by simp[Op.operands]);have hx:=hρ x (by simp[Op.operands]);simp only[cq] at au;split at au;rotate_left
 .cases au
 rename_i i hi;obtain⟨ti,z,fP,en,_⟩:=(hT _ _ hi).info;split at au;rotate_left
 .cases au
 rename_i id j off hv;rw[hv] at ha;split at au;rotate_left
 .cases au
 rename_i cd H' ck;cases au;obtain⟨lS,fr,dW⟩:=hc;obtain⟨fL,dh⟩:=tG hx (by omega);have PR:=AP hx;generalize mP:e a=u at ha;cases ha with
 | ptr _ _ _ g p hp jk=>
  unfold storeAt at ck;split at ck
  .rename_i xs0 gM;split at ck;rotate_left
   .cases ck
   rename_i fs xs Fo PS;cases ck;have q6:=si Fo;have K8:((ia H (ρv x).cells).set id (Ob.row true (xs.set j (fF (xs.getD j []) off fs)))).length=H.length+D.length:=aF;rw[length_set] at K8;unfold ia at K8;rw[bH] at K8;have iS:D=[]:=List.eq_nil_of_length_eq_zero (by omega);subst iS;obtain⟨X1,h1,vu,lR⟩:=h.shutIds ((ρv x).cells.flatMap fN);rw[fK _ q6] at h1;obtain⟨kD,PO⟩:=lS;have fk:(shutIds ((ρv x).cells.flatMap fN) H++([]++R))[id]?=some (.row true xs):=bP id _ PS;obtain⟨⟨BC,mQ,us,gX,TY⟩,BD⟩:=h1.ob id p _ hp fk;have w7:X1 g:=(BD g jk).1 rfl;have pD:w.ownsRow 0 p.e p.size (.slice (some ⟨g,0,none⟩) xs.length p.cap) xs.length us:=by simpa [Place.val,jk] using gX
   obtain⟨A',fB⟩:=pD;rcases fB with⟨h5,_⟩ | ⟨g',cap',cur,h5,_,kC,mL,sC,w8,vC⟩
   .cases h5
   cases h5;have Xq:xs[j]?=some (xs.getD j []):=by simp[kD]
   have hxj:(xs.getD j []).length=p.size:=mQ _ (mem_of_getElem? Xq);have yu:(j+1)*p.size<=xs.length*p.size:=qn _ kD;have IM:xs.length*p.size<=p.cap*p.size:=qn _ mL;rw[Nat.add_mul] at yu;have amP:=gK Fo;have dC:=xF (P:=P) (w:=w) fP (v:=e x) (by omega) (o:=j*p.size+off) kC (by omega) dh;have pN:=jc w g (cur.toList.take (j*p.size+off)++(e x).cells.toList++cur.toList.drop (j*p.size+off+(e x).cells.size)).toArray;have cI:=fun k=>jd (cur:=cur) (o:=j*p.size+off) (vs:=(e x).cells.toList) (by simp;omega) k
   simp only[Array.length_toList,Array.getElem?_toList] at cI;have sZ:=setRow_heap w g cur (cur.toList.take (j*p.size+off)++(e x).cells.toList++cur.toList.drop (j*p.size+off+(e x).cells.size)).toArray p.e (0,0) kC;have eW:(execOp e o).run P w= .ok .skip (w.setRow g (cur.toList.take (j*p.size+off)++(e x).cells.toList++cur.toList.drop (j*p.size+off+(e x).cells.size)).toArray):=by
    simp only[execOp,ho,mP,Sem.run_bind,dC,Result.andThen_ok,Sem.run_pure]
   generalize kW:(cur.toList.take (j*p.size+off)++(e x).cells.toList++cur.toList.drop (j*p.size+off+(e x).cells.size)).toArray=new at eW pN cI sZ;have IQ:new.size=cur.size:=by
    rw[<-kW];simp;omega
   have acb: ∀ (k:Nat),k<xs.length*p.size->us[k]?=cur[k]?:=by
    intro k hk;rw[<-vC,getElem?_take,if_pos hk];simp
   have BE:(w.setRow g new).ownsRow 0 p.e p.size (.slice (some ⟨g,0,none⟩) xs.length p.cap) xs.length (new.toList.take (xs.length*p.size)):=by
    refine⟨by have e9:new.toList.length=cur.size:=IQ;rw[qf,e9,w8,Nat.min_eq_left IM],.inr ⟨g,p.cap,new,rfl,dk _,sZ,mL,sC,by rw[IQ,w8],rfl⟩⟩
   have amQ: ∀ (k:Nat) u y,(e x).cells[k]?=some u->fs[k]?=some y->FRd w X1 u y:=by
    intro k u y hu hy;have aL:k<(ρv x).cells.length:=by rw[<-amP];exact(List.getElem?_eq_some_iff.1 hy).1
    obtain⟨y',DZ,PK⟩:=mD Fo k (ρv x).cells[k] (by simp[aL]);rw[hy] at DZ;cases DZ;refine m7 h bP (PR k u _ hu (by simp[aL])) PK vu (fun k2 jF=>lR k2 ?_);rw[List.mem_flatMap];exact⟨_,by simp,jF⟩
   have bS:=h1.put (id:=id) (p:=p) (ob:= .row true (xs.set j (fF (xs.getD j []) off fs))) (row:=some g) (w':=w.setRow g new) (by have:=(List.getElem?_eq_some_iff.1 fk).1;exact this) (.inr hp) pN
    (by intro g' kA;cases kA;exact w7)
    (fun j2 q o2 g2 wZ hq fE iM eI=>by
     have e7:g2≠g:=by
      intro he;subst he;exact wZ (h1.inj j2 id q p o2 _ g2 hq hp fE fk iM rfl eI jk)
     exact⟨by simp[e7],by rw[jk];simp;exact fun he=>e7 he.symm⟩)
    (fun g2 fg=>by rw[jk] at fg;cases fg;exact .inr w7)
    (fun g2 fg=>by rw[jk] at fg;cases fg;exact⟨(h1.own id p _ g hp fk rfl jk).1,Nat.lt_of_lt_of_le (h1.own id p _ g hp fk rfl jk).2 pN.size⟩)
    (fun g2 fg=>by cases fg;exact(h1.own id p _ g hp fk rfl jk).1)
    ⟨⟨BC,by
     intro y hy;obtain⟨k,hk⟩:=getElem?_of_mem hy;by_cases hkj:j=k
     .subst hkj;rw[qv kD] at hk;cases hk;rw[hG (by omega)];exact hxj
     .rw[getElem?_set_ne hkj] at hk;exact mQ y (mem_of_getElem? hk),new.toList.take (xs.length*p.size),by rw[length_set];simpa [Place.val,jk] using BE,by
     intro i2 k y1 y2 Ci wR;have q7: ∀ {u y},FRd w X1 u y->FRd (w.setRow g new) (fun b=>X1 b\/p.b=some b) u y:=fun hf=>hf.mono ⟨pN.size,fun b hb mG=>pN.block b hb (fun he=>mG (by cases he;exact w7))⟩ (fun b hb mG=>by
      rcases mG with mG | mG
      .exact mG
      rw[jk] at mG;cases mG;exact w7)
     have iR:i2<xs.length:=by have:=(List.getElem?_eq_some_iff.1 Ci).1;simpa using this
     have IP:(i2+1)*p.size<=xs.length*p.size:=qn _ iR;rw[Nat.add_mul] at IP;by_cases sE:j=i2
     .subst sE;rw[qv kD] at Ci;cases Ci;have hk:k<p.size:=by
       have:=(List.getElem?_eq_some_iff.1 wR).1;rw[hG (by omega)] at this;omega
      rw[jE (by omega)] at wR;have amR:(new.toList.take (xs.length*p.size))[j*p.size+k]?=new[j*p.size+k]?:=by
       rw[getElem?_take,if_pos (by omega)];simp
      rw[amR,cI];by_cases ke:k<off
      .rw[if_pos ke] at wR;rw[if_pos (by omega)];obtain⟨u,hu,hf⟩:=TY j k _ y2 Xq wR;rw[acb _ (by omega)] at hu;exact⟨u,hu,q7 hf⟩
      rw[if_neg ke] at wR;rw[if_neg (by omega)];by_cases jF:k<off+fs.length
      .rw[if_pos jF] at wR;rw[if_pos (by omega)];have aL:k - off<(e x).cells.size:=by omega
       rw[show j*p.size+k - (j*p.size+off)=k - off by omega];exact⟨(e x).cells[k - off],by simp[aL],q7 (amQ _ _ _ (by simp[aL]) wR)⟩
      rw[if_neg jF] at wR;rw[if_neg (by omega)];obtain⟨u,hu,hf⟩:=TY j k _ y2 Xq wR;rw[acb _ (by omega)] at hu;exact⟨u,hu,q7 hf⟩
     .rw[getElem?_set_ne sE] at Ci;have hk:k<p.size:=by rw[<-mQ y1 (mem_of_getElem? Ci)];exact(List.getElem?_eq_some_iff.1 wR).1
      obtain⟨u,hu,hf⟩:=TY i2 k y1 y2 Ci wR;refine⟨u,?_,q7 hf⟩;rw[getElem?_take,if_pos (by omega),Array.getElem?_toList,cI,<-hu,acb _ (by omega)];have Xy:i2*p.size+k<j*p.size+off\/j*p.size+off+(e x).cells.size<=i2*p.size+k:=by
       rcases Nat.lt_or_gt_of_ne sE with aL | Cm
       .right;have:(j+1)*p.size<=i2*p.size:=qn _ aL;rw[Nat.add_mul] at this;omega
       left;have:(i2+1)*p.size<=j*p.size:=qn _ Cm;rw[Nat.add_mul] at this;omega
      rcases Xy with Xy | Xy
      .rw[if_pos Xy]
      rw[if_neg (by omega),if_neg (by omega)]⟩,
     fun g2 fg=>⟨fun _=> .inr fg,fun _=>rfl⟩⟩
   rw[qN hp] at bS;have T0:(shutIds ((ρv x).cells.flatMap fN) H++([]++R)).set id (.row true (xs.set j (fF (xs.getD j []) off fs)))=(ia H (ρv x).cells).set id (.row true (xs.set j (fF (xs.getD j []) off fs)))++R:=by
    rw[nil_append,set_append_left _ _ (by rw[bH];exact(List.getElem?_eq_some_iff.1 gM).1)];rfl
   rw[T0] at bS;exact⟨undef,_,_,ρ,.inr ⟨eW,rfl⟩,(Stp.same_world vu).trans bS.2,bS.1,.tup #[] [] rfl (by simp),fun _ _=>rfl⟩
  .rename_i cs gM;cases ck;have K8:(H.set id (Ob.box true (fF cs off (ρv x).cells))).length=H.length+D.length:=aF;rw[length_set] at K8;have iS:D=[]:=List.eq_nil_of_length_eq_zero (by omega);subst iS;obtain⟨rfl,PO⟩:=lS;have fk:(H++([]++R))[id]?=some (.box true cs):=bP id _ gM;obtain⟨⟨g',cur,kA,kC,w8,ZD,hcell⟩,BD⟩:=h.ob id p _ hp fk;rw[jk] at kA;cases kA;have w7:X g:=(BD g jk).1 rfl;have he:(0*p.size+off)=off:=by omega
   rw[he] at mP;have dC:=xF (P:=P) (w:=w) fP (v:=e x) (by omega) (o:=off) kC (by omega) dh;have pN:=jc w g (cur.toList.take off++(e x).cells.toList++cur.toList.drop (off+(e x).cells.size)).toArray;have cI:=fun k=>jd (cur:=cur) (o:=off) (vs:=(e x).cells.toList) (by simp;omega) k
   simp only[Array.length_toList,Array.getElem?_toList] at cI;have sZ:=setRow_heap w g cur (cur.toList.take off++(e x).cells.toList++cur.toList.drop (off+(e x).cells.size)).toArray p.e (0,0) kC;have eW:(execOp e o).run P w= .ok .skip (w.setRow g (cur.toList.take off++(e x).cells.toList++cur.toList.drop (off+(e x).cells.size)).toArray):=by
    simp only[execOp,ho,mP,Sem.run_bind,dC,Result.andThen_ok,Sem.run_pure]
   generalize kW:(cur.toList.take off++(e x).cells.toList++cur.toList.drop (off+(e x).cells.size)).toArray=new at eW pN cI sZ;have IQ:new.size=cur.size:=by
    rw[<-kW];simp;omega
   have bS:=h.put (id:=id) (p:=p) (ob:= .box true (fF cs off (ρv x).cells)) (row:=some g) (w':=w.setRow g new) (by have:=(List.getElem?_eq_some_iff.1 fk).1;exact this) (.inr hp) pN
    (by intro g' kA;cases kA;exact w7)
    (fun j2 q o2 g2 wZ hq fE iM eI=>by
     have e7:g2≠g:=by
      intro he;subst he;exact wZ (h.inj j2 id q p o2 _ g2 hq hp fE fk iM rfl eI jk)
     exact⟨by simp[e7],by rw[jk];simp;exact fun he=>e7 he.symm⟩)
    (fun g2 fg=>by rw[jk] at fg;cases fg;exact .inr w7)
    (fun g2 fg=>by rw[jk] at fg;cases fg;exact⟨(h.own id p _ g hp fk rfl jk).1,Nat.lt_of_lt_of_le (h.own id p _ g hp fk rfl jk).2 pN.size⟩)
    (fun g2 fg=>by cases fg;exact(h.own id p _ g hp fk rfl jk).1)
    ⟨⟨g,new,jk,sZ,by rw[IQ,w8,hG (by omega)],by
     intro k u hu;rw[cI] at hu;split at hu
     .exact ZD _ _ hu
     .split at hu
      .exact dh _ _ hu
      exact ZD _ _ hu,by
     intro k u y hu hy;have q7: ∀ {u y},PRd w X ρ u y->PRd (w.setRow g new) (fun b=>X b\/p.b=some b) (ρ.set id (some p)) u y:=fun hf=>hf.mono ⟨pN.size,fun b hb mG=>pN.block b hb (fun he=>mG (by cases he;exact w7))⟩ (fun b hb mG=>by
      rcases mG with mG | mG
      .exact mG
      rw[jk] at mG;cases mG;exact w7) (Places.Le.set (.inr hp))
     rw[cI] at hu;rw[jE (by omega)] at hy;by_cases ke:k<off
     .rw[if_pos ke] at hu hy;exact q7 (hcell _ _ _ hu hy)
     .rw[if_neg ke] at hu hy;by_cases jF:k<off+(ρv x).cells.length
      .rw[if_pos (by omega)] at hu;rw[if_pos jF] at hy;exact q7 (PR _ _ _ hu hy)
      rw[if_neg (by omega)] at hu;rw[if_neg jF] at hy;exact q7 (hcell _ _ _ hu hy)⟩,
     fun g2 fg=>⟨fun _=> .inr fg,fun _=>rfl⟩⟩
   rw[qN hp] at bS;have T0:(H++([]++R)).set id (.box true (fF cs off (ρv x).cells))=H.set id (.box true (fF cs off (ρv x).cells))++R:=by
    rw[nil_append,set_append_left _ _ (List.getElem?_eq_some_iff.1 gM).1]
   rw[T0] at bS;exact⟨undef,_,_,ρ,.inr ⟨eW,rfl⟩,bS.2,bS.1,.tup #[] [] rfl (by simp),fun _ _=>rfl⟩
  cases ck
theorem HO (hT:cQ P T) (op:Op):EffOp P T op:=by
 intro c w X ρ H D R o e ρv r ho h hD hρ au hc aF;have kK:=au;unfold cq at kK;cases op with
 | move x=>exact EffOp.of_still (JY x) ho h hD hρ au hc aF
 | assign x=>exact EffOp.of_still (EO x) ho h hD hρ au hc aF
 | pick x a b=>exact EffOp.of_still (JZ x a b) ho h hD hρ au hc aF
 | alloc t=>exact OC hT t ho h hD hρ au hc aF
 | box t x=>exact VM t x ho h hD hρ au hc aF
 | build t parts=>exact EffOp.of_still (HG hT t parts) ho h hD hρ au hc aF
 | buildSlice t len parts=>exact AV hT t len parts ho h hD hρ au hc aF
 | load t a=>exact EffOp.of_still (J1 hT t a) ho h hD hρ au hc aF
 | store t a x=>exact OG hT t a x ho h hD hρ au hc aF
 | nilCheck x=>exact EffOp.of_still (AK x) ho h hD hρ au hc aF
 | binOp op t x y t'=>exact EffOp.of_still (Hy hT op t x y t') ho h hD hρ au hc aF
 | unOp op t x=>exact EffOp.of_still (J0 op t x) ho h hD hρ au hc aF
 | convert s d x=>exact EffOp.of_still (B5 hT s d x) ho h hD hρ au hc aF
 | makeSlice t l k=>exact B7 hT t l k ho h hD hρ au hc aF
 | makeFunc fn a b=>exact EU fn a b ho h hD hρ au hc aF
 | fieldAddr t x f=>exact EffOp.of_still (yg hT t x f) ho h hD hρ au hc aF
 | field t x f=>exact EffOp.of_still (Hz hT t x f) ho h hD hρ au hc aF
 | indexAddr t x ix=>exact EffOp.of_still (yh hT t x ix) ho h hD hρ au hc aF
 | index t x ix=>exact EffOp.of_still (HA hT t x ix) ho h hD hρ au hc aF
 | extract x ix=>exact EffOp.of_still (B6 x ix) ho h hD hρ au hc aF
 | slice t x lo hi mx=>
  simp only at kK;split at kK;rotate_left
  .cases kK
  rename_i i hi;split at kK
  .rename_i el l7;exact EffOp.of_still (HB hT hi l7 x lo _) ho h hD hρ au hc aF
  .rename_i el mv l7;exact EffOp.of_still (ER hT (by assumption) l7 x lo _ _) ho h hD hρ au hc aF
  .rename_i n el l7;exact E0 hT (by assumption) l7 x lo _ _ ho h hD hρ au hc aF
  .cases kK
 | makeMap t r=>
  cases r with
  | none=>exact HN hT t ho h hD hρ au hc aF
  | some r=>simp only at kK;cases kK
 | lookup t m k ok=>exact EffOp.of_still (EZ hT t m k ok) ho h hD hρ au hc aF
 | mapUpdate t m k x=>exact B8 hT t m k x ho h hD hρ au hc aF
 | _=>simp only at kK;cases kK
end
end Go.AM
namespace Go.AM
section
variable {P:Program} {T:Tab}
theorem PRd.reloc1 {w:World} {X X':Nat->Prop} {ρ ρ':Places} {u:Value} {x:PV} (f:Nat->Nat) (h:PRd w X ρ u x) (hX: ∀ b,b<w.heap.size->X' b->X b) (hρ: ∀ (j:Nat) p,ρ[j]?=some (some p)->ρ'[f j]?=some (some p))
 (h1:u.oneCell'=true):PRd w X' ρ' u (reloc1 f x):=by
 cases h with
 | any=>exact .any _
 | fv _ _ h=>exact .fv _ _ (h.mono (Same.refl X w) hX)
 | nilsl=>exact .nilsl
 | clip a n xs h=>exact .clip a n xs (h.mono (Same.refl X w) hX)
 | ptr id i off g p hp hg=>exact .ptr (f id) i off g p (hρ _ _ hp) hg
 | lsl0 id p hp hg=>exact .lsl0 (f id) p (hρ _ _ hp) hg
 | lsl id off len o g p hp hg hl ho=>exact .lsl (f id) off len o g p (hρ _ _ hp) hg hl ho
 | agg=>cases h1
 | tup=>cases h1
 | tab id g p hp hg=>exact .tab (f id) g p (hρ _ _ hp) hg
theorem PRd.reloc {w:World} {X X':Nat->Prop} {ρ ρ':Places} {u:Value} {x:PV} (f:Nat->Nat) (h:PRd w X ρ u x) (hX: ∀ b,b<w.heap.size->X' b->X b) (hρ: ∀ (j:Nat) p,ρ[j]?=some (some p)->ρ'[f j]?=some (some p)):
 PRd w X' ρ' u (reloc f x):=by
 have kX: ∀ (us:Array Value) (cs:List PV),us.size=cs.length->(∀ (i:Nat) u,us[i]?=some u->u.oneCell'=true)->(∀ (i:Nat) u c,us[i]?=some u->cs[i]?=some c->PRd w X ρ u c)->PRd w X' ρ' (.agg us) (.agg (cs.map (AM.reloc1 f))):=by
  intro us cs hn h1 hr;refine .agg us _ (by simpa using hn) h1 (fun i u y hu hy=>?_);rw[List.getElem?_map,Option.map_eq_some_iff] at hy;obtain⟨z,hz,rfl⟩:=hy;exact(hr i u z hu hz).reloc1 f hX hρ (h1 i u hu)
 cases h with
 | any=>exact .any _
 | fv _ _ h=>exact .fv _ _ (h.mono (Same.refl X w) hX)
 | nilsl=>exact .nilsl
 | clip a n xs h=>exact .clip a n xs (h.mono (Same.refl X w) hX)
 | ptr id i off g p hp hg=>exact .ptr (f id) i off g p (hρ _ _ hp) hg
 | lsl0 id p hp hg=>exact .lsl0 (f id) p (hρ _ _ hp) hg
 | lsl id off len o g p hp hg hl ho=>exact .lsl (f id) off len o g p (hρ _ _ hp) hg hl ho
 | agg us cs hn h1 hr=>exact kX us cs hn h1 hr
 | tup us cs hn hr=>
  refine .tup us _ (by simpa using hn) (fun i u y hu hy=>?_);rw[List.getElem?_map,Option.map_eq_some_iff] at hy;obtain⟨z,hz,rfl⟩:=hy;have Xi:=hr i u z hu hz;cases Xi with
  | any=>exact .any _
  | fv _ _ h=>exact .fv _ _ (h.mono (Same.refl X w) hX)
  | nilsl=>exact .nilsl
  | clip a n xs h=>exact .clip a n xs (h.mono (Same.refl X w) hX)
  | ptr id i off g p hp hg=>exact .ptr (f id) i off g p (hρ _ _ hp) hg
  | lsl0 id p hp hg=>exact .lsl0 (f id) p (hρ _ _ hp) hg
  | lsl id off len o g p hp hg hl ho=>exact .lsl (f id) off len o g p (hρ _ _ hp) hg hl ho
  | agg us cs hn h1 hr=>exact kX us cs hn h1 hr
  | tup us cs hn hr=>exact .any _
  | tab id g p hp hg=>exact .tab (f id) g p (hρ _ _ hp) hg
 | tab id g p hp hg=>exact .tab (f id) g p (hρ _ _ hp) hg
theorem ObRd.keep {w w':World} {X X':Nat->Prop} {ρ ρ':Places} {p:Place} {o:Ob} (h:ObRd w X ρ p o) (hs:Same X w w') (hX: ∀ b,b<w.heap.size->X' b->X b) (hρ:ρ.Le ρ')
 (vE:o.alive-> ∀ g,p.b=some g->g<w.heap.size->w'.heap[g]?=w.heap[g]?/\(X' g↔X g)):ObRd w' X' ρ' p o:=by
 cases o with
 | dead=>trivial
 | row rw xs=>
  obtain⟨⟨dW,aF,us,gX,hc⟩,hf⟩:=h;refine⟨⟨dW,aF,us,?_,fun i j x y hx hy=>?_⟩,fun g hg=>?_⟩
  .refine⟨gX.1,?_⟩;rcases gX.2 with h1 | ⟨g,cap,cur,h1,h2,h3,h4⟩
   .exact .inl h1
   refine .inr ⟨g,cap,cur,h1,h2,?_,h4⟩;have Zj:p.b=some g:=by
    unfold Place.val at h1;cases hb:p.b with
    | none=>rw[hb] at h1;cases h1
    | some g'=>rw[hb] at h1;cases h1;rfl
   rw[(vE trivial g Zj (Array.getElem?_eq_some_iff.1 h3).1).1];exact h3
  .obtain⟨u,hu,vO⟩:=hc i j x y hx hy;exact⟨u,hu,vO.mono hs hX⟩
  .have aL:=m6 gX hg;rw[(vE trivial g hg aL).2];exact hf g hg
 | box rw cs=>
  obtain⟨⟨g,us,hg,hh,dQ,h1,hc⟩,hf⟩:=h;have aL:g<w.heap.size:=(Array.getElem?_eq_some_iff.1 hh).1;refine⟨⟨g,us,hg,by rw[(vE trivial g hg aL).1];exact hh,dQ,h1,fun i u x hu hx=>(hc i u x hu hx).mono hs hX hρ⟩,fun g2 fg=>?_⟩;rw[hg] at fg;cases fg;rw[(vE trivial g hg aL).2];exact hf g hg
 | tab n es=>
  obtain⟨⟨PJ,g,clock,vs,hg,hh,dQ,oh,hc⟩,hf⟩:=h;have aL:g<w.heap.size:=(Array.getElem?_eq_some_iff.1 hh).1;refine⟨⟨PJ,g,clock,vs,hg,by rw[(vE trivial g hg aL).1];exact hh,dQ,oh,fun i e k v he hv=>?_⟩,fun g2 fg=>?_⟩
  .obtain⟨a1,a2,a3⟩:=hc i e k v he hv;exact⟨a1,a2,a3.mono hs hX (Places.Le.refl [])⟩
  rw[hg] at fg;cases fg;exact(vE trivial g hg aL).2.2 (hf g hg)
theorem Ob.alive_of_rw {o:Ob} (h:o.rw=true):o.alive:=by
 cases o with
 | dead=>cases h
 | row=>trivial
 | box=>trivial
 | tab=>trivial
theorem tJ (f:Nat->Nat) (o:Ob):(relocOb f o).rw=o.rw:=by cases o<;>rfl
theorem ObRd.moved {w:World} {X X':Nat->Prop} {ρ ρ':Places} {p:Place} {o:Ob} (f:Nat->Nat) (h:ObRd w X ρ p o) (hX: ∀ b,b<w.heap.size->X' b->X b) (hρ: ∀ (j:Nat) p,ρ[j]?=some (some p)->ρ'[f j]?=some (some p))
 (vE:o.alive-> ∀ g,p.b=some g->(X' g↔X g)):ObRd w X' ρ' p (relocOb f o):=by
 cases o with
 | dead=>trivial
 | row rw xs=>
  obtain⟨⟨dW,aF,us,gX,hc⟩,hf⟩:=h;refine⟨⟨dW,aF,us,gX,fun i j x y hx hy=>?_⟩,fun g hg=>?_⟩
  .obtain⟨u,hu,vO⟩:=hc i j x y hx hy;exact⟨u,hu,vO.mono (Same.refl X w) hX⟩
  .rw[vE trivial g hg];exact hf g hg
 | box rw cs=>
  obtain⟨⟨g,us,hg,hh,dQ,h1,hc⟩,hf⟩:=h;refine⟨⟨g,us,hg,hh,by simpa using dQ,h1,fun i u x hu hx=>?_⟩,fun g2 fg=>?_⟩
  .rw[List.getElem?_map,Option.map_eq_some_iff] at hx;obtain⟨y,hy,rfl⟩:=hx;exact(hc i u y hu hy).reloc1 f hX hρ (h1 i u hu)
  .rw[vE trivial g2 fg];exact hf g2 fg
 | tab n es=>
  obtain⟨⟨PJ,g,clock,vs,hg,hh,dQ,oh,hc⟩,hf⟩:=h;refine⟨⟨PJ,g,clock,vs,hg,hh,dQ,oh,fun i e k v he hv=>?_⟩,fun g2 fg=>(vE trivial g2 fg).2 (hf g2 fg)⟩;obtain⟨a1,a2,a3⟩:=hc i e k v he hv;exact⟨a1,a2,a3.mono (Same.refl X w) hX (Places.Le.refl [])⟩
theorem DF {c c1:gZ} {w w':World} {X1 X2:Nat->Prop} {ρ ρ2 ρ3:Places} {F F' H1:List Ob} (f:Nat->Nat) (sq:c1.w0=w) (h:HRd c w X1 ρ F) (ke:Keeps c1 w') (h2:HRd c1 w' X2 ρ2 H1)
 (hXo: ∀ b,X1 b-> ¬c1.M b->c1.Xo b) (hMX: ∀ b,c1.M b->X1 b) (T2: ∀ b,c1.M b->(c.w0.heap.size<=b\/c.M b)/\b<w.heap.size)
 (od: ∀ (i:Nat) p o g,(∀ j,j<H1.length->f j≠i)->ρ[i]?=some (some p)->F[i]?=some o->o.alive->p.b=some g-> ¬c1.M g)
 (kW: ∀ (j:Nat) p g,ρ2[j]?=some (some p)->p.b=some g->w.heap.size<=g\/c1.M g)
 (aF:ρ3.length=F'.length) (hF1: ∀ (j:Nat) o,H1[j]?=some o->F'[f j]?=some (relocOb f o)) (hF2: ∀ i,(∀ j,j<H1.length->f j≠i)->F'[i]?=F[i]?)
 (ZB: ∀ j,j<H1.length->ρ3[f j]?=ρ2[j]?) (hρ2: ∀ i,(∀ j,j<H1.length->f j≠i)->ρ3[i]?=ρ[i]?) (dP:ρ.Le ρ3):
 ∃ X3,HRd c w' X3 ρ3 F'/\Stp c w w' X1 X3 ρ ρ3/\ ∀ u x,PRd w' X2 ρ2 u x->PRd w' X3 ρ3 u (reloc f x):=by
 subst sq
 let X3 (b:Nat):Prop:=(b<c1.w0.heap.size/\X1 b/\ ¬c1.M b)\/((c1.M b\/c1.w0.heap.size<=b)/\X2 b)
 have fA:Same X1 c1.w0 w':=⟨ke.size,fun b hb hx=>ke.block b hb (fun hm=>hx (hMX b hm))⟩
 have T3: ∀ b,b<c1.w0.heap.size->X3 b->X1 b:=by
  intro b hb hx;rcases hx with⟨_,hx,_⟩ | ⟨hm | hm,_⟩
  .exact hx
  .exact hMX b hm
  omega
 have T4: ∀ b,X3 b->X2 b:=by
  intro b hx;rcases hx with⟨_,hx,hm⟩ | ⟨_,hx⟩
  .exact h2.xo b (hXo b hx hm)
  exact hx
 have ah3: ∀ (j:Nat) p,ρ2[j]?=some (some p)->ρ3[f j]?=some (some p):=by
  intro j p hj;rw[ZB j (by rw[<-h2.len];exact(List.getElem?_eq_some_iff.1 hj).1)];exact hj
 have fB: ∀ i,(∃ j,j<H1.length/\f j=i)\/(∀ j,j<H1.length->f j≠i):=by
  intro i;by_cases he: ∃ j,j<H1.length/\f j=i
  .exact .inl he
  exact .inr fun j hj hf=>he ⟨j,hj,hf⟩
 have nt: ∀ (j:Nat) p g,ρ2[j]?=some (some p)->p.b=some g->(X3 g↔X2 g):=by
  intro j p g hp hg;constructor
  .exact T4 g
  intro hx;rcases kW j p g hp hg with h3 | h3
  .exact .inr ⟨.inr h3,hx⟩
  exact .inr ⟨.inl h3,hx⟩
 have PS: ∀ (j:Nat) o,H1[j]?=some o-> ∀ o',F'[f j]?=some o'->o'=relocOb f o:=fun j o hj o' Ni=>by
  rw[hF1 j o hj] at Ni;cases Ni;rfl
 have T5: ∀ j,j<H1.length-> ∃ o,H1[j]?=some o:=fun j hj=>⟨H1[j],by simp[hj]⟩
 refine⟨X3,⟨aF,?_,?_,?_,?_,?_,gD h.ge ke.size,h.base.trans dP⟩,⟨fA,T3,dP,fun hk=>?_⟩,fun u x hu=>hu.reloc f (fun b _=>T4 b) ah3⟩
 .intro i p o hp ho
  rcases fB i with⟨j,hj,rfl⟩ | vK
  .obtain⟨o2,fE⟩:=T5 j hj
   have:=PS j o2 fE o ho
   subst this
   rw[ZB j hj] at hp
   exact(h2.ob j p o2 hp fE).moved f (fun b _=>T4 b) ah3 (fun _ g hg=>nt j p g hp hg)
  rw[hρ2 i vK] at hp
  rw[hF2 i vK] at ho
  refine(h.ob i p o hp ho).keep fA T3 dP (fun ha g hg aL=>?_)
  have hm:=od i p o g vK hp ho ha hg
  exact⟨ke.block g aL hm,⟨T3 g aL,fun hx=> .inl ⟨aL,hx,hm⟩⟩⟩
 .intro i k p q o r g hp hq ho hr jo ib dX eI
  rcases fB i with⟨j,hj,rfl⟩ | vK
  .obtain⟨o2,fE⟩:=T5 j hj
   have:=PS j o2 fE o ho
   subst this
   rw[ZB j hj] at hp
   rw[tJ] at jo
   rcases fB k with⟨j',Uv,rfl⟩ | PT
   .obtain⟨r2,iM⟩:=T5 j' Uv
    have:=PS j' r2 iM r hr
    subst this
    rw[ZB j' Uv] at hq
    rw[tJ] at ib
    rw[h2.inj j j' p q o2 r2 g hp hq fE iM jo ib dX eI]
   rw[hρ2 k PT] at hq
   rw[hF2 k PT] at hr
   have hra:r.alive:=Ob.alive_of_rw ib
   have h3:=od k q r g PT hq hr hra eI
   have h4:=(h.own k q r g hq hr ib eI).2
   rcases kW j p g hp dX with h5 | h5
   .omega
   exact absurd h5 h3
  rw[hρ2 i vK] at hp
  rw[hF2 i vK] at ho
  have hoa:o.alive:=Ob.alive_of_rw jo
  rcases fB k with⟨j',Uv,rfl⟩ | PT
  .obtain⟨r2,iM⟩:=T5 j' Uv
   rw[ZB j' Uv] at hq
   have h3:=od i p o g vK hp ho hoa dX
   have h4:=(h.own i p o g hp ho jo dX).2
   rcases kW j' q g hq eI with h5 | h5
   .omega
   exact absurd h5 h3
  rw[hρ2 k PT] at hq
  rw[hF2 k PT] at hr
  exact h.inj i k p q o r g hp hq ho hr jo ib dX eI
 .intro i p o g hp ho jo dX
  rcases fB i with⟨j,hj,rfl⟩ | vK
  .obtain⟨o2,fE⟩:=T5 j hj
   have:=PS j o2 fE o ho
   subst this
   rw[ZB j hj] at hp
   rw[tJ] at jo
   have h3:=h2.own j p o2 g hp fE jo dX
   refine⟨?_,h3.2⟩
   rcases kW j p g hp dX with h5 | h5
   .left;have:=h.ge;omega
   exact(T2 g h5).1
  rw[hρ2 i vK] at hp
  rw[hF2 i vK] at ho
  have h3:=h.own i p o g hp ho jo dX
  exact⟨h3.1,Nat.lt_of_lt_of_le h3.2 ke.size⟩
 .intro b hb
  have h3:=c.hxo b hb
  refine .inl ⟨h.xlt b (h.xo b hb),h.xo b hb,fun hm=>?_⟩
  rcases(T2 b hm).1 with h4 | h4
  .omega
  exact h3.2 h4
 .intro b hb
  rcases hb with⟨hb,_⟩ | ⟨_,hb⟩
  .exact Nat.lt_of_lt_of_le hb ke.size
  exact h2.xlt b hb
 refine⟨ke.os.trans hk.os,ke.tape.trans hk.tape,ke.output.trans hk.output,gD hk.size ke.size,fun b hb hm=>?_⟩
 rw[ke.block b (Nat.lt_of_lt_of_le hb hk.size) (fun pB=>?_)]
 .exact hk.block b hb hm
 rcases(T2 b pB).1 with h4 | h4
 .omega
 exact hm h4
theorem ObRd.rwX {w:World} {X:Nat->Prop} {ρ:Places} {p:Place} {o:Ob} (h:ObRd w X ρ p o) (hr:o.rw=true) {g:Nat} (hg:p.b=some g):X g:=by
 cases o with
 | dead=>cases hr
 | row rw xs=>exact(h.2 g hg).1 hr
 | box rw cs=>exact(h.2 g hg).1 hr
 | tab n es=>exact h.2 g hg
theorem ObRd.roX {w:World} {X:Nat->Prop} {ρ:Places} {p:Place} {o:Ob} (h:ObRd w X ρ p o) (ha:o.alive) (hr:o.rw=false) {g:Nat} (hg:p.b=some g): ¬X g:=by
 intro hx;cases o with
 | dead=>exact ha
 | row rw xs=>have:=(h.2 g hg).2 hx;simp only[Ob.rw] at hr;rw[hr] at this;cases this
 | box rw cs=>have:=(h.2 g hg).2 hx;simp only[Ob.rw] at hr;rw[hr] at this;cases this
 | tab n es=>cases hr
theorem ObRd.closed {w:World} {X:Nat->Prop} {ρ ρ':Places} {p:Place} {o:Ob} (h:ObRd w X ρ p o) (hc:o.closed):ObRd w X ρ' p o:=by
 cases o with
 | dead=>trivial
 | row rw xs=>exact h
 | tab n es=>exact h
 | box rw cs=>
  obtain⟨⟨g,us,hg,hh,hs,h1,hr⟩,hf⟩:=h;refine⟨⟨g,us,hg,hh,hs,h1,fun i u x hu hx=>?_⟩,hf⟩;obtain⟨y,rfl⟩:=hc x (mem_of_getElem? hx);cases hr i u _ hu hx with
  | fv _ _ h=>exact .fv _ _ h
theorem DG {H:List Ob} {id:Nat} {x:PV} (h:x.refsTo id=false):YU H id x=eT H x/\yd H id x=pK H x:=by
 cases x<;>simp only[PV.refsTo,qx,ne_eq] at h<;>simp[YU,yd,h]
theorem HP {H:List Ob} {id:Nat}: ∀ {xs ys:List PV},yc H id xs=some ys->ys.length=xs.length/\ ∀ (i:Nat) y,ys[i]?=some y-> ∃ x,xs[i]?=some x/\YU H id x=some y
 | [],ys,h=>by simp[yc] at h;subst h;simp
 | x::xs,ys,h=>by
  simp only[yc] at h;split at h
  .rename_i y ys' h1 h2;cases h;obtain⟨hl,hg⟩:=HP h2;refine⟨by simp[hl],fun i z hz=>?_⟩;cases i with
   | zero=>simp at hz;subst hz;exact⟨x,rfl,h1⟩
   | succ i=>simp at hz ⊢;exact hg i z hz
  cases h
theorem HQ {H:List Ob} {id:Nat}: ∀ {xs ys:List PV},yc H id xs=some ys-> ∀ j∈xs.flatMap (yd H id),j<H.length
 | [],ys,h=>by simp
 | x::xs,ys,h=>by
  simp only[yc] at h;split at h
  .rename_i y ys' h1 h2;intro j hj;rw[List.flatMap_cons,qr] at hj;rcases hj with hj | hj
   .cases hr:x.refsTo id with
    | false=>
     obtain⟨e1,e2⟩:=DG (H:=H) hr;rw[e1] at h1;rw[e2] at hj;exact MP h1 j hj
    | true=>cases x<;>simp[PV.refsTo] at hr<;>simp[yd,hr] at hj
   exact HQ h2 j hj
  cases h
theorem VR {c:gZ} {w:World} {X X':Nat->Prop} {ρ:Places} {F H:List Ob} (h:HRd c w X ρ F) (hH: ∀ (j:Nat) o,H[j]?=some o->F[j]?=some o) {vs:Array Value} {xs ys:List PV} {id:Nat} {p:Place} (hp:ρ[id]?=some (some p))
 (hv:PRds w X ρ vs xs) (hf:yc H id xs=some ys) (hX: ∀ b,X' b->X b)
 (hn: ∀ j∈xs.flatMap (yd H id),∀ p o g,ρ[j]?=some (some p)->F[j]?=some o->o.alive->p.b=some g-> ¬X' g):PRds w X' [some p] vs ys:=by
 obtain⟨hl,hg⟩:=HP hf
 refine⟨by rw[hl];exact hv.1,fun i v y hi hy=>?_⟩
 obtain⟨x,hx,Nj⟩:=hg i y hy
 have hvx:=hv.2 i v x hi hx
 cases hr:x.refsTo id with
 | false=>
  obtain⟨e1,e2⟩:=DG (H:=H) hr;rw[e1] at Nj;refine Sk h hH [some p] hvx Nj hX (fun k hk=>hn k ?_);rw[List.mem_flatMap];exact⟨x,mem_of_getElem? hx,by rw[e2];exact hk⟩
 | true=>
  cases hvx with
  | ptr j i off g q hq hg=>
   simp only[PV.refsTo,beq_iff_eq] at hr;subst hr;rw[hp] at hq;cases hq;simp only[YU,if_true,qo] at Nj;subst Nj;exact .ptr 0 i off g p rfl hg
  | lsl0 j q hq hg=>
   simp only[PV.refsTo,beq_iff_eq] at hr;subst hr;rw[hp] at hq;cases hq;simp only[YU,if_true,qo] at Nj;subst Nj;exact .lsl0 0 p rfl hg
  | lsl j off len o g q hq hg hl ho=>
   simp only[PV.refsTo,beq_iff_eq] at hr;subst hr;rw[hp] at hq;cases hq;simp only[YU,if_true,qo] at Nj;subst Nj;exact .lsl 0 off len o g p rfl hg hl ho
  | _=>simp[PV.refsTo] at hr
theorem AW {c:gZ} {w:World} {X:Nat->Prop} {ρ:Places} {H D R:List Ob} {k:FuncId} {args:List PV} {vs:Array Value} {v:PV} {H':List Ob} (h:HRd c w X ρ (H++(D++R)))
 (hD: ∀ id,H.length<=id->id<H.length+D.length->ρ[id]?=some none) (fh:PRds w X ρ vs args) (PR:CallRel P H k args v H') (aF:H'.length=H.length+D.length):
 aam P k/\Calls P k vs w fun e w'=> ∃ u X' ρ',e= .returned u/\Stp c w w' X X' ρ ρ'/\w.drawn<=w'.drawn/\HRd c w' X' ρ' (H'++R)/\PRd w' X' ρ' u v/\ ∀ id,(id<H.length\/H.length+D.length<=id)->ρ'[id]?=ρ[id]?:=by
 cases PR with
 | pure args' obs res hf hd=>
  obtain⟨hgo,hd⟩:=hd;refine⟨hgo,?_⟩;unfold shutAs at aF ⊢;rw[qe,bH,qu] at aF;have hDl:D.length=obs.length:=by omega
  have q6:=HI hf;obtain⟨X1,h1,vu,lR⟩:=h.shutIds (args.flatMap (pK H));rw[fK _ q6] at h1;have hSl:(shutIds (args.flatMap (pK H)) H).length=H.length:=bH _ _;generalize hS:shutIds (args.flatMap (pK H)) H=S at*;have qV:PRds w X1 [] vs args':=VJ h bP [] fh hf vu lR;let c1:gZ:=⟨w,fun _=>False,X1,[],fun b hb=>⟨h1.xlt b hb,fun hm=>hm⟩⟩;have h01:HRd c1 w X1 [] []:=⟨rfl,by simp,by simp,by simp,fun b hb=>hb,h1.xlt,qp _,Places.Le.refl _⟩;refine(hd c1 X1 [] vs h01 (fun b hb=>hb.elim) qV).mono ?_;rintro e w' ⟨u,X2,ρ2,rfl,ke,h2,hu,_,kF⟩;have qZ:ρ2.length=obs.length:=h2.len;have xM:ρ.length=H.length+(D.length+R.length):=by rw[h1.len];simp[hSl]
  let ρ3:Places:=ρ.take H.length++ρ2++ρ.drop (H.length+obs.length);have DQ: ∀ i,ρ3[i]?=if i<H.length then ρ[i]? else if i<H.length+obs.length then ρ2[i - H.length]? else ρ[i]?:=by
   intro i;have:=jE (l:=ρ) (new:=ρ2) (off:=H.length) (by omega) i;simp only[fF,qZ] at this;exact this
  have hF: ∀ i,((S++obs.map (relocOb (H.length+ ·)))++R)[i]?=if i<H.length then(S++(D++R))[i]? else if i<H.length+obs.length then(obs.map (relocOb (H.length+ ·)))[i - H.length]? else(S++(D++R))[i]?:=by
   intro i;by_cases hi:i<H.length
   .rw[if_pos hi,append_assoc,qi (by omega),qi (by omega)]
   rw[if_neg hi];by_cases iR:i<H.length+obs.length
   .rw[if_pos iR,append_assoc,getElem?_append_right (by omega),qi (by simp;omega),hSl]
   rw[if_neg iR,append_assoc,getElem?_append_right (by omega),getElem?_append_right (by simp;omega),getElem?_append_right (by omega),getElem?_append_right (by omega)];congr 1;simp;omega
  have cG: ∀ i,(∀ j,j<obs.length->H.length+j≠i)->i<H.length\/H.length+obs.length<=i:=by
   intro i hi;by_cases h3:i<H.length
   .exact .inl h3
   right;apply Nat.le_of_not_lt;intro h4;exact hi (i - H.length) (by omega) (by omega)
  have dP:ρ.Le ρ3:=by
   intro i p hp;rw[DQ];by_cases hi:i<H.length
   .rw[if_pos hi];exact hp
   rw[if_neg hi];by_cases iR:i<H.length+obs.length
   .rw[hD i (by omega) (by omega)] at hp;cases hp
   rw[if_neg iR];exact hp
  obtain⟨X3,h3,hs3,Zv⟩:=DF (c:=c) (c1:=c1) (w:=w) (w':=w') (X1:=X1) (X2:=X2) (ρ:=ρ) (ρ2:=ρ2) (ρ3:=ρ3) (F:=S++(D++R)) (F':=(S++obs.map (relocOb (H.length+ ·)))++R) (H1:=obs) (H.length+ ·) rfl h1 ke h2
   (fun b hb _=>hb) (fun b hb=>hb.elim) (fun b hb=>hb.elim) (fun i p o g _ _ _ _ _ hm=>hm) (fun j p g hp hg=> .inl (kF j p (dk _) hp g hg))
   (by simp[ρ3,qZ,hSl,xM];omega)
   (fun j o hj=>by
    have kD:=(List.getElem?_eq_some_iff.1 hj).1;rw[hF,if_neg (by omega),if_pos (by omega),Nat.add_sub_cancel_left,List.getElem?_map,hj];rfl)
   (fun i hi=>by
    rw[hF];rcases cG i hi with h5 | h5
    .rw[if_pos h5]
    rw[if_neg (by omega),if_neg (by omega)])
   (fun j hj=>by rw[DQ,if_neg (by omega),if_pos (by omega),Nat.add_sub_cancel_left])
   (fun i hi=>by
    rw[DQ];rcases cG i hi with h5 | h5
    .rw[if_pos h5]
    rw[if_neg (by omega),if_neg (by omega)]) dP
  refine⟨u,X3,ρ3,rfl,(Stp.same_world vu).trans hs3,ke.drawn,h3,Zv u res hu,fun id eD=>?_⟩;rw[DQ];rcases eD with h5 | h5
  .rw[if_pos h5]
  .rw[if_neg (by omega),if_neg (by omega)]
 | lend id args' ob ob' obs res ho hrw fr Xp hf hs hd=>
  obtain⟨hgo,hd⟩:=hd;refine⟨hgo,?_⟩;unfold shutBs at aF hs ⊢;rw[qe,length_set,bH,qu] at aF;have hDl:D.length=obs.length:=by omega
  have BG:id<H.length:=(List.getElem?_eq_some_iff.1 ho).1;obtain⟨p,hp⟩: ∃ p,ρ[id]?=some (some p):=by
   rw[qpb] at Xp;obtain⟨a,ha,har⟩:=Xp;obtain⟨i,hi⟩:=getElem?_of_mem ha;have aL:i<vs.size:=by rw[fh.1];exact(List.getElem?_eq_some_iff.1 hi).1
   have Uk:=fh.2 i vs[i] a (by simp[aL]) hi;generalize vs[i]=ui at Uk;cases Uk with
   | ptr j i off g q hq hg=>simp only[PV.refsTo,beq_iff_eq] at har;subst har;exact⟨q,hq⟩
   | lsl0 j q hq hg=>simp only[PV.refsTo,beq_iff_eq] at har;subst har;exact⟨q,hq⟩
   | lsl j off len o g q hq hg hl ho=>simp only[PV.refsTo,beq_iff_eq] at har;subst har;exact⟨q,hq⟩
   | _=>simp[PV.refsTo] at har
  have q6: ∀ j∈args.flatMap (yd H id),j<H.length:=HQ hf;obtain⟨X1,h1,vu,lR⟩:=h.shutIds (args.flatMap (yd H id));rw[fK _ q6] at h1;have hSl:(shutIds (args.flatMap (yd H id)) H).length=H.length:=bH _ _;generalize hS:shutIds (args.flatMap (yd H id)) H=S at*;have Xz:(S++(D++R))[id]?=some ob:=by rw[qi (by omega)];exact hs
  have gM:=h1.ob id p ob hp Xz;have hXp: ∀ g,p.b=some g->X1 g:=fun g hg=>gM.rwX hrw hg
  let c1:gZ:=⟨w,fun b=>p.b=some b,fun b=>X1 b/\p.b≠some b,[],fun b hb=>⟨h1.xlt b hb.1,hb.2⟩⟩;have h01:HRd c1 w X1 [some p] [ob]:=by
   refine⟨rfl,?_,?_,?_,fun b hb=>hb.1,h1.xlt,qp _,fun i p hp=>by simp[c1] at hp⟩
   .intro i q o hq fE;cases i with
    | zero=>
     simp only[List.getElem?_cons_zero,qo] at hq fE;subst hq;subst fE;exact gM.closed fr
    | succ i=>simp at hq
   .intro i j q1 q2 o1 o2 g Pz I6 jo fE _ _ _ _;cases i with
    | zero=>cases j with
     | zero=>rfl
     | succ j=>simp at I6
    | succ i=>simp at Pz
   intro i q o g hq fE yV hg;cases i with
   | zero=>
    simp only[List.getElem?_cons_zero,qo] at hq;subst hq;exact⟨.inr hg,(h1.own id _ ob g hp Xz hrw hg).2⟩
   | succ i=>simp at hq
  have qV:PRds w X1 [some p] vs args':=VR h bP hp fh hf vu lR;refine(hd c1 X1 [some p] vs h01 (fun b hb=>⟨0,p,rfl,hb⟩) qV).mono ?_;rintro e w' ⟨u,X2,ρ2,rfl,ke,h2,hu,amU,kF⟩;have qZ:ρ2.length=obs.length+1:=by simpa using h2.len
  have ah4:ρ2[0]?=some (some p):=amU 0 p rfl;have xM:ρ.length=H.length+(D.length+R.length):=by rw[h1.len];simp[hSl]
  let ρ3:Places:=ρ.take H.length++ρ2.drop 1++ρ.drop (H.length+obs.length);have DQ: ∀ i,ρ3[i]?=if i<H.length then ρ[i]? else if i<H.length+obs.length then ρ2[i - H.length+1]? else ρ[i]?:=by
   intro i;have xT:(ρ2.drop 1).length=obs.length:=by simp[qZ]
   have:=jE (l:=ρ) (new:=ρ2.drop 1) (off:=H.length) (by omega) i;simp only[fF,xT] at this;rw[this];simp only[List.getElem?_drop,Nat.add_comm 1]
  have hF: ∀ i,((S.set id (relocOb (lent id H.length) ob')++obs.map (relocOb (lent id H.length)))++R)[i]?=if i=id then some (relocOb (lent id H.length) ob') else if i<H.length then(S++(D++R))[i]? else
   if i<H.length+obs.length then(obs.map (relocOb (lent id H.length)))[i - H.length]? else(S++(D++R))[i]?:=by
   intro i
   by_cases Cn:i=id
   .subst Cn
    rw[if_pos rfl,append_assoc,qi (by simp;omega),qv (by omega)]
   rw[if_neg Cn]
   by_cases hi:i<H.length
   .rw[if_pos hi,append_assoc,qi (by simp;omega),getElem?_set_ne (Ne.symm Cn),qi (by omega)]
   rw[if_neg hi]
   by_cases iR:i<H.length+obs.length
   .rw[if_pos iR,append_assoc,getElem?_append_right (by simp;omega),qi (by simp;omega),length_set,hSl]
   rw[if_neg iR,append_assoc,getElem?_append_right (by simp;omega),getElem?_append_right (by simp;omega),getElem?_append_right (by omega),getElem?_append_right (by omega)]
   congr 1
   simp
   omega
  have cG: ∀ i,(∀ j,j<(ob'::obs).length->lent id H.length j≠i)->i≠id/\(i<H.length\/H.length+obs.length<=i):=by
   intro i hi;refine⟨fun he=>hi 0 (by simp) he.symm,?_⟩;by_cases h3:i<H.length
   .exact .inl h3
   right;apply Nat.le_of_not_lt;intro h4;exact hi (i - H.length+1) (by simp;omega) (by simp only[lent];omega)
  have dP:ρ.Le ρ3:=by
   intro i q hq;rw[DQ];by_cases hi:i<H.length
   .rw[if_pos hi];exact hq
   rw[if_neg hi];by_cases iR:i<H.length+obs.length
   .rw[hD i (by omega) (by omega)] at hq;cases hq
   rw[if_neg iR];exact hq
  obtain⟨X3,h3,hs3,Zv⟩:=DF (c:=c) (c1:=c1) (w:=w) (w':=w') (X1:=X1) (X2:=X2) (ρ:=ρ) (ρ2:=ρ2) (ρ3:=ρ3) (F:=S++(D++R)) (F':=(S.set id (relocOb (lent id H.length) ob')++obs.map (relocOb (lent id H.length)))++R) (H1:=ob'::obs) (lent id H.length) rfl h1 ke h2
   (fun b hb hm=>⟨hb,hm⟩) (fun b hb=>hXp b hb) (fun b hb=>h1.own id p ob b hp Xz hrw hb)
   (fun i q o g hi hq fE ha hg hm=>by
    have e7:=(cG i hi).1;cases I0:o.rw with
    | true=>exact e7 (h1.inj i id q p o ob g hq hp fE Xz I0 hrw hg hm)
    | false=>
     have nt:=h1.ob i q o hq fE;exact(nt.roX ha I0 hg) (hXp g hm))
   (fun j q g hq hg=>by
    cases j with
    | zero=>rw[ah4] at hq;cases hq;exact .inr hg
    | succ j=>exact .inl (kF (j+1) q (by simp) hq g hg))
   (by simp[ρ3,qZ,hSl,xM];omega)
   (fun j o hj=>by
    have kD:=(List.getElem?_eq_some_iff.1 hj).1;cases j with
    | zero=>
     show((S.set id (relocOb (lent id H.length) ob')++obs.map (relocOb (lent id H.length)))++R)[id]?=_;rw[hF,if_pos rfl];simp at hj;rw[hj]
    | succ j=>
     simp only[length_cons] at kD;show((S.set id (relocOb (lent id H.length) ob')++obs.map (relocOb (lent id H.length)))++R)[H.length+j]?=_;rw[hF,if_neg (show¬(H.length+j=id) by omega),if_neg (show¬(H.length+j<H.length) by omega),if_pos (show H.length+j<H.length+obs.length by omega),Nat.add_sub_cancel_left,List.getElem?_map];simp at hj;rw[hj];rfl)
   (fun i hi=>by
    rw[hF];obtain⟨h4,h5 | h5⟩:=cG i hi
    .rw[if_neg h4,if_pos h5]
    rw[if_neg h4,if_neg (by omega),if_neg (by omega)])
   (fun j hj=>by
    cases j with
    | zero=>
     show ρ3[id]?=_;rw[DQ,if_pos BG,hp,ah4]
    | succ j=>
     simp only[length_cons] at hj;show ρ3[H.length+j]?=_;rw[DQ,if_neg (by omega),if_pos (by omega),Nat.add_sub_cancel_left])
   (fun i hi=>by
    rw[DQ];obtain⟨h4,h5 | h5⟩:=cG i hi
    .rw[if_pos h5]
    rw[if_neg (by omega),if_neg (by omega)]) dP
  refine⟨u,X3,ρ3,rfl,(Stp.same_world vu).trans hs3,ke.drawn,h3,Zv u res hu,fun j hj=>?_⟩;rw[DQ];rcases hj with h5 | h5
  .rw[if_pos h5]
  rw[if_neg (by omega),if_neg (by omega)]
end
end Go.AM
namespace Go.AM
section
variable {P:Program} {T:Tab}
theorem DH {H:List Ob} {ρ:Operand->PV} {op:Op} {r:Res} (h:cq T H ρ op=some r):H.length<=r.heap.length:=by
 unfold cq at h;cases op<;>simp only[Res.pure,Res.if] at h
 all_goals repeat' (split at h)
 all_goals first
  | (cases h;done)
  | (cases h;simp[ia,bH];done)
  | skip
 all_goals
  rename_i ck;cases h;unfold storeAt at ck
  repeat' (split at ck)
  all_goals first
   | (cases ck;done)
   | (cases ck;simp[ia,bH])
theorem DI {H:List Ob} {b:Builtin} {ts:List TypeId} {vs:List PV} {r:Res} (h:ja T H b ts vs=some r):H.length<=r.heap.length:=by
 unfold ja at h;simp only[Res.pure] at h
 repeat' (split at h)
 all_goals first
  | (cases h;done)
  | (cases h;simp)
theorem xG {H:List Ob} {k:FuncId} {args:List PV} {v:PV} {H':List Ob} (h:CallRel P H k args v H'):H.length<=H'.length:=by
 cases h with
 | pure=>simp[shutAs,bH]
 | lend=>simp[shutBs,bH]
theorem HRd.room {c:gZ} {w:World} {X:Nat->Prop} {ρ:Places} {H:List Ob} (h:HRd c w X ρ H) (n:Nat):
 HRd c w X (ρ++replicate n none) (H++(replicate n .dead++[]))/\ ∀ id,H.length<=id->id<H.length+(replicate n Ob.dead).length->(ρ++replicate n none)[id]?=some none:=by
 have h1:=h.extend (replicate n .dead)
 rw[qib] at h1
 refine⟨by simpa using h1,fun id h2 h3=>?_⟩
 rw[qib] at h3
 rw[getElem?_append_right (by rw[h.len];exact h2),List.getElem?_replicate,if_pos (by rw[h.len];omega)]
theorem EnvRd.mono {w:World} {X:Nat->Prop} {ρ ρ':Places} {t:Array Value} {env:List PV} (h:EnvRd w X ρ t env) (hρ:ρ.Le ρ'):EnvRd w X ρ' t env:=
 ⟨h.1,fun i v x hv hx=>(h.2 i v x hv hx).mono (Same.refl X w) (fun _ _ h=>h) hρ⟩
theorem EnvRd.put {w:World} {X:Nat->Prop} {ρ:Places} {a:Act} {env:List PV} (h:EnvRd w X ρ a.tmps env) (d:Option Nat) {u:Value} {v:PV} (hu:PRd w X ρ u v):
 EnvRd w X ρ (a.put d u).tmps (match d with | some t=>env.set t v | none=>env):=by
 cases d with
 | none=>exact h
 | some t=>
  refine⟨by simp[Act.put,h.1],fun i v' x hv hx=>?_⟩;simp only[Act.put] at hv;by_cases hi:t=i
  .subst hi;have aL:t<a.tmps.size:=by have:=(Array.getElem?_eq_some_iff.1 hv).1;simpa using this
   simp[aL] at hv;have om:t<env.length:=by rw[<-h.1];exact aL
   rw[qv om] at hx;cases hx;subst hv;exact hu
  rw[Array.getElem?_setIfInBounds_ne hi] at hv;rw[getElem?_set_ne hi] at hx;exact h.2 i v' x hv hx
def afP (c:gZ) (a:Act) (env:List PV) (d:Option Nat) (K:PV->List Ob->Prop) (next:Act->World->Prop):Prop:=
 ∀ v H u w' X' ρ',K v H->HRd c w' X' ρ' H->EnvRd w' X' ρ' a.tmps env->PRd w' X' ρ' u v->Keeps c w'->next (a.put d u) w'
theorem DJ {w:World} {o:Oper} {e:Operand->Value} {f:Operand} {args:Array Operand} {ts:Array TypeId} {k:FuncId} {u1 u2:Array Value}
 (ho:o.op= .call {callee:= .value f,args:=args,argTypes:=ts}) (hf:e f= .func (.func k) u1 u2) (hg:aam P k):(execOp e o).run P w= .ok (.enter k (u1++args.map e++u2)) w:=by
 obtain⟨fn,cd,h1,h2,h3⟩:=hg
 unfold execOp
 simp only[ho,resolve,hf,Deferred.ofValue,Sem.run_bind,Sem.run_pure,Result.andThen_ok,invoke,callFunc,run_program,h1,h2,h3,Option.isNone_some]
 simp
theorem AX (hT:cQ P T) {o:Oper} {c:gZ} {a:Act} {w:World} {X:Nat->Prop} {ρ:Places} {st:St} {K:PV->List Ob->Prop} {next:Act->World->Prop} {Q:Exit->Act->World->Prop}
 (h:WPop P T o.op st K) (hh:HRd c w X ρ st.heap) (he:EnvRd w X ρ a.tmps st.env) (hk:Keeps c w) (hn:afP c a st.env o.dst K next):o.wp P a w next Q:=by
 have fin: ∀ {r:Result Next} {v:PV} {H:List Ob} {ρ1:Places} {lo hi:Nat},ρ.Le ρ1->K v H->OpOK c w X ρ1 lo hi H r v->(execOp a.eval o).run P w=r->o.wp P a w next Q:=by
  intro r v H ρ1 lo hi dP hK ⟨u,w',X',ρ',hr,hs,yX,hu,_⟩ dC;have sw:w.drawn<=w'.drawn:=by
   rcases hr with hr | ⟨hr,_⟩
   .exact cU _ _ (dC.trans hr)
   exact cU _ _ (dC.trans hr)
  have jr:=hn v H u w' X' ρ' hK yX ((he.mono dP).stp hs) hu ⟨hs.keeps hk.toKeepsB,gD hk.drawn sw⟩;unfold Oper.wp;rw[dC];rcases hr with hr | ⟨hr,rfl⟩
  .rw[hr];exact jr
  rw[hr];exact jr
 by_cases IS: ∃ cl,o.op= .call cl
 .obtain⟨cl,ho⟩:=IS
  rw[ho] at h
  simp only[WPop,WPcall] at h
  obtain⟨callee,args,ts⟩:=cl
  cases callee with
  | builtin b=>
   simp only at h;split at h
   .rename_i r hr;obtain⟨hc,hK⟩:=h;have aF:=DI hr;obtain⟨h1,h2⟩:=hh.room (r.heap.length - st.heap.length);have dP:=Places.Le.append ρ (replicate (r.heap.length - st.heap.length) none);have bF:=Sr hT b args ts (o:=o) (e:=a.eval) (ρv:=ev st.env) ho h1 h2 (fun x _=>sh (he.mono dP) x) hr hc (by simp;omega);rw[append_nil] at bF;exact fin dP hK bF rfl
   .exact h.elim
  | value f=>
   simp only at h;split at h
   .rename_i k pre post Fp;obtain⟨v,H',PR,hK⟩:=h;have aF:=xG PR;obtain⟨h1,h2⟩:=hh.room (H'.length - st.heap.length);have dP:=Places.Le.append ρ (replicate (H'.length - st.heap.length) none);have hf:=sh (he.mono dP) f;have hfv: ∃ u1 u2,a.eval f= .func (.func k) u1 u2/\PRds w X (ρ++replicate (H'.length - st.heap.length) none) u1 pre/\PRds w X (ρ++replicate (H'.length - st.heap.length) none) u2 post:=by
     generalize ev st.env f=pf at hf Fp;unfold Hr at Fp;split at Fp
     .split at Fp
      .rename_i hz;cases Fp;refine⟨_,_,hf.litInv,⟨by simp,fun i v x hv hx=>?_⟩,⟨by simpa using hz,fun i v x hv hx=>by simp at hx⟩⟩;rw[List.getElem?_map,Option.map_eq_some_iff] at hx;obtain⟨y,hy,rfl⟩:=hx;rw[Array.getElem?_toList,hv] at hy;cases hy;exact mE _
      cases Fp
     .cases Fp;generalize mP:a.eval f=uf at hf;cases hf with
      | fv _ _ Qc=>
       cases Qc with
       | fn _ u1 u2 c1 c2 h1 h2 r1 r2=>
        refine⟨u1,u2,rfl,⟨by simpa using h1,fun i v x hv hx=>?_⟩,⟨by simpa using h2,fun i v x hv hx=>?_⟩⟩
        .rw[List.getElem?_map,Option.map_eq_some_iff] at hx;obtain⟨y,hy,rfl⟩:=hx;exact .fv _ _ (r1 i v y hv hy)
        rw[List.getElem?_map,Option.map_eq_some_iff] at hx;obtain⟨y,hy,rfl⟩:=hx;exact .fv _ _ (r2 i v y hv hy)
     cases Fp
    obtain⟨u1,u2,TX,DP,Im⟩:=hfv;have Iu: ∀ {va vb:Array Value} {xa xb:List PV},PRds w X (ρ++replicate (H'.length - st.heap.length) none) va xa->PRds w X (ρ++replicate (H'.length - st.heap.length) none) vb xb->
     PRds w X (ρ++replicate (H'.length - st.heap.length) none) (va++vb) (xa++xb):=by
     intro va vb xa xb ⟨sv,Fx⟩ ⟨dX,eI⟩
     refine⟨by simp[sv,dX],fun i v x hv hx=>?_⟩
     by_cases hi:i<va.size
     .rw[Array.getElem?_append_left hi] at hv
      rw[qi (by rw[<-sv];exact hi)] at hx
      exact Fx i v x hv hx
     rw[Array.getElem?_append_right (by omega)] at hv
     rw[getElem?_append_right (by rw[<-sv];omega),<-sv] at hx
     exact eI _ v x hv hx
    have qV:PRds w X (ρ++replicate (H'.length - st.heap.length) none) (args.map a.eval) (args.toList.map (ev st.env)):=by
     refine⟨by simp,fun i v x hv hx=>?_⟩;simp at hv;obtain⟨y,hy,rfl⟩:=hv;rw[List.getElem?_map] at hx;simp only[Array.getElem?_toList,hy,Option.map_some,qo] at hx;subst hx;exact sh (he.mono dP) y
    obtain⟨hgo,K_⟩:=AW h1 h2 (Iu (Iu DP qV) Im) PR (by simp;omega);unfold Oper.wp;rw[DJ ho TX hgo];refine K_.mono ?_;rintro e w' ⟨u,X',ρ',rfl,hs,sw,yX,hu,_⟩;rw[append_nil] at yX;exact hn v H' u w' X' ρ' hK yX ((he.mono dP).stp hs) hu ⟨hs.keeps hk.toKeepsB,gD hk.drawn sw⟩
   .exact h.elim
  | invoke r m=>exact h.elim
 have au: ∃ r,cq T st.heap (ev st.env) o.op=some r/\r.cond/\K r.val r.heap:=by
  unfold WPop at h;split at h
  .rename_i cl fr;exact absurd ⟨cl,fr⟩ IS
  split at h
  .rename_i r hr;exact⟨r,hr,h.1,h.2⟩
  exact h.elim
 obtain⟨r,hr,hc,hK⟩:=au
 have aF:=DH hr
 obtain⟨h1,h2⟩:=hh.room (r.heap.length - st.heap.length)
 have dP:=Places.Le.append ρ (replicate (r.heap.length - st.heap.length) none)
 have bF:=HO hT o.op (o:=o) (e:=a.eval) (ρv:=ev st.env) rfl h1 h2 (fun x _=>sh (he.mono dP) x) hr hc (by simp;omega)
 rw[append_nil] at bF
 exact fin dP hK bF rfl
theorem OH {w:World} {X:Nat->Prop} {ρ:Places} {ops:Array Oper} {tmps:Array Value} {env:List PV} (he:EnvRd w X ρ tmps env) {j t:Nat} (hj:(ops[j]?).bind (·.dst)=some t):
 (∀ b,env.getD t .any= .fv (.lit (.bool b))->yielded ops tmps j=some b)/\(env.getD t .any= .tup []->yielded ops tmps j=none):=by
 unfold yielded
 rw[hj]
 simp only[Option.bind_some]
 have key: ∀ x,env.getD t .any=x->x≠ .any-> ∃ v,tmps[t]?=some v/\PRd w X ρ v x:=by
  intro x hx e7;rw[qa] at hx;cases hg:env[t]? with
  | none=>rw[hg] at hx;exact absurd hx.symm e7
  | some y=>
   rw[hg] at hx;simp only[Option.getD_some] at hx;subst hx;have aL:t<tmps.size:=by rw[he.1];exact(List.getElem?_eq_some_iff.1 hg).1
   exact⟨tmps[t],by simp[aL],he.2 t _ _ (by simp[aL]) hg⟩
 constructor
 .intro b hb
  obtain⟨v,hv,hp⟩:=key _ hb (by simp)
  rw[hv,hp.litInv]
 intro hb
 obtain⟨v,hv,hp⟩:=key _ hb (by simp)
 rw[hv]
 cases hp;rfl
theorem qO (hT:cQ P T) {ops:Array Oper} {Q:Exit->Act->World->Prop} {c:gZ} {K:St->Prop} (hK: ∀ st a w,K st->SRd c st a w->Q .normal a w):
 ∀ (l:List Oper) (k:Nat) (st:St) (a:Act) (w:World),(∀ j,l[j]?=ops[k+j]?)->WPops P T ops l st K->SRd c st a w->wpOps P ops Q (range' k l.length) a w
 | [],k,st,a,w,_,h,hs=>hK st a w h hs
 | o::l,k,st,a,w,hl,h,hs=>by
  have h0:ops[k]?=some o:=by simpa using(hl 0).symm
  have Ja: ∀ j,l[j]?=ops[k+1+j]?:=fun j=>by
   have:=hl (j+1);rw[List.getElem?_cons_succ] at this;rw[this];congr 1;omega
  rw[length_cons,List.range'_succ];unfold wpOps;simp only[h0];obtain⟨X,ρ,hh,he,hd,hk⟩:=hs;have run: ∀ {Kp:St->Prop},WPop P T o.op st (fun v H=>WPops P T ops l (st.upd o.dst v H) K)->o.wp P a w (wpOps P ops Q (range' (k+1) l.length)) Q:=by
   intro _ hw;refine AX hT hw hh he hk (fun v H u w' X' ρ' hv yX PU hu yY=>?_);refine qO hT hK l (k+1) _ _ _ Ja hv ⟨X',ρ',yX,PU.put o.dst hu,?_,yY⟩;cases o.dst<;>exact hd
  have skip:WPops P T ops l (st.upd o.dst (.tup []) st.heap) K->wpOps P ops Q (range' (k+1) l.length) (a.put o.dst undef) w:=by
   intro hw;refine qO hT hK l (k+1) _ _ _ Ja hw ⟨X,ρ,hh,he.put o.dst (.tup #[] [] rfl (by simp)),?_,hk⟩;cases o.dst<;>exact hd
  unfold WPops at h;cases hg:o.guard with
  | none=>
   simp only[hg] at h;have pE:Region.wanted o (yielded ops a.tmps)=true:=by simp[Region.wanted,hg]
   rw[pE];exact .inl (run (Kp:=K) h)
  | some gd=>
   obtain⟨j,want⟩:=gd;simp only[hg] at h;cases hj:(ops[j]?).bind (·.dst) with
   | none=>rw[hj] at h;exact h.elim
   | some t=>
    rw[hj] at h;simp only at h;obtain⟨Ci,wR⟩:=OH (ops:=ops) he hj;split at h
    .rename_i b hb;have hy:=Ci b hb;by_cases La:b=want
     .have pE:Region.wanted o (yielded ops a.tmps)=true:=by simp[Region.wanted,hg,hy,La]
      rw[pE];exact .inl (run (Kp:=K) (h.1 La))
     have pE:Region.wanted o (yielded ops a.tmps)=false:=by simp[Region.wanted,hg,hy,La]
     rw[pE];exact skip (h.2 (by cases b<;>cases want<;>simp_all))
    .rename_i hb;have hy:=wR hb;have pE:Region.wanted o (yielded ops a.tmps)=false:=by simp[Region.wanted,hg,hy]
     rw[pE];exact skip h
    exact h.elim
theorem DK (hT:cQ P T) {ops:Array Oper} {Q:Exit->Act->World->Prop} {c:gZ} {K:St->Prop} (hK: ∀ st a w,K st->SRd c st a w->Q .normal a w):
 ∀ (n:Nat) (listed:Array Bool) (st:St) (a:Act) (w:World),WPany P T ops n listed st K->SRd c st a w->wpAny P .any ops Q n listed a w
 | 0,listed,st,a,w,h,hs=>⟨h.1,hK st a w h.2 hs⟩
 | n+1,listed,st,a,w,h,hs=>by
  refine⟨fun e=>hK st a w (h.1 e) hs,fun i hi=>?_⟩;have h2:=h.2 i hi;unfold wpOp;cases ho:ops[i]? with
  | none=>rw[ho] at h2;exact h2.elim
  | some o=>
   rw[ho] at h2;obtain⟨hg,hw⟩:=h2;have pE:Region.wanted o (yielded ops a.tmps)=true:=by simp[Region.wanted,hg]
   simp only[pE,if_true];obtain⟨X,ρ,hh,he,hd,hk⟩:=hs;refine .inl (AX hT hw hh he hk (fun v H u w' X' ρ' hv yX PU hu yY=>?_));refine DK hT hK n _ _ _ _ hv ⟨X',ρ',yX,PU.put o.dst hu,?_,yY⟩;cases o.dst<;>exact hd
end
end Go.AM
namespace Go.AM
section
variable {P:Program} {T:Tab}
theorem HR (hT:cQ P T) {o:Oper} {c:gZ} {a:Act} {w:World} {X:Nat->Prop} {ρ:Places} {s:St} {D R:List Ob} {v:PV} {H':List Ob} {next:Act->World->Prop} {Q:Exit->Act->World->Prop}
 (h:WPop P T o.op s fun v' H''=>v'=v/\H''=H') (hh:HRd c w X ρ (s.heap++(D++R))) (hD: ∀ id,s.heap.length<=id->id<s.heap.length+D.length->ρ[id]?=some none) (aF:H'.length=s.heap.length+D.length)
 (tX: ∀ x∈o.op.operands,PRd w X ρ (a.eval x) (ev s.env x))
 (hn: ∀ u w' X' ρ',Stp c w w' X X' ρ ρ'->w.drawn<=w'.drawn->HRd c w' X' ρ' (H'++R)->PRd w' X' ρ' u v->(∀ id,(id<s.heap.length\/s.heap.length+D.length<=id)->ρ'[id]?=ρ[id]?)->next (a.put o.dst u) w'):o.wp P a w next Q:=by
 have fin: ∀ {r:Result Next},OpOK c w X ρ s.heap.length (s.heap.length+D.length) (H'++R) r v->(execOp a.eval o).run P w=r->o.wp P a w next Q:=by
  intro r ⟨u,w',X',ρ',hr,hs,yX,hu,cG⟩ dC;have sw:w.drawn<=w'.drawn:=by
   rcases hr with hr | ⟨hr,_⟩
   .exact cU _ _ (dC.trans hr)
   exact cU _ _ (dC.trans hr)
  have jr:=hn u w' X' ρ' hs sw yX hu cG;unfold Oper.wp;rw[dC];rcases hr with hr | ⟨hr,rfl⟩
  .rw[hr];exact jr
  rw[hr];exact jr
 by_cases IS: ∃ cl,o.op= .call cl
 .obtain⟨cl,ho⟩:=IS
  rw[ho] at h tX
  simp only[WPop,WPcall] at h
  obtain⟨callee,args,ts⟩:=cl
  cases callee with
  | builtin b=>
   simp only at h;split at h
   .rename_i r hr;obtain⟨hc,rfl,rfl⟩:=h;exact fin (Sr hT b args ts (o:=o) (e:=a.eval) (ρv:=ev s.env) ho hh hD (fun x hx=>tX x (by simp[Op.operands,Call.operands];exact hx)) hr hc aF) rfl
   .exact h.elim
  | value f=>
   simp only at h;split at h
   .rename_i k pre post Fp;obtain⟨v1,H1,PR,rfl,rfl⟩:=h;have hf:=tX f (by simp[Op.operands,Call.operands]);have hfv: ∃ u1 u2,a.eval f= .func (.func k) u1 u2/\PRds w X ρ u1 pre/\PRds w X ρ u2 post:=by
     generalize ev s.env f=pf at hf Fp;unfold Hr at Fp;split at Fp
     .split at Fp
      .rename_i hz;cases Fp;refine⟨_,_,hf.litInv,⟨by simp,fun i v x hv hx=>?_⟩,⟨by simpa using hz,fun i v x hv hx=>by simp at hx⟩⟩;rw[List.getElem?_map,Option.map_eq_some_iff] at hx;obtain⟨y,hy,rfl⟩:=hx;rw[Array.getElem?_toList,hv] at hy;cases hy;exact mE _
      cases Fp
     .cases Fp;generalize mP:a.eval f=uf at hf;cases hf with
      | fv _ _ Qc=>
       cases Qc with
       | fn _ u1 u2 c1 c2 h1 h2 r1 r2=>
        refine⟨u1,u2,rfl,⟨by simpa using h1,fun i v x hv hx=>?_⟩,⟨by simpa using h2,fun i v x hv hx=>?_⟩⟩
        .rw[List.getElem?_map,Option.map_eq_some_iff] at hx;obtain⟨y,hy,rfl⟩:=hx;exact .fv _ _ (r1 i v y hv hy)
        rw[List.getElem?_map,Option.map_eq_some_iff] at hx;obtain⟨y,hy,rfl⟩:=hx;exact .fv _ _ (r2 i v y hv hy)
     cases Fp
    obtain⟨u1,u2,TX,DP,Im⟩:=hfv;have Iu: ∀ {va vb:Array Value} {xa xb:List PV},PRds w X ρ va xa->PRds w X ρ vb xb->PRds w X ρ (va++vb) (xa++xb):=by
     intro va vb xa xb ⟨sv,Fx⟩ ⟨dX,eI⟩;refine⟨by simp[sv,dX],fun i v x hv hx=>?_⟩;by_cases hi:i<va.size
     .rw[Array.getElem?_append_left hi] at hv;rw[qi (by rw[<-sv];exact hi)] at hx;exact Fx i v x hv hx
     rw[Array.getElem?_append_right (by omega)] at hv;rw[getElem?_append_right (by rw[<-sv];omega),<-sv] at hx;exact eI _ v x hv hx
    have qV:PRds w X ρ (args.map a.eval) (args.toList.map (ev s.env)):=by
     refine⟨by simp,fun i v x hv hx=>?_⟩;simp at hv;obtain⟨y,hy,rfl⟩:=hv;rw[List.getElem?_map] at hx;simp only[Array.getElem?_toList,hy,Option.map_some,qo] at hx;subst hx;exact tX y (by simp[Op.operands,Call.operands];exact .inr (Array.mem_of_getElem? hy))
    obtain⟨hgo,K_⟩:=AW hh hD (Iu (Iu DP qV) Im) PR aF;unfold Oper.wp;rw[DJ ho TX hgo];refine K_.mono ?_;rintro e w' ⟨u,X',ρ',rfl,hs,sw,yX,hu,cG⟩;exact hn u w' X' ρ' hs sw yX hu cG
   .exact h.elim
  | invoke r m=>exact h.elim
 have au: ∃ r,cq T s.heap (ev s.env) o.op=some r/\r.cond/\r.val=v/\r.heap=H':=by
  unfold WPop at h;split at h
  .rename_i cl fr;exact absurd ⟨cl,fr⟩ IS
  split at h
  .rename_i r hr;exact⟨r,hr,h.1,h.2⟩
  exact h.elim
 obtain⟨r,hr,hc,rfl,rfl⟩:=au
 exact fin (HO hT o.op (o:=o) (e:=a.eval) (ρv:=ev s.env) rfl hh hD tX hr hc aF) rfl
theorem DL {op:Op} {s:St} {K:PV->List Ob->Prop} (h:WPop P T op s K): ∃ v H',WPop P T op s (fun v' H''=>v'=v/\H''=H')/\K v H':=by
 unfold WPop at h;split at h
 .rename_i c;unfold WPcall at h;split at h
  .rename_i b hb;split at h
   .rename_i r hr;exact⟨r.val,r.heap,by simp only[WPop,WPcall,hb,hr];exact⟨h.1,cK,cK⟩,h.2⟩
   exact h.elim
  .rename_i f hf;split at h
   .rename_i k pre post Fp;obtain⟨v,H',PR,hK⟩:=h;exact⟨v,H',by simp only[WPop,WPcall,hf,Fp];exact⟨v,H',PR,rfl,rfl⟩,hK⟩
   exact h.elim
  exact h.elim
 rename_i mL;split at h
 .rename_i r hr;refine⟨r.val,r.heap,?_,h.2⟩;unfold WPop;split
  .rename_i c;exact absurd rfl (mL c)
  rw[hr];exact⟨h.1,rfl,rfl⟩
 exact h.elim
theorem HT {op:Op} {s:St} {v:PV} {H':List Ob} (h:WPop P T op s fun v' H''=>v'=v/\H''=H'):s.heap.length<=H'.length:=by
 unfold WPop at h;split at h
 .rename_i c;unfold WPcall at h;split at h
  .split at h
   .rename_i r hr;rw[<-h.2.2];exact DI hr
   exact h.elim
  .split at h
   .obtain⟨v,H',PR,_,rfl⟩:=h;exact xG PR
   exact h.elim
  exact h.elim
 split at h
 .rename_i r hr;rw[<-h.2.2];exact DH hr
 exact h.elim
theorem E1 (hT:cQ P T) {op:Op} (h0:eR op=0) {w:World} {X:Nat->Prop} {ρ:Places} {s:St} {v:PV} {H':List Ob} {o:Oper} (ho:o.op=op) {e:Operand->Value} (h:WPop P T op s fun v' H''=>v'=v/\H''=H')
 (tX: ∀ x∈op.operands,PRd w X ρ (e x) (ev s.env x)):H'=s.heap/\ ∃ u,(execOp e o).run P w= .ok (.value u) w/\PRd w X ρ u v:=by
 cases op<;>simp only[eR,reduceCtorEq] at h0<;>try first | (cases h0;done) | (split at h0<;>cases h0;done)
 case move x=>
  simp only[WPop,cq,Res.pure] at h;obtain⟨_,rfl,rfl⟩:=h;exact⟨rfl,e x,by simp[execOp,ho],tX x (by simp[Op.operands])⟩
 case assign x=>
  simp only[WPop,cq,Res.pure] at h;obtain⟨_,rfl,rfl⟩:=h;exact⟨rfl,e x,by simp[execOp,ho],tX x (by simp[Op.operands])⟩
 case extract x ix=>
  have hx:=tX x (by simp[Op.operands]);simp only[WPop,cq] at h;cases hv:ev s.env x with
  | tup vs=>
   rw[hv] at h hx;simp only at h;cases fh:vs[ix]? with
   | none=>rw[fh] at h;exact h.elim
   | some y=>
    rw[fh] at h;simp only[Res.pure] at h;obtain⟨_,rfl,rfl⟩:=h;generalize hu:e x=u at hx;cases hx with
    | tup us _ hn hr=>
     have aL:ix<us.size:=by rw[hn];exact(List.getElem?_eq_some_iff.1 fh).1
     exact⟨rfl,us[ix],by simp[execOp,ho,hu,Instr.extract,Array.getElem?_eq_getElem aL],hr ix _ _ (Array.getElem?_eq_getElem aL) fh⟩
  | _=>rw[hv] at h;exact h.elim
 case binOp bop t x y t'=>
  have hx:=tX x (by simp[Op.operands]);have hy:=tX y (by simp[Op.operands]);simp only[WPop] at h;split at h
  .rename_i r hr;obtain⟨hc,rfl,rfl⟩:=h;exact AL hT bop t x y t' ho hx hy hr hc
  exact h.elim
end
end Go.AM
namespace Go.AM
section
variable {P:Program} {T:Tab} {ops:Array Oper}
def xH (ops:Array Oper) (s:St) (o:Oper):Option Bool:=
 match o.guard with
 | none=>some true
 | some (j,want)=>match (ops[j]?).bind (·.dst) with
  | some t=>match s.get t with
   | .fv (.lit (.bool b))=>some (b==want)
   | .tup []=>some false
   | _=>none
  | none=>none
def Step1 (P:Program) (T:Tab) (ops:Array Oper) (o:Oper) (s s':St):Prop:=
 (xH ops s o=some true/\ ∃ v H',(WPop P T o.op s fun v' H''=>v'=v/\H''=H')/\(cB o.op=true\/ ∃ obs,H'=s.heap++obs)/\s'=s.upd o.dst v H')\/
 (xH ops s o=some false/\s'=s.upd o.dst (.tup []) s.heap)
theorem afQ {K:St->Prop}: ∀ (l:List Oper) (st:St),WPdraw P T ops l st K-> ∃ S:Nat->St,S 0=st/\(∀ (j:Nat) o,l[j]?=some o->Step1 P T ops o (S j) (S (j+1)))/\K (S l.length)
 | [],st,h=>⟨fun _=>st,rfl,by simp,h⟩
 | o::l,st,h=>by
  have fin: ∀ s',Step1 P T ops o st s'->WPdraw P T ops l s' K-> ∃ S:Nat->St,S 0=st/\(∀ (j:Nat) o',(o::l)[j]?=some o'->Step1 P T ops o' (S j) (S (j+1)))/\K (S (o::l).length):=by
   intro s' hs hw;obtain⟨S,h0,h1,h2⟩:=afQ l s' hw;refine⟨fun j=>match j with | 0=>st | j+1=>S j,rfl,fun j o' hj=>?_,h2⟩
   cases j with
   | zero=>simp at hj;subst hj;simp only[h0];exact hs
   | succ j=>exact h1 j o' (by simpa using hj)
  unfold WPdraw at h;cases hg:o.guard with
  | none=>
   simp only[hg] at h;obtain⟨v,H',h1,h2,h3⟩:=DL h;exact fin _ (.inl ⟨by simp[xH,hg],v,H',h1,h2,rfl⟩) h3
  | some gd=>
   obtain⟨j,want⟩:=gd;simp only[hg] at h;cases hj:(ops[j]?).bind (·.dst) with
   | none=>rw[hj] at h;exact h.elim
   | some t=>
    rw[hj] at h;simp only at h;split at h
    .rename_i b hb;by_cases La:b=want
     .obtain⟨v,H',h1,h2,h3⟩:=DL (h.1 La);exact fin _ (.inl ⟨by simp[xH,hg,hj,hb,La],v,H',h1,h2,rfl⟩) h3
     exact fin _ (.inr ⟨by simp[xH,hg,hj,hb,La],rfl⟩) (h.2 (by cases b<;>cases want<;>simp_all))
    .rename_i hb;exact fin _ (.inr ⟨by simp[xH,hg,hj,hb],rfl⟩) h
    exact h.elim
def wN (ops:Array Oper) (listed:Array Bool):Prop:=
 ∀ (j:Nat) oj,ops[j]?=some oj->listed.getD j false=true-> ∀ e∈oj.after,dB e=true->listed.getD e.on false=true
def wO (ops:Array Oper) (acc:List Nat):Prop:=
 ∀ (j:Nat) oj i,j<acc.length->ops[j]?=some oj->(acc.getD j 0).testBit i=true-> ∀ listed,wN ops listed->(∀ e∈oj.after,dB e=true->listed.getD e.on false=true)->listed.getD i false=true
theorem sU (acc:List Nat): ∀ (es:List Edge) (s i:Nat),(es.foldl (fun s e=>if dB e then s||| 2^e.on||| acc.getD e.on 0 else s) s).testBit i=true->
 s.testBit i=true\/ ∃ e∈es,dB e=true/\(i=e.on\/(acc.getD e.on 0).testBit i=true)
 | [],s,i,h=> .inl h
 | e::es,s,i,h=>by
  rw[List.foldl_cons] at h;rcases sU acc es _ i h with h1 | ⟨e',PU,hp,h1⟩
  .split at h1
   .rename_i hp;simp only[Nat.testBit_or,qsb] at h1;rcases h1 with(h1 | h1) | h1
    .exact .inl h1
    .right;refine⟨e,by simp,hp,.inl ?_⟩;rw[Nat.testBit_two_pow] at h1;have h2:e.on=i:=by simpa using h1
     exact h2.symm
    exact .inr ⟨e,by simp,hp,.inr h1⟩
   exact .inl h1
  exact .inr ⟨e',by simp[PU],hp,h1⟩
theorem AY: ∀ (l:List Oper) (acc:List Nat),(∀ j,l[j]?=ops[acc.length+j]?)->wO ops acc->wO ops (xz l acc)
 | [],acc,_,h=>h
 | o::l,acc,hl,h=>by
  have h0:ops[acc.length]?=some o:=by simpa using(hl 0).symm
  refine AY l _ (fun j=>?_) ?_
  .have:=hl (j+1);rw[List.getElem?_cons_succ] at this;rw[this];congr 1;simp;omega
  intro j oj i hj PE hb listed hc hp;by_cases aL:j<acc.length
  .rw[qa,qi aL,<-qa] at hb;exact h j oj i aL PE hb listed hc hp
  have Nc:j=acc.length:=by simp at hj;omega
  subst Nc;rw[h0] at PE;cases PE;simp only[qa,getElem?_append_right (qp _),Nat.sub_self,List.getElem?_cons_zero,Option.getD_some] at hb;unfold Hu at hb;rcases sU acc _ 0 i hb with h1 | ⟨e,he,ZE,h1⟩
  .simp at h1
  have dP:=hp e (Array.mem_toList_iff.1 he) ZE;rcases h1 with rfl | h1
  .exact dP
  have amW:e.on<acc.length:=by
   apply Nat.lt_of_not_le;intro Fv;rw[qa,List.getElem?_eq_none Fv] at h1;simp at h1
  have pP: ∃ oe,ops[e.on]?=some oe:=by
   have TA:acc.length<ops.size:=(Array.getElem?_eq_some_iff.1 h0).1;exact⟨ops[e.on]'(by omega),by simp[show e.on<ops.size by omega]⟩
  obtain⟨oe,hoe⟩:=pP;exact h e.on oe i amW hoe h1 listed hc (fun e' PU amX=>hc e.on oe hoe dP e' PU amX)
structure iI (ops:Array Oper):Prop where
 cls: ∀ (j:Nat) oj,ops[j]?=some oj->eR oj.op<3
 low: ∀ (j:Nat) oj,ops[j]?=some oj-> ∀ e∈oj.after,dB e=true->e.on<j
 ord: ∀ (i j:Nat) oi oj,i<j->ops[i]?=some oi->ops[j]?=some oj->lN ops oi oj=true-> ∀ listed,wN ops listed->(∀ e∈oj.after,dB e=true->listed.getD e.on false=true)->listed.getD i false=true
theorem vj: ∀ (l:List Oper) (acc:List Nat),(xz l acc).length=acc.length+l.length
 | [],acc=>by simp[xz]
 | o::l,acc=>by rw[xz,vj l];simp;omega
theorem OI (h:tF ops=true):iI ops:=by
 unfold tF at h;rw[vP] at h;have hm:wO ops (xz ops.toList []):=AY ops.toList [] (by simp) (by intro j oj i hj;simp at hj);have key: ∀ (j:Nat) oj,ops[j]?=some oj->(eR oj.op<3/\ ∀ e∈oj.after,dB e=true->e.on<j)/\ ∀ i,i<j-> ∀ oi,ops[i]?=some oi->lN ops oi oj=true->((xz ops.toList []).getD j 0).testBit i=true:=by
  intro j oj hj;have aL:j<ops.size:=(Array.getElem?_eq_some_iff.1 hj).1;have h1:=h j (List.mem_range.2 aL);simp only[hj,BP,decide_eq_true_eq,vP] at h1;obtain⟨⟨h2,h3⟩,h4⟩:=h1;refine⟨⟨h2,fun e he hp=>?_⟩,fun i hi oi hoi fr=>?_⟩
  .have:=h3 e (Array.mem_toList_iff.2 he);simpa [hp] using this
  have:=h4 i (List.mem_range.2 hi);simpa [hoi,fr] using this
 refine⟨fun j oj hj=>(key j oj hj).1.1,fun j oj hj=>(key j oj hj).1.2,fun i j oi oj sE hi hj fr listed hc hp=>?_⟩;exact hm j oj i (by rw[vj];simp;exact(Array.getElem?_eq_some_iff.1 hj).1) hj ((key j oj hj).2 i sE oi hi fr) listed hc hp
end
end Go.AM
namespace Go.AM
section
variable {P:Program} {T:Tab} {ops:Array Oper}
theorem wP (e:Edge):Region.binds .any e=dB e:=by
 unfold Region.binds dB;cases e.ground<;>rfl
theorem VS (s:St) (d:Option Nat) (v:PV) (H:List Ob) (t:Nat) (h:d≠some t):(s.upd d v H).env.getD t .any=s.env.getD t .any:=by
 unfold St.upd;cases d with
 | none=>rfl
 | some t'=>
  have:t'≠t:=fun he=>h (by rw[he])
  simp only[qa,getElem?_set_ne this]
theorem E2 (s:St) (v:PV) (H:List Ob) (t:Nat) (h:t<s.env.length):(s.upd (some t) v H).env.getD t .any=v:=by
 unfold St.upd;simp[qa,h]
theorem VT (s:St) (d:Option Nat) (v:PV) (H:List Ob):(s.upd d v H).env.length=s.env.length:=by
 unfold St.upd;cases d<;>simp
structure Su (P:Program) (T:Tab) (ops:Array Oper) (S:Nat->St):Prop where
 step: ∀ (j:Nat) o,ops[j]?=some o->Step1 P T ops o (S j) (S (j+1))
variable {S:Nat->St}
theorem Step1.env {o:Oper} {s s':St} (h:Step1 P T ops o s s') (t:Nat) (ht:o.dst≠some t):s'.env.getD t .any=s.env.getD t .any:=by
 rcases h with⟨_,v,H',_,_,rfl⟩ | ⟨_,rfl⟩<;>exact VS _ _ _ _ _ ht
theorem Step1.len {o:Oper} {s s':St} (h:Step1 P T ops o s s'):s'.env.length=s.env.length:=by
 rcases h with⟨_,v,H',_,_,rfl⟩ | ⟨_,rfl⟩<;>exact VT _ _ _ _
theorem Step1.heap {o:Oper} {s s':St} (h:Step1 P T ops o s s'):s.heap.length<=s'.heap.length/\True/\(cB o.op=false->s'.heap=s.heap++s'.heap.drop s.heap.length):=by
 rcases h with⟨_,v,H',hw,gM,rfl⟩ | ⟨_,rfl⟩
 .refine⟨HT hw,cK,fun hs=>?_⟩;rcases gM with gM | ⟨obs,rfl⟩
  .rw[hs] at gM;cases gM
  simp[St.upd]
 simp[St.upd]
def ka (n:Nat) (S:Nat->St):Nat->List Ob
 | 0=>[]
 | m+1=>(S (n - m)).heap.drop (S (n - m - 1)).heap.length++ka n S m
def full (n:Nat) (S:Nat->St) (i:Nat):List Ob:=(S i).heap++ka n S (n - i)
theorem tK {n i:Nat} (h:i<n):ka n S (n - i)=(S (i+1)).heap.drop (S i).heap.length++ka n S (n - (i+1)):=by
 have e:n - i=(n - (i+1))+1:=by omega
 rw[e,ka];rw[show n - (n - (i+1))=i+1 by omega,show i+1 - 1=i by omega]
theorem sj (hr:Su P T ops S) {i:Nat} {o:Oper} (ho:ops[i]?=some o):
 (cB o.op=false->full ops.size S i=full ops.size S (i+1))/\full ops.size S i=(S i).heap++((S (i+1)).heap.drop (S i).heap.length++ka ops.size S (ops.size - (i+1))):=by
 have aL:i<ops.size:=(Array.getElem?_eq_some_iff.1 ho).1
 have h2:full ops.size S i=(S i).heap++((S (i+1)).heap.drop (S i).heap.length++ka ops.size S (ops.size - (i+1))):=by
  unfold full;rw[tK aL]
 refine⟨fun hs=>?_,h2⟩
 rw[h2,<-append_assoc,<-((hr.step i o ho).heap.2.2 hs)]
 rfl
theorem AZ (hr:Su P T ops S) {t:Nat}: ∀ (d i:Nat),i+d<=ops.size->(∀ k o,i<=k->k<i+d->ops[k]?=some o->o.dst≠some t)->(S (i+d)).env.getD t .any=(S i).env.getD t .any
 | 0,i,_,_=>rfl
 | d+1,i,hl,h=>by
  have aL:i+d<ops.size:=by omega
  have h1:=hr.step (i+d) ops[i+d] (by simp[aL]);rw[show i+(d+1)=(i+d)+1 by omega,h1.env t (h (i+d) _ (by omega) (by omega) (by simp[aL]))];exact AZ hr d i (by omega) (fun k o hk jF ho=>h k o hk (by omega) ho)
theorem iJ (hr:Su P T ops S): ∀ (d i:Nat),i+d<=ops.size->(∀ k o,i<=k->k<i+d->ops[k]?=some o->cB o.op=false)->full ops.size S (i+d)=full ops.size S i
 | 0,i,_,_=>rfl
 | d+1,i,hl,h=>by
  have aL:i+d<ops.size:=by omega
  have h1:=(sj hr (i:=i+d) (o:=ops[i+d]) (by simp[aL])).1 (h (i+d) _ (by omega) (by omega) (by simp[aL]));rw[show i+(d+1)=(i+d)+1 by omega,<-h1];exact iJ hr d i (by omega) (fun k o hk jF ho=>h k o hk (by omega) ho)
theorem iK (hr:Su P T ops S): ∀ (d i:Nat),i+d<=ops.size->(S i).heap.length<=(S (i+d)).heap.length
 | 0,i,_=>qp _
 | d+1,i,hl=>by
  have aL:i+d<ops.size:=by omega
  have h1:=(hr.step (i+d) ops[i+d] (by simp[aL])).heap.1;exact gD (iK hr d i (by omega)) h1
theorem yN (hr:Su P T ops S): ∀ (i:Nat),i<=ops.size->(S i).env.length=(S 0).env.length
 | 0,_=>rfl
 | i+1,h=>by
  have aL:i<ops.size:=by omega
  rw[(hr.step i ops[i] (by simp[aL])).len];exact yN hr i (by omega)
def Cut (ops:Array Oper) (listed:Array Bool) (t i:Nat):Prop:= ∀ (k:Nat) o,ops[k]?=some o->o.dst=some t->(listed.getD k true=true↔k<i)
def J3 (ops:Array Oper) (listed:Array Bool) (i:Nat):Prop:= ∀ (k:Nat) o,ops[k]?=some o->cB o.op=true->(listed.getD k true=true↔k<i)
structure Inv (ops:Array Oper) (S:Nat->St) (c:gZ) (listed:Array Bool) (a:Act) (w:World) (X:Nat->Prop) (ρ:Places):Prop where
 sz:listed.size=ops.size
 closed:wN ops listed
 defers:a.defers=[]
 keeps:Keeps c w
 tl:a.tmps.size=(S 0).env.length
 env: ∀ (t i:Nat) u,i<=ops.size->Cut ops listed t i->a.tmps[t]?=some u->PRd w X ρ u ((S i).env.getD t .any)
 heap: ∀ i,i<=ops.size->J3 ops listed i->HRd c w X ρ (full ops.size S i)
 places: ∀ i,i<ops.size->listed.getD i true=false-> ∀ id,(S i).heap.length<=id->id<(S (i+1)).heap.length->ρ[id]?=some none
end
end Go.AM
namespace Go.AM
section
variable {P:Program} {T:Tab} {ops:Array Oper} {S:Nat->St}
theorem de {op:Op} (h:cB op=true):eR op=2:=by
 cases op<;>first | rfl | (simp[cB] at h;done) | (simp only[cB] at h;simp[eR,h])
theorem OJ {o:Oper} {t:Nat} (h:Operand.tmp t∈o.op.operands):t∈sS ops o:=by
 unfold sS;rw[qr,List.mem_filterMap];exact .inl ⟨.tmp t,Array.mem_toList_iff.2 h,rfl⟩
theorem HU {o:Oper} {g:Nat} {want:Bool} {t:Nat} (h:o.guard=some (g,want)) (ht:(ops[g]?).bind (·.dst)=some t):t∈sS ops o:=by
 unfold sS Ht;rw[qr,h];right;simp only[ht];simp
theorem OK {x y:Oper} {d:Nat} (h:x.dst=some d) (hr:d∈sS ops y):lN ops x y=true:=by
 unfold lN;simp[h,hr]
theorem OL {x y:Oper} {d:Nat} (h:y.dst=some d) (hr:d∈sS ops x):lN ops x y=true:=by
 unfold lN;simp[h,hr]
theorem Sv {x y:Oper} {d:Nat} (h:x.dst=some d) (h2:y.dst=some d):lN ops x y=true:=by
 unfold lN;simp[h,h2]
theorem qP {x y:Oper} (h:eR x.op=2) (h2:1<=eR y.op) (h3:o4 y.op=false):lN ops x y=true:=by
 unfold lN;simp[h,h2,h3]
theorem kb {op:Op} (h:cB op=true):o4 op=false:=by
 cases op<;>first | rfl | (simp[cB] at h;done)
theorem A0 {x y:Oper} (h:1<=eR x.op) (h2:eR y.op=2):lN ops x y=true:=by
 unfold lN;simp[h,h2]
theorem o_ {listed:Array Bool} {k:Nat} (h:k<listed.size):listed.getD k true=listed.getD k false:=by
 simp[h]
variable {c:gZ} {listed:Array Bool} {a:Act} {w:World} {X:Nat->Prop} {ρ:Places} {i:Nat} {o:Oper}
theorem tL (hf:iI ops) (fr:wN ops listed) (hp: ∀ e∈o.after,dB e=true->listed.getD e.on false=true) (ho:ops[i]?=some o) {k:Nat} {ok:Oper} (hk:k<i) (bF:ops[k]?=some ok)
 (h:lN ops ok o=true):listed.getD k false=true:=hf.ord k i ok o hk bF ho h listed fr hp
theorem gL (hf:iI ops) (dQ:listed.size=ops.size) (fr:wN ops listed) (sx:listed.getD i true=false) (ho:ops[i]?=some o) {k:Nat} {ok:Oper} (hk:i<k) (bF:ops[k]?=some ok) (h:lN ops o ok=true):
 listed.getD k true=false:=by
 cases hl:listed.getD k true with
 | false=>rfl
 | true=>
  have pL:k<listed.size:=by rw[dQ];exact(Array.getElem?_eq_some_iff.1 bF).1
  rw[o_ pL] at hl;have h1:=hf.ord i k o ok hk ho bF h listed fr (fun e he ZE=>fr k ok bF hl e he ZE);have dJ:i<listed.size:=by rw[dQ];exact(Array.getElem?_eq_some_iff.1 ho).1
  rw[o_ dJ,h1] at sx;cases sx
theorem vk (hr:Su P T ops S) (hf:iI ops) (bK:Inv ops S c listed a w X ρ) (ho:ops[i]?=some o) (sx:listed.getD i true=false) (hp: ∀ e∈o.after,dB e=true->listed.getD e.on false=true)
 {u:Value} {v:PV} {H':List Ob} {w':World} {X':Nat->Prop} {ρ':Places} (hS:S (i+1)=(S i).upd o.dst v H') (hs:Stp c w w' X X' ρ ρ') (sw:w.drawn<=w'.drawn) (hu:PRd w' X' ρ' u v)
 (cG: ∀ id,(id<(S i).heap.length\/(S (i+1)).heap.length<=id)->ρ'[id]?=ρ[id]?)
 (sZ: ∀ i2,i2<=ops.size->J3 ops (listed.setIfInBounds i true) i2->HRd c w' X' ρ' (full ops.size S i2)):Inv ops S c (listed.setIfInBounds i true) (a.put o.dst u) w' X' ρ':=by
 have dJ:i<ops.size:=(Array.getElem?_eq_some_iff.1 ho).1
 have XA:i<listed.size:=by rw[bK.sz];exact dJ
 have BF: ∀ d,(listed.setIfInBounds i true).getD i d=true:=by intro d;simp[XA]
 have e7: ∀ k d,k≠i->(listed.setIfInBounds i true).getD k d=listed.getD k d:=fun k d hk=>getD_set_ne d (Ne.symm hk)
 refine⟨by simp[bK.sz],?_,by cases hd:o.dst<;>simp[Act.put,bK.defers],⟨hs.keeps bK.keeps.toKeepsB,gD bK.keeps.drawn sw⟩,by cases hd:o.dst<;>simp[Act.put,bK.tl],?_,sZ,?_⟩
 .intro j oj hj hl e he ZE
  by_cases ss:j=i
  .subst ss
   rw[ho] at hj;cases hj
   exact getD_set_true (hp e he ZE)
  rw[e7 j false ss] at hl
  exact getD_set_true (bK.closed j oj hj hl e he ZE)
 .intro t i2 u2 iR po Bt
  by_cases hd:o.dst=some t
  .have Nb:i<i2:=(po i o ho hd).1 (BF true)
   rw[hd] at Bt
   simp only[Act.put] at Bt
   have aL:t<a.tmps.size:=by have:=(Array.getElem?_eq_some_iff.1 Bt).1;simpa using this
   simp[aL] at Bt
   subst Bt
   have he:(S i2).env.getD t .any=(S (i+1)).env.getD t .any:=by
    have:=AZ hr (t:=t) (i2 - (i+1)) (i+1) (by omega) (fun k ok hk jF bF PA=>by
     have h1:=(po k ok bF PA).2 (by omega);rw[e7 k true (by omega)] at h1;have h2:=gL hf bK.sz bK.closed sx ho (show i<k by omega) bF (Sv hd PA);rw[h1] at h2;cases h2)
    rw[show i+1+(i2 - (i+1))=i2 by omega] at this;exact this
   rw[he,hS,hd,E2]
   .exact hu
   rw[yN hr i (by omega),<-bK.tl];exact aL
  have hu3:a.tmps[t]?=some u2:=by
   cases Ce:o.dst with
   | none=>rw[Ce] at Bt;exact Bt
   | some d=>
    rw[Ce] at Bt hd;simp only[Act.put] at Bt;rw[Array.getElem?_setIfInBounds_ne (by intro he;exact hd (by rw[he]))] at Bt;exact Bt
  refine(bK.env t i2 u2 iR (fun k ok bF PA=>?_) hu3).stp hs
  have DX:k≠i:=by
   intro he;subst he;rw[ho] at bF;cases bF;exact hd PA
  rw[<-e7 k true DX]
  exact po k ok bF PA
 intro i2 iR XB id h1 h2
 have ah5:i2≠i:=by intro he;subst he;rw[BF] at XB;cases XB
 rw[e7 i2 true ah5] at XB
 rw[cG id ?_]
 .exact bK.places i2 iR XB id h1 h2
 rcases Nat.lt_or_gt_of_ne ah5 with aL | Cm
 .left
  have:=iK hr (i - (i2+1)) (i2+1) (by omega)
  rw[show i2+1+(i - (i2+1))=i by omega] at this
  omega
 right
 have:=iK hr (i2 - (i+1)) (i+1) (by omega)
 rw[show i+1+(i2 - (i+1))=i2 by omega] at this
 omega
theorem OM (hf:iI ops) (dQ:listed.size=ops.size) (fr:wN ops listed) (sx:listed.getD i true=false) (_hp: ∀ e∈o.after,dB e=true->listed.getD e.on false=true) (ho:ops[i]?=some o)
 (h1:1<=eR o.op): ∃ c0,c0<=i/\J3 ops listed c0:=by
 have key: ∀ n,n<=i->(∀ k,k<n-> ∀ ok,ops[k]?=some ok->cB ok.op=true->listed.getD k true=true)\/
  ∃ k ok,k<n/\ops[k]?=some ok/\cB ok.op=true/\listed.getD k true=false/\ ∀ k2,k2<k-> ∀ P_,ops[k2]?=some P_->cB P_.op=true->listed.getD k2 true=true:=by
  intro n
  induction n with
  | zero=>exact fun _=> .inl (fun k hk=>by omega)
  | succ n ih=>
   intro hn;rcases ih (by omega) with h | ⟨k,ok,hk,h⟩
   .by_cases hb: ∃ ok,ops[n]?=some ok/\cB ok.op=true/\listed.getD n true=false
    .obtain⟨ok,a1,a2,a3⟩:=hb;exact .inr ⟨n,ok,by omega,a1,a2,a3,fun k2 jF P_ h2 h3=>h k2 jF P_ h2 h3⟩
    refine .inl (fun k hk ok h2 h3=>?_);by_cases M5:k=n
    .subst M5;cases hl:listed.getD k true with
     | true=>rfl
     | false=>exact absurd ⟨ok,h2,h3,hl⟩ hb
    exact h k (by omega) ok h2 h3
   exact .inr ⟨k,ok,by omega,h⟩
 rcases key i (qp _) with h | ⟨k,ok,hk,bF,ck,hl,amY⟩
 .refine⟨i,qp _,fun k ok bF ck=>?_⟩
  rcases Nat.lt_trichotomy k i with aL | heq | Cm
  .have:=h k aL ok bF ck
   simp[this,aL]
  .subst heq;simp[sx]
  have h2:=gL hf dQ fr sx ho Cm bF (A0 h1 (de ck))
  simp[h2];omega
 refine⟨k,by omega,fun k2 P_ Bw Ip=>?_⟩
 rcases Nat.lt_trichotomy k2 k with aL | heq | Cm
 .have:=amY k2 aL P_ Bw Ip
  simp[this,aL]
 .subst heq;simp[hl]
 have h2:=gL hf dQ fr hl bF Cm Bw (qP (de ck) (by rw[de Ip];omega) (kb Ip))
 simp[h2];omega
theorem ON {op:Op} {s:St} {v:PV} {H':List Ob} (ha:o4 op=true) (h:WPop P T op s fun v' H''=>v'=v/\H''=H'):
 ∃ b,v= .ptr s.heap.length 0 0/\H'=s.heap++[b]/\ ∀ F:List Ob,F.length=s.heap.length->WPop P T op ⟨s.env,F⟩ fun v' H''=>v'=v/\H''=F++[b]:=by
 cases op with
 | alloc t=>
  unfold WPop cq at h;simp only at h;unfold WPop cq;cases hi:T.at t with
  | none=>rw[hi] at h;exact h.elim
  | some ti=>
   rw[hi] at h;simp only at h ⊢;obtain⟨h1,h2,h3⟩:=h;exact⟨_,h2.symm,h3.symm,fun F hF=>by
    rw[hi];exact⟨h1,by rw[hF];exact h2,rfl⟩⟩
 | _=>simp[o4] at ha
theorem A1 (hr:Su P T ops S): ∀ (d c0:Nat),c0+d<=ops.size->(ka ops.size S (ops.size - c0)).drop ((S (c0+d)).heap.length - (S c0).heap.length)=ka ops.size S (ops.size - (c0+d))
 | 0,c0,_=>by rw[Nat.add_zero,Nat.sub_self,List.drop_zero]
 | d+1,c0,h=>by
  have ih:=A1 hr d c0 (by omega);have m1:=iK hr d c0 (by omega);have m2:=iK hr 1 (c0+d) (by omega);rw[tK (i:=c0+d) (by omega)] at ih;rw[show c0+(d+1)=c0+d+1 by omega];have e:(S (c0+d+1)).heap.length - (S c0).heap.length=((S (c0+d)).heap.length - (S c0).heap.length)+((S (c0+d+1)).heap.length - (S (c0+d)).heap.length):=by omega
  rw[e,<-List.drop_drop,ih,List.drop_append_of_le_length (by rw[length_drop];omega),List.drop_of_length_le (by rw[length_drop];omega)];rfl
theorem OO (hr:Su P T ops S) (d c0:Nat) (h:c0+d<=ops.size):(full ops.size S c0).drop (S (c0+d)).heap.length=ka ops.size S (ops.size - (c0+d)):=by
 have m1:=iK hr d c0 h;have:=A1 hr d c0 h;unfold full;rw[List.drop_append,List.drop_of_length_le m1,nil_append,this]
theorem Sx (hT:cQ P T) {Q:Exit->Act->World->Prop} (hr:Su P T ops S) (hf:iI ops) (bK:Inv ops S c listed a w X ρ) (hi:i∈Region.ready .any ops listed):
 wpOp P ops Q i (fun a' w'=> ∃ X' ρ',Inv ops S c (listed.setIfInBounds i true) a' w' X' ρ') a w:=by
 obtain⟨sx,o,ho,pO⟩:=mem_ready.1 hi
 have hp: ∀ e∈o.after,dB e=true->listed.getD e.on false=true:=fun e he ZE=>pO e he (by rw[wP];exact ZE)
 have dJ:i<ops.size:=(Array.getElem?_eq_some_iff.1 ho).1
 have XA:i<listed.size:=by rw[bK.sz];exact dJ
 have ah6: ∀ t,t∈sS ops o->Cut ops listed t i:=by
  intro t ht k ok bF PA;rcases Nat.lt_trichotomy k i with aL | heq | Cm
  .have h1:=tL hf bK.closed hp ho aL bF (OK PA ht);rw[<-o_ (by rw[bK.sz];omega)] at h1;simp[h1,aL]
  .subst heq;simp[sx]
  have h1:=gL hf bK.sz bK.closed sx ho Cm bF (OL PA ht);simp[h1];omega
 have Fq: ∀ t,t∈sS ops o->PRd w X ρ (a.tmps.getD t undef) ((S i).env.getD t .any):=by
  intro t ht;by_cases aL:t<a.tmps.size
  .have:=bK.env t i a.tmps[t] (by omega) (ah6 t ht) (by simp[aL]);simpa [aL] using this
  have Fv:(S i).env.length<=t:=by rw[yN hr i (by omega),<-bK.tl];omega
  rw[qa,List.getElem?_eq_none Fv];exact .any _
 have tX: ∀ x∈o.op.operands,PRd w X ρ (a.eval x) (ev (S i).env x):=by
  intro x hx;cases x with
  | tmp t=>exact Fq t (OJ hx)
  | const v=>exact mE v
  | global g=>exact .any _
  | func f=>exact .fv _ _ (.lit _ rfl)
 have pE: ∀ b,xH ops (S i) o=some b->Region.wanted o (yielded ops a.tmps)=b:=by
  intro b hb;unfold xH at hb;unfold Region.wanted;cases hg:o.guard with
  | none=>rw[hg] at hb;simp at hb;simp[hb]
  | some gd=>
   obtain⟨j,want⟩:=gd;rw[hg] at hb;simp only at hb ⊢;cases hj:(ops[j]?).bind (·.dst) with
   | none=>rw[hj] at hb;cases hb
   | some t=>
    rw[hj] at hb;simp only at hb;have ht:=Fq t (HU hg hj);have hy:yielded ops a.tmps j=(match a.tmps[t]? with | some (.bool b)=>some b | _=>none):=by
     unfold yielded;rw[hj];rfl
    rw[hy];unfold St.get at hb;split at hb
    .rename_i b2 eI;rw[eI] at ht;have aL:=ht.litInv;simp at hb;cases fg:a.tmps[t]? with
     | none=>simp[fg,undef] at aL
     | some v2=>
      simp[fg] at aL;subst aL;simp only;rw[<-hb];simp
    .rename_i eI;rw[eI] at ht;simp at hb;cases fg:a.tmps[t]? with
     | none=>simp[<-hb]
     | some v2=>
      simp[fg] at ht;cases ht;simp[<-hb]
    cases hb
 unfold wpOp
 simp only[ho]
 rcases hr.step i o ho with⟨hw,v,H',hwp,gM,hS⟩ | ⟨hw,hS⟩
 .rw[pE true hw]
  refine .inl ?_
  have Uw:(S (i+1)).heap=H':=by rw[hS];rfl
  by_cases h0:eR o.op=0
  .obtain⟨hH,u,dC,hu⟩:=E1 (P:=P) (T:=T) hT h0 rfl (o:=o) (e:=a.eval) hwp tX
   unfold Oper.wp
   rw[dC]
   refine⟨X,ρ,vk hr hf bK ho sx hp hS Stp.refl (qp _) hu (fun _ _=>rfl) (fun i2 iR po=>bK.heap i2 iR (fun k ok bF ck=>?_))⟩
   have DX:k≠i:=by
    intro he;subst he;rw[ho] at bF;cases bF;rw[de ck] at h0;cases h0
   rw[<-getD_set_ne true (Ne.symm DX)]
   exact po k ok bF ck
  by_cases Qd:o4 o.op=true
  .obtain⟨c0,Kz,T6⟩:=OM hf bK.sz bK.closed sx hp ho (by omega)
   have hh:=bK.heap c0 (by omega) T6
   obtain⟨b,Nd,hHb,Xg⟩:=ON Qd hwp
   have Bq:=OO hr (i - c0) c0 (by omega)
   rw[show c0+(i - c0)=i by omega,tK dJ,Uw,hHb,List.drop_left] at Bq
   obtain⟨F,hF⟩:=Lc ((full ops.size S c0).take (S i).heap.length)
   have hFl:F.length=(S i).heap.length:=by
    rw[<-hF,qf];have h1:(full ops.size S c0).length=(S c0).heap.length+(ka ops.size S (ops.size - c0)).length:=by unfold full;rw[qe]
    have h2:=congrArg List.length Bq;rw[length_drop] at h2;rw[qe,D0] at h2;omega
   have kE:full ops.size S c0=F++([b]++ka ops.size S (ops.size - (i+1))):=by
    rw[<-Bq,<-hF,List.take_append_drop]
   rw[kE] at hh
   refine HR hT (s:=⟨(S i).env,F⟩) (Xg F hFl) hh (fun id h1 h2=>bK.places i dJ sx id (by dsimp only at h1;omega) (by rw[Uw,hHb,qe,D0];simp at h2;omega)) (by simp) tX (fun u w' X' ρ' hs sw yX hu cG=>?_)
   refine⟨X',ρ',vk hr hf bK ho sx hp hS hs sw hu (fun id eD=>cG id (by
    rw[Uw,hHb,qe,D0] at eD;dsimp only;rw[D0];omega)) (fun i2 iR po=>?_)⟩
   have IU:J3 ops listed i2:=by
    intro k ok bF jH;have DX:k≠i:=by
     intro he;subst he;rw[ho] at bF;cases bF;rw[kb jH] at Qd;cases Qd
    rw[<-getD_set_ne true (Ne.symm DX)];exact po k ok bF jH
   have fA:full ops.size S i2=full ops.size S c0:=by
    rcases Nat.le_total c0 i2 with dP | dP
    .have:=iJ hr (i2 - c0) c0 (by omega) (fun k ok hk jF bF=>by
      cases jH:cB ok.op with
      | false=>rfl
      | true=>
       have h1:=(IU k ok bF jH).2 (by omega);have h2:=(T6 k ok bF jH).1 h1;omega)
     rw[show c0+(i2 - c0)=i2 by omega] at this;exact this
    have:=iJ hr (c0 - i2) i2 (by omega) (fun k ok hk jF bF=>by
     cases jH:cB ok.op with
     | false=>rfl
     | true=>
      have h1:=(T6 k ok bF jH).2 (by omega);have h2:=(IU k ok bF jH).1 h1;omega)
    rw[show i2+(c0 - i2)=c0 by omega] at this;exact this.symm
   rw[fA,kE,<-append_assoc]
   exact yX
  have Qd:o4 o.op=false:=by simpa using Qd
  have ah7:1<=eR o.op:=by omega
  have Zt:J3 ops listed i:=by
   intro k ok bF ck;have jF:=de ck;rcases Nat.lt_trichotomy k i with aL | heq | Cm
   .have h1:=tL hf bK.closed hp ho aL bF (qP jF ah7 Qd);rw[<-o_ (by rw[bK.sz];omega)] at h1;simp[h1,aL]
   .subst heq;simp[sx]
   have h1:=gL hf bK.sz bK.closed sx ho Cm bF (A0 ah7 jF);simp[h1];omega
  have hh:=bK.heap i (by omega) Zt
  obtain⟨Fo,TX⟩:=sj hr ho
  rw[TX] at hh
  have aF:=HT hwp
  rw[Uw] at hh TX
  refine HR hT hwp hh (fun id h1 h2=>bK.places i dJ sx id h1 (by rw[Uw];simp at h2;omega)) (by simp;omega) tX (fun u w' X' ρ' hs sw yX hu cG=>?_)
  have fk:full ops.size S (i+1)=H'++ka ops.size S (ops.size - (i+1)):=by unfold full;rw[Uw]
  refine⟨X',ρ',vk hr hf bK ho sx hp hS hs sw hu (fun id eD=>cG id (by rw[Uw] at eD;simp;omega)) (fun i2 iR po=>?_)⟩
  have BF:(listed.setIfInBounds i true).getD i true=true:=by simp[XA]
  have hfi:HRd c w' X' ρ' (full ops.size S (i+1)):=by rw[fk];exact yX
  by_cases ck:cB o.op=true
  .have Nb:i<i2:=(po i o ho ck).1 BF
   have:=iJ hr (i2 - (i+1)) (i+1) (by omega) (fun k ok hk jF bF=>by
    cases jH:cB ok.op with
    | false=>rfl
    | true=>
     have h1:=(po k ok bF jH).2 (by omega);rw[getD_set_ne true (by omega)] at h1;have h2:=gL hf bK.sz bK.closed sx ho (show i<k by omega) bF (qP (de ck) (by rw[de jH];omega) (kb jH));rw[h1] at h2;cases h2)
   rw[show i+1+(i2 - (i+1))=i2 by omega] at this
   rw[this]
   exact hfi
  have am0:cB o.op=false:=by simpa using ck
  have IU:J3 ops listed i2:=by
   intro k ok bF jH;have DX:k≠i:=by
    intro he;subst he;rw[ho] at bF;cases bF;exact ck jH
   rw[<-getD_set_ne true (Ne.symm DX)];exact po k ok bF jH
  have fA:full ops.size S i2=full ops.size S i:=by
   rcases Nat.le_total i i2 with dP | dP
   .have:=iJ hr (i2 - i) i (by omega) (fun k ok hk jF bF=>by
     cases jH:cB ok.op with
     | false=>rfl
     | true=>
      have h1:=(IU k ok bF jH).2 (by omega);have h2:=(Zt k ok bF jH).1 h1;omega)
    rw[show i+(i2 - i)=i2 by omega] at this;exact this
   have:=iJ hr (i - i2) i2 (by omega) (fun k ok hk jF bF=>by
    cases jH:cB ok.op with
    | false=>rfl
    | true=>
     have h1:=(Zt k ok bF jH).2 (by omega);have h2:=(IU k ok bF jH).1 h1;omega)
   rw[show i2+(i - i2)=i by omega] at this;exact this.symm
  rw[fA,Fo am0]
  exact hfi
 rw[pE false hw]
 refine⟨X,ρ,vk hr hf bK ho sx hp hS Stp.refl (qp _) (.tup #[] [] rfl (by simp)) (fun _ _=>rfl) (fun i2 iR po=>?_)⟩
 have Uw:(S (i+1)).heap=(S i).heap:=by rw[hS];rfl
 have BF:(listed.setIfInBounds i true).getD i true=true:=by simp[XA]
 by_cases ck:cB o.op=true
 .have Zt:J3 ops listed i:=by
   intro k ok bF jH;have jF:=de jH;have fE:=de ck;rcases Nat.lt_trichotomy k i with aL | heq | Cm
   .have h1:=tL hf bK.closed hp ho aL bF (qP jF (by omega) (kb ck));rw[<-o_ (by rw[bK.sz];omega)] at h1;simp[h1,aL]
   .subst heq;simp[sx]
   have h1:=gL hf bK.sz bK.closed sx ho Cm bF (A0 (by omega) jF);simp[h1];omega
  have Nb:i<i2:=(po i o ho ck).1 BF
  have fA:=iJ hr (i2 - (i+1)) (i+1) (by omega) (fun k ok hk jF bF=>by
   cases jH:cB ok.op with
   | false=>rfl
   | true=>
    have h1:=(po k ok bF jH).2 (by omega);rw[getD_set_ne true (by omega)] at h1;have h2:=gL hf bK.sz bK.closed sx ho (show i<k by omega) bF (qP (de ck) (by rw[de jH];omega) (kb jH));rw[h1] at h2;cases h2)
  rw[show i+1+(i2 - (i+1))=i2 by omega] at fA
  have TX:=(sj hr ho).2
  rw[Uw,List.drop_length,nil_append] at TX
  have hf1:full ops.size S (i+1)=full ops.size S i:=by
   rw[TX];unfold full;rw[Uw]
  rw[fA,hf1]
  exact bK.heap i (by omega) Zt
 refine bK.heap i2 iR (fun k ok bF jH=>?_)
 have DX:k≠i:=by
  intro he;subst he;rw[ho] at bF;cases bF;exact ck jH
 rw[<-getD_set_ne true (Ne.symm DX)]
 exact po k ok bF jH
theorem J4 (hf:iI ops) (dQ:listed.size=ops.size) (hrd:Region.ready .any ops listed=[]): ∀ k,k<ops.size->listed.getD k true=true:=by
 intro k
 induction k using Nat.strongRecOn with
 | _ k ih=>
  intro hk;cases hl:listed.getD k true with
  | true=>rfl
  | false=>
   have aY:k∈Region.ready .any ops listed:=by
    refine mem_ready.2 ⟨hl,ops[k],by simp[hk],fun e he hb=>?_⟩;rw[wP] at hb;have aL:=hf.low k ops[k] (by simp[hk]) e he hb;rw[<-o_ (by omega)];exact ih e.on aL (by omega)
   rw[hrd] at aY;cases aY
theorem VU (hT:cQ P T) {Q:Exit->Act->World->Prop} (hr:Su P T ops S) (hf:iI ops) (hQ: ∀ a w,SRd c (S ops.size) a w->Q .normal a w):
 ∀ (fuel:Nat) (listed:Array Bool) (a:Act) (w:World),(∃ X ρ,Inv ops S c listed a w X ρ)->listed.toList.count false<=fuel->wpAny P .any ops Q fuel listed a w:=by
 have fin: ∀ (listed:Array Bool) (a:Act) (w:World),(∃ X ρ,Inv ops S c listed a w X ρ)->(∀ k,k<ops.size->listed.getD k true=true)->Q .normal a w:=by
  intro listed a w ⟨X,ρ,bK⟩ Qd;refine hQ a w ⟨X,ρ,?_,⟨by rw[bK.tl,yN hr _ (qp _)],fun t u x hu hx=>?_⟩,bK.defers,bK.keeps⟩
  .have:=bK.heap ops.size (qp _) (fun k o bF _=>by
    have aL:k<ops.size:=(Array.getElem?_eq_some_iff.1 bF).1;simp[Qd k aL,aL])
   unfold full at this;rw[Nat.sub_self,ka,append_nil] at this;exact this
  have:=bK.env t ops.size u (qp _) (fun k o bF _=>by
   have aL:k<ops.size:=(Array.getElem?_eq_some_iff.1 bF).1;simp[Qd k aL,aL]) hu
  rw[qa,hx] at this;exact this
 intro fuel
 induction fuel with
 | zero=>
  intro listed a w bK hc;obtain⟨X,ρ,hi⟩:=bK;have Qd: ∀ k,k<ops.size->listed.getD k true=true:=by
   intro k hk;have pL:k<listed.size:=by rw[hi.sz];exact hk
   have h0:listed.toList.count false=0:=by omega
   rw[List.count_eq_zero] at h0;cases hl:listed.getD k true with
   | true=>rfl
   | false=>
    exfalso;apply h0;have:listed[k]=false:=by simpa [pL] using hl
    rw[<-this];exact Array.mem_toList_iff.2 (Array.getElem_mem pL)
  refine⟨?_,fin listed a w ⟨X,ρ,hi⟩ Qd⟩;cases hrd:Region.ready .any ops listed with
  | nil=>rfl
  | cons j l=>
   have hj:j∈Region.ready .any ops listed:=by rw[hrd];simp
   obtain⟨sx,oj,PE,_⟩:=mem_ready.1 hj;rw[Qd j (Array.getElem?_eq_some_iff.1 PE).1] at sx;cases sx
 | succ fuel ih=>
  intro listed a w bK hc;obtain⟨X,ρ,hi⟩:=bK;refine⟨fun hrd=>fin listed a w ⟨X,ρ,hi⟩ (J4 hf hi.sz hrd),fun i hir=>?_⟩;refine wpOp_mono (fun a' w' ah8=>ih _ a' w' ah8 ?_) (Sx hT hr hf hi hir);obtain⟨sx,o,ho,_⟩:=mem_ready.1 hir;have dJ:i<listed.size:=by rw[hi.sz];exact(Array.getElem?_eq_some_iff.1 ho).1
  have hlf:listed.toList[i]'(by simpa using dJ)=false:=by
   have:listed[i]=false:=by simpa [dJ] using sx
   simpa using this
  rw[Array.toList_setIfInBounds,List.count_set (by simpa using dJ)];have dW:0<listed.toList.count false:=by
   rw[List.count_pos_iff];rw[<-hlf];exact lY _
  rw[hlf];show(List.count false listed.toList - 1)+0<=fuel;omega
theorem J5 (hT:cQ P T) {Q:Exit->Act->World->Prop} (bF:tF ops=true) {st:St} {K:St->Prop} (h:WPdraw P T ops ops.toList st K) (hK: ∀ st a w,K st->SRd c st a w->Q .normal a w) (hs:SRd c st a w):
 wpAny P .any ops Q ops.size (Array.replicate ops.size false) a w:=by
 have hf:=OI bF
 obtain⟨S,h0,h1,h2⟩:=afQ ops.toList st h
 rw[Array.length_toList] at h2
 have hr:Su P T ops S:=⟨fun j o hj=>h1 j o (by simpa using hj)⟩
 obtain⟨X,ρ,hh,he,hd,hk⟩:=hs
 refine VU hT hr hf (c:=c) (fun a w hs=>hK _ a w h2 hs) ops.size _ a w ⟨X,ρ++replicate (ka ops.size S ops.size).length none,?_⟩ (by simp)
 have sx: ∀ k,k<ops.size->(Array.replicate ops.size false).getD k true=false:=by intro k hk;simp[hk]
 have dP:=Places.Le.append ρ (replicate (ka ops.size S ops.size).length none)
 refine⟨by simp,?_,hd,hk,by rw[h0];exact he.1,?_,?_,?_⟩
 .intro j oj hj hl
  have aL:j<ops.size:=(Array.getElem?_eq_some_iff.1 hj).1
  simp[aL] at hl
 .intro t i u hi po hu
  have fA:=AZ hr (t:=t) i 0 (by omega) (fun k o _ hk bF PA=>by
   have aL:k<ops.size:=(Array.getElem?_eq_some_iff.1 bF).1;have:=(po k o bF PA).2 (by omega);rw[sx k aL] at this;cases this)
  rw[Nat.zero_add] at fA
  rw[fA,h0]
  have aL:t<st.env.length:=by rw[<-he.1];exact(Array.getElem?_eq_some_iff.1 hu).1
  have:=he.2 t u st.env[t] hu (by simp[aL])
  rw[qa]
  simp only[qb aL,Option.getD_some]
  exact this.mono (Same.refl X _) (fun _ _ h=>h) dP
 .intro i hi po
  have fA:=iJ hr i 0 (by omega) (fun k o _ hk bF=>by
   have aL:k<ops.size:=(Array.getElem?_eq_some_iff.1 bF).1;cases jH:cB o.op with
   | false=>rfl
   | true=>
    have:=(po k o bF jH).2 (by omega);rw[sx k aL] at this;cases this)
  rw[Nat.zero_add] at fA
  rw[fA]
  unfold full
  rw[h0,Nat.sub_zero]
  exact hh.extend _
 intro i hi _ id h3 h4
 have hm:=iK hr i 0 (by omega)
 rw[Nat.zero_add,h0] at hm
 rw[getElem?_append_right (by rw[hh.len];omega),List.getElem?_replicate]
 rw[if_pos]
 have nt:(full ops.size S ops.size).length<=(full ops.size S 0).length:=by
  have aF: ∀ d i,i+d<=ops.size->(full ops.size S (i+d)).length=(full ops.size S i).length:=by
   intro d
   induction d with
   | zero=>intro i _;rfl
   | succ d ih=>
    intro i eD;have aL:i+d<ops.size:=by omega
    have ho:ops[i+d]?=some ops[i+d]:=by simp[aL]
    have ck:=(hr.step (i+d) _ ho).heap;obtain⟨hf1,Ur⟩:=sj hr ho;rw[show i+(d+1)=(i+d)+1 by omega,<-ih i (by omega)];cases jH:cB ops[i+d].op with
    | false=>rw[hf1 jH]
    | true=>
     rw[Ur];unfold full;have:=ck.1;simp;omega
  have:=aF ops.size 0 (by omega);rw[Nat.zero_add] at this;omega
 have Pn:=iK hr (ops.size - (i+1)) (i+1) (by omega)
 rw[show i+1+(ops.size - (i+1))=ops.size by omega] at Pn
 unfold full at nt
 rw[Nat.sub_self,ka,append_nil,qe,Nat.sub_zero,h0] at nt
 rw[hh.len]
 omega
end
end Go.AM
