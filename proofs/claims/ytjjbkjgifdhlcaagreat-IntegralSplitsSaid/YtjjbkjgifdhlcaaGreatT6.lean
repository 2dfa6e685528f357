/- The abstract machine:maps. -/
import Derived.Test.YtjjbkjgifdhlcaaGreatT5
import Derived.MapKept
import Derived.Test.YtjjbkjgifdhlcaaGreatT1
open List (append_assoc append_nil getElem?_append_right getElem?_eq_none getElem?_of_mem getElem?_set_ne getElem?_take length_cons length_drop length_set length_take map_cons mem_iff_getElem mem_map mem_of_getElem? nil_append range' replicate set_append_left)
namespace Go.AM
section
variable {P:Program} {T:Tab}
theorem Ud {c:PV} {n:Int} (h:SN c=some n):c= .fv (.lit (.int .i64 n)):=by
 unfold SN at h;split at h
 .cases h;rfl
 cases h
theorem B9: ∀ (cs:List PV) (ks:List Int),q5 cs=some ks->cs=ks.map (fun n=> .fv (.lit (.int .i64 n)))
 | [],ks,h=>by simp[q5] at h;subst h;rfl
 | c::cs,ks,h=>by
  simp only[q5] at h;split at h
  .rename_i n ns h1 h2;cases h;rw[map_cons,<-B9 cs ns h2,Ud h1]
  cases h
theorem Ld {w:World} {X:Nat->Prop} {ρ:Places} {u:Value} {x:PV} {ks:List Int} (h:PRd w X ρ u x) (hk:oU x=some ks):u= .agg (ks.map (Value.int .i64)).toArray:=by
 unfold oU at hk;split at hk;rotate_left
 .cases hk
 have:=B9 _ _ hk;subst this;cases h with
 | agg us _ hn h1 hr=>
  congr 1;apply Array.ext
  .simpa using hn
  intro i oI iq;have:=hr i us[i] (.fv (.lit (.int .i64 (ks[i]'(by simpa using iq))))) (by simp[oI]) (by simp at iq;simp[iq]);have h2:=this.litInv;rw[h2];simp
theorem Gp {a b:List Int} (h:(Value.agg (a.map (Value.int .i64)).toArray)= .agg (b.map (Value.int .i64)).toArray):a=b:=by
 injection h with h
 have h2:a.map (Value.int .i64)=b.map (Value.int .i64):=by
  have:=congrArg Array.toList h;simpa using this
 exact(List.map_inj_right (fun x y e=>by injection e)).1 h2
theorem Dq {es:List (List Int×PV)} {k:List Int} (h: ∀ e∈es,e.1≠k):dJ es k=none:=by
 unfold dJ;rw[Option.map_eq_none_iff,List.find?_eq_none];intro e he hk;exact h e he (by simpa using hk)
theorem tJ: ∀ {es:List (List Int×PV)} {k:List Int} {v:PV} {i:Nat},(es.map (·.1)).Nodup->es[i]?=some (k,v)->dJ es k=some v
 | [],k,v,i,_,h=>by simp at h
 | e::es,k,v,i,hn,h=>by
  unfold dJ;rw[map_cons,List.nodup_cons] at hn;cases i with
  | zero=>
   simp at h;subst h;simp
  | succ i=>
   simp at h;have bm:k∈es.map (·.1):=mem_map.2 ⟨(k,v),mem_of_getElem? h,rfl⟩;have cX:(e.1==k)=false:=by
    rw[qx];intro he;exact hn.1 (he ▸ bm)
   rw[List.find?_cons,cX];exact tJ hn.2 h
theorem Gq {w:World} {X:Nat->Prop} {ρ ρ':Places} {u:Value} {x:PV} (h:PRd w X ρ u x) (hs:still x=true):PRd w X ρ' u x:=by
 unfold still at hs;split at hs
 .cases h with | fv _ _ hf=>exact .fv _ _ hf
 .rename_i cs;rw[pR] at hs;cases h with
  | agg us _ hn h1 hr=>
   refine .agg us cs hn h1 (fun i v c hv hc=>?_);have oH:=hs c (mem_of_getElem? hc);have hp:=hr i v c hv hc;split at oH
   .cases hp with | fv _ _ hf=>exact .fv _ _ hf
   cases oH
 cases hs
theorem Lf {w:World} {X:Nat->Prop} {ρ:Places} {u:Value} {id:Nat} (h:PRd w X ρ u (.tab id)): ∃ g p,u= .map (some g)/\ρ[id]?=some (some p)/\p.b=some g:=by
 cases h with | tab _ g p hp hg=>exact⟨g,p,rfl,hp,hg⟩
theorem Gr (_hT:cx P T) (t:TypeId):EffOp P T (.makeMap t none):=by
 intro c w X ρ H D R o e ρv r ho h hD hρ ak hc aD;simp only[cj] at ak;split at ak;rotate_left
 .cases ak
 rename_i i hi;split at ak;rotate_left
 .cases ak
 rename_i n _ hd;cases ak;obtain⟨d,rfl⟩:=nS (D:=D) (by simp at aD;omega);have XE:=hD H.length (qp _) (by simp);let p:Place:=⟨some w.heap.size,0,0,0⟩;have aH:H.length<ρ.length:=(List.getElem?_eq_some_iff.1 XE).1;have hg:=World.grownBy_alloc w (.map #[] 0) none;have hF:(H++([d]++R)).set H.length (.tab n [])=(H++[.tab n []])++R:=by simp
 have bX:=h.put (id:=H.length) (p:=p) (ob:= .tab n []) (row:=none) (w':=w.alloc (.map #[] 0)) (by simp) (.inl XE) hg (by simp)
  (fun j q o g hj hq ho hr hb=>⟨by simp,by
   have:=(h.own j q o g hq ho hr hb).2;intro he;simp only[p,qo] at he;omega⟩)
  (fun g hg=>by simp only[p,qo] at hg;left;omega)
  (fun g hg=>by simp only[p,qo] at hg;subst hg;exact⟨.inl h.ge,by simp⟩)
  (by simp)
  ⟨⟨by simp,w.heap.size,0,#[],rfl,heap_alloc_new w _,rfl,by simp,fun i e k v he hv=>by simp at he⟩,fun g hg=> .inr hg⟩
 rw[hF] at bX;refine⟨_,_,_,_,.inl ?_,bX.2,bX.1,.tab H.length w.heap.size p (by simp[aH]) rfl,fun id dk=>by
  rw[getElem?_set_ne (by simp at dk;omega)]⟩
 simp[execOp,ho,Instr.makeMap]
theorem Dr (hT:cx P T) (t:TypeId) (m k:Operand) (ok:Bool):ee P T (.lookup t m k ok):=by
 intro c w X ρ H F o e ρv r lo hi ho h hH hρ ak hc;have hm:=hρ m (by simp[Op.operands]);have hk:=hρ k (by simp[Op.operands]);simp only[cj] at ak;split at ak;rotate_left
 .cases ak
 rename_i i id ks hi hmv hkv;split at ak;rotate_left
 .cases ak
 rename_i n zv n2 es hd fU;split at ak;rotate_left
 .cases ak
 rename_i rv;obtain⟨aD,rfl⟩:=rv;simp only[Res.if,qo] at ak;subst ak;rw[hmv] at hm;obtain⟨g,p,Ly,hp,AJ⟩:=Lf hm;have Sb:=Ld hk hkv;obtain⟨⟨NZ,g2,clock,vs,eu,hh,dX,mb,hcell⟩,_⟩:=h.ob id p _ hp (hH id _ fU);rw[AJ] at eu;cases eu;have Oe:=(hT _ _ hi).desc;rw[hd] at Oe;obtain⟨kt,el,ti,z,hu,eT,hz,bM,hzr,N6,Sc⟩:=Oe;obtain⟨lk,LG⟩:=Sc ks aD hc;have zW:=fun em=>N6.check w em LG
 have cg:(getObj g).run P w= .ok (.map vs clock) w:=by simp[getObj,Sem.run,hh]
 have Sd: ∀ (j:Nat) ent,vs[j]?=some ent-> ∃ k' v',es[j]?=some (k',v')/\ent.key= .agg (k'.map (Value.int .i64)).toArray/\still v'=true/\PRd w X [] ent.val v':=by
  intro j ent hj;have aH:j<es.length:=by rw[<-dX];exact(Array.getElem?_eq_some_iff.1 hj).1
  obtain⟨a1,a2,a3⟩:=hcell j ent es[j].1 es[j].2 hj (by simp[aH]);exact⟨_,_,by simp[aH],a1,a2,a3⟩
 have sr: ∀ e∈vs.toList,∃ l,keyOf P kt e.key=some l:=by
  intro ent he;obtain⟨j,hj,On⟩:=mem_iff_getElem.1 he;obtain⟨k',v',h1,h2,_⟩:=Sd j ent (by rw[<-On];simp at hj;simp[hj]);obtain⟨b1,b2⟩:=NZ _ (mem_of_getElem? h1);rw[h2];exact Sc k' b1 b2
 have hzv:(zeroValue el).run P w= .ok z w:=by simp[zeroValue,typeInfo,eT,hz]
 rcases N6.find w LG vs.toList sr with⟨hf,ue⟩ | ⟨j,ent,hf,hj,RJ⟩
 .have afN:dJ es ks=none:=by
   refine Dq (fun e he N4=>?_);obtain⟨j,hj,On⟩:=mem_iff_getElem.1 he;have hjv:j<vs.size:=by rw[dX];exact hj
   obtain⟨a1,_,_⟩:=hcell j vs[j] e.1 e.2 (by simp[hjv]) (by rw[qb hj,On]);exact ue vs[j] (Array.mem_toList_iff.2 (Array.getElem_mem hjv)) (by rw[a1,N4])
  refine⟨rfl,OpOK.still (u:=if ok then .tuple #[z,.bool false] else z) h ?_ ?_⟩
  .simp only[execOp,ho,Ly,Sb];cases ok<;>simp[Instr.lookup,run_underlying hu,cg,zW,hf,hzv]
  rw[afN];cases ok with
  | false=>exact hzr w X ρ
  | true=>exact .tup _ _ rfl (fun i u c hu hc=>by
   match i with
   | 0=>simp at hu hc;subst hu;subst hc;exact hzr w X ρ
   | 1=>simp at hu hc;subst hu;subst hc;exact .fv _ _ (.lit _ rfl)
   | i+2=>simp at hu)
 obtain⟨k',v',h1,h2,h3,h4⟩:=Sd j ent (by simpa using hj);have Lx:k'=ks:=Gp (h2.symm.trans RJ);rw[Lx] at h1;have afP:=tJ mb h1;have hv:PRd w X ρ ent.val v':=Gq h4 h3;refine⟨rfl,OpOK.still (u:=if ok then .tuple #[ent.val,.bool true] else ent.val) h ?_ ?_⟩
 .simp only[execOp,ho,Ly,Sb];cases ok<;>simp[Instr.lookup,run_underlying hu,cg,zW,hf]
 rw[afP];cases ok with
 | false=>exact hv
 | true=>exact .tup _ _ rfl (fun i u c hu hc=>by
  match i with
  | 0=>simp at hu hc;subst hu;subst hc;exact hv
  | 1=>simp at hu hc;subst hu;subst hc;exact .fv _ _ (.lit _ rfl)
  | i+2=>simp at hu)
theorem vO: ∀ {es:List (List Int×PV)} {k:List Int} {v:PV},(∀ e∈es,e.1≠k)->jy es k v=es++[(k,v)]
 | [],k,v,_=>rfl
 | e::es,k,v,h=>by
  have cX:(e.1==k)=false:=by rw[qx];exact h e (by simp)
  simp only[jy,cX];rw[vO (fun e he=>h e (ql _ he))];rfl
theorem vP: ∀ {es:List (List Int×PV)} {k:List Int} {v u:PV} {i:Nat},(es.map (·.1)).Nodup->es[i]?=some (k,u)->jy es k v=es.set i (k,v)
 | [],k,v,u,i,_,h=>by simp at h
 | e::es,k,v,u,i,hn,h=>by
  rw[map_cons,List.nodup_cons] at hn;cases i with
  | zero=>
   simp at h;subst h;simp[jy]
  | succ i=>
   simp at h;have bm:k∈es.map (·.1):=mem_map.2 ⟨(k,u),mem_of_getElem? h,rfl⟩;have cX:(e.1==k)=false:=by
    rw[qx];intro he;exact hn.1 (he ▸ bm)
   simp only[jy,cX];rw[vP hn.2 h];rfl
theorem HRd.reTab {c:gD} {w:World} {X:Nat->Prop} {ρ:Places} {F:List Ob} (h:HRd c w X ρ F) {id g n:Nat} {p:Place} {es es':List (List Int×PV)} {vs vs':Array MapEntry} {clock clock':Nat}
 (hp:ρ[id]?=some (some p)) (fU:F[id]?=some (.tab n es)) (AJ:p.b=some g) (hh:w.heap[g]?=some (.map vs clock))
 (NZ: ∀ e∈es',e.1.length=n/\ ∀ x∈e.1,-9223372036854775808<=x/\x<9223372036854775808) (dX:vs'.size=es'.length) (mb:(es'.map (·.1)).Nodup)
 (hcell: ∀ (i:Nat) e k v,vs'[i]?=some e->es'[i]?=some (k,v)->e.key= .agg (k.map (Value.int .i64)).toArray/\still v=true/\PRd w X [] e.val v):
 ∃ X',Stp c w {w with heap:=w.heap.setIfInBounds g (.map vs' clock')} X X' ρ ρ/\HRd c {w with heap:=w.heap.setIfInBounds g (.map vs' clock')} X' ρ (F.set id (.tab n es')):=by
 have aH:g<w.heap.size:=(Array.getElem?_eq_some_iff.1 hh).1
 have vt:X g:=(h.ob id p _ hp fU).2 g AJ
 have oJ:w.grownBy {w with heap:=w.heap.setIfInBounds g (.map vs' clock')} (some g):=
  ⟨rfl,rfl,rfl,by simp,fun k _ hk=>by simp[Array.getElem?_setIfInBounds_ne (show g≠k from fun e=>hk (by rw[e]))]⟩
 have gR: ∀ b,(X b\/p.b=some b)->X b:=fun b hb=>by
  rcases hb with hb | hb
  .exact hb
  rw[AJ] at hb;cases hb;exact vt
 have bX:=h.put (id:=id) (p:=p) (ob:= .tab n es') (row:=some g) (w':={w with heap:=w.heap.setIfInBounds g (.map vs' clock')}) (List.getElem?_eq_some_iff.1 fU).1 (.inr hp) oJ
  (by intro g' jE;cases jE;exact vt)
  (fun j2 q o2 g2 DW hq gw gX eC=>by
   have cX:g2≠g:=by
    intro he;subst he;exact DW (h.inj j2 id q p o2 _ g2 hq hp gw fU gX rfl eC AJ)
   exact⟨by simp[cX],by rw[AJ];simp;exact fun he=>cX he.symm⟩)
  (fun g2 eu=>by rw[AJ] at eu;cases eu;exact .inr vt)
  (fun g2 eu=>by rw[AJ] at eu;cases eu;exact⟨(h.own id p _ g hp fU rfl AJ).1,Nat.lt_of_lt_of_le (h.own id p _ g hp fU rfl AJ).2 oJ.size⟩)
  (fun g2 eu=>by cases eu;exact(h.own id p _ g hp fU rfl AJ).1)
  ⟨⟨NZ,g,clock',vs',AJ,by simp[aH],dX,mb,fun i e k v he hv=>by
   obtain⟨a1,a2,a3⟩:=hcell i e k v he hv;exact⟨a1,a2,a3.mono ⟨oJ.size,fun b hb lA=>oJ.block b hb (fun he=>lA (by cases he;exact vt))⟩ (fun b _ hb=>gR b hb) (Places.Le.refl [])⟩⟩,fun g2 eu=> .inr eu⟩
 rw[pz hp] at bX
 exact⟨_,bX.2,bX.1⟩
theorem An (hT:cx P T) (t:TypeId) (m k x:Operand):EffOp P T (.mapUpdate t m k x):=by
 intro c w X ρ H D R o e ρv r ho h hD hρ ak hc aD;have hm:=hρ m (by simp[Op.operands]);have hk:=hρ k (by simp[Op.operands]);have hx:=hρ x (by simp[Op.operands]);simp only[cj] at ak;split at ak;rotate_left
 .cases ak
 rename_i i id ks hi hmv hkv;split at ak;rotate_left
 .cases ak
 rename_i n zv n2 es hd fU;split at ak;rotate_left
 .cases ak
 rename_i rv;obtain⟨oE,rfl,hsx⟩:=rv;cases ak;simp only at hc aD;have g8:D=[]:=List.eq_nil_of_length_eq_zero (by simp at aD;simpa using aD);subst g8;rw[hmv] at hm;obtain⟨g,p,Ly,hp,AJ⟩:=Lf hm;have Sb:=Ld hk hkv;have aam:(H++([]++R))[id]?=some (.tab n2 es):=bx id _ fU;obtain⟨⟨NZ,g2,clock,vs,eu,hh,dX,mb,hcell⟩,_⟩:=h.ob id p _ hp aam;rw[AJ] at eu;cases eu;have Oe:=(hT _ _ hi).desc;rw[hd] at Oe;obtain⟨kt,el,ti,z,hu,eT,hz,bM,hzr,N6,Sc⟩:=Oe;obtain⟨lk,LG⟩:=Sc ks oE hc;have zW:=fun em=>N6.check w em LG
 have afQ:=N6.stays w LG;have cg:(getObj g).run P w= .ok (.map vs clock) w:=by simp[getObj,Sem.run,hh]
 have bc: ∀ ob:Obj,(setObj g ob).run P w= .ok () {w with heap:=w.heap.setIfInBounds g ob}:=fun ob=>by simp[setObj,Sem.run,hh]
 have hxr:PRd w X [] (e x) (ρv x):=Gq hx hsx;have Sd: ∀ (j:Nat) ent,vs[j]?=some ent-> ∃ k' v',es[j]?=some (k',v')/\ent.key= .agg (k'.map (Value.int .i64)).toArray/\still v'=true/\PRd w X [] ent.val v':=by
  intro j ent hj;have aH:j<es.length:=by rw[<-dX];exact(Array.getElem?_eq_some_iff.1 hj).1
  obtain⟨a1,a2,a3⟩:=hcell j ent es[j].1 es[j].2 hj (by simp[aH]);exact⟨_,_,by simp[aH],a1,a2,a3⟩
 have sr: ∀ e∈vs.toList,∃ l,keyOf P kt e.key=some l:=by
  intro ent he;obtain⟨j,hj,On⟩:=mem_iff_getElem.1 he;obtain⟨k',v',h1,h2,_⟩:=Sd j ent (by rw[<-On];simp at hj;simp[hj]);obtain⟨b1,b2⟩:=NZ _ (mem_of_getElem? h1);rw[h2];exact Sc k' b1 b2
 have Sa: ∀ ob:Ob,(H++([]++R)).set id ob=H.set id ob++R:=fun ob=>by
  rw[nil_append,set_append_left _ _ (List.getElem?_eq_some_iff.1 fU).1]
 rcases N6.find w LG vs.toList sr with⟨hf,ue⟩ | ⟨j,ent,hf,hj,RJ⟩
 .have hnk: ∀ e∈es,e.1≠ks:=fun e he N4=>by
   obtain⟨j,hj,On⟩:=mem_iff_getElem.1 he;have hjv:j<vs.size:=by rw[dX];exact hj
   obtain⟨a1,_,_⟩:=hcell j vs[j] e.1 e.2 (by simp[hjv]) (by rw[qb hj,On]);exact ue vs[j] (Array.mem_toList_iff.2 (Array.getElem_mem hjv)) (by rw[a1,N4])
  rw[vO hnk];obtain⟨X',hs,v7⟩:=h.reTab (es':=es++[(ks,ρv x)]) (vs':=vs.push {key:= .agg (ks.map (Value.int .i64)).toArray,val:=e x,born:=clock}) (clock':=clock+1) hp aam AJ hh
   (fun e he=>by
    rcases List.mem_append.1 he with he | he
    .exact NZ e he
    rw[qz] at he;subst he;exact⟨oE,hc⟩)
   (by simp[dX])
   (by
    rw[vw,List.nodup_append];refine⟨mb,by simp,fun a ha b hb=>?_⟩;simp at hb;subst hb;obtain⟨e,he,rfl⟩:=mem_map.1 ha;exact hnk e he)
   (fun i e2 k2 v2 Hq mY=>by
    by_cases iq:i<vs.size
    .rw[Array.getElem?_push_lt iq] at Hq;rw[qi (by omega)] at mY;exact hcell i e2 k2 v2 (by rw[<-Hq];simp[iq]) mY
    have dW:i=vs.size:=by
     have:=(List.getElem?_eq_some_iff.1 mY).1;simp at this;omega
    subst dW;rw[getElem?_append_right (by omega),dX] at mY;simp at Hq mY;obtain⟨rfl,rfl⟩:=mY;subst Hq;exact⟨rfl,hsx,hxr⟩)
  rw[Sa] at v7;refine⟨undef,_,X',ρ,.inr ⟨?_,rfl⟩,hs,v7,.tup #[] [] rfl (by simp),fun _ _=>rfl⟩;simp only[execOp,ho,Ly,Sb];simp[Instr.mapUpdate,run_underlying hu,cg,zW,hf,bc]
 obtain⟨k',v',h1,h2,h3,h4⟩:=Sd j ent (by simpa using hj);have Lx:k'=ks:=Gp (h2.symm.trans RJ);rw[Lx] at h1;rw[vP mb h1];have hjs:j<vs.size:=by rw[dX];exact(List.getElem?_eq_some_iff.1 h1).1
 have hvj:vs[j]?=some ent:=by simpa using hj
 obtain⟨X',hs,v7⟩:=h.reTab (es':=es.set j (ks,ρv x)) (vs':=vs.modify j fun q=>{q with key:= .agg (ks.map (Value.int .i64)).toArray,val:=e x}) (clock':=clock) hp aam AJ hh
  (fun e he=>by
   rcases List.mem_or_eq_of_mem_set he with he | he
   .exact NZ e he
   subst he;exact⟨oE,hc⟩)
  (by simp[dX])
  (by
   have:(es.set j (ks,ρv x)).map (·.1)=es.map (·.1):=by
    apply List.ext_getElem?;intro q;rw[List.getElem?_map,List.getElem?_map];by_cases hq:j=q
    .subst hq;rw[qv (by omega),h1];rfl
    rw[getElem?_set_ne hq]
   rw[this];exact mb)
  (fun i e2 k2 v2 Hq mY=>by
   by_cases pL:j=i
   .subst pL;rw[qv (by omega)] at mY;cases mY;rw[Array.getElem?_modify,if_pos rfl,hvj] at Hq;cases Hq;exact⟨rfl,hsx,hxr⟩
   rw[getElem?_set_ne pL] at mY;rw[Array.getElem?_modify,if_neg pL] at Hq;exact hcell i e2 k2 v2 Hq mY)
 rw[Sa] at v7;refine⟨undef,_,X',ρ,.inr ⟨?_,rfl⟩,hs,v7,.tup #[] [] rfl (by simp),fun _ _=>rfl⟩;have hvk:ent.key= .agg (ks.map (Value.int .i64)).toArray:=RJ;simp only[execOp,ho,Ly,Sb];simp[Instr.mapUpdate,run_underlying hu,cg,zW,hf,bc,hvj,hvk,afQ]
end
end Go.AM
namespace Go.AM
section
variable {P:Program} {T:Tab}
theorem MU {w:World} {n l h m:Nat} {lo hi mx:Option Operand} {e:Operand->Value} {ρv:Operand->PV} {X:Nat->Prop} {ρ:Places}
 (fR: ∀ x∈lo.toArray,PRd w X ρ (e x) (ρv x)) (fL: ∀ x∈hi.toArray,PRd w X ρ (e x) (ρv x)) (NJ: ∀ x∈mx.toArray,PRd w X ρ (e x) (ρv x)) {c1 c2 c3:Prop} (Oo:mx.isSome=true->hi.isSome=true)
 (dY:eh (lo.map ρv) 0=some (c1,l)) (eC:eh (hi.map ρv) n=some (c2,h)) (Lo:eh (mx.map ρv) n=some (c3,m)) (sB:c1) (oH:c2) (hc3:c3) (DX:l<=h) (hhm:h<=m) (aan:m<=n):
 (Instr.sliceBounds false n n (lo.map e) (hi.map e) (mx.map e)).run P w= .ok (l,h,m) w:=by
 rcases mP fR dY with⟨rfl,rfl,_⟩ | ⟨x,k,a,rfl,hx,rfl,rfl⟩<;>
  rcases mP fL eC with⟨rfl,rfl,_⟩ | ⟨y,k',b,rfl,hy,rfl,rfl⟩<;>
   rcases mP NJ Lo with⟨rfl,rfl,_⟩ | ⟨z,k2,d,rfl,hz,rfl,rfl⟩
 .simp[Instr.sliceBounds]
 .simp at Oo
 .have h1:0<=b/\b<=(m:Int):=by omega
  simp[Instr.sliceBounds,Instr.sliceBound,hy,asIntOf,h1]
 .have h1:0<=d/\d<=(n:Int):=by omega
  have h2:0<=b/\b<=max d 0:=by omega
  simp[Instr.sliceBounds,Instr.sliceBound,hy,hz,asIntOf,h1,h2]
 .have h1:0<=a/\a<=(m:Int):=by omega
  simp[Instr.sliceBounds,Instr.sliceBound,hx,asIntOf,h1]
 .simp at Oo
 .have h1:0<=b/\b<=(m:Int):=by omega
  have h2:0<=a/\a<=max b 0:=by omega
  simp[Instr.sliceBounds,Instr.sliceBound,hx,hy,asIntOf,h1,h2]
 have h1:0<=d/\d<=(n:Int):=by omega
 have h2:0<=b/\b<=max d 0:=by omega
 have h3:0<=a/\a<=max b 0:=by omega
 simp[Instr.sliceBounds,Instr.sliceBound,hx,hy,hz,asIntOf,h1,h2,h3]
theorem QW {w:World} {X:Nat->Prop} {ad:Addr} {n m:Nat} {xs:List (List FV)} (hf:FRd w X (.slice (some ad) n n) (.sl xs)) (hm:m<=n):FRd w X (.slice (some ad) m m) (.sl (xs.take m)):=by
 cases hf with
 | sl _ _ _ s _ us hn hc hs h0 hX hb hcell hrd=>
  refine .sl ad m m s _ us (by simp;omega) (qp _) (fun x hx=>hs x (AY hx)) h0 (fun hz=>hX (by omega)) (fun hz=>hb (by omega)) (fun i j x y hx hy=>?_) (fun i j x y hx hy=>?_)
  .rw[getElem?_take] at hx;split at hx
   .exact hcell i j x y hx hy
   cases hx
  rw[getElem?_take] at hx;split at hx
  .exact hrd i j x y hx hy
  cases hx
theorem Ds (hT:cx P T) {t:TypeId} {i:TyI} (hi:T.at t=some i) {n el:Nat} (kN:i.d= .arr n el) (x:Operand) (lo oL mx:Option Operand):EffOp P T (.slice t x lo oL mx):=by
 intro c w X ρ H D R o e ρv r ho h hD hρ ak hc aD;have hx:=hρ x (by simp[Op.operands]);have fR: ∀ y∈lo.toArray,PRd w X ρ (e y) (ρv y):=fun y hy=>hρ y (by simp[Op.operands] at hy ⊢;simp[hy])
 have fL: ∀ y∈oL.toArray,PRd w X ρ (e y) (ρv y):=fun y hy=>hρ y (by simp[Op.operands] at hy ⊢;simp[hy])
 have NJ: ∀ y∈mx.toArray,PRd w X ρ (e y) (ρv y):=fun y hy=>hρ y (by simp[Op.operands] at hy ⊢;simp[hy])
 have hd:=(hT _ _ hi).desc;rw[kN] at hd;simp only[fO] at hd;simp only[cj,hi,kN] at ak;split at ak;rotate_left
 .cases ak
 rename_i ie id j off c1 l c2 hh c3 m mc hv dY eC Lo;rw[hv] at hx;split at ak;rotate_left
 .cases ak
 rename_i rw cs fU;split at ak;rotate_left
 .cases ak
 rename_i fs DZ;split at ak;rotate_left
 .cases ak
 rename_i hg;obtain⟨rfl,dj,Jf,Oo⟩:=hg;cases ak;have h5:(shutIds (id::((cs.drop off).take (n*ie.size)).flatMap eZ) H).length=H.length+D.length:=aD;rw[a8] at h5;have g8:D=[]:=List.eq_nil_of_length_eq_zero (by omega);subst g8;obtain⟨sB,oH,hc3,DX,hhm,aan,N5⟩:=hc;obtain⟨ti,z,eT,ef,_⟩:=(hT _ _ mc).info;have l_: ∀ k∈id::((cs.drop off).take (n*ie.size)).flatMap eZ,k<H.length:=by
  intro k hk;rw[w7] at hk;rcases hk with rfl | hk
  .exact(List.getElem?_eq_some_iff.1 fU).1
  exact qJ DZ k hk
 generalize lG:e x=u at hx;cases hx with
 | ptr _ _ _ g p hp iR=>
  have ako:=MU (P:=P) (w:=w) fR fL NJ Oo dY eC Lo sB oH hc3 DX hhm aan;refine OpOK.shutting l_ h (u:= .slice (if m=l then some ⟨g,off,none⟩ else(some (⟨g,off,none⟩:Addr)).map (·.add (l*ie.size))) (hh - l) (m - l)) ?_ (fun X' hX hn=>?_)
  .have he:(0*p.size+off)=off:=by omega
   rw[he] at lG;simp only[execOp,ho,lG];simp only[Instr.sliceAt,Sem.run_bind,run_underlying hd,Result.andThen_ok,Instr.sureAddr,Sem.run_pure,ako,sizeOf,typeInfo,run_program,eT,ef];split<;>simp
  obtain⟨⟨g',us,jE,hhp,dX,df,hcell⟩,_⟩:=h.ob id p _ hp (bx id _ fU);rw[iR] at jE;cases jE;have oT:fs.length=n*ie.size:=by rw[f5 DZ];simp;omega
  have Ou: ∀ (k:Nat) y,fs[k]?=some y->w.cell? ⟨g,off+k,none⟩=some (us.getD (off+k) undef)/\FRd w X' (us.getD (off+k) undef) y:=by
   intro k y hy;have hk:k<n*ie.size:=by rw[<-oT];exact(List.getElem?_eq_some_iff.1 hy).1
   have aH:off+k<us.size:=by omega
   have hc5:((cs.drop off).take (n*ie.size))[k]?=some cs[off+k]:=by
    rw[getElem?_take,if_pos hk,List.getElem?_drop];simp[show off+k<cs.length by omega]
   obtain⟨y',Cr,N0⟩:=k_ DZ k _ hc5;rw[hy] at Cr;cases Cr;rw[show us.getD (off+k) undef=us[off+k] by simp[aH]];refine⟨by rw[cell_of_row w g _ us _ _ hhp];simp[aH],?_⟩;refine lY h bx (hcell _ _ _ (Array.getElem?_eq_getElem aH) (by simp[show off+k<cs.length by omega])) N0 hX (fun k2 iQ=>hn k2 ?_);rw[w7,List.mem_flatMap];exact .inr ⟨_,mem_of_getElem? hc5,iQ⟩
  have R_:FRd w X' (.slice (some ⟨g,off,none⟩) n n) (.sl (dG ie.size n fs)):=by
   refine .sl _ n n ie.size _ (fun i j=>us.getD (off+(i*ie.size+j)) undef) (gP _ _ _) (qp _) (se oT) rfl (fun _=>hn id (by simp) p _ g hp (bx id _ fU) trivial iR) (fun _=>(Array.getElem?_eq_some_iff.1 hhp).1) (fun i j x y hx hy=>?_) (fun i j x y hx hy=>?_)
   .exact(Ou _ _ (py hx hy).1).1
   exact(Ou _ _ (py hx hy).1).2
  have gR:=Dh (QW R_ aan) (sz:=ie.size) (fun x hx=>se oT x (AY hx)) (cap:=m) DX hhm;have hte:(((dG ie.size n fs).take m).drop l).take (hh - l)=((dG ie.size n fs).drop l).take (hh - l):=by
   rw[List.drop_take,List.take_take,Nat.min_eq_left (by omega)]
  rw[hte] at gR;show PRd w X' ρ _ (if m=hh then _ else _);by_cases hmh:m=hh
  .rw[if_pos hmh];have e1:m - l=hh - l:=by rw[hmh]
   rw[e1] at gR ⊢;exact .clip _ _ _ gR
  rw[if_neg hmh];exact .fv _ _ gR
theorem vQ {w:World} {t:TypeId} {ti:TypeInfo} (eT:P.info? t=some ti) {v:Value} (hv:v.cells.size=ti.size) {g o e':Nat} {cur:Array Value} (hg:w.heap[g]?=some (.cells cur e' (0,0)))
 (hl:o+v.cells.size<=cur.size) (h1: ∀ (i:Nat) u,v.cells[i]?=some u->u.oneCell'=true):
 (Instr.storeAt t (.pointer (some ⟨g,o,none⟩)) v).run P w= .ok () (w.setRow g (cur.toList.take o++v.cells.toList++cur.toList.drop (o+v.cells.size)).toArray):=by
 have bM:=run_storeCells_at P g o e' v.cells.toList 0 cur w hg (by simpa using hl) (fun u hu=>by
  obtain⟨i,hi⟩:=getElem?_of_mem hu;exact h1 i u (by simpa using hi))
 simp only[Nat.add_zero,Array.length_toList] at bM
 simp[Instr.storeAt,Instr.sureAddr,storeVar,sizeOf,typeInfo,eT,hv,bM]
theorem MV (hT:cx P T) (t:TypeId) (a x:Operand):EffOp P T (.store t a x):=by
 intro c w X ρ H D R o e ρv r ho h hD hρ ak hc aD;have ha:=hρ a (by simp[Op.operands]);have hx:=hρ x (by simp[Op.operands]);simp only[cj] at ak;split at ak;rotate_left
 .cases ak
 rename_i i hi;obtain⟨ti,z,eT,ef,_⟩:=(hT _ _ hi).info;split at ak;rotate_left
 .cases ak
 rename_i id j off hv;rw[hv] at ha;split at ak;rotate_left
 .cases ak
 rename_i cd H' bM;cases ak;obtain⟨kK,fC,dj⟩:=hc;obtain⟨eR,df⟩:=sc hx (by omega);have JF:=yR hx;generalize lG:e a=u at ha;cases ha with
 | ptr _ _ _ g p hp iR=>
  unfold storeAt at bM;split at bM
  .rename_i xs0 fU;split at bM;rotate_left
   .cases bM
   rename_i fs xs DZ N7;cases bM;have l_:=qJ DZ;have JD:((gU H (ρv x).cells).set id (Ob.row true (xs.set j (eM (xs.getD j []) off fs)))).length=H.length+D.length:=aD;rw[length_set] at JD;unfold gU at JD;rw[a8] at JD;have g8:D=[]:=List.eq_nil_of_length_eq_zero (by omega);subst g8;obtain⟨X1,h1,qX,kJ⟩:=h.shutIds ((ρv x).cells.flatMap eZ);rw[eP _ l_] at h1;obtain⟨lD,N5⟩:=kK;have eA:(shutIds ((ρv x).cells.flatMap eZ) H++([]++R))[id]?=some (.row true xs):=bx id _ N7;obtain⟨⟨zO,lH,us,gS,R9⟩,zP⟩:=h1.ob id p _ hp eA;have vt:X1 g:=(zP g iR).1 rfl;have ow:w.ownsRow 0 p.e p.size (.slice (some ⟨g,0,none⟩) xs.length p.cap) xs.length us:=by simpa [Place.val,iR] using gS
   obtain⟨zt,eJ⟩:=ow;rcases eJ with⟨h5,_⟩ | ⟨g',cap',cur,h5,_,jF,qY,qV,vu,tZ⟩
   .cases h5
   cases h5;have hgj:xs[j]?=some (xs.getD j []):=by simp[lD]
   have hxj:(xs.getD j []).length=p.size:=lH _ (mem_of_getElem? hgj);have AU:(j+1)*p.size<=xs.length*p.size:=qn _ lD;have Ha:xs.length*p.size<=p.cap*p.size:=qn _ qY;rw[Nat.add_mul] at AU;have akq:=f5 DZ;have cT:=vQ (P:=P) (w:=w) eT (v:=e x) (by omega) (o:=j*p.size+off) jF (by omega) df;have oJ:=iK w g (cur.toList.take (j*p.size+off)++(e x).cells.toList++cur.toList.drop (j*p.size+off+(e x).cells.size)).toArray;have cg:=fun k=>iL (cur:=cur) (o:=j*p.size+off) (vs:=(e x).cells.toList) (by simp;omega) k
   simp only[Array.length_toList,Array.getElem?_toList] at cg;have rD:=setRow_heap w g cur (cur.toList.take (j*p.size+off)++(e x).cells.toList++cur.toList.drop (j*p.size+off+(e x).cells.size)).toArray p.e (0,0) jF;have ej:(execOp e o).run P w= .ok .skip (w.setRow g (cur.toList.take (j*p.size+off)++(e x).cells.toList++cur.toList.drop (j*p.size+off+(e x).cells.size)).toArray):=by
    simp only[execOp,ho,lG,Sem.run_bind,cT,Result.andThen_ok,Sem.run_pure]
   generalize mX:(cur.toList.take (j*p.size+off)++(e x).cells.toList++cur.toList.drop (j*p.size+off+(e x).cells.size)).toArray=new at ej oJ cg rD;have Hc:new.size=cur.size:=by
    rw[<-mX];simp;omega
   have aao: ∀ (k:Nat),k<xs.length*p.size->us[k]?=cur[k]?:=by
    intro k hk;rw[<-tZ,getElem?_take,if_pos hk];simp
   have zQ:(w.setRow g new).ownsRow 0 p.e p.size (.slice (some ⟨g,0,none⟩) xs.length p.cap) xs.length (new.toList.take (xs.length*p.size)):=by
    refine⟨by have e9:new.toList.length=cur.size:=Hc;rw[length_take,e9,vu,Nat.min_eq_left Ha],.inr ⟨g,p.cap,new,rfl,eB _,rD,qY,qV,by rw[Hc,vu],rfl⟩⟩
   have akr: ∀ (k:Nat) u y,(e x).cells[k]?=some u->fs[k]?=some y->FRd w X1 u y:=by
    intro k u y hu hy;have aH:k<(ρv x).cells.length:=by rw[<-akq];exact(List.getElem?_eq_some_iff.1 hy).1
    obtain⟨y',Cr,N0⟩:=k_ DZ k (ρv x).cells[k] (by simp[aH]);rw[hy] at Cr;cases Cr;refine lY h bx (JF k u _ hu (by simp[aH])) N0 qX (fun k2 iQ=>kJ k2 ?_);rw[List.mem_flatMap];exact⟨_,by simp,iQ⟩
   have bX:=h1.put (id:=id) (p:=p) (ob:= .row true (xs.set j (eM (xs.getD j []) off fs))) (row:=some g) (w':=w.setRow g new) (by have:=(List.getElem?_eq_some_iff.1 eA).1;exact this) (.inr hp) oJ
    (by intro g' jE;cases jE;exact vt)
    (fun j2 q o2 g2 DW hq gw gX eC=>by
     have cX:g2≠g:=by
      intro he;subst he;exact DW (h1.inj j2 id q p o2 _ g2 hq hp gw eA gX rfl eC iR)
     exact⟨by simp[cX],by rw[iR];simp;exact fun he=>cX he.symm⟩)
    (fun g2 eu=>by rw[iR] at eu;cases eu;exact .inr vt)
    (fun g2 eu=>by rw[iR] at eu;cases eu;exact⟨(h1.own id p _ g hp eA rfl iR).1,Nat.lt_of_lt_of_le (h1.own id p _ g hp eA rfl iR).2 oJ.size⟩)
    (fun g2 eu=>by cases eu;exact(h1.own id p _ g hp eA rfl iR).1)
    ⟨⟨zO,by
     intro y hy;obtain⟨k,hk⟩:=getElem?_of_mem hy;by_cases hkj:j=k
     .subst hkj;rw[qv lD] at hk;cases hk;rw[gO (by omega)];exact hxj
     .rw[getElem?_set_ne hkj] at hk;exact lH y (mem_of_getElem? hk),new.toList.take (xs.length*p.size),by rw[length_set];simpa [Place.val,iR] using zQ,by
     intro i2 k y1 y2 AG vj;have pP: ∀ {u y},FRd w X1 u y->FRd (w.setRow g new) (fun b=>X1 b\/p.b=some b) u y:=fun hf=>hf.mono ⟨oJ.size,fun b hb lA=>oJ.block b hb (fun he=>lA (by cases he;exact vt))⟩ (fun b hb lA=>by
      rcases lA with lA | lA
      .exact lA
      rw[iR] at lA;cases lA;exact vt)
     have iq:i2<xs.length:=by have:=(List.getElem?_eq_some_iff.1 AG).1;simpa using this
     have Hb:(i2+1)*p.size<=xs.length*p.size:=qn _ iq;rw[Nat.add_mul] at Hb;by_cases pL:j=i2
     .subst pL;rw[qv lD] at AG;cases AG;have hk:k<p.size:=by
       have:=(List.getElem?_eq_some_iff.1 vj).1;rw[gO (by omega)] at this;omega
      rw[i9 (by omega)] at vj;have aks:(new.toList.take (xs.length*p.size))[j*p.size+k]?=new[j*p.size+k]?:=by
       rw[getElem?_take,if_pos (by omega)];simp
      rw[aks,cg];by_cases jG:k<off
      .rw[if_pos jG] at vj;rw[if_pos (by omega)];obtain⟨u,hu,hf⟩:=R9 j k _ y2 hgj vj;rw[aao _ (by omega)] at hu;exact⟨u,hu,pP hf⟩
      rw[if_neg jG] at vj;rw[if_neg (by omega)];by_cases iQ:k<off+fs.length
      .rw[if_pos iQ] at vj;rw[if_pos (by omega)];have aH:k - off<(e x).cells.size:=by omega
       rw[show j*p.size+k - (j*p.size+off)=k - off by omega];exact⟨(e x).cells[k - off],by simp[aH],pP (akr _ _ _ (by simp[aH]) vj)⟩
      rw[if_neg iQ] at vj;rw[if_neg (by omega)];obtain⟨u,hu,hf⟩:=R9 j k _ y2 hgj vj;rw[aao _ (by omega)] at hu;exact⟨u,hu,pP hf⟩
     .rw[getElem?_set_ne pL] at AG;have hk:k<p.size:=by rw[<-lH y1 (mem_of_getElem? AG)];exact(List.getElem?_eq_some_iff.1 vj).1
      obtain⟨u,hu,hf⟩:=R9 i2 k y1 y2 AG vj;refine⟨u,?_,pP hf⟩;rw[getElem?_take,if_pos (by omega),Array.getElem?_toList,cg,<-hu,aao _ (by omega)];have D0:i2*p.size+k<j*p.size+off\/j*p.size+off+(e x).cells.size<=i2*p.size+k:=by
       rcases Nat.lt_or_gt_of_ne pL with aH | zH
       .right;have:(j+1)*p.size<=i2*p.size:=qn _ aH;rw[Nat.add_mul] at this;omega
       left;have:(i2+1)*p.size<=j*p.size:=qn _ zH;rw[Nat.add_mul] at this;omega
      rcases D0 with D0 | D0
      .rw[if_pos D0]
      rw[if_neg (by omega),if_neg (by omega)]⟩,
     fun g2 eu=>⟨fun _=> .inr eu,fun _=>rfl⟩⟩
   rw[pz hp] at bX;have Sa:(shutIds ((ρv x).cells.flatMap eZ) H++([]++R)).set id (.row true (xs.set j (eM (xs.getD j []) off fs)))=(gU H (ρv x).cells).set id (.row true (xs.set j (eM (xs.getD j []) off fs)))++R:=by
    rw[nil_append,set_append_left _ _ (by rw[a8];exact(List.getElem?_eq_some_iff.1 fU).1)];rfl
   rw[Sa] at bX;exact⟨undef,_,_,ρ,.inr ⟨ej,rfl⟩,(Stp.same_world qX).trans bX.2,bX.1,.tup #[] [] rfl (by simp),fun _ _=>rfl⟩
  .rename_i cs fU;cases bM;have JD:(H.set id (Ob.box true (eM cs off (ρv x).cells))).length=H.length+D.length:=aD;rw[length_set] at JD;have g8:D=[]:=List.eq_nil_of_length_eq_zero (by omega);subst g8;obtain⟨rfl,N5⟩:=kK;have eA:(H++([]++R))[id]?=some (.box true cs):=bx id _ fU;obtain⟨⟨g',cur,jE,jF,vu,XF,hcell⟩,zP⟩:=h.ob id p _ hp eA;rw[iR] at jE;cases jE;have vt:X g:=(zP g iR).1 rfl;have he:(0*p.size+off)=off:=by omega
   rw[he] at lG;have cT:=vQ (P:=P) (w:=w) eT (v:=e x) (by omega) (o:=off) jF (by omega) df;have oJ:=iK w g (cur.toList.take off++(e x).cells.toList++cur.toList.drop (off+(e x).cells.size)).toArray;have cg:=fun k=>iL (cur:=cur) (o:=off) (vs:=(e x).cells.toList) (by simp;omega) k
   simp only[Array.length_toList,Array.getElem?_toList] at cg;have rD:=setRow_heap w g cur (cur.toList.take off++(e x).cells.toList++cur.toList.drop (off+(e x).cells.size)).toArray p.e (0,0) jF;have ej:(execOp e o).run P w= .ok .skip (w.setRow g (cur.toList.take off++(e x).cells.toList++cur.toList.drop (off+(e x).cells.size)).toArray):=by
    simp only[execOp,ho,lG,Sem.run_bind,cT,Result.andThen_ok,Sem.run_pure]
   generalize mX:(cur.toList.take off++(e x).cells.toList++cur.toList.drop (off+(e x).cells.size)).toArray=new at ej oJ cg rD;have Hc:new.size=cur.size:=by
    rw[<-mX];simp;omega
   have bX:=h.put (id:=id) (p:=p) (ob:= .box true (eM cs off (ρv x).cells)) (row:=some g) (w':=w.setRow g new) (by have:=(List.getElem?_eq_some_iff.1 eA).1;exact this) (.inr hp) oJ
    (by intro g' jE;cases jE;exact vt)
    (fun j2 q o2 g2 DW hq gw gX eC=>by
     have cX:g2≠g:=by
      intro he;subst he;exact DW (h.inj j2 id q p o2 _ g2 hq hp gw eA gX rfl eC iR)
     exact⟨by simp[cX],by rw[iR];simp;exact fun he=>cX he.symm⟩)
    (fun g2 eu=>by rw[iR] at eu;cases eu;exact .inr vt)
    (fun g2 eu=>by rw[iR] at eu;cases eu;exact⟨(h.own id p _ g hp eA rfl iR).1,Nat.lt_of_lt_of_le (h.own id p _ g hp eA rfl iR).2 oJ.size⟩)
    (fun g2 eu=>by cases eu;exact(h.own id p _ g hp eA rfl iR).1)
    ⟨⟨g,new,iR,rD,by rw[Hc,vu,gO (by omega)],by
     intro k u hu;rw[cg] at hu;split at hu
     .exact XF _ _ hu
     .split at hu
      .exact df _ _ hu
      exact XF _ _ hu,by
     intro k u y hu hy;have pP: ∀ {u y},PRd w X ρ u y->PRd (w.setRow g new) (fun b=>X b\/p.b=some b) (ρ.set id (some p)) u y:=fun hf=>hf.mono ⟨oJ.size,fun b hb lA=>oJ.block b hb (fun he=>lA (by cases he;exact vt))⟩ (fun b hb lA=>by
      rcases lA with lA | lA
      .exact lA
      rw[iR] at lA;cases lA;exact vt) (Places.Le.set (.inr hp))
     rw[cg] at hu;rw[i9 (by omega)] at hy;by_cases jG:k<off
     .rw[if_pos jG] at hu hy;exact pP (hcell _ _ _ hu hy)
     .rw[if_neg jG] at hu hy;by_cases iQ:k<off+(ρv x).cells.length
      .rw[if_pos (by omega)] at hu;rw[if_pos iQ] at hy;exact pP (JF _ _ _ hu hy)
      rw[if_neg (by omega)] at hu;rw[if_neg iQ] at hy;exact pP (hcell _ _ _ hu hy)⟩,
     fun g2 eu=>⟨fun _=> .inr eu,fun _=>rfl⟩⟩
   rw[pz hp] at bX;have Sa:(H++([]++R)).set id (.box true (eM cs off (ρv x).cells))=H.set id (.box true (eM cs off (ρv x).cells))++R:=by
    rw[nil_append,set_append_left _ _ (List.getElem?_eq_some_iff.1 fU).1]
   rw[Sa] at bX;exact⟨undef,_,_,ρ,.inr ⟨ej,rfl⟩,bX.2,bX.1,.tup #[] [] rfl (by simp),fun _ _=>rfl⟩
  cases bM
theorem Gs (hT:cx P T) (op:Op):EffOp P T op:=by
 intro c w X ρ H D R o e ρv r ho h hD hρ ak hc aD;have jL:=ak;unfold cj at jL;cases op with
 | move x=>exact EffOp.of_still (Iy x) ho h hD hρ ak hc aD
 | assign x=>exact EffOp.of_still (Dg x) ho h hD hρ ak hc aD
 | pick x a b=>exact EffOp.of_still (Iz x a b) ho h hD hρ ak hc aD
 | alloc t=>exact MS hT t ho h hD hρ ak hc aD
 | box t x=>exact T' t x ho h hD hρ ak hc aD
 | build t parts=>exact EffOp.of_still (Gk hT t parts) ho h hD hρ ak hc aD
 | buildSlice t len parts=>exact yV hT t len parts ho h hD hρ ak hc aD
 | load t a=>exact EffOp.of_still (IE hT t a) ho h hD hρ ak hc aD
 | store t a x=>exact MV hT t a x ho h hD hρ ak hc aD
 | nilCheck x=>exact EffOp.of_still (yO x) ho h hD hρ ak hc aD
 | binOp op t x y t'=>exact EffOp.of_still (Gc hT op t x y t') ho h hD hρ ak hc aD
 | unOp op t x=>exact EffOp.of_still (ID op t x) ho h hD hρ ak hc aD
 | convert s d x=>exact EffOp.of_still (Ak hT s d x) ho h hD hρ ak hc aD
 | makeSlice t l k=>exact Am hT t l k ho h hD hρ ak hc aD
 | makeFunc fn a b=>exact Dl fn a b ho h hD hρ ak hc aD
 | fieldAddr t x f=>exact EffOp.of_still (wh hT t x f) ho h hD hρ ak hc aD
 | field t x f=>exact EffOp.of_still (Gd hT t x f) ho h hD hρ ak hc aD
 | indexAddr t x ix=>exact EffOp.of_still (wi hT t x ix) ho h hD hρ ak hc aD
 | index t x ix=>exact EffOp.of_still (Gf hT t x ix) ho h hD hρ ak hc aD
 | extract x ix=>exact EffOp.of_still (Al x ix) ho h hD hρ ak hc aD
 | slice t x lo hi mx=>
  simp only at jL;split at jL;rotate_left
  .cases jL
  rename_i i hi;split at jL
  .rename_i el kN;exact EffOp.of_still (Gg hT hi kN x lo _) ho h hD hρ ak hc aD
  .rename_i el mv kN;exact EffOp.of_still (Di hT (by assumption) kN x lo _ _) ho h hD hρ ak hc aD
  .rename_i n el kN;exact Ds hT (by assumption) kN x lo _ _ ho h hD hρ ak hc aD
  .cases jL
 | makeMap t r=>
  cases r with
  | none=>exact Gr hT t ho h hD hρ ak hc aD
  | some r=>simp only at jL;cases jL
 | lookup t m k ok=>exact EffOp.of_still (Dr hT t m k ok) ho h hD hρ ak hc aD
 | mapUpdate t m k x=>exact An hT t m k x ho h hD hρ ak hc aD
 | _=>simp only at jL;cases jL
end
end Go.AM
namespace Go.AM
section
variable {P:Program} {T:Tab}
theorem PRd.reloc1 {w:World} {X X':Nat->Prop} {ρ ρ':Places} {u:Value} {x:PV} (f:Nat->Nat) (h:PRd w X ρ u x) (hX: ∀ b,b<w.heap.size->X' b->X b) (hρ: ∀ (j:Nat) p,ρ[j]?=some (some p)->ρ'[f j]?=some (some p))
 (h1:u.oneCell'=true):PRd w X' ρ' u (reloc1 f x):=by
 cases h with
 | any=>exact .any _
 | fv _ _ h=>exact .fv _ _ (h.mono (Same.refl X w) hX)
 | nilsl=>exact .nilsl
 | clip a n xs h=>exact .clip a n xs (h.mono (Same.refl X w) hX)
 | ptr id i off g p hp hg=>exact .ptr (f id) i off g p (hρ _ _ hp) hg
 | lsl0 id p hp hg=>exact .lsl0 (f id) p (hρ _ _ hp) hg
 | lsl id off len o g p hp hg hl ho=>exact .lsl (f id) off len o g p (hρ _ _ hp) hg hl ho
 | agg=>cases h1
 | tup=>cases h1
 | tab id g p hp hg=>exact .tab (f id) g p (hρ _ _ hp) hg
theorem PRd.reloc {w:World} {X X':Nat->Prop} {ρ ρ':Places} {u:Value} {x:PV} (f:Nat->Nat) (h:PRd w X ρ u x) (hX: ∀ b,b<w.heap.size->X' b->X b) (hρ: ∀ (j:Nat) p,ρ[j]?=some (some p)->ρ'[f j]?=some (some p)):
 PRd w X' ρ' u (reloc f x):=by
 have j7: ∀ (us:Array Value) (cs:List PV),us.size=cs.length->(∀ (i:Nat) u,us[i]?=some u->u.oneCell'=true)->(∀ (i:Nat) u c,us[i]?=some u->cs[i]?=some c->PRd w X ρ u c)->PRd w X' ρ' (.agg us) (.agg (cs.map (AM.reloc1 f))):=by
  intro us cs hn h1 hr;refine .agg us _ (by simpa using hn) h1 (fun i u y hu hy=>?_);rw[List.getElem?_map,Option.map_eq_some_iff] at hy;obtain⟨z,hz,rfl⟩:=hy;exact(hr i u z hu hz).reloc1 f hX hρ (h1 i u hu)
 cases h with
 | any=>exact .any _
 | fv _ _ h=>exact .fv _ _ (h.mono (Same.refl X w) hX)
 | nilsl=>exact .nilsl
 | clip a n xs h=>exact .clip a n xs (h.mono (Same.refl X w) hX)
 | ptr id i off g p hp hg=>exact .ptr (f id) i off g p (hρ _ _ hp) hg
 | lsl0 id p hp hg=>exact .lsl0 (f id) p (hρ _ _ hp) hg
 | lsl id off len o g p hp hg hl ho=>exact .lsl (f id) off len o g p (hρ _ _ hp) hg hl ho
 | agg us cs hn h1 hr=>exact j7 us cs hn h1 hr
 | tup us cs hn hr=>
  refine .tup us _ (by simpa using hn) (fun i u y hu hy=>?_);rw[List.getElem?_map,Option.map_eq_some_iff] at hy;obtain⟨z,hz,rfl⟩:=hy;have DV:=hr i u z hu hz;cases DV with
  | any=>exact .any _
  | fv _ _ h=>exact .fv _ _ (h.mono (Same.refl X w) hX)
  | nilsl=>exact .nilsl
  | clip a n xs h=>exact .clip a n xs (h.mono (Same.refl X w) hX)
  | ptr id i off g p hp hg=>exact .ptr (f id) i off g p (hρ _ _ hp) hg
  | lsl0 id p hp hg=>exact .lsl0 (f id) p (hρ _ _ hp) hg
  | lsl id off len o g p hp hg hl ho=>exact .lsl (f id) off len o g p (hρ _ _ hp) hg hl ho
  | agg us cs hn h1 hr=>exact j7 us cs hn h1 hr
  | tup us cs hn hr=>exact .any _
  | tab id g p hp hg=>exact .tab (f id) g p (hρ _ _ hp) hg
 | tab id g p hp hg=>exact .tab (f id) g p (hρ _ _ hp) hg
theorem ObRd.keep {w w':World} {X X':Nat->Prop} {ρ ρ':Places} {p:Place} {o:Ob} (h:ObRd w X ρ p o) (hs:Same X w w') (hX: ∀ b,b<w.heap.size->X' b->X b) (hρ:ρ.Le ρ')
 (t7:o.alive-> ∀ g,p.b=some g->g<w.heap.size->w'.heap[g]?=w.heap[g]?/\(X' g↔X g)):ObRd w' X' ρ' p o:=by
 cases o with
 | dead=>trivial
 | row rw xs=>
  obtain⟨⟨dj,aD,us,gS,hc⟩,hf⟩:=h;refine⟨⟨dj,aD,us,?_,fun i j x y hx hy=>?_⟩,fun g hg=>?_⟩
  .refine⟨gS.1,?_⟩;rcases gS.2 with h1 | ⟨g,cap,cur,h1,h2,h3,h4⟩
   .exact .inl h1
   refine .inr ⟨g,cap,cur,h1,h2,?_,h4⟩;have hpb:p.b=some g:=by
    unfold Place.val at h1;cases hb:p.b with
    | none=>rw[hb] at h1;cases h1
    | some g'=>rw[hb] at h1;cases h1;rfl
   rw[(t7 trivial g hpb (Array.getElem?_eq_some_iff.1 h3).1).1];exact h3
  .obtain⟨u,hu,um⟩:=hc i j x y hx hy;exact⟨u,hu,um.mono hs hX⟩
  .have aH:=lX gS hg;rw[(t7 trivial g hg aH).2];exact hf g hg
 | box rw cs=>
  obtain⟨⟨g,us,hg,hh,dX,h1,hc⟩,hf⟩:=h;have aH:g<w.heap.size:=(Array.getElem?_eq_some_iff.1 hh).1;refine⟨⟨g,us,hg,by rw[(t7 trivial g hg aH).1];exact hh,dX,h1,fun i u x hu hx=>(hc i u x hu hx).mono hs hX hρ⟩,fun g2 eu=>?_⟩;rw[hg] at eu;cases eu;rw[(t7 trivial g hg aH).2];exact hf g hg
 | tab n es=>
  obtain⟨⟨NZ,g,clock,vs,hg,hh,dX,mb,hc⟩,hf⟩:=h;have aH:g<w.heap.size:=(Array.getElem?_eq_some_iff.1 hh).1;refine⟨⟨NZ,g,clock,vs,hg,by rw[(t7 trivial g hg aH).1];exact hh,dX,mb,fun i e k v he hv=>?_⟩,fun g2 eu=>?_⟩
  .obtain⟨a1,a2,a3⟩:=hc i e k v he hv;exact⟨a1,a2,a3.mono hs hX (Places.Le.refl [])⟩
  rw[hg] at eu;cases eu;exact(t7 trivial g hg aH).2.2 (hf g hg)
theorem Ob.alive_of_rw {o:Ob} (h:o.rw=true):o.alive:=by
 cases o with
 | dead=>cases h
 | row=>trivial
 | box=>trivial
 | tab=>trivial
theorem sf (f:Nat->Nat) (o:Ob):(relocOb f o).rw=o.rw:=by cases o<;>rfl
theorem ObRd.moved {w:World} {X X':Nat->Prop} {ρ ρ':Places} {p:Place} {o:Ob} (f:Nat->Nat) (h:ObRd w X ρ p o) (hX: ∀ b,b<w.heap.size->X' b->X b) (hρ: ∀ (j:Nat) p,ρ[j]?=some (some p)->ρ'[f j]?=some (some p))
 (t7:o.alive-> ∀ g,p.b=some g->(X' g↔X g)):ObRd w X' ρ' p (relocOb f o):=by
 cases o with
 | dead=>trivial
 | row rw xs=>
  obtain⟨⟨dj,aD,us,gS,hc⟩,hf⟩:=h;refine⟨⟨dj,aD,us,gS,fun i j x y hx hy=>?_⟩,fun g hg=>?_⟩
  .obtain⟨u,hu,um⟩:=hc i j x y hx hy;exact⟨u,hu,um.mono (Same.refl X w) hX⟩
  .rw[t7 trivial g hg];exact hf g hg
 | box rw cs=>
  obtain⟨⟨g,us,hg,hh,dX,h1,hc⟩,hf⟩:=h;refine⟨⟨g,us,hg,hh,by simpa using dX,h1,fun i u x hu hx=>?_⟩,fun g2 eu=>?_⟩
  .rw[List.getElem?_map,Option.map_eq_some_iff] at hx;obtain⟨y,hy,rfl⟩:=hx;exact(hc i u y hu hy).reloc1 f hX hρ (h1 i u hu)
  .rw[t7 trivial g2 eu];exact hf g2 eu
 | tab n es=>
  obtain⟨⟨NZ,g,clock,vs,hg,hh,dX,mb,hc⟩,hf⟩:=h;refine⟨⟨NZ,g,clock,vs,hg,hh,dX,mb,fun i e k v he hv=>?_⟩,fun g2 eu=>(t7 trivial g2 eu).2 (hf g2 eu)⟩;obtain⟨a1,a2,a3⟩:=hc i e k v he hv;exact⟨a1,a2,a3.mono (Same.refl X w) hX (Places.Le.refl [])⟩
theorem B_ {c c1:gD} {w w':World} {X1 X2:Nat->Prop} {ρ ρ2 ρ3:Places} {F F' H1:List Ob} (f:Nat->Nat) (sB:c1.w0=w) (h:HRd c w X1 ρ F) (jG:Keeps c1 w') (h2:HRd c1 w' X2 ρ2 H1)
 (hXo: ∀ b,X1 b-> ¬c1.M b->c1.Xo b) (hMX: ∀ b,c1.M b->X1 b) (Se: ∀ b,c1.M b->(c.w0.heap.size<=b\/c.M b)/\b<w.heap.size)
 (n4: ∀ (i:Nat) p o g,(∀ j,j<H1.length->f j≠i)->ρ[i]?=some (some p)->F[i]?=some o->o.alive->p.b=some g-> ¬c1.M g)
 (mX: ∀ (j:Nat) p g,ρ2[j]?=some (some p)->p.b=some g->w.heap.size<=g\/c1.M g)
 (aD:ρ3.length=F'.length) (hF1: ∀ (j:Nat) o,H1[j]?=some o->F'[f j]?=some (relocOb f o)) (hF2: ∀ i,(∀ j,j<H1.length->f j≠i)->F'[i]?=F[i]?)
 (XD: ∀ j,j<H1.length->ρ3[f j]?=ρ2[j]?) (hρ2: ∀ i,(∀ j,j<H1.length->f j≠i)->ρ3[i]?=ρ[i]?) (dT:ρ.Le ρ3):
 ∃ X3,HRd c w' X3 ρ3 F'/\Stp c w w' X1 X3 ρ ρ3/\ ∀ u x,PRd w' X2 ρ2 u x->PRd w' X3 ρ3 u (reloc f x):=by
 subst sB
 let X3 (b:Nat):Prop:=(b<c1.w0.heap.size/\X1 b/\ ¬c1.M b)\/((c1.M b\/c1.w0.heap.size<=b)/\X2 b)
 have eI:Same X1 c1.w0 w':=⟨jG.size,fun b hb hx=>jG.block b hb (fun hm=>hx (hMX b hm))⟩
 have Sf: ∀ b,b<c1.w0.heap.size->X3 b->X1 b:=by
  intro b hb hx;rcases hx with⟨_,hx,_⟩ | ⟨hm | hm,_⟩
  .exact hx
  .exact hMX b hm
  omega
 have Sg: ∀ b,X3 b->X2 b:=by
  intro b hx;rcases hx with⟨_,hx,hm⟩ | ⟨_,hx⟩
  .exact h2.xo b (hXo b hx hm)
  exact hx
 have afT: ∀ (j:Nat) p,ρ2[j]?=some (some p)->ρ3[f j]?=some (some p):=by
  intro j p hj;rw[XD j (by rw[<-h2.len];exact(List.getElem?_eq_some_iff.1 hj).1)];exact hj
 have eJ: ∀ i,(∃ j,j<H1.length/\f j=i)\/(∀ j,j<H1.length->f j≠i):=by
  intro i;by_cases he: ∃ j,j<H1.length/\f j=i
  .exact .inl he
  exact .inr fun j hj hf=>he ⟨j,hj,hf⟩
 have oT: ∀ (j:Nat) p g,ρ2[j]?=some (some p)->p.b=some g->(X3 g↔X2 g):=by
  intro j p g hp hg;constructor
  .exact Sg g
  intro hx;rcases mX j p g hp hg with h3 | h3
  .exact .inr ⟨.inr h3,hx⟩
  exact .inr ⟨.inl h3,hx⟩
 have N7: ∀ (j:Nat) o,H1[j]?=some o-> ∀ o',F'[f j]?=some o'->o'=relocOb f o:=fun j o hj o' LC=>by
  rw[hF1 j o hj] at LC;cases LC;rfl
 have Sh: ∀ j,j<H1.length-> ∃ o,H1[j]?=some o:=fun j hj=>⟨H1[j],by simp[hj]⟩
 refine⟨X3,⟨aD,?_,?_,?_,?_,?_,gI h.ge jG.size,h.base.trans dT⟩,⟨eI,Sf,dT,fun hk=>?_⟩,fun u x hu=>hu.reloc f (fun b _=>Sg b) afT⟩
 .intro i p o hp ho
  rcases eJ i with⟨j,hj,rfl⟩ | ue
  .obtain⟨o2,gw⟩:=Sh j hj
   have:=N7 j o2 gw o ho
   subst this
   rw[XD j hj] at hp
   exact(h2.ob j p o2 hp gw).moved f (fun b _=>Sg b) afT (fun _ g hg=>oT j p g hp hg)
  rw[hρ2 i ue] at hp
  rw[hF2 i ue] at ho
  refine(h.ob i p o hp ho).keep eI Sf dT (fun ha g hg aH=>?_)
  have hm:=n4 i p o g ue hp ho ha hg
  exact⟨jG.block g aH hm,⟨Sf g aH,fun hx=> .inl ⟨aH,hx,hm⟩⟩⟩
 .intro i k p q o r g hp hq ho hr jx i_ dY eC
  rcases eJ i with⟨j,hj,rfl⟩ | ue
  .obtain⟨o2,gw⟩:=Sh j hj
   have:=N7 j o2 gw o ho
   subst this
   rw[XD j hj] at hp
   rw[sf] at jx
   rcases eJ k with⟨j',SK,rfl⟩ | N9
   .obtain⟨r2,gX⟩:=Sh j' SK
    have:=N7 j' r2 gX r hr
    subst this
    rw[XD j' SK] at hq
    rw[sf] at i_
    rw[h2.inj j j' p q o2 r2 g hp hq gw gX jx i_ dY eC]
   rw[hρ2 k N9] at hq
   rw[hF2 k N9] at hr
   have hra:r.alive:=Ob.alive_of_rw i_
   have h3:=n4 k q r g N9 hq hr hra eC
   have h4:=(h.own k q r g hq hr i_ eC).2
   rcases mX j p g hp dY with h5 | h5
   .omega
   exact absurd h5 h3
  rw[hρ2 i ue] at hp
  rw[hF2 i ue] at ho
  have hoa:o.alive:=Ob.alive_of_rw jx
  rcases eJ k with⟨j',SK,rfl⟩ | N9
  .obtain⟨r2,gX⟩:=Sh j' SK
   rw[XD j' SK] at hq
   have h3:=n4 i p o g ue hp ho hoa dY
   have h4:=(h.own i p o g hp ho jx dY).2
   rcases mX j' q g hq eC with h5 | h5
   .omega
   exact absurd h5 h3
  rw[hρ2 k N9] at hq
  rw[hF2 k N9] at hr
  exact h.inj i k p q o r g hp hq ho hr jx i_ dY eC
 .intro i p o g hp ho jx dY
  rcases eJ i with⟨j,hj,rfl⟩ | ue
  .obtain⟨o2,gw⟩:=Sh j hj
   have:=N7 j o2 gw o ho
   subst this
   rw[XD j hj] at hp
   rw[sf] at jx
   have h3:=h2.own j p o2 g hp gw jx dY
   refine⟨?_,h3.2⟩
   rcases mX j p g hp dY with h5 | h5
   .left;have:=h.ge;omega
   exact(Se g h5).1
  rw[hρ2 i ue] at hp
  rw[hF2 i ue] at ho
  have h3:=h.own i p o g hp ho jx dY
  exact⟨h3.1,Nat.lt_of_lt_of_le h3.2 jG.size⟩
 .intro b hb
  have h3:=c.hxo b hb
  refine .inl ⟨h.xlt b (h.xo b hb),h.xo b hb,fun hm=>?_⟩
  rcases(Se b hm).1 with h4 | h4
  .omega
  exact h3.2 h4
 .intro b hb
  rcases hb with⟨hb,_⟩ | ⟨_,hb⟩
  .exact Nat.lt_of_lt_of_le hb jG.size
  exact h2.xlt b hb
 refine⟨jG.os.trans hk.os,jG.tape.trans hk.tape,jG.output.trans hk.output,gI hk.size jG.size,fun b hb hm=>?_⟩
 rw[jG.block b (Nat.lt_of_lt_of_le hb hk.size) (fun mU=>?_)]
 .exact hk.block b hb hm
 rcases(Se b mU).1 with h4 | h4
 .omega
 exact hm h4
theorem ObRd.rwX {w:World} {X:Nat->Prop} {ρ:Places} {p:Place} {o:Ob} (h:ObRd w X ρ p o) (hr:o.rw=true) {g:Nat} (hg:p.b=some g):X g:=by
 cases o with
 | dead=>cases hr
 | row rw xs=>exact(h.2 g hg).1 hr
 | box rw cs=>exact(h.2 g hg).1 hr
 | tab n es=>exact h.2 g hg
theorem ObRd.roX {w:World} {X:Nat->Prop} {ρ:Places} {p:Place} {o:Ob} (h:ObRd w X ρ p o) (ha:o.alive) (hr:o.rw=false) {g:Nat} (hg:p.b=some g): ¬X g:=by
 intro hx;cases o with
 | dead=>exact ha
 | row rw xs=>have:=(h.2 g hg).2 hx;simp only[Ob.rw] at hr;rw[hr] at this;cases this
 | box rw cs=>have:=(h.2 g hg).2 hx;simp only[Ob.rw] at hr;rw[hr] at this;cases this
 | tab n es=>cases hr
theorem ObRd.closed {w:World} {X:Nat->Prop} {ρ ρ':Places} {p:Place} {o:Ob} (h:ObRd w X ρ p o) (hc:o.closed):ObRd w X ρ' p o:=by
 cases o with
 | dead=>trivial
 | row rw xs=>exact h
 | tab n es=>exact h
 | box rw cs=>
  obtain⟨⟨g,us,hg,hh,hs,h1,hr⟩,hf⟩:=h;refine⟨⟨g,us,hg,hh,hs,h1,fun i u x hu hx=>?_⟩,hf⟩;obtain⟨y,rfl⟩:=hc x (mem_of_getElem? hx);cases hr i u _ hu hx with
  | fv _ _ h=>exact .fv _ _ h
theorem B' {H:List Ob} {id:Nat} {x:PV} (h:x.refsTo id=false):W3 H id x=gW H x/\wc H id x=oD H x:=by
 cases x<;>simp only[PV.refsTo,qx,ne_eq] at h<;>simp[W3,wc,h]
theorem Gu {H:List Ob} {id:Nat}: ∀ {xs ys:List PV},wb H id xs=some ys->ys.length=xs.length/\ ∀ (i:Nat) y,ys[i]?=some y-> ∃ x,xs[i]?=some x/\W3 H id x=some y
 | [],ys,h=>by simp[wb] at h;subst h;simp
 | x::xs,ys,h=>by
  simp only[wb] at h;split at h
  .rename_i y ys' h1 h2;cases h;obtain⟨hl,hg⟩:=Gu h2;refine⟨by simp[hl],fun i z hz=>?_⟩;cases i with
   | zero=>simp at hz;subst hz;exact⟨x,rfl,h1⟩
   | succ i=>simp at hz ⊢;exact hg i z hz
  cases h
theorem Gv {H:List Ob} {id:Nat}: ∀ {xs ys:List PV},wb H id xs=some ys-> ∀ j∈xs.flatMap (wc H id),j<H.length
 | [],ys,h=>by simp
 | x::xs,ys,h=>by
  simp only[wb] at h;split at h
  .rename_i y ys' h1 h2;intro j hj;rw[List.flatMap_cons,qr] at hj;rcases hj with hj | hj
   .cases hr:x.refsTo id with
    | false=>
     obtain⟨e1,e2⟩:=B' (H:=H) hr;rw[e1] at h1;rw[e2] at hj;exact Lb h1 j hj
    | true=>cases x<;>simp[PV.refsTo] at hr<;>simp[wc,hr] at hj
   exact Gv h2 j hj
  cases h
theorem Ue {c:gD} {w:World} {X X':Nat->Prop} {ρ:Places} {F H:List Ob} (h:HRd c w X ρ F) (hH: ∀ (j:Nat) o,H[j]?=some o->F[j]?=some o) {vs:Array Value} {xs ys:List PV} {id:Nat} {p:Place} (hp:ρ[id]?=some (some p))
 (hv:PRds w X ρ vs xs) (hf:wb H id xs=some ys) (hX: ∀ b,X' b->X b)
 (hn: ∀ j∈xs.flatMap (wc H id),∀ p o g,ρ[j]?=some (some p)->F[j]?=some o->o.alive->p.b=some g-> ¬X' g):PRds w X' [some p] vs ys:=by
 obtain⟨hl,hg⟩:=Gu hf
 refine⟨by rw[hl];exact hv.1,fun i v y hi hy=>?_⟩
 obtain⟨x,hx,LD⟩:=hg i y hy
 have hvx:=hv.2 i v x hi hx
 cases hr:x.refsTo id with
 | false=>
  obtain⟨e1,e2⟩:=B' (H:=H) hr;rw[e1] at LD;refine QP h hH [some p] hvx LD hX (fun k hk=>hn k ?_);rw[List.mem_flatMap];exact⟨x,mem_of_getElem? hx,by rw[e2];exact hk⟩
 | true=>
  cases hvx with
  | ptr j i off g q hq hg=>
   simp only[PV.refsTo,beq_iff_eq] at hr;subst hr;rw[hp] at hq;cases hq;simp only[W3,if_true,qo] at LD;subst LD;exact .ptr 0 i off g p rfl hg
  | lsl0 j q hq hg=>
   simp only[PV.refsTo,beq_iff_eq] at hr;subst hr;rw[hp] at hq;cases hq;simp only[W3,if_true,qo] at LD;subst LD;exact .lsl0 0 p rfl hg
  | lsl j off len o g q hq hg hl ho=>
   simp only[PV.refsTo,beq_iff_eq] at hr;subst hr;rw[hp] at hq;cases hq;simp only[W3,if_true,qo] at LD;subst LD;exact .lsl 0 off len o g p rfl hg hl ho
  | _=>simp[PV.refsTo] at hr
theorem yW {c:gD} {w:World} {X:Nat->Prop} {ρ:Places} {H D R:List Ob} {k:FuncId} {args:List PV} {vs:Array Value} {v:PV} {H':List Ob} (h:HRd c w X ρ (H++(D++R)))
 (hD: ∀ id,H.length<=id->id<H.length+D.length->ρ[id]?=some none) (fA:PRds w X ρ vs args) (JF:CallRel P H k args v H') (aD:H'.length=H.length+D.length):
 YE P k/\Calls P k vs w fun e w'=> ∃ u X' ρ',e= .returned u/\Stp c w w' X X' ρ ρ'/\w.drawn<=w'.drawn/\HRd c w' X' ρ' (H'++R)/\PRd w' X' ρ' u v/\ ∀ id,(id<H.length\/H.length+D.length<=id)->ρ'[id]?=ρ[id]?:=by
 cases JF with
 | pure args' obs res hf hd=>
  obtain⟨hgo,hd⟩:=hd;refine⟨hgo,?_⟩;unfold shutAs at aD ⊢;rw[qe,a8,List.length_map] at aD;have hDl:D.length=obs.length:=by omega
  have l_:=Gl hf;obtain⟨X1,h1,qX,kJ⟩:=h.shutIds (args.flatMap (oD H));rw[eP _ l_] at h1;have VD:(shutIds (args.flatMap (oD H)) H).length=H.length:=a8 _ _;generalize hS:shutIds (args.flatMap (oD H)) H=S at*;have tP:PRds w X1 [] vs args':=T8 h bx [] fA hf qX kJ;let c1:gD:=⟨w,fun _=>False,X1,[],fun b hb=>⟨h1.xlt b hb,fun hm=>hm⟩⟩;have h01:HRd c1 w X1 [] []:=⟨rfl,by simp,by simp,by simp,fun b hb=>hb,h1.xlt,qp _,Places.Le.refl _⟩;refine(hd c1 X1 [] vs h01 (fun b hb=>hb.elim) tP).mono ?_;rintro e w' ⟨u,X2,ρ2,rfl,jG,h2,hu,_,jH⟩;have qL:ρ2.length=obs.length:=h2.len;have zA:ρ.length=H.length+(D.length+R.length):=by rw[h1.len];simp[VD]
  let ρ3:Places:=ρ.take H.length++ρ2++ρ.drop (H.length+obs.length);have Ci: ∀ i,ρ3[i]?=if i<H.length then ρ[i]? else if i<H.length+obs.length then ρ2[i - H.length]? else ρ[i]?:=by
   intro i;have:=i9 (l:=ρ) (new:=ρ2) (off:=H.length) (by omega) i;simp only[eM,qL] at this;exact this
  have hF: ∀ i,((S++obs.map (relocOb (H.length+ ·)))++R)[i]?=if i<H.length then(S++(D++R))[i]? else if i<H.length+obs.length then(obs.map (relocOb (H.length+ ·)))[i - H.length]? else(S++(D++R))[i]?:=by
   intro i;by_cases hi:i<H.length
   .rw[if_pos hi,append_assoc,qi (by omega),qi (by omega)]
   rw[if_neg hi];by_cases iq:i<H.length+obs.length
   .rw[if_pos iq,append_assoc,getElem?_append_right (by omega),qi (by simp;omega),VD]
   rw[if_neg iq,append_assoc,getElem?_append_right (by omega),getElem?_append_right (by simp;omega),getElem?_append_right (by omega),getElem?_append_right (by omega)];congr 1;simp;omega
  have dF: ∀ i,(∀ j,j<obs.length->H.length+j≠i)->i<H.length\/H.length+obs.length<=i:=by
   intro i hi;by_cases h3:i<H.length
   .exact .inl h3
   right;apply Nat.le_of_not_lt;intro h4;exact hi (i - H.length) (by omega) (by omega)
  have dT:ρ.Le ρ3:=by
   intro i p hp;rw[Ci];by_cases hi:i<H.length
   .rw[if_pos hi];exact hp
   rw[if_neg hi];by_cases iq:i<H.length+obs.length
   .rw[hD i (by omega) (by omega)] at hp;cases hp
   rw[if_neg iq];exact hp
  obtain⟨X3,h3,hs3,Xw⟩:=B_ (c:=c) (c1:=c1) (w:=w) (w':=w') (X1:=X1) (X2:=X2) (ρ:=ρ) (ρ2:=ρ2) (ρ3:=ρ3) (F:=S++(D++R)) (F':=(S++obs.map (relocOb (H.length+ ·)))++R) (H1:=obs) (H.length+ ·) rfl h1 jG h2
   (fun b hb _=>hb) (fun b hb=>hb.elim) (fun b hb=>hb.elim) (fun i p o g _ _ _ _ _ hm=>hm) (fun j p g hp hg=> .inl (jH j p (eB _) hp g hg))
   (by simp[ρ3,qL,VD,zA];omega)
   (fun j o hj=>by
    have lD:=(List.getElem?_eq_some_iff.1 hj).1;rw[hF,if_neg (by omega),if_pos (by omega),Nat.add_sub_cancel_left,List.getElem?_map,hj];rfl)
   (fun i hi=>by
    rw[hF];rcases dF i hi with h5 | h5
    .rw[if_pos h5]
    rw[if_neg (by omega),if_neg (by omega)])
   (fun j hj=>by rw[Ci,if_neg (by omega),if_pos (by omega),Nat.add_sub_cancel_left])
   (fun i hi=>by
    rw[Ci];rcases dF i hi with h5 | h5
    .rw[if_pos h5]
    rw[if_neg (by omega),if_neg (by omega)]) dT
  refine⟨u,X3,ρ3,rfl,(Stp.same_world qX).trans hs3,jG.drawn,h3,Xw u res hu,fun id dk=>?_⟩;rw[Ci];rcases dk with h5 | h5
  .rw[if_pos h5]
  .rw[if_neg (by omega),if_neg (by omega)]
 | lend id args' ob ob' obs res ho hrw fC afU hf hs hd=>
  obtain⟨hgo,hd⟩:=hd;refine⟨hgo,?_⟩;unfold shutBs at aD hs ⊢;rw[qe,length_set,a8,List.length_map] at aD;have hDl:D.length=obs.length:=by omega
  have zS:id<H.length:=(List.getElem?_eq_some_iff.1 ho).1;obtain⟨p,hp⟩: ∃ p,ρ[id]?=some (some p):=by
   rw[qpb] at afU;obtain⟨a,ha,har⟩:=afU;obtain⟨i,hi⟩:=getElem?_of_mem ha;have aH:i<vs.size:=by rw[fA.1];exact(List.getElem?_eq_some_iff.1 hi).1
   have SC:=fA.2 i vs[i] a (by simp[aH]) hi;generalize vs[i]=ui at SC;cases SC with
   | ptr j i off g q hq hg=>simp only[PV.refsTo,beq_iff_eq] at har;subst har;exact⟨q,hq⟩
   | lsl0 j q hq hg=>simp only[PV.refsTo,beq_iff_eq] at har;subst har;exact⟨q,hq⟩
   | lsl j off len o g q hq hg hl ho=>simp only[PV.refsTo,beq_iff_eq] at har;subst har;exact⟨q,hq⟩
   | _=>simp[PV.refsTo] at har
  have l_: ∀ j∈args.flatMap (wc H id),j<H.length:=Gv hf;obtain⟨X1,h1,qX,kJ⟩:=h.shutIds (args.flatMap (wc H id));rw[eP _ l_] at h1;have VD:(shutIds (args.flatMap (wc H id)) H).length=H.length:=a8 _ _;generalize hS:shutIds (args.flatMap (wc H id)) H=S at*;have VJ:(S++(D++R))[id]?=some ob:=by rw[qi (by omega)];exact hs
  have fU:=h1.ob id p ob hp VJ;have hXp: ∀ g,p.b=some g->X1 g:=fun g hg=>fU.rwX hrw hg
  let c1:gD:=⟨w,fun b=>p.b=some b,fun b=>X1 b/\p.b≠some b,[],fun b hb=>⟨h1.xlt b hb.1,hb.2⟩⟩;have h01:HRd c1 w X1 [some p] [ob]:=by
   refine⟨rfl,?_,?_,?_,fun b hb=>hb.1,h1.xlt,qp _,fun i p hp=>by simp[c1] at hp⟩
   .intro i q o hq gw;cases i with
    | zero=>
     simp only[List.getElem?_cons_zero,qo] at hq gw;subst hq;subst gw;exact fU.closed fC
    | succ i=>simp at hq
   .intro i j q1 q2 o1 o2 g Hs Jr jx gw _ _ _ _;cases i with
    | zero=>cases j with
     | zero=>rfl
     | succ j=>simp at Jr
    | succ i=>simp at Hs
   intro i q o g hq gw LB hg;cases i with
   | zero=>
    simp only[List.getElem?_cons_zero,qo] at hq;subst hq;exact⟨.inr hg,(h1.own id _ ob g hp VJ hrw hg).2⟩
   | succ i=>simp at hq
  have tP:PRds w X1 [some p] vs args':=Ue h bx hp fA hf qX kJ;refine(hd c1 X1 [some p] vs h01 (fun b hb=>⟨0,p,rfl,hb⟩) tP).mono ?_;rintro e w' ⟨u,X2,ρ2,rfl,jG,h2,hu,akv,jH⟩;have qL:ρ2.length=obs.length+1:=by simpa using h2.len
  have afV:ρ2[0]?=some (some p):=akv 0 p rfl;have zA:ρ.length=H.length+(D.length+R.length):=by rw[h1.len];simp[VD]
  let ρ3:Places:=ρ.take H.length++ρ2.drop 1++ρ.drop (H.length+obs.length);have Ci: ∀ i,ρ3[i]?=if i<H.length then ρ[i]? else if i<H.length+obs.length then ρ2[i - H.length+1]? else ρ[i]?:=by
   intro i;have Lz:(ρ2.drop 1).length=obs.length:=by simp[qL]
   have:=i9 (l:=ρ) (new:=ρ2.drop 1) (off:=H.length) (by omega) i;simp only[eM,Lz] at this;rw[this];simp only[List.getElem?_drop,Nat.add_comm 1]
  have hF: ∀ i,((S.set id (relocOb (lent id H.length) ob')++obs.map (relocOb (lent id H.length)))++R)[i]?=if i=id then some (relocOb (lent id H.length) ob') else if i<H.length then(S++(D++R))[i]? else
   if i<H.length+obs.length then(obs.map (relocOb (lent id H.length)))[i - H.length]? else(S++(D++R))[i]?:=by
   intro i
   by_cases uj:i=id
   .subst uj
    rw[if_pos rfl,append_assoc,qi (by simp;omega),qv (by omega)]
   rw[if_neg uj]
   by_cases hi:i<H.length
   .rw[if_pos hi,append_assoc,qi (by simp;omega),getElem?_set_ne (Ne.symm uj),qi (by omega)]
   rw[if_neg hi]
   by_cases iq:i<H.length+obs.length
   .rw[if_pos iq,append_assoc,getElem?_append_right (by simp;omega),qi (by simp;omega),length_set,VD]
   rw[if_neg iq,append_assoc,getElem?_append_right (by simp;omega),getElem?_append_right (by simp;omega),getElem?_append_right (by omega),getElem?_append_right (by omega)]
   congr 1
   simp
   omega
  have dF: ∀ i,(∀ j,j<(ob'::obs).length->lent id H.length j≠i)->i≠id/\(i<H.length\/H.length+obs.length<=i):=by
   intro i hi;refine⟨fun he=>hi 0 (by simp) he.symm,?_⟩;by_cases h3:i<H.length
   .exact .inl h3
   right;apply Nat.le_of_not_lt;intro h4;exact hi (i - H.length+1) (by simp;omega) (by simp only[lent];omega)
  have dT:ρ.Le ρ3:=by
   intro i q hq;rw[Ci];by_cases hi:i<H.length
   .rw[if_pos hi];exact hq
   rw[if_neg hi];by_cases iq:i<H.length+obs.length
   .rw[hD i (by omega) (by omega)] at hq;cases hq
   rw[if_neg iq];exact hq
  obtain⟨X3,h3,hs3,Xw⟩:=B_ (c:=c) (c1:=c1) (w:=w) (w':=w') (X1:=X1) (X2:=X2) (ρ:=ρ) (ρ2:=ρ2) (ρ3:=ρ3) (F:=S++(D++R)) (F':=(S.set id (relocOb (lent id H.length) ob')++obs.map (relocOb (lent id H.length)))++R) (H1:=ob'::obs) (lent id H.length) rfl h1 jG h2
   (fun b hb hm=>⟨hb,hm⟩) (fun b hb=>hXp b hb) (fun b hb=>h1.own id p ob b hp VJ hrw hb)
   (fun i q o g hi hq gw ha hg hm=>by
    have cX:=(dF i hi).1;cases Hm:o.rw with
    | true=>exact cX (h1.inj i id q p o ob g hq hp gw VJ Hm hrw hg hm)
    | false=>
     have oT:=h1.ob i q o hq gw;exact(oT.roX ha Hm hg) (hXp g hm))
   (fun j q g hq hg=>by
    cases j with
    | zero=>rw[afV] at hq;cases hq;exact .inr hg
    | succ j=>exact .inl (jH (j+1) q (by simp) hq g hg))
   (by simp[ρ3,qL,VD,zA];omega)
   (fun j o hj=>by
    have lD:=(List.getElem?_eq_some_iff.1 hj).1;cases j with
    | zero=>
     show((S.set id (relocOb (lent id H.length) ob')++obs.map (relocOb (lent id H.length)))++R)[id]?=_;rw[hF,if_pos rfl];simp at hj;rw[hj]
    | succ j=>
     simp only[length_cons] at lD;show((S.set id (relocOb (lent id H.length) ob')++obs.map (relocOb (lent id H.length)))++R)[H.length+j]?=_;rw[hF,if_neg (show¬(H.length+j=id) by omega),if_neg (show¬(H.length+j<H.length) by omega),if_pos (show H.length+j<H.length+obs.length by omega),Nat.add_sub_cancel_left,List.getElem?_map];simp at hj;rw[hj];rfl)
   (fun i hi=>by
    rw[hF];obtain⟨h4,h5 | h5⟩:=dF i hi
    .rw[if_neg h4,if_pos h5]
    rw[if_neg h4,if_neg (by omega),if_neg (by omega)])
   (fun j hj=>by
    cases j with
    | zero=>
     show ρ3[id]?=_;rw[Ci,if_pos zS,hp,afV]
    | succ j=>
     simp only[length_cons] at hj;show ρ3[H.length+j]?=_;rw[Ci,if_neg (by omega),if_pos (by omega),Nat.add_sub_cancel_left])
   (fun i hi=>by
    rw[Ci];obtain⟨h4,h5 | h5⟩:=dF i hi
    .rw[if_pos h5]
    rw[if_neg (by omega),if_neg (by omega)]) dT
  refine⟨u,X3,ρ3,rfl,(Stp.same_world qX).trans hs3,jG.drawn,h3,Xw u res hu,fun j hj=>?_⟩;rw[Ci];rcases hj with h5 | h5
  .rw[if_pos h5]
  rw[if_neg (by omega),if_neg (by omega)]
end
end Go.AM
namespace Go.AM
section
variable {P:Program} {T:Tab}
theorem Ca {H:List Ob} {ρ:Operand->PV} {op:Op} {r:Res} (h:cj T H ρ op=some r):H.length<=r.heap.length:=by
 unfold cj at h;cases op<;>simp only[Res.pure,Res.if] at h
 all_goals repeat' (split at h)
 all_goals first
  | (cases h;done)
  | (cases h;simp[gU,a8];done)
  | skip
 all_goals
  rename_i bM;cases h;unfold storeAt at bM
  repeat' (split at bM)
  all_goals first
   | (cases bM;done)
   | (cases bM;simp[gU,a8])
theorem Cb {H:List Ob} {b:Builtin} {ts:List TypeId} {vs:List PV} {r:Res} (h:h_ T H b ts vs=some r):H.length<=r.heap.length:=by
 unfold h_ at h;simp only[Res.pure] at h
 repeat' (split at h)
 all_goals first
  | (cases h;done)
  | (cases h;simp)
theorem vR {H:List Ob} {k:FuncId} {args:List PV} {v:PV} {H':List Ob} (h:CallRel P H k args v H'):H.length<=H'.length:=by
 cases h with
 | pure=>simp[shutAs,a8]
 | lend=>simp[shutBs,a8]
theorem HRd.room {c:gD} {w:World} {X:Nat->Prop} {ρ:Places} {H:List Ob} (h:HRd c w X ρ H) (n:Nat):
 HRd c w X (ρ++replicate n none) (H++(replicate n .dead++[]))/\ ∀ id,H.length<=id->id<H.length+(replicate n Ob.dead).length->(ρ++replicate n none)[id]?=some none:=by
 have h1:=h.extend (replicate n .dead)
 rw[qib] at h1
 refine⟨by simpa using h1,fun id h2 h3=>?_⟩
 rw[qib] at h3
 rw[getElem?_append_right (by rw[h.len];exact h2),List.getElem?_replicate,if_pos (by rw[h.len];omega)]
theorem EnvRd.mono {w:World} {X:Nat->Prop} {ρ ρ':Places} {t:Array Value} {env:List PV} (h:EnvRd w X ρ t env) (hρ:ρ.Le ρ'):EnvRd w X ρ' t env:=
 ⟨h.1,fun i v x hv hx=>(h.2 i v x hv hx).mono (Same.refl X w) (fun _ _ h=>h) hρ⟩
theorem EnvRd.put {w:World} {X:Nat->Prop} {ρ:Places} {a:Act} {env:List PV} (h:EnvRd w X ρ a.tmps env) (d:Option Nat) {u:Value} {v:PV} (hu:PRd w X ρ u v):
 EnvRd w X ρ (a.put d u).tmps (match d with | some t=>env.set t v | none=>env):=by
 cases d with
 | none=>exact h
 | some t=>
  refine⟨by simp[Act.put,h.1],fun i v' x hv hx=>?_⟩;simp only[Act.put] at hv;by_cases hi:t=i
  .subst hi;have aH:t<a.tmps.size:=by have:=(Array.getElem?_eq_some_iff.1 hv).1;simpa using this
   simp[aH] at hv;have mT:t<env.length:=by rw[<-h.1];exact aH
   rw[qv mT] at hx;cases hx;subst hv;exact hu
  rw[Array.getElem?_setIfInBounds_ne hi] at hv;rw[getElem?_set_ne hi] at hx;exact h.2 i v' x hv hx
def adK (c:gD) (a:Act) (env:List PV) (d:Option Nat) (K:PV->List Ob->Prop) (next:Act->World->Prop):Prop:=
 ∀ v H u w' X' ρ',K v H->HRd c w' X' ρ' H->EnvRd w' X' ρ' a.tmps env->PRd w' X' ρ' u v->Keeps c w'->next (a.put d u) w'
theorem Cc {w:World} {o:Oper} {e:Operand->Value} {f:Operand} {args:Array Operand} {ts:Array TypeId} {k:FuncId} {u1 u2:Array Value}
 (ho:o.op= .call {callee:= .value f,args:=args,argTypes:=ts}) (hf:e f= .func (.func k) u1 u2) (hg:YE P k):(execOp e o).run P w= .ok (.enter k (u1++args.map e++u2)) w:=by
 obtain⟨fn,cd,h1,h2,h3⟩:=hg
 unfold execOp
 simp only[ho,resolve,hf,Deferred.ofValue,Sem.run_bind,Sem.run_pure,Result.andThen_ok,invoke,callFunc,run_program,h1,h2,h3,Option.isNone_some]
 simp
theorem yX (hT:cx P T) {o:Oper} {c:gD} {a:Act} {w:World} {X:Nat->Prop} {ρ:Places} {st:St} {K:PV->List Ob->Prop} {next:Act->World->Prop} {Q:Exit->Act->World->Prop}
 (h:WPop P T o.op st K) (hh:HRd c w X ρ st.heap) (he:EnvRd w X ρ a.tmps st.env) (hk:Keeps c w) (hn:adK c a st.env o.dst K next):o.wp P a w next Q:=by
 have fin: ∀ {r:Result Next} {v:PV} {H:List Ob} {ρ1:Places} {lo hi:Nat},ρ.Le ρ1->K v H->OpOK c w X ρ1 lo hi H r v->(execOp a.eval o).run P w=r->o.wp P a w next Q:=by
  intro r v H ρ1 lo hi dT hK ⟨u,w',X',ρ',hr,hs,v7,hu,_⟩ cT;have AV:w.drawn<=w'.drawn:=by
   rcases hr with hr | ⟨hr,_⟩
   .exact cA _ _ (cT.trans hr)
   exact cA _ _ (cT.trans hr)
  have lF:=hn v H u w' X' ρ' hK v7 ((he.mono dT).stp hs) hu ⟨hs.keeps hk.toKeepsB,gI hk.drawn AV⟩;unfold Oper.wp;rw[cT];rcases hr with hr | ⟨hr,rfl⟩
  .rw[hr];exact lF
  rw[hr];exact lF
 by_cases Hd: ∃ cl,o.op= .call cl
 .obtain⟨cl,ho⟩:=Hd
  rw[ho] at h
  simp only[WPop,WPcall] at h
  obtain⟨callee,args,ts⟩:=cl
  cases callee with
  | builtin b=>
   simp only at h;split at h
   .rename_i r hr;obtain⟨hc,hK⟩:=h;have aD:=Cb hr;obtain⟨h1,h2⟩:=hh.room (r.heap.length - st.heap.length);have dT:=Places.Le.append ρ (replicate (r.heap.length - st.heap.length) none);have bg:=QV hT b args ts (o:=o) (e:=a.eval) (ρv:=ev st.env) ho h1 h2 (fun x _=>qI (he.mono dT) x) hr hc (by simp;omega);rw[append_nil] at bg;exact fin dT hK bg rfl
   .exact h.elim
  | value f=>
   simp only at h;split at h
   .rename_i k pre post D1;obtain⟨v,H',JF,hK⟩:=h;have aD:=vR JF;obtain⟨h1,h2⟩:=hh.room (H'.length - st.heap.length);have dT:=Places.Le.append ρ (replicate (H'.length - st.heap.length) none);have hf:=qI (he.mono dT) f;have hfv: ∃ u1 u2,a.eval f= .func (.func k) u1 u2/\PRds w X (ρ++replicate (H'.length - st.heap.length) none) u1 pre/\PRds w X (ρ++replicate (H'.length - st.heap.length) none) u2 post:=by
     generalize ev st.env f=pf at hf D1;unfold F6 at D1;split at D1
     .split at D1
      .rename_i hz;cases D1;refine⟨_,_,hf.litInv,⟨by simp,fun i v x hv hx=>?_⟩,⟨by simpa using hz,fun i v x hv hx=>by simp at hx⟩⟩;rw[List.getElem?_map,Option.map_eq_some_iff] at hx;obtain⟨y,hy,rfl⟩:=hx;rw[Array.getElem?_toList,hv] at hy;cases hy;exact lh _
      cases D1
     .cases D1;generalize lG:a.eval f=uf at hf;cases hf with
      | fv _ _ Ou=>
       cases Ou with
       | fn _ u1 u2 c1 c2 h1 h2 r1 r2=>
        refine⟨u1,u2,rfl,⟨by simpa using h1,fun i v x hv hx=>?_⟩,⟨by simpa using h2,fun i v x hv hx=>?_⟩⟩
        .rw[List.getElem?_map,Option.map_eq_some_iff] at hx;obtain⟨y,hy,rfl⟩:=hx;exact .fv _ _ (r1 i v y hv hy)
        rw[List.getElem?_map,Option.map_eq_some_iff] at hx;obtain⟨y,hy,rfl⟩:=hx;exact .fv _ _ (r2 i v y hv hy)
     cases D1
    obtain⟨u1,u2,R8,Ch,Oa⟩:=hfv;have tT: ∀ {va vb:Array Value} {xa xb:List PV},PRds w X (ρ++replicate (H'.length - st.heap.length) none) va xa->PRds w X (ρ++replicate (H'.length - st.heap.length) none) vb xb->
     PRds w X (ρ++replicate (H'.length - st.heap.length) none) (va++vb) (xa++xb):=by
     intro va vb xa xb ⟨vn,Lv⟩ ⟨dY,eC⟩
     refine⟨by simp[vn,dY],fun i v x hv hx=>?_⟩
     by_cases hi:i<va.size
     .rw[Array.getElem?_append_left hi] at hv
      rw[qi (by rw[<-vn];exact hi)] at hx
      exact Lv i v x hv hx
     rw[Array.getElem?_append_right (by omega)] at hv
     rw[getElem?_append_right (by rw[<-vn];omega),<-vn] at hx
     exact eC _ v x hv hx
    have tP:PRds w X (ρ++replicate (H'.length - st.heap.length) none) (args.map a.eval) (args.toList.map (ev st.env)):=by
     refine⟨by simp,fun i v x hv hx=>?_⟩;simp at hv;obtain⟨y,hy,rfl⟩:=hv;rw[List.getElem?_map] at hx;simp only[Array.getElem?_toList,hy,Option.map_some,qo] at hx;subst hx;exact qI (he.mono dT) y
    obtain⟨hgo,JG⟩:=yW h1 h2 (tT (tT Ch tP) Oa) JF (by simp;omega);unfold Oper.wp;rw[Cc ho R8 hgo];refine JG.mono ?_;rintro e w' ⟨u,X',ρ',rfl,hs,AV,v7,hu,_⟩;rw[append_nil] at v7;exact hn v H' u w' X' ρ' hK v7 ((he.mono dT).stp hs) hu ⟨hs.keeps hk.toKeepsB,gI hk.drawn AV⟩
   .exact h.elim
  | invoke r m=>exact h.elim
 have ak: ∃ r,cj T st.heap (ev st.env) o.op=some r/\r.cond/\K r.val r.heap:=by
  unfold WPop at h;split at h
  .rename_i cl fC;exact absurd ⟨cl,fC⟩ Hd
  split at h
  .rename_i r hr;exact⟨r,hr,h.1,h.2⟩
  exact h.elim
 obtain⟨r,hr,hc,hK⟩:=ak
 have aD:=Ca hr
 obtain⟨h1,h2⟩:=hh.room (r.heap.length - st.heap.length)
 have dT:=Places.Le.append ρ (replicate (r.heap.length - st.heap.length) none)
 have bg:=Gs hT o.op (o:=o) (e:=a.eval) (ρv:=ev st.env) rfl h1 h2 (fun x _=>qI (he.mono dT) x) hr hc (by simp;omega)
 rw[append_nil] at bg
 exact fin dT hK bg rfl
theorem MW {w:World} {X:Nat->Prop} {ρ:Places} {ops:Array Oper} {tmps:Array Value} {env:List PV} (he:EnvRd w X ρ tmps env) {j t:Nat} (hj:(ops[j]?).bind (·.dst)=some t):
 (∀ b,env.getD t .any= .fv (.lit (.bool b))->yielded ops tmps j=some b)/\(env.getD t .any= .tup []->yielded ops tmps j=none):=by
 unfold yielded
 rw[hj]
 simp only[Option.bind_some]
 have key: ∀ x,env.getD t .any=x->x≠ .any-> ∃ v,tmps[t]?=some v/\PRd w X ρ v x:=by
  intro x hx cX;rw[qa] at hx;cases hg:env[t]? with
  | none=>rw[hg] at hx;exact absurd hx.symm cX
  | some y=>
   rw[hg] at hx;simp only[Option.getD_some] at hx;subst hx;have aH:t<tmps.size:=by rw[he.1];exact(List.getElem?_eq_some_iff.1 hg).1
   exact⟨tmps[t],by simp[aH],he.2 t _ _ (by simp[aH]) hg⟩
 constructor
 .intro b hb
  obtain⟨v,hv,hp⟩:=key _ hb (by simp)
  rw[hv,hp.litInv]
 intro hb
 obtain⟨v,hv,hp⟩:=key _ hb (by simp)
 rw[hv]
 cases hp;rfl
theorem pA (hT:cx P T) {ops:Array Oper} {Q:Exit->Act->World->Prop} {c:gD} {K:St->Prop} (hK: ∀ st a w,K st->SRd c st a w->Q .normal a w):
 ∀ (l:List Oper) (k:Nat) (st:St) (a:Act) (w:World),(∀ j,l[j]?=ops[k+j]?)->WPops P T ops l st K->SRd c st a w->wpOps P ops Q (range' k l.length) a w
 | [],k,st,a,w,_,h,hs=>hK st a w h hs
 | o::l,k,st,a,w,hl,h,hs=>by
  have h0:ops[k]?=some o:=by simpa using(hl 0).symm
  have Xn: ∀ j,l[j]?=ops[k+1+j]?:=fun j=>by
   have:=hl (j+1);rw[List.getElem?_cons_succ] at this;rw[this];congr 1;omega
  rw[length_cons,List.range'_succ];unfold wpOps;simp only[h0];obtain⟨X,ρ,hh,he,hd,hk⟩:=hs;have run: ∀ {Kp:St->Prop},WPop P T o.op st (fun v H=>WPops P T ops l (st.upd o.dst v H) K)->o.wp P a w (wpOps P ops Q (range' (k+1) l.length)) Q:=by
   intro _ hw;refine yX hT hw hh he hk (fun v H u w' X' ρ' hv v7 N_ hu w6=>?_);refine pA hT hK l (k+1) _ _ _ Xn hv ⟨X',ρ',v7,N_.put o.dst hu,?_,w6⟩;cases o.dst<;>exact hd
  have skip:WPops P T ops l (st.upd o.dst (.tup []) st.heap) K->wpOps P ops Q (range' (k+1) l.length) (a.put o.dst undef) w:=by
   intro hw;refine pA hT hK l (k+1) _ _ _ Xn hw ⟨X,ρ,hh,he.put o.dst (.tup #[] [] rfl (by simp)),?_,hk⟩;cases o.dst<;>exact hd
  unfold WPops at h;cases hg:o.guard with
  | none=>
   simp only[hg] at h;have ox:Region.wanted o (yielded ops a.tmps)=true:=by simp[Region.wanted,hg]
   rw[ox];exact .inl (run (Kp:=K) h)
  | some gd=>
   obtain⟨j,want⟩:=gd;simp only[hg] at h;cases hj:(ops[j]?).bind (·.dst) with
   | none=>rw[hj] at h;exact h.elim
   | some t=>
    rw[hj] at h;simp only at h;obtain⟨AG,vj⟩:=MW (ops:=ops) he hj;split at h
    .rename_i b hb;have hy:=AG b hb;by_cases JH:b=want
     .have ox:Region.wanted o (yielded ops a.tmps)=true:=by simp[Region.wanted,hg,hy,JH]
      rw[ox];exact .inl (run (Kp:=K) (h.1 JH))
     have ox:Region.wanted o (yielded ops a.tmps)=false:=by simp[Region.wanted,hg,hy,JH]
     rw[ox];exact skip (h.2 (by cases b<;>cases want<;>simp_all))
    .rename_i hb;have hy:=vj hb;have ox:Region.wanted o (yielded ops a.tmps)=false:=by simp[Region.wanted,hg,hy]
     rw[ox];exact skip h
    exact h.elim
theorem Cd (hT:cx P T) {ops:Array Oper} {Q:Exit->Act->World->Prop} {c:gD} {K:St->Prop} (hK: ∀ st a w,K st->SRd c st a w->Q .normal a w):
 ∀ (n:Nat) (listed:Array Bool) (st:St) (a:Act) (w:World),K8 P T ops n listed st K->SRd c st a w->wpAny P .any ops Q n listed a w
 | 0,listed,st,a,w,h,hs=>⟨h.1,hK st a w h.2 hs⟩
 | n+1,listed,st,a,w,h,hs=>by
  refine⟨fun e=>hK st a w (h.1 e) hs,fun i hi=>?_⟩;have h2:=h.2 i hi;unfold wpOp;cases ho:ops[i]? with
  | none=>rw[ho] at h2;exact h2.elim
  | some o=>
   rw[ho] at h2;obtain⟨hg,hw⟩:=h2;have ox:Region.wanted o (yielded ops a.tmps)=true:=by simp[Region.wanted,hg]
   simp only[ox,if_true];obtain⟨X,ρ,hh,he,hd,hk⟩:=hs;refine .inl (yX hT hw hh he hk (fun v H u w' X' ρ' hv v7 N_ hu w6=>?_));refine Cd hT hK n _ _ _ _ hv ⟨X',ρ',v7,N_.put o.dst hu,?_,w6⟩;cases o.dst<;>exact hd
end
end Go.AM
namespace Go.AM
section
variable {P:Program} {T:Tab}
theorem yY (hT:cx P T) {o:Oper} {c:gD} {a:Act} {w:World} {X:Nat->Prop} {ρ:Places} {s:St} {D R:List Ob} {v:PV} {H':List Ob} {next:Act->World->Prop} {Q:Exit->Act->World->Prop}
 (h:WPop P T o.op s fun v' H''=>v'=v/\H''=H') (hh:HRd c w X ρ (s.heap++(D++R))) (hD: ∀ id,s.heap.length<=id->id<s.heap.length+D.length->ρ[id]?=some none) (aD:H'.length=s.heap.length+D.length)
 (qZ: ∀ x∈o.op.operands,PRd w X ρ (a.eval x) (ev s.env x))
 (hn: ∀ u w' X' ρ',Stp c w w' X X' ρ ρ'->w.drawn<=w'.drawn->HRd c w' X' ρ' (H'++R)->PRd w' X' ρ' u v->(∀ id,(id<s.heap.length\/s.heap.length+D.length<=id)->ρ'[id]?=ρ[id]?)->next (a.put o.dst u) w'):o.wp P a w next Q:=by
 have fin: ∀ {r:Result Next},OpOK c w X ρ s.heap.length (s.heap.length+D.length) (H'++R) r v->(execOp a.eval o).run P w=r->o.wp P a w next Q:=by
  intro r ⟨u,w',X',ρ',hr,hs,v7,hu,dF⟩ cT;have AV:w.drawn<=w'.drawn:=by
   rcases hr with hr | ⟨hr,_⟩
   .exact cA _ _ (cT.trans hr)
   exact cA _ _ (cT.trans hr)
  have lF:=hn u w' X' ρ' hs AV v7 hu dF;unfold Oper.wp;rw[cT];rcases hr with hr | ⟨hr,rfl⟩
  .rw[hr];exact lF
  rw[hr];exact lF
 by_cases Hd: ∃ cl,o.op= .call cl
 .obtain⟨cl,ho⟩:=Hd
  rw[ho] at h qZ
  simp only[WPop,WPcall] at h
  obtain⟨callee,args,ts⟩:=cl
  cases callee with
  | builtin b=>
   simp only at h;split at h
   .rename_i r hr;obtain⟨hc,rfl,rfl⟩:=h;exact fin (QV hT b args ts (o:=o) (e:=a.eval) (ρv:=ev s.env) ho hh hD (fun x hx=>qZ x (by simp[Op.operands,Call.operands];exact hx)) hr hc aD) rfl
   .exact h.elim
  | value f=>
   simp only at h;split at h
   .rename_i k pre post D1;obtain⟨v1,H1,JF,rfl,rfl⟩:=h;have hf:=qZ f (by simp[Op.operands,Call.operands]);have hfv: ∃ u1 u2,a.eval f= .func (.func k) u1 u2/\PRds w X ρ u1 pre/\PRds w X ρ u2 post:=by
     generalize ev s.env f=pf at hf D1;unfold F6 at D1;split at D1
     .split at D1
      .rename_i hz;cases D1;refine⟨_,_,hf.litInv,⟨by simp,fun i v x hv hx=>?_⟩,⟨by simpa using hz,fun i v x hv hx=>by simp at hx⟩⟩;rw[List.getElem?_map,Option.map_eq_some_iff] at hx;obtain⟨y,hy,rfl⟩:=hx;rw[Array.getElem?_toList,hv] at hy;cases hy;exact lh _
      cases D1
     .cases D1;generalize lG:a.eval f=uf at hf;cases hf with
      | fv _ _ Ou=>
       cases Ou with
       | fn _ u1 u2 c1 c2 h1 h2 r1 r2=>
        refine⟨u1,u2,rfl,⟨by simpa using h1,fun i v x hv hx=>?_⟩,⟨by simpa using h2,fun i v x hv hx=>?_⟩⟩
        .rw[List.getElem?_map,Option.map_eq_some_iff] at hx;obtain⟨y,hy,rfl⟩:=hx;exact .fv _ _ (r1 i v y hv hy)
        rw[List.getElem?_map,Option.map_eq_some_iff] at hx;obtain⟨y,hy,rfl⟩:=hx;exact .fv _ _ (r2 i v y hv hy)
     cases D1
    obtain⟨u1,u2,R8,Ch,Oa⟩:=hfv;have tT: ∀ {va vb:Array Value} {xa xb:List PV},PRds w X ρ va xa->PRds w X ρ vb xb->PRds w X ρ (va++vb) (xa++xb):=by
     intro va vb xa xb ⟨vn,Lv⟩ ⟨dY,eC⟩;refine⟨by simp[vn,dY],fun i v x hv hx=>?_⟩;by_cases hi:i<va.size
     .rw[Array.getElem?_append_left hi] at hv;rw[qi (by rw[<-vn];exact hi)] at hx;exact Lv i v x hv hx
     rw[Array.getElem?_append_right (by omega)] at hv;rw[getElem?_append_right (by rw[<-vn];omega),<-vn] at hx;exact eC _ v x hv hx
    have tP:PRds w X ρ (args.map a.eval) (args.toList.map (ev s.env)):=by
     refine⟨by simp,fun i v x hv hx=>?_⟩;simp at hv;obtain⟨y,hy,rfl⟩:=hv;rw[List.getElem?_map] at hx;simp only[Array.getElem?_toList,hy,Option.map_some,qo] at hx;subst hx;exact qZ y (by simp[Op.operands,Call.operands];exact .inr (Array.mem_of_getElem? hy))
    obtain⟨hgo,JG⟩:=yW hh hD (tT (tT Ch tP) Oa) JF aD;unfold Oper.wp;rw[Cc ho R8 hgo];refine JG.mono ?_;rintro e w' ⟨u,X',ρ',rfl,hs,AV,v7,hu,dF⟩;exact hn u w' X' ρ' hs AV v7 hu dF
   .exact h.elim
  | invoke r m=>exact h.elim
 have ak: ∃ r,cj T s.heap (ev s.env) o.op=some r/\r.cond/\r.val=v/\r.heap=H':=by
  unfold WPop at h;split at h
  .rename_i cl fC;exact absurd ⟨cl,fC⟩ Hd
  split at h
  .rename_i r hr;exact⟨r,hr,h.1,h.2⟩
  exact h.elim
 obtain⟨r,hr,hc,rfl,rfl⟩:=ak
 exact fin (Gs hT o.op (o:=o) (e:=a.eval) (ρv:=ev s.env) rfl hh hD qZ hr hc aD) rfl
theorem Ce {op:Op} {s:St} {K:PV->List Ob->Prop} (h:WPop P T op s K): ∃ v H',WPop P T op s (fun v' H''=>v'=v/\H''=H')/\K v H':=by
 unfold WPop at h;split at h
 .rename_i c;unfold WPcall at h;split at h
  .rename_i b hb;split at h
   .rename_i r hr;exact⟨r.val,r.heap,by simp only[WPop,WPcall,hb,hr];exact⟨h.1,cW,cW⟩,h.2⟩
   exact h.elim
  .rename_i f hf;split at h
   .rename_i k pre post D1;obtain⟨v,H',JF,hK⟩:=h;exact⟨v,H',by simp only[WPop,WPcall,hf,D1];exact⟨v,H',JF,rfl,rfl⟩,hK⟩
   exact h.elim
  exact h.elim
 rename_i qY;split at h
 .rename_i r hr;refine⟨r.val,r.heap,?_,h.2⟩;unfold WPop;split
  .rename_i c;exact absurd rfl (qY c)
  rw[hr];exact⟨h.1,rfl,rfl⟩
 exact h.elim
theorem Gw {op:Op} {s:St} {v:PV} {H':List Ob} (h:WPop P T op s fun v' H''=>v'=v/\H''=H'):s.heap.length<=H'.length:=by
 unfold WPop at h;split at h
 .rename_i c;unfold WPcall at h;split at h
  .split at h
   .rename_i r hr;rw[<-h.2.2];exact Cb hr
   exact h.elim
  .split at h
   .obtain⟨v,H',JF,_,rfl⟩:=h;exact vR JF
   exact h.elim
  exact h.elim
 split at h
 .rename_i r hr;rw[<-h.2.2];exact Ca hr
 exact h.elim
theorem Dt (hT:cx P T) {op:Op} (h0:ck op=0) {w:World} {X:Nat->Prop} {ρ:Places} {s:St} {v:PV} {H':List Ob} {o:Oper} (ho:o.op=op) {e:Operand->Value} (h:WPop P T op s fun v' H''=>v'=v/\H''=H')
 (qZ: ∀ x∈op.operands,PRd w X ρ (e x) (ev s.env x)):H'=s.heap/\ ∃ u,(execOp e o).run P w= .ok (.value u) w/\PRd w X ρ u v:=by
 cases op<;>simp only[ck,reduceCtorEq] at h0<;>try first | (cases h0;done) | (split at h0<;>cases h0;done)
 case move x=>
  simp only[WPop,cj,Res.pure] at h;obtain⟨_,rfl,rfl⟩:=h;exact⟨rfl,e x,by simp[execOp,ho],qZ x (by simp[Op.operands])⟩
 case assign x=>
  simp only[WPop,cj,Res.pure] at h;obtain⟨_,rfl,rfl⟩:=h;exact⟨rfl,e x,by simp[execOp,ho],qZ x (by simp[Op.operands])⟩
 case extract x ix=>
  have hx:=qZ x (by simp[Op.operands]);simp only[WPop,cj] at h;cases hv:ev s.env x with
  | tup vs=>
   rw[hv] at h hx;simp only at h;cases fA:vs[ix]? with
   | none=>rw[fA] at h;exact h.elim
   | some y=>
    rw[fA] at h;simp only[Res.pure] at h;obtain⟨_,rfl,rfl⟩:=h;generalize hu:e x=u at hx;cases hx with
    | tup us _ hn hr=>
     have aH:ix<us.size:=by rw[hn];exact(List.getElem?_eq_some_iff.1 fA).1
     exact⟨rfl,us[ix],by simp[execOp,ho,hu,Instr.extract,Array.getElem?_eq_getElem aH],hr ix _ _ (Array.getElem?_eq_getElem aH) fA⟩
  | _=>rw[hv] at h;exact h.elim
 case binOp bop t x y t'=>
  have hx:=qZ x (by simp[Op.operands]);have hy:=qZ y (by simp[Op.operands]);simp only[WPop] at h;split at h
  .rename_i r hr;obtain⟨hc,rfl,rfl⟩:=h;exact yP hT bop t x y t' ho hx hy hr hc
  exact h.elim
end
end Go.AM
namespace Go.AM
section
variable {P:Program} {T:Tab} {ops:Array Oper}
def rk (ops:Array Oper) (s:St) (o:Oper):Option Bool:=
 match o.guard with
 | none=>some true
 | some (j,want)=>match (ops[j]?).bind (·.dst) with
  | some t=>match s.get t with
   | .fv (.lit (.bool b))=>some (b==want)
   | .tup []=>some false
   | _=>none
  | none=>none
def Step1 (P:Program) (T:Tab) (ops:Array Oper) (o:Oper) (s s':St):Prop:=
 (rk ops s o=some true/\ ∃ v H' ids,(WPop P T o.op s fun v' H''=>v'=v/\H''=H')/\(a9 o.op=true\/(ids=[]/\ ∃ obs,H'=s.heap++obs))/\s'=s.upd o.dst v (shutIds ids H'))\/
 (rk ops s o=some false/\s'=s.upd o.dst (.tup []) s.heap)
def Step2 (P:Program) (T:Tab) (ops:Array Oper) (o:Oper) (s s':St) (m:List Nat):Prop:=
 (rk ops s o=some true/\ ∃ v H' ids,(WPop P T o.op s fun v' H''=>v'=v/\H''=H')/\(a9 o.op=true\/(ids=[]/\ ∃ obs,H'=s.heap++obs))/\s'=s.upd o.dst v (shutIds ids H')/\m=mark (ev s.env) o.op++ids)\/
 (rk ops s o=some false/\s'=s.upd o.dst (.tup []) s.heap)
theorem Step2.one {o:Oper} {s s':St} {m:List Nat} (h:Step2 P T ops o s s' m):Step1 P T ops o s s':=by
 rcases h with⟨h1,v,H',ids,h2,h3,h4,_⟩ | h
 .exact .inl ⟨h1,v,H',ids,h2,h3,h4⟩
 exact .inr h
theorem adL {K:St->List (List Nat)->Prop}: ∀ (l:List Oper) (sh tr:List (List Nat)) (st:St),WPdrawS P T ops l sh tr st K->
 ∃ (S:Nat->St) (tl:List (List Nat)),S 0=st/\(∀ (j:Nat) o,l[j]?=some o->Step2 P T ops o (S j) (S (j+1)) (tl.getD j []))/\K (S l.length) (tr++tl)
 | [],sh,tr,st,h=>⟨fun _=>st,[],rfl,by simp,by rw[append_nil];exact h⟩
 | o::l,sh,tr,st,h=>by
  have fin: ∀ s' m,Step2 P T ops o st s' m->WPdrawS P T ops l sh.tail (tr++[m]) s' K-> ∃ (S:Nat->St) (tl:List (List Nat)),S 0=st/\(∀ (j:Nat) o',(o::l)[j]?=some o'->Step2 P T ops o' (S j) (S (j+1)) (tl.getD j []))/\K (S (o::l).length) (tr++tl):=by
   intro s' m hs hw;obtain⟨S,tl,h0,h1,h2⟩:=adL l sh.tail (tr++[m]) s' hw;refine⟨fun j=>match j with | 0=>st | j+1=>S j,m::tl,rfl,fun j o' hj=>?_,by rw[append_assoc] at h2;exact h2⟩
   cases j with
   | zero=>simp at hj;subst hj;simp only[h0];exact hs
   | succ j=>exact h1 j o' (by simpa using hj)
  unfold WPdrawS at h;cases hg:o.guard with
  | none=>
   simp only[hg] at h;obtain⟨v,H',h1,h2,h3⟩:=Ce h;exact fin _ _ (.inl ⟨by simp[rk,hg],v,H',_,h1,h2,rfl,rfl⟩) h3
  | some gd=>
   obtain⟨j,want⟩:=gd;simp only[hg] at h;cases hj:(ops[j]?).bind (·.dst) with
   | none=>rw[hj] at h;exact h.elim
   | some t=>
    rw[hj] at h;simp only at h;split at h
    .rename_i b hb;by_cases JH:b=want
     .obtain⟨v,H',h1,h2,h3⟩:=Ce (h.1 JH);exact fin _ _ (.inl ⟨by simp[rk,hg,hj,hb,JH],v,H',_,h1,h2,rfl,rfl⟩) h3
     exact fin _ _ (.inr ⟨by simp[rk,hg,hj,hb,JH],rfl⟩) (h.2 (by cases b<;>cases want<;>simp_all))
    .rename_i hb;exact fin _ _ (.inr ⟨by simp[rk,hg,hj,hb],rfl⟩) h
    exact h.elim
def nU (ops:Array Oper) (listed:Array Bool):Prop:=
 ∀ (j:Nat) oj,ops[j]?=some oj->listed.getD j false=true-> ∀ e∈oj.after,cH e=true->listed.getD e.on false=true
def vg (ops:Array Oper) (acc:List Nat):Prop:=
 ∀ (j:Nat) oj i,j<acc.length->ops[j]?=some oj->(acc.getD j 0).testBit i=true-> ∀ listed,nU ops listed->(∀ e∈oj.after,cH e=true->listed.getD e.on false=true)->listed.getD i false=true
theorem rr (acc:List Nat): ∀ (es:List Edge) (s i:Nat),(es.foldl (fun s e=>if cH e then s||| 2^e.on||| acc.getD e.on 0 else s) s).testBit i=true->
 s.testBit i=true\/ ∃ e∈es,cH e=true/\(i=e.on\/(acc.getD e.on 0).testBit i=true)
 | [],s,i,h=> .inl h
 | e::es,s,i,h=>by
  rw[List.foldl_cons] at h;rcases rr acc es _ i h with h1 | ⟨e',N_,hp,h1⟩
  .split at h1
   .rename_i hp;simp only[Nat.testBit_or,qsb] at h1;rcases h1 with(h1 | h1) | h1
    .exact .inl h1
    .right;refine⟨e,by simp,hp,.inl ?_⟩;rw[Nat.testBit_two_pow] at h1;have h2:e.on=i:=by simpa using h1
     exact h2.symm
    exact .inr ⟨e,by simp,hp,.inr h1⟩
   exact .inl h1
  exact .inr ⟨e',by simp[N_],hp,h1⟩
theorem yZ: ∀ (l:List Oper) (acc:List Nat),(∀ j,l[j]?=ops[acc.length+j]?)->vg ops acc->vg ops (masks l acc)
 | [],acc,_,h=>h
 | o::l,acc,hl,h=>by
  have h0:ops[acc.length]?=some o:=by simpa using(hl 0).symm
  refine yZ l _ (fun j=>?_) ?_
  .have:=hl (j+1);rw[List.getElem?_cons_succ] at this;rw[this];congr 1;simp;omega
  intro j oj i hj XG hb listed hc hp;by_cases aH:j<acc.length
  .rw[qa,qi aH,<-qa] at hb;exact h j oj i aH XG hb listed hc hp
  have On:j=acc.length:=by simp at hj;omega
  subst On;rw[h0] at XG;cases XG;simp only[qa,getElem?_append_right (qp _),Nat.sub_self,List.getElem?_cons_zero,Option.getD_some] at hb;unfold F8 at hb;rcases rr acc _ 0 i hb with h1 | ⟨e,he,Ov,h1⟩
  .simp at h1
  have dT:=hp e (Array.mem_toList_iff.1 he) Ov;rcases h1 with rfl | h1
  .exact dT
  have akx:e.on<acc.length:=by
   apply Nat.lt_of_not_le;intro D9;rw[qa,getElem?_eq_none D9] at h1;simp at h1
  have oM: ∃ oe,ops[e.on]?=some oe:=by
   have aoI:acc.length<ops.size:=(Array.getElem?_eq_some_iff.1 h0).1;exact⟨ops[e.on]'(by omega),by simp[show e.on<ops.size by omega]⟩
  obtain⟨oe,hoe⟩:=oM;exact h e.on oe i akx hoe h1 listed hc (fun e' N_ aky=>hc e.on oe hoe dT e' N_ aky)
structure gg (ops:Array Oper):Prop where
 cls: ∀ (j:Nat) oj,ops[j]?=some oj->ck oj.op<3
 low: ∀ (j:Nat) oj,ops[j]?=some oj-> ∀ e∈oj.after,cH e=true->e.on<j
 ord: ∀ (i j:Nat) oi oj,i<j->ops[i]?=some oi->ops[j]?=some oj->en ops oi oj=true-> ∀ listed,nU ops listed->(∀ e∈oj.after,cH e=true->listed.getD e.on false=true)->listed.getD i false=true
 bit: ∀ (i j:Nat) oj,ops[j]?=some oj->((masks ops.toList []).getD j 0).testBit i=true-> ∀ listed,nU ops listed->(∀ e∈oj.after,cH e=true->listed.getD e.on false=true)->listed.getD i false=true
theorem nV: ∀ (l:List Oper) (acc:List Nat),(masks l acc).length=acc.length+l.length
 | [],acc=>by simp[masks]
 | o::l,acc=>by rw[masks,nV l];simp;omega
theorem MX (h:k9 ops=true):gg ops:=by
 unfold k9 at h;rw[pR] at h;have hm:vg ops (masks ops.toList []):=yZ ops.toList [] (by simp) (by intro j oj i hj;simp at hj);have key: ∀ (j:Nat) oj,ops[j]?=some oj->(ck oj.op<3/\ ∀ e∈oj.after,cH e=true->e.on<j)/\ ∀ i,i<j-> ∀ oi,ops[i]?=some oi->en ops oi oj=true->((masks ops.toList []).getD j 0).testBit i=true:=by
  intro j oj hj;have aH:j<ops.size:=(Array.getElem?_eq_some_iff.1 hj).1;have h1:=h j (List.mem_range.2 aH);simp only[hj,w8,decide_eq_true_eq,pR] at h1;obtain⟨⟨h2,h3⟩,h4⟩:=h1;refine⟨⟨h2,fun e he hp=>?_⟩,fun i hi oi hoi fC=>?_⟩
  .have:=h3 e (Array.mem_toList_iff.2 he);simpa [hp] using this
  have:=h4 i (List.mem_range.2 hi);simpa [hoi,fC] using this
 have kb: ∀ (i j:Nat) oj,ops[j]?=some oj->((masks ops.toList []).getD j 0).testBit i=true-> ∀ listed,nU ops listed->(∀ e∈oj.after,cH e=true->listed.getD e.on false=true)->listed.getD i false=true:=
  fun i j oj hj hb listed hc hp=>hm j oj i (by rw[nV];simp;exact(Array.getElem?_eq_some_iff.1 hj).1) hj hb listed hc hp
 refine⟨fun j oj hj=>(key j oj hj).1.1,fun j oj hj=>(key j oj hj).1.2,fun i j oi oj pL hi hj fC listed hc hp=>?_,kb⟩;exact hm j oj i (by rw[nV];simp;exact(Array.getElem?_eq_some_iff.1 hj).1) hj ((key j oj hj).2 i pL oi hi fC) listed hc hp
end
end Go.AM
namespace Go.AM
section
variable {P:Program} {T:Tab} {ops:Array Oper}
theorem Cf (e:Edge):Region.binds .any e=cH e:=by
 unfold Region.binds cH;cases e.ground<;>rfl
theorem Uf (s:St) (d:Option Nat) (v:PV) (H:List Ob) (t:Nat) (h:d≠some t):(s.upd d v H).env.getD t .any=s.env.getD t .any:=by
 unfold St.upd;cases d with
 | none=>rfl
 | some t'=>
  have:t'≠t:=fun he=>h (by rw[he])
  simp only[qa,getElem?_set_ne this]
theorem Du (s:St) (v:PV) (H:List Ob) (t:Nat) (h:t<s.env.length):(s.upd (some t) v H).env.getD t .any=v:=by
 unfold St.upd;simp[qa,h]
theorem Ug (s:St) (d:Option Nat) (v:PV) (H:List Ob):(s.upd d v H).env.length=s.env.length:=by
 unfold St.upd;cases d<;>simp
structure MY (P:Program) (T:Tab) (ops:Array Oper) (S:Nat->St):Prop where
 step: ∀ (j:Nat) o,ops[j]?=some o->Step1 P T ops o (S j) (S (j+1))
structure YJ (P:Program) (T:Tab) (ops:Array Oper) (S:Nat->St) (mk:Nat->List Nat):Prop where
 run:MY P T ops S
 two: ∀ (j:Nat) o,ops[j]?=some o->Step2 P T ops o (S j) (S (j+1)) (mk j)
 dis: ∀ (i j:Nat) oi oj,i<j->ops[i]?=some oi->ops[j]?=some oj->((isApp oi.op&&isRead oj.op)||(isRead oi.op&&isApp oj.op))=true->((masks ops.toList []).getD j 0).testBit i=false-> ∀ id∈mk i,id∉mk j
theorem vS {id:Nat}: ∀ {ids:List Nat} {F:List Ob},id∉ids->(shutIds ids F)[id]?=F[id]?
 | [],F,_=>rfl
 | a::ids,F,h=>by
  rw[w7,not_or] at h;show(shutIds ids (shut F a))[id]?=_;rw[vS h.2];unfold shut;rw[List.getElem?_modify_ne _ _ (fun e=>h.1 e.symm)]
theorem Ao {H F:List Ob} {id i off n:Nat} (h:F[id]?=H[id]?):fP F id i off n=fP H id i off n:=by
 unfold fP;rw[h]
theorem IH {op:Op} {s:St} {v:PV} {H':List Ob} (hr:isRead op=true) (h:WPop P T op s fun v' H''=>v'=v/\H''=H'):
 H'=s.heap/\ ∀ F:List Ob,(∀ id∈mark (ev s.env) op,F[id]?=s.heap[id]?)->WPop P T op ⟨s.env,F⟩ fun v' H''=>v'=v/\H''=F:=by
 cases op with
 | load t a=>
  unfold WPop at h;simp only[cj] at h;unfold WPop;simp only[cj];cases hi:T.at t with
  | none=>rw[hi] at h;exact h.elim
  | some ti=>
   rw[hi] at h;simp only at h ⊢;cases ha:ev s.env a with
   | ptr id j off=>
    rw[ha] at h;simp only at h ⊢;cases hc:fP s.heap id j off ti.size with
    | none=>rw[hc] at h;exact h.elim
    | some cc=>
     obtain⟨cd,cs⟩:=cc;rw[hc] at h;simp only at h;cases ho:jf ti cs with
     | none=>rw[ho] at h;exact h.elim
     | some w=>
      rw[ho] at h;simp only[Res.if] at h;obtain⟨h1,h2,h3⟩:=h;refine⟨h3.symm,fun F hF=>?_⟩;have hm:F[id]?=s.heap[id]?:=hF id (by simp[mark,ha]);simp only[Ao hm,hc,ho,Res.if];exact⟨h1,h2,cW⟩
   | fv x=>
    rw[ha] at h;cases x with
    | fp cs=>
     simp only at h ⊢;cases ho:jf ti ((cs.take ti.size).map .fv) with
     | none=>rw[ho] at h;exact h.elim
     | some w=>
      rw[ho] at h;simp only[Res.if] at h;obtain⟨h1,h2,h3⟩:=h;refine⟨h3.symm,fun F _=>?_⟩;simp only[Res.if];exact⟨h1,h2,cW⟩
    | _=>exact h.elim
   | _=>rw[ha] at h;exact h.elim
 | fieldAddr t x f=>
  unfold WPop at h;simp only[cj] at h;unfold WPop;simp only[cj]
  repeat' split at h
  all_goals first
   | exact h.elim
   | (simp_all [Res.pure,Res.if];done)
   | skip
  all_goals
   rename_i r hr
   repeat' split at hr
   all_goals first
    | (cases hr;done)
    | (unfold Res.pure at hr;cases hr;obtain⟨h1,h2,h3⟩:=h;refine⟨h3.symm,fun F _=>?_⟩;simp_all [Res.pure])
    | (unfold Res.if at hr;cases hr;obtain⟨h1,h2,h3⟩:=h;refine⟨h3.symm,fun F _=>?_⟩;simp_all [Res.if])
 | _=>cases hr
theorem MZ {op:Op} {s:St} {v:PV} {H':List Ob} (hr:isApp op=true) (h:WPop P T op s fun v' H''=>v'=v/\H''=H') {id:Nat} (dk:id<s.heap.length) (hn:id∉mark (ev s.env) op):H'[id]?=s.heap[id]?:=by
 cases op with
 | call c=>
  obtain⟨callee,args,ts⟩:=c;unfold isApp QN at hr;simp only at hr;split at hr
  .rename_i t rest oH;unfold WPop WPcall at h;simp only[oH,map_cons] at h;simp only[mark,oH] at hn;split at h
   .rename_i r gX;obtain⟨_,_,rfl⟩:=h;generalize hev:ev s.env (.tmp t)=sv at hn gX;unfold h_ at gX
    repeat' split at gX
    all_goals first
     | (cases gX;done)
     | skip
    all_goals first
     | (cases gX;exact qi dk)
     | (cases gX;rfl)
     | skip
    all_goals
     cases gX;simp_all<;>first
      | (rw[List.getElem_set_ne (fun e=>hn e.symm)];done)
      | (rw[qi (by rw[length_set];exact dk),getElem?_set_ne (fun e=>hn e.symm)];try simp[dk])
   exact h.elim
  .cases hr
 | _=>cases hr
theorem Step2.touch {o:Oper} {s s':St} {m:List Nat} (h:Step2 P T ops o s s' m) (ha:isApp o.op=true) {id:Nat} (h1:id<s.heap.length) (h2:id∉m):s'.heap[id]?=s.heap[id]?:=by
 rcases h with⟨_,v,H',ids,hw,_,rfl,rfl⟩ | ⟨_,rfl⟩
 .rw[qr,not_or] at h2;show(shutIds ids H')[id]?=_;rw[vS h2.2];exact MZ ha hw h1 h2.1
 rfl
variable {S:Nat->St}
theorem Step1.env {o:Oper} {s s':St} (h:Step1 P T ops o s s') (t:Nat) (ht:o.dst≠some t):s'.env.getD t .any=s.env.getD t .any:=by
 rcases h with⟨_,v,H',ids,_,_,rfl⟩ | ⟨_,rfl⟩<;>exact Uf _ _ _ _ _ ht
theorem Step1.len {o:Oper} {s s':St} (h:Step1 P T ops o s s'):s'.env.length=s.env.length:=by
 rcases h with⟨_,v,H',ids,_,_,rfl⟩ | ⟨_,rfl⟩<;>exact Ug _ _ _ _
theorem Step1.heap {o:Oper} {s s':St} (h:Step1 P T ops o s s'):s.heap.length<=s'.heap.length/\True/\(a9 o.op=false->s'.heap=s.heap++s'.heap.drop s.heap.length):=by
 rcases h with⟨_,v,H',ids,hw,fU,rfl⟩ | ⟨_,rfl⟩
 .refine⟨by have:=Gw hw;rw[<-a8 ids H'] at this;exact this,cW,fun hs=>?_⟩;rcases fU with fU | ⟨rfl,obs,rfl⟩
  .rw[hs] at fU;cases fU
  simp[St.upd,shutIds]
 simp[St.upd]
def jw (n:Nat) (S:Nat->St):Nat->List Ob
 | 0=>[]
 | m+1=>(S (n - m)).heap.drop (S (n - m - 1)).heap.length++jw n S m
def full (n:Nat) (S:Nat->St) (i:Nat):List Ob:=(S i).heap++jw n S (n - i)
theorem si {n i:Nat} (h:i<n):jw n S (n - i)=(S (i+1)).heap.drop (S i).heap.length++jw n S (n - (i+1)):=by
 have e:n - i=(n - (i+1))+1:=by omega
 rw[e,jw];rw[show n - (n - (i+1))=i+1 by omega,show i+1 - 1=i by omega]
theorem kh (hr:MY P T ops S) {i:Nat} {o:Oper} (ho:ops[i]?=some o):
 (a9 o.op=false->full ops.size S i=full ops.size S (i+1))/\full ops.size S i=(S i).heap++((S (i+1)).heap.drop (S i).heap.length++jw ops.size S (ops.size - (i+1))):=by
 have aH:i<ops.size:=(Array.getElem?_eq_some_iff.1 ho).1
 have h2:full ops.size S i=(S i).heap++((S (i+1)).heap.drop (S i).heap.length++jw ops.size S (ops.size - (i+1))):=by
  unfold full;rw[si aH]
 refine⟨fun hs=>?_,h2⟩
 rw[h2,<-append_assoc,<-((hr.step i o ho).heap.2.2 hs)]
 rfl
theorem y9 (hr:MY P T ops S) {t:Nat}: ∀ (d i:Nat),i+d<=ops.size->(∀ k o,i<=k->k<i+d->ops[k]?=some o->o.dst≠some t)->(S (i+d)).env.getD t .any=(S i).env.getD t .any
 | 0,i,_,_=>rfl
 | d+1,i,hl,h=>by
  have aH:i+d<ops.size:=by omega
  have h1:=hr.step (i+d) ops[i+d] (by simp[aH]);rw[show i+(d+1)=(i+d)+1 by omega,h1.env t (h (i+d) _ (by omega) (by omega) (by simp[aH]))];exact y9 hr d i (by omega) (fun k o hk iQ ho=>h k o hk (by omega) ho)
theorem fI (hr:MY P T ops S): ∀ (d i:Nat),i+d<=ops.size->(∀ k o,i<=k->k<i+d->ops[k]?=some o->a9 o.op=false)->full ops.size S (i+d)=full ops.size S i
 | 0,i,_,_=>rfl
 | d+1,i,hl,h=>by
  have aH:i+d<ops.size:=by omega
  have h1:=(kh hr (i:=i+d) (o:=ops[i+d]) (by simp[aH])).1 (h (i+d) _ (by omega) (by omega) (by simp[aH]));rw[show i+(d+1)=(i+d)+1 by omega,<-h1];exact fI hr d i (by omega) (fun k o hk iQ ho=>h k o hk (by omega) ho)
theorem ic (hr:MY P T ops S): ∀ (d i:Nat),i+d<=ops.size->(S i).heap.length<=(S (i+d)).heap.length
 | 0,i,_=>qp _
 | d+1,i,hl=>by
  have aH:i+d<ops.size:=by omega
  have h1:=(hr.step (i+d) ops[i+d] (by simp[aH])).heap.1;exact gI (ic hr d i (by omega)) h1
theorem wS (hr:MY P T ops S): ∀ (i:Nat),i<=ops.size->(S i).env.length=(S 0).env.length
 | 0,_=>rfl
 | i+1,h=>by
  have aH:i<ops.size:=by omega
  rw[(hr.step i ops[i] (by simp[aH])).len];exact wS hr i (by omega)
def Cut (ops:Array Oper) (listed:Array Bool) (t i:Nat):Prop:= ∀ (k:Nat) o,ops[k]?=some o->o.dst=some t->(listed.getD k true=true↔k<i)
def y_ (ops:Array Oper) (listed:Array Bool) (i:Nat):Prop:= ∀ (k:Nat) o,ops[k]?=some o->a9 o.op=true->(listed.getD k true=true↔k<i)
structure Inv (ops:Array Oper) (S:Nat->St) (c:gD) (listed:Array Bool) (a:Act) (w:World) (X:Nat->Prop) (ρ:Places):Prop where
 sz:listed.size=ops.size
 closed:nU ops listed
 defers:a.defers=[]
 keeps:Keeps c w
 tl:a.tmps.size=(S 0).env.length
 env: ∀ (t i:Nat) u,i<=ops.size->Cut ops listed t i->a.tmps[t]?=some u->PRd w X ρ u ((S i).env.getD t .any)
 heap: ∀ i,i<=ops.size->y_ ops listed i->HRd c w X ρ (full ops.size S i)
 places: ∀ i,i<ops.size->listed.getD i true=false-> ∀ id,(S i).heap.length<=id->id<(S (i+1)).heap.length->ρ[id]?=some none
end
end Go.AM
namespace Go.AM
section
variable {P:Program} {T:Tab} {ops:Array Oper} {S:Nat->St}
theorem bL {op:Op} (h:a9 op=true):ck op=2:=by
 cases op<;>first | rfl | (simp[a9] at h;done) | (simp only[a9] at h;simp[ck,h])
theorem M4 {o:Oper} {t:Nat} (h:Operand.tmp t∈o.op.operands):t∈mM ops o:=by
 unfold mM;rw[qr,List.mem_filterMap];exact .inl ⟨.tmp t,Array.mem_toList_iff.2 h,rfl⟩
theorem Gx {o:Oper} {g:Nat} {want:Bool} {t:Nat} (h:o.guard=some (g,want)) (ht:(ops[g]?).bind (·.dst)=some t):t∈mM ops o:=by
 unfold mM F7;rw[qr,h];right;simp only[ht];simp
theorem M5 {x y:Oper} {d:Nat} (h:x.dst=some d) (hr:d∈mM ops y):en ops x y=true:=by
 unfold en;simp[h,hr]
theorem M6 {x y:Oper} {d:Nat} (h:y.dst=some d) (hr:d∈mM ops x):en ops x y=true:=by
 unfold en;simp[h,hr]
theorem QX {x y:Oper} {d:Nat} (h:x.dst=some d) (h2:y.dst=some d):en ops x y=true:=by
 unfold en;simp[h,h2]
theorem mS {x y:Oper} (h:ck x.op=2) (h2:1<=ck y.op) (h3:iI y.op=false) (h4:isRead y.op=false):en ops x y=true:=by
 unfold en;simp[h,h2,h3,h4]
theorem f6 {op:Op} (h:a9 op=true):iI op=false:=by
 cases op<;>first | rfl | (simp[a9] at h;done)
theorem za {x y:Oper} (h:1<=ck x.op) (h2:ck y.op=2) (h4:isRead x.op=false):en ops x y=true:=by
 unfold en;simp[h,h2,h4]
theorem eH {op:Op} (h:a9 op=true):isRead op=false:=by
 cases op<;>first | rfl | (simp[a9] at h;done)
theorem II {op:Op} (h:iI op=true):isRead op=false:=by
 cases op<;>first | rfl | (simp[iI] at h;done)
theorem je {listed:Array Bool} {k:Nat} (h:k<listed.size):listed.getD k true=listed.getD k false:=by
 simp[h]
variable {c:gD} {listed:Array Bool} {a:Act} {w:World} {X:Nat->Prop} {ρ:Places} {i:Nat} {o:Oper}
theorem sj (hf:gg ops) (fC:nU ops listed) (hp: ∀ e∈o.after,cH e=true->listed.getD e.on false=true) (ho:ops[i]?=some o) {k:Nat} {ok:Oper} (hk:k<i) (bg:ops[k]?=some ok)
 (h:en ops ok o=true):listed.getD k false=true:=hf.ord k i ok o hk bg ho h listed fC hp
theorem ft (hf:gg ops) (dX:listed.size=ops.size) (fC:nU ops listed) (q4:listed.getD i true=false) (ho:ops[i]?=some o) {k:Nat} {ok:Oper} (hk:i<k) (bg:ops[k]?=some ok) (h:en ops o ok=true):
 listed.getD k true=false:=by
 cases hl:listed.getD k true with
 | false=>rfl
 | true=>
  have oE:k<listed.size:=by rw[dX];exact(Array.getElem?_eq_some_iff.1 bg).1
  rw[je oE] at hl;have h1:=hf.ord i k o ok hk ho bg h listed fC (fun e he Ov=>fC k ok bg hl e he Ov);have dW:i<listed.size:=by rw[dX];exact(Array.getElem?_eq_some_iff.1 ho).1
  rw[je dW,h1] at q4;cases q4
theorem pB (hr:MY P T ops S) (hf:gg ops) (bA:Inv ops S c listed a w X ρ) (ho:ops[i]?=some o) (q4:listed.getD i true=false) (hp: ∀ e∈o.after,cH e=true->listed.getD e.on false=true)
 {u:Value} {v:PV} {H':List Ob} {w':World} {X':Nat->Prop} {ρ':Places} (hS:S (i+1)=(S i).upd o.dst v H') (hs:Stp c w w' X X' ρ ρ') (AV:w.drawn<=w'.drawn) (hu:PRd w' X' ρ' u v)
 (dF: ∀ id,(id<(S i).heap.length\/(S (i+1)).heap.length<=id)->ρ'[id]?=ρ[id]?)
 (rD: ∀ i2,i2<=ops.size->y_ ops (listed.setIfInBounds i true) i2->HRd c w' X' ρ' (full ops.size S i2)):Inv ops S c (listed.setIfInBounds i true) (a.put o.dst u) w' X' ρ':=by
 have dW:i<ops.size:=(Array.getElem?_eq_some_iff.1 ho).1
 have VK:i<listed.size:=by rw[bA.sz];exact dW
 have zR: ∀ d,(listed.setIfInBounds i true).getD i d=true:=by intro d;simp[VK]
 have cX: ∀ k d,k≠i->(listed.setIfInBounds i true).getD k d=listed.getD k d:=fun k d hk=>getD_set_ne d (Ne.symm hk)
 refine⟨by simp[bA.sz],?_,by cases hd:o.dst<;>simp[Act.put,bA.defers],⟨hs.keeps bA.keeps.toKeepsB,gI bA.keeps.drawn AV⟩,by cases hd:o.dst<;>simp[Act.put,bA.tl],?_,rD,?_⟩
 .intro j oj hj hl e he Ov
  by_cases AI:j=i
  .subst AI
   rw[ho] at hj;cases hj
   exact getD_set_true (hp e he Ov)
  rw[cX j false AI] at hl
  exact getD_set_true (bA.closed j oj hj hl e he Ov)
 .intro t i2 u2 iq ma w5
  by_cases hd:o.dst=some t
  .have Oj:i<i2:=(ma i o ho hd).1 (zR true)
   rw[hd] at w5
   simp only[Act.put] at w5
   have aH:t<a.tmps.size:=by have:=(Array.getElem?_eq_some_iff.1 w5).1;simpa using this
   simp[aH] at w5
   subst w5
   have he:(S i2).env.getD t .any=(S (i+1)).env.getD t .any:=by
    have:=y9 hr (t:=t) (i2 - (i+1)) (i+1) (by omega) (fun k ok hk iQ bg NT=>by
     have h1:=(ma k ok bg NT).2 (by omega);rw[cX k true (by omega)] at h1;have h2:=ft hf bA.sz bA.closed q4 ho (show i<k by omega) bg (QX hd NT);rw[h1] at h2;cases h2)
    rw[show i+1+(i2 - (i+1))=i2 by omega] at this;exact this
   rw[he,hS,hd,Du]
   .exact hu
   rw[wS hr i (by omega),<-bA.tl];exact aH
  have hu3:a.tmps[t]?=some u2:=by
   cases Az:o.dst with
   | none=>rw[Az] at w5;exact w5
   | some d=>
    rw[Az] at w5 hd;simp only[Act.put] at w5;rw[Array.getElem?_setIfInBounds_ne (by intro he;exact hd (by rw[he]))] at w5;exact w5
  refine(bA.env t i2 u2 iq (fun k ok bg NT=>?_) hu3).stp hs
  have zL:k≠i:=by
   intro he;subst he;rw[ho] at bg;cases bg;exact hd NT
  rw[<-cX k true zL]
  exact ma k ok bg NT
 intro i2 iq VL id h1 h2
 have afW:i2≠i:=by intro he;subst he;rw[zR] at VL;cases VL
 rw[cX i2 true afW] at VL
 rw[dF id ?_]
 .exact bA.places i2 iq VL id h1 h2
 rcases Nat.lt_or_gt_of_ne afW with aH | zH
 .left
  have:=ic hr (i - (i2+1)) (i2+1) (by omega)
  rw[show i2+1+(i - (i2+1))=i by omega] at this
  omega
 right
 have:=ic hr (i2 - (i+1)) (i+1) (by omega)
 rw[show i+1+(i2 - (i+1))=i2 by omega] at this
 omega
theorem M7 (hf:gg ops) (dX:listed.size=ops.size) (fC:nU ops listed) (q4:listed.getD i true=false) (_hp: ∀ e∈o.after,cH e=true->listed.getD e.on false=true) (ho:ops[i]?=some o)
 (h1:1<=ck o.op) (Oc:isRead o.op=false): ∃ c0,c0<=i/\y_ ops listed c0:=by
 have key: ∀ n,n<=i->(∀ k,k<n-> ∀ ok,ops[k]?=some ok->a9 ok.op=true->listed.getD k true=true)\/
  ∃ k ok,k<n/\ops[k]?=some ok/\a9 ok.op=true/\listed.getD k true=false/\ ∀ k2,k2<k-> ∀ Hr,ops[k2]?=some Hr->a9 Hr.op=true->listed.getD k2 true=true:=by
  intro n
  induction n with
  | zero=>exact fun _=> .inl (fun k hk=>by omega)
  | succ n ih=>
   intro hn;rcases ih (by omega) with h | ⟨k,ok,hk,h⟩
   .by_cases hb: ∃ ok,ops[n]?=some ok/\a9 ok.op=true/\listed.getD n true=false
    .obtain⟨ok,a1,a2,a3⟩:=hb;exact .inr ⟨n,ok,by omega,a1,a2,a3,fun k2 iQ Hr h2 h3=>h k2 iQ Hr h2 h3⟩
    refine .inl (fun k hk ok h2 h3=>?_);by_cases Hk:k=n
    .subst Hk;cases hl:listed.getD k true with
     | true=>rfl
     | false=>exact absurd ⟨ok,h2,h3,hl⟩ hb
    exact h k (by omega) ok h2 h3
   exact .inr ⟨k,ok,by omega,h⟩
 rcases key i (qp _) with h | ⟨k,ok,hk,bg,bM,hl,aar⟩
 .refine⟨i,qp _,fun k ok bg bM=>?_⟩
  rcases Nat.lt_trichotomy k i with aH | heq | zH
  .have:=h k aH ok bg bM
   simp[this,aH]
  .subst heq;simp[q4]
  have h2:=ft hf dX fC q4 ho zH bg (za h1 (bL bM) Oc)
  simp[h2];omega
 refine⟨k,by omega,fun k2 Hr DU tQ=>?_⟩
 rcases Nat.lt_trichotomy k2 k with aH | heq | zH
 .have:=aar k2 aH Hr DU tQ
  simp[this,aH]
 .subst heq;simp[hl]
 have h2:=ft hf dX fC hl bg zH DU (mS (bL bM) (by rw[bL tQ];omega) (f6 tQ) (eH tQ))
 simp[h2];omega
theorem M8 {op:Op} {s:St} {v:PV} {H':List Ob} (ha:iI op=true) (h:WPop P T op s fun v' H''=>v'=v/\H''=H'):
 ∃ b,v= .ptr s.heap.length 0 0/\H'=s.heap++[b]/\ ∀ F:List Ob,F.length=s.heap.length->WPop P T op ⟨s.env,F⟩ fun v' H''=>v'=v/\H''=F++[b]:=by
 cases op with
 | alloc t=>
  unfold WPop cj at h;simp only at h;unfold WPop cj;cases hi:T.at t with
  | none=>rw[hi] at h;exact h.elim
  | some ti=>
   rw[hi] at h;simp only at h ⊢;obtain⟨h1,h2,h3⟩:=h;exact⟨_,h2.symm,h3.symm,fun F hF=>by
    rw[hi];exact⟨h1,by rw[hF];exact h2,rfl⟩⟩
 | _=>simp[iI] at ha
theorem zb (hr:MY P T ops S): ∀ (d c0:Nat),c0+d<=ops.size->(jw ops.size S (ops.size - c0)).drop ((S (c0+d)).heap.length - (S c0).heap.length)=jw ops.size S (ops.size - (c0+d))
 | 0,c0,_=>by rw[Nat.add_zero,Nat.sub_self,List.drop_zero]
 | d+1,c0,h=>by
  have ih:=zb hr d c0 (by omega);have m1:=ic hr d c0 (by omega);have m2:=ic hr 1 (c0+d) (by omega);rw[si (i:=c0+d) (by omega)] at ih;rw[show c0+(d+1)=c0+d+1 by omega];have e:(S (c0+d+1)).heap.length - (S c0).heap.length=((S (c0+d)).heap.length - (S c0).heap.length)+((S (c0+d+1)).heap.length - (S (c0+d)).heap.length):=by omega
  rw[e,<-List.drop_drop,ih,List.drop_append_of_le_length (by rw[length_drop];omega),List.drop_of_length_le (by rw[length_drop];omega)];rfl
theorem M9 (hr:MY P T ops S) (d c0:Nat) (h:c0+d<=ops.size):(full ops.size S c0).drop (S (c0+d)).heap.length=jw ops.size S (ops.size - (c0+d)):=by
 have m1:=ic hr d c0 h;have:=zb hr d c0 h;unfold full;rw[List.drop_append,List.drop_of_length_le m1,nil_append,this]
theorem QY {F L:List Ob}: ∀ {id:Nat},id<F.length->shut (F++L) id=shut F id++L:=by
 unfold shut
 induction F with
 | nil=>intro id h;simp at h
 | cons a F ih=>
  intro id h;cases id with
  | zero=>rfl
  | succ id=>
   have:=ih (id:=id) (by simpa using h);simp only[List.cons_append,List.modify_succ_cons,this]
theorem HRd.shutL {c:gD} {w:World} {ρ:Places} {L:List Ob}: ∀ (ids:List Nat) {X:Nat->Prop} {F:List Ob},HRd c w X ρ (F++L)-> ∃ X',HRd c w X' ρ (AM.shutIds ids F++L)/\ ∀ b,X' b->X b
 | [],X,F,h=>⟨X,h,fun _ h=>h⟩
 | id::ids,X,F,h=>by
  by_cases dk:id<F.length
  .obtain⟨X1,h1,qX,_⟩:=h.shut id;have e:AM.shut (F++L) id=AM.shut F id++L:=QY dk;rw[e] at h1;obtain⟨X2,h2,wW⟩:=HRd.shutL ids h1;exact⟨X2,h2,fun b hb=>qX b (wW b hb)⟩
  have e:AM.shut F id=F:=by
   unfold AM.shut;apply List.ext_getElem?;intro j;by_cases hj:id=j
   .subst hj;rw[getElem?_eq_none (by rw[List.length_modify];omega),getElem?_eq_none (by omega)]
   rw[List.getElem?_modify_ne _ _ hj]
  obtain⟨X2,h2,wW⟩:=HRd.shutL ids h;refine⟨X2,?_,wW⟩;show HRd c w X2 ρ (AM.shutIds ids (AM.shut F id)++L);rw[e];exact h2
theorem YK (hf:gg ops) (dX:listed.size=ops.size) (fC:nU ops listed): ∃ c0,c0<=ops.size/\y_ ops listed c0:=by
 have key: ∀ n,n<=ops.size->(∀ k,k<n-> ∀ ok,ops[k]?=some ok->a9 ok.op=true->listed.getD k true=true)\/
  ∃ k ok,k<n/\ops[k]?=some ok/\a9 ok.op=true/\listed.getD k true=false/\ ∀ k2,k2<k-> ∀ Hr,ops[k2]?=some Hr->a9 Hr.op=true->listed.getD k2 true=true:=by
  intro n
  induction n with
  | zero=>exact fun _=> .inl (fun k hk=>by omega)
  | succ n ih=>
   intro hn;rcases ih (by omega) with h | ⟨k,ok,hk,h⟩
   .by_cases hb: ∃ ok,ops[n]?=some ok/\a9 ok.op=true/\listed.getD n true=false
    .obtain⟨ok,a1,a2,a3⟩:=hb;exact .inr ⟨n,ok,by omega,a1,a2,a3,fun k2 iQ Hr h2 h3=>h k2 iQ Hr h2 h3⟩
    refine .inl (fun k hk ok h2 h3=>?_);by_cases Hk:k=n
    .subst Hk;cases hl:listed.getD k true with
     | true=>rfl
     | false=>exact absurd ⟨ok,h2,h3,hl⟩ hb
    exact h k (by omega) ok h2 h3
   exact .inr ⟨k,ok,by omega,h⟩
 rcases key ops.size (qp _) with h | ⟨k,ok,hk,bg,bM,hl,aar⟩
 .refine⟨ops.size,qp _,fun k ok bg bM=>?_⟩;have aH:=(Array.getElem?_eq_some_iff.1 bg).1;have:=h k aH ok bg bM;simp[this,aH]
 refine⟨k,by omega,fun k2 Hr DU tQ=>?_⟩;rcases Nat.lt_trichotomy k2 k with aH | heq | zH
 .have:=aar k2 aH Hr DU tQ;simp[this,aH]
 .subst heq;simp[hl]
 have h2:=ft hf dX fC hl bg zH DU (mS (bL bM) (by rw[bL tQ];omega) (f6 tQ) (eH tQ));simp[h2];omega
theorem QZ (hr:MY P T ops S) {a b:Nat} (ha:a<=ops.size) (hb:b<=ops.size) (h1:y_ ops listed a) (h2:y_ ops listed b):full ops.size S a=full ops.size S b:=by
 rcases Nat.le_total a b with dT | dT
 .have:=fI hr (b - a) a (by omega) (fun k ok hk iQ bg=>by
   cases f7:a9 ok.op with
   | false=>rfl
   | true=>
    have h3:=(h2 k ok bg f7).2 (by omega);have h4:=(h1 k ok bg f7).1 h3;omega)
  rw[show a+(b - a)=b by omega] at this;exact this.symm
 have:=fI hr (a - b) b (by omega) (fun k ok hk iQ bg=>by
  cases f7:a9 ok.op with
  | false=>rfl
  | true=>
   have h3:=(h1 k ok bg f7).2 (by omega);have h4:=(h2 k ok bg f7).1 h3;omega)
 rw[show b+(a - b)=a by omega] at this;exact this
theorem Gy (hr:MY P T ops S): ∀ d i,i+d<=ops.size->(full ops.size S (i+d)).length=(full ops.size S i).length:=by
 intro d
 induction d with
 | zero=>intro i _;rfl
 | succ d ih=>
  intro i dk;have aH:i+d<ops.size:=by omega
  have ho:ops[i+d]?=some ops[i+d]:=by simp[aH]
  have bM:=(hr.step (i+d) _ ho).heap;obtain⟨hf1,hf2⟩:=kh hr ho;rw[show i+(d+1)=(i+d)+1 by omega,<-ih i (by omega)];cases f7:a9 ops[i+d].op with
  | false=>rw[hf1 f7]
  | true=>
   rw[hf2];unfold full;have:=bM.1;simp;omega
theorem sk (hr:MY P T ops S) {id:Nat}: ∀ (d a:Nat),a+d<=ops.size->(∀ k o,a<=k->k<a+d->ops[k]?=some o->a9 o.op=true->id<(S k).heap.length->(S (k+1)).heap[id]?=(S k).heap[id]?)->
 (full ops.size S (a+d))[id]?=(full ops.size S a)[id]?
 | 0,a,_,_=>rfl
 | d+1,a,hl,h=>by
  have aH:a+d<ops.size:=by omega
  have ho:ops[a+d]?=some ops[a+d]:=by simp[aH]
  rw[<-sk hr d a (by omega) (fun k o h1 h2 h3=>h k o h1 (by omega) h3),show a+(d+1)=(a+d)+1 by omega];obtain⟨hf1,hf2⟩:=kh hr ho;cases f7:a9 ops[a+d].op with
  | false=>rw[hf1 f7]
  | true=>
   have hm:=(hr.step (a+d) _ ho).heap.1;rw[hf2];unfold full;by_cases dk:id<(S (a+d)).heap.length
   .rw[qi (by omega),qi dk,h (a+d) _ (by omega) (by omega) ho f7 dk]
   rw[getElem?_append_right (l₁:=(S (a+d)).heap) (by omega)];by_cases h2:id<(S (a+d+1)).heap.length
   .rw[qi h2,qi (by rw[length_drop];omega),List.getElem?_drop];congr 1;omega
   rw[getElem?_append_right (by omega),getElem?_append_right (by rw[length_drop];omega),length_drop];congr 1;omega
theorem Q0 (hT:cx P T) {Q:Exit->Act->World->Prop} {mk:Nat->List Nat} (hx:YJ P T ops S mk) (hf:gg ops) (bA:Inv ops S c listed a w X ρ) (hi:i∈Region.ready .any ops listed):
 wpOp P ops Q i (fun a' w'=> ∃ X' ρ',Inv ops S c (listed.setIfInBounds i true) a' w' X' ρ') a w:=by
 have hr:=hx.run
 obtain⟨q4,o,ho,sr⟩:=mem_ready.1 hi
 have hp: ∀ e∈o.after,cH e=true->listed.getD e.on false=true:=fun e he Ov=>sr e he (by rw[Cf];exact Ov)
 have dW:i<ops.size:=(Array.getElem?_eq_some_iff.1 ho).1
 have VK:i<listed.size:=by rw[bA.sz];exact dW
 have afX: ∀ t,t∈mM ops o->Cut ops listed t i:=by
  intro t ht k ok bg NT;rcases Nat.lt_trichotomy k i with aH | heq | zH
  .have h1:=sj hf bA.closed hp ho aH bg (M5 NT ht);rw[<-je (by rw[bA.sz];omega)] at h1;simp[h1,aH]
  .subst heq;simp[q4]
  have h1:=ft hf bA.sz bA.closed q4 ho zH bg (M6 NT ht);simp[h1];omega
 have zN: ∀ t,t∈mM ops o->PRd w X ρ (a.tmps.getD t undef) ((S i).env.getD t .any):=by
  intro t ht;by_cases aH:t<a.tmps.size
  .have:=bA.env t i a.tmps[t] (by omega) (afX t ht) (by simp[aH]);simpa [aH] using this
  have D9:(S i).env.length<=t:=by rw[wS hr i (by omega),<-bA.tl];omega
  rw[qa,getElem?_eq_none D9];exact .any _
 have qZ: ∀ x∈o.op.operands,PRd w X ρ (a.eval x) (ev (S i).env x):=by
  intro x hx;cases x with
  | tmp t=>exact zN t (M4 hx)
  | const v=>exact lh v
  | global g=>exact .any _
  | func f=>exact .fv _ _ (.lit _ rfl)
 have ox: ∀ b,rk ops (S i) o=some b->Region.wanted o (yielded ops a.tmps)=b:=by
  intro b hb;unfold rk at hb;unfold Region.wanted;cases hg:o.guard with
  | none=>rw[hg] at hb;simp at hb;simp[hb]
  | some gd=>
   obtain⟨j,want⟩:=gd;rw[hg] at hb;simp only at hb ⊢;cases hj:(ops[j]?).bind (·.dst) with
   | none=>rw[hj] at hb;cases hb
   | some t=>
    rw[hj] at hb;simp only at hb;have ht:=zN t (Gx hg hj);have hy:yielded ops a.tmps j=(match a.tmps[t]? with | some (.bool b)=>some b | _=>none):=by
     unfold yielded;rw[hj];rfl
    rw[hy];unfold St.get at hb;split at hb
    .rename_i b2 eC;rw[eC] at ht;have aH:=ht.litInv;simp at hb;cases eu:a.tmps[t]? with
     | none=>simp[eu,undef] at aH
     | some v2=>
      simp[eu] at aH;subst aH;simp only;rw[<-hb];simp
    .rename_i eC;rw[eC] at ht;simp at hb;cases eu:a.tmps[t]? with
     | none=>simp[<-hb]
     | some v2=>
      simp[eu] at ht;cases ht;simp[<-hb]
    cases hb
 unfold wpOp
 simp only[ho]
 rcases hr.step i o ho with⟨hw,v,H',ids,hwp,fU,hS⟩ | ⟨hw,hS⟩
 .rw[ox true hw]
  refine .inl ?_
  have LJ:(S (i+1)).heap=shutIds ids H':=by rw[hS];rfl
  by_cases h0:ck o.op=0
  .obtain⟨hH,u,cT,hu⟩:=Dt (P:=P) (T:=T) hT h0 rfl (o:=o) (e:=a.eval) hwp qZ
   unfold Oper.wp
   rw[cT]
   refine⟨X,ρ,pB hr hf bA ho q4 hp hS Stp.refl (qp _) hu (fun _ _=>rfl) (fun i2 iq ma=>bA.heap i2 iq (fun k ok bg bM=>?_))⟩
   have zL:k≠i:=by
    intro he;subst he;rw[ho] at bg;cases bg;rw[bL bM] at h0;cases h0
   rw[<-getD_set_ne true (Ne.symm zL)]
   exact ma k ok bg bM
  by_cases Hu:iI o.op=true
  .obtain⟨c0,Cl,v8⟩:=M7 hf bA.sz bA.closed q4 hp ho (by omega) (II Hu)
   have hh:=bA.heap c0 (by omega) v8
   have l_:ids=[]:=by
    rcases fU with h | h
    .rw[f6 h] at Hu;cases Hu
    exact h.1
   subst l_
   have LJ:(S (i+1)).heap=H':=LJ
   obtain⟨b,ZW,hHb,Vz⟩:=M8 Hu hwp
   have zI:=M9 hr (i - c0) c0 (by omega)
   rw[show c0+(i - c0)=i by omega,si dW,LJ,hHb,List.drop_left] at zI
   obtain⟨F,hF⟩:=Hg ((full ops.size S c0).take (S i).heap.length)
   have hFl:F.length=(S i).heap.length:=by
    rw[<-hF,length_take];have h1:(full ops.size S c0).length=(S c0).heap.length+(jw ops.size S (ops.size - c0)).length:=by unfold full;rw[qe]
    have h2:=congrArg List.length zI;rw[length_drop] at h2;rw[qe,Hv] at h2;omega
   have kM:full ops.size S c0=F++([b]++jw ops.size S (ops.size - (i+1))):=by
    rw[<-zI,<-hF,List.take_append_drop]
   rw[kM] at hh
   refine yY hT (s:=⟨(S i).env,F⟩) (Vz F hFl) hh (fun id h1 h2=>bA.places i dW q4 id (by dsimp only at h1;omega) (by rw[LJ,hHb,qe,Hv];simp at h2;omega)) (by simp) qZ (fun u w' X' ρ' hs AV v7 hu dF=>?_)
   refine⟨X',ρ',pB hr hf bA ho q4 hp hS hs AV hu (fun id dk=>dF id (by
    rw[LJ,hHb,qe,Hv] at dk;dsimp only;rw[Hv];omega)) (fun i2 iq ma=>?_)⟩
   have zX:y_ ops listed i2:=by
    intro k ok bg f7;have zL:k≠i:=by
     intro he;subst he;rw[ho] at bg;cases bg;rw[f6 f7] at Hu;cases Hu
    rw[<-getD_set_ne true (Ne.symm zL)];exact ma k ok bg f7
   have eI:full ops.size S i2=full ops.size S c0:=by
    rcases Nat.le_total c0 i2 with dT | dT
    .have:=fI hr (i2 - c0) c0 (by omega) (fun k ok hk iQ bg=>by
      cases f7:a9 ok.op with
      | false=>rfl
      | true=>
       have h1:=(zX k ok bg f7).2 (by omega);have h2:=(v8 k ok bg f7).1 h1;omega)
     rw[show c0+(i2 - c0)=i2 by omega] at this;exact this
    have:=fI hr (c0 - i2) i2 (by omega) (fun k ok hk iQ bg=>by
     cases f7:a9 ok.op with
     | false=>rfl
     | true=>
      have h1:=(v8 k ok bg f7).2 (by omega);have h2:=(zX k ok bg f7).1 h1;omega)
    rw[show i2+(c0 - i2)=c0 by omega] at this;exact this.symm
   rw[eI,kM,<-append_assoc]
   exact v7
  have Hu:iI o.op=false:=by simpa using Hu
  by_cases hrd:isRead o.op=true
  .obtain⟨c0,Cl,v8⟩:=YK hf bA.sz bA.closed
   have hh:=bA.heap c0 Cl v8
   obtain⟨hHs,akA⟩:=IH hrd hwp
   have l_:ids=[]:=by
    rcases fU with h | h
    .rw[eH h] at hrd;cases hrd
    exact h.1
   subst l_
   have hmk:mk i=mark (ev (S i).env) o.op:=by
    rcases hx.two i o ho with⟨_,v2,H2,aoM,NA,akB,_,hm⟩ | ⟨NA,_⟩
    .rcases akB with h | h
     .rw[eH h] at hrd;cases hrd
     rw[hm,h.1,append_nil]
    rw[hw] at NA;cases NA
   have LJ:(S (i+1)).heap=(S i).heap:=by rw[LJ,hHs];rfl
   have gH:listed.getD i false=true->False:=fun h=>by
    rw[<-je (by rw[bA.sz];omega),q4] at h;cases h
   have qT: ∀ id∈mark (ev (S i).env) o.op,(full ops.size S c0)[id]?=(full ops.size S i)[id]?:=fun id dk=>by
    rw[<-hmk] at dk;rcases Nat.le_total c0 i with dT | dT
    .have:=sk hr (id:=id) (i - c0) c0 (by omega) (fun k ok h1 h2 bg bM aH=>by
      have Sb:listed.getD k true=false:=by
       cases hl:listed.getD k true with
       | false=>rfl
       | true=>have:=(v8 k ok bg bM).1 hl;omega
      have oE:k<listed.size:=by rw[bA.sz];omega
      have aat:((masks ops.toList []).getD i 0).testBit k=false:=by
       cases hb:((masks ops.toList []).getD i 0).testBit k with
       | false=>rfl
       | true=>
        have:=hf.bit k i o ho hb listed bA.closed hp;rw[<-je oE,Sb] at this;cases this
      have tT:isApp ok.op=true:=by
       cases ha:isApp ok.op with
       | true=>rfl
       | false=>
        have hc:en ops ok o=true:=by
         unfold en;simp[bL bM,ha,Hu,show 1<=ck o.op by omega]
        have:=hf.ord k i ok o (by omega) bg ho hc listed bA.closed hp;rw[<-je oE,Sb] at this;cases this
      exact(hx.two k ok bg).touch tT aH (fun hm=>hx.dis k i ok o (by omega) bg ho (by simp[tT,hrd]) aat id hm dk))
     rw[show c0+(i - c0)=i by omega] at this;exact this.symm
    have:=sk hr (id:=id) (c0 - i) i (by omega) (fun k ok h1 h2 bg bM aH=>by
     have zL:k≠i:=by
      intro he;subst he;rw[ho] at bg;cases bg;rw[eH bM] at hrd;cases hrd
     have oE:k<listed.size:=by rw[bA.sz];exact(Array.getElem?_eq_some_iff.1 bg).1
     have Sb:listed.getD k false=true:=by
      rw[<-je oE];exact(v8 k ok bg bM).2 (by omega)
     have aat:((masks ops.toList []).getD k 0).testBit i=false:=by
      cases hb:((masks ops.toList []).getD k 0).testBit i with
      | false=>rfl
      | true=>exact(gH (hf.bit i k ok bg hb listed bA.closed (fun e he Ov=>bA.closed k ok bg Sb e he Ov))).elim
     have tT:isApp ok.op=true:=by
      cases ha:isApp ok.op with
      | true=>rfl
      | false=>
       have hc:en ops o ok=true:=by
        unfold en;simp[bL bM,ha,show 1<=ck o.op by omega]
       exact(gH (hf.ord i k o ok (by omega) ho bg hc listed bA.closed (fun e he Ov=>bA.closed k ok bg Sb e he Ov))).elim
     exact(hx.two k ok bg).touch tT aH (fun hm=>hx.dis i k o ok (by omega) ho bg (by simp[tT,hrd]) aat id dk hm))
    rw[show i+(c0 - i)=c0 by omega] at this;exact this
   have XB:(S i).heap.length<=(full ops.size S c0).length:=by
    have h1:(S i).heap.length<=(full ops.size S i).length:=by unfold full;rw[qe];omega
    have h2:(full ops.size S c0).length=(full ops.size S i).length:=by
     have e1:=Gy hr (ops.size - c0) c0 (by omega);have e2:=Gy hr (ops.size - i) i (by omega);rw[show c0+(ops.size - c0)=ops.size by omega] at e1;rw[show i+(ops.size - i)=ops.size by omega] at e2;omega
    omega
   obtain⟨F,hF⟩:=Hg ((full ops.size S c0).take (S i).heap.length)
   obtain⟨R,hR⟩:=Hg ((full ops.size S c0).drop (S i).heap.length)
   have kM:full ops.size S c0=F++([]++R):=by rw[nil_append,<-hF,<-hR,List.take_append_drop]
   have hFl:F.length=(S i).heap.length:=by rw[<-hF,length_take];omega
   have akC: ∀ id∈mark (ev (S i).env) o.op,F[id]?=(S i).heap[id]?:=fun id dk=>by
    by_cases aH:id<(S i).heap.length
    .rw[<-hF,getElem?_take,if_pos aH,qT id dk];unfold full;rw[qi aH]
    rw[getElem?_eq_none (by omega),getElem?_eq_none (by omega)]
   rw[kM] at hh
   refine yY hT (s:=⟨(S i).env,F⟩) (akA F akC) hh (fun id h1 h2=>by simp at h2;dsimp only at h1;omega) (by simp) qZ (fun u w' X' ρ' hs AV v7 hu dF=>?_)
   refine⟨X',ρ',pB hr hf bA ho q4 hp hS hs AV hu (fun id dk=>dF id (by simp only[List.length_nil];omega)) (fun i2 iq ma=>?_)⟩
   have zX:y_ ops listed i2:=by
    intro k ok bg f7;have zL:k≠i:=by
     intro he;subst he;rw[ho] at bg;cases bg;rw[eH f7] at hrd;cases hrd
    rw[<-getD_set_ne true (Ne.symm zL)];exact ma k ok bg f7
   rw[QZ hr iq Cl zX v8,kM,nil_append]
   exact v7
  have hrd:isRead o.op=false:=by simpa using hrd
  have afZ:1<=ck o.op:=by omega
  have hhc:y_ ops listed i:=by
   intro k ok bg bM;have iQ:=bL bM;rcases Nat.lt_trichotomy k i with aH | heq | zH
   .have h1:=sj hf bA.closed hp ho aH bg (mS iQ afZ Hu hrd);rw[<-je (by rw[bA.sz];omega)] at h1;simp[h1,aH]
   .subst heq;simp[q4]
   have h1:=ft hf bA.sz bA.closed q4 ho zH bg (za afZ iQ hrd);simp[h1];omega
  have hh:=bA.heap i (by omega) hhc
  obtain⟨DZ,R8⟩:=kh hr ho
  rw[R8] at hh
  have aD:(S i).heap.length<=(shutIds ids H').length:=by rw[a8];exact Gw hwp
  have rA:=a8 ids H'
  rw[LJ] at hh R8
  refine yY hT hwp hh (fun id h1 h2=>bA.places i dW q4 id h1 (by rw[LJ];simp at h2;omega)) (by simp;omega) qZ (fun u w' X1 ρ' qX AV hh1 hu1 dF=>?_)
  have eA:full ops.size S (i+1)=shutIds ids H'++jw ops.size S (ops.size - (i+1)):=by unfold full;rw[LJ]
  obtain⟨X',v7,gR⟩:=hh1.shutL ids
  have hs:=qX.trans (Stp.same_world (c:=c) (w:=w') (ρ:=ρ') gR)
  have hu:=hu1.mono (Same.refl X1 w') (fun b _ h=>gR b h) (Places.Le.refl ρ')
  refine⟨X',ρ',pB hr hf bA ho q4 hp hS hs AV hu (fun id dk=>dF id (by rw[LJ] at dk;simp;omega)) (fun i2 iq ma=>?_)⟩
  have zR:(listed.setIfInBounds i true).getD i true=true:=by simp[VK]
  have hfi:HRd c w' X' ρ' (full ops.size S (i+1)):=by rw[eA];exact v7
  by_cases bM:a9 o.op=true
  .have Oj:i<i2:=(ma i o ho bM).1 zR
   have:=fI hr (i2 - (i+1)) (i+1) (by omega) (fun k ok hk iQ bg=>by
    cases f7:a9 ok.op with
    | false=>rfl
    | true=>
     have h1:=(ma k ok bg f7).2 (by omega);rw[getD_set_ne true (by omega)] at h1;have h2:=ft hf bA.sz bA.closed q4 ho (show i<k by omega) bg (mS (bL bM) (by rw[bL f7];omega) (f6 f7) (eH f7));rw[h1] at h2;cases h2)
   rw[show i+1+(i2 - (i+1))=i2 by omega] at this
   rw[this]
   exact hfi
  have akD:a9 o.op=false:=by simpa using bM
  have zX:y_ ops listed i2:=by
   intro k ok bg f7;have zL:k≠i:=by
    intro he;subst he;rw[ho] at bg;cases bg;exact bM f7
   rw[<-getD_set_ne true (Ne.symm zL)];exact ma k ok bg f7
  have eI:full ops.size S i2=full ops.size S i:=by
   rcases Nat.le_total i i2 with dT | dT
   .have:=fI hr (i2 - i) i (by omega) (fun k ok hk iQ bg=>by
     cases f7:a9 ok.op with
     | false=>rfl
     | true=>
      have h1:=(zX k ok bg f7).2 (by omega);have h2:=(hhc k ok bg f7).1 h1;omega)
    rw[show i+(i2 - i)=i2 by omega] at this;exact this
   have:=fI hr (i - i2) i2 (by omega) (fun k ok hk iQ bg=>by
    cases f7:a9 ok.op with
    | false=>rfl
    | true=>
     have h1:=(hhc k ok bg f7).2 (by omega);have h2:=(zX k ok bg f7).1 h1;omega)
   rw[show i2+(i - i2)=i by omega] at this;exact this.symm
  rw[eI,DZ akD]
  exact hfi
 rw[ox false hw]
 refine⟨X,ρ,pB hr hf bA ho q4 hp hS Stp.refl (qp _) (.tup #[] [] rfl (by simp)) (fun _ _=>rfl) (fun i2 iq ma=>?_)⟩
 have LJ:(S (i+1)).heap=(S i).heap:=by rw[hS];rfl
 have zR:(listed.setIfInBounds i true).getD i true=true:=by simp[VK]
 by_cases bM:a9 o.op=true
 .have hhc:y_ ops listed i:=by
   intro k ok bg f7;have iQ:=bL f7;have gw:=bL bM;rcases Nat.lt_trichotomy k i with aH | heq | zH
   .have h1:=sj hf bA.closed hp ho aH bg (mS iQ (by omega) (f6 bM) (eH bM));rw[<-je (by rw[bA.sz];omega)] at h1;simp[h1,aH]
   .subst heq;simp[q4]
   have h1:=ft hf bA.sz bA.closed q4 ho zH bg (za (by omega) iQ (eH bM));simp[h1];omega
  have Oj:i<i2:=(ma i o ho bM).1 zR
  have eI:=fI hr (i2 - (i+1)) (i+1) (by omega) (fun k ok hk iQ bg=>by
   cases f7:a9 ok.op with
   | false=>rfl
   | true=>
    have h1:=(ma k ok bg f7).2 (by omega);rw[getD_set_ne true (by omega)] at h1;have h2:=ft hf bA.sz bA.closed q4 ho (show i<k by omega) bg (mS (bL bM) (by rw[bL f7];omega) (f6 f7) (eH f7));rw[h1] at h2;cases h2)
  rw[show i+1+(i2 - (i+1))=i2 by omega] at eI
  have R8:=(kh hr ho).2
  rw[LJ,List.drop_length,nil_append] at R8
  have hf1:full ops.size S (i+1)=full ops.size S i:=by
   rw[R8];unfold full;rw[LJ]
  rw[eI,hf1]
  exact bA.heap i (by omega) hhc
 refine bA.heap i2 iq (fun k ok bg f7=>?_)
 have zL:k≠i:=by
  intro he;subst he;rw[ho] at bg;cases bg;exact bM f7
 rw[<-getD_set_ne true (Ne.symm zL)]
 exact ma k ok bg f7
theorem IJ (hf:gg ops) (dX:listed.size=ops.size) (hrd:Region.ready .any ops listed=[]): ∀ k,k<ops.size->listed.getD k true=true:=by
 intro k
 induction k using Nat.strongRecOn with
 | _ k ih=>
  intro hk;cases hl:listed.getD k true with
  | true=>rfl
  | false=>
   have bm:k∈Region.ready .any ops listed:=by
    refine mem_ready.2 ⟨hl,ops[k],by simp[hk],fun e he hb=>?_⟩;rw[Cf] at hb;have aH:=hf.low k ops[k] (by simp[hk]) e he hb;rw[<-je (by omega)];exact ih e.on aH (by omega)
   rw[hrd] at bm;cases bm
theorem Uh (hT:cx P T) {Q:Exit->Act->World->Prop} {mk:Nat->List Nat} (hx:YJ P T ops S mk) (hf:gg ops) (hQ: ∀ a w,SRd c (S ops.size) a w->Q .normal a w):
 ∀ (fuel:Nat) (listed:Array Bool) (a:Act) (w:World),(∃ X ρ,Inv ops S c listed a w X ρ)->listed.toList.count false<=fuel->wpAny P .any ops Q fuel listed a w:=by
 have hr:=hx.run
 have fin: ∀ (listed:Array Bool) (a:Act) (w:World),(∃ X ρ,Inv ops S c listed a w X ρ)->(∀ k,k<ops.size->listed.getD k true=true)->Q .normal a w:=by
  intro listed a w ⟨X,ρ,bA⟩ Hu;refine hQ a w ⟨X,ρ,?_,⟨by rw[bA.tl,wS hr _ (qp _)],fun t u x hu hx=>?_⟩,bA.defers,bA.keeps⟩
  .have:=bA.heap ops.size (qp _) (fun k o bg _=>by
    have aH:k<ops.size:=(Array.getElem?_eq_some_iff.1 bg).1;simp[Hu k aH,aH])
   unfold full at this;rw[Nat.sub_self,jw,append_nil] at this;exact this
  have:=bA.env t ops.size u (qp _) (fun k o bg _=>by
   have aH:k<ops.size:=(Array.getElem?_eq_some_iff.1 bg).1;simp[Hu k aH,aH]) hu
  rw[qa,hx] at this;exact this
 intro fuel
 induction fuel with
 | zero=>
  intro listed a w bA hc;obtain⟨X,ρ,hi⟩:=bA;have Hu: ∀ k,k<ops.size->listed.getD k true=true:=by
   intro k hk;have oE:k<listed.size:=by rw[hi.sz];exact hk
   have h0:listed.toList.count false=0:=by omega
   rw[List.count_eq_zero] at h0;cases hl:listed.getD k true with
   | true=>rfl
   | false=>
    exfalso;apply h0;have:listed[k]=false:=by simpa [oE] using hl
    rw[<-this];exact Array.mem_toList_iff.2 (Array.getElem_mem oE)
  refine⟨?_,fin listed a w ⟨X,ρ,hi⟩ Hu⟩;cases hrd:Region.ready .any ops listed with
  | nil=>rfl
  | cons j l=>
   have hj:j∈Region.ready .any ops listed:=by rw[hrd];simp
   obtain⟨q4,oj,XG,_⟩:=mem_ready.1 hj;rw[Hu j (Array.getElem?_eq_some_iff.1 XG).1] at q4;cases q4
 | succ fuel ih=>
  intro listed a w bA hc;obtain⟨X,ρ,hi⟩:=bA;refine⟨fun hrd=>fin listed a w ⟨X,ρ,hi⟩ (IJ hf hi.sz hrd),fun i hir=>?_⟩;refine wpOp_mono (fun a' w' af0=>ih _ a' w' af0 ?_) (Q0 hT hx hf hi hir);obtain⟨q4,o,ho,_⟩:=mem_ready.1 hir;have dW:i<listed.size:=by rw[hi.sz];exact(Array.getElem?_eq_some_iff.1 ho).1
  have Zw:listed.toList[i]'(by simpa using dW)=false:=by
   have:listed[i]=false:=by simpa [dW] using q4
   simpa using this
  rw[Array.toList_setIfInBounds,List.count_set (by simpa using dW)];have dj:0<listed.toList.count false:=by
   rw[List.count_pos_iff];rw[<-Zw];exact ki _
  rw[Zw];show(List.count false listed.toList - 1)+0<=fuel;omega
theorem IK (hT:cx P T) {Q:Exit->Act->World->Prop} (bg:k9 ops=true) {st:St} {K:St->Prop} {sh:List (List Nat)} (h:WPdrawS P T ops ops.toList sh [] st (fun s tr=>De ops tr=true/\K s)) (hK: ∀ st a w,K st->SRd c st a w->Q .normal a w) (hs:SRd c st a w):
 wpAny P .any ops Q ops.size (Array.replicate ops.size false) a w:=by
 have hf:=MX bg
 obtain⟨S,tl,h0,h1,D0,h2⟩:=adL ops.toList sh [] st h
 rw[Array.length_toList] at h2
 rw[nil_append] at D0
 have hr:MY P T ops S:=⟨fun j o hj=>(h1 j o (by simpa using hj)).one⟩
 have hx:YJ P T ops S (fun j=>tl.getD j []):=⟨hr,fun j o hj=>h1 j o (by simpa using hj),fun i j oi oj pL hi hj hp hb id h3 h4=>by
  unfold De at D0;rw[pR] at D0;have h5:=D0 j (List.mem_range.2 (Array.getElem?_eq_some_iff.1 hj).1);rw[pR] at h5;have h6:=h5 i (List.mem_range.2 pL);simp only[hi,hj,hp,hb,Bool.not_true,Bool.false_or,pR] at h6;have h7:=h6 id h3;simp at h7;exact h7 h4⟩
 obtain⟨X,ρ,hh,he,hd,hk⟩:=hs
 refine Uh hT hx hf (c:=c) (fun a w hs=>hK _ a w h2 hs) ops.size _ a w ⟨X,ρ++replicate (jw ops.size S ops.size).length none,?_⟩ (by simp)
 have q4: ∀ k,k<ops.size->(Array.replicate ops.size false).getD k true=false:=by intro k hk;simp[hk]
 have dT:=Places.Le.append ρ (replicate (jw ops.size S ops.size).length none)
 refine⟨by simp,?_,hd,hk,by rw[h0];exact he.1,?_,?_,?_⟩
 .intro j oj hj hl
  have aH:j<ops.size:=(Array.getElem?_eq_some_iff.1 hj).1
  simp[aH] at hl
 .intro t i u hi ma hu
  have eI:=y9 hr (t:=t) i 0 (by omega) (fun k o _ hk bg NT=>by
   have aH:k<ops.size:=(Array.getElem?_eq_some_iff.1 bg).1;have:=(ma k o bg NT).2 (by omega);rw[q4 k aH] at this;cases this)
  rw[Nat.zero_add] at eI
  rw[eI,h0]
  have aH:t<st.env.length:=by rw[<-he.1];exact(Array.getElem?_eq_some_iff.1 hu).1
  have:=he.2 t u st.env[t] hu (by simp[aH])
  rw[qa]
  simp only[qb aH,Option.getD_some]
  exact this.mono (Same.refl X _) (fun _ _ h=>h) dT
 .intro i hi ma
  have eI:=fI hr i 0 (by omega) (fun k o _ hk bg=>by
   have aH:k<ops.size:=(Array.getElem?_eq_some_iff.1 bg).1;cases f7:a9 o.op with
   | false=>rfl
   | true=>
    have:=(ma k o bg f7).2 (by omega);rw[q4 k aH] at this;cases this)
  rw[Nat.zero_add] at eI
  rw[eI]
  unfold full
  rw[h0,Nat.sub_zero]
  exact hh.extend _
 intro i hi _ id h3 h4
 have hm:=ic hr i 0 (by omega)
 rw[Nat.zero_add,h0] at hm
 rw[getElem?_append_right (by rw[hh.len];omega),List.getElem?_replicate]
 rw[if_pos]
 have oT:(full ops.size S ops.size).length<=(full ops.size S 0).length:=by
  have aD: ∀ d i,i+d<=ops.size->(full ops.size S (i+d)).length=(full ops.size S i).length:=by
   intro d
   induction d with
   | zero=>intro i _;rfl
   | succ d ih=>
    intro i dk;have aH:i+d<ops.size:=by omega
    have ho:ops[i+d]?=some ops[i+d]:=by simp[aH]
    have bM:=(hr.step (i+d) _ ho).heap;obtain⟨hf1,hf2⟩:=kh hr ho;rw[show i+(d+1)=(i+d)+1 by omega,<-ih i (by omega)];cases f7:a9 ops[i+d].op with
    | false=>rw[hf1 f7]
    | true=>
     rw[hf2];unfold full;have:=bM.1;simp;omega
  have:=aD ops.size 0 (by omega);rw[Nat.zero_add] at this;omega
 have SE:=ic hr (ops.size - (i+1)) (i+1) (by omega)
 rw[show i+1+(ops.size - (i+1))=ops.size by omega] at SE
 unfold full at oT
 rw[Nat.sub_self,jw,append_nil,qe,Nat.sub_zero,h0] at oT
 rw[hh.len]
 omega
end
end Go.AM
