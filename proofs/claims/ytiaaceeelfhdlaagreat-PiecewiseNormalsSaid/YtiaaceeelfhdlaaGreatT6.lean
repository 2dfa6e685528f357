/- The abstract machine:maps. -/
import Derived.Test.YtiaaceeelfhdlaaGreatT5
import Derived.MapKept
import Derived.Test.YtiaaceeelfhdlaaGreatT1
set_option linter.all false
open List (append_assoc append_nil getElem?_append_right getElem?_eq_none getElem?_of_mem getElem?_set_ne getElem?_take length_cons length_drop length_set length_take map_cons mem_iff_getElem mem_map mem_of_getElem? nil_append range' replicate set_append_left)
namespace Go.AM
section
variable {P:Program} {T:Tab}
theorem Ra {c:PV} {n:Int} (h:PQ c=some n):c= .fv (.lit (.int .i64 n)):=by
 unfold PQ at h;split at h
 .cases h;rfl
 cases h
theorem zU: ∀ (cs:List PV) (ks:List Int),pq cs=some ks->cs=ks.map (fun n=> .fv (.lit (.int .i64 n)))
 | [],ks,h=>by simp[pq] at h;subst h;rfl
 | c::cs,ks,h=>by
  simp only[pq] at h;split at h
  .rename_i n ns h1 h2;cases h;rw[map_cons,<-zU cs ns h2,Ra h1]
  cases h
theorem H6 {w:World} {X:Nat->Prop} {ρ:Places} {u:Value} {x:PV} {ks:List Int} (h:PRd w X ρ u x) (hk:i5 x=some ks):u= .agg (ks.map (Value.int .i64)).toArray:=by
 unfold i5 at hk;split at hk;rotate_left
 .cases hk
 have:=zU _ _ hk;subst this;cases h with
 | agg us _ hn h1 hr=>
  congr 1;apply Array.ext
  .simpa using hn
  intro i pJ gq;have:=hr i us[i] (.fv (.lit (.int .i64 (ks[i]'(by simpa using gq))))) (by simp[pJ]) (by simp at gq;simp[gq]);have h2:=this.litInv;rw[h2];simp
theorem DG {a b:List Int} (h:(Value.agg (a.map (Value.int .i64)).toArray)= .agg (b.map (Value.int .i64)).toArray):a=b:=by
 injection h with h
 have h2:a.map (Value.int .i64)=b.map (Value.int .i64):=by
  have:=congrArg Array.toList h;simpa using this
 exact(List.map_inj_right (fun x y e=>by injection e)).1 h2
theorem Bf {es:List (List Int×PV)} {k:List Int} (h: ∀ e∈es,e.1≠k):dC es k=none:=by
 unfold dC;rw[Option.map_eq_none_iff,List.find?_eq_none];intro e he hk;exact h e he (by simpa using hk)
theorem r8: ∀ {es:List (List Int×PV)} {k:List Int} {v:PV} {i:Nat},(es.map (·.1)).Nodup->es[i]?=some (k,v)->dC es k=some v
 | [],k,v,i,_,h=>by simp at h
 | e::es,k,v,i,hn,h=>by
  unfold dC;rw[map_cons,List.nodup_cons] at hn;cases i with
  | zero=>
   simp at h;subst h;simp
  | succ i=>
   simp at h;have bC:k∈es.map (·.1):=mem_map.2 ⟨(k,v),mem_of_getElem? h,rfl⟩;have fX:(e.1==k)=false:=by
    rw[qx];intro he;exact hn.1 (he ▸ bC)
   rw[List.find?_cons,fX];exact r8 hn.2 h
theorem DH {w:World} {X:Nat->Prop} {ρ ρ':Places} {u:Value} {x:PV} (h:PRd w X ρ u x) (hs:still x=true):PRd w X ρ' u x:=by
 unfold still at hs;split at hs
 .cases h with | fv _ _ hf=>exact .fv _ _ hf
 .rename_i cs;rw[nF] at hs;cases h with
  | agg us _ hn h1 hr=>
   refine .agg us cs hn h1 (fun i v c hv hc=>?_);have lX:=hs c (mem_of_getElem? hc);have hp:=hr i v c hv hc;split at lX
   .cases hp with | fv _ _ hf=>exact .fv _ _ hf
   cases lX
 cases hs
theorem H7 {w:World} {X:Nat->Prop} {ρ:Places} {u:Value} {id:Nat} (h:PRd w X ρ u (.tab id)): ∃ g p,u= .map (some g)/\ρ[id]?=some (some p)/\p.b=some g:=by
 cases h with | tab _ g p hp hg=>exact⟨g,p,rfl,hp,hg⟩
theorem DI (_hT:ck P T) (t:TypeId):EffOp P T (.makeMap t none):=by
 intro c w X ρ H D R o e ρv r ho h hD hρ ao hc aA;simp only[aP] at ao;split at ao;rotate_left
 .cases ao
 rename_i i hi;split at ao;rotate_left
 .cases ao
 rename_i n _ hd;cases ao;obtain⟨d,rfl⟩:=mM (D:=D) (by simp at aA;omega);have PK:=hD H.length (qp _) (by simp);let p:Place:=⟨some w.heap.size,0,0,0⟩;have aG:H.length<ρ.length:=(List.getElem?_eq_some_iff.1 PK).1;have hg:=World.grownBy_alloc w (.map #[] 0) none;have hF:(H++([d]++R)).set H.length (.tab n [])=(H++[.tab n []])++R:=by simp
 have ct:=h.put (id:=H.length) (p:=p) (ob:= .tab n []) (row:=none) (w':=w.alloc (.map #[] 0)) (by simp) (.inl PK) hg (by simp)
  (fun j q o g hj hq ho hr hb=>⟨by simp,by
   have:=(h.own j q o g hq ho hr hb).2;intro he;simp only[p,qo] at he;omega⟩)
  (fun g hg=>by simp only[p,qo] at hg;left;omega)
  (fun g hg=>by simp only[p,qo] at hg;subst hg;exact⟨.inl h.ge,by simp⟩)
  (by simp)
  ⟨⟨by simp,w.heap.size,0,#[],rfl,heap_alloc_new w _,rfl,by simp,fun i e k v he hv=>by simp at he⟩,fun g hg=> .inr hg⟩
 rw[hF] at ct;refine⟨_,_,_,_,.inl ?_,ct.2,ct.1,.tab H.length w.heap.size p (by simp[aG]) rfl,fun id cF=>by
  rw[getElem?_set_ne (by simp at cF;omega)]⟩
 simp[execOp,ho,Instr.makeMap]
theorem Bg (hT:ck P T) (t:TypeId) (m k:Operand) (ok:Bool):d4 P T (.lookup t m k ok):=by
 intro c w X ρ H F o e ρv r lo hi ho h hH hρ ao hc;have hm:=hρ m (by simp[Op.operands]);have hk:=hρ k (by simp[Op.operands]);simp only[aP] at ao;split at ao;rotate_left
 .cases ao
 rename_i i id ks hi hmv hkv;split at ao;rotate_left
 .cases ao
 rename_i n zv n2 es hd fr;split at ao;rotate_left
 .cases ao
 rename_i kM;obtain⟨aA,rfl⟩:=kM;simp only[Res.if,qo] at ao;subst ao;rw[hmv] at hm;obtain⟨g,p,T9,hp,qQ⟩:=H7 hm;have O7:=H6 hk hkv;obtain⟨⟨KJ,g2,clock,vs,eC,hh,dh,l6,hcell⟩,_⟩:=h.ob id p _ hp (hH id _ fr);rw[qQ] at eC;cases eC;have KV:=(hT _ _ hi).desc;rw[hd] at KV;obtain⟨kt,el,ti,z,hu,eN,hz,bQ,hzr,KN,Gu⟩:=KV;obtain⟨lk,Iu⟩:=Gu ks aA hc;have xW:=fun em=>KN.check w em Iu
 have cg:(getObj g).run P w= .ok (.map vs clock) w:=by simp[getObj,Sem.run,hh]
 have O8: ∀ (j:Nat) ent,vs[j]?=some ent-> ∃ k' v',es[j]?=some (k',v')/\ent.key= .agg (k'.map (Value.int .i64)).toArray/\still v'=true/\PRd w X [] ent.val v':=by
  intro j ent hj;have aG:j<es.length:=by rw[<-dh];exact(Array.getElem?_eq_some_iff.1 hj).1
  obtain⟨a1,a2,a3⟩:=hcell j ent es[j].1 es[j].2 hj (by simp[aG]);exact⟨_,_,by simp[aG],a1,a2,a3⟩
 have pe: ∀ e∈vs.toList,∃ l,keyOf P kt e.key=some l:=by
  intro ent he;obtain⟨j,hj,PG⟩:=mem_iff_getElem.1 he;obtain⟨k',v',h1,h2,_⟩:=O8 j ent (by rw[<-PG];simp at hj;simp[hj]);obtain⟨b1,b2⟩:=KJ _ (mem_of_getElem? h1);rw[h2];exact Gu k' b1 b2
 have hzv:(zeroValue el).run P w= .ok z w:=by simp[zeroValue,typeInfo,eN,hz]
 rcases KN.find w Iu vs.toList pe with⟨hf,xG⟩ | ⟨j,ent,hf,hj,XS⟩
 .have ac8:dC es ks=none:=by
   refine Bf (fun e he KL=>?_);obtain⟨j,hj,PG⟩:=mem_iff_getElem.1 he;have hjv:j<vs.size:=by rw[dh];exact hj
   obtain⟨a1,_,_⟩:=hcell j vs[j] e.1 e.2 (by simp[hjv]) (by rw[qb hj,PG]);exact xG vs[j] (Array.mem_toList_iff.2 (Array.getElem_mem hjv)) (by rw[a1,KL])
  refine⟨rfl,OpOK.still (u:=if ok then .tuple #[z,.bool false] else z) h ?_ ?_⟩
  .simp only[execOp,ho,T9,O7];cases ok<;>simp[Instr.lookup,run_underlying hu,cg,xW,hf,hzv]
  rw[ac8];cases ok with
  | false=>exact hzr w X ρ
  | true=>exact .tup _ _ rfl (fun i u c hu hc=>by
   match i with
   | 0=>simp at hu hc;subst hu;subst hc;exact hzr w X ρ
   | 1=>simp at hu hc;subst hu;subst hc;exact .fv _ _ (.lit _ rfl)
   | i+2=>simp at hu)
 obtain⟨k',v',h1,h2,h3,h4⟩:=O8 j ent (by simpa using hj);have Il:k'=ks:=DG (h2.symm.trans XS);rw[Il] at h1;have ada:=r8 l6 h1;have hv:PRd w X ρ ent.val v':=DH h4 h3;refine⟨rfl,OpOK.still (u:=if ok then .tuple #[ent.val,.bool true] else ent.val) h ?_ ?_⟩
 .simp only[execOp,ho,T9,O7];cases ok<;>simp[Instr.lookup,run_underlying hu,cg,xW,hf]
 rw[ada];cases ok with
 | false=>exact hv
 | true=>exact .tup _ _ rfl (fun i u c hu hc=>by
  match i with
  | 0=>simp at hu hc;subst hu;subst hc;exact hv
  | 1=>simp at hu hc;subst hu;subst hc;exact .fv _ _ (.lit _ rfl)
  | i+2=>simp at hu)
theorem uj: ∀ {es:List (List Int×PV)} {k:List Int} {v:PV},(∀ e∈es,e.1≠k)->i6 es k v=es++[(k,v)]
 | [],k,v,_=>rfl
 | e::es,k,v,h=>by
  have fX:(e.1==k)=false:=by rw[qx];exact h e (by simp)
  simp only[i6,fX];rw[uj (fun e he=>h e (ql _ he))];rfl
theorem uk: ∀ {es:List (List Int×PV)} {k:List Int} {v u:PV} {i:Nat},(es.map (·.1)).Nodup->es[i]?=some (k,u)->i6 es k v=es.set i (k,v)
 | [],k,v,u,i,_,h=>by simp at h
 | e::es,k,v,u,i,hn,h=>by
  rw[map_cons,List.nodup_cons] at hn;cases i with
  | zero=>
   simp at h;subst h;simp[i6]
  | succ i=>
   simp at h;have bC:k∈es.map (·.1):=mem_map.2 ⟨(k,u),mem_of_getElem? h,rfl⟩;have fX:(e.1==k)=false:=by
    rw[qx];intro he;exact hn.1 (he ▸ bC)
   simp only[i6,fX];rw[uk hn.2 h];rfl
theorem HRd.reTab {c:fR} {w:World} {X:Nat->Prop} {ρ:Places} {F:List Ob} (h:HRd c w X ρ F) {id g n:Nat} {p:Place} {es es':List (List Int×PV)} {vs vs':Array MapEntry} {clock clock':Nat}
 (hp:ρ[id]?=some (some p)) (fr:F[id]?=some (.tab n es)) (qQ:p.b=some g) (hh:w.heap[g]?=some (.map vs clock))
 (KJ: ∀ e∈es',e.1.length=n/\ ∀ x∈e.1,-9223372036854775808<=x/\x<9223372036854775808) (dh:vs'.size=es'.length) (l6:(es'.map (·.1)).Nodup)
 (hcell: ∀ (i:Nat) e k v,vs'[i]?=some e->es'[i]?=some (k,v)->e.key= .agg (k.map (Value.int .i64)).toArray/\still v=true/\PRd w X [] e.val v):
 ∃ X',Stp c w {w with heap:=w.heap.setIfInBounds g (.map vs' clock')} X X' ρ ρ/\HRd c {w with heap:=w.heap.setIfInBounds g (.map vs' clock')} X' ρ (F.set id (.tab n es')):=by
 have aG:g<w.heap.size:=(Array.getElem?_eq_some_iff.1 hh).1
 have tI:X g:=(h.ob id p _ hp fr).2 g qQ
 have mR:w.grownBy {w with heap:=w.heap.setIfInBounds g (.map vs' clock')} (some g):=
  ⟨rfl,rfl,rfl,by simp,fun k _ hk=>by simp[Array.getElem?_setIfInBounds_ne (show g≠k from fun e=>hk (by rw[e]))]⟩
 have ia: ∀ b,(X b\/p.b=some b)->X b:=fun b hb=>by
  rcases hb with hb | hb
  .exact hb
  rw[qQ] at hb;cases hb;exact tI
 have ct:=h.put (id:=id) (p:=p) (ob:= .tab n es') (row:=some g) (w':={w with heap:=w.heap.setIfInBounds g (.map vs' clock')}) (List.getElem?_eq_some_iff.1 fr).1 (.inr hp) mR
  (by intro g' kP;cases kP;exact tI)
  (fun j2 q o2 g2 En hq gg f1 dN=>by
   have fX:g2≠g:=by
    intro he;subst he;exact En (h.inj j2 id q p o2 _ g2 hq hp gg fr f1 rfl dN qQ)
   exact⟨by simp[fX],by rw[qQ];simp;exact fun he=>fX he.symm⟩)
  (fun g2 eC=>by rw[qQ] at eC;cases eC;exact .inr tI)
  (fun g2 eC=>by rw[qQ] at eC;cases eC;exact⟨(h.own id p _ g hp fr rfl qQ).1,Nat.lt_of_lt_of_le (h.own id p _ g hp fr rfl qQ).2 mR.size⟩)
  (fun g2 eC=>by cases eC;exact(h.own id p _ g hp fr rfl qQ).1)
  ⟨⟨KJ,g,clock',vs',qQ,by simp[aG],dh,l6,fun i e k v he hv=>by
   obtain⟨a1,a2,a3⟩:=hcell i e k v he hv;exact⟨a1,a2,a3.mono ⟨mR.size,fun b hb kK=>mR.block b hb (fun he=>kK (by cases he;exact tI))⟩ (fun b _ hb=>ia b hb) (Places.Le.refl [])⟩⟩,fun g2 eC=> .inr eC⟩
 rw[n_ hp] at ct
 exact⟨_,ct.2,ct.1⟩
theorem yt (hT:ck P T) (t:TypeId) (m k x:Operand):EffOp P T (.mapUpdate t m k x):=by
 intro c w X ρ H D R o e ρv r ho h hD hρ ao hc aA;have hm:=hρ m (by simp[Op.operands]);have hk:=hρ k (by simp[Op.operands]);have hx:=hρ x (by simp[Op.operands]);simp only[aP] at ao;split at ao;rotate_left
 .cases ao
 rename_i i id ks hi hmv hkv;split at ao;rotate_left
 .cases ao
 rename_i n zv n2 es hd fr;split at ao;rotate_left
 .cases ao
 rename_i kM;obtain⟨k6,rfl,hsx⟩:=kM;cases ao;simp only at hc aA;have gJ:D=[]:=List.eq_nil_of_length_eq_zero (by simp at aA;simpa using aA);subst gJ;rw[hmv] at hm;obtain⟨g,p,T9,hp,qQ⟩:=H7 hm;have O7:=H6 hk hkv;have Xl:(H++([]++R))[id]?=some (.tab n2 es):=bm id _ fr;obtain⟨⟨KJ,g2,clock,vs,eC,hh,dh,l6,hcell⟩,_⟩:=h.ob id p _ hp Xl;rw[qQ] at eC;cases eC;have KV:=(hT _ _ hi).desc;rw[hd] at KV;obtain⟨kt,el,ti,z,hu,eN,hz,bQ,hzr,KN,Gu⟩:=KV;obtain⟨lk,Iu⟩:=Gu ks k6 hc;have xW:=fun em=>KN.check w em Iu
 have adb:=KN.stays w Iu;have cg:(getObj g).run P w= .ok (.map vs clock) w:=by simp[getObj,Sem.run,hh]
 have bg: ∀ ob:Obj,(setObj g ob).run P w= .ok () {w with heap:=w.heap.setIfInBounds g ob}:=fun ob=>by simp[setObj,Sem.run,hh]
 have hxr:PRd w X [] (e x) (ρv x):=DH hx hsx;have O8: ∀ (j:Nat) ent,vs[j]?=some ent-> ∃ k' v',es[j]?=some (k',v')/\ent.key= .agg (k'.map (Value.int .i64)).toArray/\still v'=true/\PRd w X [] ent.val v':=by
  intro j ent hj;have aG:j<es.length:=by rw[<-dh];exact(Array.getElem?_eq_some_iff.1 hj).1
  obtain⟨a1,a2,a3⟩:=hcell j ent es[j].1 es[j].2 hj (by simp[aG]);exact⟨_,_,by simp[aG],a1,a2,a3⟩
 have pe: ∀ e∈vs.toList,∃ l,keyOf P kt e.key=some l:=by
  intro ent he;obtain⟨j,hj,PG⟩:=mem_iff_getElem.1 he;obtain⟨k',v',h1,h2,_⟩:=O8 j ent (by rw[<-PG];simp at hj;simp[hj]);obtain⟨b1,b2⟩:=KJ _ (mem_of_getElem? h1);rw[h2];exact Gu k' b1 b2
 have O6: ∀ ob:Ob,(H++([]++R)).set id ob=H.set id ob++R:=fun ob=>by
  rw[nil_append,set_append_left _ _ (List.getElem?_eq_some_iff.1 fr).1]
 rcases KN.find w Iu vs.toList pe with⟨hf,xG⟩ | ⟨j,ent,hf,hj,XS⟩
 .have hnk: ∀ e∈es,e.1≠ks:=fun e he KL=>by
   obtain⟨j,hj,PG⟩:=mem_iff_getElem.1 he;have hjv:j<vs.size:=by rw[dh];exact hj
   obtain⟨a1,_,_⟩:=hcell j vs[j] e.1 e.2 (by simp[hjv]) (by rw[qb hj,PG]);exact xG vs[j] (Array.mem_toList_iff.2 (Array.getElem_mem hjv)) (by rw[a1,KL])
  rw[uj hnk];obtain⟨X',hs,uF⟩:=h.reTab (es':=es++[(ks,ρv x)]) (vs':=vs.push {key:= .agg (ks.map (Value.int .i64)).toArray,val:=e x,born:=clock}) (clock':=clock+1) hp Xl qQ hh
   (fun e he=>by
    rcases List.mem_append.1 he with he | he
    .exact KJ e he
    rw[qz] at he;subst he;exact⟨k6,hc⟩)
   (by simp[dh])
   (by
    rw[BM,List.nodup_append];refine⟨l6,by simp,fun a ha b hb=>?_⟩;simp at hb;subst hb;obtain⟨e,he,rfl⟩:=mem_map.1 ha;exact hnk e he)
   (fun i e2 k2 v2 OH nw=>by
    by_cases gq:i<vs.size
    .rw[Array.getElem?_push_lt gq] at OH;rw[qi (by omega)] at nw;exact hcell i e2 k2 v2 (by rw[<-OH];simp[gq]) nw
    have eV:i=vs.size:=by
     have:=(List.getElem?_eq_some_iff.1 nw).1;simp at this;omega
    subst eV;rw[getElem?_append_right (by omega),dh] at nw;simp at OH nw;obtain⟨rfl,rfl⟩:=nw;subst OH;exact⟨rfl,hsx,hxr⟩)
  rw[O6] at uF;refine⟨undef,_,X',ρ,.inr ⟨?_,rfl⟩,hs,uF,.tup #[] [] rfl (by simp),fun _ _=>rfl⟩;simp only[execOp,ho,T9,O7];simp[Instr.mapUpdate,run_underlying hu,cg,xW,hf,bg]
 obtain⟨k',v',h1,h2,h3,h4⟩:=O8 j ent (by simpa using hj);have Il:k'=ks:=DG (h2.symm.trans XS);rw[Il] at h1;rw[uk l6 h1];have hjs:j<vs.size:=by rw[dh];exact(List.getElem?_eq_some_iff.1 h1).1
 have hvj:vs[j]?=some ent:=by simpa using hj
 obtain⟨X',hs,uF⟩:=h.reTab (es':=es.set j (ks,ρv x)) (vs':=vs.modify j fun q=>{q with key:= .agg (ks.map (Value.int .i64)).toArray,val:=e x}) (clock':=clock) hp Xl qQ hh
  (fun e he=>by
   rcases List.mem_or_eq_of_mem_set he with he | he
   .exact KJ e he
   subst he;exact⟨k6,hc⟩)
  (by simp[dh])
  (by
   have:(es.set j (ks,ρv x)).map (·.1)=es.map (·.1):=by
    apply List.ext_getElem?;intro q;rw[List.getElem?_map,List.getElem?_map];by_cases hq:j=q
    .subst hq;rw[qv (by omega),h1];rfl
    rw[getElem?_set_ne hq]
   rw[this];exact l6)
  (fun i e2 k2 v2 OH nw=>by
   by_cases uX:j=i
   .subst uX;rw[qv (by omega)] at nw;cases nw;rw[Array.getElem?_modify,if_pos rfl,hvj] at OH;cases OH;exact⟨rfl,hsx,hxr⟩
   rw[getElem?_set_ne uX] at nw;rw[Array.getElem?_modify,if_neg uX] at OH;exact hcell i e2 k2 v2 OH nw)
 rw[O6] at uF;refine⟨undef,_,X',ρ,.inr ⟨?_,rfl⟩,hs,uF,.tup #[] [] rfl (by simp),fun _ _=>rfl⟩;have hvk:ent.key= .agg (ks.map (Value.int .i64)).toArray:=XS;simp only[execOp,ho,T9,O7];simp[Instr.mapUpdate,run_underlying hu,cg,xW,hf,bg,hvj,hvk,adb]
end
end Go.AM
namespace Go.AM
section
variable {P:Program} {T:Tab}
theorem JQ {w:World} {n l h m:Nat} {lo hi mx:Option Operand} {e:Operand->Value} {ρv:Operand->PV} {X:Nat->Prop} {ρ:Places}
 (gj: ∀ x∈lo.toArray,PRd w X ρ (e x) (ρv x)) (gK: ∀ x∈hi.toArray,PRd w X ρ (e x) (ρv x)) (Gc: ∀ x∈mx.toArray,PRd w X ρ (e x) (ρv x)) {c1 c2 c3:Prop} (K3:mx.isSome=true->hi.isSome=true)
 (dp:cS (lo.map ρv) 0=some (c1,l)) (dN:cS (hi.map ρv) n=some (c2,h)) (EE:cS (mx.map ρv) n=some (c3,m)) (qW:c1) (lX:c2) (EJ:c3) (Gy:l<=h) (hhm:h<=m) (Xm:m<=n):
 (Instr.sliceBounds false n n (lo.map e) (hi.map e) (mx.map e)).run P w= .ok (l,h,m) w:=by
 rcases lR gj dp with⟨rfl,rfl,_⟩ | ⟨x,k,a,rfl,hx,rfl,rfl⟩<;>
  rcases lR gK dN with⟨rfl,rfl,_⟩ | ⟨y,k',b,rfl,hy,rfl,rfl⟩<;>
   rcases lR Gc EE with⟨rfl,rfl,_⟩ | ⟨z,k2,d,rfl,hz,rfl,rfl⟩
 .simp[Instr.sliceBounds]
 .simp at K3
 .have h1:0<=b/\b<=(m:Int):=by omega
  simp[Instr.sliceBounds,Instr.sliceBound,hy,asIntOf,h1]
 .have h1:0<=d/\d<=(n:Int):=by omega
  have h2:0<=b/\b<=max d 0:=by omega
  simp[Instr.sliceBounds,Instr.sliceBound,hy,hz,asIntOf,h1,h2]
 .have h1:0<=a/\a<=(m:Int):=by omega
  simp[Instr.sliceBounds,Instr.sliceBound,hx,asIntOf,h1]
 .simp at K3
 .have h1:0<=b/\b<=(m:Int):=by omega
  have h2:0<=a/\a<=max b 0:=by omega
  simp[Instr.sliceBounds,Instr.sliceBound,hx,hy,asIntOf,h1,h2]
 have h1:0<=d/\d<=(n:Int):=by omega
 have h2:0<=b/\b<=max d 0:=by omega
 have h3:0<=a/\a<=max b 0:=by omega
 simp[Instr.sliceBounds,Instr.sliceBound,hx,hy,hz,asIntOf,h1,h2,h3]
theorem NG {w:World} {X:Nat->Prop} {ad:Addr} {n m:Nat} {xs:List (List FV)} (hf:FRd w X (.slice (some ad) n n) (.sl xs)) (hm:m<=n):FRd w X (.slice (some ad) m m) (.sl (xs.take m)):=by
 cases hf with
 | sl _ _ _ s _ us hn hc hs h0 hX hb hcell hrd=>
  refine .sl ad m m s _ us (by simp;omega) (qp _) (fun x hx=>hs x (xY hx)) h0 (fun hz=>hX (by omega)) (fun hz=>hb (by omega)) (fun i j x y hx hy=>?_) (fun i j x y hx hy=>?_)
  .rw[getElem?_take] at hx;split at hx
   .exact hcell i j x y hx hy
   cases hx
  rw[getElem?_take] at hx;split at hx
  .exact hrd i j x y hx hy
  cases hx
theorem Bh (hT:ck P T) {t:TypeId} {i:TyI} (hi:T.at t=some i) {n el:Nat} (nL:i.d= .arr n el) (x:Operand) (lo oy mx:Option Operand):EffOp P T (.slice t x lo oy mx):=by
 intro c w X ρ H D R o e ρv r ho h hD hρ ao hc aA;have hx:=hρ x (by simp[Op.operands]);have gj: ∀ y∈lo.toArray,PRd w X ρ (e y) (ρv y):=fun y hy=>hρ y (by simp[Op.operands] at hy ⊢;simp[hy])
 have gK: ∀ y∈oy.toArray,PRd w X ρ (e y) (ρv y):=fun y hy=>hρ y (by simp[Op.operands] at hy ⊢;simp[hy])
 have Gc: ∀ y∈mx.toArray,PRd w X ρ (e y) (ρv y):=fun y hy=>hρ y (by simp[Op.operands] at hy ⊢;simp[hy])
 have hd:=(hT _ _ hi).desc;rw[nL] at hd;simp only[fm] at hd;simp only[aP,hi,nL] at ao;split at ao;rotate_left
 .cases ao
 rename_i ie id j off c1 l c2 hh c3 m iZ hv dp dN EE;rw[hv] at hx;split at ao;rotate_left
 .cases ao
 rename_i rw cs fr;split at ao;rotate_left
 .cases ao
 rename_i fs xM;split at ao;rotate_left
 .cases ao
 rename_i hg;obtain⟨rfl,cY,yI,K3⟩:=hg;cases ao;have h5:(shutIds (id::((cs.drop off).take (n*ie.size)).flatMap eu) H).length=H.length+D.length:=aA;rw[aV] at h5;have gJ:D=[]:=List.eq_nil_of_length_eq_zero (by omega);subst gJ;obtain⟨qW,lX,EJ,Gy,hhm,Xm,KM⟩:=hc;obtain⟨ti,z,eN,dD,_⟩:=(hT _ _ iZ).info;have jf: ∀ k∈id::((cs.drop off).take (n*ie.size)).flatMap eu,k<H.length:=by
  intro k hk;rw[uI] at hk;rcases hk with rfl | hk
  .exact(List.getElem?_eq_some_iff.1 fr).1
  exact o3 xM k hk
 generalize kQ:e x=u at hx;cases hx with
 | ptr _ _ _ g p hp ic=>
  have ahr:=JQ (P:=P) (w:=w) gj gK Gc K3 dp dN EE qW lX EJ Gy hhm Xm;refine OpOK.shutting jf h (u:= .slice (if m=l then some ⟨g,off,none⟩ else(some (⟨g,off,none⟩:Addr)).map (·.add (l*ie.size))) (hh - l) (m - l)) ?_ (fun X' hX hn=>?_)
  .have he:(0*p.size+off)=off:=by omega
   rw[he] at kQ;simp only[execOp,ho,kQ];simp only[Instr.sliceAt,Sem.run_bind,run_underlying hd,Result.andThen_ok,Instr.sureAddr,Sem.run_pure,ahr,sizeOf,typeInfo,run_program,eN,dD];split<;>simp
  obtain⟨⟨g',us,kP,hhp,dh,eA,hcell⟩,_⟩:=h.ob id p _ hp (bm id _ fr);rw[ic] at kP;cases kP;have k4:fs.length=n*ie.size:=by rw[gk xM];simp;omega
  have K7: ∀ (k:Nat) y,fs[k]?=some y->w.cell? ⟨g,off+k,none⟩=some (us.getD (off+k) undef)/\FRd w X' (us.getD (off+k) undef) y:=by
   intro k y hy;have hk:k<n*ie.size:=by rw[<-k4];exact(List.getElem?_eq_some_iff.1 hy).1
   have aG:off+k<us.size:=by omega
   have hc5:((cs.drop off).take (n*ie.size))[k]?=some cs[off+k]:=by
    rw[getElem?_take,if_pos hk,List.getElem?_drop];simp[show off+k<cs.length by omega]
   obtain⟨y',Eo,O2⟩:=mJ xM k _ hc5;rw[hy] at Eo;cases Eo;rw[show us.getD (off+k) undef=us[off+k] by simp[aG]];refine⟨by rw[cell_of_row w g _ us _ _ hhp];simp[aG],?_⟩;refine mI h bm (hcell _ _ _ (Array.getElem?_eq_getElem aG) (by simp[show off+k<cs.length by omega])) O2 hX (fun k2 iY=>hn k2 ?_);rw[uI,List.mem_flatMap];exact .inr ⟨_,mem_of_getElem? hc5,iY⟩
  have O5:FRd w X' (.slice (some ⟨g,off,none⟩) n n) (.sl (dr ie.size n fs)):=by
   refine .sl _ n n ie.size _ (fun i j=>us.getD (off+(i*ie.size+j)) undef) (f9 _ _ _) (qp _) (qu k4) rfl (fun _=>hn id (by simp) p _ g hp (bm id _ fr) trivial ic) (fun _=>(Array.getElem?_eq_some_iff.1 hhp).1) (fun i j x y hx hy=>?_) (fun i j x y hx hy=>?_)
   .exact(K7 _ _ (n9 hx hy).1).1
   exact(K7 _ _ (n9 hx hy).1).2
  have ia:=A8 (NG O5 Xm) (sz:=ie.size) (fun x hx=>qu k4 x (xY hx)) (cap:=m) Gy hhm;have hte:(((dr ie.size n fs).take m).drop l).take (hh - l)=((dr ie.size n fs).drop l).take (hh - l):=by
   rw[List.drop_take,List.take_take,Nat.min_eq_left (by omega)]
  rw[hte] at ia;show PRd w X' ρ _ (if m=hh then _ else _);by_cases hmh:m=hh
  .rw[if_pos hmh];have e1:m - l=hh - l:=by rw[hmh]
   rw[e1] at ia ⊢;exact .clip _ _ _ ia
  rw[if_neg hmh];exact .fv _ _ ia
theorem um {w:World} {t:TypeId} {ti:TypeInfo} (eN:P.info? t=some ti) {v:Value} (hv:v.cells.size=ti.size) {g o e':Nat} {cur:Array Value} (hg:w.heap[g]?=some (.cells cur e' (0,0)))
 (hl:o+v.cells.size<=cur.size) (h1: ∀ (i:Nat) u,v.cells[i]?=some u->u.oneCell'=true):
 (Instr.storeAt t (.pointer (some ⟨g,o,none⟩)) v).run P w= .ok () (w.setRow g (cur.toList.take o++v.cells.toList++cur.toList.drop (o+v.cells.size)).toArray):=by
 have bQ:=run_storeCells_at P g o e' v.cells.toList 0 cur w hg (by simpa using hl) (fun u hu=>by
  obtain⟨i,hi⟩:=getElem?_of_mem hu;exact h1 i u (by simpa using hi))
 simp only[Nat.add_zero,Array.length_toList] at bQ
 simp[Instr.storeAt,Instr.sureAddr,storeVar,sizeOf,typeInfo,eN,hv,bQ]
theorem JR (hT:ck P T) (t:TypeId) (a x:Operand):EffOp P T (.store t a x):=by
 intro c w X ρ H D R o e ρv r ho h hD hρ ao hc aA;have ha:=hρ a (by simp[Op.operands]);have hx:=hρ x (by simp[Op.operands]);simp only[aP] at ao;split at ao;rotate_left
 .cases ao
 rename_i i hi;obtain⟨ti,z,eN,dD,_⟩:=(hT _ _ hi).info;split at ao;rotate_left
 .cases ao
 rename_i id j off hv;rw[hv] at ha;split at ao;rotate_left
 .cases ao
 rename_i cd H' bQ;cases ao;obtain⟨jv,eO,cY⟩:=hc;obtain⟨f_,eA⟩:=qg hx (by omega);have GF:=wZ hx;generalize kQ:e a=u at ha;cases ha with
 | ptr _ _ _ g p hp ic=>
  unfold storeAt at bQ;split at bQ
  .rename_i xs0 fr;split at bQ;rotate_left
   .cases bQ
   rename_i fs xs xM KO;cases bQ;have jf:=o3 xM;have GC:((ft H (ρv x).cells).set id (Ob.row true (xs.set j (eH (xs.getD j []) off fs)))).length=H.length+D.length:=aA;rw[length_set] at GC;unfold ft at GC;rw[aV] at GC;have gJ:D=[]:=List.eq_nil_of_length_eq_zero (by omega);subst gJ;obtain⟨X1,h1,pj,jd⟩:=h.shutIds ((ρv x).cells.flatMap eu);rw[eM _ jf] at h1;obtain⟨nC,KM⟩:=jv;have et:(shutIds ((ρv x).cells.flatMap eu) H++([]++R))[id]?=some (.row true xs):=bm id _ KO;obtain⟨⟨xP,kR,us,gf,O4⟩,xQ⟩:=h1.ob id p _ hp et;have tI:X1 g:=(xQ g ic).1 rfl;have ni:w.ownsRow 0 p.e p.size (.slice (some ⟨g,0,none⟩) xs.length p.cap) xs.length us:=by simpa [Place.val,ic] using gf
   obtain⟨tC,eE⟩:=ni;rcases eE with⟨h5,_⟩ | ⟨g',cap',cur,h5,_,je,l9,nH,tJ,sn⟩
   .cases h5
   cases h5;have Su:xs[j]?=some (xs.getD j []):=by simp[nC]
   have hxj:(xs.getD j []).length=p.size:=kR _ (mem_of_getElem? Su);have Gn:(j+1)*p.size<=xs.length*p.size:=qn _ nC;have Er:xs.length*p.size<=p.cap*p.size:=qn _ l9;rw[Nat.add_mul] at Gn;have aht:=gk xM;have cL:=um (P:=P) (w:=w) eN (v:=e x) (by omega) (o:=j*p.size+off) je (by omega) eA;have mR:=g6 w g (cur.toList.take (j*p.size+off)++(e x).cells.toList++cur.toList.drop (j*p.size+off+(e x).cells.size)).toArray;have cg:=fun k=>g7 (cur:=cur) (o:=j*p.size+off) (vs:=(e x).cells.toList) (by simp;omega) k
   simp only[Array.length_toList,Array.getElem?_toList] at cg;have pO:=setRow_heap w g cur (cur.toList.take (j*p.size+off)++(e x).cells.toList++cur.toList.drop (j*p.size+off+(e x).cells.size)).toArray p.e (0,0) je;have d8:(execOp e o).run P w= .ok .skip (w.setRow g (cur.toList.take (j*p.size+off)++(e x).cells.toList++cur.toList.drop (j*p.size+off+(e x).cells.size)).toArray):=by
    simp only[execOp,ho,kQ,Sem.run_bind,cL,Result.andThen_ok,Sem.run_pure]
   generalize jw:(cur.toList.take (j*p.size+off)++(e x).cells.toList++cur.toList.drop (j*p.size+off+(e x).cells.size)).toArray=new at d8 mR cg pO;have Et:new.size=cur.size:=by
    rw[<-jw];simp;omega
   have Xn: ∀ (k:Nat),k<xs.length*p.size->us[k]?=cur[k]?:=by
    intro k hk;rw[<-sn,getElem?_take,if_pos hk];simp
   have pN:(w.setRow g new).ownsRow 0 p.e p.size (.slice (some ⟨g,0,none⟩) xs.length p.cap) xs.length (new.toList.take (xs.length*p.size)):=by
    refine⟨by have e9:new.toList.length=cur.size:=Et;rw[length_take,e9,tJ,Nat.min_eq_left Er],.inr ⟨g,p.cap,new,rfl,dU _,pO,l9,nH,by rw[Et,tJ],rfl⟩⟩
   have ahu: ∀ (k:Nat) u y,(e x).cells[k]?=some u->fs[k]?=some y->FRd w X1 u y:=by
    intro k u y hu hy;have aG:k<(ρv x).cells.length:=by rw[<-aht];exact(List.getElem?_eq_some_iff.1 hy).1
    obtain⟨y',Eo,O2⟩:=mJ xM k (ρv x).cells[k] (by simp[aG]);rw[hy] at Eo;cases Eo;refine mI h bm (GF k u _ hu (by simp[aG])) O2 pj (fun k2 iY=>jd k2 ?_);rw[List.mem_flatMap];exact⟨_,by simp,iY⟩
   have ct:=h1.put (id:=id) (p:=p) (ob:= .row true (xs.set j (eH (xs.getD j []) off fs))) (row:=some g) (w':=w.setRow g new) (by have:=(List.getElem?_eq_some_iff.1 et).1;exact this) (.inr hp) mR
    (by intro g' kP;cases kP;exact tI)
    (fun j2 q o2 g2 En hq gg f1 dN=>by
     have fX:g2≠g:=by
      intro he;subst he;exact En (h1.inj j2 id q p o2 _ g2 hq hp gg et f1 rfl dN ic)
     exact⟨by simp[fX],by rw[ic];simp;exact fun he=>fX he.symm⟩)
    (fun g2 eC=>by rw[ic] at eC;cases eC;exact .inr tI)
    (fun g2 eC=>by rw[ic] at eC;cases eC;exact⟨(h1.own id p _ g hp et rfl ic).1,Nat.lt_of_lt_of_le (h1.own id p _ g hp et rfl ic).2 mR.size⟩)
    (fun g2 eC=>by cases eC;exact(h1.own id p _ g hp et rfl ic).1)
    ⟨⟨xP,by
     intro y hy;obtain⟨k,hk⟩:=getElem?_of_mem hy;by_cases XR:j=k
     .subst XR;rw[qv nC] at hk;cases hk;rw[f6 (by omega)];exact hxj
     .rw[getElem?_set_ne XR] at hk;exact kR y (mem_of_getElem? hk),new.toList.take (xs.length*p.size),by rw[length_set];simpa [Place.val,ic] using pN,by
     intro i2 k y1 y2 yJ tB;have uG: ∀ {u y},FRd w X1 u y->FRd (w.setRow g new) (fun b=>X1 b\/p.b=some b) u y:=fun hf=>hf.mono ⟨mR.size,fun b hb kK=>mR.block b hb (fun he=>kK (by cases he;exact tI))⟩ (fun b hb kK=>by
      rcases kK with kK | kK
      .exact kK
      rw[ic] at kK;cases kK;exact tI)
     have gq:i2<xs.length:=by have:=(List.getElem?_eq_some_iff.1 yJ).1;simpa using this
     have Es:(i2+1)*p.size<=xs.length*p.size:=qn _ gq;rw[Nat.add_mul] at Es;by_cases uX:j=i2
     .subst uX;rw[qv nC] at yJ;cases yJ;have hk:k<p.size:=by
       have:=(List.getElem?_eq_some_iff.1 tB).1;rw[f6 (by omega)] at this;omega
      rw[iG (by omega)] at tB;have ahv:(new.toList.take (xs.length*p.size))[j*p.size+k]?=new[j*p.size+k]?:=by
       rw[getElem?_take,if_pos (by omega)];simp
      rw[ahv,cg];by_cases oB:k<off
      .rw[if_pos oB] at tB;rw[if_pos (by omega)];obtain⟨u,hu,hf⟩:=O4 j k _ y2 Su tB;rw[Xn _ (by omega)] at hu;exact⟨u,hu,uG hf⟩
      rw[if_neg oB] at tB;rw[if_neg (by omega)];by_cases iY:k<off+fs.length
      .rw[if_pos iY] at tB;rw[if_pos (by omega)];have aG:k - off<(e x).cells.size:=by omega
       rw[show j*p.size+k - (j*p.size+off)=k - off by omega];exact⟨(e x).cells[k - off],by simp[aG],uG (ahu _ _ _ (by simp[aG]) tB)⟩
      rw[if_neg iY] at tB;rw[if_neg (by omega)];obtain⟨u,hu,hf⟩:=O4 j k _ y2 Su tB;rw[Xn _ (by omega)] at hu;exact⟨u,hu,uG hf⟩
     .rw[getElem?_set_ne uX] at yJ;have hk:k<p.size:=by rw[<-kR y1 (mem_of_getElem? yJ)];exact(List.getElem?_eq_some_iff.1 tB).1
      obtain⟨u,hu,hf⟩:=O4 i2 k y1 y2 yJ tB;refine⟨u,?_,uG hf⟩;rw[getElem?_take,if_pos (by omega),Array.getElem?_toList,cg,<-hu,Xn _ (by omega)];have BK:i2*p.size+k<j*p.size+off\/j*p.size+off+(e x).cells.size<=i2*p.size+k:=by
       rcases Nat.lt_or_gt_of_ne uX with aG | xJ
       .right;have:(j+1)*p.size<=i2*p.size:=qn _ aG;rw[Nat.add_mul] at this;omega
       left;have:(i2+1)*p.size<=j*p.size:=qn _ xJ;rw[Nat.add_mul] at this;omega
      rcases BK with BK | BK
      .rw[if_pos BK]
      rw[if_neg (by omega),if_neg (by omega)]⟩,
     fun g2 eC=>⟨fun _=> .inr eC,fun _=>rfl⟩⟩
   rw[n_ hp] at ct;have O6:(shutIds ((ρv x).cells.flatMap eu) H++([]++R)).set id (.row true (xs.set j (eH (xs.getD j []) off fs)))=(ft H (ρv x).cells).set id (.row true (xs.set j (eH (xs.getD j []) off fs)))++R:=by
    rw[nil_append,set_append_left _ _ (by rw[aV];exact(List.getElem?_eq_some_iff.1 fr).1)];rfl
   rw[O6] at ct;exact⟨undef,_,_,ρ,.inr ⟨d8,rfl⟩,(Stp.same_world pj).trans ct.2,ct.1,.tup #[] [] rfl (by simp),fun _ _=>rfl⟩
  .rename_i cs fr;cases bQ;have GC:(H.set id (Ob.box true (eH cs off (ρv x).cells))).length=H.length+D.length:=aA;rw[length_set] at GC;have gJ:D=[]:=List.eq_nil_of_length_eq_zero (by omega);subst gJ;obtain⟨rfl,KM⟩:=jv;have et:(H++([]++R))[id]?=some (.box true cs):=bm id _ fr;obtain⟨⟨g',cur,kP,je,tJ,Uw,hcell⟩,xQ⟩:=h.ob id p _ hp et;rw[ic] at kP;cases kP;have tI:X g:=(xQ g ic).1 rfl;have he:(0*p.size+off)=off:=by omega
   rw[he] at kQ;have cL:=um (P:=P) (w:=w) eN (v:=e x) (by omega) (o:=off) je (by omega) eA;have mR:=g6 w g (cur.toList.take off++(e x).cells.toList++cur.toList.drop (off+(e x).cells.size)).toArray;have cg:=fun k=>g7 (cur:=cur) (o:=off) (vs:=(e x).cells.toList) (by simp;omega) k
   simp only[Array.length_toList,Array.getElem?_toList] at cg;have pO:=setRow_heap w g cur (cur.toList.take off++(e x).cells.toList++cur.toList.drop (off+(e x).cells.size)).toArray p.e (0,0) je;have d8:(execOp e o).run P w= .ok .skip (w.setRow g (cur.toList.take off++(e x).cells.toList++cur.toList.drop (off+(e x).cells.size)).toArray):=by
    simp only[execOp,ho,kQ,Sem.run_bind,cL,Result.andThen_ok,Sem.run_pure]
   generalize jw:(cur.toList.take off++(e x).cells.toList++cur.toList.drop (off+(e x).cells.size)).toArray=new at d8 mR cg pO;have Et:new.size=cur.size:=by
    rw[<-jw];simp;omega
   have ct:=h.put (id:=id) (p:=p) (ob:= .box true (eH cs off (ρv x).cells)) (row:=some g) (w':=w.setRow g new) (by have:=(List.getElem?_eq_some_iff.1 et).1;exact this) (.inr hp) mR
    (by intro g' kP;cases kP;exact tI)
    (fun j2 q o2 g2 En hq gg f1 dN=>by
     have fX:g2≠g:=by
      intro he;subst he;exact En (h.inj j2 id q p o2 _ g2 hq hp gg et f1 rfl dN ic)
     exact⟨by simp[fX],by rw[ic];simp;exact fun he=>fX he.symm⟩)
    (fun g2 eC=>by rw[ic] at eC;cases eC;exact .inr tI)
    (fun g2 eC=>by rw[ic] at eC;cases eC;exact⟨(h.own id p _ g hp et rfl ic).1,Nat.lt_of_lt_of_le (h.own id p _ g hp et rfl ic).2 mR.size⟩)
    (fun g2 eC=>by cases eC;exact(h.own id p _ g hp et rfl ic).1)
    ⟨⟨g,new,ic,pO,by rw[Et,tJ,f6 (by omega)],by
     intro k u hu;rw[cg] at hu;split at hu
     .exact Uw _ _ hu
     .split at hu
      .exact eA _ _ hu
      exact Uw _ _ hu,by
     intro k u y hu hy;have uG: ∀ {u y},PRd w X ρ u y->PRd (w.setRow g new) (fun b=>X b\/p.b=some b) (ρ.set id (some p)) u y:=fun hf=>hf.mono ⟨mR.size,fun b hb kK=>mR.block b hb (fun he=>kK (by cases he;exact tI))⟩ (fun b hb kK=>by
      rcases kK with kK | kK
      .exact kK
      rw[ic] at kK;cases kK;exact tI) (Places.Le.set (.inr hp))
     rw[cg] at hu;rw[iG (by omega)] at hy;by_cases oB:k<off
     .rw[if_pos oB] at hu hy;exact uG (hcell _ _ _ hu hy)
     .rw[if_neg oB] at hu hy;by_cases iY:k<off+(ρv x).cells.length
      .rw[if_pos (by omega)] at hu;rw[if_pos iY] at hy;exact uG (GF _ _ _ hu hy)
      rw[if_neg (by omega)] at hu;rw[if_neg iY] at hy;exact uG (hcell _ _ _ hu hy)⟩,
     fun g2 eC=>⟨fun _=> .inr eC,fun _=>rfl⟩⟩
   rw[n_ hp] at ct;have O6:(H++([]++R)).set id (.box true (eH cs off (ρv x).cells))=H.set id (.box true (eH cs off (ρv x).cells))++R:=by
    rw[nil_append,set_append_left _ _ (List.getElem?_eq_some_iff.1 fr).1]
   rw[O6] at ct;exact⟨undef,_,_,ρ,.inr ⟨d8,rfl⟩,ct.2,ct.1,.tup #[] [] rfl (by simp),fun _ _=>rfl⟩
  cases bQ
theorem DJ (hT:ck P T) (op:Op):EffOp P T op:=by
 intro c w X ρ H D R o e ρv r ho h hD hρ ao hc aA;have jl:=ao;unfold aP at jl;cases op with
 | move x=>exact EffOp.of_still (Fx x) ho h hD hρ ao hc aA
 | assign x=>exact EffOp.of_still (A7 x) ho h hD hρ ao hc aA
 | pick x a b=>exact EffOp.of_still (Fy x a b) ho h hD hρ ao hc aA
 | alloc t=>exact JO hT t ho h hD hρ ao hc aA
 | box t x=>exact Q7 t x ho h hD hρ ao hc aA
 | build t parts=>exact EffOp.of_still (DB hT t parts) ho h hD hρ ao hc aA
 | buildSlice t len parts=>exact xf hT t len parts ho h hD hρ ao hc aA
 | load t a=>exact EffOp.of_still (FA hT t a) ho h hD hρ ao hc aA
 | store t a x=>exact JR hT t a x ho h hD hρ ao hc aA
 | nilCheck x=>exact EffOp.of_still (wW x) ho h hD hρ ao hc aA
 | binOp op t x y t'=>exact EffOp.of_still (Du hT op t x y t') ho h hD hρ ao hc aA
 | unOp op t x=>exact EffOp.of_still (Fz op t x) ho h hD hρ ao hc aA
 | convert s d x=>exact EffOp.of_still (yp hT s d x) ho h hD hρ ao hc aA
 | makeSlice t l k=>exact yr hT t l k ho h hD hρ ao hc aA
 | makeFunc fn a b=>exact Bb fn a b ho h hD hρ ao hc aA
 | fieldAddr t x f=>exact EffOp.of_still (uN hT t x f) ho h hD hρ ao hc aA
 | field t x f=>exact EffOp.of_still (Dv hT t x f) ho h hD hρ ao hc aA
 | indexAddr t x ix=>exact EffOp.of_still (uO hT t x ix) ho h hD hρ ao hc aA
 | index t x ix=>exact EffOp.of_still (Dw hT t x ix) ho h hD hρ ao hc aA
 | extract x ix=>exact EffOp.of_still (yq x ix) ho h hD hρ ao hc aA
 | slice t x lo hi mx=>
  simp only at jl;split at jl;rotate_left
  .cases jl
  rename_i i hi;split at jl
  .rename_i el nL;exact EffOp.of_still (Dx hT hi nL x lo _) ho h hD hρ ao hc aA
  .rename_i el mv nL;exact EffOp.of_still (A9 hT (by assumption) nL x lo _ _) ho h hD hρ ao hc aA
  .rename_i n el nL;exact Bh hT (by assumption) nL x lo _ _ ho h hD hρ ao hc aA
  .cases jl
 | makeMap t r=>
  cases r with
  | none=>exact DI hT t ho h hD hρ ao hc aA
  | some r=>simp only at jl;cases jl
 | lookup t m k ok=>exact EffOp.of_still (Bg hT t m k ok) ho h hD hρ ao hc aA
 | mapUpdate t m k x=>exact yt hT t m k x ho h hD hρ ao hc aA
 | _=>simp only at jl;cases jl
end
end Go.AM
namespace Go.AM
section
variable {P:Program} {T:Tab}
theorem PRd.reloc1 {w:World} {X X':Nat->Prop} {ρ ρ':Places} {u:Value} {x:PV} (f:Nat->Nat) (h:PRd w X ρ u x) (hX: ∀ b,b<w.heap.size->X' b->X b) (hρ: ∀ (j:Nat) p,ρ[j]?=some (some p)->ρ'[f j]?=some (some p))
 (h1:u.oneCell'=true):PRd w X' ρ' u (reloc1 f x):=by
 cases h with
 | any=>exact .any _
 | fv _ _ h=>exact .fv _ _ (h.mono (Same.refl X w) hX)
 | nilsl=>exact .nilsl
 | clip a n xs h=>exact .clip a n xs (h.mono (Same.refl X w) hX)
 | ptr id i off g p hp hg=>exact .ptr (f id) i off g p (hρ _ _ hp) hg
 | lsl0 id p hp hg=>exact .lsl0 (f id) p (hρ _ _ hp) hg
 | lsl id off len o g p hp hg hl ho=>exact .lsl (f id) off len o g p (hρ _ _ hp) hg hl ho
 | agg=>cases h1
 | tup=>cases h1
 | tab id g p hp hg=>exact .tab (f id) g p (hρ _ _ hp) hg
theorem PRd.reloc {w:World} {X X':Nat->Prop} {ρ ρ':Places} {u:Value} {x:PV} (f:Nat->Nat) (h:PRd w X ρ u x) (hX: ∀ b,b<w.heap.size->X' b->X b) (hρ: ∀ (j:Nat) p,ρ[j]?=some (some p)->ρ'[f j]?=some (some p)):
 PRd w X' ρ' u (reloc f x):=by
 have jx: ∀ (us:Array Value) (cs:List PV),us.size=cs.length->(∀ (i:Nat) u,us[i]?=some u->u.oneCell'=true)->(∀ (i:Nat) u c,us[i]?=some u->cs[i]?=some c->PRd w X ρ u c)->PRd w X' ρ' (.agg us) (.agg (cs.map (AM.reloc1 f))):=by
  intro us cs hn h1 hr;refine .agg us _ (by simpa using hn) h1 (fun i u y hu hy=>?_);rw[List.getElem?_map,Option.map_eq_some_iff] at hy;obtain⟨z,hz,rfl⟩:=hy;exact(hr i u z hu hz).reloc1 f hX hρ (h1 i u hu)
 cases h with
 | any=>exact .any _
 | fv _ _ h=>exact .fv _ _ (h.mono (Same.refl X w) hX)
 | nilsl=>exact .nilsl
 | clip a n xs h=>exact .clip a n xs (h.mono (Same.refl X w) hX)
 | ptr id i off g p hp hg=>exact .ptr (f id) i off g p (hρ _ _ hp) hg
 | lsl0 id p hp hg=>exact .lsl0 (f id) p (hρ _ _ hp) hg
 | lsl id off len o g p hp hg hl ho=>exact .lsl (f id) off len o g p (hρ _ _ hp) hg hl ho
 | agg us cs hn h1 hr=>exact jx us cs hn h1 hr
 | tup us cs hn hr=>
  refine .tup us _ (by simpa using hn) (fun i u y hu hy=>?_);rw[List.getElem?_map,Option.map_eq_some_iff] at hy;obtain⟨z,hz,rfl⟩:=hy;have hz2:=hr i u z hu hz;cases hz2 with
  | any=>exact .any _
  | fv _ _ h=>exact .fv _ _ (h.mono (Same.refl X w) hX)
  | nilsl=>exact .nilsl
  | clip a n xs h=>exact .clip a n xs (h.mono (Same.refl X w) hX)
  | ptr id i off g p hp hg=>exact .ptr (f id) i off g p (hρ _ _ hp) hg
  | lsl0 id p hp hg=>exact .lsl0 (f id) p (hρ _ _ hp) hg
  | lsl id off len o g p hp hg hl ho=>exact .lsl (f id) off len o g p (hρ _ _ hp) hg hl ho
  | agg us cs hn h1 hr=>exact jx us cs hn h1 hr
  | tup us cs hn hr=>exact .any _
  | tab id g p hp hg=>exact .tab (f id) g p (hρ _ _ hp) hg
 | tab id g p hp hg=>exact .tab (f id) g p (hρ _ _ hp) hg
theorem ObRd.keep {w w':World} {X X':Nat->Prop} {ρ ρ':Places} {p:Place} {o:Ob} (h:ObRd w X ρ p o) (hs:Same X w w') (hX: ∀ b,b<w.heap.size->X' b->X b) (hρ:ρ.Le ρ')
 (sq:o.alive-> ∀ g,p.b=some g->g<w.heap.size->w'.heap[g]?=w.heap[g]?/\(X' g↔X g)):ObRd w' X' ρ' p o:=by
 cases o with
 | dead=>trivial
 | row rw xs=>
  obtain⟨⟨cY,aA,us,gf,hc⟩,hf⟩:=h;refine⟨⟨cY,aA,us,?_,fun i j x y hx hy=>?_⟩,fun g hg=>?_⟩
  .refine⟨gf.1,?_⟩;rcases gf.2 with h1 | ⟨g,cap,cur,h1,h2,h3,h4⟩
   .exact .inl h1
   refine .inr ⟨g,cap,cur,h1,h2,?_,h4⟩;have WT:p.b=some g:=by
    unfold Place.val at h1;cases hb:p.b with
    | none=>rw[hb] at h1;cases h1
    | some g'=>rw[hb] at h1;cases h1;rfl
   rw[(sq trivial g WT (Array.getElem?_eq_some_iff.1 h3).1).1];exact h3
  .obtain⟨u,hu,sA⟩:=hc i j x y hx hy;exact⟨u,hu,sA.mono hs hX⟩
  .have aG:=kV gf hg;rw[(sq trivial g hg aG).2];exact hf g hg
 | box rw cs=>
  obtain⟨⟨g,us,hg,hh,dh,h1,hc⟩,hf⟩:=h;have aG:g<w.heap.size:=(Array.getElem?_eq_some_iff.1 hh).1;refine⟨⟨g,us,hg,by rw[(sq trivial g hg aG).1];exact hh,dh,h1,fun i u x hu hx=>(hc i u x hu hx).mono hs hX hρ⟩,fun g2 eC=>?_⟩;rw[hg] at eC;cases eC;rw[(sq trivial g hg aG).2];exact hf g hg
 | tab n es=>
  obtain⟨⟨KJ,g,clock,vs,hg,hh,dh,l6,hc⟩,hf⟩:=h;have aG:g<w.heap.size:=(Array.getElem?_eq_some_iff.1 hh).1;refine⟨⟨KJ,g,clock,vs,hg,by rw[(sq trivial g hg aG).1];exact hh,dh,l6,fun i e k v he hv=>?_⟩,fun g2 eC=>?_⟩
  .obtain⟨a1,a2,a3⟩:=hc i e k v he hv;exact⟨a1,a2,a3.mono hs hX (Places.Le.refl [])⟩
  rw[hg] at eC;cases eC;exact(sq trivial g hg aG).2.2 (hf g hg)
theorem Ob.alive_of_rw {o:Ob} (h:o.rw=true):o.alive:=by
 cases o with
 | dead=>cases h
 | row=>trivial
 | box=>trivial
 | tab=>trivial
theorem qw (f:Nat->Nat) (o:Ob):(relocOb f o).rw=o.rw:=by cases o<;>rfl
theorem ObRd.moved {w:World} {X X':Nat->Prop} {ρ ρ':Places} {p:Place} {o:Ob} (f:Nat->Nat) (h:ObRd w X ρ p o) (hX: ∀ b,b<w.heap.size->X' b->X b) (hρ: ∀ (j:Nat) p,ρ[j]?=some (some p)->ρ'[f j]?=some (some p))
 (sq:o.alive-> ∀ g,p.b=some g->(X' g↔X g)):ObRd w X' ρ' p (relocOb f o):=by
 cases o with
 | dead=>trivial
 | row rw xs=>
  obtain⟨⟨cY,aA,us,gf,hc⟩,hf⟩:=h;refine⟨⟨cY,aA,us,gf,fun i j x y hx hy=>?_⟩,fun g hg=>?_⟩
  .obtain⟨u,hu,sA⟩:=hc i j x y hx hy;exact⟨u,hu,sA.mono (Same.refl X w) hX⟩
  .rw[sq trivial g hg];exact hf g hg
 | box rw cs=>
  obtain⟨⟨g,us,hg,hh,dh,h1,hc⟩,hf⟩:=h;refine⟨⟨g,us,hg,hh,by simpa using dh,h1,fun i u x hu hx=>?_⟩,fun g2 eC=>?_⟩
  .rw[List.getElem?_map,Option.map_eq_some_iff] at hx;obtain⟨y,hy,rfl⟩:=hx;exact(hc i u y hu hy).reloc1 f hX hρ (h1 i u hu)
  .rw[sq trivial g2 eC];exact hf g2 eC
 | tab n es=>
  obtain⟨⟨KJ,g,clock,vs,hg,hh,dh,l6,hc⟩,hf⟩:=h;refine⟨⟨KJ,g,clock,vs,hg,hh,dh,l6,fun i e k v he hv=>?_⟩,fun g2 eC=>(sq trivial g2 eC).2 (hf g2 eC)⟩;obtain⟨a1,a2,a3⟩:=hc i e k v he hv;exact⟨a1,a2,a3.mono (Same.refl X w) hX (Places.Le.refl [])⟩
theorem zV {c c1:fR} {w w':World} {X1 X2:Nat->Prop} {ρ ρ2 ρ3:Places} {F F' H1:List Ob} (f:Nat->Nat) (qW:c1.w0=w) (h:HRd c w X1 ρ F) (oB:Keeps c1 w') (h2:HRd c1 w' X2 ρ2 H1)
 (hXo: ∀ b,X1 b-> ¬c1.M b->c1.Xo b) (hMX: ∀ b,c1.M b->X1 b) (O9: ∀ b,c1.M b->(c.w0.heap.size<=b\/c.M b)/\b<w.heap.size)
 (mT: ∀ (i:Nat) p o g,(∀ j,j<H1.length->f j≠i)->ρ[i]?=some (some p)->F[i]?=some o->o.alive->p.b=some g-> ¬c1.M g)
 (jw: ∀ (j:Nat) p g,ρ2[j]?=some (some p)->p.b=some g->w.heap.size<=g\/c1.M g)
 (aA:ρ3.length=F'.length) (hF1: ∀ (j:Nat) o,H1[j]?=some o->F'[f j]?=some (relocOb f o)) (hF2: ∀ i,(∀ j,j<H1.length->f j≠i)->F'[i]?=F[i]?)
 (Uv: ∀ j,j<H1.length->ρ3[f j]?=ρ2[j]?) (hρ2: ∀ i,(∀ j,j<H1.length->f j≠i)->ρ3[i]?=ρ[i]?) (cX:ρ.Le ρ3):
 ∃ X3,HRd c w' X3 ρ3 F'/\Stp c w w' X1 X3 ρ ρ3/\ ∀ u x,PRd w' X2 ρ2 u x->PRd w' X3 ρ3 u (reloc f x):=by
 subst qW
 let X3 (b:Nat):Prop:=(b<c1.w0.heap.size/\X1 b/\ ¬c1.M b)\/((c1.M b\/c1.w0.heap.size<=b)/\X2 b)
 have eD:Same X1 c1.w0 w':=⟨oB.size,fun b hb hx=>oB.block b hb (fun hm=>hx (hMX b hm))⟩
 have O_: ∀ b,b<c1.w0.heap.size->X3 b->X1 b:=by
  intro b hb hx;rcases hx with⟨_,hx,_⟩ | ⟨hm | hm,_⟩
  .exact hx
  .exact hMX b hm
  omega
 have O': ∀ b,X3 b->X2 b:=by
  intro b hx;rcases hx with⟨_,hx,hm⟩ | ⟨_,hx⟩
  .exact h2.xo b (hXo b hx hm)
  exact hx
 have adg: ∀ (j:Nat) p,ρ2[j]?=some (some p)->ρ3[f j]?=some (some p):=by
  intro j p hj;rw[Uv j (by rw[<-h2.len];exact(List.getElem?_eq_some_iff.1 hj).1)];exact hj
 have eE: ∀ i,(∃ j,j<H1.length/\f j=i)\/(∀ j,j<H1.length->f j≠i):=by
  intro i;by_cases he: ∃ j,j<H1.length/\f j=i
  .exact .inl he
  exact .inr fun j hj hf=>he ⟨j,hj,hf⟩
 have k4: ∀ (j:Nat) p g,ρ2[j]?=some (some p)->p.b=some g->(X3 g↔X2 g):=by
  intro j p g hp hg;constructor
  .exact O' g
  intro hx;rcases jw j p g hp hg with h3 | h3
  .exact .inr ⟨.inr h3,hx⟩
  exact .inr ⟨.inl h3,hx⟩
 have KO: ∀ (j:Nat) o,H1[j]?=some o-> ∀ o',F'[f j]?=some o'->o'=relocOb f o:=fun j o hj o' Iq=>by
  rw[hF1 j o hj] at Iq;cases Iq;rfl
 have Pa: ∀ j,j<H1.length-> ∃ o,H1[j]?=some o:=fun j hj=>⟨H1[j],by simp[hj]⟩
 refine⟨X3,⟨aA,?_,?_,?_,?_,?_,ka h.ge oB.size,h.base.trans cX⟩,⟨eD,O_,cX,fun hk=>?_⟩,fun u x hu=>hu.reloc f (fun b _=>O' b) adg⟩
 .intro i p o hp ho
  rcases eE i with⟨j,hj,rfl⟩ | xG
  .obtain⟨o2,gg⟩:=Pa j hj
   have:=KO j o2 gg o ho
   subst this
   rw[Uv j hj] at hp
   exact(h2.ob j p o2 hp gg).moved f (fun b _=>O' b) adg (fun _ g hg=>k4 j p g hp hg)
  rw[hρ2 i xG] at hp
  rw[hF2 i xG] at ho
  refine(h.ob i p o hp ho).keep eD O_ cX (fun ha g hg aG=>?_)
  have hm:=mT i p o g xG hp ho ha hg
  exact⟨oB.block g aG hm,⟨O_ g aG,fun hx=> .inl ⟨aG,hx,hm⟩⟩⟩
 .intro i k p q o r g hp hq ho hr h_ gL dp dN
  rcases eE i with⟨j,hj,rfl⟩ | xG
  .obtain⟨o2,gg⟩:=Pa j hj
   have:=KO j o2 gg o ho
   subst this
   rw[Uv j hj] at hp
   rw[qw] at h_
   rcases eE k with⟨j',PN,rfl⟩ | KP
   .obtain⟨r2,f1⟩:=Pa j' PN
    have:=KO j' r2 f1 r hr
    subst this
    rw[Uv j' PN] at hq
    rw[qw] at gL
    rw[h2.inj j j' p q o2 r2 g hp hq gg f1 h_ gL dp dN]
   rw[hρ2 k KP] at hq
   rw[hF2 k KP] at hr
   have hra:r.alive:=Ob.alive_of_rw gL
   have h3:=mT k q r g KP hq hr hra dN
   have h4:=(h.own k q r g hq hr gL dN).2
   rcases jw j p g hp dp with h5 | h5
   .omega
   exact absurd h5 h3
  rw[hρ2 i xG] at hp
  rw[hF2 i xG] at ho
  have hoa:o.alive:=Ob.alive_of_rw h_
  rcases eE k with⟨j',PN,rfl⟩ | KP
  .obtain⟨r2,f1⟩:=Pa j' PN
   rw[Uv j' PN] at hq
   have h3:=mT i p o g xG hp ho hoa dp
   have h4:=(h.own i p o g hp ho h_ dp).2
   rcases jw j' q g hq dN with h5 | h5
   .omega
   exact absurd h5 h3
  rw[hρ2 k KP] at hq
  rw[hF2 k KP] at hr
  exact h.inj i k p q o r g hp hq ho hr h_ gL dp dN
 .intro i p o g hp ho h_ dp
  rcases eE i with⟨j,hj,rfl⟩ | xG
  .obtain⟨o2,gg⟩:=Pa j hj
   have:=KO j o2 gg o ho
   subst this
   rw[Uv j hj] at hp
   rw[qw] at h_
   have h3:=h2.own j p o2 g hp gg h_ dp
   refine⟨?_,h3.2⟩
   rcases jw j p g hp dp with h5 | h5
   .left;have:=h.ge;omega
   exact(O9 g h5).1
  rw[hρ2 i xG] at hp
  rw[hF2 i xG] at ho
  have h3:=h.own i p o g hp ho h_ dp
  exact⟨h3.1,Nat.lt_of_lt_of_le h3.2 oB.size⟩
 .intro b hb
  have h3:=c.hxo b hb
  refine .inl ⟨h.xlt b (h.xo b hb),h.xo b hb,fun hm=>?_⟩
  rcases(O9 b hm).1 with h4 | h4
  .omega
  exact h3.2 h4
 .intro b hb
  rcases hb with⟨hb,_⟩ | ⟨_,hb⟩
  .exact Nat.lt_of_lt_of_le hb oB.size
  exact h2.xlt b hb
 refine⟨oB.os.trans hk.os,oB.tape.trans hk.tape,oB.output.trans hk.output,ka hk.size oB.size,fun b hb hm=>?_⟩
 rw[oB.block b (Nat.lt_of_lt_of_le hb hk.size) (fun m_=>?_)]
 .exact hk.block b hb hm
 rcases(O9 b m_).1 with h4 | h4
 .omega
 exact hm h4
theorem ObRd.rwX {w:World} {X:Nat->Prop} {ρ:Places} {p:Place} {o:Ob} (h:ObRd w X ρ p o) (hr:o.rw=true) {g:Nat} (hg:p.b=some g):X g:=by
 cases o with
 | dead=>cases hr
 | row rw xs=>exact(h.2 g hg).1 hr
 | box rw cs=>exact(h.2 g hg).1 hr
 | tab n es=>exact h.2 g hg
theorem ObRd.roX {w:World} {X:Nat->Prop} {ρ:Places} {p:Place} {o:Ob} (h:ObRd w X ρ p o) (ha:o.alive) (hr:o.rw=false) {g:Nat} (hg:p.b=some g): ¬X g:=by
 intro hx;cases o with
 | dead=>exact ha
 | row rw xs=>have:=(h.2 g hg).2 hx;simp only[Ob.rw] at hr;rw[hr] at this;cases this
 | box rw cs=>have:=(h.2 g hg).2 hx;simp only[Ob.rw] at hr;rw[hr] at this;cases this
 | tab n es=>cases hr
theorem ObRd.closed {w:World} {X:Nat->Prop} {ρ ρ':Places} {p:Place} {o:Ob} (h:ObRd w X ρ p o) (hc:o.closed):ObRd w X ρ' p o:=by
 cases o with
 | dead=>trivial
 | row rw xs=>exact h
 | tab n es=>exact h
 | box rw cs=>
  obtain⟨⟨g,us,hg,hh,hs,h1,hr⟩,hf⟩:=h;refine⟨⟨g,us,hg,hh,hs,h1,fun i u x hu hx=>?_⟩,hf⟩;obtain⟨y,rfl⟩:=hc x (mem_of_getElem? hx);cases hr i u _ hu hx with
  | fv _ _ h=>exact .fv _ _ h
theorem zW {H:List Ob} {id:Nat} {x:PV} (h:x.refsTo id=false):TU H id x=eS H x/\tf H id x=jb H x:=by
 cases x<;>simp only[PV.refsTo,qx,ne_eq] at h<;>simp[TU,tf,h]
theorem DK {H:List Ob} {id:Nat}: ∀ {xs ys:List PV},te H id xs=some ys->ys.length=xs.length/\ ∀ (i:Nat) y,ys[i]?=some y-> ∃ x,xs[i]?=some x/\TU H id x=some y
 | [],ys,h=>by simp[te] at h;subst h;simp
 | x::xs,ys,h=>by
  simp only[te] at h;split at h
  .rename_i y ys' h1 h2;cases h;obtain⟨hl,hg⟩:=DK h2;refine⟨by simp[hl],fun i z hz=>?_⟩;cases i with
   | zero=>simp at hz;subst hz;exact⟨x,rfl,h1⟩
   | succ i=>simp at hz ⊢;exact hg i z hz
  cases h
theorem DL {H:List Ob} {id:Nat}: ∀ {xs ys:List PV},te H id xs=some ys-> ∀ j∈xs.flatMap (tf H id),j<H.length
 | [],ys,h=>by simp
 | x::xs,ys,h=>by
  simp only[te] at h;split at h
  .rename_i y ys' h1 h2;intro j hj;rw[List.flatMap_cons,qr] at hj;rcases hj with hj | hj
   .cases hr:x.refsTo id with
    | false=>
     obtain⟨e1,e2⟩:=zW (H:=H) hr;rw[e1] at h1;rw[e2] at hj;exact Ba h1 j hj
    | true=>cases x<;>simp[PV.refsTo] at hr<;>simp[tf,hr] at hj
   exact DL h2 j hj
  cases h
theorem Rb {c:fR} {w:World} {X X':Nat->Prop} {ρ:Places} {F H:List Ob} (h:HRd c w X ρ F) (hH: ∀ (j:Nat) o,H[j]?=some o->F[j]?=some o) {vs:Array Value} {xs ys:List PV} {id:Nat} {p:Place} (hp:ρ[id]?=some (some p))
 (hv:PRds w X ρ vs xs) (hf:te H id xs=some ys) (hX: ∀ b,X' b->X b)
 (hn: ∀ j∈xs.flatMap (tf H id),∀ p o g,ρ[j]?=some (some p)->F[j]?=some o->o.alive->p.b=some g-> ¬X' g):PRds w X' [some p] vs ys:=by
 obtain⟨hl,hg⟩:=DK hf
 refine⟨by rw[hl];exact hv.1,fun i v y hi hy=>?_⟩
 obtain⟨x,hx,Ir⟩:=hg i y hy
 have hvx:=hv.2 i v x hi hx
 cases hr:x.refsTo id with
 | false=>
  obtain⟨e1,e2⟩:=zW (H:=H) hr;rw[e1] at Ir;refine Fw h hH [some p] hvx Ir hX (fun k hk=>hn k ?_);rw[List.mem_flatMap];exact⟨x,mem_of_getElem? hx,by rw[e2];exact hk⟩
 | true=>
  cases hvx with
  | ptr j i off g q hq hg=>
   simp only[PV.refsTo,beq_iff_eq] at hr;subst hr;rw[hp] at hq;cases hq;simp only[TU,if_true,qo] at Ir;subst Ir;exact .ptr 0 i off g p rfl hg
  | lsl0 j q hq hg=>
   simp only[PV.refsTo,beq_iff_eq] at hr;subst hr;rw[hp] at hq;cases hq;simp only[TU,if_true,qo] at Ir;subst Ir;exact .lsl0 0 p rfl hg
  | lsl j off len o g q hq hg hl ho=>
   simp only[PV.refsTo,beq_iff_eq] at hr;subst hr;rw[hp] at hq;cases hq;simp only[TU,if_true,qo] at Ir;subst Ir;exact .lsl 0 off len o g p rfl hg hl ho
  | _=>simp[PV.refsTo] at hr
theorem zX {c:fR} {w:World} {X:Nat->Prop} {ρ:Places} {H D R:List Ob} {k:FuncId} {args:List PV} {vs:Array Value} {args':List PV} {obs:List Ob} {res:PV} (h:HRd c w X ρ (H++(D++R)))
 (hD: ∀ id,H.length<=id->id<H.length+D.length->ρ[id]?=some none) (hd:Den P k [] args' obs res) (jf: ∀ id∈args.flatMap (jb H),id<H.length)
 (Xp: ∀ X',(∀ b,X' b->X b)->(∀ id∈args.flatMap (jb H),∀ p o g,ρ[id]?=some (some p)->(H++(D++R))[id]?=some o->o.alive->p.b=some g-> ¬X' g)->PRds w X' [] vs args')
 (aA:(shutAs H args++obs.map (relocOb (H.length+ ·))).length=H.length+D.length):
 Nt P k/\Calls P k vs w fun e w'=> ∃ u X' ρ',e= .returned u/\Stp c w w' X X' ρ ρ'/\w.drawn<=w'.drawn/\HRd c w' X' ρ' ((shutAs H args++obs.map (relocOb (H.length+ ·)))++R)/\PRd w' X' ρ' u (reloc (H.length+ ·) res)/\ ∀ id,(id<H.length\/H.length+D.length<=id)->ρ'[id]?=ρ[id]?:=by
 obtain⟨Xq,hd⟩:=hd
 refine⟨Xq,?_⟩
 unfold shutAs at aA ⊢
 rw[qe,aV,List.length_map] at aA
 have hDl:D.length=obs.length:=by omega
 obtain⟨X1,h1,pj,jd⟩:=h.shutIds (args.flatMap (jb H))
 rw[eM _ jf] at h1
 have Xr:(shutIds (args.flatMap (jb H)) H).length=H.length:=aV _ _
 generalize hS:shutIds (args.flatMap (jb H)) H=S at*
 have pG:PRds w X1 [] vs args':=Xp X1 pj jd
 let c1:fR:=⟨w,fun _=>False,X1,[],fun b hb=>⟨h1.xlt b hb,fun hm=>hm⟩⟩
 have h01:HRd c1 w X1 [] []:=⟨rfl,by simp,by simp,by simp,fun b hb=>hb,h1.xlt,qp _,Places.Le.refl _⟩
 refine(hd c1 X1 [] vs h01 (fun b hb=>hb.elim) pG).mono ?_
 rintro e w' ⟨u,X2,ρ2,rfl,oB,h2,hu,_,jg⟩
 have nI:ρ2.length=obs.length:=h2.len
 have vB:ρ.length=H.length+(D.length+R.length):=by rw[h1.len];simp[Xr]
 let ρ3:Places:=ρ.take H.length++ρ2++ρ.drop (H.length+obs.length)
 have Ab: ∀ i,ρ3[i]?=if i<H.length then ρ[i]? else if i<H.length+obs.length then ρ2[i - H.length]? else ρ[i]?:=by
  intro i;have:=iG (l:=ρ) (new:=ρ2) (off:=H.length) (by omega) i;simp only[eH,nI] at this;exact this
 have hF: ∀ i,((S++obs.map (relocOb (H.length+ ·)))++R)[i]?=if i<H.length then(S++(D++R))[i]? else if i<H.length+obs.length then(obs.map (relocOb (H.length+ ·)))[i - H.length]? else(S++(D++R))[i]?:=by
  intro i;by_cases hi:i<H.length
  .rw[if_pos hi,append_assoc,qi (by omega),qi (by omega)]
  rw[if_neg hi];by_cases gq:i<H.length+obs.length
  .rw[if_pos gq,append_assoc,getElem?_append_right (by omega),qi (by simp;omega),Xr]
  rw[if_neg gq,append_assoc,getElem?_append_right (by omega),getElem?_append_right (by simp;omega),getElem?_append_right (by omega),getElem?_append_right (by omega)];congr 1;simp;omega
 have cZ: ∀ i,(∀ j,j<obs.length->H.length+j≠i)->i<H.length\/H.length+obs.length<=i:=by
  intro i hi;by_cases h3:i<H.length
  .exact .inl h3
  right;apply Nat.le_of_not_lt;intro h4;exact hi (i - H.length) (by omega) (by omega)
 have cX:ρ.Le ρ3:=by
  intro i p hp;rw[Ab];by_cases hi:i<H.length
  .rw[if_pos hi];exact hp
  rw[if_neg hi];by_cases gq:i<H.length+obs.length
  .rw[hD i (by omega) (by omega)] at hp;cases hp
  rw[if_neg gq];exact hp
 obtain⟨X3,h3,hs3,Ui⟩:=zV (c:=c) (c1:=c1) (w:=w) (w':=w') (X1:=X1) (X2:=X2) (ρ:=ρ) (ρ2:=ρ2) (ρ3:=ρ3) (F:=S++(D++R)) (F':=(S++obs.map (relocOb (H.length+ ·)))++R) (H1:=obs) (H.length+ ·) rfl h1 oB h2
  (fun b hb _=>hb) (fun b hb=>hb.elim) (fun b hb=>hb.elim) (fun i p o g _ _ _ _ _ hm=>hm) (fun j p g hp hg=> .inl (jg j p (dU _) hp g hg))
  (by simp[ρ3,nI,Xr,vB];omega)
  (fun j o hj=>by
   have nC:=(List.getElem?_eq_some_iff.1 hj).1;rw[hF,if_neg (by omega),if_pos (by omega),Nat.add_sub_cancel_left,List.getElem?_map,hj];rfl)
  (fun i hi=>by
   rw[hF];rcases cZ i hi with h5 | h5
   .rw[if_pos h5]
   rw[if_neg (by omega),if_neg (by omega)])
  (fun j hj=>by rw[Ab,if_neg (by omega),if_pos (by omega),Nat.add_sub_cancel_left])
  (fun i hi=>by
   rw[Ab];rcases cZ i hi with h5 | h5
   .rw[if_pos h5]
   rw[if_neg (by omega),if_neg (by omega)]) cX
 refine⟨u,X3,ρ3,rfl,(Stp.same_world pj).trans hs3,oB.drawn,h3,Ui u res hu,fun id cF=>?_⟩
 rw[Ab]
 rcases cF with h5 | h5
 .rw[if_pos h5]
 rw[if_neg (by omega),if_neg (by omega)]
theorem xg {c:fR} {w:World} {X:Nat->Prop} {ρ:Places} {H D R:List Ob} {k:FuncId} {args:List PV} {vs:Array Value} {v:PV} {H':List Ob} (h:HRd c w X ρ (H++(D++R)))
 (hD: ∀ id,H.length<=id->id<H.length+D.length->ρ[id]?=some none) (dT:PRds w X ρ vs args) (GF:CallRel P H k args v H') (aA:H'.length=H.length+D.length):
 Nt P k/\Calls P k vs w fun e w'=> ∃ u X' ρ',e= .returned u/\Stp c w w' X X' ρ ρ'/\w.drawn<=w'.drawn/\HRd c w' X' ρ' (H'++R)/\PRd w' X' ρ' u v/\ ∀ id,(id<H.length\/H.length+D.length<=id)->ρ'[id]?=ρ[id]?:=by
 cases GF with
 | pure args' obs res hf hd=>exact zX h hD hd (DC hf) (fun X1 pj jd=>Q4 h bm [] dT hf pj jd) aA
 | nilp args' obs res hf hd=>
  refine zX h hD hd (DD hf) (fun X1 pj jd=>?_) aA;obtain⟨h1,h2⟩:=H4 h bm [] pj (vs:=vs.toList) (xs:=args) (by simpa using dT.1) (fun i v x hv hx=>dT.2 i v x (by simpa using hv) hx) hf jd;exact⟨by simpa using h1,fun i v y hv hy=>h2 i v y (by simpa using hv) hy⟩
 | lend id args' ob ob' obs res ho hrw eO adh hf hs hd=>
  obtain⟨Xq,hd⟩:=hd;refine⟨Xq,?_⟩;unfold shutBs at aA hs ⊢;rw[qe,length_set,aV,List.length_map] at aA;have hDl:D.length=obs.length:=by omega
  have xS:id<H.length:=(List.getElem?_eq_some_iff.1 ho).1;obtain⟨p,hp⟩: ∃ p,ρ[id]?=some (some p):=by
   rw[qpb] at adh;obtain⟨a,ha,Xs⟩:=adh;obtain⟨i,hi⟩:=getElem?_of_mem ha;have aG:i<vs.size:=by rw[dT.1];exact(List.getElem?_eq_some_iff.1 hi).1
   have PA:=dT.2 i vs[i] a (by simp[aG]) hi;generalize vs[i]=ui at PA;cases PA with
   | ptr j i off g q hq hg=>simp only[PV.refsTo,beq_iff_eq] at Xs;subst Xs;exact⟨q,hq⟩
   | lsl0 j q hq hg=>simp only[PV.refsTo,beq_iff_eq] at Xs;subst Xs;exact⟨q,hq⟩
   | lsl j off len o g q hq hg hl ho=>simp only[PV.refsTo,beq_iff_eq] at Xs;subst Xs;exact⟨q,hq⟩
   | _=>simp[PV.refsTo] at Xs
  have jf: ∀ j∈args.flatMap (tf H id),j<H.length:=DL hf;obtain⟨X1,h1,pj,jd⟩:=h.shutIds (args.flatMap (tf H id));rw[eM _ jf] at h1;have Xr:(shutIds (args.flatMap (tf H id)) H).length=H.length:=aV _ _;generalize hS:shutIds (args.flatMap (tf H id)) H=S at*;have SF:(S++(D++R))[id]?=some ob:=by rw[qi (by omega)];exact hs
  have fr:=h1.ob id p ob hp SF;have hXp: ∀ g,p.b=some g->X1 g:=fun g hg=>fr.rwX hrw hg
  let c1:fR:=⟨w,fun b=>p.b=some b,fun b=>X1 b/\p.b≠some b,[],fun b hb=>⟨h1.xlt b hb.1,hb.2⟩⟩;have h01:HRd c1 w X1 [some p] [ob]:=by
   refine⟨rfl,?_,?_,?_,fun b hb=>hb.1,h1.xlt,qp _,fun i p hp=>by simp[c1] at hp⟩
   .intro i q o hq gg;cases i with
    | zero=>
     simp only[List.getElem?_cons_zero,qo] at hq gg;subst hq;subst gg;exact fr.closed eO
    | succ i=>simp at hq
   .intro i j q1 q2 o1 o2 g Xd Pz h_ gg _ _ _ _;cases i with
    | zero=>cases j with
     | zero=>rfl
     | succ j=>simp at Pz
    | succ i=>simp at Xd
   intro i q o g hq gg Kx hg;cases i with
   | zero=>
    simp only[List.getElem?_cons_zero,qo] at hq;subst hq;exact⟨.inr hg,(h1.own id _ ob g hp SF hrw hg).2⟩
   | succ i=>simp at hq
  have pG:PRds w X1 [some p] vs args':=Rb h bm hp dT hf pj jd;refine(hd c1 X1 [some p] vs h01 (fun b hb=>⟨0,p,rfl,hb⟩) pG).mono ?_;rintro e w' ⟨u,X2,ρ2,rfl,oB,h2,hu,ahy,jg⟩;have nI:ρ2.length=obs.length+1:=by simpa using h2.len
  have adi:ρ2[0]?=some (some p):=ahy 0 p rfl;have vB:ρ.length=H.length+(D.length+R.length):=by rw[h1.len];simp[Xr]
  let ρ3:Places:=ρ.take H.length++ρ2.drop 1++ρ.drop (H.length+obs.length);have Ab: ∀ i,ρ3[i]?=if i<H.length then ρ[i]? else if i<H.length+obs.length then ρ2[i - H.length+1]? else ρ[i]?:=by
   intro i;have WN:(ρ2.drop 1).length=obs.length:=by simp[nI]
   have:=iG (l:=ρ) (new:=ρ2.drop 1) (off:=H.length) (by omega) i;simp only[eH,WN] at this;rw[this];simp only[List.getElem?_drop,Nat.add_comm 1]
  have hF: ∀ i,((S.set id (relocOb (lent id H.length) ob')++obs.map (relocOb (lent id H.length)))++R)[i]?=if i=id then some (relocOb (lent id H.length) ob') else if i<H.length then(S++(D++R))[i]? else
   if i<H.length+obs.length then(obs.map (relocOb (lent id H.length)))[i - H.length]? else(S++(D++R))[i]?:=by
   intro i
   by_cases Em:i=id
   .subst Em
    rw[if_pos rfl,append_assoc,qi (by simp;omega),qv (by omega)]
   rw[if_neg Em]
   by_cases hi:i<H.length
   .rw[if_pos hi,append_assoc,qi (by simp;omega),getElem?_set_ne (Ne.symm Em),qi (by omega)]
   rw[if_neg hi]
   by_cases gq:i<H.length+obs.length
   .rw[if_pos gq,append_assoc,getElem?_append_right (by simp;omega),qi (by simp;omega),length_set,Xr]
   rw[if_neg gq,append_assoc,getElem?_append_right (by simp;omega),getElem?_append_right (by simp;omega),getElem?_append_right (by omega),getElem?_append_right (by omega)]
   congr 1
   simp
   omega
  have cZ: ∀ i,(∀ j,j<(ob'::obs).length->lent id H.length j≠i)->i≠id/\(i<H.length\/H.length+obs.length<=i):=by
   intro i hi;refine⟨fun he=>hi 0 (by simp) he.symm,?_⟩;by_cases h3:i<H.length
   .exact .inl h3
   right;apply Nat.le_of_not_lt;intro h4;exact hi (i - H.length+1) (by simp;omega) (by simp only[lent];omega)
  have cX:ρ.Le ρ3:=by
   intro i q hq;rw[Ab];by_cases hi:i<H.length
   .rw[if_pos hi];exact hq
   rw[if_neg hi];by_cases gq:i<H.length+obs.length
   .rw[hD i (by omega) (by omega)] at hq;cases hq
   rw[if_neg gq];exact hq
  obtain⟨X3,h3,hs3,Ui⟩:=zV (c:=c) (c1:=c1) (w:=w) (w':=w') (X1:=X1) (X2:=X2) (ρ:=ρ) (ρ2:=ρ2) (ρ3:=ρ3) (F:=S++(D++R)) (F':=(S.set id (relocOb (lent id H.length) ob')++obs.map (relocOb (lent id H.length)))++R) (H1:=ob'::obs) (lent id H.length) rfl h1 oB h2
   (fun b hb hm=>⟨hb,hm⟩) (fun b hb=>hXp b hb) (fun b hb=>h1.own id p ob b hp SF hrw hb)
   (fun i q o g hi hq gg ha hg hm=>by
    have fX:=(cZ i hi).1;cases Pu:o.rw with
    | true=>exact fX (h1.inj i id q p o ob g hq hp gg SF Pu hrw hg hm)
    | false=>
     have k4:=h1.ob i q o hq gg;exact(k4.roX ha Pu hg) (hXp g hm))
   (fun j q g hq hg=>by
    cases j with
    | zero=>rw[adi] at hq;cases hq;exact .inr hg
    | succ j=>exact .inl (jg (j+1) q (by simp) hq g hg))
   (by simp[ρ3,nI,Xr,vB];omega)
   (fun j o hj=>by
    have nC:=(List.getElem?_eq_some_iff.1 hj).1;cases j with
    | zero=>
     show((S.set id (relocOb (lent id H.length) ob')++obs.map (relocOb (lent id H.length)))++R)[id]?=_;rw[hF,if_pos rfl];simp at hj;rw[hj]
    | succ j=>
     simp only[length_cons] at nC;show((S.set id (relocOb (lent id H.length) ob')++obs.map (relocOb (lent id H.length)))++R)[H.length+j]?=_;rw[hF,if_neg (show¬(H.length+j=id) by omega),if_neg (show¬(H.length+j<H.length) by omega),if_pos (show H.length+j<H.length+obs.length by omega),Nat.add_sub_cancel_left,List.getElem?_map];simp at hj;rw[hj];rfl)
   (fun i hi=>by
    rw[hF];obtain⟨h4,h5 | h5⟩:=cZ i hi
    .rw[if_neg h4,if_pos h5]
    rw[if_neg h4,if_neg (by omega),if_neg (by omega)])
   (fun j hj=>by
    cases j with
    | zero=>
     show ρ3[id]?=_;rw[Ab,if_pos xS,hp,adi]
    | succ j=>
     simp only[length_cons] at hj;show ρ3[H.length+j]?=_;rw[Ab,if_neg (by omega),if_pos (by omega),Nat.add_sub_cancel_left])
   (fun i hi=>by
    rw[Ab];obtain⟨h4,h5 | h5⟩:=cZ i hi
    .rw[if_pos h5]
    rw[if_neg (by omega),if_neg (by omega)]) cX
  refine⟨u,X3,ρ3,rfl,(Stp.same_world pj).trans hs3,oB.drawn,h3,Ui u res hu,fun j hj=>?_⟩;rw[Ab];rcases hj with h5 | h5
  .rw[if_pos h5]
  rw[if_neg (by omega),if_neg (by omega)]
end
end Go.AM
namespace Go.AM
section
variable {P:Program} {T:Tab}
theorem zY {H:List Ob} {ρ:Operand->PV} {op:Op} {r:Res} (h:aP T H ρ op=some r):H.length<=r.heap.length:=by
 unfold aP at h;cases op<;>simp only[Res.pure,Res.if] at h
 all_goals repeat' (split at h)
 all_goals first
  | (cases h;done)
  | (cases h;simp[ft,aV];done)
  | skip
 all_goals
  rename_i bQ;cases h;unfold storeAt at bQ
  repeat' (split at bQ)
  all_goals first
   | (cases bQ;done)
   | (cases bQ;simp[ft,aV])
theorem zZ {H:List Ob} {b:Builtin} {ts:List TypeId} {vs:List PV} {r:Res} (h:fK T H b ts vs=some r):H.length<=r.heap.length:=by
 unfold fK at h;simp only[Res.pure] at h
 repeat' (split at h)
 all_goals first
  | (cases h;done)
  | (cases h;simp)
theorem uo {H:List Ob} {k:FuncId} {args:List PV} {v:PV} {H':List Ob} (h:CallRel P H k args v H'):H.length<=H'.length:=by
 cases h with
 | pure=>simp[shutAs,aV]
 | nilp=>simp[shutAs,aV]
 | lend=>simp[shutBs,aV]
theorem HRd.room {c:fR} {w:World} {X:Nat->Prop} {ρ:Places} {H:List Ob} (h:HRd c w X ρ H) (n:Nat):
 HRd c w X (ρ++replicate n none) (H++(replicate n .dead++[]))/\ ∀ id,H.length<=id->id<H.length+(replicate n Ob.dead).length->(ρ++replicate n none)[id]?=some none:=by
 have h1:=h.extend (replicate n .dead)
 rw[Ux] at h1
 refine⟨by simpa using h1,fun id h2 h3=>?_⟩
 rw[Ux] at h3
 rw[getElem?_append_right (by rw[h.len];exact h2),List.getElem?_replicate,if_pos (by rw[h.len];omega)]
theorem EnvRd.mono {w:World} {X:Nat->Prop} {ρ ρ':Places} {t:Array Value} {env:List PV} (h:EnvRd w X ρ t env) (hρ:ρ.Le ρ'):EnvRd w X ρ' t env:=
 ⟨h.1,fun i v x hv hx=>(h.2 i v x hv hx).mono (Same.refl X w) (fun _ _ h=>h) hρ⟩
theorem EnvRd.put {w:World} {X:Nat->Prop} {ρ:Places} {a:Act} {env:List PV} (h:EnvRd w X ρ a.tmps env) (d:Option Nat) {u:Value} {v:PV} (hu:PRd w X ρ u v):
 EnvRd w X ρ (a.put d u).tmps (match d with | some t=>env.set t v | none=>env):=by
 cases d with
 | none=>exact h
 | some t=>
  refine⟨by simp[Act.put,h.1],fun i v' x hv hx=>?_⟩;simp only[Act.put] at hv;by_cases hi:t=i
  .subst hi;have aG:t<a.tmps.size:=by have:=(Array.getElem?_eq_some_iff.1 hv).1;simpa using this
   simp[aG] at hv;have lY:t<env.length:=by rw[<-h.1];exact aG
   rw[qv lY] at hx;cases hx;subst hv;exact hu
  rw[Array.getElem?_setIfInBounds_ne hi] at hv;rw[getElem?_set_ne hi] at hx;exact h.2 i v' x hv hx
def abd (c:fR) (a:Act) (env:List PV) (d:Option Nat) (K:PV->List Ob->Prop) (next:Act->World->Prop):Prop:=
 ∀ v H u w' X' ρ',K v H->HRd c w' X' ρ' H->EnvRd w' X' ρ' a.tmps env->PRd w' X' ρ' u v->Keeps c w'->next (a.put d u) w'
theorem z7 {w:World} {o:Oper} {e:Operand->Value} {f:Operand} {args:Array Operand} {ts:Array TypeId} {k:FuncId} {u1 u2:Array Value}
 (ho:o.op= .call {callee:= .value f,args:=args,argTypes:=ts}) (hf:e f= .func (.func k) u1 u2) (hg:Nt P k):(execOp e o).run P w= .ok (.enter k (u1++args.map e++u2)) w:=by
 obtain⟨fn,cd,h1,h2,h3⟩:=hg
 unfold execOp
 simp only[ho,resolve,hf,Deferred.ofValue,Sem.run_bind,Sem.run_pure,Result.andThen_ok,invoke,callFunc,run_program,h1,h2,h3,Option.isNone_some]
 simp
theorem xh (hT:ck P T) {o:Oper} {c:fR} {a:Act} {w:World} {X:Nat->Prop} {ρ:Places} {st:St} {K:PV->List Ob->Prop} {next:Act->World->Prop} {Q:Exit->Act->World->Prop}
 (h:WPop P T o.op st K) (hh:HRd c w X ρ st.heap) (he:EnvRd w X ρ a.tmps st.env) (hk:Keeps c w) (hn:abd c a st.env o.dst K next):o.wp P a w next Q:=by
 have fin: ∀ {r:Result Next} {v:PV} {H:List Ob} {ρ1:Places} {lo hi:Nat},ρ.Le ρ1->K v H->OpOK c w X ρ1 lo hi H r v->(execOp a.eval o).run P w=r->o.wp P a w next Q:=by
  intro r v H ρ1 lo hi cX hK ⟨u,w',X',ρ',hr,hs,uF,hu,_⟩ cL;have pn:w.drawn<=w'.drawn:=by
   rcases hr with hr | ⟨hr,_⟩
   .exact cy _ _ (cL.trans hr)
   exact cy _ _ (cL.trans hr)
  have iu:=hn v H u w' X' ρ' hK uF ((he.mono cX).stp hs) hu ⟨hs.keeps hk.toKeepsB,ka hk.drawn pn⟩;unfold Oper.wp;rw[cL];rcases hr with hr | ⟨hr,rfl⟩
  .rw[hr];exact iu
  rw[hr];exact iu
 by_cases Eu: ∃ cl,o.op= .call cl
 .obtain⟨cl,ho⟩:=Eu
  rw[ho] at h
  simp only[WPop,WPcall] at h
  obtain⟨callee,args,ts⟩:=cl
  cases callee with
  | builtin b=>
   simp only at h;split at h
   .rename_i r hr;obtain⟨hc,hK⟩:=h;have aA:=zZ hr;obtain⟨h1,h2⟩:=hh.room (r.heap.length - st.heap.length);have cX:=Places.Le.append ρ (replicate (r.heap.length - st.heap.length) none);have bf:=ND hT b args ts (o:=o) (e:=a.eval) (ρv:=ev st.env) ho h1 h2 (fun x _=>o0 (he.mono cX) x) hr hc (by simp;omega);rw[append_nil] at bf;exact fin cX hK bf rfl
   .exact h.elim
  | value f=>
   simp only at h;split at h
   .rename_i k pre post xN;obtain⟨v,H',GF,hK⟩:=h;have aA:=uo GF;obtain⟨h1,h2⟩:=hh.room (H'.length - st.heap.length);have cX:=Places.Le.append ρ (replicate (H'.length - st.heap.length) none);have hf:=o0 (he.mono cX) f;have hfv: ∃ u1 u2,a.eval f= .func (.func k) u1 u2/\PRds w X (ρ++replicate (H'.length - st.heap.length) none) u1 pre/\PRds w X (ρ++replicate (H'.length - st.heap.length) none) u2 post:=by
     generalize ev st.env f=pf at hf xN;unfold A5 at xN;split at xN
     .split at xN
      .rename_i hz;cases xN;refine⟨_,_,hf.litInv,⟨by simp,fun i v x hv hx=>?_⟩,⟨by simpa using hz,fun i v x hv hx=>by simp at hx⟩⟩;rw[List.getElem?_map,Option.map_eq_some_iff] at hx;obtain⟨y,hy,rfl⟩:=hx;rw[Array.getElem?_toList,hv] at hy;cases hy;exact kG _
      cases xN
     .cases xN;generalize kQ:a.eval f=uf at hf;cases hf with
      | fv _ _ K7=>
       cases K7 with
       | fn _ u1 u2 c1 c2 h1 h2 r1 r2=>
        refine⟨u1,u2,rfl,⟨by simpa using h1,fun i v x hv hx=>?_⟩,⟨by simpa using h2,fun i v x hv hx=>?_⟩⟩
        .rw[List.getElem?_map,Option.map_eq_some_iff] at hx;obtain⟨y,hy,rfl⟩:=hx;exact .fv _ _ (r1 i v y hv hy)
        rw[List.getElem?_map,Option.map_eq_some_iff] at hx;obtain⟨y,hy,rfl⟩:=hx;exact .fv _ _ (r2 i v y hv hy)
     cases xN
    obtain⟨u1,u2,O3,Aa,Ie⟩:=hfv;have se: ∀ {va vb:Array Value} {xa xb:List PV},PRds w X (ρ++replicate (H'.length - st.heap.length) none) va xa->PRds w X (ρ++replicate (H'.length - st.heap.length) none) vb xb->
     PRds w X (ρ++replicate (H'.length - st.heap.length) none) (va++vb) (xa++xb):=by
     intro va vb xa xb ⟨jX,BX⟩ ⟨dp,dN⟩
     refine⟨by simp[jX,dp],fun i v x hv hx=>?_⟩
     by_cases hi:i<va.size
     .rw[Array.getElem?_append_left hi] at hv
      rw[qi (by rw[<-jX];exact hi)] at hx
      exact BX i v x hv hx
     rw[Array.getElem?_append_right (by omega)] at hv
     rw[getElem?_append_right (by rw[<-jX];omega),<-jX] at hx
     exact dN _ v x hv hx
    have pG:PRds w X (ρ++replicate (H'.length - st.heap.length) none) (args.map a.eval) (args.toList.map (ev st.env)):=by
     refine⟨by simp,fun i v x hv hx=>?_⟩;simp at hv;obtain⟨y,hy,rfl⟩:=hv;rw[List.getElem?_map] at hx;simp only[Array.getElem?_toList,hy,Option.map_some,qo] at hx;subst hx;exact o0 (he.mono cX) y
    obtain⟨Xq,GG⟩:=xg h1 h2 (se (se Aa pG) Ie) GF (by simp;omega);unfold Oper.wp;rw[z7 ho O3 Xq];refine GG.mono ?_;rintro e w' ⟨u,X',ρ',rfl,hs,pn,uF,hu,_⟩;rw[append_nil] at uF;exact hn v H' u w' X' ρ' hK uF ((he.mono cX).stp hs) hu ⟨hs.keeps hk.toKeepsB,ka hk.drawn pn⟩
   .exact h.elim
  | invoke r m=>exact h.elim
 have ao: ∃ r,aP T st.heap (ev st.env) o.op=some r/\r.cond/\K r.val r.heap:=by
  unfold WPop at h;split at h
  .rename_i cl eO;exact absurd ⟨cl,eO⟩ Eu
  split at h
  .rename_i r hr;exact⟨r,hr,h.1,h.2⟩
  exact h.elim
 obtain⟨r,hr,hc,hK⟩:=ao
 have aA:=zY hr
 obtain⟨h1,h2⟩:=hh.room (r.heap.length - st.heap.length)
 have cX:=Places.Le.append ρ (replicate (r.heap.length - st.heap.length) none)
 have bf:=DJ hT o.op (o:=o) (e:=a.eval) (ρv:=ev st.env) rfl h1 h2 (fun x _=>o0 (he.mono cX) x) hr hc (by simp;omega)
 rw[append_nil] at bf
 exact fin cX hK bf rfl
theorem JS {w:World} {X:Nat->Prop} {ρ:Places} {ops:Array Oper} {tmps:Array Value} {env:List PV} (he:EnvRd w X ρ tmps env) {j t:Nat} (hj:(ops[j]?).bind (·.dst)=some t):
 (∀ b,env.getD t .any= .fv (.lit (.bool b))->yielded ops tmps j=some b)/\(env.getD t .any= .tup []->yielded ops tmps j=none):=by
 unfold yielded
 rw[hj]
 simp only[Option.bind_some]
 have key: ∀ x,env.getD t .any=x->x≠ .any-> ∃ v,tmps[t]?=some v/\PRd w X ρ v x:=by
  intro x hx fX;rw[qa] at hx;cases hg:env[t]? with
  | none=>rw[hg] at hx;exact absurd hx.symm fX
  | some y=>
   rw[hg] at hx;simp only[Option.getD_some] at hx;subst hx;have aG:t<tmps.size:=by rw[he.1];exact(List.getElem?_eq_some_iff.1 hg).1
   exact⟨tmps[t],by simp[aG],he.2 t _ _ (by simp[aG]) hg⟩
 constructor
 .intro b hb
  obtain⟨v,hv,hp⟩:=key _ hb (by simp)
  rw[hv,hp.litInv]
 intro hb
 obtain⟨v,hv,hp⟩:=key _ hb (by simp)
 rw[hv]
 cases hp;rfl
theorem oa (hT:ck P T) {ops:Array Oper} {Q:Exit->Act->World->Prop} {c:fR} {K:St->Prop} (hK: ∀ st a w,K st->SRd c st a w->Q .normal a w):
 ∀ (l:List Oper) (k:Nat) (st:St) (a:Act) (w:World),(∀ j,l[j]?=ops[k+j]?)->WPops P T ops l st K->SRd c st a w->wpOps P ops Q (range' k l.length) a w
 | [],k,st,a,w,_,h,hs=>hK st a w h hs
 | o::l,k,st,a,w,hl,h,hs=>by
  have h0:ops[k]?=some o:=by simpa using(hl 0).symm
  have hl': ∀ j,l[j]?=ops[k+1+j]?:=fun j=>by
   have:=hl (j+1);rw[List.getElem?_cons_succ] at this;rw[this];congr 1;omega
  rw[length_cons,List.range'_succ];unfold wpOps;simp only[h0];obtain⟨X,ρ,hh,he,hd,hk⟩:=hs;have run: ∀ {Kp:St->Prop},WPop P T o.op st (fun v H=>WPops P T ops l (st.upd o.dst v H) K)->o.wp P a w (wpOps P ops Q (range' (k+1) l.length)) Q:=by
   intro _ hw;refine xh hT hw hh he hk (fun v H u w' X' ρ' hv uF KR hu vF=>?_);refine oa hT hK l (k+1) _ _ _ hl' hv ⟨X',ρ',uF,KR.put o.dst hu,?_,vF⟩;cases o.dst<;>exact hd
  have skip:WPops P T ops l (st.upd o.dst (.tup []) st.heap) K->wpOps P ops Q (range' (k+1) l.length) (a.put o.dst undef) w:=by
   intro hw;refine oa hT hK l (k+1) _ _ _ hl' hw ⟨X,ρ,hh,he.put o.dst (.tup #[] [] rfl (by simp)),?_,hk⟩;cases o.dst<;>exact hd
  unfold WPops at h;cases hg:o.guard with
  | none=>
   simp only[hg] at h;have nj:Region.wanted o (yielded ops a.tmps)=true:=by simp[Region.wanted,hg]
   rw[nj];exact .inl (run (Kp:=K) h)
  | some gd=>
   obtain⟨j,want⟩:=gd;simp only[hg] at h;cases hj:(ops[j]?).bind (·.dst) with
   | none=>rw[hj] at h;exact h.elim
   | some t=>
    rw[hj] at h;simp only at h;obtain⟨yJ,tB⟩:=JS (ops:=ops) he hj;split at h
    .rename_i b hb;have hy:=yJ b hb;by_cases xO:b=want
     .have nj:Region.wanted o (yielded ops a.tmps)=true:=by simp[Region.wanted,hg,hy,xO]
      rw[nj];exact .inl (run (Kp:=K) (h.1 xO))
     have nj:Region.wanted o (yielded ops a.tmps)=false:=by simp[Region.wanted,hg,hy,xO]
     rw[nj];exact skip (h.2 (by cases b<;>cases want<;>simp_all))
    .rename_i hb;have hy:=tB hb;have nj:Region.wanted o (yielded ops a.tmps)=false:=by simp[Region.wanted,hg,hy]
     rw[nj];exact skip h
    exact h.elim
theorem z9 (hT:ck P T) {ops:Array Oper} {Q:Exit->Act->World->Prop} {c:fR} {K:St->Prop} (hK: ∀ st a w,K st->SRd c st a w->Q .normal a w):
 ∀ (n:Nat) (listed:Array Bool) (st:St) (a:Act) (w:World),WPany P T ops n listed st K->SRd c st a w->wpAny P .any ops Q n listed a w
 | 0,listed,st,a,w,h,hs=>⟨h.1,hK st a w h.2 hs⟩
 | n+1,listed,st,a,w,h,hs=>by
  refine⟨fun e=>hK st a w (h.1 e) hs,fun i hi=>?_⟩;have h2:=h.2 i hi;unfold wpOp;cases ho:ops[i]? with
  | none=>rw[ho] at h2;exact h2.elim
  | some o=>
   rw[ho] at h2;obtain⟨hg,hw⟩:=h2;have nj:Region.wanted o (yielded ops a.tmps)=true:=by simp[Region.wanted,hg]
   simp only[nj,if_true];obtain⟨X,ρ,hh,he,hd,hk⟩:=hs;refine .inl (xh hT hw hh he hk (fun v H u w' X' ρ' hv uF KR hu vF=>?_));refine z9 hT hK n _ _ _ _ hv ⟨X',ρ',uF,KR.put o.dst hu,?_,vF⟩;cases o.dst<;>exact hd
end
end Go.AM
namespace Go.AM
section
variable {P:Program} {T:Tab}
theorem xi (hT:ck P T) {o:Oper} {c:fR} {a:Act} {w:World} {X:Nat->Prop} {ρ:Places} {s:St} {D R:List Ob} {v:PV} {H':List Ob} {next:Act->World->Prop} {Q:Exit->Act->World->Prop}
 (h:WPop P T o.op s fun v' H''=>v'=v/\H''=H') (hh:HRd c w X ρ (s.heap++(D++R))) (hD: ∀ id,s.heap.length<=id->id<s.heap.length+D.length->ρ[id]?=some none) (aA:H'.length=s.heap.length+D.length)
 (po: ∀ x∈o.op.operands,PRd w X ρ (a.eval x) (ev s.env x))
 (hn: ∀ u w' X' ρ',Stp c w w' X X' ρ ρ'->w.drawn<=w'.drawn->HRd c w' X' ρ' (H'++R)->PRd w' X' ρ' u v->(∀ id,(id<s.heap.length\/s.heap.length+D.length<=id)->ρ'[id]?=ρ[id]?)->next (a.put o.dst u) w'):o.wp P a w next Q:=by
 have fin: ∀ {r:Result Next},OpOK c w X ρ s.heap.length (s.heap.length+D.length) (H'++R) r v->(execOp a.eval o).run P w=r->o.wp P a w next Q:=by
  intro r ⟨u,w',X',ρ',hr,hs,uF,hu,cZ⟩ cL;have pn:w.drawn<=w'.drawn:=by
   rcases hr with hr | ⟨hr,_⟩
   .exact cy _ _ (cL.trans hr)
   exact cy _ _ (cL.trans hr)
  have iu:=hn u w' X' ρ' hs pn uF hu cZ;unfold Oper.wp;rw[cL];rcases hr with hr | ⟨hr,rfl⟩
  .rw[hr];exact iu
  rw[hr];exact iu
 by_cases Eu: ∃ cl,o.op= .call cl
 .obtain⟨cl,ho⟩:=Eu
  rw[ho] at h po
  simp only[WPop,WPcall] at h
  obtain⟨callee,args,ts⟩:=cl
  cases callee with
  | builtin b=>
   simp only at h;split at h
   .rename_i r hr;obtain⟨hc,rfl,rfl⟩:=h;exact fin (ND hT b args ts (o:=o) (e:=a.eval) (ρv:=ev s.env) ho hh hD (fun x hx=>po x (by simp[Op.operands,Call.operands];exact hx)) hr hc aA) rfl
   .exact h.elim
  | value f=>
   simp only at h;split at h
   .rename_i k pre post xN;obtain⟨v1,H1,GF,rfl,rfl⟩:=h;have hf:=po f (by simp[Op.operands,Call.operands]);have hfv: ∃ u1 u2,a.eval f= .func (.func k) u1 u2/\PRds w X ρ u1 pre/\PRds w X ρ u2 post:=by
     generalize ev s.env f=pf at hf xN;unfold A5 at xN;split at xN
     .split at xN
      .rename_i hz;cases xN;refine⟨_,_,hf.litInv,⟨by simp,fun i v x hv hx=>?_⟩,⟨by simpa using hz,fun i v x hv hx=>by simp at hx⟩⟩;rw[List.getElem?_map,Option.map_eq_some_iff] at hx;obtain⟨y,hy,rfl⟩:=hx;rw[Array.getElem?_toList,hv] at hy;cases hy;exact kG _
      cases xN
     .cases xN;generalize kQ:a.eval f=uf at hf;cases hf with
      | fv _ _ K7=>
       cases K7 with
       | fn _ u1 u2 c1 c2 h1 h2 r1 r2=>
        refine⟨u1,u2,rfl,⟨by simpa using h1,fun i v x hv hx=>?_⟩,⟨by simpa using h2,fun i v x hv hx=>?_⟩⟩
        .rw[List.getElem?_map,Option.map_eq_some_iff] at hx;obtain⟨y,hy,rfl⟩:=hx;exact .fv _ _ (r1 i v y hv hy)
        rw[List.getElem?_map,Option.map_eq_some_iff] at hx;obtain⟨y,hy,rfl⟩:=hx;exact .fv _ _ (r2 i v y hv hy)
     cases xN
    obtain⟨u1,u2,O3,Aa,Ie⟩:=hfv;have se: ∀ {va vb:Array Value} {xa xb:List PV},PRds w X ρ va xa->PRds w X ρ vb xb->PRds w X ρ (va++vb) (xa++xb):=by
     intro va vb xa xb ⟨jX,BX⟩ ⟨dp,dN⟩;refine⟨by simp[jX,dp],fun i v x hv hx=>?_⟩;by_cases hi:i<va.size
     .rw[Array.getElem?_append_left hi] at hv;rw[qi (by rw[<-jX];exact hi)] at hx;exact BX i v x hv hx
     rw[Array.getElem?_append_right (by omega)] at hv;rw[getElem?_append_right (by rw[<-jX];omega),<-jX] at hx;exact dN _ v x hv hx
    have pG:PRds w X ρ (args.map a.eval) (args.toList.map (ev s.env)):=by
     refine⟨by simp,fun i v x hv hx=>?_⟩;simp at hv;obtain⟨y,hy,rfl⟩:=hv;rw[List.getElem?_map] at hx;simp only[Array.getElem?_toList,hy,Option.map_some,qo] at hx;subst hx;exact po y (by simp[Op.operands,Call.operands];exact .inr (Array.mem_of_getElem? hy))
    obtain⟨Xq,GG⟩:=xg hh hD (se (se Aa pG) Ie) GF aA;unfold Oper.wp;rw[z7 ho O3 Xq];refine GG.mono ?_;rintro e w' ⟨u,X',ρ',rfl,hs,pn,uF,hu,cZ⟩;exact hn u w' X' ρ' hs pn uF hu cZ
   .exact h.elim
  | invoke r m=>exact h.elim
 have ao: ∃ r,aP T s.heap (ev s.env) o.op=some r/\r.cond/\r.val=v/\r.heap=H':=by
  unfold WPop at h;split at h
  .rename_i cl eO;exact absurd ⟨cl,eO⟩ Eu
  split at h
  .rename_i r hr;exact⟨r,hr,h.1,h.2⟩
  exact h.elim
 obtain⟨r,hr,hc,rfl,rfl⟩:=ao
 exact fin (DJ hT o.op (o:=o) (e:=a.eval) (ρv:=ev s.env) rfl hh hD po hr hc aA) rfl
theorem z_ {op:Op} {s:St} {K:PV->List Ob->Prop} (h:WPop P T op s K): ∃ v H',WPop P T op s (fun v' H''=>v'=v/\H''=H')/\K v H':=by
 unfold WPop at h;split at h
 .rename_i c;unfold WPcall at h;split at h
  .rename_i b hb;split at h
   .rename_i r hr;exact⟨r.val,r.heap,by simp only[WPop,WPcall,hb,hr];exact⟨h.1,b',b'⟩,h.2⟩
   exact h.elim
  .rename_i f hf;split at h
   .rename_i k pre post xN;obtain⟨v,H',GF,hK⟩:=h;exact⟨v,H',by simp only[WPop,WPcall,hf,xN];exact⟨v,H',GF,rfl,rfl⟩,hK⟩
   exact h.elim
  exact h.elim
 rename_i l9;split at h
 .rename_i r hr;refine⟨r.val,r.heap,?_,h.2⟩;unfold WPop;split
  .rename_i c;exact absurd rfl (l9 c)
  rw[hr];exact⟨h.1,rfl,rfl⟩
 exact h.elim
theorem DN {op:Op} {s:St} {v:PV} {H':List Ob} (h:WPop P T op s fun v' H''=>v'=v/\H''=H'):s.heap.length<=H'.length:=by
 unfold WPop at h;split at h
 .rename_i c;unfold WPcall at h;split at h
  .split at h
   .rename_i r hr;rw[<-h.2.2];exact zZ hr
   exact h.elim
  .split at h
   .obtain⟨v,H',GF,_,rfl⟩:=h;exact uo GF
   exact h.elim
  exact h.elim
 split at h
 .rename_i r hr;rw[<-h.2.2];exact zY hr
 exact h.elim
theorem Bj (hT:ck P T) {op:Op} (h0:cm op=0) {w:World} {X:Nat->Prop} {ρ:Places} {s:St} {v:PV} {H':List Ob} {o:Oper} (ho:o.op=op) {e:Operand->Value} (h:WPop P T op s fun v' H''=>v'=v/\H''=H')
 (po: ∀ x∈op.operands,PRd w X ρ (e x) (ev s.env x)):H'=s.heap/\ ∃ u,(execOp e o).run P w= .ok (.value u) w/\PRd w X ρ u v:=by
 cases op<;>simp only[cm,reduceCtorEq] at h0<;>try first | (cases h0;done) | (split at h0<;>cases h0;done)
 case move x=>
  simp only[WPop,aP,Res.pure] at h;obtain⟨_,rfl,rfl⟩:=h;exact⟨rfl,e x,by simp[execOp,ho],po x (by simp[Op.operands])⟩
 case assign x=>
  simp only[WPop,aP,Res.pure] at h;obtain⟨_,rfl,rfl⟩:=h;exact⟨rfl,e x,by simp[execOp,ho],po x (by simp[Op.operands])⟩
 case extract x ix=>
  have hx:=po x (by simp[Op.operands]);simp only[WPop,aP] at h;cases hv:ev s.env x with
  | tup vs=>
   rw[hv] at h hx;simp only at h;cases dT:vs[ix]? with
   | none=>rw[dT] at h;exact h.elim
   | some y=>
    rw[dT] at h;simp only[Res.pure] at h;obtain⟨_,rfl,rfl⟩:=h;generalize hu:e x=u at hx;cases hx with
    | tup us _ hn hr=>
     have aG:ix<us.size:=by rw[hn];exact(List.getElem?_eq_some_iff.1 dT).1
     exact⟨rfl,us[ix],by simp[execOp,ho,hu,Instr.extract,Array.getElem?_eq_getElem aG],hr ix _ _ (Array.getElem?_eq_getElem aG) dT⟩
  | _=>rw[hv] at h;exact h.elim
 case binOp bop t x y t'=>
  have hx:=po x (by simp[Op.operands]);have hy:=po y (by simp[Op.operands]);simp only[WPop] at h;split at h
  .rename_i r hr;obtain⟨hc,rfl,rfl⟩:=h;exact wX hT bop t x y t' ho hx hy hr hc
  exact h.elim
end
end Go.AM
namespace Go.AM
section
variable {P:Program} {T:Tab} {ops:Array Oper}
def pE (ops:Array Oper) (s:St) (o:Oper):Option Bool:=
 match o.guard with
 | none=>some true
 | some (j,want)=>match (ops[j]?).bind (·.dst) with
  | some t=>match s.get t with
   | .fv (.lit (.bool b))=>some (b==want)
   | .tup []=>some false
   | _=>none
  | none=>none
def Step1 (P:Program) (T:Tab) (ops:Array Oper) (o:Oper) (s s':St):Prop:=
 (pE ops s o=some true/\ ∃ v H' ids,(WPop P T o.op s fun v' H''=>v'=v/\H''=H')/\(aY o.op=true\/(ids=[]/\ ∃ obs,H'=s.heap++obs))/\s'=s.upd o.dst v (shutIds ids H'))\/
 (pE ops s o=some false/\s'=s.upd o.dst (.tup []) s.heap)
def Step2 (P:Program) (T:Tab) (ops:Array Oper) (o:Oper) (s s':St) (m:List Nat):Prop:=
 (pE ops s o=some true/\ ∃ v H' ids,(WPop P T o.op s fun v' H''=>v'=v/\H''=H')/\(aY o.op=true\/(ids=[]/\ ∃ obs,H'=s.heap++obs))/\s'=s.upd o.dst v (shutIds ids H')/\m=mark (ev s.env) o.op++ids)\/
 (pE ops s o=some false/\s'=s.upd o.dst (.tup []) s.heap)
theorem Step2.one {o:Oper} {s s':St} {m:List Nat} (h:Step2 P T ops o s s' m):Step1 P T ops o s s':=by
 rcases h with⟨h1,v,H',ids,h2,h3,h4,_⟩ | h
 .exact .inl ⟨h1,v,H',ids,h2,h3,h4⟩
 exact .inr h
theorem abe {K:St->List (List Nat)->Prop}: ∀ (l:List Oper) (sh tr:List (List Nat)) (st:St),WPdrawS P T ops l sh tr st K->
 ∃ (S:Nat->St) (tl:List (List Nat)),S 0=st/\(∀ (j:Nat) o,l[j]?=some o->Step2 P T ops o (S j) (S (j+1)) (tl.getD j []))/\K (S l.length) (tr++tl)
 | [],sh,tr,st,h=>⟨fun _=>st,[],rfl,by simp,by rw[append_nil];exact h⟩
 | o::l,sh,tr,st,h=>by
  have fin: ∀ s' m,Step2 P T ops o st s' m->WPdrawS P T ops l sh.tail (tr++[m]) s' K-> ∃ (S:Nat->St) (tl:List (List Nat)),S 0=st/\(∀ (j:Nat) o',(o::l)[j]?=some o'->Step2 P T ops o' (S j) (S (j+1)) (tl.getD j []))/\K (S (o::l).length) (tr++tl):=by
   intro s' m hs hw;obtain⟨S,tl,h0,h1,h2⟩:=abe l sh.tail (tr++[m]) s' hw;refine⟨fun j=>match j with | 0=>st | j+1=>S j,m::tl,rfl,fun j o' hj=>?_,by rw[append_assoc] at h2;exact h2⟩
   cases j with
   | zero=>simp at hj;subst hj;simp only[h0];exact hs
   | succ j=>exact h1 j o' (by simpa using hj)
  unfold WPdrawS at h;cases hg:o.guard with
  | none=>
   simp only[hg] at h;obtain⟨v,H',h1,h2,h3⟩:=z_ h;exact fin _ _ (.inl ⟨by simp[pE,hg],v,H',_,h1,h2,rfl,rfl⟩) h3
  | some gd=>
   obtain⟨j,want⟩:=gd;simp only[hg] at h;cases hj:(ops[j]?).bind (·.dst) with
   | none=>rw[hj] at h;exact h.elim
   | some t=>
    rw[hj] at h;simp only at h;split at h
    .rename_i b hb;by_cases xO:b=want
     .obtain⟨v,H',h1,h2,h3⟩:=z_ (h.1 xO);exact fin _ _ (.inl ⟨by simp[pE,hg,hj,hb,xO],v,H',_,h1,h2,rfl,rfl⟩) h3
     exact fin _ _ (.inr ⟨by simp[pE,hg,hj,hb,xO],rfl⟩) (h.2 (by cases b<;>cases want<;>simp_all))
    .rename_i hb;exact fin _ _ (.inr ⟨by simp[pE,hg,hj,hb],rfl⟩) h
    exact h.elim
def mO (ops:Array Oper) (listed:Array Bool):Prop:=
 ∀ (j:Nat) oj,ops[j]?=some oj->listed.getD j false=true-> ∀ e∈oj.after,cj e=true->listed.getD e.on false=true
def tm (ops:Array Oper) (acc:List Nat):Prop:=
 ∀ (j:Nat) oj i,j<acc.length->ops[j]?=some oj->(acc.getD j 0).testBit i=true-> ∀ listed,mO ops listed->(∀ e∈oj.after,cj e=true->listed.getD e.on false=true)->listed.getD i false=true
theorem pF (acc:List Nat): ∀ (es:List Edge) (s i:Nat),(es.foldl (fun s e=>if cj e then s||| 2^e.on||| acc.getD e.on 0 else s) s).testBit i=true->
 s.testBit i=true\/ ∃ e∈es,cj e=true/\(i=e.on\/(acc.getD e.on 0).testBit i=true)
 | [],s,i,h=> .inl h
 | e::es,s,i,h=>by
  rw[List.foldl_cons] at h;rcases pF acc es _ i h with h1 | ⟨e',KR,hp,h1⟩
  .split at h1
   .rename_i hp;simp only[Nat.testBit_or,EL] at h1;rcases h1 with(h1 | h1) | h1
    .exact .inl h1
    .right;refine⟨e,by simp,hp,.inl ?_⟩;rw[Nat.testBit_two_pow] at h1;have h2:e.on=i:=by simpa using h1
     exact h2.symm
    exact .inr ⟨e,by simp,hp,.inr h1⟩
   exact .inl h1
  exact .inr ⟨e',by simp[KR],hp,h1⟩
theorem xj: ∀ (l:List Oper) (acc:List Nat),(∀ j,l[j]?=ops[acc.length+j]?)->tm ops acc->tm ops (masks l acc)
 | [],acc,_,h=>h
 | o::l,acc,hl,h=>by
  have h0:ops[acc.length]?=some o:=by simpa using(hl 0).symm
  refine xj l _ (fun j=>?_) ?_
  .have:=hl (j+1);rw[List.getElem?_cons_succ] at this;rw[this];congr 1;simp;omega
  intro j oj i hj KD hb listed hc hp;by_cases aG:j<acc.length
  .rw[qa,qi aG,<-qa] at hb;exact h j oj i aG KD hb listed hc hp
  have PG:j=acc.length:=by simp at hj;omega
  subst PG;rw[h0] at KD;cases KD;simp only[qa,getElem?_append_right (qp _),Nat.sub_self,List.getElem?_cons_zero,Option.getD_some] at hb;unfold Dn at hb;rcases pF acc _ 0 i hb with h1 | ⟨e,he,K8,h1⟩
  .simp at h1
  have cX:=hp e (Array.mem_toList_iff.1 he) K8;rcases h1 with rfl | h1
  .exact cX
  have ahA:e.on<acc.length:=by
   apply Nat.lt_of_not_le;intro yG;rw[qa,getElem?_eq_none yG] at h1;simp at h1
  have o6: ∃ oe,ops[e.on]?=some oe:=by
   have So:acc.length<ops.size:=(Array.getElem?_eq_some_iff.1 h0).1;exact⟨ops[e.on]'(by omega),by simp[show e.on<ops.size by omega]⟩
  obtain⟨oe,hoe⟩:=o6;exact h e.on oe i ahA hoe h1 listed hc (fun e' KR ahB=>hc e.on oe hoe cX e' KR ahB)
structure fS (ops:Array Oper):Prop where
 cls: ∀ (j:Nat) oj,ops[j]?=some oj->cm oj.op<3
 low: ∀ (j:Nat) oj,ops[j]?=some oj-> ∀ e∈oj.after,cj e=true->e.on<j
 ord: ∀ (i j:Nat) oi oj,i<j->ops[i]?=some oi->ops[j]?=some oj->eb ops oi oj=true-> ∀ listed,mO ops listed->(∀ e∈oj.after,cj e=true->listed.getD e.on false=true)->listed.getD i false=true
 bit: ∀ (i j:Nat) oj,ops[j]?=some oj->((masks ops.toList []).getD j 0).testBit i=true-> ∀ listed,mO ops listed->(∀ e∈oj.after,cj e=true->listed.getD e.on false=true)->listed.getD i false=true
theorem mP: ∀ (l:List Oper) (acc:List Nat),(masks l acc).length=acc.length+l.length
 | [],acc=>by simp[masks]
 | o::l,acc=>by rw[masks,mP l];simp;omega
theorem JT (h:kF ops=true):fS ops:=by
 unfold kF at h;rw[nF] at h;have hm:tm ops (masks ops.toList []):=xj ops.toList [] (by simp) (by intro j oj i hj;simp at hj);have key: ∀ (j:Nat) oj,ops[j]?=some oj->(cm oj.op<3/\ ∀ e∈oj.after,cj e=true->e.on<j)/\ ∀ i,i<j-> ∀ oi,ops[i]?=some oi->eb ops oi oj=true->((masks ops.toList []).getD j 0).testBit i=true:=by
  intro j oj hj;have aG:j<ops.size:=(Array.getElem?_eq_some_iff.1 hj).1;have h1:=h j (List.mem_range.2 aG);simp only[hj,hG,decide_eq_true_eq,nF] at h1;obtain⟨⟨h2,h3⟩,h4⟩:=h1;refine⟨⟨h2,fun e he hp=>?_⟩,fun i hi oi Uk eO=>?_⟩
  .have:=h3 e (Array.mem_toList_iff.2 he);simpa [hp] using this
  have:=h4 i (List.mem_range.2 hi);simpa [Uk,eO] using this
 have kb: ∀ (i j:Nat) oj,ops[j]?=some oj->((masks ops.toList []).getD j 0).testBit i=true-> ∀ listed,mO ops listed->(∀ e∈oj.after,cj e=true->listed.getD e.on false=true)->listed.getD i false=true:=
  fun i j oj hj hb listed hc hp=>hm j oj i (by rw[mP];simp;exact(Array.getElem?_eq_some_iff.1 hj).1) hj hb listed hc hp
 refine⟨fun j oj hj=>(key j oj hj).1.1,fun j oj hj=>(key j oj hj).1.2,fun i j oi oj uX hi hj eO listed hc hp=>?_,kb⟩;exact hm j oj i (by rw[mP];simp;exact(Array.getElem?_eq_some_iff.1 hj).1) hj ((key j oj hj).2 i uX oi hi eO) listed hc hp
end
end Go.AM
namespace Go.AM
section
variable {P:Program} {T:Tab} {ops:Array Oper}
theorem tt (e:Edge):Region.binds .any e=cj e:=by
 unfold Region.binds cj;cases e.ground<;>rfl
theorem Rc (s:St) (d:Option Nat) (v:PV) (H:List Ob) (t:Nat) (h:d≠some t):(s.upd d v H).env.getD t .any=s.env.getD t .any:=by
 unfold St.upd;cases d with
 | none=>rfl
 | some t'=>
  have:t'≠t:=fun he=>h (by rw[he])
  simp only[qa,getElem?_set_ne this]
theorem Bo (s:St) (v:PV) (H:List Ob) (t:Nat) (h:t<s.env.length):(s.upd (some t) v H).env.getD t .any=v:=by
 unfold St.upd;simp[qa,h]
theorem Rd (s:St) (d:Option Nat) (v:PV) (H:List Ob):(s.upd d v H).env.length=s.env.length:=by
 unfold St.upd;cases d<;>simp
structure JU (P:Program) (T:Tab) (ops:Array Oper) (S:Nat->St):Prop where
 step: ∀ (j:Nat) o,ops[j]?=some o->Step1 P T ops o (S j) (S (j+1))
structure VB (P:Program) (T:Tab) (ops:Array Oper) (S:Nat->St) (mk:Nat->List Nat):Prop where
 run:JU P T ops S
 two: ∀ (j:Nat) o,ops[j]?=some o->Step2 P T ops o (S j) (S (j+1)) (mk j)
 dis: ∀ (i j:Nat) oi oj,i<j->ops[i]?=some oi->ops[j]?=some oj->((isApp oi.op&&isRead oj.op)||(isRead oi.op&&isApp oj.op))=true->((masks ops.toList []).getD j 0).testBit i=false-> ∀ id∈mk i,id∉mk j
theorem uq {id:Nat}: ∀ {ids:List Nat} {F:List Ob},id∉ids->(shutIds ids F)[id]?=F[id]?
 | [],F,_=>rfl
 | a::ids,F,h=>by
  rw[uI,not_or] at h;show(shutIds ids (shut F a))[id]?=_;rw[uq h.2];unfold shut;rw[List.getElem?_modify_ne _ _ (fun e=>h.1 e.symm)]
theorem yu {H F:List Ob} {id i off n:Nat} (h:F[id]?=H[id]?):ee F id i off n=ee H id i off n:=by
 unfold ee;rw[h]
theorem FC {op:Op} {s:St} {v:PV} {H':List Ob} (hr:isRead op=true) (h:WPop P T op s fun v' H''=>v'=v/\H''=H'):
 H'=s.heap/\ ∀ F:List Ob,(∀ id∈mark (ev s.env) op,F[id]?=s.heap[id]?)->WPop P T op ⟨s.env,F⟩ fun v' H''=>v'=v/\H''=F:=by
 cases op with
 | load t a=>
  unfold WPop at h;simp only[aP] at h;unfold WPop;simp only[aP];cases hi:T.at t with
  | none=>rw[hi] at h;exact h.elim
  | some ti=>
   rw[hi] at h;simp only at h ⊢;cases ha:ev s.env a with
   | ptr id j off=>
    rw[ha] at h;simp only at h ⊢;cases hc:ee s.heap id j off ti.size with
    | none=>rw[hc] at h;exact h.elim
    | some cc=>
     obtain⟨cd,cs⟩:=cc;rw[hc] at h;simp only at h;cases ho:ig ti cs with
     | none=>rw[ho] at h;exact h.elim
     | some w=>
      rw[ho] at h;simp only[Res.if] at h;obtain⟨h1,h2,h3⟩:=h;refine⟨h3.symm,fun F hF=>?_⟩;have hm:F[id]?=s.heap[id]?:=hF id (by simp[mark,ha]);simp only[yu hm,hc,ho,Res.if];exact⟨h1,h2,b'⟩
   | fv x=>
    rw[ha] at h;cases x with
    | fp cs=>
     simp only at h ⊢;cases ho:ig ti ((cs.take ti.size).map .fv) with
     | none=>rw[ho] at h;exact h.elim
     | some w=>
      rw[ho] at h;simp only[Res.if] at h;obtain⟨h1,h2,h3⟩:=h;refine⟨h3.symm,fun F _=>?_⟩;simp only[ho,Res.if];exact⟨h1,h2,b'⟩
    | _=>exact h.elim
   | _=>rw[ha] at h;exact h.elim
 | fieldAddr t x f=>
  unfold WPop at h;simp only[aP] at h;unfold WPop;simp only[aP]
  repeat' split at h
  all_goals first
   | exact h.elim
   | (simp_all [Res.pure,Res.if];done)
   | skip
  all_goals
   rename_i r hr
   repeat' split at hr
   all_goals first
    | (cases hr;done)
    | (unfold Res.pure at hr;cases hr;obtain⟨h1,h2,h3⟩:=h;refine⟨h3.symm,fun F _=>?_⟩;simp_all [Res.pure])
    | (unfold Res.if at hr;cases hr;obtain⟨h1,h2,h3⟩:=h;refine⟨h3.symm,fun F _=>?_⟩;simp_all [Res.if])
 | _=>cases hr
theorem JV {op:Op} {s:St} {v:PV} {H':List Ob} (hr:isApp op=true) (h:WPop P T op s fun v' H''=>v'=v/\H''=H') {id:Nat} (cF:id<s.heap.length) (hn:id∉mark (ev s.env) op):H'[id]?=s.heap[id]?:=by
 cases op with
 | call c=>
  obtain⟨callee,args,ts⟩:=c;unfold isApp Nu at hr;simp only at hr;split at hr
  .rename_i t rest lX;unfold WPop WPcall at h;simp only[lX,map_cons] at h;simp only[mark,lX] at hn;split at h
   .rename_i r f1;obtain⟨_,_,rfl⟩:=h;generalize hev:ev s.env (.tmp t)=sv at hn f1;unfold fK at f1
    repeat' split at f1
    all_goals first
     | (cases f1;done)
     | skip
    all_goals first
     | (cases f1;exact qi cF)
     | (cases f1;rfl)
     | skip
    all_goals
     cases f1;simp_all<;>first
      | (rw[List.getElem_set_ne (fun e=>hn e.symm)];done)
      | (rw[qi (by rw[length_set];exact cF),getElem?_set_ne (fun e=>hn e.symm)];try simp[cF])
   exact h.elim
  .cases hr
 | _=>cases hr
theorem Step2.touch {o:Oper} {s s':St} {m:List Nat} (h:Step2 P T ops o s s' m) (ha:isApp o.op=true) {id:Nat} (h1:id<s.heap.length) (h2:id∉m):s'.heap[id]?=s.heap[id]?:=by
 rcases h with⟨_,v,H',ids,hw,_,rfl,rfl⟩ | ⟨_,rfl⟩
 .rw[qr,not_or] at h2;show(shutIds ids H')[id]?=_;rw[uq h2.2];exact JV ha hw h1 h2.1
 rfl
variable {S:Nat->St}
theorem Step1.env {o:Oper} {s s':St} (h:Step1 P T ops o s s') (t:Nat) (ht:o.dst≠some t):s'.env.getD t .any=s.env.getD t .any:=by
 rcases h with⟨_,v,H',ids,_,_,rfl⟩ | ⟨_,rfl⟩<;>exact Rc _ _ _ _ _ ht
theorem Step1.len {o:Oper} {s s':St} (h:Step1 P T ops o s s'):s'.env.length=s.env.length:=by
 rcases h with⟨_,v,H',ids,_,_,rfl⟩ | ⟨_,rfl⟩<;>exact Rd _ _ _ _
theorem Step1.heap {o:Oper} {s s':St} (h:Step1 P T ops o s s'):s.heap.length<=s'.heap.length/\True/\(aY o.op=false->s'.heap=s.heap++s'.heap.drop s.heap.length):=by
 rcases h with⟨_,v,H',ids,hw,fr,rfl⟩ | ⟨_,rfl⟩
 .refine⟨by have:=DN hw;rw[<-aV ids H'] at this;exact this,b',fun hs=>?_⟩;rcases fr with fr | ⟨rfl,obs,rfl⟩
  .rw[hs] at fr;cases fr
  simp[St.upd,shutIds]
 simp[St.upd]
def iU (n:Nat) (S:Nat->St):Nat->List Ob
 | 0=>[]
 | m+1=>(S (n - m)).heap.drop (S (n - m - 1)).heap.length++iU n S m
def full (n:Nat) (S:Nat->St) (i:Nat):List Ob:=(S i).heap++iU n S (n - i)
theorem qA {n i:Nat} (h:i<n):iU n S (n - i)=(S (i+1)).heap.drop (S i).heap.length++iU n S (n - (i+1)):=by
 have e:n - i=(n - (i+1))+1:=by omega
 rw[e,iU];rw[show n - (n - (i+1))=i+1 by omega,show i+1 - 1=i by omega]
theorem jD (hr:JU P T ops S) {i:Nat} {o:Oper} (ho:ops[i]?=some o):
 (aY o.op=false->full ops.size S i=full ops.size S (i+1))/\full ops.size S i=(S i).heap++((S (i+1)).heap.drop (S i).heap.length++iU ops.size S (ops.size - (i+1))):=by
 have aG:i<ops.size:=(Array.getElem?_eq_some_iff.1 ho).1
 have h2:full ops.size S i=(S i).heap++((S (i+1)).heap.drop (S i).heap.length++iU ops.size S (ops.size - (i+1))):=by
  unfold full;rw[qA aG]
 refine⟨fun hs=>?_,h2⟩
 rw[h2,<-append_assoc,<-((hr.step i o ho).heap.2.2 hs)]
 rfl
theorem xk (hr:JU P T ops S) {t:Nat}: ∀ (d i:Nat),i+d<=ops.size->(∀ k o,i<=k->k<i+d->ops[k]?=some o->o.dst≠some t)->(S (i+d)).env.getD t .any=(S i).env.getD t .any
 | 0,i,_,_=>rfl
 | d+1,i,hl,h=>by
  have aG:i+d<ops.size:=by omega
  have h1:=hr.step (i+d) ops[i+d] (by simp[aG]);rw[show i+(d+1)=(i+d)+1 by omega,h1.env t (h (i+d) _ (by omega) (by omega) (by simp[aG]))];exact xk hr d i (by omega) (fun k o hk iY ho=>h k o hk (by omega) ho)
theorem fj (hr:JU P T ops S): ∀ (d i:Nat),i+d<=ops.size->(∀ k o,i<=k->k<i+d->ops[k]?=some o->aY o.op=false)->full ops.size S (i+d)=full ops.size S i
 | 0,i,_,_=>rfl
 | d+1,i,hl,h=>by
  have aG:i+d<ops.size:=by omega
  have h1:=(jD hr (i:=i+d) (o:=ops[i+d]) (by simp[aG])).1 (h (i+d) _ (by omega) (by omega) (by simp[aG]));rw[show i+(d+1)=(i+d)+1 by omega,<-h1];exact fj hr d i (by omega) (fun k o hk iY ho=>h k o hk (by omega) ho)
theorem gF (hr:JU P T ops S): ∀ (d i:Nat),i+d<=ops.size->(S i).heap.length<=(S (i+d)).heap.length
 | 0,i,_=>qp _
 | d+1,i,hl=>by
  have aG:i+d<ops.size:=by omega
  have h1:=(hr.step (i+d) ops[i+d] (by simp[aG])).heap.1;exact ka (gF hr d i (by omega)) h1
theorem vA (hr:JU P T ops S): ∀ (i:Nat),i<=ops.size->(S i).env.length=(S 0).env.length
 | 0,_=>rfl
 | i+1,h=>by
  have aG:i<ops.size:=by omega
  rw[(hr.step i ops[i] (by simp[aG])).len];exact vA hr i (by omega)
def Cut (ops:Array Oper) (listed:Array Bool) (t i:Nat):Prop:= ∀ (k:Nat) o,ops[k]?=some o->o.dst=some t->(listed.getD k true=true↔k<i)
def xm (ops:Array Oper) (listed:Array Bool) (i:Nat):Prop:= ∀ (k:Nat) o,ops[k]?=some o->aY o.op=true->(listed.getD k true=true↔k<i)
structure XF (ops:Array Oper) (S:Nat->St) (c:fR) (listed:Array Bool) (a:Act) (w:World) (X:Nat->Prop) (ρ:Places):Prop where
 sz:listed.size=ops.size
 closed:mO ops listed
 defers:a.defers=[]
 keeps:Keeps c w
 tl:a.tmps.size=(S 0).env.length
 env: ∀ (t i:Nat) u,i<=ops.size->Cut ops listed t i->a.tmps[t]?=some u->PRd w X ρ u ((S i).env.getD t .any)
 heap: ∀ i,i<=ops.size->xm ops listed i->HRd c w X ρ (full ops.size S i)
 places: ∀ i,i<ops.size->listed.getD i true=false-> ∀ id,(S i).heap.length<=id->id<(S (i+1)).heap.length->ρ[id]?=some none
end
end Go.AM
namespace Go.AM
section
variable {P:Program} {T:Tab} {ops:Array Oper} {S:Nat->St}
theorem bI {op:Op} (h:aY op=true):cm op=2:=by
 cases op<;>first | rfl | (simp[aY] at h;done) | (simp only[aY] at h;simp[cm,h])
theorem JW {o:Oper} {t:Nat} (h:Operand.tmp t∈o.op.operands):t∈m6 ops o:=by
 unfold m6;rw[qr,List.mem_filterMap];exact .inl ⟨.tmp t,Array.mem_toList_iff.2 h,rfl⟩
theorem DP {o:Oper} {g:Nat} {want:Bool} {t:Nat} (h:o.guard=some (g,want)) (ht:(ops[g]?).bind (·.dst)=some t):t∈m6 ops o:=by
 unfold m6 Dm;rw[qr,h];right;simp only[ht];simp
theorem JX {x y:Oper} {d:Nat} (h:x.dst=some d) (hr:d∈m6 ops y):eb ops x y=true:=by
 unfold eb;simp[h,hr]
theorem JY {x y:Oper} {d:Nat} (h:y.dst=some d) (hr:d∈m6 ops x):eb ops x y=true:=by
 unfold eb;simp[h,hr]
theorem NH {x y:Oper} {d:Nat} (h:x.dst=some d) (h2:y.dst=some d):eb ops x y=true:=by
 unfold eb;simp[h,h2]
theorem lV {x y:Oper} (h:cm x.op=2) (h2:1<=cm y.op) (h3:gY y.op=false) (h4:isRead y.op=false):eb ops x y=true:=by
 unfold eb;simp[h,h2,h3,h4]
theorem fL {op:Op} (h:aY op=true):gY op=false:=by
 cases op<;>first | rfl | (simp[aY] at h;done)
theorem xn {x y:Oper} (h:1<=cm x.op) (h2:cm y.op=2) (h4:isRead x.op=false):eb ops x y=true:=by
 unfold eb;simp[h,h2,h4]
theorem ez {op:Op} (h:aY op=true):isRead op=false:=by
 cases op<;>first | rfl | (simp[aY] at h;done)
theorem FD {op:Op} (h:gY op=true):isRead op=false:=by
 cases op<;>first | rfl | (simp[gY] at h;done)
theorem g8 {listed:Array Bool} {k:Nat} (h:k<listed.size):listed.getD k true=listed.getD k false:=by
 simp[h]
variable {c:fR} {listed:Array Bool} {a:Act} {w:World} {X:Nat->Prop} {ρ:Places} {i:Nat} {o:Oper}
theorem qB (hf:fS ops) (eO:mO ops listed) (hp: ∀ e∈o.after,cj e=true->listed.getD e.on false=true) (ho:ops[i]?=some o) {k:Nat} {ok:Oper} (hk:k<i) (bf:ops[k]?=some ok)
 (h:eb ops ok o=true):listed.getD k false=true:=hf.ord k i ok o hk bf ho h listed eO hp
theorem e7 (hf:fS ops) (dh:listed.size=ops.size) (eO:mO ops listed) (nK:listed.getD i true=false) (ho:ops[i]?=some o) {k:Nat} {ok:Oper} (hk:i<k) (bf:ops[k]?=some ok) (h:eb ops o ok=true):
 listed.getD k true=false:=by
 cases hl:listed.getD k true with
 | false=>rfl
 | true=>
  have k6:k<listed.size:=by rw[dh];exact(Array.getElem?_eq_some_iff.1 bf).1
  rw[g8 k6] at hl;have h1:=hf.ord i k o ok hk ho bf h listed eO (fun e he K8=>eO k ok bf hl e he K8);have eV:i<listed.size:=by rw[dh];exact(Array.getElem?_eq_some_iff.1 ho).1
  rw[g8 eV,h1] at nK;cases nK
theorem oc (hr:JU P T ops S) (hf:fS ops) (bj:XF ops S c listed a w X ρ) (ho:ops[i]?=some o) (nK:listed.getD i true=false) (hp: ∀ e∈o.after,cj e=true->listed.getD e.on false=true)
 {u:Value} {v:PV} {H':List Ob} {w':World} {X':Nat->Prop} {ρ':Places} (hS:S (i+1)=(S i).upd o.dst v H') (hs:Stp c w w' X X' ρ ρ') (pn:w.drawn<=w'.drawn) (hu:PRd w' X' ρ' u v)
 (cZ: ∀ id,(id<(S i).heap.length\/(S (i+1)).heap.length<=id)->ρ'[id]?=ρ[id]?)
 (pO: ∀ i2,i2<=ops.size->xm ops (listed.setIfInBounds i true) i2->HRd c w' X' ρ' (full ops.size S i2)):XF ops S c (listed.setIfInBounds i true) (a.put o.dst u) w' X' ρ':=by
 have eV:i<ops.size:=(Array.getElem?_eq_some_iff.1 ho).1
 have SG:i<listed.size:=by rw[bj.sz];exact eV
 have xR: ∀ d,(listed.setIfInBounds i true).getD i d=true:=by intro d;simp[SG]
 have fX: ∀ k d,k≠i->(listed.setIfInBounds i true).getD k d=listed.getD k d:=fun k d hk=>getD_set_ne d (Ne.symm hk)
 refine⟨by simp[bj.sz],?_,by cases hd:o.dst<;>simp[Act.put,bj.defers],⟨hs.keeps bj.keeps.toKeepsB,ka bj.keeps.drawn pn⟩,by cases hd:o.dst<;>simp[Act.put,bj.tl],?_,pO,?_⟩
 .intro j oj hj hl e he K8
  by_cases o5:j=i
  .subst o5
   rw[ho] at hj;cases hj
   exact getD_set_true (hp e he K8)
  rw[fX j false o5] at hl
  exact getD_set_true (bj.closed j oj hj hl e he K8)
 .intro t i2 u2 gq k5 Pb
  by_cases hd:o.dst=some t
  .have XX:i<i2:=(k5 i o ho hd).1 (xR true)
   rw[hd] at Pb
   simp only[Act.put] at Pb
   have aG:t<a.tmps.size:=by have:=(Array.getElem?_eq_some_iff.1 Pb).1;simpa using this
   simp[aG] at Pb
   subst Pb
   have he:(S i2).env.getD t .any=(S (i+1)).env.getD t .any:=by
    have:=xk hr (t:=t) (i2 - (i+1)) (i+1) (by omega) (fun k ok hk iY bf PO=>by
     have h1:=(k5 k ok bf PO).2 (by omega);rw[fX k true (by omega)] at h1;have h2:=e7 hf bj.sz bj.closed nK ho (show i<k by omega) bf (NH hd PO);rw[h1] at h2;cases h2)
    rw[show i+1+(i2 - (i+1))=i2 by omega] at this;exact this
   rw[he,hS,hd,Bo]
   .exact hu
   rw[vA hr i (by omega),<-bj.tl];exact aG
  have hu3:a.tmps[t]?=some u2:=by
   cases yD:o.dst with
   | none=>rw[yD] at Pb;exact Pb
   | some d=>
    rw[yD] at Pb hd;simp only[Act.put] at Pb;rw[Array.getElem?_setIfInBounds_ne (by intro he;exact hd (by rw[he]))] at Pb;exact Pb
  refine(bj.env t i2 u2 gq (fun k ok bf PO=>?_) hu3).stp hs
  have K9:k≠i:=by
   intro he;subst he;rw[ho] at bf;cases bf;exact hd PO
  rw[<-fX k true K9]
  exact k5 k ok bf PO
 intro i2 gq SH id h1 h2
 have adj:i2≠i:=by intro he;subst he;rw[xR] at SH;cases SH
 rw[fX i2 true adj] at SH
 rw[cZ id ?_]
 .exact bj.places i2 gq SH id h1 h2
 rcases Nat.lt_or_gt_of_ne adj with aG | xJ
 .left
  have:=gF hr (i - (i2+1)) (i2+1) (by omega)
  rw[show i2+1+(i - (i2+1))=i by omega] at this
  omega
 right
 have:=gF hr (i2 - (i+1)) (i+1) (by omega)
 rw[show i+1+(i2 - (i+1))=i2 by omega] at this
 omega
theorem JZ (hf:fS ops) (dh:listed.size=ops.size) (eO:mO ops listed) (nK:listed.getD i true=false) (_hp: ∀ e∈o.after,cj e=true->listed.getD e.on false=true) (ho:ops[i]?=some o)
 (h1:1<=cm o.op) (Po:isRead o.op=false): ∃ c0,c0<=i/\xm ops listed c0:=by
 have key: ∀ n,n<=i->(∀ k,k<n-> ∀ ok,ops[k]?=some ok->aY ok.op=true->listed.getD k true=true)\/
  ∃ k ok,k<n/\ops[k]?=some ok/\aY ok.op=true/\listed.getD k true=false/\ ∀ k2,k2<k-> ∀ KS,ops[k2]?=some KS->aY KS.op=true->listed.getD k2 true=true:=by
  intro n
  induction n with
  | zero=>exact fun _=> .inl (fun k hk=>by omega)
  | succ n ih=>
   intro hn;rcases ih (by omega) with h | ⟨k,ok,hk,h⟩
   .by_cases hb: ∃ ok,ops[n]?=some ok/\aY ok.op=true/\listed.getD n true=false
    .obtain⟨ok,a1,a2,a3⟩:=hb;exact .inr ⟨n,ok,by omega,a1,a2,a3,fun k2 iY KS h2 h3=>h k2 iY KS h2 h3⟩
    refine .inl (fun k hk ok h2 h3=>?_);by_cases EC:k=n
    .subst EC;cases hl:listed.getD k true with
     | true=>rfl
     | false=>exact absurd ⟨ok,h2,h3,hl⟩ hb
    exact h k (by omega) ok h2 h3
   exact .inr ⟨k,ok,by omega,h⟩
 rcases key i (qp _) with h | ⟨k,ok,hk,bf,bQ,hl,Xt⟩
 .refine⟨i,qp _,fun k ok bf bQ=>?_⟩
  rcases Nat.lt_trichotomy k i with aG | heq | xJ
  .have:=h k aG ok bf bQ
   simp[this,aG]
  .subst heq;simp[nK]
  have h2:=e7 hf dh eO nK ho xJ bf (xn h1 (bI bQ) Po)
  simp[h2];omega
 refine⟨k,by omega,fun k2 KS sk xy=>?_⟩
 rcases Nat.lt_trichotomy k2 k with aG | heq | xJ
 .have:=Xt k2 aG KS sk xy
  simp[this,aG]
 .subst heq;simp[hl]
 have h2:=e7 hf dh eO hl bf xJ sk (lV (bI bQ) (by rw[bI xy];omega) (fL xy) (ez xy))
 simp[h2];omega
theorem J0 {op:Op} {s:St} {v:PV} {H':List Ob} (ha:gY op=true) (h:WPop P T op s fun v' H''=>v'=v/\H''=H'):
 ∃ b,v= .ptr s.heap.length 0 0/\H'=s.heap++[b]/\ ∀ F:List Ob,F.length=s.heap.length->WPop P T op ⟨s.env,F⟩ fun v' H''=>v'=v/\H''=F++[b]:=by
 cases op with
 | alloc t=>
  unfold WPop aP at h;simp only at h;unfold WPop aP;cases hi:T.at t with
  | none=>rw[hi] at h;exact h.elim
  | some ti=>
   rw[hi] at h;simp only at h ⊢;obtain⟨h1,h2,h3⟩:=h;exact⟨_,h2.symm,h3.symm,fun F hF=>by
    rw[hi];exact⟨h1,by rw[hF];exact h2,rfl⟩⟩
 | _=>simp[gY] at ha
theorem xp (hr:JU P T ops S): ∀ (d c0:Nat),c0+d<=ops.size->(iU ops.size S (ops.size - c0)).drop ((S (c0+d)).heap.length - (S c0).heap.length)=iU ops.size S (ops.size - (c0+d))
 | 0,c0,_=>by rw[Nat.add_zero,Nat.sub_self,List.drop_zero]
 | d+1,c0,h=>by
  have ih:=xp hr d c0 (by omega);have m1:=gF hr d c0 (by omega);have m2:=gF hr 1 (c0+d) (by omega);rw[qA (i:=c0+d) (by omega)] at ih;rw[show c0+(d+1)=c0+d+1 by omega];have e:(S (c0+d+1)).heap.length - (S c0).heap.length=((S (c0+d)).heap.length - (S c0).heap.length)+((S (c0+d+1)).heap.length - (S (c0+d)).heap.length):=by omega
  rw[e,<-List.drop_drop,ih,List.drop_append_of_le_length (by rw[length_drop];omega),List.drop_of_length_le (by rw[length_drop];omega)];rfl
theorem J1 (hr:JU P T ops S) (d c0:Nat) (h:c0+d<=ops.size):(full ops.size S c0).drop (S (c0+d)).heap.length=iU ops.size S (ops.size - (c0+d)):=by
 have m1:=gF hr d c0 h;have:=xp hr d c0 h;unfold full;rw[List.drop_append,List.drop_of_length_le m1,nil_append,this]
theorem NI {F L:List Ob}: ∀ {id:Nat},id<F.length->shut (F++L) id=shut F id++L:=by
 unfold shut
 induction F with
 | nil=>intro id h;simp at h
 | cons a F ih=>
  intro id h;cases id with
  | zero=>rfl
  | succ id=>
   have:=ih (id:=id) (by simpa using h);simp only[List.cons_append,List.modify_succ_cons,this]
theorem HRd.shutL {c:fR} {w:World} {ρ:Places} {L:List Ob}: ∀ (ids:List Nat) {X:Nat->Prop} {F:List Ob},HRd c w X ρ (F++L)-> ∃ X',HRd c w X' ρ (AM.shutIds ids F++L)/\ ∀ b,X' b->X b
 | [],X,F,h=>⟨X,h,fun _ h=>h⟩
 | id::ids,X,F,h=>by
  by_cases cF:id<F.length
  .obtain⟨X1,h1,pj,_⟩:=h.shut id;have e:AM.shut (F++L) id=AM.shut F id++L:=NI cF;rw[e] at h1;obtain⟨X2,h2,BU⟩:=HRd.shutL ids h1;exact⟨X2,h2,fun b hb=>pj b (BU b hb)⟩
  have e:AM.shut F id=F:=by
   unfold AM.shut;apply List.ext_getElem?;intro j;by_cases hj:id=j
   .subst hj;rw[getElem?_eq_none (by rw[List.length_modify];omega),getElem?_eq_none (by omega)]
   rw[List.getElem?_modify_ne _ _ hj]
  obtain⟨X2,h2,BU⟩:=HRd.shutL ids h;refine⟨X2,?_,BU⟩;show HRd c w X2 ρ (AM.shutIds ids (AM.shut F id)++L);rw[e];exact h2
theorem VC (hf:fS ops) (dh:listed.size=ops.size) (eO:mO ops listed): ∃ c0,c0<=ops.size/\xm ops listed c0:=by
 have key: ∀ n,n<=ops.size->(∀ k,k<n-> ∀ ok,ops[k]?=some ok->aY ok.op=true->listed.getD k true=true)\/
  ∃ k ok,k<n/\ops[k]?=some ok/\aY ok.op=true/\listed.getD k true=false/\ ∀ k2,k2<k-> ∀ KS,ops[k2]?=some KS->aY KS.op=true->listed.getD k2 true=true:=by
  intro n
  induction n with
  | zero=>exact fun _=> .inl (fun k hk=>by omega)
  | succ n ih=>
   intro hn;rcases ih (by omega) with h | ⟨k,ok,hk,h⟩
   .by_cases hb: ∃ ok,ops[n]?=some ok/\aY ok.op=true/\listed.getD n true=false
    .obtain⟨ok,a1,a2,a3⟩:=hb;exact .inr ⟨n,ok,by omega,a1,a2,a3,fun k2 iY KS h2 h3=>h k2 iY KS h2 h3⟩
    refine .inl (fun k hk ok h2 h3=>?_);by_cases EC:k=n
    .subst EC;cases hl:listed.getD k true with
     | true=>rfl
     | false=>exact absurd ⟨ok,h2,h3,hl⟩ hb
    exact h k (by omega) ok h2 h3
   exact .inr ⟨k,ok,by omega,h⟩
 rcases key ops.size (qp _) with h | ⟨k,ok,hk,bf,bQ,hl,Xt⟩
 .refine⟨ops.size,qp _,fun k ok bf bQ=>?_⟩;have aG:=(Array.getElem?_eq_some_iff.1 bf).1;have:=h k aG ok bf bQ;simp[this,aG]
 refine⟨k,by omega,fun k2 KS sk xy=>?_⟩;rcases Nat.lt_trichotomy k2 k with aG | heq | xJ
 .have:=Xt k2 aG KS sk xy;simp[this,aG]
 .subst heq;simp[hl]
 have h2:=e7 hf dh eO hl bf xJ sk (lV (bI bQ) (by rw[bI xy];omega) (fL xy) (ez xy));simp[h2];omega
theorem NJ (hr:JU P T ops S) {a b:Nat} (ha:a<=ops.size) (hb:b<=ops.size) (h1:xm ops listed a) (h2:xm ops listed b):full ops.size S a=full ops.size S b:=by
 rcases Nat.le_total a b with cX | cX
 .have:=fj hr (b - a) a (by omega) (fun k ok hk iY bf=>by
   cases gM:aY ok.op with
   | false=>rfl
   | true=>
    have h3:=(h2 k ok bf gM).2 (by omega);have h4:=(h1 k ok bf gM).1 h3;omega)
  rw[show a+(b - a)=b by omega] at this;exact this.symm
 have:=fj hr (a - b) b (by omega) (fun k ok hk iY bf=>by
  cases gM:aY ok.op with
  | false=>rfl
  | true=>
   have h3:=(h1 k ok bf gM).2 (by omega);have h4:=(h2 k ok bf gM).1 h3;omega)
 rw[show b+(a - b)=a by omega] at this;exact this
theorem DQ (hr:JU P T ops S): ∀ d i,i+d<=ops.size->(full ops.size S (i+d)).length=(full ops.size S i).length:=by
 intro d
 induction d with
 | zero=>intro i _;rfl
 | succ d ih=>
  intro i cF;have aG:i+d<ops.size:=by omega
  have ho:ops[i+d]?=some ops[i+d]:=by simp[aG]
  have bQ:=(hr.step (i+d) _ ho).heap;obtain⟨Xu,Io⟩:=jD hr ho;rw[show i+(d+1)=(i+d)+1 by omega,<-ih i (by omega)];cases gM:aY ops[i+d].op with
  | false=>rw[Xu gM]
  | true=>
   rw[Io];unfold full;have:=bQ.1;simp;omega
theorem qC (hr:JU P T ops S) {id:Nat}: ∀ (d a:Nat),a+d<=ops.size->(∀ k o,a<=k->k<a+d->ops[k]?=some o->aY o.op=true->id<(S k).heap.length->(S (k+1)).heap[id]?=(S k).heap[id]?)->
 (full ops.size S (a+d))[id]?=(full ops.size S a)[id]?
 | 0,a,_,_=>rfl
 | d+1,a,hl,h=>by
  have aG:a+d<ops.size:=by omega
  have ho:ops[a+d]?=some ops[a+d]:=by simp[aG]
  rw[<-qC hr d a (by omega) (fun k o h1 h2 h3=>h k o h1 (by omega) h3),show a+(d+1)=(a+d)+1 by omega];obtain⟨Xu,Io⟩:=jD hr ho;cases gM:aY ops[a+d].op with
  | false=>rw[Xu gM]
  | true=>
   have hm:=(hr.step (a+d) _ ho).heap.1;rw[Io];unfold full;by_cases cF:id<(S (a+d)).heap.length
   .rw[qi (by omega),qi cF,h (a+d) _ (by omega) (by omega) ho gM cF]
   rw[getElem?_append_right (l₁:=(S (a+d)).heap) (by omega)];by_cases h2:id<(S (a+d+1)).heap.length
   .rw[qi h2,qi (by rw[length_drop];omega),List.getElem?_drop];congr 1;omega
   rw[getElem?_append_right (by omega),getElem?_append_right (by rw[length_drop];omega),length_drop];congr 1;omega
theorem NK (hT:ck P T) {Q:Exit->Act->World->Prop} {mk:Nat->List Nat} (hx:VB P T ops S mk) (hf:fS ops) (bj:XF ops S c listed a w X ρ) (hi:i∈Region.ready .any ops listed):
 wpOp P ops Q i (fun a' w'=> ∃ X' ρ',XF ops S c (listed.setIfInBounds i true) a' w' X' ρ') a w:=by
 have hr:=hx.run
 obtain⟨nK,o,ho,pe⟩:=mem_ready.1 hi
 have hp: ∀ e∈o.after,cj e=true->listed.getD e.on false=true:=fun e he K8=>pe e he (by rw[tt];exact K8)
 have eV:i<ops.size:=(Array.getElem?_eq_some_iff.1 ho).1
 have SG:i<listed.size:=by rw[bj.sz];exact eV
 have adk: ∀ t,t∈m6 ops o->Cut ops listed t i:=by
  intro t ht k ok bf PO;rcases Nat.lt_trichotomy k i with aG | heq | xJ
  .have h1:=qB hf bj.closed hp ho aG bf (JX PO ht);rw[<-g8 (by rw[bj.sz];omega)] at h1;simp[h1,aG]
  .subst heq;simp[nK]
  have h1:=e7 hf bj.sz bj.closed nK ho xJ bf (JY PO ht);simp[h1];omega
 have BL: ∀ t,t∈m6 ops o->PRd w X ρ (a.tmps.getD t undef) ((S i).env.getD t .any):=by
  intro t ht;by_cases aG:t<a.tmps.size
  .have:=bj.env t i a.tmps[t] (by omega) (adk t ht) (by simp[aG]);simpa [aG] using this
  have yG:(S i).env.length<=t:=by rw[vA hr i (by omega),<-bj.tl];omega
  rw[qa,getElem?_eq_none yG];exact .any _
 have po: ∀ x∈o.op.operands,PRd w X ρ (a.eval x) (ev (S i).env x):=by
  intro x hx;cases x with
  | tmp t=>exact BL t (JW hx)
  | const v=>exact kG v
  | global g=>exact .any _
  | func f=>exact .fv _ _ (.lit _ rfl)
 have nj: ∀ b,pE ops (S i) o=some b->Region.wanted o (yielded ops a.tmps)=b:=by
  intro b hb;unfold pE at hb;unfold Region.wanted;cases hg:o.guard with
  | none=>rw[hg] at hb;simp at hb;simp[hb]
  | some gd=>
   obtain⟨j,want⟩:=gd;rw[hg] at hb;simp only at hb ⊢;cases hj:(ops[j]?).bind (·.dst) with
   | none=>rw[hj] at hb;cases hb
   | some t=>
    rw[hj] at hb;simp only at hb;have ht:=BL t (DP hg hj);have hy:yielded ops a.tmps j=(match a.tmps[t]? with | some (.bool b)=>some b | _=>none):=by
     unfold yielded;rw[hj];rfl
    rw[hy];unfold St.get at hb;split at hb
    .rename_i b2 dN;rw[dN] at ht;have aG:=ht.litInv;simp at hb;cases eC:a.tmps[t]? with
     | none=>simp[eC,undef] at aG
     | some v2=>
      simp[eC] at aG;subst aG;simp only;rw[<-hb];simp
    .rename_i dN;rw[dN] at ht;simp at hb;cases eC:a.tmps[t]? with
     | none=>simp[<-hb]
     | some v2=>
      simp[eC] at ht;cases ht;simp[<-hb]
    cases hb
 unfold wpOp
 simp only[ho]
 rcases hr.step i o ho with⟨hw,v,H',ids,hwp,fr,hS⟩ | ⟨hw,hS⟩
 .rw[nj true hw]
  refine .inl ?_
  have Iw:(S (i+1)).heap=shutIds ids H':=by rw[hS];rfl
  by_cases h0:cm o.op=0
  .obtain⟨hH,u,cL,hu⟩:=Bj (P:=P) (T:=T) hT h0 rfl (o:=o) (e:=a.eval) hwp po
   unfold Oper.wp
   rw[cL]
   refine⟨X,ρ,oc hr hf bj ho nK hp hS Stp.refl (qp _) hu (fun _ _=>rfl) (fun i2 gq k5=>bj.heap i2 gq (fun k ok bf bQ=>?_))⟩
   have K9:k≠i:=by
    intro he;subst he;rw[ho] at bf;cases bf;rw[bI bQ] at h0;cases h0
   rw[<-getD_set_ne true (Ne.symm K9)]
   exact k5 k ok bf bQ
  by_cases EK:gY o.op=true
  .obtain⟨c0,Ig,uH⟩:=JZ hf bj.sz bj.closed nK hp ho (by omega) (FD EK)
   have hh:=bj.heap c0 (by omega) uH
   have jf:ids=[]:=by
    rcases fr with h | h
    .rw[fL h] at EK;cases EK
    exact h.1
   subst jf
   have Iw:(S (i+1)).heap=H':=Iw
   obtain⟨b,Im,hHb,Sr⟩:=J0 EK hwp
   have xK:=J1 hr (i - c0) c0 (by omega)
   rw[show c0+(i - c0)=i by omega,qA eV,Iw,hHb,List.drop_left] at xK
   obtain⟨F,hF⟩:=K_ ((full ops.size S c0).take (S i).heap.length)
   have hFl:F.length=(S i).heap.length:=by
    rw[<-hF,length_take];have h1:(full ops.size S c0).length=(S c0).heap.length+(iU ops.size S (ops.size - c0)).length:=by unfold full;rw[qe]
    have h2:=congrArg List.length xK;rw[length_drop] at h2;rw[qe,IA] at h2;omega
   have j0:full ops.size S c0=F++([b]++iU ops.size S (ops.size - (i+1))):=by
    rw[<-xK,<-hF,List.take_append_drop]
   rw[j0] at hh
   refine xi hT (s:=⟨(S i).env,F⟩) (Sr F hFl) hh (fun id h1 h2=>bj.places i eV nK id (by dsimp only at h1;omega) (by rw[Iw,hHb,qe,IA];simp at h2;omega)) (by simp) po (fun u w' X' ρ' hs pn uF hu cZ=>?_)
   refine⟨X',ρ',oc hr hf bj ho nK hp hS hs pn hu (fun id cF=>cZ id (by
    rw[Iw,hHb,qe,IA] at cF;dsimp only;rw[IA];omega)) (fun i2 gq k5=>?_)⟩
   have xX:xm ops listed i2:=by
    intro k ok bf gM;have K9:k≠i:=by
     intro he;subst he;rw[ho] at bf;cases bf;rw[fL gM] at EK;cases EK
    rw[<-getD_set_ne true (Ne.symm K9)];exact k5 k ok bf gM
   have eD:full ops.size S i2=full ops.size S c0:=by
    rcases Nat.le_total c0 i2 with cX | cX
    .have:=fj hr (i2 - c0) c0 (by omega) (fun k ok hk iY bf=>by
      cases gM:aY ok.op with
      | false=>rfl
      | true=>
       have h1:=(xX k ok bf gM).2 (by omega);have h2:=(uH k ok bf gM).1 h1;omega)
     rw[show c0+(i2 - c0)=i2 by omega] at this;exact this
    have:=fj hr (c0 - i2) i2 (by omega) (fun k ok hk iY bf=>by
     cases gM:aY ok.op with
     | false=>rfl
     | true=>
      have h1:=(uH k ok bf gM).2 (by omega);have h2:=(xX k ok bf gM).1 h1;omega)
    rw[show i2+(c0 - i2)=c0 by omega] at this;exact this.symm
   rw[eD,j0,<-append_assoc]
   exact uF
  have EK:gY o.op=false:=by simpa using EK
  by_cases hrd:isRead o.op=true
  .obtain⟨c0,Ig,uH⟩:=VC hf bj.sz bj.closed
   have hh:=bj.heap c0 Ig uH
   obtain⟨hHs,ahD⟩:=FC hrd hwp
   have jf:ids=[]:=by
    rcases fr with h | h
    .rw[ez h] at hrd;cases hrd
    exact h.1
   subst jf
   have hmk:mk i=mark (ev (S i).env) o.op:=by
    rcases hx.two i o ho with⟨_,v2,H2,alw,Pp,ahE,_,hm⟩ | ⟨Pp,_⟩
    .rcases ahE with h | h
     .rw[ez h] at hrd;cases hrd
     rw[hm,h.1,append_nil]
    rw[hw] at Pp;cases Pp
   have Iw:(S (i+1)).heap=(S i).heap:=by rw[Iw,hHs];rfl
   have d7:listed.getD i false=true->False:=fun h=>by
    rw[<-g8 (by rw[bj.sz];omega),nK] at h;cases h
   have ph: ∀ id∈mark (ev (S i).env) o.op,(full ops.size S c0)[id]?=(full ops.size S i)[id]?:=fun id cF=>by
    rw[<-hmk] at cF;rcases Nat.le_total c0 i with cX | cX
    .have:=qC hr (id:=id) (i - c0) c0 (by omega) (fun k ok h1 h2 bf bQ aG=>by
      have O7:listed.getD k true=false:=by
       cases hl:listed.getD k true with
       | false=>rfl
       | true=>have:=(uH k ok bf bQ).1 hl;omega
      have k6:k<listed.size:=by rw[bj.sz];omega
      have Xv:((masks ops.toList []).getD i 0).testBit k=false:=by
       cases hb:((masks ops.toList []).getD i 0).testBit k with
       | false=>rfl
       | true=>
        have:=hf.bit k i o ho hb listed bj.closed hp;rw[<-g8 k6,O7] at this;cases this
      have se:isApp ok.op=true:=by
       cases ha:isApp ok.op with
       | true=>rfl
       | false=>
        have hc:eb ops ok o=true:=by
         unfold eb;simp[bI bQ,ha,EK,show 1<=cm o.op by omega]
        have:=hf.ord k i ok o (by omega) bf ho hc listed bj.closed hp;rw[<-g8 k6,O7] at this;cases this
      exact(hx.two k ok bf).touch se aG (fun hm=>hx.dis k i ok o (by omega) bf ho (by simp[se,hrd]) Xv id hm cF))
     rw[show c0+(i - c0)=i by omega] at this;exact this.symm
    have:=qC hr (id:=id) (c0 - i) i (by omega) (fun k ok h1 h2 bf bQ aG=>by
     have K9:k≠i:=by
      intro he;subst he;rw[ho] at bf;cases bf;rw[ez bQ] at hrd;cases hrd
     have k6:k<listed.size:=by rw[bj.sz];exact(Array.getElem?_eq_some_iff.1 bf).1
     have O7:listed.getD k false=true:=by
      rw[<-g8 k6];exact(uH k ok bf bQ).2 (by omega)
     have Xv:((masks ops.toList []).getD k 0).testBit i=false:=by
      cases hb:((masks ops.toList []).getD k 0).testBit i with
      | false=>rfl
      | true=>exact(d7 (hf.bit i k ok bf hb listed bj.closed (fun e he K8=>bj.closed k ok bf O7 e he K8))).elim
     have se:isApp ok.op=true:=by
      cases ha:isApp ok.op with
      | true=>rfl
      | false=>
       have hc:eb ops o ok=true:=by
        unfold eb;simp[bI bQ,ha,show 1<=cm o.op by omega]
       exact(d7 (hf.ord i k o ok (by omega) ho bf hc listed bj.closed (fun e he K8=>bj.closed k ok bf O7 e he K8))).elim
     exact(hx.two k ok bf).touch se aG (fun hm=>hx.dis i k o ok (by omega) ho bf (by simp[se,hrd]) Xv id cF hm))
    rw[show i+(c0 - i)=c0 by omega] at this;exact this
   have Ut:(S i).heap.length<=(full ops.size S c0).length:=by
    have h1:(S i).heap.length<=(full ops.size S i).length:=by unfold full;rw[qe];omega
    have h2:(full ops.size S c0).length=(full ops.size S i).length:=by
     have e1:=DQ hr (ops.size - c0) c0 (by omega);have e2:=DQ hr (ops.size - i) i (by omega);rw[show c0+(ops.size - c0)=ops.size by omega] at e1;rw[show i+(ops.size - i)=ops.size by omega] at e2;omega
    omega
   obtain⟨F,hF⟩:=K_ ((full ops.size S c0).take (S i).heap.length)
   obtain⟨R,hR⟩:=K_ ((full ops.size S c0).drop (S i).heap.length)
   have j0:full ops.size S c0=F++([]++R):=by rw[nil_append,<-hF,<-hR,List.take_append_drop]
   have hFl:F.length=(S i).heap.length:=by rw[<-hF,length_take];omega
   have ahF: ∀ id∈mark (ev (S i).env) o.op,F[id]?=(S i).heap[id]?:=fun id cF=>by
    by_cases aG:id<(S i).heap.length
    .rw[<-hF,getElem?_take,if_pos aG,ph id cF];unfold full;rw[qi aG]
    rw[getElem?_eq_none (by omega),getElem?_eq_none (by omega)]
   rw[j0] at hh
   refine xi hT (s:=⟨(S i).env,F⟩) (ahD F ahF) hh (fun id h1 h2=>by simp at h2;dsimp only at h1;omega) (by simp) po (fun u w' X' ρ' hs pn uF hu cZ=>?_)
   refine⟨X',ρ',oc hr hf bj ho nK hp hS hs pn hu (fun id cF=>cZ id (by simp only[List.length_nil];omega)) (fun i2 gq k5=>?_)⟩
   have xX:xm ops listed i2:=by
    intro k ok bf gM;have K9:k≠i:=by
     intro he;subst he;rw[ho] at bf;cases bf;rw[ez gM] at hrd;cases hrd
    rw[<-getD_set_ne true (Ne.symm K9)];exact k5 k ok bf gM
   rw[NJ hr gq Ig xX uH,j0,nil_append]
   exact uF
  have hrd:isRead o.op=false:=by simpa using hrd
  have adm:1<=cm o.op:=by omega
  have Yc:xm ops listed i:=by
   intro k ok bf bQ;have iY:=bI bQ;rcases Nat.lt_trichotomy k i with aG | heq | xJ
   .have h1:=qB hf bj.closed hp ho aG bf (lV iY adm EK hrd);rw[<-g8 (by rw[bj.sz];omega)] at h1;simp[h1,aG]
   .subst heq;simp[nK]
   have h1:=e7 hf bj.sz bj.closed nK ho xJ bf (xn adm iY hrd);simp[h1];omega
  have hh:=bj.heap i (by omega) Yc
  obtain⟨xM,O3⟩:=jD hr ho
  rw[O3] at hh
  have aA:(S i).heap.length<=(shutIds ids H').length:=by rw[aV];exact DN hwp
  have sd:=aV ids H'
  rw[Iw] at hh O3
  refine xi hT hwp hh (fun id h1 h2=>bj.places i eV nK id h1 (by rw[Iw];simp at h2;omega)) (by simp;omega) po (fun u w' X1 ρ' pj pn hh1 hu1 cZ=>?_)
  have et:full ops.size S (i+1)=shutIds ids H'++iU ops.size S (ops.size - (i+1)):=by unfold full;rw[Iw]
  obtain⟨X',uF,ia⟩:=hh1.shutL ids
  have hs:=pj.trans (Stp.same_world (c:=c) (w:=w') (ρ:=ρ') ia)
  have hu:=hu1.mono (Same.refl X1 w') (fun b _ h=>ia b h) (Places.Le.refl ρ')
  refine⟨X',ρ',oc hr hf bj ho nK hp hS hs pn hu (fun id cF=>cZ id (by rw[Iw] at cF;simp;omega)) (fun i2 gq k5=>?_)⟩
  have xR:(listed.setIfInBounds i true).getD i true=true:=by simp[SG]
  have hfi:HRd c w' X' ρ' (full ops.size S (i+1)):=by rw[et];exact uF
  by_cases bQ:aY o.op=true
  .have XX:i<i2:=(k5 i o ho bQ).1 xR
   have:=fj hr (i2 - (i+1)) (i+1) (by omega) (fun k ok hk iY bf=>by
    cases gM:aY ok.op with
    | false=>rfl
    | true=>
     have h1:=(k5 k ok bf gM).2 (by omega);rw[getD_set_ne true (by omega)] at h1;have h2:=e7 hf bj.sz bj.closed nK ho (show i<k by omega) bf (lV (bI bQ) (by rw[bI gM];omega) (fL gM) (ez gM));rw[h1] at h2;cases h2)
   rw[show i+1+(i2 - (i+1))=i2 by omega] at this
   rw[this]
   exact hfi
  have ahG:aY o.op=false:=by simpa using bQ
  have xX:xm ops listed i2:=by
   intro k ok bf gM;have K9:k≠i:=by
    intro he;subst he;rw[ho] at bf;cases bf;exact bQ gM
   rw[<-getD_set_ne true (Ne.symm K9)];exact k5 k ok bf gM
  have eD:full ops.size S i2=full ops.size S i:=by
   rcases Nat.le_total i i2 with cX | cX
   .have:=fj hr (i2 - i) i (by omega) (fun k ok hk iY bf=>by
     cases gM:aY ok.op with
     | false=>rfl
     | true=>
      have h1:=(xX k ok bf gM).2 (by omega);have h2:=(Yc k ok bf gM).1 h1;omega)
    rw[show i+(i2 - i)=i2 by omega] at this;exact this
   have:=fj hr (i - i2) i2 (by omega) (fun k ok hk iY bf=>by
    cases gM:aY ok.op with
    | false=>rfl
    | true=>
     have h1:=(Yc k ok bf gM).2 (by omega);have h2:=(xX k ok bf gM).1 h1;omega)
   rw[show i2+(i - i2)=i by omega] at this;exact this.symm
  rw[eD,xM ahG]
  exact hfi
 rw[nj false hw]
 refine⟨X,ρ,oc hr hf bj ho nK hp hS Stp.refl (qp _) (.tup #[] [] rfl (by simp)) (fun _ _=>rfl) (fun i2 gq k5=>?_)⟩
 have Iw:(S (i+1)).heap=(S i).heap:=by rw[hS];rfl
 have xR:(listed.setIfInBounds i true).getD i true=true:=by simp[SG]
 by_cases bQ:aY o.op=true
 .have Yc:xm ops listed i:=by
   intro k ok bf gM;have iY:=bI gM;have gg:=bI bQ;rcases Nat.lt_trichotomy k i with aG | heq | xJ
   .have h1:=qB hf bj.closed hp ho aG bf (lV iY (by omega) (fL bQ) (ez bQ));rw[<-g8 (by rw[bj.sz];omega)] at h1;simp[h1,aG]
   .subst heq;simp[nK]
   have h1:=e7 hf bj.sz bj.closed nK ho xJ bf (xn (by omega) iY (ez bQ));simp[h1];omega
  have XX:i<i2:=(k5 i o ho bQ).1 xR
  have eD:=fj hr (i2 - (i+1)) (i+1) (by omega) (fun k ok hk iY bf=>by
   cases gM:aY ok.op with
   | false=>rfl
   | true=>
    have h1:=(k5 k ok bf gM).2 (by omega);rw[getD_set_ne true (by omega)] at h1;have h2:=e7 hf bj.sz bj.closed nK ho (show i<k by omega) bf (lV (bI bQ) (by rw[bI gM];omega) (fL gM) (ez gM));rw[h1] at h2;cases h2)
  rw[show i+1+(i2 - (i+1))=i2 by omega] at eD
  have O3:=(jD hr ho).2
  rw[Iw,List.drop_length,nil_append] at O3
  have Xu:full ops.size S (i+1)=full ops.size S i:=by
   rw[O3];unfold full;rw[Iw]
  rw[eD,Xu]
  exact bj.heap i (by omega) Yc
 refine bj.heap i2 gq (fun k ok bf gM=>?_)
 have K9:k≠i:=by
  intro he;subst he;rw[ho] at bf;cases bf;exact bQ gM
 rw[<-getD_set_ne true (Ne.symm K9)]
 exact k5 k ok bf gM
theorem FE (hf:fS ops) (dh:listed.size=ops.size) (hrd:Region.ready .any ops listed=[]): ∀ k,k<ops.size->listed.getD k true=true:=by
 intro k
 induction k using Nat.strongRecOn with
 | _ k ih=>
  intro hk;cases hl:listed.getD k true with
  | true=>rfl
  | false=>
   have bC:k∈Region.ready .any ops listed:=by
    refine mem_ready.2 ⟨hl,ops[k],by simp[hk],fun e he hb=>?_⟩;rw[tt] at hb;have aG:=hf.low k ops[k] (by simp[hk]) e he hb;rw[<-g8 (by omega)];exact ih e.on aG (by omega)
   rw[hrd] at bC;cases bC
theorem Re (hT:ck P T) {Q:Exit->Act->World->Prop} {mk:Nat->List Nat} (hx:VB P T ops S mk) (hf:fS ops) (hQ: ∀ a w,SRd c (S ops.size) a w->Q .normal a w):
 ∀ (fuel:Nat) (listed:Array Bool) (a:Act) (w:World),(∃ X ρ,XF ops S c listed a w X ρ)->listed.toList.count false<=fuel->wpAny P .any ops Q fuel listed a w:=by
 have hr:=hx.run
 have fin: ∀ (listed:Array Bool) (a:Act) (w:World),(∃ X ρ,XF ops S c listed a w X ρ)->(∀ k,k<ops.size->listed.getD k true=true)->Q .normal a w:=by
  intro listed a w ⟨X,ρ,bj⟩ EK;refine hQ a w ⟨X,ρ,?_,⟨by rw[bj.tl,vA hr _ (qp _)],fun t u x hu hx=>?_⟩,bj.defers,bj.keeps⟩
  .have:=bj.heap ops.size (qp _) (fun k o bf _=>by
    have aG:k<ops.size:=(Array.getElem?_eq_some_iff.1 bf).1;simp[EK k aG,aG])
   unfold full at this;rw[Nat.sub_self,iU,append_nil] at this;exact this
  have:=bj.env t ops.size u (qp _) (fun k o bf _=>by
   have aG:k<ops.size:=(Array.getElem?_eq_some_iff.1 bf).1;simp[EK k aG,aG]) hu
  rw[qa,hx] at this;exact this
 intro fuel
 induction fuel with
 | zero=>
  intro listed a w bj hc;obtain⟨X,ρ,hi⟩:=bj;have EK: ∀ k,k<ops.size->listed.getD k true=true:=by
   intro k hk;have k6:k<listed.size:=by rw[hi.sz];exact hk
   have h0:listed.toList.count false=0:=by omega
   rw[List.count_eq_zero] at h0;cases hl:listed.getD k true with
   | true=>rfl
   | false=>
    exfalso;apply h0;have:listed[k]=false:=by simpa [k6] using hl
    rw[<-this];exact Array.mem_toList_iff.2 (Array.getElem_mem k6)
  refine⟨?_,fin listed a w ⟨X,ρ,hi⟩ EK⟩;cases hrd:Region.ready .any ops listed with
  | nil=>rfl
  | cons j l=>
   have hj:j∈Region.ready .any ops listed:=by rw[hrd];simp
   obtain⟨nK,oj,KD,_⟩:=mem_ready.1 hj;rw[EK j (Array.getElem?_eq_some_iff.1 KD).1] at nK;cases nK
 | succ fuel ih=>
  intro listed a w bj hc;obtain⟨X,ρ,hi⟩:=bj;refine⟨fun hrd=>fin listed a w ⟨X,ρ,hi⟩ (FE hf hi.sz hrd),fun i hir=>?_⟩;refine wpOp_mono (fun a' w' adn=>ih _ a' w' adn ?_) (NK hT hx hf hi hir);obtain⟨nK,o,ho,_⟩:=mem_ready.1 hir;have eV:i<listed.size:=by rw[hi.sz];exact(Array.getElem?_eq_some_iff.1 ho).1
  have hlf:listed.toList[i]'(by simpa using eV)=false:=by
   have:listed[i]=false:=by simpa [eV] using nK
   simpa using this
  rw[Array.toList_setIfInBounds,List.count_set (by simpa using eV)];have cY:0<listed.toList.count false:=by
   rw[List.count_pos_iff];rw[<-hlf];exact pP _
  rw[hlf];show(List.count false listed.toList - 1)+0<=fuel;omega
theorem FF (hT:ck P T) {Q:Exit->Act->World->Prop} (bf:kF ops=true) {st:St} {K:St->Prop} {sh:List (List Nat)} (h:WPdrawS P T ops ops.toList sh [] st (fun s tr=>Fv ops tr=true/\K s)) (hK: ∀ st a w,K st->SRd c st a w->Q .normal a w) (hs:SRd c st a w):
 wpAny P .any ops Q ops.size (Array.replicate ops.size false) a w:=by
 have hf:=JT bf
 obtain⟨S,tl,h0,h1,BK,h2⟩:=abe ops.toList sh [] st h
 rw[Array.length_toList] at h2
 rw[nil_append] at BK
 have hr:JU P T ops S:=⟨fun j o hj=>(h1 j o (by simpa using hj)).one⟩
 have hx:VB P T ops S (fun j=>tl.getD j []):=⟨hr,fun j o hj=>h1 j o (by simpa using hj),fun i j oi oj uX hi hj hp hb id h3 h4=>by
  unfold Fv at BK;rw[nF] at BK;have h5:=BK j (List.mem_range.2 (Array.getElem?_eq_some_iff.1 hj).1);rw[nF] at h5;have h6:=h5 i (List.mem_range.2 uX);simp only[hi,hj,hp,hb,Bool.not_true,Bool.false_or,nF] at h6;have h7:=h6 id h3;simp at h7;exact h7 h4⟩
 obtain⟨X,ρ,hh,he,hd,hk⟩:=hs
 refine Re hT hx hf (c:=c) (fun a w hs=>hK _ a w h2 hs) ops.size _ a w ⟨X,ρ++replicate (iU ops.size S ops.size).length none,?_⟩ (by simp)
 have nK: ∀ k,k<ops.size->(Array.replicate ops.size false).getD k true=false:=by intro k hk;simp[hk]
 have cX:=Places.Le.append ρ (replicate (iU ops.size S ops.size).length none)
 refine⟨by simp,?_,hd,hk,by rw[h0];exact he.1,?_,?_,?_⟩
 .intro j oj hj hl
  have aG:j<ops.size:=(Array.getElem?_eq_some_iff.1 hj).1
  simp[aG] at hl
 .intro t i u hi k5 hu
  have eD:=xk hr (t:=t) i 0 (by omega) (fun k o _ hk bf PO=>by
   have aG:k<ops.size:=(Array.getElem?_eq_some_iff.1 bf).1;have:=(k5 k o bf PO).2 (by omega);rw[nK k aG] at this;cases this)
  rw[Nat.zero_add] at eD
  rw[eD,h0]
  have aG:t<st.env.length:=by rw[<-he.1];exact(Array.getElem?_eq_some_iff.1 hu).1
  have:=he.2 t u st.env[t] hu (by simp[aG])
  rw[qa]
  simp only[qb aG,Option.getD_some]
  exact this.mono (Same.refl X _) (fun _ _ h=>h) cX
 .intro i hi k5
  have eD:=fj hr i 0 (by omega) (fun k o _ hk bf=>by
   have aG:k<ops.size:=(Array.getElem?_eq_some_iff.1 bf).1;cases gM:aY o.op with
   | false=>rfl
   | true=>
    have:=(k5 k o bf gM).2 (by omega);rw[nK k aG] at this;cases this)
  rw[Nat.zero_add] at eD
  rw[eD]
  unfold full
  rw[h0,Nat.sub_zero]
  exact hh.extend _
 intro i hi _ id h3 h4
 have hm:=gF hr i 0 (by omega)
 rw[Nat.zero_add,h0] at hm
 rw[getElem?_append_right (by rw[hh.len];omega),List.getElem?_replicate]
 rw[if_pos]
 have k4:(full ops.size S ops.size).length<=(full ops.size S 0).length:=by
  have aA: ∀ d i,i+d<=ops.size->(full ops.size S (i+d)).length=(full ops.size S i).length:=by
   intro d
   induction d with
   | zero=>intro i _;rfl
   | succ d ih=>
    intro i cF;have aG:i+d<ops.size:=by omega
    have ho:ops[i+d]?=some ops[i+d]:=by simp[aG]
    have bQ:=(hr.step (i+d) _ ho).heap;obtain⟨Xu,Io⟩:=jD hr ho;rw[show i+(d+1)=(i+d)+1 by omega,<-ih i (by omega)];cases gM:aY ops[i+d].op with
    | false=>rw[Xu gM]
    | true=>
     rw[Io];unfold full;have:=bQ.1;simp;omega
  have:=aA ops.size 0 (by omega);rw[Nat.zero_add] at this;omega
 have W5:=gF hr (ops.size - (i+1)) (i+1) (by omega)
 rw[show i+1+(ops.size - (i+1))=ops.size by omega] at W5
 unfold full at k4
 rw[Nat.sub_self,iU,append_nil,qe,Nat.sub_zero,h0] at k4
 rw[hh.len]
 omega
end
end Go.AM
