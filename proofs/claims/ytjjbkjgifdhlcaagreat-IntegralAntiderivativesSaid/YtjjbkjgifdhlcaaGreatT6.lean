/- The abstract machine:maps. -/
import Derived.Test.YtjjbkjgifdhlcaaGreatT5
import Derived.MapKept
import Derived.Test.YtjjbkjgifdhlcaaGreatT1
open List (append_assoc append_nil getElem?_append_right getElem?_of_mem getElem?_set_ne getElem?_take length_cons length_drop length_set map_cons mem_iff_getElem mem_map mem_of_getElem? nil_append range' replicate set_append_left)
namespace Go.AM
section
variable {P:Program} {T:Tab}
theorem keyC_is {c:PV} {n:Int} (h:keyC c=some n):c= .fv (.lit (.int .i64 n)):=by
 unfold keyC at h;split at h
 ·cases h;rfl
 ·cases h
theorem mapM_ints: ∀ (cs:List PV) (ks:List Int),keyVs cs=some ks->cs=ks.map (fun n=> .fv (.lit (.int .i64 n)))
 | [],ks,h=>by simp[keyVs] at h;subst h;rfl
 | c::cs,ks,h=>by
  simp only[keyVs] at h;split at h
  ·rename_i n ns h1 h2;cases h;rw[map_cons,<-mapM_ints cs ns h2,keyC_is h1]
  ·cases h
theorem keyV_rd {w:World} {X:Nat->Prop} {ρ:Places} {u:Value} {x:PV} {ks:List Int} (h:PRd w X ρ u x) (hk:keyV x=some ks):u= .agg (ks.map (Value.int .i64)).toArray:=by
 unfold keyV at hk;split at hk;rotate_left
 ·cases hk
 have:=mapM_ints _ _ hk;subst this;cases h with
 | agg us _ hn h1 hr=>
  congr 1;apply Array.ext
  ·simpa using hn
  ·intro i hi1 hi2;have:=hr i us[i] (.fv (.lit (.int .i64 (ks[i]'(by simpa using hi2))))) (by simp[hi1]) (by simp at hi2;simp[hi2]);have h2:=this.litInv;rw[h2];simp
theorem ints_inj {a b:List Int} (h:(Value.agg (a.map (Value.int .i64)).toArray)= .agg (b.map (Value.int .i64)).toArray):a=b:=by
 injection h with h
 have h2:a.map (Value.int .i64)=b.map (Value.int .i64):=by
  have:=congrArg Array.toList h;simpa using this
 exact(List.map_inj_right (fun x y e=>by injection e)).1 h2
theorem tabFind_none {es:List (List Int×PV)} {k:List Int} (h: ∀ e∈es,e.1≠k):tabFind es k=none:=by
 unfold tabFind;rw[Option.map_eq_none_iff,List.find?_eq_none];intro e he hk;exact h e he (by simpa using hk)
theorem tabFind_some: ∀ {es:List (List Int×PV)} {k:List Int} {v:PV} {i:Nat},(es.map (·.1)).Nodup->es[i]?=some (k,v)->tabFind es k=some v
 | [],k,v,i,_,h=>by simp at h
 | e::es,k,v,i,hn,h=>by
  unfold tabFind;rw[map_cons,List.nodup_cons] at hn;cases i with
  | zero=>
   simp at h;subst h;simp
  | succ i=>
   simp at h;have hmem:k∈es.map (·.1):=mem_map.2 ⟨(k,v),mem_of_getElem? h,rfl⟩;have hne:(e.1==k)=false:=by
    rw[qx];intro he;exact hn.1 (he ▸ hmem)
   rw[List.find?_cons,hne];exact tabFind_some hn.2 h
theorem still_rd {w:World} {X:Nat->Prop} {ρ ρ':Places} {u:Value} {x:PV} (h:PRd w X ρ u x) (hs:still x=true):PRd w X ρ' u x:=by
 unfold still at hs;split at hs
 ·cases h with | fv _ _ hf=>exact .fv _ _ hf
 ·rename_i cs;rw[qob] at hs;cases h with
  | agg us _ hn h1 hr=>
   refine .agg us cs hn h1 (fun i v c hv hc=>?_);have hc2:=hs c (mem_of_getElem? hc);have hp:=hr i v c hv hc;split at hc2
   ·cases hp with | fv _ _ hf=>exact .fv _ _ hf
   ·cases hc2
 ·cases hs
theorem tab_inv {w:World} {X:Nat->Prop} {ρ:Places} {u:Value} {id:Nat} (h:PRd w X ρ u (.tab id)): ∃ g p,u= .map (some g)/\ρ[id]?=some (some p)/\p.b=some g:=by
 cases h with | tab _ g p hp hg=>exact⟨g,p,rfl,hp,hg⟩
theorem eff_makeMap (_hT:TabOk P T) (t:TypeId):EffOp P T (.makeMap t none):=by
 intro c w X ρ H D R o e ρv r ho h hD hρ hres hc hlen;simp only[opRes] at hres;split at hres;rotate_left
 ·cases hres
 rename_i i hi;split at hres;rotate_left
 ·cases hres
 rename_i n _ hd;cases hres;obtain⟨d,rfl⟩:=single (D:=D) (by simp at hlen;omega);have hρ0:=hD H.length (qp _) (by simp);let p:Place:=⟨some w.heap.size,0,0,0⟩;have hlt:H.length<ρ.length:=(List.getElem?_eq_some_iff.1 hρ0).1;have hg:=World.grownBy_alloc w (.map #[] 0) none;have hF:(H++([d]++R)).set H.length (.tab n [])=(H++[.tab n []])++R:=by simp
 have hput:=h.put (id:=H.length) (p:=p) (ob:= .tab n []) (row:=none) (w':=w.alloc (.map #[] 0)) (by simp) (.inl hρ0) hg (by simp)
  (fun j q o g hj hq ho hr hb=>⟨by simp,by
   have:=(h.own j q o g hq ho hr hb).2;intro he;simp only[p,qo] at he;omega⟩)
  (fun g hg=>by simp only[p,qo] at hg;left;omega)
  (fun g hg=>by simp only[p,qo] at hg;subst hg;exact⟨.inl h.ge,by simp⟩)
  (by simp)
  ⟨⟨by simp,w.heap.size,0,#[],rfl,heap_alloc_new w _,rfl,by simp,fun i e k v he hv=>by simp at he⟩,fun g hg=> .inr hg⟩
 rw[hF] at hput;refine⟨_,_,_,_,.inl ?_,hput.2,hput.1,.tab H.length w.heap.size p (by simp[hlt]) rfl,fun id hid=>by
  rw[getElem?_set_ne (by simp at hid;omega)]⟩
 simp[execOp,ho,Instr.makeMap]
theorem still_lookup (hT:TabOk P T) (t:TypeId) (m k:Operand) (ok:Bool):StillOp P T (.lookup t m k ok):=by
 intro c w X ρ H F o e ρv r lo hi ho h hH hρ hres hc;have hm:=hρ m (by simp[Op.operands]);have hk:=hρ k (by simp[Op.operands]);simp only[opRes] at hres;split at hres;rotate_left
 ·cases hres
 rename_i i id ks hi hmv hkv;split at hres;rotate_left
 ·cases hres
 rename_i n zv n2 es hd hob;split at hres;rotate_left
 ·cases hres
 rename_i hlen2;obtain⟨hlen,rfl⟩:=hlen2;simp only[Res.if,qo] at hres;subst hres;rw[hmv] at hm;obtain⟨g,p,hmu,hp,hpg⟩:=tab_inv hm;have hku:=keyV_rd hk hkv;obtain⟨⟨hks,g2,clock,vs,hg2,hh,hsz,hnd,hcell⟩,_⟩:=h.ob id p _ hp (hH id _ hob);rw[hpg] at hg2;cases hg2;have htd:=(hT _ _ hi).desc;rw[hd] at htd;obtain⟨kt,el,ti,z,hu,hti,hz,hst,hzr,hlaw,hkey⟩:=htd;obtain⟨lk,hlk⟩:=hkey ks hlen hc;have hcheck:=fun em=>hlaw.check w em hlk
 have hget:(getObj g).run P w= .ok (.map vs clock) w:=by simp[getObj,Sem.run,hh]
 have hent: ∀ (j:Nat) ent,vs[j]?=some ent-> ∃ k' v',es[j]?=some (k',v')/\ent.key= .agg (k'.map (Value.int .i64)).toArray/\still v'=true/\PRd w X [] ent.val v':=by
  intro j ent hj;have hlt:j<es.length:=by rw[<-hsz];exact(Array.getElem?_eq_some_iff.1 hj).1
  obtain⟨a1,a2,a3⟩:=hcell j ent es[j].1 es[j].2 hj (by simp[hlt]);exact⟨_,_,by simp[hlt],a1,a2,a3⟩
 have hall: ∀ e∈vs.toList,∃ l,keyOf P kt e.key=some l:=by
  intro ent he;obtain⟨j,hj,hje⟩:=mem_iff_getElem.1 he;obtain⟨k',v',h1,h2,_⟩:=hent j ent (by rw[<-hje];simp at hj;simp[hj]);obtain⟨b1,b2⟩:=hks _ (mem_of_getElem? h1);rw[h2];exact hkey k' b1 b2
 have hzv:(zeroValue el).run P w= .ok z w:=by simp[zeroValue,typeInfo,hti,hz]
 rcases hlaw.find w hlk vs.toList hall with⟨hf,hno⟩ | ⟨j,ent,hf,hj,hjk⟩
 ·have hnone:tabFind es ks=none:=by
   refine tabFind_none (fun e he hek=>?_);obtain⟨j,hj,hje⟩:=mem_iff_getElem.1 he;have hjv:j<vs.size:=by rw[hsz];exact hj
   obtain⟨a1,_,_⟩:=hcell j vs[j] e.1 e.2 (by simp[hjv]) (by rw[qb hj,hje]);exact hno vs[j] (Array.mem_toList_iff.2 (Array.getElem_mem hjv)) (by rw[a1,hek])
  refine⟨rfl,OpOK.still (u:=if ok then .tuple #[z,.bool false] else z) h ?_ ?_⟩
  ·simp only[execOp,ho,hmu,hku];cases ok<;>simp[Instr.lookup,run_underlying hu,hget,hcheck,hf,hzv]
  ·rw[hnone];cases ok with
   | false=>exact hzr w X ρ
   | true=>exact .tup _ _ rfl (fun i u c hu hc=>by
    match i with
    | 0=>simp at hu hc;subst hu;subst hc;exact hzr w X ρ
    | 1=>simp at hu hc;subst hu;subst hc;exact .fv _ _ (.lit _ rfl)
    | i+2=>simp at hu)
 ·obtain⟨k',v',h1,h2,h3,h4⟩:=hent j ent (by simpa using hj);have hkk:k'=ks:=ints_inj (h2.symm.trans hjk);rw[hkk] at h1;have hsome:=tabFind_some hnd h1;have hv:PRd w X ρ ent.val v':=still_rd h4 h3;refine⟨rfl,OpOK.still (u:=if ok then .tuple #[ent.val,.bool true] else ent.val) h ?_ ?_⟩
  ·simp only[execOp,ho,hmu,hku];cases ok<;>simp[Instr.lookup,run_underlying hu,hget,hcheck,hf]
  ·rw[hsome];cases ok with
   | false=>exact hv
   | true=>exact .tup _ _ rfl (fun i u c hu hc=>by
    match i with
    | 0=>simp at hu hc;subst hu;subst hc;exact hv
    | 1=>simp at hu hc;subst hu;subst hc;exact .fv _ _ (.lit _ rfl)
    | i+2=>simp at hu)
theorem tabPut_none: ∀ {es:List (List Int×PV)} {k:List Int} {v:PV},(∀ e∈es,e.1≠k)->tabPut es k v=es++[(k,v)]
 | [],k,v,_=>rfl
 | e::es,k,v,h=>by
  have hne:(e.1==k)=false:=by rw[qx];exact h e (by simp)
  simp only[tabPut,hne];rw[tabPut_none (fun e he=>h e (ql _ he))];rfl
theorem tabPut_some: ∀ {es:List (List Int×PV)} {k:List Int} {v u:PV} {i:Nat},(es.map (·.1)).Nodup->es[i]?=some (k,u)->tabPut es k v=es.set i (k,v)
 | [],k,v,u,i,_,h=>by simp at h
 | e::es,k,v,u,i,hn,h=>by
  rw[map_cons,List.nodup_cons] at hn;cases i with
  | zero=>
   simp at h;subst h;simp[tabPut]
  | succ i=>
   simp at h;have hmem:k∈es.map (·.1):=mem_map.2 ⟨(k,u),mem_of_getElem? h,rfl⟩;have hne:(e.1==k)=false:=by
    rw[qx];intro he;exact hn.1 (he ▸ hmem)
   simp only[tabPut,hne];rw[tabPut_some hn.2 h];rfl
theorem HRd.reTab {c:Ctx} {w:World} {X:Nat->Prop} {ρ:Places} {F:List Ob} (h:HRd c w X ρ F) {id g n:Nat} {p:Place} {es es':List (List Int×PV)} {vs vs':Array MapEntry} {clock clock':Nat}
 (hp:ρ[id]?=some (some p)) (hob:F[id]?=some (.tab n es)) (hpg:p.b=some g) (hh:w.heap[g]?=some (.map vs clock))
 (hks: ∀ e∈es',e.1.length=n/\ ∀ x∈e.1,-9223372036854775808<=x/\x<9223372036854775808) (hsz:vs'.size=es'.length) (hnd:(es'.map (·.1)).Nodup)
 (hcell: ∀ (i:Nat) e k v,vs'[i]?=some e->es'[i]?=some (k,v)->e.key= .agg (k.map (Value.int .i64)).toArray/\still v=true/\PRd w X [] e.val v):
 ∃ X',Stp c w {w with heap:=w.heap.setIfInBounds g (.map vs' clock')} X X' ρ ρ/\HRd c {w with heap:=w.heap.setIfInBounds g (.map vs' clock')} X' ρ (F.set id (.tab n es')):=by
 have hlt:g<w.heap.size:=(Array.getElem?_eq_some_iff.1 hh).1
 have hXg:X g:=(h.ob id p _ hp hob).2 g hpg
 have hgb:w.grownBy {w with heap:=w.heap.setIfInBounds g (.map vs' clock')} (some g):=
  ⟨rfl,rfl,rfl,by simp,fun k _ hk=>by simp[Array.getElem?_setIfInBounds_ne (show g≠k from fun e=>hk (by rw[e]))]⟩
 have hsub: ∀ b,(X b\/p.b=some b)->X b:=fun b hb=>by
  rcases hb with hb | hb
  ·exact hb
  ·rw[hpg] at hb;cases hb;exact hXg
 have hput:=h.put (id:=id) (p:=p) (ob:= .tab n es') (row:=some g) (w':={w with heap:=w.heap.setIfInBounds g (.map vs' clock')}) (List.getElem?_eq_some_iff.1 hob).1 (.inr hp) hgb
  (by intro g' hg';cases hg';exact hXg)
  (fun j2 q o2 g2 hj2 hq ho2 hr2 hb2=>by
   have hne:g2≠g:=by
    intro he;subst he;exact hj2 (h.inj j2 id q p o2 _ g2 hq hp ho2 hob hr2 rfl hb2 hpg)
   exact⟨by simp[hne],by rw[hpg];simp;exact fun he=>hne he.symm⟩)
  (fun g2 hg2=>by rw[hpg] at hg2;cases hg2;exact .inr hXg)
  (fun g2 hg2=>by rw[hpg] at hg2;cases hg2;exact⟨(h.own id p _ g hp hob rfl hpg).1,Nat.lt_of_lt_of_le (h.own id p _ g hp hob rfl hpg).2 hgb.size⟩)
  (fun g2 hg2=>by cases hg2;exact(h.own id p _ g hp hob rfl hpg).1)
  ⟨⟨hks,g,clock',vs',hpg,by simp[hlt],hsz,hnd,fun i e k v he hv=>by
   obtain⟨a1,a2,a3⟩:=hcell i e k v he hv;exact⟨a1,a2,a3.mono ⟨hgb.size,fun b hb hxb=>hgb.block b hb (fun he=>hxb (by cases he;exact hXg))⟩ (fun b _ hb=>hsub b hb) (Places.Le.refl [])⟩⟩,fun g2 hg2=> .inr hg2⟩
 rw[set_self hp] at hput
 exact⟨_,hput.2,hput.1⟩
theorem eff_mapUpdate (hT:TabOk P T) (t:TypeId) (m k x:Operand):EffOp P T (.mapUpdate t m k x):=by
 intro c w X ρ H D R o e ρv r ho h hD hρ hres hc hlen;have hm:=hρ m (by simp[Op.operands]);have hk:=hρ k (by simp[Op.operands]);have hx:=hρ x (by simp[Op.operands]);simp only[opRes] at hres;split at hres;rotate_left
 ·cases hres
 rename_i i id ks hi hmv hkv;split at hres;rotate_left
 ·cases hres
 rename_i n zv n2 es hd hob;split at hres;rotate_left
 ·cases hres
 rename_i hlen2;obtain⟨hkl,rfl,hsx⟩:=hlen2;cases hres;simp only at hc hlen;have hd0:D=[]:=List.eq_nil_of_length_eq_zero (by simp at hlen;simpa using hlen);subst hd0;rw[hmv] at hm;obtain⟨g,p,hmu,hp,hpg⟩:=tab_inv hm;have hku:=keyV_rd hk hkv;have hobF:(H++([]++R))[id]?=some (.tab n2 es):=look_append id _ hob;obtain⟨⟨hks,g2,clock,vs,hg2,hh,hsz,hnd,hcell⟩,_⟩:=h.ob id p _ hp hobF;rw[hpg] at hg2;cases hg2;have htd:=(hT _ _ hi).desc;rw[hd] at htd;obtain⟨kt,el,ti,z,hu,hti,hz,hst,hzr,hlaw,hkey⟩:=htd;obtain⟨lk,hlk⟩:=hkey ks hkl hc;have hcheck:=fun em=>hlaw.check w em hlk
 have hstay:=hlaw.stays w hlk;have hget:(getObj g).run P w= .ok (.map vs clock) w:=by simp[getObj,Sem.run,hh]
 have hset: ∀ ob:Obj,(setObj g ob).run P w= .ok () {w with heap:=w.heap.setIfInBounds g ob}:=fun ob=>by simp[setObj,Sem.run,hh]
 have hxr:PRd w X [] (e x) (ρv x):=still_rd hx hsx;have hent: ∀ (j:Nat) ent,vs[j]?=some ent-> ∃ k' v',es[j]?=some (k',v')/\ent.key= .agg (k'.map (Value.int .i64)).toArray/\still v'=true/\PRd w X [] ent.val v':=by
  intro j ent hj;have hlt:j<es.length:=by rw[<-hsz];exact(Array.getElem?_eq_some_iff.1 hj).1
  obtain⟨a1,a2,a3⟩:=hcell j ent es[j].1 es[j].2 hj (by simp[hlt]);exact⟨_,_,by simp[hlt],a1,a2,a3⟩
 have hall: ∀ e∈vs.toList,∃ l,keyOf P kt e.key=some l:=by
  intro ent he;obtain⟨j,hj,hje⟩:=mem_iff_getElem.1 he;obtain⟨k',v',h1,h2,_⟩:=hent j ent (by rw[<-hje];simp at hj;simp[hj]);obtain⟨b1,b2⟩:=hks _ (mem_of_getElem? h1);rw[h2];exact hkey k' b1 b2
 have hFs: ∀ ob:Ob,(H++([]++R)).set id ob=H.set id ob++R:=fun ob=>by
  rw[nil_append,set_append_left _ _ (List.getElem?_eq_some_iff.1 hob).1]
 rcases hlaw.find w hlk vs.toList hall with⟨hf,hno⟩ | ⟨j,ent,hf,hj,hjk⟩
 ·have hnk: ∀ e∈es,e.1≠ks:=fun e he hek=>by
   obtain⟨j,hj,hje⟩:=mem_iff_getElem.1 he;have hjv:j<vs.size:=by rw[hsz];exact hj
   obtain⟨a1,_,_⟩:=hcell j vs[j] e.1 e.2 (by simp[hjv]) (by rw[qb hj,hje]);exact hno vs[j] (Array.mem_toList_iff.2 (Array.getElem_mem hjv)) (by rw[a1,hek])
  rw[tabPut_none hnk];obtain⟨X',hs,hh'⟩:=h.reTab (es':=es++[(ks,ρv x)]) (vs':=vs.push {key:= .agg (ks.map (Value.int .i64)).toArray,val:=e x,born:=clock}) (clock':=clock+1) hp hobF hpg hh
   (fun e he=>by
    rcases List.mem_append.1 he with he | he
    ·exact hks e he
    ·rw[qz] at he;subst he;exact⟨hkl,hc⟩)
   (by simp[hsz])
   (by
    rw[qwb,List.nodup_append];refine⟨hnd,by simp,fun a ha b hb=>?_⟩;simp at hb;subst hb;obtain⟨e,he,rfl⟩:=mem_map.1 ha;exact hnk e he)
   (fun i e2 k2 v2 he2 hv2=>by
    by_cases hi2:i<vs.size
    ·rw[Array.getElem?_push_lt hi2] at he2;rw[qi (by omega)] at hv2;exact hcell i e2 k2 v2 (by rw[<-he2];simp[hi2]) hv2
    ·have hil:i=vs.size:=by
      have:=(List.getElem?_eq_some_iff.1 hv2).1;simp at this;omega
     subst hil;rw[getElem?_append_right (by omega),hsz] at hv2;simp at he2 hv2;obtain⟨rfl,rfl⟩:=hv2;subst he2;exact⟨rfl,hsx,hxr⟩)
  rw[hFs] at hh';refine⟨undef,_,X',ρ,.inr ⟨?_,rfl⟩,hs,hh',.tup #[] [] rfl (by simp),fun _ _=>rfl⟩;simp only[execOp,ho,hmu,hku];simp[Instr.mapUpdate,run_underlying hu,hget,hcheck,hf,hset]
 ·obtain⟨k',v',h1,h2,h3,h4⟩:=hent j ent (by simpa using hj);have hkk:k'=ks:=ints_inj (h2.symm.trans hjk);rw[hkk] at h1;rw[tabPut_some hnd h1];have hjs:j<vs.size:=by rw[hsz];exact(List.getElem?_eq_some_iff.1 h1).1
  have hvj:vs[j]?=some ent:=by simpa using hj
  obtain⟨X',hs,hh'⟩:=h.reTab (es':=es.set j (ks,ρv x)) (vs':=vs.modify j fun q=>{q with key:= .agg (ks.map (Value.int .i64)).toArray,val:=e x}) (clock':=clock) hp hobF hpg hh
   (fun e he=>by
    rcases List.mem_or_eq_of_mem_set he with he | he
    ·exact hks e he
    ·subst he;exact⟨hkl,hc⟩)
   (by simp[hsz])
   (by
    have:(es.set j (ks,ρv x)).map (·.1)=es.map (·.1):=by
     apply List.ext_getElem?;intro q;rw[List.getElem?_map,List.getElem?_map];by_cases hq:j=q
     ·subst hq;rw[qv (by omega),h1];rfl
     ·rw[getElem?_set_ne hq]
    rw[this];exact hnd)
   (fun i e2 k2 v2 he2 hv2=>by
    by_cases hij:j=i
    ·subst hij;rw[qv (by omega)] at hv2;cases hv2;rw[Array.getElem?_modify,if_pos rfl,hvj] at he2;cases he2;exact⟨rfl,hsx,hxr⟩
    ·rw[getElem?_set_ne hij] at hv2;rw[Array.getElem?_modify,if_neg hij] at he2;exact hcell i e2 k2 v2 he2 hv2)
  rw[hFs] at hh';refine⟨undef,_,X',ρ,.inr ⟨?_,rfl⟩,hs,hh',.tup #[] [] rfl (by simp),fun _ _=>rfl⟩;have hvk:ent.key= .agg (ks.map (Value.int .i64)).toArray:=hjk;simp only[execOp,ho,hmu,hku];simp[Instr.mapUpdate,run_underlying hu,hget,hcheck,hf,hset,hvj,hvk,hstay]
end
end Go.AM
namespace Go.AM
section
variable {P:Program} {T:Tab}
theorem bound3_rd {w:World} {n l h m:Nat} {lo hi mx:Option Operand} {e:Operand->Value} {ρv:Operand->PV} {X:Nat->Prop} {ρ:Places}
 (hlo: ∀ x∈lo.toArray,PRd w X ρ (e x) (ρv x)) (hhi: ∀ x∈hi.toArray,PRd w X ρ (e x) (ρv x)) (hmx: ∀ x∈mx.toArray,PRd w X ρ (e x) (ρv x)) {c1 c2 c3:Prop} (hmn:mx.isSome=true->hi.isSome=true)
 (hb1:bound (lo.map ρv) 0=some (c1,l)) (hb2:bound (hi.map ρv) n=some (c2,h)) (hb3:bound (mx.map ρv) n=some (c3,m)) (hc1:c1) (hc2:c2) (hc3:c3) (hlh:l<=h) (hhm:h<=m) (hmn2:m<=n):
 (Instr.sliceBounds false n n (lo.map e) (hi.map e) (mx.map e)).run P w= .ok (l,h,m) w:=by
 rcases bound_rd hlo hb1 with⟨rfl,rfl,_⟩ | ⟨x,k,a,rfl,hx,rfl,rfl⟩<;>
  rcases bound_rd hhi hb2 with⟨rfl,rfl,_⟩ | ⟨y,k',b,rfl,hy,rfl,rfl⟩<;>
   rcases bound_rd hmx hb3 with⟨rfl,rfl,_⟩ | ⟨z,k2,d,rfl,hz,rfl,rfl⟩
 ·simp[Instr.sliceBounds]
 ·simp at hmn
 ·have h1:0<=b/\b<=(m:Int):=by omega
  simp[Instr.sliceBounds,Instr.sliceBound,hy,asIntOf,h1]
 ·have h1:0<=d/\d<=(n:Int):=by omega
  have h2:0<=b/\b<=max d 0:=by omega
  simp[Instr.sliceBounds,Instr.sliceBound,hy,hz,asIntOf,h1,h2]
 ·have h1:0<=a/\a<=(m:Int):=by omega
  simp[Instr.sliceBounds,Instr.sliceBound,hx,asIntOf,h1]
 ·simp at hmn
 ·have h1:0<=b/\b<=(m:Int):=by omega
  have h2:0<=a/\a<=max b 0:=by omega
  simp[Instr.sliceBounds,Instr.sliceBound,hx,hy,asIntOf,h1,h2]
 ·have h1:0<=d/\d<=(n:Int):=by omega
  have h2:0<=b/\b<=max d 0:=by omega
  have h3:0<=a/\a<=max b 0:=by omega
  simp[Instr.sliceBounds,Instr.sliceBound,hx,hy,hz,asIntOf,h1,h2,h3]
theorem frd_take {w:World} {X:Nat->Prop} {ad:Addr} {n m:Nat} {xs:List (List FV)} (hf:FRd w X (.slice (some ad) n n) (.sl xs)) (hm:m<=n):FRd w X (.slice (some ad) m m) (.sl (xs.take m)):=by
 cases hf with
 | sl _ _ _ s _ us hn hc hs h0 hX hb hcell hrd=>
  refine .sl ad m m s _ us (by simp;omega) (qp _) (fun x hx=>hs x (qfb hx)) h0 (fun hz=>hX (by omega)) (fun hz=>hb (by omega)) (fun i j x y hx hy=>?_) (fun i j x y hx hy=>?_)
  ·rw[getElem?_take] at hx;split at hx
   ·exact hcell i j x y hx hy
   ·cases hx
  ·rw[getElem?_take] at hx;split at hx
   ·exact hrd i j x y hx hy
   ·cases hx
theorem eff_sliceArr (hT:TabOk P T) {t:TypeId} {i:TyI} (hi:T.at t=some i) {n el:Nat} (hel:i.d= .arr n el) (x:Operand) (lo hi' mx:Option Operand):EffOp P T (.slice t x lo hi' mx):=by
 intro c w X ρ H D R o e ρv r ho h hD hρ hres hc hlen;have hx:=hρ x (by simp[Op.operands]);have hlo: ∀ y∈lo.toArray,PRd w X ρ (e y) (ρv y):=fun y hy=>hρ y (by simp[Op.operands] at hy ⊢;simp[hy])
 have hhi: ∀ y∈hi'.toArray,PRd w X ρ (e y) (ρv y):=fun y hy=>hρ y (by simp[Op.operands] at hy ⊢;simp[hy])
 have hmx: ∀ y∈mx.toArray,PRd w X ρ (e y) (ρv y):=fun y hy=>hρ y (by simp[Op.operands] at hy ⊢;simp[hy])
 have hd:=(hT _ _ hi).desc;rw[hel] at hd;simp only[TyDesc] at hd;simp only[opRes,hi,hel] at hres;split at hres;rotate_left
 ·cases hres
 rename_i ie id j off c1 l c2 hh c3 m hie hv hb1 hb2 hb3;rw[hv] at hx;split at hres;rotate_left
 ·cases hres
 rename_i rw cs hob;split at hres;rotate_left
 ·cases hres
 rename_i fs hfs;split at hres;rotate_left
 ·cases hres
 rename_i hg;obtain⟨rfl,hpos,hn0,hmn⟩:=hg;cases hres;have h5:(shutIds (id::((cs.drop off).take (n*ie.size)).flatMap ids0) H).length=H.length+D.length:=hlen;rw[shutIds_length] at h5;have hd0:D=[]:=List.eq_nil_of_length_eq_zero (by omega);subst hd0;obtain⟨hc1,hc2,hc3,hlh,hhm,hmn2,hoff⟩:=hc;obtain⟨ti,z,hti,hts,_⟩:=(hT _ _ hie).info;have hids: ∀ k∈id::((cs.drop off).take (n*ie.size)).flatMap ids0,k<H.length:=by
  intro k hk;rw[qhb] at hk;rcases hk with rfl | hk
  ·exact(List.getElem?_eq_some_iff.1 hob).1
  ·exact fzs_ids hfs k hk
 generalize hue:e x=u at hx;cases hx with
 | ptr _ _ _ g p hp hgp=>
  have hb3':=bound3_rd (P:=P) (w:=w) hlo hhi hmx hmn hb1 hb2 hb3 hc1 hc2 hc3 hlh hhm hmn2;refine OpOK.shutting hids h (u:= .slice (if m=l then some ⟨g,off,none⟩ else(some (⟨g,off,none⟩:Addr)).map (·.add (l*ie.size))) (hh - l) (m - l)) ?_ (fun X' hX hn=>?_)
  ·have he:(0*p.size+off)=off:=by omega
   rw[he] at hue;simp only[execOp,ho,hue];simp only[Instr.sliceAt,Sem.run_bind,run_underlying hd,Result.andThen_ok,Instr.sureAddr,Sem.run_pure,hb3',sizeOf,typeInfo,run_program,hti,hts];split<;>simp
  ·obtain⟨⟨g',us,hg',hhp,hsz,hone,hcell⟩,_⟩:=h.ob id p _ hp (look_append id _ hob);rw[hgp] at hg';cases hg';have hfl:fs.length=n*ie.size:=by rw[fzs_length hfs];simp;omega
   have hfr: ∀ (k:Nat) y,fs[k]?=some y->w.cell? ⟨g,off+k,none⟩=some (us.getD (off+k) undef)/\FRd w X' (us.getD (off+k) undef) y:=by
    intro k y hy;have hk:k<n*ie.size:=by rw[<-hfl];exact(List.getElem?_eq_some_iff.1 hy).1
    have hlt:off+k<us.size:=by omega
    have hc5:((cs.drop off).take (n*ie.size))[k]?=some cs[off+k]:=by
     rw[getElem?_take,if_pos hk,List.getElem?_drop];simp[show off+k<cs.length by omega]
    obtain⟨y',hy',hfy⟩:=fzs_get hfs k _ hc5;rw[hy] at hy';cases hy';rw[show us.getD (off+k) undef=us[off+k] by simp[hlt]];refine⟨by rw[cell_of_row w g _ us _ _ hhp];simp[hlt],?_⟩;refine fz0_rd h look_append (hcell _ _ _ (Array.getElem?_eq_getElem hlt) (by simp[show off+k<cs.length by omega])) hfy hX (fun k2 hk2=>hn k2 ?_);rw[qhb,List.mem_flatMap];exact .inr ⟨_,mem_of_getElem? hc5,hk2⟩
   have hbase:FRd w X' (.slice (some ⟨g,off,none⟩) n n) (.sl (groups ie.size n fs)):=by
    refine .sl _ n n ie.size _ (fun i j=>us.getD (off+(i*ie.size+j)) undef) (groups_length _ _ _) (qp _) (groups_len hfl) rfl (fun _=>hn id (by simp) p _ g hp (look_append id _ hob) trivial hgp) (fun _=>(Array.getElem?_eq_some_iff.1 hhp).1) (fun i j x y hx hy=>?_) (fun i j x y hx hy=>?_)
    ·exact(hfr _ _ (groups_cell hx hy).1).1
    ·exact(hfr _ _ (groups_cell hx hy).1).2
   have hsub:=frd_sub (frd_take hbase hmn2) (sz:=ie.size) (fun x hx=>groups_len hfl x (qfb hx)) (cap:=m) hlh hhm;have hte:(((groups ie.size n fs).take m).drop l).take (hh - l)=((groups ie.size n fs).drop l).take (hh - l):=by
    rw[List.drop_take,List.take_take,Nat.min_eq_left (by omega)]
   rw[hte] at hsub;show PRd w X' ρ _ (if m=hh then _ else _);by_cases hmh:m=hh
   ·rw[if_pos hmh];have e1:m - l=hh - l:=by rw[hmh]
    rw[e1] at hsub ⊢;exact .clip _ _ _ hsub
   ·rw[if_neg hmh];exact .fv _ _ hsub
theorem run_storeAt {w:World} {t:TypeId} {ti:TypeInfo} (hti:P.info? t=some ti) {v:Value} (hv:v.cells.size=ti.size) {g o e':Nat} {cur:Array Value} (hg:w.heap[g]?=some (.cells cur e' (0,0)))
 (hl:o+v.cells.size<=cur.size) (h1: ∀ (i:Nat) u,v.cells[i]?=some u->u.oneCell'=true):
 (Instr.storeAt t (.pointer (some ⟨g,o,none⟩)) v).run P w= .ok () (w.setRow g (cur.toList.take o++v.cells.toList++cur.toList.drop (o+v.cells.size)).toArray):=by
 have hst:=run_storeCells_at P g o e' v.cells.toList 0 cur w hg (by simpa using hl) (fun u hu=>by
  obtain⟨i,hi⟩:=getElem?_of_mem hu;exact h1 i u (by simpa using hi))
 simp only[Nat.add_zero,Array.length_toList] at hst
 simp[Instr.storeAt,Instr.sureAddr,storeVar,sizeOf,typeInfo,hti,hv,hst]
theorem eff_store (hT:TabOk P T) (t:TypeId) (a x:Operand):EffOp P T (.store t a x):=by
 intro c w X ρ H D R o e ρv r ho h hD hρ hres hc hlen;have ha:=hρ a (by simp[Op.operands]);have hx:=hρ x (by simp[Op.operands]);simp only[opRes] at hres;split at hres;rotate_left
 ·cases hres
 rename_i i hi;obtain⟨ti,z,hti,hts,_⟩:=(hT _ _ hi).info;split at hres;rotate_left
 ·cases hres
 rename_i id j off hv;rw[hv] at ha;split at hres;rotate_left
 ·cases hres
 rename_i cd H' hst;cases hres;obtain⟨hcd,hcl,hpos⟩:=hc;obtain⟨hcs,hone⟩:=cells_size hx (by omega);have hcr:=cells_rd hx;generalize hue:e a=u at ha;cases ha with
 | ptr _ _ _ g p hp hgp=>
  unfold storeAt at hst;split at hst
  ·rename_i xs0 hob;split at hst;rotate_left
   ·cases hst
   rename_i fs xs hfs hob1;cases hst;have hids:=fzs_ids hfs;have hl5:((shutAll H (ρv x).cells).set id (Ob.row true (xs.set j (splice (xs.getD j []) off fs)))).length=H.length+D.length:=hlen;rw[length_set] at hl5;unfold shutAll at hl5;rw[shutIds_length] at hl5;have hd0:D=[]:=List.eq_nil_of_length_eq_zero (by omega);subst hd0;obtain⟨X1,h1,hs1,hn1⟩:=h.shutIds ((ρv x).cells.flatMap ids0);rw[shutIds_append _ hids] at h1;obtain⟨hjl,hoff⟩:=hcd;have hfull:(shutIds ((ρv x).cells.flatMap ids0) H++([]++R))[id]?=some (.row true xs):=look_append id _ hob1;obtain⟨⟨hppos,hxlen,us,hus,huc⟩,hrwX⟩:=h1.ob id p _ hp hfull;have hXg:X1 g:=(hrwX g hgp).1 rfl;have hown0:w.ownsRow 0 p.e p.size (.slice (some ⟨g,0,none⟩) xs.length p.cap) xs.length us:=by simpa [Place.val,hgp] using hus
   obtain⟨hul,hcase⟩:=hown0;rcases hcase with⟨h5,_⟩ | ⟨g',cap',cur,h5,_,hcur,hnc,hcm,hcsz,htake⟩
   ·cases h5
   cases h5;have hgj:xs[j]?=some (xs.getD j []):=by simp[hjl]
   have hxj:(xs.getD j []).length=p.size:=hxlen _ (mem_of_getElem? hgj);have hmul:(j+1)*p.size<=xs.length*p.size:=qn _ hjl;have hmulc:xs.length*p.size<=p.cap*p.size:=qn _ hnc;rw[Nat.add_mul] at hmul;have hfsl:=fzs_length hfs;have hrun:=run_storeAt (P:=P) (w:=w) hti (v:=e x) (by omega) (o:=j*p.size+off) hcur (by omega) hone;have hgb:=grownBy_setRow w g (cur.toList.take (j*p.size+off)++(e x).cells.toList++cur.toList.drop (j*p.size+off+(e x).cells.size)).toArray;have hget:=fun k=>arr_splice_get (cur:=cur) (o:=j*p.size+off) (vs:=(e x).cells.toList) (by simp;omega) k
   simp only[Array.length_toList,Array.getElem?_toList] at hget;have hheap:=setRow_heap w g cur (cur.toList.take (j*p.size+off)++(e x).cells.toList++cur.toList.drop (j*p.size+off+(e x).cells.size)).toArray p.e (0,0) hcur;have hrun2:(execOp e o).run P w= .ok .skip (w.setRow g (cur.toList.take (j*p.size+off)++(e x).cells.toList++cur.toList.drop (j*p.size+off+(e x).cells.size)).toArray):=by
    simp only[execOp,ho,hue,Sem.run_bind,hrun,Result.andThen_ok,Sem.run_pure]
   generalize hnew:(cur.toList.take (j*p.size+off)++(e x).cells.toList++cur.toList.drop (j*p.size+off+(e x).cells.size)).toArray=new at hrun2 hgb hget hheap;have hnsz:new.size=cur.size:=by
    rw[<-hnew];simp;omega
   have husg: ∀ (k:Nat),k<xs.length*p.size->us[k]?=cur[k]?:=by
    intro k hk;rw[<-htake,getElem?_take,if_pos hk];simp
   have hown2:(w.setRow g new).ownsRow 0 p.e p.size (.slice (some ⟨g,0,none⟩) xs.length p.cap) xs.length (new.toList.take (xs.length*p.size)):=by
    refine⟨by have e9:new.toList.length=cur.size:=hnsz;rw[qf,e9,hcsz,Nat.min_eq_left hmulc],.inr ⟨g,p.cap,new,rfl,qsq _,hheap,hnc,hcm,by rw[hnsz,hcsz],rfl⟩⟩
   have hfrd: ∀ (k:Nat) u y,(e x).cells[k]?=some u->fs[k]?=some y->FRd w X1 u y:=by
    intro k u y hu hy;have hlt:k<(ρv x).cells.length:=by rw[<-hfsl];exact(List.getElem?_eq_some_iff.1 hy).1
    obtain⟨y',hy',hfy⟩:=fzs_get hfs k (ρv x).cells[k] (by simp[hlt]);rw[hy] at hy';cases hy';refine fz0_rd h look_append (hcr k u _ hu (by simp[hlt])) hfy hs1 (fun k2 hk2=>hn1 k2 ?_);rw[List.mem_flatMap];exact⟨_,by simp,hk2⟩
   have hput:=h1.put (id:=id) (p:=p) (ob:= .row true (xs.set j (splice (xs.getD j []) off fs))) (row:=some g) (w':=w.setRow g new) (by have:=(List.getElem?_eq_some_iff.1 hfull).1;exact this) (.inr hp) hgb
    (by intro g' hg';cases hg';exact hXg)
    (fun j2 q o2 g2 hj2 hq ho2 hr2 hb2=>by
     have hne:g2≠g:=by
      intro he;subst he;exact hj2 (h1.inj j2 id q p o2 _ g2 hq hp ho2 hfull hr2 rfl hb2 hgp)
     exact⟨by simp[hne],by rw[hgp];simp;exact fun he=>hne he.symm⟩)
    (fun g2 hg2=>by rw[hgp] at hg2;cases hg2;exact .inr hXg)
    (fun g2 hg2=>by rw[hgp] at hg2;cases hg2;exact⟨(h1.own id p _ g hp hfull rfl hgp).1,Nat.lt_of_lt_of_le (h1.own id p _ g hp hfull rfl hgp).2 hgb.size⟩)
    (fun g2 hg2=>by cases hg2;exact(h1.own id p _ g hp hfull rfl hgp).1)
    ⟨⟨hppos,by
     intro y hy;obtain⟨k,hk⟩:=getElem?_of_mem hy;by_cases hkj:j=k
     ·subst hkj;rw[qv hjl] at hk;cases hk;rw[splice_length (by omega)];exact hxj
     ·rw[getElem?_set_ne hkj] at hk;exact hxlen y (mem_of_getElem? hk),new.toList.take (xs.length*p.size),by rw[length_set];simpa [Place.val,hgp] using hown2,by
     intro i2 k y1 y2 hy1 hy2;have hmono: ∀ {u y},FRd w X1 u y->FRd (w.setRow g new) (fun b=>X1 b\/p.b=some b) u y:=fun hf=>hf.mono ⟨hgb.size,fun b hb hxb=>hgb.block b hb (fun he=>hxb (by cases he;exact hXg))⟩ (fun b hb hxb=>by
      rcases hxb with hxb | hxb
      ·exact hxb
      ·rw[hgp] at hxb;cases hxb;exact hXg)
     have hi2:i2<xs.length:=by have:=(List.getElem?_eq_some_iff.1 hy1).1;simpa using this
     have hmul2:(i2+1)*p.size<=xs.length*p.size:=qn _ hi2;rw[Nat.add_mul] at hmul2;by_cases hij:j=i2
     ·subst hij;rw[qv hjl] at hy1;cases hy1;have hk:k<p.size:=by
       have:=(List.getElem?_eq_some_iff.1 hy2).1;rw[splice_length (by omega)] at this;omega
      rw[splice_get (by omega)] at hy2;have hidx:(new.toList.take (xs.length*p.size))[j*p.size+k]?=new[j*p.size+k]?:=by
       rw[getElem?_take,if_pos (by omega)];simp
      rw[hidx,hget];by_cases hk1:k<off
      ·rw[if_pos hk1] at hy2;rw[if_pos (by omega)];obtain⟨u,hu,hf⟩:=huc j k _ y2 hgj hy2;rw[husg _ (by omega)] at hu;exact⟨u,hu,hmono hf⟩
      ·rw[if_neg hk1] at hy2;rw[if_neg (by omega)];by_cases hk2:k<off+fs.length
       ·rw[if_pos hk2] at hy2;rw[if_pos (by omega)];have hlt:k - off<(e x).cells.size:=by omega
        rw[show j*p.size+k - (j*p.size+off)=k - off by omega];exact⟨(e x).cells[k - off],by simp[hlt],hmono (hfrd _ _ _ (by simp[hlt]) hy2)⟩
       ·rw[if_neg hk2] at hy2;rw[if_neg (by omega)];obtain⟨u,hu,hf⟩:=huc j k _ y2 hgj hy2;rw[husg _ (by omega)] at hu;exact⟨u,hu,hmono hf⟩
     ·rw[getElem?_set_ne hij] at hy1;have hk:k<p.size:=by rw[<-hxlen y1 (mem_of_getElem? hy1)];exact(List.getElem?_eq_some_iff.1 hy2).1
      obtain⟨u,hu,hf⟩:=huc i2 k y1 y2 hy1 hy2;refine⟨u,?_,hmono hf⟩;rw[getElem?_take,if_pos (by omega),Array.getElem?_toList,hget,<-hu,husg _ (by omega)];have hdis:i2*p.size+k<j*p.size+off\/j*p.size+off+(e x).cells.size<=i2*p.size+k:=by
       rcases Nat.lt_or_gt_of_ne hij with hlt | hgt
       ·right;have:(j+1)*p.size<=i2*p.size:=qn _ hlt;rw[Nat.add_mul] at this;omega
       ·left;have:(i2+1)*p.size<=j*p.size:=qn _ hgt;rw[Nat.add_mul] at this;omega
      rcases hdis with hdis | hdis
      ·rw[if_pos hdis]
      ·rw[if_neg (by omega),if_neg (by omega)]⟩,
     fun g2 hg2=>⟨fun _=> .inr hg2,fun _=>rfl⟩⟩
   rw[set_self hp] at hput;have hFs:(shutIds ((ρv x).cells.flatMap ids0) H++([]++R)).set id (.row true (xs.set j (splice (xs.getD j []) off fs)))=(shutAll H (ρv x).cells).set id (.row true (xs.set j (splice (xs.getD j []) off fs)))++R:=by
    rw[nil_append,set_append_left _ _ (by rw[shutIds_length];exact(List.getElem?_eq_some_iff.1 hob).1)];rfl
   rw[hFs] at hput;exact⟨undef,_,_,ρ,.inr ⟨hrun2,rfl⟩,(Stp.same_world hs1).trans hput.2,hput.1,.tup #[] [] rfl (by simp),fun _ _=>rfl⟩
  ·rename_i cs hob;cases hst;have hl5:(H.set id (Ob.box true (splice cs off (ρv x).cells))).length=H.length+D.length:=hlen;rw[length_set] at hl5;have hd0:D=[]:=List.eq_nil_of_length_eq_zero (by omega);subst hd0;obtain⟨rfl,hoff⟩:=hcd;have hfull:(H++([]++R))[id]?=some (.box true cs):=look_append id _ hob;obtain⟨⟨g',cur,hg',hcur,hcsz,hone0,hcell⟩,hrwX⟩:=h.ob id p _ hp hfull;rw[hgp] at hg';cases hg';have hXg:X g:=(hrwX g hgp).1 rfl;have he:(0*p.size+off)=off:=by omega
   rw[he] at hue;have hrun:=run_storeAt (P:=P) (w:=w) hti (v:=e x) (by omega) (o:=off) hcur (by omega) hone;have hgb:=grownBy_setRow w g (cur.toList.take off++(e x).cells.toList++cur.toList.drop (off+(e x).cells.size)).toArray;have hget:=fun k=>arr_splice_get (cur:=cur) (o:=off) (vs:=(e x).cells.toList) (by simp;omega) k
   simp only[Array.length_toList,Array.getElem?_toList] at hget;have hheap:=setRow_heap w g cur (cur.toList.take off++(e x).cells.toList++cur.toList.drop (off+(e x).cells.size)).toArray p.e (0,0) hcur;have hrun2:(execOp e o).run P w= .ok .skip (w.setRow g (cur.toList.take off++(e x).cells.toList++cur.toList.drop (off+(e x).cells.size)).toArray):=by
    simp only[execOp,ho,hue,Sem.run_bind,hrun,Result.andThen_ok,Sem.run_pure]
   generalize hnew:(cur.toList.take off++(e x).cells.toList++cur.toList.drop (off+(e x).cells.size)).toArray=new at hrun2 hgb hget hheap;have hnsz:new.size=cur.size:=by
    rw[<-hnew];simp;omega
   have hput:=h.put (id:=id) (p:=p) (ob:= .box true (splice cs off (ρv x).cells)) (row:=some g) (w':=w.setRow g new) (by have:=(List.getElem?_eq_some_iff.1 hfull).1;exact this) (.inr hp) hgb
    (by intro g' hg';cases hg';exact hXg)
    (fun j2 q o2 g2 hj2 hq ho2 hr2 hb2=>by
     have hne:g2≠g:=by
      intro he;subst he;exact hj2 (h.inj j2 id q p o2 _ g2 hq hp ho2 hfull hr2 rfl hb2 hgp)
     exact⟨by simp[hne],by rw[hgp];simp;exact fun he=>hne he.symm⟩)
    (fun g2 hg2=>by rw[hgp] at hg2;cases hg2;exact .inr hXg)
    (fun g2 hg2=>by rw[hgp] at hg2;cases hg2;exact⟨(h.own id p _ g hp hfull rfl hgp).1,Nat.lt_of_lt_of_le (h.own id p _ g hp hfull rfl hgp).2 hgb.size⟩)
    (fun g2 hg2=>by cases hg2;exact(h.own id p _ g hp hfull rfl hgp).1)
    ⟨⟨g,new,hgp,hheap,by rw[hnsz,hcsz,splice_length (by omega)],by
     intro k u hu;rw[hget] at hu;split at hu
     ·exact hone0 _ _ hu
     ·split at hu
      ·exact hone _ _ hu
      ·exact hone0 _ _ hu,by
     intro k u y hu hy;have hmono: ∀ {u y},PRd w X ρ u y->PRd (w.setRow g new) (fun b=>X b\/p.b=some b) (ρ.set id (some p)) u y:=fun hf=>hf.mono ⟨hgb.size,fun b hb hxb=>hgb.block b hb (fun he=>hxb (by cases he;exact hXg))⟩ (fun b hb hxb=>by
      rcases hxb with hxb | hxb
      ·exact hxb
      ·rw[hgp] at hxb;cases hxb;exact hXg) (Places.Le.set (.inr hp))
     rw[hget] at hu;rw[splice_get (by omega)] at hy;by_cases hk1:k<off
     ·rw[if_pos hk1] at hu hy;exact hmono (hcell _ _ _ hu hy)
     ·rw[if_neg hk1] at hu hy;by_cases hk2:k<off+(ρv x).cells.length
      ·rw[if_pos (by omega)] at hu;rw[if_pos hk2] at hy;exact hmono (hcr _ _ _ hu hy)
      ·rw[if_neg (by omega)] at hu;rw[if_neg hk2] at hy;exact hmono (hcell _ _ _ hu hy)⟩,
     fun g2 hg2=>⟨fun _=> .inr hg2,fun _=>rfl⟩⟩
   rw[set_self hp] at hput;have hFs:(H++([]++R)).set id (.box true (splice cs off (ρv x).cells))=H.set id (.box true (splice cs off (ρv x).cells))++R:=by
    rw[nil_append,set_append_left _ _ (List.getElem?_eq_some_iff.1 hob).1]
   rw[hFs] at hput;exact⟨undef,_,_,ρ,.inr ⟨hrun2,rfl⟩,hput.2,hput.1,.tup #[] [] rfl (by simp),fun _ _=>rfl⟩
  ·cases hst
theorem op_sound (hT:TabOk P T) (op:Op):EffOp P T op:=by
 intro c w X ρ H D R o e ρv r ho h hD hρ hres hc hlen;have hres':=hres;unfold opRes at hres';cases op with
 | move x=>exact EffOp.of_still (still_move x) ho h hD hρ hres hc hlen
 | assign x=>exact EffOp.of_still (still_assign x) ho h hD hρ hres hc hlen
 | pick x a b=>exact EffOp.of_still (still_pick x a b) ho h hD hρ hres hc hlen
 | alloc t=>exact eff_alloc hT t ho h hD hρ hres hc hlen
 | box t x=>exact eff_box t x ho h hD hρ hres hc hlen
 | build t parts=>exact EffOp.of_still (still_build hT t parts) ho h hD hρ hres hc hlen
 | buildSlice t len parts=>exact eff_buildSlice hT t len parts ho h hD hρ hres hc hlen
 | load t a=>exact EffOp.of_still (still_load hT t a) ho h hD hρ hres hc hlen
 | store t a x=>exact eff_store hT t a x ho h hD hρ hres hc hlen
 | nilCheck x=>exact EffOp.of_still (still_nilCheck x) ho h hD hρ hres hc hlen
 | binOp op t x y t'=>exact EffOp.of_still (still_binOp hT op t x y t') ho h hD hρ hres hc hlen
 | unOp op t x=>exact EffOp.of_still (still_unOp op t x) ho h hD hρ hres hc hlen
 | convert s d x=>exact EffOp.of_still (still_convert hT s d x) ho h hD hρ hres hc hlen
 | makeSlice t l k=>exact eff_makeSlice hT t l k ho h hD hρ hres hc hlen
 | makeFunc fn a b=>exact eff_makeFunc fn a b ho h hD hρ hres hc hlen
 | fieldAddr t x f=>exact EffOp.of_still (still_fieldAddr hT t x f) ho h hD hρ hres hc hlen
 | field t x f=>exact EffOp.of_still (still_field hT t x f) ho h hD hρ hres hc hlen
 | indexAddr t x ix=>exact EffOp.of_still (still_indexAddr hT t x ix) ho h hD hρ hres hc hlen
 | index t x ix=>exact EffOp.of_still (still_index hT t x ix) ho h hD hρ hres hc hlen
 | extract x ix=>exact EffOp.of_still (still_extract x ix) ho h hD hρ hres hc hlen
 | slice t x lo hi mx=>
  simp only at hres';split at hres';rotate_left
  ·cases hres'
  rename_i i hi;split at hres'
  ·rename_i el hel;exact EffOp.of_still (still_slice hT hi hel x lo _) ho h hD hρ hres hc hlen
  ·rename_i el mv hel;exact EffOp.of_still (still_slice3 hT (by assumption) hel x lo _ _) ho h hD hρ hres hc hlen
  ·rename_i n el hel;exact eff_sliceArr hT (by assumption) hel x lo _ _ ho h hD hρ hres hc hlen
  ·cases hres'
 | makeMap t r=>
  cases r with
  | none=>exact eff_makeMap hT t ho h hD hρ hres hc hlen
  | some r=>simp only at hres';cases hres'
 | lookup t m k ok=>exact EffOp.of_still (still_lookup hT t m k ok) ho h hD hρ hres hc hlen
 | mapUpdate t m k x=>exact eff_mapUpdate hT t m k x ho h hD hρ hres hc hlen
 | _=>simp only at hres';cases hres'
end
end Go.AM
namespace Go.AM
section
variable {P:Program} {T:Tab}
theorem PRd.reloc1 {w:World} {X X':Nat->Prop} {ρ ρ':Places} {u:Value} {x:PV} (f:Nat->Nat) (h:PRd w X ρ u x) (hX: ∀ b,b<w.heap.size->X' b->X b) (hρ: ∀ (j:Nat) p,ρ[j]?=some (some p)->ρ'[f j]?=some (some p))
 (h1:u.oneCell'=true):PRd w X' ρ' u (reloc1 f x):=by
 cases h with
 | any=>exact .any _
 | fv _ _ h=>exact .fv _ _ (h.mono (Same.refl X w) hX)
 | nilsl=>exact .nilsl
 | clip a n xs h=>exact .clip a n xs (h.mono (Same.refl X w) hX)
 | ptr id i off g p hp hg=>exact .ptr (f id) i off g p (hρ _ _ hp) hg
 | lsl0 id p hp hg=>exact .lsl0 (f id) p (hρ _ _ hp) hg
 | lsl id off len o g p hp hg hl ho=>exact .lsl (f id) off len o g p (hρ _ _ hp) hg hl ho
 | agg=>cases h1
 | tup=>cases h1
 | tab id g p hp hg=>exact .tab (f id) g p (hρ _ _ hp) hg
theorem PRd.reloc {w:World} {X X':Nat->Prop} {ρ ρ':Places} {u:Value} {x:PV} (f:Nat->Nat) (h:PRd w X ρ u x) (hX: ∀ b,b<w.heap.size->X' b->X b) (hρ: ∀ (j:Nat) p,ρ[j]?=some (some p)->ρ'[f j]?=some (some p)):
 PRd w X' ρ' u (reloc f x):=by
 have hagg: ∀ (us:Array Value) (cs:List PV),us.size=cs.length->(∀ (i:Nat) u,us[i]?=some u->u.oneCell'=true)->(∀ (i:Nat) u c,us[i]?=some u->cs[i]?=some c->PRd w X ρ u c)->PRd w X' ρ' (.agg us) (.agg (cs.map (AM.reloc1 f))):=by
  intro us cs hn h1 hr;refine .agg us _ (by simpa using hn) h1 (fun i u y hu hy=>?_);rw[List.getElem?_map,Option.map_eq_some_iff] at hy;obtain⟨z,hz,rfl⟩:=hy;exact(hr i u z hu hz).reloc1 f hX hρ (h1 i u hu)
 cases h with
 | any=>exact .any _
 | fv _ _ h=>exact .fv _ _ (h.mono (Same.refl X w) hX)
 | nilsl=>exact .nilsl
 | clip a n xs h=>exact .clip a n xs (h.mono (Same.refl X w) hX)
 | ptr id i off g p hp hg=>exact .ptr (f id) i off g p (hρ _ _ hp) hg
 | lsl0 id p hp hg=>exact .lsl0 (f id) p (hρ _ _ hp) hg
 | lsl id off len o g p hp hg hl ho=>exact .lsl (f id) off len o g p (hρ _ _ hp) hg hl ho
 | agg us cs hn h1 hr=>exact hagg us cs hn h1 hr
 | tup us cs hn hr=>
  refine .tup us _ (by simpa using hn) (fun i u y hu hy=>?_);rw[List.getElem?_map,Option.map_eq_some_iff] at hy;obtain⟨z,hz,rfl⟩:=hy;have hz2:=hr i u z hu hz;cases hz2 with
  | any=>exact .any _
  | fv _ _ h=>exact .fv _ _ (h.mono (Same.refl X w) hX)
  | nilsl=>exact .nilsl
  | clip a n xs h=>exact .clip a n xs (h.mono (Same.refl X w) hX)
  | ptr id i off g p hp hg=>exact .ptr (f id) i off g p (hρ _ _ hp) hg
  | lsl0 id p hp hg=>exact .lsl0 (f id) p (hρ _ _ hp) hg
  | lsl id off len o g p hp hg hl ho=>exact .lsl (f id) off len o g p (hρ _ _ hp) hg hl ho
  | agg us cs hn h1 hr=>exact hagg us cs hn h1 hr
  | tup us cs hn hr=>exact .any _
  | tab id g p hp hg=>exact .tab (f id) g p (hρ _ _ hp) hg
 | tab id g p hp hg=>exact .tab (f id) g p (hρ _ _ hp) hg
theorem ObRd.keep {w w':World} {X X':Nat->Prop} {ρ ρ':Places} {p:Place} {o:Ob} (h:ObRd w X ρ p o) (hs:Same X w w') (hX: ∀ b,b<w.heap.size->X' b->X b) (hρ:ρ.Le ρ')
 (hblk:o.alive-> ∀ g,p.b=some g->g<w.heap.size->w'.heap[g]?=w.heap[g]?/\(X' g↔X g)):ObRd w' X' ρ' p o:=by
 cases o with
 | dead=>trivial
 | row rw xs=>
  obtain⟨⟨hpos,hlen,us,hus,hc⟩,hf⟩:=h;refine⟨⟨hpos,hlen,us,?_,fun i j x y hx hy=>?_⟩,fun g hg=>?_⟩
  ·refine⟨hus.1,?_⟩;rcases hus.2 with h1 | ⟨g,cap,cur,h1,h2,h3,h4⟩
   ·exact .inl h1
   ·refine .inr ⟨g,cap,cur,h1,h2,?_,h4⟩;have hpb:p.b=some g:=by
     unfold Place.val at h1;cases hb:p.b with
     | none=>rw[hb] at h1;cases h1
     | some g'=>rw[hb] at h1;cases h1;rfl
    rw[(hblk trivial g hpb (Array.getElem?_eq_some_iff.1 h3).1).1];exact h3
  ·obtain⟨u,hu,hfu⟩:=hc i j x y hx hy;exact⟨u,hu,hfu.mono hs hX⟩
  ·have hlt:=ownsRow_block hus hg;rw[(hblk trivial g hg hlt).2];exact hf g hg
 | box rw cs=>
  obtain⟨⟨g,us,hg,hh,hsz,h1,hc⟩,hf⟩:=h;have hlt:g<w.heap.size:=(Array.getElem?_eq_some_iff.1 hh).1;refine⟨⟨g,us,hg,by rw[(hblk trivial g hg hlt).1];exact hh,hsz,h1,fun i u x hu hx=>(hc i u x hu hx).mono hs hX hρ⟩,fun g2 hg2=>?_⟩;rw[hg] at hg2;cases hg2;rw[(hblk trivial g hg hlt).2];exact hf g hg
 | tab n es=>
  obtain⟨⟨hks,g,clock,vs,hg,hh,hsz,hnd,hc⟩,hf⟩:=h;have hlt:g<w.heap.size:=(Array.getElem?_eq_some_iff.1 hh).1;refine⟨⟨hks,g,clock,vs,hg,by rw[(hblk trivial g hg hlt).1];exact hh,hsz,hnd,fun i e k v he hv=>?_⟩,fun g2 hg2=>?_⟩
  ·obtain⟨a1,a2,a3⟩:=hc i e k v he hv;exact⟨a1,a2,a3.mono hs hX (Places.Le.refl [])⟩
  ·rw[hg] at hg2;cases hg2;exact(hblk trivial g hg hlt).2.2 (hf g hg)
theorem Ob.alive_of_rw {o:Ob} (h:o.rw=true):o.alive:=by
 cases o with
 | dead=>cases h
 | row=>trivial
 | box=>trivial
 | tab=>trivial
theorem relocOb_rw (f:Nat->Nat) (o:Ob):(relocOb f o).rw=o.rw:=by cases o<;>rfl
theorem ObRd.moved {w:World} {X X':Nat->Prop} {ρ ρ':Places} {p:Place} {o:Ob} (f:Nat->Nat) (h:ObRd w X ρ p o) (hX: ∀ b,b<w.heap.size->X' b->X b) (hρ: ∀ (j:Nat) p,ρ[j]?=some (some p)->ρ'[f j]?=some (some p))
 (hblk:o.alive-> ∀ g,p.b=some g->(X' g↔X g)):ObRd w X' ρ' p (relocOb f o):=by
 cases o with
 | dead=>trivial
 | row rw xs=>
  obtain⟨⟨hpos,hlen,us,hus,hc⟩,hf⟩:=h;refine⟨⟨hpos,hlen,us,hus,fun i j x y hx hy=>?_⟩,fun g hg=>?_⟩
  ·obtain⟨u,hu,hfu⟩:=hc i j x y hx hy;exact⟨u,hu,hfu.mono (Same.refl X w) hX⟩
  ·rw[hblk trivial g hg];exact hf g hg
 | box rw cs=>
  obtain⟨⟨g,us,hg,hh,hsz,h1,hc⟩,hf⟩:=h;refine⟨⟨g,us,hg,hh,by simpa using hsz,h1,fun i u x hu hx=>?_⟩,fun g2 hg2=>?_⟩
  ·rw[List.getElem?_map,Option.map_eq_some_iff] at hx;obtain⟨y,hy,rfl⟩:=hx;exact(hc i u y hu hy).reloc1 f hX hρ (h1 i u hu)
  ·rw[hblk trivial g2 hg2];exact hf g2 hg2
 | tab n es=>
  obtain⟨⟨hks,g,clock,vs,hg,hh,hsz,hnd,hc⟩,hf⟩:=h;refine⟨⟨hks,g,clock,vs,hg,hh,hsz,hnd,fun i e k v he hv=>?_⟩,fun g2 hg2=>(hblk trivial g2 hg2).2 (hf g2 hg2)⟩;obtain⟨a1,a2,a3⟩:=hc i e k v he hv;exact⟨a1,a2,a3.mono (Same.refl X w) hX (Places.Le.refl [])⟩
theorem call_core {c c1:Ctx} {w w':World} {X1 X2:Nat->Prop} {ρ ρ2 ρ3:Places} {F F' H1:List Ob} (f:Nat->Nat) (hc1:c1.w0=w) (h:HRd c w X1 ρ F) (hk1:Keeps c1 w') (h2:HRd c1 w' X2 ρ2 H1)
 (hXo: ∀ b,X1 b-> ¬c1.M b->c1.Xo b) (hMX: ∀ b,c1.M b->X1 b) (hMown: ∀ b,c1.M b->(c.w0.heap.size<=b\/c.M b)/\b<w.heap.size)
 (hold: ∀ (i:Nat) p o g,(∀ j,j<H1.length->f j≠i)->ρ[i]?=some (some p)->F[i]?=some o->o.alive->p.b=some g-> ¬c1.M g)
 (hnew: ∀ (j:Nat) p g,ρ2[j]?=some (some p)->p.b=some g->w.heap.size<=g\/c1.M g)
 (hlen:ρ3.length=F'.length) (hF1: ∀ (j:Nat) o,H1[j]?=some o->F'[f j]?=some (relocOb f o)) (hF2: ∀ i,(∀ j,j<H1.length->f j≠i)->F'[i]?=F[i]?)
 (hρ1: ∀ j,j<H1.length->ρ3[f j]?=ρ2[j]?) (hρ2: ∀ i,(∀ j,j<H1.length->f j≠i)->ρ3[i]?=ρ[i]?) (hle:ρ.Le ρ3):
 ∃ X3,HRd c w' X3 ρ3 F'/\Stp c w w' X1 X3 ρ ρ3/\ ∀ u x,PRd w' X2 ρ2 u x->PRd w' X3 ρ3 u (reloc f x):=by
 subst hc1
 let X3 (b:Nat):Prop:=(b<c1.w0.heap.size/\X1 b/\ ¬c1.M b)\/((c1.M b\/c1.w0.heap.size<=b)/\X2 b)
 have hsame:Same X1 c1.w0 w':=⟨hk1.size,fun b hb hx=>hk1.block b hb (fun hm=>hx (hMX b hm))⟩
 have hsub1: ∀ b,b<c1.w0.heap.size->X3 b->X1 b:=by
  intro b hb hx;rcases hx with⟨_,hx,_⟩ | ⟨hm | hm,_⟩
  ·exact hx
  ·exact hMX b hm
  ·omega
 have hsub2: ∀ b,X3 b->X2 b:=by
  intro b hx;rcases hx with⟨_,hx,hm⟩ | ⟨_,hx⟩
  ·exact h2.xo b (hXo b hx hm)
  ·exact hx
 have hρ21: ∀ (j:Nat) p,ρ2[j]?=some (some p)->ρ3[f j]?=some (some p):=by
  intro j p hj;rw[hρ1 j (by rw[<-h2.len];exact(List.getElem?_eq_some_iff.1 hj).1)];exact hj
 have hcase: ∀ i,(∃ j,j<H1.length/\f j=i)\/(∀ j,j<H1.length->f j≠i):=by
  intro i;by_cases he: ∃ j,j<H1.length/\f j=i
  ·exact .inl he
  ·exact .inr fun j hj hf=>he ⟨j,hj,hf⟩
 have hfl: ∀ (j:Nat) p g,ρ2[j]?=some (some p)->p.b=some g->(X3 g↔X2 g):=by
  intro j p g hp hg;constructor
  ·exact hsub2 g
  ·intro hx;rcases hnew j p g hp hg with h3 | h3
   ·exact .inr ⟨.inr h3,hx⟩
   ·exact .inr ⟨.inl h3,hx⟩
 have hob1: ∀ (j:Nat) o,H1[j]?=some o-> ∀ o',F'[f j]?=some o'->o'=relocOb f o:=fun j o hj o' ho'=>by
  rw[hF1 j o hj] at ho';cases ho';rfl
 have get1: ∀ j,j<H1.length-> ∃ o,H1[j]?=some o:=fun j hj=>⟨H1[j],by simp[hj]⟩
 refine⟨X3,⟨hlen,?_,?_,?_,?_,?_,qnb h.ge hk1.size,h.base.trans hle⟩,⟨hsame,hsub1,hle,fun hk=>?_⟩,fun u x hu=>hu.reloc f (fun b _=>hsub2 b) hρ21⟩
 ·intro i p o hp ho
  rcases hcase i with⟨j,hj,rfl⟩ | hno
  ·obtain⟨o2,ho2⟩:=get1 j hj
   have:=hob1 j o2 ho2 o ho
   subst this
   rw[hρ1 j hj] at hp
   exact(h2.ob j p o2 hp ho2).moved f (fun b _=>hsub2 b) hρ21 (fun _ g hg=>hfl j p g hp hg)
  ·rw[hρ2 i hno] at hp
   rw[hF2 i hno] at ho
   refine(h.ob i p o hp ho).keep hsame hsub1 hle (fun ha g hg hlt=>?_)
   have hm:=hold i p o g hno hp ho ha hg
   exact⟨hk1.block g hlt hm,⟨hsub1 g hlt,fun hx=> .inl ⟨hlt,hx,hm⟩⟩⟩
 ·intro i k p q o r g hp hq ho hr ho1 hr1 hb1 hb2
  rcases hcase i with⟨j,hj,rfl⟩ | hno
  ·obtain⟨o2,ho2⟩:=get1 j hj
   have:=hob1 j o2 ho2 o ho
   subst this
   rw[hρ1 j hj] at hp
   rw[relocOb_rw] at ho1
   rcases hcase k with⟨j',hj',rfl⟩ | hno'
   ·obtain⟨r2,hr2⟩:=get1 j' hj'
    have:=hob1 j' r2 hr2 r hr
    subst this
    rw[hρ1 j' hj'] at hq
    rw[relocOb_rw] at hr1
    rw[h2.inj j j' p q o2 r2 g hp hq ho2 hr2 ho1 hr1 hb1 hb2]
   ·rw[hρ2 k hno'] at hq
    rw[hF2 k hno'] at hr
    have hra:r.alive:=Ob.alive_of_rw hr1
    have h3:=hold k q r g hno' hq hr hra hb2
    have h4:=(h.own k q r g hq hr hr1 hb2).2
    rcases hnew j p g hp hb1 with h5 | h5
    ·omega
    ·exact absurd h5 h3
  ·rw[hρ2 i hno] at hp
   rw[hF2 i hno] at ho
   have hoa:o.alive:=Ob.alive_of_rw ho1
   rcases hcase k with⟨j',hj',rfl⟩ | hno'
   ·obtain⟨r2,hr2⟩:=get1 j' hj'
    rw[hρ1 j' hj'] at hq
    have h3:=hold i p o g hno hp ho hoa hb1
    have h4:=(h.own i p o g hp ho ho1 hb1).2
    rcases hnew j' q g hq hb2 with h5 | h5
    ·omega
    ·exact absurd h5 h3
   ·rw[hρ2 k hno'] at hq
    rw[hF2 k hno'] at hr
    exact h.inj i k p q o r g hp hq ho hr ho1 hr1 hb1 hb2
 ·intro i p o g hp ho ho1 hb1
  rcases hcase i with⟨j,hj,rfl⟩ | hno
  ·obtain⟨o2,ho2⟩:=get1 j hj
   have:=hob1 j o2 ho2 o ho
   subst this
   rw[hρ1 j hj] at hp
   rw[relocOb_rw] at ho1
   have h3:=h2.own j p o2 g hp ho2 ho1 hb1
   refine⟨?_,h3.2⟩
   rcases hnew j p g hp hb1 with h5 | h5
   ·left;have:=h.ge;omega
   ·exact(hMown g h5).1
  ·rw[hρ2 i hno] at hp
   rw[hF2 i hno] at ho
   have h3:=h.own i p o g hp ho ho1 hb1
   exact⟨h3.1,Nat.lt_of_lt_of_le h3.2 hk1.size⟩
 ·intro b hb
  have h3:=c.hxo b hb
  refine .inl ⟨h.xlt b (h.xo b hb),h.xo b hb,fun hm=>?_⟩
  rcases(hMown b hm).1 with h4 | h4
  ·omega
  ·exact h3.2 h4
 ·intro b hb
  rcases hb with⟨hb,_⟩ | ⟨_,hb⟩
  ·exact Nat.lt_of_lt_of_le hb hk1.size
  ·exact h2.xlt b hb
 ·refine⟨hk1.os.trans hk.os,hk1.tape.trans hk.tape,hk1.output.trans hk.output,qnb hk.size hk1.size,fun b hb hm=>?_⟩
  rw[hk1.block b (Nat.lt_of_lt_of_le hb hk.size) (fun hm1=>?_)]
  ·exact hk.block b hb hm
  ·rcases(hMown b hm1).1 with h4 | h4
   ·omega
   ·exact hm h4
theorem ObRd.rwX {w:World} {X:Nat->Prop} {ρ:Places} {p:Place} {o:Ob} (h:ObRd w X ρ p o) (hr:o.rw=true) {g:Nat} (hg:p.b=some g):X g:=by
 cases o with
 | dead=>cases hr
 | row rw xs=>exact(h.2 g hg).1 hr
 | box rw cs=>exact(h.2 g hg).1 hr
 | tab n es=>exact h.2 g hg
theorem ObRd.roX {w:World} {X:Nat->Prop} {ρ:Places} {p:Place} {o:Ob} (h:ObRd w X ρ p o) (ha:o.alive) (hr:o.rw=false) {g:Nat} (hg:p.b=some g): ¬X g:=by
 intro hx;cases o with
 | dead=>exact ha
 | row rw xs=>have:=(h.2 g hg).2 hx;simp only[Ob.rw] at hr;rw[hr] at this;cases this
 | box rw cs=>have:=(h.2 g hg).2 hx;simp only[Ob.rw] at hr;rw[hr] at this;cases this
 | tab n es=>cases hr
theorem ObRd.closed {w:World} {X:Nat->Prop} {ρ ρ':Places} {p:Place} {o:Ob} (h:ObRd w X ρ p o) (hc:o.closed):ObRd w X ρ' p o:=by
 cases o with
 | dead=>trivial
 | row rw xs=>exact h
 | tab n es=>exact h
 | box rw cs=>
  obtain⟨⟨g,us,hg,hh,hs,h1,hr⟩,hf⟩:=h;refine⟨⟨g,us,hg,hh,hs,h1,fun i u x hu hx=>?_⟩,hf⟩;obtain⟨y,rfl⟩:=hc x (mem_of_getElem? hx);cases hr i u _ hu hx with
  | fv _ _ h=>exact .fv _ _ h
theorem fzB_other {H:List Ob} {id:Nat} {x:PV} (h:x.refsTo id=false):fzB H id x=fzA H x/\idsB H id x=idsA H x:=by
 cases x<;>simp only[PV.refsTo,qx,ne_eq] at h<;>simp[fzB,idsB,h]
theorem fzBs_get {H:List Ob} {id:Nat}: ∀ {xs ys:List PV},fzBs H id xs=some ys->ys.length=xs.length/\ ∀ (i:Nat) y,ys[i]?=some y-> ∃ x,xs[i]?=some x/\fzB H id x=some y
 | [],ys,h=>by simp[fzBs] at h;subst h;simp
 | x::xs,ys,h=>by
  simp only[fzBs] at h;split at h
  ·rename_i y ys' h1 h2;cases h;obtain⟨hl,hg⟩:=fzBs_get h2;refine⟨by simp[hl],fun i z hz=>?_⟩;cases i with
   | zero=>simp at hz;subst hz;exact⟨x,rfl,h1⟩
   | succ i=>simp at hz ⊢;exact hg i z hz
  ·cases h
theorem fzBs_ids {H:List Ob} {id:Nat}: ∀ {xs ys:List PV},fzBs H id xs=some ys-> ∀ j∈xs.flatMap (idsB H id),j<H.length
 | [],ys,h=>by simp
 | x::xs,ys,h=>by
  simp only[fzBs] at h;split at h
  ·rename_i y ys' h1 h2;intro j hj;rw[List.flatMap_cons,qr] at hj;rcases hj with hj | hj
   ·cases hr:x.refsTo id with
    | false=>
     obtain⟨e1,e2⟩:=fzB_other (H:=H) hr;rw[e1] at h1;rw[e2] at hj;exact fzA_ids h1 j hj
    | true=>cases x<;>simp[PV.refsTo] at hr<;>simp[idsB,hr] at hj
   ·exact fzBs_ids h2 j hj
  ·cases h
theorem fzBs_rd {c:Ctx} {w:World} {X X':Nat->Prop} {ρ:Places} {F H:List Ob} (h:HRd c w X ρ F) (hH: ∀ (j:Nat) o,H[j]?=some o->F[j]?=some o) {vs:Array Value} {xs ys:List PV} {id:Nat} {p:Place} (hp:ρ[id]?=some (some p))
 (hv:PRds w X ρ vs xs) (hf:fzBs H id xs=some ys) (hX: ∀ b,X' b->X b)
 (hn: ∀ j∈xs.flatMap (idsB H id),∀ p o g,ρ[j]?=some (some p)->F[j]?=some o->o.alive->p.b=some g-> ¬X' g):PRds w X' [some p] vs ys:=by
 obtain⟨hl,hg⟩:=fzBs_get hf
 refine⟨by rw[hl];exact hv.1,fun i v y hi hy=>?_⟩
 obtain⟨x,hx,hfx⟩:=hg i y hy
 have hvx:=hv.2 i v x hi hx
 cases hr:x.refsTo id with
 | false=>
  obtain⟨e1,e2⟩:=fzB_other (H:=H) hr;rw[e1] at hfx;refine fzA_rd h hH [some p] hvx hfx hX (fun k hk=>hn k ?_);rw[List.mem_flatMap];exact⟨x,mem_of_getElem? hx,by rw[e2];exact hk⟩
 | true=>
  cases hvx with
  | ptr j i off g q hq hg=>
   simp only[PV.refsTo,beq_iff_eq] at hr;subst hr;rw[hp] at hq;cases hq;simp only[fzB,if_true,qo] at hfx;subst hfx;exact .ptr 0 i off g p rfl hg
  | lsl0 j q hq hg=>
   simp only[PV.refsTo,beq_iff_eq] at hr;subst hr;rw[hp] at hq;cases hq;simp only[fzB,if_true,qo] at hfx;subst hfx;exact .lsl0 0 p rfl hg
  | lsl j off len o g q hq hg hl ho=>
   simp only[PV.refsTo,beq_iff_eq] at hr;subst hr;rw[hp] at hq;cases hq;simp only[fzB,if_true,qo] at hfx;subst hfx;exact .lsl 0 off len o g p rfl hg hl ho
  | _=>simp[PV.refsTo] at hr
theorem call_sound {c:Ctx} {w:World} {X:Nat->Prop} {ρ:Places} {H D R:List Ob} {k:FuncId} {args:List PV} {vs:Array Value} {v:PV} {H':List Ob} (h:HRd c w X ρ (H++(D++R)))
 (hD: ∀ id,H.length<=id->id<H.length+D.length->ρ[id]?=some none) (hvs:PRds w X ρ vs args) (hcr:CallRel P H k args v H') (hlen:H'.length=H.length+D.length):
 Goes P k/\Calls P k vs w fun e w'=> ∃ u X' ρ',e= .returned u/\Stp c w w' X X' ρ ρ'/\w.drawn<=w'.drawn/\HRd c w' X' ρ' (H'++R)/\PRd w' X' ρ' u v/\ ∀ id,(id<H.length\/H.length+D.length<=id)->ρ'[id]?=ρ[id]?:=by
 cases hcr with
 | pure args' obs res hf hd=>
  obtain⟨hgo,hd⟩:=hd;refine⟨hgo,?_⟩;unfold shutAs at hlen ⊢;rw[qe,shutIds_length,List.length_map] at hlen;have hDl:D.length=obs.length:=by omega
  have hids:=fzAs_ids hf;obtain⟨X1,h1,hs1,hn1⟩:=h.shutIds (args.flatMap (idsA H));rw[shutIds_append _ hids] at h1;have hSl:(shutIds (args.flatMap (idsA H)) H).length=H.length:=shutIds_length _ _;generalize hS:shutIds (args.flatMap (idsA H)) H=S at*;have hargs:PRds w X1 [] vs args':=fzAs_rd h look_append [] hvs hf hs1 hn1;let c1:Ctx:=⟨w,fun _=>False,X1,[],fun b hb=>⟨h1.xlt b hb,fun hm=>hm⟩⟩;have h01:HRd c1 w X1 [] []:=⟨rfl,by simp,by simp,by simp,fun b hb=>hb,h1.xlt,qp _,Places.Le.refl _⟩;refine(hd c1 X1 [] vs h01 (fun b hb=>hb.elim) hargs).mono ?_;rintro e w' ⟨u,X2,ρ2,rfl,hk1,h2,hu,_,hfresh⟩;have hl2:ρ2.length=obs.length:=h2.len;have hl1:ρ.length=H.length+(D.length+R.length):=by rw[h1.len];simp[hSl]
  let ρ3:Places:=ρ.take H.length++ρ2++ρ.drop (H.length+obs.length);have hg3: ∀ i,ρ3[i]?=if i<H.length then ρ[i]? else if i<H.length+obs.length then ρ2[i - H.length]? else ρ[i]?:=by
   intro i;have:=splice_get (l:=ρ) (new:=ρ2) (off:=H.length) (by omega) i;simp only[splice,hl2] at this;exact this
  have hF: ∀ i,((S++obs.map (relocOb (H.length+ ·)))++R)[i]?=if i<H.length then(S++(D++R))[i]? else if i<H.length+obs.length then(obs.map (relocOb (H.length+ ·)))[i - H.length]? else(S++(D++R))[i]?:=by
   intro i;by_cases hi:i<H.length
   ·rw[if_pos hi,append_assoc,qi (by omega),qi (by omega)]
   ·rw[if_neg hi];by_cases hi2:i<H.length+obs.length
    ·rw[if_pos hi2,append_assoc,getElem?_append_right (by omega),qi (by simp;omega),hSl]
    ·rw[if_neg hi2,append_assoc,getElem?_append_right (by omega),getElem?_append_right (by simp;omega),getElem?_append_right (by omega),getElem?_append_right (by omega)];congr 1;simp;omega
  have hout: ∀ i,(∀ j,j<obs.length->H.length+j≠i)->i<H.length\/H.length+obs.length<=i:=by
   intro i hi;by_cases h3:i<H.length
   ·exact .inl h3
   ·right;apply Nat.le_of_not_lt;intro h4;exact hi (i - H.length) (by omega) (by omega)
  have hle:ρ.Le ρ3:=by
   intro i p hp;rw[hg3];by_cases hi:i<H.length
   ·rw[if_pos hi];exact hp
   ·rw[if_neg hi];by_cases hi2:i<H.length+obs.length
    ·rw[hD i (by omega) (by omega)] at hp;cases hp
    ·rw[if_neg hi2];exact hp
  obtain⟨X3,h3,hs3,hr3⟩:=call_core (c:=c) (c1:=c1) (w:=w) (w':=w') (X1:=X1) (X2:=X2) (ρ:=ρ) (ρ2:=ρ2) (ρ3:=ρ3) (F:=S++(D++R)) (F':=(S++obs.map (relocOb (H.length+ ·)))++R) (H1:=obs) (H.length+ ·) rfl h1 hk1 h2
   (fun b hb _=>hb) (fun b hb=>hb.elim) (fun b hb=>hb.elim) (fun i p o g _ _ _ _ _ hm=>hm) (fun j p g hp hg=> .inl (hfresh j p (qsq _) hp g hg))
   (by simp[ρ3,hl2,hSl,hl1];omega)
   (fun j o hj=>by
    have hjl:=(List.getElem?_eq_some_iff.1 hj).1;rw[hF,if_neg (by omega),if_pos (by omega),Nat.add_sub_cancel_left,List.getElem?_map,hj];rfl)
   (fun i hi=>by
    rw[hF];rcases hout i hi with h5 | h5
    ·rw[if_pos h5]
    ·rw[if_neg (by omega),if_neg (by omega)])
   (fun j hj=>by rw[hg3,if_neg (by omega),if_pos (by omega),Nat.add_sub_cancel_left])
   (fun i hi=>by
    rw[hg3];rcases hout i hi with h5 | h5
    ·rw[if_pos h5]
    ·rw[if_neg (by omega),if_neg (by omega)]) hle
  refine⟨u,X3,ρ3,rfl,(Stp.same_world hs1).trans hs3,hk1.drawn,h3,hr3 u res hu,fun id hid=>?_⟩;rw[hg3];rcases hid with h5 | h5
  ·rw[if_pos h5]
  ·rw[if_neg (by omega),if_neg (by omega)]
 | lend id args' ob ob' obs res ho hrw hcl href hf hs hd=>
  obtain⟨hgo,hd⟩:=hd;refine⟨hgo,?_⟩;unfold shutBs at hlen hs ⊢;rw[qe,length_set,shutIds_length,List.length_map] at hlen;have hDl:D.length=obs.length:=by omega
  have hidl:id<H.length:=(List.getElem?_eq_some_iff.1 ho).1;obtain⟨p,hp⟩: ∃ p,ρ[id]?=some (some p):=by
   rw[qpb] at href;obtain⟨a,ha,har⟩:=href;obtain⟨i,hi⟩:=getElem?_of_mem ha;have hlt:i<vs.size:=by rw[hvs.1];exact(List.getElem?_eq_some_iff.1 hi).1
   have hpa:=hvs.2 i vs[i] a (by simp[hlt]) hi;generalize vs[i]=ui at hpa;cases hpa with
   | ptr j i off g q hq hg=>simp only[PV.refsTo,beq_iff_eq] at har;subst har;exact⟨q,hq⟩
   | lsl0 j q hq hg=>simp only[PV.refsTo,beq_iff_eq] at har;subst har;exact⟨q,hq⟩
   | lsl j off len o g q hq hg hl ho=>simp only[PV.refsTo,beq_iff_eq] at har;subst har;exact⟨q,hq⟩
   | _=>simp[PV.refsTo] at har
  have hids: ∀ j∈args.flatMap (idsB H id),j<H.length:=fzBs_ids hf;obtain⟨X1,h1,hs1,hn1⟩:=h.shutIds (args.flatMap (idsB H id));rw[shutIds_append _ hids] at h1;have hSl:(shutIds (args.flatMap (idsB H id)) H).length=H.length:=shutIds_length _ _;generalize hS:shutIds (args.flatMap (idsB H id)) H=S at*;have hSid:(S++(D++R))[id]?=some ob:=by rw[qi (by omega)];exact hs
  have hob:=h1.ob id p ob hp hSid;have hXp: ∀ g,p.b=some g->X1 g:=fun g hg=>hob.rwX hrw hg
  let c1:Ctx:=⟨w,fun b=>p.b=some b,fun b=>X1 b/\p.b≠some b,[],fun b hb=>⟨h1.xlt b hb.1,hb.2⟩⟩;have h01:HRd c1 w X1 [some p] [ob]:=by
   refine⟨rfl,?_,?_,?_,fun b hb=>hb.1,h1.xlt,qp _,fun i p hp=>by simp[c1] at hp⟩
   ·intro i q o hq ho2;cases i with
    | zero=>
     simp only[List.getElem?_cons_zero,qo] at hq ho2;subst hq;subst ho2;exact hob.closed hcl
    | succ i=>simp at hq
   ·intro i j q1 q2 o1 o2 g hq1 hq2 ho1 ho2 _ _ _ _;cases i with
    | zero=>cases j with
     | zero=>rfl
     | succ j=>simp at hq2
    | succ i=>simp at hq1
   ·intro i q o g hq ho2 ho3 hg;cases i with
    | zero=>
     simp only[List.getElem?_cons_zero,qo] at hq;subst hq;exact⟨.inr hg,(h1.own id _ ob g hp hSid hrw hg).2⟩
    | succ i=>simp at hq
  have hargs:PRds w X1 [some p] vs args':=fzBs_rd h look_append hp hvs hf hs1 hn1;refine(hd c1 X1 [some p] vs h01 (fun b hb=>⟨0,p,rfl,hb⟩) hargs).mono ?_;rintro e w' ⟨u,X2,ρ2,rfl,hk1,h2,hu,hle0,hfresh⟩;have hl2:ρ2.length=obs.length+1:=by simpa using h2.len
  have hρ20:ρ2[0]?=some (some p):=hle0 0 p rfl;have hl1:ρ.length=H.length+(D.length+R.length):=by rw[h1.len];simp[hSl]
  let ρ3:Places:=ρ.take H.length++ρ2.drop 1++ρ.drop (H.length+obs.length);have hg3: ∀ i,ρ3[i]?=if i<H.length then ρ[i]? else if i<H.length+obs.length then ρ2[i - H.length+1]? else ρ[i]?:=by
   intro i;have hdl:(ρ2.drop 1).length=obs.length:=by simp[hl2]
   have:=splice_get (l:=ρ) (new:=ρ2.drop 1) (off:=H.length) (by omega) i;simp only[splice,hdl] at this;rw[this];simp only[List.getElem?_drop,Nat.add_comm 1]
  have hF: ∀ i,((S.set id (relocOb (lent id H.length) ob')++obs.map (relocOb (lent id H.length)))++R)[i]?=if i=id then some (relocOb (lent id H.length) ob') else if i<H.length then(S++(D++R))[i]? else
   if i<H.length+obs.length then(obs.map (relocOb (lent id H.length)))[i - H.length]? else(S++(D++R))[i]?:=by
   intro i
   by_cases hi0:i=id
   ·subst hi0
    rw[if_pos rfl,append_assoc,qi (by simp;omega),qv (by omega)]
   ·rw[if_neg hi0]
    by_cases hi:i<H.length
    ·rw[if_pos hi,append_assoc,qi (by simp;omega),getElem?_set_ne (Ne.symm hi0),qi (by omega)]
    ·rw[if_neg hi]
     by_cases hi2:i<H.length+obs.length
     ·rw[if_pos hi2,append_assoc,getElem?_append_right (by simp;omega),qi (by simp;omega),length_set,hSl]
     ·rw[if_neg hi2,append_assoc,getElem?_append_right (by simp;omega),getElem?_append_right (by simp;omega),getElem?_append_right (by omega),getElem?_append_right (by omega)]
      congr 1
      simp
      omega
  have hout: ∀ i,(∀ j,j<(ob'::obs).length->lent id H.length j≠i)->i≠id/\(i<H.length\/H.length+obs.length<=i):=by
   intro i hi;refine⟨fun he=>hi 0 (by simp) he.symm,?_⟩;by_cases h3:i<H.length
   ·exact .inl h3
   ·right;apply Nat.le_of_not_lt;intro h4;exact hi (i - H.length+1) (by simp;omega) (by simp only[lent];omega)
  have hle:ρ.Le ρ3:=by
   intro i q hq;rw[hg3];by_cases hi:i<H.length
   ·rw[if_pos hi];exact hq
   ·rw[if_neg hi];by_cases hi2:i<H.length+obs.length
    ·rw[hD i (by omega) (by omega)] at hq;cases hq
    ·rw[if_neg hi2];exact hq
  obtain⟨X3,h3,hs3,hr3⟩:=call_core (c:=c) (c1:=c1) (w:=w) (w':=w') (X1:=X1) (X2:=X2) (ρ:=ρ) (ρ2:=ρ2) (ρ3:=ρ3) (F:=S++(D++R)) (F':=(S.set id (relocOb (lent id H.length) ob')++obs.map (relocOb (lent id H.length)))++R) (H1:=ob'::obs) (lent id H.length) rfl h1 hk1 h2
   (fun b hb hm=>⟨hb,hm⟩) (fun b hb=>hXp b hb) (fun b hb=>h1.own id p ob b hp hSid hrw hb)
   (fun i q o g hi hq ho2 ha hg hm=>by
    have hne:=(hout i hi).1;cases hro:o.rw with
    | true=>exact hne (h1.inj i id q p o ob g hq hp ho2 hSid hro hrw hg hm)
    | false=>
     have hfl:=h1.ob i q o hq ho2;exact(hfl.roX ha hro hg) (hXp g hm))
   (fun j q g hq hg=>by
    cases j with
    | zero=>rw[hρ20] at hq;cases hq;exact .inr hg
    | succ j=>exact .inl (hfresh (j+1) q (by simp) hq g hg))
   (by simp[ρ3,hl2,hSl,hl1];omega)
   (fun j o hj=>by
    have hjl:=(List.getElem?_eq_some_iff.1 hj).1;cases j with
    | zero=>
     show((S.set id (relocOb (lent id H.length) ob')++obs.map (relocOb (lent id H.length)))++R)[id]?=_;rw[hF,if_pos rfl];simp at hj;rw[hj]
    | succ j=>
     simp only[length_cons] at hjl;show((S.set id (relocOb (lent id H.length) ob')++obs.map (relocOb (lent id H.length)))++R)[H.length+j]?=_;rw[hF,if_neg (show¬(H.length+j=id) by omega),if_neg (show¬(H.length+j<H.length) by omega),if_pos (show H.length+j<H.length+obs.length by omega),Nat.add_sub_cancel_left,List.getElem?_map];simp at hj;rw[hj];rfl)
   (fun i hi=>by
    rw[hF];obtain⟨h4,h5 | h5⟩:=hout i hi
    ·rw[if_neg h4,if_pos h5]
    ·rw[if_neg h4,if_neg (by omega),if_neg (by omega)])
   (fun j hj=>by
    cases j with
    | zero=>
     show ρ3[id]?=_;rw[hg3,if_pos hidl,hp,hρ20]
    | succ j=>
     simp only[length_cons] at hj;show ρ3[H.length+j]?=_;rw[hg3,if_neg (by omega),if_pos (by omega),Nat.add_sub_cancel_left])
   (fun i hi=>by
    rw[hg3];obtain⟨h4,h5 | h5⟩:=hout i hi
    ·rw[if_pos h5]
    ·rw[if_neg (by omega),if_neg (by omega)]) hle
  refine⟨u,X3,ρ3,rfl,(Stp.same_world hs1).trans hs3,hk1.drawn,h3,hr3 u res hu,fun j hj=>?_⟩;rw[hg3];rcases hj with h5 | h5
  ·rw[if_pos h5]
  ·rw[if_neg (by omega),if_neg (by omega)]
end
end Go.AM
namespace Go.AM
section
variable {P:Program} {T:Tab}
theorem opRes_len {H:List Ob} {ρ:Operand->PV} {op:Op} {r:Res} (h:opRes T H ρ op=some r):H.length<=r.heap.length:=by
 unfold opRes at h;cases op<;>simp only[Res.pure,Res.if] at h
 all_goals repeat' (split at h)
 all_goals first
  | (cases h;done)
  | (cases h;simp[shutAll,shutIds_length];done)
  | skip
 all_goals
  rename_i hst;cases h;unfold storeAt at hst
  repeat' (split at hst)
  all_goals first
   | (cases hst;done)
   | (cases hst;simp[shutAll,shutIds_length])
theorem biRes_len {H:List Ob} {b:Builtin} {ts:List TypeId} {vs:List PV} {r:Res} (h:biRes T H b ts vs=some r):H.length<=r.heap.length:=by
 unfold biRes at h;simp only[Res.pure] at h
 repeat' (split at h)
 all_goals first
  | (cases h;done)
  | (cases h;simp)
theorem callRel_len {H:List Ob} {k:FuncId} {args:List PV} {v:PV} {H':List Ob} (h:CallRel P H k args v H'):H.length<=H'.length:=by
 cases h with
 | pure=>simp[shutAs,shutIds_length]
 | lend=>simp[shutBs,shutIds_length]
theorem HRd.room {c:Ctx} {w:World} {X:Nat->Prop} {ρ:Places} {H:List Ob} (h:HRd c w X ρ H) (n:Nat):
 HRd c w X (ρ++replicate n none) (H++(replicate n .dead++[]))/\ ∀ id,H.length<=id->id<H.length+(replicate n Ob.dead).length->(ρ++replicate n none)[id]?=some none:=by
 have h1:=h.extend (replicate n .dead)
 rw[qib] at h1
 refine⟨by simpa using h1,fun id h2 h3=>?_⟩
 rw[qib] at h3
 rw[getElem?_append_right (by rw[h.len];exact h2),List.getElem?_replicate,if_pos (by rw[h.len];omega)]
theorem EnvRd.mono {w:World} {X:Nat->Prop} {ρ ρ':Places} {t:Array Value} {env:List PV} (h:EnvRd w X ρ t env) (hρ:ρ.Le ρ'):EnvRd w X ρ' t env:=
 ⟨h.1,fun i v x hv hx=>(h.2 i v x hv hx).mono (Same.refl X w) (fun _ _ h=>h) hρ⟩
theorem EnvRd.put {w:World} {X:Nat->Prop} {ρ:Places} {a:Act} {env:List PV} (h:EnvRd w X ρ a.tmps env) (d:Option Nat) {u:Value} {v:PV} (hu:PRd w X ρ u v):
 EnvRd w X ρ (a.put d u).tmps (match d with | some t=>env.set t v | none=>env):=by
 cases d with
 | none=>exact h
 | some t=>
  refine⟨by simp[Act.put,h.1],fun i v' x hv hx=>?_⟩;simp only[Act.put] at hv;by_cases hi:t=i
  ·subst hi;have hlt:t<a.tmps.size:=by have:=(Array.getElem?_eq_some_iff.1 hv).1;simpa using this
   simp[hlt] at hv;have hlt':t<env.length:=by rw[<-h.1];exact hlt
   rw[qv hlt'] at hx;cases hx;subst hv;exact hu
  ·rw[Array.getElem?_setIfInBounds_ne hi] at hv;rw[getElem?_set_ne hi] at hx;exact h.2 i v' x hv hx
def After (c:Ctx) (a:Act) (env:List PV) (d:Option Nat) (K:PV->List Ob->Prop) (next:Act->World->Prop):Prop:=
 ∀ v H u w' X' ρ',K v H->HRd c w' X' ρ' H->EnvRd w' X' ρ' a.tmps env->PRd w' X' ρ' u v->Keeps c w'->next (a.put d u) w'
theorem run_callF {w:World} {o:Oper} {e:Operand->Value} {f:Operand} {args:Array Operand} {ts:Array TypeId} {k:FuncId} {u1 u2:Array Value}
 (ho:o.op= .call {callee:= .value f,args:=args,argTypes:=ts}) (hf:e f= .func (.func k) u1 u2) (hg:Goes P k):(execOp e o).run P w= .ok (.enter k (u1++args.map e++u2)) w:=by
 obtain⟨fn,cd,h1,h2,h3⟩:=hg
 unfold execOp
 simp only[ho,resolve,hf,Deferred.ofValue,Sem.run_bind,Sem.run_pure,Result.andThen_ok,invoke,callFunc,run_program,h1,h2,h3,Option.isNone_some]
 simp
theorem wpop_sound (hT:TabOk P T) {o:Oper} {c:Ctx} {a:Act} {w:World} {X:Nat->Prop} {ρ:Places} {st:St} {K:PV->List Ob->Prop} {next:Act->World->Prop} {Q:Exit->Act->World->Prop}
 (h:WPop P T o.op st K) (hh:HRd c w X ρ st.heap) (he:EnvRd w X ρ a.tmps st.env) (hk:Keeps c w) (hn:After c a st.env o.dst K next):o.wp P a w next Q:=by
 have fin: ∀ {r:Result Next} {v:PV} {H:List Ob} {ρ1:Places} {lo hi:Nat},ρ.Le ρ1->K v H->OpOK c w X ρ1 lo hi H r v->(execOp a.eval o).run P w=r->o.wp P a w next Q:=by
  intro r v H ρ1 lo hi hle hK ⟨u,w',X',ρ',hr,hs,hh',hu,_⟩ hrun;have hdr:w.drawn<=w'.drawn:=by
   rcases hr with hr | ⟨hr,_⟩
   ·exact run_drawn _ _ (hrun.trans hr)
   ·exact run_drawn _ _ (hrun.trans hr)
  have hnext:=hn v H u w' X' ρ' hK hh' ((he.mono hle).stp hs) hu ⟨hs.keeps hk.toKeepsB,qnb hk.drawn hdr⟩;unfold Oper.wp;rw[hrun];rcases hr with hr | ⟨hr,rfl⟩
  ·rw[hr];exact hnext
  ·rw[hr];exact hnext
 by_cases hcall: ∃ cl,o.op= .call cl
 ·obtain⟨cl,ho⟩:=hcall
  rw[ho] at h
  simp only[WPop,WPcall] at h
  obtain⟨callee,args,ts⟩:=cl
  cases callee with
  | builtin b=>
   simp only at h;split at h
   ·rename_i r hr;obtain⟨hc,hK⟩:=h;have hlen:=biRes_len hr;obtain⟨h1,h2⟩:=hh.room (r.heap.length - st.heap.length);have hle:=Places.Le.append ρ (replicate (r.heap.length - st.heap.length) none);have hok:=eff_bi hT b args ts (o:=o) (e:=a.eval) (ρv:=ev st.env) ho h1 h2 (fun x _=>eval_rd (he.mono hle) x) hr hc (by simp;omega);rw[append_nil] at hok;exact fin hle hK hok rfl
   ·exact h.elim
  | value f=>
   simp only at h;split at h
   ·rename_i k pre post hfn;obtain⟨v,H',hcr,hK⟩:=h;have hlen:=callRel_len hcr;obtain⟨h1,h2⟩:=hh.room (H'.length - st.heap.length);have hle:=Places.Le.append ρ (replicate (H'.length - st.heap.length) none);have hf:=eval_rd (he.mono hle) f;have hfv: ∃ u1 u2,a.eval f= .func (.func k) u1 u2/\PRds w X (ρ++replicate (H'.length - st.heap.length) none) u1 pre/\PRds w X (ρ++replicate (H'.length - st.heap.length) none) u2 post:=by
     generalize ev st.env f=pf at hf hfn;unfold fnOf at hfn;split at hfn
     ·split at hfn
      ·rename_i hz;cases hfn;refine⟨_,_,hf.litInv,⟨by simp,fun i v x hv hx=>?_⟩,⟨by simpa using hz,fun i v x hv hx=>by simp at hx⟩⟩;rw[List.getElem?_map,Option.map_eq_some_iff] at hx;obtain⟨y,hy,rfl⟩:=hx;rw[Array.getElem?_toList,hv] at hy;cases hy;exact PRd_ofValue _
      ·cases hfn
     ·cases hfn;generalize hue:a.eval f=uf at hf;cases hf with
      | fv _ _ hfr=>
       cases hfr with
       | fn _ u1 u2 c1 c2 h1 h2 r1 r2=>
        refine⟨u1,u2,rfl,⟨by simpa using h1,fun i v x hv hx=>?_⟩,⟨by simpa using h2,fun i v x hv hx=>?_⟩⟩
        ·rw[List.getElem?_map,Option.map_eq_some_iff] at hx;obtain⟨y,hy,rfl⟩:=hx;exact .fv _ _ (r1 i v y hv hy)
        ·rw[List.getElem?_map,Option.map_eq_some_iff] at hx;obtain⟨y,hy,rfl⟩:=hx;exact .fv _ _ (r2 i v y hv hy)
     ·cases hfn
    obtain⟨u1,u2,hfe,hp1,hp2⟩:=hfv;have happ: ∀ {va vb:Array Value} {xa xb:List PV},PRds w X (ρ++replicate (H'.length - st.heap.length) none) va xa->PRds w X (ρ++replicate (H'.length - st.heap.length) none) vb xb->
     PRds w X (ρ++replicate (H'.length - st.heap.length) none) (va++vb) (xa++xb):=by
     intro va vb xa xb ⟨ha1,ha2⟩ ⟨hb1,hb2⟩
     refine⟨by simp[ha1,hb1],fun i v x hv hx=>?_⟩
     by_cases hi:i<va.size
     ·rw[Array.getElem?_append_left hi] at hv
      rw[qi (by rw[<-ha1];exact hi)] at hx
      exact ha2 i v x hv hx
     ·rw[Array.getElem?_append_right (by omega)] at hv
      rw[getElem?_append_right (by rw[<-ha1];omega),<-ha1] at hx
      exact hb2 _ v x hv hx
    have hargs:PRds w X (ρ++replicate (H'.length - st.heap.length) none) (args.map a.eval) (args.toList.map (ev st.env)):=by
     refine⟨by simp,fun i v x hv hx=>?_⟩;simp at hv;obtain⟨y,hy,rfl⟩:=hv;rw[List.getElem?_map] at hx;simp only[Array.getElem?_toList,hy,Option.map_some,qo] at hx;subst hx;exact eval_rd (he.mono hle) y
    obtain⟨hgo,hcalls⟩:=call_sound h1 h2 (happ (happ hp1 hargs) hp2) hcr (by simp;omega);unfold Oper.wp;rw[run_callF ho hfe hgo];refine hcalls.mono ?_;rintro e w' ⟨u,X',ρ',rfl,hs,hdr,hh',hu,_⟩;rw[append_nil] at hh';exact hn v H' u w' X' ρ' hK hh' ((he.mono hle).stp hs) hu ⟨hs.keeps hk.toKeepsB,qnb hk.drawn hdr⟩
   ·exact h.elim
  | invoke r m=>exact h.elim
 ·have hres: ∃ r,opRes T st.heap (ev st.env) o.op=some r/\r.cond/\K r.val r.heap:=by
   unfold WPop at h;split at h
   ·rename_i cl hcl;exact absurd ⟨cl,hcl⟩ hcall
   ·split at h
    ·rename_i r hr;exact⟨r,hr,h.1,h.2⟩
    ·exact h.elim
  obtain⟨r,hr,hc,hK⟩:=hres
  have hlen:=opRes_len hr
  obtain⟨h1,h2⟩:=hh.room (r.heap.length - st.heap.length)
  have hle:=Places.Le.append ρ (replicate (r.heap.length - st.heap.length) none)
  have hok:=op_sound hT o.op (o:=o) (e:=a.eval) (ρv:=ev st.env) rfl h1 h2 (fun x _=>eval_rd (he.mono hle) x) hr hc (by simp;omega)
  rw[append_nil] at hok
  exact fin hle hK hok rfl
theorem yields_of {w:World} {X:Nat->Prop} {ρ:Places} {ops:Array Oper} {tmps:Array Value} {env:List PV} (he:EnvRd w X ρ tmps env) {j t:Nat} (hj:(ops[j]?).bind (·.dst)=some t):
 (∀ b,env.getD t .any= .fv (.lit (.bool b))->yielded ops tmps j=some b)/\(env.getD t .any= .tup []->yielded ops tmps j=none):=by
 unfold yielded
 rw[hj]
 simp only[Option.bind_some]
 have key: ∀ x,env.getD t .any=x->x≠ .any-> ∃ v,tmps[t]?=some v/\PRd w X ρ v x:=by
  intro x hx hne;rw[qa] at hx;cases hg:env[t]? with
  | none=>rw[hg] at hx;exact absurd hx.symm hne
  | some y=>
   rw[hg] at hx;simp only[Option.getD_some] at hx;subst hx;have hlt:t<tmps.size:=by rw[he.1];exact(List.getElem?_eq_some_iff.1 hg).1
   exact⟨tmps[t],by simp[hlt],he.2 t _ _ (by simp[hlt]) hg⟩
 constructor
 ·intro b hb
  obtain⟨v,hv,hp⟩:=key _ hb (by simp)
  rw[hv,hp.litInv]
 ·intro hb
  obtain⟨v,hv,hp⟩:=key _ hb (by simp)
  rw[hv]
  cases hp;rfl
theorem wpops_sound (hT:TabOk P T) {ops:Array Oper} {Q:Exit->Act->World->Prop} {c:Ctx} {K:St->Prop} (hK: ∀ st a w,K st->SRd c st a w->Q .normal a w):
 ∀ (l:List Oper) (k:Nat) (st:St) (a:Act) (w:World),(∀ j,l[j]?=ops[k+j]?)->WPops P T ops l st K->SRd c st a w->wpOps P ops Q (range' k l.length) a w
 | [],k,st,a,w,_,h,hs=>hK st a w h hs
 | o::l,k,st,a,w,hl,h,hs=>by
  have h0:ops[k]?=some o:=by simpa using(hl 0).symm
  have hl': ∀ j,l[j]?=ops[k+1+j]?:=fun j=>by
   have:=hl (j+1);rw[List.getElem?_cons_succ] at this;rw[this];congr 1;omega
  rw[length_cons,List.range'_succ];unfold wpOps;simp only[h0];obtain⟨X,ρ,hh,he,hd,hk⟩:=hs;have run: ∀ {Kp:St->Prop},WPop P T o.op st (fun v H=>WPops P T ops l (st.upd o.dst v H) K)->o.wp P a w (wpOps P ops Q (range' (k+1) l.length)) Q:=by
   intro _ hw;refine wpop_sound hT hw hh he hk (fun v H u w' X' ρ' hv hh' he' hu hk'=>?_);refine wpops_sound hT hK l (k+1) _ _ _ hl' hv ⟨X',ρ',hh',he'.put o.dst hu,?_,hk'⟩;cases o.dst<;>exact hd
  have skip:WPops P T ops l (st.upd o.dst (.tup []) st.heap) K->wpOps P ops Q (range' (k+1) l.length) (a.put o.dst undef) w:=by
   intro hw;refine wpops_sound hT hK l (k+1) _ _ _ hl' hw ⟨X,ρ,hh,he.put o.dst (.tup #[] [] rfl (by simp)),?_,hk⟩;cases o.dst<;>exact hd
  unfold WPops at h;cases hg:o.guard with
  | none=>
   simp only[hg] at h;have hwant:Region.wanted o (yielded ops a.tmps)=true:=by simp[Region.wanted,hg]
   rw[hwant];exact .inl (run (Kp:=K) h)
  | some gd=>
   obtain⟨j,want⟩:=gd;simp only[hg] at h;cases hj:(ops[j]?).bind (·.dst) with
   | none=>rw[hj] at h;exact h.elim
   | some t=>
    rw[hj] at h;simp only at h;obtain⟨hy1,hy2⟩:=yields_of (ops:=ops) he hj;split at h
    ·rename_i b hb;have hy:=hy1 b hb;by_cases hbw:b=want
     ·have hwant:Region.wanted o (yielded ops a.tmps)=true:=by simp[Region.wanted,hg,hy,hbw]
      rw[hwant];exact .inl (run (Kp:=K) (h.1 hbw))
     ·have hwant:Region.wanted o (yielded ops a.tmps)=false:=by simp[Region.wanted,hg,hy,hbw]
      rw[hwant];exact skip (h.2 (by cases b<;>cases want<;>simp_all))
    ·rename_i hb;have hy:=hy2 hb;have hwant:Region.wanted o (yielded ops a.tmps)=false:=by simp[Region.wanted,hg,hy]
     rw[hwant];exact skip h
    ·exact h.elim
theorem any_sound (hT:TabOk P T) {ops:Array Oper} {Q:Exit->Act->World->Prop} {c:Ctx} {K:St->Prop} (hK: ∀ st a w,K st->SRd c st a w->Q .normal a w):
 ∀ (n:Nat) (listed:Array Bool) (st:St) (a:Act) (w:World),WPany P T ops n listed st K->SRd c st a w->wpAny P .any ops Q n listed a w
 | 0,listed,st,a,w,h,hs=>⟨h.1,hK st a w h.2 hs⟩
 | n+1,listed,st,a,w,h,hs=>by
  refine⟨fun e=>hK st a w (h.1 e) hs,fun i hi=>?_⟩;have h2:=h.2 i hi;unfold wpOp;cases ho:ops[i]? with
  | none=>rw[ho] at h2;exact h2.elim
  | some o=>
   rw[ho] at h2;obtain⟨hg,hw⟩:=h2;have hwant:Region.wanted o (yielded ops a.tmps)=true:=by simp[Region.wanted,hg]
   simp only[hwant,if_true];obtain⟨X,ρ,hh,he,hd,hk⟩:=hs;refine .inl (wpop_sound hT hw hh he hk (fun v H u w' X' ρ' hv hh' he' hu hk'=>?_));refine any_sound hT hK n _ _ _ _ hv ⟨X',ρ',hh',he'.put o.dst hu,?_,hk'⟩;cases o.dst<;>exact hd
end
end Go.AM
namespace Go.AM
section
variable {P:Program} {T:Tab}
theorem wpop_gen (hT:TabOk P T) {o:Oper} {c:Ctx} {a:Act} {w:World} {X:Nat->Prop} {ρ:Places} {s:St} {D R:List Ob} {v:PV} {H':List Ob} {next:Act->World->Prop} {Q:Exit->Act->World->Prop}
 (h:WPop P T o.op s fun v' H''=>v'=v/\H''=H') (hh:HRd c w X ρ (s.heap++(D++R))) (hD: ∀ id,s.heap.length<=id->id<s.heap.length+D.length->ρ[id]?=some none) (hlen:H'.length=s.heap.length+D.length)
 (hops: ∀ x∈o.op.operands,PRd w X ρ (a.eval x) (ev s.env x))
 (hn: ∀ u w' X' ρ',Stp c w w' X X' ρ ρ'->w.drawn<=w'.drawn->HRd c w' X' ρ' (H'++R)->PRd w' X' ρ' u v->(∀ id,(id<s.heap.length\/s.heap.length+D.length<=id)->ρ'[id]?=ρ[id]?)->next (a.put o.dst u) w'):o.wp P a w next Q:=by
 have fin: ∀ {r:Result Next},OpOK c w X ρ s.heap.length (s.heap.length+D.length) (H'++R) r v->(execOp a.eval o).run P w=r->o.wp P a w next Q:=by
  intro r ⟨u,w',X',ρ',hr,hs,hh',hu,hout⟩ hrun;have hdr:w.drawn<=w'.drawn:=by
   rcases hr with hr | ⟨hr,_⟩
   ·exact run_drawn _ _ (hrun.trans hr)
   ·exact run_drawn _ _ (hrun.trans hr)
  have hnext:=hn u w' X' ρ' hs hdr hh' hu hout;unfold Oper.wp;rw[hrun];rcases hr with hr | ⟨hr,rfl⟩
  ·rw[hr];exact hnext
  ·rw[hr];exact hnext
 by_cases hcall: ∃ cl,o.op= .call cl
 ·obtain⟨cl,ho⟩:=hcall
  rw[ho] at h hops
  simp only[WPop,WPcall] at h
  obtain⟨callee,args,ts⟩:=cl
  cases callee with
  | builtin b=>
   simp only at h;split at h
   ·rename_i r hr;obtain⟨hc,rfl,rfl⟩:=h;exact fin (eff_bi hT b args ts (o:=o) (e:=a.eval) (ρv:=ev s.env) ho hh hD (fun x hx=>hops x (by simp[Op.operands,Call.operands];exact hx)) hr hc hlen) rfl
   ·exact h.elim
  | value f=>
   simp only at h;split at h
   ·rename_i k pre post hfn;obtain⟨v1,H1,hcr,rfl,rfl⟩:=h;have hf:=hops f (by simp[Op.operands,Call.operands]);have hfv: ∃ u1 u2,a.eval f= .func (.func k) u1 u2/\PRds w X ρ u1 pre/\PRds w X ρ u2 post:=by
     generalize ev s.env f=pf at hf hfn;unfold fnOf at hfn;split at hfn
     ·split at hfn
      ·rename_i hz;cases hfn;refine⟨_,_,hf.litInv,⟨by simp,fun i v x hv hx=>?_⟩,⟨by simpa using hz,fun i v x hv hx=>by simp at hx⟩⟩;rw[List.getElem?_map,Option.map_eq_some_iff] at hx;obtain⟨y,hy,rfl⟩:=hx;rw[Array.getElem?_toList,hv] at hy;cases hy;exact PRd_ofValue _
      ·cases hfn
     ·cases hfn;generalize hue:a.eval f=uf at hf;cases hf with
      | fv _ _ hfr=>
       cases hfr with
       | fn _ u1 u2 c1 c2 h1 h2 r1 r2=>
        refine⟨u1,u2,rfl,⟨by simpa using h1,fun i v x hv hx=>?_⟩,⟨by simpa using h2,fun i v x hv hx=>?_⟩⟩
        ·rw[List.getElem?_map,Option.map_eq_some_iff] at hx;obtain⟨y,hy,rfl⟩:=hx;exact .fv _ _ (r1 i v y hv hy)
        ·rw[List.getElem?_map,Option.map_eq_some_iff] at hx;obtain⟨y,hy,rfl⟩:=hx;exact .fv _ _ (r2 i v y hv hy)
     ·cases hfn
    obtain⟨u1,u2,hfe,hp1,hp2⟩:=hfv;have happ: ∀ {va vb:Array Value} {xa xb:List PV},PRds w X ρ va xa->PRds w X ρ vb xb->PRds w X ρ (va++vb) (xa++xb):=by
     intro va vb xa xb ⟨ha1,ha2⟩ ⟨hb1,hb2⟩;refine⟨by simp[ha1,hb1],fun i v x hv hx=>?_⟩;by_cases hi:i<va.size
     ·rw[Array.getElem?_append_left hi] at hv;rw[qi (by rw[<-ha1];exact hi)] at hx;exact ha2 i v x hv hx
     ·rw[Array.getElem?_append_right (by omega)] at hv;rw[getElem?_append_right (by rw[<-ha1];omega),<-ha1] at hx;exact hb2 _ v x hv hx
    have hargs:PRds w X ρ (args.map a.eval) (args.toList.map (ev s.env)):=by
     refine⟨by simp,fun i v x hv hx=>?_⟩;simp at hv;obtain⟨y,hy,rfl⟩:=hv;rw[List.getElem?_map] at hx;simp only[Array.getElem?_toList,hy,Option.map_some,qo] at hx;subst hx;exact hops y (by simp[Op.operands,Call.operands];exact .inr (Array.mem_of_getElem? hy))
    obtain⟨hgo,hcalls⟩:=call_sound hh hD (happ (happ hp1 hargs) hp2) hcr hlen;unfold Oper.wp;rw[run_callF ho hfe hgo];refine hcalls.mono ?_;rintro e w' ⟨u,X',ρ',rfl,hs,hdr,hh',hu,hout⟩;exact hn u w' X' ρ' hs hdr hh' hu hout
   ·exact h.elim
  | invoke r m=>exact h.elim
 ·have hres: ∃ r,opRes T s.heap (ev s.env) o.op=some r/\r.cond/\r.val=v/\r.heap=H':=by
   unfold WPop at h;split at h
   ·rename_i cl hcl;exact absurd ⟨cl,hcl⟩ hcall
   ·split at h
    ·rename_i r hr;exact⟨r,hr,h.1,h.2⟩
    ·exact h.elim
  obtain⟨r,hr,hc,rfl,rfl⟩:=hres
  exact fin (op_sound hT o.op (o:=o) (e:=a.eval) (ρv:=ev s.env) rfl hh hD hops hr hc hlen) rfl
theorem WPop_elim {op:Op} {s:St} {K:PV->List Ob->Prop} (h:WPop P T op s K): ∃ v H',WPop P T op s (fun v' H''=>v'=v/\H''=H')/\K v H':=by
 unfold WPop at h;split at h
 ·rename_i c;unfold WPcall at h;split at h
  ·rename_i b hb;split at h
   ·rename_i r hr;exact⟨r.val,r.heap,by simp only[WPop,WPcall,hb,hr];exact⟨h.1,tvq,tvq⟩,h.2⟩
   ·exact h.elim
  ·rename_i f hf;split at h
   ·rename_i k pre post hfn;obtain⟨v,H',hcr,hK⟩:=h;exact⟨v,H',by simp only[WPop,WPcall,hf,hfn];exact⟨v,H',hcr,rfl,rfl⟩,hK⟩
   ·exact h.elim
  ·exact h.elim
 ·rename_i hnc;split at h
  ·rename_i r hr;refine⟨r.val,r.heap,?_,h.2⟩;unfold WPop;split
   ·rename_i c;exact absurd rfl (hnc c)
   ·rw[hr];exact⟨h.1,rfl,rfl⟩
  ·exact h.elim
theorem WPop_len {op:Op} {s:St} {v:PV} {H':List Ob} (h:WPop P T op s fun v' H''=>v'=v/\H''=H'):s.heap.length<=H'.length:=by
 unfold WPop at h;split at h
 ·rename_i c;unfold WPcall at h;split at h
  ·split at h
   ·rename_i r hr;rw[<-h.2.2];exact biRes_len hr
   ·exact h.elim
  ·split at h
   ·obtain⟨v,H',hcr,_,rfl⟩:=h;exact callRel_len hcr
   ·exact h.elim
  ·exact h.elim
 ·split at h
  ·rename_i r hr;rw[<-h.2.2];exact opRes_len hr
  ·exact h.elim
theorem class0_sound (hT:TabOk P T) {op:Op} (h0:opClass op=0) {w:World} {X:Nat->Prop} {ρ:Places} {s:St} {v:PV} {H':List Ob} {o:Oper} (ho:o.op=op) {e:Operand->Value} (h:WPop P T op s fun v' H''=>v'=v/\H''=H')
 (hops: ∀ x∈op.operands,PRd w X ρ (e x) (ev s.env x)):H'=s.heap/\ ∃ u,(execOp e o).run P w= .ok (.value u) w/\PRd w X ρ u v:=by
 cases op<;>simp only[opClass,reduceCtorEq] at h0<;>try first | (cases h0;done) | (split at h0<;>cases h0;done)
 case move x=>
  simp only[WPop,opRes,Res.pure] at h;obtain⟨_,rfl,rfl⟩:=h;exact⟨rfl,e x,by simp[execOp,ho],hops x (by simp[Op.operands])⟩
 case assign x=>
  simp only[WPop,opRes,Res.pure] at h;obtain⟨_,rfl,rfl⟩:=h;exact⟨rfl,e x,by simp[execOp,ho],hops x (by simp[Op.operands])⟩
 case extract x ix=>
  have hx:=hops x (by simp[Op.operands]);simp only[WPop,opRes] at h;cases hv:ev s.env x with
  | tup vs=>
   rw[hv] at h hx;simp only at h;cases hvs:vs[ix]? with
   | none=>rw[hvs] at h;exact h.elim
   | some y=>
    rw[hvs] at h;simp only[Res.pure] at h;obtain⟨_,rfl,rfl⟩:=h;generalize hu:e x=u at hx;cases hx with
    | tup us _ hn hr=>
     have hlt:ix<us.size:=by rw[hn];exact(List.getElem?_eq_some_iff.1 hvs).1
     exact⟨rfl,us[ix],by simp[execOp,ho,hu,Instr.extract,Array.getElem?_eq_getElem hlt],hr ix _ _ (Array.getElem?_eq_getElem hlt) hvs⟩
  | _=>rw[hv] at h;exact h.elim
 case binOp bop t x y t'=>
  have hx:=hops x (by simp[Op.operands]);have hy:=hops y (by simp[Op.operands]);simp only[WPop] at h;split at h
  ·rename_i r hr;obtain⟨hc,rfl,rfl⟩:=h;exact pure_binOp hT bop t x y t' ho hx hy hr hc
  ·exact h.elim
end
end Go.AM
namespace Go.AM
section
variable {P:Program} {T:Tab} {ops:Array Oper}
def wantA (ops:Array Oper) (s:St) (o:Oper):Option Bool:=
 match o.guard with
 | none=>some true
 | some (j,want)=>match (ops[j]?).bind (·.dst) with
  | some t=>match s.get t with
   | .fv (.lit (.bool b))=>some (b==want)
   | .tup []=>some false
   | _=>none
  | none=>none
def Step1 (P:Program) (T:Tab) (ops:Array Oper) (o:Oper) (s s':St):Prop:=
 (wantA ops s o=some true/\ ∃ v H',(WPop P T o.op s fun v' H''=>v'=v/\H''=H')/\(isStore o.op=true\/ ∃ obs,H'=s.heap++obs)/\s'=s.upd o.dst v H')\/
 (wantA ops s o=some false/\s'=s.upd o.dst (.tup []) s.heap)
theorem runs {K:St->Prop}: ∀ (l:List Oper) (st:St),WPdraw P T ops l st K-> ∃ S:Nat->St,S 0=st/\(∀ (j:Nat) o,l[j]?=some o->Step1 P T ops o (S j) (S (j+1)))/\K (S l.length)
 | [],st,h=>⟨fun _=>st,rfl,by simp,h⟩
 | o::l,st,h=>by
  have fin: ∀ s',Step1 P T ops o st s'->WPdraw P T ops l s' K-> ∃ S:Nat->St,S 0=st/\(∀ (j:Nat) o',(o::l)[j]?=some o'->Step1 P T ops o' (S j) (S (j+1)))/\K (S (o::l).length):=by
   intro s' hs hw;obtain⟨S,h0,h1,h2⟩:=runs l s' hw;refine⟨fun j=>match j with | 0=>st | j+1=>S j,rfl,fun j o' hj=>?_,h2⟩
   cases j with
   | zero=>simp at hj;subst hj;simp only[h0];exact hs
   | succ j=>exact h1 j o' (by simpa using hj)
  unfold WPdraw at h;cases hg:o.guard with
  | none=>
   simp only[hg] at h;obtain⟨v,H',h1,h2,h3⟩:=WPop_elim h;exact fin _ (.inl ⟨by simp[wantA,hg],v,H',h1,h2,rfl⟩) h3
  | some gd=>
   obtain⟨j,want⟩:=gd;simp only[hg] at h;cases hj:(ops[j]?).bind (·.dst) with
   | none=>rw[hj] at h;exact h.elim
   | some t=>
    rw[hj] at h;simp only at h;split at h
    ·rename_i b hb;by_cases hbw:b=want
     ·obtain⟨v,H',h1,h2,h3⟩:=WPop_elim (h.1 hbw);exact fin _ (.inl ⟨by simp[wantA,hg,hj,hb,hbw],v,H',h1,h2,rfl⟩) h3
     ·exact fin _ (.inr ⟨by simp[wantA,hg,hj,hb,hbw],rfl⟩) (h.2 (by cases b<;>cases want<;>simp_all))
    ·rename_i hb;exact fin _ (.inr ⟨by simp[wantA,hg,hj,hb],rfl⟩) h
    ·exact h.elim
def Closed (ops:Array Oper) (listed:Array Bool):Prop:=
 ∀ (j:Nat) oj,ops[j]?=some oj->listed.getD j false=true-> ∀ e∈oj.after,plainEdge e=true->listed.getD e.on false=true
def GoodMasks (ops:Array Oper) (acc:List Nat):Prop:=
 ∀ (j:Nat) oj i,j<acc.length->ops[j]?=some oj->(acc.getD j 0).testBit i=true-> ∀ listed,Closed ops listed->(∀ e∈oj.after,plainEdge e=true->listed.getD e.on false=true)->listed.getD i false=true
theorem maskStep_bits (acc:List Nat): ∀ (es:List Edge) (s i:Nat),(es.foldl (fun s e=>if plainEdge e then s||| 2^e.on||| acc.getD e.on 0 else s) s).testBit i=true->
 s.testBit i=true\/ ∃ e∈es,plainEdge e=true/\(i=e.on\/(acc.getD e.on 0).testBit i=true)
 | [],s,i,h=> .inl h
 | e::es,s,i,h=>by
  rw[List.foldl_cons] at h;rcases maskStep_bits acc es _ i h with h1 | ⟨e',he',hp,h1⟩
  ·split at h1
   ·rename_i hp;simp only[Nat.testBit_or,qsb] at h1;rcases h1 with(h1 | h1) | h1
    ·exact .inl h1
    ·right;refine⟨e,by simp,hp,.inl ?_⟩;rw[Nat.testBit_two_pow] at h1;have h2:e.on=i:=by simpa using h1
     exact h2.symm
    ·exact .inr ⟨e,by simp,hp,.inr h1⟩
   ·exact .inl h1
  ·exact .inr ⟨e',by simp[he'],hp,h1⟩
theorem masks_good: ∀ (l:List Oper) (acc:List Nat),(∀ j,l[j]?=ops[acc.length+j]?)->GoodMasks ops acc->GoodMasks ops (masks l acc)
 | [],acc,_,h=>h
 | o::l,acc,hl,h=>by
  have h0:ops[acc.length]?=some o:=by simpa using(hl 0).symm
  refine masks_good l _ (fun j=>?_) ?_
  ·have:=hl (j+1);rw[List.getElem?_cons_succ] at this;rw[this];congr 1;simp;omega
  ·intro j oj i hj hoj hb listed hc hp;by_cases hlt:j<acc.length
   ·rw[qa,qi hlt,<-qa] at hb;exact h j oj i hlt hoj hb listed hc hp
   ·have hje:j=acc.length:=by simp at hj;omega
    subst hje;rw[h0] at hoj;cases hoj;simp only[qa,getElem?_append_right (qp _),Nat.sub_self,List.getElem?_cons_zero,Option.getD_some] at hb;unfold maskStep at hb;rcases maskStep_bits acc _ 0 i hb with h1 | ⟨e,he,hpe,h1⟩
    ·simp at h1
    ·have hle:=hp e (Array.mem_toList_iff.1 he) hpe;rcases h1 with rfl | h1
     ·exact hle
     ·have helt:e.on<acc.length:=by
       apply Nat.lt_of_not_le;intro hge;rw[qa,List.getElem?_eq_none hge] at h1;simp at h1
      have hes: ∃ oe,ops[e.on]?=some oe:=by
       have hlt2:acc.length<ops.size:=(Array.getElem?_eq_some_iff.1 h0).1;exact⟨ops[e.on]'(by omega),by simp[show e.on<ops.size by omega]⟩
      obtain⟨oe,hoe⟩:=hes;exact h e.on oe i helt hoe h1 listed hc (fun e' he' hpe'=>hc e.on oe hoe hle e' he' hpe')
structure DrawFacts (ops:Array Oper):Prop where
 cls: ∀ (j:Nat) oj,ops[j]?=some oj->opClass oj.op<3
 low: ∀ (j:Nat) oj,ops[j]?=some oj-> ∀ e∈oj.after,plainEdge e=true->e.on<j
 ord: ∀ (i j:Nat) oi oj,i<j->ops[i]?=some oi->ops[j]?=some oj->clash ops oi oj=true-> ∀ listed,Closed ops listed->(∀ e∈oj.after,plainEdge e=true->listed.getD e.on false=true)->listed.getD i false=true
theorem masks_length: ∀ (l:List Oper) (acc:List Nat),(masks l acc).length=acc.length+l.length
 | [],acc=>by simp[masks]
 | o::l,acc=>by rw[masks,masks_length l];simp;omega
theorem drawFacts (h:drawOk ops=true):DrawFacts ops:=by
 unfold drawOk at h;rw[qob] at h;have hm:GoodMasks ops (masks ops.toList []):=masks_good ops.toList [] (by simp) (by intro j oj i hj;simp at hj);have key: ∀ (j:Nat) oj,ops[j]?=some oj->(opClass oj.op<3/\ ∀ e∈oj.after,plainEdge e=true->e.on<j)/\ ∀ i,i<j-> ∀ oi,ops[i]?=some oi->clash ops oi oj=true->((masks ops.toList []).getD j 0).testBit i=true:=by
  intro j oj hj;have hlt:j<ops.size:=(Array.getElem?_eq_some_iff.1 hj).1;have h1:=h j (List.mem_range.2 hlt);simp only[hj,qtb,decide_eq_true_eq,qob] at h1;obtain⟨⟨h2,h3⟩,h4⟩:=h1;refine⟨⟨h2,fun e he hp=>?_⟩,fun i hi oi hoi hcl=>?_⟩
  ·have:=h3 e (Array.mem_toList_iff.2 he);simpa [hp] using this
  ·have:=h4 i (List.mem_range.2 hi);simpa [hoi,hcl] using this
 refine⟨fun j oj hj=>(key j oj hj).1.1,fun j oj hj=>(key j oj hj).1.2,fun i j oi oj hij hi hj hcl listed hc hp=>?_⟩;exact hm j oj i (by rw[masks_length];simp;exact(Array.getElem?_eq_some_iff.1 hj).1) hj ((key j oj hj).2 i hij oi hi hcl) listed hc hp
end
end Go.AM
namespace Go.AM
section
variable {P:Program} {T:Tab} {ops:Array Oper}
theorem binds_any (e:Edge):Region.binds .any e=plainEdge e:=by
 unfold Region.binds plainEdge;cases e.ground<;>rfl
theorem upd_env (s:St) (d:Option Nat) (v:PV) (H:List Ob) (t:Nat) (h:d≠some t):(s.upd d v H).env.getD t .any=s.env.getD t .any:=by
 unfold St.upd;cases d with
 | none=>rfl
 | some t'=>
  have:t'≠t:=fun he=>h (by rw[he])
  simp only[qa,getElem?_set_ne this]
theorem upd_env_self (s:St) (v:PV) (H:List Ob) (t:Nat) (h:t<s.env.length):(s.upd (some t) v H).env.getD t .any=v:=by
 unfold St.upd;simp[h]
theorem upd_len (s:St) (d:Option Nat) (v:PV) (H:List Ob):(s.upd d v H).env.length=s.env.length:=by
 unfold St.upd;cases d<;>simp
structure Run (P:Program) (T:Tab) (ops:Array Oper) (S:Nat->St):Prop where
 step: ∀ (j:Nat) o,ops[j]?=some o->Step1 P T ops o (S j) (S (j+1))
variable {S:Nat->St}
theorem Step1.env {o:Oper} {s s':St} (h:Step1 P T ops o s s') (t:Nat) (ht:o.dst≠some t):s'.env.getD t .any=s.env.getD t .any:=by
 rcases h with⟨_,v,H',_,_,rfl⟩ | ⟨_,rfl⟩<;>exact upd_env _ _ _ _ _ ht
theorem Step1.len {o:Oper} {s s':St} (h:Step1 P T ops o s s'):s'.env.length=s.env.length:=by
 rcases h with⟨_,v,H',_,_,rfl⟩ | ⟨_,rfl⟩<;>exact upd_len _ _ _ _
theorem Step1.heap {o:Oper} {s s':St} (h:Step1 P T ops o s s'):s.heap.length<=s'.heap.length/\True/\(isStore o.op=false->s'.heap=s.heap++s'.heap.drop s.heap.length):=by
 rcases h with⟨_,v,H',hw,hob,rfl⟩ | ⟨_,rfl⟩
 ·refine⟨WPop_len hw,tvq,fun hs=>?_⟩;rcases hob with hob | ⟨obs,rfl⟩
  ·rw[hs] at hob;cases hob
  ·simp[St.upd]
 ·simp[St.upd]
def later (n:Nat) (S:Nat->St):Nat->List Ob
 | 0=>[]
 | m+1=>(S (n - m)).heap.drop (S (n - m - 1)).heap.length++later n S m
def full (n:Nat) (S:Nat->St) (i:Nat):List Ob:=(S i).heap++later n S (n - i)
theorem later_step {n i:Nat} (h:i<n):later n S (n - i)=(S (i+1)).heap.drop (S i).heap.length++later n S (n - (i+1)):=by
 have e:n - i=(n - (i+1))+1:=by omega
 rw[e,later];rw[show n - (n - (i+1))=i+1 by omega,show i+1 - 1=i by omega]
theorem full_step (hr:Run P T ops S) {i:Nat} {o:Oper} (ho:ops[i]?=some o):
 (isStore o.op=false->full ops.size S i=full ops.size S (i+1))/\full ops.size S i=(S i).heap++((S (i+1)).heap.drop (S i).heap.length++later ops.size S (ops.size - (i+1))):=by
 have hlt:i<ops.size:=(Array.getElem?_eq_some_iff.1 ho).1
 have h2:full ops.size S i=(S i).heap++((S (i+1)).heap.drop (S i).heap.length++later ops.size S (ops.size - (i+1))):=by
  unfold full;rw[later_step hlt]
 refine⟨fun hs=>?_,h2⟩
 rw[h2,<-append_assoc,<-((hr.step i o ho).heap.2.2 hs)]
 rfl
theorem env_same (hr:Run P T ops S) {t:Nat}: ∀ (d i:Nat),i+d<=ops.size->(∀ k o,i<=k->k<i+d->ops[k]?=some o->o.dst≠some t)->(S (i+d)).env.getD t .any=(S i).env.getD t .any
 | 0,i,_,_=>rfl
 | d+1,i,hl,h=>by
  have hlt:i+d<ops.size:=by omega
  have h1:=hr.step (i+d) ops[i+d] (by simp[hlt]);rw[show i+(d+1)=(i+d)+1 by omega,h1.env t (h (i+d) _ (by omega) (by omega) (by simp[hlt]))];exact env_same hr d i (by omega) (fun k o hk hk2 ho=>h k o hk (by omega) ho)
theorem full_same (hr:Run P T ops S): ∀ (d i:Nat),i+d<=ops.size->(∀ k o,i<=k->k<i+d->ops[k]?=some o->isStore o.op=false)->full ops.size S (i+d)=full ops.size S i
 | 0,i,_,_=>rfl
 | d+1,i,hl,h=>by
  have hlt:i+d<ops.size:=by omega
  have h1:=(full_step hr (i:=i+d) (o:=ops[i+d]) (by simp[hlt])).1 (h (i+d) _ (by omega) (by omega) (by simp[hlt]));rw[show i+(d+1)=(i+d)+1 by omega,<-h1];exact full_same hr d i (by omega) (fun k o hk hk2 ho=>h k o hk (by omega) ho)
theorem heap_mono (hr:Run P T ops S): ∀ (d i:Nat),i+d<=ops.size->(S i).heap.length<=(S (i+d)).heap.length
 | 0,i,_=>qp _
 | d+1,i,hl=>by
  have hlt:i+d<ops.size:=by omega
  have h1:=(hr.step (i+d) ops[i+d] (by simp[hlt])).heap.1;exact qnb (heap_mono hr d i (by omega)) h1
theorem env_len (hr:Run P T ops S): ∀ (i:Nat),i<=ops.size->(S i).env.length=(S 0).env.length
 | 0,_=>rfl
 | i+1,h=>by
  have hlt:i<ops.size:=by omega
  rw[(hr.step i ops[i] (by simp[hlt])).len];exact env_len hr i (by omega)
def Cut (ops:Array Oper) (listed:Array Bool) (t i:Nat):Prop:= ∀ (k:Nat) o,ops[k]?=some o->o.dst=some t->(listed.getD k true=true↔k<i)
def HCut (ops:Array Oper) (listed:Array Bool) (i:Nat):Prop:= ∀ (k:Nat) o,ops[k]?=some o->isStore o.op=true->(listed.getD k true=true↔k<i)
structure Inv (ops:Array Oper) (S:Nat->St) (c:Ctx) (listed:Array Bool) (a:Act) (w:World) (X:Nat->Prop) (ρ:Places):Prop where
 sz:listed.size=ops.size
 closed:Closed ops listed
 defers:a.defers=[]
 keeps:Keeps c w
 tl:a.tmps.size=(S 0).env.length
 env: ∀ (t i:Nat) u,i<=ops.size->Cut ops listed t i->a.tmps[t]?=some u->PRd w X ρ u ((S i).env.getD t .any)
 heap: ∀ i,i<=ops.size->HCut ops listed i->HRd c w X ρ (full ops.size S i)
 places: ∀ i,i<ops.size->listed.getD i true=false-> ∀ id,(S i).heap.length<=id->id<(S (i+1)).heap.length->ρ[id]?=some none
end
end Go.AM
namespace Go.AM
section
variable {P:Program} {T:Tab} {ops:Array Oper} {S:Nat->St}
theorem isStore_class {op:Op} (h:isStore op=true):opClass op=2:=by
 cases op<;>first | rfl | (simp[isStore] at h;done) | (simp only[isStore] at h;simp[opClass,h])
theorem mem_reads {o:Oper} {t:Nat} (h:Operand.tmp t∈o.op.operands):t∈reads ops o:=by
 unfold reads;rw[qr,List.mem_filterMap];exact .inl ⟨.tmp t,Array.mem_toList_iff.2 h,rfl⟩
theorem guard_reads {o:Oper} {g:Nat} {want:Bool} {t:Nat} (h:o.guard=some (g,want)) (ht:(ops[g]?).bind (·.dst)=some t):t∈reads ops o:=by
 unfold reads guardTmp;rw[qr,h];right;simp only[ht];simp
theorem clash_rd1 {x y:Oper} {d:Nat} (h:x.dst=some d) (hr:d∈reads ops y):clash ops x y=true:=by
 unfold clash;simp[h,hr]
theorem clash_rd2 {x y:Oper} {d:Nat} (h:y.dst=some d) (hr:d∈reads ops x):clash ops x y=true:=by
 unfold clash;simp[h,hr]
theorem clash_dd {x y:Oper} {d:Nat} (h:x.dst=some d) (h2:y.dst=some d):clash ops x y=true:=by
 unfold clash;simp[h,h2]
theorem clash_s1 {x y:Oper} (h:opClass x.op=2) (h2:1<=opClass y.op) (h3:isAlloc y.op=false):clash ops x y=true:=by
 unfold clash;simp[h,h2,h3]
theorem store_alloc {op:Op} (h:isStore op=true):isAlloc op=false:=by
 cases op<;>first | rfl | (simp[isStore] at h;done)
theorem clash_s2 {x y:Oper} (h:1<=opClass x.op) (h2:opClass y.op=2):clash ops x y=true:=by
 unfold clash;simp[h,h2]
theorem getD_tf {listed:Array Bool} {k:Nat} (h:k<listed.size):listed.getD k true=listed.getD k false:=by
 simp[h]
variable {c:Ctx} {listed:Array Bool} {a:Act} {w:World} {X:Nat->Prop} {ρ:Places} {i:Nat} {o:Oper}
theorem cut_before (hf:DrawFacts ops) (hcl:Closed ops listed) (hp: ∀ e∈o.after,plainEdge e=true->listed.getD e.on false=true) (ho:ops[i]?=some o) {k:Nat} {ok:Oper} (hk:k<i) (hok:ops[k]?=some ok)
 (h:clash ops ok o=true):listed.getD k false=true:=hf.ord k i ok o hk hok ho h listed hcl hp
theorem cut_behind (hf:DrawFacts ops) (hsz:listed.size=ops.size) (hcl:Closed ops listed) (hun:listed.getD i true=false) (ho:ops[i]?=some o) {k:Nat} {ok:Oper} (hk:i<k) (hok:ops[k]?=some ok) (h:clash ops o ok=true):
 listed.getD k true=false:=by
 cases hl:listed.getD k true with
 | false=>rfl
 | true=>
  have hkl:k<listed.size:=by rw[hsz];exact(Array.getElem?_eq_some_iff.1 hok).1
  rw[getD_tf hkl] at hl;have h1:=hf.ord i k o ok hk ho hok h listed hcl (fun e he hpe=>hcl k ok hok hl e he hpe);have hil:i<listed.size:=by rw[hsz];exact(Array.getElem?_eq_some_iff.1 ho).1
  rw[getD_tf hil,h1] at hun;cases hun
theorem inv_next (hr:Run P T ops S) (hf:DrawFacts ops) (hinv:Inv ops S c listed a w X ρ) (ho:ops[i]?=some o) (hun:listed.getD i true=false) (hp: ∀ e∈o.after,plainEdge e=true->listed.getD e.on false=true)
 {u:Value} {v:PV} {H':List Ob} {w':World} {X':Nat->Prop} {ρ':Places} (hS:S (i+1)=(S i).upd o.dst v H') (hs:Stp c w w' X X' ρ ρ') (hdr:w.drawn<=w'.drawn) (hu:PRd w' X' ρ' u v)
 (hout: ∀ id,(id<(S i).heap.length\/(S (i+1)).heap.length<=id)->ρ'[id]?=ρ[id]?)
 (hheap: ∀ i2,i2<=ops.size->HCut ops (listed.setIfInBounds i true) i2->HRd c w' X' ρ' (full ops.size S i2)):Inv ops S c (listed.setIfInBounds i true) (a.put o.dst u) w' X' ρ':=by
 have hil:i<ops.size:=(Array.getElem?_eq_some_iff.1 ho).1
 have hils:i<listed.size:=by rw[hinv.sz];exact hil
 have hself: ∀ d,(listed.setIfInBounds i true).getD i d=true:=by intro d;simp[hils]
 have hne: ∀ k d,k≠i->(listed.setIfInBounds i true).getD k d=listed.getD k d:=fun k d hk=>getD_set_ne d (Ne.symm hk)
 refine⟨by simp[hinv.sz],?_,by cases hd:o.dst<;>simp[Act.put,hinv.defers],⟨hs.keeps hinv.keeps.toKeepsB,qnb hinv.keeps.drawn hdr⟩,by cases hd:o.dst<;>simp[Act.put,hinv.tl],?_,hheap,?_⟩
 ·intro j oj hj hl e he hpe
  by_cases hji:j=i
  ·subst hji
   rw[ho] at hj;cases hj
   exact getD_set_true (hp e he hpe)
  ·rw[hne j false hji] at hl
   exact getD_set_true (hinv.closed j oj hj hl e he hpe)
 ·intro t i2 u2 hi2 hcut hu2
  by_cases hd:o.dst=some t
  ·have hii:i<i2:=(hcut i o ho hd).1 (hself true)
   rw[hd] at hu2
   simp only[Act.put] at hu2
   have hlt:t<a.tmps.size:=by have:=(Array.getElem?_eq_some_iff.1 hu2).1;simpa using this
   simp[hlt] at hu2
   subst hu2
   have he:(S i2).env.getD t .any=(S (i+1)).env.getD t .any:=by
    have:=env_same hr (t:=t) (i2 - (i+1)) (i+1) (by omega) (fun k ok hk hk2 hok hdk=>by
     have h1:=(hcut k ok hok hdk).2 (by omega);rw[hne k true (by omega)] at h1;have h2:=cut_behind hf hinv.sz hinv.closed hun ho (show i<k by omega) hok (clash_dd hd hdk);rw[h1] at h2;cases h2)
    rw[show i+1+(i2 - (i+1))=i2 by omega] at this;exact this
   rw[he,hS,hd,upd_env_self]
   ·exact hu
   ·rw[env_len hr i (by omega),<-hinv.tl];exact hlt
  ·have hu3:a.tmps[t]?=some u2:=by
    cases hdo:o.dst with
    | none=>rw[hdo] at hu2;exact hu2
    | some d=>
     rw[hdo] at hu2 hd;simp only[Act.put] at hu2;rw[Array.getElem?_setIfInBounds_ne (by intro he;exact hd (by rw[he]))] at hu2;exact hu2
   refine(hinv.env t i2 u2 hi2 (fun k ok hok hdk=>?_) hu3).stp hs
   have hki:k≠i:=by
    intro he;subst he;rw[ho] at hok;cases hok;exact hd hdk
   rw[<-hne k true hki]
   exact hcut k ok hok hdk
 ·intro i2 hi2 hun2 id h1 h2
  have hne2:i2≠i:=by intro he;subst he;rw[hself] at hun2;cases hun2
  rw[hne i2 true hne2] at hun2
  rw[hout id ?_]
  ·exact hinv.places i2 hi2 hun2 id h1 h2
  ·rcases Nat.lt_or_gt_of_ne hne2 with hlt | hgt
   ·left
    have:=heap_mono hr (i - (i2+1)) (i2+1) (by omega)
    rw[show i2+1+(i - (i2+1))=i by omega] at this
    omega
   ·right
    have:=heap_mono hr (i2 - (i+1)) (i+1) (by omega)
    rw[show i+1+(i2 - (i+1))=i2 by omega] at this
    omega
theorem alloc_cut (hf:DrawFacts ops) (hsz:listed.size=ops.size) (hcl:Closed ops listed) (hun:listed.getD i true=false) (_hp: ∀ e∈o.after,plainEdge e=true->listed.getD e.on false=true) (ho:ops[i]?=some o)
 (h1:1<=opClass o.op): ∃ c0,c0<=i/\HCut ops listed c0:=by
 have key: ∀ n,n<=i->(∀ k,k<n-> ∀ ok,ops[k]?=some ok->isStore ok.op=true->listed.getD k true=true)\/
  ∃ k ok,k<n/\ops[k]?=some ok/\isStore ok.op=true/\listed.getD k true=false/\ ∀ k2,k2<k-> ∀ ok2,ops[k2]?=some ok2->isStore ok2.op=true->listed.getD k2 true=true:=by
  intro n
  induction n with
  | zero=>exact fun _=> .inl (fun k hk=>by omega)
  | succ n ih=>
   intro hn;rcases ih (by omega) with h | ⟨k,ok,hk,h⟩
   ·by_cases hb: ∃ ok,ops[n]?=some ok/\isStore ok.op=true/\listed.getD n true=false
    ·obtain⟨ok,a1,a2,a3⟩:=hb;exact .inr ⟨n,ok,by omega,a1,a2,a3,fun k2 hk2 ok2 h2 h3=>h k2 hk2 ok2 h2 h3⟩
    ·refine .inl (fun k hk ok h2 h3=>?_);by_cases hkn:k=n
     ·subst hkn;cases hl:listed.getD k true with
      | true=>rfl
      | false=>exact absurd ⟨ok,h2,h3,hl⟩ hb
     ·exact h k (by omega) ok h2 h3
   ·exact .inr ⟨k,ok,by omega,h⟩
 rcases key i (qp _) with h | ⟨k,ok,hk,hok,hst,hl,hbef⟩
 ·refine⟨i,qp _,fun k ok hok hst=>?_⟩
  rcases Nat.lt_trichotomy k i with hlt | heq | hgt
  ·have:=h k hlt ok hok hst
   simp[this,hlt]
  ·subst heq;simp[hun]
  ·have h2:=cut_behind hf hsz hcl hun ho hgt hok (clash_s2 h1 (isStore_class hst))
   simp[h2];omega
 ·refine⟨k,by omega,fun k2 ok2 hok2 hst2=>?_⟩
  rcases Nat.lt_trichotomy k2 k with hlt | heq | hgt
  ·have:=hbef k2 hlt ok2 hok2 hst2
   simp[this,hlt]
  ·subst heq;simp[hl]
  ·have h2:=cut_behind hf hsz hcl hl hok hgt hok2 (clash_s1 (isStore_class hst) (by rw[isStore_class hst2];omega) (store_alloc hst2))
   simp[h2];omega
theorem alloc_any {op:Op} {s:St} {v:PV} {H':List Ob} (ha:isAlloc op=true) (h:WPop P T op s fun v' H''=>v'=v/\H''=H'):
 ∃ b,v= .ptr s.heap.length 0 0/\H'=s.heap++[b]/\ ∀ F:List Ob,F.length=s.heap.length->WPop P T op ⟨s.env,F⟩ fun v' H''=>v'=v/\H''=F++[b]:=by
 cases op with
 | alloc t=>
  unfold WPop opRes at h;simp only at h;unfold WPop opRes;cases hi:T.at t with
  | none=>rw[hi] at h;exact h.elim
  | some ti=>
   rw[hi] at h;simp only at h ⊢;obtain⟨h1,h2,h3⟩:=h;exact⟨_,h2.symm,h3.symm,fun F hF=>by
    rw[hi];exact⟨h1,by rw[hF];exact h2,rfl⟩⟩
 | _=>simp[isAlloc] at ha
theorem later_drop (hr:Run P T ops S): ∀ (d c0:Nat),c0+d<=ops.size->(later ops.size S (ops.size - c0)).drop ((S (c0+d)).heap.length - (S c0).heap.length)=later ops.size S (ops.size - (c0+d))
 | 0,c0,_=>by rw[Nat.add_zero,Nat.sub_self,List.drop_zero]
 | d+1,c0,h=>by
  have ih:=later_drop hr d c0 (by omega);have m1:=heap_mono hr d c0 (by omega);have m2:=heap_mono hr 1 (c0+d) (by omega);rw[later_step (i:=c0+d) (by omega)] at ih;rw[show c0+(d+1)=c0+d+1 by omega];have e:(S (c0+d+1)).heap.length - (S c0).heap.length=((S (c0+d)).heap.length - (S c0).heap.length)+((S (c0+d+1)).heap.length - (S (c0+d)).heap.length):=by omega
  rw[e,<-List.drop_drop,ih,List.drop_append_of_le_length (by rw[length_drop];omega),List.drop_of_length_le (by rw[length_drop];omega)];rfl
theorem full_drop (hr:Run P T ops S) (d c0:Nat) (h:c0+d<=ops.size):(full ops.size S c0).drop (S (c0+d)).heap.length=later ops.size S (ops.size - (c0+d)):=by
 have m1:=heap_mono hr d c0 h;have:=later_drop hr d c0 h;unfold full;rw[List.drop_append,List.drop_of_length_le m1,nil_append,this]
theorem inv_step (hT:TabOk P T) {Q:Exit->Act->World->Prop} (hr:Run P T ops S) (hf:DrawFacts ops) (hinv:Inv ops S c listed a w X ρ) (hi:i∈Region.ready .any ops listed):
 wpOp P ops Q i (fun a' w'=> ∃ X' ρ',Inv ops S c (listed.setIfInBounds i true) a' w' X' ρ') a w:=by
 obtain⟨hun,o,ho,hall⟩:=mem_ready.1 hi
 have hp: ∀ e∈o.after,plainEdge e=true->listed.getD e.on false=true:=fun e he hpe=>hall e he (by rw[binds_any];exact hpe)
 have hil:i<ops.size:=(Array.getElem?_eq_some_iff.1 ho).1
 have hils:i<listed.size:=by rw[hinv.sz];exact hil
 have hcutr: ∀ t,t∈reads ops o->Cut ops listed t i:=by
  intro t ht k ok hok hdk;rcases Nat.lt_trichotomy k i with hlt | heq | hgt
  ·have h1:=cut_before hf hinv.closed hp ho hlt hok (clash_rd1 hdk ht);rw[<-getD_tf (by rw[hinv.sz];omega)] at h1;simp[h1,hlt]
  ·subst heq;simp[hun]
  ·have h1:=cut_behind hf hinv.sz hinv.closed hun ho hgt hok (clash_rd2 hdk ht);simp[h1];omega
 have hrel: ∀ t,t∈reads ops o->PRd w X ρ (a.tmps.getD t undef) ((S i).env.getD t .any):=by
  intro t ht;by_cases hlt:t<a.tmps.size
  ·have:=hinv.env t i a.tmps[t] (by omega) (hcutr t ht) (by simp[hlt]);simpa [hlt] using this
  ·have hge:(S i).env.length<=t:=by rw[env_len hr i (by omega),<-hinv.tl];omega
   rw[qa,List.getElem?_eq_none hge];exact .any _
 have hops: ∀ x∈o.op.operands,PRd w X ρ (a.eval x) (ev (S i).env x):=by
  intro x hx;cases x with
  | tmp t=>exact hrel t (mem_reads hx)
  | const v=>exact PRd_ofValue v
  | global g=>exact .any _
  | func f=>exact .fv _ _ (.lit _ rfl)
 have hwant: ∀ b,wantA ops (S i) o=some b->Region.wanted o (yielded ops a.tmps)=b:=by
  intro b hb;unfold wantA at hb;unfold Region.wanted;cases hg:o.guard with
  | none=>rw[hg] at hb;simp at hb;simp[hb]
  | some gd=>
   obtain⟨j,want⟩:=gd;rw[hg] at hb;simp only at hb ⊢;cases hj:(ops[j]?).bind (·.dst) with
   | none=>rw[hj] at hb;cases hb
   | some t=>
    rw[hj] at hb;simp only at hb;have ht:=hrel t (guard_reads hg hj);have hy:yielded ops a.tmps j=(match a.tmps[t]? with | some (.bool b)=>some b | _=>none):=by
     unfold yielded;rw[hj];rfl
    rw[hy];unfold St.get at hb;split at hb
    ·rename_i b2 hb2;rw[hb2] at ht;have hlt:=ht.litInv;simp at hb;cases hg2:a.tmps[t]? with
     | none=>simp[hg2,undef] at hlt
     | some v2=>
      simp[hg2] at hlt;subst hlt;simp only;rw[<-hb];simp
    ·rename_i hb2;rw[hb2] at ht;simp at hb;cases hg2:a.tmps[t]? with
     | none=>simp[<-hb]
     | some v2=>
      simp[hg2] at ht;cases ht;simp[<-hb]
    ·cases hb
 unfold wpOp
 simp only[ho]
 rcases hr.step i o ho with⟨hw,v,H',hwp,hob,hS⟩ | ⟨hw,hS⟩
 ·rw[hwant true hw]
  refine .inl ?_
  have hSh:(S (i+1)).heap=H':=by rw[hS];rfl
  by_cases h0:opClass o.op=0
  ·obtain⟨hH,u,hrun,hu⟩:=class0_sound (P:=P) (T:=T) hT h0 rfl (o:=o) (e:=a.eval) hwp hops
   unfold Oper.wp
   rw[hrun]
   refine⟨X,ρ,inv_next hr hf hinv ho hun hp hS Stp.refl (qp _) hu (fun _ _=>rfl) (fun i2 hi2 hcut=>hinv.heap i2 hi2 (fun k ok hok hst=>?_))⟩
   have hki:k≠i:=by
    intro he;subst he;rw[ho] at hok;cases hok;rw[isStore_class hst] at h0;cases h0
   rw[<-getD_set_ne true (Ne.symm hki)]
   exact hcut k ok hok hst
  ·by_cases hal:isAlloc o.op=true
   ·obtain⟨c0,hc0,hcut0⟩:=alloc_cut hf hinv.sz hinv.closed hun hp ho (by omega)
    have hh:=hinv.heap c0 (by omega) hcut0
    obtain⟨b,hvb,hHb,hany⟩:=alloc_any hal hwp
    have hfd:=full_drop hr (i - c0) c0 (by omega)
    rw[show c0+(i - c0)=i by omega,later_step hil,hSh,hHb,List.drop_left] at hfd
    obtain⟨F,hF⟩:=ex1 ((full ops.size S c0).take (S i).heap.length)
    have hFl:F.length=(S i).heap.length:=by
     rw[<-hF,qf];have h1:(full ops.size S c0).length=(S c0).heap.length+(later ops.size S (ops.size - c0)).length:=by unfold full;rw[qe]
     have h2:=congrArg List.length hfd;rw[length_drop] at h2;rw[qe,qab] at h2;omega
    have hsplit:full ops.size S c0=F++([b]++later ops.size S (ops.size - (i+1))):=by
     rw[<-hfd,<-hF,List.take_append_drop]
    rw[hsplit] at hh
    refine wpop_gen hT (s:=⟨(S i).env,F⟩) (hany F hFl) hh (fun id h1 h2=>hinv.places i hil hun id (by dsimp only at h1;omega) (by rw[hSh,hHb,qe,qab];simp at h2;omega)) (by simp) hops (fun u w' X' ρ' hs hdr hh' hu hout=>?_)
    refine⟨X',ρ',inv_next hr hf hinv ho hun hp hS hs hdr hu (fun id hid=>hout id (by
     rw[hSh,hHb,qe,qab] at hid;dsimp only;rw[qab];omega)) (fun i2 hi2 hcut=>?_)⟩
    have hcut2:HCut ops listed i2:=by
     intro k ok hok hsk;have hki:k≠i:=by
      intro he;subst he;rw[ho] at hok;cases hok;rw[store_alloc hsk] at hal;cases hal
     rw[<-getD_set_ne true (Ne.symm hki)];exact hcut k ok hok hsk
    have hsame:full ops.size S i2=full ops.size S c0:=by
     rcases Nat.le_total c0 i2 with hle | hle
     ·have:=full_same hr (i2 - c0) c0 (by omega) (fun k ok hk hk2 hok=>by
       cases hsk:isStore ok.op with
       | false=>rfl
       | true=>
        have h1:=(hcut2 k ok hok hsk).2 (by omega);have h2:=(hcut0 k ok hok hsk).1 h1;omega)
      rw[show c0+(i2 - c0)=i2 by omega] at this;exact this
     ·have:=full_same hr (c0 - i2) i2 (by omega) (fun k ok hk hk2 hok=>by
       cases hsk:isStore ok.op with
       | false=>rfl
       | true=>
        have h1:=(hcut0 k ok hok hsk).2 (by omega);have h2:=(hcut2 k ok hok hsk).1 h1;omega)
      rw[show i2+(c0 - i2)=c0 by omega] at this;exact this.symm
    rw[hsame,hsplit,<-append_assoc]
    exact hh'
   have hal:isAlloc o.op=false:=by simpa using hal
   have hcl1:1<=opClass o.op:=by omega
   have hhc:HCut ops listed i:=by
    intro k ok hok hst;have hk2:=isStore_class hst;rcases Nat.lt_trichotomy k i with hlt | heq | hgt
    ·have h1:=cut_before hf hinv.closed hp ho hlt hok (clash_s1 hk2 hcl1 hal);rw[<-getD_tf (by rw[hinv.sz];omega)] at h1;simp[h1,hlt]
    ·subst heq;simp[hun]
    ·have h1:=cut_behind hf hinv.sz hinv.closed hun ho hgt hok (clash_s2 hcl1 hk2);simp[h1];omega
   have hh:=hinv.heap i (by omega) hhc
   obtain⟨hfs,hfe⟩:=full_step hr ho
   rw[hfe] at hh
   have hlen:=WPop_len hwp
   rw[hSh] at hh hfe
   refine wpop_gen hT hwp hh (fun id h1 h2=>hinv.places i hil hun id h1 (by rw[hSh];simp at h2;omega)) (by simp;omega) hops (fun u w' X' ρ' hs hdr hh' hu hout=>?_)
   have hfull:full ops.size S (i+1)=H'++later ops.size S (ops.size - (i+1)):=by unfold full;rw[hSh]
   refine⟨X',ρ',inv_next hr hf hinv ho hun hp hS hs hdr hu (fun id hid=>hout id (by rw[hSh] at hid;simp;omega)) (fun i2 hi2 hcut=>?_)⟩
   have hself:(listed.setIfInBounds i true).getD i true=true:=by simp[hils]
   have hfi:HRd c w' X' ρ' (full ops.size S (i+1)):=by rw[hfull];exact hh'
   by_cases hst:isStore o.op=true
   ·have hii:i<i2:=(hcut i o ho hst).1 hself
    have:=full_same hr (i2 - (i+1)) (i+1) (by omega) (fun k ok hk hk2 hok=>by
     cases hsk:isStore ok.op with
     | false=>rfl
     | true=>
      have h1:=(hcut k ok hok hsk).2 (by omega);rw[getD_set_ne true (by omega)] at h1;have h2:=cut_behind hf hinv.sz hinv.closed hun ho (show i<k by omega) hok (clash_s1 (isStore_class hst) (by rw[isStore_class hsk];omega) (store_alloc hsk));rw[h1] at h2;cases h2)
    rw[show i+1+(i2 - (i+1))=i2 by omega] at this
    rw[this]
    exact hfi
   ·have hst':isStore o.op=false:=by simpa using hst
    have hcut2:HCut ops listed i2:=by
     intro k ok hok hsk;have hki:k≠i:=by
      intro he;subst he;rw[ho] at hok;cases hok;exact hst hsk
     rw[<-getD_set_ne true (Ne.symm hki)];exact hcut k ok hok hsk
    have hsame:full ops.size S i2=full ops.size S i:=by
     rcases Nat.le_total i i2 with hle | hle
     ·have:=full_same hr (i2 - i) i (by omega) (fun k ok hk hk2 hok=>by
       cases hsk:isStore ok.op with
       | false=>rfl
       | true=>
        have h1:=(hcut2 k ok hok hsk).2 (by omega);have h2:=(hhc k ok hok hsk).1 h1;omega)
      rw[show i+(i2 - i)=i2 by omega] at this;exact this
     ·have:=full_same hr (i - i2) i2 (by omega) (fun k ok hk hk2 hok=>by
       cases hsk:isStore ok.op with
       | false=>rfl
       | true=>
        have h1:=(hhc k ok hok hsk).2 (by omega);have h2:=(hcut2 k ok hok hsk).1 h1;omega)
      rw[show i2+(i - i2)=i by omega] at this;exact this.symm
    rw[hsame,hfs hst']
    exact hfi
 ·rw[hwant false hw]
  refine⟨X,ρ,inv_next hr hf hinv ho hun hp hS Stp.refl (qp _) (.tup #[] [] rfl (by simp)) (fun _ _=>rfl) (fun i2 hi2 hcut=>?_)⟩
  have hSh:(S (i+1)).heap=(S i).heap:=by rw[hS];rfl
  have hself:(listed.setIfInBounds i true).getD i true=true:=by simp[hils]
  by_cases hst:isStore o.op=true
  ·have hhc:HCut ops listed i:=by
    intro k ok hok hsk;have hk2:=isStore_class hsk;have ho2:=isStore_class hst;rcases Nat.lt_trichotomy k i with hlt | heq | hgt
    ·have h1:=cut_before hf hinv.closed hp ho hlt hok (clash_s1 hk2 (by omega) (store_alloc hst));rw[<-getD_tf (by rw[hinv.sz];omega)] at h1;simp[h1,hlt]
    ·subst heq;simp[hun]
    ·have h1:=cut_behind hf hinv.sz hinv.closed hun ho hgt hok (clash_s2 (by omega) hk2);simp[h1];omega
   have hii:i<i2:=(hcut i o ho hst).1 hself
   have hsame:=full_same hr (i2 - (i+1)) (i+1) (by omega) (fun k ok hk hk2 hok=>by
    cases hsk:isStore ok.op with
    | false=>rfl
    | true=>
     have h1:=(hcut k ok hok hsk).2 (by omega);rw[getD_set_ne true (by omega)] at h1;have h2:=cut_behind hf hinv.sz hinv.closed hun ho (show i<k by omega) hok (clash_s1 (isStore_class hst) (by rw[isStore_class hsk];omega) (store_alloc hsk));rw[h1] at h2;cases h2)
   rw[show i+1+(i2 - (i+1))=i2 by omega] at hsame
   have hfe:=(full_step hr ho).2
   rw[hSh,List.drop_length,nil_append] at hfe
   have hf1:full ops.size S (i+1)=full ops.size S i:=by
    rw[hfe];unfold full;rw[hSh]
   rw[hsame,hf1]
   exact hinv.heap i (by omega) hhc
  ·refine hinv.heap i2 hi2 (fun k ok hok hsk=>?_)
   have hki:k≠i:=by
    intro he;subst he;rw[ho] at hok;cases hok;exact hst hsk
   rw[<-getD_set_ne true (Ne.symm hki)]
   exact hcut k ok hok hsk
theorem all_listed (hf:DrawFacts ops) (hsz:listed.size=ops.size) (hrd:Region.ready .any ops listed=[]): ∀ k,k<ops.size->listed.getD k true=true:=by
 intro k
 induction k using Nat.strongRecOn with
 | _ k ih=>
  intro hk;cases hl:listed.getD k true with
  | true=>rfl
  | false=>
   have hmem:k∈Region.ready .any ops listed:=by
    refine mem_ready.2 ⟨hl,ops[k],by simp[hk],fun e he hb=>?_⟩;rw[binds_any] at hb;have hlt:=hf.low k ops[k] (by simp[hk]) e he hb;rw[<-getD_tf (by omega)];exact ih e.on hlt (by omega)
   rw[hrd] at hmem;cases hmem
theorem inv_any (hT:TabOk P T) {Q:Exit->Act->World->Prop} (hr:Run P T ops S) (hf:DrawFacts ops) (hQ: ∀ a w,SRd c (S ops.size) a w->Q .normal a w):
 ∀ (fuel:Nat) (listed:Array Bool) (a:Act) (w:World),(∃ X ρ,Inv ops S c listed a w X ρ)->listed.toList.count false<=fuel->wpAny P .any ops Q fuel listed a w:=by
 have fin: ∀ (listed:Array Bool) (a:Act) (w:World),(∃ X ρ,Inv ops S c listed a w X ρ)->(∀ k,k<ops.size->listed.getD k true=true)->Q .normal a w:=by
  intro listed a w ⟨X,ρ,hinv⟩ hal;refine hQ a w ⟨X,ρ,?_,⟨by rw[hinv.tl,env_len hr _ (qp _)],fun t u x hu hx=>?_⟩,hinv.defers,hinv.keeps⟩
  ·have:=hinv.heap ops.size (qp _) (fun k o hok _=>by
    have hlt:k<ops.size:=(Array.getElem?_eq_some_iff.1 hok).1;simp[hal k hlt,hlt])
   unfold full at this;rw[Nat.sub_self,later,append_nil] at this;exact this
  ·have:=hinv.env t ops.size u (qp _) (fun k o hok _=>by
    have hlt:k<ops.size:=(Array.getElem?_eq_some_iff.1 hok).1;simp[hal k hlt,hlt]) hu
   rw[qa,hx] at this;exact this
 intro fuel
 induction fuel with
 | zero=>
  intro listed a w hinv hc;obtain⟨X,ρ,hi⟩:=hinv;have hal: ∀ k,k<ops.size->listed.getD k true=true:=by
   intro k hk;have hkl:k<listed.size:=by rw[hi.sz];exact hk
   have h0:listed.toList.count false=0:=by omega
   rw[List.count_eq_zero] at h0;cases hl:listed.getD k true with
   | true=>rfl
   | false=>
    exfalso;apply h0;have:listed[k]=false:=by simpa [hkl] using hl
    rw[<-this];exact Array.mem_toList_iff.2 (Array.getElem_mem hkl)
  refine⟨?_,fin listed a w ⟨X,ρ,hi⟩ hal⟩;cases hrd:Region.ready .any ops listed with
  | nil=>rfl
  | cons j l=>
   have hj:j∈Region.ready .any ops listed:=by rw[hrd];simp
   obtain⟨hun,oj,hoj,_⟩:=mem_ready.1 hj;rw[hal j (Array.getElem?_eq_some_iff.1 hoj).1] at hun;cases hun
 | succ fuel ih=>
  intro listed a w hinv hc;obtain⟨X,ρ,hi⟩:=hinv;refine⟨fun hrd=>fin listed a w ⟨X,ρ,hi⟩ (all_listed hf hi.sz hrd),fun i hir=>?_⟩;refine wpOp_mono (fun a' w' hinv'=>ih _ a' w' hinv' ?_) (inv_step hT hr hf hi hir);obtain⟨hun,o,ho,_⟩:=mem_ready.1 hir;have hil:i<listed.size:=by rw[hi.sz];exact(Array.getElem?_eq_some_iff.1 ho).1
  have hlf:listed.toList[i]'(by simpa using hil)=false:=by
   have:listed[i]=false:=by simpa [hil] using hun
   simpa using this
  rw[Array.toList_setIfInBounds,List.count_set (by simpa using hil)];have hpos:0<listed.toList.count false:=by
   rw[List.count_pos_iff];rw[<-hlf];exact qqb _
  rw[hlf];show(List.count false listed.toList - 1)+0<=fuel;omega
theorem draw_sound (hT:TabOk P T) {Q:Exit->Act->World->Prop} (hok:drawOk ops=true) {st:St} {K:St->Prop} (h:WPdraw P T ops ops.toList st K) (hK: ∀ st a w,K st->SRd c st a w->Q .normal a w) (hs:SRd c st a w):
 wpAny P .any ops Q ops.size (Array.replicate ops.size false) a w:=by
 have hf:=drawFacts hok
 obtain⟨S,h0,h1,h2⟩:=runs ops.toList st h
 rw[Array.length_toList] at h2
 have hr:Run P T ops S:=⟨fun j o hj=>h1 j o (by simpa using hj)⟩
 obtain⟨X,ρ,hh,he,hd,hk⟩:=hs
 refine inv_any hT hr hf (c:=c) (fun a w hs=>hK _ a w h2 hs) ops.size _ a w ⟨X,ρ++replicate (later ops.size S ops.size).length none,?_⟩ (by simp)
 have hun: ∀ k,k<ops.size->(Array.replicate ops.size false).getD k true=false:=by intro k hk;simp[hk]
 have hle:=Places.Le.append ρ (replicate (later ops.size S ops.size).length none)
 refine⟨by simp,?_,hd,hk,by rw[h0];exact he.1,?_,?_,?_⟩
 ·intro j oj hj hl
  have hlt:j<ops.size:=(Array.getElem?_eq_some_iff.1 hj).1
  simp[hlt] at hl
 ·intro t i u hi hcut hu
  have hsame:=env_same hr (t:=t) i 0 (by omega) (fun k o _ hk hok hdk=>by
   have hlt:k<ops.size:=(Array.getElem?_eq_some_iff.1 hok).1;have:=(hcut k o hok hdk).2 (by omega);rw[hun k hlt] at this;cases this)
  rw[Nat.zero_add] at hsame
  rw[hsame,h0]
  have hlt:t<st.env.length:=by rw[<-he.1];exact(Array.getElem?_eq_some_iff.1 hu).1
  have:=he.2 t u st.env[t] hu (by simp[hlt])
  rw[qa]
  simp only[qb hlt,Option.getD_some]
  exact this.mono (Same.refl X _) (fun _ _ h=>h) hle
 ·intro i hi hcut
  have hsame:=full_same hr i 0 (by omega) (fun k o _ hk hok=>by
   have hlt:k<ops.size:=(Array.getElem?_eq_some_iff.1 hok).1;cases hsk:isStore o.op with
   | false=>rfl
   | true=>
    have:=(hcut k o hok hsk).2 (by omega);rw[hun k hlt] at this;cases this)
  rw[Nat.zero_add] at hsame
  rw[hsame]
  unfold full
  rw[h0,Nat.sub_zero]
  exact hh.extend _
 ·intro i hi _ id h3 h4
  have hm:=heap_mono hr i 0 (by omega)
  rw[Nat.zero_add,h0] at hm
  rw[getElem?_append_right (by rw[hh.len];omega),List.getElem?_replicate]
  rw[if_pos]
  have hfl:(full ops.size S ops.size).length<=(full ops.size S 0).length:=by
   have hlen: ∀ d i,i+d<=ops.size->(full ops.size S (i+d)).length=(full ops.size S i).length:=by
    intro d
    induction d with
    | zero=>intro i _;rfl
    | succ d ih=>
     intro i hid;have hlt:i+d<ops.size:=by omega
     have ho:ops[i+d]?=some ops[i+d]:=by simp[hlt]
     have hst:=(hr.step (i+d) _ ho).heap;obtain⟨hf1,hf2⟩:=full_step hr ho;rw[show i+(d+1)=(i+d)+1 by omega,<-ih i (by omega)];cases hsk:isStore ops[i+d].op with
     | false=>rw[hf1 hsk]
     | true=>
      rw[hf2];unfold full;have:=hst.1;simp;omega
   have:=hlen ops.size 0 (by omega);rw[Nat.zero_add] at this;omega
  have hme:=heap_mono hr (ops.size - (i+1)) (i+1) (by omega)
  rw[show i+1+(ops.size - (i+1))=ops.size by omega] at hme
  unfold full at hfl
  rw[Nat.sub_self,later,append_nil,qe,Nat.sub_zero,h0] at hfl
  rw[hh.len]
  omega
end
end Go.AM
