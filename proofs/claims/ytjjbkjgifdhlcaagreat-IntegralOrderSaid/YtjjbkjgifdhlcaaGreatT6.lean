/- The abstract machine:maps. -/
import Derived.Test.YtjjbkjgifdhlcaaGreatT5
import Derived.MapKept
import Derived.Test.YtjjbkjgifdhlcaaGreatT1
set_option linter.all false
open List (append_assoc append_nil getElem?_append_right getElem?_of_mem getElem?_set_ne getElem?_take length_cons length_drop length_set map_cons mem_iff_getElem mem_map mem_of_getElem? nil_append range' replicate set_append_left)
namespace Go.AM
section
variable {P:Program} {T:Tab}
theorem Um {c:PV} {n:Int} (h:SP c=some n):c= .fv (.lit (.int .i64 n)):=by
 unfold SP at h;split at h
 .cases h;rfl
 cases h
theorem BU: ∀ (cs:List PV) (ks:List Int),q4 cs=some ks->cs=ks.map (fun n=> .fv (.lit (.int .i64 n)))
 | [],ks,h=>by simp[q4] at h;subst h;rfl
 | c::cs,ks,h=>by
  simp only[q4] at h;split at h
  .rename_i n ns h1 h2;cases h;rw[map_cons,<-BU cs ns h2,Um h1]
  cases h
theorem K_ {w:World} {X:Nat->Prop} {ρ:Places} {u:Value} {x:PV} {ks:List Int} (h:PRd w X ρ u x) (hk:oJ x=some ks):u= .agg (ks.map (Value.int .i64)).toArray:=by
 unfold oJ at hk;split at hk;rotate_left
 .cases hk
 have:=BU _ _ hk;subst this;cases h with
 | agg us _ hn h1 hr=>
  congr 1;apply Array.ext
  .simpa using hn
  intro i oA iH;have:=hr i us[i] (.fv (.lit (.int .i64 (ks[i]'(by simpa using iH))))) (by simp[oA]) (by simp at iH;simp[iH]);have h2:=this.litInv;rw[h2];simp
theorem Gk {a b:List Int} (h:(Value.agg (a.map (Value.int .i64)).toArray)= .agg (b.map (Value.int .i64)).toArray):a=b:=by
 injection h with h
 have h2:a.map (Value.int .i64)=b.map (Value.int .i64):=by
  have:=congrArg Array.toList h;simpa using this
 exact(List.map_inj_right (fun x y e=>by injection e)).1 h2
theorem Di {es:List (List Int×PV)} {k:List Int} (h: ∀ e∈es,e.1≠k):dH es k=none:=by
 unfold dH;rw[Option.map_eq_none_iff,List.find?_eq_none];intro e he hk;exact h e he (by simpa using hk)
theorem tJ: ∀ {es:List (List Int×PV)} {k:List Int} {v:PV} {i:Nat},(es.map (·.1)).Nodup->es[i]?=some (k,v)->dH es k=some v
 | [],k,v,i,_,h=>by simp at h
 | e::es,k,v,i,hn,h=>by
  unfold dH;rw[map_cons,List.nodup_cons] at hn;cases i with
  | zero=>
   simp at h;subst h;simp
  | succ i=>
   simp at h;have bf:k∈es.map (·.1):=mem_map.2 ⟨(k,v),mem_of_getElem? h,rfl⟩;have cM:(e.1==k)=false:=by
    rw[qx];intro he;exact hn.1 (he ▸ bf)
   rw[List.find?_cons,cM];exact tJ hn.2 h
theorem Gl {w:World} {X:Nat->Prop} {ρ ρ':Places} {u:Value} {x:PV} (h:PRd w X ρ u x) (hs:still x=true):PRd w X ρ' u x:=by
 unfold still at hs;split at hs
 .cases h with | fv _ _ hf=>exact .fv _ _ hf
 .rename_i cs;rw[v7] at hs;cases h with
  | agg us _ hn h1 hr=>
   refine .agg us cs hn h1 (fun i v c hv hc=>?_);have qO:=hs c (mem_of_getElem? hc);have hp:=hr i v c hv hc;split at qO
   .cases hp with | fv _ _ hf=>exact .fv _ _ hf
   cases qO
 cases hs
theorem La {w:World} {X:Nat->Prop} {ρ:Places} {u:Value} {id:Nat} (h:PRd w X ρ u (.tab id)): ∃ g p,u= .map (some g)/\ρ[id]?=some (some p)/\p.b=some g:=by
 cases h with | tab _ g p hp hg=>exact⟨g,p,rfl,hp,hg⟩
theorem Gm (_hT:ck P T) (t:TypeId):EffOp P T (.makeMap t none):=by
 intro c w X ρ H D R o e ρv r ho h hD hρ ak hc aD;simp only[cx] at ak;split at ak;rotate_left
 .cases ak
 rename_i i hi;split at ak;rotate_left
 .cases ak
 rename_i n _ hd;cases ak;obtain⟨d,rfl⟩:=nQ (D:=D) (by simp at aD;omega);have XJ:=hD H.length (qp _) (by simp);let p:Place:=⟨some w.heap.size,0,0,0⟩;have aH:H.length<ρ.length:=(List.getElem?_eq_some_iff.1 XJ).1;have hg:=World.grownBy_alloc w (.map #[] 0) none;have hF:(H++([d]++R)).set H.length (.tab n [])=(H++[.tab n []])++R:=by simp
 have bV:=h.put (id:=H.length) (p:=p) (ob:= .tab n []) (row:=none) (w':=w.alloc (.map #[] 0)) (by simp) (.inl XJ) hg (by simp)
  (fun j q o g hj hq ho hr hb=>⟨by simp,by
   have:=(h.own j q o g hq ho hr hb).2;intro he;simp only[p,qo] at he;omega⟩)
  (fun g hg=>by simp only[p,qo] at hg;left;omega)
  (fun g hg=>by simp only[p,qo] at hg;subst hg;exact⟨.inl h.ge,by simp⟩)
  (by simp)
  ⟨⟨by simp,w.heap.size,0,#[],rfl,heap_alloc_new w _,rfl,by simp,fun i e k v he hv=>by simp at he⟩,fun g hg=> .inr hg⟩
 rw[hF] at bV;refine⟨_,_,_,_,.inl ?_,bV.2,bV.1,.tab H.length w.heap.size p (by simp[aH]) rfl,fun id d5=>by
  rw[getElem?_set_ne (by simp at d5;omega)]⟩
 simp[execOp,ho,Instr.makeMap]
theorem Dj (hT:ck P T) (t:TypeId) (m k:Operand) (ok:Bool):ee P T (.lookup t m k ok):=by
 intro c w X ρ H F o e ρv r lo hi ho h hH hρ ak hc;have hm:=hρ m (by simp[Op.operands]);have hk:=hρ k (by simp[Op.operands]);simp only[cx] at ak;split at ak;rotate_left
 .cases ak
 rename_i i id ks hi hmv hkv;split at ak;rotate_left
 .cases ak
 rename_i n zv n2 es hd f6;split at ak;rotate_left
 .cases ak
 rename_i rr;obtain⟨aD,rfl⟩:=rr;simp only[Res.if,qo] at ak;subst ak;rw[hmv] at hm;obtain⟨g,p,Lr,hp,zO⟩:=La hm;have hku:=K_ hk hkv;obtain⟨⟨NU,g2,clock,vs,et,hh,d4,l6,hcell⟩,_⟩:=h.ob id p _ hp (hH id _ f6);rw[zO] at et;cases et;have N':=(hT _ _ hi).desc;rw[hd] at N';obtain⟨kt,el,ti,z,hu,eP,hz,bP,hzr,NZ,Sd⟩:=N';obtain⟨lk,LA⟩:=Sd ks aD hc;have zM:=fun em=>NZ.check w em LA
 have b_:(getObj g).run P w= .ok (.map vs clock) w:=by simp[getObj,Sem.run,hh]
 have Se: ∀ (j:Nat) ent,vs[j]?=some ent-> ∃ k' v',es[j]?=some (k',v')/\ent.key= .agg (k'.map (Value.int .i64)).toArray/\still v'=true/\PRd w X [] ent.val v':=by
  intro j ent hj;have aH:j<es.length:=by rw[<-d4];exact(Array.getElem?_eq_some_iff.1 hj).1
  obtain⟨a1,a2,a3⟩:=hcell j ent es[j].1 es[j].2 hj (by simp[aH]);exact⟨_,_,by simp[aH],a1,a2,a3⟩
 have sn: ∀ e∈vs.toList,∃ l,keyOf P kt e.key=some l:=by
  intro ent he;obtain⟨j,hj,Oj⟩:=mem_iff_getElem.1 he;obtain⟨k',v',h1,h2,_⟩:=Se j ent (by rw[<-Oj];simp at hj;simp[hj]);obtain⟨b1,b2⟩:=NU _ (mem_of_getElem? h1);rw[h2];exact Sd k' b1 b2
 have hzv:(zeroValue el).run P w= .ok z w:=by simp[zeroValue,typeInfo,eP,hz]
 rcases NZ.find w LA vs.toList sn with⟨hf,su⟩ | ⟨j,ent,hf,hj,RJ⟩
 .have af1:dH es ks=none:=by
   refine Di (fun e he NX=>?_);obtain⟨j,hj,Oj⟩:=mem_iff_getElem.1 he;have hjv:j<vs.size:=by rw[d4];exact hj
   obtain⟨a1,_,_⟩:=hcell j vs[j] e.1 e.2 (by simp[hjv]) (by rw[qb hj,Oj]);exact su vs[j] (Array.mem_toList_iff.2 (Array.getElem_mem hjv)) (by rw[a1,NX])
  refine⟨rfl,OpOK.still (u:=if ok then .tuple #[z,.bool false] else z) h ?_ ?_⟩
  .simp only[execOp,ho,Lr,hku];cases ok<;>simp[Instr.lookup,run_underlying hu,b_,zM,hf,hzv]
  rw[af1];cases ok with
  | false=>exact hzr w X ρ
  | true=>exact .tup _ _ rfl (fun i u c hu hc=>by
   match i with
   | 0=>simp at hu hc;subst hu;subst hc;exact hzr w X ρ
   | 1=>simp at hu hc;subst hu;subst hc;exact .fv _ _ (.lit _ rfl)
   | i+2=>simp at hu)
 obtain⟨k',v',h1,h2,h3,h4⟩:=Se j ent (by simpa using hj);have Jn:k'=ks:=Gk (h2.symm.trans RJ);rw[Jn] at h1;have af3:=tJ l6 h1;have hv:PRd w X ρ ent.val v':=Gl h4 h3;refine⟨rfl,OpOK.still (u:=if ok then .tuple #[ent.val,.bool true] else ent.val) h ?_ ?_⟩
 .simp only[execOp,ho,Lr,hku];cases ok<;>simp[Instr.lookup,run_underlying hu,b_,zM,hf]
 rw[af3];cases ok with
 | false=>exact hv
 | true=>exact .tup _ _ rfl (fun i u c hu hc=>by
  match i with
  | 0=>simp at hu hc;subst hu;subst hc;exact hv
  | 1=>simp at hu hc;subst hu;subst hc;exact .fv _ _ (.lit _ rfl)
  | i+2=>simp at hu)
theorem vK: ∀ {es:List (List Int×PV)} {k:List Int} {v:PV},(∀ e∈es,e.1≠k)->jG es k v=es++[(k,v)]
 | [],k,v,_=>rfl
 | e::es,k,v,h=>by
  have cM:(e.1==k)=false:=by rw[qx];exact h e (by simp)
  simp only[jG,cM];rw[vK (fun e he=>h e (ql _ he))];rfl
theorem vL: ∀ {es:List (List Int×PV)} {k:List Int} {v u:PV} {i:Nat},(es.map (·.1)).Nodup->es[i]?=some (k,u)->jG es k v=es.set i (k,v)
 | [],k,v,u,i,_,h=>by simp at h
 | e::es,k,v,u,i,hn,h=>by
  rw[map_cons,List.nodup_cons] at hn;cases i with
  | zero=>
   simp at h;subst h;simp[jG]
  | succ i=>
   simp at h;have bf:k∈es.map (·.1):=mem_map.2 ⟨(k,u),mem_of_getElem? h,rfl⟩;have cM:(e.1==k)=false:=by
    rw[qx];intro he;exact hn.1 (he ▸ bf)
   simp only[jG,cM];rw[vL hn.2 h];rfl
theorem HRd.reTab {c:gF} {w:World} {X:Nat->Prop} {ρ:Places} {F:List Ob} (h:HRd c w X ρ F) {id g n:Nat} {p:Place} {es es':List (List Int×PV)} {vs vs':Array MapEntry} {clock clock':Nat}
 (hp:ρ[id]?=some (some p)) (f6:F[id]?=some (.tab n es)) (zO:p.b=some g) (hh:w.heap[g]?=some (.map vs clock))
 (NU: ∀ e∈es',e.1.length=n/\ ∀ x∈e.1,-9223372036854775808<=x/\x<9223372036854775808) (d4:vs'.size=es'.length) (l6:(es'.map (·.1)).Nodup)
 (hcell: ∀ (i:Nat) e k v,vs'[i]?=some e->es'[i]?=some (k,v)->e.key= .agg (k.map (Value.int .i64)).toArray/\still v=true/\PRd w X [] e.val v):
 ∃ X',Stp c w {w with heap:=w.heap.setIfInBounds g (.map vs' clock')} X X' ρ ρ/\HRd c {w with heap:=w.heap.setIfInBounds g (.map vs' clock')} X' ρ (F.set id (.tab n es')):=by
 have aH:g<w.heap.size:=(Array.getElem?_eq_some_iff.1 hh).1
 have vo:X g:=(h.ob id p _ hp f6).2 g zO
 have oB:w.grownBy {w with heap:=w.heap.setIfInBounds g (.map vs' clock')} (some g):=
  ⟨rfl,rfl,rfl,by simp,fun k _ hk=>by simp[Array.getElem?_setIfInBounds_ne (show g≠k from fun e=>hk (by rw[e]))]⟩
 have iE: ∀ b,(X b\/p.b=some b)->X b:=fun b hb=>by
  rcases hb with hb | hb
  .exact hb
  rw[zO] at hb;cases hb;exact vo
 have bV:=h.put (id:=id) (p:=p) (ob:= .tab n es') (row:=some g) (w':={w with heap:=w.heap.setIfInBounds g (.map vs' clock')}) (List.getElem?_eq_some_iff.1 f6).1 (.inr hp) oB
  (by intro g' jM;cases jM;exact vo)
  (fun j2 q o2 g2 DN hq gB iQ eo=>by
   have cM:g2≠g:=by
    intro he;subst he;exact DN (h.inj j2 id q p o2 _ g2 hq hp gB f6 iQ rfl eo zO)
   exact⟨by simp[cM],by rw[zO];simp;exact fun he=>cM he.symm⟩)
  (fun g2 et=>by rw[zO] at et;cases et;exact .inr vo)
  (fun g2 et=>by rw[zO] at et;cases et;exact⟨(h.own id p _ g hp f6 rfl zO).1,Nat.lt_of_lt_of_le (h.own id p _ g hp f6 rfl zO).2 oB.size⟩)
  (fun g2 et=>by cases et;exact(h.own id p _ g hp f6 rfl zO).1)
  ⟨⟨NU,g,clock',vs',zO,by simp[aH],d4,l6,fun i e k v he hv=>by
   obtain⟨a1,a2,a3⟩:=hcell i e k v he hv;exact⟨a1,a2,a3.mono ⟨oB.size,fun b hb lr=>oB.block b hb (fun he=>lr (by cases he;exact vo))⟩ (fun b _ hb=>iE b hb) (Places.Le.refl [])⟩⟩,fun g2 et=> .inr et⟩
 rw[pq hp] at bV
 exact⟨_,bV.2,bV.1⟩
theorem Ae (hT:ck P T) (t:TypeId) (m k x:Operand):EffOp P T (.mapUpdate t m k x):=by
 intro c w X ρ H D R o e ρv r ho h hD hρ ak hc aD;have hm:=hρ m (by simp[Op.operands]);have hk:=hρ k (by simp[Op.operands]);have hx:=hρ x (by simp[Op.operands]);simp only[cx] at ak;split at ak;rotate_left
 .cases ak
 rename_i i id ks hi hmv hkv;split at ak;rotate_left
 .cases ak
 rename_i n zv n2 es hd f6;split at ak;rotate_left
 .cases ak
 rename_i rr;obtain⟨rk,rfl,hsx⟩:=rr;cases ak;simp only at hc aD;have gg:D=[]:=List.eq_nil_of_length_eq_zero (by simp at aD;simpa using aD);subst gg;rw[hmv] at hm;obtain⟨g,p,Lr,hp,zO⟩:=La hm;have hku:=K_ hk hkv;have aau:(H++([]++R))[id]?=some (.tab n2 es):=bn id _ f6;obtain⟨⟨NU,g2,clock,vs,et,hh,d4,l6,hcell⟩,_⟩:=h.ob id p _ hp aau;rw[zO] at et;cases et;have N':=(hT _ _ hi).desc;rw[hd] at N';obtain⟨kt,el,ti,z,hu,eP,hz,bP,hzr,NZ,Sd⟩:=N';obtain⟨lk,LA⟩:=Sd ks rk hc;have zM:=fun em=>NZ.check w em LA
 have af4:=NZ.stays w LA;have b_:(getObj g).run P w= .ok (.map vs clock) w:=by simp[getObj,Sem.run,hh]
 have a_: ∀ ob:Obj,(setObj g ob).run P w= .ok () {w with heap:=w.heap.setIfInBounds g ob}:=fun ob=>by simp[setObj,Sem.run,hh]
 have hxr:PRd w X [] (e x) (ρv x):=Gl hx hsx;have Se: ∀ (j:Nat) ent,vs[j]?=some ent-> ∃ k' v',es[j]?=some (k',v')/\ent.key= .agg (k'.map (Value.int .i64)).toArray/\still v'=true/\PRd w X [] ent.val v':=by
  intro j ent hj;have aH:j<es.length:=by rw[<-d4];exact(Array.getElem?_eq_some_iff.1 hj).1
  obtain⟨a1,a2,a3⟩:=hcell j ent es[j].1 es[j].2 hj (by simp[aH]);exact⟨_,_,by simp[aH],a1,a2,a3⟩
 have sn: ∀ e∈vs.toList,∃ l,keyOf P kt e.key=some l:=by
  intro ent he;obtain⟨j,hj,Oj⟩:=mem_iff_getElem.1 he;obtain⟨k',v',h1,h2,_⟩:=Se j ent (by rw[<-Oj];simp at hj;simp[hj]);obtain⟨b1,b2⟩:=NU _ (mem_of_getElem? h1);rw[h2];exact Sd k' b1 b2
 have Sc: ∀ ob:Ob,(H++([]++R)).set id ob=H.set id ob++R:=fun ob=>by
  rw[nil_append,set_append_left _ _ (List.getElem?_eq_some_iff.1 f6).1]
 rcases NZ.find w LA vs.toList sn with⟨hf,su⟩ | ⟨j,ent,hf,hj,RJ⟩
 .have hnk: ∀ e∈es,e.1≠ks:=fun e he NX=>by
   obtain⟨j,hj,Oj⟩:=mem_iff_getElem.1 he;have hjv:j<vs.size:=by rw[d4];exact hj
   obtain⟨a1,_,_⟩:=hcell j vs[j] e.1 e.2 (by simp[hjv]) (by rw[qb hj,Oj]);exact su vs[j] (Array.mem_toList_iff.2 (Array.getElem_mem hjv)) (by rw[a1,NX])
  rw[vK hnk];obtain⟨X',hs,w8⟩:=h.reTab (es':=es++[(ks,ρv x)]) (vs':=vs.push {key:= .agg (ks.map (Value.int .i64)).toArray,val:=e x,born:=clock}) (clock':=clock+1) hp aau zO hh
   (fun e he=>by
    rcases List.mem_append.1 he with he | he
    .exact NU e he
    rw[qz] at he;subst he;exact⟨rk,hc⟩)
   (by simp[d4])
   (by
    rw[v8,List.nodup_append];refine⟨l6,by simp,fun a ha b hb=>?_⟩;simp at hb;subst hb;obtain⟨e,he,rfl⟩:=mem_map.1 ha;exact hnk e he)
   (fun i e2 k2 v2 Hn mT=>by
    by_cases iH:i<vs.size
    .rw[Array.getElem?_push_lt iH] at Hn;rw[qi (by omega)] at mT;exact hcell i e2 k2 v2 (by rw[<-Hn];simp[iH]) mT
    have dU:i=vs.size:=by
     have:=(List.getElem?_eq_some_iff.1 mT).1;simp at this;omega
    subst dU;rw[getElem?_append_right (by omega),d4] at mT;simp at Hn mT;obtain⟨rfl,rfl⟩:=mT;subst Hn;exact⟨rfl,hsx,hxr⟩)
  rw[Sc] at w8;refine⟨undef,_,X',ρ,.inr ⟨?_,rfl⟩,hs,w8,.tup #[] [] rfl (by simp),fun _ _=>rfl⟩;simp only[execOp,ho,Lr,hku];simp[Instr.mapUpdate,run_underlying hu,b_,zM,hf,a_]
 obtain⟨k',v',h1,h2,h3,h4⟩:=Se j ent (by simpa using hj);have Jn:k'=ks:=Gk (h2.symm.trans RJ);rw[Jn] at h1;rw[vL l6 h1];have hjs:j<vs.size:=by rw[d4];exact(List.getElem?_eq_some_iff.1 h1).1
 have hvj:vs[j]?=some ent:=by simpa using hj
 obtain⟨X',hs,w8⟩:=h.reTab (es':=es.set j (ks,ρv x)) (vs':=vs.modify j fun q=>{q with key:= .agg (ks.map (Value.int .i64)).toArray,val:=e x}) (clock':=clock) hp aau zO hh
  (fun e he=>by
   rcases List.mem_or_eq_of_mem_set he with he | he
   .exact NU e he
   subst he;exact⟨rk,hc⟩)
  (by simp[d4])
  (by
   have:(es.set j (ks,ρv x)).map (·.1)=es.map (·.1):=by
    apply List.ext_getElem?;intro q;rw[List.getElem?_map,List.getElem?_map];by_cases hq:j=q
    .subst hq;rw[qv (by omega),h1];rfl
    rw[getElem?_set_ne hq]
   rw[this];exact l6)
  (fun i e2 k2 v2 Hn mT=>by
   by_cases qX:j=i
   .subst qX;rw[qv (by omega)] at mT;cases mT;rw[Array.getElem?_modify,if_pos rfl,hvj] at Hn;cases Hn;exact⟨rfl,hsx,hxr⟩
   rw[getElem?_set_ne qX] at mT;rw[Array.getElem?_modify,if_neg qX] at Hn;exact hcell i e2 k2 v2 Hn mT)
 rw[Sc] at w8;refine⟨undef,_,X',ρ,.inr ⟨?_,rfl⟩,hs,w8,.tup #[] [] rfl (by simp),fun _ _=>rfl⟩;have hvk:ent.key= .agg (ks.map (Value.int .i64)).toArray:=RJ;simp only[execOp,ho,Lr,hku];simp[Instr.mapUpdate,run_underlying hu,b_,zM,hf,a_,hvj,hvk,af4]
end
end Go.AM
namespace Go.AM
section
variable {P:Program} {T:Tab}
theorem MR {w:World} {n l h m:Nat} {lo hi mx:Option Operand} {e:Operand->Value} {ρv:Operand->PV} {X:Nat->Prop} {ρ:Places}
 (fF: ∀ x∈lo.toArray,PRd w X ρ (e x) (ρv x)) (fE: ∀ x∈hi.toArray,PRd w X ρ (e x) (ρv x)) (NA: ∀ x∈mx.toArray,PRd w X ρ (e x) (ρv x)) {c1 c2 c3:Prop} (Ol:mx.isSome=true->hi.isSome=true)
 (dV:eg (lo.map ρv) 0=some (c1,l)) (eo:eg (hi.map ρv) n=some (c2,h)) (Ll:eg (mx.map ρv) n=some (c3,m)) (vR:c1) (qO:c2) (hc3:c3) (DP:l<=h) (hhm:h<=m) (aav:m<=n):
 (Instr.sliceBounds false n n (lo.map e) (hi.map e) (mx.map e)).run P w= .ok (l,h,m) w:=by
 rcases mL fF dV with⟨rfl,rfl,_⟩ | ⟨x,k,a,rfl,hx,rfl,rfl⟩<;>
  rcases mL fE eo with⟨rfl,rfl,_⟩ | ⟨y,k',b,rfl,hy,rfl,rfl⟩<;>
   rcases mL NA Ll with⟨rfl,rfl,_⟩ | ⟨z,k2,d,rfl,hz,rfl,rfl⟩
 .simp[Instr.sliceBounds]
 .simp at Ol
 .have h1:0<=b/\b<=(m:Int):=by omega
  simp[Instr.sliceBounds,Instr.sliceBound,hy,asIntOf,h1]
 .have h1:0<=d/\d<=(n:Int):=by omega
  have h2:0<=b/\b<=max d 0:=by omega
  simp[Instr.sliceBounds,Instr.sliceBound,hy,hz,asIntOf,h1,h2]
 .have h1:0<=a/\a<=(m:Int):=by omega
  simp[Instr.sliceBounds,Instr.sliceBound,hx,asIntOf,h1]
 .simp at Ol
 .have h1:0<=b/\b<=(m:Int):=by omega
  have h2:0<=a/\a<=max b 0:=by omega
  simp[Instr.sliceBounds,Instr.sliceBound,hx,hy,asIntOf,h1,h2]
 have h1:0<=d/\d<=(n:Int):=by omega
 have h2:0<=b/\b<=max d 0:=by omega
 have h3:0<=a/\a<=max b 0:=by omega
 simp[Instr.sliceBounds,Instr.sliceBound,hx,hy,hz,asIntOf,h1,h2,h3]
theorem QX {w:World} {X:Nat->Prop} {ad:Addr} {n m:Nat} {xs:List (List FV)} (hf:FRd w X (.slice (some ad) n n) (.sl xs)) (hm:m<=n):FRd w X (.slice (some ad) m m) (.sl (xs.take m)):=by
 cases hf with
 | sl _ _ _ s _ us hn hc hs h0 hX hb hcell hrd=>
  refine .sl ad m m s _ us (by simp;omega) (qp _) (fun x hx=>hs x (Cg hx)) h0 (fun hz=>hX (by omega)) (fun hz=>hb (by omega)) (fun i j x y hx hy=>?_) (fun i j x y hx hy=>?_)
  .rw[getElem?_take] at hx;split at hx
   .exact hcell i j x y hx hy
   cases hx
  rw[getElem?_take] at hx;split at hx
  .exact hrd i j x y hx hy
  cases hx
theorem Dk (hT:ck P T) {t:TypeId} {i:TyI} (hi:T.at t=some i) {n el:Nat} (kO:i.d= .arr n el) (x:Operand) (lo oC mx:Option Operand):EffOp P T (.slice t x lo oC mx):=by
 intro c w X ρ H D R o e ρv r ho h hD hρ ak hc aD;have hx:=hρ x (by simp[Op.operands]);have fF: ∀ y∈lo.toArray,PRd w X ρ (e y) (ρv y):=fun y hy=>hρ y (by simp[Op.operands] at hy ⊢;simp[hy])
 have fE: ∀ y∈oC.toArray,PRd w X ρ (e y) (ρv y):=fun y hy=>hρ y (by simp[Op.operands] at hy ⊢;simp[hy])
 have NA: ∀ y∈mx.toArray,PRd w X ρ (e y) (ρv y):=fun y hy=>hρ y (by simp[Op.operands] at hy ⊢;simp[hy])
 have hd:=(hT _ _ hi).desc;rw[kO] at hd;simp only[fK] at hd;simp only[cx,hi,kO] at ak;split at ak;rotate_left
 .cases ak
 rename_i ie id j off c1 l c2 hh c3 m l7 hv dV eo Ll;rw[hv] at hx;split at ak;rotate_left
 .cases ak
 rename_i rw cs f6;split at ak;rotate_left
 .cases ak
 rename_i fs DS;split at ak;rotate_left
 .cases ak
 rename_i hg;obtain⟨rfl,db,Jb,Ol⟩:=hg;cases ak;have h5:(shutIds (id::((cs.drop off).take (n*ie.size)).flatMap eY) H).length=H.length+D.length:=aD;rw[bh] at h5;have gg:D=[]:=List.eq_nil_of_length_eq_zero (by omega);subst gg;obtain⟨vR,qO,hc3,DP,hhm,aav,NY⟩:=hc;obtain⟨ti,z,eP,ef,_⟩:=(hT _ _ l7).info;have pL: ∀ k∈id::((cs.drop off).take (n*ie.size)).flatMap eY,k<H.length:=by
  intro k hk;rw[AK] at hk;rcases hk with rfl | hk
  .exact(List.getElem?_eq_some_iff.1 f6).1
  exact qK DS k hk
 generalize lD:e x=u at hx;cases hx with
 | ptr _ _ _ g p hp iL=>
  have akD:=MR (P:=P) (w:=w) fF fE NA Ol dV eo Ll vR qO hc3 DP hhm aav;refine OpOK.shutting pL h (u:= .slice (if m=l then some ⟨g,off,none⟩ else(some (⟨g,off,none⟩:Addr)).map (·.add (l*ie.size))) (hh - l) (m - l)) ?_ (fun X' hX hn=>?_)
  .have he:(0*p.size+off)=off:=by omega
   rw[he] at lD;simp only[execOp,ho,lD];simp only[Instr.sliceAt,Sem.run_bind,run_underlying hd,Result.andThen_ok,Instr.sureAddr,Sem.run_pure,akD,sizeOf,typeInfo,run_program,eP,ef];split<;>simp
  obtain⟨⟨g',us,jM,hhp,d4,c_,hcell⟩,_⟩:=h.ob id p _ hp (bn id _ f6);rw[iL] at jM;cases jM;have oH:fs.length=n*ie.size:=by rw[f4 DS];simp;omega
  have Oo: ∀ (k:Nat) y,fs[k]?=some y->w.cell? ⟨g,off+k,none⟩=some (us.getD (off+k) undef)/\FRd w X' (us.getD (off+k) undef) y:=by
   intro k y hy;have hk:k<n*ie.size:=by rw[<-oH];exact(List.getElem?_eq_some_iff.1 hy).1
   have aH:off+k<us.size:=by omega
   have hc5:((cs.drop off).take (n*ie.size))[k]?=some cs[off+k]:=by
    rw[getElem?_take,if_pos hk,List.getElem?_drop];simp[show off+k<cs.length by omega]
   obtain⟨y',Cf,NV⟩:=k_ DS k _ hc5;rw[hy] at Cf;cases Cf;rw[show us.getD (off+k) undef=us[off+k] by simp[aH]];refine⟨by rw[cell_of_row w g _ us _ _ hhp];simp[aH],?_⟩;refine lV h bn (hcell _ _ _ (Array.getElem?_eq_getElem aH) (by simp[show off+k<cs.length by omega])) NV hX (fun k2 iJ=>hn k2 ?_);rw[AK,List.mem_flatMap];exact .inr ⟨_,mem_of_getElem? hc5,iJ⟩
  have Sb:FRd w X' (.slice (some ⟨g,off,none⟩) n n) (.sl (dA ie.size n fs)):=by
   refine .sl _ n n ie.size _ (fun i j=>us.getD (off+(i*ie.size+j)) undef) (gI _ _ _) (qp _) (sd oH) rfl (fun _=>hn id (by simp) p _ g hp (bn id _ f6) trivial iL) (fun _=>(Array.getElem?_eq_some_iff.1 hhp).1) (fun i j x y hx hy=>?_) (fun i j x y hx hy=>?_)
   .exact(Oo _ _ (po hx hy).1).1
   exact(Oo _ _ (po hx hy).1).2
  have iE:=Da (QX Sb aav) (sz:=ie.size) (fun x hx=>sd oH x (Cg hx)) (cap:=m) DP hhm;have hte:(((dA ie.size n fs).take m).drop l).take (hh - l)=((dA ie.size n fs).drop l).take (hh - l):=by
   rw[List.drop_take,List.take_take,Nat.min_eq_left (by omega)]
  rw[hte] at iE;show PRd w X' ρ _ (if m=hh then _ else _);by_cases hmh:m=hh
  .rw[if_pos hmh];have e1:m - l=hh - l:=by rw[hmh]
   rw[e1] at iE ⊢;exact .clip _ _ _ iE
  rw[if_neg hmh];exact .fv _ _ iE
theorem vM {w:World} {t:TypeId} {ti:TypeInfo} (eP:P.info? t=some ti) {v:Value} (hv:v.cells.size=ti.size) {g o e':Nat} {cur:Array Value} (hg:w.heap[g]?=some (.cells cur e' (0,0)))
 (hl:o+v.cells.size<=cur.size) (h1: ∀ (i:Nat) u,v.cells[i]?=some u->u.oneCell'=true):
 (Instr.storeAt t (.pointer (some ⟨g,o,none⟩)) v).run P w= .ok () (w.setRow g (cur.toList.take o++v.cells.toList++cur.toList.drop (o+v.cells.size)).toArray):=by
 have bP:=run_storeCells_at P g o e' v.cells.toList 0 cur w hg (by simpa using hl) (fun u hu=>by
  obtain⟨i,hi⟩:=getElem?_of_mem hu;exact h1 i u (by simpa using hi))
 simp only[Nat.add_zero,Array.length_toList] at bP
 simp[Instr.storeAt,Instr.sureAddr,storeVar,sizeOf,typeInfo,eP,hv,bP]
theorem MS (hT:ck P T) (t:TypeId) (a x:Operand):EffOp P T (.store t a x):=by
 intro c w X ρ H D R o e ρv r ho h hD hρ ak hc aD;have ha:=hρ a (by simp[Op.operands]);have hx:=hρ x (by simp[Op.operands]);simp only[cx] at ak;split at ak;rotate_left
 .cases ak
 rename_i i hi;obtain⟨ti,z,eP,ef,_⟩:=(hT _ _ hi).info;split at ak;rotate_left
 .cases ak
 rename_i id j off hv;rw[hv] at ha;split at ak;rotate_left
 .cases ak
 rename_i cd H' bP;cases ak;obtain⟨kM,fG,db⟩:=hc;obtain⟨eI,c_⟩:=sb hx (by omega);have N0:=yP hx;generalize lD:e a=u at ha;cases ha with
 | ptr _ _ _ g p hp iL=>
  unfold storeAt at bP;split at bP
  .rename_i xs0 f6;split at bP;rotate_left
   .cases bP
   rename_i fs xs DS N3;cases bP;have pL:=qK DS;have JB:((gL H (ρv x).cells).set id (Ob.row true (xs.set j (eJ (xs.getD j []) off fs)))).length=H.length+D.length:=aD;rw[length_set] at JB;unfold gL at JB;rw[bh] at JB;have gg:D=[]:=List.eq_nil_of_length_eq_zero (by omega);subst gg;obtain⟨X1,h1,tU,kL⟩:=h.shutIds ((ρv x).cells.flatMap eY);rw[eM _ pL] at h1;obtain⟨lC,NY⟩:=kM;have eu:(shutIds ((ρv x).cells.flatMap eY) H++([]++R))[id]?=some (.row true xs):=bn id _ N3;obtain⟨⟨zE,lF,us,gK,Sa⟩,zF⟩:=h1.ob id p _ hp eu;have vo:X1 g:=(zF g iL).1 rfl;have om:w.ownsRow 0 p.e p.size (.slice (some ⟨g,0,none⟩) xs.length p.cap) xs.length us:=by simpa [Place.val,iL] using gK
   obtain⟨zo,eG⟩:=om;rcases eG with⟨h5,_⟩ | ⟨g',cap',cur,h5,_,jN,qY,qV,vp,t6⟩
   .cases h5
   cases h5;have hgj:xs[j]?=some (xs.getD j []):=by simp[lC]
   have hxj:(xs.getD j []).length=p.size:=lF _ (mem_of_getElem? hgj);have AI:(j+1)*p.size<=xs.length*p.size:=qn _ lC;have G7:xs.length*p.size<=p.cap*p.size:=qn _ qY;rw[Nat.add_mul] at AI;have akF:=f4 DS;have cO:=vM (P:=P) (w:=w) eP (v:=e x) (by omega) (o:=j*p.size+off) jN (by omega) c_;have oB:=iA w g (cur.toList.take (j*p.size+off)++(e x).cells.toList++cur.toList.drop (j*p.size+off+(e x).cells.size)).toArray;have b_:=fun k=>iB (cur:=cur) (o:=j*p.size+off) (vs:=(e x).cells.toList) (by simp;omega) k
   simp only[Array.length_toList,Array.getElem?_toList] at b_;have rB:=setRow_heap w g cur (cur.toList.take (j*p.size+off)++(e x).cells.toList++cur.toList.drop (j*p.size+off+(e x).cells.size)).toArray p.e (0,0) jN;have ei:(execOp e o).run P w= .ok .skip (w.setRow g (cur.toList.take (j*p.size+off)++(e x).cells.toList++cur.toList.drop (j*p.size+off+(e x).cells.size)).toArray):=by
    simp only[execOp,ho,lD,Sem.run_bind,cO,Result.andThen_ok,Sem.run_pure]
   generalize mR:(cur.toList.take (j*p.size+off)++(e x).cells.toList++cur.toList.drop (j*p.size+off+(e x).cells.size)).toArray=new at ei oB b_ rB;have G9:new.size=cur.size:=by
    rw[<-mR];simp;omega
   have aaw: ∀ (k:Nat),k<xs.length*p.size->us[k]?=cur[k]?:=by
    intro k hk;rw[<-t6,getElem?_take,if_pos hk];simp
   have zG:(w.setRow g new).ownsRow 0 p.e p.size (.slice (some ⟨g,0,none⟩) xs.length p.cap) xs.length (new.toList.take (xs.length*p.size)):=by
    refine⟨by have e9:new.toList.length=cur.size:=G9;rw[qf,e9,vp,Nat.min_eq_left G7],.inr ⟨g,p.cap,new,rfl,eH _,rB,qY,qV,by rw[G9,vp],rfl⟩⟩
   have akG: ∀ (k:Nat) u y,(e x).cells[k]?=some u->fs[k]?=some y->FRd w X1 u y:=by
    intro k u y hu hy;have aH:k<(ρv x).cells.length:=by rw[<-akF];exact(List.getElem?_eq_some_iff.1 hy).1
    obtain⟨y',Cf,NV⟩:=k_ DS k (ρv x).cells[k] (by simp[aH]);rw[hy] at Cf;cases Cf;refine lV h bn (N0 k u _ hu (by simp[aH])) NV tU (fun k2 iJ=>kL k2 ?_);rw[List.mem_flatMap];exact⟨_,by simp,iJ⟩
   have bV:=h1.put (id:=id) (p:=p) (ob:= .row true (xs.set j (eJ (xs.getD j []) off fs))) (row:=some g) (w':=w.setRow g new) (by have:=(List.getElem?_eq_some_iff.1 eu).1;exact this) (.inr hp) oB
    (by intro g' jM;cases jM;exact vo)
    (fun j2 q o2 g2 DN hq gB iQ eo=>by
     have cM:g2≠g:=by
      intro he;subst he;exact DN (h1.inj j2 id q p o2 _ g2 hq hp gB eu iQ rfl eo iL)
     exact⟨by simp[cM],by rw[iL];simp;exact fun he=>cM he.symm⟩)
    (fun g2 et=>by rw[iL] at et;cases et;exact .inr vo)
    (fun g2 et=>by rw[iL] at et;cases et;exact⟨(h1.own id p _ g hp eu rfl iL).1,Nat.lt_of_lt_of_le (h1.own id p _ g hp eu rfl iL).2 oB.size⟩)
    (fun g2 et=>by cases et;exact(h1.own id p _ g hp eu rfl iL).1)
    ⟨⟨zE,by
     intro y hy;obtain⟨k,hk⟩:=getElem?_of_mem hy;by_cases hkj:j=k
     .subst hkj;rw[qv lC] at hk;cases hk;rw[gH (by omega)];exact hxj
     .rw[getElem?_set_ne hkj] at hk;exact lF y (mem_of_getElem? hk),new.toList.take (xs.length*p.size),by rw[length_set];simpa [Place.val,iL] using zG,by
     intro i2 k y1 y2 Aw vi;have pM: ∀ {u y},FRd w X1 u y->FRd (w.setRow g new) (fun b=>X1 b\/p.b=some b) u y:=fun hf=>hf.mono ⟨oB.size,fun b hb lr=>oB.block b hb (fun he=>lr (by cases he;exact vo))⟩ (fun b hb lr=>by
      rcases lr with lr | lr
      .exact lr
      rw[iL] at lr;cases lr;exact vo)
     have iH:i2<xs.length:=by have:=(List.getElem?_eq_some_iff.1 Aw).1;simpa using this
     have G8:(i2+1)*p.size<=xs.length*p.size:=qn _ iH;rw[Nat.add_mul] at G8;by_cases qX:j=i2
     .subst qX;rw[qv lC] at Aw;cases Aw;have hk:k<p.size:=by
       have:=(List.getElem?_eq_some_iff.1 vi).1;rw[gH (by omega)] at this;omega
      rw[jb (by omega)] at vi;have akH:(new.toList.take (xs.length*p.size))[j*p.size+k]?=new[j*p.size+k]?:=by
       rw[getElem?_take,if_pos (by omega)];simp
      rw[akH,b_];by_cases jD:k<off
      .rw[if_pos jD] at vi;rw[if_pos (by omega)];obtain⟨u,hu,hf⟩:=Sa j k _ y2 hgj vi;rw[aaw _ (by omega)] at hu;exact⟨u,hu,pM hf⟩
      rw[if_neg jD] at vi;rw[if_neg (by omega)];by_cases iJ:k<off+fs.length
      .rw[if_pos iJ] at vi;rw[if_pos (by omega)];have aH:k - off<(e x).cells.size:=by omega
       rw[show j*p.size+k - (j*p.size+off)=k - off by omega];exact⟨(e x).cells[k - off],by simp[aH],pM (akG _ _ _ (by simp[aH]) vi)⟩
      rw[if_neg iJ] at vi;rw[if_neg (by omega)];obtain⟨u,hu,hf⟩:=Sa j k _ y2 hgj vi;rw[aaw _ (by omega)] at hu;exact⟨u,hu,pM hf⟩
     .rw[getElem?_set_ne qX] at Aw;have hk:k<p.size:=by rw[<-lF y1 (mem_of_getElem? Aw)];exact(List.getElem?_eq_some_iff.1 vi).1
      obtain⟨u,hu,hf⟩:=Sa i2 k y1 y2 Aw vi;refine⟨u,?_,pM hf⟩;rw[getElem?_take,if_pos (by omega),Array.getElem?_toList,b_,<-hu,aaw _ (by omega)];have VS:i2*p.size+k<j*p.size+off\/j*p.size+off+(e x).cells.size<=i2*p.size+k:=by
       rcases Nat.lt_or_gt_of_ne qX with aH | AE
       .right;have:(j+1)*p.size<=i2*p.size:=qn _ aH;rw[Nat.add_mul] at this;omega
       left;have:(i2+1)*p.size<=j*p.size:=qn _ AE;rw[Nat.add_mul] at this;omega
      rcases VS with VS | VS
      .rw[if_pos VS]
      rw[if_neg (by omega),if_neg (by omega)]⟩,
     fun g2 et=>⟨fun _=> .inr et,fun _=>rfl⟩⟩
   rw[pq hp] at bV;have Sc:(shutIds ((ρv x).cells.flatMap eY) H++([]++R)).set id (.row true (xs.set j (eJ (xs.getD j []) off fs)))=(gL H (ρv x).cells).set id (.row true (xs.set j (eJ (xs.getD j []) off fs)))++R:=by
    rw[nil_append,set_append_left _ _ (by rw[bh];exact(List.getElem?_eq_some_iff.1 f6).1)];rfl
   rw[Sc] at bV;exact⟨undef,_,_,ρ,.inr ⟨ei,rfl⟩,(Stp.same_world tU).trans bV.2,bV.1,.tup #[] [] rfl (by simp),fun _ _=>rfl⟩
  .rename_i cs f6;cases bP;have JB:(H.set id (Ob.box true (eJ cs off (ρv x).cells))).length=H.length+D.length:=aD;rw[length_set] at JB;have gg:D=[]:=List.eq_nil_of_length_eq_zero (by omega);subst gg;obtain⟨rfl,NY⟩:=kM;have eu:(H++([]++R))[id]?=some (.box true cs):=bn id _ f6;obtain⟨⟨g',cur,jM,jN,vp,XK,hcell⟩,zF⟩:=h.ob id p _ hp eu;rw[iL] at jM;cases jM;have vo:X g:=(zF g iL).1 rfl;have he:(0*p.size+off)=off:=by omega
   rw[he] at lD;have cO:=vM (P:=P) (w:=w) eP (v:=e x) (by omega) (o:=off) jN (by omega) c_;have oB:=iA w g (cur.toList.take off++(e x).cells.toList++cur.toList.drop (off+(e x).cells.size)).toArray;have b_:=fun k=>iB (cur:=cur) (o:=off) (vs:=(e x).cells.toList) (by simp;omega) k
   simp only[Array.length_toList,Array.getElem?_toList] at b_;have rB:=setRow_heap w g cur (cur.toList.take off++(e x).cells.toList++cur.toList.drop (off+(e x).cells.size)).toArray p.e (0,0) jN;have ei:(execOp e o).run P w= .ok .skip (w.setRow g (cur.toList.take off++(e x).cells.toList++cur.toList.drop (off+(e x).cells.size)).toArray):=by
    simp only[execOp,ho,lD,Sem.run_bind,cO,Result.andThen_ok,Sem.run_pure]
   generalize mR:(cur.toList.take off++(e x).cells.toList++cur.toList.drop (off+(e x).cells.size)).toArray=new at ei oB b_ rB;have G9:new.size=cur.size:=by
    rw[<-mR];simp;omega
   have bV:=h.put (id:=id) (p:=p) (ob:= .box true (eJ cs off (ρv x).cells)) (row:=some g) (w':=w.setRow g new) (by have:=(List.getElem?_eq_some_iff.1 eu).1;exact this) (.inr hp) oB
    (by intro g' jM;cases jM;exact vo)
    (fun j2 q o2 g2 DN hq gB iQ eo=>by
     have cM:g2≠g:=by
      intro he;subst he;exact DN (h.inj j2 id q p o2 _ g2 hq hp gB eu iQ rfl eo iL)
     exact⟨by simp[cM],by rw[iL];simp;exact fun he=>cM he.symm⟩)
    (fun g2 et=>by rw[iL] at et;cases et;exact .inr vo)
    (fun g2 et=>by rw[iL] at et;cases et;exact⟨(h.own id p _ g hp eu rfl iL).1,Nat.lt_of_lt_of_le (h.own id p _ g hp eu rfl iL).2 oB.size⟩)
    (fun g2 et=>by cases et;exact(h.own id p _ g hp eu rfl iL).1)
    ⟨⟨g,new,iL,rB,by rw[G9,vp,gH (by omega)],by
     intro k u hu;rw[b_] at hu;split at hu
     .exact XK _ _ hu
     .split at hu
      .exact c_ _ _ hu
      exact XK _ _ hu,by
     intro k u y hu hy;have pM: ∀ {u y},PRd w X ρ u y->PRd (w.setRow g new) (fun b=>X b\/p.b=some b) (ρ.set id (some p)) u y:=fun hf=>hf.mono ⟨oB.size,fun b hb lr=>oB.block b hb (fun he=>lr (by cases he;exact vo))⟩ (fun b hb lr=>by
      rcases lr with lr | lr
      .exact lr
      rw[iL] at lr;cases lr;exact vo) (Places.Le.set (.inr hp))
     rw[b_] at hu;rw[jb (by omega)] at hy;by_cases jD:k<off
     .rw[if_pos jD] at hu hy;exact pM (hcell _ _ _ hu hy)
     .rw[if_neg jD] at hu hy;by_cases iJ:k<off+(ρv x).cells.length
      .rw[if_pos (by omega)] at hu;rw[if_pos iJ] at hy;exact pM (N0 _ _ _ hu hy)
      rw[if_neg (by omega)] at hu;rw[if_neg iJ] at hy;exact pM (hcell _ _ _ hu hy)⟩,
     fun g2 et=>⟨fun _=> .inr et,fun _=>rfl⟩⟩
   rw[pq hp] at bV;have Sc:(H++([]++R)).set id (.box true (eJ cs off (ρv x).cells))=H.set id (.box true (eJ cs off (ρv x).cells))++R:=by
    rw[nil_append,set_append_left _ _ (List.getElem?_eq_some_iff.1 f6).1]
   rw[Sc] at bV;exact⟨undef,_,_,ρ,.inr ⟨ei,rfl⟩,bV.2,bV.1,.tup #[] [] rfl (by simp),fun _ _=>rfl⟩
  cases bP
theorem Gn (hT:ck P T) (op:Op):EffOp P T op:=by
 intro c w X ρ H D R o e ρv r ho h hD hρ ak hc aD;have jS:=ak;unfold cx at jS;cases op with
 | move x=>exact EffOp.of_still (Iu x) ho h hD hρ ak hc aD
 | assign x=>exact EffOp.of_still (C' x) ho h hD hρ ak hc aD
 | pick x a b=>exact EffOp.of_still (Iv x a b) ho h hD hρ ak hc aD
 | alloc t=>exact MP hT t ho h hD hρ ak hc aD
 | box t x=>exact Ui t x ho h hD hρ ak hc aD
 | build t parts=>exact EffOp.of_still (Gg hT t parts) ho h hD hρ ak hc aD
 | buildSlice t len parts=>exact yT hT t len parts ho h hD hρ ak hc aD
 | load t a=>exact EffOp.of_still (Ix hT t a) ho h hD hρ ak hc aD
 | store t a x=>exact MS hT t a x ho h hD hρ ak hc aD
 | nilCheck x=>exact EffOp.of_still (yM x) ho h hD hρ ak hc aD
 | binOp op t x y t'=>exact EffOp.of_still (F9 hT op t x y t') ho h hD hρ ak hc aD
 | unOp op t x=>exact EffOp.of_still (Iw op t x) ho h hD hρ ak hc aD
 | convert s d x=>exact EffOp.of_still (Aa hT s d x) ho h hD hρ ak hc aD
 | makeSlice t l k=>exact Ad hT t l k ho h hD hρ ak hc aD
 | makeFunc fn a b=>exact De fn a b ho h hD hρ ak hc aD
 | fieldAddr t x f=>exact EffOp.of_still (wi hT t x f) ho h hD hρ ak hc aD
 | field t x f=>exact EffOp.of_still (F_ hT t x f) ho h hD hρ ak hc aD
 | indexAddr t x ix=>exact EffOp.of_still (wj hT t x ix) ho h hD hρ ak hc aD
 | index t x ix=>exact EffOp.of_still (Ga hT t x ix) ho h hD hρ ak hc aD
 | extract x ix=>exact EffOp.of_still (Ab x ix) ho h hD hρ ak hc aD
 | slice t x lo hi mx=>
  simp only at jS;split at jS;rotate_left
  .cases jS
  rename_i i hi;split at jS
  .rename_i el kO;exact EffOp.of_still (Gb hT hi kO x lo _) ho h hD hρ ak hc aD
  .rename_i el mv kO;exact EffOp.of_still (Db hT (by assumption) kO x lo _ _) ho h hD hρ ak hc aD
  .rename_i n el kO;exact Dk hT (by assumption) kO x lo _ _ ho h hD hρ ak hc aD
  .cases jS
 | makeMap t r=>
  cases r with
  | none=>exact Gm hT t ho h hD hρ ak hc aD
  | some r=>simp only at jS;cases jS
 | lookup t m k ok=>exact EffOp.of_still (Dj hT t m k ok) ho h hD hρ ak hc aD
 | mapUpdate t m k x=>exact Ae hT t m k x ho h hD hρ ak hc aD
 | _=>simp only at jS;cases jS
end
end Go.AM
namespace Go.AM
section
variable {P:Program} {T:Tab}
theorem PRd.reloc1 {w:World} {X X':Nat->Prop} {ρ ρ':Places} {u:Value} {x:PV} (f:Nat->Nat) (h:PRd w X ρ u x) (hX: ∀ b,b<w.heap.size->X' b->X b) (hρ: ∀ (j:Nat) p,ρ[j]?=some (some p)->ρ'[f j]?=some (some p))
 (h1:u.oneCell'=true):PRd w X' ρ' u (reloc1 f x):=by
 cases h with
 | any=>exact .any _
 | fv _ _ h=>exact .fv _ _ (h.mono (Same.refl X w) hX)
 | nilsl=>exact .nilsl
 | clip a n xs h=>exact .clip a n xs (h.mono (Same.refl X w) hX)
 | ptr id i off g p hp hg=>exact .ptr (f id) i off g p (hρ _ _ hp) hg
 | lsl0 id p hp hg=>exact .lsl0 (f id) p (hρ _ _ hp) hg
 | lsl id off len o g p hp hg hl ho=>exact .lsl (f id) off len o g p (hρ _ _ hp) hg hl ho
 | agg=>cases h1
 | tup=>cases h1
 | tab id g p hp hg=>exact .tab (f id) g p (hρ _ _ hp) hg
theorem PRd.reloc {w:World} {X X':Nat->Prop} {ρ ρ':Places} {u:Value} {x:PV} (f:Nat->Nat) (h:PRd w X ρ u x) (hX: ∀ b,b<w.heap.size->X' b->X b) (hρ: ∀ (j:Nat) p,ρ[j]?=some (some p)->ρ'[f j]?=some (some p)):
 PRd w X' ρ' u (reloc f x):=by
 have kb: ∀ (us:Array Value) (cs:List PV),us.size=cs.length->(∀ (i:Nat) u,us[i]?=some u->u.oneCell'=true)->(∀ (i:Nat) u c,us[i]?=some u->cs[i]?=some c->PRd w X ρ u c)->PRd w X' ρ' (.agg us) (.agg (cs.map (AM.reloc1 f))):=by
  intro us cs hn h1 hr;refine .agg us _ (by simpa using hn) h1 (fun i u y hu hy=>?_);rw[List.getElem?_map,Option.map_eq_some_iff] at hy;obtain⟨z,hz,rfl⟩:=hy;exact(hr i u z hu hz).reloc1 f hX hρ (h1 i u hu)
 cases h with
 | any=>exact .any _
 | fv _ _ h=>exact .fv _ _ (h.mono (Same.refl X w) hX)
 | nilsl=>exact .nilsl
 | clip a n xs h=>exact .clip a n xs (h.mono (Same.refl X w) hX)
 | ptr id i off g p hp hg=>exact .ptr (f id) i off g p (hρ _ _ hp) hg
 | lsl0 id p hp hg=>exact .lsl0 (f id) p (hρ _ _ hp) hg
 | lsl id off len o g p hp hg hl ho=>exact .lsl (f id) off len o g p (hρ _ _ hp) hg hl ho
 | agg us cs hn h1 hr=>exact kb us cs hn h1 hr
 | tup us cs hn hr=>
  refine .tup us _ (by simpa using hn) (fun i u y hu hy=>?_);rw[List.getElem?_map,Option.map_eq_some_iff] at hy;obtain⟨z,hz,rfl⟩:=hy;have DL:=hr i u z hu hz;cases DL with
  | any=>exact .any _
  | fv _ _ h=>exact .fv _ _ (h.mono (Same.refl X w) hX)
  | nilsl=>exact .nilsl
  | clip a n xs h=>exact .clip a n xs (h.mono (Same.refl X w) hX)
  | ptr id i off g p hp hg=>exact .ptr (f id) i off g p (hρ _ _ hp) hg
  | lsl0 id p hp hg=>exact .lsl0 (f id) p (hρ _ _ hp) hg
  | lsl id off len o g p hp hg hl ho=>exact .lsl (f id) off len o g p (hρ _ _ hp) hg hl ho
  | agg us cs hn h1 hr=>exact kb us cs hn h1 hr
  | tup us cs hn hr=>exact .any _
  | tab id g p hp hg=>exact .tab (f id) g p (hρ _ _ hp) hg
 | tab id g p hp hg=>exact .tab (f id) g p (hρ _ _ hp) hg
theorem ObRd.keep {w w':World} {X X':Nat->Prop} {ρ ρ':Places} {p:Place} {o:Ob} (h:ObRd w X ρ p o) (hs:Same X w w') (hX: ∀ b,b<w.heap.size->X' b->X b) (hρ:ρ.Le ρ')
 (t8:o.alive-> ∀ g,p.b=some g->g<w.heap.size->w'.heap[g]?=w.heap[g]?/\(X' g↔X g)):ObRd w' X' ρ' p o:=by
 cases o with
 | dead=>trivial
 | row rw xs=>
  obtain⟨⟨db,aD,us,gK,hc⟩,hf⟩:=h;refine⟨⟨db,aD,us,?_,fun i j x y hx hy=>?_⟩,fun g hg=>?_⟩
  .refine⟨gK.1,?_⟩;rcases gK.2 with h1 | ⟨g,cap,cur,h1,h2,h3,h4⟩
   .exact .inl h1
   refine .inr ⟨g,cap,cur,h1,h2,?_,h4⟩;have hpb:p.b=some g:=by
    unfold Place.val at h1;cases hb:p.b with
    | none=>rw[hb] at h1;cases h1
    | some g'=>rw[hb] at h1;cases h1;rfl
   rw[(t8 trivial g hpb (Array.getElem?_eq_some_iff.1 h3).1).1];exact h3
  .obtain⟨u,hu,uh⟩:=hc i j x y hx hy;exact⟨u,hu,uh.mono hs hX⟩
  .have aH:=lU gK hg;rw[(t8 trivial g hg aH).2];exact hf g hg
 | box rw cs=>
  obtain⟨⟨g,us,hg,hh,d4,h1,hc⟩,hf⟩:=h;have aH:g<w.heap.size:=(Array.getElem?_eq_some_iff.1 hh).1;refine⟨⟨g,us,hg,by rw[(t8 trivial g hg aH).1];exact hh,d4,h1,fun i u x hu hx=>(hc i u x hu hx).mono hs hX hρ⟩,fun g2 et=>?_⟩;rw[hg] at et;cases et;rw[(t8 trivial g hg aH).2];exact hf g hg
 | tab n es=>
  obtain⟨⟨NU,g,clock,vs,hg,hh,d4,l6,hc⟩,hf⟩:=h;have aH:g<w.heap.size:=(Array.getElem?_eq_some_iff.1 hh).1;refine⟨⟨NU,g,clock,vs,hg,by rw[(t8 trivial g hg aH).1];exact hh,d4,l6,fun i e k v he hv=>?_⟩,fun g2 et=>?_⟩
  .obtain⟨a1,a2,a3⟩:=hc i e k v he hv;exact⟨a1,a2,a3.mono hs hX (Places.Le.refl [])⟩
  rw[hg] at et;cases et;exact(t8 trivial g hg aH).2.2 (hf g hg)
theorem Ob.alive_of_rw {o:Ob} (h:o.rw=true):o.alive:=by
 cases o with
 | dead=>cases h
 | row=>trivial
 | box=>trivial
 | tab=>trivial
theorem se (f:Nat->Nat) (o:Ob):(relocOb f o).rw=o.rw:=by cases o<;>rfl
theorem ObRd.moved {w:World} {X X':Nat->Prop} {ρ ρ':Places} {p:Place} {o:Ob} (f:Nat->Nat) (h:ObRd w X ρ p o) (hX: ∀ b,b<w.heap.size->X' b->X b) (hρ: ∀ (j:Nat) p,ρ[j]?=some (some p)->ρ'[f j]?=some (some p))
 (t8:o.alive-> ∀ g,p.b=some g->(X' g↔X g)):ObRd w X' ρ' p (relocOb f o):=by
 cases o with
 | dead=>trivial
 | row rw xs=>
  obtain⟨⟨db,aD,us,gK,hc⟩,hf⟩:=h;refine⟨⟨db,aD,us,gK,fun i j x y hx hy=>?_⟩,fun g hg=>?_⟩
  .obtain⟨u,hu,uh⟩:=hc i j x y hx hy;exact⟨u,hu,uh.mono (Same.refl X w) hX⟩
  .rw[t8 trivial g hg];exact hf g hg
 | box rw cs=>
  obtain⟨⟨g,us,hg,hh,d4,h1,hc⟩,hf⟩:=h;refine⟨⟨g,us,hg,hh,by simpa using d4,h1,fun i u x hu hx=>?_⟩,fun g2 et=>?_⟩
  .rw[List.getElem?_map,Option.map_eq_some_iff] at hx;obtain⟨y,hy,rfl⟩:=hx;exact(hc i u y hu hy).reloc1 f hX hρ (h1 i u hu)
  .rw[t8 trivial g2 et];exact hf g2 et
 | tab n es=>
  obtain⟨⟨NU,g,clock,vs,hg,hh,d4,l6,hc⟩,hf⟩:=h;refine⟨⟨NU,g,clock,vs,hg,hh,d4,l6,fun i e k v he hv=>?_⟩,fun g2 et=>(t8 trivial g2 et).2 (hf g2 et)⟩;obtain⟨a1,a2,a3⟩:=hc i e k v he hv;exact⟨a1,a2,a3.mono (Same.refl X w) hX (Places.Le.refl [])⟩
theorem BV {c c1:gF} {w w':World} {X1 X2:Nat->Prop} {ρ ρ2 ρ3:Places} {F F' H1:List Ob} (f:Nat->Nat) (vR:c1.w0=w) (h:HRd c w X1 ρ F) (jD:Keeps c1 w') (h2:HRd c1 w' X2 ρ2 H1)
 (hXo: ∀ b,X1 b-> ¬c1.M b->c1.Xo b) (hMX: ∀ b,c1.M b->X1 b) (Sf: ∀ b,c1.M b->(c.w0.heap.size<=b\/c.M b)/\b<w.heap.size)
 (nW: ∀ (i:Nat) p o g,(∀ j,j<H1.length->f j≠i)->ρ[i]?=some (some p)->F[i]?=some o->o.alive->p.b=some g-> ¬c1.M g)
 (mR: ∀ (j:Nat) p g,ρ2[j]?=some (some p)->p.b=some g->w.heap.size<=g\/c1.M g)
 (aD:ρ3.length=F'.length) (hF1: ∀ (j:Nat) o,H1[j]?=some o->F'[f j]?=some (relocOb f o)) (hF2: ∀ i,(∀ j,j<H1.length->f j≠i)->F'[i]?=F[i]?)
 (XI: ∀ j,j<H1.length->ρ3[f j]?=ρ2[j]?) (hρ2: ∀ i,(∀ j,j<H1.length->f j≠i)->ρ3[i]?=ρ[i]?) (dR:ρ.Le ρ3):
 ∃ X3,HRd c w' X3 ρ3 F'/\Stp c w w' X1 X3 ρ ρ3/\ ∀ u x,PRd w' X2 ρ2 u x->PRd w' X3 ρ3 u (reloc f x):=by
 subst vR
 let X3 (b:Nat):Prop:=(b<c1.w0.heap.size/\X1 b/\ ¬c1.M b)\/((c1.M b\/c1.w0.heap.size<=b)/\X2 b)
 have eF:Same X1 c1.w0 w':=⟨jD.size,fun b hb hx=>jD.block b hb (fun hm=>hx (hMX b hm))⟩
 have Sg: ∀ b,b<c1.w0.heap.size->X3 b->X1 b:=by
  intro b hb hx;rcases hx with⟨_,hx,_⟩ | ⟨hm | hm,_⟩
  .exact hx
  .exact hMX b hm
  omega
 have Sh: ∀ b,X3 b->X2 b:=by
  intro b hx;rcases hx with⟨_,hx,hm⟩ | ⟨_,hx⟩
  .exact h2.xo b (hXo b hx hm)
  exact hx
 have af7: ∀ (j:Nat) p,ρ2[j]?=some (some p)->ρ3[f j]?=some (some p):=by
  intro j p hj;rw[XI j (by rw[<-h2.len];exact(List.getElem?_eq_some_iff.1 hj).1)];exact hj
 have eG: ∀ i,(∃ j,j<H1.length/\f j=i)\/(∀ j,j<H1.length->f j≠i):=by
  intro i;by_cases he: ∃ j,j<H1.length/\f j=i
  .exact .inl he
  exact .inr fun j hj hf=>he ⟨j,hj,hf⟩
 have oH: ∀ (j:Nat) p g,ρ2[j]?=some (some p)->p.b=some g->(X3 g↔X2 g):=by
  intro j p g hp hg;constructor
  .exact Sh g
  intro hx;rcases mR j p g hp hg with h3 | h3
  .exact .inr ⟨.inr h3,hx⟩
  exact .inr ⟨.inl h3,hx⟩
 have N3: ∀ (j:Nat) o,H1[j]?=some o-> ∀ o',F'[f j]?=some o'->o'=relocOb f o:=fun j o hj o' Lx=>by
  rw[hF1 j o hj] at Lx;cases Lx;rfl
 have Si: ∀ j,j<H1.length-> ∃ o,H1[j]?=some o:=fun j hj=>⟨H1[j],by simp[hj]⟩
 refine⟨X3,⟨aD,?_,?_,?_,?_,?_,gD h.ge jD.size,h.base.trans dR⟩,⟨eF,Sg,dR,fun hk=>?_⟩,fun u x hu=>hu.reloc f (fun b _=>Sh b) af7⟩
 .intro i p o hp ho
  rcases eG i with⟨j,hj,rfl⟩ | su
  .obtain⟨o2,gB⟩:=Si j hj
   have:=N3 j o2 gB o ho
   subst this
   rw[XI j hj] at hp
   exact(h2.ob j p o2 hp gB).moved f (fun b _=>Sh b) af7 (fun _ g hg=>oH j p g hp hg)
  rw[hρ2 i su] at hp
  rw[hF2 i su] at ho
  refine(h.ob i p o hp ho).keep eF Sg dR (fun ha g hg aH=>?_)
  have hm:=nW i p o g su hp ho ha hg
  exact⟨jD.block g aH hm,⟨Sg g aH,fun hx=> .inl ⟨aH,hx,hm⟩⟩⟩
 .intro i k p q o r g hp hq ho hr jF jC dV eo
  rcases eG i with⟨j,hj,rfl⟩ | su
  .obtain⟨o2,gB⟩:=Si j hj
   have:=N3 j o2 gB o ho
   subst this
   rw[XI j hj] at hp
   rw[se] at jF
   rcases eG k with⟨j',SL,rfl⟩ | N4
   .obtain⟨r2,iQ⟩:=Si j' SL
    have:=N3 j' r2 iQ r hr
    subst this
    rw[XI j' SL] at hq
    rw[se] at jC
    rw[h2.inj j j' p q o2 r2 g hp hq gB iQ jF jC dV eo]
   rw[hρ2 k N4] at hq
   rw[hF2 k N4] at hr
   have hra:r.alive:=Ob.alive_of_rw jC
   have h3:=nW k q r g N4 hq hr hra eo
   have h4:=(h.own k q r g hq hr jC eo).2
   rcases mR j p g hp dV with h5 | h5
   .omega
   exact absurd h5 h3
  rw[hρ2 i su] at hp
  rw[hF2 i su] at ho
  have hoa:o.alive:=Ob.alive_of_rw jF
  rcases eG k with⟨j',SL,rfl⟩ | N4
  .obtain⟨r2,iQ⟩:=Si j' SL
   rw[XI j' SL] at hq
   have h3:=nW i p o g su hp ho hoa dV
   have h4:=(h.own i p o g hp ho jF dV).2
   rcases mR j' q g hq eo with h5 | h5
   .omega
   exact absurd h5 h3
  rw[hρ2 k N4] at hq
  rw[hF2 k N4] at hr
  exact h.inj i k p q o r g hp hq ho hr jF jC dV eo
 .intro i p o g hp ho jF dV
  rcases eG i with⟨j,hj,rfl⟩ | su
  .obtain⟨o2,gB⟩:=Si j hj
   have:=N3 j o2 gB o ho
   subst this
   rw[XI j hj] at hp
   rw[se] at jF
   have h3:=h2.own j p o2 g hp gB jF dV
   refine⟨?_,h3.2⟩
   rcases mR j p g hp dV with h5 | h5
   .left;have:=h.ge;omega
   exact(Sf g h5).1
  rw[hρ2 i su] at hp
  rw[hF2 i su] at ho
  have h3:=h.own i p o g hp ho jF dV
  exact⟨h3.1,Nat.lt_of_lt_of_le h3.2 jD.size⟩
 .intro b hb
  have h3:=c.hxo b hb
  refine .inl ⟨h.xlt b (h.xo b hb),h.xo b hb,fun hm=>?_⟩
  rcases(Sf b hm).1 with h4 | h4
  .omega
  exact h3.2 h4
 .intro b hb
  rcases hb with⟨hb,_⟩ | ⟨_,hb⟩
  .exact Nat.lt_of_lt_of_le hb jD.size
  exact h2.xlt b hb
 refine⟨jD.os.trans hk.os,jD.tape.trans hk.tape,jD.output.trans hk.output,gD hk.size jD.size,fun b hb hm=>?_⟩
 rw[jD.block b (Nat.lt_of_lt_of_le hb hk.size) (fun mP=>?_)]
 .exact hk.block b hb hm
 rcases(Sf b mP).1 with h4 | h4
 .omega
 exact hm h4
theorem ObRd.rwX {w:World} {X:Nat->Prop} {ρ:Places} {p:Place} {o:Ob} (h:ObRd w X ρ p o) (hr:o.rw=true) {g:Nat} (hg:p.b=some g):X g:=by
 cases o with
 | dead=>cases hr
 | row rw xs=>exact(h.2 g hg).1 hr
 | box rw cs=>exact(h.2 g hg).1 hr
 | tab n es=>exact h.2 g hg
theorem ObRd.roX {w:World} {X:Nat->Prop} {ρ:Places} {p:Place} {o:Ob} (h:ObRd w X ρ p o) (ha:o.alive) (hr:o.rw=false) {g:Nat} (hg:p.b=some g): ¬X g:=by
 intro hx;cases o with
 | dead=>exact ha
 | row rw xs=>have:=(h.2 g hg).2 hx;simp only[Ob.rw] at hr;rw[hr] at this;cases this
 | box rw cs=>have:=(h.2 g hg).2 hx;simp only[Ob.rw] at hr;rw[hr] at this;cases this
 | tab n es=>cases hr
theorem ObRd.closed {w:World} {X:Nat->Prop} {ρ ρ':Places} {p:Place} {o:Ob} (h:ObRd w X ρ p o) (hc:o.closed):ObRd w X ρ' p o:=by
 cases o with
 | dead=>trivial
 | row rw xs=>exact h
 | tab n es=>exact h
 | box rw cs=>
  obtain⟨⟨g,us,hg,hh,hs,h1,hr⟩,hf⟩:=h;refine⟨⟨g,us,hg,hh,hs,h1,fun i u x hu hx=>?_⟩,hf⟩;obtain⟨y,rfl⟩:=hc x (mem_of_getElem? hx);cases hr i u _ hu hx with
  | fv _ _ h=>exact .fv _ _ h
theorem BW {H:List Ob} {id:Nat} {x:PV} (h:x.refsTo id=false):W_ H id x=iw H x/\we H id x=oy H x:=by
 cases x<;>simp only[PV.refsTo,qx,ne_eq] at h<;>simp[W_,we,h]
theorem Gp {H:List Ob} {id:Nat}: ∀ {xs ys:List PV},wc H id xs=some ys->ys.length=xs.length/\ ∀ (i:Nat) y,ys[i]?=some y-> ∃ x,xs[i]?=some x/\W_ H id x=some y
 | [],ys,h=>by simp[wc] at h;subst h;simp
 | x::xs,ys,h=>by
  simp only[wc] at h;split at h
  .rename_i y ys' h1 h2;cases h;obtain⟨hl,hg⟩:=Gp h2;refine⟨by simp[hl],fun i z hz=>?_⟩;cases i with
   | zero=>simp at hz;subst hz;exact⟨x,rfl,h1⟩
   | succ i=>simp at hz ⊢;exact hg i z hz
  cases h
theorem Gq {H:List Ob} {id:Nat}: ∀ {xs ys:List PV},wc H id xs=some ys-> ∀ j∈xs.flatMap (we H id),j<H.length
 | [],ys,h=>by simp
 | x::xs,ys,h=>by
  simp only[wc] at h;split at h
  .rename_i y ys' h1 h2;intro j hj;rw[List.flatMap_cons,qr] at hj;rcases hj with hj | hj
   .cases hr:x.refsTo id with
    | false=>
     obtain⟨e1,e2⟩:=BW (H:=H) hr;rw[e1] at h1;rw[e2] at hj;exact K8 h1 j hj
    | true=>cases x<;>simp[PV.refsTo] at hr<;>simp[we,hr] at hj
   exact Gq h2 j hj
  cases h
theorem Un {c:gF} {w:World} {X X':Nat->Prop} {ρ:Places} {F H:List Ob} (h:HRd c w X ρ F) (hH: ∀ (j:Nat) o,H[j]?=some o->F[j]?=some o) {vs:Array Value} {xs ys:List PV} {id:Nat} {p:Place} (hp:ρ[id]?=some (some p))
 (hv:PRds w X ρ vs xs) (hf:wc H id xs=some ys) (hX: ∀ b,X' b->X b)
 (hn: ∀ j∈xs.flatMap (we H id),∀ p o g,ρ[j]?=some (some p)->F[j]?=some o->o.alive->p.b=some g-> ¬X' g):PRds w X' [some p] vs ys:=by
 obtain⟨hl,hg⟩:=Gp hf
 refine⟨by rw[hl];exact hv.1,fun i v y hi hy=>?_⟩
 obtain⟨x,hx,Ly⟩:=hg i y hy
 have hvx:=hv.2 i v x hi hx
 cases hr:x.refsTo id with
 | false=>
  obtain⟨e1,e2⟩:=BW (H:=H) hr;rw[e1] at Ly;refine QQ h hH [some p] hvx Ly hX (fun k hk=>hn k ?_);rw[List.mem_flatMap];exact⟨x,mem_of_getElem? hx,by rw[e2];exact hk⟩
 | true=>
  cases hvx with
  | ptr j i off g q hq hg=>
   simp only[PV.refsTo,beq_iff_eq] at hr;subst hr;rw[hp] at hq;cases hq;simp only[W_,if_true,qo] at Ly;subst Ly;exact .ptr 0 i off g p rfl hg
  | lsl0 j q hq hg=>
   simp only[PV.refsTo,beq_iff_eq] at hr;subst hr;rw[hp] at hq;cases hq;simp only[W_,if_true,qo] at Ly;subst Ly;exact .lsl0 0 p rfl hg
  | lsl j off len o g q hq hg hl ho=>
   simp only[PV.refsTo,beq_iff_eq] at hr;subst hr;rw[hp] at hq;cases hq;simp only[W_,if_true,qo] at Ly;subst Ly;exact .lsl 0 off len o g p rfl hg hl ho
  | _=>simp[PV.refsTo] at hr
theorem yU {c:gF} {w:World} {X:Nat->Prop} {ρ:Places} {H D R:List Ob} {k:FuncId} {args:List PV} {vs:Array Value} {v:PV} {H':List Ob} (h:HRd c w X ρ (H++(D++R)))
 (hD: ∀ id,H.length<=id->id<H.length+D.length->ρ[id]?=some none) (fr:PRds w X ρ vs args) (N0:CallRel P H k args v H') (aD:H'.length=H.length+D.length):
 YN P k/\Calls P k vs w fun e w'=> ∃ u X' ρ',e= .returned u/\Stp c w w' X X' ρ ρ'/\w.drawn<=w'.drawn/\HRd c w' X' ρ' (H'++R)/\PRd w' X' ρ' u v/\ ∀ id,(id<H.length\/H.length+D.length<=id)->ρ'[id]?=ρ[id]?:=by
 cases N0 with
 | pure args' obs res hf hd=>
  obtain⟨hgo,hd⟩:=hd;refine⟨hgo,?_⟩;unfold shutAs at aD ⊢;rw[qe,bh,qu] at aD;have hDl:D.length=obs.length:=by omega
  have pL:=Gh hf;obtain⟨X1,h1,tU,kL⟩:=h.shutIds (args.flatMap (oy H));rw[eM _ pL] at h1;have VM:(shutIds (args.flatMap (oy H)) H).length=H.length:=bh _ _;generalize hS:shutIds (args.flatMap (oy H)) H=S at*;have tR:PRds w X1 [] vs args':=Uf h bn [] fr hf tU kL;let c1:gF:=⟨w,fun _=>False,X1,[],fun b hb=>⟨h1.xlt b hb,fun hm=>hm⟩⟩;have h01:HRd c1 w X1 [] []:=⟨rfl,by simp,by simp,by simp,fun b hb=>hb,h1.xlt,qp _,Places.Le.refl _⟩;refine(hd c1 X1 [] vs h01 (fun b hb=>hb.elim) tR).mono ?_;rintro e w' ⟨u,X2,ρ2,rfl,jD,h2,hu,_,jO⟩;have qP:ρ2.length=obs.length:=h2.len;have zw:ρ.length=H.length+(D.length+R.length):=by rw[h1.len];simp[VM]
  let ρ3:Places:=ρ.take H.length++ρ2++ρ.drop (H.length+obs.length);have B8: ∀ i,ρ3[i]?=if i<H.length then ρ[i]? else if i<H.length+obs.length then ρ2[i - H.length]? else ρ[i]?:=by
   intro i;have:=jb (l:=ρ) (new:=ρ2) (off:=H.length) (by omega) i;simp only[eJ,qP] at this;exact this
  have hF: ∀ i,((S++obs.map (relocOb (H.length+ ·)))++R)[i]?=if i<H.length then(S++(D++R))[i]? else if i<H.length+obs.length then(obs.map (relocOb (H.length+ ·)))[i - H.length]? else(S++(D++R))[i]?:=by
   intro i;by_cases hi:i<H.length
   .rw[if_pos hi,append_assoc,qi (by omega),qi (by omega)]
   rw[if_neg hi];by_cases iH:i<H.length+obs.length
   .rw[if_pos iH,append_assoc,getElem?_append_right (by omega),qi (by simp;omega),VM]
   rw[if_neg iH,append_assoc,getElem?_append_right (by omega),getElem?_append_right (by simp;omega),getElem?_append_right (by omega),getElem?_append_right (by omega)];congr 1;simp;omega
  have dG: ∀ i,(∀ j,j<obs.length->H.length+j≠i)->i<H.length\/H.length+obs.length<=i:=by
   intro i hi;by_cases h3:i<H.length
   .exact .inl h3
   right;apply Nat.le_of_not_lt;intro h4;exact hi (i - H.length) (by omega) (by omega)
  have dR:ρ.Le ρ3:=by
   intro i p hp;rw[B8];by_cases hi:i<H.length
   .rw[if_pos hi];exact hp
   rw[if_neg hi];by_cases iH:i<H.length+obs.length
   .rw[hD i (by omega) (by omega)] at hp;cases hp
   rw[if_neg iH];exact hp
  obtain⟨X3,h3,hs3,XB⟩:=BV (c:=c) (c1:=c1) (w:=w) (w':=w') (X1:=X1) (X2:=X2) (ρ:=ρ) (ρ2:=ρ2) (ρ3:=ρ3) (F:=S++(D++R)) (F':=(S++obs.map (relocOb (H.length+ ·)))++R) (H1:=obs) (H.length+ ·) rfl h1 jD h2
   (fun b hb _=>hb) (fun b hb=>hb.elim) (fun b hb=>hb.elim) (fun i p o g _ _ _ _ _ hm=>hm) (fun j p g hp hg=> .inl (jO j p (eH _) hp g hg))
   (by simp[ρ3,qP,VM,zw];omega)
   (fun j o hj=>by
    have lC:=(List.getElem?_eq_some_iff.1 hj).1;rw[hF,if_neg (by omega),if_pos (by omega),Nat.add_sub_cancel_left,List.getElem?_map,hj];rfl)
   (fun i hi=>by
    rw[hF];rcases dG i hi with h5 | h5
    .rw[if_pos h5]
    rw[if_neg (by omega),if_neg (by omega)])
   (fun j hj=>by rw[B8,if_neg (by omega),if_pos (by omega),Nat.add_sub_cancel_left])
   (fun i hi=>by
    rw[B8];rcases dG i hi with h5 | h5
    .rw[if_pos h5]
    rw[if_neg (by omega),if_neg (by omega)]) dR
  refine⟨u,X3,ρ3,rfl,(Stp.same_world tU).trans hs3,jD.drawn,h3,XB u res hu,fun id d5=>?_⟩;rw[B8];rcases d5 with h5 | h5
  .rw[if_pos h5]
  .rw[if_neg (by omega),if_neg (by omega)]
 | lend id args' ob ob' obs res ho hrw fG af8 hf hs hd=>
  obtain⟨hgo,hd⟩:=hd;refine⟨hgo,?_⟩;unfold shutBs at aD hs ⊢;rw[qe,length_set,bh,qu] at aD;have hDl:D.length=obs.length:=by omega
  have zI:id<H.length:=(List.getElem?_eq_some_iff.1 ho).1;obtain⟨p,hp⟩: ∃ p,ρ[id]?=some (some p):=by
   rw[qpb] at af8;obtain⟨a,ha,har⟩:=af8;obtain⟨i,hi⟩:=getElem?_of_mem ha;have aH:i<vs.size:=by rw[fr.1];exact(List.getElem?_eq_some_iff.1 hi).1
   have SE:=fr.2 i vs[i] a (by simp[aH]) hi;generalize vs[i]=ui at SE;cases SE with
   | ptr j i off g q hq hg=>simp only[PV.refsTo,beq_iff_eq] at har;subst har;exact⟨q,hq⟩
   | lsl0 j q hq hg=>simp only[PV.refsTo,beq_iff_eq] at har;subst har;exact⟨q,hq⟩
   | lsl j off len o g q hq hg hl ho=>simp only[PV.refsTo,beq_iff_eq] at har;subst har;exact⟨q,hq⟩
   | _=>simp[PV.refsTo] at har
  have pL: ∀ j∈args.flatMap (we H id),j<H.length:=Gq hf;obtain⟨X1,h1,tU,kL⟩:=h.shutIds (args.flatMap (we H id));rw[eM _ pL] at h1;have VM:(shutIds (args.flatMap (we H id)) H).length=H.length:=bh _ _;generalize hS:shutIds (args.flatMap (we H id)) H=S at*;have VT:(S++(D++R))[id]?=some ob:=by rw[qi (by omega)];exact hs
  have f6:=h1.ob id p ob hp VT;have hXp: ∀ g,p.b=some g->X1 g:=fun g hg=>f6.rwX hrw hg
  let c1:gF:=⟨w,fun b=>p.b=some b,fun b=>X1 b/\p.b≠some b,[],fun b hb=>⟨h1.xlt b hb.1,hb.2⟩⟩;have h01:HRd c1 w X1 [some p] [ob]:=by
   refine⟨rfl,?_,?_,?_,fun b hb=>hb.1,h1.xlt,qp _,fun i p hp=>by simp[c1] at hp⟩
   .intro i q o hq gB;cases i with
    | zero=>
     simp only[List.getElem?_cons_zero,qo] at hq gB;subst hq;subst gB;exact f6.closed fG
    | succ i=>simp at hq
   .intro i j q1 q2 o1 o2 g Hp Jq jF gB _ _ _ _;cases i with
    | zero=>cases j with
     | zero=>rfl
     | succ j=>simp at Jq
    | succ i=>simp at Hp
   intro i q o g hq gB Lw hg;cases i with
   | zero=>
    simp only[List.getElem?_cons_zero,qo] at hq;subst hq;exact⟨.inr hg,(h1.own id _ ob g hp VT hrw hg).2⟩
   | succ i=>simp at hq
  have tR:PRds w X1 [some p] vs args':=Un h bn hp fr hf tU kL;refine(hd c1 X1 [some p] vs h01 (fun b hb=>⟨0,p,rfl,hb⟩) tR).mono ?_;rintro e w' ⟨u,X2,ρ2,rfl,jD,h2,hu,akK,jO⟩;have qP:ρ2.length=obs.length+1:=by simpa using h2.len
  have af9:ρ2[0]?=some (some p):=akK 0 p rfl;have zw:ρ.length=H.length+(D.length+R.length):=by rw[h1.len];simp[VM]
  let ρ3:Places:=ρ.take H.length++ρ2.drop 1++ρ.drop (H.length+obs.length);have B8: ∀ i,ρ3[i]?=if i<H.length then ρ[i]? else if i<H.length+obs.length then ρ2[i - H.length+1]? else ρ[i]?:=by
   intro i;have Lu:(ρ2.drop 1).length=obs.length:=by simp[qP]
   have:=jb (l:=ρ) (new:=ρ2.drop 1) (off:=H.length) (by omega) i;simp only[eJ,Lu] at this;rw[this];simp only[List.getElem?_drop,Nat.add_comm 1]
  have hF: ∀ i,((S.set id (relocOb (lent id H.length) ob')++obs.map (relocOb (lent id H.length)))++R)[i]?=if i=id then some (relocOb (lent id H.length) ob') else if i<H.length then(S++(D++R))[i]? else
   if i<H.length+obs.length then(obs.map (relocOb (lent id H.length)))[i - H.length]? else(S++(D++R))[i]?:=by
   intro i
   by_cases sC:i=id
   .subst sC
    rw[if_pos rfl,append_assoc,qi (by simp;omega),qv (by omega)]
   rw[if_neg sC]
   by_cases hi:i<H.length
   .rw[if_pos hi,append_assoc,qi (by simp;omega),getElem?_set_ne (Ne.symm sC),qi (by omega)]
   rw[if_neg hi]
   by_cases iH:i<H.length+obs.length
   .rw[if_pos iH,append_assoc,getElem?_append_right (by simp;omega),qi (by simp;omega),length_set,VM]
   rw[if_neg iH,append_assoc,getElem?_append_right (by simp;omega),getElem?_append_right (by simp;omega),getElem?_append_right (by omega),getElem?_append_right (by omega)]
   congr 1
   simp
   omega
  have dG: ∀ i,(∀ j,j<(ob'::obs).length->lent id H.length j≠i)->i≠id/\(i<H.length\/H.length+obs.length<=i):=by
   intro i hi;refine⟨fun he=>hi 0 (by simp) he.symm,?_⟩;by_cases h3:i<H.length
   .exact .inl h3
   right;apply Nat.le_of_not_lt;intro h4;exact hi (i - H.length+1) (by simp;omega) (by simp only[lent];omega)
  have dR:ρ.Le ρ3:=by
   intro i q hq;rw[B8];by_cases hi:i<H.length
   .rw[if_pos hi];exact hq
   rw[if_neg hi];by_cases iH:i<H.length+obs.length
   .rw[hD i (by omega) (by omega)] at hq;cases hq
   rw[if_neg iH];exact hq
  obtain⟨X3,h3,hs3,XB⟩:=BV (c:=c) (c1:=c1) (w:=w) (w':=w') (X1:=X1) (X2:=X2) (ρ:=ρ) (ρ2:=ρ2) (ρ3:=ρ3) (F:=S++(D++R)) (F':=(S.set id (relocOb (lent id H.length) ob')++obs.map (relocOb (lent id H.length)))++R) (H1:=ob'::obs) (lent id H.length) rfl h1 jD h2
   (fun b hb hm=>⟨hb,hm⟩) (fun b hb=>hXp b hb) (fun b hb=>h1.own id p ob b hp VT hrw hb)
   (fun i q o g hi hq gB ha hg hm=>by
    have cM:=(dG i hi).1;cases Hh:o.rw with
    | true=>exact cM (h1.inj i id q p o ob g hq hp gB VT Hh hrw hg hm)
    | false=>
     have oH:=h1.ob i q o hq gB;exact(oH.roX ha Hh hg) (hXp g hm))
   (fun j q g hq hg=>by
    cases j with
    | zero=>rw[af9] at hq;cases hq;exact .inr hg
    | succ j=>exact .inl (jO (j+1) q (by simp) hq g hg))
   (by simp[ρ3,qP,VM,zw];omega)
   (fun j o hj=>by
    have lC:=(List.getElem?_eq_some_iff.1 hj).1;cases j with
    | zero=>
     show((S.set id (relocOb (lent id H.length) ob')++obs.map (relocOb (lent id H.length)))++R)[id]?=_;rw[hF,if_pos rfl];simp at hj;rw[hj]
    | succ j=>
     simp only[length_cons] at lC;show((S.set id (relocOb (lent id H.length) ob')++obs.map (relocOb (lent id H.length)))++R)[H.length+j]?=_;rw[hF,if_neg (show¬(H.length+j=id) by omega),if_neg (show¬(H.length+j<H.length) by omega),if_pos (show H.length+j<H.length+obs.length by omega),Nat.add_sub_cancel_left,List.getElem?_map];simp at hj;rw[hj];rfl)
   (fun i hi=>by
    rw[hF];obtain⟨h4,h5 | h5⟩:=dG i hi
    .rw[if_neg h4,if_pos h5]
    rw[if_neg h4,if_neg (by omega),if_neg (by omega)])
   (fun j hj=>by
    cases j with
    | zero=>
     show ρ3[id]?=_;rw[B8,if_pos zI,hp,af9]
    | succ j=>
     simp only[length_cons] at hj;show ρ3[H.length+j]?=_;rw[B8,if_neg (by omega),if_pos (by omega),Nat.add_sub_cancel_left])
   (fun i hi=>by
    rw[B8];obtain⟨h4,h5 | h5⟩:=dG i hi
    .rw[if_pos h5]
    rw[if_neg (by omega),if_neg (by omega)]) dR
  refine⟨u,X3,ρ3,rfl,(Stp.same_world tU).trans hs3,jD.drawn,h3,XB u res hu,fun j hj=>?_⟩;rw[B8];rcases hj with h5 | h5
  .rw[if_pos h5]
  rw[if_neg (by omega),if_neg (by omega)]
end
end Go.AM
namespace Go.AM
section
variable {P:Program} {T:Tab}
theorem BX {H:List Ob} {ρ:Operand->PV} {op:Op} {r:Res} (h:cx T H ρ op=some r):H.length<=r.heap.length:=by
 unfold cx at h;cases op<;>simp only[Res.pure,Res.if] at h
 all_goals repeat' (split at h)
 all_goals first
  | (cases h;done)
  | (cases h;simp[gL,bh];done)
  | skip
 all_goals
  rename_i bP;cases h;unfold storeAt at bP
  repeat' (split at bP)
  all_goals first
   | (cases bP;done)
   | (cases bP;simp[gL,bh])
theorem BZ {H:List Ob} {b:Builtin} {ts:List TypeId} {vs:List PV} {r:Res} (h:iy T H b ts vs=some r):H.length<=r.heap.length:=by
 unfold iy at h;simp only[Res.pure] at h
 repeat' (split at h)
 all_goals first
  | (cases h;done)
  | (cases h;simp)
theorem vN {H:List Ob} {k:FuncId} {args:List PV} {v:PV} {H':List Ob} (h:CallRel P H k args v H'):H.length<=H'.length:=by
 cases h with
 | pure=>simp[shutAs,bh]
 | lend=>simp[shutBs,bh]
theorem HRd.room {c:gF} {w:World} {X:Nat->Prop} {ρ:Places} {H:List Ob} (h:HRd c w X ρ H) (n:Nat):
 HRd c w X (ρ++replicate n none) (H++(replicate n .dead++[]))/\ ∀ id,H.length<=id->id<H.length+(replicate n Ob.dead).length->(ρ++replicate n none)[id]?=some none:=by
 have h1:=h.extend (replicate n .dead)
 rw[qib] at h1
 refine⟨by simpa using h1,fun id h2 h3=>?_⟩
 rw[qib] at h3
 rw[getElem?_append_right (by rw[h.len];exact h2),List.getElem?_replicate,if_pos (by rw[h.len];omega)]
theorem EnvRd.mono {w:World} {X:Nat->Prop} {ρ ρ':Places} {t:Array Value} {env:List PV} (h:EnvRd w X ρ t env) (hρ:ρ.Le ρ'):EnvRd w X ρ' t env:=
 ⟨h.1,fun i v x hv hx=>(h.2 i v x hv hx).mono (Same.refl X w) (fun _ _ h=>h) hρ⟩
theorem EnvRd.put {w:World} {X:Nat->Prop} {ρ:Places} {a:Act} {env:List PV} (h:EnvRd w X ρ a.tmps env) (d:Option Nat) {u:Value} {v:PV} (hu:PRd w X ρ u v):
 EnvRd w X ρ (a.put d u).tmps (match d with | some t=>env.set t v | none=>env):=by
 cases d with
 | none=>exact h
 | some t=>
  refine⟨by simp[Act.put,h.1],fun i v' x hv hx=>?_⟩;simp only[Act.put] at hv;by_cases hi:t=i
  .subst hi;have aH:t<a.tmps.size:=by have:=(Array.getElem?_eq_some_iff.1 hv).1;simpa using this
   simp[aH] at hv;have mO:t<env.length:=by rw[<-h.1];exact aH
   rw[qv mO] at hx;cases hx;subst hv;exact hu
  rw[Array.getElem?_setIfInBounds_ne hi] at hv;rw[getElem?_set_ne hi] at hx;exact h.2 i v' x hv hx
def adS (c:gF) (a:Act) (env:List PV) (d:Option Nat) (K:PV->List Ob->Prop) (next:Act->World->Prop):Prop:=
 ∀ v H u w' X' ρ',K v H->HRd c w' X' ρ' H->EnvRd w' X' ρ' a.tmps env->PRd w' X' ρ' u v->Keeps c w'->next (a.put d u) w'
theorem B0 {w:World} {o:Oper} {e:Operand->Value} {f:Operand} {args:Array Operand} {ts:Array TypeId} {k:FuncId} {u1 u2:Array Value}
 (ho:o.op= .call {callee:= .value f,args:=args,argTypes:=ts}) (hf:e f= .func (.func k) u1 u2) (hg:YN P k):(execOp e o).run P w= .ok (.enter k (u1++args.map e++u2)) w:=by
 obtain⟨fn,cd,h1,h2,h3⟩:=hg
 unfold execOp
 simp only[ho,resolve,hf,Deferred.ofValue,Sem.run_bind,Sem.run_pure,Result.andThen_ok,invoke,callFunc,run_program,h1,h2,h3,Option.isNone_some]
 simp
theorem yV (hT:ck P T) {o:Oper} {c:gF} {a:Act} {w:World} {X:Nat->Prop} {ρ:Places} {st:St} {K:PV->List Ob->Prop} {next:Act->World->Prop} {Q:Exit->Act->World->Prop}
 (h:WPop P T o.op st K) (hh:HRd c w X ρ st.heap) (he:EnvRd w X ρ a.tmps st.env) (hk:Keeps c w) (hn:adS c a st.env o.dst K next):o.wp P a w next Q:=by
 have fin: ∀ {r:Result Next} {v:PV} {H:List Ob} {ρ1:Places} {lo hi:Nat},ρ.Le ρ1->K v H->OpOK c w X ρ1 lo hi H r v->(execOp a.eval o).run P w=r->o.wp P a w next Q:=by
  intro r v H ρ1 lo hi dR hK ⟨u,w',X',ρ',hr,hs,w8,hu,_⟩ cO;have DH:w.drawn<=w'.drawn:=by
   rcases hr with hr | ⟨hr,_⟩
   .exact cw _ _ (cO.trans hr)
   exact cw _ _ (cO.trans hr)
  have pJ:=hn v H u w' X' ρ' hK w8 ((he.mono dR).stp hs) hu ⟨hs.keeps hk.toKeepsB,gD hk.drawn DH⟩;unfold Oper.wp;rw[cO];rcases hr with hr | ⟨hr,rfl⟩
  .rw[hr];exact pJ
  rw[hr];exact pJ
 by_cases G_: ∃ cl,o.op= .call cl
 .obtain⟨cl,ho⟩:=G_
  rw[ho] at h
  simp only[WPop,WPcall] at h
  obtain⟨callee,args,ts⟩:=cl
  cases callee with
  | builtin b=>
   simp only at h;split at h
   .rename_i r hr;obtain⟨hc,hK⟩:=h;have aD:=BZ hr;obtain⟨h1,h2⟩:=hh.room (r.heap.length - st.heap.length);have dR:=Places.Le.append ρ (replicate (r.heap.length - st.heap.length) none);have bE:=QW hT b args ts (o:=o) (e:=a.eval) (ρv:=ev st.env) ho h1 h2 (fun x _=>qJ (he.mono dR) x) hr hc (by simp;omega);rw[append_nil] at bE;exact fin dR hK bE rfl
   .exact h.elim
  | value f=>
   simp only at h;split at h
   .rename_i k pre post DT;obtain⟨v,H',N0,hK⟩:=h;have aD:=vN N0;obtain⟨h1,h2⟩:=hh.room (H'.length - st.heap.length);have dR:=Places.Le.append ρ (replicate (H'.length - st.heap.length) none);have hf:=qJ (he.mono dR) f;have hfv: ∃ u1 u2,a.eval f= .func (.func k) u1 u2/\PRds w X (ρ++replicate (H'.length - st.heap.length) none) u1 pre/\PRds w X (ρ++replicate (H'.length - st.heap.length) none) u2 post:=by
     generalize ev st.env f=pf at hf DT;unfold F3 at DT;split at DT
     .split at DT
      .rename_i hz;cases DT;refine⟨_,_,hf.litInv,⟨by simp,fun i v x hv hx=>?_⟩,⟨by simpa using hz,fun i v x hv hx=>by simp at hx⟩⟩;rw[List.getElem?_map,Option.map_eq_some_iff] at hx;obtain⟨y,hy,rfl⟩:=hx;rw[Array.getElem?_toList,hv] at hy;cases hy;exact lh _
      cases DT
     .cases DT;generalize lD:a.eval f=uf at hf;cases hf with
      | fv _ _ Oo=>
       cases Oo with
       | fn _ u1 u2 c1 c2 h1 h2 r1 r2=>
        refine⟨u1,u2,rfl,⟨by simpa using h1,fun i v x hv hx=>?_⟩,⟨by simpa using h2,fun i v x hv hx=>?_⟩⟩
        .rw[List.getElem?_map,Option.map_eq_some_iff] at hx;obtain⟨y,hy,rfl⟩:=hx;exact .fv _ _ (r1 i v y hv hy)
        rw[List.getElem?_map,Option.map_eq_some_iff] at hx;obtain⟨y,hy,rfl⟩:=hx;exact .fv _ _ (r2 i v y hv hy)
     cases DT
    obtain⟨u1,u2,R_,B7,N9⟩:=hfv;have GW: ∀ {va vb:Array Value} {xa xb:List PV},PRds w X (ρ++replicate (H'.length - st.heap.length) none) va xa->PRds w X (ρ++replicate (H'.length - st.heap.length) none) vb xb->
     PRds w X (ρ++replicate (H'.length - st.heap.length) none) (va++vb) (xa++xb):=by
     intro va vb xa xb ⟨vV,Oc⟩ ⟨dV,eo⟩
     refine⟨by simp[vV,dV],fun i v x hv hx=>?_⟩
     by_cases hi:i<va.size
     .rw[Array.getElem?_append_left hi] at hv
      rw[qi (by rw[<-vV];exact hi)] at hx
      exact Oc i v x hv hx
     rw[Array.getElem?_append_right (by omega)] at hv
     rw[getElem?_append_right (by rw[<-vV];omega),<-vV] at hx
     exact eo _ v x hv hx
    have tR:PRds w X (ρ++replicate (H'.length - st.heap.length) none) (args.map a.eval) (args.toList.map (ev st.env)):=by
     refine⟨by simp,fun i v x hv hx=>?_⟩;simp at hv;obtain⟨y,hy,rfl⟩:=hv;rw[List.getElem?_map] at hx;simp only[Array.getElem?_toList,hy,Option.map_some,qo] at hx;subst hx;exact qJ (he.mono dR) y
    obtain⟨hgo,JD⟩:=yU h1 h2 (GW (GW B7 tR) N9) N0 (by simp;omega);unfold Oper.wp;rw[B0 ho R_ hgo];refine JD.mono ?_;rintro e w' ⟨u,X',ρ',rfl,hs,DH,w8,hu,_⟩;rw[append_nil] at w8;exact hn v H' u w' X' ρ' hK w8 ((he.mono dR).stp hs) hu ⟨hs.keeps hk.toKeepsB,gD hk.drawn DH⟩
   .exact h.elim
  | invoke r m=>exact h.elim
 have ak: ∃ r,cx T st.heap (ev st.env) o.op=some r/\r.cond/\K r.val r.heap:=by
  unfold WPop at h;split at h
  .rename_i cl fG;exact absurd ⟨cl,fG⟩ G_
  split at h
  .rename_i r hr;exact⟨r,hr,h.1,h.2⟩
  exact h.elim
 obtain⟨r,hr,hc,hK⟩:=ak
 have aD:=BX hr
 obtain⟨h1,h2⟩:=hh.room (r.heap.length - st.heap.length)
 have dR:=Places.Le.append ρ (replicate (r.heap.length - st.heap.length) none)
 have bE:=Gn hT o.op (o:=o) (e:=a.eval) (ρv:=ev st.env) rfl h1 h2 (fun x _=>qJ (he.mono dR) x) hr hc (by simp;omega)
 rw[append_nil] at bE
 exact fin dR hK bE rfl
theorem MT {w:World} {X:Nat->Prop} {ρ:Places} {ops:Array Oper} {tmps:Array Value} {env:List PV} (he:EnvRd w X ρ tmps env) {j t:Nat} (hj:(ops[j]?).bind (·.dst)=some t):
 (∀ b,env.getD t .any= .fv (.lit (.bool b))->yielded ops tmps j=some b)/\(env.getD t .any= .tup []->yielded ops tmps j=none):=by
 unfold yielded
 rw[hj]
 simp only[Option.bind_some]
 have key: ∀ x,env.getD t .any=x->x≠ .any-> ∃ v,tmps[t]?=some v/\PRd w X ρ v x:=by
  intro x hx cM;rw[qa] at hx;cases hg:env[t]? with
  | none=>rw[hg] at hx;exact absurd hx.symm cM
  | some y=>
   rw[hg] at hx;simp only[Option.getD_some] at hx;subst hx;have aH:t<tmps.size:=by rw[he.1];exact(List.getElem?_eq_some_iff.1 hg).1
   exact⟨tmps[t],by simp[aH],he.2 t _ _ (by simp[aH]) hg⟩
 constructor
 .intro b hb
  obtain⟨v,hv,hp⟩:=key _ hb (by simp)
  rw[hv,hp.litInv]
 intro hb
 obtain⟨v,hv,hp⟩:=key _ hb (by simp)
 rw[hv]
 cases hp;rfl
theorem pr (hT:ck P T) {ops:Array Oper} {Q:Exit->Act->World->Prop} {c:gF} {K:St->Prop} (hK: ∀ st a w,K st->SRd c st a w->Q .normal a w):
 ∀ (l:List Oper) (k:Nat) (st:St) (a:Act) (w:World),(∀ j,l[j]?=ops[k+j]?)->WPops P T ops l st K->SRd c st a w->wpOps P ops Q (range' k l.length) a w
 | [],k,st,a,w,_,h,hs=>hK st a w h hs
 | o::l,k,st,a,w,hl,h,hs=>by
  have h0:ops[k]?=some o:=by simpa using(hl 0).symm
  have Xt: ∀ j,l[j]?=ops[k+1+j]?:=fun j=>by
   have:=hl (j+1);rw[List.getElem?_cons_succ] at this;rw[this];congr 1;omega
  rw[length_cons,List.range'_succ];unfold wpOps;simp only[h0];obtain⟨X,ρ,hh,he,hd,hk⟩:=hs;have run: ∀ {Kp:St->Prop},WPop P T o.op st (fun v H=>WPops P T ops l (st.upd o.dst v H) K)->o.wp P a w (wpOps P ops Q (range' (k+1) l.length)) Q:=by
   intro _ hw;refine yV hT hw hh he hk (fun v H u w' X' ρ' hv w8 N5 hu w9=>?_);refine pr hT hK l (k+1) _ _ _ Xt hv ⟨X',ρ',w8,N5.put o.dst hu,?_,w9⟩;cases o.dst<;>exact hd
  have skip:WPops P T ops l (st.upd o.dst (.tup []) st.heap) K->wpOps P ops Q (range' (k+1) l.length) (a.put o.dst undef) w:=by
   intro hw;refine pr hT hK l (k+1) _ _ _ Xt hw ⟨X,ρ,hh,he.put o.dst (.tup #[] [] rfl (by simp)),?_,hk⟩;cases o.dst<;>exact hd
  unfold WPops at h;cases hg:o.guard with
  | none=>
   simp only[hg] at h;have oq:Region.wanted o (yielded ops a.tmps)=true:=by simp[Region.wanted,hg]
   rw[oq];exact .inl (run (Kp:=K) h)
  | some gd=>
   obtain⟨j,want⟩:=gd;simp only[hg] at h;cases hj:(ops[j]?).bind (·.dst) with
   | none=>rw[hj] at h;exact h.elim
   | some t=>
    rw[hj] at h;simp only at h;obtain⟨Aw,vi⟩:=MT (ops:=ops) he hj;split at h
    .rename_i b hb;have hy:=Aw b hb;by_cases DQ:b=want
     .have oq:Region.wanted o (yielded ops a.tmps)=true:=by simp[Region.wanted,hg,hy,DQ]
      rw[oq];exact .inl (run (Kp:=K) (h.1 DQ))
     have oq:Region.wanted o (yielded ops a.tmps)=false:=by simp[Region.wanted,hg,hy,DQ]
     rw[oq];exact skip (h.2 (by cases b<;>cases want<;>simp_all))
    .rename_i hb;have hy:=vi hb;have oq:Region.wanted o (yielded ops a.tmps)=false:=by simp[Region.wanted,hg,hy]
     rw[oq];exact skip h
    exact h.elim
theorem B3 (hT:ck P T) {ops:Array Oper} {Q:Exit->Act->World->Prop} {c:gF} {K:St->Prop} (hK: ∀ st a w,K st->SRd c st a w->Q .normal a w):
 ∀ (n:Nat) (listed:Array Bool) (st:St) (a:Act) (w:World),K4 P T ops n listed st K->SRd c st a w->wpAny P .any ops Q n listed a w
 | 0,listed,st,a,w,h,hs=>⟨h.1,hK st a w h.2 hs⟩
 | n+1,listed,st,a,w,h,hs=>by
  refine⟨fun e=>hK st a w (h.1 e) hs,fun i hi=>?_⟩;have h2:=h.2 i hi;unfold wpOp;cases ho:ops[i]? with
  | none=>rw[ho] at h2;exact h2.elim
  | some o=>
   rw[ho] at h2;obtain⟨hg,hw⟩:=h2;have oq:Region.wanted o (yielded ops a.tmps)=true:=by simp[Region.wanted,hg]
   simp only[oq,if_true];obtain⟨X,ρ,hh,he,hd,hk⟩:=hs;refine .inl (yV hT hw hh he hk (fun v H u w' X' ρ' hv w8 N5 hu w9=>?_));refine B3 hT hK n _ _ _ _ hv ⟨X',ρ',w8,N5.put o.dst hu,?_,w9⟩;cases o.dst<;>exact hd
end
end Go.AM
namespace Go.AM
section
variable {P:Program} {T:Tab}
theorem Gr (hT:ck P T) {o:Oper} {c:gF} {a:Act} {w:World} {X:Nat->Prop} {ρ:Places} {s:St} {D R:List Ob} {v:PV} {H':List Ob} {next:Act->World->Prop} {Q:Exit->Act->World->Prop}
 (h:WPop P T o.op s fun v' H''=>v'=v/\H''=H') (hh:HRd c w X ρ (s.heap++(D++R))) (hD: ∀ id,s.heap.length<=id->id<s.heap.length+D.length->ρ[id]?=some none) (aD:H'.length=s.heap.length+D.length)
 (sw: ∀ x∈o.op.operands,PRd w X ρ (a.eval x) (ev s.env x))
 (hn: ∀ u w' X' ρ',Stp c w w' X X' ρ ρ'->w.drawn<=w'.drawn->HRd c w' X' ρ' (H'++R)->PRd w' X' ρ' u v->(∀ id,(id<s.heap.length\/s.heap.length+D.length<=id)->ρ'[id]?=ρ[id]?)->next (a.put o.dst u) w'):o.wp P a w next Q:=by
 have fin: ∀ {r:Result Next},OpOK c w X ρ s.heap.length (s.heap.length+D.length) (H'++R) r v->(execOp a.eval o).run P w=r->o.wp P a w next Q:=by
  intro r ⟨u,w',X',ρ',hr,hs,w8,hu,dG⟩ cO;have DH:w.drawn<=w'.drawn:=by
   rcases hr with hr | ⟨hr,_⟩
   .exact cw _ _ (cO.trans hr)
   exact cw _ _ (cO.trans hr)
  have pJ:=hn u w' X' ρ' hs DH w8 hu dG;unfold Oper.wp;rw[cO];rcases hr with hr | ⟨hr,rfl⟩
  .rw[hr];exact pJ
  rw[hr];exact pJ
 by_cases G_: ∃ cl,o.op= .call cl
 .obtain⟨cl,ho⟩:=G_
  rw[ho] at h sw
  simp only[WPop,WPcall] at h
  obtain⟨callee,args,ts⟩:=cl
  cases callee with
  | builtin b=>
   simp only at h;split at h
   .rename_i r hr;obtain⟨hc,rfl,rfl⟩:=h;exact fin (QW hT b args ts (o:=o) (e:=a.eval) (ρv:=ev s.env) ho hh hD (fun x hx=>sw x (by simp[Op.operands,Call.operands];exact hx)) hr hc aD) rfl
   .exact h.elim
  | value f=>
   simp only at h;split at h
   .rename_i k pre post DT;obtain⟨v1,H1,N0,rfl,rfl⟩:=h;have hf:=sw f (by simp[Op.operands,Call.operands]);have hfv: ∃ u1 u2,a.eval f= .func (.func k) u1 u2/\PRds w X ρ u1 pre/\PRds w X ρ u2 post:=by
     generalize ev s.env f=pf at hf DT;unfold F3 at DT;split at DT
     .split at DT
      .rename_i hz;cases DT;refine⟨_,_,hf.litInv,⟨by simp,fun i v x hv hx=>?_⟩,⟨by simpa using hz,fun i v x hv hx=>by simp at hx⟩⟩;rw[List.getElem?_map,Option.map_eq_some_iff] at hx;obtain⟨y,hy,rfl⟩:=hx;rw[Array.getElem?_toList,hv] at hy;cases hy;exact lh _
      cases DT
     .cases DT;generalize lD:a.eval f=uf at hf;cases hf with
      | fv _ _ Oo=>
       cases Oo with
       | fn _ u1 u2 c1 c2 h1 h2 r1 r2=>
        refine⟨u1,u2,rfl,⟨by simpa using h1,fun i v x hv hx=>?_⟩,⟨by simpa using h2,fun i v x hv hx=>?_⟩⟩
        .rw[List.getElem?_map,Option.map_eq_some_iff] at hx;obtain⟨y,hy,rfl⟩:=hx;exact .fv _ _ (r1 i v y hv hy)
        rw[List.getElem?_map,Option.map_eq_some_iff] at hx;obtain⟨y,hy,rfl⟩:=hx;exact .fv _ _ (r2 i v y hv hy)
     cases DT
    obtain⟨u1,u2,R_,B7,N9⟩:=hfv;have GW: ∀ {va vb:Array Value} {xa xb:List PV},PRds w X ρ va xa->PRds w X ρ vb xb->PRds w X ρ (va++vb) (xa++xb):=by
     intro va vb xa xb ⟨vV,Oc⟩ ⟨dV,eo⟩;refine⟨by simp[vV,dV],fun i v x hv hx=>?_⟩;by_cases hi:i<va.size
     .rw[Array.getElem?_append_left hi] at hv;rw[qi (by rw[<-vV];exact hi)] at hx;exact Oc i v x hv hx
     rw[Array.getElem?_append_right (by omega)] at hv;rw[getElem?_append_right (by rw[<-vV];omega),<-vV] at hx;exact eo _ v x hv hx
    have tR:PRds w X ρ (args.map a.eval) (args.toList.map (ev s.env)):=by
     refine⟨by simp,fun i v x hv hx=>?_⟩;simp at hv;obtain⟨y,hy,rfl⟩:=hv;rw[List.getElem?_map] at hx;simp only[Array.getElem?_toList,hy,Option.map_some,qo] at hx;subst hx;exact sw y (by simp[Op.operands,Call.operands];exact .inr (Array.mem_of_getElem? hy))
    obtain⟨hgo,JD⟩:=yU hh hD (GW (GW B7 tR) N9) N0 aD;unfold Oper.wp;rw[B0 ho R_ hgo];refine JD.mono ?_;rintro e w' ⟨u,X',ρ',rfl,hs,DH,w8,hu,dG⟩;exact hn u w' X' ρ' hs DH w8 hu dG
   .exact h.elim
  | invoke r m=>exact h.elim
 have ak: ∃ r,cx T s.heap (ev s.env) o.op=some r/\r.cond/\r.val=v/\r.heap=H':=by
  unfold WPop at h;split at h
  .rename_i cl fG;exact absurd ⟨cl,fG⟩ G_
  split at h
  .rename_i r hr;exact⟨r,hr,h.1,h.2⟩
  exact h.elim
 obtain⟨r,hr,hc,rfl,rfl⟩:=ak
 exact fin (Gn hT o.op (o:=o) (e:=a.eval) (ρv:=ev s.env) rfl hh hD sw hr hc aD) rfl
theorem B4 {op:Op} {s:St} {K:PV->List Ob->Prop} (h:WPop P T op s K): ∃ v H',WPop P T op s (fun v' H''=>v'=v/\H''=H')/\K v H':=by
 unfold WPop at h;split at h
 .rename_i c;unfold WPcall at h;split at h
  .rename_i b hb;split at h
   .rename_i r hr;exact⟨r.val,r.heap,by simp only[WPop,WPcall,hb,hr];exact⟨h.1,cS,cS⟩,h.2⟩
   exact h.elim
  .rename_i f hf;split at h
   .rename_i k pre post DT;obtain⟨v,H',N0,hK⟩:=h;exact⟨v,H',by simp only[WPop,WPcall,hf,DT];exact⟨v,H',N0,rfl,rfl⟩,hK⟩
   exact h.elim
  exact h.elim
 rename_i qY;split at h
 .rename_i r hr;refine⟨r.val,r.heap,?_,h.2⟩;unfold WPop;split
  .rename_i c;exact absurd rfl (qY c)
  rw[hr];exact⟨h.1,rfl,rfl⟩
 exact h.elim
theorem Gs {op:Op} {s:St} {v:PV} {H':List Ob} (h:WPop P T op s fun v' H''=>v'=v/\H''=H'):s.heap.length<=H'.length:=by
 unfold WPop at h;split at h
 .rename_i c;unfold WPcall at h;split at h
  .split at h
   .rename_i r hr;rw[<-h.2.2];exact BZ hr
   exact h.elim
  .split at h
   .obtain⟨v,H',N0,_,rfl⟩:=h;exact vN N0
   exact h.elim
  exact h.elim
 split at h
 .rename_i r hr;rw[<-h.2.2];exact BX hr
 exact h.elim
theorem Dl (hT:ck P T) {op:Op} (h0:ed op=0) {w:World} {X:Nat->Prop} {ρ:Places} {s:St} {v:PV} {H':List Ob} {o:Oper} (ho:o.op=op) {e:Operand->Value} (h:WPop P T op s fun v' H''=>v'=v/\H''=H')
 (sw: ∀ x∈op.operands,PRd w X ρ (e x) (ev s.env x)):H'=s.heap/\ ∃ u,(execOp e o).run P w= .ok (.value u) w/\PRd w X ρ u v:=by
 cases op<;>simp only[ed,reduceCtorEq] at h0<;>try first | (cases h0;done) | (split at h0<;>cases h0;done)
 case move x=>
  simp only[WPop,cx,Res.pure] at h;obtain⟨_,rfl,rfl⟩:=h;exact⟨rfl,e x,by simp[execOp,ho],sw x (by simp[Op.operands])⟩
 case assign x=>
  simp only[WPop,cx,Res.pure] at h;obtain⟨_,rfl,rfl⟩:=h;exact⟨rfl,e x,by simp[execOp,ho],sw x (by simp[Op.operands])⟩
 case extract x ix=>
  have hx:=sw x (by simp[Op.operands]);simp only[WPop,cx] at h;cases hv:ev s.env x with
  | tup vs=>
   rw[hv] at h hx;simp only at h;cases fr:vs[ix]? with
   | none=>rw[fr] at h;exact h.elim
   | some y=>
    rw[fr] at h;simp only[Res.pure] at h;obtain⟨_,rfl,rfl⟩:=h;generalize hu:e x=u at hx;cases hx with
    | tup us _ hn hr=>
     have aH:ix<us.size:=by rw[hn];exact(List.getElem?_eq_some_iff.1 fr).1
     exact⟨rfl,us[ix],by simp[execOp,ho,hu,Instr.extract,Array.getElem?_eq_getElem aH],hr ix _ _ (Array.getElem?_eq_getElem aH) fr⟩
  | _=>rw[hv] at h;exact h.elim
 case binOp bop t x y t'=>
  have hx:=sw x (by simp[Op.operands]);have hy:=sw y (by simp[Op.operands]);simp only[WPop] at h;split at h
  .rename_i r hr;obtain⟨hc,rfl,rfl⟩:=h;exact yN hT bop t x y t' ho hx hy hr hc
  exact h.elim
end
end Go.AM
namespace Go.AM
section
variable {P:Program} {T:Tab} {ops:Array Oper}
def vO (ops:Array Oper) (s:St) (o:Oper):Option Bool:=
 match o.guard with
 | none=>some true
 | some (j,want)=>match (ops[j]?).bind (·.dst) with
  | some t=>match s.get t with
   | .fv (.lit (.bool b))=>some (b==want)
   | .tup []=>some false
   | _=>none
  | none=>none
def Step1 (P:Program) (T:Tab) (ops:Array Oper) (o:Oper) (s s':St):Prop:=
 (vO ops s o=some true/\ ∃ v H',(WPop P T o.op s fun v' H''=>v'=v/\H''=H')/\(bW o.op=true\/ ∃ obs,H'=s.heap++obs)/\s'=s.upd o.dst v H')\/
 (vO ops s o=some false/\s'=s.upd o.dst (.tup []) s.heap)
theorem adT {K:St->Prop}: ∀ (l:List Oper) (st:St),WPdraw P T ops l st K-> ∃ S:Nat->St,S 0=st/\(∀ (j:Nat) o,l[j]?=some o->Step1 P T ops o (S j) (S (j+1)))/\K (S l.length)
 | [],st,h=>⟨fun _=>st,rfl,by simp,h⟩
 | o::l,st,h=>by
  have fin: ∀ s',Step1 P T ops o st s'->WPdraw P T ops l s' K-> ∃ S:Nat->St,S 0=st/\(∀ (j:Nat) o',(o::l)[j]?=some o'->Step1 P T ops o' (S j) (S (j+1)))/\K (S (o::l).length):=by
   intro s' hs hw;obtain⟨S,h0,h1,h2⟩:=adT l s' hw;refine⟨fun j=>match j with | 0=>st | j+1=>S j,rfl,fun j o' hj=>?_,h2⟩
   cases j with
   | zero=>simp at hj;subst hj;simp only[h0];exact hs
   | succ j=>exact h1 j o' (by simpa using hj)
  unfold WPdraw at h;cases hg:o.guard with
  | none=>
   simp only[hg] at h;obtain⟨v,H',h1,h2,h3⟩:=B4 h;exact fin _ (.inl ⟨by simp[vO,hg],v,H',h1,h2,rfl⟩) h3
  | some gd=>
   obtain⟨j,want⟩:=gd;simp only[hg] at h;cases hj:(ops[j]?).bind (·.dst) with
   | none=>rw[hj] at h;exact h.elim
   | some t=>
    rw[hj] at h;simp only at h;split at h
    .rename_i b hb;by_cases DQ:b=want
     .obtain⟨v,H',h1,h2,h3⟩:=B4 (h.1 DQ);exact fin _ (.inl ⟨by simp[vO,hg,hj,hb,DQ],v,H',h1,h2,rfl⟩) h3
     exact fin _ (.inr ⟨by simp[vO,hg,hj,hb,DQ],rfl⟩) (h.2 (by cases b<;>cases want<;>simp_all))
    .rename_i hb;exact fin _ (.inr ⟨by simp[vO,hg,hj,hb],rfl⟩) h
    exact h.elim
def vc (ops:Array Oper) (listed:Array Bool):Prop:=
 ∀ (j:Nat) oj,ops[j]?=some oj->listed.getD j false=true-> ∀ e∈oj.after,dk e=true->listed.getD e.on false=true
def vd (ops:Array Oper) (acc:List Nat):Prop:=
 ∀ (j:Nat) oj i,j<acc.length->ops[j]?=some oj->(acc.getD j 0).testBit i=true-> ∀ listed,vc ops listed->(∀ e∈oj.after,dk e=true->listed.getD e.on false=true)->listed.getD i false=true
theorem rj (acc:List Nat): ∀ (es:List Edge) (s i:Nat),(es.foldl (fun s e=>if dk e then s||| 2^e.on||| acc.getD e.on 0 else s) s).testBit i=true->
 s.testBit i=true\/ ∃ e∈es,dk e=true/\(i=e.on\/(acc.getD e.on 0).testBit i=true)
 | [],s,i,h=> .inl h
 | e::es,s,i,h=>by
  rw[List.foldl_cons] at h;rcases rj acc es _ i h with h1 | ⟨e',N5,hp,h1⟩
  .split at h1
   .rename_i hp;simp only[Nat.testBit_or,Bool.or_eq_true] at h1;rcases h1 with(h1 | h1) | h1
    .exact .inl h1
    .right;refine⟨e,by simp,hp,.inl ?_⟩;rw[Nat.testBit_two_pow] at h1;have h2:e.on=i:=by simpa using h1
     exact h2.symm
    exact .inr ⟨e,by simp,hp,.inr h1⟩
   exact .inl h1
  exact .inr ⟨e',by simp[N5],hp,h1⟩
theorem yW: ∀ (l:List Oper) (acc:List Nat),(∀ j,l[j]?=ops[acc.length+j]?)->vd ops acc->vd ops (vG l acc)
 | [],acc,_,h=>h
 | o::l,acc,hl,h=>by
  have h0:ops[acc.length]?=some o:=by simpa using(hl 0).symm
  refine yW l _ (fun j=>?_) ?_
  .have:=hl (j+1);rw[List.getElem?_cons_succ] at this;rw[this];congr 1;simp;omega
  intro j oj i hj XL hb listed hc hp;by_cases aH:j<acc.length
  .rw[qa,qi aH,<-qa] at hb;exact h j oj i aH XL hb listed hc hp
  have Oj:j=acc.length:=by simp at hj;omega
  subst Oj;rw[h0] at XL;cases XL;simp only[qa,getElem?_append_right (qp _),Nat.sub_self,List.getElem?_cons_zero,Option.getD_some] at hb;unfold F5 at hb;rcases rj acc _ 0 i hb with h1 | ⟨e,he,XM,h1⟩
  .simp at h1
  have dR:=hp e (Array.mem_toList_iff.1 he) XM;rcases h1 with rfl | h1
  .exact dR
  have akM:e.on<acc.length:=by
   apply Nat.lt_of_not_le;intro D1;rw[qa,List.getElem?_eq_none D1] at h1;simp at h1
  have oD: ∃ oe,ops[e.on]?=some oe:=by
   have aoZ:acc.length<ops.size:=(Array.getElem?_eq_some_iff.1 h0).1;exact⟨ops[e.on]'(by omega),by simp[show e.on<ops.size by omega]⟩
  obtain⟨oe,hoe⟩:=oD;exact h e.on oe i akM hoe h1 listed hc (fun e' N5 akN=>hc e.on oe hoe dR e' N5 akN)
structure g9 (ops:Array Oper):Prop where
 cls: ∀ (j:Nat) oj,ops[j]?=some oj->ed oj.op<3
 low: ∀ (j:Nat) oj,ops[j]?=some oj-> ∀ e∈oj.after,dk e=true->e.on<j
 ord: ∀ (i j:Nat) oi oj,i<j->ops[i]?=some oi->ops[j]?=some oj->kI ops oi oj=true-> ∀ listed,vc ops listed->(∀ e∈oj.after,dk e=true->listed.getD e.on false=true)->listed.getD i false=true
theorem tK: ∀ (l:List Oper) (acc:List Nat),(vG l acc).length=acc.length+l.length
 | [],acc=>by simp[vG]
 | o::l,acc=>by rw[vG,tK l];simp;omega
theorem MU (h:sa ops=true):g9 ops:=by
 unfold sa at h;rw[v7] at h;have hm:vd ops (vG ops.toList []):=yW ops.toList [] (by simp) (by intro j oj i hj;simp at hj);have key: ∀ (j:Nat) oj,ops[j]?=some oj->(ed oj.op<3/\ ∀ e∈oj.after,dk e=true->e.on<j)/\ ∀ i,i<j-> ∀ oi,ops[i]?=some oi->kI ops oi oj=true->((vG ops.toList []).getD j 0).testBit i=true:=by
  intro j oj hj;have aH:j<ops.size:=(Array.getElem?_eq_some_iff.1 hj).1;have h1:=h j (List.mem_range.2 aH);simp only[hj,DV,decide_eq_true_eq,v7] at h1;obtain⟨⟨h2,h3⟩,h4⟩:=h1;refine⟨⟨h2,fun e he hp=>?_⟩,fun i hi oi hoi fG=>?_⟩
  .have:=h3 e (Array.mem_toList_iff.2 he);simpa [hp] using this
  have:=h4 i (List.mem_range.2 hi);simpa [hoi,fG] using this
 refine⟨fun j oj hj=>(key j oj hj).1.1,fun j oj hj=>(key j oj hj).1.2,fun i j oi oj qX hi hj fG listed hc hp=>?_⟩;exact hm j oj i (by rw[tK];simp;exact(Array.getElem?_eq_some_iff.1 hj).1) hj ((key j oj hj).2 i qX oi hi fG) listed hc hp
end
end Go.AM
namespace Go.AM
section
variable {P:Program} {T:Tab} {ops:Array Oper}
theorem B5 (e:Edge):Region.binds .any e=dk e:=by
 unfold Region.binds dk;cases e.ground<;>rfl
theorem Uo (s:St) (d:Option Nat) (v:PV) (H:List Ob) (t:Nat) (h:d≠some t):(s.upd d v H).env.getD t .any=s.env.getD t .any:=by
 unfold St.upd;cases d with
 | none=>rfl
 | some t'=>
  have:t'≠t:=fun he=>h (by rw[he])
  simp only[qa,getElem?_set_ne this]
theorem Dm (s:St) (v:PV) (H:List Ob) (t:Nat) (h:t<s.env.length):(s.upd (some t) v H).env.getD t .any=v:=by
 unfold St.upd;simp[qa,h]
theorem Uq (s:St) (d:Option Nat) (v:PV) (H:List Ob):(s.upd d v H).env.length=s.env.length:=by
 unfold St.upd;cases d<;>simp
structure QY (P:Program) (T:Tab) (ops:Array Oper) (S:Nat->St):Prop where
 step: ∀ (j:Nat) o,ops[j]?=some o->Step1 P T ops o (S j) (S (j+1))
variable {S:Nat->St}
theorem Step1.env {o:Oper} {s s':St} (h:Step1 P T ops o s s') (t:Nat) (ht:o.dst≠some t):s'.env.getD t .any=s.env.getD t .any:=by
 rcases h with⟨_,v,H',_,_,rfl⟩ | ⟨_,rfl⟩<;>exact Uo _ _ _ _ _ ht
theorem Step1.len {o:Oper} {s s':St} (h:Step1 P T ops o s s'):s'.env.length=s.env.length:=by
 rcases h with⟨_,v,H',_,_,rfl⟩ | ⟨_,rfl⟩<;>exact Uq _ _ _ _
theorem Step1.heap {o:Oper} {s s':St} (h:Step1 P T ops o s s'):s.heap.length<=s'.heap.length/\True/\(bW o.op=false->s'.heap=s.heap++s'.heap.drop s.heap.length):=by
 rcases h with⟨_,v,H',hw,f6,rfl⟩ | ⟨_,rfl⟩
 .refine⟨Gs hw,cS,fun hs=>?_⟩;rcases f6 with f6 | ⟨obs,rfl⟩
  .rw[hs] at f6;cases f6
  simp[St.upd]
 simp[St.upd]
def jA (n:Nat) (S:Nat->St):Nat->List Ob
 | 0=>[]
 | m+1=>(S (n - m)).heap.drop (S (n - m - 1)).heap.length++jA n S m
def full (n:Nat) (S:Nat->St) (i:Nat):List Ob:=(S i).heap++jA n S (n - i)
theorem sf {n i:Nat} (h:i<n):jA n S (n - i)=(S (i+1)).heap.drop (S i).heap.length++jA n S (n - (i+1)):=by
 have e:n - i=(n - (i+1))+1:=by omega
 rw[e,jA];rw[show n - (n - (i+1))=i+1 by omega,show i+1 - 1=i by omega]
theorem qL (hr:QY P T ops S) {i:Nat} {o:Oper} (ho:ops[i]?=some o):
 (bW o.op=false->full ops.size S i=full ops.size S (i+1))/\full ops.size S i=(S i).heap++((S (i+1)).heap.drop (S i).heap.length++jA ops.size S (ops.size - (i+1))):=by
 have aH:i<ops.size:=(Array.getElem?_eq_some_iff.1 ho).1
 have h2:full ops.size S i=(S i).heap++((S (i+1)).heap.drop (S i).heap.length++jA ops.size S (ops.size - (i+1))):=by
  unfold full;rw[sf aH]
 refine⟨fun hs=>?_,h2⟩
 rw[h2,<-append_assoc,<-((hr.step i o ho).heap.2.2 hs)]
 rfl
theorem yX (hr:QY P T ops S) {t:Nat}: ∀ (d i:Nat),i+d<=ops.size->(∀ k o,i<=k->k<i+d->ops[k]?=some o->o.dst≠some t)->(S (i+d)).env.getD t .any=(S i).env.getD t .any
 | 0,i,_,_=>rfl
 | d+1,i,hl,h=>by
  have aH:i+d<ops.size:=by omega
  have h1:=hr.step (i+d) ops[i+d] (by simp[aH]);rw[show i+(d+1)=(i+d)+1 by omega,h1.env t (h (i+d) _ (by omega) (by omega) (by simp[aH]))];exact yX hr d i (by omega) (fun k o hk iJ ho=>h k o hk (by omega) ho)
theorem g_ (hr:QY P T ops S): ∀ (d i:Nat),i+d<=ops.size->(∀ k o,i<=k->k<i+d->ops[k]?=some o->bW o.op=false)->full ops.size S (i+d)=full ops.size S i
 | 0,i,_,_=>rfl
 | d+1,i,hl,h=>by
  have aH:i+d<ops.size:=by omega
  have h1:=(qL hr (i:=i+d) (o:=ops[i+d]) (by simp[aH])).1 (h (i+d) _ (by omega) (by omega) (by simp[aH]));rw[show i+(d+1)=(i+d)+1 by omega,<-h1];exact g_ hr d i (by omega) (fun k o hk iJ ho=>h k o hk (by omega) ho)
theorem hG (hr:QY P T ops S): ∀ (d i:Nat),i+d<=ops.size->(S i).heap.length<=(S (i+d)).heap.length
 | 0,i,_=>qp _
 | d+1,i,hl=>by
  have aH:i+d<ops.size:=by omega
  have h1:=(hr.step (i+d) ops[i+d] (by simp[aH])).heap.1;exact gD (hG hr d i (by omega)) h1
theorem wV (hr:QY P T ops S): ∀ (i:Nat),i<=ops.size->(S i).env.length=(S 0).env.length
 | 0,_=>rfl
 | i+1,h=>by
  have aH:i<ops.size:=by omega
  rw[(hr.step i ops[i] (by simp[aH])).len];exact wV hr i (by omega)
def Cut (ops:Array Oper) (listed:Array Bool) (t i:Nat):Prop:= ∀ (k:Nat) o,ops[k]?=some o->o.dst=some t->(listed.getD k true=true↔k<i)
def Iz (ops:Array Oper) (listed:Array Bool) (i:Nat):Prop:= ∀ (k:Nat) o,ops[k]?=some o->bW o.op=true->(listed.getD k true=true↔k<i)
structure Inv (ops:Array Oper) (S:Nat->St) (c:gF) (listed:Array Bool) (a:Act) (w:World) (X:Nat->Prop) (ρ:Places):Prop where
 sz:listed.size=ops.size
 closed:vc ops listed
 defers:a.defers=[]
 keeps:Keeps c w
 tl:a.tmps.size=(S 0).env.length
 env: ∀ (t i:Nat) u,i<=ops.size->Cut ops listed t i->a.tmps[t]?=some u->PRd w X ρ u ((S i).env.getD t .any)
 heap: ∀ i,i<=ops.size->Iz ops listed i->HRd c w X ρ (full ops.size S i)
 places: ∀ i,i<ops.size->listed.getD i true=false-> ∀ id,(S i).heap.length<=id->id<(S (i+1)).heap.length->ρ[id]?=some none
end
end Go.AM
namespace Go.AM
section
variable {P:Program} {T:Tab} {ops:Array Oper} {S:Nat->St}
theorem cG {op:Op} (h:bW op=true):ed op=2:=by
 cases op<;>first | rfl | (simp[bW] at h;done) | (simp only[bW] at h;simp[ed,h])
theorem MV {o:Oper} {t:Nat} (h:Operand.tmp t∈o.op.operands):t∈pn ops o:=by
 unfold pn;rw[qr,List.mem_filterMap];exact .inl ⟨.tmp t,Array.mem_toList_iff.2 h,rfl⟩
theorem Gu {o:Oper} {g:Nat} {want:Bool} {t:Nat} (h:o.guard=some (g,want)) (ht:(ops[g]?).bind (·.dst)=some t):t∈pn ops o:=by
 unfold pn F4;rw[qr,h];right;simp only[ht];simp
theorem MW {x y:Oper} {d:Nat} (h:x.dst=some d) (hr:d∈pn ops y):kI ops x y=true:=by
 unfold kI;simp[h,hr]
theorem MX {x y:Oper} {d:Nat} (h:y.dst=some d) (hr:d∈pn ops x):kI ops x y=true:=by
 unfold kI;simp[h,hr]
theorem QZ {x y:Oper} {d:Nat} (h:x.dst=some d) (h2:y.dst=some d):kI ops x y=true:=by
 unfold kI;simp[h,h2]
theorem pw {x y:Oper} (h:ed x.op=2) (h2:1<=ed y.op) (h3:nL y.op=false):kI ops x y=true:=by
 unfold kI;simp[h,h2,h3]
theorem jB {op:Op} (h:bW op=true):nL op=false:=by
 cases op<;>first | rfl | (simp[bW] at h;done)
theorem yY {x y:Oper} (h:1<=ed x.op) (h2:ed y.op=2):kI ops x y=true:=by
 unfold kI;simp[h,h2]
theorem qM {listed:Array Bool} {k:Nat} (h:k<listed.size):listed.getD k true=listed.getD k false:=by
 simp[h]
variable {c:gF} {listed:Array Bool} {a:Act} {w:World} {X:Nat->Prop} {ρ:Places} {i:Nat} {o:Oper}
theorem sh (hf:g9 ops) (fG:vc ops listed) (hp: ∀ e∈o.after,dk e=true->listed.getD e.on false=true) (ho:ops[i]?=some o) {k:Nat} {ok:Oper} (hk:k<i) (bE:ops[k]?=some ok)
 (h:kI ops ok o=true):listed.getD k false=true:=hf.ord k i ok o hk bE ho h listed fG hp
theorem f5 (hf:g9 ops) (d4:listed.size=ops.size) (fG:vc ops listed) (sx:listed.getD i true=false) (ho:ops[i]?=some o) {k:Nat} {ok:Oper} (hk:i<k) (bE:ops[k]?=some ok) (h:kI ops o ok=true):
 listed.getD k true=false:=by
 cases hl:listed.getD k true with
 | false=>rfl
 | true=>
  have rk:k<listed.size:=by rw[d4];exact(Array.getElem?_eq_some_iff.1 bE).1
  rw[qM rk] at hl;have h1:=hf.ord i k o ok hk ho bE h listed fG (fun e he XM=>fG k ok bE hl e he XM);have dU:i<listed.size:=by rw[d4];exact(Array.getElem?_eq_some_iff.1 ho).1
  rw[qM dU,h1] at sx;cases sx
theorem tL (hr:QY P T ops S) (hf:g9 ops) (bO:Inv ops S c listed a w X ρ) (ho:ops[i]?=some o) (sx:listed.getD i true=false) (hp: ∀ e∈o.after,dk e=true->listed.getD e.on false=true)
 {u:Value} {v:PV} {H':List Ob} {w':World} {X':Nat->Prop} {ρ':Places} (hS:S (i+1)=(S i).upd o.dst v H') (hs:Stp c w w' X X' ρ ρ') (DH:w.drawn<=w'.drawn) (hu:PRd w' X' ρ' u v)
 (dG: ∀ id,(id<(S i).heap.length\/(S (i+1)).heap.length<=id)->ρ'[id]?=ρ[id]?)
 (rB: ∀ i2,i2<=ops.size->Iz ops (listed.setIfInBounds i true) i2->HRd c w' X' ρ' (full ops.size S i2)):Inv ops S c (listed.setIfInBounds i true) (a.put o.dst u) w' X' ρ':=by
 have dU:i<ops.size:=(Array.getElem?_eq_some_iff.1 ho).1
 have VU:i<listed.size:=by rw[bO.sz];exact dU
 have zH: ∀ d,(listed.setIfInBounds i true).getD i d=true:=by intro d;simp[VU]
 have cM: ∀ k d,k≠i->(listed.setIfInBounds i true).getD k d=listed.getD k d:=fun k d hk=>getD_set_ne d (Ne.symm hk)
 refine⟨by simp[bO.sz],?_,by cases hd:o.dst<;>simp[Act.put,bO.defers],⟨hs.keeps bO.keeps.toKeepsB,gD bO.keeps.drawn DH⟩,by cases hd:o.dst<;>simp[Act.put,bO.tl],?_,rB,?_⟩
 .intro j oj hj hl e he XM
  by_cases DE:j=i
  .subst DE
   rw[ho] at hj;cases hj
   exact getD_set_true (hp e he XM)
  rw[cM j false DE] at hl
  exact getD_set_true (bO.closed j oj hj hl e he XM)
 .intro t i2 u2 iH nX w7
  by_cases hd:o.dst=some t
  .have Og:i<i2:=(nX i o ho hd).1 (zH true)
   rw[hd] at w7
   simp only[Act.put] at w7
   have aH:t<a.tmps.size:=by have:=(Array.getElem?_eq_some_iff.1 w7).1;simpa using this
   simp[aH] at w7
   subst w7
   have he:(S i2).env.getD t .any=(S (i+1)).env.getD t .any:=by
    have:=yX hr (t:=t) (i2 - (i+1)) (i+1) (by omega) (fun k ok hk iJ bE NM=>by
     have h1:=(nX k ok bE NM).2 (by omega);rw[cM k true (by omega)] at h1;have h2:=f5 hf bO.sz bO.closed sx ho (show i<k by omega) bE (QZ hd NM);rw[h1] at h2;cases h2)
    rw[show i+1+(i2 - (i+1))=i2 by omega] at this;exact this
   rw[he,hS,hd,Dm]
   .exact hu
   rw[wV hr i (by omega),<-bO.tl];exact aH
  have hu3:a.tmps[t]?=some u2:=by
   cases An:o.dst with
   | none=>rw[An] at w7;exact w7
   | some d=>
    rw[An] at w7 hd;simp only[Act.put] at w7;rw[Array.getElem?_setIfInBounds_ne (by intro he;exact hd (by rw[he]))] at w7;exact w7
  refine(bO.env t i2 u2 iH (fun k ok bE NM=>?_) hu3).stp hs
  have Cd:k≠i:=by
   intro he;subst he;rw[ho] at bE;cases bE;exact hd NM
  rw[<-cM k true Cd]
  exact nX k ok bE NM
 intro i2 iH VV id h1 h2
 have aga:i2≠i:=by intro he;subst he;rw[zH] at VV;cases VV
 rw[cM i2 true aga] at VV
 rw[dG id ?_]
 .exact bO.places i2 iH VV id h1 h2
 rcases Nat.lt_or_gt_of_ne aga with aH | AE
 .left
  have:=hG hr (i - (i2+1)) (i2+1) (by omega)
  rw[show i2+1+(i - (i2+1))=i by omega] at this
  omega
 right
 have:=hG hr (i2 - (i+1)) (i+1) (by omega)
 rw[show i+1+(i2 - (i+1))=i2 by omega] at this
 omega
theorem MY (hf:g9 ops) (d4:listed.size=ops.size) (fG:vc ops listed) (sx:listed.getD i true=false) (_hp: ∀ e∈o.after,dk e=true->listed.getD e.on false=true) (ho:ops[i]?=some o)
 (h1:1<=ed o.op): ∃ c0,c0<=i/\Iz ops listed c0:=by
 have key: ∀ n,n<=i->(∀ k,k<n-> ∀ ok,ops[k]?=some ok->bW ok.op=true->listed.getD k true=true)\/
  ∃ k ok,k<n/\ops[k]?=some ok/\bW ok.op=true/\listed.getD k true=false/\ ∀ k2,k2<k-> ∀ VK,ops[k2]?=some VK->bW VK.op=true->listed.getD k2 true=true:=by
  intro n
  induction n with
  | zero=>exact fun _=> .inl (fun k hk=>by omega)
  | succ n ih=>
   intro hn;rcases ih (by omega) with h | ⟨k,ok,hk,h⟩
   .by_cases hb: ∃ ok,ops[n]?=some ok/\bW ok.op=true/\listed.getD n true=false
    .obtain⟨ok,a1,a2,a3⟩:=hb;exact .inr ⟨n,ok,by omega,a1,a2,a3,fun k2 iJ VK h2 h3=>h k2 iJ VK h2 h3⟩
    refine .inl (fun k hk ok h2 h3=>?_);by_cases Lk:k=n
    .subst Lk;cases hl:listed.getD k true with
     | true=>rfl
     | false=>exact absurd ⟨ok,h2,h3,hl⟩ hb
    exact h k (by omega) ok h2 h3
   exact .inr ⟨k,ok,by omega,h⟩
 rcases key i (qp _) with h | ⟨k,ok,hk,bE,bP,hl,akO⟩
 .refine⟨i,qp _,fun k ok bE bP=>?_⟩
  rcases Nat.lt_trichotomy k i with aH | heq | AE
  .have:=h k aH ok bE bP
   simp[this,aH]
  .subst heq;simp[sx]
  have h2:=f5 hf d4 fG sx ho AE bE (yY h1 (cG bP))
  simp[h2];omega
 refine⟨k,by omega,fun k2 VK NK GS=>?_⟩
 rcases Nat.lt_trichotomy k2 k with aH | heq | AE
 .have:=akO k2 aH VK NK GS
  simp[this,aH]
 .subst heq;simp[hl]
 have h2:=f5 hf d4 fG hl bE AE NK (pw (cG bP) (by rw[cG GS];omega) (jB GS))
 simp[h2];omega
theorem MZ {op:Op} {s:St} {v:PV} {H':List Ob} (ha:nL op=true) (h:WPop P T op s fun v' H''=>v'=v/\H''=H'):
 ∃ b,v= .ptr s.heap.length 0 0/\H'=s.heap++[b]/\ ∀ F:List Ob,F.length=s.heap.length->WPop P T op ⟨s.env,F⟩ fun v' H''=>v'=v/\H''=F++[b]:=by
 cases op with
 | alloc t=>
  unfold WPop cx at h;simp only at h;unfold WPop cx;cases hi:T.at t with
  | none=>rw[hi] at h;exact h.elim
  | some ti=>
   rw[hi] at h;simp only at h ⊢;obtain⟨h1,h2,h3⟩:=h;exact⟨_,h2.symm,h3.symm,fun F hF=>by
    rw[hi];exact⟨h1,by rw[hF];exact h2,rfl⟩⟩
 | _=>simp[nL] at ha
theorem yZ (hr:QY P T ops S): ∀ (d c0:Nat),c0+d<=ops.size->(jA ops.size S (ops.size - c0)).drop ((S (c0+d)).heap.length - (S c0).heap.length)=jA ops.size S (ops.size - (c0+d))
 | 0,c0,_=>by rw[Nat.add_zero,Nat.sub_self,List.drop_zero]
 | d+1,c0,h=>by
  have ih:=yZ hr d c0 (by omega);have m1:=hG hr d c0 (by omega);have m2:=hG hr 1 (c0+d) (by omega);rw[sf (i:=c0+d) (by omega)] at ih;rw[show c0+(d+1)=c0+d+1 by omega];have e:(S (c0+d+1)).heap.length - (S c0).heap.length=((S (c0+d)).heap.length - (S c0).heap.length)+((S (c0+d+1)).heap.length - (S (c0+d)).heap.length):=by omega
  rw[e,<-List.drop_drop,ih,List.drop_append_of_le_length (by rw[length_drop];omega),List.drop_of_length_le (by rw[length_drop];omega)];rfl
theorem M0 (hr:QY P T ops S) (d c0:Nat) (h:c0+d<=ops.size):(full ops.size S c0).drop (S (c0+d)).heap.length=jA ops.size S (ops.size - (c0+d)):=by
 have m1:=hG hr d c0 h;have:=yZ hr d c0 h;unfold full;rw[List.drop_append,List.drop_of_length_le m1,nil_append,this]
theorem Q0 (hT:ck P T) {Q:Exit->Act->World->Prop} (hr:QY P T ops S) (hf:g9 ops) (bO:Inv ops S c listed a w X ρ) (hi:i∈Region.ready .any ops listed):
 wpOp P ops Q i (fun a' w'=> ∃ X' ρ',Inv ops S c (listed.setIfInBounds i true) a' w' X' ρ') a w:=by
 obtain⟨sx,o,ho,sn⟩:=mem_ready.1 hi
 have hp: ∀ e∈o.after,dk e=true->listed.getD e.on false=true:=fun e he XM=>sn e he (by rw[B5];exact XM)
 have dU:i<ops.size:=(Array.getElem?_eq_some_iff.1 ho).1
 have VU:i<listed.size:=by rw[bO.sz];exact dU
 have agb: ∀ t,t∈pn ops o->Cut ops listed t i:=by
  intro t ht k ok bE NM;rcases Nat.lt_trichotomy k i with aH | heq | AE
  .have h1:=sh hf bO.closed hp ho aH bE (MW NM ht);rw[<-qM (by rw[bO.sz];omega)] at h1;simp[h1,aH]
  .subst heq;simp[sx]
  have h1:=f5 hf bO.sz bO.closed sx ho AE bE (MX NM ht);simp[h1];omega
 have DU: ∀ t,t∈pn ops o->PRd w X ρ (a.tmps.getD t undef) ((S i).env.getD t .any):=by
  intro t ht;by_cases aH:t<a.tmps.size
  .have:=bO.env t i a.tmps[t] (by omega) (agb t ht) (by simp[aH]);simpa [aH] using this
  have D1:(S i).env.length<=t:=by rw[wV hr i (by omega),<-bO.tl];omega
  rw[qa,List.getElem?_eq_none D1];exact .any _
 have sw: ∀ x∈o.op.operands,PRd w X ρ (a.eval x) (ev (S i).env x):=by
  intro x hx;cases x with
  | tmp t=>exact DU t (MV hx)
  | const v=>exact lh v
  | global g=>exact .any _
  | func f=>exact .fv _ _ (.lit _ rfl)
 have oq: ∀ b,vO ops (S i) o=some b->Region.wanted o (yielded ops a.tmps)=b:=by
  intro b hb;unfold vO at hb;unfold Region.wanted;cases hg:o.guard with
  | none=>rw[hg] at hb;simp at hb;simp[hb]
  | some gd=>
   obtain⟨j,want⟩:=gd;rw[hg] at hb;simp only at hb ⊢;cases hj:(ops[j]?).bind (·.dst) with
   | none=>rw[hj] at hb;cases hb
   | some t=>
    rw[hj] at hb;simp only at hb;have ht:=DU t (Gu hg hj);have hy:yielded ops a.tmps j=(match a.tmps[t]? with | some (.bool b)=>some b | _=>none):=by
     unfold yielded;rw[hj];rfl
    rw[hy];unfold St.get at hb;split at hb
    .rename_i b2 eo;rw[eo] at ht;have aH:=ht.litInv;simp at hb;cases et:a.tmps[t]? with
     | none=>simp[et,undef] at aH
     | some v2=>
      simp[et] at aH;subst aH;simp only;rw[<-hb];simp
    .rename_i eo;rw[eo] at ht;simp at hb;cases et:a.tmps[t]? with
     | none=>simp[<-hb]
     | some v2=>
      simp[et] at ht;cases ht;simp[<-hb]
    cases hb
 unfold wpOp
 simp only[ho]
 rcases hr.step i o ho with⟨hw,v,H',hwp,f6,hS⟩ | ⟨hw,hS⟩
 .rw[oq true hw]
  refine .inl ?_
  have SM:(S (i+1)).heap=H':=by rw[hS];rfl
  by_cases h0:ed o.op=0
  .obtain⟨hH,u,cO,hu⟩:=Dl (P:=P) (T:=T) hT h0 rfl (o:=o) (e:=a.eval) hwp sw
   unfold Oper.wp
   rw[cO]
   refine⟨X,ρ,tL hr hf bO ho sx hp hS Stp.refl (qp _) hu (fun _ _=>rfl) (fun i2 iH nX=>bO.heap i2 iH (fun k ok bE bP=>?_))⟩
   have Cd:k≠i:=by
    intro he;subst he;rw[ho] at bE;cases bE;rw[cG bP] at h0;cases h0
   rw[<-getD_set_ne true (Ne.symm Cd)]
   exact nX k ok bE bP
  by_cases Oq:nL o.op=true
  .obtain⟨c0,NB,Sj⟩:=MY hf bO.sz bO.closed sx hp ho (by omega)
   have hh:=bO.heap c0 (by omega) Sj
   obtain⟨b,Z8,hHb,VH⟩:=MZ Oq hwp
   have zA:=M0 hr (i - c0) c0 (by omega)
   rw[show c0+(i - c0)=i by omega,sf dU,SM,hHb,List.drop_left] at zA
   obtain⟨F,hF⟩:=Hs ((full ops.size S c0).take (S i).heap.length)
   have hFl:F.length=(S i).heap.length:=by
    rw[<-hF,qf];have h1:(full ops.size S c0).length=(S c0).heap.length+(jA ops.size S (ops.size - c0)).length:=by unfold full;rw[qe]
    have h2:=congrArg List.length zA;rw[length_drop] at h2;rw[qe,N6] at h2;omega
   have pH:full ops.size S c0=F++([b]++jA ops.size S (ops.size - (i+1))):=by
    rw[<-zA,<-hF,List.take_append_drop]
   rw[pH] at hh
   refine Gr hT (s:=⟨(S i).env,F⟩) (VH F hFl) hh (fun id h1 h2=>bO.places i dU sx id (by dsimp only at h1;omega) (by rw[SM,hHb,qe,N6];simp at h2;omega)) (by simp) sw (fun u w' X' ρ' hs DH w8 hu dG=>?_)
   refine⟨X',ρ',tL hr hf bO ho sx hp hS hs DH hu (fun id d5=>dG id (by
    rw[SM,hHb,qe,N6] at d5;dsimp only;rw[N6];omega)) (fun i2 iH nX=>?_)⟩
   have G':Iz ops listed i2:=by
    intro k ok bE jd;have Cd:k≠i:=by
     intro he;subst he;rw[ho] at bE;cases bE;rw[jB jd] at Oq;cases Oq
    rw[<-getD_set_ne true (Ne.symm Cd)];exact nX k ok bE jd
   have eF:full ops.size S i2=full ops.size S c0:=by
    rcases Nat.le_total c0 i2 with dR | dR
    .have:=g_ hr (i2 - c0) c0 (by omega) (fun k ok hk iJ bE=>by
      cases jd:bW ok.op with
      | false=>rfl
      | true=>
       have h1:=(G' k ok bE jd).2 (by omega);have h2:=(Sj k ok bE jd).1 h1;omega)
     rw[show c0+(i2 - c0)=i2 by omega] at this;exact this
    have:=g_ hr (c0 - i2) i2 (by omega) (fun k ok hk iJ bE=>by
     cases jd:bW ok.op with
     | false=>rfl
     | true=>
      have h1:=(Sj k ok bE jd).2 (by omega);have h2:=(G' k ok bE jd).1 h1;omega)
    rw[show i2+(c0 - i2)=c0 by omega] at this;exact this.symm
   rw[eF,pH,<-append_assoc]
   exact w8
  have Oq:nL o.op=false:=by simpa using Oq
  have agc:1<=ed o.op:=by omega
  have hhc:Iz ops listed i:=by
   intro k ok bE bP;have iJ:=cG bP;rcases Nat.lt_trichotomy k i with aH | heq | AE
   .have h1:=sh hf bO.closed hp ho aH bE (pw iJ agc Oq);rw[<-qM (by rw[bO.sz];omega)] at h1;simp[h1,aH]
   .subst heq;simp[sx]
   have h1:=f5 hf bO.sz bO.closed sx ho AE bE (yY agc iJ);simp[h1];omega
  have hh:=bO.heap i (by omega) hhc
  obtain⟨DS,R_⟩:=qL hr ho
  rw[R_] at hh
  have aD:=Gs hwp
  rw[SM] at hh R_
  refine Gr hT hwp hh (fun id h1 h2=>bO.places i dU sx id h1 (by rw[SM];simp at h2;omega)) (by simp;omega) sw (fun u w' X' ρ' hs DH w8 hu dG=>?_)
  have eu:full ops.size S (i+1)=H'++jA ops.size S (ops.size - (i+1)):=by unfold full;rw[SM]
  refine⟨X',ρ',tL hr hf bO ho sx hp hS hs DH hu (fun id d5=>dG id (by rw[SM] at d5;simp;omega)) (fun i2 iH nX=>?_)⟩
  have zH:(listed.setIfInBounds i true).getD i true=true:=by simp[VU]
  have hfi:HRd c w' X' ρ' (full ops.size S (i+1)):=by rw[eu];exact w8
  by_cases bP:bW o.op=true
  .have Og:i<i2:=(nX i o ho bP).1 zH
   have:=g_ hr (i2 - (i+1)) (i+1) (by omega) (fun k ok hk iJ bE=>by
    cases jd:bW ok.op with
    | false=>rfl
    | true=>
     have h1:=(nX k ok bE jd).2 (by omega);rw[getD_set_ne true (by omega)] at h1;have h2:=f5 hf bO.sz bO.closed sx ho (show i<k by omega) bE (pw (cG bP) (by rw[cG jd];omega) (jB jd));rw[h1] at h2;cases h2)
   rw[show i+1+(i2 - (i+1))=i2 by omega] at this
   rw[this]
   exact hfi
  have akQ:bW o.op=false:=by simpa using bP
  have G':Iz ops listed i2:=by
   intro k ok bE jd;have Cd:k≠i:=by
    intro he;subst he;rw[ho] at bE;cases bE;exact bP jd
   rw[<-getD_set_ne true (Ne.symm Cd)];exact nX k ok bE jd
  have eF:full ops.size S i2=full ops.size S i:=by
   rcases Nat.le_total i i2 with dR | dR
   .have:=g_ hr (i2 - i) i (by omega) (fun k ok hk iJ bE=>by
     cases jd:bW ok.op with
     | false=>rfl
     | true=>
      have h1:=(G' k ok bE jd).2 (by omega);have h2:=(hhc k ok bE jd).1 h1;omega)
    rw[show i+(i2 - i)=i2 by omega] at this;exact this
   have:=g_ hr (i - i2) i2 (by omega) (fun k ok hk iJ bE=>by
    cases jd:bW ok.op with
    | false=>rfl
    | true=>
     have h1:=(hhc k ok bE jd).2 (by omega);have h2:=(G' k ok bE jd).1 h1;omega)
   rw[show i2+(i - i2)=i by omega] at this;exact this.symm
  rw[eF,DS akQ]
  exact hfi
 rw[oq false hw]
 refine⟨X,ρ,tL hr hf bO ho sx hp hS Stp.refl (qp _) (.tup #[] [] rfl (by simp)) (fun _ _=>rfl) (fun i2 iH nX=>?_)⟩
 have SM:(S (i+1)).heap=(S i).heap:=by rw[hS];rfl
 have zH:(listed.setIfInBounds i true).getD i true=true:=by simp[VU]
 by_cases bP:bW o.op=true
 .have hhc:Iz ops listed i:=by
   intro k ok bE jd;have iJ:=cG jd;have gB:=cG bP;rcases Nat.lt_trichotomy k i with aH | heq | AE
   .have h1:=sh hf bO.closed hp ho aH bE (pw iJ (by omega) (jB bP));rw[<-qM (by rw[bO.sz];omega)] at h1;simp[h1,aH]
   .subst heq;simp[sx]
   have h1:=f5 hf bO.sz bO.closed sx ho AE bE (yY (by omega) iJ);simp[h1];omega
  have Og:i<i2:=(nX i o ho bP).1 zH
  have eF:=g_ hr (i2 - (i+1)) (i+1) (by omega) (fun k ok hk iJ bE=>by
   cases jd:bW ok.op with
   | false=>rfl
   | true=>
    have h1:=(nX k ok bE jd).2 (by omega);rw[getD_set_ne true (by omega)] at h1;have h2:=f5 hf bO.sz bO.closed sx ho (show i<k by omega) bE (pw (cG bP) (by rw[cG jd];omega) (jB jd));rw[h1] at h2;cases h2)
  rw[show i+1+(i2 - (i+1))=i2 by omega] at eF
  have R_:=(qL hr ho).2
  rw[SM,List.drop_length,nil_append] at R_
  have hf1:full ops.size S (i+1)=full ops.size S i:=by
   rw[R_];unfold full;rw[SM]
  rw[eF,hf1]
  exact bO.heap i (by omega) hhc
 refine bO.heap i2 iH (fun k ok bE jd=>?_)
 have Cd:k≠i:=by
  intro he;subst he;rw[ho] at bE;cases bE;exact bP jd
 rw[<-getD_set_ne true (Ne.symm Cd)]
 exact nX k ok bE jd
theorem ID (hf:g9 ops) (d4:listed.size=ops.size) (hrd:Region.ready .any ops listed=[]): ∀ k,k<ops.size->listed.getD k true=true:=by
 intro k
 induction k using Nat.strongRecOn with
 | _ k ih=>
  intro hk;cases hl:listed.getD k true with
  | true=>rfl
  | false=>
   have bf:k∈Region.ready .any ops listed:=by
    refine mem_ready.2 ⟨hl,ops[k],by simp[hk],fun e he hb=>?_⟩;rw[B5] at hb;have aH:=hf.low k ops[k] (by simp[hk]) e he hb;rw[<-qM (by omega)];exact ih e.on aH (by omega)
   rw[hrd] at bf;cases bf
theorem Ur (hT:ck P T) {Q:Exit->Act->World->Prop} (hr:QY P T ops S) (hf:g9 ops) (hQ: ∀ a w,SRd c (S ops.size) a w->Q .normal a w):
 ∀ (fuel:Nat) (listed:Array Bool) (a:Act) (w:World),(∃ X ρ,Inv ops S c listed a w X ρ)->listed.toList.count false<=fuel->wpAny P .any ops Q fuel listed a w:=by
 have fin: ∀ (listed:Array Bool) (a:Act) (w:World),(∃ X ρ,Inv ops S c listed a w X ρ)->(∀ k,k<ops.size->listed.getD k true=true)->Q .normal a w:=by
  intro listed a w ⟨X,ρ,bO⟩ Oq;refine hQ a w ⟨X,ρ,?_,⟨by rw[bO.tl,wV hr _ (qp _)],fun t u x hu hx=>?_⟩,bO.defers,bO.keeps⟩
  .have:=bO.heap ops.size (qp _) (fun k o bE _=>by
    have aH:k<ops.size:=(Array.getElem?_eq_some_iff.1 bE).1;simp[Oq k aH,aH])
   unfold full at this;rw[Nat.sub_self,jA,append_nil] at this;exact this
  have:=bO.env t ops.size u (qp _) (fun k o bE _=>by
   have aH:k<ops.size:=(Array.getElem?_eq_some_iff.1 bE).1;simp[Oq k aH,aH]) hu
  rw[qa,hx] at this;exact this
 intro fuel
 induction fuel with
 | zero=>
  intro listed a w bO hc;obtain⟨X,ρ,hi⟩:=bO;have Oq: ∀ k,k<ops.size->listed.getD k true=true:=by
   intro k hk;have rk:k<listed.size:=by rw[hi.sz];exact hk
   have h0:listed.toList.count false=0:=by omega
   rw[List.count_eq_zero] at h0;cases hl:listed.getD k true with
   | true=>rfl
   | false=>
    exfalso;apply h0;have:listed[k]=false:=by simpa [rk] using hl
    rw[<-this];exact Array.mem_toList_iff.2 (Array.getElem_mem rk)
  refine⟨?_,fin listed a w ⟨X,ρ,hi⟩ Oq⟩;cases hrd:Region.ready .any ops listed with
  | nil=>rfl
  | cons j l=>
   have hj:j∈Region.ready .any ops listed:=by rw[hrd];simp
   obtain⟨sx,oj,XL,_⟩:=mem_ready.1 hj;rw[Oq j (Array.getElem?_eq_some_iff.1 XL).1] at sx;cases sx
 | succ fuel ih=>
  intro listed a w bO hc;obtain⟨X,ρ,hi⟩:=bO;refine⟨fun hrd=>fin listed a w ⟨X,ρ,hi⟩ (ID hf hi.sz hrd),fun i hir=>?_⟩;refine wpOp_mono (fun a' w' agd=>ih _ a' w' agd ?_) (Q0 hT hr hf hi hir);obtain⟨sx,o,ho,_⟩:=mem_ready.1 hir;have dU:i<listed.size:=by rw[hi.sz];exact(Array.getElem?_eq_some_iff.1 ho).1
  have ZH:listed.toList[i]'(by simpa using dU)=false:=by
   have:listed[i]=false:=by simpa [dU] using sx
   simpa using this
  rw[Array.toList_setIfInBounds,List.count_set (by simpa using dU)];have db:0<listed.toList.count false:=by
   rw[List.count_pos_iff];rw[<-ZH];exact kj _
  rw[ZH];show(List.count false listed.toList - 1)+0<=fuel;omega
theorem IE (hT:ck P T) {Q:Exit->Act->World->Prop} (bE:sa ops=true) {st:St} {K:St->Prop} (h:WPdraw P T ops ops.toList st K) (hK: ∀ st a w,K st->SRd c st a w->Q .normal a w) (hs:SRd c st a w):
 wpAny P .any ops Q ops.size (Array.replicate ops.size false) a w:=by
 have hf:=MU bE
 obtain⟨S,h0,h1,h2⟩:=adT ops.toList st h
 rw[Array.length_toList] at h2
 have hr:QY P T ops S:=⟨fun j o hj=>h1 j o (by simpa using hj)⟩
 obtain⟨X,ρ,hh,he,hd,hk⟩:=hs
 refine Ur hT hr hf (c:=c) (fun a w hs=>hK _ a w h2 hs) ops.size _ a w ⟨X,ρ++replicate (jA ops.size S ops.size).length none,?_⟩ (by simp)
 have sx: ∀ k,k<ops.size->(Array.replicate ops.size false).getD k true=false:=by intro k hk;simp[hk]
 have dR:=Places.Le.append ρ (replicate (jA ops.size S ops.size).length none)
 refine⟨by simp,?_,hd,hk,by rw[h0];exact he.1,?_,?_,?_⟩
 .intro j oj hj hl
  have aH:j<ops.size:=(Array.getElem?_eq_some_iff.1 hj).1
  simp[aH] at hl
 .intro t i u hi nX hu
  have eF:=yX hr (t:=t) i 0 (by omega) (fun k o _ hk bE NM=>by
   have aH:k<ops.size:=(Array.getElem?_eq_some_iff.1 bE).1;have:=(nX k o bE NM).2 (by omega);rw[sx k aH] at this;cases this)
  rw[Nat.zero_add] at eF
  rw[eF,h0]
  have aH:t<st.env.length:=by rw[<-he.1];exact(Array.getElem?_eq_some_iff.1 hu).1
  have:=he.2 t u st.env[t] hu (by simp[aH])
  rw[qa]
  simp only[qb aH,Option.getD_some]
  exact this.mono (Same.refl X _) (fun _ _ h=>h) dR
 .intro i hi nX
  have eF:=g_ hr i 0 (by omega) (fun k o _ hk bE=>by
   have aH:k<ops.size:=(Array.getElem?_eq_some_iff.1 bE).1;cases jd:bW o.op with
   | false=>rfl
   | true=>
    have:=(nX k o bE jd).2 (by omega);rw[sx k aH] at this;cases this)
  rw[Nat.zero_add] at eF
  rw[eF]
  unfold full
  rw[h0,Nat.sub_zero]
  exact hh.extend _
 intro i hi _ id h3 h4
 have hm:=hG hr i 0 (by omega)
 rw[Nat.zero_add,h0] at hm
 rw[getElem?_append_right (by rw[hh.len];omega),List.getElem?_replicate]
 rw[if_pos]
 have oH:(full ops.size S ops.size).length<=(full ops.size S 0).length:=by
  have aD: ∀ d i,i+d<=ops.size->(full ops.size S (i+d)).length=(full ops.size S i).length:=by
   intro d
   induction d with
   | zero=>intro i _;rfl
   | succ d ih=>
    intro i d5;have aH:i+d<ops.size:=by omega
    have ho:ops[i+d]?=some ops[i+d]:=by simp[aH]
    have bP:=(hr.step (i+d) _ ho).heap;obtain⟨hf1,hf2⟩:=qL hr ho;rw[show i+(d+1)=(i+d)+1 by omega,<-ih i (by omega)];cases jd:bW ops[i+d].op with
    | false=>rw[hf1 jd]
    | true=>
     rw[hf2];unfold full;have:=bP.1;simp;omega
  have:=aD ops.size 0 (by omega);rw[Nat.zero_add] at this;omega
 have SF:=hG hr (ops.size - (i+1)) (i+1) (by omega)
 rw[show i+1+(ops.size - (i+1))=ops.size by omega] at SF
 unfold full at oH
 rw[Nat.sub_self,jA,append_nil,qe,Nat.sub_zero,h0] at oH
 rw[hh.len]
 omega
end
end Go.AM
