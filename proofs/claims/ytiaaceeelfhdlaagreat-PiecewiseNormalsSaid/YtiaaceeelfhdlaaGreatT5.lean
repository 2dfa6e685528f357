/- The abstract machine:values that are built,literals of slices,frozen variables. -/
import Derived.Test.YtiaaceeelfhdlaaGreatT4
import Derived.Laws.Tables
import Derived.Test.YtiaaceeelfhdlaaGreatT1
set_option linter.all false
open List (append_assoc ext_getElem? getElem?_append_right getElem?_of_mem getElem?_set_ne getElem?_take length_drop length_nil length_take map_cons map_nil mem_map mem_of_getElem? mem_of_mem_drop nil_append set_append_left)
namespace Go.AM
section
variable {P:Program} {T:Tab}
structure vz (w:World) (X:Nat->Prop) (ρ:Places) (us:Array Value) (cs:List PV):Prop where
 n:us.size=cs.length
 one: ∀ (i:Nat) u,us[i]?=some u->u.oneCell'=true
 rd: ∀ (i:Nat) u x,us[i]?=some u->cs[i]?=some x->PRd w X ρ u x
theorem A_ {w:World} {X:Nat->Prop} {ρ:Places} {pl:Nat->Option (Nat×Nat)} (Ec: ∀ i off s,pl i=some (off,s)->0<s):
 ∀ (pc:List (Nat×Value)) (pv:List (Nat×PV)) (us:Array Value) (cs cs':List PV),pc.length=pv.length->(∀ (k:Nat) a b,pc[k]?=some a->pv[k]?=some b->a.1=b.1/\PRd w X ρ a.2 b.2)->
  vz w X ρ us cs->kd pl cs pv=some cs'-> ∃ us',Instr.fill pl us pc=some us'/\vz w X ρ us' cs'
 | [],[],us,cs,cs',_,_,h,hf=>by
  simp only[kd,qo] at hf;subst hf;exact⟨us,rfl,h⟩
 | (i,u)::pc,(j,x)::pv,us,cs,cs',hl,hp,h,hf=>by
  obtain⟨h1,h2⟩:=hp 0 _ _ rfl rfl;simp only at h1 h2;subst h1;simp only[kd] at hf;split at hf
  .cases hf
  .rename_i off size V6;split at hf
   .rename_i hc;have cY:=Ec _ _ _ V6;obtain⟨dh,eA⟩:=qg h2 (by omega);have hrd:=wZ h2;have jw:vz w X ρ (u.cells.zipIdx.foldl (fun cs (p:Value×Nat)=>cs.setIfInBounds (off+p.2) p.1) us) (eH cs off x.cells):=by
     have hg: ∀ m,(u.cells.zipIdx.foldl (fun cs (p:Value×Nat)=>cs.setIfInBounds (off+p.2) p.1) us)[m]?=if off<=m/\m<off+u.cells.size/\m<us.size then u.cells[m - off]? else us[m]?:=by
      intro m;have:=wY u.cells.toList 0 off us m;rw[<-Array.foldl_toList,Array.toList_zipIdx];simpa using this
     have hsp:=fun m=>iG (l:=cs) (new:=x.cells) (off:=off) (by omega) m
     have hn:=h.n;refine⟨?_,fun m v hv=>?_,fun m v y hv hy=>?_⟩
     .rw[f6 (by omega),<-hn];have ahi: ∀ (l:List (Value×Nat)) (a:Array Value),(l.foldl (fun cs (p:Value×Nat)=>cs.setIfInBounds (off+p.2) p.1) a).size=a.size:=by
       intro l
       induction l with
       | nil=>intro a;rfl
       | cons q l ih=>intro a;rw[List.foldl_cons,ih];simp
      rw[<-Array.foldl_toList];exact ahi _ _
     .rw[hg] at hv;split at hv
      .exact eA _ _ hv
      exact h.one _ _ hv
     rw[hg] at hv;rw[hsp] at hy;by_cases hm:off<=m/\m<off+u.cells.size/\m<us.size
     .rw[if_pos hm] at hv;rw[if_neg (by omega),if_pos (by omega)] at hy;exact hrd _ _ _ hv hy
     rw[if_neg hm] at hv;have alg:m<us.size:=(Array.getElem?_eq_some_iff.1 hv).1;by_cases hmo:m<off
     .rw[if_pos hmo] at hy;exact h.rd _ _ _ hv hy
     rw[if_neg hmo,if_neg (by omega)] at hy;exact h.rd _ _ _ hv hy
    obtain⟨us',gf,fA⟩:=A_ Ec pc pv _ _ _ (by simpa using hl) (fun k a b ha hb=>hp (k+1) a b (by simpa using ha) (by simpa using hb)) jw hf;refine⟨us',?_,fA⟩;simp only[Instr.fill,V6];rw[if_neg (by have:=h.n;simp;omega)];exact gf
   .cases hf
 | [],_::_,_,_,_,hl,_,_,_=>by simp at hl
 | _::_,[],_,_,_,hl,_,_,_=>by simp at hl
theorem DA {w:World} {X:Nat->Prop} {ρ:Places} {e:Operand->Value} {ρv:Operand->PV} (parts:List (Nat×Operand)) (h: ∀ p∈parts,PRd w X ρ (e p.2) (ρv p.2)):
 ∀ (k:Nat) a b,(parts.map fun(i,x)=>(i,e x))[k]?=some a->(parts.map fun(j,x)=>(j,ρv x))[k]?=some b->a.1=b.1/\PRd w X ρ a.2 b.2:=by
 intro k a b ha hb
 rw[List.getElem?_map,Option.map_eq_some_iff] at ha hb
 obtain⟨p,hp,rfl⟩:=ha
 obtain⟨q,hq,rfl⟩:=hb
 rw[hp] at hq;cases hq
 exact⟨rfl,h p (mem_of_getElem? hp)⟩
theorem ug {fs:List Yg}: ∀ (ffs:List Field) (k:Nat),(∀ (j:Nat) f,ffs[j]?=some f-> ∃ fd,fs[k+j]?=some fd/\f.offset=fd.off/\ ∃ ti,P.info? f.type=some ti/\ti.size=fd.size)->
 ∃ places,ffs.mapM (fun f=>(P.info? f.type).map fun i=>(f.offset,i.size))=some places/\places.length=ffs.length/\ ∀ (j:Nat),j<ffs.length->places[j]?=(fs[k+j]?).map fun fd=>(fd.off,fd.size)
 | [],k,_=>⟨[],rfl,rfl,by simp⟩
 | f::ffs,k,h=>by
  obtain⟨fd,xK,ho,ti,eN,hs⟩:=h 0 f rfl;obtain⟨places,hp,hl,hg⟩:=ug ffs (k+1) (fun j f' hj=>by
   have:=h (j+1) f' (by simpa using hj);rwa [show k+(j+1)=k+1+j by omega] at this)
  refine⟨(fd.off,fd.size)::places,by simp[List.mapM_cons,eN,hp,ho,hs],by simp[hl],fun j hj=>?_⟩;cases j with
  | zero=>simp at xK ⊢;simp[xK]
  | succ j=>
   simp only[List.getElem?_cons_succ];rw[hg j (by simpa using hj),show k+1+j=k+(j+1) by omega]
theorem DB (hT:ck P T) (t:TypeId) (parts:Array (Nat×Operand)):d4 P T (.build t parts):=by
 intro c w X ρ H F o e ρv r lo hi ho h hH hρ ao hc;simp only[aP] at ao;split at ao;rotate_left
 .cases ao
 rename_i i hi;split at ao;rotate_left
 .cases ao
 rename_i fs xM;split at ao;rotate_left
 .cases ao
 rename_i cs f_;simp only[Res.pure,qo] at ao;subst ao;have hd:=(hT _ _ hi).desc;rw[xM] at hd;obtain⟨ffs,hu,dh,Gx⟩:=hd;obtain⟨ti,z,eN,dD,_,hz,pM,eV,eA,hrd⟩:=kH (hT _ _ hi) (w:=w) (X:=X) (ρ:=ρ);have Ec: ∀ (i off s:Nat),((fs[i]?).map fun(f:Yg)=>(f.off,f.size))=some (off,s)->0<s:=by
  intro i off s hi;rw[Option.map_eq_some_iff] at hi;obtain⟨fd,xK,he⟩:=hi;cases he;have aG:i<ffs.size:=by rw[dh];exact(List.getElem?_eq_some_iff.1 xK).1
  exact(Gx i _ _ (Array.getElem?_eq_getElem aG) xK).2.1
 obtain⟨us',gf,fA⟩:=A_ (w:=w) (X:=X) (ρ:=ρ) (pl:=fun(i:Nat)=>(fs[i]?).map fun(f:Yg)=>(f.off,f.size)) Ec (parts.toList.map fun(i,x)=>(i,e x)) (parts.toList.map fun(j,x)=>(j,ρv x)) z.cells i.zero cs (by simp)
  (DA parts.toList (fun p hp=>hρ p.2 (by
   simp only[Op.operands,List.mem_toArray,mem_map];exact⟨p,hp,rfl⟩))) ⟨by omega,eA,fun j u x hu hx=>(hrd j u x hu hx).1⟩ f_
 obtain⟨places,hp,hl,hg⟩:=ug (P:=P) (fs:=fs) ffs.toList 0 (fun j f hj=>by
  have PN:ffs[j]?=some f:=by simpa using hj
  have aG:j<fs.length:=by rw[<-dh];exact(Array.getElem?_eq_some_iff.1 PN).1
  obtain⟨h1,_,ti,d,h3,h4,_⟩:=Gx j f fs[j] PN (by simp[aG]);exact⟨fs[j],by simp[aG],h1,ti,h3,h4⟩)
 have ahj:(fun(i:Nat)=>(fs[i]?).map fun(f:Yg)=>(f.off,f.size))=fun(i:Nat)=>(places.toArray[i]?:Option (Nat×Nat)):=by
  funext j;simp only[List.getElem?_toArray];by_cases hj:j<ffs.size
  .rw[hg j (by simpa using hj)];simp
  rw[List.getElem?_eq_none (by omega),List.getElem?_eq_none (by rw[hl];simp;omega)];rfl
 rw[ahj] at gf;refine⟨rfl,OpOK.still h (u:= .agg us') ?_ (.agg _ _ fA.n fA.one fA.rd)⟩;have hb:P.built t (parts.map fun(i,x)=>(i,e x)).toList=some us':=by
  simp only[Program.built,eN,hu,hz,hp];simpa using gf
 simp only[execOp,ho,Sem.run_bind,run_build w t _ us' hb,Result.andThen_ok];rfl
theorem w_ {H:List Ob}: ∀ {xs:List PV} {ys:List FV},pQ H xs=some ys->ys.length=xs.length/\ ∀ (i:Nat) y,ys[i]?=some y-> ∃ x,xs[i]?=some x/\dS H x=some y
 | [],ys,h=>by simp[pQ] at h;subst h;simp
 | x::xs,ys,h=>by
  simp only[pQ] at h;split at h
  .rename_i y ys' h1 h2;cases h;obtain⟨hl,hg⟩:=w_ h2;refine⟨by simp[hl],fun i z hz=>?_⟩;cases i with
   | zero=>simp at hz;subst hz;exact⟨x,rfl,h1⟩
   | succ i=>simp at hz ⊢;exact hg i z hz
  cases h
theorem eM {G:List Ob}: ∀ (ids:List Nat) {F:List Ob},(∀ id∈ids,id<F.length)->shutIds ids (F++G)=shutIds ids F++G
 | [],F,_=>rfl
 | id::ids,F,h=>by
  show shutIds ids (shut (F++G) id)=shutIds ids (shut F id)++G;rw[Dq (h id (by simp)),eM ids (fun j hj=>by simp[shut];exact h j (by simp[hj]))]
theorem H3 {H:List Ob} {x:PV} {y:FV} (h:dI H x=some y): ∀ id∈eu x,id<H.length:=by
 cases x with
 | lsl id off len s=>
  intro j hj;simp only[eu,qz] at hj;subst hj;simp only[dI] at h;cases ho:H[j]? with
  | none=>rw[ho] at h;cases h
  | some o=>exact(List.getElem?_eq_some_iff.1 ho).1
 | _=>intro j hj;simp[eu] at hj
theorem o3 {H:List Ob}: ∀ {xs:List PV} {ys:List FV},kc H xs=some ys-> ∀ id∈xs.flatMap eu,id<H.length
 | [],ys,h=>by simp
 | x::xs,ys,h=>by
  simp only[kc] at h;split at h
  .rename_i y ys' h1 h2;intro id cF;rw[List.flatMap_cons,qr] at cF;rcases cF with cF | cF
   .exact H3 h1 id cF
   exact o3 h2 id cF
  cases h
theorem A' {H:List Ob} {x:PV} {y:FV} (h:dS H x=some y): ∀ id∈j7 H x,id<H.length:=by
 unfold dS at h;unfold j7;split at h
 .rename_i id;cases ho:H[id]? with
  | none=>rw[ho] at h;cases h
  | some o=>
   rw[ho] at h;cases o with
   | box rw cs=>
    simp only[Option.map_eq_some_iff] at h;obtain⟨ys,vE,_⟩:=h;intro j hj;simp only[uI] at hj;rcases hj with rfl | hj
    .exact(List.getElem?_eq_some_iff.1 ho).1
    .exact o3 vE j hj
   | _=>cases h
 exact H3 h
theorem Ba {H:List Ob} {x y:PV} (h:eS H x=some y): ∀ id∈jb H x,id<H.length:=by
 unfold eS at h;unfold jb;split at h
 .simp only[Option.map_eq_some_iff] at h;obtain⟨ys,vE,_⟩:=h;exact o3 vE
 rw[Option.map_eq_some_iff] at h;obtain⟨z,hz,_⟩:=h;exact A' hz
theorem DC {H:List Ob}: ∀ {xs ys:List PV},bH H xs=some ys-> ∀ id∈xs.flatMap (jb H),id<H.length
 | [],ys,h=>by simp
 | x::xs,ys,h=>by
  simp only[bH] at h;split at h
  .rename_i y ys' h1 h2;intro id cF;rw[List.flatMap_cons,qr] at cF;rcases cF with cF | cF
   .exact Ba h1 id cF
   exact DC h2 id cF
  cases h
theorem DD {H:List Ob}: ∀ {xs ys:List PV},Fu H xs=some ys-> ∀ id∈xs.flatMap (jb H),id<H.length
 | [],ys,h=>by simp
 | x::xs,ys,h=>by
  simp only[Fu] at h;split at h
  .rename_i y ys' h1 h2;intro id cF;rw[List.flatMap_cons,qr] at cF;rcases cF with cF | cF
   .unfold fzN at h1;split at h1
    .simp[jb,j7,eu] at cF
    exact Ba h1 id cF
   exact DD h2 id cF
  cases h
theorem H4 {c:fR} {w:World} {X X':Nat->Prop} {ρ:Places} {F H:List Ob} (h:HRd c w X ρ F) (hH: ∀ (j:Nat) o,H[j]?=some o->F[j]?=some o) (ρ':Places) (hX: ∀ b,X' b->X b): ∀ {vs:List Value} {xs ys:List PV},vs.length=xs.length->
 (∀ (i:Nat) v x,vs[i]?=some v->xs[i]?=some x->PRd w X ρ v x)->Fu H xs=some ys->
 (∀ id∈xs.flatMap (jb H),∀ p o g,ρ[id]?=some (some p)->F[id]?=some o->o.alive->p.b=some g-> ¬X' g)->vs.length=ys.length/\ ∀ (i:Nat) v y,vs[i]?=some v->ys[i]?=some y->PRd w X' ρ' v y
 | vs,[],ys,hl,_,hf,_=>by cases hf;exact⟨hl,fun i v y _ hy=>by simp at hy⟩
 | [],x::xs,ys,hl,_,_,_=>by simp at hl
 | v::vs,x::xs,ys,hl,hv,hf,hn=>by
  simp only[Fu] at hf;split at hf
  .rename_i y ys' h1 h2;cases hf;have ih:=H4 h hH ρ' hX (vs:=vs) (xs:=xs) (by simpa using hl) (fun i v x h1 h2=>hv (i+1) v x (by simpa using h1) (by simpa using h2)) h2 (fun id cF=>hn id (by rw[List.flatMap_cons,qr];exact .inr cF));refine⟨by simp[ih.1],fun i u z hu hz=>?_⟩;cases i with
   | zero=>
    simp at hu hz;subst hu;subst hz;have h0:=hv 0 v x rfl rfl;unfold fzN at h1;split at h1
    .cases h1;cases h0;exact .nilsl
    .exact Fw h hH ρ' h0 h1 hX (fun k hk=>hn k (by rw[List.flatMap_cons,qr];exact .inl hk))
   | succ i=>exact ih.2 i u z (by simpa using hu) (by simpa using hz)
  cases hf
theorem OpOK.shutting {c:fR} {w:World} {X:Nat->Prop} {ρ:Places} {H G:List Ob} {lo hi:Nat} {ids:List Nat} (jf: ∀ id∈ids,id<H.length) (h:HRd c w X ρ (H++G)) {r:Result Next} {u:Value} {v:PV} (hr:r= .ok (.value u) w)
 (hu: ∀ X',(∀ b,X' b->X b)->(∀ id∈ids,∀ p o g,ρ[id]?=some (some p)->(H++G)[id]?=some o->o.alive->p.b=some g-> ¬X' g)->PRd w X' ρ u v):OpOK c w X ρ lo hi (shutIds ids H++G) r v:=by
 obtain⟨X',h',hs,hn⟩:=h.shutIds ids
 rw[eM ids jf] at h'
 exact⟨u,w,X',ρ,.inl hr,Stp.same_world hs,h',hu X' hs hn,fun _ _=>rfl⟩
theorem H5 {w:World} {X:Nat->Prop} {ρ:Places} {u:Value} {x:PV} {v:Value} (h:PRd w X ρ u x) (hl:ID x=some v):u=v:=by
 unfold ID at hl;split at hl
 .cases hl;exact h.litInv
 cases hl
theorem zR: ∀ {cs:List PV} {vs:List Value},vI cs=some vs->vs.length=cs.length/\ ∀ (i:Nat) c,cs[i]?=some c-> ∃ v,vs[i]?=some v/\ID c=some v
 | [],vs,h=>by simp[vI] at h;subst h;simp
 | c::cs,vs,h=>by
  simp only[vI] at h;split at h
  .rename_i v us h1 h2;cases h;obtain⟨hl,hg⟩:=zR h2;refine⟨by simp[hl],fun i x hx=>?_⟩;cases i with
   | zero=>simp at hx;subst hx;exact⟨v,rfl,h1⟩
   | succ i=>exact hg i x (by simpa using hx)
  cases h
theorem Q8 {w:World} {X:Nat->Prop} {ρ:Places} {u:Value} {x:PV} {v:Value} (h:PRd w X ρ u x) (hl:Lc x=some v):u=v:=by
 unfold Lc at hl;split at hl
 .rename_i cs;rw[Option.map_eq_some_iff] at hl;obtain⟨vs,dT,rfl⟩:=hl;obtain⟨aA,hg⟩:=zR dT;cases h with
  | agg us _ hn h1 hr=>
   congr 1;apply Array.ext
   .simp[aA,hn]
   intro i pJ gq;obtain⟨v,hv,hc⟩:=hg i cs[i] (by simp[<-hn,pJ]);have:=H5 (hr i us[i] cs[i] (by simp[pJ]) (by simp[<-hn,pJ])) hc;rw[this];simp at gq;rw[qb gq] at hv;cases hv;simp
 exact H5 h hl
theorem zS: ∀ {cs:List PV} {vs:List Value},tL cs=some vs->vs.length=cs.length/\ ∀ (i:Nat) c,cs[i]?=some c-> ∃ v,vs[i]?=some v/\Lc c=some v
 | [],vs,h=>by simp[tL] at h;subst h;simp
 | c::cs,vs,h=>by
  simp only[tL] at h;split at h
  .rename_i v us h1 h2;cases h;obtain⟨hl,hg⟩:=zS h2;refine⟨by simp[hl],fun i x hx=>?_⟩;cases i with
   | zero=>simp at hx;subst hx;exact⟨v,rfl,h1⟩
   | succ i=>exact hg i x (by simpa using hx)
  cases h
theorem Bb (fn:Fn) (first captured:Array Operand):EffOp P T (.makeFunc fn first captured):=by
 intro c w X ρ H D R o e ρv r ho h hD hρ ao hc aA;simp only[aP] at ao;split at ao;rotate_left
 .split at ao
  .rename_i vs dT tH;cases ao;have hd:D=[]:=(by simpa using aA);subst hd;have Ig:captured=#[]:=by
    have:captured.toList=[]:=List.map_eq_nil_iff.1 tH;exact Array.toList_eq_nil_iff.1 this
   obtain⟨hl,hg⟩:=zS dT;have O3:first.map e=List.toArray vs:=by
    apply Array.ext
    .simp[hl]
    intro i pJ gq;have hif:i<first.size:=by simpa using pJ
    obtain⟨v,hv,hlv⟩:=hg i (ρv first[i]) (by simp[hif]);have:=Q8 (hρ first[i] (by simp[Op.operands])) hlv;rw[Array.getElem_map,this];simp at gq;rw[qb gq] at hv;cases hv;simp
   exact OpOK.still (u:= .func fn (List.toArray vs) #[]) h (by simp[execOp,ho,Instr.makeFunc,O3,Ig]) (.fv _ _ (.lit _ rfl))
  cases ao
 rename_i c1 c2 h1 h2;cases ao;have h5:(shutIds ((first.toList.map ρv++captured.toList.map ρv).flatMap (j7 H)) H).length=H.length+D.length:=aA;rw[aV] at h5;have hd:D=[]:=List.eq_nil_of_length_eq_zero (by omega);subst hd;obtain⟨vB,Ps⟩:=w_ h1;obtain⟨nI,eC⟩:=w_ h2;have jf: ∀ id∈(first.toList.map ρv++captured.toList.map ρv).flatMap (j7 H),id<H.length:=by
  intro id cF;rw[List.mem_flatMap] at cF;obtain⟨x,hx,cF⟩:=cF;rw[qr] at hx;rcases hx with hx | hx
  .obtain⟨k,hk⟩:=getElem?_of_mem hx;have aG:k<c1.length:=by rw[vB];exact(List.getElem?_eq_some_iff.1 hk).1
   obtain⟨x',O1,hf⟩:=Ps k c1[k] (by simp[aG]);rw[hk] at O1;cases O1;exact A' hf id cF
  obtain⟨k,hk⟩:=getElem?_of_mem hx;have aG:k<c2.length:=by rw[nI];exact(List.getElem?_eq_some_iff.1 hk).1
  obtain⟨x',O1,hf⟩:=eC k c2[k] (by simp[aG]);rw[hk] at O1;cases O1;exact A' hf id cF
 refine OpOK.shutting jf h (u:= .func fn (first.map e) (captured.map e)) (by simp[execOp,ho,Instr.makeFunc]) (fun X' hX hn=> .fv _ _ (.fn fn _ _ _ _ (by simpa using vB.symm) (by simpa using nI.symm) ?_ ?_))
 .intro j u y hu hy;obtain⟨x,hx,hf⟩:=Ps j y hy;simp at hu;obtain⟨a,ha,rfl⟩:=hu;rw[List.getElem?_map] at hx;simp only[Array.getElem?_toList,ha,Option.map_some,qo] at hx;subst hx;refine A6 h bm (hρ a (by simp[Op.operands];exact .inl (Array.mem_of_getElem? ha))) hf hX (fun id cF=>hn id ?_);rw[List.mem_flatMap];exact⟨ρv a,List.mem_append.2 (.inl (mem_map.2 ⟨a,Array.mem_toList_iff.2 (Array.mem_of_getElem? ha),rfl⟩)),cF⟩
 intro j u y hu hy;obtain⟨x,hx,hf⟩:=eC j y hy;simp at hu;obtain⟨a,ha,rfl⟩:=hu;rw[List.getElem?_map] at hx;simp only[Array.getElem?_toList,ha,Option.map_some,qo] at hx;subst hx;refine A6 h bm (hρ a (by simp[Op.operands];exact .inr (Array.mem_of_getElem? ha))) hf hX (fun id cF=>hn id ?_);rw[List.mem_flatMap];exact⟨ρv a,List.mem_append.2 (.inr (mem_map.2 ⟨a,Array.mem_toList_iff.2 (Array.mem_of_getElem? ha),rfl⟩)),cF⟩
end
end Go.AM
namespace Go.AM
theorem f9 (s:Nat): ∀ (n:Nat) (l:List FV),(dr s n l).length=n
 | 0,_=>rfl
 | n+1,l=>by simp[dr,f9 s n]
theorem qq (s:Nat): ∀ (n:Nat) (l:List FV) (i:Nat) x,(dr s n l)[i]?=some x->x=(l.drop (i*s)).take s
 | 0,_,_,_,h=>by simp[dr] at h
 | n+1,l,i,x,h=>by
  cases i with
  | zero=>simp[dr] at h;simp[h]
  | succ i=>
   simp only[dr,List.getElem?_cons_succ] at h;rw[qq s n _ i x h,List.drop_drop];congr 2;rw[Nat.add_mul];omega
theorem qu {s n:Nat} {l:List FV} (h:l.length=n*s): ∀ x∈dr s n l,x.length=s:=by
 intro x hx;obtain⟨i,hi⟩:=getElem?_of_mem hx;have aG:i<n:=by have:=(List.getElem?_eq_some_iff.1 hi).1;rwa [f9] at this
 rw[qq s n l i x hi];have:(i+1)*s<=n*s:=qn _ aG;rw[Nat.add_mul] at this;simp;omega
theorem n9 {s n:Nat} {l:List FV} {i j:Nat} {x:List FV} {y:FV} (hx:(dr s n l)[i]?=some x) (hy:x[j]?=some y):l[i*s+j]?=some y/\j<s:=by
 rw[qq s n l i x hx,getElem?_take] at hy;split at hy
 .rw[List.getElem?_drop] at hy;exact⟨hy,by assumption⟩
 cases hy
section
variable {P:Program} {T:Tab}
def NB (w:World) (X:Nat->Prop) (size:Nat) (v:Value) (ys:List (List FV)):Prop:=
 (∀ y∈ys,y.length=size)/\((v= .slice none 0 0/\ys=[])\/ ∃ (a:Addr) (c:Nat) (news:List Value),v= .slice (some a) ys.length c/\news.length=ys.length*size/\(∀ (j:Nat) u,news[j]?=some u->w.cell? (a.add j)=some u)/\
  (∀ u∈news,u.oneCell'=true)/\ ∀ (i j:Nat) x y,ys[i]?=some x->x[j]?=some y-> ∃ u,news[i*size+j]?=some u/\FRd w X u y)
theorem Bc {w:World} {X:Nat->Prop} {size:Nat} (cY:0<size) {v:Value} {ys:List (List FV)} (h:FRd w X v (.sl ys)) (hl: ∀ y∈ys,y.length=size):NB w X size v ys:=by
 refine⟨hl,?_⟩;cases h with
 | nil=>exact .inl ⟨rfl,rfl⟩
 | sl ad n cap s _ us hn hc hs h0 hX hb hcell hrd=>
  right;have ac2: ∀ k,k<ys.length*size-> ∃ x y,ys[k / size]?=some x/\x[k % size]?=some y/\size=s:=by
   intro k hk;have h1:k / size<ys.length:=(Nat.div_lt_iff_lt_mul cY).2 hk;have hx:=pP h1;have h2:k % size<ys[k / size].length:=by rw[hl _ hx];exact Nat.mod_lt _ cY
   exact⟨ys[k / size],ys[k / size][k % size],by simp[h1],by simp[h2],by rw[<-hl _ hx,hs _ hx]⟩
  refine⟨ad,cap,(List.range (ys.length*size)).map fun k=>us (k / size) (k % size),by rw[hn],by simp,fun j u hu=>?_,fun u hu=>?_,fun i j x y hx hy=>?_⟩
  .rw[List.getElem?_map,Option.map_eq_some_iff] at hu;obtain⟨k,hk,rfl⟩:=hu;obtain⟨oB,iY⟩:=List.getElem?_eq_some_iff.1 hk;rw[List.getElem_range] at iY;subst iY;have hk:j<ys.length*size:=by simpa using oB
   obtain⟨x,y,hx,hy,rfl⟩:=ac2 j hk;rw[gD h0,<-hcell _ _ x y hx hy];congr 2;rw[Nat.mul_comm (j / size) size,Nat.div_add_mod]
  .rw[mem_map] at hu;obtain⟨k,hk,rfl⟩:=hu;rw[List.mem_range] at hk;obtain⟨x,y,hx,hy,_⟩:=ac2 k hk;exact(hrd _ _ x y hx hy).one
  have aG:i<ys.length:=(List.getElem?_eq_some_iff.1 hx).1;have hj:j<size:=by rw[<-hl x (mem_of_getElem? hx)];exact(List.getElem?_eq_some_iff.1 hy).1
  have h1:(i+1)*size<=ys.length*size:=qn _ aG;rw[Nat.add_mul] at h1;have h2:i*size+j<ys.length*size:=by omega
  refine⟨us i j,?_,hrd i j x y hx hy⟩;have e1:(i*size+j) / size=i:=by
   rw[Nat.mul_comm,Nat.mul_add_div cY,Nat.div_eq_of_lt hj,Nat.add_zero]
  have e2:(i*size+j) % size=j:=by
   rw[Nat.mul_comm,Nat.mul_add_mod,Nat.mod_eq_of_lt hj]
  rw[List.getElem?_map,List.getElem?_range h2];simp only[Option.map_some,e1,e2]
theorem Q9 {w:World} {X:Nat->Prop} {ρ:Places} {p:Place} {xs:List (List FV)} (hr:Ns w X p xs) {id off len:Nat} {v:Value}
 (hv:PRd w X ρ v (.lsl id off len p.size)) (hp:ρ[id]?=some (some p)) (hl:off+len<=xs.length):NB w X p.size v ((xs.drop off).take len):=by
 refine⟨fun x hx=>hr.len x (mem_of_mem_drop (xY hx)),?_⟩
 obtain⟨us,gf,hcell⟩:=hr.cells
 obtain⟨q,hq,hqs,⟨hg,nw,rfl,rfl⟩ | ⟨g,og,hg,nw,nI,jE⟩⟩:=hv.lslInv
 .left
  rw[List.take_zero]
  exact⟨nw,rfl⟩
 right
 rw[hp] at hq;cases hq
 have aA:((xs.drop off).take len).length=len:=by simp;omega
 have eP:World.ownsRow w 0 p.e p.size (.slice (some ⟨g,0,none⟩) xs.length p.cap) xs.length us:=by simpa [Place.val,hg] using gf
 have tC:us.length=xs.length*p.size:=eP.1
 have Gn:(off+len)*p.size<=xs.length*p.size:=qn _ hl
 rw[Nat.add_mul] at Gn
 have eA: ∀ (k:Nat) u,us[k]?=some u->u.oneCell'=true:=by
  intro k u hu;have hk:k<xs.length*p.size:=by rw[<-tC];exact(List.getElem?_eq_some_iff.1 hu).1
  have h1:k / p.size<xs.length:=(Nat.div_lt_iff_lt_mul hr.pos).2 hk;have h2:k % p.size<xs[k / p.size].length:=by rw[hr.len _ (pP h1)];exact Nat.mod_lt _ hr.pos
  obtain⟨u',PM,hf⟩:=hcell (k / p.size) (k % p.size) xs[k / p.size] xs[k / p.size][k % p.size] (by simp[h1]) (by simp[h2]);rw[Nat.mul_comm (k / p.size),Nat.div_add_mod,hu] at PM;cases PM;exact hf.one
 refine⟨_,_,(us.drop (off*p.size)).take (len*p.size),by rw[aA];exact nw,by rw[aA];simp;omega,fun j u hu=>?_,fun u hu=>?_,fun i j x y hx hy=>?_⟩
 .rw[getElem?_take] at hu
  split at hu
  .rename_i hj
   rw[List.getElem?_drop] at hu
   have:=eP.cells (g:=g) rfl _ u hu
   rw[gZ,Nat.zero_add] at this
   have hog:og=off*p.size:=by
    rcases jE with jE | jE
    .exact jE
    have:len=0:=by omega
    subst this;omega
   rw[gZ,hog]
   exact this
  cases hu
 .obtain⟨k,hk⟩:=getElem?_of_mem (mem_of_mem_drop (xY hu))
  exact eA k u hk
 rw[getElem?_take] at hx
 split at hx
 .rename_i hi
  rw[List.getElem?_drop] at hx
  obtain⟨u,hu,hf⟩:=hcell _ j x y hx hy
  refine⟨u,?_,hf⟩
  have hj:j<p.size:=by rw[<-hr.len x (mem_of_getElem? hx)];exact(List.getElem?_eq_some_iff.1 hy).1
  have h1:(i+1)*p.size<=len*p.size:=qn _ hi
  rw[Nat.add_mul] at h1
  rw[getElem?_take,if_pos (by omega),List.getElem?_drop,<-hu]
  congr 1
  rw[Nat.add_mul];omega
 cases hx
theorem Be {c:fR} {w:World} {X:Nat->Prop} {ρ:Places} {F H:List Ob} (h:HRd c w X ρ F) (hH: ∀ (j:Nat) o,H[j]?=some o->F[j]?=some o) {size:Nat} (cY:0<size) {v:Value} {x:PV} (hv:PRd w X ρ v x)
 {cd:Prop} {ys:List (List FV)} (hs:ir H size x=some (cd,ys)) (hc:cd):NB w X size v ys:=by
 cases x with
 | fv z=>
  cases z with
  | sl xs=>
   simp only[ir,qo,Prod.mk.injEq] at hs;obtain⟨rfl,rfl⟩:=hs;cases hv with | fv _ _ hf=>exact Bc cY hf hc
  | lit u=>
   unfold ir at hs;split at hs
   all_goals first | (cases hs;done) | skip
   all_goals rename_i he
   all_goals first | (cases he;done) | skip
   injection he with he;injection he with he
   subst he;simp only[qo,Prod.mk.injEq] at hs;obtain⟨rfl,rfl⟩:=hs;rw[hv.litInv];exact⟨by simp,.inr ⟨_,_,[],rfl,by simp,by simp,by simp,by simp⟩⟩
  | _=>simp[ir] at hs
 | nilsl=>
  simp only[ir,qo,Prod.mk.injEq] at hs;obtain⟨rfl,rfl⟩:=hs;cases hv with | nilsl=>exact⟨by simp,.inl ⟨rfl,rfl⟩⟩
 | clip xs=>
  simp only[ir,qo,Prod.mk.injEq] at hs;obtain⟨rfl,rfl⟩:=hs;cases hv with | clip _ _ _ hf=>exact Bc cY hf hc
 | lsl id off len s=>
  simp only[ir] at hs;split at hs
  .rename_i rw xs ho;split at hs
   .rename_i dh;subst dh;simp only[qo,Prod.mk.injEq] at hs;obtain⟨rfl,rfl⟩:=hs;obtain⟨p,hp,qR,_⟩:=hv.lslInv;subst qR;exact Q9 (h.ob id p _ hp (hH id _ ho)).1 hv hp hc
   cases hs
  .cases hs
 | any=>simp[ir] at hs
 | ptr _ _ _=>simp[ir] at hs
 | agg _=>simp[ir] at hs
 | tup _=>simp[ir] at hs
 | tab _=>simp[ir] at hs
end
end Go.AM
namespace Go.AM
section
variable {P:Program} {T:Tab}
theorem iH {w:World} {el size k cap:Nat} {z:Value} (pM:z.cells.size=size) {xs news:List Value} (hl:(xs++news).length=k*size) (hk:k<=cap) (tH:cap<=maxLen):
 (w.drew.alloc (.cells (xs.toArray++news.toArray++Builtin.zeroCells z.cells (cap - k)) el)).ownsRow 0 el size (.slice (some ⟨w.heap.size,0,none⟩) k cap) k (xs++news):=by
 refine⟨hl,.inr ⟨w.heap.size,cap,_,rfl,dU _,heap_alloc_new w.drew _,hk,tH,?_,?_⟩⟩
 .rw[qe] at hl
  simp only[Array.size_append,List.size_toArray,size_zeroCells,pM,hl,<-Nat.add_mul]
  congr 1
  omega
 simp only[Array.toList_append,append_assoc]
 rw[<-append_assoc,<-hl]
 exact List.take_left
theorem de (w:World) (o:Obj) (row:Option Nat):w.grownBy (w.drew.alloc o) row:=
 ⟨rfl,rfl,rfl,by simp,fun k hk _=>heap_alloc_old w.drew o k hk⟩
theorem r7 {w:World} {el size n k g cap:Nat} {us:List Value} (h:w.ownsRow 0 el size (.slice (some ⟨g,0,none⟩) n cap) n us) (hk:k<=n):
 w.ownsRow 0 el size (.slice (some ⟨g,0,none⟩) k cap) k (us.take (k*size)):=by
 obtain⟨h1,h2⟩:=h
 rcases h2 with⟨h2,_⟩ | ⟨g',cap',cur,h2,h3,h4,h5,h6,h7,h8⟩
 .cases h2
 cases h2
 have hm:k*size<=n*size:=qn _ hk
 refine⟨by rw[length_take,h1,Nat.min_eq_left hm],.inr ⟨g,cap,cur,rfl,h3,h4,by omega,h6,h7,?_⟩⟩
 rw[<-h8,List.take_take,Nat.min_eq_left hm]
theorem xd {w:World} {o:Oper} {e:Operand->Value} {b:Builtin} {args:Array Operand} {ts:Array TypeId} (ho:o.op= .call {callee:= .builtin b,args,argTypes:=ts}):
 ∃ consts,(execOp e o).run P w=(builtin b ts o.type consts (args.map e)).run P w:=by
 refine⟨args.map fun | .const _=>true | _=>false,?_⟩
 unfold execOp
 simp only[ho,resolve,invoke,Sem.run_bind,Sem.run_pure,Result.andThen_ok]
 rfl
theorem mN {w:World} {X:Nat->Prop} {size:Nat} {xs ys:List (List FV)} {us news:List Value} (Xc:us.length=xs.length*size) (_: ∀ x∈ys,x.length=size)
 (h1: ∀ (i j:Nat) x y,xs[i]?=some x->x[j]?=some y-> ∃ u,us[i*size+j]?=some u/\FRd w X u y) (h2: ∀ (i j:Nat) x y,ys[i]?=some x->x[j]?=some y-> ∃ u,news[i*size+j]?=some u/\FRd w X u y):
 ∀ (i j:Nat) x y,(xs++ys)[i]?=some x->x[j]?=some y-> ∃ u,(us++news)[i*size+j]?=some u/\FRd w X u y:=by
 intro i j x y hx hy
 by_cases hi:i<xs.length
 .rw[qi hi] at hx
  obtain⟨u,hu,hf⟩:=h1 i j x y hx hy
  exact⟨u,by rw[qi (List.getElem?_eq_some_iff.1 hu).1];exact hu,hf⟩
 rw[getElem?_append_right (by omega)] at hx
 obtain⟨u,hu,hf⟩:=h2 (i - xs.length) j x y hx hy
 refine⟨u,?_,hf⟩
 have cX:xs.length*size<=i*size:=qn _ (by omega)
 rw[getElem?_append_right (by omega),Xc,<-hu]
 congr 1
 rw[Nat.sub_mul]
 omega
theorem g5 (w:World) (row:Option Nat):w.grownBy w row:=⟨rfl,rfl,rfl,qp _,fun _ _ _=>rfl⟩
def zT (P:Program) (T:Tab) (b:Builtin) (args:Array Operand) (ts:Array TypeId):Prop:=
 ∀ {c:fR} {w:World} {X:Nat->Prop} {ρ:Places} {H D R:List Ob} {o:Oper} {e:Operand->Value} {ρv:Operand->PV} {r:Res},
  o.op= .call {callee:= .builtin b,args:=args,argTypes:=ts}->HRd c w X ρ (H++(D++R))->(∀ id,H.length<=id->id<H.length+D.length->ρ[id]?=some none)->(∀ x∈args,PRd w X ρ (e x) (ρv x))->
  fK T H b ts.toList (args.toList.map ρv)=some r->r.cond->r.heap.length=H.length+D.length->OpOK c w X ρ H.length (H.length+D.length) (r.heap++R) ((execOp e o).run P w) r.val
theorem lS {w:World} (t ty e e':TypeId) (i:TypeInfo) (ht:P.underlying t=some (.slice e)) (hi:P.info? e=some i)
 (g sLen sCap:Nat) (cur:Array Value) (hg:w.heap[g]?=some (.cells cur e' (0,0)))
 (a:Addr) (m c:Nat) (news:List Value) (hl:news.length=m*i.size) (jk: ∀ (j:Nat) u,news[j]?=some u->w.cell? (a.add j)=some u) (h1: ∀ u∈news,u.oneCell'=true)
 (kL:sLen+m<=sCap) (GA:sLen*i.size+news.length<=cur.size):
 (Builtin.append_ #[t,t] ty #[.slice (some ⟨g,0,none⟩) sLen sCap,.slice (some a) m c]).run P w=
  .ok (.slice (some ⟨g,0,none⟩) (sLen+m) sCap) (w.setRow g (cur.toList.take (sLen*i.size)++news++cur.toList.drop (sLen*i.size+news.length)).toArray):=by
 have hf:=run_firstCells_some (P:=P) w i.size m a m c news hl jk
 have bQ:=run_storeCells_at P g (sLen*i.size) e' news 0 cur w hg (by simpa using GA) h1
 simp only[Nat.add_zero] at bQ
 simp[Builtin.append_,run_underlying ht,sizeOf,typeInfo,hi,Builtin.lenOf,kL,hf,Addr.add_lit,bQ]
theorem lU {w:World} (t ty e:TypeId) (i:TypeInfo) (ht:P.underlying t=some (.slice e)) (hi:P.info? e=some i) (g n cap:Nat) (l9:n<=cap):
 (Builtin.append_ #[t,t] ty #[.slice (some ⟨g,0,none⟩) n cap,.slice none 0 0]).run P w= .ok (.slice (some ⟨g,0,none⟩) n cap) w:=by
 simp[Builtin.append_,run_underlying ht,sizeOf,typeInfo,hi,Builtin.lenOf,Builtin.firstCells,l9,storeCells]
theorem uh {H G:List Ob} {id:Nat} (h:id<H.length):(H++G).set id .dead=H.set id .dead++G:=by
 rw[set_append_left _ _ h]
theorem n_ {ρ:Places} {id:Nat} {p:Place} (h:ρ[id]?=some (some p)):ρ.set id (some p)=ρ:=by
 apply ext_getElem?;intro j;by_cases hj:id=j
 .subst hj;rw[qv (List.getElem?_eq_some_iff.1 h).1,h]
 rw[getElem?_set_ne hj]
theorem g6 (w:World) (g:Nat) (cs:Array Value):w.grownBy (w.setRow g cs) (some g):=
 ⟨rfl,rfl,rfl,by simp,fun k _ hk=>setRow_other w g k _ (fun e=>hk (by simp[e]))⟩
theorem g7 {cur:Array Value} {o:Nat} {vs:List Value} (h:o+vs.length<=cur.size) (i:Nat):
 (cur.toList.take o++vs++cur.toList.drop (o+vs.length)).toArray[i]?=if i<o then cur[i]? else if i<o+vs.length then vs[i - o]? else cur[i]?:=by
 have:=iG (l:=cur.toList) (new:=vs) (off:=o) (by simpa using h) i
 simpa [eH] using this
theorem HRd.reRow {c:fR} {w:World} {X:Nat->Prop} {ρ:Places} {F:List Ob} (h:HRd c w X ρ F) {id:Nat} {p:Place} {xs zs:List (List FV)} {g:Nat} (hp:ρ[id]?=some (some p)) (fr:F[id]?=some (.row true xs))
 (ic:p.b=some g) {cur new:Array Value} (je:w.heap[g]?=some (.cells cur p.e (0,0))) (dh:new.size=cur.size) (l7:zs.length<=xs.length) (pM: ∀ z∈zs,z.length=p.size)
 (GB: ∀ (i j:Nat) x y,zs[i]?=some x->x[j]?=some y-> ∃ u,new[i*p.size+j]?=some u/\FRd w X u y):
 ∃ X',HRd c (w.setRow g new) X' ρ (F.set id (.row true zs))/\Stp c w (w.setRow g new) X X' ρ ρ:=by
 have mR:=g6 w g new
 have jw:=setRow_heap w g cur new p.e (0,0) je
 obtain⟨⟨xP,kR,us,gf,O4⟩,xQ⟩:=h.ob id p _ hp fr
 have tI:X g:=(xQ g ic).1 rfl
 have ni:w.ownsRow 0 p.e p.size (.slice (some ⟨g,0,none⟩) xs.length p.cap) xs.length us:=by simpa [Place.val,ic] using gf
 obtain⟨tC,eE⟩:=ni
 rcases eE with⟨h5,_⟩ | ⟨g',cap',SD,h5,_,Ep,l9,nH,tJ,sn⟩
 .cases h5
 cases h5
 rw[je] at Ep
 cases Ep
 have Gn:zs.length*p.size<=xs.length*p.size:=qn _ l7
 have Er:xs.length*p.size<=p.cap*p.size:=qn _ l9
 have pN:(w.setRow g new).ownsRow 0 p.e p.size (.slice (some ⟨g,0,none⟩) zs.length p.cap) zs.length (new.toList.take (zs.length*p.size)):=by
  refine⟨by have e9:new.toList.length=cur.size:=dh;rw[length_take,e9,tJ];omega,.inr ⟨g,p.cap,new,rfl,dU _,jw,by omega,nH,by rw[dh,tJ],rfl⟩⟩
 have ct:=h.put (id:=id) (p:=p) (ob:= .row true zs) (row:=some g) (w':=w.setRow g new) (List.getElem?_eq_some_iff.1 fr).1 (.inr hp) mR
  (by intro g' kP;cases kP;exact tI)
  (fun j2 q o2 g2 En hq gg f1 dN=>by
   have fX:g2≠g:=by
    intro he;subst he;exact En (h.inj j2 id q p o2 _ g2 hq hp gg fr f1 rfl dN ic)
   exact⟨by simp[fX],by rw[ic];simp;exact fun he=>fX he.symm⟩)
  (fun g2 eC=>by rw[ic] at eC;cases eC;exact .inr tI)
  (fun g2 eC=>by rw[ic] at eC;cases eC;exact⟨(h.own id p _ g hp fr rfl ic).1,Nat.lt_of_lt_of_le (h.own id p _ g hp fr rfl ic).2 mR.size⟩)
  (fun g2 eC=>by cases eC;exact(h.own id p _ g hp fr rfl ic).1)
  ⟨⟨xP,pM,new.toList.take (zs.length*p.size),by simpa [Place.val,ic] using pN,by
   intro i2 k y1 y2 yJ tB;have gq:i2<zs.length:=(List.getElem?_eq_some_iff.1 yJ).1;have Es:(i2+1)*p.size<=zs.length*p.size:=qn _ gq;rw[Nat.add_mul] at Es;have hk:k<p.size:=by rw[<-pM y1 (mem_of_getElem? yJ)];exact(List.getElem?_eq_some_iff.1 tB).1
   obtain⟨u,hu,hf⟩:=GB i2 k y1 y2 yJ tB;refine⟨u,?_,hf.mono ⟨mR.size,fun b hb kK=>mR.block b hb (fun he=>kK (by cases he;exact tI))⟩ (fun b hb kK=>by
    rcases kK with kK | kK
    .exact kK
    rw[ic] at kK;cases kK;exact tI)⟩
   rw[getElem?_take,if_pos (by omega),Array.getElem?_toList,hu]⟩,
   fun g2 eC=>⟨fun _=> .inr eC,fun _=>rfl⟩⟩
 rw[n_ hp] at ct
 exact⟨_,ct.1,ct.2⟩
theorem m7 {w:World} (t ty e:TypeId) (i:TypeInfo) (ht:P.underlying t=some (.slice e)) (hi:P.info? e=some i) (a:Option Addr) (n:Nat) (b:Option Addr) (c:Nat):
 (Builtin.append_ #[t,t] ty #[.slice a n n,.slice b 0 c]).run P w= .ok (.slice a n n) w:=by
 have hf:(Builtin.firstCells i.size 0 (.slice b 0 c)).run P w= .ok #[] w:=by
  cases b with
  | none=>rfl
  | some b=>exact run_firstCells_some (P:=P) w i.size 0 b 0 c [] (by simp) (by simp)
 cases a with
 | none=>simp[Builtin.append_,run_underlying ht,sizeOf,typeInfo,hi,Builtin.lenOf,hf]
 | some a=>simp[Builtin.append_,run_underlying ht,sizeOf,typeInfo,hi,Builtin.lenOf,hf,storeCells]
theorem Q_ {c:fR} {w:World} {X:Nat->Prop} {ρ:Places} {F:List Ob} (h:HRd c w X ρ F) {id:Nat} {p:Place} {r:Bool} {xs:List (List FV)} (hp:ρ[id]?=some (some p)) (fr:F[id]?=some (.row r xs)) (ic:p.b=none):xs=[]:=by
 obtain⟨⟨_,_,us,gf,_⟩,_⟩:=h.ob id p _ hp fr;obtain⟨_,eE⟩:=gf;rcases eE with⟨_,h6⟩ | ⟨g',cap',SD,h5,_⟩
 .exact List.eq_nil_of_length_eq_zero h6
 simp[Place.val,ic] at h5
theorem DE {α:Type} {l:List α} {i:Nat} {x:α} (h:l[i]?=some x):l.set i x=l:=by
 apply ext_getElem?;intro j;by_cases hj:i=j
 .subst hj;rw[qv (List.getElem?_eq_some_iff.1 h).1,h]
 rw[getElem?_set_ne hj]
theorem JP (hT:ck P T) (s x:Operand) (t:TypeId):zT P T .append #[s,x] #[t,t]:=by
 intro c w X ρ H D R o e ρv r ho h hD hρ ao hc aA;have hs:=hρ s (by simp);have hx:=hρ x (by simp);simp only[fK,map_cons,map_nil,if_true] at ao;split at ao;rotate_left
 .cases ao
 rename_i i hi;split at ao;rotate_left
 .cases ao
 rename_i el nL;have hd:=(hT _ _ hi).desc;rw[nL] at hd;simp only[fm] at hd;split at ao;rotate_left
 .cases ao
 rename_i ie iZ;split at ao;rotate_left
 .cases ao
 rename_i cY;split at ao;rotate_left
 .cases ao
 rename_i cd ys SE;obtain⟨ti,z,eN,dD,sb,hz,pM,eV,eA,hrd⟩:=kH (hT _ _ iZ) (w:=w) (X:=X) (ρ:=ρ);obtain⟨consts,cL⟩:=xd (P:=P) (w:=w) (e:=e) ho;have d8:(execOp e o).run P w=((Builtin.append_ #[t,t] o.type #[e s,e x]).run P w).andThen fun v w'=> .ok (.value v) w':=by
  rw[cL];simp[builtin]
 have so: ∀ (j:Nat) q o2 g,j≠H.length->ρ[j]?=some (some q)->(H++(D++R))[j]?=some o2->o2.rw=true->q.b=some g->some g≠none:=by
  intros;simp
 split at ao
 .rename_i hv;rw[hv] at hs;cases ao;obtain⟨d,rfl⟩:=mM (D:=D) (by simp at aA;omega);obtain⟨jv,Us,Gc⟩:=hc;obtain⟨BZ,pK⟩:=Be h bm cY hx SE jv;have o6:e s= .slice none 0 0:=by
   generalize e s=u at hs;cases hs;rfl
  rcases pK with⟨qT,rfl⟩ | ⟨a,cc,news,qT,d7,jk,jd,hcell⟩
  .have hr:=run_append_owned_none (P:=P) w 0 t o.type el ti ie.size hd eN (.slice none 0 0) 0 [] (World.ownsRow_nil w 0 el ie.size);obtain⟨X',ρ',h1,h2,h3,h4⟩:=dc (xs:=[]) (us:=[]) (size:=ie.size) (el:=el) (v:= .slice none 0 0) (row:=none) h (hD _ (qp _) (by simp)) (g5 w none) (by simp) so (by simp) cY (by simp)
    (World.ownsRow_nil w 0 el ie.size) (by simp[Value.ownBlock]) (by simp)
   refine⟨_,_,X',ρ',.inl ?_,h1,h2,h3,fun id cF=>h4 id (by simp at cF;omega)⟩;rw[d8,o6,qT,hr];rfl
  by_cases hm:ys.length=0
  .have uV:ys=[]:=List.eq_nil_of_length_eq_zero hm;subst uV;obtain⟨v',w',hr,eP,hg,Xj⟩:=run_append_own (P:=P) w 0 t o.type el ti z ie.size ie.bytes hd eN hz dD sb pM cY (.slice none 0 0) 0 [] (World.ownsRow_nil w 0 el ie.size) a 0 cc news (by simpa using d7) jk jd (by simp[maxLen]) (by simp) (dU _);have hv':=Xj.2 ⟨rfl,rfl⟩;have cB:news=[]:=List.eq_nil_of_length_eq_zero (by simpa using d7);subst cB;obtain⟨X',ρ',h1,h2,h3,h4⟩:=dc (xs:=[]) (us:=[]) (size:=ie.size) (el:=el) (v:=v') (row:=none) h (hD _ (qp _) (by simp)) hg (by simp) so (by simp) cY (by simp)
    (by simpa using eP) (by rw[hv'];simp[Value.ownBlock]) (by simp)
   refine⟨_,_,X',ρ',.inl ?_,h1,h2,h3,fun id cF=>h4 id (by simp at cF;omega)⟩;rw[d8,o6,qT];simp only[length_nil];rw[hr];rfl
  have hr:=run_append_nil (P:=P) w t o.type el ti z hd eN hz a ys.length cc news (by rw[dD];exact d7) jk (by omega) (by omega) (by rw[sb];omega);have yG:=grownCap_ge w ys.length 0 el;have nH:=grownCap_le_maxLen w ys.length 0 el (by simp only[maxLen];omega);have eP:=iH (w:=w) (el:=el) pM (xs:=[]) (news:=news) (by simpa using d7) yG nH;simp only[Array.empty_append,nil_append] at eP;obtain⟨X',ρ',h1,h2,h3,h4⟩:=dc (xs:=ys) (size:=ie.size) (el:=el) (v:= .slice (some ⟨w.heap.size,0,none⟩) ys.length (grownCap w ys.length 0 el)) (row:=none) h (hD _ (qp _) (by simp))
   (de w _ none) (by simp) so (by simp) cY BZ eP (by
    intro g hg;simp only[Value.ownBlock,qo] at hg;left;omega) hcell
  refine⟨_,_,X',ρ',.inl ?_,h1,h2,h3,fun id cF=>h4 id (by simp at cF;omega)⟩;rw[d8,o6,qT,hr];rfl
 .rename_i xs hv;rw[hv] at hs;split at ao
  .rename_i xG;cases ao;have GC:H.length=H.length+D.length:=aA;have hD0:D=[]:=List.eq_nil_of_length_eq_zero (by omega);subst hD0;have Kl: ∃ b k,e x= .slice b 0 k:=by
    unfold Dk at xG;split at xG
    .rename_i heq;rw[heq] at hx;exact⟨_,_,hx.litInv⟩
    .rename_i heq;rw[heq] at hx;generalize e x=u at hx;cases hx;exact⟨_,_,rfl⟩
    cases xG
   obtain⟨b0,k0,qT⟩:=Kl;generalize o6:e s=u at hs;have tK:=hs;cases hs with
   | clip b n _ hf=>
    refine OpOK.still (by simpa using h) (u:= .slice b n n) ?_ tK;rw[d8,o6,qT,m7 t o.type el ti hd eN];rfl
  cases ao;obtain⟨d,rfl⟩:=mM (D:=D) (by simp at aA;omega);obtain⟨jv,Ic,Xc,Us,Gc⟩:=hc;obtain⟨BZ,pK⟩:=Be h bm cY hx SE jv;rcases pK with⟨_,rfl⟩ | ⟨a,cc,news,qT,d7,jk,jd,hcell⟩
  .simp at Ic
  generalize o6:e s=u at hs;cases hs with
  | clip b n _ hf=>
   have hn:xs.length=n:=by
    cases hf with
    | nil=>rfl
    | sl ad n cap s _ us hn tH=>exact hn
   subst hn;obtain⟨_,O5⟩:=Bc cY hf Xc;rcases O5 with⟨hb,rfl⟩ | ⟨a0,c0,olds,hb,sc,mT,h_,Xk⟩
   .have hr:=run_append_nil (P:=P) w t o.type el ti z hd eN hz a ys.length cc news (by rw[dD];exact d7) jk (by omega) (by omega) (by rw[sb];simp at Us;omega);have yG:=grownCap_ge w ys.length 0 el;have nH:=grownCap_le_maxLen w ys.length 0 el (by simp only[maxLen];omega);have eP:=iH (w:=w) (el:=el) pM (xs:=[]) (news:=news) (by simpa using d7) yG nH;simp only[Array.empty_append,nil_append] at eP;obtain⟨X',ρ',h1,h2,h3,h4⟩:=dc (xs:=ys) (size:=ie.size) (el:=el) (v:= .slice (some ⟨w.heap.size,0,none⟩) ys.length (grownCap w ys.length 0 el)) (row:=none) h (hD _ (qp _) (by simp))
     (de w _ none) (by simp) so (by simp) cY BZ eP (by
      intro g hg;simp only[Value.ownBlock,qo] at hg;left;omega) hcell
    simp only[length_nil,Nat.zero_add,nil_append] at h2 h3 ⊢;refine⟨_,_,X',ρ',.inl ?_,h1,h2,h3,fun id cF=>h4 id (by simp at cF;omega)⟩;rw[d8,o6,qT];rw[hb,hr];rfl
   cases hb;have hr:=run_append_grow (P:=P) w t o.type el ti z hd eN hz a0 xs.length xs.length olds (by rw[dD];exact sc) mT a ys.length cc news (by rw[dD];exact d7) jk (by omega) (by omega)
    (growslice_fits (by omega) (by rw[sb];exact Us))
   have yG:=grownCap_ge w (xs.length+ys.length) xs.length el;have nH:=grownCap_le_maxLen w (xs.length+ys.length) xs.length el (by simp only[maxLen];omega);have eP:=iH (w:=w) (el:=el) pM (xs:=olds) (news:=news) (by rw[qe,sc,d7,Nat.add_mul]) yG nH;obtain⟨X',ρ',h1,h2,h3,h4⟩:=dc (xs:=xs++ys) (size:=ie.size) (el:=el) (v:= .slice (some ⟨w.heap.size,0,none⟩) (xs.length+ys.length) (grownCap w (xs.length+ys.length) xs.length el)) (row:=none) h (hD _ (qp _) (by simp))
    (de w _ none) (by simp) so (by simp) cY (by
     intro y hy;rw[qr] at hy;rcases hy with hy | hy
     .exact Xc y hy
     .exact BZ y hy) (by rw[qe];exact eP) (by
     intro g hg;simp only[Value.ownBlock,qo] at hg;left;omega) (mN sc BZ Xk hcell)
   rw[qe] at h3;refine⟨_,_,X',ρ',.inl ?_,h1,h2,h3,fun id cF=>h4 id (by simp at cF;omega)⟩;rw[d8,o6,qT,hr];rfl
 .rename_i id len sz hv;rw[hv] at hs;split at ao;rotate_left
  .cases ao
  rename_i xs fr;split at ao;rotate_left
  .cases ao
  rename_i dh;subst dh;split at ao
  .rename_i xR;cases ao;have GC:(H.set id (Ob.row true (xs.take len++ys++xs.drop (len+ys.length)))).length=H.length+D.length:=aA;rw[Uy] at GC;have hD0:D=[]:=List.eq_nil_of_length_eq_zero (by omega);subst hD0;obtain⟨jv,kL⟩:=hc;obtain⟨BZ,pK⟩:=Be h bm cY hx SE jv;obtain⟨p,hp,qR,eE⟩:=hs.lslInv;have xS:id<H.length:=(List.getElem?_eq_some_iff.1 fr).1;have et:(H++([]++R))[id]?=some (.row true xs):=bm id _ fr;have O6: ∀ ob,(H++([]++R)).set id ob=H.set id ob++R:=fun ob=>by rw[nil_append,set_append_left _ _ xS]
   rcases eE with⟨hg,o6,_,rfl⟩ | ⟨g,og,hg,o6,nI,jE⟩
   .have PE:=Q_ h hp et hg;subst PE;have uV:ys=[]:=List.eq_nil_of_length_eq_zero (by rw[length_nil] at kL;omega);subst uV;have cF:H.set id (.row true (List.take 0 ([]:List (List FV))++([]:List (List FV))++List.drop (0+List.length ([]:List (List FV))) ([]:List (List FV))))=H:=DE fr;show OpOK c w X ρ H.length (H.length+([]:List Ob).length) (H.set id (.row true (List.take 0 ([]:List (List FV))++([]:List (List FV))++List.drop (0+List.length ([]:List (List FV))) ([]:List (List FV))))++R) _ _;rw[cF];refine OpOK.still (by simpa using h) (u:= .slice none 0 0) ?_ (by rw[<-qR];exact .lsl0 id p hp hg);rcases pK with⟨qT,_⟩ | ⟨a,cc,news,qT,d7,jk,jd,hcell⟩
    .have hr:=run_append_owned_none (P:=P) w 0 t o.type el ti ie.size hd eN (.slice none 0 0) 0 [] (World.ownsRow_nil w 0 el ie.size);rw[d8,o6,qT,hr];rfl
    rw[d8,o6,qT,length_nil,m7 t o.type el ti hd eN];rfl
   have hog:og=0:=by
    rcases jE with jE | jE
    .rw[jE];simp
    exact absurd rfl jE.2
   subst hog;simp only[Nat.sub_zero] at o6;obtain⟨⟨xP,kR,us,gf,O4⟩,xQ⟩:=h.ob id p _ hp et;have ni:w.ownsRow 0 p.e p.size (.slice (some ⟨g,0,none⟩) xs.length p.cap) xs.length us:=by simpa [Place.val,hg] using gf
   have l7:(xs.take len++ys++xs.drop (len+ys.length)).length=xs.length:=by simp;omega
   have pM: ∀ z∈xs.take len++ys++xs.drop (len+ys.length),z.length=p.size:=by
    intro z hz;rw[qr,qr] at hz;rcases hz with(hz | hz) | hz
    .exact kR z (xY hz)
    .rw[BZ z hz,qR]
    exact kR z (mem_of_mem_drop hz)
   obtain⟨tC,eE⟩:=ni;rcases eE with⟨h5,_⟩ | ⟨g',cap',cur,h5,_,je,l9,nH,tJ,sn⟩
   .cases h5
   cases h5;rcases pK with⟨qT,rfl⟩ | ⟨a,cc,news,qT,d7,jk,jd,hcell⟩
   .have hr:=lU (P:=P) (w:=w) t o.type el ti hd eN g len p.cap (by simp at kL;omega);simp only[length_nil,Nat.add_zero,List.append_nil,List.take_append_drop] at l7 pM ⊢;rw[DE fr];refine OpOK.still (by simpa using h) (u:= .slice (some ⟨g,0,none⟩) len p.cap) (by rw[d8,o6,qT,hr];rfl) ?_;have nw:=hs;rw[o6] at nw;exact nw
   have ac4:(len+ys.length)*ie.size<=cur.size:=by rw[tJ,qR];exact qn _ (by omega)
   have GA:len*ti.size+news.length<=cur.size:=by rw[dD,d7,<-Nat.add_mul];exact ac4
   have hr:=lS (P:=P) (w:=w) t o.type el p.e ti hd eN g len p.cap cur je a ys.length cc news (by rw[dD];exact d7) jk jd (by omega) GA;have cg:=fun k=>g7 (cur:=cur) (o:=len*ti.size) (vs:=news) GA k
   generalize jw:(cur.toList.take (len*ti.size)++news++cur.toList.drop (len*ti.size+news.length)).toArray=new at hr cg;have Et:new.size=cur.size:=by
    rw[<-jw];simp only[List.size_toArray,qe,length_take,length_drop,Array.length_toList];omega
   have f_: ∀ (i j:Nat) x y,xs[i]?=some x->x[j]?=some y-> ∃ u,cur[i*p.size+j]?=some u/\FRd w X u y:=by
    intro i j x y uw yJ;obtain⟨u,hu,hf⟩:=O4 i j x y uw yJ;rw[<-sn,getElem?_take] at hu;split at hu
    .exact⟨u,by rw[<-hu,Array.getElem?_toList],hf⟩
    cases hu
   have Wl: ∀ (i j:Nat) z y,(xs.take len++ys++xs.drop (len+ys.length))[i]?=some z->z[j]?=some y->j<p.size:=by
    intro i j z y hz hy;rw[<-pM z (mem_of_getElem? hz)];exact(List.getElem?_eq_some_iff.1 hy).1
   obtain⟨X',h1,h2⟩:=h.reRow hp et hg je Et (zs:=xs.take len++ys++xs.drop (len+ys.length)) (by omega) pM (by
    intro i j z y hz hy;have hj:=Wl i j z y hz hy;have uB:(xs.take len).length=len:=by rw[length_take];omega
    rw[dD,<-qR] at cg;rw[d7,<-qR] at cg;by_cases h7:i<len
    .rw[append_assoc,qi (by omega),getElem?_take,if_pos h7] at hz;obtain⟨u,hu,hf⟩:=f_ i j z y hz hy;have h8:(i+1)*p.size<=len*p.size:=qn _ h7;rw[Nat.add_mul] at h8;exact⟨u,by rw[cg,if_pos (by omega)];exact hu,hf⟩
    have h8:len*p.size<=i*p.size:=qn _ (by omega);by_cases h9:i<len+ys.length
    .rw[qi (by rw[qe];omega),getElem?_append_right (by omega),uB] at hz;obtain⟨u,hu,hf⟩:=hcell (i - len) j z y hz hy;have BV:(i - len+1)*p.size<=ys.length*p.size:=qn _ (by omega);rw[Nat.add_mul,Nat.sub_mul] at BV;refine⟨u,?_,hf⟩;rw[cg,if_neg (by omega),if_pos (by omega)];rw[<-qR,Nat.sub_mul] at hu;rw[<-hu];congr 1;omega
    rw[getElem?_append_right (by rw[qe];omega),qe,uB,List.getElem?_drop,show len+ys.length+(i - (len+ys.length))=i by omega] at hz;obtain⟨u,hu,hf⟩:=f_ i j z y hz hy;have BV:(len+ys.length)*p.size<=i*p.size:=qn _ (by omega);rw[Nat.add_mul] at BV;exact⟨u,by rw[cg,if_neg (by omega),if_neg (by omega)];exact hu,hf⟩)
   rw[O6] at h1;refine⟨.slice (some ⟨g,0,none⟩) (len+ys.length) p.cap,w.setRow g new,X',ρ,.inl ?_,h2,h1,?_,fun _ _=>rfl⟩
   .rw[d8,o6,qT,hr];rfl
   have:=PRd.lsl (w:=w.setRow g new) (X:=X') (ρ:=ρ) id 0 (len+ys.length) 0 g p hp hg (by omega) (.inl (by simp));rw[<-qR];simpa using this
  cases ao;obtain⟨d,rfl⟩:=mM (D:=D) (by simp at aA;omega);obtain⟨jv,hlx,Us,Gc⟩:=hc;obtain⟨BZ,pK⟩:=Be h bm cY hx SE jv;obtain⟨p,hp,qR,eE⟩:=hs.lslInv;have xS:id<H.length:=(List.getElem?_eq_some_iff.1 fr).1;have et:=bm (G:=[d]++R) id _ fr;obtain⟨⟨_,kR,us,gf,O4⟩,xQ⟩:=h.ob id p _ hp et;have xT:=h.kill id;rw[uh xS] at xT;have Iu:(H.set id .dead).length=H.length:=by simp
  have Ye:ρ[(H.set id Ob.dead).length]?=some none:=by rw[Iu];exact hD _ (qp _) (by simp)
  have uB: ∀ y∈xs.take len++ys,y.length=ie.size:=by
   intro y hy;rw[qr] at hy;rcases hy with hy | hy
   .rw[kR y (xY hy),qR]
   exact BZ y hy
  have xU:(xs.take len++ys).length=len+ys.length:=by simp;omega
  rcases eE with⟨hg,o6,_,rfl⟩ | ⟨g,og,hg,o6,nI,jE⟩
  .rw[List.take_zero,nil_append] at uB;simp only[List.take_zero,nil_append,Nat.zero_add] at Us Gc ⊢;rcases pK with⟨qT,rfl⟩ | ⟨a,cc,news,qT,d7,jk,jd,hcell⟩
   .have hr:=run_append_owned_none (P:=P) w 0 t o.type el ti ie.size hd eN (.slice none 0 0) 0 [] (World.ownsRow_nil w 0 el ie.size);obtain⟨X',ρ',h1,h2,h3,h4⟩:=dc (xs:=[]) (us:=[]) (size:=ie.size) (el:=el) (v:= .slice none 0 0) (row:=none) xT Ye (g5 w none) (by simp) (by intros;simp) (by simp) cY (by simp)
     (World.ownsRow_nil w 0 el ie.size) (by simp[Value.ownBlock]) (by simp)
    rw[Iu] at h3 h4;refine⟨_,_,X',ρ',.inl ?_,h1,h2,h3,fun id cF=>h4 id (by simp at cF;omega)⟩;rw[d8,o6,qT,hr];rfl
   by_cases hm:ys.length=0
   .have uV:ys=[]:=List.eq_nil_of_length_eq_zero hm;subst uV;obtain⟨v',w',hr,eP,hg,Xj⟩:=run_append_own (P:=P) w 0 t o.type el ti z ie.size ie.bytes hd eN hz dD sb pM cY (.slice none 0 0) 0 [] (World.ownsRow_nil w 0 el ie.size) a 0 cc news (by simpa using d7) jk jd (by simp[maxLen]) (by simp) (dU _);have hv':=Xj.2 ⟨rfl,rfl⟩;have cB:news=[]:=List.eq_nil_of_length_eq_zero (by simpa using d7);subst cB;obtain⟨X',ρ',h1,h2,h3,h4⟩:=dc (xs:=[]) (us:=[]) (size:=ie.size) (el:=el) (v:=v') (row:=none) xT Ye hg (by simp) (by intros;simp) (by simp) cY (by simp)
     (by simpa using eP) (by rw[hv'];simp[Value.ownBlock]) (by simp)
    rw[Iu] at h3 h4;refine⟨_,_,X',ρ',.inl ?_,h1,h2,h3,fun id cF=>h4 id (by simp at cF;omega)⟩;rw[d8,o6,qT];simp only[length_nil];rw[hr];rfl
   have hr:=run_append_nil (P:=P) w t o.type el ti z hd eN hz a ys.length cc news (by rw[dD];exact d7) jk (by omega) (by omega) (by rw[sb];omega);have yG:=grownCap_ge w ys.length 0 el;have nH:=grownCap_le_maxLen w ys.length 0 el (by simp only[maxLen];omega);have eP:=iH (w:=w) (el:=el) pM (xs:=[]) (news:=news) (by simpa using d7) yG nH;simp only[Array.empty_append,nil_append] at eP;obtain⟨X',ρ',h1,h2,h3,h4⟩:=dc (xs:=ys) (size:=ie.size) (el:=el) (v:= .slice (some ⟨w.heap.size,0,none⟩) ys.length (grownCap w ys.length 0 el)) (row:=none) xT Ye
    (de w _ none) (by simp) (by intros;simp) (by simp) cY BZ eP (by
     intro g hg;simp only[Value.ownBlock,qo] at hg;left;omega) hcell
   rw[Iu] at h3 h4;refine⟨_,_,X',ρ',.inl ?_,h1,h2,h3,fun id cF=>h4 id (by simp at cF;omega)⟩;rw[d8,o6,qT,hr];rfl
  have hog:og=0:=by
   rcases jE with jE | jE
   .rw[jE];simp
   exact absurd rfl jE.2
  subst hog;simp only[Nat.sub_zero] at o6;have ni:w.ownsRow 0 p.e p.size (.slice (some ⟨g,0,none⟩) xs.length p.cap) xs.length us:=by simpa [Place.val,hg] using gf
  have xV:=r7 ni hlx;rw[qR] at xV ni;have GD: ∀ (i j:Nat) x y,(xs.take len)[i]?=some x->x[j]?=some y-> ∃ u,(us.take (len*ie.size))[i*ie.size+j]?=some u/\FRd w X u y:=by
   intro i j x y hx hy;rw[getElem?_take] at hx;split at hx
   .rename_i eV;obtain⟨u,hu,hf⟩:=O4 i j x y hx hy;rw[qR] at hu;have hj:j<ie.size:=by rw[<-qR,<-kR x (mem_of_getElem? hx)];exact(List.getElem?_eq_some_iff.1 hy).1
    have h1:(i+1)*ie.size<=len*ie.size:=qn _ eV;rw[Nat.add_mul] at h1;exact⟨u,by rw[getElem?_take,if_pos (by omega)];exact hu,hf⟩
   cases hx
  have tC:(us.take (len*ie.size)).length=(xs.take len).length*ie.size:=by
   rw[xV.1,length_take,Nat.min_eq_left hlx]
  have tI:X g:=(xQ g hg).1 rfl;have Iv: ∀ (j:Nat) q o2 g2,j≠(H.set id Ob.dead).length->ρ[j]?=some (some q)->(H.set id .dead++([d]++R))[j]?=some o2->o2.rw=true->q.b=some g2->some g2≠some g:=by
   intro j q o2 g2 _ hq gg f1 dN he;cases he;by_cases hj:id=j
   .subst hj;rw[qi (by simpa using xS),qv xS] at gg;cases gg;cases f1
   have Kx:(H++([d]++R))[j]?=some o2:=by
    rw[<-uh xS,getElem?_set_ne hj] at gg;exact gg
   exact hj (h.inj id j p q _ o2 g hp hq et Kx rfl f1 hg dN)
  rcases pK with⟨qT,rfl⟩ | ⟨a,cc,news,qT,d7,jk,jd,hcell⟩
  .have hr:=lU (P:=P) (w:=w) t o.type el ti hd eN g len p.cap (by omega);simp only[List.append_nil,length_nil,Nat.add_zero] at uB xU ⊢;obtain⟨X',ρ',h1,h2,h3,h4⟩:=dc (xs:=xs.take len) (size:=ie.size) (el:=p.e) (v:= .slice (some ⟨g,0,none⟩) len p.cap) (row:=some g) xT Ye (g5 w (some g)) (by intro g' kP;cases kP;exact tI)
    Iv (by intro g' kP;cases kP;exact(h.own id p _ g hp et rfl hg).1) cY uB (by rw[xU];exact xV) (by intro g' kP;simp only[Value.ownBlock,qo] at kP;right;rw[kP]) GD
   rw[Iu] at h3 h4;rw[xU] at h3;refine⟨_,_,X',ρ',.inl ?_,h1,h2,h3,fun id cF=>h4 id (by simp at cF;omega)⟩;rw[d8,o6,qT,hr];rfl
  by_cases kL:len+ys.length<=p.cap
  .obtain⟨vB,eE⟩:=xV;rcases eE with⟨h5,_⟩ | ⟨g',cap',cur,h5,_,je,l9,nH,f_,sn⟩
   .cases h5
   cases h5;have GA:len*ti.size+news.length<=cur.size:=by rw[dD,d7,f_,<-Nat.add_mul];exact qn _ kL
   have hr:=lS (P:=P) (w:=w) t o.type el p.e ti hd eN g len p.cap cur je a ys.length cc news (by rw[dD];exact d7) jk jd kL GA;have pN:(w.setRow g (cur.toList.take (len*ti.size)++news++cur.toList.drop (len*ti.size+news.length)).toArray).ownsRow 0 p.e ie.size (.slice (some ⟨g,0,none⟩) (len+ys.length) p.cap) (len+ys.length) (us.take (len*ie.size)++news):=by
    have kM:(us.take (len*ie.size)++news).length=(len+ys.length)*ie.size:=by rw[qe,vB,d7,Nat.add_mul]
    refine⟨kM,.inr ⟨g,p.cap,_,rfl,dU _,setRow_heap w g cur _ p.e _ je,kL,nH,?_,?_⟩⟩
    .rw[dD] at GA ⊢;simp only[List.size_toArray,qe,length_take,length_drop,Array.length_toList];omega
    rw[dD,sn,<-kM];exact List.take_left
   have mR:w.grownBy (w.setRow g (cur.toList.take (len*ti.size)++news++cur.toList.drop (len*ti.size+news.length)).toArray) (some g):=
    ⟨rfl,rfl,rfl,by simp,fun k _ hk=>setRow_other w g k _ (fun e=>hk (by simp[e]))⟩
   obtain⟨X',ρ',h1,h2,h3,h4⟩:=dc (xs:=xs.take len++ys) (size:=ie.size) (el:=p.e) (v:= .slice (some ⟨g,0,none⟩) (len+ys.length) p.cap) (row:=some g) xT Ye
    mR (by intro g' kP;cases kP;exact tI)
    Iv (by intro g' kP;cases kP;exact(h.own id p _ g hp et rfl hg).1) cY uB (by rw[xU];exact pN) (by intro g' kP;simp only[Value.ownBlock,qo] at kP;right;rw[kP]) (mN tC BZ GD hcell)
   rw[Iu] at h3 h4;rw[xU] at h3;refine⟨_,_,X',ρ',.inl ?_,h1,h2,h3,fun id cF=>h4 id (by simp at cF;omega)⟩;rw[d8,o6,qT,hr];rfl
  have GB: ∀ (j:Nat) v,(us.take (len*ie.size))[j]?=some v->w.cell? ((⟨g,0,none⟩:Addr).add j)=some v:=xV.cells (g:=g) rfl;have hr:=run_append_grow (P:=P) w t o.type el ti z hd eN hz ⟨g,0,none⟩ len p.cap (us.take (len*ie.size)) (by rw[dD];exact xV.1) GB a ys.length cc news (by rw[dD];exact d7) jk (by omega) (by omega)
   (growslice_fits (by omega) (by rw[sb];exact Us))
  have yG:=grownCap_ge w (len+ys.length) p.cap el;have nH:=grownCap_le_maxLen w (len+ys.length) p.cap el (by simp only[maxLen];omega);have eP:=iH (w:=w) (el:=el) pM (xs:=us.take (len*ie.size)) (news:=news) (by rw[qe,xV.1,d7,Nat.add_mul]) yG nH;obtain⟨X',ρ',h1,h2,h3,h4⟩:=dc (xs:=xs.take len++ys) (size:=ie.size) (el:=el) (v:= .slice (some ⟨w.heap.size,0,none⟩) (len+ys.length) (grownCap w (len+ys.length) p.cap el)) (row:=none) xT Ye
   (de w _ none) (by simp) (by intros;simp) (by simp) cY uB (by rw[xU];exact eP) (by
    intro g hg;simp only[Value.ownBlock,qo] at hg;left;omega) (mN tC BZ GD hcell)
  rw[Iu] at h3 h4;rw[xU] at h3;refine⟨_,_,X',ρ',.inl ?_,h1,h2,h3,fun id cF=>h4 id (by simp at cF;omega)⟩;rw[d8,o6,qT,hr];rfl
 cases ao
end
end Go.AM
namespace Go.AM
section
variable {P:Program} {T:Tab}
theorem Vy (hT:ck P T) (s:Operand) (t:TypeId):zT P T .len #[s] #[t]:=by
 intro c w X ρ H D R o e ρv r ho h hD hρ ao hc aA;have hs:=hρ s (by simp);simp only[fK,map_cons,map_nil] at ao;split at ao;rotate_left
 .cases ao
 rename_i i hi;have hd:=(hT _ _ hi).desc;obtain⟨consts,cL⟩:=xd (P:=P) (w:=w) (e:=e) ho;have d8:(execOp e o).run P w=((Builtin.len_ #[t] o.type #[e s]).run P w).andThen fun v w'=> .ok (.value v) w':=by
  rw[cL];simp[builtin]
 split at ao
 .rename_i el nL;rw[nL] at hd;simp only[fm] at hd;split at ao;rotate_left
  .cases ao
  rename_i n hn;cases ao;have gJ:D=[]:=List.eq_nil_of_length_eq_zero (by simp at aA;simpa using aA);subst gJ;have sd: ∃ b cap,e s= .slice b n cap:=by
   generalize e s=u at hs;generalize ρv s=v at hs hn;cases hs with
   | fv _ _ hf=>cases hf with
    | nil=>simp[lenOf] at hn;subst hn;exact⟨_,_,rfl⟩
    | sl ad m cap s xs us hxs=>simp only[lenOf,qo] at hn;subst hn;rw[hxs];exact⟨_,_,rfl⟩
    | lit v _=>simp[lenOf] at hn
    | fp=>simp[lenOf] at hn
    | fn=>simp[lenOf] at hn
   | nilsl=>simp[lenOf] at hn;subst hn;exact⟨_,_,rfl⟩
   | clip a m xs hf=>cases hf with
    | nil=>simp[lenOf] at hn;subst hn;exact⟨_,_,rfl⟩
    | sl ad m cap s xs us hxs=>simp only[lenOf,qo] at hn;subst hn;rw[hxs];exact⟨_,_,rfl⟩
   | lsl0=>simp[lenOf] at hn;subst hn;exact⟨_,_,rfl⟩
   | lsl=>simp[lenOf] at hn;subst hn;exact⟨_,_,rfl⟩
   | any=>simp[lenOf] at hn
   | ptr=>simp[lenOf] at hn
   | agg=>simp[lenOf] at hn
   | tup=>simp[lenOf] at hn
   | tab=>simp[lenOf] at hn
  obtain⟨b,cap,o6⟩:=sd;exact OpOK.still h (u:= .int .i64 n) (by rw[d8,o6];simp[Builtin.len_,run_underlying hd,goInt]) (.fv _ _ (.lit _ rfl))
 .rename_i n el nL;rw[nL] at hd;simp only[fm] at hd;cases ao;have gJ:D=[]:=List.eq_nil_of_length_eq_zero (by simp at aA;simpa using aA);subst gJ;exact OpOK.still h (u:= .int .i64 n) (by rw[d8];simp[Builtin.len_,run_underlying hd,goInt]) (.fv _ _ (.lit _ rfl))
 .rename_i nL;rw[nL] at hd;simp only[fm] at hd;split at ao;rotate_left
  .cases ao
  rename_i str hv;cases ao;have gJ:D=[]:=List.eq_nil_of_length_eq_zero (by simp at aA;simpa using aA);subst gJ;rw[hv] at hs;have o6:=hs.litInv;exact OpOK.still h (u:= .int .i64 str.size) (by rw[d8,o6];simp[Builtin.len_,run_underlying hd,goInt]) (.fv _ _ (.lit _ rfl))
 cases ao
theorem xe {w:World} {X:Nat->Prop} {ρ:Places} {u v:Value} {x y:PV} {k:IntKind} {a b:Int} (h:mH x y=some (k,a,b)) (hu:PRd w X ρ u x) (hv:PRd w X ρ v y):u= .int k a/\v= .int k b:=by
 unfold mH at h;split at h
 .split at h
  .rename_i hk;subst hk;cases h;exact⟨hu.litInv,hv.litInv⟩
  cases h
 cases h
theorem Vz (x y:Operand) (t t':TypeId):zT P T .max #[x,y] #[t,t']:=by
 intro c w X ρ H D R o e ρv r ho h hD hρ ao hc aA;have hx:=hρ x (by simp);have hy:=hρ y (by simp);obtain⟨consts,cL⟩:=xd (P:=P) (w:=w) (e:=e) ho;simp only[fK,map_cons,map_nil] at ao;split at ao;rotate_left
 .cases ao
 rename_i k a b hb;cases ao;have gJ:D=[]:=List.eq_nil_of_length_eq_zero (by simp at aA;simpa using aA);subst gJ;obtain⟨e1,e2⟩:=xe hb hx hy;exact OpOK.still h (u:= .int k (if b>a then b else a)) (by rw[cL];simp[builtin,Builtin.max_,Builtin.max2,e1,e2]) (.fv _ _ (.lit _ rfl))
theorem VA (x y:Operand) (t t':TypeId):zT P T .min #[x,y] #[t,t']:=by
 intro c w X ρ H D R o e ρv r ho h hD hρ ao hc aA;have hx:=hρ x (by simp);have hy:=hρ y (by simp);obtain⟨consts,cL⟩:=xd (P:=P) (w:=w) (e:=e) ho;simp only[fK,map_cons,map_nil] at ao;split at ao;rotate_left
 .cases ao
 rename_i k a b hb;cases ao;have gJ:D=[]:=List.eq_nil_of_length_eq_zero (by simp at aA;simpa using aA);subst gJ;obtain⟨e1,e2⟩:=xe hb hx hy;exact OpOK.still h (u:= .int k (if b<a then b else a)) (by rw[cL];simp[builtin,Builtin.min_,Builtin.min2,e1,e2]) (.fv _ _ (.lit _ rfl))
theorem HRd.shrink {c:fR} {w w':World} {X:Nat->Prop} {ρ:Places} {F:List Ob} (h:HRd c w X ρ F) {id:Nat} {p:Place} {xs:List (List FV)} {n g:Nat} (hp:ρ[id]?=some (some p)) (fr:F[id]?=some (.row true xs)) (hn:n<=xs.length)
 (ic:p.b=some g) (mR:w.grownBy w' (some g)) {cur new:Array Value} (je:w.heap[g]?=some (.cells cur p.e (0,0))) (jw:w'.heap[g]?=some (.cells new p.e (0,0))) (dh:new.size=cur.size) (eD: ∀ (k:Nat),k<n*p.size->new[k]?=cur[k]?):
 ∃ X',HRd c w' X' ρ (F.set id (.row true (xs.take n)))/\Stp c w w' X X' ρ ρ:=by
 obtain⟨⟨xP,kR,us,gf,O4⟩,xQ⟩:=h.ob id p _ hp fr
 have tI:X g:=(xQ g ic).1 rfl
 have ni:w.ownsRow 0 p.e p.size (.slice (some ⟨g,0,none⟩) xs.length p.cap) xs.length us:=by simpa [Place.val,ic] using gf
 obtain⟨tC,eE⟩:=ni
 rcases eE with⟨h5,_⟩ | ⟨g',cap',SD,h5,_,Ep,l9,nH,tJ,sn⟩
 .cases h5
 cases h5
 rw[je] at Ep
 cases Ep
 have Gn:n*p.size<=xs.length*p.size:=qn _ hn
 have Er:xs.length*p.size<=p.cap*p.size:=qn _ l9
 have pN:w'.ownsRow 0 p.e p.size (.slice (some ⟨g,0,none⟩) n p.cap) n (new.toList.take (n*p.size)):=by
  refine⟨by have e9:new.toList.length=cur.size:=dh;rw[length_take,e9,tJ];omega,.inr ⟨g,p.cap,new,rfl,dU _,jw,by omega,nH,by rw[dh,tJ],rfl⟩⟩
 have nI:(xs.take n).length=n:=by rw[length_take];omega
 have ct:=h.put (id:=id) (p:=p) (ob:= .row true (xs.take n)) (row:=some g) (w':=w') (List.getElem?_eq_some_iff.1 fr).1 (.inr hp) mR
  (by intro g' kP;cases kP;exact tI)
  (fun j2 q o2 g2 En hq gg f1 dN=>by
   have fX:g2≠g:=by
    intro he;subst he;exact En (h.inj j2 id q p o2 _ g2 hq hp gg fr f1 rfl dN ic)
   exact⟨by simp[fX],by rw[ic];simp;exact fun he=>fX he.symm⟩)
  (fun g2 eC=>by rw[ic] at eC;cases eC;exact .inr tI)
  (fun g2 eC=>by rw[ic] at eC;cases eC;exact⟨(h.own id p _ g hp fr rfl ic).1,Nat.lt_of_lt_of_le (h.own id p _ g hp fr rfl ic).2 mR.size⟩)
  (fun g2 eC=>by cases eC;exact(h.own id p _ g hp fr rfl ic).1)
  ⟨⟨xP,fun x hx=>kR x (xY hx),new.toList.take (n*p.size),by rw[nI];simpa [Place.val,ic] using pN,by
   intro i2 k y1 y2 yJ tB;have gq:i2<n:=by have:=(List.getElem?_eq_some_iff.1 yJ).1;rw[nI] at this;exact this
   rw[getElem?_take,if_pos gq] at yJ;have Es:(i2+1)*p.size<=n*p.size:=qn _ gq;rw[Nat.add_mul] at Es;have hk:k<p.size:=by rw[<-kR y1 (mem_of_getElem? yJ)];exact(List.getElem?_eq_some_iff.1 tB).1
   obtain⟨u,hu,hf⟩:=O4 i2 k y1 y2 yJ tB;refine⟨u,?_,hf.mono ⟨mR.size,fun b hb kK=>mR.block b hb (fun he=>kK (by cases he;exact tI))⟩ (fun b hb kK=>by
    rcases kK with kK | kK
    .exact kK
    rw[ic] at kK;cases kK;exact tI)⟩
   rw[<-sn,getElem?_take,if_pos (by omega),Array.getElem?_toList] at hu;rw[getElem?_take,if_pos (by omega),Array.getElem?_toList,eD _ (by omega),hu]⟩,
   fun g2 eC=>⟨fun _=> .inr eC,fun _=>rfl⟩⟩
 rw[n_ hp] at ct
 exact⟨_,ct.1,ct.2⟩
theorem NC (hT:ck P T) (x:Operand) (t:TypeId):zT P T .clear #[x] #[t]:=by
 intro c w X ρ H D R o e ρv r ho h hD hρ ao hc aA;have hx:=hρ x (by simp);simp only[fK,map_cons,map_nil] at ao;split at ao;rotate_left
 .cases ao
 rename_i i hi;split at ao;rotate_left
 .cases ao
 rename_i el nL;have hd:=(hT _ _ hi).desc;rw[nL] at hd;simp only[fm] at hd;split at ao;rotate_left
 .cases ao
 rename_i ie iZ;split at ao;rotate_left
 .cases ao
 rename_i id off len s hv;split at ao;rotate_left
 .cases ao
 rename_i xs fr;split at ao;rotate_left
 .cases ao
 rename_i hs;cases ao;obtain⟨ti,z,eN,dD,sb,hz,pM,eV,eA,hrd⟩:=kH (hT _ _ iZ) (w:=w) (X:=X) (ρ:=ρ);obtain⟨consts,cL⟩:=xd (P:=P) (w:=w) (e:=e) ho;have d8:(execOp e o).run P w=((Builtin.clear_ #[t] o.type #[e x]).run P w).andThen fun v w'=> .ok (.value v) w':=by
  rw[cL];simp[builtin]
 have GC:(H.set id (Ob.row true (xs.take off))).length=H.length+D.length:=aA;rw[Uy] at GC;have gJ:D=[]:=List.eq_nil_of_length_eq_zero (by omega);subst gJ;have xS:=(List.getElem?_eq_some_iff.1 fr).1;have et:(H++([]++R))[id]?=some (.row true xs):=bm id _ fr;have O6:(H++([]++R)).set id (.row true (xs.take off))=H.set id (.row true (xs.take off))++R:=by
  rw[nil_append,set_append_left _ _ xS]
 rw[hv] at hx;generalize kQ:e x=u at hx;cases hx with
 | lsl0 _ p hp ic=>
  have h0:H.set id (Ob.row true (xs.take 0))=H:=by
   obtain⟨⟨_,_,us,gf,_⟩,_⟩:=h.ob id p _ hp et;have PE:xs=[]:=by
    obtain⟨_,eE⟩:=gf;rcases eE with⟨_,h6⟩ | ⟨g',cap',SD,h5,_⟩
    .exact List.eq_nil_of_length_eq_zero h6
    simp[Place.val,ic] at h5
   subst PE;apply ext_getElem?;intro j;by_cases hj:id=j
   .subst hj;rw[qv xS,fr];rfl
   rw[getElem?_set_ne hj]
  show OpOK c w X ρ H.length (H.length+([]:List Ob).length) (H.set id (Ob.row true (xs.take 0))++R) _ _;rw[h0];exact OpOK.still (by simpa using h) (u:= .tuple #[]) (by rw[d8,kQ];simp[Builtin.clear_,run_underlying hd]) (.tup #[] [] rfl (by simp))
 | lsl _ _ _ oo g p hp ic hl jE=>
  have eO:off+len<=xs.length:=hc;obtain⟨⟨xP,kR,us,gf,O4⟩,xQ⟩:=h.ob id p _ hp et;have ni:w.ownsRow 0 p.e p.size (.slice (some ⟨g,0,none⟩) xs.length p.cap) xs.length us:=by simpa [Place.val,ic] using gf
  obtain⟨tC,eE⟩:=ni;rcases eE with⟨h5,_⟩ | ⟨g',cap',cur,h5,_,je,l9,nH,tJ,sn⟩
  .cases h5
  cases h5;by_cases Ut:len=0
  .subst Ut;obtain⟨X',h1,h2⟩:=h.shrink hp et (n:=off) (by omega) ic (w':=w) (g5 w (some g)) je je rfl (fun _ _=>rfl);rw[O6] at h1;refine⟨.tuple #[],w,X',ρ,.inl (by rw[d8,kQ];simp[Builtin.clear_,run_underlying hd]),h2,h1,.tup #[] [] rfl (by simp),fun _ _=>rfl⟩
  have ahm:oo=off*p.size:=by rcases jE with h6 | ⟨h6,_⟩<;>omega
  subst ahm;have Yd:(Builtin.zeroCells z.cells len).size=len*p.size:=by rw[size_zeroCells,pM,<-hs]
  have Er:(off+len)*p.size<=p.cap*p.size:=qn _ hl;rw[Nat.add_mul] at Er;have ac5: ∀ v∈(Builtin.zeroCells z.cells len).toList,v.oneCell'=true:=by
   intro v PD;rw[Array.mem_toList_iff] at PD;unfold Builtin.zeroCells at PD;rw[Array.mem_map] at PD;obtain⟨k,hk,rfl⟩:=PD;have hzp:0<z.cells.size:=by
    rcases Nat.eq_zero_or_pos z.cells.size with h0 | h0
    .rw[h0] at hk;omega
    exact h0
   have aG:k % z.cells.size<z.cells.size:=Nat.mod_lt _ hzp;refine eA (k % z.cells.size) _ ?_;simp[aG]
  have bQ:=run_storeCells_at P g (off*p.size) p.e (Builtin.zeroCells z.cells len).toList 0 cur w je (by simp only[Array.length_toList,Yd];omega) ac5;simp only[Nat.add_zero,Array.length_toList] at bQ;have cg:=fun k=>g7 (cur:=cur) (o:=off*p.size) (vs:=(Builtin.zeroCells z.cells len).toList) (by simp only[Array.length_toList,Yd];omega) k
  simp only[Array.length_toList] at cg;have mR:=g6 w g (cur.toList.take (off*p.size)++(Builtin.zeroCells z.cells len).toList++cur.toList.drop (off*p.size+(Builtin.zeroCells z.cells len).size)).toArray;have pO:=setRow_heap w g cur (cur.toList.take (off*p.size)++(Builtin.zeroCells z.cells len).toList++cur.toList.drop (off*p.size+(Builtin.zeroCells z.cells len).size)).toArray p.e (0,0) je;have Uu:(execOp e o).run P w= .ok (.value (.tuple #[])) (w.setRow g (cur.toList.take (off*p.size)++(Builtin.zeroCells z.cells len).toList++cur.toList.drop (off*p.size+(Builtin.zeroCells z.cells len).size)).toArray):=by
   rw[d8,kQ];obtain⟨n,rfl⟩: ∃ n,len=n+1:=⟨len - 1,by omega⟩;simp[Builtin.clear_,run_underlying hd,zeroValue,typeInfo,eN,hz,bQ]
  generalize jw:(cur.toList.take (off*p.size)++(Builtin.zeroCells z.cells len).toList++cur.toList.drop (off*p.size+(Builtin.zeroCells z.cells len).size)).toArray=new at Uu mR cg pO;have Et:new.size=cur.size:=by
   rw[<-jw];simp only[List.size_toArray,qe,length_take,length_drop,Array.length_toList,Yd];omega
  obtain⟨X',h1,h2⟩:=h.shrink hp et (n:=off) (by omega) ic (w':=w.setRow g new) mR je pO Et (fun k hk=>by rw[cg,if_pos hk]);rw[O6] at h1;exact⟨.tuple #[],_,X',ρ,.inl Uu,h2,h1,.tup #[] [] rfl (by simp),fun _ _=>rfl⟩
theorem ND (hT:ck P T) (b:Builtin) (args:Array Operand) (ts:Array TypeId):zT P T b args ts:=by
 intro c w X ρ H D R o e ρv r ho h hD hρ ao hc aA;have jl:=ao;unfold fK at jl;split at jl
 .rename_i t v dD dT;obtain⟨args⟩:=args;obtain⟨ts⟩:=ts;simp only at dD;subst dD;simp only at dT
  match args,dT with
  | [s],_=>exact Vy hT s t ho h hD hρ ao hc aA
 .rename_i t t' s x dD dT;obtain⟨args⟩:=args;obtain⟨ts⟩:=ts;simp only at dD;subst dD;simp only at dT;split at jl
  .rename_i yN;subst yN
   match args,dT with
   | [s,x],_=>exact JP hT s x t ho h hD hρ ao hc aA
  cases jl
 .rename_i t t' x y dD dT;obtain⟨args⟩:=args;obtain⟨ts⟩:=ts;simp only at dD;subst dD;simp only at dT
  match args,dT with
  | [x,y],_=>exact Vz x y t t' ho h hD hρ ao hc aA
 .rename_i t t' x y dD dT;obtain⟨args⟩:=args;obtain⟨ts⟩:=ts;simp only at dD;subst dD;simp only at dT
  match args,dT with
  | [x,y],_=>exact VA x y t t' ho h hD hρ ao hc aA
 .rename_i t x dD dT;obtain⟨args⟩:=args;obtain⟨ts⟩:=ts;simp only at dD;subst dD;simp only at dT
  match args,dT with
  | [x],_=>exact NC hT x t ho h hD hρ ao hc aA
 cases jl
theorem DF {l:List PV} {s:Nat} (hl:l.length=s) (hs:0<s): ∀ (n k:Nat),k<n*s->(List.replicate n l).flatten[k]?=l[k % s]?
 | 0,k,h=>by simp at h
 | n+1,k,h=>by
  rw[List.replicate_succ,List.flatten_cons];by_cases hk:k<s
  .rw[qi (by omega),Nat.mod_eq_of_lt hk]
  have e1:(n+1)*s=n*s+s:=Nat.succ_mul n s;have e2:k % s=(k - s) % s:=Nat.mod_eq_sub_mod (by omega);rw[getElem?_append_right (by omega),hl,DF hl hs n (k - s) (by omega),e2]
theorem xf (hT:ck P T) (t:TypeId) (len:Nat) (parts:Array (Nat×Operand)):EffOp P T (.buildSlice t len parts):=by
 intro c w X ρ H D R o e ρv r ho h hD hρ ao hc aA;simp only[aP] at ao;split at ao;rotate_left
 .cases ao
 rename_i i hi;split at ao;rotate_left
 .cases ao
 rename_i el nL;have hd:=(hT _ _ hi).desc;rw[nL] at hd;simp only[fm] at hd;split at ao;rotate_left
 .cases ao
 rename_i ie iZ;split at ao;rotate_left
 .cases ao
 rename_i cs f_;split at ao;rotate_left
 .cases ao
 rename_i fs xM;split at ao;rotate_left
 .cases ao
 rename_i hg;obtain⟨eC,Ab,hg4⟩:=hg;cases ao;have jf:=o3 xM;have GC:(ft H cs++[Ob.row true (dr ie.size len fs)]).length=H.length+D.length:=aA;rw[qe] at GC;unfold ft at GC;rw[aV] at GC;obtain⟨d,rfl⟩:=mM (D:=D) (by simp at GC;omega);obtain⟨X1,h1,pj,jd⟩:=h.shutIds (cs.flatMap eu);rw[eM _ jf] at h1;obtain⟨ti,z,eN,dD,sb,hz,pM,eV,eA,hrd⟩:=kH (hT _ _ iZ) (w:=w) (X:=X) (ρ:=ρ);have ac6:0<z.cells.size:=by omega
 have Is:vz w X ρ ((Array.range (len*ti.size)).map fun k=>(z.cells[k % z.cells.size]!)) (List.replicate len ie.zero).flatten:=by
  have cg: ∀ (j:Nat) u,((Array.range (len*ti.size)).map fun k=>(z.cells[k % z.cells.size]!))[j]?=some u->j<len*ie.size/\z.cells[j % ie.size]?=some u:=by
   intro j u hu;rw[Array.getElem?_map,Option.map_eq_some_iff] at hu;obtain⟨k,hk,rfl⟩:=hu;have oB:=(Array.getElem?_eq_some_iff.1 hk).1;have iY:=(Array.getElem?_eq_some_iff.1 hk).2;simp only[Array.getElem_range] at iY;subst iY;have aG:j % z.cells.size<z.cells.size:=Nat.mod_lt _ ac6;refine⟨by simpa [dD] using oB,?_⟩;rw[<-pM];simp[aG]
  refine⟨by simp[dD,eV],fun j u hu=>eA _ u (cg j u hu).2,fun j u x hu hx=>?_⟩;obtain⟨h2,h3⟩:=cg j u hu;rw[DF eV Ab len j h2] at hx;exact(hrd _ u x h3 hx).1
 obtain⟨us',gf,fA⟩:=A_ (w:=w) (X:=X) (ρ:=ρ) (pl:=fun j=>some (j*ie.size,ie.size)) (by intro i off s hi;cases hi;exact Ab) (parts.toList.map fun(i,x)=>(i,e x)) (parts.toList.map fun(j,x)=>(j,ρv x)) _ _ cs (by simp)
  (DA parts.toList (fun p hp=>hρ p.2 (by
   simp only[Op.operands,List.mem_toArray,mem_map];exact⟨p,hp,rfl⟩))) Is f_
 have eO:cs.length=len*ie.size:=by
  have h2:=fA.n;have h3: ∀ (pv:List (Nat×PV)) (a b:List PV),kd (fun j=>some (j*ie.size,ie.size)) a pv=some b->b.length=a.length:=by
   intro pv
   induction pv with
   | nil=>intro a b uz;simp[kd] at uz;rw[uz]
   | cons p pv ih=>
    intro a b uz;obtain⟨i,x⟩:=p;simp only[kd] at uz;split at uz
    .rename_i ai7;rw[ih _ _ uz,f6 (by omega)]
    cases uz
  rw[h3 _ _ _ f_];simp[eV]
 have k4:fs.length=len*ie.size:=by rw[gk xM,eO]
 have hXs:Stp c w w X X1 ρ ρ:=Stp.same_world pj;have K7: ∀ (k:Nat) u y,us'[k]?=some u->fs[k]?=some y->FRd w X1 u y:=by
  intro k u y hu hy;have aG:k<cs.length:=by rw[eO,<-k4];exact(List.getElem?_eq_some_iff.1 hy).1
  obtain⟨y',Eo,O2⟩:=mJ xM k cs[k] (by simp[aG]);rw[hy] at Eo;cases Eo;refine mI h bm (fA.rd k u cs[k] hu (by simp[aG])) O2 pj (fun id cF=>jd id ?_);rw[List.mem_flatMap];exact⟨cs[k],by simp,cF⟩
 have Uv:ρ[(shutIds (cs.flatMap eu) H).length]?=some none:=by rw[aV];exact hD _ (qp _) (by simp)
 have Gc:len<=maxLen:=by simp only[maxLen];omega
 have eP:=World.ownsRow_lit (base:=0) (size:=ie.size) (e:=el) w us' len (dU _) Gc (by rw[fA.n,eO]);obtain⟨X',ρ',h2,h3,h4,h5⟩:=dc (xs:=dr ie.size len fs) (size:=ie.size) (el:=el) (v:= .slice (some ⟨w.heap.size,0,none⟩) len len) (row:=none) h1 Uv (World.grownBy_alloc w _ none) (by simp) (by intros;simp) (by simp) Ab (qu k4)
  (by rw[f9];exact eP) (by
   intro g hg;simp only[Value.ownBlock,qo] at hg;left;omega) (by
   intro i' j x y hx hy;obtain⟨Eo,hj⟩:=n9 hx hy;have aG:i'*ie.size+j<us'.size:=by rw[fA.n,eO,<-k4];exact(List.getElem?_eq_some_iff.1 Eo).1
   exact⟨us'[i'*ie.size+j],by simp[aG],K7 _ _ _ (by simp[aG]) Eo⟩)
 rw[aV,f9] at h4;rw[aV] at h5;refine⟨_,_,X',ρ',.inl ?_,hXs.trans h2,h3,h4,fun id cF=>h5 id (by simp at cF;omega)⟩;have ac7: ¬(16777216<len*ti.size):=by
  rw[dD];have:len*ie.size<=1000*1000:=Nat.mul_le_mul (by omega) (by omega);omega
 by_cases Pw:len=0
 .subst Pw;have hr0:Array.range 0=#[]:=rfl;simp only[Nat.zero_mul,hr0,Array.map_empty] at gf;simp[execOp,ho,Instr.buildSlice,run_underlying hd,sizeOf,typeInfo,eN,dD,hr0,gf,newRow]
 have fX: ¬(len*ti.size=0):=by
  rw[dD];exact Nat.mul_ne_zero Pw (by omega)
 rw[dD] at gf;simp only[dD] at ac7 fX;simp[execOp,ho,Instr.buildSlice,run_underlying hd,sizeOf,typeInfo,eN,dD,zeroValue,hz,ac7,fX,gf,newRow]
end
end Go.AM
