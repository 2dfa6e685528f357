/- The abstract machine:values that are built,literals of slices,frozen variables. -/
import Derived.Test.YtjjbkjgifdhlcaaGreatT4
import Derived.Laws.Tables
import Derived.Test.YtjjbkjgifdhlcaaGreatT1
open List (append_assoc ext_getElem? getElem?_append_right getElem?_of_mem getElem?_set_ne getElem?_take length_drop length_nil length_take map_cons map_nil mem_map mem_of_getElem? mem_of_mem_drop nil_append set_append_left)
namespace Go.AM
section
variable {P:Program} {T:Tab}
structure CellsRd (w:World) (X:Nat->Prop) (ρ:Places) (us:Array Value) (cs:List PV):Prop where
 n:us.size=cs.length
 one: ∀ (i:Nat) u,us[i]?=some u->u.oneCell'=true
 rd: ∀ (i:Nat) u x,us[i]?=some u->cs[i]?=some x->PRd w X ρ u x
theorem fill_rd {w:World} {X:Nat->Prop} {ρ:Places} {pl:Nat->Option (Nat×Nat)} (hpl: ∀ i off s,pl i=some (off,s)->0<s):
 ∀ (pc:List (Nat×Value)) (pv:List (Nat×PV)) (us:Array Value) (cs cs':List PV),pc.length=pv.length->(∀ (k:Nat) a b,pc[k]?=some a->pv[k]?=some b->a.1=b.1/\PRd w X ρ a.2 b.2)->
  CellsRd w X ρ us cs->fillP pl cs pv=some cs'-> ∃ us',Instr.fill pl us pc=some us'/\CellsRd w X ρ us' cs'
 | [],[],us,cs,cs',_,_,h,hf=>by
  simp only[fillP,qo] at hf;subst hf;exact⟨us,rfl,h⟩
 | (i,u)::pc,(j,x)::pv,us,cs,cs',hl,hp,h,hf=>by
  obtain⟨h1,h2⟩:=hp 0 _ _ rfl rfl;simp only at h1 h2;subst h1;simp only[fillP] at hf;split at hf
  ·cases hf
  ·rename_i off size hpi;split at hf
   ·rename_i hc;have hpos:=hpl _ _ _ hpi;obtain⟨hsz,hone⟩:=cells_size h2 (by omega);have hrd:=cells_rd h2;have hnew:CellsRd w X ρ (u.cells.zipIdx.foldl (fun cs (p:Value×Nat)=>cs.setIfInBounds (off+p.2) p.1) us) (splice cs off x.cells):=by
     have hg: ∀ m,(u.cells.zipIdx.foldl (fun cs (p:Value×Nat)=>cs.setIfInBounds (off+p.2) p.1) us)[m]?=if off<=m/\m<off+u.cells.size/\m<us.size then u.cells[m - off]? else us[m]?:=by
      intro m;have:=setAll_get u.cells.toList 0 off us m;rw[<-Array.foldl_toList,Array.toList_zipIdx];simpa using this
     have hsp:=fun m=>splice_get (l:=cs) (new:=x.cells) (off:=off) (by omega) m
     have hn:=h.n;refine⟨?_,fun m v hv=>?_,fun m v y hv hy=>?_⟩
     ·rw[splice_length (by omega),<-hn];have hind: ∀ (l:List (Value×Nat)) (a:Array Value),(l.foldl (fun cs (p:Value×Nat)=>cs.setIfInBounds (off+p.2) p.1) a).size=a.size:=by
       intro l
       induction l with
       | nil=>intro a;rfl
       | cons q l ih=>intro a;rw[List.foldl_cons,ih];simp
      rw[<-Array.foldl_toList];exact hind _ _
     ·rw[hg] at hv;split at hv
      ·exact hone _ _ hv
      ·exact h.one _ _ hv
     ·rw[hg] at hv;rw[hsp] at hy;by_cases hm:off<=m/\m<off+u.cells.size/\m<us.size
      ·rw[if_pos hm] at hv;rw[if_neg (by omega),if_pos (by omega)] at hy;exact hrd _ _ _ hv hy
      ·rw[if_neg hm] at hv;have hmlt:m<us.size:=(Array.getElem?_eq_some_iff.1 hv).1;by_cases hmo:m<off
       ·rw[if_pos hmo] at hy;exact h.rd _ _ _ hv hy
       ·rw[if_neg hmo,if_neg (by omega)] at hy;exact h.rd _ _ _ hv hy
    obtain⟨us',hus,hrest⟩:=fill_rd hpl pc pv _ _ _ (by simpa using hl) (fun k a b ha hb=>hp (k+1) a b (by simpa using ha) (by simpa using hb)) hnew hf;refine⟨us',?_,hrest⟩;simp only[Instr.fill,hpi];rw[if_neg (by have:=h.n;simp;omega)];exact hus
   ·cases hf
 | [],_::_,_,_,_,hl,_,_,_=>by simp at hl
 | _::_,[],_,_,_,hl,_,_,_=>by simp at hl
theorem parts_rd {w:World} {X:Nat->Prop} {ρ:Places} {e:Operand->Value} {ρv:Operand->PV} (parts:List (Nat×Operand)) (h: ∀ p∈parts,PRd w X ρ (e p.2) (ρv p.2)):
 ∀ (k:Nat) a b,(parts.map fun(i,x)=>(i,e x))[k]?=some a->(parts.map fun(j,x)=>(j,ρv x))[k]?=some b->a.1=b.1/\PRd w X ρ a.2 b.2:=by
 intro k a b ha hb
 rw[List.getElem?_map,Option.map_eq_some_iff] at ha hb
 obtain⟨p,hp,rfl⟩:=ha
 obtain⟨q,hq,rfl⟩:=hb
 rw[hp] at hq;cases hq
 exact⟨rfl,h p (mem_of_getElem? hp)⟩
theorem mapM_places {fs:List Fld}: ∀ (ffs:List Field) (k:Nat),(∀ (j:Nat) f,ffs[j]?=some f-> ∃ fd,fs[k+j]?=some fd/\f.offset=fd.off/\ ∃ ti,P.info? f.type=some ti/\ti.size=fd.size)->
 ∃ places,ffs.mapM (fun f=>(P.info? f.type).map fun i=>(f.offset,i.size))=some places/\places.length=ffs.length/\ ∀ (j:Nat),j<ffs.length->places[j]?=(fs[k+j]?).map fun fd=>(fd.off,fd.size)
 | [],k,_=>⟨[],rfl,rfl,by simp⟩
 | f::ffs,k,h=>by
  obtain⟨fd,hfd,ho,ti,hti,hs⟩:=h 0 f rfl;obtain⟨places,hp,hl,hg⟩:=mapM_places ffs (k+1) (fun j f' hj=>by
   have:=h (j+1) f' (by simpa using hj);rwa [show k+(j+1)=k+1+j by omega] at this)
  refine⟨(fd.off,fd.size)::places,by simp[List.mapM_cons,hti,hp,ho,hs],by simp[hl],fun j hj=>?_⟩;cases j with
  | zero=>simp at hfd ⊢;simp[hfd]
  | succ j=>
   simp only[List.getElem?_cons_succ];rw[hg j (by simpa using hj),show k+1+j=k+(j+1) by omega]
theorem still_build (hT:TabOk P T) (t:TypeId) (parts:Array (Nat×Operand)):StillOp P T (.build t parts):=by
 intro c w X ρ H F o e ρv r lo hi ho h hH hρ hres hc;simp only[opRes] at hres;split at hres;rotate_left
 ·cases hres
 rename_i i hi;split at hres;rotate_left
 ·cases hres
 rename_i fs hfs;split at hres;rotate_left
 ·cases hres
 rename_i cs hcs;simp only[Res.pure,qo] at hres;subst hres;have hd:=(hT _ _ hi).desc;rw[hfs] at hd;obtain⟨ffs,hu,hsz,hfld⟩:=hd;obtain⟨ti,z,hti,hts,_,hz,hzs,hil,hone,hrd⟩:=zero_rd (hT _ _ hi) (w:=w) (X:=X) (ρ:=ρ);have hpl: ∀ (i off s:Nat),((fs[i]?).map fun(f:Fld)=>(f.off,f.size))=some (off,s)->0<s:=by
  intro i off s hi;rw[Option.map_eq_some_iff] at hi;obtain⟨fd,hfd,he⟩:=hi;cases he;have hlt:i<ffs.size:=by rw[hsz];exact(List.getElem?_eq_some_iff.1 hfd).1
  exact(hfld i _ _ (Array.getElem?_eq_getElem hlt) hfd).2.1
 obtain⟨us',hus,hrest⟩:=fill_rd (w:=w) (X:=X) (ρ:=ρ) (pl:=fun(i:Nat)=>(fs[i]?).map fun(f:Fld)=>(f.off,f.size)) hpl (parts.toList.map fun(i,x)=>(i,e x)) (parts.toList.map fun(j,x)=>(j,ρv x)) z.cells i.zero cs (by simp)
  (parts_rd parts.toList (fun p hp=>hρ p.2 (by
   simp only[Op.operands,List.mem_toArray,mem_map];exact⟨p,hp,rfl⟩))) ⟨by omega,hone,fun j u x hu hx=>(hrd j u x hu hx).1⟩ hcs
 obtain⟨places,hp,hl,hg⟩:=mapM_places (P:=P) (fs:=fs) ffs.toList 0 (fun j f hj=>by
  have hj':ffs[j]?=some f:=by simpa using hj
  have hlt:j<fs.length:=by rw[<-hsz];exact(Array.getElem?_eq_some_iff.1 hj').1
  obtain⟨h1,_,ti,d,h3,h4,_⟩:=hfld j f fs[j] hj' (by simp[hlt]);exact⟨fs[j],by simp[hlt],h1,ti,h3,h4⟩)
 have hfun:(fun(i:Nat)=>(fs[i]?).map fun(f:Fld)=>(f.off,f.size))=fun(i:Nat)=>(places.toArray[i]?:Option (Nat×Nat)):=by
  funext j;simp only[List.getElem?_toArray];by_cases hj:j<ffs.size
  ·rw[hg j (by simpa using hj)];simp
  ·rw[List.getElem?_eq_none (by omega),List.getElem?_eq_none (by rw[hl];simp;omega)];rfl
 rw[hfun] at hus;refine⟨rfl,OpOK.still h (u:= .agg us') ?_ (.agg _ _ hrest.n hrest.one hrest.rd)⟩;have hb:P.built t (parts.map fun(i,x)=>(i,e x)).toList=some us':=by
  simp only[Program.built,hti,hu,hz,hp];simpa using hus
 simp only[execOp,ho,Sem.run_bind,run_build w t _ us' hb,Result.andThen_ok];rfl
theorem fz1s_get {H:List Ob}: ∀ {xs:List PV} {ys:List FV},fz1s H xs=some ys->ys.length=xs.length/\ ∀ (i:Nat) y,ys[i]?=some y-> ∃ x,xs[i]?=some x/\fz1 H x=some y
 | [],ys,h=>by simp[fz1s] at h;subst h;simp
 | x::xs,ys,h=>by
  simp only[fz1s] at h;split at h
  ·rename_i y ys' h1 h2;cases h;obtain⟨hl,hg⟩:=fz1s_get h2;refine⟨by simp[hl],fun i z hz=>?_⟩;cases i with
   | zero=>simp at hz;subst hz;exact⟨x,rfl,h1⟩
   | succ i=>simp at hz ⊢;exact hg i z hz
  ·cases h
theorem shutIds_append {G:List Ob}: ∀ (ids:List Nat) {F:List Ob},(∀ id∈ids,id<F.length)->shutIds ids (F++G)=shutIds ids F++G
 | [],F,_=>rfl
 | id::ids,F,h=>by
  show shutIds ids (shut (F++G) id)=shutIds ids (shut F id)++G;rw[shut_append (h id (by simp)),shutIds_append ids (fun j hj=>by simp[shut];exact h j (by simp[hj]))]
theorem fz0_ids {H:List Ob} {x:PV} {y:FV} (h:fz0 H x=some y): ∀ id∈ids0 x,id<H.length:=by
 cases x with
 | lsl id off len s=>
  intro j hj;simp only[ids0,qz] at hj;subst hj;simp only[fz0] at h;cases ho:H[j]? with
  | none=>rw[ho] at h;cases h
  | some o=>exact(List.getElem?_eq_some_iff.1 ho).1
 | _=>intro j hj;simp[ids0] at hj
theorem fzs_ids {H:List Ob}: ∀ {xs:List PV} {ys:List FV},fzs H xs=some ys-> ∀ id∈xs.flatMap ids0,id<H.length
 | [],ys,h=>by simp
 | x::xs,ys,h=>by
  simp only[fzs] at h;split at h
  ·rename_i y ys' h1 h2;intro id hid;rw[List.flatMap_cons,qr] at hid;rcases hid with hid | hid
   ·exact fz0_ids h1 id hid
   ·exact fzs_ids h2 id hid
  ·cases h
theorem fz1_ids {H:List Ob} {x:PV} {y:FV} (h:fz1 H x=some y): ∀ id∈ids1 H x,id<H.length:=by
 unfold fz1 at h;unfold ids1;split at h
 ·rename_i id;cases ho:H[id]? with
  | none=>rw[ho] at h;cases h
  | some o=>
   rw[ho] at h;cases o with
   | box rw cs=>
    simp only[Option.map_eq_some_iff] at h;obtain⟨ys,hys,_⟩:=h;intro j hj;simp only[qhb] at hj;rcases hj with rfl | hj
    ·exact(List.getElem?_eq_some_iff.1 ho).1
    ·exact fzs_ids hys j hj
   | _=>cases h
 ·exact fz0_ids h
theorem fzA_ids {H:List Ob} {x y:PV} (h:fzA H x=some y): ∀ id∈idsA H x,id<H.length:=by
 unfold fzA at h;unfold idsA;split at h
 ·simp only[Option.map_eq_some_iff] at h;obtain⟨ys,hys,_⟩:=h;exact fzs_ids hys
 ·rw[Option.map_eq_some_iff] at h;obtain⟨z,hz,_⟩:=h;exact fz1_ids hz
theorem fzAs_ids {H:List Ob}: ∀ {xs ys:List PV},fzAs H xs=some ys-> ∀ id∈xs.flatMap (idsA H),id<H.length
 | [],ys,h=>by simp
 | x::xs,ys,h=>by
  simp only[fzAs] at h;split at h
  ·rename_i y ys' h1 h2;intro id hid;rw[List.flatMap_cons,qr] at hid;rcases hid with hid | hid
   ·exact fzA_ids h1 id hid
   ·exact fzAs_ids h2 id hid
  ·cases h
theorem OpOK.shutting {c:Ctx} {w:World} {X:Nat->Prop} {ρ:Places} {H G:List Ob} {lo hi:Nat} {ids:List Nat} (hids: ∀ id∈ids,id<H.length) (h:HRd c w X ρ (H++G)) {r:Result Next} {u:Value} {v:PV} (hr:r= .ok (.value u) w)
 (hu: ∀ X',(∀ b,X' b->X b)->(∀ id∈ids,∀ p o g,ρ[id]?=some (some p)->(H++G)[id]?=some o->o.alive->p.b=some g-> ¬X' g)->PRd w X' ρ u v):OpOK c w X ρ lo hi (shutIds ids H++G) r v:=by
 obtain⟨X',h',hs,hn⟩:=h.shutIds ids
 rw[shutIds_append ids hids] at h'
 exact⟨u,w,X',ρ,.inl hr,Stp.same_world hs,h',hu X' hs hn,fun _ _=>rfl⟩
theorem litC_rd {w:World} {X:Nat->Prop} {ρ:Places} {u:Value} {x:PV} {v:Value} (h:PRd w X ρ u x) (hl:litC x=some v):u=v:=by
 unfold litC at hl;split at hl
 ·cases hl;exact h.litInv
 ·cases hl
theorem litCs_get: ∀ {cs:List PV} {vs:List Value},litCs cs=some vs->vs.length=cs.length/\ ∀ (i:Nat) c,cs[i]?=some c-> ∃ v,vs[i]?=some v/\litC c=some v
 | [],vs,h=>by simp[litCs] at h;subst h;simp
 | c::cs,vs,h=>by
  simp only[litCs] at h;split at h
  ·rename_i v us h1 h2;cases h;obtain⟨hl,hg⟩:=litCs_get h2;refine⟨by simp[hl],fun i x hx=>?_⟩;cases i with
   | zero=>simp at hx;subst hx;exact⟨v,rfl,h1⟩
   | succ i=>exact hg i x (by simpa using hx)
  ·cases h
theorem litV_rd {w:World} {X:Nat->Prop} {ρ:Places} {u:Value} {x:PV} {v:Value} (h:PRd w X ρ u x) (hl:litV x=some v):u=v:=by
 unfold litV at hl;split at hl
 ·rename_i cs;rw[Option.map_eq_some_iff] at hl;obtain⟨vs,hvs,rfl⟩:=hl;obtain⟨hlen,hg⟩:=litCs_get hvs;cases h with
  | agg us _ hn h1 hr=>
   congr 1;apply Array.ext
   ·simp[hlen,hn]
   ·intro i hi1 hi2;obtain⟨v,hv,hc⟩:=hg i cs[i] (by simp[<-hn,hi1]);have:=litC_rd (hr i us[i] cs[i] (by simp[hi1]) (by simp[<-hn,hi1])) hc;rw[this];simp at hi2;rw[qb hi2] at hv;cases hv;simp
 ·exact litC_rd h hl
theorem litVs_get: ∀ {cs:List PV} {vs:List Value},litVs cs=some vs->vs.length=cs.length/\ ∀ (i:Nat) c,cs[i]?=some c-> ∃ v,vs[i]?=some v/\litV c=some v
 | [],vs,h=>by simp[litVs] at h;subst h;simp
 | c::cs,vs,h=>by
  simp only[litVs] at h;split at h
  ·rename_i v us h1 h2;cases h;obtain⟨hl,hg⟩:=litVs_get h2;refine⟨by simp[hl],fun i x hx=>?_⟩;cases i with
   | zero=>simp at hx;subst hx;exact⟨v,rfl,h1⟩
   | succ i=>exact hg i x (by simpa using hx)
  ·cases h
theorem eff_makeFunc (fn:Fn) (first captured:Array Operand):EffOp P T (.makeFunc fn first captured):=by
 intro c w X ρ H D R o e ρv r ho h hD hρ hres hc hlen;simp only[opRes] at hres;split at hres;rotate_left
 ·split at hres
  ·rename_i vs hvs hcap;cases hres;have hd:D=[]:=(by simpa using hlen);subst hd;have hc0:captured=#[]:=by
    have:captured.toList=[]:=List.map_eq_nil_iff.1 hcap;exact Array.toList_eq_nil_iff.1 this
   obtain⟨hl,hg⟩:=litVs_get hvs;have hfe:first.map e=List.toArray vs:=by
    apply Array.ext
    ·simp[hl]
    ·intro i hi1 hi2;have hif:i<first.size:=by simpa using hi1
     obtain⟨v,hv,hlv⟩:=hg i (ρv first[i]) (by simp[hif]);have:=litV_rd (hρ first[i] (by simp[Op.operands])) hlv;rw[Array.getElem_map,this];simp at hi2;rw[qb hi2] at hv;cases hv;simp
   exact OpOK.still (u:= .func fn (List.toArray vs) #[]) h (by simp[execOp,ho,Instr.makeFunc,hfe,hc0]) (.fv _ _ (.lit _ rfl))
  ·cases hres
 rename_i c1 c2 h1 h2;cases hres;have h5:(shutIds ((first.toList.map ρv++captured.toList.map ρv).flatMap (ids1 H)) H).length=H.length+D.length:=hlen;rw[shutIds_length] at h5;have hd:D=[]:=List.eq_nil_of_length_eq_zero (by omega);subst hd;obtain⟨hl1,hg1⟩:=fz1s_get h1;obtain⟨hl2,hg2⟩:=fz1s_get h2;have hids: ∀ id∈(first.toList.map ρv++captured.toList.map ρv).flatMap (ids1 H),id<H.length:=by
  intro id hid;rw[List.mem_flatMap] at hid;obtain⟨x,hx,hid⟩:=hid;rw[qr] at hx;rcases hx with hx | hx
  ·obtain⟨k,hk⟩:=getElem?_of_mem hx;have hlt:k<c1.length:=by rw[hl1];exact(List.getElem?_eq_some_iff.1 hk).1
   obtain⟨x',hx',hf⟩:=hg1 k c1[k] (by simp[hlt]);rw[hk] at hx';cases hx';exact fz1_ids hf id hid
  ·obtain⟨k,hk⟩:=getElem?_of_mem hx;have hlt:k<c2.length:=by rw[hl2];exact(List.getElem?_eq_some_iff.1 hk).1
   obtain⟨x',hx',hf⟩:=hg2 k c2[k] (by simp[hlt]);rw[hk] at hx';cases hx';exact fz1_ids hf id hid
 refine OpOK.shutting hids h (u:= .func fn (first.map e) (captured.map e)) (by simp[execOp,ho,Instr.makeFunc]) (fun X' hX hn=> .fv _ _ (.fn fn _ _ _ _ (by simpa using hl1.symm) (by simpa using hl2.symm) ?_ ?_))
 ·intro j u y hu hy;obtain⟨x,hx,hf⟩:=hg1 j y hy;simp at hu;obtain⟨a,ha,rfl⟩:=hu;rw[List.getElem?_map] at hx;simp only[Array.getElem?_toList,ha,Option.map_some,qo] at hx;subst hx;refine fz1_rd h look_append (hρ a (by simp[Op.operands];exact .inl (Array.mem_of_getElem? ha))) hf hX (fun id hid=>hn id ?_);rw[List.mem_flatMap];exact⟨ρv a,List.mem_append.2 (.inl (mem_map.2 ⟨a,Array.mem_toList_iff.2 (Array.mem_of_getElem? ha),rfl⟩)),hid⟩
 ·intro j u y hu hy;obtain⟨x,hx,hf⟩:=hg2 j y hy;simp at hu;obtain⟨a,ha,rfl⟩:=hu;rw[List.getElem?_map] at hx;simp only[Array.getElem?_toList,ha,Option.map_some,qo] at hx;subst hx;refine fz1_rd h look_append (hρ a (by simp[Op.operands];exact .inr (Array.mem_of_getElem? ha))) hf hX (fun id hid=>hn id ?_);rw[List.mem_flatMap];exact⟨ρv a,List.mem_append.2 (.inr (mem_map.2 ⟨a,Array.mem_toList_iff.2 (Array.mem_of_getElem? ha),rfl⟩)),hid⟩
end
end Go.AM
namespace Go.AM
theorem groups_length (s:Nat): ∀ (n:Nat) (l:List FV),(groups s n l).length=n
 | 0,_=>rfl
 | n+1,l=>by simp[groups,groups_length s n]
theorem groups_get (s:Nat): ∀ (n:Nat) (l:List FV) (i:Nat) x,(groups s n l)[i]?=some x->x=(l.drop (i*s)).take s
 | 0,_,_,_,h=>by simp[groups] at h
 | n+1,l,i,x,h=>by
  cases i with
  | zero=>simp[groups] at h;simp[h]
  | succ i=>
   simp only[groups,List.getElem?_cons_succ] at h;rw[groups_get s n _ i x h,List.drop_drop];congr 2;rw[Nat.add_mul];omega
theorem groups_len {s n:Nat} {l:List FV} (h:l.length=n*s): ∀ x∈groups s n l,x.length=s:=by
 intro x hx;obtain⟨i,hi⟩:=getElem?_of_mem hx;have hlt:i<n:=by have:=(List.getElem?_eq_some_iff.1 hi).1;rwa [groups_length] at this
 rw[groups_get s n l i x hi];have:(i+1)*s<=n*s:=qn _ hlt;rw[Nat.add_mul] at this;simp;omega
theorem groups_cell {s n:Nat} {l:List FV} {i j:Nat} {x:List FV} {y:FV} (hx:(groups s n l)[i]?=some x) (hy:x[j]?=some y):l[i*s+j]?=some y/\j<s:=by
 rw[groups_get s n l i x hx,getElem?_take] at hy;split at hy
 ·rw[List.getElem?_drop] at hy;exact⟨hy,by assumption⟩
 ·cases hy
section
variable {P:Program} {T:Tab}
def SrcRd (w:World) (X:Nat->Prop) (size:Nat) (v:Value) (ys:List (List FV)):Prop:=
 (∀ y∈ys,y.length=size)/\((v= .slice none 0 0/\ys=[])\/ ∃ (a:Addr) (c:Nat) (news:List Value),v= .slice (some a) ys.length c/\news.length=ys.length*size/\(∀ (j:Nat) u,news[j]?=some u->w.cell? (a.add j)=some u)/\
  (∀ u∈news,u.oneCell'=true)/\ ∀ (i j:Nat) x y,ys[i]?=some x->x[j]?=some y-> ∃ u,news[i*size+j]?=some u/\FRd w X u y)
theorem src_frd {w:World} {X:Nat->Prop} {size:Nat} (hpos:0<size) {v:Value} {ys:List (List FV)} (h:FRd w X v (.sl ys)) (hl: ∀ y∈ys,y.length=size):SrcRd w X size v ys:=by
 refine⟨hl,?_⟩;cases h with
 | nil=>exact .inl ⟨rfl,rfl⟩
 | sl ad n cap s _ us hn hc hs h0 hX hb hcell hrd=>
  right;have hdiv: ∀ k,k<ys.length*size-> ∃ x y,ys[k / size]?=some x/\x[k % size]?=some y/\size=s:=by
   intro k hk;have h1:k / size<ys.length:=(Nat.div_lt_iff_lt_mul hpos).2 hk;have hx:=qqb h1;have h2:k % size<ys[k / size].length:=by rw[hl _ hx];exact Nat.mod_lt _ hpos
   exact⟨ys[k / size],ys[k / size][k % size],by simp[h1],by simp[h2],by rw[<-hl _ hx,hs _ hx]⟩
  refine⟨ad,cap,(List.range (ys.length*size)).map fun k=>us (k / size) (k % size),by rw[hn],by simp,fun j u hu=>?_,fun u hu=>?_,fun i j x y hx hy=>?_⟩
  ·rw[List.getElem?_map,Option.map_eq_some_iff] at hu;obtain⟨k,hk,rfl⟩:=hu;obtain⟨hk1,hk2⟩:=List.getElem?_eq_some_iff.1 hk;rw[List.getElem_range] at hk2;subst hk2;have hk:j<ys.length*size:=by simpa using hk1
   obtain⟨x,y,hx,hy,rfl⟩:=hdiv j hk;rw[addr_add' h0,<-hcell _ _ x y hx hy];congr 2;rw[Nat.mul_comm (j / size) size,Nat.div_add_mod]
  ·rw[mem_map] at hu;obtain⟨k,hk,rfl⟩:=hu;rw[List.mem_range] at hk;obtain⟨x,y,hx,hy,_⟩:=hdiv k hk;exact(hrd _ _ x y hx hy).one
  ·have hlt:i<ys.length:=(List.getElem?_eq_some_iff.1 hx).1;have hj:j<size:=by rw[<-hl x (mem_of_getElem? hx)];exact(List.getElem?_eq_some_iff.1 hy).1
   have h1:(i+1)*size<=ys.length*size:=qn _ hlt;rw[Nat.add_mul] at h1;have h2:i*size+j<ys.length*size:=by omega
   refine⟨us i j,?_,hrd i j x y hx hy⟩;have e1:(i*size+j) / size=i:=by
    rw[Nat.mul_comm,Nat.mul_add_div hpos,Nat.div_eq_of_lt hj,Nat.add_zero]
   have e2:(i*size+j) % size=j:=by
    rw[Nat.mul_comm,Nat.mul_add_mod,Nat.mod_eq_of_lt hj]
   rw[List.getElem?_map,List.getElem?_range h2];simp only[Option.map_some,e1,e2]
theorem src_lsl {w:World} {X:Nat->Prop} {ρ:Places} {p:Place} {xs:List (List FV)} (hr:RowRd w X p xs) {id off len:Nat} {v:Value}
 (hv:PRd w X ρ v (.lsl id off len p.size)) (hp:ρ[id]?=some (some p)) (hl:off+len<=xs.length):SrcRd w X p.size v ((xs.drop off).take len):=by
 refine⟨fun x hx=>hr.len x (mem_of_mem_drop (qfb hx)),?_⟩
 obtain⟨us,hus,hcell⟩:=hr.cells
 obtain⟨q,hq,hqs,⟨hg,hv2,rfl,rfl⟩ | ⟨g,og,hg,hv2,hl2,hoo⟩⟩:=hv.lslInv
 ·left
  rw[List.take_zero]
  exact⟨hv2,rfl⟩
 ·right
  rw[hp] at hq;cases hq
  have hlen:((xs.drop off).take len).length=len:=by simp;omega
  have hown:World.ownsRow w 0 p.e p.size (.slice (some ⟨g,0,none⟩) xs.length p.cap) xs.length us:=by simpa [Place.val,hg] using hus
  have hul:us.length=xs.length*p.size:=hown.1
  have hmul:(off+len)*p.size<=xs.length*p.size:=qn _ hl
  rw[Nat.add_mul] at hmul
  have hone: ∀ (k:Nat) u,us[k]?=some u->u.oneCell'=true:=by
   intro k u hu;have hk:k<xs.length*p.size:=by rw[<-hul];exact(List.getElem?_eq_some_iff.1 hu).1
   have h1:k / p.size<xs.length:=(Nat.div_lt_iff_lt_mul hr.pos).2 hk;have h2:k % p.size<xs[k / p.size].length:=by rw[hr.len _ (qqb h1)];exact Nat.mod_lt _ hr.pos
   obtain⟨u',hu',hf⟩:=hcell (k / p.size) (k % p.size) xs[k / p.size] xs[k / p.size][k % p.size] (by simp[h1]) (by simp[h2]);rw[Nat.mul_comm (k / p.size),Nat.div_add_mod,hu] at hu';cases hu';exact hf.one
  refine⟨_,_,(us.drop (off*p.size)).take (len*p.size),by rw[hlen];exact hv2,by rw[hlen];simp;omega,fun j u hu=>?_,fun u hu=>?_,fun i j x y hx hy=>?_⟩
  ·rw[getElem?_take] at hu
   split at hu
   ·rename_i hj
    rw[List.getElem?_drop] at hu
    have:=hown.cells (g:=g) rfl _ u hu
    rw[addr_add,Nat.zero_add] at this
    have hog:og=off*p.size:=by
     rcases hoo with hoo | hoo
     ·exact hoo
     ·have:len=0:=by omega
      subst this;omega
    rw[addr_add,hog]
    exact this
   ·cases hu
  ·obtain⟨k,hk⟩:=getElem?_of_mem (mem_of_mem_drop (qfb hu))
   exact hone k u hk
  ·rw[getElem?_take] at hx
   split at hx
   ·rename_i hi
    rw[List.getElem?_drop] at hx
    obtain⟨u,hu,hf⟩:=hcell _ j x y hx hy
    refine⟨u,?_,hf⟩
    have hj:j<p.size:=by rw[<-hr.len x (mem_of_getElem? hx)];exact(List.getElem?_eq_some_iff.1 hy).1
    have h1:(i+1)*p.size<=len*p.size:=qn _ hi
    rw[Nat.add_mul] at h1
    rw[getElem?_take,if_pos (by omega),List.getElem?_drop,<-hu]
    congr 1
    rw[Nat.add_mul];omega
   ·cases hx
theorem src_rd {c:Ctx} {w:World} {X:Nat->Prop} {ρ:Places} {F H:List Ob} (h:HRd c w X ρ F) (hH: ∀ (j:Nat) o,H[j]?=some o->F[j]?=some o) {size:Nat} (hpos:0<size) {v:Value} {x:PV} (hv:PRd w X ρ v x)
 {cd:Prop} {ys:List (List FV)} (hs:srcOf H size x=some (cd,ys)) (hc:cd):SrcRd w X size v ys:=by
 cases x with
 | fv z=>
  cases z with
  | sl xs=>
   simp only[srcOf,qo,Prod.mk.injEq] at hs;obtain⟨rfl,rfl⟩:=hs;cases hv with | fv _ _ hf=>exact src_frd hpos hf hc
  | lit u=>
   unfold srcOf at hs;split at hs
   all_goals first | (cases hs;done) | skip
   all_goals rename_i he
   all_goals first | (cases he;done) | skip
   injection he with he;injection he with he
   subst he;simp only[qo,Prod.mk.injEq] at hs;obtain⟨rfl,rfl⟩:=hs;rw[hv.litInv];exact⟨by simp,.inr ⟨_,_,[],rfl,by simp,by simp,by simp,by simp⟩⟩
  | _=>simp[srcOf] at hs
 | nilsl=>
  simp only[srcOf,qo,Prod.mk.injEq] at hs;obtain⟨rfl,rfl⟩:=hs;cases hv with | nilsl=>exact⟨by simp,.inl ⟨rfl,rfl⟩⟩
 | clip xs=>
  simp only[srcOf,qo,Prod.mk.injEq] at hs;obtain⟨rfl,rfl⟩:=hs;cases hv with | clip _ _ _ hf=>exact src_frd hpos hf hc
 | lsl id off len s=>
  simp only[srcOf] at hs;split at hs
  ·rename_i rw xs ho;split at hs
   ·rename_i hsz;subst hsz;simp only[qo,Prod.mk.injEq] at hs;obtain⟨rfl,rfl⟩:=hs;obtain⟨p,hp,hps,_⟩:=hv.lslInv;subst hps;exact src_lsl (h.ob id p _ hp (hH id _ ho)).1 hv hp hc
   ·cases hs
  ·cases hs
 | any=>simp[srcOf] at hs
 | ptr _ _ _=>simp[srcOf] at hs
 | agg _=>simp[srcOf] at hs
 | tup _=>simp[srcOf] at hs
 | tab _=>simp[srcOf] at hs
end
end Go.AM
namespace Go.AM
section
variable {P:Program} {T:Tab}
theorem grown_owns {w:World} {el size k cap:Nat} {z:Value} (hzs:z.cells.size=size) {xs news:List Value} (hl:(xs++news).length=k*size) (hk:k<=cap) (hcap:cap<=maxLen):
 (w.drew.alloc (.cells (xs.toArray++news.toArray++Builtin.zeroCells z.cells (cap - k)) el)).ownsRow 0 el size (.slice (some ⟨w.heap.size,0,none⟩) k cap) k (xs++news):=by
 refine⟨hl,.inr ⟨w.heap.size,cap,_,rfl,qsq _,heap_alloc_new w.drew _,hk,hcap,?_,?_⟩⟩
 ·rw[qe] at hl
  simp only[Array.size_append,List.size_toArray,size_zeroCells,hzs,hl,<-Nat.add_mul]
  congr 1
  omega
 ·simp only[Array.toList_append,append_assoc]
  rw[<-append_assoc,<-hl]
  exact List.take_left
theorem grownBy_drew_alloc (w:World) (o:Obj) (row:Option Nat):w.grownBy (w.drew.alloc o) row:=
 ⟨rfl,rfl,rfl,by simp,fun k hk _=>heap_alloc_old w.drew o k hk⟩
theorem ownsRow_take {w:World} {el size n k g cap:Nat} {us:List Value} (h:w.ownsRow 0 el size (.slice (some ⟨g,0,none⟩) n cap) n us) (hk:k<=n):
 w.ownsRow 0 el size (.slice (some ⟨g,0,none⟩) k cap) k (us.take (k*size)):=by
 obtain⟨h1,h2⟩:=h
 rcases h2 with⟨h2,_⟩ | ⟨g',cap',cur,h2,h3,h4,h5,h6,h7,h8⟩
 ·cases h2
 ·cases h2
  have hm:k*size<=n*size:=qn _ hk
  refine⟨by rw[length_take,h1,Nat.min_eq_left hm],.inr ⟨g,cap,cur,rfl,h3,h4,by omega,h6,h7,?_⟩⟩
  rw[<-h8,List.take_take,Nat.min_eq_left hm]
theorem run_bi {w:World} {o:Oper} {e:Operand->Value} {b:Builtin} {args:Array Operand} {ts:Array TypeId} (ho:o.op= .call {callee:= .builtin b,args,argTypes:=ts}):
 ∃ consts,(execOp e o).run P w=(builtin b ts o.type consts (args.map e)).run P w:=by
 refine⟨args.map fun | .const _=>true | _=>false,?_⟩
 unfold execOp
 simp only[ho,resolve,invoke,Sem.run_bind,Sem.run_pure,Result.andThen_ok]
 rfl
theorem cells_append {w:World} {X:Nat->Prop} {size:Nat} {xs ys:List (List FV)} {us news:List Value} (hxl:us.length=xs.length*size) (_: ∀ x∈ys,x.length=size)
 (h1: ∀ (i j:Nat) x y,xs[i]?=some x->x[j]?=some y-> ∃ u,us[i*size+j]?=some u/\FRd w X u y) (h2: ∀ (i j:Nat) x y,ys[i]?=some x->x[j]?=some y-> ∃ u,news[i*size+j]?=some u/\FRd w X u y):
 ∀ (i j:Nat) x y,(xs++ys)[i]?=some x->x[j]?=some y-> ∃ u,(us++news)[i*size+j]?=some u/\FRd w X u y:=by
 intro i j x y hx hy
 by_cases hi:i<xs.length
 ·rw[qi hi] at hx
  obtain⟨u,hu,hf⟩:=h1 i j x y hx hy
  exact⟨u,by rw[qi (List.getElem?_eq_some_iff.1 hu).1];exact hu,hf⟩
 ·rw[getElem?_append_right (by omega)] at hx
  obtain⟨u,hu,hf⟩:=h2 (i - xs.length) j x y hx hy
  refine⟨u,?_,hf⟩
  have hle:xs.length*size<=i*size:=qn _ (by omega)
  rw[getElem?_append_right (by omega),hxl,<-hu]
  congr 1
  rw[Nat.sub_mul]
  omega
theorem grownBy_refl (w:World) (row:Option Nat):w.grownBy w row:=⟨rfl,rfl,rfl,qp _,fun _ _ _=>rfl⟩
def EffBi (P:Program) (T:Tab) (b:Builtin) (args:Array Operand) (ts:Array TypeId):Prop:=
 ∀ {c:Ctx} {w:World} {X:Nat->Prop} {ρ:Places} {H D R:List Ob} {o:Oper} {e:Operand->Value} {ρv:Operand->PV} {r:Res},
  o.op= .call {callee:= .builtin b,args:=args,argTypes:=ts}->HRd c w X ρ (H++(D++R))->(∀ id,H.length<=id->id<H.length+D.length->ρ[id]?=some none)->(∀ x∈args,PRd w X ρ (e x) (ρv x))->
  biRes T H b ts.toList (args.toList.map ρv)=some r->r.cond->r.heap.length=H.length+D.length->OpOK c w X ρ H.length (H.length+D.length) (r.heap++R) ((execOp e o).run P w) r.val
theorem run_append_room' {w:World} (t ty e e':TypeId) (i:TypeInfo) (ht:P.underlying t=some (.slice e)) (hi:P.info? e=some i)
 (g sLen sCap:Nat) (cur:Array Value) (hg:w.heap[g]?=some (.cells cur e' (0,0)))
 (a:Addr) (m c:Nat) (news:List Value) (hl:news.length=m*i.size) (hnews: ∀ (j:Nat) u,news[j]?=some u->w.cell? (a.add j)=some u) (h1: ∀ u∈news,u.oneCell'=true)
 (hroom:sLen+m<=sCap) (hfit:sLen*i.size+news.length<=cur.size):
 (Builtin.append_ #[t,t] ty #[.slice (some ⟨g,0,none⟩) sLen sCap,.slice (some a) m c]).run P w=
  .ok (.slice (some ⟨g,0,none⟩) (sLen+m) sCap) (w.setRow g (cur.toList.take (sLen*i.size)++news++cur.toList.drop (sLen*i.size+news.length)).toArray):=by
 have hf:=run_firstCells_some (P:=P) w i.size m a m c news hl hnews
 have hst:=run_storeCells_at P g (sLen*i.size) e' news 0 cur w hg (by simpa using hfit) h1
 simp only[Nat.add_zero] at hst
 simp[Builtin.append_,run_underlying ht,sizeOf,typeInfo,hi,Builtin.lenOf,hroom,hf,Addr.add_lit,hst]
theorem run_append_none' {w:World} (t ty e:TypeId) (i:TypeInfo) (ht:P.underlying t=some (.slice e)) (hi:P.info? e=some i) (g n cap:Nat) (hnc:n<=cap):
 (Builtin.append_ #[t,t] ty #[.slice (some ⟨g,0,none⟩) n cap,.slice none 0 0]).run P w= .ok (.slice (some ⟨g,0,none⟩) n cap) w:=by
 simp[Builtin.append_,run_underlying ht,sizeOf,typeInfo,hi,Builtin.lenOf,Builtin.firstCells,hnc,storeCells]
theorem kill_append {H G:List Ob} {id:Nat} (h:id<H.length):(H++G).set id .dead=H.set id .dead++G:=by
 rw[set_append_left _ _ h]
theorem set_self {ρ:Places} {id:Nat} {p:Place} (h:ρ[id]?=some (some p)):ρ.set id (some p)=ρ:=by
 apply ext_getElem?;intro j;by_cases hj:id=j
 ·subst hj;rw[qv (List.getElem?_eq_some_iff.1 h).1,h]
 ·rw[getElem?_set_ne hj]
theorem grownBy_setRow (w:World) (g:Nat) (cs:Array Value):w.grownBy (w.setRow g cs) (some g):=
 ⟨rfl,rfl,rfl,by simp,fun k _ hk=>setRow_other w g k _ (fun e=>hk (by simp[e]))⟩
theorem arr_splice_get {cur:Array Value} {o:Nat} {vs:List Value} (h:o+vs.length<=cur.size) (i:Nat):
 (cur.toList.take o++vs++cur.toList.drop (o+vs.length)).toArray[i]?=if i<o then cur[i]? else if i<o+vs.length then vs[i - o]? else cur[i]?:=by
 have:=splice_get (l:=cur.toList) (new:=vs) (off:=o) (by simpa using h) i
 simpa [splice] using this
theorem HRd.reRow {c:Ctx} {w:World} {X:Nat->Prop} {ρ:Places} {F:List Ob} (h:HRd c w X ρ F) {id:Nat} {p:Place} {xs zs:List (List FV)} {g:Nat} (hp:ρ[id]?=some (some p)) (hob:F[id]?=some (.row true xs))
 (hgp:p.b=some g) {cur new:Array Value} (hcur:w.heap[g]?=some (.cells cur p.e (0,0))) (hsz:new.size=cur.size) (hzl:zs.length<=xs.length) (hzs: ∀ z∈zs,z.length=p.size)
 (hcells: ∀ (i j:Nat) x y,zs[i]?=some x->x[j]?=some y-> ∃ u,new[i*p.size+j]?=some u/\FRd w X u y):
 ∃ X',HRd c (w.setRow g new) X' ρ (F.set id (.row true zs))/\Stp c w (w.setRow g new) X X' ρ ρ:=by
 have hgb:=grownBy_setRow w g new
 have hnew:=setRow_heap w g cur new p.e (0,0) hcur
 obtain⟨⟨hppos,hxlen,us,hus,huc⟩,hrwX⟩:=h.ob id p _ hp hob
 have hXg:X g:=(hrwX g hgp).1 rfl
 have hown0:w.ownsRow 0 p.e p.size (.slice (some ⟨g,0,none⟩) xs.length p.cap) xs.length us:=by simpa [Place.val,hgp] using hus
 obtain⟨hul,hcase⟩:=hown0
 rcases hcase with⟨h5,_⟩ | ⟨g',cap',cur2,h5,_,hcur2,hnc,hcm,hcsz,htake⟩
 ·cases h5
 cases h5
 rw[hcur] at hcur2
 cases hcur2
 have hmul:zs.length*p.size<=xs.length*p.size:=qn _ hzl
 have hmulc:xs.length*p.size<=p.cap*p.size:=qn _ hnc
 have hown2:(w.setRow g new).ownsRow 0 p.e p.size (.slice (some ⟨g,0,none⟩) zs.length p.cap) zs.length (new.toList.take (zs.length*p.size)):=by
  refine⟨by have e9:new.toList.length=cur.size:=hsz;rw[length_take,e9,hcsz];omega,.inr ⟨g,p.cap,new,rfl,qsq _,hnew,by omega,hcm,by rw[hsz,hcsz],rfl⟩⟩
 have hput:=h.put (id:=id) (p:=p) (ob:= .row true zs) (row:=some g) (w':=w.setRow g new) (List.getElem?_eq_some_iff.1 hob).1 (.inr hp) hgb
  (by intro g' hg';cases hg';exact hXg)
  (fun j2 q o2 g2 hj2 hq ho2 hr2 hb2=>by
   have hne:g2≠g:=by
    intro he;subst he;exact hj2 (h.inj j2 id q p o2 _ g2 hq hp ho2 hob hr2 rfl hb2 hgp)
   exact⟨by simp[hne],by rw[hgp];simp;exact fun he=>hne he.symm⟩)
  (fun g2 hg2=>by rw[hgp] at hg2;cases hg2;exact .inr hXg)
  (fun g2 hg2=>by rw[hgp] at hg2;cases hg2;exact⟨(h.own id p _ g hp hob rfl hgp).1,Nat.lt_of_lt_of_le (h.own id p _ g hp hob rfl hgp).2 hgb.size⟩)
  (fun g2 hg2=>by cases hg2;exact(h.own id p _ g hp hob rfl hgp).1)
  ⟨⟨hppos,hzs,new.toList.take (zs.length*p.size),by simpa [Place.val,hgp] using hown2,by
   intro i2 k y1 y2 hy1 hy2;have hi2:i2<zs.length:=(List.getElem?_eq_some_iff.1 hy1).1;have hmul2:(i2+1)*p.size<=zs.length*p.size:=qn _ hi2;rw[Nat.add_mul] at hmul2;have hk:k<p.size:=by rw[<-hzs y1 (mem_of_getElem? hy1)];exact(List.getElem?_eq_some_iff.1 hy2).1
   obtain⟨u,hu,hf⟩:=hcells i2 k y1 y2 hy1 hy2;refine⟨u,?_,hf.mono ⟨hgb.size,fun b hb hxb=>hgb.block b hb (fun he=>hxb (by cases he;exact hXg))⟩ (fun b hb hxb=>by
    rcases hxb with hxb | hxb
    ·exact hxb
    ·rw[hgp] at hxb;cases hxb;exact hXg)⟩
   rw[getElem?_take,if_pos (by omega),Array.getElem?_toList,hu]⟩,
   fun g2 hg2=>⟨fun _=> .inr hg2,fun _=>rfl⟩⟩
 rw[set_self hp] at hput
 exact⟨_,hput.1,hput.2⟩
theorem run_append_zero {w:World} (t ty e:TypeId) (i:TypeInfo) (ht:P.underlying t=some (.slice e)) (hi:P.info? e=some i) (a:Option Addr) (n:Nat) (b:Option Addr) (c:Nat):
 (Builtin.append_ #[t,t] ty #[.slice a n n,.slice b 0 c]).run P w= .ok (.slice a n n) w:=by
 have hf:(Builtin.firstCells i.size 0 (.slice b 0 c)).run P w= .ok #[] w:=by
  cases b with
  | none=>rfl
  | some b=>exact run_firstCells_some (P:=P) w i.size 0 b 0 c [] (by simp) (by simp)
 cases a with
 | none=>simp[Builtin.append_,run_underlying ht,sizeOf,typeInfo,hi,Builtin.lenOf,hf]
 | some a=>simp[Builtin.append_,run_underlying ht,sizeOf,typeInfo,hi,Builtin.lenOf,hf,storeCells]
theorem row_nil {c:Ctx} {w:World} {X:Nat->Prop} {ρ:Places} {F:List Ob} (h:HRd c w X ρ F) {id:Nat} {p:Place} {r:Bool} {xs:List (List FV)} (hp:ρ[id]?=some (some p)) (hob:F[id]?=some (.row r xs)) (hgp:p.b=none):xs=[]:=by
 obtain⟨⟨_,_,us,hus,_⟩,_⟩:=h.ob id p _ hp hob;obtain⟨_,hcase⟩:=hus;rcases hcase with⟨_,h6⟩ | ⟨g',cap',cur2,h5,_⟩
 ·exact List.eq_nil_of_length_eq_zero h6
 ·simp[Place.val,hgp] at h5
theorem set_same {α:Type} {l:List α} {i:Nat} {x:α} (h:l[i]?=some x):l.set i x=l:=by
 apply ext_getElem?;intro j;by_cases hj:i=j
 ·subst hj;rw[qv (List.getElem?_eq_some_iff.1 h).1,h]
 ·rw[getElem?_set_ne hj]
theorem bi_append (hT:TabOk P T) (s x:Operand) (t:TypeId):EffBi P T .append #[s,x] #[t,t]:=by
 intro c w X ρ H D R o e ρv r ho h hD hρ hres hc hlen;have hs:=hρ s (by simp);have hx:=hρ x (by simp);simp only[biRes,map_cons,map_nil,if_true] at hres;split at hres;rotate_left
 ·cases hres
 rename_i i hi;split at hres;rotate_left
 ·cases hres
 rename_i el hel;have hd:=(hT _ _ hi).desc;rw[hel] at hd;simp only[TyDesc] at hd;split at hres;rotate_left
 ·cases hres
 rename_i ie hie;split at hres;rotate_left
 ·cases hres
 rename_i hpos;split at hres;rotate_left
 ·cases hres
 rename_i cd ys hsrc;obtain⟨ti,z,hti,hts,htb,hz,hzs,hil,hone,hrd⟩:=zero_rd (hT _ _ hie) (w:=w) (X:=X) (ρ:=ρ);obtain⟨consts,hrun⟩:=run_bi (P:=P) (w:=w) (e:=e) ho;have hrun2:(execOp e o).run P w=((Builtin.append_ #[t,t] o.type #[e s,e x]).run P w).andThen fun v w'=> .ok (.value v) w':=by
  rw[hrun];simp[builtin]
 have hnodead: ∀ (j:Nat) q o2 g,j≠H.length->ρ[j]?=some (some q)->(H++(D++R))[j]?=some o2->o2.rw=true->q.b=some g->some g≠none:=by
  intros;simp
 split at hres
 ·rename_i hv;rw[hv] at hs;cases hres;obtain⟨d,rfl⟩:=single (D:=D) (by simp at hlen;omega);obtain⟨hcd,hby,hmx⟩:=hc;obtain⟨hyl,hsc⟩:=src_rd h look_append hpos hx hsrc hcd;have hes:e s= .slice none 0 0:=by
   generalize e s=u at hs;cases hs;rfl
  rcases hsc with⟨hex,rfl⟩ | ⟨a,cc,news,hex,hnl,hnews,hn1,hcell⟩
  ·have hr:=run_append_owned_none (P:=P) w 0 t o.type el ti ie.size hd hti (.slice none 0 0) 0 [] (World.ownsRow_nil w 0 el ie.size);obtain⟨X',ρ',h1,h2,h3,h4⟩:=place_row (xs:=[]) (us:=[]) (size:=ie.size) (el:=el) (v:= .slice none 0 0) (row:=none) h (hD _ (qp _) (by simp)) (grownBy_refl w none) (by simp) hnodead (by simp) hpos (by simp)
    (World.ownsRow_nil w 0 el ie.size) (by simp[Value.ownBlock]) (by simp)
   refine⟨_,_,X',ρ',.inl ?_,h1,h2,h3,fun id hid=>h4 id (by simp at hid;omega)⟩;rw[hrun2,hes,hex,hr];rfl
  ·by_cases hm:ys.length=0
   ·have hy0:ys=[]:=List.eq_nil_of_length_eq_zero hm;subst hy0;obtain⟨v',w',hr,hown,hg,hiff⟩:=run_append_own (P:=P) w 0 t o.type el ti z ie.size ie.bytes hd hti hz hts htb hzs hpos (.slice none 0 0) 0 [] (World.ownsRow_nil w 0 el ie.size) a 0 cc news (by simpa using hnl) hnews hn1 (by simp[maxLen]) (by simp) (qsq _);have hv':=hiff.2 ⟨rfl,rfl⟩;have hnn:news=[]:=List.eq_nil_of_length_eq_zero (by simpa using hnl);subst hnn;obtain⟨X',ρ',h1,h2,h3,h4⟩:=place_row (xs:=[]) (us:=[]) (size:=ie.size) (el:=el) (v:=v') (row:=none) h (hD _ (qp _) (by simp)) hg (by simp) hnodead (by simp) hpos (by simp)
     (by simpa using hown) (by rw[hv'];simp[Value.ownBlock]) (by simp)
    refine⟨_,_,X',ρ',.inl ?_,h1,h2,h3,fun id hid=>h4 id (by simp at hid;omega)⟩;rw[hrun2,hes,hex];simp only[length_nil];rw[hr];rfl
   ·have hr:=run_append_nil (P:=P) w t o.type el ti z hd hti hz a ys.length cc news (by rw[hts];exact hnl) hnews (by omega) (by omega) (by rw[htb];omega);have hge:=grownCap_ge w ys.length 0 el;have hcm:=grownCap_le_maxLen w ys.length 0 el (by simp only[maxLen];omega);have hown:=grown_owns (w:=w) (el:=el) hzs (xs:=[]) (news:=news) (by simpa using hnl) hge hcm;simp only[Array.empty_append,nil_append] at hown;obtain⟨X',ρ',h1,h2,h3,h4⟩:=place_row (xs:=ys) (size:=ie.size) (el:=el) (v:= .slice (some ⟨w.heap.size,0,none⟩) ys.length (grownCap w ys.length 0 el)) (row:=none) h (hD _ (qp _) (by simp))
     (grownBy_drew_alloc w _ none) (by simp) hnodead (by simp) hpos hyl hown (by
      intro g hg;simp only[Value.ownBlock,qo] at hg;left;omega) hcell
    refine⟨_,_,X',ρ',.inl ?_,h1,h2,h3,fun id hid=>h4 id (by simp at hid;omega)⟩;rw[hrun2,hes,hex,hr];rfl
 ·rename_i xs hv;rw[hv] at hs;split at hres
  ·rename_i hno;cases hres;have hl5:H.length=H.length+D.length:=hlen;have hD0:D=[]:=List.eq_nil_of_length_eq_zero (by omega);subst hD0;have hxe: ∃ b k,e x= .slice b 0 k:=by
    unfold noneV at hno;split at hno
    ·rename_i heq;rw[heq] at hx;exact⟨_,_,hx.litInv⟩
    ·rename_i heq;rw[heq] at hx;generalize e x=u at hx;cases hx;exact⟨_,_,rfl⟩
    ·cases hno
   obtain⟨b0,k0,hex⟩:=hxe;generalize hes:e s=u at hs;have hs':=hs;cases hs with
   | clip b n _ hf=>
    refine OpOK.still (by simpa using h) (u:= .slice b n n) ?_ hs';rw[hrun2,hes,hex,run_append_zero t o.type el ti hd hti];rfl
  cases hres;obtain⟨d,rfl⟩:=single (D:=D) (by simp at hlen;omega);obtain⟨hcd,hm0,hxl,hby,hmx⟩:=hc;obtain⟨hyl,hsc⟩:=src_rd h look_append hpos hx hsrc hcd;rcases hsc with⟨_,rfl⟩ | ⟨a,cc,news,hex,hnl,hnews,hn1,hcell⟩
  ·simp at hm0
  generalize hes:e s=u at hs;cases hs with
  | clip b n _ hf=>
   have hn:xs.length=n:=by
    cases hf with
    | nil=>rfl
    | sl ad n cap s _ us hn hcap=>exact hn
   subst hn;obtain⟨_,hbase⟩:=src_frd hpos hf hxl;rcases hbase with⟨hb,rfl⟩ | ⟨a0,c0,olds,hb,hol,hold,ho1,hocell⟩
   ·have hr:=run_append_nil (P:=P) w t o.type el ti z hd hti hz a ys.length cc news (by rw[hts];exact hnl) hnews (by omega) (by omega) (by rw[htb];simp at hby;omega);have hge:=grownCap_ge w ys.length 0 el;have hcm:=grownCap_le_maxLen w ys.length 0 el (by simp only[maxLen];omega);have hown:=grown_owns (w:=w) (el:=el) hzs (xs:=[]) (news:=news) (by simpa using hnl) hge hcm;simp only[Array.empty_append,nil_append] at hown;obtain⟨X',ρ',h1,h2,h3,h4⟩:=place_row (xs:=ys) (size:=ie.size) (el:=el) (v:= .slice (some ⟨w.heap.size,0,none⟩) ys.length (grownCap w ys.length 0 el)) (row:=none) h (hD _ (qp _) (by simp))
     (grownBy_drew_alloc w _ none) (by simp) hnodead (by simp) hpos hyl hown (by
      intro g hg;simp only[Value.ownBlock,qo] at hg;left;omega) hcell
    simp only[length_nil,Nat.zero_add,nil_append] at h2 h3 ⊢;refine⟨_,_,X',ρ',.inl ?_,h1,h2,h3,fun id hid=>h4 id (by simp at hid;omega)⟩;rw[hrun2,hes,hex];rw[hb,hr];rfl
   ·cases hb;have hr:=run_append_grow (P:=P) w t o.type el ti z hd hti hz a0 xs.length xs.length olds (by rw[hts];exact hol) hold a ys.length cc news (by rw[hts];exact hnl) hnews (by omega) (by omega)
     (growslice_fits (by omega) (by rw[htb];exact hby))
    have hge:=grownCap_ge w (xs.length+ys.length) xs.length el;have hcm:=grownCap_le_maxLen w (xs.length+ys.length) xs.length el (by simp only[maxLen];omega);have hown:=grown_owns (w:=w) (el:=el) hzs (xs:=olds) (news:=news) (by rw[qe,hol,hnl,Nat.add_mul]) hge hcm;obtain⟨X',ρ',h1,h2,h3,h4⟩:=place_row (xs:=xs++ys) (size:=ie.size) (el:=el) (v:= .slice (some ⟨w.heap.size,0,none⟩) (xs.length+ys.length) (grownCap w (xs.length+ys.length) xs.length el)) (row:=none) h (hD _ (qp _) (by simp))
     (grownBy_drew_alloc w _ none) (by simp) hnodead (by simp) hpos (by
      intro y hy;rw[qr] at hy;rcases hy with hy | hy
      ·exact hxl y hy
      ·exact hyl y hy) (by rw[qe];exact hown) (by
      intro g hg;simp only[Value.ownBlock,qo] at hg;left;omega) (cells_append hol hyl hocell hcell)
    rw[qe] at h3;refine⟨_,_,X',ρ',.inl ?_,h1,h2,h3,fun id hid=>h4 id (by simp at hid;omega)⟩;rw[hrun2,hes,hex,hr];rfl
 ·rename_i id len sz hv;rw[hv] at hs;split at hres;rotate_left
  ·cases hres
  rename_i xs hob;split at hres;rotate_left
  ·cases hres
  rename_i hsz;subst hsz;split at hres
  ·rename_i hself;cases hres;have hl5:(H.set id (Ob.row true (xs.take len++ys++xs.drop (len+ys.length)))).length=H.length+D.length:=hlen;rw[qkb] at hl5;have hD0:D=[]:=List.eq_nil_of_length_eq_zero (by omega);subst hD0;obtain⟨hcd,hroom⟩:=hc;obtain⟨hyl,hsc⟩:=src_rd h look_append hpos hx hsrc hcd;obtain⟨p,hp,hps,hcase⟩:=hs.lslInv;have hidl:id<H.length:=(List.getElem?_eq_some_iff.1 hob).1;have hfull:(H++([]++R))[id]?=some (.row true xs):=look_append id _ hob;have hFs: ∀ ob,(H++([]++R)).set id ob=H.set id ob++R:=fun ob=>by rw[nil_append,set_append_left _ _ hidl]
   rcases hcase with⟨hg,hes,_,rfl⟩ | ⟨g,og,hg,hes,hl2,hoo⟩
   ·have hx0:=row_nil h hp hfull hg;subst hx0;have hy0:ys=[]:=List.eq_nil_of_length_eq_zero (by rw[length_nil] at hroom;omega);subst hy0;have hid:H.set id (.row true (List.take 0 ([]:List (List FV))++([]:List (List FV))++List.drop (0+List.length ([]:List (List FV))) ([]:List (List FV))))=H:=set_same hob;show OpOK c w X ρ H.length (H.length+([]:List Ob).length) (H.set id (.row true (List.take 0 ([]:List (List FV))++([]:List (List FV))++List.drop (0+List.length ([]:List (List FV))) ([]:List (List FV))))++R) _ _;rw[hid];refine OpOK.still (by simpa using h) (u:= .slice none 0 0) ?_ (by rw[<-hps];exact .lsl0 id p hp hg);rcases hsc with⟨hex,_⟩ | ⟨a,cc,news,hex,hnl,hnews,hn1,hcell⟩
    ·have hr:=run_append_owned_none (P:=P) w 0 t o.type el ti ie.size hd hti (.slice none 0 0) 0 [] (World.ownsRow_nil w 0 el ie.size);rw[hrun2,hes,hex,hr];rfl
    ·rw[hrun2,hes,hex,length_nil,run_append_zero t o.type el ti hd hti];rfl
   ·have hog:og=0:=by
     rcases hoo with hoo | hoo
     ·rw[hoo];simp
     ·exact absurd rfl hoo.2
    subst hog;simp only[Nat.sub_zero] at hes;obtain⟨⟨hppos,hxlen,us,hus,huc⟩,hrwX⟩:=h.ob id p _ hp hfull;have hown0:w.ownsRow 0 p.e p.size (.slice (some ⟨g,0,none⟩) xs.length p.cap) xs.length us:=by simpa [Place.val,hg] using hus
    have hzl:(xs.take len++ys++xs.drop (len+ys.length)).length=xs.length:=by simp;omega
    have hzs: ∀ z∈xs.take len++ys++xs.drop (len+ys.length),z.length=p.size:=by
     intro z hz;rw[qr,qr] at hz;rcases hz with(hz | hz) | hz
     ·exact hxlen z (qfb hz)
     ·rw[hyl z hz,hps]
     ·exact hxlen z (mem_of_mem_drop hz)
    obtain⟨hul,hcase⟩:=hown0;rcases hcase with⟨h5,_⟩ | ⟨g',cap',cur,h5,_,hcur,hnc,hcm,hcsz,htake⟩
    ·cases h5
    cases h5;rcases hsc with⟨hex,rfl⟩ | ⟨a,cc,news,hex,hnl,hnews,hn1,hcell⟩
    ·have hr:=run_append_none' (P:=P) (w:=w) t o.type el ti hd hti g len p.cap (by simp at hroom;omega);simp only[length_nil,Nat.add_zero,List.append_nil,List.take_append_drop] at hzl hzs ⊢;rw[set_same hob];refine OpOK.still (by simpa using h) (u:= .slice (some ⟨g,0,none⟩) len p.cap) (by rw[hrun2,hes,hex,hr];rfl) ?_;have hv2:=hs;rw[hes] at hv2;exact hv2
    ·have hfit0:(len+ys.length)*ie.size<=cur.size:=by rw[hcsz,hps];exact qn _ (by omega)
     have hfit:len*ti.size+news.length<=cur.size:=by rw[hts,hnl,<-Nat.add_mul];exact hfit0
     have hr:=run_append_room' (P:=P) (w:=w) t o.type el p.e ti hd hti g len p.cap cur hcur a ys.length cc news (by rw[hts];exact hnl) hnews hn1 (by omega) hfit;have hget:=fun k=>arr_splice_get (cur:=cur) (o:=len*ti.size) (vs:=news) hfit k
     generalize hnew:(cur.toList.take (len*ti.size)++news++cur.toList.drop (len*ti.size+news.length)).toArray=new at hr hget;have hnsz:new.size=cur.size:=by
      rw[<-hnew];simp only[List.size_toArray,qe,length_take,length_drop,Array.length_toList];omega
     have hcs: ∀ (i j:Nat) x y,xs[i]?=some x->x[j]?=some y-> ∃ u,cur[i*p.size+j]?=some u/\FRd w X u y:=by
      intro i j x y hx1 hy1;obtain⟨u,hu,hf⟩:=huc i j x y hx1 hy1;rw[<-htake,getElem?_take] at hu;split at hu
      ·exact⟨u,by rw[<-hu,Array.getElem?_toList],hf⟩
      ·cases hu
     have hjlt: ∀ (i j:Nat) z y,(xs.take len++ys++xs.drop (len+ys.length))[i]?=some z->z[j]?=some y->j<p.size:=by
      intro i j z y hz hy;rw[<-hzs z (mem_of_getElem? hz)];exact(List.getElem?_eq_some_iff.1 hy).1
     obtain⟨X',h1,h2⟩:=h.reRow hp hfull hg hcur hnsz (zs:=xs.take len++ys++xs.drop (len+ys.length)) (by omega) hzs (by
      intro i j z y hz hy;have hj:=hjlt i j z y hz hy;have htl:(xs.take len).length=len:=by rw[length_take];omega
      rw[hts,<-hps] at hget;rw[hnl,<-hps] at hget;by_cases h7:i<len
      ·rw[append_assoc,qi (by omega),getElem?_take,if_pos h7] at hz;obtain⟨u,hu,hf⟩:=hcs i j z y hz hy;have h8:(i+1)*p.size<=len*p.size:=qn _ h7;rw[Nat.add_mul] at h8;exact⟨u,by rw[hget,if_pos (by omega)];exact hu,hf⟩
      ·have h8:len*p.size<=i*p.size:=qn _ (by omega);by_cases h9:i<len+ys.length
       ·rw[qi (by rw[qe];omega),getElem?_append_right (by omega),htl] at hz;obtain⟨u,hu,hf⟩:=hcell (i - len) j z y hz hy;have h10:(i - len+1)*p.size<=ys.length*p.size:=qn _ (by omega);rw[Nat.add_mul,Nat.sub_mul] at h10;refine⟨u,?_,hf⟩;rw[hget,if_neg (by omega),if_pos (by omega)];rw[<-hps,Nat.sub_mul] at hu;rw[<-hu];congr 1;omega
       ·rw[getElem?_append_right (by rw[qe];omega),qe,htl,List.getElem?_drop,show len+ys.length+(i - (len+ys.length))=i by omega] at hz;obtain⟨u,hu,hf⟩:=hcs i j z y hz hy;have h10:(len+ys.length)*p.size<=i*p.size:=qn _ (by omega);rw[Nat.add_mul] at h10;exact⟨u,by rw[hget,if_neg (by omega),if_neg (by omega)];exact hu,hf⟩)
     rw[hFs] at h1;refine⟨.slice (some ⟨g,0,none⟩) (len+ys.length) p.cap,w.setRow g new,X',ρ,.inl ?_,h2,h1,?_,fun _ _=>rfl⟩
     ·rw[hrun2,hes,hex,hr];rfl
     ·have:=PRd.lsl (w:=w.setRow g new) (X:=X') (ρ:=ρ) id 0 (len+ys.length) 0 g p hp hg (by omega) (.inl (by simp));rw[<-hps];simpa using this
  cases hres;obtain⟨d,rfl⟩:=single (D:=D) (by simp at hlen;omega);obtain⟨hcd,hlx,hby,hmx⟩:=hc;obtain⟨hyl,hsc⟩:=src_rd h look_append hpos hx hsrc hcd;obtain⟨p,hp,hps,hcase⟩:=hs.lslInv;have hidl:id<H.length:=(List.getElem?_eq_some_iff.1 hob).1;have hfull:=look_append (G:=[d]++R) id _ hob;obtain⟨⟨_,hxlen,us,hus,huc⟩,hrwX⟩:=h.ob id p _ hp hfull;have hkill:=h.kill id;rw[kill_append hidl] at hkill;have hlk:(H.set id .dead).length=H.length:=by simp
  have hρ':ρ[(H.set id Ob.dead).length]?=some none:=by rw[hlk];exact hD _ (qp _) (by simp)
  have htl: ∀ y∈xs.take len++ys,y.length=ie.size:=by
   intro y hy;rw[qr] at hy;rcases hy with hy | hy
   ·rw[hxlen y (qfb hy),hps]
   ·exact hyl y hy
  have htlen:(xs.take len++ys).length=len+ys.length:=by simp;omega
  rcases hcase with⟨hg,hes,_,rfl⟩ | ⟨g,og,hg,hes,hl2,hoo⟩
  ·rw[List.take_zero,nil_append] at htl;simp only[List.take_zero,nil_append,Nat.zero_add] at hby hmx ⊢;rcases hsc with⟨hex,rfl⟩ | ⟨a,cc,news,hex,hnl,hnews,hn1,hcell⟩
   ·have hr:=run_append_owned_none (P:=P) w 0 t o.type el ti ie.size hd hti (.slice none 0 0) 0 [] (World.ownsRow_nil w 0 el ie.size);obtain⟨X',ρ',h1,h2,h3,h4⟩:=place_row (xs:=[]) (us:=[]) (size:=ie.size) (el:=el) (v:= .slice none 0 0) (row:=none) hkill hρ' (grownBy_refl w none) (by simp) (by intros;simp) (by simp) hpos (by simp)
     (World.ownsRow_nil w 0 el ie.size) (by simp[Value.ownBlock]) (by simp)
    rw[hlk] at h3 h4;refine⟨_,_,X',ρ',.inl ?_,h1,h2,h3,fun id hid=>h4 id (by simp at hid;omega)⟩;rw[hrun2,hes,hex,hr];rfl
   ·by_cases hm:ys.length=0
    ·have hy0:ys=[]:=List.eq_nil_of_length_eq_zero hm;subst hy0;obtain⟨v',w',hr,hown,hg,hiff⟩:=run_append_own (P:=P) w 0 t o.type el ti z ie.size ie.bytes hd hti hz hts htb hzs hpos (.slice none 0 0) 0 [] (World.ownsRow_nil w 0 el ie.size) a 0 cc news (by simpa using hnl) hnews hn1 (by simp[maxLen]) (by simp) (qsq _);have hv':=hiff.2 ⟨rfl,rfl⟩;have hnn:news=[]:=List.eq_nil_of_length_eq_zero (by simpa using hnl);subst hnn;obtain⟨X',ρ',h1,h2,h3,h4⟩:=place_row (xs:=[]) (us:=[]) (size:=ie.size) (el:=el) (v:=v') (row:=none) hkill hρ' hg (by simp) (by intros;simp) (by simp) hpos (by simp)
      (by simpa using hown) (by rw[hv'];simp[Value.ownBlock]) (by simp)
     rw[hlk] at h3 h4;refine⟨_,_,X',ρ',.inl ?_,h1,h2,h3,fun id hid=>h4 id (by simp at hid;omega)⟩;rw[hrun2,hes,hex];simp only[length_nil];rw[hr];rfl
    ·have hr:=run_append_nil (P:=P) w t o.type el ti z hd hti hz a ys.length cc news (by rw[hts];exact hnl) hnews (by omega) (by omega) (by rw[htb];omega);have hge:=grownCap_ge w ys.length 0 el;have hcm:=grownCap_le_maxLen w ys.length 0 el (by simp only[maxLen];omega);have hown:=grown_owns (w:=w) (el:=el) hzs (xs:=[]) (news:=news) (by simpa using hnl) hge hcm;simp only[Array.empty_append,nil_append] at hown;obtain⟨X',ρ',h1,h2,h3,h4⟩:=place_row (xs:=ys) (size:=ie.size) (el:=el) (v:= .slice (some ⟨w.heap.size,0,none⟩) ys.length (grownCap w ys.length 0 el)) (row:=none) hkill hρ'
      (grownBy_drew_alloc w _ none) (by simp) (by intros;simp) (by simp) hpos hyl hown (by
       intro g hg;simp only[Value.ownBlock,qo] at hg;left;omega) hcell
     rw[hlk] at h3 h4;refine⟨_,_,X',ρ',.inl ?_,h1,h2,h3,fun id hid=>h4 id (by simp at hid;omega)⟩;rw[hrun2,hes,hex,hr];rfl
  ·have hog:og=0:=by
    rcases hoo with hoo | hoo
    ·rw[hoo];simp
    ·exact absurd rfl hoo.2
   subst hog;simp only[Nat.sub_zero] at hes;have hown0:w.ownsRow 0 p.e p.size (.slice (some ⟨g,0,none⟩) xs.length p.cap) xs.length us:=by simpa [Place.val,hg] using hus
   have hown1:=ownsRow_take hown0 hlx;rw[hps] at hown1 hown0;have hucell: ∀ (i j:Nat) x y,(xs.take len)[i]?=some x->x[j]?=some y-> ∃ u,(us.take (len*ie.size))[i*ie.size+j]?=some u/\FRd w X u y:=by
    intro i j x y hx hy;rw[getElem?_take] at hx;split at hx
    ·rename_i hil;obtain⟨u,hu,hf⟩:=huc i j x y hx hy;rw[hps] at hu;have hj:j<ie.size:=by rw[<-hps,<-hxlen x (mem_of_getElem? hx)];exact(List.getElem?_eq_some_iff.1 hy).1
     have h1:(i+1)*ie.size<=len*ie.size:=qn _ hil;rw[Nat.add_mul] at h1;exact⟨u,by rw[getElem?_take,if_pos (by omega)];exact hu,hf⟩
    ·cases hx
   have hul:(us.take (len*ie.size)).length=(xs.take len).length*ie.size:=by
    rw[hown1.1,length_take,Nat.min_eq_left hlx]
   have hXg:X g:=(hrwX g hg).1 rfl;have hotherg: ∀ (j:Nat) q o2 g2,j≠(H.set id Ob.dead).length->ρ[j]?=some (some q)->(H.set id .dead++([d]++R))[j]?=some o2->o2.rw=true->q.b=some g2->some g2≠some g:=by
    intro j q o2 g2 _ hq ho2 hr2 hb2 he;cases he;by_cases hj:id=j
    ·subst hj;rw[qi (by simpa using hidl),qv hidl] at ho2;cases ho2;cases hr2
    ·have ho3:(H++([d]++R))[j]?=some o2:=by
      rw[<-kill_append hidl,getElem?_set_ne hj] at ho2;exact ho2
     exact hj (h.inj id j p q _ o2 g hp hq hfull ho3 rfl hr2 hg hb2)
   rcases hsc with⟨hex,rfl⟩ | ⟨a,cc,news,hex,hnl,hnews,hn1,hcell⟩
   ·have hr:=run_append_none' (P:=P) (w:=w) t o.type el ti hd hti g len p.cap (by omega);simp only[List.append_nil,length_nil,Nat.add_zero] at htl htlen ⊢;obtain⟨X',ρ',h1,h2,h3,h4⟩:=place_row (xs:=xs.take len) (size:=ie.size) (el:=p.e) (v:= .slice (some ⟨g,0,none⟩) len p.cap) (row:=some g) hkill hρ' (grownBy_refl w (some g)) (by intro g' hg';cases hg';exact hXg)
     hotherg (by intro g' hg';cases hg';exact(h.own id p _ g hp hfull rfl hg).1) hpos htl (by rw[htlen];exact hown1) (by intro g' hg';simp only[Value.ownBlock,qo] at hg';right;rw[hg']) hucell
    rw[hlk] at h3 h4;rw[htlen] at h3;refine⟨_,_,X',ρ',.inl ?_,h1,h2,h3,fun id hid=>h4 id (by simp at hid;omega)⟩;rw[hrun2,hes,hex,hr];rfl
   ·by_cases hroom:len+ys.length<=p.cap
    ·obtain⟨hl1,hcase⟩:=hown1;rcases hcase with⟨h5,_⟩ | ⟨g',cap',cur,h5,_,hcur,hnc,hcm,hcs,htake⟩
     ·cases h5
     cases h5;have hfit:len*ti.size+news.length<=cur.size:=by rw[hts,hnl,hcs,<-Nat.add_mul];exact qn _ hroom
     have hr:=run_append_room' (P:=P) (w:=w) t o.type el p.e ti hd hti g len p.cap cur hcur a ys.length cc news (by rw[hts];exact hnl) hnews hn1 hroom hfit;have hown2:(w.setRow g (cur.toList.take (len*ti.size)++news++cur.toList.drop (len*ti.size+news.length)).toArray).ownsRow 0 p.e ie.size (.slice (some ⟨g,0,none⟩) (len+ys.length) p.cap) (len+ys.length) (us.take (len*ie.size)++news):=by
      have hlen2:(us.take (len*ie.size)++news).length=(len+ys.length)*ie.size:=by rw[qe,hl1,hnl,Nat.add_mul]
      refine⟨hlen2,.inr ⟨g,p.cap,_,rfl,qsq _,setRow_heap w g cur _ p.e _ hcur,hroom,hcm,?_,?_⟩⟩
      ·rw[hts] at hfit ⊢;simp only[List.size_toArray,qe,length_take,length_drop,Array.length_toList];omega
      ·rw[hts,htake,<-hlen2];exact List.take_left
     have hgb:w.grownBy (w.setRow g (cur.toList.take (len*ti.size)++news++cur.toList.drop (len*ti.size+news.length)).toArray) (some g):=
      ⟨rfl,rfl,rfl,by simp,fun k _ hk=>setRow_other w g k _ (fun e=>hk (by simp[e]))⟩
     obtain⟨X',ρ',h1,h2,h3,h4⟩:=place_row (xs:=xs.take len++ys) (size:=ie.size) (el:=p.e) (v:= .slice (some ⟨g,0,none⟩) (len+ys.length) p.cap) (row:=some g) hkill hρ'
      hgb (by intro g' hg';cases hg';exact hXg)
      hotherg (by intro g' hg';cases hg';exact(h.own id p _ g hp hfull rfl hg).1) hpos htl (by rw[htlen];exact hown2) (by intro g' hg';simp only[Value.ownBlock,qo] at hg';right;rw[hg']) (cells_append hul hyl hucell hcell)
     rw[hlk] at h3 h4;rw[htlen] at h3;refine⟨_,_,X',ρ',.inl ?_,h1,h2,h3,fun id hid=>h4 id (by simp at hid;omega)⟩;rw[hrun2,hes,hex,hr];rfl
    ·have hcells: ∀ (j:Nat) v,(us.take (len*ie.size))[j]?=some v->w.cell? ((⟨g,0,none⟩:Addr).add j)=some v:=hown1.cells (g:=g) rfl;have hr:=run_append_grow (P:=P) w t o.type el ti z hd hti hz ⟨g,0,none⟩ len p.cap (us.take (len*ie.size)) (by rw[hts];exact hown1.1) hcells a ys.length cc news (by rw[hts];exact hnl) hnews (by omega) (by omega)
      (growslice_fits (by omega) (by rw[htb];exact hby))
     have hge:=grownCap_ge w (len+ys.length) p.cap el;have hcm:=grownCap_le_maxLen w (len+ys.length) p.cap el (by simp only[maxLen];omega);have hown:=grown_owns (w:=w) (el:=el) hzs (xs:=us.take (len*ie.size)) (news:=news) (by rw[qe,hown1.1,hnl,Nat.add_mul]) hge hcm;obtain⟨X',ρ',h1,h2,h3,h4⟩:=place_row (xs:=xs.take len++ys) (size:=ie.size) (el:=el) (v:= .slice (some ⟨w.heap.size,0,none⟩) (len+ys.length) (grownCap w (len+ys.length) p.cap el)) (row:=none) hkill hρ'
      (grownBy_drew_alloc w _ none) (by simp) (by intros;simp) (by simp) hpos htl (by rw[htlen];exact hown) (by
       intro g hg;simp only[Value.ownBlock,qo] at hg;left;omega) (cells_append hul hyl hucell hcell)
     rw[hlk] at h3 h4;rw[htlen] at h3;refine⟨_,_,X',ρ',.inl ?_,h1,h2,h3,fun id hid=>h4 id (by simp at hid;omega)⟩;rw[hrun2,hes,hex,hr];rfl
 ·cases hres
end
end Go.AM
namespace Go.AM
section
variable {P:Program} {T:Tab}
theorem bi_len (hT:TabOk P T) (s:Operand) (t:TypeId):EffBi P T .len #[s] #[t]:=by
 intro c w X ρ H D R o e ρv r ho h hD hρ hres hc hlen;have hs:=hρ s (by simp);simp only[biRes,map_cons,map_nil] at hres;split at hres;rotate_left
 ·cases hres
 rename_i i hi;have hd:=(hT _ _ hi).desc;obtain⟨consts,hrun⟩:=run_bi (P:=P) (w:=w) (e:=e) ho;have hrun2:(execOp e o).run P w=((Builtin.len_ #[t] o.type #[e s]).run P w).andThen fun v w'=> .ok (.value v) w':=by
  rw[hrun];simp[builtin]
 split at hres
 ·rename_i el hel;rw[hel] at hd;simp only[TyDesc] at hd;split at hres;rotate_left
  ·cases hres
  rename_i n hn;cases hres;have hd0:D=[]:=List.eq_nil_of_length_eq_zero (by simp at hlen;simpa using hlen);subst hd0;have hsl: ∃ b cap,e s= .slice b n cap:=by
   generalize e s=u at hs;generalize ρv s=v at hs hn;cases hs with
   | fv _ _ hf=>cases hf with
    | nil=>simp[lenOf] at hn;subst hn;exact⟨_,_,rfl⟩
    | sl ad m cap s xs us hxs=>simp only[lenOf,qo] at hn;subst hn;rw[hxs];exact⟨_,_,rfl⟩
    | lit v _=>simp[lenOf] at hn
    | fp=>simp[lenOf] at hn
    | fn=>simp[lenOf] at hn
   | nilsl=>simp[lenOf] at hn;subst hn;exact⟨_,_,rfl⟩
   | clip a m xs hf=>cases hf with
    | nil=>simp[lenOf] at hn;subst hn;exact⟨_,_,rfl⟩
    | sl ad m cap s xs us hxs=>simp only[lenOf,qo] at hn;subst hn;rw[hxs];exact⟨_,_,rfl⟩
   | lsl0=>simp[lenOf] at hn;subst hn;exact⟨_,_,rfl⟩
   | lsl=>simp[lenOf] at hn;subst hn;exact⟨_,_,rfl⟩
   | any=>simp[lenOf] at hn
   | ptr=>simp[lenOf] at hn
   | agg=>simp[lenOf] at hn
   | tup=>simp[lenOf] at hn
   | tab=>simp[lenOf] at hn
  obtain⟨b,cap,hes⟩:=hsl;exact OpOK.still h (u:= .int .i64 n) (by rw[hrun2,hes];simp[Builtin.len_,run_underlying hd,goInt]) (.fv _ _ (.lit _ rfl))
 ·rename_i n el hel;rw[hel] at hd;simp only[TyDesc] at hd;cases hres;have hd0:D=[]:=List.eq_nil_of_length_eq_zero (by simp at hlen;simpa using hlen);subst hd0;exact OpOK.still h (u:= .int .i64 n) (by rw[hrun2];simp[Builtin.len_,run_underlying hd,goInt]) (.fv _ _ (.lit _ rfl))
 ·rename_i hel;rw[hel] at hd;simp only[TyDesc] at hd;split at hres;rotate_left
  ·cases hres
  rename_i str hv;cases hres;have hd0:D=[]:=List.eq_nil_of_length_eq_zero (by simp at hlen;simpa using hlen);subst hd0;rw[hv] at hs;have hes:=hs.litInv;exact OpOK.still h (u:= .int .i64 str.size) (by rw[hrun2,hes];simp[Builtin.len_,run_underlying hd,goInt]) (.fv _ _ (.lit _ rfl))
 ·cases hres
theorem binInts_rd {w:World} {X:Nat->Prop} {ρ:Places} {u v:Value} {x y:PV} {k:IntKind} {a b:Int} (h:binInts x y=some (k,a,b)) (hu:PRd w X ρ u x) (hv:PRd w X ρ v y):u= .int k a/\v= .int k b:=by
 unfold binInts at h;split at h
 ·split at h
  ·rename_i hk;subst hk;cases h;exact⟨hu.litInv,hv.litInv⟩
  ·cases h
 ·cases h
theorem bi_max (x y:Operand) (t t':TypeId):EffBi P T .max #[x,y] #[t,t']:=by
 intro c w X ρ H D R o e ρv r ho h hD hρ hres hc hlen;have hx:=hρ x (by simp);have hy:=hρ y (by simp);obtain⟨consts,hrun⟩:=run_bi (P:=P) (w:=w) (e:=e) ho;simp only[biRes,map_cons,map_nil] at hres;split at hres;rotate_left
 ·cases hres
 rename_i k a b hb;cases hres;have hd0:D=[]:=List.eq_nil_of_length_eq_zero (by simp at hlen;simpa using hlen);subst hd0;obtain⟨e1,e2⟩:=binInts_rd hb hx hy;exact OpOK.still h (u:= .int k (if b>a then b else a)) (by rw[hrun];simp[builtin,Builtin.max_,Builtin.max2,e1,e2]) (.fv _ _ (.lit _ rfl))
theorem bi_min (x y:Operand) (t t':TypeId):EffBi P T .min #[x,y] #[t,t']:=by
 intro c w X ρ H D R o e ρv r ho h hD hρ hres hc hlen;have hx:=hρ x (by simp);have hy:=hρ y (by simp);obtain⟨consts,hrun⟩:=run_bi (P:=P) (w:=w) (e:=e) ho;simp only[biRes,map_cons,map_nil] at hres;split at hres;rotate_left
 ·cases hres
 rename_i k a b hb;cases hres;have hd0:D=[]:=List.eq_nil_of_length_eq_zero (by simp at hlen;simpa using hlen);subst hd0;obtain⟨e1,e2⟩:=binInts_rd hb hx hy;exact OpOK.still h (u:= .int k (if b<a then b else a)) (by rw[hrun];simp[builtin,Builtin.min_,Builtin.min2,e1,e2]) (.fv _ _ (.lit _ rfl))
theorem HRd.shrink {c:Ctx} {w w':World} {X:Nat->Prop} {ρ:Places} {F:List Ob} (h:HRd c w X ρ F) {id:Nat} {p:Place} {xs:List (List FV)} {n g:Nat} (hp:ρ[id]?=some (some p)) (hob:F[id]?=some (.row true xs)) (hn:n<=xs.length)
 (hgp:p.b=some g) (hgb:w.grownBy w' (some g)) {cur new:Array Value} (hcur:w.heap[g]?=some (.cells cur p.e (0,0))) (hnew:w'.heap[g]?=some (.cells new p.e (0,0))) (hsz:new.size=cur.size) (hsame: ∀ (k:Nat),k<n*p.size->new[k]?=cur[k]?):
 ∃ X',HRd c w' X' ρ (F.set id (.row true (xs.take n)))/\Stp c w w' X X' ρ ρ:=by
 obtain⟨⟨hppos,hxlen,us,hus,huc⟩,hrwX⟩:=h.ob id p _ hp hob
 have hXg:X g:=(hrwX g hgp).1 rfl
 have hown0:w.ownsRow 0 p.e p.size (.slice (some ⟨g,0,none⟩) xs.length p.cap) xs.length us:=by simpa [Place.val,hgp] using hus
 obtain⟨hul,hcase⟩:=hown0
 rcases hcase with⟨h5,_⟩ | ⟨g',cap',cur2,h5,_,hcur2,hnc,hcm,hcsz,htake⟩
 ·cases h5
 cases h5
 rw[hcur] at hcur2
 cases hcur2
 have hmul:n*p.size<=xs.length*p.size:=qn _ hn
 have hmulc:xs.length*p.size<=p.cap*p.size:=qn _ hnc
 have hown2:w'.ownsRow 0 p.e p.size (.slice (some ⟨g,0,none⟩) n p.cap) n (new.toList.take (n*p.size)):=by
  refine⟨by have e9:new.toList.length=cur.size:=hsz;rw[length_take,e9,hcsz];omega,.inr ⟨g,p.cap,new,rfl,qsq _,hnew,by omega,hcm,by rw[hsz,hcsz],rfl⟩⟩
 have hl2:(xs.take n).length=n:=by rw[length_take];omega
 have hput:=h.put (id:=id) (p:=p) (ob:= .row true (xs.take n)) (row:=some g) (w':=w') (List.getElem?_eq_some_iff.1 hob).1 (.inr hp) hgb
  (by intro g' hg';cases hg';exact hXg)
  (fun j2 q o2 g2 hj2 hq ho2 hr2 hb2=>by
   have hne:g2≠g:=by
    intro he;subst he;exact hj2 (h.inj j2 id q p o2 _ g2 hq hp ho2 hob hr2 rfl hb2 hgp)
   exact⟨by simp[hne],by rw[hgp];simp;exact fun he=>hne he.symm⟩)
  (fun g2 hg2=>by rw[hgp] at hg2;cases hg2;exact .inr hXg)
  (fun g2 hg2=>by rw[hgp] at hg2;cases hg2;exact⟨(h.own id p _ g hp hob rfl hgp).1,Nat.lt_of_lt_of_le (h.own id p _ g hp hob rfl hgp).2 hgb.size⟩)
  (fun g2 hg2=>by cases hg2;exact(h.own id p _ g hp hob rfl hgp).1)
  ⟨⟨hppos,fun x hx=>hxlen x (qfb hx),new.toList.take (n*p.size),by rw[hl2];simpa [Place.val,hgp] using hown2,by
   intro i2 k y1 y2 hy1 hy2;have hi2:i2<n:=by have:=(List.getElem?_eq_some_iff.1 hy1).1;rw[hl2] at this;exact this
   rw[getElem?_take,if_pos hi2] at hy1;have hmul2:(i2+1)*p.size<=n*p.size:=qn _ hi2;rw[Nat.add_mul] at hmul2;have hk:k<p.size:=by rw[<-hxlen y1 (mem_of_getElem? hy1)];exact(List.getElem?_eq_some_iff.1 hy2).1
   obtain⟨u,hu,hf⟩:=huc i2 k y1 y2 hy1 hy2;refine⟨u,?_,hf.mono ⟨hgb.size,fun b hb hxb=>hgb.block b hb (fun he=>hxb (by cases he;exact hXg))⟩ (fun b hb hxb=>by
    rcases hxb with hxb | hxb
    ·exact hxb
    ·rw[hgp] at hxb;cases hxb;exact hXg)⟩
   rw[<-htake,getElem?_take,if_pos (by omega),Array.getElem?_toList] at hu;rw[getElem?_take,if_pos (by omega),Array.getElem?_toList,hsame _ (by omega),hu]⟩,
   fun g2 hg2=>⟨fun _=> .inr hg2,fun _=>rfl⟩⟩
 rw[set_self hp] at hput
 exact⟨_,hput.1,hput.2⟩
theorem bi_clear (hT:TabOk P T) (x:Operand) (t:TypeId):EffBi P T .clear #[x] #[t]:=by
 intro c w X ρ H D R o e ρv r ho h hD hρ hres hc hlen;have hx:=hρ x (by simp);simp only[biRes,map_cons,map_nil] at hres;split at hres;rotate_left
 ·cases hres
 rename_i i hi;split at hres;rotate_left
 ·cases hres
 rename_i el hel;have hd:=(hT _ _ hi).desc;rw[hel] at hd;simp only[TyDesc] at hd;split at hres;rotate_left
 ·cases hres
 rename_i ie hie;split at hres;rotate_left
 ·cases hres
 rename_i id off len s hv;split at hres;rotate_left
 ·cases hres
 rename_i xs hob;split at hres;rotate_left
 ·cases hres
 rename_i hs;cases hres;obtain⟨ti,z,hti,hts,htb,hz,hzs,hil,hone,hrd⟩:=zero_rd (hT _ _ hie) (w:=w) (X:=X) (ρ:=ρ);obtain⟨consts,hrun⟩:=run_bi (P:=P) (w:=w) (e:=e) ho;have hrun2:(execOp e o).run P w=((Builtin.clear_ #[t] o.type #[e x]).run P w).andThen fun v w'=> .ok (.value v) w':=by
  rw[hrun];simp[builtin]
 have hl5:(H.set id (Ob.row true (xs.take off))).length=H.length+D.length:=hlen;rw[qkb] at hl5;have hd0:D=[]:=List.eq_nil_of_length_eq_zero (by omega);subst hd0;have hidl:=(List.getElem?_eq_some_iff.1 hob).1;have hfull:(H++([]++R))[id]?=some (.row true xs):=look_append id _ hob;have hFs:(H++([]++R)).set id (.row true (xs.take off))=H.set id (.row true (xs.take off))++R:=by
  rw[nil_append,set_append_left _ _ hidl]
 rw[hv] at hx;generalize hue:e x=u at hx;cases hx with
 | lsl0 _ p hp hgp=>
  have h0:H.set id (Ob.row true (xs.take 0))=H:=by
   obtain⟨⟨_,_,us,hus,_⟩,_⟩:=h.ob id p _ hp hfull;have hx0:xs=[]:=by
    obtain⟨_,hcase⟩:=hus;rcases hcase with⟨_,h6⟩ | ⟨g',cap',cur2,h5,_⟩
    ·exact List.eq_nil_of_length_eq_zero h6
    ·simp[Place.val,hgp] at h5
   subst hx0;apply ext_getElem?;intro j;by_cases hj:id=j
   ·subst hj;rw[qv hidl,hob];rfl
   ·rw[getElem?_set_ne hj]
  show OpOK c w X ρ H.length (H.length+([]:List Ob).length) (H.set id (Ob.row true (xs.take 0))++R) _ _;rw[h0];exact OpOK.still (by simpa using h) (u:= .tuple #[]) (by rw[hrun2,hue];simp[Builtin.clear_,run_underlying hd]) (.tup #[] [] rfl (by simp))
 | lsl _ _ _ oo g p hp hgp hl hoo=>
  have hcl:off+len<=xs.length:=hc;obtain⟨⟨hppos,hxlen,us,hus,huc⟩,hrwX⟩:=h.ob id p _ hp hfull;have hown0:w.ownsRow 0 p.e p.size (.slice (some ⟨g,0,none⟩) xs.length p.cap) xs.length us:=by simpa [Place.val,hgp] using hus
  obtain⟨hul,hcase⟩:=hown0;rcases hcase with⟨h5,_⟩ | ⟨g',cap',cur,h5,_,hcur,hnc,hcm,hcsz,htake⟩
  ·cases h5
  cases h5;by_cases hlen0:len=0
  ·subst hlen0;obtain⟨X',h1,h2⟩:=h.shrink hp hfull (n:=off) (by omega) hgp (w':=w) (grownBy_refl w (some g)) hcur hcur rfl (fun _ _=>rfl);rw[hFs] at h1;refine⟨.tuple #[],w,X',ρ,.inl (by rw[hrun2,hue];simp[Builtin.clear_,run_underlying hd]),h2,h1,.tup #[] [] rfl (by simp),fun _ _=>rfl⟩
  ·have hoo2:oo=off*p.size:=by rcases hoo with h6 | ⟨h6,_⟩<;>omega
   subst hoo2;have hzc:(Builtin.zeroCells z.cells len).size=len*p.size:=by rw[size_zeroCells,hzs,<-hs]
   have hmulc:(off+len)*p.size<=p.cap*p.size:=qn _ hl;rw[Nat.add_mul] at hmulc;have hone2: ∀ v∈(Builtin.zeroCells z.cells len).toList,v.oneCell'=true:=by
    intro v hvm;rw[Array.mem_toList_iff] at hvm;unfold Builtin.zeroCells at hvm;rw[Array.mem_map] at hvm;obtain⟨k,hk,rfl⟩:=hvm;have hzp:0<z.cells.size:=by
     rcases Nat.eq_zero_or_pos z.cells.size with h0 | h0
     ·rw[h0] at hk;omega
     ·exact h0
    have hlt:k % z.cells.size<z.cells.size:=Nat.mod_lt _ hzp;refine hone (k % z.cells.size) _ ?_;simp[hlt]
   have hst:=run_storeCells_at P g (off*p.size) p.e (Builtin.zeroCells z.cells len).toList 0 cur w hcur (by simp only[Array.length_toList,hzc];omega) hone2;simp only[Nat.add_zero,Array.length_toList] at hst;have hget:=fun k=>arr_splice_get (cur:=cur) (o:=off*p.size) (vs:=(Builtin.zeroCells z.cells len).toList) (by simp only[Array.length_toList,hzc];omega) k
   simp only[Array.length_toList] at hget;have hgb:=grownBy_setRow w g (cur.toList.take (off*p.size)++(Builtin.zeroCells z.cells len).toList++cur.toList.drop (off*p.size+(Builtin.zeroCells z.cells len).size)).toArray;have hheap:=setRow_heap w g cur (cur.toList.take (off*p.size)++(Builtin.zeroCells z.cells len).toList++cur.toList.drop (off*p.size+(Builtin.zeroCells z.cells len).size)).toArray p.e (0,0) hcur;have hrun3:(execOp e o).run P w= .ok (.value (.tuple #[])) (w.setRow g (cur.toList.take (off*p.size)++(Builtin.zeroCells z.cells len).toList++cur.toList.drop (off*p.size+(Builtin.zeroCells z.cells len).size)).toArray):=by
    rw[hrun2,hue];obtain⟨n,rfl⟩: ∃ n,len=n+1:=⟨len - 1,by omega⟩;simp[Builtin.clear_,run_underlying hd,zeroValue,typeInfo,hti,hz,hst]
   generalize hnew:(cur.toList.take (off*p.size)++(Builtin.zeroCells z.cells len).toList++cur.toList.drop (off*p.size+(Builtin.zeroCells z.cells len).size)).toArray=new at hrun3 hgb hget hheap;have hnsz:new.size=cur.size:=by
    rw[<-hnew];simp only[List.size_toArray,qe,length_take,length_drop,Array.length_toList,hzc];omega
   obtain⟨X',h1,h2⟩:=h.shrink hp hfull (n:=off) (by omega) hgp (w':=w.setRow g new) hgb hcur hheap hnsz (fun k hk=>by rw[hget,if_pos hk]);rw[hFs] at h1;exact⟨.tuple #[],_,X',ρ,.inl hrun3,h2,h1,.tup #[] [] rfl (by simp),fun _ _=>rfl⟩
theorem eff_bi (hT:TabOk P T) (b:Builtin) (args:Array Operand) (ts:Array TypeId):EffBi P T b args ts:=by
 intro c w X ρ H D R o e ρv r ho h hD hρ hres hc hlen;have hres':=hres;unfold biRes at hres';split at hres'
 ·rename_i t v hts hvs;obtain⟨args⟩:=args;obtain⟨ts⟩:=ts;simp only at hts;subst hts;simp only at hvs
  match args,hvs with
  | [s],_=>exact bi_len hT s t ho h hD hρ hres hc hlen
 ·rename_i t t' s x hts hvs;obtain⟨args⟩:=args;obtain⟨ts⟩:=ts;simp only at hts;subst hts;simp only at hvs;split at hres'
  ·rename_i htt;subst htt
   match args,hvs with
   | [s,x],_=>exact bi_append hT s x t ho h hD hρ hres hc hlen
  ·cases hres'
 ·rename_i t t' x y hts hvs;obtain⟨args⟩:=args;obtain⟨ts⟩:=ts;simp only at hts;subst hts;simp only at hvs
  match args,hvs with
  | [x,y],_=>exact bi_max x y t t' ho h hD hρ hres hc hlen
 ·rename_i t t' x y hts hvs;obtain⟨args⟩:=args;obtain⟨ts⟩:=ts;simp only at hts;subst hts;simp only at hvs
  match args,hvs with
  | [x,y],_=>exact bi_min x y t t' ho h hD hρ hres hc hlen
 ·rename_i t x hts hvs;obtain⟨args⟩:=args;obtain⟨ts⟩:=ts;simp only at hts;subst hts;simp only at hvs
  match args,hvs with
  | [x],_=>exact bi_clear hT x t ho h hD hρ hres hc hlen
 ·cases hres'
theorem flat_get {l:List PV} {s:Nat} (hl:l.length=s) (hs:0<s): ∀ (n k:Nat),k<n*s->(List.replicate n l).flatten[k]?=l[k % s]?
 | 0,k,h=>by simp at h
 | n+1,k,h=>by
  rw[List.replicate_succ,List.flatten_cons];by_cases hk:k<s
  ·rw[qi (by omega),Nat.mod_eq_of_lt hk]
  ·have e1:(n+1)*s=n*s+s:=Nat.succ_mul n s;have e2:k % s=(k - s) % s:=Nat.mod_eq_sub_mod (by omega);rw[getElem?_append_right (by omega),hl,flat_get hl hs n (k - s) (by omega),e2]
theorem eff_buildSlice (hT:TabOk P T) (t:TypeId) (len:Nat) (parts:Array (Nat×Operand)):EffOp P T (.buildSlice t len parts):=by
 intro c w X ρ H D R o e ρv r ho h hD hρ hres hc hlen;simp only[opRes] at hres;split at hres;rotate_left
 ·cases hres
 rename_i i hi;split at hres;rotate_left
 ·cases hres
 rename_i el hel;have hd:=(hT _ _ hi).desc;rw[hel] at hd;simp only[TyDesc] at hd;split at hres;rotate_left
 ·cases hres
 rename_i ie hie;split at hres;rotate_left
 ·cases hres
 rename_i cs hcs;split at hres;rotate_left
 ·cases hres
 rename_i fs hfs;split at hres;rotate_left
 ·cases hres
 rename_i hg;obtain⟨hg2,hg3,hg4⟩:=hg;cases hres;have hids:=fzs_ids hfs;have hl5:(shutAll H cs++[Ob.row true (groups ie.size len fs)]).length=H.length+D.length:=hlen;rw[qe] at hl5;unfold shutAll at hl5;rw[shutIds_length] at hl5;obtain⟨d,rfl⟩:=single (D:=D) (by simp at hl5;omega);obtain⟨X1,h1,hs1,hn1⟩:=h.shutIds (cs.flatMap ids0);rw[shutIds_append _ hids] at h1;obtain⟨ti,z,hti,hts,htb,hz,hzs,hil,hone,hrd⟩:=zero_rd (hT _ _ hie) (w:=w) (X:=X) (ρ:=ρ);have hzpos:0<z.cells.size:=by omega
 have hzero:CellsRd w X ρ ((Array.range (len*ti.size)).map fun k=>(z.cells[k % z.cells.size]!)) (List.replicate len ie.zero).flatten:=by
  have hget: ∀ (j:Nat) u,((Array.range (len*ti.size)).map fun k=>(z.cells[k % z.cells.size]!))[j]?=some u->j<len*ie.size/\z.cells[j % ie.size]?=some u:=by
   intro j u hu;rw[Array.getElem?_map,Option.map_eq_some_iff] at hu;obtain⟨k,hk,rfl⟩:=hu;have hk1:=(Array.getElem?_eq_some_iff.1 hk).1;have hk2:=(Array.getElem?_eq_some_iff.1 hk).2;simp only[Array.getElem_range] at hk2;subst hk2;have hlt:j % z.cells.size<z.cells.size:=Nat.mod_lt _ hzpos;refine⟨by simpa [hts] using hk1,?_⟩;rw[<-hzs];simp[hlt]
  refine⟨by simp[hts,hil],fun j u hu=>hone _ u (hget j u hu).2,fun j u x hu hx=>?_⟩;obtain⟨h2,h3⟩:=hget j u hu;rw[flat_get hil hg3 len j h2] at hx;exact(hrd _ u x h3 hx).1
 obtain⟨us',hus,hrest⟩:=fill_rd (w:=w) (X:=X) (ρ:=ρ) (pl:=fun j=>some (j*ie.size,ie.size)) (by intro i off s hi;cases hi;exact hg3) (parts.toList.map fun(i,x)=>(i,e x)) (parts.toList.map fun(j,x)=>(j,ρv x)) _ _ cs (by simp)
  (parts_rd parts.toList (fun p hp=>hρ p.2 (by
   simp only[Op.operands,List.mem_toArray,mem_map];exact⟨p,hp,rfl⟩))) hzero hcs
 have hcl:cs.length=len*ie.size:=by
  have h2:=hrest.n;have h3: ∀ (pv:List (Nat×PV)) (a b:List PV),fillP (fun j=>some (j*ie.size,ie.size)) a pv=some b->b.length=a.length:=by
   intro pv
   induction pv with
   | nil=>intro a b hab;simp[fillP] at hab;rw[hab]
   | cons p pv ih=>
    intro a b hab;obtain⟨i,x⟩:=p;simp only[fillP] at hab;split at hab
    ·rename_i hcond;rw[ih _ _ hab,splice_length (by omega)]
    ·cases hab
  rw[h3 _ _ _ hcs];simp[hil]
 have hfl:fs.length=len*ie.size:=by rw[fzs_length hfs,hcl]
 have hXs:Stp c w w X X1 ρ ρ:=Stp.same_world hs1;have hfr: ∀ (k:Nat) u y,us'[k]?=some u->fs[k]?=some y->FRd w X1 u y:=by
  intro k u y hu hy;have hlt:k<cs.length:=by rw[hcl,<-hfl];exact(List.getElem?_eq_some_iff.1 hy).1
  obtain⟨y',hy',hfy⟩:=fzs_get hfs k cs[k] (by simp[hlt]);rw[hy] at hy';cases hy';refine fz0_rd h look_append (hrest.rd k u cs[k] hu (by simp[hlt])) hfy hs1 (fun id hid=>hn1 id ?_);rw[List.mem_flatMap];exact⟨cs[k],by simp,hid⟩
 have hρ1:ρ[(shutIds (cs.flatMap ids0) H).length]?=some none:=by rw[shutIds_length];exact hD _ (qp _) (by simp)
 have hmx:len<=maxLen:=by simp only[maxLen];omega
 have hown:=World.ownsRow_lit (base:=0) (size:=ie.size) (e:=el) w us' len (qsq _) hmx (by rw[hrest.n,hcl]);obtain⟨X',ρ',h2,h3,h4,h5⟩:=place_row (xs:=groups ie.size len fs) (size:=ie.size) (el:=el) (v:= .slice (some ⟨w.heap.size,0,none⟩) len len) (row:=none) h1 hρ1 (World.grownBy_alloc w _ none) (by simp) (by intros;simp) (by simp) hg3 (groups_len hfl)
  (by rw[groups_length];exact hown) (by
   intro g hg;simp only[Value.ownBlock,qo] at hg;left;omega) (by
   intro i' j x y hx hy;obtain⟨hy',hj⟩:=groups_cell hx hy;have hlt:i'*ie.size+j<us'.size:=by rw[hrest.n,hcl,<-hfl];exact(List.getElem?_eq_some_iff.1 hy').1
   exact⟨us'[i'*ie.size+j],by simp[hlt],hfr _ _ _ (by simp[hlt]) hy'⟩)
 rw[shutIds_length,groups_length] at h4;rw[shutIds_length] at h5;refine⟨_,_,X',ρ',.inl ?_,hXs.trans h2,h3,h4,fun id hid=>h5 id (by simp at hid;omega)⟩;have hn24: ¬(16777216<len*ti.size):=by
  rw[hts];have:len*ie.size<=1000*1000:=Nat.mul_le_mul (by omega) (by omega);omega
 by_cases hl0:len=0
 ·subst hl0;have hr0:Array.range 0=#[]:=rfl;simp only[Nat.zero_mul,hr0,Array.map_empty] at hus;simp[execOp,ho,Instr.buildSlice,run_underlying hd,sizeOf,typeInfo,hti,hts,hr0,hus,newRow]
 have hne: ¬(len*ti.size=0):=by
  rw[hts];exact Nat.mul_ne_zero hl0 (by omega)
 rw[hts] at hus;simp only[hts] at hn24 hne;simp[execOp,ho,Instr.buildSlice,run_underlying hd,sizeOf,typeInfo,hti,hts,zeroValue,hz,hn24,hne,hus,newRow]
end
end Go.AM
