/- The abstract machine:values that are built,literals of slices,frozen variables. -/
import Derived.Test.YtjjbkjgifdhlcaaGreatT4
import Derived.Laws.Tables
import Derived.Test.YtjjbkjgifdhlcaaGreatT1
set_option linter.all false
open List (append_assoc ext_getElem? getElem?_append_right getElem?_of_mem getElem?_set_ne getElem?_take length_drop length_nil length_take map_cons map_nil mem_map mem_of_getElem? mem_of_mem_drop nil_append set_append_left)
namespace Go.AM
section
variable {P:Program} {T:Tab}
structure yM (w:World) (X:Nat->Prop) (ρ:Places) (us:Array Value) (cs:List PV):Prop where
 n:us.size=cs.length
 one: ∀ (i:Nat) u,us[i]?=some u->u.oneCell'=true
 rd: ∀ (i:Nat) u x,us[i]?=some u->cs[i]?=some x->PRd w X ρ u x
theorem ES {w:World} {X:Nat->Prop} {ρ:Places} {pl:Nat->Option (Nat×Nat)} (kU: ∀ i off s,pl i=some (off,s)->0<s):
 ∀ (pc:List (Nat×Value)) (pv:List (Nat×PV)) (us:Array Value) (cs cs':List PV),pc.length=pv.length->(∀ (k:Nat) a b,pc[k]?=some a->pv[k]?=some b->a.1=b.1/\PRd w X ρ a.2 b.2)->
  yM w X ρ us cs->nA pl cs pv=some cs'-> ∃ us',Instr.fill pl us pc=some us'/\yM w X ρ us' cs'
 | [],[],us,cs,cs',_,_,h,hf=>by
  simp only[nA,qo] at hf;subst hf;exact⟨us,rfl,h⟩
 | (i,u)::pc,(j,x)::pv,us,cs,cs',hl,hp,h,hf=>by
  obtain⟨h1,h2⟩:=hp 0 _ _ rfl rfl;simp only at h1 h2;subst h1;simp only[nA] at hf;split at hf
  .cases hf
  .rename_i off size hpi;split at hf
   .rename_i hc;have dW:=kU _ _ _ hpi;obtain⟨dQ,dh⟩:=tG h2 (by omega);have hrd:=AP h2;have kW:yM w X ρ (u.cells.zipIdx.foldl (fun cs (p:Value×Nat)=>cs.setIfInBounds (off+p.2) p.1) us) (fF cs off x.cells):=by
     have hg: ∀ m,(u.cells.zipIdx.foldl (fun cs (p:Value×Nat)=>cs.setIfInBounds (off+p.2) p.1) us)[m]?=if off<=m/\m<off+u.cells.size/\m<us.size then u.cells[m - off]? else us[m]?:=by
      intro m;have:=AO u.cells.toList 0 off us m;rw[<-Array.foldl_toList,Array.toList_zipIdx];simpa using this
     have hsp:=fun m=>jE (l:=cs) (new:=x.cells) (off:=off) (by omega) m
     have hn:=h.n;refine⟨?_,fun m v hv=>?_,fun m v y hv hy=>?_⟩
     .rw[hG (by omega),<-hn];have amF: ∀ (l:List (Value×Nat)) (a:Array Value),(l.foldl (fun cs (p:Value×Nat)=>cs.setIfInBounds (off+p.2) p.1) a).size=a.size:=by
       intro l
       induction l with
       | nil=>intro a;rfl
       | cons q l ih=>intro a;rw[List.foldl_cons,ih];simp
      rw[<-Array.foldl_toList];exact amF _ _
     .rw[hg] at hv;split at hv
      .exact dh _ _ hv
      exact h.one _ _ hv
     rw[hg] at hv;rw[hsp] at hy;by_cases hm:off<=m/\m<off+u.cells.size/\m<us.size
     .rw[if_pos hm] at hv;rw[if_neg (by omega),if_pos (by omega)] at hy;exact hrd _ _ _ hv hy
     rw[if_neg hm] at hv;have aqY:m<us.size:=(Array.getElem?_eq_some_iff.1 hv).1;by_cases Zs:m<off
     .rw[if_pos Zs] at hy;exact h.rd _ _ _ hv hy
     rw[if_neg Zs,if_neg (by omega)] at hy;exact h.rd _ _ _ hv hy
    obtain⟨us',gX,gA⟩:=ES kU pc pv _ _ _ (by simpa using hl) (fun k a b ha hb=>hp (k+1) a b (by simpa using ha) (by simpa using hb)) kW hf;refine⟨us',?_,gA⟩;simp only[Instr.fill,hpi];rw[if_neg (by have:=h.n;simp;omega)];exact gX
   .cases hf
 | [],_::_,_,_,_,hl,_,_,_=>by simp at hl
 | _::_,[],_,_,_,hl,_,_,_=>by simp at hl
theorem HF {w:World} {X:Nat->Prop} {ρ:Places} {e:Operand->Value} {ρv:Operand->PV} (parts:List (Nat×Operand)) (h: ∀ p∈parts,PRd w X ρ (e p.2) (ρv p.2)):
 ∀ (k:Nat) a b,(parts.map fun(i,x)=>(i,e x))[k]?=some a->(parts.map fun(j,x)=>(j,ρv x))[k]?=some b->a.1=b.1/\PRd w X ρ a.2 b.2:=by
 intro k a b ha hb
 rw[List.getElem?_map,Option.map_eq_some_iff] at ha hb
 obtain⟨p,hp,rfl⟩:=ha
 obtain⟨q,hq,rfl⟩:=hb
 rw[hp] at hq;cases hq
 exact⟨rfl,h p (mem_of_getElem? hp)⟩
theorem xB {fs:List Fld}: ∀ (ffs:List Field) (k:Nat),(∀ (j:Nat) f,ffs[j]?=some f-> ∃ fd,fs[k+j]?=some fd/\f.offset=fd.off/\ ∃ ti,P.info? f.type=some ti/\ti.size=fd.size)->
 ∃ places,ffs.mapM (fun f=>(P.info? f.type).map fun i=>(f.offset,i.size))=some places/\places.length=ffs.length/\ ∀ (j:Nat),j<ffs.length->places[j]?=(fs[k+j]?).map fun fd=>(fd.off,fd.size)
 | [],k,_=>⟨[],rfl,rfl,by simp⟩
 | f::ffs,k,h=>by
  obtain⟨fd,Bq,ho,ti,fP,hs⟩:=h 0 f rfl;obtain⟨places,hp,hl,hg⟩:=xB ffs (k+1) (fun j f' hj=>by
   have:=h (j+1) f' (by simpa using hj);rwa [show k+(j+1)=k+1+j by omega] at this)
  refine⟨(fd.off,fd.size)::places,by simp[List.mapM_cons,fP,hp,ho,hs],by simp[hl],fun j hj=>?_⟩;cases j with
  | zero=>simp at Bq ⊢;simp[Bq]
  | succ j=>
   simp only[List.getElem?_cons_succ];rw[hg j (by simpa using hj),show k+1+j=k+(j+1) by omega]
theorem HG (hT:cQ P T) (t:TypeId) (parts:Array (Nat×Operand)):eS P T (.build t parts):=by
 intro c w X ρ H F o e ρv r lo hi ho h hH hρ au hc;simp only[cq] at au;split at au;rotate_left
 .cases au
 rename_i i hi;split at au;rotate_left
 .cases au
 rename_i fs Fo;split at au;rotate_left
 .cases au
 rename_i cs fL;simp only[Res.pure,qo] at au;subst au;have hd:=(hT _ _ hi).desc;rw[Fo] at hd;obtain⟨ffs,hu,dQ,K1⟩:=hd;obtain⟨ti,z,fP,en,_,hz,vA,dJ,dh,hrd⟩:=o7 (hT _ _ hi) (w:=w) (X:=X) (ρ:=ρ);have kU: ∀ (i off s:Nat),((fs[i]?).map fun(f:Fld)=>(f.off,f.size))=some (off,s)->0<s:=by
  intro i off s hi;rw[Option.map_eq_some_iff] at hi;obtain⟨fd,Bq,he⟩:=hi;cases he;have aL:i<ffs.size:=by rw[dQ];exact(List.getElem?_eq_some_iff.1 Bq).1
  exact(K1 i _ _ (Array.getElem?_eq_getElem aL) Bq).2.1
 obtain⟨us',gX,gA⟩:=ES (w:=w) (X:=X) (ρ:=ρ) (pl:=fun(i:Nat)=>(fs[i]?).map fun(f:Fld)=>(f.off,f.size)) kU (parts.toList.map fun(i,x)=>(i,e x)) (parts.toList.map fun(j,x)=>(j,ρv x)) z.cells i.zero cs (by simp)
  (HF parts.toList (fun p hp=>hρ p.2 (by
   simp only[Op.operands,List.mem_toArray,mem_map];exact⟨p,hp,rfl⟩))) ⟨by omega,dh,fun j u x hu hx=>(hrd j u x hu hx).1⟩ fL
 obtain⟨places,hp,hl,hg⟩:=xB (P:=P) (fs:=fs) ffs.toList 0 (fun j f hj=>by
  have Uv:ffs[j]?=some f:=by simpa using hj
  have aL:j<fs.length:=by rw[<-dQ];exact(Array.getElem?_eq_some_iff.1 Uv).1
  obtain⟨h1,_,ti,d,h3,h4,_⟩:=K1 j f fs[j] Uv (by simp[aL]);exact⟨fs[j],by simp[aL],h1,ti,h3,h4⟩)
 have amG:(fun(i:Nat)=>(fs[i]?).map fun(f:Fld)=>(f.off,f.size))=fun(i:Nat)=>(places.toArray[i]?:Option (Nat×Nat)):=by
  funext j;simp only[List.getElem?_toArray];by_cases hj:j<ffs.size
  .rw[hg j (by simpa using hj)];simp
  rw[List.getElem?_eq_none (by omega),List.getElem?_eq_none (by rw[hl];simp;omega)];rfl
 rw[amG] at gX;refine⟨rfl,OpOK.still h (u:= .agg us') ?_ (.agg _ _ gA.n gA.one gA.rd)⟩;have hb:P.built t (parts.map fun(i,x)=>(i,e x)).toList=some us':=by
  simp only[Program.built,fP,hu,hz,hp];simpa using gX
 simp only[execOp,ho,Sem.run_bind,run_build w t _ us' hb,Result.andThen_ok];rfl
theorem AQ {H:List Ob}: ∀ {xs:List PV} {ys:List FV},s4 H xs=some ys->ys.length=xs.length/\ ∀ (i:Nat) y,ys[i]?=some y-> ∃ x,xs[i]?=some x/\eo H x=some y
 | [],ys,h=>by simp[s4] at h;subst h;simp
 | x::xs,ys,h=>by
  simp only[s4] at h;split at h
  .rename_i y ys' h1 h2;cases h;obtain⟨hl,hg⟩:=AQ h2;refine⟨by simp[hl],fun i z hz=>?_⟩;cases i with
   | zero=>simp at hz;subst hz;exact⟨x,rfl,h1⟩
   | succ i=>simp at hz ⊢;exact hg i z hz
  cases h
theorem fK {G:List Ob}: ∀ (ids:List Nat) {F:List Ob},(∀ id∈ids,id<F.length)->shutIds ids (F++G)=shutIds ids F++G
 | [],F,_=>rfl
 | id::ids,F,h=>by
  show shutIds ids (shut (F++G) id)=shutIds ids (shut F id)++G;rw[Hv (h id (by simp)),fK ids (fun j hj=>by simp[shut];exact h j (by simp[hj]))]
theorem MO {H:List Ob} {x:PV} {y:FV} (h:dZ H x=some y): ∀ id∈fN x,id<H.length:=by
 cases x with
 | lsl id off len s=>
  intro j hj;simp only[fN,qz] at hj;subst hj;simp only[dZ] at h;cases ho:H[j]? with
  | none=>rw[ho] at h;cases h
  | some o=>exact(List.getElem?_eq_some_iff.1 ho).1
 | _=>intro j hj;simp[fN] at hj
theorem si {H:List Ob}: ∀ {xs:List PV} {ys:List FV},l6 H xs=some ys-> ∀ id∈xs.flatMap fN,id<H.length
 | [],ys,h=>by simp
 | x::xs,ys,h=>by
  simp only[l6] at h;split at h
  .rename_i y ys' h1 h2;intro id eD;rw[List.flatMap_cons,qr] at eD;rcases eD with eD | eD
   .exact MO h1 id eD
   exact si h2 id eD
  cases h
theorem ET {H:List Ob} {x:PV} {y:FV} (h:eo H x=some y): ∀ id∈ny H x,id<H.length:=by
 unfold eo at h;unfold ny;split at h
 .rename_i id;cases ho:H[id]? with
  | none=>rw[ho] at h;cases h
  | some o=>
   rw[ho] at h;cases o with
   | box rw cs=>
    simp only[Option.map_eq_some_iff] at h;obtain⟨ys,FC,_⟩:=h;intro j hj;simp only[BL] at hj;rcases hj with rfl | hj
    .exact(List.getElem?_eq_some_iff.1 ho).1
    .exact si FC j hj
   | _=>cases h
 exact MO h
theorem MP {H:List Ob} {x y:PV} (h:eT H x=some y): ∀ id∈pK H x,id<H.length:=by
 unfold eT at h;unfold pK;split at h
 .simp only[Option.map_eq_some_iff] at h;obtain⟨ys,FC,_⟩:=h;exact si FC
 rw[Option.map_eq_some_iff] at h;obtain⟨z,hz,_⟩:=h;exact ET hz
theorem HI {H:List Ob}: ∀ {xs ys:List PV},bJ H xs=some ys-> ∀ id∈xs.flatMap (pK H),id<H.length
 | [],ys,h=>by simp
 | x::xs,ys,h=>by
  simp only[bJ] at h;split at h
  .rename_i y ys' h1 h2;intro id eD;rw[List.flatMap_cons,qr] at eD;rcases eD with eD | eD
   .exact MP h1 id eD
   exact HI h2 id eD
  cases h
theorem OpOK.shutting {c:gZ} {w:World} {X:Nat->Prop} {ρ:Places} {H G:List Ob} {lo hi:Nat} {ids:List Nat} (q6: ∀ id∈ids,id<H.length) (h:HRd c w X ρ (H++G)) {r:Result Next} {u:Value} {v:PV} (hr:r= .ok (.value u) w)
 (hu: ∀ X',(∀ b,X' b->X b)->(∀ id∈ids,∀ p o g,ρ[id]?=some (some p)->(H++G)[id]?=some o->o.alive->p.b=some g-> ¬X' g)->PRd w X' ρ u v):OpOK c w X ρ lo hi (shutIds ids H++G) r v:=by
 obtain⟨X',h',hs,hn⟩:=h.shutIds ids
 rw[fK ids q6] at h'
 exact⟨u,w,X',ρ,.inl hr,Stp.same_world hs,h',hu X' hs hn,fun _ _=>rfl⟩
theorem MQ {w:World} {X:Nat->Prop} {ρ:Places} {u:Value} {x:PV} {v:Value} (h:PRd w X ρ u x) (hl:Nq x=some v):u=v:=by
 unfold Nq at hl;split at hl
 .cases hl;exact h.litInv
 cases hl
theorem DB: ∀ {cs:List PV} {vs:List Value},yZ cs=some vs->vs.length=cs.length/\ ∀ (i:Nat) c,cs[i]?=some c-> ∃ v,vs[i]?=some v/\Nq c=some v
 | [],vs,h=>by simp[yZ] at h;subst h;simp
 | c::cs,vs,h=>by
  simp only[yZ] at h;split at h
  .rename_i v us h1 h2;cases h;obtain⟨hl,hg⟩:=DB h2;refine⟨by simp[hl],fun i x hx=>?_⟩;cases i with
   | zero=>simp at hx;subst hx;exact⟨v,rfl,h1⟩
   | succ i=>exact hg i x (by simpa using hx)
  cases h
theorem VN {w:World} {X:Nat->Prop} {ρ:Places} {u:Value} {x:PV} {v:Value} (h:PRd w X ρ u x) (hl:Qg x=some v):u=v:=by
 unfold Qg at hl;split at hl
 .rename_i cs;rw[Option.map_eq_some_iff] at hl;obtain⟨vs,fh,rfl⟩:=hl;obtain⟨aF,hg⟩:=DB fh;cases h with
  | agg us _ hn h1 hr=>
   congr 1;apply Array.ext
   .simp[aF,hn]
   intro i nj iR;obtain⟨v,hv,hc⟩:=hg i cs[i] (by simp[<-hn,nj]);have:=MQ (hr i us[i] cs[i] (by simp[nj]) (by simp[<-hn,nj])) hc;rw[this];simp at iR;rw[qb iR] at hv;cases hv;simp
 exact MQ h hl
theorem DC: ∀ {cs:List PV} {vs:List Value},w_ cs=some vs->vs.length=cs.length/\ ∀ (i:Nat) c,cs[i]?=some c-> ∃ v,vs[i]?=some v/\Qg c=some v
 | [],vs,h=>by simp[w_] at h;subst h;simp
 | c::cs,vs,h=>by
  simp only[w_] at h;split at h
  .rename_i v us h1 h2;cases h;obtain⟨hl,hg⟩:=DC h2;refine⟨by simp[hl],fun i x hx=>?_⟩;cases i with
   | zero=>simp at hx;subst hx;exact⟨v,rfl,h1⟩
   | succ i=>exact hg i x (by simpa using hx)
  cases h
theorem EU (fn:Fn) (first captured:Array Operand):EffOp P T (.makeFunc fn first captured):=by
 intro c w X ρ H D R o e ρv r ho h hD hρ au hc aF;simp only[cq] at au;split at au;rotate_left
 .split at au
  .rename_i vs fh w6;cases au;have hd:D=[]:=(by simpa using aF);subst hd;have Kz:captured=#[]:=by
    have:captured.toList=[]:=List.map_eq_nil_iff.1 w6;exact Array.toList_eq_nil_iff.1 this
   obtain⟨hl,hg⟩:=DC fh;have TX:first.map e=List.toArray vs:=by
    apply Array.ext
    .simp[hl]
    intro i nj iR;have hif:i<first.size:=by simpa using nj
    obtain⟨v,hv,hlv⟩:=hg i (ρv first[i]) (by simp[hif]);have:=VN (hρ first[i] (by simp[Op.operands])) hlv;rw[Array.getElem_map,this];simp at iR;rw[qb iR] at hv;cases hv;simp
   exact OpOK.still (u:= .func fn (List.toArray vs) #[]) h (by simp[execOp,ho,Instr.makeFunc,TX,Kz]) (.fv _ _ (.lit _ rfl))
  cases au
 rename_i c1 c2 h1 h2;cases au;have h5:(shutIds ((first.toList.map ρv++captured.toList.map ρv).flatMap (ny H)) H).length=H.length+D.length:=aF;rw[bH] at h5;have hd:D=[]:=List.eq_nil_of_length_eq_zero (by omega);subst hd;obtain⟨xM,Ue⟩:=AQ h1;obtain⟨qZ,fg⟩:=AQ h2;have q6: ∀ id∈(first.toList.map ρv++captured.toList.map ρv).flatMap (ny H),id<H.length:=by
  intro id eD;rw[List.mem_flatMap] at eD;obtain⟨x,hx,eD⟩:=eD;rw[qr] at hx;rcases hx with hx | hx
  .obtain⟨k,hk⟩:=getElem?_of_mem hx;have aL:k<c1.length:=by rw[xM];exact(List.getElem?_eq_some_iff.1 hk).1
   obtain⟨x',TW,hf⟩:=Ue k c1[k] (by simp[aL]);rw[hk] at TW;cases TW;exact ET hf id eD
  obtain⟨k,hk⟩:=getElem?_of_mem hx;have aL:k<c2.length:=by rw[qZ];exact(List.getElem?_eq_some_iff.1 hk).1
  obtain⟨x',TW,hf⟩:=fg k c2[k] (by simp[aL]);rw[hk] at TW;cases TW;exact ET hf id eD
 refine OpOK.shutting q6 h (u:= .func fn (first.map e) (captured.map e)) (by simp[execOp,ho,Instr.makeFunc]) (fun X' hX hn=> .fv _ _ (.fn fn _ _ _ _ (by simpa using xM.symm) (by simpa using qZ.symm) ?_ ?_))
 .intro j u y hu hy;obtain⟨x,hx,hf⟩:=Ue j y hy;simp at hu;obtain⟨a,ha,rfl⟩:=hu;rw[List.getElem?_map] at hx;simp only[Array.getElem?_toList,ha,Option.map_some,qo] at hx;subst hx;refine EN h bP (hρ a (by simp[Op.operands];exact .inl (Array.mem_of_getElem? ha))) hf hX (fun id eD=>hn id ?_);rw[List.mem_flatMap];exact⟨ρv a,List.mem_append.2 (.inl (mem_map.2 ⟨a,Array.mem_toList_iff.2 (Array.mem_of_getElem? ha),rfl⟩)),eD⟩
 intro j u y hu hy;obtain⟨x,hx,hf⟩:=fg j y hy;simp at hu;obtain⟨a,ha,rfl⟩:=hu;rw[List.getElem?_map] at hx;simp only[Array.getElem?_toList,ha,Option.map_some,qo] at hx;subst hx;refine EN h bP (hρ a (by simp[Op.operands];exact .inr (Array.mem_of_getElem? ha))) hf hX (fun id eD=>hn id ?_);rw[List.mem_flatMap];exact⟨ρv a,List.mem_append.2 (.inr (mem_map.2 ⟨a,Array.mem_toList_iff.2 (Array.mem_of_getElem? ha),rfl⟩)),eD⟩
end
end Go.AM
namespace Go.AM
theorem h_ (s:Nat): ∀ (n:Nat) (l:List FV),(d4 s n l).length=n
 | 0,_=>rfl
 | n+1,l=>by simp[d4,h_ s n]
theorem tH (s:Nat): ∀ (n:Nat) (l:List FV) (i:Nat) x,(d4 s n l)[i]?=some x->x=(l.drop (i*s)).take s
 | 0,_,_,_,h=>by simp[d4] at h
 | n+1,l,i,x,h=>by
  cases i with
  | zero=>simp[d4] at h;simp[h]
  | succ i=>
   simp only[d4,List.getElem?_cons_succ] at h;rw[tH s n _ i x h,List.drop_drop];congr 2;rw[Nat.add_mul];omega
theorem tI {s n:Nat} {l:List FV} (h:l.length=n*s): ∀ x∈d4 s n l,x.length=s:=by
 intro x hx;obtain⟨i,hi⟩:=getElem?_of_mem hx;have aL:i<n:=by have:=(List.getElem?_eq_some_iff.1 hi).1;rwa [h_] at this
 rw[tH s n l i x hi];have:(i+1)*s<=n*s:=qn _ aL;rw[Nat.add_mul] at this;simp;omega
theorem qM {s n:Nat} {l:List FV} {i j:Nat} {x:List FV} {y:FV} (hx:(d4 s n l)[i]?=some x) (hy:x[j]?=some y):l[i*s+j]?=some y/\j<s:=by
 rw[tH s n l i x hx,getElem?_take] at hy;split at hy
 .rw[List.getElem?_drop] at hy;exact⟨hy,by assumption⟩
 cases hy
section
variable {P:Program} {T:Tab}
def Sp (w:World) (X:Nat->Prop) (size:Nat) (v:Value) (ys:List (List FV)):Prop:=
 (∀ y∈ys,y.length=size)/\((v= .slice none 0 0/\ys=[])\/ ∃ (a:Addr) (c:Nat) (news:List Value),v= .slice (some a) ys.length c/\news.length=ys.length*size/\(∀ (j:Nat) u,news[j]?=some u->w.cell? (a.add j)=some u)/\
  (∀ u∈news,u.oneCell'=true)/\ ∀ (i j:Nat) x y,ys[i]?=some x->x[j]?=some y-> ∃ u,news[i*size+j]?=some u/\FRd w X u y)
theorem EV {w:World} {X:Nat->Prop} {size:Nat} (dW:0<size) {v:Value} {ys:List (List FV)} (h:FRd w X v (.sl ys)) (hl: ∀ y∈ys,y.length=size):Sp w X size v ys:=by
 refine⟨hl,?_⟩;cases h with
 | nil=>exact .inl ⟨rfl,rfl⟩
 | sl ad n cap s _ us hn hc hs h0 hX hb hcell hrd=>
  right;have ahR: ∀ k,k<ys.length*size-> ∃ x y,ys[k / size]?=some x/\x[k % size]?=some y/\size=s:=by
   intro k hk;have h1:k / size<ys.length:=(Nat.div_lt_iff_lt_mul dW).2 hk;have hx:=lY h1;have h2:k % size<ys[k / size].length:=by rw[hl _ hx];exact Nat.mod_lt _ dW
   exact⟨ys[k / size],ys[k / size][k % size],by simp[h1],by simp[h2],by rw[<-hl _ hx,hs _ hx]⟩
  refine⟨ad,cap,(List.range (ys.length*size)).map fun k=>us (k / size) (k % size),by rw[hn],by simp,fun j u hu=>?_,fun u hu=>?_,fun i j x y hx hy=>?_⟩
  .rw[List.getElem?_map,Option.map_eq_some_iff] at hu;obtain⟨k,hk,rfl⟩:=hu;obtain⟨ke,jF⟩:=List.getElem?_eq_some_iff.1 hk;rw[List.getElem_range] at jF;subst jF;have hk:j<ys.length*size:=by simpa using ke
   obtain⟨x,y,hx,hy,rfl⟩:=ahR j hk;rw[iH h0,<-hcell _ _ x y hx hy];congr 2;rw[Nat.mul_comm (j / size) size,Nat.div_add_mod]
  .rw[mem_map] at hu;obtain⟨k,hk,rfl⟩:=hu;rw[List.mem_range] at hk;obtain⟨x,y,hx,hy,_⟩:=ahR k hk;exact(hrd _ _ x y hx hy).one
  have aL:i<ys.length:=(List.getElem?_eq_some_iff.1 hx).1;have hj:j<size:=by rw[<-hl x (mem_of_getElem? hx)];exact(List.getElem?_eq_some_iff.1 hy).1
  have h1:(i+1)*size<=ys.length*size:=qn _ aL;rw[Nat.add_mul] at h1;have h2:i*size+j<ys.length*size:=by omega
  refine⟨us i j,?_,hrd i j x y hx hy⟩;have e1:(i*size+j) / size=i:=by
   rw[Nat.mul_comm,Nat.mul_add_div dW,Nat.div_eq_of_lt hj,Nat.add_zero]
  have e2:(i*size+j) % size=j:=by
   rw[Nat.mul_comm,Nat.mul_add_mod,Nat.mod_eq_of_lt hj]
  rw[List.getElem?_map,List.getElem?_range h2];simp only[Option.map_some,e1,e2]
theorem VO {w:World} {X:Nat->Prop} {ρ:Places} {p:Place} {xs:List (List FV)} (hr:Sh w X p xs) {id off len:Nat} {v:Value}
 (hv:PRd w X ρ v (.lsl id off len p.size)) (hp:ρ[id]?=some (some p)) (hl:off+len<=xs.length):Sp w X p.size v ((xs.drop off).take len):=by
 refine⟨fun x hx=>hr.len x (mem_of_mem_drop (xW hx)),?_⟩
 obtain⟨us,gX,hcell⟩:=hr.cells
 obtain⟨q,hq,hqs,⟨hg,ow,rfl,rfl⟩ | ⟨g,og,hg,ow,qZ,jf⟩⟩:=hv.lslInv
 .left
  rw[List.take_zero]
  exact⟨ow,rfl⟩
 right
 rw[hp] at hq;cases hq
 have aF:((xs.drop off).take len).length=len:=by simp;omega
 have gg:World.ownsRow w 0 p.e p.size (.slice (some ⟨g,0,none⟩) xs.length p.cap) xs.length us:=by simpa [Place.val,hg] using gX
 have A':us.length=xs.length*p.size:=gg.1
 have yu:(off+len)*p.size<=xs.length*p.size:=qn _ hl
 rw[Nat.add_mul] at yu
 have dh: ∀ (k:Nat) u,us[k]?=some u->u.oneCell'=true:=by
  intro k u hu;have hk:k<xs.length*p.size:=by rw[<-A'];exact(List.getElem?_eq_some_iff.1 hu).1
  have h1:k / p.size<xs.length:=(Nat.div_lt_iff_lt_mul hr.pos).2 hk;have h2:k % p.size<xs[k / p.size].length:=by rw[hr.len _ (lY h1)];exact Nat.mod_lt _ hr.pos
  obtain⟨u',Bz,hf⟩:=hcell (k / p.size) (k % p.size) xs[k / p.size] xs[k / p.size][k % p.size] (by simp[h1]) (by simp[h2]);rw[Nat.mul_comm (k / p.size),Nat.div_add_mod,hu] at Bz;cases Bz;exact hf.one
 refine⟨_,_,(us.drop (off*p.size)).take (len*p.size),by rw[aF];exact ow,by rw[aF];simp;omega,fun j u hu=>?_,fun u hu=>?_,fun i j x y hx hy=>?_⟩
 .rw[getElem?_take] at hu
  split at hu
  .rename_i hj
   rw[List.getElem?_drop] at hu
   have:=gg.cells (g:=g) rfl _ u hu
   rw[jb,Nat.zero_add] at this
   have hog:og=off*p.size:=by
    rcases jf with jf | jf
    .exact jf
    have:len=0:=by omega
    subst this;omega
   rw[jb,hog]
   exact this
  cases hu
 .obtain⟨k,hk⟩:=getElem?_of_mem (mem_of_mem_drop (xW hu))
  exact dh k u hk
 rw[getElem?_take] at hx
 split at hx
 .rename_i hi
  rw[List.getElem?_drop] at hx
  obtain⟨u,hu,hf⟩:=hcell _ j x y hx hy
  refine⟨u,?_,hf⟩
  have hj:j<p.size:=by rw[<-hr.len x (mem_of_getElem? hx)];exact(List.getElem?_eq_some_iff.1 hy).1
  have h1:(i+1)*p.size<=len*p.size:=qn _ hi
  rw[Nat.add_mul] at h1
  rw[getElem?_take,if_pos (by omega),List.getElem?_drop,<-hu]
  congr 1
  rw[Nat.add_mul];omega
 cases hx
theorem EW {c:gZ} {w:World} {X:Nat->Prop} {ρ:Places} {F H:List Ob} (h:HRd c w X ρ F) (hH: ∀ (j:Nat) o,H[j]?=some o->F[j]?=some o) {size:Nat} (dW:0<size) {v:Value} {x:PV} (hv:PRd w X ρ v x)
 {cd:Prop} {ys:List (List FV)} (hs:lM H size x=some (cd,ys)) (hc:cd):Sp w X size v ys:=by
 cases x with
 | fv z=>
  cases z with
  | sl xs=>
   simp only[lM,qo,Prod.mk.injEq] at hs;obtain⟨rfl,rfl⟩:=hs;cases hv with | fv _ _ hf=>exact EV dW hf hc
  | lit u=>
   unfold lM at hs;split at hs
   all_goals first | (cases hs;done) | skip
   all_goals rename_i he
   all_goals first | (cases he;done) | skip
   injection he with he;injection he with he
   subst he;simp only[qo,Prod.mk.injEq] at hs;obtain⟨rfl,rfl⟩:=hs;rw[hv.litInv];exact⟨by simp,.inr ⟨_,_,[],rfl,by simp,by simp,by simp,by simp⟩⟩
  | _=>simp[lM] at hs
 | nilsl=>
  simp only[lM,qo,Prod.mk.injEq] at hs;obtain⟨rfl,rfl⟩:=hs;cases hv with | nilsl=>exact⟨by simp,.inl ⟨rfl,rfl⟩⟩
 | clip xs=>
  simp only[lM,qo,Prod.mk.injEq] at hs;obtain⟨rfl,rfl⟩:=hs;cases hv with | clip _ _ _ hf=>exact EV dW hf hc
 | lsl id off len s=>
  simp only[lM] at hs;split at hs
  .rename_i rw xs ho;split at hs
   .rename_i dQ;subst dQ;simp only[qo,Prod.mk.injEq] at hs;obtain⟨rfl,rfl⟩:=hs;obtain⟨p,hp,ni,_⟩:=hv.lslInv;subst ni;exact VO (h.ob id p _ hp (hH id _ ho)).1 hv hp hc
   cases hs
  .cases hs
 | any=>simp[lM] at hs
 | ptr _ _ _=>simp[lM] at hs
 | agg _=>simp[lM] at hs
 | tup _=>simp[lM] at hs
 | tab _=>simp[lM] at hs
end
end Go.AM
namespace Go.AM
section
variable {P:Program} {T:Tab}
theorem lP {w:World} {el size k cap:Nat} {z:Value} (vA:z.cells.size=size) {xs news:List Value} (hl:(xs++news).length=k*size) (hk:k<=cap) (w6:cap<=maxLen):
 (w.drew.alloc (.cells (xs.toArray++news.toArray++Builtin.zeroCells z.cells (cap - k)) el)).ownsRow 0 el size (.slice (some ⟨w.heap.size,0,none⟩) k cap) k (xs++news):=by
 refine⟨hl,.inr ⟨w.heap.size,cap,_,rfl,dk _,heap_alloc_new w.drew _,hk,w6,?_,?_⟩⟩
 .rw[qe] at hl
  simp only[Array.size_append,List.size_toArray,size_zeroCells,vA,hl,<-Nat.add_mul]
  congr 1
  omega
 simp only[Array.toList_append,append_assoc]
 rw[<-append_assoc,<-hl]
 exact List.take_left
theorem eL (w:World) (o:Obj) (row:Option Nat):w.grownBy (w.drew.alloc o) row:=
 ⟨rfl,rfl,rfl,by simp,fun k hk _=>heap_alloc_old w.drew o k hk⟩
theorem EX {w:World} {el size n k g cap:Nat} {us:List Value} (h:w.ownsRow 0 el size (.slice (some ⟨g,0,none⟩) n cap) n us) (hk:k<=n):
 w.ownsRow 0 el size (.slice (some ⟨g,0,none⟩) k cap) k (us.take (k*size)):=by
 obtain⟨h1,h2⟩:=h
 rcases h2 with⟨h2,_⟩ | ⟨g',cap',cur,h2,h3,h4,h5,h6,h7,h8⟩
 .cases h2
 cases h2
 have hm:k*size<=n*size:=qn _ hk
 refine⟨by rw[length_take,h1,Nat.min_eq_left hm],.inr ⟨g,cap,cur,rfl,h3,h4,by omega,h6,h7,?_⟩⟩
 rw[<-h8,List.take_take,Nat.min_eq_left hm]
theorem AR {w:World} {o:Oper} {e:Operand->Value} {b:Builtin} {args:Array Operand} {ts:Array TypeId} (ho:o.op= .call {callee:= .builtin b,args,argTypes:=ts}):
 ∃ consts,(execOp e o).run P w=(builtin b ts o.type consts (args.map e)).run P w:=by
 refine⟨args.map fun | .const _=>true | _=>false,?_⟩
 unfold execOp
 simp only[ho,resolve,invoke,Sem.run_bind,Sem.run_pure,Result.andThen_ok]
 rfl
theorem o9 {w:World} {X:Nat->Prop} {size:Nat} {xs ys:List (List FV)} {us news:List Value} (I9:us.length=xs.length*size) (_: ∀ x∈ys,x.length=size)
 (h1: ∀ (i j:Nat) x y,xs[i]?=some x->x[j]?=some y-> ∃ u,us[i*size+j]?=some u/\FRd w X u y) (h2: ∀ (i j:Nat) x y,ys[i]?=some x->x[j]?=some y-> ∃ u,news[i*size+j]?=some u/\FRd w X u y):
 ∀ (i j:Nat) x y,(xs++ys)[i]?=some x->x[j]?=some y-> ∃ u,(us++news)[i*size+j]?=some u/\FRd w X u y:=by
 intro i j x y hx hy
 by_cases hi:i<xs.length
 .rw[qi hi] at hx
  obtain⟨u,hu,hf⟩:=h1 i j x y hx hy
  exact⟨u,by rw[qi (List.getElem?_eq_some_iff.1 hu).1];exact hu,hf⟩
 rw[getElem?_append_right (by omega)] at hx
 obtain⟨u,hu,hf⟩:=h2 (i - xs.length) j x y hx hy
 refine⟨u,?_,hf⟩
 have dP:xs.length*size<=i*size:=qn _ (by omega)
 rw[getElem?_append_right (by omega),I9,<-hu]
 congr 1
 rw[Nat.sub_mul]
 omega
theorem kS (w:World) (row:Option Nat):w.grownBy w row:=⟨rfl,rfl,rfl,qp _,fun _ _ _=>rfl⟩
def DD (P:Program) (T:Tab) (b:Builtin) (args:Array Operand) (ts:Array TypeId):Prop:=
 ∀ {c:gZ} {w:World} {X:Nat->Prop} {ρ:Places} {H D R:List Ob} {o:Oper} {e:Operand->Value} {ρv:Operand->PV} {r:Res},
  o.op= .call {callee:= .builtin b,args:=args,argTypes:=ts}->HRd c w X ρ (H++(D++R))->(∀ id,H.length<=id->id<H.length+D.length->ρ[id]?=some none)->(∀ x∈args,PRd w X ρ (e x) (ρv x))->
  ja T H b ts.toList (args.toList.map ρv)=some r->r.cond->r.heap.length=H.length+D.length->OpOK c w X ρ H.length (H.length+D.length) (r.heap++R) ((execOp e o).run P w) r.val
theorem n_ {w:World} (t ty e e':TypeId) (i:TypeInfo) (ht:P.underlying t=some (.slice e)) (hi:P.info? e=some i)
 (g sLen sCap:Nat) (cur:Array Value) (hg:w.heap[g]?=some (.cells cur e' (0,0)))
 (a:Addr) (m c:Nat) (news:List Value) (hl:news.length=m*i.size) (kJ: ∀ (j:Nat) u,news[j]?=some u->w.cell? (a.add j)=some u) (h1: ∀ u∈news,u.oneCell'=true)
 (qY:sLen+m<=sCap) (K6:sLen*i.size+news.length<=cur.size):
 (Builtin.append_ #[t,t] ty #[.slice (some ⟨g,0,none⟩) sLen sCap,.slice (some a) m c]).run P w=
  .ok (.slice (some ⟨g,0,none⟩) (sLen+m) sCap) (w.setRow g (cur.toList.take (sLen*i.size)++news++cur.toList.drop (sLen*i.size+news.length)).toArray):=by
 have hf:=run_firstCells_some (P:=P) w i.size m a m c news hl kJ
 have ck:=run_storeCells_at P g (sLen*i.size) e' news 0 cur w hg (by simpa using K6) h1
 simp only[Nat.add_zero] at ck
 simp[Builtin.append_,run_underlying ht,sizeOf,typeInfo,hi,Builtin.lenOf,qY,hf,Addr.add_lit,ck]
theorem oa {w:World} (t ty e:TypeId) (i:TypeInfo) (ht:P.underlying t=some (.slice e)) (hi:P.info? e=some i) (g n cap:Nat) (mL:n<=cap):
 (Builtin.append_ #[t,t] ty #[.slice (some ⟨g,0,none⟩) n cap,.slice none 0 0]).run P w= .ok (.slice (some ⟨g,0,none⟩) n cap) w:=by
 simp[Builtin.append_,run_underlying ht,sizeOf,typeInfo,hi,Builtin.lenOf,Builtin.firstCells,mL,storeCells]
theorem xC {H G:List Ob} {id:Nat} (h:id<H.length):(H++G).set id .dead=H.set id .dead++G:=by
 rw[set_append_left _ _ h]
theorem qN {ρ:Places} {id:Nat} {p:Place} (h:ρ[id]?=some (some p)):ρ.set id (some p)=ρ:=by
 apply ext_getElem?;intro j;by_cases hj:id=j
 .subst hj;rw[qv (List.getElem?_eq_some_iff.1 h).1,h]
 rw[getElem?_set_ne hj]
theorem jc (w:World) (g:Nat) (cs:Array Value):w.grownBy (w.setRow g cs) (some g):=
 ⟨rfl,rfl,rfl,by simp,fun k _ hk=>setRow_other w g k _ (fun e=>hk (by simp[e]))⟩
theorem jd {cur:Array Value} {o:Nat} {vs:List Value} (h:o+vs.length<=cur.size) (i:Nat):
 (cur.toList.take o++vs++cur.toList.drop (o+vs.length)).toArray[i]?=if i<o then cur[i]? else if i<o+vs.length then vs[i - o]? else cur[i]?:=by
 have:=jE (l:=cur.toList) (new:=vs) (off:=o) (by simpa using h) i
 simpa [fF] using this
theorem HRd.reRow {c:gZ} {w:World} {X:Nat->Prop} {ρ:Places} {F:List Ob} (h:HRd c w X ρ F) {id:Nat} {p:Place} {xs zs:List (List FV)} {g:Nat} (hp:ρ[id]?=some (some p)) (gM:F[id]?=some (.row true xs))
 (jk:p.b=some g) {cur new:Array Value} (kC:w.heap[g]?=some (.cells cur p.e (0,0))) (dQ:new.size=cur.size) (nu:zs.length<=xs.length) (vA: ∀ z∈zs,z.length=p.size)
 (K7: ∀ (i j:Nat) x y,zs[i]?=some x->x[j]?=some y-> ∃ u,new[i*p.size+j]?=some u/\FRd w X u y):
 ∃ X',HRd c (w.setRow g new) X' ρ (F.set id (.row true zs))/\Stp c w (w.setRow g new) X X' ρ ρ:=by
 have pN:=jc w g new
 have kW:=setRow_heap w g cur new p.e (0,0) kC
 obtain⟨⟨BC,mQ,us,gX,TY⟩,BD⟩:=h.ob id p _ hp gM
 have w7:X g:=(BD g jk).1 rfl
 have pD:w.ownsRow 0 p.e p.size (.slice (some ⟨g,0,none⟩) xs.length p.cap) xs.length us:=by simpa [Place.val,jk] using gX
 obtain⟨A',fB⟩:=pD
 rcases fB with⟨h5,_⟩ | ⟨g',cap',Xw,h5,_,IL,mL,sC,w8,vC⟩
 .cases h5
 cases h5
 rw[kC] at IL
 cases IL
 have yu:zs.length*p.size<=xs.length*p.size:=qn _ nu
 have IM:xs.length*p.size<=p.cap*p.size:=qn _ mL
 have BE:(w.setRow g new).ownsRow 0 p.e p.size (.slice (some ⟨g,0,none⟩) zs.length p.cap) zs.length (new.toList.take (zs.length*p.size)):=by
  refine⟨by have e9:new.toList.length=cur.size:=dQ;rw[length_take,e9,w8];omega,.inr ⟨g,p.cap,new,rfl,dk _,kW,by omega,sC,by rw[dQ,w8],rfl⟩⟩
 have bS:=h.put (id:=id) (p:=p) (ob:= .row true zs) (row:=some g) (w':=w.setRow g new) (List.getElem?_eq_some_iff.1 gM).1 (.inr hp) pN
  (by intro g' kA;cases kA;exact w7)
  (fun j2 q o2 g2 wZ hq fE iM eI=>by
   have e7:g2≠g:=by
    intro he;subst he;exact wZ (h.inj j2 id q p o2 _ g2 hq hp fE gM iM rfl eI jk)
   exact⟨by simp[e7],by rw[jk];simp;exact fun he=>e7 he.symm⟩)
  (fun g2 fg=>by rw[jk] at fg;cases fg;exact .inr w7)
  (fun g2 fg=>by rw[jk] at fg;cases fg;exact⟨(h.own id p _ g hp gM rfl jk).1,Nat.lt_of_lt_of_le (h.own id p _ g hp gM rfl jk).2 pN.size⟩)
  (fun g2 fg=>by cases fg;exact(h.own id p _ g hp gM rfl jk).1)
  ⟨⟨BC,vA,new.toList.take (zs.length*p.size),by simpa [Place.val,jk] using BE,by
   intro i2 k y1 y2 Ci wR;have iR:i2<zs.length:=(List.getElem?_eq_some_iff.1 Ci).1;have IP:(i2+1)*p.size<=zs.length*p.size:=qn _ iR;rw[Nat.add_mul] at IP;have hk:k<p.size:=by rw[<-vA y1 (mem_of_getElem? Ci)];exact(List.getElem?_eq_some_iff.1 wR).1
   obtain⟨u,hu,hf⟩:=K7 i2 k y1 y2 Ci wR;refine⟨u,?_,hf.mono ⟨pN.size,fun b hb mG=>pN.block b hb (fun he=>mG (by cases he;exact w7))⟩ (fun b hb mG=>by
    rcases mG with mG | mG
    .exact mG
    rw[jk] at mG;cases mG;exact w7)⟩
   rw[getElem?_take,if_pos (by omega),Array.getElem?_toList,hu]⟩,
   fun g2 fg=>⟨fun _=> .inr fg,fun _=>rfl⟩⟩
 rw[qN hp] at bS
 exact⟨_,bS.1,bS.2⟩
theorem py {w:World} (t ty e:TypeId) (i:TypeInfo) (ht:P.underlying t=some (.slice e)) (hi:P.info? e=some i) (a:Option Addr) (n:Nat) (b:Option Addr) (c:Nat):
 (Builtin.append_ #[t,t] ty #[.slice a n n,.slice b 0 c]).run P w= .ok (.slice a n n) w:=by
 have hf:(Builtin.firstCells i.size 0 (.slice b 0 c)).run P w= .ok #[] w:=by
  cases b with
  | none=>rfl
  | some b=>exact run_firstCells_some (P:=P) w i.size 0 b 0 c [] (by simp) (by simp)
 cases a with
 | none=>simp[Builtin.append_,run_underlying ht,sizeOf,typeInfo,hi,Builtin.lenOf,hf]
 | some a=>simp[Builtin.append_,run_underlying ht,sizeOf,typeInfo,hi,Builtin.lenOf,hf,storeCells]
theorem VP {c:gZ} {w:World} {X:Nat->Prop} {ρ:Places} {F:List Ob} (h:HRd c w X ρ F) {id:Nat} {p:Place} {r:Bool} {xs:List (List FV)} (hp:ρ[id]?=some (some p)) (gM:F[id]?=some (.row r xs)) (jk:p.b=none):xs=[]:=by
 obtain⟨⟨_,_,us,gX,_⟩,_⟩:=h.ob id p _ hp gM;obtain⟨_,fB⟩:=gX;rcases fB with⟨_,h6⟩ | ⟨g',cap',Xw,h5,_⟩
 .exact List.eq_nil_of_length_eq_zero h6
 simp[Place.val,jk] at h5
theorem HJ {α:Type} {l:List α} {i:Nat} {x:α} (h:l[i]?=some x):l.set i x=l:=by
 apply ext_getElem?;intro j;by_cases hj:i=j
 .subst hj;rw[qv (List.getElem?_eq_some_iff.1 h).1,h]
 rw[getElem?_set_ne hj]
theorem OD (hT:cQ P T) (s x:Operand) (t:TypeId):DD P T .append #[s,x] #[t,t]:=by
 intro c w X ρ H D R o e ρv r ho h hD hρ au hc aF;have hs:=hρ s (by simp);have hx:=hρ x (by simp);simp only[ja,map_cons,map_nil,if_true] at au;split at au;rotate_left
 .cases au
 rename_i i hi;split at au;rotate_left
 .cases au
 rename_i el l7;have hd:=(hT _ _ hi).desc;rw[l7] at hd;simp only[gq] at hd;split at au;rotate_left
 .cases au
 rename_i ie mO;split at au;rotate_left
 .cases au
 rename_i dW;split at au;rotate_left
 .cases au
 rename_i cd ys Xx;obtain⟨ti,z,fP,en,wS,hz,vA,dJ,dh,hrd⟩:=o7 (hT _ _ mO) (w:=w) (X:=X) (ρ:=ρ);obtain⟨consts,dC⟩:=AR (P:=P) (w:=w) (e:=e) ho;have eW:(execOp e o).run P w=((Builtin.append_ #[t,t] o.type #[e s,e x]).run P w).andThen fun v w'=> .ok (.value v) w':=by
  rw[dC];simp[builtin]
 have vD: ∀ (j:Nat) q o2 g,j≠H.length->ρ[j]?=some (some q)->(H++(D++R))[j]?=some o2->o2.rw=true->q.b=some g->some g≠none:=by
  intros;simp
 split at au
 .rename_i hv;rw[hv] at hs;cases au;obtain⟨d,rfl⟩:=o8 (D:=D) (by simp at aF;omega);obtain⟨lS,Zz,Pk⟩:=hc;obtain⟨Fy,sV⟩:=EW h bP dW hx Xx lS;have pP:e s= .slice none 0 0:=by
   generalize e s=u at hs;cases hs;rfl
  rcases sV with⟨vB,rfl⟩ | ⟨a,cc,news,vB,ei,kJ,lR,hcell⟩
  .have hr:=run_append_owned_none (P:=P) w 0 t o.type el ti ie.size hd fP (.slice none 0 0) 0 [] (World.ownsRow_nil w 0 el ie.size);obtain⟨X',ρ',h1,h2,h3,h4⟩:=eF (xs:=[]) (us:=[]) (size:=ie.size) (el:=el) (v:= .slice none 0 0) (row:=none) h (hD _ (qp _) (by simp)) (kS w none) (by simp) vD (by simp) dW (by simp)
    (World.ownsRow_nil w 0 el ie.size) (by simp[Value.ownBlock]) (by simp)
   refine⟨_,_,X',ρ',.inl ?_,h1,h2,h3,fun id eD=>h4 id (by simp at eD;omega)⟩;rw[eW,pP,vB,hr];rfl
  by_cases hm:ys.length=0
  .have yp:ys=[]:=List.eq_nil_of_length_eq_zero hm;subst yp;obtain⟨v',w',hr,gg,hg,ab7⟩:=run_append_own (P:=P) w 0 t o.type el ti z ie.size ie.bytes hd fP hz en wS vA dW (.slice none 0 0) 0 [] (World.ownsRow_nil w 0 el ie.size) a 0 cc news (by simpa using ei) kJ lR (by simp[maxLen]) (by simp) (dk _);have hv':=ab7.2 ⟨rfl,rfl⟩;have b8:news=[]:=List.eq_nil_of_length_eq_zero (by simpa using ei);subst b8;obtain⟨X',ρ',h1,h2,h3,h4⟩:=eF (xs:=[]) (us:=[]) (size:=ie.size) (el:=el) (v:=v') (row:=none) h (hD _ (qp _) (by simp)) hg (by simp) vD (by simp) dW (by simp)
    (by simpa using gg) (by rw[hv'];simp[Value.ownBlock]) (by simp)
   refine⟨_,_,X',ρ',.inl ?_,h1,h2,h3,fun id eD=>h4 id (by simp at eD;omega)⟩;rw[eW,pP,vB];simp only[length_nil];rw[hr];rfl
  have hr:=run_append_nil (P:=P) w t o.type el ti z hd fP hz a ys.length cc news (by rw[en];exact ei) kJ (by omega) (by omega) (by rw[wS];omega);have Fv:=grownCap_ge w ys.length 0 el;have sC:=grownCap_le_maxLen w ys.length 0 el (by simp only[maxLen];omega);have gg:=lP (w:=w) (el:=el) vA (xs:=[]) (news:=news) (by simpa using ei) Fv sC;simp only[Array.empty_append,nil_append] at gg;obtain⟨X',ρ',h1,h2,h3,h4⟩:=eF (xs:=ys) (size:=ie.size) (el:=el) (v:= .slice (some ⟨w.heap.size,0,none⟩) ys.length (grownCap w ys.length 0 el)) (row:=none) h (hD _ (qp _) (by simp))
   (eL w _ none) (by simp) vD (by simp) dW Fy gg (by
    intro g hg;simp only[Value.ownBlock,qo] at hg;left;omega) hcell
  refine⟨_,_,X',ρ',.inl ?_,h1,h2,h3,fun id eD=>h4 id (by simp at eD;omega)⟩;rw[eW,pP,vB,hr];rfl
 .rename_i xs hv;rw[hv] at hs;split at au
  .rename_i vK;cases au;have K8:H.length=H.length+D.length:=aF;have hD0:D=[]:=List.eq_nil_of_length_eq_zero (by omega);subst hD0;have Pd: ∃ b k,e x= .slice b 0 k:=by
    unfold ML at vK;split at vK
    .rename_i heq;rw[heq] at hx;exact⟨_,_,hx.litInv⟩
    .rename_i heq;rw[heq] at hx;generalize e x=u at hx;cases hx;exact⟨_,_,rfl⟩
    cases vK
   obtain⟨b0,k0,vB⟩:=Pd;generalize pP:e s=u at hs;have w9:=hs;cases hs with
   | clip b n _ hf=>
    refine OpOK.still (by simpa using h) (u:= .slice b n n) ?_ w9;rw[eW,pP,vB,py t o.type el ti hd fP];rfl
  cases au;obtain⟨d,rfl⟩:=o8 (D:=D) (by simp at aF;omega);obtain⟨lS,MZ,I9,Zz,Pk⟩:=hc;obtain⟨Fy,sV⟩:=EW h bP dW hx Xx lS;rcases sV with⟨_,rfl⟩ | ⟨a,cc,news,vB,ei,kJ,lR,hcell⟩
  .simp at MZ
  generalize pP:e s=u at hs;cases hs with
  | clip b n _ hf=>
   have hn:xs.length=n:=by
    cases hf with
    | nil=>rfl
    | sl ad n cap s _ us hn w6=>exact hn
   subst hn;obtain⟨_,TZ⟩:=EV dW hf I9;rcases TZ with⟨hb,rfl⟩ | ⟨a0,c0,olds,hb,pR,od,jo,ab8⟩
   .have hr:=run_append_nil (P:=P) w t o.type el ti z hd fP hz a ys.length cc news (by rw[en];exact ei) kJ (by omega) (by omega) (by rw[wS];simp at Zz;omega);have Fv:=grownCap_ge w ys.length 0 el;have sC:=grownCap_le_maxLen w ys.length 0 el (by simp only[maxLen];omega);have gg:=lP (w:=w) (el:=el) vA (xs:=[]) (news:=news) (by simpa using ei) Fv sC;simp only[Array.empty_append,nil_append] at gg;obtain⟨X',ρ',h1,h2,h3,h4⟩:=eF (xs:=ys) (size:=ie.size) (el:=el) (v:= .slice (some ⟨w.heap.size,0,none⟩) ys.length (grownCap w ys.length 0 el)) (row:=none) h (hD _ (qp _) (by simp))
     (eL w _ none) (by simp) vD (by simp) dW Fy gg (by
      intro g hg;simp only[Value.ownBlock,qo] at hg;left;omega) hcell
    simp only[length_nil,Nat.zero_add,nil_append] at h2 h3 ⊢;refine⟨_,_,X',ρ',.inl ?_,h1,h2,h3,fun id eD=>h4 id (by simp at eD;omega)⟩;rw[eW,pP,vB];rw[hb,hr];rfl
   cases hb;have hr:=run_append_grow (P:=P) w t o.type el ti z hd fP hz a0 xs.length xs.length olds (by rw[en];exact pR) od a ys.length cc news (by rw[en];exact ei) kJ (by omega) (by omega)
    (growslice_fits (by omega) (by rw[wS];exact Zz))
   have Fv:=grownCap_ge w (xs.length+ys.length) xs.length el;have sC:=grownCap_le_maxLen w (xs.length+ys.length) xs.length el (by simp only[maxLen];omega);have gg:=lP (w:=w) (el:=el) vA (xs:=olds) (news:=news) (by rw[qe,pR,ei,Nat.add_mul]) Fv sC;obtain⟨X',ρ',h1,h2,h3,h4⟩:=eF (xs:=xs++ys) (size:=ie.size) (el:=el) (v:= .slice (some ⟨w.heap.size,0,none⟩) (xs.length+ys.length) (grownCap w (xs.length+ys.length) xs.length el)) (row:=none) h (hD _ (qp _) (by simp))
    (eL w _ none) (by simp) vD (by simp) dW (by
     intro y hy;rw[qr] at hy;rcases hy with hy | hy
     .exact I9 y hy
     .exact Fy y hy) (by rw[qe];exact gg) (by
     intro g hg;simp only[Value.ownBlock,qo] at hg;left;omega) (o9 pR Fy ab8 hcell)
   rw[qe] at h3;refine⟨_,_,X',ρ',.inl ?_,h1,h2,h3,fun id eD=>h4 id (by simp at eD;omega)⟩;rw[eW,pP,vB,hr];rfl
 .rename_i id len sz hv;rw[hv] at hs;split at au;rotate_left
  .cases au
  rename_i xs gM;split at au;rotate_left
  .cases au
  rename_i dQ;subst dQ;split at au
  .rename_i BF;cases au;have K8:(H.set id (Ob.row true (xs.take len++ys++xs.drop (len+ys.length)))).length=H.length+D.length:=aF;rw[qkb] at K8;have hD0:D=[]:=List.eq_nil_of_length_eq_zero (by omega);subst hD0;obtain⟨lS,qY⟩:=hc;obtain⟨Fy,sV⟩:=EW h bP dW hx Xx lS;obtain⟨p,hp,ni,fB⟩:=hs.lslInv;have BG:id<H.length:=(List.getElem?_eq_some_iff.1 gM).1;have fk:(H++([]++R))[id]?=some (.row true xs):=bP id _ gM;have T0: ∀ ob,(H++([]++R)).set id ob=H.set id ob++R:=fun ob=>by rw[nil_append,set_append_left _ _ BG]
   rcases fB with⟨hg,pP,_,rfl⟩ | ⟨g,og,hg,pP,qZ,jf⟩
   .have KH:=VP h hp fk hg;subst KH;have yp:ys=[]:=List.eq_nil_of_length_eq_zero (by rw[length_nil] at qY;omega);subst yp;have eD:H.set id (.row true (List.take 0 ([]:List (List FV))++([]:List (List FV))++List.drop (0+List.length ([]:List (List FV))) ([]:List (List FV))))=H:=HJ gM;show OpOK c w X ρ H.length (H.length+([]:List Ob).length) (H.set id (.row true (List.take 0 ([]:List (List FV))++([]:List (List FV))++List.drop (0+List.length ([]:List (List FV))) ([]:List (List FV))))++R) _ _;rw[eD];refine OpOK.still (by simpa using h) (u:= .slice none 0 0) ?_ (by rw[<-ni];exact .lsl0 id p hp hg);rcases sV with⟨vB,_⟩ | ⟨a,cc,news,vB,ei,kJ,lR,hcell⟩
    .have hr:=run_append_owned_none (P:=P) w 0 t o.type el ti ie.size hd fP (.slice none 0 0) 0 [] (World.ownsRow_nil w 0 el ie.size);rw[eW,pP,vB,hr];rfl
    rw[eW,pP,vB,length_nil,py t o.type el ti hd fP];rfl
   have hog:og=0:=by
    rcases jf with jf | jf
    .rw[jf];simp
    exact absurd rfl jf.2
   subst hog;simp only[Nat.sub_zero] at pP;obtain⟨⟨BC,mQ,us,gX,TY⟩,BD⟩:=h.ob id p _ hp fk;have pD:w.ownsRow 0 p.e p.size (.slice (some ⟨g,0,none⟩) xs.length p.cap) xs.length us:=by simpa [Place.val,hg] using gX
   have nu:(xs.take len++ys++xs.drop (len+ys.length)).length=xs.length:=by simp;omega
   have vA: ∀ z∈xs.take len++ys++xs.drop (len+ys.length),z.length=p.size:=by
    intro z hz;rw[qr,qr] at hz;rcases hz with(hz | hz) | hz
    .exact mQ z (xW hz)
    .rw[Fy z hz,ni]
    exact mQ z (mem_of_mem_drop hz)
   obtain⟨A',fB⟩:=pD;rcases fB with⟨h5,_⟩ | ⟨g',cap',cur,h5,_,kC,mL,sC,w8,vC⟩
   .cases h5
   cases h5;rcases sV with⟨vB,rfl⟩ | ⟨a,cc,news,vB,ei,kJ,lR,hcell⟩
   .have hr:=oa (P:=P) (w:=w) t o.type el ti hd fP g len p.cap (by simp at qY;omega);simp only[length_nil,Nat.add_zero,List.append_nil,List.take_append_drop] at nu vA ⊢;rw[HJ gM];refine OpOK.still (by simpa using h) (u:= .slice (some ⟨g,0,none⟩) len p.cap) (by rw[eW,pP,vB,hr];rfl) ?_;have ow:=hs;rw[pP] at ow;exact ow
   have ahS:(len+ys.length)*ie.size<=cur.size:=by rw[w8,ni];exact qn _ (by omega)
   have K6:len*ti.size+news.length<=cur.size:=by rw[en,ei,<-Nat.add_mul];exact ahS
   have hr:=n_ (P:=P) (w:=w) t o.type el p.e ti hd fP g len p.cap cur kC a ys.length cc news (by rw[en];exact ei) kJ lR (by omega) K6;have cI:=fun k=>jd (cur:=cur) (o:=len*ti.size) (vs:=news) K6 k
   generalize kW:(cur.toList.take (len*ti.size)++news++cur.toList.drop (len*ti.size+news.length)).toArray=new at hr cI;have IQ:new.size=cur.size:=by
    rw[<-kW];simp only[List.size_toArray,qe,length_take,length_drop,Array.length_toList];omega
   have fL: ∀ (i j:Nat) x y,xs[i]?=some x->x[j]?=some y-> ∃ u,cur[i*p.size+j]?=some u/\FRd w X u y:=by
    intro i j x y vJ Ci;obtain⟨u,hu,hf⟩:=TY i j x y vJ Ci;rw[<-vC,getElem?_take] at hu;split at hu
    .exact⟨u,by rw[<-hu,Array.getElem?_toList],hf⟩
    cases hu
   have aa7: ∀ (i j:Nat) z y,(xs.take len++ys++xs.drop (len+ys.length))[i]?=some z->z[j]?=some y->j<p.size:=by
    intro i j z y hz hy;rw[<-vA z (mem_of_getElem? hz)];exact(List.getElem?_eq_some_iff.1 hy).1
   obtain⟨X',h1,h2⟩:=h.reRow hp fk hg kC IQ (zs:=xs.take len++ys++xs.drop (len+ys.length)) (by omega) vA (by
    intro i j z y hz hy;have hj:=aa7 i j z y hz hy;have xR:(xs.take len).length=len:=by rw[length_take];omega
    rw[en,<-ni] at cI;rw[ei,<-ni] at cI;by_cases h7:i<len
    .rw[append_assoc,qi (by omega),getElem?_take,if_pos h7] at hz;obtain⟨u,hu,hf⟩:=fL i j z y hz hy;have h8:(i+1)*p.size<=len*p.size:=qn _ h7;rw[Nat.add_mul] at h8;exact⟨u,by rw[cI,if_pos (by omega)];exact hu,hf⟩
    have h8:len*p.size<=i*p.size:=qn _ (by omega);by_cases h9:i<len+ys.length
    .rw[qi (by rw[qe];omega),getElem?_append_right (by omega),xR] at hz;obtain⟨u,hu,hf⟩:=hcell (i - len) j z y hz hy;have sW:(i - len+1)*p.size<=ys.length*p.size:=qn _ (by omega);rw[Nat.add_mul,Nat.sub_mul] at sW;refine⟨u,?_,hf⟩;rw[cI,if_neg (by omega),if_pos (by omega)];rw[<-ni,Nat.sub_mul] at hu;rw[<-hu];congr 1;omega
    rw[getElem?_append_right (by rw[qe];omega),qe,xR,List.getElem?_drop,show len+ys.length+(i - (len+ys.length))=i by omega] at hz;obtain⟨u,hu,hf⟩:=fL i j z y hz hy;have sW:(len+ys.length)*p.size<=i*p.size:=qn _ (by omega);rw[Nat.add_mul] at sW;exact⟨u,by rw[cI,if_neg (by omega),if_neg (by omega)];exact hu,hf⟩)
   rw[T0] at h1;refine⟨.slice (some ⟨g,0,none⟩) (len+ys.length) p.cap,w.setRow g new,X',ρ,.inl ?_,h2,h1,?_,fun _ _=>rfl⟩
   .rw[eW,pP,vB,hr];rfl
   have:=PRd.lsl (w:=w.setRow g new) (X:=X') (ρ:=ρ) id 0 (len+ys.length) 0 g p hp hg (by omega) (.inl (by simp));rw[<-ni];simpa using this
  cases au;obtain⟨d,rfl⟩:=o8 (D:=D) (by simp at aF;omega);obtain⟨lS,Fi,Zz,Pk⟩:=hc;obtain⟨Fy,sV⟩:=EW h bP dW hx Xx lS;obtain⟨p,hp,ni,fB⟩:=hs.lslInv;have BG:id<H.length:=(List.getElem?_eq_some_iff.1 gM).1;have fk:=bP (G:=[d]++R) id _ gM;obtain⟨⟨_,mQ,us,gX,TY⟩,BD⟩:=h.ob id p _ hp fk;have BH:=h.kill id;rw[xC BG] at BH;have Nl:(H.set id .dead).length=H.length:=by simp
  have hρ':ρ[(H.set id Ob.dead).length]?=some none:=by rw[Nl];exact hD _ (qp _) (by simp)
  have xR: ∀ y∈xs.take len++ys,y.length=ie.size:=by
   intro y hy;rw[qr] at hy;rcases hy with hy | hy
   .rw[mQ y (xW hy),ni]
   exact Fy y hy
  have BI:(xs.take len++ys).length=len+ys.length:=by simp;omega
  rcases fB with⟨hg,pP,_,rfl⟩ | ⟨g,og,hg,pP,qZ,jf⟩
  .rw[List.take_zero,nil_append] at xR;simp only[List.take_zero,nil_append,Nat.zero_add] at Zz Pk ⊢;rcases sV with⟨vB,rfl⟩ | ⟨a,cc,news,vB,ei,kJ,lR,hcell⟩
   .have hr:=run_append_owned_none (P:=P) w 0 t o.type el ti ie.size hd fP (.slice none 0 0) 0 [] (World.ownsRow_nil w 0 el ie.size);obtain⟨X',ρ',h1,h2,h3,h4⟩:=eF (xs:=[]) (us:=[]) (size:=ie.size) (el:=el) (v:= .slice none 0 0) (row:=none) BH hρ' (kS w none) (by simp) (by intros;simp) (by simp) dW (by simp)
     (World.ownsRow_nil w 0 el ie.size) (by simp[Value.ownBlock]) (by simp)
    rw[Nl] at h3 h4;refine⟨_,_,X',ρ',.inl ?_,h1,h2,h3,fun id eD=>h4 id (by simp at eD;omega)⟩;rw[eW,pP,vB,hr];rfl
   by_cases hm:ys.length=0
   .have yp:ys=[]:=List.eq_nil_of_length_eq_zero hm;subst yp;obtain⟨v',w',hr,gg,hg,ab7⟩:=run_append_own (P:=P) w 0 t o.type el ti z ie.size ie.bytes hd fP hz en wS vA dW (.slice none 0 0) 0 [] (World.ownsRow_nil w 0 el ie.size) a 0 cc news (by simpa using ei) kJ lR (by simp[maxLen]) (by simp) (dk _);have hv':=ab7.2 ⟨rfl,rfl⟩;have b8:news=[]:=List.eq_nil_of_length_eq_zero (by simpa using ei);subst b8;obtain⟨X',ρ',h1,h2,h3,h4⟩:=eF (xs:=[]) (us:=[]) (size:=ie.size) (el:=el) (v:=v') (row:=none) BH hρ' hg (by simp) (by intros;simp) (by simp) dW (by simp)
     (by simpa using gg) (by rw[hv'];simp[Value.ownBlock]) (by simp)
    rw[Nl] at h3 h4;refine⟨_,_,X',ρ',.inl ?_,h1,h2,h3,fun id eD=>h4 id (by simp at eD;omega)⟩;rw[eW,pP,vB];simp only[length_nil];rw[hr];rfl
   have hr:=run_append_nil (P:=P) w t o.type el ti z hd fP hz a ys.length cc news (by rw[en];exact ei) kJ (by omega) (by omega) (by rw[wS];omega);have Fv:=grownCap_ge w ys.length 0 el;have sC:=grownCap_le_maxLen w ys.length 0 el (by simp only[maxLen];omega);have gg:=lP (w:=w) (el:=el) vA (xs:=[]) (news:=news) (by simpa using ei) Fv sC;simp only[Array.empty_append,nil_append] at gg;obtain⟨X',ρ',h1,h2,h3,h4⟩:=eF (xs:=ys) (size:=ie.size) (el:=el) (v:= .slice (some ⟨w.heap.size,0,none⟩) ys.length (grownCap w ys.length 0 el)) (row:=none) BH hρ'
    (eL w _ none) (by simp) (by intros;simp) (by simp) dW Fy gg (by
     intro g hg;simp only[Value.ownBlock,qo] at hg;left;omega) hcell
   rw[Nl] at h3 h4;refine⟨_,_,X',ρ',.inl ?_,h1,h2,h3,fun id eD=>h4 id (by simp at eD;omega)⟩;rw[eW,pP,vB,hr];rfl
  have hog:og=0:=by
   rcases jf with jf | jf
   .rw[jf];simp
   exact absurd rfl jf.2
  subst hog;simp only[Nat.sub_zero] at pP;have pD:w.ownsRow 0 p.e p.size (.slice (some ⟨g,0,none⟩) xs.length p.cap) xs.length us:=by simpa [Place.val,hg] using gX
  have BJ:=EX pD Fi;rw[ni] at BJ pD;have K9: ∀ (i j:Nat) x y,(xs.take len)[i]?=some x->x[j]?=some y-> ∃ u,(us.take (len*ie.size))[i*ie.size+j]?=some u/\FRd w X u y:=by
   intro i j x y hx hy;rw[getElem?_take] at hx;split at hx
   .rename_i dJ;obtain⟨u,hu,hf⟩:=TY i j x y hx hy;rw[ni] at hu;have hj:j<ie.size:=by rw[<-ni,<-mQ x (mem_of_getElem? hx)];exact(List.getElem?_eq_some_iff.1 hy).1
    have h1:(i+1)*ie.size<=len*ie.size:=qn _ dJ;rw[Nat.add_mul] at h1;exact⟨u,by rw[getElem?_take,if_pos (by omega)];exact hu,hf⟩
   cases hx
  have A':(us.take (len*ie.size)).length=(xs.take len).length*ie.size:=by
   rw[BJ.1,length_take,Nat.min_eq_left Fi]
  have w7:X g:=(BD g hg).1 rfl;have Nm: ∀ (j:Nat) q o2 g2,j≠(H.set id Ob.dead).length->ρ[j]?=some (some q)->(H.set id .dead++([d]++R))[j]?=some o2->o2.rw=true->q.b=some g2->some g2≠some g:=by
   intro j q o2 g2 _ hq fE iM eI he;cases he;by_cases hj:id=j
   .subst hj;rw[qi (by simpa using BG),qv BG] at fE;cases fE;cases iM
   have yV:(H++([d]++R))[j]?=some o2:=by
    rw[<-xC BG,getElem?_set_ne hj] at fE;exact fE
   exact hj (h.inj id j p q _ o2 g hp hq fk yV rfl iM hg eI)
  rcases sV with⟨vB,rfl⟩ | ⟨a,cc,news,vB,ei,kJ,lR,hcell⟩
  .have hr:=oa (P:=P) (w:=w) t o.type el ti hd fP g len p.cap (by omega);simp only[List.append_nil,length_nil,Nat.add_zero] at xR BI ⊢;obtain⟨X',ρ',h1,h2,h3,h4⟩:=eF (xs:=xs.take len) (size:=ie.size) (el:=p.e) (v:= .slice (some ⟨g,0,none⟩) len p.cap) (row:=some g) BH hρ' (kS w (some g)) (by intro g' kA;cases kA;exact w7)
    Nm (by intro g' kA;cases kA;exact(h.own id p _ g hp fk rfl hg).1) dW xR (by rw[BI];exact BJ) (by intro g' kA;simp only[Value.ownBlock,qo] at kA;right;rw[kA]) K9
   rw[Nl] at h3 h4;rw[BI] at h3;refine⟨_,_,X',ρ',.inl ?_,h1,h2,h3,fun id eD=>h4 id (by simp at eD;omega)⟩;rw[eW,pP,vB,hr];rfl
  by_cases qY:len+ys.length<=p.cap
  .obtain⟨xM,fB⟩:=BJ;rcases fB with⟨h5,_⟩ | ⟨g',cap',cur,h5,_,kC,mL,sC,fL,vC⟩
   .cases h5
   cases h5;have K6:len*ti.size+news.length<=cur.size:=by rw[en,ei,fL,<-Nat.add_mul];exact qn _ qY
   have hr:=n_ (P:=P) (w:=w) t o.type el p.e ti hd fP g len p.cap cur kC a ys.length cc news (by rw[en];exact ei) kJ lR qY K6;have BE:(w.setRow g (cur.toList.take (len*ti.size)++news++cur.toList.drop (len*ti.size+news.length)).toArray).ownsRow 0 p.e ie.size (.slice (some ⟨g,0,none⟩) (len+ys.length) p.cap) (len+ys.length) (us.take (len*ie.size)++news):=by
    have mI:(us.take (len*ie.size)++news).length=(len+ys.length)*ie.size:=by rw[qe,xM,ei,Nat.add_mul]
    refine⟨mI,.inr ⟨g,p.cap,_,rfl,dk _,setRow_heap w g cur _ p.e _ kC,qY,sC,?_,?_⟩⟩
    .rw[en] at K6 ⊢;simp only[List.size_toArray,qe,length_take,length_drop,Array.length_toList];omega
    rw[en,vC,<-mI];exact List.take_left
   have pN:w.grownBy (w.setRow g (cur.toList.take (len*ti.size)++news++cur.toList.drop (len*ti.size+news.length)).toArray) (some g):=
    ⟨rfl,rfl,rfl,by simp,fun k _ hk=>setRow_other w g k _ (fun e=>hk (by simp[e]))⟩
   obtain⟨X',ρ',h1,h2,h3,h4⟩:=eF (xs:=xs.take len++ys) (size:=ie.size) (el:=p.e) (v:= .slice (some ⟨g,0,none⟩) (len+ys.length) p.cap) (row:=some g) BH hρ'
    pN (by intro g' kA;cases kA;exact w7)
    Nm (by intro g' kA;cases kA;exact(h.own id p _ g hp fk rfl hg).1) dW xR (by rw[BI];exact BE) (by intro g' kA;simp only[Value.ownBlock,qo] at kA;right;rw[kA]) (o9 A' Fy K9 hcell)
   rw[Nl] at h3 h4;rw[BI] at h3;refine⟨_,_,X',ρ',.inl ?_,h1,h2,h3,fun id eD=>h4 id (by simp at eD;omega)⟩;rw[eW,pP,vB,hr];rfl
  have K7: ∀ (j:Nat) v,(us.take (len*ie.size))[j]?=some v->w.cell? ((⟨g,0,none⟩:Addr).add j)=some v:=BJ.cells (g:=g) rfl;have hr:=run_append_grow (P:=P) w t o.type el ti z hd fP hz ⟨g,0,none⟩ len p.cap (us.take (len*ie.size)) (by rw[en];exact BJ.1) K7 a ys.length cc news (by rw[en];exact ei) kJ (by omega) (by omega)
   (growslice_fits (by omega) (by rw[wS];exact Zz))
  have Fv:=grownCap_ge w (len+ys.length) p.cap el;have sC:=grownCap_le_maxLen w (len+ys.length) p.cap el (by simp only[maxLen];omega);have gg:=lP (w:=w) (el:=el) vA (xs:=us.take (len*ie.size)) (news:=news) (by rw[qe,BJ.1,ei,Nat.add_mul]) Fv sC;obtain⟨X',ρ',h1,h2,h3,h4⟩:=eF (xs:=xs.take len++ys) (size:=ie.size) (el:=el) (v:= .slice (some ⟨w.heap.size,0,none⟩) (len+ys.length) (grownCap w (len+ys.length) p.cap el)) (row:=none) BH hρ'
   (eL w _ none) (by simp) (by intros;simp) (by simp) dW xR (by rw[BI];exact gg) (by
    intro g hg;simp only[Value.ownBlock,qo] at hg;left;omega) (o9 A' Fy K9 hcell)
  rw[Nl] at h3 h4;rw[BI] at h3;refine⟨_,_,X',ρ',.inl ?_,h1,h2,h3,fun id eD=>h4 id (by simp at eD;omega)⟩;rw[eW,pP,vB,hr];rfl
 cases au
end
end Go.AM
namespace Go.AM
section
variable {P:Program} {T:Tab}
theorem aap (hT:cQ P T) (s:Operand) (t:TypeId):DD P T .len #[s] #[t]:=by
 intro c w X ρ H D R o e ρv r ho h hD hρ au hc aF;have hs:=hρ s (by simp);simp only[ja,map_cons,map_nil] at au;split at au;rotate_left
 .cases au
 rename_i i hi;have hd:=(hT _ _ hi).desc;obtain⟨consts,dC⟩:=AR (P:=P) (w:=w) (e:=e) ho;have eW:(execOp e o).run P w=((Builtin.len_ #[t] o.type #[e s]).run P w).andThen fun v w'=> .ok (.value v) w':=by
  rw[dC];simp[builtin]
 split at au
 .rename_i el l7;rw[l7] at hd;simp only[gq] at hd;split at au;rotate_left
  .cases au
  rename_i n hn;cases au;have iS:D=[]:=List.eq_nil_of_length_eq_zero (by simp at aF;simpa using aF);subst iS;have kd: ∃ b cap,e s= .slice b n cap:=by
   generalize e s=u at hs;generalize ρv s=v at hs hn;cases hs with
   | fv _ _ hf=>cases hf with
    | nil=>simp[lenOf] at hn;subst hn;exact⟨_,_,rfl⟩
    | sl ad m cap s xs us hxs=>simp only[lenOf,qo] at hn;subst hn;rw[hxs];exact⟨_,_,rfl⟩
    | lit v _=>simp[lenOf] at hn
    | fp=>simp[lenOf] at hn
    | fn=>simp[lenOf] at hn
   | nilsl=>simp[lenOf] at hn;subst hn;exact⟨_,_,rfl⟩
   | clip a m xs hf=>cases hf with
    | nil=>simp[lenOf] at hn;subst hn;exact⟨_,_,rfl⟩
    | sl ad m cap s xs us hxs=>simp only[lenOf,qo] at hn;subst hn;rw[hxs];exact⟨_,_,rfl⟩
   | lsl0=>simp[lenOf] at hn;subst hn;exact⟨_,_,rfl⟩
   | lsl=>simp[lenOf] at hn;subst hn;exact⟨_,_,rfl⟩
   | any=>simp[lenOf] at hn
   | ptr=>simp[lenOf] at hn
   | agg=>simp[lenOf] at hn
   | tup=>simp[lenOf] at hn
   | tab=>simp[lenOf] at hn
  obtain⟨b,cap,pP⟩:=kd;exact OpOK.still h (u:= .int .i64 n) (by rw[eW,pP];simp[Builtin.len_,run_underlying hd,goInt]) (.fv _ _ (.lit _ rfl))
 .rename_i n el l7;rw[l7] at hd;simp only[gq] at hd;cases au;have iS:D=[]:=List.eq_nil_of_length_eq_zero (by simp at aF;simpa using aF);subst iS;exact OpOK.still h (u:= .int .i64 n) (by rw[eW];simp[Builtin.len_,run_underlying hd,goInt]) (.fv _ _ (.lit _ rfl))
 .rename_i l7;rw[l7] at hd;simp only[gq] at hd;split at au;rotate_left
  .cases au
  rename_i str hv;cases au;have iS:D=[]:=List.eq_nil_of_length_eq_zero (by simp at aF;simpa using aF);subst iS;rw[hv] at hs;have pP:=hs.litInv;exact OpOK.still h (u:= .int .i64 str.size) (by rw[eW,pP];simp[Builtin.len_,run_underlying hd,goInt]) (.fv _ _ (.lit _ rfl))
 cases au
theorem AU {w:World} {X:Nat->Prop} {ρ:Places} {u v:Value} {x y:PV} {k:IntKind} {a b:Int} (h:o0 x y=some (k,a,b)) (hu:PRd w X ρ u x) (hv:PRd w X ρ v y):u= .int k a/\v= .int k b:=by
 unfold o0 at h;split at h
 .split at h
  .rename_i hk;subst hk;cases h;exact⟨hu.litInv,hv.litInv⟩
  cases h
 cases h
theorem aaq (x y:Operand) (t t':TypeId):DD P T .max #[x,y] #[t,t']:=by
 intro c w X ρ H D R o e ρv r ho h hD hρ au hc aF;have hx:=hρ x (by simp);have hy:=hρ y (by simp);obtain⟨consts,dC⟩:=AR (P:=P) (w:=w) (e:=e) ho;simp only[ja,map_cons,map_nil] at au;split at au;rotate_left
 .cases au
 rename_i k a b hb;cases au;have iS:D=[]:=List.eq_nil_of_length_eq_zero (by simp at aF;simpa using aF);subst iS;obtain⟨e1,e2⟩:=AU hb hx hy;exact OpOK.still h (u:= .int k (if b>a then b else a)) (by rw[dC];simp[builtin,Builtin.max_,Builtin.max2,e1,e2]) (.fv _ _ (.lit _ rfl))
theorem aar (x y:Operand) (t t':TypeId):DD P T .min #[x,y] #[t,t']:=by
 intro c w X ρ H D R o e ρv r ho h hD hρ au hc aF;have hx:=hρ x (by simp);have hy:=hρ y (by simp);obtain⟨consts,dC⟩:=AR (P:=P) (w:=w) (e:=e) ho;simp only[ja,map_cons,map_nil] at au;split at au;rotate_left
 .cases au
 rename_i k a b hb;cases au;have iS:D=[]:=List.eq_nil_of_length_eq_zero (by simp at aF;simpa using aF);subst iS;obtain⟨e1,e2⟩:=AU hb hx hy;exact OpOK.still h (u:= .int k (if b<a then b else a)) (by rw[dC];simp[builtin,Builtin.min_,Builtin.min2,e1,e2]) (.fv _ _ (.lit _ rfl))
theorem HRd.shrink {c:gZ} {w w':World} {X:Nat->Prop} {ρ:Places} {F:List Ob} (h:HRd c w X ρ F) {id:Nat} {p:Place} {xs:List (List FV)} {n g:Nat} (hp:ρ[id]?=some (some p)) (gM:F[id]?=some (.row true xs)) (hn:n<=xs.length)
 (jk:p.b=some g) (pN:w.grownBy w' (some g)) {cur new:Array Value} (kC:w.heap[g]?=some (.cells cur p.e (0,0))) (kW:w'.heap[g]?=some (.cells new p.e (0,0))) (dQ:new.size=cur.size) (fA: ∀ (k:Nat),k<n*p.size->new[k]?=cur[k]?):
 ∃ X',HRd c w' X' ρ (F.set id (.row true (xs.take n)))/\Stp c w w' X X' ρ ρ:=by
 obtain⟨⟨BC,mQ,us,gX,TY⟩,BD⟩:=h.ob id p _ hp gM
 have w7:X g:=(BD g jk).1 rfl
 have pD:w.ownsRow 0 p.e p.size (.slice (some ⟨g,0,none⟩) xs.length p.cap) xs.length us:=by simpa [Place.val,jk] using gX
 obtain⟨A',fB⟩:=pD
 rcases fB with⟨h5,_⟩ | ⟨g',cap',Xw,h5,_,IL,mL,sC,w8,vC⟩
 .cases h5
 cases h5
 rw[kC] at IL
 cases IL
 have yu:n*p.size<=xs.length*p.size:=qn _ hn
 have IM:xs.length*p.size<=p.cap*p.size:=qn _ mL
 have BE:w'.ownsRow 0 p.e p.size (.slice (some ⟨g,0,none⟩) n p.cap) n (new.toList.take (n*p.size)):=by
  refine⟨by have e9:new.toList.length=cur.size:=dQ;rw[length_take,e9,w8];omega,.inr ⟨g,p.cap,new,rfl,dk _,kW,by omega,sC,by rw[dQ,w8],rfl⟩⟩
 have qZ:(xs.take n).length=n:=by rw[length_take];omega
 have bS:=h.put (id:=id) (p:=p) (ob:= .row true (xs.take n)) (row:=some g) (w':=w') (List.getElem?_eq_some_iff.1 gM).1 (.inr hp) pN
  (by intro g' kA;cases kA;exact w7)
  (fun j2 q o2 g2 wZ hq fE iM eI=>by
   have e7:g2≠g:=by
    intro he;subst he;exact wZ (h.inj j2 id q p o2 _ g2 hq hp fE gM iM rfl eI jk)
   exact⟨by simp[e7],by rw[jk];simp;exact fun he=>e7 he.symm⟩)
  (fun g2 fg=>by rw[jk] at fg;cases fg;exact .inr w7)
  (fun g2 fg=>by rw[jk] at fg;cases fg;exact⟨(h.own id p _ g hp gM rfl jk).1,Nat.lt_of_lt_of_le (h.own id p _ g hp gM rfl jk).2 pN.size⟩)
  (fun g2 fg=>by cases fg;exact(h.own id p _ g hp gM rfl jk).1)
  ⟨⟨BC,fun x hx=>mQ x (xW hx),new.toList.take (n*p.size),by rw[qZ];simpa [Place.val,jk] using BE,by
   intro i2 k y1 y2 Ci wR;have iR:i2<n:=by have:=(List.getElem?_eq_some_iff.1 Ci).1;rw[qZ] at this;exact this
   rw[getElem?_take,if_pos iR] at Ci;have IP:(i2+1)*p.size<=n*p.size:=qn _ iR;rw[Nat.add_mul] at IP;have hk:k<p.size:=by rw[<-mQ y1 (mem_of_getElem? Ci)];exact(List.getElem?_eq_some_iff.1 wR).1
   obtain⟨u,hu,hf⟩:=TY i2 k y1 y2 Ci wR;refine⟨u,?_,hf.mono ⟨pN.size,fun b hb mG=>pN.block b hb (fun he=>mG (by cases he;exact w7))⟩ (fun b hb mG=>by
    rcases mG with mG | mG
    .exact mG
    rw[jk] at mG;cases mG;exact w7)⟩
   rw[<-vC,getElem?_take,if_pos (by omega),Array.getElem?_toList] at hu;rw[getElem?_take,if_pos (by omega),Array.getElem?_toList,fA _ (by omega),hu]⟩,
   fun g2 fg=>⟨fun _=> .inr fg,fun _=>rfl⟩⟩
 rw[qN hp] at bS
 exact⟨_,bS.1,bS.2⟩
theorem Sq (hT:cQ P T) (x:Operand) (t:TypeId):DD P T .clear #[x] #[t]:=by
 intro c w X ρ H D R o e ρv r ho h hD hρ au hc aF;have hx:=hρ x (by simp);simp only[ja,map_cons,map_nil] at au;split at au;rotate_left
 .cases au
 rename_i i hi;split at au;rotate_left
 .cases au
 rename_i el l7;have hd:=(hT _ _ hi).desc;rw[l7] at hd;simp only[gq] at hd;split at au;rotate_left
 .cases au
 rename_i ie mO;split at au;rotate_left
 .cases au
 rename_i id off len s hv;split at au;rotate_left
 .cases au
 rename_i xs gM;split at au;rotate_left
 .cases au
 rename_i hs;cases au;obtain⟨ti,z,fP,en,wS,hz,vA,dJ,dh,hrd⟩:=o7 (hT _ _ mO) (w:=w) (X:=X) (ρ:=ρ);obtain⟨consts,dC⟩:=AR (P:=P) (w:=w) (e:=e) ho;have eW:(execOp e o).run P w=((Builtin.clear_ #[t] o.type #[e x]).run P w).andThen fun v w'=> .ok (.value v) w':=by
  rw[dC];simp[builtin]
 have K8:(H.set id (Ob.row true (xs.take off))).length=H.length+D.length:=aF;rw[qkb] at K8;have iS:D=[]:=List.eq_nil_of_length_eq_zero (by omega);subst iS;have BG:=(List.getElem?_eq_some_iff.1 gM).1;have fk:(H++([]++R))[id]?=some (.row true xs):=bP id _ gM;have T0:(H++([]++R)).set id (.row true (xs.take off))=H.set id (.row true (xs.take off))++R:=by
  rw[nil_append,set_append_left _ _ BG]
 rw[hv] at hx;generalize mP:e x=u at hx;cases hx with
 | lsl0 _ p hp jk=>
  have h0:H.set id (Ob.row true (xs.take 0))=H:=by
   obtain⟨⟨_,_,us,gX,_⟩,_⟩:=h.ob id p _ hp fk;have KH:xs=[]:=by
    obtain⟨_,fB⟩:=gX;rcases fB with⟨_,h6⟩ | ⟨g',cap',Xw,h5,_⟩
    .exact List.eq_nil_of_length_eq_zero h6
    simp[Place.val,jk] at h5
   subst KH;apply ext_getElem?;intro j;by_cases hj:id=j
   .subst hj;rw[qv BG,gM];rfl
   rw[getElem?_set_ne hj]
  show OpOK c w X ρ H.length (H.length+([]:List Ob).length) (H.set id (Ob.row true (xs.take 0))++R) _ _;rw[h0];exact OpOK.still (by simpa using h) (u:= .tuple #[]) (by rw[eW,mP];simp[Builtin.clear_,run_underlying hd]) (.tup #[] [] rfl (by simp))
 | lsl _ _ _ oo g p hp jk hl jf=>
  have fr:off+len<=xs.length:=hc;obtain⟨⟨BC,mQ,us,gX,TY⟩,BD⟩:=h.ob id p _ hp fk;have pD:w.ownsRow 0 p.e p.size (.slice (some ⟨g,0,none⟩) xs.length p.cap) xs.length us:=by simpa [Place.val,jk] using gX
  obtain⟨A',fB⟩:=pD;rcases fB with⟨h5,_⟩ | ⟨g',cap',cur,h5,_,kC,mL,sC,w8,vC⟩
  .cases h5
  cases h5;by_cases ahT:len=0
  .subst ahT;obtain⟨X',h1,h2⟩:=h.shrink hp fk (n:=off) (by omega) jk (w':=w) (kS w (some g)) kC kC rfl (fun _ _=>rfl);rw[T0] at h1;refine⟨.tuple #[],w,X',ρ,.inl (by rw[eW,mP];simp[Builtin.clear_,run_underlying hd]),h2,h1,.tup #[] [] rfl (by simp),fun _ _=>rfl⟩
  have amI:oo=off*p.size:=by rcases jf with h6 | ⟨h6,_⟩<;>omega
  subst amI;have hzc:(Builtin.zeroCells z.cells len).size=len*p.size:=by rw[size_zeroCells,vA,<-hs]
  have IM:(off+len)*p.size<=p.cap*p.size:=qn _ hl;rw[Nat.add_mul] at IM;have vz: ∀ v∈(Builtin.zeroCells z.cells len).toList,v.oneCell'=true:=by
   intro v Ul;rw[Array.mem_toList_iff] at Ul;unfold Builtin.zeroCells at Ul;rw[Array.mem_map] at Ul;obtain⟨k,hk,rfl⟩:=Ul;have hzp:0<z.cells.size:=by
    rcases Nat.eq_zero_or_pos z.cells.size with h0 | h0
    .rw[h0] at hk;omega
    exact h0
   have aL:k % z.cells.size<z.cells.size:=Nat.mod_lt _ hzp;refine dh (k % z.cells.size) _ ?_;simp[aL]
  have ck:=run_storeCells_at P g (off*p.size) p.e (Builtin.zeroCells z.cells len).toList 0 cur w kC (by simp only[Array.length_toList,hzc];omega) vz;simp only[Nat.add_zero,Array.length_toList] at ck;have cI:=fun k=>jd (cur:=cur) (o:=off*p.size) (vs:=(Builtin.zeroCells z.cells len).toList) (by simp only[Array.length_toList,hzc];omega) k
  simp only[Array.length_toList] at cI;have pN:=jc w g (cur.toList.take (off*p.size)++(Builtin.zeroCells z.cells len).toList++cur.toList.drop (off*p.size+(Builtin.zeroCells z.cells len).size)).toArray;have sZ:=setRow_heap w g cur (cur.toList.take (off*p.size)++(Builtin.zeroCells z.cells len).toList++cur.toList.drop (off*p.size+(Builtin.zeroCells z.cells len).size)).toArray p.e (0,0) kC;have ZA:(execOp e o).run P w= .ok (.value (.tuple #[])) (w.setRow g (cur.toList.take (off*p.size)++(Builtin.zeroCells z.cells len).toList++cur.toList.drop (off*p.size+(Builtin.zeroCells z.cells len).size)).toArray):=by
   rw[eW,mP];obtain⟨n,rfl⟩: ∃ n,len=n+1:=⟨len - 1,by omega⟩;simp[Builtin.clear_,run_underlying hd,zeroValue,typeInfo,fP,hz,ck]
  generalize kW:(cur.toList.take (off*p.size)++(Builtin.zeroCells z.cells len).toList++cur.toList.drop (off*p.size+(Builtin.zeroCells z.cells len).size)).toArray=new at ZA pN cI sZ;have IQ:new.size=cur.size:=by
   rw[<-kW];simp only[List.size_toArray,qe,length_take,length_drop,Array.length_toList,hzc];omega
  obtain⟨X',h1,h2⟩:=h.shrink hp fk (n:=off) (by omega) jk (w':=w.setRow g new) pN kC sZ IQ (fun k hk=>by rw[cI,if_pos hk]);rw[T0] at h1;exact⟨.tuple #[],_,X',ρ,.inl ZA,h2,h1,.tup #[] [] rfl (by simp),fun _ _=>rfl⟩
theorem Sr (hT:cQ P T) (b:Builtin) (args:Array Operand) (ts:Array TypeId):DD P T b args ts:=by
 intro c w X ρ H D R o e ρv r ho h hD hρ au hc aF;have kK:=au;unfold ja at kK;split at kK
 .rename_i t v en fh;obtain⟨args⟩:=args;obtain⟨ts⟩:=ts;simp only at en;subst en;simp only at fh
  match args,fh with
  | [s],_=>exact aap hT s t ho h hD hρ au hc aF
 .rename_i t t' s x en fh;obtain⟨args⟩:=args;obtain⟨ts⟩:=ts;simp only at en;subst en;simp only at fh;split at kK
  .rename_i Bp;subst Bp
   match args,fh with
   | [s,x],_=>exact OD hT s x t ho h hD hρ au hc aF
  cases kK
 .rename_i t t' x y en fh;obtain⟨args⟩:=args;obtain⟨ts⟩:=ts;simp only at en;subst en;simp only at fh
  match args,fh with
  | [x,y],_=>exact aaq x y t t' ho h hD hρ au hc aF
 .rename_i t t' x y en fh;obtain⟨args⟩:=args;obtain⟨ts⟩:=ts;simp only at en;subst en;simp only at fh
  match args,fh with
  | [x,y],_=>exact aar x y t t' ho h hD hρ au hc aF
 .rename_i t x en fh;obtain⟨args⟩:=args;obtain⟨ts⟩:=ts;simp only at en;subst en;simp only at fh
  match args,fh with
  | [x],_=>exact Sq hT x t ho h hD hρ au hc aF
 cases kK
theorem HK {l:List PV} {s:Nat} (hl:l.length=s) (hs:0<s): ∀ (n k:Nat),k<n*s->(List.replicate n l).flatten[k]?=l[k % s]?
 | 0,k,h=>by simp at h
 | n+1,k,h=>by
  rw[List.replicate_succ,List.flatten_cons];by_cases hk:k<s
  .rw[qi (by omega),Nat.mod_eq_of_lt hk]
  have e1:(n+1)*s=n*s+s:=Nat.succ_mul n s;have e2:k % s=(k - s) % s:=Nat.mod_eq_sub_mod (by omega);rw[getElem?_append_right (by omega),hl,HK hl hs n (k - s) (by omega),e2]
theorem AV (hT:cQ P T) (t:TypeId) (len:Nat) (parts:Array (Nat×Operand)):EffOp P T (.buildSlice t len parts):=by
 intro c w X ρ H D R o e ρv r ho h hD hρ au hc aF;simp only[cq] at au;split at au;rotate_left
 .cases au
 rename_i i hi;split at au;rotate_left
 .cases au
 rename_i el l7;have hd:=(hT _ _ hi).desc;rw[l7] at hd;simp only[gq] at hd;split at au;rotate_left
 .cases au
 rename_i ie mO;split at au;rotate_left
 .cases au
 rename_i cs fL;split at au;rotate_left
 .cases au
 rename_i fs Fo;split at au;rotate_left
 .cases au
 rename_i hg;obtain⟨fg,DQ,hg4⟩:=hg;cases au;have q6:=si Fo;have K8:(ia H cs++[Ob.row true (d4 ie.size len fs)]).length=H.length+D.length:=aF;rw[qe] at K8;unfold ia at K8;rw[bH] at K8;obtain⟨d,rfl⟩:=o8 (D:=D) (by simp at K8;omega);obtain⟨X1,h1,vu,lR⟩:=h.shutIds (cs.flatMap fN);rw[fK _ q6] at h1;obtain⟨ti,z,fP,en,wS,hz,vA,dJ,dh,hrd⟩:=o7 (hT _ _ mO) (w:=w) (X:=X) (ρ:=ρ);have ahU:0<z.cells.size:=by omega
 have Nk:yM w X ρ ((Array.range (len*ti.size)).map fun k=>(z.cells[k % z.cells.size]!)) (List.replicate len ie.zero).flatten:=by
  have cI: ∀ (j:Nat) u,((Array.range (len*ti.size)).map fun k=>(z.cells[k % z.cells.size]!))[j]?=some u->j<len*ie.size/\z.cells[j % ie.size]?=some u:=by
   intro j u hu;rw[Array.getElem?_map,Option.map_eq_some_iff] at hu;obtain⟨k,hk,rfl⟩:=hu;have ke:=(Array.getElem?_eq_some_iff.1 hk).1;have jF:=(Array.getElem?_eq_some_iff.1 hk).2;simp only[Array.getElem_range] at jF;subst jF;have aL:j % z.cells.size<z.cells.size:=Nat.mod_lt _ ahU;refine⟨by simpa [en] using ke,?_⟩;rw[<-vA];simp[aL]
  refine⟨by simp[en,dJ],fun j u hu=>dh _ u (cI j u hu).2,fun j u x hu hx=>?_⟩;obtain⟨h2,h3⟩:=cI j u hu;rw[HK dJ DQ len j h2] at hx;exact(hrd _ u x h3 hx).1
 obtain⟨us',gX,gA⟩:=ES (w:=w) (X:=X) (ρ:=ρ) (pl:=fun j=>some (j*ie.size,ie.size)) (by intro i off s hi;cases hi;exact DQ) (parts.toList.map fun(i,x)=>(i,e x)) (parts.toList.map fun(j,x)=>(j,ρv x)) _ _ cs (by simp)
  (HF parts.toList (fun p hp=>hρ p.2 (by
   simp only[Op.operands,List.mem_toArray,mem_map];exact⟨p,hp,rfl⟩))) Nk fL
 have fr:cs.length=len*ie.size:=by
  have h2:=gA.n;have h3: ∀ (pv:List (Nat×PV)) (a b:List PV),nA (fun j=>some (j*ie.size,ie.size)) a pv=some b->b.length=a.length:=by
   intro pv
   induction pv with
   | nil=>intro a b vL;simp[nA] at vL;rw[vL]
   | cons p pv ih=>
    intro a b vL;obtain⟨i,x⟩:=p;simp only[nA] at vL;split at vL
    .rename_i aoy;rw[ih _ _ vL,hG (by omega)]
    cases vL
  rw[h3 _ _ _ fL];simp[dJ]
 have nt:fs.length=len*ie.size:=by rw[gK Fo,fr]
 have hXs:Stp c w w X X1 ρ ρ:=Stp.same_world vu;have Qc: ∀ (k:Nat) u y,us'[k]?=some u->fs[k]?=some y->FRd w X1 u y:=by
  intro k u y hu hy;have aL:k<cs.length:=by rw[fr,<-nt];exact(List.getElem?_eq_some_iff.1 hy).1
  obtain⟨y',DZ,PK⟩:=mD Fo k cs[k] (by simp[aL]);rw[hy] at DZ;cases DZ;refine m7 h bP (gA.rd k u cs[k] hu (by simp[aL])) PK vu (fun id eD=>lR id ?_);rw[List.mem_flatMap];exact⟨cs[k],by simp,eD⟩
 have ZB:ρ[(shutIds (cs.flatMap fN) H).length]?=some none:=by rw[bH];exact hD _ (qp _) (by simp)
 have Pk:len<=maxLen:=by simp only[maxLen];omega
 have gg:=World.ownsRow_lit (base:=0) (size:=ie.size) (e:=el) w us' len (dk _) Pk (by rw[gA.n,fr]);obtain⟨X',ρ',h2,h3,h4,h5⟩:=eF (xs:=d4 ie.size len fs) (size:=ie.size) (el:=el) (v:= .slice (some ⟨w.heap.size,0,none⟩) len len) (row:=none) h1 ZB (World.grownBy_alloc w _ none) (by simp) (by intros;simp) (by simp) DQ (tI nt)
  (by rw[h_];exact gg) (by
   intro g hg;simp only[Value.ownBlock,qo] at hg;left;omega) (by
   intro i' j x y hx hy;obtain⟨DZ,hj⟩:=qM hx hy;have aL:i'*ie.size+j<us'.size:=by rw[gA.n,fr,<-nt];exact(List.getElem?_eq_some_iff.1 DZ).1
   exact⟨us'[i'*ie.size+j],by simp[aL],Qc _ _ _ (by simp[aL]) DZ⟩)
 rw[bH,h_] at h4;rw[bH] at h5;refine⟨_,_,X',ρ',.inl ?_,hXs.trans h2,h3,h4,fun id eD=>h5 id (by simp at eD;omega)⟩;have ahV: ¬(16777216<len*ti.size):=by
  rw[en];have:len*ie.size<=1000*1000:=Nat.mul_le_mul (by omega) (by omega);omega
 by_cases P0:len=0
 .subst P0;have Nf:Array.range 0=#[]:=rfl;simp only[Nat.zero_mul,Nf,Array.map_empty] at gX;simp[execOp,ho,Instr.buildSlice,run_underlying hd,sizeOf,typeInfo,fP,en,Nf,gX,newRow]
 have e7: ¬(len*ti.size=0):=by
  rw[en];exact Nat.mul_ne_zero P0 (by omega)
 rw[en] at gX;simp only[en] at ahV e7;simp[execOp,ho,Instr.buildSlice,run_underlying hd,sizeOf,typeInfo,fP,en,zeroValue,hz,ahV,e7,gX,newRow]
end
end Go.AM
