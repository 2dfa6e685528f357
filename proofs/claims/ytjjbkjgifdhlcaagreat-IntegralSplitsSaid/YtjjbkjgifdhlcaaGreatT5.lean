/- The abstract machine:values that are built,literals of slices,frozen variables. -/
import Derived.Test.YtjjbkjgifdhlcaaGreatT4
import Derived.Laws.Tables
import Derived.Test.YtjjbkjgifdhlcaaGreatT1
open List (append_assoc ext_getElem? getElem?_append_right getElem?_of_mem getElem?_set_ne getElem?_take length_drop length_nil length_take map_cons map_nil mem_map mem_of_getElem? mem_of_mem_drop nil_append set_append_left)
namespace Go.AM
section
variable {P:Program} {T:Tab}
structure wR (w:World) (X:Nat->Prop) (ρ:Places) (us:Array Value) (cs:List PV):Prop where
 n:us.size=cs.length
 one: ∀ (i:Nat) u,us[i]?=some u->u.oneCell'=true
 rd: ∀ (i:Nat) u x,us[i]?=some u->cs[i]?=some x->PRd w X ρ u x
theorem Dj {w:World} {X:Nat->Prop} {ρ:Places} {pl:Nat->Option (Nat×Nat)} (m4: ∀ i off s,pl i=some (off,s)->0<s):
 ∀ (pc:List (Nat×Value)) (pv:List (Nat×PV)) (us:Array Value) (cs cs':List PV),pc.length=pv.length->(∀ (k:Nat) a b,pc[k]?=some a->pv[k]?=some b->a.1=b.1/\PRd w X ρ a.2 b.2)->
  wR w X ρ us cs->mf pl cs pv=some cs'-> ∃ us',Instr.fill pl us pc=some us'/\wR w X ρ us' cs'
 | [],[],us,cs,cs',_,_,h,hf=>by
  simp only[mf,qo] at hf;subst hf;exact⟨us,rfl,h⟩
 | (i,u)::pc,(j,x)::pv,us,cs,cs',hl,hp,h,hf=>by
  obtain⟨h1,h2⟩:=hp 0 _ _ rfl rfl;simp only at h1 h2;subst h1;simp only[mf] at hf;split at hf
  .cases hf
  .rename_i off size Zc;split at hf
   .rename_i hc;have dj:=m4 _ _ _ Zc;obtain⟨dX,df⟩:=sc h2 (by omega);have hrd:=yR h2;have mX:wR w X ρ (u.cells.zipIdx.foldl (fun cs (p:Value×Nat)=>cs.setIfInBounds (off+p.2) p.1) us) (eM cs off x.cells):=by
     have hg: ∀ m,(u.cells.zipIdx.foldl (fun cs (p:Value×Nat)=>cs.setIfInBounds (off+p.2) p.1) us)[m]?=if off<=m/\m<off+u.cells.size/\m<us.size then u.cells[m - off]? else us[m]?:=by
      intro m;have:=yQ u.cells.toList 0 off us m;rw[<-Array.foldl_toList,Array.toList_zipIdx];simpa using this
     have hsp:=fun m=>i9 (l:=cs) (new:=x.cells) (off:=off) (by omega) m
     have hn:=h.n;refine⟨?_,fun m v hv=>?_,fun m v y hv hy=>?_⟩
     .rw[gO (by omega),<-hn];have akg: ∀ (l:List (Value×Nat)) (a:Array Value),(l.foldl (fun cs (p:Value×Nat)=>cs.setIfInBounds (off+p.2) p.1) a).size=a.size:=by
       intro l
       induction l with
       | nil=>intro a;rfl
       | cons q l ih=>intro a;rw[List.foldl_cons,ih];simp
      rw[<-Array.foldl_toList];exact akg _ _
     .rw[hg] at hv;split at hv
      .exact df _ _ hv
      exact h.one _ _ hv
     rw[hg] at hv;rw[hsp] at hy;by_cases hm:off<=m/\m<off+u.cells.size/\m<us.size
     .rw[if_pos hm] at hv;rw[if_neg (by omega),if_pos (by omega)] at hy;exact hrd _ _ _ hv hy
     rw[if_neg hm] at hv;have aoy:m<us.size:=(Array.getElem?_eq_some_iff.1 hv).1;by_cases Xt:m<off
     .rw[if_pos Xt] at hy;exact h.rd _ _ _ hv hy
     rw[if_neg Xt,if_neg (by omega)] at hy;exact h.rd _ _ _ hv hy
    obtain⟨us',gS,eX⟩:=Dj m4 pc pv _ _ _ (by simpa using hl) (fun k a b ha hb=>hp (k+1) a b (by simpa using ha) (by simpa using hb)) mX hf;refine⟨us',?_,eX⟩;simp only[Instr.fill,Zc];rw[if_neg (by have:=h.n;simp;omega)];exact gS
   .cases hf
 | [],_::_,_,_,_,hl,_,_,_=>by simp at hl
 | _::_,[],_,_,_,hl,_,_,_=>by simp at hl
theorem Gj {w:World} {X:Nat->Prop} {ρ:Places} {e:Operand->Value} {ρv:Operand->PV} (parts:List (Nat×Operand)) (h: ∀ p∈parts,PRd w X ρ (e p.2) (ρv p.2)):
 ∀ (k:Nat) a b,(parts.map fun(i,x)=>(i,e x))[k]?=some a->(parts.map fun(j,x)=>(j,ρv x))[k]?=some b->a.1=b.1/\PRd w X ρ a.2 b.2:=by
 intro k a b ha hb
 rw[List.getElem?_map,Option.map_eq_some_iff] at ha hb
 obtain⟨p,hp,rfl⟩:=ha
 obtain⟨q,hq,rfl⟩:=hb
 rw[hp] at hq;cases hq
 exact⟨rfl,h p (mem_of_getElem? hp)⟩
theorem vM {fs:List Fld}: ∀ (ffs:List Field) (k:Nat),(∀ (j:Nat) f,ffs[j]?=some f-> ∃ fd,fs[k+j]?=some fd/\f.offset=fd.off/\ ∃ ti,P.info? f.type=some ti/\ti.size=fd.size)->
 ∃ places,ffs.mapM (fun f=>(P.info? f.type).map fun i=>(f.offset,i.size))=some places/\places.length=ffs.length/\ ∀ (j:Nat),j<ffs.length->places[j]?=(fs[k+j]?).map fun fd=>(fd.off,fd.size)
 | [],k,_=>⟨[],rfl,rfl,by simp⟩
 | f::ffs,k,h=>by
  obtain⟨fd,zI,ho,ti,eT,hs⟩:=h 0 f rfl;obtain⟨places,hp,hl,hg⟩:=vM ffs (k+1) (fun j f' hj=>by
   have:=h (j+1) f' (by simpa using hj);rwa [show k+(j+1)=k+1+j by omega] at this)
  refine⟨(fd.off,fd.size)::places,by simp[List.mapM_cons,eT,hp,ho,hs],by simp[hl],fun j hj=>?_⟩;cases j with
  | zero=>simp at zI ⊢;simp[zI]
  | succ j=>
   simp only[List.getElem?_cons_succ];rw[hg j (by simpa using hj),show k+1+j=k+(j+1) by omega]
theorem Gk (hT:cx P T) (t:TypeId) (parts:Array (Nat×Operand)):ee P T (.build t parts):=by
 intro c w X ρ H F o e ρv r lo hi ho h hH hρ ak hc;simp only[cj] at ak;split at ak;rotate_left
 .cases ak
 rename_i i hi;split at ak;rotate_left
 .cases ak
 rename_i fs DZ;split at ak;rotate_left
 .cases ak
 rename_i cs eR;simp only[Res.pure,qo] at ak;subst ak;have hd:=(hT _ _ hi).desc;rw[DZ] at hd;obtain⟨ffs,hu,dX,Jz⟩:=hd;obtain⟨ti,z,eT,ef,_,hz,tY,dW,df,hrd⟩:=nR (hT _ _ hi) (w:=w) (X:=X) (ρ:=ρ);have m4: ∀ (i off s:Nat),((fs[i]?).map fun(f:Fld)=>(f.off,f.size))=some (off,s)->0<s:=by
  intro i off s hi;rw[Option.map_eq_some_iff] at hi;obtain⟨fd,zI,he⟩:=hi;cases he;have aH:i<ffs.size:=by rw[dX];exact(List.getElem?_eq_some_iff.1 zI).1
  exact(Jz i _ _ (Array.getElem?_eq_getElem aH) zI).2.1
 obtain⟨us',gS,eX⟩:=Dj (w:=w) (X:=X) (ρ:=ρ) (pl:=fun(i:Nat)=>(fs[i]?).map fun(f:Fld)=>(f.off,f.size)) m4 (parts.toList.map fun(i,x)=>(i,e x)) (parts.toList.map fun(j,x)=>(j,ρv x)) z.cells i.zero cs (by simp)
  (Gj parts.toList (fun p hp=>hρ p.2 (by
   simp only[Op.operands,List.mem_toArray,mem_map];exact⟨p,hp,rfl⟩))) ⟨by omega,df,fun j u x hu hx=>(hrd j u x hu hx).1⟩ eR
 obtain⟨places,hp,hl,hg⟩:=vM (P:=P) (fs:=fs) ffs.toList 0 (fun j f hj=>by
  have SK:ffs[j]?=some f:=by simpa using hj
  have aH:j<fs.length:=by rw[<-dX];exact(Array.getElem?_eq_some_iff.1 SK).1
  obtain⟨h1,_,ti,d,h3,h4,_⟩:=Jz j f fs[j] SK (by simp[aH]);exact⟨fs[j],by simp[aH],h1,ti,h3,h4⟩)
 have akh:(fun(i:Nat)=>(fs[i]?).map fun(f:Fld)=>(f.off,f.size))=fun(i:Nat)=>(places.toArray[i]?:Option (Nat×Nat)):=by
  funext j;simp only[List.getElem?_toArray];by_cases hj:j<ffs.size
  .rw[hg j (by simpa using hj)];simp
  rw[List.getElem?_eq_none (by omega),List.getElem?_eq_none (by rw[hl];simp;omega)];rfl
 rw[akh] at gS;refine⟨rfl,OpOK.still h (u:= .agg us') ?_ (.agg _ _ eX.n eX.one eX.rd)⟩;have hb:P.built t (parts.map fun(i,x)=>(i,e x)).toList=some us':=by
  simp only[Program.built,eT,hu,hz,hp];simpa using gS
 simp only[execOp,ho,Sem.run_bind,run_build w t _ us' hb,Result.andThen_ok];rfl
theorem yS {H:List Ob}: ∀ {xs:List PV} {ys:List FV},rE H xs=some ys->ys.length=xs.length/\ ∀ (i:Nat) y,ys[i]?=some y-> ∃ x,xs[i]?=some x/\fS H x=some y
 | [],ys,h=>by simp[rE] at h;subst h;simp
 | x::xs,ys,h=>by
  simp only[rE] at h;split at h
  .rename_i y ys' h1 h2;cases h;obtain⟨hl,hg⟩:=yS h2;refine⟨by simp[hl],fun i z hz=>?_⟩;cases i with
   | zero=>simp at hz;subst hz;exact⟨x,rfl,h1⟩
   | succ i=>simp at hz ⊢;exact hg i z hz
  cases h
theorem eP {G:List Ob}: ∀ (ids:List Nat) {F:List Ob},(∀ id∈ids,id<F.length)->shutIds ids (F++G)=shutIds ids F++G
 | [],F,_=>rfl
 | id::ids,F,h=>by
  show shutIds ids (shut (F++G) id)=shutIds ids (shut F id)++G;rw[F_ (h id (by simp)),eP ids (fun j hj=>by simp[shut];exact h j (by simp[hj]))]
theorem La {H:List Ob} {x:PV} {y:FV} (h:fB H x=some y): ∀ id∈eZ x,id<H.length:=by
 cases x with
 | lsl id off len s=>
  intro j hj;simp only[eZ,qz] at hj;subst hj;simp only[fB] at h;cases ho:H[j]? with
  | none=>rw[ho] at h;cases h
  | some o=>exact(List.getElem?_eq_some_iff.1 ho).1
 | _=>intro j hj;simp[eZ] at hj
theorem qJ {H:List Ob}: ∀ {xs:List PV} {ys:List FV},lJ H xs=some ys-> ∀ id∈xs.flatMap eZ,id<H.length
 | [],ys,h=>by simp
 | x::xs,ys,h=>by
  simp only[lJ] at h;split at h
  .rename_i y ys' h1 h2;intro id dk;rw[List.flatMap_cons,qr] at dk;rcases dk with dk | dk
   .exact La h1 id dk
   exact qJ h2 id dk
  cases h
theorem Dk {H:List Ob} {x:PV} {y:FV} (h:fS H x=some y): ∀ id∈me H x,id<H.length:=by
 unfold fS at h;unfold me;split at h
 .rename_i id;cases ho:H[id]? with
  | none=>rw[ho] at h;cases h
  | some o=>
   rw[ho] at h;cases o with
   | box rw cs=>
    simp only[Option.map_eq_some_iff] at h;obtain⟨ys,Ea,_⟩:=h;intro j hj;simp only[w7] at hj;rcases hj with rfl | hj
    .exact(List.getElem?_eq_some_iff.1 ho).1
    .exact qJ Ea j hj
   | _=>cases h
 exact La h
theorem Lb {H:List Ob} {x y:PV} (h:gW H x=some y): ∀ id∈oD H x,id<H.length:=by
 unfold gW at h;unfold oD;split at h
 .simp only[Option.map_eq_some_iff] at h;obtain⟨ys,Ea,_⟩:=h;exact qJ Ea
 rw[Option.map_eq_some_iff] at h;obtain⟨z,hz,_⟩:=h;exact Dk hz
theorem Gl {H:List Ob}: ∀ {xs ys:List PV},cw H xs=some ys-> ∀ id∈xs.flatMap (oD H),id<H.length
 | [],ys,h=>by simp
 | x::xs,ys,h=>by
  simp only[cw] at h;split at h
  .rename_i y ys' h1 h2;intro id dk;rw[List.flatMap_cons,qr] at dk;rcases dk with dk | dk
   .exact Lb h1 id dk
   exact Gl h2 id dk
  cases h
theorem OpOK.shutting {c:gD} {w:World} {X:Nat->Prop} {ρ:Places} {H G:List Ob} {lo hi:Nat} {ids:List Nat} (l_: ∀ id∈ids,id<H.length) (h:HRd c w X ρ (H++G)) {r:Result Next} {u:Value} {v:PV} (hr:r= .ok (.value u) w)
 (hu: ∀ X',(∀ b,X' b->X b)->(∀ id∈ids,∀ p o g,ρ[id]?=some (some p)->(H++G)[id]?=some o->o.alive->p.b=some g-> ¬X' g)->PRd w X' ρ u v):OpOK c w X ρ lo hi (shutIds ids H++G) r v:=by
 obtain⟨X',h',hs,hn⟩:=h.shutIds ids
 rw[eP ids l_] at h'
 exact⟨u,w,X',ρ,.inl hr,Stp.same_world hs,h',hu X' hs hn,fun _ _=>rfl⟩
theorem Lc {w:World} {X:Nat->Prop} {ρ:Places} {u:Value} {x:PV} {v:Value} (h:PRd w X ρ u x) (hl:LN x=some v):u=v:=by
 unfold LN at hl;split at hl
 .cases hl;exact h.litInv
 cases hl
theorem B6: ∀ {cs:List PV} {vs:List Value},w9 cs=some vs->vs.length=cs.length/\ ∀ (i:Nat) c,cs[i]?=some c-> ∃ v,vs[i]?=some v/\LN c=some v
 | [],vs,h=>by simp[w9] at h;subst h;simp
 | c::cs,vs,h=>by
  simp only[w9] at h;split at h
  .rename_i v us h1 h2;cases h;obtain⟨hl,hg⟩:=B6 h2;refine⟨by simp[hl],fun i x hx=>?_⟩;cases i with
   | zero=>simp at hx;subst hx;exact⟨v,rfl,h1⟩
   | succ i=>exact hg i x (by simpa using hx)
  cases h
theorem Ua {w:World} {X:Nat->Prop} {ρ:Places} {u:Value} {x:PV} {v:Value} (h:PRd w X ρ u x) (hl:Oy x=some v):u=v:=by
 unfold Oy at hl;split at hl
 .rename_i cs;rw[Option.map_eq_some_iff] at hl;obtain⟨vs,fA,rfl⟩:=hl;obtain⟨aD,hg⟩:=B6 fA;cases h with
  | agg us _ hn h1 hr=>
   congr 1;apply Array.ext
   .simp[aD,hn]
   intro i oI iq;obtain⟨v,hv,hc⟩:=hg i cs[i] (by simp[<-hn,oI]);have:=Lc (hr i us[i] cs[i] (by simp[oI]) (by simp[<-hn,oI])) hc;rw[this];simp at iq;rw[qb iq] at hv;cases hv;simp
 exact Lc h hl
theorem B7: ∀ {cs:List PV} {vs:List Value},vx cs=some vs->vs.length=cs.length/\ ∀ (i:Nat) c,cs[i]?=some c-> ∃ v,vs[i]?=some v/\Oy c=some v
 | [],vs,h=>by simp[vx] at h;subst h;simp
 | c::cs,vs,h=>by
  simp only[vx] at h;split at h
  .rename_i v us h1 h2;cases h;obtain⟨hl,hg⟩:=B7 h2;refine⟨by simp[hl],fun i x hx=>?_⟩;cases i with
   | zero=>simp at hx;subst hx;exact⟨v,rfl,h1⟩
   | succ i=>exact hg i x (by simpa using hx)
  cases h
theorem Dl (fn:Fn) (first captured:Array Operand):EffOp P T (.makeFunc fn first captured):=by
 intro c w X ρ H D R o e ρv r ho h hD hρ ak hc aD;simp only[cj] at ak;split at ak;rotate_left
 .split at ak
  .rename_i vs fA vr;cases ak;have hd:D=[]:=(by simpa using aD);subst hd;have Cl:captured=#[]:=by
    have:captured.toList=[]:=List.map_eq_nil_iff.1 vr;exact Array.toList_eq_nil_iff.1 this
   obtain⟨hl,hg⟩:=B7 fA;have R8:first.map e=List.toArray vs:=by
    apply Array.ext
    .simp[hl]
    intro i oI iq;have hif:i<first.size:=by simpa using oI
    obtain⟨v,hv,hlv⟩:=hg i (ρv first[i]) (by simp[hif]);have:=Ua (hρ first[i] (by simp[Op.operands])) hlv;rw[Array.getElem_map,this];simp at iq;rw[qb iq] at hv;cases hv;simp
   exact OpOK.still (u:= .func fn (List.toArray vs) #[]) h (by simp[execOp,ho,Instr.makeFunc,R8,Cl]) (.fv _ _ (.lit _ rfl))
  cases ak
 rename_i c1 c2 h1 h2;cases ak;have h5:(shutIds ((first.toList.map ρv++captured.toList.map ρv).flatMap (me H)) H).length=H.length+D.length:=aD;rw[a8] at h5;have hd:D=[]:=List.eq_nil_of_length_eq_zero (by omega);subst hd;obtain⟨zA,Su⟩:=yS h1;obtain⟨qL,eu⟩:=yS h2;have l_: ∀ id∈(first.toList.map ρv++captured.toList.map ρv).flatMap (me H),id<H.length:=by
  intro id dk;rw[List.mem_flatMap] at dk;obtain⟨x,hx,dk⟩:=dk;rw[qr] at hx;rcases hx with hx | hx
  .obtain⟨k,hk⟩:=getElem?_of_mem hx;have aH:k<c1.length:=by rw[zA];exact(List.getElem?_eq_some_iff.1 hk).1
   obtain⟨x',R7,hf⟩:=Su k c1[k] (by simp[aH]);rw[hk] at R7;cases R7;exact Dk hf id dk
  obtain⟨k,hk⟩:=getElem?_of_mem hx;have aH:k<c2.length:=by rw[qL];exact(List.getElem?_eq_some_iff.1 hk).1
  obtain⟨x',R7,hf⟩:=eu k c2[k] (by simp[aH]);rw[hk] at R7;cases R7;exact Dk hf id dk
 refine OpOK.shutting l_ h (u:= .func fn (first.map e) (captured.map e)) (by simp[execOp,ho,Instr.makeFunc]) (fun X' hX hn=> .fv _ _ (.fn fn _ _ _ _ (by simpa using zA.symm) (by simpa using qL.symm) ?_ ?_))
 .intro j u y hu hy;obtain⟨x,hx,hf⟩:=Su j y hy;simp at hu;obtain⟨a,ha,rfl⟩:=hu;rw[List.getElem?_map] at hx;simp only[Array.getElem?_toList,ha,Option.map_some,qo] at hx;subst hx;refine Df h bx (hρ a (by simp[Op.operands];exact .inl (Array.mem_of_getElem? ha))) hf hX (fun id dk=>hn id ?_);rw[List.mem_flatMap];exact⟨ρv a,List.mem_append.2 (.inl (mem_map.2 ⟨a,Array.mem_toList_iff.2 (Array.mem_of_getElem? ha),rfl⟩)),dk⟩
 intro j u y hu hy;obtain⟨x,hx,hf⟩:=eu j y hy;simp at hu;obtain⟨a,ha,rfl⟩:=hu;rw[List.getElem?_map] at hx;simp only[Array.getElem?_toList,ha,Option.map_some,qo] at hx;subst hx;refine Df h bx (hρ a (by simp[Op.operands];exact .inr (Array.mem_of_getElem? ha))) hf hX (fun id dk=>hn id ?_);rw[List.mem_flatMap];exact⟨ρv a,List.mem_append.2 (.inr (mem_map.2 ⟨a,Array.mem_toList_iff.2 (Array.mem_of_getElem? ha),rfl⟩)),dk⟩
end
end Go.AM
namespace Go.AM
theorem gP (s:Nat): ∀ (n:Nat) (l:List FV),(dG s n l).length=n
 | 0,_=>rfl
 | n+1,l=>by simp[dG,gP s n]
theorem sd (s:Nat): ∀ (n:Nat) (l:List FV) (i:Nat) x,(dG s n l)[i]?=some x->x=(l.drop (i*s)).take s
 | 0,_,_,_,h=>by simp[dG] at h
 | n+1,l,i,x,h=>by
  cases i with
  | zero=>simp[dG] at h;simp[h]
  | succ i=>
   simp only[dG,List.getElem?_cons_succ] at h;rw[sd s n _ i x h,List.drop_drop];congr 2;rw[Nat.add_mul];omega
theorem se {s n:Nat} {l:List FV} (h:l.length=n*s): ∀ x∈dG s n l,x.length=s:=by
 intro x hx;obtain⟨i,hi⟩:=getElem?_of_mem hx;have aH:i<n:=by have:=(List.getElem?_eq_some_iff.1 hi).1;rwa [gP] at this
 rw[sd s n l i x hi];have:(i+1)*s<=n*s:=qn _ aH;rw[Nat.add_mul] at this;simp;omega
theorem py {s n:Nat} {l:List FV} {i j:Nat} {x:List FV} {y:FV} (hx:(dG s n l)[i]?=some x) (hy:x[j]?=some y):l[i*s+j]?=some y/\j<s:=by
 rw[sd s n l i x hx,getElem?_take] at hy;split at hy
 .rw[List.getElem?_drop] at hy;exact⟨hy,by assumption⟩
 cases hy
section
variable {P:Program} {T:Tab}
def QT (w:World) (X:Nat->Prop) (size:Nat) (v:Value) (ys:List (List FV)):Prop:=
 (∀ y∈ys,y.length=size)/\((v= .slice none 0 0/\ys=[])\/ ∃ (a:Addr) (c:Nat) (news:List Value),v= .slice (some a) ys.length c/\news.length=ys.length*size/\(∀ (j:Nat) u,news[j]?=some u->w.cell? (a.add j)=some u)/\
  (∀ u∈news,u.oneCell'=true)/\ ∀ (i j:Nat) x y,ys[i]?=some x->x[j]?=some y-> ∃ u,news[i*size+j]?=some u/\FRd w X u y)
theorem Dm {w:World} {X:Nat->Prop} {size:Nat} (dj:0<size) {v:Value} {ys:List (List FV)} (h:FRd w X v (.sl ys)) (hl: ∀ y∈ys,y.length=size):QT w X size v ys:=by
 refine⟨hl,?_⟩;cases h with
 | nil=>exact .inl ⟨rfl,rfl⟩
 | sl ad n cap s _ us hn hc hs h0 hX hb hcell hrd=>
  right;have afJ: ∀ k,k<ys.length*size-> ∃ x y,ys[k / size]?=some x/\x[k % size]?=some y/\size=s:=by
   intro k hk;have h1:k / size<ys.length:=(Nat.div_lt_iff_lt_mul dj).2 hk;have hx:=ki h1;have h2:k % size<ys[k / size].length:=by rw[hl _ hx];exact Nat.mod_lt _ dj
   exact⟨ys[k / size],ys[k / size][k % size],by simp[h1],by simp[h2],by rw[<-hl _ hx,hs _ hx]⟩
  refine⟨ad,cap,(List.range (ys.length*size)).map fun k=>us (k / size) (k % size),by rw[hn],by simp,fun j u hu=>?_,fun u hu=>?_,fun i j x y hx hy=>?_⟩
  .rw[List.getElem?_map,Option.map_eq_some_iff] at hu;obtain⟨k,hk,rfl⟩:=hu;obtain⟨jG,iQ⟩:=List.getElem?_eq_some_iff.1 hk;rw[List.getElem_range] at iQ;subst iQ;have hk:j<ys.length*size:=by simpa using jG
   obtain⟨x,y,hx,hy,rfl⟩:=afJ j hk;rw[ib h0,<-hcell _ _ x y hx hy];congr 2;rw[Nat.mul_comm (j / size) size,Nat.div_add_mod]
  .rw[mem_map] at hu;obtain⟨k,hk,rfl⟩:=hu;rw[List.mem_range] at hk;obtain⟨x,y,hx,hy,_⟩:=afJ k hk;exact(hrd _ _ x y hx hy).one
  have aH:i<ys.length:=(List.getElem?_eq_some_iff.1 hx).1;have hj:j<size:=by rw[<-hl x (mem_of_getElem? hx)];exact(List.getElem?_eq_some_iff.1 hy).1
  have h1:(i+1)*size<=ys.length*size:=qn _ aH;rw[Nat.add_mul] at h1;have h2:i*size+j<ys.length*size:=by omega
  refine⟨us i j,?_,hrd i j x y hx hy⟩;have e1:(i*size+j) / size=i:=by
   rw[Nat.mul_comm,Nat.mul_add_div dj,Nat.div_eq_of_lt hj,Nat.add_zero]
  have e2:(i*size+j) % size=j:=by
   rw[Nat.mul_comm,Nat.mul_add_mod,Nat.mod_eq_of_lt hj]
  rw[List.getElem?_map,List.getElem?_range h2];simp only[Option.map_some,e1,e2]
theorem Ub {w:World} {X:Nat->Prop} {ρ:Places} {p:Place} {xs:List (List FV)} (hr:QL w X p xs) {id off len:Nat} {v:Value}
 (hv:PRd w X ρ v (.lsl id off len p.size)) (hp:ρ[id]?=some (some p)) (hl:off+len<=xs.length):QT w X p.size v ((xs.drop off).take len):=by
 refine⟨fun x hx=>hr.len x (mem_of_mem_drop (AY hx)),?_⟩
 obtain⟨us,gS,hcell⟩:=hr.cells
 obtain⟨q,hq,hqs,⟨hg,mY,rfl,rfl⟩ | ⟨g,og,hg,mY,qL,iU⟩⟩:=hv.lslInv
 .left
  rw[List.take_zero]
  exact⟨mY,rfl⟩
 right
 rw[hp] at hq;cases hq
 have aD:((xs.drop off).take len).length=len:=by simp;omega
 have fF:World.ownsRow w 0 p.e p.size (.slice (some ⟨g,0,none⟩) xs.length p.cap) xs.length us:=by simpa [Place.val,hg] using gS
 have zt:us.length=xs.length*p.size:=fF.1
 have AU:(off+len)*p.size<=xs.length*p.size:=qn _ hl
 rw[Nat.add_mul] at AU
 have df: ∀ (k:Nat) u,us[k]?=some u->u.oneCell'=true:=by
  intro k u hu;have hk:k<xs.length*p.size:=by rw[<-zt];exact(List.getElem?_eq_some_iff.1 hu).1
  have h1:k / p.size<xs.length:=(Nat.div_lt_iff_lt_mul hr.pos).2 hk;have h2:k % p.size<xs[k / p.size].length:=by rw[hr.len _ (ki h1)];exact Nat.mod_lt _ hr.pos
  obtain⟨u',Jv,hf⟩:=hcell (k / p.size) (k % p.size) xs[k / p.size] xs[k / p.size][k % p.size] (by simp[h1]) (by simp[h2]);rw[Nat.mul_comm (k / p.size),Nat.div_add_mod,hu] at Jv;cases Jv;exact hf.one
 refine⟨_,_,(us.drop (off*p.size)).take (len*p.size),by rw[aD];exact mY,by rw[aD];simp;omega,fun j u hu=>?_,fun u hu=>?_,fun i j x y hx hy=>?_⟩
 .rw[getElem?_take] at hu
  split at hu
  .rename_i hj
   rw[List.getElem?_drop] at hu
   have:=fF.cells (g:=g) rfl _ u hu
   rw[iJ,Nat.zero_add] at this
   have hog:og=off*p.size:=by
    rcases iU with iU | iU
    .exact iU
    have:len=0:=by omega
    subst this;omega
   rw[iJ,hog]
   exact this
  cases hu
 .obtain⟨k,hk⟩:=getElem?_of_mem (mem_of_mem_drop (AY hu))
  exact df k u hk
 rw[getElem?_take] at hx
 split at hx
 .rename_i hi
  rw[List.getElem?_drop] at hx
  obtain⟨u,hu,hf⟩:=hcell _ j x y hx hy
  refine⟨u,?_,hf⟩
  have hj:j<p.size:=by rw[<-hr.len x (mem_of_getElem? hx)];exact(List.getElem?_eq_some_iff.1 hy).1
  have h1:(i+1)*p.size<=len*p.size:=qn _ hi
  rw[Nat.add_mul] at h1
  rw[getElem?_take,if_pos (by omega),List.getElem?_drop,<-hu]
  congr 1
  rw[Nat.add_mul];omega
 cases hx
theorem Dn {c:gD} {w:World} {X:Nat->Prop} {ρ:Places} {F H:List Ob} (h:HRd c w X ρ F) (hH: ∀ (j:Nat) o,H[j]?=some o->F[j]?=some o) {size:Nat} (dj:0<size) {v:Value} {x:PV} (hv:PRd w X ρ v x)
 {cd:Prop} {ys:List (List FV)} (hs:kG H size x=some (cd,ys)) (hc:cd):QT w X size v ys:=by
 cases x with
 | fv z=>
  cases z with
  | sl xs=>
   simp only[kG,qo,Prod.mk.injEq] at hs;obtain⟨rfl,rfl⟩:=hs;cases hv with | fv _ _ hf=>exact Dm dj hf hc
  | lit u=>
   unfold kG at hs;split at hs
   all_goals first | (cases hs;done) | skip
   all_goals rename_i he
   all_goals first | (cases he;done) | skip
   injection he with he;injection he with he
   subst he;simp only[qo,Prod.mk.injEq] at hs;obtain⟨rfl,rfl⟩:=hs;rw[hv.litInv];exact⟨by simp,.inr ⟨_,_,[],rfl,by simp,by simp,by simp,by simp⟩⟩
  | _=>simp[kG] at hs
 | nilsl=>
  simp only[kG,qo,Prod.mk.injEq] at hs;obtain⟨rfl,rfl⟩:=hs;cases hv with | nilsl=>exact⟨by simp,.inl ⟨rfl,rfl⟩⟩
 | clip xs=>
  simp only[kG,qo,Prod.mk.injEq] at hs;obtain⟨rfl,rfl⟩:=hs;cases hv with | clip _ _ _ hf=>exact Dm dj hf hc
 | lsl id off len s=>
  simp only[kG] at hs;split at hs
  .rename_i rw xs ho;split at hs
   .rename_i dX;subst dX;simp only[qo,Prod.mk.injEq] at hs;obtain⟨rfl,rfl⟩:=hs;obtain⟨p,hp,md,_⟩:=hv.lslInv;subst md;exact Ub (h.ob id p _ hp (hH id _ ho)).1 hv hp hc
   cases hs
  .cases hs
 | any=>simp[kG] at hs
 | ptr _ _ _=>simp[kG] at hs
 | agg _=>simp[kG] at hs
 | tup _=>simp[kG] at hs
 | tab _=>simp[kG] at hs
end
end Go.AM
namespace Go.AM
section
variable {P:Program} {T:Tab}
theorem kI {w:World} {el size k cap:Nat} {z:Value} (tY:z.cells.size=size) {xs news:List Value} (hl:(xs++news).length=k*size) (hk:k<=cap) (vr:cap<=maxLen):
 (w.drew.alloc (.cells (xs.toArray++news.toArray++Builtin.zeroCells z.cells (cap - k)) el)).ownsRow 0 el size (.slice (some ⟨w.heap.size,0,none⟩) k cap) k (xs++news):=by
 refine⟨hl,.inr ⟨w.heap.size,cap,_,rfl,eB _,heap_alloc_new w.drew _,hk,vr,?_,?_⟩⟩
 .rw[qe] at hl
  simp only[Array.size_append,List.size_toArray,size_zeroCells,tY,hl,<-Nat.add_mul]
  congr 1
  omega
 simp only[Array.toList_append,append_assoc]
 rw[<-append_assoc,<-hl]
 exact List.take_left
theorem ec (w:World) (o:Obj) (row:Option Nat):w.grownBy (w.drew.alloc o) row:=
 ⟨rfl,rfl,rfl,by simp,fun k hk _=>heap_alloc_old w.drew o k hk⟩
theorem Dp {w:World} {el size n k g cap:Nat} {us:List Value} (h:w.ownsRow 0 el size (.slice (some ⟨g,0,none⟩) n cap) n us) (hk:k<=n):
 w.ownsRow 0 el size (.slice (some ⟨g,0,none⟩) k cap) k (us.take (k*size)):=by
 obtain⟨h1,h2⟩:=h
 rcases h2 with⟨h2,_⟩ | ⟨g',cap',cur,h2,h3,h4,h5,h6,h7,h8⟩
 .cases h2
 cases h2
 have hm:k*size<=n*size:=qn _ hk
 refine⟨by rw[length_take,h1,Nat.min_eq_left hm],.inr ⟨g,cap,cur,rfl,h3,h4,by omega,h6,h7,?_⟩⟩
 rw[<-h8,List.take_take,Nat.min_eq_left hm]
theorem yT {w:World} {o:Oper} {e:Operand->Value} {b:Builtin} {args:Array Operand} {ts:Array TypeId} (ho:o.op= .call {callee:= .builtin b,args,argTypes:=ts}):
 ∃ consts,(execOp e o).run P w=(builtin b ts o.type consts (args.map e)).run P w:=by
 refine⟨args.map fun | .const _=>true | _=>false,?_⟩
 unfold execOp
 simp only[ho,resolve,invoke,Sem.run_bind,Sem.run_pure,Result.andThen_ok]
 rfl
theorem nT {w:World} {X:Nat->Prop} {size:Nat} {xs ys:List (List FV)} {us news:List Value} (RN:us.length=xs.length*size) (_: ∀ x∈ys,x.length=size)
 (h1: ∀ (i j:Nat) x y,xs[i]?=some x->x[j]?=some y-> ∃ u,us[i*size+j]?=some u/\FRd w X u y) (h2: ∀ (i j:Nat) x y,ys[i]?=some x->x[j]?=some y-> ∃ u,news[i*size+j]?=some u/\FRd w X u y):
 ∀ (i j:Nat) x y,(xs++ys)[i]?=some x->x[j]?=some y-> ∃ u,(us++news)[i*size+j]?=some u/\FRd w X u y:=by
 intro i j x y hx hy
 by_cases hi:i<xs.length
 .rw[qi hi] at hx
  obtain⟨u,hu,hf⟩:=h1 i j x y hx hy
  exact⟨u,by rw[qi (List.getElem?_eq_some_iff.1 hu).1];exact hu,hf⟩
 rw[getElem?_append_right (by omega)] at hx
 obtain⟨u,hu,hf⟩:=h2 (i - xs.length) j x y hx hy
 refine⟨u,?_,hf⟩
 have dT:xs.length*size<=i*size:=qn _ (by omega)
 rw[getElem?_append_right (by omega),RN,<-hu]
 congr 1
 rw[Nat.sub_mul]
 omega
theorem jY (w:World) (row:Option Nat):w.grownBy w row:=⟨rfl,rfl,rfl,qp _,fun _ _ _=>rfl⟩
def B8 (P:Program) (T:Tab) (b:Builtin) (args:Array Operand) (ts:Array TypeId):Prop:=
 ∀ {c:gD} {w:World} {X:Nat->Prop} {ρ:Places} {H D R:List Ob} {o:Oper} {e:Operand->Value} {ρv:Operand->PV} {r:Res},
  o.op= .call {callee:= .builtin b,args:=args,argTypes:=ts}->HRd c w X ρ (H++(D++R))->(∀ id,H.length<=id->id<H.length+D.length->ρ[id]?=some none)->(∀ x∈args,PRd w X ρ (e x) (ρv x))->
  h_ T H b ts.toList (args.toList.map ρv)=some r->r.cond->r.heap.length=H.length+D.length->OpOK c w X ρ H.length (H.length+D.length) (r.heap++R) ((execOp e o).run P w) r.val
theorem mQ {w:World} (t ty e e':TypeId) (i:TypeInfo) (ht:P.underlying t=some (.slice e)) (hi:P.info? e=some i)
 (g sLen sCap:Nat) (cur:Array Value) (hg:w.heap[g]?=some (.cells cur e' (0,0)))
 (a:Addr) (m c:Nat) (news:List Value) (hl:news.length=m*i.size) (jK: ∀ (j:Nat) u,news[j]?=some u->w.cell? (a.add j)=some u) (h1: ∀ u∈news,u.oneCell'=true)
 (pK:sLen+m<=sCap) (JB:sLen*i.size+news.length<=cur.size):
 (Builtin.append_ #[t,t] ty #[.slice (some ⟨g,0,none⟩) sLen sCap,.slice (some a) m c]).run P w=
  .ok (.slice (some ⟨g,0,none⟩) (sLen+m) sCap) (w.setRow g (cur.toList.take (sLen*i.size)++news++cur.toList.drop (sLen*i.size+news.length)).toArray):=by
 have hf:=run_firstCells_some (P:=P) w i.size m a m c news hl jK
 have bM:=run_storeCells_at P g (sLen*i.size) e' news 0 cur w hg (by simpa using JB) h1
 simp only[Nat.add_zero] at bM
 simp[Builtin.append_,run_underlying ht,sizeOf,typeInfo,hi,Builtin.lenOf,pK,hf,Addr.add_lit,bM]
theorem mR {w:World} (t ty e:TypeId) (i:TypeInfo) (ht:P.underlying t=some (.slice e)) (hi:P.info? e=some i) (g n cap:Nat) (qY:n<=cap):
 (Builtin.append_ #[t,t] ty #[.slice (some ⟨g,0,none⟩) n cap,.slice none 0 0]).run P w= .ok (.slice (some ⟨g,0,none⟩) n cap) w:=by
 simp[Builtin.append_,run_underlying ht,sizeOf,typeInfo,hi,Builtin.lenOf,Builtin.firstCells,qY,storeCells]
theorem vN {H G:List Ob} {id:Nat} (h:id<H.length):(H++G).set id .dead=H.set id .dead++G:=by
 rw[set_append_left _ _ h]
theorem pz {ρ:Places} {id:Nat} {p:Place} (h:ρ[id]?=some (some p)):ρ.set id (some p)=ρ:=by
 apply ext_getElem?;intro j;by_cases hj:id=j
 .subst hj;rw[qv (List.getElem?_eq_some_iff.1 h).1,h]
 rw[getElem?_set_ne hj]
theorem iK (w:World) (g:Nat) (cs:Array Value):w.grownBy (w.setRow g cs) (some g):=
 ⟨rfl,rfl,rfl,by simp,fun k _ hk=>setRow_other w g k _ (fun e=>hk (by simp[e]))⟩
theorem iL {cur:Array Value} {o:Nat} {vs:List Value} (h:o+vs.length<=cur.size) (i:Nat):
 (cur.toList.take o++vs++cur.toList.drop (o+vs.length)).toArray[i]?=if i<o then cur[i]? else if i<o+vs.length then vs[i - o]? else cur[i]?:=by
 have:=i9 (l:=cur.toList) (new:=vs) (off:=o) (by simpa using h) i
 simpa [eM] using this
theorem HRd.reRow {c:gD} {w:World} {X:Nat->Prop} {ρ:Places} {F:List Ob} (h:HRd c w X ρ F) {id:Nat} {p:Place} {xs zs:List (List FV)} {g:Nat} (hp:ρ[id]?=some (some p)) (fU:F[id]?=some (.row true xs))
 (iR:p.b=some g) {cur new:Array Value} (jF:w.heap[g]?=some (.cells cur p.e (0,0))) (dX:new.size=cur.size) (sw:zs.length<=xs.length) (tY: ∀ z∈zs,z.length=p.size)
 (JC: ∀ (i j:Nat) x y,zs[i]?=some x->x[j]?=some y-> ∃ u,new[i*p.size+j]?=some u/\FRd w X u y):
 ∃ X',HRd c (w.setRow g new) X' ρ (F.set id (.row true zs))/\Stp c w (w.setRow g new) X X' ρ ρ:=by
 have oJ:=iK w g new
 have mX:=setRow_heap w g cur new p.e (0,0) jF
 obtain⟨⟨zO,lH,us,gS,R9⟩,zP⟩:=h.ob id p _ hp fU
 have vt:X g:=(zP g iR).1 rfl
 have ow:w.ownsRow 0 p.e p.size (.slice (some ⟨g,0,none⟩) xs.length p.cap) xs.length us:=by simpa [Place.val,iR] using gS
 obtain⟨zt,eJ⟩:=ow
 rcases eJ with⟨h5,_⟩ | ⟨g',cap',VH,h5,_,G',qY,qV,vu,tZ⟩
 .cases h5
 cases h5
 rw[jF] at G'
 cases G'
 have AU:zs.length*p.size<=xs.length*p.size:=qn _ sw
 have Ha:xs.length*p.size<=p.cap*p.size:=qn _ qY
 have zQ:(w.setRow g new).ownsRow 0 p.e p.size (.slice (some ⟨g,0,none⟩) zs.length p.cap) zs.length (new.toList.take (zs.length*p.size)):=by
  refine⟨by have e9:new.toList.length=cur.size:=dX;rw[length_take,e9,vu];omega,.inr ⟨g,p.cap,new,rfl,eB _,mX,by omega,qV,by rw[dX,vu],rfl⟩⟩
 have bX:=h.put (id:=id) (p:=p) (ob:= .row true zs) (row:=some g) (w':=w.setRow g new) (List.getElem?_eq_some_iff.1 fU).1 (.inr hp) oJ
  (by intro g' jE;cases jE;exact vt)
  (fun j2 q o2 g2 DW hq gw gX eC=>by
   have cX:g2≠g:=by
    intro he;subst he;exact DW (h.inj j2 id q p o2 _ g2 hq hp gw fU gX rfl eC iR)
   exact⟨by simp[cX],by rw[iR];simp;exact fun he=>cX he.symm⟩)
  (fun g2 eu=>by rw[iR] at eu;cases eu;exact .inr vt)
  (fun g2 eu=>by rw[iR] at eu;cases eu;exact⟨(h.own id p _ g hp fU rfl iR).1,Nat.lt_of_lt_of_le (h.own id p _ g hp fU rfl iR).2 oJ.size⟩)
  (fun g2 eu=>by cases eu;exact(h.own id p _ g hp fU rfl iR).1)
  ⟨⟨zO,tY,new.toList.take (zs.length*p.size),by simpa [Place.val,iR] using zQ,by
   intro i2 k y1 y2 AG vj;have iq:i2<zs.length:=(List.getElem?_eq_some_iff.1 AG).1;have Hb:(i2+1)*p.size<=zs.length*p.size:=qn _ iq;rw[Nat.add_mul] at Hb;have hk:k<p.size:=by rw[<-tY y1 (mem_of_getElem? AG)];exact(List.getElem?_eq_some_iff.1 vj).1
   obtain⟨u,hu,hf⟩:=JC i2 k y1 y2 AG vj;refine⟨u,?_,hf.mono ⟨oJ.size,fun b hb lA=>oJ.block b hb (fun he=>lA (by cases he;exact vt))⟩ (fun b hb lA=>by
    rcases lA with lA | lA
    .exact lA
    rw[iR] at lA;cases lA;exact vt)⟩
   rw[getElem?_take,if_pos (by omega),Array.getElem?_toList,hu]⟩,
   fun g2 eu=>⟨fun _=> .inr eu,fun _=>rfl⟩⟩
 rw[pz hp] at bX
 exact⟨_,bX.1,bX.2⟩
theorem oq {w:World} (t ty e:TypeId) (i:TypeInfo) (ht:P.underlying t=some (.slice e)) (hi:P.info? e=some i) (a:Option Addr) (n:Nat) (b:Option Addr) (c:Nat):
 (Builtin.append_ #[t,t] ty #[.slice a n n,.slice b 0 c]).run P w= .ok (.slice a n n) w:=by
 have hf:(Builtin.firstCells i.size 0 (.slice b 0 c)).run P w= .ok #[] w:=by
  cases b with
  | none=>rfl
  | some b=>exact run_firstCells_some (P:=P) w i.size 0 b 0 c [] (by simp) (by simp)
 cases a with
 | none=>simp[Builtin.append_,run_underlying ht,sizeOf,typeInfo,hi,Builtin.lenOf,hf]
 | some a=>simp[Builtin.append_,run_underlying ht,sizeOf,typeInfo,hi,Builtin.lenOf,hf,storeCells]
theorem Uc {c:gD} {w:World} {X:Nat->Prop} {ρ:Places} {F:List Ob} (h:HRd c w X ρ F) {id:Nat} {p:Place} {r:Bool} {xs:List (List FV)} (hp:ρ[id]?=some (some p)) (fU:F[id]?=some (.row r xs)) (iR:p.b=none):xs=[]:=by
 obtain⟨⟨_,_,us,gS,_⟩,_⟩:=h.ob id p _ hp fU;obtain⟨_,eJ⟩:=gS;rcases eJ with⟨_,h6⟩ | ⟨g',cap',VH,h5,_⟩
 .exact List.eq_nil_of_length_eq_zero h6
 simp[Place.val,iR] at h5
theorem Gm {α:Type} {l:List α} {i:Nat} {x:α} (h:l[i]?=some x):l.set i x=l:=by
 apply ext_getElem?;intro j;by_cases hj:i=j
 .subst hj;rw[qv (List.getElem?_eq_some_iff.1 h).1,h]
 rw[getElem?_set_ne hj]
theorem MT (hT:cx P T) (s x:Operand) (t:TypeId):B8 P T .append #[s,x] #[t,t]:=by
 intro c w X ρ H D R o e ρv r ho h hD hρ ak hc aD;have hs:=hρ s (by simp);have hx:=hρ x (by simp);simp only[h_,map_cons,map_nil,if_true] at ak;split at ak;rotate_left
 .cases ak
 rename_i i hi;split at ak;rotate_left
 .cases ak
 rename_i el kN;have hd:=(hT _ _ hi).desc;rw[kN] at hd;simp only[fO] at hd;split at ak;rotate_left
 .cases ak
 rename_i ie mc;split at ak;rotate_left
 .cases ak
 rename_i dj;split at ak;rotate_left
 .cases ak
 rename_i cd ys VI;obtain⟨ti,z,eT,ef,vk,hz,tY,dW,df,hrd⟩:=nR (hT _ _ mc) (w:=w) (X:=X) (ρ:=ρ);obtain⟨consts,cT⟩:=yT (P:=P) (w:=w) (e:=e) ho;have ej:(execOp e o).run P w=((Builtin.append_ #[t,t] o.type #[e s,e x]).run P w).andThen fun v w'=> .ok (.value v) w':=by
  rw[cT];simp[builtin]
 have t6: ∀ (j:Nat) q o2 g,j≠H.length->ρ[j]?=some (some q)->(H++(D++R))[j]?=some o2->o2.rw=true->q.b=some g->some g≠none:=by
  intros;simp
 split at ak
 .rename_i hv;rw[hv] at hs;cases ak;obtain⟨d,rfl⟩:=nS (D:=D) (by simp at aD;omega);obtain⟨kK,XA,NJ⟩:=hc;obtain⟨Ht,AF⟩:=Dn h bx dj hx VI kK;have oM:e s= .slice none 0 0:=by
   generalize e s=u at hs;cases hs;rfl
  rcases AF with⟨rC,rfl⟩ | ⟨a,cc,news,rC,gH,jK,kJ,hcell⟩
  .have hr:=run_append_owned_none (P:=P) w 0 t o.type el ti ie.size hd eT (.slice none 0 0) 0 [] (World.ownsRow_nil w 0 el ie.size);obtain⟨X',ρ',h1,h2,h3,h4⟩:=d7 (xs:=[]) (us:=[]) (size:=ie.size) (el:=el) (v:= .slice none 0 0) (row:=none) h (hD _ (qp _) (by simp)) (jY w none) (by simp) t6 (by simp) dj (by simp)
    (World.ownsRow_nil w 0 el ie.size) (by simp[Value.ownBlock]) (by simp)
   refine⟨_,_,X',ρ',.inl ?_,h1,h2,h3,fun id dk=>h4 id (by simp at dk;omega)⟩;rw[ej,oM,rC,hr];rfl
  by_cases hm:ys.length=0
  .have tR:ys=[]:=List.eq_nil_of_length_eq_zero hm;subst tR;obtain⟨v',w',hr,fF,hg,G_⟩:=run_append_own (P:=P) w 0 t o.type el ti z ie.size ie.bytes hd eT hz ef vk tY dj (.slice none 0 0) 0 [] (World.ownsRow_nil w 0 el ie.size) a 0 cc news (by simpa using gH) jK kJ (by simp[maxLen]) (by simp) (eB _);have hv':=G_.2 ⟨rfl,rfl⟩;have cP:news=[]:=List.eq_nil_of_length_eq_zero (by simpa using gH);subst cP;obtain⟨X',ρ',h1,h2,h3,h4⟩:=d7 (xs:=[]) (us:=[]) (size:=ie.size) (el:=el) (v:=v') (row:=none) h (hD _ (qp _) (by simp)) hg (by simp) t6 (by simp) dj (by simp)
    (by simpa using fF) (by rw[hv'];simp[Value.ownBlock]) (by simp)
   refine⟨_,_,X',ρ',.inl ?_,h1,h2,h3,fun id dk=>h4 id (by simp at dk;omega)⟩;rw[ej,oM,rC];simp only[length_nil];rw[hr];rfl
  have hr:=run_append_nil (P:=P) w t o.type el ti z hd eT hz a ys.length cc news (by rw[ef];exact gH) jK (by omega) (by omega) (by rw[vk];omega);have D9:=grownCap_ge w ys.length 0 el;have qV:=grownCap_le_maxLen w ys.length 0 el (by simp only[maxLen];omega);have fF:=kI (w:=w) (el:=el) tY (xs:=[]) (news:=news) (by simpa using gH) D9 qV;simp only[Array.empty_append,nil_append] at fF;obtain⟨X',ρ',h1,h2,h3,h4⟩:=d7 (xs:=ys) (size:=ie.size) (el:=el) (v:= .slice (some ⟨w.heap.size,0,none⟩) ys.length (grownCap w ys.length 0 el)) (row:=none) h (hD _ (qp _) (by simp))
   (ec w _ none) (by simp) t6 (by simp) dj Ht fF (by
    intro g hg;simp only[Value.ownBlock,qo] at hg;left;omega) hcell
  refine⟨_,_,X',ρ',.inl ?_,h1,h2,h3,fun id dk=>h4 id (by simp at dk;omega)⟩;rw[ej,oM,rC,hr];rfl
 .rename_i xs hv;rw[hv] at hs;split at ak
  .rename_i ue;cases ak;have JD:H.length=H.length+D.length:=aD;have ZL:D=[]:=List.eq_nil_of_length_eq_zero (by omega);subst ZL;have US: ∃ b k,e x= .slice b 0 k:=by
    unfold K7 at ue;split at ue
    .rename_i heq;rw[heq] at hx;exact⟨_,_,hx.litInv⟩
    .rename_i heq;rw[heq] at hx;generalize e x=u at hx;cases hx;exact⟨_,_,rfl⟩
    cases ue
   obtain⟨b0,k0,rC⟩:=US;generalize oM:e s=u at hs;have vv:=hs;cases hs with
   | clip b n _ hf=>
    refine OpOK.still (by simpa using h) (u:= .slice b n n) ?_ vv;rw[ej,oM,rC,oq t o.type el ti hd eT];rfl
  cases ak;obtain⟨d,rfl⟩:=nS (D:=D) (by simp at aD;omega);obtain⟨kK,zr,RN,XA,NJ⟩:=hc;obtain⟨Ht,AF⟩:=Dn h bx dj hx VI kK;rcases AF with⟨_,rfl⟩ | ⟨a,cc,news,rC,gH,jK,kJ,hcell⟩
  .simp at zr
  generalize oM:e s=u at hs;cases hs with
  | clip b n _ hf=>
   have hn:xs.length=n:=by
    cases hf with
    | nil=>rfl
    | sl ad n cap s _ us hn vr=>exact hn
   subst hn;obtain⟨_,R_⟩:=Dm dj hf RN;rcases R_ with⟨hb,rfl⟩ | ⟨a0,c0,olds,hb,vm,n4,jx,aal⟩
   .have hr:=run_append_nil (P:=P) w t o.type el ti z hd eT hz a ys.length cc news (by rw[ef];exact gH) jK (by omega) (by omega) (by rw[vk];simp at XA;omega);have D9:=grownCap_ge w ys.length 0 el;have qV:=grownCap_le_maxLen w ys.length 0 el (by simp only[maxLen];omega);have fF:=kI (w:=w) (el:=el) tY (xs:=[]) (news:=news) (by simpa using gH) D9 qV;simp only[Array.empty_append,nil_append] at fF;obtain⟨X',ρ',h1,h2,h3,h4⟩:=d7 (xs:=ys) (size:=ie.size) (el:=el) (v:= .slice (some ⟨w.heap.size,0,none⟩) ys.length (grownCap w ys.length 0 el)) (row:=none) h (hD _ (qp _) (by simp))
     (ec w _ none) (by simp) t6 (by simp) dj Ht fF (by
      intro g hg;simp only[Value.ownBlock,qo] at hg;left;omega) hcell
    simp only[length_nil,Nat.zero_add,nil_append] at h2 h3 ⊢;refine⟨_,_,X',ρ',.inl ?_,h1,h2,h3,fun id dk=>h4 id (by simp at dk;omega)⟩;rw[ej,oM,rC];rw[hb,hr];rfl
   cases hb;have hr:=run_append_grow (P:=P) w t o.type el ti z hd eT hz a0 xs.length xs.length olds (by rw[ef];exact vm) n4 a ys.length cc news (by rw[ef];exact gH) jK (by omega) (by omega)
    (growslice_fits (by omega) (by rw[vk];exact XA))
   have D9:=grownCap_ge w (xs.length+ys.length) xs.length el;have qV:=grownCap_le_maxLen w (xs.length+ys.length) xs.length el (by simp only[maxLen];omega);have fF:=kI (w:=w) (el:=el) tY (xs:=olds) (news:=news) (by rw[qe,vm,gH,Nat.add_mul]) D9 qV;obtain⟨X',ρ',h1,h2,h3,h4⟩:=d7 (xs:=xs++ys) (size:=ie.size) (el:=el) (v:= .slice (some ⟨w.heap.size,0,none⟩) (xs.length+ys.length) (grownCap w (xs.length+ys.length) xs.length el)) (row:=none) h (hD _ (qp _) (by simp))
    (ec w _ none) (by simp) t6 (by simp) dj (by
     intro y hy;rw[qr] at hy;rcases hy with hy | hy
     .exact RN y hy
     .exact Ht y hy) (by rw[qe];exact fF) (by
     intro g hg;simp only[Value.ownBlock,qo] at hg;left;omega) (nT vm Ht aal hcell)
   rw[qe] at h3;refine⟨_,_,X',ρ',.inl ?_,h1,h2,h3,fun id dk=>h4 id (by simp at dk;omega)⟩;rw[ej,oM,rC,hr];rfl
 .rename_i id len sz hv;rw[hv] at hs;split at ak;rotate_left
  .cases ak
  rename_i xs fU;split at ak;rotate_left
  .cases ak
  rename_i dX;subst dX;split at ak
  .rename_i zR;cases ak;have JD:(H.set id (Ob.row true (xs.take len++ys++xs.drop (len+ys.length)))).length=H.length+D.length:=aD;rw[qkb] at JD;have ZL:D=[]:=List.eq_nil_of_length_eq_zero (by omega);subst ZL;obtain⟨kK,pK⟩:=hc;obtain⟨Ht,AF⟩:=Dn h bx dj hx VI kK;obtain⟨p,hp,md,eJ⟩:=hs.lslInv;have zS:id<H.length:=(List.getElem?_eq_some_iff.1 fU).1;have eA:(H++([]++R))[id]?=some (.row true xs):=bx id _ fU;have Sa: ∀ ob,(H++([]++R)).set id ob=H.set id ob++R:=fun ob=>by rw[nil_append,set_append_left _ _ zS]
   rcases eJ with⟨hg,oM,_,rfl⟩ | ⟨g,og,hg,oM,qL,iU⟩
   .have Vh:=Uc h hp eA hg;subst Vh;have tR:ys=[]:=List.eq_nil_of_length_eq_zero (by rw[length_nil] at pK;omega);subst tR;have dk:H.set id (.row true (List.take 0 ([]:List (List FV))++([]:List (List FV))++List.drop (0+List.length ([]:List (List FV))) ([]:List (List FV))))=H:=Gm fU;show OpOK c w X ρ H.length (H.length+([]:List Ob).length) (H.set id (.row true (List.take 0 ([]:List (List FV))++([]:List (List FV))++List.drop (0+List.length ([]:List (List FV))) ([]:List (List FV))))++R) _ _;rw[dk];refine OpOK.still (by simpa using h) (u:= .slice none 0 0) ?_ (by rw[<-md];exact .lsl0 id p hp hg);rcases AF with⟨rC,_⟩ | ⟨a,cc,news,rC,gH,jK,kJ,hcell⟩
    .have hr:=run_append_owned_none (P:=P) w 0 t o.type el ti ie.size hd eT (.slice none 0 0) 0 [] (World.ownsRow_nil w 0 el ie.size);rw[ej,oM,rC,hr];rfl
    rw[ej,oM,rC,length_nil,oq t o.type el ti hd eT];rfl
   have hog:og=0:=by
    rcases iU with iU | iU
    .rw[iU];simp
    exact absurd rfl iU.2
   subst hog;simp only[Nat.sub_zero] at oM;obtain⟨⟨zO,lH,us,gS,R9⟩,zP⟩:=h.ob id p _ hp eA;have ow:w.ownsRow 0 p.e p.size (.slice (some ⟨g,0,none⟩) xs.length p.cap) xs.length us:=by simpa [Place.val,hg] using gS
   have sw:(xs.take len++ys++xs.drop (len+ys.length)).length=xs.length:=by simp;omega
   have tY: ∀ z∈xs.take len++ys++xs.drop (len+ys.length),z.length=p.size:=by
    intro z hz;rw[qr,qr] at hz;rcases hz with(hz | hz) | hz
    .exact lH z (AY hz)
    .rw[Ht z hz,md]
    exact lH z (mem_of_mem_drop hz)
   obtain⟨zt,eJ⟩:=ow;rcases eJ with⟨h5,_⟩ | ⟨g',cap',cur,h5,_,jF,qY,qV,vu,tZ⟩
   .cases h5
   cases h5;rcases AF with⟨rC,rfl⟩ | ⟨a,cc,news,rC,gH,jK,kJ,hcell⟩
   .have hr:=mR (P:=P) (w:=w) t o.type el ti hd eT g len p.cap (by simp at pK;omega);simp only[length_nil,Nat.add_zero,List.append_nil,List.take_append_drop] at sw tY ⊢;rw[Gm fU];refine OpOK.still (by simpa using h) (u:= .slice (some ⟨g,0,none⟩) len p.cap) (by rw[ej,oM,rC,hr];rfl) ?_;have mY:=hs;rw[oM] at mY;exact mY
   have afK:(len+ys.length)*ie.size<=cur.size:=by rw[vu,md];exact qn _ (by omega)
   have JB:len*ti.size+news.length<=cur.size:=by rw[ef,gH,<-Nat.add_mul];exact afK
   have hr:=mQ (P:=P) (w:=w) t o.type el p.e ti hd eT g len p.cap cur jF a ys.length cc news (by rw[ef];exact gH) jK kJ (by omega) JB;have cg:=fun k=>iL (cur:=cur) (o:=len*ti.size) (vs:=news) JB k
   generalize mX:(cur.toList.take (len*ti.size)++news++cur.toList.drop (len*ti.size+news.length)).toArray=new at hr cg;have Hc:new.size=cur.size:=by
    rw[<-mX];simp only[List.size_toArray,qe,length_take,length_drop,Array.length_toList];omega
   have eR: ∀ (i j:Nat) x y,xs[i]?=some x->x[j]?=some y-> ∃ u,cur[i*p.size+j]?=some u/\FRd w X u y:=by
    intro i j x y zw AG;obtain⟨u,hu,hf⟩:=R9 i j x y zw AG;rw[<-tZ,getElem?_take] at hu;split at hu
    .exact⟨u,by rw[<-hu,Array.getElem?_toList],hf⟩
    cases hu
   have Zr: ∀ (i j:Nat) z y,(xs.take len++ys++xs.drop (len+ys.length))[i]?=some z->z[j]?=some y->j<p.size:=by
    intro i j z y hz hy;rw[<-tY z (mem_of_getElem? hz)];exact(List.getElem?_eq_some_iff.1 hy).1
   obtain⟨X',h1,h2⟩:=h.reRow hp eA hg jF Hc (zs:=xs.take len++ys++xs.drop (len+ys.length)) (by omega) tY (by
    intro i j z y hz hy;have hj:=Zr i j z y hz hy;have Co:(xs.take len).length=len:=by rw[length_take];omega
    rw[ef,<-md] at cg;rw[gH,<-md] at cg;by_cases h7:i<len
    .rw[append_assoc,qi (by omega),getElem?_take,if_pos h7] at hz;obtain⟨u,hu,hf⟩:=eR i j z y hz hy;have h8:(i+1)*p.size<=len*p.size:=qn _ h7;rw[Nat.add_mul] at h8;exact⟨u,by rw[cg,if_pos (by omega)];exact hu,hf⟩
    have h8:len*p.size<=i*p.size:=qn _ (by omega);by_cases h9:i<len+ys.length
    .rw[qi (by rw[qe];omega),getElem?_append_right (by omega),Co] at hz;obtain⟨u,hu,hf⟩:=hcell (i - len) j z y hz hy;have AK:(i - len+1)*p.size<=ys.length*p.size:=qn _ (by omega);rw[Nat.add_mul,Nat.sub_mul] at AK;refine⟨u,?_,hf⟩;rw[cg,if_neg (by omega),if_pos (by omega)];rw[<-md,Nat.sub_mul] at hu;rw[<-hu];congr 1;omega
    rw[getElem?_append_right (by rw[qe];omega),qe,Co,List.getElem?_drop,show len+ys.length+(i - (len+ys.length))=i by omega] at hz;obtain⟨u,hu,hf⟩:=eR i j z y hz hy;have AK:(len+ys.length)*p.size<=i*p.size:=qn _ (by omega);rw[Nat.add_mul] at AK;exact⟨u,by rw[cg,if_neg (by omega),if_neg (by omega)];exact hu,hf⟩)
   rw[Sa] at h1;refine⟨.slice (some ⟨g,0,none⟩) (len+ys.length) p.cap,w.setRow g new,X',ρ,.inl ?_,h2,h1,?_,fun _ _=>rfl⟩
   .rw[ej,oM,rC,hr];rfl
   have:=PRd.lsl (w:=w.setRow g new) (X:=X') (ρ:=ρ) id 0 (len+ys.length) 0 g p hp hg (by omega) (.inl (by simp));rw[<-md];simpa using this
  cases ak;obtain⟨d,rfl⟩:=nS (D:=D) (by simp at aD;omega);obtain⟨kK,Om,XA,NJ⟩:=hc;obtain⟨Ht,AF⟩:=Dn h bx dj hx VI kK;obtain⟨p,hp,md,eJ⟩:=hs.lslInv;have zS:id<H.length:=(List.getElem?_eq_some_iff.1 fU).1;have eA:=bx (G:=[d]++R) id _ fU;obtain⟨⟨_,lH,us,gS,R9⟩,zP⟩:=h.ob id p _ hp eA;have zT:=h.kill id;rw[vN zS] at zT;have LG:(H.set id .dead).length=H.length:=by simp
  have hρ':ρ[(H.set id Ob.dead).length]?=some none:=by rw[LG];exact hD _ (qp _) (by simp)
  have Co: ∀ y∈xs.take len++ys,y.length=ie.size:=by
   intro y hy;rw[qr] at hy;rcases hy with hy | hy
   .rw[lH y (AY hy),md]
   exact Ht y hy
  have zU:(xs.take len++ys).length=len+ys.length:=by simp;omega
  rcases eJ with⟨hg,oM,_,rfl⟩ | ⟨g,og,hg,oM,qL,iU⟩
  .rw[List.take_zero,nil_append] at Co;simp only[List.take_zero,nil_append,Nat.zero_add] at XA NJ ⊢;rcases AF with⟨rC,rfl⟩ | ⟨a,cc,news,rC,gH,jK,kJ,hcell⟩
   .have hr:=run_append_owned_none (P:=P) w 0 t o.type el ti ie.size hd eT (.slice none 0 0) 0 [] (World.ownsRow_nil w 0 el ie.size);obtain⟨X',ρ',h1,h2,h3,h4⟩:=d7 (xs:=[]) (us:=[]) (size:=ie.size) (el:=el) (v:= .slice none 0 0) (row:=none) zT hρ' (jY w none) (by simp) (by intros;simp) (by simp) dj (by simp)
     (World.ownsRow_nil w 0 el ie.size) (by simp[Value.ownBlock]) (by simp)
    rw[LG] at h3 h4;refine⟨_,_,X',ρ',.inl ?_,h1,h2,h3,fun id dk=>h4 id (by simp at dk;omega)⟩;rw[ej,oM,rC,hr];rfl
   by_cases hm:ys.length=0
   .have tR:ys=[]:=List.eq_nil_of_length_eq_zero hm;subst tR;obtain⟨v',w',hr,fF,hg,G_⟩:=run_append_own (P:=P) w 0 t o.type el ti z ie.size ie.bytes hd eT hz ef vk tY dj (.slice none 0 0) 0 [] (World.ownsRow_nil w 0 el ie.size) a 0 cc news (by simpa using gH) jK kJ (by simp[maxLen]) (by simp) (eB _);have hv':=G_.2 ⟨rfl,rfl⟩;have cP:news=[]:=List.eq_nil_of_length_eq_zero (by simpa using gH);subst cP;obtain⟨X',ρ',h1,h2,h3,h4⟩:=d7 (xs:=[]) (us:=[]) (size:=ie.size) (el:=el) (v:=v') (row:=none) zT hρ' hg (by simp) (by intros;simp) (by simp) dj (by simp)
     (by simpa using fF) (by rw[hv'];simp[Value.ownBlock]) (by simp)
    rw[LG] at h3 h4;refine⟨_,_,X',ρ',.inl ?_,h1,h2,h3,fun id dk=>h4 id (by simp at dk;omega)⟩;rw[ej,oM,rC];simp only[length_nil];rw[hr];rfl
   have hr:=run_append_nil (P:=P) w t o.type el ti z hd eT hz a ys.length cc news (by rw[ef];exact gH) jK (by omega) (by omega) (by rw[vk];omega);have D9:=grownCap_ge w ys.length 0 el;have qV:=grownCap_le_maxLen w ys.length 0 el (by simp only[maxLen];omega);have fF:=kI (w:=w) (el:=el) tY (xs:=[]) (news:=news) (by simpa using gH) D9 qV;simp only[Array.empty_append,nil_append] at fF;obtain⟨X',ρ',h1,h2,h3,h4⟩:=d7 (xs:=ys) (size:=ie.size) (el:=el) (v:= .slice (some ⟨w.heap.size,0,none⟩) ys.length (grownCap w ys.length 0 el)) (row:=none) zT hρ'
    (ec w _ none) (by simp) (by intros;simp) (by simp) dj Ht fF (by
     intro g hg;simp only[Value.ownBlock,qo] at hg;left;omega) hcell
   rw[LG] at h3 h4;refine⟨_,_,X',ρ',.inl ?_,h1,h2,h3,fun id dk=>h4 id (by simp at dk;omega)⟩;rw[ej,oM,rC,hr];rfl
  have hog:og=0:=by
   rcases iU with iU | iU
   .rw[iU];simp
   exact absurd rfl iU.2
  subst hog;simp only[Nat.sub_zero] at oM;have ow:w.ownsRow 0 p.e p.size (.slice (some ⟨g,0,none⟩) xs.length p.cap) xs.length us:=by simpa [Place.val,hg] using gS
  have zV:=Dp ow Om;rw[md] at zV ow;have JE: ∀ (i j:Nat) x y,(xs.take len)[i]?=some x->x[j]?=some y-> ∃ u,(us.take (len*ie.size))[i*ie.size+j]?=some u/\FRd w X u y:=by
   intro i j x y hx hy;rw[getElem?_take] at hx;split at hx
   .rename_i dW;obtain⟨u,hu,hf⟩:=R9 i j x y hx hy;rw[md] at hu;have hj:j<ie.size:=by rw[<-md,<-lH x (mem_of_getElem? hx)];exact(List.getElem?_eq_some_iff.1 hy).1
    have h1:(i+1)*ie.size<=len*ie.size:=qn _ dW;rw[Nat.add_mul] at h1;exact⟨u,by rw[getElem?_take,if_pos (by omega)];exact hu,hf⟩
   cases hx
  have zt:(us.take (len*ie.size)).length=(xs.take len).length*ie.size:=by
   rw[zV.1,length_take,Nat.min_eq_left Om]
  have vt:X g:=(zP g hg).1 rfl;have LI: ∀ (j:Nat) q o2 g2,j≠(H.set id Ob.dead).length->ρ[j]?=some (some q)->(H.set id .dead++([d]++R))[j]?=some o2->o2.rw=true->q.b=some g2->some g2≠some g:=by
   intro j q o2 g2 _ hq gw gX eC he;cases he;by_cases hj:id=j
   .subst hj;rw[qi (by simpa using zS),qv zS] at gw;cases gw;cases gX
   have LB:(H++([d]++R))[j]?=some o2:=by
    rw[<-vN zS,getElem?_set_ne hj] at gw;exact gw
   exact hj (h.inj id j p q _ o2 g hp hq eA LB rfl gX hg eC)
  rcases AF with⟨rC,rfl⟩ | ⟨a,cc,news,rC,gH,jK,kJ,hcell⟩
  .have hr:=mR (P:=P) (w:=w) t o.type el ti hd eT g len p.cap (by omega);simp only[List.append_nil,length_nil,Nat.add_zero] at Co zU ⊢;obtain⟨X',ρ',h1,h2,h3,h4⟩:=d7 (xs:=xs.take len) (size:=ie.size) (el:=p.e) (v:= .slice (some ⟨g,0,none⟩) len p.cap) (row:=some g) zT hρ' (jY w (some g)) (by intro g' jE;cases jE;exact vt)
    LI (by intro g' jE;cases jE;exact(h.own id p _ g hp eA rfl hg).1) dj Co (by rw[zU];exact zV) (by intro g' jE;simp only[Value.ownBlock,qo] at jE;right;rw[jE]) JE
   rw[LG] at h3 h4;rw[zU] at h3;refine⟨_,_,X',ρ',.inl ?_,h1,h2,h3,fun id dk=>h4 id (by simp at dk;omega)⟩;rw[ej,oM,rC,hr];rfl
  by_cases pK:len+ys.length<=p.cap
  .obtain⟨zA,eJ⟩:=zV;rcases eJ with⟨h5,_⟩ | ⟨g',cap',cur,h5,_,jF,qY,qV,eR,tZ⟩
   .cases h5
   cases h5;have JB:len*ti.size+news.length<=cur.size:=by rw[ef,gH,eR,<-Nat.add_mul];exact qn _ pK
   have hr:=mQ (P:=P) (w:=w) t o.type el p.e ti hd eT g len p.cap cur jF a ys.length cc news (by rw[ef];exact gH) jK kJ pK JB;have zQ:(w.setRow g (cur.toList.take (len*ti.size)++news++cur.toList.drop (len*ti.size+news.length)).toArray).ownsRow 0 p.e ie.size (.slice (some ⟨g,0,none⟩) (len+ys.length) p.cap) (len+ys.length) (us.take (len*ie.size)++news):=by
    have rv:(us.take (len*ie.size)++news).length=(len+ys.length)*ie.size:=by rw[qe,zA,gH,Nat.add_mul]
    refine⟨rv,.inr ⟨g,p.cap,_,rfl,eB _,setRow_heap w g cur _ p.e _ jF,pK,qV,?_,?_⟩⟩
    .rw[ef] at JB ⊢;simp only[List.size_toArray,qe,length_take,length_drop,Array.length_toList];omega
    rw[ef,tZ,<-rv];exact List.take_left
   have oJ:w.grownBy (w.setRow g (cur.toList.take (len*ti.size)++news++cur.toList.drop (len*ti.size+news.length)).toArray) (some g):=
    ⟨rfl,rfl,rfl,by simp,fun k _ hk=>setRow_other w g k _ (fun e=>hk (by simp[e]))⟩
   obtain⟨X',ρ',h1,h2,h3,h4⟩:=d7 (xs:=xs.take len++ys) (size:=ie.size) (el:=p.e) (v:= .slice (some ⟨g,0,none⟩) (len+ys.length) p.cap) (row:=some g) zT hρ'
    oJ (by intro g' jE;cases jE;exact vt)
    LI (by intro g' jE;cases jE;exact(h.own id p _ g hp eA rfl hg).1) dj Co (by rw[zU];exact zQ) (by intro g' jE;simp only[Value.ownBlock,qo] at jE;right;rw[jE]) (nT zt Ht JE hcell)
   rw[LG] at h3 h4;rw[zU] at h3;refine⟨_,_,X',ρ',.inl ?_,h1,h2,h3,fun id dk=>h4 id (by simp at dk;omega)⟩;rw[ej,oM,rC,hr];rfl
  have JC: ∀ (j:Nat) v,(us.take (len*ie.size))[j]?=some v->w.cell? ((⟨g,0,none⟩:Addr).add j)=some v:=zV.cells (g:=g) rfl;have hr:=run_append_grow (P:=P) w t o.type el ti z hd eT hz ⟨g,0,none⟩ len p.cap (us.take (len*ie.size)) (by rw[ef];exact zV.1) JC a ys.length cc news (by rw[ef];exact gH) jK (by omega) (by omega)
   (growslice_fits (by omega) (by rw[vk];exact XA))
  have D9:=grownCap_ge w (len+ys.length) p.cap el;have qV:=grownCap_le_maxLen w (len+ys.length) p.cap el (by simp only[maxLen];omega);have fF:=kI (w:=w) (el:=el) tY (xs:=us.take (len*ie.size)) (news:=news) (by rw[qe,zV.1,gH,Nat.add_mul]) D9 qV;obtain⟨X',ρ',h1,h2,h3,h4⟩:=d7 (xs:=xs.take len++ys) (size:=ie.size) (el:=el) (v:= .slice (some ⟨w.heap.size,0,none⟩) (len+ys.length) (grownCap w (len+ys.length) p.cap el)) (row:=none) zT hρ'
   (ec w _ none) (by simp) (by intros;simp) (by simp) dj Co (by rw[zU];exact fF) (by
    intro g hg;simp only[Value.ownBlock,qo] at hg;left;omega) (nT zt Ht JE hcell)
  rw[LG] at h3 h4;rw[zU] at h3;refine⟨_,_,X',ρ',.inl ?_,h1,h2,h3,fun id dk=>h4 id (by simp at dk;omega)⟩;rw[ej,oM,rC,hr];rfl
 cases ak
end
end Go.AM
namespace Go.AM
section
variable {P:Program} {T:Tab}
theorem YG (hT:cx P T) (s:Operand) (t:TypeId):B8 P T .len #[s] #[t]:=by
 intro c w X ρ H D R o e ρv r ho h hD hρ ak hc aD;have hs:=hρ s (by simp);simp only[h_,map_cons,map_nil] at ak;split at ak;rotate_left
 .cases ak
 rename_i i hi;have hd:=(hT _ _ hi).desc;obtain⟨consts,cT⟩:=yT (P:=P) (w:=w) (e:=e) ho;have ej:(execOp e o).run P w=((Builtin.len_ #[t] o.type #[e s]).run P w).andThen fun v w'=> .ok (.value v) w':=by
  rw[cT];simp[builtin]
 split at ak
 .rename_i el kN;rw[kN] at hd;simp only[fO] at hd;split at ak;rotate_left
  .cases ak
  rename_i n hn;cases ak;have g8:D=[]:=List.eq_nil_of_length_eq_zero (by simp at aD;simpa using aD);subst g8;have rA: ∃ b cap,e s= .slice b n cap:=by
   generalize e s=u at hs;generalize ρv s=v at hs hn;cases hs with
   | fv _ _ hf=>cases hf with
    | nil=>simp[lenOf] at hn;subst hn;exact⟨_,_,rfl⟩
    | sl ad m cap s xs us hxs=>simp only[lenOf,qo] at hn;subst hn;rw[hxs];exact⟨_,_,rfl⟩
    | lit v _=>simp[lenOf] at hn
    | fp=>simp[lenOf] at hn
    | fn=>simp[lenOf] at hn
   | nilsl=>simp[lenOf] at hn;subst hn;exact⟨_,_,rfl⟩
   | clip a m xs hf=>cases hf with
    | nil=>simp[lenOf] at hn;subst hn;exact⟨_,_,rfl⟩
    | sl ad m cap s xs us hxs=>simp only[lenOf,qo] at hn;subst hn;rw[hxs];exact⟨_,_,rfl⟩
   | lsl0=>simp[lenOf] at hn;subst hn;exact⟨_,_,rfl⟩
   | lsl=>simp[lenOf] at hn;subst hn;exact⟨_,_,rfl⟩
   | any=>simp[lenOf] at hn
   | ptr=>simp[lenOf] at hn
   | agg=>simp[lenOf] at hn
   | tup=>simp[lenOf] at hn
   | tab=>simp[lenOf] at hn
  obtain⟨b,cap,oM⟩:=rA;exact OpOK.still h (u:= .int .i64 n) (by rw[ej,oM];simp[Builtin.len_,run_underlying hd,goInt]) (.fv _ _ (.lit _ rfl))
 .rename_i n el kN;rw[kN] at hd;simp only[fO] at hd;cases ak;have g8:D=[]:=List.eq_nil_of_length_eq_zero (by simp at aD;simpa using aD);subst g8;exact OpOK.still h (u:= .int .i64 n) (by rw[ej];simp[Builtin.len_,run_underlying hd,goInt]) (.fv _ _ (.lit _ rfl))
 .rename_i kN;rw[kN] at hd;simp only[fO] at hd;split at ak;rotate_left
  .cases ak
  rename_i str hv;cases ak;have g8:D=[]:=List.eq_nil_of_length_eq_zero (by simp at aD;simpa using aD);subst g8;rw[hv] at hs;have oM:=hs.litInv;exact OpOK.still h (u:= .int .i64 str.size) (by rw[ej,oM];simp[Builtin.len_,run_underlying hd,goInt]) (.fv _ _ (.lit _ rfl))
 cases ak
theorem yU {w:World} {X:Nat->Prop} {ρ:Places} {u v:Value} {x y:PV} {k:IntKind} {a b:Int} (h:nO x y=some (k,a,b)) (hu:PRd w X ρ u x) (hv:PRd w X ρ v y):u= .int k a/\v= .int k b:=by
 unfold nO at h;split at h
 .split at h
  .rename_i hk;subst hk;cases h;exact⟨hu.litInv,hv.litInv⟩
  cases h
 cases h
theorem YH (x y:Operand) (t t':TypeId):B8 P T .max #[x,y] #[t,t']:=by
 intro c w X ρ H D R o e ρv r ho h hD hρ ak hc aD;have hx:=hρ x (by simp);have hy:=hρ y (by simp);obtain⟨consts,cT⟩:=yT (P:=P) (w:=w) (e:=e) ho;simp only[h_,map_cons,map_nil] at ak;split at ak;rotate_left
 .cases ak
 rename_i k a b hb;cases ak;have g8:D=[]:=List.eq_nil_of_length_eq_zero (by simp at aD;simpa using aD);subst g8;obtain⟨e1,e2⟩:=yU hb hx hy;exact OpOK.still h (u:= .int k (if b>a then b else a)) (by rw[cT];simp[builtin,Builtin.max_,Builtin.max2,e1,e2]) (.fv _ _ (.lit _ rfl))
theorem YI (x y:Operand) (t t':TypeId):B8 P T .min #[x,y] #[t,t']:=by
 intro c w X ρ H D R o e ρv r ho h hD hρ ak hc aD;have hx:=hρ x (by simp);have hy:=hρ y (by simp);obtain⟨consts,cT⟩:=yT (P:=P) (w:=w) (e:=e) ho;simp only[h_,map_cons,map_nil] at ak;split at ak;rotate_left
 .cases ak
 rename_i k a b hb;cases ak;have g8:D=[]:=List.eq_nil_of_length_eq_zero (by simp at aD;simpa using aD);subst g8;obtain⟨e1,e2⟩:=yU hb hx hy;exact OpOK.still h (u:= .int k (if b<a then b else a)) (by rw[cT];simp[builtin,Builtin.min_,Builtin.min2,e1,e2]) (.fv _ _ (.lit _ rfl))
theorem HRd.shrink {c:gD} {w w':World} {X:Nat->Prop} {ρ:Places} {F:List Ob} (h:HRd c w X ρ F) {id:Nat} {p:Place} {xs:List (List FV)} {n g:Nat} (hp:ρ[id]?=some (some p)) (fU:F[id]?=some (.row true xs)) (hn:n<=xs.length)
 (iR:p.b=some g) (oJ:w.grownBy w' (some g)) {cur new:Array Value} (jF:w.heap[g]?=some (.cells cur p.e (0,0))) (mX:w'.heap[g]?=some (.cells new p.e (0,0))) (dX:new.size=cur.size) (eI: ∀ (k:Nat),k<n*p.size->new[k]?=cur[k]?):
 ∃ X',HRd c w' X' ρ (F.set id (.row true (xs.take n)))/\Stp c w w' X X' ρ ρ:=by
 obtain⟨⟨zO,lH,us,gS,R9⟩,zP⟩:=h.ob id p _ hp fU
 have vt:X g:=(zP g iR).1 rfl
 have ow:w.ownsRow 0 p.e p.size (.slice (some ⟨g,0,none⟩) xs.length p.cap) xs.length us:=by simpa [Place.val,iR] using gS
 obtain⟨zt,eJ⟩:=ow
 rcases eJ with⟨h5,_⟩ | ⟨g',cap',VH,h5,_,G',qY,qV,vu,tZ⟩
 .cases h5
 cases h5
 rw[jF] at G'
 cases G'
 have AU:n*p.size<=xs.length*p.size:=qn _ hn
 have Ha:xs.length*p.size<=p.cap*p.size:=qn _ qY
 have zQ:w'.ownsRow 0 p.e p.size (.slice (some ⟨g,0,none⟩) n p.cap) n (new.toList.take (n*p.size)):=by
  refine⟨by have e9:new.toList.length=cur.size:=dX;rw[length_take,e9,vu];omega,.inr ⟨g,p.cap,new,rfl,eB _,mX,by omega,qV,by rw[dX,vu],rfl⟩⟩
 have qL:(xs.take n).length=n:=by rw[length_take];omega
 have bX:=h.put (id:=id) (p:=p) (ob:= .row true (xs.take n)) (row:=some g) (w':=w') (List.getElem?_eq_some_iff.1 fU).1 (.inr hp) oJ
  (by intro g' jE;cases jE;exact vt)
  (fun j2 q o2 g2 DW hq gw gX eC=>by
   have cX:g2≠g:=by
    intro he;subst he;exact DW (h.inj j2 id q p o2 _ g2 hq hp gw fU gX rfl eC iR)
   exact⟨by simp[cX],by rw[iR];simp;exact fun he=>cX he.symm⟩)
  (fun g2 eu=>by rw[iR] at eu;cases eu;exact .inr vt)
  (fun g2 eu=>by rw[iR] at eu;cases eu;exact⟨(h.own id p _ g hp fU rfl iR).1,Nat.lt_of_lt_of_le (h.own id p _ g hp fU rfl iR).2 oJ.size⟩)
  (fun g2 eu=>by cases eu;exact(h.own id p _ g hp fU rfl iR).1)
  ⟨⟨zO,fun x hx=>lH x (AY hx),new.toList.take (n*p.size),by rw[qL];simpa [Place.val,iR] using zQ,by
   intro i2 k y1 y2 AG vj;have iq:i2<n:=by have:=(List.getElem?_eq_some_iff.1 AG).1;rw[qL] at this;exact this
   rw[getElem?_take,if_pos iq] at AG;have Hb:(i2+1)*p.size<=n*p.size:=qn _ iq;rw[Nat.add_mul] at Hb;have hk:k<p.size:=by rw[<-lH y1 (mem_of_getElem? AG)];exact(List.getElem?_eq_some_iff.1 vj).1
   obtain⟨u,hu,hf⟩:=R9 i2 k y1 y2 AG vj;refine⟨u,?_,hf.mono ⟨oJ.size,fun b hb lA=>oJ.block b hb (fun he=>lA (by cases he;exact vt))⟩ (fun b hb lA=>by
    rcases lA with lA | lA
    .exact lA
    rw[iR] at lA;cases lA;exact vt)⟩
   rw[<-tZ,getElem?_take,if_pos (by omega),Array.getElem?_toList] at hu;rw[getElem?_take,if_pos (by omega),Array.getElem?_toList,eI _ (by omega),hu]⟩,
   fun g2 eu=>⟨fun _=> .inr eu,fun _=>rfl⟩⟩
 rw[pz hp] at bX
 exact⟨_,bX.1,bX.2⟩
theorem QU (hT:cx P T) (x:Operand) (t:TypeId):B8 P T .clear #[x] #[t]:=by
 intro c w X ρ H D R o e ρv r ho h hD hρ ak hc aD;have hx:=hρ x (by simp);simp only[h_,map_cons,map_nil] at ak;split at ak;rotate_left
 .cases ak
 rename_i i hi;split at ak;rotate_left
 .cases ak
 rename_i el kN;have hd:=(hT _ _ hi).desc;rw[kN] at hd;simp only[fO] at hd;split at ak;rotate_left
 .cases ak
 rename_i ie mc;split at ak;rotate_left
 .cases ak
 rename_i id off len s hv;split at ak;rotate_left
 .cases ak
 rename_i xs fU;split at ak;rotate_left
 .cases ak
 rename_i hs;cases ak;obtain⟨ti,z,eT,ef,vk,hz,tY,dW,df,hrd⟩:=nR (hT _ _ mc) (w:=w) (X:=X) (ρ:=ρ);obtain⟨consts,cT⟩:=yT (P:=P) (w:=w) (e:=e) ho;have ej:(execOp e o).run P w=((Builtin.clear_ #[t] o.type #[e x]).run P w).andThen fun v w'=> .ok (.value v) w':=by
  rw[cT];simp[builtin]
 have JD:(H.set id (Ob.row true (xs.take off))).length=H.length+D.length:=aD;rw[qkb] at JD;have g8:D=[]:=List.eq_nil_of_length_eq_zero (by omega);subst g8;have zS:=(List.getElem?_eq_some_iff.1 fU).1;have eA:(H++([]++R))[id]?=some (.row true xs):=bx id _ fU;have Sa:(H++([]++R)).set id (.row true (xs.take off))=H.set id (.row true (xs.take off))++R:=by
  rw[nil_append,set_append_left _ _ zS]
 rw[hv] at hx;generalize lG:e x=u at hx;cases hx with
 | lsl0 _ p hp iR=>
  have h0:H.set id (Ob.row true (xs.take 0))=H:=by
   obtain⟨⟨_,_,us,gS,_⟩,_⟩:=h.ob id p _ hp eA;have Vh:xs=[]:=by
    obtain⟨_,eJ⟩:=gS;rcases eJ with⟨_,h6⟩ | ⟨g',cap',VH,h5,_⟩
    .exact List.eq_nil_of_length_eq_zero h6
    simp[Place.val,iR] at h5
   subst Vh;apply ext_getElem?;intro j;by_cases hj:id=j
   .subst hj;rw[qv zS,fU];rfl
   rw[getElem?_set_ne hj]
  show OpOK c w X ρ H.length (H.length+([]:List Ob).length) (H.set id (Ob.row true (xs.take 0))++R) _ _;rw[h0];exact OpOK.still (by simpa using h) (u:= .tuple #[]) (by rw[ej,lG];simp[Builtin.clear_,run_underlying hd]) (.tup #[] [] rfl (by simp))
 | lsl _ _ _ oo g p hp iR hl iU=>
  have fC:off+len<=xs.length:=hc;obtain⟨⟨zO,lH,us,gS,R9⟩,zP⟩:=h.ob id p _ hp eA;have ow:w.ownsRow 0 p.e p.size (.slice (some ⟨g,0,none⟩) xs.length p.cap) xs.length us:=by simpa [Place.val,iR] using gS
  obtain⟨zt,eJ⟩:=ow;rcases eJ with⟨h5,_⟩ | ⟨g',cap',cur,h5,_,jF,qY,qV,vu,tZ⟩
  .cases h5
  cases h5;by_cases XB:len=0
  .subst XB;obtain⟨X',h1,h2⟩:=h.shrink hp eA (n:=off) (by omega) iR (w':=w) (jY w (some g)) jF jF rfl (fun _ _=>rfl);rw[Sa] at h1;refine⟨.tuple #[],w,X',ρ,.inl (by rw[ej,lG];simp[Builtin.clear_,run_underlying hd]),h2,h1,.tup #[] [] rfl (by simp),fun _ _=>rfl⟩
  have akj:oo=off*p.size:=by rcases iU with h6 | ⟨h6,_⟩<;>omega
  subst akj;have hzc:(Builtin.zeroCells z.cells len).size=len*p.size:=by rw[size_zeroCells,tY,<-hs]
  have Ha:(off+len)*p.size<=p.cap*p.size:=qn _ hl;rw[Nat.add_mul] at Ha;have tX: ∀ v∈(Builtin.zeroCells z.cells len).toList,v.oneCell'=true:=by
   intro v ZA;rw[Array.mem_toList_iff] at ZA;unfold Builtin.zeroCells at ZA;rw[Array.mem_map] at ZA;obtain⟨k,hk,rfl⟩:=ZA;have hzp:0<z.cells.size:=by
    rcases Nat.eq_zero_or_pos z.cells.size with h0 | h0
    .rw[h0] at hk;omega
    exact h0
   have aH:k % z.cells.size<z.cells.size:=Nat.mod_lt _ hzp;refine df (k % z.cells.size) _ ?_;simp[aH]
  have bM:=run_storeCells_at P g (off*p.size) p.e (Builtin.zeroCells z.cells len).toList 0 cur w jF (by simp only[Array.length_toList,hzc];omega) tX;simp only[Nat.add_zero,Array.length_toList] at bM;have cg:=fun k=>iL (cur:=cur) (o:=off*p.size) (vs:=(Builtin.zeroCells z.cells len).toList) (by simp only[Array.length_toList,hzc];omega) k
  simp only[Array.length_toList] at cg;have oJ:=iK w g (cur.toList.take (off*p.size)++(Builtin.zeroCells z.cells len).toList++cur.toList.drop (off*p.size+(Builtin.zeroCells z.cells len).size)).toArray;have rD:=setRow_heap w g cur (cur.toList.take (off*p.size)++(Builtin.zeroCells z.cells len).toList++cur.toList.drop (off*p.size+(Builtin.zeroCells z.cells len).size)).toArray p.e (0,0) jF;have XC:(execOp e o).run P w= .ok (.value (.tuple #[])) (w.setRow g (cur.toList.take (off*p.size)++(Builtin.zeroCells z.cells len).toList++cur.toList.drop (off*p.size+(Builtin.zeroCells z.cells len).size)).toArray):=by
   rw[ej,lG];obtain⟨n,rfl⟩: ∃ n,len=n+1:=⟨len - 1,by omega⟩;simp[Builtin.clear_,run_underlying hd,zeroValue,typeInfo,eT,hz,bM]
  generalize mX:(cur.toList.take (off*p.size)++(Builtin.zeroCells z.cells len).toList++cur.toList.drop (off*p.size+(Builtin.zeroCells z.cells len).size)).toArray=new at XC oJ cg rD;have Hc:new.size=cur.size:=by
   rw[<-mX];simp only[List.size_toArray,qe,length_take,length_drop,Array.length_toList,hzc];omega
  obtain⟨X',h1,h2⟩:=h.shrink hp eA (n:=off) (by omega) iR (w':=w.setRow g new) oJ jF rD Hc (fun k hk=>by rw[cg,if_pos hk]);rw[Sa] at h1;exact⟨.tuple #[],_,X',ρ,.inl XC,h2,h1,.tup #[] [] rfl (by simp),fun _ _=>rfl⟩
theorem QV (hT:cx P T) (b:Builtin) (args:Array Operand) (ts:Array TypeId):B8 P T b args ts:=by
 intro c w X ρ H D R o e ρv r ho h hD hρ ak hc aD;have jL:=ak;unfold h_ at jL;split at jL
 .rename_i t v ef fA;obtain⟨args⟩:=args;obtain⟨ts⟩:=ts;simp only at ef;subst ef;simp only at fA
  match args,fA with
  | [s],_=>exact YG hT s t ho h hD hρ ak hc aD
 .rename_i t t' s x ef fA;obtain⟨args⟩:=args;obtain⟨ts⟩:=ts;simp only at ef;subst ef;simp only at fA;split at jL
  .rename_i AR;subst AR
   match args,fA with
   | [s,x],_=>exact MT hT s x t ho h hD hρ ak hc aD
  cases jL
 .rename_i t t' x y ef fA;obtain⟨args⟩:=args;obtain⟨ts⟩:=ts;simp only at ef;subst ef;simp only at fA
  match args,fA with
  | [x,y],_=>exact YH x y t t' ho h hD hρ ak hc aD
 .rename_i t t' x y ef fA;obtain⟨args⟩:=args;obtain⟨ts⟩:=ts;simp only at ef;subst ef;simp only at fA
  match args,fA with
  | [x,y],_=>exact YI x y t t' ho h hD hρ ak hc aD
 .rename_i t x ef fA;obtain⟨args⟩:=args;obtain⟨ts⟩:=ts;simp only at ef;subst ef;simp only at fA
  match args,fA with
  | [x],_=>exact QU hT x t ho h hD hρ ak hc aD
 cases jL
theorem Gn {l:List PV} {s:Nat} (hl:l.length=s) (hs:0<s): ∀ (n k:Nat),k<n*s->(List.replicate n l).flatten[k]?=l[k % s]?
 | 0,k,h=>by simp at h
 | n+1,k,h=>by
  rw[List.replicate_succ,List.flatten_cons];by_cases hk:k<s
  .rw[qi (by omega),Nat.mod_eq_of_lt hk]
  have e1:(n+1)*s=n*s+s:=Nat.succ_mul n s;have e2:k % s=(k - s) % s:=Nat.mod_eq_sub_mod (by omega);rw[getElem?_append_right (by omega),hl,Gn hl hs n (k - s) (by omega),e2]
theorem yV (hT:cx P T) (t:TypeId) (len:Nat) (parts:Array (Nat×Operand)):EffOp P T (.buildSlice t len parts):=by
 intro c w X ρ H D R o e ρv r ho h hD hρ ak hc aD;simp only[cj] at ak;split at ak;rotate_left
 .cases ak
 rename_i i hi;split at ak;rotate_left
 .cases ak
 rename_i el kN;have hd:=(hT _ _ hi).desc;rw[kN] at hd;simp only[fO] at hd;split at ak;rotate_left
 .cases ak
 rename_i ie mc;split at ak;rotate_left
 .cases ak
 rename_i cs eR;split at ak;rotate_left
 .cases ak
 rename_i fs DZ;split at ak;rotate_left
 .cases ak
 rename_i hg;obtain⟨eu,Ci,hg4⟩:=hg;cases ak;have l_:=qJ DZ;have JD:(gU H cs++[Ob.row true (dG ie.size len fs)]).length=H.length+D.length:=aD;rw[qe] at JD;unfold gU at JD;rw[a8] at JD;obtain⟨d,rfl⟩:=nS (D:=D) (by simp at JD;omega);obtain⟨X1,h1,qX,kJ⟩:=h.shutIds (cs.flatMap eZ);rw[eP _ l_] at h1;obtain⟨ti,z,eT,ef,vk,hz,tY,dW,df,hrd⟩:=nR (hT _ _ mc) (w:=w) (X:=X) (ρ:=ρ);have afL:0<z.cells.size:=by omega
 have LF:wR w X ρ ((Array.range (len*ti.size)).map fun k=>(z.cells[k % z.cells.size]!)) (List.replicate len ie.zero).flatten:=by
  have cg: ∀ (j:Nat) u,((Array.range (len*ti.size)).map fun k=>(z.cells[k % z.cells.size]!))[j]?=some u->j<len*ie.size/\z.cells[j % ie.size]?=some u:=by
   intro j u hu;rw[Array.getElem?_map,Option.map_eq_some_iff] at hu;obtain⟨k,hk,rfl⟩:=hu;have jG:=(Array.getElem?_eq_some_iff.1 hk).1;have iQ:=(Array.getElem?_eq_some_iff.1 hk).2;simp only[Array.getElem_range] at iQ;subst iQ;have aH:j % z.cells.size<z.cells.size:=Nat.mod_lt _ afL;refine⟨by simpa [ef] using jG,?_⟩;rw[<-tY];simp[aH]
  refine⟨by simp[ef,dW],fun j u hu=>df _ u (cg j u hu).2,fun j u x hu hx=>?_⟩;obtain⟨h2,h3⟩:=cg j u hu;rw[Gn dW Ci len j h2] at hx;exact(hrd _ u x h3 hx).1
 obtain⟨us',gS,eX⟩:=Dj (w:=w) (X:=X) (ρ:=ρ) (pl:=fun j=>some (j*ie.size,ie.size)) (by intro i off s hi;cases hi;exact Ci) (parts.toList.map fun(i,x)=>(i,e x)) (parts.toList.map fun(j,x)=>(j,ρv x)) _ _ cs (by simp)
  (Gj parts.toList (fun p hp=>hρ p.2 (by
   simp only[Op.operands,List.mem_toArray,mem_map];exact⟨p,hp,rfl⟩))) LF eR
 have fC:cs.length=len*ie.size:=by
  have h2:=eX.n;have h3: ∀ (pv:List (Nat×PV)) (a b:List PV),mf (fun j=>some (j*ie.size,ie.size)) a pv=some b->b.length=a.length:=by
   intro pv
   induction pv with
   | nil=>intro a b vo;simp[mf] at vo;rw[vo]
   | cons p pv ih=>
    intro a b vo;obtain⟨i,x⟩:=p;simp only[mf] at vo;split at vo
    .rename_i amj;rw[ih _ _ vo,gO (by omega)]
    cases vo
  rw[h3 _ _ _ eR];simp[dW]
 have oT:fs.length=len*ie.size:=by rw[f5 DZ,fC]
 have hXs:Stp c w w X X1 ρ ρ:=Stp.same_world qX;have Ou: ∀ (k:Nat) u y,us'[k]?=some u->fs[k]?=some y->FRd w X1 u y:=by
  intro k u y hu hy;have aH:k<cs.length:=by rw[fC,<-oT];exact(List.getElem?_eq_some_iff.1 hy).1
  obtain⟨y',Cr,N0⟩:=k_ DZ k cs[k] (by simp[aH]);rw[hy] at Cr;cases Cr;refine lY h bx (eX.rd k u cs[k] hu (by simp[aH])) N0 qX (fun id dk=>kJ id ?_);rw[List.mem_flatMap];exact⟨cs[k],by simp,dk⟩
 have XD:ρ[(shutIds (cs.flatMap eZ) H).length]?=some none:=by rw[a8];exact hD _ (qp _) (by simp)
 have NJ:len<=maxLen:=by simp only[maxLen];omega
 have fF:=World.ownsRow_lit (base:=0) (size:=ie.size) (e:=el) w us' len (eB _) NJ (by rw[eX.n,fC]);obtain⟨X',ρ',h2,h3,h4,h5⟩:=d7 (xs:=dG ie.size len fs) (size:=ie.size) (el:=el) (v:= .slice (some ⟨w.heap.size,0,none⟩) len len) (row:=none) h1 XD (World.grownBy_alloc w _ none) (by simp) (by intros;simp) (by simp) Ci (se oT)
  (by rw[gP];exact fF) (by
   intro g hg;simp only[Value.ownBlock,qo] at hg;left;omega) (by
   intro i' j x y hx hy;obtain⟨Cr,hj⟩:=py hx hy;have aH:i'*ie.size+j<us'.size:=by rw[eX.n,fC,<-oT];exact(List.getElem?_eq_some_iff.1 Cr).1
   exact⟨us'[i'*ie.size+j],by simp[aH],Ou _ _ _ (by simp[aH]) Cr⟩)
 rw[a8,gP] at h4;rw[a8] at h5;refine⟨_,_,X',ρ',.inl ?_,hXs.trans h2,h3,h4,fun id dk=>h5 id (by simp at dk;omega)⟩;have afM: ¬(16777216<len*ti.size):=by
  rw[ef];have:len*ie.size<=1000*1000:=Nat.mul_le_mul (by omega) (by omega);omega
 by_cases Lp:len=0
 .subst Lp;have v3:Array.range 0=#[]:=rfl;simp only[Nat.zero_mul,v3,Array.map_empty] at gS;simp[execOp,ho,Instr.buildSlice,run_underlying hd,sizeOf,typeInfo,eT,ef,v3,gS,newRow]
 have cX: ¬(len*ti.size=0):=by
  rw[ef];exact Nat.mul_ne_zero Lp (by omega)
 rw[ef] at gS;simp only[ef] at afM cX;simp[execOp,ho,Instr.buildSlice,run_underlying hd,sizeOf,typeInfo,eT,ef,zeroValue,hz,afM,cX,gS,newRow]
end
end Go.AM
