/- The abstract machine:values that are built,literals of slices,frozen variables. -/
import Derived.Test.YtjjbkjgifdhlcaaGreatT4
import Derived.Laws.Tables
import Derived.Test.YtjjbkjgifdhlcaaGreatT1
set_option linter.all false
open List (append_assoc ext_getElem? getElem?_append_right getElem?_of_mem getElem?_set_ne getElem?_take length_drop length_nil length_take map_cons map_nil mem_map mem_of_getElem? mem_of_mem_drop nil_append set_append_left)
namespace Go.AM
section
variable {P:Program} {T:Tab}
structure wU (w:World) (X:Nat->Prop) (ρ:Places) (us:Array Value) (cs:List PV):Prop where
 n:us.size=cs.length
 one: ∀ (i:Nat) u,us[i]?=some u->u.oneCell'=true
 rd: ∀ (i:Nat) u x,us[i]?=some u->cs[i]?=some x->PRd w X ρ u x
theorem Dc {w:World} {X:Nat->Prop} {ρ:Places} {pl:Nat->Option (Nat×Nat)} (mW: ∀ i off s,pl i=some (off,s)->0<s):
 ∀ (pc:List (Nat×Value)) (pv:List (Nat×PV)) (us:Array Value) (cs cs':List PV),pc.length=pv.length->(∀ (k:Nat) a b,pc[k]?=some a->pv[k]?=some b->a.1=b.1/\PRd w X ρ a.2 b.2)->
  wU w X ρ us cs->mb pl cs pv=some cs'-> ∃ us',Instr.fill pl us pc=some us'/\wU w X ρ us' cs'
 | [],[],us,cs,cs',_,_,h,hf=>by
  simp only[mb,qo] at hf;subst hf;exact⟨us,rfl,h⟩
 | (i,u)::pc,(j,x)::pv,us,cs,cs',hl,hp,h,hf=>by
  obtain⟨h1,h2⟩:=hp 0 _ _ rfl rfl;simp only at h1 h2;subst h1;simp only[mb] at hf;split at hf
  .cases hf
  .rename_i off size Zm;split at hf
   .rename_i hc;have db:=mW _ _ _ Zm;obtain⟨d4,c_⟩:=sb h2 (by omega);have hrd:=yP h2;have mR:wU w X ρ (u.cells.zipIdx.foldl (fun cs (p:Value×Nat)=>cs.setIfInBounds (off+p.2) p.1) us) (eJ cs off x.cells):=by
     have hg: ∀ m,(u.cells.zipIdx.foldl (fun cs (p:Value×Nat)=>cs.setIfInBounds (off+p.2) p.1) us)[m]?=if off<=m/\m<off+u.cells.size/\m<us.size then u.cells[m - off]? else us[m]?:=by
      intro m;have:=yO u.cells.toList 0 off us m;rw[<-Array.foldl_toList,Array.toList_zipIdx];simpa using this
     have hsp:=fun m=>jb (l:=cs) (new:=x.cells) (off:=off) (by omega) m
     have hn:=h.n;refine⟨?_,fun m v hv=>?_,fun m v y hv hy=>?_⟩
     .rw[gH (by omega),<-hn];have akv: ∀ (l:List (Value×Nat)) (a:Array Value),(l.foldl (fun cs (p:Value×Nat)=>cs.setIfInBounds (off+p.2) p.1) a).size=a.size:=by
       intro l
       induction l with
       | nil=>intro a;rfl
       | cons q l ih=>intro a;rw[List.foldl_cons,ih];simp
      rw[<-Array.foldl_toList];exact akv _ _
     .rw[hg] at hv;split at hv
      .exact c_ _ _ hv
      exact h.one _ _ hv
     rw[hg] at hv;rw[hsp] at hy;by_cases hm:off<=m/\m<off+u.cells.size/\m<us.size
     .rw[if_pos hm] at hv;rw[if_neg (by omega),if_pos (by omega)] at hy;exact hrd _ _ _ hv hy
     rw[if_neg hm] at hv;have aoP:m<us.size:=(Array.getElem?_eq_some_iff.1 hv).1;by_cases Xz:m<off
     .rw[if_pos Xz] at hy;exact h.rd _ _ _ hv hy
     rw[if_neg Xz,if_neg (by omega)] at hy;exact h.rd _ _ _ hv hy
    obtain⟨us',gK,eW⟩:=Dc mW pc pv _ _ _ (by simpa using hl) (fun k a b ha hb=>hp (k+1) a b (by simpa using ha) (by simpa using hb)) mR hf;refine⟨us',?_,eW⟩;simp only[Instr.fill,Zm];rw[if_neg (by have:=h.n;simp;omega)];exact gK
   .cases hf
 | [],_::_,_,_,_,hl,_,_,_=>by simp at hl
 | _::_,[],_,_,_,hl,_,_,_=>by simp at hl
theorem Gf {w:World} {X:Nat->Prop} {ρ:Places} {e:Operand->Value} {ρv:Operand->PV} (parts:List (Nat×Operand)) (h: ∀ p∈parts,PRd w X ρ (e p.2) (ρv p.2)):
 ∀ (k:Nat) a b,(parts.map fun(i,x)=>(i,e x))[k]?=some a->(parts.map fun(j,x)=>(j,ρv x))[k]?=some b->a.1=b.1/\PRd w X ρ a.2 b.2:=by
 intro k a b ha hb
 rw[List.getElem?_map,Option.map_eq_some_iff] at ha hb
 obtain⟨p,hp,rfl⟩:=ha
 obtain⟨q,hq,rfl⟩:=hb
 rw[hp] at hq;cases hq
 exact⟨rfl,h p (mem_of_getElem? hp)⟩
theorem vI {fs:List Fld}: ∀ (ffs:List Field) (k:Nat),(∀ (j:Nat) f,ffs[j]?=some f-> ∃ fd,fs[k+j]?=some fd/\f.offset=fd.off/\ ∃ ti,P.info? f.type=some ti/\ti.size=fd.size)->
 ∃ places,ffs.mapM (fun f=>(P.info? f.type).map fun i=>(f.offset,i.size))=some places/\places.length=ffs.length/\ ∀ (j:Nat),j<ffs.length->places[j]?=(fs[k+j]?).map fun fd=>(fd.off,fd.size)
 | [],k,_=>⟨[],rfl,rfl,by simp⟩
 | f::ffs,k,h=>by
  obtain⟨fd,zA,ho,ti,eP,hs⟩:=h 0 f rfl;obtain⟨places,hp,hl,hg⟩:=vI ffs (k+1) (fun j f' hj=>by
   have:=h (j+1) f' (by simpa using hj);rwa [show k+(j+1)=k+1+j by omega] at this)
  refine⟨(fd.off,fd.size)::places,by simp[List.mapM_cons,eP,hp,ho,hs],by simp[hl],fun j hj=>?_⟩;cases j with
  | zero=>simp at zA ⊢;simp[zA]
  | succ j=>
   simp only[List.getElem?_cons_succ];rw[hg j (by simpa using hj),show k+1+j=k+(j+1) by omega]
theorem Gg (hT:ck P T) (t:TypeId) (parts:Array (Nat×Operand)):ee P T (.build t parts):=by
 intro c w X ρ H F o e ρv r lo hi ho h hH hρ ak hc;simp only[cx] at ak;split at ak;rotate_left
 .cases ak
 rename_i i hi;split at ak;rotate_left
 .cases ak
 rename_i fs DS;split at ak;rotate_left
 .cases ak
 rename_i cs eI;simp only[Res.pure,qo] at ak;subst ak;have hd:=(hT _ _ hi).desc;rw[DS] at hd;obtain⟨ffs,hu,d4,Jx⟩:=hd;obtain⟨ti,z,eP,ef,_,hz,tZ,dU,c_,hrd⟩:=nP (hT _ _ hi) (w:=w) (X:=X) (ρ:=ρ);have mW: ∀ (i off s:Nat),((fs[i]?).map fun(f:Fld)=>(f.off,f.size))=some (off,s)->0<s:=by
  intro i off s hi;rw[Option.map_eq_some_iff] at hi;obtain⟨fd,zA,he⟩:=hi;cases he;have aH:i<ffs.size:=by rw[d4];exact(List.getElem?_eq_some_iff.1 zA).1
  exact(Jx i _ _ (Array.getElem?_eq_getElem aH) zA).2.1
 obtain⟨us',gK,eW⟩:=Dc (w:=w) (X:=X) (ρ:=ρ) (pl:=fun(i:Nat)=>(fs[i]?).map fun(f:Fld)=>(f.off,f.size)) mW (parts.toList.map fun(i,x)=>(i,e x)) (parts.toList.map fun(j,x)=>(j,ρv x)) z.cells i.zero cs (by simp)
  (Gf parts.toList (fun p hp=>hρ p.2 (by
   simp only[Op.operands,List.mem_toArray,mem_map];exact⟨p,hp,rfl⟩))) ⟨by omega,c_,fun j u x hu hx=>(hrd j u x hu hx).1⟩ eI
 obtain⟨places,hp,hl,hg⟩:=vI (P:=P) (fs:=fs) ffs.toList 0 (fun j f hj=>by
  have SL:ffs[j]?=some f:=by simpa using hj
  have aH:j<fs.length:=by rw[<-d4];exact(Array.getElem?_eq_some_iff.1 SL).1
  obtain⟨h1,_,ti,d,h3,h4,_⟩:=Jx j f fs[j] SL (by simp[aH]);exact⟨fs[j],by simp[aH],h1,ti,h3,h4⟩)
 have akw:(fun(i:Nat)=>(fs[i]?).map fun(f:Fld)=>(f.off,f.size))=fun(i:Nat)=>(places.toArray[i]?:Option (Nat×Nat)):=by
  funext j;simp only[List.getElem?_toArray];by_cases hj:j<ffs.size
  .rw[hg j (by simpa using hj)];simp
  rw[List.getElem?_eq_none (by omega),List.getElem?_eq_none (by rw[hl];simp;omega)];rfl
 rw[akw] at gK;refine⟨rfl,OpOK.still h (u:= .agg us') ?_ (.agg _ _ eW.n eW.one eW.rd)⟩;have hb:P.built t (parts.map fun(i,x)=>(i,e x)).toList=some us':=by
  simp only[Program.built,eP,hu,hz,hp];simpa using gK
 simp only[execOp,ho,Sem.run_bind,run_build w t _ us' hb,Result.andThen_ok];rfl
theorem yQ {H:List Ob}: ∀ {xs:List PV} {ys:List FV},rC H xs=some ys->ys.length=xs.length/\ ∀ (i:Nat) y,ys[i]?=some y-> ∃ x,xs[i]?=some x/\gj H x=some y
 | [],ys,h=>by simp[rC] at h;subst h;simp
 | x::xs,ys,h=>by
  simp only[rC] at h;split at h
  .rename_i y ys' h1 h2;cases h;obtain⟨hl,hg⟩:=yQ h2;refine⟨by simp[hl],fun i z hz=>?_⟩;cases i with
   | zero=>simp at hz;subst hz;exact⟨x,rfl,h1⟩
   | succ i=>simp at hz ⊢;exact hg i z hz
  cases h
theorem eM {G:List Ob}: ∀ (ids:List Nat) {F:List Ob},(∀ id∈ids,id<F.length)->shutIds ids (F++G)=shutIds ids F++G
 | [],F,_=>rfl
 | id::ids,F,h=>by
  show shutIds ids (shut (F++G) id)=shutIds ids (shut F id)++G;rw[F6 (h id (by simp)),eM ids (fun j hj=>by simp[shut];exact h j (by simp[hj]))]
theorem K7 {H:List Ob} {x:PV} {y:FV} (h:fP H x=some y): ∀ id∈eY x,id<H.length:=by
 cases x with
 | lsl id off len s=>
  intro j hj;simp only[eY,qz] at hj;subst hj;simp only[fP] at h;cases ho:H[j]? with
  | none=>rw[ho] at h;cases h
  | some o=>exact(List.getElem?_eq_some_iff.1 ho).1
 | _=>intro j hj;simp[eY] at hj
theorem qK {H:List Ob}: ∀ {xs:List PV} {ys:List FV},lG H xs=some ys-> ∀ id∈xs.flatMap eY,id<H.length
 | [],ys,h=>by simp
 | x::xs,ys,h=>by
  simp only[lG] at h;split at h
  .rename_i y ys' h1 h2;intro id d5;rw[List.flatMap_cons,qr] at d5;rcases d5 with d5 | d5
   .exact K7 h1 id d5
   exact qK h2 id d5
  cases h
theorem Dd {H:List Ob} {x:PV} {y:FV} (h:gj H x=some y): ∀ id∈ma H x,id<H.length:=by
 unfold gj at h;unfold ma;split at h
 .rename_i id;cases ho:H[id]? with
  | none=>rw[ho] at h;cases h
  | some o=>
   rw[ho] at h;cases o with
   | box rw cs=>
    simp only[Option.map_eq_some_iff] at h;obtain⟨ys,D3,_⟩:=h;intro j hj;simp only[AK] at hj;rcases hj with rfl | hj
    .exact(List.getElem?_eq_some_iff.1 ho).1
    .exact qK D3 j hj
   | _=>cases h
 exact K7 h
theorem K8 {H:List Ob} {x y:PV} (h:iw H x=some y): ∀ id∈oy H x,id<H.length:=by
 unfold iw at h;unfold oy;split at h
 .simp only[Option.map_eq_some_iff] at h;obtain⟨ys,D3,_⟩:=h;exact qK D3
 rw[Option.map_eq_some_iff] at h;obtain⟨z,hz,_⟩:=h;exact Dd hz
theorem Gh {H:List Ob}: ∀ {xs ys:List PV},cC H xs=some ys-> ∀ id∈xs.flatMap (oy H),id<H.length
 | [],ys,h=>by simp
 | x::xs,ys,h=>by
  simp only[cC] at h;split at h
  .rename_i y ys' h1 h2;intro id d5;rw[List.flatMap_cons,qr] at d5;rcases d5 with d5 | d5
   .exact K8 h1 id d5
   exact Gh h2 id d5
  cases h
theorem OpOK.shutting {c:gF} {w:World} {X:Nat->Prop} {ρ:Places} {H G:List Ob} {lo hi:Nat} {ids:List Nat} (pL: ∀ id∈ids,id<H.length) (h:HRd c w X ρ (H++G)) {r:Result Next} {u:Value} {v:PV} (hr:r= .ok (.value u) w)
 (hu: ∀ X',(∀ b,X' b->X b)->(∀ id∈ids,∀ p o g,ρ[id]?=some (some p)->(H++G)[id]?=some o->o.alive->p.b=some g-> ¬X' g)->PRd w X' ρ u v):OpOK c w X ρ lo hi (shutIds ids H++G) r v:=by
 obtain⟨X',h',hs,hn⟩:=h.shutIds ids
 rw[eM ids pL] at h'
 exact⟨u,w,X',ρ,.inl hr,Stp.same_world hs,h',hu X' hs hn,fun _ _=>rfl⟩
theorem K9 {w:World} {X:Nat->Prop} {ρ:Places} {u:Value} {x:PV} {v:Value} (h:PRd w X ρ u x) (hl:LG x=some v):u=v:=by
 unfold LG at hl;split at hl
 .cases hl;exact h.litInv
 cases hl
theorem BR: ∀ {cs:List PV} {vs:List Value},w_ cs=some vs->vs.length=cs.length/\ ∀ (i:Nat) c,cs[i]?=some c-> ∃ v,vs[i]?=some v/\LG c=some v
 | [],vs,h=>by simp[w_] at h;subst h;simp
 | c::cs,vs,h=>by
  simp only[w_] at h;split at h
  .rename_i v us h1 h2;cases h;obtain⟨hl,hg⟩:=BR h2;refine⟨by simp[hl],fun i x hx=>?_⟩;cases i with
   | zero=>simp at hx;subst hx;exact⟨v,rfl,h1⟩
   | succ i=>exact hg i x (by simpa using hx)
  cases h
theorem Uj {w:World} {X:Nat->Prop} {ρ:Places} {u:Value} {x:PV} {v:Value} (h:PRd w X ρ u x) (hl:Ov x=some v):u=v:=by
 unfold Ov at hl;split at hl
 .rename_i cs;rw[Option.map_eq_some_iff] at hl;obtain⟨vs,fr,rfl⟩:=hl;obtain⟨aD,hg⟩:=BR fr;cases h with
  | agg us _ hn h1 hr=>
   congr 1;apply Array.ext
   .simp[aD,hn]
   intro i oA iH;obtain⟨v,hv,hc⟩:=hg i cs[i] (by simp[<-hn,oA]);have:=K9 (hr i us[i] cs[i] (by simp[oA]) (by simp[<-hn,oA])) hc;rw[this];simp at iH;rw[qb iH] at hv;cases hv;simp
 exact K9 h hl
theorem BS: ∀ {cs:List PV} {vs:List Value},vr cs=some vs->vs.length=cs.length/\ ∀ (i:Nat) c,cs[i]?=some c-> ∃ v,vs[i]?=some v/\Ov c=some v
 | [],vs,h=>by simp[vr] at h;subst h;simp
 | c::cs,vs,h=>by
  simp only[vr] at h;split at h
  .rename_i v us h1 h2;cases h;obtain⟨hl,hg⟩:=BS h2;refine⟨by simp[hl],fun i x hx=>?_⟩;cases i with
   | zero=>simp at hx;subst hx;exact⟨v,rfl,h1⟩
   | succ i=>exact hg i x (by simpa using hx)
  cases h
theorem De (fn:Fn) (first captured:Array Operand):EffOp P T (.makeFunc fn first captured):=by
 intro c w X ρ H D R o e ρv r ho h hD hρ ak hc aD;simp only[cx] at ak;split at ak;rotate_left
 .split at ak
  .rename_i vs fr vn;cases ak;have hd:D=[]:=(by simpa using aD);subst hd;have NB:captured=#[]:=by
    have:captured.toList=[]:=List.map_eq_nil_iff.1 vn;exact Array.toList_eq_nil_iff.1 this
   obtain⟨hl,hg⟩:=BS fr;have R_:first.map e=List.toArray vs:=by
    apply Array.ext
    .simp[hl]
    intro i oA iH;have hif:i<first.size:=by simpa using oA
    obtain⟨v,hv,hlv⟩:=hg i (ρv first[i]) (by simp[hif]);have:=Uj (hρ first[i] (by simp[Op.operands])) hlv;rw[Array.getElem_map,this];simp at iH;rw[qb iH] at hv;cases hv;simp
   exact OpOK.still (u:= .func fn (List.toArray vs) #[]) h (by simp[execOp,ho,Instr.makeFunc,R_,NB]) (.fv _ _ (.lit _ rfl))
  cases ak
 rename_i c1 c2 h1 h2;cases ak;have h5:(shutIds ((first.toList.map ρv++captured.toList.map ρv).flatMap (ma H)) H).length=H.length+D.length:=aD;rw[bh] at h5;have hd:D=[]:=List.eq_nil_of_length_eq_zero (by omega);subst hd;obtain⟨zw,Sy⟩:=yQ h1;obtain⟨qP,et⟩:=yQ h2;have pL: ∀ id∈(first.toList.map ρv++captured.toList.map ρv).flatMap (ma H),id<H.length:=by
  intro id d5;rw[List.mem_flatMap] at d5;obtain⟨x,hx,d5⟩:=d5;rw[qr] at hx;rcases hx with hx | hx
  .obtain⟨k,hk⟩:=getElem?_of_mem hx;have aH:k<c1.length:=by rw[zw];exact(List.getElem?_eq_some_iff.1 hk).1
   obtain⟨x',R9,hf⟩:=Sy k c1[k] (by simp[aH]);rw[hk] at R9;cases R9;exact Dd hf id d5
  obtain⟨k,hk⟩:=getElem?_of_mem hx;have aH:k<c2.length:=by rw[qP];exact(List.getElem?_eq_some_iff.1 hk).1
  obtain⟨x',R9,hf⟩:=et k c2[k] (by simp[aH]);rw[hk] at R9;cases R9;exact Dd hf id d5
 refine OpOK.shutting pL h (u:= .func fn (first.map e) (captured.map e)) (by simp[execOp,ho,Instr.makeFunc]) (fun X' hX hn=> .fv _ _ (.fn fn _ _ _ _ (by simpa using zw.symm) (by simpa using qP.symm) ?_ ?_))
 .intro j u y hu hy;obtain⟨x,hx,hf⟩:=Sy j y hy;simp at hu;obtain⟨a,ha,rfl⟩:=hu;rw[List.getElem?_map] at hx;simp only[Array.getElem?_toList,ha,Option.map_some,qo] at hx;subst hx;refine C_ h bn (hρ a (by simp[Op.operands];exact .inl (Array.mem_of_getElem? ha))) hf hX (fun id d5=>hn id ?_);rw[List.mem_flatMap];exact⟨ρv a,List.mem_append.2 (.inl (mem_map.2 ⟨a,Array.mem_toList_iff.2 (Array.mem_of_getElem? ha),rfl⟩)),d5⟩
 intro j u y hu hy;obtain⟨x,hx,hf⟩:=et j y hy;simp at hu;obtain⟨a,ha,rfl⟩:=hu;rw[List.getElem?_map] at hx;simp only[Array.getElem?_toList,ha,Option.map_some,qo] at hx;subst hx;refine C_ h bn (hρ a (by simp[Op.operands];exact .inr (Array.mem_of_getElem? ha))) hf hX (fun id d5=>hn id ?_);rw[List.mem_flatMap];exact⟨ρv a,List.mem_append.2 (.inr (mem_map.2 ⟨a,Array.mem_toList_iff.2 (Array.mem_of_getElem? ha),rfl⟩)),d5⟩
end
end Go.AM
namespace Go.AM
theorem gI (s:Nat): ∀ (n:Nat) (l:List FV),(dA s n l).length=n
 | 0,_=>rfl
 | n+1,l=>by simp[dA,gI s n]
theorem sc (s:Nat): ∀ (n:Nat) (l:List FV) (i:Nat) x,(dA s n l)[i]?=some x->x=(l.drop (i*s)).take s
 | 0,_,_,_,h=>by simp[dA] at h
 | n+1,l,i,x,h=>by
  cases i with
  | zero=>simp[dA] at h;simp[h]
  | succ i=>
   simp only[dA,List.getElem?_cons_succ] at h;rw[sc s n _ i x h,List.drop_drop];congr 2;rw[Nat.add_mul];omega
theorem sd {s n:Nat} {l:List FV} (h:l.length=n*s): ∀ x∈dA s n l,x.length=s:=by
 intro x hx;obtain⟨i,hi⟩:=getElem?_of_mem hx;have aH:i<n:=by have:=(List.getElem?_eq_some_iff.1 hi).1;rwa [gI] at this
 rw[sc s n l i x hi];have:(i+1)*s<=n*s:=qn _ aH;rw[Nat.add_mul] at this;simp;omega
theorem po {s n:Nat} {l:List FV} {i j:Nat} {x:List FV} {y:FV} (hx:(dA s n l)[i]?=some x) (hy:x[j]?=some y):l[i*s+j]?=some y/\j<s:=by
 rw[sc s n l i x hx,getElem?_take] at hy;split at hy
 .rw[List.getElem?_drop] at hy;exact⟨hy,by assumption⟩
 cases hy
section
variable {P:Program} {T:Tab}
def QU (w:World) (X:Nat->Prop) (size:Nat) (v:Value) (ys:List (List FV)):Prop:=
 (∀ y∈ys,y.length=size)/\((v= .slice none 0 0/\ys=[])\/ ∃ (a:Addr) (c:Nat) (news:List Value),v= .slice (some a) ys.length c/\news.length=ys.length*size/\(∀ (j:Nat) u,news[j]?=some u->w.cell? (a.add j)=some u)/\
  (∀ u∈news,u.oneCell'=true)/\ ∀ (i j:Nat) x y,ys[i]?=some x->x[j]?=some y-> ∃ u,news[i*size+j]?=some u/\FRd w X u y)
theorem Df {w:World} {X:Nat->Prop} {size:Nat} (db:0<size) {v:Value} {ys:List (List FV)} (h:FRd w X v (.sl ys)) (hl: ∀ y∈ys,y.length=size):QU w X size v ys:=by
 refine⟨hl,?_⟩;cases h with
 | nil=>exact .inl ⟨rfl,rfl⟩
 | sl ad n cap s _ us hn hc hs h0 hX hb hcell hrd=>
  right;have afV: ∀ k,k<ys.length*size-> ∃ x y,ys[k / size]?=some x/\x[k % size]?=some y/\size=s:=by
   intro k hk;have h1:k / size<ys.length:=(Nat.div_lt_iff_lt_mul db).2 hk;have hx:=kj h1;have h2:k % size<ys[k / size].length:=by rw[hl _ hx];exact Nat.mod_lt _ db
   exact⟨ys[k / size],ys[k / size][k % size],by simp[h1],by simp[h2],by rw[<-hl _ hx,hs _ hx]⟩
  refine⟨ad,cap,(List.range (ys.length*size)).map fun k=>us (k / size) (k % size),by rw[hn],by simp,fun j u hu=>?_,fun u hu=>?_,fun i j x y hx hy=>?_⟩
  .rw[List.getElem?_map,Option.map_eq_some_iff] at hu;obtain⟨k,hk,rfl⟩:=hu;obtain⟨jD,iJ⟩:=List.getElem?_eq_some_iff.1 hk;rw[List.getElem_range] at iJ;subst iJ;have hk:j<ys.length*size:=by simpa using jD
   obtain⟨x,y,hx,hy,rfl⟩:=afV j hk;rw[g8 h0,<-hcell _ _ x y hx hy];congr 2;rw[Nat.mul_comm (j / size) size,Nat.div_add_mod]
  .rw[mem_map] at hu;obtain⟨k,hk,rfl⟩:=hu;rw[List.mem_range] at hk;obtain⟨x,y,hx,hy,_⟩:=afV k hk;exact(hrd _ _ x y hx hy).one
  have aH:i<ys.length:=(List.getElem?_eq_some_iff.1 hx).1;have hj:j<size:=by rw[<-hl x (mem_of_getElem? hx)];exact(List.getElem?_eq_some_iff.1 hy).1
  have h1:(i+1)*size<=ys.length*size:=qn _ aH;rw[Nat.add_mul] at h1;have h2:i*size+j<ys.length*size:=by omega
  refine⟨us i j,?_,hrd i j x y hx hy⟩;have e1:(i*size+j) / size=i:=by
   rw[Nat.mul_comm,Nat.mul_add_div db,Nat.div_eq_of_lt hj,Nat.add_zero]
  have e2:(i*size+j) % size=j:=by
   rw[Nat.mul_comm,Nat.mul_add_mod,Nat.mod_eq_of_lt hj]
  rw[List.getElem?_map,List.getElem?_range h2];simp only[Option.map_some,e1,e2]
theorem Uk {w:World} {X:Nat->Prop} {ρ:Places} {p:Place} {xs:List (List FV)} (hr:QN w X p xs) {id off len:Nat} {v:Value}
 (hv:PRd w X ρ v (.lsl id off len p.size)) (hp:ρ[id]?=some (some p)) (hl:off+len<=xs.length):QU w X p.size v ((xs.drop off).take len):=by
 refine⟨fun x hx=>hr.len x (mem_of_mem_drop (Cg hx)),?_⟩
 obtain⟨us,gK,hcell⟩:=hr.cells
 obtain⟨q,hq,hqs,⟨hg,mT,rfl,rfl⟩ | ⟨g,og,hg,mT,qP,iP⟩⟩:=hv.lslInv
 .left
  rw[List.take_zero]
  exact⟨mT,rfl⟩
 right
 rw[hp] at hq;cases hq
 have aD:((xs.drop off).take len).length=len:=by simp;omega
 have fA:World.ownsRow w 0 p.e p.size (.slice (some ⟨g,0,none⟩) xs.length p.cap) xs.length us:=by simpa [Place.val,hg] using gK
 have zo:us.length=xs.length*p.size:=fA.1
 have AI:(off+len)*p.size<=xs.length*p.size:=qn _ hl
 rw[Nat.add_mul] at AI
 have c_: ∀ (k:Nat) u,us[k]?=some u->u.oneCell'=true:=by
  intro k u hu;have hk:k<xs.length*p.size:=by rw[<-zo];exact(List.getElem?_eq_some_iff.1 hu).1
  have h1:k / p.size<xs.length:=(Nat.div_lt_iff_lt_mul hr.pos).2 hk;have h2:k % p.size<xs[k / p.size].length:=by rw[hr.len _ (kj h1)];exact Nat.mod_lt _ hr.pos
  obtain⟨u',Jt,hf⟩:=hcell (k / p.size) (k % p.size) xs[k / p.size] xs[k / p.size][k % p.size] (by simp[h1]) (by simp[h2]);rw[Nat.mul_comm (k / p.size),Nat.div_add_mod,hu] at Jt;cases Jt;exact hf.one
 refine⟨_,_,(us.drop (off*p.size)).take (len*p.size),by rw[aD];exact mT,by rw[aD];simp;omega,fun j u hu=>?_,fun u hu=>?_,fun i j x y hx hy=>?_⟩
 .rw[getElem?_take] at hu
  split at hu
  .rename_i hj
   rw[List.getElem?_drop] at hu
   have:=fA.cells (g:=g) rfl _ u hu
   rw[iz,Nat.zero_add] at this
   have hog:og=off*p.size:=by
    rcases iP with iP | iP
    .exact iP
    have:len=0:=by omega
    subst this;omega
   rw[iz,hog]
   exact this
  cases hu
 .obtain⟨k,hk⟩:=getElem?_of_mem (mem_of_mem_drop (Cg hu))
  exact c_ k u hk
 rw[getElem?_take] at hx
 split at hx
 .rename_i hi
  rw[List.getElem?_drop] at hx
  obtain⟨u,hu,hf⟩:=hcell _ j x y hx hy
  refine⟨u,?_,hf⟩
  have hj:j<p.size:=by rw[<-hr.len x (mem_of_getElem? hx)];exact(List.getElem?_eq_some_iff.1 hy).1
  have h1:(i+1)*p.size<=len*p.size:=qn _ hi
  rw[Nat.add_mul] at h1
  rw[getElem?_take,if_pos (by omega),List.getElem?_drop,<-hu]
  congr 1
  rw[Nat.add_mul];omega
 cases hx
theorem Dg {c:gF} {w:World} {X:Nat->Prop} {ρ:Places} {F H:List Ob} (h:HRd c w X ρ F) (hH: ∀ (j:Nat) o,H[j]?=some o->F[j]?=some o) {size:Nat} (db:0<size) {v:Value} {x:PV} (hv:PRd w X ρ v x)
 {cd:Prop} {ys:List (List FV)} (hs:kH H size x=some (cd,ys)) (hc:cd):QU w X size v ys:=by
 cases x with
 | fv z=>
  cases z with
  | sl xs=>
   simp only[kH,qo,Prod.mk.injEq] at hs;obtain⟨rfl,rfl⟩:=hs;cases hv with | fv _ _ hf=>exact Df db hf hc
  | lit u=>
   unfold kH at hs;split at hs
   all_goals first | (cases hs;done) | skip
   all_goals rename_i he
   all_goals first | (cases he;done) | skip
   injection he with he;injection he with he
   subst he;simp only[qo,Prod.mk.injEq] at hs;obtain⟨rfl,rfl⟩:=hs;rw[hv.litInv];exact⟨by simp,.inr ⟨_,_,[],rfl,by simp,by simp,by simp,by simp⟩⟩
  | _=>simp[kH] at hs
 | nilsl=>
  simp only[kH,qo,Prod.mk.injEq] at hs;obtain⟨rfl,rfl⟩:=hs;cases hv with | nilsl=>exact⟨by simp,.inl ⟨rfl,rfl⟩⟩
 | clip xs=>
  simp only[kH,qo,Prod.mk.injEq] at hs;obtain⟨rfl,rfl⟩:=hs;cases hv with | clip _ _ _ hf=>exact Df db hf hc
 | lsl id off len s=>
  simp only[kH] at hs;split at hs
  .rename_i rw xs ho;split at hs
   .rename_i d4;subst d4;simp only[qo,Prod.mk.injEq] at hs;obtain⟨rfl,rfl⟩:=hs;obtain⟨p,hp,l_,_⟩:=hv.lslInv;subst l_;exact Uk (h.ob id p _ hp (hH id _ ho)).1 hv hp hc
   cases hs
  .cases hs
 | any=>simp[kH] at hs
 | ptr _ _ _=>simp[kH] at hs
 | agg _=>simp[kH] at hs
 | tup _=>simp[kH] at hs
 | tab _=>simp[kH] at hs
end
end Go.AM
namespace Go.AM
section
variable {P:Program} {T:Tab}
theorem kK {w:World} {el size k cap:Nat} {z:Value} (tZ:z.cells.size=size) {xs news:List Value} (hl:(xs++news).length=k*size) (hk:k<=cap) (vn:cap<=maxLen):
 (w.drew.alloc (.cells (xs.toArray++news.toArray++Builtin.zeroCells z.cells (cap - k)) el)).ownsRow 0 el size (.slice (some ⟨w.heap.size,0,none⟩) k cap) k (xs++news):=by
 refine⟨hl,.inr ⟨w.heap.size,cap,_,rfl,eH _,heap_alloc_new w.drew _,hk,vn,?_,?_⟩⟩
 .rw[qe] at hl
  simp only[Array.size_append,List.size_toArray,size_zeroCells,tZ,hl,<-Nat.add_mul]
  congr 1
  omega
 simp only[Array.toList_append,append_assoc]
 rw[<-append_assoc,<-hl]
 exact List.take_left
theorem ea (w:World) (o:Obj) (row:Option Nat):w.grownBy (w.drew.alloc o) row:=
 ⟨rfl,rfl,rfl,by simp,fun k hk _=>heap_alloc_old w.drew o k hk⟩
theorem Dh {w:World} {el size n k g cap:Nat} {us:List Value} (h:w.ownsRow 0 el size (.slice (some ⟨g,0,none⟩) n cap) n us) (hk:k<=n):
 w.ownsRow 0 el size (.slice (some ⟨g,0,none⟩) k cap) k (us.take (k*size)):=by
 obtain⟨h1,h2⟩:=h
 rcases h2 with⟨h2,_⟩ | ⟨g',cap',cur,h2,h3,h4,h5,h6,h7,h8⟩
 .cases h2
 cases h2
 have hm:k*size<=n*size:=qn _ hk
 refine⟨by rw[length_take,h1,Nat.min_eq_left hm],.inr ⟨g,cap,cur,rfl,h3,h4,by omega,h6,h7,?_⟩⟩
 rw[<-h8,List.take_take,Nat.min_eq_left hm]
theorem yR {w:World} {o:Oper} {e:Operand->Value} {b:Builtin} {args:Array Operand} {ts:Array TypeId} (ho:o.op= .call {callee:= .builtin b,args,argTypes:=ts}):
 ∃ consts,(execOp e o).run P w=(builtin b ts o.type consts (args.map e)).run P w:=by
 refine⟨args.map fun | .const _=>true | _=>false,?_⟩
 unfold execOp
 simp only[ho,resolve,invoke,Sem.run_bind,Sem.run_pure,Result.andThen_ok]
 rfl
theorem nR {w:World} {X:Nat->Prop} {size:Nat} {xs ys:List (List FV)} {us news:List Value} (SG:us.length=xs.length*size) (_: ∀ x∈ys,x.length=size)
 (h1: ∀ (i j:Nat) x y,xs[i]?=some x->x[j]?=some y-> ∃ u,us[i*size+j]?=some u/\FRd w X u y) (h2: ∀ (i j:Nat) x y,ys[i]?=some x->x[j]?=some y-> ∃ u,news[i*size+j]?=some u/\FRd w X u y):
 ∀ (i j:Nat) x y,(xs++ys)[i]?=some x->x[j]?=some y-> ∃ u,(us++news)[i*size+j]?=some u/\FRd w X u y:=by
 intro i j x y hx hy
 by_cases hi:i<xs.length
 .rw[qi hi] at hx
  obtain⟨u,hu,hf⟩:=h1 i j x y hx hy
  exact⟨u,by rw[qi (List.getElem?_eq_some_iff.1 hu).1];exact hu,hf⟩
 rw[getElem?_append_right (by omega)] at hx
 obtain⟨u,hu,hf⟩:=h2 (i - xs.length) j x y hx hy
 refine⟨u,?_,hf⟩
 have dR:xs.length*size<=i*size:=qn _ (by omega)
 rw[getElem?_append_right (by omega),SG,<-hu]
 congr 1
 rw[Nat.sub_mul]
 omega
theorem j_ (w:World) (row:Option Nat):w.grownBy w row:=⟨rfl,rfl,rfl,qp _,fun _ _ _=>rfl⟩
def BT (P:Program) (T:Tab) (b:Builtin) (args:Array Operand) (ts:Array TypeId):Prop:=
 ∀ {c:gF} {w:World} {X:Nat->Prop} {ρ:Places} {H D R:List Ob} {o:Oper} {e:Operand->Value} {ρv:Operand->PV} {r:Res},
  o.op= .call {callee:= .builtin b,args:=args,argTypes:=ts}->HRd c w X ρ (H++(D++R))->(∀ id,H.length<=id->id<H.length+D.length->ρ[id]?=some none)->(∀ x∈args,PRd w X ρ (e x) (ρv x))->
  iy T H b ts.toList (args.toList.map ρv)=some r->r.cond->r.heap.length=H.length+D.length->OpOK c w X ρ H.length (H.length+D.length) (r.heap++R) ((execOp e o).run P w) r.val
theorem mM {w:World} (t ty e e':TypeId) (i:TypeInfo) (ht:P.underlying t=some (.slice e)) (hi:P.info? e=some i)
 (g sLen sCap:Nat) (cur:Array Value) (hg:w.heap[g]?=some (.cells cur e' (0,0)))
 (a:Addr) (m c:Nat) (news:List Value) (hl:news.length=m*i.size) (jR: ∀ (j:Nat) u,news[j]?=some u->w.cell? (a.add j)=some u) (h1: ∀ u∈news,u.oneCell'=true)
 (pD:sLen+m<=sCap) (Jz:sLen*i.size+news.length<=cur.size):
 (Builtin.append_ #[t,t] ty #[.slice (some ⟨g,0,none⟩) sLen sCap,.slice (some a) m c]).run P w=
  .ok (.slice (some ⟨g,0,none⟩) (sLen+m) sCap) (w.setRow g (cur.toList.take (sLen*i.size)++news++cur.toList.drop (sLen*i.size+news.length)).toArray):=by
 have hf:=run_firstCells_some (P:=P) w i.size m a m c news hl jR
 have bP:=run_storeCells_at P g (sLen*i.size) e' news 0 cur w hg (by simpa using Jz) h1
 simp only[Nat.add_zero] at bP
 simp[Builtin.append_,run_underlying ht,sizeOf,typeInfo,hi,Builtin.lenOf,pD,hf,Addr.add_lit,bP]
theorem mN {w:World} (t ty e:TypeId) (i:TypeInfo) (ht:P.underlying t=some (.slice e)) (hi:P.info? e=some i) (g n cap:Nat) (qY:n<=cap):
 (Builtin.append_ #[t,t] ty #[.slice (some ⟨g,0,none⟩) n cap,.slice none 0 0]).run P w= .ok (.slice (some ⟨g,0,none⟩) n cap) w:=by
 simp[Builtin.append_,run_underlying ht,sizeOf,typeInfo,hi,Builtin.lenOf,Builtin.firstCells,qY,storeCells]
theorem vJ {H G:List Ob} {id:Nat} (h:id<H.length):(H++G).set id .dead=H.set id .dead++G:=by
 rw[set_append_left _ _ h]
theorem pq {ρ:Places} {id:Nat} {p:Place} (h:ρ[id]?=some (some p)):ρ.set id (some p)=ρ:=by
 apply ext_getElem?;intro j;by_cases hj:id=j
 .subst hj;rw[qv (List.getElem?_eq_some_iff.1 h).1,h]
 rw[getElem?_set_ne hj]
theorem iA (w:World) (g:Nat) (cs:Array Value):w.grownBy (w.setRow g cs) (some g):=
 ⟨rfl,rfl,rfl,by simp,fun k _ hk=>setRow_other w g k _ (fun e=>hk (by simp[e]))⟩
theorem iB {cur:Array Value} {o:Nat} {vs:List Value} (h:o+vs.length<=cur.size) (i:Nat):
 (cur.toList.take o++vs++cur.toList.drop (o+vs.length)).toArray[i]?=if i<o then cur[i]? else if i<o+vs.length then vs[i - o]? else cur[i]?:=by
 have:=jb (l:=cur.toList) (new:=vs) (off:=o) (by simpa using h) i
 simpa [eJ] using this
theorem HRd.reRow {c:gF} {w:World} {X:Nat->Prop} {ρ:Places} {F:List Ob} (h:HRd c w X ρ F) {id:Nat} {p:Place} {xs zs:List (List FV)} {g:Nat} (hp:ρ[id]?=some (some p)) (f6:F[id]?=some (.row true xs))
 (iL:p.b=some g) {cur new:Array Value} (jN:w.heap[g]?=some (.cells cur p.e (0,0))) (d4:new.size=cur.size) (sr:zs.length<=xs.length) (tZ: ∀ z∈zs,z.length=p.size)
 (JA: ∀ (i j:Nat) x y,zs[i]?=some x->x[j]?=some y-> ∃ u,new[i*p.size+j]?=some u/\FRd w X u y):
 ∃ X',HRd c (w.setRow g new) X' ρ (F.set id (.row true zs))/\Stp c w (w.setRow g new) X X' ρ ρ:=by
 have oB:=iA w g new
 have mR:=setRow_heap w g cur new p.e (0,0) jN
 obtain⟨⟨zE,lF,us,gK,Sa⟩,zF⟩:=h.ob id p _ hp f6
 have vo:X g:=(zF g iL).1 rfl
 have om:w.ownsRow 0 p.e p.size (.slice (some ⟨g,0,none⟩) xs.length p.cap) xs.length us:=by simpa [Place.val,iL] using gK
 obtain⟨zo,eG⟩:=om
 rcases eG with⟨h5,_⟩ | ⟨g',cap',VQ,h5,_,G6,qY,qV,vp,t6⟩
 .cases h5
 cases h5
 rw[jN] at G6
 cases G6
 have AI:zs.length*p.size<=xs.length*p.size:=qn _ sr
 have G7:xs.length*p.size<=p.cap*p.size:=qn _ qY
 have zG:(w.setRow g new).ownsRow 0 p.e p.size (.slice (some ⟨g,0,none⟩) zs.length p.cap) zs.length (new.toList.take (zs.length*p.size)):=by
  refine⟨by have e9:new.toList.length=cur.size:=d4;rw[length_take,e9,vp];omega,.inr ⟨g,p.cap,new,rfl,eH _,mR,by omega,qV,by rw[d4,vp],rfl⟩⟩
 have bV:=h.put (id:=id) (p:=p) (ob:= .row true zs) (row:=some g) (w':=w.setRow g new) (List.getElem?_eq_some_iff.1 f6).1 (.inr hp) oB
  (by intro g' jM;cases jM;exact vo)
  (fun j2 q o2 g2 DN hq gB iQ eo=>by
   have cM:g2≠g:=by
    intro he;subst he;exact DN (h.inj j2 id q p o2 _ g2 hq hp gB f6 iQ rfl eo iL)
   exact⟨by simp[cM],by rw[iL];simp;exact fun he=>cM he.symm⟩)
  (fun g2 et=>by rw[iL] at et;cases et;exact .inr vo)
  (fun g2 et=>by rw[iL] at et;cases et;exact⟨(h.own id p _ g hp f6 rfl iL).1,Nat.lt_of_lt_of_le (h.own id p _ g hp f6 rfl iL).2 oB.size⟩)
  (fun g2 et=>by cases et;exact(h.own id p _ g hp f6 rfl iL).1)
  ⟨⟨zE,tZ,new.toList.take (zs.length*p.size),by simpa [Place.val,iL] using zG,by
   intro i2 k y1 y2 Aw vi;have iH:i2<zs.length:=(List.getElem?_eq_some_iff.1 Aw).1;have G8:(i2+1)*p.size<=zs.length*p.size:=qn _ iH;rw[Nat.add_mul] at G8;have hk:k<p.size:=by rw[<-tZ y1 (mem_of_getElem? Aw)];exact(List.getElem?_eq_some_iff.1 vi).1
   obtain⟨u,hu,hf⟩:=JA i2 k y1 y2 Aw vi;refine⟨u,?_,hf.mono ⟨oB.size,fun b hb lr=>oB.block b hb (fun he=>lr (by cases he;exact vo))⟩ (fun b hb lr=>by
    rcases lr with lr | lr
    .exact lr
    rw[iL] at lr;cases lr;exact vo)⟩
   rw[getElem?_take,if_pos (by omega),Array.getElem?_toList,hu]⟩,
   fun g2 et=>⟨fun _=> .inr et,fun _=>rfl⟩⟩
 rw[pq hp] at bV
 exact⟨_,bV.1,bV.2⟩
theorem od {w:World} (t ty e:TypeId) (i:TypeInfo) (ht:P.underlying t=some (.slice e)) (hi:P.info? e=some i) (a:Option Addr) (n:Nat) (b:Option Addr) (c:Nat):
 (Builtin.append_ #[t,t] ty #[.slice a n n,.slice b 0 c]).run P w= .ok (.slice a n n) w:=by
 have hf:(Builtin.firstCells i.size 0 (.slice b 0 c)).run P w= .ok #[] w:=by
  cases b with
  | none=>rfl
  | some b=>exact run_firstCells_some (P:=P) w i.size 0 b 0 c [] (by simp) (by simp)
 cases a with
 | none=>simp[Builtin.append_,run_underlying ht,sizeOf,typeInfo,hi,Builtin.lenOf,hf]
 | some a=>simp[Builtin.append_,run_underlying ht,sizeOf,typeInfo,hi,Builtin.lenOf,hf,storeCells]
theorem Ul {c:gF} {w:World} {X:Nat->Prop} {ρ:Places} {F:List Ob} (h:HRd c w X ρ F) {id:Nat} {p:Place} {r:Bool} {xs:List (List FV)} (hp:ρ[id]?=some (some p)) (f6:F[id]?=some (.row r xs)) (iL:p.b=none):xs=[]:=by
 obtain⟨⟨_,_,us,gK,_⟩,_⟩:=h.ob id p _ hp f6;obtain⟨_,eG⟩:=gK;rcases eG with⟨_,h6⟩ | ⟨g',cap',VQ,h5,_⟩
 .exact List.eq_nil_of_length_eq_zero h6
 simp[Place.val,iL] at h5
theorem Gi {α:Type} {l:List α} {i:Nat} {x:α} (h:l[i]?=some x):l.set i x=l:=by
 apply ext_getElem?;intro j;by_cases hj:i=j
 .subst hj;rw[qv (List.getElem?_eq_some_iff.1 h).1,h]
 rw[getElem?_set_ne hj]
theorem MQ (hT:ck P T) (s x:Operand) (t:TypeId):BT P T .append #[s,x] #[t,t]:=by
 intro c w X ρ H D R o e ρv r ho h hD hρ ak hc aD;have hs:=hρ s (by simp);have hx:=hρ x (by simp);simp only[iy,map_cons,map_nil,if_true] at ak;split at ak;rotate_left
 .cases ak
 rename_i i hi;split at ak;rotate_left
 .cases ak
 rename_i el kO;have hd:=(hT _ _ hi).desc;rw[kO] at hd;simp only[fK] at hd;split at ak;rotate_left
 .cases ak
 rename_i ie l7;split at ak;rotate_left
 .cases ak
 rename_i db;split at ak;rotate_left
 .cases ak
 rename_i cd ys VR;obtain⟨ti,z,eP,ef,wx,hz,tZ,dU,c_,hrd⟩:=nP (hT _ _ l7) (w:=w) (X:=X) (ρ:=ρ);obtain⟨consts,cO⟩:=yR (P:=P) (w:=w) (e:=e) ho;have ei:(execOp e o).run P w=((Builtin.append_ #[t,t] o.type #[e s,e x]).run P w).andThen fun v w'=> .ok (.value v) w':=by
  rw[cO];simp[builtin]
 have t7: ∀ (j:Nat) q o2 g,j≠H.length->ρ[j]?=some (some q)->(H++(D++R))[j]?=some o2->o2.rw=true->q.b=some g->some g≠none:=by
  intros;simp
 split at ak
 .rename_i hv;rw[hv] at hs;cases ak;obtain⟨d,rfl⟩:=nQ (D:=D) (by simp at aD;omega);obtain⟨kM,R7,NA⟩:=hc;obtain⟨Hq,Av⟩:=Dg h bn db hx VR kM;have oD:e s= .slice none 0 0:=by
   generalize e s=u at hs;cases hs;rfl
  rcases Av with⟨qZ,rfl⟩ | ⟨a,cc,news,qZ,gO,jR,kL,hcell⟩
  .have hr:=run_append_owned_none (P:=P) w 0 t o.type el ti ie.size hd eP (.slice none 0 0) 0 [] (World.ownsRow_nil w 0 el ie.size);obtain⟨X',ρ',h1,h2,h3,h4⟩:=d6 (xs:=[]) (us:=[]) (size:=ie.size) (el:=el) (v:= .slice none 0 0) (row:=none) h (hD _ (qp _) (by simp)) (j_ w none) (by simp) t7 (by simp) db (by simp)
    (World.ownsRow_nil w 0 el ie.size) (by simp[Value.ownBlock]) (by simp)
   refine⟨_,_,X',ρ',.inl ?_,h1,h2,h3,fun id d5=>h4 id (by simp at d5;omega)⟩;rw[ei,oD,qZ,hr];rfl
  by_cases hm:ys.length=0
  .have tS:ys=[]:=List.eq_nil_of_length_eq_zero hm;subst tS;obtain⟨v',w',hr,fA,hg,G5⟩:=run_append_own (P:=P) w 0 t o.type el ti z ie.size ie.bytes hd eP hz ef wx tZ db (.slice none 0 0) 0 [] (World.ownsRow_nil w 0 el ie.size) a 0 cc news (by simpa using gO) jR kL (by simp[maxLen]) (by simp) (eH _);have hv':=G5.2 ⟨rfl,rfl⟩;have cZ:news=[]:=List.eq_nil_of_length_eq_zero (by simpa using gO);subst cZ;obtain⟨X',ρ',h1,h2,h3,h4⟩:=d6 (xs:=[]) (us:=[]) (size:=ie.size) (el:=el) (v:=v') (row:=none) h (hD _ (qp _) (by simp)) hg (by simp) t7 (by simp) db (by simp)
    (by simpa using fA) (by rw[hv'];simp[Value.ownBlock]) (by simp)
   refine⟨_,_,X',ρ',.inl ?_,h1,h2,h3,fun id d5=>h4 id (by simp at d5;omega)⟩;rw[ei,oD,qZ];simp only[length_nil];rw[hr];rfl
  have hr:=run_append_nil (P:=P) w t o.type el ti z hd eP hz a ys.length cc news (by rw[ef];exact gO) jR (by omega) (by omega) (by rw[wx];omega);have D1:=grownCap_ge w ys.length 0 el;have qV:=grownCap_le_maxLen w ys.length 0 el (by simp only[maxLen];omega);have fA:=kK (w:=w) (el:=el) tZ (xs:=[]) (news:=news) (by simpa using gO) D1 qV;simp only[Array.empty_append,nil_append] at fA;obtain⟨X',ρ',h1,h2,h3,h4⟩:=d6 (xs:=ys) (size:=ie.size) (el:=el) (v:= .slice (some ⟨w.heap.size,0,none⟩) ys.length (grownCap w ys.length 0 el)) (row:=none) h (hD _ (qp _) (by simp))
   (ea w _ none) (by simp) t7 (by simp) db Hq fA (by
    intro g hg;simp only[Value.ownBlock,qo] at hg;left;omega) hcell
  refine⟨_,_,X',ρ',.inl ?_,h1,h2,h3,fun id d5=>h4 id (by simp at d5;omega)⟩;rw[ei,oD,qZ,hr];rfl
 .rename_i xs hv;rw[hv] at hs;split at ak
  .rename_i su;cases ak;have JB:H.length=H.length+D.length:=aD;have ZV:D=[]:=List.eq_nil_of_length_eq_zero (by omega);subst ZV;have U2: ∃ b k,e x= .slice b 0 k:=by
    unfold K1 at su;split at su
    .rename_i heq;rw[heq] at hx;exact⟨_,_,hx.litInv⟩
    .rename_i heq;rw[heq] at hx;generalize e x=u at hx;cases hx;exact⟨_,_,rfl⟩
    cases su
   obtain⟨b0,k0,qZ⟩:=U2;generalize oD:e s=u at hs;have vq:=hs;cases hs with
   | clip b n _ hf=>
    refine OpOK.still (by simpa using h) (u:= .slice b n n) ?_ vq;rw[ei,oD,qZ,od t o.type el ti hd eP];rfl
  cases ak;obtain⟨d,rfl⟩:=nQ (D:=D) (by simp at aD;omega);obtain⟨kM,zn,SG,R7,NA⟩:=hc;obtain⟨Hq,Av⟩:=Dg h bn db hx VR kM;rcases Av with⟨_,rfl⟩ | ⟨a,cc,news,qZ,gO,jR,kL,hcell⟩
  .simp at zn
  generalize oD:e s=u at hs;cases hs with
  | clip b n _ hf=>
   have hn:xs.length=n:=by
    cases hf with
    | nil=>rfl
    | sl ad n cap s _ us hn vn=>exact hn
   subst hn;obtain⟨_,Sb⟩:=Df db hf SG;rcases Sb with⟨hb,rfl⟩ | ⟨a0,c0,olds,hb,zP,nW,jF,aat⟩
   .have hr:=run_append_nil (P:=P) w t o.type el ti z hd eP hz a ys.length cc news (by rw[ef];exact gO) jR (by omega) (by omega) (by rw[wx];simp at R7;omega);have D1:=grownCap_ge w ys.length 0 el;have qV:=grownCap_le_maxLen w ys.length 0 el (by simp only[maxLen];omega);have fA:=kK (w:=w) (el:=el) tZ (xs:=[]) (news:=news) (by simpa using gO) D1 qV;simp only[Array.empty_append,nil_append] at fA;obtain⟨X',ρ',h1,h2,h3,h4⟩:=d6 (xs:=ys) (size:=ie.size) (el:=el) (v:= .slice (some ⟨w.heap.size,0,none⟩) ys.length (grownCap w ys.length 0 el)) (row:=none) h (hD _ (qp _) (by simp))
     (ea w _ none) (by simp) t7 (by simp) db Hq fA (by
      intro g hg;simp only[Value.ownBlock,qo] at hg;left;omega) hcell
    simp only[length_nil,Nat.zero_add,nil_append] at h2 h3 ⊢;refine⟨_,_,X',ρ',.inl ?_,h1,h2,h3,fun id d5=>h4 id (by simp at d5;omega)⟩;rw[ei,oD,qZ];rw[hb,hr];rfl
   cases hb;have hr:=run_append_grow (P:=P) w t o.type el ti z hd eP hz a0 xs.length xs.length olds (by rw[ef];exact zP) nW a ys.length cc news (by rw[ef];exact gO) jR (by omega) (by omega)
    (growslice_fits (by omega) (by rw[wx];exact R7))
   have D1:=grownCap_ge w (xs.length+ys.length) xs.length el;have qV:=grownCap_le_maxLen w (xs.length+ys.length) xs.length el (by simp only[maxLen];omega);have fA:=kK (w:=w) (el:=el) tZ (xs:=olds) (news:=news) (by rw[qe,zP,gO,Nat.add_mul]) D1 qV;obtain⟨X',ρ',h1,h2,h3,h4⟩:=d6 (xs:=xs++ys) (size:=ie.size) (el:=el) (v:= .slice (some ⟨w.heap.size,0,none⟩) (xs.length+ys.length) (grownCap w (xs.length+ys.length) xs.length el)) (row:=none) h (hD _ (qp _) (by simp))
    (ea w _ none) (by simp) t7 (by simp) db (by
     intro y hy;rw[qr] at hy;rcases hy with hy | hy
     .exact SG y hy
     .exact Hq y hy) (by rw[qe];exact fA) (by
     intro g hg;simp only[Value.ownBlock,qo] at hg;left;omega) (nR zP Hq aat hcell)
   rw[qe] at h3;refine⟨_,_,X',ρ',.inl ?_,h1,h2,h3,fun id d5=>h4 id (by simp at d5;omega)⟩;rw[ei,oD,qZ,hr];rfl
 .rename_i id len sz hv;rw[hv] at hs;split at ak;rotate_left
  .cases ak
  rename_i xs f6;split at ak;rotate_left
  .cases ak
  rename_i d4;subst d4;split at ak
  .rename_i zH;cases ak;have JB:(H.set id (Ob.row true (xs.take len++ys++xs.drop (len+ys.length)))).length=H.length+D.length:=aD;rw[qkb] at JB;have ZV:D=[]:=List.eq_nil_of_length_eq_zero (by omega);subst ZV;obtain⟨kM,pD⟩:=hc;obtain⟨Hq,Av⟩:=Dg h bn db hx VR kM;obtain⟨p,hp,l_,eG⟩:=hs.lslInv;have zI:id<H.length:=(List.getElem?_eq_some_iff.1 f6).1;have eu:(H++([]++R))[id]?=some (.row true xs):=bn id _ f6;have Sc: ∀ ob,(H++([]++R)).set id ob=H.set id ob++R:=fun ob=>by rw[nil_append,set_append_left _ _ zI]
   rcases eG with⟨hg,oD,_,rfl⟩ | ⟨g,og,hg,oD,qP,iP⟩
   .have Vo:=Ul h hp eu hg;subst Vo;have tS:ys=[]:=List.eq_nil_of_length_eq_zero (by rw[length_nil] at pD;omega);subst tS;have d5:H.set id (.row true (List.take 0 ([]:List (List FV))++([]:List (List FV))++List.drop (0+List.length ([]:List (List FV))) ([]:List (List FV))))=H:=Gi f6;show OpOK c w X ρ H.length (H.length+([]:List Ob).length) (H.set id (.row true (List.take 0 ([]:List (List FV))++([]:List (List FV))++List.drop (0+List.length ([]:List (List FV))) ([]:List (List FV))))++R) _ _;rw[d5];refine OpOK.still (by simpa using h) (u:= .slice none 0 0) ?_ (by rw[<-l_];exact .lsl0 id p hp hg);rcases Av with⟨qZ,_⟩ | ⟨a,cc,news,qZ,gO,jR,kL,hcell⟩
    .have hr:=run_append_owned_none (P:=P) w 0 t o.type el ti ie.size hd eP (.slice none 0 0) 0 [] (World.ownsRow_nil w 0 el ie.size);rw[ei,oD,qZ,hr];rfl
    rw[ei,oD,qZ,length_nil,od t o.type el ti hd eP];rfl
   have hog:og=0:=by
    rcases iP with iP | iP
    .rw[iP];simp
    exact absurd rfl iP.2
   subst hog;simp only[Nat.sub_zero] at oD;obtain⟨⟨zE,lF,us,gK,Sa⟩,zF⟩:=h.ob id p _ hp eu;have om:w.ownsRow 0 p.e p.size (.slice (some ⟨g,0,none⟩) xs.length p.cap) xs.length us:=by simpa [Place.val,hg] using gK
   have sr:(xs.take len++ys++xs.drop (len+ys.length)).length=xs.length:=by simp;omega
   have tZ: ∀ z∈xs.take len++ys++xs.drop (len+ys.length),z.length=p.size:=by
    intro z hz;rw[qr,qr] at hz;rcases hz with(hz | hz) | hz
    .exact lF z (Cg hz)
    .rw[Hq z hz,l_]
    exact lF z (mem_of_mem_drop hz)
   obtain⟨zo,eG⟩:=om;rcases eG with⟨h5,_⟩ | ⟨g',cap',cur,h5,_,jN,qY,qV,vp,t6⟩
   .cases h5
   cases h5;rcases Av with⟨qZ,rfl⟩ | ⟨a,cc,news,qZ,gO,jR,kL,hcell⟩
   .have hr:=mN (P:=P) (w:=w) t o.type el ti hd eP g len p.cap (by simp at pD;omega);simp only[length_nil,Nat.add_zero,List.append_nil,List.take_append_drop] at sr tZ ⊢;rw[Gi f6];refine OpOK.still (by simpa using h) (u:= .slice (some ⟨g,0,none⟩) len p.cap) (by rw[ei,oD,qZ,hr];rfl) ?_;have mT:=hs;rw[oD] at mT;exact mT
   have afW:(len+ys.length)*ie.size<=cur.size:=by rw[vp,l_];exact qn _ (by omega)
   have Jz:len*ti.size+news.length<=cur.size:=by rw[ef,gO,<-Nat.add_mul];exact afW
   have hr:=mM (P:=P) (w:=w) t o.type el p.e ti hd eP g len p.cap cur jN a ys.length cc news (by rw[ef];exact gO) jR kL (by omega) Jz;have b_:=fun k=>iB (cur:=cur) (o:=len*ti.size) (vs:=news) Jz k
   generalize mR:(cur.toList.take (len*ti.size)++news++cur.toList.drop (len*ti.size+news.length)).toArray=new at hr b_;have G9:new.size=cur.size:=by
    rw[<-mR];simp only[List.size_toArray,qe,length_take,length_drop,Array.length_toList];omega
   have eI: ∀ (i j:Nat) x y,xs[i]?=some x->x[j]?=some y-> ∃ u,cur[i*p.size+j]?=some u/\FRd w X u y:=by
    intro i j x y zp Aw;obtain⟨u,hu,hf⟩:=Sa i j x y zp Aw;rw[<-t6,getElem?_take] at hu;split at hu
    .exact⟨u,by rw[<-hu,Array.getElem?_toList],hf⟩
    cases hu
   have ZB: ∀ (i j:Nat) z y,(xs.take len++ys++xs.drop (len+ys.length))[i]?=some z->z[j]?=some y->j<p.size:=by
    intro i j z y hz hy;rw[<-tZ z (mem_of_getElem? hz)];exact(List.getElem?_eq_some_iff.1 hy).1
   obtain⟨X',h1,h2⟩:=h.reRow hp eu hg jN G9 (zs:=xs.take len++ys++xs.drop (len+ys.length)) (by omega) tZ (by
    intro i j z y hz hy;have hj:=ZB i j z y hz hy;have Cc:(xs.take len).length=len:=by rw[length_take];omega
    rw[ef,<-l_] at b_;rw[gO,<-l_] at b_;by_cases h7:i<len
    .rw[append_assoc,qi (by omega),getElem?_take,if_pos h7] at hz;obtain⟨u,hu,hf⟩:=eI i j z y hz hy;have h8:(i+1)*p.size<=len*p.size:=qn _ h7;rw[Nat.add_mul] at h8;exact⟨u,by rw[b_,if_pos (by omega)];exact hu,hf⟩
    have h8:len*p.size<=i*p.size:=qn _ (by omega);by_cases h9:i<len+ys.length
    .rw[qi (by rw[qe];omega),getElem?_append_right (by omega),Cc] at hz;obtain⟨u,hu,hf⟩:=hcell (i - len) j z y hz hy;have Ay:(i - len+1)*p.size<=ys.length*p.size:=qn _ (by omega);rw[Nat.add_mul,Nat.sub_mul] at Ay;refine⟨u,?_,hf⟩;rw[b_,if_neg (by omega),if_pos (by omega)];rw[<-l_,Nat.sub_mul] at hu;rw[<-hu];congr 1;omega
    rw[getElem?_append_right (by rw[qe];omega),qe,Cc,List.getElem?_drop,show len+ys.length+(i - (len+ys.length))=i by omega] at hz;obtain⟨u,hu,hf⟩:=eI i j z y hz hy;have Ay:(len+ys.length)*p.size<=i*p.size:=qn _ (by omega);rw[Nat.add_mul] at Ay;exact⟨u,by rw[b_,if_neg (by omega),if_neg (by omega)];exact hu,hf⟩)
   rw[Sc] at h1;refine⟨.slice (some ⟨g,0,none⟩) (len+ys.length) p.cap,w.setRow g new,X',ρ,.inl ?_,h2,h1,?_,fun _ _=>rfl⟩
   .rw[ei,oD,qZ,hr];rfl
   have:=PRd.lsl (w:=w.setRow g new) (X:=X') (ρ:=ρ) id 0 (len+ys.length) 0 g p hp hg (by omega) (.inl (by simp));rw[<-l_];simpa using this
  cases ak;obtain⟨d,rfl⟩:=nQ (D:=D) (by simp at aD;omega);obtain⟨kM,Oi,R7,NA⟩:=hc;obtain⟨Hq,Av⟩:=Dg h bn db hx VR kM;obtain⟨p,hp,l_,eG⟩:=hs.lslInv;have zI:id<H.length:=(List.getElem?_eq_some_iff.1 f6).1;have eu:=bn (G:=[d]++R) id _ f6;obtain⟨⟨_,lF,us,gK,Sa⟩,zF⟩:=h.ob id p _ hp eu;have zJ:=h.kill id;rw[vJ zI] at zJ;have LA:(H.set id .dead).length=H.length:=by simp
  have hρ':ρ[(H.set id Ob.dead).length]?=some none:=by rw[LA];exact hD _ (qp _) (by simp)
  have Cc: ∀ y∈xs.take len++ys,y.length=ie.size:=by
   intro y hy;rw[qr] at hy;rcases hy with hy | hy
   .rw[lF y (Cg hy),l_]
   exact Hq y hy
  have zK:(xs.take len++ys).length=len+ys.length:=by simp;omega
  rcases eG with⟨hg,oD,_,rfl⟩ | ⟨g,og,hg,oD,qP,iP⟩
  .rw[List.take_zero,nil_append] at Cc;simp only[List.take_zero,nil_append,Nat.zero_add] at R7 NA ⊢;rcases Av with⟨qZ,rfl⟩ | ⟨a,cc,news,qZ,gO,jR,kL,hcell⟩
   .have hr:=run_append_owned_none (P:=P) w 0 t o.type el ti ie.size hd eP (.slice none 0 0) 0 [] (World.ownsRow_nil w 0 el ie.size);obtain⟨X',ρ',h1,h2,h3,h4⟩:=d6 (xs:=[]) (us:=[]) (size:=ie.size) (el:=el) (v:= .slice none 0 0) (row:=none) zJ hρ' (j_ w none) (by simp) (by intros;simp) (by simp) db (by simp)
     (World.ownsRow_nil w 0 el ie.size) (by simp[Value.ownBlock]) (by simp)
    rw[LA] at h3 h4;refine⟨_,_,X',ρ',.inl ?_,h1,h2,h3,fun id d5=>h4 id (by simp at d5;omega)⟩;rw[ei,oD,qZ,hr];rfl
   by_cases hm:ys.length=0
   .have tS:ys=[]:=List.eq_nil_of_length_eq_zero hm;subst tS;obtain⟨v',w',hr,fA,hg,G5⟩:=run_append_own (P:=P) w 0 t o.type el ti z ie.size ie.bytes hd eP hz ef wx tZ db (.slice none 0 0) 0 [] (World.ownsRow_nil w 0 el ie.size) a 0 cc news (by simpa using gO) jR kL (by simp[maxLen]) (by simp) (eH _);have hv':=G5.2 ⟨rfl,rfl⟩;have cZ:news=[]:=List.eq_nil_of_length_eq_zero (by simpa using gO);subst cZ;obtain⟨X',ρ',h1,h2,h3,h4⟩:=d6 (xs:=[]) (us:=[]) (size:=ie.size) (el:=el) (v:=v') (row:=none) zJ hρ' hg (by simp) (by intros;simp) (by simp) db (by simp)
     (by simpa using fA) (by rw[hv'];simp[Value.ownBlock]) (by simp)
    rw[LA] at h3 h4;refine⟨_,_,X',ρ',.inl ?_,h1,h2,h3,fun id d5=>h4 id (by simp at d5;omega)⟩;rw[ei,oD,qZ];simp only[length_nil];rw[hr];rfl
   have hr:=run_append_nil (P:=P) w t o.type el ti z hd eP hz a ys.length cc news (by rw[ef];exact gO) jR (by omega) (by omega) (by rw[wx];omega);have D1:=grownCap_ge w ys.length 0 el;have qV:=grownCap_le_maxLen w ys.length 0 el (by simp only[maxLen];omega);have fA:=kK (w:=w) (el:=el) tZ (xs:=[]) (news:=news) (by simpa using gO) D1 qV;simp only[Array.empty_append,nil_append] at fA;obtain⟨X',ρ',h1,h2,h3,h4⟩:=d6 (xs:=ys) (size:=ie.size) (el:=el) (v:= .slice (some ⟨w.heap.size,0,none⟩) ys.length (grownCap w ys.length 0 el)) (row:=none) zJ hρ'
    (ea w _ none) (by simp) (by intros;simp) (by simp) db Hq fA (by
     intro g hg;simp only[Value.ownBlock,qo] at hg;left;omega) hcell
   rw[LA] at h3 h4;refine⟨_,_,X',ρ',.inl ?_,h1,h2,h3,fun id d5=>h4 id (by simp at d5;omega)⟩;rw[ei,oD,qZ,hr];rfl
  have hog:og=0:=by
   rcases iP with iP | iP
   .rw[iP];simp
   exact absurd rfl iP.2
  subst hog;simp only[Nat.sub_zero] at oD;have om:w.ownsRow 0 p.e p.size (.slice (some ⟨g,0,none⟩) xs.length p.cap) xs.length us:=by simpa [Place.val,hg] using gK
  have zL:=Dh om Oi;rw[l_] at zL om;have JC: ∀ (i j:Nat) x y,(xs.take len)[i]?=some x->x[j]?=some y-> ∃ u,(us.take (len*ie.size))[i*ie.size+j]?=some u/\FRd w X u y:=by
   intro i j x y hx hy;rw[getElem?_take] at hx;split at hx
   .rename_i dU;obtain⟨u,hu,hf⟩:=Sa i j x y hx hy;rw[l_] at hu;have hj:j<ie.size:=by rw[<-l_,<-lF x (mem_of_getElem? hx)];exact(List.getElem?_eq_some_iff.1 hy).1
    have h1:(i+1)*ie.size<=len*ie.size:=qn _ dU;rw[Nat.add_mul] at h1;exact⟨u,by rw[getElem?_take,if_pos (by omega)];exact hu,hf⟩
   cases hx
  have zo:(us.take (len*ie.size)).length=(xs.take len).length*ie.size:=by
   rw[zL.1,length_take,Nat.min_eq_left Oi]
  have vo:X g:=(zF g hg).1 rfl;have LB: ∀ (j:Nat) q o2 g2,j≠(H.set id Ob.dead).length->ρ[j]?=some (some q)->(H.set id .dead++([d]++R))[j]?=some o2->o2.rw=true->q.b=some g2->some g2≠some g:=by
   intro j q o2 g2 _ hq gB iQ eo he;cases he;by_cases hj:id=j
   .subst hj;rw[qi (by simpa using zI),qv zI] at gB;cases gB;cases iQ
   have Lw:(H++([d]++R))[j]?=some o2:=by
    rw[<-vJ zI,getElem?_set_ne hj] at gB;exact gB
   exact hj (h.inj id j p q _ o2 g hp hq eu Lw rfl iQ hg eo)
  rcases Av with⟨qZ,rfl⟩ | ⟨a,cc,news,qZ,gO,jR,kL,hcell⟩
  .have hr:=mN (P:=P) (w:=w) t o.type el ti hd eP g len p.cap (by omega);simp only[List.append_nil,length_nil,Nat.add_zero] at Cc zK ⊢;obtain⟨X',ρ',h1,h2,h3,h4⟩:=d6 (xs:=xs.take len) (size:=ie.size) (el:=p.e) (v:= .slice (some ⟨g,0,none⟩) len p.cap) (row:=some g) zJ hρ' (j_ w (some g)) (by intro g' jM;cases jM;exact vo)
    LB (by intro g' jM;cases jM;exact(h.own id p _ g hp eu rfl hg).1) db Cc (by rw[zK];exact zL) (by intro g' jM;simp only[Value.ownBlock,qo] at jM;right;rw[jM]) JC
   rw[LA] at h3 h4;rw[zK] at h3;refine⟨_,_,X',ρ',.inl ?_,h1,h2,h3,fun id d5=>h4 id (by simp at d5;omega)⟩;rw[ei,oD,qZ,hr];rfl
  by_cases pD:len+ys.length<=p.cap
  .obtain⟨zw,eG⟩:=zL;rcases eG with⟨h5,_⟩ | ⟨g',cap',cur,h5,_,jN,qY,qV,eI,t6⟩
   .cases h5
   cases h5;have Jz:len*ti.size+news.length<=cur.size:=by rw[ef,gO,eI,<-Nat.add_mul];exact qn _ pD
   have hr:=mM (P:=P) (w:=w) t o.type el p.e ti hd eP g len p.cap cur jN a ys.length cc news (by rw[ef];exact gO) jR kL pD Jz;have zG:(w.setRow g (cur.toList.take (len*ti.size)++news++cur.toList.drop (len*ti.size+news.length)).toArray).ownsRow 0 p.e ie.size (.slice (some ⟨g,0,none⟩) (len+ys.length) p.cap) (len+ys.length) (us.take (len*ie.size)++news):=by
    have rr:(us.take (len*ie.size)++news).length=(len+ys.length)*ie.size:=by rw[qe,zw,gO,Nat.add_mul]
    refine⟨rr,.inr ⟨g,p.cap,_,rfl,eH _,setRow_heap w g cur _ p.e _ jN,pD,qV,?_,?_⟩⟩
    .rw[ef] at Jz ⊢;simp only[List.size_toArray,qe,length_take,length_drop,Array.length_toList];omega
    rw[ef,t6,<-rr];exact List.take_left
   have oB:w.grownBy (w.setRow g (cur.toList.take (len*ti.size)++news++cur.toList.drop (len*ti.size+news.length)).toArray) (some g):=
    ⟨rfl,rfl,rfl,by simp,fun k _ hk=>setRow_other w g k _ (fun e=>hk (by simp[e]))⟩
   obtain⟨X',ρ',h1,h2,h3,h4⟩:=d6 (xs:=xs.take len++ys) (size:=ie.size) (el:=p.e) (v:= .slice (some ⟨g,0,none⟩) (len+ys.length) p.cap) (row:=some g) zJ hρ'
    oB (by intro g' jM;cases jM;exact vo)
    LB (by intro g' jM;cases jM;exact(h.own id p _ g hp eu rfl hg).1) db Cc (by rw[zK];exact zG) (by intro g' jM;simp only[Value.ownBlock,qo] at jM;right;rw[jM]) (nR zo Hq JC hcell)
   rw[LA] at h3 h4;rw[zK] at h3;refine⟨_,_,X',ρ',.inl ?_,h1,h2,h3,fun id d5=>h4 id (by simp at d5;omega)⟩;rw[ei,oD,qZ,hr];rfl
  have JA: ∀ (j:Nat) v,(us.take (len*ie.size))[j]?=some v->w.cell? ((⟨g,0,none⟩:Addr).add j)=some v:=zL.cells (g:=g) rfl;have hr:=run_append_grow (P:=P) w t o.type el ti z hd eP hz ⟨g,0,none⟩ len p.cap (us.take (len*ie.size)) (by rw[ef];exact zL.1) JA a ys.length cc news (by rw[ef];exact gO) jR (by omega) (by omega)
   (growslice_fits (by omega) (by rw[wx];exact R7))
  have D1:=grownCap_ge w (len+ys.length) p.cap el;have qV:=grownCap_le_maxLen w (len+ys.length) p.cap el (by simp only[maxLen];omega);have fA:=kK (w:=w) (el:=el) tZ (xs:=us.take (len*ie.size)) (news:=news) (by rw[qe,zL.1,gO,Nat.add_mul]) D1 qV;obtain⟨X',ρ',h1,h2,h3,h4⟩:=d6 (xs:=xs.take len++ys) (size:=ie.size) (el:=el) (v:= .slice (some ⟨w.heap.size,0,none⟩) (len+ys.length) (grownCap w (len+ys.length) p.cap el)) (row:=none) zJ hρ'
   (ea w _ none) (by simp) (by intros;simp) (by simp) db Cc (by rw[zK];exact fA) (by
    intro g hg;simp only[Value.ownBlock,qo] at hg;left;omega) (nR zo Hq JC hcell)
  rw[LA] at h3 h4;rw[zK] at h3;refine⟨_,_,X',ρ',.inl ?_,h1,h2,h3,fun id d5=>h4 id (by simp at d5;omega)⟩;rw[ei,oD,qZ,hr];rfl
 cases ak
end
end Go.AM
namespace Go.AM
section
variable {P:Program} {T:Tab}
theorem YQ (hT:ck P T) (s:Operand) (t:TypeId):BT P T .len #[s] #[t]:=by
 intro c w X ρ H D R o e ρv r ho h hD hρ ak hc aD;have hs:=hρ s (by simp);simp only[iy,map_cons,map_nil] at ak;split at ak;rotate_left
 .cases ak
 rename_i i hi;have hd:=(hT _ _ hi).desc;obtain⟨consts,cO⟩:=yR (P:=P) (w:=w) (e:=e) ho;have ei:(execOp e o).run P w=((Builtin.len_ #[t] o.type #[e s]).run P w).andThen fun v w'=> .ok (.value v) w':=by
  rw[cO];simp[builtin]
 split at ak
 .rename_i el kO;rw[kO] at hd;simp only[fK] at hd;split at ak;rotate_left
  .cases ak
  rename_i n hn;cases ak;have gg:D=[]:=List.eq_nil_of_length_eq_zero (by simp at aD;simpa using aD);subst gg;have ss: ∃ b cap,e s= .slice b n cap:=by
   generalize e s=u at hs;generalize ρv s=v at hs hn;cases hs with
   | fv _ _ hf=>cases hf with
    | nil=>simp[lenOf] at hn;subst hn;exact⟨_,_,rfl⟩
    | sl ad m cap s xs us hxs=>simp only[lenOf,qo] at hn;subst hn;rw[hxs];exact⟨_,_,rfl⟩
    | lit v _=>simp[lenOf] at hn
    | fp=>simp[lenOf] at hn
    | fn=>simp[lenOf] at hn
   | nilsl=>simp[lenOf] at hn;subst hn;exact⟨_,_,rfl⟩
   | clip a m xs hf=>cases hf with
    | nil=>simp[lenOf] at hn;subst hn;exact⟨_,_,rfl⟩
    | sl ad m cap s xs us hxs=>simp only[lenOf,qo] at hn;subst hn;rw[hxs];exact⟨_,_,rfl⟩
   | lsl0=>simp[lenOf] at hn;subst hn;exact⟨_,_,rfl⟩
   | lsl=>simp[lenOf] at hn;subst hn;exact⟨_,_,rfl⟩
   | any=>simp[lenOf] at hn
   | ptr=>simp[lenOf] at hn
   | agg=>simp[lenOf] at hn
   | tup=>simp[lenOf] at hn
   | tab=>simp[lenOf] at hn
  obtain⟨b,cap,oD⟩:=ss;exact OpOK.still h (u:= .int .i64 n) (by rw[ei,oD];simp[Builtin.len_,run_underlying hd,goInt]) (.fv _ _ (.lit _ rfl))
 .rename_i n el kO;rw[kO] at hd;simp only[fK] at hd;cases ak;have gg:D=[]:=List.eq_nil_of_length_eq_zero (by simp at aD;simpa using aD);subst gg;exact OpOK.still h (u:= .int .i64 n) (by rw[ei];simp[Builtin.len_,run_underlying hd,goInt]) (.fv _ _ (.lit _ rfl))
 .rename_i kO;rw[kO] at hd;simp only[fK] at hd;split at ak;rotate_left
  .cases ak
  rename_i str hv;cases ak;have gg:D=[]:=List.eq_nil_of_length_eq_zero (by simp at aD;simpa using aD);subst gg;rw[hv] at hs;have oD:=hs.litInv;exact OpOK.still h (u:= .int .i64 str.size) (by rw[ei,oD];simp[Builtin.len_,run_underlying hd,goInt]) (.fv _ _ (.lit _ rfl))
 cases ak
theorem yS {w:World} {X:Nat->Prop} {ρ:Places} {u v:Value} {x y:PV} {k:IntKind} {a b:Int} (h:nK x y=some (k,a,b)) (hu:PRd w X ρ u x) (hv:PRd w X ρ v y):u= .int k a/\v= .int k b:=by
 unfold nK at h;split at h
 .split at h
  .rename_i hk;subst hk;cases h;exact⟨hu.litInv,hv.litInv⟩
  cases h
 cases h
theorem YR (x y:Operand) (t t':TypeId):BT P T .max #[x,y] #[t,t']:=by
 intro c w X ρ H D R o e ρv r ho h hD hρ ak hc aD;have hx:=hρ x (by simp);have hy:=hρ y (by simp);obtain⟨consts,cO⟩:=yR (P:=P) (w:=w) (e:=e) ho;simp only[iy,map_cons,map_nil] at ak;split at ak;rotate_left
 .cases ak
 rename_i k a b hb;cases ak;have gg:D=[]:=List.eq_nil_of_length_eq_zero (by simp at aD;simpa using aD);subst gg;obtain⟨e1,e2⟩:=yS hb hx hy;exact OpOK.still h (u:= .int k (if b>a then b else a)) (by rw[cO];simp[builtin,Builtin.max_,Builtin.max2,e1,e2]) (.fv _ _ (.lit _ rfl))
theorem YS (x y:Operand) (t t':TypeId):BT P T .min #[x,y] #[t,t']:=by
 intro c w X ρ H D R o e ρv r ho h hD hρ ak hc aD;have hx:=hρ x (by simp);have hy:=hρ y (by simp);obtain⟨consts,cO⟩:=yR (P:=P) (w:=w) (e:=e) ho;simp only[iy,map_cons,map_nil] at ak;split at ak;rotate_left
 .cases ak
 rename_i k a b hb;cases ak;have gg:D=[]:=List.eq_nil_of_length_eq_zero (by simp at aD;simpa using aD);subst gg;obtain⟨e1,e2⟩:=yS hb hx hy;exact OpOK.still h (u:= .int k (if b<a then b else a)) (by rw[cO];simp[builtin,Builtin.min_,Builtin.min2,e1,e2]) (.fv _ _ (.lit _ rfl))
theorem HRd.shrink {c:gF} {w w':World} {X:Nat->Prop} {ρ:Places} {F:List Ob} (h:HRd c w X ρ F) {id:Nat} {p:Place} {xs:List (List FV)} {n g:Nat} (hp:ρ[id]?=some (some p)) (f6:F[id]?=some (.row true xs)) (hn:n<=xs.length)
 (iL:p.b=some g) (oB:w.grownBy w' (some g)) {cur new:Array Value} (jN:w.heap[g]?=some (.cells cur p.e (0,0))) (mR:w'.heap[g]?=some (.cells new p.e (0,0))) (d4:new.size=cur.size) (eF: ∀ (k:Nat),k<n*p.size->new[k]?=cur[k]?):
 ∃ X',HRd c w' X' ρ (F.set id (.row true (xs.take n)))/\Stp c w w' X X' ρ ρ:=by
 obtain⟨⟨zE,lF,us,gK,Sa⟩,zF⟩:=h.ob id p _ hp f6
 have vo:X g:=(zF g iL).1 rfl
 have om:w.ownsRow 0 p.e p.size (.slice (some ⟨g,0,none⟩) xs.length p.cap) xs.length us:=by simpa [Place.val,iL] using gK
 obtain⟨zo,eG⟩:=om
 rcases eG with⟨h5,_⟩ | ⟨g',cap',VQ,h5,_,G6,qY,qV,vp,t6⟩
 .cases h5
 cases h5
 rw[jN] at G6
 cases G6
 have AI:n*p.size<=xs.length*p.size:=qn _ hn
 have G7:xs.length*p.size<=p.cap*p.size:=qn _ qY
 have zG:w'.ownsRow 0 p.e p.size (.slice (some ⟨g,0,none⟩) n p.cap) n (new.toList.take (n*p.size)):=by
  refine⟨by have e9:new.toList.length=cur.size:=d4;rw[length_take,e9,vp];omega,.inr ⟨g,p.cap,new,rfl,eH _,mR,by omega,qV,by rw[d4,vp],rfl⟩⟩
 have qP:(xs.take n).length=n:=by rw[length_take];omega
 have bV:=h.put (id:=id) (p:=p) (ob:= .row true (xs.take n)) (row:=some g) (w':=w') (List.getElem?_eq_some_iff.1 f6).1 (.inr hp) oB
  (by intro g' jM;cases jM;exact vo)
  (fun j2 q o2 g2 DN hq gB iQ eo=>by
   have cM:g2≠g:=by
    intro he;subst he;exact DN (h.inj j2 id q p o2 _ g2 hq hp gB f6 iQ rfl eo iL)
   exact⟨by simp[cM],by rw[iL];simp;exact fun he=>cM he.symm⟩)
  (fun g2 et=>by rw[iL] at et;cases et;exact .inr vo)
  (fun g2 et=>by rw[iL] at et;cases et;exact⟨(h.own id p _ g hp f6 rfl iL).1,Nat.lt_of_lt_of_le (h.own id p _ g hp f6 rfl iL).2 oB.size⟩)
  (fun g2 et=>by cases et;exact(h.own id p _ g hp f6 rfl iL).1)
  ⟨⟨zE,fun x hx=>lF x (Cg hx),new.toList.take (n*p.size),by rw[qP];simpa [Place.val,iL] using zG,by
   intro i2 k y1 y2 Aw vi;have iH:i2<n:=by have:=(List.getElem?_eq_some_iff.1 Aw).1;rw[qP] at this;exact this
   rw[getElem?_take,if_pos iH] at Aw;have G8:(i2+1)*p.size<=n*p.size:=qn _ iH;rw[Nat.add_mul] at G8;have hk:k<p.size:=by rw[<-lF y1 (mem_of_getElem? Aw)];exact(List.getElem?_eq_some_iff.1 vi).1
   obtain⟨u,hu,hf⟩:=Sa i2 k y1 y2 Aw vi;refine⟨u,?_,hf.mono ⟨oB.size,fun b hb lr=>oB.block b hb (fun he=>lr (by cases he;exact vo))⟩ (fun b hb lr=>by
    rcases lr with lr | lr
    .exact lr
    rw[iL] at lr;cases lr;exact vo)⟩
   rw[<-t6,getElem?_take,if_pos (by omega),Array.getElem?_toList] at hu;rw[getElem?_take,if_pos (by omega),Array.getElem?_toList,eF _ (by omega),hu]⟩,
   fun g2 et=>⟨fun _=> .inr et,fun _=>rfl⟩⟩
 rw[pq hp] at bV
 exact⟨_,bV.1,bV.2⟩
theorem QV (hT:ck P T) (x:Operand) (t:TypeId):BT P T .clear #[x] #[t]:=by
 intro c w X ρ H D R o e ρv r ho h hD hρ ak hc aD;have hx:=hρ x (by simp);simp only[iy,map_cons,map_nil] at ak;split at ak;rotate_left
 .cases ak
 rename_i i hi;split at ak;rotate_left
 .cases ak
 rename_i el kO;have hd:=(hT _ _ hi).desc;rw[kO] at hd;simp only[fK] at hd;split at ak;rotate_left
 .cases ak
 rename_i ie l7;split at ak;rotate_left
 .cases ak
 rename_i id off len s hv;split at ak;rotate_left
 .cases ak
 rename_i xs f6;split at ak;rotate_left
 .cases ak
 rename_i hs;cases ak;obtain⟨ti,z,eP,ef,wx,hz,tZ,dU,c_,hrd⟩:=nP (hT _ _ l7) (w:=w) (X:=X) (ρ:=ρ);obtain⟨consts,cO⟩:=yR (P:=P) (w:=w) (e:=e) ho;have ei:(execOp e o).run P w=((Builtin.clear_ #[t] o.type #[e x]).run P w).andThen fun v w'=> .ok (.value v) w':=by
  rw[cO];simp[builtin]
 have JB:(H.set id (Ob.row true (xs.take off))).length=H.length+D.length:=aD;rw[qkb] at JB;have gg:D=[]:=List.eq_nil_of_length_eq_zero (by omega);subst gg;have zI:=(List.getElem?_eq_some_iff.1 f6).1;have eu:(H++([]++R))[id]?=some (.row true xs):=bn id _ f6;have Sc:(H++([]++R)).set id (.row true (xs.take off))=H.set id (.row true (xs.take off))++R:=by
  rw[nil_append,set_append_left _ _ zI]
 rw[hv] at hx;generalize lD:e x=u at hx;cases hx with
 | lsl0 _ p hp iL=>
  have h0:H.set id (Ob.row true (xs.take 0))=H:=by
   obtain⟨⟨_,_,us,gK,_⟩,_⟩:=h.ob id p _ hp eu;have Vo:xs=[]:=by
    obtain⟨_,eG⟩:=gK;rcases eG with⟨_,h6⟩ | ⟨g',cap',VQ,h5,_⟩
    .exact List.eq_nil_of_length_eq_zero h6
    simp[Place.val,iL] at h5
   subst Vo;apply ext_getElem?;intro j;by_cases hj:id=j
   .subst hj;rw[qv zI,f6];rfl
   rw[getElem?_set_ne hj]
  show OpOK c w X ρ H.length (H.length+([]:List Ob).length) (H.set id (Ob.row true (xs.take 0))++R) _ _;rw[h0];exact OpOK.still (by simpa using h) (u:= .tuple #[]) (by rw[ei,lD];simp[Builtin.clear_,run_underlying hd]) (.tup #[] [] rfl (by simp))
 | lsl _ _ _ oo g p hp iL hl iP=>
  have fG:off+len<=xs.length:=hc;obtain⟨⟨zE,lF,us,gK,Sa⟩,zF⟩:=h.ob id p _ hp eu;have om:w.ownsRow 0 p.e p.size (.slice (some ⟨g,0,none⟩) xs.length p.cap) xs.length us:=by simpa [Place.val,iL] using gK
  obtain⟨zo,eG⟩:=om;rcases eG with⟨h5,_⟩ | ⟨g',cap',cur,h5,_,jN,qY,qV,vp,t6⟩
  .cases h5
  cases h5;by_cases afX:len=0
  .subst afX;obtain⟨X',h1,h2⟩:=h.shrink hp eu (n:=off) (by omega) iL (w':=w) (j_ w (some g)) jN jN rfl (fun _ _=>rfl);rw[Sc] at h1;refine⟨.tuple #[],w,X',ρ,.inl (by rw[ei,lD];simp[Builtin.clear_,run_underlying hd]),h2,h1,.tup #[] [] rfl (by simp),fun _ _=>rfl⟩
  have aky:oo=off*p.size:=by rcases iP with h6 | ⟨h6,_⟩<;>omega
  subst aky;have hzc:(Builtin.zeroCells z.cells len).size=len*p.size:=by rw[size_zeroCells,tZ,<-hs]
  have G7:(off+len)*p.size<=p.cap*p.size:=qn _ hl;rw[Nat.add_mul] at G7;have tY: ∀ v∈(Builtin.zeroCells z.cells len).toList,v.oneCell'=true:=by
   intro v ZK;rw[Array.mem_toList_iff] at ZK;unfold Builtin.zeroCells at ZK;rw[Array.mem_map] at ZK;obtain⟨k,hk,rfl⟩:=ZK;have hzp:0<z.cells.size:=by
    rcases Nat.eq_zero_or_pos z.cells.size with h0 | h0
    .rw[h0] at hk;omega
    exact h0
   have aH:k % z.cells.size<z.cells.size:=Nat.mod_lt _ hzp;refine c_ (k % z.cells.size) _ ?_;simp[aH]
  have bP:=run_storeCells_at P g (off*p.size) p.e (Builtin.zeroCells z.cells len).toList 0 cur w jN (by simp only[Array.length_toList,hzc];omega) tY;simp only[Nat.add_zero,Array.length_toList] at bP;have b_:=fun k=>iB (cur:=cur) (o:=off*p.size) (vs:=(Builtin.zeroCells z.cells len).toList) (by simp only[Array.length_toList,hzc];omega) k
  simp only[Array.length_toList] at b_;have oB:=iA w g (cur.toList.take (off*p.size)++(Builtin.zeroCells z.cells len).toList++cur.toList.drop (off*p.size+(Builtin.zeroCells z.cells len).size)).toArray;have rB:=setRow_heap w g cur (cur.toList.take (off*p.size)++(Builtin.zeroCells z.cells len).toList++cur.toList.drop (off*p.size+(Builtin.zeroCells z.cells len).size)).toArray p.e (0,0) jN;have XH:(execOp e o).run P w= .ok (.value (.tuple #[])) (w.setRow g (cur.toList.take (off*p.size)++(Builtin.zeroCells z.cells len).toList++cur.toList.drop (off*p.size+(Builtin.zeroCells z.cells len).size)).toArray):=by
   rw[ei,lD];obtain⟨n,rfl⟩: ∃ n,len=n+1:=⟨len - 1,by omega⟩;simp[Builtin.clear_,run_underlying hd,zeroValue,typeInfo,eP,hz,bP]
  generalize mR:(cur.toList.take (off*p.size)++(Builtin.zeroCells z.cells len).toList++cur.toList.drop (off*p.size+(Builtin.zeroCells z.cells len).size)).toArray=new at XH oB b_ rB;have G9:new.size=cur.size:=by
   rw[<-mR];simp only[List.size_toArray,qe,length_take,length_drop,Array.length_toList,hzc];omega
  obtain⟨X',h1,h2⟩:=h.shrink hp eu (n:=off) (by omega) iL (w':=w.setRow g new) oB jN rB G9 (fun k hk=>by rw[b_,if_pos hk]);rw[Sc] at h1;exact⟨.tuple #[],_,X',ρ,.inl XH,h2,h1,.tup #[] [] rfl (by simp),fun _ _=>rfl⟩
theorem QW (hT:ck P T) (b:Builtin) (args:Array Operand) (ts:Array TypeId):BT P T b args ts:=by
 intro c w X ρ H D R o e ρv r ho h hD hρ ak hc aD;have jS:=ak;unfold iy at jS;split at jS
 .rename_i t v ef fr;obtain⟨args⟩:=args;obtain⟨ts⟩:=ts;simp only at ef;subst ef;simp only at fr
  match args,fr with
  | [s],_=>exact YQ hT s t ho h hD hρ ak hc aD
 .rename_i t t' s x ef fr;obtain⟨args⟩:=args;obtain⟨ts⟩:=ts;simp only at ef;subst ef;simp only at fr;split at jS
  .rename_i AF;subst AF
   match args,fr with
   | [s,x],_=>exact MQ hT s x t ho h hD hρ ak hc aD
  cases jS
 .rename_i t t' x y ef fr;obtain⟨args⟩:=args;obtain⟨ts⟩:=ts;simp only at ef;subst ef;simp only at fr
  match args,fr with
  | [x,y],_=>exact YR x y t t' ho h hD hρ ak hc aD
 .rename_i t t' x y ef fr;obtain⟨args⟩:=args;obtain⟨ts⟩:=ts;simp only at ef;subst ef;simp only at fr
  match args,fr with
  | [x,y],_=>exact YS x y t t' ho h hD hρ ak hc aD
 .rename_i t x ef fr;obtain⟨args⟩:=args;obtain⟨ts⟩:=ts;simp only at ef;subst ef;simp only at fr
  match args,fr with
  | [x],_=>exact QV hT x t ho h hD hρ ak hc aD
 cases jS
theorem Gj {l:List PV} {s:Nat} (hl:l.length=s) (hs:0<s): ∀ (n k:Nat),k<n*s->(List.replicate n l).flatten[k]?=l[k % s]?
 | 0,k,h=>by simp at h
 | n+1,k,h=>by
  rw[List.replicate_succ,List.flatten_cons];by_cases hk:k<s
  .rw[qi (by omega),Nat.mod_eq_of_lt hk]
  have e1:(n+1)*s=n*s+s:=Nat.succ_mul n s;have e2:k % s=(k - s) % s:=Nat.mod_eq_sub_mod (by omega);rw[getElem?_append_right (by omega),hl,Gj hl hs n (k - s) (by omega),e2]
theorem yT (hT:ck P T) (t:TypeId) (len:Nat) (parts:Array (Nat×Operand)):EffOp P T (.buildSlice t len parts):=by
 intro c w X ρ H D R o e ρv r ho h hD hρ ak hc aD;simp only[cx] at ak;split at ak;rotate_left
 .cases ak
 rename_i i hi;split at ak;rotate_left
 .cases ak
 rename_i el kO;have hd:=(hT _ _ hi).desc;rw[kO] at hd;simp only[fK] at hd;split at ak;rotate_left
 .cases ak
 rename_i ie l7;split at ak;rotate_left
 .cases ak
 rename_i cs eI;split at ak;rotate_left
 .cases ak
 rename_i fs DS;split at ak;rotate_left
 .cases ak
 rename_i hg;obtain⟨et,B8,hg4⟩:=hg;cases ak;have pL:=qK DS;have JB:(gL H cs++[Ob.row true (dA ie.size len fs)]).length=H.length+D.length:=aD;rw[qe] at JB;unfold gL at JB;rw[bh] at JB;obtain⟨d,rfl⟩:=nQ (D:=D) (by simp at JB;omega);obtain⟨X1,h1,tU,kL⟩:=h.shutIds (cs.flatMap eY);rw[eM _ pL] at h1;obtain⟨ti,z,eP,ef,wx,hz,tZ,dU,c_,hrd⟩:=nP (hT _ _ l7) (w:=w) (X:=X) (ρ:=ρ);have afY:0<z.cells.size:=by omega
 have Lz:wU w X ρ ((Array.range (len*ti.size)).map fun k=>(z.cells[k % z.cells.size]!)) (List.replicate len ie.zero).flatten:=by
  have b_: ∀ (j:Nat) u,((Array.range (len*ti.size)).map fun k=>(z.cells[k % z.cells.size]!))[j]?=some u->j<len*ie.size/\z.cells[j % ie.size]?=some u:=by
   intro j u hu;rw[Array.getElem?_map,Option.map_eq_some_iff] at hu;obtain⟨k,hk,rfl⟩:=hu;have jD:=(Array.getElem?_eq_some_iff.1 hk).1;have iJ:=(Array.getElem?_eq_some_iff.1 hk).2;simp only[Array.getElem_range] at iJ;subst iJ;have aH:j % z.cells.size<z.cells.size:=Nat.mod_lt _ afY;refine⟨by simpa [ef] using jD,?_⟩;rw[<-tZ];simp[aH]
  refine⟨by simp[ef,dU],fun j u hu=>c_ _ u (b_ j u hu).2,fun j u x hu hx=>?_⟩;obtain⟨h2,h3⟩:=b_ j u hu;rw[Gj dU B8 len j h2] at hx;exact(hrd _ u x h3 hx).1
 obtain⟨us',gK,eW⟩:=Dc (w:=w) (X:=X) (ρ:=ρ) (pl:=fun j=>some (j*ie.size,ie.size)) (by intro i off s hi;cases hi;exact B8) (parts.toList.map fun(i,x)=>(i,e x)) (parts.toList.map fun(j,x)=>(j,ρv x)) _ _ cs (by simp)
  (Gf parts.toList (fun p hp=>hρ p.2 (by
   simp only[Op.operands,List.mem_toArray,mem_map];exact⟨p,hp,rfl⟩))) Lz eI
 have fG:cs.length=len*ie.size:=by
  have h2:=eW.n;have h3: ∀ (pv:List (Nat×PV)) (a b:List PV),mb (fun j=>some (j*ie.size,ie.size)) a pv=some b->b.length=a.length:=by
   intro pv
   induction pv with
   | nil=>intro a b rv;simp[mb] at rv;rw[rv]
   | cons p pv ih=>
    intro a b rv;obtain⟨i,x⟩:=p;simp only[mb] at rv;split at rv
    .rename_i amx;rw[ih _ _ rv,gH (by omega)]
    cases rv
  rw[h3 _ _ _ eI];simp[dU]
 have oH:fs.length=len*ie.size:=by rw[f4 DS,fG]
 have hXs:Stp c w w X X1 ρ ρ:=Stp.same_world tU;have Oo: ∀ (k:Nat) u y,us'[k]?=some u->fs[k]?=some y->FRd w X1 u y:=by
  intro k u y hu hy;have aH:k<cs.length:=by rw[fG,<-oH];exact(List.getElem?_eq_some_iff.1 hy).1
  obtain⟨y',Cf,NV⟩:=k_ DS k cs[k] (by simp[aH]);rw[hy] at Cf;cases Cf;refine lV h bn (eW.rd k u cs[k] hu (by simp[aH])) NV tU (fun id d5=>kL id ?_);rw[List.mem_flatMap];exact⟨cs[k],by simp,d5⟩
 have XI:ρ[(shutIds (cs.flatMap eY) H).length]?=some none:=by rw[bh];exact hD _ (qp _) (by simp)
 have NA:len<=maxLen:=by simp only[maxLen];omega
 have fA:=World.ownsRow_lit (base:=0) (size:=ie.size) (e:=el) w us' len (eH _) NA (by rw[eW.n,fG]);obtain⟨X',ρ',h2,h3,h4,h5⟩:=d6 (xs:=dA ie.size len fs) (size:=ie.size) (el:=el) (v:= .slice (some ⟨w.heap.size,0,none⟩) len len) (row:=none) h1 XI (World.grownBy_alloc w _ none) (by simp) (by intros;simp) (by simp) B8 (sd oH)
  (by rw[gI];exact fA) (by
   intro g hg;simp only[Value.ownBlock,qo] at hg;left;omega) (by
   intro i' j x y hx hy;obtain⟨Cf,hj⟩:=po hx hy;have aH:i'*ie.size+j<us'.size:=by rw[eW.n,fG,<-oH];exact(List.getElem?_eq_some_iff.1 Cf).1
   exact⟨us'[i'*ie.size+j],by simp[aH],Oo _ _ _ (by simp[aH]) Cf⟩)
 rw[bh,gI] at h4;rw[bh] at h5;refine⟨_,_,X',ρ',.inl ?_,hXs.trans h2,h3,h4,fun id d5=>h5 id (by simp at d5;omega)⟩;have afZ: ¬(16777216<len*ti.size):=by
  rw[ef];have:len*ie.size<=1000*1000:=Nat.mul_le_mul (by omega) (by omega);omega
 by_cases Lm:len=0
 .subst Lm;have v3:Array.range 0=#[]:=rfl;simp only[Nat.zero_mul,v3,Array.map_empty] at gK;simp[execOp,ho,Instr.buildSlice,run_underlying hd,sizeOf,typeInfo,eP,ef,v3,gK,newRow]
 have cM: ¬(len*ti.size=0):=by
  rw[ef];exact Nat.mul_ne_zero Lm (by omega)
 rw[ef] at gK;simp only[ef] at afZ cM;simp[execOp,ho,Instr.buildSlice,run_underlying hd,sizeOf,typeInfo,eP,ef,zeroValue,hz,afZ,cM,gK,newRow]
end
end Go.AM
