/- The abstract machine:code,and the way from a weakest precondition to a contract. -/
import Derived.Test.YtiaaceeelfhdlaaGreatT6
import Derived.Scope
import Derived.Test.YtiaaceeelfhdlaaGreatT1
set_option linter.all false
open List (replicate)
namespace Go.AM
def qD (H:List Ob) (keep:List Nat):PV->Option PV
 | .ptr id i off=>match keep.idxOf? id with
  | some j=>some (.ptr j i off)
  | none=>(dS H (.ptr id i off)).map .fv
 | .lsl id off len s=>match keep.idxOf? id with
  | some j=>some (.lsl j off len s)
  | none=>(dS H (.lsl id off len s)).map .fv
 | v=>(dS H v).map .fv
def qE (H:List Ob) (keep:List Nat):List PV->Option (List PV)
 | []=>some []
 | v::vs=>match qD H keep v,qE H keep vs with | some x,some xs=>some (x::xs) | _,_=>none
def ur (H:List Ob) (keep:List Nat):PV->Option PV
 | .agg cs=>(qE H keep cs).map .agg
 | v=>qD H keep v
def qF (H:List Ob) (keep:List Nat):List PV->Option (List PV)
 | []=>some []
 | v::vs=>match ur H keep v,qF H keep vs with | some x,some xs=>some (x::xs) | _,_=>none
def qG (H:List Ob) (keep:List Nat):PV->Option PV
 | .tup vs=>(qF H keep vs).map .tup
 | v=>ur H keep v
def tu (H:List Ob) (keep:List Nat):PV->List Nat
 | .ptr id i off=>if keep.idxOf? id=none then j7 H (.ptr id i off) else []
 | .lsl id off len s=>if keep.idxOf? id=none then j7 H (.lsl id off len s) else []
 | v=>j7 H v
def tv (H:List Ob) (keep:List Nat):PV->List Nat
 | .agg cs=>cs.flatMap (tu H keep)
 | v=>tu H keep v
def lW (H:List Ob) (keep:List Nat):PV->List Nat
 | .tup vs=>vs.flatMap (tv H keep)
 | v=>tv H keep v
def r9 (T:Tab) (st:St):ResultVar->Option (Prop×PV)
 | .tmp t=>some (True,st.get t)
 | .cell a t=>match T.at t,st.get a with
  | some i,.ptr id j off=>match ee st.heap id j off i.size with
   | some (cd,cs)=>match ig i cs with
    | some v=>some (cd,v)
    | none=>none
   | none=>none
  | _,_=>none
def eB (T:Tab) (st:St):List ResultVar->Option (Prop×List PV)
 | []=>some (True,[])
 | r::rs=>match r9 T st r,eB T st rs with
  | some (c1,v),some (c2,vs)=>some (c1/\c2,v::vs)
  | _,_=>none
def bN:List PV->PV
 | [v]=>v
 | vs=> .tup vs
def RetOK (T:Tab) (rs:List ResultVar) (m:Nat) (st:St) (H1:List Ob) (res:PV):Prop:=
 ∃ cd vs keep,eB T st rs=some (cd,vs)/\cd/\keep.Nodup/\(∀ i,i<m->keep[i]?=some i)/\qG st.heap keep (bN vs)=some res/\
  H1.length=keep.length/\(∀ (j id:Nat),keep[j]?=some id->(shutIds (lW st.heap keep (bN vs)) st.heap)[id]?=H1[j]?)/\ ∀ o∈H1,o.closed/\o.rw=true
section
variable {P:Program} {T:Tab}
theorem HRd.world {c:fR} {w w':World} {X:Nat->Prop} {ρ:Places} {H:List Ob} (h:HRd c w X ρ H) (hw:w'.heap=w.heap):HRd c w' X ρ H:=by
 have hs:Same X w w':=⟨by rw[hw];exact qp _,fun b _ _=>by rw[hw]⟩;refine⟨h.len,fun id p o hp ho=>(h.ob id p o hp ho).keep hs (fun _ _ h=>h) (Places.Le.refl ρ) (fun _ g _ _=>⟨by rw[hw],Iff.rfl⟩),h.inj,fun id p o g hp ho hr hg=>by rw[hw];exact h.own id p o g hp ho hr hg,h.xo,
  fun b hb=>by rw[hw];exact h.xlt b hb,by rw[hw];exact h.ge,h.base⟩
theorem SRd.drew {c:fR} {st:St} {a:Act} {w:World} (h:SRd c st a w):SRd c st a {w with drawn:=w.drawn+1}:=by
 obtain⟨X,ρ,hh,he,hd,hk⟩:=h;refine⟨X,ρ,hh.world rfl,⟨he.1,fun i v x hv hx=>(he.2 i v x hv hx).mono ⟨qp _,fun _ _ _=>rfl⟩ (fun _ _ h=>h) (Places.Le.refl ρ)⟩,hd,⟨⟨hk.os,hk.tape,hk.output,hk.size,hk.block⟩,ka hk.drawn (Nat.le_succ _)⟩⟩
theorem SRd.shut {c:fR} {st:St} {a:Act} {w:World} (h:SRd c st a w) (ids:List Nat):SRd c {st with heap:=shutIds ids st.heap} a w:=by
 obtain⟨X,ρ,hh,he,hd,hk⟩:=h;obtain⟨X',uF,hs,_⟩:=hh.shutIds ids;exact⟨X',ρ,uF,he.stp (c:=c) (Stp.same_world hs),hd,hk⟩
theorem J2 {cd:Code} {Q:Exit->Act->World->Prop} (J:Nat->Act->World->Prop) {n:Nat} {a:Act} {w:World} (h₀:J n a w)
 (round: ∀ n a w,J n a w->cd.wp P (Exit.then (fun a' w'=> ∃ m,m<n/\J m a' w') Q) a w):(Code.loop cd).wp P Q a w:=by
 intro b k cs
 have key: ∀ n a w,J n a w-> ∃ e a' w',Q e a' w'/\Arrives P (lone (b.at a (.code cd:: .inLoop cd::k)) cs w) b k cs e a' w':=by
  intro n
  induction n using Nat.strongRecOn with
  | _ n ih=>
   intro a w hI;obtain⟨e,a₁,w₁,hq,Ev⟩:=round n a w hI b (.inLoop cd::k) cs;cases e with
   | normal=>
    obtain⟨m,aG,hI₁⟩:=hq;obtain⟨e₂,a₂,w₂,hq₂,ado⟩:=ih m aG a₁ w₁ hI₁;exact⟨e₂,a₂,w₂,hq₂,.of_steps (Steps.trans Ev (.one step_inLoop)) ado⟩
   | exit id=>exact⟨_,a₁,w₁,hq,.pass (x:= .inLoop cd) rfl (fun _ _=> .inl (by simp)) Ev⟩
   | goto l=>exact⟨_,a₁,w₁,hq,.pass (x:= .inLoop cd) rfl (fun _ _=> .inl (by simp)) Ev⟩
   | ret=>exact⟨_,a₁,w₁,hq,.pass (x:= .inLoop cd) rfl (fun _ _=> .inl (by simp)) Ev⟩
   | panic ch=>exact⟨_,a₁,w₁,hq,.pass (x:= .inLoop cd) rfl (fun _ _=> .inl (by simp)) Ev⟩
   | outgrown=>exact⟨_,a₁,w₁,hq,.pass (x:= .inLoop cd) rfl (fun _ _=> .inl (by simp)) Ev⟩
 obtain⟨e,a',w',hq,Ev⟩:=key n a w h₀
 exact⟨e,a',w',hq,.of_steps (.one step_loop) Ev⟩
def AExit.conv:AExit->Exit
 | .normal=> .normal
 | .exit id=> .exit id
 | .ret=> .ret
theorem fk (hT:ck P T) (hm:P.follows .mixedOrders=true) {m:Nat} {c:fR} (tD:c.base.length<=m): ∀ (cd:Code) {st:St} {Q:AExit->St->Prop} {a:Act} {w:World} {Q':Exit->Act->World->Prop},WPA P T m cd st Q->SRd c st a w->
 (∀ e st' a' w',Q e st'->SRd c st' a' w'->Q' e.conv a' w')->cd.wp P Q' a w
 | .skip,st,Q,a,w,Q',h,hs,hq=>wp_skip (hq .normal st a w h hs)
 | .label _,st,Q,a,w,Q',h,hs,hq=>wp_label (hq .normal st a w h hs)
 | .exit id,st,Q,a,w,Q',h,hs,hq=>wp_exit (hq (.exit id) st a w h hs)
 | .ret,st,Q,a,w,Q',h,hs,hq=>wp_ret (hq .ret st a w h hs)
 | .seq x y,st,Q,a,w,Q',h,hs,hq=>by
  refine wp_seq (fk hT hm tD x h hs (fun e st' a' w' he tK=>?_));cases e with
  | normal=>exact fk hT hm tD y he tK hq
  | exit id=>exact hq (.exit id) st' a' w' he tK
  | ret=>exact hq .ret st' a' w' he tK
 | .cond o x y,st,Q,a,w,Q',h,hs,hq=>by
  simp only[WPA] at h;split at h
  .rename_i b hb;obtain⟨X,ρ,hh,he,hd,hk⟩:=hs;have hv:=o0 he o;rw[hb] at hv;refine wp_cond hv.litInv ?_;cases b with
   | true=>exact fk hT hm tD x (h.1 rfl) ⟨X,ρ,hh,he,hd,hk⟩ hq
   | false=>exact fk hT hm tD y (h.2 rfl) ⟨X,ρ,hh,he,hd,hk⟩ hq
  .exact h.elim
 | .block id x,st,Q,a,w,Q',h,hs,hq=>by
  refine wp_block (fk hT hm tD x h hs (fun e st' a' w' he tK=>?_));cases e with
  | normal=>exact hq .normal st' a' w' he tK
  | exit i=>
   simp only at he;simp only[AExit.conv,Exit.inBlock];split
   .rename_i hi;rw[if_pos hi] at he;exact hq .normal st' a' w' he tK
   .rename_i hi;rw[if_neg hi] at he;exact hq (.exit i) st' a' w' he tK
  | ret=>exact hq .ret st' a' w' he tK
 | .loop x,st,Q,a,w,Q',h,hs,hq=>by
  obtain⟨I,⟨n,K6,hw,hi⟩,Xw⟩:=h;refine J2 (fun n a w=> ∃ st,I n st/\SRd c st a w) (n:=n) ⟨K6,hi,hw c a w tD hs⟩ (fun n a w ⟨ff,pJ,pj⟩=>?_);refine fk hT hm tD x (Xw n ff pJ) pj (fun e st' a' w' he tK=>?_);cases e with
  | normal=>
   obtain⟨m,Uq,aG,Pp,gq⟩:=he;exact⟨m,aG,Uq,gq,Pp c a' w' tD tK⟩
  | exit id=>exact hq (.exit id) st' a' w' he tK
  | ret=>exact hq .ret st' a' w' he tK
 | .region _ ops draw,st,Q,a,w,Q',h,hs,hq=>by
  simp only[WPA] at h;cases draw with
  | false=>
   simp only[Bool.false_eq_true,if_false] at h;refine wp_region ?_;have:=oa hT (Q:=Q') (c:=c) (K:=Q .normal) (fun st a w hk hs=>hq .normal st a w hk hs) ops.toList 0 st a w (by simp) h hs;rw[Array.length_toList] at this;rwa [List.range_eq_range']
  | true=>
   simp only[if_true] at h;rcases h with⟨bf,ids,sh,h⟩ | ⟨ff,h,h1⟩
   .exact wp_region_any hm (FF hT bf h (fun st a w hk hs=>hq .normal st a w hk hs) (hs.shut ids).drew)
   .exact wp_region_any hm (z9 hT (K:=fun s=>Weak m s ff) (fun st a w hk hs=>hq .normal ff a w h1 (hk c a w tD hs)) _ _ _ _ _ h hs.drew)
 | .rangeFunc ..,_,_,_,_,_,h,_,_=>h.elim
 | .scope x,st,Q,a,w,Q',h,hs,hq=>wp_scope_straight (fk hT hm tD x h hs (fun e st' a' w' he tK=>by
  cases e with
  | normal=>exact hq .normal st' a' w' he tK
  | exit i=>exact hq (.exit i) st' a' w' he tK
  | ret=>exact hq .ret st' a' w' he tK))
 | .goto _,_,_,_,_,_,h,_,_=>h.elim
 | .refuse _,_,_,_,_,_,h,_,_=>h.elim
end
end Go.AM
namespace Go.AM
section
variable {P:Program} {T:Tab}
theorem Rf (hT:ck P T) {t:TypeId} {i:TyI} (hi:T.at t=some i) {c:fR} {w:World} {X:Nat->Prop} {ρ:Places} {F:List Ob} (h:HRd c w X ρ F) {id j off:Nat} {u0:Value} (hx:PRd w X ρ u0 (.ptr id j off))
 {cd:Prop} {cs:List PV} (f_:ee F id j off i.size=some (cd,cs)) (hc:cd) {v:PV} (eA:ig i cs=some v):
 ∃ ad u,u0= .pointer (some ad)/\(loadVar t ad).run P w= .ok u w/\PRd w X ρ u v:=by
 cases hx with
 | ptr _ _ _ g p hp hg=>
  unfold ee at f_;split at f_
  .rename_i rw xs fr;simp only[qo,Prod.mk.injEq] at f_;obtain⟨rfl,rfl⟩:=f_;obtain⟨nC,KM⟩:=hc;obtain⟨⟨cY,aA,us,gf,hcell⟩,_⟩:=h.ob id p _ hp fr;have Su:xs[j]?=some (xs.getD j []):=by simp[nC]
   have eP:World.ownsRow w 0 p.e p.size (.slice (some ⟨g,0,none⟩) xs.length p.cap) xs.length us:=by simpa [Place.val,hg] using gf
   have k4:(((xs.getD j []).drop off).take i.size).length=i.size:=by simp only[qf,qt];omega
   have cg: ∀ (k:Nat) y,((((xs.getD j []).drop off).take i.size).map PV.fv)[k]?=some y-> ∃ z u,y= .fv z/\us[j*p.size+(off+k)]?=some u/\FRd w X u z:=by
    intro k y hy;rw[List.getElem?_map,Option.map_eq_some_iff] at hy;obtain⟨z,hz,rfl⟩:=hy;rw[List.getElem?_take] at hz;split at hz
    .rw[List.getElem?_drop] at hz;obtain⟨u,hu,sA⟩:=hcell j (off+k) _ z Su hz;exact⟨z,u,rfl,hu,sA⟩
    cases hz
   obtain⟨u,cL,hrd⟩:=r6 hT hi (w:=w) (X:=X) (ρ:=ρ) (ad:=⟨g,j*p.size+off,none⟩) rfl (us:=fun k=>us.getD (j*p.size+(off+k)) undef) (by simpa using k4)
    (fun k y hy=>by
     obtain⟨z,u,_,hu,_⟩:=cg k y hy;have:=eP.cells (g:=g) rfl _ u hu;rw[gZ,Nat.zero_add] at this;simp only[qa,hu,Option.getD_some,Nat.add_assoc];exact this)
    (fun k y hy=>by
     obtain⟨z,u,_,hu,sA⟩:=cg k y hy;simp only[qa,hu,Option.getD_some];exact sA.one)
    (fun k y hy=>by
     obtain⟨z,u,rfl,hu,sA⟩:=cg k y hy;simp only[qa,hu,Option.getD_some];exact .fv _ _ sA) eA
   exact⟨_,u,rfl,cL,hrd⟩
  .rename_i rw bs fr;simp only[qo,Prod.mk.injEq] at f_;obtain⟨rfl,rfl⟩:=f_;obtain⟨rfl,KM⟩:=hc;obtain⟨⟨g',us,kP,hh,dh,h1,hcell⟩,_⟩:=h.ob id p _ hp fr;rw[hg] at kP;cases kP;have k4:((bs.drop off).take i.size).length=i.size:=by simp only[qf,qt];omega
   have cg: ∀ (k:Nat) y,((bs.drop off).take i.size)[k]?=some y-> ∃ u,us[off+k]?=some u/\PRd w X ρ u y:=by
    intro k y hy;rw[List.getElem?_take] at hy;split at hy
    .rw[List.getElem?_drop] at hy;have aG:off+k<us.size:=by rw[dh];exact(List.getElem?_eq_some_iff.1 hy).1
     exact⟨us[off+k],Array.getElem?_eq_getElem aG,hcell _ _ _ (Array.getElem?_eq_getElem aG) hy⟩
    cases hy
   obtain⟨u,cL,hrd⟩:=r6 hT hi (w:=w) (X:=X) (ρ:=ρ) (ad:=⟨g,0*p.size+off,none⟩) rfl (us:=fun k=>us.getD (off+k) undef) k4
    (fun k y hy=>by
     obtain⟨u,hu,_⟩:=cg k y hy;rw[cell_of_row w g _ us _ _ hh];simp only[Nat.zero_mul,Nat.zero_add,Array.getD_eq_getD_getElem?,hu,Option.getD_some])
    (fun k y hy=>by
     obtain⟨u,hu,_⟩:=cg k y hy;simp only[Array.getD_eq_getD_getElem?,hu,Option.getD_some];exact h1 _ _ hu)
    (fun k y hy=>by
     obtain⟨u,hu,sA⟩:=cg k y hy;simp only[Array.getD_eq_getD_getElem?,hu,Option.getD_some];exact sA) eA
   exact⟨_,u,rfl,cL,hrd⟩
  cases f_
def r_ (tmps:Array Value):ResultVar->Sem Value
 | .tmp t=>pure (tmps.getD t undef)
 | .cell a t=>do loadVar t (<-asAddr (tmps.getD a undef))
theorem Rg (hT:ck P T) {c:fR} {w:World} {X:Nat->Prop} {ρ:Places} {st:St} {tmps:Array Value} (h:HRd c w X ρ st.heap) (he:EnvRd w X ρ tmps st.env) {r:ResultVar} {cd:Prop} {v:PV}
 (hr:r9 T st r=some (cd,v)) (hc:cd): ∃ u,(r_ tmps r).run P w= .ok u w/\PRd w X ρ u v:=by
 have hev:=fun t=>o0 (a:={tmps,defers:=[]}) he (.tmp t)
 simp only[Act.eval,ev] at hev
 cases r with
 | tmp t=>
  simp only[r9,qo,Prod.mk.injEq] at hr;obtain⟨rfl,rfl⟩:=hr;exact⟨_,rfl,hev t⟩
 | cell a t=>
  simp only[r9] at hr;split at hr
  .rename_i i id j off hi hv;split at hr
   .rename_i cd' cs f_;split at hr
    .rename_i v' eA;simp only[qo,Prod.mk.injEq] at hr;obtain⟨rfl,rfl⟩:=hr;have ha:=hev a;unfold St.get at hv;rw[hv] at ha;obtain⟨ad,u,hu,cL,hrd⟩:=Rf hT hi h ha f_ hc eA;refine⟨u,?_,hrd⟩;simp only[r_,hu,asAddr,Sem.run_bind,Sem.run_pure,Result.andThen_ok,cL]
    cases hr
   cases hr
  cases hr
theorem H8 (hT:ck P T) {c:fR} {w:World} {X:Nat->Prop} {ρ:Places} {st:St} {tmps:Array Value} (h:HRd c w X ρ st.heap) (he:EnvRd w X ρ tmps st.env):
 ∀ (rs:List ResultVar) (cd:Prop) (vs:List PV),eB T st rs=some (cd,vs)->cd-> ∃ us:List Value,(rs.mapM (r_ tmps)).run P w= .ok us w/\us.length=vs.length/\ ∀ (i:Nat) u v,us[i]?=some u->vs[i]?=some v->PRd w X ρ u v
 | [],cd,vs,hr,_=>by
  simp only[eB,qo,Prod.mk.injEq] at hr;obtain⟨rfl,rfl⟩:=hr;exact⟨[],rfl,rfl,by simp⟩
 | r::rs,cd,vs,hr,hc=>by
  simp only[eB] at hr;split at hr
  .rename_i c1 v c2 vs' h1 h2;simp only[qo,Prod.mk.injEq] at hr;obtain⟨rfl,rfl⟩:=hr;obtain⟨u,hu,hur⟩:=Rg hT h he h1 hc.1;obtain⟨us,gf,hl,BL⟩:=H8 hT h he rs c2 vs' h2 hc.2;refine⟨u::us,by simp[List.mapM_cons,hu,gf],by simp[hl],fun i u' v' hi hv=>?_⟩;cases i with
   | zero=>simp at hi hv;subst hi;subst hv;exact hur
   | succ i=>simp at hi hv;exact BL i u' v' hi hv
  cases hr
theorem od (hT:ck P T) {fn:Func} {c:fR} {w:World} {X:Nat->Prop} {ρ:Places} {st:St} {tmps:Array Value} (h:HRd c w X ρ st.heap) (he:EnvRd w X ρ tmps st.env) {cd:Prop} {vs:List PV}
 (hr:eB T st fn.results.toList=some (cd,vs)) (hc:cd): ∃ u,(results fn tmps).run P w= .ok u w/\PRd w X ρ u (bN vs):=by
 obtain⟨us,gf,hl,BL⟩:=H8 hT h he _ cd vs hr hc
 have e:results fn tmps=(do let vs<-fn.results.mapM (r_ tmps);pure (if h:vs.size=1 then vs[0] else .tuple vs)):=by
  unfold results;congr 1
 have OB:(fn.results.mapM (r_ tmps)).run P w= .ok us.toArray w:=by
  rw[Array.mapM_eq_mapM_toList];simp[gf]
 rw[e]
 simp only[Sem.run_bind,OB,Result.andThen_ok,Sem.run_pure]
 by_cases h1:us.length=1
 .match us,vs,h1,hl,BL with
  | [u],[v],_,_,BL=>exact⟨u,by simp,BL 0 u v rfl rfl⟩
 refine⟨.tuple us.toArray,by simp[h1],?_⟩
 have:bN vs= .tup vs:=by
  unfold bN;split
  .rename_i v;simp at hl;exact absurd hl h1
  rfl
 rw[this]
 refine .tup _ _ (by simpa using hl) (fun i u v hu hv=>BL i u v (by simpa using hu) hv)
theorem NL {c:fR} {w:World} {X X':Nat->Prop} {ρ ρ':Places} {H:List Ob} {keep:List Nat} (h:HRd c w X ρ H) {u:Value} {x y:PV} (hv:PRd w X ρ u x) (hf:qD H keep x=some y) (hX: ∀ b,X' b->X b)
 (hn: ∀ id∈tu H keep x,∀ p o g,ρ[id]?=some (some p)->H[id]?=some o->o.alive->p.b=some g-> ¬X' g) (hρ: ∀ (id j:Nat) p,keep.idxOf? id=some j->ρ[id]?=some (some p)->ρ'[j]?=some (some p)):PRd w X' ρ' u y:=by
 have plain: ∀ z,dS H x=some z->(∀ id∈j7 H x,∀ p o g,ρ[id]?=some (some p)->H[id]?=some o->o.alive->p.b=some g-> ¬X' g)->PRd w X' ρ' u (.fv z):=
  fun z hz hn=> .fv _ _ (A6 h (fun _ _ h=>h) hv hz hX hn)
 cases x with
 | ptr id i off=>
  simp only[qD] at hf;split at hf
  .rename_i j hj;cases hf;cases hv with
   | ptr _ _ _ g p hp hg=>exact .ptr j i off g p (hρ id j p hj hp) hg
  .rename_i hj;rw[Option.map_eq_some_iff] at hf;obtain⟨z,hz,rfl⟩:=hf;exact plain z hz (fun k hk=>hn k (by simp only[tu,hj,if_true];exact hk))
 | lsl id off len s=>
  simp only[qD] at hf;split at hf
  .rename_i j hj;cases hf;obtain⟨p,hp,qR,⟨hg,rfl,rfl,rfl⟩ | ⟨g,og,hg,rfl,hl,jE⟩⟩:=hv.lslInv
   .subst qR;exact .lsl0 j p (hρ id j p hj hp) hg
   subst qR;exact .lsl j off len og g p (hρ id j p hj hp) hg hl jE
  .rename_i hj;rw[Option.map_eq_some_iff] at hf;obtain⟨z,hz,rfl⟩:=hf;exact plain z hz (fun k hk=>hn k (by simp only[tu,hj,if_true];exact hk))
 | any=>simp[qD,dS,dI] at hf
 | agg _=>simp[qD,dS,dI] at hf
 | tup _=>simp[qD,dS,dI] at hf
 | tab _=>simp[qD,dS,dI] at hf
 | fv z=>
  simp only[qD,Option.map_eq_some_iff] at hf;obtain⟨z,hz,rfl⟩:=hf;exact plain z hz (fun k hk=>hn k hk)
 | nilsl=>
  simp only[qD,Option.map_eq_some_iff] at hf;obtain⟨z,hz,rfl⟩:=hf;exact plain z hz (fun k hk=>hn k hk)
 | clip xs=>
  simp only[qD,Option.map_eq_some_iff] at hf;obtain⟨z,hz,rfl⟩:=hf;exact plain z hz (fun k hk=>hn k hk)
theorem DR {H:List Ob} {keep:List Nat}: ∀ {xs ys:List PV},qE H keep xs=some ys->ys.length=xs.length/\ ∀ (i:Nat) y,ys[i]?=some y-> ∃ x,xs[i]?=some x/\qD H keep x=some y
 | [],ys,h=>by simp[qE] at h;subst h;simp
 | x::xs,ys,h=>by
  simp only[qE] at h;split at h
  .rename_i y ys' h1 h2;cases h;obtain⟨hl,hg⟩:=DR h2;refine⟨by simp[hl],fun i z hz=>?_⟩;cases i with
   | zero=>simp at hz;subst hz;exact⟨x,rfl,h1⟩
   | succ i=>simp at hz ⊢;exact hg i z hz
  cases h
theorem DS {H:List Ob} {keep:List Nat}: ∀ {xs ys:List PV},qF H keep xs=some ys->ys.length=xs.length/\ ∀ (i:Nat) y,ys[i]?=some y-> ∃ x,xs[i]?=some x/\ur H keep x=some y
 | [],ys,h=>by simp[qF] at h;subst h;simp
 | x::xs,ys,h=>by
  simp only[qF] at h;split at h
  .rename_i y ys' h1 h2;cases h;obtain⟨hl,hg⟩:=DS h2;refine⟨by simp[hl],fun i z hz=>?_⟩;cases i with
   | zero=>simp at hz;subst hz;exact⟨x,rfl,h1⟩
   | succ i=>simp at hz ⊢;exact hg i z hz
  cases h
theorem NM {c:fR} {w:World} {X X':Nat->Prop} {ρ ρ':Places} {H:List Ob} {keep:List Nat} (h:HRd c w X ρ H) {u:Value} {x y:PV} (hv:PRd w X ρ u x) (hf:ur H keep x=some y) (hX: ∀ b,X' b->X b)
 (hn: ∀ id∈tv H keep x,∀ p o g,ρ[id]?=some (some p)->H[id]?=some o->o.alive->p.b=some g-> ¬X' g) (hρ: ∀ (id j:Nat) p,keep.idxOf? id=some j->ρ[id]?=some (some p)->ρ'[j]?=some (some p)):PRd w X' ρ' u y:=by
 by_cases jx: ∃ cs,x= .agg cs
 .obtain⟨cs,rfl⟩:=jx
  simp only[ur,Option.map_eq_some_iff] at hf
  obtain⟨ys,vE,rfl⟩:=hf
  obtain⟨hl,hg⟩:=DR vE
  cases hv with
  | agg us _ dh h1 hr=>
   refine .agg us ys (by rw[hl];exact dh) h1 (fun i u' y hu hy=>?_);obtain⟨x,hx,Ir⟩:=hg i y hy;refine NL h (hr i u' x hu hx) Ir hX (fun k hk=>hn k ?_) hρ;simp only[tv,List.mem_flatMap];exact⟨x,List.mem_of_getElem? hx,hk⟩
 have e1:ur H keep x=qD H keep x:=by
  unfold ur;split
  .exact absurd ⟨_,rfl⟩ jx
  rfl
 have e2:tv H keep x=tu H keep x:=by
  unfold tv;split
  .exact absurd ⟨_,rfl⟩ jx
  rfl
 rw[e1] at hf
 rw[e2] at hn
 exact NL h hv hf hX hn hρ
theorem NN {c:fR} {w:World} {X X':Nat->Prop} {ρ ρ':Places} {H:List Ob} {keep:List Nat} (h:HRd c w X ρ H) {u:Value} {x y:PV} (hv:PRd w X ρ u x) (hf:qG H keep x=some y) (hX: ∀ b,X' b->X b)
 (hn: ∀ id∈lW H keep x,∀ p o g,ρ[id]?=some (some p)->H[id]?=some o->o.alive->p.b=some g-> ¬X' g) (hρ: ∀ (id j:Nat) p,keep.idxOf? id=some j->ρ[id]?=some (some p)->ρ'[j]?=some (some p)):PRd w X' ρ' u y:=by
 by_cases Xx: ∃ cs,x= .tup cs
 .obtain⟨cs,rfl⟩:=Xx
  simp only[qG,Option.map_eq_some_iff] at hf
  obtain⟨ys,vE,rfl⟩:=hf
  obtain⟨hl,hg⟩:=DS vE
  cases hv with
  | tup us _ dh hr=>
   refine .tup us ys (by rw[hl];exact dh) (fun i u' y hu hy=>?_);obtain⟨x,hx,Ir⟩:=hg i y hy;refine NM h (hr i u' x hu hx) Ir hX (fun k hk=>hn k ?_) hρ;simp only[lW,List.mem_flatMap];exact⟨x,List.mem_of_getElem? hx,hk⟩
 have e1:qG H keep x=ur H keep x:=by
  unfold qG;split
  .exact absurd ⟨_,rfl⟩ Xx
  rfl
 have e2:lW H keep x=tv H keep x:=by
  unfold lW;split
  .exact absurd ⟨_,rfl⟩ Xx
  rfl
 rw[e1] at hf
 rw[e2] at hn
 exact NM h hv hf hX hn hρ
theorem xq (hT:ck P T) (hm:P.follows .mixedOrders=true) {k:FuncId} {fn:Func} {cd:Code} (hf:P.funcs[k]?=some fn) (hb:fn.body=some cd) (kJ:(fn.name== "runtime.NumGoroutine")=false)
 {H0:List Ob} {args:List PV} {H1:List Ob} {res:PV}
 (h:WPA P T H0.length cd ⟨args++replicate (fn.ntmps - args.length) .any,H0⟩ fun e st=>match e with | .exit _=>False | _=>RetOK T fn.results.toList H0.length st H1 res):Den P k H0 args H1 res:=by
 refine⟨⟨fn,cd,hf,hb,kJ⟩,fun c X ρ vs hh hM dT=>?_⟩
 refine calls_of_wp hf hb ?_
 let c2:fR:={c with base:=ρ}
 have Xy:HRd c2 c.w0 X ρ H0:=⟨hh.len,hh.ob,hh.inj,hh.own,hh.xo,hh.xlt,hh.ge,Places.Le.refl ρ⟩
 have hs:SRd c2 ⟨args++replicate (fn.ntmps - args.length) .any,H0⟩ {tmps:=vs++Array.replicate (fn.ntmps - vs.size) undef,defers:=[]} c.w0:=by
  refine⟨X,ρ,Xy,⟨by simp[dT.1],fun i v x hv hx=>?_⟩,rfl,Keeps.refl c2⟩;by_cases hi:i<vs.size
  .rw[Array.getElem?_append_left hi] at hv;rw[qi (by rw[<-dT.1];exact hi)] at hx;exact dT.2 i v x hv hx
  rw[qh (by rw[<-dT.1];omega),List.getElem?_replicate] at hx;split at hx
  .cases hx;exact .any _
  cases hx
 have fin: ∀ st' a' w',RetOK T fn.results.toList H0.length st' H1 res->SRd c2 st' a' w'->a'.defers=[]/\ ∃ v,(results fn a'.tmps).run P w'= .ok v w'/\ ∃ v2 X' ρ',Ending.returned v= .returned v2/\Keeps c w'/\HRd c w' X' ρ' H1/\PRd w' X' ρ' v2 res/\
  ρ.Le ρ'/\(∀ (id:Nat) p,ρ.length<=id->ρ'[id]?=some (some p)-> ∀ g,p.b=some g->c.w0.heap.size<=g):=by
  intro st' a' w' Pd ⟨X',ρ',h',KR,hd',vF⟩
  obtain⟨cd',vs',keep,ao,jv,l6,jY,KU,aA,ahH,eO⟩:=Pd
  obtain⟨u,cL,hu⟩:=od hT h' KR ao jv
  obtain⟨X1,h1,pj,jd⟩:=h'.shutIds (lW st'.heap keep (bN vs'))
  have k6: ∀ (j id:Nat),keep[j]?=some id-> ∃ o,(shutIds (lW st'.heap keep (bN vs')) st'.heap)[id]?=some o/\H1[j]?=some o/\o.closed/\o.rw=true:=by
   intro j id hj;have nC:j<H1.length:=by rw[aA];exact(List.getElem?_eq_some_iff.1 hj).1
   have KD:=ahH j id hj;have hg:H1[j]?=some H1[j]:=by simp[nC]
   rw[hg] at KD;exact⟨H1[j],KD,hg,eO _ (pP _)⟩
  have Ix: ∀ i j id,keep[i]?=some id->keep[j]?=some id->i=j:=fun i j id hi hj=>by
   obtain⟨pJ,gq⟩:=List.getElem?_eq_some_iff.1 hi;obtain⟨XJ,En⟩:=List.getElem?_eq_some_iff.1 hj;exact(List.getElem_inj l6).1 (gq.trans En.symm)
  let ρk:Places:=keep.map fun id=>(ρ'[id]?).getD none
  have hρk: ∀ (j id:Nat) p,keep[j]?=some id->ρk[j]?=some (some p)->ρ'[id]?=some (some p):=by
   intro j id p hj hp;simp only[ρk,List.getElem?_map,hj,Option.map_some,qo] at hp;cases hg:ρ'[id]? with
   | none=>rw[hg] at hp;cases hp
   | some q=>rw[hg] at hp;simp at hp;rw[hp]
  have ahI: ∀ (id j:Nat) p,keep.idxOf? id=some j->ρ'[id]?=some (some p)->ρk[j]?=some (some p):=by
   intro id j p hj hp;have XR:keep[j]?=some id:=by
    rw[List.idxOf?,List.findIdx?_eq_some_iff_getElem] at hj;obtain⟨nC,h2,_⟩:=hj;simp only[beq_iff_eq] at h2;simp[nC,h2]
   simp only[ρk,List.getElem?_map,XR,Option.map_some,hp,Option.getD_some]
  have cg: ∀ (j:Nat) p,ρk[j]?=some (some p)-> ∃ id,keep[j]?=some id/\ρ'[id]?=some (some p):=by
   intro j p hp;have nC:j<keep.length:=by have:=(List.getElem?_eq_some_iff.1 hp).1;simpa [ρk] using this
   exact⟨keep[j],by simp[nC],hρk j _ p (by simp[nC]) hp⟩
  have cX:ρ.Le ρk:=by
   intro i p hp;have eV:i<H0.length:=by rw[<-hh.len];exact(List.getElem?_eq_some_iff.1 hp).1
   have:=h'.base i p hp;simp only[ρk,List.getElem?_map,jY i eV,Option.map_some,this,Option.getD_some]
  refine⟨hd',u,cL,u,X1,ρk,rfl,⟨⟨vF.os,vF.tape,vF.output,vF.size,vF.block⟩,vF.drawn⟩,⟨by simp[ρk,aA],?_,?_,?_,h1.xo,h1.xlt,h1.ge,hh.base.trans cX⟩,?_,cX,?_⟩
  .intro j p o hp ho
   obtain⟨id,hj,Iy⟩:=cg j p hp
   obtain⟨o',h3,h4,h5,_⟩:=k6 j id hj
   rw[ho] at h4;cases h4
   exact(h1.ob id p o Iy h3).closed h5
  .intro i j p q o r g hp hq ho hr h_ gL dp dN
   obtain⟨Xz,hi,Iy⟩:=cg i p hp
   obtain⟨Iz,hj,Um⟩:=cg j q hq
   obtain⟨o',h3,h4,_,_⟩:=k6 i Xz hi
   obtain⟨r',h5,h6,_,_⟩:=k6 j Iz hj
   rw[ho] at h4;cases h4
   rw[hr] at h6;cases h6
   have:=h1.inj Xz Iz p q o r g Iy Um h3 h5 h_ gL dp dN
   subst this
   exact Ix i j Xz hi hj
  .intro j p o g hp ho h_ dp
   obtain⟨id,hj,Iy⟩:=cg j p hp
   obtain⟨o',h3,h4,_,_⟩:=k6 j id hj
   rw[ho] at h4;cases h4
   exact h1.own id p o g Iy h3 h_ dp
  .exact NN h' hu KU pj jd ahI
  intro j p hjm hp g hg
  obtain⟨id,hj,Iy⟩:=cg j p hp
  obtain⟨o,h3,h4,_,hrw⟩:=k6 j id hj
  rcases(h1.own id p o g Iy h3 hrw hg).1 with h5 | h5
  .exact h5
  exfalso
  obtain⟨Iz,q,hq,hqg⟩:=hM g h5
  have eV:Iz<H0.length:=by rw[<-hh.len];exact(List.getElem?_eq_some_iff.1 hq).1
  have Um:=h'.base Iz q hq
  obtain⟨o2,h6,_,_,Gw⟩:=k6 Iz Iz (jY Iz eV)
  have:=h1.inj id Iz p q o o2 g Iy Um h3 h6 hrw Gw hg hqg
  subst this
  have:=Ix j id id hj (jY id eV)
  rw[hh.len] at hjm
  omega
 refine fk hT hm (m:=H0.length) (by show ρ.length<=_;rw[hh.len];exact qp _) cd h hs (fun e st' a' w' he tK=>?_)
 cases e with
 | normal=>exact fin st' a' w' he tK
 | ret=>exact fin st' a' w' he tK
 | exit id=>exact he.elim
end
end Go.AM
namespace Go.AM
theorem Weak.refl (m:Nat) (st:St):Weak m st st:=fun _ _ _ _ h=>h
theorem Weak.trans {m:Nat} {a b c:St} (h:Weak m a b) (k:Weak m b c):Weak m a c:=fun x y z hl hs=>k x y z hl (h x y z hl hs)
def cJ (keep:List Nat):PV->PV->Prop
 | .fv x,.fv y=>x=y
 | .nilsl,.nilsl=>True
 | .nilsl,.fv (.sl [])=>True
 | .clip xs,.clip ys=>xs=ys
 | .clip xs,.fv (.sl ys)=>xs=ys
 | .ptr id i off,.ptr j i' off'=>keep[j]?=some id/\i=i'/\off=off'
 | .lsl id off len s,.lsl j off' len' s'=>keep[j]?=some id/\off=off'/\len=len'/\s=s'
 | .tup [],.tup []=>True
 | .tab id,.tab j=>keep[j]?=some id
 | _,.any=>True
 | _,_=>False
def aU (keep:List Nat):List PV->List PV->Prop
 | [],[]=>True
 | a::as,b::bs=>cJ keep a b/\aU keep as bs
 | _,_=>False
def eT (keep:List Nat):PV->PV->Prop
 | .agg cs,.agg ds=>aU keep cs ds
 | a,b=>cJ keep a b
def bO (keep:List Nat):List PV->List PV->Prop
 | [],[]=>True
 | a::as,b::bs=>eT keep a b/\bO keep as bs
 | _,_=>False
def fC (keep:List Nat):Ob->Ob->Prop
 | .row r xs,.row r' ys=>r=r'/\xs=ys
 | .box r cs,.box r' ds=>r=r'/\aU keep cs ds
 | .tab n es,.tab n' es'=>n=n'/\es=es'
 | _,.dead=>True
 | _,_=>False
def fM (keep:List Nat) (H:List Ob):List Nat->List Ob->Prop
 | [],[]=>True
 | id::ids,o::os=>(match H[id]? with | some o'=>fC keep o' o | none=>False)/\fM keep H ids os
 | _,_=>False
section
variable {w:World} {X:Nat->Prop} {ρ ρ':Places} {keep:List Nat}
theorem FG (hk: ∀ (j id:Nat),keep[j]?=some id->ρ'[j]?=ρ[id]?) {v:Value}: ∀ {x y:PV},cJ keep x y->PRd w X ρ v x->PRd w X ρ' v y:=by
 intro x y h hv;unfold cJ at h;split at h
 .subst h;cases hv;exact .fv _ _ ‹_›
 .cases hv;exact .nilsl
 .cases hv;exact .fv _ _ .nil
 .subst h;cases hv;exact .clip _ _ _ ‹_›
 .subst h;cases hv;exact .fv _ _ ‹_›
 .obtain⟨h1,rfl,rfl⟩:=h;cases hv with
  | ptr _ _ _ g p hp hg=>exact .ptr _ _ _ g p (by rw[hk _ _ h1];exact hp) hg
 .obtain⟨h1,rfl,rfl,rfl⟩:=h;cases hv with
  | lsl0 _ p hp hg=>exact .lsl0 _ p (by rw[hk _ _ h1];exact hp) hg
  | lsl _ _ _ o g p hp hg hl ho=>exact .lsl _ _ _ o g p (by rw[hk _ _ h1];exact hp) hg hl ho
 .cases hv with
  | tup us _ hn hr=>exact .tup us [] hn (by simp)
 .cases hv with
  | tab _ g p hp hg=>exact .tab _ g p (by rw[hk _ _ h];exact hp) hg
 .exact .any _
 exact h.elim
theorem xr: ∀ {as bs:List PV},aU keep as bs->as.length=bs.length/\ ∀ (i:Nat) a b,as[i]?=some a->bs[i]?=some b->cJ keep a b
 | [],[],_=>⟨rfl,by simp⟩
 | a::as,b::bs,h=>by
  obtain⟨h1,h2⟩:=h;obtain⟨hl,hg⟩:=xr h2;refine⟨by simp[hl],fun i x y hx hy=>?_⟩;cases i with
  | zero=>simp at hx hy;subst hx;subst hy;exact h1
  | succ i=>exact hg i x y (by simpa using hx) (by simpa using hy)
 | [],_::_,h=>h.elim
 | _::_,[],h=>h.elim
theorem VD (hk: ∀ (j id:Nat),keep[j]?=some id->ρ'[j]?=ρ[id]?) {v:Value} {x y:PV} (h:eT keep x y) (hv:PRd w X ρ v x):PRd w X ρ' v y:=by
 unfold eT at h;split at h
 .obtain⟨hl,hg⟩:=xr h;cases hv with
  | agg us _ hn h1 hr=>
   refine .agg us _ (hn.trans hl) h1 (fun i u c hu hc=>?_);rename_i cs ds;have hi:i<cs.length:=by rw[hl];exact(List.getElem?_eq_some_iff.1 hc).1
   exact FG hk (hg i cs[i] c (by simp[hi]) hc) (hr i u cs[i] hu (by simp[hi]))
 exact FG hk h hv
theorem DT: ∀ {as bs:List PV},bO keep as bs->as.length=bs.length/\ ∀ (i:Nat) a b,as[i]?=some a->bs[i]?=some b->eT keep a b
 | [],[],_=>⟨rfl,by simp⟩
 | a::as,b::bs,h=>by
  obtain⟨h1,h2⟩:=h;obtain⟨hl,hg⟩:=DT h2;refine⟨by simp[hl],fun i x y hx hy=>?_⟩;cases i with
  | zero=>simp at hx hy;subst hx;subst hy;exact h1
  | succ i=>exact hg i x y (by simpa using hx) (by simpa using hy)
 | [],_::_,h=>h.elim
 | _::_,[],h=>h.elim
theorem VE (hk: ∀ (j id:Nat),keep[j]?=some id->ρ'[j]?=ρ[id]?) {p:Place} {o o':Ob} (h:fC keep o o') (ho:ObRd w X ρ p o):ObRd w X ρ' p o':=by
 unfold fC at h;split at h
 .obtain⟨rfl,rfl⟩:=h;exact ho
 .obtain⟨rfl,h⟩:=h;obtain⟨⟨g,us,hg,hb,dh,h1,hr⟩,hx⟩:=ho;obtain⟨hl,xJ⟩:=xr h;refine⟨⟨g,us,hg,hb,dh.trans hl,h1,fun i u c hu hc=>?_⟩,hx⟩;rename_i cs ds;have hi:i<cs.length:=by rw[hl];exact(List.getElem?_eq_some_iff.1 hc).1
  exact FG hk (xJ i cs[i] c (by simp[hi]) hc) (hr i u cs[i] hu (by simp[hi]))
 .obtain⟨rfl,rfl⟩:=h;exact ho
 .trivial
 exact h.elim
theorem FH {o o':Ob} (h:fC keep o o') (hr:o'.rw=true):o.rw=true:=by
 unfold fC at h;split at h
 .obtain⟨rfl,rfl⟩:=h;exact hr
 .obtain⟨rfl,h⟩:=h;exact hr
 .obtain⟨rfl,rfl⟩:=h;exact hr
 .cases hr
 exact h.elim
theorem H9 {H:List Ob}: ∀ {ids:List Nat} {os:List Ob},fM keep H ids os->ids.length=os.length/\ ∀ (j:Nat) id o,ids[j]?=some id->os[j]?=some o-> ∃ o',H[id]?=some o'/\fC keep o' o
 | [],[],_=>⟨rfl,by simp⟩
 | a::as,b::bs,h=>by
  obtain⟨h1,h2⟩:=h;obtain⟨hl,hg⟩:=H9 h2;refine⟨by simp[hl],fun i x y hx hy=>?_⟩;cases i with
  | zero=>
   simp at hx hy;subst hx;subst hy;split at h1
   .exact⟨_,‹_›,h1⟩
   .exact h1.elim
  | succ i=>exact hg i x y (by simpa using hx) (by simpa using hy)
 | [],_::_,h=>h.elim
 | _::_,[],h=>h.elim
end
def tw (m:Nat) (keep:List Nat):Bool:=(List.range m).all fun i=>keep[i]?==some i
theorem FI {m:Nat} {keep:List Nat} (h:tw m keep=true) {i:Nat} (hi:i<m):keep[i]?=some i:=by
 unfold tw at h;rw[nF] at h;simpa using h i (List.mem_range.2 hi)
theorem wk {m:Nat} {env env':List PV} {H H':List Ob} (keep:List Nat) (l6:keep.Nodup) (hm:tw m keep=true) (he:bO keep env env') (hh:fM keep H keep H'):Weak m ⟨env,H⟩ ⟨env',H'⟩:=by
 intro c a w tD ⟨X,ρ,h,yP,hd,Xb⟩;obtain⟨hl,hg⟩:=H9 hh;let ρk:Places:=keep.map fun id=>(ρ[id]?).getD none
 have Ix: ∀ i j id,keep[i]?=some id->keep[j]?=some id->i=j:=fun i j id hi hj=>by
  obtain⟨pJ,gq⟩:=List.getElem?_eq_some_iff.1 hi;obtain⟨XJ,En⟩:=List.getElem?_eq_some_iff.1 hj;exact(List.getElem_inj l6).1 (gq.trans En.symm)
 have Ew: ∀ (j id:Nat),keep[j]?=some id-> ∃ o o',H'[j]?=some o/\H[id]?=some o'/\fC keep o' o:=by
  intro j id hj;have nC:j<H'.length:=by rw[<-hl];exact(List.getElem?_eq_some_iff.1 hj).1
  obtain⟨o',h1,h2⟩:=hg j id H'[j] hj (by simp[nC]);exact⟨H'[j],o',by simp[nC],h1,h2⟩
 have hk: ∀ (j id:Nat),keep[j]?=some id->ρk[j]?=ρ[id]?:=by
  intro j id hj;obtain⟨o,o',_,h2,_⟩:=Ew j id hj;have cF:id<ρ.length:=by rw[h.len];exact(List.getElem?_eq_some_iff.1 h2).1
  simp only[ρk,List.getElem?_map,hj,Option.map_some];simp[cF]
 have cg: ∀ (j:Nat) p,ρk[j]?=some (some p)-> ∃ id,keep[j]?=some id/\ρ[id]?=some (some p):=by
  intro j p hp;have nC:j<keep.length:=by have:=(List.getElem?_eq_some_iff.1 hp).1;simpa [ρk] using this
  have hj:keep[j]?=some keep[j]:=by simp[nC]
  exact⟨keep[j],hj,by rw[<-hk j _ hj];exact hp⟩
 refine⟨X,ρk,⟨by simp[ρk,hl],?_,?_,?_,h.xo,h.xlt,h.ge,?_⟩,?_,hd,Xb⟩
 .intro j p o hp ho;obtain⟨id,hj,Iy⟩:=cg j p hp;obtain⟨o1,o',h1,h2,h3⟩:=Ew j id hj;rw[ho] at h1;cases h1;exact VE hk h3 (h.ob id p o' Iy h2)
 .intro i j p q o r g hp hq ho hr h_ gL dp dN;obtain⟨Xz,hi,Iy⟩:=cg i p hp;obtain⟨Iz,hj,Um⟩:=cg j q hq;obtain⟨_,o',h1,h2,h3⟩:=Ew i Xz hi;obtain⟨_,r',h4,h5,h6⟩:=Ew j Iz hj;rw[ho] at h1;cases h1;rw[hr] at h4;cases h4;have:=h.inj Xz Iz p q o' r' g Iy Um h2 h5 (FH h3 h_) (FH h6 gL) dp dN;subst this;exact Ix i j Xz hi hj
 .intro j p o g hp ho h_ dp;obtain⟨id,hj,Iy⟩:=cg j p hp;obtain⟨_,o',h1,h2,h3⟩:=Ew j id hj;rw[ho] at h1;cases h1;exact h.own id p o' g Iy h2 (FH h3 h_) dp
 .intro i p hp;have hi:i<m:=by have:=(List.getElem?_eq_some_iff.1 hp).1;omega
  rw[hk i i (FI hm hi)];exact h.base i p hp
 obtain⟨cX,hlg⟩:=DT he;refine⟨yP.1.trans cX,fun t v y hv hy=>?_⟩;have ht:t<env.length:=by rw[cX];exact(List.getElem?_eq_some_iff.1 hy).1
 exact VD hk (hlg t env[t] y (by simp[ht]) hy) (yP.2 t v env[t] hv (by simp[ht]))
def after (r:Option Res) (K:PV->List Ob->Prop):Prop:=match r with | some r=>r.cond/\K r.val r.heap | none=>False
theorem after.mono {r:Option Res} {K K':PV->List Ob->Prop} (hk: ∀ v H,K v H->K' v H) (h:after r K):after r K':=by
 cases r with
 | none=>exact h
 | some r=>exact⟨h.1,hk _ _ h.2⟩
theorem H_ {P:Program} {T:Tab} {o:Op} {st:St} {K:PV->List Ob->Prop} (ho: ∀ c,o≠ .call c):WPop P T o st K=after (aP T st.heap (ev st.env) o) K:=by
 cases o with
 | call c=>exact absurd rfl (ho c)
 | _=>rfl
theorem WPop.mono {P:Program} {T:Tab} {o:Op} {st:St} {K K':PV->List Ob->Prop} (hk: ∀ v H,K v H->K' v H) (h:WPop P T o st K):WPop P T o st K':=by
 by_cases ho: ∀ c,o≠ .call c
 .rw[H_ ho] at h ⊢;exact h.mono hk
 have: ∃ c,o= .call c:=Classical.byContradiction fun hn=>ho fun c hc=>hn ⟨c,hc⟩
 obtain⟨c,rfl⟩:=this;simp only[WPop] at h ⊢;unfold WPcall at h ⊢;cases hc:c.callee with
 | builtin b=>rw[hc] at h;exact after.mono (r:=fK T st.heap b c.argTypes.toList (c.args.toList.map (ev st.env))) hk h
 | value f=>
  rw[hc] at h;simp only at h ⊢;cases hf:A5 (ev st.env f) with
  | none=>rw[hf] at h;exact h
  | some r=>
   rw[hf] at h;obtain⟨v,H',h1,h2⟩:=h;exact⟨v,H',h1,hk _ _ h2⟩
 | invoke x y=>rw[hc] at h;exact h
theorem WPops.mono {P:Program} {T:Tab} {all:Array Oper} {K K':St->Prop} (hk: ∀ st,K st->K' st): ∀ (l:List Oper) {st:St},WPops P T all l st K->WPops P T all l st K'
 | [],st,h=>hk st h
 | o::rest,st,h=>by
  unfold WPops at h ⊢;split
  .rename_i hg;simp only[hg] at h;exact WPop.mono (fun v H h=>WPops.mono hk rest h) h
  rename_i j want hg;simp only[hg] at h;split
  .rename_i t ht;simp only[ht] at h;split
   .rename_i b hb;simp only[hb] at h;exact⟨fun e=>WPop.mono (fun v H h=>WPops.mono hk rest h) (h.1 e),fun e=>WPops.mono hk rest (h.2 e)⟩
   .rename_i hb;simp only[hb] at h;exact WPops.mono hk rest h
   rename_i h1 h2;split at h
   .exact absurd ‹_› (h1 _)
   .exact absurd ‹_› h2
   exact h
  rename_i ht;simp only[ht] at h
theorem WPdrawS.mono {P:Program} {T:Tab} {all:Array Oper} {K K':St->List (List Nat)->Prop} (hk: ∀ st tr,K st tr->K' st tr): ∀ (l:List Oper) {sh tr:List (List Nat)} {st:St},WPdrawS P T all l sh tr st K->WPdrawS P T all l sh tr st K'
 | [],sh,tr,st,h=>hk st tr h
 | o::rest,sh,tr,st,h=>by
  unfold WPdrawS at h ⊢;split
  .rename_i hg;simp only[hg] at h;exact WPop.mono (fun v H h=>⟨h.1,WPdrawS.mono hk rest h.2⟩) h
  rename_i j want hg;simp only[hg] at h;split
  .rename_i t ht;simp only[ht] at h;split
   .rename_i b hb;simp only[hb] at h;exact⟨fun e=>WPop.mono (fun v H h=>⟨h.1,WPdrawS.mono hk rest h.2⟩) (h.1 e),fun e=>WPdrawS.mono hk rest (h.2 e)⟩
   .rename_i hb;simp only[hb] at h;exact WPdrawS.mono hk rest h
   rename_i h1 h2;split at h
   .exact absurd ‹_› (h1 _)
   .exact absurd ‹_› h2
   exact h
  rename_i ht;simp only[ht] at h
theorem fT {ops:Array Oper} (h:wU ops=true):kF ops=true/\ ∀ tr,Fv ops tr=true:=by
 have hc: ∀ x y:Oper,eb ops x y=true->Dp ops x y=true:=fun x y h=>by
  unfold eb at h;unfold Dp;simp only[EL,hG] at h ⊢;rcases h with((h | h) | h) | h
  .exact .inl (.inl (.inl h))
  .exact .inl (.inl (.inr h))
  .exact .inl (.inr h.1)
  exact .inr h.1
 have hd: ∀ x y:Oper,((isApp x.op&&isRead y.op)||(isRead x.op&&isApp y.op))=true->Dp ops x y=true:=fun x y h=>by
  have ra: ∀ {op:Op},isRead op=true->cm op=1/\gY op=false:=fun{op} h=>by cases op<;>first | exact⟨rfl,rfl⟩ | (cases h;done)
  have aa: ∀ {op:Op},isApp op=true->cm op=2:=fun{op} h=>by
   cases op with
   | call c=>simp only[isApp] at h;simp[cm,h]
   | _=>cases h
  rw[EL,hG,hG] at h;unfold Dp;rcases h with h | h
  .simp[ra h.2,aa h.1]
  simp[ra h.1,aa h.2]
 unfold wU at h;rw[nF] at h;constructor
 .unfold kF;rw[nF];intro j hj;have h1:=h j hj;cases ho:ops[j]? with
  | none=>rw[ho] at h1;cases h1
  | some oj=>
   rw[ho] at h1;simp only[hG,nF] at h1 ⊢;refine⟨h1.1,fun i hi=>?_⟩;have h2:=h1.2 i hi;cases Uk:ops[i]? with
   | none=>rw[Uk] at h2;cases h2
   | some oi=>
    rw[Uk] at h2;simp only[EL,Bool.not_eq_true'] at h2 ⊢;rcases h2 with h2 | h2
    .left;cases GF:eb ops oi oj with
     | false=>rfl
     | true=>rw[hc _ _ GF] at h2;cases h2
    exact .inr h2
 intro tr;unfold Fv;rw[nF];intro j hj;rw[nF];intro i hi;have h1:=h j hj;cases ho:ops[j]? with
 | none=>cases ops[i]?<;>rfl
 | some oj=>
  rw[ho] at h1;simp only[hG,nF] at h1;have h2:=h1.2 i hi;cases Uk:ops[i]? with
  | none=>rfl
  | some oi=>
   rw[Uk] at h2;simp only[EL,Bool.not_eq_true'] at h2 ⊢;rcases h2 with h2 | h2
   .left;left;cases hp:((isApp oi.op&&isRead oj.op)||(isRead oi.op&&isApp oj.op)) with
    | false=>rfl
    | true=>rw[hd _ _ hp] at h2;cases h2
   exact .inl (.inr h2)
theorem WPdraw.toS {P:Program} {T:Tab} {all:Array Oper} {K:St->Prop}: ∀ (l:List Oper) {tr:List (List Nat)} {st:St},WPdraw P T all l st K->WPdrawS P T all l [] tr st (fun s _=>K s)
 | [],tr,st,h=>h
 | o::rest,tr,st,h=>by
  unfold WPdraw at h;unfold WPdrawS;split
  .rename_i hg;simp only[hg] at h;exact WPop.mono (fun v H h=>⟨h.1.imp id (fun e=>⟨rfl,e⟩),WPdraw.toS rest h.2⟩) h
  rename_i j want hg;simp only[hg] at h;split
  .rename_i t ht;simp only[ht] at h;split
   .rename_i b hb;simp only[hb] at h;exact⟨fun e=>WPop.mono (fun v H h=>⟨h.1.imp id (fun e=>⟨rfl,e⟩),WPdraw.toS rest h.2⟩) (h.1 e),fun e=>WPdraw.toS rest (h.2 e)⟩
   .rename_i hb;simp only[hb] at h;exact WPdraw.toS rest h
   rename_i h1 h2;split at h
   .exact absurd ‹_› (h1 _)
   .exact absurd ‹_› h2
   exact h
  rename_i ht;simp only[ht] at h
theorem WPA.mono {P:Program} {T:Tab} {m:Nat}: ∀ (cd:Code) {st:St} {Q Q':AExit->St->Prop},(∀ e st,Q e st->Q' e st)->WPA P T m cd st Q->WPA P T m cd st Q'
 | .skip,st,Q,Q',hq,h=>hq _ _ h
 | .label _,st,Q,Q',hq,h=>hq _ _ h
 | .exit _,st,Q,Q',hq,h=>hq _ _ h
 | .ret,st,Q,Q',hq,h=>hq _ _ h
 | .seq x y,st,Q,Q',hq,h=>by
  unfold WPA at h ⊢;refine WPA.mono x (fun e st h=>?_) h;cases e with
  | normal=>exact WPA.mono y hq h
  | exit id=>exact hq _ _ h
  | ret=>exact hq _ _ h
 | .cond o x y,st,Q,Q',hq,h=>by
  unfold WPA at h ⊢;split
  .rename_i b hb;simp only[hb] at h;exact⟨fun e=>WPA.mono x hq (h.1 e),fun e=>WPA.mono y hq (h.2 e)⟩
  .rename_i hb;split at h
   .exact absurd ‹_› (hb _)
   .exact h
 | .block id x,st,Q,Q',hq,h=>by
  unfold WPA at h ⊢;refine WPA.mono x (fun e st h=>?_) h;cases e with
  | normal=>exact hq _ _ h
  | exit i=>
   simp only at h ⊢;split
   .rename_i hi;rw[if_pos hi] at h;exact hq _ _ h
   .rename_i hi;rw[if_neg hi] at h;exact hq _ _ h
  | ret=>exact hq _ _ h
 | .loop x,st,Q,Q',hq,h=>by
  unfold WPA at h ⊢;obtain⟨I,h1,h2⟩:=h;refine⟨I,h1,fun n K6 hi=>WPA.mono x (fun e st h=>?_) (h2 n K6 hi)⟩;cases e with
  | normal=>exact h
  | exit id=>exact hq _ _ h
  | ret=>exact hq _ _ h
 | .region _ ops draw,st,Q,Q',hq,h=>by
  unfold WPA at h ⊢;split
  .rename_i hd;rw[if_pos hd] at h;rcases h with⟨h1,ids,sh,h2⟩ | ⟨ff,h1,h2⟩
   .exact .inl ⟨h1,ids,sh,WPdrawS.mono (fun st tr h=>⟨h.1,hq _ _ h.2⟩) _ h2⟩
   exact .inr ⟨ff,h1,hq _ _ h2⟩
  .rename_i hd;rw[if_neg hd] at h;exact WPops.mono (fun st h=>hq _ _ h) _ h
 | .rangeFunc ..,_,_,_,_,h=>h
 | .scope x,st,Q,Q',hq,h=>by
  unfold WPA at h ⊢;exact WPA.mono x hq h
 | .goto _,_,_,_,_,h=>h
 | .refuse _,_,_,_,_,h=>h
theorem WPA.cut {P:Program} {T:Tab} {m:Nat} {x y:Code} {st:St} {Q:AExit->St->Prop} (R:St->Prop) (h1:WPA P T m x st fun e st'=>match e with | .normal=>R st' | e=>Q e st') (h2: ∀ st',R st'->WPA P T m y st' Q):WPA P T m (.seq x y) st Q:=by
 unfold WPA;refine WPA.mono x (fun e st' h=>?_) h1;cases e with
 | normal=>exact h2 st' h
 | exit id=>exact h
 | ret=>exact h
end Go.AM
namespace Go.AM
structure cu {α:Type} (a:α):Type where
def Br (b:Bool) (p q:Prop) (_:cu (p,q)):Prop:=(b=true->p)/\(b=false->q)
theorem bK {c:Prop} {_:Decidable c} {p q:Prop} {t:cu (p,q)} (h1:c->decide c=true->p) (h2: ¬c->decide c=false->q):Br (decide c) p q t:=
 ⟨fun h=>h1 (of_decide_eq_true h) h,fun h=>h2 (of_decide_eq_false h) h⟩
theorem Br.beqInt {a b:Int} {p q:Prop} {t:cu (p,q)} (h1:a=b->(a==b)=true->p) (h2:a≠b->(a==b)=false->q):Br (a==b) p q t:=
 ⟨fun h=>h1 (by simpa using h) h,fun h=>h2 (by simpa using h) h⟩
theorem Br.bneInt {a b:Int} {p q:Prop} {t:cu (p,q)} (h1:a≠b->(a !=b)=true->p) (h2:a=b->(a !=b)=false->q):Br (a !=b) p q t:=
 ⟨fun h=>h1 (by simpa using h) h,fun h=>h2 (by simpa using h) h⟩
theorem Rh {p q:Prop} {t:cu (p,q)}:Br true p q t=p:=by simp[Br]
theorem NO {p q:Prop} {t:cu (p,q)}:Br false p q t=q:=by simp[Br]
def TV (v:PV) (p q:Prop) (_:cu (p,q)):Prop:=match v with | .fv (.lit (.bool b))=>Br b p q ⟨⟩ | _=>False
theorem FJ {b:Bool} {p q:Prop} {t:cu (p,q)}:TV (.fv (.lit (.bool b))) p q t=Br b p q ⟨⟩:=rfl
def oh (v:PV) (want:Bool) (p q:Prop) (_:cu (p,q)):Prop:=match v with
 | .fv (.lit (.bool b))=>(b=want->p)/\(b=!want->q)
 | .tup []=>q
 | _=>False
theorem NP {b:Bool} {p q:Prop} {t:cu (p,q)}:oh (.fv (.lit (.bool b))) true p q t=Br b p q ⟨⟩:=rfl
theorem NQ {b:Bool} {p q:Prop} {t:cu (p,q)}:oh (.fv (.lit (.bool b))) false p q t=Br b q p ⟨⟩:=by
 simp[oh,Br,and_comm]
theorem FK {want:Bool} {p q:Prop} {t:cu (p,q)}:oh (.tup []) want p q t=q:=rfl
def DU:List Oper->Nat->Option Nat
 | [],_=>none
 | o::_,0=>o.dst
 | _::l,j+1=>DU l j
theorem Bp: ∀ (l:List Oper) (j:Nat),(l[j]?).bind (·.dst)=DU l j
 | [],_=>by simp[DU]
 | o::_,0=>by simp[DU]
 | _::l,j+1=>by simp[DU,Bp l j]
def mQ (env:List PV) (d:Option Nat) (v:PV):List PV:=match d with | some t=>env.set t v | none=>env
theorem J3 {env:List PV} {t:Nat} {v:PV}:mQ env (some t) v=env.set t v:=rfl
theorem J4 {env:List PV} {v:PV}:mQ env none v=env:=rfl
def VF (env:List PV) (o:Option Nat):PV:=match o with | some t=>env.getD t .any | none=> .any
def qH (l:List Oper) (j:Nat) (env:List PV) (_:cu l):PV:=VF env (DU l j)
theorem DV {env:List PV} {d:Nat} {op:Op} {ty:TypeId} {pos:String} {af:Array Edge} {g:Option (Nat×Bool)} {l:List Oper} {t:cu _}:qH ({dst:=some d,op:=op,type:=ty,pos:=pos,after:=af,guard:=g}::l) 0 env t=env.getD d .any:=rfl
theorem DW {env:List PV} {o:Oper} {l:List Oper} {j:Nat} {t:cu _}:qH (o::l) (j+1) env t=qH l j env ⟨⟩:=rfl
abbrev KQ:=AExit->St->Prop
def WA (P:Program) (T:Tab) (m:Nat) (cd:Code) (st:St) (Q:KQ) (_:cu (cd,Q)):Prop:=WPA P T m cd st Q
def WO (P:Program) (T:Tab) (all l:List Oper) (st:St) (K:St->Prop) (_:cu (all,l,K)):Prop:=WPops P T (List.toArray all) l st K
def WD (P:Program) (T:Tab) (all l:List Oper) (st:St) (K:St->Prop) (_:cu (all,l,K)):Prop:=WPdraw P T (List.toArray all) l st K
def W1 (P:Program) (T:Tab) (o:Op) (st:St) (K:PV->List Ob->Prop) (_:cu (o,K)):Prop:=WPop P T o st K
def qU (r:Option Res) (K:PV->List Ob->Prop) (_:cu K):Prop:=after r K
def Draw (P:Program) (T:Tab) (m:Nat) (ops:List Oper) (st:St) (K:St->Prop) (_:cu (ops,K)):Prop:=(kF (List.toArray ops)=true/\ ∃ ids sh,WPdrawS P T (List.toArray ops) ops sh [] {st with heap:=shutIds ids st.heap} (fun s tr=>Fv (List.toArray ops) tr=true/\K s))\/
 ∃ ff,WPany P T (List.toArray ops) ops.length (Array.replicate ops.length false) st (fun s=>Weak m s ff)/\K ff
def AN (P:Program) (T:Tab) (l:List Oper) (n:Nat) (listed:Array Bool) (st ff:St) (_:cu l):Prop:=WPany P T (List.toArray l) n listed st (fun s=>s=ff)
def FM (P:Program) (T:Tab) (m:Nat) (y:Code) (Q:KQ) (_:cu (y,Q)) (e:AExit) (st:St):Prop:=match e with | .normal=>WPA P T m y st Q | e=>Q e st
def kW (id:Nat) (Q:KQ) (_:cu Q) (e:AExit) (st:St):Prop:=match e with | .exit i=>if i=id then Q .normal st else Q (.exit i) st | e=>Q e st
def Ap (Q:KQ) (e:AExit) (st:St) (_:cu Q):Prop:=Q e st
section
variable {P:Program} {T:Tab} {m:Nat} {st:St} {env:List PV} {H:List Ob} {Q:KQ} {K:St->Prop} {K2:PV->List Ob->Prop}
theorem yv {y:Code} {t:cu (y,Q)} {u:cu _}:Ap (FM P T m y Q t) .normal st u=WA P T m y st Q ⟨⟩:=rfl
theorem DX {y:Code} {i:Nat} {t:cu (y,Q)} {u:cu _}:Ap (FM P T m y Q t) (.exit i) st u=Ap Q (.exit i) st ⟨⟩:=rfl
theorem FO {y:Code} {t:cu (y,Q)} {u:cu _}:Ap (FM P T m y Q t) .ret st u=Ap Q .ret st ⟨⟩:=rfl
theorem uQ {i:Nat} {t:cu Q} {u:cu _}:Ap (kW i Q t) .normal st u=Ap Q .normal st ⟨⟩:=rfl
theorem yw {i id:Nat} {t:cu Q} {u:cu _}:Ap (kW id Q t) (.exit i) st u=Br (i==id) (Ap Q .normal st ⟨⟩) (Ap Q (.exit i) st ⟨⟩) ⟨⟩:=by
 by_cases h:i=id
 .subst h;simp[kW,Br,Ap]
 simp[kW,Br,h,Ap]
theorem Bq {i:Nat} {t:cu Q} {u:cu _}:Ap (kW i Q t) .ret st u=Ap Q .ret st ⟨⟩:=rfl
theorem VG {x y:Code} {t:cu _}:WA P T m (.seq x y) st Q t=WA P T m x st (FM P T m y Q ⟨⟩) ⟨⟩:=rfl
theorem Ri {t:cu _}:WA P T m .skip st Q t=Ap Q .normal st ⟨⟩:=rfl
theorem NR {s:Nat} {t:cu _}:WA P T m (.label s) st Q t=Ap Q .normal st ⟨⟩:=rfl
theorem Rj {i:Nat} {t:cu _}:WA P T m (.exit i) st Q t=Ap Q (.exit i) st ⟨⟩:=rfl
theorem VH {t:cu _}:WA P T m .ret st Q t=Ap Q .ret st ⟨⟩:=rfl
theorem NS {i:Nat} {x:Code} {t:cu _}:WA P T m (.block i x) st Q t=WA P T m x st (kW i Q ⟨⟩) ⟨⟩:=rfl
theorem Rk {c:Operand} {x y:Code} {t:cu _}:WA P T m (.cond c x y) ⟨env,H⟩ Q t=TV (ev env c) (WA P T m x ⟨env,H⟩ Q ⟨⟩) (WA P T m y ⟨env,H⟩ Q ⟨⟩) ⟨⟩:=rfl
theorem J5 {n:Nat} {l:List Oper} {t:cu _}:WA P T m (.region n (List.toArray l) false) st Q t=WO P T l l st (fun st=>Ap Q .normal st ⟨⟩) ⟨⟩:=rfl
theorem Rl {n:Nat} {l:List Oper} {t:cu _}:WA P T m (.region n (List.toArray l) true) st Q t=Draw P T m l st (fun st=>Ap Q .normal st ⟨⟩) ⟨⟩:=rfl
theorem dw {l:List Oper} {t:cu _} (h:wU (List.toArray l)=true) (k:WD P T l l st K ⟨⟩):Draw P T m l st K t:= .inl ⟨(fT h).1,[],[],WPdrawS.mono (fun _ tr hk=>⟨(fT h).2 tr,hk⟩) _ (WPdraw.toS _ k)⟩
theorem Draw.freeze (ids:List Nat) {l:List Oper} {t:cu _} (h:wU (List.toArray l)=true) (k:WD P T l l {st with heap:=shutIds ids st.heap} K ⟨⟩):Draw P T m l st K t:= .inl ⟨(fT h).1,ids,[],WPdrawS.mono (fun _ tr hk=>⟨(fT h).2 tr,hk⟩) _ (WPdraw.toS _ k)⟩
theorem WPany.mono {ops:Array Oper} {K K':St->Prop} (hk: ∀ s,K s->K' s): ∀ (n:Nat) (listed:Array Bool) (st:St),WPany P T ops n listed st K->WPany P T ops n listed st K'
 | 0,_,_,h=>⟨h.1,hk _ h.2⟩
 | n+1,_,_,h=>⟨fun e=>hk _ (h.1 e),fun i hi=>by
  have h2:=h.2 i hi;cases ho:ops[i]? with
  | none=>rw[ho] at h2;exact h2.elim
  | some o=>
   rw[ho] at h2;exact⟨h2.1,WPop.mono (fun v H hh=>WPany.mono hk n _ _ hh) h2.2⟩⟩
theorem Draw.any (ff:St) {l:List Oper} {t:cu _} (h:AN P T l l.length (Array.replicate l.length false) st ff ⟨⟩) (k:K ff):Draw P T m l st K t:= .inr ⟨ff,WPany.mono (fun s e=>by subst e;exact Weak.refl m s) _ _ _ h,k⟩
def AW (P:Program) (T:Tab) (m:Nat) (l:List Oper) (n:Nat) (listed:Array Bool) (st ff:St) (_:cu l):Prop:=WPany P T (List.toArray l) n listed st (fun s=>Weak m s ff)
theorem Draw.weak (ff:St) {l:List Oper} {t:cu _} (h:AW P T m l l.length (Array.replicate l.length false) st ff ⟨⟩) (k:K ff):Draw P T m l st K t:= .inr ⟨ff,h,k⟩
theorem AW.done {l:List Oper} {n:Nat} {listed:Array Bool} {ff:St} {t:cu _} (h:Region.ready .any (List.toArray l) listed=[]) (k:Weak m st ff):AW P T m l n listed st ff t:=by
 cases n with
 | zero=>exact⟨h,k⟩
 | succ n=>exact⟨fun _=>k,fun i hi=>by rw[h] at hi;cases hi⟩
theorem AW.step (rs:List Nat) {l:List Oper} {n:Nat} {listed:Array Bool} {ff:St} {t:cu _} (h:Region.ready .any (List.toArray l) listed=rs) (h0:rs≠[])
 (k: ∀ i∈rs,∃ o,l[i]?=some o/\o.guard=none/\W1 P T o.op st (fun v H=>AW P T m l n (listed.setIfInBounds i true) ⟨mQ st.env o.dst v,H⟩ ff ⟨⟩) ⟨⟩):AW P T m l (n+1) listed st ff t:=by
 refine⟨fun e=>absurd (h.symm.trans e) h0,fun i hi=>?_⟩
 rw[h] at hi
 obtain⟨o,ho,hg,hw⟩:=k i hi
 rw[List.getElem?_toArray,ho]
 exact⟨hg,hw⟩
theorem AN.nil {l:List Oper} {n:Nat} {listed:Array Bool} {ff:St} {t:cu _} (h:Region.ready .any (List.toArray l) listed=[]) (k:st=ff):AN P T l n listed st ff t:=by
 cases n with
 | zero=>exact⟨h,k⟩
 | succ n=>exact⟨fun _=>k,fun i hi=>by rw[h] at hi;cases hi⟩
theorem AN.step (rs:List Nat) {l:List Oper} {n:Nat} {listed:Array Bool} {ff:St} {t:cu _} (h:Region.ready .any (List.toArray l) listed=rs) (h0:rs≠[])
 (k: ∀ i∈rs,∃ o,l[i]?=some o/\o.guard=none/\W1 P T o.op st (fun v H=>AN P T l n (listed.setIfInBounds i true) ⟨mQ st.env o.dst v,H⟩ ff ⟨⟩) ⟨⟩):AN P T l (n+1) listed st ff t:=by
 refine⟨fun e=>absurd (h.symm.trans e) h0,fun i hi=>?_⟩
 rw[h] at hi
 obtain⟨o,ho,hg,hw⟩:=k i hi
 rw[List.getElem?_toArray,ho]
 exact⟨hg,hw⟩
def DY {α:Type} (m:Nat) (f:α->St) (μ:α->Nat) (G:α->Prop) (a:α) (Q:KQ) (_:cu Q) (e:AExit) (st:St):Prop:=match e with | .normal=> ∃ a',μ a'<μ a/\Weak m st (f a')/\G a' | e=>Q e st
theorem Bs {α:Type} {f:α->St} {μ:α->Nat} {G:α->Prop} {a:α} {i:Nat} {t:cu _} {u:cu _}:Ap (DY m f μ G a Q t) (.exit i) st u=Ap Q (.exit i) st ⟨⟩:=rfl
theorem DZ {α:Type} {f:α->St} {μ:α->Nat} {G:α->Prop} {a:α} {t:cu _} {u:cu _}:Ap (DY m f μ G a Q t) .ret st u=Ap Q .ret st ⟨⟩:=rfl
theorem ap {α:Type} {f:α->St} {μ:α->Nat} {G:α->Prop} {a:α} {t:cu _} {u:cu _} (a':α) (h1:μ a'<μ a) (h2:Weak m st (f a')) (h3:G a'):Ap (DY m f μ G a Q t) .normal st u:=⟨a',h1,h2,h3⟩
theorem wl {α:Type} (f:α->St) (μ:α->Nat) (G:α->Prop) {x:Code} {t:cu _} (a0:α) (hw:Weak m st (f a0)) (hg:G a0)
 (hr: ∀ a,G a->WA P T m x (f a) (DY m f μ G a Q ⟨⟩) ⟨⟩):WA P T m (.loop x) st Q t:=by
 refine⟨fun n st=> ∃ a,n=μ a/\st=f a/\G a,⟨μ a0,f a0,hw,a0,rfl,rfl,hg⟩,?_⟩
 rintro n K6 ⟨a,rfl,rfl,hga⟩
 refine WPA.mono x (fun e ff h=>?_) (hr a hga)
 cases e with
 | normal=>obtain⟨a',h1,h2,h3⟩:=h;exact⟨μ a',f a',h1,h2,a',rfl,rfl,h3⟩
 | exit i=>exact h
 | ret=>exact h
def NT (R:St->Prop) (Q:KQ) (_:cu (R,Q)) (e:AExit) (st:St):Prop:=match e with | .normal=>R st | e=>Q e st
theorem yx {R:St->Prop} {t:cu (R,Q)} {u:cu _}:Ap (NT R Q t) .normal st u=R st:=rfl
theorem D0 {R:St->Prop} {i:Nat} {t:cu (R,Q)} {u:cu _}:Ap (NT R Q t) (.exit i) st u=Ap Q (.exit i) st ⟨⟩:=rfl
theorem FP {R:St->Prop} {t:cu (R,Q)} {u:cu _}:Ap (NT R Q t) .ret st u=Ap Q .ret st ⟨⟩:=rfl
def Mid {α:Type} (f:α->St) (G:α->Prop) (st:St):Prop:= ∃ a,st=f a/\G a
theorem Mid.mk {α:Type} {f:α->St} {G:α->Prop} {st:St} (a:α) (h:st=f a) (g:G a):Mid f G st:=⟨a,h,g⟩
theorem WA.cut {α:Type} (f:α->St) (G:α->Prop) {x y:Code} {t:cu _} (h1:WA P T m x st (NT (Mid f G) Q ⟨⟩) ⟨⟩) (h2: ∀ a,G a->WA P T m y (f a) Q ⟨⟩):WA P T m (.seq x y) st Q t:=
 WPA.cut (Mid f G) (WPA.mono x (fun e st h=>by cases e<;>exact h) h1) (fun st' ⟨a,hs,hg⟩=>by subst hs;exact h2 a hg)
theorem WA.assoc {x y z:Code} {t:cu _} (h:WA P T m (.seq (.seq x y) z) st Q ⟨⟩):WA P T m (.seq x (.seq y z)) st Q t:=by
 show WPA P T m (.seq x (.seq y z)) st Q;have h:WPA P T m (.seq (.seq x y) z) st Q:=h;unfold WPA at h ⊢;unfold WPA at h;refine WPA.mono x (fun e st' he=>?_) h;cases e with
 | normal=>exact he
 | exit i=>exact he
 | ret=>exact he
theorem VI {all:List Oper} {t:cu _}:WO P T all [] st K t=K st:=rfl
theorem Rm {all:List Oper} {d:Option Nat} {op:Op} {ty:TypeId} {pos:String} {af:Array Edge} {rest:List Oper} {t:cu _}:
 WO P T all ({dst:=d,op:=op,type:=ty,pos:=pos,after:=af,guard:=none}::rest) ⟨env,H⟩ K t=W1 P T op ⟨env,H⟩ (fun v H'=>WO P T all rest ⟨mQ env d v,H'⟩ K ⟨⟩) ⟨⟩:=rfl
theorem Rn {l:List Oper} {d:Option Nat} {op:Op} {ty:TypeId} {pos:String} {af:Array Edge} {rest:List Oper} {j:Nat} {want:Bool} {t:cu _}:
 WO P T l ({dst:=d,op:=op,type:=ty,pos:=pos,after:=af,guard:=some (j,want)}::rest) ⟨env,H⟩ K t=
  oh (qH l j env ⟨⟩) want (W1 P T op ⟨env,H⟩ (fun v H'=>WO P T l rest ⟨mQ env d v,H'⟩ K ⟨⟩) ⟨⟩) (WO P T l rest ⟨mQ env d (.tup []),H⟩ K ⟨⟩) ⟨⟩:=by
 unfold WO
 rw[WPops.eq_def]
 simp only[List.getElem?_toArray,Bp,qH]
 cases DU l j with
 | none=>rfl
 | some t=>
  simp only[VF,St.get,oh];generalize env.getD t .any=v;split
  .rfl
  .rfl
  rename_i h1 h2;split
  .exact absurd rfl (h1 _)
  .exact absurd rfl h2
  rfl
def uu (H H':List Ob):Prop:= ∃ obs,H'=H++obs
theorem FQ:uu H H=True:=by simp only[eq_iff_iff,iff_true];exact⟨[],by simp⟩
theorem Bt {l:List Ob}:uu H (H++l)=True:=by simp only[eq_iff_iff,iff_true];exact⟨l,rfl⟩
theorem J6:uu [] H=True:=by simp only[eq_iff_iff,iff_true];exact⟨H,rfl⟩
theorem FT {o:Ob} {H':List Ob}:uu (o::H) (o::H')=uu H H':=by simp[uu]
def dK (s:Bool) (H H':List Ob) (p:Prop) (_:cu p):Prop:=(s=true\/uu H H')/\p
theorem NU {H':List Ob} {p:Prop} {t:cu p}:dK true H H' p t=p:=by simp[dK]
theorem Ro {H':List Ob} {p:Prop} {t:cu p}:dK false H H' p t=(uu H H'/\p):=by simp[dK]
theorem toL {l:List Operand}:(List.toArray l).toList=l:=rfl
theorem VJ {all:List Oper} {t:cu _}:WD P T all [] st K t=K st:=rfl
theorem Rp {all:List Oper} {d:Option Nat} {op:Op} {ty:TypeId} {pos:String} {af:Array Edge} {rest:List Oper} {t:cu _}:
 WD P T all ({dst:=d,op:=op,type:=ty,pos:=pos,after:=af,guard:=none}::rest) ⟨env,H⟩ K t=W1 P T op ⟨env,H⟩ (fun v H'=>dK (aY op) H H' (WD P T all rest ⟨mQ env d v,H'⟩ K ⟨⟩) ⟨⟩) ⟨⟩:=rfl
theorem Rq {l:List Oper} {d:Option Nat} {op:Op} {ty:TypeId} {pos:String} {af:Array Edge} {rest:List Oper} {j:Nat} {want:Bool} {t:cu _}:
 WD P T l ({dst:=d,op:=op,type:=ty,pos:=pos,after:=af,guard:=some (j,want)}::rest) ⟨env,H⟩ K t=
  oh (qH l j env ⟨⟩) want (W1 P T op ⟨env,H⟩ (fun v H'=>dK (aY op) H H' (WD P T l rest ⟨mQ env d v,H'⟩ K ⟨⟩) ⟨⟩) ⟨⟩) (WD P T l rest ⟨mQ env d (.tup []),H⟩ K ⟨⟩) ⟨⟩:=by
 unfold WD
 rw[WPdraw.eq_def]
 simp only[List.getElem?_toArray,Bp,qH]
 cases DU l j with
 | none=>rfl
 | some t=>
  simp only[VF,St.get,oh];generalize env.getD t .any=v;split
  .rfl
  .rfl
  rename_i h1 h2;split
  .exact absurd rfl (h1 _)
  .exact absurd rfl h2
  rfl
theorem NV {c:Prop} {v:PV} {t:cu _}:qU (some ⟨c,v,H⟩) K2 t=(c/\K2 v H):=rfl
theorem NW {v:PV} {t:cu _}:qU (Res.pure H v) K2 t=K2 v H:=by simp[qU,after,Res.pure]
theorem VK {c:Prop} {v:PV} {t:cu _}:qU (Res.if c H v) K2 t=(c/\K2 v H):=rfl
theorem VL {t:Nat}:ev env (.tmp t)=env.getD t .any:=rfl
theorem NX {v:Value}:ev env (.const v)=PV.ofValue v:=rfl
theorem Rr {f:FuncId}:ev env (.func f)= .fv (.lit (.func (.func f) #[] #[])):=rfl
theorem VM {k:IntKind} {n:Int}:PV.ofValue (.int k n)= .fv (.lit (.int k n)):=rfl
theorem Rs {b:Bool}:PV.ofValue (.bool b)= .fv (.lit (.bool b)):=rfl
theorem VN:PV.ofValue (.slice none 0 0)= .nilsl:=rfl
theorem FU:PV.ofValue .nilFunc= .fv (.lit .nilFunc):=rfl
theorem J7:PV.ofValue (.pointer none)= .fv (.lit (.pointer none)):=rfl
def NY (H:List Ob) (c a b:PV):Option Res:=match c with | .fv (.lit (.bool t))=>Res.pure H (if t then a else b) | _=>none
theorem Rt {x:Operand} {u:cu _}:W1 P T (.move x) ⟨env,H⟩ K2 u=K2 (ev env x) H:=by simp[W1,WPop,aP,Res.pure]
theorem J8 {x:Operand} {u:cu _}:W1 P T (.assign x) ⟨env,H⟩ K2 u=K2 (ev env x) H:=by simp[W1,WPop,aP,Res.pure]
theorem Ru {c a b:Operand} {u:cu _}:W1 P T (.pick c a b) ⟨env,H⟩ K2 u=qU (NY H (ev env c) (ev env a) (ev env b)) K2 ⟨⟩:=rfl
theorem FW {t:Bool} {a b:PV}:NY H (.fv (.lit (.bool t))) a b=Res.pure H (if t then a else b):=rfl
def FX (H:List Ob) (i:Option TyI):Option Res:=match i with | some i=>some ⟨True,.ptr H.length 0 0,H++[.box true i.zero]⟩ | none=>none
theorem NZ {t:TypeId} {u:cu _}:W1 P T (.alloc t) ⟨env,H⟩ K2 u=qU (FX H (T.at t)) K2 ⟨⟩:=rfl
def VO (H:List Ob) (i:Option TyI) (x:PV):Option Res:=match i with | some i=>some ⟨x.cells.length=i.size/\0<i.size,.ptr H.length 0 0,H++[.box true x.cells]⟩ | none=>none
theorem VP {t:TypeId} {x:Operand} {u:cu _}:W1 P T (.box t x) ⟨env,H⟩ K2 u=qU (VO H (T.at t) (ev env x)) K2 ⟨⟩:=rfl
def FY (H:List Ob) (i:Option TyI) (parts:List (Nat×PV)):Option Res:=match i with
 | some i=>match i.d with
  | .st fs=>match kd (fun j=>(fs[j]?).map fun f=>(f.off,f.size)) i.zero parts with
   | some cs=>Res.pure H (.agg cs)
   | none=>none
  | _=>none
 | none=>none
theorem N0 {t:TypeId} {l:List (Nat×Operand)} {u:cu _}:W1 P T (.build t (List.toArray l)) ⟨env,H⟩ K2 u=qU (FY H (T.at t) (l.map fun(j,x)=>(j,ev env x))) K2 ⟨⟩:=rfl
def om (T:Tab) (H:List Ob) (i:Option TyI) (len:Nat) (parts:List (Nat×PV)):Option Res:=match i with
 | some i=>match i.d with
  | .sl e=>match T.at e with
   | some ie=>
    match kd (fun j=>some (j*ie.size,ie.size)) (replicate len ie.zero).flatten parts with
    | some cs=>match kc H cs with
     | some fs=>if len<1000/\0<ie.size/\ie.size<1000 then some ⟨True,.lsl H.length 0 len ie.size,ft H cs++[.row true (dr ie.size len fs)]⟩ else none
     | none=>none
    | none=>none
   | none=>none
  | _=>none
 | none=>none
theorem yy {t:TypeId} {n:Nat} {l:List (Nat×Operand)} {u:cu _}:W1 P T (.buildSlice t n (List.toArray l)) ⟨env,H⟩ K2 u=qU (om T H (T.at t) n (l.map fun(j,x)=>(j,ev env x))) K2 ⟨⟩:=rfl
def N1 (H:List Ob) (i:Option TyI) (a:PV):Option Res:=match i with
 | some i=>match a with
  | .ptr id j off=>match ee H id j off i.size with
   | some (cd,cs)=>match ig i cs with
    | some v=>Res.if cd H v
    | none=>none
   | none=>none
  | .fv (.fp cs)=>match ig i ((cs.take i.size).map .fv) with
   | some v=>Res.if (i.size<=cs.length) H v
   | none=>none
  | _=>none
 | none=>none
theorem Rv {t:TypeId} {a:Operand} {u:cu _}:W1 P T (.load t a) ⟨env,H⟩ K2 u=qU (N1 H (T.at t) (ev env a)) K2 ⟨⟩:=rfl
def xt (H:List Ob) (i:Option TyI):Option Res:=match i with
 | some i=>match i.d with
  | .mp n _=>some ⟨True,.tab H.length,H++[.tab n []]⟩
  | _=>none
 | none=>none
theorem FZ {t:TypeId} {u:cu _}:W1 P T (.makeMap t none) ⟨env,H⟩ K2 u=qU (xt H (T.at t)) K2 ⟨⟩:=rfl
def Bu (H:List Ob) (i:Option TyI) (m:PV) (ks:Option (List Int)) (ok:Bool):Option Res:=match i,m,ks with
 | some i,.tab id,some ks=>match i.d,H[id]? with
  | .mp n z,some (.tab n' es)=>if ks.length=n/\n'=n then Res.if (∀ x∈ks,-9223372036854775808<=x/\x<9223372036854775808) H (if ok then .tup [(dC es ks).getD z,.bool (dC es ks).isSome] else(dC es ks).getD z) else none
  | _,_=>none
 | _,_,_=>none
theorem J9 {t:TypeId} {m k:Operand} {ok:Bool} {u:cu _}:W1 P T (.lookup t m k ok) ⟨env,H⟩ K2 u=qU (Bu H (T.at t) (ev env m) (i5 (ev env k)) ok) K2 ⟨⟩:=rfl
def qI (H:List Ob) (i:Option TyI) (m:PV) (ks:Option (List Int)) (x:PV):Option Res:=match i,m,ks with
 | some i,.tab id,some ks=>match i.d,H[id]? with
  | .mp n _,some (.tab n' es)=>if ks.length=n/\n'=n/\still x=true then some ⟨∀ x∈ks,-9223372036854775808<=x/\x<9223372036854775808,.tup [],H.set id (.tab n (i6 es ks x))⟩ else none
  | _,_=>none
 | _,_,_=>none
theorem Bv {t:TypeId} {m k x:Operand} {u:cu _}:W1 P T (.mapUpdate t m k x) ⟨env,H⟩ K2 u=qU (qI H (T.at t) (ev env m) (i5 (ev env k)) (ev env x)) K2 ⟨⟩:=rfl
def F0 (H:List Ob) (i:Option TyI) (a x:PV):Option Res:=match i with
 | some i=>match a with
  | .ptr id j off=>match storeAt H id j off x.cells with
   | some (cd,H')=>some ⟨cd/\x.cells.length=i.size/\0<i.size,.tup [],H'⟩
   | none=>none
  | _=>none
 | none=>none
theorem N2 {t:TypeId} {a x:Operand} {u:cu _}:W1 P T (.store t a x) ⟨env,H⟩ K2 u=qU (F0 H (T.at t) (ev env a) (ev env x)) K2 ⟨⟩:=rfl
def VQ (H:List Ob) (x:PV):Option Res:=match x with
 | .ptr id j off=>Res.pure H (.ptr id j off)
 | .fv (.fp cs)=>Res.pure H (.fv (.fp cs))
 | _=>none
theorem D1 {x:Operand} {u:cu _}:W1 P T (.nilCheck x) ⟨env,H⟩ K2 u=qU (VQ H (ev env x)) K2 ⟨⟩:=rfl
def N3 (H:List Ob) (sl:Bool) (o q:Option Bool):Option Res:=match o with | some b=>if sl then Res.pure H (.bool b) else none | none=>match q with | some b=>Res.pure H (.bool b) | none=>none
def Rx (H:List Ob) (o:Option (Prop×Value)) (q:Option Res) (_:cu q):Option Res:=match o with | some (c,v)=>Res.if c H (.lit v) | none=>q
theorem J_ {c:Prop} {v:Value} {q:Option Res} {u:cu q}:Rx H (some (c,v)) q u=Res.if c H (.lit v):=rfl
theorem J' {q:Option Res} {u:cu q}:Rx H none q u=q:=rfl
theorem N4 {op:BinOp} {t t2:TypeId} {x y:Operand} {u:cu _}:W1 P T (.binOp op t x y t2) ⟨env,H⟩ K2 u=qU (Rx H (EM (T.isBool t) op (ev env x) (ev env y)) (N3 H (T.isSl t) (La op (ev env x) (ev env y)) (IC (T.arN t) op (i5 (ev env x)) (i5 (ev env y)))) ⟨⟩) K2 ⟨⟩:=rfl
def rUn (H:List Ob) (o:Option Value):Option Res:=match o with | some v=>Res.pure H (.lit v) | none=>none
theorem Ry {op:UnOp} {t:TypeId} {x:Operand} {u:cu _}:W1 P T (.unOp op t x) ⟨env,H⟩ K2 u=qU (rUn H (Yh op (ev env x))) K2 ⟨⟩:=rfl
def N5 (H:List Ob) (a b:Option TyI) (x:PV):Option Res:=match a,b,x with
 | some i,some j,.fv (.lit (.int _ n))=>match i.d,j.d with
  | .int _,.int k=>Res.pure H (.int k (k.wrap n))
  | _,_=>none
 | _,_,_=>none
theorem F1 {a b:TypeId} {x:Operand} {u:cu _}:W1 P T (.convert a b x) ⟨env,H⟩ K2 u=qU (N5 H (T.at a) (T.at b) (ev env x)) K2 ⟨⟩:=rfl
def N6 (T:Tab) (H:List Ob) (i:Option TyI) (l c:PV):Option Res:=match i,l,c with
 | some i,.fv (.lit (.int _ n)),.fv (.lit (.int _ m))=>match i.d with
  | .sl e=>match T.at e with
   | some ie=>if vH ie.zero then some ⟨0<=n/\n=m/\m*ie.bytes<=140737488355328/\m<=140737488355328,.lsl H.length 0 n.toNat 1,H++[.box true (replicate n.toNat .nilsl)]⟩ else
    match kc H ie.zero with
    | some z=>if z.length=ie.size/\0<ie.size then some ⟨0<=n/\n<=m/\m*ie.bytes<=140737488355328/\m<=140737488355328,.lsl H.length 0 n.toNat ie.size,H++[.row true (replicate n.toNat z)]⟩ else none
    | none=>none
   | none=>none
  | _=>none
 | _,_,_=>none
theorem Bw {t:TypeId} {l c:Operand} {u:cu _}:W1 P T (.makeSlice t l c) ⟨env,H⟩ K2 u=qU (N6 T H (T.at t) (ev env l) (ev env c)) K2 ⟨⟩:=rfl
def xu (T:Tab) (H:List Ob) (i:Option TyI) (x:PV) (lo hi mx:Option PV):Option Res:=match i with
 | some i=>match i.d,mx with
  | .sl e,none=>match T.at e,x with
   | some ie,.lsl id off len s=>if s=ie.size then(match cS lo 0,cS hi len with
    | some (c1,l),some (c2,h)=>Res.if (c1/\c2/\l<=h/\h<=room H id off len lo hi) H (.lsl id (off+l) (h - l) s)
    | _,_=>none) else none
   | some ie,.fv (.sl xs)=>match cS lo 0,cS hi xs.length with
    | some (c1,l),some (c2,h)=>Res.if (c1/\c2/\l<=h/\h<=xs.length/\ ∀ y∈xs,y.length=ie.size) H (.fv (.sl ((xs.drop l).take (h - l))))
    | _,_=>none
   | some ie,.clip xs=>match cS lo 0,cS hi xs.length with
    | some (c1,l),some (c2,h)=>Res.if (c1/\c2/\l<=h/\h<=xs.length/\ ∀ y∈xs,y.length=ie.size) H (.fv (.sl ((xs.drop l).take (h - l))))
    | _,_=>none
   | _,_=>none
  | .sl e,some mv=>match T.at e,ma x,cS lo 0,XB hi,mv.asInt with
   | some _,some len,some (c1,l),some h,some m=>Res.if (c1/\0<=h/\h<=m/\l<=h.toNat/\m<=len) H (GI lo h m)
   | _,_,_,_,_=>none
  | .arr n e,_=>match T.at e,x,cS lo 0,cS hi n,cS mx n with
   | some ie,.ptr id j off,some (c1,l),some (c2,h),some (c3,m)=>
    match H[id]? with
    | some (.box _ cs)=>match kc H ((cs.drop off).take (n*ie.size)) with
     | some fs=>if j=0/\0<ie.size/\0<n/\(mx.isSome=true->hi.isSome=true) then some ⟨c1/\c2/\c3/\l<=h/\h<=m/\m<=n/\off+n*ie.size<=cs.length,if m=h then .clip (((dr ie.size n fs).drop l).take (h - l)) else .fv (.sl (((dr ie.size n fs).drop l).take (h - l))),shutIds (id::((cs.drop off).take (n*ie.size)).flatMap eu) H⟩ else none
     | none=>none
    | _=>none
   | _,_,_,_,_=>none
  | _,_=>none
 | none=>none
theorem N7 {t:TypeId} {x:Operand} {lo hi mx:Option Operand} {u:cu _}:W1 P T (.slice t x lo hi mx) ⟨env,H⟩ K2 u=qU (xu T H (T.at t) (ev env x) (lo.map (ev env)) (hi.map (ev env)) (mx.map (ev env))) K2 ⟨⟩:=by
 unfold W1 qU;rw[H_ (by simp)];simp only[aP,xu];cases T.at t with
 | none=>rfl
 | some i=>
  dsimp only;cases i.d<;>cases mx<;>cases hi<;>rfl
def qJ (H:List Ob) (i:Option TyI) (x:PV) (f:Nat):Option Res:=match i with
 | some i=>match i.d with
  | .st fs=>match fs[f]?,x with
   | some fd,.ptr id j o=>Res.pure H (.ptr id j (o+fd.off))
   | some fd,.fv (.fp cs)=>Res.if (fd.off+fd.size<=cs.length) H (.fv (.fp (cs.drop fd.off)))
   | _,_=>none
  | _=>none
 | none=>none
theorem Bx {t:TypeId} {x:Operand} {f:Nat} {u:cu _}:W1 P T (.fieldAddr t x f) ⟨env,H⟩ K2 u=qU (qJ H (T.at t) (ev env x) f) K2 ⟨⟩:=rfl
def F2 (H:List Ob) (i:Option TyI) (x:PV) (f:Nat):Option Res:=match i with
 | some i=>match i.d with
  | .st fs=>match fs[f]?,x with
   | some fd,.agg cs=>if fd.agg then Res.if (fd.off+fd.size<=cs.length) H (.agg ((cs.drop fd.off).take fd.size)) else
    if fd.size=1 then Res.if (fd.off<cs.length) H (cs.getD fd.off .any) else none
   | _,_=>none
  | _=>none
 | none=>none
theorem N8 {t:TypeId} {x:Operand} {f:Nat} {u:cu _}:W1 P T (.field t x f) ⟨env,H⟩ K2 u=qU (F2 H (T.at t) (ev env x) f) K2 ⟨⟩:=rfl
def qK (T:Tab) (H:List Ob) (i:Option TyI) (x:PV) (ix:Option Int):Option Res:=match i,ix with
 | some i,some n=>match i.d with
  | .sl e=>match T.at e,x with
   | some ie,.lsl id off len s=>if s=ie.size then Res.if (0<=n/\n<len) H (B1 s (H[id]?) id (off+n.toNat)) else none
   | some ie,.fv (.sl xs)=>Res.if (0<=n/\n<xs.length/\(xs.getD n.toNat []).length=ie.size/\0<ie.size) H (.fv (.fp (xs.getD n.toNat [])))
   | some ie,.clip xs=>Res.if (0<=n/\n<xs.length/\(xs.getD n.toNat []).length=ie.size/\0<ie.size) H (.fv (.fp (xs.getD n.toNat [])))
   | _,_=>none
  | .arr k e=>match T.at e,x with
   | some ie,.ptr id j off=>if 1<k then Res.if (0<=n/\n<k) H (.ptr id j (off+n.toNat*ie.size)) else none
   | some ie,.fv (.fp cs)=>if 1<k then Res.if (0<=n/\n<k/\n.toNat*ie.size+ie.size<=cs.length/\0<ie.size) H (.fv (.fp (cs.drop (n.toNat*ie.size)))) else none
   | _,_=>none
  | _=>none
 | _,_=>none
theorem Bz {t:TypeId} {x ix:Operand} {u:cu _}:W1 P T (.indexAddr t x ix) ⟨env,H⟩ K2 u=qU (qK T H (T.at t) (ev env x) (ev env ix).asInt) K2 ⟨⟩:=rfl
def F3 (T:Tab) (H:List Ob) (i:Option TyI) (x:PV) (ix:Option Int):Option Res:=match i,ix with
 | some i,some n=>match i.d with
  | .arr k e=>match T.at e,x with
   | some ie,.agg cs=>match ig ie ((cs.drop (n.toNat*ie.size)).take ie.size) with
    | some v=>Res.if (0<=n/\n<k/\n.toNat*ie.size+ie.size<=cs.length) H v
    | none=>none
   | _,_=>none
  | .str=>match x with
   | .fv (.lit (.string s))=>Res.if (0<=n/\n<(s.size:Int)) H (.int .u8 ((s[n.toNat]?).getD 0).toNat)
   | _=>none
  | _=>none
 | _,_=>none
theorem N9 {t:TypeId} {x ix:Operand} {u:cu _}:W1 P T (.index t x ix) ⟨env,H⟩ K2 u=qU (F3 T H (T.at t) (ev env x) (ev env ix).asInt) K2 ⟨⟩:=rfl
def xv (H:List Ob) (x:PV) (ix:Nat):Option Res:=match x with
 | .tup vs=>match vs[ix]? with
  | some v=>Res.pure H v
  | none=>none
 | _=>none
theorem F4 {x:Operand} {ix:Nat} {u:cu _}:W1 P T (.extract x ix) ⟨env,H⟩ K2 u=qU (xv H (ev env x) ix) K2 ⟨⟩:=rfl
def tx (H:List Ob) (fn:Fn) (first captured:List PV):Option Res:=match pQ H first,pQ H captured with
 | some c1,some c2=>some ⟨True,.fv (.fn fn c1 c2),shutIds ((first++captured).flatMap (j7 H)) H⟩
 | _,_=>match tL first,captured with
  | some vs,[]=>some ⟨True,.fv (.lit (.func fn (List.toArray vs) #[])),H⟩
  | _,_=>none
theorem D2 {fn:Fn} {l1 l2:List Operand} {u:cu _}:W1 P T (.makeFunc fn (List.toArray l1) (List.toArray l2)) ⟨env,H⟩ K2 u=qU (tx H fn (l1.map (ev env)) (l2.map (ev env))) K2 ⟨⟩:=rfl
theorem Rz {x:Operand} {t:TypeId} {u:cu _}:W1 P T (.call {callee:= .builtin .len,args:=List.toArray [x],argTypes:=List.toArray [t]}) ⟨env,H⟩ K2 u=qU (fK T H .len [t] [ev env x]) K2 ⟨⟩:=rfl
theorem abf {b:Builtin} {x y:Operand} {t t':TypeId} {u:cu _}:W1 P T (.call {callee:= .builtin b,args:=List.toArray [x,y],argTypes:=List.toArray [t,t']}) ⟨env,H⟩ K2 u=qU (fK T H b [t,t'] [ev env x,ev env y]) K2 ⟨⟩:=rfl
def abg (H:List Ob) (i:Option TyI) (v:PV):Option Res:=match i with
 | some i=>match i.d with
  | .sl _=>match lenOf v with | some n=>Res.pure H (.int .i64 n) | none=>none
  | .arr n _=>Res.pure H (.int .i64 n)
  | .str=>match v with | .fv (.lit (.string s))=>Res.pure H (.int .i64 s.size) | _=>none
  | _=>none
 | none=>none
theorem F5 {t:TypeId} {v:PV}:fK T H .len [t] [v]=abg H (T.at t) v:=rfl
def Ia (T:Tab) (H:List Ob) (i:Option TyI) (s x:PV):Option Res:=match i with
 | some i=>match i.d with
  | .sl e=>match T.at e with
   | some ie=>if 0<ie.size then(match ir H ie.size x with
    | some (cd,ys)=>match s with
     | .nilsl=>some ⟨cd/\ys.length*ie.bytes<=140737488355328/\ys.length<=140737488355328,.lsl H.length 0 ys.length ie.size,H++[.row true ys]⟩
     | .clip xs=>if Dk x then some ⟨True,.clip xs,H⟩ else some ⟨cd/\0<ys.length/\(∀ y∈xs,y.length=ie.size)/\(xs.length+ys.length)*ie.bytes<=140737488355328/\xs.length+ys.length<=140737488355328,.lsl H.length 0 (xs.length+ys.length) ie.size,H++[.row true (xs++ys)]⟩
     | .lsl id 0 len s=>match H[id]? with
      | some (.row true xs)=>if s=ie.size then if HX id x then some ⟨cd/\len+ys.length<=xs.length,.lsl id 0 (len+ys.length) ie.size,H.set id (.row true (xs.take len++ys++xs.drop (len+ys.length)))⟩ else some ⟨cd/\len<=xs.length/\(len+ys.length)*ie.bytes<=140737488355328/\len+ys.length<=140737488355328,.lsl H.length 0 (len+ys.length) ie.size,H.set id .dead++[.row true (xs.take len++ys)]⟩ else none
      | _=>none
     | _=>none
    | none=>none) else none
   | none=>none
  | _=>none
 | none=>none
theorem BA {t:TypeId} {s x:PV}:fK T H .append [t,t] [s,x]=Ia T H (T.at t) s x:=by
 show(if t=t then _ else none)=_;rw[if_pos rfl];rfl
theorem Ka {x:Operand} {t:TypeId} {u:cu _}:W1 P T (.call {callee:= .builtin .clear,args:=List.toArray [x],argTypes:=List.toArray [t]}) ⟨env,H⟩ K2 u=qU (fK T H .clear [t] [ev env x]) K2 ⟨⟩:=rfl
def N_ (T:Tab) (H:List Ob) (i:Option TyI) (x:PV):Option Res:=match i with
 | some i=>match i.d with
  | .sl e=>match T.at e with
   | some ie=>match x with
    | .lsl id off len s=>match H[id]? with
     | some (.row true xs)=>if s=ie.size then some ⟨off+len<=xs.length,.tup [],H.set id (.row true (xs.take off))⟩ else none
     | _=>none
    | _=>none
   | none=>none
  | _=>none
 | none=>none
theorem D3 {t:TypeId} {x:PV}:fK T H .clear [t] [x]=N_ T H (T.at t) x:=rfl
def abh (H:List Ob) (o:Option (IntKind×Int×Int)):Option Res:=match o with | some (k,a,b)=>Res.pure H (.int k (if b>a then b else a)) | none=>none
def abi (H:List Ob) (o:Option (IntKind×Int×Int)):Option Res:=match o with | some (k,a,b)=>Res.pure H (.int k (if b<a then b else a)) | none=>none
theorem Kb {t t':TypeId} {x y:PV}:fK T H .max [t,t'] [x,y]=abh H (mH x y):=rfl
theorem Kd {t t':TypeId} {x y:PV}:fK T H .min [t,t'] [x,y]=abi H (mH x y):=rfl
def GoCall (P:Program) (st:St) (f:Option (FuncId×List PV×List PV)) (args:List PV) (K:PV->List Ob->Prop) (_:cu K):Prop:=match f with
 | some (k,pre,post)=> ∃ v H',CallRel P st.heap k (pre++args++post) v H'/\K v H'
 | none=>False
theorem N' {f:Operand} {l:List Operand} {ts:Array TypeId} {u:cu _}:W1 P T (.call {callee:= .value f,args:=List.toArray l,argTypes:=ts}) ⟨env,H⟩ K2 u=GoCall P ⟨env,H⟩ (A5 (ev env f)) (l.map (ev env)) K2 ⟨⟩:=rfl
theorem Ke {k:FuncId}:A5 (.fv (.lit (.func (.func k) #[] #[])))=some (k,[],[]):=rfl
theorem Kf {k:FuncId} {v:Value}:A5 (.fv (.lit (.func (.func k) #[v] #[])))=some (k,[PV.ofValue v],[]):=rfl
theorem RA {b:Bool}:PV.ofValue (.agg #[.bool b])= .agg [.fv (.lit (.bool b))]:=rfl
theorem RB {n:Int}:PV.ofValue (.agg #[.int .i64 n])= .agg [.fv (.lit (.int .i64 n))]:=rfl
theorem RD {k:FuncId} {a b:List FV}:A5 (.fv (.fn (.func k) a b))=some (k,a.map .fv,b.map .fv):=rfl
theorem gp {k:FuncId} {pre post args:List PV} {args':List PV} {obs:List Ob} {res:PV} {t:cu _} (hd:Den P k [] args' obs res) (hf:bH H (pre++args++post)=some args')
 (hk:K2 (reloc (H.length+ ·) res) (shutAs H (pre++args++post)++obs.map (relocOb (H.length+ ·)))):GoCall P ⟨env,H⟩ (some (k,pre,post)) args K2 t:=⟨_,_,.pure _ _ _ hf hd,hk⟩
theorem sa (id:Nat) {k:FuncId} {pre post args:List PV} {args':List PV} {ob ob':Ob} {obs:List Ob} {res:PV} {t:cu _} (hd:Den P k [ob] args' (ob'::obs) res) (ho:H[id]?=some ob) (hrw:ob.rw=true) (hc:ob.closed)
 (hr:(pre++args++post).any (PV.refsTo id)=true) (hf:te H id (pre++args++post)=some args') (hs:(shutBs H id (pre++args++post))[id]?=some ob)
 (hk:K2 (reloc (lent id H.length) res) ((shutBs H id (pre++args++post)).set id (relocOb (lent id H.length) ob')++obs.map (relocOb (lent id H.length)))):GoCall P ⟨env,H⟩ (some (k,pre,post)) args K2 t:=
 ⟨_,_,.lend id _ _ _ _ _ ho hrw hc hr hf hs hd,hk⟩
end
end Go.AM
