/- The abstract machine:code,and the way from a weakest precondition to a contract. -/
import Derived.Test.YtjjbkjgifdhlcaaGreatT6
import Derived.Scope
import Derived.Test.YtjjbkjgifdhlcaaGreatT1
open List (replicate)
namespace Go.AM
def t_ (H:List Ob) (keep:List Nat):PV->Option PV
 | .ptr id i off=>match keep.idxOf? id with
  | some j=>some (.ptr j i off)
  | none=>(fS H (.ptr id i off)).map .fv
 | .lsl id off len s=>match keep.idxOf? id with
  | some j=>some (.lsl j off len s)
  | none=>(fS H (.lsl id off len s)).map .fv
 | v=>(fS H v).map .fv
def tK (H:List Ob) (keep:List Nat):List PV->Option (List PV)
 | []=>some []
 | v::vs=>match t_ H keep v,tK H keep vs with | some x,some xs=>some (x::xs) | _,_=>none
def zc (H:List Ob) (keep:List Nat):PV->Option PV
 | .agg cs=>(tK H keep cs).map .agg
 | v=>t_ H keep v
def zd (H:List Ob) (keep:List Nat):List PV->Option (List PV)
 | []=>some []
 | v::vs=>match zc H keep v,zd H keep vs with | some x,some xs=>some (x::xs) | _,_=>none
def tL (H:List Ob) (keep:List Nat):PV->Option PV
 | .tup vs=>(zd H keep vs).map .tup
 | v=>zc H keep v
def ze (H:List Ob) (keep:List Nat):PV->List Nat
 | .ptr id i off=>if keep.idxOf? id=none then me H (.ptr id i off) else []
 | .lsl id off len s=>if keep.idxOf? id=none then me H (.lsl id off len s) else []
 | v=>me H v
def zg (H:List Ob) (keep:List Nat):PV->List Nat
 | .agg cs=>cs.flatMap (ze H keep)
 | v=>ze H keep v
def sn (H:List Ob) (keep:List Nat):PV->List Nat
 | .tup vs=>vs.flatMap (zg H keep)
 | v=>zg H keep v
def zh (T:Tab) (st:St):ResultVar->Option (Prop×PV)
 | .tmp t=>some (True,st.get t)
 | .cell a t=>match T.at t,st.get a with
  | some i,.ptr id j off=>match fP st.heap id j off i.size with
   | some (cd,cs)=>match jf i cs with
    | some v=>some (cd,v)
    | none=>none
   | none=>none
  | _,_=>none
def gQ (T:Tab) (st:St):List ResultVar->Option (Prop×List PV)
 | []=>some (True,[])
 | r::rs=>match zh T st r,gQ T st rs with
  | some (c1,v),some (c2,vs)=>some (c1/\c2,v::vs)
  | _,_=>none
def cM:List PV->PV
 | [v]=>v
 | vs=> .tup vs
def RetOK (T:Tab) (rs:List ResultVar) (m:Nat) (st:St) (H1:List Ob) (res:PV):Prop:=
 ∃ cd vs keep,gQ T st rs=some (cd,vs)/\cd/\keep.Nodup/\(∀ i,i<m->keep[i]?=some i)/\tL st.heap keep (cM vs)=some res/\
  H1.length=keep.length/\(∀ (j id:Nat),keep[j]?=some id->(shutIds (sn st.heap keep (cM vs)) st.heap)[id]?=H1[j]?)/\ ∀ o∈H1,o.closed/\o.rw=true
section
variable {P:Program} {T:Tab}
theorem HRd.world {c:gD} {w w':World} {X:Nat->Prop} {ρ:Places} {H:List Ob} (h:HRd c w X ρ H) (hw:w'.heap=w.heap):HRd c w' X ρ H:=by
 have hs:Same X w w':=⟨by rw[hw];exact qp _,fun b _ _=>by rw[hw]⟩;refine⟨h.len,fun id p o hp ho=>(h.ob id p o hp ho).keep hs (fun _ _ h=>h) (Places.Le.refl ρ) (fun _ g _ _=>⟨by rw[hw],Iff.rfl⟩),h.inj,fun id p o g hp ho hr hg=>by rw[hw];exact h.own id p o g hp ho hr hg,h.xo,
  fun b hb=>by rw[hw];exact h.xlt b hb,by rw[hw];exact h.ge,h.base⟩
theorem SRd.drew {c:gD} {st:St} {a:Act} {w:World} (h:SRd c st a w):SRd c st a {w with drawn:=w.drawn+1}:=by
 obtain⟨X,ρ,hh,he,hd,hk⟩:=h;refine⟨X,ρ,hh.world rfl,⟨he.1,fun i v x hv hx=>(he.2 i v x hv hx).mono ⟨qp _,fun _ _ _=>rfl⟩ (fun _ _ h=>h) (Places.Le.refl ρ)⟩,hd,⟨⟨hk.os,hk.tape,hk.output,hk.size,hk.block⟩,gI hk.drawn (Nat.le_succ _)⟩⟩
theorem SRd.shut {c:gD} {st:St} {a:Act} {w:World} (h:SRd c st a w) (ids:List Nat):SRd c {st with heap:=shutIds ids st.heap} a w:=by
 obtain⟨X,ρ,hh,he,hd,hk⟩:=h;obtain⟨X',v7,hs,_⟩:=hh.shutIds ids;exact⟨X',ρ,v7,he.stp (c:=c) (Stp.same_world hs),hd,hk⟩
theorem M_ {cd:Code} {Q:Exit->Act->World->Prop} (J:Nat->Act->World->Prop) {n:Nat} {a:Act} {w:World} (h₀:J n a w)
 (round: ∀ n a w,J n a w->cd.wp P (Exit.then (fun a' w'=> ∃ m,m<n/\J m a' w') Q) a w):(Code.loop cd).wp P Q a w:=by
 intro b k cs
 have key: ∀ n a w,J n a w-> ∃ e a' w',Q e a' w'/\Arrives P (lone (b.at a (.code cd:: .inLoop cd::k)) cs w) b k cs e a' w':=by
  intro n
  induction n using Nat.strongRecOn with
  | _ n ih=>
   intro a w hI;obtain⟨e,a₁,w₁,hq,He⟩:=round n a w hI b (.inLoop cd::k) cs;cases e with
   | normal=>
    obtain⟨m,aH,hI₁⟩:=hq;obtain⟨e₂,a₂,w₂,hq₂,af1⟩:=ih m aH a₁ w₁ hI₁;exact⟨e₂,a₂,w₂,hq₂,.of_steps (Steps.trans He (.one step_inLoop)) af1⟩
   | exit id=>exact⟨_,a₁,w₁,hq,.pass (x:= .inLoop cd) rfl (fun _ _=> .inl (by simp)) He⟩
   | goto l=>exact⟨_,a₁,w₁,hq,.pass (x:= .inLoop cd) rfl (fun _ _=> .inl (by simp)) He⟩
   | ret=>exact⟨_,a₁,w₁,hq,.pass (x:= .inLoop cd) rfl (fun _ _=> .inl (by simp)) He⟩
   | panic ch=>exact⟨_,a₁,w₁,hq,.pass (x:= .inLoop cd) rfl (fun _ _=> .inl (by simp)) He⟩
   | outgrown=>exact⟨_,a₁,w₁,hq,.pass (x:= .inLoop cd) rfl (fun _ _=> .inl (by simp)) He⟩
 obtain⟨e,a',w',hq,He⟩:=key n a w h₀
 exact⟨e,a',w',hq,.of_steps (.one step_loop) He⟩
def AExit.conv:AExit->Exit
 | .normal=> .normal
 | .exit id=> .exit id
 | .ret=> .ret
theorem fJ (hT:cx P T) (hm:P.follows .mixedOrders=true) {m:Nat} {c:gD} (lB:c.base.length<=m): ∀ (cd:Code) {st:St} {Q:AExit->St->Prop} {a:Act} {w:World} {Q':Exit->Act->World->Prop},WPA P T m cd st Q->SRd c st a w->
 (∀ e st' a' w',Q e st'->SRd c st' a' w'->Q' e.conv a' w')->cd.wp P Q' a w
 | .skip,st,Q,a,w,Q',h,hs,hq=>wp_skip (hq .normal st a w h hs)
 | .label _,st,Q,a,w,Q',h,hs,hq=>wp_label (hq .normal st a w h hs)
 | .exit id,st,Q,a,w,Q',h,hs,hq=>wp_exit (hq (.exit id) st a w h hs)
 | .ret,st,Q,a,w,Q',h,hs,hq=>wp_ret (hq .ret st a w h hs)
 | .seq x y,st,Q,a,w,Q',h,hs,hq=>by
  refine wp_seq (fJ hT hm lB x h hs (fun e st' a' w' he vv=>?_));cases e with
  | normal=>exact fJ hT hm lB y he vv hq
  | exit id=>exact hq (.exit id) st' a' w' he vv
  | ret=>exact hq .ret st' a' w' he vv
 | .cond o x y,st,Q,a,w,Q',h,hs,hq=>by
  simp only[WPA] at h;split at h
  .rename_i b hb;obtain⟨X,ρ,hh,he,hd,hk⟩:=hs;have hv:=qI he o;rw[hb] at hv;refine wp_cond hv.litInv ?_;cases b with
   | true=>exact fJ hT hm lB x (h.1 rfl) ⟨X,ρ,hh,he,hd,hk⟩ hq
   | false=>exact fJ hT hm lB y (h.2 rfl) ⟨X,ρ,hh,he,hd,hk⟩ hq
  .exact h.elim
 | .block id x,st,Q,a,w,Q',h,hs,hq=>by
  refine wp_block (fJ hT hm lB x h hs (fun e st' a' w' he vv=>?_));cases e with
  | normal=>exact hq .normal st' a' w' he vv
  | exit i=>
   simp only at he;simp only[AExit.conv,Exit.inBlock];split
   .rename_i hi;rw[if_pos hi] at he;exact hq .normal st' a' w' he vv
   .rename_i hi;rw[if_neg hi] at he;exact hq (.exit i) st' a' w' he vv
  | ret=>exact hq .ret st' a' w' he vv
 | .loop x,st,Q,a,w,Q',h,hs,hq=>by
  obtain⟨I,⟨n,Ot,hw,hi⟩,aau⟩:=h;refine M_ (fun n a w=> ∃ st,I n st/\SRd c st a w) (n:=n) ⟨Ot,hi,hw c a w lB hs⟩ (fun n a w ⟨vq,oI,qX⟩=>?_);refine fJ hT hm lB x (aau n vq oI) qX (fun e st' a' w' he vv=>?_);cases e with
  | normal=>
   obtain⟨m,Xy,aH,NA,iq⟩:=he;exact⟨m,aH,Xy,iq,NA c a' w' lB vv⟩
  | exit id=>exact hq (.exit id) st' a' w' he vv
  | ret=>exact hq .ret st' a' w' he vv
 | .region _ ops draw,st,Q,a,w,Q',h,hs,hq=>by
  simp only[WPA] at h;cases draw with
  | false=>
   simp only[Bool.false_eq_true,if_false] at h;refine wp_region ?_;have:=pA hT (Q:=Q') (c:=c) (K:=Q .normal) (fun st a w hk hs=>hq .normal st a w hk hs) ops.toList 0 st a w (by simp) h hs;rw[Array.length_toList] at this;rwa [List.range_eq_range']
  | true=>
   simp only[if_true] at h;rcases h with⟨bg,ids,sh,h⟩ | ⟨vq,h,h1⟩
   .exact wp_region_any hm (IK hT bg h (fun st a w hk hs=>hq .normal st a w hk hs) (hs.shut ids).drew)
   .exact wp_region_any hm (Cd hT (K:=fun s=>s=vq) (fun st a w hk hs=>by subst hk;exact hq .normal st a w h1 hs) _ _ _ _ _ h hs.drew)
 | .rangeFunc ..,_,_,_,_,_,h,_,_=>h.elim
 | .scope x,st,Q,a,w,Q',h,hs,hq=>wp_scope_straight (fJ hT hm lB x h hs (fun e st' a' w' he vv=>by
  cases e with
  | normal=>exact hq .normal st' a' w' he vv
  | exit i=>exact hq (.exit i) st' a' w' he vv
  | ret=>exact hq .ret st' a' w' he vv))
 | .goto _,_,_,_,_,_,h,_,_=>h.elim
 | .refuse _,_,_,_,_,_,h,_,_=>h.elim
end
end Go.AM
namespace Go.AM
section
variable {P:Program} {T:Tab}
theorem Ui (hT:cx P T) {t:TypeId} {i:TyI} (hi:T.at t=some i) {c:gD} {w:World} {X:Nat->Prop} {ρ:Places} {F:List Ob} (h:HRd c w X ρ F) {id j off:Nat} {u0:Value} (hx:PRd w X ρ u0 (.ptr id j off))
 {cd:Prop} {cs:List PV} (eR:fP F id j off i.size=some (cd,cs)) (hc:cd) {v:PV} (df:jf i cs=some v):
 ∃ ad u,u0= .pointer (some ad)/\(loadVar t ad).run P w= .ok u w/\PRd w X ρ u v:=by
 cases hx with
 | ptr _ _ _ g p hp hg=>
  unfold fP at eR;split at eR
  .rename_i rw xs fU;simp only[qo,Prod.mk.injEq] at eR;obtain⟨rfl,rfl⟩:=eR;obtain⟨lD,N5⟩:=hc;obtain⟨⟨dj,aD,us,gS,hcell⟩,_⟩:=h.ob id p _ hp fU;have hgj:xs[j]?=some (xs.getD j []):=by simp[lD]
   have fF:World.ownsRow w 0 p.e p.size (.slice (some ⟨g,0,none⟩) xs.length p.cap) xs.length us:=by simpa [Place.val,hg] using gS
   have oT:(((xs.getD j []).drop off).take i.size).length=i.size:=by simp only[qf,qt];omega
   have cg: ∀ (k:Nat) y,((((xs.getD j []).drop off).take i.size).map PV.fv)[k]?=some y-> ∃ z u,y= .fv z/\us[j*p.size+(off+k)]?=some u/\FRd w X u z:=by
    intro k y hy;rw[List.getElem?_map,Option.map_eq_some_iff] at hy;obtain⟨z,hz,rfl⟩:=hy;rw[List.getElem?_take] at hz;split at hz
    .rw[List.getElem?_drop] at hz;obtain⟨u,hu,um⟩:=hcell j (off+k) _ z hgj hz;exact⟨z,u,rfl,hu,um⟩
    cases hz
   obtain⟨u,cT,hrd⟩:=tI hT hi (w:=w) (X:=X) (ρ:=ρ) (ad:=⟨g,j*p.size+off,none⟩) rfl (us:=fun k=>us.getD (j*p.size+(off+k)) undef) (by simpa using oT)
    (fun k y hy=>by
     obtain⟨z,u,_,hu,_⟩:=cg k y hy;have:=fF.cells (g:=g) rfl _ u hu;rw[iJ,Nat.zero_add] at this;simp only[qa,hu,Option.getD_some,Nat.add_assoc];exact this)
    (fun k y hy=>by
     obtain⟨z,u,_,hu,um⟩:=cg k y hy;simp only[qa,hu,Option.getD_some];exact um.one)
    (fun k y hy=>by
     obtain⟨z,u,rfl,hu,um⟩:=cg k y hy;simp only[qa,hu,Option.getD_some];exact .fv _ _ um) df
   exact⟨_,u,rfl,cT,hrd⟩
  .rename_i rw bs fU;simp only[qo,Prod.mk.injEq] at eR;obtain⟨rfl,rfl⟩:=eR;obtain⟨rfl,N5⟩:=hc;obtain⟨⟨g',us,jE,hh,dX,h1,hcell⟩,_⟩:=h.ob id p _ hp fU;rw[hg] at jE;cases jE;have oT:((bs.drop off).take i.size).length=i.size:=by simp only[qf,qt];omega
   have cg: ∀ (k:Nat) y,((bs.drop off).take i.size)[k]?=some y-> ∃ u,us[off+k]?=some u/\PRd w X ρ u y:=by
    intro k y hy;rw[List.getElem?_take] at hy;split at hy
    .rw[List.getElem?_drop] at hy;have aH:off+k<us.size:=by rw[dX];exact(List.getElem?_eq_some_iff.1 hy).1
     exact⟨us[off+k],Array.getElem?_eq_getElem aH,hcell _ _ _ (Array.getElem?_eq_getElem aH) hy⟩
    cases hy
   obtain⟨u,cT,hrd⟩:=tI hT hi (w:=w) (X:=X) (ρ:=ρ) (ad:=⟨g,0*p.size+off,none⟩) rfl (us:=fun k=>us.getD (off+k) undef) oT
    (fun k y hy=>by
     obtain⟨u,hu,_⟩:=cg k y hy;rw[cell_of_row w g _ us _ _ hh];simp only[Nat.zero_mul,Nat.zero_add,Array.getD_eq_getD_getElem?,hu,Option.getD_some])
    (fun k y hy=>by
     obtain⟨u,hu,_⟩:=cg k y hy;simp only[Array.getD_eq_getD_getElem?,hu,Option.getD_some];exact h1 _ _ hu)
    (fun k y hy=>by
     obtain⟨u,hu,um⟩:=cg k y hy;simp only[Array.getD_eq_getD_getElem?,hu,Option.getD_some];exact um) df
   exact⟨_,u,rfl,cT,hrd⟩
  cases eR
def tM (tmps:Array Value):ResultVar->Sem Value
 | .tmp t=>pure (tmps.getD t undef)
 | .cell a t=>do loadVar t (<-asAddr (tmps.getD a undef))
theorem Uj (hT:cx P T) {c:gD} {w:World} {X:Nat->Prop} {ρ:Places} {st:St} {tmps:Array Value} (h:HRd c w X ρ st.heap) (he:EnvRd w X ρ tmps st.env) {r:ResultVar} {cd:Prop} {v:PV}
 (hr:zh T st r=some (cd,v)) (hc:cd): ∃ u,(tM tmps r).run P w= .ok u w/\PRd w X ρ u v:=by
 have hev:=fun t=>qI (a:={tmps,defers:=[]}) he (.tmp t)
 simp only[Act.eval,ev] at hev
 cases r with
 | tmp t=>
  simp only[zh,qo,Prod.mk.injEq] at hr;obtain⟨rfl,rfl⟩:=hr;exact⟨_,rfl,hev t⟩
 | cell a t=>
  simp only[zh] at hr;split at hr
  .rename_i i id j off hi hv;split at hr
   .rename_i cd' cs eR;split at hr
    .rename_i v' df;simp only[qo,Prod.mk.injEq] at hr;obtain⟨rfl,rfl⟩:=hr;have ha:=hev a;unfold St.get at hv;rw[hv] at ha;obtain⟨ad,u,hu,cT,hrd⟩:=Ui hT hi h ha eR hc df;refine⟨u,?_,hrd⟩;simp only[tM,hu,asAddr,Sem.run_bind,Sem.run_pure,Result.andThen_ok,cT]
    cases hr
   cases hr
  cases hr
theorem Lg (hT:cx P T) {c:gD} {w:World} {X:Nat->Prop} {ρ:Places} {st:St} {tmps:Array Value} (h:HRd c w X ρ st.heap) (he:EnvRd w X ρ tmps st.env):
 ∀ (rs:List ResultVar) (cd:Prop) (vs:List PV),gQ T st rs=some (cd,vs)->cd-> ∃ us:List Value,(rs.mapM (tM tmps)).run P w= .ok us w/\us.length=vs.length/\ ∀ (i:Nat) u v,us[i]?=some u->vs[i]?=some v->PRd w X ρ u v
 | [],cd,vs,hr,_=>by
  simp only[gQ,qo,Prod.mk.injEq] at hr;obtain⟨rfl,rfl⟩:=hr;exact⟨[],rfl,rfl,by simp⟩
 | r::rs,cd,vs,hr,hc=>by
  simp only[gQ] at hr;split at hr
  .rename_i c1 v c2 vs' h1 h2;simp only[qo,Prod.mk.injEq] at hr;obtain⟨rfl,rfl⟩:=hr;obtain⟨u,hu,hur⟩:=Uj hT h he h1 hc.1;obtain⟨us,gS,hl,zN⟩:=Lg hT h he rs c2 vs' h2 hc.2;refine⟨u::us,by simp[List.mapM_cons,hu,gS],by simp[hl],fun i u' v' hi hv=>?_⟩;cases i with
   | zero=>simp at hi hv;subst hi;subst hv;exact hur
   | succ i=>simp at hi hv;exact zN i u' v' hi hv
  cases hr
theorem pC (hT:cx P T) {fn:Func} {c:gD} {w:World} {X:Nat->Prop} {ρ:Places} {st:St} {tmps:Array Value} (h:HRd c w X ρ st.heap) (he:EnvRd w X ρ tmps st.env) {cd:Prop} {vs:List PV}
 (hr:gQ T st fn.results.toList=some (cd,vs)) (hc:cd): ∃ u,(results fn tmps).run P w= .ok u w/\PRd w X ρ u (cM vs):=by
 obtain⟨us,gS,hl,zN⟩:=Lg hT h he _ cd vs hr hc
 have e:results fn tmps=(do let vs<-fn.results.mapM (tM tmps);pure (if h:vs.size=1 then vs[0] else .tuple vs)):=by
  unfold results;congr 1
 have ZC:(fn.results.mapM (tM tmps)).run P w= .ok us.toArray w:=by
  rw[Array.mapM_eq_mapM_toList];simp[gS]
 rw[e]
 simp only[Sem.run_bind,ZC,Result.andThen_ok,Sem.run_pure]
 by_cases h1:us.length=1
 .match us,vs,h1,hl,zN with
  | [u],[v],_,_,zN=>exact⟨u,by simp,zN 0 u v rfl rfl⟩
 refine⟨.tuple us.toArray,by simp[h1],?_⟩
 have:cM vs= .tup vs:=by
  unfold cM;split
  .rename_i v;simp at hl;exact absurd hl h1
  rfl
 rw[this]
 refine .tup _ _ (by simpa using hl) (fun i u v hu hv=>zN i u v (by simpa using hu) hv)
theorem Q1 {c:gD} {w:World} {X X':Nat->Prop} {ρ ρ':Places} {H:List Ob} {keep:List Nat} (h:HRd c w X ρ H) {u:Value} {x y:PV} (hv:PRd w X ρ u x) (hf:t_ H keep x=some y) (hX: ∀ b,X' b->X b)
 (hn: ∀ id∈ze H keep x,∀ p o g,ρ[id]?=some (some p)->H[id]?=some o->o.alive->p.b=some g-> ¬X' g) (hρ: ∀ (id j:Nat) p,keep.idxOf? id=some j->ρ[id]?=some (some p)->ρ'[j]?=some (some p)):PRd w X' ρ' u y:=by
 have plain: ∀ z,fS H x=some z->(∀ id∈me H x,∀ p o g,ρ[id]?=some (some p)->H[id]?=some o->o.alive->p.b=some g-> ¬X' g)->PRd w X' ρ' u (.fv z):=
  fun z hz hn=> .fv _ _ (Df h (fun _ _ h=>h) hv hz hX hn)
 cases x with
 | ptr id i off=>
  simp only[t_] at hf;split at hf
  .rename_i j hj;cases hf;cases hv with
   | ptr _ _ _ g p hp hg=>exact .ptr j i off g p (hρ id j p hj hp) hg
  .rename_i hj;rw[Option.map_eq_some_iff] at hf;obtain⟨z,hz,rfl⟩:=hf;exact plain z hz (fun k hk=>hn k (by simp only[ze,hj,if_true];exact hk))
 | lsl id off len s=>
  simp only[t_] at hf;split at hf
  .rename_i j hj;cases hf;obtain⟨p,hp,md,⟨hg,rfl,rfl,rfl⟩ | ⟨g,og,hg,rfl,hl,iU⟩⟩:=hv.lslInv
   .subst md;exact .lsl0 j p (hρ id j p hj hp) hg
   subst md;exact .lsl j off len og g p (hρ id j p hj hp) hg hl iU
  .rename_i hj;rw[Option.map_eq_some_iff] at hf;obtain⟨z,hz,rfl⟩:=hf;exact plain z hz (fun k hk=>hn k (by simp only[ze,hj,if_true];exact hk))
 | any=>simp[t_,fS,fB] at hf
 | agg _=>simp[t_,fS,fB] at hf
 | tup _=>simp[t_,fS,fB] at hf
 | tab _=>simp[t_,fS,fB] at hf
 | fv z=>
  simp only[t_,Option.map_eq_some_iff] at hf;obtain⟨z,hz,rfl⟩:=hf;exact plain z hz (fun k hk=>hn k hk)
 | nilsl=>
  simp only[t_,Option.map_eq_some_iff] at hf;obtain⟨z,hz,rfl⟩:=hf;exact plain z hz (fun k hk=>hn k hk)
 | clip xs=>
  simp only[t_,Option.map_eq_some_iff] at hf;obtain⟨z,hz,rfl⟩:=hf;exact plain z hz (fun k hk=>hn k hk)
theorem Gz {H:List Ob} {keep:List Nat}: ∀ {xs ys:List PV},tK H keep xs=some ys->ys.length=xs.length/\ ∀ (i:Nat) y,ys[i]?=some y-> ∃ x,xs[i]?=some x/\t_ H keep x=some y
 | [],ys,h=>by simp[tK] at h;subst h;simp
 | x::xs,ys,h=>by
  simp only[tK] at h;split at h
  .rename_i y ys' h1 h2;cases h;obtain⟨hl,hg⟩:=Gz h2;refine⟨by simp[hl],fun i z hz=>?_⟩;cases i with
   | zero=>simp at hz;subst hz;exact⟨x,rfl,h1⟩
   | succ i=>simp at hz ⊢;exact hg i z hz
  cases h
theorem GA {H:List Ob} {keep:List Nat}: ∀ {xs ys:List PV},zd H keep xs=some ys->ys.length=xs.length/\ ∀ (i:Nat) y,ys[i]?=some y-> ∃ x,xs[i]?=some x/\zc H keep x=some y
 | [],ys,h=>by simp[zd] at h;subst h;simp
 | x::xs,ys,h=>by
  simp only[zd] at h;split at h
  .rename_i y ys' h1 h2;cases h;obtain⟨hl,hg⟩:=GA h2;refine⟨by simp[hl],fun i z hz=>?_⟩;cases i with
   | zero=>simp at hz;subst hz;exact⟨x,rfl,h1⟩
   | succ i=>simp at hz ⊢;exact hg i z hz
  cases h
theorem Q2 {c:gD} {w:World} {X X':Nat->Prop} {ρ ρ':Places} {H:List Ob} {keep:List Nat} (h:HRd c w X ρ H) {u:Value} {x y:PV} (hv:PRd w X ρ u x) (hf:zc H keep x=some y) (hX: ∀ b,X' b->X b)
 (hn: ∀ id∈zg H keep x,∀ p o g,ρ[id]?=some (some p)->H[id]?=some o->o.alive->p.b=some g-> ¬X' g) (hρ: ∀ (id j:Nat) p,keep.idxOf? id=some j->ρ[id]?=some (some p)->ρ'[j]?=some (some p)):PRd w X' ρ' u y:=by
 by_cases j7: ∃ cs,x= .agg cs
 .obtain⟨cs,rfl⟩:=j7
  simp only[zc,Option.map_eq_some_iff] at hf
  obtain⟨ys,Ea,rfl⟩:=hf
  obtain⟨hl,hg⟩:=Gz Ea
  cases hv with
  | agg us _ dX h1 hr=>
   refine .agg us ys (by rw[hl];exact dX) h1 (fun i u' y hu hy=>?_);obtain⟨x,hx,LD⟩:=hg i y hy;refine Q1 h (hr i u' x hu hx) LD hX (fun k hk=>hn k ?_) hρ;simp only[zg,List.mem_flatMap];exact⟨x,List.mem_of_getElem? hx,hk⟩
 have e1:zc H keep x=t_ H keep x:=by
  unfold zc;split
  .exact absurd ⟨_,rfl⟩ j7
  rfl
 have e2:zg H keep x=ze H keep x:=by
  unfold zg;split
  .exact absurd ⟨_,rfl⟩ j7
  rfl
 rw[e1] at hf
 rw[e2] at hn
 exact Q1 h hv hf hX hn hρ
theorem Q3 {c:gD} {w:World} {X X':Nat->Prop} {ρ ρ':Places} {H:List Ob} {keep:List Nat} (h:HRd c w X ρ H) {u:Value} {x y:PV} (hv:PRd w X ρ u x) (hf:tL H keep x=some y) (hX: ∀ b,X' b->X b)
 (hn: ∀ id∈sn H keep x,∀ p o g,ρ[id]?=some (some p)->H[id]?=some o->o.alive->p.b=some g-> ¬X' g) (hρ: ∀ (id j:Nat) p,keep.idxOf? id=some j->ρ[id]?=some (some p)->ρ'[j]?=some (some p)):PRd w X' ρ' u y:=by
 by_cases aav: ∃ cs,x= .tup cs
 .obtain⟨cs,rfl⟩:=aav
  simp only[tL,Option.map_eq_some_iff] at hf
  obtain⟨ys,Ea,rfl⟩:=hf
  obtain⟨hl,hg⟩:=GA Ea
  cases hv with
  | tup us _ dX hr=>
   refine .tup us ys (by rw[hl];exact dX) (fun i u' y hu hy=>?_);obtain⟨x,hx,LD⟩:=hg i y hy;refine Q2 h (hr i u' x hu hx) LD hX (fun k hk=>hn k ?_) hρ;simp only[sn,List.mem_flatMap];exact⟨x,List.mem_of_getElem? hx,hk⟩
 have e1:tL H keep x=zc H keep x:=by
  unfold tL;split
  .exact absurd ⟨_,rfl⟩ aav
  rfl
 have e2:sn H keep x=zg H keep x:=by
  unfold sn;split
  .exact absurd ⟨_,rfl⟩ aav
  rfl
 rw[e1] at hf
 rw[e2] at hn
 exact Q2 h hv hf hX hn hρ
theorem IL (hT:cx P T) (hm:P.follows .mixedOrders=true) {k:FuncId} {fn:Func} {cd:Code} (hf:P.funcs[k]?=some fn) (hb:fn.body=some cd) (lj:(fn.name== "runtime.NumGoroutine")=false)
 {H0:List Ob} {args:List PV} {H1:List Ob} {res:PV}
 (h:WPA P T H0.length cd ⟨args++replicate (fn.ntmps - args.length) .any,H0⟩ fun e st=>match e with | .exit _=>False | _=>RetOK T fn.results.toList H0.length st H1 res):Den P k H0 args H1 res:=by
 refine⟨⟨fn,cd,hf,hb,lj⟩,fun c X ρ vs hh hM fA=>?_⟩
 refine calls_of_wp hf hb ?_
 let c2:gD:={c with base:=ρ}
 have hh2:HRd c2 c.w0 X ρ H0:=⟨hh.len,hh.ob,hh.inj,hh.own,hh.xo,hh.xlt,hh.ge,Places.Le.refl ρ⟩
 have hs:SRd c2 ⟨args++replicate (fn.ntmps - args.length) .any,H0⟩ {tmps:=vs++Array.replicate (fn.ntmps - vs.size) undef,defers:=[]} c.w0:=by
  refine⟨X,ρ,hh2,⟨by simp[fA.1],fun i v x hv hx=>?_⟩,rfl,Keeps.refl c2⟩;by_cases hi:i<vs.size
  .rw[Array.getElem?_append_left hi] at hv;rw[qi (by rw[<-fA.1];exact hi)] at hx;exact fA.2 i v x hv hx
  rw[qh (by rw[<-fA.1];omega),List.getElem?_replicate] at hx;split at hx
  .cases hx;exact .any _
  cases hx
 have fin: ∀ st' a' w',RetOK T fn.results.toList H0.length st' H1 res->SRd c2 st' a' w'->a'.defers=[]/\ ∃ v,(results fn a'.tmps).run P w'= .ok v w'/\ ∃ v2 X' ρ',Ending.returned v= .returned v2/\Keeps c w'/\HRd c w' X' ρ' H1/\PRd w' X' ρ' v2 res/\
  ρ.Le ρ'/\(∀ (id:Nat) p,ρ.length<=id->ρ'[id]?=some (some p)-> ∀ g,p.b=some g->c.w0.heap.size<=g):=by
  intro st' a' w' Si ⟨X',ρ',h',N_,hd',w6⟩
  obtain⟨cd',vs',keep,ak,kK,mb,kL,hfz,aD,akE,fC⟩:=Si
  obtain⟨u,cT,hu⟩:=pC hT h' N_ ak kK
  obtain⟨X1,h1,qX,kJ⟩:=h'.shutIds (sn st'.heap keep (cM vs'))
  have oE: ∀ (j id:Nat),keep[j]?=some id-> ∃ o,(shutIds (sn st'.heap keep (cM vs')) st'.heap)[id]?=some o/\H1[j]?=some o/\o.closed/\o.rw=true:=by
   intro j id hj;have lD:j<H1.length:=by rw[aD];exact(List.getElem?_eq_some_iff.1 hj).1
   have XG:=akE j id hj;have hg:H1[j]?=some H1[j]:=by simp[lD]
   rw[hg] at XG;exact⟨H1[j],XG,hg,fC _ (ki _)⟩
  have LK: ∀ i j id,keep[i]?=some id->keep[j]?=some id->i=j:=fun i j id hi hj=>by
   obtain⟨oI,iq⟩:=List.getElem?_eq_some_iff.1 hi;obtain⟨Ss,DW⟩:=List.getElem?_eq_some_iff.1 hj;exact(List.getElem_inj mb).1 (iq.trans DW.symm)
  let ρk:Places:=keep.map fun id=>(ρ'[id]?).getD none
  have hρk: ∀ (j id:Nat) p,keep[j]?=some id->ρk[j]?=some (some p)->ρ'[id]?=some (some p):=by
   intro j id p hj hp;simp only[ρk,List.getElem?_map,hj,Option.map_some,qo] at hp;cases hg:ρ'[id]? with
   | none=>rw[hg] at hp;cases hp
   | some q=>rw[hg] at hp;simp at hp;rw[hp]
  have akF: ∀ (id j:Nat) p,keep.idxOf? id=some j->ρ'[id]?=some (some p)->ρk[j]?=some (some p):=by
   intro id j p hj hp;have hkj:keep[j]?=some id:=by
    rw[List.idxOf?,List.findIdx?_eq_some_iff_getElem] at hj;obtain⟨lD,h2,_⟩:=hj;simp only[beq_iff_eq] at h2;simp[lD,h2]
   simp only[ρk,List.getElem?_map,hkj,Option.map_some,hp,Option.getD_some]
  have cg: ∀ (j:Nat) p,ρk[j]?=some (some p)-> ∃ id,keep[j]?=some id/\ρ'[id]?=some (some p):=by
   intro j p hp;have lD:j<keep.length:=by have:=(List.getElem?_eq_some_iff.1 hp).1;simpa [ρk] using this
   exact⟨keep[j],by simp[lD],hρk j _ p (by simp[lD]) hp⟩
  have dT:ρ.Le ρk:=by
   intro i p hp;have dW:i<H0.length:=by rw[<-hh.len];exact(List.getElem?_eq_some_iff.1 hp).1
   have:=h'.base i p hp;simp only[ρk,List.getElem?_map,kL i dW,Option.map_some,this,Option.getD_some]
  refine⟨hd',u,cT,u,X1,ρk,rfl,⟨⟨w6.os,w6.tape,w6.output,w6.size,w6.block⟩,w6.drawn⟩,⟨by simp[ρk,aD],?_,?_,?_,h1.xo,h1.xlt,h1.ge,hh.base.trans dT⟩,?_,dT,?_⟩
  .intro j p o hp ho
   obtain⟨id,hj,LL⟩:=cg j p hp
   obtain⟨o',h3,h4,h5,_⟩:=oE j id hj
   rw[ho] at h4;cases h4
   exact(h1.ob id p o LL h3).closed h5
  .intro i j p q o r g hp hq ho hr jx i_ dY eC
   obtain⟨id1,hi,LL⟩:=cg i p hp
   obtain⟨LM,hj,Xx⟩:=cg j q hq
   obtain⟨o',h3,h4,_,_⟩:=oE i id1 hi
   obtain⟨r',h5,h6,_,_⟩:=oE j LM hj
   rw[ho] at h4;cases h4
   rw[hr] at h6;cases h6
   have:=h1.inj id1 LM p q o r g LL Xx h3 h5 jx i_ dY eC
   subst this
   exact LK i j id1 hi hj
  .intro j p o g hp ho jx dY
   obtain⟨id,hj,LL⟩:=cg j p hp
   obtain⟨o',h3,h4,_,_⟩:=oE j id hj
   rw[ho] at h4;cases h4
   exact h1.own id p o g LL h3 jx dY
  .exact Q3 h' hu hfz qX kJ akF
  intro j p hjm hp g hg
  obtain⟨id,hj,LL⟩:=cg j p hp
  obtain⟨o,h3,h4,_,hrw⟩:=oE j id hj
  rcases(h1.own id p o g LL h3 hrw hg).1 with h5 | h5
  .exact h5
  exfalso
  obtain⟨LM,q,hq,hqg⟩:=hM g h5
  have dW:LM<H0.length:=by rw[<-hh.len];exact(List.getElem?_eq_some_iff.1 hq).1
  have Xx:=h'.base LM q hq
  obtain⟨o2,h6,_,_,Jy⟩:=oE LM LM (kL LM dW)
  have:=h1.inj id LM p q o o2 g LL Xx h3 h6 hrw Jy hg hqg
  subst this
  have:=LK j id id hj (kL id dW)
  rw[hh.len] at hjm
  omega
 refine fJ hT hm (m:=H0.length) (by show ρ.length<=_;rw[hh.len];exact qp _) cd h hs (fun e st' a' w' he vv=>?_)
 cases e with
 | normal=>exact fin st' a' w' he vv
 | ret=>exact fin st' a' w' he vv
 | exit id=>exact he.elim
end
end Go.AM
namespace Go.AM
theorem Weak.refl (m:Nat) (st:St):Weak m st st:=fun _ _ _ _ h=>h
theorem Weak.trans {m:Nat} {a b c:St} (h:Weak m a b) (k:Weak m b c):Weak m a c:=fun x y z hl hs=>k x y z hl (h x y z hl hs)
def cC (keep:List Nat):PV->PV->Prop
 | .fv x,.fv y=>x=y
 | .nilsl,.nilsl=>True
 | .nilsl,.fv (.sl [])=>True
 | .clip xs,.clip ys=>xs=ys
 | .clip xs,.fv (.sl ys)=>xs=ys
 | .ptr id i off,.ptr j i' off'=>keep[j]?=some id/\i=i'/\off=off'
 | .lsl id off len s,.lsl j off' len' s'=>keep[j]?=some id/\off=off'/\len=len'/\s=s'
 | .tup [],.tup []=>True
 | .tab id,.tab j=>keep[j]?=some id
 | _,.any=>True
 | _,_=>False
def dp (keep:List Nat):List PV->List PV->Prop
 | [],[]=>True
 | a::as,b::bs=>cC keep a b/\dp keep as bs
 | _,_=>False
def dV (keep:List Nat):PV->PV->Prop
 | .agg cs,.agg ds=>dp keep cs ds
 | a,b=>cC keep a b
def bk (keep:List Nat):List PV->List PV->Prop
 | [],[]=>True
 | a::as,b::bs=>dV keep a b/\bk keep as bs
 | _,_=>False
def fK (keep:List Nat):Ob->Ob->Prop
 | .row r xs,.row r' ys=>r=r'/\xs=ys
 | .box r cs,.box r' ds=>r=r'/\dp keep cs ds
 | .tab n es,.tab n' es'=>n=n'/\es=es'
 | _,.dead=>True
 | _,_=>False
def et (keep:List Nat) (H:List Ob):List Nat->List Ob->Prop
 | [],[]=>True
 | id::ids,o::os=>(match H[id]? with | some o'=>fK keep o' o | none=>False)/\et keep H ids os
 | _,_=>False
section
variable {w:World} {X:Nat->Prop} {ρ ρ':Places} {keep:List Nat}
theorem IM (hk: ∀ (j id:Nat),keep[j]?=some id->ρ'[j]?=ρ[id]?) {v:Value}: ∀ {x y:PV},cC keep x y->PRd w X ρ v x->PRd w X ρ' v y:=by
 intro x y h hv;unfold cC at h;split at h
 .subst h;cases hv;exact .fv _ _ ‹_›
 .cases hv;exact .nilsl
 .cases hv;exact .fv _ _ .nil
 .subst h;cases hv;exact .clip _ _ _ ‹_›
 .subst h;cases hv;exact .fv _ _ ‹_›
 .obtain⟨h1,rfl,rfl⟩:=h;cases hv with
  | ptr _ _ _ g p hp hg=>exact .ptr _ _ _ g p (by rw[hk _ _ h1];exact hp) hg
 .obtain⟨h1,rfl,rfl,rfl⟩:=h;cases hv with
  | lsl0 _ p hp hg=>exact .lsl0 _ p (by rw[hk _ _ h1];exact hp) hg
  | lsl _ _ _ o g p hp hg hl ho=>exact .lsl _ _ _ o g p (by rw[hk _ _ h1];exact hp) hg hl ho
 .cases hv with
  | tup us _ hn hr=>exact .tup us [] hn (by simp)
 .cases hv with
  | tab _ g p hp hg=>exact .tab _ g p (by rw[hk _ _ h];exact hp) hg
 .exact .any _
 exact h.elim
theorem zi: ∀ {as bs:List PV},dp keep as bs->as.length=bs.length/\ ∀ (i:Nat) a b,as[i]?=some a->bs[i]?=some b->cC keep a b
 | [],[],_=>⟨rfl,by simp⟩
 | a::as,b::bs,h=>by
  obtain⟨h1,h2⟩:=h;obtain⟨hl,hg⟩:=zi h2;refine⟨by simp[hl],fun i x y hx hy=>?_⟩;cases i with
  | zero=>simp at hx hy;subst hx;subst hy;exact h1
  | succ i=>exact hg i x y (by simpa using hx) (by simpa using hy)
 | [],_::_,h=>h.elim
 | _::_,[],h=>h.elim
theorem YL (hk: ∀ (j id:Nat),keep[j]?=some id->ρ'[j]?=ρ[id]?) {v:Value} {x y:PV} (h:dV keep x y) (hv:PRd w X ρ v x):PRd w X ρ' v y:=by
 unfold dV at h;split at h
 .obtain⟨hl,hg⟩:=zi h;cases hv with
  | agg us _ hn h1 hr=>
   refine .agg us _ (hn.trans hl) h1 (fun i u c hu hc=>?_);rename_i cs ds;have hi:i<cs.length:=by rw[hl];exact(List.getElem?_eq_some_iff.1 hc).1
   exact IM hk (hg i cs[i] c (by simp[hi]) hc) (hr i u cs[i] hu (by simp[hi]))
 exact IM hk h hv
theorem GB: ∀ {as bs:List PV},bk keep as bs->as.length=bs.length/\ ∀ (i:Nat) a b,as[i]?=some a->bs[i]?=some b->dV keep a b
 | [],[],_=>⟨rfl,by simp⟩
 | a::as,b::bs,h=>by
  obtain⟨h1,h2⟩:=h;obtain⟨hl,hg⟩:=GB h2;refine⟨by simp[hl],fun i x y hx hy=>?_⟩;cases i with
  | zero=>simp at hx hy;subst hx;subst hy;exact h1
  | succ i=>exact hg i x y (by simpa using hx) (by simpa using hy)
 | [],_::_,h=>h.elim
 | _::_,[],h=>h.elim
theorem YM (hk: ∀ (j id:Nat),keep[j]?=some id->ρ'[j]?=ρ[id]?) {p:Place} {o o':Ob} (h:fK keep o o') (ho:ObRd w X ρ p o):ObRd w X ρ' p o':=by
 unfold fK at h;split at h
 .obtain⟨rfl,rfl⟩:=h;exact ho
 .obtain⟨rfl,h⟩:=h;obtain⟨⟨g,us,hg,hb,dX,h1,hr⟩,hx⟩:=ho;obtain⟨hl,zH⟩:=zi h;refine⟨⟨g,us,hg,hb,dX.trans hl,h1,fun i u c hu hc=>?_⟩,hx⟩;rename_i cs ds;have hi:i<cs.length:=by rw[hl];exact(List.getElem?_eq_some_iff.1 hc).1
  exact IM hk (zH i cs[i] c (by simp[hi]) hc) (hr i u cs[i] hu (by simp[hi]))
 .obtain⟨rfl,rfl⟩:=h;exact ho
 .trivial
 exact h.elim
theorem IP {o o':Ob} (h:fK keep o o') (hr:o'.rw=true):o.rw=true:=by
 unfold fK at h;split at h
 .obtain⟨rfl,rfl⟩:=h;exact hr
 .obtain⟨rfl,h⟩:=h;exact hr
 .obtain⟨rfl,rfl⟩:=h;exact hr
 .cases hr
 exact h.elim
theorem Lh {H:List Ob}: ∀ {ids:List Nat} {os:List Ob},et keep H ids os->ids.length=os.length/\ ∀ (j:Nat) id o,ids[j]?=some id->os[j]?=some o-> ∃ o',H[id]?=some o'/\fK keep o' o
 | [],[],_=>⟨rfl,by simp⟩
 | a::as,b::bs,h=>by
  obtain⟨h1,h2⟩:=h;obtain⟨hl,hg⟩:=Lh h2;refine⟨by simp[hl],fun i x y hx hy=>?_⟩;cases i with
  | zero=>
   simp at hx hy;subst hx;subst hy;split at h1
   .exact⟨_,‹_›,h1⟩
   .exact h1.elim
  | succ i=>exact hg i x y (by simpa using hx) (by simpa using hy)
 | [],_::_,h=>h.elim
 | _::_,[],h=>h.elim
end
def vi (m:Nat) (keep:List Nat):Bool:=(List.range m).all fun i=>keep[i]?==some i
theorem IQ {m:Nat} {keep:List Nat} (h:vi m keep=true) {i:Nat} (hi:i<m):keep[i]?=some i:=by
 unfold vi at h;rw[pR] at h;simpa using h i (List.mem_range.2 hi)
theorem wk {m:Nat} {env env':List PV} {H H':List Ob} (keep:List Nat) (mb:keep.Nodup) (hm:vi m keep=true) (he:bk keep env env') (hh:et keep H keep H'):Weak m ⟨env,H⟩ ⟨env',H'⟩:=by
 intro c a w lB ⟨X,ρ,h,pQ,hd,VM⟩;obtain⟨hl,hg⟩:=Lh hh;let ρk:Places:=keep.map fun id=>(ρ[id]?).getD none
 have LK: ∀ i j id,keep[i]?=some id->keep[j]?=some id->i=j:=fun i j id hi hj=>by
  obtain⟨oI,iq⟩:=List.getElem?_eq_some_iff.1 hi;obtain⟨Ss,DW⟩:=List.getElem?_eq_some_iff.1 hj;exact(List.getElem_inj mb).1 (iq.trans DW.symm)
 have Hf: ∀ (j id:Nat),keep[j]?=some id-> ∃ o o',H'[j]?=some o/\H[id]?=some o'/\fK keep o' o:=by
  intro j id hj;have lD:j<H'.length:=by rw[<-hl];exact(List.getElem?_eq_some_iff.1 hj).1
  obtain⟨o',h1,h2⟩:=hg j id H'[j] hj (by simp[lD]);exact⟨H'[j],o',by simp[lD],h1,h2⟩
 have hk: ∀ (j id:Nat),keep[j]?=some id->ρk[j]?=ρ[id]?:=by
  intro j id hj;obtain⟨o,o',_,h2,_⟩:=Hf j id hj;have dk:id<ρ.length:=by rw[h.len];exact(List.getElem?_eq_some_iff.1 h2).1
  simp only[ρk,List.getElem?_map,hj,Option.map_some];simp[dk]
 have cg: ∀ (j:Nat) p,ρk[j]?=some (some p)-> ∃ id,keep[j]?=some id/\ρ[id]?=some (some p):=by
  intro j p hp;have lD:j<keep.length:=by have:=(List.getElem?_eq_some_iff.1 hp).1;simpa [ρk] using this
  have hj:keep[j]?=some keep[j]:=by simp[lD]
  exact⟨keep[j],hj,by rw[<-hk j _ hj];exact hp⟩
 refine⟨X,ρk,⟨by simp[ρk,hl],?_,?_,?_,h.xo,h.xlt,h.ge,?_⟩,?_,hd,VM⟩
 .intro j p o hp ho;obtain⟨id,hj,LL⟩:=cg j p hp;obtain⟨o1,o',h1,h2,h3⟩:=Hf j id hj;rw[ho] at h1;cases h1;exact YM hk h3 (h.ob id p o' LL h2)
 .intro i j p q o r g hp hq ho hr jx i_ dY eC;obtain⟨id1,hi,LL⟩:=cg i p hp;obtain⟨LM,hj,Xx⟩:=cg j q hq;obtain⟨_,o',h1,h2,h3⟩:=Hf i id1 hi;obtain⟨_,r',h4,h5,h6⟩:=Hf j LM hj;rw[ho] at h1;cases h1;rw[hr] at h4;cases h4;have:=h.inj id1 LM p q o' r' g LL Xx h2 h5 (IP h3 jx) (IP h6 i_) dY eC;subst this;exact LK i j id1 hi hj
 .intro j p o g hp ho jx dY;obtain⟨id,hj,LL⟩:=cg j p hp;obtain⟨_,o',h1,h2,h3⟩:=Hf j id hj;rw[ho] at h1;cases h1;exact h.own id p o' g LL h2 (IP h3 jx) dY
 .intro i p hp;have hi:i<m:=by have:=(List.getElem?_eq_some_iff.1 hp).1;omega
  rw[hk i i (IQ hm hi)];exact h.base i p hp
 obtain⟨dT,hlg⟩:=GB he;refine⟨pQ.1.trans dT,fun t v y hv hy=>?_⟩;have ht:t<env.length:=by rw[dT];exact(List.getElem?_eq_some_iff.1 hy).1
 exact YL hk (hlg t env[t] y (by simp[ht]) hy) (pQ.2 t v env[t] hv (by simp[ht]))
theorem PRd.nilInv {w:World} {X:Nat->Prop} {ρ:Places} {v:Value} (h:PRd w X ρ v .nilsl):v= .slice none 0 0:=by cases h;rfl
def after (r:Option Res) (K:PV->List Ob->Prop):Prop:=match r with | some r=>r.cond/\K r.val r.heap | none=>False
theorem after.mono {r:Option Res} {K K':PV->List Ob->Prop} (hk: ∀ v H,K v H->K' v H) (h:after r K):after r K':=by
 cases r with
 | none=>exact h
 | some r=>exact⟨h.1,hk _ _ h.2⟩
theorem Li {P:Program} {T:Tab} {o:Op} {st:St} {K:PV->List Ob->Prop} (ho: ∀ c,o≠ .call c):WPop P T o st K=after (cj T st.heap (ev st.env) o) K:=by
 cases o with
 | call c=>exact absurd rfl (ho c)
 | _=>rfl
theorem WPop.mono {P:Program} {T:Tab} {o:Op} {st:St} {K K':PV->List Ob->Prop} (hk: ∀ v H,K v H->K' v H) (h:WPop P T o st K):WPop P T o st K':=by
 by_cases ho: ∀ c,o≠ .call c
 .rw[Li ho] at h ⊢;exact h.mono hk
 have: ∃ c,o= .call c:=Classical.byContradiction fun hn=>ho fun c hc=>hn ⟨c,hc⟩
 obtain⟨c,rfl⟩:=this;simp only[WPop] at h ⊢;unfold WPcall at h ⊢;cases hc:c.callee with
 | builtin b=>rw[hc] at h;exact after.mono (r:=h_ T st.heap b c.argTypes.toList (c.args.toList.map (ev st.env))) hk h
 | value f=>
  rw[hc] at h;simp only at h ⊢;cases hf:F6 (ev st.env f) with
  | none=>rw[hf] at h;exact h
  | some r=>
   rw[hf] at h;obtain⟨v,H',h1,h2⟩:=h;exact⟨v,H',h1,hk _ _ h2⟩
 | invoke x y=>rw[hc] at h;exact h
theorem WPops.mono {P:Program} {T:Tab} {all:Array Oper} {K K':St->Prop} (hk: ∀ st,K st->K' st): ∀ (l:List Oper) {st:St},WPops P T all l st K->WPops P T all l st K'
 | [],st,h=>hk st h
 | o::rest,st,h=>by
  unfold WPops at h ⊢;split
  .rename_i hg;simp only[hg] at h;exact WPop.mono (fun v H h=>WPops.mono hk rest h) h
  rename_i j want hg;simp only[hg] at h;split
  .rename_i t ht;simp only[ht] at h;split
   .rename_i b hb;simp only[hb] at h;exact⟨fun e=>WPop.mono (fun v H h=>WPops.mono hk rest h) (h.1 e),fun e=>WPops.mono hk rest (h.2 e)⟩
   .rename_i hb;simp only[hb] at h;exact WPops.mono hk rest h
   rename_i h1 h2;split at h
   .exact absurd ‹_› (h1 _)
   .exact absurd ‹_› h2
   exact h
  rename_i ht;simp only[ht] at h
theorem WPdrawS.mono {P:Program} {T:Tab} {all:Array Oper} {K K':St->List (List Nat)->Prop} (hk: ∀ st tr,K st tr->K' st tr): ∀ (l:List Oper) {sh tr:List (List Nat)} {st:St},WPdrawS P T all l sh tr st K->WPdrawS P T all l sh tr st K'
 | [],sh,tr,st,h=>hk st tr h
 | o::rest,sh,tr,st,h=>by
  unfold WPdrawS at h ⊢;split
  .rename_i hg;simp only[hg] at h;exact WPop.mono (fun v H h=>⟨h.1,WPdrawS.mono hk rest h.2⟩) h
  rename_i j want hg;simp only[hg] at h;split
  .rename_i t ht;simp only[ht] at h;split
   .rename_i b hb;simp only[hb] at h;exact⟨fun e=>WPop.mono (fun v H h=>⟨h.1,WPdrawS.mono hk rest h.2⟩) (h.1 e),fun e=>WPdrawS.mono hk rest (h.2 e)⟩
   .rename_i hb;simp only[hb] at h;exact WPdrawS.mono hk rest h
   rename_i h1 h2;split at h
   .exact absurd ‹_› (h1 _)
   .exact absurd ‹_› h2
   exact h
  rename_i ht;simp only[ht] at h
theorem jZ {ops:Array Oper} (h:Dd ops=true):k9 ops=true/\ ∀ tr,De ops tr=true:=by
 have hc: ∀ x y:Oper,en ops x y=true->F9 ops x y=true:=fun x y h=>by
  unfold en at h;unfold F9;simp only[qsb,w8] at h ⊢;rcases h with((h | h) | h) | h
  .exact .inl (.inl (.inl h))
  .exact .inl (.inl (.inr h))
  .exact .inl (.inr h.1)
  exact .inr h.1
 have hd: ∀ x y:Oper,((isApp x.op&&isRead y.op)||(isRead x.op&&isApp y.op))=true->F9 ops x y=true:=fun x y h=>by
  have ra: ∀ {op:Op},isRead op=true->ck op=1/\iI op=false:=fun{op} h=>by cases op<;>first | exact⟨rfl,rfl⟩ | (cases h;done)
  have aa: ∀ {op:Op},isApp op=true->ck op=2:=fun{op} h=>by
   cases op with
   | call c=>simp only[isApp] at h;simp[ck,h]
   | _=>cases h
  rw[qsb,w8,w8] at h;unfold F9;rcases h with h | h
  .simp[ra h.2,aa h.1]
  simp[ra h.1,aa h.2]
 unfold Dd at h;rw[pR] at h;constructor
 .unfold k9;rw[pR];intro j hj;have h1:=h j hj;cases ho:ops[j]? with
  | none=>rw[ho] at h1;cases h1
  | some oj=>
   rw[ho] at h1;simp only[w8,pR] at h1 ⊢;refine⟨h1.1,fun i hi=>?_⟩;have h2:=h1.2 i hi;cases hoi:ops[i]? with
   | none=>rw[hoi] at h2;cases h2
   | some oi=>
    rw[hoi] at h2;simp only[qsb,Bool.not_eq_true'] at h2 ⊢;rcases h2 with h2 | h2
    .left;cases JF:en ops oi oj with
     | false=>rfl
     | true=>rw[hc _ _ JF] at h2;cases h2
    exact .inr h2
 intro tr;unfold De;rw[pR];intro j hj;rw[pR];intro i hi;have h1:=h j hj;cases ho:ops[j]? with
 | none=>cases ops[i]?<;>rfl
 | some oj=>
  rw[ho] at h1;simp only[w8,pR] at h1;have h2:=h1.2 i hi;cases hoi:ops[i]? with
  | none=>rfl
  | some oi=>
   rw[hoi] at h2;simp only[qsb,Bool.not_eq_true'] at h2 ⊢;rcases h2 with h2 | h2
   .left;left;cases hp:((isApp oi.op&&isRead oj.op)||(isRead oi.op&&isApp oj.op)) with
    | false=>rfl
    | true=>rw[hd _ _ hp] at h2;cases h2
   exact .inl (.inr h2)
theorem WPdraw.toS {P:Program} {T:Tab} {all:Array Oper} {K:St->Prop}: ∀ (l:List Oper) {tr:List (List Nat)} {st:St},WPdraw P T all l st K->WPdrawS P T all l [] tr st (fun s _=>K s)
 | [],tr,st,h=>h
 | o::rest,tr,st,h=>by
  unfold WPdraw at h;unfold WPdrawS;split
  .rename_i hg;simp only[hg] at h;exact WPop.mono (fun v H h=>⟨h.1.imp id (fun e=>⟨rfl,e⟩),WPdraw.toS rest h.2⟩) h
  rename_i j want hg;simp only[hg] at h;split
  .rename_i t ht;simp only[ht] at h;split
   .rename_i b hb;simp only[hb] at h;exact⟨fun e=>WPop.mono (fun v H h=>⟨h.1.imp id (fun e=>⟨rfl,e⟩),WPdraw.toS rest h.2⟩) (h.1 e),fun e=>WPdraw.toS rest (h.2 e)⟩
   .rename_i hb;simp only[hb] at h;exact WPdraw.toS rest h
   rename_i h1 h2;split at h
   .exact absurd ‹_› (h1 _)
   .exact absurd ‹_› h2
   exact h
  rename_i ht;simp only[ht] at h
theorem WPA.mono {P:Program} {T:Tab} {m:Nat}: ∀ (cd:Code) {st:St} {Q Q':AExit->St->Prop},(∀ e st,Q e st->Q' e st)->WPA P T m cd st Q->WPA P T m cd st Q'
 | .skip,st,Q,Q',hq,h=>hq _ _ h
 | .label _,st,Q,Q',hq,h=>hq _ _ h
 | .exit _,st,Q,Q',hq,h=>hq _ _ h
 | .ret,st,Q,Q',hq,h=>hq _ _ h
 | .seq x y,st,Q,Q',hq,h=>by
  unfold WPA at h ⊢;refine WPA.mono x (fun e st h=>?_) h;cases e with
  | normal=>exact WPA.mono y hq h
  | exit id=>exact hq _ _ h
  | ret=>exact hq _ _ h
 | .cond o x y,st,Q,Q',hq,h=>by
  unfold WPA at h ⊢;split
  .rename_i b hb;simp only[hb] at h;exact⟨fun e=>WPA.mono x hq (h.1 e),fun e=>WPA.mono y hq (h.2 e)⟩
  .rename_i hb;split at h
   .exact absurd ‹_› (hb _)
   .exact h
 | .block id x,st,Q,Q',hq,h=>by
  unfold WPA at h ⊢;refine WPA.mono x (fun e st h=>?_) h;cases e with
  | normal=>exact hq _ _ h
  | exit i=>
   simp only at h ⊢;split
   .rename_i hi;rw[if_pos hi] at h;exact hq _ _ h
   .rename_i hi;rw[if_neg hi] at h;exact hq _ _ h
  | ret=>exact hq _ _ h
 | .loop x,st,Q,Q',hq,h=>by
  unfold WPA at h ⊢;obtain⟨I,h1,h2⟩:=h;refine⟨I,h1,fun n Ot hi=>WPA.mono x (fun e st h=>?_) (h2 n Ot hi)⟩;cases e with
  | normal=>exact h
  | exit id=>exact hq _ _ h
  | ret=>exact hq _ _ h
 | .region _ ops draw,st,Q,Q',hq,h=>by
  unfold WPA at h ⊢;split
  .rename_i hd;rw[if_pos hd] at h;rcases h with⟨h1,ids,sh,h2⟩ | ⟨vq,h1,h2⟩
   .exact .inl ⟨h1,ids,sh,WPdrawS.mono (fun st tr h=>⟨h.1,hq _ _ h.2⟩) _ h2⟩
   exact .inr ⟨vq,h1,hq _ _ h2⟩
  .rename_i hd;rw[if_neg hd] at h;exact WPops.mono (fun st h=>hq _ _ h) _ h
 | .rangeFunc ..,_,_,_,_,h=>h
 | .scope x,st,Q,Q',hq,h=>by
  unfold WPA at h ⊢;exact WPA.mono x hq h
 | .goto _,_,_,_,_,h=>h
 | .refuse _,_,_,_,_,h=>h
theorem WPA.cut {P:Program} {T:Tab} {m:Nat} {x y:Code} {st:St} {Q:AExit->St->Prop} (R:St->Prop) (h1:WPA P T m x st fun e st'=>match e with | .normal=>R st' | e=>Q e st') (h2: ∀ st',R st'->WPA P T m y st' Q):WPA P T m (.seq x y) st Q:=by
 unfold WPA;refine WPA.mono x (fun e st' h=>?_) h1;cases e with
 | normal=>exact h2 st' h
 | exit id=>exact h
 | ret=>exact h
end Go.AM
namespace Go.AM
structure cF {α:Type} (a:α):Type where
def Br (b:Bool) (p q:Prop) (_:cF (p,q)):Prop:=(b=true->p)/\(b=false->q)
theorem bS {c:Prop} {_:Decidable c} {p q:Prop} {t:cF (p,q)} (h1:c->decide c=true->p) (h2: ¬c->decide c=false->q):Br (decide c) p q t:=
 ⟨fun h=>h1 (of_decide_eq_true h) h,fun h=>h2 (of_decide_eq_false h) h⟩
theorem Br.beqInt {a b:Int} {p q:Prop} {t:cF (p,q)} (h1:a=b->(a==b)=true->p) (h2:a≠b->(a==b)=false->q):Br (a==b) p q t:=
 ⟨fun h=>h1 (by simpa using h) h,fun h=>h2 (by simpa using h) h⟩
theorem Br.bneInt {a b:Int} {p q:Prop} {t:cF (p,q)} (h1:a≠b->(a !=b)=true->p) (h2:a=b->(a !=b)=false->q):Br (a !=b) p q t:=
 ⟨fun h=>h1 (by simpa using h) h,fun h=>h2 (by simpa using h) h⟩
theorem Uk {p q:Prop} {t:cF (p,q)}:Br true p q t=p:=by simp[Br]
theorem Q4 {p q:Prop} {t:cF (p,q)}:Br false p q t=q:=by simp[Br]
def W4 (v:PV) (p q:Prop) (_:cF (p,q)):Prop:=match v with | .fv (.lit (.bool b))=>Br b p q ⟨⟩ | _=>False
theorem IS {b:Bool} {p q:Prop} {t:cF (p,q)}:W4 (.fv (.lit (.bool b))) p q t=Br b p q ⟨⟩:=rfl
def pD (v:PV) (want:Bool) (p q:Prop) (_:cF (p,q)):Prop:=match v with
 | .fv (.lit (.bool b))=>(b=want->p)/\(b=!want->q)
 | .tup []=>q
 | _=>False
theorem Q5 {b:Bool} {p q:Prop} {t:cF (p,q)}:pD (.fv (.lit (.bool b))) true p q t=Br b p q ⟨⟩:=rfl
theorem Q6 {b:Bool} {p q:Prop} {t:cF (p,q)}:pD (.fv (.lit (.bool b))) false p q t=Br b q p ⟨⟩:=by
 simp[pD,Br,and_comm]
theorem IU {want:Bool} {p q:Prop} {t:cF (p,q)}:pD (.tup []) want p q t=q:=rfl
def GC:List Oper->Nat->Option Nat
 | [],_=>none
 | o::_,0=>o.dst
 | _::l,j+1=>GC l j
theorem Dv: ∀ (l:List Oper) (j:Nat),(l[j]?).bind (·.dst)=GC l j
 | [],_=>by simp[GC]
 | o::_,0=>by simp[GC]
 | _::l,j+1=>by simp[GC,Dv l j]
def Dw (env:List PV) (d:Option Nat) (v:PV):List PV:=match d with | some t=>env.set t v | none=>env
theorem Na {env:List PV} {t:Nat} {v:PV}:Dw env (some t) v=env.set t v:=rfl
theorem Nb {env:List PV} {v:PV}:Dw env none v=env:=rfl
def YN (env:List PV) (o:Option Nat):PV:=match o with | some t=>env.getD t .any | none=> .any
def so (l:List Oper) (j:Nat) (env:List PV) (_:cF l):PV:=YN env (GC l j)
theorem GD {env:List PV} {d:Nat} {op:Op} {ty:TypeId} {pos:String} {af:Array Edge} {g:Option (Nat×Bool)} {l:List Oper} {t:cF _}:so ({dst:=some d,op:=op,type:=ty,pos:=pos,after:=af,guard:=g}::l) 0 env t=env.getD d .any:=rfl
theorem GF {env:List PV} {o:Oper} {l:List Oper} {j:Nat} {t:cF _}:so (o::l) (j+1) env t=so l j env ⟨⟩:=rfl
abbrev KQ:=AExit->St->Prop
def WA (P:Program) (T:Tab) (m:Nat) (cd:Code) (st:St) (Q:KQ) (_:cF (cd,Q)):Prop:=WPA P T m cd st Q
def WO (P:Program) (T:Tab) (all l:List Oper) (st:St) (K:St->Prop) (_:cF (all,l,K)):Prop:=WPops P T (List.toArray all) l st K
def WD (P:Program) (T:Tab) (all l:List Oper) (st:St) (K:St->Prop) (_:cF (all,l,K)):Prop:=WPdraw P T (List.toArray all) l st K
def W1 (P:Program) (T:Tab) (o:Op) (st:St) (K:PV->List Ob->Prop) (_:cF (o,K)):Prop:=WPop P T o st K
def sy (r:Option Res) (K:PV->List Ob->Prop) (_:cF K):Prop:=after r K
def Draw (P:Program) (T:Tab) (ops:List Oper) (st:St) (K:St->Prop) (_:cF (ops,K)):Prop:=(k9 (List.toArray ops)=true/\ ∃ ids sh,WPdrawS P T (List.toArray ops) ops sh [] {st with heap:=shutIds ids st.heap} (fun s tr=>De (List.toArray ops) tr=true/\K s))\/
 ∃ vq,K8 P T (List.toArray ops) ops.length (Array.replicate ops.length false) st (fun s=>s=vq)/\K vq
def IV (P:Program) (T:Tab) (m:Nat) (y:Code) (Q:KQ) (_:cF (y,Q)) (e:AExit) (st:St):Prop:=match e with | .normal=>WPA P T m y st Q | e=>Q e st
def l6 (id:Nat) (Q:KQ) (_:cF Q) (e:AExit) (st:St):Prop:=match e with | .exit i=>if i=id then Q .normal st else Q (.exit i) st | e=>Q e st
def Ap (Q:KQ) (e:AExit) (st:St) (_:cF Q):Prop:=Q e st
section
variable {P:Program} {T:Tab} {m:Nat} {st:St} {env:List PV} {H:List Ob} {Q:KQ} {K:St->Prop} {K2:PV->List Ob->Prop}
theorem Aq {y:Code} {t:cF (y,Q)} {u:cF _}:Ap (IV P T m y Q t) .normal st u=WA P T m y st Q ⟨⟩:=rfl
theorem GG {y:Code} {i:Nat} {t:cF (y,Q)} {u:cF _}:Ap (IV P T m y Q t) (.exit i) st u=Ap Q (.exit i) st ⟨⟩:=rfl
theorem IW {y:Code} {t:cF (y,Q)} {u:cF _}:Ap (IV P T m y Q t) .ret st u=Ap Q .ret st ⟨⟩:=rfl
theorem wj {i:Nat} {t:cF Q} {u:cF _}:Ap (l6 i Q t) .normal st u=Ap Q .normal st ⟨⟩:=rfl
theorem Ar {i id:Nat} {t:cF Q} {u:cF _}:Ap (l6 id Q t) (.exit i) st u=Br (i==id) (Ap Q .normal st ⟨⟩) (Ap Q (.exit i) st ⟨⟩) ⟨⟩:=by
 by_cases h:i=id
 .subst h;simp[l6,Br,Ap]
 simp[l6,Br,h,Ap]
theorem Dx {i:Nat} {t:cF Q} {u:cF _}:Ap (l6 i Q t) .ret st u=Ap Q .ret st ⟨⟩:=rfl
theorem YO {x y:Code} {t:cF _}:WA P T m (.seq x y) st Q t=WA P T m x st (IV P T m y Q ⟨⟩) ⟨⟩:=rfl
theorem Ul {t:cF _}:WA P T m .skip st Q t=Ap Q .normal st ⟨⟩:=rfl
theorem Q7 {s:Nat} {t:cF _}:WA P T m (.label s) st Q t=Ap Q .normal st ⟨⟩:=rfl
theorem Q8 {x:Code} {t:cF _}:WA P T m (.scope x) st Q t=WA P T m x st Q ⟨⟩:=rfl
theorem Um {i:Nat} {t:cF _}:WA P T m (.exit i) st Q t=Ap Q (.exit i) st ⟨⟩:=rfl
theorem YP {t:cF _}:WA P T m .ret st Q t=Ap Q .ret st ⟨⟩:=rfl
theorem Q9 {i:Nat} {x:Code} {t:cF _}:WA P T m (.block i x) st Q t=WA P T m x st (l6 i Q ⟨⟩) ⟨⟩:=rfl
theorem Un {c:Operand} {x y:Code} {t:cF _}:WA P T m (.cond c x y) ⟨env,H⟩ Q t=W4 (ev env c) (WA P T m x ⟨env,H⟩ Q ⟨⟩) (WA P T m y ⟨env,H⟩ Q ⟨⟩) ⟨⟩:=rfl
theorem Nc {n:Nat} {l:List Oper} {t:cF _}:WA P T m (.region n (List.toArray l) false) st Q t=WO P T l l st (fun st=>Ap Q .normal st ⟨⟩) ⟨⟩:=rfl
theorem Uo {n:Nat} {l:List Oper} {t:cF _}:WA P T m (.region n (List.toArray l) true) st Q t=Draw P T l st (fun st=>Ap Q .normal st ⟨⟩) ⟨⟩:=rfl
theorem dw {l:List Oper} {t:cF _} (h:Dd (List.toArray l)=true) (k:WD P T l l st K ⟨⟩):Draw P T l st K t:= .inl ⟨(jZ h).1,[],[],WPdrawS.mono (fun _ tr hk=>⟨(jZ h).2 tr,hk⟩) _ (WPdraw.toS _ k)⟩
theorem Draw.freeze (ids:List Nat) {l:List Oper} {t:cF _} (h:Dd (List.toArray l)=true) (k:WD P T l l {st with heap:=shutIds ids st.heap} K ⟨⟩):Draw P T l st K t:= .inl ⟨(jZ h).1,ids,[],WPdrawS.mono (fun _ tr hk=>⟨(jZ h).2 tr,hk⟩) _ (WPdraw.toS _ k)⟩
def WDS (P:Program) (T:Tab) (all l:List Oper) (sh tr:List (List Nat)) (st:St) (K:St->Prop) (_:cF (all,l,K)):Prop:=WPdrawS P T (List.toArray all) l sh tr st (fun s tr=>De (List.toArray all) tr=true/\K s)
def ah8 (all:List Oper) (tr:List (List Nat)) (_:cF all):Prop:=De (List.toArray all) tr=true
theorem Draw.shutting (sh:List (List Nat)) {l:List Oper} {t:cF _} (h:k9 (List.toArray l)=true) (k:WDS P T l l sh [] st K ⟨⟩):Draw P T l st K t:= .inl ⟨h,[],sh,k⟩
def GH {α:Type} (m:Nat) (f:α->St) (μ:α->Nat) (G:α->Prop) (a:α) (Q:KQ) (_:cF Q) (e:AExit) (st:St):Prop:=match e with | .normal=> ∃ a',μ a'<μ a/\Weak m st (f a')/\G a' | e=>Q e st
theorem Dy {α:Type} {f:α->St} {μ:α->Nat} {G:α->Prop} {a:α} {i:Nat} {t:cF _} {u:cF _}:Ap (GH m f μ G a Q t) (.exit i) st u=Ap Q (.exit i) st ⟨⟩:=rfl
theorem GI {α:Type} {f:α->St} {μ:α->Nat} {G:α->Prop} {a:α} {t:cF _} {u:cF _}:Ap (GH m f μ G a Q t) .ret st u=Ap Q .ret st ⟨⟩:=rfl
theorem ap {α:Type} {f:α->St} {μ:α->Nat} {G:α->Prop} {a:α} {t:cF _} {u:cF _} (a':α) (h1:μ a'<μ a) (h2:Weak m st (f a')) (h3:G a'):Ap (GH m f μ G a Q t) .normal st u:=⟨a',h1,h2,h3⟩
theorem wl {α:Type} (f:α->St) (μ:α->Nat) (G:α->Prop) {x:Code} {t:cF _} (a0:α) (hw:Weak m st (f a0)) (hg:G a0)
 (hr: ∀ a,G a->WA P T m x (f a) (GH m f μ G a Q ⟨⟩) ⟨⟩):WA P T m (.loop x) st Q t:=by
 refine⟨fun n st=> ∃ a,n=μ a/\st=f a/\G a,⟨μ a0,f a0,hw,a0,rfl,rfl,hg⟩,?_⟩
 rintro n Ot ⟨a,rfl,rfl,hga⟩
 refine WPA.mono x (fun e vq h=>?_) (hr a hga)
 cases e with
 | normal=>obtain⟨a',h1,h2,h3⟩:=h;exact⟨μ a',f a',h1,h2,a',rfl,rfl,h3⟩
 | exit i=>exact h
 | ret=>exact h
def Q_ (R:St->Prop) (Q:KQ) (_:cF (R,Q)) (e:AExit) (st:St):Prop:=match e with | .normal=>R st | e=>Q e st
theorem Au {R:St->Prop} {t:cF (R,Q)} {u:cF _}:Ap (Q_ R Q t) .normal st u=R st:=rfl
theorem GJ {R:St->Prop} {i:Nat} {t:cF (R,Q)} {u:cF _}:Ap (Q_ R Q t) (.exit i) st u=Ap Q (.exit i) st ⟨⟩:=rfl
theorem IX {R:St->Prop} {t:cF (R,Q)} {u:cF _}:Ap (Q_ R Q t) .ret st u=Ap Q .ret st ⟨⟩:=rfl
def Mid {α:Type} (f:α->St) (G:α->Prop) (st:St):Prop:= ∃ a,st=f a/\G a
theorem Mid.mk {α:Type} {f:α->St} {G:α->Prop} {st:St} (a:α) (h:st=f a) (g:G a):Mid f G st:=⟨a,h,g⟩
theorem WA.cut {α:Type} (f:α->St) (G:α->Prop) {x y:Code} {t:cF _} (h1:WA P T m x st (Q_ (Mid f G) Q ⟨⟩) ⟨⟩) (h2: ∀ a,G a->WA P T m y (f a) Q ⟨⟩):WA P T m (.seq x y) st Q t:=
 WPA.cut (Mid f G) (WPA.mono x (fun e st h=>by cases e<;>exact h) h1) (fun st' ⟨a,hs,hg⟩=>by subst hs;exact h2 a hg)
theorem WA.assoc {x y z:Code} {t:cF _} (h:WA P T m (.seq (.seq x y) z) st Q ⟨⟩):WA P T m (.seq x (.seq y z)) st Q t:=by
 show WPA P T m (.seq x (.seq y z)) st Q;have h:WPA P T m (.seq (.seq x y) z) st Q:=h;unfold WPA at h ⊢;unfold WPA at h;refine WPA.mono x (fun e st' he=>?_) h;cases e with
 | normal=>exact he
 | exit i=>exact he
 | ret=>exact he
theorem YQ {all:List Oper} {t:cF _}:WO P T all [] st K t=K st:=rfl
theorem Uq {all:List Oper} {d:Option Nat} {op:Op} {ty:TypeId} {pos:String} {af:Array Edge} {rest:List Oper} {t:cF _}:
 WO P T all ({dst:=d,op:=op,type:=ty,pos:=pos,after:=af,guard:=none}::rest) ⟨env,H⟩ K t=W1 P T op ⟨env,H⟩ (fun v H'=>WO P T all rest ⟨Dw env d v,H'⟩ K ⟨⟩) ⟨⟩:=rfl
theorem Ur {l:List Oper} {d:Option Nat} {op:Op} {ty:TypeId} {pos:String} {af:Array Edge} {rest:List Oper} {j:Nat} {want:Bool} {t:cF _}:
 WO P T l ({dst:=d,op:=op,type:=ty,pos:=pos,after:=af,guard:=some (j,want)}::rest) ⟨env,H⟩ K t=
  pD (so l j env ⟨⟩) want (W1 P T op ⟨env,H⟩ (fun v H'=>WO P T l rest ⟨Dw env d v,H'⟩ K ⟨⟩) ⟨⟩) (WO P T l rest ⟨Dw env d (.tup []),H⟩ K ⟨⟩) ⟨⟩:=by
 unfold WO
 rw[WPops.eq_def]
 simp only[List.getElem?_toArray,Dv,so]
 cases GC l j with
 | none=>rfl
 | some t=>
  simp only[YN,St.get,pD];generalize env.getD t .any=v;split
  .rfl
  .rfl
  rename_i h1 h2;split
  .exact absurd rfl (h1 _)
  .exact absurd rfl h2
  rfl
def pE (H H':List Ob):Prop:= ∃ obs,H'=H++obs
theorem IY:pE H H=True:=by simp only[eq_iff_iff,iff_true];exact⟨[],by simp⟩
theorem Dz {l:List Ob}:pE H (H++l)=True:=by simp only[eq_iff_iff,iff_true];exact⟨l,rfl⟩
theorem Nd:pE [] H=True:=by simp only[eq_iff_iff,iff_true];exact⟨H,rfl⟩
theorem IZ {o:Ob} {H':List Ob}:pE (o::H) (o::H')=pE H H':=by simp[pE]
def dK (s:Bool) (H H':List Ob) (p:Prop) (_:cF p):Prop:=(s=true\/pE H H')/\p
theorem Ra {H':List Ob} {p:Prop} {t:cF p}:dK true H H' p t=p:=by simp[dK]
theorem Us {H':List Ob} {p:Prop} {t:cF p}:dK false H H' p t=(pE H H'/\p):=by simp[dK]
theorem toL {l:List Operand}:(List.toArray l).toList=l:=rfl
def dS (s:Bool) (a:List Nat) (H H':List Ob) (p:Prop) (_:cF p):Prop:=(s=true\/(a=[]/\pE H H'))/\p
theorem Rb {a:List Nat} {H':List Ob} {p:Prop} {t:cF p}:dS true a H H' p t=p:=by simp[dS]
theorem Lj {H':List Ob} {p:Prop} {t:cF p}:dS false [] H H' p t=(pE H H'/\p):=by simp[dS]
theorem Ut {all:List Oper} {sh tr:List (List Nat)} {t:cF _}:WDS P T all [] sh tr st K t=(ah8 all tr ⟨⟩/\K st):=rfl
theorem GK {all:List Oper} {s:List Nat} {ss tr:List (List Nat)} {d:Option Nat} {op:Op} {ty:TypeId} {pos:String} {af:Array Edge} {rest:List Oper} {t:cF _}:
 WDS P T all ({dst:=d,op:=op,type:=ty,pos:=pos,after:=af,guard:=none}::rest) (s::ss) tr ⟨env,H⟩ K t=W1 P T op ⟨env,H⟩ (fun v H'=>dS (a9 op) s H H' (WDS P T all rest ss (tr++[mark (ev env) op++s]) ⟨Dw env d v,shutIds s H'⟩ K ⟨⟩) ⟨⟩) ⟨⟩:=rfl
theorem YR {all:List Oper} {t:cF _}:WD P T all [] st K t=K st:=rfl
theorem Uu {all:List Oper} {d:Option Nat} {op:Op} {ty:TypeId} {pos:String} {af:Array Edge} {rest:List Oper} {t:cF _}:
 WD P T all ({dst:=d,op:=op,type:=ty,pos:=pos,after:=af,guard:=none}::rest) ⟨env,H⟩ K t=W1 P T op ⟨env,H⟩ (fun v H'=>dK (a9 op) H H' (WD P T all rest ⟨Dw env d v,H'⟩ K ⟨⟩) ⟨⟩) ⟨⟩:=rfl
theorem Uv {l:List Oper} {d:Option Nat} {op:Op} {ty:TypeId} {pos:String} {af:Array Edge} {rest:List Oper} {j:Nat} {want:Bool} {t:cF _}:
 WD P T l ({dst:=d,op:=op,type:=ty,pos:=pos,after:=af,guard:=some (j,want)}::rest) ⟨env,H⟩ K t=
  pD (so l j env ⟨⟩) want (W1 P T op ⟨env,H⟩ (fun v H'=>dK (a9 op) H H' (WD P T l rest ⟨Dw env d v,H'⟩ K ⟨⟩) ⟨⟩) ⟨⟩) (WD P T l rest ⟨Dw env d (.tup []),H⟩ K ⟨⟩) ⟨⟩:=by
 unfold WD
 rw[WPdraw.eq_def]
 simp only[List.getElem?_toArray,Dv,so]
 cases GC l j with
 | none=>rfl
 | some t=>
  simp only[YN,St.get,pD];generalize env.getD t .any=v;split
  .rfl
  .rfl
  rename_i h1 h2;split
  .exact absurd rfl (h1 _)
  .exact absurd rfl h2
  rfl
theorem Rc {c:Prop} {v:PV} {t:cF _}:sy (some ⟨c,v,H⟩) K2 t=(c/\K2 v H):=rfl
theorem Rd {v:PV} {t:cF _}:sy (Res.pure H v) K2 t=K2 v H:=by simp[sy,after,Res.pure]
theorem YS {c:Prop} {v:PV} {t:cF _}:sy (Res.if c H v) K2 t=(c/\K2 v H):=rfl
theorem YT {t:Nat}:ev env (.tmp t)=env.getD t .any:=rfl
theorem Re {v:Value}:ev env (.const v)=PV.ofValue v:=rfl
theorem Uw {f:FuncId}:ev env (.func f)= .fv (.lit (.func (.func f) #[] #[])):=rfl
theorem YU {k:IntKind} {n:Int}:PV.ofValue (.int k n)= .fv (.lit (.int k n)):=rfl
theorem Ux {b:Bool}:PV.ofValue (.bool b)= .fv (.lit (.bool b)):=rfl
theorem YV:PV.ofValue (.slice none 0 0)= .nilsl:=rfl
theorem I0:PV.ofValue .nilFunc= .fv (.lit .nilFunc):=rfl
theorem Nf:PV.ofValue (.pointer none)= .fv (.lit (.pointer none)):=rfl
def W5 (H:List Ob) (c a b:PV):Option Res:=match c with | .fv (.lit (.bool t))=>Res.pure H (if t then a else b) | _=>none
theorem Uy {x:Operand} {u:cF _}:W1 P T (.move x) ⟨env,H⟩ K2 u=K2 (ev env x) H:=by simp[W1,WPop,cj,Res.pure]
theorem Ng {x:Operand} {u:cF _}:W1 P T (.assign x) ⟨env,H⟩ K2 u=K2 (ev env x) H:=by simp[W1,WPop,cj,Res.pure]
theorem Uz {c a b:Operand} {u:cF _}:W1 P T (.pick c a b) ⟨env,H⟩ K2 u=sy (W5 H (ev env c) (ev env a) (ev env b)) K2 ⟨⟩:=rfl
theorem I1 {t:Bool} {a b:PV}:W5 H (.fv (.lit (.bool t))) a b=Res.pure H (if t then a else b):=rfl
def Rf (H:List Ob) (i:Option TyI):Option Res:=match i with | some i=>some ⟨True,.ptr H.length 0 0,H++[.box true i.zero]⟩ | none=>none
theorem Rg {t:TypeId} {u:cF _}:W1 P T (.alloc t) ⟨env,H⟩ K2 u=sy (Rf H (T.at t)) K2 ⟨⟩:=rfl
def adM (H:List Ob) (i:Option TyI) (x:PV):Option Res:=match i with | some i=>some ⟨x.cells.length=i.size/\0<i.size,.ptr H.length 0 0,H++[.box true x.cells]⟩ | none=>none
theorem YW {t:TypeId} {x:Operand} {u:cF _}:W1 P T (.box t x) ⟨env,H⟩ K2 u=sy (adM H (T.at t) (ev env x)) K2 ⟨⟩:=rfl
def Rh (H:List Ob) (i:Option TyI) (parts:List (Nat×PV)):Option Res:=match i with
 | some i=>match i.d with
  | .st fs=>match mf (fun j=>(fs[j]?).map fun f=>(f.off,f.size)) i.zero parts with
   | some cs=>Res.pure H (.agg cs)
   | none=>none
  | _=>none
 | none=>none
theorem Ri {t:TypeId} {l:List (Nat×Operand)} {u:cF _}:W1 P T (.build t (List.toArray l)) ⟨env,H⟩ K2 u=sy (Rh H (T.at t) (l.map fun(j,x)=>(j,ev env x))) K2 ⟨⟩:=rfl
def vT (T:Tab) (H:List Ob) (i:Option TyI) (len:Nat) (parts:List (Nat×PV)):Option Res:=match i with
 | some i=>match i.d with
  | .sl e=>match T.at e with
   | some ie=>
    match mf (fun j=>some (j*ie.size,ie.size)) (replicate len ie.zero).flatten parts with
    | some cs=>match lJ H cs with
     | some fs=>if len<1000/\0<ie.size/\ie.size<1000 then some ⟨True,.lsl H.length 0 len ie.size,gU H cs++[.row true (dG ie.size len fs)]⟩ else none
     | none=>none
    | none=>none
   | none=>none
  | _=>none
 | none=>none
theorem Av {t:TypeId} {n:Nat} {l:List (Nat×Operand)} {u:cF _}:W1 P T (.buildSlice t n (List.toArray l)) ⟨env,H⟩ K2 u=sy (vT T H (T.at t) n (l.map fun(j,x)=>(j,ev env x))) K2 ⟨⟩:=rfl
def W6 (H:List Ob) (i:Option TyI) (a:PV):Option Res:=match i with
 | some i=>match a with
  | .ptr id j off=>match fP H id j off i.size with
   | some (cd,cs)=>match jf i cs with
    | some v=>Res.if cd H v
    | none=>none
   | none=>none
  | .fv (.fp cs)=>match jf i ((cs.take i.size).map .fv) with
   | some v=>Res.if (i.size<=cs.length) H v
   | none=>none
  | _=>none
 | none=>none
theorem UA {t:TypeId} {a:Operand} {u:cF _}:W1 P T (.load t a) ⟨env,H⟩ K2 u=sy (W6 H (T.at t) (ev env a)) K2 ⟨⟩:=rfl
def GL (H:List Ob) (i:Option TyI):Option Res:=match i with
 | some i=>match i.d with
  | .mp n _=>some ⟨True,.tab H.length,H++[.tab n []]⟩
  | _=>none
 | none=>none
theorem I2 {t:TypeId} {u:cF _}:W1 P T (.makeMap t none) ⟨env,H⟩ K2 u=sy (GL H (T.at t)) K2 ⟨⟩:=rfl
def Lk (H:List Ob) (i:Option TyI) (m:PV) (ks:Option (List Int)) (ok:Bool):Option Res:=match i,m,ks with
 | some i,.tab id,some ks=>match i.d,H[id]? with
  | .mp n z,some (.tab n' es)=>if ks.length=n/\n'=n then Res.if (∀ x∈ks,-9223372036854775808<=x/\x<9223372036854775808) H (if ok then .tup [(dJ es ks).getD z,.bool (dJ es ks).isSome] else(dJ es ks).getD z) else none
  | _,_=>none
 | _,_,_=>none
theorem Nh {t:TypeId} {m k:Operand} {ok:Bool} {u:cF _}:W1 P T (.lookup t m k ok) ⟨env,H⟩ K2 u=sy (Lk H (T.at t) (ev env m) (oU (ev env k)) ok) K2 ⟨⟩:=rfl
def zj (H:List Ob) (i:Option TyI) (m:PV) (ks:Option (List Int)) (x:PV):Option Res:=match i,m,ks with
 | some i,.tab id,some ks=>match i.d,H[id]? with
  | .mp n _,some (.tab n' es)=>if ks.length=n/\n'=n/\still x=true then some ⟨∀ x∈ks,-9223372036854775808<=x/\x<9223372036854775808,.tup [],H.set id (.tab n (jy es ks x))⟩ else none
  | _,_=>none
 | _,_,_=>none
theorem DA {t:TypeId} {m k x:Operand} {u:cF _}:W1 P T (.mapUpdate t m k x) ⟨env,H⟩ K2 u=sy (zj H (T.at t) (ev env m) (oU (ev env k)) (ev env x)) K2 ⟨⟩:=rfl
def Rj (H:List Ob) (i:Option TyI) (a x:PV):Option Res:=match i with
 | some i=>match a with
  | .ptr id j off=>match storeAt H id j off x.cells with
   | some (cd,H')=>some ⟨cd/\x.cells.length=i.size/\0<i.size,.tup [],H'⟩
   | none=>none
  | _=>none
 | none=>none
theorem Rk {t:TypeId} {a x:Operand} {u:cF _}:W1 P T (.store t a x) ⟨env,H⟩ K2 u=sy (Rj H (T.at t) (ev env a) (ev env x)) K2 ⟨⟩:=rfl
def adN (H:List Ob) (x:PV):Option Res:=match x with
 | .ptr id j off=>Res.pure H (.ptr id j off)
 | .fv (.fp cs)=>Res.pure H (.fv (.fp cs))
 | _=>none
theorem GM {x:Operand} {u:cF _}:W1 P T (.nilCheck x) ⟨env,H⟩ K2 u=sy (adN H (ev env x)) K2 ⟨⟩:=rfl
def W7 (H:List Ob) (sl:Bool) (o q:Option Bool):Option Res:=match o with | some b=>if sl then Res.pure H (.bool b) else none | none=>match q with | some b=>Res.pure H (.bool b) | none=>none
def YX (H:List Ob) (o:Option (Prop×Value)) (q:Option Res) (_:cF q):Option Res:=match o with | some (c,v)=>Res.if c H (.lit v) | none=>q
theorem Ni {c:Prop} {v:Value} {q:Option Res} {u:cF q}:YX H (some (c,v)) q u=Res.if c H (.lit v):=rfl
theorem Nj {q:Option Res} {u:cF q}:YX H none q u=q:=rfl
theorem Rl {op:BinOp} {t t2:TypeId} {x y:Operand} {u:cF _}:W1 P T (.binOp op t x y t2) ⟨env,H⟩ K2 u=sy (YX H (SM (T.isBool t) op (ev env x) (ev env y)) (W7 H (T.isSl t) (SL op (ev env x) (ev env y)) (Ow (T.arN t) op (oU (ev env x)) (oU (ev env y)))) ⟨⟩) K2 ⟨⟩:=rfl
def rUn (H:List Ob) (o:Option Value):Option Res:=match o with | some v=>Res.pure H (.lit v) | none=>none
theorem UB {op:UnOp} {t:TypeId} {x:Operand} {u:cF _}:W1 P T (.unOp op t x) ⟨env,H⟩ K2 u=sy (rUn H (unV op (ev env x))) K2 ⟨⟩:=rfl
def W8 (H:List Ob) (a b:Option TyI) (x:PV):Option Res:=match a,b,x with
 | some i,some j,.fv (.lit (.int _ n))=>match i.d,j.d with
  | .int _,.int k=>Res.pure H (.int k (k.wrap n))
  | _,_=>none
 | _,_,_=>none
theorem I3 {a b:TypeId} {x:Operand} {u:cF _}:W1 P T (.convert a b x) ⟨env,H⟩ K2 u=sy (W8 H (T.at a) (T.at b) (ev env x)) K2 ⟨⟩:=rfl
def W9 (T:Tab) (H:List Ob) (i:Option TyI) (l c:PV):Option Res:=match i,l,c with
 | some i,.fv (.lit (.int _ n)),.fv (.lit (.int _ m))=>match i.d with
  | .sl e=>match T.at e with
   | some ie=>if Ct ie.zero then some ⟨0<=n/\n=m/\m*ie.bytes<=140737488355328/\m<=140737488355328,.lsl H.length 0 n.toNat 1,H++[.box true (replicate n.toNat .nilsl)]⟩ else
    match lJ H ie.zero with
    | some z=>if z.length=ie.size/\0<ie.size then some ⟨0<=n/\n<=m/\m*ie.bytes<=140737488355328/\m<=140737488355328,.lsl H.length 0 n.toNat ie.size,H++[.row true (replicate n.toNat z)]⟩ else none
    | none=>none
   | none=>none
  | _=>none
 | _,_,_=>none
theorem DB {t:TypeId} {l c:Operand} {u:cF _}:W1 P T (.makeSlice t l c) ⟨env,H⟩ K2 u=sy (W9 T H (T.at t) (ev env l) (ev env c)) K2 ⟨⟩:=rfl
def I4 (T:Tab) (H:List Ob) (i:Option TyI) (x:PV) (lo hi mx:Option PV):Option Res:=match i with
 | some i=>match i.d,mx with
  | .sl e,none=>match T.at e,x with
   | some ie,.lsl id off len s=>if s=ie.size then(match eh lo 0,eh hi len with
    | some (c1,l),some (c2,h)=>Res.if (c1/\c2/\l<=h/\h<=room H id off len lo hi) H (.lsl id (off+l) (h - l) s)
    | _,_=>none) else none
   | some ie,.fv (.sl xs)=>match eh lo 0,eh hi xs.length with
    | some (c1,l),some (c2,h)=>Res.if (c1/\c2/\l<=h/\h<=xs.length/\ ∀ y∈xs,y.length=ie.size) H (.fv (.sl ((xs.drop l).take (h - l))))
    | _,_=>none
   | some ie,.clip xs=>match eh lo 0,eh hi xs.length with
    | some (c1,l),some (c2,h)=>Res.if (c1/\c2/\l<=h/\h<=xs.length/\ ∀ y∈xs,y.length=ie.size) H (.fv (.sl ((xs.drop l).take (h - l))))
    | _,_=>none
   | _,_=>none
  | .sl e,some mv=>match T.at e,oz x,eh lo 0,asI hi,mv.asInt with
   | some _,some len,some (c1,l),some h,some m=>Res.if (c1/\0<=h/\h<=m/\l<=h.toNat/\m<=len) H (JJ lo h m)
   | _,_,_,_,_=>none
  | .arr n e,_=>match T.at e,x,eh lo 0,eh hi n,eh mx n with
   | some ie,.ptr id j off,some (c1,l),some (c2,h),some (c3,m)=>
    match H[id]? with
    | some (.box _ cs)=>match lJ H ((cs.drop off).take (n*ie.size)) with
     | some fs=>if j=0/\0<ie.size/\0<n/\(mx.isSome=true->hi.isSome=true) then some ⟨c1/\c2/\c3/\l<=h/\h<=m/\m<=n/\off+n*ie.size<=cs.length,if m=h then .clip (((dG ie.size n fs).drop l).take (h - l)) else .fv (.sl (((dG ie.size n fs).drop l).take (h - l))),shutIds (id::((cs.drop off).take (n*ie.size)).flatMap eZ) H⟩ else none
     | none=>none
    | _=>none
   | _,_,_,_,_=>none
  | _,_=>none
 | none=>none
theorem Rm {t:TypeId} {x:Operand} {lo hi mx:Option Operand} {u:cF _}:W1 P T (.slice t x lo hi mx) ⟨env,H⟩ K2 u=sy (I4 T H (T.at t) (ev env x) (lo.map (ev env)) (hi.map (ev env)) (mx.map (ev env))) K2 ⟨⟩:=by
 unfold W1 sy;rw[Li (by simp)];simp only[cj,I4];cases T.at t with
 | none=>rfl
 | some i=>
  dsimp only;cases i.d<;>cases mx<;>cases hi<;>rfl
def zk (H:List Ob) (i:Option TyI) (x:PV) (f:Nat):Option Res:=match i with
 | some i=>match i.d with
  | .st fs=>match fs[f]?,x with
   | some fd,.ptr id j o=>Res.pure H (.ptr id j (o+fd.off))
   | some fd,.fv (.fp cs)=>Res.if (fd.off+fd.size<=cs.length) H (.fv (.fp (cs.drop fd.off)))
   | _,_=>none
  | _=>none
 | none=>none
theorem DC {t:TypeId} {x:Operand} {f:Nat} {u:cF _}:W1 P T (.fieldAddr t x f) ⟨env,H⟩ K2 u=sy (zk H (T.at t) (ev env x) f) K2 ⟨⟩:=rfl
def Rn (H:List Ob) (i:Option TyI) (x:PV) (f:Nat):Option Res:=match i with
 | some i=>match i.d with
  | .st fs=>match fs[f]?,x with
   | some fd,.agg cs=>if fd.agg then Res.if (fd.off+fd.size<=cs.length) H (.agg ((cs.drop fd.off).take fd.size)) else
    if fd.size=1 then Res.if (fd.off<cs.length) H (cs.getD fd.off .any) else none
   | _,_=>none
  | _=>none
 | none=>none
theorem Ro {t:TypeId} {x:Operand} {f:Nat} {u:cF _}:W1 P T (.field t x f) ⟨env,H⟩ K2 u=sy (Rn H (T.at t) (ev env x) f) K2 ⟨⟩:=rfl
def zm (T:Tab) (H:List Ob) (i:Option TyI) (x:PV) (ix:Option Int):Option Res:=match i,ix with
 | some i,some n=>match i.d with
  | .sl e=>match T.at e,x with
   | some ie,.lsl id off len s=>if s=ie.size then Res.if (0<=n/\n<len) H (Eb s (H[id]?) id (off+n.toNat)) else none
   | some ie,.fv (.sl xs)=>Res.if (0<=n/\n<xs.length/\(xs.getD n.toNat []).length=ie.size/\0<ie.size) H (.fv (.fp (xs.getD n.toNat [])))
   | some ie,.clip xs=>Res.if (0<=n/\n<xs.length/\(xs.getD n.toNat []).length=ie.size/\0<ie.size) H (.fv (.fp (xs.getD n.toNat [])))
   | _,_=>none
  | .arr k e=>match T.at e,x with
   | some ie,.ptr id j off=>if 1<k then Res.if (0<=n/\n<k) H (.ptr id j (off+n.toNat*ie.size)) else none
   | some ie,.fv (.fp cs)=>if 1<k then Res.if (0<=n/\n<k/\n.toNat*ie.size+ie.size<=cs.length/\0<ie.size) H (.fv (.fp (cs.drop (n.toNat*ie.size)))) else none
   | _,_=>none
  | _=>none
 | _,_=>none
theorem DD {t:TypeId} {x ix:Operand} {u:cF _}:W1 P T (.indexAddr t x ix) ⟨env,H⟩ K2 u=sy (zm T H (T.at t) (ev env x) (ev env ix).asInt) K2 ⟨⟩:=rfl
def Rp (T:Tab) (H:List Ob) (i:Option TyI) (x:PV) (ix:Option Int):Option Res:=match i,ix with
 | some i,some n=>match i.d with
  | .arr k e=>match T.at e,x with
   | some ie,.agg cs=>match jf ie ((cs.drop (n.toNat*ie.size)).take ie.size) with
    | some v=>Res.if (0<=n/\n<k/\n.toNat*ie.size+ie.size<=cs.length) H v
    | none=>none
   | _,_=>none
  | .str=>match x with
   | .fv (.lit (.string s))=>Res.if (0<=n/\n<(s.size:Int)) H (.int .u8 ((s[n.toNat]?).getD 0).toNat)
   | _=>none
  | _=>none
 | _,_=>none
theorem Rq {t:TypeId} {x ix:Operand} {u:cF _}:W1 P T (.index t x ix) ⟨env,H⟩ K2 u=sy (Rp T H (T.at t) (ev env x) (ev env ix).asInt) K2 ⟨⟩:=rfl
def GN (H:List Ob) (x:PV) (ix:Nat):Option Res:=match x with
 | .tup vs=>match vs[ix]? with
  | some v=>Res.pure H v
  | none=>none
 | _=>none
theorem I5 {x:Operand} {ix:Nat} {u:cF _}:W1 P T (.extract x ix) ⟨env,H⟩ K2 u=sy (GN H (ev env x) ix) K2 ⟨⟩:=rfl
def Cg (H:List Ob) (fn:Fn) (first captured:List PV):Option Res:=match rE H first,rE H captured with
 | some c1,some c2=>some ⟨True,.fv (.fn fn c1 c2),shutIds ((first++captured).flatMap (me H)) H⟩
 | _,_=>match vx first,captured with
  | some vs,[]=>some ⟨True,.fv (.lit (.func fn (List.toArray vs) #[])),H⟩
  | _,_=>none
theorem GO {fn:Fn} {l1 l2:List Operand} {u:cF _}:W1 P T (.makeFunc fn (List.toArray l1) (List.toArray l2)) ⟨env,H⟩ K2 u=sy (Cg H fn (l1.map (ev env)) (l2.map (ev env))) K2 ⟨⟩:=rfl
theorem UC {x:Operand} {t:TypeId} {u:cF _}:W1 P T (.call {callee:= .builtin .len,args:=List.toArray [x],argTypes:=List.toArray [t]}) ⟨env,H⟩ K2 u=sy (h_ T H .len [t] [ev env x]) K2 ⟨⟩:=rfl
theorem adO {b:Builtin} {x y:Operand} {t t':TypeId} {u:cF _}:W1 P T (.call {callee:= .builtin b,args:=List.toArray [x,y],argTypes:=List.toArray [t,t']}) ⟨env,H⟩ K2 u=sy (h_ T H b [t,t'] [ev env x,ev env y]) K2 ⟨⟩:=rfl
def adP (H:List Ob) (i:Option TyI) (v:PV):Option Res:=match i with
 | some i=>match i.d with
  | .sl _=>match lenOf v with | some n=>Res.pure H (.int .i64 n) | none=>none
  | .arr n _=>Res.pure H (.int .i64 n)
  | .str=>match v with | .fv (.lit (.string s))=>Res.pure H (.int .i64 s.size) | _=>none
  | _=>none
 | none=>none
theorem I6 {t:TypeId} {v:PV}:h_ T H .len [t] [v]=adP H (T.at t) v:=rfl
def Ll (T:Tab) (H:List Ob) (i:Option TyI) (s x:PV):Option Res:=match i with
 | some i=>match i.d with
  | .sl e=>match T.at e with
   | some ie=>if 0<ie.size then(match kG H ie.size x with
    | some (cd,ys)=>match s with
     | .nilsl=>some ⟨cd/\ys.length*ie.bytes<=140737488355328/\ys.length<=140737488355328,.lsl H.length 0 ys.length ie.size,H++[.row true ys]⟩
     | .clip xs=>if K7 x then some ⟨True,.clip xs,H⟩ else some ⟨cd/\0<ys.length/\(∀ y∈xs,y.length=ie.size)/\(xs.length+ys.length)*ie.bytes<=140737488355328/\xs.length+ys.length<=140737488355328,.lsl H.length 0 (xs.length+ys.length) ie.size,H++[.row true (xs++ys)]⟩
     | .lsl id 0 len s=>match H[id]? with
      | some (.row true xs)=>if s=ie.size then if QM id x then some ⟨cd/\len+ys.length<=xs.length,.lsl id 0 (len+ys.length) ie.size,H.set id (.row true (xs.take len++ys++xs.drop (len+ys.length)))⟩ else some ⟨cd/\len<=xs.length/\(len+ys.length)*ie.bytes<=140737488355328/\len+ys.length<=140737488355328,.lsl H.length 0 (len+ys.length) ie.size,H.set id .dead++[.row true (xs.take len++ys)]⟩ else none
      | _=>none
     | _=>none
    | none=>none) else none
   | none=>none
  | _=>none
 | none=>none
theorem DE {t:TypeId} {s x:PV}:h_ T H .append [t,t] [s,x]=Ll T H (T.at t) s x:=by
 show(if t=t then _ else none)=_;rw[if_pos rfl];rfl
theorem Nk {x:Operand} {t:TypeId} {u:cF _}:W1 P T (.call {callee:= .builtin .clear,args:=List.toArray [x],argTypes:=List.toArray [t]}) ⟨env,H⟩ K2 u=sy (h_ T H .clear [t] [ev env x]) K2 ⟨⟩:=rfl
def Rr (T:Tab) (H:List Ob) (i:Option TyI) (x:PV):Option Res:=match i with
 | some i=>match i.d with
  | .sl e=>match T.at e with
   | some ie=>match x with
    | .lsl id off len s=>match H[id]? with
     | some (.row true xs)=>if s=ie.size then some ⟨off+len<=xs.length,.tup [],H.set id (.row true (xs.take off))⟩ else none
     | _=>none
    | _=>none
   | none=>none
  | _=>none
 | none=>none
theorem GP {t:TypeId} {x:PV}:h_ T H .clear [t] [x]=Rr T H (T.at t) x:=rfl
def adQ (H:List Ob) (o:Option (IntKind×Int×Int)):Option Res:=match o with | some (k,a,b)=>Res.pure H (.int k (if b>a then b else a)) | none=>none
def adR (H:List Ob) (o:Option (IntKind×Int×Int)):Option Res:=match o with | some (k,a,b)=>Res.pure H (.int k (if b<a then b else a)) | none=>none
theorem Nl {t t':TypeId} {x y:PV}:h_ T H .max [t,t'] [x,y]=adQ H (nO x y):=rfl
theorem Nm {t t':TypeId} {x y:PV}:h_ T H .min [t,t'] [x,y]=adR H (nO x y):=rfl
def GoCall (P:Program) (st:St) (f:Option (FuncId×List PV×List PV)) (args:List PV) (K:PV->List Ob->Prop) (_:cF K):Prop:=match f with
 | some (k,pre,post)=> ∃ v H',CallRel P st.heap k (pre++args++post) v H'/\K v H'
 | none=>False
theorem Rs {f:Operand} {l:List Operand} {ts:Array TypeId} {u:cF _}:W1 P T (.call {callee:= .value f,args:=List.toArray l,argTypes:=ts}) ⟨env,H⟩ K2 u=GoCall P ⟨env,H⟩ (F6 (ev env f)) (l.map (ev env)) K2 ⟨⟩:=rfl
theorem Nn {k:FuncId}:F6 (.fv (.lit (.func (.func k) #[] #[])))=some (k,[],[]):=rfl
theorem No {k:FuncId} {v:Value}:F6 (.fv (.lit (.func (.func k) #[v] #[])))=some (k,[PV.ofValue v],[]):=rfl
theorem UD {b:Bool}:PV.ofValue (.agg #[.bool b])= .agg [.fv (.lit (.bool b))]:=rfl
theorem UE {n:Int}:PV.ofValue (.agg #[.int .i64 n])= .agg [.fv (.lit (.int .i64 n))]:=rfl
theorem UF {k:FuncId} {a b:List FV}:F6 (.fv (.fn (.func k) a b))=some (k,a.map .fv,b.map .fv):=rfl
theorem gp {k:FuncId} {pre post args:List PV} {args':List PV} {obs:List Ob} {res:PV} {t:cF _} (hd:Den P k [] args' obs res) (hf:cw H (pre++args++post)=some args')
 (hk:K2 (reloc (H.length+ ·) res) (shutAs H (pre++args++post)++obs.map (relocOb (H.length+ ·)))):GoCall P ⟨env,H⟩ (some (k,pre,post)) args K2 t:=⟨_,_,.pure _ _ _ hf hd,hk⟩
theorem gl_ (id:Nat) {k:FuncId} {pre post args:List PV} {args':List PV} {ob ob':Ob} {obs:List Ob} {res:PV} {t:cF _} (hd:Den P k [ob] args' (ob'::obs) res) (ho:H[id]?=some ob) (hrw:ob.rw=true) (hc:ob.closed)
 (hr:(pre++args++post).any (PV.refsTo id)=true) (hf:wb H id (pre++args++post)=some args') (hs:(shutBs H id (pre++args++post))[id]?=some ob)
 (hk:K2 (reloc (lent id H.length) res) ((shutBs H id (pre++args++post)).set id (relocOb (lent id H.length) ob')++obs.map (relocOb (lent id H.length)))):GoCall P ⟨env,H⟩ (some (k,pre,post)) args K2 t:=
 ⟨_,_,.lend id _ _ _ _ _ ho hrw hc hr hf hs hd,hk⟩
end
end Go.AM
