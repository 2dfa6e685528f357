/- The abstract machine:code,and the way from a weakest precondition to a contract. -/
import Derived.Test.YtjjbkjgifdhlcaaGreatT6
import Derived.Scope
import Derived.Test.YtjjbkjgifdhlcaaGreatT1
open List (replicate)
namespace Go.AM
def fzC (H:List Ob) (keep:List Nat):PV->Option PV
 | .ptr id i off=>match keep.idxOf? id with
  | some j=>some (.ptr j i off)
  | none=>(fz1 H (.ptr id i off)).map .fv
 | .lsl id off len s=>match keep.idxOf? id with
  | some j=>some (.lsl j off len s)
  | none=>(fz1 H (.lsl id off len s)).map .fv
 | v=>(fz1 H v).map .fv
def fzCs (H:List Ob) (keep:List Nat):List PV->Option (List PV)
 | []=>some []
 | v::vs=>match fzC H keep v,fzCs H keep vs with | some x,some xs=>some (x::xs) | _,_=>none
def fzV (H:List Ob) (keep:List Nat):PV->Option PV
 | .agg cs=>(fzCs H keep cs).map .agg
 | v=>fzC H keep v
def fzVs (H:List Ob) (keep:List Nat):List PV->Option (List PV)
 | []=>some []
 | v::vs=>match fzV H keep v,fzVs H keep vs with | some x,some xs=>some (x::xs) | _,_=>none
def fzX (H:List Ob) (keep:List Nat):PV->Option PV
 | .tup vs=>(fzVs H keep vs).map .tup
 | v=>fzV H keep v
def idsC (H:List Ob) (keep:List Nat):PV->List Nat
 | .ptr id i off=>if keep.idxOf? id=none then ids1 H (.ptr id i off) else []
 | .lsl id off len s=>if keep.idxOf? id=none then ids1 H (.lsl id off len s) else []
 | v=>ids1 H v
def idsV (H:List Ob) (keep:List Nat):PV->List Nat
 | .agg cs=>cs.flatMap (idsC H keep)
 | v=>idsC H keep v
def idsX (H:List Ob) (keep:List Nat):PV->List Nat
 | .tup vs=>vs.flatMap (idsV H keep)
 | v=>idsV H keep v
def resV1 (T:Tab) (st:St):ResultVar->Option (Prop×PV)
 | .tmp t=>some (True,st.get t)
 | .cell a t=>match T.at t,st.get a with
  | some i,.ptr id j off=>match cellsAt st.heap id j off i.size with
   | some (cd,cs)=>match oneOr i cs with
    | some v=>some (cd,v)
    | none=>none
   | none=>none
  | _,_=>none
def resVs (T:Tab) (st:St):List ResultVar->Option (Prop×List PV)
 | []=>some (True,[])
 | r::rs=>match resV1 T st r,resVs T st rs with
  | some (c1,v),some (c2,vs)=>some (c1/\c2,v::vs)
  | _,_=>none
def oneRes:List PV->PV
 | [v]=>v
 | vs=> .tup vs
def RetOK (T:Tab) (rs:List ResultVar) (m:Nat) (st:St) (H1:List Ob) (res:PV):Prop:=
 ∃ cd vs keep,resVs T st rs=some (cd,vs)/\cd/\keep.Nodup/\(∀ i,i<m->keep[i]?=some i)/\fzX st.heap keep (oneRes vs)=some res/\
  H1.length=keep.length/\(∀ (j id:Nat),keep[j]?=some id->(shutIds (idsX st.heap keep (oneRes vs)) st.heap)[id]?=H1[j]?)/\ ∀ o∈H1,o.closed/\o.rw=true
section
variable {P:Program} {T:Tab}
theorem HRd.world {c:Ctx} {w w':World} {X:Nat->Prop} {ρ:Places} {H:List Ob} (h:HRd c w X ρ H) (hw:w'.heap=w.heap):HRd c w' X ρ H:=by
 have hs:Same X w w':=⟨by rw[hw];exact qp _,fun b _ _=>by rw[hw]⟩;refine⟨h.len,fun id p o hp ho=>(h.ob id p o hp ho).keep hs (fun _ _ h=>h) (Places.Le.refl ρ) (fun _ g _ _=>⟨by rw[hw],Iff.rfl⟩),h.inj,fun id p o g hp ho hr hg=>by rw[hw];exact h.own id p o g hp ho hr hg,h.xo,
  fun b hb=>by rw[hw];exact h.xlt b hb,by rw[hw];exact h.ge,h.base⟩
theorem SRd.drew {c:Ctx} {st:St} {a:Act} {w:World} (h:SRd c st a w):SRd c st a {w with drawn:=w.drawn+1}:=by
 obtain⟨X,ρ,hh,he,hd,hk⟩:=h;refine⟨X,ρ,hh.world rfl,⟨he.1,fun i v x hv hx=>(he.2 i v x hv hx).mono ⟨qp _,fun _ _ _=>rfl⟩ (fun _ _ h=>h) (Places.Le.refl ρ)⟩,hd,⟨⟨hk.os,hk.tape,hk.output,hk.size,hk.block⟩,qnb hk.drawn (Nat.le_succ _)⟩⟩
theorem SRd.shut {c:Ctx} {st:St} {a:Act} {w:World} (h:SRd c st a w) (ids:List Nat):SRd c {st with heap:=shutIds ids st.heap} a w:=by
 obtain⟨X,ρ,hh,he,hd,hk⟩:=h;obtain⟨X',hh',hs,_⟩:=hh.shutIds ids;exact⟨X',ρ,hh',he.stp (c:=c) (Stp.same_world hs),hd,hk⟩
theorem wp_loop_n {cd:Code} {Q:Exit->Act->World->Prop} (J:Nat->Act->World->Prop) {n:Nat} {a:Act} {w:World} (h₀:J n a w)
 (round: ∀ n a w,J n a w->cd.wp P (Exit.then (fun a' w'=> ∃ m,m<n/\J m a' w') Q) a w):(Code.loop cd).wp P Q a w:=by
 intro b k cs
 have key: ∀ n a w,J n a w-> ∃ e a' w',Q e a' w'/\Arrives P (lone (b.at a (.code cd:: .inLoop cd::k)) cs w) b k cs e a' w':=by
  intro n
  induction n using Nat.strongRecOn with
  | _ n ih=>
   intro a w hI;obtain⟨e,a₁,w₁,hq,harr⟩:=round n a w hI b (.inLoop cd::k) cs;cases e with
   | normal=>
    obtain⟨m,hlt,hI₁⟩:=hq;obtain⟨e₂,a₂,w₂,hq₂,harr₂⟩:=ih m hlt a₁ w₁ hI₁;exact⟨e₂,a₂,w₂,hq₂,.of_steps (Steps.trans harr (.one step_inLoop)) harr₂⟩
   | exit id=>exact⟨_,a₁,w₁,hq,.pass (x:= .inLoop cd) rfl (fun _ _=> .inl (by simp)) harr⟩
   | goto l=>exact⟨_,a₁,w₁,hq,.pass (x:= .inLoop cd) rfl (fun _ _=> .inl (by simp)) harr⟩
   | ret=>exact⟨_,a₁,w₁,hq,.pass (x:= .inLoop cd) rfl (fun _ _=> .inl (by simp)) harr⟩
   | panic ch=>exact⟨_,a₁,w₁,hq,.pass (x:= .inLoop cd) rfl (fun _ _=> .inl (by simp)) harr⟩
   | outgrown=>exact⟨_,a₁,w₁,hq,.pass (x:= .inLoop cd) rfl (fun _ _=> .inl (by simp)) harr⟩
 obtain⟨e,a',w',hq,harr⟩:=key n a w h₀
 exact⟨e,a',w',hq,.of_steps (.one step_loop) harr⟩
def AExit.conv:AExit->Exit
 | .normal=> .normal
 | .exit id=> .exit id
 | .ret=> .ret
theorem wpa_sound (hT:TabOk P T) (hm:P.follows .mixedOrders=true) {m:Nat} {c:Ctx} (hml:c.base.length<=m): ∀ (cd:Code) {st:St} {Q:AExit->St->Prop} {a:Act} {w:World} {Q':Exit->Act->World->Prop},WPA P T m cd st Q->SRd c st a w->
 (∀ e st' a' w',Q e st'->SRd c st' a' w'->Q' e.conv a' w')->cd.wp P Q' a w
 | .skip,st,Q,a,w,Q',h,hs,hq=>wp_skip (hq .normal st a w h hs)
 | .label _,st,Q,a,w,Q',h,hs,hq=>wp_label (hq .normal st a w h hs)
 | .exit id,st,Q,a,w,Q',h,hs,hq=>wp_exit (hq (.exit id) st a w h hs)
 | .ret,st,Q,a,w,Q',h,hs,hq=>wp_ret (hq .ret st a w h hs)
 | .seq x y,st,Q,a,w,Q',h,hs,hq=>by
  refine wp_seq (wpa_sound hT hm hml x h hs (fun e st' a' w' he hs'=>?_));cases e with
  | normal=>exact wpa_sound hT hm hml y he hs' hq
  | exit id=>exact hq (.exit id) st' a' w' he hs'
  | ret=>exact hq .ret st' a' w' he hs'
 | .cond o x y,st,Q,a,w,Q',h,hs,hq=>by
  simp only[WPA] at h;split at h
  ·rename_i b hb;obtain⟨X,ρ,hh,he,hd,hk⟩:=hs;have hv:=eval_rd he o;rw[hb] at hv;refine wp_cond hv.litInv ?_;cases b with
   | true=>exact wpa_sound hT hm hml x (h.1 rfl) ⟨X,ρ,hh,he,hd,hk⟩ hq
   | false=>exact wpa_sound hT hm hml y (h.2 rfl) ⟨X,ρ,hh,he,hd,hk⟩ hq
  ·exact h.elim
 | .block id x,st,Q,a,w,Q',h,hs,hq=>by
  refine wp_block (wpa_sound hT hm hml x h hs (fun e st' a' w' he hs'=>?_));cases e with
  | normal=>exact hq .normal st' a' w' he hs'
  | exit i=>
   simp only at he;simp only[AExit.conv,Exit.inBlock];split
   ·rename_i hi;rw[if_pos hi] at he;exact hq .normal st' a' w' he hs'
   ·rename_i hi;rw[if_neg hi] at he;exact hq (.exit i) st' a' w' he hs'
  | ret=>exact hq .ret st' a' w' he hs'
 | .loop x,st,Q,a,w,Q',h,hs,hq=>by
  obtain⟨I,⟨n,st0,hw,hi⟩,hround⟩:=h;refine wp_loop_n (fun n a w=> ∃ st,I n st/\SRd c st a w) (n:=n) ⟨st0,hi,hw c a w hml hs⟩ (fun n a w ⟨st1,hi1,hs1⟩=>?_);refine wpa_sound hT hm hml x (hround n st1 hi1) hs1 (fun e st' a' w' he hs'=>?_);cases e with
  | normal=>
   obtain⟨m,st2,hlt,hw2,hi2⟩:=he;exact⟨m,hlt,st2,hi2,hw2 c a' w' hml hs'⟩
  | exit id=>exact hq (.exit id) st' a' w' he hs'
  | ret=>exact hq .ret st' a' w' he hs'
 | .region _ ops draw,st,Q,a,w,Q',h,hs,hq=>by
  simp only[WPA] at h;cases draw with
  | false=>
   simp only[Bool.false_eq_true,if_false] at h;refine wp_region ?_;have:=wpops_sound hT (Q:=Q') (c:=c) (K:=Q .normal) (fun st a w hk hs=>hq .normal st a w hk hs) ops.toList 0 st a w (by simp) h hs;rw[Array.length_toList] at this;rwa [List.range_eq_range']
  | true=>
   simp only[if_true] at h;rcases h with⟨hok,ids,h⟩ | ⟨st1,h,h1⟩
   ·exact wp_region_any hm (draw_sound hT hok h (fun st a w hk hs=>hq .normal st a w hk hs) (hs.shut ids).drew)
   ·exact wp_region_any hm (any_sound hT (K:=fun s=>s=st1) (fun st a w hk hs=>by subst hk;exact hq .normal st a w h1 hs) _ _ _ _ _ h hs.drew)
 | .rangeFunc ..,_,_,_,_,_,h,_,_=>h.elim
 | .scope x,st,Q,a,w,Q',h,hs,hq=>wp_scope_straight (wpa_sound hT hm hml x h hs (fun e st' a' w' he hs'=>by
  cases e with
  | normal=>exact hq .normal st' a' w' he hs'
  | exit i=>exact hq (.exit i) st' a' w' he hs'
  | ret=>exact hq .ret st' a' w' he hs'))
 | .goto _,_,_,_,_,_,h,_,_=>h.elim
 | .refuse _,_,_,_,_,_,h,_,_=>h.elim
end
end Go.AM
namespace Go.AM
section
variable {P:Program} {T:Tab}
theorem load_at (hT:TabOk P T) {t:TypeId} {i:TyI} (hi:T.at t=some i) {c:Ctx} {w:World} {X:Nat->Prop} {ρ:Places} {F:List Ob} (h:HRd c w X ρ F) {id j off:Nat} {u0:Value} (hx:PRd w X ρ u0 (.ptr id j off))
 {cd:Prop} {cs:List PV} (hcs:cellsAt F id j off i.size=some (cd,cs)) (hc:cd) {v:PV} (hone:oneOr i cs=some v):
 ∃ ad u,u0= .pointer (some ad)/\(loadVar t ad).run P w= .ok u w/\PRd w X ρ u v:=by
 cases hx with
 | ptr _ _ _ g p hp hg=>
  unfold cellsAt at hcs;split at hcs
  ·rename_i rw xs hob;simp only[qo,Prod.mk.injEq] at hcs;obtain⟨rfl,rfl⟩:=hcs;obtain⟨hjl,hoff⟩:=hc;obtain⟨⟨hpos,hlen,us,hus,hcell⟩,_⟩:=h.ob id p _ hp hob;have hgj:xs[j]?=some (xs.getD j []):=by simp[hjl]
   have hown:World.ownsRow w 0 p.e p.size (.slice (some ⟨g,0,none⟩) xs.length p.cap) xs.length us:=by simpa [Place.val,hg] using hus
   have hfl:(((xs.getD j []).drop off).take i.size).length=i.size:=by simp only[qf,qt];omega
   have hget: ∀ (k:Nat) y,((((xs.getD j []).drop off).take i.size).map PV.fv)[k]?=some y-> ∃ z u,y= .fv z/\us[j*p.size+(off+k)]?=some u/\FRd w X u z:=by
    intro k y hy;rw[List.getElem?_map,Option.map_eq_some_iff] at hy;obtain⟨z,hz,rfl⟩:=hy;rw[List.getElem?_take] at hz;split at hz
    ·rw[List.getElem?_drop] at hz;obtain⟨u,hu,hfu⟩:=hcell j (off+k) _ z hgj hz;exact⟨z,u,rfl,hu,hfu⟩
    ·cases hz
   obtain⟨u,hrun,hrd⟩:=load_rd hT hi (w:=w) (X:=X) (ρ:=ρ) (ad:=⟨g,j*p.size+off,none⟩) rfl (us:=fun k=>us.getD (j*p.size+(off+k)) undef) (by simpa using hfl)
    (fun k y hy=>by
     obtain⟨z,u,_,hu,_⟩:=hget k y hy;have:=hown.cells (g:=g) rfl _ u hu;rw[addr_add,Nat.zero_add] at this;simp only[qa,hu,Option.getD_some,Nat.add_assoc];exact this)
    (fun k y hy=>by
     obtain⟨z,u,_,hu,hfu⟩:=hget k y hy;simp only[qa,hu,Option.getD_some];exact hfu.one)
    (fun k y hy=>by
     obtain⟨z,u,rfl,hu,hfu⟩:=hget k y hy;simp only[qa,hu,Option.getD_some];exact .fv _ _ hfu) hone
   exact⟨_,u,rfl,hrun,hrd⟩
  ·rename_i rw bs hob;simp only[qo,Prod.mk.injEq] at hcs;obtain⟨rfl,rfl⟩:=hcs;obtain⟨rfl,hoff⟩:=hc;obtain⟨⟨g',us,hg',hh,hsz,h1,hcell⟩,_⟩:=h.ob id p _ hp hob;rw[hg] at hg';cases hg';have hfl:((bs.drop off).take i.size).length=i.size:=by simp only[qf,qt];omega
   have hget: ∀ (k:Nat) y,((bs.drop off).take i.size)[k]?=some y-> ∃ u,us[off+k]?=some u/\PRd w X ρ u y:=by
    intro k y hy;rw[List.getElem?_take] at hy;split at hy
    ·rw[List.getElem?_drop] at hy;have hlt:off+k<us.size:=by rw[hsz];exact(List.getElem?_eq_some_iff.1 hy).1
     exact⟨us[off+k],Array.getElem?_eq_getElem hlt,hcell _ _ _ (Array.getElem?_eq_getElem hlt) hy⟩
    ·cases hy
   obtain⟨u,hrun,hrd⟩:=load_rd hT hi (w:=w) (X:=X) (ρ:=ρ) (ad:=⟨g,0*p.size+off,none⟩) rfl (us:=fun k=>us.getD (off+k) undef) hfl
    (fun k y hy=>by
     obtain⟨u,hu,_⟩:=hget k y hy;rw[cell_of_row w g _ us _ _ hh];simp only[Nat.zero_mul,Nat.zero_add,Array.getD_eq_getD_getElem?,hu,Option.getD_some])
    (fun k y hy=>by
     obtain⟨u,hu,_⟩:=hget k y hy;simp only[Array.getD_eq_getD_getElem?,hu,Option.getD_some];exact h1 _ _ hu)
    (fun k y hy=>by
     obtain⟨u,hu,hfu⟩:=hget k y hy;simp only[Array.getD_eq_getD_getElem?,hu,Option.getD_some];exact hfu) hone
   exact⟨_,u,rfl,hrun,hrd⟩
  ·cases hcs
def readRes (tmps:Array Value):ResultVar->Sem Value
 | .tmp t=>pure (tmps.getD t undef)
 | .cell a t=>do loadVar t (<-asAddr (tmps.getD a undef))
theorem res1_rd (hT:TabOk P T) {c:Ctx} {w:World} {X:Nat->Prop} {ρ:Places} {st:St} {tmps:Array Value} (h:HRd c w X ρ st.heap) (he:EnvRd w X ρ tmps st.env) {r:ResultVar} {cd:Prop} {v:PV}
 (hr:resV1 T st r=some (cd,v)) (hc:cd): ∃ u,(readRes tmps r).run P w= .ok u w/\PRd w X ρ u v:=by
 have hev:=fun t=>eval_rd (a:={tmps,defers:=[]}) he (.tmp t)
 simp only[Act.eval,ev] at hev
 cases r with
 | tmp t=>
  simp only[resV1,qo,Prod.mk.injEq] at hr;obtain⟨rfl,rfl⟩:=hr;exact⟨_,rfl,hev t⟩
 | cell a t=>
  simp only[resV1] at hr;split at hr
  ·rename_i i id j off hi hv;split at hr
   ·rename_i cd' cs hcs;split at hr
    ·rename_i v' hone;simp only[qo,Prod.mk.injEq] at hr;obtain⟨rfl,rfl⟩:=hr;have ha:=hev a;unfold St.get at hv;rw[hv] at ha;obtain⟨ad,u,hu,hrun,hrd⟩:=load_at hT hi h ha hcs hc hone;refine⟨u,?_,hrd⟩;simp only[readRes,hu,asAddr,Sem.run_bind,Sem.run_pure,Result.andThen_ok,hrun]
    ·cases hr
   ·cases hr
  ·cases hr
theorem ress_rd (hT:TabOk P T) {c:Ctx} {w:World} {X:Nat->Prop} {ρ:Places} {st:St} {tmps:Array Value} (h:HRd c w X ρ st.heap) (he:EnvRd w X ρ tmps st.env):
 ∀ (rs:List ResultVar) (cd:Prop) (vs:List PV),resVs T st rs=some (cd,vs)->cd-> ∃ us:List Value,(rs.mapM (readRes tmps)).run P w= .ok us w/\us.length=vs.length/\ ∀ (i:Nat) u v,us[i]?=some u->vs[i]?=some v->PRd w X ρ u v
 | [],cd,vs,hr,_=>by
  simp only[resVs,qo,Prod.mk.injEq] at hr;obtain⟨rfl,rfl⟩:=hr;exact⟨[],rfl,rfl,by simp⟩
 | r::rs,cd,vs,hr,hc=>by
  simp only[resVs] at hr;split at hr
  ·rename_i c1 v c2 vs' h1 h2;simp only[qo,Prod.mk.injEq] at hr;obtain⟨rfl,rfl⟩:=hr;obtain⟨u,hu,hur⟩:=res1_rd hT h he h1 hc.1;obtain⟨us,hus,hl,hrel⟩:=ress_rd hT h he rs c2 vs' h2 hc.2;refine⟨u::us,by simp[List.mapM_cons,hu,hus],by simp[hl],fun i u' v' hi hv=>?_⟩;cases i with
   | zero=>simp at hi hv;subst hi;subst hv;exact hur
   | succ i=>simp at hi hv;exact hrel i u' v' hi hv
  ·cases hr
theorem results_run (hT:TabOk P T) {fn:Func} {c:Ctx} {w:World} {X:Nat->Prop} {ρ:Places} {st:St} {tmps:Array Value} (h:HRd c w X ρ st.heap) (he:EnvRd w X ρ tmps st.env) {cd:Prop} {vs:List PV}
 (hr:resVs T st fn.results.toList=some (cd,vs)) (hc:cd): ∃ u,(results fn tmps).run P w= .ok u w/\PRd w X ρ u (oneRes vs):=by
 obtain⟨us,hus,hl,hrel⟩:=ress_rd hT h he _ cd vs hr hc
 have e:results fn tmps=(do let vs<-fn.results.mapM (readRes tmps);pure (if h:vs.size=1 then vs[0] else .tuple vs)):=by
  unfold results;congr 1
 have hmap:(fn.results.mapM (readRes tmps)).run P w= .ok us.toArray w:=by
  rw[Array.mapM_eq_mapM_toList];simp[hus]
 rw[e]
 simp only[Sem.run_bind,hmap,Result.andThen_ok,Sem.run_pure]
 by_cases h1:us.length=1
 ·match us,vs,h1,hl,hrel with
  | [u],[v],_,_,hrel=>exact⟨u,by simp,hrel 0 u v rfl rfl⟩
 ·refine⟨.tuple us.toArray,by simp[h1],?_⟩
  have:oneRes vs= .tup vs:=by
   unfold oneRes;split
   ·rename_i v;simp at hl;exact absurd hl h1
   ·rfl
  rw[this]
  refine .tup _ _ (by simpa using hl) (fun i u v hu hv=>hrel i u v (by simpa using hu) hv)
theorem fzC_rd {c:Ctx} {w:World} {X X':Nat->Prop} {ρ ρ':Places} {H:List Ob} {keep:List Nat} (h:HRd c w X ρ H) {u:Value} {x y:PV} (hv:PRd w X ρ u x) (hf:fzC H keep x=some y) (hX: ∀ b,X' b->X b)
 (hn: ∀ id∈idsC H keep x,∀ p o g,ρ[id]?=some (some p)->H[id]?=some o->o.alive->p.b=some g-> ¬X' g) (hρ: ∀ (id j:Nat) p,keep.idxOf? id=some j->ρ[id]?=some (some p)->ρ'[j]?=some (some p)):PRd w X' ρ' u y:=by
 have plain: ∀ z,fz1 H x=some z->(∀ id∈ids1 H x,∀ p o g,ρ[id]?=some (some p)->H[id]?=some o->o.alive->p.b=some g-> ¬X' g)->PRd w X' ρ' u (.fv z):=
  fun z hz hn=> .fv _ _ (fz1_rd h (fun _ _ h=>h) hv hz hX hn)
 cases x with
 | ptr id i off=>
  simp only[fzC] at hf;split at hf
  ·rename_i j hj;cases hf;cases hv with
   | ptr _ _ _ g p hp hg=>exact .ptr j i off g p (hρ id j p hj hp) hg
  ·rename_i hj;rw[Option.map_eq_some_iff] at hf;obtain⟨z,hz,rfl⟩:=hf;exact plain z hz (fun k hk=>hn k (by simp only[idsC,hj,if_true];exact hk))
 | lsl id off len s=>
  simp only[fzC] at hf;split at hf
  ·rename_i j hj;cases hf;obtain⟨p,hp,hps,⟨hg,rfl,rfl,rfl⟩ | ⟨g,og,hg,rfl,hl,hoo⟩⟩:=hv.lslInv
   ·subst hps;exact .lsl0 j p (hρ id j p hj hp) hg
   ·subst hps;exact .lsl j off len og g p (hρ id j p hj hp) hg hl hoo
  ·rename_i hj;rw[Option.map_eq_some_iff] at hf;obtain⟨z,hz,rfl⟩:=hf;exact plain z hz (fun k hk=>hn k (by simp only[idsC,hj,if_true];exact hk))
 | any=>simp[fzC,fz1,fz0] at hf
 | agg _=>simp[fzC,fz1,fz0] at hf
 | tup _=>simp[fzC,fz1,fz0] at hf
 | tab _=>simp[fzC,fz1,fz0] at hf
 | fv z=>
  simp only[fzC,Option.map_eq_some_iff] at hf;obtain⟨z,hz,rfl⟩:=hf;exact plain z hz (fun k hk=>hn k hk)
 | nilsl=>
  simp only[fzC,Option.map_eq_some_iff] at hf;obtain⟨z,hz,rfl⟩:=hf;exact plain z hz (fun k hk=>hn k hk)
 | clip xs=>
  simp only[fzC,Option.map_eq_some_iff] at hf;obtain⟨z,hz,rfl⟩:=hf;exact plain z hz (fun k hk=>hn k hk)
theorem fzCs_get {H:List Ob} {keep:List Nat}: ∀ {xs ys:List PV},fzCs H keep xs=some ys->ys.length=xs.length/\ ∀ (i:Nat) y,ys[i]?=some y-> ∃ x,xs[i]?=some x/\fzC H keep x=some y
 | [],ys,h=>by simp[fzCs] at h;subst h;simp
 | x::xs,ys,h=>by
  simp only[fzCs] at h;split at h
  ·rename_i y ys' h1 h2;cases h;obtain⟨hl,hg⟩:=fzCs_get h2;refine⟨by simp[hl],fun i z hz=>?_⟩;cases i with
   | zero=>simp at hz;subst hz;exact⟨x,rfl,h1⟩
   | succ i=>simp at hz ⊢;exact hg i z hz
  ·cases h
theorem fzVs_get {H:List Ob} {keep:List Nat}: ∀ {xs ys:List PV},fzVs H keep xs=some ys->ys.length=xs.length/\ ∀ (i:Nat) y,ys[i]?=some y-> ∃ x,xs[i]?=some x/\fzV H keep x=some y
 | [],ys,h=>by simp[fzVs] at h;subst h;simp
 | x::xs,ys,h=>by
  simp only[fzVs] at h;split at h
  ·rename_i y ys' h1 h2;cases h;obtain⟨hl,hg⟩:=fzVs_get h2;refine⟨by simp[hl],fun i z hz=>?_⟩;cases i with
   | zero=>simp at hz;subst hz;exact⟨x,rfl,h1⟩
   | succ i=>simp at hz ⊢;exact hg i z hz
  ·cases h
theorem fzV_rd {c:Ctx} {w:World} {X X':Nat->Prop} {ρ ρ':Places} {H:List Ob} {keep:List Nat} (h:HRd c w X ρ H) {u:Value} {x y:PV} (hv:PRd w X ρ u x) (hf:fzV H keep x=some y) (hX: ∀ b,X' b->X b)
 (hn: ∀ id∈idsV H keep x,∀ p o g,ρ[id]?=some (some p)->H[id]?=some o->o.alive->p.b=some g-> ¬X' g) (hρ: ∀ (id j:Nat) p,keep.idxOf? id=some j->ρ[id]?=some (some p)->ρ'[j]?=some (some p)):PRd w X' ρ' u y:=by
 by_cases hagg: ∃ cs,x= .agg cs
 ·obtain⟨cs,rfl⟩:=hagg
  simp only[fzV,Option.map_eq_some_iff] at hf
  obtain⟨ys,hys,rfl⟩:=hf
  obtain⟨hl,hg⟩:=fzCs_get hys
  cases hv with
  | agg us _ hsz h1 hr=>
   refine .agg us ys (by rw[hl];exact hsz) h1 (fun i u' y hu hy=>?_);obtain⟨x,hx,hfx⟩:=hg i y hy;refine fzC_rd h (hr i u' x hu hx) hfx hX (fun k hk=>hn k ?_) hρ;simp only[idsV,List.mem_flatMap];exact⟨x,List.mem_of_getElem? hx,hk⟩
 ·have e1:fzV H keep x=fzC H keep x:=by
   unfold fzV;split
   ·exact absurd ⟨_,rfl⟩ hagg
   ·rfl
  have e2:idsV H keep x=idsC H keep x:=by
   unfold idsV;split
   ·exact absurd ⟨_,rfl⟩ hagg
   ·rfl
  rw[e1] at hf
  rw[e2] at hn
  exact fzC_rd h hv hf hX hn hρ
theorem fzX_rd {c:Ctx} {w:World} {X X':Nat->Prop} {ρ ρ':Places} {H:List Ob} {keep:List Nat} (h:HRd c w X ρ H) {u:Value} {x y:PV} (hv:PRd w X ρ u x) (hf:fzX H keep x=some y) (hX: ∀ b,X' b->X b)
 (hn: ∀ id∈idsX H keep x,∀ p o g,ρ[id]?=some (some p)->H[id]?=some o->o.alive->p.b=some g-> ¬X' g) (hρ: ∀ (id j:Nat) p,keep.idxOf? id=some j->ρ[id]?=some (some p)->ρ'[j]?=some (some p)):PRd w X' ρ' u y:=by
 by_cases htup: ∃ cs,x= .tup cs
 ·obtain⟨cs,rfl⟩:=htup
  simp only[fzX,Option.map_eq_some_iff] at hf
  obtain⟨ys,hys,rfl⟩:=hf
  obtain⟨hl,hg⟩:=fzVs_get hys
  cases hv with
  | tup us _ hsz hr=>
   refine .tup us ys (by rw[hl];exact hsz) (fun i u' y hu hy=>?_);obtain⟨x,hx,hfx⟩:=hg i y hy;refine fzV_rd h (hr i u' x hu hx) hfx hX (fun k hk=>hn k ?_) hρ;simp only[idsX,List.mem_flatMap];exact⟨x,List.mem_of_getElem? hx,hk⟩
 ·have e1:fzX H keep x=fzV H keep x:=by
   unfold fzX;split
   ·exact absurd ⟨_,rfl⟩ htup
   ·rfl
  have e2:idsX H keep x=idsV H keep x:=by
   unfold idsX;split
   ·exact absurd ⟨_,rfl⟩ htup
   ·rfl
  rw[e1] at hf
  rw[e2] at hn
  exact fzV_rd h hv hf hX hn hρ
theorem den_of_wpa (hT:TabOk P T) (hm:P.follows .mixedOrders=true) {k:FuncId} {fn:Func} {cd:Code} (hf:P.funcs[k]?=some fn) (hb:fn.body=some cd) (hname:(fn.name== "runtime.NumGoroutine")=false)
 {H0:List Ob} {args:List PV} {H1:List Ob} {res:PV}
 (h:WPA P T H0.length cd ⟨args++replicate (fn.ntmps - args.length) .any,H0⟩ fun e st=>match e with | .exit _=>False | _=>RetOK T fn.results.toList H0.length st H1 res):Den P k H0 args H1 res:=by
 refine⟨⟨fn,cd,hf,hb,hname⟩,fun c X ρ vs hh hM hvs=>?_⟩
 refine calls_of_wp hf hb ?_
 let c2:Ctx:={c with base:=ρ}
 have hh2:HRd c2 c.w0 X ρ H0:=⟨hh.len,hh.ob,hh.inj,hh.own,hh.xo,hh.xlt,hh.ge,Places.Le.refl ρ⟩
 have hs:SRd c2 ⟨args++replicate (fn.ntmps - args.length) .any,H0⟩ {tmps:=vs++Array.replicate (fn.ntmps - vs.size) undef,defers:=[]} c.w0:=by
  refine⟨X,ρ,hh2,⟨by simp[hvs.1],fun i v x hv hx=>?_⟩,rfl,Keeps.refl c2⟩;by_cases hi:i<vs.size
  ·rw[Array.getElem?_append_left hi] at hv;rw[qi (by rw[<-hvs.1];exact hi)] at hx;exact hvs.2 i v x hv hx
  ·rw[qh (by rw[<-hvs.1];omega),List.getElem?_replicate] at hx;split at hx
   ·cases hx;exact .any _
   ·cases hx
 have fin: ∀ st' a' w',RetOK T fn.results.toList H0.length st' H1 res->SRd c2 st' a' w'->a'.defers=[]/\ ∃ v,(results fn a'.tmps).run P w'= .ok v w'/\ ∃ v2 X' ρ',Ending.returned v= .returned v2/\Keeps c w'/\HRd c w' X' ρ' H1/\PRd w' X' ρ' v2 res/\
  ρ.Le ρ'/\(∀ (id:Nat) p,ρ.length<=id->ρ'[id]?=some (some p)-> ∀ g,p.b=some g->c.w0.heap.size<=g):=by
  intro st' a' w' hret ⟨X',ρ',h',he',hd',hk'⟩
  obtain⟨cd',vs',keep,hres,hcd,hnd,hkeep,hfz,hlen,hobs,hcl⟩:=hret
  obtain⟨u,hrun,hu⟩:=results_run hT h' he' hres hcd
  obtain⟨X1,h1,hs1,hn1⟩:=h'.shutIds (idsX st'.heap keep (oneRes vs'))
  have hkl: ∀ (j id:Nat),keep[j]?=some id-> ∃ o,(shutIds (idsX st'.heap keep (oneRes vs')) st'.heap)[id]?=some o/\H1[j]?=some o/\o.closed/\o.rw=true:=by
   intro j id hj;have hjl:j<H1.length:=by rw[hlen];exact(List.getElem?_eq_some_iff.1 hj).1
   have hoj:=hobs j id hj;have hg:H1[j]?=some H1[j]:=by simp[hjl]
   rw[hg] at hoj;exact⟨H1[j],hoj,hg,hcl _ (qqb _)⟩
  have hinjk: ∀ i j id,keep[i]?=some id->keep[j]?=some id->i=j:=fun i j id hi hj=>by
   obtain⟨hi1,hi2⟩:=List.getElem?_eq_some_iff.1 hi;obtain⟨hj1,hj2⟩:=List.getElem?_eq_some_iff.1 hj;exact(List.getElem_inj hnd).1 (hi2.trans hj2.symm)
  let ρk:Places:=keep.map fun id=>(ρ'[id]?).getD none
  have hρk: ∀ (j id:Nat) p,keep[j]?=some id->ρk[j]?=some (some p)->ρ'[id]?=some (some p):=by
   intro j id p hj hp;simp only[ρk,List.getElem?_map,hj,Option.map_some,qo] at hp;cases hg:ρ'[id]? with
   | none=>rw[hg] at hp;cases hp
   | some q=>rw[hg] at hp;simp at hp;rw[hp]
  have hρk2: ∀ (id j:Nat) p,keep.idxOf? id=some j->ρ'[id]?=some (some p)->ρk[j]?=some (some p):=by
   intro id j p hj hp;have hkj:keep[j]?=some id:=by
    rw[List.idxOf?,List.findIdx?_eq_some_iff_getElem] at hj;obtain⟨hjl,h2,_⟩:=hj;simp only[beq_iff_eq] at h2;simp[hjl,h2]
   simp only[ρk,List.getElem?_map,hkj,Option.map_some,hp,Option.getD_some]
  have hget: ∀ (j:Nat) p,ρk[j]?=some (some p)-> ∃ id,keep[j]?=some id/\ρ'[id]?=some (some p):=by
   intro j p hp;have hjl:j<keep.length:=by have:=(List.getElem?_eq_some_iff.1 hp).1;simpa [ρk] using this
   exact⟨keep[j],by simp[hjl],hρk j _ p (by simp[hjl]) hp⟩
  have hle:ρ.Le ρk:=by
   intro i p hp;have hil:i<H0.length:=by rw[<-hh.len];exact(List.getElem?_eq_some_iff.1 hp).1
   have:=h'.base i p hp;simp only[ρk,List.getElem?_map,hkeep i hil,Option.map_some,this,Option.getD_some]
  refine⟨hd',u,hrun,u,X1,ρk,rfl,⟨⟨hk'.os,hk'.tape,hk'.output,hk'.size,hk'.block⟩,hk'.drawn⟩,⟨by simp[ρk,hlen],?_,?_,?_,h1.xo,h1.xlt,h1.ge,hh.base.trans hle⟩,?_,hle,?_⟩
  ·intro j p o hp ho
   obtain⟨id,hj,hp'⟩:=hget j p hp
   obtain⟨o',h3,h4,h5,_⟩:=hkl j id hj
   rw[ho] at h4;cases h4
   exact(h1.ob id p o hp' h3).closed h5
  ·intro i j p q o r g hp hq ho hr ho1 hr1 hb1 hb2
   obtain⟨id1,hi,hp'⟩:=hget i p hp
   obtain⟨id2,hj,hq'⟩:=hget j q hq
   obtain⟨o',h3,h4,_,_⟩:=hkl i id1 hi
   obtain⟨r',h5,h6,_,_⟩:=hkl j id2 hj
   rw[ho] at h4;cases h4
   rw[hr] at h6;cases h6
   have:=h1.inj id1 id2 p q o r g hp' hq' h3 h5 ho1 hr1 hb1 hb2
   subst this
   exact hinjk i j id1 hi hj
  ·intro j p o g hp ho ho1 hb1
   obtain⟨id,hj,hp'⟩:=hget j p hp
   obtain⟨o',h3,h4,_,_⟩:=hkl j id hj
   rw[ho] at h4;cases h4
   exact h1.own id p o g hp' h3 ho1 hb1
  ·exact fzX_rd h' hu hfz hs1 hn1 hρk2
  ·intro j p hjm hp g hg
   obtain⟨id,hj,hp'⟩:=hget j p hp
   obtain⟨o,h3,h4,_,hrw⟩:=hkl j id hj
   rcases(h1.own id p o g hp' h3 hrw hg).1 with h5 | h5
   ·exact h5
   ·exfalso
    obtain⟨id2,q,hq,hqg⟩:=hM g h5
    have hil:id2<H0.length:=by rw[<-hh.len];exact(List.getElem?_eq_some_iff.1 hq).1
    have hq':=h'.base id2 q hq
    obtain⟨o2,h6,_,_,hrw2⟩:=hkl id2 id2 (hkeep id2 hil)
    have:=h1.inj id id2 p q o o2 g hp' hq' h3 h6 hrw hrw2 hg hqg
    subst this
    have:=hinjk j id id hj (hkeep id hil)
    rw[hh.len] at hjm
    omega
 refine wpa_sound hT hm (m:=H0.length) (by show ρ.length<=_;rw[hh.len];exact qp _) cd h hs (fun e st' a' w' he hs'=>?_)
 cases e with
 | normal=>exact fin st' a' w' he hs'
 | ret=>exact fin st' a' w' he hs'
 | exit id=>exact he.elim
end
end Go.AM
namespace Go.AM
theorem Weak.refl (m:Nat) (st:St):Weak m st st:=fun _ _ _ _ h=>h
theorem Weak.trans {m:Nat} {a b c:St} (h:Weak m a b) (k:Weak m b c):Weak m a c:=fun x y z hl hs=>k x y z hl (h x y z hl hs)
def le1 (keep:List Nat):PV->PV->Prop
 | .fv x,.fv y=>x=y
 | .nilsl,.nilsl=>True
 | .nilsl,.fv (.sl [])=>True
 | .clip xs,.clip ys=>xs=ys
 | .clip xs,.fv (.sl ys)=>xs=ys
 | .ptr id i off,.ptr j i' off'=>keep[j]?=some id/\i=i'/\off=off'
 | .lsl id off len s,.lsl j off' len' s'=>keep[j]?=some id/\off=off'/\len=len'/\s=s'
 | .tup [],.tup []=>True
 | .tab id,.tab j=>keep[j]?=some id
 | _,.any=>True
 | _,_=>False
def le1s (keep:List Nat):List PV->List PV->Prop
 | [],[]=>True
 | a::as,b::bs=>le1 keep a b/\le1s keep as bs
 | _,_=>False
def leV (keep:List Nat):PV->PV->Prop
 | .agg cs,.agg ds=>le1s keep cs ds
 | a,b=>le1 keep a b
def leVs (keep:List Nat):List PV->List PV->Prop
 | [],[]=>True
 | a::as,b::bs=>leV keep a b/\leVs keep as bs
 | _,_=>False
def leO (keep:List Nat):Ob->Ob->Prop
 | .row r xs,.row r' ys=>r=r'/\xs=ys
 | .box r cs,.box r' ds=>r=r'/\le1s keep cs ds
 | .tab n es,.tab n' es'=>n=n'/\es=es'
 | _,.dead=>True
 | _,_=>False
def leH (keep:List Nat) (H:List Ob):List Nat->List Ob->Prop
 | [],[]=>True
 | id::ids,o::os=>(match H[id]? with | some o'=>leO keep o' o | none=>False)/\leH keep H ids os
 | _,_=>False
section
variable {w:World} {X:Nat->Prop} {ρ ρ':Places} {keep:List Nat}
theorem le1_rd (hk: ∀ (j id:Nat),keep[j]?=some id->ρ'[j]?=ρ[id]?) {v:Value}: ∀ {x y:PV},le1 keep x y->PRd w X ρ v x->PRd w X ρ' v y:=by
 intro x y h hv;unfold le1 at h;split at h
 ·subst h;cases hv;exact .fv _ _ ‹_›
 ·cases hv;exact .nilsl
 ·cases hv;exact .fv _ _ .nil
 ·subst h;cases hv;exact .clip _ _ _ ‹_›
 ·subst h;cases hv;exact .fv _ _ ‹_›
 ·obtain⟨h1,rfl,rfl⟩:=h;cases hv with
  | ptr _ _ _ g p hp hg=>exact .ptr _ _ _ g p (by rw[hk _ _ h1];exact hp) hg
 ·obtain⟨h1,rfl,rfl,rfl⟩:=h;cases hv with
  | lsl0 _ p hp hg=>exact .lsl0 _ p (by rw[hk _ _ h1];exact hp) hg
  | lsl _ _ _ o g p hp hg hl ho=>exact .lsl _ _ _ o g p (by rw[hk _ _ h1];exact hp) hg hl ho
 ·cases hv with
  | tup us _ hn hr=>exact .tup us [] hn (by simp)
 ·cases hv with
  | tab _ g p hp hg=>exact .tab _ g p (by rw[hk _ _ h];exact hp) hg
 ·exact .any _
 ·exact h.elim
theorem le1s_get: ∀ {as bs:List PV},le1s keep as bs->as.length=bs.length/\ ∀ (i:Nat) a b,as[i]?=some a->bs[i]?=some b->le1 keep a b
 | [],[],_=>⟨rfl,by simp⟩
 | a::as,b::bs,h=>by
  obtain⟨h1,h2⟩:=h;obtain⟨hl,hg⟩:=le1s_get h2;refine⟨by simp[hl],fun i x y hx hy=>?_⟩;cases i with
  | zero=>simp at hx hy;subst hx;subst hy;exact h1
  | succ i=>exact hg i x y (by simpa using hx) (by simpa using hy)
 | [],_::_,h=>h.elim
 | _::_,[],h=>h.elim
theorem leV_rd (hk: ∀ (j id:Nat),keep[j]?=some id->ρ'[j]?=ρ[id]?) {v:Value} {x y:PV} (h:leV keep x y) (hv:PRd w X ρ v x):PRd w X ρ' v y:=by
 unfold leV at h;split at h
 ·obtain⟨hl,hg⟩:=le1s_get h;cases hv with
  | agg us _ hn h1 hr=>
   refine .agg us _ (hn.trans hl) h1 (fun i u c hu hc=>?_);rename_i cs ds;have hi:i<cs.length:=by rw[hl];exact(List.getElem?_eq_some_iff.1 hc).1
   exact le1_rd hk (hg i cs[i] c (by simp[hi]) hc) (hr i u cs[i] hu (by simp[hi]))
 ·exact le1_rd hk h hv
theorem leVs_get: ∀ {as bs:List PV},leVs keep as bs->as.length=bs.length/\ ∀ (i:Nat) a b,as[i]?=some a->bs[i]?=some b->leV keep a b
 | [],[],_=>⟨rfl,by simp⟩
 | a::as,b::bs,h=>by
  obtain⟨h1,h2⟩:=h;obtain⟨hl,hg⟩:=leVs_get h2;refine⟨by simp[hl],fun i x y hx hy=>?_⟩;cases i with
  | zero=>simp at hx hy;subst hx;subst hy;exact h1
  | succ i=>exact hg i x y (by simpa using hx) (by simpa using hy)
 | [],_::_,h=>h.elim
 | _::_,[],h=>h.elim
theorem leO_rd (hk: ∀ (j id:Nat),keep[j]?=some id->ρ'[j]?=ρ[id]?) {p:Place} {o o':Ob} (h:leO keep o o') (ho:ObRd w X ρ p o):ObRd w X ρ' p o':=by
 unfold leO at h;split at h
 ·obtain⟨rfl,rfl⟩:=h;exact ho
 ·obtain⟨rfl,h⟩:=h;obtain⟨⟨g,us,hg,hb,hsz,h1,hr⟩,hx⟩:=ho;obtain⟨hl,hgt⟩:=le1s_get h;refine⟨⟨g,us,hg,hb,hsz.trans hl,h1,fun i u c hu hc=>?_⟩,hx⟩;rename_i cs ds;have hi:i<cs.length:=by rw[hl];exact(List.getElem?_eq_some_iff.1 hc).1
  exact le1_rd hk (hgt i cs[i] c (by simp[hi]) hc) (hr i u cs[i] hu (by simp[hi]))
 ·obtain⟨rfl,rfl⟩:=h;exact ho
 ·trivial
 ·exact h.elim
theorem leO_rw {o o':Ob} (h:leO keep o o') (hr:o'.rw=true):o.rw=true:=by
 unfold leO at h;split at h
 ·obtain⟨rfl,rfl⟩:=h;exact hr
 ·obtain⟨rfl,h⟩:=h;exact hr
 ·obtain⟨rfl,rfl⟩:=h;exact hr
 ·cases hr
 ·exact h.elim
theorem leH_get {H:List Ob}: ∀ {ids:List Nat} {os:List Ob},leH keep H ids os->ids.length=os.length/\ ∀ (j:Nat) id o,ids[j]?=some id->os[j]?=some o-> ∃ o',H[id]?=some o'/\leO keep o' o
 | [],[],_=>⟨rfl,by simp⟩
 | a::as,b::bs,h=>by
  obtain⟨h1,h2⟩:=h;obtain⟨hl,hg⟩:=leH_get h2;refine⟨by simp[hl],fun i x y hx hy=>?_⟩;cases i with
  | zero=>
   simp at hx hy;subst hx;subst hy;split at h1
   ·exact⟨_,‹_›,h1⟩
   ·exact h1.elim
  | succ i=>exact hg i x y (by simpa using hx) (by simpa using hy)
 | [],_::_,h=>h.elim
 | _::_,[],h=>h.elim
end
def starts (m:Nat) (keep:List Nat):Bool:=(List.range m).all fun i=>keep[i]?==some i
theorem starts_get {m:Nat} {keep:List Nat} (h:starts m keep=true) {i:Nat} (hi:i<m):keep[i]?=some i:=by
 unfold starts at h;rw[qob] at h;simpa using h i (List.mem_range.2 hi)
theorem wk {m:Nat} {env env':List PV} {H H':List Ob} (keep:List Nat) (hnd:keep.Nodup) (hm:starts m keep=true) (he:leVs keep env env') (hh:leH keep H keep H'):Weak m ⟨env,H⟩ ⟨env',H'⟩:=by
 intro c a w hml ⟨X,ρ,h,henv,hd,hkp⟩;obtain⟨hl,hg⟩:=leH_get hh;let ρk:Places:=keep.map fun id=>(ρ[id]?).getD none
 have hinjk: ∀ i j id,keep[i]?=some id->keep[j]?=some id->i=j:=fun i j id hi hj=>by
  obtain⟨hi1,hi2⟩:=List.getElem?_eq_some_iff.1 hi;obtain⟨hj1,hj2⟩:=List.getElem?_eq_some_iff.1 hj;exact(List.getElem_inj hnd).1 (hi2.trans hj2.symm)
 have hget0: ∀ (j id:Nat),keep[j]?=some id-> ∃ o o',H'[j]?=some o/\H[id]?=some o'/\leO keep o' o:=by
  intro j id hj;have hjl:j<H'.length:=by rw[<-hl];exact(List.getElem?_eq_some_iff.1 hj).1
  obtain⟨o',h1,h2⟩:=hg j id H'[j] hj (by simp[hjl]);exact⟨H'[j],o',by simp[hjl],h1,h2⟩
 have hk: ∀ (j id:Nat),keep[j]?=some id->ρk[j]?=ρ[id]?:=by
  intro j id hj;obtain⟨o,o',_,h2,_⟩:=hget0 j id hj;have hid:id<ρ.length:=by rw[h.len];exact(List.getElem?_eq_some_iff.1 h2).1
  simp only[ρk,List.getElem?_map,hj,Option.map_some];simp[hid]
 have hget: ∀ (j:Nat) p,ρk[j]?=some (some p)-> ∃ id,keep[j]?=some id/\ρ[id]?=some (some p):=by
  intro j p hp;have hjl:j<keep.length:=by have:=(List.getElem?_eq_some_iff.1 hp).1;simpa [ρk] using this
  have hj:keep[j]?=some keep[j]:=by simp[hjl]
  exact⟨keep[j],hj,by rw[<-hk j _ hj];exact hp⟩
 refine⟨X,ρk,⟨by simp[ρk,hl],?_,?_,?_,h.xo,h.xlt,h.ge,?_⟩,?_,hd,hkp⟩
 ·intro j p o hp ho;obtain⟨id,hj,hp'⟩:=hget j p hp;obtain⟨o1,o',h1,h2,h3⟩:=hget0 j id hj;rw[ho] at h1;cases h1;exact leO_rd hk h3 (h.ob id p o' hp' h2)
 ·intro i j p q o r g hp hq ho hr ho1 hr1 hb1 hb2;obtain⟨id1,hi,hp'⟩:=hget i p hp;obtain⟨id2,hj,hq'⟩:=hget j q hq;obtain⟨_,o',h1,h2,h3⟩:=hget0 i id1 hi;obtain⟨_,r',h4,h5,h6⟩:=hget0 j id2 hj;rw[ho] at h1;cases h1;rw[hr] at h4;cases h4;have:=h.inj id1 id2 p q o' r' g hp' hq' h2 h5 (leO_rw h3 ho1) (leO_rw h6 hr1) hb1 hb2;subst this;exact hinjk i j id1 hi hj
 ·intro j p o g hp ho ho1 hb1;obtain⟨id,hj,hp'⟩:=hget j p hp;obtain⟨_,o',h1,h2,h3⟩:=hget0 j id hj;rw[ho] at h1;cases h1;exact h.own id p o' g hp' h2 (leO_rw h3 ho1) hb1
 ·intro i p hp;have hi:i<m:=by have:=(List.getElem?_eq_some_iff.1 hp).1;omega
  rw[hk i i (starts_get hm hi)];exact h.base i p hp
 ·obtain⟨hle,hlg⟩:=leVs_get he;refine⟨henv.1.trans hle,fun t v y hv hy=>?_⟩;have ht:t<env.length:=by rw[hle];exact(List.getElem?_eq_some_iff.1 hy).1
  exact leV_rd hk (hlg t env[t] y (by simp[ht]) hy) (henv.2 t v env[t] hv (by simp[ht]))
theorem PRd.nilInv {w:World} {X:Nat->Prop} {ρ:Places} {v:Value} (h:PRd w X ρ v .nilsl):v= .slice none 0 0:=by cases h;rfl
def after (r:Option Res) (K:PV->List Ob->Prop):Prop:=match r with | some r=>r.cond/\K r.val r.heap | none=>False
theorem after.mono {r:Option Res} {K K':PV->List Ob->Prop} (hk: ∀ v H,K v H->K' v H) (h:after r K):after r K':=by
 cases r with
 | none=>exact h
 | some r=>exact⟨h.1,hk _ _ h.2⟩
theorem WPop_op {P:Program} {T:Tab} {o:Op} {st:St} {K:PV->List Ob->Prop} (ho: ∀ c,o≠ .call c):WPop P T o st K=after (opRes T st.heap (ev st.env) o) K:=by
 cases o with
 | call c=>exact absurd rfl (ho c)
 | _=>rfl
theorem WPop.mono {P:Program} {T:Tab} {o:Op} {st:St} {K K':PV->List Ob->Prop} (hk: ∀ v H,K v H->K' v H) (h:WPop P T o st K):WPop P T o st K':=by
 by_cases ho: ∀ c,o≠ .call c
 ·rw[WPop_op ho] at h ⊢;exact h.mono hk
 ·have: ∃ c,o= .call c:=Classical.byContradiction fun hn=>ho fun c hc=>hn ⟨c,hc⟩
  obtain⟨c,rfl⟩:=this;simp only[WPop] at h ⊢;unfold WPcall at h ⊢;cases hc:c.callee with
  | builtin b=>rw[hc] at h;exact after.mono (r:=biRes T st.heap b c.argTypes.toList (c.args.toList.map (ev st.env))) hk h
  | value f=>
   rw[hc] at h;simp only at h ⊢;cases hf:fnOf (ev st.env f) with
   | none=>rw[hf] at h;exact h
   | some r=>
    rw[hf] at h;obtain⟨v,H',h1,h2⟩:=h;exact⟨v,H',h1,hk _ _ h2⟩
  | invoke x y=>rw[hc] at h;exact h
theorem WPops.mono {P:Program} {T:Tab} {all:Array Oper} {K K':St->Prop} (hk: ∀ st,K st->K' st): ∀ (l:List Oper) {st:St},WPops P T all l st K->WPops P T all l st K'
 | [],st,h=>hk st h
 | o::rest,st,h=>by
  unfold WPops at h ⊢;split
  ·rename_i hg;simp only[hg] at h;exact WPop.mono (fun v H h=>WPops.mono hk rest h) h
  ·rename_i j want hg;simp only[hg] at h;split
   ·rename_i t ht;simp only[ht] at h;split
    ·rename_i b hb;simp only[hb] at h;exact⟨fun e=>WPop.mono (fun v H h=>WPops.mono hk rest h) (h.1 e),fun e=>WPops.mono hk rest (h.2 e)⟩
    ·rename_i hb;simp only[hb] at h;exact WPops.mono hk rest h
    ·rename_i h1 h2;split at h
     ·exact absurd ‹_› (h1 _)
     ·exact absurd ‹_› h2
     ·exact h
   ·rename_i ht;simp only[ht] at h
theorem WPdraw.mono {P:Program} {T:Tab} {all:Array Oper} {K K':St->Prop} (hk: ∀ st,K st->K' st): ∀ (l:List Oper) {st:St},WPdraw P T all l st K->WPdraw P T all l st K'
 | [],st,h=>hk st h
 | o::rest,st,h=>by
  unfold WPdraw at h ⊢;split
  ·rename_i hg;simp only[hg] at h;exact WPop.mono (fun v H h=>⟨h.1,WPdraw.mono hk rest h.2⟩) h
  ·rename_i j want hg;simp only[hg] at h;split
   ·rename_i t ht;simp only[ht] at h;split
    ·rename_i b hb;simp only[hb] at h;exact⟨fun e=>WPop.mono (fun v H h=>⟨h.1,WPdraw.mono hk rest h.2⟩) (h.1 e),fun e=>WPdraw.mono hk rest (h.2 e)⟩
    ·rename_i hb;simp only[hb] at h;exact WPdraw.mono hk rest h
    ·rename_i h1 h2;split at h
     ·exact absurd ‹_› (h1 _)
     ·exact absurd ‹_› h2
     ·exact h
   ·rename_i ht;simp only[ht] at h
theorem WPA.mono {P:Program} {T:Tab} {m:Nat}: ∀ (cd:Code) {st:St} {Q Q':AExit->St->Prop},(∀ e st,Q e st->Q' e st)->WPA P T m cd st Q->WPA P T m cd st Q'
 | .skip,st,Q,Q',hq,h=>hq _ _ h
 | .label _,st,Q,Q',hq,h=>hq _ _ h
 | .exit _,st,Q,Q',hq,h=>hq _ _ h
 | .ret,st,Q,Q',hq,h=>hq _ _ h
 | .seq x y,st,Q,Q',hq,h=>by
  unfold WPA at h ⊢;refine WPA.mono x (fun e st h=>?_) h;cases e with
  | normal=>exact WPA.mono y hq h
  | exit id=>exact hq _ _ h
  | ret=>exact hq _ _ h
 | .cond o x y,st,Q,Q',hq,h=>by
  unfold WPA at h ⊢;split
  ·rename_i b hb;simp only[hb] at h;exact⟨fun e=>WPA.mono x hq (h.1 e),fun e=>WPA.mono y hq (h.2 e)⟩
  ·rename_i hb;split at h
   ·exact absurd ‹_› (hb _)
   ·exact h
 | .block id x,st,Q,Q',hq,h=>by
  unfold WPA at h ⊢;refine WPA.mono x (fun e st h=>?_) h;cases e with
  | normal=>exact hq _ _ h
  | exit i=>
   simp only at h ⊢;split
   ·rename_i hi;rw[if_pos hi] at h;exact hq _ _ h
   ·rename_i hi;rw[if_neg hi] at h;exact hq _ _ h
  | ret=>exact hq _ _ h
 | .loop x,st,Q,Q',hq,h=>by
  unfold WPA at h ⊢;obtain⟨I,h1,h2⟩:=h;refine⟨I,h1,fun n st0 hi=>WPA.mono x (fun e st h=>?_) (h2 n st0 hi)⟩;cases e with
  | normal=>exact h
  | exit id=>exact hq _ _ h
  | ret=>exact hq _ _ h
 | .region _ ops draw,st,Q,Q',hq,h=>by
  unfold WPA at h ⊢;split
  ·rename_i hd;rw[if_pos hd] at h;rcases h with⟨h1,ids,h2⟩ | ⟨st1,h1,h2⟩
   ·exact .inl ⟨h1,ids,WPdraw.mono (fun st h=>hq _ _ h) _ h2⟩
   ·exact .inr ⟨st1,h1,hq _ _ h2⟩
  ·rename_i hd;rw[if_neg hd] at h;exact WPops.mono (fun st h=>hq _ _ h) _ h
 | .rangeFunc ..,_,_,_,_,h=>h
 | .scope x,st,Q,Q',hq,h=>by
  unfold WPA at h ⊢;exact WPA.mono x hq h
 | .goto _,_,_,_,_,h=>h
 | .refuse _,_,_,_,_,h=>h
theorem WPA.cut {P:Program} {T:Tab} {m:Nat} {x y:Code} {st:St} {Q:AExit->St->Prop} (R:St->Prop) (h1:WPA P T m x st fun e st'=>match e with | .normal=>R st' | e=>Q e st') (h2: ∀ st',R st'->WPA P T m y st' Q):WPA P T m (.seq x y) st Q:=by
 unfold WPA;refine WPA.mono x (fun e st' h=>?_) h1;cases e with
 | normal=>exact h2 st' h
 | exit id=>exact h
 | ret=>exact h
end Go.AM
namespace Go.AM
structure Tok {α:Type} (a:α):Type where
def Br (b:Bool) (p q:Prop) (_:Tok (p,q)):Prop:=(b=true->p)/\(b=false->q)
theorem bd_ {c:Prop} {_:Decidable c} {p q:Prop} {t:Tok (p,q)} (h1:c->decide c=true->p) (h2: ¬c->decide c=false->q):Br (decide c) p q t:=
 ⟨fun h=>h1 (of_decide_eq_true h) h,fun h=>h2 (of_decide_eq_false h) h⟩
theorem Br.beqInt {a b:Int} {p q:Prop} {t:Tok (p,q)} (h1:a=b->(a==b)=true->p) (h2:a≠b->(a==b)=false->q):Br (a==b) p q t:=
 ⟨fun h=>h1 (by simpa using h) h,fun h=>h2 (by simpa using h) h⟩
theorem Br.bneInt {a b:Int} {p q:Prop} {t:Tok (p,q)} (h1:a≠b->(a !=b)=true->p) (h2:a=b->(a !=b)=false->q):Br (a !=b) p q t:=
 ⟨fun h=>h1 (by simpa using h) h,fun h=>h2 (by simpa using h) h⟩
theorem Br_true {p q:Prop} {t:Tok (p,q)}:Br true p q t=p:=by simp[Br]
theorem Br_false {p q:Prop} {t:Tok (p,q)}:Br false p q t=q:=by simp[Br]
def condV (v:PV) (p q:Prop) (_:Tok (p,q)):Prop:=match v with | .fv (.lit (.bool b))=>Br b p q ⟨⟩ | _=>False
theorem condV_bool {b:Bool} {p q:Prop} {t:Tok (p,q)}:condV (.fv (.lit (.bool b))) p q t=Br b p q ⟨⟩:=rfl
def guardK (v:PV) (want:Bool) (p q:Prop) (_:Tok (p,q)):Prop:=match v with
 | .fv (.lit (.bool b))=>(b=want->p)/\(b=!want->q)
 | .tup []=>q
 | _=>False
theorem guardK_t {b:Bool} {p q:Prop} {t:Tok (p,q)}:guardK (.fv (.lit (.bool b))) true p q t=Br b p q ⟨⟩:=rfl
theorem guardK_f {b:Bool} {p q:Prop} {t:Tok (p,q)}:guardK (.fv (.lit (.bool b))) false p q t=Br b q p ⟨⟩:=by
 simp[guardK,Br,and_comm]
theorem guardK_tup {want:Bool} {p q:Prop} {t:Tok (p,q)}:guardK (.tup []) want p q t=q:=rfl
def dstL:List Oper->Nat->Option Nat
 | [],_=>none
 | o::_,0=>o.dst
 | _::l,j+1=>dstL l j
theorem dstL_eq: ∀ (l:List Oper) (j:Nat),(l[j]?).bind (·.dst)=dstL l j
 | [],_=>by simp[dstL]
 | o::_,0=>by simp[dstL]
 | _::l,j+1=>by simp[dstL,dstL_eq l j]
def updE (env:List PV) (d:Option Nat) (v:PV):List PV:=match d with | some t=>env.set t v | none=>env
theorem updE_some {env:List PV} {t:Nat} {v:PV}:updE env (some t) v=env.set t v:=rfl
theorem updE_none {env:List PV} {v:PV}:updE env none v=env:=rfl
def getG (env:List PV) (o:Option Nat):PV:=match o with | some t=>env.getD t .any | none=> .any
def guardT (l:List Oper) (j:Nat) (env:List PV) (_:Tok l):PV:=getG env (dstL l j)
theorem guardT_zero {env:List PV} {d:Nat} {op:Op} {ty:TypeId} {pos:String} {af:Array Edge} {g:Option (Nat×Bool)} {l:List Oper} {t:Tok _}:guardT ({dst:=some d,op:=op,type:=ty,pos:=pos,after:=af,guard:=g}::l) 0 env t=env.getD d .any:=rfl
theorem guardT_succ {env:List PV} {o:Oper} {l:List Oper} {j:Nat} {t:Tok _}:guardT (o::l) (j+1) env t=guardT l j env ⟨⟩:=rfl
abbrev KQ:=AExit->St->Prop
def WA (P:Program) (T:Tab) (m:Nat) (cd:Code) (st:St) (Q:KQ) (_:Tok (cd,Q)):Prop:=WPA P T m cd st Q
def WO (P:Program) (T:Tab) (all l:List Oper) (st:St) (K:St->Prop) (_:Tok (all,l,K)):Prop:=WPops P T (List.toArray all) l st K
def WD (P:Program) (T:Tab) (all l:List Oper) (st:St) (K:St->Prop) (_:Tok (all,l,K)):Prop:=WPdraw P T (List.toArray all) l st K
def W1 (P:Program) (T:Tab) (o:Op) (st:St) (K:PV->List Ob->Prop) (_:Tok (o,K)):Prop:=WPop P T o st K
def Aft (r:Option Res) (K:PV->List Ob->Prop) (_:Tok K):Prop:=after r K
def Draw (P:Program) (T:Tab) (ops:List Oper) (st:St) (K:St->Prop) (_:Tok (ops,K)):Prop:=(drawOk (List.toArray ops)=true/\ ∃ ids,WPdraw P T (List.toArray ops) ops {st with heap:=shutIds ids st.heap} K)\/
 ∃ st1,WPany P T (List.toArray ops) ops.length (Array.replicate ops.length false) st (fun s=>s=st1)/\K st1
def AN (P:Program) (T:Tab) (l:List Oper) (n:Nat) (listed:Array Bool) (st st1:St) (_:Tok l):Prop:=WPany P T (List.toArray l) n listed st (fun s=>s=st1)
def seqQ (P:Program) (T:Tab) (m:Nat) (y:Code) (Q:KQ) (_:Tok (y,Q)) (e:AExit) (st:St):Prop:=match e with | .normal=>WPA P T m y st Q | e=>Q e st
def blockQ (id:Nat) (Q:KQ) (_:Tok Q) (e:AExit) (st:St):Prop:=match e with | .exit i=>if i=id then Q .normal st else Q (.exit i) st | e=>Q e st
def Ap (Q:KQ) (e:AExit) (st:St) (_:Tok Q):Prop:=Q e st
section
variable {P:Program} {T:Tab} {m:Nat} {st:St} {env:List PV} {H:List Ob} {Q:KQ} {K:St->Prop} {K2:PV->List Ob->Prop}
theorem Ap_seq_normal {y:Code} {t:Tok (y,Q)} {u:Tok _}:Ap (seqQ P T m y Q t) .normal st u=WA P T m y st Q ⟨⟩:=rfl
theorem Ap_seq_exit {y:Code} {i:Nat} {t:Tok (y,Q)} {u:Tok _}:Ap (seqQ P T m y Q t) (.exit i) st u=Ap Q (.exit i) st ⟨⟩:=rfl
theorem Ap_seq_ret {y:Code} {t:Tok (y,Q)} {u:Tok _}:Ap (seqQ P T m y Q t) .ret st u=Ap Q .ret st ⟨⟩:=rfl
theorem Ap_block_normal {i:Nat} {t:Tok Q} {u:Tok _}:Ap (blockQ i Q t) .normal st u=Ap Q .normal st ⟨⟩:=rfl
theorem Ap_block_exit {i id:Nat} {t:Tok Q} {u:Tok _}:Ap (blockQ id Q t) (.exit i) st u=Br (i==id) (Ap Q .normal st ⟨⟩) (Ap Q (.exit i) st ⟨⟩) ⟨⟩:=by
 by_cases h:i=id
 ·subst h;simp[blockQ,Br,Ap]
 ·simp[blockQ,Br,h,Ap]
theorem Ap_block_ret {i:Nat} {t:Tok Q} {u:Tok _}:Ap (blockQ i Q t) .ret st u=Ap Q .ret st ⟨⟩:=rfl
theorem WA_seq {x y:Code} {t:Tok _}:WA P T m (.seq x y) st Q t=WA P T m x st (seqQ P T m y Q ⟨⟩) ⟨⟩:=rfl
theorem WA_skip {t:Tok _}:WA P T m .skip st Q t=Ap Q .normal st ⟨⟩:=rfl
theorem WA_label {s:Nat} {t:Tok _}:WA P T m (.label s) st Q t=Ap Q .normal st ⟨⟩:=rfl
theorem WA_scope {x:Code} {t:Tok _}:WA P T m (.scope x) st Q t=WA P T m x st Q ⟨⟩:=rfl
theorem WA_exit {i:Nat} {t:Tok _}:WA P T m (.exit i) st Q t=Ap Q (.exit i) st ⟨⟩:=rfl
theorem WA_ret {t:Tok _}:WA P T m .ret st Q t=Ap Q .ret st ⟨⟩:=rfl
theorem WA_block {i:Nat} {x:Code} {t:Tok _}:WA P T m (.block i x) st Q t=WA P T m x st (blockQ i Q ⟨⟩) ⟨⟩:=rfl
theorem WA_cond {c:Operand} {x y:Code} {t:Tok _}:WA P T m (.cond c x y) ⟨env,H⟩ Q t=condV (ev env c) (WA P T m x ⟨env,H⟩ Q ⟨⟩) (WA P T m y ⟨env,H⟩ Q ⟨⟩) ⟨⟩:=rfl
theorem WA_region {n:Nat} {l:List Oper} {t:Tok _}:WA P T m (.region n (List.toArray l) false) st Q t=WO P T l l st (fun st=>Ap Q .normal st ⟨⟩) ⟨⟩:=rfl
theorem WA_draw {n:Nat} {l:List Oper} {t:Tok _}:WA P T m (.region n (List.toArray l) true) st Q t=Draw P T l st (fun st=>Ap Q .normal st ⟨⟩) ⟨⟩:=rfl
theorem dw {l:List Oper} {t:Tok _} (h:drawOk (List.toArray l)=true) (k:WD P T l l st K ⟨⟩):Draw P T l st K t:= .inl ⟨h,[],k⟩
theorem Draw.freeze (ids:List Nat) {l:List Oper} {t:Tok _} (h:drawOk (List.toArray l)=true) (k:WD P T l l {st with heap:=shutIds ids st.heap} K ⟨⟩):Draw P T l st K t:= .inl ⟨h,ids,k⟩
theorem Draw.any (st1:St) {l:List Oper} {t:Tok _} (h:AN P T l l.length (Array.replicate l.length false) st st1 ⟨⟩) (k:K st1):Draw P T l st K t:= .inr ⟨st1,h,k⟩
theorem AN.nil {l:List Oper} {n:Nat} {listed:Array Bool} {st1:St} {t:Tok _} (h:Region.ready .any (List.toArray l) listed=[]) (k:st=st1):AN P T l n listed st st1 t:=by
 cases n with
 | zero=>exact⟨h,k⟩
 | succ n=>exact⟨fun _=>k,fun i hi=>by rw[h] at hi;cases hi⟩
theorem AN.step (rs:List Nat) {l:List Oper} {n:Nat} {listed:Array Bool} {st1:St} {t:Tok _} (h:Region.ready .any (List.toArray l) listed=rs) (h0:rs≠[])
 (k: ∀ i∈rs,∃ o,l[i]?=some o/\o.guard=none/\W1 P T o.op st (fun v H=>AN P T l n (listed.setIfInBounds i true) ⟨updE st.env o.dst v,H⟩ st1 ⟨⟩) ⟨⟩):AN P T l (n+1) listed st st1 t:=by
 refine⟨fun e=>absurd (h.symm.trans e) h0,fun i hi=>?_⟩
 rw[h] at hi
 obtain⟨o,ho,hg,hw⟩:=k i hi
 rw[List.getElem?_toArray,ho]
 exact⟨hg,hw⟩
def loopQ {α:Type} (m:Nat) (f:α->St) (μ:α->Nat) (G:α->Prop) (a:α) (Q:KQ) (_:Tok Q) (e:AExit) (st:St):Prop:=match e with | .normal=> ∃ a',μ a'<μ a/\Weak m st (f a')/\G a' | e=>Q e st
theorem Ap_loop_exit {α:Type} {f:α->St} {μ:α->Nat} {G:α->Prop} {a:α} {i:Nat} {t:Tok _} {u:Tok _}:Ap (loopQ m f μ G a Q t) (.exit i) st u=Ap Q (.exit i) st ⟨⟩:=rfl
theorem Ap_loop_ret {α:Type} {f:α->St} {μ:α->Nat} {G:α->Prop} {a:α} {t:Tok _} {u:Tok _}:Ap (loopQ m f μ G a Q t) .ret st u=Ap Q .ret st ⟨⟩:=rfl
theorem ap {α:Type} {f:α->St} {μ:α->Nat} {G:α->Prop} {a:α} {t:Tok _} {u:Tok _} (a':α) (h1:μ a'<μ a) (h2:Weak m st (f a')) (h3:G a'):Ap (loopQ m f μ G a Q t) .normal st u:=⟨a',h1,h2,h3⟩
theorem wl {α:Type} (f:α->St) (μ:α->Nat) (G:α->Prop) {x:Code} {t:Tok _} (a0:α) (hw:Weak m st (f a0)) (hg:G a0)
 (hr: ∀ a,G a->WA P T m x (f a) (loopQ m f μ G a Q ⟨⟩) ⟨⟩):WA P T m (.loop x) st Q t:=by
 refine⟨fun n st=> ∃ a,n=μ a/\st=f a/\G a,⟨μ a0,f a0,hw,a0,rfl,rfl,hg⟩,?_⟩
 rintro n st0 ⟨a,rfl,rfl,hga⟩
 refine WPA.mono x (fun e st1 h=>?_) (hr a hga)
 cases e with
 | normal=>obtain⟨a',h1,h2,h3⟩:=h;exact⟨μ a',f a',h1,h2,a',rfl,rfl,h3⟩
 | exit i=>exact h
 | ret=>exact h
def cutQ (R:St->Prop) (Q:KQ) (_:Tok (R,Q)) (e:AExit) (st:St):Prop:=match e with | .normal=>R st | e=>Q e st
theorem Ap_cut_normal {R:St->Prop} {t:Tok (R,Q)} {u:Tok _}:Ap (cutQ R Q t) .normal st u=R st:=rfl
theorem Ap_cut_exit {R:St->Prop} {i:Nat} {t:Tok (R,Q)} {u:Tok _}:Ap (cutQ R Q t) (.exit i) st u=Ap Q (.exit i) st ⟨⟩:=rfl
theorem Ap_cut_ret {R:St->Prop} {t:Tok (R,Q)} {u:Tok _}:Ap (cutQ R Q t) .ret st u=Ap Q .ret st ⟨⟩:=rfl
def Mid {α:Type} (f:α->St) (G:α->Prop) (st:St):Prop:= ∃ a,st=f a/\G a
theorem Mid.mk {α:Type} {f:α->St} {G:α->Prop} {st:St} (a:α) (h:st=f a) (g:G a):Mid f G st:=⟨a,h,g⟩
theorem WA.cut {α:Type} (f:α->St) (G:α->Prop) {x y:Code} {t:Tok _} (h1:WA P T m x st (cutQ (Mid f G) Q ⟨⟩) ⟨⟩) (h2: ∀ a,G a->WA P T m y (f a) Q ⟨⟩):WA P T m (.seq x y) st Q t:=
 WPA.cut (Mid f G) (WPA.mono x (fun e st h=>by cases e<;>exact h) h1) (fun st' ⟨a,hs,hg⟩=>by subst hs;exact h2 a hg)
theorem WA.assoc {x y z:Code} {t:Tok _} (h:WA P T m (.seq (.seq x y) z) st Q ⟨⟩):WA P T m (.seq x (.seq y z)) st Q t:=by
 show WPA P T m (.seq x (.seq y z)) st Q;have h:WPA P T m (.seq (.seq x y) z) st Q:=h;unfold WPA at h ⊢;unfold WPA at h;refine WPA.mono x (fun e st' he=>?_) h;cases e with
 | normal=>exact he
 | exit i=>exact he
 | ret=>exact he
theorem WO_nil {all:List Oper} {t:Tok _}:WO P T all [] st K t=K st:=rfl
theorem WO_none {all:List Oper} {d:Option Nat} {op:Op} {ty:TypeId} {pos:String} {af:Array Edge} {rest:List Oper} {t:Tok _}:
 WO P T all ({dst:=d,op:=op,type:=ty,pos:=pos,after:=af,guard:=none}::rest) ⟨env,H⟩ K t=W1 P T op ⟨env,H⟩ (fun v H'=>WO P T all rest ⟨updE env d v,H'⟩ K ⟨⟩) ⟨⟩:=rfl
theorem WO_some {l:List Oper} {d:Option Nat} {op:Op} {ty:TypeId} {pos:String} {af:Array Edge} {rest:List Oper} {j:Nat} {want:Bool} {t:Tok _}:
 WO P T l ({dst:=d,op:=op,type:=ty,pos:=pos,after:=af,guard:=some (j,want)}::rest) ⟨env,H⟩ K t=
  guardK (guardT l j env ⟨⟩) want (W1 P T op ⟨env,H⟩ (fun v H'=>WO P T l rest ⟨updE env d v,H'⟩ K ⟨⟩) ⟨⟩) (WO P T l rest ⟨updE env d (.tup []),H⟩ K ⟨⟩) ⟨⟩:=by
 unfold WO
 rw[WPops.eq_def]
 simp only[List.getElem?_toArray,dstL_eq,guardT]
 cases dstL l j with
 | none=>rfl
 | some t=>
  simp only[getG,St.get,guardK];generalize env.getD t .any=v;split
  ·rfl
  ·rfl
  ·rename_i h1 h2;split
   ·exact absurd rfl (h1 _)
   ·exact absurd rfl h2
   ·rfl
def Grown (H H':List Ob):Prop:= ∃ obs,H'=H++obs
theorem Grown_self:Grown H H=True:=by simp only[eq_iff_iff,iff_true];exact⟨[],by simp⟩
theorem Grown_append {l:List Ob}:Grown H (H++l)=True:=by simp only[eq_iff_iff,iff_true];exact⟨l,rfl⟩
theorem Grown_nil:Grown [] H=True:=by simp only[eq_iff_iff,iff_true];exact⟨H,rfl⟩
theorem Grown_cons {o:Ob} {H':List Ob}:Grown (o::H) (o::H')=Grown H H':=by simp[Grown]
def dK (s:Bool) (H H':List Ob) (p:Prop) (_:Tok p):Prop:=(s=true\/Grown H H')/\p
theorem dK_store {H':List Ob} {p:Prop} {t:Tok p}:dK true H H' p t=p:=by simp[dK]
theorem dK_else {H':List Ob} {p:Prop} {t:Tok p}:dK false H H' p t=(Grown H H'/\p):=by simp[dK]
theorem toL {l:List Operand}:(List.toArray l).toList=l:=rfl
theorem WD_nil {all:List Oper} {t:Tok _}:WD P T all [] st K t=K st:=rfl
theorem WD_none {all:List Oper} {d:Option Nat} {op:Op} {ty:TypeId} {pos:String} {af:Array Edge} {rest:List Oper} {t:Tok _}:
 WD P T all ({dst:=d,op:=op,type:=ty,pos:=pos,after:=af,guard:=none}::rest) ⟨env,H⟩ K t=W1 P T op ⟨env,H⟩ (fun v H'=>dK (isStore op) H H' (WD P T all rest ⟨updE env d v,H'⟩ K ⟨⟩) ⟨⟩) ⟨⟩:=rfl
theorem WD_some {l:List Oper} {d:Option Nat} {op:Op} {ty:TypeId} {pos:String} {af:Array Edge} {rest:List Oper} {j:Nat} {want:Bool} {t:Tok _}:
 WD P T l ({dst:=d,op:=op,type:=ty,pos:=pos,after:=af,guard:=some (j,want)}::rest) ⟨env,H⟩ K t=
  guardK (guardT l j env ⟨⟩) want (W1 P T op ⟨env,H⟩ (fun v H'=>dK (isStore op) H H' (WD P T l rest ⟨updE env d v,H'⟩ K ⟨⟩) ⟨⟩) ⟨⟩) (WD P T l rest ⟨updE env d (.tup []),H⟩ K ⟨⟩) ⟨⟩:=by
 unfold WD
 rw[WPdraw.eq_def]
 simp only[List.getElem?_toArray,dstL_eq,guardT]
 cases dstL l j with
 | none=>rfl
 | some t=>
  simp only[getG,St.get,guardK];generalize env.getD t .any=v;split
  ·rfl
  ·rfl
  ·rename_i h1 h2;split
   ·exact absurd rfl (h1 _)
   ·exact absurd rfl h2
   ·rfl
theorem Aft_some {c:Prop} {v:PV} {t:Tok _}:Aft (some ⟨c,v,H⟩) K2 t=(c/\K2 v H):=rfl
theorem Aft_pure {v:PV} {t:Tok _}:Aft (Res.pure H v) K2 t=K2 v H:=by simp[Aft,after,Res.pure]
theorem Aft_if {c:Prop} {v:PV} {t:Tok _}:Aft (Res.if c H v) K2 t=(c/\K2 v H):=rfl
theorem ev_tmp {t:Nat}:ev env (.tmp t)=env.getD t .any:=rfl
theorem ev_const {v:Value}:ev env (.const v)=PV.ofValue v:=rfl
theorem ev_func {f:FuncId}:ev env (.func f)= .fv (.lit (.func (.func f) #[] #[])):=rfl
theorem of_int {k:IntKind} {n:Int}:PV.ofValue (.int k n)= .fv (.lit (.int k n)):=rfl
theorem of_bool {b:Bool}:PV.ofValue (.bool b)= .fv (.lit (.bool b)):=rfl
theorem of_nil:PV.ofValue (.slice none 0 0)= .nilsl:=rfl
theorem of_nilFunc:PV.ofValue .nilFunc= .fv (.lit .nilFunc):=rfl
theorem of_nilPtr:PV.ofValue (.pointer none)= .fv (.lit (.pointer none)):=rfl
def rPick (H:List Ob) (c a b:PV):Option Res:=match c with | .fv (.lit (.bool t))=>Res.pure H (if t then a else b) | _=>none
theorem W1_move {x:Operand} {u:Tok _}:W1 P T (.move x) ⟨env,H⟩ K2 u=K2 (ev env x) H:=by simp[W1,WPop,opRes,Res.pure]
theorem W1_assign {x:Operand} {u:Tok _}:W1 P T (.assign x) ⟨env,H⟩ K2 u=K2 (ev env x) H:=by simp[W1,WPop,opRes,Res.pure]
theorem W1_pick {c a b:Operand} {u:Tok _}:W1 P T (.pick c a b) ⟨env,H⟩ K2 u=Aft (rPick H (ev env c) (ev env a) (ev env b)) K2 ⟨⟩:=rfl
theorem rPick_bool {t:Bool} {a b:PV}:rPick H (.fv (.lit (.bool t))) a b=Res.pure H (if t then a else b):=rfl
def rAlloc (H:List Ob) (i:Option TyI):Option Res:=match i with | some i=>some ⟨True,.ptr H.length 0 0,H++[.box true i.zero]⟩ | none=>none
theorem W1_alloc {t:TypeId} {u:Tok _}:W1 P T (.alloc t) ⟨env,H⟩ K2 u=Aft (rAlloc H (T.at t)) K2 ⟨⟩:=rfl
def rBox (H:List Ob) (i:Option TyI) (x:PV):Option Res:=match i with | some i=>some ⟨x.cells.length=i.size/\0<i.size,.ptr H.length 0 0,H++[.box true x.cells]⟩ | none=>none
theorem W1_box {t:TypeId} {x:Operand} {u:Tok _}:W1 P T (.box t x) ⟨env,H⟩ K2 u=Aft (rBox H (T.at t) (ev env x)) K2 ⟨⟩:=rfl
def rBuild (H:List Ob) (i:Option TyI) (parts:List (Nat×PV)):Option Res:=match i with
 | some i=>match i.d with
  | .st fs=>match fillP (fun j=>(fs[j]?).map fun f=>(f.off,f.size)) i.zero parts with
   | some cs=>Res.pure H (.agg cs)
   | none=>none
  | _=>none
 | none=>none
theorem W1_build {t:TypeId} {l:List (Nat×Operand)} {u:Tok _}:W1 P T (.build t (List.toArray l)) ⟨env,H⟩ K2 u=Aft (rBuild H (T.at t) (l.map fun(j,x)=>(j,ev env x))) K2 ⟨⟩:=rfl
def rBuildSlice (T:Tab) (H:List Ob) (i:Option TyI) (len:Nat) (parts:List (Nat×PV)):Option Res:=match i with
 | some i=>match i.d with
  | .sl e=>match T.at e with
   | some ie=>
    match fillP (fun j=>some (j*ie.size,ie.size)) (replicate len ie.zero).flatten parts with
    | some cs=>match fzs H cs with
     | some fs=>if len<1000/\0<ie.size/\ie.size<1000 then some ⟨True,.lsl H.length 0 len ie.size,shutAll H cs++[.row true (groups ie.size len fs)]⟩ else none
     | none=>none
    | none=>none
   | none=>none
  | _=>none
 | none=>none
theorem W1_buildSlice {t:TypeId} {n:Nat} {l:List (Nat×Operand)} {u:Tok _}:W1 P T (.buildSlice t n (List.toArray l)) ⟨env,H⟩ K2 u=Aft (rBuildSlice T H (T.at t) n (l.map fun(j,x)=>(j,ev env x))) K2 ⟨⟩:=rfl
def rLoad (H:List Ob) (i:Option TyI) (a:PV):Option Res:=match i with
 | some i=>match a with
  | .ptr id j off=>match cellsAt H id j off i.size with
   | some (cd,cs)=>match oneOr i cs with
    | some v=>Res.if cd H v
    | none=>none
   | none=>none
  | .fv (.fp cs)=>match oneOr i ((cs.take i.size).map .fv) with
   | some v=>Res.if (i.size<=cs.length) H v
   | none=>none
  | _=>none
 | none=>none
theorem W1_load {t:TypeId} {a:Operand} {u:Tok _}:W1 P T (.load t a) ⟨env,H⟩ K2 u=Aft (rLoad H (T.at t) (ev env a)) K2 ⟨⟩:=rfl
def rMakeMap (H:List Ob) (i:Option TyI):Option Res:=match i with
 | some i=>match i.d with
  | .mp n _=>some ⟨True,.tab H.length,H++[.tab n []]⟩
  | _=>none
 | none=>none
theorem W1_makeMap {t:TypeId} {u:Tok _}:W1 P T (.makeMap t none) ⟨env,H⟩ K2 u=Aft (rMakeMap H (T.at t)) K2 ⟨⟩:=rfl
def rLookup (H:List Ob) (i:Option TyI) (m:PV) (ks:Option (List Int)) (ok:Bool):Option Res:=match i,m,ks with
 | some i,.tab id,some ks=>match i.d,H[id]? with
  | .mp n z,some (.tab n' es)=>if ks.length=n/\n'=n then Res.if (∀ x∈ks,-9223372036854775808<=x/\x<9223372036854775808) H (if ok then .tup [(tabFind es ks).getD z,.bool (tabFind es ks).isSome] else(tabFind es ks).getD z) else none
  | _,_=>none
 | _,_,_=>none
theorem W1_lookup {t:TypeId} {m k:Operand} {ok:Bool} {u:Tok _}:W1 P T (.lookup t m k ok) ⟨env,H⟩ K2 u=Aft (rLookup H (T.at t) (ev env m) (keyV (ev env k)) ok) K2 ⟨⟩:=rfl
def rMapUpdate (H:List Ob) (i:Option TyI) (m:PV) (ks:Option (List Int)) (x:PV):Option Res:=match i,m,ks with
 | some i,.tab id,some ks=>match i.d,H[id]? with
  | .mp n _,some (.tab n' es)=>if ks.length=n/\n'=n/\still x=true then some ⟨∀ x∈ks,-9223372036854775808<=x/\x<9223372036854775808,.tup [],H.set id (.tab n (tabPut es ks x))⟩ else none
  | _,_=>none
 | _,_,_=>none
theorem W1_mapUpdate {t:TypeId} {m k x:Operand} {u:Tok _}:W1 P T (.mapUpdate t m k x) ⟨env,H⟩ K2 u=Aft (rMapUpdate H (T.at t) (ev env m) (keyV (ev env k)) (ev env x)) K2 ⟨⟩:=rfl
def rStore (H:List Ob) (i:Option TyI) (a x:PV):Option Res:=match i with
 | some i=>match a with
  | .ptr id j off=>match storeAt H id j off x.cells with
   | some (cd,H')=>some ⟨cd/\x.cells.length=i.size/\0<i.size,.tup [],H'⟩
   | none=>none
  | _=>none
 | none=>none
theorem W1_store {t:TypeId} {a x:Operand} {u:Tok _}:W1 P T (.store t a x) ⟨env,H⟩ K2 u=Aft (rStore H (T.at t) (ev env a) (ev env x)) K2 ⟨⟩:=rfl
def rNil (H:List Ob) (x:PV):Option Res:=match x with
 | .ptr id j off=>Res.pure H (.ptr id j off)
 | .fv (.fp cs)=>Res.pure H (.fv (.fp cs))
 | _=>none
theorem W1_nilCheck {x:Operand} {u:Tok _}:W1 P T (.nilCheck x) ⟨env,H⟩ K2 u=Aft (rNil H (ev env x)) K2 ⟨⟩:=rfl
def rNilC (H:List Ob) (sl:Bool) (o q:Option Bool):Option Res:=match o with | some b=>if sl then Res.pure H (.bool b) else none | none=>match q with | some b=>Res.pure H (.bool b) | none=>none
def rLit (H:List Ob) (o:Option (Prop×Value)) (q:Option Res) (_:Tok q):Option Res:=match o with | some (c,v)=>Res.if c H (.lit v) | none=>q
theorem rLit_some {c:Prop} {v:Value} {q:Option Res} {u:Tok q}:rLit H (some (c,v)) q u=Res.if c H (.lit v):=rfl
theorem rLit_none {q:Option Res} {u:Tok q}:rLit H none q u=q:=rfl
theorem W1_binOp {op:BinOp} {t t2:TypeId} {x y:Operand} {u:Tok _}:W1 P T (.binOp op t x y t2) ⟨env,H⟩ K2 u=Aft (rLit H (binV (T.isBool t) op (ev env x) (ev env y)) (rNilC H (T.isSl t) (nilV op (ev env x) (ev env y)) (arrV (T.arN t) op (keyV (ev env x)) (keyV (ev env y)))) ⟨⟩) K2 ⟨⟩:=rfl
def rUn (H:List Ob) (o:Option Value):Option Res:=match o with | some v=>Res.pure H (.lit v) | none=>none
theorem W1_unOp {op:UnOp} {t:TypeId} {x:Operand} {u:Tok _}:W1 P T (.unOp op t x) ⟨env,H⟩ K2 u=Aft (rUn H (unV op (ev env x))) K2 ⟨⟩:=rfl
def rConv (H:List Ob) (a b:Option TyI) (x:PV):Option Res:=match a,b,x with
 | some i,some j,.fv (.lit (.int _ n))=>match i.d,j.d with
  | .int _,.int k=>Res.pure H (.int k (k.wrap n))
  | _,_=>none
 | _,_,_=>none
theorem W1_convert {a b:TypeId} {x:Operand} {u:Tok _}:W1 P T (.convert a b x) ⟨env,H⟩ K2 u=Aft (rConv H (T.at a) (T.at b) (ev env x)) K2 ⟨⟩:=rfl
def rMake (T:Tab) (H:List Ob) (i:Option TyI) (l c:PV):Option Res:=match i,l,c with
 | some i,.fv (.lit (.int _ n)),.fv (.lit (.int _ m))=>match i.d with
  | .sl e=>match T.at e with
   | some ie=>if isNilZ ie.zero then some ⟨0<=n/\n=m/\m*ie.bytes<=140737488355328/\m<=140737488355328,.lsl H.length 0 n.toNat 1,H++[.box true (replicate n.toNat .nilsl)]⟩ else
    match fzs H ie.zero with
    | some z=>if z.length=ie.size/\0<ie.size then some ⟨0<=n/\n<=m/\m*ie.bytes<=140737488355328/\m<=140737488355328,.lsl H.length 0 n.toNat ie.size,H++[.row true (replicate n.toNat z)]⟩ else none
    | none=>none
   | none=>none
  | _=>none
 | _,_,_=>none
theorem W1_makeSlice {t:TypeId} {l c:Operand} {u:Tok _}:W1 P T (.makeSlice t l c) ⟨env,H⟩ K2 u=Aft (rMake T H (T.at t) (ev env l) (ev env c)) K2 ⟨⟩:=rfl
def rSlice (T:Tab) (H:List Ob) (i:Option TyI) (x:PV) (lo hi mx:Option PV):Option Res:=match i with
 | some i=>match i.d,mx with
  | .sl e,none=>match T.at e,x with
   | some ie,.lsl id off len s=>if s=ie.size then(match bound lo 0,bound hi len with
    | some (c1,l),some (c2,h)=>Res.if (c1/\c2/\l<=h/\h<=room H id off len lo hi) H (.lsl id (off+l) (h - l) s)
    | _,_=>none) else none
   | some ie,.fv (.sl xs)=>match bound lo 0,bound hi xs.length with
    | some (c1,l),some (c2,h)=>Res.if (c1/\c2/\l<=h/\h<=xs.length/\ ∀ y∈xs,y.length=ie.size) H (.fv (.sl ((xs.drop l).take (h - l))))
    | _,_=>none
   | some ie,.clip xs=>match bound lo 0,bound hi xs.length with
    | some (c1,l),some (c2,h)=>Res.if (c1/\c2/\l<=h/\h<=xs.length/\ ∀ y∈xs,y.length=ie.size) H (.fv (.sl ((xs.drop l).take (h - l))))
    | _,_=>none
   | _,_=>none
  | .sl e,some mv=>match T.at e,lenA x,bound lo 0,asI hi,mv.asInt with
   | some _,some len,some (c1,l),some h,some m=>Res.if (c1/\0<=h/\h<=m/\l<=h.toNat/\m<=len) H (clip3 lo h m)
   | _,_,_,_,_=>none
  | .arr n e,_=>match T.at e,x,bound lo 0,bound hi n,bound mx n with
   | some ie,.ptr id j off,some (c1,l),some (c2,h),some (c3,m)=>
    match H[id]? with
    | some (.box _ cs)=>match fzs H ((cs.drop off).take (n*ie.size)) with
     | some fs=>if j=0/\0<ie.size/\0<n/\(mx.isSome=true->hi.isSome=true) then some ⟨c1/\c2/\c3/\l<=h/\h<=m/\m<=n/\off+n*ie.size<=cs.length,if m=h then .clip (((groups ie.size n fs).drop l).take (h - l)) else .fv (.sl (((groups ie.size n fs).drop l).take (h - l))),shutIds (id::((cs.drop off).take (n*ie.size)).flatMap ids0) H⟩ else none
     | none=>none
    | _=>none
   | _,_,_,_,_=>none
  | _,_=>none
 | none=>none
theorem W1_slice {t:TypeId} {x:Operand} {lo hi mx:Option Operand} {u:Tok _}:W1 P T (.slice t x lo hi mx) ⟨env,H⟩ K2 u=Aft (rSlice T H (T.at t) (ev env x) (lo.map (ev env)) (hi.map (ev env)) (mx.map (ev env))) K2 ⟨⟩:=by
 unfold W1 Aft;rw[WPop_op (by simp)];simp only[opRes,rSlice];cases T.at t with
 | none=>rfl
 | some i=>
  dsimp only;cases i.d<;>cases mx<;>cases hi<;>rfl
def rFieldAddr (H:List Ob) (i:Option TyI) (x:PV) (f:Nat):Option Res:=match i with
 | some i=>match i.d with
  | .st fs=>match fs[f]?,x with
   | some fd,.ptr id j o=>Res.pure H (.ptr id j (o+fd.off))
   | some fd,.fv (.fp cs)=>Res.if (fd.off+fd.size<=cs.length) H (.fv (.fp (cs.drop fd.off)))
   | _,_=>none
  | _=>none
 | none=>none
theorem W1_fieldAddr {t:TypeId} {x:Operand} {f:Nat} {u:Tok _}:W1 P T (.fieldAddr t x f) ⟨env,H⟩ K2 u=Aft (rFieldAddr H (T.at t) (ev env x) f) K2 ⟨⟩:=rfl
def rField (H:List Ob) (i:Option TyI) (x:PV) (f:Nat):Option Res:=match i with
 | some i=>match i.d with
  | .st fs=>match fs[f]?,x with
   | some fd,.agg cs=>if fd.agg then Res.if (fd.off+fd.size<=cs.length) H (.agg ((cs.drop fd.off).take fd.size)) else
    if fd.size=1 then Res.if (fd.off<cs.length) H (cs.getD fd.off .any) else none
   | _,_=>none
  | _=>none
 | none=>none
theorem W1_field {t:TypeId} {x:Operand} {f:Nat} {u:Tok _}:W1 P T (.field t x f) ⟨env,H⟩ K2 u=Aft (rField H (T.at t) (ev env x) f) K2 ⟨⟩:=rfl
def rIndexAddr (T:Tab) (H:List Ob) (i:Option TyI) (x:PV) (ix:Option Int):Option Res:=match i,ix with
 | some i,some n=>match i.d with
  | .sl e=>match T.at e,x with
   | some ie,.lsl id off len s=>if s=ie.size then Res.if (0<=n/\n<len) H (elemP s (H[id]?) id (off+n.toNat)) else none
   | some ie,.fv (.sl xs)=>Res.if (0<=n/\n<xs.length/\(xs.getD n.toNat []).length=ie.size/\0<ie.size) H (.fv (.fp (xs.getD n.toNat [])))
   | some ie,.clip xs=>Res.if (0<=n/\n<xs.length/\(xs.getD n.toNat []).length=ie.size/\0<ie.size) H (.fv (.fp (xs.getD n.toNat [])))
   | _,_=>none
  | .arr k e=>match T.at e,x with
   | some ie,.ptr id j off=>if 1<k then Res.if (0<=n/\n<k) H (.ptr id j (off+n.toNat*ie.size)) else none
   | some ie,.fv (.fp cs)=>if 1<k then Res.if (0<=n/\n<k/\n.toNat*ie.size+ie.size<=cs.length/\0<ie.size) H (.fv (.fp (cs.drop (n.toNat*ie.size)))) else none
   | _,_=>none
  | _=>none
 | _,_=>none
theorem W1_indexAddr {t:TypeId} {x ix:Operand} {u:Tok _}:W1 P T (.indexAddr t x ix) ⟨env,H⟩ K2 u=Aft (rIndexAddr T H (T.at t) (ev env x) (ev env ix).asInt) K2 ⟨⟩:=rfl
def rIndex (T:Tab) (H:List Ob) (i:Option TyI) (x:PV) (ix:Option Int):Option Res:=match i,ix with
 | some i,some n=>match i.d with
  | .arr k e=>match T.at e,x with
   | some ie,.agg cs=>match oneOr ie ((cs.drop (n.toNat*ie.size)).take ie.size) with
    | some v=>Res.if (0<=n/\n<k/\n.toNat*ie.size+ie.size<=cs.length) H v
    | none=>none
   | _,_=>none
  | .str=>match x with
   | .fv (.lit (.string s))=>Res.if (0<=n/\n<(s.size:Int)) H (.int .u8 ((s[n.toNat]?).getD 0).toNat)
   | _=>none
  | _=>none
 | _,_=>none
theorem W1_index {t:TypeId} {x ix:Operand} {u:Tok _}:W1 P T (.index t x ix) ⟨env,H⟩ K2 u=Aft (rIndex T H (T.at t) (ev env x) (ev env ix).asInt) K2 ⟨⟩:=rfl
def rExtract (H:List Ob) (x:PV) (ix:Nat):Option Res:=match x with
 | .tup vs=>match vs[ix]? with
  | some v=>Res.pure H v
  | none=>none
 | _=>none
theorem W1_extract {x:Operand} {ix:Nat} {u:Tok _}:W1 P T (.extract x ix) ⟨env,H⟩ K2 u=Aft (rExtract H (ev env x) ix) K2 ⟨⟩:=rfl
def rMakeFunc (H:List Ob) (fn:Fn) (first captured:List PV):Option Res:=match fz1s H first,fz1s H captured with
 | some c1,some c2=>some ⟨True,.fv (.fn fn c1 c2),shutIds ((first++captured).flatMap (ids1 H)) H⟩
 | _,_=>match litVs first,captured with
  | some vs,[]=>some ⟨True,.fv (.lit (.func fn (List.toArray vs) #[])),H⟩
  | _,_=>none
theorem W1_makeFunc {fn:Fn} {l1 l2:List Operand} {u:Tok _}:W1 P T (.makeFunc fn (List.toArray l1) (List.toArray l2)) ⟨env,H⟩ K2 u=Aft (rMakeFunc H fn (l1.map (ev env)) (l2.map (ev env))) K2 ⟨⟩:=rfl
theorem W1_lenc {x:Operand} {t:TypeId} {u:Tok _}:W1 P T (.call {callee:= .builtin .len,args:=List.toArray [x],argTypes:=List.toArray [t]}) ⟨env,H⟩ K2 u=Aft (biRes T H .len [t] [ev env x]) K2 ⟨⟩:=rfl
theorem W1_bi {b:Builtin} {x y:Operand} {t t':TypeId} {u:Tok _}:W1 P T (.call {callee:= .builtin b,args:=List.toArray [x,y],argTypes:=List.toArray [t,t']}) ⟨env,H⟩ K2 u=Aft (biRes T H b [t,t'] [ev env x,ev env y]) K2 ⟨⟩:=rfl
def rLen (H:List Ob) (i:Option TyI) (v:PV):Option Res:=match i with
 | some i=>match i.d with
  | .sl _=>match lenOf v with | some n=>Res.pure H (.int .i64 n) | none=>none
  | .arr n _=>Res.pure H (.int .i64 n)
  | .str=>match v with | .fv (.lit (.string s))=>Res.pure H (.int .i64 s.size) | _=>none
  | _=>none
 | none=>none
theorem biRes_lenv {t:TypeId} {v:PV}:biRes T H .len [t] [v]=rLen H (T.at t) v:=rfl
def rAppend (T:Tab) (H:List Ob) (i:Option TyI) (s x:PV):Option Res:=match i with
 | some i=>match i.d with
  | .sl e=>match T.at e with
   | some ie=>if 0<ie.size then(match srcOf H ie.size x with
    | some (cd,ys)=>match s with
     | .nilsl=>some ⟨cd/\ys.length*ie.bytes<=140737488355328/\ys.length<=140737488355328,.lsl H.length 0 ys.length ie.size,H++[.row true ys]⟩
     | .clip xs=>if noneV x then some ⟨True,.clip xs,H⟩ else some ⟨cd/\0<ys.length/\(∀ y∈xs,y.length=ie.size)/\(xs.length+ys.length)*ie.bytes<=140737488355328/\xs.length+ys.length<=140737488355328,.lsl H.length 0 (xs.length+ys.length) ie.size,H++[.row true (xs++ys)]⟩
     | .lsl id 0 len s=>match H[id]? with
      | some (.row true xs)=>if s=ie.size then if selfV id x then some ⟨cd/\len+ys.length<=xs.length,.lsl id 0 (len+ys.length) ie.size,H.set id (.row true (xs.take len++ys++xs.drop (len+ys.length)))⟩ else some ⟨cd/\len<=xs.length/\(len+ys.length)*ie.bytes<=140737488355328/\len+ys.length<=140737488355328,.lsl H.length 0 (len+ys.length) ie.size,H.set id .dead++[.row true (xs.take len++ys)]⟩ else none
      | _=>none
     | _=>none
    | none=>none) else none
   | none=>none
  | _=>none
 | none=>none
theorem biRes_append {t:TypeId} {s x:PV}:biRes T H .append [t,t] [s,x]=rAppend T H (T.at t) s x:=by
 show(if t=t then _ else none)=_;rw[if_pos rfl];rfl
theorem W1_clearc {x:Operand} {t:TypeId} {u:Tok _}:W1 P T (.call {callee:= .builtin .clear,args:=List.toArray [x],argTypes:=List.toArray [t]}) ⟨env,H⟩ K2 u=Aft (biRes T H .clear [t] [ev env x]) K2 ⟨⟩:=rfl
def rClear (T:Tab) (H:List Ob) (i:Option TyI) (x:PV):Option Res:=match i with
 | some i=>match i.d with
  | .sl e=>match T.at e with
   | some ie=>match x with
    | .lsl id off len s=>match H[id]? with
     | some (.row true xs)=>if s=ie.size then some ⟨off+len<=xs.length,.tup [],H.set id (.row true (xs.take off))⟩ else none
     | _=>none
    | _=>none
   | none=>none
  | _=>none
 | none=>none
theorem biRes_clear {t:TypeId} {x:PV}:biRes T H .clear [t] [x]=rClear T H (T.at t) x:=rfl
def rMax (H:List Ob) (o:Option (IntKind×Int×Int)):Option Res:=match o with | some (k,a,b)=>Res.pure H (.int k (if b>a then b else a)) | none=>none
def rMin (H:List Ob) (o:Option (IntKind×Int×Int)):Option Res:=match o with | some (k,a,b)=>Res.pure H (.int k (if b<a then b else a)) | none=>none
theorem biRes_max {t t':TypeId} {x y:PV}:biRes T H .max [t,t'] [x,y]=rMax H (binInts x y):=rfl
theorem biRes_min {t t':TypeId} {x y:PV}:biRes T H .min [t,t'] [x,y]=rMin H (binInts x y):=rfl
def GoCall (P:Program) (st:St) (f:Option (FuncId×List PV×List PV)) (args:List PV) (K:PV->List Ob->Prop) (_:Tok K):Prop:=match f with
 | some (k,pre,post)=> ∃ v H',CallRel P st.heap k (pre++args++post) v H'/\K v H'
 | none=>False
theorem W1_value {f:Operand} {l:List Operand} {ts:Array TypeId} {u:Tok _}:W1 P T (.call {callee:= .value f,args:=List.toArray l,argTypes:=ts}) ⟨env,H⟩ K2 u=GoCall P ⟨env,H⟩ (fnOf (ev env f)) (l.map (ev env)) K2 ⟨⟩:=rfl
theorem fnOf_func {k:FuncId}:fnOf (.fv (.lit (.func (.func k) #[] #[])))=some (k,[],[]):=rfl
theorem fnOf_meth {k:FuncId} {v:Value}:fnOf (.fv (.lit (.func (.func k) #[v] #[])))=some (k,[PV.ofValue v],[]):=rfl
theorem of_aggb {b:Bool}:PV.ofValue (.agg #[.bool b])= .agg [.fv (.lit (.bool b))]:=rfl
theorem of_aggi {n:Int}:PV.ofValue (.agg #[.int .i64 n])= .agg [.fv (.lit (.int .i64 n))]:=rfl
theorem fnOf_fn {k:FuncId} {a b:List FV}:fnOf (.fv (.fn (.func k) a b))=some (k,a.map .fv,b.map .fv):=rfl
theorem gp {k:FuncId} {pre post args:List PV} {args':List PV} {obs:List Ob} {res:PV} {t:Tok _} (hd:Den P k [] args' obs res) (hf:fzAs H (pre++args++post)=some args')
 (hk:K2 (reloc (H.length+ ·) res) (shutAs H (pre++args++post)++obs.map (relocOb (H.length+ ·)))):GoCall P ⟨env,H⟩ (some (k,pre,post)) args K2 t:=⟨_,_,.pure _ _ _ hf hd,hk⟩
theorem gl_ (id:Nat) {k:FuncId} {pre post args:List PV} {args':List PV} {ob ob':Ob} {obs:List Ob} {res:PV} {t:Tok _} (hd:Den P k [ob] args' (ob'::obs) res) (ho:H[id]?=some ob) (hrw:ob.rw=true) (hc:ob.closed)
 (hr:(pre++args++post).any (PV.refsTo id)=true) (hf:fzBs H id (pre++args++post)=some args') (hs:(shutBs H id (pre++args++post))[id]?=some ob)
 (hk:K2 (reloc (lent id H.length) res) ((shutBs H id (pre++args++post)).set id (relocOb (lent id H.length) ob')++obs.map (relocOb (lent id H.length)))):GoCall P ⟨env,H⟩ (some (k,pre,post)) args K2 t:=
 ⟨_,_,.lend id _ _ _ _ _ ho hrw hc hr hf hs hd,hk⟩
end
end Go.AM
