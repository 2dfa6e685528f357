/- The abstract machine:the end of a function,words,and the bounds of int. -/
import Derived.Test.YtiaaceeelfhdlaaGreatT7
import Derived.KernelRfl
import Derived.Test.YtiaaceeelfhdlaaGreatT1
set_option linter.all false
open List (getElem?_append_right map_cons map_nil nil_append replicate)
namespace Go.AM
def mC (m:List Int):List PV:=m.map (fun n=>PV.int .i64 n)
theorem D4: ∀ {m:List Int},pq (mC m)=some m
 | []=>rfl
 | n::m=>by
  have:=D4 (m:=m);unfold mC at this ⊢;simp only[map_cons,pq,this];rfl
def RE (T:Tab) (rs:List ResultVar) (m:Nat) (H1:List Ob) (res:PV) (e:AExit) (st:St):Prop:=match e with | .exit _=>False | _=>RetOK T rs m st H1 res
section
variable {P:Program} {T:Tab}
theorem cH {rs:List ResultVar} {m:Nat} {H1:List Ob} {res:PV} {st:St} {u:cu _}:Ap (RE T rs m H1 res) .normal st u=RetOK T rs m st H1 res:=rfl
theorem dY {rs:List ResultVar} {m:Nat} {H1:List Ob} {res:PV} {st:St} {u:cu _}:Ap (RE T rs m H1 res) .ret st u=RetOK T rs m st H1 res:=rfl
theorem F6 (hT:ck P T) (hm:P.follows .mixedOrders=true) {k:FuncId} {fn:Func} {cd:Code} (hf:P.funcs[k]?=some fn) (hb:fn.body=some cd) (kJ:(fn.name== "runtime.NumGoroutine")=false)
 {H0:List Ob} {args:List PV} {H1:List Ob} {res:PV} {rs:List ResultVar} (hr:fn.results=List.toArray rs) {n:Nat} (hn:fn.ntmps - args.length=n) {env:List PV} (he:args++replicate n .any=env) {m:Nat} (Ic:H0.length=m)
 (h:WA P T m cd ⟨env,H0⟩ (RE T rs m H1 res) ⟨⟩):Den P k H0 args H1 res:=by
 subst hn;subst he;subst Ic
 refine xq hT hm hf hb kJ ?_
 rw[hr]
 refine WPA.mono cd (fun e st hq=>?_) h
 cases e<;>exact hq
theorem Ph {st:St} {rs:List ResultVar} {res:PV} {cd:Prop} {vs:List PV} (h1:eB T st rs=some (cd,vs)) (hc:cd) (h2:qG st.heap [] (bN vs)=some res):RetOK T rs 0 st [] res:=
 ⟨cd,vs,[],h1,hc,List.nodup_nil,fun i hi=>absurd hi (Nat.not_lt_zero i),h2,rfl,fun j id hj=>by simp at hj,fun o ho=>by simp at ho⟩
theorem RetOK.own {st:St} {rs:List ResultVar} {id len s:Nat} {xs:List (List FV)} {cd:Prop} (h1:eB T st rs=some (cd,[.lsl id 0 len s])) (hc:cd) (h2:st.heap[id]?=some (.row true xs)):
 RetOK T rs 0 st [.row true xs] (.lsl 0 0 len s):=by
 refine⟨cd,[.lsl id 0 len s],[id],h1,hc,by simp,fun i hi=>absurd hi (Nat.not_lt_zero i),?_,rfl,fun j k hj=>?_,fun o ho=>?_⟩
 .simp[bN,qG,ur,qD,List.idxOf?_cons]
 .cases j with
  | zero=>
   simp at hj;subst hj;simp[bN,lW,tv,tu,List.idxOf?_cons,shutIds,h2]
  | succ j=>simp at hj
 simp at ho;subst ho;exact⟨b',rfl⟩
end
theorem Den.freeze {P:Program} {k:FuncId} {args:List PV} {obs:List Ob} {res res':PV} (h:Den P k [] args obs res) (hf:qG obs [] res=some res'):Den P k [] args [] res':=by
 refine⟨h.1,fun c X ρ vs hh hM dT=>?_⟩;have PK:ρ=[]:=List.eq_nil_of_length_eq_zero hh.len;subst PK;refine(h.2 c X [] vs hh hM dT).mono (fun e w' Pe=>?_);obtain⟨v,X',ρ',he,hk,hr,hp,cX,jw⟩:=Pe;obtain⟨X1,h1,pj,jd⟩:=hr.shutIds (lW obs [] res);refine⟨v,X1,[],he,hk,⟨rfl,by simp,by simp,by simp,h1.xo,h1.xlt,h1.ge,hh.base⟩,?_,Places.Le.refl _,by simp⟩;exact NN hr hp hf pj jd (fun id j p hj=>by simp at hj)
theorem PRds.swap {w:World} {X:Nat->Prop} {ρ:Places} {vs:Array Value} {pre post:List PV} {x y:PV} (h:PRds w X ρ vs (pre++x::post)) (hy: ∀ v,vs[pre.length]?=some v->PRd w X ρ v y):PRds w X ρ vs (pre++y::post):=by
 refine⟨by rw[h.1];simp,fun i v z hv hz=>?_⟩;by_cases hi:i=pre.length
 .subst hi;rw[getElem?_append_right (qp _),Nat.sub_self] at hz;simp only[List.getElem?_cons_zero,qo] at hz;subst hz;exact hy v hv
 refine h.2 i v z hv ?_;rw[<-hz];rcases Nat.lt_or_gt_of_ne hi with h1 | h1
 .rw[qi h1,qi h1]
 rw[getElem?_append_right (by omega),getElem?_append_right (by omega)];obtain⟨j,hj⟩: ∃ j,i - pre.length=j+1:=⟨i - pre.length - 1,by omega⟩;rw[hj];rfl
theorem Den.empty {P:Program} {k:FuncId} {pre post:List PV} {H1:List Ob} {res:PV} (h1:Den P k [] (pre++ .nilsl::post) H1 res) (h2: ∀ ad cap,Den P k [] (pre++ .fv (.lit (.slice (some ad) 0 cap))::post) H1 res):
 Den P k [] (pre++ .fv (.sl [])::post) H1 res:=by
 refine⟨h1.1,fun c X ρ vs hh hM dT=>?_⟩
 have aG:pre.length<vs.size:=by rw[dT.1];simp
 have hv:vs[pre.length]?=some vs[pre.length]:=by simp[aG]
 have hrd:=dT.2 pre.length vs[pre.length] (.fv (.sl [])) hv (by simp)
 generalize vs[pre.length]=v at hv hrd
 cases hrd with
 | fv _ _ hf=>
  cases hf with
  | nil=>exact h1.2 c X ρ vs hh hM (dT.swap (fun u hu=>by rw[hv] at hu;cases hu;exact .nilsl))
  | sl ad n cap s _ us hn hc=>
   have hn:n=0:=by simpa using hn.symm
   subst hn;exact(h2 ad cap).2 c X ρ vs hh hM (dT.swap (fun u hu=>by rw[hv] at hu;cases hu;exact .fv _ _ (.lit _ rfl)))
theorem BB {H:List Ob}:shutIds [] H=H:=rfl
theorem yz {H:List Ob} {id:Nat} {ids:List Nat}:shutIds (id::ids) H=shutIds ids (shut H id):=rfl
theorem jc {x:Int} (h: -9223372036854775808<=x/\x<9223372036854775808):IntKind.i64.wrap x=x:=by
 simp[IntKind.wrap,IntKind.bits,IntKind.signed];split<;>omega
theorem df {x:Int}:IntKind.u32.wrap x=x % 4294967296:=by simp[IntKind.wrap,IntKind.bits,IntKind.signed]
theorem o4 {x:Int}:IntKind.u64.wrap x=x % 18446744073709551616:=by simp[IntKind.wrap,IntKind.bits,IntKind.signed]
theorem cQ {x:Int} (h:0<=x/\x<4294967296):IntKind.u32.wrap x=x:=by rw[df];omega
theorem dA {x:Int} (h:0<=x/\x<18446744073709551616):IntKind.u64.wrap x=x:=by rw[o4];omega
theorem g9 {x:Int} (h:0<=x/\x<256):IntKind.u8.wrap x=x:=by
 simp[IntKind.wrap,IntKind.bits,IntKind.signed];omega
theorem oq {x b:Int} (h:0<=b):x.fdiv b=x / b:=Int.fdiv_eq_ediv_of_nonneg x h
theorem ot {x b:Int} (h:0<=x):x.tdiv b=x / b:=Int.tdiv_eq_ediv_of_nonneg h
theorem ou {x b:Int} (h:0<=x):x.tmod b=x % b:=Int.tmod_eq_emod_of_nonneg h
def u32s (l:List Nat):List (List FV):=l.map fun(n:Nat)=>[.lit (.int .u32 (n:Int))]
theorem aJ {l:List Nat}:(u32s l).length=l.length:=by simp[u32s]
theorem Kg {l:List Nat} {i:Nat} (h:i<l.length):(u32s l).getD i []=[.lit (.int .u32 ((l.getD i 0:Nat):Int))]:=by
 simp[u32s,h]
theorem Oa {l:List Nat} {i:Nat} {x:Int} (h:0<=x):(u32s l).set i [.lit (.int .u32 x)]=u32s (l.set i x.toNat):=by
 have:((x.toNat:Nat):Int)=x:=Int.toNat_of_nonneg h;simp[u32s,List.map_set,this]
theorem Kh {l:List Nat} {n:Nat}:(u32s l).take n=u32s (l.take n):=by simp[u32s,List.map_take]
theorem Ki {l:List Nat} {n:Nat}:(u32s l).drop n=u32s (l.drop n):=by simp[u32s,List.map_drop]
theorem D5 {l k:List Nat}:u32s l++u32s k=u32s (l++k):=by simp[u32s]
theorem F7 {n:Nat}:replicate n [FV.lit (.int .u32 0)]=u32s (replicate n 0):=by simp[u32s]
theorem Kj {l:List Nat}:(∀ y∈u32s l,y.length=1)=True:=by
 simp only[eq_iff_iff,iff_true];intro y hy;simp only[u32s,List.mem_map] at hy;obtain⟨n,_,rfl⟩:=hy;rfl
end Go.AM
namespace Go.AM
set_option maxRecDepth 100000
abbrev VR:=qy @VG (qy @Ri (qy @NR (qy @Rj (qy @VH (qy @NS (qy @Rk (qy @J5 (qy @Rl (qy @yv (qy @DX (qy @FO (qy @uQ (qy @yw (qy @Bq (qy @Bs (qy @DZ (qy @yx (qy @D0 (@FP)))))))))))))))))))
abbrev VS:=qy @VI (qy @Rm (qy @Rn (qy @VJ (qy @Rp (qy @Rq (qy @NU (qy @Ro (qy @FQ (qy @Bt (qy @J6 (qy @FT (qy @Rh (qy @NO (qy @FJ (qy @NP (qy @NQ (qy @FK (qy @DV (@DW)))))))))))))))))))
abbrev VT:=qy @J3 (qy @J4 (qy @NV (qy @NW (qy @VK (qy @VL (qy @NX (qy @Rr (qy @VM (qy @Rs (qy @VN (qy @FU (qy @J7 (qy @Rt (qy @J8 (qy @Ru (qy @FW (qy @NZ (qy @VP (@N0)))))))))))))))))))
abbrev VU:=qy @yy (qy @Rv (qy @N2 (qy @D1 (qy @FZ (qy @J9 (qy @Bv (qy @D4 (qy @N4 (qy @J_ (qy @J' (qy @Ry (qy @F1 (qy @Bw (qy @N7 (qy @Bx (qy @N8 (qy @Bz (qy @N9 (@F4)))))))))))))))))))
abbrev VV:=qy @D2 (qy @Rz (qy @Ka (qy @abf (qy @F5 (qy @BA (qy @Kb (qy @Kd (qy @D3 (qy @toL (qy @N' (qy @Ke (qy @RD (qy @Kf (qy @RA (qy @RB (qy @BB (qy @yz (qy @List.modify_zero_cons.{0} (@List.modify_succ_cons.{0})))))))))))))))))))
abbrev VW:=qy @List.flatMap_cons.{0,0} (qy @List.flatMap_nil.{0,0} (qy @List.flatten_cons.{0} (qy @List.flatten_nil.{0} (qy @List.set_cons_zero.{0} (qy @List.set_cons_succ.{0} (qy @List.getD_cons_zero.{0} (qy @List.getD_cons_succ.{0} (qy @List.getElem?_cons_zero.{0} (qy @List.getElem?_cons_succ.{0} (qy @List.length_cons.{0} (qy @List.length_nil.{0} (qy @List.cons_append.{0} (qy @nil_append.{0} (qy @List.replicate_succ.{0} (qy @List.replicate_zero.{0} (qy @Bool.false_eq_true (qy @true_and (qy @and_true (@List.headD_cons.{0})))))))))))))))))))
abbrev VX:=qy @List.take_succ_cons.{0} (qy @List.take_zero.{0} (qy @List.take_nil.{0} (qy @List.drop_zero.{0} (qy @List.drop_succ_cons.{0} (qy @Int.toNat_natCast (qy @Nat.zero_add (qy @aJ (qy @Kg (qy @Oa (qy @Kh (qy @Ki (qy @D5 (qy @F7 (qy @Kj (qy @List.getD_nil.{0} (qy @map_cons.{0,0} (qy @map_nil.{0,0} (qy @Option.map_none.{0,0} (@Option.map_some.{0,0})))))))))))))))))))
abbrev VY:=qy @Ob.ro.eq_def (qy @PV.asInt.eq_def (qy @PV.cells.eq_def (qy @Tab.arN.eq_def (qy @Tab.isBool.eq_def (qy @Tab.isSl.eq_def (qy @TyI.isAgg.eq_def (qy @Nu.eq_def (qy @IC.eq_def (qy @XB.eq_def (qy @vG.eq_def (qy @mH.eq_def (qy @k9.eq_def (qy @EM.eq_def (qy @cS.eq_def (qy @ee.eq_def (qy @GI.eq_def (qy @B1.eq_def (qy @dI.eq_def (@eu.eq_def)))))))))))))))))))
abbrev VZ:=qy @j7.eq_def (qy @jb.eq_def (qy @Lb.eq_def (qy @vH.eq_def (qy @aY.eq_def (qy @i5.eq_def (qy @ma.eq_def (qy @lenOf.eq_def (qy @ID.eq_def (qy @Lc.eq_def (qy @La.eq_def (qy @Dk.eq_def (qy @ig.eq_def (qy @FX.eq_def (qy @Ia.eq_def (qy @VO.eq_def (qy @FY.eq_def (qy @om.eq_def (qy @N_.eq_def (@N5.eq_def)))))))))))))))))))
abbrev V0:=qy @xv.eq_def (qy @F2.eq_def (qy @qJ.eq_def (qy @F3.eq_def (qy @qK.eq_def (qy @abg.eq_def (qy @N1.eq_def (qy @Bu.eq_def (qy @N6.eq_def (qy @tx.eq_def (qy @xt.eq_def (qy @qI.eq_def (qy @abh.eq_def (qy @abi.eq_def (qy @VQ.eq_def (qy @N3.eq_def (qy @xu.eq_def (qy @F0.eq_def (qy @rUn.eq_def (@reloc.eq_def)))))))))))))))))))
abbrev RF:=qy @reloc1.eq_def (qy @relocOb.eq_def (qy @room.eq_def (qy @HX.eq_def (qy @shut.eq_def (qy @ft.eq_def (qy @shutAs.eq_def (qy @eH.eq_def (qy @ir.eq_def (qy @storeAt.eq_def (qy @Yh.eq_def (qy @kd.eq_1 (qy @kd.eq_2 (qy @dr.eq_1 (qy @dr.eq_2 (qy @kc.eq_1 (qy @kc.eq_2 (qy @tL.eq_1 (qy @tL.eq_2 (@vI.eq_1)))))))))))))))))))
abbrev RG:=@vI.eq_2
abbrev ow:=qy VR (qy VS (qy VT (qy VU (qy VV (qy VW (qy VX (qy VY (qy VZ (qy V0 (qy RF (RG)))))))))))
def tl (x:Nat->PV) (s:Nat):Nat->List PV
 | 0=>[]
 | n+1=>x s::tl x (s+1) n
theorem WA.blockcut {P:Program} {T:Tab} {m:Nat} {α:Type} (f:α->St) (G:α->Prop) {x y:Code} {id:Nat} {st:St} {Q:KQ} {u:cu (y,Q)} {w:cu (FM P T m y Q u)} {t:cu (x,kW id (FM P T m y Q u) w)}
 (h1:WA P T m x st (kW id (NT (Mid f G) Q ⟨⟩) ⟨⟩) ⟨⟩) (h2: ∀ a,G a->WA P T m y (f a) Q ⟨⟩):WA P T m x st (kW id (FM P T m y Q u) w) t:=by
 refine WPA.mono x (fun e ff h=>?_) h1
 have hm: ∀ Uq,Mid f G Uq->WPA P T m y Uq Q:=fun Uq ⟨a,hs,hg⟩=>by subst hs;exact h2 a hg
 cases e with
 | normal=>exact hm _ h
 | exit i=>
  simp only[kW] at h ⊢;split
  .rename_i hi;rw[if_pos hi] at h;exact hm _ h
  .rename_i hi;rw[if_neg hi] at h;exact h
 | ret=>exact h
theorem Mid.ex {α:Type} {f:α×(Nat->PV)->St} {G:α×(Nat->PV)->Prop} {env:List PV} {H:List Ob} (a:α) (h:(⟨env,H⟩:St)=f (a,fun i=>env.getD i .any)) (hg:G (a,fun i=>env.getD i .any)):Mid f G ⟨env,H⟩:=⟨_,h,hg⟩
theorem RetOK.lent {T:Tab} {st:St} {rs:List ResultVar} {res:PV} {xs:List (List FV)} {cd:Prop} {vs:List PV} (h1:eB T st rs=some (cd,vs)) (hc:cd) (hx:st.heap=[.row true xs])
 (h2:qG st.heap [0] (bN vs)=some res) (h3:lW st.heap [0] (bN vs)=[]):RetOK T rs 1 st [.row true xs] res:=by
 refine⟨cd,vs,[0],h1,hc,by simp,fun i hi=>?_,h2,rfl,fun j id hj=>?_,fun o ho=>?_⟩
 .have:i=0:=by omega
  subst this;rfl
 .cases j with
  | zero=>
   simp at hj;subst hj;rw[h3,hx];rfl
  | succ j=>simp at hj
 simp at ho;subst ho;exact⟨b',rfl⟩
theorem qL {T:Tab} {st:St} {rs:List ResultVar} {res:PV} {ob:Ob} {cd:Prop} {vs:List PV} (h1:eB T st rs=some (cd,vs)) (hc:cd) (hx:st.heap.head?=some ob) (eO:ob.closed) (hrw:ob.rw=true)
 (h2:qG st.heap [0] (bN vs)=some res) (h3:(shutIds (lW st.heap [0] (bN vs)) st.heap).head?=some ob):RetOK T rs 1 st [ob] res:=by
 refine⟨cd,vs,[0],h1,hc,by simp,fun i hi=>?_,h2,rfl,fun j id hj=>?_,fun o ho=>?_⟩
 .have:i=0:=by omega
  subst this;rfl
 .cases j with
  | zero=>
   simp at hj;subst hj;rw[<-List.head?_eq_getElem?,h3];rfl
  | succ j=>simp at hj
 simp at ho;subst ho;exact⟨eO,hrw⟩
end Go.AM
namespace Go.AM
variable {P:Program} {T:Tab} {m:Nat}
theorem WPcall.det {c:Call} {st:St} {K:PV->List Ob->Prop} (h:WPcall P T c st K): ∃ v H,K v H/\WPcall P T c st (fun v2 H2=>v2=v/\H2=H):=by
 unfold WPcall at h ⊢;split at h
 .rename_i b hb;split at h
  .rename_i r hr;refine⟨r.val,r.heap,h.2,?_⟩;simp only[hr];exact⟨h.1,by simp⟩
  exact h.elim
 .rename_i f hf;split at h
  .rename_i k pre post hk;obtain⟨v,H',hc,hK⟩:=h;refine⟨v,H',hK,?_⟩;simp only[hk];exact⟨v,H',hc,rfl,rfl⟩
  exact h.elim
 exact h.elim
theorem WPop.det {o:Op} {st:St} {K:PV->List Ob->Prop} (h:WPop P T o st K): ∃ v H,K v H/\WPop P T o st (fun v2 H2=>v2=v/\H2=H):=by
 unfold WPop at h ⊢;split at h
 .exact WPcall.det h
 split at h
 .rename_i r hr;refine⟨r.val,r.heap,h.2,?_⟩;simp only[hr];exact⟨h.1,by simp⟩
 exact h.elim
theorem WPops.det {all:Array Oper}: ∀ (l:List Oper) {st:St} {K:St->Prop},WPops P T all l st K-> ∃ st',K st'/\WPops P T all l st (fun s=>s=st')
 | [],st,K,h=>⟨st,h,rfl⟩
 | o::rest,st,K,h=>by
  unfold WPops at h;split at h
  .rename_i hg;obtain⟨v,H,h1,h2⟩:=WPop.det h;obtain⟨s,hs,h3⟩:=WPops.det rest h1;refine⟨s,hs,?_⟩;unfold WPops;simp only[hg];exact WPop.mono (fun v2 H2 e=>by obtain⟨rfl,rfl⟩:=e;exact h3) h2
  rename_i j want hg;split at h
  .rename_i t ht;split at h
   .rename_i b hb;by_cases xO:b=want
    .obtain⟨v,H,h1,h2⟩:=WPop.det (h.1 xO);obtain⟨s,hs,h3⟩:=WPops.det rest h1;refine⟨s,hs,?_⟩;unfold WPops;simp only[hg,ht,hb];exact⟨fun _=>WPop.mono (fun v2 H2 e=>by obtain⟨rfl,rfl⟩:=e;exact h3) h2,fun e=>by subst xO;cases b<;>simp at e⟩
    have V8:b=!want:=by cases b<;>cases want<;>simp_all
    obtain⟨s,hs,h3⟩:=WPops.det rest (h.2 V8);refine⟨s,hs,?_⟩;unfold WPops;simp only[hg,ht,hb];exact⟨fun e=>absurd e xO,fun _=>h3⟩
   .rename_i hb;obtain⟨s,hs,h3⟩:=WPops.det rest h;refine⟨s,hs,?_⟩;unfold WPops;simp only[hg,ht,hb];exact h3
   exact h.elim
  exact h.elim
theorem WPdrawS.det {all:Array Oper}: ∀ (l:List Oper) {sh tr:List (List Nat)} {st:St} {K:St->List (List Nat)->Prop},WPdrawS P T all l sh tr st K-> ∃ st' tr',K st' tr'/\WPdrawS P T all l sh tr st (fun s t=>s=st'/\t=tr')
 | [],sh,tr,st,K,h=>⟨st,tr,h,rfl,rfl⟩
 | o::rest,sh,tr,st,K,h=>by
  unfold WPdrawS at h;split at h
  .rename_i hg;obtain⟨v,H,⟨h0,h1⟩,h2⟩:=WPop.det h;obtain⟨s,t2,hs,h3⟩:=WPdrawS.det rest h1;refine⟨s,t2,hs,?_⟩;unfold WPdrawS;simp only[hg];exact WPop.mono (fun v2 H2 e=>by obtain⟨rfl,rfl⟩:=e;exact⟨h0,h3⟩) h2
  rename_i j want hg;split at h
  .rename_i t ht;split at h
   .rename_i b hb;by_cases xO:b=want
    .obtain⟨v,H,⟨h0,h1⟩,h2⟩:=WPop.det (h.1 xO);obtain⟨s,t2,hs,h3⟩:=WPdrawS.det rest h1;refine⟨s,t2,hs,?_⟩;unfold WPdrawS;simp only[hg,ht,hb];exact⟨fun _=>WPop.mono (fun v2 H2 e=>by obtain⟨rfl,rfl⟩:=e;exact⟨h0,h3⟩) h2,fun e=>by subst xO;cases b<;>simp at e⟩
    have V8:b=!want:=by cases b<;>cases want<;>simp_all
    obtain⟨s,t2,hs,h3⟩:=WPdrawS.det rest (h.2 V8);refine⟨s,t2,hs,?_⟩;unfold WPdrawS;simp only[hg,ht,hb];exact⟨fun e=>absurd e xO,fun _=>h3⟩
   .rename_i hb;obtain⟨s,t2,hs,h3⟩:=WPdrawS.det rest h;refine⟨s,t2,hs,?_⟩;unfold WPdrawS;simp only[hg,ht,hb];exact h3
   exact h.elim
  exact h.elim
theorem WPA.det: ∀ (cd:Code) {st:St} {Q:AExit->St->Prop},WPA P T m cd st Q-> ∃ e st',Q e st'/\WPA P T m cd st (fun e2 s2=>e2=e/\s2=st')
 | .skip,st,Q,h=>⟨_,_,h,rfl,rfl⟩
 | .label _,st,Q,h=>⟨_,_,h,rfl,rfl⟩
 | .exit _,st,Q,h=>⟨_,_,h,rfl,rfl⟩
 | .ret,st,Q,h=>⟨_,_,h,rfl,rfl⟩
 | .region n ops draw,st,Q,h=>by
  unfold WPA at h ⊢;split at h
  .rename_i hd;rcases h with⟨h0,ids,sh,h1⟩ | ⟨s,h0,h1⟩
   .obtain⟨s,tr,⟨Pt,hs⟩,h2⟩:=WPdrawS.det _ h1;refine⟨.normal,s,hs,?_⟩;rw[if_pos hd];exact .inl ⟨h0,ids,sh,WPdrawS.mono (fun _ _ e=>⟨by rw[e.2];exact Pt,rfl,e.1⟩) _ h2⟩
   refine⟨.normal,s,h1,?_⟩;rw[if_pos hd];exact .inr ⟨s,h0,rfl,rfl⟩
  .rename_i hd;obtain⟨s,hs,h2⟩:=WPops.det _ h;refine⟨.normal,s,hs,?_⟩;rw[if_neg hd];exact WPops.mono (fun _ e=>⟨rfl,e⟩) _ h2
 | .scope x,st,Q,h=>by
  unfold WPA at h;obtain⟨e,s,h1,h2⟩:=WPA.det x h;refine⟨e,s,h1,?_⟩;unfold WPA;exact h2
 | .seq x y,st,Q,h=>by
  unfold WPA at h;obtain⟨e,s,h1,h2⟩:=WPA.det x h;cases e with
  | normal=>
   obtain⟨e2,s2,h3,h4⟩:=WPA.det y h1;refine⟨e2,s2,h3,?_⟩;unfold WPA;exact WPA.mono x (fun e3 s3 he=>by obtain⟨rfl,rfl⟩:=he;exact h4) h2
  | exit i=>
   refine⟨_,_,h1,?_⟩;unfold WPA;exact WPA.mono x (fun e3 s3 he=>by obtain⟨rfl,rfl⟩:=he;exact⟨rfl,rfl⟩) h2
  | ret=>
   refine⟨_,_,h1,?_⟩;unfold WPA;exact WPA.mono x (fun e3 s3 he=>by obtain⟨rfl,rfl⟩:=he;exact⟨rfl,rfl⟩) h2
 | .cond o x y,st,Q,h=>by
  unfold WPA at h;split at h
  .rename_i b hb;cases b with
   | true=>
    obtain⟨e,s,h1,h2⟩:=WPA.det x (h.1 rfl);refine⟨e,s,h1,?_⟩;unfold WPA;simp only[hb];exact⟨fun _=>h2,fun e=>by simp at e⟩
   | false=>
    obtain⟨e,s,h1,h2⟩:=WPA.det y (h.2 rfl);refine⟨e,s,h1,?_⟩;unfold WPA;simp only[hb];exact⟨fun e=>by simp at e,fun _=>h2⟩
  .exact h.elim
 | .block id x,st,Q,h=>by
  unfold WPA at h;obtain⟨e,s,h1,h2⟩:=WPA.det x h;cases e with
  | normal=>
   refine⟨_,_,h1,?_⟩;unfold WPA;exact WPA.mono x (fun e3 s3 he=>by obtain⟨rfl,rfl⟩:=he;exact⟨rfl,rfl⟩) h2
  | exit i=>
   by_cases hi:i=id
   .simp only[hi,if_true] at h1;refine⟨.normal,s,h1,?_⟩;unfold WPA;refine WPA.mono x (fun e3 s3 he=>?_) h2;obtain⟨rfl,rfl⟩:=he;simp[hi]
   .simp only[hi,if_false] at h1;refine⟨.exit i,s,h1,?_⟩;unfold WPA;refine WPA.mono x (fun e3 s3 he=>?_) h2;obtain⟨rfl,rfl⟩:=he;simp[hi]
  | ret=>
   refine⟨_,_,h1,?_⟩;unfold WPA;exact WPA.mono x (fun e3 s3 he=>by obtain⟨rfl,rfl⟩:=he;exact⟨rfl,rfl⟩) h2
 | .loop x,st,Q,h=>by
  unfold WPA at h;obtain⟨I,⟨n0,K6,hw0,Em⟩,c6⟩:=h;have key: ∀ n ff,I n ff-> ∃ e s,Q e s/\WPA P T m (.loop x) ff (fun e2 s2=>e2=e/\s2=s):=by
   intro n
   induction n using Nat.strongRecOn with
   | _ n ih=>
    intro ff hi;obtain⟨e,s,h1,h2⟩:=WPA.det x (c6 n ff hi);cases e with
    | normal=>
     obtain⟨n',s',aG,hw,oy⟩:=h1;obtain⟨e2,s2,hq,hl⟩:=ih n' aG s' oy;refine⟨e2,s2,hq,?_⟩;unfold WPA at hl ⊢;obtain⟨J,⟨k0,t0,Yb,BS⟩,hJ⟩:=hl;refine⟨fun k t=>(k=k0+1/\t=ff)\/(k<=k0/\J k t),⟨k0+1,ff,Weak.refl _ _,Or.inl ⟨rfl,rfl⟩⟩,?_⟩;intro k t hk;rcases hk with⟨rfl,rfl⟩ | ⟨hk,hj⟩
     .refine WPA.mono x (fun e3 s3 he=>?_) h2;obtain⟨rfl,rfl⟩:=he;exact⟨k0,t0,by omega,Weak.trans hw Yb,Or.inr ⟨qp _,BS⟩⟩
     .refine WPA.mono x (fun e3 s3 he=>?_) (hJ k t hj);cases e3 with
      | normal=>
       obtain⟨k',t',lY,hw',PN⟩:=he;exact⟨k',t',lY,hw',Or.inr ⟨by omega,PN⟩⟩
      | exit i=>exact he
      | ret=>exact he
    | exit i=>
     refine⟨_,_,h1,?_⟩;unfold WPA;refine⟨fun k t=>k=0/\t=ff,⟨0,ff,Weak.refl _ _,rfl,rfl⟩,?_⟩;rintro k t ⟨rfl,rfl⟩;exact WPA.mono x (fun e3 s3 he=>by obtain⟨rfl,rfl⟩:=he;exact⟨rfl,rfl⟩) h2
    | ret=>
     refine⟨_,_,h1,?_⟩;unfold WPA;refine⟨fun k t=>k=0/\t=ff,⟨0,ff,Weak.refl _ _,rfl,rfl⟩,?_⟩;rintro k t ⟨rfl,rfl⟩;exact WPA.mono x (fun e3 s3 he=>by obtain⟨rfl,rfl⟩:=he;exact⟨rfl,rfl⟩) h2
  obtain⟨e,s,hq,hl⟩:=key n0 K6 Em;refine⟨e,s,hq,?_⟩;unfold WPA at hl ⊢;obtain⟨J,⟨k0,t0,Yb,BS⟩,hJ⟩:=hl;exact⟨J,⟨k0,t0,Weak.trans hw0 Yb,BS⟩,hJ⟩
def RH (T:Tab) (rs:List ResultVar) (m:Nat) (R:List Ob->PV->Prop) (e:AExit) (st:St):Prop:=match e with | .exit _=>False | _=> ∃ H1 res,R H1 res/\RetOK T rs m st H1 res
theorem dB {rs:List ResultVar} {R:List Ob->PV->Prop} {st:St} {u:cu _}:Ap (RH T rs m R) .normal st u= ∃ H1 res,R H1 res/\RetOK T rs m st H1 res:=rfl
theorem eU {rs:List ResultVar} {R:List Ob->PV->Prop} {st:St} {u:cu _}:Ap (RH T rs m R) .ret st u= ∃ H1 res,R H1 res/\RetOK T rs m st H1 res:=rfl
theorem Oc (hT:ck P T) (hm:P.follows .mixedOrders=true) {k:FuncId} {fn:Func} {cd:Code} (hf:P.funcs[k]?=some fn) (hb:fn.body=some cd) (kJ:(fn.name== "runtime.NumGoroutine")=false)
 {H0:List Ob} {args:List PV} {R:List Ob->PV->Prop} {rs:List ResultVar} (hr:fn.results=List.toArray rs) {n:Nat} (hn:fn.ntmps - args.length=n) {env:List PV} (he:args++replicate n .any=env) {m:Nat} (Ic:H0.length=m)
 (h:WA P T m cd ⟨env,H0⟩ (RH T rs m R) ⟨⟩): ∃ H1 res,R H1 res/\Den P k H0 args H1 res:=by
 obtain⟨e,st,hq,hw⟩:=WPA.det cd h
 cases e with
 | normal=>
  obtain⟨H1,res,hR,Pd⟩:=hq;exact⟨H1,res,hR,F6 hT hm hf hb kJ hr hn he Ic (WPA.mono cd (fun e2 s2 hh=>by obtain⟨rfl,rfl⟩:=hh;exact Pd) hw)⟩
 | exit i=>exact hq.elim
 | ret=>
  obtain⟨H1,res,hR,Pd⟩:=hq;exact⟨H1,res,hR,F6 hT hm hf hb kJ hr hn he Ic (WPA.mono cd (fun e2 s2 hh=>by obtain⟨rfl,rfl⟩:=hh;exact Pd) hw)⟩
end Go.AM
namespace Go.AM
theorem Weak.nil {m:Nat} {env:List PV} {H:List Ob} {st':St} (t s:Nat) (hs:0<s) (ht:env[t]?=some .nilsl) (h2:Weak m ⟨env.set t (.lsl H.length 0 0 s),H++[.row true []]⟩ st'):Weak m ⟨env,H⟩ st':=by
 intro c a w tD ⟨X,ρ,h,yP,hd,Xb⟩;refine h2 c a w tD ⟨X,ρ++[some ⟨none,0,s,0⟩],?_,?_,hd,Xb⟩
 .have cX:ρ.Le (ρ++[some ⟨none,0,s,0⟩]):=Places.Le.append ρ _;have key: ∀ (id:Nat) p o,(ρ++[some ⟨none,0,s,0⟩])[id]?=some (some p)->(H++[Ob.row true []])[id]?=some o->(ρ[id]?=some (some p)/\H[id]?=some o)\/(p=⟨none,0,s,0⟩/\o= .row true []):=by
   intro id p o hp ho;by_cases aG:id<ρ.length
   .rw[qi aG] at hp;rw[qi (by rw[<-h.len];exact aG)] at ho;exact .inl ⟨hp,ho⟩
   rw[getElem?_append_right (by omega)] at hp;rw[getElem?_append_right (by rw[<-h.len];omega),<-h.len] at ho;right;cases hi:id - ρ.length with
   | zero=>rw[hi] at hp ho;simp at hp ho;exact⟨hp.symm,ho.symm⟩
   | succ j=>rw[hi] at hp;simp at hp
  refine⟨by simp[h.len],?_,?_,?_,h.xo,h.xlt,h.ge,h.base.trans cX⟩
  .intro id p o hp ho;rcases key id p o hp ho with⟨h3,h4⟩ | ⟨rfl,rfl⟩
   .exact(h.ob id p o h3 h4).keep (Same.refl X w) (fun _ _ hx=>hx) cX (fun _ g _ _=>⟨rfl,Iff.rfl⟩)
   exact⟨⟨hs,by simp,[],by simpa [Place.val] using World.ownsRow_nil w 0 0 s,by simp⟩,by simp⟩
  .intro i j p q o r g hp hq ho hr h3 h4 h5 h6;rcases key i p o hp ho with⟨h7,h8⟩ | ⟨rfl,rfl⟩
   .rcases key j q r hq hr with⟨h9,BV⟩ | ⟨rfl,rfl⟩
    .exact h.inj i j p q o r g h7 h9 h8 BV h3 h4 h5 h6
    simp at h6
   simp at h5
  intro id p o g hp ho h3 h4;rcases key id p o hp ho with⟨h7,h8⟩ | ⟨rfl,rfl⟩
  .exact h.own id p o g h7 h8 h3 h4
  simp at h4
 have cX:ρ.Le (ρ++[some ⟨none,0,s,0⟩]):=Places.Le.append ρ _;have adq:=yP.mono cX;refine⟨by rw[Uy];exact yP.1,fun i v x hv hx=>?_⟩;by_cases hi:t=i
 .subst hi;rw[qv (List.getElem?_eq_some_iff.1 ht).1] at hx;cases hx;have:=yP.2 t v _ hv ht;cases this with
  | nilsl=>
   exact .lsl0 H.length ⟨none,0,s,0⟩ (by rw[<-h.len];simp) rfl
 rw[qm hi] at hx;exact adq.2 i v x hv hx
section
variable {P:Program} {T:Tab}
def afh (T:Tab) (rs:List ResultVar) (e:AExit) (st:St):Prop:=match e with | .exit _=>False | _=> ∃ cd,eB T st rs=some (cd,[.clip []])/\cd
theorem abj (hT:ck P T) (hm:P.follows .mixedOrders=true) {k:FuncId} {fn:Func} {cd:Code} (hf:P.funcs[k]?=some fn) (hb:fn.body=some cd) (kJ:(fn.name== "runtime.NumGoroutine")=false)
 {args:List PV} {rs:List ResultVar} (hr:fn.results=List.toArray rs) {n:Nat} (hn:fn.ntmps - args.length=n) {env:List PV} (he:args++replicate n .any=env)
 (h:WA P T 0 cd ⟨env,[]⟩ (afh T rs) ⟨⟩):Den P k [] args [] (.clip []):=by
 subst hn;subst he
 refine⟨⟨fn,cd,hf,hb,kJ⟩,fun c X ρ vs hh hM dT=>?_⟩
 have PK:ρ=[]:=List.eq_nil_of_length_eq_zero hh.len
 subst PK
 refine calls_of_wp hf hb ?_
 let c2:fR:={c with base:=[]}
 have Xy:HRd c2 c.w0 X [] []:=⟨hh.len,hh.ob,hh.inj,hh.own,hh.xo,hh.xlt,hh.ge,Places.Le.refl []⟩
 have hs:SRd c2 ⟨args++replicate (fn.ntmps - args.length) .any,[]⟩ {tmps:=vs++Array.replicate (fn.ntmps - vs.size) undef,defers:=[]} c.w0:=by
  refine⟨X,[],Xy,⟨by simp[dT.1],fun i v x hv hx=>?_⟩,rfl,Keeps.refl c2⟩;by_cases hi:i<vs.size
  .rw[Array.getElem?_append_left hi] at hv;rw[qi (by rw[<-dT.1];exact hi)] at hx;exact dT.2 i v x hv hx
  rw[getElem?_append_right (by rw[<-dT.1];omega),List.getElem?_replicate] at hx;split at hx
  .cases hx;exact .any _
  cases hx
 have fin: ∀ st' a' w',(∃ cd,eB T st' rs=some (cd,[.clip []])/\cd)->SRd c2 st' a' w'->a'.defers=[]/\ ∃ v,(results fn a'.tmps).run P w'= .ok v w'/\ ∃ v2 X' ρ',Ending.returned v= .returned v2/\Keeps c w'/\HRd c w' X' ρ' []/\PRd w' X' ρ' v2 (.clip [])/\
  Places.Le [] ρ'/\(∀ (id:Nat) p,([]:Places).length<=id->ρ'[id]?=some (some p)-> ∀ g,p.b=some g->c.w0.heap.size<=g):=by
  intro st' a' w' ⟨cd',ao,jv⟩ ⟨X',ρ',h',KR,hd',vF⟩
  obtain⟨u,cL,hu⟩:=od hT h' KR (by rw[hr];exact ao) jv
  refine⟨hd',u,cL,u,X',[],rfl,⟨⟨vF.os,vF.tape,vF.output,vF.size,vF.block⟩,vF.drawn⟩,⟨rfl,by simp,by simp,by simp,h'.xo,h'.xlt,h'.ge,hh.base⟩,?_,Places.Le.refl _,by simp⟩
  change PRd w' X' ρ' u (.clip []) at hu
  cases hu with
  | clip a n _ hf=>exact .clip a n _ hf
 refine fk hT hm (m:=0) (by show([]:Places).length<=_;exact qp _) cd h hs (fun e st' a' w' he tK=>?_)
 cases e with
 | normal=>exact fin st' a' w' he tK
 | ret=>exact fin st' a' w' he tK
 | exit id=>exact he.elim
def V1 (T:Tab) (rs:List ResultVar) (e:AExit) (st:St):Prop:=match e with | .exit _=>False | _=> ∃ cd,eB T st rs=some (cd,[.nilsl])/\cd
theorem ox {rs:List ResultVar} {st:St} {u:cu _}:Ap (V1 T rs) .normal st u= ∃ cd,eB T st rs=some (cd,[.nilsl])/\cd:=rfl
theorem uv {rs:List ResultVar} {st:St} {u:cu _}:Ap (V1 T rs) .ret st u= ∃ cd,eB T st rs=some (cd,[.nilsl])/\cd:=rfl
theorem Ib (hT:ck P T) (hm:P.follows .mixedOrders=true) {k:FuncId} {fn:Func} {cd:Code} (hf:P.funcs[k]?=some fn) (hb:fn.body=some cd) (kJ:(fn.name== "runtime.NumGoroutine")=false)
 {args:List PV} {rs:List ResultVar} (hr:fn.results=List.toArray rs) {n:Nat} (hn:fn.ntmps - args.length=n) {env:List PV} (he:args++replicate n .any=env)
 (h:WA P T 0 cd ⟨env,[]⟩ (V1 T rs) ⟨⟩) (s:Nat) (EI:0<s):Den P k [] args [.row true []] (.lsl 0 0 0 s):=by
 subst hn;subst he
 refine⟨⟨fn,cd,hf,hb,kJ⟩,fun c X ρ vs hh hM dT=>?_⟩
 have PK:ρ=[]:=List.eq_nil_of_length_eq_zero hh.len
 subst PK
 refine calls_of_wp hf hb ?_
 let c2:fR:={c with base:=[]}
 have Xy:HRd c2 c.w0 X [] []:=⟨hh.len,hh.ob,hh.inj,hh.own,hh.xo,hh.xlt,hh.ge,Places.Le.refl []⟩
 have hs:SRd c2 ⟨args++replicate (fn.ntmps - args.length) .any,[]⟩ {tmps:=vs++Array.replicate (fn.ntmps - vs.size) undef,defers:=[]} c.w0:=by
  refine⟨X,[],Xy,⟨by simp[dT.1],fun i v x hv hx=>?_⟩,rfl,Keeps.refl c2⟩;by_cases hi:i<vs.size
  .rw[Array.getElem?_append_left hi] at hv;rw[qi (by rw[<-dT.1];exact hi)] at hx;exact dT.2 i v x hv hx
  rw[getElem?_append_right (by rw[<-dT.1];omega),List.getElem?_replicate] at hx;split at hx
  .cases hx;exact .any _
  cases hx
 have fin: ∀ st' a' w',(∃ cd,eB T st' rs=some (cd,[.nilsl])/\cd)->SRd c2 st' a' w'->a'.defers=[]/\ ∃ v,(results fn a'.tmps).run P w'= .ok v w'/\ ∃ v2 X' ρ',Ending.returned v= .returned v2/\Keeps c w'/\HRd c w' X' ρ' [.row true []]/\PRd w' X' ρ' v2 (.lsl 0 0 0 s)/\
  Places.Le [] ρ'/\(∀ (id:Nat) p,([]:Places).length<=id->ρ'[id]?=some (some p)-> ∀ g,p.b=some g->c.w0.heap.size<=g):=by
  intro st' a' w' ⟨cd',ao,jv⟩ ⟨X',ρ',h',KR,hd',vF⟩
  obtain⟨u,cL,hu⟩:=od hT h' KR (by rw[hr];exact ao) jv
  refine⟨hd',u,cL,u,X',[some ⟨none,0,s,0⟩],rfl,⟨⟨vF.os,vF.tape,vF.output,vF.size,vF.block⟩,vF.drawn⟩,⟨rfl,?_,?_,?_,h'.xo,h'.xlt,h'.ge,hh.base.trans (Places.Le.append [] _)⟩,?_,Places.Le.append [] _,?_⟩
  .intro id p o hp ho
   cases id with
   | succ j=>simp at hp
   | zero=>
    simp at hp ho;subst hp;subst ho;exact⟨⟨EI,by simp,[],by simpa [Place.val] using World.ownsRow_nil w' 0 0 s,by simp⟩,by simp⟩
  .intro i j p q o r g hp hq ho hr h3 h4 h5 h6
   cases i with
   | succ j=>simp at hp
   | zero=>simp at hp;subst hp;cases h5
  .intro i p o g hp ho h3 h4
   cases i with
   | succ j=>simp at hp
   | zero=>simp at hp;subst hp;cases h4
  .change PRd w' X' ρ' u .nilsl at hu
   cases hu with
   | nilsl=>exact .lsl0 0 ⟨none,0,s,0⟩ rfl rfl
  intro id p _ hp g hg
  cases id with
  | succ j=>simp at hp
  | zero=>simp at hp;subst hp;cases hg
 refine fk hT hm (m:=0) (by show([]:Places).length<=_;exact qp _) cd h hs (fun e st' a' w' he tK=>?_)
 cases e with
 | normal=>exact fin st' a' w' he tK
 | ret=>exact fin st' a' w' he tK
 | exit id=>exact he.elim
end
theorem Den.empty' {P:Program} {k:FuncId} {pre post:List PV} {H1:List Ob} {res:PV} (h1:Den P k [] (pre++ .nilsl::post) H1 res) (h2: ∀ b o cap,Den P k [] (pre++ .fv (.lit (.slice (some ⟨b,o,none⟩) 0 cap))::post) H1 res):
 Den P k [] (pre++ .fv (.sl [])::post) H1 res:=by
 refine⟨h1.1,fun c X ρ vs hh hM dT=>?_⟩
 have aG:pre.length<vs.size:=by rw[dT.1];simp
 have hv:vs[pre.length]?=some vs[pre.length]:=by simp[aG]
 have hrd:=dT.2 pre.length vs[pre.length] (.fv (.sl [])) hv (by simp)
 generalize vs[pre.length]=v at hv hrd
 cases hrd with
 | fv _ _ hf=>
  cases hf with
  | nil=>exact h1.2 c X ρ vs hh hM (dT.swap (fun u hu=>by rw[hv] at hu;cases hu;exact .nilsl))
  | sl ad n cap s _ us hn hc k7 h0=>
   have hn:n=0:=by simpa using hn.symm
   subst hn;obtain⟨b,o,sp⟩:=ad;cases h0;exact(h2 b o cap).2 c X ρ vs hh hM (dT.swap (fun u hu=>by rw[hv] at hu;cases hu;exact .fv _ _ (.lit _ rfl)))
end Go.AM
namespace Go.AM
def Plain (res:PV):Prop:= ∀ (w w':World) (X X':Nat->Prop) (ρ ρ':Places) (v:Value),PRd w X ρ v res->PRd w' X' ρ' v res
theorem Plain.lit (v:Value):Plain (.fv (.lit v)):=fun w w' X X' ρ ρ' u h=>by
 cases h with
 | fv _ _ hf=>cases hf with
  | lit _ h1=>exact .fv _ _ (.lit _ h1)
theorem Den.lendF {P:Program} {k:FuncId} {xs:List (List FV)} {n s:Nat} {post:List PV} {res:PV} (h:Den P k [] (.fv (.sl xs)::post) [] res) (hn:n=xs.length) (hp:Plain res) (Pe: ∀ x∈post,Plain x):
 Den P k [.row true xs] (.lsl 0 0 n s::post) [.row true xs] res:=by
 subst hn
 refine⟨h.1,fun c X ρ vs hh hM dT=>?_⟩
 obtain⟨X1,h1,pj,jd⟩:=hh.shutIds [0]
 let c2:fR:={w0:=c.w0,M:=fun _=>False,Xo:=c.Xo,base:=[],hxo:=fun b hb=>⟨(c.hxo b hb).1,fun h=>h⟩}
 have Xy:HRd c2 c.w0 X1 [] []:=⟨rfl,by simp,by simp,by simp,h1.xo,h1.xlt,h1.ge,Places.Le.refl _⟩
 have dh:0<vs.size:=by rw[dT.1];simp
 have EA:vs[0]?=some vs[0]:=by simp[dh]
 have ahJ:=dT.2 0 vs[0] (.lsl 0 0 xs.length s) EA rfl
 have K7:FRd c.w0 X1 vs[0] (.sl xs):=by
  refine mI (H:=[.row true xs]) hh (fun j o ho=>ho) ahJ (by simp[dI]) pj (fun id cF p o g hp ho ha hg=>jd id (by simpa [eu] using cF) p o g hp ho ha hg)
 have ahK:PRds c.w0 X1 [] vs (.fv (.sl xs)::post):=by
  refine⟨by rw[dT.1];simp,fun i v x hv hx=>?_⟩;cases i with
  | zero=>
   simp at hx;subst hx;rw[EA] at hv;cases hv;exact .fv _ _ K7
  | succ i=>
   have pH:post[i]?=some x:=by simpa using hx
   exact Pe x (List.mem_of_getElem? pH) _ _ _ _ _ _ _ (dT.2 (i+1) v x hv (by simpa using pH))
 refine(h.2 c2 X1 [] vs Xy (fun b hb=>hb.elim) ahK).mono (fun e w' XA=>?_)
 obtain⟨v,X',ρ',he,hk,hr,yA,cX,jw⟩:=XA
 have sq: ∀ b,b<c.w0.heap.size->w'.heap[b]?=c.w0.heap[b]?:=fun b hb=>hk.block b hb (fun h=>h)
 have eD:Same X c.w0 w':=⟨hk.size,fun b hb _=>sq b hb⟩
 refine⟨v,X,ρ,he,⟨⟨hk.os,hk.tape,hk.output,hk.size,fun b hb _=>sq b hb⟩,hk.drawn⟩,⟨hh.len,fun id p o h2 h3=>(hh.ob id p o h2 h3).keep eD (fun _ _ h=>h) (Places.Le.refl _) (fun _ g _ hg=>⟨sq g hg,Iff.rfl⟩),hh.inj,
  fun id p o g h2 h3 h4 h5=>⟨(hh.own id p o g h2 h3 h4 h5).1,Nat.lt_of_lt_of_le (hh.own id p o g h2 h3 h4 h5).2 hk.size⟩,hh.xo,fun b hb=>Nat.lt_of_lt_of_le (hh.xlt b hb) hk.size,hk.size,hh.base⟩,hp _ _ _ _ _ _ _ yA,Places.Le.refl _,fun id p h2 h3=>?_⟩
 have:=(List.getElem?_eq_some_iff.1 h3).1
 omega
theorem Weak.shut {m:Nat} {env:List PV} {H:List Ob} {st':St} (ids:List Nat) (h2:Weak m ⟨env,shutIds ids H⟩ st'):Weak m ⟨env,H⟩ st':=fun c a w tD h=>h2 c a w tD (h.shut ids)
theorem Weak.fz {m:Nat} {env:List PV} {H:List Ob} {st':St} (t id off len s:Nat) (xs:List (List FV)) (ht:env[t]?=some (.lsl id off len s)) (ho:H[id]?=some (.row false xs)) (hl:off+len<=xs.length)
 (h2:Weak m ⟨env.set t (.fv (.sl ((xs.drop off).take len))),H⟩ st'):Weak m ⟨env,H⟩ st':=by
 intro c a w tD ⟨X,ρ,h,yP,hd,Xb⟩
 refine h2 c a w tD ⟨X,ρ,h,⟨by rw[Uy];exact yP.1,fun i v x hv hx=>?_⟩,hd,Xb⟩
 by_cases hi:t=i
 .subst hi
  rw[qv (List.getElem?_eq_some_iff.1 ht).1] at hx
  cases hx
  refine .fv _ _ (mI (H:=H) h (fun j o h=>h) (yP.2 t v _ hv ht) (by simp[dI,ho,hl]) (fun b h=>h) (fun Iz cF p o g hp gg ha hg=>?_))
  simp only[eu,qz] at cF
  subst cF
  rw[ho] at gg
  cases gg
  have:=(h.ob Iz p _ hp ho).2 g hg
  exact fun hx=>by have:=this.2 hx;cases this
 rw[qm hi] at hx
 exact yP.2 i v x hv hx
theorem abk {H:List Ob} {id off n s:Nat}:shutBs H id [.lsl id off n s]=H:=by simp[shutBs,tf,shutIds]
theorem Kk {H:List Ob} {id off n s:Nat}:te H id [.lsl id off n s]=some [.lsl 0 off n s]:=by simp[te,TU]
theorem D6: ∀ {α:Type} {l:List α} {i:Nat} {x:α},l[i]?=some x->l.set i x=l
 | _,[],_,_,h=>by simp at h
 | _,a::l,0,x,h=>by simp at h;subst h;rfl
 | _,a::l,i+1,x,h=>by simp only[List.set_cons_succ];rw[D6 (by simpa using h)]
theorem GoCall.show {P:Program} {env:List PV} {H:List Ob} {K:PV->List Ob->Prop} {k:FuncId} {id n s:Nat} {xs:List (List FV)} {res:PV} {t:cu _} (hd:Den P k [] [.fv (.sl xs)] [] res) (hp:Plain res) (hn:n=xs.length)
 (ho:H[id]?=some (.row true xs)) (hk:K (reloc (lent id H.length) res) H):GoCall P ⟨env,H⟩ (some (k,[],[])) [.lsl id 0 n s] K t:=by
 refine sa id (hd.lendF (s:=s) hn hp (by simp)) ho rfl trivial (by simp[PV.refsTo]) (by simpa using Kk) ?_ ?_
 .simp only[nil_append,List.append_nil]
  rw[abk];exact ho
 simp only[nil_append,List.append_nil,map_nil]
 rw[abk]
 have:H.set id (relocOb (lent id H.length) (.row true xs))=H:=D6 (by simpa [relocOb] using ho)
 rw[this]
 exact hk
end Go.AM
