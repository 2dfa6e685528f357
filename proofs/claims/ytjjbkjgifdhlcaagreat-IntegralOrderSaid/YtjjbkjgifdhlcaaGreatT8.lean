/- The abstract machine:the end of a function,words,and the bounds of int. -/
import Derived.Test.YtjjbkjgifdhlcaaGreatT7
import Derived.KernelRfl
import Derived.Test.YtjjbkjgifdhlcaaGreatT1
set_option linter.all false
open List (getElem?_append_right getElem?_set_ne length_set map_cons map_nil nil_append replicate)
namespace Go.AM
def mC (m:List Int):List PV:=m.map (fun n=>PV.int .i64 n)
theorem GM: ∀ {m:List Int},q4 (mC m)=some m
 | []=>rfl
 | n::m=>by
  have:=GM (m:=m);unfold mC at this ⊢;simp only[map_cons,q4,this];rfl
def UO (T:Tab) (rs:List ResultVar) (m:Nat) (H1:List Ob) (res:PV) (e:AExit) (st:St):Prop:=match e with | .exit _=>False | _=>RetOK T rs m st H1 res
section
variable {P:Program} {T:Tab}
theorem cI {rs:List ResultVar} {m:Nat} {H1:List Ob} {res:PV} {st:St} {u:cN _}:Ap (UO T rs m H1 res) .normal st u=RetOK T rs m st H1 res:=rfl
theorem eb {rs:List ResultVar} {m:Nat} {H1:List Ob} {res:PV} {st:St} {u:cN _}:Ap (UO T rs m H1 res) .ret st u=RetOK T rs m st H1 res:=rfl
theorem I2 (hT:ck P T) (hm:P.follows .mixedOrders=true) {k:FuncId} {fn:Func} {cd:Code} (hf:P.funcs[k]?=some fn) (hb:fn.body=some cd) (lj:(fn.name== "runtime.NumGoroutine")=false)
 {H0:List Ob} {args:List PV} {H1:List Ob} {res:PV} {rs:List ResultVar} (hr:fn.results=List.toArray rs) {n:Nat} (hn:fn.ntmps - args.length=n) {env:List PV} (he:args++replicate n .any=env) {m:Nat} (zn:H0.length=m)
 (h:WA P T m cd ⟨env,H0⟩ (UO T rs m H1 res) ⟨⟩):Den P k H0 args H1 res:=by
 subst hn;subst he;subst zn
 refine IG hT hm hf hb lj ?_
 rw[hr]
 refine WPA.mono cd (fun e st hq=>?_) h
 cases e<;>exact hq
theorem Sp {st:St} {rs:List ResultVar} {res:PV} {cd:Prop} {vs:List PV} (h1:gJ T st rs=some (cd,vs)) (hc:cd) (h2:tN st.heap [] (cH vs)=some res):RetOK T rs 0 st [] res:=
 ⟨cd,vs,[],h1,hc,List.nodup_nil,fun i hi=>absurd hi (Nat.not_lt_zero i),h2,rfl,fun j id hj=>by simp at hj,fun o ho=>by simp at ho⟩
theorem RetOK.own {st:St} {rs:List ResultVar} {id len s:Nat} {xs:List (List FV)} {cd:Prop} (h1:gJ T st rs=some (cd,[.lsl id 0 len s])) (hc:cd) (h2:st.heap[id]?=some (.row true xs)):
 RetOK T rs 0 st [.row true xs] (.lsl 0 0 len s):=by
 refine⟨cd,[.lsl id 0 len s],[id],h1,hc,by simp,fun i hi=>absurd hi (Nat.not_lt_zero i),?_,rfl,fun j k hj=>?_,fun o ho=>?_⟩
 .simp[cH,tN,y9,t_,List.idxOf?_cons]
 .cases j with
  | zero=>
   simp at hj;subst hj;simp[cH,si,zb,za,List.idxOf?_cons,shutIds,h2]
  | succ j=>simp at hj
 simp at ho;subst ho;exact⟨cS,rfl⟩
end
theorem Den.freeze {P:Program} {k:FuncId} {args:List PV} {obs:List Ob} {res res':PV} (h:Den P k [] args obs res) (hf:tN obs [] res=some res'):Den P k [] args [] res':=by
 refine⟨h.1,fun c X ρ vs hh hM fr=>?_⟩;have XJ:ρ=[]:=List.eq_nil_of_length_eq_zero hh.len;subst XJ;refine(h.2 c X [] vs hh hM fr).mono (fun e w' Sm=>?_);obtain⟨v,X',ρ',he,hk,hr,hp,dR,mR⟩:=Sm;obtain⟨X1,h1,tU,kL⟩:=hr.shutIds (si obs [] res);refine⟨v,X1,[],he,hk,⟨rfl,by simp,by simp,by simp,h1.xo,h1.xlt,h1.ge,hh.base⟩,?_,Places.Le.refl _,by simp⟩;exact Q3 hr hp hf tU kL (fun id j p hj=>by simp at hj)
theorem PRds.swap {w:World} {X:Nat->Prop} {ρ:Places} {vs:Array Value} {pre post:List PV} {x y:PV} (h:PRds w X ρ vs (pre++x::post)) (hy: ∀ v,vs[pre.length]?=some v->PRd w X ρ v y):PRds w X ρ vs (pre++y::post):=by
 refine⟨by rw[h.1];simp,fun i v z hv hz=>?_⟩;by_cases hi:i=pre.length
 .subst hi;rw[getElem?_append_right (qp _),Nat.sub_self] at hz;simp only[List.getElem?_cons_zero,qo] at hz;subst hz;exact hy v hv
 refine h.2 i v z hv ?_;rw[<-hz];rcases Nat.lt_or_gt_of_ne hi with h1 | h1
 .rw[qi h1,qi h1]
 rw[getElem?_append_right (by omega),getElem?_append_right (by omega)];obtain⟨j,hj⟩: ∃ j,i - pre.length=j+1:=⟨i - pre.length - 1,by omega⟩;rw[hj];rfl
theorem Den.empty {P:Program} {k:FuncId} {pre post:List PV} {H1:List Ob} {res:PV} (h1:Den P k [] (pre++ .nilsl::post) H1 res) (h2: ∀ ad cap,Den P k [] (pre++ .fv (.lit (.slice (some ad) 0 cap))::post) H1 res):
 Den P k [] (pre++ .fv (.sl [])::post) H1 res:=by
 refine⟨h1.1,fun c X ρ vs hh hM fr=>?_⟩
 have aH:pre.length<vs.size:=by rw[fr.1];simp
 have hv:vs[pre.length]?=some vs[pre.length]:=by simp[aH]
 have hrd:=fr.2 pre.length vs[pre.length] (.fv (.sl [])) hv (by simp)
 generalize vs[pre.length]=v at hv hrd
 cases hrd with
 | fv _ _ hf=>
  cases hf with
  | nil=>exact h1.2 c X ρ vs hh hM (fr.swap (fun u hu=>by rw[hv] at hu;cases hu;exact .nilsl))
  | sl ad n cap s _ us hn hc=>
   have hn:n=0:=by simpa using hn.symm
   subst hn;exact(h2 ad cap).2 c X ρ vs hh hM (fr.swap (fun u hu=>by rw[hv] at hu;cases hu;exact .fv _ _ (.lit _ rfl)))
theorem Dx {H:List Ob}:shutIds [] H=H:=rfl
theorem Aj {H:List Ob} {id:Nat} {ids:List Nat}:shutIds (id::ids) H=shutIds ids (shut H id):=rfl
theorem jK {x:Int} (h: -9223372036854775808<=x/\x<9223372036854775808):IntKind.i64.wrap x=x:=by
 simp[IntKind.wrap,IntKind.bits,IntKind.signed];split<;>omega
theorem dm {x:Int}:IntKind.u32.wrap x=x % 4294967296:=by simp[IntKind.wrap,IntKind.bits,IntKind.signed]
theorem qN {x:Int}:IntKind.u64.wrap x=x % 18446744073709551616:=by simp[IntKind.wrap,IntKind.bits,IntKind.signed]
theorem cP {x:Int} (h:0<=x/\x<4294967296):IntKind.u32.wrap x=x:=by rw[dm];omega
theorem dF {x:Int} (h:0<=x/\x<18446744073709551616):IntKind.u64.wrap x=x:=by rw[qN];omega
theorem iC {x:Int} (h:0<=x/\x<256):IntKind.u8.wrap x=x:=by
 simp[IntKind.wrap,IntKind.bits,IntKind.signed];omega
theorem pz {x b:Int} (h:0<=b):x.fdiv b=x / b:=Int.fdiv_eq_ediv_of_nonneg x h
theorem pA {x b:Int} (h:0<=x):x.tdiv b=x / b:=Int.tdiv_eq_ediv_of_nonneg h
theorem pB {x b:Int} (h:0<=x):x.tmod b=x % b:=Int.tmod_eq_emod_of_nonneg h
def u32s (l:List Nat):List (List FV):=l.map fun(n:Nat)=>[.lit (.int .u32 (n:Int))]
theorem aM {l:List Nat}:(u32s l).length=l.length:=by simp[u32s]
theorem Nj {l:List Nat} {i:Nat} (h:i<l.length):(u32s l).getD i []=[.lit (.int .u32 ((l.getD i 0:Nat):Int))]:=by
 simp[u32s,h]
theorem Rs {l:List Nat} {i:Nat} {x:Int} (h:0<=x):(u32s l).set i [.lit (.int .u32 x)]=u32s (l.set i x.toNat):=by
 have:((x.toNat:Nat):Int)=x:=Int.toNat_of_nonneg h;simp[u32s,List.map_set,this]
theorem Nk {l:List Nat} {n:Nat}:(u32s l).take n=u32s (l.take n):=by simp[u32s,List.map_take]
theorem Nl {l:List Nat} {n:Nat}:(u32s l).drop n=u32s (l.drop n):=by simp[u32s,List.map_drop]
theorem GN {l k:List Nat}:u32s l++u32s k=u32s (l++k):=by simp[u32s]
theorem I3 {n:Nat}:replicate n [FV.lit (.int .u32 0)]=u32s (replicate n 0):=by simp[u32s]
theorem Nm {l:List Nat}:(∀ y∈u32s l,y.length=1)=True:=by
 simp only[eq_iff_iff,iff_true];intro y hy;simp only[u32s,List.mem_map] at hy;obtain⟨n,_,rfl⟩:=hy;rfl
end Go.AM
namespace Go.AM
set_option maxRecDepth 100000
abbrev Y6:=qy @YW (qy @Uv (qy @Q7 (qy @Uw (qy @YX (qy @Q9 (qy @Ux (qy @M7 (qy @Uy (qy @Af (qy @GC (qy @IP (qy @wm (qy @Ag (qy @Dp (qy @Dq (qy @GF (qy @Ah (qy @GG (@IQ)))))))))))))))))))
abbrev Y7:=qy @YY (qy @Uz (qy @UA (qy @YZ (qy @UC (qy @UD (qy @Ra (qy @UB (qy @IS (qy @Dr (qy @M8 (qy @IU (qy @Uu (qy @Q4 (qy @IK (qy @Q5 (qy @Q6 (qy @IL (qy @GA (@GB)))))))))))))))))))
abbrev Y8:=qy @M5 (qy @M6 (qy @Rb (qy @Rc (qy @Y0 (qy @Y1 (qy @Rd (qy @UE (qy @Y2 (qy @UF (qy @Y3 (qy @IV (qy @M9 (qy @UG (qy @M_ (qy @UH (qy @IW (qy @Rf (qy @Y4 (@Rh)))))))))))))))))))
abbrev Y9:=qy @Ai (qy @UI (qy @Rj (qy @GI (qy @IX (qy @Na (qy @Ds (qy @GM (qy @Rk (qy @Nb (qy @Nc (qy @UJ (qy @IY (qy @Dt (qy @Rl (qy @Du (qy @Rn (qy @Dv (qy @Rp (@I0)))))))))))))))))))
abbrev Y_:=qy @GK (qy @UK (qy @Nd (qy @adW (qy @I1 (qy @Dw (qy @Nf (qy @Ng (qy @GL (qy @toL (qy @Rr (qy @Nh (qy @UN (qy @Ni (qy @UL (qy @UM (qy @Dx (qy @Aj (qy @List.modify_zero_cons.{0} (@List.modify_succ_cons.{0})))))))))))))))))))
abbrev Y':=qy @List.flatMap_cons.{0,0} (qy @List.flatMap_nil.{0,0} (qy @List.flatten_cons.{0} (qy @List.flatten_nil.{0} (qy @List.set_cons_zero.{0} (qy @List.set_cons_succ.{0} (qy @List.getD_cons_zero.{0} (qy @List.getD_cons_succ.{0} (qy @List.getElem?_cons_zero.{0} (qy @List.getElem?_cons_succ.{0} (qy @List.length_cons.{0} (qy @List.length_nil.{0} (qy @List.cons_append.{0} (qy @nil_append.{0} (qy @List.replicate_succ.{0} (qy @List.replicate_zero.{0} (qy @Bool.false_eq_true (qy @true_and (qy @and_true (@List.headD_cons.{0})))))))))))))))))))
abbrev Za:=qy @List.take_succ_cons.{0} (qy @List.take_zero.{0} (qy @List.take_nil.{0} (qy @List.drop_zero.{0} (qy @List.drop_succ_cons.{0} (qy @Int.toNat_natCast (qy @Nat.zero_add (qy @aM (qy @Nj (qy @Rs (qy @Nk (qy @Nl (qy @GN (qy @I3 (qy @Nm (qy @List.getD_nil.{0} (qy @map_cons.{0,0} (qy @map_nil.{0,0} (qy @Option.map_none.{0,0} (@Option.map_some.{0,0})))))))))))))))))))
abbrev Zb:=qy @Ob.ro.eq_def (qy @PV.asInt.eq_def (qy @PV.cells.eq_def (qy @Tab.arN.eq_def (qy @Tab.isBool.eq_def (qy @Tab.isSl.eq_def (qy @TyI.isAgg.eq_def (qy @YO.eq_def (qy @Ot.eq_def (qy @asI.eq_def (qy @Ch.eq_def (qy @nK.eq_def (qy @sE.eq_def (qy @SO.eq_def (qy @eg.eq_def (qy @je.eq_def (qy @JF.eq_def (qy @D4.eq_def (qy @fP.eq_def (@eY.eq_def)))))))))))))))))))
abbrev Zc:=qy @ma.eq_def (qy @oy.eq_def (qy @Ou.eq_def (qy @Ci.eq_def (qy @bW.eq_def (qy @oJ.eq_def (qy @ot.eq_def (qy @lenOf.eq_def (qy @LG.eq_def (qy @Ov.eq_def (qy @SN.eq_def (qy @K1.eq_def (qy @kn.eq_def (qy @Re.eq_def (qy @Lg.eq_def (qy @adU.eq_def (qy @Rg.eq_def (qy @vP.eq_def (qy @Rq.eq_def (@Xe.eq_def)))))))))))))))))))
abbrev Zd:=qy @GJ.eq_def (qy @Rm.eq_def (qy @zg.eq_def (qy @Ro.eq_def (qy @zh.eq_def (qy @adX.eq_def (qy @Xc.eq_def (qy @Lf.eq_def (qy @Xf.eq_def (qy @B6.eq_def (qy @GH.eq_def (qy @ze.eq_def (qy @adY.eq_def (qy @adZ.eq_def (qy @adV.eq_def (qy @Xd.eq_def (qy @IZ.eq_def (qy @Ri.eq_def (qy @rUn.eq_def (@reloc.eq_def)))))))))))))))))))
abbrev UQ:=qy @reloc1.eq_def (qy @relocOb.eq_def (qy @room.eq_def (qy @QO.eq_def (qy @shut.eq_def (qy @gL.eq_def (qy @shutAs.eq_def (qy @eJ.eq_def (qy @kH.eq_def (qy @storeAt.eq_def (qy @unV.eq_def (qy @mb.eq_1 (qy @mb.eq_2 (qy @dA.eq_1 (qy @dA.eq_2 (qy @lG.eq_1 (qy @lG.eq_2 (qy @vr.eq_1 (qy @vr.eq_2 (@w_.eq_1)))))))))))))))))))
abbrev UR:=@w_.eq_2
abbrev jQ:=qy Y6 (qy Y7 (qy Y8 (qy Y9 (qy Y_ (qy Y' (qy Za (qy Zb (qy Zc (qy Zd (qy UQ (UR)))))))))))
def tl (x:Nat->PV) (s:Nat):Nat->List PV
 | 0=>[]
 | n+1=>x s::tl x (s+1) n
theorem WA.blockcut {P:Program} {T:Tab} {m:Nat} {α:Type} (f:α->St) (G:α->Prop) {x y:Code} {id:Nat} {st:St} {Q:KQ} {u:cN (y,Q)} {w:cN (IM P T m y Q u)} {t:cN (x,lW id (IM P T m y Q u) w)}
 (h1:WA P T m x st (lW id (Q_ (Mid f G) Q ⟨⟩) ⟨⟩) ⟨⟩) (h2: ∀ a,G a->WA P T m y (f a) Q ⟨⟩):WA P T m x st (lW id (IM P T m y Q u) w) t:=by
 refine WPA.mono x (fun e vm h=>?_) h1
 have hm: ∀ XF,Mid f G XF->WPA P T m y XF Q:=fun XF ⟨a,hs,hg⟩=>by subst hs;exact h2 a hg
 cases e with
 | normal=>exact hm _ h
 | exit i=>
  simp only[lW] at h ⊢;split
  .rename_i hi;rw[if_pos hi] at h;exact hm _ h
  .rename_i hi;rw[if_neg hi] at h;exact h
 | ret=>exact h
theorem Mid.ex {α:Type} {f:α×(Nat->PV)->St} {G:α×(Nat->PV)->Prop} {env:List PV} {H:List Ob} (a:α) (h:(⟨env,H⟩:St)=f (a,fun i=>env.getD i .any)) (hg:G (a,fun i=>env.getD i .any)):Mid f G ⟨env,H⟩:=⟨_,h,hg⟩
theorem RetOK.lent {T:Tab} {st:St} {rs:List ResultVar} {res:PV} {xs:List (List FV)} {cd:Prop} {vs:List PV} (h1:gJ T st rs=some (cd,vs)) (hc:cd) (hx:st.heap=[.row true xs])
 (h2:tN st.heap [0] (cH vs)=some res) (h3:si st.heap [0] (cH vs)=[]):RetOK T rs 1 st [.row true xs] res:=by
 refine⟨cd,vs,[0],h1,hc,by simp,fun i hi=>?_,h2,rfl,fun j id hj=>?_,fun o ho=>?_⟩
 .have:i=0:=by omega
  subst this;rfl
 .cases j with
  | zero=>
   simp at hj;subst hj;rw[h3,hx];rfl
  | succ j=>simp at hj
 simp at ho;subst ho;exact⟨cS,rfl⟩
theorem sk {T:Tab} {st:St} {rs:List ResultVar} {res:PV} {ob:Ob} {cd:Prop} {vs:List PV} (h1:gJ T st rs=some (cd,vs)) (hc:cd) (hx:st.heap.head?=some ob) (fG:ob.closed) (hrw:ob.rw=true)
 (h2:tN st.heap [0] (cH vs)=some res) (h3:(shutIds (si st.heap [0] (cH vs)) st.heap).head?=some ob):RetOK T rs 1 st [ob] res:=by
 refine⟨cd,vs,[0],h1,hc,by simp,fun i hi=>?_,h2,rfl,fun j id hj=>?_,fun o ho=>?_⟩
 .have:i=0:=by omega
  subst this;rfl
 .cases j with
  | zero=>
   simp at hj;subst hj;rw[<-List.head?_eq_getElem?,h3];rfl
  | succ j=>simp at hj
 simp at ho;subst ho;exact⟨fG,hrw⟩
end Go.AM
namespace Go.AM
variable {P:Program} {T:Tab} {m:Nat}
theorem WPcall.det {c:Call} {st:St} {K:PV->List Ob->Prop} (h:WPcall P T c st K): ∃ v H,K v H/\WPcall P T c st (fun v2 H2=>v2=v/\H2=H):=by
 unfold WPcall at h ⊢;split at h
 .rename_i b hb;split at h
  .rename_i r hr;refine⟨r.val,r.heap,h.2,?_⟩;simp only[];exact⟨h.1,by simp⟩
  exact h.elim
 .rename_i f hf;split at h
  .rename_i k pre post hk;obtain⟨v,H',hc,hK⟩:=h;refine⟨v,H',hK,?_⟩;simp only[];exact⟨v,H',hc,rfl,rfl⟩
  exact h.elim
 exact h.elim
theorem WPop.det {o:Op} {st:St} {K:PV->List Ob->Prop} (h:WPop P T o st K): ∃ v H,K v H/\WPop P T o st (fun v2 H2=>v2=v/\H2=H):=by
 unfold WPop at h ⊢;split at h
 .exact WPcall.det h
 split at h
 .rename_i r hr;refine⟨r.val,r.heap,h.2,?_⟩;simp only[];exact⟨h.1,by simp⟩
 exact h.elim
theorem WPops.det {all:Array Oper}: ∀ (l:List Oper) {st:St} {K:St->Prop},WPops P T all l st K-> ∃ st',K st'/\WPops P T all l st (fun s=>s=st')
 | [],st,K,h=>⟨st,h,rfl⟩
 | o::rest,st,K,h=>by
  unfold WPops at h;split at h
  .rename_i hg;obtain⟨v,H,h1,h2⟩:=WPop.det h;obtain⟨s,hs,h3⟩:=WPops.det rest h1;refine⟨s,hs,?_⟩;unfold WPops;simp only[hg];exact WPop.mono (fun v2 H2 e=>by obtain⟨rfl,rfl⟩:=e;exact h3) h2
  rename_i j want hg;split at h
  .rename_i t ht;split at h
   .rename_i b hb;by_cases DQ:b=want
    .obtain⟨v,H,h1,h2⟩:=WPop.det (h.1 DQ);obtain⟨s,hs,h3⟩:=WPops.det rest h1;refine⟨s,hs,?_⟩;unfold WPops;simp only[hg,ht,hb];exact⟨fun _=>WPop.mono (fun v2 H2 e=>by obtain⟨rfl,rfl⟩:=e;exact h3) h2,fun e=>by subst DQ;cases b<;>simp at e⟩
    have Zo:b=!want:=by cases b<;>cases want<;>simp_all
    obtain⟨s,hs,h3⟩:=WPops.det rest (h.2 Zo);refine⟨s,hs,?_⟩;unfold WPops;simp only[hg,ht,hb];exact⟨fun e=>absurd e DQ,fun _=>h3⟩
   .rename_i hb;obtain⟨s,hs,h3⟩:=WPops.det rest h;refine⟨s,hs,?_⟩;unfold WPops;simp only[hg,ht,hb];exact h3
   exact h.elim
  exact h.elim
theorem WPdraw.det {all:Array Oper}: ∀ (l:List Oper) {st:St} {K:St->Prop},WPdraw P T all l st K-> ∃ st',K st'/\WPdraw P T all l st (fun s=>s=st')
 | [],st,K,h=>⟨st,h,rfl⟩
 | o::rest,st,K,h=>by
  unfold WPdraw at h;split at h
  .rename_i hg;obtain⟨v,H,⟨h0,h1⟩,h2⟩:=WPop.det h;obtain⟨s,hs,h3⟩:=WPdraw.det rest h1;refine⟨s,hs,?_⟩;unfold WPdraw;simp only[hg];exact WPop.mono (fun v2 H2 e=>by obtain⟨rfl,rfl⟩:=e;exact⟨h0,h3⟩) h2
  rename_i j want hg;split at h
  .rename_i t ht;split at h
   .rename_i b hb;by_cases DQ:b=want
    .obtain⟨v,H,⟨h0,h1⟩,h2⟩:=WPop.det (h.1 DQ);obtain⟨s,hs,h3⟩:=WPdraw.det rest h1;refine⟨s,hs,?_⟩;unfold WPdraw;simp only[hg,ht,hb];exact⟨fun _=>WPop.mono (fun v2 H2 e=>by obtain⟨rfl,rfl⟩:=e;exact⟨h0,h3⟩) h2,fun e=>by subst DQ;cases b<;>simp at e⟩
    have Zo:b=!want:=by cases b<;>cases want<;>simp_all
    obtain⟨s,hs,h3⟩:=WPdraw.det rest (h.2 Zo);refine⟨s,hs,?_⟩;unfold WPdraw;simp only[hg,ht,hb];exact⟨fun e=>absurd e DQ,fun _=>h3⟩
   .rename_i hb;obtain⟨s,hs,h3⟩:=WPdraw.det rest h;refine⟨s,hs,?_⟩;unfold WPdraw;simp only[hg,ht,hb];exact h3
   exact h.elim
  exact h.elim
theorem WPA.det: ∀ (cd:Code) {st:St} {Q:AExit->St->Prop},WPA P T m cd st Q-> ∃ e st',Q e st'/\WPA P T m cd st (fun e2 s2=>e2=e/\s2=st')
 | .skip,st,Q,h=>⟨_,_,h,rfl,rfl⟩
 | .label _,st,Q,h=>⟨_,_,h,rfl,rfl⟩
 | .exit _,st,Q,h=>⟨_,_,h,rfl,rfl⟩
 | .ret,st,Q,h=>⟨_,_,h,rfl,rfl⟩
 | .region n ops draw,st,Q,h=>by
  unfold WPA at h ⊢;split at h
  .rename_i hd;rcases h with⟨h0,ids,h1⟩ | ⟨s,h0,h1⟩
   .obtain⟨s,hs,h2⟩:=WPdraw.det _ h1;refine⟨.normal,s,hs,?_⟩;rw[if_pos hd];exact .inl ⟨h0,ids,WPdraw.mono (fun _ e=>⟨rfl,e⟩) _ h2⟩
   refine⟨.normal,s,h1,?_⟩;rw[if_pos hd];exact .inr ⟨s,h0,rfl,rfl⟩
  .rename_i hd;obtain⟨s,hs,h2⟩:=WPops.det _ h;refine⟨.normal,s,hs,?_⟩;rw[if_neg hd];exact WPops.mono (fun _ e=>⟨rfl,e⟩) _ h2
 | .scope x,st,Q,h=>by
  unfold WPA at h;obtain⟨e,s,h1,h2⟩:=WPA.det x h;refine⟨e,s,h1,?_⟩;unfold WPA;exact h2
 | .seq x y,st,Q,h=>by
  unfold WPA at h;obtain⟨e,s,h1,h2⟩:=WPA.det x h;cases e with
  | normal=>
   obtain⟨e2,s2,h3,h4⟩:=WPA.det y h1;refine⟨e2,s2,h3,?_⟩;unfold WPA;exact WPA.mono x (fun e3 s3 he=>by obtain⟨rfl,rfl⟩:=he;exact h4) h2
  | exit i=>
   refine⟨_,_,h1,?_⟩;unfold WPA;exact WPA.mono x (fun e3 s3 he=>by obtain⟨rfl,rfl⟩:=he;exact⟨rfl,rfl⟩) h2
  | ret=>
   refine⟨_,_,h1,?_⟩;unfold WPA;exact WPA.mono x (fun e3 s3 he=>by obtain⟨rfl,rfl⟩:=he;exact⟨rfl,rfl⟩) h2
 | .cond o x y,st,Q,h=>by
  unfold WPA at h;split at h
  .rename_i b hb;cases b with
   | true=>
    obtain⟨e,s,h1,h2⟩:=WPA.det x (h.1 rfl);refine⟨e,s,h1,?_⟩;unfold WPA;simp only[hb];exact⟨fun _=>h2,fun e=>by simp at e⟩
   | false=>
    obtain⟨e,s,h1,h2⟩:=WPA.det y (h.2 rfl);refine⟨e,s,h1,?_⟩;unfold WPA;simp only[hb];exact⟨fun e=>by simp at e,fun _=>h2⟩
  .exact h.elim
 | .block id x,st,Q,h=>by
  unfold WPA at h;obtain⟨e,s,h1,h2⟩:=WPA.det x h;cases e with
  | normal=>
   refine⟨_,_,h1,?_⟩;unfold WPA;exact WPA.mono x (fun e3 s3 he=>by obtain⟨rfl,rfl⟩:=he;exact⟨rfl,rfl⟩) h2
  | exit i=>
   by_cases hi:i=id
   .simp only[hi,if_true] at h1;refine⟨.normal,s,h1,?_⟩;unfold WPA;refine WPA.mono x (fun e3 s3 he=>?_) h2;obtain⟨rfl,rfl⟩:=he;simp[hi]
   .simp only[hi,if_false] at h1;refine⟨.exit i,s,h1,?_⟩;unfold WPA;refine WPA.mono x (fun e3 s3 he=>?_) h2;obtain⟨rfl,rfl⟩:=he;simp[hi]
  | ret=>
   refine⟨_,_,h1,?_⟩;unfold WPA;exact WPA.mono x (fun e3 s3 he=>by obtain⟨rfl,rfl⟩:=he;exact⟨rfl,rfl⟩) h2
 | .loop x,st,Q,h=>by
  unfold WPA at h;obtain⟨I,⟨n0,On,hw0,sC⟩,da⟩:=h;have key: ∀ n vm,I n vm-> ∃ e s,Q e s/\WPA P T m (.loop x) vm (fun e2 s2=>e2=e/\s2=s):=by
   intro n
   induction n using Nat.strongRecOn with
   | _ n ih=>
    intro vm hi;obtain⟨e,s,h1,h2⟩:=WPA.det x (da n vm hi);cases e with
    | normal=>
     obtain⟨n',s',aH,hw,oC⟩:=h1;obtain⟨e2,s2,hq,hl⟩:=ih n' aH s' oC;refine⟨e2,s2,hq,?_⟩;unfold WPA at hl ⊢;obtain⟨J,⟨k0,t0,hwt,wu⟩,hJ⟩:=hl;refine⟨fun k t=>(k=k0+1/\t=vm)\/(k<=k0/\J k t),⟨k0+1,vm,Weak.refl _ _,Or.inl ⟨rfl,rfl⟩⟩,?_⟩;intro k t hk;rcases hk with⟨rfl,rfl⟩ | ⟨hk,hj⟩
     .refine WPA.mono x (fun e3 s3 he=>?_) h2;obtain⟨rfl,rfl⟩:=he;exact⟨k0,t0,by omega,Weak.trans hw hwt,Or.inr ⟨qp _,wu⟩⟩
     .refine WPA.mono x (fun e3 s3 he=>?_) (hJ k t hj);cases e3 with
      | normal=>
       obtain⟨k',t',mO,hw',SL⟩:=he;exact⟨k',t',mO,hw',Or.inr ⟨by omega,SL⟩⟩
      | exit i=>exact he
      | ret=>exact he
    | exit i=>
     refine⟨_,_,h1,?_⟩;unfold WPA;refine⟨fun k t=>k=0/\t=vm,⟨0,vm,Weak.refl _ _,rfl,rfl⟩,?_⟩;rintro k t ⟨rfl,rfl⟩;exact WPA.mono x (fun e3 s3 he=>by obtain⟨rfl,rfl⟩:=he;exact⟨rfl,rfl⟩) h2
    | ret=>
     refine⟨_,_,h1,?_⟩;unfold WPA;refine⟨fun k t=>k=0/\t=vm,⟨0,vm,Weak.refl _ _,rfl,rfl⟩,?_⟩;rintro k t ⟨rfl,rfl⟩;exact WPA.mono x (fun e3 s3 he=>by obtain⟨rfl,rfl⟩:=he;exact⟨rfl,rfl⟩) h2
  obtain⟨e,s,hq,hl⟩:=key n0 On sC;refine⟨e,s,hq,?_⟩;unfold WPA at hl ⊢;obtain⟨J,⟨k0,t0,hwt,wu⟩,hJ⟩:=hl;exact⟨J,⟨k0,t0,Weak.trans hw0 hwt,wu⟩,hJ⟩
def US (T:Tab) (rs:List ResultVar) (m:Nat) (R:List Ob->PV->Prop) (e:AExit) (st:St):Prop:=match e with | .exit _=>False | _=> ∃ H1 res,R H1 res/\RetOK T rs m st H1 res
theorem zi {rs:List ResultVar} {R:List Ob->PV->Prop} {st:St} {u:cN _}:Ap (US T rs m R) .normal st u= ∃ H1 res,R H1 res/\RetOK T rs m st H1 res:=rfl
theorem pC {rs:List ResultVar} {R:List Ob->PV->Prop} {st:St} {u:cN _}:Ap (US T rs m R) .ret st u= ∃ H1 res,R H1 res/\RetOK T rs m st H1 res:=rfl
theorem Rt (hT:ck P T) (hm:P.follows .mixedOrders=true) {k:FuncId} {fn:Func} {cd:Code} (hf:P.funcs[k]?=some fn) (hb:fn.body=some cd) (lj:(fn.name== "runtime.NumGoroutine")=false)
 {H0:List Ob} {args:List PV} {R:List Ob->PV->Prop} {rs:List ResultVar} (hr:fn.results=List.toArray rs) {n:Nat} (hn:fn.ntmps - args.length=n) {env:List PV} (he:args++replicate n .any=env) {m:Nat} (zn:H0.length=m)
 (h:WA P T m cd ⟨env,H0⟩ (US T rs m R) ⟨⟩): ∃ H1 res,R H1 res/\Den P k H0 args H1 res:=by
 obtain⟨e,st,hq,hw⟩:=WPA.det cd h
 cases e with
 | normal=>
  obtain⟨H1,res,hR,Sk⟩:=hq;exact⟨H1,res,hR,I2 hT hm hf hb lj hr hn he zn (WPA.mono cd (fun e2 s2 hh=>by obtain⟨rfl,rfl⟩:=hh;exact Sk) hw)⟩
 | exit i=>exact hq.elim
 | ret=>
  obtain⟨H1,res,hR,Sk⟩:=hq;exact⟨H1,res,hR,I2 hT hm hf hb lj hr hn he zn (WPA.mono cd (fun e2 s2 hh=>by obtain⟨rfl,rfl⟩:=hh;exact Sk) hw)⟩
end Go.AM
namespace Go.AM
theorem Weak.nil {m:Nat} {env:List PV} {H:List Ob} {st':St} (t s:Nat) (hs:0<s) (ht:env[t]?=some .nilsl) (h2:Weak m ⟨env.set t (.lsl H.length 0 0 s),H++[.row true []]⟩ st'):Weak m ⟨env,H⟩ st':=by
 intro c a w lA ⟨X,ρ,h,pN,hd,VW⟩;refine h2 c a w lA ⟨X,ρ++[some ⟨none,0,s,0⟩],?_,?_,hd,VW⟩
 .have dR:ρ.Le (ρ++[some ⟨none,0,s,0⟩]):=Places.Le.append ρ _;have key: ∀ (id:Nat) p o,(ρ++[some ⟨none,0,s,0⟩])[id]?=some (some p)->(H++[Ob.row true []])[id]?=some o->(ρ[id]?=some (some p)/\H[id]?=some o)\/(p=⟨none,0,s,0⟩/\o= .row true []):=by
   intro id p o hp ho;by_cases aH:id<ρ.length
   .rw[qi aH] at hp;rw[qi (by rw[<-h.len];exact aH)] at ho;exact .inl ⟨hp,ho⟩
   rw[getElem?_append_right (by omega)] at hp;rw[getElem?_append_right (by rw[<-h.len];omega),<-h.len] at ho;right;cases hi:id - ρ.length with
   | zero=>rw[hi] at hp ho;simp at hp ho;exact⟨hp.symm,ho.symm⟩
   | succ j=>rw[hi] at hp;simp at hp
  refine⟨by simp[h.len],?_,?_,?_,h.xo,h.xlt,h.ge,h.base.trans dR⟩
  .intro id p o hp ho;rcases key id p o hp ho with⟨h3,h4⟩ | ⟨rfl,rfl⟩
   .exact(h.ob id p o h3 h4).keep (Same.refl X w) (fun _ _ hx=>hx) dR (fun _ g _ _=>⟨rfl,Iff.rfl⟩)
   exact⟨⟨hs,by simp,[],by simpa [Place.val] using World.ownsRow_nil w 0 0 s,by simp⟩,by simp⟩
  .intro i j p q o r g hp hq ho hr h3 h4 h5 h6;rcases key i p o hp ho with⟨h7,h8⟩ | ⟨rfl,rfl⟩
   .rcases key j q r hq hr with⟨h9,Ay⟩ | ⟨rfl,rfl⟩
    .exact h.inj i j p q o r g h7 h9 h8 Ay h3 h4 h5 h6
    simp at h6
   simp at h5
  intro id p o g hp ho h3 h4;rcases key id p o hp ho with⟨h7,h8⟩ | ⟨rfl,rfl⟩
  .exact h.own id p o g h7 h8 h3 h4
  simp at h4
 have dR:ρ.Le (ρ++[some ⟨none,0,s,0⟩]):=Places.Le.append ρ _;have agi:=pN.mono dR;refine⟨by rw[length_set];exact pN.1,fun i v x hv hx=>?_⟩;by_cases hi:t=i
 .subst hi;rw[qv (List.getElem?_eq_some_iff.1 ht).1] at hx;cases hx;have:=pN.2 t v _ hv ht;cases this with
  | nilsl=>
   exact .lsl0 H.length ⟨none,0,s,0⟩ (by rw[<-h.len];simp) rfl
 rw[getElem?_set_ne hi] at hx;exact agi.2 i v x hv hx
section
variable {P:Program} {T:Tab}
def ain (T:Tab) (rs:List ResultVar) (e:AExit) (st:St):Prop:=match e with | .exit _=>False | _=> ∃ cd,gJ T st rs=some (cd,[.clip []])/\cd
theorem ad0 (hT:ck P T) (hm:P.follows .mixedOrders=true) {k:FuncId} {fn:Func} {cd:Code} (hf:P.funcs[k]?=some fn) (hb:fn.body=some cd) (lj:(fn.name== "runtime.NumGoroutine")=false)
 {args:List PV} {rs:List ResultVar} (hr:fn.results=List.toArray rs) {n:Nat} (hn:fn.ntmps - args.length=n) {env:List PV} (he:args++replicate n .any=env)
 (h:WA P T 0 cd ⟨env,[]⟩ (ain T rs) ⟨⟩):Den P k [] args [] (.clip []):=by
 subst hn;subst he
 refine⟨⟨fn,cd,hf,hb,lj⟩,fun c X ρ vs hh hM fr=>?_⟩
 have XJ:ρ=[]:=List.eq_nil_of_length_eq_zero hh.len
 subst XJ
 refine calls_of_wp hf hb ?_
 let c2:gF:={c with base:=[]}
 have hh2:HRd c2 c.w0 X [] []:=⟨hh.len,hh.ob,hh.inj,hh.own,hh.xo,hh.xlt,hh.ge,Places.Le.refl []⟩
 have hs:SRd c2 ⟨args++replicate (fn.ntmps - args.length) .any,[]⟩ {tmps:=vs++Array.replicate (fn.ntmps - vs.size) undef,defers:=[]} c.w0:=by
  refine⟨X,[],hh2,⟨by simp[fr.1],fun i v x hv hx=>?_⟩,rfl,Keeps.refl c2⟩;by_cases hi:i<vs.size
  .rw[Array.getElem?_append_left hi] at hv;rw[qi (by rw[<-fr.1];exact hi)] at hx;exact fr.2 i v x hv hx
  rw[getElem?_append_right (by rw[<-fr.1];omega),List.getElem?_replicate] at hx;split at hx
  .cases hx;exact .any _
  cases hx
 have fin: ∀ st' a' w',(∃ cd,gJ T st' rs=some (cd,[.clip []])/\cd)->SRd c2 st' a' w'->a'.defers=[]/\ ∃ v,(results fn a'.tmps).run P w'= .ok v w'/\ ∃ v2 X' ρ',Ending.returned v= .returned v2/\Keeps c w'/\HRd c w' X' ρ' []/\PRd w' X' ρ' v2 (.clip [])/\
  Places.Le [] ρ'/\(∀ (id:Nat) p,([]:Places).length<=id->ρ'[id]?=some (some p)-> ∀ g,p.b=some g->c.w0.heap.size<=g):=by
  intro st' a' w' ⟨cd',ak,kM⟩ ⟨X',ρ',h',N5,hd',w9⟩
  obtain⟨u,cO,hu⟩:=px hT h' N5 (by rw[hr];exact ak) kM
  refine⟨hd',u,cO,u,X',[],rfl,⟨⟨w9.os,w9.tape,w9.output,w9.size,w9.block⟩,w9.drawn⟩,⟨rfl,by simp,by simp,by simp,h'.xo,h'.xlt,h'.ge,hh.base⟩,?_,Places.Le.refl _,by simp⟩
  change PRd w' X' ρ' u (.clip []) at hu
  cases hu with
  | clip a n _ hf=>exact .clip a n _ hf
 refine fD hT hm (m:=0) (by show([]:Places).length<=_;exact qp _) cd h hs (fun e st' a' w' he vq=>?_)
 cases e with
 | normal=>exact fin st' a' w' he vq
 | ret=>exact fin st' a' w' he vq
 | exit id=>exact he.elim
def ad1 (T:Tab) (rs:List ResultVar) (e:AExit) (st:St):Prop:=match e with | .exit _=>False | _=> ∃ cd,gJ T st rs=some (cd,[.nilsl])/\cd
theorem vQ {rs:List ResultVar} {st:St} {u:cN _}:Ap (ad1 T rs) .ret st u= ∃ cd,gJ T st rs=some (cd,[.nilsl])/\cd:=rfl
theorem Lh (hT:ck P T) (hm:P.follows .mixedOrders=true) {k:FuncId} {fn:Func} {cd:Code} (hf:P.funcs[k]?=some fn) (hb:fn.body=some cd) (lj:(fn.name== "runtime.NumGoroutine")=false)
 {args:List PV} {rs:List ResultVar} (hr:fn.results=List.toArray rs) {n:Nat} (hn:fn.ntmps - args.length=n) {env:List PV} (he:args++replicate n .any=env)
 (h:WA P T 0 cd ⟨env,[]⟩ (ad1 T rs) ⟨⟩) (s:Nat) (Lo:0<s):Den P k [] args [.row true []] (.lsl 0 0 0 s):=by
 subst hn;subst he
 refine⟨⟨fn,cd,hf,hb,lj⟩,fun c X ρ vs hh hM fr=>?_⟩
 have XJ:ρ=[]:=List.eq_nil_of_length_eq_zero hh.len
 subst XJ
 refine calls_of_wp hf hb ?_
 let c2:gF:={c with base:=[]}
 have hh2:HRd c2 c.w0 X [] []:=⟨hh.len,hh.ob,hh.inj,hh.own,hh.xo,hh.xlt,hh.ge,Places.Le.refl []⟩
 have hs:SRd c2 ⟨args++replicate (fn.ntmps - args.length) .any,[]⟩ {tmps:=vs++Array.replicate (fn.ntmps - vs.size) undef,defers:=[]} c.w0:=by
  refine⟨X,[],hh2,⟨by simp[fr.1],fun i v x hv hx=>?_⟩,rfl,Keeps.refl c2⟩;by_cases hi:i<vs.size
  .rw[Array.getElem?_append_left hi] at hv;rw[qi (by rw[<-fr.1];exact hi)] at hx;exact fr.2 i v x hv hx
  rw[getElem?_append_right (by rw[<-fr.1];omega),List.getElem?_replicate] at hx;split at hx
  .cases hx;exact .any _
  cases hx
 have fin: ∀ st' a' w',(∃ cd,gJ T st' rs=some (cd,[.nilsl])/\cd)->SRd c2 st' a' w'->a'.defers=[]/\ ∃ v,(results fn a'.tmps).run P w'= .ok v w'/\ ∃ v2 X' ρ',Ending.returned v= .returned v2/\Keeps c w'/\HRd c w' X' ρ' [.row true []]/\PRd w' X' ρ' v2 (.lsl 0 0 0 s)/\
  Places.Le [] ρ'/\(∀ (id:Nat) p,([]:Places).length<=id->ρ'[id]?=some (some p)-> ∀ g,p.b=some g->c.w0.heap.size<=g):=by
  intro st' a' w' ⟨cd',ak,kM⟩ ⟨X',ρ',h',N5,hd',w9⟩
  obtain⟨u,cO,hu⟩:=px hT h' N5 (by rw[hr];exact ak) kM
  refine⟨hd',u,cO,u,X',[some ⟨none,0,s,0⟩],rfl,⟨⟨w9.os,w9.tape,w9.output,w9.size,w9.block⟩,w9.drawn⟩,⟨rfl,?_,?_,?_,h'.xo,h'.xlt,h'.ge,hh.base.trans (Places.Le.append [] _)⟩,?_,Places.Le.append [] _,?_⟩
  .intro id p o hp ho
   cases id with
   | succ j=>simp at hp
   | zero=>
    simp at hp ho;subst hp;subst ho;exact⟨⟨Lo,by simp,[],by simpa [Place.val] using World.ownsRow_nil w' 0 0 s,by simp⟩,by simp⟩
  .intro i j p q o r g hp hq ho hr h3 h4 h5 h6
   cases i with
   | succ j=>simp at hp
   | zero=>simp at hp;subst hp;cases h5
  .intro i p o g hp ho h3 h4
   cases i with
   | succ j=>simp at hp
   | zero=>simp at hp;subst hp;cases h4
  .change PRd w' X' ρ' u .nilsl at hu
   cases hu with
   | nilsl=>exact .lsl0 0 ⟨none,0,s,0⟩ rfl rfl
  intro id p _ hp g hg
  cases id with
  | succ j=>simp at hp
  | zero=>simp at hp;subst hp;cases hg
 refine fD hT hm (m:=0) (by show([]:Places).length<=_;exact qp _) cd h hs (fun e st' a' w' he vq=>?_)
 cases e with
 | normal=>exact fin st' a' w' he vq
 | ret=>exact fin st' a' w' he vq
 | exit id=>exact he.elim
end
theorem Den.empty' {P:Program} {k:FuncId} {pre post:List PV} {H1:List Ob} {res:PV} (h1:Den P k [] (pre++ .nilsl::post) H1 res) (h2: ∀ b o cap,Den P k [] (pre++ .fv (.lit (.slice (some ⟨b,o,none⟩) 0 cap))::post) H1 res):
 Den P k [] (pre++ .fv (.sl [])::post) H1 res:=by
 refine⟨h1.1,fun c X ρ vs hh hM fr=>?_⟩
 have aH:pre.length<vs.size:=by rw[fr.1];simp
 have hv:vs[pre.length]?=some vs[pre.length]:=by simp[aH]
 have hrd:=fr.2 pre.length vs[pre.length] (.fv (.sl [])) hv (by simp)
 generalize vs[pre.length]=v at hv hrd
 cases hrd with
 | fv _ _ hf=>
  cases hf with
  | nil=>exact h1.2 c X ρ vs hh hM (fr.swap (fun u hu=>by rw[hv] at hu;cases hu;exact .nilsl))
  | sl ad n cap s _ us hn hc ua h0=>
   have hn:n=0:=by simpa using hn.symm
   subst hn;obtain⟨b,o,sp⟩:=ad;cases h0;exact(h2 b o cap).2 c X ρ vs hh hM (fr.swap (fun u hu=>by rw[hv] at hu;cases hu;exact .fv _ _ (.lit _ rfl)))
end Go.AM
namespace Go.AM
def Plain (res:PV):Prop:= ∀ (w w':World) (X X':Nat->Prop) (ρ ρ':Places) (v:Value),PRd w X ρ v res->PRd w' X' ρ' v res
theorem Plain.lit (v:Value):Plain (.fv (.lit v)):=fun w w' X X' ρ ρ' u h=>by
 cases h with
 | fv _ _ hf=>cases hf with
  | lit _ h1=>exact .fv _ _ (.lit _ h1)
theorem Den.lendF {P:Program} {k:FuncId} {xs:List (List FV)} {n s:Nat} {post:List PV} {res:PV} (h:Den P k [] (.fv (.sl xs)::post) [] res) (hn:n=xs.length) (hp:Plain res) (Sm: ∀ x∈post,Plain x):
 Den P k [.row true xs] (.lsl 0 0 n s::post) [.row true xs] res:=by
 subst hn
 refine⟨h.1,fun c X ρ vs hh hM fr=>?_⟩
 obtain⟨X1,h1,tU,kL⟩:=hh.shutIds [0]
 let c2:gF:={w0:=c.w0,M:=fun _=>False,Xo:=c.Xo,base:=[],hxo:=fun b hb=>⟨(c.hxo b hb).1,fun h=>h⟩}
 have hh2:HRd c2 c.w0 X1 [] []:=⟨rfl,by simp,by simp,by simp,h1.xo,h1.xlt,h1.ge,Places.Le.refl _⟩
 have d4:0<vs.size:=by rw[fr.1];simp
 have He:vs[0]?=some vs[0]:=by simp[d4]
 have akV:=fr.2 0 vs[0] (.lsl 0 0 xs.length s) He rfl
 have Oo:FRd c.w0 X1 vs[0] (.sl xs):=by
  refine lV (H:=[.row true xs]) hh (fun j o ho=>ho) akV (by simp[fP]) tU (fun id d5 p o g hp ho ha hg=>kL id (by simpa [eY] using d5) p o g hp ho ha hg)
 have akW:PRds c.w0 X1 [] vs (.fv (.sl xs)::post):=by
  refine⟨by rw[fr.1];simp,fun i v x hv hx=>?_⟩;cases i with
  | zero=>
   simp at hx;subst hx;rw[He] at hv;cases hv;exact .fv _ _ Oo
  | succ i=>
   have qT:post[i]?=some x:=by simpa using hx
   exact Sm x (List.mem_of_getElem? qT) _ _ _ _ _ _ _ (fr.2 (i+1) v x hv (by simpa using qT))
 refine(h.2 c2 X1 [] vs hh2 (fun b hb=>hb.elim) akW).mono (fun e w' aaD=>?_)
 obtain⟨v,X',ρ',he,hk,hr,Al,dR,mR⟩:=aaD
 have t8: ∀ b,b<c.w0.heap.size->w'.heap[b]?=c.w0.heap[b]?:=fun b hb=>hk.block b hb (fun h=>h)
 have eF:Same X c.w0 w':=⟨hk.size,fun b hb _=>t8 b hb⟩
 refine⟨v,X,ρ,he,⟨⟨hk.os,hk.tape,hk.output,hk.size,fun b hb _=>t8 b hb⟩,hk.drawn⟩,⟨hh.len,fun id p o h2 h3=>(hh.ob id p o h2 h3).keep eF (fun _ _ h=>h) (Places.Le.refl _) (fun _ g _ hg=>⟨t8 g hg,Iff.rfl⟩),hh.inj,
  fun id p o g h2 h3 h4 h5=>⟨(hh.own id p o g h2 h3 h4 h5).1,Nat.lt_of_lt_of_le (hh.own id p o g h2 h3 h4 h5).2 hk.size⟩,hh.xo,fun b hb=>Nat.lt_of_lt_of_le (hh.xlt b hb) hk.size,hk.size,hh.base⟩,hp _ _ _ _ _ _ _ Al,Places.Le.refl _,fun id p h2 h3=>?_⟩
 have:=(List.getElem?_eq_some_iff.1 h3).1
 omega
theorem Weak.shut {m:Nat} {env:List PV} {H:List Ob} {st':St} (ids:List Nat) (h2:Weak m ⟨env,shutIds ids H⟩ st'):Weak m ⟨env,H⟩ st':=fun c a w lA h=>h2 c a w lA (h.shut ids)
theorem Weak.fz {m:Nat} {env:List PV} {H:List Ob} {st':St} (t id off len s:Nat) (xs:List (List FV)) (ht:env[t]?=some (.lsl id off len s)) (ho:H[id]?=some (.row false xs)) (hl:off+len<=xs.length)
 (h2:Weak m ⟨env.set t (.fv (.sl ((xs.drop off).take len))),H⟩ st'):Weak m ⟨env,H⟩ st':=by
 intro c a w lA ⟨X,ρ,h,pN,hd,VW⟩
 refine h2 c a w lA ⟨X,ρ,h,⟨by rw[length_set];exact pN.1,fun i v x hv hx=>?_⟩,hd,VW⟩
 by_cases hi:t=i
 .subst hi
  rw[qv (List.getElem?_eq_some_iff.1 ht).1] at hx
  cases hx
  refine .fv _ _ (lV (H:=H) h (fun j o h=>h) (pN.2 t v _ hv ht) (by simp[fP,ho,hl]) (fun b h=>h) (fun LF d5 p o g hp gB ha hg=>?_))
  simp only[eY,qz] at d5
  subst d5
  rw[ho] at gB
  cases gB
  have:=(h.ob LF p _ hp ho).2 g hg
  exact fun hx=>by have:=this.2 hx;cases this
 rw[getElem?_set_ne hi] at hx
 exact pN.2 i v x hv hx
theorem ad2 {H:List Ob} {id off n s:Nat}:shutBs H id [.lsl id off n s]=H:=by simp[shutBs,we,shutIds]
theorem Nn {H:List Ob} {id off n s:Nat}:wc H id [.lsl id off n s]=some [.lsl 0 off n s]:=by simp[wc,W_]
theorem GO: ∀ {α:Type} {l:List α} {i:Nat} {x:α},l[i]?=some x->l.set i x=l
 | _,[],_,_,h=>by simp at h
 | _,a::l,0,x,h=>by simp at h;subst h;rfl
 | _,a::l,i+1,x,h=>by simp only[List.set_cons_succ];rw[GO (by simpa using h)]
theorem GoCall.show {P:Program} {env:List PV} {H:List Ob} {K:PV->List Ob->Prop} {k:FuncId} {id n s:Nat} {xs:List (List FV)} {res:PV} {t:cN _} (hd:Den P k [] [.fv (.sl xs)] [] res) (hp:Plain res) (hn:n=xs.length)
 (ho:H[id]?=some (.row true xs)) (hk:K (reloc (lent id H.length) res) H):GoCall P ⟨env,H⟩ (some (k,[],[])) [.lsl id 0 n s] K t:=by
 refine gl_ id (hd.lendF (s:=s) hn hp (by simp)) ho rfl trivial (by simp[PV.refsTo]) (by simpa using Nn) ?_ ?_
 .simp only[nil_append,List.append_nil]
  rw[ad2];exact ho
 simp only[nil_append,List.append_nil,map_nil]
 rw[ad2]
 have:H.set id (relocOb (lent id H.length) (.row true xs))=H:=GO (by simpa [relocOb] using ho)
 rw[this]
 exact hk
theorem Weak.fzb {m:Nat} {env:List PV} {H:List Ob} {st':St} (t id n:Nat) (cs:List PV) (ys:List FV) (ht:env[t]?=some (.lsl id 0 n 1)) (ho:H[id]?=some (.box false cs)) (hn:cs.length=n) (hf:lG H cs=some ys)
 (su: ∀ k∈cs.flatMap eY,∀ o,H[k]?=some o->o.rw=false) (h2:Weak m ⟨env.set t (.fv (.sl (ys.map fun x=>[x]))),H⟩ st'):Weak m ⟨env,H⟩ st':=by
 intro c a w lA ⟨X,ρ,h,pN,hd,VW⟩
 refine h2 c a w lA ⟨X,ρ,h,⟨by rw[length_set];exact pN.1,fun i v x hv hx=>?_⟩,hd,VW⟩
 by_cases hi:t=i
 .subst hi
  rw[qv (List.getElem?_eq_some_iff.1 ht).1] at hx
  cases hx
  have hrd:=pN.2 t v _ hv ht
  subst hn
  refine .fv _ _ ?_
  obtain⟨p,hp,l_,Su⟩:=hrd.lslInv
  obtain⟨⟨g',us,jM,hh,hs,h1,hc⟩,hrw⟩:=h.ob id p _ hp ho
  rcases Su with⟨hg,mT,_,_⟩ | ⟨g,og,hg,mT,hl,iP⟩
  .rw[hg] at jM;cases jM
  rw[hg] at jM
  injection jM with jM
  subst jM
  have hog:og=0:=by
   rcases iP with iP | iP
   .simpa using iP
   exact absurd rfl iP.2
  subst hog
  rw[mT]
  have aD:=f4 hf
  have c_: ∀ (i j:Nat) x y,(ys.map fun x=>[x])[i]?=some x->x[j]?=some y->j=0/\ys[i]?=some y:=by
   intro i j x y hx hy;rw[List.getElem?_map] at hx;cases VP:ys[i]? with
   | none=>rw[VP] at hx;cases hx
   | some y0=>
    rw[VP] at hx;cases hx;cases j with
    | zero=>simp at hy;exact⟨rfl,by rw[hy]⟩
    | succ j=>simp at hy
  refine .sl ⟨g,0,none⟩ cs.length (p.cap - 0) 1 _ (fun i _=>us.getD i undef) (by simp[aD]) (by omega) (by simp) rfl (fun _ hx=>by have:=(hrw g hg).2 hx;cases this) (fun _=>(Array.getElem?_eq_some_iff.1 hh).1) (fun i j x y hx hy=>?_) (fun i j x y hx hy=>?_)
  .obtain⟨rfl,VP⟩:=c_ i j x y hx hy
   have aH:i<us.size:=by rw[hs,<-aD];exact(List.getElem?_eq_some_iff.1 VP).1
   simp only[Nat.mul_one,Nat.zero_add,Nat.add_zero]
   rw[cell_of_row w g i us _ _ hh]
   simp[aH]
  obtain⟨rfl,VP⟩:=c_ i j x y hx hy
  have aH:i<us.size:=by rw[hs,<-aD];exact(List.getElem?_eq_some_iff.1 VP).1
  have RB:i<cs.length:=by rw[<-hs];exact aH
  obtain⟨y',Cf,NV⟩:=k_ hf i cs[i] (by simp[RB])
  rw[VP] at Cf;cases Cf
  have:=hc i us[i] cs[i] (by simp[aH]) (by simp[RB])
  rw[show us.getD i undef=us[i] by simp[aH]]
  refine lV h (fun j o h=>h) this NV (fun b hb=>hb) (fun k hk q o g2 hq gB ha et hX=>?_)
  have Hh:=su k (List.mem_flatMap.2 ⟨cs[i],by simp,hk⟩) o gB
  have f6:=h.ob k q o hq gB
  cases o with
  | dead=>exact ha
  | tab _ _=>cases Hh
  | row rw2 _=>have:=(f6.2 g2 et).2 hX;rw[this] at Hh;cases Hh
  | box rw2 _=>have:=(f6.2 g2 et).2 hX;rw[this] at Hh;cases Hh
 rw[getElem?_set_ne hi] at hx
 exact pN.2 i v x hv hx
end Go.AM
