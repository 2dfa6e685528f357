/- The abstract machine:the end of a function,words,and the bounds of int. -/
import Derived.Test.YtjjbkjgifdhlcaaGreatT7
import Derived.KernelRfl
import Derived.Test.YtjjbkjgifdhlcaaGreatT1
open List (getElem?_append_right getElem?_set_ne length_set map_cons map_nil nil_append replicate)
namespace Go.AM
def mC (m:List Int):List PV:=m.map (fun n=>PV.int .i64 n)
theorem GQ: ∀ {m:List Int},q5 (mC m)=some m
 | []=>rfl
 | n::m=>by
  have:=GQ (m:=m);unfold mC at this ⊢;simp only[map_cons,q5,this];rfl
def UG (T:Tab) (rs:List ResultVar) (m:Nat) (H1:List Ob) (res:PV) (e:AExit) (st:St):Prop:=match e with | .exit _=>False | _=>RetOK T rs m st H1 res
section
variable {P:Program} {T:Tab}
theorem cN {rs:List ResultVar} {m:Nat} {H1:List Ob} {res:PV} {st:St} {u:cF _}:Ap (UG T rs m H1 res) .normal st u=RetOK T rs m st H1 res:=rfl
theorem ed {rs:List ResultVar} {m:Nat} {H1:List Ob} {res:PV} {st:St} {u:cF _}:Ap (UG T rs m H1 res) .ret st u=RetOK T rs m st H1 res:=rfl
theorem I7 (hT:cx P T) (hm:P.follows .mixedOrders=true) {k:FuncId} {fn:Func} {cd:Code} (hf:P.funcs[k]?=some fn) (hb:fn.body=some cd) (lj:(fn.name== "runtime.NumGoroutine")=false)
 {H0:List Ob} {args:List PV} {H1:List Ob} {res:PV} {rs:List ResultVar} (hr:fn.results=List.toArray rs) {n:Nat} (hn:fn.ntmps - args.length=n) {env:List PV} (he:args++replicate n .any=env) {m:Nat} (zr:H0.length=m)
 (h:WA P T m cd ⟨env,H0⟩ (UG T rs m H1 res) ⟨⟩):Den P k H0 args H1 res:=by
 subst hn;subst he;subst zr
 refine IL hT hm hf hb lj ?_
 rw[hr]
 refine WPA.mono cd (fun e st hq=>?_) h
 cases e<;>exact hq
theorem Sn {st:St} {rs:List ResultVar} {res:PV} {cd:Prop} {vs:List PV} (h1:gQ T st rs=some (cd,vs)) (hc:cd) (h2:tL st.heap [] (cM vs)=some res):RetOK T rs 0 st [] res:=
 ⟨cd,vs,[],h1,hc,List.nodup_nil,fun i hi=>absurd hi (Nat.not_lt_zero i),h2,rfl,fun j id hj=>by simp at hj,fun o ho=>by simp at ho⟩
theorem RetOK.own {st:St} {rs:List ResultVar} {id len s:Nat} {xs:List (List FV)} {cd:Prop} (h1:gQ T st rs=some (cd,[.lsl id 0 len s])) (hc:cd) (h2:st.heap[id]?=some (.row true xs)):
 RetOK T rs 0 st [.row true xs] (.lsl 0 0 len s):=by
 refine⟨cd,[.lsl id 0 len s],[id],h1,hc,by simp,fun i hi=>absurd hi (Nat.not_lt_zero i),?_,rfl,fun j k hj=>?_,fun o ho=>?_⟩
 .simp[cM,tL,zc,t_,List.idxOf?_cons]
 .cases j with
  | zero=>
   simp at hj;subst hj;simp[cM,sn,zg,ze,List.idxOf?_cons,shutIds,h2]
  | succ j=>simp at hj
 simp at ho;subst ho;exact⟨cW,rfl⟩
end
theorem Den.freeze {P:Program} {k:FuncId} {args:List PV} {obs:List Ob} {res res':PV} (h:Den P k [] args obs res) (hf:tL obs [] res=some res'):Den P k [] args [] res':=by
 refine⟨h.1,fun c X ρ vs hh hM fA=>?_⟩;have XE:ρ=[]:=List.eq_nil_of_length_eq_zero hh.len;subst XE;refine(h.2 c X [] vs hh hM fA).mono (fun e w' Sj=>?_);obtain⟨v,X',ρ',he,hk,hr,hp,dT,mX⟩:=Sj;obtain⟨X1,h1,qX,kJ⟩:=hr.shutIds (sn obs [] res);refine⟨v,X1,[],he,hk,⟨rfl,by simp,by simp,by simp,h1.xo,h1.xlt,h1.ge,hh.base⟩,?_,Places.Le.refl _,by simp⟩;exact Q3 hr hp hf qX kJ (fun id j p hj=>by simp at hj)
theorem PRds.swap {w:World} {X:Nat->Prop} {ρ:Places} {vs:Array Value} {pre post:List PV} {x y:PV} (h:PRds w X ρ vs (pre++x::post)) (hy: ∀ v,vs[pre.length]?=some v->PRd w X ρ v y):PRds w X ρ vs (pre++y::post):=by
 refine⟨by rw[h.1];simp,fun i v z hv hz=>?_⟩;by_cases hi:i=pre.length
 .subst hi;rw[getElem?_append_right (qp _),Nat.sub_self] at hz;simp only[List.getElem?_cons_zero,qo] at hz;subst hz;exact hy v hv
 refine h.2 i v z hv ?_;rw[<-hz];rcases Nat.lt_or_gt_of_ne hi with h1 | h1
 .rw[qi h1,qi h1]
 rw[getElem?_append_right (by omega),getElem?_append_right (by omega)];obtain⟨j,hj⟩: ∃ j,i - pre.length=j+1:=⟨i - pre.length - 1,by omega⟩;rw[hj];rfl
theorem Den.empty {P:Program} {k:FuncId} {pre post:List PV} {H1:List Ob} {res:PV} (h1:Den P k [] (pre++ .nilsl::post) H1 res) (h2: ∀ ad cap,Den P k [] (pre++ .fv (.lit (.slice (some ad) 0 cap))::post) H1 res):
 Den P k [] (pre++ .fv (.sl [])::post) H1 res:=by
 refine⟨h1.1,fun c X ρ vs hh hM fA=>?_⟩
 have aH:pre.length<vs.size:=by rw[fA.1];simp
 have hv:vs[pre.length]?=some vs[pre.length]:=by simp[aH]
 have hrd:=fA.2 pre.length vs[pre.length] (.fv (.sl [])) hv (by simp)
 generalize vs[pre.length]=v at hv hrd
 cases hrd with
 | fv _ _ hf=>
  cases hf with
  | nil=>exact h1.2 c X ρ vs hh hM (fA.swap (fun u hu=>by rw[hv] at hu;cases hu;exact .nilsl))
  | sl ad n cap s _ us hn hc=>
   have hn:n=0:=by simpa using hn.symm
   subst hn;exact(h2 ad cap).2 c X ρ vs hh hM (fA.swap (fun u hu=>by rw[hv] at hu;cases hu;exact .fv _ _ (.lit _ rfl)))
theorem DF {H:List Ob}:shutIds [] H=H:=rfl
theorem Aw {H:List Ob} {id:Nat} {ids:List Nat}:shutIds (id::ids) H=shutIds ids (shut H id):=rfl
theorem jC {x:Int} (h: -9223372036854775808<=x/\x<9223372036854775808):IntKind.i64.wrap x=x:=by
 simp[IntKind.wrap,IntKind.bits,IntKind.signed];split<;>omega
theorem dC {x:Int}:IntKind.u32.wrap x=x % 4294967296:=by simp[IntKind.wrap,IntKind.bits,IntKind.signed]
theorem qK {x:Int}:IntKind.u64.wrap x=x % 18446744073709551616:=by simp[IntKind.wrap,IntKind.bits,IntKind.signed]
theorem cV {x:Int} (h:0<=x/\x<4294967296):IntKind.u32.wrap x=x:=by rw[dC];omega
theorem dI {x:Int} (h:0<=x/\x<18446744073709551616):IntKind.u64.wrap x=x:=by rw[qK];omega
theorem iM {x:Int} (h:0<=x/\x<256):IntKind.u8.wrap x=x:=by
 simp[IntKind.wrap,IntKind.bits,IntKind.signed];omega
theorem pF {x b:Int} (h:0<=b):x.fdiv b=x / b:=Int.fdiv_eq_ediv_of_nonneg x h
theorem pG {x b:Int} (h:0<=x):x.tdiv b=x / b:=Int.tdiv_eq_ediv_of_nonneg h
theorem pH {x b:Int} (h:0<=x):x.tmod b=x % b:=Int.tmod_eq_emod_of_nonneg h
def u32s (l:List Nat):List (List FV):=l.map fun(n:Nat)=>[.lit (.int .u32 (n:Int))]
theorem aM {l:List Nat}:(u32s l).length=l.length:=by simp[u32s]
theorem Np {l:List Nat} {i:Nat} (h:i<l.length):(u32s l).getD i []=[.lit (.int .u32 ((l.getD i 0:Nat):Int))]:=by
 simp[u32s,h]
theorem Rt {l:List Nat} {i:Nat} {x:Int} (h:0<=x):(u32s l).set i [.lit (.int .u32 x)]=u32s (l.set i x.toNat):=by
 have:((x.toNat:Nat):Int)=x:=Int.toNat_of_nonneg h;simp[u32s,List.map_set,this]
theorem Nq {l:List Nat} {n:Nat}:(u32s l).take n=u32s (l.take n):=by simp[u32s,List.map_take]
theorem Ns {l:List Nat} {n:Nat}:(u32s l).drop n=u32s (l.drop n):=by simp[u32s,List.map_drop]
theorem GR {l k:List Nat}:u32s l++u32s k=u32s (l++k):=by simp[u32s]
theorem I9 {n:Nat}:replicate n [FV.lit (.int .u32 0)]=u32s (replicate n 0):=by simp[u32s]
theorem Nt {l:List Nat}:(∀ y∈u32s l,y.length=1)=True:=by
 simp only[eq_iff_iff,iff_true];intro y hy;simp only[u32s,List.mem_map] at hy;obtain⟨n,_,rfl⟩:=hy;rfl
end Go.AM
namespace Go.AM
set_option maxRecDepth 100000
abbrev YY:=qy @YO (qy @Ul (qy @Q7 (qy @Um (qy @YP (qy @Q9 (qy @Un (qy @Nc (qy @Uo (qy @Aq (qy @GG (qy @IW (qy @wj (qy @Ar (qy @Dx (qy @Dy (qy @GI (qy @Au (qy @GJ (@IX)))))))))))))))))))
abbrev YZ:=qy @YQ (qy @Uq (qy @Ur (qy @YR (qy @Uu (qy @Uv (qy @Ra (qy @Us (qy @IY (qy @Dz (qy @Nd (qy @IZ (qy @Uk (qy @Q4 (qy @IS (qy @Q5 (qy @Q6 (qy @IU (qy @GD (@GF)))))))))))))))))))
abbrev Y0:=qy @Na (qy @Nb (qy @Rc (qy @Rd (qy @YS (qy @YT (qy @Re (qy @Uw (qy @YU (qy @Ux (qy @YV (qy @I0 (qy @Nf (qy @Uy (qy @Ng (qy @Uz (qy @I1 (qy @Rg (qy @YW (@Ri)))))))))))))))))))
abbrev Y1:=qy @Av (qy @UA (qy @Rk (qy @GM (qy @I2 (qy @Nh (qy @DA (qy @GQ (qy @Rl (qy @Ni (qy @Nj (qy @UB (qy @I3 (qy @DB (qy @Rm (qy @DC (qy @Ro (qy @DD (qy @Rq (@I5)))))))))))))))))))
abbrev Y2:=qy @GO (qy @UC (qy @Nk (qy @adO (qy @I6 (qy @DE (qy @Nl (qy @Nm (qy @GP (qy @toL (qy @Rs (qy @Nn (qy @UF (qy @No (qy @UD (qy @UE (qy @DF (qy @Aw (qy @List.modify_zero_cons.{0} (@List.modify_succ_cons.{0})))))))))))))))))))
abbrev Y3:=qy @List.flatMap_cons.{0,0} (qy @List.flatMap_nil.{0,0} (qy @List.flatten_cons.{0} (qy @List.flatten_nil.{0} (qy @List.set_cons_zero.{0} (qy @List.set_cons_succ.{0} (qy @List.getD_cons_zero.{0} (qy @List.getD_cons_succ.{0} (qy @List.getElem?_cons_zero.{0} (qy @List.getElem?_cons_succ.{0} (qy @List.length_cons.{0} (qy @List.length_nil.{0} (qy @List.cons_append.{0} (qy @nil_append.{0} (qy @List.replicate_succ.{0} (qy @List.replicate_zero.{0} (qy @Bool.false_eq_true (qy @true_and (qy @and_true (@List.headD_cons.{0})))))))))))))))))))
abbrev Y4:=qy @List.take_succ_cons.{0} (qy @List.take_zero.{0} (qy @List.take_nil.{0} (qy @List.drop_zero.{0} (qy @List.drop_succ_cons.{0} (qy @Int.toNat_natCast (qy @Nat.zero_add (qy @aM (qy @Np (qy @Rt (qy @Nq (qy @Ns (qy @GR (qy @I9 (qy @Nt (qy @List.getD_nil.{0} (qy @map_cons.{0,0} (qy @map_nil.{0,0} (qy @Option.map_none.{0,0} (@Option.map_some.{0,0})))))))))))))))))))
abbrev Y5:=qy @Ob.ro.eq_def (qy @PV.asInt.eq_def (qy @PV.cells.eq_def (qy @Tab.arN.eq_def (qy @Tab.isBool.eq_def (qy @Tab.isSl.eq_def (qy @TyI.isAgg.eq_def (qy @QN.eq_def (qy @Ow.eq_def (qy @asI.eq_def (qy @Cs.eq_def (qy @nO.eq_def (qy @sD.eq_def (qy @SM.eq_def (qy @eh.eq_def (qy @fP.eq_def (qy @JJ.eq_def (qy @Eb.eq_def (qy @fB.eq_def (@eZ.eq_def)))))))))))))))))))
abbrev Y6:=qy @me.eq_def (qy @oD.eq_def (qy @Ox.eq_def (qy @Ct.eq_def (qy @a9.eq_def (qy @oU.eq_def (qy @oz.eq_def (qy @lenOf.eq_def (qy @LN.eq_def (qy @Oy.eq_def (qy @SL.eq_def (qy @K7.eq_def (qy @jf.eq_def (qy @Rf.eq_def (qy @Ll.eq_def (qy @adM.eq_def (qy @Rh.eq_def (qy @vT.eq_def (qy @Rr.eq_def (@W8.eq_def)))))))))))))))))))
abbrev Y7:=qy @GN.eq_def (qy @Rn.eq_def (qy @zk.eq_def (qy @Rp.eq_def (qy @zm.eq_def (qy @adP.eq_def (qy @W6.eq_def (qy @Lk.eq_def (qy @W9.eq_def (qy @Cg.eq_def (qy @GL.eq_def (qy @zj.eq_def (qy @adQ.eq_def (qy @adR.eq_def (qy @adN.eq_def (qy @W7.eq_def (qy @I4.eq_def (qy @Rj.eq_def (qy @rUn.eq_def (@reloc.eq_def)))))))))))))))))))
abbrev UH:=qy @reloc1.eq_def (qy @relocOb.eq_def (qy @room.eq_def (qy @QM.eq_def (qy @shut.eq_def (qy @gU.eq_def (qy @shutAs.eq_def (qy @eM.eq_def (qy @kG.eq_def (qy @storeAt.eq_def (qy @unV.eq_def (qy @mf.eq_1 (qy @mf.eq_2 (qy @dG.eq_1 (qy @dG.eq_2 (qy @lJ.eq_1 (qy @lJ.eq_2 (qy @vx.eq_1 (qy @vx.eq_2 (@w9.eq_1)))))))))))))))))))
abbrev UI:=@w9.eq_2
abbrev jJ:=qy YY (qy YZ (qy Y0 (qy Y1 (qy Y2 (qy Y3 (qy Y4 (qy Y5 (qy Y6 (qy Y7 (qy UH (UI)))))))))))
def tl (x:Nat->PV) (s:Nat):Nat->List PV
 | 0=>[]
 | n+1=>x s::tl x (s+1) n
theorem WA.blockcut {P:Program} {T:Tab} {m:Nat} {α:Type} (f:α->St) (G:α->Prop) {x y:Code} {id:Nat} {st:St} {Q:KQ} {u:cF (y,Q)} {w:cF (IV P T m y Q u)} {t:cF (x,l6 id (IV P T m y Q u) w)}
 (h1:WA P T m x st (l6 id (Q_ (Mid f G) Q ⟨⟩) ⟨⟩) ⟨⟩) (h2: ∀ a,G a->WA P T m y (f a) Q ⟨⟩):WA P T m x st (l6 id (IV P T m y Q u) w) t:=by
 refine WPA.mono x (fun e vq h=>?_) h1
 have hm: ∀ Xy,Mid f G Xy->WPA P T m y Xy Q:=fun Xy ⟨a,hs,hg⟩=>by subst hs;exact h2 a hg
 cases e with
 | normal=>exact hm _ h
 | exit i=>
  simp only[l6] at h ⊢;split
  .rename_i hi;rw[if_pos hi] at h;exact hm _ h
  .rename_i hi;rw[if_neg hi] at h;exact h
 | ret=>exact h
theorem Mid.ex {α:Type} {f:α×(Nat->PV)->St} {G:α×(Nat->PV)->Prop} {env:List PV} {H:List Ob} (a:α) (h:(⟨env,H⟩:St)=f (a,fun i=>env.getD i .any)) (hg:G (a,fun i=>env.getD i .any)):Mid f G ⟨env,H⟩:=⟨_,h,hg⟩
theorem RetOK.lent {T:Tab} {st:St} {rs:List ResultVar} {res:PV} {xs:List (List FV)} {cd:Prop} {vs:List PV} (h1:gQ T st rs=some (cd,vs)) (hc:cd) (hx:st.heap=[.row true xs])
 (h2:tL st.heap [0] (cM vs)=some res) (h3:sn st.heap [0] (cM vs)=[]):RetOK T rs 1 st [.row true xs] res:=by
 refine⟨cd,vs,[0],h1,hc,by simp,fun i hi=>?_,h2,rfl,fun j id hj=>?_,fun o ho=>?_⟩
 .have:i=0:=by omega
  subst this;rfl
 .cases j with
  | zero=>
   simp at hj;subst hj;rw[h3,hx];rfl
  | succ j=>simp at hj
 simp at ho;subst ho;exact⟨cW,rfl⟩
theorem sq {T:Tab} {st:St} {rs:List ResultVar} {res:PV} {ob:Ob} {cd:Prop} {vs:List PV} (h1:gQ T st rs=some (cd,vs)) (hc:cd) (hx:st.heap.head?=some ob) (fC:ob.closed) (hrw:ob.rw=true)
 (h2:tL st.heap [0] (cM vs)=some res) (h3:(shutIds (sn st.heap [0] (cM vs)) st.heap).head?=some ob):RetOK T rs 1 st [ob] res:=by
 refine⟨cd,vs,[0],h1,hc,by simp,fun i hi=>?_,h2,rfl,fun j id hj=>?_,fun o ho=>?_⟩
 .have:i=0:=by omega
  subst this;rfl
 .cases j with
  | zero=>
   simp at hj;subst hj;rw[<-List.head?_eq_getElem?,h3];rfl
  | succ j=>simp at hj
 simp at ho;subst ho;exact⟨fC,hrw⟩
end Go.AM
namespace Go.AM
variable {P:Program} {T:Tab} {m:Nat}
theorem WPcall.det {c:Call} {st:St} {K:PV->List Ob->Prop} (h:WPcall P T c st K): ∃ v H,K v H/\WPcall P T c st (fun v2 H2=>v2=v/\H2=H):=by
 unfold WPcall at h ⊢;split at h
 .rename_i b hb;split at h
  .rename_i r hr;refine⟨r.val,r.heap,h.2,?_⟩;simp only[];exact⟨h.1,by simp⟩
  exact h.elim
 .rename_i f hf;split at h
  .rename_i k pre post hk;obtain⟨v,H',hc,hK⟩:=h;refine⟨v,H',hK,?_⟩;simp only[];exact⟨v,H',hc,rfl,rfl⟩
  exact h.elim
 exact h.elim
theorem WPop.det {o:Op} {st:St} {K:PV->List Ob->Prop} (h:WPop P T o st K): ∃ v H,K v H/\WPop P T o st (fun v2 H2=>v2=v/\H2=H):=by
 unfold WPop at h ⊢;split at h
 .exact WPcall.det h
 split at h
 .rename_i r hr;refine⟨r.val,r.heap,h.2,?_⟩;simp only[];exact⟨h.1,by simp⟩
 exact h.elim
theorem WPops.det {all:Array Oper}: ∀ (l:List Oper) {st:St} {K:St->Prop},WPops P T all l st K-> ∃ st',K st'/\WPops P T all l st (fun s=>s=st')
 | [],st,K,h=>⟨st,h,rfl⟩
 | o::rest,st,K,h=>by
  unfold WPops at h;split at h
  .rename_i hg;obtain⟨v,H,h1,h2⟩:=WPop.det h;obtain⟨s,hs,h3⟩:=WPops.det rest h1;refine⟨s,hs,?_⟩;unfold WPops;simp only[hg];exact WPop.mono (fun v2 H2 e=>by obtain⟨rfl,rfl⟩:=e;exact h3) h2
  rename_i j want hg;split at h
  .rename_i t ht;split at h
   .rename_i b hb;by_cases JH:b=want
    .obtain⟨v,H,h1,h2⟩:=WPop.det (h.1 JH);obtain⟨s,hs,h3⟩:=WPops.det rest h1;refine⟨s,hs,?_⟩;unfold WPops;simp only[hg,ht,hb];exact⟨fun _=>WPop.mono (fun v2 H2 e=>by obtain⟨rfl,rfl⟩:=e;exact h3) h2,fun e=>by subst JH;cases b<;>simp at e⟩
    have Ze:b=!want:=by cases b<;>cases want<;>simp_all
    obtain⟨s,hs,h3⟩:=WPops.det rest (h.2 Ze);refine⟨s,hs,?_⟩;unfold WPops;simp only[hg,ht,hb];exact⟨fun e=>absurd e JH,fun _=>h3⟩
   .rename_i hb;obtain⟨s,hs,h3⟩:=WPops.det rest h;refine⟨s,hs,?_⟩;unfold WPops;simp only[hg,ht,hb];exact h3
   exact h.elim
  exact h.elim
theorem WPdrawS.det {all:Array Oper}: ∀ (l:List Oper) {sh tr:List (List Nat)} {st:St} {K:St->List (List Nat)->Prop},WPdrawS P T all l sh tr st K-> ∃ st' tr',K st' tr'/\WPdrawS P T all l sh tr st (fun s t=>s=st'/\t=tr')
 | [],sh,tr,st,K,h=>⟨st,tr,h,rfl,rfl⟩
 | o::rest,sh,tr,st,K,h=>by
  unfold WPdrawS at h;split at h
  .rename_i hg;obtain⟨v,H,⟨h0,h1⟩,h2⟩:=WPop.det h;obtain⟨s,t2,hs,h3⟩:=WPdrawS.det rest h1;refine⟨s,t2,hs,?_⟩;unfold WPdrawS;simp only[hg];exact WPop.mono (fun v2 H2 e=>by obtain⟨rfl,rfl⟩:=e;exact⟨h0,h3⟩) h2
  rename_i j want hg;split at h
  .rename_i t ht;split at h
   .rename_i b hb;by_cases JH:b=want
    .obtain⟨v,H,⟨h0,h1⟩,h2⟩:=WPop.det (h.1 JH);obtain⟨s,t2,hs,h3⟩:=WPdrawS.det rest h1;refine⟨s,t2,hs,?_⟩;unfold WPdrawS;simp only[hg,ht,hb];exact⟨fun _=>WPop.mono (fun v2 H2 e=>by obtain⟨rfl,rfl⟩:=e;exact⟨h0,h3⟩) h2,fun e=>by subst JH;cases b<;>simp at e⟩
    have Ze:b=!want:=by cases b<;>cases want<;>simp_all
    obtain⟨s,t2,hs,h3⟩:=WPdrawS.det rest (h.2 Ze);refine⟨s,t2,hs,?_⟩;unfold WPdrawS;simp only[hg,ht,hb];exact⟨fun e=>absurd e JH,fun _=>h3⟩
   .rename_i hb;obtain⟨s,t2,hs,h3⟩:=WPdrawS.det rest h;refine⟨s,t2,hs,?_⟩;unfold WPdrawS;simp only[hg,ht,hb];exact h3
   exact h.elim
  exact h.elim
theorem WPA.det: ∀ (cd:Code) {st:St} {Q:AExit->St->Prop},WPA P T m cd st Q-> ∃ e st',Q e st'/\WPA P T m cd st (fun e2 s2=>e2=e/\s2=st')
 | .skip,st,Q,h=>⟨_,_,h,rfl,rfl⟩
 | .label _,st,Q,h=>⟨_,_,h,rfl,rfl⟩
 | .exit _,st,Q,h=>⟨_,_,h,rfl,rfl⟩
 | .ret,st,Q,h=>⟨_,_,h,rfl,rfl⟩
 | .region n ops draw,st,Q,h=>by
  unfold WPA at h ⊢;split at h
  .rename_i hd;rcases h with⟨h0,ids,sh,h1⟩ | ⟨s,h0,h1⟩
   .obtain⟨s,tr,⟨Sv,hs⟩,h2⟩:=WPdrawS.det _ h1;refine⟨.normal,s,hs,?_⟩;rw[if_pos hd];exact .inl ⟨h0,ids,sh,WPdrawS.mono (fun _ _ e=>⟨by rw[e.2];exact Sv,rfl,e.1⟩) _ h2⟩
   refine⟨.normal,s,h1,?_⟩;rw[if_pos hd];exact .inr ⟨s,h0,rfl,rfl⟩
  .rename_i hd;obtain⟨s,hs,h2⟩:=WPops.det _ h;refine⟨.normal,s,hs,?_⟩;rw[if_neg hd];exact WPops.mono (fun _ e=>⟨rfl,e⟩) _ h2
 | .scope x,st,Q,h=>by
  unfold WPA at h;obtain⟨e,s,h1,h2⟩:=WPA.det x h;refine⟨e,s,h1,?_⟩;unfold WPA;exact h2
 | .seq x y,st,Q,h=>by
  unfold WPA at h;obtain⟨e,s,h1,h2⟩:=WPA.det x h;cases e with
  | normal=>
   obtain⟨e2,s2,h3,h4⟩:=WPA.det y h1;refine⟨e2,s2,h3,?_⟩;unfold WPA;exact WPA.mono x (fun e3 s3 he=>by obtain⟨rfl,rfl⟩:=he;exact h4) h2
  | exit i=>
   refine⟨_,_,h1,?_⟩;unfold WPA;exact WPA.mono x (fun e3 s3 he=>by obtain⟨rfl,rfl⟩:=he;exact⟨rfl,rfl⟩) h2
  | ret=>
   refine⟨_,_,h1,?_⟩;unfold WPA;exact WPA.mono x (fun e3 s3 he=>by obtain⟨rfl,rfl⟩:=he;exact⟨rfl,rfl⟩) h2
 | .cond o x y,st,Q,h=>by
  unfold WPA at h;split at h
  .rename_i b hb;cases b with
   | true=>
    obtain⟨e,s,h1,h2⟩:=WPA.det x (h.1 rfl);refine⟨e,s,h1,?_⟩;unfold WPA;simp only[hb];exact⟨fun _=>h2,fun e=>by simp at e⟩
   | false=>
    obtain⟨e,s,h1,h2⟩:=WPA.det y (h.2 rfl);refine⟨e,s,h1,?_⟩;unfold WPA;simp only[hb];exact⟨fun e=>by simp at e,fun _=>h2⟩
  .exact h.elim
 | .block id x,st,Q,h=>by
  unfold WPA at h;obtain⟨e,s,h1,h2⟩:=WPA.det x h;cases e with
  | normal=>
   refine⟨_,_,h1,?_⟩;unfold WPA;exact WPA.mono x (fun e3 s3 he=>by obtain⟨rfl,rfl⟩:=he;exact⟨rfl,rfl⟩) h2
  | exit i=>
   by_cases hi:i=id
   .simp only[hi,if_true] at h1;refine⟨.normal,s,h1,?_⟩;unfold WPA;refine WPA.mono x (fun e3 s3 he=>?_) h2;obtain⟨rfl,rfl⟩:=he;simp[hi]
   .simp only[hi,if_false] at h1;refine⟨.exit i,s,h1,?_⟩;unfold WPA;refine WPA.mono x (fun e3 s3 he=>?_) h2;obtain⟨rfl,rfl⟩:=he;simp[hi]
  | ret=>
   refine⟨_,_,h1,?_⟩;unfold WPA;exact WPA.mono x (fun e3 s3 he=>by obtain⟨rfl,rfl⟩:=he;exact⟨rfl,rfl⟩) h2
 | .loop x,st,Q,h=>by
  unfold WPA at h;obtain⟨I,⟨n0,Ot,Z9,uj⟩,dh⟩:=h;have key: ∀ n vq,I n vq-> ∃ e s,Q e s/\WPA P T m (.loop x) vq (fun e2 s2=>e2=e/\s2=s):=by
   intro n
   induction n using Nat.strongRecOn with
   | _ n ih=>
    intro vq hi;obtain⟨e,s,h1,h2⟩:=WPA.det x (dh n vq hi);cases e with
    | normal=>
     obtain⟨n',s',aH,hw,oL⟩:=h1;obtain⟨e2,s2,hq,hl⟩:=ih n' aH s' oL;refine⟨e2,s2,hq,?_⟩;unfold WPA at hl ⊢;obtain⟨J,⟨k0,t0,hwt,wt⟩,hJ⟩:=hl;refine⟨fun k t=>(k=k0+1/\t=vq)\/(k<=k0/\J k t),⟨k0+1,vq,Weak.refl _ _,Or.inl ⟨rfl,rfl⟩⟩,?_⟩;intro k t hk;rcases hk with⟨rfl,rfl⟩ | ⟨hk,hj⟩
     .refine WPA.mono x (fun e3 s3 he=>?_) h2;obtain⟨rfl,rfl⟩:=he;exact⟨k0,t0,by omega,Weak.trans hw hwt,Or.inr ⟨qp _,wt⟩⟩
     .refine WPA.mono x (fun e3 s3 he=>?_) (hJ k t hj);cases e3 with
      | normal=>
       obtain⟨k',t',mT,hw',SK⟩:=he;exact⟨k',t',mT,hw',Or.inr ⟨by omega,SK⟩⟩
      | exit i=>exact he
      | ret=>exact he
    | exit i=>
     refine⟨_,_,h1,?_⟩;unfold WPA;refine⟨fun k t=>k=0/\t=vq,⟨0,vq,Weak.refl _ _,rfl,rfl⟩,?_⟩;rintro k t ⟨rfl,rfl⟩;exact WPA.mono x (fun e3 s3 he=>by obtain⟨rfl,rfl⟩:=he;exact⟨rfl,rfl⟩) h2
    | ret=>
     refine⟨_,_,h1,?_⟩;unfold WPA;refine⟨fun k t=>k=0/\t=vq,⟨0,vq,Weak.refl _ _,rfl,rfl⟩,?_⟩;rintro k t ⟨rfl,rfl⟩;exact WPA.mono x (fun e3 s3 he=>by obtain⟨rfl,rfl⟩:=he;exact⟨rfl,rfl⟩) h2
  obtain⟨e,s,hq,hl⟩:=key n0 Ot uj;refine⟨e,s,hq,?_⟩;unfold WPA at hl ⊢;obtain⟨J,⟨k0,t0,hwt,wt⟩,hJ⟩:=hl;exact⟨J,⟨k0,t0,Weak.trans Z9 hwt,wt⟩,hJ⟩
def UJ (T:Tab) (rs:List ResultVar) (m:Nat) (R:List Ob->PV->Prop) (e:AExit) (st:St):Prop:=match e with | .exit _=>False | _=> ∃ H1 res,R H1 res/\RetOK T rs m st H1 res
theorem zn {rs:List ResultVar} {R:List Ob->PV->Prop} {st:St} {u:cF _}:Ap (UJ T rs m R) .normal st u= ∃ H1 res,R H1 res/\RetOK T rs m st H1 res:=rfl
theorem pJ {rs:List ResultVar} {R:List Ob->PV->Prop} {st:St} {u:cF _}:Ap (UJ T rs m R) .ret st u= ∃ H1 res,R H1 res/\RetOK T rs m st H1 res:=rfl
theorem Ru (hT:cx P T) (hm:P.follows .mixedOrders=true) {k:FuncId} {fn:Func} {cd:Code} (hf:P.funcs[k]?=some fn) (hb:fn.body=some cd) (lj:(fn.name== "runtime.NumGoroutine")=false)
 {H0:List Ob} {args:List PV} {R:List Ob->PV->Prop} {rs:List ResultVar} (hr:fn.results=List.toArray rs) {n:Nat} (hn:fn.ntmps - args.length=n) {env:List PV} (he:args++replicate n .any=env) {m:Nat} (zr:H0.length=m)
 (h:WA P T m cd ⟨env,H0⟩ (UJ T rs m R) ⟨⟩): ∃ H1 res,R H1 res/\Den P k H0 args H1 res:=by
 obtain⟨e,st,hq,hw⟩:=WPA.det cd h
 cases e with
 | normal=>
  obtain⟨H1,res,hR,Si⟩:=hq;exact⟨H1,res,hR,I7 hT hm hf hb lj hr hn he zr (WPA.mono cd (fun e2 s2 hh=>by obtain⟨rfl,rfl⟩:=hh;exact Si) hw)⟩
 | exit i=>exact hq.elim
 | ret=>
  obtain⟨H1,res,hR,Si⟩:=hq;exact⟨H1,res,hR,I7 hT hm hf hb lj hr hn he zr (WPA.mono cd (fun e2 s2 hh=>by obtain⟨rfl,rfl⟩:=hh;exact Si) hw)⟩
end Go.AM
namespace Go.AM
theorem Weak.nil {m:Nat} {env:List PV} {H:List Ob} {st':St} (t s:Nat) (hs:0<s) (ht:env[t]?=some .nilsl) (h2:Weak m ⟨env.set t (.lsl H.length 0 0 s),H++[.row true []]⟩ st'):Weak m ⟨env,H⟩ st':=by
 intro c a w lB ⟨X,ρ,h,pQ,hd,VM⟩;refine h2 c a w lB ⟨X,ρ++[some ⟨none,0,s,0⟩],?_,?_,hd,VM⟩
 .have dT:ρ.Le (ρ++[some ⟨none,0,s,0⟩]):=Places.Le.append ρ _;have key: ∀ (id:Nat) p o,(ρ++[some ⟨none,0,s,0⟩])[id]?=some (some p)->(H++[Ob.row true []])[id]?=some o->(ρ[id]?=some (some p)/\H[id]?=some o)\/(p=⟨none,0,s,0⟩/\o= .row true []):=by
   intro id p o hp ho;by_cases aH:id<ρ.length
   .rw[qi aH] at hp;rw[qi (by rw[<-h.len];exact aH)] at ho;exact .inl ⟨hp,ho⟩
   rw[getElem?_append_right (by omega)] at hp;rw[getElem?_append_right (by rw[<-h.len];omega),<-h.len] at ho;right;cases hi:id - ρ.length with
   | zero=>rw[hi] at hp ho;simp at hp ho;exact⟨hp.symm,ho.symm⟩
   | succ j=>rw[hi] at hp;simp at hp
  refine⟨by simp[h.len],?_,?_,?_,h.xo,h.xlt,h.ge,h.base.trans dT⟩
  .intro id p o hp ho;rcases key id p o hp ho with⟨h3,h4⟩ | ⟨rfl,rfl⟩
   .exact(h.ob id p o h3 h4).keep (Same.refl X w) (fun _ _ hx=>hx) dT (fun _ g _ _=>⟨rfl,Iff.rfl⟩)
   exact⟨⟨hs,by simp,[],by simpa [Place.val] using World.ownsRow_nil w 0 0 s,by simp⟩,by simp⟩
  .intro i j p q o r g hp hq ho hr h3 h4 h5 h6;rcases key i p o hp ho with⟨h7,h8⟩ | ⟨rfl,rfl⟩
   .rcases key j q r hq hr with⟨h9,AK⟩ | ⟨rfl,rfl⟩
    .exact h.inj i j p q o r g h7 h9 h8 AK h3 h4 h5 h6
    simp at h6
   simp at h5
  intro id p o g hp ho h3 h4;rcases key id p o hp ho with⟨h7,h8⟩ | ⟨rfl,rfl⟩
  .exact h.own id p o g h7 h8 h3 h4
  simp at h4
 have dT:ρ.Le (ρ++[some ⟨none,0,s,0⟩]):=Places.Le.append ρ _;have af3:=pQ.mono dT;refine⟨by rw[length_set];exact pQ.1,fun i v x hv hx=>?_⟩;by_cases hi:t=i
 .subst hi;rw[qv (List.getElem?_eq_some_iff.1 ht).1] at hx;cases hx;have:=pQ.2 t v _ hv ht;cases this with
  | nilsl=>
   exact .lsl0 H.length ⟨none,0,s,0⟩ (by rw[<-h.len];simp) rfl
 rw[getElem?_set_ne hi] at hx;exact af3.2 i v x hv hx
section
variable {P:Program} {T:Tab}
def ah9 (T:Tab) (rs:List ResultVar) (e:AExit) (st:St):Prop:=match e with | .exit _=>False | _=> ∃ cd,gQ T st rs=some (cd,[.clip []])/\cd
theorem adS (hT:cx P T) (hm:P.follows .mixedOrders=true) {k:FuncId} {fn:Func} {cd:Code} (hf:P.funcs[k]?=some fn) (hb:fn.body=some cd) (lj:(fn.name== "runtime.NumGoroutine")=false)
 {args:List PV} {rs:List ResultVar} (hr:fn.results=List.toArray rs) {n:Nat} (hn:fn.ntmps - args.length=n) {env:List PV} (he:args++replicate n .any=env)
 (h:WA P T 0 cd ⟨env,[]⟩ (ah9 T rs) ⟨⟩):Den P k [] args [] (.clip []):=by
 subst hn;subst he
 refine⟨⟨fn,cd,hf,hb,lj⟩,fun c X ρ vs hh hM fA=>?_⟩
 have XE:ρ=[]:=List.eq_nil_of_length_eq_zero hh.len
 subst XE
 refine calls_of_wp hf hb ?_
 let c2:gD:={c with base:=[]}
 have hh2:HRd c2 c.w0 X [] []:=⟨hh.len,hh.ob,hh.inj,hh.own,hh.xo,hh.xlt,hh.ge,Places.Le.refl []⟩
 have hs:SRd c2 ⟨args++replicate (fn.ntmps - args.length) .any,[]⟩ {tmps:=vs++Array.replicate (fn.ntmps - vs.size) undef,defers:=[]} c.w0:=by
  refine⟨X,[],hh2,⟨by simp[fA.1],fun i v x hv hx=>?_⟩,rfl,Keeps.refl c2⟩;by_cases hi:i<vs.size
  .rw[Array.getElem?_append_left hi] at hv;rw[qi (by rw[<-fA.1];exact hi)] at hx;exact fA.2 i v x hv hx
  rw[getElem?_append_right (by rw[<-fA.1];omega),List.getElem?_replicate] at hx;split at hx
  .cases hx;exact .any _
  cases hx
 have fin: ∀ st' a' w',(∃ cd,gQ T st' rs=some (cd,[.clip []])/\cd)->SRd c2 st' a' w'->a'.defers=[]/\ ∃ v,(results fn a'.tmps).run P w'= .ok v w'/\ ∃ v2 X' ρ',Ending.returned v= .returned v2/\Keeps c w'/\HRd c w' X' ρ' []/\PRd w' X' ρ' v2 (.clip [])/\
  Places.Le [] ρ'/\(∀ (id:Nat) p,([]:Places).length<=id->ρ'[id]?=some (some p)-> ∀ g,p.b=some g->c.w0.heap.size<=g):=by
  intro st' a' w' ⟨cd',ak,kK⟩ ⟨X',ρ',h',N_,hd',w6⟩
  obtain⟨u,cT,hu⟩:=pC hT h' N_ (by rw[hr];exact ak) kK
  refine⟨hd',u,cT,u,X',[],rfl,⟨⟨w6.os,w6.tape,w6.output,w6.size,w6.block⟩,w6.drawn⟩,⟨rfl,by simp,by simp,by simp,h'.xo,h'.xlt,h'.ge,hh.base⟩,?_,Places.Le.refl _,by simp⟩
  change PRd w' X' ρ' u (.clip []) at hu
  cases hu with
  | clip a n _ hf=>exact .clip a n _ hf
 refine fJ hT hm (m:=0) (by show([]:Places).length<=_;exact qp _) cd h hs (fun e st' a' w' he vv=>?_)
 cases e with
 | normal=>exact fin st' a' w' he vv
 | ret=>exact fin st' a' w' he vv
 | exit id=>exact he.elim
def adT (T:Tab) (rs:List ResultVar) (e:AExit) (st:St):Prop:=match e with | .exit _=>False | _=> ∃ cd,gQ T st rs=some (cd,[.nilsl])/\cd
theorem vU {rs:List ResultVar} {st:St} {u:cF _}:Ap (adT T rs) .ret st u= ∃ cd,gQ T st rs=some (cd,[.nilsl])/\cd:=rfl
theorem Lm (hT:cx P T) (hm:P.follows .mixedOrders=true) {k:FuncId} {fn:Func} {cd:Code} (hf:P.funcs[k]?=some fn) (hb:fn.body=some cd) (lj:(fn.name== "runtime.NumGoroutine")=false)
 {args:List PV} {rs:List ResultVar} (hr:fn.results=List.toArray rs) {n:Nat} (hn:fn.ntmps - args.length=n) {env:List PV} (he:args++replicate n .any=env)
 (h:WA P T 0 cd ⟨env,[]⟩ (adT T rs) ⟨⟩) (s:Nat) (Lr:0<s):Den P k [] args [.row true []] (.lsl 0 0 0 s):=by
 subst hn;subst he
 refine⟨⟨fn,cd,hf,hb,lj⟩,fun c X ρ vs hh hM fA=>?_⟩
 have XE:ρ=[]:=List.eq_nil_of_length_eq_zero hh.len
 subst XE
 refine calls_of_wp hf hb ?_
 let c2:gD:={c with base:=[]}
 have hh2:HRd c2 c.w0 X [] []:=⟨hh.len,hh.ob,hh.inj,hh.own,hh.xo,hh.xlt,hh.ge,Places.Le.refl []⟩
 have hs:SRd c2 ⟨args++replicate (fn.ntmps - args.length) .any,[]⟩ {tmps:=vs++Array.replicate (fn.ntmps - vs.size) undef,defers:=[]} c.w0:=by
  refine⟨X,[],hh2,⟨by simp[fA.1],fun i v x hv hx=>?_⟩,rfl,Keeps.refl c2⟩;by_cases hi:i<vs.size
  .rw[Array.getElem?_append_left hi] at hv;rw[qi (by rw[<-fA.1];exact hi)] at hx;exact fA.2 i v x hv hx
  rw[getElem?_append_right (by rw[<-fA.1];omega),List.getElem?_replicate] at hx;split at hx
  .cases hx;exact .any _
  cases hx
 have fin: ∀ st' a' w',(∃ cd,gQ T st' rs=some (cd,[.nilsl])/\cd)->SRd c2 st' a' w'->a'.defers=[]/\ ∃ v,(results fn a'.tmps).run P w'= .ok v w'/\ ∃ v2 X' ρ',Ending.returned v= .returned v2/\Keeps c w'/\HRd c w' X' ρ' [.row true []]/\PRd w' X' ρ' v2 (.lsl 0 0 0 s)/\
  Places.Le [] ρ'/\(∀ (id:Nat) p,([]:Places).length<=id->ρ'[id]?=some (some p)-> ∀ g,p.b=some g->c.w0.heap.size<=g):=by
  intro st' a' w' ⟨cd',ak,kK⟩ ⟨X',ρ',h',N_,hd',w6⟩
  obtain⟨u,cT,hu⟩:=pC hT h' N_ (by rw[hr];exact ak) kK
  refine⟨hd',u,cT,u,X',[some ⟨none,0,s,0⟩],rfl,⟨⟨w6.os,w6.tape,w6.output,w6.size,w6.block⟩,w6.drawn⟩,⟨rfl,?_,?_,?_,h'.xo,h'.xlt,h'.ge,hh.base.trans (Places.Le.append [] _)⟩,?_,Places.Le.append [] _,?_⟩
  .intro id p o hp ho
   cases id with
   | succ j=>simp at hp
   | zero=>
    simp at hp ho;subst hp;subst ho;exact⟨⟨Lr,by simp,[],by simpa [Place.val] using World.ownsRow_nil w' 0 0 s,by simp⟩,by simp⟩
  .intro i j p q o r g hp hq ho hr h3 h4 h5 h6
   cases i with
   | succ j=>simp at hp
   | zero=>simp at hp;subst hp;cases h5
  .intro i p o g hp ho h3 h4
   cases i with
   | succ j=>simp at hp
   | zero=>simp at hp;subst hp;cases h4
  .change PRd w' X' ρ' u .nilsl at hu
   cases hu with
   | nilsl=>exact .lsl0 0 ⟨none,0,s,0⟩ rfl rfl
  intro id p _ hp g hg
  cases id with
  | succ j=>simp at hp
  | zero=>simp at hp;subst hp;cases hg
 refine fJ hT hm (m:=0) (by show([]:Places).length<=_;exact qp _) cd h hs (fun e st' a' w' he vv=>?_)
 cases e with
 | normal=>exact fin st' a' w' he vv
 | ret=>exact fin st' a' w' he vv
 | exit id=>exact he.elim
end
theorem Den.empty' {P:Program} {k:FuncId} {pre post:List PV} {H1:List Ob} {res:PV} (h1:Den P k [] (pre++ .nilsl::post) H1 res) (h2: ∀ b o cap,Den P k [] (pre++ .fv (.lit (.slice (some ⟨b,o,none⟩) 0 cap))::post) H1 res):
 Den P k [] (pre++ .fv (.sl [])::post) H1 res:=by
 refine⟨h1.1,fun c X ρ vs hh hM fA=>?_⟩
 have aH:pre.length<vs.size:=by rw[fA.1];simp
 have hv:vs[pre.length]?=some vs[pre.length]:=by simp[aH]
 have hrd:=fA.2 pre.length vs[pre.length] (.fv (.sl [])) hv (by simp)
 generalize vs[pre.length]=v at hv hrd
 cases hrd with
 | fv _ _ hf=>
  cases hf with
  | nil=>exact h1.2 c X ρ vs hh hM (fA.swap (fun u hu=>by rw[hv] at hu;cases hu;exact .nilsl))
  | sl ad n cap s _ us hn hc ua h0=>
   have hn:n=0:=by simpa using hn.symm
   subst hn;obtain⟨b,o,sp⟩:=ad;cases h0;exact(h2 b o cap).2 c X ρ vs hh hM (fA.swap (fun u hu=>by rw[hv] at hu;cases hu;exact .fv _ _ (.lit _ rfl)))
end Go.AM
namespace Go.AM
def Plain (res:PV):Prop:= ∀ (w w':World) (X X':Nat->Prop) (ρ ρ':Places) (v:Value),PRd w X ρ v res->PRd w' X' ρ' v res
theorem Plain.lit (v:Value):Plain (.fv (.lit v)):=fun w w' X X' ρ ρ' u h=>by
 cases h with
 | fv _ _ hf=>cases hf with
  | lit _ h1=>exact .fv _ _ (.lit _ h1)
theorem Den.lendF {P:Program} {k:FuncId} {xs:List (List FV)} {n s:Nat} {post:List PV} {res:PV} (h:Den P k [] (.fv (.sl xs)::post) [] res) (hn:n=xs.length) (hp:Plain res) (Sj: ∀ x∈post,Plain x):
 Den P k [.row true xs] (.lsl 0 0 n s::post) [.row true xs] res:=by
 subst hn
 refine⟨h.1,fun c X ρ vs hh hM fA=>?_⟩
 obtain⟨X1,h1,qX,kJ⟩:=hh.shutIds [0]
 let c2:gD:={w0:=c.w0,M:=fun _=>False,Xo:=c.Xo,base:=[],hxo:=fun b hb=>⟨(c.hxo b hb).1,fun h=>h⟩}
 have hh2:HRd c2 c.w0 X1 [] []:=⟨rfl,by simp,by simp,by simp,h1.xo,h1.xlt,h1.ge,Places.Le.refl _⟩
 have dX:0<vs.size:=by rw[fA.1];simp
 have Hi:vs[0]?=some vs[0]:=by simp[dX]
 have akG:=fA.2 0 vs[0] (.lsl 0 0 xs.length s) Hi rfl
 have Ou:FRd c.w0 X1 vs[0] (.sl xs):=by
  refine lY (H:=[.row true xs]) hh (fun j o ho=>ho) akG (by simp[fB]) qX (fun id dk p o g hp ho ha hg=>kJ id (by simpa [eZ] using dk) p o g hp ho ha hg)
 have akH:PRds c.w0 X1 [] vs (.fv (.sl xs)::post):=by
  refine⟨by rw[fA.1];simp,fun i v x hv hx=>?_⟩;cases i with
  | zero=>
   simp at hx;subst hx;rw[Hi] at hv;cases hv;exact .fv _ _ Ou
  | succ i=>
   have qS:post[i]?=some x:=by simpa using hx
   exact Sj x (List.mem_of_getElem? qS) _ _ _ _ _ _ _ (fA.2 (i+1) v x hv (by simpa using qS))
 refine(h.2 c2 X1 [] vs hh2 (fun b hb=>hb.elim) akH).mono (fun e w' aay=>?_)
 obtain⟨v,X',ρ',he,hk,hr,Ax,dT,mX⟩:=aay
 have t7: ∀ b,b<c.w0.heap.size->w'.heap[b]?=c.w0.heap[b]?:=fun b hb=>hk.block b hb (fun h=>h)
 have eI:Same X c.w0 w':=⟨hk.size,fun b hb _=>t7 b hb⟩
 refine⟨v,X,ρ,he,⟨⟨hk.os,hk.tape,hk.output,hk.size,fun b hb _=>t7 b hb⟩,hk.drawn⟩,⟨hh.len,fun id p o h2 h3=>(hh.ob id p o h2 h3).keep eI (fun _ _ h=>h) (Places.Le.refl _) (fun _ g _ hg=>⟨t7 g hg,Iff.rfl⟩),hh.inj,
  fun id p o g h2 h3 h4 h5=>⟨(hh.own id p o g h2 h3 h4 h5).1,Nat.lt_of_lt_of_le (hh.own id p o g h2 h3 h4 h5).2 hk.size⟩,hh.xo,fun b hb=>Nat.lt_of_lt_of_le (hh.xlt b hb) hk.size,hk.size,hh.base⟩,hp _ _ _ _ _ _ _ Ax,Places.Le.refl _,fun id p h2 h3=>?_⟩
 have:=(List.getElem?_eq_some_iff.1 h3).1
 omega
theorem Weak.shut {m:Nat} {env:List PV} {H:List Ob} {st':St} (ids:List Nat) (h2:Weak m ⟨env,shutIds ids H⟩ st'):Weak m ⟨env,H⟩ st':=fun c a w lB h=>h2 c a w lB (h.shut ids)
theorem Weak.fz {m:Nat} {env:List PV} {H:List Ob} {st':St} (t id off len s:Nat) (xs:List (List FV)) (ht:env[t]?=some (.lsl id off len s)) (ho:H[id]?=some (.row false xs)) (hl:off+len<=xs.length)
 (h2:Weak m ⟨env.set t (.fv (.sl ((xs.drop off).take len))),H⟩ st'):Weak m ⟨env,H⟩ st':=by
 intro c a w lB ⟨X,ρ,h,pQ,hd,VM⟩
 refine h2 c a w lB ⟨X,ρ,h,⟨by rw[length_set];exact pQ.1,fun i v x hv hx=>?_⟩,hd,VM⟩
 by_cases hi:t=i
 .subst hi
  rw[qv (List.getElem?_eq_some_iff.1 ht).1] at hx
  cases hx
  refine .fv _ _ (lY (H:=H) h (fun j o h=>h) (pQ.2 t v _ hv ht) (by simp[fB,ho,hl]) (fun b h=>h) (fun LM dk p o g hp gw ha hg=>?_))
  simp only[eZ,qz] at dk
  subst dk
  rw[ho] at gw
  cases gw
  have:=(h.ob LM p _ hp ho).2 g hg
  exact fun hx=>by have:=this.2 hx;cases this
 rw[getElem?_set_ne hi] at hx
 exact pQ.2 i v x hv hx
theorem adU {H:List Ob} {id off n s:Nat}:shutBs H id [.lsl id off n s]=H:=by simp[shutBs,wc,shutIds]
theorem Nu {H:List Ob} {id off n s:Nat}:wb H id [.lsl id off n s]=some [.lsl 0 off n s]:=by simp[wb,W3]
theorem GS: ∀ {α:Type} {l:List α} {i:Nat} {x:α},l[i]?=some x->l.set i x=l
 | _,[],_,_,h=>by simp at h
 | _,a::l,0,x,h=>by simp at h;subst h;rfl
 | _,a::l,i+1,x,h=>by simp only[List.set_cons_succ];rw[GS (by simpa using h)]
theorem GoCall.show {P:Program} {env:List PV} {H:List Ob} {K:PV->List Ob->Prop} {k:FuncId} {id n s:Nat} {xs:List (List FV)} {res:PV} {t:cF _} (hd:Den P k [] [.fv (.sl xs)] [] res) (hp:Plain res) (hn:n=xs.length)
 (ho:H[id]?=some (.row true xs)) (hk:K (reloc (lent id H.length) res) H):GoCall P ⟨env,H⟩ (some (k,[],[])) [.lsl id 0 n s] K t:=by
 refine gl_ id (hd.lendF (s:=s) hn hp (by simp)) ho rfl trivial (by simp[PV.refsTo]) (by simpa using Nu) ?_ ?_
 .simp only[nil_append,List.append_nil]
  rw[adU];exact ho
 simp only[nil_append,List.append_nil,map_nil]
 rw[adU]
 have:H.set id (relocOb (lent id H.length) (.row true xs))=H:=GS (by simpa [relocOb] using ho)
 rw[this]
 exact hk
theorem Weak.fzb {m:Nat} {env:List PV} {H:List Ob} {st':St} (t id n:Nat) (cs:List PV) (ys:List FV) (ht:env[t]?=some (.lsl id 0 n 1)) (ho:H[id]?=some (.box false cs)) (hn:cs.length=n) (hf:lJ H cs=some ys)
 (ue: ∀ k∈cs.flatMap eZ,∀ o,H[k]?=some o->o.rw=false) (h2:Weak m ⟨env.set t (.fv (.sl (ys.map fun x=>[x]))),H⟩ st'):Weak m ⟨env,H⟩ st':=by
 intro c a w lB ⟨X,ρ,h,pQ,hd,VM⟩
 refine h2 c a w lB ⟨X,ρ,h,⟨by rw[length_set];exact pQ.1,fun i v x hv hx=>?_⟩,hd,VM⟩
 by_cases hi:t=i
 .subst hi
  rw[qv (List.getElem?_eq_some_iff.1 ht).1] at hx
  cases hx
  have hrd:=pQ.2 t v _ hv ht
  subst hn
  refine .fv _ _ ?_
  obtain⟨p,hp,md,Oc⟩:=hrd.lslInv
  obtain⟨⟨g',us,jE,hh,hs,h1,hc⟩,hrw⟩:=h.ob id p _ hp ho
  rcases Oc with⟨hg,mY,_,_⟩ | ⟨g,og,hg,mY,hl,iU⟩
  .rw[hg] at jE;cases jE
  rw[hg] at jE
  injection jE with jE
  subst jE
  have hog:og=0:=by
   rcases iU with iU | iU
   .simpa using iU
   exact absurd rfl iU.2
  subst hog
  rw[mY]
  have aD:=f5 hf
  have df: ∀ (i j:Nat) x y,(ys.map fun x=>[x])[i]?=some x->x[j]?=some y->j=0/\ys[i]?=some y:=by
   intro i j x y hx hy;rw[List.getElem?_map] at hx;cases VG:ys[i]? with
   | none=>rw[VG] at hx;cases hx
   | some y0=>
    rw[VG] at hx;cases hx;cases j with
    | zero=>simp at hy;exact⟨rfl,by rw[hy]⟩
    | succ j=>simp at hy
  refine .sl ⟨g,0,none⟩ cs.length (p.cap - 0) 1 _ (fun i _=>us.getD i undef) (by simp[aD]) (by omega) (by simp) rfl (fun _ hx=>by have:=(hrw g hg).2 hx;cases this) (fun _=>(Array.getElem?_eq_some_iff.1 hh).1) (fun i j x y hx hy=>?_) (fun i j x y hx hy=>?_)
  .obtain⟨rfl,VG⟩:=df i j x y hx hy
   have aH:i<us.size:=by rw[hs,<-aD];exact(List.getElem?_eq_some_iff.1 VG).1
   simp only[Nat.mul_one,Nat.zero_add,Nat.add_zero]
   rw[cell_of_row w g i us _ _ hh]
   simp[aH]
  obtain⟨rfl,VG⟩:=df i j x y hx hy
  have aH:i<us.size:=by rw[hs,<-aD];exact(List.getElem?_eq_some_iff.1 VG).1
  have RB:i<cs.length:=by rw[<-hs];exact aH
  obtain⟨y',Cr,N0⟩:=k_ hf i cs[i] (by simp[RB])
  rw[VG] at Cr;cases Cr
  have:=hc i us[i] cs[i] (by simp[aH]) (by simp[RB])
  rw[show us.getD i undef=us[i] by simp[aH]]
  refine lY h (fun j o h=>h) this N0 (fun b hb=>hb) (fun k hk q o g2 hq gw ha eu hX=>?_)
  have Hm:=ue k (List.mem_flatMap.2 ⟨cs[i],by simp,hk⟩) o gw
  have fU:=h.ob k q o hq gw
  cases o with
  | dead=>exact ha
  | tab _ _=>cases Hm
  | row rw2 _=>have:=(fU.2 g2 eu).2 hX;rw[this] at Hm;cases Hm
  | box rw2 _=>have:=(fU.2 g2 eu).2 hX;rw[this] at Hm;cases Hm
 rw[getElem?_set_ne hi] at hx
 exact pQ.2 i v x hv hx
end Go.AM
