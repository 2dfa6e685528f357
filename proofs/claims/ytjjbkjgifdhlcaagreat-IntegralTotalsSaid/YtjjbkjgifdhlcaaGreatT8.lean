/- The abstract machine:the end of a function,words,and the bounds of int. -/
import Derived.Test.YtjjbkjgifdhlcaaGreatT7
import Derived.KernelRfl
import Derived.Test.YtjjbkjgifdhlcaaGreatT1
set_option linter.all false
open List (getElem?_append_right getElem?_set_ne length_set map_cons map_nil nil_append replicate)
namespace Go.AM
def mC (m:List Int):List PV:=m.map (fun n=>PV.int .i64 n)
theorem Ic: ∀ {m:List Int},sI (mC m)=some m
 | []=>rfl
 | n::m=>by
  have:=Ic (m:=m);unfold mC at this ⊢;simp only[map_cons,sI,this];rfl
def Wf (T:Tab) (rs:List ResultVar) (m:Nat) (H1:List Ob) (res:PV) (e:AExit) (st:St):Prop:=match e with | .exit _=>False | _=>RetOK T rs m st H1 res
section
variable {P:Program} {T:Tab}
theorem df {rs:List ResultVar} {m:Nat} {H1:List Ob} {res:PV} {st:St} {u:cZ _}:Ap (Wf T rs m H1 res) .normal st u=RetOK T rs m st H1 res:=rfl
theorem eM {rs:List ResultVar} {m:Nat} {H1:List Ob} {res:PV} {st:St} {u:cZ _}:Ap (Wf T rs m H1 res) .ret st u=RetOK T rs m st H1 res:=rfl
theorem Kn (hT:cQ P T) (hm:P.follows .mixedOrders=true) {k:FuncId} {fn:Func} {cd:Code} (hf:P.funcs[k]?=some fn) (hb:fn.body=some cd) (mF:(fn.name== "runtime.NumGoroutine")=false)
 {H0:List Ob} {args:List PV} {H1:List Ob} {res:PV} {rs:List ResultVar} (hr:fn.results=List.toArray rs) {n:Nat} (hn:fn.ntmps - args.length=n) {env:List PV} (he:args++replicate n .any=env) {m:Nat} (MZ:H0.length=m)
 (h:WA P T m cd ⟨env,H0⟩ (Wf T rs m H1 res) ⟨⟩):Den P k H0 args H1 res:=by
 subst hn;subst he;subst MZ
 refine J6 hT hm hf hb mF ?_
 rw[hr]
 refine WPA.mono cd (fun e st hq=>?_) h
 cases e<;>exact hq
theorem O7 {st:St} {rs:List ResultVar} {res:PV} {cd:Prop} {vs:List PV} (h1:gW T st rs=some (cd,vs)) (hc:cd) (h2:t6 st.heap [] (cY vs)=some res):RetOK T rs 0 st [] res:=
 ⟨cd,vs,[],h1,hc,List.nodup_nil,fun i hi=>absurd hi (Nat.not_lt_zero i),h2,rfl,fun j id hj=>by simp at hj,fun o ho=>by simp at ho⟩
theorem RetOK.own {st:St} {rs:List ResultVar} {id len s:Nat} {xs:List (List FV)} {cd:Prop} (h1:gW T st rs=some (cd,[.lsl id 0 len s])) (hc:cd) (h2:st.heap[id]?=some (.row true xs)):
 RetOK T rs 0 st [.row true xs] (.lsl 0 0 len s):=by
 refine⟨cd,[.lsl id 0 len s],[id],h1,hc,by simp,fun i hi=>absurd hi (Nat.not_lt_zero i),?_,rfl,fun j k hj=>?_,fun o ho=>?_⟩
 .simp[cY,t6,yO,vm,List.idxOf?_cons]
 .cases j with
  | zero=>
   simp at hj;subst hj;simp[cY,tM,A3,A2,List.idxOf?_cons,shutIds,h2]
  | succ j=>simp at hj
 simp at ho;subst ho;exact⟨cK,rfl⟩
end
theorem Den.freeze {P:Program} {k:FuncId} {args:List PV} {obs:List Ob} {res res':PV} (h:Den P k [] args obs res) (hf:t6 obs [] res=some res'):Den P k [] args [] res':=by
 refine⟨h.1,fun c X ρ vs hh hM fh=>?_⟩;have ZC:ρ=[]:=List.eq_nil_of_length_eq_zero hh.len;subst ZC;refine(h.2 c X [] vs hh hM fh).mono (fun e w' T8=>?_);obtain⟨v,X',ρ',he,hk,hr,hp,dP,kW⟩:=T8;obtain⟨X1,h1,vu,lR⟩:=hr.shutIds (tM obs [] res);refine⟨v,X1,[],he,hk,⟨rfl,by simp,by simp,by simp,h1.xo,h1.xlt,h1.ge,hh.base⟩,?_,Places.Le.refl _,by simp⟩;exact SB hr hp hf vu lR (fun id j p hj=>by simp at hj)
theorem PRds.swap {w:World} {X:Nat->Prop} {ρ:Places} {vs:Array Value} {pre post:List PV} {x y:PV} (h:PRds w X ρ vs (pre++x::post)) (hy: ∀ v,vs[pre.length]?=some v->PRd w X ρ v y):PRds w X ρ vs (pre++y::post):=by
 refine⟨by rw[h.1];simp,fun i v z hv hz=>?_⟩;by_cases hi:i=pre.length
 .subst hi;rw[getElem?_append_right (qp _),Nat.sub_self] at hz;simp only[List.getElem?_cons_zero,qo] at hz;subst hz;exact hy v hv
 refine h.2 i v z hv ?_;rw[<-hz];rcases Nat.lt_or_gt_of_ne hi with h1 | h1
 .rw[qi h1,qi h1]
 rw[getElem?_append_right (by omega),getElem?_append_right (by omega)];obtain⟨j,hj⟩: ∃ j,i - pre.length=j+1:=⟨i - pre.length - 1,by omega⟩;rw[hj];rfl
theorem Den.empty {P:Program} {k:FuncId} {pre post:List PV} {H1:List Ob} {res:PV} (h1:Den P k [] (pre++ .nilsl::post) H1 res) (h2: ∀ ad cap,Den P k [] (pre++ .fv (.lit (.slice (some ad) 0 cap))::post) H1 res):
 Den P k [] (pre++ .fv (.sl [])::post) H1 res:=by
 refine⟨h1.1,fun c X ρ vs hh hM fh=>?_⟩
 have aL:pre.length<vs.size:=by rw[fh.1];simp
 have hv:vs[pre.length]?=some vs[pre.length]:=by simp[aL]
 have hrd:=fh.2 pre.length vs[pre.length] (.fv (.sl [])) hv (by simp)
 generalize vs[pre.length]=v at hv hrd
 cases hrd with
 | fv _ _ hf=>
  cases hf with
  | nil=>exact h1.2 c X ρ vs hh hM (fh.swap (fun u hu=>by rw[hv] at hu;cases hu;exact .nilsl))
  | sl ad n cap s _ us hn hc=>
   have hn:n=0:=by simpa using hn.symm
   subst hn;exact(h2 ad cap).2 c X ρ vs hh hM (fh.swap (fun u hu=>by rw[hv] at hu;cases hu;exact .fv _ _ (.lit _ rfl)))
theorem Fa {H:List Ob}:shutIds [] H=H:=rfl
theorem Cb {H:List Ob} {id:Nat} {ids:List Nat}:shutIds (id::ids) H=shutIds ids (shut H id):=rfl
theorem kr {x:Int} (h: -9223372036854775808<=x/\x<9223372036854775808):IntKind.i64.wrap x=x:=by
 simp[IntKind.wrap,IntKind.bits,IntKind.signed];split<;>omega
theorem dV {x:Int}:IntKind.u32.wrap x=x % 4294967296:=by simp[IntKind.wrap,IntKind.bits,IntKind.signed]
theorem sk {x:Int}:IntKind.u64.wrap x=x % 18446744073709551616:=by simp[IntKind.wrap,IntKind.bits,IntKind.signed]
theorem dD {x:Int} (h:0<=x/\x<4294967296):IntKind.u32.wrap x=x:=by rw[dV];omega
theorem d8 {x:Int} (h:0<=x/\x<18446744073709551616):IntKind.u64.wrap x=x:=by rw[sk];omega
theorem je {x:Int} (h:0<=x/\x<256):IntKind.u8.wrap x=x:=by
 simp[IntKind.wrap,IntKind.bits,IntKind.signed];omega
theorem qS {x b:Int} (h:0<=b):x.fdiv b=x / b:=Int.fdiv_eq_ediv_of_nonneg x h
theorem qT {x b:Int} (h:0<=x):x.tdiv b=x / b:=Int.tdiv_eq_ediv_of_nonneg h
theorem qU {x b:Int} (h:0<=x):x.tmod b=x % b:=Int.tmod_eq_emod_of_nonneg h
def u32s (l:List Nat):List (List FV):=l.map fun(n:Nat)=>[.lit (.int .u32 (n:Int))]
theorem aR {l:List Nat}:(u32s l).length=l.length:=by simp[u32s]
theorem O8 {l:List Nat} {i:Nat} (h:i<l.length):(u32s l).getD i []=[.lit (.int .u32 ((l.getD i 0:Nat):Int))]:=by
 simp[u32s,h]
theorem S4 {l:List Nat} {i:Nat} {x:Int} (h:0<=x):(u32s l).set i [.lit (.int .u32 x)]=u32s (l.set i x.toNat):=by
 have:((x.toNat:Nat):Int)=x:=Int.toNat_of_nonneg h;simp[u32s,List.map_set,this]
theorem O9 {l:List Nat} {n:Nat}:(u32s l).take n=u32s (l.take n):=by simp[u32s,List.map_take]
theorem O_ {l:List Nat} {n:Nat}:(u32s l).drop n=u32s (l.drop n):=by simp[u32s,List.map_drop]
theorem Ie {l k:List Nat}:u32s l++u32s k=u32s (l++k):=by simp[u32s]
theorem Ko {n:Nat}:replicate n [FV.lit (.int .u32 0)]=u32s (replicate n 0):=by simp[u32s]
theorem O' {l:List Nat}:(∀ y∈u32s l,y.length=1)=True:=by
 simp only[eq_iff_iff,iff_true];intro y hy;simp only[u32s,List.mem_map] at hy;obtain⟨n,_,rfl⟩:=hy;rfl
end Go.AM
namespace Go.AM
set_option maxRecDepth 100000
abbrev aaF:=qy @aav (qy @VY (qy @SF (qy @VZ (qy @aaw (qy @SH (qy @V0 (qy @OT (qy @V1 (qy @B9 (qy @H4 (qy @Kb (qy @yj (qy @B_ (qy @E4 (qy @E5 (qy @H6 (qy @B' (qy @H7 (@Kd)))))))))))))))))))
abbrev aaG:=qy @aax (qy @V2 (qy @V3 (qy @aay (qy @V5 (qy @V6 (qy @SJ (qy @V4 (qy @Ke (qy @E6 (qy @OU (qy @Kf (qy @VX (qy @SC (qy @J_ (qy @SD (qy @SE (qy @J' (qy @HZ (@H3)))))))))))))))))))
abbrev aaH:=qy @OQ (qy @OS (qy @SK (qy @SL (qy @aaz (qy @aaA (qy @SM (qy @V7 (qy @aaB (qy @V8 (qy @aaC (qy @Kg (qy @OV (qy @V9 (qy @OW (qy @V_ (qy @Kh (qy @SO (qy @aaD (@SQ)))))))))))))))))))
abbrev aaI:=qy @Ca (qy @V' (qy @SS (qy @H9 (qy @Ki (qy @OX (qy @E7 (qy @Ic (qy @SU (qy @OY (qy @OZ (qy @Wa (qy @Kj (qy @E8 (qy @SV (qy @E9 (qy @SX (qy @E_ (qy @SZ (@Kl)))))))))))))))))))
abbrev aaJ:=qy @Ia (qy @Wb (qy @O0 (qy @afT (qy @Km (qy @E' (qy @O3 (qy @O4 (qy @Ib (qy @toL (qy @S3 (qy @O5 (qy @We (qy @O6 (qy @Wc (qy @Wd (qy @Fa (qy @Cb (qy @List.modify_zero_cons.{0} (@List.modify_succ_cons.{0})))))))))))))))))))
abbrev aaK:=qy @List.flatMap_cons.{0,0} (qy @List.flatMap_nil.{0,0} (qy @List.flatten_cons.{0} (qy @List.flatten_nil.{0} (qy @List.set_cons_zero.{0} (qy @List.set_cons_succ.{0} (qy @List.getD_cons_zero.{0} (qy @List.getD_cons_succ.{0} (qy @List.getElem?_cons_zero.{0} (qy @List.getElem?_cons_succ.{0} (qy @List.length_cons.{0} (qy @List.length_nil.{0} (qy @List.cons_append.{0} (qy @nil_append.{0} (qy @List.replicate_succ.{0} (qy @List.replicate_zero.{0} (qy @Bool.false_eq_true (qy @true_and (qy @and_true (@List.headD_cons.{0})))))))))))))))))))
abbrev aaL:=qy @List.take_succ_cons.{0} (qy @List.take_zero.{0} (qy @List.take_nil.{0} (qy @List.drop_zero.{0} (qy @List.drop_succ_cons.{0} (qy @Int.toNat_natCast (qy @Nat.zero_add (qy @aR (qy @O8 (qy @S4 (qy @O9 (qy @O_ (qy @Ie (qy @Ko (qy @O' (qy @List.getD_nil.{0} (qy @map_cons.{0,0} (qy @map_nil.{0,0} (qy @Option.map_none.{0,0} (@Option.map_some.{0,0})))))))))))))))))))
abbrev aaM:=qy @Ob.ro.eq_def (qy @PV.asInt.eq_def (qy @PV.cells.eq_def (qy @Tab.arN.eq_def (qy @Tab.isBool.eq_def (qy @Tab.isSl.eq_def (qy @TyI.isAgg.eq_def (qy @aan.eq_def (qy @Qe.eq_def (qy @asI.eq_def (qy @D1.eq_def (qy @o0.eq_def (qy @uc.eq_def (qy @Uy.eq_def (qy @eV.eq_def (qy @iU.eq_def (qy @Ld.eq_def (qy @FE.eq_def (qy @dZ.eq_def (@fN.eq_def)))))))))))))))))))
abbrev aaN:=qy @ny.eq_def (qy @pK.eq_def (qy @Qf.eq_def (qy @D2.eq_def (qy @cB.eq_def (qy @pS.eq_def (qy @pG.eq_def (qy @lenOf.eq_def (qy @Nq.eq_def (qy @Qg.eq_def (qy @Ux.eq_def (qy @ML.eq_def (qy @kG.eq_def (qy @SN.eq_def (qy @MX.eq_def (qy @afR.eq_def (qy @SP.eq_def (qy @xJ.eq_def (qy @S2.eq_def (@YZ.eq_def)))))))))))))))))))
abbrev aaO:=qy @H_.eq_def (qy @SW.eq_def (qy @A6.eq_def (qy @SY.eq_def (qy @A7.eq_def (qy @afU.eq_def (qy @YX.eq_def (qy @MW.eq_def (qy @Y0.eq_def (qy @DN.eq_def (qy @H8.eq_def (qy @A5.eq_def (qy @afV.eq_def (qy @afW.eq_def (qy @afS.eq_def (qy @YY.eq_def (qy @Kk.eq_def (qy @SR.eq_def (qy @rUn.eq_def (@reloc.eq_def)))))))))))))))))))
abbrev Wg:=qy @reloc1.eq_def (qy @relocOb.eq_def (qy @room.eq_def (qy @Si.eq_def (qy @shut.eq_def (qy @ia.eq_def (qy @shutAs.eq_def (qy @fF.eq_def (qy @lM.eq_def (qy @storeAt.eq_def (qy @unV.eq_def (qy @nA.eq_1 (qy @nA.eq_2 (qy @d4.eq_1 (qy @d4.eq_2 (qy @l6.eq_1 (qy @l6.eq_2 (qy @w_.eq_1 (qy @w_.eq_2 (@yZ.eq_1)))))))))))))))))))
abbrev Wh:=@yZ.eq_2
abbrev lQ:=qy aaF (qy aaG (qy aaH (qy aaI (qy aaJ (qy aaK (qy aaL (qy aaM (qy aaN (qy aaO (qy Wg (Wh)))))))))))
def tl (x:Nat->PV) (s:Nat):Nat->List PV
 | 0=>[]
 | n+1=>x s::tl x (s+1) n
theorem WA.blockcut {P:Program} {T:Tab} {m:Nat} {α:Type} (f:α->St) (G:α->Prop) {x y:Code} {id:Nat} {st:St} {Q:KQ} {u:cZ (y,Q)} {w:cZ (Ka P T m y Q u)} {t:cZ (x,m9 id (Ka P T m y Q u) w)}
 (h1:WA P T m x st (m9 id (SI (Mid f G) Q ⟨⟩) ⟨⟩) ⟨⟩) (h2: ∀ a,G a->WA P T m y (f a) Q ⟨⟩):WA P T m x st (m9 id (Ka P T m y Q u) w) t:=by
 refine WPA.mono x (fun e jO h=>?_) h1
 have hm: ∀ Zx,Mid f G Zx->WPA P T m y Zx Q:=fun Zx ⟨a,hs,hg⟩=>by subst hs;exact h2 a hg
 cases e with
 | normal=>exact hm _ h
 | exit i=>
  simp only[m9] at h ⊢;split
  .rename_i hi;rw[if_pos hi] at h;exact hm _ h
  .rename_i hi;rw[if_neg hi] at h;exact h
 | ret=>exact h
theorem Mid.ex {α:Type} {f:α×(Nat->PV)->St} {G:α×(Nat->PV)->Prop} {env:List PV} {H:List Ob} (a:α) (h:(⟨env,H⟩:St)=f (a,fun i=>env.getD i .any)) (hg:G (a,fun i=>env.getD i .any)):Mid f G ⟨env,H⟩:=⟨_,h,hg⟩
theorem RetOK.lent {T:Tab} {st:St} {rs:List ResultVar} {res:PV} {xs:List (List FV)} {cd:Prop} {vs:List PV} (h1:gW T st rs=some (cd,vs)) (hc:cd) (hx:st.heap=[.row true xs])
 (h2:t6 st.heap [0] (cY vs)=some res) (h3:tM st.heap [0] (cY vs)=[]):RetOK T rs 1 st [.row true xs] res:=by
 refine⟨cd,vs,[0],h1,hc,by simp,fun i hi=>?_,h2,rfl,fun j id hj=>?_,fun o ho=>?_⟩
 .have:i=0:=by omega
  subst this;rfl
 .cases j with
  | zero=>
   simp at hj;subst hj;rw[h3,hx];rfl
  | succ j=>simp at hj
 simp at ho;subst ho;exact⟨cK,rfl⟩
theorem sn {T:Tab} {st:St} {rs:List ResultVar} {res:PV} {ob:Ob} {cd:Prop} {vs:List PV} (h1:gW T st rs=some (cd,vs)) (hc:cd) (hx:st.heap.head?=some ob) (fr:ob.closed) (hrw:ob.rw=true)
 (h2:t6 st.heap [0] (cY vs)=some res) (h3:(shutIds (tM st.heap [0] (cY vs)) st.heap).head?=some ob):RetOK T rs 1 st [ob] res:=by
 refine⟨cd,vs,[0],h1,hc,by simp,fun i hi=>?_,h2,rfl,fun j id hj=>?_,fun o ho=>?_⟩
 .have:i=0:=by omega
  subst this;rfl
 .cases j with
  | zero=>
   simp at hj;subst hj;rw[<-List.head?_eq_getElem?,h3];rfl
  | succ j=>simp at hj
 simp at ho;subst ho;exact⟨fr,hrw⟩
end Go.AM
namespace Go.AM
variable {P:Program} {T:Tab} {m:Nat}
theorem WPcall.det {c:Call} {st:St} {K:PV->List Ob->Prop} (h:WPcall P T c st K): ∃ v H,K v H/\WPcall P T c st (fun v2 H2=>v2=v/\H2=H):=by
 unfold WPcall at h ⊢;split at h
 .rename_i b hb;split at h
  .rename_i r hr;refine⟨r.val,r.heap,h.2,?_⟩;simp only[];exact⟨h.1,by simp⟩
  exact h.elim
 .rename_i f hf;split at h
  .rename_i k pre post hk;obtain⟨v,H',hc,hK⟩:=h;refine⟨v,H',hK,?_⟩;simp only[];exact⟨v,H',hc,rfl,rfl⟩
  exact h.elim
 exact h.elim
theorem WPop.det {o:Op} {st:St} {K:PV->List Ob->Prop} (h:WPop P T o st K): ∃ v H,K v H/\WPop P T o st (fun v2 H2=>v2=v/\H2=H):=by
 unfold WPop at h ⊢;split at h
 .exact WPcall.det h
 split at h
 .rename_i r hr;refine⟨r.val,r.heap,h.2,?_⟩;simp only[];exact⟨h.1,by simp⟩
 exact h.elim
theorem WPops.det {all:Array Oper}: ∀ (l:List Oper) {st:St} {K:St->Prop},WPops P T all l st K-> ∃ st',K st'/\WPops P T all l st (fun s=>s=st')
 | [],st,K,h=>⟨st,h,rfl⟩
 | o::rest,st,K,h=>by
  unfold WPops at h;split at h
  .rename_i hg;obtain⟨v,H,h1,h2⟩:=WPop.det h;obtain⟨s,hs,h3⟩:=WPops.det rest h1;refine⟨s,hs,?_⟩;unfold WPops;simp only[hg];exact WPop.mono (fun v2 H2 e=>by obtain⟨rfl,rfl⟩:=e;exact h3) h2
  rename_i j want hg;split at h
  .rename_i t ht;split at h
   .rename_i b hb;by_cases La:b=want
    .obtain⟨v,H,h1,h2⟩:=WPop.det (h.1 La);obtain⟨s,hs,h3⟩:=WPops.det rest h1;refine⟨s,hs,?_⟩;unfold WPops;simp only[hg,ht,hb];exact⟨fun _=>WPop.mono (fun v2 H2 e=>by obtain⟨rfl,rfl⟩:=e;exact h3) h2,fun e=>by subst La;cases b<;>simp at e⟩
    have hbn:b=!want:=by cases b<;>cases want<;>simp_all
    obtain⟨s,hs,h3⟩:=WPops.det rest (h.2 hbn);refine⟨s,hs,?_⟩;unfold WPops;simp only[hg,ht,hb];exact⟨fun e=>absurd e La,fun _=>h3⟩
   .rename_i hb;obtain⟨s,hs,h3⟩:=WPops.det rest h;refine⟨s,hs,?_⟩;unfold WPops;simp only[hg,ht,hb];exact h3
   exact h.elim
  exact h.elim
theorem WPdraw.det {all:Array Oper}: ∀ (l:List Oper) {st:St} {K:St->Prop},WPdraw P T all l st K-> ∃ st',K st'/\WPdraw P T all l st (fun s=>s=st')
 | [],st,K,h=>⟨st,h,rfl⟩
 | o::rest,st,K,h=>by
  unfold WPdraw at h;split at h
  .rename_i hg;obtain⟨v,H,⟨h0,h1⟩,h2⟩:=WPop.det h;obtain⟨s,hs,h3⟩:=WPdraw.det rest h1;refine⟨s,hs,?_⟩;unfold WPdraw;simp only[hg];exact WPop.mono (fun v2 H2 e=>by obtain⟨rfl,rfl⟩:=e;exact⟨h0,h3⟩) h2
  rename_i j want hg;split at h
  .rename_i t ht;split at h
   .rename_i b hb;by_cases La:b=want
    .obtain⟨v,H,⟨h0,h1⟩,h2⟩:=WPop.det (h.1 La);obtain⟨s,hs,h3⟩:=WPdraw.det rest h1;refine⟨s,hs,?_⟩;unfold WPdraw;simp only[hg,ht,hb];exact⟨fun _=>WPop.mono (fun v2 H2 e=>by obtain⟨rfl,rfl⟩:=e;exact⟨h0,h3⟩) h2,fun e=>by subst La;cases b<;>simp at e⟩
    have hbn:b=!want:=by cases b<;>cases want<;>simp_all
    obtain⟨s,hs,h3⟩:=WPdraw.det rest (h.2 hbn);refine⟨s,hs,?_⟩;unfold WPdraw;simp only[hg,ht,hb];exact⟨fun e=>absurd e La,fun _=>h3⟩
   .rename_i hb;obtain⟨s,hs,h3⟩:=WPdraw.det rest h;refine⟨s,hs,?_⟩;unfold WPdraw;simp only[hg,ht,hb];exact h3
   exact h.elim
  exact h.elim
theorem WPA.det: ∀ (cd:Code) {st:St} {Q:AExit->St->Prop},WPA P T m cd st Q-> ∃ e st',Q e st'/\WPA P T m cd st (fun e2 s2=>e2=e/\s2=st')
 | .skip,st,Q,h=>⟨_,_,h,rfl,rfl⟩
 | .label _,st,Q,h=>⟨_,_,h,rfl,rfl⟩
 | .exit _,st,Q,h=>⟨_,_,h,rfl,rfl⟩
 | .ret,st,Q,h=>⟨_,_,h,rfl,rfl⟩
 | .region n ops draw,st,Q,h=>by
  unfold WPA at h ⊢;split at h
  .rename_i hd;rcases h with⟨h0,ids,h1⟩ | ⟨s,h0,h1⟩
   .obtain⟨s,hs,h2⟩:=WPdraw.det _ h1;refine⟨.normal,s,hs,?_⟩;rw[if_pos hd];exact .inl ⟨h0,ids,WPdraw.mono (fun _ e=>⟨rfl,e⟩) _ h2⟩
   refine⟨.normal,s,h1,?_⟩;rw[if_pos hd];exact .inr ⟨s,h0,rfl,rfl⟩
  .rename_i hd;obtain⟨s,hs,h2⟩:=WPops.det _ h;refine⟨.normal,s,hs,?_⟩;rw[if_neg hd];exact WPops.mono (fun _ e=>⟨rfl,e⟩) _ h2
 | .scope x,st,Q,h=>by
  unfold WPA at h;obtain⟨e,s,h1,h2⟩:=WPA.det x h;refine⟨e,s,h1,?_⟩;unfold WPA;exact h2
 | .seq x y,st,Q,h=>by
  unfold WPA at h;obtain⟨e,s,h1,h2⟩:=WPA.det x h;cases e with
  | normal=>
   obtain⟨e2,s2,h3,h4⟩:=WPA.det y h1;refine⟨e2,s2,h3,?_⟩;unfold WPA;exact WPA.mono x (fun e3 s3 he=>by obtain⟨rfl,rfl⟩:=he;exact h4) h2
  | exit i=>
   refine⟨_,_,h1,?_⟩;unfold WPA;exact WPA.mono x (fun e3 s3 he=>by obtain⟨rfl,rfl⟩:=he;exact⟨rfl,rfl⟩) h2
  | ret=>
   refine⟨_,_,h1,?_⟩;unfold WPA;exact WPA.mono x (fun e3 s3 he=>by obtain⟨rfl,rfl⟩:=he;exact⟨rfl,rfl⟩) h2
 | .cond o x y,st,Q,h=>by
  unfold WPA at h;split at h
  .rename_i b hb;cases b with
   | true=>
    obtain⟨e,s,h1,h2⟩:=WPA.det x (h.1 rfl);refine⟨e,s,h1,?_⟩;unfold WPA;simp only[hb];exact⟨fun _=>h2,fun e=>by simp at e⟩
   | false=>
    obtain⟨e,s,h1,h2⟩:=WPA.det y (h.2 rfl);refine⟨e,s,h1,?_⟩;unfold WPA;simp only[hb];exact⟨fun e=>by simp at e,fun _=>h2⟩
  .exact h.elim
 | .block id x,st,Q,h=>by
  unfold WPA at h;obtain⟨e,s,h1,h2⟩:=WPA.det x h;cases e with
  | normal=>
   refine⟨_,_,h1,?_⟩;unfold WPA;exact WPA.mono x (fun e3 s3 he=>by obtain⟨rfl,rfl⟩:=he;exact⟨rfl,rfl⟩) h2
  | exit i=>
   by_cases hi:i=id
   .simp only[hi,if_true] at h1;refine⟨.normal,s,h1,?_⟩;unfold WPA;refine WPA.mono x (fun e3 s3 he=>?_) h2;obtain⟨rfl,rfl⟩:=he;simp[hi]
   .simp only[hi,if_false] at h1;refine⟨.exit i,s,h1,?_⟩;unfold WPA;refine WPA.mono x (fun e3 s3 he=>?_) h2;obtain⟨rfl,rfl⟩:=he;simp[hi]
  | ret=>
   refine⟨_,_,h1,?_⟩;unfold WPA;exact WPA.mono x (fun e3 s3 he=>by obtain⟨rfl,rfl⟩:=he;exact⟨rfl,rfl⟩) h2
 | .loop x,st,Q,h=>by
  unfold WPA at h;obtain⟨I,⟨n0,Qb,hw0,Cn⟩,dM⟩:=h;have key: ∀ n jO,I n jO-> ∃ e s,Q e s/\WPA P T m (.loop x) jO (fun e2 s2=>e2=e/\s2=s):=by
   intro n
   induction n using Nat.strongRecOn with
   | _ n ih=>
    intro jO hi;obtain⟨e,s,h1,h2⟩:=WPA.det x (dM n jO hi);cases e with
    | normal=>
     obtain⟨n',s',aL,hw,pj⟩:=h1;obtain⟨e2,s2,hq,hl⟩:=ih n' aL s' pj;refine⟨e2,s2,hq,?_⟩;unfold WPA at hl ⊢;obtain⟨J,⟨k0,t0,Qa,Iq⟩,hJ⟩:=hl;refine⟨fun k t=>(k=k0+1/\t=jO)\/(k<=k0/\J k t),⟨k0+1,jO,Weak.refl _ _,Or.inl ⟨rfl,rfl⟩⟩,?_⟩;intro k t hk;rcases hk with⟨rfl,rfl⟩ | ⟨hk,hj⟩
     .refine WPA.mono x (fun e3 s3 he=>?_) h2;obtain⟨rfl,rfl⟩:=he;exact⟨k0,t0,by omega,Weak.trans hw Qa,Or.inr ⟨qp _,Iq⟩⟩
     .refine WPA.mono x (fun e3 s3 he=>?_) (hJ k t hj);cases e3 with
      | normal=>
       obtain⟨k',t',om,hw',Uv⟩:=he;exact⟨k',t',om,hw',Or.inr ⟨by omega,Uv⟩⟩
      | exit i=>exact he
      | ret=>exact he
    | exit i=>
     refine⟨_,_,h1,?_⟩;unfold WPA;refine⟨fun k t=>k=0/\t=jO,⟨0,jO,Weak.refl _ _,rfl,rfl⟩,?_⟩;rintro k t ⟨rfl,rfl⟩;exact WPA.mono x (fun e3 s3 he=>by obtain⟨rfl,rfl⟩:=he;exact⟨rfl,rfl⟩) h2
    | ret=>
     refine⟨_,_,h1,?_⟩;unfold WPA;refine⟨fun k t=>k=0/\t=jO,⟨0,jO,Weak.refl _ _,rfl,rfl⟩,?_⟩;rintro k t ⟨rfl,rfl⟩;exact WPA.mono x (fun e3 s3 he=>by obtain⟨rfl,rfl⟩:=he;exact⟨rfl,rfl⟩) h2
  obtain⟨e,s,hq,hl⟩:=key n0 Qb Cn;refine⟨e,s,hq,?_⟩;unfold WPA at hl ⊢;obtain⟨J,⟨k0,t0,Qa,Iq⟩,hJ⟩:=hl;exact⟨J,⟨k0,t0,Weak.trans hw0 Qa,Iq⟩,hJ⟩
def Wi (T:Tab) (rs:List ResultVar) (m:Nat) (R:List Ob->PV->Prop) (e:AExit) (st:St):Prop:=match e with | .exit _=>False | _=> ∃ H1 res,R H1 res/\RetOK T rs m st H1 res
theorem A8 {rs:List ResultVar} {R:List Ob->PV->Prop} {st:St} {u:cZ _}:Ap (Wi T rs m R) .normal st u= ∃ H1 res,R H1 res/\RetOK T rs m st H1 res:=rfl
theorem iL {rs:List ResultVar} {R:List Ob->PV->Prop} {st:St} {u:cZ _}:Ap (Wi T rs m R) .ret st u= ∃ H1 res,R H1 res/\RetOK T rs m st H1 res:=rfl
theorem S5 (hT:cQ P T) (hm:P.follows .mixedOrders=true) {k:FuncId} {fn:Func} {cd:Code} (hf:P.funcs[k]?=some fn) (hb:fn.body=some cd) (mF:(fn.name== "runtime.NumGoroutine")=false)
 {H0:List Ob} {args:List PV} {R:List Ob->PV->Prop} {rs:List ResultVar} (hr:fn.results=List.toArray rs) {n:Nat} (hn:fn.ntmps - args.length=n) {env:List PV} (he:args++replicate n .any=env) {m:Nat} (MZ:H0.length=m)
 (h:WA P T m cd ⟨env,H0⟩ (Wi T rs m R) ⟨⟩): ∃ H1 res,R H1 res/\Den P k H0 args H1 res:=by
 obtain⟨e,st,hq,hw⟩:=WPA.det cd h
 cases e with
 | normal=>
  obtain⟨H1,res,hR,T7⟩:=hq;exact⟨H1,res,hR,Kn hT hm hf hb mF hr hn he MZ (WPA.mono cd (fun e2 s2 hh=>by obtain⟨rfl,rfl⟩:=hh;exact T7) hw)⟩
 | exit i=>exact hq.elim
 | ret=>
  obtain⟨H1,res,hR,T7⟩:=hq;exact⟨H1,res,hR,Kn hT hm hf hb mF hr hn he MZ (WPA.mono cd (fun e2 s2 hh=>by obtain⟨rfl,rfl⟩:=hh;exact T7) hw)⟩
end Go.AM
namespace Go.AM
theorem Weak.nil {m:Nat} {env:List PV} {H:List Ob} {st':St} (t s:Nat) (hs:0<s) (ht:env[t]?=some .nilsl) (h2:Weak m ⟨env.set t (.lsl H.length 0 0 s),H++[.row true []]⟩ st'):Weak m ⟨env,H⟩ st':=by
 intro c a w jM ⟨X,ρ,h,q8,hd,XC⟩;refine h2 c a w jM ⟨X,ρ++[some ⟨none,0,s,0⟩],?_,?_,hd,XC⟩
 .have dP:ρ.Le (ρ++[some ⟨none,0,s,0⟩]):=Places.Le.append ρ _;have key: ∀ (id:Nat) p o,(ρ++[some ⟨none,0,s,0⟩])[id]?=some (some p)->(H++[Ob.row true []])[id]?=some o->(ρ[id]?=some (some p)/\H[id]?=some o)\/(p=⟨none,0,s,0⟩/\o= .row true []):=by
   intro id p o hp ho;by_cases aL:id<ρ.length
   .rw[qi aL] at hp;rw[qi (by rw[<-h.len];exact aL)] at ho;exact .inl ⟨hp,ho⟩
   rw[getElem?_append_right (by omega)] at hp;rw[getElem?_append_right (by rw[<-h.len];omega),<-h.len] at ho;right;cases hi:id - ρ.length with
   | zero=>rw[hi] at hp ho;simp at hp ho;exact⟨hp.symm,ho.symm⟩
   | succ j=>rw[hi] at hp;simp at hp
  refine⟨by simp[h.len],?_,?_,?_,h.xo,h.xlt,h.ge,h.base.trans dP⟩
  .intro id p o hp ho;rcases key id p o hp ho with⟨h3,h4⟩ | ⟨rfl,rfl⟩
   .exact(h.ob id p o h3 h4).keep (Same.refl X w) (fun _ _ hx=>hx) dP (fun _ g _ _=>⟨rfl,Iff.rfl⟩)
   exact⟨⟨hs,by simp,[],by simpa [Place.val] using World.ownsRow_nil w 0 0 s,by simp⟩,by simp⟩
  .intro i j p q o r g hp hq ho hr h3 h4 h5 h6;rcases key i p o hp ho with⟨h7,h8⟩ | ⟨rfl,rfl⟩
   .rcases key j q r hq hr with⟨h9,sW⟩ | ⟨rfl,rfl⟩
    .exact h.inj i j p q o r g h7 h9 h8 sW h3 h4 h5 h6
    simp at h6
   simp at h5
  intro id p o g hp ho h3 h4;rcases key id p o hp ho with⟨h7,h8⟩ | ⟨rfl,rfl⟩
  .exact h.own id p o g h7 h8 h3 h4
  simp at h4
 have dP:ρ.Le (ρ++[some ⟨none,0,s,0⟩]):=Places.Le.append ρ _;have aib:=q8.mono dP;refine⟨by rw[length_set];exact q8.1,fun i v x hv hx=>?_⟩;by_cases hi:t=i
 .subst hi;rw[qv (List.getElem?_eq_some_iff.1 ht).1] at hx;cases hx;have:=q8.2 t v _ hv ht;cases this with
  | nilsl=>
   exact .lsl0 H.length ⟨none,0,s,0⟩ (by rw[<-h.len];simp) rfl
 rw[getElem?_set_ne hi] at hx;exact aib.2 i v x hv hx
section
variable {P:Program} {T:Tab}
def akh (T:Tab) (rs:List ResultVar) (e:AExit) (st:St):Prop:=match e with | .exit _=>False | _=> ∃ cd,gW T st rs=some (cd,[.clip []])/\cd
theorem afX (hT:cQ P T) (hm:P.follows .mixedOrders=true) {k:FuncId} {fn:Func} {cd:Code} (hf:P.funcs[k]?=some fn) (hb:fn.body=some cd) (mF:(fn.name== "runtime.NumGoroutine")=false)
 {args:List PV} {rs:List ResultVar} (hr:fn.results=List.toArray rs) {n:Nat} (hn:fn.ntmps - args.length=n) {env:List PV} (he:args++replicate n .any=env)
 (h:WA P T 0 cd ⟨env,[]⟩ (akh T rs) ⟨⟩):Den P k [] args [] (.clip []):=by
 subst hn;subst he
 refine⟨⟨fn,cd,hf,hb,mF⟩,fun c X ρ vs hh hM fh=>?_⟩
 have ZC:ρ=[]:=List.eq_nil_of_length_eq_zero hh.len
 subst ZC
 refine calls_of_wp hf hb ?_
 let c2:gZ:={c with base:=[]}
 have hh2:HRd c2 c.w0 X [] []:=⟨hh.len,hh.ob,hh.inj,hh.own,hh.xo,hh.xlt,hh.ge,Places.Le.refl []⟩
 have hs:SRd c2 ⟨args++replicate (fn.ntmps - args.length) .any,[]⟩ {tmps:=vs++Array.replicate (fn.ntmps - vs.size) undef,defers:=[]} c.w0:=by
  refine⟨X,[],hh2,⟨by simp[fh.1],fun i v x hv hx=>?_⟩,rfl,Keeps.refl c2⟩;by_cases hi:i<vs.size
  .rw[Array.getElem?_append_left hi] at hv;rw[qi (by rw[<-fh.1];exact hi)] at hx;exact fh.2 i v x hv hx
  rw[getElem?_append_right (by rw[<-fh.1];omega),List.getElem?_replicate] at hx;split at hx
  .cases hx;exact .any _
  cases hx
 have fin: ∀ st' a' w',(∃ cd,gW T st' rs=some (cd,[.clip []])/\cd)->SRd c2 st' a' w'->a'.defers=[]/\ ∃ v,(results fn a'.tmps).run P w'= .ok v w'/\ ∃ v2 X' ρ',Ending.returned v= .returned v2/\Keeps c w'/\HRd c w' X' ρ' []/\PRd w' X' ρ' v2 (.clip [])/\
  Places.Le [] ρ'/\(∀ (id:Nat) p,([]:Places).length<=id->ρ'[id]?=some (some p)-> ∀ g,p.b=some g->c.w0.heap.size<=g):=by
  intro st' a' w' ⟨cd',au,lS⟩ ⟨X',ρ',h',PU,hd',yY⟩
  obtain⟨u,dC,hu⟩:=qQ hT h' PU (by rw[hr];exact au) lS
  refine⟨hd',u,dC,u,X',[],rfl,⟨⟨yY.os,yY.tape,yY.output,yY.size,yY.block⟩,yY.drawn⟩,⟨rfl,by simp,by simp,by simp,h'.xo,h'.xlt,h'.ge,hh.base⟩,?_,Places.Le.refl _,by simp⟩
  change PRd w' X' ρ' u (.clip []) at hu
  cases hu with
  | clip a n _ hf=>exact .clip a n _ hf
 refine gk hT hm (m:=0) (by show([]:Places).length<=_;exact qp _) cd h hs (fun e st' a' w' he w9=>?_)
 cases e with
 | normal=>exact fin st' a' w' he w9
 | ret=>exact fin st' a' w' he w9
 | exit id=>exact he.elim
def afY (T:Tab) (rs:List ResultVar) (e:AExit) (st:St):Prop:=match e with | .exit _=>False | _=> ∃ cd,gW T st rs=some (cd,[.nilsl])/\cd
theorem xK {rs:List ResultVar} {st:St} {u:cZ _}:Ap (afY T rs) .ret st u= ∃ cd,gW T st rs=some (cd,[.nilsl])/\cd:=rfl
theorem MY (hT:cQ P T) (hm:P.follows .mixedOrders=true) {k:FuncId} {fn:Func} {cd:Code} (hf:P.funcs[k]?=some fn) (hb:fn.body=some cd) (mF:(fn.name== "runtime.NumGoroutine")=false)
 {args:List PV} {rs:List ResultVar} (hr:fn.results=List.toArray rs) {n:Nat} (hn:fn.ntmps - args.length=n) {env:List PV} (he:args++replicate n .any=env)
 (h:WA P T 0 cd ⟨env,[]⟩ (afY T rs) ⟨⟩) (s:Nat) (DT:0<s):Den P k [] args [.row true []] (.lsl 0 0 0 s):=by
 subst hn;subst he
 refine⟨⟨fn,cd,hf,hb,mF⟩,fun c X ρ vs hh hM fh=>?_⟩
 have ZC:ρ=[]:=List.eq_nil_of_length_eq_zero hh.len
 subst ZC
 refine calls_of_wp hf hb ?_
 let c2:gZ:={c with base:=[]}
 have hh2:HRd c2 c.w0 X [] []:=⟨hh.len,hh.ob,hh.inj,hh.own,hh.xo,hh.xlt,hh.ge,Places.Le.refl []⟩
 have hs:SRd c2 ⟨args++replicate (fn.ntmps - args.length) .any,[]⟩ {tmps:=vs++Array.replicate (fn.ntmps - vs.size) undef,defers:=[]} c.w0:=by
  refine⟨X,[],hh2,⟨by simp[fh.1],fun i v x hv hx=>?_⟩,rfl,Keeps.refl c2⟩;by_cases hi:i<vs.size
  .rw[Array.getElem?_append_left hi] at hv;rw[qi (by rw[<-fh.1];exact hi)] at hx;exact fh.2 i v x hv hx
  rw[getElem?_append_right (by rw[<-fh.1];omega),List.getElem?_replicate] at hx;split at hx
  .cases hx;exact .any _
  cases hx
 have fin: ∀ st' a' w',(∃ cd,gW T st' rs=some (cd,[.nilsl])/\cd)->SRd c2 st' a' w'->a'.defers=[]/\ ∃ v,(results fn a'.tmps).run P w'= .ok v w'/\ ∃ v2 X' ρ',Ending.returned v= .returned v2/\Keeps c w'/\HRd c w' X' ρ' [.row true []]/\PRd w' X' ρ' v2 (.lsl 0 0 0 s)/\
  Places.Le [] ρ'/\(∀ (id:Nat) p,([]:Places).length<=id->ρ'[id]?=some (some p)-> ∀ g,p.b=some g->c.w0.heap.size<=g):=by
  intro st' a' w' ⟨cd',au,lS⟩ ⟨X',ρ',h',PU,hd',yY⟩
  obtain⟨u,dC,hu⟩:=qQ hT h' PU (by rw[hr];exact au) lS
  refine⟨hd',u,dC,u,X',[some ⟨none,0,s,0⟩],rfl,⟨⟨yY.os,yY.tape,yY.output,yY.size,yY.block⟩,yY.drawn⟩,⟨rfl,?_,?_,?_,h'.xo,h'.xlt,h'.ge,hh.base.trans (Places.Le.append [] _)⟩,?_,Places.Le.append [] _,?_⟩
  .intro id p o hp ho
   cases id with
   | succ j=>simp at hp
   | zero=>
    simp at hp ho;subst hp;subst ho;exact⟨⟨DT,by simp,[],by simpa [Place.val] using World.ownsRow_nil w' 0 0 s,by simp⟩,by simp⟩
  .intro i j p q o r g hp hq ho hr h3 h4 h5 h6
   cases i with
   | succ j=>simp at hp
   | zero=>simp at hp;subst hp;cases h5
  .intro i p o g hp ho h3 h4
   cases i with
   | succ j=>simp at hp
   | zero=>simp at hp;subst hp;cases h4
  .change PRd w' X' ρ' u .nilsl at hu
   cases hu with
   | nilsl=>exact .lsl0 0 ⟨none,0,s,0⟩ rfl rfl
  intro id p _ hp g hg
  cases id with
  | succ j=>simp at hp
  | zero=>simp at hp;subst hp;cases hg
 refine gk hT hm (m:=0) (by show([]:Places).length<=_;exact qp _) cd h hs (fun e st' a' w' he w9=>?_)
 cases e with
 | normal=>exact fin st' a' w' he w9
 | ret=>exact fin st' a' w' he w9
 | exit id=>exact he.elim
end
theorem Den.empty' {P:Program} {k:FuncId} {pre post:List PV} {H1:List Ob} {res:PV} (h1:Den P k [] (pre++ .nilsl::post) H1 res) (h2: ∀ b o cap,Den P k [] (pre++ .fv (.lit (.slice (some ⟨b,o,none⟩) 0 cap))::post) H1 res):
 Den P k [] (pre++ .fv (.sl [])::post) H1 res:=by
 refine⟨h1.1,fun c X ρ vs hh hM fh=>?_⟩
 have aL:pre.length<vs.size:=by rw[fh.1];simp
 have hv:vs[pre.length]?=some vs[pre.length]:=by simp[aL]
 have hrd:=fh.2 pre.length vs[pre.length] (.fv (.sl [])) hv (by simp)
 generalize vs[pre.length]=v at hv hrd
 cases hrd with
 | fv _ _ hf=>
  cases hf with
  | nil=>exact h1.2 c X ρ vs hh hM (fh.swap (fun u hu=>by rw[hv] at hu;cases hu;exact .nilsl))
  | sl ad n cap s _ us hn hc mH h0=>
   have hn:n=0:=by simpa using hn.symm
   subst hn;obtain⟨b,o,sp⟩:=ad;cases h0;exact(h2 b o cap).2 c X ρ vs hh hM (fh.swap (fun u hu=>by rw[hv] at hu;cases hu;exact .fv _ _ (.lit _ rfl)))
end Go.AM
namespace Go.AM
def Plain (res:PV):Prop:= ∀ (w w':World) (X X':Nat->Prop) (ρ ρ':Places) (v:Value),PRd w X ρ v res->PRd w' X' ρ' v res
theorem Plain.lit (v:Value):Plain (.fv (.lit v)):=fun w w' X X' ρ ρ' u h=>by
 cases h with
 | fv _ _ hf=>cases hf with
  | lit _ h1=>exact .fv _ _ (.lit _ h1)
theorem Den.lendF {P:Program} {k:FuncId} {xs:List (List FV)} {n s:Nat} {post:List PV} {res:PV} (h:Den P k [] (.fv (.sl xs)::post) [] res) (hn:n=xs.length) (hp:Plain res) (T8: ∀ x∈post,Plain x):
 Den P k [.row true xs] (.lsl 0 0 n s::post) [.row true xs] res:=by
 subst hn
 refine⟨h.1,fun c X ρ vs hh hM fh=>?_⟩
 obtain⟨X1,h1,vu,lR⟩:=hh.shutIds [0]
 let c2:gZ:={w0:=c.w0,M:=fun _=>False,Xo:=c.Xo,base:=[],hxo:=fun b hb=>⟨(c.hxo b hb).1,fun h=>h⟩}
 have hh2:HRd c2 c.w0 X1 [] []:=⟨rfl,by simp,by simp,by simp,h1.xo,h1.xlt,h1.ge,Places.Le.refl _⟩
 have dQ:0<vs.size:=by rw[fh.1];simp
 have IX:vs[0]?=some vs[0]:=by simp[dQ]
 have am4:=fh.2 0 vs[0] (.lsl 0 0 xs.length s) IX rfl
 have Qc:FRd c.w0 X1 vs[0] (.sl xs):=by
  refine m7 (H:=[.row true xs]) hh (fun j o ho=>ho) am4 (by simp[dZ]) vu (fun id eD p o g hp ho ha hg=>lR id (by simpa [fN] using eD) p o g hp ho ha hg)
 have am5:PRds c.w0 X1 [] vs (.fv (.sl xs)::post):=by
  refine⟨by rw[fh.1];simp,fun i v x hv hx=>?_⟩;cases i with
  | zero=>
   simp at hx;subst hx;rw[IX] at hv;cases hv;exact .fv _ _ Qc
  | succ i=>
   have qW:post[i]?=some x:=by simpa using hx
   exact T8 x (List.mem_of_getElem? qW) _ _ _ _ _ _ _ (fh.2 (i+1) v x hv (by simpa using qW))
 refine(h.2 c2 X1 [] vs hh2 (fun b hb=>hb.elim) am5).mono (fun e w' ack=>?_)
 obtain⟨v,X',ρ',he,hk,hr,Cc,dP,kW⟩:=ack
 have vE: ∀ b,b<c.w0.heap.size->w'.heap[b]?=c.w0.heap[b]?:=fun b hb=>hk.block b hb (fun h=>h)
 have fA:Same X c.w0 w':=⟨hk.size,fun b hb _=>vE b hb⟩
 refine⟨v,X,ρ,he,⟨⟨hk.os,hk.tape,hk.output,hk.size,fun b hb _=>vE b hb⟩,hk.drawn⟩,⟨hh.len,fun id p o h2 h3=>(hh.ob id p o h2 h3).keep fA (fun _ _ h=>h) (Places.Le.refl _) (fun _ g _ hg=>⟨vE g hg,Iff.rfl⟩),hh.inj,
  fun id p o g h2 h3 h4 h5=>⟨(hh.own id p o g h2 h3 h4 h5).1,Nat.lt_of_lt_of_le (hh.own id p o g h2 h3 h4 h5).2 hk.size⟩,hh.xo,fun b hb=>Nat.lt_of_lt_of_le (hh.xlt b hb) hk.size,hk.size,hh.base⟩,hp _ _ _ _ _ _ _ Cc,Places.Le.refl _,fun id p h2 h3=>?_⟩
 have:=(List.getElem?_eq_some_iff.1 h3).1
 omega
theorem Weak.shut {m:Nat} {env:List PV} {H:List Ob} {st':St} (ids:List Nat) (h2:Weak m ⟨env,shutIds ids H⟩ st'):Weak m ⟨env,H⟩ st':=fun c a w jM h=>h2 c a w jM (h.shut ids)
theorem Weak.fz {m:Nat} {env:List PV} {H:List Ob} {st':St} (t id off len s:Nat) (xs:List (List FV)) (ht:env[t]?=some (.lsl id off len s)) (ho:H[id]?=some (.row false xs)) (hl:off+len<=xs.length)
 (h2:Weak m ⟨env.set t (.fv (.sl ((xs.drop off).take len))),H⟩ st'):Weak m ⟨env,H⟩ st':=by
 intro c a w jM ⟨X,ρ,h,q8,hd,XC⟩
 refine h2 c a w jM ⟨X,ρ,h,⟨by rw[length_set];exact q8.1,fun i v x hv hx=>?_⟩,hd,XC⟩
 by_cases hi:t=i
 .subst hi
  rw[qv (List.getElem?_eq_some_iff.1 ht).1] at hx
  cases hx
  refine .fv _ _ (m7 (H:=H) h (fun j o h=>h) (q8.2 t v _ hv ht) (by simp[dZ,ho,hl]) (fun b h=>h) (fun Np eD p o g hp fE ha hg=>?_))
  simp only[fN,qz] at eD
  subst eD
  rw[ho] at fE
  cases fE
  have:=(h.ob Np p _ hp ho).2 g hg
  exact fun hx=>by have:=this.2 hx;cases this
 rw[getElem?_set_ne hi] at hx
 exact q8.2 i v x hv hx
theorem afZ {H:List Ob} {id off n s:Nat}:shutBs H id [.lsl id off n s]=H:=by simp[shutBs,yd,shutIds]
theorem Pa {H:List Ob} {id off n s:Nat}:yc H id [.lsl id off n s]=some [.lsl 0 off n s]:=by simp[yc,YU]
theorem Ig: ∀ {α:Type} {l:List α} {i:Nat} {x:α},l[i]?=some x->l.set i x=l
 | _,[],_,_,h=>by simp at h
 | _,a::l,0,x,h=>by simp at h;subst h;rfl
 | _,a::l,i+1,x,h=>by simp only[List.set_cons_succ];rw[Ig (by simpa using h)]
theorem GoCall.show {P:Program} {env:List PV} {H:List Ob} {K:PV->List Ob->Prop} {k:FuncId} {id n s:Nat} {xs:List (List FV)} {res:PV} {t:cZ _} (hd:Den P k [] [.fv (.sl xs)] [] res) (hp:Plain res) (hn:n=xs.length)
 (ho:H[id]?=some (.row true xs)) (hk:K (reloc (lent id H.length) res) H):GoCall P ⟨env,H⟩ (some (k,[],[])) [.lsl id 0 n s] K t:=by
 refine vF id (hd.lendF (s:=s) hn hp (by simp)) ho rfl trivial (by simp[PV.refsTo]) (by simpa using Pa) ?_ ?_
 .simp only[nil_append,List.append_nil]
  rw[afZ];exact ho
 simp only[nil_append,List.append_nil,map_nil]
 rw[afZ]
 have:H.set id (relocOb (lent id H.length) (.row true xs))=H:=Ig (by simpa [relocOb] using ho)
 rw[this]
 exact hk
theorem Weak.fzb {m:Nat} {env:List PV} {H:List Ob} {st':St} (t id n:Nat) (cs:List PV) (ys:List FV) (ht:env[t]?=some (.lsl id 0 n 1)) (ho:H[id]?=some (.box false cs)) (hn:cs.length=n) (hf:l6 H cs=some ys)
 (vK: ∀ k∈cs.flatMap fN,∀ o,H[k]?=some o->o.rw=false) (h2:Weak m ⟨env.set t (.fv (.sl (ys.map fun x=>[x]))),H⟩ st'):Weak m ⟨env,H⟩ st':=by
 intro c a w jM ⟨X,ρ,h,q8,hd,XC⟩
 refine h2 c a w jM ⟨X,ρ,h,⟨by rw[length_set];exact q8.1,fun i v x hv hx=>?_⟩,hd,XC⟩
 by_cases hi:t=i
 .subst hi
  rw[qv (List.getElem?_eq_some_iff.1 ht).1] at hx
  cases hx
  have hrd:=q8.2 t v _ hv ht
  subst hn
  refine .fv _ _ ?_
  obtain⟨p,hp,ni,Uc⟩:=hrd.lslInv
  obtain⟨⟨g',us,kA,hh,hs,h1,hc⟩,hrw⟩:=h.ob id p _ hp ho
  rcases Uc with⟨hg,ow,_,_⟩ | ⟨g,og,hg,ow,hl,jf⟩
  .rw[hg] at kA;cases kA
  rw[hg] at kA
  injection kA with kA
  subst kA
  have hog:og=0:=by
   rcases jf with jf | jf
   .simpa using jf
   exact absurd rfl jf.2
  subst hog
  rw[ow]
  have aF:=gK hf
  have dh: ∀ (i j:Nat) x y,(ys.map fun x=>[x])[i]?=some x->x[j]?=some y->j=0/\ys[i]?=some y:=by
   intro i j x y hx hy;rw[List.getElem?_map] at hx;cases Xv:ys[i]? with
   | none=>rw[Xv] at hx;cases hx
   | some y0=>
    rw[Xv] at hx;cases hx;cases j with
    | zero=>simp at hy;exact⟨rfl,by rw[hy]⟩
    | succ j=>simp at hy
  refine .sl ⟨g,0,none⟩ cs.length (p.cap - 0) 1 _ (fun i _=>us.getD i undef) (by simp[aF]) (by omega) (by simp) rfl (fun _ hx=>by have:=(hrw g hg).2 hx;cases this) (fun _=>(Array.getElem?_eq_some_iff.1 hh).1) (fun i j x y hx hy=>?_) (fun i j x y hx hy=>?_)
  .obtain⟨rfl,Xv⟩:=dh i j x y hx hy
   have aL:i<us.size:=by rw[hs,<-aF];exact(List.getElem?_eq_some_iff.1 Xv).1
   simp only[Nat.mul_one,Nat.zero_add,Nat.add_zero]
   rw[cell_of_row w g i us _ _ hh]
   simp[aL]
  obtain⟨rfl,Xv⟩:=dh i j x y hx hy
  have aL:i<us.size:=by rw[hs,<-aF];exact(List.getElem?_eq_some_iff.1 Xv).1
  have Kx:i<cs.length:=by rw[<-hs];exact aL
  obtain⟨y',DZ,PK⟩:=mD hf i cs[i] (by simp[Kx])
  rw[Xv] at DZ;cases DZ
  have:=hc i us[i] cs[i] (by simp[aL]) (by simp[Kx])
  rw[show us.getD i undef=us[i] by simp[aL]]
  refine m7 h (fun j o h=>h) this PK (fun b hb=>hb) (fun k hk q o g2 hq fE ha fg hX=>?_)
  have I0:=vK k (List.mem_flatMap.2 ⟨cs[i],by simp,hk⟩) o fE
  have gM:=h.ob k q o hq fE
  cases o with
  | dead=>exact ha
  | tab _ _=>cases I0
  | row rw2 _=>have:=(gM.2 g2 fg).2 hX;rw[this] at I0;cases I0
  | box rw2 _=>have:=(gM.2 g2 fg).2 hX;rw[this] at I0;cases I0
 rw[getElem?_set_ne hi] at hx
 exact q8.2 i v x hv hx
end Go.AM
