/- The abstract machine:the end of a function,words,and the bounds of int. -/
import Derived.Test.YtjjbkjgifdhlcaaGreatT7
import Derived.KernelRfl
import Derived.Test.YtjjbkjgifdhlcaaGreatT1
open List (getElem?_append_right getElem?_set_ne length_set map_cons map_nil nil_append replicate)
namespace Go.AM
def mC (m:List Int):List PV:=m.map (fun n=>PV.int .i64 n)
theorem keyVs_mC: ∀ {m:List Int},keyVs (mC m)=some m
 | []=>rfl
 | n::m=>by
  have:=keyVs_mC (m:=m);unfold mC at this ⊢;simp only[map_cons,keyVs,this];rfl
def retQ (T:Tab) (rs:List ResultVar) (m:Nat) (H1:List Ob) (res:PV) (e:AExit) (st:St):Prop:=match e with | .exit _=>False | _=>RetOK T rs m st H1 res
section
variable {P:Program} {T:Tab}
theorem Ap_end_normal {rs:List ResultVar} {m:Nat} {H1:List Ob} {res:PV} {st:St} {u:Tok _}:Ap (retQ T rs m H1 res) .normal st u=RetOK T rs m st H1 res:=rfl
theorem Ap_end_ret {rs:List ResultVar} {m:Nat} {H1:List Ob} {res:PV} {st:St} {u:Tok _}:Ap (retQ T rs m H1 res) .ret st u=RetOK T rs m st H1 res:=rfl
theorem den_of (hT:TabOk P T) (hm:P.follows .mixedOrders=true) {k:FuncId} {fn:Func} {cd:Code} (hf:P.funcs[k]?=some fn) (hb:fn.body=some cd) (hname:(fn.name== "runtime.NumGoroutine")=false)
 {H0:List Ob} {args:List PV} {H1:List Ob} {res:PV} {rs:List ResultVar} (hr:fn.results=List.toArray rs) {n:Nat} (hn:fn.ntmps - args.length=n) {env:List PV} (he:args++replicate n .any=env) {m:Nat} (hm0:H0.length=m)
 (h:WA P T m cd ⟨env,H0⟩ (retQ T rs m H1 res) ⟨⟩):Den P k H0 args H1 res:=by
 subst hn;subst he;subst hm0
 refine den_of_wpa hT hm hf hb hname ?_
 rw[hr]
 refine WPA.mono cd (fun e st hq=>?_) h
 cases e<;>exact hq
theorem rpq {st:St} {rs:List ResultVar} {res:PV} {cd:Prop} {vs:List PV} (h1:resVs T st rs=some (cd,vs)) (hc:cd) (h2:fzX st.heap [] (oneRes vs)=some res):RetOK T rs 0 st [] res:=
 ⟨cd,vs,[],h1,hc,List.nodup_nil,fun i hi=>absurd hi (Nat.not_lt_zero i),h2,rfl,fun j id hj=>by simp at hj,fun o ho=>by simp at ho⟩
theorem RetOK.own {st:St} {rs:List ResultVar} {id len s:Nat} {xs:List (List FV)} {cd:Prop} (h1:resVs T st rs=some (cd,[.lsl id 0 len s])) (hc:cd) (h2:st.heap[id]?=some (.row true xs)):
 RetOK T rs 0 st [.row true xs] (.lsl 0 0 len s):=by
 refine⟨cd,[.lsl id 0 len s],[id],h1,hc,by simp,fun i hi=>absurd hi (Nat.not_lt_zero i),?_,rfl,fun j k hj=>?_,fun o ho=>?_⟩
 ·simp[oneRes,fzX,fzV,fzC,List.idxOf?_cons]
 ·cases j with
  | zero=>
   simp at hj;subst hj;simp[oneRes,idsX,idsV,idsC,List.idxOf?_cons,shutIds,h2]
  | succ j=>simp at hj
 ·simp at ho;subst ho;exact⟨tvq,rfl⟩
end
theorem Den.freeze {P:Program} {k:FuncId} {args:List PV} {obs:List Ob} {res res':PV} (h:Den P k [] args obs res) (hf:fzX obs [] res=some res'):Den P k [] args [] res':=by
 refine⟨h.1,fun c X ρ vs hh hM hvs=>?_⟩;have hρ0:ρ=[]:=List.eq_nil_of_length_eq_zero hh.len;subst hρ0;refine(h.2 c X [] vs hh hM hvs).mono (fun e w' hpost=>?_);obtain⟨v,X',ρ',he,hk,hr,hp,hle,hnew⟩:=hpost;obtain⟨X1,h1,hs1,hn1⟩:=hr.shutIds (idsX obs [] res);refine⟨v,X1,[],he,hk,⟨rfl,by simp,by simp,by simp,h1.xo,h1.xlt,h1.ge,hh.base⟩,?_,Places.Le.refl _,by simp⟩;exact fzX_rd hr hp hf hs1 hn1 (fun id j p hj=>by simp at hj)
theorem PRds.swap {w:World} {X:Nat->Prop} {ρ:Places} {vs:Array Value} {pre post:List PV} {x y:PV} (h:PRds w X ρ vs (pre++x::post)) (hy: ∀ v,vs[pre.length]?=some v->PRd w X ρ v y):PRds w X ρ vs (pre++y::post):=by
 refine⟨by rw[h.1];simp,fun i v z hv hz=>?_⟩;by_cases hi:i=pre.length
 ·subst hi;rw[getElem?_append_right (qp _),Nat.sub_self] at hz;simp only[List.getElem?_cons_zero,qo] at hz;subst hz;exact hy v hv
 ·refine h.2 i v z hv ?_;rw[<-hz];rcases Nat.lt_or_gt_of_ne hi with h1 | h1
  ·rw[qi h1,qi h1]
  ·rw[getElem?_append_right (by omega),getElem?_append_right (by omega)];obtain⟨j,hj⟩: ∃ j,i - pre.length=j+1:=⟨i - pre.length - 1,by omega⟩;rw[hj];rfl
theorem Den.empty {P:Program} {k:FuncId} {pre post:List PV} {H1:List Ob} {res:PV} (h1:Den P k [] (pre++ .nilsl::post) H1 res) (h2: ∀ ad cap,Den P k [] (pre++ .fv (.lit (.slice (some ad) 0 cap))::post) H1 res):
 Den P k [] (pre++ .fv (.sl [])::post) H1 res:=by
 refine⟨h1.1,fun c X ρ vs hh hM hvs=>?_⟩
 have hlt:pre.length<vs.size:=by rw[hvs.1];simp
 have hv:vs[pre.length]?=some vs[pre.length]:=by simp[hlt]
 have hrd:=hvs.2 pre.length vs[pre.length] (.fv (.sl [])) hv (by simp)
 generalize vs[pre.length]=v at hv hrd
 cases hrd with
 | fv _ _ hf=>
  cases hf with
  | nil=>exact h1.2 c X ρ vs hh hM (hvs.swap (fun u hu=>by rw[hv] at hu;cases hu;exact .nilsl))
  | sl ad n cap s _ us hn hc=>
   have hn:n=0:=by simpa using hn.symm
   subst hn;exact(h2 ad cap).2 c X ρ vs hh hM (hvs.swap (fun u hu=>by rw[hv] at hu;cases hu;exact .fv _ _ (.lit _ rfl)))
theorem shutIds_nil' {H:List Ob}:shutIds [] H=H:=rfl
theorem shutIds_cons' {H:List Ob} {id:Nat} {ids:List Nat}:shutIds (id::ids) H=shutIds ids (shut H id):=rfl
theorem wrap64 {x:Int} (h: -9223372036854775808<=x/\x<9223372036854775808):IntKind.i64.wrap x=x:=by
 simp[IntKind.wrap,IntKind.bits,IntKind.signed];split<;>omega
theorem wrap32 {x:Int}:IntKind.u32.wrap x=x % 4294967296:=by simp[IntKind.wrap,IntKind.bits,IntKind.signed]
theorem wrapU64 {x:Int}:IntKind.u64.wrap x=x % 18446744073709551616:=by simp[IntKind.wrap,IntKind.bits,IntKind.signed]
theorem wrap32c {x:Int} (h:0<=x/\x<4294967296):IntKind.u32.wrap x=x:=by rw[wrap32];omega
theorem wrapU64c {x:Int} (h:0<=x/\x<18446744073709551616):IntKind.u64.wrap x=x:=by rw[wrapU64];omega
theorem wrapU8c {x:Int} (h:0<=x/\x<256):IntKind.u8.wrap x=x:=by
 simp[IntKind.wrap,IntKind.bits,IntKind.signed];omega
theorem fdivc {x b:Int} (h:0<=b):x.fdiv b=x / b:=Int.fdiv_eq_ediv_of_nonneg x h
theorem tdivc {x b:Int} (h:0<=x):x.tdiv b=x / b:=Int.tdiv_eq_ediv_of_nonneg h
theorem tmodc {x b:Int} (h:0<=x):x.tmod b=x % b:=Int.tmod_eq_emod_of_nonneg h
def u32s (l:List Nat):List (List FV):=l.map fun(n:Nat)=>[.lit (.int .u32 (n:Int))]
theorem u32s_length {l:List Nat}:(u32s l).length=l.length:=by simp[u32s]
theorem u32s_getD {l:List Nat} {i:Nat} (h:i<l.length):(u32s l).getD i []=[.lit (.int .u32 ((l.getD i 0:Nat):Int))]:=by
 simp[u32s,h]
theorem u32s_set {l:List Nat} {i:Nat} {x:Int} (h:0<=x):(u32s l).set i [.lit (.int .u32 x)]=u32s (l.set i x.toNat):=by
 have:((x.toNat:Nat):Int)=x:=Int.toNat_of_nonneg h;simp[u32s,List.map_set,this]
theorem u32s_take {l:List Nat} {n:Nat}:(u32s l).take n=u32s (l.take n):=by simp[u32s,List.map_take]
theorem u32s_drop {l:List Nat} {n:Nat}:(u32s l).drop n=u32s (l.drop n):=by simp[u32s,List.map_drop]
theorem u32s_append {l k:List Nat}:u32s l++u32s k=u32s (l++k):=by simp[u32s]
theorem u32s_zeros {n:Nat}:replicate n [FV.lit (.int .u32 0)]=u32s (replicate n 0):=by simp[u32s]
theorem u32s_size {l:List Nat}:(∀ y∈u32s l,y.length=1)=True:=by
 simp only[eq_iff_iff,iff_true];intro y hy;simp only[u32s,qq] at hy;obtain⟨n,_,rfl⟩:=hy;rfl
end Go.AM
namespace Go.AM
set_option maxRecDepth 100000
abbrev rules0:=qy @WA_seq (qy @WA_skip (qy @WA_label (qy @WA_exit (qy @WA_ret (qy @WA_block (qy @WA_cond (qy @WA_region (qy @WA_draw (qy @Ap_seq_normal (qy @Ap_seq_exit (qy @Ap_seq_ret (qy @Ap_block_normal (qy @Ap_block_exit (qy @Ap_block_ret (qy @Ap_loop_exit (qy @Ap_loop_ret (qy @Ap_cut_normal (qy @Ap_cut_exit (@Ap_cut_ret)))))))))))))))))))
abbrev rules1:=qy @WO_nil (qy @WO_none (qy @WO_some (qy @WD_nil (qy @WD_none (qy @WD_some (qy @dK_store (qy @dK_else (qy @Grown_self (qy @Grown_append (qy @Grown_nil (qy @Grown_cons (qy @Br_true (qy @Br_false (qy @condV_bool (qy @guardK_t (qy @guardK_f (qy @guardK_tup (qy @guardT_zero (@guardT_succ)))))))))))))))))))
abbrev rules2:=qy @updE_some (qy @updE_none (qy @Aft_some (qy @Aft_pure (qy @Aft_if (qy @ev_tmp (qy @ev_const (qy @ev_func (qy @of_int (qy @of_bool (qy @of_nil (qy @of_nilFunc (qy @of_nilPtr (qy @W1_move (qy @W1_assign (qy @W1_pick (qy @rPick_bool (qy @W1_alloc (qy @W1_box (@W1_build)))))))))))))))))))
abbrev rules3:=qy @W1_buildSlice (qy @W1_load (qy @W1_store (qy @W1_nilCheck (qy @W1_makeMap (qy @W1_lookup (qy @W1_mapUpdate (qy @keyVs_mC (qy @W1_binOp (qy @rLit_some (qy @rLit_none (qy @W1_unOp (qy @W1_convert (qy @W1_makeSlice (qy @W1_slice (qy @W1_fieldAddr (qy @W1_field (qy @W1_indexAddr (qy @W1_index (@W1_extract)))))))))))))))))))
abbrev rules4:=qy @W1_makeFunc (qy @W1_lenc (qy @W1_clearc (qy @W1_bi (qy @biRes_lenv (qy @biRes_append (qy @biRes_max (qy @biRes_min (qy @biRes_clear (qy @toL (qy @W1_value (qy @fnOf_func (qy @fnOf_fn (qy @fnOf_meth (qy @of_aggb (qy @of_aggi (qy @shutIds_nil' (qy @shutIds_cons' (qy @List.modify_zero_cons.{0} (@List.modify_succ_cons.{0})))))))))))))))))))
abbrev rules5:=qy @List.flatMap_cons.{0,0} (qy @List.flatMap_nil.{0,0} (qy @List.flatten_cons.{0} (qy @List.flatten_nil.{0} (qy @List.set_cons_zero.{0} (qy @List.set_cons_succ.{0} (qy @List.getD_cons_zero.{0} (qy @List.getD_cons_succ.{0} (qy @List.getElem?_cons_zero.{0} (qy @List.getElem?_cons_succ.{0} (qy @List.length_cons.{0} (qy @List.length_nil.{0} (qy @List.cons_append.{0} (qy @nil_append.{0} (qy @List.replicate_succ.{0} (qy @List.replicate_zero.{0} (qy @Bool.false_eq_true (qy @true_and (qy @and_true (@List.headD_cons.{0})))))))))))))))))))
abbrev rules6:=qy @List.take_succ_cons.{0} (qy @List.take_zero.{0} (qy @List.take_nil.{0} (qy @List.drop_zero.{0} (qy @List.drop_succ_cons.{0} (qy @Int.toNat_natCast (qy @Nat.zero_add (qy @u32s_length (qy @u32s_getD (qy @u32s_set (qy @u32s_take (qy @u32s_drop (qy @u32s_append (qy @u32s_zeros (qy @u32s_size (qy @List.getD_nil.{0} (qy @map_cons.{0,0} (qy @map_nil.{0,0} (qy @Option.map_none.{0,0} (@Option.map_some.{0,0})))))))))))))))))))
abbrev rules7:=qy @Ob.ro.eq_def (qy @PV.asInt.eq_def (qy @PV.cells.eq_def (qy @Tab.arN.eq_def (qy @Tab.isBool.eq_def (qy @Tab.isSl.eq_def (qy @TyI.isAgg.eq_def (qy @appT.eq_def (qy @arrV.eq_def (qy @asI.eq_def (qy @binInt.eq_def (qy @binInts.eq_def (qy @binShift.eq_def (qy @binV.eq_def (qy @bound.eq_def (qy @cellsAt.eq_def (qy @clip3.eq_def (qy @elemP.eq_def (qy @fz0.eq_def (@ids0.eq_def)))))))))))))))))))
abbrev rules8:=qy @ids1.eq_def (qy @idsA.eq_def (qy @isI64.eq_def (qy @isNilZ.eq_def (qy @isStore.eq_def (qy @keyV.eq_def (qy @lenA.eq_def (qy @lenOf.eq_def (qy @litC.eq_def (qy @litV.eq_def (qy @nilV.eq_def (qy @noneV.eq_def (qy @oneOr.eq_def (qy @rAlloc.eq_def (qy @rAppend.eq_def (qy @rBox.eq_def (qy @rBuild.eq_def (qy @rBuildSlice.eq_def (qy @rClear.eq_def (@rConv.eq_def)))))))))))))))))))
abbrev rules9:=qy @rExtract.eq_def (qy @rField.eq_def (qy @rFieldAddr.eq_def (qy @rIndex.eq_def (qy @rIndexAddr.eq_def (qy @rLen.eq_def (qy @rLoad.eq_def (qy @rLookup.eq_def (qy @rMake.eq_def (qy @rMakeFunc.eq_def (qy @rMakeMap.eq_def (qy @rMapUpdate.eq_def (qy @rMax.eq_def (qy @rMin.eq_def (qy @rNil.eq_def (qy @rNilC.eq_def (qy @rSlice.eq_def (qy @rStore.eq_def (qy @rUn.eq_def (@reloc.eq_def)))))))))))))))))))
abbrev rules10:=qy @reloc1.eq_def (qy @relocOb.eq_def (qy @room.eq_def (qy @selfV.eq_def (qy @shut.eq_def (qy @shutAll.eq_def (qy @shutAs.eq_def (qy @splice.eq_def (qy @srcOf.eq_def (qy @storeAt.eq_def (qy @unV.eq_def (qy @fillP.eq_1 (qy @fillP.eq_2 (qy @groups.eq_1 (qy @groups.eq_2 (qy @fzs.eq_1 (qy @fzs.eq_2 (qy @litVs.eq_1 (qy @litVs.eq_2 (@litCs.eq_1)))))))))))))))))))
abbrev rules11:=@litCs.eq_2
abbrev rules:=qy rules0 (qy rules1 (qy rules2 (qy rules3 (qy rules4 (qy rules5 (qy rules6 (qy rules7 (qy rules8 (qy rules9 (qy rules10 (rules11)))))))))))
def tl (x:Nat->PV) (s:Nat):Nat->List PV
 | 0=>[]
 | n+1=>x s::tl x (s+1) n
theorem WA.blockcut {P:Program} {T:Tab} {m:Nat} {α:Type} (f:α->St) (G:α->Prop) {x y:Code} {id:Nat} {st:St} {Q:KQ} {u:Tok (y,Q)} {w:Tok (seqQ P T m y Q u)} {t:Tok (x,blockQ id (seqQ P T m y Q u) w)}
 (h1:WA P T m x st (blockQ id (cutQ (Mid f G) Q ⟨⟩) ⟨⟩) ⟨⟩) (h2: ∀ a,G a->WA P T m y (f a) Q ⟨⟩):WA P T m x st (blockQ id (seqQ P T m y Q u) w) t:=by
 refine WPA.mono x (fun e st1 h=>?_) h1
 have hm: ∀ st2,Mid f G st2->WPA P T m y st2 Q:=fun st2 ⟨a,hs,hg⟩=>by subst hs;exact h2 a hg
 cases e with
 | normal=>exact hm _ h
 | exit i=>
  simp only[blockQ] at h ⊢;split
  ·rename_i hi;rw[if_pos hi] at h;exact hm _ h
  ·rename_i hi;rw[if_neg hi] at h;exact h
 | ret=>exact h
theorem Mid.ex {α:Type} {f:α×(Nat->PV)->St} {G:α×(Nat->PV)->Prop} {env:List PV} {H:List Ob} (a:α) (h:(⟨env,H⟩:St)=f (a,fun i=>env.getD i .any)) (hg:G (a,fun i=>env.getD i .any)):Mid f G ⟨env,H⟩:=⟨_,h,hg⟩
theorem RetOK.lent {T:Tab} {st:St} {rs:List ResultVar} {res:PV} {xs:List (List FV)} {cd:Prop} {vs:List PV} (h1:resVs T st rs=some (cd,vs)) (hc:cd) (hx:st.heap=[.row true xs])
 (h2:fzX st.heap [0] (oneRes vs)=some res) (h3:idsX st.heap [0] (oneRes vs)=[]):RetOK T rs 1 st [.row true xs] res:=by
 refine⟨cd,vs,[0],h1,hc,by simp,fun i hi=>?_,h2,rfl,fun j id hj=>?_,fun o ho=>?_⟩
 ·have:i=0:=by omega
  subst this;rfl
 ·cases j with
  | zero=>
   simp at hj;subst hj;rw[h3,hx];rfl
  | succ j=>simp at hj
 ·simp at ho;subst ho;exact⟨tvq,rfl⟩
theorem rl_ {T:Tab} {st:St} {rs:List ResultVar} {res:PV} {ob:Ob} {cd:Prop} {vs:List PV} (h1:resVs T st rs=some (cd,vs)) (hc:cd) (hx:st.heap.head?=some ob) (hcl:ob.closed) (hrw:ob.rw=true)
 (h2:fzX st.heap [0] (oneRes vs)=some res) (h3:(shutIds (idsX st.heap [0] (oneRes vs)) st.heap).head?=some ob):RetOK T rs 1 st [ob] res:=by
 refine⟨cd,vs,[0],h1,hc,by simp,fun i hi=>?_,h2,rfl,fun j id hj=>?_,fun o ho=>?_⟩
 ·have:i=0:=by omega
  subst this;rfl
 ·cases j with
  | zero=>
   simp at hj;subst hj;rw[<-List.head?_eq_getElem?,h3];rfl
  | succ j=>simp at hj
 ·simp at ho;subst ho;exact⟨hcl,hrw⟩
end Go.AM
namespace Go.AM
variable {P:Program} {T:Tab} {m:Nat}
theorem WPcall.det {c:Call} {st:St} {K:PV->List Ob->Prop} (h:WPcall P T c st K): ∃ v H,K v H/\WPcall P T c st (fun v2 H2=>v2=v/\H2=H):=by
 unfold WPcall at h ⊢;split at h
 ·rename_i b hb;split at h
  ·rename_i r hr;refine⟨r.val,r.heap,h.2,?_⟩;simp only[];exact⟨h.1,by simp⟩
  ·exact h.elim
 ·rename_i f hf;split at h
  ·rename_i k pre post hk;obtain⟨v,H',hc,hK⟩:=h;refine⟨v,H',hK,?_⟩;simp only[];exact⟨v,H',hc,rfl,rfl⟩
  ·exact h.elim
 ·exact h.elim
theorem WPop.det {o:Op} {st:St} {K:PV->List Ob->Prop} (h:WPop P T o st K): ∃ v H,K v H/\WPop P T o st (fun v2 H2=>v2=v/\H2=H):=by
 unfold WPop at h ⊢;split at h
 ·exact WPcall.det h
 ·split at h
  ·rename_i r hr;refine⟨r.val,r.heap,h.2,?_⟩;simp only[];exact⟨h.1,by simp⟩
  ·exact h.elim
theorem WPops.det {all:Array Oper}: ∀ (l:List Oper) {st:St} {K:St->Prop},WPops P T all l st K-> ∃ st',K st'/\WPops P T all l st (fun s=>s=st')
 | [],st,K,h=>⟨st,h,rfl⟩
 | o::rest,st,K,h=>by
  unfold WPops at h;split at h
  ·rename_i hg;obtain⟨v,H,h1,h2⟩:=WPop.det h;obtain⟨s,hs,h3⟩:=WPops.det rest h1;refine⟨s,hs,?_⟩;unfold WPops;simp only[hg];exact WPop.mono (fun v2 H2 e=>by obtain⟨rfl,rfl⟩:=e;exact h3) h2
  ·rename_i j want hg;split at h
   ·rename_i t ht;split at h
    ·rename_i b hb;by_cases hbw:b=want
     ·obtain⟨v,H,h1,h2⟩:=WPop.det (h.1 hbw);obtain⟨s,hs,h3⟩:=WPops.det rest h1;refine⟨s,hs,?_⟩;unfold WPops;simp only[hg,ht,hb];exact⟨fun _=>WPop.mono (fun v2 H2 e=>by obtain⟨rfl,rfl⟩:=e;exact h3) h2,fun e=>by subst hbw;cases b<;>simp at e⟩
     ·have hbn:b=!want:=by cases b<;>cases want<;>simp_all
      obtain⟨s,hs,h3⟩:=WPops.det rest (h.2 hbn);refine⟨s,hs,?_⟩;unfold WPops;simp only[hg,ht,hb];exact⟨fun e=>absurd e hbw,fun _=>h3⟩
    ·rename_i hb;obtain⟨s,hs,h3⟩:=WPops.det rest h;refine⟨s,hs,?_⟩;unfold WPops;simp only[hg,ht,hb];exact h3
    ·exact h.elim
   ·exact h.elim
theorem WPdraw.det {all:Array Oper}: ∀ (l:List Oper) {st:St} {K:St->Prop},WPdraw P T all l st K-> ∃ st',K st'/\WPdraw P T all l st (fun s=>s=st')
 | [],st,K,h=>⟨st,h,rfl⟩
 | o::rest,st,K,h=>by
  unfold WPdraw at h;split at h
  ·rename_i hg;obtain⟨v,H,⟨h0,h1⟩,h2⟩:=WPop.det h;obtain⟨s,hs,h3⟩:=WPdraw.det rest h1;refine⟨s,hs,?_⟩;unfold WPdraw;simp only[hg];exact WPop.mono (fun v2 H2 e=>by obtain⟨rfl,rfl⟩:=e;exact⟨h0,h3⟩) h2
  ·rename_i j want hg;split at h
   ·rename_i t ht;split at h
    ·rename_i b hb;by_cases hbw:b=want
     ·obtain⟨v,H,⟨h0,h1⟩,h2⟩:=WPop.det (h.1 hbw);obtain⟨s,hs,h3⟩:=WPdraw.det rest h1;refine⟨s,hs,?_⟩;unfold WPdraw;simp only[hg,ht,hb];exact⟨fun _=>WPop.mono (fun v2 H2 e=>by obtain⟨rfl,rfl⟩:=e;exact⟨h0,h3⟩) h2,fun e=>by subst hbw;cases b<;>simp at e⟩
     ·have hbn:b=!want:=by cases b<;>cases want<;>simp_all
      obtain⟨s,hs,h3⟩:=WPdraw.det rest (h.2 hbn);refine⟨s,hs,?_⟩;unfold WPdraw;simp only[hg,ht,hb];exact⟨fun e=>absurd e hbw,fun _=>h3⟩
    ·rename_i hb;obtain⟨s,hs,h3⟩:=WPdraw.det rest h;refine⟨s,hs,?_⟩;unfold WPdraw;simp only[hg,ht,hb];exact h3
    ·exact h.elim
   ·exact h.elim
theorem WPA.det: ∀ (cd:Code) {st:St} {Q:AExit->St->Prop},WPA P T m cd st Q-> ∃ e st',Q e st'/\WPA P T m cd st (fun e2 s2=>e2=e/\s2=st')
 | .skip,st,Q,h=>⟨_,_,h,rfl,rfl⟩
 | .label _,st,Q,h=>⟨_,_,h,rfl,rfl⟩
 | .exit _,st,Q,h=>⟨_,_,h,rfl,rfl⟩
 | .ret,st,Q,h=>⟨_,_,h,rfl,rfl⟩
 | .region n ops draw,st,Q,h=>by
  unfold WPA at h ⊢;split at h
  ·rename_i hd;rcases h with⟨h0,ids,h1⟩ | ⟨s,h0,h1⟩
   ·obtain⟨s,hs,h2⟩:=WPdraw.det _ h1;refine⟨.normal,s,hs,?_⟩;rw[if_pos hd];exact .inl ⟨h0,ids,WPdraw.mono (fun _ e=>⟨rfl,e⟩) _ h2⟩
   ·refine⟨.normal,s,h1,?_⟩;rw[if_pos hd];exact .inr ⟨s,h0,rfl,rfl⟩
  ·rename_i hd;obtain⟨s,hs,h2⟩:=WPops.det _ h;refine⟨.normal,s,hs,?_⟩;rw[if_neg hd];exact WPops.mono (fun _ e=>⟨rfl,e⟩) _ h2
 | .scope x,st,Q,h=>by
  unfold WPA at h;obtain⟨e,s,h1,h2⟩:=WPA.det x h;refine⟨e,s,h1,?_⟩;unfold WPA;exact h2
 | .seq x y,st,Q,h=>by
  unfold WPA at h;obtain⟨e,s,h1,h2⟩:=WPA.det x h;cases e with
  | normal=>
   obtain⟨e2,s2,h3,h4⟩:=WPA.det y h1;refine⟨e2,s2,h3,?_⟩;unfold WPA;exact WPA.mono x (fun e3 s3 he=>by obtain⟨rfl,rfl⟩:=he;exact h4) h2
  | exit i=>
   refine⟨_,_,h1,?_⟩;unfold WPA;exact WPA.mono x (fun e3 s3 he=>by obtain⟨rfl,rfl⟩:=he;exact⟨rfl,rfl⟩) h2
  | ret=>
   refine⟨_,_,h1,?_⟩;unfold WPA;exact WPA.mono x (fun e3 s3 he=>by obtain⟨rfl,rfl⟩:=he;exact⟨rfl,rfl⟩) h2
 | .cond o x y,st,Q,h=>by
  unfold WPA at h;split at h
  ·rename_i b hb;cases b with
   | true=>
    obtain⟨e,s,h1,h2⟩:=WPA.det x (h.1 rfl);refine⟨e,s,h1,?_⟩;unfold WPA;simp only[hb];exact⟨fun _=>h2,fun e=>by simp at e⟩
   | false=>
    obtain⟨e,s,h1,h2⟩:=WPA.det y (h.2 rfl);refine⟨e,s,h1,?_⟩;unfold WPA;simp only[hb];exact⟨fun e=>by simp at e,fun _=>h2⟩
  ·exact h.elim
 | .block id x,st,Q,h=>by
  unfold WPA at h;obtain⟨e,s,h1,h2⟩:=WPA.det x h;cases e with
  | normal=>
   refine⟨_,_,h1,?_⟩;unfold WPA;exact WPA.mono x (fun e3 s3 he=>by obtain⟨rfl,rfl⟩:=he;exact⟨rfl,rfl⟩) h2
  | exit i=>
   by_cases hi:i=id
   ·simp only[hi,if_true] at h1;refine⟨.normal,s,h1,?_⟩;unfold WPA;refine WPA.mono x (fun e3 s3 he=>?_) h2;obtain⟨rfl,rfl⟩:=he;simp[hi]
   ·simp only[hi,if_false] at h1;refine⟨.exit i,s,h1,?_⟩;unfold WPA;refine WPA.mono x (fun e3 s3 he=>?_) h2;obtain⟨rfl,rfl⟩:=he;simp[hi]
  | ret=>
   refine⟨_,_,h1,?_⟩;unfold WPA;exact WPA.mono x (fun e3 s3 he=>by obtain⟨rfl,rfl⟩:=he;exact⟨rfl,rfl⟩) h2
 | .loop x,st,Q,h=>by
  unfold WPA at h;obtain⟨I,⟨n0,st0,hw0,hi0⟩,hstep⟩:=h;have key: ∀ n st1,I n st1-> ∃ e s,Q e s/\WPA P T m (.loop x) st1 (fun e2 s2=>e2=e/\s2=s):=by
   intro n
   induction n using Nat.strongRecOn with
   | _ n ih=>
    intro st1 hi;obtain⟨e,s,h1,h2⟩:=WPA.det x (hstep n st1 hi);cases e with
    | normal=>
     obtain⟨n',s',hlt,hw,hi'⟩:=h1;obtain⟨e2,s2,hq,hl⟩:=ih n' hlt s' hi';refine⟨e2,s2,hq,?_⟩;unfold WPA at hl ⊢;obtain⟨J,⟨k0,t0,hwt,hj0⟩,hJ⟩:=hl;refine⟨fun k t=>(k=k0+1/\t=st1)\/(k<=k0/\J k t),⟨k0+1,st1,Weak.refl _ _,Or.inl ⟨rfl,rfl⟩⟩,?_⟩;intro k t hk;rcases hk with⟨rfl,rfl⟩ | ⟨hk,hj⟩
     ·refine WPA.mono x (fun e3 s3 he=>?_) h2;obtain⟨rfl,rfl⟩:=he;exact⟨k0,t0,by omega,Weak.trans hw hwt,Or.inr ⟨qp _,hj0⟩⟩
     ·refine WPA.mono x (fun e3 s3 he=>?_) (hJ k t hj);cases e3 with
      | normal=>
       obtain⟨k',t',hlt',hw',hj'⟩:=he;exact⟨k',t',hlt',hw',Or.inr ⟨by omega,hj'⟩⟩
      | exit i=>exact he
      | ret=>exact he
    | exit i=>
     refine⟨_,_,h1,?_⟩;unfold WPA;refine⟨fun k t=>k=0/\t=st1,⟨0,st1,Weak.refl _ _,rfl,rfl⟩,?_⟩;rintro k t ⟨rfl,rfl⟩;exact WPA.mono x (fun e3 s3 he=>by obtain⟨rfl,rfl⟩:=he;exact⟨rfl,rfl⟩) h2
    | ret=>
     refine⟨_,_,h1,?_⟩;unfold WPA;refine⟨fun k t=>k=0/\t=st1,⟨0,st1,Weak.refl _ _,rfl,rfl⟩,?_⟩;rintro k t ⟨rfl,rfl⟩;exact WPA.mono x (fun e3 s3 he=>by obtain⟨rfl,rfl⟩:=he;exact⟨rfl,rfl⟩) h2
  obtain⟨e,s,hq,hl⟩:=key n0 st0 hi0;refine⟨e,s,hq,?_⟩;unfold WPA at hl ⊢;obtain⟨J,⟨k0,t0,hwt,hj0⟩,hJ⟩:=hl;exact⟨J,⟨k0,t0,Weak.trans hw0 hwt,hj0⟩,hJ⟩
def retR (T:Tab) (rs:List ResultVar) (m:Nat) (R:List Ob->PV->Prop) (e:AExit) (st:St):Prop:=match e with | .exit _=>False | _=> ∃ H1 res,R H1 res/\RetOK T rs m st H1 res
theorem Ap_endR_normal {rs:List ResultVar} {R:List Ob->PV->Prop} {st:St} {u:Tok _}:Ap (retR T rs m R) .normal st u= ∃ H1 res,R H1 res/\RetOK T rs m st H1 res:=rfl
theorem Ap_endR_ret {rs:List ResultVar} {R:List Ob->PV->Prop} {st:St} {u:Tok _}:Ap (retR T rs m R) .ret st u= ∃ H1 res,R H1 res/\RetOK T rs m st H1 res:=rfl
theorem den_some (hT:TabOk P T) (hm:P.follows .mixedOrders=true) {k:FuncId} {fn:Func} {cd:Code} (hf:P.funcs[k]?=some fn) (hb:fn.body=some cd) (hname:(fn.name== "runtime.NumGoroutine")=false)
 {H0:List Ob} {args:List PV} {R:List Ob->PV->Prop} {rs:List ResultVar} (hr:fn.results=List.toArray rs) {n:Nat} (hn:fn.ntmps - args.length=n) {env:List PV} (he:args++replicate n .any=env) {m:Nat} (hm0:H0.length=m)
 (h:WA P T m cd ⟨env,H0⟩ (retR T rs m R) ⟨⟩): ∃ H1 res,R H1 res/\Den P k H0 args H1 res:=by
 obtain⟨e,st,hq,hw⟩:=WPA.det cd h
 cases e with
 | normal=>
  obtain⟨H1,res,hR,hret⟩:=hq;exact⟨H1,res,hR,den_of hT hm hf hb hname hr hn he hm0 (WPA.mono cd (fun e2 s2 hh=>by obtain⟨rfl,rfl⟩:=hh;exact hret) hw)⟩
 | exit i=>exact hq.elim
 | ret=>
  obtain⟨H1,res,hR,hret⟩:=hq;exact⟨H1,res,hR,den_of hT hm hf hb hname hr hn he hm0 (WPA.mono cd (fun e2 s2 hh=>by obtain⟨rfl,rfl⟩:=hh;exact hret) hw)⟩
end Go.AM
namespace Go.AM
theorem Weak.nil {m:Nat} {env:List PV} {H:List Ob} {st':St} (t s:Nat) (hs:0<s) (ht:env[t]?=some .nilsl) (h2:Weak m ⟨env.set t (.lsl H.length 0 0 s),H++[.row true []]⟩ st'):Weak m ⟨env,H⟩ st':=by
 intro c a w hml ⟨X,ρ,h,henv,hd,hkp⟩;refine h2 c a w hml ⟨X,ρ++[some ⟨none,0,s,0⟩],?_,?_,hd,hkp⟩
 ·have hle:ρ.Le (ρ++[some ⟨none,0,s,0⟩]):=Places.Le.append ρ _;have key: ∀ (id:Nat) p o,(ρ++[some ⟨none,0,s,0⟩])[id]?=some (some p)->(H++[Ob.row true []])[id]?=some o->(ρ[id]?=some (some p)/\H[id]?=some o)\/(p=⟨none,0,s,0⟩/\o= .row true []):=by
   intro id p o hp ho;by_cases hlt:id<ρ.length
   ·rw[qi hlt] at hp;rw[qi (by rw[<-h.len];exact hlt)] at ho;exact .inl ⟨hp,ho⟩
   ·rw[getElem?_append_right (by omega)] at hp;rw[getElem?_append_right (by rw[<-h.len];omega),<-h.len] at ho;right;cases hi:id - ρ.length with
    | zero=>rw[hi] at hp ho;simp at hp ho;exact⟨hp.symm,ho.symm⟩
    | succ j=>rw[hi] at hp;simp at hp
  refine⟨by simp[h.len],?_,?_,?_,h.xo,h.xlt,h.ge,h.base.trans hle⟩
  ·intro id p o hp ho;rcases key id p o hp ho with⟨h3,h4⟩ | ⟨rfl,rfl⟩
   ·exact(h.ob id p o h3 h4).keep (Same.refl X w) (fun _ _ hx=>hx) hle (fun _ g _ _=>⟨rfl,Iff.rfl⟩)
   ·exact⟨⟨hs,by simp,[],by simpa [Place.val] using World.ownsRow_nil w 0 0 s,by simp⟩,by simp⟩
  ·intro i j p q o r g hp hq ho hr h3 h4 h5 h6;rcases key i p o hp ho with⟨h7,h8⟩ | ⟨rfl,rfl⟩
   ·rcases key j q r hq hr with⟨h9,h10⟩ | ⟨rfl,rfl⟩
    ·exact h.inj i j p q o r g h7 h9 h8 h10 h3 h4 h5 h6
    ·simp at h6
   ·simp at h5
  ·intro id p o g hp ho h3 h4;rcases key id p o hp ho with⟨h7,h8⟩ | ⟨rfl,rfl⟩
   ·exact h.own id p o g h7 h8 h3 h4
   ·simp at h4
 ·have hle:ρ.Le (ρ++[some ⟨none,0,s,0⟩]):=Places.Le.append ρ _;have henv2:=henv.mono hle;refine⟨by rw[length_set];exact henv.1,fun i v x hv hx=>?_⟩;by_cases hi:t=i
  ·subst hi;rw[qv (List.getElem?_eq_some_iff.1 ht).1] at hx;cases hx;have:=henv.2 t v _ hv ht;cases this with
   | nilsl=>
    exact .lsl0 H.length ⟨none,0,s,0⟩ (by rw[<-h.len];simp) rfl
  ·rw[getElem?_set_ne hi] at hx;exact henv2.2 i v x hv hx
section
variable {P:Program} {T:Tab}
def retC (T:Tab) (rs:List ResultVar) (e:AExit) (st:St):Prop:=match e with | .exit _=>False | _=> ∃ cd,resVs T st rs=some (cd,[.clip []])/\cd
theorem den_clip (hT:TabOk P T) (hm:P.follows .mixedOrders=true) {k:FuncId} {fn:Func} {cd:Code} (hf:P.funcs[k]?=some fn) (hb:fn.body=some cd) (hname:(fn.name== "runtime.NumGoroutine")=false)
 {args:List PV} {rs:List ResultVar} (hr:fn.results=List.toArray rs) {n:Nat} (hn:fn.ntmps - args.length=n) {env:List PV} (he:args++replicate n .any=env)
 (h:WA P T 0 cd ⟨env,[]⟩ (retC T rs) ⟨⟩):Den P k [] args [] (.clip []):=by
 subst hn;subst he
 refine⟨⟨fn,cd,hf,hb,hname⟩,fun c X ρ vs hh hM hvs=>?_⟩
 have hρ0:ρ=[]:=List.eq_nil_of_length_eq_zero hh.len
 subst hρ0
 refine calls_of_wp hf hb ?_
 let c2:Ctx:={c with base:=[]}
 have hh2:HRd c2 c.w0 X [] []:=⟨hh.len,hh.ob,hh.inj,hh.own,hh.xo,hh.xlt,hh.ge,Places.Le.refl []⟩
 have hs:SRd c2 ⟨args++replicate (fn.ntmps - args.length) .any,[]⟩ {tmps:=vs++Array.replicate (fn.ntmps - vs.size) undef,defers:=[]} c.w0:=by
  refine⟨X,[],hh2,⟨by simp[hvs.1],fun i v x hv hx=>?_⟩,rfl,Keeps.refl c2⟩;by_cases hi:i<vs.size
  ·rw[Array.getElem?_append_left hi] at hv;rw[qi (by rw[<-hvs.1];exact hi)] at hx;exact hvs.2 i v x hv hx
  ·rw[getElem?_append_right (by rw[<-hvs.1];omega),List.getElem?_replicate] at hx;split at hx
   ·cases hx;exact .any _
   ·cases hx
 have fin: ∀ st' a' w',(∃ cd,resVs T st' rs=some (cd,[.clip []])/\cd)->SRd c2 st' a' w'->a'.defers=[]/\ ∃ v,(results fn a'.tmps).run P w'= .ok v w'/\ ∃ v2 X' ρ',Ending.returned v= .returned v2/\Keeps c w'/\HRd c w' X' ρ' []/\PRd w' X' ρ' v2 (.clip [])/\
  Places.Le [] ρ'/\(∀ (id:Nat) p,([]:Places).length<=id->ρ'[id]?=some (some p)-> ∀ g,p.b=some g->c.w0.heap.size<=g):=by
  intro st' a' w' ⟨cd',hres,hcd⟩ ⟨X',ρ',h',he',hd',hk'⟩
  obtain⟨u,hrun,hu⟩:=results_run hT h' he' (by rw[hr];exact hres) hcd
  refine⟨hd',u,hrun,u,X',[],rfl,⟨⟨hk'.os,hk'.tape,hk'.output,hk'.size,hk'.block⟩,hk'.drawn⟩,⟨rfl,by simp,by simp,by simp,h'.xo,h'.xlt,h'.ge,hh.base⟩,?_,Places.Le.refl _,by simp⟩
  change PRd w' X' ρ' u (.clip []) at hu
  cases hu with
  | clip a n _ hf=>exact .clip a n _ hf
 refine wpa_sound hT hm (m:=0) (by show([]:Places).length<=_;exact qp _) cd h hs (fun e st' a' w' he hs'=>?_)
 cases e with
 | normal=>exact fin st' a' w' he hs'
 | ret=>exact fin st' a' w' he hs'
 | exit id=>exact he.elim
def retN (T:Tab) (rs:List ResultVar) (e:AExit) (st:St):Prop:=match e with | .exit _=>False | _=> ∃ cd,resVs T st rs=some (cd,[.nilsl])/\cd
theorem Ap_endN_ret {rs:List ResultVar} {st:St} {u:Tok _}:Ap (retN T rs) .ret st u= ∃ cd,resVs T st rs=some (cd,[.nilsl])/\cd:=rfl
theorem den_nil (hT:TabOk P T) (hm:P.follows .mixedOrders=true) {k:FuncId} {fn:Func} {cd:Code} (hf:P.funcs[k]?=some fn) (hb:fn.body=some cd) (hname:(fn.name== "runtime.NumGoroutine")=false)
 {args:List PV} {rs:List ResultVar} (hr:fn.results=List.toArray rs) {n:Nat} (hn:fn.ntmps - args.length=n) {env:List PV} (he:args++replicate n .any=env)
 (h:WA P T 0 cd ⟨env,[]⟩ (retN T rs) ⟨⟩) (s:Nat) (hs0:0<s):Den P k [] args [.row true []] (.lsl 0 0 0 s):=by
 subst hn;subst he
 refine⟨⟨fn,cd,hf,hb,hname⟩,fun c X ρ vs hh hM hvs=>?_⟩
 have hρ0:ρ=[]:=List.eq_nil_of_length_eq_zero hh.len
 subst hρ0
 refine calls_of_wp hf hb ?_
 let c2:Ctx:={c with base:=[]}
 have hh2:HRd c2 c.w0 X [] []:=⟨hh.len,hh.ob,hh.inj,hh.own,hh.xo,hh.xlt,hh.ge,Places.Le.refl []⟩
 have hs:SRd c2 ⟨args++replicate (fn.ntmps - args.length) .any,[]⟩ {tmps:=vs++Array.replicate (fn.ntmps - vs.size) undef,defers:=[]} c.w0:=by
  refine⟨X,[],hh2,⟨by simp[hvs.1],fun i v x hv hx=>?_⟩,rfl,Keeps.refl c2⟩;by_cases hi:i<vs.size
  ·rw[Array.getElem?_append_left hi] at hv;rw[qi (by rw[<-hvs.1];exact hi)] at hx;exact hvs.2 i v x hv hx
  ·rw[getElem?_append_right (by rw[<-hvs.1];omega),List.getElem?_replicate] at hx;split at hx
   ·cases hx;exact .any _
   ·cases hx
 have fin: ∀ st' a' w',(∃ cd,resVs T st' rs=some (cd,[.nilsl])/\cd)->SRd c2 st' a' w'->a'.defers=[]/\ ∃ v,(results fn a'.tmps).run P w'= .ok v w'/\ ∃ v2 X' ρ',Ending.returned v= .returned v2/\Keeps c w'/\HRd c w' X' ρ' [.row true []]/\PRd w' X' ρ' v2 (.lsl 0 0 0 s)/\
  Places.Le [] ρ'/\(∀ (id:Nat) p,([]:Places).length<=id->ρ'[id]?=some (some p)-> ∀ g,p.b=some g->c.w0.heap.size<=g):=by
  intro st' a' w' ⟨cd',hres,hcd⟩ ⟨X',ρ',h',he',hd',hk'⟩
  obtain⟨u,hrun,hu⟩:=results_run hT h' he' (by rw[hr];exact hres) hcd
  refine⟨hd',u,hrun,u,X',[some ⟨none,0,s,0⟩],rfl,⟨⟨hk'.os,hk'.tape,hk'.output,hk'.size,hk'.block⟩,hk'.drawn⟩,⟨rfl,?_,?_,?_,h'.xo,h'.xlt,h'.ge,hh.base.trans (Places.Le.append [] _)⟩,?_,Places.Le.append [] _,?_⟩
  ·intro id p o hp ho
   cases id with
   | succ j=>simp at hp
   | zero=>
    simp at hp ho;subst hp;subst ho;exact⟨⟨hs0,by simp,[],by simpa [Place.val] using World.ownsRow_nil w' 0 0 s,by simp⟩,by simp⟩
  ·intro i j p q o r g hp hq ho hr h3 h4 h5 h6
   cases i with
   | succ j=>simp at hp
   | zero=>simp at hp;subst hp;cases h5
  ·intro i p o g hp ho h3 h4
   cases i with
   | succ j=>simp at hp
   | zero=>simp at hp;subst hp;cases h4
  ·change PRd w' X' ρ' u .nilsl at hu
   cases hu with
   | nilsl=>exact .lsl0 0 ⟨none,0,s,0⟩ rfl rfl
  ·intro id p _ hp g hg
   cases id with
   | succ j=>simp at hp
   | zero=>simp at hp;subst hp;cases hg
 refine wpa_sound hT hm (m:=0) (by show([]:Places).length<=_;exact qp _) cd h hs (fun e st' a' w' he hs'=>?_)
 cases e with
 | normal=>exact fin st' a' w' he hs'
 | ret=>exact fin st' a' w' he hs'
 | exit id=>exact he.elim
end
theorem Den.empty' {P:Program} {k:FuncId} {pre post:List PV} {H1:List Ob} {res:PV} (h1:Den P k [] (pre++ .nilsl::post) H1 res) (h2: ∀ b o cap,Den P k [] (pre++ .fv (.lit (.slice (some ⟨b,o,none⟩) 0 cap))::post) H1 res):
 Den P k [] (pre++ .fv (.sl [])::post) H1 res:=by
 refine⟨h1.1,fun c X ρ vs hh hM hvs=>?_⟩
 have hlt:pre.length<vs.size:=by rw[hvs.1];simp
 have hv:vs[pre.length]?=some vs[pre.length]:=by simp[hlt]
 have hrd:=hvs.2 pre.length vs[pre.length] (.fv (.sl [])) hv (by simp)
 generalize vs[pre.length]=v at hv hrd
 cases hrd with
 | fv _ _ hf=>
  cases hf with
  | nil=>exact h1.2 c X ρ vs hh hM (hvs.swap (fun u hu=>by rw[hv] at hu;cases hu;exact .nilsl))
  | sl ad n cap s _ us hn hc hss h0=>
   have hn:n=0:=by simpa using hn.symm
   subst hn;obtain⟨b,o,sp⟩:=ad;cases h0;exact(h2 b o cap).2 c X ρ vs hh hM (hvs.swap (fun u hu=>by rw[hv] at hu;cases hu;exact .fv _ _ (.lit _ rfl)))
end Go.AM
namespace Go.AM
def Plain (res:PV):Prop:= ∀ (w w':World) (X X':Nat->Prop) (ρ ρ':Places) (v:Value),PRd w X ρ v res->PRd w' X' ρ' v res
theorem Plain.lit (v:Value):Plain (.fv (.lit v)):=fun w w' X X' ρ ρ' u h=>by
 cases h with
 | fv _ _ hf=>cases hf with
  | lit _ h1=>exact .fv _ _ (.lit _ h1)
theorem Den.lendF {P:Program} {k:FuncId} {xs:List (List FV)} {n s:Nat} {post:List PV} {res:PV} (h:Den P k [] (.fv (.sl xs)::post) [] res) (hn:n=xs.length) (hp:Plain res) (hpost: ∀ x∈post,Plain x):
 Den P k [.row true xs] (.lsl 0 0 n s::post) [.row true xs] res:=by
 subst hn
 refine⟨h.1,fun c X ρ vs hh hM hvs=>?_⟩
 obtain⟨X1,h1,hs1,hn1⟩:=hh.shutIds [0]
 let c2:Ctx:={w0:=c.w0,M:=fun _=>False,Xo:=c.Xo,base:=[],hxo:=fun b hb=>⟨(c.hxo b hb).1,fun h=>h⟩}
 have hh2:HRd c2 c.w0 X1 [] []:=⟨rfl,by simp,by simp,by simp,h1.xo,h1.xlt,h1.ge,Places.Le.refl _⟩
 have hsz:0<vs.size:=by rw[hvs.1];simp
 have hv0:vs[0]?=some vs[0]:=by simp[hsz]
 have hrd0:=hvs.2 0 vs[0] (.lsl 0 0 xs.length s) hv0 rfl
 have hfr:FRd c.w0 X1 vs[0] (.sl xs):=by
  refine fz0_rd (H:=[.row true xs]) hh (fun j o ho=>ho) hrd0 (by simp[fz0]) hs1 (fun id hid p o g hp ho ha hg=>hn1 id (by simpa [ids0] using hid) p o g hp ho ha hg)
 have hvs2:PRds c.w0 X1 [] vs (.fv (.sl xs)::post):=by
  refine⟨by rw[hvs.1];simp,fun i v x hv hx=>?_⟩;cases i with
  | zero=>
   simp at hx;subst hx;rw[hv0] at hv;cases hv;exact .fv _ _ hfr
  | succ i=>
   have hx2:post[i]?=some x:=by simpa using hx
   exact hpost x (List.mem_of_getElem? hx2) _ _ _ _ _ _ _ (hvs.2 (i+1) v x hv (by simpa using hx2))
 refine(h.2 c2 X1 [] vs hh2 (fun b hb=>hb.elim) hvs2).mono (fun e w' hpost2=>?_)
 obtain⟨v,X',ρ',he,hk,hr,hpv,hle,hnew⟩:=hpost2
 have hblk: ∀ b,b<c.w0.heap.size->w'.heap[b]?=c.w0.heap[b]?:=fun b hb=>hk.block b hb (fun h=>h)
 have hsame:Same X c.w0 w':=⟨hk.size,fun b hb _=>hblk b hb⟩
 refine⟨v,X,ρ,he,⟨⟨hk.os,hk.tape,hk.output,hk.size,fun b hb _=>hblk b hb⟩,hk.drawn⟩,⟨hh.len,fun id p o h2 h3=>(hh.ob id p o h2 h3).keep hsame (fun _ _ h=>h) (Places.Le.refl _) (fun _ g _ hg=>⟨hblk g hg,Iff.rfl⟩),hh.inj,
  fun id p o g h2 h3 h4 h5=>⟨(hh.own id p o g h2 h3 h4 h5).1,Nat.lt_of_lt_of_le (hh.own id p o g h2 h3 h4 h5).2 hk.size⟩,hh.xo,fun b hb=>Nat.lt_of_lt_of_le (hh.xlt b hb) hk.size,hk.size,hh.base⟩,hp _ _ _ _ _ _ _ hpv,Places.Le.refl _,fun id p h2 h3=>?_⟩
 have:=(List.getElem?_eq_some_iff.1 h3).1
 omega
theorem Weak.shut {m:Nat} {env:List PV} {H:List Ob} {st':St} (ids:List Nat) (h2:Weak m ⟨env,shutIds ids H⟩ st'):Weak m ⟨env,H⟩ st':=fun c a w hml h=>h2 c a w hml (h.shut ids)
theorem Weak.fz {m:Nat} {env:List PV} {H:List Ob} {st':St} (t id off len s:Nat) (xs:List (List FV)) (ht:env[t]?=some (.lsl id off len s)) (ho:H[id]?=some (.row false xs)) (hl:off+len<=xs.length)
 (h2:Weak m ⟨env.set t (.fv (.sl ((xs.drop off).take len))),H⟩ st'):Weak m ⟨env,H⟩ st':=by
 intro c a w hml ⟨X,ρ,h,henv,hd,hkp⟩
 refine h2 c a w hml ⟨X,ρ,h,⟨by rw[length_set];exact henv.1,fun i v x hv hx=>?_⟩,hd,hkp⟩
 by_cases hi:t=i
 ·subst hi
  rw[qv (List.getElem?_eq_some_iff.1 ht).1] at hx
  cases hx
  refine .fv _ _ (fz0_rd (H:=H) h (fun j o h=>h) (henv.2 t v _ hv ht) (by simp[fz0,ho,hl]) (fun b h=>h) (fun id2 hid p o g hp ho2 ha hg=>?_))
  simp only[ids0,qz] at hid
  subst hid
  rw[ho] at ho2
  cases ho2
  have:=(h.ob id2 p _ hp ho).2 g hg
  exact fun hx=>by have:=this.2 hx;cases this
 ·rw[getElem?_set_ne hi] at hx
  exact henv.2 i v x hv hx
theorem shB1 {H:List Ob} {id off n s:Nat}:shutBs H id [.lsl id off n s]=H:=by simp[shutBs,idsB,shutIds]
theorem lentB_lsl {H:List Ob} {id off n s:Nat}:fzBs H id [.lsl id off n s]=some [.lsl 0 off n s]:=by simp[fzBs,fzB]
theorem set_here: ∀ {α:Type} {l:List α} {i:Nat} {x:α},l[i]?=some x->l.set i x=l
 | _,[],_,_,h=>by simp at h
 | _,a::l,0,x,h=>by simp at h;subst h;rfl
 | _,a::l,i+1,x,h=>by simp only[List.set_cons_succ];rw[set_here (by simpa using h)]
theorem GoCall.show {P:Program} {env:List PV} {H:List Ob} {K:PV->List Ob->Prop} {k:FuncId} {id n s:Nat} {xs:List (List FV)} {res:PV} {t:Tok _} (hd:Den P k [] [.fv (.sl xs)] [] res) (hp:Plain res) (hn:n=xs.length)
 (ho:H[id]?=some (.row true xs)) (hk:K (reloc (lent id H.length) res) H):GoCall P ⟨env,H⟩ (some (k,[],[])) [.lsl id 0 n s] K t:=by
 refine gl_ id (hd.lendF (s:=s) hn hp (by simp)) ho rfl trivial (by simp[PV.refsTo]) (by simpa using lentB_lsl) ?_ ?_
 ·simp only[nil_append,List.append_nil]
  rw[shB1];exact ho
 ·simp only[nil_append,List.append_nil,map_nil]
  rw[shB1]
  have:H.set id (relocOb (lent id H.length) (.row true xs))=H:=set_here (by simpa [relocOb] using ho)
  rw[this]
  exact hk
theorem Weak.fzb {m:Nat} {env:List PV} {H:List Ob} {st':St} (t id n:Nat) (cs:List PV) (ys:List FV) (ht:env[t]?=some (.lsl id 0 n 1)) (ho:H[id]?=some (.box false cs)) (hn:cs.length=n) (hf:fzs H cs=some ys)
 (hno: ∀ k∈cs.flatMap ids0,∀ o,H[k]?=some o->o.rw=false) (h2:Weak m ⟨env.set t (.fv (.sl (ys.map fun x=>[x]))),H⟩ st'):Weak m ⟨env,H⟩ st':=by
 intro c a w hml ⟨X,ρ,h,henv,hd,hkp⟩
 refine h2 c a w hml ⟨X,ρ,h,⟨by rw[length_set];exact henv.1,fun i v x hv hx=>?_⟩,hd,hkp⟩
 by_cases hi:t=i
 ·subst hi
  rw[qv (List.getElem?_eq_some_iff.1 ht).1] at hx
  cases hx
  have hrd:=henv.2 t v _ hv ht
  subst hn
  refine .fv _ _ ?_
  obtain⟨p,hp,hps,hor⟩:=hrd.lslInv
  obtain⟨⟨g',us,hg',hh,hs,h1,hc⟩,hrw⟩:=h.ob id p _ hp ho
  rcases hor with⟨hg,hv2,_,_⟩ | ⟨g,og,hg,hv2,hl,hoo⟩
  ·rw[hg] at hg';cases hg'
  rw[hg] at hg'
  injection hg' with hg'
  subst hg'
  have hog:og=0:=by
   rcases hoo with hoo | hoo
   ·simpa using hoo
   ·exact absurd rfl hoo.2
  subst hog
  rw[hv2]
  have hlen:=fzs_length hf
  have hone: ∀ (i j:Nat) x y,(ys.map fun x=>[x])[i]?=some x->x[j]?=some y->j=0/\ys[i]?=some y:=by
   intro i j x y hx hy;rw[List.getElem?_map] at hx;cases hyi:ys[i]? with
   | none=>rw[hyi] at hx;cases hx
   | some y0=>
    rw[hyi] at hx;cases hx;cases j with
    | zero=>simp at hy;exact⟨rfl,by rw[hy]⟩
    | succ j=>simp at hy
  refine .sl ⟨g,0,none⟩ cs.length (p.cap - 0) 1 _ (fun i _=>us.getD i undef) (by simp[hlen]) (by omega) (by simp) rfl (fun _ hx=>by have:=(hrw g hg).2 hx;cases this) (fun _=>(Array.getElem?_eq_some_iff.1 hh).1) (fun i j x y hx hy=>?_) (fun i j x y hx hy=>?_)
  ·obtain⟨rfl,hyi⟩:=hone i j x y hx hy
   have hlt:i<us.size:=by rw[hs,<-hlen];exact(List.getElem?_eq_some_iff.1 hyi).1
   simp only[Nat.mul_one,Nat.zero_add,Nat.add_zero]
   rw[cell_of_row w g i us _ _ hh]
   simp[hlt]
  ·obtain⟨rfl,hyi⟩:=hone i j x y hx hy
   have hlt:i<us.size:=by rw[hs,<-hlen];exact(List.getElem?_eq_some_iff.1 hyi).1
   have hlc:i<cs.length:=by rw[<-hs];exact hlt
   obtain⟨y',hy',hfy⟩:=fzs_get hf i cs[i] (by simp[hlc])
   rw[hyi] at hy';cases hy'
   have:=hc i us[i] cs[i] (by simp[hlt]) (by simp[hlc])
   rw[show us.getD i undef=us[i] by simp[hlt]]
   refine fz0_rd h (fun j o h=>h) this hfy (fun b hb=>hb) (fun k hk q o g2 hq ho2 ha hg2 hX=>?_)
   have hro:=hno k (List.mem_flatMap.2 ⟨cs[i],by simp,hk⟩) o ho2
   have hob:=h.ob k q o hq ho2
   cases o with
   | dead=>exact ha
   | tab _ _=>cases hro
   | row rw2 _=>have:=(hob.2 g2 hg2).2 hX;rw[this] at hro;cases hro
   | box rw2 _=>have:=(hob.2 g2 hg2).2 hX;rw[this] at hro;cases hro
 ·rw[getElem?_set_ne hi] at hx
  exact henv.2 i v x hv hx
end Go.AM
