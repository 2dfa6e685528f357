/- The abstract machine:the types' table;operands;operations that touch no memory. -/
import Derived.Test.YtiaaceeelfhdlaaGreatT2
import Derived.Laws.Slices
import Derived.ChangeKeysEq
import Derived.WideKeyMaps
import Derived.Test.YtiaaceeelfhdlaaGreatT1
set_option linter.all false
namespace Go.AM
def th:TypeDesc->Bool
 | .struct _ | .array _ _=>true
 | _=>false
def fm (P:Program) (t:Nat):Ty->Prop
 | .int k=>P.underlying t=some (.int k)
 | .bool=>P.underlying t=some .bool
 | .str=>P.underlying t=some .string
 | .sl e=>P.underlying t=some (.slice e)
 | .arr n e=>P.underlying t=some (.array n e)
 | .st fs=> ∃ ffs,P.underlying t=some (.struct ffs)/\ffs.size=fs.length/\ ∀ (j:Nat) f fd,ffs[j]?=some f->fs[j]?=some fd->
  f.offset=fd.off/\0<fd.size/\ ∃ ti d,P.info? f.type=some ti/\ti.size=fd.size/\P.underlying f.type=some d/\th d=fd.agg
 | .mp n zv=> ∃ k el ti z,P.underlying t=some (.map k el)/\P.info? el=some ti/\ti.zero=some z/\still zv=true/\(∀ (w:World) (X:Nat->Prop) (ρ:Places),PRd w X ρ z zv)/\WideMaps.KeyLaw P k/\
  ∀ ks:List Int,ks.length=n->(∀ x∈ks,-9223372036854775808<=x/\x<9223372036854775808)-> ∃ l,keyOf P k (.agg (ks.map (Value.int .i64)).toArray)=some l
 | .other=> ∃ d,P.underlying t=some d/\th d=false
structure TyOk (P:Program) (t:Nat) (i:TyI):Prop where
 info: ∃ ti z,P.info? t=some ti/\ti.size=i.size/\ti.bytes=i.bytes/\ti.zero=some z/\i.zero=z.cells.toList.map PV.ofCell/\z.cells.size=i.size/\z.cells.toList.all Value.oneCell'=true
 desc:fm P t i.d
def ck (P:Program) (T:Tab):Prop:= ∀ t i,T.at t=some i->TyOk P t i
theorem Ny {P:Program} {T:Tab} (h: ∀ e∈T,TyOk P e.1 e.2):ck P T:=by
 intro t i ht;unfold Tab.at at ht;rw[Option.map_eq_some_iff] at ht;obtain⟨e,he,rfl⟩:=ht;have h1:=List.find?_some he;simp only[beq_iff_eq] at h1;subst h1;exact h e (List.mem_of_find?_eq_some he)
section
variable {P:Program} {c:fR} {w:World} {X:Nat->Prop} {ρ:Places}
theorem mK (u:Value):PRd w X ρ u (PV.ofCell u):=by
 cases u<;>first | exact .fv _ _ (.lit _ rfl) | exact .any _ | skip;unfold PV.ofCell;split
 .rename_i heq;rw[heq];exact .nilsl
 .exact .any _
 .exact .any _
 .exact .any _
 rename_i h2 _ _;exact(h2 _ _ _ rfl).elim
theorem kG (u:Value):PRd w X ρ u (PV.ofValue u):=by
 unfold PV.ofValue;split
 .split
  .rename_i cs h;refine .agg _ _ (by simp) (fun i v hv=>?_) (fun i v x hv hx=>?_)
   .rw[nF] at h;exact h v (Array.mem_toList_iff.2 (Array.mem_of_getElem? hv))
   rw[List.getElem?_map] at hx;simp only[Array.getElem?_toList,hv,Option.map_some,qo] at hx;subst hx;exact mK v
  exact .any _
 .refine .tup _ _ (by simp) (fun i v x hv hx=>?_);rw[List.getElem?_map] at hx;simp only[Array.getElem?_toList,hv,Option.map_some,qo] at hx;subst hx;exact mK v
 exact mK u
theorem o0 {a:Act} {env:List PV} (h:EnvRd w X ρ a.tmps env) (x:Operand):PRd w X ρ (a.eval x) (ev env x):=by
 cases x with
 | tmp t=>
  simp only[Act.eval,ev,qa];by_cases aG:t<a.tmps.size
  .have lY:t<env.length:=by rw[<-h.1];exact aG
   simp only[Array.getD_eq_getD_getElem?,Array.getElem?_eq_getElem aG,qb lY,Option.getD_some];exact h.2 t _ _ (Array.getElem?_eq_getElem aG) (qb lY)
  .have yG:env.length<=t:=by have h1:=h.1;rw[<-h1];exact Nat.le_of_not_lt aG
   rw[List.getElem?_eq_none yG];exact .any _
 | const v=>exact kG v
 | global g=>exact .any _
 | func f=>exact .fv _ _ (.lit _ rfl)
def OpOK (c:fR) (w:World) (X:Nat->Prop) (ρ:Places) (lo hi:Nat) (F':List Ob) (r:Result Next) (v:PV):Prop:=
 ∃ u w' X' ρ',(r= .ok (.value u) w'\/(r= .ok .skip w'/\u=undef))/\Stp c w w' X X' ρ ρ'/\HRd c w' X' ρ' F'/\PRd w' X' ρ' u v/\ ∀ id,(id<lo\/hi<=id)->ρ'[id]?=ρ[id]?
theorem OpOK.still {lo hi:Nat} {F:List Ob} {r:Result Next} {u:Value} {v:PV} (h:HRd c w X ρ F) (hr:r= .ok (.value u) w) (hu:PRd w X ρ u v):OpOK c w X ρ lo hi F r v:=
 ⟨u,w,X,ρ,.inl hr,Stp.refl,h,hu,fun _ _=>rfl⟩
theorem Ds {t:TypeId} {ti:TypeInfo} (h:P.info? t=some ti):(sizeOf t).run P w= .ok ti.size w:=by
 simp[sizeOf,typeInfo,h]
theorem iE {t:TypeId} {d:TypeDesc} (h:P.underlying t=some d):(isAgg t).run P w= .ok (th d) w:=by
 unfold isAgg;rw[Sem.run_bind,run_underlying h w];cases d<;>rfl
theorem TyOk.agg {t:Nat} {i:TyI} (h:TyOk P t i):(isAgg t).run P w= .ok i.isAgg w:=by
 have hd:=h.desc;unfold TyI.isAgg;cases hi:i.d<;>rw[hi] at hd<;>simp only[fm] at hd
 case other=>
  obtain⟨d,hd,he⟩:=hd;rw[iE hd,he]
 case st=>
  obtain⟨ffs,hd,_⟩:=hd;rw[iE hd];rfl
 case mp=>
  obtain⟨k,el,ti,z,hd,_⟩:=hd;rw[iE hd];rfl
 all_goals (rw[iE hd];rfl)
theorem JN {op:BinOp} {k:IntKind} {x y:Int} {cd:Prop} {v:Value} (h:vG op k x y=some (cd,v)) (hc:cd) (t:TypeId):
 (binOp op t (.int k x) (.int k y)).run P w= .ok v w/\v.oneCell'=true:=by
 cases op<;>simp only[vG,qo,Prod.mk.injEq,reduceCtorEq] at h<;>obtain⟨rfl,rfl⟩:=h<;>
  simp[binOp,Op.intArith,Op.intDiv,Op.intBits,Op.intCmp,Value.oneCell']<;>simp_all
theorem uM (op:BinOp) (t:TypeId) (x y:Operand) (k k':IntKind) (a b:Int):(eqGuard op t x y (.int k a) (.int k' b)).run P w= .ok () w:=by
 unfold eqGuard;cases op<;>simp
theorem lP (op:BinOp) (t:TypeId) (x y:Operand) (a b:Bool):(eqGuard op t x y (.bool a) (.bool b)).run P w= .ok () w:=by
 unfold eqGuard;cases op<;>simp
end
end Go.AM
