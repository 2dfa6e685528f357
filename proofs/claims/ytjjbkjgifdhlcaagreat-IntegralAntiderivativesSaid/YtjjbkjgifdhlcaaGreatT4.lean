/- The abstract machine:the operations,one by one,where memory is not written. -/
import Derived.Test.YtjjbkjgifdhlcaaGreatT3
import Derived.Lib.SliceRun
import Derived.ChangeKeysEq
import Derived.Test.YtjjbkjgifdhlcaaGreatT1
open List (getElem?_set_ne getElem?_take length_take)
namespace Go.AM
theorem PRd.litInv {w:World} {X:Nat->Prop} {ρ:Places} {u v:Value} (h:PRd w X ρ u (.fv (.lit v))):u=v:=by
 cases h with | fv _ _ h=>cases h;rfl
section
variable {P:Program} {T:Tab} {c:Ctx} {w:World} {X:Nat->Prop} {ρ:Places} {H R:List Ob} {o:Oper} {e:Operand->Value} {ρv:Operand->PV} {lo hi:Nat} {r:Res}
theorem run_equalIn_bool (d:Nat) {t:TypeId} (hu:P.underlying t=some .bool) (a b:Bool):(Op.equalIn (d+1) t (.bool a) (.bool b)).run P w= .ok (a==b) w:=by
 simp[Op.equalIn,run_underlying hu]
def StillOp (P:Program) (T:Tab) (op:Op):Prop:=
 ∀ {c:Ctx} {w:World} {X:Nat->Prop} {ρ:Places} {H F:List Ob} {o:Oper} {e:Operand->Value} {ρv:Operand->PV} {r:Res} {lo hi:Nat},
  o.op=op->HRd c w X ρ F->(∀ (j:Nat) o,H[j]?=some o->F[j]?=some o)->(∀ x∈op.operands,PRd w X ρ (e x) (ρv x))->opRes T H ρv op=some r->r.cond->
  r.heap=H/\OpOK c w X ρ lo hi F ((execOp e o).run P w) r.val
theorem still_move (x:Operand):StillOp P T (.move x):=by
 intro c w X ρ H F o e ρv r lo hi ho h hH hρ hres hc;simp only[opRes,Res.pure,qo] at hres;subst hres;exact⟨rfl,OpOK.still (u:=e x) h (by simp[execOp,ho]) (hρ x (by simp[Op.operands]))⟩
theorem still_assign (x:Operand):StillOp P T (.assign x):=by
 intro c w X ρ H F o e ρv r lo hi ho h hH hρ hres hc;simp only[opRes,Res.pure,qo] at hres;subst hres;exact⟨rfl,OpOK.still (u:=e x) h (by simp[execOp,ho]) (hρ x (by simp[Op.operands]))⟩
theorem still_pick (x a b:Operand):StillOp P T (.pick x a b):=by
 intro c w X ρ H F o e ρv r lo hi ho h hH hρ hres hc;have hx:=hρ x (by simp[Op.operands]);have ha:=hρ a (by simp[Op.operands]);have hb:=hρ b (by simp[Op.operands]);simp only[opRes] at hres;split at hres
 ·rename_i t ht;rw[ht] at hx;have he:=hx.litInv;simp only[Res.pure,qo] at hres;subst hres;refine⟨rfl,OpOK.still (u:=if t then e a else e b) h (by cases t<;>simp[execOp,ho,he,asBool]) ?_⟩;cases t<;>assumption
 ·cases hres
theorem still_nilCheck (x:Operand):StillOp P T (.nilCheck x):=by
 intro c w X ρ H F o e ρv r lo hi ho h hH hρ hres hc;have hx:=hρ x (by simp[Op.operands]);simp only[opRes] at hres;split at hres
 ·rename_i id j off ht;rw[ht] at hx;simp only[Res.pure,qo] at hres;subst hres;generalize hu:e x=u at hx;cases hx with
  | ptr id i off g p hp hg=>exact⟨rfl,OpOK.still h (by simp[execOp,ho,hu]) (.ptr id _ off g p hp hg)⟩
 ·rename_i cs ht;rw[ht] at hx;simp only[Res.pure,qo] at hres;subst hres;generalize hu:e x=u at hx;cases hx with
  | fv _ _ hf=>
   cases hf with
   | fp ad cs us h0 hX hb hcell hrd=>exact⟨rfl,OpOK.still h (by simp[execOp,ho,hu]) (.fv _ _ (.fp ad cs us h0 hX hb hcell hrd))⟩
 ·cases hres
theorem keyVs_rd7: ∀ (cs:List PV) (ks:List Int),keyVs cs=some ks->cs=ks.map (fun n=> .fv (.lit (.int .i64 n)))
 | [],ks,h=>by simp[keyVs] at h;subst h;rfl
 | c::cs,ks,h=>by
  simp only[keyVs] at h;split at h
  ·rename_i n ns h1 h2;cases h;rw[List.map_cons,<-keyVs_rd7 cs ns h2];unfold keyC at h1;split at h1
   ·cases h1;rfl
   ·cases h1
  ·cases h
theorem keyV_rd7 {w:World} {X:Nat->Prop} {ρ:Places} {u:Value} {x:PV} {ks:List Int} (h:PRd w X ρ u x) (hk:keyV x=some ks):u= .agg (ks.map (Value.int .i64)).toArray:=by
 unfold keyV at hk;split at hk;rotate_left
 ·cases hk
 have:=keyVs_rd7 _ _ hk;subst this;cases h with
 | agg us _ hn h1 hr=>
  congr 1;apply Array.ext
  ·simpa using hn
  ·intro i hi1 hi2;have:=hr i us[i] (.fv (.lit (.int .i64 (ks[i]'(by simpa using hi2))))) (by simp[hi1]) (by simp at hi2;simp[hi2]);have h2:=this.litInv;rw[h2];simp
theorem run_eqItems_ints {w:World} {d el:Nat} (hu:P.underlying el=some (.int .i64)) (xs ys:List Int): ∀ is:List Nat,(∀ i∈is,i<xs.length/\i<ys.length)->
 (Op.eqItems (d+1) el 1 (xs.map (Value.int .i64)).toArray (ys.map (Value.int .i64)).toArray is).run P w= .ok (is.all fun i=>xs[i]?==ys[i]?) w
 | [],_=>by simp[Op.eqItems]
 | i::is,h=>by
  obtain⟨h1,h2⟩:=h i (by simp);have hp:P.plainKey el=true:=by simp[Program.plainKey,hu]
  have p1:=run_part_plain (P:=P) w hp (xs:=(xs.map (Value.int .i64)).toArray) (off:=i) (v:= .int .i64 xs[i]) (by simp[h1]);have p2:=run_part_plain (P:=P) w hp (xs:=(ys.map (Value.int .i64)).toArray) (off:=i) (v:= .int .i64 ys[i]) (by simp[h2]);have p3:=run_equalIn_int (P:=P) w d el .i64 .i64 xs[i] ys[i] hu;have hxi:xs[i]?=some xs[i]:=by simp[h1]
  have hyi:ys[i]?=some ys[i]:=by simp[h2]
  simp only[Op.eqItems,Sem.run_bind,Nat.mul_one,p1,p2,p3,Result.andThen_ok,List.all_cons,hxi,hyi];cases hb:(xs[i]==ys[i]) with
  | false=>
   have:(some xs[i]==some ys[i])=false:=hb;simp[this]
  | true=>
   have:(some xs[i]==some ys[i])=true:=hb;rw[this];simpa using run_eqItems_ints hu xs ys is (fun j hj=>h j (ql _ hj))
theorem arrV_inv (hT:TabOk P T) {op:BinOp} {t:TypeId} {a b:PV} {r:Bool} (h:arrV (T.arN t) op (keyV a) (keyV b)=some r):
 ∃ n el xs ys,P.underlying t=some (.array n el)/\P.underlying el=some (.int .i64)/\(∃ ti,P.info? el=some ti/\ti.size=1)/\keyV a=some xs/\keyV b=some ys/\xs.length=n/\ys.length=n/\
  ((op= .eql/\r=(xs==ys))\/(op= .neq/\r=!(xs==ys))):=by
 have key: ∀ n,T.arN t=some n-> ∃ el,P.underlying t=some (.array n el)/\P.underlying el=some (.int .i64)/\(∃ ti,P.info? el=some ti/\ti.size=1):=by
  intro n hn;unfold Tab.arN at hn;split at hn;rotate_left
  ·cases hn
  rename_i i hi;have hd:=(hT t i hi).desc;split at hn;rotate_left
  ·cases hn
  rename_i hid;rw[hid] at hd;split at hn;rotate_left
  ·cases hn
  rename_i ie hie;split at hn;rotate_left
  ·cases hn
  rename_i hi64;cases hn;rw[qtb,beq_iff_eq] at hi64;obtain⟨hi64,hsz⟩:=hi64;have hde:=(hT _ _ hie).desc;unfold isI64 at hi64;split at hi64;rotate_left
  ·cases hi64
  rename_i hed;rw[hed] at hde;refine⟨_,hd,hde,?_⟩;obtain⟨ti,z,h1,h2,_⟩:=(hT _ _ hie).info;exact⟨ti,h1,h2.trans hsz⟩
 unfold arrV at h
 split at h
 ·rename_i n xs ys hn hx hy
  split at h
  ·rename_i hl
   cases h
   obtain⟨el,k1,k2,k3⟩:=key _ hn
   exact⟨_,el,xs,ys,k1,k2,k3,hx,hy,hl.1,hl.2,.inl ⟨rfl,rfl⟩⟩
  ·cases h
 ·rename_i n xs ys hn hx hy
  split at h
  ·rename_i hl
   cases h
   obtain⟨el,k1,k2,k3⟩:=key _ hn
   exact⟨_,el,xs,ys,k1,k2,k3,hx,hy,hl.1,hl.2,.inr ⟨rfl,rfl⟩⟩
  ·cases h
 ·cases h
theorem pure_binOp (hT:TabOk P T) (op:BinOp) (t:TypeId) (x y:Operand) (t':TypeId) {w:World} {X:Nat->Prop} {ρ:Places} {H:List Ob} {o:Oper} {e:Operand->Value} {ρv:Operand->PV} {r:Res}
 (ho:o.op= .binOp op t x y t') (hx:PRd w X ρ (e x) (ρv x)) (hy:PRd w X ρ (e y) (ρv y)) (hres:opRes T H ρv (.binOp op t x y t')=some r) (hc:r.cond):
 r.heap=H/\ ∃ u,(execOp e o).run P w= .ok (.value u) w/\PRd w X ρ u r.val:=by
 simp only[opRes] at hres
 split at hres
 ·rename_i cd v hb
  simp only[Res.if,qo] at hres
  subst hres
  unfold binV at hb
  split at hb
  ·rename_i k a k' b h1 h2
   rw[h1] at hx;rw[h2] at hy
   have ex:=hx.litInv
   have ey:=hy.litInv
   have key:(binOp op t (.int k a) (.int k' b)).run P w= .ok v w/\v.oneCell'=true:=by
    split at hb
    ·simp only[binShift,qo,Prod.mk.injEq] at hb;obtain⟨rfl,rfl⟩:=hb;have hneg: ¬b<0:=by simp only at hc;omega
     simp[binOp,Op.shift,hneg,Value.oneCell']
    ·simp only[binShift,qo,Prod.mk.injEq] at hb;obtain⟨rfl,rfl⟩:=hb;have hneg: ¬b<0:=by simp only at hc;omega
     simp[binOp,Op.shift,hneg,Value.oneCell']
    ·split at hb
     ·rename_i hk;subst hk;exact binInt_rd hb hc t
     ·cases hb
   refine⟨rfl,_,?_,(.fv _ _ (.lit v key.2))⟩
   simp[execOp,ho,ex,ey,run_eqGuard_int,key.1]
  ·rename_i a b h1 h2
   rw[h1] at hx;rw[h2] at hy
   have ex:=hx.litInv
   have ey:=hy.litInv
   split at hb
   ·cases hb
   ·rename_i htb
    have hu:P.underlying t=some .bool:=by
     unfold Tab.isBool at htb;split at htb
     ·rename_i i hi;have hd:=(hT t i hi).desc;split at htb
      ·rename_i hid;rw[hid] at hd;exact hd
      ·simp at htb
     ·simp at htb
    have heq:(Op.equal t (.bool a) (.bool b)).run P w= .ok (a==b) w:=by
     unfold Op.equal;exact run_equalIn_bool 9999 hu a b
    split at hb
    ·simp only[qo,Prod.mk.injEq] at hb
     obtain⟨rfl,rfl⟩:=hb
     refine⟨rfl,_,?_,(.fv _ _ (.lit _ rfl))⟩
     simp[execOp,ho,ex,ey,run_eqGuard_bool,binOp,heq]
    ·simp only[qo,Prod.mk.injEq] at hb
     obtain⟨rfl,rfl⟩:=hb
     refine⟨rfl,_,?_,(.fv _ _ (.lit _ rfl))⟩
     simp[execOp,ho,ex,ey,run_eqGuard_bool,binOp,heq]
    ·cases hb
  ·cases hb
 ·split at hres
  ·rename_i b hb
   split at hres
   ·rename_i hsl
    simp only[Res.pure,qo] at hres
    subst hres
    have hu: ∃ el,P.underlying t=some (.slice el):=by
     unfold Tab.isSl at hsl;split at hsl
     ·rename_i i hi;have hd:=(hT t i hi).desc;split at hsl
      ·rename_i el hid;rw[hid] at hd;exact⟨el,hd⟩
      ·simp at hsl
     ·simp at hsl
    obtain⟨el,hu⟩:=hu
    have key: ∃ a n cp,e x= .slice a n cp/\e y= .slice none 0 0/\((op= .eql/\b=a.isNone)\/(op= .neq/\b=!a.isNone)):=by
     unfold nilV at hb;split at hb<;>first | (cases hb;done) | skip
     all_goals
      rename_i h1 h2 _;rw[h1] at hx;rw[h2] at hy;have ey:e y= .slice none 0 0:=by
       generalize e y=u at hy;cases hy;rfl
      simp only[qo] at hb
      first
      | exact⟨_,_,_,hx.litInv,ey,.inl ⟨rfl,hb.symm⟩⟩
      | exact⟨_,_,_,hx.litInv,ey,.inr ⟨rfl,hb.symm⟩⟩
      | (generalize e x=u at hx;cases hx;first | exact⟨_,_,_,rfl,ey,.inl ⟨rfl,hb.symm⟩⟩ | exact⟨_,_,_,rfl,ey,.inr ⟨rfl,hb.symm⟩⟩)
      | (generalize e x=u at hx;cases hx;rename_i hf;cases hf;first | exact⟨_,_,_,rfl,ey,.inl ⟨rfl,hb.symm⟩⟩ | exact⟨_,_,_,rfl,ey,.inr ⟨rfl,hb.symm⟩⟩)
    obtain⟨a,n,cp,ex,ey,hor⟩:=key
    refine⟨rfl,_,?_,(.fv _ _ (.lit _ rfl))⟩
    rcases hor with⟨rfl,rfl⟩ | ⟨rfl,rfl⟩
    ·simp[execOp,ho,ex,ey,eqGuard,Lib.run_eql_slice_nil w t el a n cp 0 0 hu]
    ·have hq:(binOp .neq t (.slice a n cp) (.slice none 0 0)).run P w= .ok (.bool (!a.isNone)) w:=by
      simp only[binOp];simp[Op.equal,Op.maxDepth,Lib.run_equalIn_slice_nil w 9999 t el a n cp 0 0 hu]
     simp[execOp,ho,ex,ey,eqGuard,hq]
   ·cases hres
  ·split at hres
   ·rename_i b hb
    simp only[Res.pure,qo] at hres
    subst hres
    obtain⟨n,el,xs,ys,hu,hue,hti,hkx,hky,hlx,hly,hor⟩:=arrV_inv hT hb
    have ex:=keyV_rd7 hx hkx
    have ey:=keyV_rd7 hy hky
    obtain⟨ti,hti,hts⟩:=hti
    have heq:(Op.equalIn 10000 t (.agg (xs.map (Value.int .i64)).toArray) (.agg (ys.map (Value.int .i64)).toArray)).run P w= .ok (xs==ys) w:=by
     rw[run_equalIn_array w 9999 _ _ hu hti];have hce:P.cellsOf el=1:=by simp[Program.cellsOf,hti,hts]
     rw[hce,run_eqItems_ints hue xs ys (List.range n) (fun i hi=>by have:=List.mem_range.1 hi;omega)];congr 1;rw[Bool.eq_iff_iff];simp only[qob,List.mem_range,beq_iff_eq];constructor
     ·intro h;apply List.ext_getElem?;intro i;by_cases hi:i<n
      ·exact h i hi
      ·rw[List.getElem?_eq_none (by omega),List.getElem?_eq_none (by omega)]
     ·intro h i _;rw[h]
    have hgd: ∀ op',(eqGuard op' t x y (.agg (xs.map (Value.int .i64)).toArray) (.agg (ys.map (Value.int .i64)).toArray)).run P w= .ok () w:=fun op'=>by
     refine run_eqGuard_agg w op' t x y _ _ ?_;unfold Program.depth;rw[show 2*(P.types.size+Made.depth)+2=(2*(P.types.size+Made.depth)+1)+1 from rfl];simp only[Program.eqGuardType,hu,hue]
    refine⟨rfl,_,?_,(.fv _ _ (.lit _ rfl))⟩
    rcases hor with⟨rfl,rfl⟩ | ⟨rfl,rfl⟩
    ·simp only[execOp,ho,ex,ey,Sem.run_bind,hgd,Result.andThen_ok,run_eql_struct,heq]
     rfl
    ·simp only[execOp,ho,ex,ey,Sem.run_bind,hgd,Result.andThen_ok,run_neq_struct,heq]
     rfl
   ·cases hres
theorem still_binOp (hT:TabOk P T) (op:BinOp) (t:TypeId) (x y:Operand) (t':TypeId):StillOp P T (.binOp op t x y t'):=by
 intro c w X ρ H F o e ρv r lo hi ho h hH hρ hres hc;obtain⟨h1,u,h2,h3⟩:=pure_binOp hT op t x y t' ho (hρ x (by simp[Op.operands])) (hρ y (by simp[Op.operands])) hres hc;exact⟨h1,OpOK.still h h2 h3⟩
theorem still_unOp (op:UnOp) (t:TypeId) (x:Operand):StillOp P T (.unOp op t x):=by
 intro c w X ρ H F o e ρv r lo hi ho h hH hρ hres hc;have hx:=hρ x (by simp[Op.operands]);simp only[opRes] at hres;split at hres
 ·rename_i v hv;simp only[Res.pure,qo] at hres;subst hres;unfold unV at hv;split at hv
  all_goals first | (cases hv;done) | skip
  all_goals
   rename_i h1;rw[h1] at hx;have ex:=hx.litInv;simp only[qo] at hv;subst hv;refine⟨rfl,OpOK.still h ?_ (.fv _ _ (.lit _ rfl))⟩;simp[execOp,ho,ex,Op.unary,Op.intArith,Op.intBits]
 ·cases hres
theorem still_convert (hT:TabOk P T) (src dst:TypeId) (x:Operand):StillOp P T (.convert src dst x):=by
 intro c w X ρ H F o e ρv r lo hi ho h hH hρ hres hc;have hx:=hρ x (by simp[Op.operands]);simp only[opRes] at hres;split at hres
 ·rename_i i j k n hi hj hv;rw[hv] at hx;have ex:=hx.litInv;split at hres
  ·rename_i k1 k2 hd1 hd2;have u1:=(hT _ _ hi).desc;have u2:=(hT _ _ hj).desc;rw[hd1] at u1;rw[hd2] at u2;simp only[TyDesc] at u1 u2;simp only[Res.pure,qo] at hres;subst hres;refine⟨rfl,OpOK.still h ?_ (.fv _ _ (.lit _ rfl))⟩;simp[execOp,ho,ex,convert,run_underlying u1,run_underlying u2,Conv.intToInt]
  ·cases hres
 ·cases hres
theorem still_extract (x:Operand) (ix:Nat):StillOp P T (.extract x ix):=by
 intro c w X ρ H F o e ρv r lo hi ho h hH hρ hres hc;have hx:=hρ x (by simp[Op.operands]);simp only[opRes] at hres;split at hres
 ·rename_i vs hv;rw[hv] at hx;split at hres
  ·rename_i v hvs;simp only[Res.pure,qo] at hres;subst hres;generalize hu:e x=u at hx;cases hx with
   | tup us _ hn hr=>
    have hlt:ix<us.size:=by rw[hn];exact(List.getElem?_eq_some_iff.1 hvs).1
    refine⟨rfl,OpOK.still h (u:=us[ix]) ?_ (hr ix _ _ (Array.getElem?_eq_getElem hlt) hvs)⟩;simp[execOp,ho,hu,Instr.extract,Array.getElem?_eq_getElem hlt]
  ·cases hres
 ·cases hres
end
end Go.AM
namespace Go.AM
theorem addr_add (g k n:Nat):(⟨g,k,none⟩:Addr).add n=⟨g,k+n,none⟩:=by unfold Addr.add;split<;>simp_all
theorem addr_add' {a:Addr} (h:a.spot=none) (n:Nat):a.add n=⟨a.block,a.off+n,none⟩:=by
 obtain⟨g,k,s⟩:=a;simp only at h;subst h;exact addr_add g k n
theorem PRd.lslInv {w:World} {X:Nat->Prop} {ρ:Places} {v:Value} {id off len s:Nat} (h:PRd w X ρ v (.lsl id off len s)):
 ∃ p,ρ[id]?=some (some p)/\p.size=s/\((p.b=none/\v= .slice none 0 0/\off=0/\len=0)\/
  ∃ g o,p.b=some g/\v= .slice (some ⟨g,o,none⟩) len (p.cap - off)/\off+len<=p.cap/\(o=off*p.size\/(off=p.cap/\off≠0))):=by
 generalize hpv:PV.lsl id off len s=pv at h
 cases h
 case lsl0 p hp hg=>
  injection hpv with h1 h2 h3 h4
  subst h1 h2 h3 h4;exact⟨p,by assumption,rfl,.inl ⟨by assumption,rfl,rfl,rfl⟩⟩
 case lsl=>
  injection hpv with h1 h2 h3 h4
  subst h1 h2 h3 h4;exact⟨_,by assumption,rfl,.inr ⟨_,_,by assumption,rfl,by assumption,by assumption⟩⟩
 all_goals cases hpv
section
variable {P:Program} {T:Tab}
theorem still_fieldAddr (hT:TabOk P T) (t:TypeId) (x:Operand) (f:Nat):StillOp P T (.fieldAddr t x f):=by
 intro c w X ρ H F o e ρv r lo hi ho h hH hρ hres hc;have hx:=hρ x (by simp[Op.operands]);simp only[opRes] at hres;split at hres;rotate_left
 ·cases hres
 rename_i i hi;split at hres;rotate_left
 ·cases hres
 rename_i fs hfs;have hd:=(hT _ _ hi).desc;rw[hfs] at hd;obtain⟨ffs,hu,hsz,hfld⟩:=hd;split at hres
 ·rename_i fd id j off hfd hv;rw[hv] at hx;simp only[Res.pure,qo] at hres;subst hres;have hlt:f<ffs.size:=by rw[hsz];exact(List.getElem?_eq_some_iff.1 hfd).1
  obtain⟨ho1,ho2,ti,d,hti,hts,_,_⟩:=hfld f _ _ (Array.getElem?_eq_getElem hlt) hfd;generalize hue:e x=u at hx;cases hx with
  | ptr id i off g p hp hg=>
   refine⟨rfl,OpOK.still h (u:= .pointer (some ⟨g,j*p.size+(off+fd.off),none⟩)) ?_ (.ptr id j _ g p hp hg)⟩;simp[execOp,ho,hue,Instr.fieldAt,run_underlying hu,Array.getElem?_eq_getElem hlt,Instr.sureAddr,fieldPlace,sizeOf,typeInfo,hti,show¬ti.size=0 by omega,addr_add,ho1];omega
 ·rename_i fd cs hfd hv;rw[hv] at hx;simp only[Res.if,qo] at hres;subst hres;have hlt:f<ffs.size:=by rw[hsz];exact(List.getElem?_eq_some_iff.1 hfd).1
  obtain⟨ho1,ho2,ti,d,hti,hts,_,_⟩:=hfld f _ _ (Array.getElem?_eq_getElem hlt) hfd;generalize hue:e x=u at hx;cases hx with
  | fv _ _ hf=>
   cases hf with
   | fp ad cs us h0 hX hb hcell hrd=>
    refine⟨rfl,OpOK.still h (u:= .pointer (some ⟨ad.block,ad.off+fd.off,none⟩)) ?_ (.fv _ _ (.fp _ _ (fun j=>us (fd.off+j)) rfl hX hb (fun j y hy=>?_) (fun j y hy=>?_)))⟩
    ·simp[execOp,ho,hue,Instr.fieldAt,run_underlying hu,Array.getElem?_eq_getElem hlt,Instr.sureAddr,fieldPlace,sizeOf,typeInfo,hti,show¬ti.size=0 by omega,addr_add' h0,ho1]
    ·rw[List.getElem?_drop] at hy;simp only[Nat.add_assoc];exact hcell _ y hy
    ·rw[List.getElem?_drop] at hy;exact hrd _ y hy
 ·cases hres
theorem elemP_rd {w:World} {X:Nat->Prop} {ρ:Places} {s id k g:Nat} {o:Option Ob} {p:Place} (hs:p.size=s) (hp:ρ[id]?=some (some p)) (hg:p.b=some g):PRd w X ρ (.pointer (some ⟨g,k*p.size+0,none⟩)) (elemP s o id k):=by
 unfold elemP;split
 ·split
  ·rename_i h1;have:k*p.size+0=0*p.size+k:=by rw[hs,h1];omega
   rw[this];exact .ptr id 0 k g p hp hg
  ·exact .any _
 ·exact .ptr id k 0 g p hp hg
theorem still_indexAddr (hT:TabOk P T) (t:TypeId) (x ix:Operand):StillOp P T (.indexAddr t x ix):=by
 intro c w X ρ H F o e ρv r lo hi ho h hH hρ hres hc;have hx:=hρ x (by simp[Op.operands]);have hix:=hρ ix (by simp[Op.operands]);simp only[opRes] at hres;split at hres;rotate_left
 ·cases hres
 rename_i i n hi hn;have hk: ∃ k,e ix= .int k n:=by
  unfold PV.asInt at hn;split at hn
  ·rename_i k m hm;cases hn;rw[hm] at hix;exact⟨k,hix.litInv⟩
  ·cases hn
 obtain⟨k,hek⟩:=hk;have hd:=(hT _ _ hi).desc;split at hres
 ·rename_i el hel;rw[hel] at hd;simp only[TyDesc] at hd;split at hres
  ·rename_i ie id off len s hie hv;rw[hv] at hx;obtain⟨ti,z,hti,hts,_⟩:=(hT _ _ hie).info;split at hres
   ·rename_i hs;simp only[Res.if,qo] at hres;subst hres;simp only at hc;subst hs;generalize hue:e x=u at hx;obtain⟨p,hp,hps,h3 | ⟨g,og,hg,rfl,hl,hoo⟩⟩:=hx.lslInv
    ·omega
    ·have ho':og=off*p.size:=by
      rcases hoo with hoo | hoo
      ·exact hoo
      ·omega
     subst ho';refine⟨rfl,OpOK.still h (u:= .pointer (some ⟨g,(off+n.toNat)*p.size+0,none⟩)) ?_ (elemP_rd hps hp hg)⟩;have h1:0<=n/\n<(len:Int):=hc;simp[execOp,ho,hue,hek,Instr.indexAt,asIntOf,run_underlying hd,h1,sizeOf,typeInfo,hti,hts,hps,addr_add,Nat.add_mul]
   ·cases hres
  ·rename_i ie xs hie hv;rw[hv] at hx;obtain⟨ti,z,hti,hts,_⟩:=(hT _ _ hie).info;simp only[Res.if,qo] at hres;subst hres;obtain⟨h0,hlt,hlen,hpos⟩:=hc;have hlt':n.toNat<xs.length:=by omega
   generalize hue:e x=u at hx;cases hx with
   | fv _ _ hf=>
    cases hf with
    | nil=>simp at hlt'
    | sl ad m cap s xs us hn' hcap hs h0' hX hb hcell hrd=>
     have hg:xs[n.toNat]?=some (xs.getD n.toNat []):=by simp[hlt']
     have hse:s=ie.size:=by rw[<-hlen];exact(hs _ (List.mem_of_getElem? hg)).symm
     refine⟨rfl,OpOK.still h (u:= .pointer (some ⟨ad.block,ad.off+n.toNat*ie.size,none⟩)) ?_ (.fv _ _ (.fp _ _ (fun j=>us n.toNat j) rfl (hX (by omega)) (hb (by omega)) (fun j y hy=>?_) (fun j y hy=>?_)))⟩
     ·have h1:0<=n/\n<(m:Int):=by omega
      simp[execOp,ho,hue,hek,Instr.indexAt,asIntOf,run_underlying hd,h1,sizeOf,typeInfo,hti,hts,addr_add' h0']
     ·have:=hcell n.toNat j _ y hg hy;rw[hse,<-Nat.add_assoc] at this;exact this
     ·exact hrd n.toNat j _ y hg hy
  ·rename_i ie xs hie hv;rw[hv] at hx;obtain⟨ti,z,hti,hts,_⟩:=(hT _ _ hie).info;simp only[Res.if,qo] at hres;subst hres;obtain⟨h0,hlt,hlen,hpos⟩:=hc;have hlt':n.toNat<xs.length:=by omega
   generalize hue:e x=u at hx;cases hx with
   | clip a m _ hf=>
    cases hf with
    | nil=>simp at hlt'
    | sl ad _ cap s xs us hn' hcap hs h0' hX hb hcell hrd=>
     have hg:xs[n.toNat]?=some (xs.getD n.toNat []):=by simp[hlt']
     have hse:s=ie.size:=by rw[<-hlen];exact(hs _ (List.mem_of_getElem? hg)).symm
     refine⟨rfl,OpOK.still h (u:= .pointer (some ⟨ad.block,ad.off+n.toNat*ie.size,none⟩)) ?_ (.fv _ _ (.fp _ _ (fun j=>us n.toNat j) rfl (hX (by omega)) (hb (by omega)) (fun j y hy=>?_) (fun j y hy=>?_)))⟩
     ·have h1:0<=n/\n<(m:Int):=by omega
      simp[execOp,ho,hue,hek,Instr.indexAt,asIntOf,run_underlying hd,h1,sizeOf,typeInfo,hti,hts,addr_add' h0']
     ·have:=hcell n.toNat j _ y hg hy;rw[hse,<-Nat.add_assoc] at this;exact this
     ·exact hrd n.toNat j _ y hg hy
  ·cases hres
 ·rename_i kk el hel;rw[hel] at hd;simp only[TyDesc] at hd;split at hres
  ·rename_i ie id j off hie hv;rw[hv] at hx;obtain⟨ti,z,hti,hts,_⟩:=(hT _ _ hie).info;split at hres;rotate_left
   ·cases hres
   rename_i hk1;simp only[Res.if,qo] at hres;subst hres;generalize hue:e x=u at hx;cases hx with
   | ptr id i off g p hp hg=>
    have h1:0<=n/\n<(kk:Int):=hc;refine⟨rfl,OpOK.still h (u:= .pointer (some ⟨g,j*p.size+(off+n.toNat*ie.size),none⟩)) ?_ (.ptr id j _ g p hp hg)⟩;simp[execOp,ho,hue,hek,Instr.indexAt,Instr.sureAddr,asIntOf,run_underlying hd,h1,sizeOf,typeInfo,hti,hts,addr_add];omega
  ·rename_i ie cs hie hv;rw[hv] at hx;obtain⟨ti,z,hti,hts,_⟩:=(hT _ _ hie).info;split at hres;rotate_left
   ·cases hres
   rename_i hk1;simp only[Res.if,qo] at hres;subst hres;obtain⟨h0n,hnk,hsz,hpos⟩:=hc;generalize hue:e x=u at hx;cases hx with
   | fv _ _ hf=>
    cases hf with
    | fp ad cs us h0 hX hb hcell hrd=>
     have h1:0<=n/\n<(kk:Int):=⟨h0n,hnk⟩;refine⟨rfl,OpOK.still h (u:= .pointer (some ⟨ad.block,ad.off+n.toNat*ie.size,none⟩)) ?_ (.fv _ _ (.fp _ _ (fun j=>us (n.toNat*ie.size+j)) rfl hX hb (fun j y hy=>?_) (fun j y hy=>?_)))⟩
     ·simp[execOp,ho,hue,hek,Instr.indexAt,Instr.sureAddr,asIntOf,run_underlying hd,h1,sizeOf,typeInfo,hti,hts,addr_add' h0]
     ·rw[List.getElem?_drop] at hy;simp only[Nat.add_assoc];exact hcell _ y hy
     ·rw[List.getElem?_drop] at hy;exact hrd _ y hy
  ·cases hres
 ·cases hres
end
end Go.AM
namespace Go.AM
section
variable {P:Program} {T:Tab}
theorem load_rd (hT:TabOk P T) {t:TypeId} {i:TyI} (hi:T.at t=some i) {w:World} {X:Nat->Prop} {ρ:Places} {ad:Addr} (h0:ad.spot=none) {us:Nat->Value} {cs:List PV}
 (hn:cs.length=i.size) (hcell: ∀ (j:Nat) y,cs[j]?=some y->w.cell? ⟨ad.block,ad.off+j,none⟩=some (us j)) (h1: ∀ (j:Nat) y,cs[j]?=some y->(us j).oneCell'=true)
 (hrd: ∀ (j:Nat) y,cs[j]?=some y->PRd w X ρ (us j) y) {v:PV} (hv:oneOr i cs=some v):
 ∃ u,(loadVar t ad).run P w= .ok u w/\PRd w X ρ u v:=by
 obtain⟨ti,z,hti,hts,_⟩:=(hT _ _ hi).info
 have hag:=(hT _ _ hi).agg (w:=w)
 unfold oneOr at hv
 split at hv
 ·rename_i hagg
  cases hv
  have hl:(loadCells ad i.size).run P w= .ok ((List.range i.size).map us).toArray w:=run_loadCells w ad i.size us (fun j hj=>by
   rw[addr_add' h0];exact hcell j cs[j] (by simp[hn,hj]))
  refine⟨.agg ((List.range i.size).map us).toArray,?_,.agg _ _ (by simp[hn]) (fun j u hu=>?_) (fun j u y hu hy=>?_)⟩
  ·simp[loadVar,hag,hagg,sizeOf,typeInfo,hti,hts,hl]
  ·have hlt:j<i.size:=by simpa using(Array.getElem?_eq_some_iff.1 hu).1
   simp[hlt] at hu
   subst hu
   exact h1 j cs[j] (by simp[hn,hlt])
  ·have hlt:j<i.size:=by simpa using(Array.getElem?_eq_some_iff.1 hu).1
   simp[hlt] at hu
   subst hu
   exact hrd j y hy
 ·rename_i hagg
  split at hv
  ·rename_i hs
   cases hv
   have hlt:0<cs.length:=by omega
   have hg:cs[0]?=some (cs.headD .any):=by cases cs<;>simp at hlt ⊢
   have hc:=hcell 0 _ hg
   have had:ad=⟨ad.block,ad.off+0,none⟩:=by
    obtain⟨b,f,s⟩:=ad;simp only at h0;subst h0;rfl
   refine⟨us 0,?_,hrd 0 _ hg⟩
   simp only[Bool.not_eq_true] at hagg
   rw[<-had] at hc
   simp[loadVar,hag,hagg,run_load,hc]
  ·cases hv
theorem still_load (hT:TabOk P T) (t:TypeId) (x:Operand):StillOp P T (.load t x):=by
 intro c w X ρ H F o e ρv r lo hi ho h hH hρ hres hc;have hx:=hρ x (by simp[Op.operands]);simp only[opRes] at hres;split at hres;rotate_left
 ·cases hres
 rename_i i hi;split at hres
 ·rename_i id j off hv;rw[hv] at hx;split at hres;rotate_left
  ·cases hres
  rename_i cd cs hcs;split at hres;rotate_left
  ·cases hres
  rename_i v hone;simp only[Res.if,qo] at hres;subst hres;simp only at hc;generalize hue:e x=u at hx;cases hx with
  | ptr _ _ _ g p hp hg=>
   unfold cellsAt at hcs;split at hcs
   ·rename_i rw xs hob;simp only[qo,Prod.mk.injEq] at hcs;obtain⟨rfl,rfl⟩:=hcs;obtain⟨hjl,hoff⟩:=hc;obtain⟨⟨hpos,hlen,us,hus,hcell⟩,_⟩:=h.ob id p _ hp (hH id _ hob);have hgj:xs[j]?=some (xs.getD j []):=by simp[hjl]
    have hown:World.ownsRow w 0 p.e p.size (.slice (some ⟨g,0,none⟩) xs.length p.cap) xs.length us:=by simpa [Place.val,hg] using hus
    have hfl:(((xs.getD j []).drop off).take i.size).length=i.size:=by simp only[length_take,qt];omega
    have hget: ∀ (k:Nat) y,((((xs.getD j []).drop off).take i.size).map PV.fv)[k]?=some y-> ∃ z u,y= .fv z/\us[j*p.size+(off+k)]?=some u/\FRd w X u z:=by
     intro k y hy;rw[List.getElem?_map,Option.map_eq_some_iff] at hy;obtain⟨z,hz,rfl⟩:=hy;rw[getElem?_take] at hz;split at hz
     ·rw[List.getElem?_drop] at hz;obtain⟨u,hu,hfu⟩:=hcell j (off+k) _ z hgj hz;exact⟨z,u,rfl,hu,hfu⟩
     ·cases hz
    obtain⟨u,hrun,hrd⟩:=load_rd hT hi (w:=w) (X:=X) (ρ:=ρ) (ad:=⟨g,j*p.size+off,none⟩) rfl (us:=fun k=>us.getD (j*p.size+(off+k)) undef) (by simpa using hfl)
     (fun k y hy=>by
      obtain⟨z,u,_,hu,_⟩:=hget k y hy;have:=hown.cells (g:=g) rfl _ u hu;rw[addr_add,Nat.zero_add] at this;simp only[qa,hu,Option.getD_some,Nat.add_assoc];exact this)
     (fun k y hy=>by
      obtain⟨z,u,_,hu,hfu⟩:=hget k y hy;simp only[qa,hu,Option.getD_some];exact hfu.one)
     (fun k y hy=>by
      obtain⟨z,u,rfl,hu,hfu⟩:=hget k y hy;simp only[qa,hu,Option.getD_some];exact .fv _ _ hfu) hone
    exact⟨rfl,OpOK.still h (by simp[execOp,ho,hue,Instr.loadAt,Instr.sureAddr,hrun]) hrd⟩
   ·rename_i rw bs hob;simp only[qo,Prod.mk.injEq] at hcs;obtain⟨rfl,rfl⟩:=hcs;obtain⟨rfl,hoff⟩:=hc;obtain⟨⟨g',us,hg',hh,hsz,h1,hcell⟩,_⟩:=h.ob id p _ hp (hH id _ hob);rw[hg] at hg';cases hg';have hfl:((bs.drop off).take i.size).length=i.size:=by simp only[length_take,qt];omega
    have hget: ∀ (k:Nat) y,((bs.drop off).take i.size)[k]?=some y-> ∃ u,us[off+k]?=some u/\PRd w X ρ u y:=by
     intro k y hy;rw[getElem?_take] at hy;split at hy
     ·rw[List.getElem?_drop] at hy;have hlt:off+k<us.size:=by rw[hsz];exact(List.getElem?_eq_some_iff.1 hy).1
      exact⟨us[off+k],Array.getElem?_eq_getElem hlt,hcell _ _ _ (Array.getElem?_eq_getElem hlt) hy⟩
     ·cases hy
    obtain⟨u,hrun,hrd⟩:=load_rd hT hi (w:=w) (X:=X) (ρ:=ρ) (ad:=⟨g,off,none⟩) rfl (us:=fun k=>us.getD (off+k) undef) hfl
     (fun k y hy=>by
      obtain⟨u,hu,_⟩:=hget k y hy;rw[cell_of_row w g _ us _ _ hh];simp only[Array.getD_eq_getD_getElem?,hu,Option.getD_some])
     (fun k y hy=>by
      obtain⟨u,hu,_⟩:=hget k y hy;simp only[Array.getD_eq_getD_getElem?,hu,Option.getD_some];exact h1 _ _ hu)
     (fun k y hy=>by
      obtain⟨u,hu,hfu⟩:=hget k y hy;simp only[Array.getD_eq_getD_getElem?,hu,Option.getD_some];exact hfu) hone
    exact⟨rfl,OpOK.still h (by simp[execOp,ho,hue,Instr.loadAt,Instr.sureAddr,hrun]) hrd⟩
   ·cases hcs
 ·rename_i cs hv;rw[hv] at hx;split at hres;rotate_left
  ·cases hres
  rename_i v hone;simp only[Res.if,qo] at hres;subst hres;simp only at hc;generalize hue:e x=u at hx;cases hx with
  | fv _ _ hf=>
   cases hf with
   | fp ad cs us h0 hX hb hcell hrd=>
    have hget: ∀ (k:Nat) y,((cs.take i.size).map PV.fv)[k]?=some y-> ∃ z,y= .fv z/\cs[k]?=some z:=by
     intro k y hy;rw[List.getElem?_map,Option.map_eq_some_iff] at hy;obtain⟨z,hz,rfl⟩:=hy;rw[getElem?_take] at hz;split at hz
     ·exact⟨z,rfl,hz⟩
     ·cases hz
    obtain⟨u,hrun,hrd⟩:=load_rd hT hi (w:=w) (X:=X) (ρ:=ρ) (ad:=ad) h0 (us:=us) (by simp;omega)
     (fun k y hy=>by obtain⟨z,_,hz⟩:=hget k y hy;exact hcell k z hz)
     (fun k y hy=>by obtain⟨z,_,hz⟩:=hget k y hy;exact(hrd k z hz).one)
     (fun k y hy=>by obtain⟨z,rfl,hz⟩:=hget k y hy;exact .fv _ _ (hrd k z hz)) hone
    exact⟨rfl,OpOK.still h (by simp[execOp,ho,hue,Instr.loadAt,Instr.sureAddr,hrun]) hrd⟩
 ·cases hres
theorem part_rd {t:TypeId} {ti:TypeInfo} {d:TypeDesc} (hti:P.info? t=some ti) (hd:P.underlying t=some d) {w:World} {X:Nat->Prop} {ρ:Places} {us:Array Value} {cs:List PV} {off:Nat}
 (hn:us.size=cs.length) (h1: ∀ (i:Nat) u,us[i]?=some u->u.oneCell'=true) (hr: ∀ (i:Nat) u c,us[i]?=some u->cs[i]?=some c->PRd w X ρ u c):
 (isAggD d=true->off+ti.size<=cs.length-> ∃ u,(part t us off).run P w= .ok u w/\PRd w X ρ u (.agg ((cs.drop off).take ti.size)))/\
 (isAggD d=false->off<cs.length-> ∃ u,(part t us off).run P w= .ok u w/\PRd w X ρ u (cs.getD off .any)):=by
 have hag:=run_isAgg' (P:=P) (w:=w) hd
 constructor
 ·intro ha hl
  refine⟨.agg (us.extract off (off+ti.size)),by simp[part,hag,ha,sizeOf,typeInfo,hti],.agg _ _ (by simp;omega) (fun i u hu=>?_) (fun i u x hu hx=>?_)⟩
  ·have hlt:i<(us.extract off (off+ti.size)).size:=(Array.getElem?_eq_some_iff.1 hu).1
   have hu':us[off+i]?=some u:=by
    rw[<-hu,Array.getElem?_extract,if_pos (by simpa using hlt)]
   exact h1 _ u hu'
  ·have hlt:i<(us.extract off (off+ti.size)).size:=(Array.getElem?_eq_some_iff.1 hu).1
   have hu':us[off+i]?=some u:=by
    rw[<-hu,Array.getElem?_extract,if_pos (by simpa using hlt)]
   rw[getElem?_take] at hx
   split at hx
   ·rw[List.getElem?_drop] at hx
    exact hr _ u x hu' hx
   ·cases hx
 ·intro ha hl
  have hlt:off<us.size:=by omega
  refine⟨us[off],by simp[part,hag,ha,Array.getElem?_eq_getElem hlt],?_⟩
  refine hr off _ _ (Array.getElem?_eq_getElem hlt) ?_
  simp[hl]
theorem still_field (hT:TabOk P T) (t:TypeId) (x:Operand) (f:Nat):StillOp P T (.field t x f):=by
 intro c w X ρ H F o e ρv r lo hi ho h hH hρ hres hc;have hx:=hρ x (by simp[Op.operands]);simp only[opRes] at hres;split at hres;rotate_left
 ·cases hres
 rename_i i hi;split at hres;rotate_left
 ·cases hres
 rename_i fs hfs;have hd:=(hT _ _ hi).desc;rw[hfs] at hd;obtain⟨ffs,hu,hsz,hfld⟩:=hd;split at hres
 ·rename_i fd cs hfd hv;rw[hv] at hx;have hlt:f<ffs.size:=by rw[hsz];exact(List.getElem?_eq_some_iff.1 hfd).1
  obtain⟨ho1,ho2,ti,d,hti,hts,hdd,hag⟩:=hfld f _ _ (Array.getElem?_eq_getElem hlt) hfd;generalize hue:e x=u at hx;cases hx with
  | agg us _ hn h1 hr=>
   have hpart:=part_rd hti hdd (w:=w) (X:=X) (ρ:=ρ) (off:=fd.off) hn h1 hr;split at hres
   ·rename_i hagg;simp only[Res.if,qo] at hres;subst hres;obtain⟨u,hrun,hrd⟩:=hpart.1 (by rw[hag];exact hagg) (by rw[hts];exact hc);rw[hts] at hrd;exact⟨rfl,OpOK.still h (by simp[execOp,ho,hue,Instr.field,run_underlying hu,Array.getElem?_eq_getElem hlt,asAgg,ho1,hrun]) hrd⟩
   ·rename_i hagg;split at hres
    ·simp only[Res.if,qo] at hres;subst hres;obtain⟨u,hrun,hrd⟩:=hpart.2 (by rw[hag];simpa using hagg) hc;exact⟨rfl,OpOK.still h (by simp[execOp,ho,hue,Instr.field,run_underlying hu,Array.getElem?_eq_getElem hlt,asAgg,ho1,hrun]) hrd⟩
    ·cases hres
 ·cases hres
end
end Go.AM
namespace Go.AM
section
variable {P:Program} {T:Tab}
theorem still_index (hT:TabOk P T) (t:TypeId) (x ix:Operand):StillOp P T (.index t x ix):=by
 intro c w X ρ H F o e ρv r lo hi ho h hH hρ hres hc;have hx:=hρ x (by simp[Op.operands]);have hix:=hρ ix (by simp[Op.operands]);simp only[opRes] at hres;split at hres;rotate_left
 ·cases hres
 rename_i i n hi hn;have hk: ∃ k,e ix= .int k n:=by
  unfold PV.asInt at hn;split at hn
  ·rename_i k m hm;cases hn;rw[hm] at hix;exact⟨k,hix.litInv⟩
  ·cases hn
 obtain⟨k,hek⟩:=hk;have hd:=(hT _ _ hi).desc;split at hres;rotate_left
 ·rename_i hel;rw[hel] at hd;simp only[TyDesc] at hd;split at hres
  ·rename_i s hv;rw[hv] at hx;simp only[Res.if,qo] at hres;subst hres;have hlt:n.toNat<s.size:=by have:=hc.1;have:=hc.2;omega
   refine⟨rfl,OpOK.still h ?_ (.fv _ _ (.lit _ rfl))⟩;have hr:(Instr.index t (.string s) (.int k n)).run P w= .ok (.int .u8 ((s[n.toNat]?).getD 0).toNat) w:=by
    rw[run_index_string w t s k n hd,dif_pos hc];have:s[n.toNat]?=some s[n.toNat]:=by simp[hlt]
    rw[this];rfl
   simp[execOp,ho,hek,hx.litInv,hr]
  ·cases hres
 ·cases hres
 rename_i kk el hel;rw[hel] at hd;simp only[TyDesc] at hd;split at hres;rotate_left
 ·cases hres
 rename_i ie cs hie hv;rw[hv] at hx;split at hres;rotate_left
 ·cases hres
 rename_i v hone;simp only[Res.if,qo] at hres;subst hres;obtain⟨h0,hlt,hl⟩:=hc;obtain⟨ti,z,hti,hts,_⟩:=(hT _ _ hie).info;generalize hue:e x=u at hx;cases hx with
 | agg us _ hn h1 hr=>
  have hag:=(hT _ _ hie).agg (w:=w);have h2:0<=n/\n<(kk:Int):=⟨h0,hlt⟩;unfold oneOr at hone;split at hone
  ·rename_i hagg;cases hone;refine⟨rfl,OpOK.still h (u:= .agg (us.extract (n.toNat*ie.size) (n.toNat*ie.size+ie.size))) ?_ (.agg _ _ (by simp;omega) (fun i u hu=>?_) (fun i u y hu hy=>?_))⟩
   ·simp[execOp,ho,hue,hek,Instr.index,asIntOf,run_underlying hd,h2,sizeOf,typeInfo,hti,hts,part,hag,hagg]
   ·have hlt:i<(us.extract (n.toNat*ie.size) (n.toNat*ie.size+ie.size)).size:=(Array.getElem?_eq_some_iff.1 hu).1;have hu':us[n.toNat*ie.size+i]?=some u:=by rw[<-hu,Array.getElem?_extract,if_pos (by simpa using hlt)]
    exact h1 _ u hu'
   ·have hlt:i<(us.extract (n.toNat*ie.size) (n.toNat*ie.size+ie.size)).size:=(Array.getElem?_eq_some_iff.1 hu).1;have hu':us[n.toNat*ie.size+i]?=some u:=by rw[<-hu,Array.getElem?_extract,if_pos (by simpa using hlt)]
    rw[getElem?_take] at hy;split at hy
    ·rw[List.getElem?_drop] at hy;exact hr _ u y hu' hy
    ·cases hy
  ·rename_i hagg;split at hone
   ·rename_i hs;cases hone;have hlt:n.toNat*ie.size<us.size:=by omega
    refine⟨rfl,OpOK.still h (u:=us[n.toNat*ie.size]) ?_ (hr _ _ _ (Array.getElem?_eq_getElem hlt) ?_)⟩
    ·simp only[Bool.not_eq_true] at hagg;simp[execOp,ho,hue,hek,Instr.index,asIntOf,run_underlying hd,h2,sizeOf,typeInfo,hti,hts,part,hag,hagg,Array.getElem?_eq_getElem hlt]
    ·rw[hs];simp only[List.headD_eq_head?_getD,List.head?_take,List.head?_drop];have:n.toNat*1<cs.length:=by rw[<-hs];omega
     rw[if_neg (by omega),qb this];rfl
   ·cases hone
theorem bound_rd {w:World} {X:Nat->Prop} {ρ:Places} {ov:Option Operand} {e:Operand->Value} {ρv:Operand->PV} (hρ: ∀ x∈ov.toArray,PRd w X ρ (e x) (ρv x)) {d n:Nat} {cd:Prop}
 (hb:bound (ov.map ρv) d=some (cd,n)):(ov=none/\n=d/\cd=True)\/ ∃ x k m,ov=some x/\e x= .int k m/\cd=(0<=m)/\n=m.toNat:=by
 cases ov with
 | none=>
  simp only[Option.map_none,bound,qo,Prod.mk.injEq] at hb;exact .inl ⟨rfl,hb.2.symm,hb.1.symm⟩
 | some x=>
  right;have hx:=hρ x (by simp);simp only[Option.map_some,bound] at hb;split at hb
  ·rename_i m hm;unfold PV.asInt at hm;split at hm
   ·rename_i k q hq;cases hm;rw[hq] at hx;cases hb;exact⟨x,k,m,rfl,hx.litInv,rfl,rfl⟩
   ·cases hm
  ·cases hb
theorem run_slice2 {w:World} {t el:TypeId} {ti:TypeInfo} (hu:P.underlying t=some (.slice el)) (hti:P.info? el=some ti) {lo hi:Option Operand} {e:Operand->Value} {ρv:Operand->PV} {X:Nat->Prop} {ρ:Places}
 (hlo: ∀ x∈lo.toArray,PRd w X ρ (e x) (ρv x)) (hhi: ∀ x∈hi.toArray,PRd w X ρ (e x) (ρv x)) {len cap l h:Nat} {c1 c2:Prop} (b:Option Addr)
 (hb1:bound (lo.map ρv) 0=some (c1,l)) (hb2:bound (hi.map ρv) len=some (c2,h)) (hc1:c1) (hc2:c2) (hlh:l<=h) (hhc:h<=cap):
 (Instr.sliceAt t (.slice b len cap) (lo.map e) (hi.map e) none).run P w= .ok (.slice (if cap=l then b else b.map (·.add (l*ti.size))) (h - l) (cap - l)) w:=by
 have key:(Instr.sliceBounds true len cap (lo.map e) (hi.map e) none).run P w= .ok (l,h,cap) w:=by
  rcases bound_rd hlo hb1 with⟨rfl,rfl,_⟩ | ⟨x,k,m,rfl,hx,rfl,rfl⟩<;>
   rcases bound_rd hhi hb2 with⟨rfl,rfl,_⟩ | ⟨y,k',m',rfl,hy,rfl,rfl⟩
  ·simp[Instr.sliceBounds]
  ·have h1:0<=m'/\m'<=(cap:Int):=by omega
   simp[Instr.sliceBounds,Instr.sliceBound,hy,asIntOf,h1]
  ·have h1:0<=m/\m<=(h:Int):=by omega
   simp[Instr.sliceBounds,Instr.sliceBound,hx,asIntOf,h1]
  ·have h1:0<=m'/\m'<=(cap:Int):=by omega
   have h2:0<=m/\m<=max m' 0:=by omega
   simp[Instr.sliceBounds,Instr.sliceBound,hx,hy,asIntOf,h1,h2]
 simp[Instr.sliceAt,run_underlying hu,Instr.slice,key,sizeOf,typeInfo,hti]
theorem frd_sub {w:World} {X:Nat->Prop} {b:Option Addr} {n cap l h sz:Nat} {xs:List (List FV)} (hf:FRd w X (.slice b n cap) (.sl xs)) (hs: ∀ x∈xs,x.length=sz) (hlh:l<=h) (hhl:h<=n):
 FRd w X (.slice (if cap=l then b else b.map (·.add (l*sz))) (h - l) (cap - l)) (.sl ((xs.drop l).take (h - l))):=by
 cases hf with
 | nil=>
  have:l=0:=by omega
  subst this;have:h=0:=by omega
  subst this;simp;exact .nil
 | sl ad _ _ s _ us hn hcap hss h0 hX hb hcell hrd=>
  by_cases hz:h - l=0
  ·rw[hz];simp only[List.take_zero];by_cases hcl:cap=l
   ·rw[if_pos hcl];exact .sl ad 0 _ 0 [] (fun _ _=>undef) rfl (qsq _) (by simp) h0 (fun h=>absurd rfl h) (fun h=>absurd rfl h) (by simp) (by simp)
   ·rw[if_neg hcl];refine .sl _ 0 _ 0 [] (fun _ _=>undef) rfl (qsq _) (by simp) ?_ (fun h=>absurd rfl h) (fun h=>absurd rfl h) (by simp) (by simp);simp only[addr_add' h0]
  ·have hcl: ¬cap=l:=by omega
   rw[if_neg hcl];have hne:xs≠[]:=by intro hx;subst hx;simp at hn;omega
   have hsz:s=sz:=by
    cases xs with
    | nil=>exact absurd rfl hne
    | cons x xs=>rw[<-hss x (by simp),hs x (by simp)]
   subst hsz;simp only[Option.map_some,addr_add' h0];refine .sl _ _ _ s _ (fun i j=>us (l+i) j) (by simp;omega) (by omega) (fun x hx=>hss x (qgb (qfb hx))) rfl (fun _=>hX (by omega)) (fun _=>hb (by omega)) (fun i j x y hx hy=>?_) (fun i j x y hx hy=>?_)
   ·rw[getElem?_take] at hx;split at hx
    ·rw[List.getElem?_drop] at hx;have:=hcell _ j x y hx hy;rw[<-this];congr 2;simp only[Nat.add_mul];omega
    ·cases hx
   ·rw[getElem?_take] at hx;split at hx
    ·rw[List.getElem?_drop] at hx;exact hrd _ j x y hx hy
    ·cases hx
theorem room_rd {c:Ctx} {w:World} {X:Nat->Prop} {ρ:Places} {F H:List Ob} (h:HRd c w X ρ F) (hH: ∀ (j:Nat) o,H[j]?=some o->F[j]?=some o) {id:Nat} {p:Place} (hp:ρ[id]?=some (some p)) (off len:Nat) (lo hi:Option PV):
 (p.b=none->room H id off len lo hi<=len)/\(p.b≠none->room H id off len lo hi<=max len (p.cap - off)):=by
 unfold room
 split
 ·split
  ·rename_i rw xs hob
   obtain⟨⟨_,_,us,hus,_⟩,_⟩:=h.ob id p _ hp (hH _ _ hob)
   obtain⟨_,hcase⟩:=hus
   constructor
   ·intro hg
    rcases hcase with⟨_,h6⟩ | ⟨g',cap',cur2,h5,_⟩
    ·rw[h6];omega
    ·simp[Place.val,hg] at h5
   ·intro hg
    obtain⟨g,hg⟩:=Option.ne_none_iff_exists'.1 hg
    rcases hcase with⟨h5,h6⟩ | ⟨g',cap',cur,h5,_,hcur,hnc,_⟩
    ·rw[h6];omega
    ·simp only[Place.val,hg,Value.slice.injEq] at h5
     omega
  ·exact⟨fun _=>qp _,fun _=>Nat.le_max_left _ _⟩
 ·exact⟨fun _=>qp _,fun _=>Nat.le_max_left _ _⟩
theorem still_slice (hT:TabOk P T) {t:TypeId} {i:TyI} (hi:T.at t=some i) {el:Nat} (hel:i.d= .sl el) (x:Operand) (lo hi':Option Operand):StillOp P T (.slice t x lo hi' none):=by
 intro c w X ρ H F o e ρv r l0 h0 ho h hH hρ hres hc;have hx:=hρ x (by simp[Op.operands]);have hlo: ∀ y∈lo.toArray,PRd w X ρ (e y) (ρv y):=fun y hy=>hρ y (by simp[Op.operands] at hy ⊢;simp[hy])
 have hhi: ∀ y∈hi'.toArray,PRd w X ρ (e y) (ρv y):=fun y hy=>hρ y (by simp[Op.operands] at hy ⊢;simp[hy])
 have hd:=(hT _ _ hi).desc;rw[hel] at hd;simp only[TyDesc] at hd;simp only[opRes,hi,hel] at hres;split at hres
 ·rename_i ie id off len s hie hv;obtain⟨ti,z,hti,hts,_⟩:=(hT _ _ hie).info;rw[hv] at hx;split at hres;rotate_left
  ·cases hres
  rename_i hs;split at hres;rotate_left
  ·cases hres
  rename_i c1 l c2 hh hb1 hb2;simp only[Res.if,qo] at hres;subst hres;obtain⟨hc1,hc2,hlh,hhl⟩:=hc;obtain⟨p,hp,hps,⟨hg,hv2,rfl,rfl⟩ | ⟨g,og,hg,hv2,hl,hoo⟩⟩:=hx.lslInv
  ·replace hhl:=qnb hhl ((room_rd h hH hp _ _ _ _).1 hg);have hrun:=run_slice2 (w:=w) hd hti hlo hhi (cap:=0) none hb1 hb2 hc1 hc2 hlh hhl;have e1:l=0:=by omega
   have e2:hh=0:=by omega
   subst e1 e2;subst hps;refine⟨rfl,OpOK.still h (u:= .slice none 0 0) ?_ (.lsl0 id p hp hg)⟩;simp at hrun;simp[execOp,ho,hv2,hrun]
  ·replace hhl:=qnb hhl ((room_rd h hH hp _ _ _ _).2 (by rw[hg];simp));replace hhl:hh<=p.cap - off:=by omega
   have hrun:=run_slice2 (w:=w) hd hti hlo hhi (cap:=p.cap - off) (some ⟨g,og,none⟩) hb1 hb2 hc1 hc2 hlh hhl;subst hps;have e:p.cap - off - l=p.cap - (off+l):=by omega
   rw[e] at hrun;refine⟨rfl,OpOK.still h (by simp only[execOp,ho,hv2,Option.map_none];rw[Sem.run_bind,hrun];rfl) ?_⟩;by_cases hcl:p.cap - off=l
   ·rw[if_pos hcl];refine .lsl id (off+l) (hh - l) og g p hp hg (by omega) ?_;by_cases hz:off+l=0
    ·left;have:off=0:=by omega
     subst this;rcases hoo with hoo | hoo
     ·have hl0:l=0:=by omega
      subst hl0;rw[hoo]
     ·exact absurd rfl hoo.2
    ·right;exact⟨by omega,hz⟩
   ·rw[if_neg hcl];have ho':og=off*p.size:=by
     rcases hoo with hoo | hoo
     ·exact hoo
     ·omega
    subst ho';simp only[Option.map_some,addr_add];refine .lsl id (off+l) (hh - l) _ g p hp hg (by omega) (.inl ?_);rw[hts,<-hs,Nat.add_mul]
 ·rename_i ie xs hie hv;obtain⟨ti,z,hti,hts,_⟩:=(hT _ _ hie).info;rw[hv] at hx;split at hres;rotate_left
  ·cases hres
  rename_i c1 l c2 hh hb1 hb2;simp only[Res.if,qo] at hres;subst hres;obtain⟨hc1,hc2,hlh,hhl,hlen⟩:=hc;generalize hue:e x=u at hx;cases hx with
  | fv _ _ hf=>
   have hshape: ∃ b n cap,u= .slice b n cap/\xs.length=n/\n<=cap:=by
    cases hf with
    | nil=>exact⟨_,_,_,rfl,rfl,qp _⟩
    | sl ad n cap s _ us hn hcap=>exact⟨_,_,_,rfl,hn,hcap⟩
   obtain⟨b,n,cap,rfl,hn,hcap⟩:=hshape;subst hn;have hrun:=run_slice2 (w:=w) hd hti hlo hhi b hb1 hb2 hc1 hc2 hlh (qnb hhl hcap);refine⟨rfl,OpOK.still h (by simp only[execOp,ho,hue,Option.map_none];rw[Sem.run_bind,hrun];rfl) (.fv _ _ ?_)⟩;rw[hts];exact frd_sub hf hlen hlh hhl
 ·rename_i ie xs hie hv;obtain⟨ti,z,hti,hts,_⟩:=(hT _ _ hie).info;rw[hv] at hx;split at hres;rotate_left
  ·cases hres
  rename_i c1 l c2 hh hb1 hb2;simp only[Res.if,qo] at hres;subst hres;obtain⟨hc1,hc2,hlh,hhl,hlen⟩:=hc;generalize hue:e x=u at hx;cases hx with
  | clip b n _ hf=>
   have hn:xs.length=n:=by
    cases hf with
    | nil=>rfl
    | sl ad n cap s _ us hn hcap=>exact hn
   subst hn;have hrun:=run_slice2 (w:=w) hd hti hlo hhi b hb1 hb2 hc1 hc2 hlh hhl;refine⟨rfl,OpOK.still h (by simp only[execOp,ho,hue,Option.map_none];rw[Sem.run_bind,hrun];rfl) (.fv _ _ ?_)⟩;rw[hts];exact frd_sub hf hlen hlh hhl
 ·cases hres
theorem lenA_rd {w:World} {X:Nat->Prop} {ρ:Places} {u:Value} {x:PV} {len:Nat} (h:PRd w X ρ u x) (hl:lenA x=some len): ∃ b cap,u= .slice b len cap/\len<=cap/\FRd w X (.slice b 0 0) (.sl []):=by
 have key: ∀ ad:Addr,ad.spot=none->FRd w X (.slice (some ad) 0 0) (.sl []):=fun ad had=>
  .sl ad 0 0 0 [] (fun _ _=> .bool false) rfl (qp _) (by simp) had (fun h=>absurd rfl h) (fun h=>absurd rfl h) (by simp) (by simp)
 cases h with
 | any=>simp[lenA] at hl
 | fv _ y hf=>
  cases hf with
  | lit v hv=>
   unfold lenA at hl;split at hl
   all_goals first
    | (rename_i heq;cases heq;done)
    | (cases hl;done)
    | skip
   rename_i heq;cases heq;cases hl;exact⟨_,_,rfl,qsq _,key _ rfl⟩
  | nil=>simp[lenA] at hl;subst hl;exact⟨_,_,rfl,qp _,.nil⟩
  | sl ad n cap s xs us hn hc hss h0=>
   simp[lenA] at hl;subst hl;rw[<-hn] at hc ⊢;exact⟨_,_,rfl,hc,key _ h0⟩
  | fp=>simp[lenA] at hl
  | fn=>simp[lenA] at hl
 | nilsl=>simp[lenA] at hl;subst hl;exact⟨_,_,rfl,qp _,.nil⟩
 | clip a n xs hf=>
  simp[lenA] at hl;subst hl;cases hf with
  | nil=>exact⟨_,_,rfl,qp _,.nil⟩
  | sl ad n cap s _ us hn hc hss h0=>rw[<-hn];exact⟨_,_,rfl,qp _,key _ h0⟩
 | ptr=>simp[lenA] at hl
 | lsl0 id p hp hg=>simp[lenA] at hl;subst hl;exact⟨_,_,rfl,qp _,.nil⟩
 | lsl id off len o g p hp hg hl2 ho=>simp[lenA] at hl;subst hl;exact⟨_,_,rfl,by omega,key _ rfl⟩
 | agg=>simp[lenA] at hl
 | tup=>simp[lenA] at hl
 | tab=>simp[lenA] at hl
theorem asInt_rd {w:World} {X:Nat->Prop} {ρ:Places} {u:Value} {x:PV} {n:Int} (h:PRd w X ρ u x) (hn:x.asInt=some n): ∃ k,u= .int k n:=by
 unfold PV.asInt at hn;split at hn
 ·cases hn;exact⟨_,h.litInv⟩
 ·cases hn
theorem still_slice3 (hT:TabOk P T) {t:TypeId} {i:TyI} (hi:T.at t=some i) {el:Nat} (hel:i.d= .sl el) (x:Operand) (lo hi':Option Operand) (mx:Operand):StillOp P T (.slice t x lo hi' (some mx)):=by
 intro c w X ρ H F o e ρv r l0 h0 ho h hH hρ hres hc;have hx:=hρ x (by simp[Op.operands]);have hlo: ∀ y∈lo.toArray,PRd w X ρ (e y) (ρv y):=fun y hy=>hρ y (by simp[Op.operands] at hy ⊢;simp[hy])
 have hhi: ∀ y∈hi'.toArray,PRd w X ρ (e y) (ρv y):=fun y hy=>hρ y (by simp[Op.operands] at hy ⊢;simp[hy])
 have hmx:=hρ mx (by simp[Op.operands]);have hd:=(hT _ _ hi).desc;rw[hel] at hd;simp only[TyDesc] at hd;simp only[opRes,hi,hel] at hres;split at hres;rotate_left
 ·cases hres
 rename_i ie len c1 l hh m hie hla hb1 hh1 hm1;obtain⟨ti,z,hti,hts,_⟩:=(hT _ _ hie).info;simp only[Res.if,qo] at hres;subst hres;obtain⟨hc1,hc2,hlh,hhl,hml⟩:=hc;obtain⟨b,cap,hex,hlc,hfr⟩:=lenA_rd hx hla;obtain⟨km,hem⟩:=asInt_rd hmx hm1;cases hi' with
 | none=>simp[asI] at hh1
 | some y=>
  obtain⟨ky,hey⟩:=asInt_rd (hhi y (by simp)) (by simpa [asI] using hh1);have key:(Instr.sliceBounds true len cap (lo.map e) ((some y).map e) (some (e mx))).run P w= .ok (l,hh.toNat,m.toNat) w:=by
   have h3:0<=m/\m<=(cap:Int):=by omega
   have h4:0<=hh/\hh<=max m 0:=by omega
   rcases bound_rd hlo hb1 with⟨rfl,rfl,_⟩ | ⟨x,k,q,rfl,hx,rfl,rfl⟩
   ·simp[Instr.sliceBounds,Instr.sliceBound,hey,hem,asIntOf,h3,h4]
   ·have h5:0<=q/\q<=max hh 0:=by omega
    simp[Instr.sliceBounds,Instr.sliceBound,hey,hem,hx,asIntOf,h3,h4,h5]
  have hrun:(Instr.sliceAt t (.slice b len cap) (lo.map e) ((some y).map e) (some (e mx))).run P w= .ok (.slice (if m.toNat=l then b else b.map (·.add (l*ti.size))) (hh.toNat - l) (m.toNat - l)) w:=by
   simp only[Option.map_some] at key ⊢;simp[Instr.sliceAt,run_underlying hd,Instr.slice,key,sizeOf,typeInfo,hti]
  refine⟨rfl,OpOK.still h (by simp only[execOp,ho,hex,Option.map_some];simp only[Option.map_some] at hrun;rw[Sem.run_bind,hrun];rfl) ?_⟩;cases lo with
  | some _=>exact .any _
  | none=>
   have hl0:l=0:=by simp[bound] at hb1;omega
   subst hl0;simp only[Option.map_none,clip3];by_cases hm0:m=0
   ·by_cases hh0:hh=0
    ·subst hm0 hh0;exact .clip _ _ _ hfr
    ·rw[if_pos hm0,if_neg hh0];exact .any _
   ·rw[if_neg hm0];exact .any _
theorem splice_get {α:Type} {l new:List α} {off:Nat} (h:off+new.length<=l.length) (i:Nat):
 (splice l off new)[i]?=if i<off then l[i]? else if i<off+new.length then new[i - off]? else l[i]?:=by
 unfold splice
 by_cases h1:i<off
 ·rw[if_pos h1,qlb,qi (by simp;omega),getElem?_take,if_pos h1]
 ·rw[if_neg h1]
  by_cases h2:i<off+new.length
  ·rw[if_pos h2,qi (by simp;omega),qh (by simp;omega)]
   congr 1
   simp
   omega
  ·rw[if_neg h2,qh (by simp;omega),List.getElem?_drop]
   congr 1
   simp
   omega
theorem splice_length {α:Type} {l new:List α} {off:Nat} (h:off+new.length<=l.length):(splice l off new).length=l.length:=by
 unfold splice;simp;omega
theorem setAll_get: ∀ (l:List Value) (k off:Nat) (cells:Array Value),(∀ m,((l.zipIdx k).foldl (fun cs (p:Value×Nat)=>cs.setIfInBounds (off+p.2) p.1) cells)[m]?=
 if off+k<=m/\m<off+k+l.length/\m<cells.size then l[m - (off+k)]? else cells[m]?)
 | [],k,off,cells=>fun m=>by simp;intro h1 h2;omega
 | v::l,k,off,cells=>fun m=>by
  rw[List.zipIdx_cons,List.foldl_cons,setAll_get l (k+1) off _ m];simp only[Array.size_setIfInBounds,List.length_cons];by_cases h1:off+k=m
  ·subst h1;rw[if_neg (by omega)];by_cases hlt:off+k<cells.size
   ·rw[if_pos (by omega)];simp[hlt]
   ·rw[if_neg (by omega)];simp[hlt]
  ·rw[Array.getElem?_setIfInBounds_ne h1];by_cases h2:off+(k+1)<=m/\m<off+(k+1)+l.length/\m<cells.size
   ·rw[if_pos h2,if_pos (by omega)];rw[show m - (off+k)=(m - (off+(k+1)))+1 by omega,List.getElem?_cons_succ]
   ·rw[if_neg h2,if_neg (by omega)]
theorem FRd.cells {w:World} {X:Nat->Prop} {u:Value} {x:FV} (h:FRd w X u x):u.cells=#[u]:=by
 cases h<;>first | rfl | (rename_i h;cases u<;>first | rfl | cases h)
theorem cells_size {w:World} {X:Nat->Prop} {ρ:Places} {u:Value} {x:PV} (h:PRd w X ρ u x) (hx:0<x.cells.length):u.cells.size=x.cells.length/\ ∀ (i:Nat) v,u.cells[i]?=some v->v.oneCell'=true:=by
 cases h with
 | agg us cs hn h1 hr=>exact⟨hn,h1⟩
 | any=>simp[PV.cells] at hx
 | tup us cs hn hr=>simp[PV.cells] at hx
 | fv _ _ hf=>
  rw[hf.cells];refine⟨rfl,fun i v hv=>?_⟩;cases i with
  | zero=>simp at hv;subst hv;exact hf.one
  | succ i=>simp at hv
 | _=>
  refine⟨rfl,fun i v hv=>?_⟩;cases i with
  | zero=>simp[Value.cells] at hv;subst hv;rfl
  | succ i=>simp[Value.cells] at hv
theorem cells_rd {w:World} {X:Nat->Prop} {ρ:Places} {u:Value} {x:PV} (h:PRd w X ρ u x): ∀ (i:Nat) v y,u.cells[i]?=some v->x.cells[i]?=some y->PRd w X ρ v y:=by
 intro i v y hv hy;cases h with
 | agg us cs hn h1 hr=>exact hr i v y hv hy
 | any=>simp[PV.cells] at hy
 | fv _ _ hf=>
  rw[hf.cells] at hv;cases i with
  | zero=>simp[PV.cells] at hv hy;subst hv;subst hy;exact .fv _ _ hf
  | succ i=>simp at hv
 | nilsl=>cases i with
  | zero=>simp[PV.cells,Value.cells] at hv hy;subst hv;subst hy;exact .nilsl
  | succ i=>simp[Value.cells] at hv
 | clip a n xs hf=>cases i with
  | zero=>simp[PV.cells,Value.cells] at hv hy;subst hv;subst hy;exact .clip a n xs hf
  | succ i=>simp[Value.cells] at hv
 | ptr id j off g p hp hg=>cases i with
  | zero=>simp[PV.cells,Value.cells] at hv hy;subst hv;subst hy;exact .ptr id j off g p hp hg
  | succ i=>simp[Value.cells] at hv
 | lsl0 id p hp hg=>cases i with
  | zero=>simp[PV.cells,Value.cells] at hv hy;subst hv;subst hy;exact .lsl0 id p hp hg
  | succ i=>simp[Value.cells] at hv
 | lsl id off len og g p hp hg hl ho=>cases i with
  | zero=>simp[PV.cells,Value.cells] at hv hy;subst hv;subst hy;exact .lsl id off len og g p hp hg hl ho
  | succ i=>simp[Value.cells] at hv
 | tup us cs hn hr=>simp[PV.cells] at hy
 | tab id g p hp hg=>cases i with
  | zero=>simp[PV.cells,Value.cells] at hv hy;subst hv;subst hy;exact .tab id g p hp hg
  | succ i=>simp[Value.cells] at hv
end
end Go.AM
namespace Go.AM
section
variable {P:Program} {T:Tab}
def EffOp (P:Program) (T:Tab) (op:Op):Prop:=
 ∀ {c:Ctx} {w:World} {X:Nat->Prop} {ρ:Places} {H D R:List Ob} {o:Oper} {e:Operand->Value} {ρv:Operand->PV} {r:Res},
  o.op=op->HRd c w X ρ (H++(D++R))->(∀ id,H.length<=id->id<H.length+D.length->ρ[id]?=some none)->(∀ x∈op.operands,PRd w X ρ (e x) (ρv x))->opRes T H ρv op=some r->r.cond->
  r.heap.length=H.length+D.length->OpOK c w X ρ H.length (H.length+D.length) (r.heap++R) ((execOp e o).run P w) r.val
theorem look_append {H G:List Ob}: ∀ (j:Nat) o,H[j]?=some o->(H++G)[j]?=some o:=fun j o h=>by
 rw[qi (List.getElem?_eq_some_iff.1 h).1];exact h
theorem EffOp.of_still {op:Op} (h:StillOp P T op):EffOp P T op:=by
 intro c w X ρ H D R o e ρv r ho hh hD hρ hres hc hlen;obtain⟨hr,hok⟩:=h (lo:=H.length) (hi:=H.length+D.length) ho hh look_append hρ hres hc;rw[hr] at hlen;have hd:D=[]:=List.eq_nil_of_length_eq_zero (by omega);subst hd;rw[hr];exact hok
theorem place_box {c:Ctx} {w:World} {X:Nat->Prop} {ρ:Places} {H R:List Ob} {d:Ob} (h:HRd c w X ρ (H++([d]++R))) (hρ:ρ[H.length]?=some none) {us:Array Value} {cs:List PV} (el:Nat)
 (hn:us.size=cs.length) (h1: ∀ (i:Nat) u,us[i]?=some u->u.oneCell'=true) (hr: ∀ (i:Nat) u x,us[i]?=some u->cs[i]?=some x->PRd w X ρ u x):
 ∃ X' ρ',Stp c w (w.alloc (.cells us el)) X X' ρ ρ'/\HRd c (w.alloc (.cells us el)) X' ρ' ((H++[.box true cs])++R)/\
  PRd (w.alloc (.cells us el)) X' ρ' (.pointer (some ⟨w.heap.size,0,none⟩)) (.ptr H.length 0 0)/\ ∀ id,id≠H.length->ρ'[id]?=ρ[id]?:=by
 let p:Place:=⟨some w.heap.size,el,us.size,0⟩
 have hlt:H.length<ρ.length:=(List.getElem?_eq_some_iff.1 hρ).1
 have hg:=World.grownBy_alloc w (.cells us el) none
 have hF:(H++([d]++R)).set H.length (.box true cs)=(H++[.box true cs])++R:=by simp
 have hnoX: ∀ (j:Nat) q o g,ρ[j]?=some (some q)->(H++([d]++R))[j]?=some o->o.rw=true->q.b=some g->g<w.heap.size:=fun j q o g hq ho hr hb=>(h.own j q o g hq ho hr hb).2
 have hput:=h.put (id:=H.length) (p:=p) (ob:= .box true cs) (row:=none) (w':=w.alloc (.cells us el)) (by simp) (.inl hρ) hg (by simp)
  (fun j q o g hj hq ho hr hb=>⟨by simp,by
   have:=hnoX j q o g hq ho hr hb;intro he;simp only[p,qo] at he;omega⟩)
  (fun g hg=>by simp only[p,qo] at hg;left;omega)
  (fun g hg=>by simp only[p,qo] at hg;subst hg;exact⟨.inl h.ge,by simp⟩)
  (by simp)
  ⟨⟨w.heap.size,us,rfl,heap_alloc_new w _,hn,h1,fun i u x hu hx=>(hr i u x hu hx).mono (World.grownBy_alloc w _ none |> fun hg=>⟨hg.size,fun b hb _=>hg.block b hb (by simp)⟩)
   (fun b hb hx=>by
    rcases hx with hx | hx
    ·exact hx
    ·simp only[p,qo] at hx;omega) (Places.Le.set (.inl hρ))⟩,
   fun g hg=>⟨fun _=> .inr hg,fun _=>rfl⟩⟩
 rw[hF] at hput
 refine⟨_,_,hput.2,hput.1,?_,fun id hid=>by rw[getElem?_set_ne (Ne.symm hid)]⟩
 have:=PRd.ptr (w:=w.alloc (.cells us el)) (X:=fun b=>X b\/p.b=some b) (ρ:=ρ.set H.length (some p)) H.length 0 0 w.heap.size p (by simp[hlt]) rfl
 simpa using this
theorem place_nest {c:Ctx} {w:World} {X:Nat->Prop} {ρ:Places} {H R:List Ob} {d:Ob} (h:HRd c w X ρ (H++([d]++R))) (hρ:ρ[H.length]?=some none) {us:Array Value} {cs:List PV} (el n:Nat)
 (hn:us.size=cs.length) (_hcn:cs.length=n) (h1: ∀ (i:Nat) u,us[i]?=some u->u.oneCell'=true) (hr: ∀ (i:Nat) u x,us[i]?=some u->cs[i]?=some x->PRd w X ρ u x):
 ∃ X' ρ',Stp c w (w.alloc (.cells us el)) X X' ρ ρ'/\HRd c (w.alloc (.cells us el)) X' ρ' ((H++[.box true cs])++R)/\
  PRd (w.alloc (.cells us el)) X' ρ' (.slice (some ⟨w.heap.size,0,none⟩) n n) (.lsl H.length 0 n 1)/\ ∀ id,id≠H.length->ρ'[id]?=ρ[id]?:=by
 let p:Place:=⟨some w.heap.size,el,1,n⟩
 have hlt:H.length<ρ.length:=(List.getElem?_eq_some_iff.1 hρ).1
 have hg:=World.grownBy_alloc w (.cells us el) none
 have hF:(H++([d]++R)).set H.length (.box true cs)=(H++[.box true cs])++R:=by simp
 have hnoX: ∀ (j:Nat) q o g,ρ[j]?=some (some q)->(H++([d]++R))[j]?=some o->o.rw=true->q.b=some g->g<w.heap.size:=fun j q o g hq ho hr hb=>(h.own j q o g hq ho hr hb).2
 have hput:=h.put (id:=H.length) (p:=p) (ob:= .box true cs) (row:=none) (w':=w.alloc (.cells us el)) (by simp) (.inl hρ) hg (by simp)
  (fun j q o g hj hq ho hr hb=>⟨by simp,by
   have:=hnoX j q o g hq ho hr hb;intro he;simp only[p,qo] at he;omega⟩)
  (fun g hg=>by simp only[p,qo] at hg;left;omega)
  (fun g hg=>by simp only[p,qo] at hg;subst hg;exact⟨.inl h.ge,by simp⟩)
  (by simp)
  ⟨⟨w.heap.size,us,rfl,heap_alloc_new w _,hn,h1,fun i u x hu hx=>(hr i u x hu hx).mono (World.grownBy_alloc w _ none |> fun hg=>⟨hg.size,fun b hb _=>hg.block b hb (by simp)⟩)
   (fun b hb hx=>by
    rcases hx with hx | hx
    ·exact hx
    ·simp only[p,qo] at hx;omega) (Places.Le.set (.inl hρ))⟩,
   fun g hg=>⟨fun _=> .inr hg,fun _=>rfl⟩⟩
 rw[hF] at hput
 refine⟨_,_,hput.2,hput.1,?_,fun id hid=>by rw[getElem?_set_ne (Ne.symm hid)]⟩
 have:=PRd.lsl (w:=w.alloc (.cells us el)) (X:=fun b=>X b\/p.b=some b) (ρ:=ρ.set H.length (some p)) H.length 0 n 0 w.heap.size p (by simp[hlt]) rfl (by simp[p]) (.inl (by simp))
 simpa using this
def capOf:Value->Nat
 | .slice _ _ c=>c
 | _=>0
theorem val_of_owns {w:World} {e size n:Nat} {v:Value} {us:List Value} (h:w.ownsRow 0 e size v n us):Place.val ⟨v.ownBlock,e,size,capOf v⟩ n=v:=by
 rcases h.2 with⟨rfl,rfl⟩ | ⟨g,cap,cur,rfl,_⟩
 ·rfl
 ·rfl
theorem place_row {c:Ctx} {w w':World} {X:Nat->Prop} {ρ:Places} {H R:List Ob} {d:Ob} (h:HRd c w X ρ (H++([d]++R))) (hρ:ρ[H.length]?=some none) {us:List Value} {xs:List (List FV)} {el size:Nat} {v:Value}
 {row:Option Nat} (hg:w.grownBy w' row) (hrowX: ∀ g,row=some g->X g)
 (hother: ∀ (j:Nat) q o g,j≠H.length->ρ[j]?=some (some q)->(H++([d]++R))[j]?=some o->o.rw=true->q.b=some g->some g≠row)
 (hpermr: ∀ g,row=some g->(c.w0.heap.size<=g\/c.M g)) (hpos:0<size) (hlen: ∀ x∈xs,x.length=size)
 (hown:w'.ownsRow 0 el size v xs.length us) (hfresh: ∀ g,v.ownBlock=some g->w.heap.size<=g\/some g=row)
 (hcell: ∀ (i j:Nat) x y,xs[i]?=some x->x[j]?=some y-> ∃ u,us[i*size+j]?=some u/\FRd w X u y):
 ∃ X' ρ',Stp c w w' X X' ρ ρ'/\HRd c w' X' ρ' ((H++[.row true xs])++R)/\PRd w' X' ρ' v (.lsl H.length 0 xs.length size)/\ ∀ id,id≠H.length->ρ'[id]?=ρ[id]?:=by
 let p:Place:=⟨v.ownBlock,el,size,capOf v⟩
 have hlt:H.length<ρ.length:=(List.getElem?_eq_some_iff.1 hρ).1
 have hF:(H++([d]++R)).set H.length (.row true xs)=(H++[.row true xs])++R:=by simp
 have hsame:Same X w w':=⟨hg.size,fun b hb hx=>hg.block b hb (fun e=>hx (hrowX b e.symm))⟩
 have hpv:p.val xs.length=v:=val_of_owns hown
 have hput:=h.put (id:=H.length) (p:=p) (ob:= .row true xs) (row:=row) (w':=w') (by simp) (.inl hρ) hg hrowX
  (fun j q o g hj hq ho hr hb=>⟨hother j q o g hj hq ho hr hb,by
   have h2:=(h.own j q o g hq ho hr hb).2;intro he;rcases hfresh g he with h3 | h3
   ·omega
   ·exact hother j q o g hj hq ho hr hb h3⟩)
  (fun g hg=>by
   rcases hfresh g hg with h3 | h3
   ·exact .inl h3
   ·exact .inr (hrowX g h3.symm))
  (fun g hgb=>⟨by
   rcases hfresh g hgb with h3 | h3
   ·left;have:=h.ge;omega
   ·exact hpermr g h3.symm,(hown.lt g hgb).2⟩)
  hpermr
  ⟨⟨hpos,hlen,us,by rw[hpv];exact hown,fun i j x y hx hy=>by
   obtain⟨u,hu,hf⟩:=hcell i j x y hx hy;refine⟨u,hu,hf.mono hsame (fun b hb hx=>?_)⟩;rcases hx with hx | hx
   ·exact hx
   ·rcases hfresh b hx with h3 | h3
    ·omega
    ·exact hrowX b h3.symm⟩,
   fun g hg=>⟨fun _=> .inr hg,fun _=>rfl⟩⟩
 rw[hF] at hput
 refine⟨_,_,hput.2,hput.1,?_,fun id hid=>by rw[getElem?_set_ne (Ne.symm hid)]⟩
 have hp:(ρ.set H.length (some p))[H.length]?=some (some p):=by simp[hlt]
 rcases hown.2 with⟨hv,hn⟩ | ⟨g,cap,cur,hv,_,_,hnc,_⟩
 ·rw[hv,hn]
  exact .lsl0 H.length p hp (by simp[p,hv,Value.ownBlock])
 ·rw[hv]
  have:=PRd.lsl (w:=w') (X:=fun b=>X b\/p.b=some b) (ρ:=ρ.set H.length (some p)) H.length 0 xs.length 0 g p hp (by simp[p,hv,Value.ownBlock]) (by simp[p,hv,capOf];exact hnc) (.inl (by simp))
  simpa [p,hv,capOf] using this
theorem zero_rd {t:Nat} {i:TyI} (h:TyOk P t i) {w:World} {X:Nat->Prop} {ρ:Places}: ∃ ti z,P.info? t=some ti/\ti.size=i.size/\ti.bytes=i.bytes/\ti.zero=some z/\z.cells.size=i.size/\i.zero.length=i.size/\
 (∀ (j:Nat) u,z.cells[j]?=some u->u.oneCell'=true)/\ ∀ (j:Nat) u x,z.cells[j]?=some u->i.zero[j]?=some x->PRd w X ρ u x/\ids0 x=[]:=by
 obtain⟨ti,z,h1,h2,h3,h4,h5,h6,h7⟩:=h.info
 rw[qob] at h7
 have hone: ∀ (j:Nat) u,z.cells[j]?=some u->u.oneCell'=true:=fun j u hu=>h7 u (Array.mem_toList_iff.2 (Array.mem_of_getElem? hu))
 have hids: ∀ u:Value,ids0 (PV.ofCell u)=[]:=by
  intro u;unfold PV.ofCell;split<;>rfl
 have hzero:=h5
 refine⟨ti,z,h1,h2,h3,h4,h6,by rw[hzero];simp[h6],hone,fun j u x hu hx=>?_⟩
 rw[hzero,List.getElem?_map] at hx
 simp only[Array.getElem?_toList,hu,Option.map_some,qo] at hx
 subst hx
 exact⟨PRd_ofCell u,hids u⟩
theorem single {α:Type} {D:List α} (h:D.length=1): ∃ d,D=[d]:=by
 match D,h with
 | [d],_=>exact⟨d,rfl⟩
theorem eff_alloc (hT:TabOk P T) (t:TypeId):EffOp P T (.alloc t):=by
 intro c w X ρ H D R o e ρv r ho h hD hρ hres hc hlen;simp only[opRes] at hres;split at hres;rotate_left
 ·cases hres
 rename_i i hi;cases hres;obtain⟨d,rfl⟩:=single (D:=D) (by simp at hlen;omega);obtain⟨ti,z,hti,hts,_,hz,hzs,hil,hone,hrd⟩:=zero_rd (hT _ _ hi) (w:=w) (X:=X) (ρ:=ρ);obtain⟨X',ρ',hs,hh,hp,hrest⟩:=place_box h (hD _ (qp _) (by simp)) t (us:=z.cells) (cs:=i.zero) (by omega) hone (fun j u x hu hx=>(hrd j u x hu hx).1);refine⟨_,_,X',ρ',.inl ?_,hs,hh,hp,fun id hid=>hrest id (by simp at hid;omega)⟩;simp[execOp,ho,Instr.alloc,zeroValue,typeInfo,hti,hz,newVar,newRow]
theorem eff_box (t:TypeId) (x:Operand):EffOp P T (.box t x):=by
 intro c w X ρ H D R o e ρv r ho h hD hρ hres hc hlen;have hx:=hρ x (by simp[Op.operands]);simp only[opRes] at hres;split at hres;rotate_left
 ·cases hres
 rename_i i hi;cases hres;obtain⟨d,rfl⟩:=single (D:=D) (by simp at hlen;omega);simp only at hc;obtain⟨hcs,hone⟩:=cells_size hx (by omega);obtain⟨X',ρ',hs,hh,hp,hrest⟩:=place_box h (hD _ (qp _) (by simp)) t (us:=(e x).cells) (cs:=(ρv x).cells) hcs hone (cells_rd hx);refine⟨_,_,X',ρ',.inl ?_,hs,hh,hp,fun id hid=>hrest id (by simp at hid;omega)⟩;simp[execOp,ho,Instr.box,newVar,newRow]
theorem madeCells_get (z:Array Value) (n i j:Nat) (hi:i<n) (hj:j<z.size):(madeCells z (n*z.size))[i*z.size+j]?=z[j]?:=by
 have hlt:i*z.size+j<n*z.size:=by
  have h1:i+1<=n:=hi;have h2:(i+1)*z.size<=n*z.size:=qn _ h1;rw[Nat.add_mul] at h2;omega
 have hmod:(i*z.size+j) % z.size=j:=by
  rw[Nat.mul_comm,Nat.mul_add_mod,Nat.mod_eq_of_lt hj]
 unfold madeCells;rw[Array.getElem?_map,Array.getElem?_range,if_pos hlt];simp[hmod,hj]
theorem eff_makeSlice (hT:TabOk P T) (t:TypeId) (l k:Operand):EffOp P T (.makeSlice t l k):=by
 intro c w X ρ H D R o e ρv r ho h hD hρ hres hc hlen;have hl:=hρ l (by simp[Op.operands]);have hk:=hρ k (by simp[Op.operands]);simp only[opRes] at hres;split at hres;rotate_left
 ·cases hres
 rename_i i kl n kk m hi hln hkm;rw[hln] at hl;rw[hkm] at hk;have el:=hl.litInv;have ek:=hk.litInv;split at hres;rotate_left
 ·cases hres
 rename_i el' hel;have hd:=(hT _ _ hi).desc;rw[hel] at hd;simp only[TyDesc] at hd;split at hres;rotate_left
 ·cases hres
 rename_i ie hie;split at hres
 ·rename_i hnz;cases hres;obtain⟨d,rfl⟩:=single (D:=D) (by simp at hlen;omega);obtain⟨h0,rfl,hby,hm⟩:=hc;have hzz:ie.zero=[.nilsl]:=by
   unfold isNilZ at hnz;split at hnz
   ·assumption
   ·cases hnz
  obtain⟨ti,z,hti,hts,htb,hz,hzs,hil,hone,hrd⟩:=zero_rd (hT _ _ hie) (w:=w) (X:=X) (ρ:=ρ);have hby':(ti.bytes:Int)*n<=281474976710656:=by
   rw[htb,Int.mul_comm];omega
  have hrun:=run_make (P:=P) w t el' ti z hd hti hz kl kk n n h0 (by omega) hby' (by omega);have hsz1:ie.size=1:=by
   rw[hzz] at hil;simpa using hil.symm
  have hzc:z.cells.size=1:=by omega
  have hz0:z.cells[0]'(by omega)= .slice none 0 0:=by
   obtain⟨hr1,_⟩:=hrd 0 (z.cells[0]'(by omega)) .nilsl (by simp[hzc]) (by rw[hzz];rfl);generalize z.cells[0]'(by omega)=u at hr1;cases hr1;rfl
  have hget: ∀ (i:Nat) u,(madeCells z.cells (n.toNat*ti.size))[i]?=some u->u= .slice none 0 0:=by
   intro i u hu;have hi:i<n.toNat:=by
    have:=(Array.getElem?_eq_some_iff.1 hu).1;rw[size_madeCells,hts,hsz1] at this;omega
   have h9:=madeCells_get z.cells n.toNat i 0 hi (by omega);rw[hzc] at h9;rw[hts,hsz1] at hu;simp only[Nat.mul_one,Nat.add_zero] at h9 hu;rw[h9] at hu;rw[Array.getElem?_eq_getElem (by omega)] at hu;cases hu;exact hz0
  have hnest:=place_nest (cs:=List.replicate n.toNat .nilsl) (us:=madeCells z.cells (n.toNat*ti.size)) h (hD _ (qp _) (by simp)) el' n.toNat (by rw[size_madeCells,hts,hsz1,qib];omega) (by simp)
   (fun i u hu=>by rw[hget i u hu];rfl) (fun i u x hu hx=>by
    rw[List.getElem?_replicate] at hx;split at hx
    ·cases hx;rw[hget i u hu];exact .nilsl
    ·cases hx)
  obtain⟨X',ρ',hs,hh,hp,hrest⟩:=hnest;refine⟨_,_,X',ρ',.inl ?_,hs,hh,hp,fun id hid=>hrest id (by simp at hid;omega)⟩;simp[execOp,ho,el,ek,hrun]
 split at hres;rotate_left
 ·cases hres
 rename_i zf hzf;split at hres;rotate_left
 ·cases hres
 rename_i hzl;cases hres;obtain⟨d,rfl⟩:=single (D:=D) (by simp at hlen;omega);obtain⟨h0,hnm,hby,hm⟩:=hc;obtain⟨ti,z,hti,hts,htb,hz,hzs,hil,hone,hrd⟩:=zero_rd (hT _ _ hie) (w:=w) (X:=X) (ρ:=ρ);have hby':(ti.bytes:Int)*m<=281474976710656:=by
  rw[htb,Int.mul_comm];omega
 have hrun:=run_make (P:=P) w t el' ti z hd hti hz kl kk n m h0 hnm hby' (by omega);have hown:(w.alloc (.cells (madeCells z.cells (m.toNat*ti.size)) el')).ownsRow 0 el' ie.size (.slice (some ⟨w.heap.size,0,none⟩) n.toNat m.toNat) n.toNat
  ((madeCells z.cells (m.toNat*ti.size)).toList.take (n.toNat*ie.size)):=by
  have hle:n.toNat*ie.size<=m.toNat*ie.size:=qn _ (by omega)
  refine⟨by rw[length_take,Array.length_toList,size_madeCells,hts,Nat.min_eq_left hle],.inr ⟨w.heap.size,m.toNat,_,rfl,qsq _,heap_alloc_new w _,by omega,by simp only[maxLen];omega,by rw[size_madeCells,hts],rfl⟩⟩
 have hrow:=place_row (xs:=List.replicate n.toNat zf) (size:=ie.size) (el:=el') (v:= .slice (some ⟨w.heap.size,0,none⟩) n.toNat m.toNat) (row:=none) h (hD _ (qp _) (by simp)) (World.grownBy_alloc w _ none) (by simp)
  (by simp) (by simp) hzl.2 (by
   intro x hx;rw[List.mem_replicate] at hx;rw[hx.2];exact hzl.1) (by simpa using hown) (by
   intro g hg;simp only[Value.ownBlock,qo] at hg;left;omega) (by
   intro i' j x y hx hy;rw[List.getElem?_replicate] at hx;split at hx
   ·rename_i hin;cases hx;have hj:j<zf.length:=(List.getElem?_eq_some_iff.1 hy).1;have hjz:j<z.cells.size:=by omega
    have hji:j<ie.zero.length:=by omega
    obtain⟨y',hy',hfy⟩:=fzs_get hzf j ie.zero[j] (by simp[hji]);rw[hy] at hy';cases hy';obtain⟨hr1,hr2⟩:=hrd j z.cells[j] ie.zero[j] (by simp[hjz]) (by simp[hji]);refine⟨z.cells[j],?_,fz0_rd h look_append hr1 hfy (fun _ h=>h) (by rw[hr2];simp)⟩;have hlt:i'*ie.size+j<n.toNat*ie.size:=by
     have h2:(i'+1)*ie.size<=n.toNat*ie.size:=qn _ hin;rw[Nat.add_mul] at h2;omega
    rw[getElem?_take,if_pos hlt,Array.getElem?_toList,hts,<-hzs,madeCells_get z.cells m.toNat i' j (by omega) hjz];simp[hjz]
   ·cases hx)
 obtain⟨X',ρ',hs,hh,hp,hrest⟩:=hrow;rw[qib] at hp;refine⟨_,_,X',ρ',.inl ?_,hs,hh,hp,fun id hid=>hrest id (by simp at hid;omega)⟩;simp[execOp,ho,el,ek,hrun]
end
end Go.AM
