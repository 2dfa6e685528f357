/- The abstract machine:the operations,one by one,where memory is not written. -/
import Derived.Test.YtjjbkjgifdhlcaaGreatT3
import Derived.Lib.SliceRun
import Derived.ChangeKeysEq
import Derived.Test.YtjjbkjgifdhlcaaGreatT1
open List (getElem?_set_ne getElem?_take length_take)
namespace Go.AM
theorem PRd.litInv {w:World} {X:Nat->Prop} {ρ:Places} {u v:Value} (h:PRd w X ρ u (.fv (.lit v))):u=v:=by
 cases h with | fv _ _ h=>cases h;rfl
section
variable {P:Program} {T:Tab} {c:gD} {w:World} {X:Nat->Prop} {ρ:Places} {H R:List Ob} {o:Oper} {e:Operand->Value} {ρv:Operand->PV} {lo hi:Nat} {r:Res}
theorem vf (d:Nat) {t:TypeId} (hu:P.underlying t=some .bool) (a b:Bool):(Op.equalIn (d+1) t (.bool a) (.bool b)).run P w= .ok (a==b) w:=by
 simp[Op.equalIn,run_underlying hu]
def ee (P:Program) (T:Tab) (op:Op):Prop:=
 ∀ {c:gD} {w:World} {X:Nat->Prop} {ρ:Places} {H F:List Ob} {o:Oper} {e:Operand->Value} {ρv:Operand->PV} {r:Res} {lo hi:Nat},
  o.op=op->HRd c w X ρ F->(∀ (j:Nat) o,H[j]?=some o->F[j]?=some o)->(∀ x∈op.operands,PRd w X ρ (e x) (ρv x))->cj T H ρv op=some r->r.cond->
  r.heap=H/\OpOK c w X ρ lo hi F ((execOp e o).run P w) r.val
theorem Iy (x:Operand):ee P T (.move x):=by
 intro c w X ρ H F o e ρv r lo hi ho h hH hρ ak hc;simp only[cj,Res.pure,qo] at ak;subst ak;exact⟨rfl,OpOK.still (u:=e x) h (by simp[execOp,ho]) (hρ x (by simp[Op.operands]))⟩
theorem Dg (x:Operand):ee P T (.assign x):=by
 intro c w X ρ H F o e ρv r lo hi ho h hH hρ ak hc;simp only[cj,Res.pure,qo] at ak;subst ak;exact⟨rfl,OpOK.still (u:=e x) h (by simp[execOp,ho]) (hρ x (by simp[Op.operands]))⟩
theorem Iz (x a b:Operand):ee P T (.pick x a b):=by
 intro c w X ρ H F o e ρv r lo hi ho h hH hρ ak hc;have hx:=hρ x (by simp[Op.operands]);have ha:=hρ a (by simp[Op.operands]);have hb:=hρ b (by simp[Op.operands]);simp only[cj] at ak;split at ak
 .rename_i t ht;rw[ht] at hx;have he:=hx.litInv;simp only[Res.pure,qo] at ak;subst ak;refine⟨rfl,OpOK.still (u:=if t then e a else e b) h (by cases t<;>simp[execOp,ho,he,asBool]) ?_⟩;cases t<;>assumption
 cases ak
theorem yO (x:Operand):ee P T (.nilCheck x):=by
 intro c w X ρ H F o e ρv r lo hi ho h hH hρ ak hc;have hx:=hρ x (by simp[Op.operands]);simp only[cj] at ak;split at ak
 .rename_i id j off ht;rw[ht] at hx;simp only[Res.pure,qo] at ak;subst ak;generalize hu:e x=u at hx;cases hx with
  | ptr id i off g p hp hg=>exact⟨rfl,OpOK.still h (by simp[execOp,ho,hu]) (.ptr id _ off g p hp hg)⟩
 .rename_i cs ht;rw[ht] at hx;simp only[Res.pure,qo] at ak;subst ak;generalize hu:e x=u at hx;cases hx with
  | fv _ _ hf=>
   cases hf with
   | fp ad cs us h0 hX hb hcell hrd=>exact⟨rfl,OpOK.still h (by simp[execOp,ho,hu]) (.fv _ _ (.fp ad cs us h0 hX hb hcell hrd))⟩
 cases ak
theorem B4: ∀ (cs:List PV) (ks:List Int),q5 cs=some ks->cs=ks.map (fun n=> .fv (.lit (.int .i64 n)))
 | [],ks,h=>by simp[q5] at h;subst h;rfl
 | c::cs,ks,h=>by
  simp only[q5] at h;split at h
  .rename_i n ns h1 h2;cases h;rw[List.map_cons,<-B4 cs ns h2];unfold SN at h1;split at h1
   .cases h1;rfl
   cases h1
  cases h
theorem Gb {w:World} {X:Nat->Prop} {ρ:Places} {u:Value} {x:PV} {ks:List Int} (h:PRd w X ρ u x) (hk:oU x=some ks):u= .agg (ks.map (Value.int .i64)).toArray:=by
 unfold oU at hk;split at hk;rotate_left
 .cases hk
 have:=B4 _ _ hk;subst this;cases h with
 | agg us _ hn h1 hr=>
  congr 1;apply Array.ext
  .simpa using hn
  intro i oI iq;have:=hr i us[i] (.fv (.lit (.int .i64 (ks[i]'(by simpa using iq))))) (by simp[oI]) (by simp at iq;simp[iq]);have h2:=this.litInv;rw[h2];simp
theorem mO {w:World} {d el:Nat} (hu:P.underlying el=some (.int .i64)) (xs ys:List Int): ∀ is:List Nat,(∀ i∈is,i<xs.length/\i<ys.length)->
 (Op.eqItems (d+1) el 1 (xs.map (Value.int .i64)).toArray (ys.map (Value.int .i64)).toArray is).run P w= .ok (is.all fun i=>xs[i]?==ys[i]?) w
 | [],_=>by simp[Op.eqItems]
 | i::is,h=>by
  obtain⟨h1,h2⟩:=h i (by simp);have hp:P.plainKey el=true:=by simp[Program.plainKey,hu]
  have p1:=run_part_plain (P:=P) w hp (xs:=(xs.map (Value.int .i64)).toArray) (off:=i) (v:= .int .i64 xs[i]) (by simp[h1]);have p2:=run_part_plain (P:=P) w hp (xs:=(ys.map (Value.int .i64)).toArray) (off:=i) (v:= .int .i64 ys[i]) (by simp[h2]);have p3:=run_equalIn_int (P:=P) w d el .i64 .i64 xs[i] ys[i] hu;have hxi:xs[i]?=some xs[i]:=by simp[h1]
  have VG:ys[i]?=some ys[i]:=by simp[h2]
  simp only[Op.eqItems,Sem.run_bind,Nat.mul_one,p1,p2,p3,Result.andThen_ok,List.all_cons,hxi,VG];cases hb:(xs[i]==ys[i]) with
  | false=>
   have:(some xs[i]==some ys[i])=false:=hb;simp[this]
  | true=>
   have:(some xs[i]==some ys[i])=true:=hb;rw[this];simpa using mO hu xs ys is (fun j hj=>h j (ql _ hj))
theorem QR (hT:cx P T) {op:BinOp} {t:TypeId} {a b:PV} {r:Bool} (h:Ow (T.arN t) op (oU a) (oU b)=some r):
 ∃ n el xs ys,P.underlying t=some (.array n el)/\P.underlying el=some (.int .i64)/\(∃ ti,P.info? el=some ti/\ti.size=1)/\oU a=some xs/\oU b=some ys/\xs.length=n/\ys.length=n/\
  ((op= .eql/\r=(xs==ys))\/(op= .neq/\r=!(xs==ys))):=by
 have key: ∀ n,T.arN t=some n-> ∃ el,P.underlying t=some (.array n el)/\P.underlying el=some (.int .i64)/\(∃ ti,P.info? el=some ti/\ti.size=1):=by
  intro n hn;unfold Tab.arN at hn;split at hn;rotate_left
  .cases hn
  rename_i i hi;have hd:=(hT t i hi).desc;split at hn;rotate_left
  .cases hn
  rename_i dk;rw[dk] at hd;split at hn;rotate_left
  .cases hn
  rename_i ie mc;split at hn;rotate_left
  .cases hn
  rename_i N3;cases hn;rw[w8,beq_iff_eq] at N3;obtain⟨N3,dX⟩:=N3;have hde:=(hT _ _ mc).desc;unfold Ox at N3;split at N3;rotate_left
  .cases N3
  rename_i hed;rw[hed] at hde;refine⟨_,hd,hde,?_⟩;obtain⟨ti,z,h1,h2,_⟩:=(hT _ _ mc).info;exact⟨ti,h1,h2.trans dX⟩
 unfold Ow at h
 split at h
 .rename_i n xs ys hn hx hy
  split at h
  .rename_i hl
   cases h
   obtain⟨el,k1,k2,k3⟩:=key _ hn
   exact⟨_,el,xs,ys,k1,k2,k3,hx,hy,hl.1,hl.2,.inl ⟨rfl,rfl⟩⟩
  cases h
 .rename_i n xs ys hn hx hy
  split at h
  .rename_i hl
   cases h
   obtain⟨el,k1,k2,k3⟩:=key _ hn
   exact⟨_,el,xs,ys,k1,k2,k3,hx,hy,hl.1,hl.2,.inr ⟨rfl,rfl⟩⟩
  cases h
 cases h
theorem yP (hT:cx P T) (op:BinOp) (t:TypeId) (x y:Operand) (t':TypeId) {w:World} {X:Nat->Prop} {ρ:Places} {H:List Ob} {o:Oper} {e:Operand->Value} {ρv:Operand->PV} {r:Res}
 (ho:o.op= .binOp op t x y t') (hx:PRd w X ρ (e x) (ρv x)) (hy:PRd w X ρ (e y) (ρv y)) (ak:cj T H ρv (.binOp op t x y t')=some r) (hc:r.cond):
 r.heap=H/\ ∃ u,(execOp e o).run P w= .ok (.value u) w/\PRd w X ρ u r.val:=by
 simp only[cj] at ak
 split at ak
 .rename_i cd v hb
  simp only[Res.if,qo] at ak
  subst ak
  unfold SM at hb
  split at hb
  .rename_i k a k' b h1 h2
   rw[h1] at hx;rw[h2] at hy
   have ex:=hx.litInv
   have ey:=hy.litInv
   have key:(binOp op t (.int k a) (.int k' b)).run P w= .ok v w/\v.oneCell'=true:=by
    split at hb
    .simp only[sD,qo,Prod.mk.injEq] at hb;obtain⟨rfl,rfl⟩:=hb;have mW: ¬b<0:=by simp only at hc;omega
     simp[binOp,Op.shift,mW,Value.oneCell']
    .simp only[sD,qo,Prod.mk.injEq] at hb;obtain⟨rfl,rfl⟩:=hb;have mW: ¬b<0:=by simp only at hc;omega
     simp[binOp,Op.shift,mW,Value.oneCell']
    split at hb
    .rename_i hk;subst hk;exact MR hb hc t
    cases hb
   refine⟨rfl,_,?_,(.fv _ _ (.lit v key.2))⟩
   simp[execOp,ho,ex,ey,wg,key.1]
  .rename_i a b h1 h2
   rw[h1] at hx;rw[h2] at hy
   have ex:=hx.litInv
   have ey:=hy.litInv
   split at hb
   .cases hb
   rename_i vk
   have hu:P.underlying t=some .bool:=by
    unfold Tab.isBool at vk;split at vk
    .rename_i i hi;have hd:=(hT t i hi).desc;split at vk
     .rename_i dk;rw[dk] at hd;exact hd
     simp at vk
    simp at vk
   have heq:(Op.equal t (.bool a) (.bool b)).run P w= .ok (a==b) w:=by
    unfold Op.equal;exact vf 9999 hu a b
   split at hb
   .simp only[qo,Prod.mk.injEq] at hb
    obtain⟨rfl,rfl⟩:=hb
    refine⟨rfl,_,?_,(.fv _ _ (.lit _ rfl))⟩
    simp[execOp,ho,ex,ey,mN,binOp,heq]
   .simp only[qo,Prod.mk.injEq] at hb
    obtain⟨rfl,rfl⟩:=hb
    refine⟨rfl,_,?_,(.fv _ _ (.lit _ rfl))⟩
    simp[execOp,ho,ex,ey,mN,binOp,heq]
   cases hb
  cases hb
 split at ak
 .rename_i b hb
  split at ak
  .rename_i rA
   simp only[Res.pure,qo] at ak
   subst ak
   have hu: ∃ el,P.underlying t=some (.slice el):=by
    unfold Tab.isSl at rA;split at rA
    .rename_i i hi;have hd:=(hT t i hi).desc;split at rA
     .rename_i el dk;rw[dk] at hd;exact⟨el,hd⟩
     simp at rA
    simp at rA
   obtain⟨el,hu⟩:=hu
   have key: ∃ a n cp,e x= .slice a n cp/\e y= .slice none 0 0/\((op= .eql/\b=a.isNone)\/(op= .neq/\b=!a.isNone)):=by
    unfold SL at hb;split at hb<;>first | (cases hb;done) | skip
    all_goals
     rename_i h1 h2 _;rw[h1] at hx;rw[h2] at hy;have ey:e y= .slice none 0 0:=by
      generalize e y=u at hy;cases hy;rfl
     simp only[qo] at hb
     first
     | exact⟨_,_,_,hx.litInv,ey,.inl ⟨rfl,hb.symm⟩⟩
     | exact⟨_,_,_,hx.litInv,ey,.inr ⟨rfl,hb.symm⟩⟩
     | (generalize e x=u at hx;cases hx;first | exact⟨_,_,_,rfl,ey,.inl ⟨rfl,hb.symm⟩⟩ | exact⟨_,_,_,rfl,ey,.inr ⟨rfl,hb.symm⟩⟩)
     | (generalize e x=u at hx;cases hx;rename_i hf;cases hf;first | exact⟨_,_,_,rfl,ey,.inl ⟨rfl,hb.symm⟩⟩ | exact⟨_,_,_,rfl,ey,.inr ⟨rfl,hb.symm⟩⟩)
   obtain⟨a,n,cp,ex,ey,Oc⟩:=key
   refine⟨rfl,_,?_,(.fv _ _ (.lit _ rfl))⟩
   rcases Oc with⟨rfl,rfl⟩ | ⟨rfl,rfl⟩
   .simp[execOp,ho,ex,ey,eqGuard,Lib.run_eql_slice_nil w t el a n cp 0 0 hu]
   have hq:(binOp .neq t (.slice a n cp) (.slice none 0 0)).run P w= .ok (.bool (!a.isNone)) w:=by
    simp only[binOp];simp[Op.equal,Op.maxDepth,Lib.run_equalIn_slice_nil w 9999 t el a n cp 0 0 hu]
   simp[execOp,ho,ex,ey,eqGuard,hq]
  cases ak
 split at ak
 .rename_i b hb
  simp only[Res.pure,qo] at ak
  subst ak
  obtain⟨n,el,xs,ys,hu,lG,eT,hkx,Vd,Om,hly,Oc⟩:=QR hT hb
  have ex:=Gb hx hkx
  have ey:=Gb hy Vd
  obtain⟨ti,eT,ef⟩:=eT
  have heq:(Op.equalIn 10000 t (.agg (xs.map (Value.int .i64)).toArray) (.agg (ys.map (Value.int .i64)).toArray)).run P w= .ok (xs==ys) w:=by
   rw[run_equalIn_array w 9999 _ _ hu eT];have Zt:P.cellsOf el=1:=by simp[Program.cellsOf,eT,ef]
   rw[Zt,mO lG xs ys (List.range n) (fun i hi=>by have:=List.mem_range.1 hi;omega)];congr 1;rw[Bool.eq_iff_iff];simp only[pR,List.mem_range,beq_iff_eq];constructor
   .intro h;apply List.ext_getElem?;intro i;by_cases hi:i<n
    .exact h i hi
    rw[List.getElem?_eq_none (by omega),List.getElem?_eq_none (by omega)]
   intro h i _;rw[h]
  have AE: ∀ op',(eqGuard op' t x y (.agg (xs.map (Value.int .i64)).toArray) (.agg (ys.map (Value.int .i64)).toArray)).run P w= .ok () w:=fun op'=>by
   refine run_eqGuard_agg w op' t x y _ _ ?_;unfold Program.depth;rw[show 2*(P.types.size+Made.depth)+2=(2*(P.types.size+Made.depth)+1)+1 from rfl];simp only[Program.eqGuardType,hu,lG]
  refine⟨rfl,_,?_,(.fv _ _ (.lit _ rfl))⟩
  rcases Oc with⟨rfl,rfl⟩ | ⟨rfl,rfl⟩
  .simp only[execOp,ho,ex,ey,Sem.run_bind,AE,Result.andThen_ok,run_eql_struct,heq]
   rfl
  simp only[execOp,ho,ex,ey,Sem.run_bind,AE,Result.andThen_ok,run_neq_struct,heq]
  rfl
 cases ak
theorem Gc (hT:cx P T) (op:BinOp) (t:TypeId) (x y:Operand) (t':TypeId):ee P T (.binOp op t x y t'):=by
 intro c w X ρ H F o e ρv r lo hi ho h hH hρ ak hc;obtain⟨h1,u,h2,h3⟩:=yP hT op t x y t' ho (hρ x (by simp[Op.operands])) (hρ y (by simp[Op.operands])) ak hc;exact⟨h1,OpOK.still h h2 h3⟩
theorem ID (op:UnOp) (t:TypeId) (x:Operand):ee P T (.unOp op t x):=by
 intro c w X ρ H F o e ρv r lo hi ho h hH hρ ak hc;have hx:=hρ x (by simp[Op.operands]);simp only[cj] at ak;split at ak
 .rename_i v hv;simp only[Res.pure,qo] at ak;subst ak;unfold unV at hv;split at hv
  all_goals first | (cases hv;done) | skip
  all_goals
   rename_i h1;rw[h1] at hx;have ex:=hx.litInv;simp only[qo] at hv;subst hv;refine⟨rfl,OpOK.still h ?_ (.fv _ _ (.lit _ rfl))⟩;simp[execOp,ho,ex,Op.unary,Op.intArith,Op.intBits]
 cases ak
theorem Ak (hT:cx P T) (src dst:TypeId) (x:Operand):ee P T (.convert src dst x):=by
 intro c w X ρ H F o e ρv r lo hi ho h hH hρ ak hc;have hx:=hρ x (by simp[Op.operands]);simp only[cj] at ak;split at ak
 .rename_i i j k n hi hj hv;rw[hv] at hx;have ex:=hx.litInv;split at ak
  .rename_i k1 k2 Sx Sv;have u1:=(hT _ _ hi).desc;have u2:=(hT _ _ hj).desc;rw[Sx] at u1;rw[Sv] at u2;simp only[fO] at u1 u2;simp only[Res.pure,qo] at ak;subst ak;refine⟨rfl,OpOK.still h ?_ (.fv _ _ (.lit _ rfl))⟩;simp[execOp,ho,ex,convert,run_underlying u1,run_underlying u2,Conv.intToInt]
  cases ak
 cases ak
theorem Al (x:Operand) (ix:Nat):ee P T (.extract x ix):=by
 intro c w X ρ H F o e ρv r lo hi ho h hH hρ ak hc;have hx:=hρ x (by simp[Op.operands]);simp only[cj] at ak;split at ak
 .rename_i vs hv;rw[hv] at hx;split at ak
  .rename_i v fA;simp only[Res.pure,qo] at ak;subst ak;generalize hu:e x=u at hx;cases hx with
   | tup us _ hn hr=>
    have aH:ix<us.size:=by rw[hn];exact(List.getElem?_eq_some_iff.1 fA).1
    refine⟨rfl,OpOK.still h (u:=us[ix]) ?_ (hr ix _ _ (Array.getElem?_eq_getElem aH) fA)⟩;simp[execOp,ho,hu,Instr.extract,Array.getElem?_eq_getElem aH]
  cases ak
 cases ak
end
end Go.AM
namespace Go.AM
theorem iJ (g k n:Nat):(⟨g,k,none⟩:Addr).add n=⟨g,k+n,none⟩:=by unfold Addr.add;split<;>simp_all
theorem ib {a:Addr} (h:a.spot=none) (n:Nat):a.add n=⟨a.block,a.off+n,none⟩:=by
 obtain⟨g,k,s⟩:=a;simp only at h;subst h;exact iJ g k n
theorem PRd.lslInv {w:World} {X:Nat->Prop} {ρ:Places} {v:Value} {id off len s:Nat} (h:PRd w X ρ v (.lsl id off len s)):
 ∃ p,ρ[id]?=some (some p)/\p.size=s/\((p.b=none/\v= .slice none 0 0/\off=0/\len=0)\/
  ∃ g o,p.b=some g/\v= .slice (some ⟨g,o,none⟩) len (p.cap - off)/\off+len<=p.cap/\(o=off*p.size\/(off=p.cap/\off≠0))):=by
 generalize Ax:PV.lsl id off len s=pv at h
 cases h
 case lsl0 p hp hg=>
  injection Ax with h1 h2 h3 h4
  subst h1 h2 h3 h4;exact⟨p,by assumption,rfl,.inl ⟨by assumption,rfl,rfl,rfl⟩⟩
 case lsl=>
  injection Ax with h1 h2 h3 h4
  subst h1 h2 h3 h4;exact⟨_,by assumption,rfl,.inr ⟨_,_,by assumption,rfl,by assumption,by assumption⟩⟩
 all_goals cases Ax
section
variable {P:Program} {T:Tab}
theorem wh (hT:cx P T) (t:TypeId) (x:Operand) (f:Nat):ee P T (.fieldAddr t x f):=by
 intro c w X ρ H F o e ρv r lo hi ho h hH hρ ak hc;have hx:=hρ x (by simp[Op.operands]);simp only[cj] at ak;split at ak;rotate_left
 .cases ak
 rename_i i hi;split at ak;rotate_left
 .cases ak
 rename_i fs DZ;have hd:=(hT _ _ hi).desc;rw[DZ] at hd;obtain⟨ffs,hu,dX,Jz⟩:=hd;split at ak
 .rename_i fd id j off zI hv;rw[hv] at hx;simp only[Res.pure,qo] at ak;subst ak;have aH:f<ffs.size:=by rw[dX];exact(List.getElem?_eq_some_iff.1 zI).1
  obtain⟨jx,gw,ti,d,eT,ef,_,_⟩:=Jz f _ _ (Array.getElem?_eq_getElem aH) zI;generalize lG:e x=u at hx;cases hx with
  | ptr id i off g p hp hg=>
   refine⟨rfl,OpOK.still h (u:= .pointer (some ⟨g,j*p.size+(off+fd.off),none⟩)) ?_ (.ptr id j _ g p hp hg)⟩;simp[execOp,ho,lG,Instr.fieldAt,run_underlying hu,Array.getElem?_eq_getElem aH,Instr.sureAddr,fieldPlace,sizeOf,typeInfo,eT,show¬ti.size=0 by omega,iJ,jx];omega
 .rename_i fd cs zI hv;rw[hv] at hx;simp only[Res.if,qo] at ak;subst ak;have aH:f<ffs.size:=by rw[dX];exact(List.getElem?_eq_some_iff.1 zI).1
  obtain⟨jx,gw,ti,d,eT,ef,_,_⟩:=Jz f _ _ (Array.getElem?_eq_getElem aH) zI;generalize lG:e x=u at hx;cases hx with
  | fv _ _ hf=>
   cases hf with
   | fp ad cs us h0 hX hb hcell hrd=>
    refine⟨rfl,OpOK.still h (u:= .pointer (some ⟨ad.block,ad.off+fd.off,none⟩)) ?_ (.fv _ _ (.fp _ _ (fun j=>us (fd.off+j)) rfl hX hb (fun j y hy=>?_) (fun j y hy=>?_)))⟩
    .simp[execOp,ho,lG,Instr.fieldAt,run_underlying hu,Array.getElem?_eq_getElem aH,Instr.sureAddr,fieldPlace,sizeOf,typeInfo,eT,show¬ti.size=0 by omega,ib h0,jx]
    .rw[List.getElem?_drop] at hy;simp only[Nat.add_assoc];exact hcell _ y hy
    rw[List.getElem?_drop] at hy;exact hrd _ y hy
 cases ak
theorem QS {w:World} {X:Nat->Prop} {ρ:Places} {s id k g:Nat} {o:Option Ob} {p:Place} (hs:p.size=s) (hp:ρ[id]?=some (some p)) (hg:p.b=some g):PRd w X ρ (.pointer (some ⟨g,k*p.size+0,none⟩)) (Eb s o id k):=by
 unfold Eb;split
 .split
  .rename_i h1;have:k*p.size+0=0*p.size+k:=by rw[hs,h1];omega
   rw[this];exact .ptr id 0 k g p hp hg
  exact .any _
 exact .ptr id k 0 g p hp hg
theorem wi (hT:cx P T) (t:TypeId) (x ix:Operand):ee P T (.indexAddr t x ix):=by
 intro c w X ρ H F o e ρv r lo hi ho h hH hρ ak hc;have hx:=hρ x (by simp[Op.operands]);have hix:=hρ ix (by simp[Op.operands]);simp only[cj] at ak;split at ak;rotate_left
 .cases ak
 rename_i i n hi hn;have hk: ∃ k,e ix= .int k n:=by
  unfold PV.asInt at hn;split at hn
  .rename_i k m hm;cases hn;rw[hm] at hix;exact⟨k,hix.litInv⟩
  cases hn
 obtain⟨k,N4⟩:=hk;have hd:=(hT _ _ hi).desc;split at ak
 .rename_i el kN;rw[kN] at hd;simp only[fO] at hd;split at ak
  .rename_i ie id off len s mc hv;rw[hv] at hx;obtain⟨ti,z,eT,ef,_⟩:=(hT _ _ mc).info;split at ak
   .rename_i hs;simp only[Res.if,qo] at ak;subst ak;simp only at hc;subst hs;generalize lG:e x=u at hx;obtain⟨p,hp,md,h3 | ⟨g,og,hg,rfl,hl,iU⟩⟩:=hx.lslInv
    .omega
    have LC:og=off*p.size:=by
     rcases iU with iU | iU
     .exact iU
     omega
    subst LC;refine⟨rfl,OpOK.still h (u:= .pointer (some ⟨g,(off+n.toNat)*p.size+0,none⟩)) ?_ (QS md hp hg)⟩;have h1:0<=n/\n<(len:Int):=hc;simp[execOp,ho,lG,N4,Instr.indexAt,asIntOf,run_underlying hd,h1,sizeOf,typeInfo,eT,ef,md,iJ,Nat.add_mul]
   cases ak
  .rename_i ie xs mc hv;rw[hv] at hx;obtain⟨ti,z,eT,ef,_⟩:=(hT _ _ mc).info;simp only[Res.if,qo] at ak;subst ak;obtain⟨h0,aH,aD,dj⟩:=hc;have mT:n.toNat<xs.length:=by omega
   generalize lG:e x=u at hx;cases hx with
   | fv _ _ hf=>
    cases hf with
    | nil=>simp at mT
    | sl ad m cap s xs us hn' vr hs h0' hX hb hcell hrd=>
     have hg:xs[n.toNat]?=some (xs.getD n.toNat []):=by simp[mT]
     have hse:s=ie.size:=by rw[<-aD];exact(hs _ (List.mem_of_getElem? hg)).symm
     refine⟨rfl,OpOK.still h (u:= .pointer (some ⟨ad.block,ad.off+n.toNat*ie.size,none⟩)) ?_ (.fv _ _ (.fp _ _ (fun j=>us n.toNat j) rfl (hX (by omega)) (hb (by omega)) (fun j y hy=>?_) (fun j y hy=>?_)))⟩
     .have h1:0<=n/\n<(m:Int):=by omega
      simp[execOp,ho,lG,N4,Instr.indexAt,asIntOf,run_underlying hd,h1,sizeOf,typeInfo,eT,ef,ib h0']
     .have:=hcell n.toNat j _ y hg hy;rw[hse,<-Nat.add_assoc] at this;exact this
     exact hrd n.toNat j _ y hg hy
  .rename_i ie xs mc hv;rw[hv] at hx;obtain⟨ti,z,eT,ef,_⟩:=(hT _ _ mc).info;simp only[Res.if,qo] at ak;subst ak;obtain⟨h0,aH,aD,dj⟩:=hc;have mT:n.toNat<xs.length:=by omega
   generalize lG:e x=u at hx;cases hx with
   | clip a m _ hf=>
    cases hf with
    | nil=>simp at mT
    | sl ad _ cap s xs us hn' vr hs h0' hX hb hcell hrd=>
     have hg:xs[n.toNat]?=some (xs.getD n.toNat []):=by simp[mT]
     have hse:s=ie.size:=by rw[<-aD];exact(hs _ (List.mem_of_getElem? hg)).symm
     refine⟨rfl,OpOK.still h (u:= .pointer (some ⟨ad.block,ad.off+n.toNat*ie.size,none⟩)) ?_ (.fv _ _ (.fp _ _ (fun j=>us n.toNat j) rfl (hX (by omega)) (hb (by omega)) (fun j y hy=>?_) (fun j y hy=>?_)))⟩
     .have h1:0<=n/\n<(m:Int):=by omega
      simp[execOp,ho,lG,N4,Instr.indexAt,asIntOf,run_underlying hd,h1,sizeOf,typeInfo,eT,ef,ib h0']
     .have:=hcell n.toNat j _ y hg hy;rw[hse,<-Nat.add_assoc] at this;exact this
     exact hrd n.toNat j _ y hg hy
  cases ak
 .rename_i kk el kN;rw[kN] at hd;simp only[fO] at hd;split at ak
  .rename_i ie id j off mc hv;rw[hv] at hx;obtain⟨ti,z,eT,ef,_⟩:=(hT _ _ mc).info;split at ak;rotate_left
   .cases ak
   rename_i jG;simp only[Res.if,qo] at ak;subst ak;generalize lG:e x=u at hx;cases hx with
   | ptr id i off g p hp hg=>
    have h1:0<=n/\n<(kk:Int):=hc;refine⟨rfl,OpOK.still h (u:= .pointer (some ⟨g,j*p.size+(off+n.toNat*ie.size),none⟩)) ?_ (.ptr id j _ g p hp hg)⟩;simp[execOp,ho,lG,N4,Instr.indexAt,Instr.sureAddr,asIntOf,run_underlying hd,h1,sizeOf,typeInfo,eT,ef,iJ];omega
  .rename_i ie cs mc hv;rw[hv] at hx;obtain⟨ti,z,eT,ef,_⟩:=(hT _ _ mc).info;split at ak;rotate_left
   .cases ak
   rename_i jG;simp only[Res.if,qo] at ak;subst ak;obtain⟨h0n,hnk,dX,dj⟩:=hc;generalize lG:e x=u at hx;cases hx with
   | fv _ _ hf=>
    cases hf with
    | fp ad cs us h0 hX hb hcell hrd=>
     have h1:0<=n/\n<(kk:Int):=⟨h0n,hnk⟩;refine⟨rfl,OpOK.still h (u:= .pointer (some ⟨ad.block,ad.off+n.toNat*ie.size,none⟩)) ?_ (.fv _ _ (.fp _ _ (fun j=>us (n.toNat*ie.size+j)) rfl hX hb (fun j y hy=>?_) (fun j y hy=>?_)))⟩
     .simp[execOp,ho,lG,N4,Instr.indexAt,Instr.sureAddr,asIntOf,run_underlying hd,h1,sizeOf,typeInfo,eT,ef,ib h0]
     .rw[List.getElem?_drop] at hy;simp only[Nat.add_assoc];exact hcell _ y hy
     rw[List.getElem?_drop] at hy;exact hrd _ y hy
  cases ak
 cases ak
end
end Go.AM
namespace Go.AM
section
variable {P:Program} {T:Tab}
theorem tI (hT:cx P T) {t:TypeId} {i:TyI} (hi:T.at t=some i) {w:World} {X:Nat->Prop} {ρ:Places} {ad:Addr} (h0:ad.spot=none) {us:Nat->Value} {cs:List PV}
 (hn:cs.length=i.size) (hcell: ∀ (j:Nat) y,cs[j]?=some y->w.cell? ⟨ad.block,ad.off+j,none⟩=some (us j)) (h1: ∀ (j:Nat) y,cs[j]?=some y->(us j).oneCell'=true)
 (hrd: ∀ (j:Nat) y,cs[j]?=some y->PRd w X ρ (us j) y) {v:PV} (hv:jf i cs=some v):
 ∃ u,(loadVar t ad).run P w= .ok u w/\PRd w X ρ u v:=by
 obtain⟨ti,z,eT,ef,_⟩:=(hT _ _ hi).info
 have qT:=(hT _ _ hi).agg (w:=w)
 unfold jf at hv
 split at hv
 .rename_i j7
  cases hv
  have hl:(loadCells ad i.size).run P w= .ok ((List.range i.size).map us).toArray w:=run_loadCells w ad i.size us (fun j hj=>by
   rw[ib h0];exact hcell j cs[j] (by simp[hn,hj]))
  refine⟨.agg ((List.range i.size).map us).toArray,?_,.agg _ _ (by simp[hn]) (fun j u hu=>?_) (fun j u y hu hy=>?_)⟩
  .simp[loadVar,qT,j7,sizeOf,typeInfo,eT,ef,hl]
  .have aH:j<i.size:=by simpa using(Array.getElem?_eq_some_iff.1 hu).1
   simp[aH] at hu
   subst hu
   exact h1 j cs[j] (by simp[hn,aH])
  have aH:j<i.size:=by simpa using(Array.getElem?_eq_some_iff.1 hu).1
  simp[aH] at hu
  subst hu
  exact hrd j y hy
 rename_i j7
 split at hv
 .rename_i hs
  cases hv
  have aH:0<cs.length:=by omega
  have hg:cs[0]?=some (cs.headD .any):=by cases cs<;>simp at aH ⊢
  have hc:=hcell 0 _ hg
  have had:ad=⟨ad.block,ad.off+0,none⟩:=by
   obtain⟨b,f,s⟩:=ad;simp only at h0;subst h0;rfl
  refine⟨us 0,?_,hrd 0 _ hg⟩
  simp only[Bool.not_eq_true] at j7
  rw[<-had] at hc
  simp[loadVar,qT,j7,run_load,hc]
 cases hv
theorem IE (hT:cx P T) (t:TypeId) (x:Operand):ee P T (.load t x):=by
 intro c w X ρ H F o e ρv r lo hi ho h hH hρ ak hc;have hx:=hρ x (by simp[Op.operands]);simp only[cj] at ak;split at ak;rotate_left
 .cases ak
 rename_i i hi;split at ak
 .rename_i id j off hv;rw[hv] at hx;split at ak;rotate_left
  .cases ak
  rename_i cd cs eR;split at ak;rotate_left
  .cases ak
  rename_i v df;simp only[Res.if,qo] at ak;subst ak;simp only at hc;generalize lG:e x=u at hx;cases hx with
  | ptr _ _ _ g p hp hg=>
   unfold fP at eR;split at eR
   .rename_i rw xs fU;simp only[qo,Prod.mk.injEq] at eR;obtain⟨rfl,rfl⟩:=eR;obtain⟨lD,N5⟩:=hc;obtain⟨⟨dj,aD,us,gS,hcell⟩,_⟩:=h.ob id p _ hp (hH id _ fU);have hgj:xs[j]?=some (xs.getD j []):=by simp[lD]
    have fF:World.ownsRow w 0 p.e p.size (.slice (some ⟨g,0,none⟩) xs.length p.cap) xs.length us:=by simpa [Place.val,hg] using gS
    have oT:(((xs.getD j []).drop off).take i.size).length=i.size:=by simp only[length_take,qt];omega
    have cg: ∀ (k:Nat) y,((((xs.getD j []).drop off).take i.size).map PV.fv)[k]?=some y-> ∃ z u,y= .fv z/\us[j*p.size+(off+k)]?=some u/\FRd w X u z:=by
     intro k y hy;rw[List.getElem?_map,Option.map_eq_some_iff] at hy;obtain⟨z,hz,rfl⟩:=hy;rw[getElem?_take] at hz;split at hz
     .rw[List.getElem?_drop] at hz;obtain⟨u,hu,um⟩:=hcell j (off+k) _ z hgj hz;exact⟨z,u,rfl,hu,um⟩
     cases hz
    obtain⟨u,cT,hrd⟩:=tI hT hi (w:=w) (X:=X) (ρ:=ρ) (ad:=⟨g,j*p.size+off,none⟩) rfl (us:=fun k=>us.getD (j*p.size+(off+k)) undef) (by simpa using oT)
     (fun k y hy=>by
      obtain⟨z,u,_,hu,_⟩:=cg k y hy;have:=fF.cells (g:=g) rfl _ u hu;rw[iJ,Nat.zero_add] at this;simp only[qa,hu,Option.getD_some,Nat.add_assoc];exact this)
     (fun k y hy=>by
      obtain⟨z,u,_,hu,um⟩:=cg k y hy;simp only[qa,hu,Option.getD_some];exact um.one)
     (fun k y hy=>by
      obtain⟨z,u,rfl,hu,um⟩:=cg k y hy;simp only[qa,hu,Option.getD_some];exact .fv _ _ um) df
    exact⟨rfl,OpOK.still h (by simp[execOp,ho,lG,Instr.loadAt,Instr.sureAddr,cT]) hrd⟩
   .rename_i rw bs fU;simp only[qo,Prod.mk.injEq] at eR;obtain⟨rfl,rfl⟩:=eR;obtain⟨rfl,N5⟩:=hc;obtain⟨⟨g',us,jE,hh,dX,h1,hcell⟩,_⟩:=h.ob id p _ hp (hH id _ fU);rw[hg] at jE;cases jE;have oT:((bs.drop off).take i.size).length=i.size:=by simp only[length_take,qt];omega
    have cg: ∀ (k:Nat) y,((bs.drop off).take i.size)[k]?=some y-> ∃ u,us[off+k]?=some u/\PRd w X ρ u y:=by
     intro k y hy;rw[getElem?_take] at hy;split at hy
     .rw[List.getElem?_drop] at hy;have aH:off+k<us.size:=by rw[dX];exact(List.getElem?_eq_some_iff.1 hy).1
      exact⟨us[off+k],Array.getElem?_eq_getElem aH,hcell _ _ _ (Array.getElem?_eq_getElem aH) hy⟩
     cases hy
    obtain⟨u,cT,hrd⟩:=tI hT hi (w:=w) (X:=X) (ρ:=ρ) (ad:=⟨g,off,none⟩) rfl (us:=fun k=>us.getD (off+k) undef) oT
     (fun k y hy=>by
      obtain⟨u,hu,_⟩:=cg k y hy;rw[cell_of_row w g _ us _ _ hh];simp only[Array.getD_eq_getD_getElem?,hu,Option.getD_some])
     (fun k y hy=>by
      obtain⟨u,hu,_⟩:=cg k y hy;simp only[Array.getD_eq_getD_getElem?,hu,Option.getD_some];exact h1 _ _ hu)
     (fun k y hy=>by
      obtain⟨u,hu,um⟩:=cg k y hy;simp only[Array.getD_eq_getD_getElem?,hu,Option.getD_some];exact um) df
    exact⟨rfl,OpOK.still h (by simp[execOp,ho,lG,Instr.loadAt,Instr.sureAddr,cT]) hrd⟩
   cases eR
 .rename_i cs hv;rw[hv] at hx;split at ak;rotate_left
  .cases ak
  rename_i v df;simp only[Res.if,qo] at ak;subst ak;simp only at hc;generalize lG:e x=u at hx;cases hx with
  | fv _ _ hf=>
   cases hf with
   | fp ad cs us h0 hX hb hcell hrd=>
    have cg: ∀ (k:Nat) y,((cs.take i.size).map PV.fv)[k]?=some y-> ∃ z,y= .fv z/\cs[k]?=some z:=by
     intro k y hy;rw[List.getElem?_map,Option.map_eq_some_iff] at hy;obtain⟨z,hz,rfl⟩:=hy;rw[getElem?_take] at hz;split at hz
     .exact⟨z,rfl,hz⟩
     cases hz
    obtain⟨u,cT,hrd⟩:=tI hT hi (w:=w) (X:=X) (ρ:=ρ) (ad:=ad) h0 (us:=us) (by simp;omega)
     (fun k y hy=>by obtain⟨z,_,hz⟩:=cg k y hy;exact hcell k z hz)
     (fun k y hy=>by obtain⟨z,_,hz⟩:=cg k y hy;exact(hrd k z hz).one)
     (fun k y hy=>by obtain⟨z,rfl,hz⟩:=cg k y hy;exact .fv _ _ (hrd k z hz)) df
    exact⟨rfl,OpOK.still h (by simp[execOp,ho,lG,Instr.loadAt,Instr.sureAddr,cT]) hrd⟩
 cases ak
theorem T9 {t:TypeId} {ti:TypeInfo} {d:TypeDesc} (eT:P.info? t=some ti) (hd:P.underlying t=some d) {w:World} {X:Nat->Prop} {ρ:Places} {us:Array Value} {cs:List PV} {off:Nat}
 (hn:us.size=cs.length) (h1: ∀ (i:Nat) u,us[i]?=some u->u.oneCell'=true) (hr: ∀ (i:Nat) u c,us[i]?=some u->cs[i]?=some c->PRd w X ρ u c):
 (yN d=true->off+ti.size<=cs.length-> ∃ u,(part t us off).run P w= .ok u w/\PRd w X ρ u (.agg ((cs.drop off).take ti.size)))/\
 (yN d=false->off<cs.length-> ∃ u,(part t us off).run P w= .ok u w/\PRd w X ρ u (cs.getD off .any)):=by
 have qT:=kH (P:=P) (w:=w) hd
 constructor
 .intro ha hl
  refine⟨.agg (us.extract off (off+ti.size)),by simp[part,qT,ha,sizeOf,typeInfo,eT],.agg _ _ (by simp;omega) (fun i u hu=>?_) (fun i u x hu hx=>?_)⟩
  .have aH:i<(us.extract off (off+ti.size)).size:=(Array.getElem?_eq_some_iff.1 hu).1
   have Jv:us[off+i]?=some u:=by
    rw[<-hu,Array.getElem?_extract,if_pos (by simpa using aH)]
   exact h1 _ u Jv
  have aH:i<(us.extract off (off+ti.size)).size:=(Array.getElem?_eq_some_iff.1 hu).1
  have Jv:us[off+i]?=some u:=by
   rw[<-hu,Array.getElem?_extract,if_pos (by simpa using aH)]
  rw[getElem?_take] at hx
  split at hx
  .rw[List.getElem?_drop] at hx
   exact hr _ u x Jv hx
  cases hx
 intro ha hl
 have aH:off<us.size:=by omega
 refine⟨us[off],by simp[part,qT,ha,Array.getElem?_eq_getElem aH],?_⟩
 refine hr off _ _ (Array.getElem?_eq_getElem aH) ?_
 simp[hl]
theorem Gd (hT:cx P T) (t:TypeId) (x:Operand) (f:Nat):ee P T (.field t x f):=by
 intro c w X ρ H F o e ρv r lo hi ho h hH hρ ak hc;have hx:=hρ x (by simp[Op.operands]);simp only[cj] at ak;split at ak;rotate_left
 .cases ak
 rename_i i hi;split at ak;rotate_left
 .cases ak
 rename_i fs DZ;have hd:=(hT _ _ hi).desc;rw[DZ] at hd;obtain⟨ffs,hu,dX,Jz⟩:=hd;split at ak
 .rename_i fd cs zI hv;rw[hv] at hx;have aH:f<ffs.size:=by rw[dX];exact(List.getElem?_eq_some_iff.1 zI).1
  obtain⟨jx,gw,ti,d,eT,ef,DH,qT⟩:=Jz f _ _ (Array.getElem?_eq_getElem aH) zI;generalize lG:e x=u at hx;cases hx with
  | agg us _ hn h1 hr=>
   have Xz:=T9 eT DH (w:=w) (X:=X) (ρ:=ρ) (off:=fd.off) hn h1 hr;split at ak
   .rename_i j7;simp only[Res.if,qo] at ak;subst ak;obtain⟨u,cT,hrd⟩:=Xz.1 (by rw[qT];exact j7) (by rw[ef];exact hc);rw[ef] at hrd;exact⟨rfl,OpOK.still h (by simp[execOp,ho,lG,Instr.field,run_underlying hu,Array.getElem?_eq_getElem aH,asAgg,jx,cT]) hrd⟩
   rename_i j7;split at ak
   .simp only[Res.if,qo] at ak;subst ak;obtain⟨u,cT,hrd⟩:=Xz.2 (by rw[qT];simpa using j7) hc;exact⟨rfl,OpOK.still h (by simp[execOp,ho,lG,Instr.field,run_underlying hu,Array.getElem?_eq_getElem aH,asAgg,jx,cT]) hrd⟩
   cases ak
 cases ak
end
end Go.AM
namespace Go.AM
section
variable {P:Program} {T:Tab}
theorem Gf (hT:cx P T) (t:TypeId) (x ix:Operand):ee P T (.index t x ix):=by
 intro c w X ρ H F o e ρv r lo hi ho h hH hρ ak hc;have hx:=hρ x (by simp[Op.operands]);have hix:=hρ ix (by simp[Op.operands]);simp only[cj] at ak;split at ak;rotate_left
 .cases ak
 rename_i i n hi hn;have hk: ∃ k,e ix= .int k n:=by
  unfold PV.asInt at hn;split at hn
  .rename_i k m hm;cases hn;rw[hm] at hix;exact⟨k,hix.litInv⟩
  cases hn
 obtain⟨k,N4⟩:=hk;have hd:=(hT _ _ hi).desc;split at ak;rotate_left
 .rename_i kN;rw[kN] at hd;simp only[fO] at hd;split at ak
  .rename_i s hv;rw[hv] at hx;simp only[Res.if,qo] at ak;subst ak;have aH:n.toNat<s.size:=by have:=hc.1;have:=hc.2;omega
   refine⟨rfl,OpOK.still h ?_ (.fv _ _ (.lit _ rfl))⟩;have hr:(Instr.index t (.string s) (.int k n)).run P w= .ok (.int .u8 ((s[n.toNat]?).getD 0).toNat) w:=by
    rw[run_index_string w t s k n hd,dif_pos hc];have:s[n.toNat]?=some s[n.toNat]:=by simp[aH]
    rw[this];rfl
   simp[execOp,ho,N4,hx.litInv,hr]
  cases ak
 .cases ak
 rename_i kk el kN;rw[kN] at hd;simp only[fO] at hd;split at ak;rotate_left
 .cases ak
 rename_i ie cs mc hv;rw[hv] at hx;split at ak;rotate_left
 .cases ak
 rename_i v df;simp only[Res.if,qo] at ak;subst ak;obtain⟨h0,aH,hl⟩:=hc;obtain⟨ti,z,eT,ef,_⟩:=(hT _ _ mc).info;generalize lG:e x=u at hx;cases hx with
 | agg us _ hn h1 hr=>
  have qT:=(hT _ _ mc).agg (w:=w);have h2:0<=n/\n<(kk:Int):=⟨h0,aH⟩;unfold jf at df;split at df
  .rename_i j7;cases df;refine⟨rfl,OpOK.still h (u:= .agg (us.extract (n.toNat*ie.size) (n.toNat*ie.size+ie.size))) ?_ (.agg _ _ (by simp;omega) (fun i u hu=>?_) (fun i u y hu hy=>?_))⟩
   .simp[execOp,ho,lG,N4,Instr.index,asIntOf,run_underlying hd,h2,sizeOf,typeInfo,eT,ef,part,qT,j7]
   .have aH:i<(us.extract (n.toNat*ie.size) (n.toNat*ie.size+ie.size)).size:=(Array.getElem?_eq_some_iff.1 hu).1;have Jv:us[n.toNat*ie.size+i]?=some u:=by rw[<-hu,Array.getElem?_extract,if_pos (by simpa using aH)]
    exact h1 _ u Jv
   have aH:i<(us.extract (n.toNat*ie.size) (n.toNat*ie.size+ie.size)).size:=(Array.getElem?_eq_some_iff.1 hu).1;have Jv:us[n.toNat*ie.size+i]?=some u:=by rw[<-hu,Array.getElem?_extract,if_pos (by simpa using aH)]
   rw[getElem?_take] at hy;split at hy
   .rw[List.getElem?_drop] at hy;exact hr _ u y Jv hy
   cases hy
  rename_i j7;split at df
  .rename_i hs;cases df;have aH:n.toNat*ie.size<us.size:=by omega
   refine⟨rfl,OpOK.still h (u:=us[n.toNat*ie.size]) ?_ (hr _ _ _ (Array.getElem?_eq_getElem aH) ?_)⟩
   .simp only[Bool.not_eq_true] at j7;simp[execOp,ho,lG,N4,Instr.index,asIntOf,run_underlying hd,h2,sizeOf,typeInfo,eT,ef,part,qT,j7,Array.getElem?_eq_getElem aH]
   rw[hs];simp only[List.headD_eq_head?_getD,List.head?_take,List.head?_drop];have:n.toNat*1<cs.length:=by rw[<-hs];omega
   rw[if_neg (by omega),qb this];rfl
  cases df
theorem mP {w:World} {X:Nat->Prop} {ρ:Places} {ov:Option Operand} {e:Operand->Value} {ρv:Operand->PV} (hρ: ∀ x∈ov.toArray,PRd w X ρ (e x) (ρv x)) {d n:Nat} {cd:Prop}
 (hb:eh (ov.map ρv) d=some (cd,n)):(ov=none/\n=d/\cd=True)\/ ∃ x k m,ov=some x/\e x= .int k m/\cd=(0<=m)/\n=m.toNat:=by
 cases ov with
 | none=>
  simp only[Option.map_none,eh,qo,Prod.mk.injEq] at hb;exact .inl ⟨rfl,hb.2.symm,hb.1.symm⟩
 | some x=>
  right;have hx:=hρ x (by simp);simp only[Option.map_some,eh] at hb;split at hb
  .rename_i m hm;unfold PV.asInt at hm;split at hm
   .rename_i k q hq;cases hm;rw[hq] at hx;cases hb;exact⟨x,k,m,rfl,hx.litInv,rfl,rfl⟩
   cases hm
  cases hb
theorem nQ {w:World} {t el:TypeId} {ti:TypeInfo} (hu:P.underlying t=some (.slice el)) (eT:P.info? el=some ti) {lo hi:Option Operand} {e:Operand->Value} {ρv:Operand->PV} {X:Nat->Prop} {ρ:Places}
 (fR: ∀ x∈lo.toArray,PRd w X ρ (e x) (ρv x)) (fL: ∀ x∈hi.toArray,PRd w X ρ (e x) (ρv x)) {len cap l h:Nat} {c1 c2:Prop} (b:Option Addr)
 (dY:eh (lo.map ρv) 0=some (c1,l)) (eC:eh (hi.map ρv) len=some (c2,h)) (sB:c1) (oH:c2) (DX:l<=h) (hhc:h<=cap):
 (Instr.sliceAt t (.slice b len cap) (lo.map e) (hi.map e) none).run P w= .ok (.slice (if cap=l then b else b.map (·.add (l*ti.size))) (h - l) (cap - l)) w:=by
 have key:(Instr.sliceBounds true len cap (lo.map e) (hi.map e) none).run P w= .ok (l,h,cap) w:=by
  rcases mP fR dY with⟨rfl,rfl,_⟩ | ⟨x,k,m,rfl,hx,rfl,rfl⟩<;>
   rcases mP fL eC with⟨rfl,rfl,_⟩ | ⟨y,k',m',rfl,hy,rfl,rfl⟩
  .simp[Instr.sliceBounds]
  .have h1:0<=m'/\m'<=(cap:Int):=by omega
   simp[Instr.sliceBounds,Instr.sliceBound,hy,asIntOf,h1]
  .have h1:0<=m/\m<=(h:Int):=by omega
   simp[Instr.sliceBounds,Instr.sliceBound,hx,asIntOf,h1]
  have h1:0<=m'/\m'<=(cap:Int):=by omega
  have h2:0<=m/\m<=max m' 0:=by omega
  simp[Instr.sliceBounds,Instr.sliceBound,hx,hy,asIntOf,h1,h2]
 simp[Instr.sliceAt,run_underlying hu,Instr.slice,key,sizeOf,typeInfo,eT]
theorem Dh {w:World} {X:Nat->Prop} {b:Option Addr} {n cap l h sz:Nat} {xs:List (List FV)} (hf:FRd w X (.slice b n cap) (.sl xs)) (hs: ∀ x∈xs,x.length=sz) (DX:l<=h) (JA:h<=n):
 FRd w X (.slice (if cap=l then b else b.map (·.add (l*sz))) (h - l) (cap - l)) (.sl ((xs.drop l).take (h - l))):=by
 cases hf with
 | nil=>
  have:l=0:=by omega
  subst this;have:h=0:=by omega
  subst this;simp;exact .nil
 | sl ad _ _ s _ us hn vr ua h0 hX hb hcell hrd=>
  by_cases hz:h - l=0
  .rw[hz];simp only[List.take_zero];by_cases fC:cap=l
   .rw[if_pos fC];exact .sl ad 0 _ 0 [] (fun _ _=>undef) rfl (eB _) (by simp) h0 (fun h=>absurd rfl h) (fun h=>absurd rfl h) (by simp) (by simp)
   rw[if_neg fC];refine .sl _ 0 _ 0 [] (fun _ _=>undef) rfl (eB _) (by simp) ?_ (fun h=>absurd rfl h) (fun h=>absurd rfl h) (by simp) (by simp);simp only[ib h0]
  have fC: ¬cap=l:=by omega
  rw[if_neg fC];have cX:xs≠[]:=by intro hx;subst hx;simp at hn;omega
  have dX:s=sz:=by
   cases xs with
   | nil=>exact absurd rfl cX
   | cons x xs=>rw[<-ua x (by simp),hs x (by simp)]
  subst dX;simp only[Option.map_some,ib h0];refine .sl _ _ _ s _ (fun i j=>us (l+i) j) (by simp;omega) (by omega) (fun x hx=>ua x (VN (AY hx))) rfl (fun _=>hX (by omega)) (fun _=>hb (by omega)) (fun i j x y hx hy=>?_) (fun i j x y hx hy=>?_)
  .rw[getElem?_take] at hx;split at hx
   .rw[List.getElem?_drop] at hx;have:=hcell _ j x y hx hy;rw[<-this];congr 2;simp only[Nat.add_mul];omega
   cases hx
  rw[getElem?_take] at hx;split at hx
  .rw[List.getElem?_drop] at hx;exact hrd _ j x y hx hy
  cases hx
theorem K9 {c:gD} {w:World} {X:Nat->Prop} {ρ:Places} {F H:List Ob} (h:HRd c w X ρ F) (hH: ∀ (j:Nat) o,H[j]?=some o->F[j]?=some o) {id:Nat} {p:Place} (hp:ρ[id]?=some (some p)) (off len:Nat) (lo hi:Option PV):
 (p.b=none->room H id off len lo hi<=len)/\(p.b≠none->room H id off len lo hi<=max len (p.cap - off)):=by
 unfold room
 split
 .split
  .rename_i rw xs fU
   obtain⟨⟨_,_,us,gS,_⟩,_⟩:=h.ob id p _ hp (hH _ _ fU)
   obtain⟨_,eJ⟩:=gS
   constructor
   .intro hg
    rcases eJ with⟨_,h6⟩ | ⟨g',cap',VH,h5,_⟩
    .rw[h6];omega
    simp[Place.val,hg] at h5
   intro hg
   obtain⟨g,hg⟩:=Option.ne_none_iff_exists'.1 hg
   rcases eJ with⟨h5,h6⟩ | ⟨g',cap',cur,h5,_,jF,qY,_⟩
   .rw[h6];omega
   simp only[Place.val,hg,Value.slice.injEq] at h5
   omega
  exact⟨fun _=>qp _,fun _=>Nat.le_max_left _ _⟩
 exact⟨fun _=>qp _,fun _=>Nat.le_max_left _ _⟩
theorem Gg (hT:cx P T) {t:TypeId} {i:TyI} (hi:T.at t=some i) {el:Nat} (kN:i.d= .sl el) (x:Operand) (lo oL:Option Operand):ee P T (.slice t x lo oL none):=by
 intro c w X ρ H F o e ρv r l0 h0 ho h hH hρ ak hc;have hx:=hρ x (by simp[Op.operands]);have fR: ∀ y∈lo.toArray,PRd w X ρ (e y) (ρv y):=fun y hy=>hρ y (by simp[Op.operands] at hy ⊢;simp[hy])
 have fL: ∀ y∈oL.toArray,PRd w X ρ (e y) (ρv y):=fun y hy=>hρ y (by simp[Op.operands] at hy ⊢;simp[hy])
 have hd:=(hT _ _ hi).desc;rw[kN] at hd;simp only[fO] at hd;simp only[cj,hi,kN] at ak;split at ak
 .rename_i ie id off len s mc hv;obtain⟨ti,z,eT,ef,_⟩:=(hT _ _ mc).info;rw[hv] at hx;split at ak;rotate_left
  .cases ak
  rename_i hs;split at ak;rotate_left
  .cases ak
  rename_i c1 l c2 hh dY eC;simp only[Res.if,qo] at ak;subst ak;obtain⟨sB,oH,DX,JA⟩:=hc;obtain⟨p,hp,md,⟨hg,mY,rfl,rfl⟩ | ⟨g,og,hg,mY,hl,iU⟩⟩:=hx.lslInv
  .replace JA:=gI JA ((K9 h hH hp _ _ _ _).1 hg);have cT:=nQ (w:=w) hd eT fR fL (cap:=0) none dY eC sB oH DX JA;have e1:l=0:=by omega
   have e2:hh=0:=by omega
   subst e1 e2;subst md;refine⟨rfl,OpOK.still h (u:= .slice none 0 0) ?_ (.lsl0 id p hp hg)⟩;simp at cT;simp[execOp,ho,mY,cT]
  replace JA:=gI JA ((K9 h hH hp _ _ _ _).2 (by rw[hg];simp));replace JA:hh<=p.cap - off:=by omega
  have cT:=nQ (w:=w) hd eT fR fL (cap:=p.cap - off) (some ⟨g,og,none⟩) dY eC sB oH DX JA;subst md;have e:p.cap - off - l=p.cap - (off+l):=by omega
  rw[e] at cT;refine⟨rfl,OpOK.still h (by simp only[execOp,ho,mY,Option.map_none];rw[Sem.run_bind,cT];rfl) ?_⟩;by_cases fC:p.cap - off=l
  .rw[if_pos fC];refine .lsl id (off+l) (hh - l) og g p hp hg (by omega) ?_;by_cases hz:off+l=0
   .left;have:off=0:=by omega
    subst this;rcases iU with iU | iU
    .have Lp:l=0:=by omega
     subst Lp;rw[iU]
    exact absurd rfl iU.2
   right;exact⟨by omega,hz⟩
  rw[if_neg fC];have LC:og=off*p.size:=by
   rcases iU with iU | iU
   .exact iU
   omega
  subst LC;simp only[Option.map_some,iJ];refine .lsl id (off+l) (hh - l) _ g p hp hg (by omega) (.inl ?_);rw[ef,<-hs,Nat.add_mul]
 .rename_i ie xs mc hv;obtain⟨ti,z,eT,ef,_⟩:=(hT _ _ mc).info;rw[hv] at hx;split at ak;rotate_left
  .cases ak
  rename_i c1 l c2 hh dY eC;simp only[Res.if,qo] at ak;subst ak;obtain⟨sB,oH,DX,JA,aD⟩:=hc;generalize lG:e x=u at hx;cases hx with
  | fv _ _ hf=>
   have aag: ∃ b n cap,u= .slice b n cap/\xs.length=n/\n<=cap:=by
    cases hf with
    | nil=>exact⟨_,_,_,rfl,rfl,qp _⟩
    | sl ad n cap s _ us hn vr=>exact⟨_,_,_,rfl,hn,vr⟩
   obtain⟨b,n,cap,rfl,hn,vr⟩:=aag;subst hn;have cT:=nQ (w:=w) hd eT fR fL b dY eC sB oH DX (gI JA vr);refine⟨rfl,OpOK.still h (by simp only[execOp,ho,lG,Option.map_none];rw[Sem.run_bind,cT];rfl) (.fv _ _ ?_)⟩;rw[ef];exact Dh hf aD DX JA
 .rename_i ie xs mc hv;obtain⟨ti,z,eT,ef,_⟩:=(hT _ _ mc).info;rw[hv] at hx;split at ak;rotate_left
  .cases ak
  rename_i c1 l c2 hh dY eC;simp only[Res.if,qo] at ak;subst ak;obtain⟨sB,oH,DX,JA,aD⟩:=hc;generalize lG:e x=u at hx;cases hx with
  | clip b n _ hf=>
   have hn:xs.length=n:=by
    cases hf with
    | nil=>rfl
    | sl ad n cap s _ us hn vr=>exact hn
   subst hn;have cT:=nQ (w:=w) hd eT fR fL b dY eC sB oH DX JA;refine⟨rfl,OpOK.still h (by simp only[execOp,ho,lG,Option.map_none];rw[Sem.run_bind,cT];rfl) (.fv _ _ ?_)⟩;rw[ef];exact Dh hf aD DX JA
 cases ak
theorem T_ {w:World} {X:Nat->Prop} {ρ:Places} {u:Value} {x:PV} {len:Nat} (h:PRd w X ρ u x) (hl:oz x=some len): ∃ b cap,u= .slice b len cap/\len<=cap/\FRd w X (.slice b 0 0) (.sl []):=by
 have key: ∀ ad:Addr,ad.spot=none->FRd w X (.slice (some ad) 0 0) (.sl []):=fun ad had=>
  .sl ad 0 0 0 [] (fun _ _=> .bool false) rfl (qp _) (by simp) had (fun h=>absurd rfl h) (fun h=>absurd rfl h) (by simp) (by simp)
 cases h with
 | any=>simp[oz] at hl
 | fv _ y hf=>
  cases hf with
  | lit v hv=>
   unfold oz at hl;split at hl
   all_goals first
    | (rename_i heq;cases heq;done)
    | (cases hl;done)
    | skip
   rename_i heq;cases heq;cases hl;exact⟨_,_,rfl,eB _,key _ rfl⟩
  | nil=>simp[oz] at hl;subst hl;exact⟨_,_,rfl,qp _,.nil⟩
  | sl ad n cap s xs us hn hc ua h0=>
   simp[oz] at hl;subst hl;rw[<-hn] at hc ⊢;exact⟨_,_,rfl,hc,key _ h0⟩
  | fp=>simp[oz] at hl
  | fn=>simp[oz] at hl
 | nilsl=>simp[oz] at hl;subst hl;exact⟨_,_,rfl,qp _,.nil⟩
 | clip a n xs hf=>
  simp[oz] at hl;subst hl;cases hf with
  | nil=>exact⟨_,_,rfl,qp _,.nil⟩
  | sl ad n cap s _ us hn hc ua h0=>rw[<-hn];exact⟨_,_,rfl,qp _,key _ h0⟩
 | ptr=>simp[oz] at hl
 | lsl0 id p hp hg=>simp[oz] at hl;subst hl;exact⟨_,_,rfl,qp _,.nil⟩
 | lsl id off len o g p hp hg qL ho=>simp[oz] at hl;subst hl;exact⟨_,_,rfl,by omega,key _ rfl⟩
 | agg=>simp[oz] at hl
 | tup=>simp[oz] at hl
 | tab=>simp[oz] at hl
theorem Gh {w:World} {X:Nat->Prop} {ρ:Places} {u:Value} {x:PV} {n:Int} (h:PRd w X ρ u x) (hn:x.asInt=some n): ∃ k,u= .int k n:=by
 unfold PV.asInt at hn;split at hn
 .cases hn;exact⟨_,h.litInv⟩
 cases hn
theorem Di (hT:cx P T) {t:TypeId} {i:TyI} (hi:T.at t=some i) {el:Nat} (kN:i.d= .sl el) (x:Operand) (lo oL:Option Operand) (mx:Operand):ee P T (.slice t x lo oL (some mx)):=by
 intro c w X ρ H F o e ρv r l0 h0 ho h hH hρ ak hc;have hx:=hρ x (by simp[Op.operands]);have fR: ∀ y∈lo.toArray,PRd w X ρ (e y) (ρv y):=fun y hy=>hρ y (by simp[Op.operands] at hy ⊢;simp[hy])
 have fL: ∀ y∈oL.toArray,PRd w X ρ (e y) (ρv y):=fun y hy=>hρ y (by simp[Op.operands] at hy ⊢;simp[hy])
 have NJ:=hρ mx (by simp[Op.operands]);have hd:=(hT _ _ hi).desc;rw[kN] at hd;simp only[fO] at hd;simp only[cj,hi,kN] at ak;split at ak;rotate_left
 .cases ak
 rename_i ie len c1 l hh m mc wm dY hh1 mU;obtain⟨ti,z,eT,ef,_⟩:=(hT _ _ mc).info;simp only[Res.if,qo] at ak;subst ak;obtain⟨sB,oH,DX,JA,lB⟩:=hc;obtain⟨b,cap,rC,RB,Ou⟩:=T_ hx wm;obtain⟨km,hem⟩:=Gh NJ mU;cases oL with
 | none=>simp[asI] at hh1
 | some y=>
  obtain⟨ky,hey⟩:=Gh (fL y (by simp)) (by simpa [asI] using hh1);have key:(Instr.sliceBounds true len cap (lo.map e) ((some y).map e) (some (e mx))).run P w= .ok (l,hh.toNat,m.toNat) w:=by
   have h3:0<=m/\m<=(cap:Int):=by omega
   have h4:0<=hh/\hh<=max m 0:=by omega
   rcases mP fR dY with⟨rfl,rfl,_⟩ | ⟨x,k,q,rfl,hx,rfl,rfl⟩
   .simp[Instr.sliceBounds,Instr.sliceBound,hey,hem,asIntOf,h3,h4]
   have h5:0<=q/\q<=max hh 0:=by omega
   simp[Instr.sliceBounds,Instr.sliceBound,hey,hem,hx,asIntOf,h3,h4,h5]
  have cT:(Instr.sliceAt t (.slice b len cap) (lo.map e) ((some y).map e) (some (e mx))).run P w= .ok (.slice (if m.toNat=l then b else b.map (·.add (l*ti.size))) (hh.toNat - l) (m.toNat - l)) w:=by
   simp only[Option.map_some] at key ⊢;simp[Instr.sliceAt,run_underlying hd,Instr.slice,key,sizeOf,typeInfo,eT]
  refine⟨rfl,OpOK.still h (by simp only[execOp,ho,rC,Option.map_some];simp only[Option.map_some] at cT;rw[Sem.run_bind,cT];rfl) ?_⟩;cases lo with
  | some _=>exact .any _
  | none=>
   have Lp:l=0:=by simp[eh] at dY;omega
   subst Lp;simp only[Option.map_none,JJ];by_cases zr:m=0
   .by_cases hh0:hh=0
    .subst zr hh0;exact .clip _ _ _ Ou
    rw[if_pos zr,if_neg hh0];exact .any _
   rw[if_neg zr];exact .any _
theorem i9 {α:Type} {l new:List α} {off:Nat} (h:off+new.length<=l.length) (i:Nat):
 (eM l off new)[i]?=if i<off then l[i]? else if i<off+new.length then new[i - off]? else l[i]?:=by
 unfold eM
 by_cases h1:i<off
 .rw[if_pos h1,qlb,qi (by simp;omega),getElem?_take,if_pos h1]
 rw[if_neg h1]
 by_cases h2:i<off+new.length
 .rw[if_pos h2,qi (by simp;omega),qh (by simp;omega)]
  congr 1
  simp
  omega
 rw[if_neg h2,qh (by simp;omega),List.getElem?_drop]
 congr 1
 simp
 omega
theorem gO {α:Type} {l new:List α} {off:Nat} (h:off+new.length<=l.length):(eM l off new).length=l.length:=by
 unfold eM;simp;omega
theorem yQ: ∀ (l:List Value) (k off:Nat) (cells:Array Value),(∀ m,((l.zipIdx k).foldl (fun cs (p:Value×Nat)=>cs.setIfInBounds (off+p.2) p.1) cells)[m]?=
 if off+k<=m/\m<off+k+l.length/\m<cells.size then l[m - (off+k)]? else cells[m]?)
 | [],k,off,cells=>fun m=>by simp;intro h1 h2;omega
 | v::l,k,off,cells=>fun m=>by
  rw[List.zipIdx_cons,List.foldl_cons,yQ l (k+1) off _ m];simp only[Array.size_setIfInBounds,List.length_cons];by_cases h1:off+k=m
  .subst h1;rw[if_neg (by omega)];by_cases aH:off+k<cells.size
   .rw[if_pos (by omega)];simp[aH]
   rw[if_neg (by omega)];simp[aH]
  rw[Array.getElem?_setIfInBounds_ne h1];by_cases h2:off+(k+1)<=m/\m<off+(k+1)+l.length/\m<cells.size
  .rw[if_pos h2,if_pos (by omega)];rw[show m - (off+k)=(m - (off+(k+1)))+1 by omega,List.getElem?_cons_succ]
  rw[if_neg h2,if_neg (by omega)]
theorem FRd.cells {w:World} {X:Nat->Prop} {u:Value} {x:FV} (h:FRd w X u x):u.cells=#[u]:=by
 cases h<;>first | rfl | (rename_i h;cases u<;>first | rfl | cases h)
theorem sc {w:World} {X:Nat->Prop} {ρ:Places} {u:Value} {x:PV} (h:PRd w X ρ u x) (hx:0<x.cells.length):u.cells.size=x.cells.length/\ ∀ (i:Nat) v,u.cells[i]?=some v->v.oneCell'=true:=by
 cases h with
 | agg us cs hn h1 hr=>exact⟨hn,h1⟩
 | any=>simp[PV.cells] at hx
 | tup us cs hn hr=>simp[PV.cells] at hx
 | fv _ _ hf=>
  rw[hf.cells];refine⟨rfl,fun i v hv=>?_⟩;cases i with
  | zero=>simp at hv;subst hv;exact hf.one
  | succ i=>simp at hv
 | _=>
  refine⟨rfl,fun i v hv=>?_⟩;cases i with
  | zero=>simp[Value.cells] at hv;subst hv;rfl
  | succ i=>simp[Value.cells] at hv
theorem yR {w:World} {X:Nat->Prop} {ρ:Places} {u:Value} {x:PV} (h:PRd w X ρ u x): ∀ (i:Nat) v y,u.cells[i]?=some v->x.cells[i]?=some y->PRd w X ρ v y:=by
 intro i v y hv hy;cases h with
 | agg us cs hn h1 hr=>exact hr i v y hv hy
 | any=>simp[PV.cells] at hy
 | fv _ _ hf=>
  rw[hf.cells] at hv;cases i with
  | zero=>simp[PV.cells] at hv hy;subst hv;subst hy;exact .fv _ _ hf
  | succ i=>simp at hv
 | nilsl=>cases i with
  | zero=>simp[PV.cells,Value.cells] at hv hy;subst hv;subst hy;exact .nilsl
  | succ i=>simp[Value.cells] at hv
 | clip a n xs hf=>cases i with
  | zero=>simp[PV.cells,Value.cells] at hv hy;subst hv;subst hy;exact .clip a n xs hf
  | succ i=>simp[Value.cells] at hv
 | ptr id j off g p hp hg=>cases i with
  | zero=>simp[PV.cells,Value.cells] at hv hy;subst hv;subst hy;exact .ptr id j off g p hp hg
  | succ i=>simp[Value.cells] at hv
 | lsl0 id p hp hg=>cases i with
  | zero=>simp[PV.cells,Value.cells] at hv hy;subst hv;subst hy;exact .lsl0 id p hp hg
  | succ i=>simp[Value.cells] at hv
 | lsl id off len og g p hp hg hl ho=>cases i with
  | zero=>simp[PV.cells,Value.cells] at hv hy;subst hv;subst hy;exact .lsl id off len og g p hp hg hl ho
  | succ i=>simp[Value.cells] at hv
 | tup us cs hn hr=>simp[PV.cells] at hy
 | tab id g p hp hg=>cases i with
  | zero=>simp[PV.cells,Value.cells] at hv hy;subst hv;subst hy;exact .tab id g p hp hg
  | succ i=>simp[Value.cells] at hv
end
end Go.AM
namespace Go.AM
section
variable {P:Program} {T:Tab}
def EffOp (P:Program) (T:Tab) (op:Op):Prop:=
 ∀ {c:gD} {w:World} {X:Nat->Prop} {ρ:Places} {H D R:List Ob} {o:Oper} {e:Operand->Value} {ρv:Operand->PV} {r:Res},
  o.op=op->HRd c w X ρ (H++(D++R))->(∀ id,H.length<=id->id<H.length+D.length->ρ[id]?=some none)->(∀ x∈op.operands,PRd w X ρ (e x) (ρv x))->cj T H ρv op=some r->r.cond->
  r.heap.length=H.length+D.length->OpOK c w X ρ H.length (H.length+D.length) (r.heap++R) ((execOp e o).run P w) r.val
theorem bx {H G:List Ob}: ∀ (j:Nat) o,H[j]?=some o->(H++G)[j]?=some o:=fun j o h=>by
 rw[qi (List.getElem?_eq_some_iff.1 h).1];exact h
theorem EffOp.of_still {op:Op} (h:ee P T op):EffOp P T op:=by
 intro c w X ρ H D R o e ρv r ho hh hD hρ ak hc aD;obtain⟨hr,bg⟩:=h (lo:=H.length) (hi:=H.length+D.length) ho hh bx hρ ak hc;rw[hr] at aD;have hd:D=[]:=List.eq_nil_of_length_eq_zero (by omega);subst hd;rw[hr];exact bg
theorem B5 {c:gD} {w:World} {X:Nat->Prop} {ρ:Places} {H R:List Ob} {d:Ob} (h:HRd c w X ρ (H++([d]++R))) (hρ:ρ[H.length]?=some none) {us:Array Value} {cs:List PV} (el:Nat)
 (hn:us.size=cs.length) (h1: ∀ (i:Nat) u,us[i]?=some u->u.oneCell'=true) (hr: ∀ (i:Nat) u x,us[i]?=some u->cs[i]?=some x->PRd w X ρ u x):
 ∃ X' ρ',Stp c w (w.alloc (.cells us el)) X X' ρ ρ'/\HRd c (w.alloc (.cells us el)) X' ρ' ((H++[.box true cs])++R)/\
  PRd (w.alloc (.cells us el)) X' ρ' (.pointer (some ⟨w.heap.size,0,none⟩)) (.ptr H.length 0 0)/\ ∀ id,id≠H.length->ρ'[id]?=ρ[id]?:=by
 let p:Place:=⟨some w.heap.size,el,us.size,0⟩
 have aH:H.length<ρ.length:=(List.getElem?_eq_some_iff.1 hρ).1
 have hg:=World.grownBy_alloc w (.cells us el) none
 have hF:(H++([d]++R)).set H.length (.box true cs)=(H++[.box true cs])++R:=by simp
 have aah: ∀ (j:Nat) q o g,ρ[j]?=some (some q)->(H++([d]++R))[j]?=some o->o.rw=true->q.b=some g->g<w.heap.size:=fun j q o g hq ho hr hb=>(h.own j q o g hq ho hr hb).2
 have bX:=h.put (id:=H.length) (p:=p) (ob:= .box true cs) (row:=none) (w':=w.alloc (.cells us el)) (by simp) (.inl hρ) hg (by simp)
  (fun j q o g hj hq ho hr hb=>⟨by simp,by
   have:=aah j q o g hq ho hr hb;intro he;simp only[p,qo] at he;omega⟩)
  (fun g hg=>by simp only[p,qo] at hg;left;omega)
  (fun g hg=>by simp only[p,qo] at hg;subst hg;exact⟨.inl h.ge,by simp⟩)
  (by simp)
  ⟨⟨w.heap.size,us,rfl,heap_alloc_new w _,hn,h1,fun i u x hu hx=>(hr i u x hu hx).mono (World.grownBy_alloc w _ none |> fun hg=>⟨hg.size,fun b hb _=>hg.block b hb (by simp)⟩)
   (fun b hb hx=>by
    rcases hx with hx | hx
    .exact hx
    simp only[p,qo] at hx;omega) (Places.Le.set (.inl hρ))⟩,
   fun g hg=>⟨fun _=> .inr hg,fun _=>rfl⟩⟩
 rw[hF] at bX
 refine⟨_,_,bX.2,bX.1,?_,fun id dk=>by rw[getElem?_set_ne (Ne.symm dk)]⟩
 have:=PRd.ptr (w:=w.alloc (.cells us el)) (X:=fun b=>X b\/p.b=some b) (ρ:=ρ.set H.length (some p)) H.length 0 0 w.heap.size p (by simp[aH]) rfl
 simpa using this
theorem IG {c:gD} {w:World} {X:Nat->Prop} {ρ:Places} {H R:List Ob} {d:Ob} (h:HRd c w X ρ (H++([d]++R))) (hρ:ρ[H.length]?=some none) {us:Array Value} {cs:List PV} (el n:Nat)
 (hn:us.size=cs.length) (_hcn:cs.length=n) (h1: ∀ (i:Nat) u,us[i]?=some u->u.oneCell'=true) (hr: ∀ (i:Nat) u x,us[i]?=some u->cs[i]?=some x->PRd w X ρ u x):
 ∃ X' ρ',Stp c w (w.alloc (.cells us el)) X X' ρ ρ'/\HRd c (w.alloc (.cells us el)) X' ρ' ((H++[.box true cs])++R)/\
  PRd (w.alloc (.cells us el)) X' ρ' (.slice (some ⟨w.heap.size,0,none⟩) n n) (.lsl H.length 0 n 1)/\ ∀ id,id≠H.length->ρ'[id]?=ρ[id]?:=by
 let p:Place:=⟨some w.heap.size,el,1,n⟩
 have aH:H.length<ρ.length:=(List.getElem?_eq_some_iff.1 hρ).1
 have hg:=World.grownBy_alloc w (.cells us el) none
 have hF:(H++([d]++R)).set H.length (.box true cs)=(H++[.box true cs])++R:=by simp
 have aah: ∀ (j:Nat) q o g,ρ[j]?=some (some q)->(H++([d]++R))[j]?=some o->o.rw=true->q.b=some g->g<w.heap.size:=fun j q o g hq ho hr hb=>(h.own j q o g hq ho hr hb).2
 have bX:=h.put (id:=H.length) (p:=p) (ob:= .box true cs) (row:=none) (w':=w.alloc (.cells us el)) (by simp) (.inl hρ) hg (by simp)
  (fun j q o g hj hq ho hr hb=>⟨by simp,by
   have:=aah j q o g hq ho hr hb;intro he;simp only[p,qo] at he;omega⟩)
  (fun g hg=>by simp only[p,qo] at hg;left;omega)
  (fun g hg=>by simp only[p,qo] at hg;subst hg;exact⟨.inl h.ge,by simp⟩)
  (by simp)
  ⟨⟨w.heap.size,us,rfl,heap_alloc_new w _,hn,h1,fun i u x hu hx=>(hr i u x hu hx).mono (World.grownBy_alloc w _ none |> fun hg=>⟨hg.size,fun b hb _=>hg.block b hb (by simp)⟩)
   (fun b hb hx=>by
    rcases hx with hx | hx
    .exact hx
    simp only[p,qo] at hx;omega) (Places.Le.set (.inl hρ))⟩,
   fun g hg=>⟨fun _=> .inr hg,fun _=>rfl⟩⟩
 rw[hF] at bX
 refine⟨_,_,bX.2,bX.1,?_,fun id dk=>by rw[getElem?_set_ne (Ne.symm dk)]⟩
 have:=PRd.lsl (w:=w.alloc (.cells us el)) (X:=fun b=>X b\/p.b=some b) (ρ:=ρ.set H.length (some p)) H.length 0 n 0 w.heap.size p (by simp[aH]) rfl (by simp[p]) (.inl (by simp))
 simpa using this
def K_:Value->Nat
 | .slice _ _ c=>c
 | _=>0
theorem Gi {w:World} {e size n:Nat} {v:Value} {us:List Value} (h:w.ownsRow 0 e size v n us):Place.val ⟨v.ownBlock,e,size,K_ v⟩ n=v:=by
 rcases h.2 with⟨rfl,rfl⟩ | ⟨g,cap,cur,rfl,_⟩
 .rfl
 rfl
theorem d7 {c:gD} {w w':World} {X:Nat->Prop} {ρ:Places} {H R:List Ob} {d:Ob} (h:HRd c w X ρ (H++([d]++R))) (hρ:ρ[H.length]?=some none) {us:List Value} {xs:List (List FV)} {el size:Nat} {v:Value}
 {row:Option Nat} (hg:w.grownBy w' row) (v5: ∀ g,row=some g->X g)
 (pO: ∀ (j:Nat) q o g,j≠H.length->ρ[j]?=some (some q)->(H++([d]++R))[j]?=some o->o.rw=true->q.b=some g->some g≠row)
 (DY: ∀ g,row=some g->(c.w0.heap.size<=g\/c.M g)) (dj:0<size) (aD: ∀ x∈xs,x.length=size)
 (fF:w'.ownsRow 0 el size v xs.length us) (jH: ∀ g,v.ownBlock=some g->w.heap.size<=g\/some g=row)
 (hcell: ∀ (i j:Nat) x y,xs[i]?=some x->x[j]?=some y-> ∃ u,us[i*size+j]?=some u/\FRd w X u y):
 ∃ X' ρ',Stp c w w' X X' ρ ρ'/\HRd c w' X' ρ' ((H++[.row true xs])++R)/\PRd w' X' ρ' v (.lsl H.length 0 xs.length size)/\ ∀ id,id≠H.length->ρ'[id]?=ρ[id]?:=by
 let p:Place:=⟨v.ownBlock,el,size,K_ v⟩
 have aH:H.length<ρ.length:=(List.getElem?_eq_some_iff.1 hρ).1
 have hF:(H++([d]++R)).set H.length (.row true xs)=(H++[.row true xs])++R:=by simp
 have eI:Same X w w':=⟨hg.size,fun b hb hx=>hg.block b hb (fun e=>hx (v5 b e.symm))⟩
 have Ax:p.val xs.length=v:=Gi fF
 have bX:=h.put (id:=H.length) (p:=p) (ob:= .row true xs) (row:=row) (w':=w') (by simp) (.inl hρ) hg v5
  (fun j q o g hj hq ho hr hb=>⟨pO j q o g hj hq ho hr hb,by
   have h2:=(h.own j q o g hq ho hr hb).2;intro he;rcases jH g he with h3 | h3
   .omega
   exact pO j q o g hj hq ho hr hb h3⟩)
  (fun g hg=>by
   rcases jH g hg with h3 | h3
   .exact .inl h3
   exact .inr (v5 g h3.symm))
  (fun g oJ=>⟨by
   rcases jH g oJ with h3 | h3
   .left;have:=h.ge;omega
   exact DY g h3.symm,(fF.lt g oJ).2⟩)
  DY
  ⟨⟨dj,aD,us,by rw[Ax];exact fF,fun i j x y hx hy=>by
   obtain⟨u,hu,hf⟩:=hcell i j x y hx hy;refine⟨u,hu,hf.mono eI (fun b hb hx=>?_)⟩;rcases hx with hx | hx
   .exact hx
   .rcases jH b hx with h3 | h3
    .omega
    exact v5 b h3.symm⟩,
   fun g hg=>⟨fun _=> .inr hg,fun _=>rfl⟩⟩
 rw[hF] at bX
 refine⟨_,_,bX.2,bX.1,?_,fun id dk=>by rw[getElem?_set_ne (Ne.symm dk)]⟩
 have hp:(ρ.set H.length (some p))[H.length]?=some (some p):=by simp[aH]
 rcases fF.2 with⟨hv,hn⟩ | ⟨g,cap,cur,hv,_,_,qY,_⟩
 .rw[hv,hn]
  exact .lsl0 H.length p hp (by simp[p,hv,Value.ownBlock])
 rw[hv]
 have:=PRd.lsl (w:=w') (X:=fun b=>X b\/p.b=some b) (ρ:=ρ.set H.length (some p)) H.length 0 xs.length 0 g p hp (by simp[p,hv,Value.ownBlock]) (by simp[p,hv,K_];exact qY) (.inl (by simp))
 simpa [p,hv,K_] using this
theorem nR {t:Nat} {i:TyI} (h:TyOk P t i) {w:World} {X:Nat->Prop} {ρ:Places}: ∃ ti z,P.info? t=some ti/\ti.size=i.size/\ti.bytes=i.bytes/\ti.zero=some z/\z.cells.size=i.size/\i.zero.length=i.size/\
 (∀ (j:Nat) u,z.cells[j]?=some u->u.oneCell'=true)/\ ∀ (j:Nat) u x,z.cells[j]?=some u->i.zero[j]?=some x->PRd w X ρ u x/\eZ x=[]:=by
 obtain⟨ti,z,h1,h2,h3,h4,h5,h6,h7⟩:=h.info
 rw[pR] at h7
 have df: ∀ (j:Nat) u,z.cells[j]?=some u->u.oneCell'=true:=fun j u hu=>h7 u (Array.mem_toList_iff.2 (Array.mem_of_getElem? hu))
 have l_: ∀ u:Value,eZ (PV.ofCell u)=[]:=by
  intro u;unfold PV.ofCell;split<;>rfl
 have LF:=h5
 refine⟨ti,z,h1,h2,h3,h4,h6,by rw[LF];simp[h6],df,fun j u x hu hx=>?_⟩
 rw[LF,List.getElem?_map] at hx
 simp only[Array.getElem?_toList,hu,Option.map_some,qo] at hx
 subst hx
 exact⟨nP u,l_ u⟩
theorem nS {α:Type} {D:List α} (h:D.length=1): ∃ d,D=[d]:=by
 match D,h with
 | [d],_=>exact⟨d,rfl⟩
theorem MS (hT:cx P T) (t:TypeId):EffOp P T (.alloc t):=by
 intro c w X ρ H D R o e ρv r ho h hD hρ ak hc aD;simp only[cj] at ak;split at ak;rotate_left
 .cases ak
 rename_i i hi;cases ak;obtain⟨d,rfl⟩:=nS (D:=D) (by simp at aD;omega);obtain⟨ti,z,eT,ef,_,hz,tY,dW,df,hrd⟩:=nR (hT _ _ hi) (w:=w) (X:=X) (ρ:=ρ);obtain⟨X',ρ',hs,hh,hp,eX⟩:=B5 h (hD _ (qp _) (by simp)) t (us:=z.cells) (cs:=i.zero) (by omega) df (fun j u x hu hx=>(hrd j u x hu hx).1);refine⟨_,_,X',ρ',.inl ?_,hs,hh,hp,fun id dk=>eX id (by simp at dk;omega)⟩;simp[execOp,ho,Instr.alloc,zeroValue,typeInfo,eT,hz,newVar,newRow]
theorem T' (t:TypeId) (x:Operand):EffOp P T (.box t x):=by
 intro c w X ρ H D R o e ρv r ho h hD hρ ak hc aD;have hx:=hρ x (by simp[Op.operands]);simp only[cj] at ak;split at ak;rotate_left
 .cases ak
 rename_i i hi;cases ak;obtain⟨d,rfl⟩:=nS (D:=D) (by simp at aD;omega);simp only at hc;obtain⟨eR,df⟩:=sc hx (by omega);obtain⟨X',ρ',hs,hh,hp,eX⟩:=B5 h (hD _ (qp _) (by simp)) t (us:=(e x).cells) (cs:=(ρv x).cells) eR df (yR hx);refine⟨_,_,X',ρ',.inl ?_,hs,hh,hp,fun id dk=>eX id (by simp at dk;omega)⟩;simp[execOp,ho,Instr.box,newVar,newRow]
theorem rj (z:Array Value) (n i j:Nat) (hi:i<n) (hj:j<z.size):(madeCells z (n*z.size))[i*z.size+j]?=z[j]?:=by
 have aH:i*z.size+j<n*z.size:=by
  have h1:i+1<=n:=hi;have h2:(i+1)*z.size<=n*z.size:=qn _ h1;rw[Nat.add_mul] at h2;omega
 have GW:(i*z.size+j) % z.size=j:=by
  rw[Nat.mul_comm,Nat.mul_add_mod,Nat.mod_eq_of_lt hj]
 unfold madeCells;rw[Array.getElem?_map,Array.getElem?_range,if_pos aH];simp[GW,hj]
theorem Am (hT:cx P T) (t:TypeId) (l k:Operand):EffOp P T (.makeSlice t l k):=by
 intro c w X ρ H D R o e ρv r ho h hD hρ ak hc aD;have hl:=hρ l (by simp[Op.operands]);have hk:=hρ k (by simp[Op.operands]);simp only[cj] at ak;split at ak;rotate_left
 .cases ak
 rename_i i kl n kk m hi qM hkm;rw[qM] at hl;rw[hkm] at hk;have el:=hl.litInv;have ek:=hk.litInv;split at ak;rotate_left
 .cases ak
 rename_i el' kN;have hd:=(hT _ _ hi).desc;rw[kN] at hd;simp only[fO] at hd;split at ak;rotate_left
 .cases ak
 rename_i ie mc;split at ak
 .rename_i G0;cases ak;obtain⟨d,rfl⟩:=nS (D:=D) (by simp at aD;omega);obtain⟨h0,rfl,XA,hm⟩:=hc;have SB:ie.zero=[.nilsl]:=by
   unfold Ct at G0;split at G0
   .assumption
   cases G0
  obtain⟨ti,z,eT,ef,vk,hz,tY,dW,df,hrd⟩:=nR (hT _ _ mc) (w:=w) (X:=X) (ρ:=ρ);have aai:(ti.bytes:Int)*n<=281474976710656:=by
   rw[vk,Int.mul_comm];omega
  have cT:=run_make (P:=P) w t el' ti z hd eT hz kl kk n n h0 (by omega) aai (by omega);have aaj:ie.size=1:=by
   rw[SB] at dW;simpa using dW.symm
  have hzc:z.cells.size=1:=by omega
  have Vb:z.cells[0]'(by omega)= .slice none 0 0:=by
   obtain⟨i_,_⟩:=hrd 0 (z.cells[0]'(by omega)) .nilsl (by simp[hzc]) (by rw[SB];rfl);generalize z.cells[0]'(by omega)=u at i_;cases i_;rfl
  have cg: ∀ (i:Nat) u,(madeCells z.cells (n.toNat*ti.size))[i]?=some u->u= .slice none 0 0:=by
   intro i u hu;have hi:i<n.toNat:=by
    have:=(Array.getElem?_eq_some_iff.1 hu).1;rw[size_madeCells,ef,aaj] at this;omega
   have h9:=rj z.cells n.toNat i 0 hi (by omega);rw[hzc] at h9;rw[ef,aaj] at hu;simp only[Nat.mul_one,Nat.add_zero] at h9 hu;rw[h9] at hu;rw[Array.getElem?_eq_getElem (by omega)] at hu;cases hu;exact Vb
  have afI:=IG (cs:=List.replicate n.toNat .nilsl) (us:=madeCells z.cells (n.toNat*ti.size)) h (hD _ (qp _) (by simp)) el' n.toNat (by rw[size_madeCells,ef,aaj,qib];omega) (by simp)
   (fun i u hu=>by rw[cg i u hu];rfl) (fun i u x hu hx=>by
    rw[List.getElem?_replicate] at hx;split at hx
    .cases hx;rw[cg i u hu];exact .nilsl
    cases hx)
  obtain⟨X',ρ',hs,hh,hp,eX⟩:=afI;refine⟨_,_,X',ρ',.inl ?_,hs,hh,hp,fun id dk=>eX id (by simp at dk;omega)⟩;simp[execOp,ho,el,ek,cT]
 split at ak;rotate_left
 .cases ak
 rename_i zf hzf;split at ak;rotate_left
 .cases ak
 rename_i sw;cases ak;obtain⟨d,rfl⟩:=nS (D:=D) (by simp at aD;omega);obtain⟨h0,hnm,XA,hm⟩:=hc;obtain⟨ti,z,eT,ef,vk,hz,tY,dW,df,hrd⟩:=nR (hT _ _ mc) (w:=w) (X:=X) (ρ:=ρ);have aai:(ti.bytes:Int)*m<=281474976710656:=by
  rw[vk,Int.mul_comm];omega
 have cT:=run_make (P:=P) w t el' ti z hd eT hz kl kk n m h0 hnm aai (by omega);have fF:(w.alloc (.cells (madeCells z.cells (m.toNat*ti.size)) el')).ownsRow 0 el' ie.size (.slice (some ⟨w.heap.size,0,none⟩) n.toNat m.toNat) n.toNat
  ((madeCells z.cells (m.toNat*ti.size)).toList.take (n.toNat*ie.size)):=by
  have dT:n.toNat*ie.size<=m.toNat*ie.size:=qn _ (by omega)
  refine⟨by rw[length_take,Array.length_toList,size_madeCells,ef,Nat.min_eq_left dT],.inr ⟨w.heap.size,m.toNat,_,rfl,eB _,heap_alloc_new w _,by omega,by simp only[maxLen];omega,by rw[size_madeCells,ef],rfl⟩⟩
 have DQ:=d7 (xs:=List.replicate n.toNat zf) (size:=ie.size) (el:=el') (v:= .slice (some ⟨w.heap.size,0,none⟩) n.toNat m.toNat) (row:=none) h (hD _ (qp _) (by simp)) (World.grownBy_alloc w _ none) (by simp)
  (by simp) (by simp) sw.2 (by
   intro x hx;rw[List.mem_replicate] at hx;rw[hx.2];exact sw.1) (by simpa using fF) (by
   intro g hg;simp only[Value.ownBlock,qo] at hg;left;omega) (by
   intro i' j x y hx hy;rw[List.getElem?_replicate] at hx;split at hx
   .rename_i gF;cases hx;have hj:j<zf.length:=(List.getElem?_eq_some_iff.1 hy).1;have hjz:j<z.cells.size:=by omega
    have AI:j<ie.zero.length:=by omega
    obtain⟨y',Cr,N0⟩:=k_ hzf j ie.zero[j] (by simp[AI]);rw[hy] at Cr;cases Cr;obtain⟨i_,gX⟩:=hrd j z.cells[j] ie.zero[j] (by simp[hjz]) (by simp[AI]);refine⟨z.cells[j],?_,lY h bx i_ N0 (fun _ h=>h) (by rw[gX];simp)⟩;have aH:i'*ie.size+j<n.toNat*ie.size:=by
     have h2:(i'+1)*ie.size<=n.toNat*ie.size:=qn _ gF;rw[Nat.add_mul] at h2;omega
    rw[getElem?_take,if_pos aH,Array.getElem?_toList,ef,<-tY,rj z.cells m.toNat i' j (by omega) hjz];simp[hjz]
   cases hx)
 obtain⟨X',ρ',hs,hh,hp,eX⟩:=DQ;rw[qib] at hp;refine⟨_,_,X',ρ',.inl ?_,hs,hh,hp,fun id dk=>eX id (by simp at dk;omega)⟩;simp[execOp,ho,el,ek,cT]
end
end Go.AM
