/- The abstract machine:the operations,one by one,where memory is not written. -/
import Derived.Test.YtjjbkjgifdhlcaaGreatT3
import Derived.Lib.SliceRun
import Derived.ChangeKeysEq
import Derived.Test.YtjjbkjgifdhlcaaGreatT1
set_option linter.all false
open List (getElem?_set_ne getElem?_take length_take)
namespace Go.AM
theorem PRd.litInv {w:World} {X:Nat->Prop} {ρ:Places} {u v:Value} (h:PRd w X ρ u (.fv (.lit v))):u=v:=by
 cases h with | fv _ _ h=>cases h;rfl
section
variable {P:Program} {T:Tab} {c:gZ} {w:World} {X:Nat->Prop} {ρ:Places} {H R:List Ob} {o:Oper} {e:Operand->Value} {ρv:Operand->PV} {lo hi:Nat} {r:Res}
theorem wM (d:Nat) {t:TypeId} (hu:P.underlying t=some .bool) (a b:Bool):(Op.equalIn (d+1) t (.bool a) (.bool b)).run P w= .ok (a==b) w:=by
 simp[Op.equalIn,run_underlying hu]
def eS (P:Program) (T:Tab) (op:Op):Prop:=
 ∀ {c:gZ} {w:World} {X:Nat->Prop} {ρ:Places} {H F:List Ob} {o:Oper} {e:Operand->Value} {ρv:Operand->PV} {r:Res} {lo hi:Nat},
  o.op=op->HRd c w X ρ F->(∀ (j:Nat) o,H[j]?=some o->F[j]?=some o)->(∀ x∈op.operands,PRd w X ρ (e x) (ρv x))->cq T H ρv op=some r->r.cond->
  r.heap=H/\OpOK c w X ρ lo hi F ((execOp e o).run P w) r.val
theorem JY (x:Operand):eS P T (.move x):=by
 intro c w X ρ H F o e ρv r lo hi ho h hH hρ au hc;simp only[cq,Res.pure,qo] at au;subst au;exact⟨rfl,OpOK.still (u:=e x) h (by simp[execOp,ho]) (hρ x (by simp[Op.operands]))⟩
theorem EO (x:Operand):eS P T (.assign x):=by
 intro c w X ρ H F o e ρv r lo hi ho h hH hρ au hc;simp only[cq,Res.pure,qo] at au;subst au;exact⟨rfl,OpOK.still (u:=e x) h (by simp[execOp,ho]) (hρ x (by simp[Op.operands]))⟩
theorem JZ (x a b:Operand):eS P T (.pick x a b):=by
 intro c w X ρ H F o e ρv r lo hi ho h hH hρ au hc;have hx:=hρ x (by simp[Op.operands]);have ha:=hρ a (by simp[Op.operands]);have hb:=hρ b (by simp[Op.operands]);simp only[cq] at au;split at au
 .rename_i t ht;rw[ht] at hx;have he:=hx.litInv;simp only[Res.pure,qo] at au;subst au;refine⟨rfl,OpOK.still (u:=if t then e a else e b) h (by cases t<;>simp[execOp,ho,he,asBool]) ?_⟩;cases t<;>assumption
 cases au
theorem AK (x:Operand):eS P T (.nilCheck x):=by
 intro c w X ρ H F o e ρv r lo hi ho h hH hρ au hc;have hx:=hρ x (by simp[Op.operands]);simp only[cq] at au;split at au
 .rename_i id j off ht;rw[ht] at hx;simp only[Res.pure,qo] at au;subst au;generalize hu:e x=u at hx;cases hx with
  | ptr id i off g p hp hg=>exact⟨rfl,OpOK.still h (by simp[execOp,ho,hu]) (.ptr id _ off g p hp hg)⟩
 .rename_i cs ht;rw[ht] at hx;simp only[Res.pure,qo] at au;subst au;generalize hu:e x=u at hx;cases hx with
  | fv _ _ hf=>
   cases hf with
   | fp ad cs us h0 hX hb hcell hrd=>exact⟨rfl,OpOK.still h (by simp[execOp,ho,hu]) (.fv _ _ (.fp ad cs us h0 hX hb hcell hrd))⟩
 cases au
theorem Dz: ∀ (cs:List PV) (ks:List Int),sI cs=some ks->cs=ks.map (fun n=> .fv (.lit (.int .i64 n)))
 | [],ks,h=>by simp[sI] at h;subst h;rfl
 | c::cs,ks,h=>by
  simp only[sI] at h;split at h
  .rename_i n ns h1 h2;cases h;rw[List.map_cons,<-Dz cs ns h2];unfold Uz at h1;split at h1
   .cases h1;rfl
   cases h1
  cases h
theorem Hx {w:World} {X:Nat->Prop} {ρ:Places} {u:Value} {x:PV} {ks:List Int} (h:PRd w X ρ u x) (hk:pS x=some ks):u= .agg (ks.map (Value.int .i64)).toArray:=by
 unfold pS at hk;split at hk;rotate_left
 .cases hk
 have:=Dz _ _ hk;subst this;cases h with
 | agg us _ hn h1 hr=>
  congr 1;apply Array.ext
  .simpa using hn
  intro i nj iR;have:=hr i us[i] (.fv (.lit (.int .i64 (ks[i]'(by simpa using iR))))) (by simp[nj]) (by simp at iR;simp[iR]);have h2:=this.litInv;rw[h2];simp
theorem n8 {w:World} {d el:Nat} (hu:P.underlying el=some (.int .i64)) (xs ys:List Int): ∀ is:List Nat,(∀ i∈is,i<xs.length/\i<ys.length)->
 (Op.eqItems (d+1) el 1 (xs.map (Value.int .i64)).toArray (ys.map (Value.int .i64)).toArray is).run P w= .ok (is.all fun i=>xs[i]?==ys[i]?) w
 | [],_=>by simp[Op.eqItems]
 | i::is,h=>by
  obtain⟨h1,h2⟩:=h i (by simp);have hp:P.plainKey el=true:=by simp[Program.plainKey,hu]
  have p1:=run_part_plain (P:=P) w hp (xs:=(xs.map (Value.int .i64)).toArray) (off:=i) (v:= .int .i64 xs[i]) (by simp[h1]);have p2:=run_part_plain (P:=P) w hp (xs:=(ys.map (Value.int .i64)).toArray) (off:=i) (v:= .int .i64 ys[i]) (by simp[h2]);have p3:=run_equalIn_int (P:=P) w d el .i64 .i64 xs[i] ys[i] hu;have hxi:xs[i]?=some xs[i]:=by simp[h1]
  have Xv:ys[i]?=some ys[i]:=by simp[h2]
  simp only[Op.eqItems,Sem.run_bind,Nat.mul_one,p1,p2,p3,Result.andThen_ok,List.all_cons,hxi,Xv];cases hb:(xs[i]==ys[i]) with
  | false=>
   have:(some xs[i]==some ys[i])=false:=hb;simp[this]
  | true=>
   have:(some xs[i]==some ys[i])=true:=hb;rw[this];simpa using n8 hu xs ys is (fun j hj=>h j (ql _ hj))
theorem Sn (hT:cQ P T) {op:BinOp} {t:TypeId} {a b:PV} {r:Bool} (h:Qe (T.arN t) op (pS a) (pS b)=some r):
 ∃ n el xs ys,P.underlying t=some (.array n el)/\P.underlying el=some (.int .i64)/\(∃ ti,P.info? el=some ti/\ti.size=1)/\pS a=some xs/\pS b=some ys/\xs.length=n/\ys.length=n/\
  ((op= .eql/\r=(xs==ys))\/(op= .neq/\r=!(xs==ys))):=by
 have key: ∀ n,T.arN t=some n-> ∃ el,P.underlying t=some (.array n el)/\P.underlying el=some (.int .i64)/\(∃ ti,P.info? el=some ti/\ti.size=1):=by
  intro n hn;unfold Tab.arN at hn;split at hn;rotate_left
  .cases hn
  rename_i i hi;have hd:=(hT t i hi).desc;split at hn;rotate_left
  .cases hn
  rename_i eD;rw[eD] at hd;split at hn;rotate_left
  .cases hn
  rename_i ie mO;split at hn;rotate_left
  .cases hn
  rename_i PM;cases hn;rw[BP,beq_iff_eq] at PM;obtain⟨PM,dQ⟩:=PM;have hde:=(hT _ _ mO).desc;unfold Qf at PM;split at PM;rotate_left
  .cases PM
  rename_i hed;rw[hed] at hde;refine⟨_,hd,hde,?_⟩;obtain⟨ti,z,h1,h2,_⟩:=(hT _ _ mO).info;exact⟨ti,h1,h2.trans dQ⟩
 unfold Qe at h
 split at h
 .rename_i n xs ys hn hx hy
  split at h
  .rename_i hl
   cases h
   obtain⟨el,k1,k2,k3⟩:=key _ hn
   exact⟨_,el,xs,ys,k1,k2,k3,hx,hy,hl.1,hl.2,.inl ⟨rfl,rfl⟩⟩
  cases h
 .rename_i n xs ys hn hx hy
  split at h
  .rename_i hl
   cases h
   obtain⟨el,k1,k2,k3⟩:=key _ hn
   exact⟨_,el,xs,ys,k1,k2,k3,hx,hy,hl.1,hl.2,.inr ⟨rfl,rfl⟩⟩
  cases h
 cases h
theorem AL (hT:cQ P T) (op:BinOp) (t:TypeId) (x y:Operand) (t':TypeId) {w:World} {X:Nat->Prop} {ρ:Places} {H:List Ob} {o:Oper} {e:Operand->Value} {ρv:Operand->PV} {r:Res}
 (ho:o.op= .binOp op t x y t') (hx:PRd w X ρ (e x) (ρv x)) (hy:PRd w X ρ (e y) (ρv y)) (au:cq T H ρv (.binOp op t x y t')=some r) (hc:r.cond):
 r.heap=H/\ ∃ u,(execOp e o).run P w= .ok (.value u) w/\PRd w X ρ u r.val:=by
 simp only[cq] at au
 split at au
 .rename_i cd v hb
  simp only[Res.if,qo] at au
  subst au
  unfold Uy at hb
  split at hb
  .rename_i k a k' b h1 h2
   rw[h1] at hx;rw[h2] at hy
   have ex:=hx.litInv
   have ey:=hy.litInv
   have key:(binOp op t (.int k a) (.int k' b)).run P w= .ok v w/\v.oneCell'=true:=by
    split at hb
    .simp only[uc,qo,Prod.mk.injEq] at hb;obtain⟨rfl,rfl⟩:=hb;have iw: ¬b<0:=by simp only at hc;omega
     simp[binOp,Op.shift,iw,Value.oneCell']
    .simp only[uc,qo,Prod.mk.injEq] at hb;obtain⟨rfl,rfl⟩:=hb;have iw: ¬b<0:=by simp only at hc;omega
     simp[binOp,Op.shift,iw,Value.oneCell']
    split at hb
    .rename_i hk;subst hk;exact OB hb hc t
    cases hb
   refine⟨rfl,_,?_,(.fv _ _ (.lit v key.2))⟩
   simp[execOp,ho,ex,ey,yf,key.1]
  .rename_i a b h1 h2
   rw[h1] at hx;rw[h2] at hy
   have ex:=hx.litInv
   have ey:=hy.litInv
   split at hb
   .cases hb
   rename_i wS
   have hu:P.underlying t=some .bool:=by
    unfold Tab.isBool at wS;split at wS
    .rename_i i hi;have hd:=(hT t i hi).desc;split at wS
     .rename_i eD;rw[eD] at hd;exact hd
     simp at wS
    simp at wS
   have heq:(Op.equal t (.bool a) (.bool b)).run P w= .ok (a==b) w:=by
    unfold Op.equal;exact wM 9999 hu a b
   split at hb
   .simp only[qo,Prod.mk.injEq] at hb
    obtain⟨rfl,rfl⟩:=hb
    refine⟨rfl,_,?_,(.fv _ _ (.lit _ rfl))⟩
    simp[execOp,ho,ex,ey,n6,binOp,heq]
   .simp only[qo,Prod.mk.injEq] at hb
    obtain⟨rfl,rfl⟩:=hb
    refine⟨rfl,_,?_,(.fv _ _ (.lit _ rfl))⟩
    simp[execOp,ho,ex,ey,n6,binOp,heq]
   cases hb
  cases hb
 split at au
 .rename_i b hb
  split at au
  .rename_i kd
   simp only[Res.pure,qo] at au
   subst au
   have hu: ∃ el,P.underlying t=some (.slice el):=by
    unfold Tab.isSl at kd;split at kd
    .rename_i i hi;have hd:=(hT t i hi).desc;split at kd
     .rename_i el eD;rw[eD] at hd;exact⟨el,hd⟩
     simp at kd
    simp at kd
   obtain⟨el,hu⟩:=hu
   have key: ∃ a n cp,e x= .slice a n cp/\e y= .slice none 0 0/\((op= .eql/\b=a.isNone)\/(op= .neq/\b=!a.isNone)):=by
    unfold Ux at hb;split at hb<;>first | (cases hb;done) | skip
    all_goals
     rename_i h1 h2 _;rw[h1] at hx;rw[h2] at hy;have ey:e y= .slice none 0 0:=by
      generalize e y=u at hy;cases hy;rfl
     simp only[qo] at hb
     first
     | exact⟨_,_,_,hx.litInv,ey,.inl ⟨rfl,hb.symm⟩⟩
     | exact⟨_,_,_,hx.litInv,ey,.inr ⟨rfl,hb.symm⟩⟩
     | (generalize e x=u at hx;cases hx;first | exact⟨_,_,_,rfl,ey,.inl ⟨rfl,hb.symm⟩⟩ | exact⟨_,_,_,rfl,ey,.inr ⟨rfl,hb.symm⟩⟩)
     | (generalize e x=u at hx;cases hx;rename_i hf;cases hf;first | exact⟨_,_,_,rfl,ey,.inl ⟨rfl,hb.symm⟩⟩ | exact⟨_,_,_,rfl,ey,.inr ⟨rfl,hb.symm⟩⟩)
   obtain⟨a,n,cp,ex,ey,Uc⟩:=key
   refine⟨rfl,_,?_,(.fv _ _ (.lit _ rfl))⟩
   rcases Uc with⟨rfl,rfl⟩ | ⟨rfl,rfl⟩
   .simp[execOp,ho,ex,ey,eqGuard,Lib.run_eql_slice_nil w t el a n cp 0 0 hu]
   have hq:(binOp .neq t (.slice a n cp) (.slice none 0 0)).run P w= .ok (.bool (!a.isNone)) w:=by
    simp only[binOp];simp[Op.equal,Op.maxDepth,Lib.run_equalIn_slice_nil w 9999 t el a n cp 0 0 hu]
   simp[execOp,ho,ex,ey,eqGuard,hq]
  cases au
 split at au
 .rename_i b hb
  simp only[Res.pure,qo] at au
  subst au
  obtain⟨n,el,xs,ys,hu,mP,fP,hkx,WR,Fi,hly,Uc⟩:=Sn hT hb
  have ex:=Hx hx hkx
  have ey:=Hx hy WR
  obtain⟨ti,fP,en⟩:=fP
  have heq:(Op.equalIn 10000 t (.agg (xs.map (Value.int .i64)).toArray) (.agg (ys.map (Value.int .i64)).toArray)).run P w= .ok (xs==ys) w:=by
   rw[run_equalIn_array w 9999 _ _ hu fP];have WE:P.cellsOf el=1:=by simp[Program.cellsOf,fP,en]
   rw[WE,n8 mP xs ys (List.range n) (fun i hi=>by have:=List.mem_range.1 hi;omega)];congr 1;rw[Bool.eq_iff_iff];simp only[vP,List.mem_range,beq_iff_eq];constructor
   .intro h;apply List.ext_getElem?;intro i;by_cases hi:i<n
    .exact h i hi
    rw[List.getElem?_eq_none (by omega),List.getElem?_eq_none (by omega)]
   intro h i _;rw[h]
  have yR: ∀ op',(eqGuard op' t x y (.agg (xs.map (Value.int .i64)).toArray) (.agg (ys.map (Value.int .i64)).toArray)).run P w= .ok () w:=fun op'=>by
   refine run_eqGuard_agg w op' t x y _ _ ?_;unfold Program.depth;rw[show 2*(P.types.size+Made.depth)+2=(2*(P.types.size+Made.depth)+1)+1 from rfl];simp only[Program.eqGuardType,hu,mP]
  refine⟨rfl,_,?_,(.fv _ _ (.lit _ rfl))⟩
  rcases Uc with⟨rfl,rfl⟩ | ⟨rfl,rfl⟩
  .simp only[execOp,ho,ex,ey,Sem.run_bind,yR,Result.andThen_ok,run_eql_struct,heq]
   rfl
  simp only[execOp,ho,ex,ey,Sem.run_bind,yR,Result.andThen_ok,run_neq_struct,heq]
  rfl
 cases au
theorem Hy (hT:cQ P T) (op:BinOp) (t:TypeId) (x y:Operand) (t':TypeId):eS P T (.binOp op t x y t'):=by
 intro c w X ρ H F o e ρv r lo hi ho h hH hρ au hc;obtain⟨h1,u,h2,h3⟩:=AL hT op t x y t' ho (hρ x (by simp[Op.operands])) (hρ y (by simp[Op.operands])) au hc;exact⟨h1,OpOK.still h h2 h3⟩
theorem J0 (op:UnOp) (t:TypeId) (x:Operand):eS P T (.unOp op t x):=by
 intro c w X ρ H F o e ρv r lo hi ho h hH hρ au hc;have hx:=hρ x (by simp[Op.operands]);simp only[cq] at au;split at au
 .rename_i v hv;simp only[Res.pure,qo] at au;subst au;unfold unV at hv;split at hv
  all_goals first | (cases hv;done) | skip
  all_goals
   rename_i h1;rw[h1] at hx;have ex:=hx.litInv;simp only[qo] at hv;subst hv;refine⟨rfl,OpOK.still h ?_ (.fv _ _ (.lit _ rfl))⟩;simp[execOp,ho,ex,Op.unary,Op.intArith,Op.intBits]
 cases au
theorem B5 (hT:cQ P T) (src dst:TypeId) (x:Operand):eS P T (.convert src dst x):=by
 intro c w X ρ H F o e ρv r lo hi ho h hH hρ au hc;have hx:=hρ x (by simp[Op.operands]);simp only[cq] at au;split at au
 .rename_i i j k n hi hj hv;rw[hv] at hx;have ex:=hx.litInv;split at au
  .rename_i k1 k2 Uf Y8;have u1:=(hT _ _ hi).desc;have u2:=(hT _ _ hj).desc;rw[Uf] at u1;rw[Y8] at u2;simp only[gq] at u1 u2;simp only[Res.pure,qo] at au;subst au;refine⟨rfl,OpOK.still h ?_ (.fv _ _ (.lit _ rfl))⟩;simp[execOp,ho,ex,convert,run_underlying u1,run_underlying u2,Conv.intToInt]
  cases au
 cases au
theorem B6 (x:Operand) (ix:Nat):eS P T (.extract x ix):=by
 intro c w X ρ H F o e ρv r lo hi ho h hH hρ au hc;have hx:=hρ x (by simp[Op.operands]);simp only[cq] at au;split at au
 .rename_i vs hv;rw[hv] at hx;split at au
  .rename_i v fh;simp only[Res.pure,qo] at au;subst au;generalize hu:e x=u at hx;cases hx with
   | tup us _ hn hr=>
    have aL:ix<us.size:=by rw[hn];exact(List.getElem?_eq_some_iff.1 fh).1
    refine⟨rfl,OpOK.still h (u:=us[ix]) ?_ (hr ix _ _ (Array.getElem?_eq_getElem aL) fh)⟩;simp[execOp,ho,hu,Instr.extract,Array.getElem?_eq_getElem aL]
  cases au
 cases au
end
end Go.AM
namespace Go.AM
theorem jb (g k n:Nat):(⟨g,k,none⟩:Addr).add n=⟨g,k+n,none⟩:=by unfold Addr.add;split<;>simp_all
theorem iH {a:Addr} (h:a.spot=none) (n:Nat):a.add n=⟨a.block,a.off+n,none⟩:=by
 obtain⟨g,k,s⟩:=a;simp only at h;subst h;exact jb g k n
theorem PRd.lslInv {w:World} {X:Nat->Prop} {ρ:Places} {v:Value} {id off len s:Nat} (h:PRd w X ρ v (.lsl id off len s)):
 ∃ p,ρ[id]?=some (some p)/\p.size=s/\((p.b=none/\v= .slice none 0 0/\off=0/\len=0)\/
  ∃ g o,p.b=some g/\v= .slice (some ⟨g,o,none⟩) len (p.cap - off)/\off+len<=p.cap/\(o=off*p.size\/(off=p.cap/\off≠0))):=by
 generalize Cc:PV.lsl id off len s=pv at h
 cases h
 case lsl0 p hp hg=>
  injection Cc with h1 h2 h3 h4
  subst h1 h2 h3 h4;exact⟨p,by assumption,rfl,.inl ⟨by assumption,rfl,rfl,rfl⟩⟩
 case lsl=>
  injection Cc with h1 h2 h3 h4
  subst h1 h2 h3 h4;exact⟨_,by assumption,rfl,.inr ⟨_,_,by assumption,rfl,by assumption,by assumption⟩⟩
 all_goals cases Cc
section
variable {P:Program} {T:Tab}
theorem yg (hT:cQ P T) (t:TypeId) (x:Operand) (f:Nat):eS P T (.fieldAddr t x f):=by
 intro c w X ρ H F o e ρv r lo hi ho h hH hρ au hc;have hx:=hρ x (by simp[Op.operands]);simp only[cq] at au;split at au;rotate_left
 .cases au
 rename_i i hi;split at au;rotate_left
 .cases au
 rename_i fs Fo;have hd:=(hT _ _ hi).desc;rw[Fo] at hd;obtain⟨ffs,hu,dQ,K1⟩:=hd;split at au
 .rename_i fd id j off Bq hv;rw[hv] at hx;simp only[Res.pure,qo] at au;subst au;have aL:f<ffs.size:=by rw[dQ];exact(List.getElem?_eq_some_iff.1 Bq).1
  obtain⟨jo,fE,ti,d,fP,en,_,_⟩:=K1 f _ _ (Array.getElem?_eq_getElem aL) Bq;generalize mP:e x=u at hx;cases hx with
  | ptr id i off g p hp hg=>
   refine⟨rfl,OpOK.still h (u:= .pointer (some ⟨g,j*p.size+(off+fd.off),none⟩)) ?_ (.ptr id j _ g p hp hg)⟩;simp[execOp,ho,mP,Instr.fieldAt,run_underlying hu,Array.getElem?_eq_getElem aL,Instr.sureAddr,fieldPlace,sizeOf,typeInfo,fP,show¬ti.size=0 by omega,jb,jo];omega
 .rename_i fd cs Bq hv;rw[hv] at hx;simp only[Res.if,qo] at au;subst au;have aL:f<ffs.size:=by rw[dQ];exact(List.getElem?_eq_some_iff.1 Bq).1
  obtain⟨jo,fE,ti,d,fP,en,_,_⟩:=K1 f _ _ (Array.getElem?_eq_getElem aL) Bq;generalize mP:e x=u at hx;cases hx with
  | fv _ _ hf=>
   cases hf with
   | fp ad cs us h0 hX hb hcell hrd=>
    refine⟨rfl,OpOK.still h (u:= .pointer (some ⟨ad.block,ad.off+fd.off,none⟩)) ?_ (.fv _ _ (.fp _ _ (fun j=>us (fd.off+j)) rfl hX hb (fun j y hy=>?_) (fun j y hy=>?_)))⟩
    .simp[execOp,ho,mP,Instr.fieldAt,run_underlying hu,Array.getElem?_eq_getElem aL,Instr.sureAddr,fieldPlace,sizeOf,typeInfo,fP,show¬ti.size=0 by omega,iH h0,jo]
    .rw[List.getElem?_drop] at hy;simp only[Nat.add_assoc];exact hcell _ y hy
    rw[List.getElem?_drop] at hy;exact hrd _ y hy
 cases au
theorem So {w:World} {X:Nat->Prop} {ρ:Places} {s id k g:Nat} {o:Option Ob} {p:Place} (hs:p.size=s) (hp:ρ[id]?=some (some p)) (hg:p.b=some g):PRd w X ρ (.pointer (some ⟨g,k*p.size+0,none⟩)) (FE s o id k):=by
 unfold FE;split
 .split
  .rename_i h1;have:k*p.size+0=0*p.size+k:=by rw[hs,h1];omega
   rw[this];exact .ptr id 0 k g p hp hg
  exact .any _
 exact .ptr id k 0 g p hp hg
theorem yh (hT:cQ P T) (t:TypeId) (x ix:Operand):eS P T (.indexAddr t x ix):=by
 intro c w X ρ H F o e ρv r lo hi ho h hH hρ au hc;have hx:=hρ x (by simp[Op.operands]);have hix:=hρ ix (by simp[Op.operands]);simp only[cq] at au;split at au;rotate_left
 .cases au
 rename_i i n hi hn;have hk: ∃ k,e ix= .int k n:=by
  unfold PV.asInt at hn;split at hn
  .rename_i k m hm;cases hn;rw[hm] at hix;exact⟨k,hix.litInv⟩
  cases hn
 obtain⟨k,PN⟩:=hk;have hd:=(hT _ _ hi).desc;split at au
 .rename_i el l7;rw[l7] at hd;simp only[gq] at hd;split at au
  .rename_i ie id off len s mO hv;rw[hv] at hx;obtain⟨ti,z,fP,en,_⟩:=(hT _ _ mO).info;split at au
   .rename_i hs;simp only[Res.if,qo] at au;subst au;simp only at hc;subst hs;generalize mP:e x=u at hx;obtain⟨p,hp,ni,h3 | ⟨g,og,hg,rfl,hl,jf⟩⟩:=hx.lslInv
    .omega
    have Ni:og=off*p.size:=by
     rcases jf with jf | jf
     .exact jf
     omega
    subst Ni;refine⟨rfl,OpOK.still h (u:= .pointer (some ⟨g,(off+n.toNat)*p.size+0,none⟩)) ?_ (So ni hp hg)⟩;have h1:0<=n/\n<(len:Int):=hc;simp[execOp,ho,mP,PN,Instr.indexAt,asIntOf,run_underlying hd,h1,sizeOf,typeInfo,fP,en,ni,jb,Nat.add_mul]
   cases au
  .rename_i ie xs mO hv;rw[hv] at hx;obtain⟨ti,z,fP,en,_⟩:=(hT _ _ mO).info;simp only[Res.if,qo] at au;subst au;obtain⟨h0,aL,aF,dW⟩:=hc;have om:n.toNat<xs.length:=by omega
   generalize mP:e x=u at hx;cases hx with
   | fv _ _ hf=>
    cases hf with
    | nil=>simp at om
    | sl ad m cap s xs us hn' w6 hs h0' hX hb hcell hrd=>
     have hg:xs[n.toNat]?=some (xs.getD n.toNat []):=by simp[om]
     have hse:s=ie.size:=by rw[<-aF];exact(hs _ (List.mem_of_getElem? hg)).symm
     refine⟨rfl,OpOK.still h (u:= .pointer (some ⟨ad.block,ad.off+n.toNat*ie.size,none⟩)) ?_ (.fv _ _ (.fp _ _ (fun j=>us n.toNat j) rfl (hX (by omega)) (hb (by omega)) (fun j y hy=>?_) (fun j y hy=>?_)))⟩
     .have h1:0<=n/\n<(m:Int):=by omega
      simp[execOp,ho,mP,PN,Instr.indexAt,asIntOf,run_underlying hd,h1,sizeOf,typeInfo,fP,en,iH h0']
     .have:=hcell n.toNat j _ y hg hy;rw[hse,<-Nat.add_assoc] at this;exact this
     exact hrd n.toNat j _ y hg hy
  .rename_i ie xs mO hv;rw[hv] at hx;obtain⟨ti,z,fP,en,_⟩:=(hT _ _ mO).info;simp only[Res.if,qo] at au;subst au;obtain⟨h0,aL,aF,dW⟩:=hc;have om:n.toNat<xs.length:=by omega
   generalize mP:e x=u at hx;cases hx with
   | clip a m _ hf=>
    cases hf with
    | nil=>simp at om
    | sl ad _ cap s xs us hn' w6 hs h0' hX hb hcell hrd=>
     have hg:xs[n.toNat]?=some (xs.getD n.toNat []):=by simp[om]
     have hse:s=ie.size:=by rw[<-aF];exact(hs _ (List.mem_of_getElem? hg)).symm
     refine⟨rfl,OpOK.still h (u:= .pointer (some ⟨ad.block,ad.off+n.toNat*ie.size,none⟩)) ?_ (.fv _ _ (.fp _ _ (fun j=>us n.toNat j) rfl (hX (by omega)) (hb (by omega)) (fun j y hy=>?_) (fun j y hy=>?_)))⟩
     .have h1:0<=n/\n<(m:Int):=by omega
      simp[execOp,ho,mP,PN,Instr.indexAt,asIntOf,run_underlying hd,h1,sizeOf,typeInfo,fP,en,iH h0']
     .have:=hcell n.toNat j _ y hg hy;rw[hse,<-Nat.add_assoc] at this;exact this
     exact hrd n.toNat j _ y hg hy
  cases au
 .rename_i kk el l7;rw[l7] at hd;simp only[gq] at hd;split at au
  .rename_i ie id j off mO hv;rw[hv] at hx;obtain⟨ti,z,fP,en,_⟩:=(hT _ _ mO).info;split at au;rotate_left
   .cases au
   rename_i ke;simp only[Res.if,qo] at au;subst au;generalize mP:e x=u at hx;cases hx with
   | ptr id i off g p hp hg=>
    have h1:0<=n/\n<(kk:Int):=hc;refine⟨rfl,OpOK.still h (u:= .pointer (some ⟨g,j*p.size+(off+n.toNat*ie.size),none⟩)) ?_ (.ptr id j _ g p hp hg)⟩;simp[execOp,ho,mP,PN,Instr.indexAt,Instr.sureAddr,asIntOf,run_underlying hd,h1,sizeOf,typeInfo,fP,en,jb];omega
  .rename_i ie cs mO hv;rw[hv] at hx;obtain⟨ti,z,fP,en,_⟩:=(hT _ _ mO).info;split at au;rotate_left
   .cases au
   rename_i ke;simp only[Res.if,qo] at au;subst au;obtain⟨h0n,hnk,dQ,dW⟩:=hc;generalize mP:e x=u at hx;cases hx with
   | fv _ _ hf=>
    cases hf with
    | fp ad cs us h0 hX hb hcell hrd=>
     have h1:0<=n/\n<(kk:Int):=⟨h0n,hnk⟩;refine⟨rfl,OpOK.still h (u:= .pointer (some ⟨ad.block,ad.off+n.toNat*ie.size,none⟩)) ?_ (.fv _ _ (.fp _ _ (fun j=>us (n.toNat*ie.size+j)) rfl hX hb (fun j y hy=>?_) (fun j y hy=>?_)))⟩
     .simp[execOp,ho,mP,PN,Instr.indexAt,Instr.sureAddr,asIntOf,run_underlying hd,h1,sizeOf,typeInfo,fP,en,iH h0]
     .rw[List.getElem?_drop] at hy;simp only[Nat.add_assoc];exact hcell _ y hy
     rw[List.getElem?_drop] at hy;exact hrd _ y hy
  cases au
 cases au
end
end Go.AM
namespace Go.AM
section
variable {P:Program} {T:Tab}
theorem vg (hT:cQ P T) {t:TypeId} {i:TyI} (hi:T.at t=some i) {w:World} {X:Nat->Prop} {ρ:Places} {ad:Addr} (h0:ad.spot=none) {us:Nat->Value} {cs:List PV}
 (hn:cs.length=i.size) (hcell: ∀ (j:Nat) y,cs[j]?=some y->w.cell? ⟨ad.block,ad.off+j,none⟩=some (us j)) (h1: ∀ (j:Nat) y,cs[j]?=some y->(us j).oneCell'=true)
 (hrd: ∀ (j:Nat) y,cs[j]?=some y->PRd w X ρ (us j) y) {v:PV} (hv:kG i cs=some v):
 ∃ u,(loadVar t ad).run P w= .ok u w/\PRd w X ρ u v:=by
 obtain⟨ti,z,fP,en,_⟩:=(hT _ _ hi).info
 have tR:=(hT _ _ hi).agg (w:=w)
 unfold kG at hv
 split at hv
 .rename_i kX
  cases hv
  have hl:(loadCells ad i.size).run P w= .ok ((List.range i.size).map us).toArray w:=run_loadCells w ad i.size us (fun j hj=>by
   rw[iH h0];exact hcell j cs[j] (by simp[hn,hj]))
  refine⟨.agg ((List.range i.size).map us).toArray,?_,.agg _ _ (by simp[hn]) (fun j u hu=>?_) (fun j u y hu hy=>?_)⟩
  .simp[loadVar,tR,kX,sizeOf,typeInfo,fP,en,hl]
  .have aL:j<i.size:=by simpa using(Array.getElem?_eq_some_iff.1 hu).1
   simp[aL] at hu
   subst hu
   exact h1 j cs[j] (by simp[hn,aL])
  have aL:j<i.size:=by simpa using(Array.getElem?_eq_some_iff.1 hu).1
  simp[aL] at hu
  subst hu
  exact hrd j y hy
 rename_i kX
 split at hv
 .rename_i hs
  cases hv
  have aL:0<cs.length:=by omega
  have hg:cs[0]?=some (cs.headD .any):=by cases cs<;>simp at aL ⊢
  have hc:=hcell 0 _ hg
  have had:ad=⟨ad.block,ad.off+0,none⟩:=by
   obtain⟨b,f,s⟩:=ad;simp only at h0;subst h0;rfl
  refine⟨us 0,?_,hrd 0 _ hg⟩
  simp only[Bool.not_eq_true] at kX
  rw[<-had] at hc
  simp[loadVar,tR,kX,run_load,hc]
 cases hv
theorem J1 (hT:cQ P T) (t:TypeId) (x:Operand):eS P T (.load t x):=by
 intro c w X ρ H F o e ρv r lo hi ho h hH hρ au hc;have hx:=hρ x (by simp[Op.operands]);simp only[cq] at au;split at au;rotate_left
 .cases au
 rename_i i hi;split at au
 .rename_i id j off hv;rw[hv] at hx;split at au;rotate_left
  .cases au
  rename_i cd cs fL;split at au;rotate_left
  .cases au
  rename_i v dh;simp only[Res.if,qo] at au;subst au;simp only at hc;generalize mP:e x=u at hx;cases hx with
  | ptr _ _ _ g p hp hg=>
   unfold iU at fL;split at fL
   .rename_i rw xs gM;simp only[qo,Prod.mk.injEq] at fL;obtain⟨rfl,rfl⟩:=fL;obtain⟨kD,PO⟩:=hc;obtain⟨⟨dW,aF,us,gX,hcell⟩,_⟩:=h.ob id p _ hp (hH id _ gM);have Xq:xs[j]?=some (xs.getD j []):=by simp[kD]
    have gg:World.ownsRow w 0 p.e p.size (.slice (some ⟨g,0,none⟩) xs.length p.cap) xs.length us:=by simpa [Place.val,hg] using gX
    have nt:(((xs.getD j []).drop off).take i.size).length=i.size:=by simp only[length_take,qt];omega
    have cI: ∀ (k:Nat) y,((((xs.getD j []).drop off).take i.size).map PV.fv)[k]?=some y-> ∃ z u,y= .fv z/\us[j*p.size+(off+k)]?=some u/\FRd w X u z:=by
     intro k y hy;rw[List.getElem?_map,Option.map_eq_some_iff] at hy;obtain⟨z,hz,rfl⟩:=hy;rw[getElem?_take] at hz;split at hz
     .rw[List.getElem?_drop] at hz;obtain⟨u,hu,vO⟩:=hcell j (off+k) _ z Xq hz;exact⟨z,u,rfl,hu,vO⟩
     cases hz
    obtain⟨u,dC,hrd⟩:=vg hT hi (w:=w) (X:=X) (ρ:=ρ) (ad:=⟨g,j*p.size+off,none⟩) rfl (us:=fun k=>us.getD (j*p.size+(off+k)) undef) (by simpa using nt)
     (fun k y hy=>by
      obtain⟨z,u,_,hu,_⟩:=cI k y hy;have:=gg.cells (g:=g) rfl _ u hu;rw[jb,Nat.zero_add] at this;simp only[qa,hu,Option.getD_some,Nat.add_assoc];exact this)
     (fun k y hy=>by
      obtain⟨z,u,_,hu,vO⟩:=cI k y hy;simp only[qa,hu,Option.getD_some];exact vO.one)
     (fun k y hy=>by
      obtain⟨z,u,rfl,hu,vO⟩:=cI k y hy;simp only[qa,hu,Option.getD_some];exact .fv _ _ vO) dh
    exact⟨rfl,OpOK.still h (by simp[execOp,ho,mP,Instr.loadAt,Instr.sureAddr,dC]) hrd⟩
   .rename_i rw bs gM;simp only[qo,Prod.mk.injEq] at fL;obtain⟨rfl,rfl⟩:=fL;obtain⟨rfl,PO⟩:=hc;obtain⟨⟨g',us,kA,hh,dQ,h1,hcell⟩,_⟩:=h.ob id p _ hp (hH id _ gM);rw[hg] at kA;cases kA;have nt:((bs.drop off).take i.size).length=i.size:=by simp only[length_take,qt];omega
    have cI: ∀ (k:Nat) y,((bs.drop off).take i.size)[k]?=some y-> ∃ u,us[off+k]?=some u/\PRd w X ρ u y:=by
     intro k y hy;rw[getElem?_take] at hy;split at hy
     .rw[List.getElem?_drop] at hy;have aL:off+k<us.size:=by rw[dQ];exact(List.getElem?_eq_some_iff.1 hy).1
      exact⟨us[off+k],Array.getElem?_eq_getElem aL,hcell _ _ _ (Array.getElem?_eq_getElem aL) hy⟩
     cases hy
    obtain⟨u,dC,hrd⟩:=vg hT hi (w:=w) (X:=X) (ρ:=ρ) (ad:=⟨g,off,none⟩) rfl (us:=fun k=>us.getD (off+k) undef) nt
     (fun k y hy=>by
      obtain⟨u,hu,_⟩:=cI k y hy;rw[cell_of_row w g _ us _ _ hh];simp only[Array.getD_eq_getD_getElem?,hu,Option.getD_some])
     (fun k y hy=>by
      obtain⟨u,hu,_⟩:=cI k y hy;simp only[Array.getD_eq_getD_getElem?,hu,Option.getD_some];exact h1 _ _ hu)
     (fun k y hy=>by
      obtain⟨u,hu,vO⟩:=cI k y hy;simp only[Array.getD_eq_getD_getElem?,hu,Option.getD_some];exact vO) dh
    exact⟨rfl,OpOK.still h (by simp[execOp,ho,mP,Instr.loadAt,Instr.sureAddr,dC]) hrd⟩
   cases fL
 .rename_i cs hv;rw[hv] at hx;split at au;rotate_left
  .cases au
  rename_i v dh;simp only[Res.if,qo] at au;subst au;simp only at hc;generalize mP:e x=u at hx;cases hx with
  | fv _ _ hf=>
   cases hf with
   | fp ad cs us h0 hX hb hcell hrd=>
    have cI: ∀ (k:Nat) y,((cs.take i.size).map PV.fv)[k]?=some y-> ∃ z,y= .fv z/\cs[k]?=some z:=by
     intro k y hy;rw[List.getElem?_map,Option.map_eq_some_iff] at hy;obtain⟨z,hz,rfl⟩:=hy;rw[getElem?_take] at hz;split at hz
     .exact⟨z,rfl,hz⟩
     cases hz
    obtain⟨u,dC,hrd⟩:=vg hT hi (w:=w) (X:=X) (ρ:=ρ) (ad:=ad) h0 (us:=us) (by simp;omega)
     (fun k y hy=>by obtain⟨z,_,hz⟩:=cI k y hy;exact hcell k z hz)
     (fun k y hy=>by obtain⟨z,_,hz⟩:=cI k y hy;exact(hrd k z hz).one)
     (fun k y hy=>by obtain⟨z,rfl,hz⟩:=cI k y hy;exact .fv _ _ (hrd k z hz)) dh
    exact⟨rfl,OpOK.still h (by simp[execOp,ho,mP,Instr.loadAt,Instr.sureAddr,dC]) hrd⟩
 cases au
theorem VK {t:TypeId} {ti:TypeInfo} {d:TypeDesc} (fP:P.info? t=some ti) (hd:P.underlying t=some d) {w:World} {X:Nat->Prop} {ρ:Places} {us:Array Value} {cs:List PV} {off:Nat}
 (hn:us.size=cs.length) (h1: ∀ (i:Nat) u,us[i]?=some u->u.oneCell'=true) (hr: ∀ (i:Nat) u c,us[i]?=some u->cs[i]?=some c->PRd w X ρ u c):
 (AJ d=true->off+ti.size<=cs.length-> ∃ u,(part t us off).run P w= .ok u w/\PRd w X ρ u (.agg ((cs.drop off).take ti.size)))/\
 (AJ d=false->off<cs.length-> ∃ u,(part t us off).run P w= .ok u w/\PRd w X ρ u (cs.getD off .any)):=by
 have tR:=lO (P:=P) (w:=w) hd
 constructor
 .intro ha hl
  refine⟨.agg (us.extract off (off+ti.size)),by simp[part,tR,ha,sizeOf,typeInfo,fP],.agg _ _ (by simp;omega) (fun i u hu=>?_) (fun i u x hu hx=>?_)⟩
  .have aL:i<(us.extract off (off+ti.size)).size:=(Array.getElem?_eq_some_iff.1 hu).1
   have Bz:us[off+i]?=some u:=by
    rw[<-hu,Array.getElem?_extract,if_pos (by simpa using aL)]
   exact h1 _ u Bz
  have aL:i<(us.extract off (off+ti.size)).size:=(Array.getElem?_eq_some_iff.1 hu).1
  have Bz:us[off+i]?=some u:=by
   rw[<-hu,Array.getElem?_extract,if_pos (by simpa using aL)]
  rw[getElem?_take] at hx
  split at hx
  .rw[List.getElem?_drop] at hx
   exact hr _ u x Bz hx
  cases hx
 intro ha hl
 have aL:off<us.size:=by omega
 refine⟨us[off],by simp[part,tR,ha,Array.getElem?_eq_getElem aL],?_⟩
 refine hr off _ _ (Array.getElem?_eq_getElem aL) ?_
 simp[hl]
theorem Hz (hT:cQ P T) (t:TypeId) (x:Operand) (f:Nat):eS P T (.field t x f):=by
 intro c w X ρ H F o e ρv r lo hi ho h hH hρ au hc;have hx:=hρ x (by simp[Op.operands]);simp only[cq] at au;split at au;rotate_left
 .cases au
 rename_i i hi;split at au;rotate_left
 .cases au
 rename_i fs Fo;have hd:=(hT _ _ hi).desc;rw[Fo] at hd;obtain⟨ffs,hu,dQ,K1⟩:=hd;split at au
 .rename_i fd cs Bq hv;rw[hv] at hx;have aL:f<ffs.size:=by rw[dQ];exact(List.getElem?_eq_some_iff.1 Bq).1
  obtain⟨jo,fE,ti,d,fP,en,ym,tR⟩:=K1 f _ _ (Array.getElem?_eq_getElem aL) Bq;generalize mP:e x=u at hx;cases hx with
  | agg us _ hn h1 hr=>
   have Zy:=VK fP ym (w:=w) (X:=X) (ρ:=ρ) (off:=fd.off) hn h1 hr;split at au
   .rename_i kX;simp only[Res.if,qo] at au;subst au;obtain⟨u,dC,hrd⟩:=Zy.1 (by rw[tR];exact kX) (by rw[en];exact hc);rw[en] at hrd;exact⟨rfl,OpOK.still h (by simp[execOp,ho,mP,Instr.field,run_underlying hu,Array.getElem?_eq_getElem aL,asAgg,jo,dC]) hrd⟩
   rename_i kX;split at au
   .simp only[Res.if,qo] at au;subst au;obtain⟨u,dC,hrd⟩:=Zy.2 (by rw[tR];simpa using kX) hc;exact⟨rfl,OpOK.still h (by simp[execOp,ho,mP,Instr.field,run_underlying hu,Array.getElem?_eq_getElem aL,asAgg,jo,dC]) hrd⟩
   cases au
 cases au
end
end Go.AM
namespace Go.AM
section
variable {P:Program} {T:Tab}
theorem HA (hT:cQ P T) (t:TypeId) (x ix:Operand):eS P T (.index t x ix):=by
 intro c w X ρ H F o e ρv r lo hi ho h hH hρ au hc;have hx:=hρ x (by simp[Op.operands]);have hix:=hρ ix (by simp[Op.operands]);simp only[cq] at au;split at au;rotate_left
 .cases au
 rename_i i n hi hn;have hk: ∃ k,e ix= .int k n:=by
  unfold PV.asInt at hn;split at hn
  .rename_i k m hm;cases hn;rw[hm] at hix;exact⟨k,hix.litInv⟩
  cases hn
 obtain⟨k,PN⟩:=hk;have hd:=(hT _ _ hi).desc;split at au;rotate_left
 .rename_i l7;rw[l7] at hd;simp only[gq] at hd;split at au
  .rename_i s hv;rw[hv] at hx;simp only[Res.if,qo] at au;subst au;have aL:n.toNat<s.size:=by have:=hc.1;have:=hc.2;omega
   refine⟨rfl,OpOK.still h ?_ (.fv _ _ (.lit _ rfl))⟩;have hr:(Instr.index t (.string s) (.int k n)).run P w= .ok (.int .u8 ((s[n.toNat]?).getD 0).toNat) w:=by
    rw[run_index_string w t s k n hd,dif_pos hc];have:s[n.toNat]?=some s[n.toNat]:=by simp[aL]
    rw[this];rfl
   simp[execOp,ho,PN,hx.litInv,hr]
  cases au
 .cases au
 rename_i kk el l7;rw[l7] at hd;simp only[gq] at hd;split at au;rotate_left
 .cases au
 rename_i ie cs mO hv;rw[hv] at hx;split at au;rotate_left
 .cases au
 rename_i v dh;simp only[Res.if,qo] at au;subst au;obtain⟨h0,aL,hl⟩:=hc;obtain⟨ti,z,fP,en,_⟩:=(hT _ _ mO).info;generalize mP:e x=u at hx;cases hx with
 | agg us _ hn h1 hr=>
  have tR:=(hT _ _ mO).agg (w:=w);have h2:0<=n/\n<(kk:Int):=⟨h0,aL⟩;unfold kG at dh;split at dh
  .rename_i kX;cases dh;refine⟨rfl,OpOK.still h (u:= .agg (us.extract (n.toNat*ie.size) (n.toNat*ie.size+ie.size))) ?_ (.agg _ _ (by simp;omega) (fun i u hu=>?_) (fun i u y hu hy=>?_))⟩
   .simp[execOp,ho,mP,PN,Instr.index,asIntOf,run_underlying hd,h2,sizeOf,typeInfo,fP,en,part,tR,kX]
   .have aL:i<(us.extract (n.toNat*ie.size) (n.toNat*ie.size+ie.size)).size:=(Array.getElem?_eq_some_iff.1 hu).1;have Bz:us[n.toNat*ie.size+i]?=some u:=by rw[<-hu,Array.getElem?_extract,if_pos (by simpa using aL)]
    exact h1 _ u Bz
   have aL:i<(us.extract (n.toNat*ie.size) (n.toNat*ie.size+ie.size)).size:=(Array.getElem?_eq_some_iff.1 hu).1;have Bz:us[n.toNat*ie.size+i]?=some u:=by rw[<-hu,Array.getElem?_extract,if_pos (by simpa using aL)]
   rw[getElem?_take] at hy;split at hy
   .rw[List.getElem?_drop] at hy;exact hr _ u y Bz hy
   cases hy
  rename_i kX;split at dh
  .rename_i hs;cases dh;have aL:n.toNat*ie.size<us.size:=by omega
   refine⟨rfl,OpOK.still h (u:=us[n.toNat*ie.size]) ?_ (hr _ _ _ (Array.getElem?_eq_getElem aL) ?_)⟩
   .simp only[Bool.not_eq_true] at kX;simp[execOp,ho,mP,PN,Instr.index,asIntOf,run_underlying hd,h2,sizeOf,typeInfo,fP,en,part,tR,kX,Array.getElem?_eq_getElem aL]
   rw[hs];simp only[List.headD_eq_head?_getD,List.head?_take,List.head?_drop];have:n.toNat*1<cs.length:=by rw[<-hs];omega
   rw[if_neg (by omega),qb this];rfl
  cases dh
theorem n9 {w:World} {X:Nat->Prop} {ρ:Places} {ov:Option Operand} {e:Operand->Value} {ρv:Operand->PV} (hρ: ∀ x∈ov.toArray,PRd w X ρ (e x) (ρv x)) {d n:Nat} {cd:Prop}
 (hb:eV (ov.map ρv) d=some (cd,n)):(ov=none/\n=d/\cd=True)\/ ∃ x k m,ov=some x/\e x= .int k m/\cd=(0<=m)/\n=m.toNat:=by
 cases ov with
 | none=>
  simp only[Option.map_none,eV,qo,Prod.mk.injEq] at hb;exact .inl ⟨rfl,hb.2.symm,hb.1.symm⟩
 | some x=>
  right;have hx:=hρ x (by simp);simp only[Option.map_some,eV] at hb;split at hb
  .rename_i m hm;unfold PV.asInt at hm;split at hm
   .rename_i k q hq;cases hm;rw[hq] at hx;cases hb;exact⟨x,k,m,rfl,hx.litInv,rfl,rfl⟩
   cases hm
  cases hb
theorem o6 {w:World} {t el:TypeId} {ti:TypeInfo} (hu:P.underlying t=some (.slice el)) (fP:P.info? el=some ti) {lo hi:Option Operand} {e:Operand->Value} {ρv:Operand->PV} {X:Nat->Prop} {ρ:Places}
 (ej: ∀ x∈lo.toArray,PRd w X ρ (e x) (ρv x)) (eC: ∀ x∈hi.toArray,PRd w X ρ (e x) (ρv x)) {len cap l h:Nat} {c1 c2:Prop} (b:Option Addr)
 (dX:eV (lo.map ρv) 0=some (c1,l)) (eI:eV (hi.map ρv) len=some (c2,h)) (sq:c1) (pz:c2) (K4:l<=h) (Zt:h<=cap):
 (Instr.sliceAt t (.slice b len cap) (lo.map e) (hi.map e) none).run P w= .ok (.slice (if cap=l then b else b.map (·.add (l*ti.size))) (h - l) (cap - l)) w:=by
 have key:(Instr.sliceBounds true len cap (lo.map e) (hi.map e) none).run P w= .ok (l,h,cap) w:=by
  rcases n9 ej dX with⟨rfl,rfl,_⟩ | ⟨x,k,m,rfl,hx,rfl,rfl⟩<;>
   rcases n9 eC eI with⟨rfl,rfl,_⟩ | ⟨y,k',m',rfl,hy,rfl,rfl⟩
  .simp[Instr.sliceBounds]
  .have h1:0<=m'/\m'<=(cap:Int):=by omega
   simp[Instr.sliceBounds,Instr.sliceBound,hy,asIntOf,h1]
  .have h1:0<=m/\m<=(h:Int):=by omega
   simp[Instr.sliceBounds,Instr.sliceBound,hx,asIntOf,h1]
  have h1:0<=m'/\m'<=(cap:Int):=by omega
  have h2:0<=m/\m<=max m' 0:=by omega
  simp[Instr.sliceBounds,Instr.sliceBound,hx,hy,asIntOf,h1,h2]
 simp[Instr.sliceAt,run_underlying hu,Instr.slice,key,sizeOf,typeInfo,fP]
theorem EP {w:World} {X:Nat->Prop} {b:Option Addr} {n cap l h sz:Nat} {xs:List (List FV)} (hf:FRd w X (.slice b n cap) (.sl xs)) (hs: ∀ x∈xs,x.length=sz) (K4:l<=h) (K5:h<=n):
 FRd w X (.slice (if cap=l then b else b.map (·.add (l*sz))) (h - l) (cap - l)) (.sl ((xs.drop l).take (h - l))):=by
 cases hf with
 | nil=>
  have:l=0:=by omega
  subst this;have:h=0:=by omega
  subst this;simp;exact .nil
 | sl ad _ _ s _ us hn w6 mH h0 hX hb hcell hrd=>
  by_cases hz:h - l=0
  .rw[hz];simp only[List.take_zero];by_cases fr:cap=l
   .rw[if_pos fr];exact .sl ad 0 _ 0 [] (fun _ _=>undef) rfl (dk _) (by simp) h0 (fun h=>absurd rfl h) (fun h=>absurd rfl h) (by simp) (by simp)
   rw[if_neg fr];refine .sl _ 0 _ 0 [] (fun _ _=>undef) rfl (dk _) (by simp) ?_ (fun h=>absurd rfl h) (fun h=>absurd rfl h) (by simp) (by simp);simp only[iH h0]
  have fr: ¬cap=l:=by omega
  rw[if_neg fr];have e7:xs≠[]:=by intro hx;subst hx;simp at hn;omega
  have dQ:s=sz:=by
   cases xs with
   | nil=>exact absurd rfl e7
   | cons x xs=>rw[<-mH x (by simp),hs x (by simp)]
  subst dQ;simp only[Option.map_some,iH h0];refine .sl _ _ _ s _ (fun i j=>us (l+i) j) (by simp;omega) (by omega) (fun x hx=>mH x (qgb (xW hx))) rfl (fun _=>hX (by omega)) (fun _=>hb (by omega)) (fun i j x y hx hy=>?_) (fun i j x y hx hy=>?_)
  .rw[getElem?_take] at hx;split at hx
   .rw[List.getElem?_drop] at hx;have:=hcell _ j x y hx hy;rw[<-this];congr 2;simp only[Nat.add_mul];omega
   cases hx
  rw[getElem?_take] at hx;split at hx
  .rw[List.getElem?_drop] at hx;exact hrd _ j x y hx hy
  cases hx
theorem MM {c:gZ} {w:World} {X:Nat->Prop} {ρ:Places} {F H:List Ob} (h:HRd c w X ρ F) (hH: ∀ (j:Nat) o,H[j]?=some o->F[j]?=some o) {id:Nat} {p:Place} (hp:ρ[id]?=some (some p)) (off len:Nat) (lo hi:Option PV):
 (p.b=none->room H id off len lo hi<=len)/\(p.b≠none->room H id off len lo hi<=max len (p.cap - off)):=by
 unfold room
 split
 .split
  .rename_i rw xs gM
   obtain⟨⟨_,_,us,gX,_⟩,_⟩:=h.ob id p _ hp (hH _ _ gM)
   obtain⟨_,fB⟩:=gX
   constructor
   .intro hg
    rcases fB with⟨_,h6⟩ | ⟨g',cap',Xw,h5,_⟩
    .rw[h6];omega
    simp[Place.val,hg] at h5
   intro hg
   obtain⟨g,hg⟩:=Option.ne_none_iff_exists'.1 hg
   rcases fB with⟨h5,h6⟩ | ⟨g',cap',cur,h5,_,kC,mL,_⟩
   .rw[h6];omega
   simp only[Place.val,hg,Value.slice.injEq] at h5
   omega
  exact⟨fun _=>qp _,fun _=>Nat.le_max_left _ _⟩
 exact⟨fun _=>qp _,fun _=>Nat.le_max_left _ _⟩
theorem HB (hT:cQ P T) {t:TypeId} {i:TyI} (hi:T.at t=some i) {el:Nat} (l7:i.d= .sl el) (x:Operand) (lo pj:Option Operand):eS P T (.slice t x lo pj none):=by
 intro c w X ρ H F o e ρv r l0 h0 ho h hH hρ au hc;have hx:=hρ x (by simp[Op.operands]);have ej: ∀ y∈lo.toArray,PRd w X ρ (e y) (ρv y):=fun y hy=>hρ y (by simp[Op.operands] at hy ⊢;simp[hy])
 have eC: ∀ y∈pj.toArray,PRd w X ρ (e y) (ρv y):=fun y hy=>hρ y (by simp[Op.operands] at hy ⊢;simp[hy])
 have hd:=(hT _ _ hi).desc;rw[l7] at hd;simp only[gq] at hd;simp only[cq,hi,l7] at au;split at au
 .rename_i ie id off len s mO hv;obtain⟨ti,z,fP,en,_⟩:=(hT _ _ mO).info;rw[hv] at hx;split at au;rotate_left
  .cases au
  rename_i hs;split at au;rotate_left
  .cases au
  rename_i c1 l c2 hh dX eI;simp only[Res.if,qo] at au;subst au;obtain⟨sq,pz,K4,K5⟩:=hc;obtain⟨p,hp,ni,⟨hg,ow,rfl,rfl⟩ | ⟨g,og,hg,ow,hl,jf⟩⟩:=hx.lslInv
  .replace K5:=gD K5 ((MM h hH hp _ _ _ _).1 hg);have dC:=o6 (w:=w) hd fP ej eC (cap:=0) none dX eI sq pz K4 K5;have e1:l=0:=by omega
   have e2:hh=0:=by omega
   subst e1 e2;subst ni;refine⟨rfl,OpOK.still h (u:= .slice none 0 0) ?_ (.lsl0 id p hp hg)⟩;simp at dC;simp[execOp,ho,ow,dC]
  replace K5:=gD K5 ((MM h hH hp _ _ _ _).2 (by rw[hg];simp));replace K5:hh<=p.cap - off:=by omega
  have dC:=o6 (w:=w) hd fP ej eC (cap:=p.cap - off) (some ⟨g,og,none⟩) dX eI sq pz K4 K5;subst ni;have e:p.cap - off - l=p.cap - (off+l):=by omega
  rw[e] at dC;refine⟨rfl,OpOK.still h (by simp only[execOp,ho,ow,Option.map_none];rw[Sem.run_bind,dC];rfl) ?_⟩;by_cases fr:p.cap - off=l
  .rw[if_pos fr];refine .lsl id (off+l) (hh - l) og g p hp hg (by omega) ?_;by_cases hz:off+l=0
   .left;have:off=0:=by omega
    subst this;rcases jf with jf | jf
    .have P0:l=0:=by omega
     subst P0;rw[jf]
    exact absurd rfl jf.2
   right;exact⟨by omega,hz⟩
  rw[if_neg fr];have Ni:og=off*p.size:=by
   rcases jf with jf | jf
   .exact jf
   omega
  subst Ni;simp only[Option.map_some,jb];refine .lsl id (off+l) (hh - l) _ g p hp hg (by omega) (.inl ?_);rw[en,<-hs,Nat.add_mul]
 .rename_i ie xs mO hv;obtain⟨ti,z,fP,en,_⟩:=(hT _ _ mO).info;rw[hv] at hx;split at au;rotate_left
  .cases au
  rename_i c1 l c2 hh dX eI;simp only[Res.if,qo] at au;subst au;obtain⟨sq,pz,K4,K5,aF⟩:=hc;generalize mP:e x=u at hx;cases hx with
  | fv _ _ hf=>
   have ab2: ∃ b n cap,u= .slice b n cap/\xs.length=n/\n<=cap:=by
    cases hf with
    | nil=>exact⟨_,_,_,rfl,rfl,qp _⟩
    | sl ad n cap s _ us hn w6=>exact⟨_,_,_,rfl,hn,w6⟩
   obtain⟨b,n,cap,rfl,hn,w6⟩:=ab2;subst hn;have dC:=o6 (w:=w) hd fP ej eC b dX eI sq pz K4 (gD K5 w6);refine⟨rfl,OpOK.still h (by simp only[execOp,ho,mP,Option.map_none];rw[Sem.run_bind,dC];rfl) (.fv _ _ ?_)⟩;rw[en];exact EP hf aF K4 K5
 .rename_i ie xs mO hv;obtain⟨ti,z,fP,en,_⟩:=(hT _ _ mO).info;rw[hv] at hx;split at au;rotate_left
  .cases au
  rename_i c1 l c2 hh dX eI;simp only[Res.if,qo] at au;subst au;obtain⟨sq,pz,K4,K5,aF⟩:=hc;generalize mP:e x=u at hx;cases hx with
  | clip b n _ hf=>
   have hn:xs.length=n:=by
    cases hf with
    | nil=>rfl
    | sl ad n cap s _ us hn w6=>exact hn
   subst hn;have dC:=o6 (w:=w) hd fP ej eC b dX eI sq pz K4 K5;refine⟨rfl,OpOK.still h (by simp only[execOp,ho,mP,Option.map_none];rw[Sem.run_bind,dC];rfl) (.fv _ _ ?_)⟩;rw[en];exact EP hf aF K4 K5
 cases au
theorem VL {w:World} {X:Nat->Prop} {ρ:Places} {u:Value} {x:PV} {len:Nat} (h:PRd w X ρ u x) (hl:pG x=some len): ∃ b cap,u= .slice b len cap/\len<=cap/\FRd w X (.slice b 0 0) (.sl []):=by
 have key: ∀ ad:Addr,ad.spot=none->FRd w X (.slice (some ad) 0 0) (.sl []):=fun ad had=>
  .sl ad 0 0 0 [] (fun _ _=> .bool false) rfl (qp _) (by simp) had (fun h=>absurd rfl h) (fun h=>absurd rfl h) (by simp) (by simp)
 cases h with
 | any=>simp[pG] at hl
 | fv _ y hf=>
  cases hf with
  | lit v hv=>
   unfold pG at hl;split at hl
   all_goals first
    | (rename_i heq;cases heq;done)
    | (cases hl;done)
    | skip
   rename_i heq;cases heq;cases hl;exact⟨_,_,rfl,dk _,key _ rfl⟩
  | nil=>simp[pG] at hl;subst hl;exact⟨_,_,rfl,qp _,.nil⟩
  | sl ad n cap s xs us hn hc mH h0=>
   simp[pG] at hl;subst hl;rw[<-hn] at hc ⊢;exact⟨_,_,rfl,hc,key _ h0⟩
  | fp=>simp[pG] at hl
  | fn=>simp[pG] at hl
 | nilsl=>simp[pG] at hl;subst hl;exact⟨_,_,rfl,qp _,.nil⟩
 | clip a n xs hf=>
  simp[pG] at hl;subst hl;cases hf with
  | nil=>exact⟨_,_,rfl,qp _,.nil⟩
  | sl ad n cap s _ us hn hc mH h0=>rw[<-hn];exact⟨_,_,rfl,qp _,key _ h0⟩
 | ptr=>simp[pG] at hl
 | lsl0 id p hp hg=>simp[pG] at hl;subst hl;exact⟨_,_,rfl,qp _,.nil⟩
 | lsl id off len o g p hp hg qZ ho=>simp[pG] at hl;subst hl;exact⟨_,_,rfl,by omega,key _ rfl⟩
 | agg=>simp[pG] at hl
 | tup=>simp[pG] at hl
 | tab=>simp[pG] at hl
theorem HD {w:World} {X:Nat->Prop} {ρ:Places} {u:Value} {x:PV} {n:Int} (h:PRd w X ρ u x) (hn:x.asInt=some n): ∃ k,u= .int k n:=by
 unfold PV.asInt at hn;split at hn
 .cases hn;exact⟨_,h.litInv⟩
 cases hn
theorem ER (hT:cQ P T) {t:TypeId} {i:TyI} (hi:T.at t=some i) {el:Nat} (l7:i.d= .sl el) (x:Operand) (lo pj:Option Operand) (mx:Operand):eS P T (.slice t x lo pj (some mx)):=by
 intro c w X ρ H F o e ρv r l0 h0 ho h hH hρ au hc;have hx:=hρ x (by simp[Op.operands]);have ej: ∀ y∈lo.toArray,PRd w X ρ (e y) (ρv y):=fun y hy=>hρ y (by simp[Op.operands] at hy ⊢;simp[hy])
 have eC: ∀ y∈pj.toArray,PRd w X ρ (e y) (ρv y):=fun y hy=>hρ y (by simp[Op.operands] at hy ⊢;simp[hy])
 have Pk:=hρ mx (by simp[Op.operands]);have hd:=(hT _ _ hi).desc;rw[l7] at hd;simp only[gq] at hd;simp only[cq,hi,l7] at au;split at au;rotate_left
 .cases au
 rename_i ie len c1 l hh m mO yk dX hh1 pB;obtain⟨ti,z,fP,en,_⟩:=(hT _ _ mO).info;simp only[Res.if,qo] at au;subst au;obtain⟨sq,pz,K4,K5,jM⟩:=hc;obtain⟨b,cap,vB,Kx,Qc⟩:=VL hx yk;obtain⟨km,hem⟩:=HD Pk pB;cases pj with
 | none=>simp[asI] at hh1
 | some y=>
  obtain⟨ky,hey⟩:=HD (eC y (by simp)) (by simpa [asI] using hh1);have key:(Instr.sliceBounds true len cap (lo.map e) ((some y).map e) (some (e mx))).run P w= .ok (l,hh.toNat,m.toNat) w:=by
   have h3:0<=m/\m<=(cap:Int):=by omega
   have h4:0<=hh/\hh<=max m 0:=by omega
   rcases n9 ej dX with⟨rfl,rfl,_⟩ | ⟨x,k,q,rfl,hx,rfl,rfl⟩
   .simp[Instr.sliceBounds,Instr.sliceBound,hey,hem,asIntOf,h3,h4]
   have h5:0<=q/\q<=max hh 0:=by omega
   simp[Instr.sliceBounds,Instr.sliceBound,hey,hem,hx,asIntOf,h3,h4,h5]
  have dC:(Instr.sliceAt t (.slice b len cap) (lo.map e) ((some y).map e) (some (e mx))).run P w= .ok (.slice (if m.toNat=l then b else b.map (·.add (l*ti.size))) (hh.toNat - l) (m.toNat - l)) w:=by
   simp only[Option.map_some] at key ⊢;simp[Instr.sliceAt,run_underlying hd,Instr.slice,key,sizeOf,typeInfo,fP]
  refine⟨rfl,OpOK.still h (by simp only[execOp,ho,vB,Option.map_some];simp only[Option.map_some] at dC;rw[Sem.run_bind,dC];rfl) ?_⟩;cases lo with
  | some _=>exact .any _
  | none=>
   have P0:l=0:=by simp[eV] at dX;omega
   subst P0;simp only[Option.map_none,Ld];by_cases MZ:m=0
   .by_cases hh0:hh=0
    .subst MZ hh0;exact .clip _ _ _ Qc
    rw[if_pos MZ,if_neg hh0];exact .any _
   rw[if_neg MZ];exact .any _
theorem jE {α:Type} {l new:List α} {off:Nat} (h:off+new.length<=l.length) (i:Nat):
 (fF l off new)[i]?=if i<off then l[i]? else if i<off+new.length then new[i - off]? else l[i]?:=by
 unfold fF
 by_cases h1:i<off
 .rw[if_pos h1,qlb,qi (by simp;omega),getElem?_take,if_pos h1]
 rw[if_neg h1]
 by_cases h2:i<off+new.length
 .rw[if_pos h2,qi (by simp;omega),qh (by simp;omega)]
  congr 1
  simp
  omega
 rw[if_neg h2,qh (by simp;omega),List.getElem?_drop]
 congr 1
 simp
 omega
theorem hG {α:Type} {l new:List α} {off:Nat} (h:off+new.length<=l.length):(fF l off new).length=l.length:=by
 unfold fF;simp;omega
theorem AO: ∀ (l:List Value) (k off:Nat) (cells:Array Value),(∀ m,((l.zipIdx k).foldl (fun cs (p:Value×Nat)=>cs.setIfInBounds (off+p.2) p.1) cells)[m]?=
 if off+k<=m/\m<off+k+l.length/\m<cells.size then l[m - (off+k)]? else cells[m]?)
 | [],k,off,cells=>fun m=>by simp;intro h1 h2;omega
 | v::l,k,off,cells=>fun m=>by
  rw[List.zipIdx_cons,List.foldl_cons,AO l (k+1) off _ m];simp only[Array.size_setIfInBounds,List.length_cons];by_cases h1:off+k=m
  .subst h1;rw[if_neg (by omega)];by_cases aL:off+k<cells.size
   .rw[if_pos (by omega)];simp[aL]
   rw[if_neg (by omega)];simp[aL]
  rw[Array.getElem?_setIfInBounds_ne h1];by_cases h2:off+(k+1)<=m/\m<off+(k+1)+l.length/\m<cells.size
  .rw[if_pos h2,if_pos (by omega)];rw[show m - (off+k)=(m - (off+(k+1)))+1 by omega,List.getElem?_cons_succ]
  rw[if_neg h2,if_neg (by omega)]
theorem FRd.cells {w:World} {X:Nat->Prop} {u:Value} {x:FV} (h:FRd w X u x):u.cells=#[u]:=by
 cases h<;>first | rfl | (rename_i h;cases u<;>first | rfl | cases h)
theorem tG {w:World} {X:Nat->Prop} {ρ:Places} {u:Value} {x:PV} (h:PRd w X ρ u x) (hx:0<x.cells.length):u.cells.size=x.cells.length/\ ∀ (i:Nat) v,u.cells[i]?=some v->v.oneCell'=true:=by
 cases h with
 | agg us cs hn h1 hr=>exact⟨hn,h1⟩
 | any=>simp[PV.cells] at hx
 | tup us cs hn hr=>simp[PV.cells] at hx
 | fv _ _ hf=>
  rw[hf.cells];refine⟨rfl,fun i v hv=>?_⟩;cases i with
  | zero=>simp at hv;subst hv;exact hf.one
  | succ i=>simp at hv
 | _=>
  refine⟨rfl,fun i v hv=>?_⟩;cases i with
  | zero=>simp[Value.cells] at hv;subst hv;rfl
  | succ i=>simp[Value.cells] at hv
theorem AP {w:World} {X:Nat->Prop} {ρ:Places} {u:Value} {x:PV} (h:PRd w X ρ u x): ∀ (i:Nat) v y,u.cells[i]?=some v->x.cells[i]?=some y->PRd w X ρ v y:=by
 intro i v y hv hy;cases h with
 | agg us cs hn h1 hr=>exact hr i v y hv hy
 | any=>simp[PV.cells] at hy
 | fv _ _ hf=>
  rw[hf.cells] at hv;cases i with
  | zero=>simp[PV.cells] at hv hy;subst hv;subst hy;exact .fv _ _ hf
  | succ i=>simp at hv
 | nilsl=>cases i with
  | zero=>simp[PV.cells,Value.cells] at hv hy;subst hv;subst hy;exact .nilsl
  | succ i=>simp[Value.cells] at hv
 | clip a n xs hf=>cases i with
  | zero=>simp[PV.cells,Value.cells] at hv hy;subst hv;subst hy;exact .clip a n xs hf
  | succ i=>simp[Value.cells] at hv
 | ptr id j off g p hp hg=>cases i with
  | zero=>simp[PV.cells,Value.cells] at hv hy;subst hv;subst hy;exact .ptr id j off g p hp hg
  | succ i=>simp[Value.cells] at hv
 | lsl0 id p hp hg=>cases i with
  | zero=>simp[PV.cells,Value.cells] at hv hy;subst hv;subst hy;exact .lsl0 id p hp hg
  | succ i=>simp[Value.cells] at hv
 | lsl id off len og g p hp hg hl ho=>cases i with
  | zero=>simp[PV.cells,Value.cells] at hv hy;subst hv;subst hy;exact .lsl id off len og g p hp hg hl ho
  | succ i=>simp[Value.cells] at hv
 | tup us cs hn hr=>simp[PV.cells] at hy
 | tab id g p hp hg=>cases i with
  | zero=>simp[PV.cells,Value.cells] at hv hy;subst hv;subst hy;exact .tab id g p hp hg
  | succ i=>simp[Value.cells] at hv
end
end Go.AM
namespace Go.AM
section
variable {P:Program} {T:Tab}
def EffOp (P:Program) (T:Tab) (op:Op):Prop:=
 ∀ {c:gZ} {w:World} {X:Nat->Prop} {ρ:Places} {H D R:List Ob} {o:Oper} {e:Operand->Value} {ρv:Operand->PV} {r:Res},
  o.op=op->HRd c w X ρ (H++(D++R))->(∀ id,H.length<=id->id<H.length+D.length->ρ[id]?=some none)->(∀ x∈op.operands,PRd w X ρ (e x) (ρv x))->cq T H ρv op=some r->r.cond->
  r.heap.length=H.length+D.length->OpOK c w X ρ H.length (H.length+D.length) (r.heap++R) ((execOp e o).run P w) r.val
theorem bP {H G:List Ob}: ∀ (j:Nat) o,H[j]?=some o->(H++G)[j]?=some o:=fun j o h=>by
 rw[qi (List.getElem?_eq_some_iff.1 h).1];exact h
theorem EffOp.of_still {op:Op} (h:eS P T op):EffOp P T op:=by
 intro c w X ρ H D R o e ρv r ho hh hD hρ au hc aF;obtain⟨hr,bF⟩:=h (lo:=H.length) (hi:=H.length+D.length) ho hh bP hρ au hc;rw[hr] at aF;have hd:D=[]:=List.eq_nil_of_length_eq_zero (by omega);subst hd;rw[hr];exact bF
theorem DA {c:gZ} {w:World} {X:Nat->Prop} {ρ:Places} {H R:List Ob} {d:Ob} (h:HRd c w X ρ (H++([d]++R))) (hρ:ρ[H.length]?=some none) {us:Array Value} {cs:List PV} (el:Nat)
 (hn:us.size=cs.length) (h1: ∀ (i:Nat) u,us[i]?=some u->u.oneCell'=true) (hr: ∀ (i:Nat) u x,us[i]?=some u->cs[i]?=some x->PRd w X ρ u x):
 ∃ X' ρ',Stp c w (w.alloc (.cells us el)) X X' ρ ρ'/\HRd c (w.alloc (.cells us el)) X' ρ' ((H++[.box true cs])++R)/\
  PRd (w.alloc (.cells us el)) X' ρ' (.pointer (some ⟨w.heap.size,0,none⟩)) (.ptr H.length 0 0)/\ ∀ id,id≠H.length->ρ'[id]?=ρ[id]?:=by
 let p:Place:=⟨some w.heap.size,el,us.size,0⟩
 have aL:H.length<ρ.length:=(List.getElem?_eq_some_iff.1 hρ).1
 have hg:=World.grownBy_alloc w (.cells us el) none
 have hF:(H++([d]++R)).set H.length (.box true cs)=(H++[.box true cs])++R:=by simp
 have ab3: ∀ (j:Nat) q o g,ρ[j]?=some (some q)->(H++([d]++R))[j]?=some o->o.rw=true->q.b=some g->g<w.heap.size:=fun j q o g hq ho hr hb=>(h.own j q o g hq ho hr hb).2
 have bS:=h.put (id:=H.length) (p:=p) (ob:= .box true cs) (row:=none) (w':=w.alloc (.cells us el)) (by simp) (.inl hρ) hg (by simp)
  (fun j q o g hj hq ho hr hb=>⟨by simp,by
   have:=ab3 j q o g hq ho hr hb;intro he;simp only[p,qo] at he;omega⟩)
  (fun g hg=>by simp only[p,qo] at hg;left;omega)
  (fun g hg=>by simp only[p,qo] at hg;subst hg;exact⟨.inl h.ge,by simp⟩)
  (by simp)
  ⟨⟨w.heap.size,us,rfl,heap_alloc_new w _,hn,h1,fun i u x hu hx=>(hr i u x hu hx).mono (World.grownBy_alloc w _ none |> fun hg=>⟨hg.size,fun b hb _=>hg.block b hb (by simp)⟩)
   (fun b hb hx=>by
    rcases hx with hx | hx
    .exact hx
    simp only[p,qo] at hx;omega) (Places.Le.set (.inl hρ))⟩,
   fun g hg=>⟨fun _=> .inr hg,fun _=>rfl⟩⟩
 rw[hF] at bS
 refine⟨_,_,bS.2,bS.1,?_,fun id eD=>by rw[getElem?_set_ne (Ne.symm eD)]⟩
 have:=PRd.ptr (w:=w.alloc (.cells us el)) (X:=fun b=>X b\/p.b=some b) (ρ:=ρ.set H.length (some p)) H.length 0 0 w.heap.size p (by simp[aL]) rfl
 simpa using this
theorem J2 {c:gZ} {w:World} {X:Nat->Prop} {ρ:Places} {H R:List Ob} {d:Ob} (h:HRd c w X ρ (H++([d]++R))) (hρ:ρ[H.length]?=some none) {us:Array Value} {cs:List PV} (el n:Nat)
 (hn:us.size=cs.length) (_hcn:cs.length=n) (h1: ∀ (i:Nat) u,us[i]?=some u->u.oneCell'=true) (hr: ∀ (i:Nat) u x,us[i]?=some u->cs[i]?=some x->PRd w X ρ u x):
 ∃ X' ρ',Stp c w (w.alloc (.cells us el)) X X' ρ ρ'/\HRd c (w.alloc (.cells us el)) X' ρ' ((H++[.box true cs])++R)/\
  PRd (w.alloc (.cells us el)) X' ρ' (.slice (some ⟨w.heap.size,0,none⟩) n n) (.lsl H.length 0 n 1)/\ ∀ id,id≠H.length->ρ'[id]?=ρ[id]?:=by
 let p:Place:=⟨some w.heap.size,el,1,n⟩
 have aL:H.length<ρ.length:=(List.getElem?_eq_some_iff.1 hρ).1
 have hg:=World.grownBy_alloc w (.cells us el) none
 have hF:(H++([d]++R)).set H.length (.box true cs)=(H++[.box true cs])++R:=by simp
 have ab3: ∀ (j:Nat) q o g,ρ[j]?=some (some q)->(H++([d]++R))[j]?=some o->o.rw=true->q.b=some g->g<w.heap.size:=fun j q o g hq ho hr hb=>(h.own j q o g hq ho hr hb).2
 have bS:=h.put (id:=H.length) (p:=p) (ob:= .box true cs) (row:=none) (w':=w.alloc (.cells us el)) (by simp) (.inl hρ) hg (by simp)
  (fun j q o g hj hq ho hr hb=>⟨by simp,by
   have:=ab3 j q o g hq ho hr hb;intro he;simp only[p,qo] at he;omega⟩)
  (fun g hg=>by simp only[p,qo] at hg;left;omega)
  (fun g hg=>by simp only[p,qo] at hg;subst hg;exact⟨.inl h.ge,by simp⟩)
  (by simp)
  ⟨⟨w.heap.size,us,rfl,heap_alloc_new w _,hn,h1,fun i u x hu hx=>(hr i u x hu hx).mono (World.grownBy_alloc w _ none |> fun hg=>⟨hg.size,fun b hb _=>hg.block b hb (by simp)⟩)
   (fun b hb hx=>by
    rcases hx with hx | hx
    .exact hx
    simp only[p,qo] at hx;omega) (Places.Le.set (.inl hρ))⟩,
   fun g hg=>⟨fun _=> .inr hg,fun _=>rfl⟩⟩
 rw[hF] at bS
 refine⟨_,_,bS.2,bS.1,?_,fun id eD=>by rw[getElem?_set_ne (Ne.symm eD)]⟩
 have:=PRd.lsl (w:=w.alloc (.cells us el)) (X:=fun b=>X b\/p.b=some b) (ρ:=ρ.set H.length (some p)) H.length 0 n 0 w.heap.size p (by simp[aL]) rfl (by simp[p]) (.inl (by simp))
 simpa using this
def MN:Value->Nat
 | .slice _ _ c=>c
 | _=>0
theorem HE {w:World} {e size n:Nat} {v:Value} {us:List Value} (h:w.ownsRow 0 e size v n us):Place.val ⟨v.ownBlock,e,size,MN v⟩ n=v:=by
 rcases h.2 with⟨rfl,rfl⟩ | ⟨g,cap,cur,rfl,_⟩
 .rfl
 rfl
theorem eF {c:gZ} {w w':World} {X:Nat->Prop} {ρ:Places} {H R:List Ob} {d:Ob} (h:HRd c w X ρ (H++([d]++R))) (hρ:ρ[H.length]?=some none) {us:List Value} {xs:List (List FV)} {el size:Nat} {v:Value}
 {row:Option Nat} (hg:w.grownBy w' row) (xV: ∀ g,row=some g->X g)
 (q5: ∀ (j:Nat) q o g,j≠H.length->ρ[j]?=some (some q)->(H++([d]++R))[j]?=some o->o.rw=true->q.b=some g->some g≠row)
 (Fm: ∀ g,row=some g->(c.w0.heap.size<=g\/c.M g)) (dW:0<size) (aF: ∀ x∈xs,x.length=size)
 (gg:w'.ownsRow 0 el size v xs.length us) (kF: ∀ g,v.ownBlock=some g->w.heap.size<=g\/some g=row)
 (hcell: ∀ (i j:Nat) x y,xs[i]?=some x->x[j]?=some y-> ∃ u,us[i*size+j]?=some u/\FRd w X u y):
 ∃ X' ρ',Stp c w w' X X' ρ ρ'/\HRd c w' X' ρ' ((H++[.row true xs])++R)/\PRd w' X' ρ' v (.lsl H.length 0 xs.length size)/\ ∀ id,id≠H.length->ρ'[id]?=ρ[id]?:=by
 let p:Place:=⟨v.ownBlock,el,size,MN v⟩
 have aL:H.length<ρ.length:=(List.getElem?_eq_some_iff.1 hρ).1
 have hF:(H++([d]++R)).set H.length (.row true xs)=(H++[.row true xs])++R:=by simp
 have fA:Same X w w':=⟨hg.size,fun b hb hx=>hg.block b hb (fun e=>hx (xV b e.symm))⟩
 have Cc:p.val xs.length=v:=HE gg
 have bS:=h.put (id:=H.length) (p:=p) (ob:= .row true xs) (row:=row) (w':=w') (by simp) (.inl hρ) hg xV
  (fun j q o g hj hq ho hr hb=>⟨q5 j q o g hj hq ho hr hb,by
   have h2:=(h.own j q o g hq ho hr hb).2;intro he;rcases kF g he with h3 | h3
   .omega
   exact q5 j q o g hj hq ho hr hb h3⟩)
  (fun g hg=>by
   rcases kF g hg with h3 | h3
   .exact .inl h3
   exact .inr (xV g h3.symm))
  (fun g pN=>⟨by
   rcases kF g pN with h3 | h3
   .left;have:=h.ge;omega
   exact Fm g h3.symm,(gg.lt g pN).2⟩)
  Fm
  ⟨⟨dW,aF,us,by rw[Cc];exact gg,fun i j x y hx hy=>by
   obtain⟨u,hu,hf⟩:=hcell i j x y hx hy;refine⟨u,hu,hf.mono fA (fun b hb hx=>?_)⟩;rcases hx with hx | hx
   .exact hx
   .rcases kF b hx with h3 | h3
    .omega
    exact xV b h3.symm⟩,
   fun g hg=>⟨fun _=> .inr hg,fun _=>rfl⟩⟩
 rw[hF] at bS
 refine⟨_,_,bS.2,bS.1,?_,fun id eD=>by rw[getElem?_set_ne (Ne.symm eD)]⟩
 have hp:(ρ.set H.length (some p))[H.length]?=some (some p):=by simp[aL]
 rcases gg.2 with⟨hv,hn⟩ | ⟨g,cap,cur,hv,_,_,mL,_⟩
 .rw[hv,hn]
  exact .lsl0 H.length p hp (by simp[p,hv,Value.ownBlock])
 rw[hv]
 have:=PRd.lsl (w:=w') (X:=fun b=>X b\/p.b=some b) (ρ:=ρ.set H.length (some p)) H.length 0 xs.length 0 g p hp (by simp[p,hv,Value.ownBlock]) (by simp[p,hv,MN];exact mL) (.inl (by simp))
 simpa [p,hv,MN] using this
theorem o7 {t:Nat} {i:TyI} (h:TyOk P t i) {w:World} {X:Nat->Prop} {ρ:Places}: ∃ ti z,P.info? t=some ti/\ti.size=i.size/\ti.bytes=i.bytes/\ti.zero=some z/\z.cells.size=i.size/\i.zero.length=i.size/\
 (∀ (j:Nat) u,z.cells[j]?=some u->u.oneCell'=true)/\ ∀ (j:Nat) u x,z.cells[j]?=some u->i.zero[j]?=some x->PRd w X ρ u x/\fN x=[]:=by
 obtain⟨ti,z,h1,h2,h3,h4,h5,h6,h7⟩:=h.info
 rw[vP] at h7
 have dh: ∀ (j:Nat) u,z.cells[j]?=some u->u.oneCell'=true:=fun j u hu=>h7 u (Array.mem_toList_iff.2 (Array.mem_of_getElem? hu))
 have q6: ∀ u:Value,fN (PV.ofCell u)=[]:=by
  intro u;unfold PV.ofCell;split<;>rfl
 have Nk:=h5
 refine⟨ti,z,h1,h2,h3,h4,h6,by rw[Nk];simp[h6],dh,fun j u x hu hx=>?_⟩
 rw[Nk,List.getElem?_map] at hx
 simp only[Array.getElem?_toList,hu,Option.map_some,qo] at hx
 subst hx
 exact⟨o5 u,q6 u⟩
theorem o8 {α:Type} {D:List α} (h:D.length=1): ∃ d,D=[d]:=by
 match D,h with
 | [d],_=>exact⟨d,rfl⟩
theorem OC (hT:cQ P T) (t:TypeId):EffOp P T (.alloc t):=by
 intro c w X ρ H D R o e ρv r ho h hD hρ au hc aF;simp only[cq] at au;split at au;rotate_left
 .cases au
 rename_i i hi;cases au;obtain⟨d,rfl⟩:=o8 (D:=D) (by simp at aF;omega);obtain⟨ti,z,fP,en,_,hz,vA,dJ,dh,hrd⟩:=o7 (hT _ _ hi) (w:=w) (X:=X) (ρ:=ρ);obtain⟨X',ρ',hs,hh,hp,gA⟩:=DA h (hD _ (qp _) (by simp)) t (us:=z.cells) (cs:=i.zero) (by omega) dh (fun j u x hu hx=>(hrd j u x hu hx).1);refine⟨_,_,X',ρ',.inl ?_,hs,hh,hp,fun id eD=>gA id (by simp at eD;omega)⟩;simp[execOp,ho,Instr.alloc,zeroValue,typeInfo,fP,hz,newVar,newRow]
theorem VM (t:TypeId) (x:Operand):EffOp P T (.box t x):=by
 intro c w X ρ H D R o e ρv r ho h hD hρ au hc aF;have hx:=hρ x (by simp[Op.operands]);simp only[cq] at au;split at au;rotate_left
 .cases au
 rename_i i hi;cases au;obtain⟨d,rfl⟩:=o8 (D:=D) (by simp at aF;omega);simp only at hc;obtain⟨fL,dh⟩:=tG hx (by omega);obtain⟨X',ρ',hs,hh,hp,gA⟩:=DA h (hD _ (qp _) (by simp)) t (us:=(e x).cells) (cs:=(ρv x).cells) fL dh (AP hx);refine⟨_,_,X',ρ',.inl ?_,hs,hh,hp,fun id eD=>gA id (by simp at eD;omega)⟩;simp[execOp,ho,Instr.box,newVar,newRow]
theorem sT (z:Array Value) (n i j:Nat) (hi:i<n) (hj:j<z.size):(madeCells z (n*z.size))[i*z.size+j]?=z[j]?:=by
 have aL:i*z.size+j<n*z.size:=by
  have h1:i+1<=n:=hi;have h2:(i+1)*z.size<=n*z.size:=qn _ h1;rw[Nat.add_mul] at h2;omega
 have Ik:(i*z.size+j) % z.size=j:=by
  rw[Nat.mul_comm,Nat.mul_add_mod,Nat.mod_eq_of_lt hj]
 unfold madeCells;rw[Array.getElem?_map,Array.getElem?_range,if_pos aL];simp[Ik,hj]
theorem B7 (hT:cQ P T) (t:TypeId) (l k:Operand):EffOp P T (.makeSlice t l k):=by
 intro c w X ρ H D R o e ρv r ho h hD hρ au hc aF;have hl:=hρ l (by simp[Op.operands]);have hk:=hρ k (by simp[Op.operands]);simp only[cq] at au;split at au;rotate_left
 .cases au
 rename_i i kl n kk m hi kf hkm;rw[kf] at hl;rw[hkm] at hk;have el:=hl.litInv;have ek:=hk.litInv;split at au;rotate_left
 .cases au
 rename_i el' l7;have hd:=(hT _ _ hi).desc;rw[l7] at hd;simp only[gq] at hd;split at au;rotate_left
 .cases au
 rename_i ie mO;split at au
 .rename_i Ix;cases au;obtain⟨d,rfl⟩:=o8 (D:=D) (by simp at aF;omega);obtain⟨h0,rfl,Zz,hm⟩:=hc;have Uj:ie.zero=[.nilsl]:=by
   unfold D2 at Ix;split at Ix
   .assumption
   cases Ix
  obtain⟨ti,z,fP,en,wS,hz,vA,dJ,dh,hrd⟩:=o7 (hT _ _ mO) (w:=w) (X:=X) (ρ:=ρ);have ab4:(ti.bytes:Int)*n<=281474976710656:=by
   rw[wS,Int.mul_comm];omega
  have dC:=run_make (P:=P) w t el' ti z hd fP hz kl kk n n h0 (by omega) ab4 (by omega);have ab5:ie.size=1:=by
   rw[Uj] at dJ;simpa using dJ.symm
  have hzc:z.cells.size=1:=by omega
  have WQ:z.cells[0]'(by omega)= .slice none 0 0:=by
   obtain⟨ib,_⟩:=hrd 0 (z.cells[0]'(by omega)) .nilsl (by simp[hzc]) (by rw[Uj];rfl);generalize z.cells[0]'(by omega)=u at ib;cases ib;rfl
  have cI: ∀ (i:Nat) u,(madeCells z.cells (n.toNat*ti.size))[i]?=some u->u= .slice none 0 0:=by
   intro i u hu;have hi:i<n.toNat:=by
    have:=(Array.getElem?_eq_some_iff.1 hu).1;rw[size_madeCells,en,ab5] at this;omega
   have h9:=sT z.cells n.toNat i 0 hi (by omega);rw[hzc] at h9;rw[en,ab5] at hu;simp only[Nat.mul_one,Nat.add_zero] at h9 hu;rw[h9] at hu;rw[Array.getElem?_eq_getElem (by omega)] at hu;cases hu;exact WQ
  have ahQ:=J2 (cs:=List.replicate n.toNat .nilsl) (us:=madeCells z.cells (n.toNat*ti.size)) h (hD _ (qp _) (by simp)) el' n.toNat (by rw[size_madeCells,en,ab5,qib];omega) (by simp)
   (fun i u hu=>by rw[cI i u hu];rfl) (fun i u x hu hx=>by
    rw[List.getElem?_replicate] at hx;split at hx
    .cases hx;rw[cI i u hu];exact .nilsl
    cases hx)
  obtain⟨X',ρ',hs,hh,hp,gA⟩:=ahQ;refine⟨_,_,X',ρ',.inl ?_,hs,hh,hp,fun id eD=>gA id (by simp at eD;omega)⟩;simp[execOp,ho,el,ek,dC]
 split at au;rotate_left
 .cases au
 rename_i zf hzf;split at au;rotate_left
 .cases au
 rename_i nu;cases au;obtain⟨d,rfl⟩:=o8 (D:=D) (by simp at aF;omega);obtain⟨h0,hnm,Zz,hm⟩:=hc;obtain⟨ti,z,fP,en,wS,hz,vA,dJ,dh,hrd⟩:=o7 (hT _ _ mO) (w:=w) (X:=X) (ρ:=ρ);have ab4:(ti.bytes:Int)*m<=281474976710656:=by
  rw[wS,Int.mul_comm];omega
 have dC:=run_make (P:=P) w t el' ti z hd fP hz kl kk n m h0 hnm ab4 (by omega);have gg:(w.alloc (.cells (madeCells z.cells (m.toNat*ti.size)) el')).ownsRow 0 el' ie.size (.slice (some ⟨w.heap.size,0,none⟩) n.toNat m.toNat) n.toNat
  ((madeCells z.cells (m.toNat*ti.size)).toList.take (n.toNat*ie.size)):=by
  have dP:n.toNat*ie.size<=m.toNat*ie.size:=qn _ (by omega)
  refine⟨by rw[length_take,Array.length_toList,size_madeCells,en,Nat.min_eq_left dP],.inr ⟨w.heap.size,m.toNat,_,rfl,dk _,heap_alloc_new w _,by omega,by simp only[maxLen];omega,by rw[size_madeCells,en],rfl⟩⟩
 have tU:=eF (xs:=List.replicate n.toNat zf) (size:=ie.size) (el:=el') (v:= .slice (some ⟨w.heap.size,0,none⟩) n.toNat m.toNat) (row:=none) h (hD _ (qp _) (by simp)) (World.grownBy_alloc w _ none) (by simp)
  (by simp) (by simp) nu.2 (by
   intro x hx;rw[List.mem_replicate] at hx;rw[hx.2];exact nu.1) (by simpa using gg) (by
   intro g hg;simp only[Value.ownBlock,qo] at hg;left;omega) (by
   intro i' j x y hx hy;rw[List.getElem?_replicate] at hx;split at hx
   .rename_i f0;cases hx;have hj:j<zf.length:=(List.getElem?_eq_some_iff.1 hy).1;have hjz:j<z.cells.size:=by omega
    have ss:j<ie.zero.length:=by omega
    obtain⟨y',DZ,PK⟩:=mD hzf j ie.zero[j] (by simp[ss]);rw[hy] at DZ;cases DZ;obtain⟨ib,iM⟩:=hrd j z.cells[j] ie.zero[j] (by simp[hjz]) (by simp[ss]);refine⟨z.cells[j],?_,m7 h bP ib PK (fun _ h=>h) (by rw[iM];simp)⟩;have aL:i'*ie.size+j<n.toNat*ie.size:=by
     have h2:(i'+1)*ie.size<=n.toNat*ie.size:=qn _ f0;rw[Nat.add_mul] at h2;omega
    rw[getElem?_take,if_pos aL,Array.getElem?_toList,en,<-vA,sT z.cells m.toNat i' j (by omega) hjz];simp[hjz]
   cases hx)
 obtain⟨X',ρ',hs,hh,hp,gA⟩:=tU;rw[qib] at hp;refine⟨_,_,X',ρ',.inl ?_,hs,hh,hp,fun id eD=>gA id (by simp at eD;omega)⟩;simp[execOp,ho,el,ek,dC]
end
end Go.AM
