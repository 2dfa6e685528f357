/- The abstract machine:the operations,one by one,where memory is not written. -/
import Derived.Test.YtiaaceeelfhdlaaGreatT3
import Derived.Lib.SliceRun
import Derived.ChangeKeysEq
import Derived.Test.YtiaaceeelfhdlaaGreatT1
set_option linter.all false
open List (getElem?_set_ne getElem?_take length_take)
namespace Go.AM
theorem PRd.litInv {w:World} {X:Nat->Prop} {ρ:Places} {u v:Value} (h:PRd w X ρ u (.fv (.lit v))):u=v:=by
 cases h with | fv _ _ h=>cases h;rfl
section
variable {P:Program} {T:Tab} {c:fR} {w:World} {X:Nat->Prop} {ρ:Places} {H R:List Ob} {o:Oper} {e:Operand->Value} {ρv:Operand->PV} {lo hi:Nat} {r:Res}
theorem tj (d:Nat) {t:TypeId} (hu:P.underlying t=some .bool) (a b:Bool):(Op.equalIn (d+1) t (.bool a) (.bool b)).run P w= .ok (a==b) w:=by
 simp[Op.equalIn,run_underlying hu]
def d4 (P:Program) (T:Tab) (op:Op):Prop:=
 ∀ {c:fR} {w:World} {X:Nat->Prop} {ρ:Places} {H F:List Ob} {o:Oper} {e:Operand->Value} {ρv:Operand->PV} {r:Res} {lo hi:Nat},
  o.op=op->HRd c w X ρ F->(∀ (j:Nat) o,H[j]?=some o->F[j]?=some o)->(∀ x∈op.operands,PRd w X ρ (e x) (ρv x))->aP T H ρv op=some r->r.cond->
  r.heap=H/\OpOK c w X ρ lo hi F ((execOp e o).run P w) r.val
theorem Fx (x:Operand):d4 P T (.move x):=by
 intro c w X ρ H F o e ρv r lo hi ho h hH hρ ao hc;simp only[aP,Res.pure,qo] at ao;subst ao;exact⟨rfl,OpOK.still (u:=e x) h (by simp[execOp,ho]) (hρ x (by simp[Op.operands]))⟩
theorem A7 (x:Operand):d4 P T (.assign x):=by
 intro c w X ρ H F o e ρv r lo hi ho h hH hρ ao hc;simp only[aP,Res.pure,qo] at ao;subst ao;exact⟨rfl,OpOK.still (u:=e x) h (by simp[execOp,ho]) (hρ x (by simp[Op.operands]))⟩
theorem Fy (x a b:Operand):d4 P T (.pick x a b):=by
 intro c w X ρ H F o e ρv r lo hi ho h hH hρ ao hc;have hx:=hρ x (by simp[Op.operands]);have ha:=hρ a (by simp[Op.operands]);have hb:=hρ b (by simp[Op.operands]);simp only[aP] at ao;split at ao
 .rename_i t ht;rw[ht] at hx;have he:=hx.litInv;simp only[Res.pure,qo] at ao;subst ao;refine⟨rfl,OpOK.still (u:=if t then e a else e b) h (by cases t<;>simp[execOp,ho,he,asBool]) ?_⟩;cases t<;>assumption
 cases ao
theorem wW (x:Operand):d4 P T (.nilCheck x):=by
 intro c w X ρ H F o e ρv r lo hi ho h hH hρ ao hc;have hx:=hρ x (by simp[Op.operands]);simp only[aP] at ao;split at ao
 .rename_i id j off ht;rw[ht] at hx;simp only[Res.pure,qo] at ao;subst ao;generalize hu:e x=u at hx;cases hx with
  | ptr id i off g p hp hg=>exact⟨rfl,OpOK.still h (by simp[execOp,ho,hu]) (.ptr id _ off g p hp hg)⟩
 .rename_i cs ht;rw[ht] at hx;simp only[Res.pure,qo] at ao;subst ao;generalize hu:e x=u at hx;cases hx with
  | fv _ _ hf=>
   cases hf with
   | fp ad cs us h0 hX hb hcell hrd=>exact⟨rfl,OpOK.still h (by simp[execOp,ho,hu]) (.fv _ _ (.fp ad cs us h0 hX hb hcell hrd))⟩
 cases ao
theorem zP: ∀ (cs:List PV) (ks:List Int),pq cs=some ks->cs=ks.map (fun n=> .fv (.lit (.int .i64 n)))
 | [],ks,h=>by simp[pq] at h;subst h;rfl
 | c::cs,ks,h=>by
  simp only[pq] at h;split at h
  .rename_i n ns h1 h2;cases h;rw[List.map_cons,<-zP cs ns h2];unfold PQ at h1;split at h1
   .cases h1;rfl
   cases h1
  cases h
theorem Dt {w:World} {X:Nat->Prop} {ρ:Places} {u:Value} {x:PV} {ks:List Int} (h:PRd w X ρ u x) (hk:i5 x=some ks):u= .agg (ks.map (Value.int .i64)).toArray:=by
 unfold i5 at hk;split at hk;rotate_left
 .cases hk
 have:=zP _ _ hk;subst this;cases h with
 | agg us _ hn h1 hr=>
  congr 1;apply Array.ext
  .simpa using hn
  intro i pJ gq;have:=hr i us[i] (.fv (.lit (.int .i64 (ks[i]'(by simpa using gq))))) (by simp[pJ]) (by simp at gq;simp[gq]);have h2:=this.litInv;rw[h2];simp
theorem lQ {w:World} {d el:Nat} (hu:P.underlying el=some (.int .i64)) (xs ys:List Int): ∀ is:List Nat,(∀ i∈is,i<xs.length/\i<ys.length)->
 (Op.eqItems (d+1) el 1 (xs.map (Value.int .i64)).toArray (ys.map (Value.int .i64)).toArray is).run P w= .ok (is.all fun i=>xs[i]?==ys[i]?) w
 | [],_=>by simp[Op.eqItems]
 | i::is,h=>by
  obtain⟨h1,h2⟩:=h i (by simp);have hp:P.plainKey el=true:=by simp[Program.plainKey,hu]
  have p1:=run_part_plain (P:=P) w hp (xs:=(xs.map (Value.int .i64)).toArray) (off:=i) (v:= .int .i64 xs[i]) (by simp[h1]);have p2:=run_part_plain (P:=P) w hp (xs:=(ys.map (Value.int .i64)).toArray) (off:=i) (v:= .int .i64 ys[i]) (by simp[h2]);have p3:=run_equalIn_int (P:=P) w d el .i64 .i64 xs[i] ys[i] hu;have hxi:xs[i]?=some xs[i]:=by simp[h1]
  have hyi:ys[i]?=some ys[i]:=by simp[h2]
  simp only[Op.eqItems,Sem.run_bind,Nat.mul_one,p1,p2,p3,Result.andThen_ok,List.all_cons,hxi,hyi];cases hb:(xs[i]==ys[i]) with
  | false=>
   have:(some xs[i]==some ys[i])=false:=hb;simp[this]
  | true=>
   have:(some xs[i]==some ys[i])=true:=hb;rw[this];simpa using lQ hu xs ys is (fun j hj=>h j (ql _ hj))
theorem Nz (hT:ck P T) {op:BinOp} {t:TypeId} {a b:PV} {r:Bool} (h:IC (T.arN t) op (i5 a) (i5 b)=some r):
 ∃ n el xs ys,P.underlying t=some (.array n el)/\P.underlying el=some (.int .i64)/\(∃ ti,P.info? el=some ti/\ti.size=1)/\i5 a=some xs/\i5 b=some ys/\xs.length=n/\ys.length=n/\
  ((op= .eql/\r=(xs==ys))\/(op= .neq/\r=!(xs==ys))):=by
 have key: ∀ n,T.arN t=some n-> ∃ el,P.underlying t=some (.array n el)/\P.underlying el=some (.int .i64)/\(∃ ti,P.info? el=some ti/\ti.size=1):=by
  intro n hn;unfold Tab.arN at hn;split at hn;rotate_left
  .cases hn
  rename_i i hi;have hd:=(hT t i hi).desc;split at hn;rotate_left
  .cases hn
  rename_i cF;rw[cF] at hd;split at hn;rotate_left
  .cases hn
  rename_i ie iZ;split at hn;rotate_left
  .cases hn
  rename_i KK;cases hn;rw[hG,beq_iff_eq] at KK;obtain⟨KK,dh⟩:=KK;have hde:=(hT _ _ iZ).desc;unfold Lb at KK;split at KK;rotate_left
  .cases KK
  rename_i hed;rw[hed] at hde;refine⟨_,hd,hde,?_⟩;obtain⟨ti,z,h1,h2,_⟩:=(hT _ _ iZ).info;exact⟨ti,h1,h2.trans dh⟩
 unfold IC at h
 split at h
 .rename_i n xs ys hn hx hy
  split at h
  .rename_i hl
   cases h
   obtain⟨el,k1,k2,k3⟩:=key _ hn
   exact⟨_,el,xs,ys,k1,k2,k3,hx,hy,hl.1,hl.2,.inl ⟨rfl,rfl⟩⟩
  cases h
 .rename_i n xs ys hn hx hy
  split at h
  .rename_i hl
   cases h
   obtain⟨el,k1,k2,k3⟩:=key _ hn
   exact⟨_,el,xs,ys,k1,k2,k3,hx,hy,hl.1,hl.2,.inr ⟨rfl,rfl⟩⟩
  cases h
 cases h
theorem wX (hT:ck P T) (op:BinOp) (t:TypeId) (x y:Operand) (t':TypeId) {w:World} {X:Nat->Prop} {ρ:Places} {H:List Ob} {o:Oper} {e:Operand->Value} {ρv:Operand->PV} {r:Res}
 (ho:o.op= .binOp op t x y t') (hx:PRd w X ρ (e x) (ρv x)) (hy:PRd w X ρ (e y) (ρv y)) (ao:aP T H ρv (.binOp op t x y t')=some r) (hc:r.cond):
 r.heap=H/\ ∃ u,(execOp e o).run P w= .ok (.value u) w/\PRd w X ρ u r.val:=by
 simp only[aP] at ao
 split at ao
 .rename_i cd v hb
  simp only[Res.if,qo] at ao
  subst ao
  unfold EM at hb
  split at hb
  .rename_i k a k' b h1 h2
   rw[h1] at hx;rw[h2] at hy
   have ex:=hx.litInv
   have ey:=hy.litInv
   have key:(binOp op t (.int k a) (.int k' b)).run P w= .ok v w/\v.oneCell'=true:=by
    split at hb
    .simp only[k9,qo,Prod.mk.injEq] at hb;obtain⟨rfl,rfl⟩:=hb;have jV: ¬b<0:=by simp only at hc;omega
     simp[binOp,Op.shift,jV,Value.oneCell']
    .simp only[k9,qo,Prod.mk.injEq] at hb;obtain⟨rfl,rfl⟩:=hb;have jV: ¬b<0:=by simp only at hc;omega
     simp[binOp,Op.shift,jV,Value.oneCell']
    split at hb
    .rename_i hk;subst hk;exact JN hb hc t
    cases hb
   refine⟨rfl,_,?_,(.fv _ _ (.lit v key.2))⟩
   simp[execOp,ho,ex,ey,uM,key.1]
  .rename_i a b h1 h2
   rw[h1] at hx;rw[h2] at hy
   have ex:=hx.litInv
   have ey:=hy.litInv
   split at hb
   .cases hb
   rename_i sb
   have hu:P.underlying t=some .bool:=by
    unfold Tab.isBool at sb;split at sb
    .rename_i i hi;have hd:=(hT t i hi).desc;split at sb
     .rename_i cF;rw[cF] at hd;exact hd
     simp at sb
    simp at sb
   have heq:(Op.equal t (.bool a) (.bool b)).run P w= .ok (a==b) w:=by
    unfold Op.equal;exact tj 9999 hu a b
   split at hb
   .simp only[qo,Prod.mk.injEq] at hb
    obtain⟨rfl,rfl⟩:=hb
    refine⟨rfl,_,?_,(.fv _ _ (.lit _ rfl))⟩
    simp[execOp,ho,ex,ey,lP,binOp,heq]
   .simp only[qo,Prod.mk.injEq] at hb
    obtain⟨rfl,rfl⟩:=hb
    refine⟨rfl,_,?_,(.fv _ _ (.lit _ rfl))⟩
    simp[execOp,ho,ex,ey,lP,binOp,heq]
   cases hb
  cases hb
 split at ao
 .rename_i b hb
  split at ao
  .rename_i sd
   simp only[Res.pure,qo] at ao
   subst ao
   have hu: ∃ el,P.underlying t=some (.slice el):=by
    unfold Tab.isSl at sd;split at sd
    .rename_i i hi;have hd:=(hT t i hi).desc;split at sd
     .rename_i el cF;rw[cF] at hd;exact⟨el,hd⟩
     simp at sd
    simp at sd
   obtain⟨el,hu⟩:=hu
   have key: ∃ a n cp,e x= .slice a n cp/\e y= .slice none 0 0/\((op= .eql/\b=a.isNone)\/(op= .neq/\b=!a.isNone)):=by
    unfold La at hb;split at hb<;>first | (cases hb;done) | skip
    all_goals
     rename_i h1 h2 _;rw[h1] at hx;rw[h2] at hy;have ey:e y= .slice none 0 0:=by
      generalize e y=u at hy;cases hy;rfl
     simp only[qo] at hb
     first
     | exact⟨_,_,_,hx.litInv,ey,.inl ⟨rfl,hb.symm⟩⟩
     | exact⟨_,_,_,hx.litInv,ey,.inr ⟨rfl,hb.symm⟩⟩
     | (generalize e x=u at hx;cases hx;first | exact⟨_,_,_,rfl,ey,.inl ⟨rfl,hb.symm⟩⟩ | exact⟨_,_,_,rfl,ey,.inr ⟨rfl,hb.symm⟩⟩)
     | (generalize e x=u at hx;cases hx;rename_i hf;cases hf;first | exact⟨_,_,_,rfl,ey,.inl ⟨rfl,hb.symm⟩⟩ | exact⟨_,_,_,rfl,ey,.inr ⟨rfl,hb.symm⟩⟩)
   obtain⟨a,n,cp,ex,ey,Po⟩:=key
   refine⟨rfl,_,?_,(.fv _ _ (.lit _ rfl))⟩
   rcases Po with⟨rfl,rfl⟩ | ⟨rfl,rfl⟩
   .simp[execOp,ho,ex,ey,eqGuard,Lib.run_eql_slice_nil w t el a n cp 0 0 hu]
   have hq:(binOp .neq t (.slice a n cp) (.slice none 0 0)).run P w= .ok (.bool (!a.isNone)) w:=by
    simp only[binOp];simp[Op.equal,Op.maxDepth,Lib.run_equalIn_slice_nil w 9999 t el a n cp 0 0 hu]
   simp[execOp,ho,ex,ey,eqGuard,hq]
  cases ao
 split at ao
 .rename_i b hb
  simp only[Res.pure,qo] at ao
  subst ao
  obtain⟨n,el,xs,ys,hu,kQ,eN,hkx,R_,hlx,hly,Po⟩:=Nz hT hb
  have ex:=Dt hx hkx
  have ey:=Dt hy R_
  obtain⟨ti,eN,dD⟩:=eN
  have heq:(Op.equalIn 10000 t (.agg (xs.map (Value.int .i64)).toArray) (.agg (ys.map (Value.int .i64)).toArray)).run P w= .ok (xs==ys) w:=by
   rw[run_equalIn_array w 9999 _ _ hu eN];have hce:P.cellsOf el=1:=by simp[Program.cellsOf,eN,dD]
   rw[hce,lQ kQ xs ys (List.range n) (fun i hi=>by have:=List.mem_range.1 hi;omega)];congr 1;rw[Bool.eq_iff_iff];simp only[nF,List.mem_range,beq_iff_eq];constructor
   .intro h;apply List.ext_getElem?;intro i;by_cases hi:i<n
    .exact h i hi
    rw[List.getElem?_eq_none (by omega),List.getElem?_eq_none (by omega)]
   intro h i _;rw[h]
  have BT: ∀ op',(eqGuard op' t x y (.agg (xs.map (Value.int .i64)).toArray) (.agg (ys.map (Value.int .i64)).toArray)).run P w= .ok () w:=fun op'=>by
   refine run_eqGuard_agg w op' t x y _ _ ?_;unfold Program.depth;rw[show 2*(P.types.size+Made.depth)+2=(2*(P.types.size+Made.depth)+1)+1 from rfl];simp only[Program.eqGuardType,hu,kQ]
  refine⟨rfl,_,?_,(.fv _ _ (.lit _ rfl))⟩
  rcases Po with⟨rfl,rfl⟩ | ⟨rfl,rfl⟩
  .simp only[execOp,ho,ex,ey,Sem.run_bind,BT,Result.andThen_ok,run_eql_struct,heq]
   rfl
  simp only[execOp,ho,ex,ey,Sem.run_bind,BT,Result.andThen_ok,run_neq_struct,heq]
  rfl
 cases ao
theorem Du (hT:ck P T) (op:BinOp) (t:TypeId) (x y:Operand) (t':TypeId):d4 P T (.binOp op t x y t'):=by
 intro c w X ρ H F o e ρv r lo hi ho h hH hρ ao hc;obtain⟨h1,u,h2,h3⟩:=wX hT op t x y t' ho (hρ x (by simp[Op.operands])) (hρ y (by simp[Op.operands])) ao hc;exact⟨h1,OpOK.still h h2 h3⟩
theorem Fz (op:UnOp) (t:TypeId) (x:Operand):d4 P T (.unOp op t x):=by
 intro c w X ρ H F o e ρv r lo hi ho h hH hρ ao hc;have hx:=hρ x (by simp[Op.operands]);simp only[aP] at ao;split at ao
 .rename_i v hv;simp only[Res.pure,qo] at ao;subst ao;unfold Yh at hv;split at hv
  all_goals first | (cases hv;done) | skip
  all_goals
   rename_i h1;rw[h1] at hx;have ex:=hx.litInv;simp only[qo] at hv;subst hv;refine⟨rfl,OpOK.still h ?_ (.fv _ _ (.lit _ rfl))⟩;simp[execOp,ho,ex,Op.unary,Op.intArith,Op.intBits]
 cases ao
theorem yp (hT:ck P T) (src dst:TypeId) (x:Operand):d4 P T (.convert src dst x):=by
 intro c w X ρ H F o e ρv r lo hi ho h hH hρ ao hc;have hx:=hρ x (by simp[Op.operands]);simp only[aP] at ao;split at ao
 .rename_i i j k n hi hj hv;rw[hv] at hx;have ex:=hx.litInv;split at ao
  .rename_i k1 k2 Py Pt;have u1:=(hT _ _ hi).desc;have u2:=(hT _ _ hj).desc;rw[Py] at u1;rw[Pt] at u2;simp only[fm] at u1 u2;simp only[Res.pure,qo] at ao;subst ao;refine⟨rfl,OpOK.still h ?_ (.fv _ _ (.lit _ rfl))⟩;simp[execOp,ho,ex,convert,run_underlying u1,run_underlying u2,Conv.intToInt]
  cases ao
 cases ao
theorem yq (x:Operand) (ix:Nat):d4 P T (.extract x ix):=by
 intro c w X ρ H F o e ρv r lo hi ho h hH hρ ao hc;have hx:=hρ x (by simp[Op.operands]);simp only[aP] at ao;split at ao
 .rename_i vs hv;rw[hv] at hx;split at ao
  .rename_i v dT;simp only[Res.pure,qo] at ao;subst ao;generalize hu:e x=u at hx;cases hx with
   | tup us _ hn hr=>
    have aG:ix<us.size:=by rw[hn];exact(List.getElem?_eq_some_iff.1 dT).1
    refine⟨rfl,OpOK.still h (u:=us[ix]) ?_ (hr ix _ _ (Array.getElem?_eq_getElem aG) dT)⟩;simp[execOp,ho,hu,Instr.extract,Array.getElem?_eq_getElem aG]
  cases ao
 cases ao
end
end Go.AM
namespace Go.AM
theorem gZ (g k n:Nat):(⟨g,k,none⟩:Addr).add n=⟨g,k+n,none⟩:=by unfold Addr.add;split<;>simp_all
theorem gD {a:Addr} (h:a.spot=none) (n:Nat):a.add n=⟨a.block,a.off+n,none⟩:=by
 obtain⟨g,k,s⟩:=a;simp only at h;subst h;exact gZ g k n
theorem PRd.lslInv {w:World} {X:Nat->Prop} {ρ:Places} {v:Value} {id off len s:Nat} (h:PRd w X ρ v (.lsl id off len s)):
 ∃ p,ρ[id]?=some (some p)/\p.size=s/\((p.b=none/\v= .slice none 0 0/\off=0/\len=0)\/
  ∃ g o,p.b=some g/\v= .slice (some ⟨g,o,none⟩) len (p.cap - off)/\off+len<=p.cap/\(o=off*p.size\/(off=p.cap/\off≠0))):=by
 generalize yA:PV.lsl id off len s=pv at h
 cases h
 case lsl0 p hp hg=>
  injection yA with h1 h2 h3 h4
  subst h1 h2 h3 h4;exact⟨p,by assumption,rfl,.inl ⟨by assumption,rfl,rfl,rfl⟩⟩
 case lsl=>
  injection yA with h1 h2 h3 h4
  subst h1 h2 h3 h4;exact⟨_,by assumption,rfl,.inr ⟨_,_,by assumption,rfl,by assumption,by assumption⟩⟩
 all_goals cases yA
section
variable {P:Program} {T:Tab}
theorem uN (hT:ck P T) (t:TypeId) (x:Operand) (f:Nat):d4 P T (.fieldAddr t x f):=by
 intro c w X ρ H F o e ρv r lo hi ho h hH hρ ao hc;have hx:=hρ x (by simp[Op.operands]);simp only[aP] at ao;split at ao;rotate_left
 .cases ao
 rename_i i hi;split at ao;rotate_left
 .cases ao
 rename_i fs xM;have hd:=(hT _ _ hi).desc;rw[xM] at hd;obtain⟨ffs,hu,dh,Gx⟩:=hd;split at ao
 .rename_i fd id j off xK hv;rw[hv] at hx;simp only[Res.pure,qo] at ao;subst ao;have aG:f<ffs.size:=by rw[dh];exact(List.getElem?_eq_some_iff.1 xK).1
  obtain⟨h_,gg,ti,d,eN,dD,_,_⟩:=Gx f _ _ (Array.getElem?_eq_getElem aG) xK;generalize kQ:e x=u at hx;cases hx with
  | ptr id i off g p hp hg=>
   refine⟨rfl,OpOK.still h (u:= .pointer (some ⟨g,j*p.size+(off+fd.off),none⟩)) ?_ (.ptr id j _ g p hp hg)⟩;simp[execOp,ho,kQ,Instr.fieldAt,run_underlying hu,Array.getElem?_eq_getElem aG,Instr.sureAddr,fieldPlace,sizeOf,typeInfo,eN,show¬ti.size=0 by omega,gZ,h_];omega
 .rename_i fd cs xK hv;rw[hv] at hx;simp only[Res.if,qo] at ao;subst ao;have aG:f<ffs.size:=by rw[dh];exact(List.getElem?_eq_some_iff.1 xK).1
  obtain⟨h_,gg,ti,d,eN,dD,_,_⟩:=Gx f _ _ (Array.getElem?_eq_getElem aG) xK;generalize kQ:e x=u at hx;cases hx with
  | fv _ _ hf=>
   cases hf with
   | fp ad cs us h0 hX hb hcell hrd=>
    refine⟨rfl,OpOK.still h (u:= .pointer (some ⟨ad.block,ad.off+fd.off,none⟩)) ?_ (.fv _ _ (.fp _ _ (fun j=>us (fd.off+j)) rfl hX hb (fun j y hy=>?_) (fun j y hy=>?_)))⟩
    .simp[execOp,ho,kQ,Instr.fieldAt,run_underlying hu,Array.getElem?_eq_getElem aG,Instr.sureAddr,fieldPlace,sizeOf,typeInfo,eN,show¬ti.size=0 by omega,gD h0,h_]
    .rw[List.getElem?_drop] at hy;simp only[Nat.add_assoc];exact hcell _ y hy
    rw[List.getElem?_drop] at hy;exact hrd _ y hy
 cases ao
theorem NA {w:World} {X:Nat->Prop} {ρ:Places} {s id k g:Nat} {o:Option Ob} {p:Place} (hs:p.size=s) (hp:ρ[id]?=some (some p)) (hg:p.b=some g):PRd w X ρ (.pointer (some ⟨g,k*p.size+0,none⟩)) (B1 s o id k):=by
 unfold B1;split
 .split
  .rename_i h1;have:k*p.size+0=0*p.size+k:=by rw[hs,h1];omega
   rw[this];exact .ptr id 0 k g p hp hg
  exact .any _
 exact .ptr id k 0 g p hp hg
theorem uO (hT:ck P T) (t:TypeId) (x ix:Operand):d4 P T (.indexAddr t x ix):=by
 intro c w X ρ H F o e ρv r lo hi ho h hH hρ ao hc;have hx:=hρ x (by simp[Op.operands]);have hix:=hρ ix (by simp[Op.operands]);simp only[aP] at ao;split at ao;rotate_left
 .cases ao
 rename_i i n hi hn;have hk: ∃ k,e ix= .int k n:=by
  unfold PV.asInt at hn;split at hn
  .rename_i k m hm;cases hn;rw[hm] at hix;exact⟨k,hix.litInv⟩
  cases hn
 obtain⟨k,KL⟩:=hk;have hd:=(hT _ _ hi).desc;split at ao
 .rename_i el nL;rw[nL] at hd;simp only[fm] at hd;split at ao
  .rename_i ie id off len s iZ hv;rw[hv] at hx;obtain⟨ti,z,eN,dD,_⟩:=(hT _ _ iZ).info;split at ao
   .rename_i hs;simp only[Res.if,qo] at ao;subst ao;simp only at hc;subst hs;generalize kQ:e x=u at hx;obtain⟨p,hp,qR,h3 | ⟨g,og,hg,rfl,hl,jE⟩⟩:=hx.lslInv
    .omega
    have Iq:og=off*p.size:=by
     rcases jE with jE | jE
     .exact jE
     omega
    subst Iq;refine⟨rfl,OpOK.still h (u:= .pointer (some ⟨g,(off+n.toNat)*p.size+0,none⟩)) ?_ (NA qR hp hg)⟩;have h1:0<=n/\n<(len:Int):=hc;simp[execOp,ho,kQ,KL,Instr.indexAt,asIntOf,run_underlying hd,h1,sizeOf,typeInfo,eN,dD,qR,gZ,Nat.add_mul]
   cases ao
  .rename_i ie xs iZ hv;rw[hv] at hx;obtain⟨ti,z,eN,dD,_⟩:=(hT _ _ iZ).info;simp only[Res.if,qo] at ao;subst ao;obtain⟨h0,aG,aA,cY⟩:=hc;have lY:n.toNat<xs.length:=by omega
   generalize kQ:e x=u at hx;cases hx with
   | fv _ _ hf=>
    cases hf with
    | nil=>simp at lY
    | sl ad m cap s xs us hn' tH hs XY hX hb hcell hrd=>
     have hg:xs[n.toNat]?=some (xs.getD n.toNat []):=by simp[lY]
     have hse:s=ie.size:=by rw[<-aA];exact(hs _ (List.mem_of_getElem? hg)).symm
     refine⟨rfl,OpOK.still h (u:= .pointer (some ⟨ad.block,ad.off+n.toNat*ie.size,none⟩)) ?_ (.fv _ _ (.fp _ _ (fun j=>us n.toNat j) rfl (hX (by omega)) (hb (by omega)) (fun j y hy=>?_) (fun j y hy=>?_)))⟩
     .have h1:0<=n/\n<(m:Int):=by omega
      simp[execOp,ho,kQ,KL,Instr.indexAt,asIntOf,run_underlying hd,h1,sizeOf,typeInfo,eN,dD,gD XY]
     .have:=hcell n.toNat j _ y hg hy;rw[hse,<-Nat.add_assoc] at this;exact this
     exact hrd n.toNat j _ y hg hy
  .rename_i ie xs iZ hv;rw[hv] at hx;obtain⟨ti,z,eN,dD,_⟩:=(hT _ _ iZ).info;simp only[Res.if,qo] at ao;subst ao;obtain⟨h0,aG,aA,cY⟩:=hc;have lY:n.toNat<xs.length:=by omega
   generalize kQ:e x=u at hx;cases hx with
   | clip a m _ hf=>
    cases hf with
    | nil=>simp at lY
    | sl ad _ cap s xs us hn' tH hs XY hX hb hcell hrd=>
     have hg:xs[n.toNat]?=some (xs.getD n.toNat []):=by simp[lY]
     have hse:s=ie.size:=by rw[<-aA];exact(hs _ (List.mem_of_getElem? hg)).symm
     refine⟨rfl,OpOK.still h (u:= .pointer (some ⟨ad.block,ad.off+n.toNat*ie.size,none⟩)) ?_ (.fv _ _ (.fp _ _ (fun j=>us n.toNat j) rfl (hX (by omega)) (hb (by omega)) (fun j y hy=>?_) (fun j y hy=>?_)))⟩
     .have h1:0<=n/\n<(m:Int):=by omega
      simp[execOp,ho,kQ,KL,Instr.indexAt,asIntOf,run_underlying hd,h1,sizeOf,typeInfo,eN,dD,gD XY]
     .have:=hcell n.toNat j _ y hg hy;rw[hse,<-Nat.add_assoc] at this;exact this
     exact hrd n.toNat j _ y hg hy
  cases ao
 .rename_i kk el nL;rw[nL] at hd;simp only[fm] at hd;split at ao
  .rename_i ie id j off iZ hv;rw[hv] at hx;obtain⟨ti,z,eN,dD,_⟩:=(hT _ _ iZ).info;split at ao;rotate_left
   .cases ao
   rename_i oB;simp only[Res.if,qo] at ao;subst ao;generalize kQ:e x=u at hx;cases hx with
   | ptr id i off g p hp hg=>
    have h1:0<=n/\n<(kk:Int):=hc;refine⟨rfl,OpOK.still h (u:= .pointer (some ⟨g,j*p.size+(off+n.toNat*ie.size),none⟩)) ?_ (.ptr id j _ g p hp hg)⟩;simp[execOp,ho,kQ,KL,Instr.indexAt,Instr.sureAddr,asIntOf,run_underlying hd,h1,sizeOf,typeInfo,eN,dD,gZ];omega
  .rename_i ie cs iZ hv;rw[hv] at hx;obtain⟨ti,z,eN,dD,_⟩:=(hT _ _ iZ).info;split at ao;rotate_left
   .cases ao
   rename_i oB;simp only[Res.if,qo] at ao;subst ao;obtain⟨h0n,hnk,dh,cY⟩:=hc;generalize kQ:e x=u at hx;cases hx with
   | fv _ _ hf=>
    cases hf with
    | fp ad cs us h0 hX hb hcell hrd=>
     have h1:0<=n/\n<(kk:Int):=⟨h0n,hnk⟩;refine⟨rfl,OpOK.still h (u:= .pointer (some ⟨ad.block,ad.off+n.toNat*ie.size,none⟩)) ?_ (.fv _ _ (.fp _ _ (fun j=>us (n.toNat*ie.size+j)) rfl hX hb (fun j y hy=>?_) (fun j y hy=>?_)))⟩
     .simp[execOp,ho,kQ,KL,Instr.indexAt,Instr.sureAddr,asIntOf,run_underlying hd,h1,sizeOf,typeInfo,eN,dD,gD h0]
     .rw[List.getElem?_drop] at hy;simp only[Nat.add_assoc];exact hcell _ y hy
     rw[List.getElem?_drop] at hy;exact hrd _ y hy
  cases ao
 cases ao
end
end Go.AM
namespace Go.AM
section
variable {P:Program} {T:Tab}
theorem r6 (hT:ck P T) {t:TypeId} {i:TyI} (hi:T.at t=some i) {w:World} {X:Nat->Prop} {ρ:Places} {ad:Addr} (h0:ad.spot=none) {us:Nat->Value} {cs:List PV}
 (hn:cs.length=i.size) (hcell: ∀ (j:Nat) y,cs[j]?=some y->w.cell? ⟨ad.block,ad.off+j,none⟩=some (us j)) (h1: ∀ (j:Nat) y,cs[j]?=some y->(us j).oneCell'=true)
 (hrd: ∀ (j:Nat) y,cs[j]?=some y->PRd w X ρ (us j) y) {v:PV} (hv:ig i cs=some v):
 ∃ u,(loadVar t ad).run P w= .ok u w/\PRd w X ρ u v:=by
 obtain⟨ti,z,eN,dD,_⟩:=(hT _ _ hi).info
 have ph:=(hT _ _ hi).agg (w:=w)
 unfold ig at hv
 split at hv
 .rename_i jx
  cases hv
  have hl:(loadCells ad i.size).run P w= .ok ((List.range i.size).map us).toArray w:=run_loadCells w ad i.size us (fun j hj=>by
   rw[gD h0];exact hcell j cs[j] (by simp[hn,hj]))
  refine⟨.agg ((List.range i.size).map us).toArray,?_,.agg _ _ (by simp[hn]) (fun j u hu=>?_) (fun j u y hu hy=>?_)⟩
  .simp[loadVar,ph,jx,sizeOf,typeInfo,eN,dD,hl]
  .have aG:j<i.size:=by simpa using(Array.getElem?_eq_some_iff.1 hu).1
   simp[aG] at hu
   subst hu
   exact h1 j cs[j] (by simp[hn,aG])
  have aG:j<i.size:=by simpa using(Array.getElem?_eq_some_iff.1 hu).1
  simp[aG] at hu
  subst hu
  exact hrd j y hy
 rename_i jx
 split at hv
 .rename_i hs
  cases hv
  have aG:0<cs.length:=by omega
  have hg:cs[0]?=some (cs.headD .any):=by cases cs<;>simp at aG ⊢
  have hc:=hcell 0 _ hg
  have had:ad=⟨ad.block,ad.off+0,none⟩:=by
   obtain⟨b,f,s⟩:=ad;simp only at h0;subst h0;rfl
  refine⟨us 0,?_,hrd 0 _ hg⟩
  simp only[Bool.not_eq_true] at jx
  rw[<-had] at hc
  simp[loadVar,ph,jx,run_load,hc]
 cases hv
theorem FA (hT:ck P T) (t:TypeId) (x:Operand):d4 P T (.load t x):=by
 intro c w X ρ H F o e ρv r lo hi ho h hH hρ ao hc;have hx:=hρ x (by simp[Op.operands]);simp only[aP] at ao;split at ao;rotate_left
 .cases ao
 rename_i i hi;split at ao
 .rename_i id j off hv;rw[hv] at hx;split at ao;rotate_left
  .cases ao
  rename_i cd cs f_;split at ao;rotate_left
  .cases ao
  rename_i v eA;simp only[Res.if,qo] at ao;subst ao;simp only at hc;generalize kQ:e x=u at hx;cases hx with
  | ptr _ _ _ g p hp hg=>
   unfold ee at f_;split at f_
   .rename_i rw xs fr;simp only[qo,Prod.mk.injEq] at f_;obtain⟨rfl,rfl⟩:=f_;obtain⟨nC,KM⟩:=hc;obtain⟨⟨cY,aA,us,gf,hcell⟩,_⟩:=h.ob id p _ hp (hH id _ fr);have Su:xs[j]?=some (xs.getD j []):=by simp[nC]
    have eP:World.ownsRow w 0 p.e p.size (.slice (some ⟨g,0,none⟩) xs.length p.cap) xs.length us:=by simpa [Place.val,hg] using gf
    have k4:(((xs.getD j []).drop off).take i.size).length=i.size:=by simp only[length_take,qt];omega
    have cg: ∀ (k:Nat) y,((((xs.getD j []).drop off).take i.size).map PV.fv)[k]?=some y-> ∃ z u,y= .fv z/\us[j*p.size+(off+k)]?=some u/\FRd w X u z:=by
     intro k y hy;rw[List.getElem?_map,Option.map_eq_some_iff] at hy;obtain⟨z,hz,rfl⟩:=hy;rw[getElem?_take] at hz;split at hz
     .rw[List.getElem?_drop] at hz;obtain⟨u,hu,sA⟩:=hcell j (off+k) _ z Su hz;exact⟨z,u,rfl,hu,sA⟩
     cases hz
    obtain⟨u,cL,hrd⟩:=r6 hT hi (w:=w) (X:=X) (ρ:=ρ) (ad:=⟨g,j*p.size+off,none⟩) rfl (us:=fun k=>us.getD (j*p.size+(off+k)) undef) (by simpa using k4)
     (fun k y hy=>by
      obtain⟨z,u,_,hu,_⟩:=cg k y hy;have:=eP.cells (g:=g) rfl _ u hu;rw[gZ,Nat.zero_add] at this;simp only[qa,hu,Option.getD_some,Nat.add_assoc];exact this)
     (fun k y hy=>by
      obtain⟨z,u,_,hu,sA⟩:=cg k y hy;simp only[qa,hu,Option.getD_some];exact sA.one)
     (fun k y hy=>by
      obtain⟨z,u,rfl,hu,sA⟩:=cg k y hy;simp only[qa,hu,Option.getD_some];exact .fv _ _ sA) eA
    exact⟨rfl,OpOK.still h (by simp[execOp,ho,kQ,Instr.loadAt,Instr.sureAddr,cL]) hrd⟩
   .rename_i rw bs fr;simp only[qo,Prod.mk.injEq] at f_;obtain⟨rfl,rfl⟩:=f_;obtain⟨rfl,KM⟩:=hc;obtain⟨⟨g',us,kP,hh,dh,h1,hcell⟩,_⟩:=h.ob id p _ hp (hH id _ fr);rw[hg] at kP;cases kP;have k4:((bs.drop off).take i.size).length=i.size:=by simp only[length_take,qt];omega
    have cg: ∀ (k:Nat) y,((bs.drop off).take i.size)[k]?=some y-> ∃ u,us[off+k]?=some u/\PRd w X ρ u y:=by
     intro k y hy;rw[getElem?_take] at hy;split at hy
     .rw[List.getElem?_drop] at hy;have aG:off+k<us.size:=by rw[dh];exact(List.getElem?_eq_some_iff.1 hy).1
      exact⟨us[off+k],Array.getElem?_eq_getElem aG,hcell _ _ _ (Array.getElem?_eq_getElem aG) hy⟩
     cases hy
    obtain⟨u,cL,hrd⟩:=r6 hT hi (w:=w) (X:=X) (ρ:=ρ) (ad:=⟨g,off,none⟩) rfl (us:=fun k=>us.getD (off+k) undef) k4
     (fun k y hy=>by
      obtain⟨u,hu,_⟩:=cg k y hy;rw[cell_of_row w g _ us _ _ hh];simp only[Array.getD_eq_getD_getElem?,hu,Option.getD_some])
     (fun k y hy=>by
      obtain⟨u,hu,_⟩:=cg k y hy;simp only[Array.getD_eq_getD_getElem?,hu,Option.getD_some];exact h1 _ _ hu)
     (fun k y hy=>by
      obtain⟨u,hu,sA⟩:=cg k y hy;simp only[Array.getD_eq_getD_getElem?,hu,Option.getD_some];exact sA) eA
    exact⟨rfl,OpOK.still h (by simp[execOp,ho,kQ,Instr.loadAt,Instr.sureAddr,cL]) hrd⟩
   cases f_
 .rename_i cs hv;rw[hv] at hx;split at ao;rotate_left
  .cases ao
  rename_i v eA;simp only[Res.if,qo] at ao;subst ao;simp only at hc;generalize kQ:e x=u at hx;cases hx with
  | fv _ _ hf=>
   cases hf with
   | fp ad cs us h0 hX hb hcell hrd=>
    have cg: ∀ (k:Nat) y,((cs.take i.size).map PV.fv)[k]?=some y-> ∃ z,y= .fv z/\cs[k]?=some z:=by
     intro k y hy;rw[List.getElem?_map,Option.map_eq_some_iff] at hy;obtain⟨z,hz,rfl⟩:=hy;rw[getElem?_take] at hz;split at hz
     .exact⟨z,rfl,hz⟩
     cases hz
    obtain⟨u,cL,hrd⟩:=r6 hT hi (w:=w) (X:=X) (ρ:=ρ) (ad:=ad) h0 (us:=us) (by simp;omega)
     (fun k y hy=>by obtain⟨z,_,hz⟩:=cg k y hy;exact hcell k z hz)
     (fun k y hy=>by obtain⟨z,_,hz⟩:=cg k y hy;exact(hrd k z hz).one)
     (fun k y hy=>by obtain⟨z,rfl,hz⟩:=cg k y hy;exact .fv _ _ (hrd k z hz)) eA
    exact⟨rfl,OpOK.still h (by simp[execOp,ho,kQ,Instr.loadAt,Instr.sureAddr,cL]) hrd⟩
 cases ao
theorem Q5 {t:TypeId} {ti:TypeInfo} {d:TypeDesc} (eN:P.info? t=some ti) (hd:P.underlying t=some d) {w:World} {X:Nat->Prop} {ρ:Places} {us:Array Value} {cs:List PV} {off:Nat}
 (hn:us.size=cs.length) (h1: ∀ (i:Nat) u,us[i]?=some u->u.oneCell'=true) (hr: ∀ (i:Nat) u c,us[i]?=some u->cs[i]?=some c->PRd w X ρ u c):
 (th d=true->off+ti.size<=cs.length-> ∃ u,(part t us off).run P w= .ok u w/\PRd w X ρ u (.agg ((cs.drop off).take ti.size)))/\
 (th d=false->off<cs.length-> ∃ u,(part t us off).run P w= .ok u w/\PRd w X ρ u (cs.getD off .any)):=by
 have ph:=iE (P:=P) (w:=w) hd
 constructor
 .intro ha hl
  refine⟨.agg (us.extract off (off+ti.size)),by simp[part,ph,ha,sizeOf,typeInfo,eN],.agg _ _ (by simp;omega) (fun i u hu=>?_) (fun i u x hu hx=>?_)⟩
  .have aG:i<(us.extract off (off+ti.size)).size:=(Array.getElem?_eq_some_iff.1 hu).1
   have PM:us[off+i]?=some u:=by
    rw[<-hu,Array.getElem?_extract,if_pos (by simpa using aG)]
   exact h1 _ u PM
  have aG:i<(us.extract off (off+ti.size)).size:=(Array.getElem?_eq_some_iff.1 hu).1
  have PM:us[off+i]?=some u:=by
   rw[<-hu,Array.getElem?_extract,if_pos (by simpa using aG)]
  rw[getElem?_take] at hx
  split at hx
  .rw[List.getElem?_drop] at hx
   exact hr _ u x PM hx
  cases hx
 intro ha hl
 have aG:off<us.size:=by omega
 refine⟨us[off],by simp[part,ph,ha,Array.getElem?_eq_getElem aG],?_⟩
 refine hr off _ _ (Array.getElem?_eq_getElem aG) ?_
 simp[hl]
theorem Dv (hT:ck P T) (t:TypeId) (x:Operand) (f:Nat):d4 P T (.field t x f):=by
 intro c w X ρ H F o e ρv r lo hi ho h hH hρ ao hc;have hx:=hρ x (by simp[Op.operands]);simp only[aP] at ao;split at ao;rotate_left
 .cases ao
 rename_i i hi;split at ao;rotate_left
 .cases ao
 rename_i fs xM;have hd:=(hT _ _ hi).desc;rw[xM] at hd;obtain⟨ffs,hu,dh,Gx⟩:=hd;split at ao
 .rename_i fd cs xK hv;rw[hv] at hx;have aG:f<ffs.size:=by rw[dh];exact(List.getElem?_eq_some_iff.1 xK).1
  obtain⟨h_,gg,ti,d,eN,dD,yC,ph⟩:=Gx f _ _ (Array.getElem?_eq_getElem aG) xK;generalize kQ:e x=u at hx;cases hx with
  | agg us _ hn h1 hr=>
   have Ur:=Q5 eN yC (w:=w) (X:=X) (ρ:=ρ) (off:=fd.off) hn h1 hr;split at ao
   .rename_i jx;simp only[Res.if,qo] at ao;subst ao;obtain⟨u,cL,hrd⟩:=Ur.1 (by rw[ph];exact jx) (by rw[dD];exact hc);rw[dD] at hrd;exact⟨rfl,OpOK.still h (by simp[execOp,ho,kQ,Instr.field,run_underlying hu,Array.getElem?_eq_getElem aG,asAgg,h_,cL]) hrd⟩
   rename_i jx;split at ao
   .simp only[Res.if,qo] at ao;subst ao;obtain⟨u,cL,hrd⟩:=Ur.2 (by rw[ph];simpa using jx) hc;exact⟨rfl,OpOK.still h (by simp[execOp,ho,kQ,Instr.field,run_underlying hu,Array.getElem?_eq_getElem aG,asAgg,h_,cL]) hrd⟩
   cases ao
 cases ao
end
end Go.AM
namespace Go.AM
section
variable {P:Program} {T:Tab}
theorem Dw (hT:ck P T) (t:TypeId) (x ix:Operand):d4 P T (.index t x ix):=by
 intro c w X ρ H F o e ρv r lo hi ho h hH hρ ao hc;have hx:=hρ x (by simp[Op.operands]);have hix:=hρ ix (by simp[Op.operands]);simp only[aP] at ao;split at ao;rotate_left
 .cases ao
 rename_i i n hi hn;have hk: ∃ k,e ix= .int k n:=by
  unfold PV.asInt at hn;split at hn
  .rename_i k m hm;cases hn;rw[hm] at hix;exact⟨k,hix.litInv⟩
  cases hn
 obtain⟨k,KL⟩:=hk;have hd:=(hT _ _ hi).desc;split at ao;rotate_left
 .rename_i nL;rw[nL] at hd;simp only[fm] at hd;split at ao
  .rename_i s hv;rw[hv] at hx;simp only[Res.if,qo] at ao;subst ao;have aG:n.toNat<s.size:=by have:=hc.1;have:=hc.2;omega
   refine⟨rfl,OpOK.still h ?_ (.fv _ _ (.lit _ rfl))⟩;have hr:(Instr.index t (.string s) (.int k n)).run P w= .ok (.int .u8 ((s[n.toNat]?).getD 0).toNat) w:=by
    rw[run_index_string w t s k n hd,dif_pos hc];have:s[n.toNat]?=some s[n.toNat]:=by simp[aG]
    rw[this];rfl
   simp[execOp,ho,KL,hx.litInv,hr]
  cases ao
 .cases ao
 rename_i kk el nL;rw[nL] at hd;simp only[fm] at hd;split at ao;rotate_left
 .cases ao
 rename_i ie cs iZ hv;rw[hv] at hx;split at ao;rotate_left
 .cases ao
 rename_i v eA;simp only[Res.if,qo] at ao;subst ao;obtain⟨h0,aG,hl⟩:=hc;obtain⟨ti,z,eN,dD,_⟩:=(hT _ _ iZ).info;generalize kQ:e x=u at hx;cases hx with
 | agg us _ hn h1 hr=>
  have ph:=(hT _ _ iZ).agg (w:=w);have h2:0<=n/\n<(kk:Int):=⟨h0,aG⟩;unfold ig at eA;split at eA
  .rename_i jx;cases eA;refine⟨rfl,OpOK.still h (u:= .agg (us.extract (n.toNat*ie.size) (n.toNat*ie.size+ie.size))) ?_ (.agg _ _ (by simp;omega) (fun i u hu=>?_) (fun i u y hu hy=>?_))⟩
   .simp[execOp,ho,kQ,KL,Instr.index,asIntOf,run_underlying hd,h2,sizeOf,typeInfo,eN,dD,part,ph,jx]
   .have aG:i<(us.extract (n.toNat*ie.size) (n.toNat*ie.size+ie.size)).size:=(Array.getElem?_eq_some_iff.1 hu).1;have PM:us[n.toNat*ie.size+i]?=some u:=by rw[<-hu,Array.getElem?_extract,if_pos (by simpa using aG)]
    exact h1 _ u PM
   have aG:i<(us.extract (n.toNat*ie.size) (n.toNat*ie.size+ie.size)).size:=(Array.getElem?_eq_some_iff.1 hu).1;have PM:us[n.toNat*ie.size+i]?=some u:=by rw[<-hu,Array.getElem?_extract,if_pos (by simpa using aG)]
   rw[getElem?_take] at hy;split at hy
   .rw[List.getElem?_drop] at hy;exact hr _ u y PM hy
   cases hy
  rename_i jx;split at eA
  .rename_i hs;cases eA;have aG:n.toNat*ie.size<us.size:=by omega
   refine⟨rfl,OpOK.still h (u:=us[n.toNat*ie.size]) ?_ (hr _ _ _ (Array.getElem?_eq_getElem aG) ?_)⟩
   .simp only[Bool.not_eq_true] at jx;simp[execOp,ho,kQ,KL,Instr.index,asIntOf,run_underlying hd,h2,sizeOf,typeInfo,eN,dD,part,ph,jx,Array.getElem?_eq_getElem aG]
   rw[hs];simp only[List.headD_eq_head?_getD,List.head?_take,List.head?_drop];have:n.toNat*1<cs.length:=by rw[<-hs];omega
   rw[if_neg (by omega),qb this];rfl
  cases eA
theorem lR {w:World} {X:Nat->Prop} {ρ:Places} {ov:Option Operand} {e:Operand->Value} {ρv:Operand->PV} (hρ: ∀ x∈ov.toArray,PRd w X ρ (e x) (ρv x)) {d n:Nat} {cd:Prop}
 (hb:cS (ov.map ρv) d=some (cd,n)):(ov=none/\n=d/\cd=True)\/ ∃ x k m,ov=some x/\e x= .int k m/\cd=(0<=m)/\n=m.toNat:=by
 cases ov with
 | none=>
  simp only[Option.map_none,cS,qo,Prod.mk.injEq] at hb;exact .inl ⟨rfl,hb.2.symm,hb.1.symm⟩
 | some x=>
  right;have hx:=hρ x (by simp);simp only[Option.map_some,cS] at hb;split at hb
  .rename_i m hm;unfold PV.asInt at hm;split at hm
   .rename_i k q hq;cases hm;rw[hq] at hx;cases hb;exact⟨x,k,m,rfl,hx.litInv,rfl,rfl⟩
   cases hm
  cases hb
theorem mL {w:World} {t el:TypeId} {ti:TypeInfo} (hu:P.underlying t=some (.slice el)) (eN:P.info? el=some ti) {lo hi:Option Operand} {e:Operand->Value} {ρv:Operand->PV} {X:Nat->Prop} {ρ:Places}
 (gj: ∀ x∈lo.toArray,PRd w X ρ (e x) (ρv x)) (gK: ∀ x∈hi.toArray,PRd w X ρ (e x) (ρv x)) {len cap l h:Nat} {c1 c2:Prop} (b:Option Addr)
 (dp:cS (lo.map ρv) 0=some (c1,l)) (dN:cS (hi.map ρv) len=some (c2,h)) (qW:c1) (lX:c2) (Gy:l<=h) (Yc:h<=cap):
 (Instr.sliceAt t (.slice b len cap) (lo.map e) (hi.map e) none).run P w= .ok (.slice (if cap=l then b else b.map (·.add (l*ti.size))) (h - l) (cap - l)) w:=by
 have key:(Instr.sliceBounds true len cap (lo.map e) (hi.map e) none).run P w= .ok (l,h,cap) w:=by
  rcases lR gj dp with⟨rfl,rfl,_⟩ | ⟨x,k,m,rfl,hx,rfl,rfl⟩<;>
   rcases lR gK dN with⟨rfl,rfl,_⟩ | ⟨y,k',m',rfl,hy,rfl,rfl⟩
  .simp[Instr.sliceBounds]
  .have h1:0<=m'/\m'<=(cap:Int):=by omega
   simp[Instr.sliceBounds,Instr.sliceBound,hy,asIntOf,h1]
  .have h1:0<=m/\m<=(h:Int):=by omega
   simp[Instr.sliceBounds,Instr.sliceBound,hx,asIntOf,h1]
  have h1:0<=m'/\m'<=(cap:Int):=by omega
  have h2:0<=m/\m<=max m' 0:=by omega
  simp[Instr.sliceBounds,Instr.sliceBound,hx,hy,asIntOf,h1,h2]
 simp[Instr.sliceAt,run_underlying hu,Instr.slice,key,sizeOf,typeInfo,eN]
theorem A8 {w:World} {X:Nat->Prop} {b:Option Addr} {n cap l h sz:Nat} {xs:List (List FV)} (hf:FRd w X (.slice b n cap) (.sl xs)) (hs: ∀ x∈xs,x.length=sz) (Gy:l<=h) (Gz:h<=n):
 FRd w X (.slice (if cap=l then b else b.map (·.add (l*sz))) (h - l) (cap - l)) (.sl ((xs.drop l).take (h - l))):=by
 cases hf with
 | nil=>
  have:l=0:=by omega
  subst this;have:h=0:=by omega
  subst this;simp;exact .nil
 | sl ad _ _ s _ us hn tH k7 h0 hX hb hcell hrd=>
  by_cases hz:h - l=0
  .rw[hz];simp only[List.take_zero];by_cases eO:cap=l
   .rw[if_pos eO];exact .sl ad 0 _ 0 [] (fun _ _=>undef) rfl (dU _) (by simp) h0 (fun h=>absurd rfl h) (fun h=>absurd rfl h) (by simp) (by simp)
   rw[if_neg eO];refine .sl _ 0 _ 0 [] (fun _ _=>undef) rfl (dU _) (by simp) ?_ (fun h=>absurd rfl h) (fun h=>absurd rfl h) (by simp) (by simp);simp only[gD h0]
  have eO: ¬cap=l:=by omega
  rw[if_neg eO];have fX:xs≠[]:=by intro hx;subst hx;simp at hn;omega
  have dh:s=sz:=by
   cases xs with
   | nil=>exact absurd rfl fX
   | cons x xs=>rw[<-k7 x (by simp),hs x (by simp)]
  subst dh;simp only[Option.map_some,gD h0];refine .sl _ _ _ s _ (fun i j=>us (l+i) j) (by simp;omega) (by omega) (fun x hx=>k7 x (Yf (xY hx))) rfl (fun _=>hX (by omega)) (fun _=>hb (by omega)) (fun i j x y hx hy=>?_) (fun i j x y hx hy=>?_)
  .rw[getElem?_take] at hx;split at hx
   .rw[List.getElem?_drop] at hx;have:=hcell _ j x y hx hy;rw[<-this];congr 2;simp only[Nat.add_mul];omega
   cases hx
  rw[getElem?_take] at hx;split at hx
  .rw[List.getElem?_drop] at hx;exact hrd _ j x y hx hy
  cases hx
theorem HY {c:fR} {w:World} {X:Nat->Prop} {ρ:Places} {F H:List Ob} (h:HRd c w X ρ F) (hH: ∀ (j:Nat) o,H[j]?=some o->F[j]?=some o) {id:Nat} {p:Place} (hp:ρ[id]?=some (some p)) (off len:Nat) (lo hi:Option PV):
 (p.b=none->room H id off len lo hi<=len)/\(p.b≠none->room H id off len lo hi<=max len (p.cap - off)):=by
 unfold room
 split
 .split
  .rename_i rw xs fr
   obtain⟨⟨_,_,us,gf,_⟩,_⟩:=h.ob id p _ hp (hH _ _ fr)
   obtain⟨_,eE⟩:=gf
   constructor
   .intro hg
    rcases eE with⟨_,h6⟩ | ⟨g',cap',SD,h5,_⟩
    .rw[h6];omega
    simp[Place.val,hg] at h5
   intro hg
   obtain⟨g,hg⟩:=Option.ne_none_iff_exists'.1 hg
   rcases eE with⟨h5,h6⟩ | ⟨g',cap',cur,h5,_,je,l9,_⟩
   .rw[h6];omega
   simp only[Place.val,hg,Value.slice.injEq] at h5
   omega
  exact⟨fun _=>qp _,fun _=>Nat.le_max_left _ _⟩
 exact⟨fun _=>qp _,fun _=>Nat.le_max_left _ _⟩
theorem Dx (hT:ck P T) {t:TypeId} {i:TyI} (hi:T.at t=some i) {el:Nat} (nL:i.d= .sl el) (x:Operand) (lo oy:Option Operand):d4 P T (.slice t x lo oy none):=by
 intro c w X ρ H F o e ρv r l0 h0 ho h hH hρ ao hc;have hx:=hρ x (by simp[Op.operands]);have gj: ∀ y∈lo.toArray,PRd w X ρ (e y) (ρv y):=fun y hy=>hρ y (by simp[Op.operands] at hy ⊢;simp[hy])
 have gK: ∀ y∈oy.toArray,PRd w X ρ (e y) (ρv y):=fun y hy=>hρ y (by simp[Op.operands] at hy ⊢;simp[hy])
 have hd:=(hT _ _ hi).desc;rw[nL] at hd;simp only[fm] at hd;simp only[aP,hi,nL] at ao;split at ao
 .rename_i ie id off len s iZ hv;obtain⟨ti,z,eN,dD,_⟩:=(hT _ _ iZ).info;rw[hv] at hx;split at ao;rotate_left
  .cases ao
  rename_i hs;split at ao;rotate_left
  .cases ao
  rename_i c1 l c2 hh dp dN;simp only[Res.if,qo] at ao;subst ao;obtain⟨qW,lX,Gy,Gz⟩:=hc;obtain⟨p,hp,qR,⟨hg,nw,rfl,rfl⟩ | ⟨g,og,hg,nw,hl,jE⟩⟩:=hx.lslInv
  .replace Gz:=ka Gz ((HY h hH hp _ _ _ _).1 hg);have cL:=mL (w:=w) hd eN gj gK (cap:=0) none dp dN qW lX Gy Gz;have e1:l=0:=by omega
   have e2:hh=0:=by omega
   subst e1 e2;subst qR;refine⟨rfl,OpOK.still h (u:= .slice none 0 0) ?_ (.lsl0 id p hp hg)⟩;simp at cL;simp[execOp,ho,nw,cL]
  replace Gz:=ka Gz ((HY h hH hp _ _ _ _).2 (by rw[hg];simp));replace Gz:hh<=p.cap - off:=by omega
  have cL:=mL (w:=w) hd eN gj gK (cap:=p.cap - off) (some ⟨g,og,none⟩) dp dN qW lX Gy Gz;subst qR;have e:p.cap - off - l=p.cap - (off+l):=by omega
  rw[e] at cL;refine⟨rfl,OpOK.still h (by simp only[execOp,ho,nw,Option.map_none];rw[Sem.run_bind,cL];rfl) ?_⟩;by_cases eO:p.cap - off=l
  .rw[if_pos eO];refine .lsl id (off+l) (hh - l) og g p hp hg (by omega) ?_;by_cases hz:off+l=0
   .left;have:off=0:=by omega
    subst this;rcases jE with jE | jE
    .have Pw:l=0:=by omega
     subst Pw;rw[jE]
    exact absurd rfl jE.2
   right;exact⟨by omega,hz⟩
  rw[if_neg eO];have Iq:og=off*p.size:=by
   rcases jE with jE | jE
   .exact jE
   omega
  subst Iq;simp only[Option.map_some,gZ];refine .lsl id (off+l) (hh - l) _ g p hp hg (by omega) (.inl ?_);rw[dD,<-hs,Nat.add_mul]
 .rename_i ie xs iZ hv;obtain⟨ti,z,eN,dD,_⟩:=(hT _ _ iZ).info;rw[hv] at hx;split at ao;rotate_left
  .cases ao
  rename_i c1 l c2 hh dp dN;simp only[Res.if,qo] at ao;subst ao;obtain⟨qW,lX,Gy,Gz,aA⟩:=hc;generalize kQ:e x=u at hx;cases hx with
  | fv _ _ hf=>
   have Xf: ∃ b n cap,u= .slice b n cap/\xs.length=n/\n<=cap:=by
    cases hf with
    | nil=>exact⟨_,_,_,rfl,rfl,qp _⟩
    | sl ad n cap s _ us hn tH=>exact⟨_,_,_,rfl,hn,tH⟩
   obtain⟨b,n,cap,rfl,hn,tH⟩:=Xf;subst hn;have cL:=mL (w:=w) hd eN gj gK b dp dN qW lX Gy (ka Gz tH);refine⟨rfl,OpOK.still h (by simp only[execOp,ho,kQ,Option.map_none];rw[Sem.run_bind,cL];rfl) (.fv _ _ ?_)⟩;rw[dD];exact A8 hf aA Gy Gz
 .rename_i ie xs iZ hv;obtain⟨ti,z,eN,dD,_⟩:=(hT _ _ iZ).info;rw[hv] at hx;split at ao;rotate_left
  .cases ao
  rename_i c1 l c2 hh dp dN;simp only[Res.if,qo] at ao;subst ao;obtain⟨qW,lX,Gy,Gz,aA⟩:=hc;generalize kQ:e x=u at hx;cases hx with
  | clip b n _ hf=>
   have hn:xs.length=n:=by
    cases hf with
    | nil=>rfl
    | sl ad n cap s _ us hn tH=>exact hn
   subst hn;have cL:=mL (w:=w) hd eN gj gK b dp dN qW lX Gy Gz;refine⟨rfl,OpOK.still h (by simp only[execOp,ho,kQ,Option.map_none];rw[Sem.run_bind,cL];rfl) (.fv _ _ ?_)⟩;rw[dD];exact A8 hf aA Gy Gz
 cases ao
theorem Q6 {w:World} {X:Nat->Prop} {ρ:Places} {u:Value} {x:PV} {len:Nat} (h:PRd w X ρ u x) (hl:ma x=some len): ∃ b cap,u= .slice b len cap/\len<=cap/\FRd w X (.slice b 0 0) (.sl []):=by
 have key: ∀ ad:Addr,ad.spot=none->FRd w X (.slice (some ad) 0 0) (.sl []):=fun ad had=>
  .sl ad 0 0 0 [] (fun _ _=> .bool false) rfl (qp _) (by simp) had (fun h=>absurd rfl h) (fun h=>absurd rfl h) (by simp) (by simp)
 cases h with
 | any=>simp[ma] at hl
 | fv _ y hf=>
  cases hf with
  | lit v hv=>
   unfold ma at hl;split at hl
   all_goals first
    | (rename_i heq;cases heq;done)
    | (cases hl;done)
    | skip
   rename_i heq;cases heq;cases hl;exact⟨_,_,rfl,dU _,key _ rfl⟩
  | nil=>simp[ma] at hl;subst hl;exact⟨_,_,rfl,qp _,.nil⟩
  | sl ad n cap s xs us hn hc k7 h0=>
   simp[ma] at hl;subst hl;rw[<-hn] at hc ⊢;exact⟨_,_,rfl,hc,key _ h0⟩
  | fp=>simp[ma] at hl
  | fn=>simp[ma] at hl
 | nilsl=>simp[ma] at hl;subst hl;exact⟨_,_,rfl,qp _,.nil⟩
 | clip a n xs hf=>
  simp[ma] at hl;subst hl;cases hf with
  | nil=>exact⟨_,_,rfl,qp _,.nil⟩
  | sl ad n cap s _ us hn hc k7 h0=>rw[<-hn];exact⟨_,_,rfl,qp _,key _ h0⟩
 | ptr=>simp[ma] at hl
 | lsl0 id p hp hg=>simp[ma] at hl;subst hl;exact⟨_,_,rfl,qp _,.nil⟩
 | lsl id off len o g p hp hg nI ho=>simp[ma] at hl;subst hl;exact⟨_,_,rfl,by omega,key _ rfl⟩
 | agg=>simp[ma] at hl
 | tup=>simp[ma] at hl
 | tab=>simp[ma] at hl
theorem Dy {w:World} {X:Nat->Prop} {ρ:Places} {u:Value} {x:PV} {n:Int} (h:PRd w X ρ u x) (hn:x.asInt=some n): ∃ k,u= .int k n:=by
 unfold PV.asInt at hn;split at hn
 .cases hn;exact⟨_,h.litInv⟩
 cases hn
theorem A9 (hT:ck P T) {t:TypeId} {i:TyI} (hi:T.at t=some i) {el:Nat} (nL:i.d= .sl el) (x:Operand) (lo oy:Option Operand) (mx:Operand):d4 P T (.slice t x lo oy (some mx)):=by
 intro c w X ρ H F o e ρv r l0 h0 ho h hH hρ ao hc;have hx:=hρ x (by simp[Op.operands]);have gj: ∀ y∈lo.toArray,PRd w X ρ (e y) (ρv y):=fun y hy=>hρ y (by simp[Op.operands] at hy ⊢;simp[hy])
 have gK: ∀ y∈oy.toArray,PRd w X ρ (e y) (ρv y):=fun y hy=>hρ y (by simp[Op.operands] at hy ⊢;simp[hy])
 have Gc:=hρ mx (by simp[Op.operands]);have hd:=(hT _ _ hi).desc;rw[nL] at hd;simp only[fm] at hd;simp only[aP,hi,nL] at ao;split at ao;rotate_left
 .cases ao
 rename_i ie len c1 l hh m iZ uR dp hh1 m_;obtain⟨ti,z,eN,dD,_⟩:=(hT _ _ iZ).info;simp only[Res.if,qo] at ao;subst ao;obtain⟨qW,lX,Gy,Gz,tD⟩:=hc;obtain⟨b,cap,qT,XO,K7⟩:=Q6 hx uR;obtain⟨km,hem⟩:=Dy Gc m_;cases oy with
 | none=>simp[XB] at hh1
 | some y=>
  obtain⟨ky,hey⟩:=Dy (gK y (by simp)) (by simpa [XB] using hh1);have key:(Instr.sliceBounds true len cap (lo.map e) ((some y).map e) (some (e mx))).run P w= .ok (l,hh.toNat,m.toNat) w:=by
   have h3:0<=m/\m<=(cap:Int):=by omega
   have h4:0<=hh/\hh<=max m 0:=by omega
   rcases lR gj dp with⟨rfl,rfl,_⟩ | ⟨x,k,q,rfl,hx,rfl,rfl⟩
   .simp[Instr.sliceBounds,Instr.sliceBound,hey,hem,asIntOf,h3,h4]
   have h5:0<=q/\q<=max hh 0:=by omega
   simp[Instr.sliceBounds,Instr.sliceBound,hey,hem,hx,asIntOf,h3,h4,h5]
  have cL:(Instr.sliceAt t (.slice b len cap) (lo.map e) ((some y).map e) (some (e mx))).run P w= .ok (.slice (if m.toNat=l then b else b.map (·.add (l*ti.size))) (hh.toNat - l) (m.toNat - l)) w:=by
   simp only[Option.map_some] at key ⊢;simp[Instr.sliceAt,run_underlying hd,Instr.slice,key,sizeOf,typeInfo,eN]
  refine⟨rfl,OpOK.still h (by simp only[execOp,ho,qT,Option.map_some];simp only[Option.map_some] at cL;rw[Sem.run_bind,cL];rfl) ?_⟩;cases lo with
  | some _=>exact .any _
  | none=>
   have Pw:l=0:=by simp[cS] at dp;omega
   subst Pw;simp only[Option.map_none,GI];by_cases Ic:m=0
   .by_cases hh0:hh=0
    .subst Ic hh0;exact .clip _ _ _ K7
    rw[if_pos Ic,if_neg hh0];exact .any _
   rw[if_neg Ic];exact .any _
theorem iG {α:Type} {l new:List α} {off:Nat} (h:off+new.length<=l.length) (i:Nat):
 (eH l off new)[i]?=if i<off then l[i]? else if i<off+new.length then new[i - off]? else l[i]?:=by
 unfold eH
 by_cases h1:i<off
 .rw[if_pos h1,qlb,qi (by simp;omega),getElem?_take,if_pos h1]
 rw[if_neg h1]
 by_cases h2:i<off+new.length
 .rw[if_pos h2,qi (by simp;omega),qh (by simp;omega)]
  congr 1
  simp
  omega
 rw[if_neg h2,qh (by simp;omega),List.getElem?_drop]
 congr 1
 simp
 omega
theorem f6 {α:Type} {l new:List α} {off:Nat} (h:off+new.length<=l.length):(eH l off new).length=l.length:=by
 unfold eH;simp;omega
theorem wY: ∀ (l:List Value) (k off:Nat) (cells:Array Value),(∀ m,((l.zipIdx k).foldl (fun cs (p:Value×Nat)=>cs.setIfInBounds (off+p.2) p.1) cells)[m]?=
 if off+k<=m/\m<off+k+l.length/\m<cells.size then l[m - (off+k)]? else cells[m]?)
 | [],k,off,cells=>fun m=>by simp;intro h1 h2;omega
 | v::l,k,off,cells=>fun m=>by
  rw[List.zipIdx_cons,List.foldl_cons,wY l (k+1) off _ m];simp only[Array.size_setIfInBounds,List.length_cons];by_cases h1:off+k=m
  .subst h1;rw[if_neg (by omega)];by_cases aG:off+k<cells.size
   .rw[if_pos (by omega)];simp[aG]
   rw[if_neg (by omega)];simp[aG]
  rw[Array.getElem?_setIfInBounds_ne h1];by_cases h2:off+(k+1)<=m/\m<off+(k+1)+l.length/\m<cells.size
  .rw[if_pos h2,if_pos (by omega)];rw[show m - (off+k)=(m - (off+(k+1)))+1 by omega,List.getElem?_cons_succ]
  rw[if_neg h2,if_neg (by omega)]
theorem FRd.cells {w:World} {X:Nat->Prop} {u:Value} {x:FV} (h:FRd w X u x):u.cells=#[u]:=by
 cases h<;>first | rfl | (rename_i h;cases u<;>first | rfl | cases h)
theorem qg {w:World} {X:Nat->Prop} {ρ:Places} {u:Value} {x:PV} (h:PRd w X ρ u x) (hx:0<x.cells.length):u.cells.size=x.cells.length/\ ∀ (i:Nat) v,u.cells[i]?=some v->v.oneCell'=true:=by
 cases h with
 | agg us cs hn h1 hr=>exact⟨hn,h1⟩
 | any=>simp[PV.cells] at hx
 | tup us cs hn hr=>simp[PV.cells] at hx
 | fv _ _ hf=>
  rw[hf.cells];refine⟨rfl,fun i v hv=>?_⟩;cases i with
  | zero=>simp at hv;subst hv;exact hf.one
  | succ i=>simp at hv
 | _=>
  refine⟨rfl,fun i v hv=>?_⟩;cases i with
  | zero=>simp[Value.cells] at hv;subst hv;rfl
  | succ i=>simp[Value.cells] at hv
theorem wZ {w:World} {X:Nat->Prop} {ρ:Places} {u:Value} {x:PV} (h:PRd w X ρ u x): ∀ (i:Nat) v y,u.cells[i]?=some v->x.cells[i]?=some y->PRd w X ρ v y:=by
 intro i v y hv hy;cases h with
 | agg us cs hn h1 hr=>exact hr i v y hv hy
 | any=>simp[PV.cells] at hy
 | fv _ _ hf=>
  rw[hf.cells] at hv;cases i with
  | zero=>simp[PV.cells] at hv hy;subst hv;subst hy;exact .fv _ _ hf
  | succ i=>simp at hv
 | nilsl=>cases i with
  | zero=>simp[PV.cells,Value.cells] at hv hy;subst hv;subst hy;exact .nilsl
  | succ i=>simp[Value.cells] at hv
 | clip a n xs hf=>cases i with
  | zero=>simp[PV.cells,Value.cells] at hv hy;subst hv;subst hy;exact .clip a n xs hf
  | succ i=>simp[Value.cells] at hv
 | ptr id j off g p hp hg=>cases i with
  | zero=>simp[PV.cells,Value.cells] at hv hy;subst hv;subst hy;exact .ptr id j off g p hp hg
  | succ i=>simp[Value.cells] at hv
 | lsl0 id p hp hg=>cases i with
  | zero=>simp[PV.cells,Value.cells] at hv hy;subst hv;subst hy;exact .lsl0 id p hp hg
  | succ i=>simp[Value.cells] at hv
 | lsl id off len og g p hp hg hl ho=>cases i with
  | zero=>simp[PV.cells,Value.cells] at hv hy;subst hv;subst hy;exact .lsl id off len og g p hp hg hl ho
  | succ i=>simp[Value.cells] at hv
 | tup us cs hn hr=>simp[PV.cells] at hy
 | tab id g p hp hg=>cases i with
  | zero=>simp[PV.cells,Value.cells] at hv hy;subst hv;subst hy;exact .tab id g p hp hg
  | succ i=>simp[Value.cells] at hv
end
end Go.AM
namespace Go.AM
section
variable {P:Program} {T:Tab}
def EffOp (P:Program) (T:Tab) (op:Op):Prop:=
 ∀ {c:fR} {w:World} {X:Nat->Prop} {ρ:Places} {H D R:List Ob} {o:Oper} {e:Operand->Value} {ρv:Operand->PV} {r:Res},
  o.op=op->HRd c w X ρ (H++(D++R))->(∀ id,H.length<=id->id<H.length+D.length->ρ[id]?=some none)->(∀ x∈op.operands,PRd w X ρ (e x) (ρv x))->aP T H ρv op=some r->r.cond->
  r.heap.length=H.length+D.length->OpOK c w X ρ H.length (H.length+D.length) (r.heap++R) ((execOp e o).run P w) r.val
theorem bm {H G:List Ob}: ∀ (j:Nat) o,H[j]?=some o->(H++G)[j]?=some o:=fun j o h=>by
 rw[qi (List.getElem?_eq_some_iff.1 h).1];exact h
theorem EffOp.of_still {op:Op} (h:d4 P T op):EffOp P T op:=by
 intro c w X ρ H D R o e ρv r ho hh hD hρ ao hc aA;obtain⟨hr,bf⟩:=h (lo:=H.length) (hi:=H.length+D.length) ho hh bm hρ ao hc;rw[hr] at aA;have hd:D=[]:=List.eq_nil_of_length_eq_zero (by omega);subst hd;rw[hr];exact bf
theorem zQ {c:fR} {w:World} {X:Nat->Prop} {ρ:Places} {H R:List Ob} {d:Ob} (h:HRd c w X ρ (H++([d]++R))) (hρ:ρ[H.length]?=some none) {us:Array Value} {cs:List PV} (el:Nat)
 (hn:us.size=cs.length) (h1: ∀ (i:Nat) u,us[i]?=some u->u.oneCell'=true) (hr: ∀ (i:Nat) u x,us[i]?=some u->cs[i]?=some x->PRd w X ρ u x):
 ∃ X' ρ',Stp c w (w.alloc (.cells us el)) X X' ρ ρ'/\HRd c (w.alloc (.cells us el)) X' ρ' ((H++[.box true cs])++R)/\
  PRd (w.alloc (.cells us el)) X' ρ' (.pointer (some ⟨w.heap.size,0,none⟩)) (.ptr H.length 0 0)/\ ∀ id,id≠H.length->ρ'[id]?=ρ[id]?:=by
 let p:Place:=⟨some w.heap.size,el,us.size,0⟩
 have aG:H.length<ρ.length:=(List.getElem?_eq_some_iff.1 hρ).1
 have hg:=World.grownBy_alloc w (.cells us el) none
 have hF:(H++([d]++R)).set H.length (.box true cs)=(H++[.box true cs])++R:=by simp
 have Xg: ∀ (j:Nat) q o g,ρ[j]?=some (some q)->(H++([d]++R))[j]?=some o->o.rw=true->q.b=some g->g<w.heap.size:=fun j q o g hq ho hr hb=>(h.own j q o g hq ho hr hb).2
 have ct:=h.put (id:=H.length) (p:=p) (ob:= .box true cs) (row:=none) (w':=w.alloc (.cells us el)) (by simp) (.inl hρ) hg (by simp)
  (fun j q o g hj hq ho hr hb=>⟨by simp,by
   have:=Xg j q o g hq ho hr hb;intro he;simp only[p,qo] at he;omega⟩)
  (fun g hg=>by simp only[p,qo] at hg;left;omega)
  (fun g hg=>by simp only[p,qo] at hg;subst hg;exact⟨.inl h.ge,by simp⟩)
  (by simp)
  ⟨⟨w.heap.size,us,rfl,heap_alloc_new w _,hn,h1,fun i u x hu hx=>(hr i u x hu hx).mono (World.grownBy_alloc w _ none |> fun hg=>⟨hg.size,fun b hb _=>hg.block b hb (by simp)⟩)
   (fun b hb hx=>by
    rcases hx with hx | hx
    .exact hx
    simp only[p,qo] at hx;omega) (Places.Le.set (.inl hρ))⟩,
   fun g hg=>⟨fun _=> .inr hg,fun _=>rfl⟩⟩
 rw[hF] at ct
 refine⟨_,_,ct.2,ct.1,?_,fun id cF=>by rw[getElem?_set_ne (Ne.symm cF)]⟩
 have:=PRd.ptr (w:=w.alloc (.cells us el)) (X:=fun b=>X b\/p.b=some b) (ρ:=ρ.set H.length (some p)) H.length 0 0 w.heap.size p (by simp[aG]) rfl
 simpa using this
theorem FB {c:fR} {w:World} {X:Nat->Prop} {ρ:Places} {H R:List Ob} {d:Ob} (h:HRd c w X ρ (H++([d]++R))) (hρ:ρ[H.length]?=some none) {us:Array Value} {cs:List PV} (el n:Nat)
 (hn:us.size=cs.length) (_hcn:cs.length=n) (h1: ∀ (i:Nat) u,us[i]?=some u->u.oneCell'=true) (hr: ∀ (i:Nat) u x,us[i]?=some u->cs[i]?=some x->PRd w X ρ u x):
 ∃ X' ρ',Stp c w (w.alloc (.cells us el)) X X' ρ ρ'/\HRd c (w.alloc (.cells us el)) X' ρ' ((H++[.box true cs])++R)/\
  PRd (w.alloc (.cells us el)) X' ρ' (.slice (some ⟨w.heap.size,0,none⟩) n n) (.lsl H.length 0 n 1)/\ ∀ id,id≠H.length->ρ'[id]?=ρ[id]?:=by
 let p:Place:=⟨some w.heap.size,el,1,n⟩
 have aG:H.length<ρ.length:=(List.getElem?_eq_some_iff.1 hρ).1
 have hg:=World.grownBy_alloc w (.cells us el) none
 have hF:(H++([d]++R)).set H.length (.box true cs)=(H++[.box true cs])++R:=by simp
 have Xg: ∀ (j:Nat) q o g,ρ[j]?=some (some q)->(H++([d]++R))[j]?=some o->o.rw=true->q.b=some g->g<w.heap.size:=fun j q o g hq ho hr hb=>(h.own j q o g hq ho hr hb).2
 have ct:=h.put (id:=H.length) (p:=p) (ob:= .box true cs) (row:=none) (w':=w.alloc (.cells us el)) (by simp) (.inl hρ) hg (by simp)
  (fun j q o g hj hq ho hr hb=>⟨by simp,by
   have:=Xg j q o g hq ho hr hb;intro he;simp only[p,qo] at he;omega⟩)
  (fun g hg=>by simp only[p,qo] at hg;left;omega)
  (fun g hg=>by simp only[p,qo] at hg;subst hg;exact⟨.inl h.ge,by simp⟩)
  (by simp)
  ⟨⟨w.heap.size,us,rfl,heap_alloc_new w _,hn,h1,fun i u x hu hx=>(hr i u x hu hx).mono (World.grownBy_alloc w _ none |> fun hg=>⟨hg.size,fun b hb _=>hg.block b hb (by simp)⟩)
   (fun b hb hx=>by
    rcases hx with hx | hx
    .exact hx
    simp only[p,qo] at hx;omega) (Places.Le.set (.inl hρ))⟩,
   fun g hg=>⟨fun _=> .inr hg,fun _=>rfl⟩⟩
 rw[hF] at ct
 refine⟨_,_,ct.2,ct.1,?_,fun id cF=>by rw[getElem?_set_ne (Ne.symm cF)]⟩
 have:=PRd.lsl (w:=w.alloc (.cells us el)) (X:=fun b=>X b\/p.b=some b) (ρ:=ρ.set H.length (some p)) H.length 0 n 0 w.heap.size p (by simp[aG]) rfl (by simp[p]) (.inl (by simp))
 simpa using this
def HZ:Value->Nat
 | .slice _ _ c=>c
 | _=>0
theorem Dz {w:World} {e size n:Nat} {v:Value} {us:List Value} (h:w.ownsRow 0 e size v n us):Place.val ⟨v.ownBlock,e,size,HZ v⟩ n=v:=by
 rcases h.2 with⟨rfl,rfl⟩ | ⟨g,cap,cur,rfl,_⟩
 .rfl
 rfl
theorem dc {c:fR} {w w':World} {X:Nat->Prop} {ρ:Places} {H R:List Ob} {d:Ob} (h:HRd c w X ρ (H++([d]++R))) (hρ:ρ[H.length]?=some none) {us:List Value} {xs:List (List FV)} {el size:Nat} {v:Value}
 {row:Option Nat} (hg:w.grownBy w' row) (uE: ∀ g,row=some g->X g)
 (oC: ∀ (j:Nat) q o g,j≠H.length->ρ[j]?=some (some q)->(H++([d]++R))[j]?=some o->o.rw=true->q.b=some g->some g≠row)
 (BJ: ∀ g,row=some g->(c.w0.heap.size<=g\/c.M g)) (cY:0<size) (aA: ∀ x∈xs,x.length=size)
 (eP:w'.ownsRow 0 el size v xs.length us) (jg: ∀ g,v.ownBlock=some g->w.heap.size<=g\/some g=row)
 (hcell: ∀ (i j:Nat) x y,xs[i]?=some x->x[j]?=some y-> ∃ u,us[i*size+j]?=some u/\FRd w X u y):
 ∃ X' ρ',Stp c w w' X X' ρ ρ'/\HRd c w' X' ρ' ((H++[.row true xs])++R)/\PRd w' X' ρ' v (.lsl H.length 0 xs.length size)/\ ∀ id,id≠H.length->ρ'[id]?=ρ[id]?:=by
 let p:Place:=⟨v.ownBlock,el,size,HZ v⟩
 have aG:H.length<ρ.length:=(List.getElem?_eq_some_iff.1 hρ).1
 have hF:(H++([d]++R)).set H.length (.row true xs)=(H++[.row true xs])++R:=by simp
 have eD:Same X w w':=⟨hg.size,fun b hb hx=>hg.block b hb (fun e=>hx (uE b e.symm))⟩
 have yA:p.val xs.length=v:=Dz eP
 have ct:=h.put (id:=H.length) (p:=p) (ob:= .row true xs) (row:=row) (w':=w') (by simp) (.inl hρ) hg uE
  (fun j q o g hj hq ho hr hb=>⟨oC j q o g hj hq ho hr hb,by
   have h2:=(h.own j q o g hq ho hr hb).2;intro he;rcases jg g he with h3 | h3
   .omega
   exact oC j q o g hj hq ho hr hb h3⟩)
  (fun g hg=>by
   rcases jg g hg with h3 | h3
   .exact .inl h3
   exact .inr (uE g h3.symm))
  (fun g mR=>⟨by
   rcases jg g mR with h3 | h3
   .left;have:=h.ge;omega
   exact BJ g h3.symm,(eP.lt g mR).2⟩)
  BJ
  ⟨⟨cY,aA,us,by rw[yA];exact eP,fun i j x y hx hy=>by
   obtain⟨u,hu,hf⟩:=hcell i j x y hx hy;refine⟨u,hu,hf.mono eD (fun b hb hx=>?_)⟩;rcases hx with hx | hx
   .exact hx
   .rcases jg b hx with h3 | h3
    .omega
    exact uE b h3.symm⟩,
   fun g hg=>⟨fun _=> .inr hg,fun _=>rfl⟩⟩
 rw[hF] at ct
 refine⟨_,_,ct.2,ct.1,?_,fun id cF=>by rw[getElem?_set_ne (Ne.symm cF)]⟩
 have hp:(ρ.set H.length (some p))[H.length]?=some (some p):=by simp[aG]
 rcases eP.2 with⟨hv,hn⟩ | ⟨g,cap,cur,hv,_,_,l9,_⟩
 .rw[hv,hn]
  exact .lsl0 H.length p hp (by simp[p,hv,Value.ownBlock])
 rw[hv]
 have:=PRd.lsl (w:=w') (X:=fun b=>X b\/p.b=some b) (ρ:=ρ.set H.length (some p)) H.length 0 xs.length 0 g p hp (by simp[p,hv,Value.ownBlock]) (by simp[p,hv,HZ];exact l9) (.inl (by simp))
 simpa [p,hv,HZ] using this
theorem kH {t:Nat} {i:TyI} (h:TyOk P t i) {w:World} {X:Nat->Prop} {ρ:Places}: ∃ ti z,P.info? t=some ti/\ti.size=i.size/\ti.bytes=i.bytes/\ti.zero=some z/\z.cells.size=i.size/\i.zero.length=i.size/\
 (∀ (j:Nat) u,z.cells[j]?=some u->u.oneCell'=true)/\ ∀ (j:Nat) u x,z.cells[j]?=some u->i.zero[j]?=some x->PRd w X ρ u x/\eu x=[]:=by
 obtain⟨ti,z,h1,h2,h3,h4,h5,h6,h7⟩:=h.info
 rw[nF] at h7
 have eA: ∀ (j:Nat) u,z.cells[j]?=some u->u.oneCell'=true:=fun j u hu=>h7 u (Array.mem_toList_iff.2 (Array.mem_of_getElem? hu))
 have jf: ∀ u:Value,eu (PV.ofCell u)=[]:=by
  intro u;unfold PV.ofCell;split<;>rfl
 have Is:=h5
 refine⟨ti,z,h1,h2,h3,h4,h6,by rw[Is];simp[h6],eA,fun j u x hu hx=>?_⟩
 rw[Is,List.getElem?_map] at hx
 simp only[Array.getElem?_toList,hu,Option.map_some,qo] at hx
 subst hx
 exact⟨mK u,jf u⟩
theorem mM {α:Type} {D:List α} (h:D.length=1): ∃ d,D=[d]:=by
 match D,h with
 | [d],_=>exact⟨d,rfl⟩
theorem JO (hT:ck P T) (t:TypeId):EffOp P T (.alloc t):=by
 intro c w X ρ H D R o e ρv r ho h hD hρ ao hc aA;simp only[aP] at ao;split at ao;rotate_left
 .cases ao
 rename_i i hi;cases ao;obtain⟨d,rfl⟩:=mM (D:=D) (by simp at aA;omega);obtain⟨ti,z,eN,dD,_,hz,pM,eV,eA,hrd⟩:=kH (hT _ _ hi) (w:=w) (X:=X) (ρ:=ρ);obtain⟨X',ρ',hs,hh,hp,fA⟩:=zQ h (hD _ (qp _) (by simp)) t (us:=z.cells) (cs:=i.zero) (by omega) eA (fun j u x hu hx=>(hrd j u x hu hx).1);refine⟨_,_,X',ρ',.inl ?_,hs,hh,hp,fun id cF=>fA id (by simp at cF;omega)⟩;simp[execOp,ho,Instr.alloc,zeroValue,typeInfo,eN,hz,newVar,newRow]
theorem Q7 (t:TypeId) (x:Operand):EffOp P T (.box t x):=by
 intro c w X ρ H D R o e ρv r ho h hD hρ ao hc aA;have hx:=hρ x (by simp[Op.operands]);simp only[aP] at ao;split at ao;rotate_left
 .cases ao
 rename_i i hi;cases ao;obtain⟨d,rfl⟩:=mM (D:=D) (by simp at aA;omega);simp only at hc;obtain⟨f_,eA⟩:=qg hx (by omega);obtain⟨X',ρ',hs,hh,hp,fA⟩:=zQ h (hD _ (qp _) (by simp)) t (us:=(e x).cells) (cs:=(ρv x).cells) f_ eA (wZ hx);refine⟨_,_,X',ρ',.inl ?_,hs,hh,hp,fun id cF=>fA id (by simp at cF;omega)⟩;simp[execOp,ho,Instr.box,newVar,newRow]
theorem pD (z:Array Value) (n i j:Nat) (hi:i<n) (hj:j<z.size):(madeCells z (n*z.size))[i*z.size+j]?=z[j]?:=by
 have aG:i*z.size+j<n*z.size:=by
  have h1:i+1<=n:=hi;have h2:(i+1)*z.size<=n*z.size:=qn _ h1;rw[Nat.add_mul] at h2;omega
 have D8:(i*z.size+j) % z.size=j:=by
  rw[Nat.mul_comm,Nat.mul_add_mod,Nat.mod_eq_of_lt hj]
 unfold madeCells;rw[Array.getElem?_map,Array.getElem?_range,if_pos aG];simp[D8,hj]
theorem yr (hT:ck P T) (t:TypeId) (l k:Operand):EffOp P T (.makeSlice t l k):=by
 intro c w X ρ H D R o e ρv r ho h hD hρ ao hc aA;have hl:=hρ l (by simp[Op.operands]);have hk:=hρ k (by simp[Op.operands]);simp only[aP] at ao;split at ao;rotate_left
 .cases ao
 rename_i i kl n kk m hi jF hkm;rw[jF] at hl;rw[hkm] at hk;have el:=hl.litInv;have ek:=hk.litInv;split at ao;rotate_left
 .cases ao
 rename_i el' nL;have hd:=(hT _ _ hi).desc;rw[nL] at hd;simp only[fm] at hd;split at ao;rotate_left
 .cases ao
 rename_i ie iZ;split at ao
 .rename_i Gi;cases ao;obtain⟨d,rfl⟩:=mM (D:=D) (by simp at aA;omega);obtain⟨h0,rfl,Us,hm⟩:=hc;have Wt:ie.zero=[.nilsl]:=by
   unfold vH at Gi;split at Gi
   .assumption
   cases Gi
  obtain⟨ti,z,eN,dD,sb,hz,pM,eV,eA,hrd⟩:=kH (hT _ _ iZ) (w:=w) (X:=X) (ρ:=ρ);have Xh:(ti.bytes:Int)*n<=281474976710656:=by
   rw[sb,Int.mul_comm];omega
  have cL:=run_make (P:=P) w t el' ti z hd eN hz kl kk n n h0 (by omega) Xh (by omega);have Xi:ie.size=1:=by
   rw[Wt] at eV;simpa using eV.symm
  have Yd:z.cells.size=1:=by omega
  have R9:z.cells[0]'(by omega)= .slice none 0 0:=by
   obtain⟨gL,_⟩:=hrd 0 (z.cells[0]'(by omega)) .nilsl (by simp[Yd]) (by rw[Wt];rfl);generalize z.cells[0]'(by omega)=u at gL;cases gL;rfl
  have cg: ∀ (i:Nat) u,(madeCells z.cells (n.toNat*ti.size))[i]?=some u->u= .slice none 0 0:=by
   intro i u hu;have hi:i<n.toNat:=by
    have:=(Array.getElem?_eq_some_iff.1 hu).1;rw[size_madeCells,dD,Xi] at this;omega
   have h9:=pD z.cells n.toNat i 0 hi (by omega);rw[Yd] at h9;rw[dD,Xi] at hu;simp only[Nat.mul_one,Nat.add_zero] at h9 hu;rw[h9] at hu;rw[Array.getElem?_eq_getElem (by omega)] at hu;cases hu;exact R9
  have ac1:=FB (cs:=List.replicate n.toNat .nilsl) (us:=madeCells z.cells (n.toNat*ti.size)) h (hD _ (qp _) (by simp)) el' n.toNat (by rw[size_madeCells,dD,Xi,Ux];omega) (by simp)
   (fun i u hu=>by rw[cg i u hu];rfl) (fun i u x hu hx=>by
    rw[List.getElem?_replicate] at hx;split at hx
    .cases hx;rw[cg i u hu];exact .nilsl
    cases hx)
  obtain⟨X',ρ',hs,hh,hp,fA⟩:=ac1;refine⟨_,_,X',ρ',.inl ?_,hs,hh,hp,fun id cF=>fA id (by simp at cF;omega)⟩;simp[execOp,ho,el,ek,cL]
 split at ao;rotate_left
 .cases ao
 rename_i zf hzf;split at ao;rotate_left
 .cases ao
 rename_i l7;cases ao;obtain⟨d,rfl⟩:=mM (D:=D) (by simp at aA;omega);obtain⟨h0,hnm,Us,hm⟩:=hc;obtain⟨ti,z,eN,dD,sb,hz,pM,eV,eA,hrd⟩:=kH (hT _ _ iZ) (w:=w) (X:=X) (ρ:=ρ);have Xh:(ti.bytes:Int)*m<=281474976710656:=by
  rw[sb,Int.mul_comm];omega
 have cL:=run_make (P:=P) w t el' ti z hd eN hz kl kk n m h0 hnm Xh (by omega);have eP:(w.alloc (.cells (madeCells z.cells (m.toNat*ti.size)) el')).ownsRow 0 el' ie.size (.slice (some ⟨w.heap.size,0,none⟩) n.toNat m.toNat) n.toNat
  ((madeCells z.cells (m.toNat*ti.size)).toList.take (n.toNat*ie.size)):=by
  have cX:n.toNat*ie.size<=m.toNat*ie.size:=qn _ (by omega)
  refine⟨by rw[length_take,Array.length_toList,size_madeCells,dD,Nat.min_eq_left cX],.inr ⟨w.heap.size,m.toNat,_,rfl,dU _,heap_alloc_new w _,by omega,by simp only[maxLen];omega,by rw[size_madeCells,dD],rfl⟩⟩
 have ahg:=dc (xs:=List.replicate n.toNat zf) (size:=ie.size) (el:=el') (v:= .slice (some ⟨w.heap.size,0,none⟩) n.toNat m.toNat) (row:=none) h (hD _ (qp _) (by simp)) (World.grownBy_alloc w _ none) (by simp)
  (by simp) (by simp) l7.2 (by
   intro x hx;rw[List.mem_replicate] at hx;rw[hx.2];exact l7.1) (by simpa using eP) (by
   intro g hg;simp only[Value.ownBlock,qo] at hg;left;omega) (by
   intro i' j x y hx hy;rw[List.getElem?_replicate] at hx;split at hx
   .rename_i j6;cases hx;have hj:j<zf.length:=(List.getElem?_eq_some_iff.1 hy).1;have hjz:j<z.cells.size:=by omega
    have o5:j<ie.zero.length:=by omega
    obtain⟨y',Eo,O2⟩:=mJ hzf j ie.zero[j] (by simp[o5]);rw[hy] at Eo;cases Eo;obtain⟨gL,f1⟩:=hrd j z.cells[j] ie.zero[j] (by simp[hjz]) (by simp[o5]);refine⟨z.cells[j],?_,mI h bm gL O2 (fun _ h=>h) (by rw[f1];simp)⟩;have aG:i'*ie.size+j<n.toNat*ie.size:=by
     have h2:(i'+1)*ie.size<=n.toNat*ie.size:=qn _ j6;rw[Nat.add_mul] at h2;omega
    rw[getElem?_take,if_pos aG,Array.getElem?_toList,dD,<-pM,pD z.cells m.toNat i' j (by omega) hjz];simp[hjz]
   cases hx)
 obtain⟨X',ρ',hs,hh,hp,fA⟩:=ahg;rw[Ux] at hp;refine⟨_,_,X',ρ',.inl ?_,hs,hh,hp,fun id cF=>fA id (by simp at cF;omega)⟩;simp[execOp,ho,el,ek,cL]
end
end Go.AM
