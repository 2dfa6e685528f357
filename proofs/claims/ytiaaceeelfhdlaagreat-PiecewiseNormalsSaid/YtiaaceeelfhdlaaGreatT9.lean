/- The abstract machine:maps whose keys are arrays of ints,in a program. -/
import Derived.Test.YtiaaceeelfhdlaaGreatT8
import Derived.WideKeyArr
import Derived.Test.YtiaaceeelfhdlaaGreatT1
set_option linter.all false
namespace Go.AM
theorem xw {α β:Type} {f:α->Option β}: ∀ l:List α,(∀ x∈l,∃ y,f x=some y)-> ∃ ys,l.mapM f=some ys
 | [],_=>⟨[],rfl⟩
 | x::l,h=>by
  obtain⟨y,hy⟩:=h x (by simp);obtain⟨ys,vE⟩:=xw l (fun z hz=>h z (ql _ hz));exact⟨y::ys,by rw[List.mapM_cons,hy,vE];rfl⟩
theorem F8 {P:Program} {k e n:Nat} (A:WideMaps.ArrKey P k e n) (he:P.underlying e=some (.int .i64)) (dh: ∃ m,P.types.size=m+1) (ks:List Int) (hl:ks.length=n) (hb: ∀ x∈ks,-9223372036854775808<=x/\x<9223372036854775808):
 ∃ l,keyOf P k (.agg (ks.map (Value.int .i64)).toArray)=some l:=by
 have hkt:=A.keyType dh
 obtain⟨m,hm⟩:=dh
 obtain⟨ys,vE⟩:=xw (f:=fun i=>P.keyLits (m+1) e (((ks.map (Value.int .i64)).drop (i*P.cellsOf e)).take (P.cellsOf e))) (List.range n) (fun i hi=>by
  have oy:=List.mem_range.1 hi;rw[A.one,Nat.mul_one,qj (by simp;omega),List.take_succ_cons,List.take_zero,List.getElem_map];have XL:=hb ks[i] (by simp);refine⟨[.int .i64 ks[i]],?_⟩;unfold Program.keyLits;simp only[he];have hw:(Lit.int IntKind.i64 ks[i]).wf=true:=by
   simp only[Lit.wf,IntKind.min,IntKind.max,IntKind.bits,IntKind.signed,hG,decide_eq_true_eq];simp;omega
  simp only[hw,and_self,if_true])
 unfold keyOf
 simp only[A.hu]
 rw[if_pos (by simp[hkt,Value.formed,A.hu,A.size,hl]),hm]
 unfold Program.keyLits
 simp only[A.hu,Value.cells]
 rw[if_pos (by rw[A.size];simpa using hl),vE]
 exact⟨_,rfl⟩
theorem TW {P:Program} {t k e n el:Nat} {ti:TypeInfo} {z:Value} {zv:PV} (hu:P.underlying t=some (.map k el)) (hi:P.info? el=some ti) (hz:ti.zero=some z) (hs:still zv=true) (hr: ∀ (w:World) (X:Nat->Prop) (ρ:Places),PRd w X ρ z zv)
 (A:WideMaps.ArrKey P k e n) (he:P.underlying e=some (.int .i64)) (dh: ∃ m,P.types.size=m+1):fm P t (.mp n zv):=
 ⟨k,el,ti,z,hu,hi,hz,hs,hr,A.law,fun ks hl hb=>F8 A he dh ks hl hb⟩
theorem afi (w:World) (X:Nat->Prop) (ρ:Places):PRd w X ρ (.agg #[.bool false,.slice none 0 0,.slice none 0 0]) (.agg [.bool false,.fv (.sl []),.fv (.sl [])]):=by
 refine .agg _ _ rfl (fun i u hu=>?_) (fun i u c hu hc=>?_)
 .match i with
  | 0=>simp at hu;subst hu;rfl
  | 1=>simp at hu;subst hu;rfl
  | 2=>simp at hu;subst hu;rfl
  | i+3=>simp at hu
 match i with
 | 0=>simp at hu hc;subst hu;subst hc;exact .fv _ _ (.lit _ rfl)
 | 1=>simp at hu hc;subst hu;subst hc;exact .fv _ _ .nil
 | 2=>simp at hu hc;subst hu;subst hc;exact .fv _ _ .nil
 | i+3=>simp at hu
theorem afj (w:World) (X:Nat->Prop) (ρ:Places):PRd w X ρ (.int .i64 0) (.int .i64 0):= .fv _ _ (.lit _ rfl)
end Go.AM
namespace Go.AM
theorem bP {m:Nat} {env env':List PV} {H H':List Ob} (keep:List Nat) (he:bO keep env env':=by(simp[bO,eT,cJ,aU]<;>try omega)) (hh:fM keep H keep H':=by(first | (simp[fM,fC,aU,cJ,bA,bh,aZ,bJ];done) | trivial))
 (l6:keep.Nodup:=by simp) (hm:tw m keep=true:=by exact rfl):Weak m ⟨env,H⟩ ⟨env',H'⟩:=wk keep l6 hm he hh
theorem gm {m:Nat} {env env':List PV} {H H':List Ob} (keep:List Nat) (he:bO keep env env':=by(simp[bO,eT,cJ,aU]<;>try omega)) (hh:fM keep H keep H':=by(first | (simp[fM,fC,aU,cJ];done) | trivial))
 (l6:keep.Nodup:=by simp) (hm:tw m keep=true:=by exact rfl):Weak m ⟨env,H⟩ ⟨env',H'⟩:=wk keep l6 hm he hh
theorem ae {a b:Prop} (h2:b) (h1:a:=by omega):a/\b:=⟨h1,h2⟩
theorem bc {T:Tab} {st:St} {rs:List ResultVar} {res:PV} {cd:Prop} {vs:List PV} (h2:qG st.heap [] (bN vs)=some res) (h1:eB T st rs=some (cd,vs):=by exact rfl)
 (hc:cd:=by(first | exact⟨b',b'⟩ | exact⟨b',b',b'⟩ | exact⟨⟨rfl,qp 3⟩,b'⟩ | exact⟨⟨rfl,qp 3⟩,b',b'⟩ | exact⟨b',b',b',b'⟩)):RetOK T rs 0 st [] res:=Ph h1 hc h2
section
variable {P:Program} {env:List PV} {H:List Ob} {K2:PV->List Ob->Prop}
theorem hY {k:FuncId} {pre post args:List PV} {args':List PV} {obs:List Ob} {res:PV} {t:cu _} (hd:Den P k [] args' obs res)
 (hk:K2 (reloc (H.length+ ·) res) (shutAs H (pre++args++post)++obs.map (relocOb (H.length+ ·)))) (hf:bH H (pre++args++post)=some args':=by simp[bH,eS,ki,gP,kc,dS,dI]):GoCall P ⟨env,H⟩ (some (k,pre,post)) args K2 t:=gp hd hf hk
theorem aM {k:FuncId} {pre post args:List PV} {args':List PV} {obs:List Ob} {res:PV} {t:cu _} (hd:Den P k [] args' obs res)
 (hk:K2 (reloc (H.length+ ·) res) (shutAs H (pre++args++post)++obs.map (relocOb (H.length+ ·)))) (hf:bH H (pre++args++post)=some args':=by exact rfl):GoCall P ⟨env,H⟩ (some (k,pre,post)) args K2 t:=gp hd hf hk
theorem BQ {k:FuncId} {pre post args:List PV} {args':List PV} {obs:List Ob} {res:PV} {t:cu _} (hd:Den P k [] args' obs res)
 (hk:K2 (reloc (H.length+ ·) res) (shutAs H (pre++args++post)++obs.map (relocOb (H.length+ ·)))) (hf:bH H (pre++args++post)=some args':=by simp[bH,eS,L4,L5,dS,dI]):GoCall P ⟨env,H⟩ (some (k,pre,post)) args K2 t:=gp hd hf hk
theorem d6 (id:Nat) {k:FuncId} {pre post args:List PV} {args':List PV} {ob ob':Ob} {obs:List Ob} {res:PV} {t:cu _} (hd:Den P k [ob] args' (ob'::obs) res) (hc:ob.closed)
 (hk:K2 (reloc (lent id H.length) res) ((shutBs H id (pre++args++post)).set id (relocOb (lent id H.length) ob')++obs.map (relocOb (lent id H.length))))
 (ho:H[id]?=some ob:=by exact rfl) (hrw:ob.rw=true:=by exact rfl) (hr:(pre++args++post).any (PV.refsTo id)=true:=by exact rfl) (hf:te H id (pre++args++post)=some args':=by exact rfl) (hs:(shutBs H id (pre++args++post))[id]?=some ob:=by exact rfl):
 GoCall P ⟨env,H⟩ (some (k,pre,post)) args K2 t:=sa id hd ho hrw hc hr hf hs hk
end
section
variable {P:Program} {T:Tab} {m:Nat} {st:St} {Q:KQ}
theorem aw {α:Type} {f:α->St} {μ:α->Nat} {G:α->Prop} {a:α} {t:cu _} {u:cu _} (a':α) (h2:Weak m st (f a')) (h3:G a') (h1:μ a'<μ a:=by(first | omega | (dsimp only;omega))):Ap (DY m f μ G a Q t) .normal st u:=ap a' h1 h2 h3
end
section
theorem a8 {a0:Prop} {a1:Prop} (x0:a0) (x1:a1):a0/\a1:=⟨x0,x1⟩
theorem bB {a0:Prop} {a1:Prop} {a2:Prop} (x0:a0) (x1:a1) (x2:a2):a0/\a1/\a2:=⟨x0,x1,x2⟩
theorem fe {a0:Prop} {a1:Prop} {a2:Prop} {a3:Prop} (x0:a0) (x1:a1) (x2:a2) (x3:a3):a0/\a1/\a2/\a3:=⟨x0,x1,x2,x3⟩
theorem gn {a0:Prop} {a1:Prop} {a2:Prop} {a3:Prop} {a4:Prop} (x0:a0) (x1:a1) (x2:a2) (x3:a3) (x4:a4):a0/\a1/\a2/\a3/\a4:=⟨x0,x1,x2,x3,x4⟩
theorem kX {a0:Prop} {a1:Prop} {a2:Prop} {a3:Prop} {a4:Prop} {a5:Prop} (x0:a0) (x1:a1) (x2:a2) (x3:a3) (x4:a4) (x5:a5):a0/\a1/\a2/\a3/\a4/\a5:=⟨x0,x1,x2,x3,x4,x5⟩
theorem f0 {a0:Prop} {a1:Prop} {a2:Prop} {a3:Prop} {a4:Prop} {a5:Prop} {a6:Prop} (x0:a0) (x1:a1) (x2:a2) (x3:a3) (x4:a4) (x5:a5) (x6:a6):a0/\a1/\a2/\a3/\a4/\a5/\a6:=⟨x0,x1,x2,x3,x4,x5,x6⟩
theorem bU {a0:Prop} {a1:Prop} {a2:Prop} {a3:Prop} {a4:Prop} {a5:Prop} {a6:Prop} {a7:Prop} (x0:a0) (x1:a1) (x2:a2) (x3:a3) (x4:a4) (x5:a5) (x6:a6) (x7:a7):a0/\a1/\a2/\a3/\a4/\a5/\a6/\a7:=⟨x0,x1,x2,x3,x4,x5,x6,x7⟩
theorem a9 {a b:Prop} (h:b) (e:a=b:=by(simp -dsimp(disch:=omega) only[jc,cQ,dA,g9,oq,ot,ou,IntKind.bits,_root_.Int.reduceToNat,_root_.Nat.min_def,_root_.Int.reducePow,dY,cH,_root_.Option.isNone_some,_root_.Option.isNone_none,ow,Lf,eq_self,↓reduceIte,reduceCtorEq,_root_.Nat.reduceAdd,_root_.Nat.reduceMul,_root_.Nat.reduceSub,_root_.Nat.reduceBEq,_root_.Nat.reduceEqDiff,_root_.Nat.reduceLT,_root_.Nat.reduceLeDiff];exact rfl)):a:=e.mpr h
theorem ah {a b c:Prop} (hh:c) (h:b) (e:c->a=b:=by(intro hh;simp -dsimp(disch:=omega) only[hh,jc,cQ,dA,g9,oq,ot,ou,IntKind.bits,_root_.Int.reduceToNat,_root_.Nat.min_def,_root_.Int.reducePow,dY,cH,_root_.Option.isNone_some,_root_.Option.isNone_none,ow,Lf,eq_self,↓reduceIte,reduceCtorEq,_root_.Nat.reduceAdd,_root_.Nat.reduceMul,_root_.Nat.reduceSub,_root_.Nat.reduceBEq,_root_.Nat.reduceEqDiff,_root_.Nat.reduceLT,_root_.Nat.reduceLeDiff];exact rfl)):a:=(e hh).mpr h
theorem aW {a b:Prop} (h:b) (e:a=b:=by(simp -dsimp(disch:=omega) only[_root_.List.replicate,jc,cQ,dA,g9,oq,ot,ou,IntKind.bits,_root_.Int.reduceToNat,_root_.Nat.min_def,_root_.Int.reducePow,dY,cH,_root_.Option.isNone_some,_root_.Option.isNone_none,ow,Lf,eq_self,↓reduceIte,reduceCtorEq,_root_.Nat.reduceAdd,_root_.Nat.reduceMul,_root_.Nat.reduceSub,_root_.Nat.reduceBEq,_root_.Nat.reduceEqDiff,_root_.Nat.reduceLT,_root_.Nat.reduceLeDiff];exact rfl)):a:=e.mpr h
theorem cz {a b c:Prop} (hh:c) (h:b) (e:c->a=b:=by(intro hh;simp -dsimp(disch:=omega) only[hh,_root_.List.replicate,jc,cQ,dA,g9,oq,ot,ou,IntKind.bits,_root_.Int.reduceToNat,_root_.Nat.min_def,_root_.Int.reducePow,dY,cH,_root_.Option.isNone_some,_root_.Option.isNone_none,ow,Lf,eq_self,↓reduceIte,reduceCtorEq,_root_.Nat.reduceAdd,_root_.Nat.reduceMul,_root_.Nat.reduceSub,_root_.Nat.reduceBEq,_root_.Nat.reduceEqDiff,_root_.Nat.reduceLT,_root_.Nat.reduceLeDiff];exact rfl)):a:=(e hh).mpr h
theorem sjp {a b:Prop} (h:b) (e:a=b:=by(simp -dsimp(disch:=omega) only[sh1,sh2,sh3,_root_.List.append_nil,_root_.List.replicate,jc,cQ,dA,g9,oq,ot,ou,IntKind.bits,_root_.Int.reduceToNat,_root_.Nat.min_def,_root_.Int.reducePow,dY,cH,_root_.Option.isNone_some,_root_.Option.isNone_none,ow,Lf,eq_self,↓reduceIte,reduceCtorEq,_root_.Nat.reduceAdd,_root_.Nat.reduceMul,_root_.Nat.reduceSub,_root_.Nat.reduceBEq,_root_.Nat.reduceEqDiff,_root_.Nat.reduceLT,_root_.Nat.reduceLeDiff];exact rfl)):a:=e.mpr h
theorem ajC {a b c:Prop} (hh:c) (h:b) (e:c->a=b:=by(intro hh;simp -dsimp(disch:=omega) only[hh,sh1,sh2,sh3,_root_.List.append_nil,_root_.List.replicate,jc,cQ,dA,g9,oq,ot,ou,IntKind.bits,_root_.Int.reduceToNat,_root_.Nat.min_def,_root_.Int.reducePow,dY,cH,_root_.Option.isNone_some,_root_.Option.isNone_none,ow,Lf,eq_self,↓reduceIte,reduceCtorEq,_root_.Nat.reduceAdd,_root_.Nat.reduceMul,_root_.Nat.reduceSub,_root_.Nat.reduceBEq,_root_.Nat.reduceEqDiff,_root_.Nat.reduceLT,_root_.Nat.reduceLeDiff];exact rfl)):a:=(e hh).mpr h
theorem kI {a b:Prop} (h:b) (e:a=b:=by(simp -dsimp(disch:=omega) only[jJ,iv,ki,iQ,f3,ln,nR,lz,jK,gP,_root_.List.append_nil,_root_.List.replicate,jc,cQ,dA,g9,oq,ot,ou,IntKind.bits,_root_.Int.reduceToNat,_root_.Nat.min_def,_root_.Int.reducePow,dY,cH,_root_.Option.isNone_some,_root_.Option.isNone_none,ow,Lf,eq_self,↓reduceIte,reduceCtorEq,_root_.Nat.reduceAdd,_root_.Nat.reduceMul,_root_.Nat.reduceSub,_root_.Nat.reduceBEq,_root_.Nat.reduceEqDiff,_root_.Nat.reduceLT,_root_.Nat.reduceLeDiff];exact rfl)):a:=e.mpr h
theorem cv {a b:Prop} (h:b) (e:a=b:=by(simp -dsimp(disch:=omega) only[jJ,iv,ki,iQ,f3,ln,nR,lz,jK,gP,sh1,sh2,sh3,_root_.List.append_nil,_root_.List.replicate,jc,cQ,dA,g9,oq,ot,ou,IntKind.bits,_root_.Int.reduceToNat,_root_.Nat.min_def,_root_.Int.reducePow,dY,cH,_root_.Option.isNone_some,_root_.Option.isNone_none,ow,Lf,eq_self,↓reduceIte,reduceCtorEq,_root_.Nat.reduceAdd,_root_.Nat.reduceMul,_root_.Nat.reduceSub,_root_.Nat.reduceBEq,_root_.Nat.reduceEqDiff,_root_.Nat.reduceLT,_root_.Nat.reduceLeDiff];exact rfl)):a:=e.mpr h
theorem aF {a b c:Prop} (hh:c) (h:b) (e:c->a=b:=by(intro hh;simp -dsimp(disch:=omega) only[hh,jJ,iv,ki,iQ,f3,ln,nR,lz,jK,gP,_root_.List.append_nil,_root_.List.replicate,jc,cQ,dA,g9,oq,ot,ou,IntKind.bits,_root_.Int.reduceToNat,_root_.Nat.min_def,_root_.Int.reducePow,dY,cH,_root_.Option.isNone_some,_root_.Option.isNone_none,ow,Lf,eq_self,↓reduceIte,reduceCtorEq,_root_.Nat.reduceAdd,_root_.Nat.reduceMul,_root_.Nat.reduceSub,_root_.Nat.reduceBEq,_root_.Nat.reduceEqDiff,_root_.Nat.reduceLT,_root_.Nat.reduceLeDiff];exact rfl)):a:=(e hh).mpr h
theorem bE {a b c:Prop} (hh:c) (h:b) (e:c->a=b:=by(intro hh;simp -dsimp(disch:=omega) only[hh,jJ,iv,ki,iQ,f3,ln,nR,lz,jK,gP,sh1,sh2,sh3,_root_.List.append_nil,_root_.List.replicate,jc,cQ,dA,g9,oq,ot,ou,IntKind.bits,_root_.Int.reduceToNat,_root_.Nat.min_def,_root_.Int.reducePow,dY,cH,_root_.Option.isNone_some,_root_.Option.isNone_none,ow,Lf,eq_self,↓reduceIte,reduceCtorEq,_root_.Nat.reduceAdd,_root_.Nat.reduceMul,_root_.Nat.reduceSub,_root_.Nat.reduceBEq,_root_.Nat.reduceEqDiff,_root_.Nat.reduceLT,_root_.Nat.reduceLeDiff];exact rfl)):a:=(e hh).mpr h
theorem D7 {a:Prop} (e:a:=by simp(disch:=omega) only[_root_.List.take_zero,_root_.List.length_nil,_root_.List.drop_zero,_root_.List.take_length,_root_.Nat.zero_add,_root_.Nat.le_refl,if_true,↓reduceIte,_root_.List.idxOf?_nil,St.get,qG,bN,ur,qF,qD,qE,dS,dI,_root_.Option.map_some,_root_.List.getD_cons_succ,_root_.List.getD_cons_zero,_root_.List.getElem?_cons_zero,_root_.List.getElem?_cons_succ]):a:=e
theorem j8 {a c:Prop} (hh:c) (e:c->a:=by(intro hh;simp(disch:=omega) only[hh,_root_.List.take_zero,_root_.List.length_nil,_root_.List.drop_zero,_root_.List.take_length,_root_.Nat.zero_add,_root_.Nat.le_refl,if_true,↓reduceIte,_root_.List.idxOf?_nil,St.get,qG,bN,ur,qF,qD,qE,dS,dI,_root_.Option.map_some,_root_.List.getD_cons_succ,_root_.List.getD_cons_zero,_root_.List.getElem?_cons_zero,_root_.List.getElem?_cons_succ])):a:=e hh
theorem ax {α:Sort _} (a:α): ∃ x,a=x:=⟨_,rfl⟩
theorem o_ {a b:Prop} (h:b) (e:a=b:=by(simp(disch:=omega) only[_root_.List.take_zero,_root_.List.length_nil,_root_.List.drop_zero,_root_.List.take_length,_root_.Nat.zero_add,_root_.Nat.le_refl,if_true,↓reduceIte,_root_.List.idxOf?_nil,St.get,qG,bN,ur,qF,qD,qE,dS,dI,_root_.Option.map_some,_root_.List.getD_cons_succ,_root_.List.getD_cons_zero,_root_.List.getElem?_cons_zero,_root_.List.getElem?_cons_succ];exact rfl)):a:=e.mpr h
theorem tA {a b c:Prop} (hh:c) (h:b) (e:c->a=b:=by(intro hh;simp(disch:=omega) only[hh,_root_.List.take_zero,_root_.List.length_nil,_root_.List.drop_zero,_root_.List.take_length,_root_.Nat.zero_add,_root_.Nat.le_refl,if_true,↓reduceIte,_root_.List.idxOf?_nil,St.get,qG,bN,ur,qF,qD,qE,dS,dI,_root_.Option.map_some,_root_.List.getD_cons_succ,_root_.List.getD_cons_zero,_root_.List.getElem?_cons_zero,_root_.List.getElem?_cons_succ];exact rfl)):a:=(e hh).mpr h
theorem fW {m:Nat} {env env':List PV} {H H':List Ob} (keep:List Nat) (he:bO keep env env') (hh:fM keep H keep H')
 (l6:keep.Nodup:=by simp) (hm:tw m keep=true:=by exact rfl):Weak m ⟨env,H⟩ ⟨env',H'⟩:=wk keep l6 hm he hh
theorem BR {p:Prop} [Decidable p] (h:p:=by omega):decide p=true:=iK h
theorem qV {p:Prop} [Decidable p] (h: ¬p:=by omega):decide p=false:=mU h
end
theorem RetOK.lentOwn {T:Tab} {st:St} {rs:List ResultVar} {ob:Ob} {id len s:Nat} {xs:List (List FV)} {cd:Prop} (h1:eB T st rs=some (cd,[.lsl id 0 len s])) (hc:cd) (hx:st.heap[0]?=some ob) (eO:ob.closed) (hrw:ob.rw=true)
 (cF:id≠0) (h2:st.heap[id]?=some (.row true xs)):RetOK T rs 1 st [ob,.row true xs] (.lsl 1 0 len s):=by
 have hi:List.idxOf? id [0,id]=some 1:=by
  simp[List.idxOf?_cons,Ne.symm cF]
 refine⟨cd,[.lsl id 0 len s],[0,id],h1,hc,by simp[Ne.symm cF],fun i gq=>?_,?_,rfl,fun j k hj=>?_,fun o ho=>?_⟩
 .have:i=0:=by omega
  subst this;rfl
 .simp[bN,qG,ur,qD,hi]
 .have jf:lW st.heap [0,id] (bN [.lsl id 0 len s])=[]:=by simp[bN,lW,tv,tu,hi]
  rw[jf]
  match j,hj with
  | 0,hj=>simp at hj;subst hj;simpa [shutIds] using hx
  | 1,hj=>simp at hj;subst hj;simpa [shutIds] using h2
  | j+2,hj=>simp at hj
 simp at ho
 rcases ho with ho | ho
 .subst ho;exact⟨eO,hrw⟩
 subst ho;exact⟨b',rfl⟩
end Go.AM
