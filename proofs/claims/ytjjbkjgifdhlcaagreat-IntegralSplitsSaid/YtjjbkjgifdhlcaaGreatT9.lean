/- The abstract machine:maps whose keys are arrays of ints,in a program. -/
import Derived.Test.YtjjbkjgifdhlcaaGreatT8
import Derived.WideKeyArr
import Derived.Test.YtjjbkjgifdhlcaaGreatT1
open List (getElem?_append_right length_set)
namespace Go.AM
theorem zo {α β:Type} {f:α->Option β}: ∀ l:List α,(∀ x∈l,∃ y,f x=some y)-> ∃ ys,l.mapM f=some ys
 | [],_=>⟨[],rfl⟩
 | x::l,h=>by
  obtain⟨y,hy⟩:=h x (by simp);obtain⟨ys,Ea⟩:=zo l (fun z hz=>h z (ql _ hz));exact⟨y::ys,by rw[List.mapM_cons,hy,Ea];rfl⟩
theorem I_ {P:Program} {k e n:Nat} (A:WideMaps.ArrKey P k e n) (he:P.underlying e=some (.int .i64)) (dX: ∃ m,P.types.size=m+1) (ks:List Int) (hl:ks.length=n) (hb: ∀ x∈ks,-9223372036854775808<=x/\x<9223372036854775808):
 ∃ l,keyOf P k (.agg (ks.map (Value.int .i64)).toArray)=some l:=by
 have hkt:=A.keyType dX
 obtain⟨m,hm⟩:=dX
 obtain⟨ys,Ea⟩:=zo (f:=fun i=>P.keyLits (m+1) e (((ks.map (Value.int .i64)).drop (i*P.cellsOf e)).take (P.cellsOf e))) (List.range n) (fun i hi=>by
  have oL:=List.mem_range.1 hi;rw[A.one,Nat.mul_one,qj (by simp;omega),List.take_succ_cons,List.take_zero,List.getElem_map];have Od:=hb ks[i] (by simp);refine⟨[.int .i64 ks[i]],?_⟩;unfold Program.keyLits;simp only[he];have hw:(Lit.int IntKind.i64 ks[i]).wf=true:=by
   simp only[Lit.wf,IntKind.min,IntKind.max,IntKind.bits,IntKind.signed,w8,decide_eq_true_eq];simp;omega
  simp only[hw,and_self,if_true])
 unfold keyOf
 simp only[A.hu]
 rw[if_pos (by simp[hkt,Value.formed,A.hu,A.size,hl]),hm]
 unfold Program.keyLits
 simp only[A.hu,Value.cells]
 rw[if_pos (by rw[A.size];simpa using hl),Ea]
 exact⟨_,rfl⟩
theorem W_ {P:Program} {t k e n el:Nat} {ti:TypeInfo} {z:Value} {zv:PV} (hu:P.underlying t=some (.map k el)) (hi:P.info? el=some ti) (hz:ti.zero=some z) (hs:still zv=true) (hr: ∀ (w:World) (X:Nat->Prop) (ρ:Places),PRd w X ρ z zv)
 (A:WideMaps.ArrKey P k e n) (he:P.underlying e=some (.int .i64)) (dX: ∃ m,P.types.size=m+1):fO P t (.mp n zv):=
 ⟨k,el,ti,z,hu,hi,hz,hs,hr,A.law,fun ks hl hb=>I_ A he dX ks hl hb⟩
theorem aia (w:World) (X:Nat->Prop) (ρ:Places):PRd w X ρ (.agg #[.bool false,.slice none 0 0,.slice none 0 0]) (.agg [.bool false,.fv (.sl []),.fv (.sl [])]):=by
 refine .agg _ _ rfl (fun i u hu=>?_) (fun i u c hu hc=>?_)
 .match i with
  | 0=>simp at hu;subst hu;rfl
  | 1=>simp at hu;subst hu;rfl
  | 2=>simp at hu;subst hu;rfl
  | i+3=>simp at hu
 match i with
 | 0=>simp at hu hc;subst hu;subst hc;exact .fv _ _ (.lit _ rfl)
 | 1=>simp at hu hc;subst hu;subst hc;exact .fv _ _ .nil
 | 2=>simp at hu hc;subst hu;subst hc;exact .fv _ _ .nil
 | i+3=>simp at hu
theorem aib (w:World) (X:Nat->Prop) (ρ:Places):PRd w X ρ (.int .i64 0) (.int .i64 0):= .fv _ _ (.lit _ rfl)
theorem Weak.nilc {m:Nat} {env:List PV} {H:List Ob} {st':St} (b j s:Nat) (rwb:Bool) (cs:List PV) (hs:0<s) (hb:H[b]?=some (.box rwb cs)) (hj:cs[j]?=some .nilsl)
 (h2:Weak m ⟨env,H.set b (.box rwb (cs.set j (.lsl H.length 0 0 s)))++[.row true []]⟩ st'):Weak m ⟨env,H⟩ st':=by
 intro c a w lB ⟨X,ρ,h,pQ,hd,VM⟩
 have hbl:b<H.length:=(List.getElem?_eq_some_iff.1 hb).1
 have lD:j<cs.length:=(List.getElem?_eq_some_iff.1 hj).1
 have dT:ρ.Le (ρ++[some ⟨none,0,s,0⟩]):=Places.Le.append ρ _
 have pP: ∀ {v:Value} {y:PV},PRd w X ρ v y->PRd w X (ρ++[some ⟨none,0,s,0⟩]) v y:=fun hy=>hy.mono (Same.refl X w) (fun _ _ h=>h) dT
 have key: ∀ (id:Nat) p o,(ρ++[some ⟨none,0,s,0⟩])[id]?=some (some p)->(H.set b (.box rwb (cs.set j (.lsl H.length 0 0 s)))++[Ob.row true []])[id]?=some o->
  (ρ[id]?=some (some p)/\ ∃ o2,H[id]?=some o2/\o2.rw=o.rw/\((id=b/\o= .box rwb (cs.set j (.lsl H.length 0 0 s)))\/(o=o2)))\/(p=⟨none,0,s,0⟩/\o= .row true []):=by
  intro id p o hp ho
  by_cases aH:id<ρ.length
  .rw[qi aH] at hp
   rw[qi (by rw[length_set,<-h.len];exact aH)] at ho
   left
   by_cases hi:b=id
   .subst hi
    rw[qv hbl] at ho
    cases ho
    exact⟨hp,_,hb,rfl,.inl ⟨rfl,rfl⟩⟩
   rw[qm hi] at ho
   exact⟨hp,o,ho,rfl,.inr rfl⟩
  rw[getElem?_append_right (by omega)] at hp
  rw[getElem?_append_right (by rw[length_set,<-h.len];omega),length_set,<-h.len] at ho
  right
  cases hi:id - ρ.length with
  | zero=>rw[hi] at hp ho;simp at hp ho;exact⟨hp.symm,ho.symm⟩
  | succ j=>rw[hi] at hp;simp at hp
 refine h2 c a w lB ⟨X,ρ++[some ⟨none,0,s,0⟩],⟨by simp[h.len],?_,?_,?_,h.xo,h.xlt,h.ge,h.base.trans dT⟩,⟨pQ.1,fun i v x hv hx=>pP (pQ.2 i v x hv hx)⟩,hd,VM⟩
 .intro id p o hp ho
  rcases key id p o hp ho with⟨h3,o2,h4,_,⟨rfl,rfl⟩ | rfl⟩ | ⟨rfl,rfl⟩
  .obtain⟨⟨g,us,hg,hh,dX,h1,hc⟩,hrw⟩:=h.ob id p _ h3 hb
   refine⟨⟨g,us,hg,hh,by rw[length_set];exact dX,h1,fun k u x hu hx=>?_⟩,hrw⟩
   by_cases hk:j=k
   .subst hk
    rw[qv lD] at hx
    cases hx
    have w5:=(hc j u _ hu hj).nilInv
    subst w5
    have:=PRd.lsl0 (w:=w) (X:=X) (ρ:=ρ++[some ⟨none,0,s,0⟩]) H.length ⟨none,0,s,0⟩ (by rw[<-h.len];simp) rfl
    exact this
   rw[qm hk] at hx
   exact pP (hc k u x hu hx)
  .exact(h.ob id p o h3 h4).keep (Same.refl X w) (fun _ _ hx=>hx) dT (fun _ g _ _=>⟨rfl,Iff.rfl⟩)
  exact⟨⟨hs,by simp,[],by simpa [Place.val] using World.ownsRow_nil w 0 0 s,by simp⟩,by simp⟩
 .intro i k p q o r g hp hq ho hr h3 h4 h5 h6
  rcases key i p o hp ho with⟨h7,o2,h8,h9,_⟩ | ⟨rfl,rfl⟩
  .rcases key k q r hq hr with⟨AK,o3,h11,h12,_⟩ | ⟨rfl,rfl⟩
   .exact h.inj i k p q o2 o3 g h7 AK h8 h11 (by rw[h9];exact h3) (by rw[h12];exact h4) h5 h6
   simp at h6
  simp at h5
 intro i p o g hp ho h3 h4
 rcases key i p o hp ho with⟨h7,o2,h8,h9,_⟩ | ⟨rfl,rfl⟩
 .exact h.own i p o2 g h7 h8 (by rw[h9];exact h3) h4
 simp at h4
theorem nW {keep:List Nat}: ∀ {a b:List PV},a.length=b.length->(∀ (i:Nat) x y,a[i]?=some x->b[i]?=some y->cC keep x y)->dp keep a b
 | [],[],_,_=>trivial
 | x::a,y::b,hl,h=>⟨h 0 x y rfl rfl,nW (by simpa using hl) (fun i u v hu hv=>h (i+1) u v hu hv)⟩
 | [],_::_,hl,_=>by simp at hl
 | _::_,[],hl,_=>by simp at hl
theorem zp {keep:List Nat} {H:List Ob}: ∀ {ids:List Nat} {H':List Ob},ids.length=H'.length->(∀ (i k:Nat) o',ids[i]?=some k->H'[i]?=some o'-> ∃ o,H[k]?=some o/\fK keep o o')->et keep H ids H'
 | [],[],_,_=>trivial
 | k::ids,o::os,hl,h=>⟨by obtain⟨o2,h1,h2⟩:=h 0 k o rfl rfl;rw[h1];exact h2,zp (by simpa using hl) (fun i k o hk ho=>h (i+1) k o hk ho)⟩
 | [],_::_,hl,_=>by simp at hl
 | _::_,[],hl,_=>by simp at hl
theorem Weak.nilcs {m:Nat} {env:List PV} {st':St} (s:Nat) (rwb:Bool) (hs:0<s): ∀ (k:Nat) (pre:List PV) (H:List Ob) (H0:List Ob),H= .box rwb (pre++List.replicate k .nilsl)::H0->
 Weak m ⟨env,.box rwb (pre++(List.range k).map (fun i=> .lsl (H0.length+1+i) 0 0 s))::H0++List.replicate k (.row true [])⟩ st'->Weak m ⟨env,H⟩ st'
 | 0,pre,H,H0,hH,h=>by
  subst hH;simpa using h
 | k+1,pre,H,H0,hH,h=>by
  subst hH;refine Weak.nilc 0 pre.length s rwb _ hs rfl (by rw[getElem?_append_right (qp _),Nat.sub_self];rfl) ?_;refine Weak.nilcs s rwb hs k (pre++[.lsl (H0.length+1) 0 0 s]) _ (H0++[.row true []]) ?_ ?_
  .rw[List.set_append_right _ _ (qp _),Nat.sub_self,List.replicate_succ];simp
  have e:(List.range (k+1)).map (fun i=>PV.lsl (H0.length+1+i) 0 0 s)= .lsl (H0.length+1) 0 0 s::(List.range k).map (fun i=>PV.lsl ((H0++[Ob.row true []]).length+1+i) 0 0 s):=by
   rw[List.range_succ_eq_map,List.map_cons,List.map_map];congr 1;refine List.map_congr_left fun i _=>?_
   simp only[Function.comp,qe,List.length_cons,List.length_nil];congr 1;omega
  rw[e,List.replicate_succ] at h;simpa using h
end Go.AM
namespace Go.AM
theorem tN {m:Nat} {env env':List PV} {H H':List Ob} (keep:List Nat) (he:bk keep env env':=by(simp[bk,dV,cC,dp]<;>try omega)) (hh:et keep H keep H':=by(first | (simp[et,fK,dp,cC,dL,A_,HB,gZ];done) | trivial))
 (mb:keep.Nodup:=by simp) (hm:vi m keep=true:=by exact rfl):Weak m ⟨env,H⟩ ⟨env',H'⟩:=wk keep mb hm he hh
theorem bQ {m:Nat} {env env':List PV} {H H':List Ob} (keep:List Nat) (he:bk keep env env':=by(simp[bk,dV,cC,dp]<;>try omega)) (hh:et keep H keep H':=by(first | (simp[et,fK,dp,cC];done) | trivial))
 (mb:keep.Nodup:=by simp) (hm:vi m keep=true:=by exact rfl):Weak m ⟨env,H⟩ ⟨env',H'⟩:=wk keep mb hm he hh
theorem ag {a b:Prop} (h2:b) (h1:a:=by omega):a/\b:=⟨h1,h2⟩
theorem bj {T:Tab} {st:St} {rs:List ResultVar} {res:PV} {cd:Prop} {vs:List PV} (h2:tL st.heap [] (cM vs)=some res) (h1:gQ T st rs=some (cd,vs):=by exact rfl)
 (hc:cd:=by(first | exact⟨cW,cW⟩ | exact⟨cW,cW,cW⟩ | exact⟨⟨rfl,qp 3⟩,cW⟩ | exact⟨⟨rfl,qp 3⟩,cW,cW⟩ | exact⟨cW,cW,cW,cW⟩)):RetOK T rs 0 st [] res:=Sn h1 hc h2
section
variable {P:Program} {env:List PV} {H:List Ob} {K2:PV->List Ob->Prop}
theorem kO {k:FuncId} {pre post args:List PV} {args':List PV} {obs:List Ob} {res:PV} {t:cF _} (hd:Den P k [] args' obs res)
 (hk:K2 (reloc (H.length+ ·) res) (shutAs H (pre++args++post)++obs.map (relocOb (H.length+ ·)))) (hf:cw H (pre++args++post)=some args':=by simp[cw,gW,iw,gJ,lJ,fS,fB]):GoCall P ⟨env,H⟩ (some (k,pre,post)) args K2 t:=gp hd hf hk
theorem aV {k:FuncId} {pre post args:List PV} {args':List PV} {obs:List Ob} {res:PV} {t:cF _} (hd:Den P k [] args' obs res)
 (hk:K2 (reloc (H.length+ ·) res) (shutAs H (pre++args++post)++obs.map (relocOb (H.length+ ·)))) (hf:cw H (pre++args++post)=some args':=by exact rfl):GoCall P ⟨env,H⟩ (some (k,pre,post)) args K2 t:=gp hd hf hk
theorem zq {k:FuncId} {pre post args:List PV} {args':List PV} {obs:List Ob} {res:PV} {t:cF _} (hd:Den P k [] args' obs res)
 (hk:K2 (reloc (H.length+ ·) res) (shutAs H (pre++args++post)++obs.map (relocOb (H.length+ ·)))) (hf:cw H (pre++args++post)=some args':=by simp[cw,gW,EN,Ma,fS,fB]):GoCall P ⟨env,H⟩ (some (k,pre,post)) args K2 t:=gp hd hf hk
theorem ig (id:Nat) {k:FuncId} {pre post args:List PV} {args':List PV} {ob ob':Ob} {obs:List Ob} {res:PV} {t:cF _} (hd:Den P k [ob] args' (ob'::obs) res) (hc:ob.closed)
 (hk:K2 (reloc (lent id H.length) res) ((shutBs H id (pre++args++post)).set id (relocOb (lent id H.length) ob')++obs.map (relocOb (lent id H.length))))
 (ho:H[id]?=some ob:=by exact rfl) (hrw:ob.rw=true:=by exact rfl) (hr:(pre++args++post).any (PV.refsTo id)=true:=by exact rfl) (hf:wb H id (pre++args++post)=some args':=by exact rfl) (hs:(shutBs H id (pre++args++post))[id]?=some ob:=by exact rfl):
 GoCall P ⟨env,H⟩ (some (k,pre,post)) args K2 t:=gl_ id hd ho hrw hc hr hf hs hk
end
section
variable {P:Program} {T:Tab} {m:Nat} {st:St} {Q:KQ}
theorem aw {α:Type} {f:α->St} {μ:α->Nat} {G:α->Prop} {a:α} {t:cF _} {u:cF _} (a':α) (h2:Weak m st (f a')) (h3:G a') (h1:μ a'<μ a:=by(first | omega | (dsimp only;omega))):Ap (GH m f μ G a Q t) .normal st u:=ap a' h1 h2 h3
end
section
theorem aP {a0:Prop} {a1:Prop} (x0:a0) (x1:a1):a0/\a1:=⟨x0,x1⟩
theorem bR {a0:Prop} {a1:Prop} {a2:Prop} (x0:a0) (x1:a1) (x2:a2):a0/\a1/\a2:=⟨x0,x1,x2⟩
theorem eg {a0:Prop} {a1:Prop} {a2:Prop} {a3:Prop} (x0:a0) (x1:a1) (x2:a2) (x3:a3):a0/\a1/\a2/\a3:=⟨x0,x1,x2,x3⟩
theorem im {a0:Prop} {a1:Prop} {a2:Prop} {a3:Prop} {a4:Prop} (x0:a0) (x1:a1) (x2:a2) (x3:a3) (x4:a4):a0/\a1/\a2/\a3/\a4:=⟨x0,x1,x2,x3,x4⟩
theorem fE {a0:Prop} {a1:Prop} {a2:Prop} {a3:Prop} {a4:Prop} {a5:Prop} (x0:a0) (x1:a1) (x2:a2) (x3:a3) (x4:a4) (x5:a5):a0/\a1/\a2/\a3/\a4/\a5:=⟨x0,x1,x2,x3,x4,x5⟩
theorem fw {a0:Prop} {a1:Prop} {a2:Prop} {a3:Prop} {a4:Prop} {a5:Prop} {a6:Prop} (x0:a0) (x1:a1) (x2:a2) (x3:a3) (x4:a4) (x5:a5) (x6:a6):a0/\a1/\a2/\a3/\a4/\a5/\a6:=⟨x0,x1,x2,x3,x4,x5,x6⟩
theorem bT {a0:Prop} {a1:Prop} {a2:Prop} {a3:Prop} {a4:Prop} {a5:Prop} {a6:Prop} {a7:Prop} (x0:a0) (x1:a1) (x2:a2) (x3:a3) (x4:a4) (x5:a5) (x6:a6) (x7:a7):a0/\a1/\a2/\a3/\a4/\a5/\a6/\a7:=⟨x0,x1,x2,x3,x4,x5,x6,x7⟩
theorem ba {a b:Prop} (h:b) (e:a=b:=by(simp -dsimp(disch:=omega) only[jC,cV,dI,iM,pF,pG,pH,IntKind.bits,_root_.Int.reduceToNat,_root_.Nat.min_def,_root_.Int.reducePow,ed,cN,_root_.Option.isNone_some,_root_.Option.isNone_none,jJ,Oz,eq_self,↓reduceIte,reduceCtorEq,_root_.Nat.reduceAdd,_root_.Nat.reduceMul,_root_.Nat.reduceSub,_root_.Nat.reduceBEq,_root_.Nat.reduceEqDiff,_root_.Nat.reduceLT,_root_.Nat.reduceLeDiff];exact rfl)):a:=e.mpr h
theorem ae {a b c:Prop} (hh:c) (h:b) (e:c->a=b:=by(intro hh;simp -dsimp(disch:=omega) only[hh,jC,cV,dI,iM,pF,pG,pH,IntKind.bits,_root_.Int.reduceToNat,_root_.Nat.min_def,_root_.Int.reducePow,ed,cN,_root_.Option.isNone_some,_root_.Option.isNone_none,jJ,Oz,eq_self,↓reduceIte,reduceCtorEq,_root_.Nat.reduceAdd,_root_.Nat.reduceMul,_root_.Nat.reduceSub,_root_.Nat.reduceBEq,_root_.Nat.reduceEqDiff,_root_.Nat.reduceLT,_root_.Nat.reduceLeDiff];exact rfl)):a:=(e hh).mpr h
theorem aY {a b:Prop} (h:b) (e:a=b:=by(simp -dsimp(disch:=omega) only[_root_.List.replicate,jC,cV,dI,iM,pF,pG,pH,IntKind.bits,_root_.Int.reduceToNat,_root_.Nat.min_def,_root_.Int.reducePow,ed,cN,_root_.Option.isNone_some,_root_.Option.isNone_none,jJ,Oz,eq_self,↓reduceIte,reduceCtorEq,_root_.Nat.reduceAdd,_root_.Nat.reduceMul,_root_.Nat.reduceSub,_root_.Nat.reduceBEq,_root_.Nat.reduceEqDiff,_root_.Nat.reduceLT,_root_.Nat.reduceLeDiff];exact rfl)):a:=e.mpr h
theorem bU {a b c:Prop} (hh:c) (h:b) (e:c->a=b:=by(intro hh;simp -dsimp(disch:=omega) only[hh,_root_.List.replicate,jC,cV,dI,iM,pF,pG,pH,IntKind.bits,_root_.Int.reduceToNat,_root_.Nat.min_def,_root_.Int.reducePow,ed,cN,_root_.Option.isNone_some,_root_.Option.isNone_none,jJ,Oz,eq_self,↓reduceIte,reduceCtorEq,_root_.Nat.reduceAdd,_root_.Nat.reduceMul,_root_.Nat.reduceSub,_root_.Nat.reduceBEq,_root_.Nat.reduceEqDiff,_root_.Nat.reduceLT,_root_.Nat.reduceLeDiff];exact rfl)):a:=(e hh).mpr h
theorem D6 {a b:Prop} (h:b) (e:a=b:=by(simp -dsimp(disch:=omega) only[sh1,sh2,sh3,_root_.List.append_nil,_root_.List.replicate,jC,cV,dI,iM,pF,pG,pH,IntKind.bits,_root_.Int.reduceToNat,_root_.Nat.min_def,_root_.Int.reducePow,ed,cN,_root_.Option.isNone_some,_root_.Option.isNone_none,jJ,Oz,eq_self,↓reduceIte,reduceCtorEq,_root_.Nat.reduceAdd,_root_.Nat.reduceMul,_root_.Nat.reduceSub,_root_.Nat.reduceBEq,_root_.Nat.reduceEqDiff,_root_.Nat.reduceLT,_root_.Nat.reduceLeDiff];exact rfl)):a:=e.mpr h
theorem nX {a b c:Prop} (hh:c) (h:b) (e:c->a=b:=by(intro hh;simp -dsimp(disch:=omega) only[hh,sh1,sh2,sh3,_root_.List.append_nil,_root_.List.replicate,jC,cV,dI,iM,pF,pG,pH,IntKind.bits,_root_.Int.reduceToNat,_root_.Nat.min_def,_root_.Int.reducePow,ed,cN,_root_.Option.isNone_some,_root_.Option.isNone_none,jJ,Oz,eq_self,↓reduceIte,reduceCtorEq,_root_.Nat.reduceAdd,_root_.Nat.reduceMul,_root_.Nat.reduceSub,_root_.Nat.reduceBEq,_root_.Nat.reduceEqDiff,_root_.Nat.reduceLT,_root_.Nat.reduceLeDiff];exact rfl)):a:=(e hh).mpr h
theorem GU {a b:Prop} (h:b) (e:a=b:=by(simp -dsimp(disch:=omega) only[jj,iV,iw,jk,gK,mo,oW,mq,kr,gJ,_root_.List.append_nil,_root_.List.replicate,jC,cV,dI,iM,pF,pG,pH,IntKind.bits,_root_.Int.reduceToNat,_root_.Nat.min_def,_root_.Int.reducePow,ed,cN,_root_.Option.isNone_some,_root_.Option.isNone_none,jJ,Oz,eq_self,↓reduceIte,reduceCtorEq,_root_.Nat.reduceAdd,_root_.Nat.reduceMul,_root_.Nat.reduceSub,_root_.Nat.reduceBEq,_root_.Nat.reduceEqDiff,_root_.Nat.reduceLT,_root_.Nat.reduceLeDiff];exact rfl)):a:=e.mpr h
theorem sjq {a b:Prop} (h:b) (e:a=b:=by(simp -dsimp(disch:=omega) only[jj,iV,iw,jk,gK,mo,oW,mq,kr,gJ,sh1,sh2,sh3,_root_.List.append_nil,_root_.List.replicate,jC,cV,dI,iM,pF,pG,pH,IntKind.bits,_root_.Int.reduceToNat,_root_.Nat.min_def,_root_.Int.reducePow,ed,cN,_root_.Option.isNone_some,_root_.Option.isNone_none,jJ,Oz,eq_self,↓reduceIte,reduceCtorEq,_root_.Nat.reduceAdd,_root_.Nat.reduceMul,_root_.Nat.reduceSub,_root_.Nat.reduceBEq,_root_.Nat.reduceEqDiff,_root_.Nat.reduceLT,_root_.Nat.reduceLeDiff];exact rfl)):a:=e.mpr h
theorem b_ {a b c:Prop} (hh:c) (h:b) (e:c->a=b:=by(intro hh;simp -dsimp(disch:=omega) only[hh,jj,iV,iw,jk,gK,mo,oW,mq,kr,gJ,_root_.List.append_nil,_root_.List.replicate,jC,cV,dI,iM,pF,pG,pH,IntKind.bits,_root_.Int.reduceToNat,_root_.Nat.min_def,_root_.Int.reducePow,ed,cN,_root_.Option.isNone_some,_root_.Option.isNone_none,jJ,Oz,eq_self,↓reduceIte,reduceCtorEq,_root_.Nat.reduceAdd,_root_.Nat.reduceMul,_root_.Nat.reduceSub,_root_.Nat.reduceBEq,_root_.Nat.reduceEqDiff,_root_.Nat.reduceLT,_root_.Nat.reduceLeDiff];exact rfl)):a:=(e hh).mpr h
theorem Y8 {a b c:Prop} (hh:c) (h:b) (e:c->a=b:=by(intro hh;simp -dsimp(disch:=omega) only[hh,jj,iV,iw,jk,gK,mo,oW,mq,kr,gJ,sh1,sh2,sh3,_root_.List.append_nil,_root_.List.replicate,jC,cV,dI,iM,pF,pG,pH,IntKind.bits,_root_.Int.reduceToNat,_root_.Nat.min_def,_root_.Int.reducePow,ed,cN,_root_.Option.isNone_some,_root_.Option.isNone_none,jJ,Oz,eq_self,↓reduceIte,reduceCtorEq,_root_.Nat.reduceAdd,_root_.Nat.reduceMul,_root_.Nat.reduceSub,_root_.Nat.reduceBEq,_root_.Nat.reduceEqDiff,_root_.Nat.reduceLT,_root_.Nat.reduceLeDiff];exact rfl)):a:=(e hh).mpr h
theorem Hh {a:Prop} (e:a:=by simp(disch:=omega) only[_root_.List.take_zero,_root_.List.length_nil,_root_.List.drop_zero,_root_.List.take_length,_root_.Nat.zero_add,_root_.Nat.le_refl,if_true,↓reduceIte,_root_.List.idxOf?_nil,St.get,tL,cM,zc,zd,t_,tK,fS,fB,_root_.Option.map_some,_root_.List.getD_cons_succ,_root_.List.getD_cons_zero,_root_.List.getElem?_cons_zero,_root_.List.getElem?_cons_succ]):a:=e
theorem l7 {a c:Prop} (hh:c) (e:c->a:=by(intro hh;simp(disch:=omega) only[hh,_root_.List.take_zero,_root_.List.length_nil,_root_.List.drop_zero,_root_.List.take_length,_root_.Nat.zero_add,_root_.Nat.le_refl,if_true,↓reduceIte,_root_.List.idxOf?_nil,St.get,tL,cM,zc,zd,t_,tK,fS,fB,_root_.Option.map_some,_root_.List.getD_cons_succ,_root_.List.getD_cons_zero,_root_.List.getElem?_cons_zero,_root_.List.getElem?_cons_succ])):a:=e hh
theorem ax {α:Sort _} (a:α): ∃ x,a=x:=⟨_,rfl⟩
theorem qR {a b:Prop} (h:b) (e:a=b:=by(simp(disch:=omega) only[_root_.List.take_zero,_root_.List.length_nil,_root_.List.drop_zero,_root_.List.take_length,_root_.Nat.zero_add,_root_.Nat.le_refl,if_true,↓reduceIte,_root_.List.idxOf?_nil,St.get,tL,cM,zc,zd,t_,tK,fS,fB,_root_.Option.map_some,_root_.List.getD_cons_succ,_root_.List.getD_cons_zero,_root_.List.getElem?_cons_zero,_root_.List.getElem?_cons_succ];exact rfl)):a:=e.mpr h
theorem DG {a b c:Prop} (hh:c) (h:b) (e:c->a=b:=by(intro hh;simp(disch:=omega) only[hh,_root_.List.take_zero,_root_.List.length_nil,_root_.List.drop_zero,_root_.List.take_length,_root_.Nat.zero_add,_root_.Nat.le_refl,if_true,↓reduceIte,_root_.List.idxOf?_nil,St.get,tL,cM,zc,zd,t_,tK,fS,fB,_root_.Option.map_some,_root_.List.getD_cons_succ,_root_.List.getD_cons_zero,_root_.List.getElem?_cons_zero,_root_.List.getElem?_cons_succ];exact rfl)):a:=(e hh).mpr h
theorem eS {m:Nat} {env env':List PV} {H H':List Ob} (keep:List Nat) (he:bk keep env env') (hh:et keep H keep H')
 (mb:keep.Nodup:=by simp) (hm:vi m keep=true:=by exact rfl):Weak m ⟨env,H⟩ ⟨env',H'⟩:=wk keep mb hm he hh
theorem GV {p:Prop} [Decidable p] (h:p:=by omega):decide p=true:=ir h
theorem sA {p:Prop} [Decidable p] (h: ¬p:=by omega):decide p=false:=m5 h
end
theorem RetOK.lentOwn {T:Tab} {st:St} {rs:List ResultVar} {ob:Ob} {id len s:Nat} {xs:List (List FV)} {cd:Prop} (h1:gQ T st rs=some (cd,[.lsl id 0 len s])) (hc:cd) (hx:st.heap[0]?=some ob) (fC:ob.closed) (hrw:ob.rw=true)
 (dk:id≠0) (h2:st.heap[id]?=some (.row true xs)):RetOK T rs 1 st [ob,.row true xs] (.lsl 1 0 len s):=by
 have hi:List.idxOf? id [0,id]=some 1:=by
  simp[List.idxOf?_cons,Ne.symm dk]
 refine⟨cd,[.lsl id 0 len s],[0,id],h1,hc,by simp[Ne.symm dk],fun i iq=>?_,?_,rfl,fun j k hj=>?_,fun o ho=>?_⟩
 .have:i=0:=by omega
  subst this;rfl
 .simp[cM,tL,zc,t_,hi]
 .have l_:sn st.heap [0,id] (cM [.lsl id 0 len s])=[]:=by simp[cM,sn,zg,ze,hi]
  rw[l_]
  match j,hj with
  | 0,hj=>simp at hj;subst hj;simpa [shutIds] using hx
  | 1,hj=>simp at hj;subst hj;simpa [shutIds] using h2
  | j+2,hj=>simp at hj
 simp at ho
 rcases ho with ho | ho
 .subst ho;exact⟨fC,hrw⟩
 subst ho;exact⟨cW,rfl⟩
end Go.AM
