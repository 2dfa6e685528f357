/- IntegralEliminates and IntegralTotals hold:for every list of numbers and every number,and for every two lists of numbers,the laws answer true,and the lists read behind the call as they read before. -/
import Derived.Test.YtjjbkjgifdhlcaaGreatT13
import Derived.Test.YtjjbkjgifdhlcaaGreatT19
import Derived.Test.YtjjbkjgifdhlcaaGreatT1
set_option linter.all false
namespace Go.Proofs.YtjjbkjgifdhlcaaGreat
open Go.ChangeShapes Go.WideShapes Go.ChangeAt Go.RowKit
set_option maxRecDepth 100000 in
theorem l9 (os:Os) (started:os.Started) (H:Type) (enc:TypeId×Value->H):
 ReturnsInHanded {} Tryz.checked os 6 .any (Rows.integralEliminatesSpec.pre6 enc Tryz.prog Tryz.f6 Rows.integralEliminatesRow.domain false) (Rows.integralEliminatesSpec.post enc Tryz.prog Tryz.f6 false true false false):=by
 refine returnsInHanded_of_change (C:=Tryz.checked) Tryz.own started (by kernel_rfl) Tryz.func6
  (ChangeSpec.witness6 (enc:=enc) (C:=Tryz.checked) false ⟨#[],#[.slice none 0 0,.int .i64 0],[]⟩ 8 (by kernel_rfl) (by kernel_rfl) (by kernel_rfl) (by kernel_rfl)) ?_
 intro W base args ds gs before Ii hW akl _
 have vr: ∀ (j:Nat) t v,Tryz.f6.params[j]?=some t->args[j]?=some v->Value.okWide Tryz.prog W .any base t v:=Ii
 have Y2:=hW
 obtain⟨p,q,hA0,hV,rfl,hfz,oh⟩:=hW
 have hA:DataW.TrodAll enc Tryz.prog W 0 (fun _=>true) true Tryz.f6.params.toList args.toList ds p:=hA0
 rw[Tryz.params6] at hA vr
 obtain⟨v0,v1,d0,d1,p0,p1,rfl,rfl,rfl,h0,h1⟩:=trodAll_two hA
 obtain⟨rfl,rfl⟩:=trodVars_none hV
 obtain⟨u,rfl,rfl,rfl,wu⟩:=open_int Tryz.underlying3 (vr 1 3 v1 rfl rfl) h1
 have h0k:=h0
 obtain⟨fuel,hf⟩:=h0
 clear hA0 Ii
 simp only[List.append_nil] at Y2
 have aL: ∀ x∈p0,x.block<W.heap.size:=fun x hx=>by simpa using Y2.lt x (by simpa using hx)
 obtain⟨l,hw,hl,hr⟩:=vZ (vr 0 22 v0 rfl rfl) hf
 have hu: -9223372036854775808<=u/\u<9223372036854775808:=by
  have h9:=wu;simp[Lit.wf,IntKind.min,IntKind.max,IntKind.signed,IntKind.bits] at h9;omega
 refine(UK hr (jq6 l u hl hw hu)).mono fun e W' ⟨he,hB⟩=>?_
 subst he
 have qV:DataW.Trod enc Tryz.prog W' 0 (fun b=>decide (b<W.heap.size)) true 22 v0 d0 p0:=Below.trod Tryz.laidOut (by kernel_rfl) (of_decide_eq_true (by kernel_rfl)) h0k hB aL
 exact⟨_,rfl,⟨_,_,_,[],_,[],Y2,trodAll_mk1 (shut_bool Tryz.underlying4 true),trodAll_mk2 qV (shut_int Tryz.underlying3 wu),rfl,hB.frame _,fun h=>by cases h⟩⟩
theorem j1:Tryz.pinned.checked.prog.inPlace 6=Rows.integralEliminatesRow.inPlace:=by kernel_rfl
theorem j2:Tryz.pinned.checked.prog.unfollowed 6=Rows.integralEliminatesRow.unfollowed:=by kernel_rfl
theorem j3:Tryz.pinned.checked.prog.recurses 6=Rows.integralEliminatesRow.recurses:=by kernel_rfl
theorem j4:Tryz.pinned.checked.prog.varsNamed 6=Rows.integralEliminatesRow.named:=by kernel_rfl
theorem j5:joinedFacts Tryz.pinned.checked.prog 6 Tryz.f6 Rows.integralEliminatesSpec Rows.integralEliminatesRow=true:=by
 unfold joinedFacts;rw[j1,j2,j3,j4];kernel_rfl
theorem integralEliminates_holds:Rows.IntegralEliminatesSaid:=
 OpenClaim.holds_of_wide 6 Tryz.f6 rfl rfl rfl rfl rfl rfl rfl ⟨rfl,rfl,rfl,rfl,rfl⟩ rfl rfl rfl rfl rfl (by kernel_rfl) Tryz.func6 j5
  (of_decide_eq_true (by kernel_rfl)) (by unfold Func.isWrapper;first | (rw[if_pos (by decide+kernel)];kernel_rfl) | (rw[if_neg (by decide+kernel)];exact⟨rfl,rfl⟩))
  (fun os started H enc _=>l9 os started H enc)
set_option maxRecDepth 100000 in
theorem pF (os:Os) (started:os.Started) (H:Type) (enc:TypeId×Value->H):
 ReturnsInHanded {} Tryz.checked os 7 .any (Rows.integralTotalsSpec.pre6 enc Tryz.prog Tryz.f7 Rows.integralTotalsRow.domain false) (Rows.integralTotalsSpec.post enc Tryz.prog Tryz.f7 false true false false):=by
 refine returnsInHanded_of_change (C:=Tryz.checked) Tryz.own started (by kernel_rfl) Tryz.func7
  (ChangeSpec.witness6 (enc:=enc) (C:=Tryz.checked) false ⟨#[],#[.slice none 0 0,.slice none 0 0],[]⟩ 8 (by kernel_rfl) (by kernel_rfl) (by kernel_rfl) (by kernel_rfl)) ?_
 intro W base args ds gs before Ii hW akl _
 have vr: ∀ (j:Nat) t v,Tryz.f7.params[j]?=some t->args[j]?=some v->Value.okWide Tryz.prog W .any base t v:=Ii
 have Y2:=hW
 obtain⟨p,q,hA0,hV,rfl,hfz,oh⟩:=hW
 have hA:DataW.TrodAll enc Tryz.prog W 0 (fun _=>true) true Tryz.f7.params.toList args.toList ds p:=hA0
 rw[Tryz.params7] at hA vr
 obtain⟨v0,v1,d0,d1,p0,p1,rfl,rfl,rfl,h0,h1⟩:=trodAll_two hA
 obtain⟨rfl,rfl⟩:=trodVars_none hV
 have h0k:=h0
 have h1k:=h1
 obtain⟨fuel,hf⟩:=h0
 obtain⟨ang,hf1⟩:=h1
 clear hA0 Ii
 simp only[List.append_nil] at Y2
 have aL: ∀ x∈p0,x.block<W.heap.size:=fun x hx=>by simpa using Y2.lt x (by simp[hx])
 have akn: ∀ x∈p1,x.block<W.heap.size:=fun x hx=>by simpa using Y2.lt x (by simp[hx])
 obtain⟨l,hw,hl,hr⟩:=vZ (vr 0 22 v0 rfl rfl) hf
 obtain⟨l1,hw1,xM,ib⟩:=vZ (vr 1 22 v1 rfl rfl) hf1
 refine(NC hr ib (jq7 l l1 hl hw xM hw1)).mono fun e W' ⟨he,hB⟩=>?_
 subst he
 have qV:DataW.Trod enc Tryz.prog W' 0 (fun b=>decide (b<W.heap.size)) true 22 v0 d0 p0:=Below.trod Tryz.laidOut (by kernel_rfl) (of_decide_eq_true (by kernel_rfl)) h0k hB aL
 have aaP:DataW.Trod enc Tryz.prog W' 0 (fun b=>decide (b<W.heap.size)) true 22 v1 d1 p1:=Below.trod Tryz.laidOut (by kernel_rfl) (of_decide_eq_true (by kernel_rfl)) h1k hB akn
 exact⟨_,rfl,⟨_,_,_,[],_,[],Y2,trodAll_mk1 (shut_bool Tryz.underlying4 true),trodAll_mk2 qV aaP,rfl,hB.frame _,fun h=>by cases h⟩⟩
theorem jt1:Tryz.pinned.checked.prog.inPlace 7=Rows.integralTotalsRow.inPlace:=by kernel_rfl
theorem jt2:Tryz.pinned.checked.prog.unfollowed 7=Rows.integralTotalsRow.unfollowed:=by kernel_rfl
theorem jt3:Tryz.pinned.checked.prog.recurses 7=Rows.integralTotalsRow.recurses:=by kernel_rfl
theorem jt4:Tryz.pinned.checked.prog.varsNamed 7=Rows.integralTotalsRow.named:=by kernel_rfl
theorem jt5:joinedFacts Tryz.pinned.checked.prog 7 Tryz.f7 Rows.integralTotalsSpec Rows.integralTotalsRow=true:=by
 unfold joinedFacts;rw[jt1,jt2,jt3,jt4];kernel_rfl
theorem integralTotals_holds:Rows.IntegralTotalsSaid:=
 OpenClaim.holds_of_wide 7 Tryz.f7 rfl rfl rfl rfl rfl rfl rfl ⟨rfl,rfl,rfl,rfl,rfl⟩ rfl rfl rfl rfl rfl (by kernel_rfl) Tryz.func7 jt5
  (of_decide_eq_true (by kernel_rfl)) (by unfold Func.isWrapper;first | (rw[if_pos (by decide+kernel)];kernel_rfl) | (rw[if_neg (by decide+kernel)];exact⟨rfl,rfl⟩))
  (fun os started H enc _=>pF os started H enc)
end Go.Proofs.YtjjbkjgifdhlcaaGreat
