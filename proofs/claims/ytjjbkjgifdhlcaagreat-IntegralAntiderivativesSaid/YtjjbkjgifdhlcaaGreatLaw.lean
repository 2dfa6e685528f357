/- IntegralAntiderivatives holds:for every list of numbers and every number the law answers true,and the list reads behind the call as it read before. -/
import Derived.Test.YtjjbkjgifdhlcaaGreatT14
import Derived.Test.YtjjbkjgifdhlcaaGreatT19
import Derived.Test.YtjjbkjgifdhlcaaGreatT1
namespace Go.Proofs.YtjjbkjgifdhlcaaGreat
open Go.ChangeShapes Go.WideShapes Go.ChangeAt Go.RowKit
set_option maxRecDepth 100000 in
theorem integralAntiderivatives_lifted (os:Os) (started:os.Started) (H:Type) (enc:TypeId×Value->H):
 ReturnsInHanded {} Tryz.checked os 4 .any (Rows.integralAntiderivativesSpec.pre6 enc Tryz.prog Tryz.f4 Rows.integralAntiderivativesRow.domain false) (Rows.integralAntiderivativesSpec.post enc Tryz.prog Tryz.f4 false true false false):=by
 refine returnsInHanded_of_change (C:=Tryz.checked) Tryz.own started (by kernel_rfl) Tryz.func4
  (ChangeSpec.witness6 (enc:=enc) (C:=Tryz.checked) false ⟨#[],#[.slice none 0 0,.int .i64 0],[]⟩ 8 (by kernel_rfl) (by kernel_rfl) (by kernel_rfl) (by kernel_rfl)) ?_
 intro W base args ds gs before hval0 hW hcnd _
 have hval: ∀ (j:Nat) t v,Tryz.f4.params[j]?=some t->args[j]?=some v->Value.okWide Tryz.prog W .any base t v:=hval0
 have hW':=hW
 obtain⟨p,q,hA0,hV,rfl,hfz,hnd⟩:=hW
 have hA:DataW.TrodAll enc Tryz.prog W 0 (fun _=>true) true Tryz.f4.params.toList args.toList ds p:=hA0
 rw[Tryz.params4] at hA hval
 obtain⟨v0,v1,d0,d1,p0,p1,rfl,rfl,rfl,h0,h1⟩:=trodAll_two hA
 obtain⟨rfl,rfl⟩:=trodVars_none hV
 obtain⟨u,rfl,rfl,rfl,wu⟩:=open_int Tryz.underlying3 (hval 1 3 v1 rfl rfl) h1
 have h0k:=h0
 obtain⟨fuel,hf⟩:=h0
 clear hA0 hval0
 simp only[List.append_nil] at hW'
 have hlt: ∀ x∈p0,x.block<W.heap.size:=fun x hx=>by simpa using hW'.lt x (by simpa using hx)
 obtain⟨l,hw,hl,hr⟩:=ints_read (hval 0 22 v0 rfl rfl) hf
 have hu: -9223372036854775808<=u/\u<9223372036854775808:=by
  have h9:=wu;simp[Lit.wf,IntKind.min,IntKind.max,IntKind.signed,IntKind.bits] at h9;omega
 refine(law_two hr (iq4 l u hl hw hu)).mono fun e W' ⟨he,hB⟩=>?_
 subst he
 have hargs:DataW.Trod enc Tryz.prog W' 0 (fun b=>decide (b<W.heap.size)) true 22 v0 d0 p0:=Below.trod Tryz.laidOut (by kernel_rfl) (of_decide_eq_true (by kernel_rfl)) h0k hB hlt
 exact⟨_,rfl,⟨_,_,_,[],_,[],hW',trodAll_mk1 (shut_bool Tryz.underlying4 true),trodAll_mk2 hargs (shut_int Tryz.underlying3 wu),rfl,hB.frame _,fun h=>by cases h⟩⟩
theorem j1:Tryz.pinned.checked.prog.inPlace 4=Rows.integralAntiderivativesRow.inPlace:=by kernel_rfl
theorem j2:Tryz.pinned.checked.prog.unfollowed 4=Rows.integralAntiderivativesRow.unfollowed:=by kernel_rfl
theorem j3:Tryz.pinned.checked.prog.recurses 4=Rows.integralAntiderivativesRow.recurses:=by kernel_rfl
theorem j4:Tryz.pinned.checked.prog.varsNamed 4=Rows.integralAntiderivativesRow.named:=by kernel_rfl
theorem j5:joinedFacts Tryz.pinned.checked.prog 4 Tryz.f4 Rows.integralAntiderivativesSpec Rows.integralAntiderivativesRow=true:=by
 unfold joinedFacts;rw[j1,j2,j3,j4];kernel_rfl
theorem integralAntiderivatives_holds:Rows.IntegralAntiderivativesSaid:=
 OpenClaim.holds_of_wide 4 Tryz.f4 rfl rfl rfl rfl rfl rfl rfl ⟨rfl,rfl,rfl,rfl,rfl⟩ rfl rfl rfl rfl rfl (by kernel_rfl) Tryz.func4 j5
  (of_decide_eq_true (by kernel_rfl)) (by unfold Func.isWrapper;first | (rw[if_pos (by decide+kernel)];kernel_rfl) | (rw[if_neg (by decide+kernel)];exact⟨rfl,rfl⟩))
  (fun os started H enc _=>integralAntiderivatives_lifted os started H enc)
end Go.Proofs.YtjjbkjgifdhlcaaGreat
