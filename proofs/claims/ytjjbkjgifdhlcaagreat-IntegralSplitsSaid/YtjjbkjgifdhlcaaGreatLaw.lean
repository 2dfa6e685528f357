/- IntegralSplits holds:for every list of numbers the law answers true,and the list reads behind the call as it read before. -/
import Derived.Test.YtjjbkjgifdhlcaaGreatT13
import Derived.Test.YtjjbkjgifdhlcaaGreatT19
import Derived.Test.YtjjbkjgifdhlcaaGreatT1
namespace Go.Proofs.YtjjbkjgifdhlcaaGreat
open Go.ChangeShapes Go.WideShapes Go.ChangeAt Go.RowKit
set_option maxRecDepth 100000 in
theorem oy (os:Os) (started:os.Started) (H:Type) (enc:TypeId×Value->H):
 ReturnsInHanded {} Tryz.checked os 11 .any (Rows.integralSplitsSpec.pre6 enc Tryz.prog Tryz.f11 Rows.integralSplitsRow.domain false) (Rows.integralSplitsSpec.post enc Tryz.prog Tryz.f11 false true false false):=by
 refine returnsInHanded_of_change (C:=Tryz.checked) Tryz.own started (by kernel_rfl) Tryz.func11
  (ChangeSpec.witness6 (enc:=enc) (C:=Tryz.checked) false ⟨#[],#[.slice none 0 0],[]⟩ 8 (by kernel_rfl) (by kernel_rfl) (by kernel_rfl) (by kernel_rfl)) ?_
 intro W base args ds gs before Xa hW amM _
 have I': ∀ (j:Nat) t v,Tryz.f11.params[j]?=some t->args[j]?=some v->Value.okWide Tryz.prog W .any base t v:=Xa
 have hW':=hW
 obtain⟨p,q,hA0,hV,rfl,hfz,mb⟩:=hW
 have hA:DataW.TrodAll enc Tryz.prog W 0 (fun _=>true) true Tryz.f11.params.toList args.toList ds p:=hA0
 rw[Tryz.params11] at hA I'
 obtain⟨v0,d0,rfl,rfl,h0⟩:=trodAll_one hA
 obtain⟨rfl,rfl⟩:=trodVars_none hV
 have h0k:=h0
 obtain⟨fuel,hf⟩:=h0
 clear hA0 Xa
 simp only[List.append_nil] at hW'
 have aH: ∀ x∈p,x.block<W.heap.size:=fun x hx=>by simpa using hW'.lt x hx
 obtain⟨l,hw,hl,hr⟩:=LX (I' 0 22 v0 rfl rfl) hf
 refine(S2 hr (ah7 l hl hw)).mono fun e W' ⟨he,hB⟩=>?_
 subst he
 have tP:DataW.Trod enc Tryz.prog W' 0 (fun b=>decide (b<W.heap.size)) true 22 v0 d0 p:=Below.trod Tryz.laidOut (by kernel_rfl) (of_decide_eq_true (by kernel_rfl)) h0k hB aH
 exact⟨_,rfl,⟨_,_,_,[],_,[],hW',trodAll_mk1 (shut_bool Tryz.underlying4 true),trodAll_mk1 tP,rfl,hB.frame _,fun h=>by cases h⟩⟩
theorem j1:Tryz.pinned.checked.prog.inPlace 11=Rows.integralSplitsRow.inPlace:=by kernel_rfl
theorem j2:Tryz.pinned.checked.prog.unfollowed 11=Rows.integralSplitsRow.unfollowed:=by kernel_rfl
theorem j3:Tryz.pinned.checked.prog.recurses 11=Rows.integralSplitsRow.recurses:=by kernel_rfl
theorem j4:Tryz.pinned.checked.prog.varsNamed 11=Rows.integralSplitsRow.named:=by kernel_rfl
theorem j5:joinedFacts Tryz.pinned.checked.prog 11 Tryz.f11 Rows.integralSplitsSpec Rows.integralSplitsRow=true:=by
 unfold joinedFacts;rw[j1,j2,j3,j4];kernel_rfl
theorem integralSplits_holds:Rows.IntegralSplitsSaid:=
 OpenClaim.holds_of_wide 11 Tryz.f11 rfl rfl rfl rfl rfl rfl rfl ⟨rfl,rfl,rfl,rfl,rfl⟩ rfl rfl rfl rfl rfl (by kernel_rfl) Tryz.func11 j5
  (of_decide_eq_true (by kernel_rfl)) (by unfold Func.isWrapper;first | (rw[if_pos (by decide+kernel)];kernel_rfl) | (rw[if_neg (by decide+kernel)];exact⟨rfl,rfl⟩))
  (fun os started H enc _=>oy os started H enc)
end Go.Proofs.YtjjbkjgifdhlcaaGreat
