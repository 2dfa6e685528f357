/- IntegralOrder holds:for every list of numbers the law answers true,and the list reads behind the call as it read before. -/
import Derived.Test.YtjjbkjgifdhlcaaGreatT13
import Derived.Test.YtjjbkjgifdhlcaaGreatT19
import Derived.Test.YtjjbkjgifdhlcaaGreatT1
set_option linter.all false
namespace Go.Proofs.YtjjbkjgifdhlcaaGreat
open Go.ChangeShapes Go.WideShapes Go.ChangeAt Go.RowKit
set_option maxRecDepth 100000 in
theorem oI (os:Os) (started:os.Started) (H:Type) (enc:TypeId×Value->H):
 ReturnsInHanded {} Tryz.checked os 9 .any (Rows.integralOrderSpec.pre6 enc Tryz.prog Tryz.f9 Rows.integralOrderRow.domain false) (Rows.integralOrderSpec.post enc Tryz.prog Tryz.f9 false true false false):=by
 refine returnsInHanded_of_change (C:=Tryz.checked) Tryz.own started (by kernel_rfl) Tryz.func9
  (ChangeSpec.witness6 (enc:=enc) (C:=Tryz.checked) false ⟨#[],#[.slice none 0 0],[]⟩ 8 (by kernel_rfl) (by kernel_rfl) (by kernel_rfl) (by kernel_rfl)) ?_
 intro W base args ds gs before Xh hW am3 _
 have I6: ∀ (j:Nat) t v,Tryz.f9.params[j]?=some t->args[j]?=some v->Value.okWide Tryz.prog W .any base t v:=Xh
 have hW':=hW
 obtain⟨p,q,hA0,hV,rfl,hfz,l6⟩:=hW
 have hA:DataW.TrodAll enc Tryz.prog W 0 (fun _=>true) true Tryz.f9.params.toList args.toList ds p:=hA0
 rw[Tryz.params9] at hA I6
 obtain⟨v0,d0,rfl,rfl,h0⟩:=trodAll_one hA
 obtain⟨rfl,rfl⟩:=trodVars_none hV
 have h0k:=h0
 obtain⟨fuel,hf⟩:=h0
 clear hA0 Xh
 simp only[List.append_nil] at hW'
 have aH: ∀ x∈p,x.block<W.heap.size:=fun x hx=>by simpa using hW'.lt x hx
 obtain⟨l,hw,hl,hr⟩:=LQ (I6 0 22 v0 rfl rfl) hf
 refine(S4 hr (jq9 l hl hw)).mono fun e W' ⟨he,hB⟩=>?_
 subst he
 have tR:DataW.Trod enc Tryz.prog W' 0 (fun b=>decide (b<W.heap.size)) true 22 v0 d0 p:=Below.trod Tryz.laidOut (by kernel_rfl) (of_decide_eq_true (by kernel_rfl)) h0k hB aH
 exact⟨_,rfl,⟨_,_,_,[],_,[],hW',trodAll_mk1 (shut_bool Tryz.underlying4 true),trodAll_mk1 tR,rfl,hB.frame _,fun h=>by cases h⟩⟩
theorem j1:Tryz.pinned.checked.prog.inPlace 9=Rows.integralOrderRow.inPlace:=by kernel_rfl
theorem j2:Tryz.pinned.checked.prog.unfollowed 9=Rows.integralOrderRow.unfollowed:=by kernel_rfl
theorem j3:Tryz.pinned.checked.prog.recurses 9=Rows.integralOrderRow.recurses:=by kernel_rfl
theorem j4:Tryz.pinned.checked.prog.varsNamed 9=Rows.integralOrderRow.named:=by kernel_rfl
theorem j5:joinedFacts Tryz.pinned.checked.prog 9 Tryz.f9 Rows.integralOrderSpec Rows.integralOrderRow=true:=by
 unfold joinedFacts;rw[j1,j2,j3,j4];kernel_rfl
theorem integralOrder_holds:Rows.IntegralOrderSaid:=
 OpenClaim.holds_of_wide 9 Tryz.f9 rfl rfl rfl rfl rfl rfl rfl ⟨rfl,rfl,rfl,rfl,rfl⟩ rfl rfl rfl rfl rfl (by kernel_rfl) Tryz.func9 j5
  (of_decide_eq_true (by kernel_rfl)) (by unfold Func.isWrapper;first | (rw[if_pos (by decide+kernel)];kernel_rfl) | (rw[if_neg (by decide+kernel)];exact⟨rfl,rfl⟩))
  (fun os started H enc _=>oI os started H enc)
end Go.Proofs.YtjjbkjgifdhlcaaGreat
