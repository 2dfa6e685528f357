/- Normal forms of lists of regions. -/
import Derived.Test.YtiaaceeelfhdlaaGreatT13
import Derived.Test.YtiaaceeelfhdlaaGreatT19
import Derived.Test.YtiaaceeelfhdlaaGreatT1
namespace Go.Proofs.YtiaaceeelfhdlaaGreat
open Go.ChangeShapes Go.WideShapes Go.ChangeAt Go.RowKit
set_option maxRecDepth 100000 in
theorem k8 (os:Os) (started:os.Started) (H:Type) (enc:TypeId×Value->H):
 ReturnsInHanded {} Tryz.checked os 7 .any (Rows.piecewiseNormalsSpec.pre6 enc Tryz.prog Tryz.f7 Rows.piecewiseNormalsRow.domain false) (Rows.piecewiseNormalsSpec.post enc Tryz.prog Tryz.f7 false true false false):=by
 refine returnsInHanded_of_change (C:=Tryz.checked) Tryz.own started (by kernel_rfl) Tryz.func7
  (ChangeSpec.witness6 (enc:=enc) (C:=Tryz.checked) false ⟨#[],#[.slice none 0 0],[]⟩ 8 (by kernel_rfl) (by kernel_rfl) (by kernel_rfl) (by kernel_rfl)) ?_
 intro W base args ds gs before TX hW ajD _
 have abl: ∀ (j:Nat) t v,Tryz.f7.params[j]?=some t->args[j]?=some v->Value.okWide Tryz.prog W .any base t v:=TX
 have hW':=hW
 obtain⟨p,q,hA0,hV,rfl,KU,l6⟩:=hW
 have hA:DataW.TrodAll enc Tryz.prog W 0 (fun _=>true) true Tryz.f7.params.toList args.toList ds p:=hA0
 rw[Tryz.params7] at hA abl
 obtain⟨v0,d0,rfl,rfl,h0⟩:=trodAll_one hA
 obtain⟨rfl,rfl⟩:=trodVars_none hV
 have h0k:=h0
 obtain⟨fuel,hf⟩:=h0
 clear hA0 TX
 simp only[List.append_nil] at hW'
 have aG: ∀ x∈p,x.block<W.heap.size:=fun x hx=>by simpa using hW'.lt x hx
 obtain⟨l,hw,hl,hr⟩:=IU (abl 0 22 v0 rfl rfl) hf
 refine(P1 hr (wn7 l hl hw)).mono fun e W' ⟨he,hB⟩=>?_
 subst he
 have pG:DataW.Trod enc Tryz.prog W' 0 (fun b=>decide (b<W.heap.size)) true 22 v0 d0 p:=Below.trod Tryz.laidOut (by kernel_rfl) (of_decide_eq_true (by kernel_rfl)) h0k hB aG
 exact⟨_,rfl,⟨_,_,_,[],_,[],hW',trodAll_mk1 (shut_bool Tryz.underlying4 true),trodAll_mk1 pG,rfl,hB.frame _,fun h=>by cases h⟩⟩
theorem j1:Tryz.pinned.checked.prog.inPlace 7=Rows.piecewiseNormalsRow.inPlace:=by kernel_rfl
theorem j2:Tryz.pinned.checked.prog.unfollowed 7=Rows.piecewiseNormalsRow.unfollowed:=by kernel_rfl
theorem j3:Tryz.pinned.checked.prog.recurses 7=Rows.piecewiseNormalsRow.recurses:=by kernel_rfl
theorem j4:Tryz.pinned.checked.prog.varsNamed 7=Rows.piecewiseNormalsRow.named:=by kernel_rfl
theorem j5:joinedFacts Tryz.pinned.checked.prog 7 Tryz.f7 Rows.piecewiseNormalsSpec Rows.piecewiseNormalsRow=true:=by
 unfold joinedFacts;rw[j1,j2,j3,j4];kernel_rfl
theorem piecewiseNormals_holds:Rows.PiecewiseNormalsSaid:=
 OpenClaim.holds_of_wide 7 Tryz.f7 rfl rfl rfl rfl rfl rfl rfl ⟨rfl,rfl,rfl,rfl,rfl⟩ rfl rfl rfl rfl rfl (by kernel_rfl) Tryz.func7 j5
  (of_decide_eq_true (by kernel_rfl)) (by unfold Func.isWrapper;first | (rw[if_pos (by decide+kernel)];kernel_rfl) | (rw[if_neg (by decide+kernel)];exact⟨rfl,rfl⟩))
  (fun os started H enc _=>k8 os started H enc)
end Go.Proofs.YtiaaceeelfhdlaaGreat
