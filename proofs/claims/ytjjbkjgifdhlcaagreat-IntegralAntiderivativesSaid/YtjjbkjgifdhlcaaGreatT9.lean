/- The abstract machine:maps whose keys are arrays of ints,in a program. -/
import Derived.Test.YtjjbkjgifdhlcaaGreatT8
import Derived.WideKeyArr
import Derived.Test.YtjjbkjgifdhlcaaGreatT1
namespace Go.AM
theorem mapM_somes {α β:Type} {f:α->Option β}: ∀ l:List α,(∀ x∈l,∃ y,f x=some y)-> ∃ ys,l.mapM f=some ys
 | [],_=>⟨[],rfl⟩
 | x::l,h=>by
  obtain⟨y,hy⟩:=h x (by simp);obtain⟨ys,hys⟩:=mapM_somes l (fun z hz=>h z (ql _ hz));exact⟨y::ys,by rw[List.mapM_cons,hy,hys];rfl⟩
theorem keyOf_ints {P:Program} {k e n:Nat} (A:WideMaps.ArrKey P k e n) (he:P.underlying e=some (.int .i64)) (hsz: ∃ m,P.types.size=m+1) (ks:List Int) (hl:ks.length=n) (hb: ∀ x∈ks,-9223372036854775808<=x/\x<9223372036854775808):
 ∃ l,keyOf P k (.agg (ks.map (Value.int .i64)).toArray)=some l:=by
 have hkt:=A.keyType hsz
 obtain⟨m,hm⟩:=hsz
 obtain⟨ys,hys⟩:=mapM_somes (f:=fun i=>P.keyLits (m+1) e (((ks.map (Value.int .i64)).drop (i*P.cellsOf e)).take (P.cellsOf e))) (List.range n) (fun i hi=>by
  have hi':=List.mem_range.1 hi;rw[A.one,Nat.mul_one,qj (by simp;omega),List.take_succ_cons,List.take_zero,List.getElem_map];have hbi:=hb ks[i] (by simp);refine⟨[.int .i64 ks[i]],?_⟩;unfold Program.keyLits;simp only[he];have hw:(Lit.int IntKind.i64 ks[i]).wf=true:=by
   simp only[Lit.wf,IntKind.min,IntKind.max,IntKind.bits,IntKind.signed,qtb,decide_eq_true_eq];simp;omega
  simp only[hw,and_self,if_true])
 unfold keyOf
 simp only[A.hu]
 rw[if_pos (by simp[hkt,Value.formed,A.hu,A.size,hl]),hm]
 unfold Program.keyLits
 simp only[A.hu,Value.cells]
 rw[if_pos (by rw[A.size];simpa using hl),hys]
 exact⟨_,rfl⟩
theorem mp_ok {P:Program} {t k e n el:Nat} {ti:TypeInfo} {z:Value} {zv:PV} (hu:P.underlying t=some (.map k el)) (hi:P.info? el=some ti) (hz:ti.zero=some z) (hs:still zv=true) (hr: ∀ (w:World) (X:Nat->Prop) (ρ:Places),PRd w X ρ z zv)
 (A:WideMaps.ArrKey P k e n) (he:P.underlying e=some (.int .i64)) (hsz: ∃ m,P.types.size=m+1):TyDesc P t (.mp n zv):=
 ⟨k,el,ti,z,hu,hi,hz,hs,hr,A.law,fun ks hl hb=>keyOf_ints A he hsz ks hl hb⟩
theorem ratZ (w:World) (X:Nat->Prop) (ρ:Places):PRd w X ρ (.agg #[.bool false,.slice none 0 0,.slice none 0 0]) (.agg [.bool false,.fv (.sl []),.fv (.sl [])]):=by
 refine .agg _ _ rfl (fun i u hu=>?_) (fun i u c hu hc=>?_)
 ·match i with
  | 0=>simp at hu;subst hu;rfl
  | 1=>simp at hu;subst hu;rfl
  | 2=>simp at hu;subst hu;rfl
  | i+3=>simp at hu
 ·match i with
  | 0=>simp at hu hc;subst hu;subst hc;exact .fv _ _ (.lit _ rfl)
  | 1=>simp at hu hc;subst hu;subst hc;exact .fv _ _ .nil
  | 2=>simp at hu hc;subst hu;subst hc;exact .fv _ _ .nil
  | i+3=>simp at hu
theorem intZ (w:World) (X:Nat->Prop) (ρ:Places):PRd w X ρ (.int .i64 0) (.int .i64 0):= .fv _ _ (.lit _ rfl)
end Go.AM
