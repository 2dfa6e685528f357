/- Contracts:the reader of numbers:Lin;loose. -/
import Derived.Test.YtjjbkjgifdhlcaaGreatT12
import Derived.Test.YtjjbkjgifdhlcaaGreatT1
namespace Go.Proofs.YtjjbkjgifdhlcaaGreat
open Go.AM Go.Pl
set_option maxRecDepth 100000
set_option maxHeartbeats 2000000
theorem RetOK.ownB {T:Tab} {st:St} {rs:List ResultVar} {id:Nat} {ob:Ob} {cd:Prop} (h1:resVs T st rs=some (cd,[.ptr id 0 0])) (hc:cd) (h2:st.heap[id]?=some ob) (hcl:ob.closed) (hrw:ob.rw=true):
 RetOK T rs 0 st [ob] (.ptr 0 0 0):=by
 refine⟨cd,[.ptr id 0 0],[id],h1,hc,by simp,fun i hi=>absurd hi (Nat.not_lt_zero i),?_,rfl,fun j k hj=>?_,fun o ho=>?_⟩
 ·simp[oneRes,fzX,fzV,fzC,List.idxOf?_cons]
 ·cases j with
  | zero=>
   simp at hj;subst hj;simp[oneRes,idsX,idsV,idsC,List.idxOf?_cons,shutIds,h2]
  | succ j=>simp at hj
 ·simp at ho;subst ho;exact⟨hcl,hrw⟩
theorem den10 (l:List Int) (hl:l.length<9223372036854775808):Den Tryz.prog 15 [] [.fv (.sl (ints l))] [S (l.take 1000) 0] (.ptr 0 0 0):=by
 have hil:=ints_length l;have hc:=S_closed (l.take 1000) 0;have hone: ∀ y∈ints l,y.length=1:=by
  intro y hy;simp only[ints,qq] at hy;obtain⟨n,_,rfl⟩:=hy;rfl
 unfold S at hc ⊢;by_cases h:l.length>1000
 ·have h1:decide ((l.length:Int)>1000)=true:=qbb (by omega);have htk:List.take 1000 (ints l)=ints (l.take 1000):=by simp[ints,List.map_take]
  refine den_of tabOk mixed Tryz.func15 (cd:=_) rfl (by decide) rfl (n:=10) rfl rfl (m:=0) rfl ?_;simp -dsimp(disch:=omega) only[List.replicate,hil,h1,htk,Int.reduceToNat,↓reduceIte,Nat.reduceAdd,Nat.reduceSub,Nat.reduceLT,Nat.reduceLeDiff,ru];refine⟨⟨by omega,by omega,hone⟩,?_⟩;exact RetOK.ownB rfl ⟨tvq,tvq⟩ rfl hc rfl
 ·have h1:decide ((l.length:Int)>1000)=false:=qcb (by omega);rw[qdq (by omega)] at hc ⊢;refine den_of tabOk mixed Tryz.func15 (cd:=_) rfl (by decide) rfl (n:=10) rfl rfl (m:=0) rfl ?_;simp -dsimp(disch:=omega) only[List.replicate,hil,h1,↓reduceIte,Nat.reduceAdd,Nat.reduceLT,Nat.reduceLeDiff,ru];exact RetOK.ownB rfl ⟨tvq,tvq⟩ rfl hc rfl
end Go.Proofs.YtjjbkjgifdhlcaaGreat
