/- The abstract machine:the library's slices.Grow of a nil slice (a proof of the library's,over any program),as a contract. -/
import Derived.Test.YtiaaceeelfhdlaaGreatT18
import Derived.Shelf.Spec.SlicesGrow
import Derived.Test.YtiaaceeelfhdlaaGreatT16
import Derived.Test.YtiaaceeelfhdlaaGreatT17
import Derived.Test.YtiaaceeelfhdlaaGreatT14
import Derived.Test.YtiaaceeelfhdlaaGreatT13
import Derived.Test.YtiaaceeelfhdlaaGreatT1
set_option linter.all false
open List (mem_filter mem_map replicate)
namespace Go.AM
open Go.Proofs Go.Shelf Go.RowKit Go.Lib
theorem Nc {P:Program} {T:Tab} (hT:ck P T) {ρr:Ren} (L:Lays8.n4 P ρr) {ie:TyI} (iZ:T.at (ρr.t 25)=some ie) (cY:0<ie.size) (hg:Nt P (ρr.f 4)) (n:Nat) (hn:n*ie.bytes<=140737488355328) (qN:n<=4611686018427387904):
 Den P (ρr.f 4) [] [.nilsl,.int .i64 n] [.row true []] (.lsl 0 0 0 ie.size):=by
 refine⟨hg,fun cx X ρ vs hh hM dT=>?_⟩
 have dh:vs.size=2:=dT.1
 have Oj:vs=#[vs[0],vs[1]]:=by
  apply Array.ext
  .simp[dh]
  intro i h1 h2;have:i=0\/i=1:=by omega
  rcases this with rfl | rfl<;>rfl
 have h0:=dT.2 0 vs[0] _ (by simp[dh]) rfl
 have h1:=dT.2 1 vs[1] _ (by simp[dh]) rfl
 rw[Oj]
 generalize vs[0]=v0 at h0
 generalize vs[1]=v1 at h1
 cases h0
 rw[h1.litInv]
 have PK:ρ=[]:=List.eq_nil_of_length_eq_zero hh.len
 subst PK
 obtain⟨kL,Uo⟩:=hh.room 1
 obtain⟨ti,z,eN,dD,sb,hz,pM,eV,eA,hrd⟩:=kH (hT _ _ iZ) (w:=cx.w0) (X:=X) (ρ:=[])
 have gv: ∀ {w':World} {X':Nat->Prop} {ρ':Places},HRd cx w' X' ρ' [.row true []]-> ∀ (id:Nat) p,([]:Places).length<=id->ρ'[id]?=some (some p)-> ∀ g,p.b=some g->cx.w0.heap.size<=g:=fun{w' X' ρ'} h id p _ hp g mR=>by
  have hl:=h.len;have aG:=(List.getElem?_eq_some_iff.1 hp).1;have cF:id=0:=by simp at hl;omega
  subst cF;rcases(h.own 0 p (.row true []) g hp rfl rfl mR).1 with h1 | h1
  .exact h1
  obtain⟨id,q,hq,_⟩:=hM _ h1;simp at hq
 by_cases yI:n=0
 .subst yI
  refine(Any8.slices_Grow_room L none 0 0 0 cx.w0 (by omega) (by omega) (by omega) (by omega)).mono ?_
  rintro e w' ⟨rfl,rfl⟩
  obtain⟨X',ρ',p1,p2,p3,p4⟩:=dc (xs:=[]) (us:=[]) (size:=ie.size) (el:=ρr.t 25) (v:= .slice none 0 0) (row:=none) (H:=[]) (R:=[]) (d:= .dead) (by simpa using kL) (Uo 0 (by simp) (by simp)) (g5 cx.w0 none) (by simp)
   (by intros;simp) (by simp) cY (by simp) (World.ownsRow_nil cx.w0 0 (ρr.t 25) ie.size) (by simp[Value.ownBlock]) (by simp)
  have Ya:HRd cx cx.w0 X' ρ' [.row true []]:=by simpa using p2
  exact⟨_,X',ρ',rfl,Keeps.refl _,Ya,p3,fun id p hp=>by simp at hp,gv Ya⟩
 refine(Any8.slices_Grow_grow L ti z eN hz (by omega) none 0 0 n [] cx.w0 (by omega) (by omega) (by rw[sb];simpa using hn) (by omega) (by simp) (fun _=>rfl) (by simp)).mono ?_
 rintro e w' ⟨rfl,rfl⟩
 have yG:=grownCap_ge cx.w0 n 0 (ρr.t 25)
 have nH:=grownCap_le_maxLen cx.w0 n 0 (ρr.t 25) (by simp only[maxLen];omega)
 simp only[Nat.zero_add,Nat.sub_zero,Array.empty_append]
 generalize grownCap cx.w0 n 0 (ρr.t 25)=G at yG nH ⊢
 have eP:=iH (w:=cx.w0) (el:=ρr.t 25) pM (xs:=[]) (news:=(Builtin.zeroCells z.cells n).toList) (k:=n) (cap:=G) (by simp[size_zeroCells,pM]) yG nH
 have pN:=r7 eP (dU n)
 simp only[Nat.zero_mul,List.take_zero,Array.toArray_toList] at pN
 obtain⟨X',ρ',p1,p2,p3,p4⟩:=dc (xs:=[]) (us:=[]) (size:=ie.size) (el:=ρr.t 25) (v:= .slice (some ⟨cx.w0.heap.size,0,none⟩) 0 G) (row:=none) (H:=[]) (R:=[]) (d:= .dead) (by simpa using kL) (Uo 0 (by simp) (by simp))
  (de cx.w0 _ none) (by simp) (by intros;simp) (by simp) cY (by simp) (by simpa using pN) (by
   intro g hg;simp only[Value.ownBlock,qo] at hg;left;omega) (by simp)
 have Ya:=p2
 simp only[List.nil_append,List.append_nil] at Ya
 have Xb:=p1.keeps (Keeps.refl cx).toKeepsB
 exact⟨_,X',ρ',rfl,⟨Xb,by show cx.w0.drawn<=cx.w0.drawn+1;omega⟩,Ya,p3,fun id p hp=>by simp at hp,gv Ya⟩
end Go.AM
namespace Go.Proofs.YtiaaceeelfhdlaaGreat
open Go.AM Go.Pl Go.Shelf
set_option maxRecDepth 100000
set_option maxHeartbeats 4000000
def afc (s e f:Nat):Ren:=⟨fun _=>f,fun t=>if Nat.beq t 22 then s else if Nat.beq t 25 then e else t,fun x=>x⟩
theorem XC {P:Program} {t:Nat} {i:TypeInfo} (h:P.info? t=some i) (w:World):(Go.sizeOf t).run P w= .ok i.size w:=Ds h
theorem XD {P:Program} {t:Nat} {i:TypeInfo} {z:Value} (h:P.info? t=some i) (hz:i.zero=some z) (w:World):(zeroValue t).run P w= .ok z w:=by
 simp[zeroValue,typeInfo,h,hz]
theorem XE {P:Program} {t:Nat} {d:TypeDesc} (h:P.underlying t=some d) (hd:th d=false) (w:World):(isAgg t).run P w= .ok false w:=by rw[iE h,hd]
theorem aaR:Lays8.n4 Tryz.prog (afc 25 45 154):=by
 have u0:Tryz.prog.underlying 0=some (.tuple #[]):=by kernel_rfl
 have i0:Tryz.prog.info? 0=some Tryz.t0:=by kernel_rfl
 have u3:Tryz.prog.underlying 3=some (.int .i64):=by kernel_rfl
 have i3:Tryz.prog.info? 3=some Tryz.t3:=by kernel_rfl
 have u4:Tryz.prog.underlying 4=some (.bool):=by kernel_rfl
 have i4:Tryz.prog.info? 4=some Tryz.t4:=by kernel_rfl
 have u9:Tryz.prog.underlying 9=some (.string):=by kernel_rfl
 have i9:Tryz.prog.info? 9=some Tryz.t9:=by kernel_rfl
 have u20:Tryz.prog.underlying 20=some (.interface #[]):=by kernel_rfl
 have i20:Tryz.prog.info? 20=some Tryz.t20:=by kernel_rfl
 have u22:Tryz.prog.underlying 25=some (.slice 45):=by kernel_rfl
 have i22:Tryz.prog.info? 25=some Tryz.t25:=by kernel_rfl
 exact⟨nO,⟨"slices.Grow[[]exactppl/api.Region,exactppl/api.Region]",by decide,by kernel_rfl⟩,u0,XE u0 rfl,XC i0,XD i0 rfl,u3,XE u3 rfl,XC i3,XD i3 rfl,u4,XE u4 rfl,XC i4,XD i4 rfl,u9,XE u9 rfl,XC i9,XD i9 rfl,u20,XE u20 rfl,XC i20,XD i20 rfl,u22,XE u22 rfl,XC i22,XD i22 rfl⟩
theorem aaS (n:Nat) (hn:n<=1000000):Den Tryz.prog 154 [] [.nilsl,.int .i64 n] [.row true []] (.lsl 0 0 0 2):=
 Nc nM aaR (ie:=PR) rfl (by decide) ⟨_,_,Tryz.func154,rfl,by decide⟩ n (by show n*PR.bytes<=_;exact ka (qn _ hn) (by decide)) (by omega)
end Go.Proofs.YtiaaceeelfhdlaaGreat
namespace Go.Pl
open Go.AM
theorem Nd (L H:List Rat) (h: ∀ l∈L,∀ u∈H,l<u): ∃ x:Rat,(∀ l∈L,l<x)/\ ∀ u∈H,x<u:=by
 cases L with
 | nil=>
  cases H with
  | nil=>exact⟨0,by simp,by simp⟩
  | cons u t=>
   refine⟨minL u t - 1,by simp,fun v hv=>?_⟩;have:=AJ t u v hv;grind
 | cons l s=>
  cases H with
  | nil=>
   refine⟨yj l s+1,fun v hv=>?_,by simp⟩;have:=AI s l v hv;grind
  | cons u t=>
   have h1:=h _ (CV s l) _ (CW t u);refine⟨(yj l s+minL u t) / 2,fun v hv=>?_,fun v hv=>?_⟩
   .have:=AI s l v hv;grind
   have:=AJ t u v hv;grind
def JH (cs:List (List Raw)):Bool:=cs.all (fun l=>((l.drop 1).take 7).all (fun r=>decide (r.q=0)))
theorem Dj {cs:List (List Raw)} (h:JH cs=true) (h9: ∀ l∈cs,l.length=9):Two 0 0 cs:=fun l hl i hi h0 _=>by
 have h1:=List.all_eq_true.1 h l hl;have aA:=h9 l hl;have hi9:i<l.length:=by omega
 have h2:=List.all_eq_true.1 h1 (l.getD i rz) (by
  rw[qa,qb hi9];refine List.mem_iff_getElem?.2 ⟨i - 1,?_⟩;rw[List.getElem?_take,if_pos (by omega),List.getElem?_drop,show 1+(i - 1)=i by omega,qb hi9];rfl)
 exact of_decide_eq_true h2
theorem Nf {l:List Raw} (h: ∀ i,i<8->i≠0->co l i=0) (x:Nat->Rat):bw l x=co l 0*x 0+co l 8:=by
 simp only[bw,lv,h 1 (by omega) (by omega),h 2 (by omega) (by omega),h 3 (by omega) (by omega),h 4 (by omega) (by omega),h 5 (by omega) (by omega),h 6 (by omega) (by omega),h 7 (by omega) (by omega)];grind
def abL (cs:List (List Raw)):List (Rat×Rat):=cs.map (fun l=>(co l 0,co l 8))
def JI (ps:List (Rat×Rat)):Bool:=ps.all (fun p=>!decide (p.1=0)||decide (0<=p.2))&&ps.all (fun p=>decide (p.1<=0)||ps.all (fun r=>decide (0<=r.1)||decide (p.2*r.1<r.2*p.1)))
theorem Ng {ps:List (Rat×Rat)}:JI ps=true↔ ∃ x:Rat,∀ p∈ps,(p.1≠0/\0<p.1*x+p.2)\/(p.1=0/\0<=p.2):=by
 unfold JI;rw[hG,nF,nF];constructor
 .rintro⟨h1,h2⟩;obtain⟨x,hl,hu⟩:=Nd ((ps.filter (fun p=>decide (0<p.1))).map (fun p=> -p.2 / p.1)) ((ps.filter (fun p=>decide (p.1<0))).map (fun p=>p.2 / (-p.1))) (fun l hl u hu=>by
   obtain⟨p,hp,rfl⟩:=mem_map.1 hl;obtain⟨r,hr,rfl⟩:=mem_map.1 hu;rw[mem_filter,decide_eq_true_iff] at hp hr;have h3:=h2 p hp.1;rw[EL,decide_eq_true_iff,nF] at h3;have h4:=(h3.resolve_left (by have:=hp.2;grind)) r hr.1;rw[EL,decide_eq_true_iff,decide_eq_true_iff] at h4;have h5:=h4.resolve_left (by have:=hr.2;grind);have hc:(0:Rat)< -r.1:=by have:=hr.2;grind
   have e:=Rat.div_mul_cancel (a:=r.2) (b:= -r.1) (by grind);obtain⟨y,hy⟩:=K_ (r.2 / (-r.1));rw[hy] at e ⊢;rw[Rat.div_lt_iff hp.2];refine Rat.not_le.1 (fun h6=>?_);have h7:=Rat.mul_le_mul_of_nonneg_right h6 (Rat.le_of_lt hc);rw[<-e] at h5;grind)
  refine⟨x,fun p hp=>?_⟩;have h3:=h1 p hp;rw[EL,decide_eq_true_iff,Bool.not_eq_true',decide_eq_false_iff_not] at h3;rcases(by grind:p.1=0\/0<p.1\/p.1<0) with h0 | h0 | h0
  .exact .inr ⟨h0,h3.resolve_left (by simp[h0])⟩
  .have:=hl _ (mem_map.2 ⟨p,mem_filter.2 ⟨hp,by simpa using h0⟩,rfl⟩);rw[Rat.div_lt_iff h0] at this;exact .inl ⟨by grind,by grind⟩
  have:=hu _ (mem_map.2 ⟨p,mem_filter.2 ⟨hp,by simpa using h0⟩,rfl⟩);rw[Rat.lt_div_iff (by grind)] at this;exact .inl ⟨by grind,by grind⟩
 rintro⟨x,hx⟩;refine⟨fun p hp=>?_,fun p hp=>?_⟩
 .rw[EL,decide_eq_true_iff,Bool.not_eq_true',decide_eq_false_iff_not];rcases hx p hp with h | h
  .exact .inl h.1
  exact .inr h.2
 rw[EL,decide_eq_true_iff,nF];by_cases h0:p.1<=0
 .exact .inl h0
 refine .inr (fun r hr=>?_);rw[EL,decide_eq_true_iff,decide_eq_true_iff];by_cases h1:0<=r.1
 .exact .inl h1
 refine .inr ?_;have a:=(hx p hp).resolve_right (by grind);have b:=(hx r hr).resolve_right (by grind);have c:=Rat.mul_lt_mul_of_pos_right b.2 (show(0:Rat)<p.1 by grind);have d:=Rat.mul_lt_mul_of_pos_right a.2 (show(0:Rat)< -r.1 by grind);grind
theorem zN {cs:List (List Raw)} (h:JH cs=true) (h9: ∀ l∈cs,l.length=9):cN cs=JI (abL cs):=by
 have h2:=Dj h h9;rw[Bool.eq_iff_iff,E6 h9,Ng];have key: ∀ l∈cs,(aO l↔co l 0=0):=fun l hl=>⟨fun hc=>hc 0 (by omega),fun h0 i hi=>by
  by_cases Em:i=0
  .rw[Em];exact h0
  exact h2 l hl i hi Em Em⟩
 have kl: ∀ l∈cs,∀ x,bw l x=co l 0*x 0+co l 8:=fun l hl x=>Nf (fun i hi h0=>h2 l hl i hi h0 h0) x
 constructor
 .rintro⟨x,hx⟩;refine⟨x 0,fun p hp=>?_⟩;obtain⟨l,hl,rfl⟩:=mem_map.1 hp;have h3:=hx l hl;rw[kl l hl,key l hl] at h3;by_cases h0:co l 0=0
  .refine .inr ⟨h0,?_⟩;rw[h0] at h3;show 0<=co l 8;grind
  exact .inl ⟨h0,by grind⟩
 rintro⟨x,hx⟩;refine⟨fun _=>x,fun l hl=>?_⟩;have h3:=hx _ (mem_map.2 ⟨l,hl,rfl⟩);rw[kl l hl,key l hl];dsimp only at h3;rcases h3 with h3 | ⟨h3,h4⟩
 .exact .inl h3.2
 rw[h3];rcases(by grind:co l 8=0\/0<co l 8) with h5 | h5
 .exact .inr ⟨rfl,by grind⟩
 exact .inl (by grind)
def HV (a b:Raw):Bool:=(a.neg==b.neg)&&(a.num==b.num)&&(a.den==b.den)
def vv:List (List Raw)->List (List Raw)->Bool
 | [],[]=>true
 | a::s,b::t=>(a.length==b.length)&&(List.zipWith HV a b).all id&&vv s t
 | _,_=>false
theorem Nh {a b:Raw} (h:HV a b=true):a=b:=by
 unfold HV at h;rw[hG,hG,beq_iff_eq,beq_iff_eq,beq_iff_eq] at h;obtain⟨⟨h1,h2⟩,h3⟩:=h;cases a;cases b;simp_all
theorem zO: ∀ {a b:List Raw},a.length=b.length->(List.zipWith HV a b).all id=true->a=b
 | [],[],_,_=>rfl
 | x::a,y::b,hl,h=>by
  simp only[List.zipWith_cons_cons,List.all_cons,id,hG] at h;rw[Nh h.1,zO (by simpa using hl) h.2]
theorem wT: ∀ {s t:List (List Raw)},vv s t=true->s=t
 | [],[],_=>rfl
 | a::s,b::t,h=>by
  unfold vv at h;rw[hG,hG,beq_iff_eq] at h;rw[zO h.1.1 h.1.2,wT h.2]
def ownB (s:List (List Raw)):Bool:=(Fp s []).all (fun f=>f.all Fm)&&vv ((Fp s []).map (List.map BP)) s
theorem QV {s:List (List Raw)} (h:ownB s=true):sysL s []=s:=by
 unfold ownB at h;rw[hG] at h;have h1:=wT h.2;rw[List.map_congr_left (fun f hf=>r5 (List.all_eq_true.1 h.1 f hf))] at h1;have h2:=vu s [];rw[<-h2] at h1;exact h1
theorem Ni {s:List (List Raw)} (h:JH s=true) (h9: ∀ l∈s,l.length=9) (hv:dk s=false) (ho:sysL s []=s):dX s=JI (abL s):=by
 rw[<-zN h h9];unfold cN;rw[hv,ho];rfl
end Go.Pl
namespace Go.Proofs.YtiaaceeelfhdlaaGreat
open Go.AM Go.Pl
def TR (k:Nat):List PV->Option (List Ob×PV)
 | [.nilsl,.fv (.lit (.int .i64 (.ofNat n)))]=>if Nat.beq k 154&&Nat.ble n 1000000 then some ([.row true []],.lsl 0 0 0 2) else none
 | [.fv (.sl [])]=>if Nat.beq k 89 then some ([.row true []],.lsl 0 0 0 27) else if Nat.beq k 118 then some ([],.fv (.sl [])) else if Nat.beq k 206 then some ([.row true []],.lsl 0 0 0 11) else none
 | _=>none
def Vq (cs:List (List Raw)):Option PV:=if Nat.ble cs.length 12&&JH cs then some (.bool (JI (abL cs))) else none
theorem TS {cs:List (List Raw)} (h:AOk 4 cs) (hl:cs.length<=12) (h1:JH cs=true):KT cs:=
 wH (k:=4) h (by decide) (Dj h1 (fun l hl=>(h l hl).len)) (by omega) (.inr ⟨rfl,ka (List.length_filter_le _ _) hl,by decide⟩)
theorem QW:c9 (kf (.func 141),TQ Vq):=Fs fun cs v h e=>by
 unfold Vq at e;split at e
 .rename_i hb;rw[hG] at hb;have hl:cs.length<=12:=Nat.le_of_ble_eq_true hb.1;have hd:=U_ cs (TS h hl hb.2).cs;rw[zN hb.2 (fun l hl=>(h l hl).len)] at hd;cases e;exact hd
 cases e
def Vr (cs:List (List Raw)):Option PV:=if(Nat.ble cs.length 12&&JH cs)&&(!dk cs&&ownB cs) then some (.bool (JI (abL cs))) else none
theorem QX:c9 (kf (.func 204),TQ Vr):=Fs fun cs v h e=>by
 unfold Vr at e;split at e
 .rename_i hb;rw[hG,hG,hG,Bool.not_eq_true'] at hb;obtain⟨⟨dp,dN⟩,EE,Pv⟩:=hb;have hl:cs.length<=12:=Nat.le_of_ble_eq_true dp;have ho:=QV Pv;have hg:=(TS h hl dN).cs.good;rw[ho] at hg;have hd:=aae cs hg;rw[Ni dN (fun l hl=>(h l hl).len) EE ho] at hd;cases e;exact hd
 cases e
def aaT (k:Nat) (args:List PV):Option PV:=if Nat.beq k 141 then TQ Vq args else if Nat.beq k 204 then TQ Vr args else none
def JJ:Ez:=fun k H0 args=>match H0 with
 | []=>match TR k args with
  | some r=>some r
  | none=>match aaT k args with
   | some v=>some ([],v)
   | none=>Vp k [] args
 | _=>none
theorem vw:rX Tryz.prog JJ:=fun k H0 args H1 res h=>by
 unfold JJ at h;split at h
 .split at h
  .rename_i r hr;cases h;unfold TR at hr;split at hr
   .split at hr
    .rename_i n hb;rw[hG] at hb;have hk:=Nat.eq_of_beq_eq_true hb.1;subst hk;cases hr;exact aaS n (Nat.le_of_ble_eq_true hb.2)
    cases hr
   .split at hr
    .rename_i hb;have hk:=Nat.eq_of_beq_eq_true hb;subst hk;cases hr;exact U' [] (by simp) (by simp)
    split at hr
    .rename_i hb;have hk:=Nat.eq_of_beq_eq_true hb;subst hk;cases hr;exact Hj [] (fun t ht=>by cases ht) (PB.nil (by decide)) (by simp) (by decide)
    split at hr
    .rename_i hb;have hk:=Nat.eq_of_beq_eq_true hb;subst hk;cases hr;exact TD [] (by simp) (by simp)
    cases hr
   cases hr
  split at h
  .rename_i v hv;cases h;unfold aaT at hv;split at hv
   .rename_i hb;have hk:=Nat.eq_of_beq_eq_true hb;subst hk;exact QW _ _ hv
   split at hv
   .rename_i hb;have hk:=Nat.eq_of_beq_eq_true hb;subst hk;exact QX _ _ hv
   cases hv
  exact QU _ _ _ _ _ h
 cases h
end Go.Proofs.YtiaaceeelfhdlaaGreat
namespace Go.Proofs.YtiaaceeelfhdlaaGreat
open Go.AM Go.Pl
set_option maxRecDepth 100000
set_option maxHeartbeats 4000000
noncomputable abbrev aaU:Vl:=⟨[(54,Tryz.f54)],fun _=>0,fun _=>false,fun _ _=>([],[]),JJ,1000⟩
theorem QY:Dc Tryz.prog aaU:=⟨fun e he=>by
 simp only[uI,List.not_mem_nil,or_false] at he;subst he;exact⟨Tryz.func54,by decide⟩,vw⟩
def Nj:Kc:=[(((replicate 9 (0:Rat)).set 0 1)).map BP,((((replicate 9 (0:Rat)).set 0 (-1)).set 8 1)).map BP]
theorem Nk:Nj=ji:=by
 unfold Nj ji;rw[r5 (by decide+kernel),r5 (by decide+kernel)]
theorem Nl:A0 tab aaU 60 54 [] [.int .i64 0,.int .i64 1]=some ([],.agg [.fv (.sl (ak Nj)),.fv (.sl (au (nu.map (fun t=>(t.1,BP t.2)))))]):=by kernel_rfl
theorem Nm:Den Tryz.prog 54 [] [.int .i64 0,.int .i64 1] [] (.agg [.fv (.sl (ak ji)),.fv (.sl (au (nu.map tn)))]):=by
 have h:=mG nM nO QY 60 _ _ _ _ _ Nl;have e:nu.map (fun t=>(t.1,BP t.2))=nu.map tn:=by
  show [(z8,BP 1)]=[(z8,cn 1)];rw[A1 (by decide+kernel)]
 rw[e,Nk] at h;exact h
section
variable {xs:List Int} {a:Nat} (hl:xs.length<=1000) (ha:a<=xs.length) (hw:W64 xs)
include hl ha hw
theorem aaV (hk:nN xs a 14=2):Fl xs a:=by
 have hN:=jn xs a 14 hl ha hw (by omega) (by omega);have hc:=av xs a;have jX:=bL ha;obtain⟨a1,e1⟩:=ax (nx xs a);rw[e1] at hN jX;obtain⟨k,ek⟩:=ax (nN xs a 14);rw[ek] at hN hk;have b0:((k:Int)==0)=false:=by rw[qx];omega
 have b1:((k:Int)==1)=false:=by rw[qx];omega
 have b2:((k:Int)==2)=true:=by rw[hk];rfl
 have c1:=av xs a1;have cX:lent 0 1 1=1:=rfl;have hu:=Nm;obtain⟨H1,res,⟨ts,a',rfl,rfl,ha',jF,dD⟩,h25⟩:=ae1 xs a1 1 2 hl jX hw (by decide) (by decide);have hL:=QI dD jF;have rl:=ay ts;obtain⟨n,hn⟩:=ax ts.length;rw[hn] at rl h25;have tk:=c_ (ts:=ts) (n:=n) (by omega);obtain⟨U,hU⟩:=ax ji;obtain⟨O,hO⟩:=ax (nu.map tn);rw[hU,hO] at hu hL;unfold Fl QO;unfold S at hN hc c1 h25;unfold S;refine BN Tryz.func14 32 1 ?_;refine aW ?_;refine d6 0 hN hc ?_;refine bE (bB b0 b1 b2) ?_;refine aM hu ?_;refine cv ?_;refine d6 0 h25 c1 ?_;refine bE (fe cX tk rl @qp) ?_;exact⟨[.box true [.fv (.sl (ints xs)),.int .i64 a',.int .i64 0],.row true (aE [(U,O),([],ts)])],.lsl 1 0 2 2,⟨[(U,O),([],ts)],a',rfl,rfl,ha',hL⟩,RetOK.lentOwn (cd:=True/\True) rfl ⟨b',b'⟩ rfl (av xs a') rfl (by decide) rfl⟩
end
end Go.Proofs.YtiaaceeelfhdlaaGreat
namespace Go.Proofs.YtiaaceeelfhdlaaGreat
open Go.AM Go.Pl
set_option maxRecDepth 100000
set_option maxHeartbeats 4000000
section
variable {xs:List Int} {a:Nat} (hl:xs.length<=1000) (ha:a<=xs.length) (hw:W64 xs)
include hl ha hw
theorem aaW (hk:nN xs a 14=1):Fl xs a:=by
 have hN:=jn xs a 14 hl ha hw (by omega) (by omega);have hc:=av xs a;have jX:=bL ha;obtain⟨a1,e1⟩:=ax (nx xs a);rw[e1] at hN jX;obtain⟨k,ek⟩:=ax (nN xs a 14);rw[ek] at hN hk;have b0:((k:Int)==0)=false:=by rw[qx];omega
 have b1:((k:Int)==1)=true:=by rw[hk];rfl
 have c1:=av xs a1;have hP:=Cm xs a1 [40,41] hl jX hw (by decide) (by decide);have aG:=d5 (xs:=xs) (a:=a1) (n:=2) (by omega);have BX:=bL jX;obtain⟨a2,e2⟩:=ax (nx xs a1);rw[e2] at hP BX;obtain⟨j,ej⟩:=ax (nN xs a1 2);rw[ej] at aG;change Den Tryz.prog 16 [S xs a1] [.ptr 0 0 0,.fv (.sl (ints [40,41]))] [S xs a2] (.int .i64 (([40,41]:List Int).getD (nN xs a1 2) 0)) at hP;rw[ej] at hP;obtain⟨n,hn,qN⟩: ∃ n:Nat,([40,41]:List Int).getD j 0=n/\(n=40\/n=41):=by
  have:j=0\/j=1:=by omega
  rcases this with rfl | rfl
  .exact⟨40,rfl,.inl rfl⟩
  exact⟨41,rfl,.inr rfl⟩
 rw[hn] at hP;have c2:=av xs a2;obtain⟨H1,res,⟨ts,a3,rfl,rfl,K0,jF,dD,hz⟩,h53⟩:=HC xs a2 1 1 hl BX hw (by decide) (by decide);have hL:=QH qN dD (fun t ht i hi=>hz t ht i (by omega)) (by omega);have rl:=ay ts;obtain⟨m,hm⟩:=ax ts.length;rw[hm] at rl h53 jF;have tk:=c_ (ts:=ts) (n:=m) (by omega);have cX:lent 0 1 1=1:=rfl;have acY:lent 0 2 1=2:=rfl;have BI:lent 0 3 1=3:=rfl;have ag8:=JF n;have X6: ∀ z:List FV,(replicate n z).length=n:=fun z=>Ux
 have Sg: ∀ z:List FV,List.take n (replicate n z)=replicate n z:=fun z=>dm (by rw[Ux];omega)
 have hR:aE [(replicate n (replicate 9 rz),ts)]=[[.sl (replicate n (bR (replicate 9 rz))),.sl (au ts)]]:=by
  show [[FV.sl (ak _),FV.sl (au ts)]]=_;rw[ag8]
 obtain⟨RR,hRR⟩:=ax (aE [(replicate n (replicate 9 rz),ts)]);have pL: ∀ (o:Ob) (l:List Ob),shutBs (o::l) 0 [.ptr 0 0 0,.lsl 1 0 2 1]=shutIds [1] (o::l):=fun _ _=>rfl
 unfold Fl QO;unfold S at hN hc c1 c2 hP h53;unfold S;refine BN Tryz.func14 32 1 ?_;refine aW ?_;refine d6 0 hN hc ?_;refine bE (a8 b0 b1) ?_;refine Draw.weak ⟨[.ptr 0 0 0,.any,.lsl 1 0 1 2,.ptr 0 0 0]++replicate 29 .any,[.box true [.fv (.sl (ints xs)),.int .i64 a3,.int .i64 0],.row true RR]⟩ ?_ ?_
 .refine AW.free 0 (.ptr 0 0 0) [0,1,4] (by kernel_rfl) (by simp) rfl rfl (by kernel_rfl) ?_ ?_
  .intro H;simp -dsimp(disch:=omega) only[sh1,sh2,sh3,IntKind.bits,Int.reduceToNat,Int.reducePow,Option.isNone_none,↓reduceIte,reduceCtorEq,Nat.reduceAdd,Nat.reduceMul,Nat.reduceSub,Nat.reduceBEq,Nat.reduceEqDiff,Nat.reduceLT,Nat.reduceLeDiff,ru,zu]
  refine AW.free 4 (.ptr 0 0 0) [1,4] (by kernel_rfl) (by simp) rfl rfl (by kernel_rfl) ?_ ?_
  .intro H;simp -dsimp(disch:=omega) only[sh1,sh2,sh3,IntKind.bits,Int.reduceToNat,Int.reducePow,Option.isNone_none,↓reduceIte,reduceCtorEq,Nat.reduceAdd,Nat.reduceMul,Nat.reduceSub,Nat.reduceBEq,Nat.reduceEqDiff,Nat.reduceLT,Nat.reduceLeDiff,ru,zu]
  refine AW.one 1 (by kernel_rfl) rfl ?_;refine cv ?_;refine AW.one 2 (by kernel_rfl) rfl ?_;refine cv ?_;refine sa 0 hP (by simp[bH,eS,dS,dI]) rfl c1 rfl rfl rfl ?_;refine bE pL ?_;refine AW.two 3 5 (by kernel_rfl) rfl rfl ?_ ?_
  .refine cv ?_;refine⟨⟨by omega,by omega,by omega,by omega⟩,?_⟩;refine AW.one 5 (by kernel_rfl) rfl ?_;refine cv ?_;refine d6 0 h53 c2 ?_;refine bE (bB cX acY BI) ?_;refine AW.one 6 (by kernel_rfl) rfl ?_;refine cv ?_;refine AW.one 7 (by kernel_rfl) rfl ?_;refine bE (gn tk rl @qp X6 Sg) ?_;refine AW.one 8 (by kernel_rfl) rfl ?_;refine cv ?_;refine AW.done (by kernel_rfl) ?_;refine fW [0,4] ?_ ?_
   .simp[bO,eT,cJ,aU]
   simp[fM,fC,aU,cJ,bA,bh,aZ,bJ];rw[<-hRR,hR];rfl
  refine cv ?_;refine d6 0 h53 c2 ?_;refine bE (bB cX acY BI) ?_;refine AW.one 3 (by kernel_rfl) rfl ?_;refine cv ?_;refine⟨⟨by omega,by omega,by omega,by omega⟩,?_⟩;refine AW.one 6 (by kernel_rfl) rfl ?_;refine cv ?_;refine AW.one 7 (by kernel_rfl) rfl ?_;refine bE (gn tk rl @qp X6 Sg) ?_;refine AW.one 8 (by kernel_rfl) rfl ?_;refine cv ?_;refine AW.done (by kernel_rfl) ?_;refine fW [0,4] ?_ ?_
  .simp[bO,eT,cJ,aU]
  simp[fM,fC,aU,cJ,bA,bh,aZ,bJ];rw[<-hRR,hR];rfl
 refine cv ?_;rw[<-hRR];exact⟨[.box true [.fv (.sl (ints xs)),.int .i64 a3,.int .i64 0],.row true (aE [(replicate n (replicate 9 rz),ts)])],.lsl 1 0 1 2,⟨[(replicate n (replicate 9 rz),ts)],a3,rfl,rfl,K0,hL⟩,RetOK.lentOwn (cd:=True/\True) rfl ⟨b',b'⟩ rfl (av xs a3) rfl (by decide) rfl⟩
theorem afd:Fl xs a:=by
 have aG:=d5 (xs:=xs) (a:=a) (n:=14) (by omega);by_cases h0:nN xs a 14=0
 .exact aaJ hl ha hw h0
 by_cases h1:nN xs a 14=1
 .exact aaW hl ha hw h1
 by_cases h2:nN xs a 14=2
 .exact aaV hl ha hw h2
 by_cases h3:nN xs a 14=3
 .exact aaK hl ha hw h3
 by_cases h4:nN xs a 14=4
 .exact aaL hl ha hw h4
 by_cases h5:nN xs a 14=5
 .exact aaM hl ha hw h5
 exact aaN hl ha hw (by omega)
end
theorem Ft (h20:Den Tryz.prog 20 [] [] [] (.bool true)) (l:List Int) (hl:l.length<9223372036854775808) (hw:W64 l):Den Tryz.prog 7 [] [.fv (.sl (ints l))] [] (.bool true):=by
 have h13:=ZI l hl;have Yb:W64 (l.take 1000):=fun x hx=>hw x (xY hx)
 have Xc:(l.take 1000).length<=1000:=by rw[qf];omega
 obtain⟨xs,hxs⟩:=ax (l.take 1000);rw[hxs] at h13 Yb Xc;obtain⟨H1,res,⟨L,a1,rfl,rfl,jX,hL⟩,h14⟩:=afd Xc (dU _) Yb;have hc:=av xs 0;obtain⟨N,c,BW,g_,hN,hS⟩:=QF hL;have h28:=ae9 N hN hS;have rl:=aX L;obtain⟨n,hn⟩:=ax L.length;rw[hn] at rl h14;have tk:=fI (l:=L) (n:=n) (by omega);have e1:(c==c)=true:=by simp
 have cX:lent 0 1 1=1:=rfl;unfold S at h13 h14 hc;refine dq Tryz.func7 31 0 ?_;refine aW ?_;refine aM h13 ?_;refine cv ?_;refine d6 0 h14 hc ?_;refine bE cX ?_;refine gp BW (by simp[bH,eS,dS,dI,tk,rl]) ?_;refine cv ?_;refine gp g_ (by simp[bH,eS,dS,dI,tk,rl]) ?_;simp -dsimp(disch:=omega) only[sh1,sh2,sh3,e1,IntKind.bits,Int.reduceToNat,Int.reducePow,Option.isNone_none,↓reduceIte,reduceCtorEq,Nat.reduceAdd,Nat.reduceMul,Nat.reduceSub,Nat.reduceBEq,Nat.reduceEqDiff,Nat.reduceLT,Nat.reduceLeDiff,ru,zu];refine aM h28 ?_;refine cv ?_;refine aM h20 ?_;refine cv ?_;exact bc rfl
end Go.Proofs.YtiaaceeelfhdlaaGreat
namespace Go.Pl
open Go.AM
def eqV:Value->Value->Bool
 | .bool a,.bool b=>a==b
 | .int k a,.int l b=>decide (k=l)&&decide (a=b)
 | _,_=>false
theorem Nn {a b:Value} (h:eqV a b=true):a=b:=by
 unfold eqV at h;split at h
 .rw[beq_iff_eq] at h;rw[h]
 .rw[hG,decide_eq_true_iff,decide_eq_true_iff] at h;rw[h.1,h.2]
 cases h
def eqL (f:FV->FV->Bool):List FV->List FV->Bool
 | [],[]=>true
 | a::s,b::t=>f a b&&eqL f s t
 | _,_=>false
theorem No {f:FV->FV->Bool} (hf: ∀ a b,f a b=true->a=b): ∀ {s t:List FV},eqL f s t=true->s=t
 | [],[],_=>rfl
 | a::s,b::t,h=>by
  unfold eqL at h;rw[hG] at h;rw[hf _ _ h.1,No hf h.2]
def Np (f:FV->FV->Bool):List (List FV)->List (List FV)->Bool
 | [],[]=>true
 | a::s,b::t=>eqL f a b&&Np f s t
 | _,_=>false
theorem A4 {f:FV->FV->Bool} (hf: ∀ a b,f a b=true->a=b): ∀ {s t:List (List FV)},Np f s t=true->s=t
 | [],[],_=>rfl
 | a::s,b::t,h=>by
  unfold Np at h;rw[hG] at h;rw[No hf h.1,A4 hf h.2]
def eqF:Nat->FV->FV->Bool
 | _,.lit a,.lit b=>eqV a b
 | n+1,.sl xs,.sl ys=>Np (eqF n) xs ys
 | _,_,_=>false
theorem Vs: ∀ (n:Nat) (a b:FV),eqF n a b=true->a=b:=by
 intro n
 induction n with
 | zero=>
  intro a b h;cases a<;>cases b<;>simp only[eqF] at h<;>first | (rw[Nn h];done) | (cases h;done)
 | succ n ih=>
  intro a b h;cases a<;>cases b<;>simp only[eqF] at h<;>first | (rw[Nn h];done) | (rw[A4 ih h];done) | (cases h;done)
def JK (k:Nat) (X:List (List FV)) (r:List Ob×PV) (o:Ez):Ez:=fun j H0 args=>match H0,args with
 | [],[.fv (.sl xs)]=>if Nat.beq j k&&Np (eqF 9) xs X then some r else o j [] [.fv (.sl xs)]
 | H0,args=>o j H0 args
theorem vx {P:Program} {k:Nat} {X:List (List FV)} {r:List Ob×PV} {o:Ez} (h:Den P k [] [.fv (.sl X)] r.1 r.2) (ho:rX P o):rX P (JK k X r o):=fun j H0 args H1 res e=>by
 unfold JK at e;split at e
 .split at e
  .rename_i hb;rw[hG] at hb;have hk:=Nat.eq_of_beq_eq_true hb.1;subst hk;rw[A4 (Vs 9) hb.2];cases e;exact h
  exact ho _ _ _ _ _ e
 exact ho _ _ _ _ _ e
end Go.Pl
namespace Go.Proofs.YtiaaceeelfhdlaaGreat
open Go.AM Go.Pl
set_option maxRecDepth 1000000
set_option maxHeartbeats 4000000
def Nq (k:Nat):Nat:=if [132,136,138,183,195,198,227,231,232,237,251,259,275].any (Nat.beq k) then 1 else if [154,163].any (Nat.beq k) then 2 else 0
def Vu (k:Nat):Bool:=[83,89,206].any (Nat.beq k)
def Vv (k r:Nat):List Nat×List Nat:=if Nat.beq k 71&&Nat.beq r 24 then([14,16],[]) else if Nat.beq k 72&&Nat.beq r 12 then([0],[6]) else if Nat.beq k 80&&Nat.beq r 3 then([0],[]) else if Nat.beq k 117&&Nat.beq r 12 then([10],[]) else if Nat.beq k 194&&Nat.beq r 8 then([7],[9]) else([],[])
noncomputable abbrev Nr:Vl:=⟨[(17,Tryz.f17),(20,Tryz.f20),(24,Tryz.f24),(26,Tryz.f26),(29,Tryz.f29),(31,Tryz.f31),(54,Tryz.f54),(57,Tryz.f57),(59,Tryz.f59),(60,Tryz.f60),(70,Tryz.f70),(71,Tryz.f71),(72,Tryz.f72),(73,Tryz.f73),(80,Tryz.f80),(83,Tryz.f83),(89,Tryz.f89),(109,Tryz.f109),(114,Tryz.f114),(116,Tryz.f116),(117,Tryz.f117),(118,Tryz.f118),(130,Tryz.f130),(131,Tryz.f131),(132,Tryz.f132),(133,Tryz.f133),(134,Tryz.f134),(135,Tryz.f135),(136,Tryz.f136),(138,Tryz.f138),(139,Tryz.f139),(141,Tryz.f141),(142,Tryz.f142),(143,Tryz.f143),(152,Tryz.f152),(169,Tryz.f169),(182,Tryz.f182),(183,Tryz.f183),(184,Tryz.f184),(194,Tryz.f194),(195,Tryz.f195),(196,Tryz.f196),(198,Tryz.f198),(199,Tryz.f199),(204,Tryz.f204),(205,Tryz.f205),(206,Tryz.f206),(217,Tryz.f217),(227,Tryz.f227),(228,Tryz.f228),(230,Tryz.f230),(231,Tryz.f231),(232,Tryz.f232),(237,Tryz.f237),(245,Tryz.f245),(246,Tryz.f246),(250,Tryz.f250),(251,Tryz.f251),(252,Tryz.f252),(253,Tryz.f253),(254,Tryz.f254),(259,Tryz.f259),(267,Tryz.f267),(275,Tryz.f275),(279,Tryz.f279)],Nq,Vu,Vv,JJ,1000⟩
theorem vy:Dc Tryz.prog Nr:=⟨fun e he=>by
 simp only[uI,List.not_mem_nil,or_false] at he;rcases he with rfl | rfl | rfl | rfl | rfl | rfl | rfl | rfl | rfl | rfl | rfl | rfl | rfl | rfl | rfl | rfl | rfl | rfl | rfl | rfl | rfl | rfl | rfl | rfl | rfl | rfl | rfl | rfl | rfl | rfl | rfl | rfl | rfl | rfl | rfl | rfl | rfl | rfl | rfl | rfl | rfl | rfl | rfl | rfl | rfl | rfl | rfl | rfl | rfl | rfl | rfl | rfl | rfl | rfl | rfl | rfl | rfl | rfl | rfl | rfl | rfl | rfl | rfl | rfl | rfl
 .exact⟨Tryz.func17,by decide⟩
 .exact⟨Tryz.func20,by decide⟩
 .exact⟨Tryz.func24,by decide⟩
 .exact⟨Tryz.func26,by decide⟩
 .exact⟨Tryz.func29,by decide⟩
 .exact⟨Tryz.func31,by decide⟩
 .exact⟨Tryz.func54,by decide⟩
 .exact⟨Tryz.func57,by decide⟩
 .exact⟨Tryz.func59,by decide⟩
 .exact⟨Tryz.func60,by decide⟩
 .exact⟨Tryz.func70,by decide⟩
 .exact⟨Tryz.func71,by decide⟩
 .exact⟨Tryz.func72,by decide⟩
 .exact⟨Tryz.func73,by decide⟩
 .exact⟨Tryz.func80,by decide⟩
 .exact⟨Tryz.func83,by decide⟩
 .exact⟨Tryz.func89,by decide⟩
 .exact⟨Tryz.func109,by decide⟩
 .exact⟨Tryz.func114,by decide⟩
 .exact⟨Tryz.func116,by decide⟩
 .exact⟨Tryz.func117,by decide⟩
 .exact⟨Tryz.func118,by decide⟩
 .exact⟨Tryz.func130,by decide⟩
 .exact⟨Tryz.func131,by decide⟩
 .exact⟨Tryz.func132,by decide⟩
 .exact⟨Tryz.func133,by decide⟩
 .exact⟨Tryz.func134,by decide⟩
 .exact⟨Tryz.func135,by decide⟩
 .exact⟨Tryz.func136,by decide⟩
 .exact⟨Tryz.func138,by decide⟩
 .exact⟨Tryz.func139,by decide⟩
 .exact⟨Tryz.func141,by decide⟩
 .exact⟨Tryz.func142,by decide⟩
 .exact⟨Tryz.func143,by decide⟩
 .exact⟨Tryz.func152,by decide⟩
 .exact⟨Tryz.func169,by decide⟩
 .exact⟨Tryz.func182,by decide⟩
 .exact⟨Tryz.func183,by decide⟩
 .exact⟨Tryz.func184,by decide⟩
 .exact⟨Tryz.func194,by decide⟩
 .exact⟨Tryz.func195,by decide⟩
 .exact⟨Tryz.func196,by decide⟩
 .exact⟨Tryz.func198,by decide⟩
 .exact⟨Tryz.func199,by decide⟩
 .exact⟨Tryz.func204,by decide⟩
 .exact⟨Tryz.func205,by decide⟩
 .exact⟨Tryz.func206,by decide⟩
 .exact⟨Tryz.func217,by decide⟩
 .exact⟨Tryz.func227,by decide⟩
 .exact⟨Tryz.func228,by decide⟩
 .exact⟨Tryz.func230,by decide⟩
 .exact⟨Tryz.func231,by decide⟩
 .exact⟨Tryz.func232,by decide⟩
 .exact⟨Tryz.func237,by decide⟩
 .exact⟨Tryz.func245,by decide⟩
 .exact⟨Tryz.func246,by decide⟩
 .exact⟨Tryz.func250,by decide⟩
 .exact⟨Tryz.func251,by decide⟩
 .exact⟨Tryz.func252,by decide⟩
 .exact⟨Tryz.func253,by decide⟩
 .exact⟨Tryz.func254,by decide⟩
 .exact⟨Tryz.func259,by decide⟩
 .exact⟨Tryz.func267,by decide⟩
 .exact⟨Tryz.func275,by decide⟩
 exact⟨Tryz.func279,by decide⟩,vw⟩
def aaY (qs:List Rat):List FV:=bR (qs.map BP)
def afe (t:List Int×Rat):List FV:=gI (t.1,BP t.2)
def aaZ (r:List (List Rat)×List (List Int×Rat)):List FV:=[.sl (r.1.map aaY),.sl (r.2.map afe)]
def unt (a b:Rat):List FV:=aaZ ([[1,0,0,0,0,0,0,0,-a],[-1,0,0,0,0,0,0,0,b]],[(replicate 8 0,1)])
def Pg (a b c:Rat):List FV:=aaZ ([[-1,0,0,0,0,0,0,0,b],[1,0,0,0,0,0,0,0,-a]],[(replicate 8 0,c)])
def aa0:List (List FV):=[unt 0 2,unt 1 3]
def aa1:List (List FV):=[Pg 0 1 1,Pg 1 2 2,Pg 2 3 1]
def QZ:List (List FV):=[Pg 0 1 1,Pg 1 2 2,Pg 0 2 (-1),Pg 2 3 1,Pg 1 3 (-1)]
def aa2:List (List FV):=[Pg 0 2 1,Pg 1 3 1]
def hlf (a b:Rat):List FV:=aaY [a,0,0,0,0,0,0,0,b]
def Q0:List (List FV):=[[.sl [hlf 1 (-3)]],[.sl [hlf (-1) 3,hlf 1 (-2)]],[.sl [hlf (-1) 2,hlf 1 (-1)]],[.sl [hlf (-1) 1,hlf 1 0]],[.sl [hlf (-1) 0]]]
theorem aa3:A0 tab Nr 60 71 [] [.fv (.sl aa2)]=some ([],.tup [.fv (.sl Q0),.int .i64 0]):=by kernel_rfl
theorem aa4:A0 tab Nr 60 71 [] [.fv (.sl QZ)]=some ([],.tup [.fv (.sl Q0),.int .i64 0]):=by kernel_rfl
def aa5:Ez:=JK 71 aa2 ([],.tup [.fv (.sl Q0),.int .i64 0]) (JK 71 QZ ([],.tup [.fv (.sl Q0),.int .i64 0]) JJ)
theorem Q1:rX Tryz.prog aa5:=vx (mG nM nO vy 60 _ _ _ _ _ aa3) (vx (mG nM nO vy 60 _ _ _ _ _ aa4) vw)
noncomputable abbrev Vw:Vl:=⟨Nr.fns,Nq,Vu,Vv,aa5,1000⟩
theorem HW:Dc Tryz.prog Vw:=⟨vy.fns,Q1⟩
theorem aa6:A0 tab Vw 60 24 [] [.fv (.sl aa0)]=some ([],.tup [.fv (.sl aa1),.int .i64 0]):=by kernel_rfl
theorem aa7:A0 tab Vw 60 24 [] [.fv (.sl QZ)]=some ([],.tup [.fv (.sl []),.int .i64 0]):=by kernel_rfl
def aa8:Ez:=JK 24 aa0 ([],.tup [.fv (.sl aa1),.int .i64 0]) (JK 24 QZ ([],.tup [.fv (.sl []),.int .i64 0]) JJ)
theorem Q2:rX Tryz.prog aa8:=vx (mG nM nO HW 60 _ _ _ _ _ aa6) (vx (mG nM nO HW 60 _ _ _ _ _ aa7) vw)
noncomputable abbrev aa9:Vl:=⟨Nr.fns,Nq,Vu,Vv,aa8,1000⟩
theorem Q3:Dc Tryz.prog aa9:=⟨vy.fns,Q2⟩
theorem JL:A0 tab aa9 60 20 [] []=some ([],.bool true):=by kernel_rfl
theorem aba:Den Tryz.prog 20 [] [] [] (.bool true):=mG nM nO Q3 60 _ _ _ _ _ JL
theorem wn7 (l:List Int) (hl:l.length<9223372036854775808) (hw:W64 l):Den Tryz.prog 7 [] [.fv (.sl (ints l))] [] (.bool true):=Ft aba l hl hw
end Go.Proofs.YtiaaceeelfhdlaaGreat
