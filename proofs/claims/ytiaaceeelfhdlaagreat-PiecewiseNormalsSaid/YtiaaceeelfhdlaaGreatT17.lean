/- Plain:polynomials in one or two variables:how long and how great what comes up in a substitution is. -/
import Derived.Test.YtiaaceeelfhdlaaGreatT13
import Derived.Test.YtiaaceeelfhdlaaGreatT16
import Derived.Test.YtiaaceeelfhdlaaGreatT8
import Derived.Test.YtiaaceeelfhdlaaGreatT14
import Derived.Test.YtiaaceeelfhdlaaGreatT15
import Derived.Test.YtiaaceeelfhdlaaGreatT1
set_option linter.all false
open Nat (reduceAdd reduceEqDiff reduceLT reduceLeDiff reduceMul reduceSub)
open List (append_assoc append_nil eq_of_mem_replicate filter_cons_of_neg getElem?_set_ne idxOf? length_cons length_eq_zero_iff length_map length_nil length_set length_take map_cons mem_cons_of_mem mem_filter mem_map mem_of_getElem? mem_or_eq_of_mem_set nil_append not_mem_nil replicate)
namespace Go.Pl
open Go.AM
def Duo (v w:Nat) (Nv Nw:Int) (p:List Tm):Prop:= ∀ t∈p,t.1.length=8/\(∀ i,i<8->i≠v->i≠w->t.1.getD i 0=0)/\(0<=t.1.getD v 0/\t.1.getD v 0<=Nv)/\0<=t.1.getD w 0/\t.1.getD w 0<=Nw
def Uni (w:Nat) (N:Int) (p:List Tm):Prop:= ∀ t∈p,t.1.length=8/\(∀ i,i<8->i≠w->t.1.getD i 0=0)/\0<=t.1.getD w 0/\t.1.getD w 0<=N
theorem Duo.len8 {v w:Nat} {N M:Int} {p:List Tm} (h:Duo v w N M p):Len8 p:=fun t ht=>(h t ht).1
theorem s8: ∀ (N:Nat) (l:List Int),l.Nodup->(∀ x∈l,0<=x/\x<N)->l.length<=N
 | 0,l,_,h=>by
  match l with
  | []=>simp
  | x::l=>have:=h x (by simp);omega
 | N+1,l,hd,h=>by
  by_cases hm:(N:Int)∈l
  .have h1:=s8 N (l.erase N) (hd.erase _) (fun x hx=>by
    have h2:=h x (List.mem_of_mem_erase hx);have h3:x≠N:=fun he=>by rw[he] at hx;exact(List.Nodup.not_mem_erase hd) hx
    omega)
   rw[List.length_erase_of_mem hm] at h1;omega
  have h1:=s8 N l hd (fun x hx=>by
   have h2:=h x hx;have h3:x≠N:=fun he=>hm (by rw[<-he];exact hx)
   omega)
  omega
structure U1 (w N k:Nat) (p:List Tm):Prop where
 can:Canon p
 uni:Uni w N p
 pb:PB k p
theorem PB.flat {k:Nat} (hk:1<=k): ∀ {l:List (List Tm)},(∀ p∈l,PB k p)->PB (l.length*(k+1)+1) l.flatten
 | [],_=>(PB.nil (qp 1)).mono (by simp)
 | p::l,h=>by
  have ih:=PB.flat hk (fun q hq=>h q (mem_cons_of_mem _ hq));refine((h p (by simp)).append ih).mono ?_;rw[length_cons,Nat.add_mul];omega
end Go.Pl
namespace Go.Proofs.YtiaaceeelfhdlaaGreat
open Go.AM Go.Pl
set_option maxRecDepth 100000
set_option maxHeartbeats 4000000
structure FOk (w j:Nat) (l:List Raw):Prop where
 ok:LOk j l
 one: ∀ i,i<8->i≠w->co l i=0
theorem Hz {v w:Nat} {N M K:Int} {p:List Tm} (h:Duo v w N M p) (hN:N<=K) (hM:M<=K) (hK:0<=K): ∀ t∈p,∀ e∈t.1,0<=e/\e<=K:=fun t ht e he=>by
 obtain⟨a1,a2,a3,a4⟩:=h t ht;obtain⟨i,hi,rfl⟩:=List.mem_iff_getElem.1 he;have e1:t.1.getD i 0=t.1[i]:=by rw[qa,qb hi];rfl
 rw[<-e1];by_cases X7:i=w
 .rw[X7];omega
 by_cases X8:i=v
 .rw[X8];omega
 rw[a2 i (by omega) X8 X7];omega
end Go.Proofs.YtiaaceeelfhdlaaGreat
namespace Go.Pl
open Go.AM
def Two (v w:Nat) (cs:List (List Raw)):Prop:= ∀ l∈cs,∀ i,i<8->i≠v->i≠w->co l i=0
theorem Jw {v w:Nat} {cs:List (List Raw)} (h:Two v w cs):bt cs<=2/\(v=w->bt cs<=1):=by
 have key: ∀ w'∈(List.range 8).filter (occ cs),w'=v\/w'=w:=fun w' hw=>by
  rw[mem_filter,List.mem_range] at hw;obtain⟨l,hl,h0⟩:=ei.1 hw.2;by_cases h1:w'=v
  .exact .inl h1
  by_cases h2:w'=w
  .exact .inr h2
  exact absurd (h l hl w' hw.1 h1 h2) h0
 have l6:((List.range 8).filter (occ cs)).Pairwise (fun a b=>a≠b):=List.Pairwise.filter _ List.nodup_range;refine⟨?_,fun he=>?_⟩
 .have:=jq _ [v,w] l6 (fun f hf=>by rcases key f hf with h1 | h1<;>simp[h1])
  exact this
 subst he;have:=jq _ [v] l6 (fun f hf=>by rcases key f hf with h1 | h1<;>simp[h1])
 exact this
theorem wH {v w k:Nat} {cs:List (List Raw)} (hk: ∀ l∈cs,LOk k l) (oB:1<=k) (h2:Two v w cs) (aA:cs.length<=100) (hn:((ncs cs).length<=7/\k<=59)\/(v=w/\(ncs cs).length<=12/\k<=499)):KT cs:=by
 have h9: ∀ l∈cs,l.length=9:=fun l hl=>(hk l hl).len
 have Ef:=iJ h9;have h1:=oT h9 Ef;obtain⟨h3,h3'⟩:=Jw h2;have h4:=mr h9 Ef;have hg:GoodT (sysL cs []):=⟨2*k,by omega,SysF.of h9 Ef (fun l hl _=>mq (hk l hl) oB),⟨by omega,fun h=>by omega,fun h=>by
  rcases hn with hn | hn
  .omega
  have:=h3' hn.1;omega,fun h=>by omega⟩⟩
 exact⟨⟨fun l hl=>(hk l hl).mono (by omega),aA,by omega,hg.good,fun l hl _=>(hk l hl).mono (by omega)⟩,hg⟩
theorem Fg {cs:List (List Raw)} (h9: ∀ l∈cs,l.length=9) (hi:cN cs=true) {f:List Raw} (hf:f∈c7 cs): ∃ l∈cs,¬aO l/\f=cT l:=by
 unfold c7 at hf;rw[if_pos hi] at hf;exact((iJ h9).mem f).1 ((rJ _ _ _).subset hf)
theorem HA {v w:Nat} (hv:v<8) (hw:w<8) {Nv Nw:Nat} {p:List Tm} (hc:Canon p) (h:Duo v w Nv Nw p):p.length<=(Nv+1)*(Nw+1):=by
 obtain⟨f,hf⟩: ∃ f:Tm->Int,f=fun t=>t.1.getD v 0*((Nw:Int)+1)+t.1.getD w 0:=⟨_,rfl⟩
 have h1:(p.map f).Nodup:=by
  have:p.Pairwise (fun a b=>f a≠f b):=by
   refine List.Pairwise.imp_of_mem (fun{a b} ha hb hg he=>?_) hc.sorted;obtain⟨a1,a2,a3,a4⟩:=h a ha;obtain⟨b1,b2,b3,b4⟩:=h b hb;rw[hf] at he;dsimp only at he;have Oj:a.1.getD v 0=b.1.getD v 0:=by
    obtain⟨x,hx⟩:=K_ (a.1.getD v 0);obtain⟨y,hy⟩: ∃ x,b.1.getD v 0=x:=⟨_,rfl⟩;obtain⟨s,hs⟩: ∃ x,a.1.getD w 0=x:=⟨_,rfl⟩;obtain⟨t,ht⟩: ∃ x,b.1.getD w 0=x:=⟨_,rfl⟩;rw[hx,hy,hs,ht] at he;rw[hx,hy];rw[hs] at a4;rw[ht] at b4;rcases Int.lt_trichotomy x y with h5 | h5 | h5
    .have:(x+1)*((Nw:Int)+1)<=y*((Nw:Int)+1):=Int.mul_le_mul_of_nonneg_right (by omega) (by omega);rw[Int.add_mul] at this;omega
    .exact h5
    have:(y+1)*((Nw:Int)+1)<=x*((Nw:Int)+1):=Int.mul_le_mul_of_nonneg_right (by omega) (by omega);rw[Int.add_mul] at this;omega
   have hww:a.1.getD w 0=b.1.getD w 0:=by rw[Oj] at he;omega
   refine Av hg (List.ext_getElem (by omega) (fun i pJ gq=>?_));have e:a.1.getD i 0=b.1.getD i 0:=by
    by_cases X8:i=v
    .rw[X8];exact Oj
    by_cases X7:i=w
    .rw[X7];exact hww
    rw[a2 i (by omega) X8 X7,b2 i (by omega) X8 X7]
   rw[qa,qb pJ,qa,qb gq] at e;exact e
  exact List.pairwise_map.2 this
 have h2:=s8 ((Nv+1)*(Nw+1)) _ h1 (fun x hx=>by
  obtain⟨t,ht,rfl⟩:=mem_map.1 hx;obtain⟨_,_,b3,b4⟩:=h t ht;rw[hf];dsimp only;have e1:0<=t.1.getD v 0*((Nw:Int)+1):=Int.mul_nonneg b3.1 (by omega);have e2:t.1.getD v 0*((Nw:Int)+1)<=(Nv:Int)*((Nw:Int)+1):=Int.mul_le_mul_of_nonneg_right b3.2 (by omega);have e3:(((Nv+1)*(Nw+1):Nat):Int)=(Nv:Int)*((Nw:Int)+1)+((Nw:Int)+1):=by
   rw[Int.natCast_mul];show((Nv:Int)+1)*((Nw:Int)+1)=_;rw[Int.add_mul,Int.one_mul]
  omega)
 rw[length_map] at h2;exact h2
theorem Duo.nf {v w:Nat} {N M:Int} {p:List Tm} (h:Duo v w N M p):Duo v w N M (Go.Pl.nf p):=fun t ht=>by
 obtain⟨x,hx,he⟩:=ve ht;rw[<-he];exact h x hx
theorem Duo.flat {v w:Nat} {N M:Int} {l:List RC} (h: ∀ r∈l,Duo v w N M r.2):Duo v w N M (l.flatMap (·.2)):=fun t ht=>by
 obtain⟨r,hr,h1⟩:=List.mem_flatMap.1 ht;exact h r hr t h1
theorem PB.flatR {k c:Nat} (hk:1<=k) {l:List RC} (h: ∀ r∈l,PB k r.2) (hc:l.length<=c):PB (c*(k+1)+1) (l.flatMap (·.2)):=by
 have:=PB.flat hk (l:=l.map (·.2)) (fun p hp=>by
  obtain⟨r,hr,rfl⟩:=mem_map.1 hp;exact h r hr)
 rw[length_map,<-List.flatMap_def] at this;exact this.mono (by have:=qn (k+1) hc;omega)
theorem MM {l:List RC} (hl:RcOk l) {r:RC} (hr:r∈js l):r.2=polyS' (l.filter (fun x=>decide (x.1=r.1)))/\ ∃ x∈l,x.1=r.1:=by
 have W3:=AQ hl;have hk:=W3.cn r hr;have ia:RcOk (l.filter (fun x=>decide (x.1=r.1))):=fun x hx=>hl x (mem_filter.1 hx).1
 have eP: ∀ {M:List RC},NF M->r∈M-> ∀ m,da r.1 m M=b_ m r.2:=fun{M}=>by
  induction M with
  | nil=>intro _ h;simp at h
  | cons x M ih=>
   intro hM h m;rcases List.mem_cons.1 h with h1 | h1
   .rw[h1];exact hM.own
   have aG:=hM.head r h1;have fX:x.1≠r.1:=fun he=>by rw[he,lI] at aG;omega
   rw[da,if_neg fX,ih hM.tail h1 m];grind
 have acB: ∀ m,da r.1 m l=b_ m ((l.filter (fun x=>decide (x.1=r.1))).flatMap (·.2)):=fun m=>by
  clear hl hr W3 ia eP
  induction l with
  | nil=>rfl
  | cons x l ih=>
   rw[da,ih];by_cases he:x.1=r.1
   .rw[if_pos he,List.filter_cons_of_pos (by simpa using he),List.flatMap_cons,fF]
   rw[if_neg he,filter_cons_of_neg (by simpa using he)];grind
 refine⟨mi (W3.can r hr) (dW ia.flat) (fun m=>?_),?_⟩
 .unfold polyS';rw[sP,<-acB,<-wv hl,eP W3 hr]
 obtain⟨m,hm⟩:=jT (W3.can r hr) (W3.ne r hr);rw[<-eP W3 hr,wv hl,acB] at hm;cases hf:l.filter (fun x=>decide (x.1=r.1)) with
 | nil=>rw[hf] at hm;exact absurd rfl hm
 | cons x t=>
  have:x∈l.filter (fun x=>decide (x.1=r.1)):=by rw[hf];simp
  rw[mem_filter] at this;exact⟨x,this.1,by simpa using this.2⟩
end Go.Pl
namespace Go.Proofs.YtiaaceeelfhdlaaGreat
open Go.AM Go.Pl
set_option maxRecDepth 100000
set_option maxHeartbeats 4000000
structure RgQ (v w Nv Nw j kp n:Nat) (r:RC):Prop where
 ok: ∀ l∈r.1,LOk j l
 two:Two v w r.1
 len:r.1.length<=40
 ncl:(ncs r.1).length<=n
 can:Canon r.2
 duo:Duo v w Nv Nw r.2
 pb:PB kp r.2
 alt:(n<=7/\j<=59)\/(Two v v r.1/\n<=12/\j<=499)
structure C6 (v w Nv Nw j kp n c:Nat):Prop where
 hv:v<8
 hw:w<8
 j1:1<=j
 k1:1<=kp
 box:(Nv+1)*(Nw+1)<=12
 nle:Nv<=100/\Nw<=100
 few:c<20
 pk:c*(kp+1)+1<=10000000
theorem s9 {p:List Tm} (h:Canon p):nfR (p.map tn)=p:=by unfold nfR;rw[dQ,oN h]
theorem RgQ.cst {v w Nv Nw j kp n c:Nat} {r:RC} (h:RgQ v w Nv Nw j kp n r) (s:C6 v w Nv Nw j kp n c):KT r.1:=by
 have h0:=h.len;have:=h.ncl;rcases h.alt with h1 | h1
 .exact wH h.ok s.j1 h.two (by omega) (.inl (by omega))
 exact wH h.ok s.j1 h1.1 (by omega) (.inr ⟨rfl,by omega,h1.2.2⟩)
theorem RgQ.pok {v w Nv Nw j kp n c:Nat} {r:RC} (h:RgQ v w Nv Nw j kp n r) (s:C6 v w Nv Nw j kp n c) (hc:1<=c):POk 10000000 1024 r.2/\r.2.length<=12:=by
 have h1:=s.pk;have h2:=Nat.le_mul_of_pos_left (kp+1) (show 0<c by omega);have h3:=s.nle;exact⟨⟨h.can,fun t ht=>(h.pb.bd s.k1 t ht).mono (by omega),Hz h.duo (by omega) (by omega) (by omega)⟩,ka (HA s.hv s.hw h.can h.duo) s.box⟩
theorem MN {v w Nv Nw j kp n c:Nat} (s:C6 v w Nv Nw j kp n c) {t:List RC} (h: ∀ r∈t,Canon r.2/\Duo v w Nv Nw r.2/\PB kp r.2) (hc:t.length<=c):
 Canon (polyS' t)/\Duo v w Nv Nw (polyS' t)/\PB (c*(kp+1)+1) (polyS' t)/\POk 10000000 1024 (polyS' t)/\(polyS' t).length<=12:=by
 have hd:Duo v w Nv Nw (polyS' t):=(Duo.flat (fun r hr=>(h r hr).2.1)).nf
 have sx:Canon (polyS' t):=dW (Duo.flat (fun r hr=>(h r hr).2.1)).len8
 have hb:PB (c*(kp+1)+1) (polyS' t):=(PB.flatR s.k1 (fun r hr=>(h r hr).2.2) hc).nf
 have h3:=s.nle
 exact⟨sx,hd,hb,⟨sx,fun t ht=>(hb.bd (by omega) t ht).mono s.pk,Hz hd (by omega) (by omega) (by omega)⟩,ka (HA s.hv s.hw sx hd) s.box⟩
theorem C7 {l:List RC} (hc: ∀ r∈l,Canon r.2):normL (l.map rn)=(l.filter (fun r=>cN r.1&&!r.2.isEmpty)).map (fun r=>(c7 r.1,r.2)):=by
 unfold normL
 induction l with
 | nil=>rfl
 | cons r l ih=>
  have ih:=ih (fun x hx=>hc x (mem_cons_of_mem _ hx));have hr:nfR ((rn r).2)=r.2:=s9 (hc r (by simp));have hk:iS (rn r)=(cN r.1&&!r.2.isEmpty):=by unfold iS;rw[hr];rfl
  rw[map_cons];cases hb:(cN r.1&&!r.2.isEmpty) with
  | false=>rw[filter_cons_of_neg (by rw[hk,hb];decide),filter_cons_of_neg (by simp only[hb];decide),ih]
  | true=>
   rw[List.filter_cons_of_pos (by rw[hk,hb]),List.filter_cons_of_pos (by simp only[hb]),map_cons,map_cons,ih,hr];rfl
theorem aat {v w Nv Nw j kp n c:Nat} {l:List RC} (s:C6 v w Nv Nw j kp n c) (h: ∀ r∈l,RgQ v w Nv Nw j kp n r) (hc:l.length<=c):C4 (l.map rn):=by
 have eO: ∀ x∈l.map rn,∃ r∈l,x=rn r:=fun x hx=>by
  obtain⟨r,hr,rfl⟩:=mem_map.1 hx;exact⟨r,hr,rfl⟩
 have hpk: ∀ r∈l,POk 10000000 1024 r.2/\r.2.length<=12:=fun r hr=>(h r hr).pok s (by have:=List.length_pos_of_mem hr;omega)
 have akF:=s.pk;have WX:=s.few;have iY: ∀ r∈l,kp<=10000000:=fun r hr=>by
  have:=List.length_pos_of_mem hr;have:=Nat.le_mul_of_pos_left (kp+1) (show 0<c by omega);omega
 refine⟨fun x hx=>?_,fun x hx=>?_,fun x hx _=>?_,by rw[length_map];omega,fun x hx=>?_,?_,fun t u ht=>?_⟩
 .obtain⟨r,hr,rfl⟩:=eO x hx;have hk:=hpk r hr;exact⟨fun t ht=>(hk.1.ts (by decide) t ht).mono (by decide),by
   show PB _ ((r.2.map tn).map tq);rw[dQ];exact(h r hr).pb.mono (by have:=iY r hr;omega),by
   show(r.2.map tn).length<=_;rw[length_map];omega,by
   show(nfR (r.2.map tn)).length<=_;rw[s9 hk.1.canon];exact hk.2⟩
 .obtain⟨r,hr,rfl⟩:=eO x hx;exact(hpk r hr).1.validB
 .obtain⟨r,hr,rfl⟩:=eO x hx;exact(h r hr).cst s
 .obtain⟨r,hr,rfl⟩:=eO x hx;have:r.1.length<=40:=(h r hr).len;show r.1.length<=_;omega
 .unfold normL;rw[length_map];exact GH (List.length_filter_le _ _) (by rw[length_map];omega)
 have bC: ∀ x∈t,∃ r∈l,x.2=r.2:=fun x hx=>by
  have:x∈normL (l.map rn):=ht.mem_iff.1 (List.mem_append_left _ hx);rw[C7 (fun r hr=>(h r hr).can)] at this;obtain⟨r,hr,rfl⟩:=mem_map.1 this;exact⟨r,(mem_filter.1 hr).1,rfl⟩
 have aA:t.length<=c:=by
  have:=ht.length_eq;rw[qe,C7 (fun r hr=>(h r hr).can),length_map] at this;have h9:=List.length_filter_le (fun r:RC=>cN r.1&&!r.2.isEmpty) l;omega
 have:=MN s (t:=t) (fun x hx=>by
  obtain⟨r,hr,he⟩:=bC x hx;rw[he];exact⟨(h r hr).can,(h r hr).duo,(h r hr).pb⟩) aA
 exact⟨this.2.2.2.1,this.2.2.2.2⟩
structure RgV (v w Nv Nw j kp n:Nat) (r:RC):Prop where
 q:RgQ v w Nv Nw j kp n r
 idem:c7 r.1=r.1
 inn:cN r.1=true
 len:r.1.length<=n
def o9 (p:List Tm) (t:Tm):List Tm:=(Ax p t).filter mZ
theorem Jx {p:List Tm} {t:Tm} {i:Nat} (h:i<p.length):o9 (p.take (i+1)) t=if mZ (Je p[i] t)=true then o9 (p.take i) t++[Je p[i] t] else o9 (p.take i) t:=by
 unfold o9 Ax;rw[List.take_add_one,qb h,BM,List.filter_append];show _++List.filter mZ [Je p[i] t]=_;by_cases hz:mZ (Je p[i] t)=true
 .rw[if_pos hz,List.filter_cons_of_pos hz];rfl
 rw[if_neg hz,filter_cons_of_neg hz];simp
theorem MO (p:List Tm) (t:Tm):(o9 p t).length<=p.length:=by
 unfold o9;have:=List.length_filter_le mZ (Ax p t);unfold Ax at this;rwa [length_map] at this
theorem aau (p:List Tm) (t:RT) (hp:LOkT 1000000 1000000 p) (ht:t.1.length=8) (hte: ∀ x∈t.1,0<=x/\x<=1000000) (Sg:t.2.Ok 1000000) (hn:p.length<=10000):
 Den Tryz.prog 164 [] [PL (p.map tn),.agg (gH t)] [] (PL ((o9 p (tq t)).map tn)):=by
 have rp:=ay (p.map tn)
 rw[length_map] at rp
 obtain⟨n,cB⟩:=ax p.length
 rw[cB] at rp hn
 have tcl:=aL ht
 have tc8:=eJ ht
 have tcf:=eK ht
 refine dq Tryz.func164 47 0 ?_
 refine cz tcl ?_
 repeat refine ae ?_
 refine wl (α:=Nat) (fun i=>⟨[PL (p.map tn),.any,.any,.ptr 0 0 0,.any,.lsl 1 0 (o9 (p.take i) (tq t)).length 11,.int .i64 i]++replicate 42 .any,[.box true (gH t),.row true (au ((o9 (p.take i) (tq t)).map tn))]⟩) (fun i=>n - i) (fun i=>i<=n) 0 ?_ (dU _) ?_
 .refine Weak.nil 5 11 (by decide) rfl ?_
  refine fW [0,1] ?_ ?_
  .simp[bO,eT,cJ,aU]
   rfl
  simp[fM,fC,iz]
  rfl
 intro i hi
 have sc:=MO (p.take i) (tq t)
 rw[length_take,cB,Nat.min_eq_left hi] at sc
 have ro:=ay ((o9 (p.take i) (tq t)).map tn)
 rw[length_map] at ro
 have tko:=c_ (ts:=(o9 (p.take i) (tq t)).map tn) (n:=(o9 (p.take i) (tq t)).length) (by rw[length_map];omega)
 refine cz rp ?_
 refine bK ?_ ?_
 .intro h1 h2
  have eV:i<p.length:=by omega
  have r1:=E_ eV
  have bC:p[i]∈p:=pP eV
  have W4:=hp.len _ bC
  have ye:=hp.bd _ bC
  have o6:=hp.exp _ bC
  have bQ:=Jx (t:=tq t) eV
  obtain⟨s,k7⟩:=ax (p[i])
  rw[k7] at r1 W4 ye o6 bQ
  obtain⟨O,hO⟩:=ax (o9 (p.take i) (tq t))
  rw[hO] at sc ro tko bQ ⊢
  have hs8:(tn s).1.length=8:=W4
  have s11:=bM hs8
  have sfl:=aR hs8
  have scl:=aL hs8
  have hI0:p7 s.1 t.1 0=s.1:=by simp[p7,o8]
  have hI8:=Jd W4 ht
  refine ah (bU h2 r1 s11 @eY sfl scl rp @append_nil.{0}) ?_
  repeat refine ae ?_
  refine wl (α:=Nat) (fun k=>⟨[PL (p.map tn),.any,.any,.ptr 0 0 0,.any,.lsl 1 0 O.length 11,.int .i64 i,.ptr 2 0 0,.int .i64 k]++replicate 40 .any,[.box true (gH t),.row true (au (O.map tn)),.box true (gH (p7 s.1 t.1 k,cn s.2))]⟩) (fun k=>8 - k) (fun k=>k<=8) 0 ?_ (dU _) ?_
  .rw[hI0]
   refine fW [0,1,2] ?_ ?_
   .simp[bO,eT,cJ,aU]
   simp[fM,fC,iz]
   exact iz _ (tn s)
  intro k hk
  have I8:=CR W4 ht hk
  have xl:((p7 s.1 t.1 k,cn s.2):RT).1.length=8:=I8
  have xcl:=aL xl
  refine aW ?_
  refine bK ?_ ?_
  .intro h3 h4
   have dZ:=LZ (t:=(p7 s.1 t.1 k,cn s.2)) (i:=k) (by omega) xl
   have tat:=LZ (t:=t) (i:=k) (by omega) ht
   dsimp only at dZ
   rw[Qd W4 ht (by omega)] at dZ
   have ct:=Az (t:=(p7 s.1 t.1 k,cn s.2)) (i:=k) (x:=s.1.getD k 0+t.1.getD k 0) (by omega) xl
   dsimp only at ct
   rw[Jc W4 ht (by omega)] at ct
   have ga:=jR (by decide) o6 k
   have gb:=jR (by decide) hte k
   obtain⟨x,hx⟩:=ax (s.1.getD k 0)
   obtain⟨y,hy⟩:=ax (t.1.getD k 0)
   rw[hx] at dZ ct ga
   rw[hy] at tat ct gb
   refine ah h4 ?_
   refine dw (by kernel_rfl) ?_
   refine ah (kX dZ tat xcl tcl @Nat.mul_one ct) ?_
   repeat refine ae ?_
   refine aw (k+1) ?_ (by omega)
   refine fW [0,1,2] ?_ ?_
   .simp[bO,eT,cJ,aU]
   simp[fM,fC,iz]
  intro h3 h4
  have hk8:k=8:=by omega
  subst hk8
  have BG:=Cv W4 ht
  rw[hI8] at xl xcl ⊢
  have KZ:=LB (cn s.2) t.2 ((bn ye).mono (by decide)) (Sg.mono (by decide))
  rw[cK] at KZ
  change Den Tryz.prog 49 [] [.agg (cn s.2).c,.agg t.2.c] [] (.agg (cn (s.2*t.2.q)).c) at KZ
  have hbm:Bd 2000000 (s.2*t.2.q):=Bd.mul (j:=1000000) (k:=1000000) ye (Sg.bd (by decide)) (by decide)
  have iX:=kh (cn (s.2*t.2.q)) ((bn hbm).mono (by decide))
  rw[cK] at iX
  change Den Tryz.prog 41 [] [.agg (cn (s.2*t.2.q)).c] [] _ at iX
  have xcf:=eK xl
  have pc:=lC (r:=cn (s.2*t.2.q)) xl
  have yl:((o8 s.1 t.1,cn (s.2*t.2.q)):RT).1.length=8:=BG
  have ycf:=eK yl
  have ycl:=aL yl
  have y11:=eZ yl
  have acC:=bM yl
  have yfl:=aR yl
  have cI:=jM (O.map tn) (tn (Je s (tq t)))
  rw[<-CN] at cI
  change au (O.map tn)++[gI (o8 s.1 t.1,cn (s.2*t.2.q))]=_ at cI
  have Gi:mZ (Je s (tq t))=decide (eg (s.2*t.2.q)≠0):=by
   show decide (s.2*t.2.q≠0)=_;by_cases hz:s.2*t.2.q=0
   .rw[mU (by simpa using hz),mU (by simpa using aQ.2 hz)]
   rw[iK hz,iK (show eg (s.2*t.2.q)≠0 from fun h=>hz (aQ.1 h))]
  obtain⟨z,hz⟩:=ax (cn (s.2*t.2.q))
  rw[hz] at KZ iX pc yl ycf ycl y11 acC yfl cI
  obtain⟨g,hg⟩:=ax (eg (s.2*t.2.q))
  rw[hg] at iX Gi
  dsimp only at xcf ycf pc
  refine ah (f0 h4 tcl xcl tcf xcf @bS @p6) ?_
  repeat refine ae ?_
  refine BQ KZ ?_
  refine ah (bU @im @fw @bS @p6 @UT pc xcl (bB ycl ycf @append_nil.{0})) ?_
  repeat refine ae ?_
  refine BQ iX ?_
  refine ah @im ?_
  refine Br.bneInt ?_ ?_
  .intro h5 h6
   rw[Gi,iK h5,if_pos rfl] at bQ
   refine ah (bU h6 ycl y11 acC yfl @eh @eG (fe ro tko cI @append_nil.{0})) ?_
   repeat refine ae ?_
   refine aw (i+1) ?_ (by omega)
   rw[bQ,qe]
   refine fW [0,4] ?_ ?_
   .simp[bO,eT,cJ,aU]
   simp[fM,fC,iz]
  intro h5 h6
  rw[Gi,mU (by simpa using h5),if_neg (by decide)] at bQ
  refine ah h6 ?_
  refine aw (i+1) ?_ (by omega)
  rw[bQ]
  refine fW [0,1] ?_ ?_
  .simp[bO,eT,cJ,aU]
  simp[fM,fC,iz]
 intro h1 h2
 have XX:p.take i=p:=dm (by omega)
 rw[XX] at ro tko ⊢
 refine ah h2 ?_
 refine bc ?_
 exact j8 (a8 ro tko)
theorem Vd: ∀ x∈z8,0<=x/\x<=(1000000:Int):=fun x hx=>by
 rw[eq_of_mem_replicate hx];omega
theorem MP (H:List Ob) (A:List RT) (t:RT):bH H [PL A,.agg (gH t)]=some [PL A,.agg (gH t)]:=by
 have h:eS H (.agg (gH t))=some (.agg (gH t)):=by
  unfold eS;simp only[eh,Option.map_some,eY]
 unfold bH;unfold bH;unfold bH;rw[h];rfl
theorem ajw (p:List Tm) (r:Raw) (hp:LOkT 1000000 1000000 p) (hr:r.Ok 1000000) (hn:p.length<=10000):
 Den Tryz.prog 150 [] [PL (p.map tn),.agg r.c] [] (PL ((o9 p (z8,r.q)).map tn)):=by
 have h:=aau p (z8,r) hp fP Vd hr hn
 change Den Tryz.prog 164 [] [_,_] [] (PL ((o9 p (z8,r.q)).map tn)) at h
 have zl:=aL (t:=(z8,r)) fP
 obtain⟨A,hA⟩:=ax (p.map tn)
 obtain⟨B,hB⟩:=ax ((o9 p (z8,r.q)).map tn)
 rw[hA,hB] at h
 rw[hA,hB]
 refine dq Tryz.func150 7 0 ?_
 refine cz (fe @bS @p6 @U0 @append_nil.{0}) ?_
 repeat refine ae ?_
 refine gp h (MP _ A (z8,r)) ?_
 refine a9 ?_
 refine bc rfl
theorem aav (r:Raw) (hr:r.Ok 100000):Den Tryz.prog 176 [] [.agg r.c] [] (PL ((nf [(z8,r.q)]).map tn)):=by
 have h:=ZW [(z8,r)] (fun t ht=>by
  rw[qz] at ht;subst ht;exact⟨fP,U2,hr.mono (by decide)⟩) ((PB.one (k:=100000) (hr.bd (by decide))).mono (by decide)) (by show 1<=10000000000;decide)
 change Den Tryz.prog 69 [] [.fv (.sl [gI (z8,r)])] [] (PL ((nf [(z8,r.q)]).map tn)) at h;have zl:=aL (t:=(z8,r)) fP;have z11:=eZ (t:=(z8,r)) fP;have Ku:=bM (t:=(z8,r)) fP;have fl:=aR (t:=(z8,r)) fP;obtain⟨B,hB⟩:=ax ((nf [(z8,r.q)]).map tn);rw[hB] at h ⊢;refine dq Tryz.func176 6 0 ?_;refine cz (bU @bS @p6 @U0 zl z11 Ku fl (bB @eh @eG @append_nil.{0})) ?_
 repeat refine ae ?_
 refine gp h (by simp[bH,eS,dS,dI]) ?_;refine a9 ?_;refine bc rfl
def nu:List Tm:=[(z8,1)]
theorem Ve:nf [(z8,((1:Int):Rat))]=nu:=by
 unfold nf;simp[insT,nu]
theorem aeZ:Den Tryz.prog 108 [] [] [] (PL (nu.map tn)):=by
 have nB:=iP 1 (by omega);change Den Tryz.prog 30 [] _ [] (.agg (cn ((1:Int):Rat)).c) at nB;have h:=aav (cn ((1:Int):Rat)) ((bn (Go.Pl.bd_int (x:=1) (by decide))).mono (by decide));rw[cK,Ve] at h;obtain⟨B,hB⟩:=ax (nu.map tn);rw[hB] at h ⊢;obtain⟨z,hz⟩:=ax (cn ((1:Int):Rat));rw[hz] at nB h;refine dq Tryz.func108 3 0 ?_;refine aW ?_;refine aM nB ?_;refine ah (bB @fw @im @append_nil.{0}) ?_;refine BQ h ?_;refine a9 ?_;refine bc rfl
theorem RetOK.lentOwn {T:Tab} {st:St} {rs:List ResultVar} {ob:Ob} {id len s:Nat} {xs:List (List FV)} {cd:Prop} (h1:eB T st rs=some (cd,[.lsl id 0 len s])) (hc:cd) (hx:st.heap[0]?=some ob) (eO:ob.closed) (hrw:ob.rw=true)
 (cF:id≠0) (h2:st.heap[id]?=some (.row true xs)):RetOK T rs 1 st [ob,.row true xs] (.lsl 1 0 len s):=by
 have hi:idxOf? id [0,id]=some 1:=by
  simp[List.idxOf?_cons,Ne.symm cF]
 refine⟨cd,[.lsl id 0 len s],[0,id],h1,hc,by simp[Ne.symm cF],fun i gq=>?_,?_,rfl,fun j k hj=>?_,fun o ho=>?_⟩
 .have:i=0:=by omega
  subst this;rfl
 .simp[bN,qG,ur,qD,hi]
 .have jf:lW st.heap [0,id] (bN [.lsl id 0 len s])=[]:=by simp[bN,lW,tv,tu,hi]
  rw[jf]
  match j,hj with
  | 0,hj=>simp at hj;subst hj;simpa [shutIds] using hx
  | 1,hj=>simp at hj;subst hj;simpa [shutIds] using h2
  | j+2,hj=>simp at hj
 simp at ho
 rcases ho with ho | ho
 .subst ho;exact⟨eO,hrw⟩
 subst ho;exact⟨b',rfl⟩
def Rd3 (ts:List RT):Prop:= ∀ t∈ts,t.1.length=8/\(∀ e∈t.1,0<=e/\e<=2)/\t.2.Ok 4
theorem Rd3.snoc {ts:List RT} {t:RT} (h:Rd3 ts) (h1:t.1.length=8) (h2: ∀ e∈t.1,0<=e/\e<=2) (h3:t.2.Ok 4):Rd3 (ts++[t]):=fun u hu=>by
 rcases List.mem_append.1 hu with hu | hu
 .exact h u hu
 rw[qz] at hu;subst hu;exact⟨h1,h2,h3⟩
theorem MQ: ∀ e∈z8,0<=e/\e<=(2:Int):=fun x hx=>by
 rw[eq_of_mem_replicate hx];omega
abbrev Pf:List Int:=[0,0,1,1,2]
theorem MR (i:Nat):0<=Pf.getD i 0/\Pf.getD i 0<=2:=jR (by decide) (by decide) i
def Zf (vars:Nat) (ts:List RT):Prop:= ∀ t∈ts,∀ k,vars<=k->t.1.getD k 0=0
theorem Zf.snoc {vars:Nat} {ts:List RT} {t:RT} (h:Zf vars ts) (h1: ∀ k,vars<=k->t.1.getD k 0=0):Zf vars (ts++[t]):=fun u hu=>by
 rcases List.mem_append.1 hu with hu | hu
 .exact h u hu
 rw[qz] at hu;subst hu;exact h1
theorem HB (k:Nat):z8.getD k 0=(0:Int):=by
 rw[qa,z8,List.getElem?_replicate];split<;>rfl
theorem HC (xs:List Int) (a vars terms:Nat) (hl:xs.length<=1000) (ha:a<=xs.length) (hw:W64 xs) (hv:vars<=8) (ht:terms<=100):
 ∃ H1 res,(fun H1 res=> ∃ ts:List RT,∃ a':Nat,H1=[S xs a',.row true (au ts)]/\res=PV.lsl 1 0 ts.length 11/\a'<=xs.length/\ts.length<=terms/\Rd3 ts/\Zf vars ts) H1 res/\
  Den Tryz.prog 53 [S xs a] [.ptr 0 0 0,.int .i64 vars,.int .i64 terms] H1 res:=by
 have hN:=jn xs a (terms+1) hl ha hw (by omega) (by omega)
 have aG:=d5 (xs:=xs) (a:=a) (n:=terms+1) (by omega)
 have hc:=av xs a
 have KA:=bL ha
 generalize nN xs a (terms+1)=n at*
 have e0:((terms:Int)+1)=((terms+1:Nat):Int):=by simp
 obtain⟨a0,hA⟩:=ax (nx xs a)
 rw[hA] at hN KA
 have hS0: ∀ a,Ob.box true [.fv (.sl (ints xs)),.int .i64 (a:Nat),.int .i64 0]=S xs a:=fun _=>rfl
 unfold S at hN hc
 unfold S
 refine BN Tryz.func53 41 1 ?_
 simp -dsimp(disch:=omega) only[replicate,e0,IntKind.bits,Int.reduceToNat,Int.reducePow,Option.isNone_none,↓reduceIte,reduceCtorEq,reduceAdd,reduceMul,reduceSub,Nat.reduceBEq,reduceEqDiff,reduceLT,reduceLeDiff,ru]
 refine d6 0 hN hc ?_
 refine cv ?_
 refine wl (α:=Nat×Nat×List RT) (fun⟨i,a,ts⟩=>⟨[.ptr 0 0 0,.int .i64 vars,.any,.any,.any,.any,.any,.lsl 1 0 ts.length 11,.int .i64 i]++replicate 35 .any,[.box true [.fv (.sl (ints xs)),.int .i64 a,.int .i64 0],.row true (au ts)]⟩)
  (fun⟨i,_,_⟩=>i) (fun⟨i,a,ts⟩=>i+ts.length<=terms/\a<=xs.length/\Rd3 ts/\Zf vars ts) (n,a0,[]) ?_ ⟨by simp;omega,KA,fun t ht=>by simp at ht,fun t ht=>by simp at ht⟩ ?_
 .refine Weak.nil 7 11 (by decide) rfl ?_
  refine fW [0,1] ?_ ?_
  .simp[bO,eT,cJ,aU]
  simp[fM,fC,aU,cJ,bA,bh,aZ,bJ]
  rfl
 rintro⟨i,a,ts⟩ ⟨hi,ha,dD,pM⟩
 refine aW ?_
 refine bK ?_ ?_
 .intro h1 h2
  have yd:=LR xs a hl ha hw
  have hca:=av xs a
  have hb:=vd xs a
  obtain⟨q,hq⟩:=ax (o7 xs a)
  obtain⟨a1,jX⟩:=ax (nx xs (nx xs a))
  have X9:a1<=xs.length:=by rw[<-jX];exact bL (bL ha)
  rw[hq,jX] at yd
  rw[hq] at hb
  change Den Tryz.prog 43 _ _ _ (.agg (cn q).c) at yd
  have h8:=jn xs a1 8 hl X9 hw (by decide) (by decide)
  have qW:=av xs a1
  have l8:=d5 (xs:=xs) (a:=a1) (n:=8) (by decide)
  obtain⟨m,hm⟩:=ax (nN xs a1 8)
  obtain⟨a2,BX⟩:=ax (nx xs a1)
  have Uh:a2<=xs.length:=by rw[<-BX];exact bL X9
  rw[hm,BX] at h8
  rw[hm] at l8
  have bf:=bn hb
  obtain⟨r,hr⟩:=ax (cn q)
  rw[hr] at yd bf
  have zl:=aL (t:=(z8,r)) fP
  unfold S at yd h8 hca qW
  refine ah h2 ?_
  refine d6 0 yd hca ?_
  refine bE (gn @fw @bS @p6 @U0 zl) ?_
  repeat refine ae ?_
  refine d6 0 h8 qW ?_
  refine cv ?_
  refine Br.beqInt ?_ ?_
  .intro h3 h4
   have El:=Tw xs a2 hl Uh hw
   have lX:=av xs a2
   have rok:=sJ xs a2
   have la3:=y5 Uh
   obtain⟨r3,Ui⟩:=ax ((i_ xs a2).1)
   obtain⟨a3,K0⟩:=ax ((i_ xs a2).2)
   rw[Ui,K0] at El
   rw[Ui] at rok
   rw[K0] at la3
   change Den Tryz.prog 88 _ _ _ (.agg r3.c) at El
   have pc:=lC (t:=(z8,r)) (r:=r3) fP
   unfold S at El lX
   refine ah h4 ?_
   refine d6 0 El lX ?_
   refine bE (gn @fw @bS @p6 zl pc) ?_
   repeat refine ae ?_
   refine wl (α:=Nat×Nat×List Int) (fun⟨v,b,m⟩=>⟨[.ptr 0 0 0,.int .i64 vars,.any,.any,.any,.any,.any,.lsl 1 0 ts.length 11,.int .i64 i,.ptr 2 0 0,.int .i64 v]++replicate 33 .any,[.box true [.fv (.sl (ints xs)),.int .i64 b,.int .i64 0],.row true (au ts),.box true (gH (m,r3))]⟩)
    (fun⟨v,_,_⟩=>vars - v) (fun⟨v,b,m⟩=>v<=vars/\b<=xs.length/\m.length=8/\(∀ e∈m,0<=e/\e<=2)/\ ∀ k,v<=k->m.getD k 0=0) (0,a3,z8) ?_ ⟨dU _,la3,rfl,MQ,fun k _=>HB k⟩ ?_
   .refine fW [0,1,2] ?_ ?_
    .simp[bO,eT,cJ,aU]
    simp[fM,fC,iz,aU,cJ]
   rintro⟨v,b,m⟩ ⟨nw,lb,BG,W5,hmz⟩
   refine aW ?_
   refine bK ?_ ?_
   .intro g1 g2
    have Ae:=Cm xs b Pf hl lb hw (by decide) (by decide)
    have vD:=av xs b
    have hd:=MR (nN xs b Pf.length)
    obtain⟨d,yC⟩:=ax (Pf.getD (nN xs b Pf.length) 0)
    rw[yC] at Ae hd
    have ct:=Az (t:=(m,r3)) (i:=v) (x:=d) (by omega) BG
    dsimp only at ct
    have tl:=aL (t:=(m,r3)) BG
    unfold S at Ae vD
    refine bE g2 ?_
    refine d6 0 Ae vD ?_
    simp -dsimp(disch:=omega) only[sh1,sh2,sh3,P0,ct,tl,Nat.mul_one,IntKind.bits,Int.reduceToNat,Int.reducePow,Option.isNone_none,↓reduceIte,reduceCtorEq,reduceAdd,reduceMul,reduceSub,Nat.reduceBEq,reduceEqDiff,reduceLT,reduceLeDiff,ru,zu]
    repeat refine ae ?_
    refine aw (v+1,nx xs b,m.set v d) ?_ ⟨by omega,bL lb,by simp[BG],fun e he=>?_,fun k hk=>by rw[qa,getElem?_set_ne (by omega),<-qa];exact hmz k (by omega)⟩
    .refine fW [0,1,2] ?_ ?_
     .simp[bO,eT,cJ,aU]
     simp[fM,fC,iz,aU,cJ]
    rcases mem_or_eq_of_mem_set he with h9 | h9
    .exact W5 e h9
    rw[h9];exact hd
   intro g1 g2
   have tl:=aL (t:=(m,r3)) BG
   have Kt:=eZ (t:=(m,r3)) BG
   have Ku:=bM (t:=(m,r3)) BG
   have fl:=aR (t:=(m,r3)) BG
   have cI:=jM ts (m,r3)
   have rt:=ay ts
   have tk:=c_ (ts:=ts) (n:=ts.length) (qp _)
   have e9:((i:Int) - 1)=((i - 1:Nat):Int):=by omega
   simp -dsimp(disch:=omega) only[g2,tl,Kt,Ku,fl,eh,eG,rt,tk,cI,e9,append_nil,IntKind.bits,Int.reduceToNat,Int.reducePow,Option.isNone_none,↓reduceIte,reduceCtorEq,reduceAdd,reduceMul,reduceSub,Nat.reduceBEq,reduceEqDiff,reduceLT,reduceLeDiff,ru]
   repeat refine ae ?_
   refine aw (i - 1,b,ts++[(m,r3)]) ?_ ⟨by rw[qe];show i - 1+(ts.length+1)<=terms;omega,lb,dD.snoc BG W5 rok,pM.snoc (fun k hk=>hmz k (by omega))⟩
   exact bP [0,4]
  intro h3 h4
  refine ah h4 ?_
  refine wl (α:=Nat×Nat×List Int) (fun⟨v,b,m⟩=>⟨[.ptr 0 0 0,.int .i64 vars,.any,.any,.any,.any,.any,.lsl 1 0 ts.length 11,.int .i64 i,.ptr 2 0 0,.int .i64 v]++replicate 33 .any,[.box true [.fv (.sl (ints xs)),.int .i64 b,.int .i64 0],.row true (au ts),.box true (gH (m,r))]⟩)
   (fun⟨v,_,_⟩=>vars - v) (fun⟨v,b,m⟩=>v<=vars/\b<=xs.length/\m.length=8/\(∀ e∈m,0<=e/\e<=2)/\ ∀ k,v<=k->m.getD k 0=0) (0,a2,z8) ?_ ⟨dU _,Uh,rfl,MQ,fun k _=>HB k⟩ ?_
  .refine fW [0,1,2] ?_ ?_
   .simp[bO,eT,cJ,aU]
   simp[fM,fC,iz,aU,cJ]
  rintro⟨v,b,m⟩ ⟨nw,lb,BG,W5,hmz⟩
  refine aW ?_
  refine bK ?_ ?_
  .intro g1 g2
   have Ae:=Cm xs b Pf hl lb hw (by decide) (by decide)
   have vD:=av xs b
   have hd:=MR (nN xs b Pf.length)
   obtain⟨d,yC⟩:=ax (Pf.getD (nN xs b Pf.length) 0)
   rw[yC] at Ae hd
   have ct:=Az (t:=(m,r)) (i:=v) (x:=d) (by omega) BG
   dsimp only at ct
   have tl:=aL (t:=(m,r)) BG
   unfold S at Ae vD
   refine bE g2 ?_
   refine d6 0 Ae vD ?_
   simp -dsimp(disch:=omega) only[sh1,sh2,sh3,P0,ct,tl,Nat.mul_one,IntKind.bits,Int.reduceToNat,Int.reducePow,Option.isNone_none,↓reduceIte,reduceCtorEq,reduceAdd,reduceMul,reduceSub,Nat.reduceBEq,reduceEqDiff,reduceLT,reduceLeDiff,ru,zu]
   repeat refine ae ?_
   refine aw (v+1,nx xs b,m.set v d) ?_ ⟨by omega,bL lb,by simp[BG],fun e he=>?_,fun k hk=>by rw[qa,getElem?_set_ne (by omega),<-qa];exact hmz k (by omega)⟩
   .refine fW [0,1,2] ?_ ?_
    .simp[bO,eT,cJ,aU]
    simp[fM,fC,iz,aU,cJ]
   rcases mem_or_eq_of_mem_set he with h9 | h9
   .exact W5 e h9
   rw[h9];exact hd
  intro g1 g2
  have tl:=aL (t:=(m,r)) BG
  have Kt:=eZ (t:=(m,r)) BG
  have Ku:=bM (t:=(m,r)) BG
  have fl:=aR (t:=(m,r)) BG
  have cI:=jM ts (m,r)
  have rt:=ay ts
  have tk:=c_ (ts:=ts) (n:=ts.length) (qp _)
  have e9:((i:Int) - 1)=((i - 1:Nat):Int):=by omega
  simp -dsimp(disch:=omega) only[g2,tl,Kt,Ku,fl,eh,eG,rt,tk,cI,e9,append_nil,IntKind.bits,Int.reduceToNat,Int.reducePow,Option.isNone_none,↓reduceIte,reduceCtorEq,reduceAdd,reduceMul,reduceSub,Nat.reduceBEq,reduceEqDiff,reduceLT,reduceLeDiff,ru]
  repeat refine ae ?_
  refine aw (i - 1,b,ts++[(m,r)]) ?_ ⟨by rw[qe];show i - 1+(ts.length+1)<=terms;omega,lb,dD.snoc BG W5 (bf.mono (by decide)),pM.snoc (fun k hk=>hmz k (by omega))⟩
  exact bP [0,4]
 intro h1 h2
 have Em:i=0:=by omega
 subst Em
 refine ah h2 ?_
 exact⟨[.box true [.fv (.sl (ints xs)),.int .i64 a,.int .i64 0],.row true (au ts)],.lsl 1 0 ts.length 11,⟨ts,a,rfl,rfl,ha,by omega,dD,pM⟩,RetOK.lentOwn (cd:=True/\True) rfl ⟨b',b'⟩ rfl (av xs a) rfl (by decide) rfl⟩
theorem ae0 (xs:List Int) (a vars terms:Nat) (hl:xs.length<=1000) (ha:a<=xs.length) (hw:W64 xs) (hv:vars<=8) (ht:terms<=100):
 ∃ H1 res,(fun H1 res=> ∃ ts:List RT,∃ a':Nat,H1=[S xs a',.row true (au ts)]/\res=PV.lsl 1 0 ts.length 11/\a'<=xs.length/\ts.length<=terms/\Rd3 ts) H1 res/\
  Den Tryz.prog 53 [S xs a] [.ptr 0 0 0,.int .i64 vars,.int .i64 terms] H1 res:=by
 obtain⟨H1,res,⟨ts,a1,h1,h2,h3,h4,h5,_⟩,h⟩:=HC xs a vars terms hl ha hw hv ht
 exact⟨H1,res,⟨ts,a1,h1,h2,h3,h4,h5⟩,h⟩
end Go.Proofs.YtiaaceeelfhdlaaGreat
namespace Go.AM
section
variable {P:Program} {T:Tab}
theorem C8 {H:List Ob} {ρ ρ':Operand->PV} {op:Op} (h: ∀ x∈op.operands.toList,ρ x=ρ' x):aP T H ρ op=aP T H ρ' op:=by
 cases op
 case build t parts=>
  have e:parts.toList.map (fun p=>(p.1,ρ p.2))=parts.toList.map (fun p=>(p.1,ρ' p.2)):=List.map_congr_left (fun p hp=>by
   rw[h p.2 (by simp only[Op.operands];exact mem_map.2 ⟨p,hp,rfl⟩)])
  simp only[aP];rw[e]
 case buildSlice t n parts=>
  have e:parts.toList.map (fun p=>(p.1,ρ p.2))=parts.toList.map (fun p=>(p.1,ρ' p.2)):=List.map_congr_left (fun p hp=>by
   rw[h p.2 (by simp only[Op.operands];exact mem_map.2 ⟨p,hp,rfl⟩)])
  simp only[aP];rw[e]
 case makeMap t r=>cases r<;>rfl
 case makeFunc fn first captured=>
  have e1:first.toList.map ρ=first.toList.map ρ':=List.map_congr_left (fun p hp=>h p (by simp only[Op.operands,Array.toList_append,qr];exact .inl hp));have e2:captured.toList.map ρ=captured.toList.map ρ':=List.map_congr_left (fun p hp=>h p (by simp only[Op.operands,Array.toList_append,qr];exact .inr hp));simp only[aP];rw[e1,e2]
 case slice t x lo hi mx=>
  have e0:ρ x=ρ' x:=h x (by simp[Op.operands]);have e1:lo.map ρ=lo.map ρ':=by
   cases lo with
   | none=>rfl
   | some y=>simp only[Option.map_some];rw[h y (by simp[Op.operands])]
  have e2:hi.map ρ=hi.map ρ':=by
   cases hi with
   | none=>rfl
   | some y=>simp only[Option.map_some];rw[h y (by simp[Op.operands])]
  have e3:mx.map ρ=mx.map ρ':=by
   cases mx with
   | none=>rfl
   | some y=>simp only[Option.map_some];rw[h y (by simp[Op.operands])]
  simp only[aP];rw[e0,e1,e2,e3];cases T.at t with
  | none=>rfl
  | some i=>
   obtain⟨d,hd⟩:=K_ (i.d);cases mx with
   | none=>simp only[hd];cases d<;>rfl
   | some y=>
    have ey:ρ y=ρ' y:=h y (by simp[Op.operands]);simp only[hd];cases d<;>first | rfl | (simp only[ey])
 all_goals first
  | rfl
  | (simp[Op.operands] at h;simp only[aP];simp only[h];done)
  | (simp[Op.operands] at h;simp only[aP,h];done)
theorem MS {st:St} {op:Op} {K:PV->List Ob->Prop} (hc: ∀ c,op≠ .call c):WPop P T op st K=(match aP T st.heap (ev st.env) op with | some r=>r.cond/\K r.val r.heap | none=>False):=by
 cases op<;>first | rfl | exact absurd rfl (hc _)
theorem WPop.congr {env env':List PV} {H:List Ob} {op:Op} {K:PV->List Ob->Prop} (h: ∀ x∈op.operands.toList,ev env x=ev env' x) (hw:WPop P T op ⟨env,H⟩ K):WPop P T op ⟨env',H⟩ K:=by
 by_cases hc: ∃ c,op= .call c
 .obtain⟨c,rfl⟩:=hc;obtain⟨callee,args,ts⟩:=c;have ea:args.toList.map (ev env)=args.toList.map (ev env'):=List.map_congr_left (fun x hx=>h x (by
   simp only[Op.operands,Call.operands,Array.toList_append,qr];exact .inr hx))
  simp only[WPop,WPcall] at hw ⊢;cases callee with
  | builtin b=>
   simp only at hw ⊢;rw[ea] at hw;exact hw
  | value f=>
   have ef:ev env f=ev env' f:=h f (by simp[Op.operands,Call.operands]);simp only at hw ⊢;rw[ea,ef] at hw;exact hw
  | invoke r m=>exact hw.elim
 have hr:=C8 (T:=T) (H:=H) h;rw[MS (fun c e=>hc ⟨c,e⟩)] at hw ⊢;simp only at hw ⊢;rw[hr] at hw;exact hw
def p' (ops:Array Oper) (listed:Array Bool) (i d:Nat) (o:Oper):Bool:=
 (List.range ops.size).all fun j=>j==i||listed.getD j true||match ops[j]? with
  | none=>true
  | some oj=>(oj.after.toList.any fun e=>cj e&&e.on==i)||
   (!((oj.op.operands.toList.filterMap Dl).contains d)&&(match oj.dst with | some dj=>dj !=d&&!((o.op.operands.toList.filterMap Dl).contains dj) | none=>true))
theorem Jy {ops:Array Oper} {listed:Array Bool} {i d:Nat} {o:Oper} (h:p' ops listed i d o=true) {j:Nat} {oj:Oper} (hj:ops[j]?=some oj) (fX:j≠i) (hl:listed.getD j true=false) (hn: ∀ e∈oj.after,cj e=true->e.on≠i):
 (∀ x∈oj.op.operands.toList,x≠ .tmp d)/\ ∀ dj,oj.dst=some dj->dj≠d/\ ∀ x∈o.op.operands.toList,x≠ .tmp dj:=by
 unfold p' at h
 rw[nF] at h
 have aG:=(Array.getElem?_eq_some_iff.1 hj).1
 have h1:=h j (List.mem_range.2 aG)
 rw[hj,hl,Bool.or_false] at h1
 have hb:(j==i)=false:=by simpa using fX
 rw[hb,Bool.false_or] at h1
 simp only[EL,hG,Bool.not_eq_true'] at h1
 rcases h1 with h1 | ⟨h1,h2⟩
 .exfalso
  rw[qpb] at h1
  obtain⟨e,he,h2⟩:=h1
  rw[hG] at h2
  exact hn e (Array.mem_toList_iff.1 he) h2.1 (by simpa using h2.2)
 refine⟨fun x hx Kl=>?_,fun dj hd=>?_⟩
 .subst Kl
  have hm:d∈oj.op.operands.toList.filterMap Dl:=List.mem_filterMap.2 ⟨.tmp d,hx,rfl⟩
  rw[List.contains_iff_mem.2 hm] at h1
  cases h1
 rw[hd] at h2
 simp only[hG,bne_iff_ne,ne_eq,Bool.not_eq_true'] at h2
 refine⟨h2.1,fun x hx Kl=>?_⟩
 subst Kl
 have hm:dj∈o.op.operands.toList.filterMap Dl:=List.mem_filterMap.2 ⟨.tmp dj,hx,rfl⟩
 rw[List.contains_iff_mem.2 hm] at h2
 cases h2.2
theorem TJ {env:List PV} {x:Operand} {d:Nat} {v:PV} (h:x≠ .tmp d):ev (env.set d v) x=ev env x:=by
 cases x with
 | tmp t=>
  have fX:d≠t:=fun e=>h (by rw[e])
  show(env.set d v).getD t .any=env.getD t .any;rw[qa,getElem?_set_ne fX,<-qa]
 | _=>rfl
theorem WPany.free {ops:Array Oper} {i d:Nat} {o:Oper} {v:PV} {K:St->Prop} (ho:ops[i]?=some o) (hg:o.guard=none) (hd:o.dst=some d):
 ∀ (n:Nat) (listed:Array Bool) (env:List PV) (H:List Ob),listed.size=ops.size->p' ops listed i d o=true->i∈Region.ready .any ops listed->(∀ H,WPop P T o.op ⟨env,H⟩ (fun v' H'=>v'=v/\H'=H))->
  WPany P T ops n (listed.setIfInBounds i true) ⟨env.set d v,H⟩ K->WPany P T ops (n+1) listed ⟨env,H⟩ K
 | n,listed,env,H,dh,Uj,hi,hf,hw=>by
  refine⟨fun e=>(by rw[e] at hi;cases hi),fun j hj=>?_⟩;by_cases o5:j=i
  .subst o5;rw[ho];refine⟨hg,WPop.mono (fun v' H' h=>?_) (hf H)⟩;obtain⟨rfl,rfl⟩:=h;rw[hd];exact hw
  obtain⟨nK,oj,KD,pe⟩:=mem_ready.1 hj;obtain⟨acF,oi,Uk,acG⟩:=mem_ready.1 hi;have eV:i<listed.size:=by rw[dh];exact(Array.getElem?_eq_some_iff.1 ho).1
  have nC:j<listed.size:=by rw[dh];exact(Array.getElem?_eq_some_iff.1 KD).1
  have set_get: ∀ (a b:Nat) (L:Array Bool),a<L.size->(L.setIfInBounds a true).getD b false=if a=b then true else L.getD b false:=by
   intro a b L ha;by_cases uz:a=b
   .subst uz;simp[ha]
   rw[if_neg uz];simp[Array.getElem?_setIfInBounds_ne uz]
  have set_getT: ∀ (a b:Nat) (L:Array Bool),a≠b->(L.setIfInBounds a true).getD b true=L.getD b true:=by
   intro a b L uz;simp[Array.getElem?_setIfInBounds_ne uz]
  have En:j∈Region.ready .any ops (listed.setIfInBounds i true):=mem_ready.2 ⟨by rw[set_getT i j listed (fun e=>o5 e.symm)];exact nK,oj,KD,fun e he hb=>by
   rw[set_get i _ listed eV];split
   .rfl
   exact pe e he hb⟩
  have gq:i∈Region.ready .any ops (listed.setIfInBounds j true):=mem_ready.2 ⟨by rw[set_getT j i listed o5];exact acF,oi,Uk,fun e he hb=>by
   rw[set_get j _ listed nC];split
   .rfl
   exact acG e he hb⟩
  cases n with
  | zero=>rw[hw.1] at En;cases En
  | succ m=>
   have h2:=hw.2 j En;rw[KD] at h2 ⊢;obtain⟨Su,hwj⟩:=h2;obtain⟨k1,k2⟩:=Jy Uj KD o5 nK (fun e he hp heq=>by
    have:=pe e he (by rw[tt];exact hp);rw[heq,<-g8 eV,acF] at this;cases this)
   have agO:WPop P T oj.op ⟨env,H⟩ (fun v' H'=>WPany P T ops m ((listed.setIfInBounds i true).setIfInBounds j true) (St.upd ⟨env.set d v,H⟩ oj.dst v' H') K):=
    WPop.congr (fun x hx=>TJ (k1 x hx)) hwj
   refine⟨Su,WPop.mono (fun v' H' h=>?_) agO⟩;have bg:(listed.setIfInBounds i true).setIfInBounds j true=(listed.setIfInBounds j true).setIfInBounds i true:=by
    exact Array.setIfInBounds_comm _ _ (fun e=>o5 e.symm)
   rw[bg] at h;have acH:p' ops (listed.setIfInBounds j true) i d o=true:=by
    unfold p' at Uj ⊢;rw[nF] at Uj ⊢;intro q hq;have:=Uj q hq;by_cases TY:q=j
    .subst TY;have e:(listed.setIfInBounds q true).getD q true=true:=by simp[nC]
     rw[e];simp
    rw[set_getT j q listed (fun e=>TY e.symm)];exact this
   cases X5:oj.dst with
   | none=>
    rw[X5] at h;exact WPany.free ho hg hd m _ env H' (by simpa using dh) acH gq hf h
   | some dj=>
    rw[X5] at h;obtain⟨q1,q2⟩:=k2 dj X5;refine WPany.free ho hg hd m _ (env.set dj v') H' (by simpa using dh) acH gq (fun H=>WPop.congr (fun x hx=>(TJ (q2 x hx)).symm) (hf H)) ?_;have e:(env.set d v).set dj v'=(env.set dj v').set d v:=List.set_comm _ _ (fun e=>q1 e.symm);show WPany P T ops m _ ⟨(env.set dj v').set d v,H'⟩ K;rw[<-e];exact h
theorem AN.free (i:Nat) (v:PV) {l:List Oper} {n:Nat} {listed:Array Bool} {env:List PV} {H:List Ob} {ff:St} {t:cu _} (rs:List Nat) (h:Region.ready .any (List.toArray l) listed=rs) (hi:i∈rs) (dh:listed.size=l.length)
 {d:Nat} {op:Op} {ty:TypeId} {pos:String} {af:Array Edge} (ho:l[i]?=some {dst:=some d,op:=op,type:=ty,pos:=pos,after:=af,guard:=none})
 (Uj:p' (List.toArray l) listed i d {dst:=some d,op:=op,type:=ty,pos:=pos,after:=af,guard:=none}=true)
 (hf: ∀ H,W1 P T op ⟨env,H⟩ (fun v' H'=>v'=v/\H'=H) ⟨⟩)
 (k:AN P T l n (listed.setIfInBounds i true) ⟨env.set d v,H⟩ ff ⟨⟩):AN P T l (n+1) listed ⟨env,H⟩ ff t:=
 WPany.free (o:={dst:=some d,op:=op,type:=ty,pos:=pos,after:=af,guard:=none}) (by rw[List.getElem?_toArray];exact ho) rfl rfl n listed env H (by rw[dh];simp) Uj (by rw[h];exact hi) hf k
theorem AW.free (i:Nat) (v:PV) {m:Nat} {l:List Oper} {n:Nat} {listed:Array Bool} {env:List PV} {H:List Ob} {ff:St} {t:cu _} (rs:List Nat) (h:Region.ready .any (List.toArray l) listed=rs) (hi:i∈rs) (dh:listed.size=l.length)
 {d:Nat} {op:Op} {ty:TypeId} {pos:String} {af:Array Edge} (ho:l[i]?=some {dst:=some d,op:=op,type:=ty,pos:=pos,after:=af,guard:=none})
 (Uj:p' (List.toArray l) listed i d {dst:=some d,op:=op,type:=ty,pos:=pos,after:=af,guard:=none}=true)
 (hf: ∀ H,W1 P T op ⟨env,H⟩ (fun v' H'=>v'=v/\H'=H) ⟨⟩)
 (k:AW P T m l n (listed.setIfInBounds i true) ⟨env.set d v,H⟩ ff ⟨⟩):AW P T m l (n+1) listed ⟨env,H⟩ ff t:=
 WPany.free (o:={dst:=some d,op:=op,type:=ty,pos:=pos,after:=af,guard:=none}) (by rw[List.getElem?_toArray];exact ho) rfl rfl n listed env H (by rw[dh];simp) Uj (by rw[h];exact hi) hf k
theorem AW.one (i0:Nat) {m:Nat} {l:List Oper} {n:Nat} {listed:Array Bool} {env:List PV} {H:List Ob} {ff:St} {t:cu _} (h:Region.ready .any (List.toArray l) listed=[i0])
 {d0:Option Nat} {Ip:Op} {Sv:TypeId} {BH:String} {Sx:Array Edge} (D9:l[i0]?=some {dst:=d0,op:=Ip,type:=Sv,pos:=BH,after:=Sx,guard:=none})
 (k0:W1 P T Ip ⟨env,H⟩ (fun v H=>AW P T m l n (listed.setIfInBounds i0 true) ⟨mQ env d0 v,H⟩ ff ⟨⟩) ⟨⟩)
 :AW P T m l (n+1) listed ⟨env,H⟩ ff t:=
 AW.step [i0] h (by simp) (fun j hj=>by
  simp only[uI,not_mem_nil,or_false] at hj;subst hj;exact⟨_,D9,rfl,k0⟩)
theorem AW.two (i0 i1:Nat) {m:Nat} {l:List Oper} {n:Nat} {listed:Array Bool} {env:List PV} {H:List Ob} {ff:St} {t:cu _} (h:Region.ready .any (List.toArray l) listed=[i0,i1])
 {d0:Option Nat} {Ip:Op} {Sv:TypeId} {BH:String} {Sx:Array Edge} (D9:l[i0]?=some {dst:=d0,op:=Ip,type:=Sv,pos:=BH,after:=Sx,guard:=none})
 {d1:Option Nat} {Ul:Op} {ty1:TypeId} {OX:String} {af1:Array Edge} (h_:l[i1]?=some {dst:=d1,op:=Ul,type:=ty1,pos:=OX,after:=af1,guard:=none})
 (k0:W1 P T Ip ⟨env,H⟩ (fun v H=>AW P T m l n (listed.setIfInBounds i0 true) ⟨mQ env d0 v,H⟩ ff ⟨⟩) ⟨⟩)
 (k1:W1 P T Ul ⟨env,H⟩ (fun v H=>AW P T m l n (listed.setIfInBounds i1 true) ⟨mQ env d1 v,H⟩ ff ⟨⟩) ⟨⟩)
 :AW P T m l (n+1) listed ⟨env,H⟩ ff t:=
 AW.step [i0,i1] h (by simp) (fun j hj=>by
  simp only[uI,not_mem_nil,or_false] at hj;rcases hj with rfl | rfl
  .exact⟨_,D9,rfl,k0⟩
  exact⟨_,h_,rfl,k1⟩)
end
end Go.AM
namespace Go.Proofs.YtiaaceeelfhdlaaGreat
open Go.AM Go.Pl
set_option maxRecDepth 100000
set_option maxHeartbeats 4000000
section
variable {P:Program} {T:Tab} {m:Nat}
theorem AN.oneO (i0:Nat) {l:List Oper} {n:Nat} {listed:Array Bool} {env:List PV} {H:List Ob} {ff:St} {t:cu _} (h:Region.ready .any (List.toArray l) listed=[i0])
 {d0:Option Nat} {Ip:Op} {Sv:TypeId} {BH:String} {Sx:Array Edge} (D9:l[i0]?=some {dst:=d0,op:=Ip,type:=Sv,pos:=BH,after:=Sx,guard:=none})
 (k0:W1 P T Ip ⟨env,H⟩ (fun v H=>AN P T l n (listed.setIfInBounds i0 true) ⟨mQ env d0 v,H⟩ ff ⟨⟩) ⟨⟩)
 :AN P T l (n+1) listed ⟨env,H⟩ ff t:=
 AN.step [i0] h (by simp) (fun j hj=>by
  simp only[uI,not_mem_nil,or_false] at hj;subst hj;exact⟨_,D9,rfl,k0⟩)
theorem AN.twoO (i0 i1:Nat) {l:List Oper} {n:Nat} {listed:Array Bool} {env:List PV} {H:List Ob} {ff:St} {t:cu _} (h:Region.ready .any (List.toArray l) listed=[i0,i1])
 {d0:Option Nat} {Ip:Op} {Sv:TypeId} {BH:String} {Sx:Array Edge} (D9:l[i0]?=some {dst:=d0,op:=Ip,type:=Sv,pos:=BH,after:=Sx,guard:=none})
 {d1:Option Nat} {Ul:Op} {ty1:TypeId} {OX:String} {af1:Array Edge} (h_:l[i1]?=some {dst:=d1,op:=Ul,type:=ty1,pos:=OX,after:=af1,guard:=none})
 (k0:W1 P T Ip ⟨env,H⟩ (fun v H=>AN P T l n (listed.setIfInBounds i0 true) ⟨mQ env d0 v,H⟩ ff ⟨⟩) ⟨⟩)
 (k1:W1 P T Ul ⟨env,H⟩ (fun v H=>AN P T l n (listed.setIfInBounds i1 true) ⟨mQ env d1 v,H⟩ ff ⟨⟩) ⟨⟩)
 :AN P T l (n+1) listed ⟨env,H⟩ ff t:=
 AN.step [i0,i1] h (by simp) (fun j hj=>by
  simp only[uI,not_mem_nil,or_false] at hj;rcases hj with rfl | rfl
  .exact⟨_,D9,rfl,k0⟩
  exact⟨_,h_,rfl,k1⟩)
theorem AN.threeO (i0 i1 i2:Nat) {l:List Oper} {n:Nat} {listed:Array Bool} {env:List PV} {H:List Ob} {ff:St} {t:cu _} (h:Region.ready .any (List.toArray l) listed=[i0,i1,i2])
 {d0:Option Nat} {Ip:Op} {Sv:TypeId} {BH:String} {Sx:Array Edge} (D9:l[i0]?=some {dst:=d0,op:=Ip,type:=Sv,pos:=BH,after:=Sx,guard:=none})
 {d1:Option Nat} {Ul:Op} {ty1:TypeId} {OX:String} {af1:Array Edge} (h_:l[i1]?=some {dst:=d1,op:=Ul,type:=ty1,pos:=OX,after:=af1,guard:=none})
 {d2:Option Nat} {op2:Op} {ty2:TypeId} {agP:String} {af2:Array Edge} (gg:l[i2]?=some {dst:=d2,op:=op2,type:=ty2,pos:=agP,after:=af2,guard:=none})
 (k0:W1 P T Ip ⟨env,H⟩ (fun v H=>AN P T l n (listed.setIfInBounds i0 true) ⟨mQ env d0 v,H⟩ ff ⟨⟩) ⟨⟩)
 (k1:W1 P T Ul ⟨env,H⟩ (fun v H=>AN P T l n (listed.setIfInBounds i1 true) ⟨mQ env d1 v,H⟩ ff ⟨⟩) ⟨⟩)
 (k2:W1 P T op2 ⟨env,H⟩ (fun v H=>AN P T l n (listed.setIfInBounds i2 true) ⟨mQ env d2 v,H⟩ ff ⟨⟩) ⟨⟩)
 :AN P T l (n+1) listed ⟨env,H⟩ ff t:=
 AN.step [i0,i1,i2] h (by simp) (fun j hj=>by
  simp only[uI,not_mem_nil,or_false] at hj;rcases hj with rfl | rfl | rfl
  .exact⟨_,D9,rfl,k0⟩
  .exact⟨_,h_,rfl,k1⟩
  exact⟨_,gg,rfl,k2⟩)
theorem Draw.goO (f:St->St) {l:List Oper} {K:St->Prop} {st:St} {t:cu _} (h:AN P T l l.length (Array.replicate l.length false) st (f st) ⟨⟩) (k:K (f st)):Draw P T m l st K t:=Draw.any (f st) h k
end
theorem Rd3.ts {ts:List RT} (h:Rd3 ts):TsOk 10 ts:=fun t ht=>⟨(h t ht).1,fun x hx=>by have:=(h t ht).2.1 x hx;omega,(h t ht).2.2.mono (by decide)⟩
abbrev TK:List Int:=[-1,1024,1025]
theorem Vf (i:Nat): -1<=TK.getD i 0/\TK.getD i 0<=1025:=by
 rcases i with _ | _ | _ | i<;>simp[TK]
theorem Qu {t:RT} {i:Nat} {x:Int} (h:i<8) (hl:t.1.length=8):List.take i (gI t)++([FV.lit (.int .i64 x)]++List.drop (i+1) (gI t))=gI (t.1.set i x,t.2):=by
 unfold gI ij;rw[List.take_append_of_le_length (by simp;omega),List.drop_append_of_le_length (by simp;omega),List.set_eq_take_append_cons_drop,if_pos (by omega)];simp
theorem ae1 (xs:List Int) (a vars terms:Nat) (hl:xs.length<=1000) (ha:a<=xs.length) (hw:W64 xs) (hv:vars<=8) (ht:terms<=100):
 ∃ H1 res,(fun H1 res=> ∃ ts:List RT,∃ a':Nat,H1=[S xs a',.row true (au ts)]/\res=PV.lsl 1 0 ts.length 11/\a'<=xs.length/\ts.length<=terms/\TsOk 10 ts) H1 res/\
  Den Tryz.prog 55 [S xs a] [.ptr 0 0 0,.int .i64 vars,.int .i64 terms] H1 res:=by
 obtain⟨H1,res,⟨ts,a1,rfl,rfl,X9,aA,dD⟩,xL⟩:=ae0 xs a vars terms hl ha hw hv ht
 have hc:=av xs a
 have h6:=jn xs a1 6 hl X9 hw (by decide) (by decide)
 have qW:=av xs a1
 have Uh:nx xs a1<=xs.length:=bL X9
 obtain⟨n,hn⟩:=ax ts.length
 obtain⟨m,hm⟩:=ax (nN xs a1 6)
 obtain⟨a2,BX⟩:=ax (nx xs a1)
 rw[hm,BX] at h6
 rw[BX] at Uh
 rw[hn] at xL aA
 have rl:=ay ts
 rw[hn] at rl
 have cX:lent 0 1 1=1:=rfl
 unfold S at xL hc h6 qW
 unfold S
 by_cases h0:n=0
 .have e1:decide ((n:Int)>0)=false:=qV
  refine BN Tryz.func55 31 1 ?_
  refine aW ?_
  refine d6 0 xL hc ?_
  simp -dsimp(disch:=omega) only[sh1,sh2,sh3,e1,cX,dB,eU,IntKind.bits,Int.reduceToNat,Int.reducePow,Option.isNone_none,↓reduceIte,reduceCtorEq,reduceAdd,reduceMul,reduceSub,Nat.reduceBEq,reduceEqDiff,reduceLT,reduceLeDiff,ru,zu]
  exact⟨[.box true [.fv (.sl (ints xs)),.int .i64 a1,.int .i64 0],.row true (au ts)],.lsl 1 0 n 11,⟨ts,a1,rfl,by rw[hn],X9,by omega,dD.ts⟩,RetOK.lentOwn (cd:=True/\True) rfl ⟨b',b'⟩ rfl (av xs a1) rfl (by decide) rfl⟩
 have e1:decide ((n:Int)>0)=true:=BR
 by_cases h5:m=5
 .have e2:((m:Int)==5)=true:=by rw[h5];rfl
  have g1:=jn xs a2 n hl Uh hw (by omega) (by omega)
  have lX:=av xs a2
  have lt1:=d5 (xs:=xs) (a:=a2) (n:=n) (by omega)
  obtain⟨k,hk⟩:=ax (nN xs a2 n)
  obtain⟨a3,K0⟩:=ax (nx xs a2)
  have la3:a3<=xs.length:=by rw[<-K0];exact bL Uh
  rw[hk,K0] at g1
  rw[hk] at lt1
  have g2:=jn xs a3 8 hl la3 hw (by decide) (by decide)
  have EJ:=av xs a3
  have lt2:=d5 (xs:=xs) (a:=a3) (n:=8) (by omega)
  obtain⟨v,Oj⟩:=ax (nN xs a3 8)
  obtain⟨a4,T7⟩:=ax (nx xs a3)
  have la4:a4<=xs.length:=by rw[<-T7];exact bL la3
  rw[Oj,T7] at g2
  rw[Oj] at lt2
  have g3:=Cm xs a4 TK hl la4 hw (by decide) (by decide)
  have tG:=av xs a4
  have la5:nx xs a4<=xs.length:=bL la4
  obtain⟨a5,ha5⟩:=ax (nx xs a4)
  have hd:=Vf (nN xs a4 TK.length)
  obtain⟨d,yC⟩:=ax (TK.getD (nN xs a4 TK.length) 0)
  rw[yC] at g3 hd
  rw[ha5] at g3 la5
  have k6:k<ts.length:=by omega
  have r1:=cM (ts:=ts) (i:=k) k6
  have bC:=eL k6
  have ht8:=(dD _ bC).1
  have ct:=Qu (t:=ts.getD k kT) (i:=v) (x:=d) lt2 ht8
  have tl:=aR ht8
  have bg:=oW ts k ((ts.getD k kT).1.set v d,(ts.getD k kT).2)
  have sk:TsOk 10 (ts.set k ((ts.getD k kT).1.set v d,(ts.getD k kT).2)):=fun u hu=>by
   rcases mem_or_eq_of_mem_set hu with h9 | h9
   .exact dD.ts u h9
   rw[h9];have:=dD.ts _ bC;exact⟨by rw[length_set];exact this.len,fun x hx=>by
    rcases mem_or_eq_of_mem_set hx with BV | BV
    .exact this.rng x BV
    rw[BV];omega,this.raw⟩
  obtain⟨t,yN⟩:=ax (ts.getD k kT)
  rw[yN] at r1 ct tl bg sk
  unfold S at g1 g2 g3 lX EJ tG
  refine BN Tryz.func55 31 1 ?_
  refine aW ?_
  refine d6 0 xL hc ?_
  simp -dsimp(disch:=omega) only[sh1,sh2,sh3,e1,cX,IntKind.bits,Int.reduceToNat,Int.reducePow,Option.isNone_none,↓reduceIte,reduceCtorEq,reduceAdd,reduceMul,reduceSub,Nat.reduceBEq,reduceEqDiff,reduceLT,reduceLeDiff,ru,zu]
  refine d6 0 h6 qW ?_
  simp -dsimp(disch:=omega) only[sh1,sh2,sh3,e2,IntKind.bits,Int.reduceToNat,Int.reducePow,Option.isNone_none,↓reduceIte,reduceCtorEq,reduceAdd,reduceMul,reduceSub,Nat.reduceBEq,reduceEqDiff,reduceLT,reduceLeDiff,ru,zu]
  have pL: ∀ (o:Ob) (l:List Ob),shutBs (o::l) 0 [.ptr 0 0 0,.lsl 2 0 3 1]=shutIds [2] (o::l):=fun _ _=>rfl
  have jZ:List.take v (gI t)++[FV.lit (.int .i64 d)]++List.drop (v+1) (gI t)=gI (t.1.set v d,t.2):=by rw[append_assoc];exact ct
  refine Draw.goO (fun s=>⟨s.env.take 20++([.lsl 1 0 n 11,.ptr 0 0 0,.lsl 1 0 n 11,.int .i64 n,.int .i64 k,.ptr 0 0 0,.int .i64 v,.ptr 0 0 0,.lsl 2 0 3 1,.int .i64 d,.ptr 1 k 0,.ptr 1 k 0,.ptr 1 k v]:List PV)++s.env.drop 33,[.box true [.fv (.sl (ints xs)),.int .i64 (a5:Int),.int .i64 0],.row true (au (ts.set k (t.1.set v d,t.2))),.row false (ints TK)]⟩) ?_ ?_
  .refine AN.free 0 (.lsl 1 0 n 11) [0,1,2,5,7,8] (by kernel_rfl) (by simp) rfl rfl (by kernel_rfl) ?_ ?_
   .intro H
    simp -dsimp(disch:=omega) only[sh1,sh2,sh3,IntKind.bits,Int.reduceToNat,Int.reducePow,Option.isNone_none,↓reduceIte,reduceCtorEq,reduceAdd,reduceMul,reduceSub,Nat.reduceBEq,reduceEqDiff,reduceLT,reduceLeDiff,ru,zu]
   refine AN.free 1 (.ptr 0 0 0) [1,2,5,7,8] (by kernel_rfl) (by simp) rfl rfl (by kernel_rfl) ?_ ?_
   .intro H
    simp -dsimp(disch:=omega) only[sh1,sh2,sh3,IntKind.bits,Int.reduceToNat,Int.reducePow,Option.isNone_none,↓reduceIte,reduceCtorEq,reduceAdd,reduceMul,reduceSub,Nat.reduceBEq,reduceEqDiff,reduceLT,reduceLeDiff,ru,zu]
   refine AN.free 2 (.lsl 1 0 n 11) [2,5,7,8] (by kernel_rfl) (by simp) rfl rfl (by kernel_rfl) ?_ ?_
   .intro H
    simp -dsimp(disch:=omega) only[sh1,sh2,sh3,IntKind.bits,Int.reduceToNat,Int.reducePow,Option.isNone_none,↓reduceIte,reduceCtorEq,reduceAdd,reduceMul,reduceSub,Nat.reduceBEq,reduceEqDiff,reduceLT,reduceLeDiff,ru,zu]
   refine AN.free 3 (.int .i64 n) [3,5,7,8] (by kernel_rfl) (by simp) rfl rfl (by kernel_rfl) ?_ ?_
   .intro H
    simp -dsimp(disch:=omega) only[sh1,sh2,sh3,IntKind.bits,Int.reduceToNat,Int.reducePow,Option.isNone_none,↓reduceIte,reduceCtorEq,reduceAdd,reduceMul,reduceSub,Nat.reduceBEq,reduceEqDiff,reduceLT,reduceLeDiff,ru,zu]
   refine AN.free 5 (.ptr 0 0 0) [4,5,7,8] (by kernel_rfl) (by simp) rfl rfl (by kernel_rfl) ?_ ?_
   .intro H
    simp -dsimp(disch:=omega) only[sh1,sh2,sh3,IntKind.bits,Int.reduceToNat,Int.reducePow,Option.isNone_none,↓reduceIte,reduceCtorEq,reduceAdd,reduceMul,reduceSub,Nat.reduceBEq,reduceEqDiff,reduceLT,reduceLeDiff,ru,zu]
   refine AN.free 7 (.ptr 0 0 0) [4,7,8] (by kernel_rfl) (by simp) rfl rfl (by kernel_rfl) ?_ ?_
   .intro H
    simp -dsimp(disch:=omega) only[sh1,sh2,sh3,IntKind.bits,Int.reduceToNat,Int.reducePow,Option.isNone_none,↓reduceIte,reduceCtorEq,reduceAdd,reduceMul,reduceSub,Nat.reduceBEq,reduceEqDiff,reduceLT,reduceLeDiff,ru,zu]
   refine AN.twoO 4 8 (by kernel_rfl) rfl rfl ?_ ?_
   refine cv ?_
   refine d6 0 g1 lX ?_
   refine cv ?_
   refine AN.threeO 6 8 10 (by kernel_rfl) rfl rfl rfl ?_ ?_ ?_
   refine cv ?_
   refine d6 0 g2 EJ ?_
   refine cv ?_
   refine AN.twoO 8 10 (by kernel_rfl) rfl rfl ?_ ?_
   refine cv ?_
   refine AN.twoO 9 10 (by kernel_rfl) rfl rfl ?_ ?_
   refine cv ?_
   refine sa 0 g3 (by simp[bH,eS,dS,dI]) rfl tG rfl rfl rfl ?_
   refine bE pL ?_
   refine AN.oneO 10 (by kernel_rfl) rfl ?_
   refine cv ?_
   refine⟨by omega,?_⟩
   refine AN.oneO 11 (by kernel_rfl) rfl ?_
   refine cv ?_
   rotate_left
   refine cv ?_
   refine⟨by omega,?_⟩
   refine AN.twoO 9 11 (by kernel_rfl) rfl rfl ?_ ?_
   refine cv ?_
   refine sa 0 g3 (by simp[bH,eS,dS,dI]) rfl tG rfl rfl rfl ?_
   refine bE pL ?_
   refine AN.oneO 11 (by kernel_rfl) rfl ?_
   refine cv ?_
   rotate_left
   refine cv ?_
   refine AN.oneO 9 (by kernel_rfl) rfl ?_
   refine cv ?_
   refine sa 0 g3 (by simp[bH,eS,dS,dI]) rfl tG rfl rfl rfl ?_
   refine bE pL ?_
   rotate_left
   refine cv ?_
   refine⟨by omega,?_⟩
   refine AN.twoO 8 11 (by kernel_rfl) rfl rfl ?_ ?_
   refine cv ?_
   refine AN.twoO 9 11 (by kernel_rfl) rfl rfl ?_ ?_
   refine cv ?_
   refine sa 0 g3 (by simp[bH,eS,dS,dI]) rfl tG rfl rfl rfl ?_
   refine bE pL ?_
   refine AN.oneO 11 (by kernel_rfl) rfl ?_
   refine cv ?_
   rotate_left
   refine cv ?_
   refine AN.oneO 9 (by kernel_rfl) rfl ?_
   refine cv ?_
   refine sa 0 g3 (by simp[bH,eS,dS,dI]) rfl tG rfl rfl rfl ?_
   refine bE pL ?_
   rotate_left
   refine cv ?_
   refine AN.oneO 8 (by kernel_rfl) rfl ?_
   refine cv ?_
   refine AN.oneO 9 (by kernel_rfl) rfl ?_
   refine cv ?_
   refine sa 0 g3 (by simp[bH,eS,dS,dI]) rfl tG rfl rfl rfl ?_
   refine bE pL ?_
   rotate_left
   refine cv ?_
   refine AN.twoO 6 10 (by kernel_rfl) rfl rfl ?_ ?_
   refine cv ?_
   refine d6 0 g2 EJ ?_
   refine cv ?_
   refine AN.twoO 9 10 (by kernel_rfl) rfl rfl ?_ ?_
   refine cv ?_
   refine sa 0 g3 (by simp[bH,eS,dS,dI]) rfl tG rfl rfl rfl ?_
   refine bE pL ?_
   refine AN.oneO 10 (by kernel_rfl) rfl ?_
   refine cv ?_
   refine⟨by omega,?_⟩
   refine AN.oneO 11 (by kernel_rfl) rfl ?_
   refine cv ?_
   rotate_left
   refine cv ?_
   refine⟨by omega,?_⟩
   refine AN.twoO 9 11 (by kernel_rfl) rfl rfl ?_ ?_
   refine cv ?_
   refine sa 0 g3 (by simp[bH,eS,dS,dI]) rfl tG rfl rfl rfl ?_
   refine bE pL ?_
   refine AN.oneO 11 (by kernel_rfl) rfl ?_
   refine cv ?_
   rotate_left
   refine cv ?_
   refine AN.oneO 9 (by kernel_rfl) rfl ?_
   refine cv ?_
   refine sa 0 g3 (by simp[bH,eS,dS,dI]) rfl tG rfl rfl rfl ?_
   refine bE pL ?_
   rotate_left
   refine cv ?_
   refine⟨by omega,?_⟩
   refine AN.twoO 6 11 (by kernel_rfl) rfl rfl ?_ ?_
   refine cv ?_
   refine d6 0 g2 EJ ?_
   refine cv ?_
   refine AN.twoO 9 11 (by kernel_rfl) rfl rfl ?_ ?_
   refine cv ?_
   refine sa 0 g3 (by simp[bH,eS,dS,dI]) rfl tG rfl rfl rfl ?_
   refine bE pL ?_
   refine AN.oneO 11 (by kernel_rfl) rfl ?_
   refine cv ?_
   rotate_left
   refine cv ?_
   refine AN.oneO 9 (by kernel_rfl) rfl ?_
   refine cv ?_
   refine sa 0 g3 (by simp[bH,eS,dS,dI]) rfl tG rfl rfl rfl ?_
   refine bE pL ?_
   rotate_left
   refine cv ?_
   refine AN.oneO 6 (by kernel_rfl) rfl ?_
   refine cv ?_
   refine d6 0 g2 EJ ?_
   refine cv ?_
   refine AN.oneO 9 (by kernel_rfl) rfl ?_
   refine cv ?_
   refine sa 0 g3 (by simp[bH,eS,dS,dI]) rfl tG rfl rfl rfl ?_
   refine bE pL ?_
   rotate_left
   refine cv ?_
   refine⟨by omega,?_⟩
   refine AN.threeO 6 8 11 (by kernel_rfl) rfl rfl rfl ?_ ?_ ?_
   refine cv ?_
   refine d6 0 g2 EJ ?_
   refine cv ?_
   refine AN.twoO 8 11 (by kernel_rfl) rfl rfl ?_ ?_
   refine cv ?_
   refine AN.twoO 9 11 (by kernel_rfl) rfl rfl ?_ ?_
   refine cv ?_
   refine sa 0 g3 (by simp[bH,eS,dS,dI]) rfl tG rfl rfl rfl ?_
   refine bE pL ?_
   refine AN.oneO 11 (by kernel_rfl) rfl ?_
   refine cv ?_
   rotate_left
   refine cv ?_
   refine AN.oneO 9 (by kernel_rfl) rfl ?_
   refine cv ?_
   refine sa 0 g3 (by simp[bH,eS,dS,dI]) rfl tG rfl rfl rfl ?_
   refine bE pL ?_
   rotate_left
   refine cv ?_
   refine AN.oneO 8 (by kernel_rfl) rfl ?_
   refine cv ?_
   refine AN.oneO 9 (by kernel_rfl) rfl ?_
   refine cv ?_
   refine sa 0 g3 (by simp[bH,eS,dS,dI]) rfl tG rfl rfl rfl ?_
   refine bE pL ?_
   rotate_left
   refine cv ?_
   refine AN.twoO 6 11 (by kernel_rfl) rfl rfl ?_ ?_
   refine cv ?_
   refine d6 0 g2 EJ ?_
   refine cv ?_
   refine AN.twoO 9 11 (by kernel_rfl) rfl rfl ?_ ?_
   refine cv ?_
   refine sa 0 g3 (by simp[bH,eS,dS,dI]) rfl tG rfl rfl rfl ?_
   refine bE pL ?_
   refine AN.oneO 11 (by kernel_rfl) rfl ?_
   refine cv ?_
   rotate_left
   refine cv ?_
   refine AN.oneO 9 (by kernel_rfl) rfl ?_
   refine cv ?_
   refine sa 0 g3 (by simp[bH,eS,dS,dI]) rfl tG rfl rfl rfl ?_
   refine bE pL ?_
   rotate_left
   refine cv ?_
   refine AN.oneO 6 (by kernel_rfl) rfl ?_
   refine cv ?_
   refine d6 0 g2 EJ ?_
   refine cv ?_
   refine AN.oneO 9 (by kernel_rfl) rfl ?_
   refine cv ?_
   refine sa 0 g3 (by simp[bH,eS,dS,dI]) rfl tG rfl rfl rfl ?_
   refine bE pL ?_
   rotate_left
   refine cv ?_
   refine AN.twoO 6 8 (by kernel_rfl) rfl rfl ?_ ?_
   refine cv ?_
   refine d6 0 g2 EJ ?_
   refine cv ?_
   refine AN.oneO 8 (by kernel_rfl) rfl ?_
   refine cv ?_
   refine AN.oneO 9 (by kernel_rfl) rfl ?_
   refine cv ?_
   refine sa 0 g3 (by simp[bH,eS,dS,dI]) rfl tG rfl rfl rfl ?_
   refine bE pL ?_
   rotate_left
   refine cv ?_
   refine AN.oneO 6 (by kernel_rfl) rfl ?_
   refine cv ?_
   refine d6 0 g2 EJ ?_
   refine cv ?_
   refine AN.oneO 9 (by kernel_rfl) rfl ?_
   refine cv ?_
   refine sa 0 g3 (by simp[bH,eS,dS,dI]) rfl tG rfl rfl rfl ?_
   refine bE pL ?_
   rotate_left
   refine cv ?_
   refine AN.oneO 4 (by kernel_rfl) rfl ?_
   refine cv ?_
   refine d6 0 g1 lX ?_
   refine cv ?_
   refine AN.twoO 6 10 (by kernel_rfl) rfl rfl ?_ ?_
   refine cv ?_
   refine d6 0 g2 EJ ?_
   refine cv ?_
   refine AN.twoO 9 10 (by kernel_rfl) rfl rfl ?_ ?_
   refine cv ?_
   refine sa 0 g3 (by simp[bH,eS,dS,dI]) rfl tG rfl rfl rfl ?_
   refine bE pL ?_
   refine AN.oneO 10 (by kernel_rfl) rfl ?_
   refine cv ?_
   refine⟨by omega,?_⟩
   refine AN.oneO 11 (by kernel_rfl) rfl ?_
   refine cv ?_
   rotate_left
   refine cv ?_
   refine⟨by omega,?_⟩
   refine AN.twoO 9 11 (by kernel_rfl) rfl rfl ?_ ?_
   refine cv ?_
   refine sa 0 g3 (by simp[bH,eS,dS,dI]) rfl tG rfl rfl rfl ?_
   refine bE pL ?_
   refine AN.oneO 11 (by kernel_rfl) rfl ?_
   refine cv ?_
   rotate_left
   refine cv ?_
   refine AN.oneO 9 (by kernel_rfl) rfl ?_
   refine cv ?_
   refine sa 0 g3 (by simp[bH,eS,dS,dI]) rfl tG rfl rfl rfl ?_
   refine bE pL ?_
   rotate_left
   refine cv ?_
   refine⟨by omega,?_⟩
   refine AN.twoO 6 11 (by kernel_rfl) rfl rfl ?_ ?_
   refine cv ?_
   refine d6 0 g2 EJ ?_
   refine cv ?_
   refine AN.twoO 9 11 (by kernel_rfl) rfl rfl ?_ ?_
   refine cv ?_
   refine sa 0 g3 (by simp[bH,eS,dS,dI]) rfl tG rfl rfl rfl ?_
   refine bE pL ?_
   refine AN.oneO 11 (by kernel_rfl) rfl ?_
   refine cv ?_
   rotate_left
   refine cv ?_
   refine AN.oneO 9 (by kernel_rfl) rfl ?_
   refine cv ?_
   refine sa 0 g3 (by simp[bH,eS,dS,dI]) rfl tG rfl rfl rfl ?_
   refine bE pL ?_
   rotate_left
   refine cv ?_
   refine AN.oneO 6 (by kernel_rfl) rfl ?_
   refine cv ?_
   refine d6 0 g2 EJ ?_
   refine cv ?_
   refine AN.oneO 9 (by kernel_rfl) rfl ?_
   refine cv ?_
   refine sa 0 g3 (by simp[bH,eS,dS,dI]) rfl tG rfl rfl rfl ?_
   refine bE pL ?_
   rotate_left
   all_goals
    refine AN.oneO 12 (by kernel_rfl) rfl ?_;refine bE @Nat.mul_one ?_;refine⟨by omega,?_⟩;refine AN.oneO 13 (by kernel_rfl) rfl ?_;refine bE (fe rl r1 jZ bg) ?_
    repeat refine ae ?_
    exact AN.nil (by kernel_rfl) rfl
  refine bE (a8 @dB @eU) ?_
  exact⟨[.box true [.fv (.sl (ints xs)),.int .i64 a5,.int .i64 0],.row true (au (ts.set k (t.1.set v d,t.2)))],.lsl 1 0 n 11,⟨ts.set k (t.1.set v d,t.2),a5,rfl,by rw[length_set,hn],la5,by rw[length_set];omega,sk⟩,RetOK.lentOwn (cd:=True/\True) rfl ⟨b',b'⟩ rfl (av xs a5) rfl (by decide) rfl⟩
 have e2:((m:Int)==5)=false:=by rw[qx];omega
 refine BN Tryz.func55 31 1 ?_
 refine aW ?_
 refine d6 0 xL hc ?_
 simp -dsimp(disch:=omega) only[sh1,sh2,sh3,e1,cX,IntKind.bits,Int.reduceToNat,Int.reducePow,Option.isNone_none,↓reduceIte,reduceCtorEq,reduceAdd,reduceMul,reduceSub,Nat.reduceBEq,reduceEqDiff,reduceLT,reduceLeDiff,ru,zu]
 refine d6 0 h6 qW ?_
 simp -dsimp(disch:=omega) only[sh1,sh2,sh3,e2,dB,eU,IntKind.bits,Int.reduceToNat,Int.reducePow,Option.isNone_none,↓reduceIte,reduceCtorEq,reduceAdd,reduceMul,reduceSub,Nat.reduceBEq,reduceEqDiff,reduceLT,reduceLeDiff,ru,zu]
 exact⟨[.box true [.fv (.sl (ints xs)),.int .i64 a2,.int .i64 0],.row true (au ts)],.lsl 1 0 n 11,⟨ts,a2,rfl,by rw[hn],Uh,by omega,dD.ts⟩,RetOK.lentOwn (cd:=True/\True) rfl ⟨b',b'⟩ rfl (av xs a2) rfl (by decide) rfl⟩
end Go.Proofs.YtiaaceeelfhdlaaGreat
namespace Go.Proofs.YtiaaceeelfhdlaaGreat
open Go.AM Go.Pl
set_option maxRecDepth 100000
set_option maxHeartbeats 4000000
theorem TL (l:List RR) (hn:l.length<=1000000) (hc: ∀ r∈l,r.1.length<=1000000):Den Tryz.prog 148 [] [nG l] [] (.bool (dM l)):=by
 have rl:=aX l;obtain⟨n,cB⟩:=ax l.length;rw[cB] at rl hn;obtain⟨R,hR⟩:=ax (dM l);rw[hR];unfold dM at hR;rw[cB] at hR;refine dq Tryz.func148 23 0 ?_;refine aW ?_;refine wl (α:=Nat) (fun i=>⟨[nG l,.any,.bool false,.int .i64 i]++replicate 20 .any,[]⟩)
  (fun i=>n+1 - i) (fun i=>i<=n/\i<=4001/\(l.take i).any d_=false) 0 ?_ ?_ ?_
 .exact bP []
 .exact⟨dU _,dU _,rfl⟩
 rintro i ⟨h1,h2,h3⟩;refine cz rl ?_;refine bK ?_ ?_
 .intro g1 g2;refine ah g2 ?_;refine bK ?_ ?_
  .intro g3 g4;have ry:=db (l:=l) (i:=i) (by omega);have hm:=gC (l:=l) (i:=i) (by omega);have ec:=iD (l:=l) (i:=i) (by omega);obtain⟨r,hr⟩:=ax (l.getD i pB);rw[hr] at ry hm ec;have hrc:=hc r hm;have rlc:=aq r.1;unfold t6 at ry;by_cases Ij:40<r.1.length
   .have e2:decide ((r.1.length:Int)>40)=true:=BR;have hb:R=true:=by
     rw[<-hR,kA hm (show d_ r=true from iK Ij),Bool.or_true]
    subst hb;simp -dsimp(disch:=omega) only[g4,ry,rl,rlc,e2,IntKind.bits,Int.reduceToNat,Int.reducePow,Option.isNone_none,↓reduceIte,reduceCtorEq,reduceAdd,reduceMul,reduceSub,Nat.reduceBEq,reduceEqDiff,reduceLT,reduceLeDiff,ru]
    repeat refine ae ?_
    exact bc rfl
   have e2:decide ((r.1.length:Int)>40)=false:=qV;simp -dsimp(disch:=omega) only[g4,ry,rl,rlc,e2,IntKind.bits,Int.reduceToNat,Int.reducePow,Option.isNone_none,↓reduceIte,reduceCtorEq,reduceAdd,reduceMul,reduceSub,Nat.reduceBEq,reduceEqDiff,reduceLT,reduceLeDiff,ru]
   repeat refine ae ?_
   refine aw (i+1) ?_ ⟨by omega,by omega,by rw[ec,List.any_append,h3];simp[d_];omega⟩;exact bP []
  intro g3 g4;have e2:decide ((n:Int)>4000)=true:=BR;rw[iK (show 4000<n by omega),Bool.true_or] at hR;subst hR;simp -dsimp(disch:=omega) only[g4,rl,e2,IntKind.bits,Int.reduceToNat,Int.reducePow,Option.isNone_none,↓reduceIte,reduceCtorEq,reduceAdd,reduceMul,reduceSub,Nat.reduceBEq,reduceEqDiff,reduceLT,reduceLeDiff,ru];exact bc rfl
 intro g1 g2;have fD:l.take i=l:=dm (by omega);rw[fD] at h3;rw[h3,Bool.or_false] at hR;subst hR;have e2:decide ((n:Int)>4000)=decide (4000<n):=by
  by_cases h:4000<n
  .rw[iK h,iK (by omega)]
  rw[mU h,mU (by omega)]
 simp -dsimp(disch:=omega) only[g2,rl,e2,IntKind.bits,Int.reduceToNat,Int.reducePow,Option.isNone_none,↓reduceIte,reduceCtorEq,reduceAdd,reduceMul,reduceSub,Nat.reduceBEq,reduceEqDiff,reduceLT,reduceLeDiff,ru];exact bc rfl
theorem TM (l:List RR) (hn:l.length<=1000000) (hp: ∀ r∈l,(∀ t∈r.2,t.1.length=8)/\r.2.length<=1000000000000):Den Tryz.prog 149 [] [nG l] [] (.bool (fY l)):=by
 have rl:=aX l;obtain⟨n,cB⟩:=ax l.length;rw[cB] at rl hn;obtain⟨R,hR⟩:=ax (fY l);rw[hR];refine dq Tryz.func149 16 0 ?_;refine aW ?_;refine wl (α:=Nat) (fun i=>⟨[nG l,.any,.bool false,.int .i64 i]++replicate 13 .any,[]⟩)
  (fun i=>n - i) (fun i=>i<=n/\(l.take i).all (fun r=>validB r.2)=true) 0 ?_ ?_ ?_
 .exact bP []
 .exact⟨dU _,rfl⟩
 rintro i ⟨h1,h3⟩;refine cz rl ?_;refine bK ?_ ?_
 .intro g1 g2;have ry:=db (l:=l) (i:=i) (by omega);have hm:=gC (l:=l) (i:=i) (by omega);have ec:=iD (l:=l) (i:=i) (by omega);obtain⟨r,hr⟩:=ax (l.getD i pB);rw[hr] at ry hm ec;have h75:=ZX r.2 (hp r hm).1 (hp r hm).2;unfold t6 at ry;cases hv:validB r.2 with
  | false=>
   have hb:R=false:=by
    rw[<-hR];cases ha:fY l with
    | false=>rfl
    | true=>
     have:=List.all_eq_true.1 ha r hm;rw[hv] at this;cases this
   subst hb;rw[hv] at h75;refine ah (bB g2 ry rl) ?_
   repeat refine ae ?_
   refine aM h75 ?_;refine ah @Bool.not_false ?_;exact bc rfl
  | true=>
   rw[hv] at h75;refine ah (bB g2 ry rl) ?_
   repeat refine ae ?_
   refine aM h75 ?_;refine ah @Bool.not_true ?_;refine aw (i+1) ?_ ⟨by omega,by rw[ec,qvb,h3];simp[hv]⟩;exact bP []
 intro g1 g2;have fD:l.take i=l:=dm (by omega);rw[fD] at h3;have hb:R=true:=by rw[<-hR];exact h3
 subst hb;refine ah g2 ?_;exact bc rfl
structure Vg (l:List RR):Prop where
 len:l.length<=1000000
 cons: ∀ r∈l,r.1.length<=1000000
 poly: ∀ r∈l,(∀ t∈r.2,t.1.length=8)/\r.2.length<=1000000000000
theorem aaw (a b:List RR) (ha:Vg a) (hb:Vg b):Den Tryz.prog 76 [] [nG a,nG b] [] (.int .i64 (ja [a,b])):=by
 have a1:=TL a ha.len ha.cons;have a2:=TM a ha.len ha.poly;have b1:=TL b hb.len hb.cons;have b2:=TM b hb.len hb.poly;have hR:ja [a,b]=if(dM a||dM b)=true then 9 else if(fY a&&fY b)=true then 0 else 2:=by
  unfold ja;rw[List.any_cons,List.any_cons,List.any_nil,List.all_cons,List.all_cons,List.all_nil,Bool.or_false,Bool.and_true]
 rw[hR];clear hR;obtain⟨x,hx⟩:=ax (dM a);obtain⟨y,hy⟩:=ax (dM b);obtain⟨z,hz⟩:=ax (fY a);obtain⟨w,hw⟩:=ax (fY b);rw[hx] at a1 ⊢;rw[hy] at b1 ⊢;rw[hz] at a2 ⊢;rw[hw] at b2 ⊢;cases x with
 | true=>
  refine dq Tryz.func76 17 0 ?_;refine aW ?_;refine aM a1 ?_;refine a9 ?_;exact bc rfl
 | false=>
  cases y with
  | true=>
   refine dq Tryz.func76 17 0 ?_;refine aW ?_;refine aM a1 ?_;refine a9 ?_;refine aM b1 ?_;refine a9 ?_;exact bc rfl
  | false=>
   cases z with
   | false=>
    refine dq Tryz.func76 17 0 ?_;refine aW ?_;refine aM a1 ?_;refine a9 ?_;refine aM b1 ?_;refine a9 ?_;refine aM a2 ?_;refine ah @Bool.not_false ?_;exact bc rfl
   | true=>
    cases w<;>
    .refine dq Tryz.func76 17 0 ?_;refine aW ?_;refine aM a1 ?_;refine a9 ?_;refine aM b1 ?_;refine a9 ?_;refine aM a2 ?_;refine ah @Bool.not_true ?_;refine aM b2 ?_;refine ah (a8 @Bool.not_true @Bool.not_false) ?_;exact bc rfl
theorem aax (a:List RR) (ha:Vg a):Den Tryz.prog 62 [] [nG a] [] (.int .i64 (ja [a])):=by
 have h:=aaw a [] ha ⟨by decide,by simp,by simp⟩;have he:ja [a,[]]=ja [a]:=by
  have e1:dM []=false:=by decide
  have e2:fY []=true:=by decide
  unfold ja;rw[List.any_cons,List.any_cons,List.any_cons,List.any_nil,List.all_cons,List.all_cons,List.all_cons,List.all_nil,e1,e2,Bool.or_false,Bool.and_true]
 rw[he] at h;change Den Tryz.prog 76 [] [nG a,.fv (.sl [])] [] _ at h;refine dq Tryz.func62 4 0 ?_;refine aW ?_;refine aM h ?_;refine a9 ?_;exact bc rfl
theorem ae2 (p q:List Tm) (hp:Canon p) (hq:Len8 q) (hb:PB 1000000000 (p++q)) (WU: ∀ t∈q,∀ e∈t.1,-1000000000000<=e/\e<=1000000000000) (hn:p.length<=1000000) (hnq:q.length<=1000000):
 Den Tryz.prog 128 [] [PL (p.map tn),PL (q.map tn)] [] (PL ((nf (p++q)).map tn)):=by
 have rl:=ay (q.map tn)
 rw[length_map] at rl
 obtain⟨n,cB⟩:=ax q.length
 rw[cB] at rl hnq
 rw[<-G4 hp hq]
 have hqB:=hb.bd (by decide)
 obtain⟨R,hR⟩:=ax (addT p q)
 rw[hR]
 refine dq Tryz.func128 19 0 ?_
 refine aW ?_
 refine wl (α:=Nat×List Tm) (fun⟨i,o⟩=>⟨[.any,PL (q.map tn),.any,.any,.nilsl,.fv (.sl (au (o.map tn))),.int .i64 i]++replicate 14 .any,[]⟩)
  (fun⟨i,_⟩=>n - i) (fun⟨i,o⟩=>i<=n/\o=addT p (q.take i)) (0,p) ?_ ?_ ?_
 .exact bP []
 .exact⟨dU _,rfl⟩
 rintro⟨i,o⟩ ⟨h1,ho⟩
 refine cz rl ?_
 refine bK ?_ ?_
 .intro g1 g2
  obtain⟨t,ht⟩: ∃ x,q[i]?=some x:=⟨_,qb (by omega)⟩
  have Wr:t∈q:=mem_of_getElem? ht
  have ec:q.take (i+1)=q.take i++[t]:=by rw[List.take_add_one,ht];rfl
  have ry:=cM (ts:=q.map tn) (i:=i) (by rw[length_map];omega)
  rw[show(q.map tn).getD i kT=tn t by rw[qa,List.getElem?_map,ht];rfl] at ry
  have Um:Len8 (q.take i):=fun x hx=>hq x (xY hx)
  have hoc:Canon o:=by rw[ho];exact mj hp Um
  have RU:PB 1000000000 (p++q.take i++[t]):=by
   have:=hb.take (p.length+(i+1));rw[List.take_append,dm (by omega),show p.length+(i+1) - p.length=i+1 by omega,ec,<-append_assoc] at this;exact this
  have acK:PB 1000000000 (p++q.take i):=by
   have:=hb.take (p.length+i);rw[List.take_append,dm (by omega),show p.length+i - p.length=i by omega] at this;exact this
  have W6:o=nf (p++q.take i):=by rw[ho,G4 hp Um]
  have T2: ∀ u∈o,Bd 1000000000 u.2:=by rw[W6];exact acK.nf.bd (by decide)
  have hsb: ∀ u∈o,u.1=t.1->Bd 1000000000 (t.2+u.2):=fun u hu _=>by
   rw[W6] at hu;exact RU.snoc_bd (by decide) u hu
  have sc:o.length<=10000000000:=by
   have:=Ay (p++q.take i);rw[<-W6,qe,length_take] at this;omega
  have sb:Bd 1000000000 t.2:=hqB t (List.mem_append_right _ Wr)
  have WB:=ZV o (tn t) hoc T2 ⟨hq t Wr,fun x hx=>WU t Wr x hx,bn sb⟩ sc (fun u hu he=>by
   show Bd _ ((cn t.2).q+u.2);rw[cK];exact hsb u hu he)
  rw[show tq (tn t)=t by show(t.1,(cn t.2).q)=t;rw[cK]] at WB
  have yL:insT o t=addT p (q.take (i+1)):=by rw[ec,IX,ho]
  obtain⟨s,hs⟩:=ax (insT o t)
  rw[hs] at WB yL
  have t8:(tn t).1.length=8:=hq t Wr
  have PC:=bM t8
  have fx:=aR t8
  refine ah (kX g2 ry PC @eY rl fx) ?_
  repeat refine ae ?_
  refine gp WB (by simp[bH,eS,eh,eY,kc,dS,dI]) ?_
  refine ah @eG ?_
  refine aw (i+1,s) ?_ ⟨by omega,yL⟩
  exact bP []
 intro g1 g2
 have fD:q.take i=q:=dm (by omega)
 rw[fD,hR] at ho
 subst ho
 refine ah g2 ?_
 exact bc rfl
theorem Qv (z:Int):eg (z:Rat)=z.sign:=by unfold eg;rw[Rat.num_intCast]
theorem TN (a b:List (List Raw)) (ha:AOk 1000000000 a) (hb:AOk 1000000000 b) (OI:a.length<=1000) (OJ:b.length<=1000):
 Den Tryz.prog 127 [] [.fv (.sl (ak a)),.fv (.sl (ak b))] [] (.int .i64 (bT a b)):=by
 have rla:=aq a
 have rlb:=aq b
 obtain⟨n,cB⟩:=ax a.length
 obtain⟨m,xI⟩:=ax b.length
 rw[cB] at rla OI
 rw[xI] at rlb OJ
 obtain⟨R,hR⟩:=ax (bT a b)
 rw[hR]
 have nB:=iP ((n:Int) - m) (by omega)
 have Wp:Bd 1 (((n:Int) - m:Int):Rat):=bd_int (by
  have:((n:Int) - m).natAbs<=1000:=by omega
  exact GH this (by decide))
 have KX:=kh (cn (((n:Int) - m:Int):Rat)) ((bn Wp).mono (by decide))
 rw[cK,Qv] at KX
 change Den Tryz.prog 30 [] _ [] (.agg (cn (((n:Int) - m:Int):Rat)).c) at nB
 change Den Tryz.prog 41 [] [.agg (cn (((n:Int) - m:Int):Rat)).c] [] _ at KX
 obtain⟨q,hq⟩:=ax (cn (((n:Int) - m:Int):Rat))
 rw[hq] at nB KX
 have fin: ∀ i,(i=n\/i=m)->i<=n->i<=m->bT (a.drop i) (b.drop i)=R->((n:Int) - m).sign=R:=fun i h0 h1 h2 h3=>by
  by_cases aG:m<n
  .have he:=zA (a:=a) (b:=b) (i:=i) (by omega) (by omega);rw[h3] at he;rw[he];exact Int.sign_eq_one_of_pos (by omega)
  have he:=CZ (a:=a) (b:=b) (i:=i) (by omega) (by omega);rw[h3,xI] at he;by_cases hnm:n<m
  .rw[if_pos (by omega)] at he;rw[he];exact Int.sign_eq_neg_one_of_neg (by omega)
  rw[if_neg (by omega)] at he;rw[he,show(n:Int) - m=0 by omega];rfl
 refine dq Tryz.func127 36 0 ?_
 refine aW ?_
 refine wl (α:=Nat) (fun i=>⟨[.fv (.sl (ak a)),.fv (.sl (ak b)),.any,.any,.int .i64 0,.int .i64 i]++replicate 32 .any,[]⟩)
  (fun i=>n - i) (fun i=>i<=n/\i<=m/\bT (a.drop i) (b.drop i)=R) 0 ?_ ?_ ?_
 .exact bP []
 .exact⟨dU _,dU _,by rw[List.drop_zero,List.drop_zero];exact hR⟩
 rintro i ⟨h1,h2,h3⟩
 refine cz rla ?_
 refine bK ?_ ?_
 .intro g1 g2
  refine ah (a8 g2 rlb) ?_
  refine bK ?_ ?_
  .intro g3 g4
   have mx:=cr (ls:=a) (i:=i) (by omega)
   have rx:=ba a i
   have hx:=ha _ mx
   have pn:=zz (a:=a) (b:=b) (i:=i) (by omega) (by omega)
   have my:=cr (ls:=b) (i:=i) (by omega)
   have ry:=ba b i
   have hy:=hb _ my
   obtain⟨x,iW⟩:=ax (a.getD i [])
   rw[iW] at rx hx pn
   obtain⟨y,sy⟩:=ax (b.getD i [])
   rw[sy] at ry hy pn
   have lx:=hx.len
   have l_:=aB lx
   have fx:=aI x
   have gx:=ag x
   have fU:=ar lx
   have ly:=hy.len
   have nh:=aB ly
   have fy:=aI y
   have gy:=ag y
   have fB:=ar ly
   have hd:=TG x y hx hy
   obtain⟨c,hc⟩:=ax (bu x y)
   rw[hc] at hd pn
   rw[h3] at pn
   unfold RL at hd
   refine aF g4 ?_
   refine dw (by kernel_rfl) ?_
   refine aF (bU rx l_ fx gx lx fU ry (f0 nh fy gy ly fB rla rlb)) ?_
   repeat refine ae ?_
   refine hY hd ?_
   refine kI ?_
   by_cases h0:c=0
   .have e2:(c !=0)=false:=by rw[h0];rfl
    rw[if_pos h0] at pn
    simp -dsimp(disch:=omega) only[e2,IntKind.bits,Int.reduceToNat,Int.reducePow,Option.isNone_none,↓reduceIte,reduceCtorEq,reduceAdd,reduceMul,reduceSub,Nat.reduceBEq,reduceEqDiff,reduceLT,reduceLeDiff,ru,zu]
    refine aw (i+1) ?_ ⟨by omega,by omega,pn.symm⟩
    exact bP []
   have e2:(c !=0)=true:=by simp[h0]
   rw[if_neg h0] at pn
   simp -dsimp(disch:=omega) only[e2,IntKind.bits,Int.reduceToNat,Int.reducePow,Option.isNone_none,↓reduceIte,reduceCtorEq,reduceAdd,reduceMul,reduceSub,Nat.reduceBEq,reduceEqDiff,reduceLT,reduceLeDiff,ru,zu]
   subst pn
   exact bc rfl
  intro g3 g4
  have he:=fin i (by omega) h1 h2 h3
  rw[he] at KX
  refine aF (bB g4 rla rlb) ?_
  refine aM nB ?_
  refine aF @fw ?_
  refine BQ KX ?_
  refine aF @im ?_
  exact bc rfl
 intro g1 g2
 have he:=fin i (by omega) h1 h2 h3
 rw[he] at KX
 refine aF (bB g2 rla rlb) ?_
 refine aM nB ?_
 refine aF @fw ?_
 refine BQ KX ?_
 refine aF @im ?_
 exact bc rfl
theorem HD {k:Kc} {p:List Tm} (hp:p≠[]): ∀ {M:List RC} {i:Nat},i<=M.length->(∀ x∈M.take i,bT x.1 k<0)->(∀ x,M[i]?=some x-> ¬bT x.1 k<0)->
 f5 M (k,p)=M.take i++(match M[i]? with
  | none=>[(k,p)]
  | some x=>(if bT x.1 k=0 then(if nf (p++x.2)=[] then [] else [(k,nf (p++x.2))]) else [(k,p),x])++M.drop (i+1))
 | [],0,_,_,_=>by simp[f5,hp]
 | x::M,0,_,_,h2=>by
  have:=h2 x rfl;unfold f5;rw[if_neg hp,if_neg this];simp only[List.take_zero,nil_append,List.getElem?_cons_zero,List.drop_succ_cons,List.drop_zero];split
  .split<;>simp
  .simp
 | x::M,i+1,h0,h1,h2=>by
  have hx:=h1 x (by simp);have ih:=HD hp (M:=M) (i:=i) (by simp at h0;omega) (fun y hy=>h1 y (by simp[hy])) (fun y hy=>h2 y (by simpa using hy));unfold f5;rw[if_neg hp,if_pos hx,ih];simp
structure aay (M:List RC):Prop where
 key: ∀ x∈M,AOk 1000000000 x.1/\x.1.length<=1000
 pol: ∀ x∈M,Len8 x.2/\x.2.length<=1000000/\(∀ t∈x.2,∀ e∈t.1,-1000000000000<=e/\e<=1000000000000)
 len:M.length<=1000000
theorem AU {M:List RC} {i:Nat} {x:RC} (h:M[i]?=some x):(M.map rn).getD i pB=rn x:=by
 rw[qa,List.getElem?_map,h];rfl
theorem aaz (M:List RC) (cs K:Kc) (p:List Tm) (b:Bool) (hM:aay M) (aiN:M.Pairwise (fun a b=>bT a.1 b.1<0)) (hp:Canon p) (hpn:p.length<=1000000)
 (hK:AOk 1000000000 K) (hKn:K.length<=1000) (W7:Den Tryz.prog 125 [] [.fv (.sl (ak cs))] [] (.fv (.sl (ak K))))
 (Uf:Den Tryz.prog 78 [] [.fv (.sl (ak K)),.fv (.sl (ak [dR ((-1:Int):Rat)]))] [] (.bool b))
 (hs:b=false->p≠[]-> ∀ x∈M,x.1=K->PB 1000000000 (p++x.2)) (Gu: ∀ x∈M,bT x.1 K=0->x.1=K):
 Den Tryz.prog 68 [] [nG (M.map rn),.agg [.fv (.sl (ak cs)),.fv (.sl (au (p.map tn)))]] [] (nG ((if b=true then M else f5 M (K,p)).map rn)):=by
 have rl:=aX (M.map rn)
 have rp:=ay (p.map tn)
 obtain⟨n,cB⟩:=ax M.length
 obtain⟨m,xI⟩:=ax p.length
 have hMn:=hM.len
 rw[length_map,cB] at rl
 rw[length_map,xI] at rp
 rw[cB] at hMn
 rw[xI] at hpn
 by_cases pd:p=[]
 .have e0:((m:Int)==0)=true:=by rw[<-xI,pd];rfl
  have ao:(if b=true then M else f5 M (K,p))=M:=by
   split
   .rfl
   cases M with
   | nil=>simp[f5,pd]
   | cons x l=>simp[f5,pd]
  rw[ao]
  refine dq Tryz.func68 78 0 ?_
  refine aW ?_
  refine aM W7 ?_
  simp -dsimp(disch:=omega) only[rp,e0,IntKind.bits,Int.reduceToNat,Int.reducePow,Option.isNone_none,↓reduceIte,reduceCtorEq,reduceAdd,reduceMul,reduceSub,Nat.reduceBEq,reduceEqDiff,reduceLT,reduceLeDiff,ru]
  exact bc rfl
 have e0:((m:Int)==0)=false:=by
  have:m≠0:=fun h=>pd (length_eq_zero_iff.1 (by omega))
  simpa using this
 cases b with
 | true=>
  rw[if_pos rfl];refine dq Tryz.func68 78 0 ?_;refine aW ?_;refine aM W7 ?_;simp -dsimp(disch:=omega) only[rp,e0,IntKind.bits,Int.reduceToNat,Int.reducePow,Option.isNone_none,↓reduceIte,reduceCtorEq,reduceAdd,reduceMul,reduceSub,Nat.reduceBEq,reduceEqDiff,reduceLT,reduceLeDiff,ru];refine aM Vb ?_;refine a9 ?_;refine aM Uf ?_;refine a9 ?_;exact bc rfl
 | false=>
  rw[if_neg (by decide)];obtain⟨R,hR⟩:=ax (f5 M (K,p));rw[hR];refine dq Tryz.func68 78 0 ?_;refine aW ?_;refine aM W7 ?_;simp -dsimp(disch:=omega) only[rp,e0,IntKind.bits,Int.reduceToNat,Int.reducePow,Option.isNone_none,↓reduceIte,reduceCtorEq,reduceAdd,reduceMul,reduceSub,Nat.reduceBEq,reduceEqDiff,reduceLT,reduceLeDiff,ru];refine aM Vb ?_;refine a9 ?_;refine aM Uf ?_;refine a9 ?_;refine WA.blockcut (fun(y:Nat×(Nat->PV))=>⟨[nG (M.map rn),.any,.any,.ptr 0 0 0,.any,.fv (.sl (ak K)),.int .i64 y.1]++tl y.2 7 73,[.box true [.fv (.sl (ak cs)),.fv (.sl (au (p.map tn)))]]⟩)
   (fun y=>y.1<=n/\(∀ x∈M.take y.1,bT x.1 K<0)/\ ∀ x,M[y.1]?=some x-> ¬bT x.1 K<0) ?_ ?_
  refine wl (α:=Nat) (fun i=>⟨[nG (M.map rn),.any,.any,.ptr 0 0 0,.any,.fv (.sl (ak K)),.int .i64 i]++replicate 73 .any,[.box true [.fv (.sl (ak cs)),.fv (.sl (au (p.map tn)))]]⟩)
   (fun i=>n - i) (fun i=>i<=n/\ ∀ x∈M.take i,bT x.1 K<0) 0 ?_ ?_ ?_
  .exact bP [0]
  .exact⟨dU _,by simp⟩
  .rintro i ⟨h1,h2⟩;refine cz rl ?_;refine bK ?_ ?_
   .intro g1 g2;obtain⟨x,hx⟩: ∃ x,M[i]?=some x:=⟨_,qb (by omega)⟩;have Gs:x∈M:=mem_of_getElem? hx;have ec:M.take (i+1)=M.take i++[x]:=by rw[List.take_add_one,hx];rfl
    have ry:(aE (M.map rn)).getD i []=[.sl (ak x.1),.sl (au (x.2.map tn))]:=by
     rw[db (l:=M.map rn) (i:=i) (by rw[length_map];omega),AU hx];rfl
    have KE:=TN x.1 K (hM.key x Gs).1 hK (hM.key x Gs).2 hKn;by_cases aG:bT x.1 K<0
    .have e2:decide (bT x.1 K<0)=true:=iK aG;refine aF (bB g2 ry rl) ?_
     repeat refine ae ?_
     refine hY KE ?_;simp -dsimp(disch:=omega) only[e2,IntKind.bits,Int.reduceToNat,Int.reducePow,Option.isNone_none,↓reduceIte,reduceCtorEq,reduceAdd,reduceMul,reduceSub,Nat.reduceBEq,reduceEqDiff,reduceLT,reduceLeDiff,ru,zu];refine aw (i+1) ?_ ⟨by omega,fun y hy=>by
      rw[ec] at hy;rcases List.mem_append.1 hy with h | h
      .exact h2 y h
      rw[List.mem_singleton.1 h];exact aG⟩
     exact bP [0]
    have e2:decide (bT x.1 K<0)=false:=mU aG;refine aF (bB g2 ry rl) ?_
    repeat refine ae ?_
    refine hY KE ?_;simp -dsimp(disch:=omega) only[e2,IntKind.bits,Int.reduceToNat,Int.reducePow,Option.isNone_none,↓reduceIte,reduceCtorEq,reduceAdd,reduceMul,reduceSub,Nat.reduceBEq,reduceEqDiff,reduceLT,reduceLeDiff,ru,zu];exact Mid.ex i rfl ⟨h1,h2,fun y hy=>by rw[hx] at hy;cases hy;exact aG⟩
   intro g1 g2;refine aF g2 ?_;exact Mid.ex i rfl ⟨h1,h2,fun y hy=>by rw[List.getElem?_eq_none (by omega)] at hy;cases hy⟩
  rintro⟨i,tmp⟩ ⟨h1,h2,h3⟩;have ct:=HD (k:=K) pd (by omega) h2 h3;have uB:List.take i (aE (M.map rn))=aE ((M.take i).map rn):=by simp[aE,List.map_take]
  have PF:List.drop i (aE (M.map rn))=aE ((M.drop i).map rn):=by simp[aE,List.map_drop]
  have lt_:(aE ((M.take i).map rn)).length=i:=by rw[aX,length_map,length_take];omega
  have B0:(aE ((M.drop i).map rn)).length=n - i:=by rw[aX,length_map,qt,cB]
  have r2: ∀ (l:List RC),∀ y∈aE (l.map rn),y.length=2:=fun l y hy=>by
   simp only[aE,mem_map] at hy;obtain⟨u,_,rfl⟩:=hy;rfl
  have K5:=r2 M;have r2a:=r2 (M.take i);have OY:=r2 (M.drop i);have tk_:List.take i (aE ((M.take i).map rn))=aE ((M.take i).map rn):=dm (by omega);have yM:List.take (n - i) (aE ((M.drop i).map rn))=aE ((M.drop i).map rn):=dm (by omega);simp -dsimp(disch:=omega) only[tl,List.map,List.range',rl,uB,Nat.sub_zero,lt_,IntKind.bits,Int.reduceToNat,Int.reducePow,Option.isNone_none,↓reduceIte,reduceCtorEq,reduceAdd,reduceMul,reduceSub,Nat.reduceBEq,reduceEqDiff,reduceLT,reduceLeDiff,ru];refine⟨⟨by omega,by omega,by omega,K5⟩,⟨r2a,by omega,by omega⟩,?_⟩;refine dw (by kernel_rfl) ?_;have em:decide ((m:Int)>0)=true:=iK (by
   have:m≠0:=fun h=>pd (length_eq_zero_iff.1 (by omega))
   omega)
  have Wx:(aE ((M.drop (i+1)).map rn)).length=n - i - 1:=by rw[aX,length_map,qt,cB];omega
  have OC:List.take (n - i - 1) (aE ((M.drop (i+1)).map rn))=aE ((M.drop (i+1)).map rn):=dm (by omega);have XT:List.drop 1 (aE ((M.drop i).map rn))=aE ((M.drop (i+1)).map rn):=by simp[aE,List.map_drop,Nat.add_comm]
  have OZ:=r2 (M.drop (i+1));cases hx:M[i]? with
  | none=>
   have j6:i=n:=by
    have:=List.getElem?_eq_none_iff.1 hx;omega
   have e1:decide (((n - i:Nat):Int)>0)=false:=qV;have XN:M.drop i=[]:=List.drop_eq_nil_of_le (by omega);rw[hx] at ct;have W8:R=M.take i++[(K,p)]++M.drop i:=by rw[<-hR,ct,XN,append_nil]
   have cI:aE ((M.take i).map rn)++[[.sl (ak K),.sl (au (p.map tn))]]++aE ((M.drop i).map rn)=aE (R.map rn):=by rw[W8];simp[aE,rn,t6]
   have gv:=aX (R.map rn);have jF:i+1+(n - i)=(aE (R.map rn)).length:=by
    rw[<-cI];simp only[qe,length_cons,length_nil,lt_,B0]
   obtain⟨FN,sj⟩:=ax (aE (R.map rn));rw[sj] at cI jF;have OE:(aE ((M.take i).map rn)++[[FV.sl (ak K),.sl (au (p.map tn))]]).length=i+1:=by rw[qe,lt_];rfl
   have tkap:List.take (i+1) (aE ((M.take i).map rn)++[[FV.sl (ak K),.sl (au (p.map tn))]])=aE ((M.take i).map rn)++[[FV.sl (ak K),.sl (au (p.map tn))]]:=dm (by omega);have tkF:List.take (i+1+(n - i)) FN=FN:=dm (by omega);simp -dsimp(disch:=omega) only[rl,PF,B0,yM,e1,rp,em,tk_,OE,tkap,cI,IntKind.bits,Int.reduceToNat,Int.reducePow,Option.isNone_none,↓reduceIte,reduceCtorEq,reduceAdd,reduceMul,reduceSub,Nat.reduceBEq,reduceEqDiff,reduceLT,reduceLeDiff,ru,zu]
   repeat refine qy (by repeat' (first | omega | exact K5 | exact OY | exact OZ | apply qy)) ?_
   refine bc ?_;refine tA (a8 tkF jF) ?_;rw[<-sj]
  | some x=>
   have j6:i<n:=by
    obtain⟨h,_⟩:=List.getElem?_eq_some_iff.1 hx;omega
   have Gs:x∈M:=mem_of_getElem? hx;have e1:decide (((n - i:Nat):Int)>0)=true:=BR;have hdx:M.drop i=x::M.drop (i+1):=by
    obtain⟨h,he⟩:=List.getElem?_eq_some_iff.1 hx;rw[qj h,he]
   have rx:(aE ((M.drop i).map rn)).getD 0 []=[.sl (ak x.1),.sl (au (x.2.map tn))]:=by rw[hdx];rfl
   have KE:=TN x.1 K (hM.key x Gs).1 hK (hM.key x Gs).2 hKn;rw[hx] at ct;by_cases h0:bT x.1 K=0
   .have e2:(bT x.1 K==0)=true:=by simp[h0]
    have nJ:=ae2 p x.2 hp (hM.pol x Gs).1 (hs rfl pd x Gs (Gu x Gs h0)) (hM.pol x Gs).2.2 (by omega) (hM.pol x Gs).2.1;have jZ:f5 M (K,p)=M.take i++((if nf (p++x.2)=[] then [] else [(K,nf (p++x.2))])++M.drop (i+1)):=by
     rw[ct];simp only[h0,if_true]
    have rP:=ay ((nf (p++x.2)).map tn);rw[length_map] at rP;obtain⟨P,hP⟩:=ax (nf (p++x.2));rw[hP] at nJ jZ rP;obtain⟨q,hq⟩:=ax P.length;rw[hq] at rP;by_cases hP0:P=[]
    .have e3:decide ((q:Int)>0)=false:=mU (by rw[<-hq,hP0];decide);rw[if_pos hP0] at jZ;have W8:R=M.take i++[]++M.drop (i+1):=by rw[<-hR,jZ,append_nil,nil_append]
     have cI:aE ((M.take i).map rn)++aE ((M.drop (i+1)).map rn)=aE (R.map rn):=by rw[W8];simp[aE,rn,t6]
     have gv:=aX (R.map rn);have jF:i+(n - i - 1)=(aE (R.map rn)).length:=by
      rw[<-cI];simp only[qe,length_cons,length_nil,lt_,Wx]
     obtain⟨FN,sj⟩:=ax (aE (R.map rn));rw[sj] at cI jF;have tkF:List.take (i+(n - i - 1)) FN=FN:=dm (by omega);simp -dsimp(disch:=omega) only[rl,PF,B0,yM,e1,rx,IntKind.bits,Int.reduceToNat,Int.reducePow,Option.isNone_none,↓reduceIte,reduceCtorEq,reduceAdd,reduceMul,reduceSub,Nat.reduceBEq,reduceEqDiff,reduceLT,reduceLeDiff,ru,zu]
     repeat refine qy (by repeat' (first | omega | exact K5 | exact OY | exact OZ | apply qy)) ?_
     refine hY KE ?_;simp -dsimp(disch:=omega) only[e2,rl,rx,B0,IntKind.bits,Int.reduceToNat,Int.reducePow,Option.isNone_none,↓reduceIte,reduceCtorEq,reduceAdd,reduceMul,reduceSub,Nat.reduceBEq,reduceEqDiff,reduceLT,reduceLeDiff,ru,zu]
     repeat refine qy (by repeat' (first | omega | exact K5 | exact OY | exact OZ | apply qy)) ?_
     refine dw (by kernel_rfl) ?_;refine aF (a8 rx B0) ?_
     repeat refine qy (by repeat' (first | omega | exact K5 | exact OY | exact OZ | apply qy)) ?_
     refine hY nJ ?_;refine aF (bU B0 XT Wx OC rP e3 tk_ cI) ?_
     repeat refine qy (by repeat' (first | omega | exact K5 | exact OY | exact OZ | apply qy)) ?_
     refine bc ?_;refine tA (a8 tkF jF) ?_;rw[<-sj]
    have e3:decide ((q:Int)>0)=true:=iK (by
     have:q≠0:=fun h=>hP0 (length_eq_zero_iff.1 (by omega))
     omega)
    rw[if_neg hP0] at jZ;have W8:R=M.take i++[(K,P)]++M.drop (i+1):=by rw[<-hR,jZ,append_assoc]
    have cI:aE ((M.take i).map rn)++[[.sl (ak K),.sl (au (P.map tn))]]++aE ((M.drop (i+1)).map rn)=aE (R.map rn):=by rw[W8];simp[aE,rn,t6]
    have gv:=aX (R.map rn);have jF:i+1+(n - i - 1)=(aE (R.map rn)).length:=by
     rw[<-cI];simp only[qe,length_cons,length_nil,lt_,Wx]
    obtain⟨FN,sj⟩:=ax (aE (R.map rn));rw[sj] at cI jF;have OE:(aE ((M.take i).map rn)++[[FV.sl (ak K),.sl (au (P.map tn))]]).length=i+1:=by rw[qe,lt_];rfl
    have tkap:List.take (i+1) (aE ((M.take i).map rn)++[[FV.sl (ak K),.sl (au (P.map tn))]])=aE ((M.take i).map rn)++[[FV.sl (ak K),.sl (au (P.map tn))]]:=dm (by omega);have tkF:List.take (i+1+(n - i - 1)) FN=FN:=dm (by omega);simp -dsimp(disch:=omega) only[rl,PF,B0,yM,e1,rx,IntKind.bits,Int.reduceToNat,Int.reducePow,Option.isNone_none,↓reduceIte,reduceCtorEq,reduceAdd,reduceMul,reduceSub,Nat.reduceBEq,reduceEqDiff,reduceLT,reduceLeDiff,ru,zu]
    repeat refine qy (by repeat' (first | omega | exact K5 | exact OY | exact OZ | apply qy)) ?_
    refine hY KE ?_;simp -dsimp(disch:=omega) only[e2,rl,rx,B0,IntKind.bits,Int.reduceToNat,Int.reducePow,Option.isNone_none,↓reduceIte,reduceCtorEq,reduceAdd,reduceMul,reduceSub,Nat.reduceBEq,reduceEqDiff,reduceLT,reduceLeDiff,ru,zu]
    repeat refine qy (by repeat' (first | omega | exact K5 | exact OY | exact OZ | apply qy)) ?_
    refine dw (by kernel_rfl) ?_;refine aF (a8 rx B0) ?_
    repeat refine qy (by repeat' (first | omega | exact K5 | exact OY | exact OZ | apply qy)) ?_
    refine hY nJ ?_;refine aF (bU B0 XT Wx OC rP e3 tk_ (bB OE tkap cI)) ?_
    repeat refine qy (by repeat' (first | omega | exact K5 | exact OY | exact OZ | apply qy)) ?_
    refine bc ?_;refine tA (a8 tkF jF) ?_;rw[<-sj]
   have e2:(bT x.1 K==0)=false:=by simp[h0]
   have jZ:f5 M (K,p)=M.take i++([(K,p)]++M.drop i):=by
    rw[ct,hdx];simp[h0]
   have W8:R=M.take i++[(K,p)]++M.drop i:=by rw[<-hR,jZ,append_assoc]
   have cI:aE ((M.take i).map rn)++[[.sl (ak K),.sl (au (p.map tn))]]++aE ((M.drop i).map rn)=aE (R.map rn):=by rw[W8];simp[aE,rn,t6]
   have gv:=aX (R.map rn);have jF:i+1+(n - i)=(aE (R.map rn)).length:=by
    rw[<-cI];simp only[qe,length_cons,length_nil,lt_,B0]
   obtain⟨FN,sj⟩:=ax (aE (R.map rn));rw[sj] at cI jF;have OE:(aE ((M.take i).map rn)++[[FV.sl (ak K),.sl (au (p.map tn))]]).length=i+1:=by rw[qe,lt_];rfl
   have tkap:List.take (i+1) (aE ((M.take i).map rn)++[[FV.sl (ak K),.sl (au (p.map tn))]])=aE ((M.take i).map rn)++[[FV.sl (ak K),.sl (au (p.map tn))]]:=dm (by omega);have tkF:List.take (i+1+(n - i)) FN=FN:=dm (by omega);simp -dsimp(disch:=omega) only[rl,PF,B0,yM,e1,rx,IntKind.bits,Int.reduceToNat,Int.reducePow,Option.isNone_none,↓reduceIte,reduceCtorEq,reduceAdd,reduceMul,reduceSub,Nat.reduceBEq,reduceEqDiff,reduceLT,reduceLeDiff,ru,zu]
   repeat refine qy (by repeat' (first | omega | exact K5 | exact OY | exact OZ | apply qy)) ?_
   refine hY KE ?_;simp -dsimp(disch:=omega) only[e2,rl,rx,B0,yM,rp,em,tk_,OE,tkap,cI,IntKind.bits,Int.reduceToNat,Int.reducePow,Option.isNone_none,↓reduceIte,reduceCtorEq,reduceAdd,reduceMul,reduceSub,Nat.reduceBEq,reduceEqDiff,reduceLT,reduceLeDiff,ru,zu]
   repeat refine qy (by repeat' (first | omega | exact K5 | exact OY | exact OZ | apply qy)) ?_
   refine bc ?_;refine tA (a8 tkF jF) ?_;rw[<-sj]
theorem Qw {cs:List (List Raw)} (h:KT cs):Den Tryz.prog 78 [] [.fv (.sl (ak (c7 cs))),.fv (.sl (ak [dR ((-1:Int):Rat)]))] [] (.bool (!cN cs)):=by
 obtain⟨c1,c2⟩:=Vc h;have h1: ∀ l∈[dR ((-1:Int):Rat)],IsCn l/\LOk 1000 l:=fun l hl=>by
  rw[qz] at hl;subst hl;exact⟨⟨(replicate 9 (0:Rat)).set 8 ((-1:Int):Rat),by simp[dR,List.map_set],by simp⟩,zx.mono (by decide)⟩
 have:=aaq (c7 cs) [dR ((-1:Int):Rat)] c1 h1 (by omega) (by decide);have he:t_ (c7 cs) [dR ((-1:Int):Rat)]=!cN cs:=by
  cases hi:cN cs with
  | false=>
   have e:c7 cs=[dR ((-1:Int):Rat)]:=by unfold c7;rw[hi];rfl
   rw[e];exact wC _
  | true=>
   show _=false;rw[n5];intro he;have hm:dR ((-1:Int):Rat)∈c7 cs:=by rw[he];simp
   obtain⟨l,hl,l9,hn⟩:=Fg h.cs.len9 hi hm;refine jN (h.cs.len9 l hl) l9 ?_;rw[<-hn];exact fun i hi=>by rw[s6 (by omega),if_neg (by omega)]
 rw[he] at this;exact this
structure OrOk (L:List RR):Prop where
 nr:C4 L
 lim40: ∀ r∈L,r.1.length<=40
theorem OrOk.large {L:List RR} (h:OrOk L):L.any d_=false:=by
 rw[List.any_eq_false];intro x hx;have:=h.lim40 x hx;simp[d_];omega
theorem Fh {L:List RR} {i:Nat}: ∃ u,(normL L).Perm (normL (L.take i)++u):=⟨normL (L.drop i),by
 unfold normL;rw[<-BM,<-List.filter_append,List.take_append_drop]⟩
theorem Jz {L:List RR} (h:OrOk L) {x:RC} (hx:x∈normL L):CnK x.1/\AOk 1000 x.1/\x.1.length<=40:=(rR h.nr h.large).1 x hx
theorem OrOk.sub {L:List RR} (h:OrOk L) {t u:List RC} (hp:(t++u).Perm (normL L)):(RcOk t)/\ ∀ x∈js t,(AOk 1000 x.1/\x.1.length<=40/\CnK x.1)/\POk 10000000 1024 x.2/\x.2.length<=cE:=by
 have hr:RcOk t:=fun x hx=>(rR h.nr h.large).2 x (hp.mem_iff.1 (List.mem_append_left _ hx))
 refine⟨hr,fun x hx=>?_⟩;obtain⟨e1,y,hy,e2⟩:=MM hr hx;have hk:=Jz h (hp.mem_iff.1 (List.mem_append_left _ hy));rw[e2] at hk;refine⟨⟨hk.2.1,hk.2.2,hk.1⟩,?_⟩;rw[e1];exact h.nr.mer _ (t.filter (fun y=>!decide (y.1=x.1))++u) (by
  rw[<-append_assoc];exact((List.filter_append_perm (fun y:RC=>decide (y.1=x.1)) t).append_right u).trans hp)
theorem OrOk.pre {L:List RR} (h:OrOk L) {M:List RC} {i:Nat} (hM:M=js (normL (L.take i))):aay M/\M.Pairwise (fun a b=>bT a.1 b.1<0)/\(∀ x∈M,POk 10000000 1024 x.2/\x.2.length<=cE)/\ ∀ x∈M,CnK x.1:=by
 obtain⟨u,hu⟩:=Fh (L:=L) (i:=i);obtain⟨h1,h2⟩:=h.sub hu.symm;rw[<-hM] at h2;have hl:M.length<=1000000:=by
  have a:=rL (normL (L.take i)) [];have b:=hu.length_eq;have c:=h.nr.few;rw[qe] at b;unfold js at hM;rw[<-hM,length_nil] at a;omega
 refine⟨⟨fun x hx=>⟨fun l hl=>((h2 x hx).1.1 l hl).mono (by decide),by have:=(h2 x hx).1.2.1;omega⟩,fun x hx=>⟨(h2 x hx).2.1.canon.len,by have:=(h2 x hx).2.2;unfold cE at this;omega,fun t ht e he=>by have:=(h2 x hx).2.1.exp t ht e he;omega⟩,hl⟩,?_,fun x hx=>(h2 x hx).2,fun x hx=>(h2 x hx).1.2.2⟩;rw[hM];exact(AQ h1).sorted
theorem OrOk.one {L:List RR} (h:OrOk L) {r:RR} (hm:r∈L) (hk:iS r=true):POk 10000000 1024 (nfR r.2):=by
 have bC:(c7 r.1,nfR r.2)∈normL L:=mem_map.2 ⟨r,mem_filter.2 ⟨hm,hk⟩,rfl⟩;obtain⟨a,b,uz⟩:=List.append_of_mem bC;have:=(h.nr.mer [(c7 r.1,nfR r.2)] (a++b) (by rw[uz];exact(List.perm_middle (l₁:=a)).symm)).1;rw[wF ((rR h.nr h.large).2 _ bC).2] at this;exact this
theorem ae3 (L:List RR) (h:OrOk L):Den Tryz.prog 23 [] [nG L] [] (nG ((js (normL L)).map rn)):=by
 have rl:=aX L;obtain⟨n,cB⟩:=ax L.length;have hnL:=h.nr.len;rw[cB] at rl hnL;obtain⟨R,hR⟩:=ax (js (normL L));rw[hR];refine dq Tryz.func23 25 0 ?_;refine aW ?_;refine wl (α:=Nat×List RC) (fun⟨i,M⟩=>⟨[nG L,.any,.any,nG (M.map rn),.int .i64 i]++replicate 21 .any,[]⟩)
  (fun⟨i,_⟩=>n - i) (fun⟨i,M⟩=>i<=n/\M=js (normL (L.take i))) (0,[]) ?_ ?_ ?_
 .refine fW [] ?_ ?_
  .simp[bO,eT,cJ,aU];trivial
  simp[fM,fC,aU,cJ,bA,bh,aZ,bJ]
 .exact⟨dU _,rfl⟩
 rintro⟨i,M⟩ ⟨h1,X_⟩;refine cz rl ?_;refine bK ?_ ?_
 .intro g1 g2;have ry:=db (l:=L) (i:=i) (by omega);have hm:=gC (l:=L) (i:=i) (by omega);have ec:=iD (l:=L) (i:=i) (by omega);obtain⟨r,hr⟩:=ax (L.getD i pB);rw[hr] at ry hm ec;have qQ:=h.nr.pg r hm;have f_:=h.nr.cs r hm (h.lim40 r hm);have nA:=ZW r.2 qQ.ok qQ.pb (by have:=qQ.len;omega);obtain⟨c1,c2⟩:=Vc f_;have agR:Den Tryz.prog 68 [] [nG (M.map rn),.agg [.fv (.sl (ak r.1)),.fv (.sl (au ((nfR r.2).map tn)))]] [] (nG ((js (normL (L.take (i+1)))).map rn)):=by
   obtain⟨m1,m2,m3,m4⟩:=h.pre X_;have Ie:iS r=true-> ∀ t∈nfR r.2,Bd 10000000 t.2:=fun hk=>by
    have:=h.one hm hk;exact this.bd
   have:=aaz M r.1 (c7 r.1) (nfR r.2) (!cN r.1) m1 m2 (dW (lG qQ.ok.l8)) (by have:=qQ.srt;unfold cE at this;omega) (fun l hl=>(c1 l hl).2.mono (by decide)) (by omega) (aeV r.1 f_) (Qw f_)
    (fun hb hpn x hx _=>PB.terms (n:=24) (j:=10000000) (by decide) (fun t ht=>by
     rcases List.mem_append.1 ht with h1 | h1
     .exact Ie (by unfold iS;cases hi:cN r.1<;>simp_all) t h1
     .exact(m3 x hx).1.bd t h1) (by
     have h1:=qQ.srt;have h2:=(m3 x hx).2;unfold cE at h1 h2;rw[qe];omega) (by decide)) (fun x hx h0=>kv (m4 x hx) (fun f hf=>(c1 f hf).1) h0)
   have he:(if(!cN r.1)=true then M else f5 M (c7 r.1,nfR r.2))=js (normL (L.take (i+1))):=by
    rw[ec,wG];unfold iS;cases hi:cN r.1 with
    | false=>simp[X_]
    | true=>
     by_cases pd:nfR r.2=[]
     .rw[pd];simp only[Bool.not_true,Bool.false_eq_true,if_false,List.isEmpty_nil,Bool.and_false,append_nil,<-X_];cases M<;>simp[f5]
     have h1:(nfR r.2).isEmpty=false:=by rw[List.isEmpty_eq_false_iff];exact pd
     rw[h1];simp only[Bool.not_true,Bool.not_false,Bool.false_eq_true,if_false,Bool.and_true,if_true,Jp,<-X_]
   rw[he] at this;exact this
  change Den Tryz.prog 69 [] [PL r.2] [] (PL ((nfR r.2).map tn)) at nA;unfold t6 at ry;refine ah (bB g2 ry rl) ?_;refine dw (by kernel_rfl) ?_;refine ah (a8 ry rl) ?_
  repeat refine ae ?_
  refine hY nA ?_;refine a9 ?_;refine hY agR ?_;refine a9 ?_;refine aw (i+1,js (normL (L.take (i+1)))) ?_ ⟨by omega,rfl⟩;exact bP []
 intro g1 g2;have fD:L.take i=L:=dm (by omega);rw[fD,hR] at X_;subst X_;refine ah g2 ?_;exact bc rfl
theorem ae4 (M:List RC) (hn:M.length<=4000) (h: ∀ x∈M,POk 10000000 1024 x.2/\x.2.length<=1000000/\x.1.length<=40):Den Tryz.prog 74 [] [nG (M.map rn)] [] (.tup [nG (M.map rn),.int .i64 0]):=by
 have rl:=aX (M.map rn);obtain⟨n,cB⟩:=ax M.length;rw[length_map,cB] at rl;rw[cB] at hn;have e0:decide ((n:Int)>4000)=false:=qV;refine dq Tryz.func74 36 0 ?_;simp -dsimp(disch:=omega) only[replicate,rl,e0,IntKind.bits,Int.reduceToNat,Int.reducePow,Option.isNone_none,↓reduceIte,reduceCtorEq,reduceAdd,reduceMul,reduceSub,Nat.reduceBEq,reduceEqDiff,reduceLT,reduceLeDiff,ru];refine wl (α:=Nat) (fun i=>⟨[nG (M.map rn),.any,.any,.any,.int .i64 i]++replicate 32 .any,[]⟩)
  (fun i=>n - i) (fun i=>i<=n) 0 ?_ (dU _) ?_
 .exact bP []
 rintro i h1;refine cz rl ?_;refine bK ?_ ?_
 .intro g1 g2;obtain⟨x,hx⟩: ∃ x,M[i]?=some x:=⟨_,qb (by omega)⟩;have Gs:x∈M:=mem_of_getElem? hx;have ry:(aE (M.map rn)).getD i []=[.sl (ak x.1),.sl (au (x.2.map tn))]:=by
   rw[db (l:=M.map rn) (i:=i) (by rw[length_map];omega),AU hx];rfl
  obtain⟨hp,hl,hk⟩:=h x Gs;have h76:=aeM (x.2.map tn) (fun t ht=>by
   obtain⟨u,hu,rfl⟩:=mem_map.1 ht;exact hp.canon.len u hu) (by rw[length_map];omega) hp.validB
  have rk:=aq x.1;obtain⟨k,Il⟩:=ax x.1.length;rw[Il] at rk hk;have e1:((0:Int) !=0)=false:=rfl;have e4:decide ((k:Int)>40)=false:=qV;refine ah (bB g2 ry rl) ?_
  repeat refine ae ?_
  refine hY h76 ?_;simp -dsimp(disch:=omega) only[ry,rl,rk,e4,e1,IntKind.bits,Int.reduceToNat,Int.reducePow,Option.isNone_none,↓reduceIte,reduceCtorEq,reduceAdd,reduceMul,reduceSub,Nat.reduceBEq,reduceEqDiff,reduceLT,reduceLeDiff,ru]
  repeat refine ae ?_
  refine aw (i+1) ?_ (by omega);exact bP []
 intro g1 g2;refine ah g2 ?_;exact bc rfl
theorem ae5 (L:List RR) (aA:L.length<=1000000) (hp: ∀ r∈L,C1 r.2) (hc: ∀ r∈L,r.1.length<=1000000) (h:ja [L]=0->C4 L):
 Den Tryz.prog 36 [] [nG L] [] (ML L):=by
 have Sy:=aax L ⟨aA,hc,fun r hr=>⟨(hp r hr).ok.l8,by have:=(hp r hr).len;omega⟩⟩
 unfold ML
 by_cases h0:ja [L]=0
 .rw[if_pos h0]
  have hO:OrOk L:=⟨h h0,fun r hr=>by
   have h1:=(vo h0).1;cases Wa:d_ r with
   | false=>simpa [d_] using Wa
   | true=>rw[kA hr Wa] at h1;cases h1⟩
  have h95:=ae3 L hO
  have xI:=hO.sub (t:=normL L) (u:=[]) (by rw[append_nil])
  have hlm:(js (normL L)).length<=4000:=by
   have a:=rL (normL L) [];have c:=hO.nr.few;unfold js;rw[length_nil] at a;omega
  have h94:=ae4 (js (normL L)) hlm (fun x hx=>⟨(xI.2 x hx).2.1,by have:=(xI.2 x hx).2.2;unfold cE at this;omega,(xI.2 x hx).1.2.1⟩)
  rw[h0] at Sy
  have e1:((0:Int) !=0)=false:=rfl
  refine dq Tryz.func36 14 0 ?_
  refine aW ?_
  refine aM Sy ?_
  simp -dsimp(disch:=omega) only[e1,IntKind.bits,Int.reduceToNat,Int.reducePow,Option.isNone_none,↓reduceIte,reduceCtorEq,reduceAdd,reduceMul,reduceSub,Nat.reduceBEq,reduceEqDiff,reduceLT,reduceLeDiff,ru]
  refine aM h95 ?_
  refine a9 ?_
  refine aM h94 ?_
  refine a9 ?_
  exact bc rfl
 rw[if_neg h0]
 obtain⟨c,hc⟩:=ax (ja [L])
 rw[hc] at Sy h0 ⊢
 have e1:(c !=0)=true:=by simp[h0]
 refine dq Tryz.func36 14 0 ?_
 refine aW ?_
 refine aM Sy ?_
 simp -dsimp(disch:=omega) only[e1,IntKind.bits,Int.reduceToNat,Int.reducePow,Option.isNone_none,↓reduceIte,reduceCtorEq,reduceAdd,reduceMul,reduceSub,Nat.reduceBEq,reduceEqDiff,reduceLT,reduceLeDiff,ru]
 exact bc rfl
structure RdR (r:RR):Prop where
 ok: ∀ l∈r.1,LOk 4 l
 two:Two 0 1 r.1
 len:r.1.length<=6
 rd:Rd3 r.2
 duo: ∀ t∈r.2,∀ i,2<=i->t.1.getD i 0=0
 few:r.2.length<=2
theorem MT {ts:List RT} (h:Rd3 ts):validB ts=true:=by
 unfold validB;rw[nF];intro t ht;unfold iA;rw[nF];intro e he;have:=(h t ht).2.1 e he;rw[hG];exact⟨iK (by omega),iK (by omega)⟩
theorem AV {ts:List RT} {j k n:Nat} (hj:1<=j) (h:TsOk j ts) (hn:ts.length<=n) (hk:n*(j+1)+1<=k):PB k (ts.map tq):=PB.terms hj (fun t ht=>by
 obtain⟨u,hu,rfl⟩:=mem_map.1 ht;exact(h u hu).raw.bd hj) (by rw[length_map];exact hn) hk
theorem zH {ts:List RT} (h:TsOk 10 ts) (hn:ts.length<=2):C1 ts:=by
 have h1:=Hk ts;have h2:cE=12:=rfl;exact⟨fun t ht=>(h t ht).mono (by decide),(AV (k:=23) (by decide) h hn (by decide)).mono (by decide),by omega,by omega⟩
theorem RdR.q {r:RR} (h:RdR r):RgQ 0 1 2 2 4 11 6 (r.1,nfR r.2):=by
 have BV:=h.rd.ts;have h4:TsOk 4 r.2:=fun t ht=>⟨(h.rd t ht).1,fun x hx=>by have:=(h.rd t ht).2.1 x hx;omega,(h.rd t ht).2.2⟩
 refine⟨fun l hl=>(h.ok l hl).mono (by decide),h.two,by have:=h.len;show r.1.length<=40;omega,ka (AL _) (by have:=h.len;show r.1.length<=6;omega),dW (lG BV.l8),?_,(AV (k:=11) (by decide) h4 h.few (by decide)).nf,.inl (by decide)⟩;refine Duo.nf (fun t ht=>?_);obtain⟨u,hu,rfl⟩:=mem_map.1 ht;have h1:=h.rd u hu;exact⟨h1.1,fun i _ h2 h3=>h.duo u hu i (by omega),jR (by decide) h1.2.1 0,jR (by decide) h1.2.1 1⟩
theorem zI: ∀ {L:List RR},(∀ r∈L,Canon (nfR r.2))->normL ((L.map (fun r=>(r.1,nfR r.2))).map rn)=normL L
 | [],_=>rfl
 | r::L,h=>by
  have ih:=zI (L:=L) (fun x hx=>h x (mem_cons_of_mem _ hx));have hr:nfR ((nfR r.2).map tn)=nfR r.2:=s9 (h r (by simp));have hk:iS (rn (r.1,nfR r.2))=iS r:=by
   unfold iS;show(cN r.1&&!(nfR ((nfR r.2).map tn)).isEmpty)=_;rw[hr]
  unfold normL at ih ⊢;rw[map_cons,map_cons];cases hb:iS r with
  | true=>
   rw[List.filter_cons_of_pos (by rw[hk,hb]),List.filter_cons_of_pos hb,map_cons,map_cons,ih];show(c7 r.1,nfR ((nfR r.2).map tn))::_=_;rw[hr]
  | false=>rw[filter_cons_of_neg (by rw[hk,hb];decide),filter_cons_of_neg (by rw[hb];decide),ih]
theorem TP:C6 0 1 2 2 4 11 6 2:=⟨by decide,by decide,by decide,by decide,by decide,by decide,by decide,by decide⟩
theorem Qx:KT []:=wH (v:=0) (w:=0) (k:=1) (by simp) (by decide) (by intro l hl;simp at hl) (by simp) (.inl (by simp[ncs]))
structure SmR (r:RC):Prop where
 cn: ∀ l∈r.1,IsCn l/\LOk 1000 l
 len:r.1.length<=40
 pok:POk 10000000 1024 r.2
 few:r.2.length<=12
theorem SmR.ts {r:RC} (h:SmR r):TsOk 5000000000 (r.2.map tn)/\(r.2.map tn).length<=10000000000:=
 ⟨fun t ht=>(h.pok.ts (by decide) t ht).mono (by decide),by rw[length_map];have:=h.few;omega⟩
def s_ (xs:List Int) (n a:Nat):List Raw×Nat:=
 if nN xs (nx xs (nx xs (pV xs n a))) 6=0 then
  (((yh xs n 0 a (replicate 9 rz)).set 8 (cn (o7 xs (pV xs n a)))).set 8 (i_ xs (nx xs (nx xs (nx xs (pV xs n a))))).1,(i_ xs (nx xs (nx xs (nx xs (pV xs n a))))).2)
 else((yh xs n 0 a (replicate 9 rz)).set 8 (cn (o7 xs (pV xs n a))),nx xs (nx xs (nx xs (pV xs n a))))
theorem HE (xs:List Int) (n a:Nat):LOk 4 (s_ xs n a).1:=by
 have h1:=oL (Aq xs n 0 a _ nT) 8 (Raw.Ok.mono (bn (vd xs (pV xs n a))) (by decide));unfold s_;split
 .exact oL h1 8 (sJ _ _)
 exact h1
theorem HF {xs:List Int} {n a:Nat} (h:a<=xs.length):(s_ xs n a).2<=xs.length:=by
 have h3:=pX (n:=n) h;unfold s_;split
 .exact y5 (bL (bL (bL h3)))
 exact bL (bL (bL h3))
theorem ae6 (xs:List Int) (n a:Nat) (hn8:n<=8) (hl:xs.length<=1000) (ha:a<=xs.length) (hw:W64 xs):
 Den Tryz.prog 37 [S xs a] [.ptr 0 0 0,.int .i64 n] [S xs (s_ xs n a).2] (RL (s_ xs n a).1):=by
 have a3l:=pX (n:=n) ha
 have agT:=Aq xs n 0 a _ nT
 unfold s_
 obtain⟨rsf,W9⟩:=ax (yh xs n 0 a (replicate 9 rz))
 obtain⟨a3,e3⟩:=ax (pV xs n a)
 rw[e3] at a3l
 rw[W9] at agT
 rw[W9,e3]
 unfold S
 refine dq Tryz.func37 26 1 ?_
 refine aW ?_
 refine wl (α:=Nat×Nat×List Raw) (fun⟨i,b,rs⟩=>⟨[.ptr 0 0 0,.int .i64 n,.any,.any,.ptr 1 0 0,.ptr 2 0 0,.int .i64 i]++replicate 21 .any,[.box true [.fv (.sl (ints xs)),.int .i64 b,.int .i64 0],.box true (bJ 9),.box true (flat rs)]⟩)
  (fun⟨i,_,_⟩=>n - i) (fun⟨i,b,rs⟩=>i<=n/\b<=xs.length/\LOk 4 rs/\yh xs (n - i) i b rs=rsf/\pV xs (n - i) b=a3) (0,a,replicate 9 rz) ?_ ?_ ?_
 .refine fW [0,1,2] ?_ ?_
  .simp[bO,eT,cJ,aU]
  simp[fM,fC,aU,cJ,bA,bJ,replicate,flat,rz,u32s]
 .exact⟨by omega,ha,nT,W9,e3⟩
 rintro⟨i,b,rs⟩ ⟨hi,hb,bf,hS,hX⟩
 have aA:=bf.len
 have k4:=ag rs
 have cb:=av xs b
 refine aW ?_
 refine bK ?_ ?_
 .intro h1 h2
  have El:=y4 xs b (-2) 2 5 hl hb hw (by decide) (by decide) (by decide) (by decide) (by decide)
  have l5:=d5 (xs:=xs) (a:=b) (n:=5) (by decide)
  obtain⟨k,hk⟩: ∃ k,n - i=k+1:=⟨n - 1 - i,by omega⟩
  have iY:n - (i+1)=k:=by omega
  rw[hk] at hS hX
  unfold yh at hS
  unfold pV at hX
  have nB:=iP (-2+(nN xs b 5:Int)) (by omega)
  have bg:=dF (rs:=rs) (i:=i) (by omega) (decide (((-2+(nN xs b 5:Int):Int):Rat).num<0)) (ai ((-2+(nN xs b 5:Int):Int):Rat).num.natAbs) (ai ((-2+(nN xs b 5:Int):Int):Rat).den)
  have sx:(⟨decide (((-2+(nN xs b 5:Int):Int):Rat).num<0),ai ((-2+(nN xs b 5:Int):Int):Rat).num.natAbs,ai ((-2+(nN xs b 5:Int):Int):Rat).den⟩:Raw)=cn ((-2+(nN xs b 5:Int):Int):Rat):=rfl
  have acL:(cn ((-2+(nN xs b 5:Int):Int):Rat)).Ok 4:=Raw.Ok.mono (bn (bd_int (by omega))) (by decide)
  rw[sx] at bg
  obtain⟨z,hz⟩: ∃ z:Int,-2+(nN xs b 5:Int)=z:=⟨_,rfl⟩
  rw[hz] at El nB bg hS acL
  rw[a_,bx,bx] at nB
  unfold S at El cb
  refine bE h2 ?_
  refine d6 0 El cb ?_
  refine cv ?_
  refine aM nB ?_
  refine bE bg ?_
  repeat refine ae ?_
  refine aw (i+1,nx xs b,rs.set i (cn (z:Rat))) ?_ ⟨by omega,bL hb,oL bf i acL,by rw[iY];exact hS,by rw[iY];exact hX⟩
  exact bP [0,1,2]
 intro h1 h2
 have hi3:n - i=0:=by omega
 rw[hi3] at hS hX
 have e8:rs=rsf:=hS
 have hba:b=a3:=hX
 subst e8
 subst hba
 have yd:=LR xs b hl hb hw
 have Pv:=bL (bL hb)
 obtain⟨a4,e4⟩:=ax (nx xs (nx xs b))
 rw[e4] at yd Pv ⊢
 have c4:=av xs a4
 have hn6:=jn xs a4 6 hl Pv hw (by decide) (by decide)
 have hb5:=bL Pv
 obtain⟨a5,e5⟩:=ax (nx xs a4)
 rw[e5] at hn6 hb5 ⊢
 have c5:=av xs a5
 have h34:=Tw xs a5 hl hb5 hw
 obtain⟨m,hm⟩:=ax (nN xs a4 6)
 rw[hm] at hn6 ⊢
 have bg:=dF (rs:=rs) (i:=8) (by omega) (decide ((o7 xs b).num<0)) (ai (o7 xs b).num.natAbs) (ai (o7 xs b).den)
 have sx:(⟨decide ((o7 xs b).num<0),ai (o7 xs b).num.natAbs,ai (o7 xs b).den⟩:Raw)=cn (o7 xs b):=rfl
 rw[sx] at bg
 have W_:=oL bf 8 (Raw.Ok.mono (bn (vd xs b)) (by decide))
 obtain⟨rs8,agU⟩:=ax (rs.set 8 (cn (o7 xs b)))
 rw[agU] at bg W_ ⊢
 simp only[reduceMul,reduceAdd] at bg
 have Ee:=W_.len
 have hf8:=ag rs8
 have agV:(flat rs8).length=27:=by omega
 rw[a_,bx,bx] at yd
 unfold S at yd hn6 h34 cb c4 c5
 by_cases h0:m=0
 .rw[if_pos h0]
  have ED:((m:Int)==0)=true:=by rw[h0];rfl
  obtain⟨⟨r,a6⟩,hr6⟩: ∃ t,i_ xs a5=t:=⟨_,rfl⟩
  have Pu:=sJ xs a5
  rw[hr6] at h34 Pu ⊢
  dsimp only at h34 Pu ⊢
  have m9:=dF (rs:=rs8) (i:=8) (by omega) r.neg r.num r.den
  have f1:(⟨r.neg,r.num,r.den⟩:Raw)=r:=rfl
  rw[f1] at m9
  have acO:=oL W_ 8 Pu
  obtain⟨rs9,agW⟩:=ax (rs8.set 8 r)
  rw[agW] at m9 acO ⊢
  simp only[reduceMul,reduceAdd] at m9
  have hl9:=acO.len
  have hf9:=ag rs9
  have acP:(flat rs9).length=27:=by omega
  unfold Raw.v at h34
  refine bE h2 ?_
  refine d6 0 yd cb ?_
  refine bE bg ?_
  repeat refine ae ?_
  refine d6 0 hn6 c4 ?_
  refine bE ED ?_
  refine d6 0 h34 c5 ?_
  simp -dsimp(disch:=omega) only[sh1,sh2,sh3,m9,ar hl9,acP,IntKind.bits,Int.reduceToNat,Int.reducePow,Option.isNone_none,↓reduceIte,reduceCtorEq,reduceAdd,reduceMul,reduceSub,Nat.reduceBEq,reduceEqDiff,reduceLT,reduceLeDiff,ru,zu]
  repeat refine ae ?_
  exact RetOK.formL rfl rfl hl9 rfl (av xs _) rfl
 rw[if_neg h0]
 have ED:((m:Int)==0)=false:=by rw[qx];omega
 refine bE h2 ?_
 refine d6 0 yd cb ?_
 refine bE bg ?_
 repeat refine ae ?_
 refine d6 0 hn6 c4 ?_
 simp -dsimp(disch:=omega) only[sh1,sh2,sh3,ED,ar Ee,agV,IntKind.bits,Int.reduceToNat,Int.reducePow,Option.isNone_none,↓reduceIte,reduceCtorEq,reduceAdd,reduceMul,reduceSub,Nat.reduceBEq,reduceEqDiff,reduceLT,reduceLeDiff,ru,zu]
 repeat refine ae ?_
 exact RetOK.formL rfl rfl Ee rfl (av xs _) rfl
def jh (xs:List Int) (n:Nat):Nat->Nat->List (List Raw)
 | 0,_=>[]
 | k+1,b=>(s_ xs n b).1::jh xs n k (s_ xs n b).2
def ub (xs:List Int) (n:Nat):Nat->Nat->Nat
 | 0,b=>b
 | k+1,b=>ub xs n k (s_ xs n b).2
theorem tc (xs:List Int) (n:Nat): ∀ k b,(jh xs n k b).length=k
 | 0,_=>rfl
 | k+1,b=>by simp[jh,tc xs n k]
theorem wI (xs:List Int) (n:Nat): ∀ k b,∀ l∈jh xs n k b,LOk 4 l
 | 0,b,l,h=>by simp[jh] at h
 | k+1,b,l,h=>by
  simp only[jh,uI] at h;rcases h with h | h
  .rw[h];exact HE xs n b
  exact wI xs n k _ l h
theorem wJ {xs:List Int} {n:Nat}: ∀ {k b},b<=xs.length->ub xs n k b<=xs.length
 | 0,_,h=>h
 | k+1,_,h=>wJ (k:=k) (HF h)
theorem aaA (xs:List Int) (n m a:Nat) (hn8:n<=8) (hm:m<=100) (hl:xs.length<=1000) (ha:a<=xs.length) (hw:W64 xs):
 Den Tryz.prog 66 [S xs a] [.ptr 0 0 0,.int .i64 n,.int .i64 m] [S xs (ub xs n (nN xs a (m+1)) (nx xs a))] (.fv (.sl (ak (jh xs n (nN xs a (m+1)) (nx xs a))))):=by
 have hN:=jn xs a (m+1) hl ha hw (by omega) (by omega)
 have aG:=d5 (xs:=xs) (a:=a) (n:=m+1) (by omega)
 have hc:=av xs a
 have jX:=bL ha
 obtain⟨k0,RO⟩:=ax (nN xs a (m+1))
 obtain⟨a1,e1⟩:=ax (nx xs a)
 rw[RO] at hN aG ⊢
 rw[e1] at hN jX ⊢
 obtain⟨fin,gv⟩:=ax (ub xs n k0 a1)
 obtain⟨tot,BD⟩:=ax (jh xs n k0 a1)
 rw[gv,BD]
 have em:((m:Int)+1)=((m+1:Nat):Int):=by omega
 unfold S at hN hc ⊢
 refine dq Tryz.func66 21 1 ?_
 refine aW ?_
 rw[em]
 refine d6 0 hN hc ?_
 refine cv ?_
 refine wl (α:=Nat×Nat×List (List Raw)) (fun⟨i,b,out⟩=>⟨[.ptr 0 0 0,.int .i64 n,.int .i64 m,.any,.any,.any,.nilsl,.lsl 1 0 out.length 27,.int .i64 i]++replicate 15 .any,[S xs b,.row true (ak out)]⟩)
  (fun⟨i,_,_⟩=>i) (fun⟨i,b,out⟩=>b<=xs.length/\out.length+i=k0/\ub xs n i b=fin/\out++jh xs n i b=tot) (k0,a1,[]) ?_ ?_ ?_
 .refine Weak.nil 7 27 (by decide) rfl ?_
  refine fW [0,1] ?_ ?_
  .simp[bO,eT,cJ,aU]
  simp[fM,fC,aU,cJ,S,ak]
 .exact⟨jX,by simp,gv,by rw[nil_append];exact BD⟩
 rintro⟨i,b,out⟩ ⟨hb,sc,yL,cI⟩
 obtain⟨L,hL⟩:=ax out.length
 have rlo:=aq out
 rw[hL] at rlo sc
 have fD:=bX (ls:=out) (n:=L) (by omega)
 have vD:=av xs b
 dsimp only
 rw[hL]
 unfold S at vD ⊢
 refine aW ?_
 refine bK ?_ ?_
 .intro h1 h2
  obtain⟨p,rfl⟩: ∃ p,i=p+1:=⟨i - 1,by omega⟩
  have ep:(((p+1:Nat):Int) - 1)=(p:Int):=by omega
  have R8:=ae6 xs n b hn8 hl hb hw
  have bf:=HE xs n b
  have dN:=HF (n:=n) hb
  simp only[ub] at yL
  simp only[jh] at cI
  obtain⟨⟨y,b2⟩,hy⟩: ∃ t,s_ xs n b=t:=⟨_,rfl⟩
  rw[hy] at R8 bf dN yL cI
  dsimp only at R8 bf dN yL cI
  have BZ:=bf.len
  have gy:=ag y
  have nh:=aB BZ
  have fB:=ar BZ
  have e8:=cP out y
  unfold S at R8
  unfold RL at R8
  refine bE h2 ?_
  refine d6 0 R8 vD ?_
  refine bE (bU gy BZ fB nh fD e8 rlo ep) ?_
  repeat refine ae ?_
  refine aw (p,b2,out++[y]) ?_ ⟨dN,by rw[qe,hL];simp;omega,yL,by rw[<-cI];simp⟩
  refine fW [0,3] ?_ ?_
  .simp[bO,eT,cJ,aU]
   omega
  simp[fM,fC,aU,cJ,S]
 intro h1 h2
 have Em:i=0:=by omega
 subst Em
 have Gg:b=fin:=yL
 have xH:out=tot:=by rw[<-cI];simp[jh]
 subst Gg
 subst xH
 refine bE h2 ?_
 refine qL rfl ⟨b',b'⟩ rfl (av xs _) rfl ?_ rfl
 have pJ:idxOf? 1 [0]=none:=rfl
 exact j8 (bB rlo fD pJ)
theorem vp {q:Rat} (h:Bd 1 q):LOk 1 (dR q):=by
 refine⟨dH q,fun r hr=>?_⟩;unfold dR at hr;rcases mem_or_eq_of_mem_set hr with h1 | h1
 .rw[eq_of_mem_replicate h1];exact bn (Bd.zero (by decide))
 rw[h1];exact bn h
theorem rS (v:Nat):LOk 1 (mD v):=by
 refine⟨dz v,fun r hr=>?_⟩;unfold mD at hr;rcases mem_or_eq_of_mem_set hr with h1 | h1
 .rw[eq_of_mem_replicate h1];exact bn (Bd.zero (by decide))
 rw[h1];exact bn (bd_int (by decide))
def m0 (v:Nat) (z:Int):List Raw:=(mg (mD v) (dR (z:Rat))).map cn
def m5 (v:Nat) (z:Int):List Raw:=(mg (dL (mD v)) (dR (z:Rat))).map cn
theorem C9 (v:Nat) {z:Int} (h:z.natAbs<4294967296):LOk 4 (m0 v z):=
 LOk.of_map (gA (dz v) (dH _)) (fun q hq=>Bd.mono (Ar ((rS v).bd (by decide)) ((vp (bd_int h)).bd (by decide)) (by decide) q hq) (by decide))
theorem C_ (v:Nat) {z:Int} (h:z.natAbs<4294967296):LOk 4 (m5 v z):=
 LOk.of_map (gA (dG (dz v)) (dH _)) (fun q hq=>Bd.mono (Ar (AD ((rS v).bd (by decide))) ((vp (bd_int h)).bd (by decide)) (by decide) q hq) (by decide))
def lK (xs:List Int) (b:Nat):Int:= -1+(nN xs b 3:Int)
def pC (xs:List Int) (b:Nat):Int:=lK xs b+(1+(nN xs (nx xs b) 2:Int))
def lL (xs:List Int):Nat->Nat->Nat->List (List Raw)
 | 0,_,_=>[]
 | k+1,v,b=>m0 v (-lK xs b)::m5 v (pC xs b)::lL xs k (v+1) (nx xs (nx xs b))
theorem oZ (xs:List Int) (b:Nat): -1<=lK xs b/\lK xs b<=1/\lK xs b<pC xs b/\pC xs b<=3:=by
 have h1:=d5 (xs:=xs) (a:=b) (n:=3) (by decide);have h2:=d5 (xs:=xs) (a:=nx xs b) (n:=2) (by decide);unfold pC lK;omega
theorem wK (xs:List Int): ∀ k v b,(lL xs k v b).length=2*k
 | 0,_,_=>rfl
 | k+1,v,b=>by simp only[lL,length_cons,wK xs k];omega
theorem HG (xs:List Int): ∀ k v b,∀ l∈lL xs k v b,LOk 4 l
 | 0,v,b,l,h=>by simp[lL] at h
 | k+1,v,b,l,h=>by
  have hb:=oZ xs b;simp only[lL,uI] at h;rcases h with h | h | h
  .rw[h];exact C9 v (by omega)
  .rw[h];exact C_ v (by omega)
  exact HG xs k _ _ l h
theorem ae7 (xs:List Int) (n a:Nat) (hn8:n<=8) (hl:xs.length<=1000) (ha:a<=xs.length) (hw:W64 xs):
 Den Tryz.prog 65 [S xs a] [.ptr 0 0 0,.int .i64 n] [S xs (pV xs (2*n) a),.row true (ak (lL xs n 0 a))] (.lsl 1 0 (2*n) 27):=by
 have hc:=av xs a
 obtain⟨fin,gv⟩:=ax (pV xs (2*n) a)
 obtain⟨tot,BD⟩:=ax (lL xs n 0 a)
 have uB:tot.length=2*n:=by rw[<-BD,wK]
 rw[gv,BD]
 unfold S at hc ⊢
 refine dq Tryz.func65 40 1 ?_
 refine aW ?_
 refine wl (α:=Nat×Nat×List (List Raw)) (fun⟨i,b,out⟩=>⟨[.ptr 0 0 0,.int .i64 n,.any,.any,.nilsl,.lsl 1 0 out.length 27,.int .i64 i]++replicate 35 .any,[S xs b,.row true (ak out)]⟩)
  (fun⟨i,_,_⟩=>n - i) (fun⟨i,b,out⟩=>i<=n/\b<=xs.length/\out.length=2*i/\pV xs (2*(n - i)) b=fin/\out++lL xs (n - i) i b=tot) (0,a,[]) ?_ ?_ ?_
 .refine Weak.nil 5 27 (by decide) rfl ?_
  refine fW [0,1] ?_ ?_
  .simp[bO,eT,cJ,aU]
  simp[fM,fC,aU,cJ,S,ak]
 .exact⟨dU _,ha,rfl,gv,by rw[nil_append];exact BD⟩
 rintro⟨i,b,out⟩ ⟨hi,hb,sc,yL,cI⟩
 obtain⟨L,hL⟩:=ax out.length
 have rlo:=aq out
 rw[hL] at rlo sc
 have fD:=bX (ls:=out) (n:=L) (by omega)
 have vD:=av xs b
 dsimp only
 rw[hL]
 unfold S at vD ⊢
 refine aW ?_
 refine bK ?_ ?_
 .intro h1 h2
  obtain⟨p,hp⟩: ∃ p,n - i=p+1:=⟨n - i - 1,by omega⟩
  have Ie:n - (i+1)=p:=by omega
  have e2:2*(p+1)=2*p+1+1:=by omega
  rw[hp] at yL cI
  rw[e2] at yL
  simp only[pV] at yL
  simp only[lL] at cI
  have SA:=y4 xs b (-1) 1 3 hl hb hw (by decide) (by decide) (by decide) (by decide) (by decide)
  have dp:=bL hb
  have dN:=bL dp
  have O0:=y4 xs (nx xs b) 1 2 2 hl dp hw (by decide) (by decide) (by decide) (by decide) (by decide)
  have XQ:=oZ xs b
  have gj:lK xs b= -1+(nN xs b 3:Int):=rfl
  have gK:pC xs b=lK xs b+(1+(nN xs (nx xs b) 2:Int)):=rfl
  obtain⟨b1,agX⟩:=ax (nx xs b)
  rw[agX] at SA O0 dp dN yL cI gK
  obtain⟨b2,agY⟩:=ax (nx xs b1)
  rw[agY] at O0 dN yL cI
  have c1:=av xs b1
  have c2:=av xs b2
  obtain⟨w,Pp⟩: ∃ t:Int,1+(nN xs b1 2:Int)=t:=⟨_,rfl⟩
  rw[Pp] at O0 gK
  obtain⟨lo,D_⟩:=ax (lK xs b)
  rw[D_] at XQ gj gK cI
  rw[<-gj] at SA
  obtain⟨oy,xE⟩: ∃ t,pC xs b=t:=⟨_,rfl⟩
  rw[xE] at XQ gK cI
  have eneg:(0:Int) - lo= -lo:=by omega
  have KY:=aah i (by omega)
  have SB:=iP (-lo) (by omega)
  have yO:=iP oy (by omega)
  have KF:=Qq (cn ((-lo:Int):Rat)) (Raw.Ok.mono (bn (bd_int (by omega))) (by decide))
  have KG:=Qq (cn ((oy:Int):Rat)) (Raw.Ok.mono (bn (bd_int (by omega))) (by decide))
  rw[cK] at KF KG
  have kN:=Qr (mD i) ((rS i).mono (by decide))
  have KH:=G_ (mD i) (dR ((-lo:Int):Rat)) ((rS i).mono (by decide)) ((vp (bd_int (by omega))).mono (by decide))
  have Gv:=G_ (dL (mD i)) (dR ((oy:Int):Rat)) ((rD (rS i) (by decide)).mono (by decide)) ((vp (bd_int (by omega))).mono (by decide))
  change Den Tryz.prog 106 [] [_,_] [] (RL (m0 i (-lo))) at KH
  change Den Tryz.prog 106 [] [_,_] [] (RL (m5 i oy)) at Gv
  have oka:=C9 i (z:= -lo) (by omega)
  have okb:=C_ i (z:=oy) (by omega)
  change Den Tryz.prog 30 [] _ [] (cn ((-lo:Int):Rat)).v at SB
  change Den Tryz.prog 30 [] _ [] (cn ((oy:Int):Rat)).v at yO
  obtain⟨ra,hra⟩:=ax (cn ((-lo:Int):Rat))
  obtain⟨rb,Pr⟩:=ax (cn ((oy:Int):Rat))
  rw[hra] at SB KF
  rw[Pr] at yO KG
  have lx:=dz i
  have lna:=dH ((-lo:Int):Rat)
  have lnb:=dH ((oy:Int):Rat)
  have lng:=dG lx
  obtain⟨x,hx⟩:=ax (mD i)
  rw[hx] at KY kN KH Gv lx lng
  obtain⟨na,OI⟩:=ax (dR ((-lo:Int):Rat))
  rw[OI] at KF KH lna
  obtain⟨nb,OJ⟩:=ax (dR ((oy:Int):Rat))
  rw[OJ] at KG Gv lnb
  obtain⟨ng,hng⟩:=ax (dL x)
  rw[hng] at kN Gv lng
  obtain⟨ya,hya⟩:=ax (m0 i (-lo))
  rw[hya] at KH oka cI
  obtain⟨yb,hyb⟩:=ax (m5 i oy)
  rw[hyb] at Gv okb cI
  have lya:=oka.len
  have lyb:=okb.len
  have gx:=ag x
  have fU:=ar lx
  have gna:=ag na
  have acQ:=ar lna
  have gnb:=ag nb
  have acR:=ar lnb
  have gng:=ag ng
  have acS:=ar lng
  have gya:=ag ya
  have acT:=ar lya
  have ag0:=aB lya
  have gyb:=ag yb
  have acU:=ar lyb
  have ag1:=aB lyb
  have e8:=cP out ya
  have ag2:=cP (out++[ya]) yb
  have Eh:(ak (out++[ya])).length=L+1:=by rw[aq,qe,hL];rfl
  have tF:List.take (L+1) (ak (out++[ya]))=ak (out++[ya]):=dm (by omega)
  have elen:L+1+1=L+2:=rfl
  unfold S at SA O0 c1 c2
  unfold Raw.v at SB yO KF KG
  unfold RL at KY kN KH Gv KF KG
  refine bE h2 ?_
  refine d6 0 SA vD ?_
  refine cv ?_
  refine d6 0 O0 c1 ?_
  refine cv ?_
  repeat refine ae ?_
  refine aM KY ?_
  refine aF (bB gx lx fU) ?_
  repeat refine ae ?_
  refine dw (by kernel_rfl) ?_
  refine aF (fe gx lx fU eneg) ?_
  repeat refine ae ?_
  have ehi:lo+w=oy:=gK.symm
  refine aM SB ?_
  refine kI ?_
  refine aM KF ?_
  refine aF (bB gna lna acQ) ?_
  repeat refine ae ?_
  refine hY KH ?_
  refine aF (bU gya lya acT ag0 fD e8 rlo (bB gx lx fU)) ?_
  repeat refine ae ?_
  refine hY kN ?_
  refine aF ehi ?_
  refine aM yO ?_
  refine kI ?_
  refine aM KG ?_
  refine aF (kX gnb lnb acR gng lng acS) ?_
  refine hY Gv ?_
  refine aF (bU gyb lyb acU ag1 tF ag2 Eh elen) ?_
  repeat refine ae ?_
  refine aw (i+1,b2,out++[ya]++[yb]) ?_ ⟨by omega,dN,by simp;omega,by rw[Ie];exact yL,by rw[Ie,<-cI];simp⟩
  refine fW [0,6] ?_ ?_
  .simp[bO,eT,cJ,aU]
   omega
  simp[fM,fC,aU,cJ,S]
 intro h1 h2
 have yI:n - i=0:=by omega
 rw[yI] at cI yL
 have xH:out=tot:=by rw[<-cI];simp[lL]
 have Gg:b=fin:=yL
 have T':L=2*n:=by omega
 subst xH
 subst Gg
 subst T'
 refine bE h2 ?_
 exact RetOK.lentOwn rfl ⟨b',b'⟩ rfl (av xs _) rfl (by decide) rfl
end Go.Proofs.YtiaaceeelfhdlaaGreat
