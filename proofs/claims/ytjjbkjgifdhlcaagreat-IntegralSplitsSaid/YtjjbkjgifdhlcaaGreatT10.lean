/- The types of the program,as the abstract machine asks them;and that they are the program's. -/
import Derived.Test.YtjjbkjgifdhlcaaGreatT9
import Derived.Test.YtjjbkjgifdhlcaaGreatProg
import Derived.KernelRfl
import Derived.Test.YtjjbkjgifdhlcaaGreatT8
import Derived.Test.YtjjbkjgifdhlcaaGreatT1
open List (drop_eq_getElem_cons getD_cons_zero length_cons length_take replicate)
namespace Go.Proofs.YtjjbkjgifdhlcaaGreat
open Go.AM
set_option maxRecDepth 100000
def ty3:TyI:=⟨.int .i64,1,8,[.fv (.lit (.int .i64 0))]⟩
def ty4:TyI:=⟨.bool,1,1,[.fv (.lit (.bool false))]⟩
def ty5:TyI:=⟨.int .u8,1,1,[.fv (.lit (.int .u8 0))]⟩
def ty9:TyI:=⟨.str,1,16,[.fv (.lit (.string ⟨#[]⟩))]⟩
def aba:TyI:=⟨.sl 3,1,24,[.nilsl]⟩
def abb:TyI:=⟨.other,1,8,[.fv (.lit (.pointer none))]⟩
def abc:TyI:=⟨.sl 104,1,24,[.nilsl]⟩
def abd:TyI:=⟨.st [⟨0,1,false⟩,⟨1,1,false⟩,⟨2,1,false⟩],3,56,[.fv (.lit (.bool false)),.nilsl,.nilsl]⟩
def abe:TyI:=⟨.arr 8 27,24,448,[.fv (.lit (.bool false)),.nilsl,.nilsl,.fv (.lit (.bool false)),.nilsl,.nilsl,.fv (.lit (.bool false)),.nilsl,.nilsl,.fv (.lit (.bool false)),.nilsl,.nilsl,.fv (.lit (.bool false)),.nilsl,.nilsl,.fv (.lit (.bool false)),.nilsl,.nilsl,.fv (.lit (.bool false)),.nilsl,.nilsl,.fv (.lit (.bool false)),.nilsl,.nilsl]⟩
def abf:TyI:=⟨.st [⟨0,24,true⟩,⟨24,3,true⟩],27,504,[.fv (.lit (.bool false)),.nilsl,.nilsl,.fv (.lit (.bool false)),.nilsl,.nilsl,.fv (.lit (.bool false)),.nilsl,.nilsl,.fv (.lit (.bool false)),.nilsl,.nilsl,.fv (.lit (.bool false)),.nilsl,.nilsl,.fv (.lit (.bool false)),.nilsl,.nilsl,.fv (.lit (.bool false)),.nilsl,.nilsl,.fv (.lit (.bool false)),.nilsl,.nilsl,.fv (.lit (.bool false)),.nilsl,.nilsl]⟩
def abg:TyI:=⟨.sl 27,1,24,[.nilsl]⟩
def abh:TyI:=⟨.sl 69,1,24,[.nilsl]⟩
def abi:TyI:=⟨.sl 69,1,24,[.nilsl]⟩
def abj:TyI:=⟨.int .i64,1,8,[.fv (.lit (.int .i64 0))]⟩
def abk:TyI:=⟨.sl 73,1,24,[.nilsl]⟩
def abl:TyI:=⟨.other,1,8,[.fv (.lit (.nilFunc))]⟩
def abm:TyI:=⟨.arr 8 3,8,64,[.fv (.lit (.int .i64 0)),.fv (.lit (.int .i64 0)),.fv (.lit (.int .i64 0)),.fv (.lit (.int .i64 0)),.fv (.lit (.int .i64 0)),.fv (.lit (.int .i64 0)),.fv (.lit (.int .i64 0)),.fv (.lit (.int .i64 0))]⟩
def abn:TyI:=⟨.st [⟨0,8,true⟩,⟨8,3,true⟩],11,120,[.fv (.lit (.int .i64 0)),.fv (.lit (.int .i64 0)),.fv (.lit (.int .i64 0)),.fv (.lit (.int .i64 0)),.fv (.lit (.int .i64 0)),.fv (.lit (.int .i64 0)),.fv (.lit (.int .i64 0)),.fv (.lit (.int .i64 0)),.fv (.lit (.bool false)),.nilsl,.nilsl]⟩
def abo:TyI:=⟨.sl 30,1,24,[.nilsl]⟩
def abp:TyI:=⟨.st [⟨0,1,false⟩,⟨1,1,false⟩],2,48,[.nilsl,.nilsl]⟩
def abq:TyI:=⟨.st [⟨0,1,false⟩,⟨1,1,false⟩,⟨2,1,false⟩],3,40,[.nilsl,.fv (.lit (.int .i64 0)),.fv (.lit (.int .i64 0))]⟩
def abr:TyI:=⟨.other,1,8,[.fv (.lit (.nilFunc))]⟩
def VO:TyI:=⟨.int .u32,1,4,[.fv (.lit (.int .u32 0))]⟩
def VP:TyI:=⟨.sl 22,1,24,[.nilsl]⟩
def VQ:TyI:=⟨.st [⟨0,1,false⟩],1,1,[.fv (.lit (.bool false))]⟩
def VR:TyI:=⟨.st [⟨0,1,false⟩,⟨1,1,false⟩],2,48,[.nilsl,.nilsl]⟩
def VS:TyI:=⟨.st [⟨0,1,true⟩,⟨1,2,true⟩],3,56,[.fv (.lit (.bool false)),.nilsl,.nilsl]⟩
def VT:TyI:=⟨.int .u64,1,8,[.fv (.lit (.int .u64 0))]⟩
def VU:TyI:=⟨.int .u64,1,8,[.fv (.lit (.int .u64 0))]⟩
def VV:TyI:=⟨.sl 35,1,24,[.nilsl]⟩
def VW:TyI:=⟨.other,1,8,[.fv (.lit (.nilFunc))]⟩
def VX:TyI:=⟨.sl 53,1,24,[.nilsl]⟩
def VY:TyI:=⟨.other,1,8,[.fv (.lit (.nilFunc))]⟩
def VZ:TyI:=⟨.sl 70,1,24,[.nilsl]⟩
def V0:TyI:=⟨.mp 8 (.agg [.bool false,.fv (.sl []),.fv (.sl [])]),1,8,[.fv (.lit (.map none))]⟩
def V1:TyI:=⟨.sl 67,1,24,[.nilsl]⟩
def V2:TyI:=⟨.other,1,8,[.fv (.lit (.nilFunc))]⟩
def V3:TyI:=⟨.st [⟨0,1,false⟩],1,1,[.fv (.lit (.bool false))]⟩
def V4:TyI:=⟨.sl 34,1,24,[.nilsl]⟩
def V5:TyI:=⟨.other,1,8,[.fv (.lit (.nilFunc))]⟩
def V6:TyI:=⟨.mp 8 (.int .i64 0),1,8,[.fv (.lit (.map none))]⟩
def V7:TyI:=⟨.other,1,8,[.fv (.lit (.nilFunc))]⟩
def V8:TyI:=⟨.st [⟨0,1,false⟩],1,8,[.fv (.lit (.int .i64 0))]⟩
def V9:TyI:=⟨.int .i64,1,8,[.fv (.lit (.int .i64 0))]⟩
def V_:TyI:=⟨.int .u64,1,8,[.fv (.lit (.int .u64 0))]⟩
def V':TyI:=⟨.other,1,8,[.fv (.lit (.pointer none))]⟩
def Wa:TyI:=⟨.other,1,16,[.fv (.lit (.nilIface))]⟩
def tab:Tab:=[(3,ty3),(4,ty4),(5,ty5),(9,ty9),(22,aba),(23,abb),(25,abc),(27,abd),(28,abe),(30,abf),(32,abg),(34,abh),(35,abi),(45,abj),(53,abk),(64,abl),(67,abm),(69,abn),(70,abo),(73,abp),(86,abq),(92,abr),(104,VO),(115,VP),(137,VQ),(139,VR),(141,VS),(151,VT),(152,VU),(153,VV),(160,VW),(164,VX),(170,VY),(173,VZ),(178,V0),(179,V1),(182,V2),(184,V3),(193,V4),(202,V5),(216,V6),(219,V7),(221,V8),(229,V9),(247,V_),(251,V'),(255,Wa)]
theorem at3:tab.at 3=some ⟨.int .i64,1,8,[.fv (.lit (.int .i64 0))]⟩:=rfl
theorem at4:tab.at 4=some ⟨.bool,1,1,[.fv (.lit (.bool false))]⟩:=rfl
theorem at5:tab.at 5=some ⟨.int .u8,1,1,[.fv (.lit (.int .u8 0))]⟩:=rfl
theorem at9:tab.at 9=some ⟨.str,1,16,[.fv (.lit (.string ⟨#[]⟩))]⟩:=rfl
theorem agW:tab.at 22=some ⟨.sl 3,1,24,[.nilsl]⟩:=rfl
theorem agX:tab.at 23=some ⟨.other,1,8,[.fv (.lit (.pointer none))]⟩:=rfl
theorem agY:tab.at 25=some ⟨.sl 104,1,24,[.nilsl]⟩:=rfl
theorem agZ:tab.at 27=some ⟨.st [⟨0,1,false⟩,⟨1,1,false⟩,⟨2,1,false⟩],3,56,[.fv (.lit (.bool false)),.nilsl,.nilsl]⟩:=rfl
theorem ag0:tab.at 28=some ⟨.arr 8 27,24,448,[.fv (.lit (.bool false)),.nilsl,.nilsl,.fv (.lit (.bool false)),.nilsl,.nilsl,.fv (.lit (.bool false)),.nilsl,.nilsl,.fv (.lit (.bool false)),.nilsl,.nilsl,.fv (.lit (.bool false)),.nilsl,.nilsl,.fv (.lit (.bool false)),.nilsl,.nilsl,.fv (.lit (.bool false)),.nilsl,.nilsl,.fv (.lit (.bool false)),.nilsl,.nilsl]⟩:=rfl
theorem SO:tab.at 30=some ⟨.st [⟨0,24,true⟩,⟨24,3,true⟩],27,504,[.fv (.lit (.bool false)),.nilsl,.nilsl,.fv (.lit (.bool false)),.nilsl,.nilsl,.fv (.lit (.bool false)),.nilsl,.nilsl,.fv (.lit (.bool false)),.nilsl,.nilsl,.fv (.lit (.bool false)),.nilsl,.nilsl,.fv (.lit (.bool false)),.nilsl,.nilsl,.fv (.lit (.bool false)),.nilsl,.nilsl,.fv (.lit (.bool false)),.nilsl,.nilsl,.fv (.lit (.bool false)),.nilsl,.nilsl]⟩:=rfl
theorem ag1:tab.at 32=some ⟨.sl 27,1,24,[.nilsl]⟩:=rfl
theorem ag2:tab.at 34=some ⟨.sl 69,1,24,[.nilsl]⟩:=rfl
theorem ag3:tab.at 35=some ⟨.sl 69,1,24,[.nilsl]⟩:=rfl
theorem ag4:tab.at 45=some ⟨.int .i64,1,8,[.fv (.lit (.int .i64 0))]⟩:=rfl
theorem ag5:tab.at 53=some ⟨.sl 73,1,24,[.nilsl]⟩:=rfl
theorem ag6:tab.at 64=some ⟨.other,1,8,[.fv (.lit (.nilFunc))]⟩:=rfl
theorem ag7:tab.at 67=some ⟨.arr 8 3,8,64,[.fv (.lit (.int .i64 0)),.fv (.lit (.int .i64 0)),.fv (.lit (.int .i64 0)),.fv (.lit (.int .i64 0)),.fv (.lit (.int .i64 0)),.fv (.lit (.int .i64 0)),.fv (.lit (.int .i64 0)),.fv (.lit (.int .i64 0))]⟩:=rfl
theorem ag8:tab.at 69=some ⟨.st [⟨0,8,true⟩,⟨8,3,true⟩],11,120,[.fv (.lit (.int .i64 0)),.fv (.lit (.int .i64 0)),.fv (.lit (.int .i64 0)),.fv (.lit (.int .i64 0)),.fv (.lit (.int .i64 0)),.fv (.lit (.int .i64 0)),.fv (.lit (.int .i64 0)),.fv (.lit (.int .i64 0)),.fv (.lit (.bool false)),.nilsl,.nilsl]⟩:=rfl
theorem ag9:tab.at 70=some ⟨.sl 30,1,24,[.nilsl]⟩:=rfl
theorem aha:tab.at 73=some ⟨.st [⟨0,1,false⟩,⟨1,1,false⟩],2,48,[.nilsl,.nilsl]⟩:=rfl
theorem ahb:tab.at 86=some ⟨.st [⟨0,1,false⟩,⟨1,1,false⟩,⟨2,1,false⟩],3,40,[.nilsl,.fv (.lit (.int .i64 0)),.fv (.lit (.int .i64 0))]⟩:=rfl
theorem ahc:tab.at 92=some ⟨.other,1,8,[.fv (.lit (.nilFunc))]⟩:=rfl
theorem abt:tab.at 104=some ⟨.int .u32,1,4,[.fv (.lit (.int .u32 0))]⟩:=rfl
theorem abu:tab.at 115=some ⟨.sl 22,1,24,[.nilsl]⟩:=rfl
theorem abv:tab.at 137=some ⟨.st [⟨0,1,false⟩],1,1,[.fv (.lit (.bool false))]⟩:=rfl
theorem abw:tab.at 139=some ⟨.st [⟨0,1,false⟩,⟨1,1,false⟩],2,48,[.nilsl,.nilsl]⟩:=rfl
theorem abx:tab.at 141=some ⟨.st [⟨0,1,true⟩,⟨1,2,true⟩],3,56,[.fv (.lit (.bool false)),.nilsl,.nilsl]⟩:=rfl
theorem aby:tab.at 151=some ⟨.int .u64,1,8,[.fv (.lit (.int .u64 0))]⟩:=rfl
theorem abz:tab.at 152=some ⟨.int .u64,1,8,[.fv (.lit (.int .u64 0))]⟩:=rfl
theorem abA:tab.at 153=some ⟨.sl 35,1,24,[.nilsl]⟩:=rfl
theorem abB:tab.at 160=some ⟨.other,1,8,[.fv (.lit (.nilFunc))]⟩:=rfl
theorem abC:tab.at 164=some ⟨.sl 53,1,24,[.nilsl]⟩:=rfl
theorem abD:tab.at 170=some ⟨.other,1,8,[.fv (.lit (.nilFunc))]⟩:=rfl
theorem abE:tab.at 173=some ⟨.sl 70,1,24,[.nilsl]⟩:=rfl
theorem abF:tab.at 178=some ⟨.mp 8 (.agg [.bool false,.fv (.sl []),.fv (.sl [])]),1,8,[.fv (.lit (.map none))]⟩:=rfl
theorem abG:tab.at 179=some ⟨.sl 67,1,24,[.nilsl]⟩:=rfl
theorem abH:tab.at 182=some ⟨.other,1,8,[.fv (.lit (.nilFunc))]⟩:=rfl
theorem abI:tab.at 184=some ⟨.st [⟨0,1,false⟩],1,1,[.fv (.lit (.bool false))]⟩:=rfl
theorem abJ:tab.at 193=some ⟨.sl 34,1,24,[.nilsl]⟩:=rfl
theorem abK:tab.at 202=some ⟨.other,1,8,[.fv (.lit (.nilFunc))]⟩:=rfl
theorem abL:tab.at 216=some ⟨.mp 8 (.int .i64 0),1,8,[.fv (.lit (.map none))]⟩:=rfl
theorem abM:tab.at 219=some ⟨.other,1,8,[.fv (.lit (.nilFunc))]⟩:=rfl
theorem abN:tab.at 221=some ⟨.st [⟨0,1,false⟩],1,8,[.fv (.lit (.int .i64 0))]⟩:=rfl
theorem abO:tab.at 229=some ⟨.int .i64,1,8,[.fv (.lit (.int .i64 0))]⟩:=rfl
theorem abP:tab.at 247=some ⟨.int .u64,1,8,[.fv (.lit (.int .u64 0))]⟩:=rfl
theorem abQ:tab.at 251=some ⟨.other,1,8,[.fv (.lit (.pointer none))]⟩:=rfl
theorem abR:tab.at 255=some ⟨.other,1,16,[.fv (.lit (.nilIface))]⟩:=rfl
abbrev Oz:=qy at3 (qy at4 (qy at5 (qy at9 (qy agW (qy agX (qy agY (qy agZ (qy ag0 (qy SO (qy ag1 (qy ag2 (qy ag3 (qy ag4 (qy ag5 (qy ag6 (qy ag7 (qy ag8 (qy ag9 (qy aha (qy ahb (qy ahc (qy abt (qy abu (qy abv (qy abw (qy abx (qy aby (qy abz (qy abA (qy abB (qy abC (qy abD (qy abE (qy abF (qy abG (qy abH (qy abI (qy abJ (qy abK (qy abL (qy abM (qy abN (qy abO (qy abP (qy abQ (abR))))))))))))))))))))))))))))))))))))))))))))))
abbrev ru:=qy @jC (qy @cV (qy @dI (qy @iM (qy @pF (qy @pG (qy @pH (qy @Nat.min_def (qy @ed (qy @cN (qy @Option.isNone_some.{0} (qy @jJ (qy @Oz (@eq_self.{1})))))))))))))
theorem ok3:TyOk Tryz.prog 3 ty3:=⟨⟨_,_,(by kernel_rfl:Tryz.prog.info? 3=some Tryz.t3),rfl,rfl,rfl,rfl,rfl,rfl⟩,Tryz.underlying3⟩
theorem ok4:TyOk Tryz.prog 4 ty4:=⟨⟨_,_,(by kernel_rfl:Tryz.prog.info? 4=some Tryz.t4),rfl,rfl,rfl,rfl,rfl,rfl⟩,Tryz.underlying4⟩
theorem ok5:TyOk Tryz.prog 5 ty5:=⟨⟨_,_,(by kernel_rfl:Tryz.prog.info? 5=some Tryz.t5),rfl,rfl,rfl,rfl,rfl,rfl⟩,Tryz.underlying5⟩
theorem ok9:TyOk Tryz.prog 9 ty9:=⟨⟨_,_,(by kernel_rfl:Tryz.prog.info? 9=some Tryz.t9),rfl,rfl,rfl,rfl,rfl,rfl⟩,Tryz.underlying9⟩
theorem ahd:TyOk Tryz.prog 22 aba:=⟨⟨_,_,(by kernel_rfl:Tryz.prog.info? 22=some Tryz.t22),rfl,rfl,rfl,rfl,rfl,rfl⟩,Tryz.underlying22⟩
theorem ahe:TyOk Tryz.prog 23 abb:=⟨⟨_,_,(by kernel_rfl:Tryz.prog.info? 23=some Tryz.t23),rfl,rfl,rfl,rfl,rfl,rfl⟩,⟨_,Tryz.underlying23,rfl⟩⟩
theorem ahf:TyOk Tryz.prog 25 abc:=⟨⟨_,_,(by kernel_rfl:Tryz.prog.info? 25=some Tryz.t25),rfl,rfl,rfl,rfl,rfl,rfl⟩,Tryz.underlying25⟩
theorem ahg:TyOk Tryz.prog 27 abd:=⟨⟨_,_,(by kernel_rfl:Tryz.prog.info? 27=some Tryz.t27),rfl,rfl,rfl,rfl,rfl,rfl⟩,
 ⟨_,Tryz.underlying27,rfl,fun j f fd h1 h2=>match j,f,fd,h1,h2 with
  | 0,_,_,rfl,rfl=>⟨rfl,by decide,_,_,(by kernel_rfl:Tryz.prog.info? 4=some Tryz.t4),rfl,Tryz.underlying4,rfl⟩
  | 1,_,_,rfl,rfl=>⟨rfl,by decide,_,_,(by kernel_rfl:Tryz.prog.info? 25=some Tryz.t25),rfl,Tryz.underlying25,rfl⟩
  | 2,_,_,rfl,rfl=>⟨rfl,by decide,_,_,(by kernel_rfl:Tryz.prog.info? 25=some Tryz.t25),rfl,Tryz.underlying25,rfl⟩
  | j+3,_,_,h,_=>by simp at h⟩⟩
theorem ahh:TyOk Tryz.prog 28 abe:=⟨⟨_,_,(by kernel_rfl:Tryz.prog.info? 28=some Tryz.t28),rfl,rfl,rfl,rfl,rfl,rfl⟩,Tryz.underlying28⟩
theorem ahi:TyOk Tryz.prog 30 abf:=⟨⟨_,_,(by kernel_rfl:Tryz.prog.info? 30=some Tryz.t30),rfl,rfl,rfl,rfl,rfl,rfl⟩,
 ⟨_,Tryz.underlying30,rfl,fun j f fd h1 h2=>match j,f,fd,h1,h2 with
  | 0,_,_,rfl,rfl=>⟨rfl,by decide,_,_,(by kernel_rfl:Tryz.prog.info? 28=some Tryz.t28),rfl,Tryz.underlying28,rfl⟩
  | 1,_,_,rfl,rfl=>⟨rfl,by decide,_,_,(by kernel_rfl:Tryz.prog.info? 27=some Tryz.t27),rfl,Tryz.underlying27,rfl⟩
  | j+2,_,_,h,_=>by simp at h⟩⟩
theorem ahj:TyOk Tryz.prog 32 abg:=⟨⟨_,_,(by kernel_rfl:Tryz.prog.info? 32=some Tryz.t32),rfl,rfl,rfl,rfl,rfl,rfl⟩,Tryz.underlying32⟩
theorem ahk:TyOk Tryz.prog 34 abh:=⟨⟨_,_,(by kernel_rfl:Tryz.prog.info? 34=some Tryz.t34),rfl,rfl,rfl,rfl,rfl,rfl⟩,Tryz.underlying34⟩
theorem ahl:TyOk Tryz.prog 35 abi:=⟨⟨_,_,(by kernel_rfl:Tryz.prog.info? 35=some Tryz.t35),rfl,rfl,rfl,rfl,rfl,rfl⟩,Tryz.underlying35⟩
theorem ahm:TyOk Tryz.prog 45 abj:=⟨⟨_,_,(by kernel_rfl:Tryz.prog.info? 45=some Tryz.t45),rfl,rfl,rfl,rfl,rfl,rfl⟩,Tryz.underlying45⟩
theorem ahn:TyOk Tryz.prog 53 abk:=⟨⟨_,_,(by kernel_rfl:Tryz.prog.info? 53=some Tryz.t53),rfl,rfl,rfl,rfl,rfl,rfl⟩,Tryz.underlying53⟩
theorem aho:TyOk Tryz.prog 64 abl:=⟨⟨_,_,(by kernel_rfl:Tryz.prog.info? 64=some Tryz.t64),rfl,rfl,rfl,rfl,rfl,rfl⟩,⟨_,Tryz.underlying64,rfl⟩⟩
theorem ahp:TyOk Tryz.prog 67 abm:=⟨⟨_,_,(by kernel_rfl:Tryz.prog.info? 67=some Tryz.t67),rfl,rfl,rfl,rfl,rfl,rfl⟩,Tryz.underlying67⟩
theorem ahq:TyOk Tryz.prog 69 abn:=⟨⟨_,_,(by kernel_rfl:Tryz.prog.info? 69=some Tryz.t69),rfl,rfl,rfl,rfl,rfl,rfl⟩,
 ⟨_,Tryz.underlying69,rfl,fun j f fd h1 h2=>match j,f,fd,h1,h2 with
  | 0,_,_,rfl,rfl=>⟨rfl,by decide,_,_,(by kernel_rfl:Tryz.prog.info? 67=some Tryz.t67),rfl,Tryz.underlying67,rfl⟩
  | 1,_,_,rfl,rfl=>⟨rfl,by decide,_,_,(by kernel_rfl:Tryz.prog.info? 27=some Tryz.t27),rfl,Tryz.underlying27,rfl⟩
  | j+2,_,_,h,_=>by simp at h⟩⟩
theorem ahr:TyOk Tryz.prog 70 abo:=⟨⟨_,_,(by kernel_rfl:Tryz.prog.info? 70=some Tryz.t70),rfl,rfl,rfl,rfl,rfl,rfl⟩,Tryz.underlying70⟩
theorem ahs:TyOk Tryz.prog 73 abp:=⟨⟨_,_,(by kernel_rfl:Tryz.prog.info? 73=some Tryz.t73),rfl,rfl,rfl,rfl,rfl,rfl⟩,
 ⟨_,Tryz.underlying73,rfl,fun j f fd h1 h2=>match j,f,fd,h1,h2 with
  | 0,_,_,rfl,rfl=>⟨rfl,by decide,_,_,(by kernel_rfl:Tryz.prog.info? 70=some Tryz.t70),rfl,Tryz.underlying70,rfl⟩
  | 1,_,_,rfl,rfl=>⟨rfl,by decide,_,_,(by kernel_rfl:Tryz.prog.info? 35=some Tryz.t35),rfl,Tryz.underlying35,rfl⟩
  | j+2,_,_,h,_=>by simp at h⟩⟩
theorem aht:TyOk Tryz.prog 86 abq:=⟨⟨_,_,(by kernel_rfl:Tryz.prog.info? 86=some Tryz.t86),rfl,rfl,rfl,rfl,rfl,rfl⟩,
 ⟨_,Tryz.underlying86,rfl,fun j f fd h1 h2=>match j,f,fd,h1,h2 with
  | 0,_,_,rfl,rfl=>⟨rfl,by decide,_,_,(by kernel_rfl:Tryz.prog.info? 22=some Tryz.t22),rfl,Tryz.underlying22,rfl⟩
  | 1,_,_,rfl,rfl=>⟨rfl,by decide,_,_,(by kernel_rfl:Tryz.prog.info? 3=some Tryz.t3),rfl,Tryz.underlying3,rfl⟩
  | 2,_,_,rfl,rfl=>⟨rfl,by decide,_,_,(by kernel_rfl:Tryz.prog.info? 3=some Tryz.t3),rfl,Tryz.underlying3,rfl⟩
  | j+3,_,_,h,_=>by simp at h⟩⟩
theorem ahu:TyOk Tryz.prog 92 abr:=⟨⟨_,_,(by kernel_rfl:Tryz.prog.info? 92=some Tryz.t92),rfl,rfl,rfl,rfl,rfl,rfl⟩,⟨_,Tryz.underlying92,rfl⟩⟩
theorem abT:TyOk Tryz.prog 104 VO:=⟨⟨_,_,(by kernel_rfl:Tryz.prog.info? 104=some Tryz.t104),rfl,rfl,rfl,rfl,rfl,rfl⟩,Tryz.underlying104⟩
theorem abU:TyOk Tryz.prog 115 VP:=⟨⟨_,_,(by kernel_rfl:Tryz.prog.info? 115=some Tryz.t115),rfl,rfl,rfl,rfl,rfl,rfl⟩,Tryz.underlying115⟩
theorem abV:TyOk Tryz.prog 137 VQ:=⟨⟨_,_,(by kernel_rfl:Tryz.prog.info? 137=some Tryz.t137),rfl,rfl,rfl,rfl,rfl,rfl⟩,
 ⟨_,Tryz.underlying137,rfl,fun j f fd h1 h2=>match j,f,fd,h1,h2 with
  | 0,_,_,rfl,rfl=>⟨rfl,by decide,_,_,(by kernel_rfl:Tryz.prog.info? 4=some Tryz.t4),rfl,Tryz.underlying4,rfl⟩
  | j+1,_,_,h,_=>by simp at h⟩⟩
theorem abW:TyOk Tryz.prog 139 VR:=⟨⟨_,_,(by kernel_rfl:Tryz.prog.info? 139=some Tryz.t139),rfl,rfl,rfl,rfl,rfl,rfl⟩,
 ⟨_,Tryz.underlying139,rfl,fun j f fd h1 h2=>match j,f,fd,h1,h2 with
  | 0,_,_,rfl,rfl=>⟨rfl,by decide,_,_,(by kernel_rfl:Tryz.prog.info? 25=some Tryz.t25),rfl,Tryz.underlying25,rfl⟩
  | 1,_,_,rfl,rfl=>⟨rfl,by decide,_,_,(by kernel_rfl:Tryz.prog.info? 25=some Tryz.t25),rfl,Tryz.underlying25,rfl⟩
  | j+2,_,_,h,_=>by simp at h⟩⟩
theorem abX:TyOk Tryz.prog 141 VS:=⟨⟨_,_,(by kernel_rfl:Tryz.prog.info? 141=some Tryz.t141),rfl,rfl,rfl,rfl,rfl,rfl⟩,
 ⟨_,Tryz.underlying141,rfl,fun j f fd h1 h2=>match j,f,fd,h1,h2 with
  | 0,_,_,rfl,rfl=>⟨rfl,by decide,_,_,(by kernel_rfl:Tryz.prog.info? 137=some Tryz.t137),rfl,Tryz.underlying137,rfl⟩
  | 1,_,_,rfl,rfl=>⟨rfl,by decide,_,_,(by kernel_rfl:Tryz.prog.info? 139=some Tryz.t139),rfl,Tryz.underlying139,rfl⟩
  | j+2,_,_,h,_=>by simp at h⟩⟩
theorem abY:TyOk Tryz.prog 151 VT:=⟨⟨_,_,(by kernel_rfl:Tryz.prog.info? 151=some Tryz.t151),rfl,rfl,rfl,rfl,rfl,rfl⟩,Tryz.underlying151⟩
theorem abZ:TyOk Tryz.prog 152 VU:=⟨⟨_,_,(by kernel_rfl:Tryz.prog.info? 152=some Tryz.t152),rfl,rfl,rfl,rfl,rfl,rfl⟩,Tryz.underlying152⟩
theorem ab0:TyOk Tryz.prog 153 VV:=⟨⟨_,_,(by kernel_rfl:Tryz.prog.info? 153=some Tryz.t153),rfl,rfl,rfl,rfl,rfl,rfl⟩,Tryz.underlying153⟩
theorem ab1:TyOk Tryz.prog 160 VW:=⟨⟨_,_,(by kernel_rfl:Tryz.prog.info? 160=some Tryz.t160),rfl,rfl,rfl,rfl,rfl,rfl⟩,⟨_,Tryz.underlying160,rfl⟩⟩
theorem ab2:TyOk Tryz.prog 164 VX:=⟨⟨_,_,(by kernel_rfl:Tryz.prog.info? 164=some Tryz.t164),rfl,rfl,rfl,rfl,rfl,rfl⟩,Tryz.underlying164⟩
theorem ab3:TyOk Tryz.prog 170 VY:=⟨⟨_,_,(by kernel_rfl:Tryz.prog.info? 170=some Tryz.t170),rfl,rfl,rfl,rfl,rfl,rfl⟩,⟨_,Tryz.underlying170,rfl⟩⟩
theorem ab4:TyOk Tryz.prog 173 VZ:=⟨⟨_,_,(by kernel_rfl:Tryz.prog.info? 173=some Tryz.t173),rfl,rfl,rfl,rfl,rfl,rfl⟩,Tryz.underlying173⟩
theorem ab5:TyOk Tryz.prog 178 V0:=⟨⟨_,_,(by kernel_rfl:Tryz.prog.info? 178=some Tryz.t178),rfl,rfl,rfl,rfl,rfl,rfl⟩,
 W_ Tryz.underlying178 (by kernel_rfl:Tryz.prog.info? 27=some Tryz.t27) rfl rfl aia ⟨Tryz.underlying67,by simp[Program.plainKey,Tryz.underlying3],by kernel_rfl,by kernel_rfl⟩ Tryz.underlying3 ⟨280,by kernel_rfl⟩⟩
theorem ab6:TyOk Tryz.prog 179 V1:=⟨⟨_,_,(by kernel_rfl:Tryz.prog.info? 179=some Tryz.t179),rfl,rfl,rfl,rfl,rfl,rfl⟩,Tryz.underlying179⟩
theorem ab7:TyOk Tryz.prog 182 V2:=⟨⟨_,_,(by kernel_rfl:Tryz.prog.info? 182=some Tryz.t182),rfl,rfl,rfl,rfl,rfl,rfl⟩,⟨_,Tryz.underlying182,rfl⟩⟩
theorem ab8:TyOk Tryz.prog 184 V3:=⟨⟨_,_,(by kernel_rfl:Tryz.prog.info? 184=some Tryz.t184),rfl,rfl,rfl,rfl,rfl,rfl⟩,
 ⟨_,Tryz.underlying184,rfl,fun j f fd h1 h2=>match j,f,fd,h1,h2 with
  | 0,_,_,rfl,rfl=>⟨rfl,by decide,_,_,(by kernel_rfl:Tryz.prog.info? 4=some Tryz.t4),rfl,Tryz.underlying4,rfl⟩
  | j+1,_,_,h,_=>by simp at h⟩⟩
theorem ab9:TyOk Tryz.prog 193 V4:=⟨⟨_,_,(by kernel_rfl:Tryz.prog.info? 193=some Tryz.t193),rfl,rfl,rfl,rfl,rfl,rfl⟩,Tryz.underlying193⟩
theorem aca:TyOk Tryz.prog 202 V5:=⟨⟨_,_,(by kernel_rfl:Tryz.prog.info? 202=some Tryz.t202),rfl,rfl,rfl,rfl,rfl,rfl⟩,⟨_,Tryz.underlying202,rfl⟩⟩
theorem acb:TyOk Tryz.prog 216 V6:=⟨⟨_,_,(by kernel_rfl:Tryz.prog.info? 216=some Tryz.t216),rfl,rfl,rfl,rfl,rfl,rfl⟩,
 W_ Tryz.underlying216 (by kernel_rfl:Tryz.prog.info? 3=some Tryz.t3) rfl rfl aib ⟨Tryz.underlying67,by simp[Program.plainKey,Tryz.underlying3],by kernel_rfl,by kernel_rfl⟩ Tryz.underlying3 ⟨280,by kernel_rfl⟩⟩
theorem acd:TyOk Tryz.prog 219 V7:=⟨⟨_,_,(by kernel_rfl:Tryz.prog.info? 219=some Tryz.t219),rfl,rfl,rfl,rfl,rfl,rfl⟩,⟨_,Tryz.underlying219,rfl⟩⟩
theorem ace:TyOk Tryz.prog 221 V8:=⟨⟨_,_,(by kernel_rfl:Tryz.prog.info? 221=some Tryz.t221),rfl,rfl,rfl,rfl,rfl,rfl⟩,
 ⟨_,Tryz.underlying221,rfl,fun j f fd h1 h2=>match j,f,fd,h1,h2 with
  | 0,_,_,rfl,rfl=>⟨rfl,by decide,_,_,(by kernel_rfl:Tryz.prog.info? 3=some Tryz.t3),rfl,Tryz.underlying3,rfl⟩
  | j+1,_,_,h,_=>by simp at h⟩⟩
theorem acf:TyOk Tryz.prog 229 V9:=⟨⟨_,_,(by kernel_rfl:Tryz.prog.info? 229=some Tryz.t229),rfl,rfl,rfl,rfl,rfl,rfl⟩,Tryz.underlying229⟩
theorem acg:TyOk Tryz.prog 247 V_:=⟨⟨_,_,(by kernel_rfl:Tryz.prog.info? 247=some Tryz.t247),rfl,rfl,rfl,rfl,rfl,rfl⟩,Tryz.underlying247⟩
theorem ach:TyOk Tryz.prog 251 V':=⟨⟨_,_,(by kernel_rfl:Tryz.prog.info? 251=some Tryz.t251),rfl,rfl,rfl,rfl,rfl,rfl⟩,⟨_,Tryz.underlying251,rfl⟩⟩
theorem aci:TyOk Tryz.prog 255 Wa:=⟨⟨_,_,(by kernel_rfl:Tryz.prog.info? 255=some Tryz.t255),rfl,rfl,rfl,rfl,rfl,rfl⟩,⟨_,Tryz.underlying255,rfl⟩⟩
theorem JK:cx Tryz.prog tab:=by
 refine QQ (fun e he=>?_);simp only[tab,w7,List.not_mem_nil,or_false] at he;rcases he with rfl | rfl | rfl | rfl | rfl | rfl | rfl | rfl | rfl | rfl | rfl | rfl | rfl | rfl | rfl | rfl | rfl | rfl | rfl | rfl | rfl | rfl | rfl | rfl | rfl | rfl | rfl | rfl | rfl | rfl | rfl | rfl | rfl | rfl | rfl | rfl | rfl | rfl | rfl | rfl | rfl | rfl | rfl | rfl | rfl | rfl | rfl
 .exact ok3
 .exact ok4
 .exact ok5
 .exact ok9
 .exact ahd
 .exact ahe
 .exact ahf
 .exact ahg
 .exact ahh
 .exact ahi
 .exact ahj
 .exact ahk
 .exact ahl
 .exact ahm
 .exact ahn
 .exact aho
 .exact ahp
 .exact ahq
 .exact ahr
 .exact ahs
 .exact aht
 .exact ahu
 .exact abT
 .exact abU
 .exact abV
 .exact abW
 .exact abX
 .exact abY
 .exact abZ
 .exact ab0
 .exact ab1
 .exact ab2
 .exact ab3
 .exact ab4
 .exact ab5
 .exact ab6
 .exact ab7
 .exact ab8
 .exact ab9
 .exact aca
 .exact acb
 .exact acd
 .exact ace
 .exact acf
 .exact acg
 .exact ach
 exact aci
theorem JL:Tryz.prog.follows .mixedOrders=true:=by kernel_rfl
theorem dq {k:FuncId} {fn:Func} (hf:Tryz.prog.funcs[k]?=some fn) (n m:Nat) {cd:Code} {H0:List Ob} {args:List PV} {H1:List Ob} {res:PV} {rs:List ResultVar} {env:List PV}
 (h:WA Tryz.prog tab m cd ⟨env,H0⟩ (UG tab rs m H1 res) ⟨⟩) (hb:fn.body=some cd:=by exact rfl) (lj:(fn.name== "runtime.NumGoroutine")=false:=by decide) (hr:fn.results=List.toArray rs:=by exact rfl) (hn:fn.ntmps - args.length=n:=by exact rfl) (he:args++replicate n .any=env:=by exact rfl) (zr:H0.length=m:=by exact rfl):Den Tryz.prog k H0 args H1 res:=I7 JK JL hf hb lj hr hn he zr h
theorem Wb {k:FuncId} {fn:Func} (hf:Tryz.prog.funcs[k]?=some fn) (n m:Nat) {cd:Code} {H0:List Ob} {args:List PV} {R:List Ob->PV->Prop} {rs:List ResultVar} {env:List PV}
 (h:WA Tryz.prog tab m cd ⟨env,H0⟩ (UJ tab rs m R) ⟨⟩) (hb:fn.body=some cd:=by exact rfl) (lj:(fn.name== "runtime.NumGoroutine")=false:=by decide) (hr:fn.results=List.toArray rs:=by exact rfl) (hn:fn.ntmps - args.length=n:=by exact rfl) (he:args++replicate n .any=env:=by exact rfl) (zr:H0.length=m:=by exact rfl): ∃ H1 res,R H1 res/\Den Tryz.prog k H0 args H1 res:=Ru JK JL hf hb lj hr hn he zr h
end Go.Proofs.YtjjbkjgifdhlcaaGreat
namespace Go.Pl
abbrev B:Nat:=4294967296
def val:List Nat->Nat
 | []=>0
 | d::l=>d+B*val l
def Dig (l:List Nat):Prop:= ∀ d∈l,d<B
theorem Dig.nil:Dig []:=by simp[Dig]
theorem Dig.cons {d:Nat} {l:List Nat} (h:Dig (d::l)):d<B/\Dig l:=⟨h d (by simp),fun x hx=>h x (by simp[hx])⟩
theorem Dig.mk {d:Nat} {l:List Nat} (h:d<B) (k:Dig l):Dig (d::l):=fun x hx=>by
 simp only[w7] at hx;rcases hx with rfl | hx
 .exact h
 exact k x hx
theorem Dig.take {l:List Nat} (h:Dig l) (n:Nat):Dig (l.take n):=fun d hd=>h d (AY hd)
theorem Dig.drop {l:List Nat} (h:Dig l) (n:Nat):Dig (l.drop n):=fun d hd=>h d (VN hd)
theorem Dig.app {l k:List Nat} (h:Dig l) (h2:Dig k):Dig (l++k):=fun d hd=>by
 rcases List.mem_append.1 hd with hd | hd
 .exact h d hd
 exact h2 d hd
theorem Dig.set {l:List Nat} (h:Dig l) (i:Nat) {x:Nat} (hx:x<B):Dig (l.set i x):=fun d hd=>by
 rcases List.mem_or_eq_of_mem_set hd with hd | rfl
 .exact h d hd
 exact hx
theorem Dig.getD {l:List Nat} (h:Dig l) (i:Nat):l.getD i 0<B:=by
 by_cases hi:i<l.length
 .have:l.getD i 0=l[i]:=by simp[hi]
  rw[this];exact h _ (ki hi)
 have:l.getD i 0=0:=by simp[hi]
 rw[this];decide
theorem Dig.zeros {n:Nat}:Dig (replicate n 0):=fun d hd=>by
 rw[List.eq_of_mem_replicate hd];decide
theorem rF (l k:List Nat):val (l++k)=val l+B^l.length*val k:=by
 induction l with
 | nil=>simp[val]
 | cons d l ih=>
  simp only[List.cons_append,val,ih,length_cons,Nat.pow_succ];rw[Nat.mul_add,<-Nat.mul_assoc,Nat.mul_comm B (B^l.length),Nat.add_assoc]
theorem bG {l:List Nat} (h:Dig l):val l<B^l.length:=by
 induction l with
 | nil=>simp[val]
 | cons d l ih=>
  obtain⟨h1,h2⟩:=h.cons;have:=ih h2;simp only[val,length_cons,Nat.pow_succ];have h3:val l+1<=B^l.length:=this;have h4:(val l+1)*B<=B^l.length*B:=qn _ h3;rw[Nat.add_mul,Nat.mul_comm (val l) B] at h4;omega
theorem AZ (n:Nat):val (replicate n 0)=0:=by
 induction n with
 | zero=>rfl
 | succ n ih=>simp[List.replicate_succ,val,ih]
def ai (n:Nat):List Nat:=if _h:n=0 then [] else n % B::ai (n / B)
termination_by n
decreasing_by exact Nat.div_lt_self (by omega) (by decide)
theorem bB:ai 0=[]:=by rw[ai];simp
theorem pS {n:Nat} (h:n≠0):ai n=n % B::ai (n / B):=by rw[ai];simp[h]
theorem ao (n:Nat):Dig (ai n):=by
 induction n using Nat.strongRecOn with
 | _ n ih=>
  by_cases h:n=0
  .subst h;rw[bB];exact Dig.nil
  rw[pS h];exact Dig.mk (Nat.mod_lt _ (by decide)) (ih _ (Nat.div_lt_self (by omega) (by decide)))
theorem aj (n:Nat):val (ai n)=n:=by
 induction n using Nat.strongRecOn with
 | _ n ih=>
  by_cases h:n=0
  .subst h;rw[bB];rfl
  rw[pS h];simp only[val];rw[ih _ (Nat.div_lt_self (by omega) (by decide))];exact Nat.mod_add_div n B
def kT (l:List Nat):List Nat:=if h:0<l.length then(if l.getD (l.length - 1) 0=0 then kT (l.take (l.length - 1)) else l) else l
termination_by l.length
decreasing_by simp[length_take];omega
theorem q6 {d:Nat} {l:List Nat} (hd:d<B) (h:d≠0\/val l≠0):ai (val (d::l))=d::ai (val l):=by
 have cX:val (d::l)≠0:=by
  simp only[val];rcases h with h | h
  .omega
  have:0<B*val l:=Nat.mul_pos (by decide) (by omega);omega
 rw[pS cX];have h1:(d+B*val l) % B=d:=by rw[Nat.add_mul_mod_self_left,Nat.mod_eq_of_lt hd]
 have h2:(d+B*val l) / B=val l:=by rw[Nat.add_mul_div_left _ _ (by decide),Nat.div_eq_of_lt hd,Nat.zero_add]
 simp only[val,h1,h2]
theorem mg {l:List Nat} (hd:Dig l) (h:l=[]\/l.getD (l.length - 1) 0≠0):ai (val l)=l:=by
 induction l with
 | nil=>exact bB
 | cons d l ih=>
  obtain⟨h1,h2⟩:=hd.cons;rcases h with h | h
  .cases h
  by_cases hl:l=[]
  .subst hl;simp at h;rw[q6 h1 (.inl h)];simp[val,bB]
  obtain⟨e,k,rfl⟩:=List.exists_cons_of_ne_nil hl;have h3:(e::k).getD ((e::k).length - 1) 0≠0:=by
   simpa using h
  have h4:=ih h2 (.inr h3);have h5:val (e::k)≠0:=by
   intro h0;rw[h0,bB] at h4;cases h4
  rw[q6 h1 (.inr h5),h4]
theorem sE (l:List Nat) (hd:Dig l):kT l=ai (val l):=by
 generalize hn:l.length=n
 induction n generalizing l with
 | zero=>
  have:=List.eq_nil_of_length_eq_zero hn;subst this;rw[kT];simp[val,bB]
 | succ n ih=>
  rw[kT,dif_pos (by omega)];split
  .rename_i h0;rw[ih _ (hd.take _) (by simp[hn])];have:l=l.take (l.length - 1)++[0]:=by
    have h1:l.drop (l.length - 1)=[0]:=by
     have aH:l.length - 1<l.length:=by omega
     rw[drop_eq_getElem_cons aH];have h2:l.getD (l.length - 1) 0=l[l.length - 1]:=by simp[aH]
     rw[<-h2,h0];simp;omega
    conv=>lhs;rw[<-List.take_append_drop (l.length - 1) l,h1]
   conv=>rhs;rw[this,rF]
   simp[val]
  rename_i h0;exact(mg hd (.inr h0)).symm
theorem aA {n k:Nat} (h:n<B^k):(ai n).length<=k:=by
 induction k generalizing n with
 | zero=>
  have:n=0:=by simpa using h
  subst this;rw[bB];simp
 | succ k ih=>
  by_cases h0:n=0
  .subst h0;rw[bB];simp
  rw[pS h0,length_cons];have:n / B<B^k:=by
   rw[Nat.div_lt_iff_lt_mul (by decide)];rw[Nat.pow_succ] at h;exact h
  have:=ih this;omega
theorem bJ {n:Nat}:n<B^(ai n).length:=by
 have:=bG (ao n);rwa [aj] at this
theorem aJ (l:List Nat) (i:Nat):val (l.take (i+1))=val (l.take i)+B^i*l.getD i 0:=by
 by_cases hi:i<l.length
 .rw[List.take_succ_eq_append_getElem hi,rF];have h1:l.getD i 0=l[i]:=by simp[hi]
  have h2:(l.take i).length=i:=by rw[length_take];omega
  rw[h1,h2];simp[val]
 rw[eo (by omega),eo (by omega)];have h1:l.getD i 0=0:=by simp[hi]
 rw[h1];simp
theorem cy {l:List Nat} {i:Nat} (hi:i<l.length) (x:Nat):val ((l.set i x).take (i+1))=val (l.take i)+B^i*x:=by
 rw[aJ];have h1:(l.set i x).take i=l.take i:=by rw[List.take_set_of_le (qp i)]
 have h2:(l.set i x).getD i 0=x:=by simp[hi]
 rw[h1,h2]
theorem aQ {l:List Nat} {n:Nat} (h:l.length<=n):val (l.take n)=val l:=by rw[eo h]
theorem kj (p s:Nat):p*(s % B)+s / B*(p*B)=p*s:=by
 conv=>rhs;rw[<-Nat.mod_add_div s B]
 rw[Nat.mul_add,<-Nat.mul_assoc p B,Nat.mul_comm (s / B) (p*B)]
theorem jM {x y:Nat} (h:(ai x).length<(ai y).length):x<y:=by
 rcases Nat.lt_or_ge x y with h1 | h1
 .exact h1
 have h2:y<B^(ai x).length:=Hw h1 bJ;have:=aA h2;omega
theorem jg (l:List Nat) (k:Nat) (hk:k<=l.length):val l=val (l.take k)+B^k*val (l.drop k):=by
 conv=>lhs;rw[<-List.take_append_drop k l,rF]
 rw[length_take,Nat.min_eq_left hk]
theorem sF {p q:List Nat} {j:Nat} (hp:Dig p) (hjp:j<p.length) (hjq:j<q.length) (hd:p.drop (j+1)=q.drop (j+1)) (h:p.getD j 0<q.getD j 0):val p<val q:=by
 rw[jg p (j+1) (by omega),jg q (j+1) (by omega),hd,aJ,aJ];have h1:=bG (hp.take j);rw[length_take,Nat.min_eq_left (by omega)] at h1;have h2:B^j*(p.getD j 0+1)<=B^j*q.getD j 0:=Nat.mul_le_mul_left _ h;rw[Nat.mul_add] at h2;omega
def oA (x y:Nat):Int:=if x<y then -1 else if y<x then 1 else 0
theorem pT {x y:Nat} (h:x<y):oA x y= -1:=by simp[oA,h]
theorem wA {x y:Nat} (h:y<x):oA x y=1:=by simp[oA,h];omega
theorem JM {x:Nat}:oA x x=0:=by simp[oA]
def N (n:Nat):AM.FV:= .sl (AM.u32s (ai n))
end Go.Pl
namespace Go.Proofs.YtjjbkjgifdhlcaaGreat
open Go.AM Go.Pl
set_option maxRecDepth 100000
set_option maxHeartbeats 1000000
theorem iu (l:List Nat) (hd:Dig l) (hl:l.length<1000000000000):Den Tryz.prog 178 [] [.fv (.sl (u32s l))] [] (.fv (N (val l))):=by
 refine dq Tryz.func178 20 0 ?_;refine aY ?_;refine wl (α:=List Nat) (fun l=>⟨.fv (.sl (u32s l)):: .any:: .nilsl::replicate 18 .any,[]⟩) List.length (fun k=>k.length<1000000000000/\kT k=kT l) l ?_ ?_ ?_
 .refine wk [] List.nodup_nil rfl ?_ ?_
  .simp[bk,dV,cC]
  trivial
 .exact⟨hl,rfl⟩
 rintro k ⟨hk,oE⟩;refine ba ?_;refine bS ?_ ?_
 .intro h1 h2;refine ae h2 ?_;refine⟨by omega,?_⟩;refine Br.beqInt ?_ ?_
  .intro h3 h4;refine ae h4 ?_;refine⟨by omega,?_⟩;refine ap (k.take (k.length - 1)) (by simp;omega) ?_ ⟨by simp;omega,?_⟩
   .refine wk [] List.nodup_nil rfl ?_ ?_
    .have:((k.length:Int) - 1).toNat=k.length - 1:=by omega
     simp[bk,dV,cC,this]
    trivial
   rw[<-oE];rw[kT.eq_def k,dif_pos (by omega),if_pos];have:((k.length:Int) - 1).toNat=k.length - 1:=by omega
   rw[this] at h3;simpa using h3
  intro h3 h4;refine ae h4 ?_;refine bj ?_;simp(disch:=omega) only[N,St.get,tL,cM,zc,t_,fS,fB,Option.map_some,qk,getD_cons_zero];rw[<-sE l hd,<-oE,kT.eq_def,dif_pos (by omega),if_neg];have:((k.length:Int) - 1).toNat=k.length - 1:=by omega
  rw[this] at h3;simpa using h3
 intro h1 h2;refine ae h2 ?_;refine bj ?_;simp(disch:=omega) only[N,St.get,tL,cM,zc,t_,fS,fB,Option.map_some,qk,getD_cons_zero];rw[<-sE l hd,<-oE,kT.eq_def,dif_neg (by omega)]
theorem Wc (xs:List (List FV)) (hs: ∀ y∈xs,y.length=1) (hl:xs.length<1000000000000):Den Tryz.prog 214 [] [.fv (.sl xs)] [] (.fv (.sl xs)):=by
 cases xs with
 | nil=>
  refine Den.empty (pre:=[]) (post:=[]) ?_ (fun ad cap=>?_)
  .refine dq Tryz.func214 7 0 ?_;refine aY ?_;refine bj ?_;exact Hh
  .refine dq Tryz.func214 7 0 ?_;refine aY ?_;refine bj ?_;exact Hh
 | cons x xs=>
  refine dq Tryz.func214 7 0 ?_;refine aY ?_;refine⟨⟨hs,by simp only[length_cons] at hl;omega⟩,?_⟩;refine bj ?_;refine qR ?_;simp
theorem JN (a b c:Nat) (ha:a<4294967296) (hb:b<4294967296) (hc:c<=1):Den Tryz.prog 180 [] [.int .u32 a,.int .u32 b,.int .u32 c] [] (.tup [.int .u32 ((a+b+c) % 4294967296:Nat),.int .u32 ((a+b+c) / 4294967296:Nat)]):=by
 refine dq Tryz.func180 19 0 ?_;refine aY ?_;refine⟨by omega,?_⟩;refine bj ?_;refine qR ?_;simp[dC]
theorem acj (a b:Nat) (ha:a<4294967296) (hb:b<4294967296):Den Tryz.prog 179 [] [.int .u32 a,.int .u32 b] [] (.tup [.int .u32 ((a*b) / 4294967296:Nat),.int .u32 ((a*b) % 4294967296:Nat)]):=by
 have hm:a*b<18446744073709551616:=by
  have:a*b<=4294967295*4294967295:=Nat.mul_le_mul (by omega) (by omega);omega
 have lr:(a:Int)*b=((a*b:Nat):Int):=by simp
 refine dq Tryz.func179 15 0 ?_;refine bU lr ?_;refine⟨by omega,?_⟩;refine bj ?_;refine qR ?_;simp[dC]
theorem ack (a b:List Nat) (ha:Dig a) (hb:Dig b) (wm:a.length<100000000000) (wT:b.length<100000000000):Den Tryz.prog 175 [] [.fv (.sl (u32s a)),.fv (.sl (u32s b))] [] (.fv (N (val a+val b))):=by
 refine dq Tryz.func175 52 0 ?_;refine WA.assoc ?_;refine WA.cut (α:=List Nat×List Nat×List PV) (fun⟨p,q,z⟩=>⟨.fv (.sl (u32s p)):: .fv (.sl (u32s q)):: .any:: .any:: .nilsl:: .any:: .any:: .any:: .any:: .any::(z++replicate 37 .any),[]⟩)
  (fun⟨p,q,z⟩=>Dig p/\Dig q/\q.length<=p.length/\p.length<100000000000/\val p+val q=val a+val b/\z.length=7) ?_ ?_
 .refine aY ?_;refine bS ?_ ?_
  .intro h1 h2;refine ae h2 ?_;refine Mid.mk (b,a,[_,_,_,_,_,_,_]) rfl ⟨hb,ha,by dsimp only;omega,wT,by dsimp only;omega,rfl⟩
  intro h1 h2;refine ae h2 ?_;refine Mid.mk (a,b,[_,_,_,_,_,_,_]) rfl ⟨ha,hb,by dsimp only;omega,wm,rfl,rfl⟩
 rintro⟨p,q,z⟩ ⟨hp,hq,aD,UK,hv,hz⟩;obtain⟨z0,z1,z2,z3,z4,z5,z6,rfl⟩: ∃ z0 z1 z2 z3 z4 z5 z6,z=[z0,z1,z2,z3,z4,z5,z6]:=by
  match z,hz with
  | [z0,z1,z2,z3,z4,z5,z6],_=>exact⟨_,_,_,_,_,_,_,rfl⟩
 refine aY ?_;refine⟨by omega,?_⟩;have hn:((p.length:Int)+1).toNat=p.length+1:=by omega
 refine wl (α:=Nat×Nat×List Nat) (fun⟨i,c,out⟩=>⟨.fv (.sl (u32s p)):: .fv (.sl (u32s q)):: .any:: .any:: .nilsl:: .lsl 0 0 (p.length+1) 1:: .int .u32 c::(replicate 14 .any++ .fv (.sl (u32s p)):: .int .i64 p.length:: .int .i64 i::replicate 30 .any),[.row true (u32s out)]⟩)
  (fun⟨i,_,_⟩=>p.length - i)
  (fun⟨i,c,out⟩=>i<=p.length/\c<=1/\out.length=p.length+1/\Dig out/\val (out.take i)+c*B^i=val (p.take i)+val (q.take i)) (0,0,replicate (p.length+1) 0) ?_ ?_ ?_
 .refine eS [0] ?_ ?_
  .simp[bk,dV,cC,hn]
  simp[et,fK,hn]
 .exact⟨by omega,by omega,by simp,Dig.zeros,by simp[val]⟩
 rintro⟨i,c,out⟩ ⟨hi,hc,ho,hd,mY⟩;refine aY ?_;refine bS ?_ ?_
 .intro h1 h2;refine ae h2 ?_;refine⟨by omega,?_⟩;have So:=hp.getD i;have Sp:=hq.getD i;have bM:=cy (l:=out) (i:=i) (by omega) ((p.getD i 0+q.getD i 0+c) % 4294967296);have eR:=kj (B^i) (p.getD i 0+q.getD i 0+c);have UL:=aJ p i;have Y9:=aJ q i;have dh:val ((out.set i ((p.getD i 0+q.getD i 0+c) % 4294967296)).take (i+1))+(p.getD i 0+q.getD i 0+c) / 4294967296*B^(i+1)=val (p.take (i+1))+val (q.take (i+1)):=by
   rw[Nat.pow_succ,bM,UL,Y9];rw[Nat.mul_add,Nat.mul_add] at eR;rw[Nat.mul_comm (B^i) c] at eR;simp only[B] at*;omega
  have oG:Dig (out.set i ((p.getD i 0+q.getD i 0+c) % 4294967296)):=hd.set i (Nat.mod_lt _ (by decide));have oH:(p.getD i 0+q.getD i 0+c) / 4294967296<=1:=by simp only[B] at*;omega
  simp only[B] at So Sp;have fin: ∀ x:Int,x=((q.getD i 0:Nat):Int)->cw [Ob.row true (u32s out)] ([]++[PV.fv (FV.lit (Value.int IntKind.u32 ((p.getD i 0:Nat):Int))),PV.int IntKind.u32 x,PV.int IntKind.u32 (c:Int)]++[])=some [.int .u32 ((p.getD i 0:Nat):Int),.int .u32 ((q.getD i 0:Nat):Int),.int .u32 (c:Int)]:=by
   intro x hx;subst hx;rfl
  refine bS ?_ ?_
  .intro h3 h4;refine ae h4 ?_;refine⟨by omega,?_⟩;refine gp (JN _ _ _ So Sp hc) (fin _ rfl) ?_;refine ba ?_;refine⟨by omega,by omega,?_⟩;refine aw (i+1,(p.getD i 0+q.getD i 0+c) / 4294967296,out.set i ((p.getD i 0+q.getD i 0+c) % 4294967296)) ?_ ⟨by omega,oH,by simp[ho],oG,dh⟩;exact bQ [0]
  intro h3 h4;have h0:(0:Int)=((q.getD i 0:Nat):Int):=by
   have:q.getD i 0=0:=by rw[qa,List.getElem?_eq_none (by omega)];rfl
   rw[this];rfl
  refine ae h4 ?_;refine gp (JN _ _ _ So Sp hc) (fin _ h0) ?_;refine ba ?_;refine⟨by omega,by omega,?_⟩;refine aw (i+1,(p.getD i 0+q.getD i 0+c) / 4294967296,out.set i ((p.getD i 0+q.getD i 0+c) % 4294967296)) ?_ ⟨by omega,oH,by simp[ho],oG,dh⟩;exact bQ [0]
 intro h1 h2;refine ae h2 ?_;have UM:i=p.length:=by omega
 subst UM;refine⟨by omega,by omega,?_⟩;have N':val (out.set p.length c)=val a+val b:=by
  have h3:=cy (l:=out) (i:=p.length) (by omega) c;rw[aQ (by simp;omega)] at h3;rw[aQ (qp _),aQ aD] at mY;rw[h3,<-hv,<-mY,Nat.mul_comm]
 have hdf:Dig (out.set p.length c):=hd.set _ (by simp only[B];omega);refine gp (iu (out.set p.length c) hdf (by simp;omega)) ?_ ?_
 .simp[cw,gW,fS,fB,aM,ho];rw[eo (by simp[aM,ho])]
 refine ba ?_;refine bj ?_;refine qR ?_;rw[N']
end Go.Proofs.YtjjbkjgifdhlcaaGreat
namespace Go.Pl
open Go.AM
theorem Cu {x y:Nat} (k:Nat) (hx:x % 2^k=0) (hy:y<2^k):x||| y=x+y:=by
 obtain⟨h,rfl⟩: ∃ h,x=2^k*h:=⟨x / 2^k,by have:=Nat.mod_add_div x (2^k);omega⟩;exact(Nat.two_pow_add_eq_or_of_lt hy h).symm
theorem d4 {x:Int} (h:0<=x/\x<18446744073709551616):(BitVec.ofInt IntKind.u64.bits x).toNat=x.toNat:=by
 show(BitVec.ofInt 64 x).toNat=x.toNat;rw[BitVec.toNat_ofInt];have:((2^64:Nat):Int)=18446744073709551616:=by decide
 rw[this];omega
theorem q7 {x:Int} (h:0<=x/\x<4294967296):(BitVec.ofInt IntKind.u32.bits x).toNat=x.toNat:=by
 show(BitVec.ofInt 32 x).toNat=x.toNat;rw[BitVec.toNat_ofInt];have:((2^32:Nat):Int)=4294967296:=by decide
 rw[this];omega
theorem wB (z:BitVec IntKind.u64.bits):IntKind.u64.wrap (z.toNat:Int)=(z.toNat:Int):=by
 have:z.toNat<2^64:=z.isLt;rw[dI (by omega)]
theorem JO (z:BitVec IntKind.u32.bits):IntKind.u32.wrap (z.toNat:Int)=(z.toNat:Int):=by
 have:z.toNat<2^32:=z.isLt;rw[cV (by omega)]
theorem Ec {w:Nat} (z:BitVec w):BitVec.ofInt w (z.toNat:Int)=z:=by
 rw[BitVec.ofInt_natCast,BitVec.ofNat_toNat,BitVec.setWidth_eq]
theorem vy {x y:Int} (hx:0<=x/\x<18446744073709551616/\x % 4294967296=0) (hy:0<=y/\y<4294967296):
 IntKind.u64.wrap ((BitVec.ofInt IntKind.u64.bits x||| BitVec.ofInt IntKind.u64.bits y).toNat:Int)=x+y:=by
 rw[wB,BitVec.toNat_or,d4 (by omega),d4 (by omega),Cu 32 (by omega) (by omega)]
 omega
theorem Wd {x y:Int} (hy:0<=y/\y<18446744073709551616/\y % 4294967296=0) (hx:0<=x/\x<4294967296):
 IntKind.u64.wrap ((BitVec.ofInt IntKind.u64.bits x||| BitVec.ofInt IntKind.u64.bits y).toNat:Int)=x+y:=by
 rw[wB,BitVec.toNat_or,d4 (by omega),d4 (by omega),Nat.or_comm,Cu 32 (by omega) (by omega)]
 omega
theorem OA {x:Int} (hx:0<=x/\x<18446744073709551616):
 IntKind.u64.wrap ((BitVec.ofInt IntKind.u64.bits x&&& BitVec.ofInt IntKind.u64.bits 4294967295).toNat:Int)=x % 4294967296:=by
 rw[wB,BitVec.toNat_and,d4 (by omega),d4 (by omega)]
 have:(4294967295:Int).toNat=2^32 - 1:=by decide
 rw[this,Nat.and_two_pow_sub_one_eq_mod]
 omega
theorem acm (z:BitVec 32):z.toNat / 2147483648=if z.msb then 1 else 0:=by
 have h1:z.toNat<2^32:=z.isLt;rw[BitVec.msb_eq_decide];by_cases h:2^(32 - 1)<=z.toNat
 .simp only[h,decide_true,if_true];omega
 simp only[h,decide_false];simp;omega
theorem OB {v v0 P c x y o lo ca Q Bi Bk:Nat} (hP:P=Bi*Bk) (hv:v+c*P=v0+x*Q*Bi) (hs:lo+ca*4294967296=x*y+o+c):
 v+P*lo+ca*(P*4294967296)=v0+P*o+x*(Q+Bk*y)*Bi:=by
 subst hP
 grind
theorem LO {m o c:Nat} (hm:m<=18446744065119617025) (ho:o<4294967296) (hc:c<4294967296):
 ((m % 4294967296+o+0) % 4294967296+c+0) % 4294967296+(m / 4294967296+(m % 4294967296+o+0) / 4294967296+((m % 4294967296+o+0) % 4294967296+c+0) / 4294967296)*4294967296=m+o+c/\
 m / 4294967296+(m % 4294967296+o+0) / 4294967296+((m % 4294967296+o+0) % 4294967296+c+0) / 4294967296<4294967296:=by
 omega
theorem eD {l:List Nat} {j:Nat} (h:j<l.length):val (l.drop j)=l.getD j 0+B*val (l.drop (j+1)):=by
 rw[drop_eq_getElem_cons h];simp[val,h]
theorem m6 {l:List Nat} {j x:Nat} (h:j<l.length):val ((l.set j x).drop j)=x+B*val (l.drop (j+1)):=by
 rw[eD (by simpa using h)];have h1:(l.set j x).getD j 0=x:=by simp[h]
 rw[h1,List.drop_set_of_lt (by omega)]
theorem ahv {x y:Nat} (k:Nat) (hx:x<2^k) (hy:y % 2^k=0) (qS:x<4294967296) (vj:y<4294967296):
 IntKind.u32.wrap ((BitVec.ofInt IntKind.u32.bits (x:Int)||| BitVec.ofInt IntKind.u32.bits (y:Int)).toNat:Int)=((x+y:Nat):Int):=by
 rw[JO,BitVec.toNat_or,q7 (by omega),q7 (by omega),Int.toNat_natCast,Int.toNat_natCast,Nat.or_comm,Cu k hy hx,Nat.add_comm]
theorem Ed {d k:Nat} (hk:k<=32):(d*2^k) % 4294967296 % 2^k=0:=by
 have h:4294967296=2^k*2^(32 - k):=by
  rw[<-Nat.pow_add,show k+(32 - k)=32 by omega]
 rw[h,Nat.mod_mul_right_mod,Nat.mul_mod_left]
theorem Ee {a k:Nat} (hk:k<=32) (h:a % 2^k=0) (ha:a<4294967296):a+2^k<=4294967296:=by
 have hb:4294967296=2^k*2^(32 - k):=by
  rw[<-Nat.pow_add,show k+(32 - k)=32 by omega]
 obtain⟨t,rfl⟩: ∃ t,a=2^k*t:=⟨a / 2^k,by have:=Nat.mod_add_div a (2^k);omega⟩;have h1:2^k*t<2^k*2^(32 - k):=by rw[<-hb];exact ha
 have h2:t<2^(32 - k):=Nat.lt_of_mul_lt_mul_left h1;have h3:2^k*(t+1)<=2^k*2^(32 - k):=Nat.mul_le_mul_left _ h2;rw[Nat.mul_add,Nat.mul_one,<-hb] at h3;exact h3
def ij:Nat->Nat->List Nat
 | 0,_=>[]
 | n+1,x=>x % B::ij n (x / B)
theorem cD (n x:Nat):(ij n x).length=n:=by
 induction n generalizing x with
 | zero=>rfl
 | succ n ih=>simp[ij,ih]
theorem kn (n x:Nat):Dig (ij n x):=by
 induction n generalizing x with
 | zero=>exact Dig.nil
 | succ n ih=>exact Dig.mk (Nat.mod_lt _ (by decide)) (ih _)
theorem Cv {l:List Nat} (h:Dig l):l=ij l.length (val l):=by
 induction l with
 | nil=>rfl
 | cons d l ih=>
  obtain⟨h1,h2⟩:=h.cons;simp only[length_cons,ij,val];rw[Nat.add_mul_mod_self_left,Nat.mod_eq_of_lt h1,Nat.add_mul_div_left _ _ (by decide),Nat.div_eq_of_lt h1,Nat.zero_add,<-ih h2]
theorem ko {n x:Nat} (h:x<B^n):val (ij n x)=x:=by
 induction n generalizing x with
 | zero=>simp at h;subst h;rfl
 | succ n ih=>
  have h1:x / B<B^n:=by
   rw[Nat.div_lt_iff_lt_mul (by decide)];rw[Nat.pow_succ] at h;exact h
  simp only[ij,val];rw[ih h1];exact Nat.mod_add_div x B
theorem OC (a b c:Nat) (ha:a<4294967296) (hb:b<4294967296) (hc:c<=1):
 ((~~~(BitVec.ofNat 32 a)&&& BitVec.ofNat 32 b||| ~~~(BitVec.ofNat 32 a^^^BitVec.ofNat 32 b)&&& BitVec.ofNat 32 (4294967296+a - b - c)):BitVec 32).toNat / 2147483648=if a<b+c then 1 else 0:=by
 rw[acm]
 simp only[BitVec.msb_or,BitVec.msb_and,BitVec.msb_not,BitVec.msb_xor]
 simp only[BitVec.msb_eq_decide,BitVec.toNat_ofNat]
 have e1:a % 2^32=a:=Nat.mod_eq_of_lt (by omega)
 have e2:b % 2^32=b:=Nat.mod_eq_of_lt (by omega)
 rw[e1,e2]
 generalize hd:(4294967296+a - b - c) % 2^32=d
 by_cases h1:2^(32 - 1)<=a<;>by_cases h2:2^(32 - 1)<=b<;>by_cases h3:2^(32 - 1)<=d<;>by_cases h4:a<b+c<;>simp[h1,h2,h3,h4]<;>omega
theorem XH:(if IntKind.u32.signed=true then(-1:Int) else IntKind.u32.max)=4294967295:=by decide
theorem ahw (x:BitVec IntKind.u32.bits):BitVec.ofInt IntKind.u32.bits 4294967295^^^x= ~~~x:=by
 have:(BitVec.ofInt IntKind.u32.bits 4294967295)=BitVec.allOnes IntKind.u32.bits:=by decide
 rw[this,BitVec.allOnes_xor]
theorem XI (n:Nat):BitVec.ofInt IntKind.u32.bits (n:Int)=BitVec.ofNat IntKind.u32.bits n:=BitVec.ofInt_natCast _ _
end Go.Pl
namespace Go.Proofs.YtjjbkjgifdhlcaaGreat
open Go.AM Go.Pl
set_option maxRecDepth 100000
set_option maxHeartbeats 1000000
theorem bE (n:Nat):N n= .sl (u32s (ai n)):=rfl
theorem Ef (l:List Nat) (hd:Dig l) (hl:l.length<1000000000000):Den Tryz.prog 181 [] [.fv (.sl (u32s l))] [] (.fv (N (val l))):=by
 refine dq Tryz.func181 5 0 ?_;refine aY ?_;refine gp (iu l hd hl) rfl ?_;refine ba ?_;have hlv:(ai (val l)).length<=l.length:=aA (bG hd);refine gp (Wc (u32s (ai (val l))) (by simp[u32s]) (by simp[u32s];omega)) rfl ?_;refine ba ?_;refine bj ?_;simp(disch:=omega) only[N,St.get,tL,cM,zc,t_,fS,fB,Option.map_some,qk,getD_cons_zero]
theorem Eg (a b:List Nat) (ha:Dig a) (hb:Dig b) (wm:a.length<100000000000) (wT:b.length<100000000000):Den Tryz.prog 176 [] [.fv (.sl (u32s a)),.fv (.sl (u32s b))] [] (.int .i64 (oA (val a) (val b))):=by
 have hxa:(ai (val a)).length<=a.length:=aA (bG ha);have lA:(ai (val b)).length<=b.length:=aA (bG hb);have hda:=ao (val a);have UN:=ao (val b);refine dq Tryz.func176 45 0 ?_;refine aY ?_;refine gp (iu a ha (by omega)) rfl ?_;refine ba ?_;refine gp (iu b hb (by omega)) rfl ?_;refine ae @bE ?_;refine Br.bneInt ?_ ?_
 .intro h1 h2;refine ae h2 ?_;refine bS ?_ ?_
  .intro h3 h4;refine ae h4 ?_;refine bj ?_;refine qR ?_;rw[pT (jM (by omega))]
  intro h3 h4;refine ae h4 ?_;refine bj ?_;refine qR ?_;rw[wA (jM (by omega))]
 intro h1 h2;refine ae h2 ?_;generalize hp:ai (val a)=p at*;generalize hq:ai (val b)=q at*;refine wl (α:=Nat) (fun k=>⟨.fv (.sl (u32s p)):: .fv (.sl (u32s q)):: .any:: .any:: .int .i64 0:: .int .i64 ((k:Int) - 1)::replicate 41 .any,[]⟩) (fun k=>k) (fun k=>k<=p.length/\p.drop k=q.drop k) p.length ?_ ?_ ?_
 .exact bQ []
 .exact⟨qp _,by rw[List.drop_of_length_le (qp _),List.drop_of_length_le (by omega)]⟩
 rintro k ⟨hk,Nx⟩;refine aY ?_;refine bS ?_ ?_
 .intro h3 h4;refine ae h4 ?_;refine dw (by kernel_rfl) ?_;refine ba ?_;refine⟨by omega,by omega,?_⟩;obtain⟨j,rfl⟩: ∃ j,k=j+1:=⟨k - 1,by omega⟩;have hj:(((j+1:Nat):Int) - 1).toNat=j:=by omega
  rw[hj];have Ax:val p=val a:=by rw[<-hp,aj]
  have Ln:val q=val b:=by rw[<-hq,aj]
  refine bS ?_ ?_
  .intro h5 h6;refine ae h6 ?_;refine bj ?_;refine qR ?_;rw[<-Ax,<-Ln,pT (sF hda (by omega) (by omega) Nx (by omega))]
  intro h5 h6;refine ae h6 ?_;refine dw (by kernel_rfl) ?_;refine ae hj ?_;refine⟨by omega,by omega,?_⟩;refine bS ?_ ?_
  .intro h7 h8;refine ae h8 ?_;refine bj ?_;refine qR ?_;rw[<-Ax,<-Ln,wA (sF UN (by omega) (by omega) Nx.symm (by omega))]
  intro h7 h8;refine ae h8 ?_;refine aw j ?_ ⟨by omega,?_⟩
  .exact bQ []
  have Y_:p.drop j=p.getD j 0::p.drop (j+1):=by rw[drop_eq_getElem_cons (by omega)];simp[show j<p.length by omega]
  have hqj:q.drop j=q.getD j 0::q.drop (j+1):=by rw[drop_eq_getElem_cons (by omega)];simp[show j<q.length by omega]
  rw[Y_,hqj,Nx,show p.getD j 0=q.getD j 0 by omega]
 intro h3 h4;refine ae h4 ?_;refine bj ?_;refine qR ?_;have UO:k=0:=by omega
 subst UO;simp only[List.drop_zero] at Nx;subst Nx;have:val a=val b:=by rw[<-aj (val a),hp,<-hq,aj]
 rw[this,JM]
theorem XJ (h l d:Nat) (hh:h<4294967296) (hl:l<4294967296) (hd:d<4294967296) (aH:h<d):
 Den Tryz.prog 247 [] [.int .u32 h,.int .u32 l,.int .u32 d] [] (.tup [.int .u32 ((h*4294967296+l) / d:Nat),.int .u32 ((h*4294967296+l) % d:Nat)]):=by
 have hq:(h*4294967296+l) / d<4294967296:=by
  rw[Nat.div_lt_iff_lt_mul (by omega)];have:(h+1)*4294967296<=d*4294967296:=qn _ aH;rw[Nat.mul_comm 4294967296 d];omega
 have hr:(h*4294967296+l) % d<d:=Nat.mod_lt _ (by omega)
 have e1:((h:Int)*4294967296+l) / d=(((h*4294967296+l) / d:Nat):Int):=by
  rw[Int.natCast_ediv,Int.natCast_add,Int.natCast_mul];rfl
 have e2:((h:Int)*4294967296+l) % d=(((h*4294967296+l) % d:Nat):Int):=by
  rw[Int.natCast_emod,Int.natCast_add,Int.natCast_mul];rfl
 generalize (h*4294967296+l) / d=Q at*
 generalize (h*4294967296+l) % d=R at*
 refine dq Tryz.func247 30 0 ?_
 refine aY ?_
 refine Br.bneInt ?_ ?_
 .intro h1 h2
  refine ae h2 ?_
  refine bS ?_ ?_
  .intro h3 h4
   omega
  intro h3 h4
  refine ae (aP h4 @vy) ?_
  refine⟨by omega,?_⟩
  refine dw (by kernel_rfl) ?_
  refine ae (aP e1 e2) ?_
  refine⟨by omega,by omega,?_⟩
  refine bj ?_
  exact Hh
 intro h1 h2
 omega
theorem XK (a b c:Nat) (ha:a<4294967296) (hb:b<4294967296) (hc:c<=1):Den Tryz.prog 213 [] [.int .u32 a,.int .u32 b,.int .u32 c] []
 (.tup [.int .u32 ((4294967296+a - b - c) % 4294967296:Nat),.int .u32 (if a<b+c then 1 else 0:Nat)]):=by
 have hw:IntKind.u32.wrap (IntKind.u32.wrap ((a:Int) - b) - c)=((4294967296+a - b - c) % 4294967296:Nat):=by
  rw[dC,dC];omega
 have key:=OC a b c ha hb hc
 refine dq Tryz.func213 22 0 ?_
 refine bU hw ?_
 refine⟨by omega,?_⟩
 refine bj ?_
 simp(disch:=omega) only[XH,JO,Ec,ahw,XI,St.get,tL,cM,zc,zd,t_,fS,fB,Option.map_some,qk,getD_cons_zero]
 have GW:BitVec.ofNat 32 ((4294967296+a - b - c) % 4294967296)=BitVec.ofNat 32 (4294967296+a - b - c):=by
  apply BitVec.eq_of_toNat_eq;simp
 rw[<-GW] at key
 have k2:=congrArg (fun z:Nat=>(z:Int)) key
 simp only[Int.natCast_ediv] at k2
 exact congrArg (fun z:Int=>some (PV.tup [PV.int .u32 (((4294967296+a - b - c) % 4294967296:Nat):Int),PV.int .u32 z])) k2
theorem sG {x y:Nat} (h:x<=y):(ai x).length<=(ai y).length:=
 aA (Hw h bJ)
theorem af5 (a b:List Nat) (ha:Dig a) (hb:Dig b) (wm:a.length<100000000000) (wT:b.length<100000000000) (aH:val a<val b):
 Den Tryz.prog 177 [] [.fv (.sl (u32s a)),.fv (.sl (u32s b))] [] (.tup [.fv (.sl []),.int .i64 1]):=by
 refine dq Tryz.func177 48 0 ?_
 refine aY ?_
 refine gp (Eg a b ha hb wm wT) rfl ?_
 simp -dsimp(disch:=omega) only[pT aH,↓reduceIte,ru]
 refine bS ?_ ?_
 .intro h1 h2
  refine ae h2 ?_
  refine bj ?_
  exact Hh
 intro h1 h2
 omega
theorem We (a b:List Nat) (ha:Dig a) (hb:Dig b) (wm:a.length<100000000000) (wT:b.length<100000000000) (dT:val b<=val a):
 Den Tryz.prog 177 [] [.fv (.sl (u32s a)),.fv (.sl (u32s b))] [] (.tup [.fv (N (val a - val b)),.int .i64 0]):=by
 have hxa:(ai (val a)).length<=a.length:=aA (bG ha)
 have lA:(ai (val b)).length<=(ai (val a)).length:=sG dT
 have hp:=ao (val a)
 have hq:=ao (val b)
 have Ax:=aj (val a)
 have Ln:=aj (val b)
 have Ay:decide (oA (val a) (val b)<0)=false:=by
  unfold oA;rw[if_neg (by omega)];split<;>simp
 refine dq Tryz.func177 48 0 ?_
 refine aY ?_
 refine gp (Eg a b ha hb wm wT) rfl ?_
 refine ae Ay ?_
 refine gp (iu a ha (by omega)) rfl ?_
 refine ba ?_
 refine gp (iu b hb (by omega)) rfl ?_
 refine ae @bE ?_
 generalize ai (val a)=p at*
 generalize ai (val b)=q at*
 refine⟨by omega,?_⟩
 refine wl (α:=Nat×Nat×List Nat) (fun⟨i,c,out⟩=>⟨.fv (.sl (u32s p)):: .fv (.sl (u32s q)):: .any:: .any:: .nilsl:: .any:: .lsl 0 0 p.length 1:: .int .u32 c::(replicate 14 .any++ .fv (.sl (u32s p)):: .int .i64 p.length:: .int .i64 i::replicate 25 .any),[.row true (u32s out)]⟩)
  (fun⟨i,_,_⟩=>p.length - i)
  (fun⟨i,c,out⟩=>i<=p.length/\c<=1/\out.length=p.length/\Dig out/\val (out.take i)+val (q.take i)=val (p.take i)+c*B^i) (0,0,replicate p.length 0) ?_ ?_ ?_
 .exact bQ [0]
 .exact⟨by omega,by omega,by simp,Dig.zeros,by simp[val]⟩
 rintro⟨i,c,out⟩ ⟨hi,hc,ho,hd,mY⟩
 refine aY ?_
 refine bS ?_ ?_
 .intro h1 h2
  refine ae h2 ?_
  refine⟨by omega,?_⟩
  have So:=hp.getD i
  have Sp:=hq.getD i
  simp only[B] at So Sp
  have bM:=cy (l:=out) (i:=i) (by omega) ((4294967296+p.getD i 0 - q.getD i 0 - c) % 4294967296)
  have UL:=aJ p i
  have Y9:=aJ q i
  have oG:Dig (out.set i ((4294967296+p.getD i 0 - q.getD i 0 - c) % 4294967296)):=hd.set i (Nat.mod_lt _ (by decide))
  have oH:(if p.getD i 0<q.getD i 0+c then 1 else 0:Nat)<=1:=by split<;>omega
  have DH:(4294967296+p.getD i 0 - q.getD i 0 - c) % 4294967296+q.getD i 0+c=p.getD i 0+(if p.getD i 0<q.getD i 0+c then 1 else 0:Nat)*4294967296:=by
   split<;>omega
  generalize aif:(if p.getD i 0<q.getD i 0+c then 1 else 0:Nat)=c2 at*
  generalize Ny:(4294967296+p.getD i 0 - q.getD i 0 - c) % 4294967296=dg at*
  have dh:val ((out.set i dg).take (i+1))+val (q.take (i+1))=val (p.take (i+1))+c2*B^(i+1):=by
   rw[Nat.pow_succ,bM,UL,Y9];have h3:=congrArg (fun z=>B^i*z) DH;simp only[Nat.mul_add] at h3;rw[Nat.mul_comm c] at mY;rw[<-Nat.mul_assoc (B^i) c2,Nat.mul_comm (B^i) c2,Nat.mul_assoc c2] at h3;have h4:B^i*B=B^i*4294967296:=rfl;rw[h4];omega
  have fin: ∀ x:Int,x=((q.getD i 0:Nat):Int)->cw [Ob.row true (u32s out)] ([]++[PV.fv (FV.lit (Value.int IntKind.u32 ((p.getD i 0:Nat):Int))),PV.int IntKind.u32 x,PV.int IntKind.u32 (c:Int)]++[])=some [.int .u32 ((p.getD i 0:Nat):Int),.int .u32 ((q.getD i 0:Nat):Int),.int .u32 (c:Int)]:=by
   intro x hx;subst hx;rfl
  have bW:=XK _ _ _ So Sp hc
  rw[Ny] at bW
  have Xb:Den Tryz.prog 213 [] [.int .u32 ((p.getD i 0:Nat):Int),.int .u32 ((q.getD i 0:Nat):Int),.int .u32 (c:Int)] [] (.tup [.int .u32 (dg:Int),.int .u32 (c2:Int)]):=by
   rw[aif] at bW;exact bW
  refine bS ?_ ?_
  .intro h3 h4
   refine ae h4 ?_
   refine⟨by omega,?_⟩
   refine gp Xb (fin _ rfl) ?_
   refine ba ?_
   refine⟨by omega,by omega,?_⟩
   refine aw (i+1,c2,out.set i dg) ?_ ⟨by omega,oH,by simp[ho],oG,dh⟩
   exact bQ [0]
  intro h3 h4
  have h0:(0:Int)=((q.getD i 0:Nat):Int):=by
   have:q.getD i 0=0:=by rw[qa,List.getElem?_eq_none (by omega)];rfl
   rw[this];rfl
  refine ae h4 ?_
  refine gp Xb (fin _ h0) ?_
  refine ba ?_
  refine⟨by omega,by omega,?_⟩
  refine aw (i+1,c2,out.set i dg) ?_ ⟨by omega,oH,by simp[ho],oG,dh⟩
  exact bQ [0]
 intro h1 h2
 refine ae h2 ?_
 have UM:i=p.length:=by omega
 have N':val out=val a - val b:=by
  rw[UM,aQ (by omega),aQ lA,aQ (qp _),Ax,Ln] at mY;have h5:=bG hd;rw[ho] at h5;have h6:c=0:=by
   rcases Nat.eq_zero_or_pos c with h | h
   .exact h
   exfalso;have:c=1:=by omega
   subst this;omega
  subst h6;omega
 refine gp (iu out hd (by omega)) ?_ ?_
 .simp[cw,gW,fS,fB,aM,ho]
  rw[eo (by simp[aM,ho])]
 refine ba ?_
 refine bj ?_
 refine qR ?_
 rw[N']
theorem Wf (u:Nat) (hu:u<18446744073709551616):Den Tryz.prog 216 [] [.int .u64 u] [] (.fv (N u)):=by
 have hv:val [u % 4294967296,u / 4294967296]=u:=by
  simp only[val,B];omega
 have hd:Dig [u % 4294967296,u / 4294967296]:=by
  intro d hd;simp at hd;rcases hd with rfl | rfl<;>(simp only[B];omega)
 refine dq Tryz.func216 9 0 ?_;refine aY ?_;refine⟨by omega,?_⟩;have:=iu [u % 4294967296,u / 4294967296] hd (by simp);rw[hv] at this;refine gp this ?_ ?_
 .simp[cw,gW,fS,fB,u32s,dC]
 refine ba ?_;refine bj ?_;exact Hh
theorem w_ (a b:List Nat) (ha:Dig a) (hb:Dig b) (wm:a.length<10000000000) (wT:b.length<10000000000):
 Den Tryz.prog 130 [] [.fv (.sl (u32s a)),.fv (.sl (u32s b))] [] (.fv (N (val a*val b))):=by
 have hxa:(ai (val a)).length<=a.length:=aA (bG ha)
 have lA:(ai (val b)).length<=b.length:=aA (bG hb)
 have hp:=ao (val a)
 have hq:=ao (val b)
 have Ax:=aj (val a)
 have Ln:=aj (val b)
 refine dq Tryz.func130 82 0 ?_
 refine aY ?_
 refine gp (iu a ha (by omega)) rfl ?_
 refine ba ?_
 refine gp (iu b hb (by omega)) rfl ?_
 refine ae @bE ?_
 generalize ai (val a)=p at*
 generalize ai (val b)=q at*
 refine⟨by omega,?_⟩
 have hn:((p.length:Int)+(q.length:Int)).toNat=p.length+q.length:=by omega
 refine wl (α:=Nat×List Nat) (fun⟨i,out⟩=>⟨.fv (.sl (u32s p)):: .fv (.sl (u32s q)):: .any:: .any:: .nilsl:: .lsl 0 0 (p.length+q.length) 1::(replicate 18 .any++ .fv (.sl (u32s p)):: .int .i64 p.length:: .int .i64 i::replicate 57 .any),[.row true (u32s out)]⟩)
  (fun⟨i,_⟩=>p.length - i)
  (fun⟨i,out⟩=>i<=p.length/\out.length=p.length+q.length/\Dig out/\val (out.take (i+q.length))=val (p.take i)*val q) (0,replicate (p.length+q.length) 0) ?_ ?_ ?_
 .refine eS [0] ?_ ?_
  .simp[bk,dV,cC,hn]
  simp[et,fK,hn]
 .exact⟨by omega,by simp,Dig.zeros,by simp[val,AZ]⟩
 rintro⟨i,wo⟩ ⟨hi,Y',g8,Hi⟩
 refine aY ?_
 refine bS ?_ ?_
 .intro h1 h2
  refine ae h2 ?_
  refine⟨by omega,?_⟩
  have hx:=hp.getD i
  simp only[B] at hx
  generalize DI:p.getD i 0=x at*
  refine wl (α:=Nat×Nat×List Nat) (fun⟨k,c,out⟩=>⟨.fv (.sl (u32s p)):: .fv (.sl (u32s q)):: .any:: .any:: .nilsl:: .lsl 0 0 (p.length+q.length) 1:: .int .i64 i:: .int .u32 x:: .int .u32 c::(replicate 15 .any++ .fv (.sl (u32s p)):: .int .i64 p.length:: .int .i64 i::
   .any:: .any:: .any:: .any:: .fv (.sl (u32s q)):: .int .i64 q.length:: .int .i64 k::replicate 50 .any),[.row true (u32s out)]⟩)
   (fun⟨k,_,_⟩=>q.length - k)
   (fun⟨k,c,out⟩=>k<=q.length/\c<4294967296/\out.length=p.length+q.length/\Dig out/\(∀ j,i+k<=j->out.getD j 0=wo.getD j 0)/\val (out.take (i+k))+c*B^(i+k)=val (wo.take (i+k))+x*val (q.take k)*B^i) (0,0,wo) ?_ ?_ ?_
  .exact bQ [0]
  .exact⟨by omega,by omega,Y',g8,fun _ _=>rfl,by simp[val]⟩
  rintro⟨k,c,out⟩ ⟨hk,hc,ho,hd,eX,hv⟩
  refine aY ?_
  refine bS ?_ ?_
  .intro h3 h4
   refine ae h4 ?_
   refine⟨by omega,?_⟩
   have hy:=hq.getD k
   simp only[B] at hy
   generalize Sq:q.getD k 0=y at*
   refine gp (acj x y hx hy) rfl ?_
   refine ba ?_
   have Za:((i:Int)+(k:Int)).toNat=i+k:=by omega
   rw[Za]
   refine⟨by omega,by omega,?_⟩
   have iU:=hd.getD (i+k)
   simp only[B] at iU
   have hov:out.getD (i+k) 0=wo.getD (i+k) 0:=eX _ (qp _)
   have Hj:x*y<=18446744065119617025:=gI (Nat.mul_le_mul (show x<=4294967295 by omega) (show y<=4294967295 by omega)) (by decide)
   have hmd:=LO Hj iU hc
   have aih:=JN (x*y % 4294967296) (out.getD (i+k) 0) 0 (Nat.mod_lt _ (by decide)) iU (by omega)
   have aii:=JN ((x*y % 4294967296+out.getD (i+k) 0+0) % 4294967296) c 0 (Nat.mod_lt _ (by decide)) hc (by omega)
   generalize Zb:(x*y % 4294967296+out.getD (i+k) 0+0) % 4294967296=lo1 at*
   generalize sB:(x*y % 4294967296+out.getD (i+k) 0+0) / 4294967296=c1 at*
   generalize Nz:(lo1+c+0) % 4294967296=lo2 at*
   generalize oH:(lo1+c+0) / 4294967296=c2 at*
   generalize amQ:x*y / 4294967296=oI at*
   refine aV aih ?_
   refine ba ?_
   refine aV aii ?_
   refine ae Za ?_
   refine⟨by omega,by omega,?_⟩
   have bM:=cy (l:=out) (i:=i+k) (by omega) lo2
   have hqk:=aJ q k
   have h0k:=aJ wo (i+k)
   rw[Sq] at hqk
   have dh:val ((out.set (i+k) lo2).take (i+(k+1)))+(oI+c1+c2)*B^(i+(k+1))=val (wo.take (i+(k+1)))+x*val (q.take (k+1))*B^i:=by
    rw[<-Nat.add_assoc i k 1,bM,h0k,hqk,Nat.pow_succ];exact OB (Nat.pow_add B i k) hv (by rw[<-hov];exact hmd.1)
   refine aw (k+1,oI+c1+c2,out.set (i+k) lo2) ?_ ⟨by omega,hmd.2,by simp[ho],hd.set _ (by simp only[B];omega),fun j hj=>?_,dh⟩
   .exact bQ [0]
   rw[<-eX j (by omega)]
   simp only[qa]
   rw[qm (by omega)]
  intro h3 h4
  refine ae h4 ?_
  have hkq:k=q.length:=by omega
  have hiq:((i:Int)+(q.length:Int)).toNat=i+q.length:=by omega
  rw[hiq]
  refine⟨by omega,by omega,?_⟩
  have bM:=cy (l:=out) (i:=i+q.length) (by omega) c
  have Zc:=aJ p i
  rw[DI] at Zc
  have dh:val ((out.set (i+q.length) c).take (i+1+q.length))=val (p.take (i+1))*val q:=by
   rw[show i+1+q.length=i+q.length+1 by omega,bM,Zc];rw[hkq,aQ (qp _),Hi] at hv;grind
  refine aw (i+1,out.set (i+q.length) c) ?_ ⟨by omega,by simp[ho],hd.set _ (by simp only[B];omega),dh⟩
  exact bQ [0]
 intro h1 h2
 refine ae h2 ?_
 have UM:i=p.length:=by omega
 refine gp (iu wo g8 (by omega)) ?_ ?_
 .simp[cw,gW,fS,fB,aM,Y']
  rw[eo (by simp[aM,Y'])]
 refine ba ?_
 refine bj ?_
 rw[UM,aQ (by omega),aQ (qp _),Ax,Ln] at Hi
 exact l7 Hi
theorem XL (l:List Nat) (d:Nat) (hl:Dig l) (oP:l.length<100000000000) (hd:d<4294967296) (g8:0<d):
 Den Tryz.prog 217 [] [.fv (.sl (u32s l)),.int .u32 d] [] (.tup [.fv (N (val l / d)),.int .u32 ((val l % d:Nat):Int)]):=by
 refine dq Tryz.func217 33 0 ?_
 refine aY ?_
 refine⟨by omega,?_⟩
 refine wl (α:=Nat×Nat×List Nat) (fun⟨k,r,out⟩=>⟨.fv (.sl (u32s l)):: .int .u32 d:: .any:: .any:: .nilsl:: .fv (.lit (.int .u32 0)):: .lsl 0 0 l.length 1:: .int .u32 r:: .int .i64 ((k:Int) - 1)::replicate 26 .any,[.row true (u32s out)]⟩)
  (fun⟨k,_,_⟩=>k) (fun⟨k,r,out⟩=>k<=l.length/\r<d/\out.length=l.length/\Dig out/\val (out.drop k)*d+r=val (l.drop k)) (l.length,0,replicate l.length 0) ?_ ?_ ?_
 .exact bQ [0]
 .exact⟨by omega,g8,by simp,Dig.zeros,by simp[val]⟩
 rintro⟨k,r,out⟩ ⟨hk,hr,ho,Az,hv⟩
 refine aY ?_
 refine bS ?_ ?_
 .intro h1 h2
  refine ae h2 ?_
  obtain⟨j,rfl⟩: ∃ j,k=j+1:=⟨k - 1,by omega⟩
  have hj:(((j+1:Nat):Int) - 1).toNat=j:=by omega
  rw[hj]
  have hx:=hl.getD j
  simp only[B] at hx
  have D7:=eD (l:=l) (j:=j) (by omega)
  generalize DI:l.getD j 0=x at*
  have ail:=XJ r x d (by omega) hx hd hr
  have hq:(r*4294967296+x) / d<4294967296:=by
   rw[Nat.div_lt_iff_lt_mul (by omega)];have:(r+1)*4294967296<=d*4294967296:=qn _ hr;rw[Nat.mul_comm 4294967296 d];omega
  have gX:(r*4294967296+x) % d<d:=Nat.mod_lt _ (by omega)
  have hqr:=Nat.mod_add_div (r*4294967296+x) d
  generalize (r*4294967296+x) / d=Q at*
  generalize (r*4294967296+x) % d=R at*
  refine⟨by omega,?_⟩
  refine aV ail ?_
  refine ae hj ?_
  refine⟨by omega,by omega,?_⟩
  have UQ:=m6 (l:=out) (j:=j) (x:=Q) (by omega)
  refine aw (j,R,out.set j Q) ?_ ⟨by omega,gX,by simp[ho],Az.set _ hq,?_⟩
  .exact bQ [0]
  rw[UQ,D7,<-hv]
  simp only[B]
  grind
 intro h1 h2
 refine ae h2 ?_
 have UO:k=0:=by omega
 subst UO
 simp only[List.drop_zero] at hv
 have wU:val out=val l / d/\r=val l % d:=by
  rw[<-hv,Nat.mul_comm,Nat.mul_add_div g8,Nat.mul_add_mod,Nat.div_eq_of_lt hr,Nat.mod_eq_of_lt hr];exact⟨rfl,rfl⟩
 refine gp (iu out Az (by omega)) ?_ ?_
 .simp[cw,gW,fS,fB,aM,ho]
  rw[eo (by simp[aM,ho])]
 refine ba ?_
 refine bj ?_
 rw[<-wU.1,<-wU.2]
 exact Hh
theorem OD (l:List Nat) (k:Nat) (hl:Dig l) (oP:l.length<100000000000) (hk:k<32):
 Den Tryz.prog 249 [] [.fv (.sl (u32s l)),.int .u64 k] [.row true (u32s (ij (l.length+1) (val l*2^k)))] (.lsl 0 0 (l.length+1) 1):=by
 have Oa:2^k<=2147483648:=Nat.pow_le_pow_right (by decide) (show k<=31 by omega)
 have D8:0<2^k:=Nat.two_pow_pos k
 have AA:(k<=64)=True:=by simp;omega
 refine dq Tryz.func249 39 0 ?_
 refine aY ?_
 refine⟨by omega,?_⟩
 have hn:((l.length:Int)+1).toNat=l.length+1:=by omega
 refine wl (α:=Nat×List Nat) (fun⟨i,out⟩=>⟨.fv (.sl (u32s l)):: .int .u64 k:: .any:: .any:: .nilsl:: .lsl 0 0 (l.length+1) 1::(replicate 7 .any++ .fv (.sl (u32s l)):: .int .i64 l.length:: .int .i64 i::replicate 25 .any),[.row true (u32s out)]⟩)
  (fun⟨i,_⟩=>l.length - i) (fun⟨i,out⟩=>i<=l.length/\out.length=l.length+1/\Dig out/\val (out.take (i+1))=val (l.take i)*2^k/\out.getD i 0<2^k) (0,replicate (l.length+1) 0) ?_ ?_ ?_
 .refine eS [0] ?_ ?_
  .simp[bk,dV,cC,hn]
  simp[et,fK,hn]
 .refine⟨by omega,by simp,Dig.zeros,?_,?_⟩
  .simp[val,List.replicate_succ]
  simp[List.replicate_succ];omega
 rintro⟨i,out⟩ ⟨hi,ho,Az,hv,AB⟩
 refine aY ?_
 refine bS ?_ ?_
 .intro h1 h2
  have hx:=hl.getD i
  simp only[B] at hx
  have gv:=aJ l i
  have Zd:=aJ out i
  generalize DI:l.getD i 0=x at*
  generalize Sq:out.getD i 0=y at*
  have hxv:x*2^k<9223372036854775808:=by
   have:x*2^k<=4294967295*2147483648:=Nat.mul_le_mul (by omega) Oa;omega
  have GX:(x:Int)*2^k=((x*2^k:Nat):Int):=by rw[Int.natCast_mul,Int.natCast_pow];rfl
  have GW:=Ed (d:=x) (k:=k) (by omega)
  generalize AD:x*2^k=v at*
  have UR:IntKind.u32.wrap (v:Int)=((v % 4294967296:Nat):Int):=by rw[dC];rfl
  have Oc:=ahv k AB GW (by omega) (Nat.mod_lt _ (by decide))
  have oI:((i:Int)+1).toNat=i+1:=by omega
  have pK:=Ee (k:=k) (by omega) GW (Nat.mod_lt _ (by decide))
  have fL:v / 4294967296<2^k:=by
   rw[Nat.div_lt_iff_lt_mul (by decide),<-AD,Nat.mul_comm];exact Nat.mul_lt_mul_of_pos_left hx D8
  have hvh:(v:Int) / 4294967296=((v / 4294967296:Nat):Int):=by rw[Int.natCast_ediv];rfl
  have bM:=cy (l:=out) (i:=i) (by omega) (y+v % 4294967296)
  have tQ:=cy (l:=out.set i (y+v % 4294967296)) (i:=i+1) (by simp;omega) (v / 4294967296)
  have wq:(out.set i (y+v % 4294967296)).length=l.length+1:=by simp[ho]
  refine ae (bT h2 AA GX DI Sq UR Oc (aP oI hvh)) ?_
  refine⟨by omega,by omega,by omega,by omega,by omega,by omega,by omega,by omega,by omega,?_⟩
  refine aw (i+1,(out.set i (y+v % 4294967296)).set (i+1) (v / 4294967296)) ?_ ⟨by omega,by simp[ho],(Az.set _ (by simp only[B];omega)).set _ (by simp only[B];omega),?_,?_⟩
  .exact bQ [0]
  .rw[tQ,bM,gv]
   have wU:=Nat.mod_add_div v 4294967296
   rw[Zd] at hv
   generalize v % 4294967296=vl at*
   generalize v / 4294967296=vh at*
   rw[Nat.pow_succ]
   simp only[B] at*
   grind
  have:((out.set i (y+v % 4294967296)).set (i+1) (v / 4294967296)).getD (i+1) 0=v / 4294967296:=by
   rw[qa,qv (by rw[wq];omega)];rfl
  rw[this]
  exact fL
 intro h1 h2
 refine ae h2 ?_
 have dW:i=l.length:=by omega
 have mY:val out=val l*2^k:=by
  rw[dW,aQ (by omega),aQ (qp _)] at hv;exact hv
 rw[<-mY,<-ho,<-Cv Az,ho]
 exact RetOK.own rfl ⟨cW,cW⟩ rfl
end Go.Proofs.YtjjbkjgifdhlcaaGreat
