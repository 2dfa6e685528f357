/- The types of the program,as the abstract machine asks them;and that they are the program's. -/
import Derived.Test.YtjjbkjgifdhlcaaGreatT9
import Derived.Test.YtjjbkjgifdhlcaaGreatProg
import Derived.KernelRfl
import Derived.Test.YtjjbkjgifdhlcaaGreatT8
import Derived.Test.YtjjbkjgifdhlcaaGreatT1
set_option linter.all false
open List (drop_eq_getElem_cons getD_cons_zero length_cons length_take replicate)
namespace Go.Proofs.YtjjbkjgifdhlcaaGreat
open Go.AM
set_option maxRecDepth 100000
def ty3:TyI:=⟨.int .i64,1,8,[.fv (.lit (.int .i64 0))]⟩
def ty4:TyI:=⟨.bool,1,1,[.fv (.lit (.bool false))]⟩
def ty5:TyI:=⟨.int .u8,1,1,[.fv (.lit (.int .u8 0))]⟩
def ty9:TyI:=⟨.str,1,16,[.fv (.lit (.string ⟨#[]⟩))]⟩
def abf:TyI:=⟨.sl 3,1,24,[.nilsl]⟩
def abg:TyI:=⟨.other,1,8,[.fv (.lit (.pointer none))]⟩
def abh:TyI:=⟨.sl 104,1,24,[.nilsl]⟩
def abi:TyI:=⟨.st [⟨0,1,false⟩,⟨1,1,false⟩,⟨2,1,false⟩],3,56,[.fv (.lit (.bool false)),.nilsl,.nilsl]⟩
def abj:TyI:=⟨.arr 8 27,24,448,[.fv (.lit (.bool false)),.nilsl,.nilsl,.fv (.lit (.bool false)),.nilsl,.nilsl,.fv (.lit (.bool false)),.nilsl,.nilsl,.fv (.lit (.bool false)),.nilsl,.nilsl,.fv (.lit (.bool false)),.nilsl,.nilsl,.fv (.lit (.bool false)),.nilsl,.nilsl,.fv (.lit (.bool false)),.nilsl,.nilsl,.fv (.lit (.bool false)),.nilsl,.nilsl]⟩
def abk:TyI:=⟨.st [⟨0,24,true⟩,⟨24,3,true⟩],27,504,[.fv (.lit (.bool false)),.nilsl,.nilsl,.fv (.lit (.bool false)),.nilsl,.nilsl,.fv (.lit (.bool false)),.nilsl,.nilsl,.fv (.lit (.bool false)),.nilsl,.nilsl,.fv (.lit (.bool false)),.nilsl,.nilsl,.fv (.lit (.bool false)),.nilsl,.nilsl,.fv (.lit (.bool false)),.nilsl,.nilsl,.fv (.lit (.bool false)),.nilsl,.nilsl,.fv (.lit (.bool false)),.nilsl,.nilsl]⟩
def abl:TyI:=⟨.sl 27,1,24,[.nilsl]⟩
def abm:TyI:=⟨.sl 69,1,24,[.nilsl]⟩
def abn:TyI:=⟨.sl 69,1,24,[.nilsl]⟩
def abo:TyI:=⟨.int .i64,1,8,[.fv (.lit (.int .i64 0))]⟩
def abp:TyI:=⟨.sl 73,1,24,[.nilsl]⟩
def abq:TyI:=⟨.other,1,8,[.fv (.lit (.nilFunc))]⟩
def abr:TyI:=⟨.arr 8 3,8,64,[.fv (.lit (.int .i64 0)),.fv (.lit (.int .i64 0)),.fv (.lit (.int .i64 0)),.fv (.lit (.int .i64 0)),.fv (.lit (.int .i64 0)),.fv (.lit (.int .i64 0)),.fv (.lit (.int .i64 0)),.fv (.lit (.int .i64 0))]⟩
def abt:TyI:=⟨.st [⟨0,8,true⟩,⟨8,3,true⟩],11,120,[.fv (.lit (.int .i64 0)),.fv (.lit (.int .i64 0)),.fv (.lit (.int .i64 0)),.fv (.lit (.int .i64 0)),.fv (.lit (.int .i64 0)),.fv (.lit (.int .i64 0)),.fv (.lit (.int .i64 0)),.fv (.lit (.int .i64 0)),.fv (.lit (.bool false)),.nilsl,.nilsl]⟩
def abu:TyI:=⟨.sl 30,1,24,[.nilsl]⟩
def abv:TyI:=⟨.st [⟨0,1,false⟩,⟨1,1,false⟩],2,48,[.nilsl,.nilsl]⟩
def abw:TyI:=⟨.st [⟨0,1,false⟩,⟨1,1,false⟩,⟨2,1,false⟩],3,40,[.nilsl,.fv (.lit (.int .i64 0)),.fv (.lit (.int .i64 0))]⟩
def abx:TyI:=⟨.other,1,8,[.fv (.lit (.nilFunc))]⟩
def VY:TyI:=⟨.int .u32,1,4,[.fv (.lit (.int .u32 0))]⟩
def VZ:TyI:=⟨.sl 22,1,24,[.nilsl]⟩
def V0:TyI:=⟨.st [⟨0,1,false⟩],1,1,[.fv (.lit (.bool false))]⟩
def V1:TyI:=⟨.st [⟨0,1,false⟩,⟨1,1,false⟩],2,48,[.nilsl,.nilsl]⟩
def V2:TyI:=⟨.st [⟨0,1,true⟩,⟨1,2,true⟩],3,56,[.fv (.lit (.bool false)),.nilsl,.nilsl]⟩
def V3:TyI:=⟨.int .u64,1,8,[.fv (.lit (.int .u64 0))]⟩
def V4:TyI:=⟨.int .u64,1,8,[.fv (.lit (.int .u64 0))]⟩
def V5:TyI:=⟨.sl 35,1,24,[.nilsl]⟩
def V6:TyI:=⟨.other,1,8,[.fv (.lit (.nilFunc))]⟩
def V7:TyI:=⟨.sl 53,1,24,[.nilsl]⟩
def V8:TyI:=⟨.other,1,8,[.fv (.lit (.nilFunc))]⟩
def V9:TyI:=⟨.sl 70,1,24,[.nilsl]⟩
def V_:TyI:=⟨.mp 8 (.agg [.bool false,.fv (.sl []),.fv (.sl [])]),1,8,[.fv (.lit (.map none))]⟩
def V':TyI:=⟨.sl 67,1,24,[.nilsl]⟩
def Wa:TyI:=⟨.other,1,8,[.fv (.lit (.nilFunc))]⟩
def Wb:TyI:=⟨.st [⟨0,1,false⟩],1,1,[.fv (.lit (.bool false))]⟩
def Wc:TyI:=⟨.sl 34,1,24,[.nilsl]⟩
def Wd:TyI:=⟨.other,1,8,[.fv (.lit (.nilFunc))]⟩
def We:TyI:=⟨.mp 8 (.int .i64 0),1,8,[.fv (.lit (.map none))]⟩
def Wf:TyI:=⟨.other,1,8,[.fv (.lit (.nilFunc))]⟩
def Wg:TyI:=⟨.st [⟨0,1,false⟩],1,8,[.fv (.lit (.int .i64 0))]⟩
def Wh:TyI:=⟨.int .i64,1,8,[.fv (.lit (.int .i64 0))]⟩
def Wi:TyI:=⟨.int .u64,1,8,[.fv (.lit (.int .u64 0))]⟩
def Wj:TyI:=⟨.other,1,8,[.fv (.lit (.pointer none))]⟩
def Wk:TyI:=⟨.other,1,16,[.fv (.lit (.nilIface))]⟩
def tab:Tab:=[(3,ty3),(4,ty4),(5,ty5),(9,ty9),(22,abf),(23,abg),(25,abh),(27,abi),(28,abj),(30,abk),(32,abl),(34,abm),(35,abn),(45,abo),(53,abp),(64,abq),(67,abr),(69,abt),(70,abu),(73,abv),(86,abw),(92,abx),(104,VY),(115,VZ),(137,V0),(139,V1),(141,V2),(151,V3),(152,V4),(153,V5),(160,V6),(164,V7),(170,V8),(173,V9),(178,V_),(179,V'),(182,Wa),(184,Wb),(193,Wc),(202,Wd),(216,We),(219,Wf),(221,Wg),(229,Wh),(247,Wi),(251,Wj),(255,Wk)]
theorem at3:tab.at 3=some ⟨.int .i64,1,8,[.fv (.lit (.int .i64 0))]⟩:=rfl
theorem at4:tab.at 4=some ⟨.bool,1,1,[.fv (.lit (.bool false))]⟩:=rfl
theorem at5:tab.at 5=some ⟨.int .u8,1,1,[.fv (.lit (.int .u8 0))]⟩:=rfl
theorem at9:tab.at 9=some ⟨.str,1,16,[.fv (.lit (.string ⟨#[]⟩))]⟩:=rfl
theorem ahd:tab.at 22=some ⟨.sl 3,1,24,[.nilsl]⟩:=rfl
theorem ahe:tab.at 23=some ⟨.other,1,8,[.fv (.lit (.pointer none))]⟩:=rfl
theorem ahf:tab.at 25=some ⟨.sl 104,1,24,[.nilsl]⟩:=rfl
theorem ahg:tab.at 27=some ⟨.st [⟨0,1,false⟩,⟨1,1,false⟩,⟨2,1,false⟩],3,56,[.fv (.lit (.bool false)),.nilsl,.nilsl]⟩:=rfl
theorem ahh:tab.at 28=some ⟨.arr 8 27,24,448,[.fv (.lit (.bool false)),.nilsl,.nilsl,.fv (.lit (.bool false)),.nilsl,.nilsl,.fv (.lit (.bool false)),.nilsl,.nilsl,.fv (.lit (.bool false)),.nilsl,.nilsl,.fv (.lit (.bool false)),.nilsl,.nilsl,.fv (.lit (.bool false)),.nilsl,.nilsl,.fv (.lit (.bool false)),.nilsl,.nilsl,.fv (.lit (.bool false)),.nilsl,.nilsl]⟩:=rfl
theorem SQ:tab.at 30=some ⟨.st [⟨0,24,true⟩,⟨24,3,true⟩],27,504,[.fv (.lit (.bool false)),.nilsl,.nilsl,.fv (.lit (.bool false)),.nilsl,.nilsl,.fv (.lit (.bool false)),.nilsl,.nilsl,.fv (.lit (.bool false)),.nilsl,.nilsl,.fv (.lit (.bool false)),.nilsl,.nilsl,.fv (.lit (.bool false)),.nilsl,.nilsl,.fv (.lit (.bool false)),.nilsl,.nilsl,.fv (.lit (.bool false)),.nilsl,.nilsl,.fv (.lit (.bool false)),.nilsl,.nilsl]⟩:=rfl
theorem ahi:tab.at 32=some ⟨.sl 27,1,24,[.nilsl]⟩:=rfl
theorem ahj:tab.at 34=some ⟨.sl 69,1,24,[.nilsl]⟩:=rfl
theorem ahk:tab.at 35=some ⟨.sl 69,1,24,[.nilsl]⟩:=rfl
theorem ahl:tab.at 45=some ⟨.int .i64,1,8,[.fv (.lit (.int .i64 0))]⟩:=rfl
theorem ahm:tab.at 53=some ⟨.sl 73,1,24,[.nilsl]⟩:=rfl
theorem ahn:tab.at 64=some ⟨.other,1,8,[.fv (.lit (.nilFunc))]⟩:=rfl
theorem aho:tab.at 67=some ⟨.arr 8 3,8,64,[.fv (.lit (.int .i64 0)),.fv (.lit (.int .i64 0)),.fv (.lit (.int .i64 0)),.fv (.lit (.int .i64 0)),.fv (.lit (.int .i64 0)),.fv (.lit (.int .i64 0)),.fv (.lit (.int .i64 0)),.fv (.lit (.int .i64 0))]⟩:=rfl
theorem ahp:tab.at 69=some ⟨.st [⟨0,8,true⟩,⟨8,3,true⟩],11,120,[.fv (.lit (.int .i64 0)),.fv (.lit (.int .i64 0)),.fv (.lit (.int .i64 0)),.fv (.lit (.int .i64 0)),.fv (.lit (.int .i64 0)),.fv (.lit (.int .i64 0)),.fv (.lit (.int .i64 0)),.fv (.lit (.int .i64 0)),.fv (.lit (.bool false)),.nilsl,.nilsl]⟩:=rfl
theorem ahq:tab.at 70=some ⟨.sl 30,1,24,[.nilsl]⟩:=rfl
theorem ahr:tab.at 73=some ⟨.st [⟨0,1,false⟩,⟨1,1,false⟩],2,48,[.nilsl,.nilsl]⟩:=rfl
theorem ahs:tab.at 86=some ⟨.st [⟨0,1,false⟩,⟨1,1,false⟩,⟨2,1,false⟩],3,40,[.nilsl,.fv (.lit (.int .i64 0)),.fv (.lit (.int .i64 0))]⟩:=rfl
theorem aht:tab.at 92=some ⟨.other,1,8,[.fv (.lit (.nilFunc))]⟩:=rfl
theorem aby:tab.at 104=some ⟨.int .u32,1,4,[.fv (.lit (.int .u32 0))]⟩:=rfl
theorem abz:tab.at 115=some ⟨.sl 22,1,24,[.nilsl]⟩:=rfl
theorem abA:tab.at 137=some ⟨.st [⟨0,1,false⟩],1,1,[.fv (.lit (.bool false))]⟩:=rfl
theorem abB:tab.at 139=some ⟨.st [⟨0,1,false⟩,⟨1,1,false⟩],2,48,[.nilsl,.nilsl]⟩:=rfl
theorem abC:tab.at 141=some ⟨.st [⟨0,1,true⟩,⟨1,2,true⟩],3,56,[.fv (.lit (.bool false)),.nilsl,.nilsl]⟩:=rfl
theorem abD:tab.at 151=some ⟨.int .u64,1,8,[.fv (.lit (.int .u64 0))]⟩:=rfl
theorem abE:tab.at 152=some ⟨.int .u64,1,8,[.fv (.lit (.int .u64 0))]⟩:=rfl
theorem abF:tab.at 153=some ⟨.sl 35,1,24,[.nilsl]⟩:=rfl
theorem abG:tab.at 160=some ⟨.other,1,8,[.fv (.lit (.nilFunc))]⟩:=rfl
theorem abH:tab.at 164=some ⟨.sl 53,1,24,[.nilsl]⟩:=rfl
theorem abI:tab.at 170=some ⟨.other,1,8,[.fv (.lit (.nilFunc))]⟩:=rfl
theorem abJ:tab.at 173=some ⟨.sl 70,1,24,[.nilsl]⟩:=rfl
theorem abK:tab.at 178=some ⟨.mp 8 (.agg [.bool false,.fv (.sl []),.fv (.sl [])]),1,8,[.fv (.lit (.map none))]⟩:=rfl
theorem abL:tab.at 179=some ⟨.sl 67,1,24,[.nilsl]⟩:=rfl
theorem abM:tab.at 182=some ⟨.other,1,8,[.fv (.lit (.nilFunc))]⟩:=rfl
theorem abN:tab.at 184=some ⟨.st [⟨0,1,false⟩],1,1,[.fv (.lit (.bool false))]⟩:=rfl
theorem abO:tab.at 193=some ⟨.sl 34,1,24,[.nilsl]⟩:=rfl
theorem abP:tab.at 202=some ⟨.other,1,8,[.fv (.lit (.nilFunc))]⟩:=rfl
theorem abQ:tab.at 216=some ⟨.mp 8 (.int .i64 0),1,8,[.fv (.lit (.map none))]⟩:=rfl
theorem abR:tab.at 219=some ⟨.other,1,8,[.fv (.lit (.nilFunc))]⟩:=rfl
theorem abT:tab.at 221=some ⟨.st [⟨0,1,false⟩],1,8,[.fv (.lit (.int .i64 0))]⟩:=rfl
theorem abU:tab.at 229=some ⟨.int .i64,1,8,[.fv (.lit (.int .i64 0))]⟩:=rfl
theorem abV:tab.at 247=some ⟨.int .u64,1,8,[.fv (.lit (.int .u64 0))]⟩:=rfl
theorem abW:tab.at 251=some ⟨.other,1,8,[.fv (.lit (.pointer none))]⟩:=rfl
theorem abX:tab.at 255=some ⟨.other,1,16,[.fv (.lit (.nilIface))]⟩:=rfl
abbrev Ow:=qy at3 (qy at4 (qy at5 (qy at9 (qy ahd (qy ahe (qy ahf (qy ahg (qy ahh (qy SQ (qy ahi (qy ahj (qy ahk (qy ahl (qy ahm (qy ahn (qy aho (qy ahp (qy ahq (qy ahr (qy ahs (qy aht (qy aby (qy abz (qy abA (qy abB (qy abC (qy abD (qy abE (qy abF (qy abG (qy abH (qy abI (qy abJ (qy abK (qy abL (qy abM (qy abN (qy abO (qy abP (qy abQ (qy abR (qy abT (qy abU (qy abV (qy abW (abX))))))))))))))))))))))))))))))))))))))))))))))
abbrev ru:=qy @jK (qy @cP (qy @dF (qy @iC (qy @pz (qy @pA (qy @pB (qy @Nat.min_def (qy @eb (qy @cI (qy @Option.isNone_some.{0} (qy @jQ (qy @Ow (@eq_self.{1})))))))))))))
theorem ok3:TyOk Tryz.prog 3 ty3:=⟨⟨_,_,(by kernel_rfl:Tryz.prog.info? 3=some Tryz.t3),rfl,rfl,rfl,rfl,rfl,rfl⟩,Tryz.underlying3⟩
theorem ok4:TyOk Tryz.prog 4 ty4:=⟨⟨_,_,(by kernel_rfl:Tryz.prog.info? 4=some Tryz.t4),rfl,rfl,rfl,rfl,rfl,rfl⟩,Tryz.underlying4⟩
theorem ok5:TyOk Tryz.prog 5 ty5:=⟨⟨_,_,(by kernel_rfl:Tryz.prog.info? 5=some Tryz.t5),rfl,rfl,rfl,rfl,rfl,rfl⟩,Tryz.underlying5⟩
theorem ok9:TyOk Tryz.prog 9 ty9:=⟨⟨_,_,(by kernel_rfl:Tryz.prog.info? 9=some Tryz.t9),rfl,rfl,rfl,rfl,rfl,rfl⟩,Tryz.underlying9⟩
theorem ahu:TyOk Tryz.prog 22 abf:=⟨⟨_,_,(by kernel_rfl:Tryz.prog.info? 22=some Tryz.t22),rfl,rfl,rfl,rfl,rfl,rfl⟩,Tryz.underlying22⟩
theorem ahv:TyOk Tryz.prog 23 abg:=⟨⟨_,_,(by kernel_rfl:Tryz.prog.info? 23=some Tryz.t23),rfl,rfl,rfl,rfl,rfl,rfl⟩,⟨_,Tryz.underlying23,rfl⟩⟩
theorem ahw:TyOk Tryz.prog 25 abh:=⟨⟨_,_,(by kernel_rfl:Tryz.prog.info? 25=some Tryz.t25),rfl,rfl,rfl,rfl,rfl,rfl⟩,Tryz.underlying25⟩
theorem ahx:TyOk Tryz.prog 27 abi:=⟨⟨_,_,(by kernel_rfl:Tryz.prog.info? 27=some Tryz.t27),rfl,rfl,rfl,rfl,rfl,rfl⟩,
 ⟨_,Tryz.underlying27,rfl,fun j f fd h1 h2=>match j,f,fd,h1,h2 with
  | 0,_,_,rfl,rfl=>⟨rfl,by decide,_,_,(by kernel_rfl:Tryz.prog.info? 4=some Tryz.t4),rfl,Tryz.underlying4,rfl⟩
  | 1,_,_,rfl,rfl=>⟨rfl,by decide,_,_,(by kernel_rfl:Tryz.prog.info? 25=some Tryz.t25),rfl,Tryz.underlying25,rfl⟩
  | 2,_,_,rfl,rfl=>⟨rfl,by decide,_,_,(by kernel_rfl:Tryz.prog.info? 25=some Tryz.t25),rfl,Tryz.underlying25,rfl⟩
  | j+3,_,_,h,_=>by simp at h⟩⟩
theorem ahy:TyOk Tryz.prog 28 abj:=⟨⟨_,_,(by kernel_rfl:Tryz.prog.info? 28=some Tryz.t28),rfl,rfl,rfl,rfl,rfl,rfl⟩,Tryz.underlying28⟩
theorem ahz:TyOk Tryz.prog 30 abk:=⟨⟨_,_,(by kernel_rfl:Tryz.prog.info? 30=some Tryz.t30),rfl,rfl,rfl,rfl,rfl,rfl⟩,
 ⟨_,Tryz.underlying30,rfl,fun j f fd h1 h2=>match j,f,fd,h1,h2 with
  | 0,_,_,rfl,rfl=>⟨rfl,by decide,_,_,(by kernel_rfl:Tryz.prog.info? 28=some Tryz.t28),rfl,Tryz.underlying28,rfl⟩
  | 1,_,_,rfl,rfl=>⟨rfl,by decide,_,_,(by kernel_rfl:Tryz.prog.info? 27=some Tryz.t27),rfl,Tryz.underlying27,rfl⟩
  | j+2,_,_,h,_=>by simp at h⟩⟩
theorem ahA:TyOk Tryz.prog 32 abl:=⟨⟨_,_,(by kernel_rfl:Tryz.prog.info? 32=some Tryz.t32),rfl,rfl,rfl,rfl,rfl,rfl⟩,Tryz.underlying32⟩
theorem ahB:TyOk Tryz.prog 34 abm:=⟨⟨_,_,(by kernel_rfl:Tryz.prog.info? 34=some Tryz.t34),rfl,rfl,rfl,rfl,rfl,rfl⟩,Tryz.underlying34⟩
theorem ahC:TyOk Tryz.prog 35 abn:=⟨⟨_,_,(by kernel_rfl:Tryz.prog.info? 35=some Tryz.t35),rfl,rfl,rfl,rfl,rfl,rfl⟩,Tryz.underlying35⟩
theorem ahD:TyOk Tryz.prog 45 abo:=⟨⟨_,_,(by kernel_rfl:Tryz.prog.info? 45=some Tryz.t45),rfl,rfl,rfl,rfl,rfl,rfl⟩,Tryz.underlying45⟩
theorem ahE:TyOk Tryz.prog 53 abp:=⟨⟨_,_,(by kernel_rfl:Tryz.prog.info? 53=some Tryz.t53),rfl,rfl,rfl,rfl,rfl,rfl⟩,Tryz.underlying53⟩
theorem ahF:TyOk Tryz.prog 64 abq:=⟨⟨_,_,(by kernel_rfl:Tryz.prog.info? 64=some Tryz.t64),rfl,rfl,rfl,rfl,rfl,rfl⟩,⟨_,Tryz.underlying64,rfl⟩⟩
theorem ahG:TyOk Tryz.prog 67 abr:=⟨⟨_,_,(by kernel_rfl:Tryz.prog.info? 67=some Tryz.t67),rfl,rfl,rfl,rfl,rfl,rfl⟩,Tryz.underlying67⟩
theorem ahH:TyOk Tryz.prog 69 abt:=⟨⟨_,_,(by kernel_rfl:Tryz.prog.info? 69=some Tryz.t69),rfl,rfl,rfl,rfl,rfl,rfl⟩,
 ⟨_,Tryz.underlying69,rfl,fun j f fd h1 h2=>match j,f,fd,h1,h2 with
  | 0,_,_,rfl,rfl=>⟨rfl,by decide,_,_,(by kernel_rfl:Tryz.prog.info? 67=some Tryz.t67),rfl,Tryz.underlying67,rfl⟩
  | 1,_,_,rfl,rfl=>⟨rfl,by decide,_,_,(by kernel_rfl:Tryz.prog.info? 27=some Tryz.t27),rfl,Tryz.underlying27,rfl⟩
  | j+2,_,_,h,_=>by simp at h⟩⟩
theorem ahI:TyOk Tryz.prog 70 abu:=⟨⟨_,_,(by kernel_rfl:Tryz.prog.info? 70=some Tryz.t70),rfl,rfl,rfl,rfl,rfl,rfl⟩,Tryz.underlying70⟩
theorem ahJ:TyOk Tryz.prog 73 abv:=⟨⟨_,_,(by kernel_rfl:Tryz.prog.info? 73=some Tryz.t73),rfl,rfl,rfl,rfl,rfl,rfl⟩,
 ⟨_,Tryz.underlying73,rfl,fun j f fd h1 h2=>match j,f,fd,h1,h2 with
  | 0,_,_,rfl,rfl=>⟨rfl,by decide,_,_,(by kernel_rfl:Tryz.prog.info? 70=some Tryz.t70),rfl,Tryz.underlying70,rfl⟩
  | 1,_,_,rfl,rfl=>⟨rfl,by decide,_,_,(by kernel_rfl:Tryz.prog.info? 35=some Tryz.t35),rfl,Tryz.underlying35,rfl⟩
  | j+2,_,_,h,_=>by simp at h⟩⟩
theorem ahK:TyOk Tryz.prog 86 abw:=⟨⟨_,_,(by kernel_rfl:Tryz.prog.info? 86=some Tryz.t86),rfl,rfl,rfl,rfl,rfl,rfl⟩,
 ⟨_,Tryz.underlying86,rfl,fun j f fd h1 h2=>match j,f,fd,h1,h2 with
  | 0,_,_,rfl,rfl=>⟨rfl,by decide,_,_,(by kernel_rfl:Tryz.prog.info? 22=some Tryz.t22),rfl,Tryz.underlying22,rfl⟩
  | 1,_,_,rfl,rfl=>⟨rfl,by decide,_,_,(by kernel_rfl:Tryz.prog.info? 3=some Tryz.t3),rfl,Tryz.underlying3,rfl⟩
  | 2,_,_,rfl,rfl=>⟨rfl,by decide,_,_,(by kernel_rfl:Tryz.prog.info? 3=some Tryz.t3),rfl,Tryz.underlying3,rfl⟩
  | j+3,_,_,h,_=>by simp at h⟩⟩
theorem ahL:TyOk Tryz.prog 92 abx:=⟨⟨_,_,(by kernel_rfl:Tryz.prog.info? 92=some Tryz.t92),rfl,rfl,rfl,rfl,rfl,rfl⟩,⟨_,Tryz.underlying92,rfl⟩⟩
theorem abY:TyOk Tryz.prog 104 VY:=⟨⟨_,_,(by kernel_rfl:Tryz.prog.info? 104=some Tryz.t104),rfl,rfl,rfl,rfl,rfl,rfl⟩,Tryz.underlying104⟩
theorem abZ:TyOk Tryz.prog 115 VZ:=⟨⟨_,_,(by kernel_rfl:Tryz.prog.info? 115=some Tryz.t115),rfl,rfl,rfl,rfl,rfl,rfl⟩,Tryz.underlying115⟩
theorem ab0:TyOk Tryz.prog 137 V0:=⟨⟨_,_,(by kernel_rfl:Tryz.prog.info? 137=some Tryz.t137),rfl,rfl,rfl,rfl,rfl,rfl⟩,
 ⟨_,Tryz.underlying137,rfl,fun j f fd h1 h2=>match j,f,fd,h1,h2 with
  | 0,_,_,rfl,rfl=>⟨rfl,by decide,_,_,(by kernel_rfl:Tryz.prog.info? 4=some Tryz.t4),rfl,Tryz.underlying4,rfl⟩
  | j+1,_,_,h,_=>by simp at h⟩⟩
theorem ab1:TyOk Tryz.prog 139 V1:=⟨⟨_,_,(by kernel_rfl:Tryz.prog.info? 139=some Tryz.t139),rfl,rfl,rfl,rfl,rfl,rfl⟩,
 ⟨_,Tryz.underlying139,rfl,fun j f fd h1 h2=>match j,f,fd,h1,h2 with
  | 0,_,_,rfl,rfl=>⟨rfl,by decide,_,_,(by kernel_rfl:Tryz.prog.info? 25=some Tryz.t25),rfl,Tryz.underlying25,rfl⟩
  | 1,_,_,rfl,rfl=>⟨rfl,by decide,_,_,(by kernel_rfl:Tryz.prog.info? 25=some Tryz.t25),rfl,Tryz.underlying25,rfl⟩
  | j+2,_,_,h,_=>by simp at h⟩⟩
theorem ab2:TyOk Tryz.prog 141 V2:=⟨⟨_,_,(by kernel_rfl:Tryz.prog.info? 141=some Tryz.t141),rfl,rfl,rfl,rfl,rfl,rfl⟩,
 ⟨_,Tryz.underlying141,rfl,fun j f fd h1 h2=>match j,f,fd,h1,h2 with
  | 0,_,_,rfl,rfl=>⟨rfl,by decide,_,_,(by kernel_rfl:Tryz.prog.info? 137=some Tryz.t137),rfl,Tryz.underlying137,rfl⟩
  | 1,_,_,rfl,rfl=>⟨rfl,by decide,_,_,(by kernel_rfl:Tryz.prog.info? 139=some Tryz.t139),rfl,Tryz.underlying139,rfl⟩
  | j+2,_,_,h,_=>by simp at h⟩⟩
theorem ab3:TyOk Tryz.prog 151 V3:=⟨⟨_,_,(by kernel_rfl:Tryz.prog.info? 151=some Tryz.t151),rfl,rfl,rfl,rfl,rfl,rfl⟩,Tryz.underlying151⟩
theorem ab4:TyOk Tryz.prog 152 V4:=⟨⟨_,_,(by kernel_rfl:Tryz.prog.info? 152=some Tryz.t152),rfl,rfl,rfl,rfl,rfl,rfl⟩,Tryz.underlying152⟩
theorem ab5:TyOk Tryz.prog 153 V5:=⟨⟨_,_,(by kernel_rfl:Tryz.prog.info? 153=some Tryz.t153),rfl,rfl,rfl,rfl,rfl,rfl⟩,Tryz.underlying153⟩
theorem ab6:TyOk Tryz.prog 160 V6:=⟨⟨_,_,(by kernel_rfl:Tryz.prog.info? 160=some Tryz.t160),rfl,rfl,rfl,rfl,rfl,rfl⟩,⟨_,Tryz.underlying160,rfl⟩⟩
theorem ab7:TyOk Tryz.prog 164 V7:=⟨⟨_,_,(by kernel_rfl:Tryz.prog.info? 164=some Tryz.t164),rfl,rfl,rfl,rfl,rfl,rfl⟩,Tryz.underlying164⟩
theorem ab8:TyOk Tryz.prog 170 V8:=⟨⟨_,_,(by kernel_rfl:Tryz.prog.info? 170=some Tryz.t170),rfl,rfl,rfl,rfl,rfl,rfl⟩,⟨_,Tryz.underlying170,rfl⟩⟩
theorem ab9:TyOk Tryz.prog 173 V9:=⟨⟨_,_,(by kernel_rfl:Tryz.prog.info? 173=some Tryz.t173),rfl,rfl,rfl,rfl,rfl,rfl⟩,Tryz.underlying173⟩
theorem aca:TyOk Tryz.prog 178 V_:=⟨⟨_,_,(by kernel_rfl:Tryz.prog.info? 178=some Tryz.t178),rfl,rfl,rfl,rfl,rfl,rfl⟩,
 Xg Tryz.underlying178 (by kernel_rfl:Tryz.prog.info? 27=some Tryz.t27) rfl rfl aio ⟨Tryz.underlying67,by simp[Program.plainKey,Tryz.underlying3],by kernel_rfl,by kernel_rfl⟩ Tryz.underlying3 ⟨280,by kernel_rfl⟩⟩
theorem acb:TyOk Tryz.prog 179 V':=⟨⟨_,_,(by kernel_rfl:Tryz.prog.info? 179=some Tryz.t179),rfl,rfl,rfl,rfl,rfl,rfl⟩,Tryz.underlying179⟩
theorem acd:TyOk Tryz.prog 182 Wa:=⟨⟨_,_,(by kernel_rfl:Tryz.prog.info? 182=some Tryz.t182),rfl,rfl,rfl,rfl,rfl,rfl⟩,⟨_,Tryz.underlying182,rfl⟩⟩
theorem ace:TyOk Tryz.prog 184 Wb:=⟨⟨_,_,(by kernel_rfl:Tryz.prog.info? 184=some Tryz.t184),rfl,rfl,rfl,rfl,rfl,rfl⟩,
 ⟨_,Tryz.underlying184,rfl,fun j f fd h1 h2=>match j,f,fd,h1,h2 with
  | 0,_,_,rfl,rfl=>⟨rfl,by decide,_,_,(by kernel_rfl:Tryz.prog.info? 4=some Tryz.t4),rfl,Tryz.underlying4,rfl⟩
  | j+1,_,_,h,_=>by simp at h⟩⟩
theorem acf:TyOk Tryz.prog 193 Wc:=⟨⟨_,_,(by kernel_rfl:Tryz.prog.info? 193=some Tryz.t193),rfl,rfl,rfl,rfl,rfl,rfl⟩,Tryz.underlying193⟩
theorem acg:TyOk Tryz.prog 202 Wd:=⟨⟨_,_,(by kernel_rfl:Tryz.prog.info? 202=some Tryz.t202),rfl,rfl,rfl,rfl,rfl,rfl⟩,⟨_,Tryz.underlying202,rfl⟩⟩
theorem ach:TyOk Tryz.prog 216 We:=⟨⟨_,_,(by kernel_rfl:Tryz.prog.info? 216=some Tryz.t216),rfl,rfl,rfl,rfl,rfl,rfl⟩,
 Xg Tryz.underlying216 (by kernel_rfl:Tryz.prog.info? 3=some Tryz.t3) rfl rfl aip ⟨Tryz.underlying67,by simp[Program.plainKey,Tryz.underlying3],by kernel_rfl,by kernel_rfl⟩ Tryz.underlying3 ⟨280,by kernel_rfl⟩⟩
theorem aci:TyOk Tryz.prog 219 Wf:=⟨⟨_,_,(by kernel_rfl:Tryz.prog.info? 219=some Tryz.t219),rfl,rfl,rfl,rfl,rfl,rfl⟩,⟨_,Tryz.underlying219,rfl⟩⟩
theorem acj:TyOk Tryz.prog 221 Wg:=⟨⟨_,_,(by kernel_rfl:Tryz.prog.info? 221=some Tryz.t221),rfl,rfl,rfl,rfl,rfl,rfl⟩,
 ⟨_,Tryz.underlying221,rfl,fun j f fd h1 h2=>match j,f,fd,h1,h2 with
  | 0,_,_,rfl,rfl=>⟨rfl,by decide,_,_,(by kernel_rfl:Tryz.prog.info? 3=some Tryz.t3),rfl,Tryz.underlying3,rfl⟩
  | j+1,_,_,h,_=>by simp at h⟩⟩
theorem ack:TyOk Tryz.prog 229 Wh:=⟨⟨_,_,(by kernel_rfl:Tryz.prog.info? 229=some Tryz.t229),rfl,rfl,rfl,rfl,rfl,rfl⟩,Tryz.underlying229⟩
theorem acm:TyOk Tryz.prog 247 Wi:=⟨⟨_,_,(by kernel_rfl:Tryz.prog.info? 247=some Tryz.t247),rfl,rfl,rfl,rfl,rfl,rfl⟩,Tryz.underlying247⟩
theorem acn:TyOk Tryz.prog 251 Wj:=⟨⟨_,_,(by kernel_rfl:Tryz.prog.info? 251=some Tryz.t251),rfl,rfl,rfl,rfl,rfl,rfl⟩,⟨_,Tryz.underlying251,rfl⟩⟩
theorem aco:TyOk Tryz.prog 255 Wk:=⟨⟨_,_,(by kernel_rfl:Tryz.prog.info? 255=some Tryz.t255),rfl,rfl,rfl,rfl,rfl,rfl⟩,⟨_,Tryz.underlying255,rfl⟩⟩
theorem JG:ck Tryz.prog tab:=by
 refine QR (fun e he=>?_);simp only[tab,AK,List.not_mem_nil,or_false] at he;rcases he with rfl | rfl | rfl | rfl | rfl | rfl | rfl | rfl | rfl | rfl | rfl | rfl | rfl | rfl | rfl | rfl | rfl | rfl | rfl | rfl | rfl | rfl | rfl | rfl | rfl | rfl | rfl | rfl | rfl | rfl | rfl | rfl | rfl | rfl | rfl | rfl | rfl | rfl | rfl | rfl | rfl | rfl | rfl | rfl | rfl | rfl | rfl
 .exact ok3
 .exact ok4
 .exact ok5
 .exact ok9
 .exact ahu
 .exact ahv
 .exact ahw
 .exact ahx
 .exact ahy
 .exact ahz
 .exact ahA
 .exact ahB
 .exact ahC
 .exact ahD
 .exact ahE
 .exact ahF
 .exact ahG
 .exact ahH
 .exact ahI
 .exact ahJ
 .exact ahK
 .exact ahL
 .exact abY
 .exact abZ
 .exact ab0
 .exact ab1
 .exact ab2
 .exact ab3
 .exact ab4
 .exact ab5
 .exact ab6
 .exact ab7
 .exact ab8
 .exact ab9
 .exact aca
 .exact acb
 .exact acd
 .exact ace
 .exact acf
 .exact acg
 .exact ach
 .exact aci
 .exact acj
 .exact ack
 .exact acm
 .exact acn
 exact aco
theorem JH:Tryz.prog.follows .mixedOrders=true:=by kernel_rfl
theorem dq {k:FuncId} {fn:Func} (hf:Tryz.prog.funcs[k]?=some fn) (n m:Nat) {cd:Code} {H0:List Ob} {args:List PV} {H1:List Ob} {res:PV} {rs:List ResultVar} {env:List PV}
 (h:WA Tryz.prog tab m cd ⟨env,H0⟩ (UO tab rs m H1 res) ⟨⟩) (hb:fn.body=some cd:=by exact rfl) (lj:(fn.name== "runtime.NumGoroutine")=false:=by decide) (hr:fn.results=List.toArray rs:=by exact rfl) (hn:fn.ntmps - args.length=n:=by exact rfl) (he:args++replicate n .any=env:=by exact rfl) (zn:H0.length=m:=by exact rfl):Den Tryz.prog k H0 args H1 res:=I2 JG JH hf hb lj hr hn he zn h
theorem Wl {k:FuncId} {fn:Func} (hf:Tryz.prog.funcs[k]?=some fn) (n m:Nat) {cd:Code} {H0:List Ob} {args:List PV} {R:List Ob->PV->Prop} {rs:List ResultVar} {env:List PV}
 (h:WA Tryz.prog tab m cd ⟨env,H0⟩ (US tab rs m R) ⟨⟩) (hb:fn.body=some cd:=by exact rfl) (lj:(fn.name== "runtime.NumGoroutine")=false:=by decide) (hr:fn.results=List.toArray rs:=by exact rfl) (hn:fn.ntmps - args.length=n:=by exact rfl) (he:args++replicate n .any=env:=by exact rfl) (zn:H0.length=m:=by exact rfl): ∃ H1 res,R H1 res/\Den Tryz.prog k H0 args H1 res:=Rt JG JH hf hb lj hr hn he zn h
end Go.Proofs.YtjjbkjgifdhlcaaGreat
namespace Go.Pl
abbrev B:Nat:=4294967296
def val:List Nat->Nat
 | []=>0
 | d::l=>d+B*val l
def Dig (l:List Nat):Prop:= ∀ d∈l,d<B
theorem Dig.nil:Dig []:=by simp[Dig]
theorem Dig.cons {d:Nat} {l:List Nat} (h:Dig (d::l)):d<B/\Dig l:=⟨h d (by simp),fun x hx=>h x (by simp[hx])⟩
theorem Dig.mk {d:Nat} {l:List Nat} (h:d<B) (k:Dig l):Dig (d::l):=fun x hx=>by
 simp only[AK] at hx;rcases hx with rfl | hx
 .exact h
 exact k x hx
theorem Dig.take {l:List Nat} (h:Dig l) (n:Nat):Dig (l.take n):=fun d hd=>h d (Cg hd)
theorem Dig.drop {l:List Nat} (h:Dig l) (n:Nat):Dig (l.drop n):=fun d hd=>h d (VX hd)
theorem Dig.app {l k:List Nat} (h:Dig l) (h2:Dig k):Dig (l++k):=fun d hd=>by
 rcases List.mem_append.1 hd with hd | hd
 .exact h d hd
 exact h2 d hd
theorem Dig.set {l:List Nat} (h:Dig l) (i:Nat) {x:Nat} (hx:x<B):Dig (l.set i x):=fun d hd=>by
 rcases List.mem_or_eq_of_mem_set hd with hd | rfl
 .exact h d hd
 exact hx
theorem Dig.getD {l:List Nat} (h:Dig l) (i:Nat):l.getD i 0<B:=by
 by_cases hi:i<l.length
 .have:l.getD i 0=l[i]:=by simp[hi]
  rw[this];exact h _ (kj hi)
 have:l.getD i 0=0:=by simp[hi]
 rw[this];decide
theorem Dig.zeros {n:Nat}:Dig (replicate n 0):=fun d hd=>by
 rw[List.eq_of_mem_replicate hd];decide
theorem rD (l k:List Nat):val (l++k)=val l+B^l.length*val k:=by
 induction l with
 | nil=>simp[val]
 | cons d l ih=>
  simp only[List.cons_append,val,ih,length_cons,Nat.pow_succ];rw[Nat.mul_add,<-Nat.mul_assoc,Nat.mul_comm B (B^l.length),Nat.add_assoc]
theorem bF {l:List Nat} (h:Dig l):val l<B^l.length:=by
 induction l with
 | nil=>simp[val]
 | cons d l ih=>
  obtain⟨h1,h2⟩:=h.cons;have:=ih h2;simp only[val,length_cons,Nat.pow_succ];have h3:val l+1<=B^l.length:=this;have h4:(val l+1)*B<=B^l.length*B:=qn _ h3;rw[Nat.add_mul,Nat.mul_comm (val l) B] at h4;omega
theorem AL (n:Nat):val (replicate n 0)=0:=by
 induction n with
 | zero=>rfl
 | succ n ih=>simp[List.replicate_succ,val,ih]
def ai (n:Nat):List Nat:=if _h:n=0 then [] else n % B::ai (n / B)
termination_by n
decreasing_by exact Nat.div_lt_self (by omega) (by decide)
theorem bx:ai 0=[]:=by rw[ai];simp
theorem pO {n:Nat} (h:n≠0):ai n=n % B::ai (n / B):=by rw[ai];simp[h]
theorem ao (n:Nat):Dig (ai n):=by
 induction n using Nat.strongRecOn with
 | _ n ih=>
  by_cases h:n=0
  .subst h;rw[bx];exact Dig.nil
  rw[pO h];exact Dig.mk (Nat.mod_lt _ (by decide)) (ih _ (Nat.div_lt_self (by omega) (by decide)))
theorem aj (n:Nat):val (ai n)=n:=by
 induction n using Nat.strongRecOn with
 | _ n ih=>
  by_cases h:n=0
  .subst h;rw[bx];rfl
  rw[pO h];simp only[val];rw[ih _ (Nat.div_lt_self (by omega) (by decide))];exact Nat.mod_add_div n B
def kT (l:List Nat):List Nat:=if h:0<l.length then(if l.getD (l.length - 1) 0=0 then kT (l.take (l.length - 1)) else l) else l
termination_by l.length
decreasing_by simp[length_take];omega
theorem q5 {d:Nat} {l:List Nat} (hd:d<B) (h:d≠0\/val l≠0):ai (val (d::l))=d::ai (val l):=by
 have cM:val (d::l)≠0:=by
  simp only[val];rcases h with h | h
  .omega
  have:0<B*val l:=Nat.mul_pos (by decide) (by omega);omega
 rw[pO cM];have h1:(d+B*val l) % B=d:=by rw[Nat.add_mul_mod_self_left,Nat.mod_eq_of_lt hd]
 have h2:(d+B*val l) / B=val l:=by rw[Nat.add_mul_div_left _ _ (by decide),Nat.div_eq_of_lt hd,Nat.zero_add]
 simp only[val,h1,h2]
theorem mc {l:List Nat} (hd:Dig l) (h:l=[]\/l.getD (l.length - 1) 0≠0):ai (val l)=l:=by
 induction l with
 | nil=>exact bx
 | cons d l ih=>
  obtain⟨h1,h2⟩:=hd.cons;rcases h with h | h
  .cases h
  by_cases hl:l=[]
  .subst hl;simp at h;rw[q5 h1 (.inl h)];simp[val,bx]
  obtain⟨e,k,rfl⟩:=List.exists_cons_of_ne_nil hl;have h3:(e::k).getD ((e::k).length - 1) 0≠0:=by
   simpa using h
  have h4:=ih h2 (.inr h3);have h5:val (e::k)≠0:=by
   intro h0;rw[h0,bx] at h4;cases h4
  rw[q5 h1 (.inr h5),h4]
theorem sF (l:List Nat) (hd:Dig l):kT l=ai (val l):=by
 generalize hn:l.length=n
 induction n generalizing l with
 | zero=>
  have:=List.eq_nil_of_length_eq_zero hn;subst this;rw[kT];simp[val,bx]
 | succ n ih=>
  rw[kT,dif_pos (by omega)];split
  .rename_i h0;rw[ih _ (hd.take _) (by simp[hn])];have:l=l.take (l.length - 1)++[0]:=by
    have h1:l.drop (l.length - 1)=[0]:=by
     have aH:l.length - 1<l.length:=by omega
     rw[drop_eq_getElem_cons aH];have h2:l.getD (l.length - 1) 0=l[l.length - 1]:=by simp[aH]
     rw[<-h2,h0];simp;omega
    conv=>lhs;rw[<-List.take_append_drop (l.length - 1) l,h1]
   conv=>rhs;rw[this,rD]
   simp[val]
  rename_i h0;exact(mc hd (.inr h0)).symm
theorem aB {n k:Nat} (h:n<B^k):(ai n).length<=k:=by
 induction k generalizing n with
 | zero=>
  have:n=0:=by simpa using h
  subst this;rw[bx];simp
 | succ k ih=>
  by_cases h0:n=0
  .subst h0;rw[bx];simp
  rw[pO h0,length_cons];have:n / B<B^k:=by
   rw[Nat.div_lt_iff_lt_mul (by decide)];rw[Nat.pow_succ] at h;exact h
  have:=ih this;omega
theorem bI {n:Nat}:n<B^(ai n).length:=by
 have:=bF (ao n);rwa [aj] at this
theorem aJ (l:List Nat) (i:Nat):val (l.take (i+1))=val (l.take i)+B^i*l.getD i 0:=by
 by_cases hi:i<l.length
 .rw[List.take_succ_eq_append_getElem hi,rD];have h1:l.getD i 0=l[i]:=by simp[hi]
  have h2:(l.take i).length=i:=by rw[length_take];omega
  rw[h1,h2];simp[val]
 rw[eE (by omega),eE (by omega)];have h1:l.getD i 0=0:=by simp[hi]
 rw[h1];simp
theorem cq {l:List Nat} {i:Nat} (hi:i<l.length) (x:Nat):val ((l.set i x).take (i+1))=val (l.take i)+B^i*x:=by
 rw[aJ];have h1:(l.set i x).take i=l.take i:=by rw[List.take_set_of_le (qp i)]
 have h2:(l.set i x).getD i 0=x:=by simp[hi]
 rw[h1,h2]
theorem aR {l:List Nat} {n:Nat} (h:l.length<=n):val (l.take n)=val l:=by rw[eE h]
theorem ko (p s:Nat):p*(s % B)+s / B*(p*B)=p*s:=by
 conv=>rhs;rw[<-Nat.mod_add_div s B]
 rw[Nat.mul_add,<-Nat.mul_assoc p B,Nat.mul_comm (s / B) (p*B)]
theorem jT {x y:Nat} (h:(ai x).length<(ai y).length):x<y:=by
 rcases Nat.lt_or_ge x y with h1 | h1
 .exact h1
 have h2:y<B^(ai x).length:=Hr h1 bI;have:=aB h2;omega
theorem jl (l:List Nat) (k:Nat) (hk:k<=l.length):val l=val (l.take k)+B^k*val (l.drop k):=by
 conv=>lhs;rw[<-List.take_append_drop k l,rD]
 rw[length_take,Nat.min_eq_left hk]
theorem sG {p q:List Nat} {j:Nat} (hp:Dig p) (hjp:j<p.length) (hjq:j<q.length) (hd:p.drop (j+1)=q.drop (j+1)) (h:p.getD j 0<q.getD j 0):val p<val q:=by
 rw[jl p (j+1) (by omega),jl q (j+1) (by omega),hd,aJ,aJ];have h1:=bF (hp.take j);rw[length_take,Nat.min_eq_left (by omega)] at h1;have h2:B^j*(p.getD j 0+1)<=B^j*q.getD j 0:=Nat.mul_le_mul_left _ h;rw[Nat.mul_add] at h2;omega
def ou (x y:Nat):Int:=if x<y then -1 else if y<x then 1 else 0
theorem pP {x y:Nat} (h:x<y):ou x y= -1:=by simp[ou,h]
theorem wD {x y:Nat} (h:y<x):ou x y=1:=by simp[ou,h];omega
theorem JI {x:Nat}:ou x x=0:=by simp[ou]
def N (n:Nat):AM.FV:= .sl (AM.u32s (ai n))
end Go.Pl
namespace Go.Proofs.YtjjbkjgifdhlcaaGreat
open Go.AM Go.Pl
set_option maxRecDepth 100000
set_option maxHeartbeats 1000000
theorem ic (l:List Nat) (hd:Dig l) (hl:l.length<1000000000000):Den Tryz.prog 178 [] [.fv (.sl (u32s l))] [] (.fv (N (val l))):=by
 refine dq Tryz.func178 20 0 ?_;refine aX ?_;refine wl (α:=List Nat) (fun l=>⟨.fv (.sl (u32s l)):: .any:: .nilsl::replicate 18 .any,[]⟩) List.length (fun k=>k.length<1000000000000/\kT k=kT l) l ?_ ?_ ?_
 .refine wk [] List.nodup_nil rfl ?_ ?_
  .simp[bc,dX,cB]
  trivial
 .exact⟨hl,rfl⟩
 rintro k ⟨hk,rk⟩;refine a9 ?_;refine bR ?_ ?_
 .intro h1 h2;refine ae h2 ?_;refine⟨by omega,?_⟩;refine Br.beqInt ?_ ?_
  .intro h3 h4;refine ae h4 ?_;refine⟨by omega,?_⟩;refine ap (k.take (k.length - 1)) (by simp;omega) ?_ ⟨by simp;omega,?_⟩
   .refine wk [] List.nodup_nil rfl ?_ ?_
    .have:((k.length:Int) - 1).toNat=k.length - 1:=by omega
     simp[bc,dX,cB,this]
    trivial
   rw[<-rk];rw[kT.eq_def k,dif_pos (by omega),if_pos];have:((k.length:Int) - 1).toNat=k.length - 1:=by omega
   rw[this] at h3;simpa using h3
  intro h3 h4;refine ae h4 ?_;refine bg ?_;simp(disch:=omega) only[N,St.get,tN,cH,y9,t_,gj,fP,Option.map_some,qk,getD_cons_zero];rw[<-sF l hd,<-rk,kT.eq_def,dif_pos (by omega),if_neg];have:((k.length:Int) - 1).toNat=k.length - 1:=by omega
  rw[this] at h3;simpa using h3
 intro h1 h2;refine ae h2 ?_;refine bg ?_;simp(disch:=omega) only[N,St.get,tN,cH,y9,t_,gj,fP,Option.map_some,qk,getD_cons_zero];rw[<-sF l hd,<-rk,kT.eq_def,dif_neg (by omega)]
theorem Wm (xs:List (List FV)) (hs: ∀ y∈xs,y.length=1) (hl:xs.length<1000000000000):Den Tryz.prog 214 [] [.fv (.sl xs)] [] (.fv (.sl xs)):=by
 cases xs with
 | nil=>
  refine Den.empty (pre:=[]) (post:=[]) ?_ (fun ad cap=>?_)
  .refine dq Tryz.func214 7 0 ?_;refine aX ?_;refine bg ?_;exact Hd
  .refine dq Tryz.func214 7 0 ?_;refine aX ?_;refine bg ?_;exact Hd
 | cons x xs=>
  refine dq Tryz.func214 7 0 ?_;refine aX ?_;refine⟨⟨hs,by simp only[length_cons] at hl;omega⟩,?_⟩;refine bg ?_;refine qS ?_;simp
theorem JJ (a b c:Nat) (ha:a<4294967296) (hb:b<4294967296) (hc:c<=1):Den Tryz.prog 180 [] [.int .u32 a,.int .u32 b,.int .u32 c] [] (.tup [.int .u32 ((a+b+c) % 4294967296:Nat),.int .u32 ((a+b+c) / 4294967296:Nat)]):=by
 refine dq Tryz.func180 19 0 ?_;refine aX ?_;refine⟨by omega,?_⟩;refine bg ?_;refine qS ?_;simp[dm]
theorem acp (a b:Nat) (ha:a<4294967296) (hb:b<4294967296):Den Tryz.prog 179 [] [.int .u32 a,.int .u32 b] [] (.tup [.int .u32 ((a*b) / 4294967296:Nat),.int .u32 ((a*b) % 4294967296:Nat)]):=by
 have hm:a*b<18446744073709551616:=by
  have:a*b<=4294967295*4294967295:=Nat.mul_le_mul (by omega) (by omega);omega
 have kR:(a:Int)*b=((a*b:Nat):Int):=by simp
 refine dq Tryz.func179 15 0 ?_;refine b8 kR ?_;refine⟨by omega,?_⟩;refine bg ?_;refine qS ?_;simp[dm]
theorem acq (a b:List Nat) (ha:Dig a) (hb:Dig b) (wo:a.length<100000000000) (wW:b.length<100000000000):Den Tryz.prog 175 [] [.fv (.sl (u32s a)),.fv (.sl (u32s b))] [] (.fv (N (val a+val b))):=by
 refine dq Tryz.func175 52 0 ?_;refine WA.assoc ?_;refine WA.cut (α:=List Nat×List Nat×List PV) (fun⟨p,q,z⟩=>⟨.fv (.sl (u32s p)):: .fv (.sl (u32s q)):: .any:: .any:: .nilsl:: .any:: .any:: .any:: .any:: .any::(z++replicate 37 .any),[]⟩)
  (fun⟨p,q,z⟩=>Dig p/\Dig q/\q.length<=p.length/\p.length<100000000000/\val p+val q=val a+val b/\z.length=7) ?_ ?_
 .refine aX ?_;refine bR ?_ ?_
  .intro h1 h2;refine ae h2 ?_;refine Mid.mk (b,a,[_,_,_,_,_,_,_]) rfl ⟨hb,ha,by dsimp only;omega,wW,by dsimp only;omega,rfl⟩
  intro h1 h2;refine ae h2 ?_;refine Mid.mk (a,b,[_,_,_,_,_,_,_]) rfl ⟨ha,hb,by dsimp only;omega,wo,rfl,rfl⟩
 rintro⟨p,q,z⟩ ⟨hp,hq,aD,UT,hv,hz⟩;obtain⟨z0,z1,z2,z3,z4,z5,z6,rfl⟩: ∃ z0 z1 z2 z3 z4 z5 z6,z=[z0,z1,z2,z3,z4,z5,z6]:=by
  match z,hz with
  | [z0,z1,z2,z3,z4,z5,z6],_=>exact⟨_,_,_,_,_,_,_,rfl⟩
 refine aX ?_;refine⟨by omega,?_⟩;have hn:((p.length:Int)+1).toNat=p.length+1:=by omega
 refine wl (α:=Nat×Nat×List Nat) (fun⟨i,c,out⟩=>⟨.fv (.sl (u32s p)):: .fv (.sl (u32s q)):: .any:: .any:: .nilsl:: .lsl 0 0 (p.length+1) 1:: .int .u32 c::(replicate 14 .any++ .fv (.sl (u32s p)):: .int .i64 p.length:: .int .i64 i::replicate 30 .any),[.row true (u32s out)]⟩)
  (fun⟨i,_,_⟩=>p.length - i)
  (fun⟨i,c,out⟩=>i<=p.length/\c<=1/\out.length=p.length+1/\Dig out/\val (out.take i)+c*B^i=val (p.take i)+val (q.take i)) (0,0,replicate (p.length+1) 0) ?_ ?_ ?_
 .refine eV [0] ?_ ?_
  .simp[bc,dX,cB,hn]
  simp[ez,fL,hn]
 .exact⟨by omega,by omega,by simp,Dig.zeros,by simp[val]⟩
 rintro⟨i,c,out⟩ ⟨hi,hc,ho,hd,mT⟩;refine aX ?_;refine bR ?_ ?_
 .intro h1 h2;refine ae h2 ?_;refine⟨by omega,?_⟩;have Sq:=hp.getD i;have Sr:=hq.getD i;have bP:=cq (l:=out) (i:=i) (by omega) ((p.getD i 0+q.getD i 0+c) % 4294967296);have eI:=ko (B^i) (p.getD i 0+q.getD i 0+c);have UU:=aJ p i;have Ze:=aJ q i;have da:val ((out.set i ((p.getD i 0+q.getD i 0+c) % 4294967296)).take (i+1))+(p.getD i 0+q.getD i 0+c) / 4294967296*B^(i+1)=val (p.take (i+1))+val (q.take (i+1)):=by
   rw[Nat.pow_succ,bP,UU,Ze];rw[Nat.mul_add,Nat.mul_add] at eI;rw[Nat.mul_comm (B^i) c] at eI;simp only[B] at*;omega
  have oz:Dig (out.set i ((p.getD i 0+q.getD i 0+c) % 4294967296)):=hd.set i (Nat.mod_lt _ (by decide));have qO:(p.getD i 0+q.getD i 0+c) / 4294967296<=1:=by simp only[B] at*;omega
  simp only[B] at Sq Sr;have fin: ∀ x:Int,x=((q.getD i 0:Nat):Int)->cC [Ob.row true (u32s out)] ([]++[PV.fv (FV.lit (Value.int IntKind.u32 ((p.getD i 0:Nat):Int))),PV.int IntKind.u32 x,PV.int IntKind.u32 (c:Int)]++[])=some [.int .u32 ((p.getD i 0:Nat):Int),.int .u32 ((q.getD i 0:Nat):Int),.int .u32 (c:Int)]:=by
   intro x hx;subst hx;rfl
  refine bR ?_ ?_
  .intro h3 h4;refine ae h4 ?_;refine⟨by omega,?_⟩;refine gp (JJ _ _ _ Sq Sr hc) (fin _ rfl) ?_;refine a9 ?_;refine⟨by omega,by omega,?_⟩;refine ax (i+1,(p.getD i 0+q.getD i 0+c) / 4294967296,out.set i ((p.getD i 0+q.getD i 0+c) % 4294967296)) ?_ ⟨by omega,qO,by simp[ho],oz,da⟩;exact bN [0]
  intro h3 h4;have h0:(0:Int)=((q.getD i 0:Nat):Int):=by
   have:q.getD i 0=0:=by rw[qa,List.getElem?_eq_none (by omega)];rfl
   rw[this];rfl
  refine ae h4 ?_;refine gp (JJ _ _ _ Sq Sr hc) (fin _ h0) ?_;refine a9 ?_;refine⟨by omega,by omega,?_⟩;refine ax (i+1,(p.getD i 0+q.getD i 0+c) / 4294967296,out.set i ((p.getD i 0+q.getD i 0+c) % 4294967296)) ?_ ⟨by omega,qO,by simp[ho],oz,da⟩;exact bN [0]
 intro h1 h2;refine ae h2 ?_;have UW:i=p.length:=by omega
 subst UW;refine⟨by omega,by omega,?_⟩;have N7:val (out.set p.length c)=val a+val b:=by
  have h3:=cq (l:=out) (i:=p.length) (by omega) c;rw[aR (by simp;omega)] at h3;rw[aR (qp _),aR aD] at mT;rw[h3,<-hv,<-mT,Nat.mul_comm]
 have hdf:Dig (out.set p.length c):=hd.set _ (by simp only[B];omega);refine gp (ic (out.set p.length c) hdf (by simp;omega)) ?_ ?_
 .simp[cC,iw,gj,fP,aM,ho];rw[eE (by simp[aM,ho])]
 refine a9 ?_;refine bg ?_;refine qS ?_;rw[N7]
end Go.Proofs.YtjjbkjgifdhlcaaGreat
namespace Go.Pl
open Go.AM
theorem Cj {x y:Nat} (k:Nat) (hx:x % 2^k=0) (hy:y<2^k):x||| y=x+y:=by
 obtain⟨h,rfl⟩: ∃ h,x=2^k*h:=⟨x / 2^k,by have:=Nat.mod_add_div x (2^k);omega⟩;exact(Nat.two_pow_add_eq_or_of_lt hy h).symm
theorem dY {x:Int} (h:0<=x/\x<18446744073709551616):(BitVec.ofInt IntKind.u64.bits x).toNat=x.toNat:=by
 show(BitVec.ofInt 64 x).toNat=x.toNat;rw[BitVec.toNat_ofInt];have:((2^64:Nat):Int)=18446744073709551616:=by decide
 rw[this];omega
theorem q6 {x:Int} (h:0<=x/\x<4294967296):(BitVec.ofInt IntKind.u32.bits x).toNat=x.toNat:=by
 show(BitVec.ofInt 32 x).toNat=x.toNat;rw[BitVec.toNat_ofInt];have:((2^32:Nat):Int)=4294967296:=by decide
 rw[this];omega
theorem wE (z:BitVec IntKind.u64.bits):IntKind.u64.wrap (z.toNat:Int)=(z.toNat:Int):=by
 have:z.toNat<2^64:=z.isLt;rw[dF (by omega)]
theorem JK (z:BitVec IntKind.u32.bits):IntKind.u32.wrap (z.toNat:Int)=(z.toNat:Int):=by
 have:z.toNat<2^32:=z.isLt;rw[cP (by omega)]
theorem D5 {w:Nat} (z:BitVec w):BitVec.ofInt w (z.toNat:Int)=z:=by
 rw[BitVec.ofInt_natCast,BitVec.ofNat_toNat,BitVec.setWidth_eq]
theorem vt {x y:Int} (hx:0<=x/\x<18446744073709551616/\x % 4294967296=0) (hy:0<=y/\y<4294967296):
 IntKind.u64.wrap ((BitVec.ofInt IntKind.u64.bits x||| BitVec.ofInt IntKind.u64.bits y).toNat:Int)=x+y:=by
 rw[wE,BitVec.toNat_or,dY (by omega),dY (by omega),Cj 32 (by omega) (by omega)]
 omega
theorem Wn {x y:Int} (hy:0<=y/\y<18446744073709551616/\y % 4294967296=0) (hx:0<=x/\x<4294967296):
 IntKind.u64.wrap ((BitVec.ofInt IntKind.u64.bits x||| BitVec.ofInt IntKind.u64.bits y).toNat:Int)=x+y:=by
 rw[wE,BitVec.toNat_or,dY (by omega),dY (by omega),Nat.or_comm,Cj 32 (by omega) (by omega)]
 omega
theorem Ox {x:Int} (hx:0<=x/\x<18446744073709551616):
 IntKind.u64.wrap ((BitVec.ofInt IntKind.u64.bits x&&& BitVec.ofInt IntKind.u64.bits 4294967295).toNat:Int)=x % 4294967296:=by
 rw[wE,BitVec.toNat_and,dY (by omega),dY (by omega)]
 have:(4294967295:Int).toNat=2^32 - 1:=by decide
 rw[this,Nat.and_two_pow_sub_one_eq_mod]
 omega
theorem acr (z:BitVec 32):z.toNat / 2147483648=if z.msb then 1 else 0:=by
 have h1:z.toNat<2^32:=z.isLt;rw[BitVec.msb_eq_decide];by_cases h:2^(32 - 1)<=z.toNat
 .simp only[h,decide_true,if_true];omega
 simp only[h,decide_false];simp;omega
theorem Oy {v v0 P c x y o lo ca Q Bi Bk:Nat} (hP:P=Bi*Bk) (hv:v+c*P=v0+x*Q*Bi) (hs:lo+ca*4294967296=x*y+o+c):
 v+P*lo+ca*(P*4294967296)=v0+P*o+x*(Q+Bk*y)*Bi:=by
 subst hP
 grind
theorem LI {m o c:Nat} (hm:m<=18446744065119617025) (ho:o<4294967296) (hc:c<4294967296):
 ((m % 4294967296+o+0) % 4294967296+c+0) % 4294967296+(m / 4294967296+(m % 4294967296+o+0) / 4294967296+((m % 4294967296+o+0) % 4294967296+c+0) / 4294967296)*4294967296=m+o+c/\
 m / 4294967296+(m % 4294967296+o+0) / 4294967296+((m % 4294967296+o+0) % 4294967296+c+0) / 4294967296<4294967296:=by
 omega
theorem eA {l:List Nat} {j:Nat} (h:j<l.length):val (l.drop j)=l.getD j 0+B*val (l.drop (j+1)):=by
 rw[drop_eq_getElem_cons h];simp[val,h]
theorem mY {l:List Nat} {j x:Nat} (h:j<l.length):val ((l.set j x).drop j)=x+B*val (l.drop (j+1)):=by
 rw[eA (by simpa using h)];have h1:(l.set j x).getD j 0=x:=by simp[h]
 rw[h1,List.drop_set_of_lt (by omega)]
theorem ahM {x y:Nat} (k:Nat) (hx:x<2^k) (hy:y % 2^k=0) (qT:x<4294967296) (vi:y<4294967296):
 IntKind.u32.wrap ((BitVec.ofInt IntKind.u32.bits (x:Int)||| BitVec.ofInt IntKind.u32.bits (y:Int)).toNat:Int)=((x+y:Nat):Int):=by
 rw[JK,BitVec.toNat_or,q6 (by omega),q6 (by omega),Int.toNat_natCast,Int.toNat_natCast,Nat.or_comm,Cj k hy hx,Nat.add_comm]
theorem D6 {d k:Nat} (hk:k<=32):(d*2^k) % 4294967296 % 2^k=0:=by
 have h:4294967296=2^k*2^(32 - k):=by
  rw[<-Nat.pow_add,show k+(32 - k)=32 by omega]
 rw[h,Nat.mod_mul_right_mod,Nat.mul_mod_left]
theorem D7 {a k:Nat} (hk:k<=32) (h:a % 2^k=0) (ha:a<4294967296):a+2^k<=4294967296:=by
 have hb:4294967296=2^k*2^(32 - k):=by
  rw[<-Nat.pow_add,show k+(32 - k)=32 by omega]
 obtain⟨t,rfl⟩: ∃ t,a=2^k*t:=⟨a / 2^k,by have:=Nat.mod_add_div a (2^k);omega⟩;have h1:2^k*t<2^k*2^(32 - k):=by rw[<-hb];exact ha
 have h2:t<2^(32 - k):=Nat.lt_of_mul_lt_mul_left h1;have h3:2^k*(t+1)<=2^k*2^(32 - k):=Nat.mul_le_mul_left _ h2;rw[Nat.mul_add,Nat.mul_one,<-hb] at h3;exact h3
def h_:Nat->Nat->List Nat
 | 0,_=>[]
 | n+1,x=>x % B::h_ n (x / B)
theorem cy (n x:Nat):(h_ n x).length=n:=by
 induction n generalizing x with
 | zero=>rfl
 | succ n ih=>simp[h_,ih]
theorem kr (n x:Nat):Dig (h_ n x):=by
 induction n generalizing x with
 | zero=>exact Dig.nil
 | succ n ih=>exact Dig.mk (Nat.mod_lt _ (by decide)) (ih _)
theorem Ck {l:List Nat} (h:Dig l):l=h_ l.length (val l):=by
 induction l with
 | nil=>rfl
 | cons d l ih=>
  obtain⟨h1,h2⟩:=h.cons;simp only[length_cons,h_,val];rw[Nat.add_mul_mod_self_left,Nat.mod_eq_of_lt h1,Nat.add_mul_div_left _ _ (by decide),Nat.div_eq_of_lt h1,Nat.zero_add,<-ih h2]
theorem ku {n x:Nat} (h:x<B^n):val (h_ n x)=x:=by
 induction n generalizing x with
 | zero=>simp at h;subst h;rfl
 | succ n ih=>
  have h1:x / B<B^n:=by
   rw[Nat.div_lt_iff_lt_mul (by decide)];rw[Nat.pow_succ] at h;exact h
  simp only[h_,val];rw[ih h1];exact Nat.mod_add_div x B
theorem Oz (a b c:Nat) (ha:a<4294967296) (hb:b<4294967296) (hc:c<=1):
 ((~~~(BitVec.ofNat 32 a)&&& BitVec.ofNat 32 b||| ~~~(BitVec.ofNat 32 a^^^BitVec.ofNat 32 b)&&& BitVec.ofNat 32 (4294967296+a - b - c)):BitVec 32).toNat / 2147483648=if a<b+c then 1 else 0:=by
 rw[acr]
 simp only[BitVec.msb_or,BitVec.msb_and,BitVec.msb_not,BitVec.msb_xor]
 simp only[BitVec.msb_eq_decide,BitVec.toNat_ofNat]
 have e1:a % 2^32=a:=Nat.mod_eq_of_lt (by omega)
 have e2:b % 2^32=b:=Nat.mod_eq_of_lt (by omega)
 rw[e1,e2]
 generalize hd:(4294967296+a - b - c) % 2^32=d
 by_cases h1:2^(32 - 1)<=a<;>by_cases h2:2^(32 - 1)<=b<;>by_cases h3:2^(32 - 1)<=d<;>by_cases h4:a<b+c<;>simp[h1,h2,h3,h4]<;>omega
theorem XN:(if IntKind.u32.signed=true then(-1:Int) else IntKind.u32.max)=4294967295:=by decide
theorem ahN (x:BitVec IntKind.u32.bits):BitVec.ofInt IntKind.u32.bits 4294967295^^^x= ~~~x:=by
 have:(BitVec.ofInt IntKind.u32.bits 4294967295)=BitVec.allOnes IntKind.u32.bits:=by decide
 rw[this,BitVec.allOnes_xor]
theorem XO (n:Nat):BitVec.ofInt IntKind.u32.bits (n:Int)=BitVec.ofNat IntKind.u32.bits n:=BitVec.ofInt_natCast _ _
end Go.Pl
namespace Go.Proofs.YtjjbkjgifdhlcaaGreat
open Go.AM Go.Pl
set_option maxRecDepth 100000
set_option maxHeartbeats 1000000
theorem bB (n:Nat):N n= .sl (u32s (ai n)):=rfl
theorem D8 (l:List Nat) (hd:Dig l) (hl:l.length<1000000000000):Den Tryz.prog 181 [] [.fv (.sl (u32s l))] [] (.fv (N (val l))):=by
 refine dq Tryz.func181 5 0 ?_;refine aX ?_;refine gp (ic l hd hl) rfl ?_;refine a9 ?_;have hlv:(ai (val l)).length<=l.length:=aB (bF hd);refine gp (Wm (u32s (ai (val l))) (by simp[u32s]) (by simp[u32s];omega)) rfl ?_;refine a9 ?_;refine bg ?_;simp(disch:=omega) only[N,St.get,tN,cH,y9,t_,gj,fP,Option.map_some,qk,getD_cons_zero]
theorem D9 (a b:List Nat) (ha:Dig a) (hb:Dig b) (wo:a.length<100000000000) (wW:b.length<100000000000):Den Tryz.prog 176 [] [.fv (.sl (u32s a)),.fv (.sl (u32s b))] [] (.int .i64 (ou (val a) (val b))):=by
 have hxa:(ai (val a)).length<=a.length:=aB (bF ha);have lr:(ai (val b)).length<=b.length:=aB (bF hb);have Zg:=ao (val a);have UX:=ao (val b);refine dq Tryz.func176 45 0 ?_;refine aX ?_;refine gp (ic a ha (by omega)) rfl ?_;refine a9 ?_;refine gp (ic b hb (by omega)) rfl ?_;refine ae @bB ?_;refine Br.bneInt ?_ ?_
 .intro h1 h2;refine ae h2 ?_;refine bR ?_ ?_
  .intro h3 h4;refine ae h4 ?_;refine bg ?_;refine qS ?_;rw[pP (jT (by omega))]
  intro h3 h4;refine ae h4 ?_;refine bg ?_;refine qS ?_;rw[wD (jT (by omega))]
 intro h1 h2;refine ae h2 ?_;generalize hp:ai (val a)=p at*;generalize hq:ai (val b)=q at*;refine wl (α:=Nat) (fun k=>⟨.fv (.sl (u32s p)):: .fv (.sl (u32s q)):: .any:: .any:: .int .i64 0:: .int .i64 ((k:Int) - 1)::replicate 41 .any,[]⟩) (fun k=>k) (fun k=>k<=p.length/\p.drop k=q.drop k) p.length ?_ ?_ ?_
 .exact bN []
 .exact⟨qp _,by rw[List.drop_of_length_le (qp _),List.drop_of_length_le (by omega)]⟩
 rintro k ⟨hk,No⟩;refine aX ?_;refine bR ?_ ?_
 .intro h3 h4;refine ae h4 ?_;refine dw (by kernel_rfl) ?_;refine a9 ?_;refine⟨by omega,by omega,?_⟩;obtain⟨j,rfl⟩: ∃ j,k=j+1:=⟨k - 1,by omega⟩;have hj:(((j+1:Nat):Int) - 1).toNat=j:=by omega
  rw[hj];have Al:val p=val a:=by rw[<-hp,aj]
  have Lj:val q=val b:=by rw[<-hq,aj]
  refine bR ?_ ?_
  .intro h5 h6;refine ae h6 ?_;refine bg ?_;refine qS ?_;rw[<-Al,<-Lj,pP (sG Zg (by omega) (by omega) No (by omega))]
  intro h5 h6;refine ae h6 ?_;refine dw (by kernel_rfl) ?_;refine ae hj ?_;refine⟨by omega,by omega,?_⟩;refine bR ?_ ?_
  .intro h7 h8;refine ae h8 ?_;refine bg ?_;refine qS ?_;rw[<-Al,<-Lj,wD (sG UX (by omega) (by omega) No.symm (by omega))]
  intro h7 h8;refine ae h8 ?_;refine ax j ?_ ⟨by omega,?_⟩
  .exact bN []
  have Zh:p.drop j=p.getD j 0::p.drop (j+1):=by rw[drop_eq_getElem_cons (by omega)];simp[show j<p.length by omega]
  have hqj:q.drop j=q.getD j 0::q.drop (j+1):=by rw[drop_eq_getElem_cons (by omega)];simp[show j<q.length by omega]
  rw[Zh,hqj,No,show p.getD j 0=q.getD j 0 by omega]
 intro h3 h4;refine ae h4 ?_;refine bg ?_;refine qS ?_;have Ru:k=0:=by omega
 subst Ru;simp only[List.drop_zero] at No;subst No;have:val a=val b:=by rw[<-aj (val a),hp,<-hq,aj]
 rw[this,JI]
theorem XP (h l d:Nat) (hh:h<4294967296) (hl:l<4294967296) (hd:d<4294967296) (aH:h<d):
 Den Tryz.prog 247 [] [.int .u32 h,.int .u32 l,.int .u32 d] [] (.tup [.int .u32 ((h*4294967296+l) / d:Nat),.int .u32 ((h*4294967296+l) % d:Nat)]):=by
 have hq:(h*4294967296+l) / d<4294967296:=by
  rw[Nat.div_lt_iff_lt_mul (by omega)];have:(h+1)*4294967296<=d*4294967296:=qn _ aH;rw[Nat.mul_comm 4294967296 d];omega
 have hr:(h*4294967296+l) % d<d:=Nat.mod_lt _ (by omega)
 have e1:((h:Int)*4294967296+l) / d=(((h*4294967296+l) / d:Nat):Int):=by
  rw[Int.natCast_ediv,Int.natCast_add,Int.natCast_mul];rfl
 have e2:((h:Int)*4294967296+l) % d=(((h*4294967296+l) % d:Nat):Int):=by
  rw[Int.natCast_emod,Int.natCast_add,Int.natCast_mul];rfl
 generalize (h*4294967296+l) / d=Q at*
 generalize (h*4294967296+l) % d=R at*
 refine dq Tryz.func247 30 0 ?_
 refine aX ?_
 refine Br.bneInt ?_ ?_
 .intro h1 h2
  refine ae h2 ?_
  refine bR ?_ ?_
  .intro h3 h4
   omega
  intro h3 h4
  refine ae (aQ h4 @vt) ?_
  refine⟨by omega,?_⟩
  refine dw (by kernel_rfl) ?_
  refine ae (aQ e1 e2) ?_
  refine⟨by omega,by omega,?_⟩
  refine bg ?_
  exact Hd
 intro h1 h2
 omega
theorem XQ (a b c:Nat) (ha:a<4294967296) (hb:b<4294967296) (hc:c<=1):Den Tryz.prog 213 [] [.int .u32 a,.int .u32 b,.int .u32 c] []
 (.tup [.int .u32 ((4294967296+a - b - c) % 4294967296:Nat),.int .u32 (if a<b+c then 1 else 0:Nat)]):=by
 have hw:IntKind.u32.wrap (IntKind.u32.wrap ((a:Int) - b) - c)=((4294967296+a - b - c) % 4294967296:Nat):=by
  rw[dm,dm];omega
 have key:=Oz a b c ha hb hc
 refine dq Tryz.func213 22 0 ?_
 refine b8 hw ?_
 refine⟨by omega,?_⟩
 refine bg ?_
 simp(disch:=omega) only[XN,JK,D5,ahN,XO,St.get,tN,cH,y9,y_,t_,gj,fP,Option.map_some,qk,getD_cons_zero]
 have GQ:BitVec.ofNat 32 ((4294967296+a - b - c) % 4294967296)=BitVec.ofNat 32 (4294967296+a - b - c):=by
  apply BitVec.eq_of_toNat_eq;simp
 rw[<-GQ] at key
 have k2:=congrArg (fun z:Nat=>(z:Int)) key
 simp only[Int.natCast_ediv] at k2
 exact congrArg (fun z:Int=>some (PV.tup [PV.int .u32 (((4294967296+a - b - c) % 4294967296:Nat):Int),PV.int .u32 z])) k2
theorem sH {x y:Nat} (h:x<=y):(ai x).length<=(ai y).length:=
 aB (Hr h bI)
theorem agm (a b:List Nat) (ha:Dig a) (hb:Dig b) (wo:a.length<100000000000) (wW:b.length<100000000000) (aH:val a<val b):
 Den Tryz.prog 177 [] [.fv (.sl (u32s a)),.fv (.sl (u32s b))] [] (.tup [.fv (.sl []),.int .i64 1]):=by
 refine dq Tryz.func177 48 0 ?_
 refine aX ?_
 refine gp (D9 a b ha hb wo wW) rfl ?_
 simp -dsimp(disch:=omega) only[pP aH,↓reduceIte,ru]
 refine bR ?_ ?_
 .intro h1 h2
  refine ae h2 ?_
  refine bg ?_
  exact Hd
 intro h1 h2
 omega
theorem Wo (a b:List Nat) (ha:Dig a) (hb:Dig b) (wo:a.length<100000000000) (wW:b.length<100000000000) (dR:val b<=val a):
 Den Tryz.prog 177 [] [.fv (.sl (u32s a)),.fv (.sl (u32s b))] [] (.tup [.fv (N (val a - val b)),.int .i64 0]):=by
 have hxa:(ai (val a)).length<=a.length:=aB (bF ha)
 have lr:(ai (val b)).length<=(ai (val a)).length:=sH dR
 have hp:=ao (val a)
 have hq:=ao (val b)
 have Al:=aj (val a)
 have Lj:=aj (val b)
 have Am:decide (ou (val a) (val b)<0)=false:=by
  unfold ou;rw[if_neg (by omega)];split<;>simp
 refine dq Tryz.func177 48 0 ?_
 refine aX ?_
 refine gp (D9 a b ha hb wo wW) rfl ?_
 refine ae Am ?_
 refine gp (ic a ha (by omega)) rfl ?_
 refine a9 ?_
 refine gp (ic b hb (by omega)) rfl ?_
 refine ae @bB ?_
 generalize ai (val a)=p at*
 generalize ai (val b)=q at*
 refine⟨by omega,?_⟩
 refine wl (α:=Nat×Nat×List Nat) (fun⟨i,c,out⟩=>⟨.fv (.sl (u32s p)):: .fv (.sl (u32s q)):: .any:: .any:: .nilsl:: .any:: .lsl 0 0 p.length 1:: .int .u32 c::(replicate 14 .any++ .fv (.sl (u32s p)):: .int .i64 p.length:: .int .i64 i::replicate 25 .any),[.row true (u32s out)]⟩)
  (fun⟨i,_,_⟩=>p.length - i)
  (fun⟨i,c,out⟩=>i<=p.length/\c<=1/\out.length=p.length/\Dig out/\val (out.take i)+val (q.take i)=val (p.take i)+c*B^i) (0,0,replicate p.length 0) ?_ ?_ ?_
 .exact bN [0]
 .exact⟨by omega,by omega,by simp,Dig.zeros,by simp[val]⟩
 rintro⟨i,c,out⟩ ⟨hi,hc,ho,hd,mT⟩
 refine aX ?_
 refine bR ?_ ?_
 .intro h1 h2
  refine ae h2 ?_
  refine⟨by omega,?_⟩
  have Sq:=hp.getD i
  have Sr:=hq.getD i
  simp only[B] at Sq Sr
  have bP:=cq (l:=out) (i:=i) (by omega) ((4294967296+p.getD i 0 - q.getD i 0 - c) % 4294967296)
  have UU:=aJ p i
  have Ze:=aJ q i
  have oz:Dig (out.set i ((4294967296+p.getD i 0 - q.getD i 0 - c) % 4294967296)):=hd.set i (Nat.mod_lt _ (by decide))
  have qO:(if p.getD i 0<q.getD i 0+c then 1 else 0:Nat)<=1:=by split<;>omega
  have Dz:(4294967296+p.getD i 0 - q.getD i 0 - c) % 4294967296+q.getD i 0+c=p.getD i 0+(if p.getD i 0<q.getD i 0+c then 1 else 0:Nat)*4294967296:=by
   split<;>omega
  generalize ait:(if p.getD i 0<q.getD i 0+c then 1 else 0:Nat)=c2 at*
  generalize Np:(4294967296+p.getD i 0 - q.getD i 0 - c) % 4294967296=dg at*
  have da:val ((out.set i dg).take (i+1))+val (q.take (i+1))=val (p.take (i+1))+c2*B^(i+1):=by
   rw[Nat.pow_succ,bP,UU,Ze];have h3:=congrArg (fun z=>B^i*z) Dz;simp only[Nat.mul_add] at h3;rw[Nat.mul_comm c] at mT;rw[<-Nat.mul_assoc (B^i) c2,Nat.mul_comm (B^i) c2,Nat.mul_assoc c2] at h3;have h4:B^i*B=B^i*4294967296:=rfl;rw[h4];omega
  have fin: ∀ x:Int,x=((q.getD i 0:Nat):Int)->cC [Ob.row true (u32s out)] ([]++[PV.fv (FV.lit (Value.int IntKind.u32 ((p.getD i 0:Nat):Int))),PV.int IntKind.u32 x,PV.int IntKind.u32 (c:Int)]++[])=some [.int .u32 ((p.getD i 0:Nat):Int),.int .u32 ((q.getD i 0:Nat):Int),.int .u32 (c:Int)]:=by
   intro x hx;subst hx;rfl
  have bU:=XQ _ _ _ Sq Sr hc
  rw[Np] at bU
  have Xi:Den Tryz.prog 213 [] [.int .u32 ((p.getD i 0:Nat):Int),.int .u32 ((q.getD i 0:Nat):Int),.int .u32 (c:Int)] [] (.tup [.int .u32 (dg:Int),.int .u32 (c2:Int)]):=by
   rw[ait] at bU;exact bU
  refine bR ?_ ?_
  .intro h3 h4
   refine ae h4 ?_
   refine⟨by omega,?_⟩
   refine gp Xi (fin _ rfl) ?_
   refine a9 ?_
   refine⟨by omega,by omega,?_⟩
   refine ax (i+1,c2,out.set i dg) ?_ ⟨by omega,qO,by simp[ho],oz,da⟩
   exact bN [0]
  intro h3 h4
  have h0:(0:Int)=((q.getD i 0:Nat):Int):=by
   have:q.getD i 0=0:=by rw[qa,List.getElem?_eq_none (by omega)];rfl
   rw[this];rfl
  refine ae h4 ?_
  refine gp Xi (fin _ h0) ?_
  refine a9 ?_
  refine⟨by omega,by omega,?_⟩
  refine ax (i+1,c2,out.set i dg) ?_ ⟨by omega,qO,by simp[ho],oz,da⟩
  exact bN [0]
 intro h1 h2
 refine ae h2 ?_
 have UW:i=p.length:=by omega
 have N7:val out=val a - val b:=by
  rw[UW,aR (by omega),aR lr,aR (qp _),Al,Lj] at mT;have h5:=bF hd;rw[ho] at h5;have h6:c=0:=by
   rcases Nat.eq_zero_or_pos c with h | h
   .exact h
   exfalso;have:c=1:=by omega
   subst this;omega
  subst h6;omega
 refine gp (ic out hd (by omega)) ?_ ?_
 .simp[cC,iw,gj,fP,aM,ho]
  rw[eE (by simp[aM,ho])]
 refine a9 ?_
 refine bg ?_
 refine qS ?_
 rw[N7]
theorem Wp (u:Nat) (hu:u<18446744073709551616):Den Tryz.prog 216 [] [.int .u64 u] [] (.fv (N u)):=by
 have hv:val [u % 4294967296,u / 4294967296]=u:=by
  simp only[val,B];omega
 have hd:Dig [u % 4294967296,u / 4294967296]:=by
  intro d hd;simp at hd;rcases hd with rfl | rfl<;>(simp only[B];omega)
 refine dq Tryz.func216 9 0 ?_;refine aX ?_;refine⟨by omega,?_⟩;have:=ic [u % 4294967296,u / 4294967296] hd (by simp);rw[hv] at this;refine gp this ?_ ?_
 .simp[cC,iw,gj,fP,u32s,dm]
 refine a9 ?_;refine bg ?_;exact Hd
theorem xd (a b:List Nat) (ha:Dig a) (hb:Dig b) (wo:a.length<10000000000) (wW:b.length<10000000000):
 Den Tryz.prog 130 [] [.fv (.sl (u32s a)),.fv (.sl (u32s b))] [] (.fv (N (val a*val b))):=by
 have hxa:(ai (val a)).length<=a.length:=aB (bF ha)
 have lr:(ai (val b)).length<=b.length:=aB (bF hb)
 have hp:=ao (val a)
 have hq:=ao (val b)
 have Al:=aj (val a)
 have Lj:=aj (val b)
 refine dq Tryz.func130 82 0 ?_
 refine aX ?_
 refine gp (ic a ha (by omega)) rfl ?_
 refine a9 ?_
 refine gp (ic b hb (by omega)) rfl ?_
 refine ae @bB ?_
 generalize ai (val a)=p at*
 generalize ai (val b)=q at*
 refine⟨by omega,?_⟩
 have hn:((p.length:Int)+(q.length:Int)).toNat=p.length+q.length:=by omega
 refine wl (α:=Nat×List Nat) (fun⟨i,out⟩=>⟨.fv (.sl (u32s p)):: .fv (.sl (u32s q)):: .any:: .any:: .nilsl:: .lsl 0 0 (p.length+q.length) 1::(replicate 18 .any++ .fv (.sl (u32s p)):: .int .i64 p.length:: .int .i64 i::replicate 57 .any),[.row true (u32s out)]⟩)
  (fun⟨i,_⟩=>p.length - i)
  (fun⟨i,out⟩=>i<=p.length/\out.length=p.length+q.length/\Dig out/\val (out.take (i+q.length))=val (p.take i)*val q) (0,replicate (p.length+q.length) 0) ?_ ?_ ?_
 .refine eV [0] ?_ ?_
  .simp[bc,dX,cB,hn]
  simp[ez,fL,hn]
 .exact⟨by omega,by simp,Dig.zeros,by simp[val,AL]⟩
 rintro⟨i,wq⟩ ⟨hi,Zi,gg,He⟩
 refine aX ?_
 refine bR ?_ ?_
 .intro h1 h2
  refine ae h2 ?_
  refine⟨by omega,?_⟩
  have hx:=hp.getD i
  simp only[B] at hx
  generalize DA:p.getD i 0=x at*
  refine wl (α:=Nat×Nat×List Nat) (fun⟨k,c,out⟩=>⟨.fv (.sl (u32s p)):: .fv (.sl (u32s q)):: .any:: .any:: .nilsl:: .lsl 0 0 (p.length+q.length) 1:: .int .i64 i:: .int .u32 x:: .int .u32 c::(replicate 15 .any++ .fv (.sl (u32s p)):: .int .i64 p.length:: .int .i64 i::
   .any:: .any:: .any:: .any:: .fv (.sl (u32s q)):: .int .i64 q.length:: .int .i64 k::replicate 50 .any),[.row true (u32s out)]⟩)
   (fun⟨k,_,_⟩=>q.length - k)
   (fun⟨k,c,out⟩=>k<=q.length/\c<4294967296/\out.length=p.length+q.length/\Dig out/\(∀ j,i+k<=j->out.getD j 0=wq.getD j 0)/\val (out.take (i+k))+c*B^(i+k)=val (wq.take (i+k))+x*val (q.take k)*B^i) (0,0,wq) ?_ ?_ ?_
  .exact bN [0]
  .exact⟨by omega,by omega,Zi,gg,fun _ _=>rfl,by simp[val]⟩
  rintro⟨k,c,out⟩ ⟨hk,hc,ho,hd,eW,hv⟩
  refine aX ?_
  refine bR ?_ ?_
  .intro h3 h4
   refine ae h4 ?_
   refine⟨by omega,?_⟩
   have hy:=hq.getD k
   simp only[B] at hy
   generalize Ss:q.getD k 0=y at*
   refine gp (acp x y hx hy) rfl ?_
   refine a9 ?_
   have Zj:((i:Int)+(k:Int)).toNat=i+k:=by omega
   rw[Zj]
   refine⟨by omega,by omega,?_⟩
   have iP:=hd.getD (i+k)
   simp only[B] at iP
   have hov:out.getD (i+k) 0=wq.getD (i+k) 0:=eW _ (qp _)
   have Hf:x*y<=18446744065119617025:=gD (Nat.mul_le_mul (show x<=4294967295 by omega) (show y<=4294967295 by omega)) (by decide)
   have hmd:=LI Hf iP hc
   have aiu:=JJ (x*y % 4294967296) (out.getD (i+k) 0) 0 (Nat.mod_lt _ (by decide)) iP (by omega)
   have aiv:=JJ ((x*y % 4294967296+out.getD (i+k) 0+0) % 4294967296) c 0 (Nat.mod_lt _ (by decide)) hc (by omega)
   generalize Zk:(x*y % 4294967296+out.getD (i+k) 0+0) % 4294967296=lo1 at*
   generalize vR:(x*y % 4294967296+out.getD (i+k) 0+0) / 4294967296=c1 at*
   generalize Nq:(lo1+c+0) % 4294967296=lo2 at*
   generalize qO:(lo1+c+0) / 4294967296=c2 at*
   generalize am7:x*y / 4294967296=oA at*
   refine aW aiu ?_
   refine a9 ?_
   refine aW aiv ?_
   refine ae Zj ?_
   refine⟨by omega,by omega,?_⟩
   have bP:=cq (l:=out) (i:=i+k) (by omega) lo2
   have hqk:=aJ q k
   have h0k:=aJ wq (i+k)
   rw[Ss] at hqk
   have da:val ((out.set (i+k) lo2).take (i+(k+1)))+(oA+c1+c2)*B^(i+(k+1))=val (wq.take (i+(k+1)))+x*val (q.take (k+1))*B^i:=by
    rw[<-Nat.add_assoc i k 1,bP,h0k,hqk,Nat.pow_succ];exact Oy (Nat.pow_add B i k) hv (by rw[<-hov];exact hmd.1)
   refine ax (k+1,oA+c1+c2,out.set (i+k) lo2) ?_ ⟨by omega,hmd.2,by simp[ho],hd.set _ (by simp only[B];omega),fun j hj=>?_,da⟩
   .exact bN [0]
   rw[<-eW j (by omega)]
   simp only[qa]
   rw[qm (by omega)]
  intro h3 h4
  refine ae h4 ?_
  have hkq:k=q.length:=by omega
  have hiq:((i:Int)+(q.length:Int)).toNat=i+q.length:=by omega
  rw[hiq]
  refine⟨by omega,by omega,?_⟩
  have bP:=cq (l:=out) (i:=i+q.length) (by omega) c
  have Zm:=aJ p i
  rw[DA] at Zm
  have da:val ((out.set (i+q.length) c).take (i+1+q.length))=val (p.take (i+1))*val q:=by
   rw[show i+1+q.length=i+q.length+1 by omega,bP,Zm];rw[hkq,aR (qp _),He] at hv;grind
  refine ax (i+1,out.set (i+q.length) c) ?_ ⟨by omega,by simp[ho],hd.set _ (by simp only[B];omega),da⟩
  exact bN [0]
 intro h1 h2
 refine ae h2 ?_
 have UW:i=p.length:=by omega
 refine gp (ic wq gg (by omega)) ?_ ?_
 .simp[cC,iw,gj,fP,aM,Zi]
  rw[eE (by simp[aM,Zi])]
 refine a9 ?_
 refine bg ?_
 rw[UW,aR (by omega),aR (qp _),Al,Lj] at He
 exact lX He
theorem XR (l:List Nat) (d:Nat) (hl:Dig l) (oE:l.length<100000000000) (hd:d<4294967296) (gg:0<d):
 Den Tryz.prog 217 [] [.fv (.sl (u32s l)),.int .u32 d] [] (.tup [.fv (N (val l / d)),.int .u32 ((val l % d:Nat):Int)]):=by
 refine dq Tryz.func217 33 0 ?_
 refine aX ?_
 refine⟨by omega,?_⟩
 refine wl (α:=Nat×Nat×List Nat) (fun⟨k,r,out⟩=>⟨.fv (.sl (u32s l)):: .int .u32 d:: .any:: .any:: .nilsl:: .fv (.lit (.int .u32 0)):: .lsl 0 0 l.length 1:: .int .u32 r:: .int .i64 ((k:Int) - 1)::replicate 26 .any,[.row true (u32s out)]⟩)
  (fun⟨k,_,_⟩=>k) (fun⟨k,r,out⟩=>k<=l.length/\r<d/\out.length=l.length/\Dig out/\val (out.drop k)*d+r=val (l.drop k)) (l.length,0,replicate l.length 0) ?_ ?_ ?_
 .exact bN [0]
 .exact⟨by omega,gg,by simp,Dig.zeros,by simp[val]⟩
 rintro⟨k,r,out⟩ ⟨hk,hr,ho,An,hv⟩
 refine aX ?_
 refine bR ?_ ?_
 .intro h1 h2
  refine ae h2 ?_
  obtain⟨j,rfl⟩: ∃ j,k=j+1:=⟨k - 1,by omega⟩
  have hj:(((j+1:Nat):Int) - 1).toNat=j:=by omega
  rw[hj]
  have hx:=hl.getD j
  simp only[B] at hx
  have DZ:=eA (l:=l) (j:=j) (by omega)
  generalize DA:l.getD j 0=x at*
  have aix:=XP r x d (by omega) hx hd hr
  have hq:(r*4294967296+x) / d<4294967296:=by
   rw[Nat.div_lt_iff_lt_mul (by omega)];have:(r+1)*4294967296<=d*4294967296:=qn _ hr;rw[Nat.mul_comm 4294967296 d];omega
  have iQ:(r*4294967296+x) % d<d:=Nat.mod_lt _ (by omega)
  have hqr:=Nat.mod_add_div (r*4294967296+x) d
  generalize (r*4294967296+x) / d=Q at*
  generalize (r*4294967296+x) % d=R at*
  refine⟨by omega,?_⟩
  refine aW aix ?_
  refine ae hj ?_
  refine⟨by omega,by omega,?_⟩
  have UY:=mY (l:=out) (j:=j) (x:=Q) (by omega)
  refine ax (j,R,out.set j Q) ?_ ⟨by omega,iQ,by simp[ho],An.set _ hq,?_⟩
  .exact bN [0]
  rw[UY,DZ,<-hv]
  simp only[B]
  grind
 intro h1 h2
 refine ae h2 ?_
 have Ru:k=0:=by omega
 subst Ru
 simp only[List.drop_zero] at hv
 have wX:val out=val l / d/\r=val l % d:=by
  rw[<-hv,Nat.mul_comm,Nat.mul_add_div gg,Nat.mul_add_mod,Nat.div_eq_of_lt hr,Nat.mod_eq_of_lt hr];exact⟨rfl,rfl⟩
 refine gp (ic out An (by omega)) ?_ ?_
 .simp[cC,iw,gj,fP,aM,ho]
  rw[eE (by simp[aM,ho])]
 refine a9 ?_
 refine bg ?_
 rw[<-wX.1,<-wX.2]
 exact Hd
theorem OA (l:List Nat) (k:Nat) (hl:Dig l) (oE:l.length<100000000000) (hk:k<32):
 Den Tryz.prog 249 [] [.fv (.sl (u32s l)),.int .u64 k] [.row true (u32s (h_ (l.length+1) (val l*2^k)))] (.lsl 0 0 (l.length+1) 1):=by
 have N9:2^k<=2147483648:=Nat.pow_le_pow_right (by decide) (show k<=31 by omega)
 have D0:0<2^k:=Nat.two_pow_pos k
 have Ao:(k<=64)=True:=by simp;omega
 refine dq Tryz.func249 39 0 ?_
 refine aX ?_
 refine⟨by omega,?_⟩
 have hn:((l.length:Int)+1).toNat=l.length+1:=by omega
 refine wl (α:=Nat×List Nat) (fun⟨i,out⟩=>⟨.fv (.sl (u32s l)):: .int .u64 k:: .any:: .any:: .nilsl:: .lsl 0 0 (l.length+1) 1::(replicate 7 .any++ .fv (.sl (u32s l)):: .int .i64 l.length:: .int .i64 i::replicate 25 .any),[.row true (u32s out)]⟩)
  (fun⟨i,_⟩=>l.length - i) (fun⟨i,out⟩=>i<=l.length/\out.length=l.length+1/\Dig out/\val (out.take (i+1))=val (l.take i)*2^k/\out.getD i 0<2^k) (0,replicate (l.length+1) 0) ?_ ?_ ?_
 .refine eV [0] ?_ ?_
  .simp[bc,dX,cB,hn]
  simp[ez,fL,hn]
 .refine⟨by omega,by simp,Dig.zeros,?_,?_⟩
  .simp[val,List.replicate_succ]
  simp[List.replicate_succ];omega
 rintro⟨i,out⟩ ⟨hi,ho,An,hv,Aq⟩
 refine aX ?_
 refine bR ?_ ?_
 .intro h1 h2
  have hx:=hl.getD i
  simp only[B] at hx
  have gN:=aJ l i
  have Zn:=aJ out i
  generalize DA:l.getD i 0=x at*
  generalize Ss:out.getD i 0=y at*
  have hxv:x*2^k<9223372036854775808:=by
   have:x*2^k<=4294967295*2147483648:=Nat.mul_le_mul (by omega) N9;omega
  have GR:(x:Int)*2^k=((x*2^k:Nat):Int):=by rw[Int.natCast_mul,Int.natCast_pow];rfl
  have GQ:=D6 (d:=x) (k:=k) (by omega)
  generalize Ar:x*2^k=v at*
  have UZ:IntKind.u32.wrap (v:Int)=((v % 4294967296:Nat):Int):=by rw[dm];rfl
  have Su:=ahM k Aq GQ (by omega) (Nat.mod_lt _ (by decide))
  have oA:((i:Int)+1).toNat=i+1:=by omega
  have pD:=D7 (k:=k) (by omega) GQ (Nat.mod_lt _ (by decide))
  have fE:v / 4294967296<2^k:=by
   rw[Nat.div_lt_iff_lt_mul (by decide),<-Ar,Nat.mul_comm];exact Nat.mul_lt_mul_of_pos_left hx D0
  have hvh:(v:Int) / 4294967296=((v / 4294967296:Nat):Int):=by rw[Int.natCast_ediv];rfl
  have bP:=cq (l:=out) (i:=i) (by omega) (y+v % 4294967296)
  have GS:=cq (l:=out.set i (y+v % 4294967296)) (i:=i+1) (by simp;omega) (v / 4294967296)
  have wt:(out.set i (y+v % 4294967296)).length=l.length+1:=by simp[ho]
  refine ae (bT h2 Ao GR DA Ss UZ Su (aQ oA hvh)) ?_
  refine⟨by omega,by omega,by omega,by omega,by omega,by omega,by omega,by omega,by omega,?_⟩
  refine ax (i+1,(out.set i (y+v % 4294967296)).set (i+1) (v / 4294967296)) ?_ ⟨by omega,by simp[ho],(An.set _ (by simp only[B];omega)).set _ (by simp only[B];omega),?_,?_⟩
  .exact bN [0]
  .rw[GS,bP,gN]
   have wX:=Nat.mod_add_div v 4294967296
   rw[Zn] at hv
   generalize v % 4294967296=vl at*
   generalize v / 4294967296=vh at*
   rw[Nat.pow_succ]
   simp only[B] at*
   grind
  have:((out.set i (y+v % 4294967296)).set (i+1) (v / 4294967296)).getD (i+1) 0=v / 4294967296:=by
   rw[qa,qv (by rw[wt];omega)];rfl
  rw[this]
  exact fE
 intro h1 h2
 refine ae h2 ?_
 have dU:i=l.length:=by omega
 have mT:val out=val l*2^k:=by
  rw[dU,aR (by omega),aR (qp _)] at hv;exact hv
 rw[<-mT,<-ho,<-Ck An,ho]
 exact RetOK.own rfl ⟨cS,cS⟩ rfl
end Go.Proofs.YtjjbkjgifdhlcaaGreat
