/- The types of the program,as the abstract machine asks them;and that they are the program's. -/
import Derived.Test.YtjjbkjgifdhlcaaGreatT9
import Derived.Test.YtjjbkjgifdhlcaaGreatProg
import Derived.KernelRfl
import Derived.Test.YtjjbkjgifdhlcaaGreatT8
import Derived.Test.YtjjbkjgifdhlcaaGreatT1
open Nat (reduceLT reduceLeDiff)
open List (drop_eq_getElem_cons getD_cons_zero length_cons length_take replicate)
namespace Go.Proofs.YtjjbkjgifdhlcaaGreat
open Go.AM
set_option maxRecDepth 100000
def ty3:TyI:=⟨.int .i64,1,8,[.fv (.lit (.int .i64 0))]⟩
def ty4:TyI:=⟨.bool,1,1,[.fv (.lit (.bool false))]⟩
def ty5:TyI:=⟨.int .u8,1,1,[.fv (.lit (.int .u8 0))]⟩
def ty9:TyI:=⟨.str,1,16,[.fv (.lit (.string ⟨#[]⟩))]⟩
def ty22:TyI:=⟨.sl 3,1,24,[.nilsl]⟩
def ty23:TyI:=⟨.other,1,8,[.fv (.lit (.pointer none))]⟩
def ty25:TyI:=⟨.sl 104,1,24,[.nilsl]⟩
def ty27:TyI:=⟨.st [⟨0,1,false⟩,⟨1,1,false⟩,⟨2,1,false⟩],3,56,[.fv (.lit (.bool false)),.nilsl,.nilsl]⟩
def ty28:TyI:=⟨.arr 8 27,24,448,[.fv (.lit (.bool false)),.nilsl,.nilsl,.fv (.lit (.bool false)),.nilsl,.nilsl,.fv (.lit (.bool false)),.nilsl,.nilsl,.fv (.lit (.bool false)),.nilsl,.nilsl,.fv (.lit (.bool false)),.nilsl,.nilsl,.fv (.lit (.bool false)),.nilsl,.nilsl,.fv (.lit (.bool false)),.nilsl,.nilsl,.fv (.lit (.bool false)),.nilsl,.nilsl]⟩
def ty30:TyI:=⟨.st [⟨0,24,true⟩,⟨24,3,true⟩],27,504,[.fv (.lit (.bool false)),.nilsl,.nilsl,.fv (.lit (.bool false)),.nilsl,.nilsl,.fv (.lit (.bool false)),.nilsl,.nilsl,.fv (.lit (.bool false)),.nilsl,.nilsl,.fv (.lit (.bool false)),.nilsl,.nilsl,.fv (.lit (.bool false)),.nilsl,.nilsl,.fv (.lit (.bool false)),.nilsl,.nilsl,.fv (.lit (.bool false)),.nilsl,.nilsl,.fv (.lit (.bool false)),.nilsl,.nilsl]⟩
def ty32:TyI:=⟨.sl 27,1,24,[.nilsl]⟩
def ty34:TyI:=⟨.sl 69,1,24,[.nilsl]⟩
def ty35:TyI:=⟨.sl 69,1,24,[.nilsl]⟩
def ty45:TyI:=⟨.int .i64,1,8,[.fv (.lit (.int .i64 0))]⟩
def ty53:TyI:=⟨.sl 73,1,24,[.nilsl]⟩
def ty64:TyI:=⟨.other,1,8,[.fv (.lit (.nilFunc))]⟩
def ty67:TyI:=⟨.arr 8 3,8,64,[.fv (.lit (.int .i64 0)),.fv (.lit (.int .i64 0)),.fv (.lit (.int .i64 0)),.fv (.lit (.int .i64 0)),.fv (.lit (.int .i64 0)),.fv (.lit (.int .i64 0)),.fv (.lit (.int .i64 0)),.fv (.lit (.int .i64 0))]⟩
def ty69:TyI:=⟨.st [⟨0,8,true⟩,⟨8,3,true⟩],11,120,[.fv (.lit (.int .i64 0)),.fv (.lit (.int .i64 0)),.fv (.lit (.int .i64 0)),.fv (.lit (.int .i64 0)),.fv (.lit (.int .i64 0)),.fv (.lit (.int .i64 0)),.fv (.lit (.int .i64 0)),.fv (.lit (.int .i64 0)),.fv (.lit (.bool false)),.nilsl,.nilsl]⟩
def ty70:TyI:=⟨.sl 30,1,24,[.nilsl]⟩
def ty73:TyI:=⟨.st [⟨0,1,false⟩,⟨1,1,false⟩],2,48,[.nilsl,.nilsl]⟩
def ty86:TyI:=⟨.st [⟨0,1,false⟩,⟨1,1,false⟩,⟨2,1,false⟩],3,40,[.nilsl,.fv (.lit (.int .i64 0)),.fv (.lit (.int .i64 0))]⟩
def ty92:TyI:=⟨.other,1,8,[.fv (.lit (.nilFunc))]⟩
def ty104:TyI:=⟨.int .u32,1,4,[.fv (.lit (.int .u32 0))]⟩
def ty115:TyI:=⟨.sl 22,1,24,[.nilsl]⟩
def ty137:TyI:=⟨.st [⟨0,1,false⟩],1,1,[.fv (.lit (.bool false))]⟩
def ty139:TyI:=⟨.st [⟨0,1,false⟩,⟨1,1,false⟩],2,48,[.nilsl,.nilsl]⟩
def ty141:TyI:=⟨.st [⟨0,1,true⟩,⟨1,2,true⟩],3,56,[.fv (.lit (.bool false)),.nilsl,.nilsl]⟩
def ty151:TyI:=⟨.int .u64,1,8,[.fv (.lit (.int .u64 0))]⟩
def ty152:TyI:=⟨.int .u64,1,8,[.fv (.lit (.int .u64 0))]⟩
def ty153:TyI:=⟨.sl 35,1,24,[.nilsl]⟩
def ty160:TyI:=⟨.other,1,8,[.fv (.lit (.nilFunc))]⟩
def ty164:TyI:=⟨.sl 53,1,24,[.nilsl]⟩
def ty170:TyI:=⟨.other,1,8,[.fv (.lit (.nilFunc))]⟩
def ty173:TyI:=⟨.sl 70,1,24,[.nilsl]⟩
def ty178:TyI:=⟨.mp 8 (.agg [.bool false,.fv (.sl []),.fv (.sl [])]),1,8,[.fv (.lit (.map none))]⟩
def ty179:TyI:=⟨.sl 67,1,24,[.nilsl]⟩
def ty182:TyI:=⟨.other,1,8,[.fv (.lit (.nilFunc))]⟩
def ty184:TyI:=⟨.st [⟨0,1,false⟩],1,1,[.fv (.lit (.bool false))]⟩
def ty193:TyI:=⟨.sl 34,1,24,[.nilsl]⟩
def ty202:TyI:=⟨.other,1,8,[.fv (.lit (.nilFunc))]⟩
def ty216:TyI:=⟨.mp 8 (.int .i64 0),1,8,[.fv (.lit (.map none))]⟩
def ty219:TyI:=⟨.other,1,8,[.fv (.lit (.nilFunc))]⟩
def ty221:TyI:=⟨.st [⟨0,1,false⟩],1,8,[.fv (.lit (.int .i64 0))]⟩
def ty229:TyI:=⟨.int .i64,1,8,[.fv (.lit (.int .i64 0))]⟩
def ty247:TyI:=⟨.int .u64,1,8,[.fv (.lit (.int .u64 0))]⟩
def ty251:TyI:=⟨.other,1,8,[.fv (.lit (.pointer none))]⟩
def ty255:TyI:=⟨.other,1,16,[.fv (.lit (.nilIface))]⟩
def tab:Tab:=[(3,ty3),(4,ty4),(5,ty5),(9,ty9),(22,ty22),(23,ty23),(25,ty25),(27,ty27),(28,ty28),(30,ty30),(32,ty32),(34,ty34),(35,ty35),(45,ty45),(53,ty53),(64,ty64),(67,ty67),(69,ty69),(70,ty70),(73,ty73),(86,ty86),(92,ty92),(104,ty104),(115,ty115),(137,ty137),(139,ty139),(141,ty141),(151,ty151),(152,ty152),(153,ty153),(160,ty160),(164,ty164),(170,ty170),(173,ty173),(178,ty178),(179,ty179),(182,ty182),(184,ty184),(193,ty193),(202,ty202),(216,ty216),(219,ty219),(221,ty221),(229,ty229),(247,ty247),(251,ty251),(255,ty255)]
theorem at3:tab.at 3=some ⟨.int .i64,1,8,[.fv (.lit (.int .i64 0))]⟩:=rfl
theorem at4:tab.at 4=some ⟨.bool,1,1,[.fv (.lit (.bool false))]⟩:=rfl
theorem at5:tab.at 5=some ⟨.int .u8,1,1,[.fv (.lit (.int .u8 0))]⟩:=rfl
theorem at9:tab.at 9=some ⟨.str,1,16,[.fv (.lit (.string ⟨#[]⟩))]⟩:=rfl
theorem at22:tab.at 22=some ⟨.sl 3,1,24,[.nilsl]⟩:=rfl
theorem at23:tab.at 23=some ⟨.other,1,8,[.fv (.lit (.pointer none))]⟩:=rfl
theorem at25:tab.at 25=some ⟨.sl 104,1,24,[.nilsl]⟩:=rfl
theorem at27:tab.at 27=some ⟨.st [⟨0,1,false⟩,⟨1,1,false⟩,⟨2,1,false⟩],3,56,[.fv (.lit (.bool false)),.nilsl,.nilsl]⟩:=rfl
theorem at28:tab.at 28=some ⟨.arr 8 27,24,448,[.fv (.lit (.bool false)),.nilsl,.nilsl,.fv (.lit (.bool false)),.nilsl,.nilsl,.fv (.lit (.bool false)),.nilsl,.nilsl,.fv (.lit (.bool false)),.nilsl,.nilsl,.fv (.lit (.bool false)),.nilsl,.nilsl,.fv (.lit (.bool false)),.nilsl,.nilsl,.fv (.lit (.bool false)),.nilsl,.nilsl,.fv (.lit (.bool false)),.nilsl,.nilsl]⟩:=rfl
theorem at30:tab.at 30=some ⟨.st [⟨0,24,true⟩,⟨24,3,true⟩],27,504,[.fv (.lit (.bool false)),.nilsl,.nilsl,.fv (.lit (.bool false)),.nilsl,.nilsl,.fv (.lit (.bool false)),.nilsl,.nilsl,.fv (.lit (.bool false)),.nilsl,.nilsl,.fv (.lit (.bool false)),.nilsl,.nilsl,.fv (.lit (.bool false)),.nilsl,.nilsl,.fv (.lit (.bool false)),.nilsl,.nilsl,.fv (.lit (.bool false)),.nilsl,.nilsl,.fv (.lit (.bool false)),.nilsl,.nilsl]⟩:=rfl
theorem at32:tab.at 32=some ⟨.sl 27,1,24,[.nilsl]⟩:=rfl
theorem at34:tab.at 34=some ⟨.sl 69,1,24,[.nilsl]⟩:=rfl
theorem at35:tab.at 35=some ⟨.sl 69,1,24,[.nilsl]⟩:=rfl
theorem at45:tab.at 45=some ⟨.int .i64,1,8,[.fv (.lit (.int .i64 0))]⟩:=rfl
theorem at53:tab.at 53=some ⟨.sl 73,1,24,[.nilsl]⟩:=rfl
theorem at64:tab.at 64=some ⟨.other,1,8,[.fv (.lit (.nilFunc))]⟩:=rfl
theorem at67:tab.at 67=some ⟨.arr 8 3,8,64,[.fv (.lit (.int .i64 0)),.fv (.lit (.int .i64 0)),.fv (.lit (.int .i64 0)),.fv (.lit (.int .i64 0)),.fv (.lit (.int .i64 0)),.fv (.lit (.int .i64 0)),.fv (.lit (.int .i64 0)),.fv (.lit (.int .i64 0))]⟩:=rfl
theorem at69:tab.at 69=some ⟨.st [⟨0,8,true⟩,⟨8,3,true⟩],11,120,[.fv (.lit (.int .i64 0)),.fv (.lit (.int .i64 0)),.fv (.lit (.int .i64 0)),.fv (.lit (.int .i64 0)),.fv (.lit (.int .i64 0)),.fv (.lit (.int .i64 0)),.fv (.lit (.int .i64 0)),.fv (.lit (.int .i64 0)),.fv (.lit (.bool false)),.nilsl,.nilsl]⟩:=rfl
theorem at70:tab.at 70=some ⟨.sl 30,1,24,[.nilsl]⟩:=rfl
theorem at73:tab.at 73=some ⟨.st [⟨0,1,false⟩,⟨1,1,false⟩],2,48,[.nilsl,.nilsl]⟩:=rfl
theorem at86:tab.at 86=some ⟨.st [⟨0,1,false⟩,⟨1,1,false⟩,⟨2,1,false⟩],3,40,[.nilsl,.fv (.lit (.int .i64 0)),.fv (.lit (.int .i64 0))]⟩:=rfl
theorem at92:tab.at 92=some ⟨.other,1,8,[.fv (.lit (.nilFunc))]⟩:=rfl
theorem at104:tab.at 104=some ⟨.int .u32,1,4,[.fv (.lit (.int .u32 0))]⟩:=rfl
theorem at115:tab.at 115=some ⟨.sl 22,1,24,[.nilsl]⟩:=rfl
theorem at137:tab.at 137=some ⟨.st [⟨0,1,false⟩],1,1,[.fv (.lit (.bool false))]⟩:=rfl
theorem at139:tab.at 139=some ⟨.st [⟨0,1,false⟩,⟨1,1,false⟩],2,48,[.nilsl,.nilsl]⟩:=rfl
theorem at141:tab.at 141=some ⟨.st [⟨0,1,true⟩,⟨1,2,true⟩],3,56,[.fv (.lit (.bool false)),.nilsl,.nilsl]⟩:=rfl
theorem at151:tab.at 151=some ⟨.int .u64,1,8,[.fv (.lit (.int .u64 0))]⟩:=rfl
theorem at152:tab.at 152=some ⟨.int .u64,1,8,[.fv (.lit (.int .u64 0))]⟩:=rfl
theorem at153:tab.at 153=some ⟨.sl 35,1,24,[.nilsl]⟩:=rfl
theorem at160:tab.at 160=some ⟨.other,1,8,[.fv (.lit (.nilFunc))]⟩:=rfl
theorem at164:tab.at 164=some ⟨.sl 53,1,24,[.nilsl]⟩:=rfl
theorem at170:tab.at 170=some ⟨.other,1,8,[.fv (.lit (.nilFunc))]⟩:=rfl
theorem at173:tab.at 173=some ⟨.sl 70,1,24,[.nilsl]⟩:=rfl
theorem at178:tab.at 178=some ⟨.mp 8 (.agg [.bool false,.fv (.sl []),.fv (.sl [])]),1,8,[.fv (.lit (.map none))]⟩:=rfl
theorem at179:tab.at 179=some ⟨.sl 67,1,24,[.nilsl]⟩:=rfl
theorem at182:tab.at 182=some ⟨.other,1,8,[.fv (.lit (.nilFunc))]⟩:=rfl
theorem at184:tab.at 184=some ⟨.st [⟨0,1,false⟩],1,1,[.fv (.lit (.bool false))]⟩:=rfl
theorem at193:tab.at 193=some ⟨.sl 34,1,24,[.nilsl]⟩:=rfl
theorem at202:tab.at 202=some ⟨.other,1,8,[.fv (.lit (.nilFunc))]⟩:=rfl
theorem at216:tab.at 216=some ⟨.mp 8 (.int .i64 0),1,8,[.fv (.lit (.map none))]⟩:=rfl
theorem at219:tab.at 219=some ⟨.other,1,8,[.fv (.lit (.nilFunc))]⟩:=rfl
theorem at221:tab.at 221=some ⟨.st [⟨0,1,false⟩],1,8,[.fv (.lit (.int .i64 0))]⟩:=rfl
theorem at229:tab.at 229=some ⟨.int .i64,1,8,[.fv (.lit (.int .i64 0))]⟩:=rfl
theorem at247:tab.at 247=some ⟨.int .u64,1,8,[.fv (.lit (.int .u64 0))]⟩:=rfl
theorem at251:tab.at 251=some ⟨.other,1,8,[.fv (.lit (.pointer none))]⟩:=rfl
theorem at255:tab.at 255=some ⟨.other,1,16,[.fv (.lit (.nilIface))]⟩:=rfl
abbrev tys:=qy at3 (qy at4 (qy at5 (qy at9 (qy at22 (qy at23 (qy at25 (qy at27 (qy at28 (qy at30 (qy at32 (qy at34 (qy at35 (qy at45 (qy at53 (qy at64 (qy at67 (qy at69 (qy at70 (qy at73 (qy at86 (qy at92 (qy at104 (qy at115 (qy at137 (qy at139 (qy at141 (qy at151 (qy at152 (qy at153 (qy at160 (qy at164 (qy at170 (qy at173 (qy at178 (qy at179 (qy at182 (qy at184 (qy at193 (qy at202 (qy at216 (qy at219 (qy at221 (qy at229 (qy at247 (qy at251 (at255))))))))))))))))))))))))))))))))))))))))))))))
abbrev ru:=qy @wrap64 (qy @wrap32c (qy @wrapU64c (qy @wrapU8c (qy @fdivc (qy @tdivc (qy @tmodc (qy @Nat.min_def (qy @Ap_end_ret (qy @Ap_end_normal (qy @Option.isNone_some.{0} (qy @rules (qy @tys (@eq_self.{1})))))))))))))
theorem ok3:TyOk Tryz.prog 3 ty3:=⟨⟨_,_,(by kernel_rfl:Tryz.prog.info? 3=some Tryz.t3),rfl,rfl,rfl,rfl,rfl,rfl⟩,Tryz.underlying3⟩
theorem ok4:TyOk Tryz.prog 4 ty4:=⟨⟨_,_,(by kernel_rfl:Tryz.prog.info? 4=some Tryz.t4),rfl,rfl,rfl,rfl,rfl,rfl⟩,Tryz.underlying4⟩
theorem ok5:TyOk Tryz.prog 5 ty5:=⟨⟨_,_,(by kernel_rfl:Tryz.prog.info? 5=some Tryz.t5),rfl,rfl,rfl,rfl,rfl,rfl⟩,Tryz.underlying5⟩
theorem ok9:TyOk Tryz.prog 9 ty9:=⟨⟨_,_,(by kernel_rfl:Tryz.prog.info? 9=some Tryz.t9),rfl,rfl,rfl,rfl,rfl,rfl⟩,Tryz.underlying9⟩
theorem ok22:TyOk Tryz.prog 22 ty22:=⟨⟨_,_,(by kernel_rfl:Tryz.prog.info? 22=some Tryz.t22),rfl,rfl,rfl,rfl,rfl,rfl⟩,Tryz.underlying22⟩
theorem ok23:TyOk Tryz.prog 23 ty23:=⟨⟨_,_,(by kernel_rfl:Tryz.prog.info? 23=some Tryz.t23),rfl,rfl,rfl,rfl,rfl,rfl⟩,⟨_,Tryz.underlying23,rfl⟩⟩
theorem ok25:TyOk Tryz.prog 25 ty25:=⟨⟨_,_,(by kernel_rfl:Tryz.prog.info? 25=some Tryz.t25),rfl,rfl,rfl,rfl,rfl,rfl⟩,Tryz.underlying25⟩
theorem ok27:TyOk Tryz.prog 27 ty27:=⟨⟨_,_,(by kernel_rfl:Tryz.prog.info? 27=some Tryz.t27),rfl,rfl,rfl,rfl,rfl,rfl⟩,
 ⟨_,Tryz.underlying27,rfl,fun j f fd h1 h2=>match j,f,fd,h1,h2 with
  | 0,_,_,rfl,rfl=>⟨rfl,by decide,_,_,(by kernel_rfl:Tryz.prog.info? 4=some Tryz.t4),rfl,Tryz.underlying4,rfl⟩
  | 1,_,_,rfl,rfl=>⟨rfl,by decide,_,_,(by kernel_rfl:Tryz.prog.info? 25=some Tryz.t25),rfl,Tryz.underlying25,rfl⟩
  | 2,_,_,rfl,rfl=>⟨rfl,by decide,_,_,(by kernel_rfl:Tryz.prog.info? 25=some Tryz.t25),rfl,Tryz.underlying25,rfl⟩
  | j+3,_,_,h,_=>by simp at h⟩⟩
theorem ok28:TyOk Tryz.prog 28 ty28:=⟨⟨_,_,(by kernel_rfl:Tryz.prog.info? 28=some Tryz.t28),rfl,rfl,rfl,rfl,rfl,rfl⟩,Tryz.underlying28⟩
theorem ok30:TyOk Tryz.prog 30 ty30:=⟨⟨_,_,(by kernel_rfl:Tryz.prog.info? 30=some Tryz.t30),rfl,rfl,rfl,rfl,rfl,rfl⟩,
 ⟨_,Tryz.underlying30,rfl,fun j f fd h1 h2=>match j,f,fd,h1,h2 with
  | 0,_,_,rfl,rfl=>⟨rfl,by decide,_,_,(by kernel_rfl:Tryz.prog.info? 28=some Tryz.t28),rfl,Tryz.underlying28,rfl⟩
  | 1,_,_,rfl,rfl=>⟨rfl,by decide,_,_,(by kernel_rfl:Tryz.prog.info? 27=some Tryz.t27),rfl,Tryz.underlying27,rfl⟩
  | j+2,_,_,h,_=>by simp at h⟩⟩
theorem ok32:TyOk Tryz.prog 32 ty32:=⟨⟨_,_,(by kernel_rfl:Tryz.prog.info? 32=some Tryz.t32),rfl,rfl,rfl,rfl,rfl,rfl⟩,Tryz.underlying32⟩
theorem ok34:TyOk Tryz.prog 34 ty34:=⟨⟨_,_,(by kernel_rfl:Tryz.prog.info? 34=some Tryz.t34),rfl,rfl,rfl,rfl,rfl,rfl⟩,Tryz.underlying34⟩
theorem ok35:TyOk Tryz.prog 35 ty35:=⟨⟨_,_,(by kernel_rfl:Tryz.prog.info? 35=some Tryz.t35),rfl,rfl,rfl,rfl,rfl,rfl⟩,Tryz.underlying35⟩
theorem ok45:TyOk Tryz.prog 45 ty45:=⟨⟨_,_,(by kernel_rfl:Tryz.prog.info? 45=some Tryz.t45),rfl,rfl,rfl,rfl,rfl,rfl⟩,Tryz.underlying45⟩
theorem ok53:TyOk Tryz.prog 53 ty53:=⟨⟨_,_,(by kernel_rfl:Tryz.prog.info? 53=some Tryz.t53),rfl,rfl,rfl,rfl,rfl,rfl⟩,Tryz.underlying53⟩
theorem ok64:TyOk Tryz.prog 64 ty64:=⟨⟨_,_,(by kernel_rfl:Tryz.prog.info? 64=some Tryz.t64),rfl,rfl,rfl,rfl,rfl,rfl⟩,⟨_,Tryz.underlying64,rfl⟩⟩
theorem ok67:TyOk Tryz.prog 67 ty67:=⟨⟨_,_,(by kernel_rfl:Tryz.prog.info? 67=some Tryz.t67),rfl,rfl,rfl,rfl,rfl,rfl⟩,Tryz.underlying67⟩
theorem ok69:TyOk Tryz.prog 69 ty69:=⟨⟨_,_,(by kernel_rfl:Tryz.prog.info? 69=some Tryz.t69),rfl,rfl,rfl,rfl,rfl,rfl⟩,
 ⟨_,Tryz.underlying69,rfl,fun j f fd h1 h2=>match j,f,fd,h1,h2 with
  | 0,_,_,rfl,rfl=>⟨rfl,by decide,_,_,(by kernel_rfl:Tryz.prog.info? 67=some Tryz.t67),rfl,Tryz.underlying67,rfl⟩
  | 1,_,_,rfl,rfl=>⟨rfl,by decide,_,_,(by kernel_rfl:Tryz.prog.info? 27=some Tryz.t27),rfl,Tryz.underlying27,rfl⟩
  | j+2,_,_,h,_=>by simp at h⟩⟩
theorem ok70:TyOk Tryz.prog 70 ty70:=⟨⟨_,_,(by kernel_rfl:Tryz.prog.info? 70=some Tryz.t70),rfl,rfl,rfl,rfl,rfl,rfl⟩,Tryz.underlying70⟩
theorem ok73:TyOk Tryz.prog 73 ty73:=⟨⟨_,_,(by kernel_rfl:Tryz.prog.info? 73=some Tryz.t73),rfl,rfl,rfl,rfl,rfl,rfl⟩,
 ⟨_,Tryz.underlying73,rfl,fun j f fd h1 h2=>match j,f,fd,h1,h2 with
  | 0,_,_,rfl,rfl=>⟨rfl,by decide,_,_,(by kernel_rfl:Tryz.prog.info? 70=some Tryz.t70),rfl,Tryz.underlying70,rfl⟩
  | 1,_,_,rfl,rfl=>⟨rfl,by decide,_,_,(by kernel_rfl:Tryz.prog.info? 35=some Tryz.t35),rfl,Tryz.underlying35,rfl⟩
  | j+2,_,_,h,_=>by simp at h⟩⟩
theorem ok86:TyOk Tryz.prog 86 ty86:=⟨⟨_,_,(by kernel_rfl:Tryz.prog.info? 86=some Tryz.t86),rfl,rfl,rfl,rfl,rfl,rfl⟩,
 ⟨_,Tryz.underlying86,rfl,fun j f fd h1 h2=>match j,f,fd,h1,h2 with
  | 0,_,_,rfl,rfl=>⟨rfl,by decide,_,_,(by kernel_rfl:Tryz.prog.info? 22=some Tryz.t22),rfl,Tryz.underlying22,rfl⟩
  | 1,_,_,rfl,rfl=>⟨rfl,by decide,_,_,(by kernel_rfl:Tryz.prog.info? 3=some Tryz.t3),rfl,Tryz.underlying3,rfl⟩
  | 2,_,_,rfl,rfl=>⟨rfl,by decide,_,_,(by kernel_rfl:Tryz.prog.info? 3=some Tryz.t3),rfl,Tryz.underlying3,rfl⟩
  | j+3,_,_,h,_=>by simp at h⟩⟩
theorem ok92:TyOk Tryz.prog 92 ty92:=⟨⟨_,_,(by kernel_rfl:Tryz.prog.info? 92=some Tryz.t92),rfl,rfl,rfl,rfl,rfl,rfl⟩,⟨_,Tryz.underlying92,rfl⟩⟩
theorem ok104:TyOk Tryz.prog 104 ty104:=⟨⟨_,_,(by kernel_rfl:Tryz.prog.info? 104=some Tryz.t104),rfl,rfl,rfl,rfl,rfl,rfl⟩,Tryz.underlying104⟩
theorem ok115:TyOk Tryz.prog 115 ty115:=⟨⟨_,_,(by kernel_rfl:Tryz.prog.info? 115=some Tryz.t115),rfl,rfl,rfl,rfl,rfl,rfl⟩,Tryz.underlying115⟩
theorem ok137:TyOk Tryz.prog 137 ty137:=⟨⟨_,_,(by kernel_rfl:Tryz.prog.info? 137=some Tryz.t137),rfl,rfl,rfl,rfl,rfl,rfl⟩,
 ⟨_,Tryz.underlying137,rfl,fun j f fd h1 h2=>match j,f,fd,h1,h2 with
  | 0,_,_,rfl,rfl=>⟨rfl,by decide,_,_,(by kernel_rfl:Tryz.prog.info? 4=some Tryz.t4),rfl,Tryz.underlying4,rfl⟩
  | j+1,_,_,h,_=>by simp at h⟩⟩
theorem ok139:TyOk Tryz.prog 139 ty139:=⟨⟨_,_,(by kernel_rfl:Tryz.prog.info? 139=some Tryz.t139),rfl,rfl,rfl,rfl,rfl,rfl⟩,
 ⟨_,Tryz.underlying139,rfl,fun j f fd h1 h2=>match j,f,fd,h1,h2 with
  | 0,_,_,rfl,rfl=>⟨rfl,by decide,_,_,(by kernel_rfl:Tryz.prog.info? 25=some Tryz.t25),rfl,Tryz.underlying25,rfl⟩
  | 1,_,_,rfl,rfl=>⟨rfl,by decide,_,_,(by kernel_rfl:Tryz.prog.info? 25=some Tryz.t25),rfl,Tryz.underlying25,rfl⟩
  | j+2,_,_,h,_=>by simp at h⟩⟩
theorem ok141:TyOk Tryz.prog 141 ty141:=⟨⟨_,_,(by kernel_rfl:Tryz.prog.info? 141=some Tryz.t141),rfl,rfl,rfl,rfl,rfl,rfl⟩,
 ⟨_,Tryz.underlying141,rfl,fun j f fd h1 h2=>match j,f,fd,h1,h2 with
  | 0,_,_,rfl,rfl=>⟨rfl,by decide,_,_,(by kernel_rfl:Tryz.prog.info? 137=some Tryz.t137),rfl,Tryz.underlying137,rfl⟩
  | 1,_,_,rfl,rfl=>⟨rfl,by decide,_,_,(by kernel_rfl:Tryz.prog.info? 139=some Tryz.t139),rfl,Tryz.underlying139,rfl⟩
  | j+2,_,_,h,_=>by simp at h⟩⟩
theorem ok151:TyOk Tryz.prog 151 ty151:=⟨⟨_,_,(by kernel_rfl:Tryz.prog.info? 151=some Tryz.t151),rfl,rfl,rfl,rfl,rfl,rfl⟩,Tryz.underlying151⟩
theorem ok152:TyOk Tryz.prog 152 ty152:=⟨⟨_,_,(by kernel_rfl:Tryz.prog.info? 152=some Tryz.t152),rfl,rfl,rfl,rfl,rfl,rfl⟩,Tryz.underlying152⟩
theorem ok153:TyOk Tryz.prog 153 ty153:=⟨⟨_,_,(by kernel_rfl:Tryz.prog.info? 153=some Tryz.t153),rfl,rfl,rfl,rfl,rfl,rfl⟩,Tryz.underlying153⟩
theorem ok160:TyOk Tryz.prog 160 ty160:=⟨⟨_,_,(by kernel_rfl:Tryz.prog.info? 160=some Tryz.t160),rfl,rfl,rfl,rfl,rfl,rfl⟩,⟨_,Tryz.underlying160,rfl⟩⟩
theorem ok164:TyOk Tryz.prog 164 ty164:=⟨⟨_,_,(by kernel_rfl:Tryz.prog.info? 164=some Tryz.t164),rfl,rfl,rfl,rfl,rfl,rfl⟩,Tryz.underlying164⟩
theorem ok170:TyOk Tryz.prog 170 ty170:=⟨⟨_,_,(by kernel_rfl:Tryz.prog.info? 170=some Tryz.t170),rfl,rfl,rfl,rfl,rfl,rfl⟩,⟨_,Tryz.underlying170,rfl⟩⟩
theorem ok173:TyOk Tryz.prog 173 ty173:=⟨⟨_,_,(by kernel_rfl:Tryz.prog.info? 173=some Tryz.t173),rfl,rfl,rfl,rfl,rfl,rfl⟩,Tryz.underlying173⟩
theorem ok178:TyOk Tryz.prog 178 ty178:=⟨⟨_,_,(by kernel_rfl:Tryz.prog.info? 178=some Tryz.t178),rfl,rfl,rfl,rfl,rfl,rfl⟩,
 mp_ok Tryz.underlying178 (by kernel_rfl:Tryz.prog.info? 27=some Tryz.t27) rfl rfl ratZ ⟨Tryz.underlying67,by simp[Program.plainKey,Tryz.underlying3],by kernel_rfl,by kernel_rfl⟩ Tryz.underlying3 ⟨280,by kernel_rfl⟩⟩
theorem ok179:TyOk Tryz.prog 179 ty179:=⟨⟨_,_,(by kernel_rfl:Tryz.prog.info? 179=some Tryz.t179),rfl,rfl,rfl,rfl,rfl,rfl⟩,Tryz.underlying179⟩
theorem ok182:TyOk Tryz.prog 182 ty182:=⟨⟨_,_,(by kernel_rfl:Tryz.prog.info? 182=some Tryz.t182),rfl,rfl,rfl,rfl,rfl,rfl⟩,⟨_,Tryz.underlying182,rfl⟩⟩
theorem ok184:TyOk Tryz.prog 184 ty184:=⟨⟨_,_,(by kernel_rfl:Tryz.prog.info? 184=some Tryz.t184),rfl,rfl,rfl,rfl,rfl,rfl⟩,
 ⟨_,Tryz.underlying184,rfl,fun j f fd h1 h2=>match j,f,fd,h1,h2 with
  | 0,_,_,rfl,rfl=>⟨rfl,by decide,_,_,(by kernel_rfl:Tryz.prog.info? 4=some Tryz.t4),rfl,Tryz.underlying4,rfl⟩
  | j+1,_,_,h,_=>by simp at h⟩⟩
theorem ok193:TyOk Tryz.prog 193 ty193:=⟨⟨_,_,(by kernel_rfl:Tryz.prog.info? 193=some Tryz.t193),rfl,rfl,rfl,rfl,rfl,rfl⟩,Tryz.underlying193⟩
theorem ok202:TyOk Tryz.prog 202 ty202:=⟨⟨_,_,(by kernel_rfl:Tryz.prog.info? 202=some Tryz.t202),rfl,rfl,rfl,rfl,rfl,rfl⟩,⟨_,Tryz.underlying202,rfl⟩⟩
theorem ok216:TyOk Tryz.prog 216 ty216:=⟨⟨_,_,(by kernel_rfl:Tryz.prog.info? 216=some Tryz.t216),rfl,rfl,rfl,rfl,rfl,rfl⟩,
 mp_ok Tryz.underlying216 (by kernel_rfl:Tryz.prog.info? 3=some Tryz.t3) rfl rfl intZ ⟨Tryz.underlying67,by simp[Program.plainKey,Tryz.underlying3],by kernel_rfl,by kernel_rfl⟩ Tryz.underlying3 ⟨280,by kernel_rfl⟩⟩
theorem ok219:TyOk Tryz.prog 219 ty219:=⟨⟨_,_,(by kernel_rfl:Tryz.prog.info? 219=some Tryz.t219),rfl,rfl,rfl,rfl,rfl,rfl⟩,⟨_,Tryz.underlying219,rfl⟩⟩
theorem ok221:TyOk Tryz.prog 221 ty221:=⟨⟨_,_,(by kernel_rfl:Tryz.prog.info? 221=some Tryz.t221),rfl,rfl,rfl,rfl,rfl,rfl⟩,
 ⟨_,Tryz.underlying221,rfl,fun j f fd h1 h2=>match j,f,fd,h1,h2 with
  | 0,_,_,rfl,rfl=>⟨rfl,by decide,_,_,(by kernel_rfl:Tryz.prog.info? 3=some Tryz.t3),rfl,Tryz.underlying3,rfl⟩
  | j+1,_,_,h,_=>by simp at h⟩⟩
theorem ok229:TyOk Tryz.prog 229 ty229:=⟨⟨_,_,(by kernel_rfl:Tryz.prog.info? 229=some Tryz.t229),rfl,rfl,rfl,rfl,rfl,rfl⟩,Tryz.underlying229⟩
theorem ok247:TyOk Tryz.prog 247 ty247:=⟨⟨_,_,(by kernel_rfl:Tryz.prog.info? 247=some Tryz.t247),rfl,rfl,rfl,rfl,rfl,rfl⟩,Tryz.underlying247⟩
theorem ok251:TyOk Tryz.prog 251 ty251:=⟨⟨_,_,(by kernel_rfl:Tryz.prog.info? 251=some Tryz.t251),rfl,rfl,rfl,rfl,rfl,rfl⟩,⟨_,Tryz.underlying251,rfl⟩⟩
theorem ok255:TyOk Tryz.prog 255 ty255:=⟨⟨_,_,(by kernel_rfl:Tryz.prog.info? 255=some Tryz.t255),rfl,rfl,rfl,rfl,rfl,rfl⟩,⟨_,Tryz.underlying255,rfl⟩⟩
theorem tabOk:TabOk Tryz.prog tab:=by
 refine tabOk_of (fun e he=>?_);simp only[tab,qhb,List.not_mem_nil,or_false] at he;rcases he with rfl | rfl | rfl | rfl | rfl | rfl | rfl | rfl | rfl | rfl | rfl | rfl | rfl | rfl | rfl | rfl | rfl | rfl | rfl | rfl | rfl | rfl | rfl | rfl | rfl | rfl | rfl | rfl | rfl | rfl | rfl | rfl | rfl | rfl | rfl | rfl | rfl | rfl | rfl | rfl | rfl | rfl | rfl | rfl | rfl | rfl | rfl
 ·exact ok3
 ·exact ok4
 ·exact ok5
 ·exact ok9
 ·exact ok22
 ·exact ok23
 ·exact ok25
 ·exact ok27
 ·exact ok28
 ·exact ok30
 ·exact ok32
 ·exact ok34
 ·exact ok35
 ·exact ok45
 ·exact ok53
 ·exact ok64
 ·exact ok67
 ·exact ok69
 ·exact ok70
 ·exact ok73
 ·exact ok86
 ·exact ok92
 ·exact ok104
 ·exact ok115
 ·exact ok137
 ·exact ok139
 ·exact ok141
 ·exact ok151
 ·exact ok152
 ·exact ok153
 ·exact ok160
 ·exact ok164
 ·exact ok170
 ·exact ok173
 ·exact ok178
 ·exact ok179
 ·exact ok182
 ·exact ok184
 ·exact ok193
 ·exact ok202
 ·exact ok216
 ·exact ok219
 ·exact ok221
 ·exact ok229
 ·exact ok247
 ·exact ok251
 ·exact ok255
theorem mixed:Tryz.prog.follows .mixedOrders=true:=by kernel_rfl
end Go.Proofs.YtjjbkjgifdhlcaaGreat
namespace Go.Pl
abbrev B:Nat:=4294967296
def val:List Nat->Nat
 | []=>0
 | d::l=>d+B*val l
def Dig (l:List Nat):Prop:= ∀ d∈l,d<B
theorem Dig.nil:Dig []:=by simp[Dig]
theorem Dig.cons {d:Nat} {l:List Nat} (h:Dig (d::l)):d<B/\Dig l:=⟨h d (by simp),fun x hx=>h x (by simp[hx])⟩
theorem Dig.mk {d:Nat} {l:List Nat} (h:d<B) (k:Dig l):Dig (d::l):=fun x hx=>by
 simp only[qhb] at hx;rcases hx with rfl | hx
 ·exact h
 ·exact k x hx
theorem Dig.take {l:List Nat} (h:Dig l) (n:Nat):Dig (l.take n):=fun d hd=>h d (qfb hd)
theorem Dig.drop {l:List Nat} (h:Dig l) (n:Nat):Dig (l.drop n):=fun d hd=>h d (qgb hd)
theorem Dig.app {l k:List Nat} (h:Dig l) (h2:Dig k):Dig (l++k):=fun d hd=>by
 rcases List.mem_append.1 hd with hd | hd
 ·exact h d hd
 ·exact h2 d hd
theorem Dig.set {l:List Nat} (h:Dig l) (i:Nat) {x:Nat} (hx:x<B):Dig (l.set i x):=fun d hd=>by
 rcases List.mem_or_eq_of_mem_set hd with hd | rfl
 ·exact h d hd
 ·exact hx
theorem Dig.getD {l:List Nat} (h:Dig l) (i:Nat):l.getD i 0<B:=by
 by_cases hi:i<l.length
 ·have:l.getD i 0=l[i]:=by simp[hi]
  rw[this];exact h _ (qqb hi)
 ·have:l.getD i 0=0:=by simp[hi]
  rw[this];decide
theorem Dig.zeros {n:Nat}:Dig (replicate n 0):=fun d hd=>by
 rw[List.eq_of_mem_replicate hd];decide
theorem val_append (l k:List Nat):val (l++k)=val l+B^l.length*val k:=by
 induction l with
 | nil=>simp[val]
 | cons d l ih=>
  simp only[List.cons_append,val,ih,length_cons,Nat.pow_succ];rw[Nat.mul_add,<-Nat.mul_assoc,Nat.mul_comm B (B^l.length),Nat.add_assoc]
theorem val_lt {l:List Nat} (h:Dig l):val l<B^l.length:=by
 induction l with
 | nil=>simp[val]
 | cons d l ih=>
  obtain⟨h1,h2⟩:=h.cons;have:=ih h2;simp only[val,length_cons,Nat.pow_succ];have h3:val l+1<=B^l.length:=this;have h4:(val l+1)*B<=B^l.length*B:=qn _ h3;rw[Nat.add_mul,Nat.mul_comm (val l) B] at h4;omega
theorem val_zeros (n:Nat):val (replicate n 0)=0:=by
 induction n with
 | zero=>rfl
 | succ n ih=>simp[List.replicate_succ,val,ih]
def limbs (n:Nat):List Nat:=if _h:n=0 then [] else n % B::limbs (n / B)
termination_by n
decreasing_by exact Nat.div_lt_self (by omega) (by decide)
theorem limbs_zero:limbs 0=[]:=by rw[limbs];simp
theorem limbs_pos {n:Nat} (h:n≠0):limbs n=n % B::limbs (n / B):=by rw[limbs];simp[h]
theorem limbs_dig (n:Nat):Dig (limbs n):=by
 induction n using Nat.strongRecOn with
 | _ n ih=>
  by_cases h:n=0
  ·subst h;rw[limbs_zero];exact Dig.nil
  ·rw[limbs_pos h];exact Dig.mk (Nat.mod_lt _ (by decide)) (ih _ (Nat.div_lt_self (by omega) (by decide)))
theorem val_limbs (n:Nat):val (limbs n)=n:=by
 induction n using Nat.strongRecOn with
 | _ n ih=>
  by_cases h:n=0
  ·subst h;rw[limbs_zero];rfl
  ·rw[limbs_pos h];simp only[val];rw[ih _ (Nat.div_lt_self (by omega) (by decide))];exact Nat.mod_add_div n B
def trimL (l:List Nat):List Nat:=if h:0<l.length then(if l.getD (l.length - 1) 0=0 then trimL (l.take (l.length - 1)) else l) else l
termination_by l.length
decreasing_by simp[length_take];omega
theorem limbs_of_cons {d:Nat} {l:List Nat} (hd:d<B) (h:d≠0\/val l≠0):limbs (val (d::l))=d::limbs (val l):=by
 have hne:val (d::l)≠0:=by
  simp only[val];rcases h with h | h
  ·omega
  ·have:0<B*val l:=Nat.mul_pos (by decide) (by omega);omega
 rw[limbs_pos hne];have h1:(d+B*val l) % B=d:=by rw[Nat.add_mul_mod_self_left,Nat.mod_eq_of_lt hd]
 have h2:(d+B*val l) / B=val l:=by rw[Nat.add_mul_div_left _ _ (by decide),Nat.div_eq_of_lt hd,Nat.zero_add]
 simp only[val,h1,h2]
theorem limbs_val {l:List Nat} (hd:Dig l) (h:l=[]\/l.getD (l.length - 1) 0≠0):limbs (val l)=l:=by
 induction l with
 | nil=>exact limbs_zero
 | cons d l ih=>
  obtain⟨h1,h2⟩:=hd.cons;rcases h with h | h
  ·cases h
  by_cases hl:l=[]
  ·subst hl;simp at h;rw[limbs_of_cons h1 (.inl h)];simp[val,limbs_zero]
  ·obtain⟨e,k,rfl⟩:=List.exists_cons_of_ne_nil hl;have h3:(e::k).getD ((e::k).length - 1) 0≠0:=by
    simpa using h
   have h4:=ih h2 (.inr h3);have h5:val (e::k)≠0:=by
    intro h0;rw[h0,limbs_zero] at h4;cases h4
   rw[limbs_of_cons h1 (.inr h5),h4]
theorem trimL_eq (l:List Nat) (hd:Dig l):trimL l=limbs (val l):=by
 generalize hn:l.length=n
 induction n generalizing l with
 | zero=>
  have:=List.eq_nil_of_length_eq_zero hn;subst this;rw[trimL];simp[val,limbs_zero]
 | succ n ih=>
  rw[trimL,dif_pos (by omega)];split
  ·rename_i h0;rw[ih _ (hd.take _) (by simp[hn])];have:l=l.take (l.length - 1)++[0]:=by
    have h1:l.drop (l.length - 1)=[0]:=by
     have hlt:l.length - 1<l.length:=by omega
     rw[drop_eq_getElem_cons hlt];have h2:l.getD (l.length - 1) 0=l[l.length - 1]:=by simp[hlt]
     rw[<-h2,h0];simp;omega
    conv=>lhs;rw[<-List.take_append_drop (l.length - 1) l,h1]
   conv=>rhs;rw[this,val_append]
   simp[val]
  ·rename_i h0;exact(limbs_val hd (.inr h0)).symm
theorem limbs_length_le {n k:Nat} (h:n<B^k):(limbs n).length<=k:=by
 induction k generalizing n with
 | zero=>
  have:n=0:=by simpa using h
  subst this;rw[limbs_zero];simp
 | succ k ih=>
  by_cases h0:n=0
  ·subst h0;rw[limbs_zero];simp
  ·rw[limbs_pos h0,length_cons];have:n / B<B^k:=by
    rw[Nat.div_lt_iff_lt_mul (by decide)];rw[Nat.pow_succ] at h;exact h
   have:=ih this;omega
theorem lt_of_limbs_length {n:Nat}:n<B^(limbs n).length:=by
 have:=val_lt (limbs_dig n);rwa [val_limbs] at this
theorem val_take_succ (l:List Nat) (i:Nat):val (l.take (i+1))=val (l.take i)+B^i*l.getD i 0:=by
 by_cases hi:i<l.length
 ·rw[List.take_succ_eq_append_getElem hi,val_append];have h1:l.getD i 0=l[i]:=by simp[hi]
  have h2:(l.take i).length=i:=by rw[length_take];omega
  rw[h1,h2];simp[val]
 ·rw[qdq (by omega),qdq (by omega)];have h1:l.getD i 0=0:=by simp[hi]
  rw[h1];simp
theorem val_set_take {l:List Nat} {i:Nat} (hi:i<l.length) (x:Nat):val ((l.set i x).take (i+1))=val (l.take i)+B^i*x:=by
 rw[val_take_succ];have h1:(l.set i x).take i=l.take i:=by rw[List.take_set_of_le (qp i)]
 have h2:(l.set i x).getD i 0=x:=by simp[hi]
 rw[h1,h2]
theorem val_take_all {l:List Nat} {n:Nat} (h:l.length<=n):val (l.take n)=val l:=by rw[qdq h]
theorem carry_step (p s:Nat):p*(s % B)+s / B*(p*B)=p*s:=by
 conv=>rhs;rw[<-Nat.mod_add_div s B]
 rw[Nat.mul_add,<-Nat.mul_assoc p B,Nat.mul_comm (s / B) (p*B)]
theorem limbs_len_lt {x y:Nat} (h:(limbs x).length<(limbs y).length):x<y:=by
 rcases Nat.lt_or_ge x y with h1 | h1
 ·exact h1
 ·have h2:y<B^(limbs x).length:=qmb h1 lt_of_limbs_length;have:=limbs_length_le h2;omega
theorem val_drop (l:List Nat) (k:Nat) (hk:k<=l.length):val l=val (l.take k)+B^k*val (l.drop k):=by
 conv=>lhs;rw[<-List.take_append_drop k l,val_append]
 rw[length_take,Nat.min_eq_left hk]
theorem digit_lt {p q:List Nat} {j:Nat} (hp:Dig p) (hjp:j<p.length) (hjq:j<q.length) (hd:p.drop (j+1)=q.drop (j+1)) (h:p.getD j 0<q.getD j 0):val p<val q:=by
 rw[val_drop p (j+1) (by omega),val_drop q (j+1) (by omega),hd,val_take_succ,val_take_succ];have h1:=val_lt (hp.take j);rw[length_take,Nat.min_eq_left (by omega)] at h1;have h2:B^j*(p.getD j 0+1)<=B^j*q.getD j 0:=Nat.mul_le_mul_left _ h;rw[Nat.mul_add] at h2;omega
def cmpN (x y:Nat):Int:=if x<y then -1 else if y<x then 1 else 0
theorem cmpN_lt {x y:Nat} (h:x<y):cmpN x y= -1:=by simp[cmpN,h]
theorem cmpN_gt {x y:Nat} (h:y<x):cmpN x y=1:=by simp[cmpN,h];omega
theorem cmpN_eq {x:Nat}:cmpN x x=0:=by simp[cmpN]
def N (n:Nat):AM.FV:= .sl (AM.u32s (limbs n))
end Go.Pl
namespace Go.Proofs.YtjjbkjgifdhlcaaGreat
open Go.AM Go.Pl
set_option maxRecDepth 100000
set_option maxHeartbeats 1000000
theorem den87 (l:List Nat) (hd:Dig l) (hl:l.length<1000000000000):Den Tryz.prog 178 [] [.fv (.sl (u32s l))] [] (.fv (N (val l))):=by
 refine den_of tabOk mixed Tryz.func178 (cd:=_) rfl (by decide) rfl (n:=20) rfl rfl (m:=0) rfl ?_;simp -dsimp(disch:=omega) only[replicate,rules];refine wl (α:=List Nat) (fun l=>⟨.fv (.sl (u32s l)):: .any:: .nilsl::replicate 18 .any,[]⟩) List.length (fun k=>k.length<1000000000000/\trimL k=trimL l) l ?_ ?_ ?_
 ·refine wk [] List.nodup_nil rfl ?_ ?_
  ·simp[leVs,leV,le1]
  ·trivial
 ·exact⟨hl,rfl⟩
 rintro k ⟨hk,hkl⟩;simp -dsimp(disch:=omega) only[↓reduceIte,ru];refine bd_ ?_ ?_
 ·intro h1 h2;simp -dsimp(disch:=omega) only[h2,↓reduceIte,reduceLT,reduceLeDiff,ru];refine⟨by omega,?_⟩;refine Br.beqInt ?_ ?_
  ·intro h3 h4;simp -dsimp(disch:=omega) only[h4,↓reduceIte,ru];refine⟨by omega,?_⟩;refine ap (k.take (k.length - 1)) (by simp;omega) ?_ ⟨by simp;omega,?_⟩
   ·refine wk [] List.nodup_nil rfl ?_ ?_
    ·have:((k.length:Int) - 1).toNat=k.length - 1:=by omega
     simp[leVs,leV,le1,this]
    ·trivial
   ·rw[<-hkl];rw[trimL.eq_def k,dif_pos (by omega),if_pos];have:((k.length:Int) - 1).toNat=k.length - 1:=by omega
    rw[this] at h3;simpa using h3
  ·intro h3 h4;simp -dsimp(disch:=omega) only[h4,Nat.reduceBEq,ru];refine rpq rfl ⟨tvq,tvq⟩ ?_;simp(disch:=omega) only[N,St.get,fzX,oneRes,fzV,fzC,fz1,fz0,Option.map_some,qk,getD_cons_zero];rw[<-trimL_eq l hd,<-hkl,trimL.eq_def,dif_pos (by omega),if_neg];have:((k.length:Int) - 1).toNat=k.length - 1:=by omega
   rw[this] at h3;simpa using h3
 ·intro h1 h2;simp -dsimp(disch:=omega) only[h2,↓reduceIte,Nat.reduceBEq,ru];refine rpq rfl ⟨tvq,tvq⟩ ?_;simp(disch:=omega) only[N,St.get,fzX,oneRes,fzV,fzC,fz1,fz0,Option.map_some,qk,getD_cons_zero];rw[<-trimL_eq l hd,<-hkl,trimL.eq_def,dif_neg (by omega)]
theorem den97 (xs:List (List FV)) (hs: ∀ y∈xs,y.length=1) (hl:xs.length<1000000000000):Den Tryz.prog 214 [] [.fv (.sl xs)] [] (.fv (.sl xs)):=by
 cases xs with
 | nil=>
  refine Den.empty (pre:=[]) (post:=[]) ?_ (fun ad cap=>?_)
  ·refine den_of tabOk mixed Tryz.func214 (cd:=_) rfl (by decide) rfl (n:=7) rfl rfl (m:=0) rfl ?_;simp -dsimp(disch:=omega) only[replicate,↓reduceIte,ru];refine rpq rfl ⟨tvq,tvq⟩ ?_;simp(disch:=omega) only[St.get,fzX,oneRes,fzV,fzC,fz1,fz0,Option.map_some,qk,getD_cons_zero]
  ·refine den_of tabOk mixed Tryz.func214 (cd:=_) rfl (by decide) rfl (n:=7) rfl rfl (m:=0) rfl ?_;simp -dsimp(disch:=omega) only[replicate,↓reduceIte,Nat.reduceMul,reduceLT,reduceLeDiff,ru];refine rpq rfl ⟨tvq,tvq⟩ ?_;simp(disch:=omega) only[List.take_zero,List.length_nil,List.drop_zero,Nat.zero_add,qp,↓reduceIte,List.idxOf?_nil,St.get,fzX,oneRes,fzV,fzC,fz1,fz0,Option.map_some,qk,getD_cons_zero,List.getElem?_cons_zero,List.getElem?_cons_succ]
 | cons x xs=>
  refine den_of tabOk mixed Tryz.func214 (cd:=_) rfl (by decide) rfl (n:=7) rfl rfl (m:=0) rfl ?_;simp -dsimp(disch:=omega) only[replicate,↓reduceIte,reduceLT,reduceLeDiff,ru];refine⟨⟨hs,by simp only[length_cons] at hl;omega⟩,?_⟩;refine rpq rfl ⟨tvq,tvq⟩ ?_;simp(disch:=omega) only[List.drop_zero,Nat.zero_add,List.idxOf?_nil,St.get,fzX,oneRes,fzV,fzC,fz1,fz0,qk,getD_cons_zero,List.getElem?_cons_zero,List.getElem?_cons_succ];simp
theorem den89 (a b c:Nat) (ha:a<4294967296) (hb:b<4294967296) (hc:c<=1):Den Tryz.prog 180 [] [.int .u32 a,.int .u32 b,.int .u32 c] [] (.tup [.int .u32 ((a+b+c) % 4294967296:Nat),.int .u32 ((a+b+c) / 4294967296:Nat)]):=by
 refine den_of tabOk mixed Tryz.func180 (cd:=_) rfl (by decide) rfl (n:=19) rfl rfl (m:=0) rfl ?_;simp -dsimp(disch:=omega) only[replicate,IntKind.bits,Int.reduceToNat,Int.reducePow,↓reduceIte,reduceLeDiff,ru];refine⟨by omega,?_⟩;refine rpq rfl ⟨tvq,tvq,tvq⟩ ?_;simp(disch:=omega) only[St.get,fzX,oneRes,fzV,fzVs,fzC,fz1,fz0,Option.map_some,qk,getD_cons_zero];simp[wrap32]
theorem den88 (a b:Nat) (ha:a<4294967296) (hb:b<4294967296):Den Tryz.prog 179 [] [.int .u32 a,.int .u32 b] [] (.tup [.int .u32 ((a*b) / 4294967296:Nat),.int .u32 ((a*b) % 4294967296:Nat)]):=by
 have hm:a*b<18446744073709551616:=by
  have:a*b<=4294967295*4294967295:=Nat.mul_le_mul (by omega) (by omega);omega
 have hm2:(a:Int)*b=((a*b:Nat):Int):=by simp
 refine den_of tabOk mixed Tryz.func179 (cd:=_) rfl (by decide) rfl (n:=15) rfl rfl (m:=0) rfl ?_;simp -dsimp(disch:=omega) only[replicate,hm2,IntKind.bits,Int.reduceToNat,Int.reducePow,↓reduceIte,reduceLeDiff,ru];refine⟨by omega,?_⟩;refine rpq rfl ⟨tvq,tvq,tvq⟩ ?_;simp(disch:=omega) only[St.get,fzX,oneRes,fzV,fzVs,fzC,fz1,fz0,Option.map_some,qk,getD_cons_zero];simp[wrap32]
theorem den90 (a b:List Nat) (ha:Dig a) (hb:Dig b) (hla:a.length<100000000000) (hlb:b.length<100000000000):Den Tryz.prog 175 [] [.fv (.sl (u32s a)),.fv (.sl (u32s b))] [] (.fv (N (val a+val b))):=by
 refine den_of tabOk mixed Tryz.func175 (cd:=_) rfl (by decide) rfl (n:=52) rfl rfl (m:=0) rfl ?_;refine WA.assoc ?_;refine WA.cut (α:=List Nat×List Nat×List PV) (fun⟨p,q,z⟩=>⟨.fv (.sl (u32s p)):: .fv (.sl (u32s q)):: .any:: .any:: .nilsl:: .any:: .any:: .any:: .any:: .any::(z++replicate 37 .any),[]⟩)
  (fun⟨p,q,z⟩=>Dig p/\Dig q/\q.length<=p.length/\p.length<100000000000/\val p+val q=val a+val b/\z.length=7) ?_ ?_
 ·simp -dsimp(disch:=omega) only[replicate,↓reduceIte,ru];refine bd_ ?_ ?_
  ·intro h1 h2;simp -dsimp(disch:=omega) only[h2,rules];refine Mid.mk (b,a,[_,_,_,_,_,_,_]) rfl ⟨hb,ha,by dsimp only;omega,hlb,by dsimp only;omega,rfl⟩
  ·intro h1 h2;simp -dsimp(disch:=omega) only[h2,rules];refine Mid.mk (a,b,[_,_,_,_,_,_,_]) rfl ⟨ha,hb,by dsimp only;omega,hla,rfl,rfl⟩
 ·rintro⟨p,q,z⟩ ⟨hp,hq,hlen,hlp,hv,hz⟩;obtain⟨z0,z1,z2,z3,z4,z5,z6,rfl⟩: ∃ z0 z1 z2 z3 z4 z5 z6,z=[z0,z1,z2,z3,z4,z5,z6]:=by
   match z,hz with
   | [z0,z1,z2,z3,z4,z5,z6],_=>exact⟨_,_,_,_,_,_,_,rfl⟩
  simp -dsimp(disch:=omega) only[replicate,↓reduceIte,reduceLT,ru];refine⟨by omega,?_⟩;have hn:((p.length:Int)+1).toNat=p.length+1:=by omega
  refine wl (α:=Nat×Nat×List Nat) (fun⟨i,c,out⟩=>⟨.fv (.sl (u32s p)):: .fv (.sl (u32s q)):: .any:: .any:: .nilsl:: .lsl 0 0 (p.length+1) 1:: .int .u32 c::(replicate 14 .any++ .fv (.sl (u32s p)):: .int .i64 p.length:: .int .i64 i::replicate 30 .any),[.row true (u32s out)]⟩)
   (fun⟨i,_,_⟩=>p.length - i)
   (fun⟨i,c,out⟩=>i<=p.length/\c<=1/\out.length=p.length+1/\Dig out/\val (out.take i)+c*B^i=val (p.take i)+val (q.take i)) (0,0,replicate (p.length+1) 0) ?_ ?_ ?_
  ·refine wk [0] (by simp) rfl ?_ ?_
   ·simp[leVs,leV,le1,hn]
   ·simp[leH,leO,hn]
  ·exact⟨by omega,by omega,by simp,Dig.zeros,by simp[val]⟩
  ·rintro⟨i,c,out⟩ ⟨hi,hc,ho,hd,hv2⟩;simp -dsimp(disch:=omega) only[replicate,↓reduceIte,ru];refine bd_ ?_ ?_
   ·intro h1 h2;simp -dsimp(disch:=omega) only[h2,↓reduceIte,reduceLT,reduceLeDiff,ru];refine⟨by omega,?_⟩;have hdp:=hp.getD i;have hdq:=hq.getD i;have hst:=val_set_take (l:=out) (i:=i) (by omega) ((p.getD i 0+q.getD i 0+c) % 4294967296);have hcs:=carry_step (B^i) (p.getD i 0+q.getD i 0+c);have htp:=val_take_succ p i;have htq:=val_take_succ q i;have hstep:val ((out.set i ((p.getD i 0+q.getD i 0+c) % 4294967296)).take (i+1))+(p.getD i 0+q.getD i 0+c) / 4294967296*B^(i+1)=val (p.take (i+1))+val (q.take (i+1)):=by
     rw[Nat.pow_succ,hst,htp,htq];rw[Nat.mul_add,Nat.mul_add] at hcs;rw[Nat.mul_comm (B^i) c] at hcs;simp only[B] at*;omega
    have hdig:Dig (out.set i ((p.getD i 0+q.getD i 0+c) % 4294967296)):=hd.set i (Nat.mod_lt _ (by decide));have hc2:(p.getD i 0+q.getD i 0+c) / 4294967296<=1:=by simp only[B] at*;omega
    simp only[B] at hdp hdq;have fin: ∀ x:Int,x=((q.getD i 0:Nat):Int)->fzAs [Ob.row true (u32s out)] ([]++[PV.fv (FV.lit (Value.int IntKind.u32 ((p.getD i 0:Nat):Int))),PV.int IntKind.u32 x,PV.int IntKind.u32 (c:Int)]++[])=some [.int .u32 ((p.getD i 0:Nat):Int),.int .u32 ((q.getD i 0:Nat):Int),.int .u32 (c:Int)]:=by
     intro x hx;subst hx;rfl
    refine bd_ ?_ ?_
    ·intro h3 h4;simp -dsimp(disch:=omega) only[h4,↓reduceIte,reduceLT,reduceLeDiff,ru];refine⟨by omega,?_⟩;refine gp (den89 _ _ _ hdp hdq hc) (fin _ rfl) ?_;simp -dsimp(disch:=omega) only[↓reduceIte,reduceLT,reduceLeDiff,ru];refine⟨by omega,by omega,?_⟩;refine ap (i+1,(p.getD i 0+q.getD i 0+c) / 4294967296,out.set i ((p.getD i 0+q.getD i 0+c) % 4294967296)) (by dsimp only;omega) ?_ ⟨by omega,hc2,by simp[ho],hdig,hstep⟩;refine wk [0] (by simp) rfl ?_ ?_
     ·simp[leVs,leV,le1]
     ·simp[leH,leO]
    ·intro h3 h4;have h0:(0:Int)=((q.getD i 0:Nat):Int):=by
      have:q.getD i 0=0:=by rw[qa,List.getElem?_eq_none (by omega)];rfl
      rw[this];rfl
     simp -dsimp(disch:=omega) only[h4,rules];refine gp (den89 _ _ _ hdp hdq hc) (fin _ h0) ?_;simp -dsimp(disch:=omega) only[↓reduceIte,reduceLT,reduceLeDiff,ru];refine⟨by omega,by omega,?_⟩;refine ap (i+1,(p.getD i 0+q.getD i 0+c) / 4294967296,out.set i ((p.getD i 0+q.getD i 0+c) % 4294967296)) (by dsimp only;omega) ?_ ⟨by omega,hc2,by simp[ho],hdig,hstep⟩;refine wk [0] (by simp) rfl ?_ ?_
     ·simp[leVs,leV,le1]
     ·simp[leH,leO]
   ·intro h1 h2;simp -dsimp(disch:=omega) only[h2,↓reduceIte,Nat.reduceBEq,reduceLT,reduceLeDiff,ru];have hip:i=p.length:=by omega
    subst hip;refine⟨by omega,by omega,?_⟩;have hvf:val (out.set p.length c)=val a+val b:=by
     have h3:=val_set_take (l:=out) (i:=p.length) (by omega) c;rw[val_take_all (by simp;omega)] at h3;rw[val_take_all (qp _),val_take_all hlen] at hv2;rw[h3,<-hv,<-hv2,Nat.mul_comm]
    have hdf:Dig (out.set p.length c):=hd.set _ (by simp only[B];omega);refine gp (den87 (out.set p.length c) hdf (by simp;omega)) ?_ ?_
    ·simp[fzAs,fzA,fz1,fz0,u32s_length,ho];rw[qdq (by simp[u32s_length,ho])]
    ·simp -dsimp(disch:=omega) only[ru];refine rpq rfl ⟨tvq,tvq⟩ ?_;simp(disch:=omega) only[St.get,fzX,oneRes,fzV,fzC,fz1,fz0,Option.map_some,qk,getD_cons_zero];rw[hvf]
end Go.Proofs.YtjjbkjgifdhlcaaGreat
namespace Go.Pl
open Go.AM
theorem or_add {x y:Nat} (k:Nat) (hx:x % 2^k=0) (hy:y<2^k):x||| y=x+y:=by
 obtain⟨h,rfl⟩: ∃ h,x=2^k*h:=⟨x / 2^k,by have:=Nat.mod_add_div x (2^k);omega⟩;exact(Nat.two_pow_add_eq_or_of_lt hy h).symm
theorem toNat_ofInt64 {x:Int} (h:0<=x/\x<18446744073709551616):(BitVec.ofInt IntKind.u64.bits x).toNat=x.toNat:=by
 show(BitVec.ofInt 64 x).toNat=x.toNat;rw[BitVec.toNat_ofInt];have:((2^64:Nat):Int)=18446744073709551616:=by decide
 rw[this];omega
theorem toNat_ofInt32 {x:Int} (h:0<=x/\x<4294967296):(BitVec.ofInt IntKind.u32.bits x).toNat=x.toNat:=by
 show(BitVec.ofInt 32 x).toNat=x.toNat;rw[BitVec.toNat_ofInt];have:((2^32:Nat):Int)=4294967296:=by decide
 rw[this];omega
theorem wrapT64 (z:BitVec IntKind.u64.bits):IntKind.u64.wrap (z.toNat:Int)=(z.toNat:Int):=by
 have:z.toNat<2^64:=z.isLt;rw[wrapU64c (by omega)]
theorem wrapT32 (z:BitVec IntKind.u32.bits):IntKind.u32.wrap (z.toNat:Int)=(z.toNat:Int):=by
 have:z.toNat<2^32:=z.isLt;rw[wrap32c (by omega)]
theorem ofInt_toNat {w:Nat} (z:BitVec w):BitVec.ofInt w (z.toNat:Int)=z:=by
 rw[BitVec.ofInt_natCast,BitVec.ofNat_toNat,BitVec.setWidth_eq]
theorem or64s {x y:Int} (hx:0<=x/\x<18446744073709551616/\x % 4294967296=0) (hy:0<=y/\y<4294967296):
 IntKind.u64.wrap ((BitVec.ofInt IntKind.u64.bits x||| BitVec.ofInt IntKind.u64.bits y).toNat:Int)=x+y:=by
 rw[wrapT64,BitVec.toNat_or,toNat_ofInt64 (by omega),toNat_ofInt64 (by omega),or_add 32 (by omega) (by omega)]
 omega
theorem or64t {x y:Int} (hy:0<=y/\y<18446744073709551616/\y % 4294967296=0) (hx:0<=x/\x<4294967296):
 IntKind.u64.wrap ((BitVec.ofInt IntKind.u64.bits x||| BitVec.ofInt IntKind.u64.bits y).toNat:Int)=x+y:=by
 rw[wrapT64,BitVec.toNat_or,toNat_ofInt64 (by omega),toNat_ofInt64 (by omega),Nat.or_comm,or_add 32 (by omega) (by omega)]
 omega
theorem and64 {x:Int} (hx:0<=x/\x<18446744073709551616):
 IntKind.u64.wrap ((BitVec.ofInt IntKind.u64.bits x&&& BitVec.ofInt IntKind.u64.bits 4294967295).toNat:Int)=x % 4294967296:=by
 rw[wrapT64,BitVec.toNat_and,toNat_ofInt64 (by omega),toNat_ofInt64 (by omega)]
 have:(4294967295:Int).toNat=2^32 - 1:=by decide
 rw[this,Nat.and_two_pow_sub_one_eq_mod]
 omega
theorem msb32 (z:BitVec 32):z.toNat / 2147483648=if z.msb then 1 else 0:=by
 have h1:z.toNat<2^32:=z.isLt;rw[BitVec.msb_eq_decide];by_cases h:2^(32 - 1)<=z.toNat
 ·simp only[h,decide_true,if_true];omega
 ·simp only[h,decide_false];simp;omega
theorem mul_step {v v0 P c x y o lo ca Q Bi Bk:Nat} (hP:P=Bi*Bk) (hv:v+c*P=v0+x*Q*Bi) (hs:lo+ca*4294967296=x*y+o+c):
 v+P*lo+ca*(P*4294967296)=v0+P*o+x*(Q+Bk*y)*Bi:=by
 subst hP
 grind
theorem mul_digit {m o c:Nat} (hm:m<=18446744065119617025) (ho:o<4294967296) (hc:c<4294967296):
 ((m % 4294967296+o+0) % 4294967296+c+0) % 4294967296+(m / 4294967296+(m % 4294967296+o+0) / 4294967296+((m % 4294967296+o+0) % 4294967296+c+0) / 4294967296)*4294967296=m+o+c/\
 m / 4294967296+(m % 4294967296+o+0) / 4294967296+((m % 4294967296+o+0) % 4294967296+c+0) / 4294967296<4294967296:=by
 omega
theorem val_drop_succ {l:List Nat} {j:Nat} (h:j<l.length):val (l.drop j)=l.getD j 0+B*val (l.drop (j+1)):=by
 rw[drop_eq_getElem_cons h];simp[val,h]
theorem val_drop_set {l:List Nat} {j x:Nat} (h:j<l.length):val ((l.set j x).drop j)=x+B*val (l.drop (j+1)):=by
 rw[val_drop_succ (by simpa using h)];have h1:(l.set j x).getD j 0=x:=by simp[h]
 rw[h1,List.drop_set_of_lt (by omega)]
theorem or32 {x y:Nat} (k:Nat) (hx:x<2^k) (hy:y % 2^k=0) (hx2:x<4294967296) (hy2:y<4294967296):
 IntKind.u32.wrap ((BitVec.ofInt IntKind.u32.bits (x:Int)||| BitVec.ofInt IntKind.u32.bits (y:Int)).toNat:Int)=((x+y:Nat):Int):=by
 rw[wrapT32,BitVec.toNat_or,toNat_ofInt32 (by omega),toNat_ofInt32 (by omega),Int.toNat_natCast,Int.toNat_natCast,Nat.or_comm,or_add k hy hx,Nat.add_comm]
theorem mul_pow_mod {d k:Nat} (hk:k<=32):(d*2^k) % 4294967296 % 2^k=0:=by
 have h:4294967296=2^k*2^(32 - k):=by
  rw[<-Nat.pow_add,show k+(32 - k)=32 by omega]
 rw[h,Nat.mod_mul_right_mod,Nat.mul_mod_left]
theorem top_room {a k:Nat} (hk:k<=32) (h:a % 2^k=0) (ha:a<4294967296):a+2^k<=4294967296:=by
 have hb:4294967296=2^k*2^(32 - k):=by
  rw[<-Nat.pow_add,show k+(32 - k)=32 by omega]
 obtain⟨t,rfl⟩: ∃ t,a=2^k*t:=⟨a / 2^k,by have:=Nat.mod_add_div a (2^k);omega⟩;have h1:2^k*t<2^k*2^(32 - k):=by rw[<-hb];exact ha
 have h2:t<2^(32 - k):=Nat.lt_of_mul_lt_mul_left h1;have h3:2^k*(t+1)<=2^k*2^(32 - k):=Nat.mul_le_mul_left _ h2;rw[Nat.mul_add,Nat.mul_one,<-hb] at h3;exact h3
def digs:Nat->Nat->List Nat
 | 0,_=>[]
 | n+1,x=>x % B::digs n (x / B)
theorem digs_length (n x:Nat):(digs n x).length=n:=by
 induction n generalizing x with
 | zero=>rfl
 | succ n ih=>simp[digs,ih]
theorem digs_dig (n x:Nat):Dig (digs n x):=by
 induction n generalizing x with
 | zero=>exact Dig.nil
 | succ n ih=>exact Dig.mk (Nat.mod_lt _ (by decide)) (ih _)
theorem digs_eq {l:List Nat} (h:Dig l):l=digs l.length (val l):=by
 induction l with
 | nil=>rfl
 | cons d l ih=>
  obtain⟨h1,h2⟩:=h.cons;simp only[length_cons,digs,val];rw[Nat.add_mul_mod_self_left,Nat.mod_eq_of_lt h1,Nat.add_mul_div_left _ _ (by decide),Nat.div_eq_of_lt h1,Nat.zero_add,<-ih h2]
theorem val_digs {n x:Nat} (h:x<B^n):val (digs n x)=x:=by
 induction n generalizing x with
 | zero=>simp at h;subst h;rfl
 | succ n ih=>
  have h1:x / B<B^n:=by
   rw[Nat.div_lt_iff_lt_mul (by decide)];rw[Nat.pow_succ] at h;exact h
  simp only[digs,val];rw[ih h1];exact Nat.mod_add_div x B
theorem borrow32 (a b c:Nat) (ha:a<4294967296) (hb:b<4294967296) (hc:c<=1):
 ((~~~(BitVec.ofNat 32 a)&&& BitVec.ofNat 32 b||| ~~~(BitVec.ofNat 32 a^^^BitVec.ofNat 32 b)&&& BitVec.ofNat 32 (4294967296+a - b - c)):BitVec 32).toNat / 2147483648=if a<b+c then 1 else 0:=by
 rw[msb32]
 simp only[BitVec.msb_or,BitVec.msb_and,BitVec.msb_not,BitVec.msb_xor]
 simp only[BitVec.msb_eq_decide,BitVec.toNat_ofNat]
 have e1:a % 2^32=a:=Nat.mod_eq_of_lt (by omega)
 have e2:b % 2^32=b:=Nat.mod_eq_of_lt (by omega)
 rw[e1,e2]
 generalize hd:(4294967296+a - b - c) % 2^32=d
 by_cases h1:2^(32 - 1)<=a<;>by_cases h2:2^(32 - 1)<=b<;>by_cases h3:2^(32 - 1)<=d<;>by_cases h4:a<b+c<;>simp[h1,h2,h3,h4]<;>omega
theorem umax32:(if IntKind.u32.signed=true then(-1:Int) else IntKind.u32.max)=4294967295:=by decide
theorem xorT (x:BitVec IntKind.u32.bits):BitVec.ofInt IntKind.u32.bits 4294967295^^^x= ~~~x:=by
 have:(BitVec.ofInt IntKind.u32.bits 4294967295)=BitVec.allOnes IntKind.u32.bits:=by decide
 rw[this,BitVec.allOnes_xor]
theorem ofIntN (n:Nat):BitVec.ofInt IntKind.u32.bits (n:Int)=BitVec.ofNat IntKind.u32.bits n:=BitVec.ofInt_natCast _ _
end Go.Pl
namespace Go.Proofs.YtjjbkjgifdhlcaaGreat
open Go.AM Go.Pl
set_option maxRecDepth 100000
set_option maxHeartbeats 1000000
theorem N_val (n:Nat):N n= .sl (u32s (limbs n)):=rfl
theorem den84 (l:List Nat) (hd:Dig l) (hl:l.length<1000000000000):Den Tryz.prog 181 [] [.fv (.sl (u32s l))] [] (.fv (N (val l))):=by
 refine den_of tabOk mixed Tryz.func181 (cd:=_) rfl (by decide) rfl (n:=5) rfl rfl (m:=0) rfl ?_;simp -dsimp(disch:=omega) only[replicate,rules];refine gp (den87 l hd hl) rfl ?_;simp -dsimp(disch:=omega) only[rules];have hlv:(limbs (val l)).length<=l.length:=limbs_length_le (val_lt hd);refine gp (den97 (u32s (limbs (val l))) (by simp[u32s]) (by simp[u32s];omega)) rfl ?_;simp -dsimp(disch:=omega) only[ru];refine rpq rfl ⟨tvq,tvq⟩ ?_;simp(disch:=omega) only[N,St.get,fzX,oneRes,fzV,fzC,fz1,fz0,Option.map_some,qk,getD_cons_zero]
theorem den91 (a b:List Nat) (ha:Dig a) (hb:Dig b) (hla:a.length<100000000000) (hlb:b.length<100000000000):Den Tryz.prog 176 [] [.fv (.sl (u32s a)),.fv (.sl (u32s b))] [] (.int .i64 (cmpN (val a) (val b))):=by
 have hxa:(limbs (val a)).length<=a.length:=limbs_length_le (val_lt ha);have hxb:(limbs (val b)).length<=b.length:=limbs_length_le (val_lt hb);have hda:=limbs_dig (val a);have hdb:=limbs_dig (val b);refine den_of tabOk mixed Tryz.func176 (cd:=_) rfl (by decide) rfl (n:=45) rfl rfl (m:=0) rfl ?_;simp -dsimp(disch:=omega) only[replicate,rules];refine gp (den87 a ha (by omega)) rfl ?_;simp -dsimp(disch:=omega) only[rules];refine gp (den87 b hb (by omega)) rfl ?_;simp -dsimp(disch:=omega) only[N_val,↓reduceIte,ru];refine Br.bneInt ?_ ?_
 ·intro h1 h2;simp -dsimp(disch:=omega) only[h2,↓reduceIte,ru];refine bd_ ?_ ?_
  ·intro h3 h4;simp -dsimp(disch:=omega) only[h4,ru];refine rpq rfl ⟨tvq,tvq⟩ ?_;simp(disch:=omega) only[St.get,fzX,oneRes,fzV,fzC,fz1,fz0,Option.map_some,qk,getD_cons_zero];rw[cmpN_lt (limbs_len_lt (by omega))]
  ·intro h3 h4;simp -dsimp(disch:=omega) only[h4,ru];refine rpq rfl ⟨tvq,tvq⟩ ?_;simp(disch:=omega) only[St.get,fzX,oneRes,fzV,fzC,fz1,fz0,Option.map_some,qk,getD_cons_zero];rw[cmpN_gt (limbs_len_lt (by omega))]
 ·intro h1 h2;simp -dsimp(disch:=omega) only[h2,↓reduceIte,ru];generalize hp:limbs (val a)=p at*;generalize hq:limbs (val b)=q at*;refine wl (α:=Nat) (fun k=>⟨.fv (.sl (u32s p)):: .fv (.sl (u32s q)):: .any:: .any:: .int .i64 0:: .int .i64 ((k:Int) - 1)::replicate 41 .any,[]⟩) (fun k=>k) (fun k=>k<=p.length/\p.drop k=q.drop k) p.length ?_ ?_ ?_
  ·refine wk [] (by simp) rfl ?_ ?_
   ·simp[leVs,leV,le1]
   ·trivial
  ·exact⟨qp _,by rw[List.drop_of_length_le (qp _),List.drop_of_length_le (by omega)]⟩
  ·rintro k ⟨hk,hkd⟩;simp -dsimp(disch:=omega) only[replicate,↓reduceIte,ru];refine bd_ ?_ ?_
   ·intro h3 h4;simp -dsimp(disch:=omega) only[h4,rules];refine dw (by kernel_rfl) ?_;simp -dsimp(disch:=omega) only[↓reduceIte,reduceLT,reduceLeDiff,ru];refine⟨by omega,by omega,?_⟩;obtain⟨j,rfl⟩: ∃ j,k=j+1:=⟨k - 1,by omega⟩;have hj:(((j+1:Nat):Int) - 1).toNat=j:=by omega
    rw[hj];have hpv:val p=val a:=by rw[<-hp,val_limbs]
    have hqv:val q=val b:=by rw[<-hq,val_limbs]
    refine bd_ ?_ ?_
    ·intro h5 h6;simp -dsimp(disch:=omega) only[h6,ru];refine rpq rfl ⟨tvq,tvq⟩ ?_;simp(disch:=omega) only[St.get,fzX,oneRes,fzV,fzC,fz1,fz0,Option.map_some,qk,getD_cons_zero];rw[<-hpv,<-hqv,cmpN_lt (digit_lt hda (by omega) (by omega) hkd (by omega))]
    ·intro h5 h6;simp -dsimp(disch:=omega) only[h6,rules];refine dw (by kernel_rfl) ?_;simp -dsimp(disch:=omega) only[hj,↓reduceIte,reduceLT,reduceLeDiff,ru];refine⟨by omega,by omega,?_⟩;refine bd_ ?_ ?_
     ·intro h7 h8;simp -dsimp(disch:=omega) only[h8,ru];refine rpq rfl ⟨tvq,tvq⟩ ?_;simp(disch:=omega) only[St.get,fzX,oneRes,fzV,fzC,fz1,fz0,Option.map_some,qk,getD_cons_zero];rw[<-hpv,<-hqv,cmpN_gt (digit_lt hdb (by omega) (by omega) hkd.symm (by omega))]
     ·intro h7 h8;simp -dsimp(disch:=omega) only[h8,↓reduceIte,ru];refine ap j (by omega) ?_ ⟨by omega,?_⟩
      ·refine wk [] (by simp) rfl ?_ ?_
       ·simp[leVs,leV,le1]
       ·trivial
      ·have hpj:p.drop j=p.getD j 0::p.drop (j+1):=by rw[drop_eq_getElem_cons (by omega)];simp[show j<p.length by omega]
       have hqj:q.drop j=q.getD j 0::q.drop (j+1):=by rw[drop_eq_getElem_cons (by omega)];simp[show j<q.length by omega]
       rw[hpj,hqj,hkd,show p.getD j 0=q.getD j 0 by omega]
   ·intro h3 h4;simp -dsimp(disch:=omega) only[h4,Nat.reduceBEq,ru];refine rpq rfl ⟨tvq,tvq⟩ ?_;simp(disch:=omega) only[St.get,fzX,oneRes,fzV,fzC,fz1,fz0,Option.map_some,qk,getD_cons_zero];have hk0:k=0:=by omega
    subst hk0;simp only[List.drop_zero] at hkd;subst hkd;have:val a=val b:=by rw[<-val_limbs (val a),hp,<-hq,val_limbs]
    rw[this,cmpN_eq]
theorem den103 (h l d:Nat) (hh:h<4294967296) (hl:l<4294967296) (hd:d<4294967296) (hlt:h<d):
 Den Tryz.prog 247 [] [.int .u32 h,.int .u32 l,.int .u32 d] [] (.tup [.int .u32 ((h*4294967296+l) / d:Nat),.int .u32 ((h*4294967296+l) % d:Nat)]):=by
 have hq:(h*4294967296+l) / d<4294967296:=by
  rw[Nat.div_lt_iff_lt_mul (by omega)];have:(h+1)*4294967296<=d*4294967296:=qn _ hlt;rw[Nat.mul_comm 4294967296 d];omega
 have hr:(h*4294967296+l) % d<d:=Nat.mod_lt _ (by omega)
 have e1:((h:Int)*4294967296+l) / d=(((h*4294967296+l) / d:Nat):Int):=by
  rw[Int.natCast_ediv,Int.natCast_add,Int.natCast_mul];rfl
 have e2:((h:Int)*4294967296+l) % d=(((h*4294967296+l) % d:Nat):Int):=by
  rw[Int.natCast_emod,Int.natCast_add,Int.natCast_mul];rfl
 generalize (h*4294967296+l) / d=Q at*
 generalize (h*4294967296+l) % d=R at*
 refine den_of tabOk mixed Tryz.func247 (cd:=_) rfl (by decide) rfl (n:=30) rfl rfl (m:=0) rfl ?_
 simp -dsimp(disch:=omega) only[replicate,↓reduceIte,ru]
 refine Br.bneInt ?_ ?_
 ·intro h1 h2
  simp -dsimp(disch:=omega) only[h2,↓reduceIte,ru]
  refine bd_ ?_ ?_
  ·intro h3 h4
   omega
  ·intro h3 h4
   simp -dsimp(disch:=omega) only[h4,or64s,IntKind.bits,Int.reduceToNat,Int.reducePow,↓reduceIte,reduceLeDiff,ru]
   refine⟨by omega,?_⟩
   refine dw (by kernel_rfl) ?_
   simp -dsimp(disch:=omega) only[e1,e2,↓reduceIte,ru]
   refine⟨by omega,by omega,?_⟩
   refine rpq rfl ⟨tvq,tvq,tvq⟩ ?_
   simp(disch:=omega) only[St.get,fzX,oneRes,fzV,fzVs,fzC,fz1,fz0,Option.map_some,qk,getD_cons_zero]
 ·intro h1 h2
  omega
theorem den102 (a b c:Nat) (ha:a<4294967296) (hb:b<4294967296) (hc:c<=1):Den Tryz.prog 213 [] [.int .u32 a,.int .u32 b,.int .u32 c] []
 (.tup [.int .u32 ((4294967296+a - b - c) % 4294967296:Nat),.int .u32 (if a<b+c then 1 else 0:Nat)]):=by
 have hw:IntKind.u32.wrap (IntKind.u32.wrap ((a:Int) - b) - c)=((4294967296+a - b - c) % 4294967296:Nat):=by
  rw[wrap32,wrap32];omega
 have key:=borrow32 a b c ha hb hc
 refine den_of tabOk mixed Tryz.func213 (cd:=_) rfl (by decide) rfl (n:=22) rfl rfl (m:=0) rfl ?_
 simp -dsimp(disch:=omega) only[replicate,hw,IntKind.bits,Int.reduceToNat,Int.reducePow,↓reduceIte,reduceLeDiff,ru]
 refine⟨by omega,?_⟩
 refine rpq rfl ⟨tvq,tvq,tvq⟩ ?_
 simp(disch:=omega) only[umax32,wrapT32,ofInt_toNat,xorT,ofIntN,St.get,fzX,oneRes,fzV,fzVs,fzC,fz1,fz0,Option.map_some,qk,getD_cons_zero]
 have hmod:BitVec.ofNat 32 ((4294967296+a - b - c) % 4294967296)=BitVec.ofNat 32 (4294967296+a - b - c):=by
  apply BitVec.eq_of_toNat_eq;simp
 rw[<-hmod] at key
 have k2:=congrArg (fun z:Nat=>(z:Int)) key
 simp only[Int.natCast_ediv] at k2
 exact congrArg (fun z:Int=>some (PV.tup [PV.int .u32 (((4294967296+a - b - c) % 4294967296:Nat):Int),PV.int .u32 z])) k2
theorem limbs_len_le {x y:Nat} (h:x<=y):(limbs x).length<=(limbs y).length:=
 limbs_length_le (qmb h lt_of_limbs_length)
theorem den92lt (a b:List Nat) (ha:Dig a) (hb:Dig b) (hla:a.length<100000000000) (hlb:b.length<100000000000) (hlt:val a<val b):
 Den Tryz.prog 177 [] [.fv (.sl (u32s a)),.fv (.sl (u32s b))] [] (.tup [.fv (.sl []),.int .i64 1]):=by
 refine den_of tabOk mixed Tryz.func177 (cd:=_) rfl (by decide) rfl (n:=48) rfl rfl (m:=0) rfl ?_
 simp -dsimp(disch:=omega) only[replicate,rules]
 refine gp (den91 a b ha hb hla hlb) rfl ?_
 simp -dsimp(disch:=omega) only[cmpN_lt hlt,↓reduceIte,ru]
 refine bd_ ?_ ?_
 ·intro h1 h2
  simp -dsimp(disch:=omega) only[h2,ru]
  refine rpq rfl ⟨tvq,tvq,tvq⟩ ?_
  simp(disch:=omega) only[St.get,fzX,oneRes,fzV,fzVs,fzC,fz1,fz0,Option.map_some,qk,getD_cons_zero]
 ·intro h1 h2
  omega
theorem den92 (a b:List Nat) (ha:Dig a) (hb:Dig b) (hla:a.length<100000000000) (hlb:b.length<100000000000) (hle:val b<=val a):
 Den Tryz.prog 177 [] [.fv (.sl (u32s a)),.fv (.sl (u32s b))] [] (.tup [.fv (N (val a - val b)),.int .i64 0]):=by
 have hxa:(limbs (val a)).length<=a.length:=limbs_length_le (val_lt ha)
 have hxb:(limbs (val b)).length<=(limbs (val a)).length:=limbs_len_le hle
 have hp:=limbs_dig (val a)
 have hq:=limbs_dig (val b)
 have hpv:=val_limbs (val a)
 have hqv:=val_limbs (val b)
 have hcmp:decide (cmpN (val a) (val b)<0)=false:=by
  unfold cmpN;rw[if_neg (by omega)];split<;>simp
 refine den_of tabOk mixed Tryz.func177 (cd:=_) rfl (by decide) rfl (n:=48) rfl rfl (m:=0) rfl ?_
 simp -dsimp(disch:=omega) only[replicate,rules]
 refine gp (den91 a b ha hb hla hlb) rfl ?_
 simp -dsimp(disch:=omega) only[hcmp,↓reduceIte,ru]
 refine gp (den87 a ha (by omega)) rfl ?_
 simp -dsimp(disch:=omega) only[rules]
 refine gp (den87 b hb (by omega)) rfl ?_
 simp -dsimp(disch:=omega) only[N_val,↓reduceIte,reduceLT,ru]
 generalize limbs (val a)=p at*
 generalize limbs (val b)=q at*
 refine⟨by omega,?_⟩
 refine wl (α:=Nat×Nat×List Nat) (fun⟨i,c,out⟩=>⟨.fv (.sl (u32s p)):: .fv (.sl (u32s q)):: .any:: .any:: .nilsl:: .any:: .lsl 0 0 p.length 1:: .int .u32 c::(replicate 14 .any++ .fv (.sl (u32s p)):: .int .i64 p.length:: .int .i64 i::replicate 25 .any),[.row true (u32s out)]⟩)
  (fun⟨i,_,_⟩=>p.length - i)
  (fun⟨i,c,out⟩=>i<=p.length/\c<=1/\out.length=p.length/\Dig out/\val (out.take i)+val (q.take i)=val (p.take i)+c*B^i) (0,0,replicate p.length 0) ?_ ?_ ?_
 ·refine wk [0] (by simp) rfl ?_ ?_
  ·simp[leVs,leV,le1]
  ·simp[leH,leO]
 ·exact⟨by omega,by omega,by simp,Dig.zeros,by simp[val]⟩
 ·rintro⟨i,c,out⟩ ⟨hi,hc,ho,hd,hv2⟩
  simp -dsimp(disch:=omega) only[replicate,↓reduceIte,ru]
  refine bd_ ?_ ?_
  ·intro h1 h2
   simp -dsimp(disch:=omega) only[h2,↓reduceIte,reduceLT,reduceLeDiff,ru]
   refine⟨by omega,?_⟩
   have hdp:=hp.getD i
   have hdq:=hq.getD i
   simp only[B] at hdp hdq
   have hst:=val_set_take (l:=out) (i:=i) (by omega) ((4294967296+p.getD i 0 - q.getD i 0 - c) % 4294967296)
   have htp:=val_take_succ p i
   have htq:=val_take_succ q i
   have hdig:Dig (out.set i ((4294967296+p.getD i 0 - q.getD i 0 - c) % 4294967296)):=hd.set i (Nat.mod_lt _ (by decide))
   have hc2:(if p.getD i 0<q.getD i 0+c then 1 else 0:Nat)<=1:=by split<;>omega
   have hdd:(4294967296+p.getD i 0 - q.getD i 0 - c) % 4294967296+q.getD i 0+c=p.getD i 0+(if p.getD i 0<q.getD i 0+c then 1 else 0:Nat)*4294967296:=by
    split<;>omega
   generalize hc2d:(if p.getD i 0<q.getD i 0+c then 1 else 0:Nat)=c2 at*
   generalize hdg:(4294967296+p.getD i 0 - q.getD i 0 - c) % 4294967296=dg at*
   have hstep:val ((out.set i dg).take (i+1))+val (q.take (i+1))=val (p.take (i+1))+c2*B^(i+1):=by
    rw[Nat.pow_succ,hst,htp,htq];have h3:=congrArg (fun z=>B^i*z) hdd;simp only[Nat.mul_add] at h3;rw[Nat.mul_comm c] at hv2;rw[<-Nat.mul_assoc (B^i) c2,Nat.mul_comm (B^i) c2,Nat.mul_assoc c2] at h3;have h4:B^i*B=B^i*4294967296:=rfl;rw[h4];omega
   have fin: ∀ x:Int,x=((q.getD i 0:Nat):Int)->fzAs [Ob.row true (u32s out)] ([]++[PV.fv (FV.lit (Value.int IntKind.u32 ((p.getD i 0:Nat):Int))),PV.int IntKind.u32 x,PV.int IntKind.u32 (c:Int)]++[])=some [.int .u32 ((p.getD i 0:Nat):Int),.int .u32 ((q.getD i 0:Nat):Int),.int .u32 (c:Int)]:=by
    intro x hx;subst hx;rfl
   have hden:=den102 _ _ _ hdp hdq hc
   rw[hdg] at hden
   have hden2:Den Tryz.prog 213 [] [.int .u32 ((p.getD i 0:Nat):Int),.int .u32 ((q.getD i 0:Nat):Int),.int .u32 (c:Int)] [] (.tup [.int .u32 (dg:Int),.int .u32 (c2:Int)]):=by
    rw[hc2d] at hden;exact hden
   refine bd_ ?_ ?_
   ·intro h3 h4
    simp -dsimp(disch:=omega) only[h4,↓reduceIte,reduceLT,reduceLeDiff,ru]
    refine⟨by omega,?_⟩
    refine gp hden2 (fin _ rfl) ?_
    simp -dsimp(disch:=omega) only[↓reduceIte,reduceLT,reduceLeDiff,ru]
    refine⟨by omega,by omega,?_⟩
    refine ap (i+1,c2,out.set i dg) (by dsimp only;omega) ?_ ⟨by omega,hc2,by simp[ho],hdig,hstep⟩
    refine wk [0] (by simp) rfl ?_ ?_
    ·simp[leVs,leV,le1]
    ·simp[leH,leO]
   ·intro h3 h4
    have h0:(0:Int)=((q.getD i 0:Nat):Int):=by
     have:q.getD i 0=0:=by rw[qa,List.getElem?_eq_none (by omega)];rfl
     rw[this];rfl
    simp -dsimp(disch:=omega) only[h4,rules]
    refine gp hden2 (fin _ h0) ?_
    simp -dsimp(disch:=omega) only[↓reduceIte,reduceLT,reduceLeDiff,ru]
    refine⟨by omega,by omega,?_⟩
    refine ap (i+1,c2,out.set i dg) (by dsimp only;omega) ?_ ⟨by omega,hc2,by simp[ho],hdig,hstep⟩
    refine wk [0] (by simp) rfl ?_ ?_
    ·simp[leVs,leV,le1]
    ·simp[leH,leO]
  ·intro h1 h2
   simp -dsimp(disch:=omega) only[h2,rules,Nat.reduceBEq]
   have hip:i=p.length:=by omega
   have hvf:val out=val a - val b:=by
    rw[hip,val_take_all (by omega),val_take_all hxb,val_take_all (qp _),hpv,hqv] at hv2;have h5:=val_lt hd;rw[ho] at h5;have h6:c=0:=by
     rcases Nat.eq_zero_or_pos c with h | h
     ·exact h
     ·exfalso;have:c=1:=by omega
      subst this;omega
    subst h6;omega
   refine gp (den87 out hd (by omega)) ?_ ?_
   ·simp[fzAs,fzA,fz1,fz0,u32s_length,ho]
    rw[qdq (by simp[u32s_length,ho])]
   ·simp -dsimp(disch:=omega) only[ru]
    refine rpq rfl ⟨tvq,tvq,tvq⟩ ?_
    simp(disch:=omega) only[St.get,fzX,oneRes,fzV,fzVs,fzC,fz1,fz0,Option.map_some,qk,getD_cons_zero]
    rw[hvf]
theorem den99 (u:Nat) (hu:u<18446744073709551616):Den Tryz.prog 216 [] [.int .u64 u] [] (.fv (N u)):=by
 have hv:val [u % 4294967296,u / 4294967296]=u:=by
  simp only[val,B];omega
 have hd:Dig [u % 4294967296,u / 4294967296]:=by
  intro d hd;simp at hd;rcases hd with rfl | rfl<;>(simp only[B];omega)
 refine den_of tabOk mixed Tryz.func216 (cd:=_) rfl (by decide) rfl (n:=9) rfl rfl (m:=0) rfl ?_;simp -dsimp(disch:=omega) only[replicate,IntKind.bits,Int.reduceToNat,Int.reducePow,↓reduceIte,Nat.reduceAdd,Nat.reduceMul,reduceLT,reduceLeDiff,ru];refine⟨by omega,?_⟩;have:=den87 [u % 4294967296,u / 4294967296] hd (by simp);rw[hv] at this;refine gp this ?_ ?_
 ·simp[fzAs,fzA,fz1,fz0,u32s,wrap32]
 ·simp -dsimp(disch:=omega) only[ru];refine rpq rfl ⟨tvq,tvq⟩ ?_;simp(disch:=omega) only[St.get,fzX,oneRes,fzV,fzC,fz1,fz0,Option.map_some,qk,getD_cons_zero]
theorem den69 (a b:List Nat) (ha:Dig a) (hb:Dig b) (hla:a.length<10000000000) (hlb:b.length<10000000000):
 Den Tryz.prog 130 [] [.fv (.sl (u32s a)),.fv (.sl (u32s b))] [] (.fv (N (val a*val b))):=by
 have hxa:(limbs (val a)).length<=a.length:=limbs_length_le (val_lt ha)
 have hxb:(limbs (val b)).length<=b.length:=limbs_length_le (val_lt hb)
 have hp:=limbs_dig (val a)
 have hq:=limbs_dig (val b)
 have hpv:=val_limbs (val a)
 have hqv:=val_limbs (val b)
 refine den_of tabOk mixed Tryz.func130 (cd:=_) rfl (by decide) rfl (n:=82) rfl rfl (m:=0) rfl ?_
 simp -dsimp(disch:=omega) only[replicate,rules]
 refine gp (den87 a ha (by omega)) rfl ?_
 simp -dsimp(disch:=omega) only[rules]
 refine gp (den87 b hb (by omega)) rfl ?_
 simp -dsimp(disch:=omega) only[N_val,↓reduceIte,reduceLT,ru]
 generalize limbs (val a)=p at*
 generalize limbs (val b)=q at*
 refine⟨by omega,?_⟩
 have hn:((p.length:Int)+(q.length:Int)).toNat=p.length+q.length:=by omega
 refine wl (α:=Nat×List Nat) (fun⟨i,out⟩=>⟨.fv (.sl (u32s p)):: .fv (.sl (u32s q)):: .any:: .any:: .nilsl:: .lsl 0 0 (p.length+q.length) 1::(replicate 18 .any++ .fv (.sl (u32s p)):: .int .i64 p.length:: .int .i64 i::replicate 57 .any),[.row true (u32s out)]⟩)
  (fun⟨i,_⟩=>p.length - i)
  (fun⟨i,out⟩=>i<=p.length/\out.length=p.length+q.length/\Dig out/\val (out.take (i+q.length))=val (p.take i)*val q) (0,replicate (p.length+q.length) 0) ?_ ?_ ?_
 ·refine wk [0] (by simp) rfl ?_ ?_
  ·simp[leVs,leV,le1,hn]
  ·simp[leH,leO,hn]
 ·exact⟨by omega,by simp,Dig.zeros,by simp[val,val_zeros]⟩
 ·rintro⟨i,out0⟩ ⟨hi,ho0,hd0,hv0⟩
  simp -dsimp(disch:=omega) only[replicate,↓reduceIte,ru]
  refine bd_ ?_ ?_
  ·intro h1 h2
   simp -dsimp(disch:=omega) only[h2,↓reduceIte,reduceLT,reduceLeDiff,ru]
   refine⟨by omega,?_⟩
   have hx:=hp.getD i
   simp only[B] at hx
   generalize hxd:p.getD i 0=x at*
   refine wl (α:=Nat×Nat×List Nat) (fun⟨k,c,out⟩=>⟨.fv (.sl (u32s p)):: .fv (.sl (u32s q)):: .any:: .any:: .nilsl:: .lsl 0 0 (p.length+q.length) 1:: .int .i64 i:: .int .u32 x:: .int .u32 c::(replicate 15 .any++ .fv (.sl (u32s p)):: .int .i64 p.length:: .int .i64 i::
    .any:: .any:: .any:: .any:: .fv (.sl (u32s q)):: .int .i64 q.length:: .int .i64 k::replicate 50 .any),[.row true (u32s out)]⟩)
    (fun⟨k,_,_⟩=>q.length - k)
    (fun⟨k,c,out⟩=>k<=q.length/\c<4294967296/\out.length=p.length+q.length/\Dig out/\(∀ j,i+k<=j->out.getD j 0=out0.getD j 0)/\val (out.take (i+k))+c*B^(i+k)=val (out0.take (i+k))+x*val (q.take k)*B^i) (0,0,out0) ?_ ?_ ?_
   ·refine wk [0] (by simp) rfl ?_ ?_
    ·simp[leVs,leV,le1]
    ·simp[leH,leO]
   ·exact⟨by omega,by omega,ho0,hd0,fun _ _=>rfl,by simp[val]⟩
   ·rintro⟨k,c,out⟩ ⟨hk,hc,ho,hd,hrest,hv⟩
    simp -dsimp(disch:=omega) only[replicate,↓reduceIte,ru]
    refine bd_ ?_ ?_
    ·intro h3 h4
     simp -dsimp(disch:=omega) only[h4,↓reduceIte,reduceLT,reduceLeDiff,ru]
     refine⟨by omega,?_⟩
     have hy:=hq.getD k
     simp only[B] at hy
     generalize hyd:q.getD k 0=y at*
     refine gp (den88 x y hx hy) rfl ?_
     simp -dsimp(disch:=omega) only[↓reduceIte,reduceLeDiff,ru]
     have hik:((i:Int)+(k:Int)).toNat=i+k:=by omega
     rw[hik]
     refine⟨by omega,by omega,?_⟩
     have hoo:=hd.getD (i+k)
     simp only[B] at hoo
     have hov:out.getD (i+k) 0=out0.getD (i+k) 0:=hrest _ (qp _)
     have hxy:x*y<=18446744065119617025:=qnb (Nat.mul_le_mul (show x<=4294967295 by omega) (show y<=4294967295 by omega)) (by decide)
     have hmd:=mul_digit hxy hoo hc
     have h89a:=den89 (x*y % 4294967296) (out.getD (i+k) 0) 0 (Nat.mod_lt _ (by decide)) hoo (by omega)
     have h89b:=den89 ((x*y % 4294967296+out.getD (i+k) 0+0) % 4294967296) c 0 (Nat.mod_lt _ (by decide)) hc (by omega)
     generalize hlo1:(x*y % 4294967296+out.getD (i+k) 0+0) % 4294967296=lo1 at*
     generalize hc1:(x*y % 4294967296+out.getD (i+k) 0+0) / 4294967296=c1 at*
     generalize hlo2:(lo1+c+0) % 4294967296=lo2 at*
     generalize hc2:(lo1+c+0) / 4294967296=c2 at*
     generalize hmhi:x*y / 4294967296=hi1 at*
     refine gp h89a rfl ?_
     simp -dsimp(disch:=omega) only[↓reduceIte,ru]
     refine gp h89b rfl ?_
     simp -dsimp(disch:=omega) only[hik,↓reduceIte,reduceLT,reduceLeDiff,ru]
     refine⟨by omega,by omega,?_⟩
     have hst:=val_set_take (l:=out) (i:=i+k) (by omega) lo2
     have hqk:=val_take_succ q k
     have h0k:=val_take_succ out0 (i+k)
     rw[hyd] at hqk
     have hstep:val ((out.set (i+k) lo2).take (i+(k+1)))+(hi1+c1+c2)*B^(i+(k+1))=val (out0.take (i+(k+1)))+x*val (q.take (k+1))*B^i:=by
      rw[<-Nat.add_assoc i k 1,hst,h0k,hqk,Nat.pow_succ];exact mul_step (Nat.pow_add B i k) hv (by rw[<-hov];exact hmd.1)
     refine ap (k+1,hi1+c1+c2,out.set (i+k) lo2) (by dsimp only;omega) ?_ ⟨by omega,hmd.2,by simp[ho],hd.set _ (by simp only[B];omega),fun j hj=>?_,hstep⟩
     ·refine wk [0] (by simp) rfl ?_ ?_
      ·simp[leVs,leV,le1]
      ·simp[leH,leO]
     ·rw[<-hrest j (by omega)]
      simp only[qa]
      rw[qm (by omega)]
    ·intro h3 h4
     simp -dsimp(disch:=omega) only[h4,↓reduceIte,Nat.reduceBEq,reduceLT,reduceLeDiff,ru]
     have hkq:k=q.length:=by omega
     have hiq:((i:Int)+(q.length:Int)).toNat=i+q.length:=by omega
     rw[hiq]
     refine⟨by omega,by omega,?_⟩
     have hst:=val_set_take (l:=out) (i:=i+q.length) (by omega) c
     have hpi:=val_take_succ p i
     rw[hxd] at hpi
     have hstep:val ((out.set (i+q.length) c).take (i+1+q.length))=val (p.take (i+1))*val q:=by
      rw[show i+1+q.length=i+q.length+1 by omega,hst,hpi];rw[hkq,val_take_all (qp _),hv0] at hv;grind
     refine ap (i+1,out.set (i+q.length) c) (by dsimp only;omega) ?_ ⟨by omega,by simp[ho],hd.set _ (by simp only[B];omega),hstep⟩
     refine wk [0] (by simp) rfl ?_ ?_
     ·simp[leVs,leV,le1]
     ·simp[leH,leO]
  ·intro h1 h2
   simp -dsimp(disch:=omega) only[h2,rules,Nat.reduceBEq]
   have hip:i=p.length:=by omega
   refine gp (den87 out0 hd0 (by omega)) ?_ ?_
   ·simp[fzAs,fzA,fz1,fz0,u32s_length,ho0]
    rw[qdq (by simp[u32s_length,ho0])]
   ·simp -dsimp(disch:=omega) only[ru]
    refine rpq rfl ⟨tvq,tvq⟩ ?_
    rw[hip,val_take_all (by omega),val_take_all (qp _),hpv,hqv] at hv0
    simp(disch:=omega) only[hv0,St.get,fzX,oneRes,fzV,fzC,fz1,fz0,Option.map_some,qk,getD_cons_zero]
theorem den100 (l:List Nat) (d:Nat) (hl:Dig l) (hll:l.length<100000000000) (hd:d<4294967296) (hd0:0<d):
 Den Tryz.prog 217 [] [.fv (.sl (u32s l)),.int .u32 d] [] (.tup [.fv (N (val l / d)),.int .u32 ((val l % d:Nat):Int)]):=by
 refine den_of tabOk mixed Tryz.func217 (cd:=_) rfl (by decide) rfl (n:=33) rfl rfl (m:=0) rfl ?_
 simp -dsimp(disch:=omega) only[replicate,↓reduceIte,reduceLT,ru]
 refine⟨by omega,?_⟩
 refine wl (α:=Nat×Nat×List Nat) (fun⟨k,r,out⟩=>⟨.fv (.sl (u32s l)):: .int .u32 d:: .any:: .any:: .nilsl:: .fv (.lit (.int .u32 0)):: .lsl 0 0 l.length 1:: .int .u32 r:: .int .i64 ((k:Int) - 1)::replicate 26 .any,[.row true (u32s out)]⟩)
  (fun⟨k,_,_⟩=>k) (fun⟨k,r,out⟩=>k<=l.length/\r<d/\out.length=l.length/\Dig out/\val (out.drop k)*d+r=val (l.drop k)) (l.length,0,replicate l.length 0) ?_ ?_ ?_
 ·refine wk [0] (by simp) rfl ?_ ?_
  ·simp[leVs,leV,le1]
  ·simp[leH,leO]
 ·exact⟨by omega,hd0,by simp,Dig.zeros,by simp[val]⟩
 ·rintro⟨k,r,out⟩ ⟨hk,hr,ho,hdo,hv⟩
  simp -dsimp(disch:=omega) only[replicate,↓reduceIte,ru]
  refine bd_ ?_ ?_
  ·intro h1 h2
   simp -dsimp(disch:=omega) only[h2,↓reduceIte,reduceLT,reduceLeDiff,ru]
   obtain⟨j,rfl⟩: ∃ j,k=j+1:=⟨k - 1,by omega⟩
   have hj:(((j+1:Nat):Int) - 1).toNat=j:=by omega
   rw[hj]
   have hx:=hl.getD j
   simp only[B] at hx
   have hld:=val_drop_succ (l:=l) (j:=j) (by omega)
   generalize hxd:l.getD j 0=x at*
   have h103:=den103 r x d (by omega) hx hd hr
   have hq:(r*4294967296+x) / d<4294967296:=by
    rw[Nat.div_lt_iff_lt_mul (by omega)];have:(r+1)*4294967296<=d*4294967296:=qn _ hr;rw[Nat.mul_comm 4294967296 d];omega
   have hr2:(r*4294967296+x) % d<d:=Nat.mod_lt _ (by omega)
   have hqr:=Nat.mod_add_div (r*4294967296+x) d
   generalize (r*4294967296+x) / d=Q at*
   generalize (r*4294967296+x) % d=R at*
   refine⟨by omega,?_⟩
   refine gp h103 rfl ?_
   simp -dsimp(disch:=omega) only[hj,↓reduceIte,reduceLT,reduceLeDiff,ru]
   refine⟨by omega,by omega,?_⟩
   have hds:=val_drop_set (l:=out) (j:=j) (x:=Q) (by omega)
   refine ap (j,R,out.set j Q) (by dsimp only;omega) ?_ ⟨by omega,hr2,by simp[ho],hdo.set _ hq,?_⟩
   ·refine wk [0] (by simp) rfl ?_ ?_
    ·simp[leVs,leV,le1]
    ·simp[leH,leO]
   ·rw[hds,hld,<-hv]
    simp only[B]
    grind
  ·intro h1 h2
   simp -dsimp(disch:=omega) only[h2,rules,Nat.reduceBEq]
   have hk0:k=0:=by omega
   subst hk0
   simp only[List.drop_zero] at hv
   have hdm:val out=val l / d/\r=val l % d:=by
    rw[<-hv,Nat.mul_comm,Nat.mul_add_div hd0,Nat.mul_add_mod,Nat.div_eq_of_lt hr,Nat.mod_eq_of_lt hr];exact⟨rfl,rfl⟩
   refine gp (den87 out hdo (by omega)) ?_ ?_
   ·simp[fzAs,fzA,fz1,fz0,u32s_length,ho]
    rw[qdq (by simp[u32s_length,ho])]
   ·simp -dsimp(disch:=omega) only[ru]
    refine rpq rfl ⟨tvq,tvq,tvq⟩ ?_
    rw[<-hdm.1,<-hdm.2]
    simp(disch:=omega) only[St.get,fzX,oneRes,fzV,fzVs,fzC,fz1,fz0,Option.map_some,qk,getD_cons_zero]
theorem den105 (l:List Nat) (k:Nat) (hl:Dig l) (hll:l.length<100000000000) (hk:k<32):
 Den Tryz.prog 249 [] [.fv (.sl (u32s l)),.int .u64 k] [.row true (u32s (digs (l.length+1) (val l*2^k)))] (.lsl 0 0 (l.length+1) 1):=by
 have hp2:2^k<=2147483648:=Nat.pow_le_pow_right (by decide) (show k<=31 by omega)
 have hp0:0<2^k:=Nat.two_pow_pos k
 have hk64:(k<=64)=True:=by simp;omega
 refine den_of tabOk mixed Tryz.func249 (cd:=_) rfl (by decide) rfl (n:=39) rfl rfl (m:=0) rfl ?_
 simp -dsimp(disch:=omega) only[replicate,↓reduceIte,reduceLT,ru]
 refine⟨by omega,?_⟩
 have hn:((l.length:Int)+1).toNat=l.length+1:=by omega
 refine wl (α:=Nat×List Nat) (fun⟨i,out⟩=>⟨.fv (.sl (u32s l)):: .int .u64 k:: .any:: .any:: .nilsl:: .lsl 0 0 (l.length+1) 1::(replicate 7 .any++ .fv (.sl (u32s l)):: .int .i64 l.length:: .int .i64 i::replicate 25 .any),[.row true (u32s out)]⟩)
  (fun⟨i,_⟩=>l.length - i) (fun⟨i,out⟩=>i<=l.length/\out.length=l.length+1/\Dig out/\val (out.take (i+1))=val (l.take i)*2^k/\out.getD i 0<2^k) (0,replicate (l.length+1) 0) ?_ ?_ ?_
 ·refine wk [0] (by simp) rfl ?_ ?_
  ·simp[leVs,leV,le1,hn]
  ·simp[leH,leO,hn]
 ·refine⟨by omega,by simp,Dig.zeros,?_,?_⟩
  ·simp[val,List.replicate_succ]
  ·simp[List.replicate_succ];omega
 ·rintro⟨i,out⟩ ⟨hi,ho,hdo,hv,hlow⟩
  simp -dsimp(disch:=omega) only[replicate,↓reduceIte,ru]
  refine bd_ ?_ ?_
  ·intro h1 h2
   have hx:=hl.getD i
   simp only[B] at hx
   have htk:=val_take_succ l i
   have hto:=val_take_succ out i
   generalize hxd:l.getD i 0=x at*
   generalize hyd:out.getD i 0=y at*
   have hxv:x*2^k<9223372036854775808:=by
    have:x*2^k<=4294967295*2147483648:=Nat.mul_le_mul (by omega) hp2;omega
   have hcast:(x:Int)*2^k=((x*2^k:Nat):Int):=by rw[Int.natCast_mul,Int.natCast_pow];rfl
   have hmod:=mul_pow_mod (d:=x) (k:=k) (by omega)
   generalize hvd:x*2^k=v at*
   have hwv:IntKind.u32.wrap (v:Int)=((v % 4294967296:Nat):Int):=by rw[wrap32];rfl
   have hor:=or32 k hlow hmod (by omega) (Nat.mod_lt _ (by decide))
   have hi1:((i:Int)+1).toNat=i+1:=by omega
   have hroom:=top_room (k:=k) (by omega) hmod (Nat.mod_lt _ (by decide))
   have hhi:v / 4294967296<2^k:=by
    rw[Nat.div_lt_iff_lt_mul (by decide),<-hvd,Nat.mul_comm];exact Nat.mul_lt_mul_of_pos_left hx hp0
   have hvh:(v:Int) / 4294967296=((v / 4294967296:Nat):Int):=by rw[Int.natCast_ediv];rfl
   have hst:=val_set_take (l:=out) (i:=i) (by omega) (y+v % 4294967296)
   have hst2:=val_set_take (l:=out.set i (y+v % 4294967296)) (i:=i+1) (by simp;omega) (v / 4294967296)
   have hls:(out.set i (y+v % 4294967296)).length=l.length+1:=by simp[ho]
   simp -dsimp(disch:=omega) only[h2,hk64,hcast,hxd,hyd,hwv,hor,hi1,hvh,IntKind.bits,Int.reduceToNat,Int.reducePow,↓reduceIte,reduceLT,reduceLeDiff,ru]
   refine⟨by omega,by omega,by omega,by omega,by omega,by omega,by omega,by omega,by omega,?_⟩
   refine ap (i+1,(out.set i (y+v % 4294967296)).set (i+1) (v / 4294967296)) (by dsimp only;omega) ?_ ⟨by omega,by simp[ho],(hdo.set _ (by simp only[B];omega)).set _ (by simp only[B];omega),?_,?_⟩
   ·refine wk [0] (by simp) rfl ?_ ?_
    ·simp[leVs,leV,le1]
    ·simp[leH,leO]
   ·rw[hst2,hst,htk]
    have hdm:=Nat.mod_add_div v 4294967296
    rw[hto] at hv
    generalize v % 4294967296=vl at*
    generalize v / 4294967296=vh at*
    rw[Nat.pow_succ]
    simp only[B] at*
    grind
   ·have:((out.set i (y+v % 4294967296)).set (i+1) (v / 4294967296)).getD (i+1) 0=v / 4294967296:=by
     rw[qa,qv (by rw[hls];omega)];rfl
    rw[this]
    exact hhi
  ·intro h1 h2
   simp -dsimp(disch:=omega) only[h2,Nat.reduceBEq,ru]
   have hil:i=l.length:=by omega
   have hv2:val out=val l*2^k:=by
    rw[hil,val_take_all (by omega),val_take_all (qp _)] at hv;exact hv
   rw[<-hv2,<-ho,<-digs_eq hdo,ho]
   exact RetOK.own rfl ⟨tvq,tvq⟩ rfl
end Go.Proofs.YtjjbkjgifdhlcaaGreat
