/- The types of the program,as the abstract machine asks them;and that they are the program's. -/
import Derived.Test.YtjjbkjgifdhlcaaGreatT9
import Derived.Test.YtjjbkjgifdhlcaaGreatProg
import Derived.KernelRfl
import Derived.Test.YtjjbkjgifdhlcaaGreatT8
import Derived.Test.YtjjbkjgifdhlcaaGreatT1
set_option linter.all false
open List (drop_eq_getElem_cons getD_cons_zero length_cons length_take replicate)
namespace Go.Proofs.YtjjbkjgifdhlcaaGreat
open Go.AM
set_option maxRecDepth 100000
def ty3:TyI:=⟨.int .i64,1,8,[.fv (.lit (.int .i64 0))]⟩
def ty4:TyI:=⟨.bool,1,1,[.fv (.lit (.bool false))]⟩
def ty5:TyI:=⟨.int .u8,1,1,[.fv (.lit (.int .u8 0))]⟩
def ty9:TyI:=⟨.str,1,16,[.fv (.lit (.string ⟨#[]⟩))]⟩
def ac2:TyI:=⟨.sl 3,1,24,[.nilsl]⟩
def ac3:TyI:=⟨.other,1,8,[.fv (.lit (.pointer none))]⟩
def ac4:TyI:=⟨.sl 104,1,24,[.nilsl]⟩
def ac5:TyI:=⟨.st [⟨0,1,false⟩,⟨1,1,false⟩,⟨2,1,false⟩],3,56,[.fv (.lit (.bool false)),.nilsl,.nilsl]⟩
def ac6:TyI:=⟨.arr 8 27,24,448,[.fv (.lit (.bool false)),.nilsl,.nilsl,.fv (.lit (.bool false)),.nilsl,.nilsl,.fv (.lit (.bool false)),.nilsl,.nilsl,.fv (.lit (.bool false)),.nilsl,.nilsl,.fv (.lit (.bool false)),.nilsl,.nilsl,.fv (.lit (.bool false)),.nilsl,.nilsl,.fv (.lit (.bool false)),.nilsl,.nilsl,.fv (.lit (.bool false)),.nilsl,.nilsl]⟩
def ac7:TyI:=⟨.st [⟨0,24,true⟩,⟨24,3,true⟩],27,504,[.fv (.lit (.bool false)),.nilsl,.nilsl,.fv (.lit (.bool false)),.nilsl,.nilsl,.fv (.lit (.bool false)),.nilsl,.nilsl,.fv (.lit (.bool false)),.nilsl,.nilsl,.fv (.lit (.bool false)),.nilsl,.nilsl,.fv (.lit (.bool false)),.nilsl,.nilsl,.fv (.lit (.bool false)),.nilsl,.nilsl,.fv (.lit (.bool false)),.nilsl,.nilsl,.fv (.lit (.bool false)),.nilsl,.nilsl]⟩
def ac8:TyI:=⟨.sl 27,1,24,[.nilsl]⟩
def ac9:TyI:=⟨.sl 69,1,24,[.nilsl]⟩
def ada:TyI:=⟨.sl 69,1,24,[.nilsl]⟩
def adb:TyI:=⟨.int .i64,1,8,[.fv (.lit (.int .i64 0))]⟩
def ade:TyI:=⟨.sl 73,1,24,[.nilsl]⟩
def adf:TyI:=⟨.other,1,8,[.fv (.lit (.nilFunc))]⟩
def adg:TyI:=⟨.arr 8 3,8,64,[.fv (.lit (.int .i64 0)),.fv (.lit (.int .i64 0)),.fv (.lit (.int .i64 0)),.fv (.lit (.int .i64 0)),.fv (.lit (.int .i64 0)),.fv (.lit (.int .i64 0)),.fv (.lit (.int .i64 0)),.fv (.lit (.int .i64 0))]⟩
def adh:TyI:=⟨.st [⟨0,8,true⟩,⟨8,3,true⟩],11,120,[.fv (.lit (.int .i64 0)),.fv (.lit (.int .i64 0)),.fv (.lit (.int .i64 0)),.fv (.lit (.int .i64 0)),.fv (.lit (.int .i64 0)),.fv (.lit (.int .i64 0)),.fv (.lit (.int .i64 0)),.fv (.lit (.int .i64 0)),.fv (.lit (.bool false)),.nilsl,.nilsl]⟩
def adi:TyI:=⟨.sl 30,1,24,[.nilsl]⟩
def adj:TyI:=⟨.st [⟨0,1,false⟩,⟨1,1,false⟩],2,48,[.nilsl,.nilsl]⟩
def adk:TyI:=⟨.st [⟨0,1,false⟩,⟨1,1,false⟩,⟨2,1,false⟩],3,40,[.nilsl,.fv (.lit (.int .i64 0)),.fv (.lit (.int .i64 0))]⟩
def adl:TyI:=⟨.other,1,8,[.fv (.lit (.nilFunc))]⟩
def XD:TyI:=⟨.int .u32,1,4,[.fv (.lit (.int .u32 0))]⟩
def XE:TyI:=⟨.sl 22,1,24,[.nilsl]⟩
def XF:TyI:=⟨.st [⟨0,1,false⟩],1,1,[.fv (.lit (.bool false))]⟩
def XG:TyI:=⟨.st [⟨0,1,false⟩,⟨1,1,false⟩],2,48,[.nilsl,.nilsl]⟩
def XH:TyI:=⟨.st [⟨0,1,true⟩,⟨1,2,true⟩],3,56,[.fv (.lit (.bool false)),.nilsl,.nilsl]⟩
def XI:TyI:=⟨.int .u64,1,8,[.fv (.lit (.int .u64 0))]⟩
def XJ:TyI:=⟨.int .u64,1,8,[.fv (.lit (.int .u64 0))]⟩
def XK:TyI:=⟨.sl 35,1,24,[.nilsl]⟩
def XL:TyI:=⟨.other,1,8,[.fv (.lit (.nilFunc))]⟩
def XM:TyI:=⟨.sl 53,1,24,[.nilsl]⟩
def XN:TyI:=⟨.other,1,8,[.fv (.lit (.nilFunc))]⟩
def XO:TyI:=⟨.sl 70,1,24,[.nilsl]⟩
def XP:TyI:=⟨.mp 8 (.agg [.bool false,.fv (.sl []),.fv (.sl [])]),1,8,[.fv (.lit (.map none))]⟩
def XQ:TyI:=⟨.sl 67,1,24,[.nilsl]⟩
def XR:TyI:=⟨.other,1,8,[.fv (.lit (.nilFunc))]⟩
def XS:TyI:=⟨.st [⟨0,1,false⟩],1,1,[.fv (.lit (.bool false))]⟩
def XT:TyI:=⟨.sl 34,1,24,[.nilsl]⟩
def XU:TyI:=⟨.other,1,8,[.fv (.lit (.nilFunc))]⟩
def XV:TyI:=⟨.mp 8 (.int .i64 0),1,8,[.fv (.lit (.map none))]⟩
def XW:TyI:=⟨.other,1,8,[.fv (.lit (.nilFunc))]⟩
def XX:TyI:=⟨.st [⟨0,1,false⟩],1,8,[.fv (.lit (.int .i64 0))]⟩
def XY:TyI:=⟨.int .i64,1,8,[.fv (.lit (.int .i64 0))]⟩
def XZ:TyI:=⟨.int .u64,1,8,[.fv (.lit (.int .u64 0))]⟩
def X0:TyI:=⟨.other,1,8,[.fv (.lit (.pointer none))]⟩
def X4:TyI:=⟨.other,1,16,[.fv (.lit (.nilIface))]⟩
def tab:Tab:=[(3,ty3),(4,ty4),(5,ty5),(9,ty9),(22,ac2),(23,ac3),(25,ac4),(27,ac5),(28,ac6),(30,ac7),(32,ac8),(34,ac9),(35,ada),(45,adb),(53,ade),(64,adf),(67,adg),(69,adh),(70,adi),(73,adj),(86,adk),(92,adl),(104,XD),(115,XE),(137,XF),(139,XG),(141,XH),(151,XI),(152,XJ),(153,XK),(160,XL),(164,XM),(170,XN),(173,XO),(178,XP),(179,XQ),(182,XR),(184,XS),(193,XT),(202,XU),(216,XV),(219,XW),(221,XX),(229,XY),(247,XZ),(251,X0),(255,X4)]
theorem at3:tab.at 3=some ⟨.int .i64,1,8,[.fv (.lit (.int .i64 0))]⟩:=rfl
theorem at4:tab.at 4=some ⟨.bool,1,1,[.fv (.lit (.bool false))]⟩:=rfl
theorem at5:tab.at 5=some ⟨.int .u8,1,1,[.fv (.lit (.int .u8 0))]⟩:=rfl
theorem at9:tab.at 9=some ⟨.str,1,16,[.fv (.lit (.string ⟨#[]⟩))]⟩:=rfl
theorem aiZ:tab.at 22=some ⟨.sl 3,1,24,[.nilsl]⟩:=rfl
theorem ai0:tab.at 23=some ⟨.other,1,8,[.fv (.lit (.pointer none))]⟩:=rfl
theorem ai1:tab.at 25=some ⟨.sl 104,1,24,[.nilsl]⟩:=rfl
theorem ai2:tab.at 27=some ⟨.st [⟨0,1,false⟩,⟨1,1,false⟩,⟨2,1,false⟩],3,56,[.fv (.lit (.bool false)),.nilsl,.nilsl]⟩:=rfl
theorem ai3:tab.at 28=some ⟨.arr 8 27,24,448,[.fv (.lit (.bool false)),.nilsl,.nilsl,.fv (.lit (.bool false)),.nilsl,.nilsl,.fv (.lit (.bool false)),.nilsl,.nilsl,.fv (.lit (.bool false)),.nilsl,.nilsl,.fv (.lit (.bool false)),.nilsl,.nilsl,.fv (.lit (.bool false)),.nilsl,.nilsl,.fv (.lit (.bool false)),.nilsl,.nilsl,.fv (.lit (.bool false)),.nilsl,.nilsl]⟩:=rfl
theorem Qh:tab.at 30=some ⟨.st [⟨0,24,true⟩,⟨24,3,true⟩],27,504,[.fv (.lit (.bool false)),.nilsl,.nilsl,.fv (.lit (.bool false)),.nilsl,.nilsl,.fv (.lit (.bool false)),.nilsl,.nilsl,.fv (.lit (.bool false)),.nilsl,.nilsl,.fv (.lit (.bool false)),.nilsl,.nilsl,.fv (.lit (.bool false)),.nilsl,.nilsl,.fv (.lit (.bool false)),.nilsl,.nilsl,.fv (.lit (.bool false)),.nilsl,.nilsl,.fv (.lit (.bool false)),.nilsl,.nilsl]⟩:=rfl
theorem ai4:tab.at 32=some ⟨.sl 27,1,24,[.nilsl]⟩:=rfl
theorem ai5:tab.at 34=some ⟨.sl 69,1,24,[.nilsl]⟩:=rfl
theorem ai6:tab.at 35=some ⟨.sl 69,1,24,[.nilsl]⟩:=rfl
theorem ai7:tab.at 45=some ⟨.int .i64,1,8,[.fv (.lit (.int .i64 0))]⟩:=rfl
theorem ai8:tab.at 53=some ⟨.sl 73,1,24,[.nilsl]⟩:=rfl
theorem ai9:tab.at 64=some ⟨.other,1,8,[.fv (.lit (.nilFunc))]⟩:=rfl
theorem aja:tab.at 67=some ⟨.arr 8 3,8,64,[.fv (.lit (.int .i64 0)),.fv (.lit (.int .i64 0)),.fv (.lit (.int .i64 0)),.fv (.lit (.int .i64 0)),.fv (.lit (.int .i64 0)),.fv (.lit (.int .i64 0)),.fv (.lit (.int .i64 0)),.fv (.lit (.int .i64 0))]⟩:=rfl
theorem ajb:tab.at 69=some ⟨.st [⟨0,8,true⟩,⟨8,3,true⟩],11,120,[.fv (.lit (.int .i64 0)),.fv (.lit (.int .i64 0)),.fv (.lit (.int .i64 0)),.fv (.lit (.int .i64 0)),.fv (.lit (.int .i64 0)),.fv (.lit (.int .i64 0)),.fv (.lit (.int .i64 0)),.fv (.lit (.int .i64 0)),.fv (.lit (.bool false)),.nilsl,.nilsl]⟩:=rfl
theorem ajc:tab.at 70=some ⟨.sl 30,1,24,[.nilsl]⟩:=rfl
theorem ajd:tab.at 73=some ⟨.st [⟨0,1,false⟩,⟨1,1,false⟩],2,48,[.nilsl,.nilsl]⟩:=rfl
theorem aje:tab.at 86=some ⟨.st [⟨0,1,false⟩,⟨1,1,false⟩,⟨2,1,false⟩],3,40,[.nilsl,.fv (.lit (.int .i64 0)),.fv (.lit (.int .i64 0))]⟩:=rfl
theorem ajf:tab.at 92=some ⟨.other,1,8,[.fv (.lit (.nilFunc))]⟩:=rfl
theorem adm:tab.at 104=some ⟨.int .u32,1,4,[.fv (.lit (.int .u32 0))]⟩:=rfl
theorem adn:tab.at 115=some ⟨.sl 22,1,24,[.nilsl]⟩:=rfl
theorem ado:tab.at 137=some ⟨.st [⟨0,1,false⟩],1,1,[.fv (.lit (.bool false))]⟩:=rfl
theorem adp:tab.at 139=some ⟨.st [⟨0,1,false⟩,⟨1,1,false⟩],2,48,[.nilsl,.nilsl]⟩:=rfl
theorem adq:tab.at 141=some ⟨.st [⟨0,1,true⟩,⟨1,2,true⟩],3,56,[.fv (.lit (.bool false)),.nilsl,.nilsl]⟩:=rfl
theorem adr:tab.at 151=some ⟨.int .u64,1,8,[.fv (.lit (.int .u64 0))]⟩:=rfl
theorem ads:tab.at 152=some ⟨.int .u64,1,8,[.fv (.lit (.int .u64 0))]⟩:=rfl
theorem adt:tab.at 153=some ⟨.sl 35,1,24,[.nilsl]⟩:=rfl
theorem adu:tab.at 160=some ⟨.other,1,8,[.fv (.lit (.nilFunc))]⟩:=rfl
theorem adv:tab.at 164=some ⟨.sl 53,1,24,[.nilsl]⟩:=rfl
theorem adw:tab.at 170=some ⟨.other,1,8,[.fv (.lit (.nilFunc))]⟩:=rfl
theorem adx:tab.at 173=some ⟨.sl 70,1,24,[.nilsl]⟩:=rfl
theorem ady:tab.at 178=some ⟨.mp 8 (.agg [.bool false,.fv (.sl []),.fv (.sl [])]),1,8,[.fv (.lit (.map none))]⟩:=rfl
theorem adz:tab.at 179=some ⟨.sl 67,1,24,[.nilsl]⟩:=rfl
theorem adA:tab.at 182=some ⟨.other,1,8,[.fv (.lit (.nilFunc))]⟩:=rfl
theorem adB:tab.at 184=some ⟨.st [⟨0,1,false⟩],1,1,[.fv (.lit (.bool false))]⟩:=rfl
theorem adC:tab.at 193=some ⟨.sl 34,1,24,[.nilsl]⟩:=rfl
theorem adD:tab.at 202=some ⟨.other,1,8,[.fv (.lit (.nilFunc))]⟩:=rfl
theorem adE:tab.at 216=some ⟨.mp 8 (.int .i64 0),1,8,[.fv (.lit (.map none))]⟩:=rfl
theorem adF:tab.at 219=some ⟨.other,1,8,[.fv (.lit (.nilFunc))]⟩:=rfl
theorem adG:tab.at 221=some ⟨.st [⟨0,1,false⟩],1,8,[.fv (.lit (.int .i64 0))]⟩:=rfl
theorem adH:tab.at 229=some ⟨.int .i64,1,8,[.fv (.lit (.int .i64 0))]⟩:=rfl
theorem adI:tab.at 247=some ⟨.int .u64,1,8,[.fv (.lit (.int .u64 0))]⟩:=rfl
theorem adJ:tab.at 251=some ⟨.other,1,8,[.fv (.lit (.pointer none))]⟩:=rfl
theorem adK:tab.at 255=some ⟨.other,1,16,[.fv (.lit (.nilIface))]⟩:=rfl
abbrev Qi:=qy at3 (qy at4 (qy at5 (qy at9 (qy aiZ (qy ai0 (qy ai1 (qy ai2 (qy ai3 (qy Qh (qy ai4 (qy ai5 (qy ai6 (qy ai7 (qy ai8 (qy ai9 (qy aja (qy ajb (qy ajc (qy ajd (qy aje (qy ajf (qy adm (qy adn (qy ado (qy adp (qy adq (qy adr (qy ads (qy adt (qy adu (qy adv (qy adw (qy adx (qy ady (qy adz (qy adA (qy adB (qy adC (qy adD (qy adE (qy adF (qy adG (qy adH (qy adI (qy adJ (adK))))))))))))))))))))))))))))))))))))))))))))))
abbrev ru:=qy @kr (qy @dD (qy @d8 (qy @je (qy @qS (qy @qT (qy @qU (qy @Nat.min_def (qy @eM (qy @df (qy @Option.isNone_some.{0} (qy @lQ (qy @Qi (@eq_self.{1})))))))))))))
theorem ok3:TyOk Tryz.prog 3 ty3:=⟨⟨_,_,(by kernel_rfl:Tryz.prog.info? 3=some Tryz.t3),rfl,rfl,rfl,rfl,rfl,rfl⟩,Tryz.underlying3⟩
theorem ok4:TyOk Tryz.prog 4 ty4:=⟨⟨_,_,(by kernel_rfl:Tryz.prog.info? 4=some Tryz.t4),rfl,rfl,rfl,rfl,rfl,rfl⟩,Tryz.underlying4⟩
theorem ok5:TyOk Tryz.prog 5 ty5:=⟨⟨_,_,(by kernel_rfl:Tryz.prog.info? 5=some Tryz.t5),rfl,rfl,rfl,rfl,rfl,rfl⟩,Tryz.underlying5⟩
theorem ok9:TyOk Tryz.prog 9 ty9:=⟨⟨_,_,(by kernel_rfl:Tryz.prog.info? 9=some Tryz.t9),rfl,rfl,rfl,rfl,rfl,rfl⟩,Tryz.underlying9⟩
theorem ajg:TyOk Tryz.prog 22 ac2:=⟨⟨_,_,(by kernel_rfl:Tryz.prog.info? 22=some Tryz.t22),rfl,rfl,rfl,rfl,rfl,rfl⟩,Tryz.underlying22⟩
theorem ajh:TyOk Tryz.prog 23 ac3:=⟨⟨_,_,(by kernel_rfl:Tryz.prog.info? 23=some Tryz.t23),rfl,rfl,rfl,rfl,rfl,rfl⟩,⟨_,Tryz.underlying23,rfl⟩⟩
theorem aji:TyOk Tryz.prog 25 ac4:=⟨⟨_,_,(by kernel_rfl:Tryz.prog.info? 25=some Tryz.t25),rfl,rfl,rfl,rfl,rfl,rfl⟩,Tryz.underlying25⟩
theorem ajj:TyOk Tryz.prog 27 ac5:=⟨⟨_,_,(by kernel_rfl:Tryz.prog.info? 27=some Tryz.t27),rfl,rfl,rfl,rfl,rfl,rfl⟩,
 ⟨_,Tryz.underlying27,rfl,fun j f fd h1 h2=>match j,f,fd,h1,h2 with
  | 0,_,_,rfl,rfl=>⟨rfl,by decide,_,_,(by kernel_rfl:Tryz.prog.info? 4=some Tryz.t4),rfl,Tryz.underlying4,rfl⟩
  | 1,_,_,rfl,rfl=>⟨rfl,by decide,_,_,(by kernel_rfl:Tryz.prog.info? 25=some Tryz.t25),rfl,Tryz.underlying25,rfl⟩
  | 2,_,_,rfl,rfl=>⟨rfl,by decide,_,_,(by kernel_rfl:Tryz.prog.info? 25=some Tryz.t25),rfl,Tryz.underlying25,rfl⟩
  | j+3,_,_,h,_=>by simp at h⟩⟩
theorem ajk:TyOk Tryz.prog 28 ac6:=⟨⟨_,_,(by kernel_rfl:Tryz.prog.info? 28=some Tryz.t28),rfl,rfl,rfl,rfl,rfl,rfl⟩,Tryz.underlying28⟩
theorem ajl:TyOk Tryz.prog 30 ac7:=⟨⟨_,_,(by kernel_rfl:Tryz.prog.info? 30=some Tryz.t30),rfl,rfl,rfl,rfl,rfl,rfl⟩,
 ⟨_,Tryz.underlying30,rfl,fun j f fd h1 h2=>match j,f,fd,h1,h2 with
  | 0,_,_,rfl,rfl=>⟨rfl,by decide,_,_,(by kernel_rfl:Tryz.prog.info? 28=some Tryz.t28),rfl,Tryz.underlying28,rfl⟩
  | 1,_,_,rfl,rfl=>⟨rfl,by decide,_,_,(by kernel_rfl:Tryz.prog.info? 27=some Tryz.t27),rfl,Tryz.underlying27,rfl⟩
  | j+2,_,_,h,_=>by simp at h⟩⟩
theorem ajm:TyOk Tryz.prog 32 ac8:=⟨⟨_,_,(by kernel_rfl:Tryz.prog.info? 32=some Tryz.t32),rfl,rfl,rfl,rfl,rfl,rfl⟩,Tryz.underlying32⟩
theorem ajn:TyOk Tryz.prog 34 ac9:=⟨⟨_,_,(by kernel_rfl:Tryz.prog.info? 34=some Tryz.t34),rfl,rfl,rfl,rfl,rfl,rfl⟩,Tryz.underlying34⟩
theorem ajo:TyOk Tryz.prog 35 ada:=⟨⟨_,_,(by kernel_rfl:Tryz.prog.info? 35=some Tryz.t35),rfl,rfl,rfl,rfl,rfl,rfl⟩,Tryz.underlying35⟩
theorem ajp:TyOk Tryz.prog 45 adb:=⟨⟨_,_,(by kernel_rfl:Tryz.prog.info? 45=some Tryz.t45),rfl,rfl,rfl,rfl,rfl,rfl⟩,Tryz.underlying45⟩
theorem ajq:TyOk Tryz.prog 53 ade:=⟨⟨_,_,(by kernel_rfl:Tryz.prog.info? 53=some Tryz.t53),rfl,rfl,rfl,rfl,rfl,rfl⟩,Tryz.underlying53⟩
theorem ajr:TyOk Tryz.prog 64 adf:=⟨⟨_,_,(by kernel_rfl:Tryz.prog.info? 64=some Tryz.t64),rfl,rfl,rfl,rfl,rfl,rfl⟩,⟨_,Tryz.underlying64,rfl⟩⟩
theorem ajs:TyOk Tryz.prog 67 adg:=⟨⟨_,_,(by kernel_rfl:Tryz.prog.info? 67=some Tryz.t67),rfl,rfl,rfl,rfl,rfl,rfl⟩,Tryz.underlying67⟩
theorem ajt:TyOk Tryz.prog 69 adh:=⟨⟨_,_,(by kernel_rfl:Tryz.prog.info? 69=some Tryz.t69),rfl,rfl,rfl,rfl,rfl,rfl⟩,
 ⟨_,Tryz.underlying69,rfl,fun j f fd h1 h2=>match j,f,fd,h1,h2 with
  | 0,_,_,rfl,rfl=>⟨rfl,by decide,_,_,(by kernel_rfl:Tryz.prog.info? 67=some Tryz.t67),rfl,Tryz.underlying67,rfl⟩
  | 1,_,_,rfl,rfl=>⟨rfl,by decide,_,_,(by kernel_rfl:Tryz.prog.info? 27=some Tryz.t27),rfl,Tryz.underlying27,rfl⟩
  | j+2,_,_,h,_=>by simp at h⟩⟩
theorem aju:TyOk Tryz.prog 70 adi:=⟨⟨_,_,(by kernel_rfl:Tryz.prog.info? 70=some Tryz.t70),rfl,rfl,rfl,rfl,rfl,rfl⟩,Tryz.underlying70⟩
theorem ajv:TyOk Tryz.prog 73 adj:=⟨⟨_,_,(by kernel_rfl:Tryz.prog.info? 73=some Tryz.t73),rfl,rfl,rfl,rfl,rfl,rfl⟩,
 ⟨_,Tryz.underlying73,rfl,fun j f fd h1 h2=>match j,f,fd,h1,h2 with
  | 0,_,_,rfl,rfl=>⟨rfl,by decide,_,_,(by kernel_rfl:Tryz.prog.info? 70=some Tryz.t70),rfl,Tryz.underlying70,rfl⟩
  | 1,_,_,rfl,rfl=>⟨rfl,by decide,_,_,(by kernel_rfl:Tryz.prog.info? 35=some Tryz.t35),rfl,Tryz.underlying35,rfl⟩
  | j+2,_,_,h,_=>by simp at h⟩⟩
theorem ajw:TyOk Tryz.prog 86 adk:=⟨⟨_,_,(by kernel_rfl:Tryz.prog.info? 86=some Tryz.t86),rfl,rfl,rfl,rfl,rfl,rfl⟩,
 ⟨_,Tryz.underlying86,rfl,fun j f fd h1 h2=>match j,f,fd,h1,h2 with
  | 0,_,_,rfl,rfl=>⟨rfl,by decide,_,_,(by kernel_rfl:Tryz.prog.info? 22=some Tryz.t22),rfl,Tryz.underlying22,rfl⟩
  | 1,_,_,rfl,rfl=>⟨rfl,by decide,_,_,(by kernel_rfl:Tryz.prog.info? 3=some Tryz.t3),rfl,Tryz.underlying3,rfl⟩
  | 2,_,_,rfl,rfl=>⟨rfl,by decide,_,_,(by kernel_rfl:Tryz.prog.info? 3=some Tryz.t3),rfl,Tryz.underlying3,rfl⟩
  | j+3,_,_,h,_=>by simp at h⟩⟩
theorem ajx:TyOk Tryz.prog 92 adl:=⟨⟨_,_,(by kernel_rfl:Tryz.prog.info? 92=some Tryz.t92),rfl,rfl,rfl,rfl,rfl,rfl⟩,⟨_,Tryz.underlying92,rfl⟩⟩
theorem adL:TyOk Tryz.prog 104 XD:=⟨⟨_,_,(by kernel_rfl:Tryz.prog.info? 104=some Tryz.t104),rfl,rfl,rfl,rfl,rfl,rfl⟩,Tryz.underlying104⟩
theorem adM:TyOk Tryz.prog 115 XE:=⟨⟨_,_,(by kernel_rfl:Tryz.prog.info? 115=some Tryz.t115),rfl,rfl,rfl,rfl,rfl,rfl⟩,Tryz.underlying115⟩
theorem adN:TyOk Tryz.prog 137 XF:=⟨⟨_,_,(by kernel_rfl:Tryz.prog.info? 137=some Tryz.t137),rfl,rfl,rfl,rfl,rfl,rfl⟩,
 ⟨_,Tryz.underlying137,rfl,fun j f fd h1 h2=>match j,f,fd,h1,h2 with
  | 0,_,_,rfl,rfl=>⟨rfl,by decide,_,_,(by kernel_rfl:Tryz.prog.info? 4=some Tryz.t4),rfl,Tryz.underlying4,rfl⟩
  | j+1,_,_,h,_=>by simp at h⟩⟩
theorem adO:TyOk Tryz.prog 139 XG:=⟨⟨_,_,(by kernel_rfl:Tryz.prog.info? 139=some Tryz.t139),rfl,rfl,rfl,rfl,rfl,rfl⟩,
 ⟨_,Tryz.underlying139,rfl,fun j f fd h1 h2=>match j,f,fd,h1,h2 with
  | 0,_,_,rfl,rfl=>⟨rfl,by decide,_,_,(by kernel_rfl:Tryz.prog.info? 25=some Tryz.t25),rfl,Tryz.underlying25,rfl⟩
  | 1,_,_,rfl,rfl=>⟨rfl,by decide,_,_,(by kernel_rfl:Tryz.prog.info? 25=some Tryz.t25),rfl,Tryz.underlying25,rfl⟩
  | j+2,_,_,h,_=>by simp at h⟩⟩
theorem adP:TyOk Tryz.prog 141 XH:=⟨⟨_,_,(by kernel_rfl:Tryz.prog.info? 141=some Tryz.t141),rfl,rfl,rfl,rfl,rfl,rfl⟩,
 ⟨_,Tryz.underlying141,rfl,fun j f fd h1 h2=>match j,f,fd,h1,h2 with
  | 0,_,_,rfl,rfl=>⟨rfl,by decide,_,_,(by kernel_rfl:Tryz.prog.info? 137=some Tryz.t137),rfl,Tryz.underlying137,rfl⟩
  | 1,_,_,rfl,rfl=>⟨rfl,by decide,_,_,(by kernel_rfl:Tryz.prog.info? 139=some Tryz.t139),rfl,Tryz.underlying139,rfl⟩
  | j+2,_,_,h,_=>by simp at h⟩⟩
theorem adQ:TyOk Tryz.prog 151 XI:=⟨⟨_,_,(by kernel_rfl:Tryz.prog.info? 151=some Tryz.t151),rfl,rfl,rfl,rfl,rfl,rfl⟩,Tryz.underlying151⟩
theorem adR:TyOk Tryz.prog 152 XJ:=⟨⟨_,_,(by kernel_rfl:Tryz.prog.info? 152=some Tryz.t152),rfl,rfl,rfl,rfl,rfl,rfl⟩,Tryz.underlying152⟩
theorem adS:TyOk Tryz.prog 153 XK:=⟨⟨_,_,(by kernel_rfl:Tryz.prog.info? 153=some Tryz.t153),rfl,rfl,rfl,rfl,rfl,rfl⟩,Tryz.underlying153⟩
theorem adT:TyOk Tryz.prog 160 XL:=⟨⟨_,_,(by kernel_rfl:Tryz.prog.info? 160=some Tryz.t160),rfl,rfl,rfl,rfl,rfl,rfl⟩,⟨_,Tryz.underlying160,rfl⟩⟩
theorem adU:TyOk Tryz.prog 164 XM:=⟨⟨_,_,(by kernel_rfl:Tryz.prog.info? 164=some Tryz.t164),rfl,rfl,rfl,rfl,rfl,rfl⟩,Tryz.underlying164⟩
theorem adV:TyOk Tryz.prog 170 XN:=⟨⟨_,_,(by kernel_rfl:Tryz.prog.info? 170=some Tryz.t170),rfl,rfl,rfl,rfl,rfl,rfl⟩,⟨_,Tryz.underlying170,rfl⟩⟩
theorem adW:TyOk Tryz.prog 173 XO:=⟨⟨_,_,(by kernel_rfl:Tryz.prog.info? 173=some Tryz.t173),rfl,rfl,rfl,rfl,rfl,rfl⟩,Tryz.underlying173⟩
theorem adX:TyOk Tryz.prog 178 XP:=⟨⟨_,_,(by kernel_rfl:Tryz.prog.info? 178=some Tryz.t178),rfl,rfl,rfl,rfl,rfl,rfl⟩,
 Y1 Tryz.underlying178 (by kernel_rfl:Tryz.prog.info? 27=some Tryz.t27) rfl rfl aki ⟨Tryz.underlying67,by simp[Program.plainKey,Tryz.underlying3],by kernel_rfl,by kernel_rfl⟩ Tryz.underlying3 ⟨280,by kernel_rfl⟩⟩
theorem adY:TyOk Tryz.prog 179 XQ:=⟨⟨_,_,(by kernel_rfl:Tryz.prog.info? 179=some Tryz.t179),rfl,rfl,rfl,rfl,rfl,rfl⟩,Tryz.underlying179⟩
theorem adZ:TyOk Tryz.prog 182 XR:=⟨⟨_,_,(by kernel_rfl:Tryz.prog.info? 182=some Tryz.t182),rfl,rfl,rfl,rfl,rfl,rfl⟩,⟨_,Tryz.underlying182,rfl⟩⟩
theorem ad0:TyOk Tryz.prog 184 XS:=⟨⟨_,_,(by kernel_rfl:Tryz.prog.info? 184=some Tryz.t184),rfl,rfl,rfl,rfl,rfl,rfl⟩,
 ⟨_,Tryz.underlying184,rfl,fun j f fd h1 h2=>match j,f,fd,h1,h2 with
  | 0,_,_,rfl,rfl=>⟨rfl,by decide,_,_,(by kernel_rfl:Tryz.prog.info? 4=some Tryz.t4),rfl,Tryz.underlying4,rfl⟩
  | j+1,_,_,h,_=>by simp at h⟩⟩
theorem ad1:TyOk Tryz.prog 193 XT:=⟨⟨_,_,(by kernel_rfl:Tryz.prog.info? 193=some Tryz.t193),rfl,rfl,rfl,rfl,rfl,rfl⟩,Tryz.underlying193⟩
theorem ad2:TyOk Tryz.prog 202 XU:=⟨⟨_,_,(by kernel_rfl:Tryz.prog.info? 202=some Tryz.t202),rfl,rfl,rfl,rfl,rfl,rfl⟩,⟨_,Tryz.underlying202,rfl⟩⟩
theorem ad3:TyOk Tryz.prog 216 XV:=⟨⟨_,_,(by kernel_rfl:Tryz.prog.info? 216=some Tryz.t216),rfl,rfl,rfl,rfl,rfl,rfl⟩,
 Y1 Tryz.underlying216 (by kernel_rfl:Tryz.prog.info? 3=some Tryz.t3) rfl rfl akj ⟨Tryz.underlying67,by simp[Program.plainKey,Tryz.underlying3],by kernel_rfl,by kernel_rfl⟩ Tryz.underlying3 ⟨280,by kernel_rfl⟩⟩
theorem ad4:TyOk Tryz.prog 219 XW:=⟨⟨_,_,(by kernel_rfl:Tryz.prog.info? 219=some Tryz.t219),rfl,rfl,rfl,rfl,rfl,rfl⟩,⟨_,Tryz.underlying219,rfl⟩⟩
theorem ad5:TyOk Tryz.prog 221 XX:=⟨⟨_,_,(by kernel_rfl:Tryz.prog.info? 221=some Tryz.t221),rfl,rfl,rfl,rfl,rfl,rfl⟩,
 ⟨_,Tryz.underlying221,rfl,fun j f fd h1 h2=>match j,f,fd,h1,h2 with
  | 0,_,_,rfl,rfl=>⟨rfl,by decide,_,_,(by kernel_rfl:Tryz.prog.info? 3=some Tryz.t3),rfl,Tryz.underlying3,rfl⟩
  | j+1,_,_,h,_=>by simp at h⟩⟩
theorem ad6:TyOk Tryz.prog 229 XY:=⟨⟨_,_,(by kernel_rfl:Tryz.prog.info? 229=some Tryz.t229),rfl,rfl,rfl,rfl,rfl,rfl⟩,Tryz.underlying229⟩
theorem ad7:TyOk Tryz.prog 247 XZ:=⟨⟨_,_,(by kernel_rfl:Tryz.prog.info? 247=some Tryz.t247),rfl,rfl,rfl,rfl,rfl,rfl⟩,Tryz.underlying247⟩
theorem ad8:TyOk Tryz.prog 251 X0:=⟨⟨_,_,(by kernel_rfl:Tryz.prog.info? 251=some Tryz.t251),rfl,rfl,rfl,rfl,rfl,rfl⟩,⟨_,Tryz.underlying251,rfl⟩⟩
theorem ad9:TyOk Tryz.prog 255 X4:=⟨⟨_,_,(by kernel_rfl:Tryz.prog.info? 255=some Tryz.t255),rfl,rfl,rfl,rfl,rfl,rfl⟩,⟨_,Tryz.underlying255,rfl⟩⟩
theorem Lf:cQ Tryz.prog tab:=by
 refine Sm (fun e he=>?_);simp only[tab,BL,List.not_mem_nil,or_false] at he;rcases he with rfl | rfl | rfl | rfl | rfl | rfl | rfl | rfl | rfl | rfl | rfl | rfl | rfl | rfl | rfl | rfl | rfl | rfl | rfl | rfl | rfl | rfl | rfl | rfl | rfl | rfl | rfl | rfl | rfl | rfl | rfl | rfl | rfl | rfl | rfl | rfl | rfl | rfl | rfl | rfl | rfl | rfl | rfl | rfl | rfl | rfl | rfl
 .exact ok3
 .exact ok4
 .exact ok5
 .exact ok9
 .exact ajg
 .exact ajh
 .exact aji
 .exact ajj
 .exact ajk
 .exact ajl
 .exact ajm
 .exact ajn
 .exact ajo
 .exact ajp
 .exact ajq
 .exact ajr
 .exact ajs
 .exact ajt
 .exact aju
 .exact ajv
 .exact ajw
 .exact ajx
 .exact adL
 .exact adM
 .exact adN
 .exact adO
 .exact adP
 .exact adQ
 .exact adR
 .exact adS
 .exact adT
 .exact adU
 .exact adV
 .exact adW
 .exact adX
 .exact adY
 .exact adZ
 .exact ad0
 .exact ad1
 .exact ad2
 .exact ad3
 .exact ad4
 .exact ad5
 .exact ad6
 .exact ad7
 .exact ad8
 exact ad9
theorem Lg:Tryz.prog.follows .mixedOrders=true:=by kernel_rfl
theorem dq {k:FuncId} {fn:Func} (hf:Tryz.prog.funcs[k]?=some fn) (n m:Nat) {cd:Code} {H0:List Ob} {args:List PV} {H1:List Ob} {res:PV} {rs:List ResultVar} {env:List PV}
 (h:WA Tryz.prog tab m cd ⟨env,H0⟩ (Wf tab rs m H1 res) ⟨⟩) (hb:fn.body=some cd:=by exact rfl) (mF:(fn.name== "runtime.NumGoroutine")=false:=by decide) (hr:fn.results=List.toArray rs:=by exact rfl) (hn:fn.ntmps - args.length=n:=by exact rfl) (he:args++replicate n .any=env:=by exact rfl) (MZ:H0.length=m:=by exact rfl):Den Tryz.prog k H0 args H1 res:=Kn Lf Lg hf hb mF hr hn he MZ h
theorem Lh {k:FuncId} {fn:Func} (hf:Tryz.prog.funcs[k]?=some fn) (n m:Nat) {cd:Code} {H0:List Ob} {args:List PV} {R:List Ob->PV->Prop} {rs:List ResultVar} {env:List PV}
 (h:WA Tryz.prog tab m cd ⟨env,H0⟩ (Wi tab rs m R) ⟨⟩) (hb:fn.body=some cd:=by exact rfl) (mF:(fn.name== "runtime.NumGoroutine")=false:=by decide) (hr:fn.results=List.toArray rs:=by exact rfl) (hn:fn.ntmps - args.length=n:=by exact rfl) (he:args++replicate n .any=env:=by exact rfl) (MZ:H0.length=m:=by exact rfl): ∃ H1 res,R H1 res/\Den Tryz.prog k H0 args H1 res:=S5 Lf Lg hf hb mF hr hn he MZ h
end Go.Proofs.YtjjbkjgifdhlcaaGreat
namespace Go.Pl
abbrev B:Nat:=4294967296
def val:List Nat->Nat
 | []=>0
 | d::l=>d+B*val l
def Dig (l:List Nat):Prop:= ∀ d∈l,d<B
theorem Dig.nil:Dig []:=by simp[Dig]
theorem Dig.cons {d:Nat} {l:List Nat} (h:Dig (d::l)):d<B/\Dig l:=⟨h d (by simp),fun x hx=>h x (by simp[hx])⟩
theorem Dig.mk {d:Nat} {l:List Nat} (h:d<B) (k:Dig l):Dig (d::l):=fun x hx=>by
 simp only[BL] at hx;rcases hx with rfl | hx
 .exact h
 exact k x hx
theorem Dig.take {l:List Nat} (h:Dig l) (n:Nat):Dig (l.take n):=fun d hd=>h d (xW hd)
theorem Dig.drop {l:List Nat} (h:Dig l) (n:Nat):Dig (l.drop n):=fun d hd=>h d (qgb hd)
theorem Dig.app {l k:List Nat} (h:Dig l) (h2:Dig k):Dig (l++k):=fun d hd=>by
 rcases List.mem_append.1 hd with hd | hd
 .exact h d hd
 exact h2 d hd
theorem Dig.set {l:List Nat} (h:Dig l) (i:Nat) {x:Nat} (hx:x<B):Dig (l.set i x):=fun d hd=>by
 rcases List.mem_or_eq_of_mem_set hd with hd | rfl
 .exact h d hd
 exact hx
theorem Dig.getD {l:List Nat} (h:Dig l) (i:Nat):l.getD i 0<B:=by
 by_cases hi:i<l.length
 .have:l.getD i 0=l[i]:=by simp[hi]
  rw[this];exact h _ (lY hi)
 have:l.getD i 0=0:=by simp[hi]
 rw[this];decide
theorem Dig.zeros {n:Nat}:Dig (replicate n 0):=fun d hd=>by
 rw[List.eq_of_mem_replicate hd];decide
theorem s5 (l k:List Nat):val (l++k)=val l+B^l.length*val k:=by
 induction l with
 | nil=>simp[val]
 | cons d l ih=>
  simp only[List.cons_append,val,ih,length_cons,Nat.pow_succ];rw[Nat.mul_add,<-Nat.mul_assoc,Nat.mul_comm B (B^l.length),Nat.add_assoc]
theorem bZ {l:List Nat} (h:Dig l):val l<B^l.length:=by
 induction l with
 | nil=>simp[val]
 | cons d l ih=>
  obtain⟨h1,h2⟩:=h.cons;have:=ih h2;simp only[val,length_cons,Nat.pow_succ];have h3:val l+1<=B^l.length:=this;have h4:(val l+1)*B<=B^l.length*B:=qn _ h3;rw[Nat.add_mul,Nat.mul_comm (val l) B] at h4;omega
theorem Cq (n:Nat):val (replicate n 0)=0:=by
 induction n with
 | zero=>rfl
 | succ n ih=>simp[List.replicate_succ,val,ih]
def ak (n:Nat):List Nat:=if _h:n=0 then [] else n % B::ak (n / B)
termination_by n
decreasing_by exact Nat.div_lt_self (by omega) (by decide)
theorem bR:ak 0=[]:=by rw[ak];simp
theorem q9 {n:Nat} (h:n≠0):ak n=n % B::ak (n / B):=by rw[ak];simp[h]
theorem ar (n:Nat):Dig (ak n):=by
 induction n using Nat.strongRecOn with
 | _ n ih=>
  by_cases h:n=0
  .subst h;rw[bR];exact Dig.nil
  rw[q9 h];exact Dig.mk (Nat.mod_lt _ (by decide)) (ih _ (Nat.div_lt_self (by omega) (by decide)))
theorem ao (n:Nat):val (ak n)=n:=by
 induction n using Nat.strongRecOn with
 | _ n ih=>
  by_cases h:n=0
  .subst h;rw[bR];rfl
  rw[q9 h];simp only[val];rw[ih _ (Nat.div_lt_self (by omega) (by decide))];exact Nat.mod_add_div n B
def ma (l:List Nat):List Nat:=if h:0<l.length then(if l.getD (l.length - 1) 0=0 then ma (l.take (l.length - 1)) else l) else l
termination_by l.length
decreasing_by simp[length_take];omega
theorem sJ {d:Nat} {l:List Nat} (hd:d<B) (h:d≠0\/val l≠0):ak (val (d::l))=d::ak (val l):=by
 have e7:val (d::l)≠0:=by
  simp only[val];rcases h with h | h
  .omega
  have:0<B*val l:=Nat.mul_pos (by decide) (by omega);omega
 rw[q9 e7];have h1:(d+B*val l) % B=d:=by rw[Nat.add_mul_mod_self_left,Nat.mod_eq_of_lt hd]
 have h2:(d+B*val l) / B=val l:=by rw[Nat.add_mul_div_left _ _ (by decide),Nat.div_eq_of_lt hd,Nat.zero_add]
 simp only[val,h1,h2]
theorem nB {l:List Nat} (hd:Dig l) (h:l=[]\/l.getD (l.length - 1) 0≠0):ak (val l)=l:=by
 induction l with
 | nil=>exact bR
 | cons d l ih=>
  obtain⟨h1,h2⟩:=hd.cons;rcases h with h | h
  .cases h
  by_cases hl:l=[]
  .subst hl;simp at h;rw[sJ h1 (.inl h)];simp[val,bR]
  obtain⟨e,k,rfl⟩:=List.exists_cons_of_ne_nil hl;have h3:(e::k).getD ((e::k).length - 1) 0≠0:=by
   simpa using h
  have h4:=ih h2 (.inr h3);have h5:val (e::k)≠0:=by
   intro h0;rw[h0,bR] at h4;cases h4
  rw[sJ h1 (.inr h5),h4]
theorem ud (l:List Nat) (hd:Dig l):ma l=ak (val l):=by
 generalize hn:l.length=n
 induction n generalizing l with
 | zero=>
  have:=List.eq_nil_of_length_eq_zero hn;subst this;rw[ma];simp[val,bR]
 | succ n ih=>
  rw[ma,dif_pos (by omega)];split
  .rename_i h0;rw[ih _ (hd.take _) (by simp[hn])];have:l=l.take (l.length - 1)++[0]:=by
    have h1:l.drop (l.length - 1)=[0]:=by
     have aL:l.length - 1<l.length:=by omega
     rw[drop_eq_getElem_cons aL];have h2:l.getD (l.length - 1) 0=l[l.length - 1]:=by simp[aL]
     rw[<-h2,h0];simp;omega
    conv=>lhs;rw[<-List.take_append_drop (l.length - 1) l,h1]
   conv=>rhs;rw[this,s5]
   simp[val]
  rename_i h0;exact(nB hd (.inr h0)).symm
theorem aI {n k:Nat} (h:n<B^k):(ak n).length<=k:=by
 induction k generalizing n with
 | zero=>
  have:n=0:=by simpa using h
  subst this;rw[bR];simp
 | succ k ih=>
  by_cases h0:n=0
  .subst h0;rw[bR];simp
  rw[q9 h0,length_cons];have:n / B<B^k:=by
   rw[Nat.div_lt_iff_lt_mul (by decide)];rw[Nat.pow_succ] at h;exact h
  have:=ih this;omega
theorem b9 {n:Nat}:n<B^(ak n).length:=by
 have:=bZ (ar n);rwa [ao] at this
theorem aO (l:List Nat) (i:Nat):val (l.take (i+1))=val (l.take i)+B^i*l.getD i 0:=by
 by_cases hi:i<l.length
 .rw[List.take_succ_eq_append_getElem hi,s5];have h1:l.getD i 0=l[i]:=by simp[hi]
  have h2:(l.take i).length=i:=by rw[length_take];omega
  rw[h1,h2];simp[val]
 rw[dm (by omega),dm (by omega)];have h1:l.getD i 0=0:=by simp[hi]
 rw[h1];simp
theorem cR {l:List Nat} {i:Nat} (hi:i<l.length) (x:Nat):val ((l.set i x).take (i+1))=val (l.take i)+B^i*x:=by
 rw[aO];have h1:(l.set i x).take i=l.take i:=by rw[List.take_set_of_le (qp i)]
 have h2:(l.set i x).getD i 0=x:=by simp[hi]
 rw[h1,h2]
theorem a8 {l:List Nat} {n:Nat} (h:l.length<=n):val (l.take n)=val l:=by rw[dm h]
theorem k8 (p s:Nat):p*(s % B)+s / B*(p*B)=p*s:=by
 conv=>rhs;rw[<-Nat.mod_add_div s B]
 rw[Nat.mul_add,<-Nat.mul_assoc p B,Nat.mul_comm (s / B) (p*B)]
theorem kL {x y:Nat} (h:(ak x).length<(ak y).length):x<y:=by
 rcases Nat.lt_or_ge x y with h1 | h1
 .exact h1
 have h2:y<B^(ak x).length:=FD h1 b9;have:=aI h2;omega
theorem jP (l:List Nat) (k:Nat) (hk:k<=l.length):val l=val (l.take k)+B^k*val (l.drop k):=by
 conv=>lhs;rw[<-List.take_append_drop k l,s5]
 rw[length_take,Nat.min_eq_left hk]
theorem ue {p q:List Nat} {j:Nat} (hp:Dig p) (hjp:j<p.length) (hjq:j<q.length) (hd:p.drop (j+1)=q.drop (j+1)) (h:p.getD j 0<q.getD j 0):val p<val q:=by
 rw[jP p (j+1) (by omega),jP q (j+1) (by omega),hd,aO,aO];have h1:=bZ (hp.take j);rw[length_take,Nat.min_eq_left (by omega)] at h1;have h2:B^j*(p.getD j 0+1)<=B^j*q.getD j 0:=Nat.mul_le_mul_left _ h;rw[Nat.mul_add] at h2;omega
def pH (x y:Nat):Int:=if x<y then -1 else if y<x then 1 else 0
theorem q_ {x y:Nat} (h:x<y):pH x y= -1:=by simp[pH,h]
theorem yw {x y:Nat} (h:y<x):pH x y=1:=by simp[pH,h];omega
theorem Li {x:Nat}:pH x x=0:=by simp[pH]
def N (n:Nat):AM.FV:= .sl (AM.u32s (ak n))
end Go.Pl
namespace Go.Proofs.YtjjbkjgifdhlcaaGreat
open Go.AM Go.Pl
set_option maxRecDepth 100000
set_option maxHeartbeats 1000000
theorem iV (l:List Nat) (hd:Dig l) (hl:l.length<1000000000000):Den Tryz.prog 178 [] [.fv (.sl (u32s l))] [] (.fv (N (val l))):=by
 refine dq Tryz.func178 20 0 ?_;refine aW ?_;refine wl (α:=List Nat) (fun l=>⟨.fv (.sl (u32s l)):: .any:: .nilsl::replicate 18 .any,[]⟩) List.length (fun k=>k.length<1000000000000/\ma k=ma l) l ?_ ?_ ?_
 .refine wk [] List.nodup_nil rfl ?_ ?_
  .simp[bh,dF,cw]
  trivial
 .exact⟨hl,rfl⟩
 rintro k ⟨hk,pL⟩;refine aN ?_;refine bM ?_ ?_
 .intro h1 h2;refine ae h2 ?_;refine⟨by omega,?_⟩;refine Br.beqInt ?_ ?_
  .intro h3 h4;refine ae h4 ?_;refine⟨by omega,?_⟩;refine ap (k.take (k.length - 1)) (by simp;omega) ?_ ⟨by simp;omega,?_⟩
   .refine wk [] List.nodup_nil rfl ?_ ?_
    .have:((k.length:Int) - 1).toNat=k.length - 1:=by omega
     simp[bh,dF,cw,this]
    trivial
   rw[<-pL];rw[ma.eq_def k,dif_pos (by omega),if_pos];have:((k.length:Int) - 1).toNat=k.length - 1:=by omega
   rw[this] at h3;simpa using h3
  intro h3 h4;refine ae h4 ?_;refine a_ ?_;simp(disch:=omega) only[N,St.get,t6,cY,yO,vm,eo,dZ,Option.map_some,qk,getD_cons_zero];rw[<-ud l hd,<-pL,ma.eq_def,dif_pos (by omega),if_neg];have:((k.length:Int) - 1).toNat=k.length - 1:=by omega
  rw[this] at h3;simpa using h3
 intro h1 h2;refine ae h2 ?_;refine a_ ?_;simp(disch:=omega) only[N,St.get,t6,cY,yO,vm,eo,dZ,Option.map_some,qk,getD_cons_zero];rw[<-ud l hd,<-pL,ma.eq_def,dif_neg (by omega)]
theorem X5 (xs:List (List FV)) (hs: ∀ y∈xs,y.length=1) (hl:xs.length<1000000000000):Den Tryz.prog 214 [] [.fv (.sl xs)] [] (.fv (.sl xs)):=by
 cases xs with
 | nil=>
  refine Den.empty (pre:=[]) (post:=[]) ?_ (fun ad cap=>?_)
  .refine dq Tryz.func214 7 0 ?_;refine aW ?_;refine a_ ?_;exact Ih
  .refine dq Tryz.func214 7 0 ?_;refine aW ?_;refine a_ ?_;exact Ih
 | cons x xs=>
  refine dq Tryz.func214 7 0 ?_;refine aW ?_;refine⟨⟨hs,by simp only[length_cons] at hl;omega⟩,?_⟩;refine a_ ?_;refine sA ?_;simp
theorem Lj (a b c:Nat) (ha:a<4294967296) (hb:b<4294967296) (hc:c<=1):Den Tryz.prog 180 [] [.int .u32 a,.int .u32 b,.int .u32 c] [] (.tup [.int .u32 ((a+b+c) % 4294967296:Nat),.int .u32 ((a+b+c) / 4294967296:Nat)]):=by
 refine dq Tryz.func180 19 0 ?_;refine aW ?_;refine⟨by omega,?_⟩;refine a_ ?_;refine sA ?_;simp[dV]
theorem aea (a b:Nat) (ha:a<4294967296) (hb:b<4294967296):Den Tryz.prog 179 [] [.int .u32 a,.int .u32 b] [] (.tup [.int .u32 ((a*b) / 4294967296:Nat),.int .u32 ((a*b) % 4294967296:Nat)]):=by
 have hm:a*b<18446744073709551616:=by
  have:a*b<=4294967295*4294967295:=Nat.mul_le_mul (by omega) (by omega);omega
 have m_:(a:Int)*b=((a*b:Nat):Int):=by simp
 refine dq Tryz.func179 15 0 ?_;refine bw m_ ?_;refine⟨by omega,?_⟩;refine a_ ?_;refine sA ?_;simp[dV]
theorem aeb (a b:List Nat) (ha:Dig a) (hb:Dig b) (yk:a.length<100000000000) (yQ:b.length<100000000000):Den Tryz.prog 175 [] [.fv (.sl (u32s a)),.fv (.sl (u32s b))] [] (.fv (N (val a+val b))):=by
 refine dq Tryz.func175 52 0 ?_;refine WA.assoc ?_;refine WA.cut (α:=List Nat×List Nat×List PV) (fun⟨p,q,z⟩=>⟨.fv (.sl (u32s p)):: .fv (.sl (u32s q)):: .any:: .any:: .nilsl:: .any:: .any:: .any:: .any:: .any::(z++replicate 37 .any),[]⟩)
  (fun⟨p,q,z⟩=>Dig p/\Dig q/\q.length<=p.length/\p.length<100000000000/\val p+val q=val a+val b/\z.length=7) ?_ ?_
 .refine aW ?_;refine bM ?_ ?_
  .intro h1 h2;refine ae h2 ?_;refine Mid.mk (b,a,[_,_,_,_,_,_,_]) rfl ⟨hb,ha,by dsimp only;omega,yQ,by dsimp only;omega,rfl⟩
  intro h1 h2;refine ae h2 ?_;refine Mid.mk (a,b,[_,_,_,_,_,_,_]) rfl ⟨ha,hb,by dsimp only;omega,yk,rfl,rfl⟩
 rintro⟨p,q,z⟩ ⟨hp,hq,aF,Wj,hv,hz⟩;obtain⟨z0,z1,z2,z3,z4,z5,z6,rfl⟩: ∃ z0 z1 z2 z3 z4 z5 z6,z=[z0,z1,z2,z3,z4,z5,z6]:=by
  match z,hz with
  | [z0,z1,z2,z3,z4,z5,z6],_=>exact⟨_,_,_,_,_,_,_,rfl⟩
 refine aW ?_;refine⟨by omega,?_⟩;have hn:((p.length:Int)+1).toNat=p.length+1:=by omega
 refine wl (α:=Nat×Nat×List Nat) (fun⟨i,c,out⟩=>⟨.fv (.sl (u32s p)):: .fv (.sl (u32s q)):: .any:: .any:: .nilsl:: .lsl 0 0 (p.length+1) 1:: .int .u32 c::(replicate 14 .any++ .fv (.sl (u32s p)):: .int .i64 p.length:: .int .i64 i::replicate 30 .any),[.row true (u32s out)]⟩)
  (fun⟨i,_,_⟩=>p.length - i)
  (fun⟨i,c,out⟩=>i<=p.length/\c<=1/\out.length=p.length+1/\Dig out/\val (out.take i)+c*B^i=val (p.take i)+val (q.take i)) (0,0,replicate (p.length+1) 0) ?_ ?_ ?_
 .refine eH [0] ?_ ?_
  .simp[bh,dF,cw,hn]
  simp[d_,fD,hn]
 .exact⟨by omega,by omega,by simp,Dig.zeros,by simp[val]⟩
 rintro⟨i,c,out⟩ ⟨hi,hc,ho,hd,ow⟩;refine aW ?_;refine bM ?_ ?_
 .intro h1 h2;refine ae h2 ?_;refine⟨by omega,?_⟩;have T':=hp.getD i;have Ua:=hq.getD i;have ck:=cR (l:=out) (i:=i) (by omega) ((p.getD i 0+q.getD i 0+c) % 4294967296);have fL:=k8 (B^i) (p.getD i 0+q.getD i 0+c);have Wk:=aO p i;have htq:=aO q i;have dM:val ((out.set i ((p.getD i 0+q.getD i 0+c) % 4294967296)).take (i+1))+(p.getD i 0+q.getD i 0+c) / 4294967296*B^(i+1)=val (p.take (i+1))+val (q.take (i+1)):=by
   rw[Nat.pow_succ,ck,Wk,htq];rw[Nat.mul_add,Nat.mul_add] at fL;rw[Nat.mul_comm (B^i) c] at fL;simp only[B] at*;omega
  have pM:Dig (out.set i ((p.getD i 0+q.getD i 0+c) % 4294967296)):=hd.set i (Nat.mod_lt _ (by decide));have pz:(p.getD i 0+q.getD i 0+c) / 4294967296<=1:=by simp only[B] at*;omega
  simp only[B] at T' Ua;have fin: ∀ x:Int,x=((q.getD i 0:Nat):Int)->bJ [Ob.row true (u32s out)] ([]++[PV.fv (FV.lit (Value.int IntKind.u32 ((p.getD i 0:Nat):Int))),PV.int IntKind.u32 x,PV.int IntKind.u32 (c:Int)]++[])=some [.int .u32 ((p.getD i 0:Nat):Int),.int .u32 ((q.getD i 0:Nat):Int),.int .u32 (c:Int)]:=by
   intro x hx;subst hx;rfl
  refine bM ?_ ?_
  .intro h3 h4;refine ae h4 ?_;refine⟨by omega,?_⟩;refine gp (Lj _ _ _ T' Ua hc) (fin _ rfl) ?_;refine aN ?_;refine⟨by omega,by omega,?_⟩;refine aA (i+1,(p.getD i 0+q.getD i 0+c) / 4294967296,out.set i ((p.getD i 0+q.getD i 0+c) % 4294967296)) ?_ ⟨by omega,pz,by simp[ho],pM,dM⟩;exact bx [0]
  intro h3 h4;have h0:(0:Int)=((q.getD i 0:Nat):Int):=by
   have:q.getD i 0=0:=by rw[qa,List.getElem?_eq_none (by omega)];rfl
   rw[this];rfl
  refine ae h4 ?_;refine gp (Lj _ _ _ T' Ua hc) (fin _ h0) ?_;refine aN ?_;refine⟨by omega,by omega,?_⟩;refine aA (i+1,(p.getD i 0+q.getD i 0+c) / 4294967296,out.set i ((p.getD i 0+q.getD i 0+c) % 4294967296)) ?_ ⟨by omega,pz,by simp[ho],pM,dM⟩;exact bx [0]
 intro h1 h2;refine ae h2 ?_;have Wl:i=p.length:=by omega
 subst Wl;refine⟨by omega,by omega,?_⟩;have PW:val (out.set p.length c)=val a+val b:=by
  have h3:=cR (l:=out) (i:=p.length) (by omega) c;rw[a8 (by simp;omega)] at h3;rw[a8 (qp _),a8 aF] at ow;rw[h3,<-hv,<-ow,Nat.mul_comm]
 have hdf:Dig (out.set p.length c):=hd.set _ (by simp only[B];omega);refine gp (iV (out.set p.length c) hdf (by simp;omega)) ?_ ?_
 .simp[bJ,eT,eo,dZ,aR,ho];rw[dm (by simp[aR,ho])]
 refine aN ?_;refine a_ ?_;refine sA ?_;rw[PW]
end Go.Proofs.YtjjbkjgifdhlcaaGreat
namespace Go.Pl
open Go.AM
theorem D3 {x y:Nat} (k:Nat) (hx:x % 2^k=0) (hy:y<2^k):x||| y=x+y:=by
 obtain⟨h,rfl⟩: ∃ h,x=2^k*h:=⟨x / 2^k,by have:=Nat.mod_add_div x (2^k);omega⟩;exact(Nat.two_pow_add_eq_or_of_lt hy h).symm
theorem eB {x:Int} (h:0<=x/\x<18446744073709551616):(BitVec.ofInt IntKind.u64.bits x).toNat=x.toNat:=by
 show(BitVec.ofInt 64 x).toNat=x.toNat;rw[BitVec.toNat_ofInt];have:((2^64:Nat):Int)=18446744073709551616:=by decide
 rw[this];omega
theorem sK {x:Int} (h:0<=x/\x<4294967296):(BitVec.ofInt IntKind.u32.bits x).toNat=x.toNat:=by
 show(BitVec.ofInt 32 x).toNat=x.toNat;rw[BitVec.toNat_ofInt];have:((2^32:Nat):Int)=4294967296:=by decide
 rw[this];omega
theorem yx (z:BitVec IntKind.u64.bits):IntKind.u64.wrap (z.toNat:Int)=(z.toNat:Int):=by
 have:z.toNat<2^64:=z.isLt;rw[d8 (by omega)]
theorem Lk (z:BitVec IntKind.u32.bits):IntKind.u32.wrap (z.toNat:Int)=(z.toNat:Int):=by
 have:z.toNat<2^32:=z.isLt;rw[dD (by omega)]
theorem FF {w:Nat} (z:BitVec w):BitVec.ofInt w (z.toNat:Int)=z:=by
 rw[BitVec.ofInt_natCast,BitVec.ofNat_toNat,BitVec.setWidth_eq]
theorem xd {x y:Int} (hx:0<=x/\x<18446744073709551616/\x % 4294967296=0) (hy:0<=y/\y<4294967296):
 IntKind.u64.wrap ((BitVec.ofInt IntKind.u64.bits x||| BitVec.ofInt IntKind.u64.bits y).toNat:Int)=x+y:=by
 rw[yx,BitVec.toNat_or,eB (by omega),eB (by omega),D3 32 (by omega) (by omega)]
 omega
theorem X6 {x y:Int} (hy:0<=y/\y<18446744073709551616/\y % 4294967296=0) (hx:0<=x/\x<4294967296):
 IntKind.u64.wrap ((BitVec.ofInt IntKind.u64.bits x||| BitVec.ofInt IntKind.u64.bits y).toNat:Int)=x+y:=by
 rw[yx,BitVec.toNat_or,eB (by omega),eB (by omega),Nat.or_comm,D3 32 (by omega) (by omega)]
 omega
theorem Qj {x:Int} (hx:0<=x/\x<18446744073709551616):
 IntKind.u64.wrap ((BitVec.ofInt IntKind.u64.bits x&&& BitVec.ofInt IntKind.u64.bits 4294967295).toNat:Int)=x % 4294967296:=by
 rw[yx,BitVec.toNat_and,eB (by omega),eB (by omega)]
 have:(4294967295:Int).toNat=2^32 - 1:=by decide
 rw[this,Nat.and_two_pow_sub_one_eq_mod]
 omega
theorem aec (z:BitVec 32):z.toNat / 2147483648=if z.msb then 1 else 0:=by
 have h1:z.toNat<2^32:=z.isLt;rw[BitVec.msb_eq_decide];by_cases h:2^(32 - 1)<=z.toNat
 .simp only[h,decide_true,if_true];omega
 simp only[h,decide_false];simp;omega
theorem Qk {v v0 P c x y o lo ca Q Bi Bk:Nat} (hP:P=Bi*Bk) (hv:v+c*P=v0+x*Q*Bi) (hs:lo+ca*4294967296=x*y+o+c):
 v+P*lo+ca*(P*4294967296)=v0+P*o+x*(Q+Bk*y)*Bi:=by
 subst hP
 grind
theorem Nr {m o c:Nat} (hm:m<=18446744065119617025) (ho:o<4294967296) (hc:c<4294967296):
 ((m % 4294967296+o+0) % 4294967296+c+0) % 4294967296+(m / 4294967296+(m % 4294967296+o+0) / 4294967296+((m % 4294967296+o+0) % 4294967296+c+0) / 4294967296)*4294967296=m+o+c/\
 m / 4294967296+(m % 4294967296+o+0) / 4294967296+((m % 4294967296+o+0) % 4294967296+c+0) / 4294967296<4294967296:=by
 omega
theorem ft {l:List Nat} {j:Nat} (h:j<l.length):val (l.drop j)=l.getD j 0+B*val (l.drop (j+1)):=by
 rw[drop_eq_getElem_cons h];simp[val,h]
theorem oy {l:List Nat} {j x:Nat} (h:j<l.length):val ((l.set j x).drop j)=x+B*val (l.drop (j+1)):=by
 rw[ft (by simpa using h)];have h1:(l.set j x).getD j 0=x:=by simp[h]
 rw[h1,List.drop_set_of_lt (by omega)]
theorem ajy {x y:Nat} (k:Nat) (hx:x<2^k) (hy:y % 2^k=0) (qW:x<4294967296) (wR:y<4294967296):
 IntKind.u32.wrap ((BitVec.ofInt IntKind.u32.bits (x:Int)||| BitVec.ofInt IntKind.u32.bits (y:Int)).toNat:Int)=((x+y:Nat):Int):=by
 rw[Lk,BitVec.toNat_or,sK (by omega),sK (by omega),Int.toNat_natCast,Int.toNat_natCast,Nat.or_comm,D3 k hy hx,Nat.add_comm]
theorem FG {d k:Nat} (hk:k<=32):(d*2^k) % 4294967296 % 2^k=0:=by
 have h:4294967296=2^k*2^(32 - k):=by
  rw[<-Nat.pow_add,show k+(32 - k)=32 by omega]
 rw[h,Nat.mod_mul_right_mod,Nat.mul_mod_left]
theorem FH {a k:Nat} (hk:k<=32) (h:a % 2^k=0) (ha:a<4294967296):a+2^k<=4294967296:=by
 have hb:4294967296=2^k*2^(32 - k):=by
  rw[<-Nat.pow_add,show k+(32 - k)=32 by omega]
 obtain⟨t,rfl⟩: ∃ t,a=2^k*t:=⟨a / 2^k,by have:=Nat.mod_add_div a (2^k);omega⟩;have h1:2^k*t<2^k*2^(32 - k):=by rw[<-hb];exact ha
 have h2:t<2^(32 - k):=Nat.lt_of_mul_lt_mul_left h1;have h3:2^k*(t+1)<=2^k*2^(32 - k):=Nat.mul_le_mul_left _ h2;rw[Nat.mul_add,Nat.mul_one,<-hb] at h3;exact h3
def iO:Nat->Nat->List Nat
 | 0,_=>[]
 | n+1,x=>x % B::iO n (x / B)
theorem c9 (n x:Nat):(iO n x).length=n:=by
 induction n generalizing x with
 | zero=>rfl
 | succ n ih=>simp[iO,ih]
theorem k9 (n x:Nat):Dig (iO n x):=by
 induction n generalizing x with
 | zero=>exact Dig.nil
 | succ n ih=>exact Dig.mk (Nat.mod_lt _ (by decide)) (ih _)
theorem D4 {l:List Nat} (h:Dig l):l=iO l.length (val l):=by
 induction l with
 | nil=>rfl
 | cons d l ih=>
  obtain⟨h1,h2⟩:=h.cons;simp only[length_cons,iO,val];rw[Nat.add_mul_mod_self_left,Nat.mod_eq_of_lt h1,Nat.add_mul_div_left _ _ (by decide),Nat.div_eq_of_lt h1,Nat.zero_add,<-ih h2]
theorem k_ {n x:Nat} (h:x<B^n):val (iO n x)=x:=by
 induction n generalizing x with
 | zero=>simp at h;subst h;rfl
 | succ n ih=>
  have h1:x / B<B^n:=by
   rw[Nat.div_lt_iff_lt_mul (by decide)];rw[Nat.pow_succ] at h;exact h
  simp only[iO,val];rw[ih h1];exact Nat.mod_add_div x B
theorem Ql (a b c:Nat) (ha:a<4294967296) (hb:b<4294967296) (hc:c<=1):
 ((~~~(BitVec.ofNat 32 a)&&& BitVec.ofNat 32 b||| ~~~(BitVec.ofNat 32 a^^^BitVec.ofNat 32 b)&&& BitVec.ofNat 32 (4294967296+a - b - c)):BitVec 32).toNat / 2147483648=if a<b+c then 1 else 0:=by
 rw[aec]
 simp only[BitVec.msb_or,BitVec.msb_and,BitVec.msb_not,BitVec.msb_xor]
 simp only[BitVec.msb_eq_decide,BitVec.toNat_ofNat]
 have e1:a % 2^32=a:=Nat.mod_eq_of_lt (by omega)
 have e2:b % 2^32=b:=Nat.mod_eq_of_lt (by omega)
 rw[e1,e2]
 generalize hd:(4294967296+a - b - c) % 2^32=d
 by_cases h1:2^(32 - 1)<=a<;>by_cases h2:2^(32 - 1)<=b<;>by_cases h3:2^(32 - 1)<=d<;>by_cases h4:a<b+c<;>simp[h1,h2,h3,h4]<;>omega
theorem ZF:(if IntKind.u32.signed=true then(-1:Int) else IntKind.u32.max)=4294967295:=by decide
theorem ajz (x:BitVec IntKind.u32.bits):BitVec.ofInt IntKind.u32.bits 4294967295^^^x= ~~~x:=by
 have:(BitVec.ofInt IntKind.u32.bits 4294967295)=BitVec.allOnes IntKind.u32.bits:=by decide
 rw[this,BitVec.allOnes_xor]
theorem ZG (n:Nat):BitVec.ofInt IntKind.u32.bits (n:Int)=BitVec.ofNat IntKind.u32.bits n:=BitVec.ofInt_natCast _ _
end Go.Pl
namespace Go.Proofs.YtjjbkjgifdhlcaaGreat
open Go.AM Go.Pl
set_option maxRecDepth 100000
set_option maxHeartbeats 1000000
theorem bQ (n:Nat):N n= .sl (u32s (ak n)):=rfl
theorem FI (l:List Nat) (hd:Dig l) (hl:l.length<1000000000000):Den Tryz.prog 181 [] [.fv (.sl (u32s l))] [] (.fv (N (val l))):=by
 refine dq Tryz.func181 5 0 ?_;refine aW ?_;refine gp (iV l hd hl) rfl ?_;refine aN ?_;have hlv:(ak (val l)).length<=l.length:=aI (bZ hd);refine gp (X5 (u32s (ak (val l))) (by simp[u32s]) (by simp[u32s];omega)) rfl ?_;refine aN ?_;refine a_ ?_;simp(disch:=omega) only[N,St.get,t6,cY,yO,vm,eo,dZ,Option.map_some,qk,getD_cons_zero]
theorem FJ (a b:List Nat) (ha:Dig a) (hb:Dig b) (yk:a.length<100000000000) (yQ:b.length<100000000000):Den Tryz.prog 176 [] [.fv (.sl (u32s a)),.fv (.sl (u32s b))] [] (.int .i64 (pH (val a) (val b))):=by
 have hxa:(ak (val a)).length<=a.length:=aI (bZ ha);have mG:(ak (val b)).length<=b.length:=aI (bZ hb);have hda:=ar (val a);have Wm:=ar (val b);refine dq Tryz.func176 45 0 ?_;refine aW ?_;refine gp (iV a ha (by omega)) rfl ?_;refine aN ?_;refine gp (iV b hb (by omega)) rfl ?_;refine ae @bQ ?_;refine Br.bneInt ?_ ?_
 .intro h1 h2;refine ae h2 ?_;refine bM ?_ ?_
  .intro h3 h4;refine ae h4 ?_;refine a_ ?_;refine sA ?_;rw[q_ (kL (by omega))]
  intro h3 h4;refine ae h4 ?_;refine a_ ?_;refine sA ?_;rw[yw (kL (by omega))]
 intro h1 h2;refine ae h2 ?_;generalize hp:ak (val a)=p at*;generalize hq:ak (val b)=q at*;refine wl (α:=Nat) (fun k=>⟨.fv (.sl (u32s p)):: .fv (.sl (u32s q)):: .any:: .any:: .int .i64 0:: .int .i64 ((k:Int) - 1)::replicate 41 .any,[]⟩) (fun k=>k) (fun k=>k<=p.length/\p.drop k=q.drop k) p.length ?_ ?_ ?_
 .exact bx []
 .exact⟨qp _,by rw[List.drop_of_length_le (qp _),List.drop_of_length_le (by omega)]⟩
 rintro k ⟨hk,Pb⟩;refine aW ?_;refine bM ?_ ?_
 .intro h3 h4;refine ae h4 ?_;refine dw (by kernel_rfl) ?_;refine aN ?_;refine⟨by omega,by omega,?_⟩;obtain⟨j,rfl⟩: ∃ j,k=j+1:=⟨k - 1,by omega⟩;have hj:(((j+1:Nat):Int) - 1).toNat=j:=by omega
  rw[hj];have Cc:val p=val a:=by rw[<-hp,ao]
  have Ij:val q=val b:=by rw[<-hq,ao]
  refine bM ?_ ?_
  .intro h5 h6;refine ae h6 ?_;refine a_ ?_;refine sA ?_;rw[<-Cc,<-Ij,q_ (ue hda (by omega) (by omega) Pb (by omega))]
  intro h5 h6;refine ae h6 ?_;refine dw (by kernel_rfl) ?_;refine ae hj ?_;refine⟨by omega,by omega,?_⟩;refine bM ?_ ?_
  .intro h7 h8;refine ae h8 ?_;refine a_ ?_;refine sA ?_;rw[<-Cc,<-Ij,yw (ue Wm (by omega) (by omega) Pb.symm (by omega))]
  intro h7 h8;refine ae h8 ?_;refine aA j ?_ ⟨by omega,?_⟩
  .exact bx []
  have hpj:p.drop j=p.getD j 0::p.drop (j+1):=by rw[drop_eq_getElem_cons (by omega)];simp[show j<p.length by omega]
  have Y3:q.drop j=q.getD j 0::q.drop (j+1):=by rw[drop_eq_getElem_cons (by omega)];simp[show j<q.length by omega]
  rw[hpj,Y3,Pb,show p.getD j 0=q.getD j 0 by omega]
 intro h3 h4;refine ae h4 ?_;refine a_ ?_;refine sA ?_;have Wn:k=0:=by omega
 subst Wn;simp only[List.drop_zero] at Pb;subst Pb;have:val a=val b:=by rw[<-ao (val a),hp,<-hq,ao]
 rw[this,Li]
theorem ZH (h l d:Nat) (hh:h<4294967296) (hl:l<4294967296) (hd:d<4294967296) (aL:h<d):
 Den Tryz.prog 247 [] [.int .u32 h,.int .u32 l,.int .u32 d] [] (.tup [.int .u32 ((h*4294967296+l) / d:Nat),.int .u32 ((h*4294967296+l) % d:Nat)]):=by
 have hq:(h*4294967296+l) / d<4294967296:=by
  rw[Nat.div_lt_iff_lt_mul (by omega)];have:(h+1)*4294967296<=d*4294967296:=qn _ aL;rw[Nat.mul_comm 4294967296 d];omega
 have hr:(h*4294967296+l) % d<d:=Nat.mod_lt _ (by omega)
 have e1:((h:Int)*4294967296+l) / d=(((h*4294967296+l) / d:Nat):Int):=by
  rw[Int.natCast_ediv,Int.natCast_add,Int.natCast_mul];rfl
 have e2:((h:Int)*4294967296+l) % d=(((h*4294967296+l) % d:Nat):Int):=by
  rw[Int.natCast_emod,Int.natCast_add,Int.natCast_mul];rfl
 generalize (h*4294967296+l) / d=Q at*
 generalize (h*4294967296+l) % d=R at*
 refine dq Tryz.func247 30 0 ?_
 refine aW ?_
 refine Br.bneInt ?_ ?_
 .intro h1 h2
  refine ae h2 ?_
  refine bM ?_ ?_
  .intro h3 h4
   omega
  intro h3 h4
  refine ae (aB h4 @xd) ?_
  refine⟨by omega,?_⟩
  refine dw (by kernel_rfl) ?_
  refine ae (aB e1 e2) ?_
  refine⟨by omega,by omega,?_⟩
  refine a_ ?_
  exact Ih
 intro h1 h2
 omega
theorem ZI (a b c:Nat) (ha:a<4294967296) (hb:b<4294967296) (hc:c<=1):Den Tryz.prog 213 [] [.int .u32 a,.int .u32 b,.int .u32 c] []
 (.tup [.int .u32 ((4294967296+a - b - c) % 4294967296:Nat),.int .u32 (if a<b+c then 1 else 0:Nat)]):=by
 have hw:IntKind.u32.wrap (IntKind.u32.wrap ((a:Int) - b) - c)=((4294967296+a - b - c) % 4294967296:Nat):=by
  rw[dV,dV];omega
 have key:=Ql a b c ha hb hc
 refine dq Tryz.func213 22 0 ?_
 refine bw hw ?_
 refine⟨by omega,?_⟩
 refine a_ ?_
 simp(disch:=omega) only[ZF,Lk,FF,ajz,ZG,St.get,t6,cY,yO,yi,vm,eo,dZ,Option.map_some,qk,getD_cons_zero]
 have Ik:BitVec.ofNat 32 ((4294967296+a - b - c) % 4294967296)=BitVec.ofNat 32 (4294967296+a - b - c):=by
  apply BitVec.eq_of_toNat_eq;simp
 rw[<-Ik] at key
 have k2:=congrArg (fun z:Nat=>(z:Int)) key
 simp only[Int.natCast_ediv] at k2
 exact congrArg (fun z:Int=>some (PV.tup [PV.int .u32 (((4294967296+a - b - c) % 4294967296:Nat):Int),PV.int .u32 z])) k2
theorem ug {x y:Nat} (h:x<=y):(ak x).length<=(ak y).length:=
 aI (FD h b9)
theorem aih (a b:List Nat) (ha:Dig a) (hb:Dig b) (yk:a.length<100000000000) (yQ:b.length<100000000000) (aL:val a<val b):
 Den Tryz.prog 177 [] [.fv (.sl (u32s a)),.fv (.sl (u32s b))] [] (.tup [.fv (.sl []),.int .i64 1]):=by
 refine dq Tryz.func177 48 0 ?_
 refine aW ?_
 refine gp (FJ a b ha hb yk yQ) rfl ?_
 simp -dsimp(disch:=omega) only[q_ aL,↓reduceIte,ru]
 refine bM ?_ ?_
 .intro h1 h2
  refine ae h2 ?_
  refine a_ ?_
  exact Ih
 intro h1 h2
 omega
theorem X7 (a b:List Nat) (ha:Dig a) (hb:Dig b) (yk:a.length<100000000000) (yQ:b.length<100000000000) (dP:val b<=val a):
 Den Tryz.prog 177 [] [.fv (.sl (u32s a)),.fv (.sl (u32s b))] [] (.tup [.fv (N (val a - val b)),.int .i64 0]):=by
 have hxa:(ak (val a)).length<=a.length:=aI (bZ ha)
 have mG:(ak (val b)).length<=(ak (val a)).length:=ug dP
 have hp:=ar (val a)
 have hq:=ar (val b)
 have Cc:=ao (val a)
 have Ij:=ao (val b)
 have Cd:decide (pH (val a) (val b)<0)=false:=by
  unfold pH;rw[if_neg (by omega)];split<;>simp
 refine dq Tryz.func177 48 0 ?_
 refine aW ?_
 refine gp (FJ a b ha hb yk yQ) rfl ?_
 refine ae Cd ?_
 refine gp (iV a ha (by omega)) rfl ?_
 refine aN ?_
 refine gp (iV b hb (by omega)) rfl ?_
 refine ae @bQ ?_
 generalize ak (val a)=p at*
 generalize ak (val b)=q at*
 refine⟨by omega,?_⟩
 refine wl (α:=Nat×Nat×List Nat) (fun⟨i,c,out⟩=>⟨.fv (.sl (u32s p)):: .fv (.sl (u32s q)):: .any:: .any:: .nilsl:: .any:: .lsl 0 0 p.length 1:: .int .u32 c::(replicate 14 .any++ .fv (.sl (u32s p)):: .int .i64 p.length:: .int .i64 i::replicate 25 .any),[.row true (u32s out)]⟩)
  (fun⟨i,_,_⟩=>p.length - i)
  (fun⟨i,c,out⟩=>i<=p.length/\c<=1/\out.length=p.length/\Dig out/\val (out.take i)+val (q.take i)=val (p.take i)+c*B^i) (0,0,replicate p.length 0) ?_ ?_ ?_
 .exact bx [0]
 .exact⟨by omega,by omega,by simp,Dig.zeros,by simp[val]⟩
 rintro⟨i,c,out⟩ ⟨hi,hc,ho,hd,ow⟩
 refine aW ?_
 refine bM ?_ ?_
 .intro h1 h2
  refine ae h2 ?_
  refine⟨by omega,?_⟩
  have T':=hp.getD i
  have Ua:=hq.getD i
  simp only[B] at T' Ua
  have ck:=cR (l:=out) (i:=i) (by omega) ((4294967296+p.getD i 0 - q.getD i 0 - c) % 4294967296)
  have Wk:=aO p i
  have htq:=aO q i
  have pM:Dig (out.set i ((4294967296+p.getD i 0 - q.getD i 0 - c) % 4294967296)):=hd.set i (Nat.mod_lt _ (by decide))
  have pz:(if p.getD i 0<q.getD i 0+c then 1 else 0:Nat)<=1:=by split<;>omega
  have ym:(4294967296+p.getD i 0 - q.getD i 0 - c) % 4294967296+q.getD i 0+c=p.getD i 0+(if p.getD i 0<q.getD i 0+c then 1 else 0:Nat)*4294967296:=by
   split<;>omega
  generalize akp:(if p.getD i 0<q.getD i 0+c then 1 else 0:Nat)=c2 at*
  generalize Kr:(4294967296+p.getD i 0 - q.getD i 0 - c) % 4294967296=dg at*
  have dM:val ((out.set i dg).take (i+1))+val (q.take (i+1))=val (p.take (i+1))+c2*B^(i+1):=by
   rw[Nat.pow_succ,ck,Wk,htq];have h3:=congrArg (fun z=>B^i*z) ym;simp only[Nat.mul_add] at h3;rw[Nat.mul_comm c] at ow;rw[<-Nat.mul_assoc (B^i) c2,Nat.mul_comm (B^i) c2,Nat.mul_assoc c2] at h3;have h4:B^i*B=B^i*4294967296:=rfl;rw[h4];omega
  have fin: ∀ x:Int,x=((q.getD i 0:Nat):Int)->bJ [Ob.row true (u32s out)] ([]++[PV.fv (FV.lit (Value.int IntKind.u32 ((p.getD i 0:Nat):Int))),PV.int IntKind.u32 x,PV.int IntKind.u32 (c:Int)]++[])=some [.int .u32 ((p.getD i 0:Nat):Int),.int .u32 ((q.getD i 0:Nat):Int),.int .u32 (c:Int)]:=by
   intro x hx;subst hx;rfl
  have cA:=ZI _ _ _ T' Ua hc
  rw[Kr] at cA
  have Y4:Den Tryz.prog 213 [] [.int .u32 ((p.getD i 0:Nat):Int),.int .u32 ((q.getD i 0:Nat):Int),.int .u32 (c:Int)] [] (.tup [.int .u32 (dg:Int),.int .u32 (c2:Int)]):=by
   rw[akp] at cA;exact cA
  refine bM ?_ ?_
  .intro h3 h4
   refine ae h4 ?_
   refine⟨by omega,?_⟩
   refine gp Y4 (fin _ rfl) ?_
   refine aN ?_
   refine⟨by omega,by omega,?_⟩
   refine aA (i+1,c2,out.set i dg) ?_ ⟨by omega,pz,by simp[ho],pM,dM⟩
   exact bx [0]
  intro h3 h4
  have h0:(0:Int)=((q.getD i 0:Nat):Int):=by
   have:q.getD i 0=0:=by rw[qa,List.getElem?_eq_none (by omega)];rfl
   rw[this];rfl
  refine ae h4 ?_
  refine gp Y4 (fin _ h0) ?_
  refine aN ?_
  refine⟨by omega,by omega,?_⟩
  refine aA (i+1,c2,out.set i dg) ?_ ⟨by omega,pz,by simp[ho],pM,dM⟩
  exact bx [0]
 intro h1 h2
 refine ae h2 ?_
 have Wl:i=p.length:=by omega
 have PW:val out=val a - val b:=by
  rw[Wl,a8 (by omega),a8 mG,a8 (qp _),Cc,Ij] at ow;have h5:=bZ hd;rw[ho] at h5;have h6:c=0:=by
   rcases Nat.eq_zero_or_pos c with h | h
   .exact h
   exfalso;have:c=1:=by omega
   subst this;omega
  subst h6;omega
 refine gp (iV out hd (by omega)) ?_ ?_
 .simp[bJ,eT,eo,dZ,aR,ho]
  rw[dm (by simp[aR,ho])]
 refine aN ?_
 refine a_ ?_
 refine sA ?_
 rw[PW]
theorem X8 (u:Nat) (hu:u<18446744073709551616):Den Tryz.prog 216 [] [.int .u64 u] [] (.fv (N u)):=by
 have hv:val [u % 4294967296,u / 4294967296]=u:=by
  simp only[val,B];omega
 have hd:Dig [u % 4294967296,u / 4294967296]:=by
  intro d hd;simp at hd;rcases hd with rfl | rfl<;>(simp only[B];omega)
 refine dq Tryz.func216 9 0 ?_;refine aW ?_;refine⟨by omega,?_⟩;have:=iV [u % 4294967296,u / 4294967296] hd (by simp);rw[hv] at this;refine gp this ?_ ?_
 .simp[bJ,eT,eo,dZ,u32s,dV]
 refine aN ?_;refine a_ ?_;exact Ih
theorem y9 (a b:List Nat) (ha:Dig a) (hb:Dig b) (yk:a.length<10000000000) (yQ:b.length<10000000000):
 Den Tryz.prog 130 [] [.fv (.sl (u32s a)),.fv (.sl (u32s b))] [] (.fv (N (val a*val b))):=by
 have hxa:(ak (val a)).length<=a.length:=aI (bZ ha)
 have mG:(ak (val b)).length<=b.length:=aI (bZ hb)
 have hp:=ar (val a)
 have hq:=ar (val b)
 have Cc:=ao (val a)
 have Ij:=ao (val b)
 refine dq Tryz.func130 82 0 ?_
 refine aW ?_
 refine gp (iV a ha (by omega)) rfl ?_
 refine aN ?_
 refine gp (iV b hb (by omega)) rfl ?_
 refine ae @bQ ?_
 generalize ak (val a)=p at*
 generalize ak (val b)=q at*
 refine⟨by omega,?_⟩
 have hn:((p.length:Int)+(q.length:Int)).toNat=p.length+q.length:=by omega
 refine wl (α:=Nat×List Nat) (fun⟨i,out⟩=>⟨.fv (.sl (u32s p)):: .fv (.sl (u32s q)):: .any:: .any:: .nilsl:: .lsl 0 0 (p.length+q.length) 1::(replicate 18 .any++ .fv (.sl (u32s p)):: .int .i64 p.length:: .int .i64 i::replicate 57 .any),[.row true (u32s out)]⟩)
  (fun⟨i,_⟩=>p.length - i)
  (fun⟨i,out⟩=>i<=p.length/\out.length=p.length+q.length/\Dig out/\val (out.take (i+q.length))=val (p.take i)*val q) (0,replicate (p.length+q.length) 0) ?_ ?_ ?_
 .refine eH [0] ?_ ?_
  .simp[bh,dF,cw,hn]
  simp[d_,fD,hn]
 .exact⟨by omega,by simp,Dig.zeros,by simp[val,Cq]⟩
 rintro⟨i,yn⟩ ⟨hi,Pc,iS,IX⟩
 refine aW ?_
 refine bM ?_ ?_
 .intro h1 h2
  refine ae h2 ?_
  refine⟨by omega,?_⟩
  have hx:=hp.getD i
  simp only[B] at hx
  generalize Fb:p.getD i 0=x at*
  refine wl (α:=Nat×Nat×List Nat) (fun⟨k,c,out⟩=>⟨.fv (.sl (u32s p)):: .fv (.sl (u32s q)):: .any:: .any:: .nilsl:: .lsl 0 0 (p.length+q.length) 1:: .int .i64 i:: .int .u32 x:: .int .u32 c::(replicate 15 .any++ .fv (.sl (u32s p)):: .int .i64 p.length:: .int .i64 i::
   .any:: .any:: .any:: .any:: .fv (.sl (u32s q)):: .int .i64 q.length:: .int .i64 k::replicate 50 .any),[.row true (u32s out)]⟩)
   (fun⟨k,_,_⟩=>q.length - k)
   (fun⟨k,c,out⟩=>k<=q.length/\c<4294967296/\out.length=p.length+q.length/\Dig out/\(∀ j,i+k<=j->out.getD j 0=yn.getD j 0)/\val (out.take (i+k))+c*B^(i+k)=val (yn.take (i+k))+x*val (q.take k)*B^i) (0,0,yn) ?_ ?_ ?_
  .exact bx [0]
  .exact⟨by omega,by omega,Pc,iS,fun _ _=>rfl,by simp[val]⟩
  rintro⟨k,c,out⟩ ⟨hk,hc,ho,hd,gA,hv⟩
  refine aW ?_
  refine bM ?_ ?_
  .intro h3 h4
   refine ae h4 ?_
   refine⟨by omega,?_⟩
   have hy:=hq.getD k
   simp only[B] at hy
   generalize Ub:q.getD k 0=y at*
   refine gp (aea x y hx hy) rfl ?_
   refine aN ?_
   have hik:((i:Int)+(k:Int)).toNat=i+k:=by omega
   rw[hik]
   refine⟨by omega,by omega,?_⟩
   have jf:=hd.getD (i+k)
   simp only[B] at jf
   have hov:out.getD (i+k) 0=yn.getD (i+k) 0:=gA _ (qp _)
   have IY:x*y<=18446744065119617025:=gD (Nat.mul_le_mul (show x<=4294967295 by omega) (show y<=4294967295 by omega)) (by decide)
   have hmd:=Nr IY jf hc
   have akq:=Lj (x*y % 4294967296) (out.getD (i+k) 0) 0 (Nat.mod_lt _ (by decide)) jf (by omega)
   have akr:=Lj ((x*y % 4294967296+out.getD (i+k) 0+0) % 4294967296) c 0 (Nat.mod_lt _ (by decide)) hc (by omega)
   generalize aaT:(x*y % 4294967296+out.getD (i+k) 0+0) % 4294967296=lo1 at*
   generalize sq:(x*y % 4294967296+out.getD (i+k) 0+0) / 4294967296=c1 at*
   generalize Il:(lo1+c+0) % 4294967296=lo2 at*
   generalize pz:(lo1+c+0) / 4294967296=c2 at*
   generalize ao6:x*y / 4294967296=nj at*
   refine aM akq ?_
   refine aN ?_
   refine aM akr ?_
   refine ae hik ?_
   refine⟨by omega,by omega,?_⟩
   have ck:=cR (l:=out) (i:=i+k) (by omega) lo2
   have hqk:=aO q k
   have h0k:=aO yn (i+k)
   rw[Ub] at hqk
   have dM:val ((out.set (i+k) lo2).take (i+(k+1)))+(nj+c1+c2)*B^(i+(k+1))=val (yn.take (i+(k+1)))+x*val (q.take (k+1))*B^i:=by
    rw[<-Nat.add_assoc i k 1,ck,h0k,hqk,Nat.pow_succ];exact Qk (Nat.pow_add B i k) hv (by rw[<-hov];exact hmd.1)
   refine aA (k+1,nj+c1+c2,out.set (i+k) lo2) ?_ ⟨by omega,hmd.2,by simp[ho],hd.set _ (by simp only[B];omega),fun j hj=>?_,dM⟩
   .exact bx [0]
   rw[<-gA j (by omega)]
   simp only[qa]
   rw[qm (by omega)]
  intro h3 h4
  refine ae h4 ?_
  have hkq:k=q.length:=by omega
  have hiq:((i:Int)+(q.length:Int)).toNat=i+q.length:=by omega
  rw[hiq]
  refine⟨by omega,by omega,?_⟩
  have ck:=cR (l:=out) (i:=i+q.length) (by omega) c
  have hpi:=aO p i
  rw[Fb] at hpi
  have dM:val ((out.set (i+q.length) c).take (i+1+q.length))=val (p.take (i+1))*val q:=by
   rw[show i+1+q.length=i+q.length+1 by omega,ck,hpi];rw[hkq,a8 (qp _),IX] at hv;grind
  refine aA (i+1,out.set (i+q.length) c) ?_ ⟨by omega,by simp[ho],hd.set _ (by simp only[B];omega),dM⟩
  exact bx [0]
 intro h1 h2
 refine ae h2 ?_
 have Wl:i=p.length:=by omega
 refine gp (iV yn iS (by omega)) ?_ ?_
 .simp[bJ,eT,eo,dZ,aR,Pc]
  rw[dm (by simp[aR,Pc])]
 refine aN ?_
 refine a_ ?_
 rw[Wl,a8 (by omega),a8 (qp _),Cc,Ij] at IX
 exact kT IX
theorem ZJ (l:List Nat) (d:Nat) (hl:Dig l) (nk:l.length<100000000000) (hd:d<4294967296) (iS:0<d):
 Den Tryz.prog 217 [] [.fv (.sl (u32s l)),.int .u32 d] [] (.tup [.fv (N (val l / d)),.int .u32 ((val l % d:Nat):Int)]):=by
 refine dq Tryz.func217 33 0 ?_
 refine aW ?_
 refine⟨by omega,?_⟩
 refine wl (α:=Nat×Nat×List Nat) (fun⟨k,r,out⟩=>⟨.fv (.sl (u32s l)):: .int .u32 d:: .any:: .any:: .nilsl:: .fv (.lit (.int .u32 0)):: .lsl 0 0 l.length 1:: .int .u32 r:: .int .i64 ((k:Int) - 1)::replicate 26 .any,[.row true (u32s out)]⟩)
  (fun⟨k,_,_⟩=>k) (fun⟨k,r,out⟩=>k<=l.length/\r<d/\out.length=l.length/\Dig out/\val (out.drop k)*d+r=val (l.drop k)) (l.length,0,replicate l.length 0) ?_ ?_ ?_
 .exact bx [0]
 .exact⟨by omega,iS,by simp,Dig.zeros,by simp[val]⟩
 rintro⟨k,r,out⟩ ⟨hk,hr,ho,Ce,hv⟩
 refine aW ?_
 refine bM ?_ ?_
 .intro h1 h2
  refine ae h2 ?_
  obtain⟨j,rfl⟩: ∃ j,k=j+1:=⟨k - 1,by omega⟩
  have hj:(((j+1:Nat):Int) - 1).toNat=j:=by omega
  rw[hj]
  have hx:=hl.getD j
  simp only[B] at hx
  have vH:=ft (l:=l) (j:=j) (by omega)
  generalize Fb:l.getD j 0=x at*
  have Wo:=ZH r x d (by omega) hx hd hr
  have hq:(r*4294967296+x) / d<4294967296:=by
   rw[Nat.div_lt_iff_lt_mul (by omega)];have:(r+1)*4294967296<=d*4294967296:=qn _ hr;rw[Nat.mul_comm 4294967296 d];omega
  have iM:(r*4294967296+x) % d<d:=Nat.mod_lt _ (by omega)
  have hqr:=Nat.mod_add_div (r*4294967296+x) d
  generalize (r*4294967296+x) / d=Q at*
  generalize (r*4294967296+x) % d=R at*
  refine⟨by omega,?_⟩
  refine aM Wo ?_
  refine ae hj ?_
  refine⟨by omega,by omega,?_⟩
  have Wp:=oy (l:=out) (j:=j) (x:=Q) (by omega)
  refine aA (j,R,out.set j Q) ?_ ⟨by omega,iM,by simp[ho],Ce.set _ hq,?_⟩
  .exact bx [0]
  rw[Wp,vH,<-hv]
  simp only[B]
  grind
 intro h1 h2
 refine ae h2 ?_
 have Wn:k=0:=by omega
 subst Wn
 simp only[List.drop_zero] at hv
 have tQ:val out=val l / d/\r=val l % d:=by
  rw[<-hv,Nat.mul_comm,Nat.mul_add_div iS,Nat.mul_add_mod,Nat.div_eq_of_lt hr,Nat.mod_eq_of_lt hr];exact⟨rfl,rfl⟩
 refine gp (iV out Ce (by omega)) ?_ ?_
 .simp[bJ,eT,eo,dZ,aR,ho]
  rw[dm (by simp[aR,ho])]
 refine aN ?_
 refine a_ ?_
 rw[<-tQ.1,<-tQ.2]
 exact Ih
theorem Qm (l:List Nat) (k:Nat) (hl:Dig l) (nk:l.length<100000000000) (hk:k<32):
 Den Tryz.prog 249 [] [.fv (.sl (u32s l)),.int .u64 k] [.row true (u32s (iO (l.length+1) (val l*2^k)))] (.lsl 0 0 (l.length+1) 1):=by
 have Im:2^k<=2147483648:=Nat.pow_le_pow_right (by decide) (show k<=31 by omega)
 have sB:0<2^k:=Nat.two_pow_pos k
 have Cf:(k<=64)=True:=by simp;omega
 refine dq Tryz.func249 39 0 ?_
 refine aW ?_
 refine⟨by omega,?_⟩
 have hn:((l.length:Int)+1).toNat=l.length+1:=by omega
 refine wl (α:=Nat×List Nat) (fun⟨i,out⟩=>⟨.fv (.sl (u32s l)):: .int .u64 k:: .any:: .any:: .nilsl:: .lsl 0 0 (l.length+1) 1::(replicate 7 .any++ .fv (.sl (u32s l)):: .int .i64 l.length:: .int .i64 i::replicate 25 .any),[.row true (u32s out)]⟩)
  (fun⟨i,_⟩=>l.length - i) (fun⟨i,out⟩=>i<=l.length/\out.length=l.length+1/\Dig out/\val (out.take (i+1))=val (l.take i)*2^k/\out.getD i 0<2^k) (0,replicate (l.length+1) 0) ?_ ?_ ?_
 .refine eH [0] ?_ ?_
  .simp[bh,dF,cw,hn]
  simp[d_,fD,hn]
 .refine⟨by omega,by simp,Dig.zeros,?_,?_⟩
  .simp[val,List.replicate_succ]
  simp[List.replicate_succ];omega
 rintro⟨i,out⟩ ⟨hi,ho,Ce,hv,qX⟩
 refine aW ?_
 refine bM ?_ ?_
 .intro h1 h2
  have hx:=hl.getD i
  simp only[B] at hx
  have eO:=aO l i
  have hto:=aO out i
  generalize Fb:l.getD i 0=x at*
  generalize Ub:out.getD i 0=y at*
  have hxv:x*2^k<9223372036854775808:=by
   have:x*2^k<=4294967295*2147483648:=Nat.mul_le_mul (by omega) Im;omega
  have Io:(x:Int)*2^k=((x*2^k:Nat):Int):=by rw[Int.natCast_mul,Int.natCast_pow];rfl
  have Ik:=FG (d:=x) (k:=k) (by omega)
  generalize Cg:x*2^k=v at*
  have S6:IntKind.u32.wrap (v:Int)=((v % 4294967296:Nat):Int):=by rw[dV];rfl
  have Uc:=ajy k qX Ik (by omega) (Nat.mod_lt _ (by decide))
  have nj:((i:Int)+1).toNat=i+1:=by omega
  have qY:=FH (k:=k) (by omega) Ik (Nat.mod_lt _ (by decide))
  have eC:v / 4294967296<2^k:=by
   rw[Nat.div_lt_iff_lt_mul (by decide),<-Cg,Nat.mul_comm];exact Nat.mul_lt_mul_of_pos_left hx sB
  have hvh:(v:Int) / 4294967296=((v / 4294967296:Nat):Int):=by rw[Int.natCast_ediv];rfl
  have ck:=cR (l:=out) (i:=i) (by omega) (y+v % 4294967296)
  have Ip:=cR (l:=out.set i (y+v % 4294967296)) (i:=i+1) (by simp;omega) (v / 4294967296)
  have pe:(out.set i (y+v % 4294967296)).length=l.length+1:=by simp[ho]
  refine ae (bu h2 Cf Io Fb Ub S6 Uc (aB nj hvh)) ?_
  refine⟨by omega,by omega,by omega,by omega,by omega,by omega,by omega,by omega,by omega,?_⟩
  refine aA (i+1,(out.set i (y+v % 4294967296)).set (i+1) (v / 4294967296)) ?_ ⟨by omega,by simp[ho],(Ce.set _ (by simp only[B];omega)).set _ (by simp only[B];omega),?_,?_⟩
  .exact bx [0]
  .rw[Ip,ck,eO]
   have tQ:=Nat.mod_add_div v 4294967296
   rw[hto] at hv
   generalize v % 4294967296=vl at*
   generalize v / 4294967296=vh at*
   rw[Nat.pow_succ]
   simp only[B] at*
   grind
  have:((out.set i (y+v % 4294967296)).set (i+1) (v / 4294967296)).getD (i+1) 0=v / 4294967296:=by
   rw[qa,qv (by rw[pe];omega)];rfl
  rw[this]
  exact eC
 intro h1 h2
 refine ae h2 ?_
 have dJ:i=l.length:=by omega
 have ow:val out=val l*2^k:=by
  rw[dJ,a8 (by omega),a8 (qp _)] at hv;exact hv
 rw[<-ow,<-ho,<-D4 Ce,ho]
 exact RetOK.own rfl ⟨cK,cK⟩ rfl
end Go.Proofs.YtjjbkjgifdhlcaaGreat
