/- The types of the program,as the abstract machine asks them;and that they are the program's. -/
import Derived.Test.YtiaaceeelfhdlaaGreatT9
import Derived.Test.YtiaaceeelfhdlaaGreatProg
import Derived.KernelRfl
import Derived.Test.YtiaaceeelfhdlaaGreatT8
import Derived.Test.YtiaaceeelfhdlaaGreatT1
set_option linter.all false
open List (drop_eq_getElem_cons getD_cons_zero getElem?_cons_succ idxOf?_nil length_cons length_nil length_take replicate)
namespace Go.Proofs.YtiaaceeelfhdlaaGreat
open Go.AM
set_option maxRecDepth 100000
def ty3:TyI:=⟨.int .i64,1,8,[.fv (.lit (.int .i64 0))]⟩
def ty4:TyI:=⟨.bool,1,1,[.fv (.lit (.bool false))]⟩
def ty5:TyI:=⟨.int .u8,1,1,[.fv (.lit (.int .u8 0))]⟩
def ty9:TyI:=⟨.str,1,16,[.fv (.lit (.string ⟨#[]⟩))]⟩
def Yi:TyI:=⟨.sl 3,1,24,[.nilsl]⟩
def Yj:TyI:=⟨.other,1,8,[.fv (.lit (.pointer none))]⟩
def Yk:TyI:=⟨.sl 45,1,24,[.nilsl]⟩
def Yl:TyI:=⟨.sl 32,1,24,[.nilsl]⟩
def Ym:TyI:=⟨.sl 99,1,24,[.nilsl]⟩
def Yn:TyI:=⟨.st [⟨0,1,false⟩,⟨1,1,false⟩,⟨2,1,false⟩],3,56,[.fv (.lit (.bool false)),.nilsl,.nilsl]⟩
def Yo:TyI:=⟨.int .i64,1,8,[.fv (.lit (.int .i64 0))]⟩
def Yp:TyI:=⟨.sl 60,1,24,[.nilsl]⟩
def Yq:TyI:=⟨.sl 123,1,24,[.nilsl]⟩
def Yr:TyI:=⟨.sl 123,1,24,[.nilsl]⟩
def PR:TyI:=⟨.st [⟨0,1,false⟩,⟨1,1,false⟩],2,48,[.nilsl,.nilsl]⟩
def Ys:TyI:=⟨.arr 8 32,24,448,[.fv (.lit (.bool false)),.nilsl,.nilsl,.fv (.lit (.bool false)),.nilsl,.nilsl,.fv (.lit (.bool false)),.nilsl,.nilsl,.fv (.lit (.bool false)),.nilsl,.nilsl,.fv (.lit (.bool false)),.nilsl,.nilsl,.fv (.lit (.bool false)),.nilsl,.nilsl,.fv (.lit (.bool false)),.nilsl,.nilsl,.fv (.lit (.bool false)),.nilsl,.nilsl]⟩
def IE:TyI:=⟨.st [⟨0,24,true⟩,⟨24,3,true⟩],27,504,[.fv (.lit (.bool false)),.nilsl,.nilsl,.fv (.lit (.bool false)),.nilsl,.nilsl,.fv (.lit (.bool false)),.nilsl,.nilsl,.fv (.lit (.bool false)),.nilsl,.nilsl,.fv (.lit (.bool false)),.nilsl,.nilsl,.fv (.lit (.bool false)),.nilsl,.nilsl,.fv (.lit (.bool false)),.nilsl,.nilsl,.fv (.lit (.bool false)),.nilsl,.nilsl,.fv (.lit (.bool false)),.nilsl,.nilsl]⟩
def Yt:TyI:=⟨.st [⟨0,1,false⟩,⟨1,1,false⟩,⟨2,1,false⟩],3,40,[.nilsl,.fv (.lit (.int .i64 0)),.fv (.lit (.int .i64 0))]⟩
def Yu:TyI:=⟨.sl 41,1,24,[.nilsl]⟩
def Yv:TyI:=⟨.int .u32,1,4,[.fv (.lit (.int .u32 0))]⟩
def SI:TyI:=⟨.other,1,8,[.fv (.lit (.nilFunc))]⟩
def SJ:TyI:=⟨.other,1,8,[.fv (.lit (.nilFunc))]⟩
def SK:TyI:=⟨.arr 8 3,8,64,[.fv (.lit (.int .i64 0)),.fv (.lit (.int .i64 0)),.fv (.lit (.int .i64 0)),.fv (.lit (.int .i64 0)),.fv (.lit (.int .i64 0)),.fv (.lit (.int .i64 0)),.fv (.lit (.int .i64 0)),.fv (.lit (.int .i64 0))]⟩
def SL:TyI:=⟨.st [⟨0,8,true⟩,⟨8,3,true⟩],11,120,[.fv (.lit (.int .i64 0)),.fv (.lit (.int .i64 0)),.fv (.lit (.int .i64 0)),.fv (.lit (.int .i64 0)),.fv (.lit (.int .i64 0)),.fv (.lit (.int .i64 0)),.fv (.lit (.int .i64 0)),.fv (.lit (.int .i64 0)),.fv (.lit (.bool false)),.nilsl,.nilsl]⟩
def SM:TyI:=⟨.sl 25,1,24,[.nilsl]⟩
def SN:TyI:=⟨.st [⟨0,1,false⟩],1,1,[.fv (.lit (.bool false))]⟩
def SO:TyI:=⟨.st [⟨0,1,false⟩,⟨1,1,false⟩],2,48,[.nilsl,.nilsl]⟩
def SP:TyI:=⟨.st [⟨0,1,true⟩,⟨1,2,true⟩],3,56,[.fv (.lit (.bool false)),.nilsl,.nilsl]⟩
def SQ:TyI:=⟨.other,1,8,[.fv (.lit (.nilFunc))]⟩
def SR:TyI:=⟨.other,1,8,[.fv (.lit (.nilFunc))]⟩
def SS:TyI:=⟨.other,1,8,[.fv (.lit (.nilFunc))]⟩
def SU:TyI:=⟨.int .u64,1,8,[.fv (.lit (.int .u64 0))]⟩
def SV:TyI:=⟨.int .u64,1,8,[.fv (.lit (.int .u64 0))]⟩
def SW:TyI:=⟨.mp 8 (.agg [.bool false,.fv (.sl []),.fv (.sl [])]),1,8,[.fv (.lit (.map none))]⟩
def SX:TyI:=⟨.sl 121,1,24,[.nilsl]⟩
def SY:TyI:=⟨.other,1,8,[.fv (.lit (.nilFunc))]⟩
def SZ:TyI:=⟨.st [⟨0,1,false⟩],1,1,[.fv (.lit (.bool false))]⟩
def S2:TyI:=⟨.sl 43,1,24,[.nilsl]⟩
def S3:TyI:=⟨.int .i64,1,8,[.fv (.lit (.int .i64 0))]⟩
def S4:TyI:=⟨.mp 8 (.int .i64 0),1,8,[.fv (.lit (.map none))]⟩
def S5:TyI:=⟨.other,1,8,[.fv (.lit (.nilFunc))]⟩
def S6:TyI:=⟨.st [⟨0,1,false⟩],1,8,[.fv (.lit (.int .i64 0))]⟩
def S7:TyI:=⟨.sl 42,1,24,[.nilsl]⟩
def S8:TyI:=⟨.int .u64,1,8,[.fv (.lit (.int .u64 0))]⟩
def S9:TyI:=⟨.other,1,8,[.fv (.lit (.pointer none))]⟩
def S_:TyI:=⟨.other,1,16,[.fv (.lit (.nilIface))]⟩
def tab:Tab:=[(3,ty3),(4,ty4),(5,ty5),(9,ty9),(22,Yi),(23,Yj),(25,Yk),(27,Yl),(30,Ym),(32,Yn),(33,Yo),(41,Yp),(42,Yq),(43,Yr),(45,PR),(58,Ys),(60,IE),(72,Yt),(86,Yu),(99,Yv),(108,SI),(112,SJ),(121,SK),(123,SL),(127,SM),(132,SN),(134,SO),(136,SP),(150,SQ),(152,SR),(154,SS),(161,SU),(162,SV),(177,SW),(178,SX),(181,SY),(183,SZ),(205,S2),(219,S3),(230,S4),(232,S5),(234,S6),(235,S7),(242,S8),(246,S9),(252,S_)]
theorem at3:tab.at 3=some ⟨.int .i64,1,8,[.fv (.lit (.int .i64 0))]⟩:=rfl
theorem at4:tab.at 4=some ⟨.bool,1,1,[.fv (.lit (.bool false))]⟩:=rfl
theorem at5:tab.at 5=some ⟨.int .u8,1,1,[.fv (.lit (.int .u8 0))]⟩:=rfl
theorem at9:tab.at 9=some ⟨.str,1,16,[.fv (.lit (.string ⟨#[]⟩))]⟩:=rfl
theorem ad8:tab.at 22=some ⟨.sl 3,1,24,[.nilsl]⟩:=rfl
theorem ad9:tab.at 23=some ⟨.other,1,8,[.fv (.lit (.pointer none))]⟩:=rfl
theorem aea:tab.at 25=some ⟨.sl 45,1,24,[.nilsl]⟩:=rfl
theorem aeb:tab.at 27=some ⟨.sl 32,1,24,[.nilsl]⟩:=rfl
theorem aec:tab.at 30=some ⟨.sl 99,1,24,[.nilsl]⟩:=rfl
theorem aed:tab.at 32=some ⟨.st [⟨0,1,false⟩,⟨1,1,false⟩,⟨2,1,false⟩],3,56,[.fv (.lit (.bool false)),.nilsl,.nilsl]⟩:=rfl
theorem aee:tab.at 33=some ⟨.int .i64,1,8,[.fv (.lit (.int .i64 0))]⟩:=rfl
theorem aef:tab.at 41=some ⟨.sl 60,1,24,[.nilsl]⟩:=rfl
theorem aeg:tab.at 42=some ⟨.sl 123,1,24,[.nilsl]⟩:=rfl
theorem aeh:tab.at 43=some ⟨.sl 123,1,24,[.nilsl]⟩:=rfl
theorem aei:tab.at 45=some ⟨.st [⟨0,1,false⟩,⟨1,1,false⟩],2,48,[.nilsl,.nilsl]⟩:=rfl
theorem aej:tab.at 58=some ⟨.arr 8 32,24,448,[.fv (.lit (.bool false)),.nilsl,.nilsl,.fv (.lit (.bool false)),.nilsl,.nilsl,.fv (.lit (.bool false)),.nilsl,.nilsl,.fv (.lit (.bool false)),.nilsl,.nilsl,.fv (.lit (.bool false)),.nilsl,.nilsl,.fv (.lit (.bool false)),.nilsl,.nilsl,.fv (.lit (.bool false)),.nilsl,.nilsl,.fv (.lit (.bool false)),.nilsl,.nilsl]⟩:=rfl
theorem Ld:tab.at 60=some ⟨.st [⟨0,24,true⟩,⟨24,3,true⟩],27,504,[.fv (.lit (.bool false)),.nilsl,.nilsl,.fv (.lit (.bool false)),.nilsl,.nilsl,.fv (.lit (.bool false)),.nilsl,.nilsl,.fv (.lit (.bool false)),.nilsl,.nilsl,.fv (.lit (.bool false)),.nilsl,.nilsl,.fv (.lit (.bool false)),.nilsl,.nilsl,.fv (.lit (.bool false)),.nilsl,.nilsl,.fv (.lit (.bool false)),.nilsl,.nilsl,.fv (.lit (.bool false)),.nilsl,.nilsl]⟩:=rfl
theorem aek:tab.at 72=some ⟨.st [⟨0,1,false⟩,⟨1,1,false⟩,⟨2,1,false⟩],3,40,[.nilsl,.fv (.lit (.int .i64 0)),.fv (.lit (.int .i64 0))]⟩:=rfl
theorem ael:tab.at 86=some ⟨.sl 41,1,24,[.nilsl]⟩:=rfl
theorem aem:tab.at 99=some ⟨.int .u32,1,4,[.fv (.lit (.int .u32 0))]⟩:=rfl
theorem Yw:tab.at 108=some ⟨.other,1,8,[.fv (.lit (.nilFunc))]⟩:=rfl
theorem Yx:tab.at 112=some ⟨.other,1,8,[.fv (.lit (.nilFunc))]⟩:=rfl
theorem Yy:tab.at 121=some ⟨.arr 8 3,8,64,[.fv (.lit (.int .i64 0)),.fv (.lit (.int .i64 0)),.fv (.lit (.int .i64 0)),.fv (.lit (.int .i64 0)),.fv (.lit (.int .i64 0)),.fv (.lit (.int .i64 0)),.fv (.lit (.int .i64 0)),.fv (.lit (.int .i64 0))]⟩:=rfl
theorem Yz:tab.at 123=some ⟨.st [⟨0,8,true⟩,⟨8,3,true⟩],11,120,[.fv (.lit (.int .i64 0)),.fv (.lit (.int .i64 0)),.fv (.lit (.int .i64 0)),.fv (.lit (.int .i64 0)),.fv (.lit (.int .i64 0)),.fv (.lit (.int .i64 0)),.fv (.lit (.int .i64 0)),.fv (.lit (.int .i64 0)),.fv (.lit (.bool false)),.nilsl,.nilsl]⟩:=rfl
theorem YA:tab.at 127=some ⟨.sl 25,1,24,[.nilsl]⟩:=rfl
theorem YB:tab.at 132=some ⟨.st [⟨0,1,false⟩],1,1,[.fv (.lit (.bool false))]⟩:=rfl
theorem YC:tab.at 134=some ⟨.st [⟨0,1,false⟩,⟨1,1,false⟩],2,48,[.nilsl,.nilsl]⟩:=rfl
theorem YD:tab.at 136=some ⟨.st [⟨0,1,true⟩,⟨1,2,true⟩],3,56,[.fv (.lit (.bool false)),.nilsl,.nilsl]⟩:=rfl
theorem YE:tab.at 150=some ⟨.other,1,8,[.fv (.lit (.nilFunc))]⟩:=rfl
theorem YF:tab.at 152=some ⟨.other,1,8,[.fv (.lit (.nilFunc))]⟩:=rfl
theorem YG:tab.at 154=some ⟨.other,1,8,[.fv (.lit (.nilFunc))]⟩:=rfl
theorem YH:tab.at 161=some ⟨.int .u64,1,8,[.fv (.lit (.int .u64 0))]⟩:=rfl
theorem YI:tab.at 162=some ⟨.int .u64,1,8,[.fv (.lit (.int .u64 0))]⟩:=rfl
theorem YJ:tab.at 177=some ⟨.mp 8 (.agg [.bool false,.fv (.sl []),.fv (.sl [])]),1,8,[.fv (.lit (.map none))]⟩:=rfl
theorem YK:tab.at 178=some ⟨.sl 121,1,24,[.nilsl]⟩:=rfl
theorem YL:tab.at 181=some ⟨.other,1,8,[.fv (.lit (.nilFunc))]⟩:=rfl
theorem YM:tab.at 183=some ⟨.st [⟨0,1,false⟩],1,1,[.fv (.lit (.bool false))]⟩:=rfl
theorem YN:tab.at 205=some ⟨.sl 43,1,24,[.nilsl]⟩:=rfl
theorem YO:tab.at 219=some ⟨.int .i64,1,8,[.fv (.lit (.int .i64 0))]⟩:=rfl
theorem YP:tab.at 230=some ⟨.mp 8 (.int .i64 0),1,8,[.fv (.lit (.map none))]⟩:=rfl
theorem YQ:tab.at 232=some ⟨.other,1,8,[.fv (.lit (.nilFunc))]⟩:=rfl
theorem YR:tab.at 234=some ⟨.st [⟨0,1,false⟩],1,8,[.fv (.lit (.int .i64 0))]⟩:=rfl
theorem YS:tab.at 235=some ⟨.sl 42,1,24,[.nilsl]⟩:=rfl
theorem YT:tab.at 242=some ⟨.int .u64,1,8,[.fv (.lit (.int .u64 0))]⟩:=rfl
theorem YU:tab.at 246=some ⟨.other,1,8,[.fv (.lit (.pointer none))]⟩:=rfl
theorem YV:tab.at 252=some ⟨.other,1,16,[.fv (.lit (.nilIface))]⟩:=rfl
abbrev Lf:=qy at3 (qy at4 (qy at5 (qy at9 (qy ad8 (qy ad9 (qy aea (qy aeb (qy aec (qy aed (qy aee (qy aef (qy aeg (qy aeh (qy aei (qy aej (qy Ld (qy aek (qy ael (qy aem (qy Yw (qy Yx (qy Yy (qy Yz (qy YA (qy YB (qy YC (qy YD (qy YE (qy YF (qy YG (qy YH (qy YI (qy YJ (qy YK (qy YL (qy YM (qy YN (qy YO (qy YP (qy YQ (qy YR (qy YS (qy YT (qy YU (YV)))))))))))))))))))))))))))))))))))))))))))))
abbrev ru:=qy @jc (qy @cQ (qy @dA (qy @g9 (qy @oq (qy @ot (qy @ou (qy @Nat.min_def (qy @dY (qy @cH (qy @Option.isNone_some.{0} (qy @ow (qy @Lf (@eq_self.{1})))))))))))))
theorem ok3:TyOk Tryz.prog 3 ty3:=⟨⟨_,_,(by kernel_rfl:Tryz.prog.info? 3=some Tryz.t3),rfl,rfl,rfl,rfl,rfl,rfl⟩,Tryz.underlying3⟩
theorem ok4:TyOk Tryz.prog 4 ty4:=⟨⟨_,_,(by kernel_rfl:Tryz.prog.info? 4=some Tryz.t4),rfl,rfl,rfl,rfl,rfl,rfl⟩,Tryz.underlying4⟩
theorem ok5:TyOk Tryz.prog 5 ty5:=⟨⟨_,_,(by kernel_rfl:Tryz.prog.info? 5=some Tryz.t5),rfl,rfl,rfl,rfl,rfl,rfl⟩,Tryz.underlying5⟩
theorem ok9:TyOk Tryz.prog 9 ty9:=⟨⟨_,_,(by kernel_rfl:Tryz.prog.info? 9=some Tryz.t9),rfl,rfl,rfl,rfl,rfl,rfl⟩,Tryz.underlying9⟩
theorem aen:TyOk Tryz.prog 22 Yi:=⟨⟨_,_,(by kernel_rfl:Tryz.prog.info? 22=some Tryz.t22),rfl,rfl,rfl,rfl,rfl,rfl⟩,Tryz.underlying22⟩
theorem aeo:TyOk Tryz.prog 23 Yj:=⟨⟨_,_,(by kernel_rfl:Tryz.prog.info? 23=some Tryz.t23),rfl,rfl,rfl,rfl,rfl,rfl⟩,⟨_,Tryz.underlying23,rfl⟩⟩
theorem aep:TyOk Tryz.prog 25 Yk:=⟨⟨_,_,(by kernel_rfl:Tryz.prog.info? 25=some Tryz.t25),rfl,rfl,rfl,rfl,rfl,rfl⟩,Tryz.underlying25⟩
theorem aeq:TyOk Tryz.prog 27 Yl:=⟨⟨_,_,(by kernel_rfl:Tryz.prog.info? 27=some Tryz.t27),rfl,rfl,rfl,rfl,rfl,rfl⟩,Tryz.underlying27⟩
theorem aer:TyOk Tryz.prog 30 Ym:=⟨⟨_,_,(by kernel_rfl:Tryz.prog.info? 30=some Tryz.t30),rfl,rfl,rfl,rfl,rfl,rfl⟩,Tryz.underlying30⟩
theorem aes:TyOk Tryz.prog 32 Yn:=⟨⟨_,_,(by kernel_rfl:Tryz.prog.info? 32=some Tryz.t32),rfl,rfl,rfl,rfl,rfl,rfl⟩,
 ⟨_,Tryz.underlying32,rfl,fun j f fd h1 h2=>match j,f,fd,h1,h2 with
  | 0,_,_,rfl,rfl=>⟨rfl,by decide,_,_,(by kernel_rfl:Tryz.prog.info? 4=some Tryz.t4),rfl,Tryz.underlying4,rfl⟩
  | 1,_,_,rfl,rfl=>⟨rfl,by decide,_,_,(by kernel_rfl:Tryz.prog.info? 30=some Tryz.t30),rfl,Tryz.underlying30,rfl⟩
  | 2,_,_,rfl,rfl=>⟨rfl,by decide,_,_,(by kernel_rfl:Tryz.prog.info? 30=some Tryz.t30),rfl,Tryz.underlying30,rfl⟩
  | j+3,_,_,h,_=>by simp at h⟩⟩
theorem aet:TyOk Tryz.prog 33 Yo:=⟨⟨_,_,(by kernel_rfl:Tryz.prog.info? 33=some Tryz.t33),rfl,rfl,rfl,rfl,rfl,rfl⟩,Tryz.underlying33⟩
theorem aeu:TyOk Tryz.prog 41 Yp:=⟨⟨_,_,(by kernel_rfl:Tryz.prog.info? 41=some Tryz.t41),rfl,rfl,rfl,rfl,rfl,rfl⟩,Tryz.underlying41⟩
theorem aev:TyOk Tryz.prog 42 Yq:=⟨⟨_,_,(by kernel_rfl:Tryz.prog.info? 42=some Tryz.t42),rfl,rfl,rfl,rfl,rfl,rfl⟩,Tryz.underlying42⟩
theorem aew:TyOk Tryz.prog 43 Yr:=⟨⟨_,_,(by kernel_rfl:Tryz.prog.info? 43=some Tryz.t43),rfl,rfl,rfl,rfl,rfl,rfl⟩,Tryz.underlying43⟩
theorem aex:TyOk Tryz.prog 45 PR:=⟨⟨_,_,(by kernel_rfl:Tryz.prog.info? 45=some Tryz.t45),rfl,rfl,rfl,rfl,rfl,rfl⟩,
 ⟨_,Tryz.underlying45,rfl,fun j f fd h1 h2=>match j,f,fd,h1,h2 with
  | 0,_,_,rfl,rfl=>⟨rfl,by decide,_,_,(by kernel_rfl:Tryz.prog.info? 41=some Tryz.t41),rfl,Tryz.underlying41,rfl⟩
  | 1,_,_,rfl,rfl=>⟨rfl,by decide,_,_,(by kernel_rfl:Tryz.prog.info? 43=some Tryz.t43),rfl,Tryz.underlying43,rfl⟩
  | j+2,_,_,h,_=>by simp at h⟩⟩
theorem aey:TyOk Tryz.prog 58 Ys:=⟨⟨_,_,(by kernel_rfl:Tryz.prog.info? 58=some Tryz.t58),rfl,rfl,rfl,rfl,rfl,rfl⟩,Tryz.underlying58⟩
theorem aez:TyOk Tryz.prog 60 IE:=⟨⟨_,_,(by kernel_rfl:Tryz.prog.info? 60=some Tryz.t60),rfl,rfl,rfl,rfl,rfl,rfl⟩,
 ⟨_,Tryz.underlying60,rfl,fun j f fd h1 h2=>match j,f,fd,h1,h2 with
  | 0,_,_,rfl,rfl=>⟨rfl,by decide,_,_,(by kernel_rfl:Tryz.prog.info? 58=some Tryz.t58),rfl,Tryz.underlying58,rfl⟩
  | 1,_,_,rfl,rfl=>⟨rfl,by decide,_,_,(by kernel_rfl:Tryz.prog.info? 32=some Tryz.t32),rfl,Tryz.underlying32,rfl⟩
  | j+2,_,_,h,_=>by simp at h⟩⟩
theorem aeA:TyOk Tryz.prog 72 Yt:=⟨⟨_,_,(by kernel_rfl:Tryz.prog.info? 72=some Tryz.t72),rfl,rfl,rfl,rfl,rfl,rfl⟩,
 ⟨_,Tryz.underlying72,rfl,fun j f fd h1 h2=>match j,f,fd,h1,h2 with
  | 0,_,_,rfl,rfl=>⟨rfl,by decide,_,_,(by kernel_rfl:Tryz.prog.info? 22=some Tryz.t22),rfl,Tryz.underlying22,rfl⟩
  | 1,_,_,rfl,rfl=>⟨rfl,by decide,_,_,(by kernel_rfl:Tryz.prog.info? 3=some Tryz.t3),rfl,Tryz.underlying3,rfl⟩
  | 2,_,_,rfl,rfl=>⟨rfl,by decide,_,_,(by kernel_rfl:Tryz.prog.info? 3=some Tryz.t3),rfl,Tryz.underlying3,rfl⟩
  | j+3,_,_,h,_=>by simp at h⟩⟩
theorem aeB:TyOk Tryz.prog 86 Yu:=⟨⟨_,_,(by kernel_rfl:Tryz.prog.info? 86=some Tryz.t86),rfl,rfl,rfl,rfl,rfl,rfl⟩,Tryz.underlying86⟩
theorem aeC:TyOk Tryz.prog 99 Yv:=⟨⟨_,_,(by kernel_rfl:Tryz.prog.info? 99=some Tryz.t99),rfl,rfl,rfl,rfl,rfl,rfl⟩,Tryz.underlying99⟩
theorem YW:TyOk Tryz.prog 108 SI:=⟨⟨_,_,(by kernel_rfl:Tryz.prog.info? 108=some Tryz.t108),rfl,rfl,rfl,rfl,rfl,rfl⟩,⟨_,Tryz.underlying108,rfl⟩⟩
theorem YX:TyOk Tryz.prog 112 SJ:=⟨⟨_,_,(by kernel_rfl:Tryz.prog.info? 112=some Tryz.t112),rfl,rfl,rfl,rfl,rfl,rfl⟩,⟨_,Tryz.underlying112,rfl⟩⟩
theorem YY:TyOk Tryz.prog 121 SK:=⟨⟨_,_,(by kernel_rfl:Tryz.prog.info? 121=some Tryz.t121),rfl,rfl,rfl,rfl,rfl,rfl⟩,Tryz.underlying121⟩
theorem YZ:TyOk Tryz.prog 123 SL:=⟨⟨_,_,(by kernel_rfl:Tryz.prog.info? 123=some Tryz.t123),rfl,rfl,rfl,rfl,rfl,rfl⟩,
 ⟨_,Tryz.underlying123,rfl,fun j f fd h1 h2=>match j,f,fd,h1,h2 with
  | 0,_,_,rfl,rfl=>⟨rfl,by decide,_,_,(by kernel_rfl:Tryz.prog.info? 121=some Tryz.t121),rfl,Tryz.underlying121,rfl⟩
  | 1,_,_,rfl,rfl=>⟨rfl,by decide,_,_,(by kernel_rfl:Tryz.prog.info? 32=some Tryz.t32),rfl,Tryz.underlying32,rfl⟩
  | j+2,_,_,h,_=>by simp at h⟩⟩
theorem Y0:TyOk Tryz.prog 127 SM:=⟨⟨_,_,(by kernel_rfl:Tryz.prog.info? 127=some Tryz.t127),rfl,rfl,rfl,rfl,rfl,rfl⟩,Tryz.underlying127⟩
theorem Y1:TyOk Tryz.prog 132 SN:=⟨⟨_,_,(by kernel_rfl:Tryz.prog.info? 132=some Tryz.t132),rfl,rfl,rfl,rfl,rfl,rfl⟩,
 ⟨_,Tryz.underlying132,rfl,fun j f fd h1 h2=>match j,f,fd,h1,h2 with
  | 0,_,_,rfl,rfl=>⟨rfl,by decide,_,_,(by kernel_rfl:Tryz.prog.info? 4=some Tryz.t4),rfl,Tryz.underlying4,rfl⟩
  | j+1,_,_,h,_=>by simp at h⟩⟩
theorem Y2:TyOk Tryz.prog 134 SO:=⟨⟨_,_,(by kernel_rfl:Tryz.prog.info? 134=some Tryz.t134),rfl,rfl,rfl,rfl,rfl,rfl⟩,
 ⟨_,Tryz.underlying134,rfl,fun j f fd h1 h2=>match j,f,fd,h1,h2 with
  | 0,_,_,rfl,rfl=>⟨rfl,by decide,_,_,(by kernel_rfl:Tryz.prog.info? 30=some Tryz.t30),rfl,Tryz.underlying30,rfl⟩
  | 1,_,_,rfl,rfl=>⟨rfl,by decide,_,_,(by kernel_rfl:Tryz.prog.info? 30=some Tryz.t30),rfl,Tryz.underlying30,rfl⟩
  | j+2,_,_,h,_=>by simp at h⟩⟩
theorem Y3:TyOk Tryz.prog 136 SP:=⟨⟨_,_,(by kernel_rfl:Tryz.prog.info? 136=some Tryz.t136),rfl,rfl,rfl,rfl,rfl,rfl⟩,
 ⟨_,Tryz.underlying136,rfl,fun j f fd h1 h2=>match j,f,fd,h1,h2 with
  | 0,_,_,rfl,rfl=>⟨rfl,by decide,_,_,(by kernel_rfl:Tryz.prog.info? 132=some Tryz.t132),rfl,Tryz.underlying132,rfl⟩
  | 1,_,_,rfl,rfl=>⟨rfl,by decide,_,_,(by kernel_rfl:Tryz.prog.info? 134=some Tryz.t134),rfl,Tryz.underlying134,rfl⟩
  | j+2,_,_,h,_=>by simp at h⟩⟩
theorem Y4:TyOk Tryz.prog 150 SQ:=⟨⟨_,_,(by kernel_rfl:Tryz.prog.info? 150=some Tryz.t150),rfl,rfl,rfl,rfl,rfl,rfl⟩,⟨_,Tryz.underlying150,rfl⟩⟩
theorem Y5:TyOk Tryz.prog 152 SR:=⟨⟨_,_,(by kernel_rfl:Tryz.prog.info? 152=some Tryz.t152),rfl,rfl,rfl,rfl,rfl,rfl⟩,⟨_,Tryz.underlying152,rfl⟩⟩
theorem Y6:TyOk Tryz.prog 154 SS:=⟨⟨_,_,(by kernel_rfl:Tryz.prog.info? 154=some Tryz.t154),rfl,rfl,rfl,rfl,rfl,rfl⟩,⟨_,Tryz.underlying154,rfl⟩⟩
theorem Y7:TyOk Tryz.prog 161 SU:=⟨⟨_,_,(by kernel_rfl:Tryz.prog.info? 161=some Tryz.t161),rfl,rfl,rfl,rfl,rfl,rfl⟩,Tryz.underlying161⟩
theorem Y8:TyOk Tryz.prog 162 SV:=⟨⟨_,_,(by kernel_rfl:Tryz.prog.info? 162=some Tryz.t162),rfl,rfl,rfl,rfl,rfl,rfl⟩,Tryz.underlying162⟩
theorem Y9:TyOk Tryz.prog 177 SW:=⟨⟨_,_,(by kernel_rfl:Tryz.prog.info? 177=some Tryz.t177),rfl,rfl,rfl,rfl,rfl,rfl⟩,
 TW Tryz.underlying177 (by kernel_rfl:Tryz.prog.info? 32=some Tryz.t32) rfl rfl afi ⟨Tryz.underlying121,by simp[Program.plainKey,Tryz.underlying3],by kernel_rfl,by kernel_rfl⟩ Tryz.underlying3 ⟨277,by kernel_rfl⟩⟩
theorem Y_:TyOk Tryz.prog 178 SX:=⟨⟨_,_,(by kernel_rfl:Tryz.prog.info? 178=some Tryz.t178),rfl,rfl,rfl,rfl,rfl,rfl⟩,Tryz.underlying178⟩
theorem Y':TyOk Tryz.prog 181 SY:=⟨⟨_,_,(by kernel_rfl:Tryz.prog.info? 181=some Tryz.t181),rfl,rfl,rfl,rfl,rfl,rfl⟩,⟨_,Tryz.underlying181,rfl⟩⟩
theorem Za:TyOk Tryz.prog 183 SZ:=⟨⟨_,_,(by kernel_rfl:Tryz.prog.info? 183=some Tryz.t183),rfl,rfl,rfl,rfl,rfl,rfl⟩,
 ⟨_,Tryz.underlying183,rfl,fun j f fd h1 h2=>match j,f,fd,h1,h2 with
  | 0,_,_,rfl,rfl=>⟨rfl,by decide,_,_,(by kernel_rfl:Tryz.prog.info? 4=some Tryz.t4),rfl,Tryz.underlying4,rfl⟩
  | j+1,_,_,h,_=>by simp at h⟩⟩
theorem Zb:TyOk Tryz.prog 205 S2:=⟨⟨_,_,(by kernel_rfl:Tryz.prog.info? 205=some Tryz.t205),rfl,rfl,rfl,rfl,rfl,rfl⟩,Tryz.underlying205⟩
theorem Zc:TyOk Tryz.prog 219 S3:=⟨⟨_,_,(by kernel_rfl:Tryz.prog.info? 219=some Tryz.t219),rfl,rfl,rfl,rfl,rfl,rfl⟩,Tryz.underlying219⟩
theorem Zd:TyOk Tryz.prog 230 S4:=⟨⟨_,_,(by kernel_rfl:Tryz.prog.info? 230=some Tryz.t230),rfl,rfl,rfl,rfl,rfl,rfl⟩,
 TW Tryz.underlying230 (by kernel_rfl:Tryz.prog.info? 3=some Tryz.t3) rfl rfl afj ⟨Tryz.underlying121,by simp[Program.plainKey,Tryz.underlying3],by kernel_rfl,by kernel_rfl⟩ Tryz.underlying3 ⟨277,by kernel_rfl⟩⟩
theorem Ze:TyOk Tryz.prog 232 S5:=⟨⟨_,_,(by kernel_rfl:Tryz.prog.info? 232=some Tryz.t232),rfl,rfl,rfl,rfl,rfl,rfl⟩,⟨_,Tryz.underlying232,rfl⟩⟩
theorem Zg:TyOk Tryz.prog 234 S6:=⟨⟨_,_,(by kernel_rfl:Tryz.prog.info? 234=some Tryz.t234),rfl,rfl,rfl,rfl,rfl,rfl⟩,
 ⟨_,Tryz.underlying234,rfl,fun j f fd h1 h2=>match j,f,fd,h1,h2 with
  | 0,_,_,rfl,rfl=>⟨rfl,by decide,_,_,(by kernel_rfl:Tryz.prog.info? 3=some Tryz.t3),rfl,Tryz.underlying3,rfl⟩
  | j+1,_,_,h,_=>by simp at h⟩⟩
theorem Zh:TyOk Tryz.prog 235 S7:=⟨⟨_,_,(by kernel_rfl:Tryz.prog.info? 235=some Tryz.t235),rfl,rfl,rfl,rfl,rfl,rfl⟩,Tryz.underlying235⟩
theorem Zi:TyOk Tryz.prog 242 S8:=⟨⟨_,_,(by kernel_rfl:Tryz.prog.info? 242=some Tryz.t242),rfl,rfl,rfl,rfl,rfl,rfl⟩,Tryz.underlying242⟩
theorem Zj:TyOk Tryz.prog 246 S9:=⟨⟨_,_,(by kernel_rfl:Tryz.prog.info? 246=some Tryz.t246),rfl,rfl,rfl,rfl,rfl,rfl⟩,⟨_,Tryz.underlying246,rfl⟩⟩
theorem Zk:TyOk Tryz.prog 252 S_:=⟨⟨_,_,(by kernel_rfl:Tryz.prog.info? 252=some Tryz.t252),rfl,rfl,rfl,rfl,rfl,rfl⟩,⟨_,Tryz.underlying252,rfl⟩⟩
theorem nM:ck Tryz.prog tab:=by
 refine Ny (fun e he=>?_);simp only[tab,uI,List.not_mem_nil,or_false] at he;rcases he with rfl | rfl | rfl | rfl | rfl | rfl | rfl | rfl | rfl | rfl | rfl | rfl | rfl | rfl | rfl | rfl | rfl | rfl | rfl | rfl | rfl | rfl | rfl | rfl | rfl | rfl | rfl | rfl | rfl | rfl | rfl | rfl | rfl | rfl | rfl | rfl | rfl | rfl | rfl | rfl | rfl | rfl | rfl | rfl | rfl | rfl
 .exact ok3
 .exact ok4
 .exact ok5
 .exact ok9
 .exact aen
 .exact aeo
 .exact aep
 .exact aeq
 .exact aer
 .exact aes
 .exact aet
 .exact aeu
 .exact aev
 .exact aew
 .exact aex
 .exact aey
 .exact aez
 .exact aeA
 .exact aeB
 .exact aeC
 .exact YW
 .exact YX
 .exact YY
 .exact YZ
 .exact Y0
 .exact Y1
 .exact Y2
 .exact Y3
 .exact Y4
 .exact Y5
 .exact Y6
 .exact Y7
 .exact Y8
 .exact Y9
 .exact Y_
 .exact Y'
 .exact Za
 .exact Zb
 .exact Zc
 .exact Zd
 .exact Ze
 .exact Zg
 .exact Zh
 .exact Zi
 .exact Zj
 exact Zk
theorem nO:Tryz.prog.follows .mixedOrders=true:=by kernel_rfl
theorem dq {k:FuncId} {fn:Func} (hf:Tryz.prog.funcs[k]?=some fn) (n m:Nat) {cd:Code} {H0:List Ob} {args:List PV} {H1:List Ob} {res:PV} {rs:List ResultVar} {env:List PV}
 (h:WA Tryz.prog tab m cd ⟨env,H0⟩ (RE tab rs m H1 res) ⟨⟩) (hb:fn.body=some cd:=by exact rfl) (kJ:(fn.name== "runtime.NumGoroutine")=false:=by decide) (hr:fn.results=List.toArray rs:=by exact rfl) (hn:fn.ntmps - args.length=n:=by exact rfl) (he:args++replicate n .any=env:=by exact rfl) (Ic:H0.length=m:=by exact rfl):Den Tryz.prog k H0 args H1 res:=F6 nM nO hf hb kJ hr hn he Ic h
theorem BN {k:FuncId} {fn:Func} (hf:Tryz.prog.funcs[k]?=some fn) (n m:Nat) {cd:Code} {H0:List Ob} {args:List PV} {R:List Ob->PV->Prop} {rs:List ResultVar} {env:List PV}
 (h:WA Tryz.prog tab m cd ⟨env,H0⟩ (RH tab rs m R) ⟨⟩) (hb:fn.body=some cd:=by exact rfl) (kJ:(fn.name== "runtime.NumGoroutine")=false:=by decide) (hr:fn.results=List.toArray rs:=by exact rfl) (hn:fn.ntmps - args.length=n:=by exact rfl) (he:args++replicate n .any=env:=by exact rfl) (Ic:H0.length=m:=by exact rfl): ∃ H1 res,R H1 res/\Den Tryz.prog k H0 args H1 res:=Oc nM nO hf hb kJ hr hn he Ic h
end Go.Proofs.YtiaaceeelfhdlaaGreat
namespace Go.Pl
open Go.AM
abbrev B:Nat:=4294967296
def val:List Nat->Nat
 | []=>0
 | d::l=>d+B*val l
def Dig (l:List Nat):Prop:= ∀ d∈l,d<B
theorem Dig.nil:Dig []:=by simp[Dig]
theorem Dig.cons {d:Nat} {l:List Nat} (h:Dig (d::l)):d<B/\Dig l:=⟨h d (by simp),fun x hx=>h x (by simp[hx])⟩
theorem Dig.mk {d:Nat} {l:List Nat} (h:d<B) (k:Dig l):Dig (d::l):=fun x hx=>by
 simp only[uI] at hx;rcases hx with rfl | hx
 .exact h
 exact k x hx
theorem Dig.take {l:List Nat} (h:Dig l) (n:Nat):Dig (l.take n):=fun d hd=>h d (xY hd)
theorem Dig.drop {l:List Nat} (h:Dig l) (n:Nat):Dig (l.drop n):=fun d hd=>h d (Yf hd)
theorem Dig.app {l k:List Nat} (h:Dig l) (h2:Dig k):Dig (l++k):=fun d hd=>by
 rcases List.mem_append.1 hd with hd | hd
 .exact h d hd
 exact h2 d hd
theorem Dig.set {l:List Nat} (h:Dig l) (i:Nat) {x:Nat} (hx:x<B):Dig (l.set i x):=fun d hd=>by
 rcases List.mem_or_eq_of_mem_set hd with hd | rfl
 .exact h d hd
 exact hx
theorem Dig.getD {l:List Nat} (h:Dig l) (i:Nat):l.getD i 0<B:=by
 by_cases hi:i<l.length
 .have:l.getD i 0=l[i]:=by simp[hi]
  rw[this];exact h _ (pP hi)
 have:l.getD i 0=0:=by simp[hi]
 rw[this];decide
theorem Dig.zeros {n:Nat}:Dig (replicate n 0):=fun d hd=>by
 rw[List.eq_of_mem_replicate hd];decide
theorem pR (l k:List Nat):val (l++k)=val l+B^l.length*val k:=by
 induction l with
 | nil=>simp[val]
 | cons d l ih=>
  simp only[List.cons_append,val,ih,length_cons,Nat.pow_succ];rw[Nat.mul_add,<-Nat.mul_assoc,Nat.mul_comm B (B^l.length),Nat.add_assoc]
theorem bD {l:List Nat} (h:Dig l):val l<B^l.length:=by
 induction l with
 | nil=>simp[val]
 | cons d l ih=>
  obtain⟨h1,h2⟩:=h.cons;have:=ih h2;simp only[val,length_cons,Nat.pow_succ];have h3:val l+1<=B^l.length:=this;have h4:(val l+1)*B<=B^l.length*B:=qn _ h3;rw[Nat.add_mul,Nat.mul_comm (val l) B] at h4;omega
theorem yQ (n:Nat):val (replicate n 0)=0:=by
 induction n with
 | zero=>rfl
 | succ n ih=>simp[List.replicate_succ,val,ih]
def ai (n:Nat):List Nat:=if _h:n=0 then [] else n % B::ai (n / B)
termination_by n
decreasing_by exact Nat.div_lt_self (by omega) (by decide)
theorem bk:ai 0=[]:=by rw[ai];simp
theorem k_ {n:Nat} (h:n≠0):ai n=n % B::ai (n / B):=by rw[ai];simp[h]
theorem al (n:Nat):Dig (ai n):=by
 induction n using Nat.strongRecOn with
 | _ n ih=>
  by_cases h:n=0
  .subst h;rw[bk];exact Dig.nil
  rw[k_ h];exact Dig.mk (Nat.mod_lt _ (by decide)) (ih _ (Nat.div_lt_self (by omega) (by decide)))
theorem aj (n:Nat):val (ai n)=n:=by
 induction n using Nat.strongRecOn with
 | _ n ih=>
  by_cases h:n=0
  .subst h;rw[bk];rfl
  rw[k_ h];simp only[val];rw[ih _ (Nat.div_lt_self (by omega) (by decide))];exact Nat.mod_add_div n B
def ke (l:List Nat):List Nat:=if h:0<l.length then(if l.getD (l.length - 1) 0=0 then ke (l.take (l.length - 1)) else l) else l
termination_by l.length
decreasing_by simp[length_take];omega
theorem pr {d:Nat} {l:List Nat} (hd:d<B) (h:d≠0\/val l≠0):ai (val (d::l))=d::ai (val l):=by
 have fX:val (d::l)≠0:=by
  simp only[val];rcases h with h | h
  .omega
  have:0<B*val l:=Nat.mul_pos (by decide) (by omega);omega
 rw[k_ fX];have h1:(d+B*val l) % B=d:=by rw[Nat.add_mul_mod_self_left,Nat.mod_eq_of_lt hd]
 have h2:(d+B*val l) / B=val l:=by rw[Nat.add_mul_div_left _ _ (by decide),Nat.div_eq_of_lt hd,Nat.zero_add]
 simp only[val,h1,h2]
theorem ld {l:List Nat} (hd:Dig l) (h:l=[]\/l.getD (l.length - 1) 0≠0):ai (val l)=l:=by
 induction l with
 | nil=>exact bk
 | cons d l ih=>
  obtain⟨h1,h2⟩:=hd.cons;rcases h with h | h
  .cases h
  by_cases hl:l=[]
  .subst hl;simp at h;rw[pr h1 (.inl h)];simp[val,bk]
  obtain⟨e,k,rfl⟩:=List.exists_cons_of_ne_nil hl;have h3:(e::k).getD ((e::k).length - 1) 0≠0:=by
   simpa using h
  have h4:=ih h2 (.inr h3);have h5:val (e::k)≠0:=by
   intro h0;rw[h0,bk] at h4;cases h4
  rw[pr h1 (.inr h5),h4]
theorem qY (l:List Nat) (hd:Dig l):ke l=ai (val l):=by
 generalize hn:l.length=n
 induction n generalizing l with
 | zero=>
  have:=List.eq_nil_of_length_eq_zero hn;subst this;rw[ke];simp[val,bk]
 | succ n ih=>
  rw[ke,dif_pos (by omega)];split
  .rename_i h0;rw[ih _ (hd.take _) (by simp[hn])];have:l=l.take (l.length - 1)++[0]:=by
    have h1:l.drop (l.length - 1)=[0]:=by
     have aG:l.length - 1<l.length:=by omega
     rw[drop_eq_getElem_cons aG];have h2:l.getD (l.length - 1) 0=l[l.length - 1]:=by simp[aG]
     rw[<-h2,h0];simp;omega
    conv=>lhs;rw[<-List.take_append_drop (l.length - 1) l,h1]
   conv=>rhs;rw[this,pR]
   simp[val]
  rename_i h0;exact(ld hd (.inr h0)).symm
theorem aD {n k:Nat} (h:n<B^k):(ai n).length<=k:=by
 induction k generalizing n with
 | zero=>
  have:n=0:=by simpa using h
  subst this;rw[bk];simp
 | succ k ih=>
  by_cases h0:n=0
  .subst h0;rw[bk];simp
  rw[k_ h0,length_cons];have:n / B<B^k:=by
   rw[Nat.div_lt_iff_lt_mul (by decide)];rw[Nat.pow_succ] at h;exact h
  have:=ih this;omega
theorem bG {n:Nat}:n<B^(ai n).length:=by
 have:=bD (al n);rwa [aj] at this
theorem aH (l:List Nat) (i:Nat):val (l.take (i+1))=val (l.take i)+B^i*l.getD i 0:=by
 by_cases hi:i<l.length
 .rw[List.take_succ_eq_append_getElem hi,pR];have h1:l.getD i 0=l[i]:=by simp[hi]
  have h2:(l.take i).length=i:=by rw[length_take];omega
  rw[h1,h2];simp[val]
 rw[dm (by omega),dm (by omega)];have h1:l.getD i 0=0:=by simp[hi]
 rw[h1];simp
theorem cw {l:List Nat} {i:Nat} (hi:i<l.length) (x:Nat):val ((l.set i x).take (i+1))=val (l.take i)+B^i*x:=by
 rw[aH];have h1:(l.set i x).take i=l.take i:=by rw[List.take_set_of_le (qp i)]
 have h2:(l.set i x).getD i 0=x:=by simp[hi]
 rw[h1,h2]
theorem aN {l:List Nat} {n:Nat} (h:l.length<=n):val (l.take n)=val l:=by rw[dm h]
theorem jG (p s:Nat):p*(s % B)+s / B*(p*B)=p*s:=by
 conv=>rhs;rw[<-Nat.mod_add_div s B]
 rw[Nat.mul_add,<-Nat.mul_assoc p B,Nat.mul_comm (s / B) (p*B)]
theorem jm {x y:Nat} (h:(ai x).length<(ai y).length):x<y:=by
 rcases Nat.lt_or_ge x y with h1 | h1
 .exact h1
 have h2:y<B^(ai x).length:=GH h1 bG;have:=aD h2;omega
theorem iL (l:List Nat) (k:Nat) (hk:k<=l.length):val l=val (l.take k)+B^k*val (l.drop k):=by
 conv=>lhs;rw[<-List.take_append_drop k l,pR]
 rw[length_take,Nat.min_eq_left hk]
theorem qZ {p q:List Nat} {j:Nat} (hp:Dig p) (hjp:j<p.length) (hjq:j<q.length) (hd:p.drop (j+1)=q.drop (j+1)) (h:p.getD j 0<q.getD j 0):val p<val q:=by
 rw[iL p (j+1) (by omega),iL q (j+1) (by omega),hd,aH,aH];have h1:=bD (hp.take j);rw[length_take,Nat.min_eq_left (by omega)] at h1;have h2:B^j*(p.getD j 0+1)<=B^j*q.getD j 0:=Nat.mul_le_mul_left _ h;rw[Nat.mul_add] at h2;omega
def nk (x y:Nat):Int:=if x<y then -1 else if y<x then 1 else 0
theorem oD {x y:Nat} (h:x<y):nk x y= -1:=by simp[nk,h]
theorem u5 {x y:Nat} (h:y<x):nk x y=1:=by simp[nk,h];omega
theorem GJ {x:Nat}:nk x x=0:=by simp[nk]
def N (n:Nat):AM.FV:= .sl (AM.u32s (ai n))
end Go.Pl
namespace Go.Proofs.YtiaaceeelfhdlaaGreat
open Go.AM Go.Pl
set_option maxRecDepth 100000
set_option maxHeartbeats 1000000
theorem gN (l:List Nat) (hd:Dig l) (hl:l.length<1000000000000):Den Tryz.prog 189 [] [.fv (.sl (u32s l))] [] (.fv (N (val l))):=by
 refine dq Tryz.func189 20 0 ?_;refine aW ?_;refine wl (α:=List Nat) (fun l=>⟨.fv (.sl (u32s l)):: .any:: .nilsl::replicate 18 .any,[]⟩) List.length (fun k=>k.length<1000000000000/\ke k=ke l) l ?_ ?_ ?_
 .refine wk [] List.nodup_nil rfl ?_ ?_
  .simp[bO,eT,cJ,aU]
  trivial
 .exact⟨hl,rfl⟩
 rintro k ⟨hk,k6⟩;refine a9 ?_;refine bK ?_ ?_
 .intro h1 h2;refine ah h2 ?_;refine⟨by omega,?_⟩;refine Br.beqInt ?_ ?_
  .intro h3 h4;refine ah h4 ?_;refine⟨by omega,?_⟩;refine ap (k.take (k.length - 1)) (by simp;omega) ?_ ⟨by simp;omega,?_⟩
   .refine wk [] List.nodup_nil rfl ?_ ?_
    .have:((k.length:Int) - 1).toNat=k.length - 1:=by omega
     simp[bO,eT,cJ,this]
    trivial
   rw[<-k6];rw[ke.eq_def k,dif_pos (by omega),if_pos];have:((k.length:Int) - 1).toNat=k.length - 1:=by omega
   rw[this] at h3;simpa using h3
  intro h3 h4;refine ah h4 ?_;refine bc ?_;simp(disch:=omega) only[N,List.take_zero,length_nil,List.drop_zero,List.take_length,Nat.zero_add,qp,if_true,↓reduceIte,idxOf?_nil,St.get,qG,bN,ur,qF,qD,qE,dS,dI,Option.map_some,qk,getD_cons_zero,List.getElem?_cons_zero,getElem?_cons_succ];rw[<-qY l hd,<-k6,ke.eq_def,dif_pos (by omega),if_neg];have:((k.length:Int) - 1).toNat=k.length - 1:=by omega
  rw[this] at h3;simpa using h3
 intro h1 h2;refine ah h2 ?_;refine bc ?_;simp(disch:=omega) only[N,List.take_zero,length_nil,List.drop_zero,List.take_length,Nat.zero_add,qp,if_true,↓reduceIte,idxOf?_nil,St.get,qG,bN,ur,qF,qD,qE,dS,dI,Option.map_some,qk,getD_cons_zero,List.getElem?_cons_zero,getElem?_cons_succ];rw[<-qY l hd,<-k6,ke.eq_def,dif_neg (by omega)]
theorem S' (xs:List (List FV)) (hs: ∀ y∈xs,y.length=1) (hl:xs.length<1000000000000):Den Tryz.prog 222 [] [.fv (.sl xs)] [] (.fv (.sl xs)):=by
 cases xs with
 | nil=>
  refine Den.empty (pre:=[]) (post:=[]) ?_ (fun ad cap=>?_)
  .refine dq Tryz.func222 7 0 ?_;refine aW ?_;refine bc ?_;exact D7
  .refine dq Tryz.func222 7 0 ?_;refine aW ?_;refine bc ?_;exact D7
 | cons x xs=>
  refine dq Tryz.func222 7 0 ?_;refine aW ?_;refine⟨⟨hs,by simp only[length_cons] at hl;omega⟩,?_⟩;refine bc ?_;refine o_ ?_;simp
theorem GK (a b c:Nat) (ha:a<4294967296) (hb:b<4294967296) (hc:c<=1):Den Tryz.prog 191 [] [.int .u32 a,.int .u32 b,.int .u32 c] [] (.tup [.int .u32 ((a+b+c) % 4294967296:Nat),.int .u32 ((a+b+c) / 4294967296:Nat)]):=by
 refine dq Tryz.func191 19 0 ?_;refine aW ?_;refine⟨by omega,?_⟩;refine bc ?_;refine o_ ?_;simp[df]
theorem Zm (a b:Nat) (ha:a<4294967296) (hb:b<4294967296):Den Tryz.prog 190 [] [.int .u32 a,.int .u32 b] [] (.tup [.int .u32 ((a*b) / 4294967296:Nat),.int .u32 ((a*b) % 4294967296:Nat)]):=by
 have hm:a*b<18446744073709551616:=by
  have:a*b<=4294967295*4294967295:=Nat.mul_le_mul (by omega) (by omega);omega
 have kY:(a:Int)*b=((a*b:Nat):Int):=by simp
 refine dq Tryz.func190 15 0 ?_;refine cz kY ?_;refine⟨by omega,?_⟩;refine bc ?_;refine o_ ?_;simp[df]
theorem Zn (a b:List Nat) (ha:Dig a) (hb:Dig b) (uR:a.length<100000000000) (x8:b.length<100000000000):Den Tryz.prog 186 [] [.fv (.sl (u32s a)),.fv (.sl (u32s b))] [] (.fv (N (val a+val b))):=by
 refine dq Tryz.func186 52 0 ?_;refine WA.assoc ?_;refine WA.cut (α:=List Nat×List Nat×List PV) (fun⟨p,q,z⟩=>⟨.fv (.sl (u32s p)):: .fv (.sl (u32s q)):: .any:: .any:: .nilsl:: .any:: .any:: .any:: .any:: .any::(z++replicate 37 .any),[]⟩)
  (fun⟨p,q,z⟩=>Dig p/\Dig q/\q.length<=p.length/\p.length<100000000000/\val p+val q=val a+val b/\z.length=7) ?_ ?_
 .refine aW ?_;refine bK ?_ ?_
  .intro h1 h2;refine ah h2 ?_;refine Mid.mk (b,a,[_,_,_,_,_,_,_]) rfl ⟨hb,ha,by dsimp only;omega,x8,by dsimp only;omega,rfl⟩
  intro h1 h2;refine ah h2 ?_;refine Mid.mk (a,b,[_,_,_,_,_,_,_]) rfl ⟨ha,hb,by dsimp only;omega,uR,rfl,rfl⟩
 rintro⟨p,q,z⟩ ⟨hp,hq,aA,RI,hv,hz⟩;obtain⟨z0,z1,z2,z3,z4,z5,z6,rfl⟩: ∃ z0 z1 z2 z3 z4 z5 z6,z=[z0,z1,z2,z3,z4,z5,z6]:=by
  match z,hz with
  | [z0,z1,z2,z3,z4,z5,z6],_=>exact⟨_,_,_,_,_,_,_,rfl⟩
 refine aW ?_;refine⟨by omega,?_⟩;have hn:((p.length:Int)+1).toNat=p.length+1:=by omega
 refine wl (α:=Nat×Nat×List Nat) (fun⟨i,c,out⟩=>⟨.fv (.sl (u32s p)):: .fv (.sl (u32s q)):: .any:: .any:: .nilsl:: .lsl 0 0 (p.length+1) 1:: .int .u32 c::(replicate 14 .any++ .fv (.sl (u32s p)):: .int .i64 p.length:: .int .i64 i::replicate 30 .any),[.row true (u32s out)]⟩)
  (fun⟨i,_,_⟩=>p.length - i)
  (fun⟨i,c,out⟩=>i<=p.length/\c<=1/\out.length=p.length+1/\Dig out/\val (out.take i)+c*B^i=val (p.take i)+val (q.take i)) (0,0,replicate (p.length+1) 0) ?_ ?_ ?_
 .refine fW [0] ?_ ?_
  .simp[bO,eT,cJ,hn]
  simp[fM,fC,hn]
 .exact⟨by omega,by omega,by simp,Dig.zeros,by simp[val]⟩
 rintro⟨i,c,out⟩ ⟨hi,hc,ho,hd,nw⟩;refine aW ?_;refine bK ?_ ?_
 .intro h1 h2;refine ah h2 ?_;refine⟨by omega,?_⟩;have Pj:=hp.getD i;have Pk:=hq.getD i;have bQ:=cw (l:=out) (i:=i) (by omega) ((p.getD i 0+q.getD i 0+c) % 4294967296);have f_:=jG (B^i) (p.getD i 0+q.getD i 0+c);have RJ:=aH p i;have V2:=aH q i;have c6:val ((out.set i ((p.getD i 0+q.getD i 0+c) % 4294967296)).take (i+1))+(p.getD i 0+q.getD i 0+c) / 4294967296*B^(i+1)=val (p.take (i+1))+val (q.take (i+1)):=by
   rw[Nat.pow_succ,bQ,RJ,V2];rw[Nat.mul_add,Nat.mul_add] at f_;rw[Nat.mul_comm (B^i) c] at f_;simp only[B] at*;omega
  have ny:Dig (out.set i ((p.getD i 0+q.getD i 0+c) % 4294967296)):=hd.set i (Nat.mod_lt _ (by decide));have lX:(p.getD i 0+q.getD i 0+c) / 4294967296<=1:=by simp only[B] at*;omega
  simp only[B] at Pj Pk;have fin: ∀ x:Int,x=((q.getD i 0:Nat):Int)->bH [Ob.row true (u32s out)] ([]++[PV.fv (FV.lit (Value.int IntKind.u32 ((p.getD i 0:Nat):Int))),PV.int IntKind.u32 x,PV.int IntKind.u32 (c:Int)]++[])=some [.int .u32 ((p.getD i 0:Nat):Int),.int .u32 ((q.getD i 0:Nat):Int),.int .u32 (c:Int)]:=by
   intro x hx;subst hx;rfl
  refine bK ?_ ?_
  .intro h3 h4;refine ah h4 ?_;refine⟨by omega,?_⟩;refine gp (GK _ _ _ Pj Pk hc) (fin _ rfl) ?_;refine a9 ?_;refine⟨by omega,by omega,?_⟩;refine aw (i+1,(p.getD i 0+q.getD i 0+c) / 4294967296,out.set i ((p.getD i 0+q.getD i 0+c) % 4294967296)) ?_ ⟨by omega,lX,by simp[ho],ny,c6⟩;exact gm [0]
  intro h3 h4;have h0:(0:Int)=((q.getD i 0:Nat):Int):=by
   have:q.getD i 0=0:=by rw[qa,List.getElem?_eq_none (by omega)];rfl
   rw[this];rfl
  refine ah h4 ?_;refine gp (GK _ _ _ Pj Pk hc) (fin _ h0) ?_;refine a9 ?_;refine⟨by omega,by omega,?_⟩;refine aw (i+1,(p.getD i 0+q.getD i 0+c) / 4294967296,out.set i ((p.getD i 0+q.getD i 0+c) % 4294967296)) ?_ ⟨by omega,lX,by simp[ho],ny,c6⟩;exact gm [0]
 intro h1 h2;refine ah h2 ?_;have RK:i=p.length:=by omega
 subst RK;refine⟨by omega,by omega,?_⟩;have RM:val (out.set p.length c)=val a+val b:=by
  have h3:=cw (l:=out) (i:=p.length) (by omega) c;rw[aN (by simp;omega)] at h3;rw[aN (qp _),aN aA] at nw;rw[h3,<-hv,<-nw,Nat.mul_comm]
 have hdf:Dig (out.set p.length c):=hd.set _ (by simp only[B];omega);refine gp (gN (out.set p.length c) hdf (by simp;omega)) ?_ ?_
 .simp[bH,eS,dS,dI,aJ,ho];rw[dm (by simp[aJ,ho])]
 refine a9 ?_;refine bc ?_;refine o_ ?_;rw[RM]
end Go.Proofs.YtiaaceeelfhdlaaGreat
namespace Go.Pl
open Go.AM
theorem Af {x y:Nat} (k:Nat) (hx:x % 2^k=0) (hy:y<2^k):x||| y=x+y:=by
 obtain⟨h,rfl⟩: ∃ h,x=2^k*h:=⟨x / 2^k,by have:=Nat.mod_add_div x (2^k);omega⟩;exact(Nat.two_pow_add_eq_or_of_lt hy h).symm
theorem dP {x:Int} (h:0<=x/\x<18446744073709551616):(BitVec.ofInt IntKind.u64.bits x).toNat=x.toNat:=by
 show(BitVec.ofInt 64 x).toNat=x.toNat;rw[BitVec.toNat_ofInt];have:((2^64:Nat):Int)=18446744073709551616:=by decide
 rw[this];omega
theorem pt {x:Int} (h:0<=x/\x<4294967296):(BitVec.ofInt IntKind.u32.bits x).toNat=x.toNat:=by
 show(BitVec.ofInt 32 x).toNat=x.toNat;rw[BitVec.toNat_ofInt];have:((2^32:Nat):Int)=4294967296:=by decide
 rw[this];omega
theorem u6 (z:BitVec IntKind.u64.bits):IntKind.u64.wrap (z.toNat:Int)=(z.toNat:Int):=by
 have:z.toNat<2^64:=z.isLt;rw[dA (by omega)]
theorem GL (z:BitVec IntKind.u32.bits):IntKind.u32.wrap (z.toNat:Int)=(z.toNat:Int):=by
 have:z.toNat<2^32:=z.isLt;rw[cQ (by omega)]
theorem B2 {w:Nat} (z:BitVec w):BitVec.ofInt w (z.toNat:Int)=z:=by
 rw[BitVec.ofInt_natCast,BitVec.ofNat_toNat,BitVec.setWidth_eq]
theorem q0 {x y:Int} (hx:0<=x/\x<18446744073709551616/\x % 4294967296=0) (hy:0<=y/\y<4294967296):
 IntKind.u64.wrap ((BitVec.ofInt IntKind.u64.bits x||| BitVec.ofInt IntKind.u64.bits y).toNat:Int)=x+y:=by
 rw[u6,BitVec.toNat_or,dP (by omega),dP (by omega),Af 32 (by omega) (by omega)]
 omega
theorem Lg {x y:Int} (hy:0<=y/\y<18446744073709551616/\y % 4294967296=0) (hx:0<=x/\x<4294967296):
 IntKind.u64.wrap ((BitVec.ofInt IntKind.u64.bits x||| BitVec.ofInt IntKind.u64.bits y).toNat:Int)=x+y:=by
 rw[u6,BitVec.toNat_or,dP (by omega),dP (by omega),Nat.or_comm,Af 32 (by omega) (by omega)]
 omega
theorem Lh {x:Int} (hx:0<=x/\x<18446744073709551616):
 IntKind.u64.wrap ((BitVec.ofInt IntKind.u64.bits x&&& BitVec.ofInt IntKind.u64.bits 4294967295).toNat:Int)=x % 4294967296:=by
 rw[u6,BitVec.toNat_and,dP (by omega),dP (by omega)]
 have:(4294967295:Int).toNat=2^32 - 1:=by decide
 rw[this,Nat.and_two_pow_sub_one_eq_mod]
 omega
theorem Zo (z:BitVec 32):z.toNat / 2147483648=if z.msb then 1 else 0:=by
 have h1:z.toNat<2^32:=z.isLt;rw[BitVec.msb_eq_decide];by_cases h:2^(32 - 1)<=z.toNat
 .simp only[h,decide_true,if_true];omega
 simp only[h,decide_false];simp;omega
theorem Li {v v0 P c x y o lo ca Q Bi Bk:Nat} (hP:P=Bi*Bk) (hv:v+c*P=v0+x*Q*Bi) (hs:lo+ca*4294967296=x*y+o+c):
 v+P*lo+ca*(P*4294967296)=v0+P*o+x*(Q+Bk*y)*Bi:=by
 subst hP
 grind
theorem IG {m o c:Nat} (hm:m<=18446744065119617025) (ho:o<4294967296) (hc:c<4294967296):
 ((m % 4294967296+o+0) % 4294967296+c+0) % 4294967296+(m / 4294967296+(m % 4294967296+o+0) / 4294967296+((m % 4294967296+o+0) % 4294967296+c+0) / 4294967296)*4294967296=m+o+c/\
 m / 4294967296+(m % 4294967296+o+0) / 4294967296+((m % 4294967296+o+0) % 4294967296+c+0) / 4294967296<4294967296:=by
 omega
theorem ew {l:List Nat} {j:Nat} (h:j<l.length):val (l.drop j)=l.getD j 0+B*val (l.drop (j+1)):=by
 rw[drop_eq_getElem_cons h];simp[val,h]
theorem mb {l:List Nat} {j x:Nat} (h:j<l.length):val ((l.set j x).drop j)=x+B*val (l.drop (j+1)):=by
 rw[ew (by simpa using h)];have h1:(l.set j x).getD j 0=x:=by simp[h]
 rw[h1,List.drop_set_of_lt (by omega)]
theorem aeD {x y:Nat} (k:Nat) (hx:x<2^k) (hy:y % 2^k=0) (pH:x<4294967296) (tB:y<4294967296):
 IntKind.u32.wrap ((BitVec.ofInt IntKind.u32.bits (x:Int)||| BitVec.ofInt IntKind.u32.bits (y:Int)).toNat:Int)=((x+y:Nat):Int):=by
 rw[GL,BitVec.toNat_or,pt (by omega),pt (by omega),Int.toNat_natCast,Int.toNat_natCast,Nat.or_comm,Af k hy hx,Nat.add_comm]
theorem B3 {d k:Nat} (hk:k<=32):(d*2^k) % 4294967296 % 2^k=0:=by
 have h:4294967296=2^k*2^(32 - k):=by
  rw[<-Nat.pow_add,show k+(32 - k)=32 by omega]
 rw[h,Nat.mod_mul_right_mod,Nat.mul_mod_left]
theorem B4 {a k:Nat} (hk:k<=32) (h:a % 2^k=0) (ha:a<4294967296):a+2^k<=4294967296:=by
 have hb:4294967296=2^k*2^(32 - k):=by
  rw[<-Nat.pow_add,show k+(32 - k)=32 by omega]
 obtain⟨t,rfl⟩: ∃ t,a=2^k*t:=⟨a / 2^k,by have:=Nat.mod_add_div a (2^k);omega⟩;have h1:2^k*t<2^k*2^(32 - k):=by rw[<-hb];exact ha
 have h2:t<2^(32 - k):=Nat.lt_of_mul_lt_mul_left h1;have h3:2^k*(t+1)<=2^k*2^(32 - k):=Nat.mul_le_mul_left _ h2;rw[Nat.mul_add,Nat.mul_one,<-hb] at h3;exact h3
def gG:Nat->Nat->List Nat
 | 0,_=>[]
 | n+1,x=>x % B::gG n (x / B)
theorem cC (n x:Nat):(gG n x).length=n:=by
 induction n generalizing x with
 | zero=>rfl
 | succ n ih=>simp[gG,ih]
theorem jH (n x:Nat):Dig (gG n x):=by
 induction n generalizing x with
 | zero=>exact Dig.nil
 | succ n ih=>exact Dig.mk (Nat.mod_lt _ (by decide)) (ih _)
theorem Ag {l:List Nat} (h:Dig l):l=gG l.length (val l):=by
 induction l with
 | nil=>rfl
 | cons d l ih=>
  obtain⟨h1,h2⟩:=h.cons;simp only[length_cons,gG,val];rw[Nat.add_mul_mod_self_left,Nat.mod_eq_of_lt h1,Nat.add_mul_div_left _ _ (by decide),Nat.div_eq_of_lt h1,Nat.zero_add,<-ih h2]
theorem jI {n x:Nat} (h:x<B^n):val (gG n x)=x:=by
 induction n generalizing x with
 | zero=>simp at h;subst h;rfl
 | succ n ih=>
  have h1:x / B<B^n:=by
   rw[Nat.div_lt_iff_lt_mul (by decide)];rw[Nat.pow_succ] at h;exact h
  simp only[gG,val];rw[ih h1];exact Nat.mod_add_div x B
theorem Lj (a b c:Nat) (ha:a<4294967296) (hb:b<4294967296) (hc:c<=1):
 ((~~~(BitVec.ofNat 32 a)&&& BitVec.ofNat 32 b||| ~~~(BitVec.ofNat 32 a^^^BitVec.ofNat 32 b)&&& BitVec.ofNat 32 (4294967296+a - b - c)):BitVec 32).toNat / 2147483648=if a<b+c then 1 else 0:=by
 rw[Zo]
 simp only[BitVec.msb_or,BitVec.msb_and,BitVec.msb_not,BitVec.msb_xor]
 simp only[BitVec.msb_eq_decide,BitVec.toNat_ofNat]
 have e1:a % 2^32=a:=Nat.mod_eq_of_lt (by omega)
 have e2:b % 2^32=b:=Nat.mod_eq_of_lt (by omega)
 rw[e1,e2]
 generalize hd:(4294967296+a - b - c) % 2^32=d
 by_cases h1:2^(32 - 1)<=a<;>by_cases h2:2^(32 - 1)<=b<;>by_cases h3:2^(32 - 1)<=d<;>by_cases h4:a<b+c<;>simp[h1,h2,h3,h4]<;>omega
theorem Uz:(if IntKind.u32.signed=true then(-1:Int) else IntKind.u32.max)=4294967295:=by decide
theorem aeE (x:BitVec IntKind.u32.bits):BitVec.ofInt IntKind.u32.bits 4294967295^^^x= ~~~x:=by
 have:(BitVec.ofInt IntKind.u32.bits 4294967295)=BitVec.allOnes IntKind.u32.bits:=by decide
 rw[this,BitVec.allOnes_xor]
theorem UA (n:Nat):BitVec.ofInt IntKind.u32.bits (n:Int)=BitVec.ofNat IntKind.u32.bits n:=BitVec.ofInt_natCast _ _
end Go.Pl
namespace Go.Proofs.YtiaaceeelfhdlaaGreat
open Go.AM Go.Pl
set_option maxRecDepth 100000
set_option maxHeartbeats 1000000
theorem bx (n:Nat):N n= .sl (u32s (ai n)):=rfl
theorem B5 (l:List Nat) (hd:Dig l) (hl:l.length<1000000000000):Den Tryz.prog 177 [] [.fv (.sl (u32s l))] [] (.fv (N (val l))):=by
 refine dq Tryz.func177 5 0 ?_;refine aW ?_;refine gp (gN l hd hl) rfl ?_;refine a9 ?_;have hlv:(ai (val l)).length<=l.length:=aD (bD hd);refine gp (S' (u32s (ai (val l))) (by simp[u32s]) (by simp[u32s];omega)) rfl ?_;refine a9 ?_;refine bc ?_;simp(disch:=omega) only[N,List.take_zero,length_nil,List.drop_zero,List.take_length,Nat.zero_add,qp,if_true,↓reduceIte,idxOf?_nil,St.get,qG,bN,ur,qF,qD,qE,dS,dI,Option.map_some,qk,getD_cons_zero,List.getElem?_cons_zero,getElem?_cons_succ]
theorem B6 (a b:List Nat) (ha:Dig a) (hb:Dig b) (uR:a.length<100000000000) (x8:b.length<100000000000):Den Tryz.prog 187 [] [.fv (.sl (u32s a)),.fv (.sl (u32s b))] [] (.int .i64 (nk (val a) (val b))):=by
 have hxa:(ai (val a)).length<=a.length:=aD (bD ha);have kK:(ai (val b)).length<=b.length:=aD (bD hb);have hda:=al (val a);have RN:=al (val b);refine dq Tryz.func187 45 0 ?_;refine aW ?_;refine gp (gN a ha (by omega)) rfl ?_;refine a9 ?_;refine gp (gN b hb (by omega)) rfl ?_;refine ah @bx ?_;refine Br.bneInt ?_ ?_
 .intro h1 h2;refine ah h2 ?_;refine bK ?_ ?_
  .intro h3 h4;refine ah h4 ?_;refine bc ?_;refine o_ ?_;rw[oD (jm (by omega))]
  intro h3 h4;refine ah h4 ?_;refine bc ?_;refine o_ ?_;rw[u5 (jm (by omega))]
 intro h1 h2;refine ah h2 ?_;generalize hp:ai (val a)=p at*;generalize hq:ai (val b)=q at*;refine wl (α:=Nat) (fun k=>⟨.fv (.sl (u32s p)):: .fv (.sl (u32s q)):: .any:: .any:: .int .i64 0:: .int .i64 ((k:Int) - 1)::replicate 41 .any,[]⟩) (fun k=>k) (fun k=>k<=p.length/\p.drop k=q.drop k) p.length ?_ ?_ ?_
 .exact gm []
 .exact⟨qp _,by rw[List.drop_of_length_le (qp _),List.drop_of_length_le (by omega)]⟩
 rintro k ⟨hk,Od⟩;refine aW ?_;refine bK ?_ ?_
 .intro h3 h4;refine ah h4 ?_;refine dw (by kernel_rfl) ?_;refine a9 ?_;refine⟨by omega,by omega,?_⟩;obtain⟨j,rfl⟩: ∃ j,k=j+1:=⟨k - 1,by omega⟩;have hj:(((j+1:Nat):Int) - 1).toNat=j:=by omega
  rw[hj];have yA:val p=val a:=by rw[<-hp,aj]
  have Oe:val q=val b:=by rw[<-hq,aj]
  refine bK ?_ ?_
  .intro h5 h6;refine ah h6 ?_;refine bc ?_;refine o_ ?_;rw[<-yA,<-Oe,oD (qZ hda (by omega) (by omega) Od (by omega))]
  intro h5 h6;refine ah h6 ?_;refine dw (by kernel_rfl) ?_;refine ah (a8 h6 hj) ?_;refine⟨by omega,by omega,?_⟩;refine bK ?_ ?_
  .intro h7 h8;refine ah h8 ?_;refine bc ?_;refine o_ ?_;rw[<-yA,<-Oe,u5 (qZ RN (by omega) (by omega) Od.symm (by omega))]
  intro h7 h8;refine ah h8 ?_;refine aw j ?_ ⟨by omega,?_⟩
  .exact gm []
  have V3:p.drop j=p.getD j 0::p.drop (j+1):=by rw[drop_eq_getElem_cons (by omega)];simp[show j<p.length by omega]
  have TY:q.drop j=q.getD j 0::q.drop (j+1):=by rw[drop_eq_getElem_cons (by omega)];simp[show j<q.length by omega]
  rw[V3,TY,Od,show p.getD j 0=q.getD j 0 by omega]
 intro h3 h4;refine ah h4 ?_;refine bc ?_;refine o_ ?_;have RO:k=0:=by omega
 subst RO;simp only[List.drop_zero] at Od;subst Od;have:val a=val b:=by rw[<-aj (val a),hp,<-hq,aj]
 rw[this,GJ]
theorem UB (h l d:Nat) (hh:h<4294967296) (hl:l<4294967296) (hd:d<4294967296) (aG:h<d):
 Den Tryz.prog 256 [] [.int .u32 h,.int .u32 l,.int .u32 d] [] (.tup [.int .u32 ((h*4294967296+l) / d:Nat),.int .u32 ((h*4294967296+l) % d:Nat)]):=by
 have hq:(h*4294967296+l) / d<4294967296:=by
  rw[Nat.div_lt_iff_lt_mul (by omega)];have:(h+1)*4294967296<=d*4294967296:=qn _ aG;rw[Nat.mul_comm 4294967296 d];omega
 have hr:(h*4294967296+l) % d<d:=Nat.mod_lt _ (by omega)
 have e1:((h:Int)*4294967296+l) / d=(((h*4294967296+l) / d:Nat):Int):=by
  rw[Int.natCast_ediv,Int.natCast_add,Int.natCast_mul];rfl
 have e2:((h:Int)*4294967296+l) % d=(((h*4294967296+l) % d:Nat):Int):=by
  rw[Int.natCast_emod,Int.natCast_add,Int.natCast_mul];rfl
 generalize (h*4294967296+l) / d=Q at*
 generalize (h*4294967296+l) % d=R at*
 refine dq Tryz.func256 30 0 ?_
 refine aW ?_
 refine Br.bneInt ?_ ?_
 .intro h1 h2
  refine ah h2 ?_
  refine bK ?_ ?_
  .intro h3 h4
   omega
  intro h3 h4
  refine ah (a8 h4 @q0) ?_
  refine⟨by omega,?_⟩
  refine dw (by kernel_rfl) ?_
  simp -dsimp(disch:=omega) only[e1,e2,IntKind.bits,Int.reduceToNat,Int.reducePow,Option.isNone_none,↓reduceIte,reduceCtorEq,Nat.reduceAdd,Nat.reduceMul,Nat.reduceSub,Nat.reduceBEq,Nat.reduceEqDiff,Nat.reduceLT,Nat.reduceLeDiff,ru]
  refine⟨by omega,by omega,?_⟩
  refine bc ?_
  exact D7
 intro h1 h2
 omega
theorem UC (a b c:Nat) (ha:a<4294967296) (hb:b<4294967296) (hc:c<=1):Den Tryz.prog 229 [] [.int .u32 a,.int .u32 b,.int .u32 c] []
 (.tup [.int .u32 ((4294967296+a - b - c) % 4294967296:Nat),.int .u32 (if a<b+c then 1 else 0:Nat)]):=by
 have hw:IntKind.u32.wrap (IntKind.u32.wrap ((a:Int) - b) - c)=((4294967296+a - b - c) % 4294967296:Nat):=by
  rw[df,df];omega
 have key:=Lj a b c ha hb hc
 refine dq Tryz.func229 22 0 ?_
 refine cz hw ?_
 refine⟨by omega,?_⟩
 refine bc ?_
 simp(disch:=omega) only[hw,Uz,GL,B2,aeE,UA,List.take_zero,length_nil,List.drop_zero,List.take_length,Nat.zero_add,qp,if_true,↓reduceIte,idxOf?_nil,St.get,qG,bN,ur,qF,qD,qE,dS,dI,Option.map_some,qk,getD_cons_zero,List.getElem?_cons_zero,getElem?_cons_succ]
 have D8:BitVec.ofNat 32 ((4294967296+a - b - c) % 4294967296)=BitVec.ofNat 32 (4294967296+a - b - c):=by
  apply BitVec.eq_of_toNat_eq;simp
 rw[<-D8] at key
 have k2:=congrArg (fun z:Nat=>(z:Int)) key
 simp only[Int.natCast_ediv] at k2
 exact congrArg (fun z:Int=>some (PV.tup [PV.int .u32 (((4294967296+a - b - c) % 4294967296:Nat):Int),PV.int .u32 z])) k2
theorem q4 {x y:Nat} (h:x<=y):(ai x).length<=(ai y).length:=
 aD (GH h bG)
theorem ads (a b:List Nat) (ha:Dig a) (hb:Dig b) (uR:a.length<100000000000) (x8:b.length<100000000000) (aG:val a<val b):
 Den Tryz.prog 188 [] [.fv (.sl (u32s a)),.fv (.sl (u32s b))] [] (.tup [.fv (.sl []),.int .i64 1]):=by
 refine dq Tryz.func188 48 0 ?_
 refine aW ?_
 refine gp (B6 a b ha hb uR x8) rfl ?_
 simp -dsimp(disch:=omega) only[oD aG,IntKind.bits,Int.reduceToNat,Int.reducePow,Option.isNone_none,↓reduceIte,reduceCtorEq,Nat.reduceAdd,Nat.reduceMul,Nat.reduceSub,Nat.reduceBEq,Nat.reduceEqDiff,Nat.reduceLT,Nat.reduceLeDiff,ru]
 refine bK ?_ ?_
 .intro h1 h2
  refine ah h2 ?_
  refine bc ?_
  exact D7
 intro h1 h2
 omega
theorem Ta (a b:List Nat) (ha:Dig a) (hb:Dig b) (uR:a.length<100000000000) (x8:b.length<100000000000) (cX:val b<=val a):
 Den Tryz.prog 188 [] [.fv (.sl (u32s a)),.fv (.sl (u32s b))] [] (.tup [.fv (N (val a - val b)),.int .i64 0]):=by
 have hxa:(ai (val a)).length<=a.length:=aD (bD ha)
 have kK:(ai (val b)).length<=(ai (val a)).length:=q4 cX
 have hp:=al (val a)
 have hq:=al (val b)
 have yA:=aj (val a)
 have Oe:=aj (val b)
 have yB:decide (nk (val a) (val b)<0)=false:=by
  unfold nk;rw[if_neg (by omega)];split<;>simp
 refine dq Tryz.func188 48 0 ?_
 refine aW ?_
 refine gp (B6 a b ha hb uR x8) rfl ?_
 refine ah yB ?_
 refine gp (gN a ha (by omega)) rfl ?_
 refine a9 ?_
 refine gp (gN b hb (by omega)) rfl ?_
 refine ah @bx ?_
 generalize ai (val a)=p at*
 generalize ai (val b)=q at*
 refine⟨by omega,?_⟩
 refine wl (α:=Nat×Nat×List Nat) (fun⟨i,c,out⟩=>⟨.fv (.sl (u32s p)):: .fv (.sl (u32s q)):: .any:: .any:: .nilsl:: .any:: .lsl 0 0 p.length 1:: .int .u32 c::(replicate 14 .any++ .fv (.sl (u32s p)):: .int .i64 p.length:: .int .i64 i::replicate 25 .any),[.row true (u32s out)]⟩)
  (fun⟨i,_,_⟩=>p.length - i)
  (fun⟨i,c,out⟩=>i<=p.length/\c<=1/\out.length=p.length/\Dig out/\val (out.take i)+val (q.take i)=val (p.take i)+c*B^i) (0,0,replicate p.length 0) ?_ ?_ ?_
 .exact gm [0]
 .exact⟨by omega,by omega,by simp,Dig.zeros,by simp[val]⟩
 rintro⟨i,c,out⟩ ⟨hi,hc,ho,hd,nw⟩
 refine aW ?_
 refine bK ?_ ?_
 .intro h1 h2
  refine ah h2 ?_
  refine⟨by omega,?_⟩
  have Pj:=hp.getD i
  have Pk:=hq.getD i
  simp only[B] at Pj Pk
  have bQ:=cw (l:=out) (i:=i) (by omega) ((4294967296+p.getD i 0 - q.getD i 0 - c) % 4294967296)
  have RJ:=aH p i
  have V2:=aH q i
  have ny:Dig (out.set i ((4294967296+p.getD i 0 - q.getD i 0 - c) % 4294967296)):=hd.set i (Nat.mod_lt _ (by decide))
  have lX:(if p.getD i 0<q.getD i 0+c then 1 else 0:Nat)<=1:=by split<;>omega
  have yC:(4294967296+p.getD i 0 - q.getD i 0 - c) % 4294967296+q.getD i 0+c=p.getD i 0+(if p.getD i 0<q.getD i 0+c then 1 else 0:Nat)*4294967296:=by
   split<;>omega
  generalize afn:(if p.getD i 0<q.getD i 0+c then 1 else 0:Nat)=c2 at*
  generalize Pm:(4294967296+p.getD i 0 - q.getD i 0 - c) % 4294967296=dg at*
  have c6:val ((out.set i dg).take (i+1))+val (q.take (i+1))=val (p.take (i+1))+c2*B^(i+1):=by
   rw[Nat.pow_succ,bQ,RJ,V2];have h3:=congrArg (fun z=>B^i*z) yC;simp only[Nat.mul_add] at h3;rw[Nat.mul_comm c] at nw;rw[<-Nat.mul_assoc (B^i) c2,Nat.mul_comm (B^i) c2,Nat.mul_assoc c2] at h3;have h4:B^i*B=B^i*4294967296:=rfl;rw[h4];omega
  have fin: ∀ x:Int,x=((q.getD i 0:Nat):Int)->bH [Ob.row true (u32s out)] ([]++[PV.fv (FV.lit (Value.int IntKind.u32 ((p.getD i 0:Nat):Int))),PV.int IntKind.u32 x,PV.int IntKind.u32 (c:Int)]++[])=some [.int .u32 ((p.getD i 0:Nat):Int),.int .u32 ((q.getD i 0:Nat):Int),.int .u32 (c:Int)]:=by
   intro x hx;subst hx;rfl
  have bW:=UC _ _ _ Pj Pk hc
  rw[Pm] at bW
  have TZ:Den Tryz.prog 229 [] [.int .u32 ((p.getD i 0:Nat):Int),.int .u32 ((q.getD i 0:Nat):Int),.int .u32 (c:Int)] [] (.tup [.int .u32 (dg:Int),.int .u32 (c2:Int)]):=by
   rw[afn] at bW;exact bW
  refine bK ?_ ?_
  .intro h3 h4
   refine ah h4 ?_
   refine⟨by omega,?_⟩
   refine gp TZ (fin _ rfl) ?_
   refine a9 ?_
   refine⟨by omega,by omega,?_⟩
   refine aw (i+1,c2,out.set i dg) ?_ ⟨by omega,lX,by simp[ho],ny,c6⟩
   exact gm [0]
  intro h3 h4
  have h0:(0:Int)=((q.getD i 0:Nat):Int):=by
   have:q.getD i 0=0:=by rw[qa,List.getElem?_eq_none (by omega)];rfl
   rw[this];rfl
  refine ah h4 ?_
  refine gp TZ (fin _ h0) ?_
  refine a9 ?_
  refine⟨by omega,by omega,?_⟩
  refine aw (i+1,c2,out.set i dg) ?_ ⟨by omega,lX,by simp[ho],ny,c6⟩
  exact gm [0]
 intro h1 h2
 refine ah h2 ?_
 have RK:i=p.length:=by omega
 have RM:val out=val a - val b:=by
  rw[RK,aN (by omega),aN kK,aN (qp _),yA,Oe] at nw;have h5:=bD hd;rw[ho] at h5;have h6:c=0:=by
   rcases Nat.eq_zero_or_pos c with h | h
   .exact h
   exfalso;have:c=1:=by omega
   subst this;omega
  subst h6;omega
 refine gp (gN out hd (by omega)) ?_ ?_
 .simp[bH,eS,dS,dI,aJ,ho]
  rw[dm (by simp[aJ,ho])]
 refine a9 ?_
 refine bc ?_
 refine o_ ?_
 rw[RM]
theorem Tb (u:Nat) (hu:u<18446744073709551616):Den Tryz.prog 224 [] [.int .u64 u] [] (.fv (N u)):=by
 have hv:val [u % 4294967296,u / 4294967296]=u:=by
  simp only[val,B];omega
 have hd:Dig [u % 4294967296,u / 4294967296]:=by
  intro d hd;simp at hd;rcases hd with rfl | rfl<;>(simp only[B];omega)
 refine dq Tryz.func224 9 0 ?_;refine aW ?_;refine⟨by omega,?_⟩;have:=gN [u % 4294967296,u / 4294967296] hd (by simp);rw[hv] at this;refine gp this ?_ ?_
 .simp[bH,eS,dS,dI,u32s,df]
 refine a9 ?_;refine bc ?_;exact D7
theorem vJ (a b:List Nat) (ha:Dig a) (hb:Dig b) (uR:a.length<10000000000) (x8:b.length<10000000000):
 Den Tryz.prog 122 [] [.fv (.sl (u32s a)),.fv (.sl (u32s b))] [] (.fv (N (val a*val b))):=by
 have hxa:(ai (val a)).length<=a.length:=aD (bD ha)
 have kK:(ai (val b)).length<=b.length:=aD (bD hb)
 have hp:=al (val a)
 have hq:=al (val b)
 have yA:=aj (val a)
 have Oe:=aj (val b)
 refine dq Tryz.func122 82 0 ?_
 refine aW ?_
 refine gp (gN a ha (by omega)) rfl ?_
 refine a9 ?_
 refine gp (gN b hb (by omega)) rfl ?_
 refine ah @bx ?_
 generalize ai (val a)=p at*
 generalize ai (val b)=q at*
 refine⟨by omega,?_⟩
 have hn:((p.length:Int)+(q.length:Int)).toNat=p.length+q.length:=by omega
 refine wl (α:=Nat×List Nat) (fun⟨i,out⟩=>⟨.fv (.sl (u32s p)):: .fv (.sl (u32s q)):: .any:: .any:: .nilsl:: .lsl 0 0 (p.length+q.length) 1::(replicate 18 .any++ .fv (.sl (u32s p)):: .int .i64 p.length:: .int .i64 i::replicate 57 .any),[.row true (u32s out)]⟩)
  (fun⟨i,_⟩=>p.length - i)
  (fun⟨i,out⟩=>i<=p.length/\out.length=p.length+q.length/\Dig out/\val (out.take (i+q.length))=val (p.take i)*val q) (0,replicate (p.length+q.length) 0) ?_ ?_ ?_
 .refine fW [0] ?_ ?_
  .simp[bO,eT,cJ,hn]
  simp[fM,fC,hn]
 .exact⟨by omega,by simp,Dig.zeros,by simp[val,yQ]⟩
 rintro⟨i,uS⟩ ⟨hi,D9,gJ,EA⟩
 refine aW ?_
 refine bK ?_ ?_
 .intro h1 h2
  refine ah h2 ?_
  refine⟨by omega,?_⟩
  have hx:=hp.getD i
  simp only[B] at hx
  generalize z':p.getD i 0=x at*
  refine wl (α:=Nat×Nat×List Nat) (fun⟨k,c,out⟩=>⟨.fv (.sl (u32s p)):: .fv (.sl (u32s q)):: .any:: .any:: .nilsl:: .lsl 0 0 (p.length+q.length) 1:: .int .i64 i:: .int .u32 x:: .int .u32 c::(replicate 15 .any++ .fv (.sl (u32s p)):: .int .i64 p.length:: .int .i64 i::
   .any:: .any:: .any:: .any:: .fv (.sl (u32s q)):: .int .i64 q.length:: .int .i64 k::replicate 50 .any),[.row true (u32s out)]⟩)
   (fun⟨k,_,_⟩=>q.length - k)
   (fun⟨k,c,out⟩=>k<=q.length/\c<4294967296/\out.length=p.length+q.length/\Dig out/\(∀ j,i+k<=j->out.getD j 0=uS.getD j 0)/\val (out.take (i+k))+c*B^(i+k)=val (uS.take (i+k))+x*val (q.take k)*B^i) (0,0,uS) ?_ ?_ ?_
  .exact gm [0]
  .exact⟨by omega,by omega,D9,gJ,fun _ _=>rfl,by simp[val]⟩
  rintro⟨k,c,out⟩ ⟨hk,hc,ho,hd,fA,hv⟩
  refine aW ?_
  refine bK ?_ ?_
  .intro h3 h4
   refine ah h4 ?_
   refine⟨by omega,?_⟩
   have hy:=hq.getD k
   simp only[B] at hy
   generalize Pn:q.getD k 0=y at*
   refine gp (Zm x y hx hy) rfl ?_
   refine a9 ?_
   have V4:((i:Int)+(k:Int)).toNat=i+k:=by omega
   rw[V4]
   refine⟨by omega,by omega,?_⟩
   have jE:=hd.getD (i+k)
   simp only[B] at jE
   have hov:out.getD (i+k) 0=uS.getD (i+k) 0:=fA _ (qp _)
   have EB:x*y<=18446744065119617025:=ka (Nat.mul_le_mul (show x<=4294967295 by omega) (show y<=4294967295 by omega)) (by decide)
   have hmd:=IG EB jE hc
   have afo:=GK (x*y % 4294967296) (out.getD (i+k) 0) 0 (Nat.mod_lt _ (by decide)) jE (by omega)
   have afp:=GK ((x*y % 4294967296+out.getD (i+k) 0+0) % 4294967296) c 0 (Nat.mod_lt _ (by decide)) hc (by omega)
   generalize V5:(x*y % 4294967296+out.getD (i+k) 0+0) % 4294967296=lo1 at*
   generalize qW:(x*y % 4294967296+out.getD (i+k) 0+0) / 4294967296=c1 at*
   generalize D_:(lo1+c+0) % 4294967296=lo2 at*
   generalize lX:(lo1+c+0) / 4294967296=c2 at*
   generalize ajH:x*y / 4294967296=pJ at*
   refine aM afo ?_
   refine a9 ?_
   refine aM afp ?_
   refine ah V4 ?_
   refine⟨by omega,by omega,?_⟩
   have bQ:=cw (l:=out) (i:=i+k) (by omega) lo2
   have hqk:=aH q k
   have h0k:=aH uS (i+k)
   rw[Pn] at hqk
   have c6:val ((out.set (i+k) lo2).take (i+(k+1)))+(pJ+c1+c2)*B^(i+(k+1))=val (uS.take (i+(k+1)))+x*val (q.take (k+1))*B^i:=by
    rw[<-Nat.add_assoc i k 1,bQ,h0k,hqk,Nat.pow_succ];exact Li (Nat.pow_add B i k) hv (by rw[<-hov];exact hmd.1)
   refine aw (k+1,pJ+c1+c2,out.set (i+k) lo2) ?_ ⟨by omega,hmd.2,by simp[ho],hd.set _ (by simp only[B];omega),fun j hj=>?_,c6⟩
   .exact gm [0]
   rw[<-fA j (by omega)]
   simp only[qa]
   rw[qm (by omega)]
  intro h3 h4
  refine ah h4 ?_
  have hkq:k=q.length:=by omega
  have hiq:((i:Int)+(q.length:Int)).toNat=i+q.length:=by omega
  rw[hiq]
  refine⟨by omega,by omega,?_⟩
  have bQ:=cw (l:=out) (i:=i+q.length) (by omega) c
  have V6:=aH p i
  rw[z'] at V6
  have c6:val ((out.set (i+q.length) c).take (i+1+q.length))=val (p.take (i+1))*val q:=by
   rw[show i+1+q.length=i+q.length+1 by omega,bQ,V6];rw[hkq,aN (qp _),EA] at hv;grind
  refine aw (i+1,out.set (i+q.length) c) ?_ ⟨by omega,by simp[ho],hd.set _ (by simp only[B];omega),c6⟩
  exact gm [0]
 intro h1 h2
 refine ah h2 ?_
 have RK:i=p.length:=by omega
 refine gp (gN uS gJ (by omega)) ?_ ?_
 .simp[bH,eS,dS,dI,aJ,D9]
  rw[dm (by simp[aJ,D9])]
 refine a9 ?_
 refine bc ?_
 rw[RK,aN (by omega),aN (qp _),yA,Oe] at EA
 exact j8 EA
theorem UD (l:List Nat) (d:Nat) (hl:Dig l) (pa:l.length<100000000000) (hd:d<4294967296) (gJ:0<d):
 Den Tryz.prog 225 [] [.fv (.sl (u32s l)),.int .u32 d] [] (.tup [.fv (N (val l / d)),.int .u32 ((val l % d:Nat):Int)]):=by
 refine dq Tryz.func225 33 0 ?_
 refine aW ?_
 refine⟨by omega,?_⟩
 refine wl (α:=Nat×Nat×List Nat) (fun⟨k,r,out⟩=>⟨.fv (.sl (u32s l)):: .int .u32 d:: .any:: .any:: .nilsl:: .fv (.lit (.int .u32 0)):: .lsl 0 0 l.length 1:: .int .u32 r:: .int .i64 ((k:Int) - 1)::replicate 26 .any,[.row true (u32s out)]⟩)
  (fun⟨k,_,_⟩=>k) (fun⟨k,r,out⟩=>k<=l.length/\r<d/\out.length=l.length/\Dig out/\val (out.drop k)*d+r=val (l.drop k)) (l.length,0,replicate l.length 0) ?_ ?_ ?_
 .exact gm [0]
 .exact⟨by omega,gJ,by simp,Dig.zeros,by simp[val]⟩
 rintro⟨k,r,out⟩ ⟨hk,hr,ho,yD,hv⟩
 refine aW ?_
 refine bK ?_ ?_
 .intro h1 h2
  refine ah h2 ?_
  obtain⟨j,rfl⟩: ∃ j,k=j+1:=⟨k - 1,by omega⟩
  have hj:(((j+1:Nat):Int) - 1).toNat=j:=by omega
  rw[hj]
  have hx:=hl.getD j
  simp only[B] at hx
  have sr:=ew (l:=l) (j:=j) (by omega)
  generalize z':l.getD j 0=x at*
  have afs:=UB r x d (by omega) hx hd hr
  have hq:(r*4294967296+x) / d<4294967296:=by
   rw[Nat.div_lt_iff_lt_mul (by omega)];have:(r+1)*4294967296<=d*4294967296:=qn _ hr;rw[Nat.mul_comm 4294967296 d];omega
  have f1:(r*4294967296+x) % d<d:=Nat.mod_lt _ (by omega)
  have hqr:=Nat.mod_add_div (r*4294967296+x) d
  generalize (r*4294967296+x) / d=Q at*
  generalize (r*4294967296+x) % d=R at*
  refine⟨by omega,?_⟩
  refine aM afs ?_
  refine ah hj ?_
  refine⟨by omega,by omega,?_⟩
  have RP:=mb (l:=out) (j:=j) (x:=Q) (by omega)
  refine aw (j,R,out.set j Q) ?_ ⟨by omega,f1,by simp[ho],yD.set _ hq,?_⟩
  .exact gm [0]
  rw[RP,sr,<-hv]
  simp only[B]
  grind
 intro h1 h2
 refine ah h2 ?_
 have RO:k=0:=by omega
 subst RO
 simp only[List.drop_zero] at hv
 have qM:val out=val l / d/\r=val l % d:=by
  rw[<-hv,Nat.mul_comm,Nat.mul_add_div gJ,Nat.mul_add_mod,Nat.div_eq_of_lt hr,Nat.mod_eq_of_lt hr];exact⟨rfl,rfl⟩
 refine gp (gN out yD (by omega)) ?_ ?_
 .simp[bH,eS,dS,dI,aJ,ho]
  rw[dm (by simp[aJ,ho])]
 refine a9 ?_
 refine bc ?_
 rw[<-qM.1,<-qM.2]
 exact D7
theorem Lk (l:List Nat) (k:Nat) (hl:Dig l) (pa:l.length<100000000000) (hk:k<32):
 Den Tryz.prog 258 [] [.fv (.sl (u32s l)),.int .u64 k] [.row true (u32s (gG (l.length+1) (val l*2^k)))] (.lsl 0 0 (l.length+1) 1):=by
 have Ie:2^k<=2147483648:=Nat.pow_le_pow_right (by decide) (show k<=31 by omega)
 have pd:0<2^k:=Nat.two_pow_pos k
 have yE:(k<=64)=True:=by simp;omega
 refine dq Tryz.func258 39 0 ?_
 refine aW ?_
 refine⟨by omega,?_⟩
 have hn:((l.length:Int)+1).toNat=l.length+1:=by omega
 refine wl (α:=Nat×List Nat) (fun⟨i,out⟩=>⟨.fv (.sl (u32s l)):: .int .u64 k:: .any:: .any:: .nilsl:: .lsl 0 0 (l.length+1) 1::(replicate 7 .any++ .fv (.sl (u32s l)):: .int .i64 l.length:: .int .i64 i::replicate 25 .any),[.row true (u32s out)]⟩)
  (fun⟨i,_⟩=>l.length - i) (fun⟨i,out⟩=>i<=l.length/\out.length=l.length+1/\Dig out/\val (out.take (i+1))=val (l.take i)*2^k/\out.getD i 0<2^k) (0,replicate (l.length+1) 0) ?_ ?_ ?_
 .refine fW [0] ?_ ?_
  .simp[bO,eT,cJ,hn]
  simp[fM,fC,hn]
 .refine⟨by omega,by simp,Dig.zeros,?_,?_⟩
  .simp[val,List.replicate_succ]
  simp[List.replicate_succ];omega
 rintro⟨i,out⟩ ⟨hi,ho,yD,hv,D'⟩
 refine aW ?_
 refine bK ?_ ?_
 .intro h1 h2
  have hx:=hl.getD i
  simp only[B] at hx
  have fD:=aH l i
  have V7:=aH out i
  generalize z':l.getD i 0=x at*
  generalize Pn:out.getD i 0=y at*
  have XG:x*2^k<9223372036854775808:=by
   have:x*2^k<=4294967295*2147483648:=Nat.mul_le_mul (by omega) Ie;omega
  have Ea:(x:Int)*2^k=((x*2^k:Nat):Int):=by rw[Int.natCast_mul,Int.natCast_pow];rfl
  have D8:=B3 (d:=x) (k:=k) (by omega)
  generalize yF:x*2^k=v at*
  have hwv:IntKind.u32.wrap (v:Int)=((v % 4294967296:Nat):Int):=by rw[df];rfl
  have Po:=aeD k D' D8 (by omega) (Nat.mod_lt _ (by decide))
  have pJ:((i:Int)+1).toNat=i+1:=by omega
  have kL:=B4 (k:=k) (by omega) D8 (Nat.mod_lt _ (by decide))
  have gK:v / 4294967296<2^k:=by
   rw[Nat.div_lt_iff_lt_mul (by decide),<-yF,Nat.mul_comm];exact Nat.mul_lt_mul_of_pos_left hx pd
  have hvh:(v:Int) / 4294967296=((v / 4294967296:Nat):Int):=by rw[Int.natCast_ediv];rfl
  have bQ:=cw (l:=out) (i:=i) (by omega) (y+v % 4294967296)
  have xy:=cw (l:=out.set i (y+v % 4294967296)) (i:=i+1) (by simp;omega) (v / 4294967296)
  have uT:(out.set i (y+v % 4294967296)).length=l.length+1:=by simp[ho]
  refine ah (bU h2 yE Ea z' Pn hwv Po (a8 pJ hvh)) ?_
  refine⟨by omega,by omega,by omega,by omega,by omega,by omega,by omega,by omega,by omega,?_⟩
  refine aw (i+1,(out.set i (y+v % 4294967296)).set (i+1) (v / 4294967296)) ?_ ⟨by omega,by simp[ho],(yD.set _ (by simp only[B];omega)).set _ (by simp only[B];omega),?_,?_⟩
  .exact gm [0]
  .rw[xy,bQ,fD]
   have qM:=Nat.mod_add_div v 4294967296
   rw[V7] at hv
   generalize v % 4294967296=vl at*
   generalize v / 4294967296=vh at*
   rw[Nat.pow_succ]
   simp only[B] at*
   grind
  have:((out.set i (y+v % 4294967296)).set (i+1) (v / 4294967296)).getD (i+1) 0=v / 4294967296:=by
   rw[qa,qv (by rw[uT];omega)];rfl
  rw[this]
  exact gK
 intro h1 h2
 refine ah h2 ?_
 have eV:i=l.length:=by omega
 have nw:val out=val l*2^k:=by
  rw[eV,aN (by omega),aN (qp _)] at hv;exact hv
 rw[<-nw,<-ho,<-Ag yD,ho]
 exact RetOK.own rfl ⟨b',b'⟩ rfl
end Go.Proofs.YtiaaceeelfhdlaaGreat
