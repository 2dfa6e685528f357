/- The types of the program, as the abstract machine asks them; and that they are the program's. -/
import Derived.Test.YteifpjjnphcdcaaA4
import Derived.Test.YteifpjjnphcdcaaProg
import Derived.KernelRfl

namespace Go.Proofs.Yteifpjjnphcdcaa
open Go.AM
set_option maxRecDepth 100000
def ty3 : TyI := ⟨.int .i64, 1, 8, [.fv (.lit (.int .i64 0))]⟩
def ty4 : TyI := ⟨.bool, 1, 1, [.fv (.lit (.bool false))]⟩
def ty5 : TyI := ⟨.int .u8, 1, 1, [.fv (.lit (.int .u8 0))]⟩
def ty9 : TyI := ⟨.str, 1, 16, [.fv (.lit (.string ⟨#[]⟩))]⟩
def ty22 : TyI := ⟨.sl 3, 1, 24, [.nilsl]⟩
def ty23 : TyI := ⟨.sl 73, 1, 24, [.nilsl]⟩
def ty25 : TyI := ⟨.st [⟨0, 1, false⟩, ⟨1, 1, false⟩, ⟨2, 1, false⟩], 3, 56, [.fv (.lit (.bool false)), .nilsl, .nilsl]⟩
def ty26 : TyI := ⟨.arr 8 25, 24, 448, [.fv (.lit (.bool false)), .nilsl, .nilsl, .fv (.lit (.bool false)), .nilsl, .nilsl, .fv (.lit (.bool false)), .nilsl, .nilsl, .fv (.lit (.bool false)), .nilsl, .nilsl, .fv (.lit (.bool false)), .nilsl, .nilsl, .fv (.lit (.bool false)), .nilsl, .nilsl, .fv (.lit (.bool false)), .nilsl, .nilsl, .fv (.lit (.bool false)), .nilsl, .nilsl]⟩
def ty28 : TyI := ⟨.st [⟨0, 24, true⟩, ⟨24, 3, true⟩], 27, 504, [.fv (.lit (.bool false)), .nilsl, .nilsl, .fv (.lit (.bool false)), .nilsl, .nilsl, .fv (.lit (.bool false)), .nilsl, .nilsl, .fv (.lit (.bool false)), .nilsl, .nilsl, .fv (.lit (.bool false)), .nilsl, .nilsl, .fv (.lit (.bool false)), .nilsl, .nilsl, .fv (.lit (.bool false)), .nilsl, .nilsl, .fv (.lit (.bool false)), .nilsl, .nilsl, .fv (.lit (.bool false)), .nilsl, .nilsl]⟩
def ty30 : TyI := ⟨.other, 1, 8, [.fv (.lit (.pointer none))]⟩
def ty37 : TyI := ⟨.int .i64, 1, 8, [.fv (.lit (.int .i64 0))]⟩
def ty50 : TyI := ⟨.sl 25, 1, 24, [.nilsl]⟩
def ty58 : TyI := ⟨.st [⟨0, 1, false⟩, ⟨1, 1, false⟩, ⟨2, 1, false⟩], 3, 40, [.nilsl, .fv (.lit (.int .i64 0)), .fv (.lit (.int .i64 0))]⟩
def ty60 : TyI := ⟨.other, 1, 8, [.fv (.lit (.nilFunc))]⟩
def ty73 : TyI := ⟨.int .u32, 1, 4, [.fv (.lit (.int .u32 0))]⟩
def ty82 : TyI := ⟨.st [⟨0, 1, false⟩], 1, 1, [.fv (.lit (.bool false))]⟩
def ty84 : TyI := ⟨.st [⟨0, 1, false⟩, ⟨1, 1, false⟩], 2, 48, [.nilsl, .nilsl]⟩
def ty86 : TyI := ⟨.st [⟨0, 1, true⟩, ⟨1, 2, true⟩], 3, 56, [.fv (.lit (.bool false)), .nilsl, .nilsl]⟩
def ty96 : TyI := ⟨.int .u64, 1, 8, [.fv (.lit (.int .u64 0))]⟩
def ty97 : TyI := ⟨.int .u64, 1, 8, [.fv (.lit (.int .u64 0))]⟩
def ty116 : TyI := ⟨.other, 1, 16, [.fv (.lit (.nilIface))]⟩
def tab : Tab := [(3, ty3), (4, ty4), (5, ty5), (9, ty9), (22, ty22), (23, ty23), (25, ty25), (26, ty26), (28, ty28), (30, ty30), (37, ty37), (50, ty50), (58, ty58), (60, ty60), (73, ty73), (82, ty82), (84, ty84), (86, ty86), (96, ty96), (97, ty97), (116, ty116)]
theorem at3 : tab.at 3 = some ⟨.int .i64, 1, 8, [.fv (.lit (.int .i64 0))]⟩ := rfl
theorem at4 : tab.at 4 = some ⟨.bool, 1, 1, [.fv (.lit (.bool false))]⟩ := rfl
theorem at5 : tab.at 5 = some ⟨.int .u8, 1, 1, [.fv (.lit (.int .u8 0))]⟩ := rfl
theorem at9 : tab.at 9 = some ⟨.str, 1, 16, [.fv (.lit (.string ⟨#[]⟩))]⟩ := rfl
theorem at22 : tab.at 22 = some ⟨.sl 3, 1, 24, [.nilsl]⟩ := rfl
theorem at23 : tab.at 23 = some ⟨.sl 73, 1, 24, [.nilsl]⟩ := rfl
theorem at25 : tab.at 25 = some ⟨.st [⟨0, 1, false⟩, ⟨1, 1, false⟩, ⟨2, 1, false⟩], 3, 56, [.fv (.lit (.bool false)), .nilsl, .nilsl]⟩ := rfl
theorem at26 : tab.at 26 = some ⟨.arr 8 25, 24, 448, [.fv (.lit (.bool false)), .nilsl, .nilsl, .fv (.lit (.bool false)), .nilsl, .nilsl, .fv (.lit (.bool false)), .nilsl, .nilsl, .fv (.lit (.bool false)), .nilsl, .nilsl, .fv (.lit (.bool false)), .nilsl, .nilsl, .fv (.lit (.bool false)), .nilsl, .nilsl, .fv (.lit (.bool false)), .nilsl, .nilsl, .fv (.lit (.bool false)), .nilsl, .nilsl]⟩ := rfl
theorem at28 : tab.at 28 = some ⟨.st [⟨0, 24, true⟩, ⟨24, 3, true⟩], 27, 504, [.fv (.lit (.bool false)), .nilsl, .nilsl, .fv (.lit (.bool false)), .nilsl, .nilsl, .fv (.lit (.bool false)), .nilsl, .nilsl, .fv (.lit (.bool false)), .nilsl, .nilsl, .fv (.lit (.bool false)), .nilsl, .nilsl, .fv (.lit (.bool false)), .nilsl, .nilsl, .fv (.lit (.bool false)), .nilsl, .nilsl, .fv (.lit (.bool false)), .nilsl, .nilsl, .fv (.lit (.bool false)), .nilsl, .nilsl]⟩ := rfl
theorem at30 : tab.at 30 = some ⟨.other, 1, 8, [.fv (.lit (.pointer none))]⟩ := rfl
theorem at37 : tab.at 37 = some ⟨.int .i64, 1, 8, [.fv (.lit (.int .i64 0))]⟩ := rfl
theorem at50 : tab.at 50 = some ⟨.sl 25, 1, 24, [.nilsl]⟩ := rfl
theorem at58 : tab.at 58 = some ⟨.st [⟨0, 1, false⟩, ⟨1, 1, false⟩, ⟨2, 1, false⟩], 3, 40, [.nilsl, .fv (.lit (.int .i64 0)), .fv (.lit (.int .i64 0))]⟩ := rfl
theorem at60 : tab.at 60 = some ⟨.other, 1, 8, [.fv (.lit (.nilFunc))]⟩ := rfl
theorem at73 : tab.at 73 = some ⟨.int .u32, 1, 4, [.fv (.lit (.int .u32 0))]⟩ := rfl
theorem at82 : tab.at 82 = some ⟨.st [⟨0, 1, false⟩], 1, 1, [.fv (.lit (.bool false))]⟩ := rfl
theorem at84 : tab.at 84 = some ⟨.st [⟨0, 1, false⟩, ⟨1, 1, false⟩], 2, 48, [.nilsl, .nilsl]⟩ := rfl
theorem at86 : tab.at 86 = some ⟨.st [⟨0, 1, true⟩, ⟨1, 2, true⟩], 3, 56, [.fv (.lit (.bool false)), .nilsl, .nilsl]⟩ := rfl
theorem at96 : tab.at 96 = some ⟨.int .u64, 1, 8, [.fv (.lit (.int .u64 0))]⟩ := rfl
theorem at97 : tab.at 97 = some ⟨.int .u64, 1, 8, [.fv (.lit (.int .u64 0))]⟩ := rfl
theorem at116 : tab.at 116 = some ⟨.other, 1, 16, [.fv (.lit (.nilIface))]⟩ := rfl
theorem tys : type_of% (And.intro at3 (And.intro at4 (And.intro at5 (And.intro at9 (And.intro at22 (And.intro at23 (And.intro at25 (And.intro at26 (And.intro at28 (And.intro at30 (And.intro at37 (And.intro at50 (And.intro at58 (And.intro at60 (And.intro at73 (And.intro at82 (And.intro at84 (And.intro at86 (And.intro at96 (And.intro at97 (at116))))))))))))))))))))) := And.intro at3 (And.intro at4 (And.intro at5 (And.intro at9 (And.intro at22 (And.intro at23 (And.intro at25 (And.intro at26 (And.intro at28 (And.intro at30 (And.intro at37 (And.intro at50 (And.intro at58 (And.intro at60 (And.intro at73 (And.intro at82 (And.intro at84 (And.intro at86 (And.intro at96 (And.intro at97 (at116))))))))))))))))))))
theorem ok3 : TyOk Try.prog 3 ty3 := ⟨⟨_, _, (by kernel_rfl : Try.prog.info? 3 = some Try.t3), rfl, rfl, rfl, rfl, rfl, rfl⟩, Try.underlying3⟩
theorem ok4 : TyOk Try.prog 4 ty4 := ⟨⟨_, _, (by kernel_rfl : Try.prog.info? 4 = some Try.t4), rfl, rfl, rfl, rfl, rfl, rfl⟩, Try.underlying4⟩
theorem ok5 : TyOk Try.prog 5 ty5 := ⟨⟨_, _, (by kernel_rfl : Try.prog.info? 5 = some Try.t5), rfl, rfl, rfl, rfl, rfl, rfl⟩, Try.underlying5⟩
theorem ok9 : TyOk Try.prog 9 ty9 := ⟨⟨_, _, (by kernel_rfl : Try.prog.info? 9 = some Try.t9), rfl, rfl, rfl, rfl, rfl, rfl⟩, Try.underlying9⟩
theorem ok22 : TyOk Try.prog 22 ty22 := ⟨⟨_, _, (by kernel_rfl : Try.prog.info? 22 = some Try.t22), rfl, rfl, rfl, rfl, rfl, rfl⟩, Try.underlying22⟩
theorem ok23 : TyOk Try.prog 23 ty23 := ⟨⟨_, _, (by kernel_rfl : Try.prog.info? 23 = some Try.t23), rfl, rfl, rfl, rfl, rfl, rfl⟩, Try.underlying23⟩
theorem ok25 : TyOk Try.prog 25 ty25 := ⟨⟨_, _, (by kernel_rfl : Try.prog.info? 25 = some Try.t25), rfl, rfl, rfl, rfl, rfl, rfl⟩,
  ⟨_, Try.underlying25, rfl, fun j f fd h1 h2 => match j, f, fd, h1, h2 with
    | 0, _, _, rfl, rfl => ⟨rfl, by decide, _, _, (by kernel_rfl : Try.prog.info? 4 = some Try.t4), rfl, Try.underlying4, rfl⟩
    | 1, _, _, rfl, rfl => ⟨rfl, by decide, _, _, (by kernel_rfl : Try.prog.info? 23 = some Try.t23), rfl, Try.underlying23, rfl⟩
    | 2, _, _, rfl, rfl => ⟨rfl, by decide, _, _, (by kernel_rfl : Try.prog.info? 23 = some Try.t23), rfl, Try.underlying23, rfl⟩
    | j + 3, _, _, h, _ => by simp at h⟩⟩
theorem ok26 : TyOk Try.prog 26 ty26 := ⟨⟨_, _, (by kernel_rfl : Try.prog.info? 26 = some Try.t26), rfl, rfl, rfl, rfl, rfl, rfl⟩, Try.underlying26⟩
theorem ok28 : TyOk Try.prog 28 ty28 := ⟨⟨_, _, (by kernel_rfl : Try.prog.info? 28 = some Try.t28), rfl, rfl, rfl, rfl, rfl, rfl⟩,
  ⟨_, Try.underlying28, rfl, fun j f fd h1 h2 => match j, f, fd, h1, h2 with
    | 0, _, _, rfl, rfl => ⟨rfl, by decide, _, _, (by kernel_rfl : Try.prog.info? 26 = some Try.t26), rfl, Try.underlying26, rfl⟩
    | 1, _, _, rfl, rfl => ⟨rfl, by decide, _, _, (by kernel_rfl : Try.prog.info? 25 = some Try.t25), rfl, Try.underlying25, rfl⟩
    | j + 2, _, _, h, _ => by simp at h⟩⟩
theorem ok30 : TyOk Try.prog 30 ty30 := ⟨⟨_, _, (by kernel_rfl : Try.prog.info? 30 = some Try.t30), rfl, rfl, rfl, rfl, rfl, rfl⟩, ⟨_, Try.underlying30, rfl⟩⟩
theorem ok37 : TyOk Try.prog 37 ty37 := ⟨⟨_, _, (by kernel_rfl : Try.prog.info? 37 = some Try.t37), rfl, rfl, rfl, rfl, rfl, rfl⟩, Try.underlying37⟩
theorem ok50 : TyOk Try.prog 50 ty50 := ⟨⟨_, _, (by kernel_rfl : Try.prog.info? 50 = some Try.t50), rfl, rfl, rfl, rfl, rfl, rfl⟩, Try.underlying50⟩
theorem ok58 : TyOk Try.prog 58 ty58 := ⟨⟨_, _, (by kernel_rfl : Try.prog.info? 58 = some Try.t58), rfl, rfl, rfl, rfl, rfl, rfl⟩,
  ⟨_, Try.underlying58, rfl, fun j f fd h1 h2 => match j, f, fd, h1, h2 with
    | 0, _, _, rfl, rfl => ⟨rfl, by decide, _, _, (by kernel_rfl : Try.prog.info? 22 = some Try.t22), rfl, Try.underlying22, rfl⟩
    | 1, _, _, rfl, rfl => ⟨rfl, by decide, _, _, (by kernel_rfl : Try.prog.info? 3 = some Try.t3), rfl, Try.underlying3, rfl⟩
    | 2, _, _, rfl, rfl => ⟨rfl, by decide, _, _, (by kernel_rfl : Try.prog.info? 3 = some Try.t3), rfl, Try.underlying3, rfl⟩
    | j + 3, _, _, h, _ => by simp at h⟩⟩
theorem ok60 : TyOk Try.prog 60 ty60 := ⟨⟨_, _, (by kernel_rfl : Try.prog.info? 60 = some Try.t60), rfl, rfl, rfl, rfl, rfl, rfl⟩, ⟨_, Try.underlying60, rfl⟩⟩
theorem ok73 : TyOk Try.prog 73 ty73 := ⟨⟨_, _, (by kernel_rfl : Try.prog.info? 73 = some Try.t73), rfl, rfl, rfl, rfl, rfl, rfl⟩, Try.underlying73⟩
theorem ok82 : TyOk Try.prog 82 ty82 := ⟨⟨_, _, (by kernel_rfl : Try.prog.info? 82 = some Try.t82), rfl, rfl, rfl, rfl, rfl, rfl⟩,
  ⟨_, Try.underlying82, rfl, fun j f fd h1 h2 => match j, f, fd, h1, h2 with
    | 0, _, _, rfl, rfl => ⟨rfl, by decide, _, _, (by kernel_rfl : Try.prog.info? 4 = some Try.t4), rfl, Try.underlying4, rfl⟩
    | j + 1, _, _, h, _ => by simp at h⟩⟩
theorem ok84 : TyOk Try.prog 84 ty84 := ⟨⟨_, _, (by kernel_rfl : Try.prog.info? 84 = some Try.t84), rfl, rfl, rfl, rfl, rfl, rfl⟩,
  ⟨_, Try.underlying84, rfl, fun j f fd h1 h2 => match j, f, fd, h1, h2 with
    | 0, _, _, rfl, rfl => ⟨rfl, by decide, _, _, (by kernel_rfl : Try.prog.info? 23 = some Try.t23), rfl, Try.underlying23, rfl⟩
    | 1, _, _, rfl, rfl => ⟨rfl, by decide, _, _, (by kernel_rfl : Try.prog.info? 23 = some Try.t23), rfl, Try.underlying23, rfl⟩
    | j + 2, _, _, h, _ => by simp at h⟩⟩
theorem ok86 : TyOk Try.prog 86 ty86 := ⟨⟨_, _, (by kernel_rfl : Try.prog.info? 86 = some Try.t86), rfl, rfl, rfl, rfl, rfl, rfl⟩,
  ⟨_, Try.underlying86, rfl, fun j f fd h1 h2 => match j, f, fd, h1, h2 with
    | 0, _, _, rfl, rfl => ⟨rfl, by decide, _, _, (by kernel_rfl : Try.prog.info? 82 = some Try.t82), rfl, Try.underlying82, rfl⟩
    | 1, _, _, rfl, rfl => ⟨rfl, by decide, _, _, (by kernel_rfl : Try.prog.info? 84 = some Try.t84), rfl, Try.underlying84, rfl⟩
    | j + 2, _, _, h, _ => by simp at h⟩⟩
theorem ok96 : TyOk Try.prog 96 ty96 := ⟨⟨_, _, (by kernel_rfl : Try.prog.info? 96 = some Try.t96), rfl, rfl, rfl, rfl, rfl, rfl⟩, Try.underlying96⟩
theorem ok97 : TyOk Try.prog 97 ty97 := ⟨⟨_, _, (by kernel_rfl : Try.prog.info? 97 = some Try.t97), rfl, rfl, rfl, rfl, rfl, rfl⟩, Try.underlying97⟩
theorem ok116 : TyOk Try.prog 116 ty116 := ⟨⟨_, _, (by kernel_rfl : Try.prog.info? 116 = some Try.t116), rfl, rfl, rfl, rfl, rfl, rfl⟩, ⟨_, Try.underlying116, rfl⟩⟩
theorem tabOk : TabOk Try.prog tab := by
  refine tabOk_of (fun e he => ?_)
  simp only [tab, List.mem_cons, List.not_mem_nil, or_false] at he
  rcases he with rfl | rfl | rfl | rfl | rfl | rfl | rfl | rfl | rfl | rfl | rfl | rfl | rfl | rfl | rfl | rfl | rfl | rfl | rfl | rfl | rfl
  · exact ok3
  · exact ok4
  · exact ok5
  · exact ok9
  · exact ok22
  · exact ok23
  · exact ok25
  · exact ok26
  · exact ok28
  · exact ok30
  · exact ok37
  · exact ok50
  · exact ok58
  · exact ok60
  · exact ok73
  · exact ok82
  · exact ok84
  · exact ok86
  · exact ok96
  · exact ok97
  · exact ok116
theorem mixed : Try.prog.follows .mixedOrders = true := by kernel_rfl
end Go.Proofs.Yteifpjjnphcdcaa
