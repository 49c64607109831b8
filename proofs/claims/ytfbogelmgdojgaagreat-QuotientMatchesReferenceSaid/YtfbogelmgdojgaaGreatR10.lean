/- Texts Ty in one. -/
import Derived.Test.YtfbogelmgdojgaaGreatR09
import Derived.Test.YtfbogelmgdojgaaGreatRows
import Derived.KernelRfl
/- Facts on the types of the program, printed by a program of mine. -/
namespace Go.Proofs.YtfbogelmgdojgaaGreat
@[go_sem] theorem tyU2 : Tryz.prog.underlying 2 = some (.int .i64) := by kernel_rfl
@[go_sem] theorem tyS3 : tySize Tryz.prog 3 = some 1 := by kernel_rfl
@[go_sem] theorem tyG3 : tyAgg Tryz.prog 3 = some false := by kernel_rfl
@[go_sem] theorem tyZ3 : tyZero Tryz.prog 3 = some (.raw (.int .i64 0)) := by kernel_rfl
@[go_sem] theorem tyU3 : Tryz.prog.underlying 3 = some (.int .i64) := by kernel_rfl
@[go_sem] theorem tyS4 : tySize Tryz.prog 4 = some 1 := by kernel_rfl
@[go_sem] theorem tyG4 : tyAgg Tryz.prog 4 = some false := by kernel_rfl
@[go_sem] theorem tyU4 : Tryz.prog.underlying 4 = some .bool := by kernel_rfl
@[go_sem] theorem tyS22 : tySize Tryz.prog 22 = some 1 := by kernel_rfl
@[go_sem] theorem tyG22 : tyAgg Tryz.prog 22 = some false := by kernel_rfl
@[go_sem] theorem tyE22 : tyElem Tryz.prog 22 = some (24, 1) := by kernel_rfl
@[go_sem] theorem tyU22 : Tryz.prog.underlying 22 = some (.slice 24) := by kernel_rfl
@[go_sem] theorem tyS23 : tySize Tryz.prog 23 = some 1 := by kernel_rfl
@[go_sem] theorem tyG23 : tyAgg Tryz.prog 23 = some false := by kernel_rfl
@[go_sem] theorem tyE23 : tyElem Tryz.prog 23 = some (25, 2) := by kernel_rfl
@[go_sem] theorem tyU23 : Tryz.prog.underlying 23 = some (.slice 25) := by kernel_rfl
@[go_sem] theorem tyS24 : tySize Tryz.prog 24 = some 1 := by kernel_rfl
@[go_sem] theorem tyG24 : tyAgg Tryz.prog 24 = some false := by kernel_rfl
@[go_sem] theorem tyZ24 : tyZero Tryz.prog 24 = some (.raw (.int .i8 0)) := by kernel_rfl
@[go_sem] theorem tyU24 : Tryz.prog.underlying 24 = some (.int .i8) := by kernel_rfl
@[go_sem] theorem tyE25 : tyElem Tryz.prog 25 = none := by kernel_rfl
@[go_sem] theorem tyA25 : tyArr Tryz.prog 25 = some (2, 24, 1) := by kernel_rfl
@[go_sem] theorem tyS27 : tySize Tryz.prog 27 = some 5 := by kernel_rfl
@[go_sem] theorem tyG27 : tyAgg Tryz.prog 27 = some true := by kernel_rfl
@[go_sem] theorem tyF27_0 : tyField Tryz.prog 27 0 = some (0, 1, false) := by kernel_rfl
@[go_sem] theorem tyF27_1 : tyField Tryz.prog 27 1 = some (1, 1, false) := by kernel_rfl
@[go_sem] theorem tyF27_2 : tyField Tryz.prog 27 2 = some (2, 1, false) := by kernel_rfl
@[go_sem] theorem tyS29 : tySize Tryz.prog 29 = some 1 := by kernel_rfl
@[go_sem] theorem tyB29 : tyBytes Tryz.prog 29 = some 24 := by kernel_rfl
@[go_sem] theorem tyG29 : tyAgg Tryz.prog 29 = some false := by kernel_rfl
@[go_sem] theorem tyZ29 : tyZero Tryz.prog 29 = some (.raw (.slice none 0 0)) := by kernel_rfl
@[go_sem] theorem tyE29 : tyElem Tryz.prog 29 = some (45, 4) := by kernel_rfl
@[go_sem] theorem tyU29 : Tryz.prog.underlying 29 = some (.slice 45) := by kernel_rfl
@[go_sem] theorem tyS30 : tySize Tryz.prog 30 = some 1 := by kernel_rfl
@[go_sem] theorem tyB30 : tyBytes Tryz.prog 30 = some 24 := by kernel_rfl
@[go_sem] theorem tyG30 : tyAgg Tryz.prog 30 = some false := by kernel_rfl
@[go_sem] theorem tyZ30 : tyZero Tryz.prog 30 = some (.raw (.slice none 0 0)) := by kernel_rfl
@[go_sem] theorem tyE30 : tyElem Tryz.prog 30 = some (45, 4) := by kernel_rfl
@[go_sem] theorem tyU30 : Tryz.prog.underlying 30 = some (.slice 45) := by kernel_rfl
@[go_sem] theorem tyS41 : tySize Tryz.prog 41 = some 1 := by kernel_rfl
@[go_sem] theorem tyG41 : tyAgg Tryz.prog 41 = some false := by kernel_rfl
@[go_sem] theorem tyE41 : tyElem Tryz.prog 41 = some (110, 1) := by kernel_rfl
@[go_sem] theorem tyU41 : Tryz.prog.underlying 41 = some (.slice 110) := by kernel_rfl
@[go_sem] theorem tyS43 : tySize Tryz.prog 43 = some 2 := by kernel_rfl
@[go_sem] theorem tyG43 : tyAgg Tryz.prog 43 = some true := by kernel_rfl
@[go_sem] theorem tyZ43 : tyZero Tryz.prog 43 = some (.agg [.raw (.bool false), .raw (.slice none 0 0)]) := by kernel_rfl
@[go_sem] theorem tyF43_0 : tyField Tryz.prog 43 0 = some (0, 1, false) := by kernel_rfl
@[go_sem] theorem tyP43_0 : tyPlace Tryz.prog 43 0 = some (0, 1) := by kernel_rfl
@[go_sem] theorem tyF43_1 : tyField Tryz.prog 43 1 = some (1, 1, false) := by kernel_rfl
@[go_sem] theorem tyP43_1 : tyPlace Tryz.prog 43 1 = some (1, 1) := by kernel_rfl
@[go_sem] theorem tyK43 : tyKids Tryz.prog 43 = some (.agg [.raw (.bool false), .raw (.slice none 0 0)]) := by kernel_rfl
@[go_sem] theorem tyS45 : tySize Tryz.prog 45 = some 4 := by kernel_rfl
@[go_sem] theorem tyB45 : tyBytes Tryz.prog 45 = some 64 := by kernel_rfl
@[go_sem] theorem tyG45 : tyAgg Tryz.prog 45 = some true := by kernel_rfl
@[go_sem] theorem tyZ45 : tyZero Tryz.prog 45 = some (.agg [.raw (.bool false), .raw (.slice none 0 0), .raw (.bool false), .raw (.slice none 0 0)]) := by kernel_rfl
@[go_sem] theorem tyF45_0 : tyField Tryz.prog 45 0 = some (0, 2, true) := by kernel_rfl
@[go_sem] theorem tyP45_0 : tyPlace Tryz.prog 45 0 = some (0, 2) := by kernel_rfl
@[go_sem] theorem tyF45_1 : tyField Tryz.prog 45 1 = some (2, 2, true) := by kernel_rfl
@[go_sem] theorem tyP45_1 : tyPlace Tryz.prog 45 1 = some (2, 2) := by kernel_rfl
@[go_sem] theorem tyK45 : tyKids Tryz.prog 45 = some (.agg [.agg [.raw (.bool false), .raw (.slice none 0 0)], .agg [.raw (.bool false), .raw (.slice none 0 0)]]) := by kernel_rfl
@[go_sem] theorem tyE66 : tyElem Tryz.prog 66 = some (29, 1) := by kernel_rfl
@[go_sem] theorem tyU66 : Tryz.prog.underlying 66 = some (.slice 29) := by kernel_rfl
@[go_sem] theorem tyF75_0 : tyField Tryz.prog 75 0 = some (0, 1, false) := by kernel_rfl
@[go_sem] theorem tyP75_0 : tyPlace Tryz.prog 75 0 = some (0, 1) := by kernel_rfl
@[go_sem] theorem tyK75 : tyKids Tryz.prog 75 = some (.agg [.raw (.slice none 0 0)]) := by kernel_rfl
@[go_sem] theorem tyE76 : tyElem Tryz.prog 76 = some (30, 1) := by kernel_rfl
@[go_sem] theorem tyU76 : Tryz.prog.underlying 76 = some (.slice 30) := by kernel_rfl
@[go_sem] theorem tyE81 : tyElem Tryz.prog 81 = some (84, 2) := by kernel_rfl
@[go_sem] theorem tyU81 : Tryz.prog.underlying 81 = some (.slice 84) := by kernel_rfl
@[go_sem] theorem tyS84 : tySize Tryz.prog 84 = some 2 := by kernel_rfl
@[go_sem] theorem tyB84 : tyBytes Tryz.prog 84 = some 32 := by kernel_rfl
@[go_sem] theorem tyG84 : tyAgg Tryz.prog 84 = some true := by kernel_rfl
@[go_sem] theorem tyZ84 : tyZero Tryz.prog 84 = some (.agg [.raw (.slice none 0 0), .raw (.int .i64 0)]) := by kernel_rfl
@[go_sem] theorem tyF84_0 : tyField Tryz.prog 84 0 = some (0, 1, false) := by kernel_rfl
@[go_sem] theorem tyP84_0 : tyPlace Tryz.prog 84 0 = some (0, 1) := by kernel_rfl
@[go_sem] theorem tyP84_1 : tyPlace Tryz.prog 84 1 = some (1, 1) := by kernel_rfl
@[go_sem] theorem tyK84 : tyKids Tryz.prog 84 = some (.agg [.raw (.slice none 0 0), .raw (.int .i64 0)]) := by kernel_rfl
@[go_sem] theorem tyE85 : tyElem Tryz.prog 85 = some (87, 2) := by kernel_rfl
@[go_sem] theorem tyU85 : Tryz.prog.underlying 85 = some (.slice 87) := by kernel_rfl
@[go_sem] theorem tyS87 : tySize Tryz.prog 87 = some 2 := by kernel_rfl
@[go_sem] theorem tyB87 : tyBytes Tryz.prog 87 = some 48 := by kernel_rfl
@[go_sem] theorem tyG87 : tyAgg Tryz.prog 87 = some true := by kernel_rfl
@[go_sem] theorem tyZ87 : tyZero Tryz.prog 87 = some (.agg [.raw (.slice none 0 0), .raw (.slice none 0 0)]) := by kernel_rfl
@[go_sem] theorem tyF87_0 : tyField Tryz.prog 87 0 = some (0, 1, false) := by kernel_rfl
@[go_sem] theorem tyP87_0 : tyPlace Tryz.prog 87 0 = some (0, 1) := by kernel_rfl
@[go_sem] theorem tyF87_1 : tyField Tryz.prog 87 1 = some (1, 1, false) := by kernel_rfl
@[go_sem] theorem tyP87_1 : tyPlace Tryz.prog 87 1 = some (1, 1) := by kernel_rfl
@[go_sem] theorem tyK87 : tyKids Tryz.prog 87 = some (.agg [.raw (.slice none 0 0), .raw (.slice none 0 0)]) := by kernel_rfl
@[go_sem] theorem tyS97 : tySize Tryz.prog 97 = some 3 := by kernel_rfl
@[go_sem] theorem tyG97 : tyAgg Tryz.prog 97 = some true := by kernel_rfl
@[go_sem] theorem tyZ97 : tyZero Tryz.prog 97 = some (.agg [.raw (.slice none 0 0), .raw (.slice none 0 0), .raw (.slice none 0 0)]) := by kernel_rfl
@[go_sem] theorem tyF97_0 : tyField Tryz.prog 97 0 = some (0, 1, false) := by kernel_rfl
@[go_sem] theorem tyP97_0 : tyPlace Tryz.prog 97 0 = some (0, 1) := by kernel_rfl
@[go_sem] theorem tyF97_1 : tyField Tryz.prog 97 1 = some (1, 1, false) := by kernel_rfl
@[go_sem] theorem tyP97_1 : tyPlace Tryz.prog 97 1 = some (1, 1) := by kernel_rfl
@[go_sem] theorem tyF97_2 : tyField Tryz.prog 97 2 = some (2, 1, false) := by kernel_rfl
@[go_sem] theorem tyP97_2 : tyPlace Tryz.prog 97 2 = some (2, 1) := by kernel_rfl
@[go_sem] theorem tyK97 : tyKids Tryz.prog 97 = some (.agg [.raw (.slice none 0 0), .raw (.slice none 0 0), .raw (.slice none 0 0)]) := by kernel_rfl
@[go_sem] theorem tyS98 : tySize Tryz.prog 98 = some 6 := by kernel_rfl
@[go_sem] theorem tyZ98 : tyZero Tryz.prog 98 = some (.agg [.raw (.slice none 0 0), .raw (.slice none 0 0), .raw (.slice none 0 0), .raw (.slice none 0 0), .raw (.slice none 0 0), .raw (.slice none 0 0)]) := by kernel_rfl
@[go_sem] theorem tyE98 : tyElem Tryz.prog 98 = none := by kernel_rfl
@[go_sem] theorem tyA98 : tyArr Tryz.prog 98 = some (2, 97, 3) := by kernel_rfl
@[go_sem] theorem tyK98 : tyKids Tryz.prog 98 = some (.agg [.agg [.raw (.slice none 0 0), .raw (.slice none 0 0), .raw (.slice none 0 0)], .agg [.raw (.slice none 0 0), .raw (.slice none 0 0), .raw (.slice none 0 0)]]) := by kernel_rfl
@[go_sem] theorem tyP98_0 : tyPlace Tryz.prog 98 0 = some (0, 3) := by kernel_rfl
@[go_sem] theorem tyP98_1 : tyPlace Tryz.prog 98 1 = some (3, 3) := by kernel_rfl
@[go_sem] theorem tyU108 : Tryz.prog.underlying 108 = some (.int .u64) := by kernel_rfl
@[go_sem] theorem tyS110 : tySize Tryz.prog 110 = some 1 := by kernel_rfl
@[go_sem] theorem tyB110 : tyBytes Tryz.prog 110 = some 4 := by kernel_rfl
@[go_sem] theorem tyG110 : tyAgg Tryz.prog 110 = some false := by kernel_rfl
@[go_sem] theorem tyZ110 : tyZero Tryz.prog 110 = some (.raw (.int .u32 0)) := by kernel_rfl
@[go_sem] theorem tyU110 : Tryz.prog.underlying 110 = some (.int .u32) := by kernel_rfl
@[go_sem] theorem tyU111 : Tryz.prog.underlying 111 = some (.int .u64) := by kernel_rfl
@[go_sem] theorem tyE120 : tyElem Tryz.prog 120 = some (43, 2) := by kernel_rfl
@[go_sem] theorem tyU120 : Tryz.prog.underlying 120 = some (.slice 43) := by kernel_rfl
end Go.Proofs.YtfbogelmgdojgaaGreat

