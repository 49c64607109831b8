/- Texts Ty A21 A22 A23 in one. -/
import Derived.Test.YtfbogelmgdojgaaGreatP07
import Derived.Test.YtfbogelmgdojgaaGreatRows
import Derived.KernelRfl
/- Facts on the types of the program, printed by a program of mine. -/
namespace Go.Proofs.YtfbogelmgdojgaaGreat
@[go_sem] theorem tyS1 : tySize Tryz.prog 1 = some 1 := by kernel_rfl
@[go_sem] theorem tyB1 : tyBytes Tryz.prog 1 = some 8 := by kernel_rfl
@[go_sem] theorem tyG1 : tyAgg Tryz.prog 1 = some false := by kernel_rfl
@[go_sem] theorem tyZ1 : tyZero Tryz.prog 1 = some (.raw (.nilFunc)) := by kernel_rfl
@[go_sem] theorem tyE1 : tyElem Tryz.prog 1 = none := by kernel_rfl
@[go_sem] theorem tyS2 : tySize Tryz.prog 2 = some 1 := by kernel_rfl
@[go_sem] theorem tyB2 : tyBytes Tryz.prog 2 = some 8 := by kernel_rfl
@[go_sem] theorem tyG2 : tyAgg Tryz.prog 2 = some false := by kernel_rfl
@[go_sem] theorem tyZ2 : tyZero Tryz.prog 2 = some (.raw (.int .i64 0)) := by kernel_rfl
@[go_sem] theorem tyE2 : tyElem Tryz.prog 2 = none := by kernel_rfl
@[go_sem] theorem tyU2 : Tryz.prog.underlying 2 = some (.int .i64) := by kernel_rfl
@[go_sem] theorem tyS3 : tySize Tryz.prog 3 = some 1 := by kernel_rfl
@[go_sem] theorem tyB3 : tyBytes Tryz.prog 3 = some 8 := by kernel_rfl
@[go_sem] theorem tyG3 : tyAgg Tryz.prog 3 = some false := by kernel_rfl
@[go_sem] theorem tyZ3 : tyZero Tryz.prog 3 = some (.raw (.int .i64 0)) := by kernel_rfl
@[go_sem] theorem tyE3 : tyElem Tryz.prog 3 = none := by kernel_rfl
@[go_sem] theorem tyU3 : Tryz.prog.underlying 3 = some (.int .i64) := by kernel_rfl
@[go_sem] theorem tyS4 : tySize Tryz.prog 4 = some 1 := by kernel_rfl
@[go_sem] theorem tyB4 : tyBytes Tryz.prog 4 = some 1 := by kernel_rfl
@[go_sem] theorem tyG4 : tyAgg Tryz.prog 4 = some false := by kernel_rfl
@[go_sem] theorem tyZ4 : tyZero Tryz.prog 4 = some (.raw (.bool false)) := by kernel_rfl
@[go_sem] theorem tyE4 : tyElem Tryz.prog 4 = none := by kernel_rfl
@[go_sem] theorem tyU4 : Tryz.prog.underlying 4 = some .bool := by kernel_rfl
@[go_sem] theorem tyS5 : tySize Tryz.prog 5 = some 1 := by kernel_rfl
@[go_sem] theorem tyB5 : tyBytes Tryz.prog 5 = some 1 := by kernel_rfl
@[go_sem] theorem tyG5 : tyAgg Tryz.prog 5 = some false := by kernel_rfl
@[go_sem] theorem tyZ5 : tyZero Tryz.prog 5 = some (.raw (.int .u8 0)) := by kernel_rfl
@[go_sem] theorem tyE5 : tyElem Tryz.prog 5 = none := by kernel_rfl
@[go_sem] theorem tyU5 : Tryz.prog.underlying 5 = some (.int .u8) := by kernel_rfl
@[go_sem] theorem tyS6 : tySize Tryz.prog 6 = some 1 := by kernel_rfl
@[go_sem] theorem tyB6 : tyBytes Tryz.prog 6 = some 1 := by kernel_rfl
@[go_sem] theorem tyG6 : tyAgg Tryz.prog 6 = some false := by kernel_rfl
@[go_sem] theorem tyZ6 : tyZero Tryz.prog 6 = some (.raw (.int .u8 0)) := by kernel_rfl
@[go_sem] theorem tyE6 : tyElem Tryz.prog 6 = none := by kernel_rfl
@[go_sem] theorem tyU6 : Tryz.prog.underlying 6 = some (.int .u8) := by kernel_rfl
@[go_sem] theorem tyS7 : tySize Tryz.prog 7 = some 4 := by kernel_rfl
@[go_sem] theorem tyB7 : tyBytes Tryz.prog 7 = some 24 := by kernel_rfl
@[go_sem] theorem tyG7 : tyAgg Tryz.prog 7 = some true := by kernel_rfl
@[go_sem] theorem tyZ7 : tyZero Tryz.prog 7 = some (.agg [.raw (.int .i64 0), .raw (.int .i64 0), .raw (.bool false), .raw (.int .u8 0)]) := by kernel_rfl
@[go_sem] theorem tyE7 : tyElem Tryz.prog 7 = none := by kernel_rfl
@[go_sem] theorem tyF7_0 : tyField Tryz.prog 7 0 = some (0, 1, false) := by kernel_rfl
@[go_sem] theorem tyP7_0 : tyPlace Tryz.prog 7 0 = some (0, 1) := by kernel_rfl
@[go_sem] theorem tyF7_1 : tyField Tryz.prog 7 1 = some (1, 1, false) := by kernel_rfl
@[go_sem] theorem tyP7_1 : tyPlace Tryz.prog 7 1 = some (1, 1) := by kernel_rfl
@[go_sem] theorem tyF7_2 : tyField Tryz.prog 7 2 = some (2, 1, false) := by kernel_rfl
@[go_sem] theorem tyP7_2 : tyPlace Tryz.prog 7 2 = some (2, 1) := by kernel_rfl
@[go_sem] theorem tyF7_3 : tyField Tryz.prog 7 3 = some (3, 1, false) := by kernel_rfl
@[go_sem] theorem tyP7_3 : tyPlace Tryz.prog 7 3 = some (3, 1) := by kernel_rfl
@[go_sem] theorem tyK7 : tyKids Tryz.prog 7 = some (.agg [.raw (.int .i64 0), .raw (.int .i64 0), .raw (.bool false), .raw (.int .u8 0)]) := by kernel_rfl
@[go_sem] theorem tyS8 : tySize Tryz.prog 8 = some 4 := by kernel_rfl
@[go_sem] theorem tyB8 : tyBytes Tryz.prog 8 = some 24 := by kernel_rfl
@[go_sem] theorem tyG8 : tyAgg Tryz.prog 8 = some true := by kernel_rfl
@[go_sem] theorem tyZ8 : tyZero Tryz.prog 8 = some (.agg [.raw (.int .i64 0), .raw (.int .i64 0), .raw (.bool false), .raw (.int .u8 0)]) := by kernel_rfl
@[go_sem] theorem tyE8 : tyElem Tryz.prog 8 = none := by kernel_rfl
@[go_sem] theorem tyF8_0 : tyField Tryz.prog 8 0 = some (0, 1, false) := by kernel_rfl
@[go_sem] theorem tyP8_0 : tyPlace Tryz.prog 8 0 = some (0, 1) := by kernel_rfl
@[go_sem] theorem tyF8_1 : tyField Tryz.prog 8 1 = some (1, 1, false) := by kernel_rfl
@[go_sem] theorem tyP8_1 : tyPlace Tryz.prog 8 1 = some (1, 1) := by kernel_rfl
@[go_sem] theorem tyF8_2 : tyField Tryz.prog 8 2 = some (2, 1, false) := by kernel_rfl
@[go_sem] theorem tyP8_2 : tyPlace Tryz.prog 8 2 = some (2, 1) := by kernel_rfl
@[go_sem] theorem tyF8_3 : tyField Tryz.prog 8 3 = some (3, 1, false) := by kernel_rfl
@[go_sem] theorem tyP8_3 : tyPlace Tryz.prog 8 3 = some (3, 1) := by kernel_rfl
@[go_sem] theorem tyK8 : tyKids Tryz.prog 8 = some (.agg [.raw (.int .i64 0), .raw (.int .i64 0), .raw (.bool false), .raw (.int .u8 0)]) := by kernel_rfl
@[go_sem] theorem tyS9 : tySize Tryz.prog 9 = some 1 := by kernel_rfl
@[go_sem] theorem tyB9 : tyBytes Tryz.prog 9 = some 16 := by kernel_rfl
@[go_sem] theorem tyG9 : tyAgg Tryz.prog 9 = some false := by kernel_rfl
@[go_sem] theorem tyZ9 : tyZero Tryz.prog 9 = some (.raw (.string ⟨#[]⟩)) := by kernel_rfl
@[go_sem] theorem tyE9 : tyElem Tryz.prog 9 = none := by kernel_rfl
@[go_sem] theorem tyU9 : Tryz.prog.underlying 9 = some .string := by kernel_rfl
@[go_sem] theorem tyS10 : tySize Tryz.prog 10 = some 1 := by kernel_rfl
@[go_sem] theorem tyB10 : tyBytes Tryz.prog 10 = some 16 := by kernel_rfl
@[go_sem] theorem tyG10 : tyAgg Tryz.prog 10 = some false := by kernel_rfl
@[go_sem] theorem tyZ10 : tyZero Tryz.prog 10 = some (.raw (.string ⟨#[]⟩)) := by kernel_rfl
@[go_sem] theorem tyE10 : tyElem Tryz.prog 10 = none := by kernel_rfl
@[go_sem] theorem tyU10 : Tryz.prog.underlying 10 = some .string := by kernel_rfl
@[go_sem] theorem tyS11 : tySize Tryz.prog 11 = some 1 := by kernel_rfl
@[go_sem] theorem tyB11 : tyBytes Tryz.prog 11 = some 16 := by kernel_rfl
@[go_sem] theorem tyG11 : tyAgg Tryz.prog 11 = some false := by kernel_rfl
@[go_sem] theorem tyZ11 : tyZero Tryz.prog 11 = some (.raw (.string ⟨#[]⟩)) := by kernel_rfl
@[go_sem] theorem tyE11 : tyElem Tryz.prog 11 = none := by kernel_rfl
@[go_sem] theorem tyU11 : Tryz.prog.underlying 11 = some .string := by kernel_rfl
@[go_sem] theorem tyS12 : tySize Tryz.prog 12 = some 1 := by kernel_rfl
@[go_sem] theorem tyB12 : tyBytes Tryz.prog 12 = some 8 := by kernel_rfl
@[go_sem] theorem tyG12 : tyAgg Tryz.prog 12 = some false := by kernel_rfl
@[go_sem] theorem tyZ12 : tyZero Tryz.prog 12 = some (.raw (.int .u64 0)) := by kernel_rfl
@[go_sem] theorem tyE12 : tyElem Tryz.prog 12 = none := by kernel_rfl
@[go_sem] theorem tyU12 : Tryz.prog.underlying 12 = some (.int .u64) := by kernel_rfl
@[go_sem] theorem tyS13 : tySize Tryz.prog 13 = some 2 := by kernel_rfl
@[go_sem] theorem tyB13 : tyBytes Tryz.prog 13 = some 24 := by kernel_rfl
@[go_sem] theorem tyG13 : tyAgg Tryz.prog 13 = some true := by kernel_rfl
@[go_sem] theorem tyZ13 : tyZero Tryz.prog 13 = some (.agg [.raw (.string ⟨#[]⟩), .raw (.int .u64 0)]) := by kernel_rfl
@[go_sem] theorem tyE13 : tyElem Tryz.prog 13 = none := by kernel_rfl
@[go_sem] theorem tyF13_0 : tyField Tryz.prog 13 0 = some (0, 1, false) := by kernel_rfl
@[go_sem] theorem tyP13_0 : tyPlace Tryz.prog 13 0 = some (0, 1) := by kernel_rfl
@[go_sem] theorem tyF13_1 : tyField Tryz.prog 13 1 = some (1, 1, false) := by kernel_rfl
@[go_sem] theorem tyP13_1 : tyPlace Tryz.prog 13 1 = some (1, 1) := by kernel_rfl
@[go_sem] theorem tyK13 : tyKids Tryz.prog 13 = some (.agg [.raw (.string ⟨#[]⟩), .raw (.int .u64 0)]) := by kernel_rfl
@[go_sem] theorem tyS14 : tySize Tryz.prog 14 = some 2 := by kernel_rfl
@[go_sem] theorem tyB14 : tyBytes Tryz.prog 14 = some 24 := by kernel_rfl
@[go_sem] theorem tyG14 : tyAgg Tryz.prog 14 = some true := by kernel_rfl
@[go_sem] theorem tyZ14 : tyZero Tryz.prog 14 = some (.agg [.raw (.string ⟨#[]⟩), .raw (.int .u64 0)]) := by kernel_rfl
@[go_sem] theorem tyE14 : tyElem Tryz.prog 14 = none := by kernel_rfl
@[go_sem] theorem tyF14_0 : tyField Tryz.prog 14 0 = some (0, 1, false) := by kernel_rfl
@[go_sem] theorem tyP14_0 : tyPlace Tryz.prog 14 0 = some (0, 1) := by kernel_rfl
@[go_sem] theorem tyF14_1 : tyField Tryz.prog 14 1 = some (1, 1, false) := by kernel_rfl
@[go_sem] theorem tyP14_1 : tyPlace Tryz.prog 14 1 = some (1, 1) := by kernel_rfl
@[go_sem] theorem tyK14 : tyKids Tryz.prog 14 = some (.agg [.raw (.string ⟨#[]⟩), .raw (.int .u64 0)]) := by kernel_rfl
@[go_sem] theorem tyS15 : tySize Tryz.prog 15 = some 1 := by kernel_rfl
@[go_sem] theorem tyB15 : tyBytes Tryz.prog 15 = some 8 := by kernel_rfl
@[go_sem] theorem tyG15 : tyAgg Tryz.prog 15 = some false := by kernel_rfl
@[go_sem] theorem tyZ15 : tyZero Tryz.prog 15 = some (.raw (.pointer none)) := by kernel_rfl
@[go_sem] theorem tyE15 : tyElem Tryz.prog 15 = none := by kernel_rfl
@[go_sem] theorem tyS16 : tySize Tryz.prog 16 = some 1 := by kernel_rfl
@[go_sem] theorem tyB16 : tyBytes Tryz.prog 16 = some 8 := by kernel_rfl
@[go_sem] theorem tyG16 : tyAgg Tryz.prog 16 = some false := by kernel_rfl
@[go_sem] theorem tyZ16 : tyZero Tryz.prog 16 = some (.raw (.pointer none)) := by kernel_rfl
@[go_sem] theorem tyE16 : tyElem Tryz.prog 16 = none := by kernel_rfl
@[go_sem] theorem tyS17 : tySize Tryz.prog 17 = some 1 := by kernel_rfl
@[go_sem] theorem tyB17 : tyBytes Tryz.prog 17 = some 8 := by kernel_rfl
@[go_sem] theorem tyG17 : tyAgg Tryz.prog 17 = some false := by kernel_rfl
@[go_sem] theorem tyZ17 : tyZero Tryz.prog 17 = some (.raw (.pointer none)) := by kernel_rfl
@[go_sem] theorem tyE17 : tyElem Tryz.prog 17 = none := by kernel_rfl
@[go_sem] theorem tyS18 : tySize Tryz.prog 18 = some 1 := by kernel_rfl
@[go_sem] theorem tyB18 : tyBytes Tryz.prog 18 = some 8 := by kernel_rfl
@[go_sem] theorem tyG18 : tyAgg Tryz.prog 18 = some true := by kernel_rfl
@[go_sem] theorem tyZ18 : tyZero Tryz.prog 18 = some (.agg [.raw (.pointer none)]) := by kernel_rfl
@[go_sem] theorem tyE18 : tyElem Tryz.prog 18 = none := by kernel_rfl
@[go_sem] theorem tyF18_0 : tyField Tryz.prog 18 0 = some (0, 1, false) := by kernel_rfl
@[go_sem] theorem tyP18_0 : tyPlace Tryz.prog 18 0 = some (0, 1) := by kernel_rfl
@[go_sem] theorem tyK18 : tyKids Tryz.prog 18 = some (.agg [.raw (.pointer none)]) := by kernel_rfl
@[go_sem] theorem tyS19 : tySize Tryz.prog 19 = some 1 := by kernel_rfl
@[go_sem] theorem tyB19 : tyBytes Tryz.prog 19 = some 8 := by kernel_rfl
@[go_sem] theorem tyG19 : tyAgg Tryz.prog 19 = some true := by kernel_rfl
@[go_sem] theorem tyZ19 : tyZero Tryz.prog 19 = some (.agg [.raw (.pointer none)]) := by kernel_rfl
@[go_sem] theorem tyE19 : tyElem Tryz.prog 19 = none := by kernel_rfl
@[go_sem] theorem tyF19_0 : tyField Tryz.prog 19 0 = some (0, 1, false) := by kernel_rfl
@[go_sem] theorem tyP19_0 : tyPlace Tryz.prog 19 0 = some (0, 1) := by kernel_rfl
@[go_sem] theorem tyK19 : tyKids Tryz.prog 19 = some (.agg [.raw (.pointer none)]) := by kernel_rfl
@[go_sem] theorem tyS21 : tySize Tryz.prog 21 = some 1 := by kernel_rfl
@[go_sem] theorem tyB21 : tyBytes Tryz.prog 21 = some 4 := by kernel_rfl
@[go_sem] theorem tyG21 : tyAgg Tryz.prog 21 = some false := by kernel_rfl
@[go_sem] theorem tyZ21 : tyZero Tryz.prog 21 = some (.raw (.int .i32 0)) := by kernel_rfl
@[go_sem] theorem tyE21 : tyElem Tryz.prog 21 = none := by kernel_rfl
@[go_sem] theorem tyU21 : Tryz.prog.underlying 21 = some (.int .i32) := by kernel_rfl
@[go_sem] theorem tyS22 : tySize Tryz.prog 22 = some 1 := by kernel_rfl
@[go_sem] theorem tyB22 : tyBytes Tryz.prog 22 = some 24 := by kernel_rfl
@[go_sem] theorem tyG22 : tyAgg Tryz.prog 22 = some false := by kernel_rfl
@[go_sem] theorem tyZ22 : tyZero Tryz.prog 22 = some (.raw (.slice none 0 0)) := by kernel_rfl
@[go_sem] theorem tyE22 : tyElem Tryz.prog 22 = some (24, 1) := by kernel_rfl
@[go_sem] theorem tyU22 : Tryz.prog.underlying 22 = some (.slice 24) := by kernel_rfl
@[go_sem] theorem tyS23 : tySize Tryz.prog 23 = some 1 := by kernel_rfl
@[go_sem] theorem tyB23 : tyBytes Tryz.prog 23 = some 24 := by kernel_rfl
@[go_sem] theorem tyG23 : tyAgg Tryz.prog 23 = some false := by kernel_rfl
@[go_sem] theorem tyZ23 : tyZero Tryz.prog 23 = some (.raw (.slice none 0 0)) := by kernel_rfl
@[go_sem] theorem tyE23 : tyElem Tryz.prog 23 = some (25, 2) := by kernel_rfl
@[go_sem] theorem tyU23 : Tryz.prog.underlying 23 = some (.slice 25) := by kernel_rfl
@[go_sem] theorem tyS24 : tySize Tryz.prog 24 = some 1 := by kernel_rfl
@[go_sem] theorem tyB24 : tyBytes Tryz.prog 24 = some 1 := by kernel_rfl
@[go_sem] theorem tyG24 : tyAgg Tryz.prog 24 = some false := by kernel_rfl
@[go_sem] theorem tyZ24 : tyZero Tryz.prog 24 = some (.raw (.int .i8 0)) := by kernel_rfl
@[go_sem] theorem tyE24 : tyElem Tryz.prog 24 = none := by kernel_rfl
@[go_sem] theorem tyU24 : Tryz.prog.underlying 24 = some (.int .i8) := by kernel_rfl
@[go_sem] theorem tyS25 : tySize Tryz.prog 25 = some 2 := by kernel_rfl
@[go_sem] theorem tyB25 : tyBytes Tryz.prog 25 = some 2 := by kernel_rfl
@[go_sem] theorem tyG25 : tyAgg Tryz.prog 25 = some true := by kernel_rfl
@[go_sem] theorem tyZ25 : tyZero Tryz.prog 25 = some (.agg [.raw (.int .i8 0), .raw (.int .i8 0)]) := by kernel_rfl
@[go_sem] theorem tyE25 : tyElem Tryz.prog 25 = none := by kernel_rfl
@[go_sem] theorem tyA25 : tyArr Tryz.prog 25 = some (2, 24, 1) := by kernel_rfl
@[go_sem] theorem tyK25 : tyKids Tryz.prog 25 = some (.agg [.raw (.int .i8 0), .raw (.int .i8 0)]) := by kernel_rfl
@[go_sem] theorem tyP25_0 : tyPlace Tryz.prog 25 0 = some (0, 1) := by kernel_rfl
@[go_sem] theorem tyP25_1 : tyPlace Tryz.prog 25 1 = some (1, 1) := by kernel_rfl
@[go_sem] theorem tyU25 : Tryz.prog.underlying 25 = some (.array 2 24) := by kernel_rfl
@[go_sem] theorem tyS26 : tySize Tryz.prog 26 = some 5 := by kernel_rfl
@[go_sem] theorem tyB26 : tyBytes Tryz.prog 26 = some 80 := by kernel_rfl
@[go_sem] theorem tyG26 : tyAgg Tryz.prog 26 = some true := by kernel_rfl
@[go_sem] theorem tyZ26 : tyZero Tryz.prog 26 = some (.agg [.raw (.slice none 0 0), .raw (.slice none 0 0), .raw (.slice none 0 0), .raw (.int .i8 0), .raw (.int .i8 0)]) := by kernel_rfl
@[go_sem] theorem tyE26 : tyElem Tryz.prog 26 = none := by kernel_rfl
@[go_sem] theorem tyF26_0 : tyField Tryz.prog 26 0 = some (0, 1, false) := by kernel_rfl
@[go_sem] theorem tyP26_0 : tyPlace Tryz.prog 26 0 = some (0, 1) := by kernel_rfl
@[go_sem] theorem tyF26_1 : tyField Tryz.prog 26 1 = some (1, 1, false) := by kernel_rfl
@[go_sem] theorem tyP26_1 : tyPlace Tryz.prog 26 1 = some (1, 1) := by kernel_rfl
@[go_sem] theorem tyF26_2 : tyField Tryz.prog 26 2 = some (2, 1, false) := by kernel_rfl
@[go_sem] theorem tyP26_2 : tyPlace Tryz.prog 26 2 = some (2, 1) := by kernel_rfl
@[go_sem] theorem tyF26_3 : tyField Tryz.prog 26 3 = some (3, 2, true) := by kernel_rfl
@[go_sem] theorem tyP26_3 : tyPlace Tryz.prog 26 3 = some (3, 2) := by kernel_rfl
@[go_sem] theorem tyK26 : tyKids Tryz.prog 26 = some (.agg [.raw (.slice none 0 0), .raw (.slice none 0 0), .raw (.slice none 0 0), .agg [.raw (.int .i8 0), .raw (.int .i8 0)]]) := by kernel_rfl
@[go_sem] theorem tyS27 : tySize Tryz.prog 27 = some 5 := by kernel_rfl
@[go_sem] theorem tyB27 : tyBytes Tryz.prog 27 = some 80 := by kernel_rfl
@[go_sem] theorem tyG27 : tyAgg Tryz.prog 27 = some true := by kernel_rfl
@[go_sem] theorem tyZ27 : tyZero Tryz.prog 27 = some (.agg [.raw (.slice none 0 0), .raw (.slice none 0 0), .raw (.slice none 0 0), .raw (.int .i8 0), .raw (.int .i8 0)]) := by kernel_rfl
@[go_sem] theorem tyE27 : tyElem Tryz.prog 27 = none := by kernel_rfl
@[go_sem] theorem tyF27_0 : tyField Tryz.prog 27 0 = some (0, 1, false) := by kernel_rfl
@[go_sem] theorem tyP27_0 : tyPlace Tryz.prog 27 0 = some (0, 1) := by kernel_rfl
@[go_sem] theorem tyF27_1 : tyField Tryz.prog 27 1 = some (1, 1, false) := by kernel_rfl
@[go_sem] theorem tyP27_1 : tyPlace Tryz.prog 27 1 = some (1, 1) := by kernel_rfl
@[go_sem] theorem tyF27_2 : tyField Tryz.prog 27 2 = some (2, 1, false) := by kernel_rfl
@[go_sem] theorem tyP27_2 : tyPlace Tryz.prog 27 2 = some (2, 1) := by kernel_rfl
@[go_sem] theorem tyF27_3 : tyField Tryz.prog 27 3 = some (3, 2, true) := by kernel_rfl
@[go_sem] theorem tyP27_3 : tyPlace Tryz.prog 27 3 = some (3, 2) := by kernel_rfl
@[go_sem] theorem tyK27 : tyKids Tryz.prog 27 = some (.agg [.raw (.slice none 0 0), .raw (.slice none 0 0), .raw (.slice none 0 0), .agg [.raw (.int .i8 0), .raw (.int .i8 0)]]) := by kernel_rfl
@[go_sem] theorem tyS28 : tySize Tryz.prog 28 = some 1 := by kernel_rfl
@[go_sem] theorem tyB28 : tyBytes Tryz.prog 28 = some 8 := by kernel_rfl
@[go_sem] theorem tyG28 : tyAgg Tryz.prog 28 = some false := by kernel_rfl
@[go_sem] theorem tyZ28 : tyZero Tryz.prog 28 = some (.raw (.nilFunc)) := by kernel_rfl
@[go_sem] theorem tyE28 : tyElem Tryz.prog 28 = none := by kernel_rfl
@[go_sem] theorem tyS29 : tySize Tryz.prog 29 = some 1 := by kernel_rfl
@[go_sem] theorem tyB29 : tyBytes Tryz.prog 29 = some 24 := by kernel_rfl
@[go_sem] theorem tyG29 : tyAgg Tryz.prog 29 = some false := by kernel_rfl
@[go_sem] theorem tyZ29 : tyZero Tryz.prog 29 = some (.raw (.slice none 0 0)) := by kernel_rfl
@[go_sem] theorem tyE29 : tyElem Tryz.prog 29 = some (45, 4) := by kernel_rfl
@[go_sem] theorem tyU29 : Tryz.prog.underlying 29 = some (.slice 45) := by kernel_rfl
@[go_sem] theorem tyS30 : tySize Tryz.prog 30 = some 1 := by kernel_rfl
@[go_sem] theorem tyB30 : tyBytes Tryz.prog 30 = some 24 := by kernel_rfl
@[go_sem] theorem tyG30 : tyAgg Tryz.prog 30 = some false := by kernel_rfl
@[go_sem] theorem tyZ30 : tyZero Tryz.prog 30 = some (.raw (.slice none 0 0)) := by kernel_rfl
@[go_sem] theorem tyE30 : tyElem Tryz.prog 30 = some (45, 4) := by kernel_rfl
@[go_sem] theorem tyU30 : Tryz.prog.underlying 30 = some (.slice 45) := by kernel_rfl
@[go_sem] theorem tyS32 : tySize Tryz.prog 32 = some 1 := by kernel_rfl
@[go_sem] theorem tyB32 : tyBytes Tryz.prog 32 = some 8 := by kernel_rfl
@[go_sem] theorem tyG32 : tyAgg Tryz.prog 32 = some false := by kernel_rfl
@[go_sem] theorem tyZ32 : tyZero Tryz.prog 32 = some (.raw (.nilFunc)) := by kernel_rfl
@[go_sem] theorem tyE32 : tyElem Tryz.prog 32 = none := by kernel_rfl
@[go_sem] theorem tyS33 : tySize Tryz.prog 33 = some 1 := by kernel_rfl
@[go_sem] theorem tyB33 : tyBytes Tryz.prog 33 = some 8 := by kernel_rfl
@[go_sem] theorem tyG33 : tyAgg Tryz.prog 33 = some false := by kernel_rfl
@[go_sem] theorem tyZ33 : tyZero Tryz.prog 33 = some (.raw (.int .i64 0)) := by kernel_rfl
@[go_sem] theorem tyE33 : tyElem Tryz.prog 33 = none := by kernel_rfl
@[go_sem] theorem tyU33 : Tryz.prog.underlying 33 = some (.int .i64) := by kernel_rfl
@[go_sem] theorem tyS35 : tySize Tryz.prog 35 = some 1 := by kernel_rfl
@[go_sem] theorem tyB35 : tyBytes Tryz.prog 35 = some 8 := by kernel_rfl
@[go_sem] theorem tyG35 : tyAgg Tryz.prog 35 = some false := by kernel_rfl
@[go_sem] theorem tyZ35 : tyZero Tryz.prog 35 = some (.raw (.nilFunc)) := by kernel_rfl
@[go_sem] theorem tyE35 : tyElem Tryz.prog 35 = none := by kernel_rfl
@[go_sem] theorem tyS36 : tySize Tryz.prog 36 = some 1 := by kernel_rfl
@[go_sem] theorem tyB36 : tyBytes Tryz.prog 36 = some 8 := by kernel_rfl
@[go_sem] theorem tyG36 : tyAgg Tryz.prog 36 = some false := by kernel_rfl
@[go_sem] theorem tyZ36 : tyZero Tryz.prog 36 = some (.raw (.nilFunc)) := by kernel_rfl
@[go_sem] theorem tyE36 : tyElem Tryz.prog 36 = none := by kernel_rfl
@[go_sem] theorem tyS37 : tySize Tryz.prog 37 = some 1 := by kernel_rfl
@[go_sem] theorem tyB37 : tyBytes Tryz.prog 37 = some 8 := by kernel_rfl
@[go_sem] theorem tyG37 : tyAgg Tryz.prog 37 = some false := by kernel_rfl
@[go_sem] theorem tyZ37 : tyZero Tryz.prog 37 = some (.raw (.nilFunc)) := by kernel_rfl
@[go_sem] theorem tyE37 : tyElem Tryz.prog 37 = none := by kernel_rfl
@[go_sem] theorem tyS38 : tySize Tryz.prog 38 = some 1 := by kernel_rfl
@[go_sem] theorem tyB38 : tyBytes Tryz.prog 38 = some 8 := by kernel_rfl
@[go_sem] theorem tyG38 : tyAgg Tryz.prog 38 = some false := by kernel_rfl
@[go_sem] theorem tyZ38 : tyZero Tryz.prog 38 = some (.raw (.nilFunc)) := by kernel_rfl
@[go_sem] theorem tyE38 : tyElem Tryz.prog 38 = none := by kernel_rfl
@[go_sem] theorem tyS39 : tySize Tryz.prog 39 = some 1 := by kernel_rfl
@[go_sem] theorem tyB39 : tyBytes Tryz.prog 39 = some 8 := by kernel_rfl
@[go_sem] theorem tyG39 : tyAgg Tryz.prog 39 = some false := by kernel_rfl
@[go_sem] theorem tyZ39 : tyZero Tryz.prog 39 = some (.raw (.nilFunc)) := by kernel_rfl
@[go_sem] theorem tyE39 : tyElem Tryz.prog 39 = none := by kernel_rfl
@[go_sem] theorem tyS40 : tySize Tryz.prog 40 = some 1 := by kernel_rfl
@[go_sem] theorem tyB40 : tyBytes Tryz.prog 40 = some 8 := by kernel_rfl
@[go_sem] theorem tyG40 : tyAgg Tryz.prog 40 = some false := by kernel_rfl
@[go_sem] theorem tyZ40 : tyZero Tryz.prog 40 = some (.raw (.nilFunc)) := by kernel_rfl
@[go_sem] theorem tyE40 : tyElem Tryz.prog 40 = none := by kernel_rfl
@[go_sem] theorem tyS41 : tySize Tryz.prog 41 = some 1 := by kernel_rfl
@[go_sem] theorem tyB41 : tyBytes Tryz.prog 41 = some 24 := by kernel_rfl
@[go_sem] theorem tyG41 : tyAgg Tryz.prog 41 = some false := by kernel_rfl
@[go_sem] theorem tyZ41 : tyZero Tryz.prog 41 = some (.raw (.slice none 0 0)) := by kernel_rfl
@[go_sem] theorem tyE41 : tyElem Tryz.prog 41 = some (110, 1) := by kernel_rfl
@[go_sem] theorem tyU41 : Tryz.prog.underlying 41 = some (.slice 110) := by kernel_rfl
@[go_sem] theorem tyS42 : tySize Tryz.prog 42 = some 2 := by kernel_rfl
@[go_sem] theorem tyB42 : tyBytes Tryz.prog 42 = some 32 := by kernel_rfl
@[go_sem] theorem tyG42 : tyAgg Tryz.prog 42 = some true := by kernel_rfl
@[go_sem] theorem tyZ42 : tyZero Tryz.prog 42 = some (.agg [.raw (.bool false), .raw (.slice none 0 0)]) := by kernel_rfl
@[go_sem] theorem tyE42 : tyElem Tryz.prog 42 = none := by kernel_rfl
@[go_sem] theorem tyF42_0 : tyField Tryz.prog 42 0 = some (0, 1, false) := by kernel_rfl
@[go_sem] theorem tyP42_0 : tyPlace Tryz.prog 42 0 = some (0, 1) := by kernel_rfl
@[go_sem] theorem tyF42_1 : tyField Tryz.prog 42 1 = some (1, 1, false) := by kernel_rfl
@[go_sem] theorem tyP42_1 : tyPlace Tryz.prog 42 1 = some (1, 1) := by kernel_rfl
@[go_sem] theorem tyK42 : tyKids Tryz.prog 42 = some (.agg [.raw (.bool false), .raw (.slice none 0 0)]) := by kernel_rfl
@[go_sem] theorem tyS43 : tySize Tryz.prog 43 = some 2 := by kernel_rfl
@[go_sem] theorem tyB43 : tyBytes Tryz.prog 43 = some 32 := by kernel_rfl
@[go_sem] theorem tyG43 : tyAgg Tryz.prog 43 = some true := by kernel_rfl
@[go_sem] theorem tyZ43 : tyZero Tryz.prog 43 = some (.agg [.raw (.bool false), .raw (.slice none 0 0)]) := by kernel_rfl
@[go_sem] theorem tyE43 : tyElem Tryz.prog 43 = none := by kernel_rfl
@[go_sem] theorem tyF43_0 : tyField Tryz.prog 43 0 = some (0, 1, false) := by kernel_rfl
@[go_sem] theorem tyP43_0 : tyPlace Tryz.prog 43 0 = some (0, 1) := by kernel_rfl
@[go_sem] theorem tyF43_1 : tyField Tryz.prog 43 1 = some (1, 1, false) := by kernel_rfl
@[go_sem] theorem tyP43_1 : tyPlace Tryz.prog 43 1 = some (1, 1) := by kernel_rfl
@[go_sem] theorem tyK43 : tyKids Tryz.prog 43 = some (.agg [.raw (.bool false), .raw (.slice none 0 0)]) := by kernel_rfl
@[go_sem] theorem tyS44 : tySize Tryz.prog 44 = some 4 := by kernel_rfl
@[go_sem] theorem tyB44 : tyBytes Tryz.prog 44 = some 64 := by kernel_rfl
@[go_sem] theorem tyG44 : tyAgg Tryz.prog 44 = some true := by kernel_rfl
@[go_sem] theorem tyZ44 : tyZero Tryz.prog 44 = some (.agg [.raw (.bool false), .raw (.slice none 0 0), .raw (.bool false), .raw (.slice none 0 0)]) := by kernel_rfl
@[go_sem] theorem tyE44 : tyElem Tryz.prog 44 = none := by kernel_rfl
@[go_sem] theorem tyF44_0 : tyField Tryz.prog 44 0 = some (0, 2, true) := by kernel_rfl
@[go_sem] theorem tyP44_0 : tyPlace Tryz.prog 44 0 = some (0, 2) := by kernel_rfl
@[go_sem] theorem tyF44_1 : tyField Tryz.prog 44 1 = some (2, 2, true) := by kernel_rfl
@[go_sem] theorem tyP44_1 : tyPlace Tryz.prog 44 1 = some (2, 2) := by kernel_rfl
@[go_sem] theorem tyK44 : tyKids Tryz.prog 44 = some (.agg [.agg [.raw (.bool false), .raw (.slice none 0 0)], .agg [.raw (.bool false), .raw (.slice none 0 0)]]) := by kernel_rfl
@[go_sem] theorem tyS45 : tySize Tryz.prog 45 = some 4 := by kernel_rfl
@[go_sem] theorem tyB45 : tyBytes Tryz.prog 45 = some 64 := by kernel_rfl
@[go_sem] theorem tyG45 : tyAgg Tryz.prog 45 = some true := by kernel_rfl
@[go_sem] theorem tyZ45 : tyZero Tryz.prog 45 = some (.agg [.raw (.bool false), .raw (.slice none 0 0), .raw (.bool false), .raw (.slice none 0 0)]) := by kernel_rfl
@[go_sem] theorem tyE45 : tyElem Tryz.prog 45 = none := by kernel_rfl
@[go_sem] theorem tyF45_0 : tyField Tryz.prog 45 0 = some (0, 2, true) := by kernel_rfl
@[go_sem] theorem tyP45_0 : tyPlace Tryz.prog 45 0 = some (0, 2) := by kernel_rfl
@[go_sem] theorem tyF45_1 : tyField Tryz.prog 45 1 = some (2, 2, true) := by kernel_rfl
@[go_sem] theorem tyP45_1 : tyPlace Tryz.prog 45 1 = some (2, 2) := by kernel_rfl
@[go_sem] theorem tyK45 : tyKids Tryz.prog 45 = some (.agg [.agg [.raw (.bool false), .raw (.slice none 0 0)], .agg [.raw (.bool false), .raw (.slice none 0 0)]]) := by kernel_rfl
@[go_sem] theorem tyS46 : tySize Tryz.prog 46 = some 1 := by kernel_rfl
@[go_sem] theorem tyB46 : tyBytes Tryz.prog 46 = some 8 := by kernel_rfl
@[go_sem] theorem tyG46 : tyAgg Tryz.prog 46 = some false := by kernel_rfl
@[go_sem] theorem tyZ46 : tyZero Tryz.prog 46 = some (.raw (.nilFunc)) := by kernel_rfl
@[go_sem] theorem tyE46 : tyElem Tryz.prog 46 = none := by kernel_rfl
@[go_sem] theorem tyS47 : tySize Tryz.prog 47 = some 1 := by kernel_rfl
@[go_sem] theorem tyB47 : tyBytes Tryz.prog 47 = some 8 := by kernel_rfl
@[go_sem] theorem tyG47 : tyAgg Tryz.prog 47 = some false := by kernel_rfl
@[go_sem] theorem tyZ47 : tyZero Tryz.prog 47 = some (.raw (.nilFunc)) := by kernel_rfl
@[go_sem] theorem tyE47 : tyElem Tryz.prog 47 = none := by kernel_rfl
@[go_sem] theorem tyS48 : tySize Tryz.prog 48 = some 1 := by kernel_rfl
@[go_sem] theorem tyB48 : tyBytes Tryz.prog 48 = some 8 := by kernel_rfl
@[go_sem] theorem tyG48 : tyAgg Tryz.prog 48 = some false := by kernel_rfl
@[go_sem] theorem tyZ48 : tyZero Tryz.prog 48 = some (.raw (.nilFunc)) := by kernel_rfl
@[go_sem] theorem tyE48 : tyElem Tryz.prog 48 = none := by kernel_rfl
@[go_sem] theorem tyS49 : tySize Tryz.prog 49 = some 1 := by kernel_rfl
@[go_sem] theorem tyB49 : tyBytes Tryz.prog 49 = some 8 := by kernel_rfl
@[go_sem] theorem tyG49 : tyAgg Tryz.prog 49 = some false := by kernel_rfl
@[go_sem] theorem tyZ49 : tyZero Tryz.prog 49 = some (.raw (.nilFunc)) := by kernel_rfl
@[go_sem] theorem tyE49 : tyElem Tryz.prog 49 = none := by kernel_rfl
@[go_sem] theorem tyS50 : tySize Tryz.prog 50 = some 1 := by kernel_rfl
@[go_sem] theorem tyB50 : tyBytes Tryz.prog 50 = some 8 := by kernel_rfl
@[go_sem] theorem tyG50 : tyAgg Tryz.prog 50 = some false := by kernel_rfl
@[go_sem] theorem tyZ50 : tyZero Tryz.prog 50 = some (.raw (.nilFunc)) := by kernel_rfl
@[go_sem] theorem tyE50 : tyElem Tryz.prog 50 = none := by kernel_rfl
@[go_sem] theorem tyS51 : tySize Tryz.prog 51 = some 1 := by kernel_rfl
@[go_sem] theorem tyB51 : tyBytes Tryz.prog 51 = some 8 := by kernel_rfl
@[go_sem] theorem tyG51 : tyAgg Tryz.prog 51 = some false := by kernel_rfl
@[go_sem] theorem tyZ51 : tyZero Tryz.prog 51 = some (.raw (.nilFunc)) := by kernel_rfl
@[go_sem] theorem tyE51 : tyElem Tryz.prog 51 = none := by kernel_rfl
@[go_sem] theorem tyS52 : tySize Tryz.prog 52 = some 1 := by kernel_rfl
@[go_sem] theorem tyB52 : tyBytes Tryz.prog 52 = some 8 := by kernel_rfl
@[go_sem] theorem tyG52 : tyAgg Tryz.prog 52 = some false := by kernel_rfl
@[go_sem] theorem tyZ52 : tyZero Tryz.prog 52 = some (.raw (.nilFunc)) := by kernel_rfl
@[go_sem] theorem tyE52 : tyElem Tryz.prog 52 = none := by kernel_rfl
@[go_sem] theorem tyS53 : tySize Tryz.prog 53 = some 1 := by kernel_rfl
@[go_sem] theorem tyB53 : tyBytes Tryz.prog 53 = some 8 := by kernel_rfl
@[go_sem] theorem tyG53 : tyAgg Tryz.prog 53 = some false := by kernel_rfl
@[go_sem] theorem tyZ53 : tyZero Tryz.prog 53 = some (.raw (.nilFunc)) := by kernel_rfl
@[go_sem] theorem tyE53 : tyElem Tryz.prog 53 = none := by kernel_rfl
@[go_sem] theorem tyS54 : tySize Tryz.prog 54 = some 1 := by kernel_rfl
@[go_sem] theorem tyB54 : tyBytes Tryz.prog 54 = some 8 := by kernel_rfl
@[go_sem] theorem tyG54 : tyAgg Tryz.prog 54 = some false := by kernel_rfl
@[go_sem] theorem tyZ54 : tyZero Tryz.prog 54 = some (.raw (.nilFunc)) := by kernel_rfl
@[go_sem] theorem tyE54 : tyElem Tryz.prog 54 = none := by kernel_rfl
@[go_sem] theorem tyS55 : tySize Tryz.prog 55 = some 1 := by kernel_rfl
@[go_sem] theorem tyB55 : tyBytes Tryz.prog 55 = some 8 := by kernel_rfl
@[go_sem] theorem tyG55 : tyAgg Tryz.prog 55 = some false := by kernel_rfl
@[go_sem] theorem tyZ55 : tyZero Tryz.prog 55 = some (.raw (.nilFunc)) := by kernel_rfl
@[go_sem] theorem tyE55 : tyElem Tryz.prog 55 = none := by kernel_rfl
@[go_sem] theorem tyS56 : tySize Tryz.prog 56 = some 1 := by kernel_rfl
@[go_sem] theorem tyB56 : tyBytes Tryz.prog 56 = some 8 := by kernel_rfl
@[go_sem] theorem tyG56 : tyAgg Tryz.prog 56 = some false := by kernel_rfl
@[go_sem] theorem tyZ56 : tyZero Tryz.prog 56 = some (.raw (.nilFunc)) := by kernel_rfl
@[go_sem] theorem tyE56 : tyElem Tryz.prog 56 = none := by kernel_rfl
@[go_sem] theorem tyS57 : tySize Tryz.prog 57 = some 1 := by kernel_rfl
@[go_sem] theorem tyB57 : tyBytes Tryz.prog 57 = some 8 := by kernel_rfl
@[go_sem] theorem tyG57 : tyAgg Tryz.prog 57 = some false := by kernel_rfl
@[go_sem] theorem tyZ57 : tyZero Tryz.prog 57 = some (.raw (.nilFunc)) := by kernel_rfl
@[go_sem] theorem tyE57 : tyElem Tryz.prog 57 = none := by kernel_rfl
@[go_sem] theorem tyS58 : tySize Tryz.prog 58 = some 1 := by kernel_rfl
@[go_sem] theorem tyB58 : tyBytes Tryz.prog 58 = some 8 := by kernel_rfl
@[go_sem] theorem tyG58 : tyAgg Tryz.prog 58 = some false := by kernel_rfl
@[go_sem] theorem tyZ58 : tyZero Tryz.prog 58 = some (.raw (.nilFunc)) := by kernel_rfl
@[go_sem] theorem tyE58 : tyElem Tryz.prog 58 = none := by kernel_rfl
@[go_sem] theorem tyS59 : tySize Tryz.prog 59 = some 1 := by kernel_rfl
@[go_sem] theorem tyB59 : tyBytes Tryz.prog 59 = some 8 := by kernel_rfl
@[go_sem] theorem tyG59 : tyAgg Tryz.prog 59 = some false := by kernel_rfl
@[go_sem] theorem tyZ59 : tyZero Tryz.prog 59 = some (.raw (.nilFunc)) := by kernel_rfl
@[go_sem] theorem tyE59 : tyElem Tryz.prog 59 = none := by kernel_rfl
@[go_sem] theorem tyS60 : tySize Tryz.prog 60 = some 1 := by kernel_rfl
@[go_sem] theorem tyB60 : tyBytes Tryz.prog 60 = some 8 := by kernel_rfl
@[go_sem] theorem tyG60 : tyAgg Tryz.prog 60 = some false := by kernel_rfl
@[go_sem] theorem tyZ60 : tyZero Tryz.prog 60 = some (.raw (.nilFunc)) := by kernel_rfl
@[go_sem] theorem tyE60 : tyElem Tryz.prog 60 = none := by kernel_rfl
@[go_sem] theorem tyS61 : tySize Tryz.prog 61 = some 1 := by kernel_rfl
@[go_sem] theorem tyB61 : tyBytes Tryz.prog 61 = some 8 := by kernel_rfl
@[go_sem] theorem tyG61 : tyAgg Tryz.prog 61 = some false := by kernel_rfl
@[go_sem] theorem tyZ61 : tyZero Tryz.prog 61 = some (.raw (.nilFunc)) := by kernel_rfl
@[go_sem] theorem tyE61 : tyElem Tryz.prog 61 = none := by kernel_rfl
@[go_sem] theorem tyS62 : tySize Tryz.prog 62 = some 1 := by kernel_rfl
@[go_sem] theorem tyB62 : tyBytes Tryz.prog 62 = some 8 := by kernel_rfl
@[go_sem] theorem tyG62 : tyAgg Tryz.prog 62 = some false := by kernel_rfl
@[go_sem] theorem tyZ62 : tyZero Tryz.prog 62 = some (.raw (.nilFunc)) := by kernel_rfl
@[go_sem] theorem tyE62 : tyElem Tryz.prog 62 = none := by kernel_rfl
@[go_sem] theorem tyS63 : tySize Tryz.prog 63 = some 1 := by kernel_rfl
@[go_sem] theorem tyB63 : tyBytes Tryz.prog 63 = some 8 := by kernel_rfl
@[go_sem] theorem tyG63 : tyAgg Tryz.prog 63 = some false := by kernel_rfl
@[go_sem] theorem tyZ63 : tyZero Tryz.prog 63 = some (.raw (.nilFunc)) := by kernel_rfl
@[go_sem] theorem tyE63 : tyElem Tryz.prog 63 = none := by kernel_rfl
@[go_sem] theorem tyS64 : tySize Tryz.prog 64 = some 1 := by kernel_rfl
@[go_sem] theorem tyB64 : tyBytes Tryz.prog 64 = some 8 := by kernel_rfl
@[go_sem] theorem tyG64 : tyAgg Tryz.prog 64 = some false := by kernel_rfl
@[go_sem] theorem tyZ64 : tyZero Tryz.prog 64 = some (.raw (.nilFunc)) := by kernel_rfl
@[go_sem] theorem tyE64 : tyElem Tryz.prog 64 = none := by kernel_rfl
@[go_sem] theorem tyS65 : tySize Tryz.prog 65 = some 1 := by kernel_rfl
@[go_sem] theorem tyB65 : tyBytes Tryz.prog 65 = some 8 := by kernel_rfl
@[go_sem] theorem tyG65 : tyAgg Tryz.prog 65 = some false := by kernel_rfl
@[go_sem] theorem tyZ65 : tyZero Tryz.prog 65 = some (.raw (.nilFunc)) := by kernel_rfl
@[go_sem] theorem tyE65 : tyElem Tryz.prog 65 = none := by kernel_rfl
@[go_sem] theorem tyS66 : tySize Tryz.prog 66 = some 1 := by kernel_rfl
@[go_sem] theorem tyB66 : tyBytes Tryz.prog 66 = some 24 := by kernel_rfl
@[go_sem] theorem tyG66 : tyAgg Tryz.prog 66 = some false := by kernel_rfl
@[go_sem] theorem tyZ66 : tyZero Tryz.prog 66 = some (.raw (.slice none 0 0)) := by kernel_rfl
@[go_sem] theorem tyE66 : tyElem Tryz.prog 66 = some (29, 1) := by kernel_rfl
@[go_sem] theorem tyU66 : Tryz.prog.underlying 66 = some (.slice 29) := by kernel_rfl
@[go_sem] theorem tyS67 : tySize Tryz.prog 67 = some 1 := by kernel_rfl
@[go_sem] theorem tyB67 : tyBytes Tryz.prog 67 = some 8 := by kernel_rfl
@[go_sem] theorem tyG67 : tyAgg Tryz.prog 67 = some false := by kernel_rfl
@[go_sem] theorem tyZ67 : tyZero Tryz.prog 67 = some (.raw (.nilFunc)) := by kernel_rfl
@[go_sem] theorem tyE67 : tyElem Tryz.prog 67 = none := by kernel_rfl
@[go_sem] theorem tyS68 : tySize Tryz.prog 68 = some 1 := by kernel_rfl
@[go_sem] theorem tyB68 : tyBytes Tryz.prog 68 = some 8 := by kernel_rfl
@[go_sem] theorem tyG68 : tyAgg Tryz.prog 68 = some false := by kernel_rfl
@[go_sem] theorem tyZ68 : tyZero Tryz.prog 68 = some (.raw (.nilFunc)) := by kernel_rfl
@[go_sem] theorem tyE68 : tyElem Tryz.prog 68 = none := by kernel_rfl
@[go_sem] theorem tyS70 : tySize Tryz.prog 70 = some 1 := by kernel_rfl
@[go_sem] theorem tyB70 : tyBytes Tryz.prog 70 = some 8 := by kernel_rfl
@[go_sem] theorem tyG70 : tyAgg Tryz.prog 70 = some false := by kernel_rfl
@[go_sem] theorem tyZ70 : tyZero Tryz.prog 70 = some (.raw (.nilFunc)) := by kernel_rfl
@[go_sem] theorem tyE70 : tyElem Tryz.prog 70 = none := by kernel_rfl
@[go_sem] theorem tyS71 : tySize Tryz.prog 71 = some 1 := by kernel_rfl
@[go_sem] theorem tyB71 : tyBytes Tryz.prog 71 = some 8 := by kernel_rfl
@[go_sem] theorem tyG71 : tyAgg Tryz.prog 71 = some false := by kernel_rfl
@[go_sem] theorem tyZ71 : tyZero Tryz.prog 71 = some (.raw (.nilFunc)) := by kernel_rfl
@[go_sem] theorem tyE71 : tyElem Tryz.prog 71 = none := by kernel_rfl
@[go_sem] theorem tyS72 : tySize Tryz.prog 72 = some 1 := by kernel_rfl
@[go_sem] theorem tyB72 : tyBytes Tryz.prog 72 = some 8 := by kernel_rfl
@[go_sem] theorem tyG72 : tyAgg Tryz.prog 72 = some false := by kernel_rfl
@[go_sem] theorem tyZ72 : tyZero Tryz.prog 72 = some (.raw (.nilFunc)) := by kernel_rfl
@[go_sem] theorem tyE72 : tyElem Tryz.prog 72 = none := by kernel_rfl
@[go_sem] theorem tyS73 : tySize Tryz.prog 73 = some 1 := by kernel_rfl
@[go_sem] theorem tyB73 : tyBytes Tryz.prog 73 = some 8 := by kernel_rfl
@[go_sem] theorem tyG73 : tyAgg Tryz.prog 73 = some false := by kernel_rfl
@[go_sem] theorem tyZ73 : tyZero Tryz.prog 73 = some (.raw (.nilFunc)) := by kernel_rfl
@[go_sem] theorem tyE73 : tyElem Tryz.prog 73 = none := by kernel_rfl
@[go_sem] theorem tyS74 : tySize Tryz.prog 74 = some 1 := by kernel_rfl
@[go_sem] theorem tyB74 : tyBytes Tryz.prog 74 = some 24 := by kernel_rfl
@[go_sem] theorem tyG74 : tyAgg Tryz.prog 74 = some true := by kernel_rfl
@[go_sem] theorem tyZ74 : tyZero Tryz.prog 74 = some (.agg [.raw (.slice none 0 0)]) := by kernel_rfl
@[go_sem] theorem tyE74 : tyElem Tryz.prog 74 = none := by kernel_rfl
@[go_sem] theorem tyF74_0 : tyField Tryz.prog 74 0 = some (0, 1, false) := by kernel_rfl
@[go_sem] theorem tyP74_0 : tyPlace Tryz.prog 74 0 = some (0, 1) := by kernel_rfl
@[go_sem] theorem tyK74 : tyKids Tryz.prog 74 = some (.agg [.raw (.slice none 0 0)]) := by kernel_rfl
@[go_sem] theorem tyS75 : tySize Tryz.prog 75 = some 1 := by kernel_rfl
@[go_sem] theorem tyB75 : tyBytes Tryz.prog 75 = some 24 := by kernel_rfl
@[go_sem] theorem tyG75 : tyAgg Tryz.prog 75 = some true := by kernel_rfl
@[go_sem] theorem tyZ75 : tyZero Tryz.prog 75 = some (.agg [.raw (.slice none 0 0)]) := by kernel_rfl
@[go_sem] theorem tyE75 : tyElem Tryz.prog 75 = none := by kernel_rfl
@[go_sem] theorem tyF75_0 : tyField Tryz.prog 75 0 = some (0, 1, false) := by kernel_rfl
@[go_sem] theorem tyP75_0 : tyPlace Tryz.prog 75 0 = some (0, 1) := by kernel_rfl
@[go_sem] theorem tyK75 : tyKids Tryz.prog 75 = some (.agg [.raw (.slice none 0 0)]) := by kernel_rfl
@[go_sem] theorem tyS76 : tySize Tryz.prog 76 = some 1 := by kernel_rfl
@[go_sem] theorem tyB76 : tyBytes Tryz.prog 76 = some 24 := by kernel_rfl
@[go_sem] theorem tyG76 : tyAgg Tryz.prog 76 = some false := by kernel_rfl
@[go_sem] theorem tyZ76 : tyZero Tryz.prog 76 = some (.raw (.slice none 0 0)) := by kernel_rfl
@[go_sem] theorem tyE76 : tyElem Tryz.prog 76 = some (30, 1) := by kernel_rfl
@[go_sem] theorem tyU76 : Tryz.prog.underlying 76 = some (.slice 30) := by kernel_rfl
@[go_sem] theorem tyS77 : tySize Tryz.prog 77 = some 1 := by kernel_rfl
@[go_sem] theorem tyB77 : tyBytes Tryz.prog 77 = some 8 := by kernel_rfl
@[go_sem] theorem tyG77 : tyAgg Tryz.prog 77 = some false := by kernel_rfl
@[go_sem] theorem tyZ77 : tyZero Tryz.prog 77 = some (.raw (.nilFunc)) := by kernel_rfl
@[go_sem] theorem tyE77 : tyElem Tryz.prog 77 = none := by kernel_rfl
@[go_sem] theorem tyS78 : tySize Tryz.prog 78 = some 1 := by kernel_rfl
@[go_sem] theorem tyB78 : tyBytes Tryz.prog 78 = some 8 := by kernel_rfl
@[go_sem] theorem tyG78 : tyAgg Tryz.prog 78 = some false := by kernel_rfl
@[go_sem] theorem tyZ78 : tyZero Tryz.prog 78 = some (.raw (.nilFunc)) := by kernel_rfl
@[go_sem] theorem tyE78 : tyElem Tryz.prog 78 = none := by kernel_rfl
@[go_sem] theorem tyS80 : tySize Tryz.prog 80 = some 1 := by kernel_rfl
@[go_sem] theorem tyB80 : tyBytes Tryz.prog 80 = some 8 := by kernel_rfl
@[go_sem] theorem tyG80 : tyAgg Tryz.prog 80 = some false := by kernel_rfl
@[go_sem] theorem tyZ80 : tyZero Tryz.prog 80 = some (.raw (.nilFunc)) := by kernel_rfl
@[go_sem] theorem tyE80 : tyElem Tryz.prog 80 = none := by kernel_rfl
@[go_sem] theorem tyS81 : tySize Tryz.prog 81 = some 1 := by kernel_rfl
@[go_sem] theorem tyB81 : tyBytes Tryz.prog 81 = some 24 := by kernel_rfl
@[go_sem] theorem tyG81 : tyAgg Tryz.prog 81 = some false := by kernel_rfl
@[go_sem] theorem tyZ81 : tyZero Tryz.prog 81 = some (.raw (.slice none 0 0)) := by kernel_rfl
@[go_sem] theorem tyE81 : tyElem Tryz.prog 81 = some (84, 2) := by kernel_rfl
@[go_sem] theorem tyU81 : Tryz.prog.underlying 81 = some (.slice 84) := by kernel_rfl
@[go_sem] theorem tyS82 : tySize Tryz.prog 82 = some 1 := by kernel_rfl
@[go_sem] theorem tyB82 : tyBytes Tryz.prog 82 = some 8 := by kernel_rfl
@[go_sem] theorem tyG82 : tyAgg Tryz.prog 82 = some false := by kernel_rfl
@[go_sem] theorem tyZ82 : tyZero Tryz.prog 82 = some (.raw (.nilFunc)) := by kernel_rfl
@[go_sem] theorem tyE82 : tyElem Tryz.prog 82 = none := by kernel_rfl
@[go_sem] theorem tyS83 : tySize Tryz.prog 83 = some 2 := by kernel_rfl
@[go_sem] theorem tyB83 : tyBytes Tryz.prog 83 = some 32 := by kernel_rfl
@[go_sem] theorem tyG83 : tyAgg Tryz.prog 83 = some true := by kernel_rfl
@[go_sem] theorem tyZ83 : tyZero Tryz.prog 83 = some (.agg [.raw (.slice none 0 0), .raw (.int .i64 0)]) := by kernel_rfl
@[go_sem] theorem tyE83 : tyElem Tryz.prog 83 = none := by kernel_rfl
@[go_sem] theorem tyF83_0 : tyField Tryz.prog 83 0 = some (0, 1, false) := by kernel_rfl
@[go_sem] theorem tyP83_0 : tyPlace Tryz.prog 83 0 = some (0, 1) := by kernel_rfl
@[go_sem] theorem tyF83_1 : tyField Tryz.prog 83 1 = some (1, 1, false) := by kernel_rfl
@[go_sem] theorem tyP83_1 : tyPlace Tryz.prog 83 1 = some (1, 1) := by kernel_rfl
@[go_sem] theorem tyK83 : tyKids Tryz.prog 83 = some (.agg [.raw (.slice none 0 0), .raw (.int .i64 0)]) := by kernel_rfl
@[go_sem] theorem tyS84 : tySize Tryz.prog 84 = some 2 := by kernel_rfl
@[go_sem] theorem tyB84 : tyBytes Tryz.prog 84 = some 32 := by kernel_rfl
@[go_sem] theorem tyG84 : tyAgg Tryz.prog 84 = some true := by kernel_rfl
@[go_sem] theorem tyZ84 : tyZero Tryz.prog 84 = some (.agg [.raw (.slice none 0 0), .raw (.int .i64 0)]) := by kernel_rfl
@[go_sem] theorem tyE84 : tyElem Tryz.prog 84 = none := by kernel_rfl
@[go_sem] theorem tyF84_0 : tyField Tryz.prog 84 0 = some (0, 1, false) := by kernel_rfl
@[go_sem] theorem tyP84_0 : tyPlace Tryz.prog 84 0 = some (0, 1) := by kernel_rfl
@[go_sem] theorem tyF84_1 : tyField Tryz.prog 84 1 = some (1, 1, false) := by kernel_rfl
@[go_sem] theorem tyP84_1 : tyPlace Tryz.prog 84 1 = some (1, 1) := by kernel_rfl
@[go_sem] theorem tyK84 : tyKids Tryz.prog 84 = some (.agg [.raw (.slice none 0 0), .raw (.int .i64 0)]) := by kernel_rfl
@[go_sem] theorem tyS85 : tySize Tryz.prog 85 = some 1 := by kernel_rfl
@[go_sem] theorem tyB85 : tyBytes Tryz.prog 85 = some 24 := by kernel_rfl
@[go_sem] theorem tyG85 : tyAgg Tryz.prog 85 = some false := by kernel_rfl
@[go_sem] theorem tyZ85 : tyZero Tryz.prog 85 = some (.raw (.slice none 0 0)) := by kernel_rfl
@[go_sem] theorem tyE85 : tyElem Tryz.prog 85 = some (87, 2) := by kernel_rfl
@[go_sem] theorem tyU85 : Tryz.prog.underlying 85 = some (.slice 87) := by kernel_rfl
@[go_sem] theorem tyS86 : tySize Tryz.prog 86 = some 2 := by kernel_rfl
@[go_sem] theorem tyB86 : tyBytes Tryz.prog 86 = some 48 := by kernel_rfl
@[go_sem] theorem tyG86 : tyAgg Tryz.prog 86 = some true := by kernel_rfl
@[go_sem] theorem tyZ86 : tyZero Tryz.prog 86 = some (.agg [.raw (.slice none 0 0), .raw (.slice none 0 0)]) := by kernel_rfl
@[go_sem] theorem tyE86 : tyElem Tryz.prog 86 = none := by kernel_rfl
@[go_sem] theorem tyF86_0 : tyField Tryz.prog 86 0 = some (0, 1, false) := by kernel_rfl
@[go_sem] theorem tyP86_0 : tyPlace Tryz.prog 86 0 = some (0, 1) := by kernel_rfl
@[go_sem] theorem tyF86_1 : tyField Tryz.prog 86 1 = some (1, 1, false) := by kernel_rfl
@[go_sem] theorem tyP86_1 : tyPlace Tryz.prog 86 1 = some (1, 1) := by kernel_rfl
@[go_sem] theorem tyK86 : tyKids Tryz.prog 86 = some (.agg [.raw (.slice none 0 0), .raw (.slice none 0 0)]) := by kernel_rfl
@[go_sem] theorem tyS87 : tySize Tryz.prog 87 = some 2 := by kernel_rfl
@[go_sem] theorem tyB87 : tyBytes Tryz.prog 87 = some 48 := by kernel_rfl
@[go_sem] theorem tyG87 : tyAgg Tryz.prog 87 = some true := by kernel_rfl
@[go_sem] theorem tyZ87 : tyZero Tryz.prog 87 = some (.agg [.raw (.slice none 0 0), .raw (.slice none 0 0)]) := by kernel_rfl
@[go_sem] theorem tyE87 : tyElem Tryz.prog 87 = none := by kernel_rfl
@[go_sem] theorem tyF87_0 : tyField Tryz.prog 87 0 = some (0, 1, false) := by kernel_rfl
@[go_sem] theorem tyP87_0 : tyPlace Tryz.prog 87 0 = some (0, 1) := by kernel_rfl
@[go_sem] theorem tyF87_1 : tyField Tryz.prog 87 1 = some (1, 1, false) := by kernel_rfl
@[go_sem] theorem tyP87_1 : tyPlace Tryz.prog 87 1 = some (1, 1) := by kernel_rfl
@[go_sem] theorem tyK87 : tyKids Tryz.prog 87 = some (.agg [.raw (.slice none 0 0), .raw (.slice none 0 0)]) := by kernel_rfl
@[go_sem] theorem tyS88 : tySize Tryz.prog 88 = some 1 := by kernel_rfl
@[go_sem] theorem tyB88 : tyBytes Tryz.prog 88 = some 8 := by kernel_rfl
@[go_sem] theorem tyG88 : tyAgg Tryz.prog 88 = some false := by kernel_rfl
@[go_sem] theorem tyZ88 : tyZero Tryz.prog 88 = some (.raw (.nilFunc)) := by kernel_rfl
@[go_sem] theorem tyE88 : tyElem Tryz.prog 88 = none := by kernel_rfl
@[go_sem] theorem tyS89 : tySize Tryz.prog 89 = some 1 := by kernel_rfl
@[go_sem] theorem tyB89 : tyBytes Tryz.prog 89 = some 8 := by kernel_rfl
@[go_sem] theorem tyG89 : tyAgg Tryz.prog 89 = some false := by kernel_rfl
@[go_sem] theorem tyZ89 : tyZero Tryz.prog 89 = some (.raw (.nilFunc)) := by kernel_rfl
@[go_sem] theorem tyE89 : tyElem Tryz.prog 89 = none := by kernel_rfl
@[go_sem] theorem tyS90 : tySize Tryz.prog 90 = some 1 := by kernel_rfl
@[go_sem] theorem tyB90 : tyBytes Tryz.prog 90 = some 8 := by kernel_rfl
@[go_sem] theorem tyG90 : tyAgg Tryz.prog 90 = some false := by kernel_rfl
@[go_sem] theorem tyZ90 : tyZero Tryz.prog 90 = some (.raw (.nilFunc)) := by kernel_rfl
@[go_sem] theorem tyE90 : tyElem Tryz.prog 90 = none := by kernel_rfl
@[go_sem] theorem tyS91 : tySize Tryz.prog 91 = some 1 := by kernel_rfl
@[go_sem] theorem tyB91 : tyBytes Tryz.prog 91 = some 8 := by kernel_rfl
@[go_sem] theorem tyG91 : tyAgg Tryz.prog 91 = some false := by kernel_rfl
@[go_sem] theorem tyZ91 : tyZero Tryz.prog 91 = some (.raw (.nilFunc)) := by kernel_rfl
@[go_sem] theorem tyE91 : tyElem Tryz.prog 91 = none := by kernel_rfl
@[go_sem] theorem tyS92 : tySize Tryz.prog 92 = some 1 := by kernel_rfl
@[go_sem] theorem tyB92 : tyBytes Tryz.prog 92 = some 8 := by kernel_rfl
@[go_sem] theorem tyG92 : tyAgg Tryz.prog 92 = some false := by kernel_rfl
@[go_sem] theorem tyZ92 : tyZero Tryz.prog 92 = some (.raw (.nilFunc)) := by kernel_rfl
@[go_sem] theorem tyE92 : tyElem Tryz.prog 92 = none := by kernel_rfl
@[go_sem] theorem tyS93 : tySize Tryz.prog 93 = some 1 := by kernel_rfl
@[go_sem] theorem tyB93 : tyBytes Tryz.prog 93 = some 8 := by kernel_rfl
@[go_sem] theorem tyG93 : tyAgg Tryz.prog 93 = some false := by kernel_rfl
@[go_sem] theorem tyZ93 : tyZero Tryz.prog 93 = some (.raw (.nilFunc)) := by kernel_rfl
@[go_sem] theorem tyE93 : tyElem Tryz.prog 93 = none := by kernel_rfl
@[go_sem] theorem tyS94 : tySize Tryz.prog 94 = some 1 := by kernel_rfl
@[go_sem] theorem tyB94 : tyBytes Tryz.prog 94 = some 8 := by kernel_rfl
@[go_sem] theorem tyG94 : tyAgg Tryz.prog 94 = some false := by kernel_rfl
@[go_sem] theorem tyZ94 : tyZero Tryz.prog 94 = some (.raw (.nilFunc)) := by kernel_rfl
@[go_sem] theorem tyE94 : tyElem Tryz.prog 94 = none := by kernel_rfl
@[go_sem] theorem tyS95 : tySize Tryz.prog 95 = some 1 := by kernel_rfl
@[go_sem] theorem tyB95 : tyBytes Tryz.prog 95 = some 8 := by kernel_rfl
@[go_sem] theorem tyG95 : tyAgg Tryz.prog 95 = some false := by kernel_rfl
@[go_sem] theorem tyZ95 : tyZero Tryz.prog 95 = some (.raw (.nilFunc)) := by kernel_rfl
@[go_sem] theorem tyE95 : tyElem Tryz.prog 95 = none := by kernel_rfl
@[go_sem] theorem tyS96 : tySize Tryz.prog 96 = some 3 := by kernel_rfl
@[go_sem] theorem tyB96 : tyBytes Tryz.prog 96 = some 72 := by kernel_rfl
@[go_sem] theorem tyG96 : tyAgg Tryz.prog 96 = some true := by kernel_rfl
@[go_sem] theorem tyZ96 : tyZero Tryz.prog 96 = some (.agg [.raw (.slice none 0 0), .raw (.slice none 0 0), .raw (.slice none 0 0)]) := by kernel_rfl
@[go_sem] theorem tyE96 : tyElem Tryz.prog 96 = none := by kernel_rfl
@[go_sem] theorem tyF96_0 : tyField Tryz.prog 96 0 = some (0, 1, false) := by kernel_rfl
@[go_sem] theorem tyP96_0 : tyPlace Tryz.prog 96 0 = some (0, 1) := by kernel_rfl
@[go_sem] theorem tyF96_1 : tyField Tryz.prog 96 1 = some (1, 1, false) := by kernel_rfl
@[go_sem] theorem tyP96_1 : tyPlace Tryz.prog 96 1 = some (1, 1) := by kernel_rfl
@[go_sem] theorem tyF96_2 : tyField Tryz.prog 96 2 = some (2, 1, false) := by kernel_rfl
@[go_sem] theorem tyP96_2 : tyPlace Tryz.prog 96 2 = some (2, 1) := by kernel_rfl
@[go_sem] theorem tyK96 : tyKids Tryz.prog 96 = some (.agg [.raw (.slice none 0 0), .raw (.slice none 0 0), .raw (.slice none 0 0)]) := by kernel_rfl
@[go_sem] theorem tyS97 : tySize Tryz.prog 97 = some 3 := by kernel_rfl
@[go_sem] theorem tyB97 : tyBytes Tryz.prog 97 = some 72 := by kernel_rfl
@[go_sem] theorem tyG97 : tyAgg Tryz.prog 97 = some true := by kernel_rfl
@[go_sem] theorem tyZ97 : tyZero Tryz.prog 97 = some (.agg [.raw (.slice none 0 0), .raw (.slice none 0 0), .raw (.slice none 0 0)]) := by kernel_rfl
@[go_sem] theorem tyE97 : tyElem Tryz.prog 97 = none := by kernel_rfl
@[go_sem] theorem tyF97_0 : tyField Tryz.prog 97 0 = some (0, 1, false) := by kernel_rfl
@[go_sem] theorem tyP97_0 : tyPlace Tryz.prog 97 0 = some (0, 1) := by kernel_rfl
@[go_sem] theorem tyF97_1 : tyField Tryz.prog 97 1 = some (1, 1, false) := by kernel_rfl
@[go_sem] theorem tyP97_1 : tyPlace Tryz.prog 97 1 = some (1, 1) := by kernel_rfl
@[go_sem] theorem tyF97_2 : tyField Tryz.prog 97 2 = some (2, 1, false) := by kernel_rfl
@[go_sem] theorem tyP97_2 : tyPlace Tryz.prog 97 2 = some (2, 1) := by kernel_rfl
@[go_sem] theorem tyK97 : tyKids Tryz.prog 97 = some (.agg [.raw (.slice none 0 0), .raw (.slice none 0 0), .raw (.slice none 0 0)]) := by kernel_rfl
@[go_sem] theorem tyS98 : tySize Tryz.prog 98 = some 6 := by kernel_rfl
@[go_sem] theorem tyB98 : tyBytes Tryz.prog 98 = some 144 := by kernel_rfl
@[go_sem] theorem tyG98 : tyAgg Tryz.prog 98 = some true := by kernel_rfl
@[go_sem] theorem tyZ98 : tyZero Tryz.prog 98 = some (.agg [.raw (.slice none 0 0), .raw (.slice none 0 0), .raw (.slice none 0 0), .raw (.slice none 0 0), .raw (.slice none 0 0), .raw (.slice none 0 0)]) := by kernel_rfl
@[go_sem] theorem tyE98 : tyElem Tryz.prog 98 = none := by kernel_rfl
@[go_sem] theorem tyA98 : tyArr Tryz.prog 98 = some (2, 97, 3) := by kernel_rfl
@[go_sem] theorem tyK98 : tyKids Tryz.prog 98 = some (.agg [.agg [.raw (.slice none 0 0), .raw (.slice none 0 0), .raw (.slice none 0 0)], .agg [.raw (.slice none 0 0), .raw (.slice none 0 0), .raw (.slice none 0 0)]]) := by kernel_rfl
@[go_sem] theorem tyP98_0 : tyPlace Tryz.prog 98 0 = some (0, 3) := by kernel_rfl
@[go_sem] theorem tyP98_1 : tyPlace Tryz.prog 98 1 = some (3, 3) := by kernel_rfl
@[go_sem] theorem tyU98 : Tryz.prog.underlying 98 = some (.array 2 97) := by kernel_rfl
@[go_sem] theorem tyS99 : tySize Tryz.prog 99 = some 1 := by kernel_rfl
@[go_sem] theorem tyB99 : tyBytes Tryz.prog 99 = some 8 := by kernel_rfl
@[go_sem] theorem tyG99 : tyAgg Tryz.prog 99 = some false := by kernel_rfl
@[go_sem] theorem tyZ99 : tyZero Tryz.prog 99 = some (.raw (.nilFunc)) := by kernel_rfl
@[go_sem] theorem tyE99 : tyElem Tryz.prog 99 = none := by kernel_rfl
@[go_sem] theorem tyS100 : tySize Tryz.prog 100 = some 1 := by kernel_rfl
@[go_sem] theorem tyB100 : tyBytes Tryz.prog 100 = some 8 := by kernel_rfl
@[go_sem] theorem tyG100 : tyAgg Tryz.prog 100 = some false := by kernel_rfl
@[go_sem] theorem tyZ100 : tyZero Tryz.prog 100 = some (.raw (.nilFunc)) := by kernel_rfl
@[go_sem] theorem tyE100 : tyElem Tryz.prog 100 = none := by kernel_rfl
@[go_sem] theorem tyS101 : tySize Tryz.prog 101 = some 1 := by kernel_rfl
@[go_sem] theorem tyB101 : tyBytes Tryz.prog 101 = some 8 := by kernel_rfl
@[go_sem] theorem tyG101 : tyAgg Tryz.prog 101 = some false := by kernel_rfl
@[go_sem] theorem tyZ101 : tyZero Tryz.prog 101 = some (.raw (.nilFunc)) := by kernel_rfl
@[go_sem] theorem tyE101 : tyElem Tryz.prog 101 = none := by kernel_rfl
@[go_sem] theorem tyS102 : tySize Tryz.prog 102 = some 1 := by kernel_rfl
@[go_sem] theorem tyB102 : tyBytes Tryz.prog 102 = some 8 := by kernel_rfl
@[go_sem] theorem tyG102 : tyAgg Tryz.prog 102 = some false := by kernel_rfl
@[go_sem] theorem tyZ102 : tyZero Tryz.prog 102 = some (.raw (.nilFunc)) := by kernel_rfl
@[go_sem] theorem tyE102 : tyElem Tryz.prog 102 = none := by kernel_rfl
@[go_sem] theorem tyS103 : tySize Tryz.prog 103 = some 1 := by kernel_rfl
@[go_sem] theorem tyB103 : tyBytes Tryz.prog 103 = some 8 := by kernel_rfl
@[go_sem] theorem tyG103 : tyAgg Tryz.prog 103 = some false := by kernel_rfl
@[go_sem] theorem tyZ103 : tyZero Tryz.prog 103 = some (.raw (.nilFunc)) := by kernel_rfl
@[go_sem] theorem tyE103 : tyElem Tryz.prog 103 = none := by kernel_rfl
@[go_sem] theorem tyS104 : tySize Tryz.prog 104 = some 1 := by kernel_rfl
@[go_sem] theorem tyB104 : tyBytes Tryz.prog 104 = some 8 := by kernel_rfl
@[go_sem] theorem tyG104 : tyAgg Tryz.prog 104 = some false := by kernel_rfl
@[go_sem] theorem tyZ104 : tyZero Tryz.prog 104 = some (.raw (.nilFunc)) := by kernel_rfl
@[go_sem] theorem tyE104 : tyElem Tryz.prog 104 = none := by kernel_rfl
@[go_sem] theorem tyS105 : tySize Tryz.prog 105 = some 1 := by kernel_rfl
@[go_sem] theorem tyB105 : tyBytes Tryz.prog 105 = some 8 := by kernel_rfl
@[go_sem] theorem tyG105 : tyAgg Tryz.prog 105 = some false := by kernel_rfl
@[go_sem] theorem tyZ105 : tyZero Tryz.prog 105 = some (.raw (.nilFunc)) := by kernel_rfl
@[go_sem] theorem tyE105 : tyElem Tryz.prog 105 = none := by kernel_rfl
@[go_sem] theorem tyS106 : tySize Tryz.prog 106 = some 1 := by kernel_rfl
@[go_sem] theorem tyB106 : tyBytes Tryz.prog 106 = some 8 := by kernel_rfl
@[go_sem] theorem tyG106 : tyAgg Tryz.prog 106 = some false := by kernel_rfl
@[go_sem] theorem tyZ106 : tyZero Tryz.prog 106 = some (.raw (.nilFunc)) := by kernel_rfl
@[go_sem] theorem tyE106 : tyElem Tryz.prog 106 = none := by kernel_rfl
@[go_sem] theorem tyS107 : tySize Tryz.prog 107 = some 1 := by kernel_rfl
@[go_sem] theorem tyB107 : tyBytes Tryz.prog 107 = some 8 := by kernel_rfl
@[go_sem] theorem tyG107 : tyAgg Tryz.prog 107 = some false := by kernel_rfl
@[go_sem] theorem tyZ107 : tyZero Tryz.prog 107 = some (.raw (.nilFunc)) := by kernel_rfl
@[go_sem] theorem tyE107 : tyElem Tryz.prog 107 = none := by kernel_rfl
@[go_sem] theorem tyS108 : tySize Tryz.prog 108 = some 1 := by kernel_rfl
@[go_sem] theorem tyB108 : tyBytes Tryz.prog 108 = some 8 := by kernel_rfl
@[go_sem] theorem tyG108 : tyAgg Tryz.prog 108 = some false := by kernel_rfl
@[go_sem] theorem tyZ108 : tyZero Tryz.prog 108 = some (.raw (.int .u64 0)) := by kernel_rfl
@[go_sem] theorem tyE108 : tyElem Tryz.prog 108 = none := by kernel_rfl
@[go_sem] theorem tyU108 : Tryz.prog.underlying 108 = some (.int .u64) := by kernel_rfl
@[go_sem] theorem tyS109 : tySize Tryz.prog 109 = some 1 := by kernel_rfl
@[go_sem] theorem tyB109 : tyBytes Tryz.prog 109 = some 8 := by kernel_rfl
@[go_sem] theorem tyG109 : tyAgg Tryz.prog 109 = some false := by kernel_rfl
@[go_sem] theorem tyZ109 : tyZero Tryz.prog 109 = some (.raw (.nilFunc)) := by kernel_rfl
@[go_sem] theorem tyE109 : tyElem Tryz.prog 109 = none := by kernel_rfl
@[go_sem] theorem tyS110 : tySize Tryz.prog 110 = some 1 := by kernel_rfl
@[go_sem] theorem tyB110 : tyBytes Tryz.prog 110 = some 4 := by kernel_rfl
@[go_sem] theorem tyG110 : tyAgg Tryz.prog 110 = some false := by kernel_rfl
@[go_sem] theorem tyZ110 : tyZero Tryz.prog 110 = some (.raw (.int .u32 0)) := by kernel_rfl
@[go_sem] theorem tyE110 : tyElem Tryz.prog 110 = none := by kernel_rfl
@[go_sem] theorem tyU110 : Tryz.prog.underlying 110 = some (.int .u32) := by kernel_rfl
@[go_sem] theorem tyS111 : tySize Tryz.prog 111 = some 1 := by kernel_rfl
@[go_sem] theorem tyB111 : tyBytes Tryz.prog 111 = some 8 := by kernel_rfl
@[go_sem] theorem tyG111 : tyAgg Tryz.prog 111 = some false := by kernel_rfl
@[go_sem] theorem tyZ111 : tyZero Tryz.prog 111 = some (.raw (.int .u64 0)) := by kernel_rfl
@[go_sem] theorem tyE111 : tyElem Tryz.prog 111 = none := by kernel_rfl
@[go_sem] theorem tyU111 : Tryz.prog.underlying 111 = some (.int .u64) := by kernel_rfl
@[go_sem] theorem tyS112 : tySize Tryz.prog 112 = some 1 := by kernel_rfl
@[go_sem] theorem tyB112 : tyBytes Tryz.prog 112 = some 8 := by kernel_rfl
@[go_sem] theorem tyG112 : tyAgg Tryz.prog 112 = some false := by kernel_rfl
@[go_sem] theorem tyZ112 : tyZero Tryz.prog 112 = some (.raw (.nilFunc)) := by kernel_rfl
@[go_sem] theorem tyE112 : tyElem Tryz.prog 112 = none := by kernel_rfl
@[go_sem] theorem tyS113 : tySize Tryz.prog 113 = some 1 := by kernel_rfl
@[go_sem] theorem tyB113 : tyBytes Tryz.prog 113 = some 8 := by kernel_rfl
@[go_sem] theorem tyG113 : tyAgg Tryz.prog 113 = some false := by kernel_rfl
@[go_sem] theorem tyZ113 : tyZero Tryz.prog 113 = some (.raw (.nilFunc)) := by kernel_rfl
@[go_sem] theorem tyE113 : tyElem Tryz.prog 113 = none := by kernel_rfl
@[go_sem] theorem tyS115 : tySize Tryz.prog 115 = some 1 := by kernel_rfl
@[go_sem] theorem tyB115 : tyBytes Tryz.prog 115 = some 8 := by kernel_rfl
@[go_sem] theorem tyG115 : tyAgg Tryz.prog 115 = some false := by kernel_rfl
@[go_sem] theorem tyZ115 : tyZero Tryz.prog 115 = some (.raw (.nilFunc)) := by kernel_rfl
@[go_sem] theorem tyE115 : tyElem Tryz.prog 115 = none := by kernel_rfl
@[go_sem] theorem tyS116 : tySize Tryz.prog 116 = some 1 := by kernel_rfl
@[go_sem] theorem tyB116 : tyBytes Tryz.prog 116 = some 8 := by kernel_rfl
@[go_sem] theorem tyG116 : tyAgg Tryz.prog 116 = some false := by kernel_rfl
@[go_sem] theorem tyZ116 : tyZero Tryz.prog 116 = some (.raw (.nilFunc)) := by kernel_rfl
@[go_sem] theorem tyE116 : tyElem Tryz.prog 116 = none := by kernel_rfl
@[go_sem] theorem tyS118 : tySize Tryz.prog 118 = some 1 := by kernel_rfl
@[go_sem] theorem tyB118 : tyBytes Tryz.prog 118 = some 8 := by kernel_rfl
@[go_sem] theorem tyG118 : tyAgg Tryz.prog 118 = some false := by kernel_rfl
@[go_sem] theorem tyZ118 : tyZero Tryz.prog 118 = some (.raw (.nilFunc)) := by kernel_rfl
@[go_sem] theorem tyE118 : tyElem Tryz.prog 118 = none := by kernel_rfl
@[go_sem] theorem tyS119 : tySize Tryz.prog 119 = some 1 := by kernel_rfl
@[go_sem] theorem tyB119 : tyBytes Tryz.prog 119 = some 8 := by kernel_rfl
@[go_sem] theorem tyG119 : tyAgg Tryz.prog 119 = some false := by kernel_rfl
@[go_sem] theorem tyZ119 : tyZero Tryz.prog 119 = some (.raw (.nilFunc)) := by kernel_rfl
@[go_sem] theorem tyE119 : tyElem Tryz.prog 119 = none := by kernel_rfl
@[go_sem] theorem tyS120 : tySize Tryz.prog 120 = some 1 := by kernel_rfl
@[go_sem] theorem tyB120 : tyBytes Tryz.prog 120 = some 24 := by kernel_rfl
@[go_sem] theorem tyG120 : tyAgg Tryz.prog 120 = some false := by kernel_rfl
@[go_sem] theorem tyZ120 : tyZero Tryz.prog 120 = some (.raw (.slice none 0 0)) := by kernel_rfl
@[go_sem] theorem tyE120 : tyElem Tryz.prog 120 = some (43, 2) := by kernel_rfl
@[go_sem] theorem tyU120 : Tryz.prog.underlying 120 = some (.slice 43) := by kernel_rfl
@[go_sem] theorem tyS121 : tySize Tryz.prog 121 = some 1 := by kernel_rfl
@[go_sem] theorem tyB121 : tyBytes Tryz.prog 121 = some 8 := by kernel_rfl
@[go_sem] theorem tyG121 : tyAgg Tryz.prog 121 = some false := by kernel_rfl
@[go_sem] theorem tyZ121 : tyZero Tryz.prog 121 = some (.raw (.nilFunc)) := by kernel_rfl
@[go_sem] theorem tyE121 : tyElem Tryz.prog 121 = none := by kernel_rfl
@[go_sem] theorem tyS122 : tySize Tryz.prog 122 = some 1 := by kernel_rfl
@[go_sem] theorem tyB122 : tyBytes Tryz.prog 122 = some 8 := by kernel_rfl
@[go_sem] theorem tyG122 : tyAgg Tryz.prog 122 = some false := by kernel_rfl
@[go_sem] theorem tyZ122 : tyZero Tryz.prog 122 = some (.raw (.nilFunc)) := by kernel_rfl
@[go_sem] theorem tyE122 : tyElem Tryz.prog 122 = none := by kernel_rfl
@[go_sem] theorem tyS123 : tySize Tryz.prog 123 = some 1 := by kernel_rfl
@[go_sem] theorem tyB123 : tyBytes Tryz.prog 123 = some 8 := by kernel_rfl
@[go_sem] theorem tyG123 : tyAgg Tryz.prog 123 = some false := by kernel_rfl
@[go_sem] theorem tyZ123 : tyZero Tryz.prog 123 = some (.raw (.nilFunc)) := by kernel_rfl
@[go_sem] theorem tyE123 : tyElem Tryz.prog 123 = none := by kernel_rfl
@[go_sem] theorem tyS125 : tySize Tryz.prog 125 = some 1 := by kernel_rfl
@[go_sem] theorem tyB125 : tyBytes Tryz.prog 125 = some 8 := by kernel_rfl
@[go_sem] theorem tyG125 : tyAgg Tryz.prog 125 = some false := by kernel_rfl
@[go_sem] theorem tyZ125 : tyZero Tryz.prog 125 = some (.raw (.nilFunc)) := by kernel_rfl
@[go_sem] theorem tyE125 : tyElem Tryz.prog 125 = none := by kernel_rfl
@[go_sem] theorem tyS127 : tySize Tryz.prog 127 = some 1 := by kernel_rfl
@[go_sem] theorem tyB127 : tyBytes Tryz.prog 127 = some 8 := by kernel_rfl
@[go_sem] theorem tyG127 : tyAgg Tryz.prog 127 = some false := by kernel_rfl
@[go_sem] theorem tyZ127 : tyZero Tryz.prog 127 = some (.raw (.nilFunc)) := by kernel_rfl
@[go_sem] theorem tyE127 : tyElem Tryz.prog 127 = none := by kernel_rfl
@[go_sem] theorem tyS129 : tySize Tryz.prog 129 = some 1 := by kernel_rfl
@[go_sem] theorem tyB129 : tyBytes Tryz.prog 129 = some 8 := by kernel_rfl
@[go_sem] theorem tyG129 : tyAgg Tryz.prog 129 = some false := by kernel_rfl
@[go_sem] theorem tyZ129 : tyZero Tryz.prog 129 = some (.raw (.nilFunc)) := by kernel_rfl
@[go_sem] theorem tyE129 : tyElem Tryz.prog 129 = none := by kernel_rfl
@[go_sem] theorem tyS130 : tySize Tryz.prog 130 = some 1 := by kernel_rfl
@[go_sem] theorem tyB130 : tyBytes Tryz.prog 130 = some 8 := by kernel_rfl
@[go_sem] theorem tyG130 : tyAgg Tryz.prog 130 = some false := by kernel_rfl
@[go_sem] theorem tyZ130 : tyZero Tryz.prog 130 = some (.raw (.nilFunc)) := by kernel_rfl
@[go_sem] theorem tyE130 : tyElem Tryz.prog 130 = none := by kernel_rfl
@[go_sem] theorem tyS131 : tySize Tryz.prog 131 = some 1 := by kernel_rfl
@[go_sem] theorem tyB131 : tyBytes Tryz.prog 131 = some 8 := by kernel_rfl
@[go_sem] theorem tyG131 : tyAgg Tryz.prog 131 = some false := by kernel_rfl
@[go_sem] theorem tyZ131 : tyZero Tryz.prog 131 = some (.raw (.nilFunc)) := by kernel_rfl
@[go_sem] theorem tyE131 : tyElem Tryz.prog 131 = none := by kernel_rfl
@[go_sem] theorem tyS132 : tySize Tryz.prog 132 = some 1 := by kernel_rfl
@[go_sem] theorem tyB132 : tyBytes Tryz.prog 132 = some 8 := by kernel_rfl
@[go_sem] theorem tyG132 : tyAgg Tryz.prog 132 = some false := by kernel_rfl
@[go_sem] theorem tyZ132 : tyZero Tryz.prog 132 = some (.raw (.nilFunc)) := by kernel_rfl
@[go_sem] theorem tyE132 : tyElem Tryz.prog 132 = none := by kernel_rfl
@[go_sem] theorem tyS134 : tySize Tryz.prog 134 = some 1 := by kernel_rfl
@[go_sem] theorem tyB134 : tyBytes Tryz.prog 134 = some 8 := by kernel_rfl
@[go_sem] theorem tyG134 : tyAgg Tryz.prog 134 = some false := by kernel_rfl
@[go_sem] theorem tyZ134 : tyZero Tryz.prog 134 = some (.raw (.nilFunc)) := by kernel_rfl
@[go_sem] theorem tyE134 : tyElem Tryz.prog 134 = none := by kernel_rfl
@[go_sem] theorem tyS135 : tySize Tryz.prog 135 = some 1 := by kernel_rfl
@[go_sem] theorem tyB135 : tyBytes Tryz.prog 135 = some 8 := by kernel_rfl
@[go_sem] theorem tyG135 : tyAgg Tryz.prog 135 = some false := by kernel_rfl
@[go_sem] theorem tyZ135 : tyZero Tryz.prog 135 = some (.raw (.nilFunc)) := by kernel_rfl
@[go_sem] theorem tyE135 : tyElem Tryz.prog 135 = none := by kernel_rfl
@[go_sem] theorem tyS137 : tySize Tryz.prog 137 = some 1 := by kernel_rfl
@[go_sem] theorem tyB137 : tyBytes Tryz.prog 137 = some 8 := by kernel_rfl
@[go_sem] theorem tyG137 : tyAgg Tryz.prog 137 = some false := by kernel_rfl
@[go_sem] theorem tyZ137 : tyZero Tryz.prog 137 = some (.raw (.nilFunc)) := by kernel_rfl
@[go_sem] theorem tyE137 : tyElem Tryz.prog 137 = none := by kernel_rfl
@[go_sem] theorem tyS138 : tySize Tryz.prog 138 = some 1 := by kernel_rfl
@[go_sem] theorem tyB138 : tyBytes Tryz.prog 138 = some 8 := by kernel_rfl
@[go_sem] theorem tyG138 : tyAgg Tryz.prog 138 = some false := by kernel_rfl
@[go_sem] theorem tyZ138 : tyZero Tryz.prog 138 = some (.raw (.nilFunc)) := by kernel_rfl
@[go_sem] theorem tyE138 : tyElem Tryz.prog 138 = none := by kernel_rfl
@[go_sem] theorem tyS139 : tySize Tryz.prog 139 = some 1 := by kernel_rfl
@[go_sem] theorem tyB139 : tyBytes Tryz.prog 139 = some 8 := by kernel_rfl
@[go_sem] theorem tyG139 : tyAgg Tryz.prog 139 = some false := by kernel_rfl
@[go_sem] theorem tyZ139 : tyZero Tryz.prog 139 = some (.raw (.nilFunc)) := by kernel_rfl
@[go_sem] theorem tyE139 : tyElem Tryz.prog 139 = none := by kernel_rfl
@[go_sem] theorem tyS140 : tySize Tryz.prog 140 = some 1 := by kernel_rfl
@[go_sem] theorem tyB140 : tyBytes Tryz.prog 140 = some 8 := by kernel_rfl
@[go_sem] theorem tyG140 : tyAgg Tryz.prog 140 = some false := by kernel_rfl
@[go_sem] theorem tyZ140 : tyZero Tryz.prog 140 = some (.raw (.nilFunc)) := by kernel_rfl
@[go_sem] theorem tyE140 : tyElem Tryz.prog 140 = none := by kernel_rfl
@[go_sem] theorem tyS141 : tySize Tryz.prog 141 = some 1 := by kernel_rfl
@[go_sem] theorem tyB141 : tyBytes Tryz.prog 141 = some 8 := by kernel_rfl
@[go_sem] theorem tyG141 : tyAgg Tryz.prog 141 = some false := by kernel_rfl
@[go_sem] theorem tyZ141 : tyZero Tryz.prog 141 = some (.raw (.nilFunc)) := by kernel_rfl
@[go_sem] theorem tyE141 : tyElem Tryz.prog 141 = none := by kernel_rfl
@[go_sem] theorem tyS142 : tySize Tryz.prog 142 = some 1 := by kernel_rfl
@[go_sem] theorem tyB142 : tyBytes Tryz.prog 142 = some 8 := by kernel_rfl
@[go_sem] theorem tyG142 : tyAgg Tryz.prog 142 = some false := by kernel_rfl
@[go_sem] theorem tyZ142 : tyZero Tryz.prog 142 = some (.raw (.nilFunc)) := by kernel_rfl
@[go_sem] theorem tyE142 : tyElem Tryz.prog 142 = none := by kernel_rfl
@[go_sem] theorem tyS143 : tySize Tryz.prog 143 = some 1 := by kernel_rfl
@[go_sem] theorem tyB143 : tyBytes Tryz.prog 143 = some 8 := by kernel_rfl
@[go_sem] theorem tyG143 : tyAgg Tryz.prog 143 = some false := by kernel_rfl
@[go_sem] theorem tyZ143 : tyZero Tryz.prog 143 = some (.raw (.nilFunc)) := by kernel_rfl
@[go_sem] theorem tyE143 : tyElem Tryz.prog 143 = none := by kernel_rfl
@[go_sem] theorem tyS144 : tySize Tryz.prog 144 = some 4 := by kernel_rfl
@[go_sem] theorem tyB144 : tyBytes Tryz.prog 144 = some 40 := by kernel_rfl
@[go_sem] theorem tyG144 : tyAgg Tryz.prog 144 = some true := by kernel_rfl
@[go_sem] theorem tyZ144 : tyZero Tryz.prog 144 = some (.agg [.raw (.pointer none), .raw (.pointer none), .raw (.pointer none), .raw (.string ⟨#[]⟩)]) := by kernel_rfl
@[go_sem] theorem tyE144 : tyElem Tryz.prog 144 = none := by kernel_rfl
@[go_sem] theorem tyF144_0 : tyField Tryz.prog 144 0 = some (0, 1, false) := by kernel_rfl
@[go_sem] theorem tyP144_0 : tyPlace Tryz.prog 144 0 = some (0, 1) := by kernel_rfl
@[go_sem] theorem tyF144_1 : tyField Tryz.prog 144 1 = some (1, 1, false) := by kernel_rfl
@[go_sem] theorem tyP144_1 : tyPlace Tryz.prog 144 1 = some (1, 1) := by kernel_rfl
@[go_sem] theorem tyF144_2 : tyField Tryz.prog 144 2 = some (2, 1, false) := by kernel_rfl
@[go_sem] theorem tyP144_2 : tyPlace Tryz.prog 144 2 = some (2, 1) := by kernel_rfl
@[go_sem] theorem tyF144_3 : tyField Tryz.prog 144 3 = some (3, 1, false) := by kernel_rfl
@[go_sem] theorem tyP144_3 : tyPlace Tryz.prog 144 3 = some (3, 1) := by kernel_rfl
@[go_sem] theorem tyK144 : tyKids Tryz.prog 144 = some (.agg [.raw (.pointer none), .raw (.pointer none), .raw (.pointer none), .raw (.string ⟨#[]⟩)]) := by kernel_rfl
@[go_sem] theorem tyS145 : tySize Tryz.prog 145 = some 4 := by kernel_rfl
@[go_sem] theorem tyB145 : tyBytes Tryz.prog 145 = some 40 := by kernel_rfl
@[go_sem] theorem tyG145 : tyAgg Tryz.prog 145 = some true := by kernel_rfl
@[go_sem] theorem tyZ145 : tyZero Tryz.prog 145 = some (.agg [.raw (.pointer none), .raw (.pointer none), .raw (.pointer none), .raw (.string ⟨#[]⟩)]) := by kernel_rfl
@[go_sem] theorem tyE145 : tyElem Tryz.prog 145 = none := by kernel_rfl
@[go_sem] theorem tyF145_0 : tyField Tryz.prog 145 0 = some (0, 1, false) := by kernel_rfl
@[go_sem] theorem tyP145_0 : tyPlace Tryz.prog 145 0 = some (0, 1) := by kernel_rfl
@[go_sem] theorem tyF145_1 : tyField Tryz.prog 145 1 = some (1, 1, false) := by kernel_rfl
@[go_sem] theorem tyP145_1 : tyPlace Tryz.prog 145 1 = some (1, 1) := by kernel_rfl
@[go_sem] theorem tyF145_2 : tyField Tryz.prog 145 2 = some (2, 1, false) := by kernel_rfl
@[go_sem] theorem tyP145_2 : tyPlace Tryz.prog 145 2 = some (2, 1) := by kernel_rfl
@[go_sem] theorem tyF145_3 : tyField Tryz.prog 145 3 = some (3, 1, false) := by kernel_rfl
@[go_sem] theorem tyP145_3 : tyPlace Tryz.prog 145 3 = some (3, 1) := by kernel_rfl
@[go_sem] theorem tyK145 : tyKids Tryz.prog 145 = some (.agg [.raw (.pointer none), .raw (.pointer none), .raw (.pointer none), .raw (.string ⟨#[]⟩)]) := by kernel_rfl
@[go_sem] theorem tyS146 : tySize Tryz.prog 146 = some 0 := by kernel_rfl
@[go_sem] theorem tyB146 : tyBytes Tryz.prog 146 = some 0 := by kernel_rfl
@[go_sem] theorem tyG146 : tyAgg Tryz.prog 146 = some true := by kernel_rfl
@[go_sem] theorem tyZ146 : tyZero Tryz.prog 146 = some (.agg []) := by kernel_rfl
@[go_sem] theorem tyE146 : tyElem Tryz.prog 146 = none := by kernel_rfl
@[go_sem] theorem tyA146 : tyArr Tryz.prog 146 = some (0, 16, 1) := by kernel_rfl
@[go_sem] theorem tyK146 : tyKids Tryz.prog 146 = some (.agg []) := by kernel_rfl
@[go_sem] theorem tyU146 : Tryz.prog.underlying 146 = some (.array 0 16) := by kernel_rfl
@[go_sem] theorem tyS147 : tySize Tryz.prog 147 = some 0 := by kernel_rfl
@[go_sem] theorem tyB147 : tyBytes Tryz.prog 147 = some 0 := by kernel_rfl
@[go_sem] theorem tyG147 : tyAgg Tryz.prog 147 = some true := by kernel_rfl
@[go_sem] theorem tyZ147 : tyZero Tryz.prog 147 = some (.agg []) := by kernel_rfl
@[go_sem] theorem tyE147 : tyElem Tryz.prog 147 = none := by kernel_rfl
@[go_sem] theorem tyF147_0 : tyField Tryz.prog 147 0 = some (0, 0, true) := by kernel_rfl
@[go_sem] theorem tyP147_0 : tyPlace Tryz.prog 147 0 = some (0, 0) := by kernel_rfl
@[go_sem] theorem tyK147 : tyKids Tryz.prog 147 = some (.agg [.agg []]) := by kernel_rfl
@[go_sem] theorem tyS148 : tySize Tryz.prog 148 = some 0 := by kernel_rfl
@[go_sem] theorem tyB148 : tyBytes Tryz.prog 148 = some 0 := by kernel_rfl
@[go_sem] theorem tyG148 : tyAgg Tryz.prog 148 = some true := by kernel_rfl
@[go_sem] theorem tyZ148 : tyZero Tryz.prog 148 = some (.agg []) := by kernel_rfl
@[go_sem] theorem tyE148 : tyElem Tryz.prog 148 = none := by kernel_rfl
@[go_sem] theorem tyF148_0 : tyField Tryz.prog 148 0 = some (0, 0, true) := by kernel_rfl
@[go_sem] theorem tyP148_0 : tyPlace Tryz.prog 148 0 = some (0, 0) := by kernel_rfl
@[go_sem] theorem tyK148 : tyKids Tryz.prog 148 = some (.agg [.agg []]) := by kernel_rfl
@[go_sem] theorem tyS149 : tySize Tryz.prog 149 = some 1 := by kernel_rfl
@[go_sem] theorem tyB149 : tyBytes Tryz.prog 149 = some 8 := by kernel_rfl
@[go_sem] theorem tyG149 : tyAgg Tryz.prog 149 = some false := by kernel_rfl
@[go_sem] theorem tyZ149 : tyZero Tryz.prog 149 = some (.raw (.nilFunc)) := by kernel_rfl
@[go_sem] theorem tyE149 : tyElem Tryz.prog 149 = none := by kernel_rfl
@[go_sem] theorem tyS150 : tySize Tryz.prog 150 = some 1 := by kernel_rfl
@[go_sem] theorem tyB150 : tyBytes Tryz.prog 150 = some 1 := by kernel_rfl
@[go_sem] theorem tyG150 : tyAgg Tryz.prog 150 = some false := by kernel_rfl
@[go_sem] theorem tyZ150 : tyZero Tryz.prog 150 = some (.raw (.int .u8 0)) := by kernel_rfl
@[go_sem] theorem tyE150 : tyElem Tryz.prog 150 = none := by kernel_rfl
@[go_sem] theorem tyU150 : Tryz.prog.underlying 150 = some (.int .u8) := by kernel_rfl
@[go_sem] theorem tyS151 : tySize Tryz.prog 151 = some 1 := by kernel_rfl
@[go_sem] theorem tyB151 : tyBytes Tryz.prog 151 = some 1 := by kernel_rfl
@[go_sem] theorem tyG151 : tyAgg Tryz.prog 151 = some false := by kernel_rfl
@[go_sem] theorem tyZ151 : tyZero Tryz.prog 151 = some (.raw (.int .u8 0)) := by kernel_rfl
@[go_sem] theorem tyE151 : tyElem Tryz.prog 151 = none := by kernel_rfl
@[go_sem] theorem tyU151 : Tryz.prog.underlying 151 = some (.int .u8) := by kernel_rfl
@[go_sem] theorem tyS152 : tySize Tryz.prog 152 = some 1 := by kernel_rfl
@[go_sem] theorem tyB152 : tyBytes Tryz.prog 152 = some 8 := by kernel_rfl
@[go_sem] theorem tyG152 : tyAgg Tryz.prog 152 = some false := by kernel_rfl
@[go_sem] theorem tyZ152 : tyZero Tryz.prog 152 = some (.raw (.nilFunc)) := by kernel_rfl
@[go_sem] theorem tyE152 : tyElem Tryz.prog 152 = none := by kernel_rfl
@[go_sem] theorem tyS153 : tySize Tryz.prog 153 = some 1 := by kernel_rfl
@[go_sem] theorem tyB153 : tyBytes Tryz.prog 153 = some 8 := by kernel_rfl
@[go_sem] theorem tyG153 : tyAgg Tryz.prog 153 = some false := by kernel_rfl
@[go_sem] theorem tyZ153 : tyZero Tryz.prog 153 = some (.raw (.pointer none)) := by kernel_rfl
@[go_sem] theorem tyE153 : tyElem Tryz.prog 153 = none := by kernel_rfl
@[go_sem] theorem tyS154 : tySize Tryz.prog 154 = some 1 := by kernel_rfl
@[go_sem] theorem tyB154 : tyBytes Tryz.prog 154 = some 4 := by kernel_rfl
@[go_sem] theorem tyG154 : tyAgg Tryz.prog 154 = some false := by kernel_rfl
@[go_sem] theorem tyZ154 : tyZero Tryz.prog 154 = some (.raw (.int .i32 0)) := by kernel_rfl
@[go_sem] theorem tyE154 : tyElem Tryz.prog 154 = none := by kernel_rfl
@[go_sem] theorem tyU154 : Tryz.prog.underlying 154 = some (.int .i32) := by kernel_rfl
@[go_sem] theorem tyS155 : tySize Tryz.prog 155 = some 1 := by kernel_rfl
@[go_sem] theorem tyB155 : tyBytes Tryz.prog 155 = some 4 := by kernel_rfl
@[go_sem] theorem tyG155 : tyAgg Tryz.prog 155 = some false := by kernel_rfl
@[go_sem] theorem tyZ155 : tyZero Tryz.prog 155 = some (.raw (.int .i32 0)) := by kernel_rfl
@[go_sem] theorem tyE155 : tyElem Tryz.prog 155 = none := by kernel_rfl
@[go_sem] theorem tyU155 : Tryz.prog.underlying 155 = some (.int .i32) := by kernel_rfl
@[go_sem] theorem tyS156 : tySize Tryz.prog 156 = some 11 := by kernel_rfl
@[go_sem] theorem tyB156 : tyBytes Tryz.prog 156 = some 48 := by kernel_rfl
@[go_sem] theorem tyG156 : tyAgg Tryz.prog 156 = some true := by kernel_rfl
@[go_sem] theorem tyZ156 : tyZero Tryz.prog 156 = some (.agg [.raw (.int .u64 0), .raw (.int .u64 0), .raw (.int .u32 0), .raw (.int .u8 0), .raw (.int .u8 0), .raw (.int .u8 0), .raw (.int .u8 0), .raw (.nilFunc), .raw (.pointer none), .raw (.int .i32 0), .raw (.int .i32 0)]) := by kernel_rfl
@[go_sem] theorem tyE156 : tyElem Tryz.prog 156 = none := by kernel_rfl
@[go_sem] theorem tyF156_0 : tyField Tryz.prog 156 0 = some (0, 1, false) := by kernel_rfl
@[go_sem] theorem tyP156_0 : tyPlace Tryz.prog 156 0 = some (0, 1) := by kernel_rfl
@[go_sem] theorem tyF156_1 : tyField Tryz.prog 156 1 = some (1, 1, false) := by kernel_rfl
@[go_sem] theorem tyP156_1 : tyPlace Tryz.prog 156 1 = some (1, 1) := by kernel_rfl
@[go_sem] theorem tyF156_2 : tyField Tryz.prog 156 2 = some (2, 1, false) := by kernel_rfl
@[go_sem] theorem tyP156_2 : tyPlace Tryz.prog 156 2 = some (2, 1) := by kernel_rfl
@[go_sem] theorem tyF156_3 : tyField Tryz.prog 156 3 = some (3, 1, false) := by kernel_rfl
@[go_sem] theorem tyP156_3 : tyPlace Tryz.prog 156 3 = some (3, 1) := by kernel_rfl
@[go_sem] theorem tyF156_4 : tyField Tryz.prog 156 4 = some (4, 1, false) := by kernel_rfl
@[go_sem] theorem tyP156_4 : tyPlace Tryz.prog 156 4 = some (4, 1) := by kernel_rfl
@[go_sem] theorem tyF156_5 : tyField Tryz.prog 156 5 = some (5, 1, false) := by kernel_rfl
@[go_sem] theorem tyP156_5 : tyPlace Tryz.prog 156 5 = some (5, 1) := by kernel_rfl
@[go_sem] theorem tyF156_6 : tyField Tryz.prog 156 6 = some (6, 1, false) := by kernel_rfl
@[go_sem] theorem tyP156_6 : tyPlace Tryz.prog 156 6 = some (6, 1) := by kernel_rfl
@[go_sem] theorem tyF156_7 : tyField Tryz.prog 156 7 = some (7, 1, false) := by kernel_rfl
@[go_sem] theorem tyP156_7 : tyPlace Tryz.prog 156 7 = some (7, 1) := by kernel_rfl
@[go_sem] theorem tyF156_8 : tyField Tryz.prog 156 8 = some (8, 1, false) := by kernel_rfl
@[go_sem] theorem tyP156_8 : tyPlace Tryz.prog 156 8 = some (8, 1) := by kernel_rfl
@[go_sem] theorem tyF156_9 : tyField Tryz.prog 156 9 = some (9, 1, false) := by kernel_rfl
@[go_sem] theorem tyP156_9 : tyPlace Tryz.prog 156 9 = some (9, 1) := by kernel_rfl
@[go_sem] theorem tyF156_10 : tyField Tryz.prog 156 10 = some (10, 1, false) := by kernel_rfl
@[go_sem] theorem tyP156_10 : tyPlace Tryz.prog 156 10 = some (10, 1) := by kernel_rfl
@[go_sem] theorem tyK156 : tyKids Tryz.prog 156 = some (.agg [.raw (.int .u64 0), .raw (.int .u64 0), .raw (.int .u32 0), .raw (.int .u8 0), .raw (.int .u8 0), .raw (.int .u8 0), .raw (.int .u8 0), .raw (.nilFunc), .raw (.pointer none), .raw (.int .i32 0), .raw (.int .i32 0)]) := by kernel_rfl
@[go_sem] theorem tyS157 : tySize Tryz.prog 157 = some 11 := by kernel_rfl
@[go_sem] theorem tyB157 : tyBytes Tryz.prog 157 = some 48 := by kernel_rfl
@[go_sem] theorem tyG157 : tyAgg Tryz.prog 157 = some true := by kernel_rfl
@[go_sem] theorem tyZ157 : tyZero Tryz.prog 157 = some (.agg [.raw (.int .u64 0), .raw (.int .u64 0), .raw (.int .u32 0), .raw (.int .u8 0), .raw (.int .u8 0), .raw (.int .u8 0), .raw (.int .u8 0), .raw (.nilFunc), .raw (.pointer none), .raw (.int .i32 0), .raw (.int .i32 0)]) := by kernel_rfl
@[go_sem] theorem tyE157 : tyElem Tryz.prog 157 = none := by kernel_rfl
@[go_sem] theorem tyF157_0 : tyField Tryz.prog 157 0 = some (0, 1, false) := by kernel_rfl
@[go_sem] theorem tyP157_0 : tyPlace Tryz.prog 157 0 = some (0, 1) := by kernel_rfl
@[go_sem] theorem tyF157_1 : tyField Tryz.prog 157 1 = some (1, 1, false) := by kernel_rfl
@[go_sem] theorem tyP157_1 : tyPlace Tryz.prog 157 1 = some (1, 1) := by kernel_rfl
@[go_sem] theorem tyF157_2 : tyField Tryz.prog 157 2 = some (2, 1, false) := by kernel_rfl
@[go_sem] theorem tyP157_2 : tyPlace Tryz.prog 157 2 = some (2, 1) := by kernel_rfl
@[go_sem] theorem tyF157_3 : tyField Tryz.prog 157 3 = some (3, 1, false) := by kernel_rfl
@[go_sem] theorem tyP157_3 : tyPlace Tryz.prog 157 3 = some (3, 1) := by kernel_rfl
@[go_sem] theorem tyF157_4 : tyField Tryz.prog 157 4 = some (4, 1, false) := by kernel_rfl
@[go_sem] theorem tyP157_4 : tyPlace Tryz.prog 157 4 = some (4, 1) := by kernel_rfl
@[go_sem] theorem tyF157_5 : tyField Tryz.prog 157 5 = some (5, 1, false) := by kernel_rfl
@[go_sem] theorem tyP157_5 : tyPlace Tryz.prog 157 5 = some (5, 1) := by kernel_rfl
@[go_sem] theorem tyF157_6 : tyField Tryz.prog 157 6 = some (6, 1, false) := by kernel_rfl
@[go_sem] theorem tyP157_6 : tyPlace Tryz.prog 157 6 = some (6, 1) := by kernel_rfl
@[go_sem] theorem tyF157_7 : tyField Tryz.prog 157 7 = some (7, 1, false) := by kernel_rfl
@[go_sem] theorem tyP157_7 : tyPlace Tryz.prog 157 7 = some (7, 1) := by kernel_rfl
@[go_sem] theorem tyF157_8 : tyField Tryz.prog 157 8 = some (8, 1, false) := by kernel_rfl
@[go_sem] theorem tyP157_8 : tyPlace Tryz.prog 157 8 = some (8, 1) := by kernel_rfl
@[go_sem] theorem tyF157_9 : tyField Tryz.prog 157 9 = some (9, 1, false) := by kernel_rfl
@[go_sem] theorem tyP157_9 : tyPlace Tryz.prog 157 9 = some (9, 1) := by kernel_rfl
@[go_sem] theorem tyF157_10 : tyField Tryz.prog 157 10 = some (10, 1, false) := by kernel_rfl
@[go_sem] theorem tyP157_10 : tyPlace Tryz.prog 157 10 = some (10, 1) := by kernel_rfl
@[go_sem] theorem tyK157 : tyKids Tryz.prog 157 = some (.agg [.raw (.int .u64 0), .raw (.int .u64 0), .raw (.int .u32 0), .raw (.int .u8 0), .raw (.int .u8 0), .raw (.int .u8 0), .raw (.int .u8 0), .raw (.nilFunc), .raw (.pointer none), .raw (.int .i32 0), .raw (.int .i32 0)]) := by kernel_rfl
end Go.Proofs.YtfbogelmgdojgaaGreat

/- The rules by which the abstract run is worked out. No program in sight. -/
namespace Go.Proofs.YtfbogelmgdojgaaGreat
set_option linter.unusedSimpArgs false
set_option linter.unusedVariables false
open Go.RowKit
attribute [go_sem_proc] List.reduceReplicate Nat.reduceEqDiff Nat.reduceLT Nat.reduceLeDiff Nat.reduceAdd Nat.reduceSub Nat.reduceMul Int.reduceToNat Int.reduceNeg Int.reduceAdd Int.reduceSub Int.reduceMul Int.reduceLT Int.reduceLE Int.reduceMod Int.reducePow Nat.reducePow Int.reduceDiv Nat.reduceBEq Nat.reduceBNe Int.reduceBEq Int.reduceBNe reduceCtorEq
attribute [go_sem_proc ↓] reduceIte

/-- A mark by which simp leaves alone what stands behind it. -/
def Tick : Prop := True
@[go_sem] theorem tick_eq : Tick = True := propext ⟨fun _ => trivial, fun _ => trivial⟩
/-- Ways on; what follows is left alone until the way is known. -/
def optC {α : Type} (o : Option α) (k : α → Prop) : Prop := match o with
  | some x => k x
  | none => False
def optE {α : Type} (o : Option α) (k : α → Prop) (e : Prop) : Prop := match o with
  | some x => k x
  | none => e
def guardC (v : V) (want : Bool) (x y : Prop) : Prop := match v with
  | .raw (.bool b) => (b = want → x) ∧ (b = !want → y)
  | .raw (.tuple _) => y
  | _ => False
def condC (v : V) (x y : Prop) : Prop := match v with
  | .raw (.bool t) => (t = true → x) ∧ (t = false → y)
  | _ => False
def iteC (c : Prop) (x y : Prop) : Prop := (c → x) ∧ (¬ c → y)
section
variable {α : Type}
@[congr] theorem optC_congr {o o' : Option α} {k : α → Prop} (h : o = o') {tk : Prop} (_ : Tick = tk) : optC o k = optC o' k := by rw [h]
@[congr] theorem optE_congr {o o' : Option α} {k : α → Prop} {e : Prop} (h : o = o') {tk : Prop} (_ : Tick = tk) : optE o k e = optE o' k e := by rw [h]
@[congr] theorem guardC_congr {v v' : V} {w : Bool} {x y : Prop} (h : v = v') {tk : Prop} (_ : Tick = tk) : guardC v w x y = guardC v' w x y := by rw [h]
@[congr] theorem condC_congr {v v' : V} {x y : Prop} (h : v = v') {tk : Prop} (_ : Tick = tk) : condC v x y = condC v' x y := by rw [h]
@[go_sem ↓, go_sem] theorem optC_some (x : α) (k : α → Prop) : optC (some x) k = k x := rfl
@[go_sem ↓, go_sem] theorem optC_none (k : α → Prop) : optC none k = False := rfl
@[go_sem ↓, go_sem] theorem optE_some (x : α) (k : α → Prop) (e : Prop) : optE (some x) k e = k x := rfl
@[go_sem ↓, go_sem] theorem optE_none (k : α → Prop) (e : Prop) : optE none k e = e := rfl
@[go_sem ↓ high, go_sem high] theorem guardC_tt (x y : Prop) : guardC (.raw (.bool true)) true x y = x := by simp [guardC]
@[go_sem ↓ high, go_sem high] theorem guardC_tf (x y : Prop) : guardC (.raw (.bool true)) false x y = y := by simp [guardC]
@[go_sem ↓ high, go_sem high] theorem guardC_ft (x y : Prop) : guardC (.raw (.bool false)) true x y = y := by simp [guardC]
@[go_sem ↓ high, go_sem high] theorem guardC_ff (x y : Prop) : guardC (.raw (.bool false)) false x y = x := by simp [guardC]
@[go_sem ↓ high, go_sem high] theorem guardC_undef (w : Bool) (x y : Prop) : guardC (.raw undef) w x y = y := rfl
@[go_sem ↓ high, go_sem high] theorem guardC_un (vs : Array Value) (w : Bool) (x y : Prop) : guardC (.raw (.tuple vs)) w x y = y := rfl
@[go_sem low] theorem guardC_t (b : Bool) (x y : Prop) : guardC (.raw (.bool b)) true x y = ((b = true → x) ∧ (b = false → y)) := rfl
@[go_sem low] theorem guardC_f (b : Bool) (x y : Prop) : guardC (.raw (.bool b)) false x y = ((b = false → x) ∧ (b = true → y)) := rfl
@[go_sem ↓ high, go_sem high] theorem condC_t (x y : Prop) : condC (.raw (.bool true)) x y = x := by simp [condC]
@[go_sem ↓ high, go_sem high] theorem condC_f (x y : Prop) : condC (.raw (.bool false)) x y = y := by simp [condC]
@[go_sem low] theorem condC_b (b : Bool) (x y : Prop) : condC (.raw (.bool b)) x y = ((b = true → x) ∧ (b = false → y)) := rfl
end

section
variable {P : Program} {Γ : Tab} {Δ : Gab} {H : Hp} {n : Nat} {K : Kt} {k : V → Prop} {t : TypeId}
/- code -/
@[congr] theorem AWp_congr {c : Code} {Q : Exit → St → Prop} {σ σ' : St} (h : σ = σ') {tk : Prop} (_ : Tick = tk) : AWp P c Q σ = AWp P c Q σ' := by rw [h]
@[congr] theorem vcOps_congr {ops : Array Oper} {os os' : List Oper} {K : St → Prop} {σ σ' : St} (h : σ = σ') (ho : os = os') {tk : Prop} (_ : Tick = tk) : vcOps P Γ Δ ops os σ K = vcOps P Γ Δ ops os' σ' K := by rw [h, ho]
@[congr] theorem vcTr_congr {ops : Array Oper} {os os' : List Oper} {tr tr' : List Foot} {K : St → List Foot → Prop} {σ σ' : St} (h : σ = σ') (h' : tr = tr') (ho : os = os') {tk : Prop} (_ : Tick = tk) : vcTr P Γ Δ ops os σ tr K = vcTr P Γ Δ ops os' σ' tr' K := by rw [h, h', ho]
@[go_sem ↓, go_sem] theorem ev_vc_skip {Q : Exit → St → Prop} {σ : St} : vc P Γ Δ .skip Q σ = Q .normal σ := rfl
@[go_sem ↓, go_sem] theorem ev_vc_text {id : Nat} {ops : Array Oper} {Q : Exit → St → Prop} {σ : St} : vc P Γ Δ (.region id ops false) Q σ = vcOps P Γ Δ ops ops.toList σ (Q .normal) := by simp [vc]
@[go_sem ↓, go_sem] theorem ev_vc_open {id : Nat} {ops : Array Oper} {Q : Exit → St → Prop} {σ : St} : vc P Γ Δ (.region id ops true) Q σ = vcTr P Γ Δ ops ops.toList σ [] fun σ' tr => chk ops tr = true ∧ Q .normal σ' := by simp [vc, vcDraw]
@[go_sem ↓, go_sem] theorem ev_vc_seq {x y : Code} {Q : Exit → St → Prop} {σ : St} : vc P Γ Δ (.seq x y) Q σ = vc P Γ Δ x (thenE (vc P Γ Δ y Q) Q) σ := rfl
@[go_sem ↓, go_sem] theorem ev_vc_cond {c : Operand} {x y : Code} {Q : Exit → St → Prop} {σ : St} : vc P Γ Δ (.cond c x y) Q σ = condC (σ.ev c) (vc P Γ Δ x Q σ) (vc P Γ Δ y Q σ) := rfl
@[go_sem ↓, go_sem] theorem ev_vc_block {id : Nat} {c : Code} {Q : Exit → St → Prop} {σ : St} : vc P Γ Δ (.block id c) Q σ = vc P Γ Δ c (blkE id Q) σ := rfl
@[go_sem ↓, go_sem] theorem ev_vc_exit {id : Nat} {Q : Exit → St → Prop} {σ : St} : vc P Γ Δ (.exit id) Q σ = Q (.exit id) σ := rfl
@[go_sem ↓, go_sem] theorem ev_vc_ret {Q : Exit → St → Prop} {σ : St} : vc P Γ Δ .ret Q σ = Q .ret σ := rfl
@[go_sem ↓, go_sem] theorem ev_vc_loop {c : Code} {Q : Exit → St → Prop} {σ : St} : vc P Γ Δ (.loop c) Q σ = AWp P (.loop c) Q σ := rfl
@[go_sem ↓, go_sem] theorem ev_then_n {N : St → Prop} {Q : Exit → St → Prop} {σ : St} : thenE N Q .normal σ = N σ := rfl
@[go_sem ↓, go_sem] theorem ev_then_r {N : St → Prop} {Q : Exit → St → Prop} {σ : St} : thenE N Q .ret σ = Q .ret σ := rfl
@[go_sem ↓, go_sem] theorem ev_then_e {N : St → Prop} {Q : Exit → St → Prop} {σ : St} {i : Nat} : thenE N Q (.exit i) σ = Q (.exit i) σ := rfl
@[go_sem ↓, go_sem] theorem ev_blk_n {i : Nat} {Q : Exit → St → Prop} {σ : St} : blkE i Q .normal σ = Q .normal σ := rfl
@[go_sem ↓, go_sem] theorem ev_blk_r {i : Nat} {Q : Exit → St → Prop} {σ : St} : blkE i Q .ret σ = Q .ret σ := rfl
@[go_sem ↓, go_sem] theorem ev_blk_e {i j : Nat} {Q : Exit → St → Prop} {σ : St} : blkE i Q (.exit j) σ = if j = i then Q .normal σ else Q (.exit j) σ := rfl
@[go_sem ↓, go_sem] theorem ev_vc_scope {c : Code} {Q : Exit → St → Prop} {σ : St} : vc P Γ Δ (.scope c) Q σ = vc P Γ Δ c (scopeE Q) σ := rfl
@[go_sem ↓, go_sem] theorem ev_vc_label {l : Nat} {Q : Exit → St → Prop} {σ : St} : vc P Γ Δ (.label l) Q σ = Q .normal σ := rfl
@[go_sem ↓, go_sem] theorem ev_sc_n {Q : Exit → St → Prop} {σ : St} : scopeE Q .normal σ = Q .normal σ := rfl
@[go_sem ↓, go_sem] theorem ev_sc_r {Q : Exit → St → Prop} {σ : St} : scopeE Q .ret σ = Q .ret σ := rfl
@[go_sem ↓, go_sem] theorem ev_sc_e {i : Nat} {Q : Exit → St → Prop} {σ : St} : scopeE Q (.exit i) σ = Q (.exit i) σ := rfl
@[go_sem ↓, go_sem] theorem ev_ret_n {l : List ResultVar} {r : V} {σ : St} : retE P l r .normal σ = aResL P σ l fun xs => argsP σ.H xs fun ys _ => Outs ys r := rfl
@[go_sem ↓, go_sem] theorem ev_ret_r {l : List ResultVar} {r : V} {σ : St} : retE P l r .ret σ = aResL P σ l fun xs => argsP σ.H xs fun ys _ => Outs ys r := rfl
@[go_sem ↓, go_sem] theorem ev_loop_n {X : Type} {I : X → St} {μ : X → Nat} {x : X} {Q : Exit → St → Prop} {σ : St} : loopE I μ x Q .normal σ = ∃ x', Wk σ (I x') ∧ μ x' < μ x := rfl
@[go_sem ↓, go_sem] theorem ev_loop_r {X : Type} {I : X → St} {μ : X → Nat} {x : X} {Q : Exit → St → Prop} {σ : St} : loopE I μ x Q .ret σ = Q .ret σ := rfl
@[go_sem ↓, go_sem] theorem ev_loop_e {X : Type} {I : X → St} {μ : X → Nat} {x : X} {Q : Exit → St → Prop} {σ : St} {i : Nat} : loopE I μ x Q (.exit i) σ = Q (.exit i) σ := rfl
@[congr] theorem arg1_congr {H H' : Hp} {x x' : V} {k : V → List Nat → Prop} (h : x = x') (h' : H = H') {tk : Prop} (_ : Tick = tk) : arg1 H x k = arg1 H' x' k := by rw [h, h']
@[congr] theorem argA_congr {H H' : Hp} {x x' : V} {k : V → List Nat → Prop} (h : x = x') (h' : H = H') {tk : Prop} (_ : Tick = tk) : argA H x k = argA H' x' k := by rw [h, h']
@[congr] theorem argsP_congr {H H' : Hp} {x x' : List V} {k : List V → List Nat → Prop} (h : x = x') (h' : H = H') {tk : Prop} (_ : Tick = tk) : argsP H x k = argsP H' x' k := by rw [h, h']
@[congr] theorem argsA_congr {H H' : Hp} {x x' : List V} {k : List V → List Nat → Prop} (h : x = x') (h' : H = H') {tk : Prop} (_ : Tick = tk) : argsA H x k = argsA H' x' k := by rw [h, h']
@[congr] theorem vc_congr {c : Code} {Q : Exit → St → Prop} {σ σ' : St} (h : σ = σ') {tk : Prop} (_ : Tick = tk) : vc P Γ Δ c Q σ = vc P Γ Δ c Q σ' := by rw [h]
@[congr] theorem Wk_congr {σ σ' τ : St} (h : σ = σ') {tk : Prop} (_ : Tick = tk) : Wk σ τ = Wk σ' τ := by rw [h]
@[congr] theorem aResL_congr {σ σ' : St} {l l' : List ResultVar} {k : List V → Prop} (h : σ = σ') (hl : l = l') {tk : Prop} (_ : Tick = tk) : aResL P σ l k = aResL P σ' l' k := by rw [h, hl]
@[go_sem ↓, go_sem] theorem ev_res_nil {σ : St} {k : List V → Prop} : aResL P σ [] k = k [] := rfl
@[go_sem ↓, go_sem] theorem ev_res_tmp {σ : St} {t : Nat} {r : List ResultVar} {k : List V → Prop} : aResL P σ (.tmp t :: r) k = aResL P σ r fun ys => k (σ.s t :: ys) := rfl
@[go_sem ↓, go_sem] theorem ev_res_cell {σ : St} {p : Nat} {ty : TypeId} {r : List ResultVar} {k : List V → Prop} : aResL P σ (.cell p ty :: r) k = aLoad P σ.H ty (σ.s p) fun z _ _ => aResL P σ r fun ys => k (z :: ys) := rfl
/- statements -/
@[go_sem ↓, go_sem] theorem ev_ops_nil {ops : Array Oper} {σ : St} {K : St → Prop} : vcOps P Γ Δ ops [] σ K = K σ := rfl
@[go_sem ↓, go_sem] theorem ev_ops_cons {ops : Array Oper} {o : Oper} {os : List Oper} {σ : St} {K : St → Prop} : vcOps P Γ Δ ops (o :: os) σ K = (dstOk o σ.N ∧ vcOp P Γ Δ ops o σ fun v ws _ => vcOps P Γ Δ ops os (σ.put o.dst v ws) K) := rfl
@[go_sem ↓, go_sem] theorem ev_tr_nil {ops : Array Oper} {σ : St} {tr : List Foot} {K : St → List Foot → Prop} : vcTr P Γ Δ ops [] σ tr K = K σ tr.reverse := rfl
@[go_sem ↓, go_sem] theorem ev_tr_cons {ops : Array Oper} {o : Oper} {os : List Oper} {σ : St} {tr : List Foot} {K : St → List Foot → Prop} : vcTr P Γ Δ ops (o :: os) σ tr K = (dstOk o σ.N ∧ vcOp P Γ Δ ops o σ fun v ws rs => vcTr P Γ Δ ops os (σ.put o.dst v ws) ((rs, ws.map (·.1)) :: tr) K) := rfl
@[go_sem ↓, go_sem] theorem ev_op_plain {ops : Array Oper} {dst : Option Tmp} {op : Op} {ty : TypeId} {pos : String} {after : Array Edge} {σ : St} : vcOp P Γ Δ ops ⟨dst, op, ty, pos, after, none⟩ σ K = aop P Γ Δ op σ.ev σ.H σ.n K := rfl
theorem vcOp_guard_eq {ops : Array Oper} {dst : Option Tmp} {op : Op} {ty : TypeId} {pos : String} {after : Array Edge} {σ : St} {j : Nat} {want : Bool} {d : Nat} (h : (ops[j]?).bind (·.dst) = some d) :
    vcOp P Γ Δ ops ⟨dst, op, ty, pos, after, some (j, want)⟩ σ K = (d < σ.N ∧ guardC (σ.s d) want (aop P Γ Δ op σ.ev σ.H σ.n K) (K (.raw undef) [] [])) := by
  unfold vcOp
  simp only [h]
  rfl
@[go_sem ↓, go_sem] theorem ev_op_guard {ops : Array Oper} {dst : Option Tmp} {op : Op} {ty : TypeId} {pos : String} {after : Array Edge} {σ : St} {j : Nat} {want : Bool} :
    vcOp P Γ Δ ops ⟨dst, op, ty, pos, after, some (j, want)⟩ σ K = optE ((ops[j]?).bind (·.dst)) (fun d => d < σ.N ∧ guardC (σ.s d) want (aop P Γ Δ op σ.ev σ.H σ.n K) (K (.raw undef) [] [])) (K (.raw undef) [] []) := by
  cases h : (ops[j]?).bind (·.dst) with
  | none => unfold vcOp; simp only [h]; rfl
  | some d => exact vcOp_guard_eq h
/- operations -/
attribute [go_sem ↓, go_sem] aop
theorem aCall_val {f : Operand} {args : Array Operand} {ts : Array TypeId} {e : Operand → V} : aCall P Γ Δ ⟨.value f, args, ts⟩ e H n K = (match e f with
    | .clo (.func g) first caps => aCallF Γ Δ g (first ++ args.toList.map e ++ caps) H n K
    | _ => False) := rfl
@[go_sem ↓, go_sem] theorem ev_call_func {g : FuncId} {args : Array Operand} {ts : Array TypeId} {σ : St} : aCall P Γ Δ ⟨.value (.func g), args, ts⟩ σ.ev H n K = aCallF Γ Δ g (args.toList.map σ.ev) H n K := by
  simp [aCall, St.ev]
/-- A call of a function value. -/
def cloC (Γ : Tab) (Δ : Gab) (v : V) (args : List V) (H : Hp) (n : Nat) (K : Kt) : Prop := match v with
  | .clo (.func g) first caps => aCallF Γ Δ g (first ++ args ++ caps) H n K
  | _ => False
@[congr] theorem cloC_congr {v v' : V} {args args' : List V} (h : v = v') (h' : args = args') {tk : Prop} (_ : Tick = tk) : cloC Γ Δ v args H n K = cloC Γ Δ v' args' H n K := by rw [h, h']
@[go_sem ↓, go_sem] theorem ev_clo {g : FuncId} {first caps args : List V} : cloC Γ Δ (.clo (.func g) first caps) args H n K = aCallF Γ Δ g (first ++ args ++ caps) H n K := rfl
@[go_sem ↓, go_sem] theorem ev_call_tmp {p : Nat} {args : Array Operand} {ts : Array TypeId} {σ : St} : aCall P Γ Δ ⟨.value (.tmp p), args, ts⟩ σ.ev H n K = cloC Γ Δ (σ.s p) (args.toList.map σ.ev) H n K := rfl
@[go_sem ↓, go_sem] theorem ev_call_builtin {b : Builtin} {args : Array Operand} {ts : Array TypeId} {e : Operand → V} : aCall P Γ Δ ⟨.builtin b, args, ts⟩ e H n K = aBuiltin P b ts.toList (args.toList.map e) H n K := rfl
@[congr] theorem aBuiltin_congr {b : Builtin} {ts ts' : List TypeId} {args args' : List V} (h : ts = ts') (h' : args = args') {tk : Prop} (_ : Tick = tk) : aBuiltin P b ts args H n K = aBuiltin P b ts' args' H n K := by rw [h, h']
@[go_sem ↓, go_sem] theorem ev_b_len {x : V} : aBuiltin P .len [t] [x] H n K = aLen P t x fun z => K z [] [] := rfl
@[go_sem ↓, go_sem] theorem ev_b_min {t' : TypeId} {x y : V} : aBuiltin P .min [t, t'] [x, y] H n K = aMin x y fun z => K z [] [] := rfl
@[go_sem ↓, go_sem] theorem ev_b_max {t' : TypeId} {x y : V} : aBuiltin P .max [t, t'] [x, y] H n K = aMax x y fun z => K z [] [] := rfl
@[go_sem ↓, go_sem] theorem ev_b_append {t' : TypeId} {x y : V} : aBuiltin P .append [t, t'] [x, y] H n K = aAppend P t t' H n x y K := rfl
@[go_sem ↓, go_sem] theorem ev_b_copy {t' : TypeId} {x y : V} : aBuiltin P .copy [t, t'] [x, y] H n K = aCopy P t H x y K := rfl
/- values -/
@[congr] theorem aPick_congr {c c' x x' y y' : V} (h : c = c') (h' : x = x') (h'' : y = y') {tk : Prop} (_ : Tick = tk) : aPick c x y k = aPick c' x' y' k := by rw [h, h', h'']
@[go_sem ↓ high, go_sem high] theorem ev_pick_t {x y : V} : aPick (.raw (.bool true)) x y k = k x := by
  unfold aPick
  simp only
  split
  · rfl
  · simp
@[go_sem ↓ high, go_sem high] theorem ev_pick_f {x y : V} : aPick (.raw (.bool false)) x y k = k y := by
  unfold aPick
  simp only
  split
  · rfl
  · simp
@[go_sem low] theorem ev_pick_b {b p q : Bool} : aPick (.raw (.bool b)) (.raw (.bool p)) (.raw (.bool q)) k = k (.raw (.bool (bif b then p else q))) := rfl
@[go_sem ↓, go_sem] theorem ev_alloc : aAlloc P t n K = optC (tyZero P t) fun z => z.good = true ∧ K (.ptr n z.wid 0 0) [(n, some ⟨t, z.wid, [z]⟩)] [] := by unfold aAlloc; cases tyZero P t <;> rfl
@[congr] theorem aBox_congr {x x' : V} (h : x = x') {tk : Prop} (_ : Tick = tk) : aBox t x n K = aBox t x' n K := by rw [h]
@[go_sem ↓, go_sem] theorem ev_box {x : V} : aBox t x n K = (x.good = true ∧ K (.ptr n x.wid 0 0) [(n, some ⟨t, x.wid, [x]⟩)] []) := rfl
@[congr] theorem aFieldAddr_congr {p p' : V} {f : Nat} (h : p = p') {tk : Prop} (_ : Tick = tk) : aFieldAddr P t p f k = aFieldAddr P t p' f k := by rw [h]
@[go_sem ↓, go_sem] theorem ev_fa_ptr {b e i off f : Nat} : aFieldAddr P t (.ptr b e i off) f k = optC (tyField P t f) fun q => q.2.1 ≠ 0 ∧ k (.ptr b e i (off + q.1)) := by
  unfold aFieldAddr optC; cases tyField P t f <;> rfl
@[go_sem ↓, go_sem] theorem ev_fa_pel {x : V} {f : Nat} : aFieldAddr P t (.pel x) f k = optC (tyField P t f) fun q => q.2.1 ≠ 0 ∧ (if q.2.2 = true then q.1 + q.2.1 ≤ x.wid ∧ k (.pel (x.sub q.1 q.2.1)) else q.2.1 = 1 ∧ optC x.atoms[q.1]? fun y => k (.pel y)) := by
  unfold aFieldAddr
  rcases tyField P t f with _ | ⟨fo, s, g⟩
  · rfl
  · simp only [optC]
    cases x.atoms[fo]? <;> rfl
@[congr] theorem aField_congr {p p' : V} {f : Nat} (h : p = p') {tk : Prop} (_ : Tick = tk) : aField P t p f k = aField P t p' f k := by rw [h]
@[go_sem ↓, go_sem] theorem ev_field {x : V} {f : Nat} : aField P t x f k = optC (tyField P t f) fun q => x.isAgg = true ∧ (if q.2.2 = true then q.1 + q.2.1 ≤ x.wid ∧ k (x.sub q.1 q.2.1) else optC x.atoms[q.1]? fun y => okStore y = true ∧ k y) := by
  unfold aField
  rcases tyField P t f with _ | ⟨fo, s, g⟩
  · rfl
  · simp only [optC]
    cases x.atoms[fo]? <;> rfl
@[congr] theorem aIndexAddr_congr {p p' ix ix' : V} (h : p = p') (h' : ix = ix') {tk : Prop} (_ : Tick = tk) : aIndexAddr P t p ix k = aIndexAddr P t p' ix' k := by rw [h, h']
@[go_sem ↓, go_sem] theorem ev_ix_sl {b e o m : Nat} {kk : IntKind} {i : Int} : aIndexAddr P t (.sl b e o m) (.raw (.int kk i)) k = optC (tyElem P t) fun q => e = q.2 ∧ (0 ≤ i ∧ i < m) ∧ k (.ptr b e (o + i.toNat) 0) := by
  unfold aIndexAddr optC
  simp only
  cases tyElem P t with
  | none => cases tyArr P t <;> rfl
  | some q => simp [and_assoc]
@[go_sem ↓, go_sem] theorem ev_ix_lst {l : List V} {kk : IntKind} {i : Int} : aIndexAddr P t (.lst l) (.raw (.int kk i)) k = optC (tyElem P t) fun q => (0 ≤ i ∧ i < l.length) ∧ optC l[i.toNat]? fun y => y.wid = q.2 ∧ k (.pel y) := by
  unfold aIndexAddr optC
  simp only
  cases tyElem P t with
  | none => cases tyArr P t <;> rfl
  | some q => simp only [and_assoc]; cases l[i.toNat]? <;> rfl
@[go_sem ↓, go_sem] theorem ev_ix_ptr {b e j off : Nat} {kk : IntKind} {i : Int} : aIndexAddr P t (.ptr b e j off) (.raw (.int kk i)) k = optE (tyElem P t) (fun _ => False) (optC (tyArr P t) fun q => (0 ≤ i ∧ i < q.1) ∧ k (.ptr b e j (off + i.toNat * q.2.2))) := by
  unfold aIndexAddr optC optE
  simp only
  cases tyElem P t with
  | none => cases tyArr P t with
    | none => rfl
    | some q => simp only [and_assoc]
  | some q => rfl
@[go_sem ↓, go_sem] theorem ev_ix_pel {x : V} {kk : IntKind} {i : Int} : aIndexAddr P t (.pel x) (.raw (.int kk i)) k = optE (tyElem P t) (fun _ => False) (optC (tyArr P t) fun q => (0 ≤ i ∧ i < q.1) ∧ (if tyAgg P q.2.1 = some true then i.toNat * q.2.2 + q.2.2 ≤ x.wid ∧ k (.pel (x.sub (i.toNat * q.2.2) q.2.2)) else q.2.2 = 1 ∧ optC x.atoms[i.toNat]? fun y => k (.pel y))) := by
  unfold aIndexAddr optC optE
  simp only
  cases tyElem P t with
  | none => cases tyArr P t with
    | none => rfl
    | some q =>
      simp only
      cases x.atoms[i.toNat]? <;> rfl
  | some q => rfl
@[congr] theorem aLoad_congr {p p' : V} (h : p = p') {tk : Prop} (_ : Tick = tk) : aLoad P H t p K = aLoad P H t p' K := by rw [h]
@[go_sem ↓, go_sem] theorem ev_load_ptr {b e i off : Nat} : aLoad P H t (.ptr b e i off) K = optC (H b) fun x => x.e = e ∧ optC x.l[i]? fun y => optC (ldV P t y off) fun z => K z [] [b] := by
  unfold aLoad optC
  simp only
  cases H b with
  | none => rfl
  | some x =>
    simp only
    cases x.l[i]? with
    | none => rfl
    | some y => simp only; cases ldV P t y off <;> rfl
@[go_sem ↓, go_sem] theorem ev_load_pel {x : V} : aLoad P H t (.pel x) K = optC (ldV P t x 0) fun z => K z [] [] := by
  unfold aLoad optC
  simp only
  cases ldV P t x 0 <;> rfl
@[congr] theorem aStore_congr {p p' x x' : V} (h : p = p') (h' : x = x') {tk : Prop} (_ : Tick = tk) : aStore P H t p x K = aStore P H t p' x' K := by rw [h, h']
@[go_sem ↓, go_sem] theorem ev_store {b e i off : Nat} {x : V} : aStore P H t (.ptr b e i off) x K = optC (H b) fun y => y.e = e ∧ optC y.l[i]? fun z => tySize P t = some x.wid ∧ x.good = true ∧ off + x.wid ≤ z.wid ∧ K (.raw undef) [(b, some ⟨y.t, y.e, y.l.set i (z.put off x)⟩)] [b] := by
  unfold aStore optC
  simp only
  cases H b with
  | none => rfl
  | some y => simp only; cases y.l[i]? <;> rfl
@[congr] theorem aBin_congr {op : BinOp} {x x' y y' : V} (h : x = x') (h' : y = y') {tk : Prop} (_ : Tick = tk) : aBin P op t x y k = aBin P op t x' y' k := by rw [h, h']
def binI (op : BinOp) (kd : IntKind) (a : Int) (kd' : IntKind) (b : Int) (K : V → Prop) : Prop :=
  match op with
  | .shl => 0 ≤ b ∧ b < kd.bits ∧ K (.raw (.int kd (kd.wrap (a * 2 ^ b.toNat))))
  | .shr => 0 ≤ b ∧ b < kd.bits ∧ K (.raw (.int kd (a / 2 ^ b.toNat)))
  | op => kd = kd' ∧ aArith op kd a b K
def binB (P : Program) (op : BinOp) (t : TypeId) (a b : Bool) (K : V → Prop) : Prop :=
  match op with
  | .eql => P.underlying t = some .bool ∧ K (.raw (.bool (a == b)))
  | .neq => P.underlying t = some .bool ∧ K (.raw (.bool (a != b)))
  | _ => False
@[go_sem] theorem tmod_nat (n : Nat) (b : Int) : Int.tmod (n : Int) b = (n : Int) % b := Int.tmod_eq_emod_of_nonneg (by omega)
attribute [go_sem ↓, go_sem] aArith aStr binI binB
@[go_sem ↓, go_sem] theorem ev_bin_int {op : BinOp} {kd kd' : IntKind} {a b : Int} : aBin P op t (.raw (.int kd a)) (.raw (.int kd' b)) k = binI op kd a kd' b k := by cases op <;> rfl
@[go_sem ↓, go_sem] theorem ev_bin_nil_lst {op : BinOp} {x : V} {l : List V} : aBin P op t (.lst (x :: l)) (.raw (.slice none 0 0)) k = nilB P op t false k := rfl
@[go_sem ↓, go_sem] theorem ev_bin_nil_sl {op : BinOp} {b e o n : Nat} : aBin P op t (.sl b e o n) (.raw (.slice none 0 0)) k = nilB P op t false k := rfl
@[go_sem ↓, go_sem] theorem ev_bin_nil_none {op : BinOp} {n c : Nat} : aBin P op t (.raw (.slice none n c)) (.raw (.slice none 0 0)) k = nilB P op t true k := rfl
@[go_sem ↓, go_sem] theorem ev_bin_nil_some {op : BinOp} {A : Addr} {n c : Nat} : aBin P op t (.raw (.slice (some A) n c)) (.raw (.slice none 0 0)) k = nilB P op t false k := rfl
@[go_sem ↓, go_sem] theorem ev_bin_nil_nil {op : BinOp} : aBin P op t (.raw (.slice none 0 0)) (.raw (.slice none 0 0)) k = nilB P op t true k := rfl
attribute [go_sem ↓, go_sem] nilB
@[go_sem ↓, go_sem] theorem ev_bin_str {op : BinOp} {a b : ByteArray} : aBin P op t (.raw (.string a)) (.raw (.string b)) k = aStr op a b k := rfl
@[go_sem ↓, go_sem] theorem ev_bin_bool {op : BinOp} {a b : Bool} : aBin P op t (.raw (.bool a)) (.raw (.bool b)) k = binB P op t a b k := by cases op <;> rfl
@[go_sem ↓, go_sem] theorem ev_un_not {b : Bool} : aUn .not (.raw (.bool b)) k = k (.raw (.bool (!b))) := rfl
@[go_sem ↓, go_sem] theorem ev_un_neg {a : Int} : aUn .neg (.raw (.int .i64 a)) k = ((-9223372036854775808 ≤ a ∧ a ≤ 9223372036854775807) ∧ k (.raw (.int .i64 (if a = -9223372036854775808 then a else -a)))) := rfl
@[go_sem ↓, go_sem] theorem ev_un_neg32 {a : Int} : aUn .neg (.raw (.int .u32 a)) k = k (.raw (.int .u32 (IntKind.u32.wrap (0 - a)))) := rfl
@[go_sem ↓, go_sem] theorem ev_un_neg64 {a : Int} : aUn .neg (.raw (.int .u64 a)) k = k (.raw (.int .u64 (IntKind.u64.wrap (0 - a)))) := rfl
@[go_sem ↓, go_sem] theorem ev_un_xor {kd : IntKind} {a : Int} : aUn .xor (.raw (.int kd a)) k = k (.raw (.int kd (bits .xor kd (if kd.signed then -1 else kd.max) a))) := rfl
@[go_sem ↓, go_sem] theorem ev_min {i j : IntKind} {a b : Int} : aMin (.raw (.int i a)) (.raw (.int j b)) k = k (.raw (.int i (if b < a then b else a))) := rfl
@[go_sem ↓, go_sem] theorem ev_max {i j : IntKind} {a b : Int} : aMax (.raw (.int i a)) (.raw (.int j b)) k = k (.raw (.int i (if a < b then b else a))) := rfl
@[go_sem ↓, go_sem] theorem ev_nil_ptr {b e i off : Nat} : aNil (.ptr b e i off) k = k (.ptr b e i off) := rfl
@[go_sem ↓, go_sem] theorem ev_nil_pel {x : V} : aNil (.pel x) k = k (.pel x) := rfl
@[go_sem ↓, go_sem] theorem ev_nil_clo {g : FuncId} {x y : List V} : aNil (.clo (.func g) x y) k = k (.clo (.func g) x y) := rfl
@[congr] theorem aUn_congr {op : UnOp} {x x' : V} (h : x = x') {tk : Prop} (_ : Tick = tk) : aUn op x k = aUn op x' k := by rw [h]
@[congr] theorem aMin_congr {x x' y y' : V} (h : x = x') (h' : y = y') {tk : Prop} (_ : Tick = tk) : aMin x y k = aMin x' y' k := by rw [h, h']
@[congr] theorem aMax_congr {x x' y y' : V} (h : x = x') (h' : y = y') {tk : Prop} (_ : Tick = tk) : aMax x y k = aMax x' y' k := by rw [h, h']
@[congr] theorem aNil_congr {x x' : V} (h : x = x') {tk : Prop} (_ : Tick = tk) : aNil x k = aNil x' k := by rw [h]
@[congr] theorem aMake_congr {x x' y y' : V} (h : x = x') (h' : y = y') {tk : Prop} (_ : Tick = tk) : aMake P t x y n K = aMake P t x' y' n K := by rw [h, h']
@[go_sem ↓, go_sem] theorem ev_make {k1 k2 : IntKind} {l c : Int} : aMake P t (.raw (.int k1 l)) (.raw (.int k2 c)) n K = optC (tyElem P t) fun q => optC (tyZero P q.1) fun z => optC (tyBytes P q.1) fun by_ =>
    z.wid = q.2 ∧ z.good = true ∧ (0 ≤ l ∧ l ≤ c ∧ (by_ : Int) * c ≤ 281474976710656 ∧ c ≤ 9223372036854775807) ∧ K (.sl n q.2 0 l.toNat) [(n, some ⟨q.1, q.2, List.replicate c.toNat z⟩)] [] := by
  unfold aMake optC
  simp only
  cases tyElem P t with
  | none => rfl
  | some q =>
    simp only
    cases tyZero P q.1 with
    | none => rfl
    | some z => cases tyBytes P q.1 <;> rfl
@[congr] theorem aLen_congr {x x' : V} (h : x = x') {tk : Prop} (_ : Tick = tk) : aLen P t x k = aLen P t x' k := by rw [h]
def lenC (d : TypeDesc) (x : V) (k : V → Prop) : Prop :=
  match d, x with
  | .string, .raw (.string s) => k (.raw (.int .i64 (s.size : Nat)))
  | .slice _, .lst l => k (.raw (.int .i64 (l.length : Nat)))
  | .slice _, .sl _ _ _ n => k (.raw (.int .i64 (n : Nat)))
  | .slice _, .raw (.slice none 0 0) => k (.raw (.int .i64 0))
  | .slice _, .emp => k (.raw (.int .i64 0))
  | .array n _, _ => k (.raw (.int .i64 (n : Nat)))
  | _, _ => False
attribute [go_sem ↓, go_sem] lenC
@[go_sem ↓, go_sem] theorem ev_len {x : V} : aLen P t x k = optC (P.underlying t) fun d => lenC d x k := by
  unfold aLen optC
  cases P.underlying t with
  | none => rfl
  | some d =>
    unfold lenC
    simp only
    cases d <;> first | rfl | (cases x <;> first | rfl | (rename_i v; cases v <;> first | rfl | (rename_i A l c; cases A <;> cases l <;> cases c <;> rfl)))
/- slices -/
def optV (x : Option V) : Option V := x
@[congr] theorem aSlice_congr {x x' : V} {lo lo' hi hi' mx mx' : Option V} (h : x = x') (h1 : lo = lo') (h2 : hi = hi') (h3 : mx = mx') {tk : Prop} (_ : Tick = tk) : aSlice P t x lo hi mx k = aSlice P t x' lo' hi' mx' k := by rw [h, h1, h2, h3]
@[go_sem ↓, go_sem] theorem ev_slice_str {s : ByteArray} {lo hi : Option V} : aSlice P t (.raw (.string s)) lo hi none k = (P.underlying t = some .string ∧ optC (bnd lo 0) fun l => optC (bnd hi s.size) fun h => (0 ≤ l ∧ l ≤ h ∧ h ≤ s.size) ∧ k (.raw (.string (s.extract l.toNat h.toNat)))) := by
  unfold aSlice optC
  simp only [Option.isNone_none, true_and]
  cases bnd lo 0 with
  | none => rfl
  | some l => cases bnd hi s.size <;> rfl
def sliceX (P : Program) (t : TypeId) (x : V) (n : Nat) (lo hi mx : Option V) (k : V → Prop) : Prop :=
  optC (tyElem P t) fun q => optC (bnd lo 0) fun l => optC (bnd hi n) fun h => match mx with
    | none => (0 ≤ l ∧ l ≤ h ∧ h ≤ n) ∧ aSliceL q.2 x n l.toNat h.toNat false k
    | some m => optC (bnd (some m) 0) fun m => hi.isSome = true ∧ (0 ≤ l ∧ l ≤ h ∧ h ≤ m ∧ m ≤ n) ∧ aSliceL q.2 x n l.toNat h.toNat (decide (m = l)) k
attribute [go_sem ↓, go_sem] sliceX
theorem slice_eq {x : V} {n : Nat} {lo hi mx : Option V} (hx : ∀ s, x ≠ .raw (.string s)) (hn : slLen x = some n) : aSlice P t x lo hi mx k = sliceX P t x n lo hi mx k := by
  unfold aSlice sliceX optC
  split
  · exact absurd rfl (hx _)
  · rw [hn]
    cases tyElem P t with
    | none => rfl
    | some q =>
      simp only
      cases bnd lo 0 with
      | none => rfl
      | some l =>
        simp only
        cases bnd hi n with
        | none => rfl
        | some h =>
          simp only
          cases mx with
          | none => rfl
          | some m => simp only; cases bnd (some m) 0 <;> rfl
@[go_sem ↓, go_sem] theorem ev_slice_sl {b e o n : Nat} {lo hi mx : Option V} : aSlice P t (.sl b e o n) lo hi mx k = sliceX P t (.sl b e o n) n lo hi mx k := slice_eq (by intro s h; cases h) rfl
@[go_sem ↓, go_sem] theorem ev_slice_lst {l : List V} {lo hi mx : Option V} : aSlice P t (.lst l) lo hi mx k = sliceX P t (.lst l) l.length lo hi mx k := slice_eq (by intro s h; cases h) rfl
@[go_sem ↓, go_sem] theorem ev_slice_nil {lo hi mx : Option V} : aSlice P t (.raw (.slice none 0 0)) lo hi mx k = sliceX P t (.raw (.slice none 0 0)) 0 lo hi mx k := slice_eq (by intro s h; cases h) rfl
@[congr] theorem aSliceL_congr {s n l h : Nat} {x : V} {b b' : Bool} (hb : b = b') {tk : Prop} (_ : Tick = tk) : aSliceL s x n l h b k = aSliceL s x n l h b' k := by rw [hb]
@[go_sem ↓, go_sem] theorem ev_sliceL_t {s n l h : Nat} {x : V} : aSliceL s x n l h true k = k .emp := by unfold aSliceL; rfl
@[go_sem ↓, go_sem] theorem ev_sliceL_sl {s n l h b e o m : Nat} : aSliceL s (.sl b e o m) n l h false k = (e = s ∧ (if l < h ∨ l = 0 then k (.sl b e (o + l) (h - l)) else k (.lst []))) := by unfold aSliceL; rfl
@[go_sem ↓, go_sem] theorem ev_sliceL_lst {s n l h : Nat} {q : List V} : aSliceL s (.lst q) n l h false k = ((l ≠ 0 → ∀ y ∈ q, y.wid = s) ∧ k (.lst ((q.drop l).take (h - l)))) := by unfold aSliceL; rfl
@[go_sem ↓, go_sem] theorem ev_sliceL_nil {s n l h : Nat} : aSliceL s (.raw (.slice none 0 0)) n l h false k = k (.raw (.slice none 0 0)) := by unfold aSliceL; rfl
@[congr] theorem aAppend_congr {t' : TypeId} {x x' y y' : V} (h : x = x') (h' : y = y') {tk : Prop} (_ : Tick = tk) : aAppend P t t' H n x y K = aAppend P t t' H n x' y' K := by rw [h, h']
def appY (e : TypeId) (s : Nat) (y : V) (L : List V) : Prop := allWid L s ∧ allGood L ∧ (∀ k e' o m, y = .sl k e' o m → e' = s)
def appC (P : Program) (t t' : TypeId) (H : Hp) (y : V) (f : TypeId → Nat → Nat → List V → List Nat → Prop) : Prop :=
  optC (tyElem P t) fun q => optC (aElems H y) fun r => optC (tyBytes P q.1) fun by_ => optC (tyZero P q.1) fun z => P.underlying t' = some (.slice q.1) ∧ z.wid = q.2 ∧ 0 < q.2 ∧ allWid r.1 q.2 ∧ allGood r.1 ∧ (∀ k e' o m, y = .sl k e' o m → e' = q.2) ∧ f q.1 q.2 by_ r.1 r.2
attribute [go_sem ↓, go_sem] appC
theorem append_eq {t' : TypeId} {x y : V} : aAppend P t t' H n x y K = appC P t t' H y fun e s by_ L rs => aAppX e s by_ n L rs x H K := by
  unfold aAppend appC optC
  rcases tyElem P t with _ | ⟨e, s⟩
  · rfl
  · rcases aElems H y with _ | ⟨L, rs⟩
    · rfl
    · simp only
      cases tyBytes P e with
      | none => rfl
      | some by_ => cases tyZero P e <;> rfl
attribute [go_sem ↓, go_sem] append_eq
@[congr] theorem aAppX_congr {e : TypeId} {s by_ : Nat} {L L' : List V} {rs : List Nat} {x : V} (h : L = L') {tk : Prop} (_ : Tick = tk) : aAppX e s by_ n L rs x H K = aAppX e s by_ n L' rs x H K := by rw [h]
@[go_sem ↓, go_sem] theorem ev_appX_sl {e : TypeId} {s by_ b e' o m : Nat} {L : List V} {rs : List Nat} : aAppX e s by_ n L rs (.sl b e' o m) H K = (e' = s ∧ o = 0 ∧ optC (H b) fun q => q.t = e ∧ q.e = s ∧ m ≤ q.l.length ∧ (m + L.length ≤ maxLen ∧ (m + L.length) * by_ ≤ 140737488355328) ∧ K (.sl n s 0 (m + L.length)) [(b, none), (n, some ⟨e, s, q.l.take m ++ L⟩)] (b :: rs)) := by
  unfold aAppX optC
  simp only
  cases H b <;> rfl
@[go_sem ↓, go_sem] theorem ev_appX_nil {e : TypeId} {s by_ : Nat} {x : V} {L : List V} {rs : List Nat} : aAppX e s by_ n (x :: L) rs (.raw (.slice none 0 0)) H K = (((x :: L).length ≤ maxLen ∧ (x :: L).length * by_ ≤ 140737488355328) ∧ K (.sl n s 0 (x :: L).length) [(n, some ⟨e, s, x :: L⟩)] rs) := by
  unfold aAppX; simp
@[go_sem ↓, go_sem] theorem ev_appX_emp {e : TypeId} {s by_ : Nat} {x : V} {L : List V} {rs : List Nat} : aAppX e s by_ n (x :: L) rs .emp H K = (((x :: L).length ≤ maxLen ∧ (x :: L).length * by_ ≤ 140737488355328) ∧ K (.sl n s 0 (x :: L).length) [(n, some ⟨e, s, x :: L⟩)] rs) := by
  unfold aAppX; simp
@[go_sem low] theorem ev_appX_nil' {e : TypeId} {s by_ : Nat} {L : List V} {rs : List Nat} : aAppX e s by_ n L rs (.raw (.slice none 0 0)) H K = ((L.length ≤ maxLen ∧ L.length * by_ ≤ 140737488355328) ∧ (L = [] → K (.raw (.slice none 0 0)) [] rs) ∧ (L ≠ [] → K (.sl n s 0 L.length) [(n, some ⟨e, s, L⟩)] rs)) := rfl
@[go_sem low] theorem ev_appX_emp' {e : TypeId} {s by_ : Nat} {L : List V} {rs : List Nat} : aAppX e s by_ n L rs .emp H K = ((L.length ≤ maxLen ∧ L.length * by_ ≤ 140737488355328) ∧ (L = [] → K .emp [] rs) ∧ (L ≠ [] → K (.sl n s 0 L.length) [(n, some ⟨e, s, L⟩)] rs)) := rfl
@[congr] theorem aCopy_congr {x x' y y' : V} (h : x = x') (h' : y = y') {tk : Prop} (_ : Tick = tk) : aCopy P t H x y K = aCopy P t H x' y' K := by rw [h, h']
@[go_sem ↓, go_sem] theorem ev_copy {b e' o m : Nat} {y : V} : aCopy P t H (.sl b e' o m) y K = optC (tyElem P t) fun q => optC (aElems H y) fun r => allWid r.1 q.2 ∧ allGood r.1 ∧ (∀ k e' o m, y = .sl k e' o m → e' = q.2) ∧ e' = q.2 ∧ optC (H b) fun z => z.e = q.2 ∧ o + m ≤ z.l.length ∧ 0 < m ∧
    K (.raw (.int .i64 (min r.1.length m : Nat))) [(b, some ⟨z.t, q.2, z.l.take o ++ r.1.take (min r.1.length m) ++ z.l.drop (o + min r.1.length m)⟩)] (b :: r.2) := by
  unfold aCopy optC
  rcases tyElem P t with _ | ⟨e, s⟩
  · rfl
  · rcases aElems H y with _ | ⟨L, rs⟩
    · rfl
    · simp only
      cases H b <;> rfl
/- structs and literals -/
@[go_sem ↓, go_sem] theorem ev_build {e : Operand → V} {ps : List (Nat × Operand)} : aBuild P t e ps k = optC (tyKids P t) fun z => optC (aFill P t e ps z) fun x => k x.asAgg := by
  unfold aBuild optC
  cases tyKids P t with
  | none => rfl
  | some z => simp only; cases aFill P t e ps z <;> rfl
@[go_sem ↓, go_sem] theorem ev_fill_nil {e : Operand → V} {x : V} : aFill P t e [] x = some x := rfl
@[go_sem ↓, go_sem] theorem ev_fill_cons {e : Operand → V} {x : V} {i : Nat} {p : Operand} {r : List (Nat × Operand)} : aFill P t e ((i, p) :: r) x = (tyPlace P t i).bind fun q => if (e p).good = true ∧ (e p).wid = q.2 ∧ q.1 + q.2 ≤ x.wid then aFill P t e r (x.put q.1 (e p)) else none := by
  rw [aFill]
  cases tyPlace P t i <;> rfl
@[go_sem ↓, go_sem] theorem ev_buildSlice {len : Nat} {e : Operand → V} {ps : List (Nat × Operand)} : aBuildSlice P t len e ps n K = optC (tyElem P t) fun q => optC (tyZero P q.1) fun z => z.wid = q.2 ∧ z.good = true ∧ len * q.2 ≤ 16777216 ∧ optC (aFillL e q.2 len ps (List.replicate len z)) fun l => K (.sl n q.2 0 len) [(n, some ⟨q.1, q.2, l⟩)] [] := by
  unfold aBuildSlice optC
  rcases tyElem P t with _ | ⟨el, s⟩
  · rfl
  · simp only
    cases tyZero P el with
    | none => rfl
    | some z => simp only; cases aFillL e s len ps (List.replicate len z) <;> rfl
attribute [go_sem] aFillL
@[congr] theorem aIndex_congr {p p' ix ix' : V} (h : p = p') (h' : ix = ix') {tk : Prop} (_ : Tick = tk) : aIndex P t p ix k = aIndex P t p' ix' k := by rw [h, h']
@[go_sem ↓, go_sem] theorem ev_index_str {s : ByteArray} {kk : IntKind} {i : Int} : aIndex P t (.raw (.string s)) (.raw (.int kk i)) k = (P.underlying t = some .string ∧ (0 ≤ i ∧ i < s.size) ∧ k (.raw (.int .u8 (byteAt s i.toNat)))) := by
  unfold aIndex; simp [and_assoc]
@[go_sem ↓, go_sem] theorem ev_index_agg {l : List V} {kk : IntKind} {i : Int} : aIndex P t (.agg l) (.raw (.int kk i)) k = optC (tyArr P t) fun q => (0 ≤ i ∧ i < q.1) ∧ optC (ldV P q.2.1 (.agg l) (i.toNat * q.2.2)) fun y => k y := by
  unfold aIndex optC
  rcases tyArr P t with _ | ⟨m, el, s⟩
  · rfl
  · simp only [V.isAgg, true_and, and_assoc]
    cases ldV P el (.agg l) (i.toNat * s) <;> rfl
@[congr] theorem aConv_congr {x x' : V} (h : x = x') {tk : Prop} (_ : Tick = tk) : aConv P t x k = aConv P t x' k := by rw [h]
def convC (d : TypeDesc) (a : Int) (k : V → Prop) : Prop := match d with
  | .int kd => k (.raw (.int kd (cvI kd a)))
  | _ => False
attribute [go_sem ↓, go_sem] convC
@[go_sem ↓, go_sem] theorem ev_conv {kk : IntKind} {a : Int} : aConv P t (.raw (.int kk a)) k = optC (P.underlying t) fun d => convC d a k := by
  unfold aConv optC convC
  cases P.underlying t with
  | none => rfl
  | some d => cases d <;> rfl
@[congr] theorem aConvK_congr {s : TypeId} {H H' : Hp} {x x' : V} (h : x = x') (h' : H = H') {tk : Prop} (_ : Tick = tk) : aConvK P s t H x K = aConvK P s t H' x' K := by rw [h, h']
def convS (P : Program) (s : TypeId) (b : ByteArray) (K : Kt) (d : TypeDesc) : Prop := match d with
  | .string => K (.raw (.string b)) [] []
  | .slice e => P.underlying s = some .string ∧ P.underlying e = some (.int .u8) ∧ K (.lst (V.bytes (sbL b))) [] []
  | _ => False
attribute [go_sem ↓, go_sem] convS
def cvOk (P : Program) (s t : TypeId) : Prop := match P.underlying s, P.underlying t with
  | some (.slice e), some .string => P.underlying e = some (.int .u8)
  | _, _ => False
attribute [go_sem] cvOk
@[go_sem ↓, go_sem] theorem ev_convK_int {s : TypeId} {kk : IntKind} {a : Int} : aConvK P s t H (.raw (.int kk a)) K = aConv P t (.raw (.int kk a)) fun z => K z [] [] := rfl
@[go_sem ↓, go_sem] theorem ev_convK_str {s : TypeId} {b : ByteArray} : aConvK P s t H (.raw (.string b)) K = optC (P.underlying t) fun d => convS P s b K d := by
  unfold aConvK optC convS
  cases P.underlying t with
  | none => rfl
  | some d => cases d <;> rfl
theorem convK_eq {s : TypeId} {x : V} (n1 : ∀ kk a, x ≠ .raw (.int kk a)) (n2 : ∀ b, x ≠ .raw (.string b)) : aConvK P s t H x K = (match P.underlying s, P.underlying t with
    | some (.slice e), some .string => P.underlying e = some (.int .u8) ∧ (match aElems H x with
      | some (L, rs) => (match unB L with
        | some l => (∀ k e' o m, x = .sl k e' o m → e' = 1) ∧ K (.raw (.string (mkB l))) [] rs
        | none => False)
      | none => False)
    | _, _ => False) := by
  unfold aConvK
  split
  · exact absurd rfl (n1 _ _)
  · exact absurd rfl (n2 _)
  · rfl
@[go_sem ↓, go_sem] theorem ev_convK_sl {s : TypeId} {b e o m : Nat} : aConvK P s t H (.sl b e o m) K = optC (aElems H (.sl b e o m)) fun q => optC (unB q.1) fun l => cvOk P s t ∧ e = 1 ∧ K (.raw (.string (mkB l))) [] q.2 := by
  rw [convK_eq (fun _ _ e => V.noConfusion e) (fun _ e => V.noConfusion e)]
  unfold optC cvOk
  apply propext
  constructor
  · intro h
    split at h
    · rename_i e' g1 g2
      obtain ⟨g3, h⟩ := h
      split at h
      · rename_i L rs hel
        split at h
        · rename_i l hl
          simp only [hel, hl]
          exact ⟨g3, h.1 _ _ _ _ rfl, h.2⟩
        · exact h.elim
      · exact h.elim
    · exact h.elim
  · intro h
    split at h
    · rename_i q hq
      split at h
      · rename_i l hl
        obtain ⟨h1, h2, h3⟩ := h
        split at h1
        · rename_i e' g1 g2
          refine ⟨h1, ?_⟩
          simp only [hq, hl]
          refine ⟨fun k' e'' o' m' hh => ?_, h3⟩
          injection hh with _ hh _ _
          rw [← hh]; exact h2
        · exact h1.elim
      · exact h.elim
    · exact h.elim
@[go_sem ↓, go_sem] theorem ev_convK_lst {s : TypeId} {L : List V} : aConvK P s t H (.lst L) K = optC (unB L) fun l => cvOk P s t ∧ K (.raw (.string (mkB l))) [] [] := by
  rw [convK_eq (fun _ _ e => V.noConfusion e) (fun _ e => V.noConfusion e)]
  unfold optC cvOk
  apply propext
  constructor
  · intro h
    split at h
    · rename_i e' g1 g2
      obtain ⟨g3, h⟩ := h
      simp only [aElems] at h
      split at h
      · rename_i l hl
        simp only [hl]
        exact ⟨g3, h.2⟩
      · exact h.elim
    · exact h.elim
  · intro h
    split at h
    · rename_i l hl
      obtain ⟨h1, h3⟩ := h
      split at h1
      · rename_i e' g1 g2
        refine ⟨h1, ?_⟩
        simp only [aElems, hl]
        exact ⟨fun k' e'' o' m' hh => V.noConfusion hh, h3⟩
      · exact h1.elim
    · exact h.elim
attribute [go_sem] unB_bytes
@[congr] theorem aExtract_congr {x x' : V} {i : Nat} (h : x = x') {tk : Prop} (_ : Tick = tk) : aExtract x i k = aExtract x' i k := by rw [h]
def noTupP (y : V) : Prop := ∀ m, y ≠ .tup m
@[go_sem ↓, go_sem] theorem ev_extract {l : List V} {i : Nat} : aExtract (.tup l) i k = optC l[i]? fun y => noTupP y ∧ k y := by
  unfold aExtract optC
  simp only
  cases l[i]? <;> rfl
@[go_sem] theorem noTup_raw (v : Value) : noTupP (.raw v) = True := by simp [noTupP]
@[go_sem] theorem noTup_I (z : Int) : noTupP (.I z) = True := by simp [noTupP]
@[go_sem] theorem noTup_Q (z : Rat) : noTupP (.Q z) = True := by simp [noTupP]
@[go_sem] theorem noTup_lst (l : List V) : noTupP (.lst l) = True := by simp [noTupP]
@[go_sem] theorem noTup_agg (l : List V) : noTupP (.agg l) = True := by simp [noTupP]
@[go_sem] theorem noTup_sl (b e o n : Nat) : noTupP (.sl b e o n) = True := by simp [noTupP]
@[go_sem] theorem noTup_ptr (b e o n : Nat) : noTupP (.ptr b e o n) = True := by simp [noTupP]
/- calls -/
@[congr] theorem aCallF_congr {f : FuncId} {args args' : List V} (h : args = args') {tk : Prop} (_ : Tick = tk) : aCallF Γ Δ f args H n K = aCallF Γ Δ f args' H n K := by rw [h]
@[go_sem ↓, go_sem] theorem ev_callF {f : FuncId} {args : List V} : aCallF Γ Δ f args H n K = optE (Δ f args H n) (fun q => args.all V.noTup = true ∧ q.1 ∧ K q.2.1 q.2.2.1 q.2.2.2) (argsP H args fun ys ids => optC (Γ f ys) fun q => q.1 ∧ K q.2 (if q.2.scalar = true then [] else ids.map fun j => (j, none)) ids) := by
  unfold aCallF optE
  rcases Δ f args H n with _ | ⟨p, r, ws, rs⟩
  · simp only
    congr 1
    funext ys ids
    unfold optC
    rcases Γ f ys with _ | ⟨p, r⟩ <;> rfl
  · rfl
variable {kA : V → List Nat → Prop} {kL : List V → List Nat → Prop}
@[go_sem ↓, go_sem] theorem ev_args_nil : argsP H [] kL = kL [] [] := rfl
@[go_sem ↓, go_sem] theorem ev_args_cons {x : V} {xs : List V} : argsP H (x :: xs) kL = arg1 H x fun y r => argsP H xs fun ys rs => kL (y :: ys) (r ++ rs) := rfl
@[go_sem ↓, go_sem] theorem ev_argsA_nil : argsA H [] kL = kL [] [] := rfl
@[go_sem ↓, go_sem] theorem ev_argsA_cons {x : V} {xs : List V} : argsA H (x :: xs) kL = argA H x fun y r => argsA H xs fun ys rs => kL (y :: ys) (r ++ rs) := rfl
@[go_sem ↓, go_sem] theorem ev_arg_I {z : Int} : arg1 H (.I z) kA = kA (.I z) [] := rfl
@[go_sem ↓, go_sem] theorem ev_arg_Q {z : Rat} : arg1 H (.Q z) kA = kA (.Q z) [] := rfl
@[go_sem ↓, go_sem] theorem ev_arg_agg {l : List V} : arg1 H (.agg l) kA = if (V.agg l).pure = true then kA (.agg l) [] else (V.agg l).good = true ∧ argsA H (V.agg l).atoms fun ys rs => kA (.agg ys) rs := rfl
theorem arg1_atom {x : V} (h : x.isAgg = false) : arg1 H x kA = argA H x kA := by unfold arg1 frzE; rw [if_neg (by rw [h]; decide)]; rfl
@[go_sem ↓, go_sem] theorem ev_arg_raw {v : Value} : arg1 H (.raw v) kA = argA H (.raw v) kA := rfl
@[go_sem ↓, go_sem] theorem ev_arg_lst {l : List V} : arg1 H (.lst l) kA = argA H (.lst l) kA := rfl
@[go_sem ↓, go_sem] theorem ev_arg_sl {b e o m : Nat} : arg1 H (.sl b e o m) kA = argA H (.sl b e o m) kA := rfl
@[go_sem ↓, go_sem] theorem ev_arg_emp : arg1 H .emp kA = argA H .emp kA := rfl
@[go_sem ↓, go_sem] theorem ev_arg_pel {x : V} : arg1 H (.pel x) kA = argA H (.pel x) kA := rfl
@[go_sem ↓, go_sem] theorem ev_arg_clo {f : Fn} {a b : List V} : arg1 H (.clo f a b) kA = argA H (.clo f a b) kA := rfl
@[go_sem ↓, go_sem] theorem ev_argA_int {kk : IntKind} {i : Int} : argA H (.raw (.int kk i)) kA = kA (.raw (.int kk i)) [] := by simp [argA, argN, V.pure, V.atoms, pureA]
@[go_sem ↓, go_sem] theorem ev_argA_bool {b : Bool} : argA H (.raw (.bool b)) kA = kA (.raw (.bool b)) [] := by simp [argA, argN, V.pure, V.atoms, pureA]
@[go_sem ↓, go_sem] theorem ev_argA_str {b : ByteArray} : argA H (.raw (.string b)) kA = kA (.raw (.string b)) [] := by simp [argA, argN, V.pure, V.atoms, pureA]
@[go_sem ↓, go_sem] theorem ev_argA_nilf : argA H (.raw .nilFunc) kA = kA (.raw .nilFunc) [] := by simp [argA, argN, V.pure, V.atoms, pureA]
@[go_sem ↓, go_sem] theorem ev_argA_nil : argA H (.raw (.slice none 0 0)) kA = kA (.lst []) [] := rfl
@[go_sem ↓, go_sem] theorem ev_argA_emp : argA H .emp kA = kA (.lst []) [] := rfl
@[go_sem ↓, go_sem] theorem ev_argA_lst {l : List V} : argA H (.lst l) kA = kA (.lst l) [] := by simp [argA, argN, V.pure, V.atoms, pureA]
@[go_sem ↓, go_sem] theorem ev_argA_pel {x : V} : argA H (.pel x) kA = kA (.pel x) [] := by simp [argA, argN, V.pure, V.atoms, pureA]
@[congr] theorem frzs_congr {F : V → (V → List Nat → Prop) → Prop} {x x' : List V} {k : List V → List Nat → Prop} (h : x = x') {tk : Prop} (_ : Tick = tk) : frzs F x k = frzs F x' k := by rw [h]
@[congr] theorem frzE_congr {F : V → (V → List Nat → Prop) → Prop} {x x' : V} {k : V → List Nat → Prop} (h : x = x') {tk : Prop} (_ : Tick = tk) : frzE F x k = frzE F x' k := by rw [h]
@[congr] theorem argN_congr {m : Nat} {x x' : V} {k : V → List Nat → Prop} (h : x = x') {tk : Prop} (_ : Tick = tk) : argN H m x k = argN H m x' k := by rw [h]
@[go_sem ↓, go_sem] theorem ev_argA_sl {b e o m : Nat} : argA H (.sl b e o m) kA = optC (aElems H (.sl b e o m)) fun q => frzs (frzE (argN H 2)) q.1 fun L ids => kA (.lst L) (q.2 ++ ids) := by
  unfold argA argN optC
  simp only
  rcases aElems H (.sl b e o m) with _ | ⟨L, rs⟩ <;> rfl
@[go_sem ↓, go_sem] theorem ev_argA_ptr {b e i off : Nat} : argA H (.ptr b e i off) kA = optC (H b) fun y => (y.e = e ∧ off = 0) ∧ optC y.l[i]? fun z => frzE (argN H 2) z fun z' ids => kA (.pel z') (b :: ids) := by
  unfold argA argN optC
  simp only
  rcases H b with _ | y
  · rfl
  · simp only
    rcases y.l[i]? with _ | z <;> rfl
variable {m : Nat} {F : V → (V → List Nat → Prop) → Prop}
@[go_sem ↓, go_sem] theorem ev_argN_sl {b e o n : Nat} : argN H (m + 1) (.sl b e o n) kA = optC (aElems H (.sl b e o n)) fun q => frzs (frzE (argN H m)) q.1 fun L ids => kA (.lst L) (q.2 ++ ids) := by
  rw [argN.eq_def]
  unfold optC
  simp only
  rcases aElems H (.sl b e o n) with _ | ⟨L, rs⟩ <;> rfl
@[go_sem ↓, go_sem] theorem ev_argN_ptr {b e i off : Nat} : argN H (m + 1) (.ptr b e i off) kA = optC (H b) fun y => (y.e = e ∧ off = 0) ∧ optC y.l[i]? fun z => frzE (argN H m) z fun z' ids => kA (.pel z') (b :: ids) := by
  rw [argN.eq_def]
  unfold optC
  simp only
  rcases H b with _ | y
  · rfl
  · simp only
    rcases y.l[i]? with _ | z <;> rfl
@[go_sem ↓, go_sem] theorem ev_argN_nil : argN H (m + 1) (.raw (.slice none 0 0)) kA = kA (.lst []) [] := rfl
@[go_sem ↓, go_sem] theorem ev_argN_emp : argN H (m + 1) .emp kA = kA (.lst []) [] := rfl
theorem argN_pure {n : Nat} {x : V} (ha : x.isAgg = false) (hp : x.pure = true) (h1 : x ≠ .emp) (h2 : x ≠ .raw (.slice none 0 0)) : argN H n x kA = kA x [] := by
  cases n with
  | zero => simp [argN, hp]
  | succ n =>
    rw [argN.eq_def]
    simp only
    split
    · simp [V.pure, V.atoms, pureA] at hp
    · exact absurd rfl h2
    · exact absurd rfl h1
    · simp [V.pure, V.atoms, pureA] at hp
    · rw [if_pos hp]
    · simp [hp]
@[go_sem ↓, go_sem] theorem ev_argN_lst {l : List V} : argN H m (.lst l) kA = kA (.lst l) [] := argN_pure rfl rfl (by simp) (by simp)
@[go_sem ↓, go_sem] theorem ev_argN_pel {x : V} : argN H m (.pel x) kA = kA (.pel x) [] := argN_pure rfl rfl (by simp) (by simp)
@[go_sem ↓, go_sem] theorem ev_argN_int {kk : IntKind} {i : Int} : argN H m (.raw (.int kk i)) kA = kA (.raw (.int kk i)) [] := argN_pure rfl rfl (by simp) (by simp)
@[go_sem ↓, go_sem] theorem ev_argN_bool {b : Bool} : argN H m (.raw (.bool b)) kA = kA (.raw (.bool b)) [] := argN_pure rfl rfl (by simp) (by simp)
@[go_sem ↓, go_sem] theorem ev_argN_str {b : ByteArray} : argN H m (.raw (.string b)) kA = kA (.raw (.string b)) [] := argN_pure rfl rfl (by simp) (by simp)
@[go_sem ↓, go_sem] theorem ev_frzE_I {z : Int} : frzE F (.I z) kA = kA (.I z) [] := rfl
@[go_sem ↓, go_sem] theorem ev_frzE_Q {z : Rat} : frzE F (.Q z) kA = kA (.Q z) [] := rfl
@[go_sem ↓, go_sem] theorem ev_frzE_agg {l : List V} : frzE F (.agg l) kA = if (V.agg l).pure = true then kA (.agg l) [] else (V.agg l).good = true ∧ frzs F (V.agg l).atoms fun ys rs => kA (.agg ys) rs := rfl
@[go_sem ↓, go_sem] theorem ev_frzE_raw {v : Value} : frzE F (.raw v) kA = F (.raw v) kA := rfl
@[go_sem ↓, go_sem] theorem ev_frzE_lst {l : List V} : frzE F (.lst l) kA = F (.lst l) kA := rfl
@[go_sem ↓, go_sem] theorem ev_frzE_sl {b e o n : Nat} : frzE F (.sl b e o n) kA = F (.sl b e o n) kA := rfl
@[go_sem ↓, go_sem] theorem ev_frzE_ptr {b e o n : Nat} : frzE F (.ptr b e o n) kA = F (.ptr b e o n) kA := rfl
@[go_sem ↓, go_sem] theorem ev_frzE_emp : frzE F .emp kA = F .emp kA := rfl
@[go_sem ↓, go_sem] theorem ev_frzE_pel {x : V} : frzE F (.pel x) kA = F (.pel x) kA := rfl
@[go_sem ↓, go_sem] theorem ev_frzs_nil : frzs F [] kL = kL [] [] := rfl
@[go_sem ↓, go_sem] theorem ev_frzs_cons {x : V} {xs : List V} : frzs F (x :: xs) kL = F x fun y r => frzs F xs fun ys rs => kL (y :: ys) (r ++ rs) := rfl
/-- Elements that are handed over as they are. -/
def frzOk (L : List V) : Prop := ∀ y ∈ L, y.pure = true ∧ y ≠ .emp ∧ y ≠ .raw (.slice none 0 0)
theorem frzs_same : ∀ {L : List V} {kL : List V → List Nat → Prop}, frzOk L → frzs (frzE (argN H m)) L kL = kL L []
  | [], _, _ => rfl
  | x :: L, kL, h => by
    obtain ⟨h1, h2, h3⟩ := h x (by simp)
    have e : ∀ k, frzE (argN H m) x k = k x [] := fun k => by
      unfold frzE
      by_cases ha : x.isAgg = true
      · rw [if_pos ha, if_pos h1]
      · rw [if_neg ha]; exact argN_pure (by simpa using ha) h1 h2 h3
    simp only [frzs, e]
    rw [frzs_same fun y hy => h y (by simp [hy])]
    rfl
@[go_sem ↓ high, go_sem high] theorem ev_frzs_same {L : List V} (h : frzOk L) : frzs (frzE (argN H m)) L kL = kL L [] := frzs_same h
theorem frzOk_map {α : Type} {f : α → V} (h : ∀ a, (f a).pure = true ∧ f a ≠ .emp ∧ f a ≠ .raw (.slice none 0 0)) (l : List α) : frzOk (l.map f) := by
  intro y hy
  obtain ⟨a, _, rfl⟩ := List.mem_map.1 hy
  exact h a
@[go_sem] theorem frzOk_limbs (l : List Nat) : frzOk (V.limbs l) = True := eq_true (frzOk_map (fun a => ⟨rfl, by simp, by simp⟩) l)
@[go_sem] theorem frzOk_bytes (l : List Nat) : frzOk (V.bytes l) = True := eq_true (frzOk_map (fun a => ⟨rfl, by simp, by simp⟩) l)
@[go_sem] theorem frzOk_Is (l : List Int) : frzOk (l.map V.I) = True := eq_true (frzOk_map (fun a => ⟨rfl, by simp, by simp⟩) l)
@[go_sem] theorem frzOk_Qs (l : List Rat) : frzOk (l.map V.Q) = True := eq_true (frzOk_map (fun a => ⟨rfl, by simp, by simp⟩) l)
@[go_sem ↓, go_sem] theorem ev_argA_clo {f : Fn} {a b : List V} : argA H (.clo f a b) kA = if (V.clo f a b).pure = true then kA (.clo f a b) [] else ((a.all fun x => x.atoms.all pureB) = true ∧ (b.all fun x => !x.isAgg) = true) ∧ frzs (argN H 2) b fun ys ids => (ys.all fun x => x.atoms.all pureB) = true ∧ kA (.clo f a ys) ids := rfl
end

/- lists -/
@[go_sem] theorem allWid_nil (s : Nat) : allWid [] s = True := by simp [allWid]
@[go_sem] theorem allWid_cons (x : V) (l : List V) (s : Nat) : allWid (x :: l) s = (x.wid = s ∧ allWid l s) := by simp [allWid]
@[go_sem] theorem allGood_nil : allGood [] = True := by simp [allGood]
@[go_sem] theorem allGood_cons (x : V) (l : List V) : allGood (x :: l) = (x.good = true ∧ allGood l) := by simp [allGood]
@[go_sem] theorem allPure_nil : allPure [] = True := by simp [allPure]
@[go_sem] theorem allPure_cons (x : V) (l : List V) : allPure (x :: l) = (x.pure = true ∧ allPure l) := by simp [allPure]
@[go_sem ↓, go_sem] theorem sl_all {b e o n s : Nat} : (∀ k e' o' m, V.sl b e o n = .sl k e' o' m → e' = s) = (e = s) := by
  simp only [V.sl.injEq, eq_iff_iff]
  constructor
  · intro h; exact h b e o n ⟨rfl, rfl, rfl, rfl⟩
  · rintro rfl k e' o' m ⟨_, rfl, _, _⟩; rfl
@[go_sem] theorem lst_all {l : List V} {s : Nat} : (∀ k e' o' m, V.lst l = .sl k e' o' m → e' = s) = True := by simp
@[go_sem] theorem raw_all {v : Value} {s : Nat} : (∀ k e' o' m, V.raw v = .sl k e' o' m → e' = s) = True := by simp
@[go_sem] theorem emp_all {s : Nat} : (∀ k e' o' m, V.emp = .sl k e' o' m → e' = s) = True := by simp
@[go_sem] theorem good_I (z : Int) : (V.I z).good = true := rfl
@[go_sem] theorem good_Q (q : Rat) : (V.Q q).good = true := rfl
@[go_sem] theorem good_raw_int (k : IntKind) (n : Int) : (V.raw (.int k n)).good = true := rfl
@[go_sem] theorem good_raw_bool (b : Bool) : (V.raw (.bool b)).good = true := rfl
@[go_sem] theorem good_lst (l : List V) : (V.lst l).good = true := rfl
@[go_sem] theorem wid_I (z : Int) : (V.I z).wid = 2 := rfl
@[go_sem] theorem wid_Q (q : Rat) : (V.Q q).wid = 4 := rfl
@[go_sem] theorem wid_raw (v : Value) : (V.raw v).wid = 1 := rfl
@[go_sem] theorem wid_lst (l : List V) : (V.lst l).wid = 1 := rfl
@[go_sem] theorem wid_sl (b e o n : Nat) : (V.sl b e o n).wid = 1 := rfl
@[go_sem] theorem pure_I (z : Int) : (V.I z).pure = true := rfl
@[go_sem] theorem pure_Q (q : Rat) : (V.Q q).pure = true := rfl
@[go_sem] theorem pure_raw (v : Value) : (V.raw v).pure = true := rfl
@[go_sem] theorem pure_lst (l : List V) : (V.lst l).pure = true := rfl
/- These are no unfolding, so that what follows is left alone. -/
@[go_sem] theorem ev_tmp (σ : St) (t : Tmp) : σ.ev (.tmp t) = σ.s t := Eq.trans rfl rfl
@[go_sem] theorem ev_const (σ : St) (v : Value) : σ.ev (.const v) = cst v := Eq.trans rfl rfl
@[go_sem] theorem ev_global (σ : St) (g : Nat) : σ.ev (.global g) = .raw (.pointer (some ⟨g, 0, none⟩)) := Eq.trans rfl rfl
@[go_sem] theorem ev_func (σ : St) (f : FuncId) : σ.ev (.func f) = .clo (.func f) [] [] := Eq.trans rfl rfl
@[go_sem] theorem upS_eq (s : Nat → V) (i : Nat) (v : V) (t : Nat) : upS s i v t = if t = i then v else s t := Eq.trans rfl rfl
@[go_sem] theorem up_eq (H : Hp) (i : Nat) (x : Option Blk) (t : Nat) : Hp.up H i x t = if t = i then x else H t := Eq.trans rfl rfl
@[go_sem] theorem bnd_none (d : Int) : bnd none d = some d := Eq.trans rfl rfl
@[go_sem] theorem bnd_some (d i : Int) (kk : IntKind) : bnd (some (.raw (.int kk i))) d = some i := Eq.trans rfl rfl
attribute [go_sem] St.put.eq_1 St.put.eq_2 Hp.puts.eq_1 Hp.puts.eq_2 cst.eq_1 V.good.eq_1 V.wid.eq_1 V.atoms.eq_1 V.atoms.eq_2 V.atoms.eq_3 V.atoms.eq_4 V.atoms.eq_5 V.atoms.eq_6 V.atoms.eq_7 V.atoms.eq_8 V.atoms.eq_9 V.atoms.eq_10 V.atoms.eq_11 V.atoms.eq_12
  V.atomsL.eq_1 V.atomsL.eq_2 V.atomsI.eq_1 V.sub.eq_1 V.subF.eq_1 V.subF.eq_2 pickL.eq_1 pickL.eq_2 V.put.eq_1 V.putF.eq_1 V.putF.eq_2 putL.eq_1 putL.eq_2 aElems.eq_2 aElems.eq_3 aElems.eq_4 V.asAgg.eq_1 cvI.eq_1 cvI.eq_2 cvI.eq_3
  V.kids.eq_1 V.kids.eq_2 V.kids.eq_3 V.isAgg.eq_1 V.isAgg.eq_2 V.isAgg.eq_3 V.pure.eq_1 st0.eq_1 argS.eq_1 argS.eq_2
@[go_sem] theorem cvI_i64 (a : Int) : cvI .i64 a = IntKind.i64.wrap a := rfl
@[go_sem] theorem cst_int (k : IntKind) (n : Int) : cst (.int k n) = .raw (.int k n) := rfl
@[go_sem] theorem cst_bool (b : Bool) : cst (.bool b) = .raw (.bool b) := rfl
@[go_sem] theorem cst_str (b : ByteArray) : cst (.string b) = .raw (.string b) := rfl
@[go_sem] theorem cst_slice : cst (.slice none 0 0) = .raw (.slice none 0 0) := rfl
@[go_sem] theorem cst_ptr : cst (.pointer none) = .raw (.pointer none) := rfl
@[go_sem] theorem cst_nilFunc : cst .nilFunc = .raw .nilFunc := rfl
@[go_sem] theorem cst_tuple (vs : Array Value) : cst (.tuple vs) = .raw (.tuple vs) := rfl
@[go_sem] theorem isAgg_raw (v : Value) : (V.raw v).isAgg = false := rfl
@[go_sem] theorem isAgg_lst (l : List V) : (V.lst l).isAgg = false := rfl
@[go_sem] theorem isAgg_sl (k e o n : Nat) : (V.sl k e o n).isAgg = false := rfl
@[go_sem] theorem isAgg_ptr (k e o n : Nat) : (V.ptr k e o n).isAgg = false := rfl
@[go_sem] theorem isAgg_pel (x : V) : (V.pel x).isAgg = false := rfl
@[go_sem] theorem isAgg_clo (f : Fn) (a b : List V) : (V.clo f a b).isAgg = false := rfl
@[go_sem] theorem isAgg_emp : V.emp.isAgg = false := rfl
@[go_sem] theorem isAgg_any : V.any.isAgg = false := rfl
@[go_sem] theorem isAgg_tup (l : List V) : (V.tup l).isAgg = false := rfl
@[go_sem] theorem kids_raw (v : Value) : (V.raw v).kids = [.raw v] := rfl
@[go_sem] theorem kids_lst (l : List V) : (V.lst l).kids = [.lst l] := rfl
@[go_sem] theorem kids_sl (k e o n : Nat) : (V.sl k e o n).kids = [.sl k e o n] := rfl
@[go_sem] theorem kids_ptr (k e o n : Nat) : (V.ptr k e o n).kids = [.ptr k e o n] := rfl
@[go_sem] theorem kids_pel (x : V) : (V.pel x).kids = [.pel x] := rfl
@[go_sem] theorem kids_clo (f : Fn) (a b : List V) : (V.clo f a b).kids = [.clo f a b] := rfl
@[go_sem] theorem kids_emp : V.emp.kids = [.emp] := rfl
@[go_sem] theorem kids_any : V.any.kids = [.any] := rfl
@[go_sem] theorem elems_sl (H : Hp) (k e o n : Nat) : aElems H (.sl k e o n) = (H k).bind fun x => if x.e = e ∧ o + n ≤ x.l.length then some ((x.l.drop o).take n, [k]) else none := by
  rw [aElems.eq_1]; cases H k <;> rfl
@[go_sem] theorem ldV_eq (P : Program) (t : TypeId) (x : V) (off : Nat) : ldV P t x off = (tySize P t).bind fun s => (tyAgg P t).bind fun g => if g = true then (if off + s ≤ x.wid then some (x.sub off s) else none) else (x.atoms[off]?).bind fun y => if okStore y = true then some y else none := by
  unfold ldV
  cases tySize P t with
  | none => rfl
  | some s =>
    cases tyAgg P t with
    | none => rfl
    | some g =>
      cases g
      · simp only [Option.bind_some]
        cases x.atoms[off]? <;> rfl
      · rfl
@[go_sem] theorem okStore_lst (l : List V) : okStore (.lst l) = true := rfl
@[go_sem] theorem okStore_sl (k e o n : Nat) : okStore (.sl k e o n) = true := rfl
@[go_sem] theorem okStore_ptr (k e o n : Nat) : okStore (.ptr k e o n) = true := rfl
@[go_sem] theorem okStore_int (k : IntKind) (n : Int) : okStore (.raw (.int k n)) = true := rfl
@[go_sem] theorem okStore_bool (b : Bool) : okStore (.raw (.bool b)) = true := rfl
@[go_sem] theorem okStore_str (b : ByteArray) : okStore (.raw (.string b)) = true := rfl
@[go_sem] theorem okStore_nil : okStore (.raw (.slice none 0 0)) = true := rfl
attribute [go_sem] dstOk okStore V.plain pureB pureA V.scalar scalarA V.noTup OutsL Outs atLe atsLe
attribute [go_sem]
  Option.getD_some Option.getD_none List.getElem?_cons_zero List.getElem?_cons_succ List.getElem?_nil Option.bind_some Option.bind_none List.map_cons List.map_nil List.all_cons List.all_nil
  List.cons_append List.nil_append List.append_nil Bool.and_true Bool.true_and true_and and_true and_self List.length_cons List.length_nil
  List.drop_zero List.drop_succ_cons List.drop_nil List.take_zero List.take_succ_cons List.take_nil List.set_cons_zero List.set_cons_succ
  forall_const ne_eq not_true_eq_false not_false_eq_true Option.map_some Option.map_none Option.isNone_none Option.isNone_some Option.isSome_some Option.isSome_none
  Bool.not_true Bool.not_false reduceCtorEq false_and and_false Bool.false_eq_true if_true if_false List.reverse_cons List.reverse_nil List.getElem?_toArray
  exists_eq' exists_eq_left exists_const Option.some.injEq List.replicate_zero true_or or_true false_or or_false
attribute [go_sem] false_implies true_implies true_and and_true implies_true Nat.sub_zero Int.cast_ofNat_Int decide_true decide_false Nat.add_zero Nat.zero_add Nat.zero_mul Nat.one_mul Nat.mul_one Nat.lt_add_one Nat.le_refl Nat.zero_le Nat.one_ne_zero Nat.succ_ne_zero Nat.zero_ne_one Nat.add_one_ne_zero Nat.ne_add_one
end Go.Proofs.YtfbogelmgdojgaaGreat

/- Tables of contracts; states written as lists. No program in sight. -/
namespace Go.Proofs.YtfbogelmgdojgaaGreat
set_option linter.unusedSimpArgs false
set_option linter.unusedVariables false
open Go.RowKit

abbrev Con := List V → Option (Prop × V)
def Ctr (P : Program) (f : FuncId) (C : Con) : Prop := callable P f = true ∧ ∀ args p r, C args = some (p, r) → p → PCall P f args r
def tbl : List (FuncId × Con) → Tab
  | [], _, _ => none
  | (g, C) :: l, f, args => if f = g then C args else tbl l f args
attribute [go_sem] tbl.eq_1 tbl.eq_2
def noGab : Gab := fun _ _ _ _ => none
@[go_sem] theorem noGab_eq (f : FuncId) (l : List V) (H : Hp) (n : Nat) : noGab f l H n = none := Eq.trans rfl rfl
theorem tbl_nil {P : Program} : TabOk P (tbl []) := fun _ _ _ _ h => by cases h
theorem tbl_cons {P : Program} {f : FuncId} {C : Con} {l : List (FuncId × Con)} (h : Ctr P f C) (hl : TabOk P (tbl l)) : TabOk P (tbl ((f, C) :: l)) := by
  intro g args p r hg
  simp only [tbl] at hg
  split at hg
  · rename_i e
    subst e
    exact ⟨h.1, h.2 args p r hg⟩
  · exact hl g args p r hg
theorem tabs {P : Program} (hm : P.follows .mixedOrders = true) {l : List (FuncId × Con)} (h : TabOk P (tbl l)) : Tabs P (tbl l) noGab :=
  ⟨hm, h, (fun _ _ _ _ _ _ _ _ h => by cases h), (fun _ _ _ _ => ⟨(fun _ _ _ _ h => by cases h), fun _ _ => rfl⟩)⟩

/-- A state, written out. -/
def mkS : List (Nat × V) → Nat → V
  | [] => fun _ => .any
  | (t, v) :: l => upS (mkS l) t v
def mkH : List (Nat × Bool × Blk) → Hp
  | [] => fun _ => none
  | (k, _, x) :: l => (mkH l).up k (some x)
def mkStM (m : Nat) (ss : List (Nat × V)) (hs : List (Nat × Bool × Blk)) (n N : Nat) : St := { s := mkS ss, H := mkH hs, n := n, N := N, m := m }
def mkSt (ss : List (Nat × V)) (hs : List (Nat × Bool × Blk)) (n N : Nat) : St := { s := mkS ss, H := mkH hs, n := n, N := N }
attribute [go_sem] mkS.eq_1 mkS.eq_2 mkH.eq_1 mkH.eq_2
/-- A body, from a state written out. -/
theorem vc_at {P : Program} {Γ : Tab} {Δ : Gab} (T : Tabs P Γ Δ) {c : Code} {Q : Exit → St → Prop} {ss : List (Nat × V)} {hs : List (Nat × Bool × Blk)} {n N : Nat} (h : vc P Γ Δ c Q { s := mkS ss, H := mkH hs, n := n, N := N }) : AWp P c Q (mkSt ss hs n N) := vc_ok T _ _ _ h
theorem vc_atM {P : Program} {Γ : Tab} {Δ : Gab} (T : Tabs P Γ Δ) {c : Code} {Q : Exit → St → Prop} {m : Nat} {ss : List (Nat × V)} {hs : List (Nat × Bool × Blk)} {n N : Nat} (h : vc P Γ Δ c Q { s := mkS ss, H := mkH hs, n := n, N := N, m := m }) : AWp P c Q (mkStM m ss hs n N) := vc_ok T _ _ _ h
def wkS (θ : List Nat) (s : Nat → V) : List (Nat × V) → Prop
  | [] => True
  | (t, v) :: l => (v.noTup = true ∧ RenV θ v (s t)) ∧ wkS θ s l
def renLL (θ : List Nat) : List V → List V → Prop
  | [], [] => True
  | x :: l, y :: m => (RenV θ x y ∧ x.wid = y.wid ∧ (x = .any → y.isAgg = false)) ∧ renLL θ l m
  | _, _ => False
def wkB (θ : List Nat) (m : Bool) (x y : Blk) : Prop := x.t = y.t ∧ x.e = y.e ∧ (if m = true then x.l = y.l ∧ allPure x.l else renLL θ x.l y.l)
def wkH (θ : List Nat) (H : Hp) : List (Nat × Bool × Blk) → Prop
  | [] => True
  | (k, m, x) :: l => optC θ[k]? (fun k0 => optC (H k0) fun y => wkB θ m x y) ∧ wkH θ H l
attribute [go_sem] wkS wkB wkH renLL
def wkM (m : Nat) (θ : List Nat) (σ : St) (ss : List (Nat × V)) (hs : List (Nat × Bool × Blk)) (n N : Nat) : Prop := (N = σ.N ∧ σ.m = m ∧ σ.q = false) ∧ n = θ.length ∧ wkS θ σ.s ss ∧ wkH θ σ.H hs
def wkC (θ : List Nat) (σ : St) (ss : List (Nat × V)) (hs : List (Nat × Bool × Blk)) (n N : Nat) : Prop := (N = σ.N ∧ σ.m = 0 ∧ σ.q = false) ∧ n = θ.length ∧ wkS θ σ.s ss ∧ wkH θ σ.H hs
attribute [go_sem] wkC wkM
theorem renL_of {θ : List Nat} : ∀ (l m : List V), renLL θ l m → RenL θ l m
  | [], [], _ => ⟨rfl, fun i x y h => by simp at h⟩
  | x :: l, y :: m, h => by
    obtain ⟨h1, h2⟩ := h
    obtain ⟨h3, h4⟩ := renL_of l m h2
    refine ⟨by simp [h3], fun i a b ha hb => ?_⟩
    cases i with
    | zero => simp at ha hb; subst ha hb; exact h1
    | succ i => exact h4 i a b (by simpa using ha) (by simpa using hb)
  | [], _ :: _, h => h.elim
  | _ :: _, [], h => h.elim
theorem renCs_pure {θ : List Nat} : ∀ {l : List V}, (l.all fun x => x.atoms.all pureB) = true → RenCs θ l l
  | [], _ => trivial
  | x :: l, h => by
    simp only [List.all_cons, Bool.and_eq_true] at h
    refine ⟨?_, renCs_pure h.2⟩
    have h1 := h.1
    cases x <;> first | exact ⟨rfl, h1⟩ | (simp [V.atoms, pureB] at h1)
theorem renV_pure {θ : List Nat} {x : V} (h : x.pure = true) : RenV θ x x := by
  unfold RenV
  split
  · trivial
  · simp only [V.pure, V.atoms, List.all_cons, List.all_nil, Bool.and_true, pureA, Bool.and_eq_true] at h
    exact ⟨rfl, renCs_pure h.1, renCs_pure h.2⟩
  · simp [V.pure, V.atoms, pureA] at h
  · simp [V.pure, V.atoms, pureA] at h
  · exact ⟨h, .inl rfl⟩
theorem renL_refl {θ : List Nat} {l : List V} (h : allPure l) : RenL θ l l := ⟨rfl, fun i x y hx hy => by
  rw [hx] at hy
  injection hy with hy
  subst hy
  exact ⟨renV_pure (h x (List.mem_of_getElem? hx)), rfl, fun e => by subst e; rfl⟩⟩
theorem Wk.ofM (m : Nat) (θ : List Nat) {σ : St} {ss : List (Nat × V)} {hs : List (Nat × Bool × Blk)} {n N : Nat} (hnd : θ.Nodup) (hid : ∀ k, k < m → θ[k]? = some k) (h : wkM m θ σ ss hs n N) : Wk σ (mkStM m ss hs n N) := by
  obtain ⟨⟨h1, h0, hq⟩, h2, h3, h4⟩ := h
  have hS : ∀ (l : List (Nat × V)), wkS θ σ.s l → RenS θ (mkS l) σ.s ∧ ∀ t m, mkS l t ≠ .tup m := by
    intro l
    induction l with
    | nil => intro _; exact ⟨fun t => trivial, fun t m h => by simp [mkS] at h⟩
    | cons p l ih =>
      intro hl
      obtain ⟨⟨q1, q2⟩, q3⟩ := hl
      obtain ⟨i1, i2⟩ := ih q3
      refine ⟨fun t => ?_, fun t m => ?_⟩
      · simp only [mkS, upS]
        split
        · rename_i e; subst e; exact q2
        · exact i1 t
      · simp only [mkS, upS]
        split
        · intro e; rw [e] at q1; simp [V.noTup] at q1
        · exact i2 t m
  have hHH : ∀ (l : List (Nat × Bool × Blk)), wkH θ σ.H l → RenH θ (mkH l) σ.H := by
    intro l
    induction l with
    | nil => intro _ k x hk; simp [mkH] at hk
    | cons p l ih =>
      intro hl k x hk
      obtain ⟨q1, q2⟩ := hl
      simp only [mkH, Hp.up] at hk
      split at hk
      · rename_i e
        subst e
        injection hk with hk
        subst hk
        unfold optC at q1
        split at q1
        · rename_i k0 hk0
          split at q1
          · rename_i y hy
            obtain ⟨r1, r2, r3⟩ := q1
            refine ⟨k0, y, hk0, hy, r1, r2, ?_⟩
            split at r3
            · rw [← r3.1]; exact renL_refl r3.2
            · exact renL_of _ _ r3
          · exact q1.elim
        · exact q1.elim
      · exact ih q2 k x hk
  exact Wk.mk θ h1 h0.symm hq.symm (fun k hk => hid k (by omega)) h2 (hS ss h3).1 (hHH hs h4) hnd (hS ss h3).2
theorem Wk.of (θ : List Nat) {σ : St} {ss : List (Nat × V)} {hs : List (Nat × Bool × Blk)} {n N : Nat} (hnd : θ.Nodup) (h : wkC θ σ ss hs n N) : Wk σ (mkSt ss hs n N) :=
  Wk.ofM 0 θ hnd (fun k hk => absurd hk (Nat.not_lt_zero k)) h
@[go_sem] theorem ren_any (θ : List Nat) (y : V) : RenV θ .any y = True := by simp [RenV]
@[go_sem] theorem ren_ptr (θ : List Nat) (k e i o k0 e0 i0 o0 : Nat) : RenV θ (.ptr k e i o) (.ptr k0 e0 i0 o0) = (θ[k]? = some k0 ∧ e = e0 ∧ i = i0 ∧ o = o0) := rfl
@[go_sem] theorem ren_cl (θ : List Nat) (f f0 : Fn) (a b a0 b0 : List V) : RenV θ (.clo f a b) (.clo f0 a0 b0) = (f = f0 ∧ RenCs θ a a0 ∧ RenCs θ b b0) := rfl
@[go_sem] theorem renCs_nil (θ : List Nat) : RenCs θ [] [] = True := rfl
@[go_sem] theorem renCs_cons (θ : List Nat) (x y : V) (l m : List V) : RenCs θ (x :: l) (y :: m) = (RenC θ x y ∧ RenCs θ l m) := rfl
@[go_sem] theorem renC_ptr (θ : List Nat) (k e i o k0 e0 i0 o0 : Nat) : RenC θ (.ptr k e i o) (.ptr k0 e0 i0 o0) = (θ[k]? = some k0 ∧ e = e0 ∧ i = i0 ∧ o = o0) := rfl
@[go_sem] theorem ren_sl (θ : List Nat) (k e i o k0 e0 i0 o0 : Nat) : RenV θ (.sl k e i o) (.sl k0 e0 i0 o0) = (θ[k]? = some k0 ∧ e = e0 ∧ i = i0 ∧ o = o0) := rfl
@[go_sem] theorem ren_raw (θ : List Nat) (v : Value) (y : V) : RenV θ (.raw v) y = (.raw v = y) := by
  simp [RenV, V.pure, V.atoms, pureA, V.isAgg]
@[go_sem] theorem ren_lst (θ : List Nat) (l : List V) (y : V) : RenV θ (.lst l) y = (.lst l = y) := by
  simp [RenV, V.pure, V.atoms, pureA, V.isAgg]
@[go_sem] theorem ren_emp (θ : List Nat) (y : V) : RenV θ .emp y = (.emp = y) := by
  simp [RenV, V.pure, V.atoms, pureA, V.isAgg]
theorem ren_I (θ : List Nat) (z : Int) : RenV θ (.I z) (.I z) := renV_pure rfl
theorem ren_Q (θ : List Nat) (z : Rat) : RenV θ (.Q z) (.Q z) := renV_pure rfl
end Go.Proofs.YtfbogelmgdojgaaGreat

/- Calls whose result is a fresh row of the caller. No program in sight. -/
namespace Go.Proofs.YtfbogelmgdojgaaGreat
set_option linter.unusedSimpArgs false
set_option linter.unusedVariables false
open Go.RowKit

/-- A row: its type of elements, the cells of an element, the elements. -/
structure FRes where
  t : TypeId
  e : Nat
  l : List V
def FCall (P : Program) (f : FuncId) (args : List V) (R : FRes) : Prop :=
  ∀ (B : Nat → Prop) (w : World) (vs : List Value), vs.length = args.length → (∀ (j : Nat) (x : V) (v : Value), args[j]? = some x → vs[j]? = some v → RepW w B (fun _ => none) x v) → (∀ b, B b → b < w.heap.size) →
    Calls P f vs.toArray w fun e w' => ∃ (b c : Nat) (arr : Array Value), e = .returned (.slice (some ⟨b, 0, none⟩) R.l.length c) ∧ R.l.length ≤ c ∧ c * R.e ≤ arr.size ∧ w.heap.size ≤ b ∧ w'.heap[b]? = some (.cells arr R.t (0, 0)) ∧
      (∀ y ∈ R.l, y.wid = R.e) ∧ (V.atomsL R.l).length ≤ arr.size ∧ (∀ (j : Nat) (y : V) (u : Value), (V.atomsL R.l)[j]? = some y → arr[j]? = some u → RepA w' (fun b' => B b' ∨ b' = b) (fun _ => none) y u) ∧ Below w.heap.size w w'
section
variable {P : Program}
theorem FCall.le {f : FuncId} {args args' : List V} {R : FRes} (h : FCall P f args R) (hl : OutsL args' args) : FCall P f args' R := by
  intro B w vs hv hr hB
  obtain ⟨e1, e2⟩ := OutsL.get _ _ hl
  refine h B w vs (by omega) (fun j x v hx hv => ?_) hB
  obtain ⟨y, k1, k2⟩ := e2 j x hx
  exact k2.rep (hr j y v k1 hv)
theorem FCall.gcall {f : FuncId} {args : List V} {R : FRes} (h : FCall P f args R) (hp : args.all V.pure = true) (H : Hp) (n : Nat) : GCall P f args H n (.sl n R.e 0 R.l.length) [(n, some ⟨R.t, R.e, R.l⟩)] := by
  intro B w ρ vs hH hf hB hfar hl hr
  have hlt : ∀ b, own B ρ H b → b < w.heap.size := by
    rintro b (hb | ⟨k, x, h1, h2⟩)
    · exact hB b hb
    · obtain ⟨b', arr, e1, e2, _⟩ := hH.row k x h1
      rw [h2] at e1; injection e1 with e1; subst e1
      exact (Array.getElem?_eq_some_iff.1 e2).1
  refine (h (own B ρ H) w vs hl (fun j x v hx hv => (hr j x v hx hv).pure (List.all_eq_true.1 hp x (List.mem_of_getElem? hx))) hlt).mono ?_
  rintro e w' ⟨b, c, arr, rfl, hc, hca, hb, hbw, hw, hal, hrep, hbel⟩
  have hH' : H.puts [(n, some ⟨R.t, R.e, R.l⟩)] = H.up n (some ⟨R.t, R.e, R.l⟩) := rfl
  rw [hH']
  have step : Step H w ρ (H.up n (some ⟨R.t, R.e, R.l⟩)) w' (fun k => if k = n then some b else ρ k) := by
    refine ⟨fun k b0 e => ?_, fun b0 hb0 _ => hbel.block b0 hb0, fun k x b0 e1 e2 => ?_, hbel.size, fun b0 arr0 t0 fr e => ⟨arr0, t0, fr, ?_, rfl⟩, hbel.os, hbel.tape, hbel.output⟩
    · split
      · rename_i hk; subst hk; rw [hf] at e; cases e
      · exact e
    · split at e2
      · injection e2 with e2; subst e2; exact .inr hb
      · rename_i hk
        refine .inl ⟨k, x, ?_, e2⟩
        simpa [Hp.up, hk] using e1
    · rw [hbel.block b0 (Array.getElem?_eq_some_iff.1 e).1]; exact e
  have hsub : ∀ b0, own B (fun k => if k = n then some b else ρ k) (H.up n (some ⟨R.t, R.e, R.l⟩)) b0 → own B ρ H b0 ∨ b0 = b := by
    rintro b0 (h0 | ⟨k, x, h1, h2⟩)
    · exact .inl (.inl h0)
    · simp only at h2
      split at h2
      · injection h2 with h2; exact .inr h2.symm
      · rename_i hk
        exact .inl (.inr ⟨k, x, by simpa [Hp.up, hk] using h1, h2⟩)
  refine ⟨_, fun k => if k = n then some b else ρ k, rfl, step, ⟨fun k x hk => ?_, fun k k' x x' b0 e1 e2 e3 e4 => ?_⟩, fun k hk e => by simp [hk, e], ?_⟩
  · by_cases hkn : k = n
    · subst hkn
      have : x = ⟨R.t, R.e, R.l⟩ := by simpa [Hp.up] using hk.symm
      subst this
      refine ⟨b, arr, by simp, hbw, hw, hal, fun j y u hy hu => ?_⟩
      exact (hrep j y u hy hu).mono ((Ext.less hsub).into _)
    · have hk0 : H k = some x := by simpa [Hp.up, hkn] using hk
      obtain ⟨b0, arr0, h1, h2, h3, h4, h5⟩ := hH.row k x hk0
      refine ⟨b0, arr0, by simp [hkn, h1], ?_, h3, h4, fun j y u hy hu => (h5 j y u hy hu).mono (step.ext B)⟩
      rw [hbel.block b0 (Array.getElem?_eq_some_iff.1 h2).1]; exact h2
  · have old : ∀ q y, q ≠ n → (H.up n (some ⟨R.t, R.e, R.l⟩)) q = some y → (if q = n then some b else ρ q) = some b0 → H q = some y ∧ ρ q = some b0 ∧ b0 < w.heap.size := fun q y hq h1 h2 => by
      have h1' : H q = some y := by simpa [Hp.up, hq] using h1
      rw [if_neg hq] at h2
      exact ⟨h1', h2, hlt b0 (.inr ⟨q, y, h1', h2⟩)⟩
    by_cases hk : k = n
    · by_cases hk' : k' = n
      · rw [hk, hk']
      · obtain ⟨_, _, h3⟩ := old k' x' hk' e2 e4
        simp only [hk, if_true, Option.some.injEq] at e3
        omega
    · by_cases hk' : k' = n
      · obtain ⟨_, _, h3⟩ := old k x hk e1 e3
        simp only [hk', if_true, Option.some.injEq] at e4
        omega
      · obtain ⟨a1, a2, _⟩ := old k x hk e1 e3
        obtain ⟨c1, c2, _⟩ := old k' x' hk' e2 e4
        exact hH.inj k k' x x' b0 a1 c1 a2 c2
  · refine RepV.of_W (RepW.of_atom ?_ rfl rfl) (by intro l h; cases h)
    have := RepA.sl (w := w') (O := own B (fun k => if k = n then some b else ρ k) (H.up n (some ⟨R.t, R.e, R.l⟩))) (fun k => if k = n then some b else ρ k) n R.e 0 R.l.length b c arr R.t (0, 0) (by simp) hbw hc (by simpa using hca)
    simpa using this
def retF (P : Program) (rs : List ResultVar) (R : FRes) : Exit → St → Prop
  | .normal, σ => aResL P σ rs fun xs => ∃ k, xs = [.sl k R.e 0 R.l.length] ∧ σ.H k = some ⟨R.t, R.e, R.l⟩ ∧ allPure R.l
  | .ret, σ => aResL P σ rs fun xs => ∃ k, xs = [.sl k R.e 0 R.l.length] ∧ σ.H k = some ⟨R.t, R.e, R.l⟩ ∧ allPure R.l
  | _, _ => False
theorem FCall.of_vc {Γ : Tab} {Δ : Gab} (T : Tabs P Γ Δ) {f : FuncId} {fn : Func} {c : Code} {args : List V} {R : FRes} (hf : P.funcs[f]? = some fn) (hb : fn.body = some c) {N : Nat} (hn : fn.ntmps = N) {rs : Array ResultVar} (hrs : fn.results = rs) (hN : args.length ≤ N)
    (h : vc P Γ Δ c (retF P rs.toList R) (st0 args N)) : FCall P f args R := by
  subst hn hrs
  intro B w vs hl hr hB
  refine callsIn_wide.1 (callsIn_of_wp_marks (F := Fence.wide) (n := 0) hf hb trivial ?_)
  have st : Stat B (fun _ => none) w := ⟨hB, fun _ _ h => by cases h⟩
  have hown : ∀ b, own B (fun _ => none) (fun _ => none) b → B b := fun b hb => by
    rcases hb with hb | ⟨k, x, h1, _⟩
    · exact hb
    · cases h1
  have hx : Ext w B (fun _ => none) w (own B (fun _ => none) (fun _ => none)) (fun _ => none) := Ext.less hown
  have hs : Sim B (fun _ => none) w (st0 args fn.ntmps) { tmps := vs.toArray ++ Array.replicate (fn.ntmps - vs.toArray.size) undef, defers := [] } w (fun _ => none) := sim0 hl hr hN
  refine wpIn_mono (vc_ok T c _ _ h B (fun _ => none) w st _ w _ hs (r := none)) fun e a' w' hq => ?_
  obtain ⟨σ', ρ', hq, hs'⟩ := hq
  have fin : (aResL P σ' fn.results.toList fun xs => ∃ k, xs = [.sl k R.e 0 R.l.length] ∧ σ'.H k = some ⟨R.t, R.e, R.l⟩ ∧ allPure R.l) → LeavesInM Fence.wide 0 P fn a'.tmps (fun e w' =>
      ∃ (b c : Nat) (arr : Array Value), e = .returned (.slice (some ⟨b, 0, none⟩) R.l.length c) ∧ R.l.length ≤ c ∧ c * R.e ≤ arr.size ∧ w.heap.size ≤ b ∧ w'.heap[b]? = some (.cells arr R.t (0, 0)) ∧
      (∀ y ∈ R.l, y.wid = R.e) ∧ (V.atomsL R.l).length ≤ arr.size ∧ (∀ (j : Nat) (y : V) (u : Value), (V.atomsL R.l)[j]? = some y → arr[j]? = some u → RepA w' (fun b' => B b' ∨ b' = b) (fun _ => none) y u) ∧ Below w.heap.size w w') a'.defers .returning w' := fun hq => leaves_of _ _ hs' fun w' hs' => by
    obtain ⟨xs, us, h1, h2, h3, h4⟩ := res_ok (P := P) hs' _ _ hq
    obtain ⟨k, rfl, hk, hpure⟩ := h1
    match us, h3 with
    | [u], _ =>
      have h5 := h4 0 _ _ rfl rfl
      have h6 : RepA w' (own B ρ' σ'.H) ρ' (.sl k R.e 0 R.l.length) u := RepW.atom h5 rfl
      obtain ⟨b, arr, q1, q2, q3, q4, q5⟩ := hs'.heap.row k _ hk
      refine ⟨_, results_run h2, ?_⟩
      cases h6 with
      | sl _ _ _ _ _ b' c arr' t' fr' e1 e2 e3 e4 =>
        rw [q1] at e1; injection e1 with e1; subst e1
        rw [q2] at e2; injection e2 with e2; injection e2 with e2 e5 e6; subst e2 e5 e6
        refine ⟨b, c, arr, by simp, e3, by simpa using e4, ?_, q2, q3, q4, fun j y u hy hu => ?_, hs'.below⟩
        · rcases hs'.mine k _ b hk q1 with ⟨_, hh⟩ | hh
          · cases hh
          · exact hh
        · have hp : pureA y = true := by
            have : ∀ (l : List V), allPure l → ∀ y ∈ V.atomsL l, pureA y = true := by
              intro l
              induction l with
              | nil => intro _ y hy; simp [V.atomsL] at hy
              | cons x l ih =>
                intro hl y hy
                simp only [V.atomsL, List.mem_append] at hy
                rcases hy with hy | hy
                · have := hl x (by simp)
                  unfold V.pure at this
                  exact List.all_eq_true.1 this y hy
                · exact ih (fun z hz => hl z (by simp [hz])) y hy
            exact this _ hpure y (List.mem_of_getElem? hy)
          refine ((q5 j y u hy hu).pureA hp).mono (Ext.less ?_)
          rintro b0 (h0 | rfl)
          · exact .inl h0
          · exact .inr ⟨k, _, hk, q1⟩
  cases e with
  | normal => exact fin hq
  | ret => exact fin hq
  | exit id => exact hq.elim
  | goto l => exact hq.elim
  | panic c => exact hq.elim
  | outgrown => exact hq.elim
end
/-- A table of such calls: they are made on stable arguments. -/
abbrev FCon := List V → Option (Prop × FRes)
def FCtr (P : Program) (f : FuncId) (C : FCon) : Prop := callable P f = true ∧ ∀ args p R, C args = some (p, R) → p → FCall P f args R
def gtb : List (FuncId × FCon) → Gab
  | [], _, _, _, _ => none
  | (g, C) :: l, f, args, H, n => if f = g then (if args.all V.pure = true then (C args).map fun q => (q.1, .sl n q.2.e 0 q.2.l.length, [(n, some ⟨q.2.t, q.2.e, q.2.l⟩)], []) else none) else gtb l f args H n
theorem gtb_loc : ∀ (l : List (FuncId × FCon)) (f : FuncId) (args : List V) (H H' : Hp) (n : Nat), gtb l f args H n = gtb l f args H' n
  | [], _, _, _, _, _ => rfl
  | (g, C) :: l, f, args, H, H', n => by simp only [gtb]; rw [gtb_loc l f args H H' n]
theorem gtb_nil {P : Program} : GabOk P (gtb []) := fun _ _ _ _ _ _ _ _ h => by cases h
theorem gtb_cons {P : Program} {f : FuncId} {C : FCon} {l : List (FuncId × FCon)} (h : FCtr P f C) (hl : GabOk P (gtb l)) : GabOk P (gtb ((f, C) :: l)) := by
  intro g args H n p r ws rs hg
  simp only [gtb] at hg
  split at hg
  · rename_i e
    subst e
    split at hg
    · rename_i hp
      rcases hc : C args with _ | ⟨p', R⟩ <;> rw [hc] at hg
      · cases hg
      · injection hg with hg
        injection hg with h1 h2; injection h2 with h2 h3; injection h3 with h3 h4
        subst h1 h2 h3
        exact ⟨h.1, fun hp' => (h.2 args p' R hc hp').gcall hp H n⟩
    · cases hg
  · exact hl g args H n p r ws rs hg
theorem tabsG {P : Program} (hm : P.follows .mixedOrders = true) {l : List (FuncId × Con)} (h : TabOk P (tbl l)) {m : List (FuncId × FCon)} (hg : GabOk P (gtb m)) : Tabs P (tbl l) (gtb m) :=
  ⟨hm, h, hg, fun f args H n => ⟨fun p r ws rs e H' _ => by rw [gtb_loc m f args H' H n]; exact e, fun e H' => by rw [gtb_loc m f args H' H n]; exact e⟩⟩
attribute [go_sem] gtb.eq_1 gtb.eq_2
@[go_sem ↓, go_sem] theorem ev_retF_n {P : Program} {l : List ResultVar} {R : FRes} {σ : St} : retF P l R .normal σ = aResL P σ l fun xs => ∃ k, xs = [.sl k R.e 0 R.l.length] ∧ σ.H k = some ⟨R.t, R.e, R.l⟩ ∧ allPure R.l := rfl
@[go_sem ↓, go_sem] theorem ev_retF_r {P : Program} {l : List ResultVar} {R : FRes} {σ : St} : retF P l R .ret σ = aResL P σ l fun xs => ∃ k, xs = [.sl k R.e 0 R.l.length] ∧ σ.H k = some ⟨R.t, R.e, R.l⟩ ∧ allPure R.l := rfl
/-- What stands behind is proved once, from a state written out. -/
theorem AWp.cut {P : Program} {c : Code} {Q E : Exit → St → Prop} {σ : St} (h : AWp P c (fun e σ => ∃ τ, Wk σ τ ∧ E e τ) σ) (hq : ∀ e τ, E e τ → Q e τ) : AWp P c Q σ := fun B A W st a w ρ hs =>
  wpIn_mono (h B A W st a w ρ hs) fun e a' w' ⟨σ', ρ', ⟨τ, h1, h2⟩, h3⟩ => let ⟨ρ'', h4⟩ := h1 B A W a' w' ρ' h3; ⟨τ, ρ'', hq _ _ h2, h4⟩
end Go.Proofs.YtfbogelmgdojgaaGreat
