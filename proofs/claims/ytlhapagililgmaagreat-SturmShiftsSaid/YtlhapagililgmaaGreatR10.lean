/- Texts Ty in one. -/
import Derived.Test.YtlhapagililgmaaGreatR09
import Derived.Test.YtlhapagililgmaaGreatRows
import Derived.KernelRfl
/- Facts on the types of the program, printed by a program of mine. -/
namespace Go.Proofs.YtlhapagililgmaaGreat
@[go_sem] theorem tyS1 : tySize Tryz.prog 1 = some 1 := by kernel_rfl
@[go_sem] theorem tyB1 : tyBytes Tryz.prog 1 = some 8 := by kernel_rfl
@[go_sem] theorem tyG1 : tyAgg Tryz.prog 1 = some false := by kernel_rfl
@[go_sem] theorem tyZ1 : tyZero Tryz.prog 1 = some (.raw (.nilFunc)) := by kernel_rfl
@[go_sem] theorem tyE1 : tyElem Tryz.prog 1 = none := by kernel_rfl
@[go_sem] theorem tyS2 : tySize Tryz.prog 2 = some 1 := by kernel_rfl
@[go_sem] theorem tyB2 : tyBytes Tryz.prog 2 = some 8 := by kernel_rfl
@[go_sem] theorem tyG2 : tyAgg Tryz.prog 2 = some false := by kernel_rfl
@[go_sem] theorem tyZ2 : tyZero Tryz.prog 2 = some (.raw (.int .i64 0)) := by kernel_rfl
@[go_sem] theorem tyE2 : tyElem Tryz.prog 2 = none := by kernel_rfl
@[go_sem] theorem tyU2 : Tryz.prog.underlying 2 = some (.int .i64) := by kernel_rfl
@[go_sem] theorem tyS3 : tySize Tryz.prog 3 = some 1 := by kernel_rfl
@[go_sem] theorem tyB3 : tyBytes Tryz.prog 3 = some 8 := by kernel_rfl
@[go_sem] theorem tyG3 : tyAgg Tryz.prog 3 = some false := by kernel_rfl
@[go_sem] theorem tyZ3 : tyZero Tryz.prog 3 = some (.raw (.int .i64 0)) := by kernel_rfl
@[go_sem] theorem tyE3 : tyElem Tryz.prog 3 = none := by kernel_rfl
@[go_sem] theorem tyU3 : Tryz.prog.underlying 3 = some (.int .i64) := by kernel_rfl
@[go_sem] theorem tyS4 : tySize Tryz.prog 4 = some 1 := by kernel_rfl
@[go_sem] theorem tyB4 : tyBytes Tryz.prog 4 = some 1 := by kernel_rfl
@[go_sem] theorem tyG4 : tyAgg Tryz.prog 4 = some false := by kernel_rfl
@[go_sem] theorem tyZ4 : tyZero Tryz.prog 4 = some (.raw (.bool false)) := by kernel_rfl
@[go_sem] theorem tyE4 : tyElem Tryz.prog 4 = none := by kernel_rfl
@[go_sem] theorem tyU4 : Tryz.prog.underlying 4 = some .bool := by kernel_rfl
@[go_sem] theorem tyS5 : tySize Tryz.prog 5 = some 1 := by kernel_rfl
@[go_sem] theorem tyB5 : tyBytes Tryz.prog 5 = some 1 := by kernel_rfl
@[go_sem] theorem tyG5 : tyAgg Tryz.prog 5 = some false := by kernel_rfl
@[go_sem] theorem tyZ5 : tyZero Tryz.prog 5 = some (.raw (.int .u8 0)) := by kernel_rfl
@[go_sem] theorem tyE5 : tyElem Tryz.prog 5 = none := by kernel_rfl
@[go_sem] theorem tyU5 : Tryz.prog.underlying 5 = some (.int .u8) := by kernel_rfl
@[go_sem] theorem tyS6 : tySize Tryz.prog 6 = some 1 := by kernel_rfl
@[go_sem] theorem tyB6 : tyBytes Tryz.prog 6 = some 1 := by kernel_rfl
@[go_sem] theorem tyG6 : tyAgg Tryz.prog 6 = some false := by kernel_rfl
@[go_sem] theorem tyZ6 : tyZero Tryz.prog 6 = some (.raw (.int .u8 0)) := by kernel_rfl
@[go_sem] theorem tyE6 : tyElem Tryz.prog 6 = none := by kernel_rfl
@[go_sem] theorem tyU6 : Tryz.prog.underlying 6 = some (.int .u8) := by kernel_rfl
@[go_sem] theorem tyS7 : tySize Tryz.prog 7 = some 4 := by kernel_rfl
@[go_sem] theorem tyB7 : tyBytes Tryz.prog 7 = some 24 := by kernel_rfl
@[go_sem] theorem tyG7 : tyAgg Tryz.prog 7 = some true := by kernel_rfl
@[go_sem] theorem tyZ7 : tyZero Tryz.prog 7 = some (.agg [.raw (.int .i64 0), .raw (.int .i64 0), .raw (.bool false), .raw (.int .u8 0)]) := by kernel_rfl
@[go_sem] theorem tyE7 : tyElem Tryz.prog 7 = none := by kernel_rfl
@[go_sem] theorem tyF7_0 : tyField Tryz.prog 7 0 = some (0, 1, false) := by kernel_rfl
@[go_sem] theorem tyP7_0 : tyPlace Tryz.prog 7 0 = some (0, 1) := by kernel_rfl
@[go_sem] theorem tyF7_1 : tyField Tryz.prog 7 1 = some (1, 1, false) := by kernel_rfl
@[go_sem] theorem tyP7_1 : tyPlace Tryz.prog 7 1 = some (1, 1) := by kernel_rfl
@[go_sem] theorem tyF7_2 : tyField Tryz.prog 7 2 = some (2, 1, false) := by kernel_rfl
@[go_sem] theorem tyP7_2 : tyPlace Tryz.prog 7 2 = some (2, 1) := by kernel_rfl
@[go_sem] theorem tyF7_3 : tyField Tryz.prog 7 3 = some (3, 1, false) := by kernel_rfl
@[go_sem] theorem tyP7_3 : tyPlace Tryz.prog 7 3 = some (3, 1) := by kernel_rfl
@[go_sem] theorem tyK7 : tyKids Tryz.prog 7 = some (.agg [.raw (.int .i64 0), .raw (.int .i64 0), .raw (.bool false), .raw (.int .u8 0)]) := by kernel_rfl
@[go_sem] theorem tyS8 : tySize Tryz.prog 8 = some 4 := by kernel_rfl
@[go_sem] theorem tyB8 : tyBytes Tryz.prog 8 = some 24 := by kernel_rfl
@[go_sem] theorem tyG8 : tyAgg Tryz.prog 8 = some true := by kernel_rfl
@[go_sem] theorem tyZ8 : tyZero Tryz.prog 8 = some (.agg [.raw (.int .i64 0), .raw (.int .i64 0), .raw (.bool false), .raw (.int .u8 0)]) := by kernel_rfl
@[go_sem] theorem tyE8 : tyElem Tryz.prog 8 = none := by kernel_rfl
@[go_sem] theorem tyF8_0 : tyField Tryz.prog 8 0 = some (0, 1, false) := by kernel_rfl
@[go_sem] theorem tyP8_0 : tyPlace Tryz.prog 8 0 = some (0, 1) := by kernel_rfl
@[go_sem] theorem tyF8_1 : tyField Tryz.prog 8 1 = some (1, 1, false) := by kernel_rfl
@[go_sem] theorem tyP8_1 : tyPlace Tryz.prog 8 1 = some (1, 1) := by kernel_rfl
@[go_sem] theorem tyF8_2 : tyField Tryz.prog 8 2 = some (2, 1, false) := by kernel_rfl
@[go_sem] theorem tyP8_2 : tyPlace Tryz.prog 8 2 = some (2, 1) := by kernel_rfl
@[go_sem] theorem tyF8_3 : tyField Tryz.prog 8 3 = some (3, 1, false) := by kernel_rfl
@[go_sem] theorem tyP8_3 : tyPlace Tryz.prog 8 3 = some (3, 1) := by kernel_rfl
@[go_sem] theorem tyK8 : tyKids Tryz.prog 8 = some (.agg [.raw (.int .i64 0), .raw (.int .i64 0), .raw (.bool false), .raw (.int .u8 0)]) := by kernel_rfl
@[go_sem] theorem tyS9 : tySize Tryz.prog 9 = some 1 := by kernel_rfl
@[go_sem] theorem tyB9 : tyBytes Tryz.prog 9 = some 16 := by kernel_rfl
@[go_sem] theorem tyG9 : tyAgg Tryz.prog 9 = some false := by kernel_rfl
@[go_sem] theorem tyZ9 : tyZero Tryz.prog 9 = some (.raw (.string ⟨#[]⟩)) := by kernel_rfl
@[go_sem] theorem tyE9 : tyElem Tryz.prog 9 = none := by kernel_rfl
@[go_sem] theorem tyU9 : Tryz.prog.underlying 9 = some .string := by kernel_rfl
@[go_sem] theorem tyS10 : tySize Tryz.prog 10 = some 1 := by kernel_rfl
@[go_sem] theorem tyB10 : tyBytes Tryz.prog 10 = some 16 := by kernel_rfl
@[go_sem] theorem tyG10 : tyAgg Tryz.prog 10 = some false := by kernel_rfl
@[go_sem] theorem tyZ10 : tyZero Tryz.prog 10 = some (.raw (.string ⟨#[]⟩)) := by kernel_rfl
@[go_sem] theorem tyE10 : tyElem Tryz.prog 10 = none := by kernel_rfl
@[go_sem] theorem tyU10 : Tryz.prog.underlying 10 = some .string := by kernel_rfl
@[go_sem] theorem tyS11 : tySize Tryz.prog 11 = some 1 := by kernel_rfl
@[go_sem] theorem tyB11 : tyBytes Tryz.prog 11 = some 16 := by kernel_rfl
@[go_sem] theorem tyG11 : tyAgg Tryz.prog 11 = some false := by kernel_rfl
@[go_sem] theorem tyZ11 : tyZero Tryz.prog 11 = some (.raw (.string ⟨#[]⟩)) := by kernel_rfl
@[go_sem] theorem tyE11 : tyElem Tryz.prog 11 = none := by kernel_rfl
@[go_sem] theorem tyU11 : Tryz.prog.underlying 11 = some .string := by kernel_rfl
@[go_sem] theorem tyS12 : tySize Tryz.prog 12 = some 1 := by kernel_rfl
@[go_sem] theorem tyB12 : tyBytes Tryz.prog 12 = some 8 := by kernel_rfl
@[go_sem] theorem tyG12 : tyAgg Tryz.prog 12 = some false := by kernel_rfl
@[go_sem] theorem tyZ12 : tyZero Tryz.prog 12 = some (.raw (.int .u64 0)) := by kernel_rfl
@[go_sem] theorem tyE12 : tyElem Tryz.prog 12 = none := by kernel_rfl
@[go_sem] theorem tyU12 : Tryz.prog.underlying 12 = some (.int .u64) := by kernel_rfl
@[go_sem] theorem tyS13 : tySize Tryz.prog 13 = some 2 := by kernel_rfl
@[go_sem] theorem tyB13 : tyBytes Tryz.prog 13 = some 24 := by kernel_rfl
@[go_sem] theorem tyG13 : tyAgg Tryz.prog 13 = some true := by kernel_rfl
@[go_sem] theorem tyZ13 : tyZero Tryz.prog 13 = some (.agg [.raw (.string ⟨#[]⟩), .raw (.int .u64 0)]) := by kernel_rfl
@[go_sem] theorem tyE13 : tyElem Tryz.prog 13 = none := by kernel_rfl
@[go_sem] theorem tyF13_0 : tyField Tryz.prog 13 0 = some (0, 1, false) := by kernel_rfl
@[go_sem] theorem tyP13_0 : tyPlace Tryz.prog 13 0 = some (0, 1) := by kernel_rfl
@[go_sem] theorem tyF13_1 : tyField Tryz.prog 13 1 = some (1, 1, false) := by kernel_rfl
@[go_sem] theorem tyP13_1 : tyPlace Tryz.prog 13 1 = some (1, 1) := by kernel_rfl
@[go_sem] theorem tyK13 : tyKids Tryz.prog 13 = some (.agg [.raw (.string ⟨#[]⟩), .raw (.int .u64 0)]) := by kernel_rfl
@[go_sem] theorem tyS14 : tySize Tryz.prog 14 = some 2 := by kernel_rfl
@[go_sem] theorem tyB14 : tyBytes Tryz.prog 14 = some 24 := by kernel_rfl
@[go_sem] theorem tyG14 : tyAgg Tryz.prog 14 = some true := by kernel_rfl
@[go_sem] theorem tyZ14 : tyZero Tryz.prog 14 = some (.agg [.raw (.string ⟨#[]⟩), .raw (.int .u64 0)]) := by kernel_rfl
@[go_sem] theorem tyE14 : tyElem Tryz.prog 14 = none := by kernel_rfl
@[go_sem] theorem tyF14_0 : tyField Tryz.prog 14 0 = some (0, 1, false) := by kernel_rfl
@[go_sem] theorem tyP14_0 : tyPlace Tryz.prog 14 0 = some (0, 1) := by kernel_rfl
@[go_sem] theorem tyF14_1 : tyField Tryz.prog 14 1 = some (1, 1, false) := by kernel_rfl
@[go_sem] theorem tyP14_1 : tyPlace Tryz.prog 14 1 = some (1, 1) := by kernel_rfl
@[go_sem] theorem tyK14 : tyKids Tryz.prog 14 = some (.agg [.raw (.string ⟨#[]⟩), .raw (.int .u64 0)]) := by kernel_rfl
@[go_sem] theorem tyS15 : tySize Tryz.prog 15 = some 1 := by kernel_rfl
@[go_sem] theorem tyB15 : tyBytes Tryz.prog 15 = some 8 := by kernel_rfl
@[go_sem] theorem tyG15 : tyAgg Tryz.prog 15 = some false := by kernel_rfl
@[go_sem] theorem tyZ15 : tyZero Tryz.prog 15 = some (.raw (.pointer none)) := by kernel_rfl
@[go_sem] theorem tyE15 : tyElem Tryz.prog 15 = none := by kernel_rfl
@[go_sem] theorem tyS16 : tySize Tryz.prog 16 = some 1 := by kernel_rfl
@[go_sem] theorem tyB16 : tyBytes Tryz.prog 16 = some 8 := by kernel_rfl
@[go_sem] theorem tyG16 : tyAgg Tryz.prog 16 = some false := by kernel_rfl
@[go_sem] theorem tyZ16 : tyZero Tryz.prog 16 = some (.raw (.pointer none)) := by kernel_rfl
@[go_sem] theorem tyE16 : tyElem Tryz.prog 16 = none := by kernel_rfl
@[go_sem] theorem tyS17 : tySize Tryz.prog 17 = some 1 := by kernel_rfl
@[go_sem] theorem tyB17 : tyBytes Tryz.prog 17 = some 8 := by kernel_rfl
@[go_sem] theorem tyG17 : tyAgg Tryz.prog 17 = some false := by kernel_rfl
@[go_sem] theorem tyZ17 : tyZero Tryz.prog 17 = some (.raw (.pointer none)) := by kernel_rfl
@[go_sem] theorem tyE17 : tyElem Tryz.prog 17 = none := by kernel_rfl
@[go_sem] theorem tyS18 : tySize Tryz.prog 18 = some 1 := by kernel_rfl
@[go_sem] theorem tyB18 : tyBytes Tryz.prog 18 = some 8 := by kernel_rfl
@[go_sem] theorem tyG18 : tyAgg Tryz.prog 18 = some true := by kernel_rfl
@[go_sem] theorem tyZ18 : tyZero Tryz.prog 18 = some (.agg [.raw (.pointer none)]) := by kernel_rfl
@[go_sem] theorem tyE18 : tyElem Tryz.prog 18 = none := by kernel_rfl
@[go_sem] theorem tyF18_0 : tyField Tryz.prog 18 0 = some (0, 1, false) := by kernel_rfl
@[go_sem] theorem tyP18_0 : tyPlace Tryz.prog 18 0 = some (0, 1) := by kernel_rfl
@[go_sem] theorem tyK18 : tyKids Tryz.prog 18 = some (.agg [.raw (.pointer none)]) := by kernel_rfl
@[go_sem] theorem tyS19 : tySize Tryz.prog 19 = some 1 := by kernel_rfl
@[go_sem] theorem tyB19 : tyBytes Tryz.prog 19 = some 8 := by kernel_rfl
@[go_sem] theorem tyG19 : tyAgg Tryz.prog 19 = some true := by kernel_rfl
@[go_sem] theorem tyZ19 : tyZero Tryz.prog 19 = some (.agg [.raw (.pointer none)]) := by kernel_rfl
@[go_sem] theorem tyE19 : tyElem Tryz.prog 19 = none := by kernel_rfl
@[go_sem] theorem tyF19_0 : tyField Tryz.prog 19 0 = some (0, 1, false) := by kernel_rfl
@[go_sem] theorem tyP19_0 : tyPlace Tryz.prog 19 0 = some (0, 1) := by kernel_rfl
@[go_sem] theorem tyK19 : tyKids Tryz.prog 19 = some (.agg [.raw (.pointer none)]) := by kernel_rfl
@[go_sem] theorem tyS21 : tySize Tryz.prog 21 = some 1 := by kernel_rfl
@[go_sem] theorem tyB21 : tyBytes Tryz.prog 21 = some 4 := by kernel_rfl
@[go_sem] theorem tyG21 : tyAgg Tryz.prog 21 = some false := by kernel_rfl
@[go_sem] theorem tyZ21 : tyZero Tryz.prog 21 = some (.raw (.int .i32 0)) := by kernel_rfl
@[go_sem] theorem tyE21 : tyElem Tryz.prog 21 = none := by kernel_rfl
@[go_sem] theorem tyU21 : Tryz.prog.underlying 21 = some (.int .i32) := by kernel_rfl
@[go_sem] theorem tyS22 : tySize Tryz.prog 22 = some 1 := by kernel_rfl
@[go_sem] theorem tyB22 : tyBytes Tryz.prog 22 = some 24 := by kernel_rfl
@[go_sem] theorem tyG22 : tyAgg Tryz.prog 22 = some false := by kernel_rfl
@[go_sem] theorem tyZ22 : tyZero Tryz.prog 22 = some (.raw (.slice none 0 0)) := by kernel_rfl
@[go_sem] theorem tyE22 : tyElem Tryz.prog 22 = some (38, 1) := by kernel_rfl
@[go_sem] theorem tyU22 : Tryz.prog.underlying 22 = some (.slice 38) := by kernel_rfl
@[go_sem] theorem tyS23 : tySize Tryz.prog 23 = some 1 := by kernel_rfl
@[go_sem] theorem tyB23 : tyBytes Tryz.prog 23 = some 24 := by kernel_rfl
@[go_sem] theorem tyG23 : tyAgg Tryz.prog 23 = some false := by kernel_rfl
@[go_sem] theorem tyZ23 : tyZero Tryz.prog 23 = some (.raw (.slice none 0 0)) := by kernel_rfl
@[go_sem] theorem tyE23 : tyElem Tryz.prog 23 = some (5, 1) := by kernel_rfl
@[go_sem] theorem tyU23 : Tryz.prog.underlying 23 = some (.slice 5) := by kernel_rfl
@[go_sem] theorem tyS24 : tySize Tryz.prog 24 = some 2 := by kernel_rfl
@[go_sem] theorem tyB24 : tyBytes Tryz.prog 24 = some 48 := by kernel_rfl
@[go_sem] theorem tyG24 : tyAgg Tryz.prog 24 = some true := by kernel_rfl
@[go_sem] theorem tyZ24 : tyZero Tryz.prog 24 = some (.agg [.raw (.slice none 0 0), .raw (.slice none 0 0)]) := by kernel_rfl
@[go_sem] theorem tyE24 : tyElem Tryz.prog 24 = none := by kernel_rfl
@[go_sem] theorem tyF24_0 : tyField Tryz.prog 24 0 = some (0, 1, false) := by kernel_rfl
@[go_sem] theorem tyP24_0 : tyPlace Tryz.prog 24 0 = some (0, 1) := by kernel_rfl
@[go_sem] theorem tyF24_1 : tyField Tryz.prog 24 1 = some (1, 1, false) := by kernel_rfl
@[go_sem] theorem tyP24_1 : tyPlace Tryz.prog 24 1 = some (1, 1) := by kernel_rfl
@[go_sem] theorem tyK24 : tyKids Tryz.prog 24 = some (.agg [.raw (.slice none 0 0), .raw (.slice none 0 0)]) := by kernel_rfl
@[go_sem] theorem tyS25 : tySize Tryz.prog 25 = some 2 := by kernel_rfl
@[go_sem] theorem tyB25 : tyBytes Tryz.prog 25 = some 48 := by kernel_rfl
@[go_sem] theorem tyG25 : tyAgg Tryz.prog 25 = some true := by kernel_rfl
@[go_sem] theorem tyZ25 : tyZero Tryz.prog 25 = some (.agg [.raw (.slice none 0 0), .raw (.slice none 0 0)]) := by kernel_rfl
@[go_sem] theorem tyE25 : tyElem Tryz.prog 25 = none := by kernel_rfl
@[go_sem] theorem tyF25_0 : tyField Tryz.prog 25 0 = some (0, 1, false) := by kernel_rfl
@[go_sem] theorem tyP25_0 : tyPlace Tryz.prog 25 0 = some (0, 1) := by kernel_rfl
@[go_sem] theorem tyF25_1 : tyField Tryz.prog 25 1 = some (1, 1, false) := by kernel_rfl
@[go_sem] theorem tyP25_1 : tyPlace Tryz.prog 25 1 = some (1, 1) := by kernel_rfl
@[go_sem] theorem tyK25 : tyKids Tryz.prog 25 = some (.agg [.raw (.slice none 0 0), .raw (.slice none 0 0)]) := by kernel_rfl
@[go_sem] theorem tyS26 : tySize Tryz.prog 26 = some 1 := by kernel_rfl
@[go_sem] theorem tyB26 : tyBytes Tryz.prog 26 = some 8 := by kernel_rfl
@[go_sem] theorem tyG26 : tyAgg Tryz.prog 26 = some false := by kernel_rfl
@[go_sem] theorem tyZ26 : tyZero Tryz.prog 26 = some (.raw (.nilFunc)) := by kernel_rfl
@[go_sem] theorem tyE26 : tyElem Tryz.prog 26 = none := by kernel_rfl
@[go_sem] theorem tyS27 : tySize Tryz.prog 27 = some 1 := by kernel_rfl
@[go_sem] theorem tyB27 : tyBytes Tryz.prog 27 = some 24 := by kernel_rfl
@[go_sem] theorem tyG27 : tyAgg Tryz.prog 27 = some false := by kernel_rfl
@[go_sem] theorem tyZ27 : tyZero Tryz.prog 27 = some (.raw (.slice none 0 0)) := by kernel_rfl
@[go_sem] theorem tyE27 : tyElem Tryz.prog 27 = some (46, 4) := by kernel_rfl
@[go_sem] theorem tyU27 : Tryz.prog.underlying 27 = some (.slice 46) := by kernel_rfl
@[go_sem] theorem tyS28 : tySize Tryz.prog 28 = some 1 := by kernel_rfl
@[go_sem] theorem tyB28 : tyBytes Tryz.prog 28 = some 24 := by kernel_rfl
@[go_sem] theorem tyG28 : tyAgg Tryz.prog 28 = some false := by kernel_rfl
@[go_sem] theorem tyZ28 : tyZero Tryz.prog 28 = some (.raw (.slice none 0 0)) := by kernel_rfl
@[go_sem] theorem tyE28 : tyElem Tryz.prog 28 = some (46, 4) := by kernel_rfl
@[go_sem] theorem tyU28 : Tryz.prog.underlying 28 = some (.slice 46) := by kernel_rfl
@[go_sem] theorem tyS29 : tySize Tryz.prog 29 = some 1 := by kernel_rfl
@[go_sem] theorem tyB29 : tyBytes Tryz.prog 29 = some 8 := by kernel_rfl
@[go_sem] theorem tyG29 : tyAgg Tryz.prog 29 = some false := by kernel_rfl
@[go_sem] theorem tyZ29 : tyZero Tryz.prog 29 = some (.raw (.nilFunc)) := by kernel_rfl
@[go_sem] theorem tyE29 : tyElem Tryz.prog 29 = none := by kernel_rfl
@[go_sem] theorem tyS30 : tySize Tryz.prog 30 = some 1 := by kernel_rfl
@[go_sem] theorem tyB30 : tyBytes Tryz.prog 30 = some 24 := by kernel_rfl
@[go_sem] theorem tyG30 : tyAgg Tryz.prog 30 = some false := by kernel_rfl
@[go_sem] theorem tyZ30 : tyZero Tryz.prog 30 = some (.raw (.slice none 0 0)) := by kernel_rfl
@[go_sem] theorem tyE30 : tyElem Tryz.prog 30 = some (28, 1) := by kernel_rfl
@[go_sem] theorem tyU30 : Tryz.prog.underlying 30 = some (.slice 28) := by kernel_rfl
@[go_sem] theorem tyS31 : tySize Tryz.prog 31 = some 1 := by kernel_rfl
@[go_sem] theorem tyB31 : tyBytes Tryz.prog 31 = some 8 := by kernel_rfl
@[go_sem] theorem tyG31 : tyAgg Tryz.prog 31 = some false := by kernel_rfl
@[go_sem] theorem tyZ31 : tyZero Tryz.prog 31 = some (.raw (.nilFunc)) := by kernel_rfl
@[go_sem] theorem tyE31 : tyElem Tryz.prog 31 = none := by kernel_rfl
@[go_sem] theorem tyS32 : tySize Tryz.prog 32 = some 1 := by kernel_rfl
@[go_sem] theorem tyB32 : tyBytes Tryz.prog 32 = some 8 := by kernel_rfl
@[go_sem] theorem tyG32 : tyAgg Tryz.prog 32 = some false := by kernel_rfl
@[go_sem] theorem tyZ32 : tyZero Tryz.prog 32 = some (.raw (.nilFunc)) := by kernel_rfl
@[go_sem] theorem tyE32 : tyElem Tryz.prog 32 = none := by kernel_rfl
@[go_sem] theorem tyS33 : tySize Tryz.prog 33 = some 1 := by kernel_rfl
@[go_sem] theorem tyB33 : tyBytes Tryz.prog 33 = some 8 := by kernel_rfl
@[go_sem] theorem tyG33 : tyAgg Tryz.prog 33 = some false := by kernel_rfl
@[go_sem] theorem tyZ33 : tyZero Tryz.prog 33 = some (.raw (.int .i64 0)) := by kernel_rfl
@[go_sem] theorem tyE33 : tyElem Tryz.prog 33 = none := by kernel_rfl
@[go_sem] theorem tyU33 : Tryz.prog.underlying 33 = some (.int .i64) := by kernel_rfl
@[go_sem] theorem tyS35 : tySize Tryz.prog 35 = some 1 := by kernel_rfl
@[go_sem] theorem tyB35 : tyBytes Tryz.prog 35 = some 8 := by kernel_rfl
@[go_sem] theorem tyG35 : tyAgg Tryz.prog 35 = some false := by kernel_rfl
@[go_sem] theorem tyZ35 : tyZero Tryz.prog 35 = some (.raw (.nilFunc)) := by kernel_rfl
@[go_sem] theorem tyE35 : tyElem Tryz.prog 35 = none := by kernel_rfl
@[go_sem] theorem tyS36 : tySize Tryz.prog 36 = some 1 := by kernel_rfl
@[go_sem] theorem tyB36 : tyBytes Tryz.prog 36 = some 8 := by kernel_rfl
@[go_sem] theorem tyG36 : tyAgg Tryz.prog 36 = some false := by kernel_rfl
@[go_sem] theorem tyZ36 : tyZero Tryz.prog 36 = some (.raw (.nilFunc)) := by kernel_rfl
@[go_sem] theorem tyE36 : tyElem Tryz.prog 36 = none := by kernel_rfl
@[go_sem] theorem tyS37 : tySize Tryz.prog 37 = some 1 := by kernel_rfl
@[go_sem] theorem tyB37 : tyBytes Tryz.prog 37 = some 8 := by kernel_rfl
@[go_sem] theorem tyG37 : tyAgg Tryz.prog 37 = some false := by kernel_rfl
@[go_sem] theorem tyZ37 : tyZero Tryz.prog 37 = some (.raw (.nilFunc)) := by kernel_rfl
@[go_sem] theorem tyE37 : tyElem Tryz.prog 37 = none := by kernel_rfl
@[go_sem] theorem tyS38 : tySize Tryz.prog 38 = some 1 := by kernel_rfl
@[go_sem] theorem tyB38 : tyBytes Tryz.prog 38 = some 1 := by kernel_rfl
@[go_sem] theorem tyG38 : tyAgg Tryz.prog 38 = some false := by kernel_rfl
@[go_sem] theorem tyZ38 : tyZero Tryz.prog 38 = some (.raw (.int .i8 0)) := by kernel_rfl
@[go_sem] theorem tyE38 : tyElem Tryz.prog 38 = none := by kernel_rfl
@[go_sem] theorem tyU38 : Tryz.prog.underlying 38 = some (.int .i8) := by kernel_rfl
@[go_sem] theorem tyS39 : tySize Tryz.prog 39 = some 2 := by kernel_rfl
@[go_sem] theorem tyB39 : tyBytes Tryz.prog 39 = some 2 := by kernel_rfl
@[go_sem] theorem tyG39 : tyAgg Tryz.prog 39 = some true := by kernel_rfl
@[go_sem] theorem tyZ39 : tyZero Tryz.prog 39 = some (.agg [.raw (.int .i8 0), .raw (.int .i8 0)]) := by kernel_rfl
@[go_sem] theorem tyE39 : tyElem Tryz.prog 39 = none := by kernel_rfl
@[go_sem] theorem tyA39 : tyArr Tryz.prog 39 = some (2, 38, 1) := by kernel_rfl
@[go_sem] theorem tyK39 : tyKids Tryz.prog 39 = some (.agg [.raw (.int .i8 0), .raw (.int .i8 0)]) := by kernel_rfl
@[go_sem] theorem tyP39_0 : tyPlace Tryz.prog 39 0 = some (0, 1) := by kernel_rfl
@[go_sem] theorem tyP39_1 : tyPlace Tryz.prog 39 1 = some (1, 1) := by kernel_rfl
@[go_sem] theorem tyU39 : Tryz.prog.underlying 39 = some (.array 2 38) := by kernel_rfl
@[go_sem] theorem tyS40 : tySize Tryz.prog 40 = some 4 := by kernel_rfl
@[go_sem] theorem tyB40 : tyBytes Tryz.prog 40 = some 4 := by kernel_rfl
@[go_sem] theorem tyG40 : tyAgg Tryz.prog 40 = some true := by kernel_rfl
@[go_sem] theorem tyZ40 : tyZero Tryz.prog 40 = some (.agg [.raw (.int .i8 0), .raw (.int .i8 0), .raw (.int .i8 0), .raw (.int .i8 0)]) := by kernel_rfl
@[go_sem] theorem tyE40 : tyElem Tryz.prog 40 = none := by kernel_rfl
@[go_sem] theorem tyF40_0 : tyField Tryz.prog 40 0 = some (0, 2, true) := by kernel_rfl
@[go_sem] theorem tyP40_0 : tyPlace Tryz.prog 40 0 = some (0, 2) := by kernel_rfl
@[go_sem] theorem tyF40_1 : tyField Tryz.prog 40 1 = some (2, 2, true) := by kernel_rfl
@[go_sem] theorem tyP40_1 : tyPlace Tryz.prog 40 1 = some (2, 2) := by kernel_rfl
@[go_sem] theorem tyK40 : tyKids Tryz.prog 40 = some (.agg [.agg [.raw (.int .i8 0), .raw (.int .i8 0)], .agg [.raw (.int .i8 0), .raw (.int .i8 0)]]) := by kernel_rfl
@[go_sem] theorem tyS41 : tySize Tryz.prog 41 = some 4 := by kernel_rfl
@[go_sem] theorem tyB41 : tyBytes Tryz.prog 41 = some 4 := by kernel_rfl
@[go_sem] theorem tyG41 : tyAgg Tryz.prog 41 = some true := by kernel_rfl
@[go_sem] theorem tyZ41 : tyZero Tryz.prog 41 = some (.agg [.raw (.int .i8 0), .raw (.int .i8 0), .raw (.int .i8 0), .raw (.int .i8 0)]) := by kernel_rfl
@[go_sem] theorem tyE41 : tyElem Tryz.prog 41 = none := by kernel_rfl
@[go_sem] theorem tyF41_0 : tyField Tryz.prog 41 0 = some (0, 2, true) := by kernel_rfl
@[go_sem] theorem tyP41_0 : tyPlace Tryz.prog 41 0 = some (0, 2) := by kernel_rfl
@[go_sem] theorem tyF41_1 : tyField Tryz.prog 41 1 = some (2, 2, true) := by kernel_rfl
@[go_sem] theorem tyP41_1 : tyPlace Tryz.prog 41 1 = some (2, 2) := by kernel_rfl
@[go_sem] theorem tyK41 : tyKids Tryz.prog 41 = some (.agg [.agg [.raw (.int .i8 0), .raw (.int .i8 0)], .agg [.raw (.int .i8 0), .raw (.int .i8 0)]]) := by kernel_rfl
@[go_sem] theorem tyS42 : tySize Tryz.prog 42 = some 1 := by kernel_rfl
@[go_sem] theorem tyB42 : tyBytes Tryz.prog 42 = some 24 := by kernel_rfl
@[go_sem] theorem tyG42 : tyAgg Tryz.prog 42 = some false := by kernel_rfl
@[go_sem] theorem tyZ42 : tyZero Tryz.prog 42 = some (.raw (.slice none 0 0)) := by kernel_rfl
@[go_sem] theorem tyE42 : tyElem Tryz.prog 42 = some (104, 1) := by kernel_rfl
@[go_sem] theorem tyU42 : Tryz.prog.underlying 42 = some (.slice 104) := by kernel_rfl
@[go_sem] theorem tyS43 : tySize Tryz.prog 43 = some 2 := by kernel_rfl
@[go_sem] theorem tyB43 : tyBytes Tryz.prog 43 = some 32 := by kernel_rfl
@[go_sem] theorem tyG43 : tyAgg Tryz.prog 43 = some true := by kernel_rfl
@[go_sem] theorem tyZ43 : tyZero Tryz.prog 43 = some (.agg [.raw (.bool false), .raw (.slice none 0 0)]) := by kernel_rfl
@[go_sem] theorem tyE43 : tyElem Tryz.prog 43 = none := by kernel_rfl
@[go_sem] theorem tyF43_0 : tyField Tryz.prog 43 0 = some (0, 1, false) := by kernel_rfl
@[go_sem] theorem tyP43_0 : tyPlace Tryz.prog 43 0 = some (0, 1) := by kernel_rfl
@[go_sem] theorem tyF43_1 : tyField Tryz.prog 43 1 = some (1, 1, false) := by kernel_rfl
@[go_sem] theorem tyP43_1 : tyPlace Tryz.prog 43 1 = some (1, 1) := by kernel_rfl
@[go_sem] theorem tyK43 : tyKids Tryz.prog 43 = some (.agg [.raw (.bool false), .raw (.slice none 0 0)]) := by kernel_rfl
@[go_sem] theorem tyS44 : tySize Tryz.prog 44 = some 2 := by kernel_rfl
@[go_sem] theorem tyB44 : tyBytes Tryz.prog 44 = some 32 := by kernel_rfl
@[go_sem] theorem tyG44 : tyAgg Tryz.prog 44 = some true := by kernel_rfl
@[go_sem] theorem tyZ44 : tyZero Tryz.prog 44 = some (.agg [.raw (.bool false), .raw (.slice none 0 0)]) := by kernel_rfl
@[go_sem] theorem tyE44 : tyElem Tryz.prog 44 = none := by kernel_rfl
@[go_sem] theorem tyF44_0 : tyField Tryz.prog 44 0 = some (0, 1, false) := by kernel_rfl
@[go_sem] theorem tyP44_0 : tyPlace Tryz.prog 44 0 = some (0, 1) := by kernel_rfl
@[go_sem] theorem tyF44_1 : tyField Tryz.prog 44 1 = some (1, 1, false) := by kernel_rfl
@[go_sem] theorem tyP44_1 : tyPlace Tryz.prog 44 1 = some (1, 1) := by kernel_rfl
@[go_sem] theorem tyK44 : tyKids Tryz.prog 44 = some (.agg [.raw (.bool false), .raw (.slice none 0 0)]) := by kernel_rfl
@[go_sem] theorem tyS45 : tySize Tryz.prog 45 = some 4 := by kernel_rfl
@[go_sem] theorem tyB45 : tyBytes Tryz.prog 45 = some 64 := by kernel_rfl
@[go_sem] theorem tyG45 : tyAgg Tryz.prog 45 = some true := by kernel_rfl
@[go_sem] theorem tyZ45 : tyZero Tryz.prog 45 = some (.agg [.raw (.bool false), .raw (.slice none 0 0), .raw (.bool false), .raw (.slice none 0 0)]) := by kernel_rfl
@[go_sem] theorem tyE45 : tyElem Tryz.prog 45 = none := by kernel_rfl
@[go_sem] theorem tyF45_0 : tyField Tryz.prog 45 0 = some (0, 2, true) := by kernel_rfl
@[go_sem] theorem tyP45_0 : tyPlace Tryz.prog 45 0 = some (0, 2) := by kernel_rfl
@[go_sem] theorem tyF45_1 : tyField Tryz.prog 45 1 = some (2, 2, true) := by kernel_rfl
@[go_sem] theorem tyP45_1 : tyPlace Tryz.prog 45 1 = some (2, 2) := by kernel_rfl
@[go_sem] theorem tyK45 : tyKids Tryz.prog 45 = some (.agg [.agg [.raw (.bool false), .raw (.slice none 0 0)], .agg [.raw (.bool false), .raw (.slice none 0 0)]]) := by kernel_rfl
@[go_sem] theorem tyS46 : tySize Tryz.prog 46 = some 4 := by kernel_rfl
@[go_sem] theorem tyB46 : tyBytes Tryz.prog 46 = some 64 := by kernel_rfl
@[go_sem] theorem tyG46 : tyAgg Tryz.prog 46 = some true := by kernel_rfl
@[go_sem] theorem tyZ46 : tyZero Tryz.prog 46 = some (.agg [.raw (.bool false), .raw (.slice none 0 0), .raw (.bool false), .raw (.slice none 0 0)]) := by kernel_rfl
@[go_sem] theorem tyE46 : tyElem Tryz.prog 46 = none := by kernel_rfl
@[go_sem] theorem tyF46_0 : tyField Tryz.prog 46 0 = some (0, 2, true) := by kernel_rfl
@[go_sem] theorem tyP46_0 : tyPlace Tryz.prog 46 0 = some (0, 2) := by kernel_rfl
@[go_sem] theorem tyF46_1 : tyField Tryz.prog 46 1 = some (2, 2, true) := by kernel_rfl
@[go_sem] theorem tyP46_1 : tyPlace Tryz.prog 46 1 = some (2, 2) := by kernel_rfl
@[go_sem] theorem tyK46 : tyKids Tryz.prog 46 = some (.agg [.agg [.raw (.bool false), .raw (.slice none 0 0)], .agg [.raw (.bool false), .raw (.slice none 0 0)]]) := by kernel_rfl
@[go_sem] theorem tyS48 : tySize Tryz.prog 48 = some 1 := by kernel_rfl
@[go_sem] theorem tyB48 : tyBytes Tryz.prog 48 = some 8 := by kernel_rfl
@[go_sem] theorem tyG48 : tyAgg Tryz.prog 48 = some false := by kernel_rfl
@[go_sem] theorem tyZ48 : tyZero Tryz.prog 48 = some (.raw (.nilFunc)) := by kernel_rfl
@[go_sem] theorem tyE48 : tyElem Tryz.prog 48 = none := by kernel_rfl
@[go_sem] theorem tyS49 : tySize Tryz.prog 49 = some 1 := by kernel_rfl
@[go_sem] theorem tyB49 : tyBytes Tryz.prog 49 = some 8 := by kernel_rfl
@[go_sem] theorem tyG49 : tyAgg Tryz.prog 49 = some false := by kernel_rfl
@[go_sem] theorem tyZ49 : tyZero Tryz.prog 49 = some (.raw (.nilFunc)) := by kernel_rfl
@[go_sem] theorem tyE49 : tyElem Tryz.prog 49 = none := by kernel_rfl
@[go_sem] theorem tyS50 : tySize Tryz.prog 50 = some 1 := by kernel_rfl
@[go_sem] theorem tyB50 : tyBytes Tryz.prog 50 = some 8 := by kernel_rfl
@[go_sem] theorem tyG50 : tyAgg Tryz.prog 50 = some false := by kernel_rfl
@[go_sem] theorem tyZ50 : tyZero Tryz.prog 50 = some (.raw (.nilFunc)) := by kernel_rfl
@[go_sem] theorem tyE50 : tyElem Tryz.prog 50 = none := by kernel_rfl
@[go_sem] theorem tyS51 : tySize Tryz.prog 51 = some 1 := by kernel_rfl
@[go_sem] theorem tyB51 : tyBytes Tryz.prog 51 = some 8 := by kernel_rfl
@[go_sem] theorem tyG51 : tyAgg Tryz.prog 51 = some false := by kernel_rfl
@[go_sem] theorem tyZ51 : tyZero Tryz.prog 51 = some (.raw (.nilFunc)) := by kernel_rfl
@[go_sem] theorem tyE51 : tyElem Tryz.prog 51 = none := by kernel_rfl
@[go_sem] theorem tyS52 : tySize Tryz.prog 52 = some 1 := by kernel_rfl
@[go_sem] theorem tyB52 : tyBytes Tryz.prog 52 = some 8 := by kernel_rfl
@[go_sem] theorem tyG52 : tyAgg Tryz.prog 52 = some false := by kernel_rfl
@[go_sem] theorem tyZ52 : tyZero Tryz.prog 52 = some (.raw (.nilFunc)) := by kernel_rfl
@[go_sem] theorem tyE52 : tyElem Tryz.prog 52 = none := by kernel_rfl
@[go_sem] theorem tyS53 : tySize Tryz.prog 53 = some 1 := by kernel_rfl
@[go_sem] theorem tyB53 : tyBytes Tryz.prog 53 = some 24 := by kernel_rfl
@[go_sem] theorem tyG53 : tyAgg Tryz.prog 53 = some false := by kernel_rfl
@[go_sem] theorem tyZ53 : tyZero Tryz.prog 53 = some (.raw (.slice none 0 0)) := by kernel_rfl
@[go_sem] theorem tyE53 : tyElem Tryz.prog 53 = some (100, 3) := by kernel_rfl
@[go_sem] theorem tyU53 : Tryz.prog.underlying 53 = some (.slice 100) := by kernel_rfl
@[go_sem] theorem tyS54 : tySize Tryz.prog 54 = some 2 := by kernel_rfl
@[go_sem] theorem tyB54 : tyBytes Tryz.prog 54 = some 48 := by kernel_rfl
@[go_sem] theorem tyG54 : tyAgg Tryz.prog 54 = some true := by kernel_rfl
@[go_sem] theorem tyZ54 : tyZero Tryz.prog 54 = some (.agg [.raw (.slice none 0 0), .raw (.slice none 0 0)]) := by kernel_rfl
@[go_sem] theorem tyE54 : tyElem Tryz.prog 54 = none := by kernel_rfl
@[go_sem] theorem tyF54_0 : tyField Tryz.prog 54 0 = some (0, 1, false) := by kernel_rfl
@[go_sem] theorem tyP54_0 : tyPlace Tryz.prog 54 0 = some (0, 1) := by kernel_rfl
@[go_sem] theorem tyF54_1 : tyField Tryz.prog 54 1 = some (1, 1, false) := by kernel_rfl
@[go_sem] theorem tyP54_1 : tyPlace Tryz.prog 54 1 = some (1, 1) := by kernel_rfl
@[go_sem] theorem tyK54 : tyKids Tryz.prog 54 = some (.agg [.raw (.slice none 0 0), .raw (.slice none 0 0)]) := by kernel_rfl
@[go_sem] theorem tyS55 : tySize Tryz.prog 55 = some 2 := by kernel_rfl
@[go_sem] theorem tyB55 : tyBytes Tryz.prog 55 = some 48 := by kernel_rfl
@[go_sem] theorem tyG55 : tyAgg Tryz.prog 55 = some true := by kernel_rfl
@[go_sem] theorem tyZ55 : tyZero Tryz.prog 55 = some (.agg [.raw (.slice none 0 0), .raw (.slice none 0 0)]) := by kernel_rfl
@[go_sem] theorem tyE55 : tyElem Tryz.prog 55 = none := by kernel_rfl
@[go_sem] theorem tyF55_0 : tyField Tryz.prog 55 0 = some (0, 1, false) := by kernel_rfl
@[go_sem] theorem tyP55_0 : tyPlace Tryz.prog 55 0 = some (0, 1) := by kernel_rfl
@[go_sem] theorem tyF55_1 : tyField Tryz.prog 55 1 = some (1, 1, false) := by kernel_rfl
@[go_sem] theorem tyP55_1 : tyPlace Tryz.prog 55 1 = some (1, 1) := by kernel_rfl
@[go_sem] theorem tyK55 : tyKids Tryz.prog 55 = some (.agg [.raw (.slice none 0 0), .raw (.slice none 0 0)]) := by kernel_rfl
@[go_sem] theorem tyS57 : tySize Tryz.prog 57 = some 1 := by kernel_rfl
@[go_sem] theorem tyB57 : tyBytes Tryz.prog 57 = some 8 := by kernel_rfl
@[go_sem] theorem tyG57 : tyAgg Tryz.prog 57 = some false := by kernel_rfl
@[go_sem] theorem tyZ57 : tyZero Tryz.prog 57 = some (.raw (.nilFunc)) := by kernel_rfl
@[go_sem] theorem tyE57 : tyElem Tryz.prog 57 = none := by kernel_rfl
@[go_sem] theorem tyS58 : tySize Tryz.prog 58 = some 1 := by kernel_rfl
@[go_sem] theorem tyB58 : tyBytes Tryz.prog 58 = some 8 := by kernel_rfl
@[go_sem] theorem tyG58 : tyAgg Tryz.prog 58 = some false := by kernel_rfl
@[go_sem] theorem tyZ58 : tyZero Tryz.prog 58 = some (.raw (.nilFunc)) := by kernel_rfl
@[go_sem] theorem tyE58 : tyElem Tryz.prog 58 = none := by kernel_rfl
@[go_sem] theorem tyS59 : tySize Tryz.prog 59 = some 1 := by kernel_rfl
@[go_sem] theorem tyB59 : tyBytes Tryz.prog 59 = some 8 := by kernel_rfl
@[go_sem] theorem tyG59 : tyAgg Tryz.prog 59 = some false := by kernel_rfl
@[go_sem] theorem tyZ59 : tyZero Tryz.prog 59 = some (.raw (.nilFunc)) := by kernel_rfl
@[go_sem] theorem tyE59 : tyElem Tryz.prog 59 = none := by kernel_rfl
@[go_sem] theorem tyS60 : tySize Tryz.prog 60 = some 1 := by kernel_rfl
@[go_sem] theorem tyB60 : tyBytes Tryz.prog 60 = some 8 := by kernel_rfl
@[go_sem] theorem tyG60 : tyAgg Tryz.prog 60 = some false := by kernel_rfl
@[go_sem] theorem tyZ60 : tyZero Tryz.prog 60 = some (.raw (.nilFunc)) := by kernel_rfl
@[go_sem] theorem tyE60 : tyElem Tryz.prog 60 = none := by kernel_rfl
@[go_sem] theorem tyS61 : tySize Tryz.prog 61 = some 1 := by kernel_rfl
@[go_sem] theorem tyB61 : tyBytes Tryz.prog 61 = some 8 := by kernel_rfl
@[go_sem] theorem tyG61 : tyAgg Tryz.prog 61 = some false := by kernel_rfl
@[go_sem] theorem tyZ61 : tyZero Tryz.prog 61 = some (.raw (.nilFunc)) := by kernel_rfl
@[go_sem] theorem tyE61 : tyElem Tryz.prog 61 = none := by kernel_rfl
@[go_sem] theorem tyS62 : tySize Tryz.prog 62 = some 1 := by kernel_rfl
@[go_sem] theorem tyB62 : tyBytes Tryz.prog 62 = some 8 := by kernel_rfl
@[go_sem] theorem tyG62 : tyAgg Tryz.prog 62 = some false := by kernel_rfl
@[go_sem] theorem tyZ62 : tyZero Tryz.prog 62 = some (.raw (.nilFunc)) := by kernel_rfl
@[go_sem] theorem tyE62 : tyElem Tryz.prog 62 = none := by kernel_rfl
@[go_sem] theorem tyS63 : tySize Tryz.prog 63 = some 1 := by kernel_rfl
@[go_sem] theorem tyB63 : tyBytes Tryz.prog 63 = some 8 := by kernel_rfl
@[go_sem] theorem tyG63 : tyAgg Tryz.prog 63 = some false := by kernel_rfl
@[go_sem] theorem tyZ63 : tyZero Tryz.prog 63 = some (.raw (.nilFunc)) := by kernel_rfl
@[go_sem] theorem tyE63 : tyElem Tryz.prog 63 = none := by kernel_rfl
@[go_sem] theorem tyS64 : tySize Tryz.prog 64 = some 1 := by kernel_rfl
@[go_sem] theorem tyB64 : tyBytes Tryz.prog 64 = some 8 := by kernel_rfl
@[go_sem] theorem tyG64 : tyAgg Tryz.prog 64 = some false := by kernel_rfl
@[go_sem] theorem tyZ64 : tyZero Tryz.prog 64 = some (.raw (.nilFunc)) := by kernel_rfl
@[go_sem] theorem tyE64 : tyElem Tryz.prog 64 = none := by kernel_rfl
@[go_sem] theorem tyS65 : tySize Tryz.prog 65 = some 1 := by kernel_rfl
@[go_sem] theorem tyB65 : tyBytes Tryz.prog 65 = some 8 := by kernel_rfl
@[go_sem] theorem tyG65 : tyAgg Tryz.prog 65 = some false := by kernel_rfl
@[go_sem] theorem tyZ65 : tyZero Tryz.prog 65 = some (.raw (.nilFunc)) := by kernel_rfl
@[go_sem] theorem tyE65 : tyElem Tryz.prog 65 = none := by kernel_rfl
@[go_sem] theorem tyS66 : tySize Tryz.prog 66 = some 1 := by kernel_rfl
@[go_sem] theorem tyB66 : tyBytes Tryz.prog 66 = some 8 := by kernel_rfl
@[go_sem] theorem tyG66 : tyAgg Tryz.prog 66 = some false := by kernel_rfl
@[go_sem] theorem tyZ66 : tyZero Tryz.prog 66 = some (.raw (.nilFunc)) := by kernel_rfl
@[go_sem] theorem tyE66 : tyElem Tryz.prog 66 = none := by kernel_rfl
@[go_sem] theorem tyS67 : tySize Tryz.prog 67 = some 1 := by kernel_rfl
@[go_sem] theorem tyB67 : tyBytes Tryz.prog 67 = some 8 := by kernel_rfl
@[go_sem] theorem tyG67 : tyAgg Tryz.prog 67 = some false := by kernel_rfl
@[go_sem] theorem tyZ67 : tyZero Tryz.prog 67 = some (.raw (.nilFunc)) := by kernel_rfl
@[go_sem] theorem tyE67 : tyElem Tryz.prog 67 = none := by kernel_rfl
@[go_sem] theorem tyS68 : tySize Tryz.prog 68 = some 1 := by kernel_rfl
@[go_sem] theorem tyB68 : tyBytes Tryz.prog 68 = some 8 := by kernel_rfl
@[go_sem] theorem tyG68 : tyAgg Tryz.prog 68 = some false := by kernel_rfl
@[go_sem] theorem tyZ68 : tyZero Tryz.prog 68 = some (.raw (.nilFunc)) := by kernel_rfl
@[go_sem] theorem tyE68 : tyElem Tryz.prog 68 = none := by kernel_rfl
@[go_sem] theorem tyS69 : tySize Tryz.prog 69 = some 1 := by kernel_rfl
@[go_sem] theorem tyB69 : tyBytes Tryz.prog 69 = some 8 := by kernel_rfl
@[go_sem] theorem tyG69 : tyAgg Tryz.prog 69 = some false := by kernel_rfl
@[go_sem] theorem tyZ69 : tyZero Tryz.prog 69 = some (.raw (.nilFunc)) := by kernel_rfl
@[go_sem] theorem tyE69 : tyElem Tryz.prog 69 = none := by kernel_rfl
@[go_sem] theorem tyS70 : tySize Tryz.prog 70 = some 1 := by kernel_rfl
@[go_sem] theorem tyB70 : tyBytes Tryz.prog 70 = some 8 := by kernel_rfl
@[go_sem] theorem tyG70 : tyAgg Tryz.prog 70 = some false := by kernel_rfl
@[go_sem] theorem tyZ70 : tyZero Tryz.prog 70 = some (.raw (.nilFunc)) := by kernel_rfl
@[go_sem] theorem tyE70 : tyElem Tryz.prog 70 = none := by kernel_rfl
@[go_sem] theorem tyS71 : tySize Tryz.prog 71 = some 1 := by kernel_rfl
@[go_sem] theorem tyB71 : tyBytes Tryz.prog 71 = some 24 := by kernel_rfl
@[go_sem] theorem tyG71 : tyAgg Tryz.prog 71 = some false := by kernel_rfl
@[go_sem] theorem tyZ71 : tyZero Tryz.prog 71 = some (.raw (.slice none 0 0)) := by kernel_rfl
@[go_sem] theorem tyE71 : tyElem Tryz.prog 71 = some (44, 2) := by kernel_rfl
@[go_sem] theorem tyU71 : Tryz.prog.underlying 71 = some (.slice 44) := by kernel_rfl
@[go_sem] theorem tyS72 : tySize Tryz.prog 72 = some 1 := by kernel_rfl
@[go_sem] theorem tyB72 : tyBytes Tryz.prog 72 = some 8 := by kernel_rfl
@[go_sem] theorem tyG72 : tyAgg Tryz.prog 72 = some false := by kernel_rfl
@[go_sem] theorem tyZ72 : tyZero Tryz.prog 72 = some (.raw (.nilFunc)) := by kernel_rfl
@[go_sem] theorem tyE72 : tyElem Tryz.prog 72 = none := by kernel_rfl
@[go_sem] theorem tyS73 : tySize Tryz.prog 73 = some 1 := by kernel_rfl
@[go_sem] theorem tyB73 : tyBytes Tryz.prog 73 = some 8 := by kernel_rfl
@[go_sem] theorem tyG73 : tyAgg Tryz.prog 73 = some false := by kernel_rfl
@[go_sem] theorem tyZ73 : tyZero Tryz.prog 73 = some (.raw (.nilFunc)) := by kernel_rfl
@[go_sem] theorem tyE73 : tyElem Tryz.prog 73 = none := by kernel_rfl
@[go_sem] theorem tyS74 : tySize Tryz.prog 74 = some 1 := by kernel_rfl
@[go_sem] theorem tyB74 : tyBytes Tryz.prog 74 = some 8 := by kernel_rfl
@[go_sem] theorem tyG74 : tyAgg Tryz.prog 74 = some false := by kernel_rfl
@[go_sem] theorem tyZ74 : tyZero Tryz.prog 74 = some (.raw (.nilFunc)) := by kernel_rfl
@[go_sem] theorem tyE74 : tyElem Tryz.prog 74 = none := by kernel_rfl
@[go_sem] theorem tyS75 : tySize Tryz.prog 75 = some 1 := by kernel_rfl
@[go_sem] theorem tyB75 : tyBytes Tryz.prog 75 = some 8 := by kernel_rfl
@[go_sem] theorem tyG75 : tyAgg Tryz.prog 75 = some false := by kernel_rfl
@[go_sem] theorem tyZ75 : tyZero Tryz.prog 75 = some (.raw (.nilFunc)) := by kernel_rfl
@[go_sem] theorem tyE75 : tyElem Tryz.prog 75 = none := by kernel_rfl
@[go_sem] theorem tyS76 : tySize Tryz.prog 76 = some 1 := by kernel_rfl
@[go_sem] theorem tyB76 : tyBytes Tryz.prog 76 = some 8 := by kernel_rfl
@[go_sem] theorem tyG76 : tyAgg Tryz.prog 76 = some false := by kernel_rfl
@[go_sem] theorem tyZ76 : tyZero Tryz.prog 76 = some (.raw (.nilFunc)) := by kernel_rfl
@[go_sem] theorem tyE76 : tyElem Tryz.prog 76 = none := by kernel_rfl
@[go_sem] theorem tyS77 : tySize Tryz.prog 77 = some 1 := by kernel_rfl
@[go_sem] theorem tyB77 : tyBytes Tryz.prog 77 = some 8 := by kernel_rfl
@[go_sem] theorem tyG77 : tyAgg Tryz.prog 77 = some false := by kernel_rfl
@[go_sem] theorem tyZ77 : tyZero Tryz.prog 77 = some (.raw (.nilFunc)) := by kernel_rfl
@[go_sem] theorem tyE77 : tyElem Tryz.prog 77 = none := by kernel_rfl
@[go_sem] theorem tyS78 : tySize Tryz.prog 78 = some 1 := by kernel_rfl
@[go_sem] theorem tyB78 : tyBytes Tryz.prog 78 = some 8 := by kernel_rfl
@[go_sem] theorem tyG78 : tyAgg Tryz.prog 78 = some false := by kernel_rfl
@[go_sem] theorem tyZ78 : tyZero Tryz.prog 78 = some (.raw (.nilFunc)) := by kernel_rfl
@[go_sem] theorem tyE78 : tyElem Tryz.prog 78 = none := by kernel_rfl
@[go_sem] theorem tyS79 : tySize Tryz.prog 79 = some 1 := by kernel_rfl
@[go_sem] theorem tyB79 : tyBytes Tryz.prog 79 = some 8 := by kernel_rfl
@[go_sem] theorem tyG79 : tyAgg Tryz.prog 79 = some false := by kernel_rfl
@[go_sem] theorem tyZ79 : tyZero Tryz.prog 79 = some (.raw (.nilFunc)) := by kernel_rfl
@[go_sem] theorem tyE79 : tyElem Tryz.prog 79 = none := by kernel_rfl
@[go_sem] theorem tyS80 : tySize Tryz.prog 80 = some 1 := by kernel_rfl
@[go_sem] theorem tyB80 : tyBytes Tryz.prog 80 = some 8 := by kernel_rfl
@[go_sem] theorem tyG80 : tyAgg Tryz.prog 80 = some false := by kernel_rfl
@[go_sem] theorem tyZ80 : tyZero Tryz.prog 80 = some (.raw (.nilFunc)) := by kernel_rfl
@[go_sem] theorem tyE80 : tyElem Tryz.prog 80 = none := by kernel_rfl
@[go_sem] theorem tyS81 : tySize Tryz.prog 81 = some 1 := by kernel_rfl
@[go_sem] theorem tyB81 : tyBytes Tryz.prog 81 = some 8 := by kernel_rfl
@[go_sem] theorem tyG81 : tyAgg Tryz.prog 81 = some false := by kernel_rfl
@[go_sem] theorem tyZ81 : tyZero Tryz.prog 81 = some (.raw (.nilFunc)) := by kernel_rfl
@[go_sem] theorem tyE81 : tyElem Tryz.prog 81 = none := by kernel_rfl
@[go_sem] theorem tyS82 : tySize Tryz.prog 82 = some 1 := by kernel_rfl
@[go_sem] theorem tyB82 : tyBytes Tryz.prog 82 = some 8 := by kernel_rfl
@[go_sem] theorem tyG82 : tyAgg Tryz.prog 82 = some false := by kernel_rfl
@[go_sem] theorem tyZ82 : tyZero Tryz.prog 82 = some (.raw (.nilFunc)) := by kernel_rfl
@[go_sem] theorem tyE82 : tyElem Tryz.prog 82 = none := by kernel_rfl
@[go_sem] theorem tyS83 : tySize Tryz.prog 83 = some 1 := by kernel_rfl
@[go_sem] theorem tyB83 : tyBytes Tryz.prog 83 = some 8 := by kernel_rfl
@[go_sem] theorem tyG83 : tyAgg Tryz.prog 83 = some false := by kernel_rfl
@[go_sem] theorem tyZ83 : tyZero Tryz.prog 83 = some (.raw (.nilFunc)) := by kernel_rfl
@[go_sem] theorem tyE83 : tyElem Tryz.prog 83 = none := by kernel_rfl
@[go_sem] theorem tyS84 : tySize Tryz.prog 84 = some 1 := by kernel_rfl
@[go_sem] theorem tyB84 : tyBytes Tryz.prog 84 = some 8 := by kernel_rfl
@[go_sem] theorem tyG84 : tyAgg Tryz.prog 84 = some false := by kernel_rfl
@[go_sem] theorem tyZ84 : tyZero Tryz.prog 84 = some (.raw (.nilFunc)) := by kernel_rfl
@[go_sem] theorem tyE84 : tyElem Tryz.prog 84 = none := by kernel_rfl
@[go_sem] theorem tyS85 : tySize Tryz.prog 85 = some 1 := by kernel_rfl
@[go_sem] theorem tyB85 : tyBytes Tryz.prog 85 = some 8 := by kernel_rfl
@[go_sem] theorem tyG85 : tyAgg Tryz.prog 85 = some false := by kernel_rfl
@[go_sem] theorem tyZ85 : tyZero Tryz.prog 85 = some (.raw (.nilFunc)) := by kernel_rfl
@[go_sem] theorem tyE85 : tyElem Tryz.prog 85 = none := by kernel_rfl
@[go_sem] theorem tyS86 : tySize Tryz.prog 86 = some 1 := by kernel_rfl
@[go_sem] theorem tyB86 : tyBytes Tryz.prog 86 = some 8 := by kernel_rfl
@[go_sem] theorem tyG86 : tyAgg Tryz.prog 86 = some false := by kernel_rfl
@[go_sem] theorem tyZ86 : tyZero Tryz.prog 86 = some (.raw (.nilFunc)) := by kernel_rfl
@[go_sem] theorem tyE86 : tyElem Tryz.prog 86 = none := by kernel_rfl
@[go_sem] theorem tyS87 : tySize Tryz.prog 87 = some 1 := by kernel_rfl
@[go_sem] theorem tyB87 : tyBytes Tryz.prog 87 = some 8 := by kernel_rfl
@[go_sem] theorem tyG87 : tyAgg Tryz.prog 87 = some false := by kernel_rfl
@[go_sem] theorem tyZ87 : tyZero Tryz.prog 87 = some (.raw (.nilFunc)) := by kernel_rfl
@[go_sem] theorem tyE87 : tyElem Tryz.prog 87 = none := by kernel_rfl
@[go_sem] theorem tyS88 : tySize Tryz.prog 88 = some 1 := by kernel_rfl
@[go_sem] theorem tyB88 : tyBytes Tryz.prog 88 = some 8 := by kernel_rfl
@[go_sem] theorem tyG88 : tyAgg Tryz.prog 88 = some false := by kernel_rfl
@[go_sem] theorem tyZ88 : tyZero Tryz.prog 88 = some (.raw (.nilFunc)) := by kernel_rfl
@[go_sem] theorem tyE88 : tyElem Tryz.prog 88 = none := by kernel_rfl
@[go_sem] theorem tyS89 : tySize Tryz.prog 89 = some 1 := by kernel_rfl
@[go_sem] theorem tyB89 : tyBytes Tryz.prog 89 = some 8 := by kernel_rfl
@[go_sem] theorem tyG89 : tyAgg Tryz.prog 89 = some false := by kernel_rfl
@[go_sem] theorem tyZ89 : tyZero Tryz.prog 89 = some (.raw (.nilFunc)) := by kernel_rfl
@[go_sem] theorem tyE89 : tyElem Tryz.prog 89 = none := by kernel_rfl
@[go_sem] theorem tyS90 : tySize Tryz.prog 90 = some 1 := by kernel_rfl
@[go_sem] theorem tyB90 : tyBytes Tryz.prog 90 = some 8 := by kernel_rfl
@[go_sem] theorem tyG90 : tyAgg Tryz.prog 90 = some false := by kernel_rfl
@[go_sem] theorem tyZ90 : tyZero Tryz.prog 90 = some (.raw (.nilFunc)) := by kernel_rfl
@[go_sem] theorem tyE90 : tyElem Tryz.prog 90 = none := by kernel_rfl
@[go_sem] theorem tyS91 : tySize Tryz.prog 91 = some 1 := by kernel_rfl
@[go_sem] theorem tyB91 : tyBytes Tryz.prog 91 = some 8 := by kernel_rfl
@[go_sem] theorem tyG91 : tyAgg Tryz.prog 91 = some false := by kernel_rfl
@[go_sem] theorem tyZ91 : tyZero Tryz.prog 91 = some (.raw (.nilFunc)) := by kernel_rfl
@[go_sem] theorem tyE91 : tyElem Tryz.prog 91 = none := by kernel_rfl
@[go_sem] theorem tyS92 : tySize Tryz.prog 92 = some 1 := by kernel_rfl
@[go_sem] theorem tyB92 : tyBytes Tryz.prog 92 = some 24 := by kernel_rfl
@[go_sem] theorem tyG92 : tyAgg Tryz.prog 92 = some false := by kernel_rfl
@[go_sem] theorem tyZ92 : tyZero Tryz.prog 92 = some (.raw (.slice none 0 0)) := by kernel_rfl
@[go_sem] theorem tyE92 : tyElem Tryz.prog 92 = some (71, 1) := by kernel_rfl
@[go_sem] theorem tyU92 : Tryz.prog.underlying 92 = some (.slice 71) := by kernel_rfl
@[go_sem] theorem tyS93 : tySize Tryz.prog 93 = some 1 := by kernel_rfl
@[go_sem] theorem tyB93 : tyBytes Tryz.prog 93 = some 8 := by kernel_rfl
@[go_sem] theorem tyG93 : tyAgg Tryz.prog 93 = some false := by kernel_rfl
@[go_sem] theorem tyZ93 : tyZero Tryz.prog 93 = some (.raw (.nilFunc)) := by kernel_rfl
@[go_sem] theorem tyE93 : tyElem Tryz.prog 93 = none := by kernel_rfl
@[go_sem] theorem tyS94 : tySize Tryz.prog 94 = some 1 := by kernel_rfl
@[go_sem] theorem tyB94 : tyBytes Tryz.prog 94 = some 8 := by kernel_rfl
@[go_sem] theorem tyG94 : tyAgg Tryz.prog 94 = some false := by kernel_rfl
@[go_sem] theorem tyZ94 : tyZero Tryz.prog 94 = some (.raw (.nilFunc)) := by kernel_rfl
@[go_sem] theorem tyE94 : tyElem Tryz.prog 94 = none := by kernel_rfl
@[go_sem] theorem tyS95 : tySize Tryz.prog 95 = some 1 := by kernel_rfl
@[go_sem] theorem tyB95 : tyBytes Tryz.prog 95 = some 8 := by kernel_rfl
@[go_sem] theorem tyG95 : tyAgg Tryz.prog 95 = some false := by kernel_rfl
@[go_sem] theorem tyZ95 : tyZero Tryz.prog 95 = some (.raw (.nilFunc)) := by kernel_rfl
@[go_sem] theorem tyE95 : tyElem Tryz.prog 95 = none := by kernel_rfl
@[go_sem] theorem tyS96 : tySize Tryz.prog 96 = some 1 := by kernel_rfl
@[go_sem] theorem tyB96 : tyBytes Tryz.prog 96 = some 8 := by kernel_rfl
@[go_sem] theorem tyG96 : tyAgg Tryz.prog 96 = some false := by kernel_rfl
@[go_sem] theorem tyZ96 : tyZero Tryz.prog 96 = some (.raw (.nilFunc)) := by kernel_rfl
@[go_sem] theorem tyE96 : tyElem Tryz.prog 96 = none := by kernel_rfl
@[go_sem] theorem tyS98 : tySize Tryz.prog 98 = some 1 := by kernel_rfl
@[go_sem] theorem tyB98 : tyBytes Tryz.prog 98 = some 8 := by kernel_rfl
@[go_sem] theorem tyG98 : tyAgg Tryz.prog 98 = some false := by kernel_rfl
@[go_sem] theorem tyZ98 : tyZero Tryz.prog 98 = some (.raw (.nilFunc)) := by kernel_rfl
@[go_sem] theorem tyE98 : tyElem Tryz.prog 98 = none := by kernel_rfl
@[go_sem] theorem tyS99 : tySize Tryz.prog 99 = some 1 := by kernel_rfl
@[go_sem] theorem tyB99 : tyBytes Tryz.prog 99 = some 8 := by kernel_rfl
@[go_sem] theorem tyG99 : tyAgg Tryz.prog 99 = some false := by kernel_rfl
@[go_sem] theorem tyZ99 : tyZero Tryz.prog 99 = some (.raw (.nilFunc)) := by kernel_rfl
@[go_sem] theorem tyE99 : tyElem Tryz.prog 99 = none := by kernel_rfl
@[go_sem] theorem tyS100 : tySize Tryz.prog 100 = some 3 := by kernel_rfl
@[go_sem] theorem tyB100 : tyBytes Tryz.prog 100 = some 3 := by kernel_rfl
@[go_sem] theorem tyG100 : tyAgg Tryz.prog 100 = some true := by kernel_rfl
@[go_sem] theorem tyZ100 : tyZero Tryz.prog 100 = some (.agg [.raw (.int .i8 0), .raw (.int .i8 0), .raw (.int .i8 0)]) := by kernel_rfl
@[go_sem] theorem tyE100 : tyElem Tryz.prog 100 = none := by kernel_rfl
@[go_sem] theorem tyA100 : tyArr Tryz.prog 100 = some (3, 38, 1) := by kernel_rfl
@[go_sem] theorem tyK100 : tyKids Tryz.prog 100 = some (.agg [.raw (.int .i8 0), .raw (.int .i8 0), .raw (.int .i8 0)]) := by kernel_rfl
@[go_sem] theorem tyP100_0 : tyPlace Tryz.prog 100 0 = some (0, 1) := by kernel_rfl
@[go_sem] theorem tyP100_1 : tyPlace Tryz.prog 100 1 = some (1, 1) := by kernel_rfl
@[go_sem] theorem tyP100_2 : tyPlace Tryz.prog 100 2 = some (2, 1) := by kernel_rfl
@[go_sem] theorem tyU100 : Tryz.prog.underlying 100 = some (.array 3 38) := by kernel_rfl
@[go_sem] theorem tyS101 : tySize Tryz.prog 101 = some 1 := by kernel_rfl
@[go_sem] theorem tyB101 : tyBytes Tryz.prog 101 = some 8 := by kernel_rfl
@[go_sem] theorem tyG101 : tyAgg Tryz.prog 101 = some false := by kernel_rfl
@[go_sem] theorem tyZ101 : tyZero Tryz.prog 101 = some (.raw (.nilFunc)) := by kernel_rfl
@[go_sem] theorem tyE101 : tyElem Tryz.prog 101 = none := by kernel_rfl
@[go_sem] theorem tyS102 : tySize Tryz.prog 102 = some 1 := by kernel_rfl
@[go_sem] theorem tyB102 : tyBytes Tryz.prog 102 = some 8 := by kernel_rfl
@[go_sem] theorem tyG102 : tyAgg Tryz.prog 102 = some false := by kernel_rfl
@[go_sem] theorem tyZ102 : tyZero Tryz.prog 102 = some (.raw (.nilFunc)) := by kernel_rfl
@[go_sem] theorem tyE102 : tyElem Tryz.prog 102 = none := by kernel_rfl
@[go_sem] theorem tyS103 : tySize Tryz.prog 103 = some 1 := by kernel_rfl
@[go_sem] theorem tyB103 : tyBytes Tryz.prog 103 = some 8 := by kernel_rfl
@[go_sem] theorem tyG103 : tyAgg Tryz.prog 103 = some false := by kernel_rfl
@[go_sem] theorem tyZ103 : tyZero Tryz.prog 103 = some (.raw (.nilFunc)) := by kernel_rfl
@[go_sem] theorem tyE103 : tyElem Tryz.prog 103 = none := by kernel_rfl
@[go_sem] theorem tyS104 : tySize Tryz.prog 104 = some 1 := by kernel_rfl
@[go_sem] theorem tyB104 : tyBytes Tryz.prog 104 = some 4 := by kernel_rfl
@[go_sem] theorem tyG104 : tyAgg Tryz.prog 104 = some false := by kernel_rfl
@[go_sem] theorem tyZ104 : tyZero Tryz.prog 104 = some (.raw (.int .u32 0)) := by kernel_rfl
@[go_sem] theorem tyE104 : tyElem Tryz.prog 104 = none := by kernel_rfl
@[go_sem] theorem tyU104 : Tryz.prog.underlying 104 = some (.int .u32) := by kernel_rfl
@[go_sem] theorem tyS105 : tySize Tryz.prog 105 = some 1 := by kernel_rfl
@[go_sem] theorem tyB105 : tyBytes Tryz.prog 105 = some 8 := by kernel_rfl
@[go_sem] theorem tyG105 : tyAgg Tryz.prog 105 = some false := by kernel_rfl
@[go_sem] theorem tyZ105 : tyZero Tryz.prog 105 = some (.raw (.int .u64 0)) := by kernel_rfl
@[go_sem] theorem tyE105 : tyElem Tryz.prog 105 = none := by kernel_rfl
@[go_sem] theorem tyU105 : Tryz.prog.underlying 105 = some (.int .u64) := by kernel_rfl
@[go_sem] theorem tyS106 : tySize Tryz.prog 106 = some 1 := by kernel_rfl
@[go_sem] theorem tyB106 : tyBytes Tryz.prog 106 = some 8 := by kernel_rfl
@[go_sem] theorem tyG106 : tyAgg Tryz.prog 106 = some false := by kernel_rfl
@[go_sem] theorem tyZ106 : tyZero Tryz.prog 106 = some (.raw (.int .u64 0)) := by kernel_rfl
@[go_sem] theorem tyE106 : tyElem Tryz.prog 106 = none := by kernel_rfl
@[go_sem] theorem tyU106 : Tryz.prog.underlying 106 = some (.int .u64) := by kernel_rfl
@[go_sem] theorem tyS107 : tySize Tryz.prog 107 = some 1 := by kernel_rfl
@[go_sem] theorem tyB107 : tyBytes Tryz.prog 107 = some 8 := by kernel_rfl
@[go_sem] theorem tyG107 : tyAgg Tryz.prog 107 = some false := by kernel_rfl
@[go_sem] theorem tyZ107 : tyZero Tryz.prog 107 = some (.raw (.nilFunc)) := by kernel_rfl
@[go_sem] theorem tyE107 : tyElem Tryz.prog 107 = none := by kernel_rfl
@[go_sem] theorem tyS108 : tySize Tryz.prog 108 = some 1 := by kernel_rfl
@[go_sem] theorem tyB108 : tyBytes Tryz.prog 108 = some 8 := by kernel_rfl
@[go_sem] theorem tyG108 : tyAgg Tryz.prog 108 = some false := by kernel_rfl
@[go_sem] theorem tyZ108 : tyZero Tryz.prog 108 = some (.raw (.nilFunc)) := by kernel_rfl
@[go_sem] theorem tyE108 : tyElem Tryz.prog 108 = none := by kernel_rfl
@[go_sem] theorem tyS109 : tySize Tryz.prog 109 = some 1 := by kernel_rfl
@[go_sem] theorem tyB109 : tyBytes Tryz.prog 109 = some 8 := by kernel_rfl
@[go_sem] theorem tyG109 : tyAgg Tryz.prog 109 = some false := by kernel_rfl
@[go_sem] theorem tyZ109 : tyZero Tryz.prog 109 = some (.raw (.nilFunc)) := by kernel_rfl
@[go_sem] theorem tyE109 : tyElem Tryz.prog 109 = none := by kernel_rfl
@[go_sem] theorem tyS110 : tySize Tryz.prog 110 = some 1 := by kernel_rfl
@[go_sem] theorem tyB110 : tyBytes Tryz.prog 110 = some 8 := by kernel_rfl
@[go_sem] theorem tyG110 : tyAgg Tryz.prog 110 = some false := by kernel_rfl
@[go_sem] theorem tyZ110 : tyZero Tryz.prog 110 = some (.raw (.nilFunc)) := by kernel_rfl
@[go_sem] theorem tyE110 : tyElem Tryz.prog 110 = none := by kernel_rfl
@[go_sem] theorem tyS112 : tySize Tryz.prog 112 = some 1 := by kernel_rfl
@[go_sem] theorem tyB112 : tyBytes Tryz.prog 112 = some 8 := by kernel_rfl
@[go_sem] theorem tyG112 : tyAgg Tryz.prog 112 = some false := by kernel_rfl
@[go_sem] theorem tyZ112 : tyZero Tryz.prog 112 = some (.raw (.nilFunc)) := by kernel_rfl
@[go_sem] theorem tyE112 : tyElem Tryz.prog 112 = none := by kernel_rfl
@[go_sem] theorem tyS113 : tySize Tryz.prog 113 = some 1 := by kernel_rfl
@[go_sem] theorem tyB113 : tyBytes Tryz.prog 113 = some 8 := by kernel_rfl
@[go_sem] theorem tyG113 : tyAgg Tryz.prog 113 = some false := by kernel_rfl
@[go_sem] theorem tyZ113 : tyZero Tryz.prog 113 = some (.raw (.nilFunc)) := by kernel_rfl
@[go_sem] theorem tyE113 : tyElem Tryz.prog 113 = none := by kernel_rfl
@[go_sem] theorem tyS114 : tySize Tryz.prog 114 = some 1 := by kernel_rfl
@[go_sem] theorem tyB114 : tyBytes Tryz.prog 114 = some 8 := by kernel_rfl
@[go_sem] theorem tyG114 : tyAgg Tryz.prog 114 = some false := by kernel_rfl
@[go_sem] theorem tyZ114 : tyZero Tryz.prog 114 = some (.raw (.nilFunc)) := by kernel_rfl
@[go_sem] theorem tyE114 : tyElem Tryz.prog 114 = none := by kernel_rfl
@[go_sem] theorem tyS115 : tySize Tryz.prog 115 = some 1 := by kernel_rfl
@[go_sem] theorem tyB115 : tyBytes Tryz.prog 115 = some 24 := by kernel_rfl
@[go_sem] theorem tyG115 : tyAgg Tryz.prog 115 = some false := by kernel_rfl
@[go_sem] theorem tyZ115 : tyZero Tryz.prog 115 = some (.raw (.slice none 0 0)) := by kernel_rfl
@[go_sem] theorem tyE115 : tyElem Tryz.prog 115 = some (2, 1) := by kernel_rfl
@[go_sem] theorem tyU115 : Tryz.prog.underlying 115 = some (.slice 2) := by kernel_rfl
@[go_sem] theorem tyS116 : tySize Tryz.prog 116 = some 1 := by kernel_rfl
@[go_sem] theorem tyB116 : tyBytes Tryz.prog 116 = some 8 := by kernel_rfl
@[go_sem] theorem tyG116 : tyAgg Tryz.prog 116 = some false := by kernel_rfl
@[go_sem] theorem tyZ116 : tyZero Tryz.prog 116 = some (.raw (.nilFunc)) := by kernel_rfl
@[go_sem] theorem tyE116 : tyElem Tryz.prog 116 = none := by kernel_rfl
@[go_sem] theorem tyS117 : tySize Tryz.prog 117 = some 1 := by kernel_rfl
@[go_sem] theorem tyB117 : tyBytes Tryz.prog 117 = some 8 := by kernel_rfl
@[go_sem] theorem tyG117 : tyAgg Tryz.prog 117 = some false := by kernel_rfl
@[go_sem] theorem tyZ117 : tyZero Tryz.prog 117 = some (.raw (.nilFunc)) := by kernel_rfl
@[go_sem] theorem tyE117 : tyElem Tryz.prog 117 = none := by kernel_rfl
@[go_sem] theorem tyS118 : tySize Tryz.prog 118 = some 1 := by kernel_rfl
@[go_sem] theorem tyB118 : tyBytes Tryz.prog 118 = some 8 := by kernel_rfl
@[go_sem] theorem tyG118 : tyAgg Tryz.prog 118 = some false := by kernel_rfl
@[go_sem] theorem tyZ118 : tyZero Tryz.prog 118 = some (.raw (.nilFunc)) := by kernel_rfl
@[go_sem] theorem tyE118 : tyElem Tryz.prog 118 = none := by kernel_rfl
@[go_sem] theorem tyS119 : tySize Tryz.prog 119 = some 1 := by kernel_rfl
@[go_sem] theorem tyB119 : tyBytes Tryz.prog 119 = some 8 := by kernel_rfl
@[go_sem] theorem tyG119 : tyAgg Tryz.prog 119 = some false := by kernel_rfl
@[go_sem] theorem tyZ119 : tyZero Tryz.prog 119 = some (.raw (.nilFunc)) := by kernel_rfl
@[go_sem] theorem tyE119 : tyElem Tryz.prog 119 = none := by kernel_rfl
@[go_sem] theorem tyS121 : tySize Tryz.prog 121 = some 1 := by kernel_rfl
@[go_sem] theorem tyB121 : tyBytes Tryz.prog 121 = some 8 := by kernel_rfl
@[go_sem] theorem tyG121 : tyAgg Tryz.prog 121 = some false := by kernel_rfl
@[go_sem] theorem tyZ121 : tyZero Tryz.prog 121 = some (.raw (.nilFunc)) := by kernel_rfl
@[go_sem] theorem tyE121 : tyElem Tryz.prog 121 = none := by kernel_rfl
@[go_sem] theorem tyS122 : tySize Tryz.prog 122 = some 1 := by kernel_rfl
@[go_sem] theorem tyB122 : tyBytes Tryz.prog 122 = some 8 := by kernel_rfl
@[go_sem] theorem tyG122 : tyAgg Tryz.prog 122 = some false := by kernel_rfl
@[go_sem] theorem tyZ122 : tyZero Tryz.prog 122 = some (.raw (.nilFunc)) := by kernel_rfl
@[go_sem] theorem tyE122 : tyElem Tryz.prog 122 = none := by kernel_rfl
@[go_sem] theorem tyS123 : tySize Tryz.prog 123 = some 1 := by kernel_rfl
@[go_sem] theorem tyB123 : tyBytes Tryz.prog 123 = some 8 := by kernel_rfl
@[go_sem] theorem tyG123 : tyAgg Tryz.prog 123 = some false := by kernel_rfl
@[go_sem] theorem tyZ123 : tyZero Tryz.prog 123 = some (.raw (.nilFunc)) := by kernel_rfl
@[go_sem] theorem tyE123 : tyElem Tryz.prog 123 = none := by kernel_rfl
@[go_sem] theorem tyS124 : tySize Tryz.prog 124 = some 1 := by kernel_rfl
@[go_sem] theorem tyB124 : tyBytes Tryz.prog 124 = some 8 := by kernel_rfl
@[go_sem] theorem tyG124 : tyAgg Tryz.prog 124 = some false := by kernel_rfl
@[go_sem] theorem tyZ124 : tyZero Tryz.prog 124 = some (.raw (.nilFunc)) := by kernel_rfl
@[go_sem] theorem tyE124 : tyElem Tryz.prog 124 = none := by kernel_rfl
@[go_sem] theorem tyS125 : tySize Tryz.prog 125 = some 1 := by kernel_rfl
@[go_sem] theorem tyB125 : tyBytes Tryz.prog 125 = some 8 := by kernel_rfl
@[go_sem] theorem tyG125 : tyAgg Tryz.prog 125 = some false := by kernel_rfl
@[go_sem] theorem tyZ125 : tyZero Tryz.prog 125 = some (.raw (.nilFunc)) := by kernel_rfl
@[go_sem] theorem tyE125 : tyElem Tryz.prog 125 = none := by kernel_rfl
@[go_sem] theorem tyS126 : tySize Tryz.prog 126 = some 1 := by kernel_rfl
@[go_sem] theorem tyB126 : tyBytes Tryz.prog 126 = some 8 := by kernel_rfl
@[go_sem] theorem tyG126 : tyAgg Tryz.prog 126 = some false := by kernel_rfl
@[go_sem] theorem tyZ126 : tyZero Tryz.prog 126 = some (.raw (.nilFunc)) := by kernel_rfl
@[go_sem] theorem tyE126 : tyElem Tryz.prog 126 = none := by kernel_rfl
@[go_sem] theorem tyS127 : tySize Tryz.prog 127 = some 1 := by kernel_rfl
@[go_sem] theorem tyB127 : tyBytes Tryz.prog 127 = some 8 := by kernel_rfl
@[go_sem] theorem tyG127 : tyAgg Tryz.prog 127 = some false := by kernel_rfl
@[go_sem] theorem tyZ127 : tyZero Tryz.prog 127 = some (.raw (.nilFunc)) := by kernel_rfl
@[go_sem] theorem tyE127 : tyElem Tryz.prog 127 = none := by kernel_rfl
@[go_sem] theorem tyS128 : tySize Tryz.prog 128 = some 1 := by kernel_rfl
@[go_sem] theorem tyB128 : tyBytes Tryz.prog 128 = some 8 := by kernel_rfl
@[go_sem] theorem tyG128 : tyAgg Tryz.prog 128 = some false := by kernel_rfl
@[go_sem] theorem tyZ128 : tyZero Tryz.prog 128 = some (.raw (.nilFunc)) := by kernel_rfl
@[go_sem] theorem tyE128 : tyElem Tryz.prog 128 = none := by kernel_rfl
@[go_sem] theorem tyS130 : tySize Tryz.prog 130 = some 1 := by kernel_rfl
@[go_sem] theorem tyB130 : tyBytes Tryz.prog 130 = some 8 := by kernel_rfl
@[go_sem] theorem tyG130 : tyAgg Tryz.prog 130 = some false := by kernel_rfl
@[go_sem] theorem tyZ130 : tyZero Tryz.prog 130 = some (.raw (.nilFunc)) := by kernel_rfl
@[go_sem] theorem tyE130 : tyElem Tryz.prog 130 = none := by kernel_rfl
@[go_sem] theorem tyS131 : tySize Tryz.prog 131 = some 1 := by kernel_rfl
@[go_sem] theorem tyB131 : tyBytes Tryz.prog 131 = some 8 := by kernel_rfl
@[go_sem] theorem tyG131 : tyAgg Tryz.prog 131 = some false := by kernel_rfl
@[go_sem] theorem tyZ131 : tyZero Tryz.prog 131 = some (.raw (.nilFunc)) := by kernel_rfl
@[go_sem] theorem tyE131 : tyElem Tryz.prog 131 = none := by kernel_rfl
@[go_sem] theorem tyS132 : tySize Tryz.prog 132 = some 1 := by kernel_rfl
@[go_sem] theorem tyB132 : tyBytes Tryz.prog 132 = some 8 := by kernel_rfl
@[go_sem] theorem tyG132 : tyAgg Tryz.prog 132 = some false := by kernel_rfl
@[go_sem] theorem tyZ132 : tyZero Tryz.prog 132 = some (.raw (.nilFunc)) := by kernel_rfl
@[go_sem] theorem tyE132 : tyElem Tryz.prog 132 = none := by kernel_rfl
@[go_sem] theorem tyS133 : tySize Tryz.prog 133 = some 1 := by kernel_rfl
@[go_sem] theorem tyB133 : tyBytes Tryz.prog 133 = some 8 := by kernel_rfl
@[go_sem] theorem tyG133 : tyAgg Tryz.prog 133 = some false := by kernel_rfl
@[go_sem] theorem tyZ133 : tyZero Tryz.prog 133 = some (.raw (.nilFunc)) := by kernel_rfl
@[go_sem] theorem tyE133 : tyElem Tryz.prog 133 = none := by kernel_rfl
@[go_sem] theorem tyS134 : tySize Tryz.prog 134 = some 1 := by kernel_rfl
@[go_sem] theorem tyB134 : tyBytes Tryz.prog 134 = some 8 := by kernel_rfl
@[go_sem] theorem tyG134 : tyAgg Tryz.prog 134 = some false := by kernel_rfl
@[go_sem] theorem tyZ134 : tyZero Tryz.prog 134 = some (.raw (.nilFunc)) := by kernel_rfl
@[go_sem] theorem tyE134 : tyElem Tryz.prog 134 = none := by kernel_rfl
@[go_sem] theorem tyS135 : tySize Tryz.prog 135 = some 1 := by kernel_rfl
@[go_sem] theorem tyB135 : tyBytes Tryz.prog 135 = some 8 := by kernel_rfl
@[go_sem] theorem tyG135 : tyAgg Tryz.prog 135 = some false := by kernel_rfl
@[go_sem] theorem tyZ135 : tyZero Tryz.prog 135 = some (.raw (.nilFunc)) := by kernel_rfl
@[go_sem] theorem tyE135 : tyElem Tryz.prog 135 = none := by kernel_rfl
@[go_sem] theorem tyS136 : tySize Tryz.prog 136 = some 1 := by kernel_rfl
@[go_sem] theorem tyB136 : tyBytes Tryz.prog 136 = some 8 := by kernel_rfl
@[go_sem] theorem tyG136 : tyAgg Tryz.prog 136 = some false := by kernel_rfl
@[go_sem] theorem tyZ136 : tyZero Tryz.prog 136 = some (.raw (.nilFunc)) := by kernel_rfl
@[go_sem] theorem tyE136 : tyElem Tryz.prog 136 = none := by kernel_rfl
@[go_sem] theorem tyS138 : tySize Tryz.prog 138 = some 1 := by kernel_rfl
@[go_sem] theorem tyB138 : tyBytes Tryz.prog 138 = some 8 := by kernel_rfl
@[go_sem] theorem tyG138 : tyAgg Tryz.prog 138 = some false := by kernel_rfl
@[go_sem] theorem tyZ138 : tyZero Tryz.prog 138 = some (.raw (.nilFunc)) := by kernel_rfl
@[go_sem] theorem tyE138 : tyElem Tryz.prog 138 = none := by kernel_rfl
@[go_sem] theorem tyS139 : tySize Tryz.prog 139 = some 1 := by kernel_rfl
@[go_sem] theorem tyB139 : tyBytes Tryz.prog 139 = some 8 := by kernel_rfl
@[go_sem] theorem tyG139 : tyAgg Tryz.prog 139 = some false := by kernel_rfl
@[go_sem] theorem tyZ139 : tyZero Tryz.prog 139 = some (.raw (.nilFunc)) := by kernel_rfl
@[go_sem] theorem tyE139 : tyElem Tryz.prog 139 = none := by kernel_rfl
@[go_sem] theorem tyS140 : tySize Tryz.prog 140 = some 1 := by kernel_rfl
@[go_sem] theorem tyB140 : tyBytes Tryz.prog 140 = some 8 := by kernel_rfl
@[go_sem] theorem tyG140 : tyAgg Tryz.prog 140 = some false := by kernel_rfl
@[go_sem] theorem tyZ140 : tyZero Tryz.prog 140 = some (.raw (.int .i64 0)) := by kernel_rfl
@[go_sem] theorem tyE140 : tyElem Tryz.prog 140 = none := by kernel_rfl
@[go_sem] theorem tyU140 : Tryz.prog.underlying 140 = some (.int .i64) := by kernel_rfl
@[go_sem] theorem tyS142 : tySize Tryz.prog 142 = some 1 := by kernel_rfl
@[go_sem] theorem tyB142 : tyBytes Tryz.prog 142 = some 8 := by kernel_rfl
@[go_sem] theorem tyG142 : tyAgg Tryz.prog 142 = some false := by kernel_rfl
@[go_sem] theorem tyZ142 : tyZero Tryz.prog 142 = some (.raw (.nilFunc)) := by kernel_rfl
@[go_sem] theorem tyE142 : tyElem Tryz.prog 142 = none := by kernel_rfl
@[go_sem] theorem tyS143 : tySize Tryz.prog 143 = some 1 := by kernel_rfl
@[go_sem] theorem tyB143 : tyBytes Tryz.prog 143 = some 8 := by kernel_rfl
@[go_sem] theorem tyG143 : tyAgg Tryz.prog 143 = some false := by kernel_rfl
@[go_sem] theorem tyZ143 : tyZero Tryz.prog 143 = some (.raw (.nilFunc)) := by kernel_rfl
@[go_sem] theorem tyE143 : tyElem Tryz.prog 143 = none := by kernel_rfl
@[go_sem] theorem tyS144 : tySize Tryz.prog 144 = some 1 := by kernel_rfl
@[go_sem] theorem tyB144 : tyBytes Tryz.prog 144 = some 8 := by kernel_rfl
@[go_sem] theorem tyG144 : tyAgg Tryz.prog 144 = some false := by kernel_rfl
@[go_sem] theorem tyZ144 : tyZero Tryz.prog 144 = some (.raw (.nilFunc)) := by kernel_rfl
@[go_sem] theorem tyE144 : tyElem Tryz.prog 144 = none := by kernel_rfl
@[go_sem] theorem tyS146 : tySize Tryz.prog 146 = some 1 := by kernel_rfl
@[go_sem] theorem tyB146 : tyBytes Tryz.prog 146 = some 8 := by kernel_rfl
@[go_sem] theorem tyG146 : tyAgg Tryz.prog 146 = some false := by kernel_rfl
@[go_sem] theorem tyZ146 : tyZero Tryz.prog 146 = some (.raw (.nilFunc)) := by kernel_rfl
@[go_sem] theorem tyE146 : tyElem Tryz.prog 146 = none := by kernel_rfl
@[go_sem] theorem tyS147 : tySize Tryz.prog 147 = some 1 := by kernel_rfl
@[go_sem] theorem tyB147 : tyBytes Tryz.prog 147 = some 8 := by kernel_rfl
@[go_sem] theorem tyG147 : tyAgg Tryz.prog 147 = some false := by kernel_rfl
@[go_sem] theorem tyZ147 : tyZero Tryz.prog 147 = some (.raw (.nilFunc)) := by kernel_rfl
@[go_sem] theorem tyE147 : tyElem Tryz.prog 147 = none := by kernel_rfl
@[go_sem] theorem tyS148 : tySize Tryz.prog 148 = some 1 := by kernel_rfl
@[go_sem] theorem tyB148 : tyBytes Tryz.prog 148 = some 8 := by kernel_rfl
@[go_sem] theorem tyG148 : tyAgg Tryz.prog 148 = some false := by kernel_rfl
@[go_sem] theorem tyZ148 : tyZero Tryz.prog 148 = some (.raw (.nilFunc)) := by kernel_rfl
@[go_sem] theorem tyE148 : tyElem Tryz.prog 148 = none := by kernel_rfl
@[go_sem] theorem tyS149 : tySize Tryz.prog 149 = some 1 := by kernel_rfl
@[go_sem] theorem tyB149 : tyBytes Tryz.prog 149 = some 8 := by kernel_rfl
@[go_sem] theorem tyG149 : tyAgg Tryz.prog 149 = some false := by kernel_rfl
@[go_sem] theorem tyZ149 : tyZero Tryz.prog 149 = some (.raw (.nilFunc)) := by kernel_rfl
@[go_sem] theorem tyE149 : tyElem Tryz.prog 149 = none := by kernel_rfl
@[go_sem] theorem tyS151 : tySize Tryz.prog 151 = some 1 := by kernel_rfl
@[go_sem] theorem tyB151 : tyBytes Tryz.prog 151 = some 8 := by kernel_rfl
@[go_sem] theorem tyG151 : tyAgg Tryz.prog 151 = some false := by kernel_rfl
@[go_sem] theorem tyZ151 : tyZero Tryz.prog 151 = some (.raw (.nilFunc)) := by kernel_rfl
@[go_sem] theorem tyE151 : tyElem Tryz.prog 151 = none := by kernel_rfl
@[go_sem] theorem tyS153 : tySize Tryz.prog 153 = some 1 := by kernel_rfl
@[go_sem] theorem tyB153 : tyBytes Tryz.prog 153 = some 8 := by kernel_rfl
@[go_sem] theorem tyG153 : tyAgg Tryz.prog 153 = some false := by kernel_rfl
@[go_sem] theorem tyZ153 : tyZero Tryz.prog 153 = some (.raw (.nilFunc)) := by kernel_rfl
@[go_sem] theorem tyE153 : tyElem Tryz.prog 153 = none := by kernel_rfl
@[go_sem] theorem tyS154 : tySize Tryz.prog 154 = some 1 := by kernel_rfl
@[go_sem] theorem tyB154 : tyBytes Tryz.prog 154 = some 8 := by kernel_rfl
@[go_sem] theorem tyG154 : tyAgg Tryz.prog 154 = some false := by kernel_rfl
@[go_sem] theorem tyZ154 : tyZero Tryz.prog 154 = some (.raw (.nilFunc)) := by kernel_rfl
@[go_sem] theorem tyE154 : tyElem Tryz.prog 154 = none := by kernel_rfl
@[go_sem] theorem tyS155 : tySize Tryz.prog 155 = some 1 := by kernel_rfl
@[go_sem] theorem tyB155 : tyBytes Tryz.prog 155 = some 8 := by kernel_rfl
@[go_sem] theorem tyG155 : tyAgg Tryz.prog 155 = some false := by kernel_rfl
@[go_sem] theorem tyZ155 : tyZero Tryz.prog 155 = some (.raw (.nilFunc)) := by kernel_rfl
@[go_sem] theorem tyE155 : tyElem Tryz.prog 155 = none := by kernel_rfl
@[go_sem] theorem tyS156 : tySize Tryz.prog 156 = some 1 := by kernel_rfl
@[go_sem] theorem tyB156 : tyBytes Tryz.prog 156 = some 8 := by kernel_rfl
@[go_sem] theorem tyG156 : tyAgg Tryz.prog 156 = some false := by kernel_rfl
@[go_sem] theorem tyZ156 : tyZero Tryz.prog 156 = some (.raw (.nilFunc)) := by kernel_rfl
@[go_sem] theorem tyE156 : tyElem Tryz.prog 156 = none := by kernel_rfl
@[go_sem] theorem tyS157 : tySize Tryz.prog 157 = some 1 := by kernel_rfl
@[go_sem] theorem tyB157 : tyBytes Tryz.prog 157 = some 8 := by kernel_rfl
@[go_sem] theorem tyG157 : tyAgg Tryz.prog 157 = some false := by kernel_rfl
@[go_sem] theorem tyZ157 : tyZero Tryz.prog 157 = some (.raw (.nilFunc)) := by kernel_rfl
@[go_sem] theorem tyE157 : tyElem Tryz.prog 157 = none := by kernel_rfl
@[go_sem] theorem tyS158 : tySize Tryz.prog 158 = some 1 := by kernel_rfl
@[go_sem] theorem tyB158 : tyBytes Tryz.prog 158 = some 8 := by kernel_rfl
@[go_sem] theorem tyG158 : tyAgg Tryz.prog 158 = some false := by kernel_rfl
@[go_sem] theorem tyZ158 : tyZero Tryz.prog 158 = some (.raw (.int .u64 0)) := by kernel_rfl
@[go_sem] theorem tyE158 : tyElem Tryz.prog 158 = none := by kernel_rfl
@[go_sem] theorem tyU158 : Tryz.prog.underlying 158 = some (.int .u64) := by kernel_rfl
@[go_sem] theorem tyS159 : tySize Tryz.prog 159 = some 1 := by kernel_rfl
@[go_sem] theorem tyB159 : tyBytes Tryz.prog 159 = some 8 := by kernel_rfl
@[go_sem] theorem tyG159 : tyAgg Tryz.prog 159 = some false := by kernel_rfl
@[go_sem] theorem tyZ159 : tyZero Tryz.prog 159 = some (.raw (.nilFunc)) := by kernel_rfl
@[go_sem] theorem tyE159 : tyElem Tryz.prog 159 = none := by kernel_rfl
@[go_sem] theorem tyS160 : tySize Tryz.prog 160 = some 1 := by kernel_rfl
@[go_sem] theorem tyB160 : tyBytes Tryz.prog 160 = some 8 := by kernel_rfl
@[go_sem] theorem tyG160 : tyAgg Tryz.prog 160 = some false := by kernel_rfl
@[go_sem] theorem tyZ160 : tyZero Tryz.prog 160 = some (.raw (.nilFunc)) := by kernel_rfl
@[go_sem] theorem tyE160 : tyElem Tryz.prog 160 = none := by kernel_rfl
@[go_sem] theorem tyS161 : tySize Tryz.prog 161 = some 1 := by kernel_rfl
@[go_sem] theorem tyB161 : tyBytes Tryz.prog 161 = some 8 := by kernel_rfl
@[go_sem] theorem tyG161 : tyAgg Tryz.prog 161 = some false := by kernel_rfl
@[go_sem] theorem tyZ161 : tyZero Tryz.prog 161 = some (.raw (.nilFunc)) := by kernel_rfl
@[go_sem] theorem tyE161 : tyElem Tryz.prog 161 = none := by kernel_rfl
@[go_sem] theorem tyS162 : tySize Tryz.prog 162 = some 1 := by kernel_rfl
@[go_sem] theorem tyB162 : tyBytes Tryz.prog 162 = some 8 := by kernel_rfl
@[go_sem] theorem tyG162 : tyAgg Tryz.prog 162 = some false := by kernel_rfl
@[go_sem] theorem tyZ162 : tyZero Tryz.prog 162 = some (.raw (.pointer none)) := by kernel_rfl
@[go_sem] theorem tyE162 : tyElem Tryz.prog 162 = none := by kernel_rfl
@[go_sem] theorem tyS163 : tySize Tryz.prog 163 = some 1 := by kernel_rfl
@[go_sem] theorem tyB163 : tyBytes Tryz.prog 163 = some 8 := by kernel_rfl
@[go_sem] theorem tyG163 : tyAgg Tryz.prog 163 = some false := by kernel_rfl
@[go_sem] theorem tyZ163 : tyZero Tryz.prog 163 = some (.raw (.nilFunc)) := by kernel_rfl
@[go_sem] theorem tyE163 : tyElem Tryz.prog 163 = none := by kernel_rfl
@[go_sem] theorem tyS164 : tySize Tryz.prog 164 = some 1 := by kernel_rfl
@[go_sem] theorem tyB164 : tyBytes Tryz.prog 164 = some 8 := by kernel_rfl
@[go_sem] theorem tyG164 : tyAgg Tryz.prog 164 = some false := by kernel_rfl
@[go_sem] theorem tyZ164 : tyZero Tryz.prog 164 = some (.raw (.nilFunc)) := by kernel_rfl
@[go_sem] theorem tyE164 : tyElem Tryz.prog 164 = none := by kernel_rfl
@[go_sem] theorem tyS165 : tySize Tryz.prog 165 = some 1 := by kernel_rfl
@[go_sem] theorem tyB165 : tyBytes Tryz.prog 165 = some 8 := by kernel_rfl
@[go_sem] theorem tyG165 : tyAgg Tryz.prog 165 = some false := by kernel_rfl
@[go_sem] theorem tyZ165 : tyZero Tryz.prog 165 = some (.raw (.nilFunc)) := by kernel_rfl
@[go_sem] theorem tyE165 : tyElem Tryz.prog 165 = none := by kernel_rfl
@[go_sem] theorem tyS166 : tySize Tryz.prog 166 = some 1 := by kernel_rfl
@[go_sem] theorem tyB166 : tyBytes Tryz.prog 166 = some 8 := by kernel_rfl
@[go_sem] theorem tyG166 : tyAgg Tryz.prog 166 = some false := by kernel_rfl
@[go_sem] theorem tyZ166 : tyZero Tryz.prog 166 = some (.raw (.nilFunc)) := by kernel_rfl
@[go_sem] theorem tyE166 : tyElem Tryz.prog 166 = none := by kernel_rfl
@[go_sem] theorem tyS167 : tySize Tryz.prog 167 = some 1 := by kernel_rfl
@[go_sem] theorem tyB167 : tyBytes Tryz.prog 167 = some 8 := by kernel_rfl
@[go_sem] theorem tyG167 : tyAgg Tryz.prog 167 = some false := by kernel_rfl
@[go_sem] theorem tyZ167 : tyZero Tryz.prog 167 = some (.raw (.pointer none)) := by kernel_rfl
@[go_sem] theorem tyE167 : tyElem Tryz.prog 167 = none := by kernel_rfl
@[go_sem] theorem tyS169 : tySize Tryz.prog 169 = some 1 := by kernel_rfl
@[go_sem] theorem tyB169 : tyBytes Tryz.prog 169 = some 8 := by kernel_rfl
@[go_sem] theorem tyG169 : tyAgg Tryz.prog 169 = some false := by kernel_rfl
@[go_sem] theorem tyZ169 : tyZero Tryz.prog 169 = some (.raw (.nilFunc)) := by kernel_rfl
@[go_sem] theorem tyE169 : tyElem Tryz.prog 169 = none := by kernel_rfl
@[go_sem] theorem tyS170 : tySize Tryz.prog 170 = some 1 := by kernel_rfl
@[go_sem] theorem tyB170 : tyBytes Tryz.prog 170 = some 8 := by kernel_rfl
@[go_sem] theorem tyG170 : tyAgg Tryz.prog 170 = some false := by kernel_rfl
@[go_sem] theorem tyZ170 : tyZero Tryz.prog 170 = some (.raw (.nilFunc)) := by kernel_rfl
@[go_sem] theorem tyE170 : tyElem Tryz.prog 170 = none := by kernel_rfl
@[go_sem] theorem tyS171 : tySize Tryz.prog 171 = some 4 := by kernel_rfl
@[go_sem] theorem tyB171 : tyBytes Tryz.prog 171 = some 40 := by kernel_rfl
@[go_sem] theorem tyG171 : tyAgg Tryz.prog 171 = some true := by kernel_rfl
@[go_sem] theorem tyZ171 : tyZero Tryz.prog 171 = some (.agg [.raw (.pointer none), .raw (.pointer none), .raw (.pointer none), .raw (.string ⟨#[]⟩)]) := by kernel_rfl
@[go_sem] theorem tyE171 : tyElem Tryz.prog 171 = none := by kernel_rfl
@[go_sem] theorem tyF171_0 : tyField Tryz.prog 171 0 = some (0, 1, false) := by kernel_rfl
@[go_sem] theorem tyP171_0 : tyPlace Tryz.prog 171 0 = some (0, 1) := by kernel_rfl
@[go_sem] theorem tyF171_1 : tyField Tryz.prog 171 1 = some (1, 1, false) := by kernel_rfl
@[go_sem] theorem tyP171_1 : tyPlace Tryz.prog 171 1 = some (1, 1) := by kernel_rfl
@[go_sem] theorem tyF171_2 : tyField Tryz.prog 171 2 = some (2, 1, false) := by kernel_rfl
@[go_sem] theorem tyP171_2 : tyPlace Tryz.prog 171 2 = some (2, 1) := by kernel_rfl
@[go_sem] theorem tyF171_3 : tyField Tryz.prog 171 3 = some (3, 1, false) := by kernel_rfl
@[go_sem] theorem tyP171_3 : tyPlace Tryz.prog 171 3 = some (3, 1) := by kernel_rfl
@[go_sem] theorem tyK171 : tyKids Tryz.prog 171 = some (.agg [.raw (.pointer none), .raw (.pointer none), .raw (.pointer none), .raw (.string ⟨#[]⟩)]) := by kernel_rfl
@[go_sem] theorem tyS172 : tySize Tryz.prog 172 = some 4 := by kernel_rfl
@[go_sem] theorem tyB172 : tyBytes Tryz.prog 172 = some 40 := by kernel_rfl
@[go_sem] theorem tyG172 : tyAgg Tryz.prog 172 = some true := by kernel_rfl
@[go_sem] theorem tyZ172 : tyZero Tryz.prog 172 = some (.agg [.raw (.pointer none), .raw (.pointer none), .raw (.pointer none), .raw (.string ⟨#[]⟩)]) := by kernel_rfl
@[go_sem] theorem tyE172 : tyElem Tryz.prog 172 = none := by kernel_rfl
@[go_sem] theorem tyF172_0 : tyField Tryz.prog 172 0 = some (0, 1, false) := by kernel_rfl
@[go_sem] theorem tyP172_0 : tyPlace Tryz.prog 172 0 = some (0, 1) := by kernel_rfl
@[go_sem] theorem tyF172_1 : tyField Tryz.prog 172 1 = some (1, 1, false) := by kernel_rfl
@[go_sem] theorem tyP172_1 : tyPlace Tryz.prog 172 1 = some (1, 1) := by kernel_rfl
@[go_sem] theorem tyF172_2 : tyField Tryz.prog 172 2 = some (2, 1, false) := by kernel_rfl
@[go_sem] theorem tyP172_2 : tyPlace Tryz.prog 172 2 = some (2, 1) := by kernel_rfl
@[go_sem] theorem tyF172_3 : tyField Tryz.prog 172 3 = some (3, 1, false) := by kernel_rfl
@[go_sem] theorem tyP172_3 : tyPlace Tryz.prog 172 3 = some (3, 1) := by kernel_rfl
@[go_sem] theorem tyK172 : tyKids Tryz.prog 172 = some (.agg [.raw (.pointer none), .raw (.pointer none), .raw (.pointer none), .raw (.string ⟨#[]⟩)]) := by kernel_rfl
@[go_sem] theorem tyS173 : tySize Tryz.prog 173 = some 0 := by kernel_rfl
@[go_sem] theorem tyB173 : tyBytes Tryz.prog 173 = some 0 := by kernel_rfl
@[go_sem] theorem tyG173 : tyAgg Tryz.prog 173 = some true := by kernel_rfl
@[go_sem] theorem tyZ173 : tyZero Tryz.prog 173 = some (.agg []) := by kernel_rfl
@[go_sem] theorem tyE173 : tyElem Tryz.prog 173 = none := by kernel_rfl
@[go_sem] theorem tyA173 : tyArr Tryz.prog 173 = some (0, 16, 1) := by kernel_rfl
@[go_sem] theorem tyK173 : tyKids Tryz.prog 173 = some (.agg []) := by kernel_rfl
@[go_sem] theorem tyU173 : Tryz.prog.underlying 173 = some (.array 0 16) := by kernel_rfl
@[go_sem] theorem tyS174 : tySize Tryz.prog 174 = some 0 := by kernel_rfl
@[go_sem] theorem tyB174 : tyBytes Tryz.prog 174 = some 0 := by kernel_rfl
@[go_sem] theorem tyG174 : tyAgg Tryz.prog 174 = some true := by kernel_rfl
@[go_sem] theorem tyZ174 : tyZero Tryz.prog 174 = some (.agg []) := by kernel_rfl
@[go_sem] theorem tyE174 : tyElem Tryz.prog 174 = none := by kernel_rfl
@[go_sem] theorem tyF174_0 : tyField Tryz.prog 174 0 = some (0, 0, true) := by kernel_rfl
@[go_sem] theorem tyP174_0 : tyPlace Tryz.prog 174 0 = some (0, 0) := by kernel_rfl
@[go_sem] theorem tyK174 : tyKids Tryz.prog 174 = some (.agg [.agg []]) := by kernel_rfl
@[go_sem] theorem tyS175 : tySize Tryz.prog 175 = some 0 := by kernel_rfl
@[go_sem] theorem tyB175 : tyBytes Tryz.prog 175 = some 0 := by kernel_rfl
@[go_sem] theorem tyG175 : tyAgg Tryz.prog 175 = some true := by kernel_rfl
@[go_sem] theorem tyZ175 : tyZero Tryz.prog 175 = some (.agg []) := by kernel_rfl
@[go_sem] theorem tyE175 : tyElem Tryz.prog 175 = none := by kernel_rfl
@[go_sem] theorem tyF175_0 : tyField Tryz.prog 175 0 = some (0, 0, true) := by kernel_rfl
@[go_sem] theorem tyP175_0 : tyPlace Tryz.prog 175 0 = some (0, 0) := by kernel_rfl
@[go_sem] theorem tyK175 : tyKids Tryz.prog 175 = some (.agg [.agg []]) := by kernel_rfl
@[go_sem] theorem tyS176 : tySize Tryz.prog 176 = some 1 := by kernel_rfl
@[go_sem] theorem tyB176 : tyBytes Tryz.prog 176 = some 8 := by kernel_rfl
@[go_sem] theorem tyG176 : tyAgg Tryz.prog 176 = some false := by kernel_rfl
@[go_sem] theorem tyZ176 : tyZero Tryz.prog 176 = some (.raw (.nilFunc)) := by kernel_rfl
@[go_sem] theorem tyE176 : tyElem Tryz.prog 176 = none := by kernel_rfl
@[go_sem] theorem tyS177 : tySize Tryz.prog 177 = some 1 := by kernel_rfl
@[go_sem] theorem tyB177 : tyBytes Tryz.prog 177 = some 1 := by kernel_rfl
@[go_sem] theorem tyG177 : tyAgg Tryz.prog 177 = some false := by kernel_rfl
@[go_sem] theorem tyZ177 : tyZero Tryz.prog 177 = some (.raw (.int .u8 0)) := by kernel_rfl
@[go_sem] theorem tyE177 : tyElem Tryz.prog 177 = none := by kernel_rfl
@[go_sem] theorem tyU177 : Tryz.prog.underlying 177 = some (.int .u8) := by kernel_rfl
@[go_sem] theorem tyS178 : tySize Tryz.prog 178 = some 1 := by kernel_rfl
@[go_sem] theorem tyB178 : tyBytes Tryz.prog 178 = some 1 := by kernel_rfl
@[go_sem] theorem tyG178 : tyAgg Tryz.prog 178 = some false := by kernel_rfl
@[go_sem] theorem tyZ178 : tyZero Tryz.prog 178 = some (.raw (.int .u8 0)) := by kernel_rfl
@[go_sem] theorem tyE178 : tyElem Tryz.prog 178 = none := by kernel_rfl
@[go_sem] theorem tyU178 : Tryz.prog.underlying 178 = some (.int .u8) := by kernel_rfl
@[go_sem] theorem tyS179 : tySize Tryz.prog 179 = some 1 := by kernel_rfl
@[go_sem] theorem tyB179 : tyBytes Tryz.prog 179 = some 8 := by kernel_rfl
@[go_sem] theorem tyG179 : tyAgg Tryz.prog 179 = some false := by kernel_rfl
@[go_sem] theorem tyZ179 : tyZero Tryz.prog 179 = some (.raw (.nilFunc)) := by kernel_rfl
@[go_sem] theorem tyE179 : tyElem Tryz.prog 179 = none := by kernel_rfl
@[go_sem] theorem tyS180 : tySize Tryz.prog 180 = some 1 := by kernel_rfl
@[go_sem] theorem tyB180 : tyBytes Tryz.prog 180 = some 8 := by kernel_rfl
@[go_sem] theorem tyG180 : tyAgg Tryz.prog 180 = some false := by kernel_rfl
@[go_sem] theorem tyZ180 : tyZero Tryz.prog 180 = some (.raw (.pointer none)) := by kernel_rfl
@[go_sem] theorem tyE180 : tyElem Tryz.prog 180 = none := by kernel_rfl
@[go_sem] theorem tyS181 : tySize Tryz.prog 181 = some 1 := by kernel_rfl
@[go_sem] theorem tyB181 : tyBytes Tryz.prog 181 = some 4 := by kernel_rfl
@[go_sem] theorem tyG181 : tyAgg Tryz.prog 181 = some false := by kernel_rfl
@[go_sem] theorem tyZ181 : tyZero Tryz.prog 181 = some (.raw (.int .i32 0)) := by kernel_rfl
@[go_sem] theorem tyE181 : tyElem Tryz.prog 181 = none := by kernel_rfl
@[go_sem] theorem tyU181 : Tryz.prog.underlying 181 = some (.int .i32) := by kernel_rfl
@[go_sem] theorem tyS182 : tySize Tryz.prog 182 = some 1 := by kernel_rfl
@[go_sem] theorem tyB182 : tyBytes Tryz.prog 182 = some 4 := by kernel_rfl
@[go_sem] theorem tyG182 : tyAgg Tryz.prog 182 = some false := by kernel_rfl
@[go_sem] theorem tyZ182 : tyZero Tryz.prog 182 = some (.raw (.int .i32 0)) := by kernel_rfl
@[go_sem] theorem tyE182 : tyElem Tryz.prog 182 = none := by kernel_rfl
@[go_sem] theorem tyU182 : Tryz.prog.underlying 182 = some (.int .i32) := by kernel_rfl
@[go_sem] theorem tyS183 : tySize Tryz.prog 183 = some 11 := by kernel_rfl
@[go_sem] theorem tyB183 : tyBytes Tryz.prog 183 = some 48 := by kernel_rfl
@[go_sem] theorem tyG183 : tyAgg Tryz.prog 183 = some true := by kernel_rfl
@[go_sem] theorem tyZ183 : tyZero Tryz.prog 183 = some (.agg [.raw (.int .u64 0), .raw (.int .u64 0), .raw (.int .u32 0), .raw (.int .u8 0), .raw (.int .u8 0), .raw (.int .u8 0), .raw (.int .u8 0), .raw (.nilFunc), .raw (.pointer none), .raw (.int .i32 0), .raw (.int .i32 0)]) := by kernel_rfl
@[go_sem] theorem tyE183 : tyElem Tryz.prog 183 = none := by kernel_rfl
@[go_sem] theorem tyF183_0 : tyField Tryz.prog 183 0 = some (0, 1, false) := by kernel_rfl
@[go_sem] theorem tyP183_0 : tyPlace Tryz.prog 183 0 = some (0, 1) := by kernel_rfl
@[go_sem] theorem tyF183_1 : tyField Tryz.prog 183 1 = some (1, 1, false) := by kernel_rfl
@[go_sem] theorem tyP183_1 : tyPlace Tryz.prog 183 1 = some (1, 1) := by kernel_rfl
@[go_sem] theorem tyF183_2 : tyField Tryz.prog 183 2 = some (2, 1, false) := by kernel_rfl
@[go_sem] theorem tyP183_2 : tyPlace Tryz.prog 183 2 = some (2, 1) := by kernel_rfl
@[go_sem] theorem tyF183_3 : tyField Tryz.prog 183 3 = some (3, 1, false) := by kernel_rfl
@[go_sem] theorem tyP183_3 : tyPlace Tryz.prog 183 3 = some (3, 1) := by kernel_rfl
@[go_sem] theorem tyF183_4 : tyField Tryz.prog 183 4 = some (4, 1, false) := by kernel_rfl
@[go_sem] theorem tyP183_4 : tyPlace Tryz.prog 183 4 = some (4, 1) := by kernel_rfl
@[go_sem] theorem tyF183_5 : tyField Tryz.prog 183 5 = some (5, 1, false) := by kernel_rfl
@[go_sem] theorem tyP183_5 : tyPlace Tryz.prog 183 5 = some (5, 1) := by kernel_rfl
@[go_sem] theorem tyF183_6 : tyField Tryz.prog 183 6 = some (6, 1, false) := by kernel_rfl
@[go_sem] theorem tyP183_6 : tyPlace Tryz.prog 183 6 = some (6, 1) := by kernel_rfl
@[go_sem] theorem tyF183_7 : tyField Tryz.prog 183 7 = some (7, 1, false) := by kernel_rfl
@[go_sem] theorem tyP183_7 : tyPlace Tryz.prog 183 7 = some (7, 1) := by kernel_rfl
@[go_sem] theorem tyF183_8 : tyField Tryz.prog 183 8 = some (8, 1, false) := by kernel_rfl
@[go_sem] theorem tyP183_8 : tyPlace Tryz.prog 183 8 = some (8, 1) := by kernel_rfl
@[go_sem] theorem tyF183_9 : tyField Tryz.prog 183 9 = some (9, 1, false) := by kernel_rfl
@[go_sem] theorem tyP183_9 : tyPlace Tryz.prog 183 9 = some (9, 1) := by kernel_rfl
@[go_sem] theorem tyF183_10 : tyField Tryz.prog 183 10 = some (10, 1, false) := by kernel_rfl
@[go_sem] theorem tyP183_10 : tyPlace Tryz.prog 183 10 = some (10, 1) := by kernel_rfl
@[go_sem] theorem tyK183 : tyKids Tryz.prog 183 = some (.agg [.raw (.int .u64 0), .raw (.int .u64 0), .raw (.int .u32 0), .raw (.int .u8 0), .raw (.int .u8 0), .raw (.int .u8 0), .raw (.int .u8 0), .raw (.nilFunc), .raw (.pointer none), .raw (.int .i32 0), .raw (.int .i32 0)]) := by kernel_rfl
@[go_sem] theorem tyS184 : tySize Tryz.prog 184 = some 11 := by kernel_rfl
@[go_sem] theorem tyB184 : tyBytes Tryz.prog 184 = some 48 := by kernel_rfl
@[go_sem] theorem tyG184 : tyAgg Tryz.prog 184 = some true := by kernel_rfl
@[go_sem] theorem tyZ184 : tyZero Tryz.prog 184 = some (.agg [.raw (.int .u64 0), .raw (.int .u64 0), .raw (.int .u32 0), .raw (.int .u8 0), .raw (.int .u8 0), .raw (.int .u8 0), .raw (.int .u8 0), .raw (.nilFunc), .raw (.pointer none), .raw (.int .i32 0), .raw (.int .i32 0)]) := by kernel_rfl
@[go_sem] theorem tyE184 : tyElem Tryz.prog 184 = none := by kernel_rfl
@[go_sem] theorem tyF184_0 : tyField Tryz.prog 184 0 = some (0, 1, false) := by kernel_rfl
@[go_sem] theorem tyP184_0 : tyPlace Tryz.prog 184 0 = some (0, 1) := by kernel_rfl
@[go_sem] theorem tyF184_1 : tyField Tryz.prog 184 1 = some (1, 1, false) := by kernel_rfl
@[go_sem] theorem tyP184_1 : tyPlace Tryz.prog 184 1 = some (1, 1) := by kernel_rfl
@[go_sem] theorem tyF184_2 : tyField Tryz.prog 184 2 = some (2, 1, false) := by kernel_rfl
@[go_sem] theorem tyP184_2 : tyPlace Tryz.prog 184 2 = some (2, 1) := by kernel_rfl
@[go_sem] theorem tyF184_3 : tyField Tryz.prog 184 3 = some (3, 1, false) := by kernel_rfl
@[go_sem] theorem tyP184_3 : tyPlace Tryz.prog 184 3 = some (3, 1) := by kernel_rfl
@[go_sem] theorem tyF184_4 : tyField Tryz.prog 184 4 = some (4, 1, false) := by kernel_rfl
@[go_sem] theorem tyP184_4 : tyPlace Tryz.prog 184 4 = some (4, 1) := by kernel_rfl
@[go_sem] theorem tyF184_5 : tyField Tryz.prog 184 5 = some (5, 1, false) := by kernel_rfl
@[go_sem] theorem tyP184_5 : tyPlace Tryz.prog 184 5 = some (5, 1) := by kernel_rfl
@[go_sem] theorem tyF184_6 : tyField Tryz.prog 184 6 = some (6, 1, false) := by kernel_rfl
@[go_sem] theorem tyP184_6 : tyPlace Tryz.prog 184 6 = some (6, 1) := by kernel_rfl
@[go_sem] theorem tyF184_7 : tyField Tryz.prog 184 7 = some (7, 1, false) := by kernel_rfl
@[go_sem] theorem tyP184_7 : tyPlace Tryz.prog 184 7 = some (7, 1) := by kernel_rfl
@[go_sem] theorem tyF184_8 : tyField Tryz.prog 184 8 = some (8, 1, false) := by kernel_rfl
@[go_sem] theorem tyP184_8 : tyPlace Tryz.prog 184 8 = some (8, 1) := by kernel_rfl
@[go_sem] theorem tyF184_9 : tyField Tryz.prog 184 9 = some (9, 1, false) := by kernel_rfl
@[go_sem] theorem tyP184_9 : tyPlace Tryz.prog 184 9 = some (9, 1) := by kernel_rfl
@[go_sem] theorem tyF184_10 : tyField Tryz.prog 184 10 = some (10, 1, false) := by kernel_rfl
@[go_sem] theorem tyP184_10 : tyPlace Tryz.prog 184 10 = some (10, 1) := by kernel_rfl
@[go_sem] theorem tyK184 : tyKids Tryz.prog 184 = some (.agg [.raw (.int .u64 0), .raw (.int .u64 0), .raw (.int .u32 0), .raw (.int .u8 0), .raw (.int .u8 0), .raw (.int .u8 0), .raw (.int .u8 0), .raw (.nilFunc), .raw (.pointer none), .raw (.int .i32 0), .raw (.int .i32 0)]) := by kernel_rfl
end Go.Proofs.YtlhapagililgmaaGreat

