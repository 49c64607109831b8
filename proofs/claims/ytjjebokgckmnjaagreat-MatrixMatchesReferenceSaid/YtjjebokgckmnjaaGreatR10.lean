/- Texts Ty in one. -/
import Derived.Test.YtjjebokgckmnjaaGreatR09
import Derived.Test.YtjjebokgckmnjaaGreatRows
import Derived.KernelRfl
/- Facts on the types of the program, printed by a program of mine. -/
namespace Go.Proofs.YtjjebokgckmnjaaGreat
@[go_sem] theorem tyS1 : tySize Tryz.prog 1 = some 1 := by kernel_rfl
@[go_sem] theorem tyB1 : tyBytes Tryz.prog 1 = some 8 := by kernel_rfl
@[go_sem] theorem tyG1 : tyAgg Tryz.prog 1 = some false := by kernel_rfl
@[go_sem] theorem tyZ1 : tyZero Tryz.prog 1 = some (.raw (.nilFunc)) := by kernel_rfl
@[go_sem] theorem tyE1 : tyElem Tryz.prog 1 = none := by kernel_rfl
@[go_sem] theorem tyS2 : tySize Tryz.prog 2 = some 1 := by kernel_rfl
@[go_sem] theorem tyB2 : tyBytes Tryz.prog 2 = some 8 := by kernel_rfl
@[go_sem] theorem tyG2 : tyAgg Tryz.prog 2 = some false := by kernel_rfl
@[go_sem] theorem tyZ2 : tyZero Tryz.prog 2 = some (.raw (.int .i64 0)) := by kernel_rfl
@[go_sem] theorem tyE2 : tyElem Tryz.prog 2 = none := by kernel_rfl
@[go_sem] theorem tyU2 : Tryz.prog.underlying 2 = some (.int .i64) := by kernel_rfl
@[go_sem] theorem tyS3 : tySize Tryz.prog 3 = some 1 := by kernel_rfl
@[go_sem] theorem tyB3 : tyBytes Tryz.prog 3 = some 8 := by kernel_rfl
@[go_sem] theorem tyG3 : tyAgg Tryz.prog 3 = some false := by kernel_rfl
@[go_sem] theorem tyZ3 : tyZero Tryz.prog 3 = some (.raw (.int .i64 0)) := by kernel_rfl
@[go_sem] theorem tyE3 : tyElem Tryz.prog 3 = none := by kernel_rfl
@[go_sem] theorem tyU3 : Tryz.prog.underlying 3 = some (.int .i64) := by kernel_rfl
@[go_sem] theorem tyS4 : tySize Tryz.prog 4 = some 1 := by kernel_rfl
@[go_sem] theorem tyB4 : tyBytes Tryz.prog 4 = some 1 := by kernel_rfl
@[go_sem] theorem tyG4 : tyAgg Tryz.prog 4 = some false := by kernel_rfl
@[go_sem] theorem tyZ4 : tyZero Tryz.prog 4 = some (.raw (.bool false)) := by kernel_rfl
@[go_sem] theorem tyE4 : tyElem Tryz.prog 4 = none := by kernel_rfl
@[go_sem] theorem tyU4 : Tryz.prog.underlying 4 = some .bool := by kernel_rfl
@[go_sem] theorem tyS5 : tySize Tryz.prog 5 = some 1 := by kernel_rfl
@[go_sem] theorem tyB5 : tyBytes Tryz.prog 5 = some 1 := by kernel_rfl
@[go_sem] theorem tyG5 : tyAgg Tryz.prog 5 = some false := by kernel_rfl
@[go_sem] theorem tyZ5 : tyZero Tryz.prog 5 = some (.raw (.int .u8 0)) := by kernel_rfl
@[go_sem] theorem tyE5 : tyElem Tryz.prog 5 = none := by kernel_rfl
@[go_sem] theorem tyU5 : Tryz.prog.underlying 5 = some (.int .u8) := by kernel_rfl
@[go_sem] theorem tyS6 : tySize Tryz.prog 6 = some 1 := by kernel_rfl
@[go_sem] theorem tyB6 : tyBytes Tryz.prog 6 = some 1 := by kernel_rfl
@[go_sem] theorem tyG6 : tyAgg Tryz.prog 6 = some false := by kernel_rfl
@[go_sem] theorem tyZ6 : tyZero Tryz.prog 6 = some (.raw (.int .u8 0)) := by kernel_rfl
@[go_sem] theorem tyE6 : tyElem Tryz.prog 6 = none := by kernel_rfl
@[go_sem] theorem tyU6 : Tryz.prog.underlying 6 = some (.int .u8) := by kernel_rfl
@[go_sem] theorem tyS7 : tySize Tryz.prog 7 = some 4 := by kernel_rfl
@[go_sem] theorem tyB7 : tyBytes Tryz.prog 7 = some 24 := by kernel_rfl
@[go_sem] theorem tyG7 : tyAgg Tryz.prog 7 = some true := by kernel_rfl
@[go_sem] theorem tyZ7 : tyZero Tryz.prog 7 = some (.agg [.raw (.int .i64 0), .raw (.int .i64 0), .raw (.bool false), .raw (.int .u8 0)]) := by kernel_rfl
@[go_sem] theorem tyE7 : tyElem Tryz.prog 7 = none := by kernel_rfl
@[go_sem] theorem tyF7_0 : tyField Tryz.prog 7 0 = some (0, 1, false) := by kernel_rfl
@[go_sem] theorem tyP7_0 : tyPlace Tryz.prog 7 0 = some (0, 1) := by kernel_rfl
@[go_sem] theorem tyF7_1 : tyField Tryz.prog 7 1 = some (1, 1, false) := by kernel_rfl
@[go_sem] theorem tyP7_1 : tyPlace Tryz.prog 7 1 = some (1, 1) := by kernel_rfl
@[go_sem] theorem tyF7_2 : tyField Tryz.prog 7 2 = some (2, 1, false) := by kernel_rfl
@[go_sem] theorem tyP7_2 : tyPlace Tryz.prog 7 2 = some (2, 1) := by kernel_rfl
@[go_sem] theorem tyF7_3 : tyField Tryz.prog 7 3 = some (3, 1, false) := by kernel_rfl
@[go_sem] theorem tyP7_3 : tyPlace Tryz.prog 7 3 = some (3, 1) := by kernel_rfl
@[go_sem] theorem tyK7 : tyKids Tryz.prog 7 = some (.agg [.raw (.int .i64 0), .raw (.int .i64 0), .raw (.bool false), .raw (.int .u8 0)]) := by kernel_rfl
@[go_sem] theorem tyS8 : tySize Tryz.prog 8 = some 4 := by kernel_rfl
@[go_sem] theorem tyB8 : tyBytes Tryz.prog 8 = some 24 := by kernel_rfl
@[go_sem] theorem tyG8 : tyAgg Tryz.prog 8 = some true := by kernel_rfl
@[go_sem] theorem tyZ8 : tyZero Tryz.prog 8 = some (.agg [.raw (.int .i64 0), .raw (.int .i64 0), .raw (.bool false), .raw (.int .u8 0)]) := by kernel_rfl
@[go_sem] theorem tyE8 : tyElem Tryz.prog 8 = none := by kernel_rfl
@[go_sem] theorem tyF8_0 : tyField Tryz.prog 8 0 = some (0, 1, false) := by kernel_rfl
@[go_sem] theorem tyP8_0 : tyPlace Tryz.prog 8 0 = some (0, 1) := by kernel_rfl
@[go_sem] theorem tyF8_1 : tyField Tryz.prog 8 1 = some (1, 1, false) := by kernel_rfl
@[go_sem] theorem tyP8_1 : tyPlace Tryz.prog 8 1 = some (1, 1) := by kernel_rfl
@[go_sem] theorem tyF8_2 : tyField Tryz.prog 8 2 = some (2, 1, false) := by kernel_rfl
@[go_sem] theorem tyP8_2 : tyPlace Tryz.prog 8 2 = some (2, 1) := by kernel_rfl
@[go_sem] theorem tyF8_3 : tyField Tryz.prog 8 3 = some (3, 1, false) := by kernel_rfl
@[go_sem] theorem tyP8_3 : tyPlace Tryz.prog 8 3 = some (3, 1) := by kernel_rfl
@[go_sem] theorem tyK8 : tyKids Tryz.prog 8 = some (.agg [.raw (.int .i64 0), .raw (.int .i64 0), .raw (.bool false), .raw (.int .u8 0)]) := by kernel_rfl
@[go_sem] theorem tyS9 : tySize Tryz.prog 9 = some 1 := by kernel_rfl
@[go_sem] theorem tyB9 : tyBytes Tryz.prog 9 = some 16 := by kernel_rfl
@[go_sem] theorem tyG9 : tyAgg Tryz.prog 9 = some false := by kernel_rfl
@[go_sem] theorem tyZ9 : tyZero Tryz.prog 9 = some (.raw (.string ⟨#[]⟩)) := by kernel_rfl
@[go_sem] theorem tyE9 : tyElem Tryz.prog 9 = none := by kernel_rfl
@[go_sem] theorem tyU9 : Tryz.prog.underlying 9 = some .string := by kernel_rfl
@[go_sem] theorem tyS10 : tySize Tryz.prog 10 = some 1 := by kernel_rfl
@[go_sem] theorem tyB10 : tyBytes Tryz.prog 10 = some 16 := by kernel_rfl
@[go_sem] theorem tyG10 : tyAgg Tryz.prog 10 = some false := by kernel_rfl
@[go_sem] theorem tyZ10 : tyZero Tryz.prog 10 = some (.raw (.string ⟨#[]⟩)) := by kernel_rfl
@[go_sem] theorem tyE10 : tyElem Tryz.prog 10 = none := by kernel_rfl
@[go_sem] theorem tyU10 : Tryz.prog.underlying 10 = some .string := by kernel_rfl
@[go_sem] theorem tyS11 : tySize Tryz.prog 11 = some 1 := by kernel_rfl
@[go_sem] theorem tyB11 : tyBytes Tryz.prog 11 = some 16 := by kernel_rfl
@[go_sem] theorem tyG11 : tyAgg Tryz.prog 11 = some false := by kernel_rfl
@[go_sem] theorem tyZ11 : tyZero Tryz.prog 11 = some (.raw (.string ⟨#[]⟩)) := by kernel_rfl
@[go_sem] theorem tyE11 : tyElem Tryz.prog 11 = none := by kernel_rfl
@[go_sem] theorem tyU11 : Tryz.prog.underlying 11 = some .string := by kernel_rfl
@[go_sem] theorem tyS12 : tySize Tryz.prog 12 = some 1 := by kernel_rfl
@[go_sem] theorem tyB12 : tyBytes Tryz.prog 12 = some 8 := by kernel_rfl
@[go_sem] theorem tyG12 : tyAgg Tryz.prog 12 = some false := by kernel_rfl
@[go_sem] theorem tyZ12 : tyZero Tryz.prog 12 = some (.raw (.int .u64 0)) := by kernel_rfl
@[go_sem] theorem tyE12 : tyElem Tryz.prog 12 = none := by kernel_rfl
@[go_sem] theorem tyU12 : Tryz.prog.underlying 12 = some (.int .u64) := by kernel_rfl
@[go_sem] theorem tyS13 : tySize Tryz.prog 13 = some 2 := by kernel_rfl
@[go_sem] theorem tyB13 : tyBytes Tryz.prog 13 = some 24 := by kernel_rfl
@[go_sem] theorem tyG13 : tyAgg Tryz.prog 13 = some true := by kernel_rfl
@[go_sem] theorem tyZ13 : tyZero Tryz.prog 13 = some (.agg [.raw (.string ⟨#[]⟩), .raw (.int .u64 0)]) := by kernel_rfl
@[go_sem] theorem tyE13 : tyElem Tryz.prog 13 = none := by kernel_rfl
@[go_sem] theorem tyF13_0 : tyField Tryz.prog 13 0 = some (0, 1, false) := by kernel_rfl
@[go_sem] theorem tyP13_0 : tyPlace Tryz.prog 13 0 = some (0, 1) := by kernel_rfl
@[go_sem] theorem tyF13_1 : tyField Tryz.prog 13 1 = some (1, 1, false) := by kernel_rfl
@[go_sem] theorem tyP13_1 : tyPlace Tryz.prog 13 1 = some (1, 1) := by kernel_rfl
@[go_sem] theorem tyK13 : tyKids Tryz.prog 13 = some (.agg [.raw (.string ⟨#[]⟩), .raw (.int .u64 0)]) := by kernel_rfl
@[go_sem] theorem tyS14 : tySize Tryz.prog 14 = some 2 := by kernel_rfl
@[go_sem] theorem tyB14 : tyBytes Tryz.prog 14 = some 24 := by kernel_rfl
@[go_sem] theorem tyG14 : tyAgg Tryz.prog 14 = some true := by kernel_rfl
@[go_sem] theorem tyZ14 : tyZero Tryz.prog 14 = some (.agg [.raw (.string ⟨#[]⟩), .raw (.int .u64 0)]) := by kernel_rfl
@[go_sem] theorem tyE14 : tyElem Tryz.prog 14 = none := by kernel_rfl
@[go_sem] theorem tyF14_0 : tyField Tryz.prog 14 0 = some (0, 1, false) := by kernel_rfl
@[go_sem] theorem tyP14_0 : tyPlace Tryz.prog 14 0 = some (0, 1) := by kernel_rfl
@[go_sem] theorem tyF14_1 : tyField Tryz.prog 14 1 = some (1, 1, false) := by kernel_rfl
@[go_sem] theorem tyP14_1 : tyPlace Tryz.prog 14 1 = some (1, 1) := by kernel_rfl
@[go_sem] theorem tyK14 : tyKids Tryz.prog 14 = some (.agg [.raw (.string ⟨#[]⟩), .raw (.int .u64 0)]) := by kernel_rfl
@[go_sem] theorem tyS15 : tySize Tryz.prog 15 = some 1 := by kernel_rfl
@[go_sem] theorem tyB15 : tyBytes Tryz.prog 15 = some 8 := by kernel_rfl
@[go_sem] theorem tyG15 : tyAgg Tryz.prog 15 = some false := by kernel_rfl
@[go_sem] theorem tyZ15 : tyZero Tryz.prog 15 = some (.raw (.pointer none)) := by kernel_rfl
@[go_sem] theorem tyE15 : tyElem Tryz.prog 15 = none := by kernel_rfl
@[go_sem] theorem tyS16 : tySize Tryz.prog 16 = some 1 := by kernel_rfl
@[go_sem] theorem tyB16 : tyBytes Tryz.prog 16 = some 8 := by kernel_rfl
@[go_sem] theorem tyG16 : tyAgg Tryz.prog 16 = some false := by kernel_rfl
@[go_sem] theorem tyZ16 : tyZero Tryz.prog 16 = some (.raw (.pointer none)) := by kernel_rfl
@[go_sem] theorem tyE16 : tyElem Tryz.prog 16 = none := by kernel_rfl
@[go_sem] theorem tyS17 : tySize Tryz.prog 17 = some 1 := by kernel_rfl
@[go_sem] theorem tyB17 : tyBytes Tryz.prog 17 = some 8 := by kernel_rfl
@[go_sem] theorem tyG17 : tyAgg Tryz.prog 17 = some false := by kernel_rfl
@[go_sem] theorem tyZ17 : tyZero Tryz.prog 17 = some (.raw (.pointer none)) := by kernel_rfl
@[go_sem] theorem tyE17 : tyElem Tryz.prog 17 = none := by kernel_rfl
@[go_sem] theorem tyS18 : tySize Tryz.prog 18 = some 1 := by kernel_rfl
@[go_sem] theorem tyB18 : tyBytes Tryz.prog 18 = some 8 := by kernel_rfl
@[go_sem] theorem tyG18 : tyAgg Tryz.prog 18 = some true := by kernel_rfl
@[go_sem] theorem tyZ18 : tyZero Tryz.prog 18 = some (.agg [.raw (.pointer none)]) := by kernel_rfl
@[go_sem] theorem tyE18 : tyElem Tryz.prog 18 = none := by kernel_rfl
@[go_sem] theorem tyF18_0 : tyField Tryz.prog 18 0 = some (0, 1, false) := by kernel_rfl
@[go_sem] theorem tyP18_0 : tyPlace Tryz.prog 18 0 = some (0, 1) := by kernel_rfl
@[go_sem] theorem tyK18 : tyKids Tryz.prog 18 = some (.agg [.raw (.pointer none)]) := by kernel_rfl
@[go_sem] theorem tyS19 : tySize Tryz.prog 19 = some 1 := by kernel_rfl
@[go_sem] theorem tyB19 : tyBytes Tryz.prog 19 = some 8 := by kernel_rfl
@[go_sem] theorem tyG19 : tyAgg Tryz.prog 19 = some true := by kernel_rfl
@[go_sem] theorem tyZ19 : tyZero Tryz.prog 19 = some (.agg [.raw (.pointer none)]) := by kernel_rfl
@[go_sem] theorem tyE19 : tyElem Tryz.prog 19 = none := by kernel_rfl
@[go_sem] theorem tyF19_0 : tyField Tryz.prog 19 0 = some (0, 1, false) := by kernel_rfl
@[go_sem] theorem tyP19_0 : tyPlace Tryz.prog 19 0 = some (0, 1) := by kernel_rfl
@[go_sem] theorem tyK19 : tyKids Tryz.prog 19 = some (.agg [.raw (.pointer none)]) := by kernel_rfl
@[go_sem] theorem tyS21 : tySize Tryz.prog 21 = some 1 := by kernel_rfl
@[go_sem] theorem tyB21 : tyBytes Tryz.prog 21 = some 4 := by kernel_rfl
@[go_sem] theorem tyG21 : tyAgg Tryz.prog 21 = some false := by kernel_rfl
@[go_sem] theorem tyZ21 : tyZero Tryz.prog 21 = some (.raw (.int .i32 0)) := by kernel_rfl
@[go_sem] theorem tyE21 : tyElem Tryz.prog 21 = none := by kernel_rfl
@[go_sem] theorem tyU21 : Tryz.prog.underlying 21 = some (.int .i32) := by kernel_rfl
@[go_sem] theorem tyS22 : tySize Tryz.prog 22 = some 1 := by kernel_rfl
@[go_sem] theorem tyB22 : tyBytes Tryz.prog 22 = some 24 := by kernel_rfl
@[go_sem] theorem tyG22 : tyAgg Tryz.prog 22 = some false := by kernel_rfl
@[go_sem] theorem tyZ22 : tyZero Tryz.prog 22 = some (.raw (.slice none 0 0)) := by kernel_rfl
@[go_sem] theorem tyE22 : tyElem Tryz.prog 22 = some (53, 1) := by kernel_rfl
@[go_sem] theorem tyU22 : Tryz.prog.underlying 22 = some (.slice 53) := by kernel_rfl
@[go_sem] theorem tyS23 : tySize Tryz.prog 23 = some 3 := by kernel_rfl
@[go_sem] theorem tyB23 : tyBytes Tryz.prog 23 = some 32 := by kernel_rfl
@[go_sem] theorem tyG23 : tyAgg Tryz.prog 23 = some true := by kernel_rfl
@[go_sem] theorem tyZ23 : tyZero Tryz.prog 23 = some (.agg [.raw (.int .u8 0), .raw (.int .u8 0), .raw (.slice none 0 0)]) := by kernel_rfl
@[go_sem] theorem tyE23 : tyElem Tryz.prog 23 = none := by kernel_rfl
@[go_sem] theorem tyF23_0 : tyField Tryz.prog 23 0 = some (0, 1, false) := by kernel_rfl
@[go_sem] theorem tyP23_0 : tyPlace Tryz.prog 23 0 = some (0, 1) := by kernel_rfl
@[go_sem] theorem tyF23_1 : tyField Tryz.prog 23 1 = some (1, 1, false) := by kernel_rfl
@[go_sem] theorem tyP23_1 : tyPlace Tryz.prog 23 1 = some (1, 1) := by kernel_rfl
@[go_sem] theorem tyF23_2 : tyField Tryz.prog 23 2 = some (2, 1, false) := by kernel_rfl
@[go_sem] theorem tyP23_2 : tyPlace Tryz.prog 23 2 = some (2, 1) := by kernel_rfl
@[go_sem] theorem tyK23 : tyKids Tryz.prog 23 = some (.agg [.raw (.int .u8 0), .raw (.int .u8 0), .raw (.slice none 0 0)]) := by kernel_rfl
@[go_sem] theorem tyS24 : tySize Tryz.prog 24 = some 3 := by kernel_rfl
@[go_sem] theorem tyB24 : tyBytes Tryz.prog 24 = some 32 := by kernel_rfl
@[go_sem] theorem tyG24 : tyAgg Tryz.prog 24 = some true := by kernel_rfl
@[go_sem] theorem tyZ24 : tyZero Tryz.prog 24 = some (.agg [.raw (.int .u8 0), .raw (.int .u8 0), .raw (.slice none 0 0)]) := by kernel_rfl
@[go_sem] theorem tyE24 : tyElem Tryz.prog 24 = none := by kernel_rfl
@[go_sem] theorem tyF24_0 : tyField Tryz.prog 24 0 = some (0, 1, false) := by kernel_rfl
@[go_sem] theorem tyP24_0 : tyPlace Tryz.prog 24 0 = some (0, 1) := by kernel_rfl
@[go_sem] theorem tyF24_1 : tyField Tryz.prog 24 1 = some (1, 1, false) := by kernel_rfl
@[go_sem] theorem tyP24_1 : tyPlace Tryz.prog 24 1 = some (1, 1) := by kernel_rfl
@[go_sem] theorem tyF24_2 : tyField Tryz.prog 24 2 = some (2, 1, false) := by kernel_rfl
@[go_sem] theorem tyP24_2 : tyPlace Tryz.prog 24 2 = some (2, 1) := by kernel_rfl
@[go_sem] theorem tyK24 : tyKids Tryz.prog 24 = some (.agg [.raw (.int .u8 0), .raw (.int .u8 0), .raw (.slice none 0 0)]) := by kernel_rfl
@[go_sem] theorem tyS25 : tySize Tryz.prog 25 = some 1 := by kernel_rfl
@[go_sem] theorem tyB25 : tyBytes Tryz.prog 25 = some 8 := by kernel_rfl
@[go_sem] theorem tyG25 : tyAgg Tryz.prog 25 = some false := by kernel_rfl
@[go_sem] theorem tyZ25 : tyZero Tryz.prog 25 = some (.raw (.nilFunc)) := by kernel_rfl
@[go_sem] theorem tyE25 : tyElem Tryz.prog 25 = none := by kernel_rfl
@[go_sem] theorem tyS26 : tySize Tryz.prog 26 = some 1 := by kernel_rfl
@[go_sem] theorem tyB26 : tyBytes Tryz.prog 26 = some 24 := by kernel_rfl
@[go_sem] theorem tyG26 : tyAgg Tryz.prog 26 = some false := by kernel_rfl
@[go_sem] theorem tyZ26 : tyZero Tryz.prog 26 = some (.raw (.slice none 0 0)) := by kernel_rfl
@[go_sem] theorem tyE26 : tyElem Tryz.prog 26 = some (40, 1) := by kernel_rfl
@[go_sem] theorem tyU26 : Tryz.prog.underlying 26 = some (.slice 40) := by kernel_rfl
@[go_sem] theorem tyS28 : tySize Tryz.prog 28 = some 1 := by kernel_rfl
@[go_sem] theorem tyB28 : tyBytes Tryz.prog 28 = some 8 := by kernel_rfl
@[go_sem] theorem tyG28 : tyAgg Tryz.prog 28 = some false := by kernel_rfl
@[go_sem] theorem tyZ28 : tyZero Tryz.prog 28 = some (.raw (.nilFunc)) := by kernel_rfl
@[go_sem] theorem tyE28 : tyElem Tryz.prog 28 = none := by kernel_rfl
@[go_sem] theorem tyS29 : tySize Tryz.prog 29 = some 1 := by kernel_rfl
@[go_sem] theorem tyB29 : tyBytes Tryz.prog 29 = some 24 := by kernel_rfl
@[go_sem] theorem tyG29 : tyAgg Tryz.prog 29 = some false := by kernel_rfl
@[go_sem] theorem tyZ29 : tyZero Tryz.prog 29 = some (.raw (.slice none 0 0)) := by kernel_rfl
@[go_sem] theorem tyE29 : tyElem Tryz.prog 29 = some (3, 1) := by kernel_rfl
@[go_sem] theorem tyU29 : Tryz.prog.underlying 29 = some (.slice 3) := by kernel_rfl
@[go_sem] theorem tyS31 : tySize Tryz.prog 31 = some 1 := by kernel_rfl
@[go_sem] theorem tyB31 : tyBytes Tryz.prog 31 = some 8 := by kernel_rfl
@[go_sem] theorem tyG31 : tyAgg Tryz.prog 31 = some false := by kernel_rfl
@[go_sem] theorem tyZ31 : tyZero Tryz.prog 31 = some (.raw (.nilFunc)) := by kernel_rfl
@[go_sem] theorem tyE31 : tyElem Tryz.prog 31 = none := by kernel_rfl
@[go_sem] theorem tyS32 : tySize Tryz.prog 32 = some 1 := by kernel_rfl
@[go_sem] theorem tyB32 : tyBytes Tryz.prog 32 = some 24 := by kernel_rfl
@[go_sem] theorem tyG32 : tyAgg Tryz.prog 32 = some false := by kernel_rfl
@[go_sem] theorem tyZ32 : tyZero Tryz.prog 32 = some (.raw (.slice none 0 0)) := by kernel_rfl
@[go_sem] theorem tyE32 : tyElem Tryz.prog 32 = some (88, 1) := by kernel_rfl
@[go_sem] theorem tyU32 : Tryz.prog.underlying 32 = some (.slice 88) := by kernel_rfl
@[go_sem] theorem tyS33 : tySize Tryz.prog 33 = some 2 := by kernel_rfl
@[go_sem] theorem tyB33 : tyBytes Tryz.prog 33 = some 32 := by kernel_rfl
@[go_sem] theorem tyG33 : tyAgg Tryz.prog 33 = some true := by kernel_rfl
@[go_sem] theorem tyZ33 : tyZero Tryz.prog 33 = some (.agg [.raw (.bool false), .raw (.slice none 0 0)]) := by kernel_rfl
@[go_sem] theorem tyE33 : tyElem Tryz.prog 33 = none := by kernel_rfl
@[go_sem] theorem tyF33_0 : tyField Tryz.prog 33 0 = some (0, 1, false) := by kernel_rfl
@[go_sem] theorem tyP33_0 : tyPlace Tryz.prog 33 0 = some (0, 1) := by kernel_rfl
@[go_sem] theorem tyF33_1 : tyField Tryz.prog 33 1 = some (1, 1, false) := by kernel_rfl
@[go_sem] theorem tyP33_1 : tyPlace Tryz.prog 33 1 = some (1, 1) := by kernel_rfl
@[go_sem] theorem tyK33 : tyKids Tryz.prog 33 = some (.agg [.raw (.bool false), .raw (.slice none 0 0)]) := by kernel_rfl
@[go_sem] theorem tyS34 : tySize Tryz.prog 34 = some 2 := by kernel_rfl
@[go_sem] theorem tyB34 : tyBytes Tryz.prog 34 = some 32 := by kernel_rfl
@[go_sem] theorem tyG34 : tyAgg Tryz.prog 34 = some true := by kernel_rfl
@[go_sem] theorem tyZ34 : tyZero Tryz.prog 34 = some (.agg [.raw (.bool false), .raw (.slice none 0 0)]) := by kernel_rfl
@[go_sem] theorem tyE34 : tyElem Tryz.prog 34 = none := by kernel_rfl
@[go_sem] theorem tyF34_0 : tyField Tryz.prog 34 0 = some (0, 1, false) := by kernel_rfl
@[go_sem] theorem tyP34_0 : tyPlace Tryz.prog 34 0 = some (0, 1) := by kernel_rfl
@[go_sem] theorem tyF34_1 : tyField Tryz.prog 34 1 = some (1, 1, false) := by kernel_rfl
@[go_sem] theorem tyP34_1 : tyPlace Tryz.prog 34 1 = some (1, 1) := by kernel_rfl
@[go_sem] theorem tyK34 : tyKids Tryz.prog 34 = some (.agg [.raw (.bool false), .raw (.slice none 0 0)]) := by kernel_rfl
@[go_sem] theorem tyS35 : tySize Tryz.prog 35 = some 4 := by kernel_rfl
@[go_sem] theorem tyB35 : tyBytes Tryz.prog 35 = some 64 := by kernel_rfl
@[go_sem] theorem tyG35 : tyAgg Tryz.prog 35 = some true := by kernel_rfl
@[go_sem] theorem tyZ35 : tyZero Tryz.prog 35 = some (.agg [.raw (.bool false), .raw (.slice none 0 0), .raw (.bool false), .raw (.slice none 0 0)]) := by kernel_rfl
@[go_sem] theorem tyE35 : tyElem Tryz.prog 35 = none := by kernel_rfl
@[go_sem] theorem tyF35_0 : tyField Tryz.prog 35 0 = some (0, 2, true) := by kernel_rfl
@[go_sem] theorem tyP35_0 : tyPlace Tryz.prog 35 0 = some (0, 2) := by kernel_rfl
@[go_sem] theorem tyF35_1 : tyField Tryz.prog 35 1 = some (2, 2, true) := by kernel_rfl
@[go_sem] theorem tyP35_1 : tyPlace Tryz.prog 35 1 = some (2, 2) := by kernel_rfl
@[go_sem] theorem tyK35 : tyKids Tryz.prog 35 = some (.agg [.agg [.raw (.bool false), .raw (.slice none 0 0)], .agg [.raw (.bool false), .raw (.slice none 0 0)]]) := by kernel_rfl
@[go_sem] theorem tyS36 : tySize Tryz.prog 36 = some 4 := by kernel_rfl
@[go_sem] theorem tyB36 : tyBytes Tryz.prog 36 = some 64 := by kernel_rfl
@[go_sem] theorem tyG36 : tyAgg Tryz.prog 36 = some true := by kernel_rfl
@[go_sem] theorem tyZ36 : tyZero Tryz.prog 36 = some (.agg [.raw (.bool false), .raw (.slice none 0 0), .raw (.bool false), .raw (.slice none 0 0)]) := by kernel_rfl
@[go_sem] theorem tyE36 : tyElem Tryz.prog 36 = none := by kernel_rfl
@[go_sem] theorem tyF36_0 : tyField Tryz.prog 36 0 = some (0, 2, true) := by kernel_rfl
@[go_sem] theorem tyP36_0 : tyPlace Tryz.prog 36 0 = some (0, 2) := by kernel_rfl
@[go_sem] theorem tyF36_1 : tyField Tryz.prog 36 1 = some (2, 2, true) := by kernel_rfl
@[go_sem] theorem tyP36_1 : tyPlace Tryz.prog 36 1 = some (2, 2) := by kernel_rfl
@[go_sem] theorem tyK36 : tyKids Tryz.prog 36 = some (.agg [.agg [.raw (.bool false), .raw (.slice none 0 0)], .agg [.raw (.bool false), .raw (.slice none 0 0)]]) := by kernel_rfl
@[go_sem] theorem tyS37 : tySize Tryz.prog 37 = some 1 := by kernel_rfl
@[go_sem] theorem tyB37 : tyBytes Tryz.prog 37 = some 8 := by kernel_rfl
@[go_sem] theorem tyG37 : tyAgg Tryz.prog 37 = some false := by kernel_rfl
@[go_sem] theorem tyZ37 : tyZero Tryz.prog 37 = some (.raw (.int .i64 0)) := by kernel_rfl
@[go_sem] theorem tyE37 : tyElem Tryz.prog 37 = none := by kernel_rfl
@[go_sem] theorem tyU37 : Tryz.prog.underlying 37 = some (.int .i64) := by kernel_rfl
@[go_sem] theorem tyS39 : tySize Tryz.prog 39 = some 1 := by kernel_rfl
@[go_sem] theorem tyB39 : tyBytes Tryz.prog 39 = some 8 := by kernel_rfl
@[go_sem] theorem tyG39 : tyAgg Tryz.prog 39 = some false := by kernel_rfl
@[go_sem] theorem tyZ39 : tyZero Tryz.prog 39 = some (.raw (.nilFunc)) := by kernel_rfl
@[go_sem] theorem tyE39 : tyElem Tryz.prog 39 = none := by kernel_rfl
@[go_sem] theorem tyS40 : tySize Tryz.prog 40 = some 1 := by kernel_rfl
@[go_sem] theorem tyB40 : tyBytes Tryz.prog 40 = some 24 := by kernel_rfl
@[go_sem] theorem tyG40 : tyAgg Tryz.prog 40 = some false := by kernel_rfl
@[go_sem] theorem tyZ40 : tyZero Tryz.prog 40 = some (.raw (.slice none 0 0)) := by kernel_rfl
@[go_sem] theorem tyE40 : tyElem Tryz.prog 40 = some (36, 4) := by kernel_rfl
@[go_sem] theorem tyU40 : Tryz.prog.underlying 40 = some (.slice 36) := by kernel_rfl
@[go_sem] theorem tyS42 : tySize Tryz.prog 42 = some 1 := by kernel_rfl
@[go_sem] theorem tyB42 : tyBytes Tryz.prog 42 = some 8 := by kernel_rfl
@[go_sem] theorem tyG42 : tyAgg Tryz.prog 42 = some false := by kernel_rfl
@[go_sem] theorem tyZ42 : tyZero Tryz.prog 42 = some (.raw (.nilFunc)) := by kernel_rfl
@[go_sem] theorem tyE42 : tyElem Tryz.prog 42 = none := by kernel_rfl
@[go_sem] theorem tyS43 : tySize Tryz.prog 43 = some 1 := by kernel_rfl
@[go_sem] theorem tyB43 : tyBytes Tryz.prog 43 = some 8 := by kernel_rfl
@[go_sem] theorem tyG43 : tyAgg Tryz.prog 43 = some false := by kernel_rfl
@[go_sem] theorem tyZ43 : tyZero Tryz.prog 43 = some (.raw (.nilFunc)) := by kernel_rfl
@[go_sem] theorem tyE43 : tyElem Tryz.prog 43 = none := by kernel_rfl
@[go_sem] theorem tyS44 : tySize Tryz.prog 44 = some 1 := by kernel_rfl
@[go_sem] theorem tyB44 : tyBytes Tryz.prog 44 = some 8 := by kernel_rfl
@[go_sem] theorem tyG44 : tyAgg Tryz.prog 44 = some false := by kernel_rfl
@[go_sem] theorem tyZ44 : tyZero Tryz.prog 44 = some (.raw (.nilFunc)) := by kernel_rfl
@[go_sem] theorem tyE44 : tyElem Tryz.prog 44 = none := by kernel_rfl
@[go_sem] theorem tyS45 : tySize Tryz.prog 45 = some 1 := by kernel_rfl
@[go_sem] theorem tyB45 : tyBytes Tryz.prog 45 = some 8 := by kernel_rfl
@[go_sem] theorem tyG45 : tyAgg Tryz.prog 45 = some false := by kernel_rfl
@[go_sem] theorem tyZ45 : tyZero Tryz.prog 45 = some (.raw (.nilFunc)) := by kernel_rfl
@[go_sem] theorem tyE45 : tyElem Tryz.prog 45 = none := by kernel_rfl
@[go_sem] theorem tyS46 : tySize Tryz.prog 46 = some 1 := by kernel_rfl
@[go_sem] theorem tyB46 : tyBytes Tryz.prog 46 = some 8 := by kernel_rfl
@[go_sem] theorem tyG46 : tyAgg Tryz.prog 46 = some false := by kernel_rfl
@[go_sem] theorem tyZ46 : tyZero Tryz.prog 46 = some (.raw (.nilFunc)) := by kernel_rfl
@[go_sem] theorem tyE46 : tyElem Tryz.prog 46 = none := by kernel_rfl
@[go_sem] theorem tyS47 : tySize Tryz.prog 47 = some 1 := by kernel_rfl
@[go_sem] theorem tyB47 : tyBytes Tryz.prog 47 = some 8 := by kernel_rfl
@[go_sem] theorem tyG47 : tyAgg Tryz.prog 47 = some false := by kernel_rfl
@[go_sem] theorem tyZ47 : tyZero Tryz.prog 47 = some (.raw (.nilFunc)) := by kernel_rfl
@[go_sem] theorem tyE47 : tyElem Tryz.prog 47 = none := by kernel_rfl
@[go_sem] theorem tyS48 : tySize Tryz.prog 48 = some 1 := by kernel_rfl
@[go_sem] theorem tyB48 : tyBytes Tryz.prog 48 = some 8 := by kernel_rfl
@[go_sem] theorem tyG48 : tyAgg Tryz.prog 48 = some false := by kernel_rfl
@[go_sem] theorem tyZ48 : tyZero Tryz.prog 48 = some (.raw (.nilFunc)) := by kernel_rfl
@[go_sem] theorem tyE48 : tyElem Tryz.prog 48 = none := by kernel_rfl
@[go_sem] theorem tyS49 : tySize Tryz.prog 49 = some 1 := by kernel_rfl
@[go_sem] theorem tyB49 : tyBytes Tryz.prog 49 = some 8 := by kernel_rfl
@[go_sem] theorem tyG49 : tyAgg Tryz.prog 49 = some false := by kernel_rfl
@[go_sem] theorem tyZ49 : tyZero Tryz.prog 49 = some (.raw (.nilFunc)) := by kernel_rfl
@[go_sem] theorem tyE49 : tyElem Tryz.prog 49 = none := by kernel_rfl
@[go_sem] theorem tyS50 : tySize Tryz.prog 50 = some 1 := by kernel_rfl
@[go_sem] theorem tyB50 : tyBytes Tryz.prog 50 = some 8 := by kernel_rfl
@[go_sem] theorem tyG50 : tyAgg Tryz.prog 50 = some false := by kernel_rfl
@[go_sem] theorem tyZ50 : tyZero Tryz.prog 50 = some (.raw (.nilFunc)) := by kernel_rfl
@[go_sem] theorem tyE50 : tyElem Tryz.prog 50 = none := by kernel_rfl
@[go_sem] theorem tyS51 : tySize Tryz.prog 51 = some 1 := by kernel_rfl
@[go_sem] theorem tyB51 : tyBytes Tryz.prog 51 = some 8 := by kernel_rfl
@[go_sem] theorem tyG51 : tyAgg Tryz.prog 51 = some false := by kernel_rfl
@[go_sem] theorem tyZ51 : tyZero Tryz.prog 51 = some (.raw (.nilFunc)) := by kernel_rfl
@[go_sem] theorem tyE51 : tyElem Tryz.prog 51 = none := by kernel_rfl
@[go_sem] theorem tyS52 : tySize Tryz.prog 52 = some 1 := by kernel_rfl
@[go_sem] theorem tyB52 : tyBytes Tryz.prog 52 = some 8 := by kernel_rfl
@[go_sem] theorem tyG52 : tyAgg Tryz.prog 52 = some false := by kernel_rfl
@[go_sem] theorem tyZ52 : tyZero Tryz.prog 52 = some (.raw (.nilFunc)) := by kernel_rfl
@[go_sem] theorem tyE52 : tyElem Tryz.prog 52 = none := by kernel_rfl
@[go_sem] theorem tyS53 : tySize Tryz.prog 53 = some 1 := by kernel_rfl
@[go_sem] theorem tyB53 : tyBytes Tryz.prog 53 = some 2 := by kernel_rfl
@[go_sem] theorem tyG53 : tyAgg Tryz.prog 53 = some false := by kernel_rfl
@[go_sem] theorem tyZ53 : tyZero Tryz.prog 53 = some (.raw (.int .i16 0)) := by kernel_rfl
@[go_sem] theorem tyE53 : tyElem Tryz.prog 53 = none := by kernel_rfl
@[go_sem] theorem tyU53 : Tryz.prog.underlying 53 = some (.int .i16) := by kernel_rfl
@[go_sem] theorem tyS54 : tySize Tryz.prog 54 = some 1 := by kernel_rfl
@[go_sem] theorem tyB54 : tyBytes Tryz.prog 54 = some 8 := by kernel_rfl
@[go_sem] theorem tyG54 : tyAgg Tryz.prog 54 = some false := by kernel_rfl
@[go_sem] theorem tyZ54 : tyZero Tryz.prog 54 = some (.raw (.nilFunc)) := by kernel_rfl
@[go_sem] theorem tyE54 : tyElem Tryz.prog 54 = none := by kernel_rfl
@[go_sem] theorem tyS55 : tySize Tryz.prog 55 = some 1 := by kernel_rfl
@[go_sem] theorem tyB55 : tyBytes Tryz.prog 55 = some 8 := by kernel_rfl
@[go_sem] theorem tyG55 : tyAgg Tryz.prog 55 = some false := by kernel_rfl
@[go_sem] theorem tyZ55 : tyZero Tryz.prog 55 = some (.raw (.int .u64 0)) := by kernel_rfl
@[go_sem] theorem tyE55 : tyElem Tryz.prog 55 = none := by kernel_rfl
@[go_sem] theorem tyU55 : Tryz.prog.underlying 55 = some (.int .u64) := by kernel_rfl
@[go_sem] theorem tyS56 : tySize Tryz.prog 56 = some 1 := by kernel_rfl
@[go_sem] theorem tyB56 : tyBytes Tryz.prog 56 = some 8 := by kernel_rfl
@[go_sem] theorem tyG56 : tyAgg Tryz.prog 56 = some false := by kernel_rfl
@[go_sem] theorem tyZ56 : tyZero Tryz.prog 56 = some (.raw (.pointer none)) := by kernel_rfl
@[go_sem] theorem tyE56 : tyElem Tryz.prog 56 = none := by kernel_rfl
@[go_sem] theorem tyS57 : tySize Tryz.prog 57 = some 1 := by kernel_rfl
@[go_sem] theorem tyB57 : tyBytes Tryz.prog 57 = some 8 := by kernel_rfl
@[go_sem] theorem tyG57 : tyAgg Tryz.prog 57 = some false := by kernel_rfl
@[go_sem] theorem tyZ57 : tyZero Tryz.prog 57 = some (.raw (.nilFunc)) := by kernel_rfl
@[go_sem] theorem tyE57 : tyElem Tryz.prog 57 = none := by kernel_rfl
@[go_sem] theorem tyS58 : tySize Tryz.prog 58 = some 6 := by kernel_rfl
@[go_sem] theorem tyB58 : tyBytes Tryz.prog 58 = some 112 := by kernel_rfl
@[go_sem] theorem tyG58 : tyAgg Tryz.prog 58 = some true := by kernel_rfl
@[go_sem] theorem tyZ58 : tyZero Tryz.prog 58 = some (.agg [.raw (.slice none 0 0), .raw (.slice none 0 0), .raw (.bool false), .raw (.slice none 0 0), .raw (.bool false), .raw (.slice none 0 0)]) := by kernel_rfl
@[go_sem] theorem tyE58 : tyElem Tryz.prog 58 = none := by kernel_rfl
@[go_sem] theorem tyF58_0 : tyField Tryz.prog 58 0 = some (0, 1, false) := by kernel_rfl
@[go_sem] theorem tyP58_0 : tyPlace Tryz.prog 58 0 = some (0, 1) := by kernel_rfl
@[go_sem] theorem tyF58_1 : tyField Tryz.prog 58 1 = some (1, 1, false) := by kernel_rfl
@[go_sem] theorem tyP58_1 : tyPlace Tryz.prog 58 1 = some (1, 1) := by kernel_rfl
@[go_sem] theorem tyF58_2 : tyField Tryz.prog 58 2 = some (2, 4, true) := by kernel_rfl
@[go_sem] theorem tyP58_2 : tyPlace Tryz.prog 58 2 = some (2, 4) := by kernel_rfl
@[go_sem] theorem tyK58 : tyKids Tryz.prog 58 = some (.agg [.raw (.slice none 0 0), .raw (.slice none 0 0), .agg [.raw (.bool false), .raw (.slice none 0 0), .raw (.bool false), .raw (.slice none 0 0)]]) := by kernel_rfl
@[go_sem] theorem tyS59 : tySize Tryz.prog 59 = some 6 := by kernel_rfl
@[go_sem] theorem tyB59 : tyBytes Tryz.prog 59 = some 112 := by kernel_rfl
@[go_sem] theorem tyG59 : tyAgg Tryz.prog 59 = some true := by kernel_rfl
@[go_sem] theorem tyZ59 : tyZero Tryz.prog 59 = some (.agg [.raw (.slice none 0 0), .raw (.slice none 0 0), .raw (.bool false), .raw (.slice none 0 0), .raw (.bool false), .raw (.slice none 0 0)]) := by kernel_rfl
@[go_sem] theorem tyE59 : tyElem Tryz.prog 59 = none := by kernel_rfl
@[go_sem] theorem tyF59_0 : tyField Tryz.prog 59 0 = some (0, 1, false) := by kernel_rfl
@[go_sem] theorem tyP59_0 : tyPlace Tryz.prog 59 0 = some (0, 1) := by kernel_rfl
@[go_sem] theorem tyF59_1 : tyField Tryz.prog 59 1 = some (1, 1, false) := by kernel_rfl
@[go_sem] theorem tyP59_1 : tyPlace Tryz.prog 59 1 = some (1, 1) := by kernel_rfl
@[go_sem] theorem tyF59_2 : tyField Tryz.prog 59 2 = some (2, 4, true) := by kernel_rfl
@[go_sem] theorem tyP59_2 : tyPlace Tryz.prog 59 2 = some (2, 4) := by kernel_rfl
@[go_sem] theorem tyK59 : tyKids Tryz.prog 59 = some (.agg [.raw (.slice none 0 0), .raw (.slice none 0 0), .agg [.raw (.bool false), .raw (.slice none 0 0), .raw (.bool false), .raw (.slice none 0 0)]]) := by kernel_rfl
@[go_sem] theorem tyS60 : tySize Tryz.prog 60 = some 1 := by kernel_rfl
@[go_sem] theorem tyB60 : tyBytes Tryz.prog 60 = some 8 := by kernel_rfl
@[go_sem] theorem tyG60 : tyAgg Tryz.prog 60 = some false := by kernel_rfl
@[go_sem] theorem tyZ60 : tyZero Tryz.prog 60 = some (.raw (.nilFunc)) := by kernel_rfl
@[go_sem] theorem tyE60 : tyElem Tryz.prog 60 = none := by kernel_rfl
@[go_sem] theorem tyS61 : tySize Tryz.prog 61 = some 1 := by kernel_rfl
@[go_sem] theorem tyB61 : tyBytes Tryz.prog 61 = some 8 := by kernel_rfl
@[go_sem] theorem tyG61 : tyAgg Tryz.prog 61 = some false := by kernel_rfl
@[go_sem] theorem tyZ61 : tyZero Tryz.prog 61 = some (.raw (.nilFunc)) := by kernel_rfl
@[go_sem] theorem tyE61 : tyElem Tryz.prog 61 = none := by kernel_rfl
@[go_sem] theorem tyS62 : tySize Tryz.prog 62 = some 1 := by kernel_rfl
@[go_sem] theorem tyB62 : tyBytes Tryz.prog 62 = some 8 := by kernel_rfl
@[go_sem] theorem tyG62 : tyAgg Tryz.prog 62 = some false := by kernel_rfl
@[go_sem] theorem tyZ62 : tyZero Tryz.prog 62 = some (.raw (.nilFunc)) := by kernel_rfl
@[go_sem] theorem tyE62 : tyElem Tryz.prog 62 = none := by kernel_rfl
@[go_sem] theorem tyS63 : tySize Tryz.prog 63 = some 1 := by kernel_rfl
@[go_sem] theorem tyB63 : tyBytes Tryz.prog 63 = some 8 := by kernel_rfl
@[go_sem] theorem tyG63 : tyAgg Tryz.prog 63 = some false := by kernel_rfl
@[go_sem] theorem tyZ63 : tyZero Tryz.prog 63 = some (.raw (.nilFunc)) := by kernel_rfl
@[go_sem] theorem tyE63 : tyElem Tryz.prog 63 = none := by kernel_rfl
@[go_sem] theorem tyS64 : tySize Tryz.prog 64 = some 1 := by kernel_rfl
@[go_sem] theorem tyB64 : tyBytes Tryz.prog 64 = some 8 := by kernel_rfl
@[go_sem] theorem tyG64 : tyAgg Tryz.prog 64 = some false := by kernel_rfl
@[go_sem] theorem tyZ64 : tyZero Tryz.prog 64 = some (.raw (.nilFunc)) := by kernel_rfl
@[go_sem] theorem tyE64 : tyElem Tryz.prog 64 = none := by kernel_rfl
@[go_sem] theorem tyS65 : tySize Tryz.prog 65 = some 1 := by kernel_rfl
@[go_sem] theorem tyB65 : tyBytes Tryz.prog 65 = some 8 := by kernel_rfl
@[go_sem] theorem tyG65 : tyAgg Tryz.prog 65 = some false := by kernel_rfl
@[go_sem] theorem tyZ65 : tyZero Tryz.prog 65 = some (.raw (.nilFunc)) := by kernel_rfl
@[go_sem] theorem tyE65 : tyElem Tryz.prog 65 = none := by kernel_rfl
@[go_sem] theorem tyS66 : tySize Tryz.prog 66 = some 1 := by kernel_rfl
@[go_sem] theorem tyB66 : tyBytes Tryz.prog 66 = some 8 := by kernel_rfl
@[go_sem] theorem tyG66 : tyAgg Tryz.prog 66 = some false := by kernel_rfl
@[go_sem] theorem tyZ66 : tyZero Tryz.prog 66 = some (.raw (.nilFunc)) := by kernel_rfl
@[go_sem] theorem tyE66 : tyElem Tryz.prog 66 = none := by kernel_rfl
@[go_sem] theorem tyS67 : tySize Tryz.prog 67 = some 1 := by kernel_rfl
@[go_sem] theorem tyB67 : tyBytes Tryz.prog 67 = some 8 := by kernel_rfl
@[go_sem] theorem tyG67 : tyAgg Tryz.prog 67 = some false := by kernel_rfl
@[go_sem] theorem tyZ67 : tyZero Tryz.prog 67 = some (.raw (.nilFunc)) := by kernel_rfl
@[go_sem] theorem tyE67 : tyElem Tryz.prog 67 = none := by kernel_rfl
@[go_sem] theorem tyS68 : tySize Tryz.prog 68 = some 1 := by kernel_rfl
@[go_sem] theorem tyB68 : tyBytes Tryz.prog 68 = some 8 := by kernel_rfl
@[go_sem] theorem tyG68 : tyAgg Tryz.prog 68 = some false := by kernel_rfl
@[go_sem] theorem tyZ68 : tyZero Tryz.prog 68 = some (.raw (.nilFunc)) := by kernel_rfl
@[go_sem] theorem tyE68 : tyElem Tryz.prog 68 = none := by kernel_rfl
@[go_sem] theorem tyS69 : tySize Tryz.prog 69 = some 1 := by kernel_rfl
@[go_sem] theorem tyB69 : tyBytes Tryz.prog 69 = some 8 := by kernel_rfl
@[go_sem] theorem tyG69 : tyAgg Tryz.prog 69 = some false := by kernel_rfl
@[go_sem] theorem tyZ69 : tyZero Tryz.prog 69 = some (.raw (.nilFunc)) := by kernel_rfl
@[go_sem] theorem tyE69 : tyElem Tryz.prog 69 = none := by kernel_rfl
@[go_sem] theorem tyS70 : tySize Tryz.prog 70 = some 1 := by kernel_rfl
@[go_sem] theorem tyB70 : tyBytes Tryz.prog 70 = some 8 := by kernel_rfl
@[go_sem] theorem tyG70 : tyAgg Tryz.prog 70 = some false := by kernel_rfl
@[go_sem] theorem tyZ70 : tyZero Tryz.prog 70 = some (.raw (.nilFunc)) := by kernel_rfl
@[go_sem] theorem tyE70 : tyElem Tryz.prog 70 = none := by kernel_rfl
@[go_sem] theorem tyS71 : tySize Tryz.prog 71 = some 1 := by kernel_rfl
@[go_sem] theorem tyB71 : tyBytes Tryz.prog 71 = some 24 := by kernel_rfl
@[go_sem] theorem tyG71 : tyAgg Tryz.prog 71 = some false := by kernel_rfl
@[go_sem] theorem tyZ71 : tyZero Tryz.prog 71 = some (.raw (.slice none 0 0)) := by kernel_rfl
@[go_sem] theorem tyE71 : tyElem Tryz.prog 71 = some (2, 1) := by kernel_rfl
@[go_sem] theorem tyU71 : Tryz.prog.underlying 71 = some (.slice 2) := by kernel_rfl
@[go_sem] theorem tyS72 : tySize Tryz.prog 72 = some 1 := by kernel_rfl
@[go_sem] theorem tyB72 : tyBytes Tryz.prog 72 = some 8 := by kernel_rfl
@[go_sem] theorem tyG72 : tyAgg Tryz.prog 72 = some false := by kernel_rfl
@[go_sem] theorem tyZ72 : tyZero Tryz.prog 72 = some (.raw (.nilFunc)) := by kernel_rfl
@[go_sem] theorem tyE72 : tyElem Tryz.prog 72 = none := by kernel_rfl
@[go_sem] theorem tyS73 : tySize Tryz.prog 73 = some 1 := by kernel_rfl
@[go_sem] theorem tyB73 : tyBytes Tryz.prog 73 = some 8 := by kernel_rfl
@[go_sem] theorem tyG73 : tyAgg Tryz.prog 73 = some false := by kernel_rfl
@[go_sem] theorem tyZ73 : tyZero Tryz.prog 73 = some (.raw (.nilFunc)) := by kernel_rfl
@[go_sem] theorem tyE73 : tyElem Tryz.prog 73 = none := by kernel_rfl
@[go_sem] theorem tyS74 : tySize Tryz.prog 74 = some 1 := by kernel_rfl
@[go_sem] theorem tyB74 : tyBytes Tryz.prog 74 = some 8 := by kernel_rfl
@[go_sem] theorem tyG74 : tyAgg Tryz.prog 74 = some false := by kernel_rfl
@[go_sem] theorem tyZ74 : tyZero Tryz.prog 74 = some (.raw (.nilFunc)) := by kernel_rfl
@[go_sem] theorem tyE74 : tyElem Tryz.prog 74 = none := by kernel_rfl
@[go_sem] theorem tyS75 : tySize Tryz.prog 75 = some 1 := by kernel_rfl
@[go_sem] theorem tyB75 : tyBytes Tryz.prog 75 = some 8 := by kernel_rfl
@[go_sem] theorem tyG75 : tyAgg Tryz.prog 75 = some false := by kernel_rfl
@[go_sem] theorem tyZ75 : tyZero Tryz.prog 75 = some (.raw (.nilFunc)) := by kernel_rfl
@[go_sem] theorem tyE75 : tyElem Tryz.prog 75 = none := by kernel_rfl
@[go_sem] theorem tyS76 : tySize Tryz.prog 76 = some 1 := by kernel_rfl
@[go_sem] theorem tyB76 : tyBytes Tryz.prog 76 = some 8 := by kernel_rfl
@[go_sem] theorem tyG76 : tyAgg Tryz.prog 76 = some false := by kernel_rfl
@[go_sem] theorem tyZ76 : tyZero Tryz.prog 76 = some (.raw (.nilFunc)) := by kernel_rfl
@[go_sem] theorem tyE76 : tyElem Tryz.prog 76 = none := by kernel_rfl
@[go_sem] theorem tyS77 : tySize Tryz.prog 77 = some 1 := by kernel_rfl
@[go_sem] theorem tyB77 : tyBytes Tryz.prog 77 = some 8 := by kernel_rfl
@[go_sem] theorem tyG77 : tyAgg Tryz.prog 77 = some false := by kernel_rfl
@[go_sem] theorem tyZ77 : tyZero Tryz.prog 77 = some (.raw (.nilFunc)) := by kernel_rfl
@[go_sem] theorem tyE77 : tyElem Tryz.prog 77 = none := by kernel_rfl
@[go_sem] theorem tyS78 : tySize Tryz.prog 78 = some 1 := by kernel_rfl
@[go_sem] theorem tyB78 : tyBytes Tryz.prog 78 = some 8 := by kernel_rfl
@[go_sem] theorem tyG78 : tyAgg Tryz.prog 78 = some false := by kernel_rfl
@[go_sem] theorem tyZ78 : tyZero Tryz.prog 78 = some (.raw (.nilFunc)) := by kernel_rfl
@[go_sem] theorem tyE78 : tyElem Tryz.prog 78 = none := by kernel_rfl
@[go_sem] theorem tyS79 : tySize Tryz.prog 79 = some 1 := by kernel_rfl
@[go_sem] theorem tyB79 : tyBytes Tryz.prog 79 = some 8 := by kernel_rfl
@[go_sem] theorem tyG79 : tyAgg Tryz.prog 79 = some false := by kernel_rfl
@[go_sem] theorem tyZ79 : tyZero Tryz.prog 79 = some (.raw (.nilFunc)) := by kernel_rfl
@[go_sem] theorem tyE79 : tyElem Tryz.prog 79 = none := by kernel_rfl
@[go_sem] theorem tyS80 : tySize Tryz.prog 80 = some 1 := by kernel_rfl
@[go_sem] theorem tyB80 : tyBytes Tryz.prog 80 = some 8 := by kernel_rfl
@[go_sem] theorem tyG80 : tyAgg Tryz.prog 80 = some false := by kernel_rfl
@[go_sem] theorem tyZ80 : tyZero Tryz.prog 80 = some (.raw (.nilFunc)) := by kernel_rfl
@[go_sem] theorem tyE80 : tyElem Tryz.prog 80 = none := by kernel_rfl
@[go_sem] theorem tyS81 : tySize Tryz.prog 81 = some 1 := by kernel_rfl
@[go_sem] theorem tyB81 : tyBytes Tryz.prog 81 = some 8 := by kernel_rfl
@[go_sem] theorem tyG81 : tyAgg Tryz.prog 81 = some false := by kernel_rfl
@[go_sem] theorem tyZ81 : tyZero Tryz.prog 81 = some (.raw (.nilFunc)) := by kernel_rfl
@[go_sem] theorem tyE81 : tyElem Tryz.prog 81 = none := by kernel_rfl
@[go_sem] theorem tyS82 : tySize Tryz.prog 82 = some 1 := by kernel_rfl
@[go_sem] theorem tyB82 : tyBytes Tryz.prog 82 = some 8 := by kernel_rfl
@[go_sem] theorem tyG82 : tyAgg Tryz.prog 82 = some false := by kernel_rfl
@[go_sem] theorem tyZ82 : tyZero Tryz.prog 82 = some (.raw (.nilFunc)) := by kernel_rfl
@[go_sem] theorem tyE82 : tyElem Tryz.prog 82 = none := by kernel_rfl
@[go_sem] theorem tyS83 : tySize Tryz.prog 83 = some 1 := by kernel_rfl
@[go_sem] theorem tyB83 : tyBytes Tryz.prog 83 = some 8 := by kernel_rfl
@[go_sem] theorem tyG83 : tyAgg Tryz.prog 83 = some false := by kernel_rfl
@[go_sem] theorem tyZ83 : tyZero Tryz.prog 83 = some (.raw (.nilFunc)) := by kernel_rfl
@[go_sem] theorem tyE83 : tyElem Tryz.prog 83 = none := by kernel_rfl
@[go_sem] theorem tyS84 : tySize Tryz.prog 84 = some 1 := by kernel_rfl
@[go_sem] theorem tyB84 : tyBytes Tryz.prog 84 = some 8 := by kernel_rfl
@[go_sem] theorem tyG84 : tyAgg Tryz.prog 84 = some false := by kernel_rfl
@[go_sem] theorem tyZ84 : tyZero Tryz.prog 84 = some (.raw (.nilFunc)) := by kernel_rfl
@[go_sem] theorem tyE84 : tyElem Tryz.prog 84 = none := by kernel_rfl
@[go_sem] theorem tyS85 : tySize Tryz.prog 85 = some 1 := by kernel_rfl
@[go_sem] theorem tyB85 : tyBytes Tryz.prog 85 = some 8 := by kernel_rfl
@[go_sem] theorem tyG85 : tyAgg Tryz.prog 85 = some false := by kernel_rfl
@[go_sem] theorem tyZ85 : tyZero Tryz.prog 85 = some (.raw (.nilFunc)) := by kernel_rfl
@[go_sem] theorem tyE85 : tyElem Tryz.prog 85 = none := by kernel_rfl
@[go_sem] theorem tyS86 : tySize Tryz.prog 86 = some 1 := by kernel_rfl
@[go_sem] theorem tyB86 : tyBytes Tryz.prog 86 = some 8 := by kernel_rfl
@[go_sem] theorem tyG86 : tyAgg Tryz.prog 86 = some false := by kernel_rfl
@[go_sem] theorem tyZ86 : tyZero Tryz.prog 86 = some (.raw (.int .u64 0)) := by kernel_rfl
@[go_sem] theorem tyE86 : tyElem Tryz.prog 86 = none := by kernel_rfl
@[go_sem] theorem tyU86 : Tryz.prog.underlying 86 = some (.int .u64) := by kernel_rfl
@[go_sem] theorem tyS87 : tySize Tryz.prog 87 = some 1 := by kernel_rfl
@[go_sem] theorem tyB87 : tyBytes Tryz.prog 87 = some 8 := by kernel_rfl
@[go_sem] theorem tyG87 : tyAgg Tryz.prog 87 = some false := by kernel_rfl
@[go_sem] theorem tyZ87 : tyZero Tryz.prog 87 = some (.raw (.nilFunc)) := by kernel_rfl
@[go_sem] theorem tyE87 : tyElem Tryz.prog 87 = none := by kernel_rfl
@[go_sem] theorem tyS88 : tySize Tryz.prog 88 = some 1 := by kernel_rfl
@[go_sem] theorem tyB88 : tyBytes Tryz.prog 88 = some 4 := by kernel_rfl
@[go_sem] theorem tyG88 : tyAgg Tryz.prog 88 = some false := by kernel_rfl
@[go_sem] theorem tyZ88 : tyZero Tryz.prog 88 = some (.raw (.int .u32 0)) := by kernel_rfl
@[go_sem] theorem tyE88 : tyElem Tryz.prog 88 = none := by kernel_rfl
@[go_sem] theorem tyU88 : Tryz.prog.underlying 88 = some (.int .u32) := by kernel_rfl
@[go_sem] theorem tyS89 : tySize Tryz.prog 89 = some 1 := by kernel_rfl
@[go_sem] theorem tyB89 : tyBytes Tryz.prog 89 = some 8 := by kernel_rfl
@[go_sem] theorem tyG89 : tyAgg Tryz.prog 89 = some false := by kernel_rfl
@[go_sem] theorem tyZ89 : tyZero Tryz.prog 89 = some (.raw (.nilFunc)) := by kernel_rfl
@[go_sem] theorem tyE89 : tyElem Tryz.prog 89 = none := by kernel_rfl
@[go_sem] theorem tyS90 : tySize Tryz.prog 90 = some 1 := by kernel_rfl
@[go_sem] theorem tyB90 : tyBytes Tryz.prog 90 = some 8 := by kernel_rfl
@[go_sem] theorem tyG90 : tyAgg Tryz.prog 90 = some false := by kernel_rfl
@[go_sem] theorem tyZ90 : tyZero Tryz.prog 90 = some (.raw (.nilFunc)) := by kernel_rfl
@[go_sem] theorem tyE90 : tyElem Tryz.prog 90 = none := by kernel_rfl
@[go_sem] theorem tyS91 : tySize Tryz.prog 91 = some 1 := by kernel_rfl
@[go_sem] theorem tyB91 : tyBytes Tryz.prog 91 = some 8 := by kernel_rfl
@[go_sem] theorem tyG91 : tyAgg Tryz.prog 91 = some false := by kernel_rfl
@[go_sem] theorem tyZ91 : tyZero Tryz.prog 91 = some (.raw (.nilFunc)) := by kernel_rfl
@[go_sem] theorem tyE91 : tyElem Tryz.prog 91 = none := by kernel_rfl
@[go_sem] theorem tyS93 : tySize Tryz.prog 93 = some 1 := by kernel_rfl
@[go_sem] theorem tyB93 : tyBytes Tryz.prog 93 = some 8 := by kernel_rfl
@[go_sem] theorem tyG93 : tyAgg Tryz.prog 93 = some false := by kernel_rfl
@[go_sem] theorem tyZ93 : tyZero Tryz.prog 93 = some (.raw (.nilFunc)) := by kernel_rfl
@[go_sem] theorem tyE93 : tyElem Tryz.prog 93 = none := by kernel_rfl
@[go_sem] theorem tyS94 : tySize Tryz.prog 94 = some 1 := by kernel_rfl
@[go_sem] theorem tyB94 : tyBytes Tryz.prog 94 = some 24 := by kernel_rfl
@[go_sem] theorem tyG94 : tyAgg Tryz.prog 94 = some false := by kernel_rfl
@[go_sem] theorem tyZ94 : tyZero Tryz.prog 94 = some (.raw (.slice none 0 0)) := by kernel_rfl
@[go_sem] theorem tyE94 : tyElem Tryz.prog 94 = some (34, 2) := by kernel_rfl
@[go_sem] theorem tyU94 : Tryz.prog.underlying 94 = some (.slice 34) := by kernel_rfl
@[go_sem] theorem tyS96 : tySize Tryz.prog 96 = some 1 := by kernel_rfl
@[go_sem] theorem tyB96 : tyBytes Tryz.prog 96 = some 8 := by kernel_rfl
@[go_sem] theorem tyG96 : tyAgg Tryz.prog 96 = some false := by kernel_rfl
@[go_sem] theorem tyZ96 : tyZero Tryz.prog 96 = some (.raw (.nilFunc)) := by kernel_rfl
@[go_sem] theorem tyE96 : tyElem Tryz.prog 96 = none := by kernel_rfl
@[go_sem] theorem tyS98 : tySize Tryz.prog 98 = some 1 := by kernel_rfl
@[go_sem] theorem tyB98 : tyBytes Tryz.prog 98 = some 8 := by kernel_rfl
@[go_sem] theorem tyG98 : tyAgg Tryz.prog 98 = some false := by kernel_rfl
@[go_sem] theorem tyZ98 : tyZero Tryz.prog 98 = some (.raw (.nilFunc)) := by kernel_rfl
@[go_sem] theorem tyE98 : tyElem Tryz.prog 98 = none := by kernel_rfl
@[go_sem] theorem tyS100 : tySize Tryz.prog 100 = some 1 := by kernel_rfl
@[go_sem] theorem tyB100 : tyBytes Tryz.prog 100 = some 8 := by kernel_rfl
@[go_sem] theorem tyG100 : tyAgg Tryz.prog 100 = some false := by kernel_rfl
@[go_sem] theorem tyZ100 : tyZero Tryz.prog 100 = some (.raw (.nilFunc)) := by kernel_rfl
@[go_sem] theorem tyE100 : tyElem Tryz.prog 100 = none := by kernel_rfl
@[go_sem] theorem tyS101 : tySize Tryz.prog 101 = some 1 := by kernel_rfl
@[go_sem] theorem tyB101 : tyBytes Tryz.prog 101 = some 8 := by kernel_rfl
@[go_sem] theorem tyG101 : tyAgg Tryz.prog 101 = some false := by kernel_rfl
@[go_sem] theorem tyZ101 : tyZero Tryz.prog 101 = some (.raw (.nilFunc)) := by kernel_rfl
@[go_sem] theorem tyE101 : tyElem Tryz.prog 101 = none := by kernel_rfl
@[go_sem] theorem tyS103 : tySize Tryz.prog 103 = some 1 := by kernel_rfl
@[go_sem] theorem tyB103 : tyBytes Tryz.prog 103 = some 8 := by kernel_rfl
@[go_sem] theorem tyG103 : tyAgg Tryz.prog 103 = some false := by kernel_rfl
@[go_sem] theorem tyZ103 : tyZero Tryz.prog 103 = some (.raw (.nilFunc)) := by kernel_rfl
@[go_sem] theorem tyE103 : tyElem Tryz.prog 103 = none := by kernel_rfl
@[go_sem] theorem tyS105 : tySize Tryz.prog 105 = some 1 := by kernel_rfl
@[go_sem] theorem tyB105 : tyBytes Tryz.prog 105 = some 8 := by kernel_rfl
@[go_sem] theorem tyG105 : tyAgg Tryz.prog 105 = some false := by kernel_rfl
@[go_sem] theorem tyZ105 : tyZero Tryz.prog 105 = some (.raw (.nilFunc)) := by kernel_rfl
@[go_sem] theorem tyE105 : tyElem Tryz.prog 105 = none := by kernel_rfl
@[go_sem] theorem tyS106 : tySize Tryz.prog 106 = some 1 := by kernel_rfl
@[go_sem] theorem tyB106 : tyBytes Tryz.prog 106 = some 8 := by kernel_rfl
@[go_sem] theorem tyG106 : tyAgg Tryz.prog 106 = some false := by kernel_rfl
@[go_sem] theorem tyZ106 : tyZero Tryz.prog 106 = some (.raw (.nilFunc)) := by kernel_rfl
@[go_sem] theorem tyE106 : tyElem Tryz.prog 106 = none := by kernel_rfl
@[go_sem] theorem tyS108 : tySize Tryz.prog 108 = some 1 := by kernel_rfl
@[go_sem] theorem tyB108 : tyBytes Tryz.prog 108 = some 8 := by kernel_rfl
@[go_sem] theorem tyG108 : tyAgg Tryz.prog 108 = some false := by kernel_rfl
@[go_sem] theorem tyZ108 : tyZero Tryz.prog 108 = some (.raw (.nilFunc)) := by kernel_rfl
@[go_sem] theorem tyE108 : tyElem Tryz.prog 108 = none := by kernel_rfl
@[go_sem] theorem tyS109 : tySize Tryz.prog 109 = some 1 := by kernel_rfl
@[go_sem] theorem tyB109 : tyBytes Tryz.prog 109 = some 8 := by kernel_rfl
@[go_sem] theorem tyG109 : tyAgg Tryz.prog 109 = some false := by kernel_rfl
@[go_sem] theorem tyZ109 : tyZero Tryz.prog 109 = some (.raw (.nilFunc)) := by kernel_rfl
@[go_sem] theorem tyE109 : tyElem Tryz.prog 109 = none := by kernel_rfl
@[go_sem] theorem tyS110 : tySize Tryz.prog 110 = some 1 := by kernel_rfl
@[go_sem] theorem tyB110 : tyBytes Tryz.prog 110 = some 8 := by kernel_rfl
@[go_sem] theorem tyG110 : tyAgg Tryz.prog 110 = some false := by kernel_rfl
@[go_sem] theorem tyZ110 : tyZero Tryz.prog 110 = some (.raw (.nilFunc)) := by kernel_rfl
@[go_sem] theorem tyE110 : tyElem Tryz.prog 110 = none := by kernel_rfl
@[go_sem] theorem tyS111 : tySize Tryz.prog 111 = some 1 := by kernel_rfl
@[go_sem] theorem tyB111 : tyBytes Tryz.prog 111 = some 8 := by kernel_rfl
@[go_sem] theorem tyG111 : tyAgg Tryz.prog 111 = some false := by kernel_rfl
@[go_sem] theorem tyZ111 : tyZero Tryz.prog 111 = some (.raw (.nilFunc)) := by kernel_rfl
@[go_sem] theorem tyE111 : tyElem Tryz.prog 111 = none := by kernel_rfl
@[go_sem] theorem tyS112 : tySize Tryz.prog 112 = some 1 := by kernel_rfl
@[go_sem] theorem tyB112 : tyBytes Tryz.prog 112 = some 8 := by kernel_rfl
@[go_sem] theorem tyG112 : tyAgg Tryz.prog 112 = some false := by kernel_rfl
@[go_sem] theorem tyZ112 : tyZero Tryz.prog 112 = some (.raw (.nilFunc)) := by kernel_rfl
@[go_sem] theorem tyE112 : tyElem Tryz.prog 112 = none := by kernel_rfl
@[go_sem] theorem tyS113 : tySize Tryz.prog 113 = some 1 := by kernel_rfl
@[go_sem] theorem tyB113 : tyBytes Tryz.prog 113 = some 8 := by kernel_rfl
@[go_sem] theorem tyG113 : tyAgg Tryz.prog 113 = some false := by kernel_rfl
@[go_sem] theorem tyZ113 : tyZero Tryz.prog 113 = some (.raw (.nilFunc)) := by kernel_rfl
@[go_sem] theorem tyE113 : tyElem Tryz.prog 113 = none := by kernel_rfl
@[go_sem] theorem tyS114 : tySize Tryz.prog 114 = some 1 := by kernel_rfl
@[go_sem] theorem tyB114 : tyBytes Tryz.prog 114 = some 8 := by kernel_rfl
@[go_sem] theorem tyG114 : tyAgg Tryz.prog 114 = some false := by kernel_rfl
@[go_sem] theorem tyZ114 : tyZero Tryz.prog 114 = some (.raw (.nilFunc)) := by kernel_rfl
@[go_sem] theorem tyE114 : tyElem Tryz.prog 114 = none := by kernel_rfl
@[go_sem] theorem tyS115 : tySize Tryz.prog 115 = some 1 := by kernel_rfl
@[go_sem] theorem tyB115 : tyBytes Tryz.prog 115 = some 8 := by kernel_rfl
@[go_sem] theorem tyG115 : tyAgg Tryz.prog 115 = some false := by kernel_rfl
@[go_sem] theorem tyZ115 : tyZero Tryz.prog 115 = some (.raw (.nilFunc)) := by kernel_rfl
@[go_sem] theorem tyE115 : tyElem Tryz.prog 115 = none := by kernel_rfl
@[go_sem] theorem tyS116 : tySize Tryz.prog 116 = some 1 := by kernel_rfl
@[go_sem] theorem tyB116 : tyBytes Tryz.prog 116 = some 8 := by kernel_rfl
@[go_sem] theorem tyG116 : tyAgg Tryz.prog 116 = some false := by kernel_rfl
@[go_sem] theorem tyZ116 : tyZero Tryz.prog 116 = some (.raw (.nilFunc)) := by kernel_rfl
@[go_sem] theorem tyE116 : tyElem Tryz.prog 116 = none := by kernel_rfl
@[go_sem] theorem tyS117 : tySize Tryz.prog 117 = some 1 := by kernel_rfl
@[go_sem] theorem tyB117 : tyBytes Tryz.prog 117 = some 8 := by kernel_rfl
@[go_sem] theorem tyG117 : tyAgg Tryz.prog 117 = some false := by kernel_rfl
@[go_sem] theorem tyZ117 : tyZero Tryz.prog 117 = some (.raw (.nilFunc)) := by kernel_rfl
@[go_sem] theorem tyE117 : tyElem Tryz.prog 117 = none := by kernel_rfl
@[go_sem] theorem tyS118 : tySize Tryz.prog 118 = some 1 := by kernel_rfl
@[go_sem] theorem tyB118 : tyBytes Tryz.prog 118 = some 8 := by kernel_rfl
@[go_sem] theorem tyG118 : tyAgg Tryz.prog 118 = some false := by kernel_rfl
@[go_sem] theorem tyZ118 : tyZero Tryz.prog 118 = some (.raw (.nilFunc)) := by kernel_rfl
@[go_sem] theorem tyE118 : tyElem Tryz.prog 118 = none := by kernel_rfl
@[go_sem] theorem tyS119 : tySize Tryz.prog 119 = some 4 := by kernel_rfl
@[go_sem] theorem tyB119 : tyBytes Tryz.prog 119 = some 40 := by kernel_rfl
@[go_sem] theorem tyG119 : tyAgg Tryz.prog 119 = some true := by kernel_rfl
@[go_sem] theorem tyZ119 : tyZero Tryz.prog 119 = some (.agg [.raw (.pointer none), .raw (.pointer none), .raw (.pointer none), .raw (.string ⟨#[]⟩)]) := by kernel_rfl
@[go_sem] theorem tyE119 : tyElem Tryz.prog 119 = none := by kernel_rfl
@[go_sem] theorem tyF119_0 : tyField Tryz.prog 119 0 = some (0, 1, false) := by kernel_rfl
@[go_sem] theorem tyP119_0 : tyPlace Tryz.prog 119 0 = some (0, 1) := by kernel_rfl
@[go_sem] theorem tyF119_1 : tyField Tryz.prog 119 1 = some (1, 1, false) := by kernel_rfl
@[go_sem] theorem tyP119_1 : tyPlace Tryz.prog 119 1 = some (1, 1) := by kernel_rfl
@[go_sem] theorem tyF119_2 : tyField Tryz.prog 119 2 = some (2, 1, false) := by kernel_rfl
@[go_sem] theorem tyP119_2 : tyPlace Tryz.prog 119 2 = some (2, 1) := by kernel_rfl
@[go_sem] theorem tyF119_3 : tyField Tryz.prog 119 3 = some (3, 1, false) := by kernel_rfl
@[go_sem] theorem tyP119_3 : tyPlace Tryz.prog 119 3 = some (3, 1) := by kernel_rfl
@[go_sem] theorem tyK119 : tyKids Tryz.prog 119 = some (.agg [.raw (.pointer none), .raw (.pointer none), .raw (.pointer none), .raw (.string ⟨#[]⟩)]) := by kernel_rfl
@[go_sem] theorem tyS120 : tySize Tryz.prog 120 = some 4 := by kernel_rfl
@[go_sem] theorem tyB120 : tyBytes Tryz.prog 120 = some 40 := by kernel_rfl
@[go_sem] theorem tyG120 : tyAgg Tryz.prog 120 = some true := by kernel_rfl
@[go_sem] theorem tyZ120 : tyZero Tryz.prog 120 = some (.agg [.raw (.pointer none), .raw (.pointer none), .raw (.pointer none), .raw (.string ⟨#[]⟩)]) := by kernel_rfl
@[go_sem] theorem tyE120 : tyElem Tryz.prog 120 = none := by kernel_rfl
@[go_sem] theorem tyF120_0 : tyField Tryz.prog 120 0 = some (0, 1, false) := by kernel_rfl
@[go_sem] theorem tyP120_0 : tyPlace Tryz.prog 120 0 = some (0, 1) := by kernel_rfl
@[go_sem] theorem tyF120_1 : tyField Tryz.prog 120 1 = some (1, 1, false) := by kernel_rfl
@[go_sem] theorem tyP120_1 : tyPlace Tryz.prog 120 1 = some (1, 1) := by kernel_rfl
@[go_sem] theorem tyF120_2 : tyField Tryz.prog 120 2 = some (2, 1, false) := by kernel_rfl
@[go_sem] theorem tyP120_2 : tyPlace Tryz.prog 120 2 = some (2, 1) := by kernel_rfl
@[go_sem] theorem tyF120_3 : tyField Tryz.prog 120 3 = some (3, 1, false) := by kernel_rfl
@[go_sem] theorem tyP120_3 : tyPlace Tryz.prog 120 3 = some (3, 1) := by kernel_rfl
@[go_sem] theorem tyK120 : tyKids Tryz.prog 120 = some (.agg [.raw (.pointer none), .raw (.pointer none), .raw (.pointer none), .raw (.string ⟨#[]⟩)]) := by kernel_rfl
@[go_sem] theorem tyS121 : tySize Tryz.prog 121 = some 0 := by kernel_rfl
@[go_sem] theorem tyB121 : tyBytes Tryz.prog 121 = some 0 := by kernel_rfl
@[go_sem] theorem tyG121 : tyAgg Tryz.prog 121 = some true := by kernel_rfl
@[go_sem] theorem tyZ121 : tyZero Tryz.prog 121 = some (.agg []) := by kernel_rfl
@[go_sem] theorem tyE121 : tyElem Tryz.prog 121 = none := by kernel_rfl
@[go_sem] theorem tyA121 : tyArr Tryz.prog 121 = some (0, 16, 1) := by kernel_rfl
@[go_sem] theorem tyK121 : tyKids Tryz.prog 121 = some (.agg []) := by kernel_rfl
@[go_sem] theorem tyU121 : Tryz.prog.underlying 121 = some (.array 0 16) := by kernel_rfl
@[go_sem] theorem tyS122 : tySize Tryz.prog 122 = some 0 := by kernel_rfl
@[go_sem] theorem tyB122 : tyBytes Tryz.prog 122 = some 0 := by kernel_rfl
@[go_sem] theorem tyG122 : tyAgg Tryz.prog 122 = some true := by kernel_rfl
@[go_sem] theorem tyZ122 : tyZero Tryz.prog 122 = some (.agg []) := by kernel_rfl
@[go_sem] theorem tyE122 : tyElem Tryz.prog 122 = none := by kernel_rfl
@[go_sem] theorem tyF122_0 : tyField Tryz.prog 122 0 = some (0, 0, true) := by kernel_rfl
@[go_sem] theorem tyP122_0 : tyPlace Tryz.prog 122 0 = some (0, 0) := by kernel_rfl
@[go_sem] theorem tyK122 : tyKids Tryz.prog 122 = some (.agg [.agg []]) := by kernel_rfl
@[go_sem] theorem tyS123 : tySize Tryz.prog 123 = some 0 := by kernel_rfl
@[go_sem] theorem tyB123 : tyBytes Tryz.prog 123 = some 0 := by kernel_rfl
@[go_sem] theorem tyG123 : tyAgg Tryz.prog 123 = some true := by kernel_rfl
@[go_sem] theorem tyZ123 : tyZero Tryz.prog 123 = some (.agg []) := by kernel_rfl
@[go_sem] theorem tyE123 : tyElem Tryz.prog 123 = none := by kernel_rfl
@[go_sem] theorem tyF123_0 : tyField Tryz.prog 123 0 = some (0, 0, true) := by kernel_rfl
@[go_sem] theorem tyP123_0 : tyPlace Tryz.prog 123 0 = some (0, 0) := by kernel_rfl
@[go_sem] theorem tyK123 : tyKids Tryz.prog 123 = some (.agg [.agg []]) := by kernel_rfl
@[go_sem] theorem tyS124 : tySize Tryz.prog 124 = some 1 := by kernel_rfl
@[go_sem] theorem tyB124 : tyBytes Tryz.prog 124 = some 8 := by kernel_rfl
@[go_sem] theorem tyG124 : tyAgg Tryz.prog 124 = some false := by kernel_rfl
@[go_sem] theorem tyZ124 : tyZero Tryz.prog 124 = some (.raw (.nilFunc)) := by kernel_rfl
@[go_sem] theorem tyE124 : tyElem Tryz.prog 124 = none := by kernel_rfl
@[go_sem] theorem tyS125 : tySize Tryz.prog 125 = some 1 := by kernel_rfl
@[go_sem] theorem tyB125 : tyBytes Tryz.prog 125 = some 1 := by kernel_rfl
@[go_sem] theorem tyG125 : tyAgg Tryz.prog 125 = some false := by kernel_rfl
@[go_sem] theorem tyZ125 : tyZero Tryz.prog 125 = some (.raw (.int .u8 0)) := by kernel_rfl
@[go_sem] theorem tyE125 : tyElem Tryz.prog 125 = none := by kernel_rfl
@[go_sem] theorem tyU125 : Tryz.prog.underlying 125 = some (.int .u8) := by kernel_rfl
@[go_sem] theorem tyS126 : tySize Tryz.prog 126 = some 1 := by kernel_rfl
@[go_sem] theorem tyB126 : tyBytes Tryz.prog 126 = some 1 := by kernel_rfl
@[go_sem] theorem tyG126 : tyAgg Tryz.prog 126 = some false := by kernel_rfl
@[go_sem] theorem tyZ126 : tyZero Tryz.prog 126 = some (.raw (.int .u8 0)) := by kernel_rfl
@[go_sem] theorem tyE126 : tyElem Tryz.prog 126 = none := by kernel_rfl
@[go_sem] theorem tyU126 : Tryz.prog.underlying 126 = some (.int .u8) := by kernel_rfl
@[go_sem] theorem tyS127 : tySize Tryz.prog 127 = some 1 := by kernel_rfl
@[go_sem] theorem tyB127 : tyBytes Tryz.prog 127 = some 8 := by kernel_rfl
@[go_sem] theorem tyG127 : tyAgg Tryz.prog 127 = some false := by kernel_rfl
@[go_sem] theorem tyZ127 : tyZero Tryz.prog 127 = some (.raw (.nilFunc)) := by kernel_rfl
@[go_sem] theorem tyE127 : tyElem Tryz.prog 127 = none := by kernel_rfl
@[go_sem] theorem tyS128 : tySize Tryz.prog 128 = some 1 := by kernel_rfl
@[go_sem] theorem tyB128 : tyBytes Tryz.prog 128 = some 8 := by kernel_rfl
@[go_sem] theorem tyG128 : tyAgg Tryz.prog 128 = some false := by kernel_rfl
@[go_sem] theorem tyZ128 : tyZero Tryz.prog 128 = some (.raw (.pointer none)) := by kernel_rfl
@[go_sem] theorem tyE128 : tyElem Tryz.prog 128 = none := by kernel_rfl
@[go_sem] theorem tyS129 : tySize Tryz.prog 129 = some 1 := by kernel_rfl
@[go_sem] theorem tyB129 : tyBytes Tryz.prog 129 = some 4 := by kernel_rfl
@[go_sem] theorem tyG129 : tyAgg Tryz.prog 129 = some false := by kernel_rfl
@[go_sem] theorem tyZ129 : tyZero Tryz.prog 129 = some (.raw (.int .i32 0)) := by kernel_rfl
@[go_sem] theorem tyE129 : tyElem Tryz.prog 129 = none := by kernel_rfl
@[go_sem] theorem tyU129 : Tryz.prog.underlying 129 = some (.int .i32) := by kernel_rfl
@[go_sem] theorem tyS130 : tySize Tryz.prog 130 = some 1 := by kernel_rfl
@[go_sem] theorem tyB130 : tyBytes Tryz.prog 130 = some 4 := by kernel_rfl
@[go_sem] theorem tyG130 : tyAgg Tryz.prog 130 = some false := by kernel_rfl
@[go_sem] theorem tyZ130 : tyZero Tryz.prog 130 = some (.raw (.int .i32 0)) := by kernel_rfl
@[go_sem] theorem tyE130 : tyElem Tryz.prog 130 = none := by kernel_rfl
@[go_sem] theorem tyU130 : Tryz.prog.underlying 130 = some (.int .i32) := by kernel_rfl
@[go_sem] theorem tyS131 : tySize Tryz.prog 131 = some 11 := by kernel_rfl
@[go_sem] theorem tyB131 : tyBytes Tryz.prog 131 = some 48 := by kernel_rfl
@[go_sem] theorem tyG131 : tyAgg Tryz.prog 131 = some true := by kernel_rfl
@[go_sem] theorem tyZ131 : tyZero Tryz.prog 131 = some (.agg [.raw (.int .u64 0), .raw (.int .u64 0), .raw (.int .u32 0), .raw (.int .u8 0), .raw (.int .u8 0), .raw (.int .u8 0), .raw (.int .u8 0), .raw (.nilFunc), .raw (.pointer none), .raw (.int .i32 0), .raw (.int .i32 0)]) := by kernel_rfl
@[go_sem] theorem tyE131 : tyElem Tryz.prog 131 = none := by kernel_rfl
@[go_sem] theorem tyF131_0 : tyField Tryz.prog 131 0 = some (0, 1, false) := by kernel_rfl
@[go_sem] theorem tyP131_0 : tyPlace Tryz.prog 131 0 = some (0, 1) := by kernel_rfl
@[go_sem] theorem tyF131_1 : tyField Tryz.prog 131 1 = some (1, 1, false) := by kernel_rfl
@[go_sem] theorem tyP131_1 : tyPlace Tryz.prog 131 1 = some (1, 1) := by kernel_rfl
@[go_sem] theorem tyF131_2 : tyField Tryz.prog 131 2 = some (2, 1, false) := by kernel_rfl
@[go_sem] theorem tyP131_2 : tyPlace Tryz.prog 131 2 = some (2, 1) := by kernel_rfl
@[go_sem] theorem tyF131_3 : tyField Tryz.prog 131 3 = some (3, 1, false) := by kernel_rfl
@[go_sem] theorem tyP131_3 : tyPlace Tryz.prog 131 3 = some (3, 1) := by kernel_rfl
@[go_sem] theorem tyF131_4 : tyField Tryz.prog 131 4 = some (4, 1, false) := by kernel_rfl
@[go_sem] theorem tyP131_4 : tyPlace Tryz.prog 131 4 = some (4, 1) := by kernel_rfl
@[go_sem] theorem tyF131_5 : tyField Tryz.prog 131 5 = some (5, 1, false) := by kernel_rfl
@[go_sem] theorem tyP131_5 : tyPlace Tryz.prog 131 5 = some (5, 1) := by kernel_rfl
@[go_sem] theorem tyF131_6 : tyField Tryz.prog 131 6 = some (6, 1, false) := by kernel_rfl
@[go_sem] theorem tyP131_6 : tyPlace Tryz.prog 131 6 = some (6, 1) := by kernel_rfl
@[go_sem] theorem tyF131_7 : tyField Tryz.prog 131 7 = some (7, 1, false) := by kernel_rfl
@[go_sem] theorem tyP131_7 : tyPlace Tryz.prog 131 7 = some (7, 1) := by kernel_rfl
@[go_sem] theorem tyF131_8 : tyField Tryz.prog 131 8 = some (8, 1, false) := by kernel_rfl
@[go_sem] theorem tyP131_8 : tyPlace Tryz.prog 131 8 = some (8, 1) := by kernel_rfl
@[go_sem] theorem tyF131_9 : tyField Tryz.prog 131 9 = some (9, 1, false) := by kernel_rfl
@[go_sem] theorem tyP131_9 : tyPlace Tryz.prog 131 9 = some (9, 1) := by kernel_rfl
@[go_sem] theorem tyF131_10 : tyField Tryz.prog 131 10 = some (10, 1, false) := by kernel_rfl
@[go_sem] theorem tyP131_10 : tyPlace Tryz.prog 131 10 = some (10, 1) := by kernel_rfl
@[go_sem] theorem tyK131 : tyKids Tryz.prog 131 = some (.agg [.raw (.int .u64 0), .raw (.int .u64 0), .raw (.int .u32 0), .raw (.int .u8 0), .raw (.int .u8 0), .raw (.int .u8 0), .raw (.int .u8 0), .raw (.nilFunc), .raw (.pointer none), .raw (.int .i32 0), .raw (.int .i32 0)]) := by kernel_rfl
@[go_sem] theorem tyS132 : tySize Tryz.prog 132 = some 11 := by kernel_rfl
@[go_sem] theorem tyB132 : tyBytes Tryz.prog 132 = some 48 := by kernel_rfl
@[go_sem] theorem tyG132 : tyAgg Tryz.prog 132 = some true := by kernel_rfl
@[go_sem] theorem tyZ132 : tyZero Tryz.prog 132 = some (.agg [.raw (.int .u64 0), .raw (.int .u64 0), .raw (.int .u32 0), .raw (.int .u8 0), .raw (.int .u8 0), .raw (.int .u8 0), .raw (.int .u8 0), .raw (.nilFunc), .raw (.pointer none), .raw (.int .i32 0), .raw (.int .i32 0)]) := by kernel_rfl
@[go_sem] theorem tyE132 : tyElem Tryz.prog 132 = none := by kernel_rfl
@[go_sem] theorem tyF132_0 : tyField Tryz.prog 132 0 = some (0, 1, false) := by kernel_rfl
@[go_sem] theorem tyP132_0 : tyPlace Tryz.prog 132 0 = some (0, 1) := by kernel_rfl
@[go_sem] theorem tyF132_1 : tyField Tryz.prog 132 1 = some (1, 1, false) := by kernel_rfl
@[go_sem] theorem tyP132_1 : tyPlace Tryz.prog 132 1 = some (1, 1) := by kernel_rfl
@[go_sem] theorem tyF132_2 : tyField Tryz.prog 132 2 = some (2, 1, false) := by kernel_rfl
@[go_sem] theorem tyP132_2 : tyPlace Tryz.prog 132 2 = some (2, 1) := by kernel_rfl
@[go_sem] theorem tyF132_3 : tyField Tryz.prog 132 3 = some (3, 1, false) := by kernel_rfl
@[go_sem] theorem tyP132_3 : tyPlace Tryz.prog 132 3 = some (3, 1) := by kernel_rfl
@[go_sem] theorem tyF132_4 : tyField Tryz.prog 132 4 = some (4, 1, false) := by kernel_rfl
@[go_sem] theorem tyP132_4 : tyPlace Tryz.prog 132 4 = some (4, 1) := by kernel_rfl
@[go_sem] theorem tyF132_5 : tyField Tryz.prog 132 5 = some (5, 1, false) := by kernel_rfl
@[go_sem] theorem tyP132_5 : tyPlace Tryz.prog 132 5 = some (5, 1) := by kernel_rfl
@[go_sem] theorem tyF132_6 : tyField Tryz.prog 132 6 = some (6, 1, false) := by kernel_rfl
@[go_sem] theorem tyP132_6 : tyPlace Tryz.prog 132 6 = some (6, 1) := by kernel_rfl
@[go_sem] theorem tyF132_7 : tyField Tryz.prog 132 7 = some (7, 1, false) := by kernel_rfl
@[go_sem] theorem tyP132_7 : tyPlace Tryz.prog 132 7 = some (7, 1) := by kernel_rfl
@[go_sem] theorem tyF132_8 : tyField Tryz.prog 132 8 = some (8, 1, false) := by kernel_rfl
@[go_sem] theorem tyP132_8 : tyPlace Tryz.prog 132 8 = some (8, 1) := by kernel_rfl
@[go_sem] theorem tyF132_9 : tyField Tryz.prog 132 9 = some (9, 1, false) := by kernel_rfl
@[go_sem] theorem tyP132_9 : tyPlace Tryz.prog 132 9 = some (9, 1) := by kernel_rfl
@[go_sem] theorem tyF132_10 : tyField Tryz.prog 132 10 = some (10, 1, false) := by kernel_rfl
@[go_sem] theorem tyP132_10 : tyPlace Tryz.prog 132 10 = some (10, 1) := by kernel_rfl
@[go_sem] theorem tyK132 : tyKids Tryz.prog 132 = some (.agg [.raw (.int .u64 0), .raw (.int .u64 0), .raw (.int .u32 0), .raw (.int .u8 0), .raw (.int .u8 0), .raw (.int .u8 0), .raw (.int .u8 0), .raw (.nilFunc), .raw (.pointer none), .raw (.int .i32 0), .raw (.int .i32 0)]) := by kernel_rfl
end Go.Proofs.YtjjebokgckmnjaaGreat

