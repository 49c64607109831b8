/- Texts Ty in one. -/
import Derived.Test.YtjjebokgckmnjaaR09
import Derived.Test.YtjjebokgckmnjaaRows
import Derived.KernelRfl
/- Facts on the types of the program, printed by a program of mine. -/
namespace Go.Proofs.Ytjjebokgckmnjaa
@[go_sem] theorem tyS1 : tySize Try.prog 1 = some 1 := by kernel_rfl
@[go_sem] theorem tyB1 : tyBytes Try.prog 1 = some 8 := by kernel_rfl
@[go_sem] theorem tyG1 : tyAgg Try.prog 1 = some false := by kernel_rfl
@[go_sem] theorem tyZ1 : tyZero Try.prog 1 = some (.raw (.nilFunc)) := by kernel_rfl
@[go_sem] theorem tyE1 : tyElem Try.prog 1 = none := by kernel_rfl
@[go_sem] theorem tyS2 : tySize Try.prog 2 = some 1 := by kernel_rfl
@[go_sem] theorem tyB2 : tyBytes Try.prog 2 = some 8 := by kernel_rfl
@[go_sem] theorem tyG2 : tyAgg Try.prog 2 = some false := by kernel_rfl
@[go_sem] theorem tyZ2 : tyZero Try.prog 2 = some (.raw (.int .i64 0)) := by kernel_rfl
@[go_sem] theorem tyE2 : tyElem Try.prog 2 = none := by kernel_rfl
@[go_sem] theorem tyU2 : Try.prog.underlying 2 = some (.int .i64) := by kernel_rfl
@[go_sem] theorem tyS3 : tySize Try.prog 3 = some 1 := by kernel_rfl
@[go_sem] theorem tyB3 : tyBytes Try.prog 3 = some 8 := by kernel_rfl
@[go_sem] theorem tyG3 : tyAgg Try.prog 3 = some false := by kernel_rfl
@[go_sem] theorem tyZ3 : tyZero Try.prog 3 = some (.raw (.int .i64 0)) := by kernel_rfl
@[go_sem] theorem tyE3 : tyElem Try.prog 3 = none := by kernel_rfl
@[go_sem] theorem tyU3 : Try.prog.underlying 3 = some (.int .i64) := by kernel_rfl
@[go_sem] theorem tyS4 : tySize Try.prog 4 = some 1 := by kernel_rfl
@[go_sem] theorem tyB4 : tyBytes Try.prog 4 = some 1 := by kernel_rfl
@[go_sem] theorem tyG4 : tyAgg Try.prog 4 = some false := by kernel_rfl
@[go_sem] theorem tyZ4 : tyZero Try.prog 4 = some (.raw (.bool false)) := by kernel_rfl
@[go_sem] theorem tyE4 : tyElem Try.prog 4 = none := by kernel_rfl
@[go_sem] theorem tyU4 : Try.prog.underlying 4 = some .bool := by kernel_rfl
@[go_sem] theorem tyS5 : tySize Try.prog 5 = some 1 := by kernel_rfl
@[go_sem] theorem tyB5 : tyBytes Try.prog 5 = some 1 := by kernel_rfl
@[go_sem] theorem tyG5 : tyAgg Try.prog 5 = some false := by kernel_rfl
@[go_sem] theorem tyZ5 : tyZero Try.prog 5 = some (.raw (.int .u8 0)) := by kernel_rfl
@[go_sem] theorem tyE5 : tyElem Try.prog 5 = none := by kernel_rfl
@[go_sem] theorem tyU5 : Try.prog.underlying 5 = some (.int .u8) := by kernel_rfl
@[go_sem] theorem tyS6 : tySize Try.prog 6 = some 1 := by kernel_rfl
@[go_sem] theorem tyB6 : tyBytes Try.prog 6 = some 1 := by kernel_rfl
@[go_sem] theorem tyG6 : tyAgg Try.prog 6 = some false := by kernel_rfl
@[go_sem] theorem tyZ6 : tyZero Try.prog 6 = some (.raw (.int .u8 0)) := by kernel_rfl
@[go_sem] theorem tyE6 : tyElem Try.prog 6 = none := by kernel_rfl
@[go_sem] theorem tyU6 : Try.prog.underlying 6 = some (.int .u8) := by kernel_rfl
@[go_sem] theorem tyS7 : tySize Try.prog 7 = some 4 := by kernel_rfl
@[go_sem] theorem tyB7 : tyBytes Try.prog 7 = some 24 := by kernel_rfl
@[go_sem] theorem tyG7 : tyAgg Try.prog 7 = some true := by kernel_rfl
@[go_sem] theorem tyZ7 : tyZero Try.prog 7 = some (.agg [.raw (.int .i64 0), .raw (.int .i64 0), .raw (.bool false), .raw (.int .u8 0)]) := by kernel_rfl
@[go_sem] theorem tyE7 : tyElem Try.prog 7 = none := by kernel_rfl
@[go_sem] theorem tyF7_0 : tyField Try.prog 7 0 = some (0, 1, false) := by kernel_rfl
@[go_sem] theorem tyP7_0 : tyPlace Try.prog 7 0 = some (0, 1) := by kernel_rfl
@[go_sem] theorem tyF7_1 : tyField Try.prog 7 1 = some (1, 1, false) := by kernel_rfl
@[go_sem] theorem tyP7_1 : tyPlace Try.prog 7 1 = some (1, 1) := by kernel_rfl
@[go_sem] theorem tyF7_2 : tyField Try.prog 7 2 = some (2, 1, false) := by kernel_rfl
@[go_sem] theorem tyP7_2 : tyPlace Try.prog 7 2 = some (2, 1) := by kernel_rfl
@[go_sem] theorem tyF7_3 : tyField Try.prog 7 3 = some (3, 1, false) := by kernel_rfl
@[go_sem] theorem tyP7_3 : tyPlace Try.prog 7 3 = some (3, 1) := by kernel_rfl
@[go_sem] theorem tyK7 : tyKids Try.prog 7 = some (.agg [.raw (.int .i64 0), .raw (.int .i64 0), .raw (.bool false), .raw (.int .u8 0)]) := by kernel_rfl
@[go_sem] theorem tyS8 : tySize Try.prog 8 = some 4 := by kernel_rfl
@[go_sem] theorem tyB8 : tyBytes Try.prog 8 = some 24 := by kernel_rfl
@[go_sem] theorem tyG8 : tyAgg Try.prog 8 = some true := by kernel_rfl
@[go_sem] theorem tyZ8 : tyZero Try.prog 8 = some (.agg [.raw (.int .i64 0), .raw (.int .i64 0), .raw (.bool false), .raw (.int .u8 0)]) := by kernel_rfl
@[go_sem] theorem tyE8 : tyElem Try.prog 8 = none := by kernel_rfl
@[go_sem] theorem tyF8_0 : tyField Try.prog 8 0 = some (0, 1, false) := by kernel_rfl
@[go_sem] theorem tyP8_0 : tyPlace Try.prog 8 0 = some (0, 1) := by kernel_rfl
@[go_sem] theorem tyF8_1 : tyField Try.prog 8 1 = some (1, 1, false) := by kernel_rfl
@[go_sem] theorem tyP8_1 : tyPlace Try.prog 8 1 = some (1, 1) := by kernel_rfl
@[go_sem] theorem tyF8_2 : tyField Try.prog 8 2 = some (2, 1, false) := by kernel_rfl
@[go_sem] theorem tyP8_2 : tyPlace Try.prog 8 2 = some (2, 1) := by kernel_rfl
@[go_sem] theorem tyF8_3 : tyField Try.prog 8 3 = some (3, 1, false) := by kernel_rfl
@[go_sem] theorem tyP8_3 : tyPlace Try.prog 8 3 = some (3, 1) := by kernel_rfl
@[go_sem] theorem tyK8 : tyKids Try.prog 8 = some (.agg [.raw (.int .i64 0), .raw (.int .i64 0), .raw (.bool false), .raw (.int .u8 0)]) := by kernel_rfl
@[go_sem] theorem tyS9 : tySize Try.prog 9 = some 1 := by kernel_rfl
@[go_sem] theorem tyB9 : tyBytes Try.prog 9 = some 16 := by kernel_rfl
@[go_sem] theorem tyG9 : tyAgg Try.prog 9 = some false := by kernel_rfl
@[go_sem] theorem tyZ9 : tyZero Try.prog 9 = some (.raw (.string ⟨#[]⟩)) := by kernel_rfl
@[go_sem] theorem tyE9 : tyElem Try.prog 9 = none := by kernel_rfl
@[go_sem] theorem tyU9 : Try.prog.underlying 9 = some .string := by kernel_rfl
@[go_sem] theorem tyS10 : tySize Try.prog 10 = some 1 := by kernel_rfl
@[go_sem] theorem tyB10 : tyBytes Try.prog 10 = some 16 := by kernel_rfl
@[go_sem] theorem tyG10 : tyAgg Try.prog 10 = some false := by kernel_rfl
@[go_sem] theorem tyZ10 : tyZero Try.prog 10 = some (.raw (.string ⟨#[]⟩)) := by kernel_rfl
@[go_sem] theorem tyE10 : tyElem Try.prog 10 = none := by kernel_rfl
@[go_sem] theorem tyU10 : Try.prog.underlying 10 = some .string := by kernel_rfl
@[go_sem] theorem tyS11 : tySize Try.prog 11 = some 1 := by kernel_rfl
@[go_sem] theorem tyB11 : tyBytes Try.prog 11 = some 16 := by kernel_rfl
@[go_sem] theorem tyG11 : tyAgg Try.prog 11 = some false := by kernel_rfl
@[go_sem] theorem tyZ11 : tyZero Try.prog 11 = some (.raw (.string ⟨#[]⟩)) := by kernel_rfl
@[go_sem] theorem tyE11 : tyElem Try.prog 11 = none := by kernel_rfl
@[go_sem] theorem tyU11 : Try.prog.underlying 11 = some .string := by kernel_rfl
@[go_sem] theorem tyS12 : tySize Try.prog 12 = some 1 := by kernel_rfl
@[go_sem] theorem tyB12 : tyBytes Try.prog 12 = some 8 := by kernel_rfl
@[go_sem] theorem tyG12 : tyAgg Try.prog 12 = some false := by kernel_rfl
@[go_sem] theorem tyZ12 : tyZero Try.prog 12 = some (.raw (.int .u64 0)) := by kernel_rfl
@[go_sem] theorem tyE12 : tyElem Try.prog 12 = none := by kernel_rfl
@[go_sem] theorem tyU12 : Try.prog.underlying 12 = some (.int .u64) := by kernel_rfl
@[go_sem] theorem tyS13 : tySize Try.prog 13 = some 2 := by kernel_rfl
@[go_sem] theorem tyB13 : tyBytes Try.prog 13 = some 24 := by kernel_rfl
@[go_sem] theorem tyG13 : tyAgg Try.prog 13 = some true := by kernel_rfl
@[go_sem] theorem tyZ13 : tyZero Try.prog 13 = some (.agg [.raw (.string ⟨#[]⟩), .raw (.int .u64 0)]) := by kernel_rfl
@[go_sem] theorem tyE13 : tyElem Try.prog 13 = none := by kernel_rfl
@[go_sem] theorem tyF13_0 : tyField Try.prog 13 0 = some (0, 1, false) := by kernel_rfl
@[go_sem] theorem tyP13_0 : tyPlace Try.prog 13 0 = some (0, 1) := by kernel_rfl
@[go_sem] theorem tyF13_1 : tyField Try.prog 13 1 = some (1, 1, false) := by kernel_rfl
@[go_sem] theorem tyP13_1 : tyPlace Try.prog 13 1 = some (1, 1) := by kernel_rfl
@[go_sem] theorem tyK13 : tyKids Try.prog 13 = some (.agg [.raw (.string ⟨#[]⟩), .raw (.int .u64 0)]) := by kernel_rfl
@[go_sem] theorem tyS14 : tySize Try.prog 14 = some 2 := by kernel_rfl
@[go_sem] theorem tyB14 : tyBytes Try.prog 14 = some 24 := by kernel_rfl
@[go_sem] theorem tyG14 : tyAgg Try.prog 14 = some true := by kernel_rfl
@[go_sem] theorem tyZ14 : tyZero Try.prog 14 = some (.agg [.raw (.string ⟨#[]⟩), .raw (.int .u64 0)]) := by kernel_rfl
@[go_sem] theorem tyE14 : tyElem Try.prog 14 = none := by kernel_rfl
@[go_sem] theorem tyF14_0 : tyField Try.prog 14 0 = some (0, 1, false) := by kernel_rfl
@[go_sem] theorem tyP14_0 : tyPlace Try.prog 14 0 = some (0, 1) := by kernel_rfl
@[go_sem] theorem tyF14_1 : tyField Try.prog 14 1 = some (1, 1, false) := by kernel_rfl
@[go_sem] theorem tyP14_1 : tyPlace Try.prog 14 1 = some (1, 1) := by kernel_rfl
@[go_sem] theorem tyK14 : tyKids Try.prog 14 = some (.agg [.raw (.string ⟨#[]⟩), .raw (.int .u64 0)]) := by kernel_rfl
@[go_sem] theorem tyS15 : tySize Try.prog 15 = some 1 := by kernel_rfl
@[go_sem] theorem tyB15 : tyBytes Try.prog 15 = some 8 := by kernel_rfl
@[go_sem] theorem tyG15 : tyAgg Try.prog 15 = some false := by kernel_rfl
@[go_sem] theorem tyZ15 : tyZero Try.prog 15 = some (.raw (.pointer none)) := by kernel_rfl
@[go_sem] theorem tyE15 : tyElem Try.prog 15 = none := by kernel_rfl
@[go_sem] theorem tyS16 : tySize Try.prog 16 = some 1 := by kernel_rfl
@[go_sem] theorem tyB16 : tyBytes Try.prog 16 = some 8 := by kernel_rfl
@[go_sem] theorem tyG16 : tyAgg Try.prog 16 = some false := by kernel_rfl
@[go_sem] theorem tyZ16 : tyZero Try.prog 16 = some (.raw (.pointer none)) := by kernel_rfl
@[go_sem] theorem tyE16 : tyElem Try.prog 16 = none := by kernel_rfl
@[go_sem] theorem tyS17 : tySize Try.prog 17 = some 1 := by kernel_rfl
@[go_sem] theorem tyB17 : tyBytes Try.prog 17 = some 8 := by kernel_rfl
@[go_sem] theorem tyG17 : tyAgg Try.prog 17 = some false := by kernel_rfl
@[go_sem] theorem tyZ17 : tyZero Try.prog 17 = some (.raw (.pointer none)) := by kernel_rfl
@[go_sem] theorem tyE17 : tyElem Try.prog 17 = none := by kernel_rfl
@[go_sem] theorem tyS18 : tySize Try.prog 18 = some 1 := by kernel_rfl
@[go_sem] theorem tyB18 : tyBytes Try.prog 18 = some 8 := by kernel_rfl
@[go_sem] theorem tyG18 : tyAgg Try.prog 18 = some true := by kernel_rfl
@[go_sem] theorem tyZ18 : tyZero Try.prog 18 = some (.agg [.raw (.pointer none)]) := by kernel_rfl
@[go_sem] theorem tyE18 : tyElem Try.prog 18 = none := by kernel_rfl
@[go_sem] theorem tyF18_0 : tyField Try.prog 18 0 = some (0, 1, false) := by kernel_rfl
@[go_sem] theorem tyP18_0 : tyPlace Try.prog 18 0 = some (0, 1) := by kernel_rfl
@[go_sem] theorem tyK18 : tyKids Try.prog 18 = some (.agg [.raw (.pointer none)]) := by kernel_rfl
@[go_sem] theorem tyS19 : tySize Try.prog 19 = some 1 := by kernel_rfl
@[go_sem] theorem tyB19 : tyBytes Try.prog 19 = some 8 := by kernel_rfl
@[go_sem] theorem tyG19 : tyAgg Try.prog 19 = some true := by kernel_rfl
@[go_sem] theorem tyZ19 : tyZero Try.prog 19 = some (.agg [.raw (.pointer none)]) := by kernel_rfl
@[go_sem] theorem tyE19 : tyElem Try.prog 19 = none := by kernel_rfl
@[go_sem] theorem tyF19_0 : tyField Try.prog 19 0 = some (0, 1, false) := by kernel_rfl
@[go_sem] theorem tyP19_0 : tyPlace Try.prog 19 0 = some (0, 1) := by kernel_rfl
@[go_sem] theorem tyK19 : tyKids Try.prog 19 = some (.agg [.raw (.pointer none)]) := by kernel_rfl
@[go_sem] theorem tyS21 : tySize Try.prog 21 = some 1 := by kernel_rfl
@[go_sem] theorem tyB21 : tyBytes Try.prog 21 = some 4 := by kernel_rfl
@[go_sem] theorem tyG21 : tyAgg Try.prog 21 = some false := by kernel_rfl
@[go_sem] theorem tyZ21 : tyZero Try.prog 21 = some (.raw (.int .i32 0)) := by kernel_rfl
@[go_sem] theorem tyE21 : tyElem Try.prog 21 = none := by kernel_rfl
@[go_sem] theorem tyU21 : Try.prog.underlying 21 = some (.int .i32) := by kernel_rfl
@[go_sem] theorem tyS22 : tySize Try.prog 22 = some 1 := by kernel_rfl
@[go_sem] theorem tyB22 : tyBytes Try.prog 22 = some 24 := by kernel_rfl
@[go_sem] theorem tyG22 : tyAgg Try.prog 22 = some false := by kernel_rfl
@[go_sem] theorem tyZ22 : tyZero Try.prog 22 = some (.raw (.slice none 0 0)) := by kernel_rfl
@[go_sem] theorem tyE22 : tyElem Try.prog 22 = some (69, 1) := by kernel_rfl
@[go_sem] theorem tyU22 : Try.prog.underlying 22 = some (.slice 69) := by kernel_rfl
@[go_sem] theorem tyS23 : tySize Try.prog 23 = some 3 := by kernel_rfl
@[go_sem] theorem tyB23 : tyBytes Try.prog 23 = some 32 := by kernel_rfl
@[go_sem] theorem tyG23 : tyAgg Try.prog 23 = some true := by kernel_rfl
@[go_sem] theorem tyZ23 : tyZero Try.prog 23 = some (.agg [.raw (.int .u8 0), .raw (.int .u8 0), .raw (.slice none 0 0)]) := by kernel_rfl
@[go_sem] theorem tyE23 : tyElem Try.prog 23 = none := by kernel_rfl
@[go_sem] theorem tyF23_0 : tyField Try.prog 23 0 = some (0, 1, false) := by kernel_rfl
@[go_sem] theorem tyP23_0 : tyPlace Try.prog 23 0 = some (0, 1) := by kernel_rfl
@[go_sem] theorem tyF23_1 : tyField Try.prog 23 1 = some (1, 1, false) := by kernel_rfl
@[go_sem] theorem tyP23_1 : tyPlace Try.prog 23 1 = some (1, 1) := by kernel_rfl
@[go_sem] theorem tyF23_2 : tyField Try.prog 23 2 = some (2, 1, false) := by kernel_rfl
@[go_sem] theorem tyP23_2 : tyPlace Try.prog 23 2 = some (2, 1) := by kernel_rfl
@[go_sem] theorem tyK23 : tyKids Try.prog 23 = some (.agg [.raw (.int .u8 0), .raw (.int .u8 0), .raw (.slice none 0 0)]) := by kernel_rfl
@[go_sem] theorem tyS24 : tySize Try.prog 24 = some 3 := by kernel_rfl
@[go_sem] theorem tyB24 : tyBytes Try.prog 24 = some 32 := by kernel_rfl
@[go_sem] theorem tyG24 : tyAgg Try.prog 24 = some true := by kernel_rfl
@[go_sem] theorem tyZ24 : tyZero Try.prog 24 = some (.agg [.raw (.int .u8 0), .raw (.int .u8 0), .raw (.slice none 0 0)]) := by kernel_rfl
@[go_sem] theorem tyE24 : tyElem Try.prog 24 = none := by kernel_rfl
@[go_sem] theorem tyF24_0 : tyField Try.prog 24 0 = some (0, 1, false) := by kernel_rfl
@[go_sem] theorem tyP24_0 : tyPlace Try.prog 24 0 = some (0, 1) := by kernel_rfl
@[go_sem] theorem tyF24_1 : tyField Try.prog 24 1 = some (1, 1, false) := by kernel_rfl
@[go_sem] theorem tyP24_1 : tyPlace Try.prog 24 1 = some (1, 1) := by kernel_rfl
@[go_sem] theorem tyF24_2 : tyField Try.prog 24 2 = some (2, 1, false) := by kernel_rfl
@[go_sem] theorem tyP24_2 : tyPlace Try.prog 24 2 = some (2, 1) := by kernel_rfl
@[go_sem] theorem tyK24 : tyKids Try.prog 24 = some (.agg [.raw (.int .u8 0), .raw (.int .u8 0), .raw (.slice none 0 0)]) := by kernel_rfl
@[go_sem] theorem tyS25 : tySize Try.prog 25 = some 1 := by kernel_rfl
@[go_sem] theorem tyB25 : tyBytes Try.prog 25 = some 8 := by kernel_rfl
@[go_sem] theorem tyG25 : tyAgg Try.prog 25 = some false := by kernel_rfl
@[go_sem] theorem tyZ25 : tyZero Try.prog 25 = some (.raw (.nilFunc)) := by kernel_rfl
@[go_sem] theorem tyE25 : tyElem Try.prog 25 = none := by kernel_rfl
@[go_sem] theorem tyS26 : tySize Try.prog 26 = some 1 := by kernel_rfl
@[go_sem] theorem tyB26 : tyBytes Try.prog 26 = some 24 := by kernel_rfl
@[go_sem] theorem tyG26 : tyAgg Try.prog 26 = some false := by kernel_rfl
@[go_sem] theorem tyZ26 : tyZero Try.prog 26 = some (.raw (.slice none 0 0)) := by kernel_rfl
@[go_sem] theorem tyE26 : tyElem Try.prog 26 = some (33, 1) := by kernel_rfl
@[go_sem] theorem tyU26 : Try.prog.underlying 26 = some (.slice 33) := by kernel_rfl
@[go_sem] theorem tyS28 : tySize Try.prog 28 = some 1 := by kernel_rfl
@[go_sem] theorem tyB28 : tyBytes Try.prog 28 = some 8 := by kernel_rfl
@[go_sem] theorem tyG28 : tyAgg Try.prog 28 = some false := by kernel_rfl
@[go_sem] theorem tyZ28 : tyZero Try.prog 28 = some (.raw (.nilFunc)) := by kernel_rfl
@[go_sem] theorem tyE28 : tyElem Try.prog 28 = none := by kernel_rfl
@[go_sem] theorem tyS29 : tySize Try.prog 29 = some 1 := by kernel_rfl
@[go_sem] theorem tyB29 : tyBytes Try.prog 29 = some 24 := by kernel_rfl
@[go_sem] theorem tyG29 : tyAgg Try.prog 29 = some false := by kernel_rfl
@[go_sem] theorem tyZ29 : tyZero Try.prog 29 = some (.raw (.slice none 0 0)) := by kernel_rfl
@[go_sem] theorem tyE29 : tyElem Try.prog 29 = some (3, 1) := by kernel_rfl
@[go_sem] theorem tyU29 : Try.prog.underlying 29 = some (.slice 3) := by kernel_rfl
@[go_sem] theorem tyS31 : tySize Try.prog 31 = some 1 := by kernel_rfl
@[go_sem] theorem tyB31 : tyBytes Try.prog 31 = some 8 := by kernel_rfl
@[go_sem] theorem tyG31 : tyAgg Try.prog 31 = some false := by kernel_rfl
@[go_sem] theorem tyZ31 : tyZero Try.prog 31 = some (.raw (.nilFunc)) := by kernel_rfl
@[go_sem] theorem tyE31 : tyElem Try.prog 31 = none := by kernel_rfl
@[go_sem] theorem tyS32 : tySize Try.prog 32 = some 1 := by kernel_rfl
@[go_sem] theorem tyB32 : tyBytes Try.prog 32 = some 8 := by kernel_rfl
@[go_sem] theorem tyG32 : tyAgg Try.prog 32 = some false := by kernel_rfl
@[go_sem] theorem tyZ32 : tyZero Try.prog 32 = some (.raw (.nilFunc)) := by kernel_rfl
@[go_sem] theorem tyE32 : tyElem Try.prog 32 = none := by kernel_rfl
@[go_sem] theorem tyS33 : tySize Try.prog 33 = some 1 := by kernel_rfl
@[go_sem] theorem tyB33 : tyBytes Try.prog 33 = some 24 := by kernel_rfl
@[go_sem] theorem tyG33 : tyAgg Try.prog 33 = some false := by kernel_rfl
@[go_sem] theorem tyZ33 : tyZero Try.prog 33 = some (.raw (.slice none 0 0)) := by kernel_rfl
@[go_sem] theorem tyE33 : tyElem Try.prog 33 = some (41, 4) := by kernel_rfl
@[go_sem] theorem tyU33 : Try.prog.underlying 33 = some (.slice 41) := by kernel_rfl
@[go_sem] theorem tyS34 : tySize Try.prog 34 = some 1 := by kernel_rfl
@[go_sem] theorem tyB34 : tyBytes Try.prog 34 = some 8 := by kernel_rfl
@[go_sem] theorem tyG34 : tyAgg Try.prog 34 = some false := by kernel_rfl
@[go_sem] theorem tyZ34 : tyZero Try.prog 34 = some (.raw (.nilFunc)) := by kernel_rfl
@[go_sem] theorem tyE34 : tyElem Try.prog 34 = none := by kernel_rfl
@[go_sem] theorem tyS35 : tySize Try.prog 35 = some 1 := by kernel_rfl
@[go_sem] theorem tyB35 : tyBytes Try.prog 35 = some 8 := by kernel_rfl
@[go_sem] theorem tyG35 : tyAgg Try.prog 35 = some false := by kernel_rfl
@[go_sem] theorem tyZ35 : tyZero Try.prog 35 = some (.raw (.nilFunc)) := by kernel_rfl
@[go_sem] theorem tyE35 : tyElem Try.prog 35 = none := by kernel_rfl
@[go_sem] theorem tyS36 : tySize Try.prog 36 = some 1 := by kernel_rfl
@[go_sem] theorem tyB36 : tyBytes Try.prog 36 = some 8 := by kernel_rfl
@[go_sem] theorem tyG36 : tyAgg Try.prog 36 = some false := by kernel_rfl
@[go_sem] theorem tyZ36 : tyZero Try.prog 36 = some (.raw (.nilFunc)) := by kernel_rfl
@[go_sem] theorem tyE36 : tyElem Try.prog 36 = none := by kernel_rfl
@[go_sem] theorem tyS37 : tySize Try.prog 37 = some 1 := by kernel_rfl
@[go_sem] theorem tyB37 : tyBytes Try.prog 37 = some 24 := by kernel_rfl
@[go_sem] theorem tyG37 : tyAgg Try.prog 37 = some false := by kernel_rfl
@[go_sem] theorem tyZ37 : tyZero Try.prog 37 = some (.raw (.slice none 0 0)) := by kernel_rfl
@[go_sem] theorem tyE37 : tyElem Try.prog 37 = some (95, 1) := by kernel_rfl
@[go_sem] theorem tyU37 : Try.prog.underlying 37 = some (.slice 95) := by kernel_rfl
@[go_sem] theorem tyS38 : tySize Try.prog 38 = some 2 := by kernel_rfl
@[go_sem] theorem tyB38 : tyBytes Try.prog 38 = some 32 := by kernel_rfl
@[go_sem] theorem tyG38 : tyAgg Try.prog 38 = some true := by kernel_rfl
@[go_sem] theorem tyZ38 : tyZero Try.prog 38 = some (.agg [.raw (.bool false), .raw (.slice none 0 0)]) := by kernel_rfl
@[go_sem] theorem tyE38 : tyElem Try.prog 38 = none := by kernel_rfl
@[go_sem] theorem tyF38_0 : tyField Try.prog 38 0 = some (0, 1, false) := by kernel_rfl
@[go_sem] theorem tyP38_0 : tyPlace Try.prog 38 0 = some (0, 1) := by kernel_rfl
@[go_sem] theorem tyF38_1 : tyField Try.prog 38 1 = some (1, 1, false) := by kernel_rfl
@[go_sem] theorem tyP38_1 : tyPlace Try.prog 38 1 = some (1, 1) := by kernel_rfl
@[go_sem] theorem tyK38 : tyKids Try.prog 38 = some (.agg [.raw (.bool false), .raw (.slice none 0 0)]) := by kernel_rfl
@[go_sem] theorem tyS39 : tySize Try.prog 39 = some 2 := by kernel_rfl
@[go_sem] theorem tyB39 : tyBytes Try.prog 39 = some 32 := by kernel_rfl
@[go_sem] theorem tyG39 : tyAgg Try.prog 39 = some true := by kernel_rfl
@[go_sem] theorem tyZ39 : tyZero Try.prog 39 = some (.agg [.raw (.bool false), .raw (.slice none 0 0)]) := by kernel_rfl
@[go_sem] theorem tyE39 : tyElem Try.prog 39 = none := by kernel_rfl
@[go_sem] theorem tyF39_0 : tyField Try.prog 39 0 = some (0, 1, false) := by kernel_rfl
@[go_sem] theorem tyP39_0 : tyPlace Try.prog 39 0 = some (0, 1) := by kernel_rfl
@[go_sem] theorem tyF39_1 : tyField Try.prog 39 1 = some (1, 1, false) := by kernel_rfl
@[go_sem] theorem tyP39_1 : tyPlace Try.prog 39 1 = some (1, 1) := by kernel_rfl
@[go_sem] theorem tyK39 : tyKids Try.prog 39 = some (.agg [.raw (.bool false), .raw (.slice none 0 0)]) := by kernel_rfl
@[go_sem] theorem tyS40 : tySize Try.prog 40 = some 4 := by kernel_rfl
@[go_sem] theorem tyB40 : tyBytes Try.prog 40 = some 64 := by kernel_rfl
@[go_sem] theorem tyG40 : tyAgg Try.prog 40 = some true := by kernel_rfl
@[go_sem] theorem tyZ40 : tyZero Try.prog 40 = some (.agg [.raw (.bool false), .raw (.slice none 0 0), .raw (.bool false), .raw (.slice none 0 0)]) := by kernel_rfl
@[go_sem] theorem tyE40 : tyElem Try.prog 40 = none := by kernel_rfl
@[go_sem] theorem tyF40_0 : tyField Try.prog 40 0 = some (0, 2, true) := by kernel_rfl
@[go_sem] theorem tyP40_0 : tyPlace Try.prog 40 0 = some (0, 2) := by kernel_rfl
@[go_sem] theorem tyF40_1 : tyField Try.prog 40 1 = some (2, 2, true) := by kernel_rfl
@[go_sem] theorem tyP40_1 : tyPlace Try.prog 40 1 = some (2, 2) := by kernel_rfl
@[go_sem] theorem tyK40 : tyKids Try.prog 40 = some (.agg [.agg [.raw (.bool false), .raw (.slice none 0 0)], .agg [.raw (.bool false), .raw (.slice none 0 0)]]) := by kernel_rfl
@[go_sem] theorem tyS41 : tySize Try.prog 41 = some 4 := by kernel_rfl
@[go_sem] theorem tyB41 : tyBytes Try.prog 41 = some 64 := by kernel_rfl
@[go_sem] theorem tyG41 : tyAgg Try.prog 41 = some true := by kernel_rfl
@[go_sem] theorem tyZ41 : tyZero Try.prog 41 = some (.agg [.raw (.bool false), .raw (.slice none 0 0), .raw (.bool false), .raw (.slice none 0 0)]) := by kernel_rfl
@[go_sem] theorem tyE41 : tyElem Try.prog 41 = none := by kernel_rfl
@[go_sem] theorem tyF41_0 : tyField Try.prog 41 0 = some (0, 2, true) := by kernel_rfl
@[go_sem] theorem tyP41_0 : tyPlace Try.prog 41 0 = some (0, 2) := by kernel_rfl
@[go_sem] theorem tyF41_1 : tyField Try.prog 41 1 = some (2, 2, true) := by kernel_rfl
@[go_sem] theorem tyP41_1 : tyPlace Try.prog 41 1 = some (2, 2) := by kernel_rfl
@[go_sem] theorem tyK41 : tyKids Try.prog 41 = some (.agg [.agg [.raw (.bool false), .raw (.slice none 0 0)], .agg [.raw (.bool false), .raw (.slice none 0 0)]]) := by kernel_rfl
@[go_sem] theorem tyS42 : tySize Try.prog 42 = some 1 := by kernel_rfl
@[go_sem] theorem tyB42 : tyBytes Try.prog 42 = some 8 := by kernel_rfl
@[go_sem] theorem tyG42 : tyAgg Try.prog 42 = some false := by kernel_rfl
@[go_sem] theorem tyZ42 : tyZero Try.prog 42 = some (.raw (.nilFunc)) := by kernel_rfl
@[go_sem] theorem tyE42 : tyElem Try.prog 42 = none := by kernel_rfl
@[go_sem] theorem tyS43 : tySize Try.prog 43 = some 1 := by kernel_rfl
@[go_sem] theorem tyB43 : tyBytes Try.prog 43 = some 8 := by kernel_rfl
@[go_sem] theorem tyG43 : tyAgg Try.prog 43 = some false := by kernel_rfl
@[go_sem] theorem tyZ43 : tyZero Try.prog 43 = some (.raw (.nilFunc)) := by kernel_rfl
@[go_sem] theorem tyE43 : tyElem Try.prog 43 = none := by kernel_rfl
@[go_sem] theorem tyS44 : tySize Try.prog 44 = some 1 := by kernel_rfl
@[go_sem] theorem tyB44 : tyBytes Try.prog 44 = some 8 := by kernel_rfl
@[go_sem] theorem tyG44 : tyAgg Try.prog 44 = some false := by kernel_rfl
@[go_sem] theorem tyZ44 : tyZero Try.prog 44 = some (.raw (.nilFunc)) := by kernel_rfl
@[go_sem] theorem tyE44 : tyElem Try.prog 44 = none := by kernel_rfl
@[go_sem] theorem tyS46 : tySize Try.prog 46 = some 1 := by kernel_rfl
@[go_sem] theorem tyB46 : tyBytes Try.prog 46 = some 8 := by kernel_rfl
@[go_sem] theorem tyG46 : tyAgg Try.prog 46 = some false := by kernel_rfl
@[go_sem] theorem tyZ46 : tyZero Try.prog 46 = some (.raw (.nilFunc)) := by kernel_rfl
@[go_sem] theorem tyE46 : tyElem Try.prog 46 = none := by kernel_rfl
@[go_sem] theorem tyS47 : tySize Try.prog 47 = some 1 := by kernel_rfl
@[go_sem] theorem tyB47 : tyBytes Try.prog 47 = some 8 := by kernel_rfl
@[go_sem] theorem tyG47 : tyAgg Try.prog 47 = some false := by kernel_rfl
@[go_sem] theorem tyZ47 : tyZero Try.prog 47 = some (.raw (.nilFunc)) := by kernel_rfl
@[go_sem] theorem tyE47 : tyElem Try.prog 47 = none := by kernel_rfl
@[go_sem] theorem tyS48 : tySize Try.prog 48 = some 1 := by kernel_rfl
@[go_sem] theorem tyB48 : tyBytes Try.prog 48 = some 8 := by kernel_rfl
@[go_sem] theorem tyG48 : tyAgg Try.prog 48 = some false := by kernel_rfl
@[go_sem] theorem tyZ48 : tyZero Try.prog 48 = some (.raw (.nilFunc)) := by kernel_rfl
@[go_sem] theorem tyE48 : tyElem Try.prog 48 = none := by kernel_rfl
@[go_sem] theorem tyS49 : tySize Try.prog 49 = some 1 := by kernel_rfl
@[go_sem] theorem tyB49 : tyBytes Try.prog 49 = some 8 := by kernel_rfl
@[go_sem] theorem tyG49 : tyAgg Try.prog 49 = some false := by kernel_rfl
@[go_sem] theorem tyZ49 : tyZero Try.prog 49 = some (.raw (.nilFunc)) := by kernel_rfl
@[go_sem] theorem tyE49 : tyElem Try.prog 49 = none := by kernel_rfl
@[go_sem] theorem tyS50 : tySize Try.prog 50 = some 1 := by kernel_rfl
@[go_sem] theorem tyB50 : tyBytes Try.prog 50 = some 8 := by kernel_rfl
@[go_sem] theorem tyG50 : tyAgg Try.prog 50 = some false := by kernel_rfl
@[go_sem] theorem tyZ50 : tyZero Try.prog 50 = some (.raw (.nilFunc)) := by kernel_rfl
@[go_sem] theorem tyE50 : tyElem Try.prog 50 = none := by kernel_rfl
@[go_sem] theorem tyS51 : tySize Try.prog 51 = some 1 := by kernel_rfl
@[go_sem] theorem tyB51 : tyBytes Try.prog 51 = some 8 := by kernel_rfl
@[go_sem] theorem tyG51 : tyAgg Try.prog 51 = some false := by kernel_rfl
@[go_sem] theorem tyZ51 : tyZero Try.prog 51 = some (.raw (.nilFunc)) := by kernel_rfl
@[go_sem] theorem tyE51 : tyElem Try.prog 51 = none := by kernel_rfl
@[go_sem] theorem tyS52 : tySize Try.prog 52 = some 1 := by kernel_rfl
@[go_sem] theorem tyB52 : tyBytes Try.prog 52 = some 8 := by kernel_rfl
@[go_sem] theorem tyG52 : tyAgg Try.prog 52 = some false := by kernel_rfl
@[go_sem] theorem tyZ52 : tyZero Try.prog 52 = some (.raw (.nilFunc)) := by kernel_rfl
@[go_sem] theorem tyE52 : tyElem Try.prog 52 = none := by kernel_rfl
@[go_sem] theorem tyS53 : tySize Try.prog 53 = some 1 := by kernel_rfl
@[go_sem] theorem tyB53 : tyBytes Try.prog 53 = some 1 := by kernel_rfl
@[go_sem] theorem tyG53 : tyAgg Try.prog 53 = some false := by kernel_rfl
@[go_sem] theorem tyZ53 : tyZero Try.prog 53 = some (.raw (.int .i8 0)) := by kernel_rfl
@[go_sem] theorem tyE53 : tyElem Try.prog 53 = none := by kernel_rfl
@[go_sem] theorem tyU53 : Try.prog.underlying 53 = some (.int .i8) := by kernel_rfl
@[go_sem] theorem tyS54 : tySize Try.prog 54 = some 4 := by kernel_rfl
@[go_sem] theorem tyB54 : tyBytes Try.prog 54 = some 4 := by kernel_rfl
@[go_sem] theorem tyG54 : tyAgg Try.prog 54 = some true := by kernel_rfl
@[go_sem] theorem tyZ54 : tyZero Try.prog 54 = some (.agg [.raw (.int .u8 0), .raw (.int .u8 0), .raw (.int .u8 0), .raw (.int .i8 0)]) := by kernel_rfl
@[go_sem] theorem tyE54 : tyElem Try.prog 54 = none := by kernel_rfl
@[go_sem] theorem tyF54_0 : tyField Try.prog 54 0 = some (0, 1, false) := by kernel_rfl
@[go_sem] theorem tyP54_0 : tyPlace Try.prog 54 0 = some (0, 1) := by kernel_rfl
@[go_sem] theorem tyF54_1 : tyField Try.prog 54 1 = some (1, 1, false) := by kernel_rfl
@[go_sem] theorem tyP54_1 : tyPlace Try.prog 54 1 = some (1, 1) := by kernel_rfl
@[go_sem] theorem tyF54_2 : tyField Try.prog 54 2 = some (2, 1, false) := by kernel_rfl
@[go_sem] theorem tyP54_2 : tyPlace Try.prog 54 2 = some (2, 1) := by kernel_rfl
@[go_sem] theorem tyF54_3 : tyField Try.prog 54 3 = some (3, 1, false) := by kernel_rfl
@[go_sem] theorem tyP54_3 : tyPlace Try.prog 54 3 = some (3, 1) := by kernel_rfl
@[go_sem] theorem tyK54 : tyKids Try.prog 54 = some (.agg [.raw (.int .u8 0), .raw (.int .u8 0), .raw (.int .u8 0), .raw (.int .i8 0)]) := by kernel_rfl
@[go_sem] theorem tyS55 : tySize Try.prog 55 = some 4 := by kernel_rfl
@[go_sem] theorem tyB55 : tyBytes Try.prog 55 = some 4 := by kernel_rfl
@[go_sem] theorem tyG55 : tyAgg Try.prog 55 = some true := by kernel_rfl
@[go_sem] theorem tyZ55 : tyZero Try.prog 55 = some (.agg [.raw (.int .u8 0), .raw (.int .u8 0), .raw (.int .u8 0), .raw (.int .i8 0)]) := by kernel_rfl
@[go_sem] theorem tyE55 : tyElem Try.prog 55 = none := by kernel_rfl
@[go_sem] theorem tyF55_0 : tyField Try.prog 55 0 = some (0, 1, false) := by kernel_rfl
@[go_sem] theorem tyP55_0 : tyPlace Try.prog 55 0 = some (0, 1) := by kernel_rfl
@[go_sem] theorem tyF55_1 : tyField Try.prog 55 1 = some (1, 1, false) := by kernel_rfl
@[go_sem] theorem tyP55_1 : tyPlace Try.prog 55 1 = some (1, 1) := by kernel_rfl
@[go_sem] theorem tyF55_2 : tyField Try.prog 55 2 = some (2, 1, false) := by kernel_rfl
@[go_sem] theorem tyP55_2 : tyPlace Try.prog 55 2 = some (2, 1) := by kernel_rfl
@[go_sem] theorem tyF55_3 : tyField Try.prog 55 3 = some (3, 1, false) := by kernel_rfl
@[go_sem] theorem tyP55_3 : tyPlace Try.prog 55 3 = some (3, 1) := by kernel_rfl
@[go_sem] theorem tyK55 : tyKids Try.prog 55 = some (.agg [.raw (.int .u8 0), .raw (.int .u8 0), .raw (.int .u8 0), .raw (.int .i8 0)]) := by kernel_rfl
@[go_sem] theorem tyS56 : tySize Try.prog 56 = some 1 := by kernel_rfl
@[go_sem] theorem tyB56 : tyBytes Try.prog 56 = some 8 := by kernel_rfl
@[go_sem] theorem tyG56 : tyAgg Try.prog 56 = some false := by kernel_rfl
@[go_sem] theorem tyZ56 : tyZero Try.prog 56 = some (.raw (.nilFunc)) := by kernel_rfl
@[go_sem] theorem tyE56 : tyElem Try.prog 56 = none := by kernel_rfl
@[go_sem] theorem tyS57 : tySize Try.prog 57 = some 1 := by kernel_rfl
@[go_sem] theorem tyB57 : tyBytes Try.prog 57 = some 8 := by kernel_rfl
@[go_sem] theorem tyG57 : tyAgg Try.prog 57 = some false := by kernel_rfl
@[go_sem] theorem tyZ57 : tyZero Try.prog 57 = some (.raw (.nilFunc)) := by kernel_rfl
@[go_sem] theorem tyE57 : tyElem Try.prog 57 = none := by kernel_rfl
@[go_sem] theorem tyS58 : tySize Try.prog 58 = some 1 := by kernel_rfl
@[go_sem] theorem tyB58 : tyBytes Try.prog 58 = some 8 := by kernel_rfl
@[go_sem] theorem tyG58 : tyAgg Try.prog 58 = some false := by kernel_rfl
@[go_sem] theorem tyZ58 : tyZero Try.prog 58 = some (.raw (.nilFunc)) := by kernel_rfl
@[go_sem] theorem tyE58 : tyElem Try.prog 58 = none := by kernel_rfl
@[go_sem] theorem tyS59 : tySize Try.prog 59 = some 1 := by kernel_rfl
@[go_sem] theorem tyB59 : tyBytes Try.prog 59 = some 8 := by kernel_rfl
@[go_sem] theorem tyG59 : tyAgg Try.prog 59 = some false := by kernel_rfl
@[go_sem] theorem tyZ59 : tyZero Try.prog 59 = some (.raw (.nilFunc)) := by kernel_rfl
@[go_sem] theorem tyE59 : tyElem Try.prog 59 = none := by kernel_rfl
@[go_sem] theorem tyS60 : tySize Try.prog 60 = some 1 := by kernel_rfl
@[go_sem] theorem tyB60 : tyBytes Try.prog 60 = some 8 := by kernel_rfl
@[go_sem] theorem tyG60 : tyAgg Try.prog 60 = some false := by kernel_rfl
@[go_sem] theorem tyZ60 : tyZero Try.prog 60 = some (.raw (.nilFunc)) := by kernel_rfl
@[go_sem] theorem tyE60 : tyElem Try.prog 60 = none := by kernel_rfl
@[go_sem] theorem tyS61 : tySize Try.prog 61 = some 1 := by kernel_rfl
@[go_sem] theorem tyB61 : tyBytes Try.prog 61 = some 8 := by kernel_rfl
@[go_sem] theorem tyG61 : tyAgg Try.prog 61 = some false := by kernel_rfl
@[go_sem] theorem tyZ61 : tyZero Try.prog 61 = some (.raw (.int .i64 0)) := by kernel_rfl
@[go_sem] theorem tyE61 : tyElem Try.prog 61 = none := by kernel_rfl
@[go_sem] theorem tyU61 : Try.prog.underlying 61 = some (.int .i64) := by kernel_rfl
@[go_sem] theorem tyS63 : tySize Try.prog 63 = some 1 := by kernel_rfl
@[go_sem] theorem tyB63 : tyBytes Try.prog 63 = some 8 := by kernel_rfl
@[go_sem] theorem tyG63 : tyAgg Try.prog 63 = some false := by kernel_rfl
@[go_sem] theorem tyZ63 : tyZero Try.prog 63 = some (.raw (.nilFunc)) := by kernel_rfl
@[go_sem] theorem tyE63 : tyElem Try.prog 63 = none := by kernel_rfl
@[go_sem] theorem tyS64 : tySize Try.prog 64 = some 1 := by kernel_rfl
@[go_sem] theorem tyB64 : tyBytes Try.prog 64 = some 8 := by kernel_rfl
@[go_sem] theorem tyG64 : tyAgg Try.prog 64 = some false := by kernel_rfl
@[go_sem] theorem tyZ64 : tyZero Try.prog 64 = some (.raw (.nilFunc)) := by kernel_rfl
@[go_sem] theorem tyE64 : tyElem Try.prog 64 = none := by kernel_rfl
@[go_sem] theorem tyS65 : tySize Try.prog 65 = some 1 := by kernel_rfl
@[go_sem] theorem tyB65 : tyBytes Try.prog 65 = some 8 := by kernel_rfl
@[go_sem] theorem tyG65 : tyAgg Try.prog 65 = some false := by kernel_rfl
@[go_sem] theorem tyZ65 : tyZero Try.prog 65 = some (.raw (.nilFunc)) := by kernel_rfl
@[go_sem] theorem tyE65 : tyElem Try.prog 65 = none := by kernel_rfl
@[go_sem] theorem tyS66 : tySize Try.prog 66 = some 1 := by kernel_rfl
@[go_sem] theorem tyB66 : tyBytes Try.prog 66 = some 8 := by kernel_rfl
@[go_sem] theorem tyG66 : tyAgg Try.prog 66 = some false := by kernel_rfl
@[go_sem] theorem tyZ66 : tyZero Try.prog 66 = some (.raw (.nilFunc)) := by kernel_rfl
@[go_sem] theorem tyE66 : tyElem Try.prog 66 = none := by kernel_rfl
@[go_sem] theorem tyS67 : tySize Try.prog 67 = some 1 := by kernel_rfl
@[go_sem] theorem tyB67 : tyBytes Try.prog 67 = some 8 := by kernel_rfl
@[go_sem] theorem tyG67 : tyAgg Try.prog 67 = some false := by kernel_rfl
@[go_sem] theorem tyZ67 : tyZero Try.prog 67 = some (.raw (.nilFunc)) := by kernel_rfl
@[go_sem] theorem tyE67 : tyElem Try.prog 67 = none := by kernel_rfl
@[go_sem] theorem tyS68 : tySize Try.prog 68 = some 1 := by kernel_rfl
@[go_sem] theorem tyB68 : tyBytes Try.prog 68 = some 8 := by kernel_rfl
@[go_sem] theorem tyG68 : tyAgg Try.prog 68 = some false := by kernel_rfl
@[go_sem] theorem tyZ68 : tyZero Try.prog 68 = some (.raw (.nilFunc)) := by kernel_rfl
@[go_sem] theorem tyE68 : tyElem Try.prog 68 = none := by kernel_rfl
@[go_sem] theorem tyS69 : tySize Try.prog 69 = some 1 := by kernel_rfl
@[go_sem] theorem tyB69 : tyBytes Try.prog 69 = some 2 := by kernel_rfl
@[go_sem] theorem tyG69 : tyAgg Try.prog 69 = some false := by kernel_rfl
@[go_sem] theorem tyZ69 : tyZero Try.prog 69 = some (.raw (.int .i16 0)) := by kernel_rfl
@[go_sem] theorem tyE69 : tyElem Try.prog 69 = none := by kernel_rfl
@[go_sem] theorem tyU69 : Try.prog.underlying 69 = some (.int .i16) := by kernel_rfl
@[go_sem] theorem tyS70 : tySize Try.prog 70 = some 1 := by kernel_rfl
@[go_sem] theorem tyB70 : tyBytes Try.prog 70 = some 8 := by kernel_rfl
@[go_sem] theorem tyG70 : tyAgg Try.prog 70 = some false := by kernel_rfl
@[go_sem] theorem tyZ70 : tyZero Try.prog 70 = some (.raw (.nilFunc)) := by kernel_rfl
@[go_sem] theorem tyE70 : tyElem Try.prog 70 = none := by kernel_rfl
@[go_sem] theorem tyS71 : tySize Try.prog 71 = some 1 := by kernel_rfl
@[go_sem] theorem tyB71 : tyBytes Try.prog 71 = some 8 := by kernel_rfl
@[go_sem] theorem tyG71 : tyAgg Try.prog 71 = some false := by kernel_rfl
@[go_sem] theorem tyZ71 : tyZero Try.prog 71 = some (.raw (.int .u64 0)) := by kernel_rfl
@[go_sem] theorem tyE71 : tyElem Try.prog 71 = none := by kernel_rfl
@[go_sem] theorem tyU71 : Try.prog.underlying 71 = some (.int .u64) := by kernel_rfl
@[go_sem] theorem tyS72 : tySize Try.prog 72 = some 1 := by kernel_rfl
@[go_sem] theorem tyB72 : tyBytes Try.prog 72 = some 8 := by kernel_rfl
@[go_sem] theorem tyG72 : tyAgg Try.prog 72 = some false := by kernel_rfl
@[go_sem] theorem tyZ72 : tyZero Try.prog 72 = some (.raw (.pointer none)) := by kernel_rfl
@[go_sem] theorem tyE72 : tyElem Try.prog 72 = none := by kernel_rfl
@[go_sem] theorem tyS73 : tySize Try.prog 73 = some 1 := by kernel_rfl
@[go_sem] theorem tyB73 : tyBytes Try.prog 73 = some 8 := by kernel_rfl
@[go_sem] theorem tyG73 : tyAgg Try.prog 73 = some false := by kernel_rfl
@[go_sem] theorem tyZ73 : tyZero Try.prog 73 = some (.raw (.nilFunc)) := by kernel_rfl
@[go_sem] theorem tyE73 : tyElem Try.prog 73 = none := by kernel_rfl
@[go_sem] theorem tyS74 : tySize Try.prog 74 = some 6 := by kernel_rfl
@[go_sem] theorem tyB74 : tyBytes Try.prog 74 = some 112 := by kernel_rfl
@[go_sem] theorem tyG74 : tyAgg Try.prog 74 = some true := by kernel_rfl
@[go_sem] theorem tyZ74 : tyZero Try.prog 74 = some (.agg [.raw (.slice none 0 0), .raw (.slice none 0 0), .raw (.bool false), .raw (.slice none 0 0), .raw (.bool false), .raw (.slice none 0 0)]) := by kernel_rfl
@[go_sem] theorem tyE74 : tyElem Try.prog 74 = none := by kernel_rfl
@[go_sem] theorem tyF74_0 : tyField Try.prog 74 0 = some (0, 1, false) := by kernel_rfl
@[go_sem] theorem tyP74_0 : tyPlace Try.prog 74 0 = some (0, 1) := by kernel_rfl
@[go_sem] theorem tyF74_1 : tyField Try.prog 74 1 = some (1, 1, false) := by kernel_rfl
@[go_sem] theorem tyP74_1 : tyPlace Try.prog 74 1 = some (1, 1) := by kernel_rfl
@[go_sem] theorem tyF74_2 : tyField Try.prog 74 2 = some (2, 4, true) := by kernel_rfl
@[go_sem] theorem tyP74_2 : tyPlace Try.prog 74 2 = some (2, 4) := by kernel_rfl
@[go_sem] theorem tyK74 : tyKids Try.prog 74 = some (.agg [.raw (.slice none 0 0), .raw (.slice none 0 0), .agg [.raw (.bool false), .raw (.slice none 0 0), .raw (.bool false), .raw (.slice none 0 0)]]) := by kernel_rfl
@[go_sem] theorem tyS75 : tySize Try.prog 75 = some 6 := by kernel_rfl
@[go_sem] theorem tyB75 : tyBytes Try.prog 75 = some 112 := by kernel_rfl
@[go_sem] theorem tyG75 : tyAgg Try.prog 75 = some true := by kernel_rfl
@[go_sem] theorem tyZ75 : tyZero Try.prog 75 = some (.agg [.raw (.slice none 0 0), .raw (.slice none 0 0), .raw (.bool false), .raw (.slice none 0 0), .raw (.bool false), .raw (.slice none 0 0)]) := by kernel_rfl
@[go_sem] theorem tyE75 : tyElem Try.prog 75 = none := by kernel_rfl
@[go_sem] theorem tyF75_0 : tyField Try.prog 75 0 = some (0, 1, false) := by kernel_rfl
@[go_sem] theorem tyP75_0 : tyPlace Try.prog 75 0 = some (0, 1) := by kernel_rfl
@[go_sem] theorem tyF75_1 : tyField Try.prog 75 1 = some (1, 1, false) := by kernel_rfl
@[go_sem] theorem tyP75_1 : tyPlace Try.prog 75 1 = some (1, 1) := by kernel_rfl
@[go_sem] theorem tyF75_2 : tyField Try.prog 75 2 = some (2, 4, true) := by kernel_rfl
@[go_sem] theorem tyP75_2 : tyPlace Try.prog 75 2 = some (2, 4) := by kernel_rfl
@[go_sem] theorem tyK75 : tyKids Try.prog 75 = some (.agg [.raw (.slice none 0 0), .raw (.slice none 0 0), .agg [.raw (.bool false), .raw (.slice none 0 0), .raw (.bool false), .raw (.slice none 0 0)]]) := by kernel_rfl
@[go_sem] theorem tyS76 : tySize Try.prog 76 = some 1 := by kernel_rfl
@[go_sem] theorem tyB76 : tyBytes Try.prog 76 = some 8 := by kernel_rfl
@[go_sem] theorem tyG76 : tyAgg Try.prog 76 = some false := by kernel_rfl
@[go_sem] theorem tyZ76 : tyZero Try.prog 76 = some (.raw (.nilFunc)) := by kernel_rfl
@[go_sem] theorem tyE76 : tyElem Try.prog 76 = none := by kernel_rfl
@[go_sem] theorem tyS77 : tySize Try.prog 77 = some 1 := by kernel_rfl
@[go_sem] theorem tyB77 : tyBytes Try.prog 77 = some 8 := by kernel_rfl
@[go_sem] theorem tyG77 : tyAgg Try.prog 77 = some false := by kernel_rfl
@[go_sem] theorem tyZ77 : tyZero Try.prog 77 = some (.raw (.nilFunc)) := by kernel_rfl
@[go_sem] theorem tyE77 : tyElem Try.prog 77 = none := by kernel_rfl
@[go_sem] theorem tyS78 : tySize Try.prog 78 = some 1 := by kernel_rfl
@[go_sem] theorem tyB78 : tyBytes Try.prog 78 = some 8 := by kernel_rfl
@[go_sem] theorem tyG78 : tyAgg Try.prog 78 = some false := by kernel_rfl
@[go_sem] theorem tyZ78 : tyZero Try.prog 78 = some (.raw (.nilFunc)) := by kernel_rfl
@[go_sem] theorem tyE78 : tyElem Try.prog 78 = none := by kernel_rfl
@[go_sem] theorem tyS79 : tySize Try.prog 79 = some 1 := by kernel_rfl
@[go_sem] theorem tyB79 : tyBytes Try.prog 79 = some 8 := by kernel_rfl
@[go_sem] theorem tyG79 : tyAgg Try.prog 79 = some false := by kernel_rfl
@[go_sem] theorem tyZ79 : tyZero Try.prog 79 = some (.raw (.nilFunc)) := by kernel_rfl
@[go_sem] theorem tyE79 : tyElem Try.prog 79 = none := by kernel_rfl
@[go_sem] theorem tyS80 : tySize Try.prog 80 = some 1 := by kernel_rfl
@[go_sem] theorem tyB80 : tyBytes Try.prog 80 = some 8 := by kernel_rfl
@[go_sem] theorem tyG80 : tyAgg Try.prog 80 = some false := by kernel_rfl
@[go_sem] theorem tyZ80 : tyZero Try.prog 80 = some (.raw (.nilFunc)) := by kernel_rfl
@[go_sem] theorem tyE80 : tyElem Try.prog 80 = none := by kernel_rfl
@[go_sem] theorem tyS81 : tySize Try.prog 81 = some 1 := by kernel_rfl
@[go_sem] theorem tyB81 : tyBytes Try.prog 81 = some 8 := by kernel_rfl
@[go_sem] theorem tyG81 : tyAgg Try.prog 81 = some false := by kernel_rfl
@[go_sem] theorem tyZ81 : tyZero Try.prog 81 = some (.raw (.nilFunc)) := by kernel_rfl
@[go_sem] theorem tyE81 : tyElem Try.prog 81 = none := by kernel_rfl
@[go_sem] theorem tyS82 : tySize Try.prog 82 = some 1 := by kernel_rfl
@[go_sem] theorem tyB82 : tyBytes Try.prog 82 = some 8 := by kernel_rfl
@[go_sem] theorem tyG82 : tyAgg Try.prog 82 = some false := by kernel_rfl
@[go_sem] theorem tyZ82 : tyZero Try.prog 82 = some (.raw (.nilFunc)) := by kernel_rfl
@[go_sem] theorem tyE82 : tyElem Try.prog 82 = none := by kernel_rfl
@[go_sem] theorem tyS83 : tySize Try.prog 83 = some 1 := by kernel_rfl
@[go_sem] theorem tyB83 : tyBytes Try.prog 83 = some 8 := by kernel_rfl
@[go_sem] theorem tyG83 : tyAgg Try.prog 83 = some false := by kernel_rfl
@[go_sem] theorem tyZ83 : tyZero Try.prog 83 = some (.raw (.nilFunc)) := by kernel_rfl
@[go_sem] theorem tyE83 : tyElem Try.prog 83 = none := by kernel_rfl
@[go_sem] theorem tyS84 : tySize Try.prog 84 = some 1 := by kernel_rfl
@[go_sem] theorem tyB84 : tyBytes Try.prog 84 = some 8 := by kernel_rfl
@[go_sem] theorem tyG84 : tyAgg Try.prog 84 = some false := by kernel_rfl
@[go_sem] theorem tyZ84 : tyZero Try.prog 84 = some (.raw (.nilFunc)) := by kernel_rfl
@[go_sem] theorem tyE84 : tyElem Try.prog 84 = none := by kernel_rfl
@[go_sem] theorem tyS85 : tySize Try.prog 85 = some 1 := by kernel_rfl
@[go_sem] theorem tyB85 : tyBytes Try.prog 85 = some 8 := by kernel_rfl
@[go_sem] theorem tyG85 : tyAgg Try.prog 85 = some false := by kernel_rfl
@[go_sem] theorem tyZ85 : tyZero Try.prog 85 = some (.raw (.nilFunc)) := by kernel_rfl
@[go_sem] theorem tyE85 : tyElem Try.prog 85 = none := by kernel_rfl
@[go_sem] theorem tyS86 : tySize Try.prog 86 = some 1 := by kernel_rfl
@[go_sem] theorem tyB86 : tyBytes Try.prog 86 = some 8 := by kernel_rfl
@[go_sem] theorem tyG86 : tyAgg Try.prog 86 = some false := by kernel_rfl
@[go_sem] theorem tyZ86 : tyZero Try.prog 86 = some (.raw (.nilFunc)) := by kernel_rfl
@[go_sem] theorem tyE86 : tyElem Try.prog 86 = none := by kernel_rfl
@[go_sem] theorem tyS87 : tySize Try.prog 87 = some 1 := by kernel_rfl
@[go_sem] theorem tyB87 : tyBytes Try.prog 87 = some 8 := by kernel_rfl
@[go_sem] theorem tyG87 : tyAgg Try.prog 87 = some false := by kernel_rfl
@[go_sem] theorem tyZ87 : tyZero Try.prog 87 = some (.raw (.nilFunc)) := by kernel_rfl
@[go_sem] theorem tyE87 : tyElem Try.prog 87 = none := by kernel_rfl
@[go_sem] theorem tyS88 : tySize Try.prog 88 = some 1 := by kernel_rfl
@[go_sem] theorem tyB88 : tyBytes Try.prog 88 = some 24 := by kernel_rfl
@[go_sem] theorem tyG88 : tyAgg Try.prog 88 = some false := by kernel_rfl
@[go_sem] theorem tyZ88 : tyZero Try.prog 88 = some (.raw (.slice none 0 0)) := by kernel_rfl
@[go_sem] theorem tyE88 : tyElem Try.prog 88 = some (2, 1) := by kernel_rfl
@[go_sem] theorem tyU88 : Try.prog.underlying 88 = some (.slice 2) := by kernel_rfl
@[go_sem] theorem tyS89 : tySize Try.prog 89 = some 1 := by kernel_rfl
@[go_sem] theorem tyB89 : tyBytes Try.prog 89 = some 8 := by kernel_rfl
@[go_sem] theorem tyG89 : tyAgg Try.prog 89 = some false := by kernel_rfl
@[go_sem] theorem tyZ89 : tyZero Try.prog 89 = some (.raw (.nilFunc)) := by kernel_rfl
@[go_sem] theorem tyE89 : tyElem Try.prog 89 = none := by kernel_rfl
@[go_sem] theorem tyS90 : tySize Try.prog 90 = some 1 := by kernel_rfl
@[go_sem] theorem tyB90 : tyBytes Try.prog 90 = some 8 := by kernel_rfl
@[go_sem] theorem tyG90 : tyAgg Try.prog 90 = some false := by kernel_rfl
@[go_sem] theorem tyZ90 : tyZero Try.prog 90 = some (.raw (.nilFunc)) := by kernel_rfl
@[go_sem] theorem tyE90 : tyElem Try.prog 90 = none := by kernel_rfl
@[go_sem] theorem tyS91 : tySize Try.prog 91 = some 1 := by kernel_rfl
@[go_sem] theorem tyB91 : tyBytes Try.prog 91 = some 8 := by kernel_rfl
@[go_sem] theorem tyG91 : tyAgg Try.prog 91 = some false := by kernel_rfl
@[go_sem] theorem tyZ91 : tyZero Try.prog 91 = some (.raw (.nilFunc)) := by kernel_rfl
@[go_sem] theorem tyE91 : tyElem Try.prog 91 = none := by kernel_rfl
@[go_sem] theorem tyS92 : tySize Try.prog 92 = some 1 := by kernel_rfl
@[go_sem] theorem tyB92 : tyBytes Try.prog 92 = some 8 := by kernel_rfl
@[go_sem] theorem tyG92 : tyAgg Try.prog 92 = some false := by kernel_rfl
@[go_sem] theorem tyZ92 : tyZero Try.prog 92 = some (.raw (.nilFunc)) := by kernel_rfl
@[go_sem] theorem tyE92 : tyElem Try.prog 92 = none := by kernel_rfl
@[go_sem] theorem tyS93 : tySize Try.prog 93 = some 1 := by kernel_rfl
@[go_sem] theorem tyB93 : tyBytes Try.prog 93 = some 8 := by kernel_rfl
@[go_sem] theorem tyG93 : tyAgg Try.prog 93 = some false := by kernel_rfl
@[go_sem] theorem tyZ93 : tyZero Try.prog 93 = some (.raw (.int .u64 0)) := by kernel_rfl
@[go_sem] theorem tyE93 : tyElem Try.prog 93 = none := by kernel_rfl
@[go_sem] theorem tyU93 : Try.prog.underlying 93 = some (.int .u64) := by kernel_rfl
@[go_sem] theorem tyS94 : tySize Try.prog 94 = some 1 := by kernel_rfl
@[go_sem] theorem tyB94 : tyBytes Try.prog 94 = some 8 := by kernel_rfl
@[go_sem] theorem tyG94 : tyAgg Try.prog 94 = some false := by kernel_rfl
@[go_sem] theorem tyZ94 : tyZero Try.prog 94 = some (.raw (.nilFunc)) := by kernel_rfl
@[go_sem] theorem tyE94 : tyElem Try.prog 94 = none := by kernel_rfl
@[go_sem] theorem tyS95 : tySize Try.prog 95 = some 1 := by kernel_rfl
@[go_sem] theorem tyB95 : tyBytes Try.prog 95 = some 4 := by kernel_rfl
@[go_sem] theorem tyG95 : tyAgg Try.prog 95 = some false := by kernel_rfl
@[go_sem] theorem tyZ95 : tyZero Try.prog 95 = some (.raw (.int .u32 0)) := by kernel_rfl
@[go_sem] theorem tyE95 : tyElem Try.prog 95 = none := by kernel_rfl
@[go_sem] theorem tyU95 : Try.prog.underlying 95 = some (.int .u32) := by kernel_rfl
@[go_sem] theorem tyS96 : tySize Try.prog 96 = some 1 := by kernel_rfl
@[go_sem] theorem tyB96 : tyBytes Try.prog 96 = some 8 := by kernel_rfl
@[go_sem] theorem tyG96 : tyAgg Try.prog 96 = some false := by kernel_rfl
@[go_sem] theorem tyZ96 : tyZero Try.prog 96 = some (.raw (.nilFunc)) := by kernel_rfl
@[go_sem] theorem tyE96 : tyElem Try.prog 96 = none := by kernel_rfl
@[go_sem] theorem tyS97 : tySize Try.prog 97 = some 1 := by kernel_rfl
@[go_sem] theorem tyB97 : tyBytes Try.prog 97 = some 8 := by kernel_rfl
@[go_sem] theorem tyG97 : tyAgg Try.prog 97 = some false := by kernel_rfl
@[go_sem] theorem tyZ97 : tyZero Try.prog 97 = some (.raw (.nilFunc)) := by kernel_rfl
@[go_sem] theorem tyE97 : tyElem Try.prog 97 = none := by kernel_rfl
@[go_sem] theorem tyS98 : tySize Try.prog 98 = some 1 := by kernel_rfl
@[go_sem] theorem tyB98 : tyBytes Try.prog 98 = some 8 := by kernel_rfl
@[go_sem] theorem tyG98 : tyAgg Try.prog 98 = some false := by kernel_rfl
@[go_sem] theorem tyZ98 : tyZero Try.prog 98 = some (.raw (.nilFunc)) := by kernel_rfl
@[go_sem] theorem tyE98 : tyElem Try.prog 98 = none := by kernel_rfl
@[go_sem] theorem tyS99 : tySize Try.prog 99 = some 1 := by kernel_rfl
@[go_sem] theorem tyB99 : tyBytes Try.prog 99 = some 8 := by kernel_rfl
@[go_sem] theorem tyG99 : tyAgg Try.prog 99 = some false := by kernel_rfl
@[go_sem] theorem tyZ99 : tyZero Try.prog 99 = some (.raw (.nilFunc)) := by kernel_rfl
@[go_sem] theorem tyE99 : tyElem Try.prog 99 = none := by kernel_rfl
@[go_sem] theorem tyS101 : tySize Try.prog 101 = some 1 := by kernel_rfl
@[go_sem] theorem tyB101 : tyBytes Try.prog 101 = some 8 := by kernel_rfl
@[go_sem] theorem tyG101 : tyAgg Try.prog 101 = some false := by kernel_rfl
@[go_sem] theorem tyZ101 : tyZero Try.prog 101 = some (.raw (.nilFunc)) := by kernel_rfl
@[go_sem] theorem tyE101 : tyElem Try.prog 101 = none := by kernel_rfl
@[go_sem] theorem tyS102 : tySize Try.prog 102 = some 1 := by kernel_rfl
@[go_sem] theorem tyB102 : tyBytes Try.prog 102 = some 24 := by kernel_rfl
@[go_sem] theorem tyG102 : tyAgg Try.prog 102 = some false := by kernel_rfl
@[go_sem] theorem tyZ102 : tyZero Try.prog 102 = some (.raw (.slice none 0 0)) := by kernel_rfl
@[go_sem] theorem tyE102 : tyElem Try.prog 102 = some (39, 2) := by kernel_rfl
@[go_sem] theorem tyU102 : Try.prog.underlying 102 = some (.slice 39) := by kernel_rfl
@[go_sem] theorem tyS103 : tySize Try.prog 103 = some 1 := by kernel_rfl
@[go_sem] theorem tyB103 : tyBytes Try.prog 103 = some 8 := by kernel_rfl
@[go_sem] theorem tyG103 : tyAgg Try.prog 103 = some false := by kernel_rfl
@[go_sem] theorem tyZ103 : tyZero Try.prog 103 = some (.raw (.nilFunc)) := by kernel_rfl
@[go_sem] theorem tyE103 : tyElem Try.prog 103 = none := by kernel_rfl
@[go_sem] theorem tyS105 : tySize Try.prog 105 = some 1 := by kernel_rfl
@[go_sem] theorem tyB105 : tyBytes Try.prog 105 = some 8 := by kernel_rfl
@[go_sem] theorem tyG105 : tyAgg Try.prog 105 = some false := by kernel_rfl
@[go_sem] theorem tyZ105 : tyZero Try.prog 105 = some (.raw (.nilFunc)) := by kernel_rfl
@[go_sem] theorem tyE105 : tyElem Try.prog 105 = none := by kernel_rfl
@[go_sem] theorem tyS107 : tySize Try.prog 107 = some 1 := by kernel_rfl
@[go_sem] theorem tyB107 : tyBytes Try.prog 107 = some 8 := by kernel_rfl
@[go_sem] theorem tyG107 : tyAgg Try.prog 107 = some false := by kernel_rfl
@[go_sem] theorem tyZ107 : tyZero Try.prog 107 = some (.raw (.nilFunc)) := by kernel_rfl
@[go_sem] theorem tyE107 : tyElem Try.prog 107 = none := by kernel_rfl
@[go_sem] theorem tyS109 : tySize Try.prog 109 = some 1 := by kernel_rfl
@[go_sem] theorem tyB109 : tyBytes Try.prog 109 = some 8 := by kernel_rfl
@[go_sem] theorem tyG109 : tyAgg Try.prog 109 = some false := by kernel_rfl
@[go_sem] theorem tyZ109 : tyZero Try.prog 109 = some (.raw (.nilFunc)) := by kernel_rfl
@[go_sem] theorem tyE109 : tyElem Try.prog 109 = none := by kernel_rfl
@[go_sem] theorem tyS110 : tySize Try.prog 110 = some 1 := by kernel_rfl
@[go_sem] theorem tyB110 : tyBytes Try.prog 110 = some 8 := by kernel_rfl
@[go_sem] theorem tyG110 : tyAgg Try.prog 110 = some false := by kernel_rfl
@[go_sem] theorem tyZ110 : tyZero Try.prog 110 = some (.raw (.nilFunc)) := by kernel_rfl
@[go_sem] theorem tyE110 : tyElem Try.prog 110 = none := by kernel_rfl
@[go_sem] theorem tyS112 : tySize Try.prog 112 = some 1 := by kernel_rfl
@[go_sem] theorem tyB112 : tyBytes Try.prog 112 = some 8 := by kernel_rfl
@[go_sem] theorem tyG112 : tyAgg Try.prog 112 = some false := by kernel_rfl
@[go_sem] theorem tyZ112 : tyZero Try.prog 112 = some (.raw (.nilFunc)) := by kernel_rfl
@[go_sem] theorem tyE112 : tyElem Try.prog 112 = none := by kernel_rfl
@[go_sem] theorem tyS114 : tySize Try.prog 114 = some 1 := by kernel_rfl
@[go_sem] theorem tyB114 : tyBytes Try.prog 114 = some 8 := by kernel_rfl
@[go_sem] theorem tyG114 : tyAgg Try.prog 114 = some false := by kernel_rfl
@[go_sem] theorem tyZ114 : tyZero Try.prog 114 = some (.raw (.nilFunc)) := by kernel_rfl
@[go_sem] theorem tyE114 : tyElem Try.prog 114 = none := by kernel_rfl
@[go_sem] theorem tyS115 : tySize Try.prog 115 = some 1 := by kernel_rfl
@[go_sem] theorem tyB115 : tyBytes Try.prog 115 = some 8 := by kernel_rfl
@[go_sem] theorem tyG115 : tyAgg Try.prog 115 = some false := by kernel_rfl
@[go_sem] theorem tyZ115 : tyZero Try.prog 115 = some (.raw (.nilFunc)) := by kernel_rfl
@[go_sem] theorem tyE115 : tyElem Try.prog 115 = none := by kernel_rfl
@[go_sem] theorem tyS117 : tySize Try.prog 117 = some 1 := by kernel_rfl
@[go_sem] theorem tyB117 : tyBytes Try.prog 117 = some 8 := by kernel_rfl
@[go_sem] theorem tyG117 : tyAgg Try.prog 117 = some false := by kernel_rfl
@[go_sem] theorem tyZ117 : tyZero Try.prog 117 = some (.raw (.nilFunc)) := by kernel_rfl
@[go_sem] theorem tyE117 : tyElem Try.prog 117 = none := by kernel_rfl
@[go_sem] theorem tyS118 : tySize Try.prog 118 = some 1 := by kernel_rfl
@[go_sem] theorem tyB118 : tyBytes Try.prog 118 = some 8 := by kernel_rfl
@[go_sem] theorem tyG118 : tyAgg Try.prog 118 = some false := by kernel_rfl
@[go_sem] theorem tyZ118 : tyZero Try.prog 118 = some (.raw (.nilFunc)) := by kernel_rfl
@[go_sem] theorem tyE118 : tyElem Try.prog 118 = none := by kernel_rfl
@[go_sem] theorem tyS119 : tySize Try.prog 119 = some 1 := by kernel_rfl
@[go_sem] theorem tyB119 : tyBytes Try.prog 119 = some 8 := by kernel_rfl
@[go_sem] theorem tyG119 : tyAgg Try.prog 119 = some false := by kernel_rfl
@[go_sem] theorem tyZ119 : tyZero Try.prog 119 = some (.raw (.nilFunc)) := by kernel_rfl
@[go_sem] theorem tyE119 : tyElem Try.prog 119 = none := by kernel_rfl
@[go_sem] theorem tyS120 : tySize Try.prog 120 = some 1 := by kernel_rfl
@[go_sem] theorem tyB120 : tyBytes Try.prog 120 = some 8 := by kernel_rfl
@[go_sem] theorem tyG120 : tyAgg Try.prog 120 = some false := by kernel_rfl
@[go_sem] theorem tyZ120 : tyZero Try.prog 120 = some (.raw (.nilFunc)) := by kernel_rfl
@[go_sem] theorem tyE120 : tyElem Try.prog 120 = none := by kernel_rfl
@[go_sem] theorem tyS121 : tySize Try.prog 121 = some 1 := by kernel_rfl
@[go_sem] theorem tyB121 : tyBytes Try.prog 121 = some 8 := by kernel_rfl
@[go_sem] theorem tyG121 : tyAgg Try.prog 121 = some false := by kernel_rfl
@[go_sem] theorem tyZ121 : tyZero Try.prog 121 = some (.raw (.nilFunc)) := by kernel_rfl
@[go_sem] theorem tyE121 : tyElem Try.prog 121 = none := by kernel_rfl
@[go_sem] theorem tyS122 : tySize Try.prog 122 = some 1 := by kernel_rfl
@[go_sem] theorem tyB122 : tyBytes Try.prog 122 = some 8 := by kernel_rfl
@[go_sem] theorem tyG122 : tyAgg Try.prog 122 = some false := by kernel_rfl
@[go_sem] theorem tyZ122 : tyZero Try.prog 122 = some (.raw (.nilFunc)) := by kernel_rfl
@[go_sem] theorem tyE122 : tyElem Try.prog 122 = none := by kernel_rfl
@[go_sem] theorem tyS123 : tySize Try.prog 123 = some 1 := by kernel_rfl
@[go_sem] theorem tyB123 : tyBytes Try.prog 123 = some 8 := by kernel_rfl
@[go_sem] theorem tyG123 : tyAgg Try.prog 123 = some false := by kernel_rfl
@[go_sem] theorem tyZ123 : tyZero Try.prog 123 = some (.raw (.nilFunc)) := by kernel_rfl
@[go_sem] theorem tyE123 : tyElem Try.prog 123 = none := by kernel_rfl
@[go_sem] theorem tyS124 : tySize Try.prog 124 = some 1 := by kernel_rfl
@[go_sem] theorem tyB124 : tyBytes Try.prog 124 = some 8 := by kernel_rfl
@[go_sem] theorem tyG124 : tyAgg Try.prog 124 = some false := by kernel_rfl
@[go_sem] theorem tyZ124 : tyZero Try.prog 124 = some (.raw (.nilFunc)) := by kernel_rfl
@[go_sem] theorem tyE124 : tyElem Try.prog 124 = none := by kernel_rfl
@[go_sem] theorem tyS125 : tySize Try.prog 125 = some 1 := by kernel_rfl
@[go_sem] theorem tyB125 : tyBytes Try.prog 125 = some 8 := by kernel_rfl
@[go_sem] theorem tyG125 : tyAgg Try.prog 125 = some false := by kernel_rfl
@[go_sem] theorem tyZ125 : tyZero Try.prog 125 = some (.raw (.nilFunc)) := by kernel_rfl
@[go_sem] theorem tyE125 : tyElem Try.prog 125 = none := by kernel_rfl
@[go_sem] theorem tyS126 : tySize Try.prog 126 = some 1 := by kernel_rfl
@[go_sem] theorem tyB126 : tyBytes Try.prog 126 = some 8 := by kernel_rfl
@[go_sem] theorem tyG126 : tyAgg Try.prog 126 = some false := by kernel_rfl
@[go_sem] theorem tyZ126 : tyZero Try.prog 126 = some (.raw (.nilFunc)) := by kernel_rfl
@[go_sem] theorem tyE126 : tyElem Try.prog 126 = none := by kernel_rfl
@[go_sem] theorem tyS127 : tySize Try.prog 127 = some 1 := by kernel_rfl
@[go_sem] theorem tyB127 : tyBytes Try.prog 127 = some 8 := by kernel_rfl
@[go_sem] theorem tyG127 : tyAgg Try.prog 127 = some false := by kernel_rfl
@[go_sem] theorem tyZ127 : tyZero Try.prog 127 = some (.raw (.nilFunc)) := by kernel_rfl
@[go_sem] theorem tyE127 : tyElem Try.prog 127 = none := by kernel_rfl
@[go_sem] theorem tyS128 : tySize Try.prog 128 = some 4 := by kernel_rfl
@[go_sem] theorem tyB128 : tyBytes Try.prog 128 = some 40 := by kernel_rfl
@[go_sem] theorem tyG128 : tyAgg Try.prog 128 = some true := by kernel_rfl
@[go_sem] theorem tyZ128 : tyZero Try.prog 128 = some (.agg [.raw (.pointer none), .raw (.pointer none), .raw (.pointer none), .raw (.string ⟨#[]⟩)]) := by kernel_rfl
@[go_sem] theorem tyE128 : tyElem Try.prog 128 = none := by kernel_rfl
@[go_sem] theorem tyF128_0 : tyField Try.prog 128 0 = some (0, 1, false) := by kernel_rfl
@[go_sem] theorem tyP128_0 : tyPlace Try.prog 128 0 = some (0, 1) := by kernel_rfl
@[go_sem] theorem tyF128_1 : tyField Try.prog 128 1 = some (1, 1, false) := by kernel_rfl
@[go_sem] theorem tyP128_1 : tyPlace Try.prog 128 1 = some (1, 1) := by kernel_rfl
@[go_sem] theorem tyF128_2 : tyField Try.prog 128 2 = some (2, 1, false) := by kernel_rfl
@[go_sem] theorem tyP128_2 : tyPlace Try.prog 128 2 = some (2, 1) := by kernel_rfl
@[go_sem] theorem tyF128_3 : tyField Try.prog 128 3 = some (3, 1, false) := by kernel_rfl
@[go_sem] theorem tyP128_3 : tyPlace Try.prog 128 3 = some (3, 1) := by kernel_rfl
@[go_sem] theorem tyK128 : tyKids Try.prog 128 = some (.agg [.raw (.pointer none), .raw (.pointer none), .raw (.pointer none), .raw (.string ⟨#[]⟩)]) := by kernel_rfl
@[go_sem] theorem tyS129 : tySize Try.prog 129 = some 4 := by kernel_rfl
@[go_sem] theorem tyB129 : tyBytes Try.prog 129 = some 40 := by kernel_rfl
@[go_sem] theorem tyG129 : tyAgg Try.prog 129 = some true := by kernel_rfl
@[go_sem] theorem tyZ129 : tyZero Try.prog 129 = some (.agg [.raw (.pointer none), .raw (.pointer none), .raw (.pointer none), .raw (.string ⟨#[]⟩)]) := by kernel_rfl
@[go_sem] theorem tyE129 : tyElem Try.prog 129 = none := by kernel_rfl
@[go_sem] theorem tyF129_0 : tyField Try.prog 129 0 = some (0, 1, false) := by kernel_rfl
@[go_sem] theorem tyP129_0 : tyPlace Try.prog 129 0 = some (0, 1) := by kernel_rfl
@[go_sem] theorem tyF129_1 : tyField Try.prog 129 1 = some (1, 1, false) := by kernel_rfl
@[go_sem] theorem tyP129_1 : tyPlace Try.prog 129 1 = some (1, 1) := by kernel_rfl
@[go_sem] theorem tyF129_2 : tyField Try.prog 129 2 = some (2, 1, false) := by kernel_rfl
@[go_sem] theorem tyP129_2 : tyPlace Try.prog 129 2 = some (2, 1) := by kernel_rfl
@[go_sem] theorem tyF129_3 : tyField Try.prog 129 3 = some (3, 1, false) := by kernel_rfl
@[go_sem] theorem tyP129_3 : tyPlace Try.prog 129 3 = some (3, 1) := by kernel_rfl
@[go_sem] theorem tyK129 : tyKids Try.prog 129 = some (.agg [.raw (.pointer none), .raw (.pointer none), .raw (.pointer none), .raw (.string ⟨#[]⟩)]) := by kernel_rfl
@[go_sem] theorem tyS130 : tySize Try.prog 130 = some 0 := by kernel_rfl
@[go_sem] theorem tyB130 : tyBytes Try.prog 130 = some 0 := by kernel_rfl
@[go_sem] theorem tyG130 : tyAgg Try.prog 130 = some true := by kernel_rfl
@[go_sem] theorem tyZ130 : tyZero Try.prog 130 = some (.agg []) := by kernel_rfl
@[go_sem] theorem tyE130 : tyElem Try.prog 130 = none := by kernel_rfl
@[go_sem] theorem tyA130 : tyArr Try.prog 130 = some (0, 16, 1) := by kernel_rfl
@[go_sem] theorem tyK130 : tyKids Try.prog 130 = some (.agg []) := by kernel_rfl
@[go_sem] theorem tyU130 : Try.prog.underlying 130 = some (.array 0 16) := by kernel_rfl
@[go_sem] theorem tyS131 : tySize Try.prog 131 = some 0 := by kernel_rfl
@[go_sem] theorem tyB131 : tyBytes Try.prog 131 = some 0 := by kernel_rfl
@[go_sem] theorem tyG131 : tyAgg Try.prog 131 = some true := by kernel_rfl
@[go_sem] theorem tyZ131 : tyZero Try.prog 131 = some (.agg []) := by kernel_rfl
@[go_sem] theorem tyE131 : tyElem Try.prog 131 = none := by kernel_rfl
@[go_sem] theorem tyF131_0 : tyField Try.prog 131 0 = some (0, 0, true) := by kernel_rfl
@[go_sem] theorem tyP131_0 : tyPlace Try.prog 131 0 = some (0, 0) := by kernel_rfl
@[go_sem] theorem tyK131 : tyKids Try.prog 131 = some (.agg [.agg []]) := by kernel_rfl
@[go_sem] theorem tyS132 : tySize Try.prog 132 = some 0 := by kernel_rfl
@[go_sem] theorem tyB132 : tyBytes Try.prog 132 = some 0 := by kernel_rfl
@[go_sem] theorem tyG132 : tyAgg Try.prog 132 = some true := by kernel_rfl
@[go_sem] theorem tyZ132 : tyZero Try.prog 132 = some (.agg []) := by kernel_rfl
@[go_sem] theorem tyE132 : tyElem Try.prog 132 = none := by kernel_rfl
@[go_sem] theorem tyF132_0 : tyField Try.prog 132 0 = some (0, 0, true) := by kernel_rfl
@[go_sem] theorem tyP132_0 : tyPlace Try.prog 132 0 = some (0, 0) := by kernel_rfl
@[go_sem] theorem tyK132 : tyKids Try.prog 132 = some (.agg [.agg []]) := by kernel_rfl
@[go_sem] theorem tyS133 : tySize Try.prog 133 = some 1 := by kernel_rfl
@[go_sem] theorem tyB133 : tyBytes Try.prog 133 = some 8 := by kernel_rfl
@[go_sem] theorem tyG133 : tyAgg Try.prog 133 = some false := by kernel_rfl
@[go_sem] theorem tyZ133 : tyZero Try.prog 133 = some (.raw (.nilFunc)) := by kernel_rfl
@[go_sem] theorem tyE133 : tyElem Try.prog 133 = none := by kernel_rfl
@[go_sem] theorem tyS134 : tySize Try.prog 134 = some 1 := by kernel_rfl
@[go_sem] theorem tyB134 : tyBytes Try.prog 134 = some 1 := by kernel_rfl
@[go_sem] theorem tyG134 : tyAgg Try.prog 134 = some false := by kernel_rfl
@[go_sem] theorem tyZ134 : tyZero Try.prog 134 = some (.raw (.int .u8 0)) := by kernel_rfl
@[go_sem] theorem tyE134 : tyElem Try.prog 134 = none := by kernel_rfl
@[go_sem] theorem tyU134 : Try.prog.underlying 134 = some (.int .u8) := by kernel_rfl
@[go_sem] theorem tyS135 : tySize Try.prog 135 = some 1 := by kernel_rfl
@[go_sem] theorem tyB135 : tyBytes Try.prog 135 = some 1 := by kernel_rfl
@[go_sem] theorem tyG135 : tyAgg Try.prog 135 = some false := by kernel_rfl
@[go_sem] theorem tyZ135 : tyZero Try.prog 135 = some (.raw (.int .u8 0)) := by kernel_rfl
@[go_sem] theorem tyE135 : tyElem Try.prog 135 = none := by kernel_rfl
@[go_sem] theorem tyU135 : Try.prog.underlying 135 = some (.int .u8) := by kernel_rfl
@[go_sem] theorem tyS136 : tySize Try.prog 136 = some 1 := by kernel_rfl
@[go_sem] theorem tyB136 : tyBytes Try.prog 136 = some 8 := by kernel_rfl
@[go_sem] theorem tyG136 : tyAgg Try.prog 136 = some false := by kernel_rfl
@[go_sem] theorem tyZ136 : tyZero Try.prog 136 = some (.raw (.nilFunc)) := by kernel_rfl
@[go_sem] theorem tyE136 : tyElem Try.prog 136 = none := by kernel_rfl
@[go_sem] theorem tyS137 : tySize Try.prog 137 = some 1 := by kernel_rfl
@[go_sem] theorem tyB137 : tyBytes Try.prog 137 = some 8 := by kernel_rfl
@[go_sem] theorem tyG137 : tyAgg Try.prog 137 = some false := by kernel_rfl
@[go_sem] theorem tyZ137 : tyZero Try.prog 137 = some (.raw (.pointer none)) := by kernel_rfl
@[go_sem] theorem tyE137 : tyElem Try.prog 137 = none := by kernel_rfl
@[go_sem] theorem tyS138 : tySize Try.prog 138 = some 1 := by kernel_rfl
@[go_sem] theorem tyB138 : tyBytes Try.prog 138 = some 4 := by kernel_rfl
@[go_sem] theorem tyG138 : tyAgg Try.prog 138 = some false := by kernel_rfl
@[go_sem] theorem tyZ138 : tyZero Try.prog 138 = some (.raw (.int .i32 0)) := by kernel_rfl
@[go_sem] theorem tyE138 : tyElem Try.prog 138 = none := by kernel_rfl
@[go_sem] theorem tyU138 : Try.prog.underlying 138 = some (.int .i32) := by kernel_rfl
@[go_sem] theorem tyS139 : tySize Try.prog 139 = some 1 := by kernel_rfl
@[go_sem] theorem tyB139 : tyBytes Try.prog 139 = some 4 := by kernel_rfl
@[go_sem] theorem tyG139 : tyAgg Try.prog 139 = some false := by kernel_rfl
@[go_sem] theorem tyZ139 : tyZero Try.prog 139 = some (.raw (.int .i32 0)) := by kernel_rfl
@[go_sem] theorem tyE139 : tyElem Try.prog 139 = none := by kernel_rfl
@[go_sem] theorem tyU139 : Try.prog.underlying 139 = some (.int .i32) := by kernel_rfl
@[go_sem] theorem tyS140 : tySize Try.prog 140 = some 11 := by kernel_rfl
@[go_sem] theorem tyB140 : tyBytes Try.prog 140 = some 48 := by kernel_rfl
@[go_sem] theorem tyG140 : tyAgg Try.prog 140 = some true := by kernel_rfl
@[go_sem] theorem tyZ140 : tyZero Try.prog 140 = some (.agg [.raw (.int .u64 0), .raw (.int .u64 0), .raw (.int .u32 0), .raw (.int .u8 0), .raw (.int .u8 0), .raw (.int .u8 0), .raw (.int .u8 0), .raw (.nilFunc), .raw (.pointer none), .raw (.int .i32 0), .raw (.int .i32 0)]) := by kernel_rfl
@[go_sem] theorem tyE140 : tyElem Try.prog 140 = none := by kernel_rfl
@[go_sem] theorem tyF140_0 : tyField Try.prog 140 0 = some (0, 1, false) := by kernel_rfl
@[go_sem] theorem tyP140_0 : tyPlace Try.prog 140 0 = some (0, 1) := by kernel_rfl
@[go_sem] theorem tyF140_1 : tyField Try.prog 140 1 = some (1, 1, false) := by kernel_rfl
@[go_sem] theorem tyP140_1 : tyPlace Try.prog 140 1 = some (1, 1) := by kernel_rfl
@[go_sem] theorem tyF140_2 : tyField Try.prog 140 2 = some (2, 1, false) := by kernel_rfl
@[go_sem] theorem tyP140_2 : tyPlace Try.prog 140 2 = some (2, 1) := by kernel_rfl
@[go_sem] theorem tyF140_3 : tyField Try.prog 140 3 = some (3, 1, false) := by kernel_rfl
@[go_sem] theorem tyP140_3 : tyPlace Try.prog 140 3 = some (3, 1) := by kernel_rfl
@[go_sem] theorem tyF140_4 : tyField Try.prog 140 4 = some (4, 1, false) := by kernel_rfl
@[go_sem] theorem tyP140_4 : tyPlace Try.prog 140 4 = some (4, 1) := by kernel_rfl
@[go_sem] theorem tyF140_5 : tyField Try.prog 140 5 = some (5, 1, false) := by kernel_rfl
@[go_sem] theorem tyP140_5 : tyPlace Try.prog 140 5 = some (5, 1) := by kernel_rfl
@[go_sem] theorem tyF140_6 : tyField Try.prog 140 6 = some (6, 1, false) := by kernel_rfl
@[go_sem] theorem tyP140_6 : tyPlace Try.prog 140 6 = some (6, 1) := by kernel_rfl
@[go_sem] theorem tyF140_7 : tyField Try.prog 140 7 = some (7, 1, false) := by kernel_rfl
@[go_sem] theorem tyP140_7 : tyPlace Try.prog 140 7 = some (7, 1) := by kernel_rfl
@[go_sem] theorem tyF140_8 : tyField Try.prog 140 8 = some (8, 1, false) := by kernel_rfl
@[go_sem] theorem tyP140_8 : tyPlace Try.prog 140 8 = some (8, 1) := by kernel_rfl
@[go_sem] theorem tyF140_9 : tyField Try.prog 140 9 = some (9, 1, false) := by kernel_rfl
@[go_sem] theorem tyP140_9 : tyPlace Try.prog 140 9 = some (9, 1) := by kernel_rfl
@[go_sem] theorem tyF140_10 : tyField Try.prog 140 10 = some (10, 1, false) := by kernel_rfl
@[go_sem] theorem tyP140_10 : tyPlace Try.prog 140 10 = some (10, 1) := by kernel_rfl
@[go_sem] theorem tyK140 : tyKids Try.prog 140 = some (.agg [.raw (.int .u64 0), .raw (.int .u64 0), .raw (.int .u32 0), .raw (.int .u8 0), .raw (.int .u8 0), .raw (.int .u8 0), .raw (.int .u8 0), .raw (.nilFunc), .raw (.pointer none), .raw (.int .i32 0), .raw (.int .i32 0)]) := by kernel_rfl
@[go_sem] theorem tyS141 : tySize Try.prog 141 = some 11 := by kernel_rfl
@[go_sem] theorem tyB141 : tyBytes Try.prog 141 = some 48 := by kernel_rfl
@[go_sem] theorem tyG141 : tyAgg Try.prog 141 = some true := by kernel_rfl
@[go_sem] theorem tyZ141 : tyZero Try.prog 141 = some (.agg [.raw (.int .u64 0), .raw (.int .u64 0), .raw (.int .u32 0), .raw (.int .u8 0), .raw (.int .u8 0), .raw (.int .u8 0), .raw (.int .u8 0), .raw (.nilFunc), .raw (.pointer none), .raw (.int .i32 0), .raw (.int .i32 0)]) := by kernel_rfl
@[go_sem] theorem tyE141 : tyElem Try.prog 141 = none := by kernel_rfl
@[go_sem] theorem tyF141_0 : tyField Try.prog 141 0 = some (0, 1, false) := by kernel_rfl
@[go_sem] theorem tyP141_0 : tyPlace Try.prog 141 0 = some (0, 1) := by kernel_rfl
@[go_sem] theorem tyF141_1 : tyField Try.prog 141 1 = some (1, 1, false) := by kernel_rfl
@[go_sem] theorem tyP141_1 : tyPlace Try.prog 141 1 = some (1, 1) := by kernel_rfl
@[go_sem] theorem tyF141_2 : tyField Try.prog 141 2 = some (2, 1, false) := by kernel_rfl
@[go_sem] theorem tyP141_2 : tyPlace Try.prog 141 2 = some (2, 1) := by kernel_rfl
@[go_sem] theorem tyF141_3 : tyField Try.prog 141 3 = some (3, 1, false) := by kernel_rfl
@[go_sem] theorem tyP141_3 : tyPlace Try.prog 141 3 = some (3, 1) := by kernel_rfl
@[go_sem] theorem tyF141_4 : tyField Try.prog 141 4 = some (4, 1, false) := by kernel_rfl
@[go_sem] theorem tyP141_4 : tyPlace Try.prog 141 4 = some (4, 1) := by kernel_rfl
@[go_sem] theorem tyF141_5 : tyField Try.prog 141 5 = some (5, 1, false) := by kernel_rfl
@[go_sem] theorem tyP141_5 : tyPlace Try.prog 141 5 = some (5, 1) := by kernel_rfl
@[go_sem] theorem tyF141_6 : tyField Try.prog 141 6 = some (6, 1, false) := by kernel_rfl
@[go_sem] theorem tyP141_6 : tyPlace Try.prog 141 6 = some (6, 1) := by kernel_rfl
@[go_sem] theorem tyF141_7 : tyField Try.prog 141 7 = some (7, 1, false) := by kernel_rfl
@[go_sem] theorem tyP141_7 : tyPlace Try.prog 141 7 = some (7, 1) := by kernel_rfl
@[go_sem] theorem tyF141_8 : tyField Try.prog 141 8 = some (8, 1, false) := by kernel_rfl
@[go_sem] theorem tyP141_8 : tyPlace Try.prog 141 8 = some (8, 1) := by kernel_rfl
@[go_sem] theorem tyF141_9 : tyField Try.prog 141 9 = some (9, 1, false) := by kernel_rfl
@[go_sem] theorem tyP141_9 : tyPlace Try.prog 141 9 = some (9, 1) := by kernel_rfl
@[go_sem] theorem tyF141_10 : tyField Try.prog 141 10 = some (10, 1, false) := by kernel_rfl
@[go_sem] theorem tyP141_10 : tyPlace Try.prog 141 10 = some (10, 1) := by kernel_rfl
@[go_sem] theorem tyK141 : tyKids Try.prog 141 = some (.agg [.raw (.int .u64 0), .raw (.int .u64 0), .raw (.int .u32 0), .raw (.int .u8 0), .raw (.int .u8 0), .raw (.int .u8 0), .raw (.int .u8 0), .raw (.nilFunc), .raw (.pointer none), .raw (.int .i32 0), .raw (.int .i32 0)]) := by kernel_rfl
end Go.Proofs.Ytjjebokgckmnjaa

