/- Facts on the types of the program, printed by a program of mine. -/
import Derived.Test.YtbnhnmpgbpejaaaA20
import Derived.Test.YtbnhnmpgbpejaaaRows
import Derived.KernelRfl
namespace Go.Proofs.Ytbnhnmpgbpejaaa
@[go_sem] theorem tyS1 : tySize Try.prog 1 = some 1 := by rfl
@[go_sem] theorem tyB1 : tyBytes Try.prog 1 = some 8 := by rfl
@[go_sem] theorem tyG1 : tyAgg Try.prog 1 = some false := by rfl
@[go_sem] theorem tyZ1 : tyZero Try.prog 1 = some (.raw (.nilFunc)) := by rfl
@[go_sem] theorem tyE1 : tyElem Try.prog 1 = none := by rfl
@[go_sem] theorem tyS2 : tySize Try.prog 2 = some 1 := by rfl
@[go_sem] theorem tyB2 : tyBytes Try.prog 2 = some 8 := by rfl
@[go_sem] theorem tyG2 : tyAgg Try.prog 2 = some false := by rfl
@[go_sem] theorem tyZ2 : tyZero Try.prog 2 = some (.raw (.int .i64 0)) := by rfl
@[go_sem] theorem tyE2 : tyElem Try.prog 2 = none := by rfl
@[go_sem] theorem tyU2 : Try.prog.underlying 2 = some (.int .i64) := by rfl
@[go_sem] theorem tyS3 : tySize Try.prog 3 = some 1 := by rfl
@[go_sem] theorem tyB3 : tyBytes Try.prog 3 = some 8 := by rfl
@[go_sem] theorem tyG3 : tyAgg Try.prog 3 = some false := by rfl
@[go_sem] theorem tyZ3 : tyZero Try.prog 3 = some (.raw (.int .i64 0)) := by rfl
@[go_sem] theorem tyE3 : tyElem Try.prog 3 = none := by rfl
@[go_sem] theorem tyU3 : Try.prog.underlying 3 = some (.int .i64) := by rfl
@[go_sem] theorem tyS4 : tySize Try.prog 4 = some 1 := by rfl
@[go_sem] theorem tyB4 : tyBytes Try.prog 4 = some 1 := by rfl
@[go_sem] theorem tyG4 : tyAgg Try.prog 4 = some false := by rfl
@[go_sem] theorem tyZ4 : tyZero Try.prog 4 = some (.raw (.bool false)) := by rfl
@[go_sem] theorem tyE4 : tyElem Try.prog 4 = none := by rfl
@[go_sem] theorem tyU4 : Try.prog.underlying 4 = some .bool := by rfl
@[go_sem] theorem tyS5 : tySize Try.prog 5 = some 1 := by rfl
@[go_sem] theorem tyB5 : tyBytes Try.prog 5 = some 1 := by rfl
@[go_sem] theorem tyG5 : tyAgg Try.prog 5 = some false := by rfl
@[go_sem] theorem tyZ5 : tyZero Try.prog 5 = some (.raw (.int .u8 0)) := by rfl
@[go_sem] theorem tyE5 : tyElem Try.prog 5 = none := by rfl
@[go_sem] theorem tyU5 : Try.prog.underlying 5 = some (.int .u8) := by rfl
@[go_sem] theorem tyS6 : tySize Try.prog 6 = some 1 := by rfl
@[go_sem] theorem tyB6 : tyBytes Try.prog 6 = some 1 := by rfl
@[go_sem] theorem tyG6 : tyAgg Try.prog 6 = some false := by rfl
@[go_sem] theorem tyZ6 : tyZero Try.prog 6 = some (.raw (.int .u8 0)) := by rfl
@[go_sem] theorem tyE6 : tyElem Try.prog 6 = none := by rfl
@[go_sem] theorem tyU6 : Try.prog.underlying 6 = some (.int .u8) := by rfl
@[go_sem] theorem tyS7 : tySize Try.prog 7 = some 4 := by rfl
@[go_sem] theorem tyB7 : tyBytes Try.prog 7 = some 24 := by rfl
@[go_sem] theorem tyG7 : tyAgg Try.prog 7 = some true := by rfl
@[go_sem] theorem tyZ7 : tyZero Try.prog 7 = some (.agg [.raw (.int .i64 0), .raw (.int .i64 0), .raw (.bool false), .raw (.int .u8 0)]) := by rfl
@[go_sem] theorem tyE7 : tyElem Try.prog 7 = none := by rfl
@[go_sem] theorem tyF7_0 : tyField Try.prog 7 0 = some (0, 1, false) := by rfl
@[go_sem] theorem tyP7_0 : tyPlace Try.prog 7 0 = some (0, 1) := by rfl
@[go_sem] theorem tyF7_1 : tyField Try.prog 7 1 = some (1, 1, false) := by rfl
@[go_sem] theorem tyP7_1 : tyPlace Try.prog 7 1 = some (1, 1) := by rfl
@[go_sem] theorem tyF7_2 : tyField Try.prog 7 2 = some (2, 1, false) := by rfl
@[go_sem] theorem tyP7_2 : tyPlace Try.prog 7 2 = some (2, 1) := by rfl
@[go_sem] theorem tyF7_3 : tyField Try.prog 7 3 = some (3, 1, false) := by rfl
@[go_sem] theorem tyP7_3 : tyPlace Try.prog 7 3 = some (3, 1) := by rfl
@[go_sem] theorem tyK7 : tyKids Try.prog 7 = some (.agg [.raw (.int .i64 0), .raw (.int .i64 0), .raw (.bool false), .raw (.int .u8 0)]) := by rfl
@[go_sem] theorem tyS8 : tySize Try.prog 8 = some 4 := by rfl
@[go_sem] theorem tyB8 : tyBytes Try.prog 8 = some 24 := by rfl
@[go_sem] theorem tyG8 : tyAgg Try.prog 8 = some true := by rfl
@[go_sem] theorem tyZ8 : tyZero Try.prog 8 = some (.agg [.raw (.int .i64 0), .raw (.int .i64 0), .raw (.bool false), .raw (.int .u8 0)]) := by rfl
@[go_sem] theorem tyE8 : tyElem Try.prog 8 = none := by rfl
@[go_sem] theorem tyF8_0 : tyField Try.prog 8 0 = some (0, 1, false) := by rfl
@[go_sem] theorem tyP8_0 : tyPlace Try.prog 8 0 = some (0, 1) := by rfl
@[go_sem] theorem tyF8_1 : tyField Try.prog 8 1 = some (1, 1, false) := by rfl
@[go_sem] theorem tyP8_1 : tyPlace Try.prog 8 1 = some (1, 1) := by rfl
@[go_sem] theorem tyF8_2 : tyField Try.prog 8 2 = some (2, 1, false) := by rfl
@[go_sem] theorem tyP8_2 : tyPlace Try.prog 8 2 = some (2, 1) := by rfl
@[go_sem] theorem tyF8_3 : tyField Try.prog 8 3 = some (3, 1, false) := by rfl
@[go_sem] theorem tyP8_3 : tyPlace Try.prog 8 3 = some (3, 1) := by rfl
@[go_sem] theorem tyK8 : tyKids Try.prog 8 = some (.agg [.raw (.int .i64 0), .raw (.int .i64 0), .raw (.bool false), .raw (.int .u8 0)]) := by rfl
@[go_sem] theorem tyS9 : tySize Try.prog 9 = some 1 := by rfl
@[go_sem] theorem tyB9 : tyBytes Try.prog 9 = some 16 := by rfl
@[go_sem] theorem tyG9 : tyAgg Try.prog 9 = some false := by rfl
@[go_sem] theorem tyZ9 : tyZero Try.prog 9 = some (.raw (.string ⟨#[]⟩)) := by rfl
@[go_sem] theorem tyE9 : tyElem Try.prog 9 = none := by rfl
@[go_sem] theorem tyU9 : Try.prog.underlying 9 = some .string := by rfl
@[go_sem] theorem tyS10 : tySize Try.prog 10 = some 1 := by rfl
@[go_sem] theorem tyB10 : tyBytes Try.prog 10 = some 16 := by rfl
@[go_sem] theorem tyG10 : tyAgg Try.prog 10 = some false := by rfl
@[go_sem] theorem tyZ10 : tyZero Try.prog 10 = some (.raw (.string ⟨#[]⟩)) := by rfl
@[go_sem] theorem tyE10 : tyElem Try.prog 10 = none := by rfl
@[go_sem] theorem tyU10 : Try.prog.underlying 10 = some .string := by rfl
@[go_sem] theorem tyS11 : tySize Try.prog 11 = some 1 := by rfl
@[go_sem] theorem tyB11 : tyBytes Try.prog 11 = some 16 := by rfl
@[go_sem] theorem tyG11 : tyAgg Try.prog 11 = some false := by rfl
@[go_sem] theorem tyZ11 : tyZero Try.prog 11 = some (.raw (.string ⟨#[]⟩)) := by rfl
@[go_sem] theorem tyE11 : tyElem Try.prog 11 = none := by rfl
@[go_sem] theorem tyU11 : Try.prog.underlying 11 = some .string := by rfl
@[go_sem] theorem tyS12 : tySize Try.prog 12 = some 1 := by rfl
@[go_sem] theorem tyB12 : tyBytes Try.prog 12 = some 8 := by rfl
@[go_sem] theorem tyG12 : tyAgg Try.prog 12 = some false := by rfl
@[go_sem] theorem tyZ12 : tyZero Try.prog 12 = some (.raw (.int .u64 0)) := by rfl
@[go_sem] theorem tyE12 : tyElem Try.prog 12 = none := by rfl
@[go_sem] theorem tyU12 : Try.prog.underlying 12 = some (.int .u64) := by rfl
@[go_sem] theorem tyS13 : tySize Try.prog 13 = some 2 := by rfl
@[go_sem] theorem tyB13 : tyBytes Try.prog 13 = some 24 := by rfl
@[go_sem] theorem tyG13 : tyAgg Try.prog 13 = some true := by rfl
@[go_sem] theorem tyZ13 : tyZero Try.prog 13 = some (.agg [.raw (.string ⟨#[]⟩), .raw (.int .u64 0)]) := by rfl
@[go_sem] theorem tyE13 : tyElem Try.prog 13 = none := by rfl
@[go_sem] theorem tyF13_0 : tyField Try.prog 13 0 = some (0, 1, false) := by rfl
@[go_sem] theorem tyP13_0 : tyPlace Try.prog 13 0 = some (0, 1) := by rfl
@[go_sem] theorem tyF13_1 : tyField Try.prog 13 1 = some (1, 1, false) := by rfl
@[go_sem] theorem tyP13_1 : tyPlace Try.prog 13 1 = some (1, 1) := by rfl
@[go_sem] theorem tyK13 : tyKids Try.prog 13 = some (.agg [.raw (.string ⟨#[]⟩), .raw (.int .u64 0)]) := by rfl
@[go_sem] theorem tyS14 : tySize Try.prog 14 = some 2 := by rfl
@[go_sem] theorem tyB14 : tyBytes Try.prog 14 = some 24 := by rfl
@[go_sem] theorem tyG14 : tyAgg Try.prog 14 = some true := by rfl
@[go_sem] theorem tyZ14 : tyZero Try.prog 14 = some (.agg [.raw (.string ⟨#[]⟩), .raw (.int .u64 0)]) := by rfl
@[go_sem] theorem tyE14 : tyElem Try.prog 14 = none := by rfl
@[go_sem] theorem tyF14_0 : tyField Try.prog 14 0 = some (0, 1, false) := by rfl
@[go_sem] theorem tyP14_0 : tyPlace Try.prog 14 0 = some (0, 1) := by rfl
@[go_sem] theorem tyF14_1 : tyField Try.prog 14 1 = some (1, 1, false) := by rfl
@[go_sem] theorem tyP14_1 : tyPlace Try.prog 14 1 = some (1, 1) := by rfl
@[go_sem] theorem tyK14 : tyKids Try.prog 14 = some (.agg [.raw (.string ⟨#[]⟩), .raw (.int .u64 0)]) := by rfl
@[go_sem] theorem tyS15 : tySize Try.prog 15 = some 1 := by rfl
@[go_sem] theorem tyB15 : tyBytes Try.prog 15 = some 8 := by rfl
@[go_sem] theorem tyG15 : tyAgg Try.prog 15 = some false := by rfl
@[go_sem] theorem tyZ15 : tyZero Try.prog 15 = some (.raw (.pointer none)) := by rfl
@[go_sem] theorem tyE15 : tyElem Try.prog 15 = none := by rfl
@[go_sem] theorem tyS16 : tySize Try.prog 16 = some 1 := by rfl
@[go_sem] theorem tyB16 : tyBytes Try.prog 16 = some 8 := by rfl
@[go_sem] theorem tyG16 : tyAgg Try.prog 16 = some false := by rfl
@[go_sem] theorem tyZ16 : tyZero Try.prog 16 = some (.raw (.pointer none)) := by rfl
@[go_sem] theorem tyE16 : tyElem Try.prog 16 = none := by rfl
@[go_sem] theorem tyS17 : tySize Try.prog 17 = some 1 := by rfl
@[go_sem] theorem tyB17 : tyBytes Try.prog 17 = some 8 := by rfl
@[go_sem] theorem tyG17 : tyAgg Try.prog 17 = some false := by rfl
@[go_sem] theorem tyZ17 : tyZero Try.prog 17 = some (.raw (.pointer none)) := by rfl
@[go_sem] theorem tyE17 : tyElem Try.prog 17 = none := by rfl
@[go_sem] theorem tyS18 : tySize Try.prog 18 = some 1 := by rfl
@[go_sem] theorem tyB18 : tyBytes Try.prog 18 = some 8 := by rfl
@[go_sem] theorem tyG18 : tyAgg Try.prog 18 = some true := by rfl
@[go_sem] theorem tyZ18 : tyZero Try.prog 18 = some (.agg [.raw (.pointer none)]) := by rfl
@[go_sem] theorem tyE18 : tyElem Try.prog 18 = none := by rfl
@[go_sem] theorem tyF18_0 : tyField Try.prog 18 0 = some (0, 1, false) := by rfl
@[go_sem] theorem tyP18_0 : tyPlace Try.prog 18 0 = some (0, 1) := by rfl
@[go_sem] theorem tyK18 : tyKids Try.prog 18 = some (.agg [.raw (.pointer none)]) := by rfl
@[go_sem] theorem tyS19 : tySize Try.prog 19 = some 1 := by rfl
@[go_sem] theorem tyB19 : tyBytes Try.prog 19 = some 8 := by rfl
@[go_sem] theorem tyG19 : tyAgg Try.prog 19 = some true := by rfl
@[go_sem] theorem tyZ19 : tyZero Try.prog 19 = some (.agg [.raw (.pointer none)]) := by rfl
@[go_sem] theorem tyE19 : tyElem Try.prog 19 = none := by rfl
@[go_sem] theorem tyF19_0 : tyField Try.prog 19 0 = some (0, 1, false) := by rfl
@[go_sem] theorem tyP19_0 : tyPlace Try.prog 19 0 = some (0, 1) := by rfl
@[go_sem] theorem tyK19 : tyKids Try.prog 19 = some (.agg [.raw (.pointer none)]) := by rfl
@[go_sem] theorem tyS21 : tySize Try.prog 21 = some 1 := by rfl
@[go_sem] theorem tyB21 : tyBytes Try.prog 21 = some 4 := by rfl
@[go_sem] theorem tyG21 : tyAgg Try.prog 21 = some false := by rfl
@[go_sem] theorem tyZ21 : tyZero Try.prog 21 = some (.raw (.int .i32 0)) := by rfl
@[go_sem] theorem tyE21 : tyElem Try.prog 21 = none := by rfl
@[go_sem] theorem tyU21 : Try.prog.underlying 21 = some (.int .i32) := by rfl
@[go_sem] theorem tyS22 : tySize Try.prog 22 = some 1 := by rfl
@[go_sem] theorem tyB22 : tyBytes Try.prog 22 = some 24 := by rfl
@[go_sem] theorem tyG22 : tyAgg Try.prog 22 = some false := by rfl
@[go_sem] theorem tyZ22 : tyZero Try.prog 22 = some (.raw (.slice none 0 0)) := by rfl
@[go_sem] theorem tyE22 : tyElem Try.prog 22 = some (26, 1) := by rfl
@[go_sem] theorem tyU22 : Try.prog.underlying 22 = some (.slice 26) := by rfl
@[go_sem] theorem tyS23 : tySize Try.prog 23 = some 2 := by rfl
@[go_sem] theorem tyB23 : tyBytes Try.prog 23 = some 32 := by rfl
@[go_sem] theorem tyG23 : tyAgg Try.prog 23 = some true := by rfl
@[go_sem] theorem tyZ23 : tyZero Try.prog 23 = some (.agg [.raw (.slice none 0 0), .raw (.bool false)]) := by rfl
@[go_sem] theorem tyE23 : tyElem Try.prog 23 = none := by rfl
@[go_sem] theorem tyF23_0 : tyField Try.prog 23 0 = some (0, 1, false) := by rfl
@[go_sem] theorem tyP23_0 : tyPlace Try.prog 23 0 = some (0, 1) := by rfl
@[go_sem] theorem tyF23_1 : tyField Try.prog 23 1 = some (1, 1, false) := by rfl
@[go_sem] theorem tyP23_1 : tyPlace Try.prog 23 1 = some (1, 1) := by rfl
@[go_sem] theorem tyK23 : tyKids Try.prog 23 = some (.agg [.raw (.slice none 0 0), .raw (.bool false)]) := by rfl
@[go_sem] theorem tyS24 : tySize Try.prog 24 = some 2 := by rfl
@[go_sem] theorem tyB24 : tyBytes Try.prog 24 = some 32 := by rfl
@[go_sem] theorem tyG24 : tyAgg Try.prog 24 = some true := by rfl
@[go_sem] theorem tyZ24 : tyZero Try.prog 24 = some (.agg [.raw (.slice none 0 0), .raw (.bool false)]) := by rfl
@[go_sem] theorem tyE24 : tyElem Try.prog 24 = none := by rfl
@[go_sem] theorem tyF24_0 : tyField Try.prog 24 0 = some (0, 1, false) := by rfl
@[go_sem] theorem tyP24_0 : tyPlace Try.prog 24 0 = some (0, 1) := by rfl
@[go_sem] theorem tyF24_1 : tyField Try.prog 24 1 = some (1, 1, false) := by rfl
@[go_sem] theorem tyP24_1 : tyPlace Try.prog 24 1 = some (1, 1) := by rfl
@[go_sem] theorem tyK24 : tyKids Try.prog 24 = some (.agg [.raw (.slice none 0 0), .raw (.bool false)]) := by rfl
@[go_sem] theorem tyS25 : tySize Try.prog 25 = some 1 := by rfl
@[go_sem] theorem tyB25 : tyBytes Try.prog 25 = some 8 := by rfl
@[go_sem] theorem tyG25 : tyAgg Try.prog 25 = some false := by rfl
@[go_sem] theorem tyZ25 : tyZero Try.prog 25 = some (.raw (.nilFunc)) := by rfl
@[go_sem] theorem tyE25 : tyElem Try.prog 25 = none := by rfl
@[go_sem] theorem tyS26 : tySize Try.prog 26 = some 1 := by rfl
@[go_sem] theorem tyB26 : tyBytes Try.prog 26 = some 4 := by rfl
@[go_sem] theorem tyG26 : tyAgg Try.prog 26 = some false := by rfl
@[go_sem] theorem tyZ26 : tyZero Try.prog 26 = some (.raw (.int .u32 0)) := by rfl
@[go_sem] theorem tyE26 : tyElem Try.prog 26 = none := by rfl
@[go_sem] theorem tyU26 : Try.prog.underlying 26 = some (.int .u32) := by rfl
@[go_sem] theorem tyS27 : tySize Try.prog 27 = some 2 := by rfl
@[go_sem] theorem tyB27 : tyBytes Try.prog 27 = some 32 := by rfl
@[go_sem] theorem tyG27 : tyAgg Try.prog 27 = some true := by rfl
@[go_sem] theorem tyZ27 : tyZero Try.prog 27 = some (.agg [.raw (.bool false), .raw (.slice none 0 0)]) := by rfl
@[go_sem] theorem tyE27 : tyElem Try.prog 27 = none := by rfl
@[go_sem] theorem tyF27_0 : tyField Try.prog 27 0 = some (0, 1, false) := by rfl
@[go_sem] theorem tyP27_0 : tyPlace Try.prog 27 0 = some (0, 1) := by rfl
@[go_sem] theorem tyF27_1 : tyField Try.prog 27 1 = some (1, 1, false) := by rfl
@[go_sem] theorem tyP27_1 : tyPlace Try.prog 27 1 = some (1, 1) := by rfl
@[go_sem] theorem tyK27 : tyKids Try.prog 27 = some (.agg [.raw (.bool false), .raw (.slice none 0 0)]) := by rfl
@[go_sem] theorem tyS28 : tySize Try.prog 28 = some 2 := by rfl
@[go_sem] theorem tyB28 : tyBytes Try.prog 28 = some 32 := by rfl
@[go_sem] theorem tyG28 : tyAgg Try.prog 28 = some true := by rfl
@[go_sem] theorem tyZ28 : tyZero Try.prog 28 = some (.agg [.raw (.bool false), .raw (.slice none 0 0)]) := by rfl
@[go_sem] theorem tyE28 : tyElem Try.prog 28 = none := by rfl
@[go_sem] theorem tyF28_0 : tyField Try.prog 28 0 = some (0, 1, false) := by rfl
@[go_sem] theorem tyP28_0 : tyPlace Try.prog 28 0 = some (0, 1) := by rfl
@[go_sem] theorem tyF28_1 : tyField Try.prog 28 1 = some (1, 1, false) := by rfl
@[go_sem] theorem tyP28_1 : tyPlace Try.prog 28 1 = some (1, 1) := by rfl
@[go_sem] theorem tyK28 : tyKids Try.prog 28 = some (.agg [.raw (.bool false), .raw (.slice none 0 0)]) := by rfl
@[go_sem] theorem tyS29 : tySize Try.prog 29 = some 1 := by rfl
@[go_sem] theorem tyB29 : tyBytes Try.prog 29 = some 8 := by rfl
@[go_sem] theorem tyG29 : tyAgg Try.prog 29 = some false := by rfl
@[go_sem] theorem tyZ29 : tyZero Try.prog 29 = some (.raw (.nilFunc)) := by rfl
@[go_sem] theorem tyE29 : tyElem Try.prog 29 = none := by rfl
@[go_sem] theorem tyS31 : tySize Try.prog 31 = some 1 := by rfl
@[go_sem] theorem tyB31 : tyBytes Try.prog 31 = some 8 := by rfl
@[go_sem] theorem tyG31 : tyAgg Try.prog 31 = some false := by rfl
@[go_sem] theorem tyZ31 : tyZero Try.prog 31 = some (.raw (.nilFunc)) := by rfl
@[go_sem] theorem tyE31 : tyElem Try.prog 31 = none := by rfl
@[go_sem] theorem tyS32 : tySize Try.prog 32 = some 1 := by rfl
@[go_sem] theorem tyB32 : tyBytes Try.prog 32 = some 8 := by rfl
@[go_sem] theorem tyG32 : tyAgg Try.prog 32 = some false := by rfl
@[go_sem] theorem tyZ32 : tyZero Try.prog 32 = some (.raw (.nilFunc)) := by rfl
@[go_sem] theorem tyE32 : tyElem Try.prog 32 = none := by rfl
@[go_sem] theorem tyS33 : tySize Try.prog 33 = some 1 := by rfl
@[go_sem] theorem tyB33 : tyBytes Try.prog 33 = some 8 := by rfl
@[go_sem] theorem tyG33 : tyAgg Try.prog 33 = some false := by rfl
@[go_sem] theorem tyZ33 : tyZero Try.prog 33 = some (.raw (.nilFunc)) := by rfl
@[go_sem] theorem tyE33 : tyElem Try.prog 33 = none := by rfl
@[go_sem] theorem tyS34 : tySize Try.prog 34 = some 1 := by rfl
@[go_sem] theorem tyB34 : tyBytes Try.prog 34 = some 8 := by rfl
@[go_sem] theorem tyG34 : tyAgg Try.prog 34 = some false := by rfl
@[go_sem] theorem tyZ34 : tyZero Try.prog 34 = some (.raw (.nilFunc)) := by rfl
@[go_sem] theorem tyE34 : tyElem Try.prog 34 = none := by rfl
@[go_sem] theorem tyS35 : tySize Try.prog 35 = some 1 := by rfl
@[go_sem] theorem tyB35 : tyBytes Try.prog 35 = some 8 := by rfl
@[go_sem] theorem tyG35 : tyAgg Try.prog 35 = some false := by rfl
@[go_sem] theorem tyZ35 : tyZero Try.prog 35 = some (.raw (.int .i64 0)) := by rfl
@[go_sem] theorem tyE35 : tyElem Try.prog 35 = none := by rfl
@[go_sem] theorem tyU35 : Try.prog.underlying 35 = some (.int .i64) := by rfl
@[go_sem] theorem tyS37 : tySize Try.prog 37 = some 1 := by rfl
@[go_sem] theorem tyB37 : tyBytes Try.prog 37 = some 8 := by rfl
@[go_sem] theorem tyG37 : tyAgg Try.prog 37 = some false := by rfl
@[go_sem] theorem tyZ37 : tyZero Try.prog 37 = some (.raw (.nilFunc)) := by rfl
@[go_sem] theorem tyE37 : tyElem Try.prog 37 = none := by rfl
@[go_sem] theorem tyS38 : tySize Try.prog 38 = some 1 := by rfl
@[go_sem] theorem tyB38 : tyBytes Try.prog 38 = some 8 := by rfl
@[go_sem] theorem tyG38 : tyAgg Try.prog 38 = some false := by rfl
@[go_sem] theorem tyZ38 : tyZero Try.prog 38 = some (.raw (.nilFunc)) := by rfl
@[go_sem] theorem tyE38 : tyElem Try.prog 38 = none := by rfl
@[go_sem] theorem tyS39 : tySize Try.prog 39 = some 1 := by rfl
@[go_sem] theorem tyB39 : tyBytes Try.prog 39 = some 8 := by rfl
@[go_sem] theorem tyG39 : tyAgg Try.prog 39 = some false := by rfl
@[go_sem] theorem tyZ39 : tyZero Try.prog 39 = some (.raw (.nilFunc)) := by rfl
@[go_sem] theorem tyE39 : tyElem Try.prog 39 = none := by rfl
@[go_sem] theorem tyS40 : tySize Try.prog 40 = some 1 := by rfl
@[go_sem] theorem tyB40 : tyBytes Try.prog 40 = some 8 := by rfl
@[go_sem] theorem tyG40 : tyAgg Try.prog 40 = some false := by rfl
@[go_sem] theorem tyZ40 : tyZero Try.prog 40 = some (.raw (.nilFunc)) := by rfl
@[go_sem] theorem tyE40 : tyElem Try.prog 40 = none := by rfl
@[go_sem] theorem tyS41 : tySize Try.prog 41 = some 1 := by rfl
@[go_sem] theorem tyB41 : tyBytes Try.prog 41 = some 8 := by rfl
@[go_sem] theorem tyG41 : tyAgg Try.prog 41 = some false := by rfl
@[go_sem] theorem tyZ41 : tyZero Try.prog 41 = some (.raw (.nilFunc)) := by rfl
@[go_sem] theorem tyE41 : tyElem Try.prog 41 = none := by rfl
@[go_sem] theorem tyS42 : tySize Try.prog 42 = some 1 := by rfl
@[go_sem] theorem tyB42 : tyBytes Try.prog 42 = some 8 := by rfl
@[go_sem] theorem tyG42 : tyAgg Try.prog 42 = some false := by rfl
@[go_sem] theorem tyZ42 : tyZero Try.prog 42 = some (.raw (.nilFunc)) := by rfl
@[go_sem] theorem tyE42 : tyElem Try.prog 42 = none := by rfl
@[go_sem] theorem tyS43 : tySize Try.prog 43 = some 1 := by rfl
@[go_sem] theorem tyB43 : tyBytes Try.prog 43 = some 8 := by rfl
@[go_sem] theorem tyG43 : tyAgg Try.prog 43 = some false := by rfl
@[go_sem] theorem tyZ43 : tyZero Try.prog 43 = some (.raw (.nilFunc)) := by rfl
@[go_sem] theorem tyE43 : tyElem Try.prog 43 = none := by rfl
@[go_sem] theorem tyS44 : tySize Try.prog 44 = some 1 := by rfl
@[go_sem] theorem tyB44 : tyBytes Try.prog 44 = some 8 := by rfl
@[go_sem] theorem tyG44 : tyAgg Try.prog 44 = some false := by rfl
@[go_sem] theorem tyZ44 : tyZero Try.prog 44 = some (.raw (.nilFunc)) := by rfl
@[go_sem] theorem tyE44 : tyElem Try.prog 44 = none := by rfl
@[go_sem] theorem tyS45 : tySize Try.prog 45 = some 2 := by rfl
@[go_sem] theorem tyB45 : tyBytes Try.prog 45 = some 16 := by rfl
@[go_sem] theorem tyG45 : tyAgg Try.prog 45 = some true := by rfl
@[go_sem] theorem tyZ45 : tyZero Try.prog 45 = some (.agg [.raw (.int .i64 0), .raw (.int .i64 0)]) := by rfl
@[go_sem] theorem tyE45 : tyElem Try.prog 45 = none := by rfl
@[go_sem] theorem tyA45 : tyArr Try.prog 45 = some (2, 3, 1) := by rfl
@[go_sem] theorem tyK45 : tyKids Try.prog 45 = some (.agg [.raw (.int .i64 0), .raw (.int .i64 0)]) := by rfl
@[go_sem] theorem tyP45_0 : tyPlace Try.prog 45 0 = some (0, 1) := by rfl
@[go_sem] theorem tyP45_1 : tyPlace Try.prog 45 1 = some (1, 1) := by rfl
@[go_sem] theorem tyU45 : Try.prog.underlying 45 = some (.array 2 3) := by rfl
@[go_sem] theorem tyS47 : tySize Try.prog 47 = some 1 := by rfl
@[go_sem] theorem tyB47 : tyBytes Try.prog 47 = some 8 := by rfl
@[go_sem] theorem tyG47 : tyAgg Try.prog 47 = some false := by rfl
@[go_sem] theorem tyZ47 : tyZero Try.prog 47 = some (.raw (.nilFunc)) := by rfl
@[go_sem] theorem tyE47 : tyElem Try.prog 47 = none := by rfl
@[go_sem] theorem tyS48 : tySize Try.prog 48 = some 1 := by rfl
@[go_sem] theorem tyB48 : tyBytes Try.prog 48 = some 8 := by rfl
@[go_sem] theorem tyG48 : tyAgg Try.prog 48 = some false := by rfl
@[go_sem] theorem tyZ48 : tyZero Try.prog 48 = some (.raw (.int .u64 0)) := by rfl
@[go_sem] theorem tyE48 : tyElem Try.prog 48 = none := by rfl
@[go_sem] theorem tyU48 : Try.prog.underlying 48 = some (.int .u64) := by rfl
@[go_sem] theorem tyS49 : tySize Try.prog 49 = some 1 := by rfl
@[go_sem] theorem tyB49 : tyBytes Try.prog 49 = some 8 := by rfl
@[go_sem] theorem tyG49 : tyAgg Try.prog 49 = some false := by rfl
@[go_sem] theorem tyZ49 : tyZero Try.prog 49 = some (.raw (.nilFunc)) := by rfl
@[go_sem] theorem tyE49 : tyElem Try.prog 49 = none := by rfl
@[go_sem] theorem tyS50 : tySize Try.prog 50 = some 1 := by rfl
@[go_sem] theorem tyB50 : tyBytes Try.prog 50 = some 8 := by rfl
@[go_sem] theorem tyG50 : tyAgg Try.prog 50 = some false := by rfl
@[go_sem] theorem tyZ50 : tyZero Try.prog 50 = some (.raw (.nilFunc)) := by rfl
@[go_sem] theorem tyE50 : tyElem Try.prog 50 = none := by rfl
@[go_sem] theorem tyS51 : tySize Try.prog 51 = some 1 := by rfl
@[go_sem] theorem tyB51 : tyBytes Try.prog 51 = some 8 := by rfl
@[go_sem] theorem tyG51 : tyAgg Try.prog 51 = some false := by rfl
@[go_sem] theorem tyZ51 : tyZero Try.prog 51 = some (.raw (.nilFunc)) := by rfl
@[go_sem] theorem tyE51 : tyElem Try.prog 51 = none := by rfl
@[go_sem] theorem tyS52 : tySize Try.prog 52 = some 1 := by rfl
@[go_sem] theorem tyB52 : tyBytes Try.prog 52 = some 8 := by rfl
@[go_sem] theorem tyG52 : tyAgg Try.prog 52 = some false := by rfl
@[go_sem] theorem tyZ52 : tyZero Try.prog 52 = some (.raw (.nilFunc)) := by rfl
@[go_sem] theorem tyE52 : tyElem Try.prog 52 = none := by rfl
@[go_sem] theorem tyS53 : tySize Try.prog 53 = some 1 := by rfl
@[go_sem] theorem tyB53 : tyBytes Try.prog 53 = some 8 := by rfl
@[go_sem] theorem tyG53 : tyAgg Try.prog 53 = some false := by rfl
@[go_sem] theorem tyZ53 : tyZero Try.prog 53 = some (.raw (.nilFunc)) := by rfl
@[go_sem] theorem tyE53 : tyElem Try.prog 53 = none := by rfl
@[go_sem] theorem tyS54 : tySize Try.prog 54 = some 1 := by rfl
@[go_sem] theorem tyB54 : tyBytes Try.prog 54 = some 8 := by rfl
@[go_sem] theorem tyG54 : tyAgg Try.prog 54 = some false := by rfl
@[go_sem] theorem tyZ54 : tyZero Try.prog 54 = some (.raw (.int .u64 0)) := by rfl
@[go_sem] theorem tyE54 : tyElem Try.prog 54 = none := by rfl
@[go_sem] theorem tyU54 : Try.prog.underlying 54 = some (.int .u64) := by rfl
@[go_sem] theorem tyS56 : tySize Try.prog 56 = some 1 := by rfl
@[go_sem] theorem tyB56 : tyBytes Try.prog 56 = some 8 := by rfl
@[go_sem] theorem tyG56 : tyAgg Try.prog 56 = some false := by rfl
@[go_sem] theorem tyZ56 : tyZero Try.prog 56 = some (.raw (.nilFunc)) := by rfl
@[go_sem] theorem tyE56 : tyElem Try.prog 56 = none := by rfl
@[go_sem] theorem tyS57 : tySize Try.prog 57 = some 1 := by rfl
@[go_sem] theorem tyB57 : tyBytes Try.prog 57 = some 8 := by rfl
@[go_sem] theorem tyG57 : tyAgg Try.prog 57 = some false := by rfl
@[go_sem] theorem tyZ57 : tyZero Try.prog 57 = some (.raw (.nilFunc)) := by rfl
@[go_sem] theorem tyE57 : tyElem Try.prog 57 = none := by rfl
@[go_sem] theorem tyS58 : tySize Try.prog 58 = some 1 := by rfl
@[go_sem] theorem tyB58 : tyBytes Try.prog 58 = some 8 := by rfl
@[go_sem] theorem tyG58 : tyAgg Try.prog 58 = some false := by rfl
@[go_sem] theorem tyZ58 : tyZero Try.prog 58 = some (.raw (.nilFunc)) := by rfl
@[go_sem] theorem tyE58 : tyElem Try.prog 58 = none := by rfl
@[go_sem] theorem tyS60 : tySize Try.prog 60 = some 1 := by rfl
@[go_sem] theorem tyB60 : tyBytes Try.prog 60 = some 8 := by rfl
@[go_sem] theorem tyG60 : tyAgg Try.prog 60 = some false := by rfl
@[go_sem] theorem tyZ60 : tyZero Try.prog 60 = some (.raw (.nilFunc)) := by rfl
@[go_sem] theorem tyE60 : tyElem Try.prog 60 = none := by rfl
@[go_sem] theorem tyS61 : tySize Try.prog 61 = some 1 := by rfl
@[go_sem] theorem tyB61 : tyBytes Try.prog 61 = some 8 := by rfl
@[go_sem] theorem tyG61 : tyAgg Try.prog 61 = some false := by rfl
@[go_sem] theorem tyZ61 : tyZero Try.prog 61 = some (.raw (.nilFunc)) := by rfl
@[go_sem] theorem tyE61 : tyElem Try.prog 61 = none := by rfl
@[go_sem] theorem tyS62 : tySize Try.prog 62 = some 1 := by rfl
@[go_sem] theorem tyB62 : tyBytes Try.prog 62 = some 24 := by rfl
@[go_sem] theorem tyG62 : tyAgg Try.prog 62 = some false := by rfl
@[go_sem] theorem tyZ62 : tyZero Try.prog 62 = some (.raw (.slice none 0 0)) := by rfl
@[go_sem] theorem tyE62 : tyElem Try.prog 62 = some (5, 1) := by rfl
@[go_sem] theorem tyU62 : Try.prog.underlying 62 = some (.slice 5) := by rfl
@[go_sem] theorem tyS64 : tySize Try.prog 64 = some 1 := by rfl
@[go_sem] theorem tyB64 : tyBytes Try.prog 64 = some 8 := by rfl
@[go_sem] theorem tyG64 : tyAgg Try.prog 64 = some false := by rfl
@[go_sem] theorem tyZ64 : tyZero Try.prog 64 = some (.raw (.nilFunc)) := by rfl
@[go_sem] theorem tyE64 : tyElem Try.prog 64 = none := by rfl
@[go_sem] theorem tyS65 : tySize Try.prog 65 = some 1 := by rfl
@[go_sem] theorem tyB65 : tyBytes Try.prog 65 = some 8 := by rfl
@[go_sem] theorem tyG65 : tyAgg Try.prog 65 = some false := by rfl
@[go_sem] theorem tyZ65 : tyZero Try.prog 65 = some (.raw (.nilFunc)) := by rfl
@[go_sem] theorem tyE65 : tyElem Try.prog 65 = none := by rfl
@[go_sem] theorem tyS66 : tySize Try.prog 66 = some 1 := by rfl
@[go_sem] theorem tyB66 : tyBytes Try.prog 66 = some 8 := by rfl
@[go_sem] theorem tyG66 : tyAgg Try.prog 66 = some false := by rfl
@[go_sem] theorem tyZ66 : tyZero Try.prog 66 = some (.raw (.nilFunc)) := by rfl
@[go_sem] theorem tyE66 : tyElem Try.prog 66 = none := by rfl
@[go_sem] theorem tyS68 : tySize Try.prog 68 = some 1 := by rfl
@[go_sem] theorem tyB68 : tyBytes Try.prog 68 = some 8 := by rfl
@[go_sem] theorem tyG68 : tyAgg Try.prog 68 = some false := by rfl
@[go_sem] theorem tyZ68 : tyZero Try.prog 68 = some (.raw (.nilFunc)) := by rfl
@[go_sem] theorem tyE68 : tyElem Try.prog 68 = none := by rfl
@[go_sem] theorem tyS69 : tySize Try.prog 69 = some 1 := by rfl
@[go_sem] theorem tyB69 : tyBytes Try.prog 69 = some 8 := by rfl
@[go_sem] theorem tyG69 : tyAgg Try.prog 69 = some false := by rfl
@[go_sem] theorem tyZ69 : tyZero Try.prog 69 = some (.raw (.nilFunc)) := by rfl
@[go_sem] theorem tyE69 : tyElem Try.prog 69 = none := by rfl
@[go_sem] theorem tyS70 : tySize Try.prog 70 = some 1 := by rfl
@[go_sem] theorem tyB70 : tyBytes Try.prog 70 = some 8 := by rfl
@[go_sem] theorem tyG70 : tyAgg Try.prog 70 = some false := by rfl
@[go_sem] theorem tyZ70 : tyZero Try.prog 70 = some (.raw (.nilFunc)) := by rfl
@[go_sem] theorem tyE70 : tyElem Try.prog 70 = none := by rfl
@[go_sem] theorem tyS71 : tySize Try.prog 71 = some 1 := by rfl
@[go_sem] theorem tyB71 : tyBytes Try.prog 71 = some 8 := by rfl
@[go_sem] theorem tyG71 : tyAgg Try.prog 71 = some false := by rfl
@[go_sem] theorem tyZ71 : tyZero Try.prog 71 = some (.raw (.nilFunc)) := by rfl
@[go_sem] theorem tyE71 : tyElem Try.prog 71 = none := by rfl
@[go_sem] theorem tyS72 : tySize Try.prog 72 = some 1 := by rfl
@[go_sem] theorem tyB72 : tyBytes Try.prog 72 = some 8 := by rfl
@[go_sem] theorem tyG72 : tyAgg Try.prog 72 = some false := by rfl
@[go_sem] theorem tyZ72 : tyZero Try.prog 72 = some (.raw (.nilFunc)) := by rfl
@[go_sem] theorem tyE72 : tyElem Try.prog 72 = none := by rfl
@[go_sem] theorem tyS73 : tySize Try.prog 73 = some 1 := by rfl
@[go_sem] theorem tyB73 : tyBytes Try.prog 73 = some 8 := by rfl
@[go_sem] theorem tyG73 : tyAgg Try.prog 73 = some false := by rfl
@[go_sem] theorem tyZ73 : tyZero Try.prog 73 = some (.raw (.nilFunc)) := by rfl
@[go_sem] theorem tyE73 : tyElem Try.prog 73 = none := by rfl
@[go_sem] theorem tyS74 : tySize Try.prog 74 = some 1 := by rfl
@[go_sem] theorem tyB74 : tyBytes Try.prog 74 = some 8 := by rfl
@[go_sem] theorem tyG74 : tyAgg Try.prog 74 = some false := by rfl
@[go_sem] theorem tyZ74 : tyZero Try.prog 74 = some (.raw (.nilFunc)) := by rfl
@[go_sem] theorem tyE74 : tyElem Try.prog 74 = none := by rfl
@[go_sem] theorem tyS75 : tySize Try.prog 75 = some 1 := by rfl
@[go_sem] theorem tyB75 : tyBytes Try.prog 75 = some 8 := by rfl
@[go_sem] theorem tyG75 : tyAgg Try.prog 75 = some false := by rfl
@[go_sem] theorem tyZ75 : tyZero Try.prog 75 = some (.raw (.nilFunc)) := by rfl
@[go_sem] theorem tyE75 : tyElem Try.prog 75 = none := by rfl
@[go_sem] theorem tyS76 : tySize Try.prog 76 = some 1 := by rfl
@[go_sem] theorem tyB76 : tyBytes Try.prog 76 = some 8 := by rfl
@[go_sem] theorem tyG76 : tyAgg Try.prog 76 = some false := by rfl
@[go_sem] theorem tyZ76 : tyZero Try.prog 76 = some (.raw (.nilFunc)) := by rfl
@[go_sem] theorem tyE76 : tyElem Try.prog 76 = none := by rfl
@[go_sem] theorem tyS77 : tySize Try.prog 77 = some 1 := by rfl
@[go_sem] theorem tyB77 : tyBytes Try.prog 77 = some 8 := by rfl
@[go_sem] theorem tyG77 : tyAgg Try.prog 77 = some false := by rfl
@[go_sem] theorem tyZ77 : tyZero Try.prog 77 = some (.raw (.nilFunc)) := by rfl
@[go_sem] theorem tyE77 : tyElem Try.prog 77 = none := by rfl
@[go_sem] theorem tyS78 : tySize Try.prog 78 = some 4 := by rfl
@[go_sem] theorem tyB78 : tyBytes Try.prog 78 = some 40 := by rfl
@[go_sem] theorem tyG78 : tyAgg Try.prog 78 = some true := by rfl
@[go_sem] theorem tyZ78 : tyZero Try.prog 78 = some (.agg [.raw (.pointer none), .raw (.pointer none), .raw (.pointer none), .raw (.string ⟨#[]⟩)]) := by rfl
@[go_sem] theorem tyE78 : tyElem Try.prog 78 = none := by rfl
@[go_sem] theorem tyF78_0 : tyField Try.prog 78 0 = some (0, 1, false) := by rfl
@[go_sem] theorem tyP78_0 : tyPlace Try.prog 78 0 = some (0, 1) := by rfl
@[go_sem] theorem tyF78_1 : tyField Try.prog 78 1 = some (1, 1, false) := by rfl
@[go_sem] theorem tyP78_1 : tyPlace Try.prog 78 1 = some (1, 1) := by rfl
@[go_sem] theorem tyF78_2 : tyField Try.prog 78 2 = some (2, 1, false) := by rfl
@[go_sem] theorem tyP78_2 : tyPlace Try.prog 78 2 = some (2, 1) := by rfl
@[go_sem] theorem tyF78_3 : tyField Try.prog 78 3 = some (3, 1, false) := by rfl
@[go_sem] theorem tyP78_3 : tyPlace Try.prog 78 3 = some (3, 1) := by rfl
@[go_sem] theorem tyK78 : tyKids Try.prog 78 = some (.agg [.raw (.pointer none), .raw (.pointer none), .raw (.pointer none), .raw (.string ⟨#[]⟩)]) := by rfl
@[go_sem] theorem tyS79 : tySize Try.prog 79 = some 4 := by rfl
@[go_sem] theorem tyB79 : tyBytes Try.prog 79 = some 40 := by rfl
@[go_sem] theorem tyG79 : tyAgg Try.prog 79 = some true := by rfl
@[go_sem] theorem tyZ79 : tyZero Try.prog 79 = some (.agg [.raw (.pointer none), .raw (.pointer none), .raw (.pointer none), .raw (.string ⟨#[]⟩)]) := by rfl
@[go_sem] theorem tyE79 : tyElem Try.prog 79 = none := by rfl
@[go_sem] theorem tyF79_0 : tyField Try.prog 79 0 = some (0, 1, false) := by rfl
@[go_sem] theorem tyP79_0 : tyPlace Try.prog 79 0 = some (0, 1) := by rfl
@[go_sem] theorem tyF79_1 : tyField Try.prog 79 1 = some (1, 1, false) := by rfl
@[go_sem] theorem tyP79_1 : tyPlace Try.prog 79 1 = some (1, 1) := by rfl
@[go_sem] theorem tyF79_2 : tyField Try.prog 79 2 = some (2, 1, false) := by rfl
@[go_sem] theorem tyP79_2 : tyPlace Try.prog 79 2 = some (2, 1) := by rfl
@[go_sem] theorem tyF79_3 : tyField Try.prog 79 3 = some (3, 1, false) := by rfl
@[go_sem] theorem tyP79_3 : tyPlace Try.prog 79 3 = some (3, 1) := by rfl
@[go_sem] theorem tyK79 : tyKids Try.prog 79 = some (.agg [.raw (.pointer none), .raw (.pointer none), .raw (.pointer none), .raw (.string ⟨#[]⟩)]) := by rfl
@[go_sem] theorem tyS80 : tySize Try.prog 80 = some 0 := by rfl
@[go_sem] theorem tyB80 : tyBytes Try.prog 80 = some 0 := by rfl
@[go_sem] theorem tyG80 : tyAgg Try.prog 80 = some true := by rfl
@[go_sem] theorem tyZ80 : tyZero Try.prog 80 = some (.agg []) := by rfl
@[go_sem] theorem tyE80 : tyElem Try.prog 80 = none := by rfl
@[go_sem] theorem tyA80 : tyArr Try.prog 80 = some (0, 16, 1) := by rfl
@[go_sem] theorem tyK80 : tyKids Try.prog 80 = some (.agg []) := by rfl
@[go_sem] theorem tyU80 : Try.prog.underlying 80 = some (.array 0 16) := by rfl
@[go_sem] theorem tyS81 : tySize Try.prog 81 = some 0 := by rfl
@[go_sem] theorem tyB81 : tyBytes Try.prog 81 = some 0 := by rfl
@[go_sem] theorem tyG81 : tyAgg Try.prog 81 = some true := by rfl
@[go_sem] theorem tyZ81 : tyZero Try.prog 81 = some (.agg []) := by rfl
@[go_sem] theorem tyE81 : tyElem Try.prog 81 = none := by rfl
@[go_sem] theorem tyF81_0 : tyField Try.prog 81 0 = some (0, 0, true) := by rfl
@[go_sem] theorem tyP81_0 : tyPlace Try.prog 81 0 = some (0, 0) := by rfl
@[go_sem] theorem tyK81 : tyKids Try.prog 81 = some (.agg [.agg []]) := by rfl
@[go_sem] theorem tyS82 : tySize Try.prog 82 = some 0 := by rfl
@[go_sem] theorem tyB82 : tyBytes Try.prog 82 = some 0 := by rfl
@[go_sem] theorem tyG82 : tyAgg Try.prog 82 = some true := by rfl
@[go_sem] theorem tyZ82 : tyZero Try.prog 82 = some (.agg []) := by rfl
@[go_sem] theorem tyE82 : tyElem Try.prog 82 = none := by rfl
@[go_sem] theorem tyF82_0 : tyField Try.prog 82 0 = some (0, 0, true) := by rfl
@[go_sem] theorem tyP82_0 : tyPlace Try.prog 82 0 = some (0, 0) := by rfl
@[go_sem] theorem tyK82 : tyKids Try.prog 82 = some (.agg [.agg []]) := by rfl
@[go_sem] theorem tyS83 : tySize Try.prog 83 = some 1 := by rfl
@[go_sem] theorem tyB83 : tyBytes Try.prog 83 = some 8 := by rfl
@[go_sem] theorem tyG83 : tyAgg Try.prog 83 = some false := by rfl
@[go_sem] theorem tyZ83 : tyZero Try.prog 83 = some (.raw (.nilFunc)) := by rfl
@[go_sem] theorem tyE83 : tyElem Try.prog 83 = none := by rfl
@[go_sem] theorem tyS84 : tySize Try.prog 84 = some 1 := by rfl
@[go_sem] theorem tyB84 : tyBytes Try.prog 84 = some 1 := by rfl
@[go_sem] theorem tyG84 : tyAgg Try.prog 84 = some false := by rfl
@[go_sem] theorem tyZ84 : tyZero Try.prog 84 = some (.raw (.int .u8 0)) := by rfl
@[go_sem] theorem tyE84 : tyElem Try.prog 84 = none := by rfl
@[go_sem] theorem tyU84 : Try.prog.underlying 84 = some (.int .u8) := by rfl
@[go_sem] theorem tyS85 : tySize Try.prog 85 = some 1 := by rfl
@[go_sem] theorem tyB85 : tyBytes Try.prog 85 = some 1 := by rfl
@[go_sem] theorem tyG85 : tyAgg Try.prog 85 = some false := by rfl
@[go_sem] theorem tyZ85 : tyZero Try.prog 85 = some (.raw (.int .u8 0)) := by rfl
@[go_sem] theorem tyE85 : tyElem Try.prog 85 = none := by rfl
@[go_sem] theorem tyU85 : Try.prog.underlying 85 = some (.int .u8) := by rfl
@[go_sem] theorem tyS86 : tySize Try.prog 86 = some 1 := by rfl
@[go_sem] theorem tyB86 : tyBytes Try.prog 86 = some 8 := by rfl
@[go_sem] theorem tyG86 : tyAgg Try.prog 86 = some false := by rfl
@[go_sem] theorem tyZ86 : tyZero Try.prog 86 = some (.raw (.nilFunc)) := by rfl
@[go_sem] theorem tyE86 : tyElem Try.prog 86 = none := by rfl
@[go_sem] theorem tyS87 : tySize Try.prog 87 = some 1 := by rfl
@[go_sem] theorem tyB87 : tyBytes Try.prog 87 = some 8 := by rfl
@[go_sem] theorem tyG87 : tyAgg Try.prog 87 = some false := by rfl
@[go_sem] theorem tyZ87 : tyZero Try.prog 87 = some (.raw (.pointer none)) := by rfl
@[go_sem] theorem tyE87 : tyElem Try.prog 87 = none := by rfl
@[go_sem] theorem tyS88 : tySize Try.prog 88 = some 1 := by rfl
@[go_sem] theorem tyB88 : tyBytes Try.prog 88 = some 4 := by rfl
@[go_sem] theorem tyG88 : tyAgg Try.prog 88 = some false := by rfl
@[go_sem] theorem tyZ88 : tyZero Try.prog 88 = some (.raw (.int .i32 0)) := by rfl
@[go_sem] theorem tyE88 : tyElem Try.prog 88 = none := by rfl
@[go_sem] theorem tyU88 : Try.prog.underlying 88 = some (.int .i32) := by rfl
@[go_sem] theorem tyS89 : tySize Try.prog 89 = some 1 := by rfl
@[go_sem] theorem tyB89 : tyBytes Try.prog 89 = some 4 := by rfl
@[go_sem] theorem tyG89 : tyAgg Try.prog 89 = some false := by rfl
@[go_sem] theorem tyZ89 : tyZero Try.prog 89 = some (.raw (.int .i32 0)) := by rfl
@[go_sem] theorem tyE89 : tyElem Try.prog 89 = none := by rfl
@[go_sem] theorem tyU89 : Try.prog.underlying 89 = some (.int .i32) := by rfl
@[go_sem] theorem tyS90 : tySize Try.prog 90 = some 11 := by rfl
@[go_sem] theorem tyB90 : tyBytes Try.prog 90 = some 48 := by rfl
@[go_sem] theorem tyG90 : tyAgg Try.prog 90 = some true := by rfl
@[go_sem] theorem tyZ90 : tyZero Try.prog 90 = some (.agg [.raw (.int .u64 0), .raw (.int .u64 0), .raw (.int .u32 0), .raw (.int .u8 0), .raw (.int .u8 0), .raw (.int .u8 0), .raw (.int .u8 0), .raw (.nilFunc), .raw (.pointer none), .raw (.int .i32 0), .raw (.int .i32 0)]) := by rfl
@[go_sem] theorem tyE90 : tyElem Try.prog 90 = none := by rfl
@[go_sem] theorem tyF90_0 : tyField Try.prog 90 0 = some (0, 1, false) := by rfl
@[go_sem] theorem tyP90_0 : tyPlace Try.prog 90 0 = some (0, 1) := by rfl
@[go_sem] theorem tyF90_1 : tyField Try.prog 90 1 = some (1, 1, false) := by rfl
@[go_sem] theorem tyP90_1 : tyPlace Try.prog 90 1 = some (1, 1) := by rfl
@[go_sem] theorem tyF90_2 : tyField Try.prog 90 2 = some (2, 1, false) := by rfl
@[go_sem] theorem tyP90_2 : tyPlace Try.prog 90 2 = some (2, 1) := by rfl
@[go_sem] theorem tyF90_3 : tyField Try.prog 90 3 = some (3, 1, false) := by rfl
@[go_sem] theorem tyP90_3 : tyPlace Try.prog 90 3 = some (3, 1) := by rfl
@[go_sem] theorem tyF90_4 : tyField Try.prog 90 4 = some (4, 1, false) := by rfl
@[go_sem] theorem tyP90_4 : tyPlace Try.prog 90 4 = some (4, 1) := by rfl
@[go_sem] theorem tyF90_5 : tyField Try.prog 90 5 = some (5, 1, false) := by rfl
@[go_sem] theorem tyP90_5 : tyPlace Try.prog 90 5 = some (5, 1) := by rfl
@[go_sem] theorem tyF90_6 : tyField Try.prog 90 6 = some (6, 1, false) := by rfl
@[go_sem] theorem tyP90_6 : tyPlace Try.prog 90 6 = some (6, 1) := by rfl
@[go_sem] theorem tyF90_7 : tyField Try.prog 90 7 = some (7, 1, false) := by rfl
@[go_sem] theorem tyP90_7 : tyPlace Try.prog 90 7 = some (7, 1) := by rfl
@[go_sem] theorem tyF90_8 : tyField Try.prog 90 8 = some (8, 1, false) := by rfl
@[go_sem] theorem tyP90_8 : tyPlace Try.prog 90 8 = some (8, 1) := by rfl
@[go_sem] theorem tyF90_9 : tyField Try.prog 90 9 = some (9, 1, false) := by rfl
@[go_sem] theorem tyP90_9 : tyPlace Try.prog 90 9 = some (9, 1) := by rfl
@[go_sem] theorem tyF90_10 : tyField Try.prog 90 10 = some (10, 1, false) := by rfl
@[go_sem] theorem tyP90_10 : tyPlace Try.prog 90 10 = some (10, 1) := by rfl
@[go_sem] theorem tyK90 : tyKids Try.prog 90 = some (.agg [.raw (.int .u64 0), .raw (.int .u64 0), .raw (.int .u32 0), .raw (.int .u8 0), .raw (.int .u8 0), .raw (.int .u8 0), .raw (.int .u8 0), .raw (.nilFunc), .raw (.pointer none), .raw (.int .i32 0), .raw (.int .i32 0)]) := by rfl
@[go_sem] theorem tyS91 : tySize Try.prog 91 = some 11 := by rfl
@[go_sem] theorem tyB91 : tyBytes Try.prog 91 = some 48 := by rfl
@[go_sem] theorem tyG91 : tyAgg Try.prog 91 = some true := by rfl
@[go_sem] theorem tyZ91 : tyZero Try.prog 91 = some (.agg [.raw (.int .u64 0), .raw (.int .u64 0), .raw (.int .u32 0), .raw (.int .u8 0), .raw (.int .u8 0), .raw (.int .u8 0), .raw (.int .u8 0), .raw (.nilFunc), .raw (.pointer none), .raw (.int .i32 0), .raw (.int .i32 0)]) := by rfl
@[go_sem] theorem tyE91 : tyElem Try.prog 91 = none := by rfl
@[go_sem] theorem tyF91_0 : tyField Try.prog 91 0 = some (0, 1, false) := by rfl
@[go_sem] theorem tyP91_0 : tyPlace Try.prog 91 0 = some (0, 1) := by rfl
@[go_sem] theorem tyF91_1 : tyField Try.prog 91 1 = some (1, 1, false) := by rfl
@[go_sem] theorem tyP91_1 : tyPlace Try.prog 91 1 = some (1, 1) := by rfl
@[go_sem] theorem tyF91_2 : tyField Try.prog 91 2 = some (2, 1, false) := by rfl
@[go_sem] theorem tyP91_2 : tyPlace Try.prog 91 2 = some (2, 1) := by rfl
@[go_sem] theorem tyF91_3 : tyField Try.prog 91 3 = some (3, 1, false) := by rfl
@[go_sem] theorem tyP91_3 : tyPlace Try.prog 91 3 = some (3, 1) := by rfl
@[go_sem] theorem tyF91_4 : tyField Try.prog 91 4 = some (4, 1, false) := by rfl
@[go_sem] theorem tyP91_4 : tyPlace Try.prog 91 4 = some (4, 1) := by rfl
@[go_sem] theorem tyF91_5 : tyField Try.prog 91 5 = some (5, 1, false) := by rfl
@[go_sem] theorem tyP91_5 : tyPlace Try.prog 91 5 = some (5, 1) := by rfl
@[go_sem] theorem tyF91_6 : tyField Try.prog 91 6 = some (6, 1, false) := by rfl
@[go_sem] theorem tyP91_6 : tyPlace Try.prog 91 6 = some (6, 1) := by rfl
@[go_sem] theorem tyF91_7 : tyField Try.prog 91 7 = some (7, 1, false) := by rfl
@[go_sem] theorem tyP91_7 : tyPlace Try.prog 91 7 = some (7, 1) := by rfl
@[go_sem] theorem tyF91_8 : tyField Try.prog 91 8 = some (8, 1, false) := by rfl
@[go_sem] theorem tyP91_8 : tyPlace Try.prog 91 8 = some (8, 1) := by rfl
@[go_sem] theorem tyF91_9 : tyField Try.prog 91 9 = some (9, 1, false) := by rfl
@[go_sem] theorem tyP91_9 : tyPlace Try.prog 91 9 = some (9, 1) := by rfl
@[go_sem] theorem tyF91_10 : tyField Try.prog 91 10 = some (10, 1, false) := by rfl
@[go_sem] theorem tyP91_10 : tyPlace Try.prog 91 10 = some (10, 1) := by rfl
@[go_sem] theorem tyK91 : tyKids Try.prog 91 = some (.agg [.raw (.int .u64 0), .raw (.int .u64 0), .raw (.int .u32 0), .raw (.int .u8 0), .raw (.int .u8 0), .raw (.int .u8 0), .raw (.int .u8 0), .raw (.nilFunc), .raw (.pointer none), .raw (.int .i32 0), .raw (.int .i32 0)]) := by rfl
end Go.Proofs.Ytbnhnmpgbpejaaa
