/- Texts Ty A21 A22 A23 in one. -/
import Derived.Test.YtilkleibnciloaaP07
import Derived.Test.YtilkleibnciloaaRows
import Derived.KernelRfl
/- Facts on the types of the program, printed by a program of mine. -/
namespace Go.Proofs.Ytilkleibnciloaa
@[go_sem] theorem tyS1 : tySize Try.prog 1 = some 1 := by rfl
@[go_sem] theorem tyB1 : tyBytes Try.prog 1 = some 8 := by rfl
@[go_sem] theorem tyG1 : tyAgg Try.prog 1 = some false := by rfl
@[go_sem] theorem tyZ1 : tyZero Try.prog 1 = some (.raw (.nilFunc)) := by rfl
@[go_sem] theorem tyE1 : tyElem Try.prog 1 = none := by rfl
@[go_sem] theorem tyS2 : tySize Try.prog 2 = some 1 := by rfl
@[go_sem] theorem tyB2 : tyBytes Try.prog 2 = some 8 := by rfl
@[go_sem] theorem tyG2 : tyAgg Try.prog 2 = some false := by rfl
@[go_sem] theorem tyZ2 : tyZero Try.prog 2 = some (.raw (.int .i64 0)) := by rfl
@[go_sem] theorem tyE2 : tyElem Try.prog 2 = none := by rfl
@[go_sem] theorem tyU2 : Try.prog.underlying 2 = some (.int .i64) := by rfl
@[go_sem] theorem tyS3 : tySize Try.prog 3 = some 1 := by rfl
@[go_sem] theorem tyB3 : tyBytes Try.prog 3 = some 8 := by rfl
@[go_sem] theorem tyG3 : tyAgg Try.prog 3 = some false := by rfl
@[go_sem] theorem tyZ3 : tyZero Try.prog 3 = some (.raw (.int .i64 0)) := by rfl
@[go_sem] theorem tyE3 : tyElem Try.prog 3 = none := by rfl
@[go_sem] theorem tyU3 : Try.prog.underlying 3 = some (.int .i64) := by rfl
@[go_sem] theorem tyS4 : tySize Try.prog 4 = some 1 := by rfl
@[go_sem] theorem tyB4 : tyBytes Try.prog 4 = some 1 := by rfl
@[go_sem] theorem tyG4 : tyAgg Try.prog 4 = some false := by rfl
@[go_sem] theorem tyZ4 : tyZero Try.prog 4 = some (.raw (.bool false)) := by rfl
@[go_sem] theorem tyE4 : tyElem Try.prog 4 = none := by rfl
@[go_sem] theorem tyU4 : Try.prog.underlying 4 = some .bool := by rfl
@[go_sem] theorem tyS5 : tySize Try.prog 5 = some 1 := by rfl
@[go_sem] theorem tyB5 : tyBytes Try.prog 5 = some 1 := by rfl
@[go_sem] theorem tyG5 : tyAgg Try.prog 5 = some false := by rfl
@[go_sem] theorem tyZ5 : tyZero Try.prog 5 = some (.raw (.int .u8 0)) := by rfl
@[go_sem] theorem tyE5 : tyElem Try.prog 5 = none := by rfl
@[go_sem] theorem tyU5 : Try.prog.underlying 5 = some (.int .u8) := by rfl
@[go_sem] theorem tyS6 : tySize Try.prog 6 = some 1 := by rfl
@[go_sem] theorem tyB6 : tyBytes Try.prog 6 = some 1 := by rfl
@[go_sem] theorem tyG6 : tyAgg Try.prog 6 = some false := by rfl
@[go_sem] theorem tyZ6 : tyZero Try.prog 6 = some (.raw (.int .u8 0)) := by rfl
@[go_sem] theorem tyE6 : tyElem Try.prog 6 = none := by rfl
@[go_sem] theorem tyU6 : Try.prog.underlying 6 = some (.int .u8) := by rfl
@[go_sem] theorem tyS7 : tySize Try.prog 7 = some 4 := by rfl
@[go_sem] theorem tyB7 : tyBytes Try.prog 7 = some 24 := by rfl
@[go_sem] theorem tyG7 : tyAgg Try.prog 7 = some true := by rfl
@[go_sem] theorem tyZ7 : tyZero Try.prog 7 = some (.agg [.raw (.int .i64 0), .raw (.int .i64 0), .raw (.bool false), .raw (.int .u8 0)]) := by rfl
@[go_sem] theorem tyE7 : tyElem Try.prog 7 = none := by rfl
@[go_sem] theorem tyF7_0 : tyField Try.prog 7 0 = some (0, 1, false) := by rfl
@[go_sem] theorem tyP7_0 : tyPlace Try.prog 7 0 = some (0, 1) := by rfl
@[go_sem] theorem tyF7_1 : tyField Try.prog 7 1 = some (1, 1, false) := by rfl
@[go_sem] theorem tyP7_1 : tyPlace Try.prog 7 1 = some (1, 1) := by rfl
@[go_sem] theorem tyF7_2 : tyField Try.prog 7 2 = some (2, 1, false) := by rfl
@[go_sem] theorem tyP7_2 : tyPlace Try.prog 7 2 = some (2, 1) := by rfl
@[go_sem] theorem tyF7_3 : tyField Try.prog 7 3 = some (3, 1, false) := by rfl
@[go_sem] theorem tyP7_3 : tyPlace Try.prog 7 3 = some (3, 1) := by rfl
@[go_sem] theorem tyK7 : tyKids Try.prog 7 = some (.agg [.raw (.int .i64 0), .raw (.int .i64 0), .raw (.bool false), .raw (.int .u8 0)]) := by rfl
@[go_sem] theorem tyS8 : tySize Try.prog 8 = some 4 := by rfl
@[go_sem] theorem tyB8 : tyBytes Try.prog 8 = some 24 := by rfl
@[go_sem] theorem tyG8 : tyAgg Try.prog 8 = some true := by rfl
@[go_sem] theorem tyZ8 : tyZero Try.prog 8 = some (.agg [.raw (.int .i64 0), .raw (.int .i64 0), .raw (.bool false), .raw (.int .u8 0)]) := by rfl
@[go_sem] theorem tyE8 : tyElem Try.prog 8 = none := by rfl
@[go_sem] theorem tyF8_0 : tyField Try.prog 8 0 = some (0, 1, false) := by rfl
@[go_sem] theorem tyP8_0 : tyPlace Try.prog 8 0 = some (0, 1) := by rfl
@[go_sem] theorem tyF8_1 : tyField Try.prog 8 1 = some (1, 1, false) := by rfl
@[go_sem] theorem tyP8_1 : tyPlace Try.prog 8 1 = some (1, 1) := by rfl
@[go_sem] theorem tyF8_2 : tyField Try.prog 8 2 = some (2, 1, false) := by rfl
@[go_sem] theorem tyP8_2 : tyPlace Try.prog 8 2 = some (2, 1) := by rfl
@[go_sem] theorem tyF8_3 : tyField Try.prog 8 3 = some (3, 1, false) := by rfl
@[go_sem] theorem tyP8_3 : tyPlace Try.prog 8 3 = some (3, 1) := by rfl
@[go_sem] theorem tyK8 : tyKids Try.prog 8 = some (.agg [.raw (.int .i64 0), .raw (.int .i64 0), .raw (.bool false), .raw (.int .u8 0)]) := by rfl
@[go_sem] theorem tyS9 : tySize Try.prog 9 = some 1 := by rfl
@[go_sem] theorem tyB9 : tyBytes Try.prog 9 = some 16 := by rfl
@[go_sem] theorem tyG9 : tyAgg Try.prog 9 = some false := by rfl
@[go_sem] theorem tyZ9 : tyZero Try.prog 9 = some (.raw (.string ⟨#[]⟩)) := by rfl
@[go_sem] theorem tyE9 : tyElem Try.prog 9 = none := by rfl
@[go_sem] theorem tyU9 : Try.prog.underlying 9 = some .string := by rfl
@[go_sem] theorem tyS10 : tySize Try.prog 10 = some 1 := by rfl
@[go_sem] theorem tyB10 : tyBytes Try.prog 10 = some 16 := by rfl
@[go_sem] theorem tyG10 : tyAgg Try.prog 10 = some false := by rfl
@[go_sem] theorem tyZ10 : tyZero Try.prog 10 = some (.raw (.string ⟨#[]⟩)) := by rfl
@[go_sem] theorem tyE10 : tyElem Try.prog 10 = none := by rfl
@[go_sem] theorem tyU10 : Try.prog.underlying 10 = some .string := by rfl
@[go_sem] theorem tyS11 : tySize Try.prog 11 = some 1 := by rfl
@[go_sem] theorem tyB11 : tyBytes Try.prog 11 = some 16 := by rfl
@[go_sem] theorem tyG11 : tyAgg Try.prog 11 = some false := by rfl
@[go_sem] theorem tyZ11 : tyZero Try.prog 11 = some (.raw (.string ⟨#[]⟩)) := by rfl
@[go_sem] theorem tyE11 : tyElem Try.prog 11 = none := by rfl
@[go_sem] theorem tyU11 : Try.prog.underlying 11 = some .string := by rfl
@[go_sem] theorem tyS12 : tySize Try.prog 12 = some 1 := by rfl
@[go_sem] theorem tyB12 : tyBytes Try.prog 12 = some 8 := by rfl
@[go_sem] theorem tyG12 : tyAgg Try.prog 12 = some false := by rfl
@[go_sem] theorem tyZ12 : tyZero Try.prog 12 = some (.raw (.int .u64 0)) := by rfl
@[go_sem] theorem tyE12 : tyElem Try.prog 12 = none := by rfl
@[go_sem] theorem tyU12 : Try.prog.underlying 12 = some (.int .u64) := by rfl
@[go_sem] theorem tyS13 : tySize Try.prog 13 = some 2 := by rfl
@[go_sem] theorem tyB13 : tyBytes Try.prog 13 = some 24 := by rfl
@[go_sem] theorem tyG13 : tyAgg Try.prog 13 = some true := by rfl
@[go_sem] theorem tyZ13 : tyZero Try.prog 13 = some (.agg [.raw (.string ⟨#[]⟩), .raw (.int .u64 0)]) := by rfl
@[go_sem] theorem tyE13 : tyElem Try.prog 13 = none := by rfl
@[go_sem] theorem tyF13_0 : tyField Try.prog 13 0 = some (0, 1, false) := by rfl
@[go_sem] theorem tyP13_0 : tyPlace Try.prog 13 0 = some (0, 1) := by rfl
@[go_sem] theorem tyF13_1 : tyField Try.prog 13 1 = some (1, 1, false) := by rfl
@[go_sem] theorem tyP13_1 : tyPlace Try.prog 13 1 = some (1, 1) := by rfl
@[go_sem] theorem tyK13 : tyKids Try.prog 13 = some (.agg [.raw (.string ⟨#[]⟩), .raw (.int .u64 0)]) := by rfl
@[go_sem] theorem tyS14 : tySize Try.prog 14 = some 2 := by rfl
@[go_sem] theorem tyB14 : tyBytes Try.prog 14 = some 24 := by rfl
@[go_sem] theorem tyG14 : tyAgg Try.prog 14 = some true := by rfl
@[go_sem] theorem tyZ14 : tyZero Try.prog 14 = some (.agg [.raw (.string ⟨#[]⟩), .raw (.int .u64 0)]) := by rfl
@[go_sem] theorem tyE14 : tyElem Try.prog 14 = none := by rfl
@[go_sem] theorem tyF14_0 : tyField Try.prog 14 0 = some (0, 1, false) := by rfl
@[go_sem] theorem tyP14_0 : tyPlace Try.prog 14 0 = some (0, 1) := by rfl
@[go_sem] theorem tyF14_1 : tyField Try.prog 14 1 = some (1, 1, false) := by rfl
@[go_sem] theorem tyP14_1 : tyPlace Try.prog 14 1 = some (1, 1) := by rfl
@[go_sem] theorem tyK14 : tyKids Try.prog 14 = some (.agg [.raw (.string ⟨#[]⟩), .raw (.int .u64 0)]) := by rfl
@[go_sem] theorem tyS15 : tySize Try.prog 15 = some 1 := by rfl
@[go_sem] theorem tyB15 : tyBytes Try.prog 15 = some 8 := by rfl
@[go_sem] theorem tyG15 : tyAgg Try.prog 15 = some false := by rfl
@[go_sem] theorem tyZ15 : tyZero Try.prog 15 = some (.raw (.pointer none)) := by rfl
@[go_sem] theorem tyE15 : tyElem Try.prog 15 = none := by rfl
@[go_sem] theorem tyS16 : tySize Try.prog 16 = some 1 := by rfl
@[go_sem] theorem tyB16 : tyBytes Try.prog 16 = some 8 := by rfl
@[go_sem] theorem tyG16 : tyAgg Try.prog 16 = some false := by rfl
@[go_sem] theorem tyZ16 : tyZero Try.prog 16 = some (.raw (.pointer none)) := by rfl
@[go_sem] theorem tyE16 : tyElem Try.prog 16 = none := by rfl
@[go_sem] theorem tyS17 : tySize Try.prog 17 = some 1 := by rfl
@[go_sem] theorem tyB17 : tyBytes Try.prog 17 = some 8 := by rfl
@[go_sem] theorem tyG17 : tyAgg Try.prog 17 = some false := by rfl
@[go_sem] theorem tyZ17 : tyZero Try.prog 17 = some (.raw (.pointer none)) := by rfl
@[go_sem] theorem tyE17 : tyElem Try.prog 17 = none := by rfl
@[go_sem] theorem tyS18 : tySize Try.prog 18 = some 1 := by rfl
@[go_sem] theorem tyB18 : tyBytes Try.prog 18 = some 8 := by rfl
@[go_sem] theorem tyG18 : tyAgg Try.prog 18 = some true := by rfl
@[go_sem] theorem tyZ18 : tyZero Try.prog 18 = some (.agg [.raw (.pointer none)]) := by rfl
@[go_sem] theorem tyE18 : tyElem Try.prog 18 = none := by rfl
@[go_sem] theorem tyF18_0 : tyField Try.prog 18 0 = some (0, 1, false) := by rfl
@[go_sem] theorem tyP18_0 : tyPlace Try.prog 18 0 = some (0, 1) := by rfl
@[go_sem] theorem tyK18 : tyKids Try.prog 18 = some (.agg [.raw (.pointer none)]) := by rfl
@[go_sem] theorem tyS19 : tySize Try.prog 19 = some 1 := by rfl
@[go_sem] theorem tyB19 : tyBytes Try.prog 19 = some 8 := by rfl
@[go_sem] theorem tyG19 : tyAgg Try.prog 19 = some true := by rfl
@[go_sem] theorem tyZ19 : tyZero Try.prog 19 = some (.agg [.raw (.pointer none)]) := by rfl
@[go_sem] theorem tyE19 : tyElem Try.prog 19 = none := by rfl
@[go_sem] theorem tyF19_0 : tyField Try.prog 19 0 = some (0, 1, false) := by rfl
@[go_sem] theorem tyP19_0 : tyPlace Try.prog 19 0 = some (0, 1) := by rfl
@[go_sem] theorem tyK19 : tyKids Try.prog 19 = some (.agg [.raw (.pointer none)]) := by rfl
@[go_sem] theorem tyS21 : tySize Try.prog 21 = some 1 := by rfl
@[go_sem] theorem tyB21 : tyBytes Try.prog 21 = some 4 := by rfl
@[go_sem] theorem tyG21 : tyAgg Try.prog 21 = some false := by rfl
@[go_sem] theorem tyZ21 : tyZero Try.prog 21 = some (.raw (.int .i32 0)) := by rfl
@[go_sem] theorem tyE21 : tyElem Try.prog 21 = none := by rfl
@[go_sem] theorem tyU21 : Try.prog.underlying 21 = some (.int .i32) := by rfl
@[go_sem] theorem tyS22 : tySize Try.prog 22 = some 1 := by rfl
@[go_sem] theorem tyB22 : tyBytes Try.prog 22 = some 24 := by rfl
@[go_sem] theorem tyG22 : tyAgg Try.prog 22 = some false := by rfl
@[go_sem] theorem tyZ22 : tyZero Try.prog 22 = some (.raw (.slice none 0 0)) := by rfl
@[go_sem] theorem tyE22 : tyElem Try.prog 22 = some (74, 1) := by rfl
@[go_sem] theorem tyU22 : Try.prog.underlying 22 = some (.slice 74) := by rfl
@[go_sem] theorem tyS23 : tySize Try.prog 23 = some 3 := by rfl
@[go_sem] theorem tyB23 : tyBytes Try.prog 23 = some 56 := by rfl
@[go_sem] theorem tyG23 : tyAgg Try.prog 23 = some true := by rfl
@[go_sem] theorem tyZ23 : tyZero Try.prog 23 = some (.agg [.raw (.slice none 0 0), .raw (.slice none 0 0), .raw (.bool false)]) := by rfl
@[go_sem] theorem tyE23 : tyElem Try.prog 23 = none := by rfl
@[go_sem] theorem tyF23_0 : tyField Try.prog 23 0 = some (0, 1, false) := by rfl
@[go_sem] theorem tyP23_0 : tyPlace Try.prog 23 0 = some (0, 1) := by rfl
@[go_sem] theorem tyF23_1 : tyField Try.prog 23 1 = some (1, 1, false) := by rfl
@[go_sem] theorem tyP23_1 : tyPlace Try.prog 23 1 = some (1, 1) := by rfl
@[go_sem] theorem tyF23_2 : tyField Try.prog 23 2 = some (2, 1, false) := by rfl
@[go_sem] theorem tyP23_2 : tyPlace Try.prog 23 2 = some (2, 1) := by rfl
@[go_sem] theorem tyK23 : tyKids Try.prog 23 = some (.agg [.raw (.slice none 0 0), .raw (.slice none 0 0), .raw (.bool false)]) := by rfl
@[go_sem] theorem tyS24 : tySize Try.prog 24 = some 3 := by rfl
@[go_sem] theorem tyB24 : tyBytes Try.prog 24 = some 56 := by rfl
@[go_sem] theorem tyG24 : tyAgg Try.prog 24 = some true := by rfl
@[go_sem] theorem tyZ24 : tyZero Try.prog 24 = some (.agg [.raw (.slice none 0 0), .raw (.slice none 0 0), .raw (.bool false)]) := by rfl
@[go_sem] theorem tyE24 : tyElem Try.prog 24 = none := by rfl
@[go_sem] theorem tyF24_0 : tyField Try.prog 24 0 = some (0, 1, false) := by rfl
@[go_sem] theorem tyP24_0 : tyPlace Try.prog 24 0 = some (0, 1) := by rfl
@[go_sem] theorem tyF24_1 : tyField Try.prog 24 1 = some (1, 1, false) := by rfl
@[go_sem] theorem tyP24_1 : tyPlace Try.prog 24 1 = some (1, 1) := by rfl
@[go_sem] theorem tyF24_2 : tyField Try.prog 24 2 = some (2, 1, false) := by rfl
@[go_sem] theorem tyP24_2 : tyPlace Try.prog 24 2 = some (2, 1) := by rfl
@[go_sem] theorem tyK24 : tyKids Try.prog 24 = some (.agg [.raw (.slice none 0 0), .raw (.slice none 0 0), .raw (.bool false)]) := by rfl
@[go_sem] theorem tyS25 : tySize Try.prog 25 = some 1 := by rfl
@[go_sem] theorem tyB25 : tyBytes Try.prog 25 = some 24 := by rfl
@[go_sem] theorem tyG25 : tyAgg Try.prog 25 = some false := by rfl
@[go_sem] theorem tyZ25 : tyZero Try.prog 25 = some (.raw (.slice none 0 0)) := by rfl
@[go_sem] theorem tyE25 : tyElem Try.prog 25 = some (5, 1) := by rfl
@[go_sem] theorem tyU25 : Try.prog.underlying 25 = some (.slice 5) := by rfl
@[go_sem] theorem tyS26 : tySize Try.prog 26 = some 2 := by rfl
@[go_sem] theorem tyB26 : tyBytes Try.prog 26 = some 32 := by rfl
@[go_sem] theorem tyG26 : tyAgg Try.prog 26 = some true := by rfl
@[go_sem] theorem tyZ26 : tyZero Try.prog 26 = some (.agg [.raw (.bool false), .raw (.slice none 0 0)]) := by rfl
@[go_sem] theorem tyE26 : tyElem Try.prog 26 = none := by rfl
@[go_sem] theorem tyF26_0 : tyField Try.prog 26 0 = some (0, 1, false) := by rfl
@[go_sem] theorem tyP26_0 : tyPlace Try.prog 26 0 = some (0, 1) := by rfl
@[go_sem] theorem tyF26_1 : tyField Try.prog 26 1 = some (1, 1, false) := by rfl
@[go_sem] theorem tyP26_1 : tyPlace Try.prog 26 1 = some (1, 1) := by rfl
@[go_sem] theorem tyK26 : tyKids Try.prog 26 = some (.agg [.raw (.bool false), .raw (.slice none 0 0)]) := by rfl
@[go_sem] theorem tyS27 : tySize Try.prog 27 = some 2 := by rfl
@[go_sem] theorem tyB27 : tyBytes Try.prog 27 = some 32 := by rfl
@[go_sem] theorem tyG27 : tyAgg Try.prog 27 = some true := by rfl
@[go_sem] theorem tyZ27 : tyZero Try.prog 27 = some (.agg [.raw (.bool false), .raw (.slice none 0 0)]) := by rfl
@[go_sem] theorem tyE27 : tyElem Try.prog 27 = none := by rfl
@[go_sem] theorem tyF27_0 : tyField Try.prog 27 0 = some (0, 1, false) := by rfl
@[go_sem] theorem tyP27_0 : tyPlace Try.prog 27 0 = some (0, 1) := by rfl
@[go_sem] theorem tyF27_1 : tyField Try.prog 27 1 = some (1, 1, false) := by rfl
@[go_sem] theorem tyP27_1 : tyPlace Try.prog 27 1 = some (1, 1) := by rfl
@[go_sem] theorem tyK27 : tyKids Try.prog 27 = some (.agg [.raw (.bool false), .raw (.slice none 0 0)]) := by rfl
@[go_sem] theorem tyS28 : tySize Try.prog 28 = some 4 := by rfl
@[go_sem] theorem tyB28 : tyBytes Try.prog 28 = some 64 := by rfl
@[go_sem] theorem tyG28 : tyAgg Try.prog 28 = some true := by rfl
@[go_sem] theorem tyZ28 : tyZero Try.prog 28 = some (.agg [.raw (.bool false), .raw (.slice none 0 0), .raw (.bool false), .raw (.slice none 0 0)]) := by rfl
@[go_sem] theorem tyE28 : tyElem Try.prog 28 = none := by rfl
@[go_sem] theorem tyF28_0 : tyField Try.prog 28 0 = some (0, 2, true) := by rfl
@[go_sem] theorem tyP28_0 : tyPlace Try.prog 28 0 = some (0, 2) := by rfl
@[go_sem] theorem tyF28_1 : tyField Try.prog 28 1 = some (2, 2, true) := by rfl
@[go_sem] theorem tyP28_1 : tyPlace Try.prog 28 1 = some (2, 2) := by rfl
@[go_sem] theorem tyK28 : tyKids Try.prog 28 = some (.agg [.agg [.raw (.bool false), .raw (.slice none 0 0)], .agg [.raw (.bool false), .raw (.slice none 0 0)]]) := by rfl
@[go_sem] theorem tyS29 : tySize Try.prog 29 = some 4 := by rfl
@[go_sem] theorem tyB29 : tyBytes Try.prog 29 = some 64 := by rfl
@[go_sem] theorem tyG29 : tyAgg Try.prog 29 = some true := by rfl
@[go_sem] theorem tyZ29 : tyZero Try.prog 29 = some (.agg [.raw (.bool false), .raw (.slice none 0 0), .raw (.bool false), .raw (.slice none 0 0)]) := by rfl
@[go_sem] theorem tyE29 : tyElem Try.prog 29 = none := by rfl
@[go_sem] theorem tyF29_0 : tyField Try.prog 29 0 = some (0, 2, true) := by rfl
@[go_sem] theorem tyP29_0 : tyPlace Try.prog 29 0 = some (0, 2) := by rfl
@[go_sem] theorem tyF29_1 : tyField Try.prog 29 1 = some (2, 2, true) := by rfl
@[go_sem] theorem tyP29_1 : tyPlace Try.prog 29 1 = some (2, 2) := by rfl
@[go_sem] theorem tyK29 : tyKids Try.prog 29 = some (.agg [.agg [.raw (.bool false), .raw (.slice none 0 0)], .agg [.raw (.bool false), .raw (.slice none 0 0)]]) := by rfl
@[go_sem] theorem tyS30 : tySize Try.prog 30 = some 1 := by rfl
@[go_sem] theorem tyB30 : tyBytes Try.prog 30 = some 8 := by rfl
@[go_sem] theorem tyG30 : tyAgg Try.prog 30 = some false := by rfl
@[go_sem] theorem tyZ30 : tyZero Try.prog 30 = some (.raw (.nilFunc)) := by rfl
@[go_sem] theorem tyE30 : tyElem Try.prog 30 = none := by rfl
@[go_sem] theorem tyS31 : tySize Try.prog 31 = some 1 := by rfl
@[go_sem] theorem tyB31 : tyBytes Try.prog 31 = some 8 := by rfl
@[go_sem] theorem tyG31 : tyAgg Try.prog 31 = some false := by rfl
@[go_sem] theorem tyZ31 : tyZero Try.prog 31 = some (.raw (.nilFunc)) := by rfl
@[go_sem] theorem tyE31 : tyElem Try.prog 31 = none := by rfl
@[go_sem] theorem tyS32 : tySize Try.prog 32 = some 1 := by rfl
@[go_sem] theorem tyB32 : tyBytes Try.prog 32 = some 8 := by rfl
@[go_sem] theorem tyG32 : tyAgg Try.prog 32 = some false := by rfl
@[go_sem] theorem tyZ32 : tyZero Try.prog 32 = some (.raw (.int .i64 0)) := by rfl
@[go_sem] theorem tyE32 : tyElem Try.prog 32 = none := by rfl
@[go_sem] theorem tyU32 : Try.prog.underlying 32 = some (.int .i64) := by rfl
@[go_sem] theorem tyS34 : tySize Try.prog 34 = some 1 := by rfl
@[go_sem] theorem tyB34 : tyBytes Try.prog 34 = some 8 := by rfl
@[go_sem] theorem tyG34 : tyAgg Try.prog 34 = some false := by rfl
@[go_sem] theorem tyZ34 : tyZero Try.prog 34 = some (.raw (.nilFunc)) := by rfl
@[go_sem] theorem tyE34 : tyElem Try.prog 34 = none := by rfl
@[go_sem] theorem tyS35 : tySize Try.prog 35 = some 1 := by rfl
@[go_sem] theorem tyB35 : tyBytes Try.prog 35 = some 8 := by rfl
@[go_sem] theorem tyG35 : tyAgg Try.prog 35 = some false := by rfl
@[go_sem] theorem tyZ35 : tyZero Try.prog 35 = some (.raw (.nilFunc)) := by rfl
@[go_sem] theorem tyE35 : tyElem Try.prog 35 = none := by rfl
@[go_sem] theorem tyS36 : tySize Try.prog 36 = some 1 := by rfl
@[go_sem] theorem tyB36 : tyBytes Try.prog 36 = some 8 := by rfl
@[go_sem] theorem tyG36 : tyAgg Try.prog 36 = some false := by rfl
@[go_sem] theorem tyZ36 : tyZero Try.prog 36 = some (.raw (.nilFunc)) := by rfl
@[go_sem] theorem tyE36 : tyElem Try.prog 36 = none := by rfl
@[go_sem] theorem tyS37 : tySize Try.prog 37 = some 1 := by rfl
@[go_sem] theorem tyB37 : tyBytes Try.prog 37 = some 8 := by rfl
@[go_sem] theorem tyG37 : tyAgg Try.prog 37 = some false := by rfl
@[go_sem] theorem tyZ37 : tyZero Try.prog 37 = some (.raw (.nilFunc)) := by rfl
@[go_sem] theorem tyE37 : tyElem Try.prog 37 = none := by rfl
@[go_sem] theorem tyS38 : tySize Try.prog 38 = some 1 := by rfl
@[go_sem] theorem tyB38 : tyBytes Try.prog 38 = some 8 := by rfl
@[go_sem] theorem tyG38 : tyAgg Try.prog 38 = some false := by rfl
@[go_sem] theorem tyZ38 : tyZero Try.prog 38 = some (.raw (.nilFunc)) := by rfl
@[go_sem] theorem tyE38 : tyElem Try.prog 38 = none := by rfl
@[go_sem] theorem tyS39 : tySize Try.prog 39 = some 2 := by rfl
@[go_sem] theorem tyB39 : tyBytes Try.prog 39 = some 16 := by rfl
@[go_sem] theorem tyG39 : tyAgg Try.prog 39 = some true := by rfl
@[go_sem] theorem tyZ39 : tyZero Try.prog 39 = some (.agg [.raw (.int .i64 0), .raw (.int .i64 0)]) := by rfl
@[go_sem] theorem tyE39 : tyElem Try.prog 39 = none := by rfl
@[go_sem] theorem tyA39 : tyArr Try.prog 39 = some (2, 3, 1) := by rfl
@[go_sem] theorem tyK39 : tyKids Try.prog 39 = some (.agg [.raw (.int .i64 0), .raw (.int .i64 0)]) := by rfl
@[go_sem] theorem tyP39_0 : tyPlace Try.prog 39 0 = some (0, 1) := by rfl
@[go_sem] theorem tyP39_1 : tyPlace Try.prog 39 1 = some (1, 1) := by rfl
@[go_sem] theorem tyU39 : Try.prog.underlying 39 = some (.array 2 3) := by rfl
@[go_sem] theorem tyS40 : tySize Try.prog 40 = some 1 := by rfl
@[go_sem] theorem tyB40 : tyBytes Try.prog 40 = some 8 := by rfl
@[go_sem] theorem tyG40 : tyAgg Try.prog 40 = some false := by rfl
@[go_sem] theorem tyZ40 : tyZero Try.prog 40 = some (.raw (.nilFunc)) := by rfl
@[go_sem] theorem tyE40 : tyElem Try.prog 40 = none := by rfl
@[go_sem] theorem tyS41 : tySize Try.prog 41 = some 1 := by rfl
@[go_sem] theorem tyB41 : tyBytes Try.prog 41 = some 8 := by rfl
@[go_sem] theorem tyG41 : tyAgg Try.prog 41 = some false := by rfl
@[go_sem] theorem tyZ41 : tyZero Try.prog 41 = some (.raw (.nilFunc)) := by rfl
@[go_sem] theorem tyE41 : tyElem Try.prog 41 = none := by rfl
@[go_sem] theorem tyS42 : tySize Try.prog 42 = some 1 := by rfl
@[go_sem] theorem tyB42 : tyBytes Try.prog 42 = some 8 := by rfl
@[go_sem] theorem tyG42 : tyAgg Try.prog 42 = some false := by rfl
@[go_sem] theorem tyZ42 : tyZero Try.prog 42 = some (.raw (.nilFunc)) := by rfl
@[go_sem] theorem tyE42 : tyElem Try.prog 42 = none := by rfl
@[go_sem] theorem tyS43 : tySize Try.prog 43 = some 1 := by rfl
@[go_sem] theorem tyB43 : tyBytes Try.prog 43 = some 8 := by rfl
@[go_sem] theorem tyG43 : tyAgg Try.prog 43 = some false := by rfl
@[go_sem] theorem tyZ43 : tyZero Try.prog 43 = some (.raw (.nilFunc)) := by rfl
@[go_sem] theorem tyE43 : tyElem Try.prog 43 = none := by rfl
@[go_sem] theorem tyS44 : tySize Try.prog 44 = some 1 := by rfl
@[go_sem] theorem tyB44 : tyBytes Try.prog 44 = some 8 := by rfl
@[go_sem] theorem tyG44 : tyAgg Try.prog 44 = some false := by rfl
@[go_sem] theorem tyZ44 : tyZero Try.prog 44 = some (.raw (.nilFunc)) := by rfl
@[go_sem] theorem tyE44 : tyElem Try.prog 44 = none := by rfl
@[go_sem] theorem tyS45 : tySize Try.prog 45 = some 1 := by rfl
@[go_sem] theorem tyB45 : tyBytes Try.prog 45 = some 8 := by rfl
@[go_sem] theorem tyG45 : tyAgg Try.prog 45 = some false := by rfl
@[go_sem] theorem tyZ45 : tyZero Try.prog 45 = some (.raw (.nilFunc)) := by rfl
@[go_sem] theorem tyE45 : tyElem Try.prog 45 = none := by rfl
@[go_sem] theorem tyS46 : tySize Try.prog 46 = some 1 := by rfl
@[go_sem] theorem tyB46 : tyBytes Try.prog 46 = some 8 := by rfl
@[go_sem] theorem tyG46 : tyAgg Try.prog 46 = some false := by rfl
@[go_sem] theorem tyZ46 : tyZero Try.prog 46 = some (.raw (.nilFunc)) := by rfl
@[go_sem] theorem tyE46 : tyElem Try.prog 46 = none := by rfl
@[go_sem] theorem tyS47 : tySize Try.prog 47 = some 1 := by rfl
@[go_sem] theorem tyB47 : tyBytes Try.prog 47 = some 8 := by rfl
@[go_sem] theorem tyG47 : tyAgg Try.prog 47 = some false := by rfl
@[go_sem] theorem tyZ47 : tyZero Try.prog 47 = some (.raw (.nilFunc)) := by rfl
@[go_sem] theorem tyE47 : tyElem Try.prog 47 = none := by rfl
@[go_sem] theorem tyS48 : tySize Try.prog 48 = some 1 := by rfl
@[go_sem] theorem tyB48 : tyBytes Try.prog 48 = some 8 := by rfl
@[go_sem] theorem tyG48 : tyAgg Try.prog 48 = some false := by rfl
@[go_sem] theorem tyZ48 : tyZero Try.prog 48 = some (.raw (.nilFunc)) := by rfl
@[go_sem] theorem tyE48 : tyElem Try.prog 48 = none := by rfl
@[go_sem] theorem tyS49 : tySize Try.prog 49 = some 1 := by rfl
@[go_sem] theorem tyB49 : tyBytes Try.prog 49 = some 8 := by rfl
@[go_sem] theorem tyG49 : tyAgg Try.prog 49 = some false := by rfl
@[go_sem] theorem tyZ49 : tyZero Try.prog 49 = some (.raw (.nilFunc)) := by rfl
@[go_sem] theorem tyE49 : tyElem Try.prog 49 = none := by rfl
@[go_sem] theorem tyS50 : tySize Try.prog 50 = some 1 := by rfl
@[go_sem] theorem tyB50 : tyBytes Try.prog 50 = some 8 := by rfl
@[go_sem] theorem tyG50 : tyAgg Try.prog 50 = some false := by rfl
@[go_sem] theorem tyZ50 : tyZero Try.prog 50 = some (.raw (.nilFunc)) := by rfl
@[go_sem] theorem tyE50 : tyElem Try.prog 50 = none := by rfl
@[go_sem] theorem tyS51 : tySize Try.prog 51 = some 1 := by rfl
@[go_sem] theorem tyB51 : tyBytes Try.prog 51 = some 8 := by rfl
@[go_sem] theorem tyG51 : tyAgg Try.prog 51 = some false := by rfl
@[go_sem] theorem tyZ51 : tyZero Try.prog 51 = some (.raw (.nilFunc)) := by rfl
@[go_sem] theorem tyE51 : tyElem Try.prog 51 = none := by rfl
@[go_sem] theorem tyS52 : tySize Try.prog 52 = some 1 := by rfl
@[go_sem] theorem tyB52 : tyBytes Try.prog 52 = some 8 := by rfl
@[go_sem] theorem tyG52 : tyAgg Try.prog 52 = some false := by rfl
@[go_sem] theorem tyZ52 : tyZero Try.prog 52 = some (.raw (.nilFunc)) := by rfl
@[go_sem] theorem tyE52 : tyElem Try.prog 52 = none := by rfl
@[go_sem] theorem tyS53 : tySize Try.prog 53 = some 1 := by rfl
@[go_sem] theorem tyB53 : tyBytes Try.prog 53 = some 8 := by rfl
@[go_sem] theorem tyG53 : tyAgg Try.prog 53 = some false := by rfl
@[go_sem] theorem tyZ53 : tyZero Try.prog 53 = some (.raw (.nilFunc)) := by rfl
@[go_sem] theorem tyE53 : tyElem Try.prog 53 = none := by rfl
@[go_sem] theorem tyS54 : tySize Try.prog 54 = some 1 := by rfl
@[go_sem] theorem tyB54 : tyBytes Try.prog 54 = some 8 := by rfl
@[go_sem] theorem tyG54 : tyAgg Try.prog 54 = some false := by rfl
@[go_sem] theorem tyZ54 : tyZero Try.prog 54 = some (.raw (.nilFunc)) := by rfl
@[go_sem] theorem tyE54 : tyElem Try.prog 54 = none := by rfl
@[go_sem] theorem tyS55 : tySize Try.prog 55 = some 1 := by rfl
@[go_sem] theorem tyB55 : tyBytes Try.prog 55 = some 8 := by rfl
@[go_sem] theorem tyG55 : tyAgg Try.prog 55 = some false := by rfl
@[go_sem] theorem tyZ55 : tyZero Try.prog 55 = some (.raw (.nilFunc)) := by rfl
@[go_sem] theorem tyE55 : tyElem Try.prog 55 = none := by rfl
@[go_sem] theorem tyS56 : tySize Try.prog 56 = some 1 := by rfl
@[go_sem] theorem tyB56 : tyBytes Try.prog 56 = some 8 := by rfl
@[go_sem] theorem tyG56 : tyAgg Try.prog 56 = some false := by rfl
@[go_sem] theorem tyZ56 : tyZero Try.prog 56 = some (.raw (.nilFunc)) := by rfl
@[go_sem] theorem tyE56 : tyElem Try.prog 56 = none := by rfl
@[go_sem] theorem tyS57 : tySize Try.prog 57 = some 1 := by rfl
@[go_sem] theorem tyB57 : tyBytes Try.prog 57 = some 8 := by rfl
@[go_sem] theorem tyG57 : tyAgg Try.prog 57 = some false := by rfl
@[go_sem] theorem tyZ57 : tyZero Try.prog 57 = some (.raw (.nilFunc)) := by rfl
@[go_sem] theorem tyE57 : tyElem Try.prog 57 = none := by rfl
@[go_sem] theorem tyS58 : tySize Try.prog 58 = some 1 := by rfl
@[go_sem] theorem tyB58 : tyBytes Try.prog 58 = some 8 := by rfl
@[go_sem] theorem tyG58 : tyAgg Try.prog 58 = some false := by rfl
@[go_sem] theorem tyZ58 : tyZero Try.prog 58 = some (.raw (.nilFunc)) := by rfl
@[go_sem] theorem tyE58 : tyElem Try.prog 58 = none := by rfl
@[go_sem] theorem tyS59 : tySize Try.prog 59 = some 1 := by rfl
@[go_sem] theorem tyB59 : tyBytes Try.prog 59 = some 8 := by rfl
@[go_sem] theorem tyG59 : tyAgg Try.prog 59 = some false := by rfl
@[go_sem] theorem tyZ59 : tyZero Try.prog 59 = some (.raw (.nilFunc)) := by rfl
@[go_sem] theorem tyE59 : tyElem Try.prog 59 = none := by rfl
@[go_sem] theorem tyS60 : tySize Try.prog 60 = some 1 := by rfl
@[go_sem] theorem tyB60 : tyBytes Try.prog 60 = some 8 := by rfl
@[go_sem] theorem tyG60 : tyAgg Try.prog 60 = some false := by rfl
@[go_sem] theorem tyZ60 : tyZero Try.prog 60 = some (.raw (.nilFunc)) := by rfl
@[go_sem] theorem tyE60 : tyElem Try.prog 60 = none := by rfl
@[go_sem] theorem tyS62 : tySize Try.prog 62 = some 1 := by rfl
@[go_sem] theorem tyB62 : tyBytes Try.prog 62 = some 8 := by rfl
@[go_sem] theorem tyG62 : tyAgg Try.prog 62 = some false := by rfl
@[go_sem] theorem tyZ62 : tyZero Try.prog 62 = some (.raw (.nilFunc)) := by rfl
@[go_sem] theorem tyE62 : tyElem Try.prog 62 = none := by rfl
@[go_sem] theorem tyS64 : tySize Try.prog 64 = some 1 := by rfl
@[go_sem] theorem tyB64 : tyBytes Try.prog 64 = some 8 := by rfl
@[go_sem] theorem tyG64 : tyAgg Try.prog 64 = some false := by rfl
@[go_sem] theorem tyZ64 : tyZero Try.prog 64 = some (.raw (.nilFunc)) := by rfl
@[go_sem] theorem tyE64 : tyElem Try.prog 64 = none := by rfl
@[go_sem] theorem tyS65 : tySize Try.prog 65 = some 1 := by rfl
@[go_sem] theorem tyB65 : tyBytes Try.prog 65 = some 8 := by rfl
@[go_sem] theorem tyG65 : tyAgg Try.prog 65 = some false := by rfl
@[go_sem] theorem tyZ65 : tyZero Try.prog 65 = some (.raw (.nilFunc)) := by rfl
@[go_sem] theorem tyE65 : tyElem Try.prog 65 = none := by rfl
@[go_sem] theorem tyS66 : tySize Try.prog 66 = some 1 := by rfl
@[go_sem] theorem tyB66 : tyBytes Try.prog 66 = some 8 := by rfl
@[go_sem] theorem tyG66 : tyAgg Try.prog 66 = some false := by rfl
@[go_sem] theorem tyZ66 : tyZero Try.prog 66 = some (.raw (.nilFunc)) := by rfl
@[go_sem] theorem tyE66 : tyElem Try.prog 66 = none := by rfl
@[go_sem] theorem tyS67 : tySize Try.prog 67 = some 1 := by rfl
@[go_sem] theorem tyB67 : tyBytes Try.prog 67 = some 8 := by rfl
@[go_sem] theorem tyG67 : tyAgg Try.prog 67 = some false := by rfl
@[go_sem] theorem tyZ67 : tyZero Try.prog 67 = some (.raw (.nilFunc)) := by rfl
@[go_sem] theorem tyE67 : tyElem Try.prog 67 = none := by rfl
@[go_sem] theorem tyS68 : tySize Try.prog 68 = some 1 := by rfl
@[go_sem] theorem tyB68 : tyBytes Try.prog 68 = some 8 := by rfl
@[go_sem] theorem tyG68 : tyAgg Try.prog 68 = some false := by rfl
@[go_sem] theorem tyZ68 : tyZero Try.prog 68 = some (.raw (.nilFunc)) := by rfl
@[go_sem] theorem tyE68 : tyElem Try.prog 68 = none := by rfl
@[go_sem] theorem tyS69 : tySize Try.prog 69 = some 1 := by rfl
@[go_sem] theorem tyB69 : tyBytes Try.prog 69 = some 8 := by rfl
@[go_sem] theorem tyG69 : tyAgg Try.prog 69 = some false := by rfl
@[go_sem] theorem tyZ69 : tyZero Try.prog 69 = some (.raw (.int .u64 0)) := by rfl
@[go_sem] theorem tyE69 : tyElem Try.prog 69 = none := by rfl
@[go_sem] theorem tyU69 : Try.prog.underlying 69 = some (.int .u64) := by rfl
@[go_sem] theorem tyS70 : tySize Try.prog 70 = some 1 := by rfl
@[go_sem] theorem tyB70 : tyBytes Try.prog 70 = some 8 := by rfl
@[go_sem] theorem tyG70 : tyAgg Try.prog 70 = some false := by rfl
@[go_sem] theorem tyZ70 : tyZero Try.prog 70 = some (.raw (.nilFunc)) := by rfl
@[go_sem] theorem tyE70 : tyElem Try.prog 70 = none := by rfl
@[go_sem] theorem tyS72 : tySize Try.prog 72 = some 1 := by rfl
@[go_sem] theorem tyB72 : tyBytes Try.prog 72 = some 8 := by rfl
@[go_sem] theorem tyG72 : tyAgg Try.prog 72 = some false := by rfl
@[go_sem] theorem tyZ72 : tyZero Try.prog 72 = some (.raw (.nilFunc)) := by rfl
@[go_sem] theorem tyE72 : tyElem Try.prog 72 = none := by rfl
@[go_sem] theorem tyS73 : tySize Try.prog 73 = some 1 := by rfl
@[go_sem] theorem tyB73 : tyBytes Try.prog 73 = some 8 := by rfl
@[go_sem] theorem tyG73 : tyAgg Try.prog 73 = some false := by rfl
@[go_sem] theorem tyZ73 : tyZero Try.prog 73 = some (.raw (.int .u64 0)) := by rfl
@[go_sem] theorem tyE73 : tyElem Try.prog 73 = none := by rfl
@[go_sem] theorem tyU73 : Try.prog.underlying 73 = some (.int .u64) := by rfl
@[go_sem] theorem tyS74 : tySize Try.prog 74 = some 1 := by rfl
@[go_sem] theorem tyB74 : tyBytes Try.prog 74 = some 4 := by rfl
@[go_sem] theorem tyG74 : tyAgg Try.prog 74 = some false := by rfl
@[go_sem] theorem tyZ74 : tyZero Try.prog 74 = some (.raw (.int .u32 0)) := by rfl
@[go_sem] theorem tyE74 : tyElem Try.prog 74 = none := by rfl
@[go_sem] theorem tyU74 : Try.prog.underlying 74 = some (.int .u32) := by rfl
@[go_sem] theorem tyS75 : tySize Try.prog 75 = some 1 := by rfl
@[go_sem] theorem tyB75 : tyBytes Try.prog 75 = some 8 := by rfl
@[go_sem] theorem tyG75 : tyAgg Try.prog 75 = some false := by rfl
@[go_sem] theorem tyZ75 : tyZero Try.prog 75 = some (.raw (.nilFunc)) := by rfl
@[go_sem] theorem tyE75 : tyElem Try.prog 75 = none := by rfl
@[go_sem] theorem tyS76 : tySize Try.prog 76 = some 1 := by rfl
@[go_sem] theorem tyB76 : tyBytes Try.prog 76 = some 8 := by rfl
@[go_sem] theorem tyG76 : tyAgg Try.prog 76 = some false := by rfl
@[go_sem] theorem tyZ76 : tyZero Try.prog 76 = some (.raw (.nilFunc)) := by rfl
@[go_sem] theorem tyE76 : tyElem Try.prog 76 = none := by rfl
@[go_sem] theorem tyS77 : tySize Try.prog 77 = some 1 := by rfl
@[go_sem] theorem tyB77 : tyBytes Try.prog 77 = some 8 := by rfl
@[go_sem] theorem tyG77 : tyAgg Try.prog 77 = some false := by rfl
@[go_sem] theorem tyZ77 : tyZero Try.prog 77 = some (.raw (.nilFunc)) := by rfl
@[go_sem] theorem tyE77 : tyElem Try.prog 77 = none := by rfl
@[go_sem] theorem tyS79 : tySize Try.prog 79 = some 1 := by rfl
@[go_sem] theorem tyB79 : tyBytes Try.prog 79 = some 8 := by rfl
@[go_sem] theorem tyG79 : tyAgg Try.prog 79 = some false := by rfl
@[go_sem] theorem tyZ79 : tyZero Try.prog 79 = some (.raw (.nilFunc)) := by rfl
@[go_sem] theorem tyE79 : tyElem Try.prog 79 = none := by rfl
@[go_sem] theorem tyS81 : tySize Try.prog 81 = some 1 := by rfl
@[go_sem] theorem tyB81 : tyBytes Try.prog 81 = some 8 := by rfl
@[go_sem] theorem tyG81 : tyAgg Try.prog 81 = some false := by rfl
@[go_sem] theorem tyZ81 : tyZero Try.prog 81 = some (.raw (.nilFunc)) := by rfl
@[go_sem] theorem tyE81 : tyElem Try.prog 81 = none := by rfl
@[go_sem] theorem tyS83 : tySize Try.prog 83 = some 1 := by rfl
@[go_sem] theorem tyB83 : tyBytes Try.prog 83 = some 8 := by rfl
@[go_sem] theorem tyG83 : tyAgg Try.prog 83 = some false := by rfl
@[go_sem] theorem tyZ83 : tyZero Try.prog 83 = some (.raw (.nilFunc)) := by rfl
@[go_sem] theorem tyE83 : tyElem Try.prog 83 = none := by rfl
@[go_sem] theorem tyS84 : tySize Try.prog 84 = some 1 := by rfl
@[go_sem] theorem tyB84 : tyBytes Try.prog 84 = some 24 := by rfl
@[go_sem] theorem tyG84 : tyAgg Try.prog 84 = some false := by rfl
@[go_sem] theorem tyZ84 : tyZero Try.prog 84 = some (.raw (.slice none 0 0)) := by rfl
@[go_sem] theorem tyE84 : tyElem Try.prog 84 = some (27, 2) := by rfl
@[go_sem] theorem tyU84 : Try.prog.underlying 84 = some (.slice 27) := by rfl
@[go_sem] theorem tyS85 : tySize Try.prog 85 = some 1 := by rfl
@[go_sem] theorem tyB85 : tyBytes Try.prog 85 = some 8 := by rfl
@[go_sem] theorem tyG85 : tyAgg Try.prog 85 = some false := by rfl
@[go_sem] theorem tyZ85 : tyZero Try.prog 85 = some (.raw (.nilFunc)) := by rfl
@[go_sem] theorem tyE85 : tyElem Try.prog 85 = none := by rfl
@[go_sem] theorem tyS87 : tySize Try.prog 87 = some 1 := by rfl
@[go_sem] theorem tyB87 : tyBytes Try.prog 87 = some 8 := by rfl
@[go_sem] theorem tyG87 : tyAgg Try.prog 87 = some false := by rfl
@[go_sem] theorem tyZ87 : tyZero Try.prog 87 = some (.raw (.nilFunc)) := by rfl
@[go_sem] theorem tyE87 : tyElem Try.prog 87 = none := by rfl
@[go_sem] theorem tyS88 : tySize Try.prog 88 = some 1 := by rfl
@[go_sem] theorem tyB88 : tyBytes Try.prog 88 = some 8 := by rfl
@[go_sem] theorem tyG88 : tyAgg Try.prog 88 = some false := by rfl
@[go_sem] theorem tyZ88 : tyZero Try.prog 88 = some (.raw (.nilFunc)) := by rfl
@[go_sem] theorem tyE88 : tyElem Try.prog 88 = none := by rfl
@[go_sem] theorem tyS89 : tySize Try.prog 89 = some 1 := by rfl
@[go_sem] theorem tyB89 : tyBytes Try.prog 89 = some 8 := by rfl
@[go_sem] theorem tyG89 : tyAgg Try.prog 89 = some false := by rfl
@[go_sem] theorem tyZ89 : tyZero Try.prog 89 = some (.raw (.nilFunc)) := by rfl
@[go_sem] theorem tyE89 : tyElem Try.prog 89 = none := by rfl
@[go_sem] theorem tyS90 : tySize Try.prog 90 = some 1 := by rfl
@[go_sem] theorem tyB90 : tyBytes Try.prog 90 = some 8 := by rfl
@[go_sem] theorem tyG90 : tyAgg Try.prog 90 = some false := by rfl
@[go_sem] theorem tyZ90 : tyZero Try.prog 90 = some (.raw (.nilFunc)) := by rfl
@[go_sem] theorem tyE90 : tyElem Try.prog 90 = none := by rfl
@[go_sem] theorem tyS91 : tySize Try.prog 91 = some 1 := by rfl
@[go_sem] theorem tyB91 : tyBytes Try.prog 91 = some 8 := by rfl
@[go_sem] theorem tyG91 : tyAgg Try.prog 91 = some false := by rfl
@[go_sem] theorem tyZ91 : tyZero Try.prog 91 = some (.raw (.nilFunc)) := by rfl
@[go_sem] theorem tyE91 : tyElem Try.prog 91 = none := by rfl
@[go_sem] theorem tyS93 : tySize Try.prog 93 = some 1 := by rfl
@[go_sem] theorem tyB93 : tyBytes Try.prog 93 = some 8 := by rfl
@[go_sem] theorem tyG93 : tyAgg Try.prog 93 = some false := by rfl
@[go_sem] theorem tyZ93 : tyZero Try.prog 93 = some (.raw (.nilFunc)) := by rfl
@[go_sem] theorem tyE93 : tyElem Try.prog 93 = none := by rfl
@[go_sem] theorem tyS94 : tySize Try.prog 94 = some 1 := by rfl
@[go_sem] theorem tyB94 : tyBytes Try.prog 94 = some 8 := by rfl
@[go_sem] theorem tyG94 : tyAgg Try.prog 94 = some false := by rfl
@[go_sem] theorem tyZ94 : tyZero Try.prog 94 = some (.raw (.nilFunc)) := by rfl
@[go_sem] theorem tyE94 : tyElem Try.prog 94 = none := by rfl
@[go_sem] theorem tyS95 : tySize Try.prog 95 = some 1 := by rfl
@[go_sem] theorem tyB95 : tyBytes Try.prog 95 = some 8 := by rfl
@[go_sem] theorem tyG95 : tyAgg Try.prog 95 = some false := by rfl
@[go_sem] theorem tyZ95 : tyZero Try.prog 95 = some (.raw (.nilFunc)) := by rfl
@[go_sem] theorem tyE95 : tyElem Try.prog 95 = none := by rfl
@[go_sem] theorem tyS96 : tySize Try.prog 96 = some 1 := by rfl
@[go_sem] theorem tyB96 : tyBytes Try.prog 96 = some 8 := by rfl
@[go_sem] theorem tyG96 : tyAgg Try.prog 96 = some false := by rfl
@[go_sem] theorem tyZ96 : tyZero Try.prog 96 = some (.raw (.nilFunc)) := by rfl
@[go_sem] theorem tyE96 : tyElem Try.prog 96 = none := by rfl
@[go_sem] theorem tyS97 : tySize Try.prog 97 = some 1 := by rfl
@[go_sem] theorem tyB97 : tyBytes Try.prog 97 = some 8 := by rfl
@[go_sem] theorem tyG97 : tyAgg Try.prog 97 = some false := by rfl
@[go_sem] theorem tyZ97 : tyZero Try.prog 97 = some (.raw (.nilFunc)) := by rfl
@[go_sem] theorem tyE97 : tyElem Try.prog 97 = none := by rfl
@[go_sem] theorem tyS98 : tySize Try.prog 98 = some 1 := by rfl
@[go_sem] theorem tyB98 : tyBytes Try.prog 98 = some 8 := by rfl
@[go_sem] theorem tyG98 : tyAgg Try.prog 98 = some false := by rfl
@[go_sem] theorem tyZ98 : tyZero Try.prog 98 = some (.raw (.nilFunc)) := by rfl
@[go_sem] theorem tyE98 : tyElem Try.prog 98 = none := by rfl
@[go_sem] theorem tyS99 : tySize Try.prog 99 = some 1 := by rfl
@[go_sem] theorem tyB99 : tyBytes Try.prog 99 = some 8 := by rfl
@[go_sem] theorem tyG99 : tyAgg Try.prog 99 = some false := by rfl
@[go_sem] theorem tyZ99 : tyZero Try.prog 99 = some (.raw (.nilFunc)) := by rfl
@[go_sem] theorem tyE99 : tyElem Try.prog 99 = none := by rfl
@[go_sem] theorem tyS100 : tySize Try.prog 100 = some 1 := by rfl
@[go_sem] theorem tyB100 : tyBytes Try.prog 100 = some 8 := by rfl
@[go_sem] theorem tyG100 : tyAgg Try.prog 100 = some false := by rfl
@[go_sem] theorem tyZ100 : tyZero Try.prog 100 = some (.raw (.nilFunc)) := by rfl
@[go_sem] theorem tyE100 : tyElem Try.prog 100 = none := by rfl
@[go_sem] theorem tyS101 : tySize Try.prog 101 = some 1 := by rfl
@[go_sem] theorem tyB101 : tyBytes Try.prog 101 = some 8 := by rfl
@[go_sem] theorem tyG101 : tyAgg Try.prog 101 = some false := by rfl
@[go_sem] theorem tyZ101 : tyZero Try.prog 101 = some (.raw (.nilFunc)) := by rfl
@[go_sem] theorem tyE101 : tyElem Try.prog 101 = none := by rfl
@[go_sem] theorem tyS102 : tySize Try.prog 102 = some 1 := by rfl
@[go_sem] theorem tyB102 : tyBytes Try.prog 102 = some 8 := by rfl
@[go_sem] theorem tyG102 : tyAgg Try.prog 102 = some false := by rfl
@[go_sem] theorem tyZ102 : tyZero Try.prog 102 = some (.raw (.nilFunc)) := by rfl
@[go_sem] theorem tyE102 : tyElem Try.prog 102 = none := by rfl
@[go_sem] theorem tyS103 : tySize Try.prog 103 = some 4 := by rfl
@[go_sem] theorem tyB103 : tyBytes Try.prog 103 = some 40 := by rfl
@[go_sem] theorem tyG103 : tyAgg Try.prog 103 = some true := by rfl
@[go_sem] theorem tyZ103 : tyZero Try.prog 103 = some (.agg [.raw (.pointer none), .raw (.pointer none), .raw (.pointer none), .raw (.string ⟨#[]⟩)]) := by rfl
@[go_sem] theorem tyE103 : tyElem Try.prog 103 = none := by rfl
@[go_sem] theorem tyF103_0 : tyField Try.prog 103 0 = some (0, 1, false) := by rfl
@[go_sem] theorem tyP103_0 : tyPlace Try.prog 103 0 = some (0, 1) := by rfl
@[go_sem] theorem tyF103_1 : tyField Try.prog 103 1 = some (1, 1, false) := by rfl
@[go_sem] theorem tyP103_1 : tyPlace Try.prog 103 1 = some (1, 1) := by rfl
@[go_sem] theorem tyF103_2 : tyField Try.prog 103 2 = some (2, 1, false) := by rfl
@[go_sem] theorem tyP103_2 : tyPlace Try.prog 103 2 = some (2, 1) := by rfl
@[go_sem] theorem tyF103_3 : tyField Try.prog 103 3 = some (3, 1, false) := by rfl
@[go_sem] theorem tyP103_3 : tyPlace Try.prog 103 3 = some (3, 1) := by rfl
@[go_sem] theorem tyK103 : tyKids Try.prog 103 = some (.agg [.raw (.pointer none), .raw (.pointer none), .raw (.pointer none), .raw (.string ⟨#[]⟩)]) := by rfl
@[go_sem] theorem tyS104 : tySize Try.prog 104 = some 4 := by rfl
@[go_sem] theorem tyB104 : tyBytes Try.prog 104 = some 40 := by rfl
@[go_sem] theorem tyG104 : tyAgg Try.prog 104 = some true := by rfl
@[go_sem] theorem tyZ104 : tyZero Try.prog 104 = some (.agg [.raw (.pointer none), .raw (.pointer none), .raw (.pointer none), .raw (.string ⟨#[]⟩)]) := by rfl
@[go_sem] theorem tyE104 : tyElem Try.prog 104 = none := by rfl
@[go_sem] theorem tyF104_0 : tyField Try.prog 104 0 = some (0, 1, false) := by rfl
@[go_sem] theorem tyP104_0 : tyPlace Try.prog 104 0 = some (0, 1) := by rfl
@[go_sem] theorem tyF104_1 : tyField Try.prog 104 1 = some (1, 1, false) := by rfl
@[go_sem] theorem tyP104_1 : tyPlace Try.prog 104 1 = some (1, 1) := by rfl
@[go_sem] theorem tyF104_2 : tyField Try.prog 104 2 = some (2, 1, false) := by rfl
@[go_sem] theorem tyP104_2 : tyPlace Try.prog 104 2 = some (2, 1) := by rfl
@[go_sem] theorem tyF104_3 : tyField Try.prog 104 3 = some (3, 1, false) := by rfl
@[go_sem] theorem tyP104_3 : tyPlace Try.prog 104 3 = some (3, 1) := by rfl
@[go_sem] theorem tyK104 : tyKids Try.prog 104 = some (.agg [.raw (.pointer none), .raw (.pointer none), .raw (.pointer none), .raw (.string ⟨#[]⟩)]) := by rfl
@[go_sem] theorem tyS105 : tySize Try.prog 105 = some 0 := by rfl
@[go_sem] theorem tyB105 : tyBytes Try.prog 105 = some 0 := by rfl
@[go_sem] theorem tyG105 : tyAgg Try.prog 105 = some true := by rfl
@[go_sem] theorem tyZ105 : tyZero Try.prog 105 = some (.agg []) := by rfl
@[go_sem] theorem tyE105 : tyElem Try.prog 105 = none := by rfl
@[go_sem] theorem tyA105 : tyArr Try.prog 105 = some (0, 16, 1) := by rfl
@[go_sem] theorem tyK105 : tyKids Try.prog 105 = some (.agg []) := by rfl
@[go_sem] theorem tyU105 : Try.prog.underlying 105 = some (.array 0 16) := by rfl
@[go_sem] theorem tyS106 : tySize Try.prog 106 = some 0 := by rfl
@[go_sem] theorem tyB106 : tyBytes Try.prog 106 = some 0 := by rfl
@[go_sem] theorem tyG106 : tyAgg Try.prog 106 = some true := by rfl
@[go_sem] theorem tyZ106 : tyZero Try.prog 106 = some (.agg []) := by rfl
@[go_sem] theorem tyE106 : tyElem Try.prog 106 = none := by rfl
@[go_sem] theorem tyF106_0 : tyField Try.prog 106 0 = some (0, 0, true) := by rfl
@[go_sem] theorem tyP106_0 : tyPlace Try.prog 106 0 = some (0, 0) := by rfl
@[go_sem] theorem tyK106 : tyKids Try.prog 106 = some (.agg [.agg []]) := by rfl
@[go_sem] theorem tyS107 : tySize Try.prog 107 = some 0 := by rfl
@[go_sem] theorem tyB107 : tyBytes Try.prog 107 = some 0 := by rfl
@[go_sem] theorem tyG107 : tyAgg Try.prog 107 = some true := by rfl
@[go_sem] theorem tyZ107 : tyZero Try.prog 107 = some (.agg []) := by rfl
@[go_sem] theorem tyE107 : tyElem Try.prog 107 = none := by rfl
@[go_sem] theorem tyF107_0 : tyField Try.prog 107 0 = some (0, 0, true) := by rfl
@[go_sem] theorem tyP107_0 : tyPlace Try.prog 107 0 = some (0, 0) := by rfl
@[go_sem] theorem tyK107 : tyKids Try.prog 107 = some (.agg [.agg []]) := by rfl
@[go_sem] theorem tyS108 : tySize Try.prog 108 = some 1 := by rfl
@[go_sem] theorem tyB108 : tyBytes Try.prog 108 = some 8 := by rfl
@[go_sem] theorem tyG108 : tyAgg Try.prog 108 = some false := by rfl
@[go_sem] theorem tyZ108 : tyZero Try.prog 108 = some (.raw (.nilFunc)) := by rfl
@[go_sem] theorem tyE108 : tyElem Try.prog 108 = none := by rfl
@[go_sem] theorem tyS109 : tySize Try.prog 109 = some 1 := by rfl
@[go_sem] theorem tyB109 : tyBytes Try.prog 109 = some 1 := by rfl
@[go_sem] theorem tyG109 : tyAgg Try.prog 109 = some false := by rfl
@[go_sem] theorem tyZ109 : tyZero Try.prog 109 = some (.raw (.int .u8 0)) := by rfl
@[go_sem] theorem tyE109 : tyElem Try.prog 109 = none := by rfl
@[go_sem] theorem tyU109 : Try.prog.underlying 109 = some (.int .u8) := by rfl
@[go_sem] theorem tyS110 : tySize Try.prog 110 = some 1 := by rfl
@[go_sem] theorem tyB110 : tyBytes Try.prog 110 = some 1 := by rfl
@[go_sem] theorem tyG110 : tyAgg Try.prog 110 = some false := by rfl
@[go_sem] theorem tyZ110 : tyZero Try.prog 110 = some (.raw (.int .u8 0)) := by rfl
@[go_sem] theorem tyE110 : tyElem Try.prog 110 = none := by rfl
@[go_sem] theorem tyU110 : Try.prog.underlying 110 = some (.int .u8) := by rfl
@[go_sem] theorem tyS111 : tySize Try.prog 111 = some 1 := by rfl
@[go_sem] theorem tyB111 : tyBytes Try.prog 111 = some 8 := by rfl
@[go_sem] theorem tyG111 : tyAgg Try.prog 111 = some false := by rfl
@[go_sem] theorem tyZ111 : tyZero Try.prog 111 = some (.raw (.nilFunc)) := by rfl
@[go_sem] theorem tyE111 : tyElem Try.prog 111 = none := by rfl
@[go_sem] theorem tyS112 : tySize Try.prog 112 = some 1 := by rfl
@[go_sem] theorem tyB112 : tyBytes Try.prog 112 = some 8 := by rfl
@[go_sem] theorem tyG112 : tyAgg Try.prog 112 = some false := by rfl
@[go_sem] theorem tyZ112 : tyZero Try.prog 112 = some (.raw (.pointer none)) := by rfl
@[go_sem] theorem tyE112 : tyElem Try.prog 112 = none := by rfl
@[go_sem] theorem tyS113 : tySize Try.prog 113 = some 1 := by rfl
@[go_sem] theorem tyB113 : tyBytes Try.prog 113 = some 4 := by rfl
@[go_sem] theorem tyG113 : tyAgg Try.prog 113 = some false := by rfl
@[go_sem] theorem tyZ113 : tyZero Try.prog 113 = some (.raw (.int .i32 0)) := by rfl
@[go_sem] theorem tyE113 : tyElem Try.prog 113 = none := by rfl
@[go_sem] theorem tyU113 : Try.prog.underlying 113 = some (.int .i32) := by rfl
@[go_sem] theorem tyS114 : tySize Try.prog 114 = some 1 := by rfl
@[go_sem] theorem tyB114 : tyBytes Try.prog 114 = some 4 := by rfl
@[go_sem] theorem tyG114 : tyAgg Try.prog 114 = some false := by rfl
@[go_sem] theorem tyZ114 : tyZero Try.prog 114 = some (.raw (.int .i32 0)) := by rfl
@[go_sem] theorem tyE114 : tyElem Try.prog 114 = none := by rfl
@[go_sem] theorem tyU114 : Try.prog.underlying 114 = some (.int .i32) := by rfl
@[go_sem] theorem tyS115 : tySize Try.prog 115 = some 11 := by rfl
@[go_sem] theorem tyB115 : tyBytes Try.prog 115 = some 48 := by rfl
@[go_sem] theorem tyG115 : tyAgg Try.prog 115 = some true := by rfl
@[go_sem] theorem tyZ115 : tyZero Try.prog 115 = some (.agg [.raw (.int .u64 0), .raw (.int .u64 0), .raw (.int .u32 0), .raw (.int .u8 0), .raw (.int .u8 0), .raw (.int .u8 0), .raw (.int .u8 0), .raw (.nilFunc), .raw (.pointer none), .raw (.int .i32 0), .raw (.int .i32 0)]) := by rfl
@[go_sem] theorem tyE115 : tyElem Try.prog 115 = none := by rfl
@[go_sem] theorem tyF115_0 : tyField Try.prog 115 0 = some (0, 1, false) := by rfl
@[go_sem] theorem tyP115_0 : tyPlace Try.prog 115 0 = some (0, 1) := by rfl
@[go_sem] theorem tyF115_1 : tyField Try.prog 115 1 = some (1, 1, false) := by rfl
@[go_sem] theorem tyP115_1 : tyPlace Try.prog 115 1 = some (1, 1) := by rfl
@[go_sem] theorem tyF115_2 : tyField Try.prog 115 2 = some (2, 1, false) := by rfl
@[go_sem] theorem tyP115_2 : tyPlace Try.prog 115 2 = some (2, 1) := by rfl
@[go_sem] theorem tyF115_3 : tyField Try.prog 115 3 = some (3, 1, false) := by rfl
@[go_sem] theorem tyP115_3 : tyPlace Try.prog 115 3 = some (3, 1) := by rfl
@[go_sem] theorem tyF115_4 : tyField Try.prog 115 4 = some (4, 1, false) := by rfl
@[go_sem] theorem tyP115_4 : tyPlace Try.prog 115 4 = some (4, 1) := by rfl
@[go_sem] theorem tyF115_5 : tyField Try.prog 115 5 = some (5, 1, false) := by rfl
@[go_sem] theorem tyP115_5 : tyPlace Try.prog 115 5 = some (5, 1) := by rfl
@[go_sem] theorem tyF115_6 : tyField Try.prog 115 6 = some (6, 1, false) := by rfl
@[go_sem] theorem tyP115_6 : tyPlace Try.prog 115 6 = some (6, 1) := by rfl
@[go_sem] theorem tyF115_7 : tyField Try.prog 115 7 = some (7, 1, false) := by rfl
@[go_sem] theorem tyP115_7 : tyPlace Try.prog 115 7 = some (7, 1) := by rfl
@[go_sem] theorem tyF115_8 : tyField Try.prog 115 8 = some (8, 1, false) := by rfl
@[go_sem] theorem tyP115_8 : tyPlace Try.prog 115 8 = some (8, 1) := by rfl
@[go_sem] theorem tyF115_9 : tyField Try.prog 115 9 = some (9, 1, false) := by rfl
@[go_sem] theorem tyP115_9 : tyPlace Try.prog 115 9 = some (9, 1) := by rfl
@[go_sem] theorem tyF115_10 : tyField Try.prog 115 10 = some (10, 1, false) := by rfl
@[go_sem] theorem tyP115_10 : tyPlace Try.prog 115 10 = some (10, 1) := by rfl
@[go_sem] theorem tyK115 : tyKids Try.prog 115 = some (.agg [.raw (.int .u64 0), .raw (.int .u64 0), .raw (.int .u32 0), .raw (.int .u8 0), .raw (.int .u8 0), .raw (.int .u8 0), .raw (.int .u8 0), .raw (.nilFunc), .raw (.pointer none), .raw (.int .i32 0), .raw (.int .i32 0)]) := by rfl
@[go_sem] theorem tyS116 : tySize Try.prog 116 = some 11 := by rfl
@[go_sem] theorem tyB116 : tyBytes Try.prog 116 = some 48 := by rfl
@[go_sem] theorem tyG116 : tyAgg Try.prog 116 = some true := by rfl
@[go_sem] theorem tyZ116 : tyZero Try.prog 116 = some (.agg [.raw (.int .u64 0), .raw (.int .u64 0), .raw (.int .u32 0), .raw (.int .u8 0), .raw (.int .u8 0), .raw (.int .u8 0), .raw (.int .u8 0), .raw (.nilFunc), .raw (.pointer none), .raw (.int .i32 0), .raw (.int .i32 0)]) := by rfl
@[go_sem] theorem tyE116 : tyElem Try.prog 116 = none := by rfl
@[go_sem] theorem tyF116_0 : tyField Try.prog 116 0 = some (0, 1, false) := by rfl
@[go_sem] theorem tyP116_0 : tyPlace Try.prog 116 0 = some (0, 1) := by rfl
@[go_sem] theorem tyF116_1 : tyField Try.prog 116 1 = some (1, 1, false) := by rfl
@[go_sem] theorem tyP116_1 : tyPlace Try.prog 116 1 = some (1, 1) := by rfl
@[go_sem] theorem tyF116_2 : tyField Try.prog 116 2 = some (2, 1, false) := by rfl
@[go_sem] theorem tyP116_2 : tyPlace Try.prog 116 2 = some (2, 1) := by rfl
@[go_sem] theorem tyF116_3 : tyField Try.prog 116 3 = some (3, 1, false) := by rfl
@[go_sem] theorem tyP116_3 : tyPlace Try.prog 116 3 = some (3, 1) := by rfl
@[go_sem] theorem tyF116_4 : tyField Try.prog 116 4 = some (4, 1, false) := by rfl
@[go_sem] theorem tyP116_4 : tyPlace Try.prog 116 4 = some (4, 1) := by rfl
@[go_sem] theorem tyF116_5 : tyField Try.prog 116 5 = some (5, 1, false) := by rfl
@[go_sem] theorem tyP116_5 : tyPlace Try.prog 116 5 = some (5, 1) := by rfl
@[go_sem] theorem tyF116_6 : tyField Try.prog 116 6 = some (6, 1, false) := by rfl
@[go_sem] theorem tyP116_6 : tyPlace Try.prog 116 6 = some (6, 1) := by rfl
@[go_sem] theorem tyF116_7 : tyField Try.prog 116 7 = some (7, 1, false) := by rfl
@[go_sem] theorem tyP116_7 : tyPlace Try.prog 116 7 = some (7, 1) := by rfl
@[go_sem] theorem tyF116_8 : tyField Try.prog 116 8 = some (8, 1, false) := by rfl
@[go_sem] theorem tyP116_8 : tyPlace Try.prog 116 8 = some (8, 1) := by rfl
@[go_sem] theorem tyF116_9 : tyField Try.prog 116 9 = some (9, 1, false) := by rfl
@[go_sem] theorem tyP116_9 : tyPlace Try.prog 116 9 = some (9, 1) := by rfl
@[go_sem] theorem tyF116_10 : tyField Try.prog 116 10 = some (10, 1, false) := by rfl
@[go_sem] theorem tyP116_10 : tyPlace Try.prog 116 10 = some (10, 1) := by rfl
@[go_sem] theorem tyK116 : tyKids Try.prog 116 = some (.agg [.raw (.int .u64 0), .raw (.int .u64 0), .raw (.int .u32 0), .raw (.int .u8 0), .raw (.int .u8 0), .raw (.int .u8 0), .raw (.int .u8 0), .raw (.nilFunc), .raw (.pointer none), .raw (.int .i32 0), .raw (.int .i32 0)]) := by rfl
end Go.Proofs.Ytilkleibnciloaa

/- The rules by which the abstract run is worked out. No program in sight. -/
namespace Go.Proofs.Ytilkleibnciloaa
set_option linter.unusedSimpArgs false
set_option linter.unusedVariables false
open Go.RowKit

/-- A mark by which simp leaves alone what stands behind it. -/
def Tick : Prop := True
@[go_sem] theorem tick_eq : Tick = True := propext ⟨fun _ => trivial, fun _ => trivial⟩
/-- Ways on; what follows is left alone until the way is known. -/
def optC {α : Type} (o : Option α) (k : α → Prop) : Prop := match o with
  | some x => k x
  | none => False
def optE {α : Type} (o : Option α) (k : α → Prop) (e : Prop) : Prop := match o with
  | some x => k x
  | none => e
def guardC (v : V) (want : Bool) (x y : Prop) : Prop := match v with
  | .raw (.bool b) => (b = want → x) ∧ (b = !want → y)
  | .raw (.tuple _) => y
  | _ => False
def condC (v : V) (x y : Prop) : Prop := match v with
  | .raw (.bool t) => (t = true → x) ∧ (t = false → y)
  | _ => False
def iteC (c : Prop) (x y : Prop) : Prop := (c → x) ∧ (¬ c → y)
section
variable {α : Type}
@[congr] theorem optC_congr {o o' : Option α} {k : α → Prop} (h : o = o') {tk : Prop} (_ : Tick = tk) : optC o k = optC o' k := by rw [h]
@[congr] theorem optE_congr {o o' : Option α} {k : α → Prop} {e : Prop} (h : o = o') {tk : Prop} (_ : Tick = tk) : optE o k e = optE o' k e := by rw [h]
@[congr] theorem guardC_congr {v v' : V} {w : Bool} {x y : Prop} (h : v = v') {tk : Prop} (_ : Tick = tk) : guardC v w x y = guardC v' w x y := by rw [h]
@[congr] theorem condC_congr {v v' : V} {x y : Prop} (h : v = v') {tk : Prop} (_ : Tick = tk) : condC v x y = condC v' x y := by rw [h]
@[go_sem ↓, go_sem] theorem optC_some (x : α) (k : α → Prop) : optC (some x) k = k x := rfl
@[go_sem ↓, go_sem] theorem optC_none (k : α → Prop) : optC none k = False := rfl
@[go_sem ↓, go_sem] theorem optE_some (x : α) (k : α → Prop) (e : Prop) : optE (some x) k e = k x := rfl
@[go_sem ↓, go_sem] theorem optE_none (k : α → Prop) (e : Prop) : optE none k e = e := rfl
@[go_sem ↓ high, go_sem high] theorem guardC_tt (x y : Prop) : guardC (.raw (.bool true)) true x y = x := by simp [guardC]
@[go_sem ↓ high, go_sem high] theorem guardC_tf (x y : Prop) : guardC (.raw (.bool true)) false x y = y := by simp [guardC]
@[go_sem ↓ high, go_sem high] theorem guardC_ft (x y : Prop) : guardC (.raw (.bool false)) true x y = y := by simp [guardC]
@[go_sem ↓ high, go_sem high] theorem guardC_ff (x y : Prop) : guardC (.raw (.bool false)) false x y = x := by simp [guardC]
@[go_sem ↓ high, go_sem high] theorem guardC_undef (w : Bool) (x y : Prop) : guardC (.raw undef) w x y = y := rfl
@[go_sem ↓ high, go_sem high] theorem guardC_un (vs : Array Value) (w : Bool) (x y : Prop) : guardC (.raw (.tuple vs)) w x y = y := rfl
@[go_sem low] theorem guardC_t (b : Bool) (x y : Prop) : guardC (.raw (.bool b)) true x y = ((b = true → x) ∧ (b = false → y)) := rfl
@[go_sem low] theorem guardC_f (b : Bool) (x y : Prop) : guardC (.raw (.bool b)) false x y = ((b = false → x) ∧ (b = true → y)) := rfl
@[go_sem ↓ high, go_sem high] theorem condC_t (x y : Prop) : condC (.raw (.bool true)) x y = x := by simp [condC]
@[go_sem ↓ high, go_sem high] theorem condC_f (x y : Prop) : condC (.raw (.bool false)) x y = y := by simp [condC]
@[go_sem low] theorem condC_b (b : Bool) (x y : Prop) : condC (.raw (.bool b)) x y = ((b = true → x) ∧ (b = false → y)) := rfl
end

section
variable {P : Program} {Γ : Tab} {Δ : Gab} {H : Hp} {n : Nat} {K : Kt} {k : V → Prop} {t : TypeId}
/- code -/
@[congr] theorem AWp_congr {c : Code} {Q : Exit → St → Prop} {σ σ' : St} (h : σ = σ') {tk : Prop} (_ : Tick = tk) : AWp P c Q σ = AWp P c Q σ' := by rw [h]
@[congr] theorem vcOps_congr {ops : Array Oper} {os os' : List Oper} {K : St → Prop} {σ σ' : St} (h : σ = σ') (ho : os = os') {tk : Prop} (_ : Tick = tk) : vcOps P Γ Δ ops os σ K = vcOps P Γ Δ ops os' σ' K := by rw [h, ho]
@[congr] theorem vcTr_congr {ops : Array Oper} {os os' : List Oper} {tr tr' : List Foot} {K : St → List Foot → Prop} {σ σ' : St} (h : σ = σ') (h' : tr = tr') (ho : os = os') {tk : Prop} (_ : Tick = tk) : vcTr P Γ Δ ops os σ tr K = vcTr P Γ Δ ops os' σ' tr' K := by rw [h, h', ho]
@[go_sem ↓, go_sem] theorem ev_vc_skip {Q : Exit → St → Prop} {σ : St} : vc P Γ Δ .skip Q σ = Q .normal σ := rfl
@[go_sem ↓, go_sem] theorem ev_vc_text {id : Nat} {ops : Array Oper} {Q : Exit → St → Prop} {σ : St} : vc P Γ Δ (.region id ops false) Q σ = vcOps P Γ Δ ops ops.toList σ (Q .normal) := by simp [vc]
@[go_sem ↓, go_sem] theorem ev_vc_open {id : Nat} {ops : Array Oper} {Q : Exit → St → Prop} {σ : St} : vc P Γ Δ (.region id ops true) Q σ = vcTr P Γ Δ ops ops.toList σ [] fun σ' tr => chk ops tr = true ∧ Q .normal σ' := by simp [vc, vcDraw]
@[go_sem ↓, go_sem] theorem ev_vc_seq {x y : Code} {Q : Exit → St → Prop} {σ : St} : vc P Γ Δ (.seq x y) Q σ = vc P Γ Δ x (thenE (vc P Γ Δ y Q) Q) σ := rfl
@[go_sem ↓, go_sem] theorem ev_vc_cond {c : Operand} {x y : Code} {Q : Exit → St → Prop} {σ : St} : vc P Γ Δ (.cond c x y) Q σ = condC (σ.ev c) (vc P Γ Δ x Q σ) (vc P Γ Δ y Q σ) := rfl
@[go_sem ↓, go_sem] theorem ev_vc_block {id : Nat} {c : Code} {Q : Exit → St → Prop} {σ : St} : vc P Γ Δ (.block id c) Q σ = vc P Γ Δ c (blkE id Q) σ := rfl
@[go_sem ↓, go_sem] theorem ev_vc_exit {id : Nat} {Q : Exit → St → Prop} {σ : St} : vc P Γ Δ (.exit id) Q σ = Q (.exit id) σ := rfl
@[go_sem ↓, go_sem] theorem ev_vc_ret {Q : Exit → St → Prop} {σ : St} : vc P Γ Δ .ret Q σ = Q .ret σ := rfl
@[go_sem ↓, go_sem] theorem ev_vc_loop {c : Code} {Q : Exit → St → Prop} {σ : St} : vc P Γ Δ (.loop c) Q σ = AWp P (.loop c) Q σ := rfl
@[go_sem ↓, go_sem] theorem ev_then_n {N : St → Prop} {Q : Exit → St → Prop} {σ : St} : thenE N Q .normal σ = N σ := rfl
@[go_sem ↓, go_sem] theorem ev_then_r {N : St → Prop} {Q : Exit → St → Prop} {σ : St} : thenE N Q .ret σ = Q .ret σ := rfl
@[go_sem ↓, go_sem] theorem ev_then_e {N : St → Prop} {Q : Exit → St → Prop} {σ : St} {i : Nat} : thenE N Q (.exit i) σ = Q (.exit i) σ := rfl
@[go_sem ↓, go_sem] theorem ev_blk_n {i : Nat} {Q : Exit → St → Prop} {σ : St} : blkE i Q .normal σ = Q .normal σ := rfl
@[go_sem ↓, go_sem] theorem ev_blk_r {i : Nat} {Q : Exit → St → Prop} {σ : St} : blkE i Q .ret σ = Q .ret σ := rfl
@[go_sem ↓, go_sem] theorem ev_blk_e {i j : Nat} {Q : Exit → St → Prop} {σ : St} : blkE i Q (.exit j) σ = if j = i then Q .normal σ else Q (.exit j) σ := rfl
@[go_sem ↓, go_sem] theorem ev_vc_scope {c : Code} {Q : Exit → St → Prop} {σ : St} : vc P Γ Δ (.scope c) Q σ = vc P Γ Δ c (scopeE Q) σ := rfl
@[go_sem ↓, go_sem] theorem ev_vc_label {l : Nat} {Q : Exit → St → Prop} {σ : St} : vc P Γ Δ (.label l) Q σ = Q .normal σ := rfl
@[go_sem ↓, go_sem] theorem ev_sc_n {Q : Exit → St → Prop} {σ : St} : scopeE Q .normal σ = Q .normal σ := rfl
@[go_sem ↓, go_sem] theorem ev_sc_r {Q : Exit → St → Prop} {σ : St} : scopeE Q .ret σ = Q .ret σ := rfl
@[go_sem ↓, go_sem] theorem ev_sc_e {i : Nat} {Q : Exit → St → Prop} {σ : St} : scopeE Q (.exit i) σ = Q (.exit i) σ := rfl
@[go_sem ↓, go_sem] theorem ev_ret_n {l : List ResultVar} {r : V} {σ : St} : retE P l r .normal σ = aResL P σ l fun xs => argsP σ.H xs fun ys _ => Outs ys r := rfl
@[go_sem ↓, go_sem] theorem ev_ret_r {l : List ResultVar} {r : V} {σ : St} : retE P l r .ret σ = aResL P σ l fun xs => argsP σ.H xs fun ys _ => Outs ys r := rfl
@[go_sem ↓, go_sem] theorem ev_loop_n {X : Type} {I : X → St} {μ : X → Nat} {x : X} {Q : Exit → St → Prop} {σ : St} : loopE I μ x Q .normal σ = ∃ x', Wk σ (I x') ∧ μ x' < μ x := rfl
@[go_sem ↓, go_sem] theorem ev_loop_r {X : Type} {I : X → St} {μ : X → Nat} {x : X} {Q : Exit → St → Prop} {σ : St} : loopE I μ x Q .ret σ = Q .ret σ := rfl
@[go_sem ↓, go_sem] theorem ev_loop_e {X : Type} {I : X → St} {μ : X → Nat} {x : X} {Q : Exit → St → Prop} {σ : St} {i : Nat} : loopE I μ x Q (.exit i) σ = Q (.exit i) σ := rfl
@[congr] theorem arg1_congr {H H' : Hp} {x x' : V} {k : V → List Nat → Prop} (h : x = x') (h' : H = H') {tk : Prop} (_ : Tick = tk) : arg1 H x k = arg1 H' x' k := by rw [h, h']
@[congr] theorem argA_congr {H H' : Hp} {x x' : V} {k : V → List Nat → Prop} (h : x = x') (h' : H = H') {tk : Prop} (_ : Tick = tk) : argA H x k = argA H' x' k := by rw [h, h']
@[congr] theorem argsP_congr {H H' : Hp} {x x' : List V} {k : List V → List Nat → Prop} (h : x = x') (h' : H = H') {tk : Prop} (_ : Tick = tk) : argsP H x k = argsP H' x' k := by rw [h, h']
@[congr] theorem argsA_congr {H H' : Hp} {x x' : List V} {k : List V → List Nat → Prop} (h : x = x') (h' : H = H') {tk : Prop} (_ : Tick = tk) : argsA H x k = argsA H' x' k := by rw [h, h']
@[congr] theorem vc_congr {c : Code} {Q : Exit → St → Prop} {σ σ' : St} (h : σ = σ') {tk : Prop} (_ : Tick = tk) : vc P Γ Δ c Q σ = vc P Γ Δ c Q σ' := by rw [h]
@[congr] theorem Wk_congr {σ σ' τ : St} (h : σ = σ') {tk : Prop} (_ : Tick = tk) : Wk σ τ = Wk σ' τ := by rw [h]
@[congr] theorem aResL_congr {σ σ' : St} {l l' : List ResultVar} {k : List V → Prop} (h : σ = σ') (hl : l = l') {tk : Prop} (_ : Tick = tk) : aResL P σ l k = aResL P σ' l' k := by rw [h, hl]
@[go_sem ↓, go_sem] theorem ev_res_nil {σ : St} {k : List V → Prop} : aResL P σ [] k = k [] := rfl
@[go_sem ↓, go_sem] theorem ev_res_tmp {σ : St} {t : Nat} {r : List ResultVar} {k : List V → Prop} : aResL P σ (.tmp t :: r) k = aResL P σ r fun ys => k (σ.s t :: ys) := rfl
@[go_sem ↓, go_sem] theorem ev_res_cell {σ : St} {p : Nat} {ty : TypeId} {r : List ResultVar} {k : List V → Prop} : aResL P σ (.cell p ty :: r) k = aLoad P σ.H ty (σ.s p) fun z _ _ => aResL P σ r fun ys => k (z :: ys) := rfl
/- statements -/
@[go_sem ↓, go_sem] theorem ev_ops_nil {ops : Array Oper} {σ : St} {K : St → Prop} : vcOps P Γ Δ ops [] σ K = K σ := rfl
@[go_sem ↓, go_sem] theorem ev_ops_cons {ops : Array Oper} {o : Oper} {os : List Oper} {σ : St} {K : St → Prop} : vcOps P Γ Δ ops (o :: os) σ K = (dstOk o σ.N ∧ vcOp P Γ Δ ops o σ fun v ws _ => vcOps P Γ Δ ops os (σ.put o.dst v ws) K) := rfl
@[go_sem ↓, go_sem] theorem ev_tr_nil {ops : Array Oper} {σ : St} {tr : List Foot} {K : St → List Foot → Prop} : vcTr P Γ Δ ops [] σ tr K = K σ tr.reverse := rfl
@[go_sem ↓, go_sem] theorem ev_tr_cons {ops : Array Oper} {o : Oper} {os : List Oper} {σ : St} {tr : List Foot} {K : St → List Foot → Prop} : vcTr P Γ Δ ops (o :: os) σ tr K = (dstOk o σ.N ∧ vcOp P Γ Δ ops o σ fun v ws rs => vcTr P Γ Δ ops os (σ.put o.dst v ws) ((rs, ws.map (·.1)) :: tr) K) := rfl
@[go_sem ↓, go_sem] theorem ev_op_plain {ops : Array Oper} {dst : Option Tmp} {op : Op} {ty : TypeId} {pos : String} {after : Array Edge} {σ : St} : vcOp P Γ Δ ops ⟨dst, op, ty, pos, after, none⟩ σ K = aop P Γ Δ op σ.ev σ.H σ.n K := rfl
theorem vcOp_guard_eq {ops : Array Oper} {dst : Option Tmp} {op : Op} {ty : TypeId} {pos : String} {after : Array Edge} {σ : St} {j : Nat} {want : Bool} {d : Nat} (h : (ops[j]?).bind (·.dst) = some d) :
    vcOp P Γ Δ ops ⟨dst, op, ty, pos, after, some (j, want)⟩ σ K = (d < σ.N ∧ guardC (σ.s d) want (aop P Γ Δ op σ.ev σ.H σ.n K) (K (.raw undef) [] [])) := by
  unfold vcOp
  simp only [h]
  rfl
@[go_sem ↓, go_sem] theorem ev_op_guard {ops : Array Oper} {dst : Option Tmp} {op : Op} {ty : TypeId} {pos : String} {after : Array Edge} {σ : St} {j : Nat} {want : Bool} :
    vcOp P Γ Δ ops ⟨dst, op, ty, pos, after, some (j, want)⟩ σ K = optE ((ops[j]?).bind (·.dst)) (fun d => d < σ.N ∧ guardC (σ.s d) want (aop P Γ Δ op σ.ev σ.H σ.n K) (K (.raw undef) [] [])) (K (.raw undef) [] []) := by
  cases h : (ops[j]?).bind (·.dst) with
  | none => unfold vcOp; simp only [h]; rfl
  | some d => exact vcOp_guard_eq h
/- operations -/
attribute [go_sem ↓, go_sem] aop
theorem aCall_val {f : Operand} {args : Array Operand} {ts : Array TypeId} {e : Operand → V} : aCall P Γ Δ ⟨.value f, args, ts⟩ e H n K = (match e f with
    | .clo (.func g) first caps => aCallF Γ Δ g (first ++ args.toList.map e ++ caps) H n K
    | _ => False) := rfl
@[go_sem ↓, go_sem] theorem ev_call_func {g : FuncId} {args : Array Operand} {ts : Array TypeId} {σ : St} : aCall P Γ Δ ⟨.value (.func g), args, ts⟩ σ.ev H n K = aCallF Γ Δ g (args.toList.map σ.ev) H n K := by
  simp [aCall, St.ev]
/-- A call of a function value. -/
def cloC (Γ : Tab) (Δ : Gab) (v : V) (args : List V) (H : Hp) (n : Nat) (K : Kt) : Prop := match v with
  | .clo (.func g) first caps => aCallF Γ Δ g (first ++ args ++ caps) H n K
  | _ => False
@[congr] theorem cloC_congr {v v' : V} {args args' : List V} (h : v = v') (h' : args = args') {tk : Prop} (_ : Tick = tk) : cloC Γ Δ v args H n K = cloC Γ Δ v' args' H n K := by rw [h, h']
@[go_sem ↓, go_sem] theorem ev_clo {g : FuncId} {first caps args : List V} : cloC Γ Δ (.clo (.func g) first caps) args H n K = aCallF Γ Δ g (first ++ args ++ caps) H n K := rfl
@[go_sem ↓, go_sem] theorem ev_call_tmp {p : Nat} {args : Array Operand} {ts : Array TypeId} {σ : St} : aCall P Γ Δ ⟨.value (.tmp p), args, ts⟩ σ.ev H n K = cloC Γ Δ (σ.s p) (args.toList.map σ.ev) H n K := rfl
@[go_sem ↓, go_sem] theorem ev_call_builtin {b : Builtin} {args : Array Operand} {ts : Array TypeId} {e : Operand → V} : aCall P Γ Δ ⟨.builtin b, args, ts⟩ e H n K = aBuiltin P b ts.toList (args.toList.map e) H n K := rfl
@[congr] theorem aBuiltin_congr {b : Builtin} {ts ts' : List TypeId} {args args' : List V} (h : ts = ts') (h' : args = args') {tk : Prop} (_ : Tick = tk) : aBuiltin P b ts args H n K = aBuiltin P b ts' args' H n K := by rw [h, h']
@[go_sem ↓, go_sem] theorem ev_b_len {x : V} : aBuiltin P .len [t] [x] H n K = aLen P t x fun z => K z [] [] := rfl
@[go_sem ↓, go_sem] theorem ev_b_min {t' : TypeId} {x y : V} : aBuiltin P .min [t, t'] [x, y] H n K = aMin x y fun z => K z [] [] := rfl
@[go_sem ↓, go_sem] theorem ev_b_max {t' : TypeId} {x y : V} : aBuiltin P .max [t, t'] [x, y] H n K = aMax x y fun z => K z [] [] := rfl
@[go_sem ↓, go_sem] theorem ev_b_append {t' : TypeId} {x y : V} : aBuiltin P .append [t, t'] [x, y] H n K = aAppend P t t' H n x y K := rfl
@[go_sem ↓, go_sem] theorem ev_b_copy {t' : TypeId} {x y : V} : aBuiltin P .copy [t, t'] [x, y] H n K = aCopy P t H x y K := rfl
/- values -/
@[congr] theorem aPick_congr {c c' x x' y y' : V} (h : c = c') (h' : x = x') (h'' : y = y') {tk : Prop} (_ : Tick = tk) : aPick c x y k = aPick c' x' y' k := by rw [h, h', h'']
@[go_sem ↓ high, go_sem high] theorem ev_pick_t {x y : V} : aPick (.raw (.bool true)) x y k = k x := by
  unfold aPick
  simp only
  split
  · rfl
  · simp
@[go_sem ↓ high, go_sem high] theorem ev_pick_f {x y : V} : aPick (.raw (.bool false)) x y k = k y := by
  unfold aPick
  simp only
  split
  · rfl
  · simp
@[go_sem low] theorem ev_pick_b {b p q : Bool} : aPick (.raw (.bool b)) (.raw (.bool p)) (.raw (.bool q)) k = k (.raw (.bool (bif b then p else q))) := rfl
@[go_sem ↓, go_sem] theorem ev_alloc : aAlloc P t n K = optC (tyZero P t) fun z => z.good = true ∧ K (.ptr n z.wid 0 0) [(n, some ⟨t, z.wid, [z]⟩)] [] := by unfold aAlloc; cases tyZero P t <;> rfl
@[congr] theorem aBox_congr {x x' : V} (h : x = x') {tk : Prop} (_ : Tick = tk) : aBox t x n K = aBox t x' n K := by rw [h]
@[go_sem ↓, go_sem] theorem ev_box {x : V} : aBox t x n K = (x.good = true ∧ K (.ptr n x.wid 0 0) [(n, some ⟨t, x.wid, [x]⟩)] []) := rfl
@[congr] theorem aFieldAddr_congr {p p' : V} {f : Nat} (h : p = p') {tk : Prop} (_ : Tick = tk) : aFieldAddr P t p f k = aFieldAddr P t p' f k := by rw [h]
@[go_sem ↓, go_sem] theorem ev_fa_ptr {b e i off f : Nat} : aFieldAddr P t (.ptr b e i off) f k = optC (tyField P t f) fun q => q.2.1 ≠ 0 ∧ k (.ptr b e i (off + q.1)) := by
  unfold aFieldAddr optC; cases tyField P t f <;> rfl
@[go_sem ↓, go_sem] theorem ev_fa_pel {x : V} {f : Nat} : aFieldAddr P t (.pel x) f k = optC (tyField P t f) fun q => q.2.1 ≠ 0 ∧ (if q.2.2 = true then q.1 + q.2.1 ≤ x.wid ∧ k (.pel (x.sub q.1 q.2.1)) else q.2.1 = 1 ∧ optC x.atoms[q.1]? fun y => k (.pel y)) := by
  unfold aFieldAddr
  rcases tyField P t f with _ | ⟨fo, s, g⟩
  · rfl
  · simp only [optC]
    cases x.atoms[fo]? <;> rfl
@[congr] theorem aField_congr {p p' : V} {f : Nat} (h : p = p') {tk : Prop} (_ : Tick = tk) : aField P t p f k = aField P t p' f k := by rw [h]
@[go_sem ↓, go_sem] theorem ev_field {x : V} {f : Nat} : aField P t x f k = optC (tyField P t f) fun q => x.isAgg = true ∧ (if q.2.2 = true then q.1 + q.2.1 ≤ x.wid ∧ k (x.sub q.1 q.2.1) else optC x.atoms[q.1]? fun y => okStore y = true ∧ k y) := by
  unfold aField
  rcases tyField P t f with _ | ⟨fo, s, g⟩
  · rfl
  · simp only [optC]
    cases x.atoms[fo]? <;> rfl
@[congr] theorem aIndexAddr_congr {p p' ix ix' : V} (h : p = p') (h' : ix = ix') {tk : Prop} (_ : Tick = tk) : aIndexAddr P t p ix k = aIndexAddr P t p' ix' k := by rw [h, h']
@[go_sem ↓, go_sem] theorem ev_ix_sl {b e o m : Nat} {kk : IntKind} {i : Int} : aIndexAddr P t (.sl b e o m) (.raw (.int kk i)) k = optC (tyElem P t) fun q => e = q.2 ∧ (0 ≤ i ∧ i < m) ∧ k (.ptr b e (o + i.toNat) 0) := by
  unfold aIndexAddr optC
  simp only
  cases tyElem P t with
  | none => cases tyArr P t <;> rfl
  | some q => simp [and_assoc]
@[go_sem ↓, go_sem] theorem ev_ix_lst {l : List V} {kk : IntKind} {i : Int} : aIndexAddr P t (.lst l) (.raw (.int kk i)) k = optC (tyElem P t) fun q => (0 ≤ i ∧ i < l.length) ∧ optC l[i.toNat]? fun y => y.wid = q.2 ∧ k (.pel y) := by
  unfold aIndexAddr optC
  simp only
  cases tyElem P t with
  | none => cases tyArr P t <;> rfl
  | some q => simp only [and_assoc]; cases l[i.toNat]? <;> rfl
@[go_sem ↓, go_sem] theorem ev_ix_ptr {b e j off : Nat} {kk : IntKind} {i : Int} : aIndexAddr P t (.ptr b e j off) (.raw (.int kk i)) k = optE (tyElem P t) (fun _ => False) (optC (tyArr P t) fun q => (0 ≤ i ∧ i < q.1) ∧ k (.ptr b e j (off + i.toNat * q.2.2))) := by
  unfold aIndexAddr optC optE
  simp only
  cases tyElem P t with
  | none => cases tyArr P t with
    | none => rfl
    | some q => simp only [and_assoc]
  | some q => rfl
@[congr] theorem aLoad_congr {p p' : V} (h : p = p') {tk : Prop} (_ : Tick = tk) : aLoad P H t p K = aLoad P H t p' K := by rw [h]
@[go_sem ↓, go_sem] theorem ev_load_ptr {b e i off : Nat} : aLoad P H t (.ptr b e i off) K = optC (H b) fun x => x.e = e ∧ optC x.l[i]? fun y => optC (ldV P t y off) fun z => K z [] [b] := by
  unfold aLoad optC
  simp only
  cases H b with
  | none => rfl
  | some x =>
    simp only
    cases x.l[i]? with
    | none => rfl
    | some y => simp only; cases ldV P t y off <;> rfl
@[go_sem ↓, go_sem] theorem ev_load_pel {x : V} : aLoad P H t (.pel x) K = optC (ldV P t x 0) fun z => K z [] [] := by
  unfold aLoad optC
  simp only
  cases ldV P t x 0 <;> rfl
@[congr] theorem aStore_congr {p p' x x' : V} (h : p = p') (h' : x = x') {tk : Prop} (_ : Tick = tk) : aStore P H t p x K = aStore P H t p' x' K := by rw [h, h']
@[go_sem ↓, go_sem] theorem ev_store {b e i off : Nat} {x : V} : aStore P H t (.ptr b e i off) x K = optC (H b) fun y => y.e = e ∧ optC y.l[i]? fun z => tySize P t = some x.wid ∧ x.good = true ∧ off + x.wid ≤ z.wid ∧ K (.raw undef) [(b, some ⟨y.t, y.e, y.l.set i (z.put off x)⟩)] [b] := by
  unfold aStore optC
  simp only
  cases H b with
  | none => rfl
  | some y => simp only; cases y.l[i]? <;> rfl
@[congr] theorem aBin_congr {op : BinOp} {x x' y y' : V} (h : x = x') (h' : y = y') {tk : Prop} (_ : Tick = tk) : aBin P op t x y k = aBin P op t x' y' k := by rw [h, h']
def binI (op : BinOp) (kd : IntKind) (a : Int) (kd' : IntKind) (b : Int) (K : V → Prop) : Prop :=
  match op with
  | .shl => 0 ≤ b ∧ b < kd.bits ∧ K (.raw (.int kd (kd.wrap (a * 2 ^ b.toNat))))
  | .shr => 0 ≤ b ∧ b < kd.bits ∧ K (.raw (.int kd (a / 2 ^ b.toNat)))
  | op => kd = kd' ∧ aArith op kd a b K
def binB (P : Program) (op : BinOp) (t : TypeId) (a b : Bool) (K : V → Prop) : Prop :=
  match op with
  | .eql => P.underlying t = some .bool ∧ K (.raw (.bool (a == b)))
  | .neq => P.underlying t = some .bool ∧ K (.raw (.bool (a != b)))
  | _ => False
@[go_sem] theorem tmod_nat (n : Nat) (b : Int) : Int.tmod (n : Int) b = (n : Int) % b := Int.tmod_eq_emod_of_nonneg (by omega)
attribute [go_sem ↓, go_sem] aArith aStr binI binB
@[go_sem ↓, go_sem] theorem ev_bin_int {op : BinOp} {kd kd' : IntKind} {a b : Int} : aBin P op t (.raw (.int kd a)) (.raw (.int kd' b)) k = binI op kd a kd' b k := by cases op <;> rfl
@[go_sem ↓, go_sem] theorem ev_bin_nil_lst {op : BinOp} {x : V} {l : List V} : aBin P op t (.lst (x :: l)) (.raw (.slice none 0 0)) k = nilB P op t false k := rfl
@[go_sem ↓, go_sem] theorem ev_bin_nil_sl {op : BinOp} {b e o n : Nat} : aBin P op t (.sl b e o n) (.raw (.slice none 0 0)) k = nilB P op t false k := rfl
@[go_sem ↓, go_sem] theorem ev_bin_nil_nil {op : BinOp} : aBin P op t (.raw (.slice none 0 0)) (.raw (.slice none 0 0)) k = nilB P op t true k := rfl
attribute [go_sem ↓, go_sem] nilB
@[go_sem ↓, go_sem] theorem ev_bin_str {op : BinOp} {a b : ByteArray} : aBin P op t (.raw (.string a)) (.raw (.string b)) k = aStr op a b k := rfl
@[go_sem ↓, go_sem] theorem ev_bin_bool {op : BinOp} {a b : Bool} : aBin P op t (.raw (.bool a)) (.raw (.bool b)) k = binB P op t a b k := by cases op <;> rfl
@[go_sem ↓, go_sem] theorem ev_un_not {b : Bool} : aUn .not (.raw (.bool b)) k = k (.raw (.bool (!b))) := rfl
@[go_sem ↓, go_sem] theorem ev_un_neg {a : Int} : aUn .neg (.raw (.int .i64 a)) k = ((-9223372036854775808 ≤ a ∧ a ≤ 9223372036854775807) ∧ k (.raw (.int .i64 (if a = -9223372036854775808 then a else -a)))) := rfl
@[go_sem ↓, go_sem] theorem ev_un_neg32 {a : Int} : aUn .neg (.raw (.int .u32 a)) k = k (.raw (.int .u32 (IntKind.u32.wrap (0 - a)))) := rfl
@[go_sem ↓, go_sem] theorem ev_un_neg64 {a : Int} : aUn .neg (.raw (.int .u64 a)) k = k (.raw (.int .u64 (IntKind.u64.wrap (0 - a)))) := rfl
@[go_sem ↓, go_sem] theorem ev_un_xor {kd : IntKind} {a : Int} : aUn .xor (.raw (.int kd a)) k = k (.raw (.int kd (bits .xor kd (if kd.signed then -1 else kd.max) a))) := rfl
@[go_sem ↓, go_sem] theorem ev_min {i j : IntKind} {a b : Int} : aMin (.raw (.int i a)) (.raw (.int j b)) k = k (.raw (.int i (if b < a then b else a))) := rfl
@[go_sem ↓, go_sem] theorem ev_max {i j : IntKind} {a b : Int} : aMax (.raw (.int i a)) (.raw (.int j b)) k = k (.raw (.int i (if a < b then b else a))) := rfl
@[go_sem ↓, go_sem] theorem ev_nil_ptr {b e i off : Nat} : aNil (.ptr b e i off) k = k (.ptr b e i off) := rfl
@[go_sem ↓, go_sem] theorem ev_nil_pel {x : V} : aNil (.pel x) k = k (.pel x) := rfl
@[go_sem ↓, go_sem] theorem ev_nil_clo {g : FuncId} {x y : List V} : aNil (.clo (.func g) x y) k = k (.clo (.func g) x y) := rfl
@[congr] theorem aUn_congr {op : UnOp} {x x' : V} (h : x = x') {tk : Prop} (_ : Tick = tk) : aUn op x k = aUn op x' k := by rw [h]
@[congr] theorem aMin_congr {x x' y y' : V} (h : x = x') (h' : y = y') {tk : Prop} (_ : Tick = tk) : aMin x y k = aMin x' y' k := by rw [h, h']
@[congr] theorem aMax_congr {x x' y y' : V} (h : x = x') (h' : y = y') {tk : Prop} (_ : Tick = tk) : aMax x y k = aMax x' y' k := by rw [h, h']
@[congr] theorem aNil_congr {x x' : V} (h : x = x') {tk : Prop} (_ : Tick = tk) : aNil x k = aNil x' k := by rw [h]
@[congr] theorem aMake_congr {x x' y y' : V} (h : x = x') (h' : y = y') {tk : Prop} (_ : Tick = tk) : aMake P t x y n K = aMake P t x' y' n K := by rw [h, h']
@[go_sem ↓, go_sem] theorem ev_make {k1 k2 : IntKind} {l c : Int} : aMake P t (.raw (.int k1 l)) (.raw (.int k2 c)) n K = optC (tyElem P t) fun q => optC (tyZero P q.1) fun z => optC (tyBytes P q.1) fun by_ =>
    z.wid = q.2 ∧ z.good = true ∧ (0 ≤ l ∧ l ≤ c ∧ (by_ : Int) * c ≤ 281474976710656 ∧ c ≤ 9223372036854775807) ∧ K (.sl n q.2 0 l.toNat) [(n, some ⟨q.1, q.2, List.replicate c.toNat z⟩)] [] := by
  unfold aMake optC
  simp only
  cases tyElem P t with
  | none => rfl
  | some q =>
    simp only
    cases tyZero P q.1 with
    | none => rfl
    | some z => cases tyBytes P q.1 <;> rfl
@[congr] theorem aLen_congr {x x' : V} (h : x = x') {tk : Prop} (_ : Tick = tk) : aLen P t x k = aLen P t x' k := by rw [h]
def lenC (d : TypeDesc) (x : V) (k : V → Prop) : Prop :=
  match d, x with
  | .string, .raw (.string s) => k (.raw (.int .i64 (s.size : Nat)))
  | .slice _, .lst l => k (.raw (.int .i64 (l.length : Nat)))
  | .slice _, .sl _ _ _ n => k (.raw (.int .i64 (n : Nat)))
  | .slice _, .raw (.slice none 0 0) => k (.raw (.int .i64 0))
  | .slice _, .emp => k (.raw (.int .i64 0))
  | .array n _, _ => k (.raw (.int .i64 (n : Nat)))
  | _, _ => False
attribute [go_sem ↓, go_sem] lenC
@[go_sem ↓, go_sem] theorem ev_len {x : V} : aLen P t x k = optC (P.underlying t) fun d => lenC d x k := by
  unfold aLen optC
  cases P.underlying t with
  | none => rfl
  | some d =>
    unfold lenC
    simp only
    cases d <;> first | rfl | (cases x <;> first | rfl | (rename_i v; cases v <;> first | rfl | (rename_i A l c; cases A <;> cases l <;> cases c <;> rfl)))
/- slices -/
def optV (x : Option V) : Option V := x
@[congr] theorem aSlice_congr {x x' : V} {lo lo' hi hi' mx mx' : Option V} (h : x = x') (h1 : lo = lo') (h2 : hi = hi') (h3 : mx = mx') {tk : Prop} (_ : Tick = tk) : aSlice P t x lo hi mx k = aSlice P t x' lo' hi' mx' k := by rw [h, h1, h2, h3]
@[go_sem ↓, go_sem] theorem ev_slice_str {s : ByteArray} {lo hi : Option V} : aSlice P t (.raw (.string s)) lo hi none k = (P.underlying t = some .string ∧ optC (bnd lo 0) fun l => optC (bnd hi s.size) fun h => (0 ≤ l ∧ l ≤ h ∧ h ≤ s.size) ∧ k (.raw (.string (s.extract l.toNat h.toNat)))) := by
  unfold aSlice optC
  simp only [Option.isNone_none, true_and]
  cases bnd lo 0 with
  | none => rfl
  | some l => cases bnd hi s.size <;> rfl
def sliceX (P : Program) (t : TypeId) (x : V) (n : Nat) (lo hi mx : Option V) (k : V → Prop) : Prop :=
  optC (tyElem P t) fun q => optC (bnd lo 0) fun l => optC (bnd hi n) fun h => match mx with
    | none => (0 ≤ l ∧ l ≤ h ∧ h ≤ n) ∧ aSliceL q.2 x n l.toNat h.toNat false k
    | some m => optC (bnd (some m) 0) fun m => hi.isSome = true ∧ (0 ≤ l ∧ l ≤ h ∧ h ≤ m ∧ m ≤ n) ∧ aSliceL q.2 x n l.toNat h.toNat (decide (m = l)) k
attribute [go_sem ↓, go_sem] sliceX
theorem slice_eq {x : V} {n : Nat} {lo hi mx : Option V} (hx : ∀ s, x ≠ .raw (.string s)) (hn : slLen x = some n) : aSlice P t x lo hi mx k = sliceX P t x n lo hi mx k := by
  unfold aSlice sliceX optC
  split
  · exact absurd rfl (hx _)
  · rw [hn]
    cases tyElem P t with
    | none => rfl
    | some q =>
      simp only
      cases bnd lo 0 with
      | none => rfl
      | some l =>
        simp only
        cases bnd hi n with
        | none => rfl
        | some h =>
          simp only
          cases mx with
          | none => rfl
          | some m => simp only; cases bnd (some m) 0 <;> rfl
@[go_sem ↓, go_sem] theorem ev_slice_sl {b e o n : Nat} {lo hi mx : Option V} : aSlice P t (.sl b e o n) lo hi mx k = sliceX P t (.sl b e o n) n lo hi mx k := slice_eq (by intro s h; cases h) rfl
@[go_sem ↓, go_sem] theorem ev_slice_lst {l : List V} {lo hi mx : Option V} : aSlice P t (.lst l) lo hi mx k = sliceX P t (.lst l) l.length lo hi mx k := slice_eq (by intro s h; cases h) rfl
@[go_sem ↓, go_sem] theorem ev_slice_nil {lo hi mx : Option V} : aSlice P t (.raw (.slice none 0 0)) lo hi mx k = sliceX P t (.raw (.slice none 0 0)) 0 lo hi mx k := slice_eq (by intro s h; cases h) rfl
@[congr] theorem aSliceL_congr {s n l h : Nat} {x : V} {b b' : Bool} (hb : b = b') {tk : Prop} (_ : Tick = tk) : aSliceL s x n l h b k = aSliceL s x n l h b' k := by rw [hb]
@[go_sem ↓, go_sem] theorem ev_sliceL_t {s n l h : Nat} {x : V} : aSliceL s x n l h true k = k .emp := by unfold aSliceL; rfl
@[go_sem ↓, go_sem] theorem ev_sliceL_sl {s n l h b e o m : Nat} : aSliceL s (.sl b e o m) n l h false k = (e = s ∧ (if l < h ∨ l = 0 then k (.sl b e (o + l) (h - l)) else k (.lst []))) := by unfold aSliceL; rfl
@[go_sem ↓, go_sem] theorem ev_sliceL_lst {s n l h : Nat} {q : List V} : aSliceL s (.lst q) n l h false k = ((l ≠ 0 → ∀ y ∈ q, y.wid = s) ∧ k (.lst ((q.drop l).take (h - l)))) := by unfold aSliceL; rfl
@[go_sem ↓, go_sem] theorem ev_sliceL_nil {s n l h : Nat} : aSliceL s (.raw (.slice none 0 0)) n l h false k = k (.raw (.slice none 0 0)) := by unfold aSliceL; rfl
@[congr] theorem aAppend_congr {t' : TypeId} {x x' y y' : V} (h : x = x') (h' : y = y') {tk : Prop} (_ : Tick = tk) : aAppend P t t' H n x y K = aAppend P t t' H n x' y' K := by rw [h, h']
def appY (e : TypeId) (s : Nat) (y : V) (L : List V) : Prop := allWid L s ∧ allGood L ∧ (∀ k e' o m, y = .sl k e' o m → e' = s)
def appC (P : Program) (t t' : TypeId) (H : Hp) (y : V) (f : TypeId → Nat → Nat → List V → List Nat → Prop) : Prop :=
  optC (tyElem P t) fun q => optC (aElems H y) fun r => optC (tyBytes P q.1) fun by_ => optC (tyZero P q.1) fun z => P.underlying t' = some (.slice q.1) ∧ z.wid = q.2 ∧ 0 < q.2 ∧ allWid r.1 q.2 ∧ allGood r.1 ∧ (∀ k e' o m, y = .sl k e' o m → e' = q.2) ∧ f q.1 q.2 by_ r.1 r.2
attribute [go_sem ↓, go_sem] appC
theorem append_eq {t' : TypeId} {x y : V} : aAppend P t t' H n x y K = appC P t t' H y fun e s by_ L rs => aAppX e s by_ n L rs x H K := by
  unfold aAppend appC optC
  rcases tyElem P t with _ | ⟨e, s⟩
  · rfl
  · rcases aElems H y with _ | ⟨L, rs⟩
    · rfl
    · simp only
      cases tyBytes P e with
      | none => rfl
      | some by_ => cases tyZero P e <;> rfl
attribute [go_sem ↓, go_sem] append_eq
@[congr] theorem aAppX_congr {e : TypeId} {s by_ : Nat} {L L' : List V} {rs : List Nat} {x : V} (h : L = L') {tk : Prop} (_ : Tick = tk) : aAppX e s by_ n L rs x H K = aAppX e s by_ n L' rs x H K := by rw [h]
@[go_sem ↓, go_sem] theorem ev_appX_sl {e : TypeId} {s by_ b e' o m : Nat} {L : List V} {rs : List Nat} : aAppX e s by_ n L rs (.sl b e' o m) H K = (e' = s ∧ o = 0 ∧ optC (H b) fun q => q.t = e ∧ q.e = s ∧ m ≤ q.l.length ∧ (m + L.length ≤ maxLen ∧ (m + L.length) * by_ ≤ 140737488355328) ∧ K (.sl n s 0 (m + L.length)) [(b, none), (n, some ⟨e, s, q.l.take m ++ L⟩)] (b :: rs)) := by
  unfold aAppX optC
  simp only
  cases H b <;> rfl
@[go_sem ↓, go_sem] theorem ev_appX_nil {e : TypeId} {s by_ : Nat} {x : V} {L : List V} {rs : List Nat} : aAppX e s by_ n (x :: L) rs (.raw (.slice none 0 0)) H K = (((x :: L).length ≤ maxLen ∧ (x :: L).length * by_ ≤ 140737488355328) ∧ K (.sl n s 0 (x :: L).length) [(n, some ⟨e, s, x :: L⟩)] rs) := by
  unfold aAppX; simp
@[go_sem ↓, go_sem] theorem ev_appX_emp {e : TypeId} {s by_ : Nat} {x : V} {L : List V} {rs : List Nat} : aAppX e s by_ n (x :: L) rs .emp H K = (((x :: L).length ≤ maxLen ∧ (x :: L).length * by_ ≤ 140737488355328) ∧ K (.sl n s 0 (x :: L).length) [(n, some ⟨e, s, x :: L⟩)] rs) := by
  unfold aAppX; simp
@[go_sem low] theorem ev_appX_nil' {e : TypeId} {s by_ : Nat} {L : List V} {rs : List Nat} : aAppX e s by_ n L rs (.raw (.slice none 0 0)) H K = ((L.length ≤ maxLen ∧ L.length * by_ ≤ 140737488355328) ∧ (L = [] → K (.raw (.slice none 0 0)) [] rs) ∧ (L ≠ [] → K (.sl n s 0 L.length) [(n, some ⟨e, s, L⟩)] rs)) := rfl
@[go_sem low] theorem ev_appX_emp' {e : TypeId} {s by_ : Nat} {L : List V} {rs : List Nat} : aAppX e s by_ n L rs .emp H K = ((L.length ≤ maxLen ∧ L.length * by_ ≤ 140737488355328) ∧ (L = [] → K .emp [] rs) ∧ (L ≠ [] → K (.sl n s 0 L.length) [(n, some ⟨e, s, L⟩)] rs)) := rfl
@[congr] theorem aCopy_congr {x x' y y' : V} (h : x = x') (h' : y = y') {tk : Prop} (_ : Tick = tk) : aCopy P t H x y K = aCopy P t H x' y' K := by rw [h, h']
@[go_sem ↓, go_sem] theorem ev_copy {b e' o m : Nat} {y : V} : aCopy P t H (.sl b e' o m) y K = optC (tyElem P t) fun q => optC (aElems H y) fun r => allWid r.1 q.2 ∧ allGood r.1 ∧ (∀ k e' o m, y = .sl k e' o m → e' = q.2) ∧ e' = q.2 ∧ optC (H b) fun z => z.e = q.2 ∧ o + m ≤ z.l.length ∧ 0 < m ∧
    K (.raw (.int .i64 (min r.1.length m : Nat))) [(b, some ⟨z.t, q.2, z.l.take o ++ r.1.take (min r.1.length m) ++ z.l.drop (o + min r.1.length m)⟩)] (b :: r.2) := by
  unfold aCopy optC
  rcases tyElem P t with _ | ⟨e, s⟩
  · rfl
  · rcases aElems H y with _ | ⟨L, rs⟩
    · rfl
    · simp only
      cases H b <;> rfl
/- structs and literals -/
@[go_sem ↓, go_sem] theorem ev_build {e : Operand → V} {ps : List (Nat × Operand)} : aBuild P t e ps k = optC (tyKids P t) fun z => optC (aFill P t e ps z) fun x => k x.asAgg := by
  unfold aBuild optC
  cases tyKids P t with
  | none => rfl
  | some z => simp only; cases aFill P t e ps z <;> rfl
@[go_sem ↓, go_sem] theorem ev_fill_nil {e : Operand → V} {x : V} : aFill P t e [] x = some x := rfl
@[go_sem ↓, go_sem] theorem ev_fill_cons {e : Operand → V} {x : V} {i : Nat} {p : Operand} {r : List (Nat × Operand)} : aFill P t e ((i, p) :: r) x = (tyPlace P t i).bind fun q => if (e p).good = true ∧ (e p).wid = q.2 ∧ q.1 + q.2 ≤ x.wid then aFill P t e r (x.put q.1 (e p)) else none := by
  rw [aFill]
  cases tyPlace P t i <;> rfl
@[go_sem ↓, go_sem] theorem ev_buildSlice {len : Nat} {e : Operand → V} {ps : List (Nat × Operand)} : aBuildSlice P t len e ps n K = optC (tyElem P t) fun q => optC (tyZero P q.1) fun z => z.wid = q.2 ∧ z.good = true ∧ len * q.2 ≤ 16777216 ∧ optC (aFillL e q.2 len ps (List.replicate len z)) fun l => K (.sl n q.2 0 len) [(n, some ⟨q.1, q.2, l⟩)] [] := by
  unfold aBuildSlice optC
  rcases tyElem P t with _ | ⟨el, s⟩
  · rfl
  · simp only
    cases tyZero P el with
    | none => rfl
    | some z => simp only; cases aFillL e s len ps (List.replicate len z) <;> rfl
attribute [go_sem] aFillL
@[congr] theorem aIndex_congr {p p' ix ix' : V} (h : p = p') (h' : ix = ix') {tk : Prop} (_ : Tick = tk) : aIndex P t p ix k = aIndex P t p' ix' k := by rw [h, h']
@[go_sem ↓, go_sem] theorem ev_index_str {s : ByteArray} {kk : IntKind} {i : Int} : aIndex P t (.raw (.string s)) (.raw (.int kk i)) k = (P.underlying t = some .string ∧ (0 ≤ i ∧ i < s.size) ∧ k (.raw (.int .u8 (byteAt s i.toNat)))) := by
  unfold aIndex; simp [and_assoc]
@[go_sem ↓, go_sem] theorem ev_index_agg {l : List V} {kk : IntKind} {i : Int} : aIndex P t (.agg l) (.raw (.int kk i)) k = optC (tyArr P t) fun q => (0 ≤ i ∧ i < q.1) ∧ optC (ldV P q.2.1 (.agg l) (i.toNat * q.2.2)) fun y => k y := by
  unfold aIndex optC
  rcases tyArr P t with _ | ⟨m, el, s⟩
  · rfl
  · simp only [V.isAgg, true_and, and_assoc]
    cases ldV P el (.agg l) (i.toNat * s) <;> rfl
@[congr] theorem aConv_congr {x x' : V} (h : x = x') {tk : Prop} (_ : Tick = tk) : aConv P t x k = aConv P t x' k := by rw [h]
def convC (d : TypeDesc) (a : Int) (k : V → Prop) : Prop := match d with
  | .int kd => k (.raw (.int kd (cvI kd a)))
  | _ => False
attribute [go_sem ↓, go_sem] convC
@[go_sem ↓, go_sem] theorem ev_conv {kk : IntKind} {a : Int} : aConv P t (.raw (.int kk a)) k = optC (P.underlying t) fun d => convC d a k := by
  unfold aConv optC convC
  cases P.underlying t with
  | none => rfl
  | some d => cases d <;> rfl
@[congr] theorem aConvK_congr {s : TypeId} {H H' : Hp} {x x' : V} (h : x = x') (h' : H = H') {tk : Prop} (_ : Tick = tk) : aConvK P s t H x K = aConvK P s t H' x' K := by rw [h, h']
def convS (P : Program) (s : TypeId) (b : ByteArray) (K : Kt) (d : TypeDesc) : Prop := match d with
  | .string => K (.raw (.string b)) [] []
  | .slice e => P.underlying s = some .string ∧ P.underlying e = some (.int .u8) ∧ K (.lst (V.bytes (sbL b))) [] []
  | _ => False
attribute [go_sem ↓, go_sem] convS
def cvOk (P : Program) (s t : TypeId) : Prop := match P.underlying s, P.underlying t with
  | some (.slice e), some .string => P.underlying e = some (.int .u8)
  | _, _ => False
attribute [go_sem] cvOk
@[go_sem ↓, go_sem] theorem ev_convK_int {s : TypeId} {kk : IntKind} {a : Int} : aConvK P s t H (.raw (.int kk a)) K = aConv P t (.raw (.int kk a)) fun z => K z [] [] := rfl
@[go_sem ↓, go_sem] theorem ev_convK_str {s : TypeId} {b : ByteArray} : aConvK P s t H (.raw (.string b)) K = optC (P.underlying t) fun d => convS P s b K d := by
  unfold aConvK optC convS
  cases P.underlying t with
  | none => rfl
  | some d => cases d <;> rfl
theorem convK_eq {s : TypeId} {x : V} (n1 : ∀ kk a, x ≠ .raw (.int kk a)) (n2 : ∀ b, x ≠ .raw (.string b)) : aConvK P s t H x K = (match P.underlying s, P.underlying t with
    | some (.slice e), some .string => P.underlying e = some (.int .u8) ∧ (match aElems H x with
      | some (L, rs) => (match unB L with
        | some l => (∀ k e' o m, x = .sl k e' o m → e' = 1) ∧ K (.raw (.string (mkB l))) [] rs
        | none => False)
      | none => False)
    | _, _ => False) := by
  unfold aConvK
  split
  · exact absurd rfl (n1 _ _)
  · exact absurd rfl (n2 _)
  · rfl
@[go_sem ↓, go_sem] theorem ev_convK_sl {s : TypeId} {b e o m : Nat} : aConvK P s t H (.sl b e o m) K = optC (aElems H (.sl b e o m)) fun q => optC (unB q.1) fun l => cvOk P s t ∧ e = 1 ∧ K (.raw (.string (mkB l))) [] q.2 := by
  rw [convK_eq (fun _ _ e => V.noConfusion e) (fun _ e => V.noConfusion e)]
  unfold optC cvOk
  apply propext
  constructor
  · intro h
    split at h
    · rename_i e' g1 g2
      obtain ⟨g3, h⟩ := h
      split at h
      · rename_i L rs hel
        split at h
        · rename_i l hl
          simp only [hel, hl]
          exact ⟨g3, h.1 _ _ _ _ rfl, h.2⟩
        · exact h.elim
      · exact h.elim
    · exact h.elim
  · intro h
    split at h
    · rename_i q hq
      split at h
      · rename_i l hl
        obtain ⟨h1, h2, h3⟩ := h
        split at h1
        · rename_i e' g1 g2
          refine ⟨h1, ?_⟩
          simp only [hq, hl]
          refine ⟨fun k' e'' o' m' hh => ?_, h3⟩
          injection hh with _ hh _ _
          rw [← hh]; exact h2
        · exact h1.elim
      · exact h.elim
    · exact h.elim
@[go_sem ↓, go_sem] theorem ev_convK_lst {s : TypeId} {L : List V} : aConvK P s t H (.lst L) K = optC (unB L) fun l => cvOk P s t ∧ K (.raw (.string (mkB l))) [] [] := by
  rw [convK_eq (fun _ _ e => V.noConfusion e) (fun _ e => V.noConfusion e)]
  unfold optC cvOk
  apply propext
  constructor
  · intro h
    split at h
    · rename_i e' g1 g2
      obtain ⟨g3, h⟩ := h
      simp only [aElems] at h
      split at h
      · rename_i l hl
        simp only [hl]
        exact ⟨g3, h.2⟩
      · exact h.elim
    · exact h.elim
  · intro h
    split at h
    · rename_i l hl
      obtain ⟨h1, h3⟩ := h
      split at h1
      · rename_i e' g1 g2
        refine ⟨h1, ?_⟩
        simp only [aElems, hl]
        exact ⟨fun k' e'' o' m' hh => V.noConfusion hh, h3⟩
      · exact h1.elim
    · exact h.elim
attribute [go_sem] unB_bytes
@[congr] theorem aExtract_congr {x x' : V} {i : Nat} (h : x = x') {tk : Prop} (_ : Tick = tk) : aExtract x i k = aExtract x' i k := by rw [h]
def noTupP (y : V) : Prop := ∀ m, y ≠ .tup m
@[go_sem ↓, go_sem] theorem ev_extract {l : List V} {i : Nat} : aExtract (.tup l) i k = optC l[i]? fun y => noTupP y ∧ k y := by
  unfold aExtract optC
  simp only
  cases l[i]? <;> rfl
@[go_sem] theorem noTup_raw (v : Value) : noTupP (.raw v) = True := by simp [noTupP]
@[go_sem] theorem noTup_I (z : Int) : noTupP (.I z) = True := by simp [noTupP]
@[go_sem] theorem noTup_Q (z : Rat) : noTupP (.Q z) = True := by simp [noTupP]
@[go_sem] theorem noTup_lst (l : List V) : noTupP (.lst l) = True := by simp [noTupP]
@[go_sem] theorem noTup_agg (l : List V) : noTupP (.agg l) = True := by simp [noTupP]
@[go_sem] theorem noTup_sl (b e o n : Nat) : noTupP (.sl b e o n) = True := by simp [noTupP]
@[go_sem] theorem noTup_ptr (b e o n : Nat) : noTupP (.ptr b e o n) = True := by simp [noTupP]
/- calls -/
@[congr] theorem aCallF_congr {f : FuncId} {args args' : List V} (h : args = args') {tk : Prop} (_ : Tick = tk) : aCallF Γ Δ f args H n K = aCallF Γ Δ f args' H n K := by rw [h]
@[go_sem ↓, go_sem] theorem ev_callF {f : FuncId} {args : List V} : aCallF Γ Δ f args H n K = optE (Δ f args H n) (fun q => args.all V.noTup = true ∧ q.1 ∧ K q.2.1 q.2.2.1 q.2.2.2) (argsP H args fun ys ids => optC (Γ f ys) fun q => q.1 ∧ K q.2 (if q.2.scalar = true then [] else ids.map fun j => (j, none)) ids) := by
  unfold aCallF optE
  rcases Δ f args H n with _ | ⟨p, r, ws, rs⟩
  · simp only
    congr 1
    funext ys ids
    unfold optC
    rcases Γ f ys with _ | ⟨p, r⟩ <;> rfl
  · rfl
variable {kA : V → List Nat → Prop} {kL : List V → List Nat → Prop}
@[go_sem ↓, go_sem] theorem ev_args_nil : argsP H [] kL = kL [] [] := rfl
@[go_sem ↓, go_sem] theorem ev_args_cons {x : V} {xs : List V} : argsP H (x :: xs) kL = arg1 H x fun y r => argsP H xs fun ys rs => kL (y :: ys) (r ++ rs) := rfl
@[go_sem ↓, go_sem] theorem ev_argsA_nil : argsA H [] kL = kL [] [] := rfl
@[go_sem ↓, go_sem] theorem ev_argsA_cons {x : V} {xs : List V} : argsA H (x :: xs) kL = argA H x fun y r => argsA H xs fun ys rs => kL (y :: ys) (r ++ rs) := rfl
@[go_sem ↓, go_sem] theorem ev_arg_I {z : Int} : arg1 H (.I z) kA = kA (.I z) [] := rfl
@[go_sem ↓, go_sem] theorem ev_arg_Q {z : Rat} : arg1 H (.Q z) kA = kA (.Q z) [] := rfl
@[go_sem ↓, go_sem] theorem ev_arg_agg {l : List V} : arg1 H (.agg l) kA = if (V.agg l).pure = true then kA (.agg l) [] else (V.agg l).good = true ∧ argsA H (V.agg l).atoms fun ys rs => kA (.agg ys) rs := rfl
theorem arg1_atom {x : V} (h : x.isAgg = false) : arg1 H x kA = argA H x kA := by unfold arg1; rw [if_neg (by rw [h]; decide)]
@[go_sem ↓, go_sem] theorem ev_arg_raw {v : Value} : arg1 H (.raw v) kA = argA H (.raw v) kA := rfl
@[go_sem ↓, go_sem] theorem ev_arg_lst {l : List V} : arg1 H (.lst l) kA = argA H (.lst l) kA := rfl
@[go_sem ↓, go_sem] theorem ev_arg_sl {b e o m : Nat} : arg1 H (.sl b e o m) kA = argA H (.sl b e o m) kA := rfl
@[go_sem ↓, go_sem] theorem ev_arg_emp : arg1 H .emp kA = argA H .emp kA := rfl
@[go_sem ↓, go_sem] theorem ev_arg_pel {x : V} : arg1 H (.pel x) kA = argA H (.pel x) kA := rfl
@[go_sem ↓, go_sem] theorem ev_arg_clo {f : Fn} {a b : List V} : arg1 H (.clo f a b) kA = argA H (.clo f a b) kA := rfl
@[go_sem ↓, go_sem] theorem ev_argA_int {kk : IntKind} {i : Int} : argA H (.raw (.int kk i)) kA = kA (.raw (.int kk i)) [] := by simp [argA, V.pure, V.atoms, pureA]
@[go_sem ↓, go_sem] theorem ev_argA_bool {b : Bool} : argA H (.raw (.bool b)) kA = kA (.raw (.bool b)) [] := by simp [argA, V.pure, V.atoms, pureA]
@[go_sem ↓, go_sem] theorem ev_argA_str {b : ByteArray} : argA H (.raw (.string b)) kA = kA (.raw (.string b)) [] := by simp [argA, V.pure, V.atoms, pureA]
@[go_sem ↓, go_sem] theorem ev_argA_nilf : argA H (.raw .nilFunc) kA = kA (.raw .nilFunc) [] := by simp [argA, V.pure, V.atoms, pureA]
@[go_sem ↓, go_sem] theorem ev_argA_nil : argA H (.raw (.slice none 0 0)) kA = kA (.lst []) [] := rfl
@[go_sem ↓, go_sem] theorem ev_argA_emp : argA H .emp kA = kA (.lst []) [] := rfl
@[go_sem ↓, go_sem] theorem ev_argA_lst {l : List V} : argA H (.lst l) kA = kA (.lst l) [] := by simp [argA, V.pure, V.atoms, pureA]
@[go_sem ↓, go_sem] theorem ev_argA_pel {x : V} : argA H (.pel x) kA = kA (.pel x) [] := by simp [argA, V.pure, V.atoms, pureA]
@[go_sem ↓, go_sem] theorem ev_argA_sl {b e o m : Nat} : argA H (.sl b e o m) kA = optC (aElems H (.sl b e o m)) fun q => allPure q.1 ∧ kA (.lst q.1) q.2 := by
  unfold argA optC
  simp only
  rcases aElems H (.sl b e o m) with _ | ⟨L, rs⟩ <;> rfl
@[go_sem ↓, go_sem] theorem ev_argA_clo {f : Fn} {a b : List V} : argA H (.clo f a b) kA = ((V.clo f a b).pure = true ∧ kA (.clo f a b) []) := rfl
end

/- lists -/
@[go_sem] theorem allWid_nil (s : Nat) : allWid [] s = True := by simp [allWid]
@[go_sem] theorem allWid_cons (x : V) (l : List V) (s : Nat) : allWid (x :: l) s = (x.wid = s ∧ allWid l s) := by simp [allWid]
@[go_sem] theorem allGood_nil : allGood [] = True := by simp [allGood]
@[go_sem] theorem allGood_cons (x : V) (l : List V) : allGood (x :: l) = (x.good = true ∧ allGood l) := by simp [allGood]
@[go_sem] theorem allPure_nil : allPure [] = True := by simp [allPure]
@[go_sem] theorem allPure_cons (x : V) (l : List V) : allPure (x :: l) = (x.pure = true ∧ allPure l) := by simp [allPure]
@[go_sem ↓, go_sem] theorem sl_all {b e o n s : Nat} : (∀ k e' o' m, V.sl b e o n = .sl k e' o' m → e' = s) = (e = s) := by
  simp only [V.sl.injEq, eq_iff_iff]
  constructor
  · intro h; exact h b e o n ⟨rfl, rfl, rfl, rfl⟩
  · rintro rfl k e' o' m ⟨_, rfl, _, _⟩; rfl
@[go_sem] theorem lst_all {l : List V} {s : Nat} : (∀ k e' o' m, V.lst l = .sl k e' o' m → e' = s) = True := by simp
@[go_sem] theorem raw_all {v : Value} {s : Nat} : (∀ k e' o' m, V.raw v = .sl k e' o' m → e' = s) = True := by simp
@[go_sem] theorem emp_all {s : Nat} : (∀ k e' o' m, V.emp = .sl k e' o' m → e' = s) = True := by simp
@[go_sem] theorem good_I (z : Int) : (V.I z).good = true := rfl
@[go_sem] theorem good_Q (q : Rat) : (V.Q q).good = true := rfl
@[go_sem] theorem good_raw_int (k : IntKind) (n : Int) : (V.raw (.int k n)).good = true := rfl
@[go_sem] theorem good_raw_bool (b : Bool) : (V.raw (.bool b)).good = true := rfl
@[go_sem] theorem good_lst (l : List V) : (V.lst l).good = true := rfl
@[go_sem] theorem wid_I (z : Int) : (V.I z).wid = 2 := rfl
@[go_sem] theorem wid_Q (q : Rat) : (V.Q q).wid = 4 := rfl
@[go_sem] theorem wid_raw (v : Value) : (V.raw v).wid = 1 := rfl
@[go_sem] theorem wid_lst (l : List V) : (V.lst l).wid = 1 := rfl
@[go_sem] theorem wid_sl (b e o n : Nat) : (V.sl b e o n).wid = 1 := rfl
@[go_sem] theorem pure_I (z : Int) : (V.I z).pure = true := rfl
@[go_sem] theorem pure_Q (q : Rat) : (V.Q q).pure = true := rfl
@[go_sem] theorem pure_raw (v : Value) : (V.raw v).pure = true := rfl
@[go_sem] theorem pure_lst (l : List V) : (V.lst l).pure = true := rfl
/- These are no unfolding, so that what follows is left alone. -/
@[go_sem] theorem ev_tmp (σ : St) (t : Tmp) : σ.ev (.tmp t) = σ.s t := Eq.trans rfl rfl
@[go_sem] theorem ev_const (σ : St) (v : Value) : σ.ev (.const v) = cst v := Eq.trans rfl rfl
@[go_sem] theorem ev_global (σ : St) (g : Nat) : σ.ev (.global g) = .raw (.pointer (some ⟨g, 0, none⟩)) := Eq.trans rfl rfl
@[go_sem] theorem ev_func (σ : St) (f : FuncId) : σ.ev (.func f) = .clo (.func f) [] [] := Eq.trans rfl rfl
@[go_sem] theorem upS_eq (s : Nat → V) (i : Nat) (v : V) (t : Nat) : upS s i v t = if t = i then v else s t := Eq.trans rfl rfl
@[go_sem] theorem up_eq (H : Hp) (i : Nat) (x : Option Blk) (t : Nat) : Hp.up H i x t = if t = i then x else H t := Eq.trans rfl rfl
@[go_sem] theorem bnd_none (d : Int) : bnd none d = some d := Eq.trans rfl rfl
@[go_sem] theorem bnd_some (d i : Int) (kk : IntKind) : bnd (some (.raw (.int kk i))) d = some i := Eq.trans rfl rfl
attribute [go_sem] St.put.eq_1 St.put.eq_2 Hp.puts.eq_1 Hp.puts.eq_2 cst.eq_1 V.good.eq_1 V.wid.eq_1 V.atoms.eq_1 V.atoms.eq_2 V.atoms.eq_3 V.atoms.eq_4 V.atoms.eq_5 V.atoms.eq_6 V.atoms.eq_7 V.atoms.eq_8 V.atoms.eq_9 V.atoms.eq_10 V.atoms.eq_11 V.atoms.eq_12
  V.atomsL.eq_1 V.atomsL.eq_2 V.atomsI.eq_1 V.sub.eq_1 V.subF.eq_1 V.subF.eq_2 pickL.eq_1 pickL.eq_2 V.put.eq_1 V.putF.eq_1 V.putF.eq_2 putL.eq_1 putL.eq_2 aElems.eq_2 aElems.eq_3 aElems.eq_4 V.asAgg.eq_1 cvI.eq_1 cvI.eq_2 cvI.eq_3
  V.kids.eq_1 V.kids.eq_2 V.kids.eq_3 V.isAgg.eq_1 V.isAgg.eq_2 V.isAgg.eq_3 V.pure.eq_1 st0.eq_1 argS.eq_1 argS.eq_2
@[go_sem] theorem cvI_i64 (a : Int) : cvI .i64 a = IntKind.i64.wrap a := rfl
@[go_sem] theorem cst_int (k : IntKind) (n : Int) : cst (.int k n) = .raw (.int k n) := rfl
@[go_sem] theorem cst_bool (b : Bool) : cst (.bool b) = .raw (.bool b) := rfl
@[go_sem] theorem cst_str (b : ByteArray) : cst (.string b) = .raw (.string b) := rfl
@[go_sem] theorem cst_slice : cst (.slice none 0 0) = .raw (.slice none 0 0) := rfl
@[go_sem] theorem cst_ptr : cst (.pointer none) = .raw (.pointer none) := rfl
@[go_sem] theorem cst_nilFunc : cst .nilFunc = .raw .nilFunc := rfl
@[go_sem] theorem cst_tuple (vs : Array Value) : cst (.tuple vs) = .raw (.tuple vs) := rfl
@[go_sem] theorem isAgg_raw (v : Value) : (V.raw v).isAgg = false := rfl
@[go_sem] theorem isAgg_lst (l : List V) : (V.lst l).isAgg = false := rfl
@[go_sem] theorem isAgg_sl (k e o n : Nat) : (V.sl k e o n).isAgg = false := rfl
@[go_sem] theorem isAgg_ptr (k e o n : Nat) : (V.ptr k e o n).isAgg = false := rfl
@[go_sem] theorem isAgg_pel (x : V) : (V.pel x).isAgg = false := rfl
@[go_sem] theorem isAgg_clo (f : Fn) (a b : List V) : (V.clo f a b).isAgg = false := rfl
@[go_sem] theorem isAgg_emp : V.emp.isAgg = false := rfl
@[go_sem] theorem isAgg_any : V.any.isAgg = false := rfl
@[go_sem] theorem isAgg_tup (l : List V) : (V.tup l).isAgg = false := rfl
@[go_sem] theorem kids_raw (v : Value) : (V.raw v).kids = [.raw v] := rfl
@[go_sem] theorem kids_lst (l : List V) : (V.lst l).kids = [.lst l] := rfl
@[go_sem] theorem kids_sl (k e o n : Nat) : (V.sl k e o n).kids = [.sl k e o n] := rfl
@[go_sem] theorem kids_ptr (k e o n : Nat) : (V.ptr k e o n).kids = [.ptr k e o n] := rfl
@[go_sem] theorem kids_pel (x : V) : (V.pel x).kids = [.pel x] := rfl
@[go_sem] theorem kids_clo (f : Fn) (a b : List V) : (V.clo f a b).kids = [.clo f a b] := rfl
@[go_sem] theorem kids_emp : V.emp.kids = [.emp] := rfl
@[go_sem] theorem kids_any : V.any.kids = [.any] := rfl
@[go_sem] theorem elems_sl (H : Hp) (k e o n : Nat) : aElems H (.sl k e o n) = (H k).bind fun x => if x.e = e ∧ o + n ≤ x.l.length then some ((x.l.drop o).take n, [k]) else none := by
  rw [aElems.eq_1]; cases H k <;> rfl
@[go_sem] theorem ldV_eq (P : Program) (t : TypeId) (x : V) (off : Nat) : ldV P t x off = (tySize P t).bind fun s => (tyAgg P t).bind fun g => if g = true then (if off + s ≤ x.wid then some (x.sub off s) else none) else (x.atoms[off]?).bind fun y => if okStore y = true then some y else none := by
  unfold ldV
  cases tySize P t with
  | none => rfl
  | some s =>
    cases tyAgg P t with
    | none => rfl
    | some g =>
      cases g
      · simp only [Option.bind_some]
        cases x.atoms[off]? <;> rfl
      · rfl
@[go_sem] theorem okStore_lst (l : List V) : okStore (.lst l) = true := rfl
@[go_sem] theorem okStore_sl (k e o n : Nat) : okStore (.sl k e o n) = true := rfl
@[go_sem] theorem okStore_ptr (k e o n : Nat) : okStore (.ptr k e o n) = true := rfl
@[go_sem] theorem okStore_int (k : IntKind) (n : Int) : okStore (.raw (.int k n)) = true := rfl
@[go_sem] theorem okStore_bool (b : Bool) : okStore (.raw (.bool b)) = true := rfl
@[go_sem] theorem okStore_str (b : ByteArray) : okStore (.raw (.string b)) = true := rfl
@[go_sem] theorem okStore_nil : okStore (.raw (.slice none 0 0)) = true := rfl
attribute [go_sem] dstOk okStore V.plain pureB pureA V.scalar scalarA V.noTup OutsL Outs atLe atsLe
attribute [go_sem]
  Option.getD_some Option.getD_none List.getElem?_cons_zero List.getElem?_cons_succ List.getElem?_nil Option.bind_some Option.bind_none List.map_cons List.map_nil List.all_cons List.all_nil
  List.cons_append List.nil_append List.append_nil Bool.and_true Bool.true_and true_and and_true and_self List.length_cons List.length_nil
  List.drop_zero List.drop_succ_cons List.drop_nil List.take_zero List.take_succ_cons List.take_nil List.set_cons_zero List.set_cons_succ
  forall_const ne_eq not_true_eq_false not_false_eq_true Option.map_some Option.map_none Option.isNone_none Option.isNone_some Option.isSome_some Option.isSome_none
  Bool.not_true Bool.not_false reduceCtorEq false_and and_false Bool.false_eq_true if_true if_false List.reverse_cons List.reverse_nil List.getElem?_toArray
  exists_eq' exists_eq_left exists_const Option.some.injEq List.replicate_zero true_or or_true false_or or_false
attribute [go_sem] false_implies true_implies true_and and_true implies_true Nat.sub_zero Int.cast_ofNat_Int decide_true decide_false Nat.add_zero Nat.zero_add Nat.zero_mul Nat.one_mul Nat.mul_one Nat.lt_add_one Nat.le_refl Nat.zero_le Nat.one_ne_zero Nat.succ_ne_zero Nat.zero_ne_one Nat.add_one_ne_zero Nat.ne_add_one
end Go.Proofs.Ytilkleibnciloaa

/- Tables of contracts; states written as lists. No program in sight. -/
namespace Go.Proofs.Ytilkleibnciloaa
set_option linter.unusedSimpArgs false
set_option linter.unusedVariables false
open Go.RowKit

abbrev Con := List V → Option (Prop × V)
def Ctr (P : Program) (f : FuncId) (C : Con) : Prop := callable P f = true ∧ ∀ args p r, C args = some (p, r) → p → PCall P f args r
def tbl : List (FuncId × Con) → Tab
  | [], _, _ => none
  | (g, C) :: l, f, args => if f = g then C args else tbl l f args
attribute [go_sem] tbl.eq_1 tbl.eq_2
def noGab : Gab := fun _ _ _ _ => none
@[go_sem] theorem noGab_eq (f : FuncId) (l : List V) (H : Hp) (n : Nat) : noGab f l H n = none := Eq.trans rfl rfl
theorem tbl_nil {P : Program} : TabOk P (tbl []) := fun _ _ _ _ h => by cases h
theorem tbl_cons {P : Program} {f : FuncId} {C : Con} {l : List (FuncId × Con)} (h : Ctr P f C) (hl : TabOk P (tbl l)) : TabOk P (tbl ((f, C) :: l)) := by
  intro g args p r hg
  simp only [tbl] at hg
  split at hg
  · rename_i e
    subst e
    exact ⟨h.1, h.2 args p r hg⟩
  · exact hl g args p r hg
theorem tabs {P : Program} (hm : P.follows .mixedOrders = true) {l : List (FuncId × Con)} (h : TabOk P (tbl l)) : Tabs P (tbl l) noGab :=
  ⟨hm, h, (fun _ _ _ _ _ _ _ _ h => by cases h), (fun _ _ _ _ => ⟨(fun _ _ _ _ h => by cases h), fun _ _ => rfl⟩)⟩

/-- A state, written out. -/
def mkS : List (Nat × V) → Nat → V
  | [] => fun _ => .any
  | (t, v) :: l => upS (mkS l) t v
def mkH : List (Nat × Bool × Blk) → Hp
  | [] => fun _ => none
  | (k, _, x) :: l => (mkH l).up k (some x)
def mkStM (m : Nat) (ss : List (Nat × V)) (hs : List (Nat × Bool × Blk)) (n N : Nat) : St := { s := mkS ss, H := mkH hs, n := n, N := N, m := m }
def mkSt (ss : List (Nat × V)) (hs : List (Nat × Bool × Blk)) (n N : Nat) : St := { s := mkS ss, H := mkH hs, n := n, N := N }
attribute [go_sem] mkS.eq_1 mkS.eq_2 mkH.eq_1 mkH.eq_2
/-- A body, from a state written out. -/
theorem vc_at {P : Program} {Γ : Tab} {Δ : Gab} (T : Tabs P Γ Δ) {c : Code} {Q : Exit → St → Prop} {ss : List (Nat × V)} {hs : List (Nat × Bool × Blk)} {n N : Nat} (h : vc P Γ Δ c Q { s := mkS ss, H := mkH hs, n := n, N := N }) : AWp P c Q (mkSt ss hs n N) := vc_ok T _ _ _ h
theorem vc_atM {P : Program} {Γ : Tab} {Δ : Gab} (T : Tabs P Γ Δ) {c : Code} {Q : Exit → St → Prop} {m : Nat} {ss : List (Nat × V)} {hs : List (Nat × Bool × Blk)} {n N : Nat} (h : vc P Γ Δ c Q { s := mkS ss, H := mkH hs, n := n, N := N, m := m }) : AWp P c Q (mkStM m ss hs n N) := vc_ok T _ _ _ h
def wkS (θ : List Nat) (s : Nat → V) : List (Nat × V) → Prop
  | [] => True
  | (t, v) :: l => (v.noTup = true ∧ RenV θ v (s t)) ∧ wkS θ s l
def renLL (θ : List Nat) : List V → List V → Prop
  | [], [] => True
  | x :: l, y :: m => (RenV θ x y ∧ x.wid = y.wid ∧ (x = .any → y.isAgg = false)) ∧ renLL θ l m
  | _, _ => False
def wkB (θ : List Nat) (m : Bool) (x y : Blk) : Prop := x.t = y.t ∧ x.e = y.e ∧ (if m = true then x.l = y.l ∧ allPure x.l else renLL θ x.l y.l)
def wkH (θ : List Nat) (H : Hp) : List (Nat × Bool × Blk) → Prop
  | [] => True
  | (k, m, x) :: l => optC θ[k]? (fun k0 => optC (H k0) fun y => wkB θ m x y) ∧ wkH θ H l
attribute [go_sem] wkS wkB wkH renLL
def wkM (m : Nat) (θ : List Nat) (σ : St) (ss : List (Nat × V)) (hs : List (Nat × Bool × Blk)) (n N : Nat) : Prop := (N = σ.N ∧ σ.m = m) ∧ n = θ.length ∧ wkS θ σ.s ss ∧ wkH θ σ.H hs
def wkC (θ : List Nat) (σ : St) (ss : List (Nat × V)) (hs : List (Nat × Bool × Blk)) (n N : Nat) : Prop := (N = σ.N ∧ σ.m = 0) ∧ n = θ.length ∧ wkS θ σ.s ss ∧ wkH θ σ.H hs
attribute [go_sem] wkC wkM
theorem renL_of {θ : List Nat} : ∀ (l m : List V), renLL θ l m → RenL θ l m
  | [], [], _ => ⟨rfl, fun i x y h => by simp at h⟩
  | x :: l, y :: m, h => by
    obtain ⟨h1, h2⟩ := h
    obtain ⟨h3, h4⟩ := renL_of l m h2
    refine ⟨by simp [h3], fun i a b ha hb => ?_⟩
    cases i with
    | zero => simp at ha hb; subst ha hb; exact h1
    | succ i => exact h4 i a b (by simpa using ha) (by simpa using hb)
  | [], _ :: _, h => h.elim
  | _ :: _, [], h => h.elim
theorem renCs_pure {θ : List Nat} : ∀ {l : List V}, (l.all fun x => x.atoms.all pureB) = true → RenCs θ l l
  | [], _ => trivial
  | x :: l, h => by
    simp only [List.all_cons, Bool.and_eq_true] at h
    refine ⟨?_, renCs_pure h.2⟩
    have h1 := h.1
    cases x <;> first | exact ⟨rfl, h1⟩ | (simp [V.atoms, pureB] at h1)
theorem renV_pure {θ : List Nat} {x : V} (h : x.pure = true) : RenV θ x x := by
  unfold RenV
  split
  · trivial
  · simp only [V.pure, V.atoms, List.all_cons, List.all_nil, Bool.and_true, pureA, Bool.and_eq_true] at h
    exact ⟨rfl, renCs_pure h.1, renCs_pure h.2⟩
  · simp [V.pure, V.atoms, pureA] at h
  · simp [V.pure, V.atoms, pureA] at h
  · exact ⟨h, .inl rfl⟩
theorem renL_refl {θ : List Nat} {l : List V} (h : allPure l) : RenL θ l l := ⟨rfl, fun i x y hx hy => by
  rw [hx] at hy
  injection hy with hy
  subst hy
  exact ⟨renV_pure (h x (List.mem_of_getElem? hx)), rfl, fun e => by subst e; rfl⟩⟩
theorem Wk.ofM (m : Nat) (θ : List Nat) {σ : St} {ss : List (Nat × V)} {hs : List (Nat × Bool × Blk)} {n N : Nat} (hnd : θ.Nodup) (hid : ∀ k, k < m → θ[k]? = some k) (h : wkM m θ σ ss hs n N) : Wk σ (mkStM m ss hs n N) := by
  obtain ⟨⟨h1, h0⟩, h2, h3, h4⟩ := h
  have hS : ∀ (l : List (Nat × V)), wkS θ σ.s l → RenS θ (mkS l) σ.s ∧ ∀ t m, mkS l t ≠ .tup m := by
    intro l
    induction l with
    | nil => intro _; exact ⟨fun t => trivial, fun t m h => by simp [mkS] at h⟩
    | cons p l ih =>
      intro hl
      obtain ⟨⟨q1, q2⟩, q3⟩ := hl
      obtain ⟨i1, i2⟩ := ih q3
      refine ⟨fun t => ?_, fun t m => ?_⟩
      · simp only [mkS, upS]
        split
        · rename_i e; subst e; exact q2
        · exact i1 t
      · simp only [mkS, upS]
        split
        · intro e; rw [e] at q1; simp [V.noTup] at q1
        · exact i2 t m
  have hHH : ∀ (l : List (Nat × Bool × Blk)), wkH θ σ.H l → RenH θ (mkH l) σ.H := by
    intro l
    induction l with
    | nil => intro _ k x hk; simp [mkH] at hk
    | cons p l ih =>
      intro hl k x hk
      obtain ⟨q1, q2⟩ := hl
      simp only [mkH, Hp.up] at hk
      split at hk
      · rename_i e
        subst e
        injection hk with hk
        subst hk
        unfold optC at q1
        split at q1
        · rename_i k0 hk0
          split at q1
          · rename_i y hy
            obtain ⟨r1, r2, r3⟩ := q1
            refine ⟨k0, y, hk0, hy, r1, r2, ?_⟩
            split at r3
            · rw [← r3.1]; exact renL_refl r3.2
            · exact renL_of _ _ r3
          · exact q1.elim
        · exact q1.elim
      · exact ih q2 k x hk
  exact Wk.mk θ h1 h0.symm (fun k hk => hid k (by omega)) h2 (hS ss h3).1 (hHH hs h4) hnd (hS ss h3).2
theorem Wk.of (θ : List Nat) {σ : St} {ss : List (Nat × V)} {hs : List (Nat × Bool × Blk)} {n N : Nat} (hnd : θ.Nodup) (h : wkC θ σ ss hs n N) : Wk σ (mkSt ss hs n N) :=
  Wk.ofM 0 θ hnd (fun k hk => absurd hk (Nat.not_lt_zero k)) h
@[go_sem] theorem ren_any (θ : List Nat) (y : V) : RenV θ .any y = True := by simp [RenV]
@[go_sem] theorem ren_ptr (θ : List Nat) (k e i o k0 e0 i0 o0 : Nat) : RenV θ (.ptr k e i o) (.ptr k0 e0 i0 o0) = (θ[k]? = some k0 ∧ e = e0 ∧ i = i0 ∧ o = o0) := rfl
@[go_sem] theorem ren_cl (θ : List Nat) (f f0 : Fn) (a b a0 b0 : List V) : RenV θ (.clo f a b) (.clo f0 a0 b0) = (f = f0 ∧ RenCs θ a a0 ∧ RenCs θ b b0) := rfl
@[go_sem] theorem renCs_nil (θ : List Nat) : RenCs θ [] [] = True := rfl
@[go_sem] theorem renCs_cons (θ : List Nat) (x y : V) (l m : List V) : RenCs θ (x :: l) (y :: m) = (RenC θ x y ∧ RenCs θ l m) := rfl
@[go_sem] theorem renC_ptr (θ : List Nat) (k e i o k0 e0 i0 o0 : Nat) : RenC θ (.ptr k e i o) (.ptr k0 e0 i0 o0) = (θ[k]? = some k0 ∧ e = e0 ∧ i = i0 ∧ o = o0) := rfl
@[go_sem] theorem ren_sl (θ : List Nat) (k e i o k0 e0 i0 o0 : Nat) : RenV θ (.sl k e i o) (.sl k0 e0 i0 o0) = (θ[k]? = some k0 ∧ e = e0 ∧ i = i0 ∧ o = o0) := rfl
@[go_sem] theorem ren_raw (θ : List Nat) (v : Value) (y : V) : RenV θ (.raw v) y = (.raw v = y) := by
  simp [RenV, V.pure, V.atoms, pureA, V.isAgg]
@[go_sem] theorem ren_lst (θ : List Nat) (l : List V) (y : V) : RenV θ (.lst l) y = (.lst l = y) := by
  simp [RenV, V.pure, V.atoms, pureA, V.isAgg]
@[go_sem] theorem ren_emp (θ : List Nat) (y : V) : RenV θ .emp y = (.emp = y) := by
  simp [RenV, V.pure, V.atoms, pureA, V.isAgg]
theorem ren_I (θ : List Nat) (z : Int) : RenV θ (.I z) (.I z) := renV_pure rfl
theorem ren_Q (θ : List Nat) (z : Rat) : RenV θ (.Q z) (.Q z) := renV_pure rfl
end Go.Proofs.Ytilkleibnciloaa

/- Calls whose result is a fresh row of the caller. No program in sight. -/
namespace Go.Proofs.Ytilkleibnciloaa
set_option linter.unusedSimpArgs false
set_option linter.unusedVariables false
open Go.RowKit

/-- A row: its type of elements, the cells of an element, the elements. -/
structure FRes where
  t : TypeId
  e : Nat
  l : List V
def FCall (P : Program) (f : FuncId) (args : List V) (R : FRes) : Prop :=
  ∀ (B : Nat → Prop) (w : World) (vs : List Value), vs.length = args.length → (∀ (j : Nat) (x : V) (v : Value), args[j]? = some x → vs[j]? = some v → RepW w B (fun _ => none) x v) → (∀ b, B b → b < w.heap.size) →
    Calls P f vs.toArray w fun e w' => ∃ (b c : Nat) (arr : Array Value), e = .returned (.slice (some ⟨b, 0, none⟩) R.l.length c) ∧ R.l.length ≤ c ∧ c * R.e ≤ arr.size ∧ w.heap.size ≤ b ∧ w'.heap[b]? = some (.cells arr R.t (0, 0)) ∧
      (∀ y ∈ R.l, y.wid = R.e) ∧ (V.atomsL R.l).length ≤ arr.size ∧ (∀ (j : Nat) (y : V) (u : Value), (V.atomsL R.l)[j]? = some y → arr[j]? = some u → RepA w' (fun b' => B b' ∨ b' = b) (fun _ => none) y u) ∧ Below w.heap.size w w'
section
variable {P : Program}
theorem FCall.le {f : FuncId} {args args' : List V} {R : FRes} (h : FCall P f args R) (hl : OutsL args' args) : FCall P f args' R := by
  intro B w vs hv hr hB
  obtain ⟨e1, e2⟩ := OutsL.get _ _ hl
  refine h B w vs (by omega) (fun j x v hx hv => ?_) hB
  obtain ⟨y, k1, k2⟩ := e2 j x hx
  exact k2.rep (hr j y v k1 hv)
theorem FCall.gcall {f : FuncId} {args : List V} {R : FRes} (h : FCall P f args R) (hp : args.all V.pure = true) (H : Hp) (n : Nat) : GCall P f args H n (.sl n R.e 0 R.l.length) [(n, some ⟨R.t, R.e, R.l⟩)] := by
  intro B w ρ vs hH hf hB hfar hl hr
  have hlt : ∀ b, own B ρ H b → b < w.heap.size := by
    rintro b (hb | ⟨k, x, h1, h2⟩)
    · exact hB b hb
    · obtain ⟨b', arr, e1, e2, _⟩ := hH.row k x h1
      rw [h2] at e1; injection e1 with e1; subst e1
      exact (Array.getElem?_eq_some_iff.1 e2).1
  refine (h (own B ρ H) w vs hl (fun j x v hx hv => (hr j x v hx hv).pure (List.all_eq_true.1 hp x (List.mem_of_getElem? hx))) hlt).mono ?_
  rintro e w' ⟨b, c, arr, rfl, hc, hca, hb, hbw, hw, hal, hrep, hbel⟩
  have hH' : H.puts [(n, some ⟨R.t, R.e, R.l⟩)] = H.up n (some ⟨R.t, R.e, R.l⟩) := rfl
  rw [hH']
  have step : Step H w ρ (H.up n (some ⟨R.t, R.e, R.l⟩)) w' (fun k => if k = n then some b else ρ k) := by
    refine ⟨fun k b0 e => ?_, fun b0 hb0 _ => hbel.block b0 hb0, fun k x b0 e1 e2 => ?_, hbel.size, fun b0 arr0 t0 fr e => ⟨arr0, t0, fr, ?_, rfl⟩, hbel.os, hbel.tape, hbel.output⟩
    · split
      · rename_i hk; subst hk; rw [hf] at e; cases e
      · exact e
    · split at e2
      · injection e2 with e2; subst e2; exact .inr hb
      · rename_i hk
        refine .inl ⟨k, x, ?_, e2⟩
        simpa [Hp.up, hk] using e1
    · rw [hbel.block b0 (Array.getElem?_eq_some_iff.1 e).1]; exact e
  have hsub : ∀ b0, own B (fun k => if k = n then some b else ρ k) (H.up n (some ⟨R.t, R.e, R.l⟩)) b0 → own B ρ H b0 ∨ b0 = b := by
    rintro b0 (h0 | ⟨k, x, h1, h2⟩)
    · exact .inl (.inl h0)
    · simp only at h2
      split at h2
      · injection h2 with h2; exact .inr h2.symm
      · rename_i hk
        exact .inl (.inr ⟨k, x, by simpa [Hp.up, hk] using h1, h2⟩)
  refine ⟨_, fun k => if k = n then some b else ρ k, rfl, step, ⟨fun k x hk => ?_, fun k k' x x' b0 e1 e2 e3 e4 => ?_⟩, fun k hk e => by simp [hk, e], ?_⟩
  · by_cases hkn : k = n
    · subst hkn
      have : x = ⟨R.t, R.e, R.l⟩ := by simpa [Hp.up] using hk.symm
      subst this
      refine ⟨b, arr, by simp, hbw, hw, hal, fun j y u hy hu => ?_⟩
      exact (hrep j y u hy hu).mono ((Ext.less hsub).into _)
    · have hk0 : H k = some x := by simpa [Hp.up, hkn] using hk
      obtain ⟨b0, arr0, h1, h2, h3, h4, h5⟩ := hH.row k x hk0
      refine ⟨b0, arr0, by simp [hkn, h1], ?_, h3, h4, fun j y u hy hu => (h5 j y u hy hu).mono (step.ext B)⟩
      rw [hbel.block b0 (Array.getElem?_eq_some_iff.1 h2).1]; exact h2
  · have old : ∀ q y, q ≠ n → (H.up n (some ⟨R.t, R.e, R.l⟩)) q = some y → (if q = n then some b else ρ q) = some b0 → H q = some y ∧ ρ q = some b0 ∧ b0 < w.heap.size := fun q y hq h1 h2 => by
      have h1' : H q = some y := by simpa [Hp.up, hq] using h1
      rw [if_neg hq] at h2
      exact ⟨h1', h2, hlt b0 (.inr ⟨q, y, h1', h2⟩)⟩
    by_cases hk : k = n
    · by_cases hk' : k' = n
      · rw [hk, hk']
      · obtain ⟨_, _, h3⟩ := old k' x' hk' e2 e4
        simp only [hk, if_true, Option.some.injEq] at e3
        omega
    · by_cases hk' : k' = n
      · obtain ⟨_, _, h3⟩ := old k x hk e1 e3
        simp only [hk', if_true, Option.some.injEq] at e4
        omega
      · obtain ⟨a1, a2, _⟩ := old k x hk e1 e3
        obtain ⟨c1, c2, _⟩ := old k' x' hk' e2 e4
        exact hH.inj k k' x x' b0 a1 c1 a2 c2
  · refine RepV.of_W (RepW.of_atom ?_ rfl rfl) (by intro l h; cases h)
    have := RepA.sl (w := w') (O := own B (fun k => if k = n then some b else ρ k) (H.up n (some ⟨R.t, R.e, R.l⟩))) (fun k => if k = n then some b else ρ k) n R.e 0 R.l.length b c arr R.t (0, 0) (by simp) hbw hc (by simpa using hca)
    simpa using this
def retF (P : Program) (rs : List ResultVar) (R : FRes) : Exit → St → Prop
  | .normal, σ => aResL P σ rs fun xs => ∃ k, xs = [.sl k R.e 0 R.l.length] ∧ σ.H k = some ⟨R.t, R.e, R.l⟩ ∧ allPure R.l
  | .ret, σ => aResL P σ rs fun xs => ∃ k, xs = [.sl k R.e 0 R.l.length] ∧ σ.H k = some ⟨R.t, R.e, R.l⟩ ∧ allPure R.l
  | _, _ => False
theorem FCall.of_vc {Γ : Tab} {Δ : Gab} (T : Tabs P Γ Δ) {f : FuncId} {fn : Func} {c : Code} {args : List V} {R : FRes} (hf : P.funcs[f]? = some fn) (hb : fn.body = some c) {N : Nat} (hn : fn.ntmps = N) {rs : Array ResultVar} (hrs : fn.results = rs) (hN : args.length ≤ N)
    (h : vc P Γ Δ c (retF P rs.toList R) (st0 args N)) : FCall P f args R := by
  subst hn hrs
  intro B w vs hl hr hB
  refine calls_of_wp hf hb ?_
  have st : Stat B (fun _ => none) w := ⟨hB, fun _ _ h => by cases h⟩
  have hown : ∀ b, own B (fun _ => none) (fun _ => none) b → B b := fun b hb => by
    rcases hb with hb | ⟨k, x, h1, _⟩
    · exact hb
    · cases h1
  have hx : Ext w B (fun _ => none) w (own B (fun _ => none) (fun _ => none)) (fun _ => none) := Ext.less hown
  have hs : Sim B (fun _ => none) w (st0 args fn.ntmps) { tmps := vs.toArray ++ Array.replicate (fn.ntmps - vs.toArray.size) undef, defers := [] } w (fun _ => none) := sim0 hl hr hN
  refine wp_mono (vc_ok T c _ _ h B (fun _ => none) w st _ w _ hs) fun e a' w' hq => ?_
  obtain ⟨σ', ρ', hq, hs'⟩ := hq
  have fin : (aResL P σ' fn.results.toList fun xs => ∃ k, xs = [.sl k R.e 0 R.l.length] ∧ σ'.H k = some ⟨R.t, R.e, R.l⟩ ∧ allPure R.l) → a'.defers = [] ∧ ∃ v, (results fn a'.tmps).run P w' = .ok v w' ∧
      ∃ (b c : Nat) (arr : Array Value), Ending.returned v = .returned (.slice (some ⟨b, 0, none⟩) R.l.length c) ∧ R.l.length ≤ c ∧ c * R.e ≤ arr.size ∧ w.heap.size ≤ b ∧ w'.heap[b]? = some (.cells arr R.t (0, 0)) ∧
      (∀ y ∈ R.l, y.wid = R.e) ∧ (V.atomsL R.l).length ≤ arr.size ∧ (∀ (j : Nat) (y : V) (u : Value), (V.atomsL R.l)[j]? = some y → arr[j]? = some u → RepA w' (fun b' => B b' ∨ b' = b) (fun _ => none) y u) ∧ Below w.heap.size w w' := fun hq => by
    obtain ⟨xs, us, h1, h2, h3, h4⟩ := res_ok (P := P) hs' _ _ hq
    obtain ⟨k, rfl, hk, hpure⟩ := h1
    match us, h3 with
    | [u], _ =>
      have h5 := h4 0 _ _ rfl rfl
      have h6 : RepA w' (own B ρ' σ'.H) ρ' (.sl k R.e 0 R.l.length) u := RepW.atom h5 rfl
      obtain ⟨b, arr, q1, q2, q3, q4, q5⟩ := hs'.heap.row k _ hk
      refine ⟨hs'.defers, _, results_run h2, ?_⟩
      cases h6 with
      | sl _ _ _ _ _ b' c arr' t' fr' e1 e2 e3 e4 =>
        rw [q1] at e1; injection e1 with e1; subst e1
        rw [q2] at e2; injection e2 with e2; injection e2 with e2 e5 e6; subst e2 e5 e6
        refine ⟨b, c, arr, by simp, e3, by simpa using e4, ?_, q2, q3, q4, fun j y u hy hu => ?_, hs'.below⟩
        · rcases hs'.mine k _ b hk q1 with ⟨_, hh⟩ | hh
          · cases hh
          · exact hh
        · have hp : pureA y = true := by
            have : ∀ (l : List V), allPure l → ∀ y ∈ V.atomsL l, pureA y = true := by
              intro l
              induction l with
              | nil => intro _ y hy; simp [V.atomsL] at hy
              | cons x l ih =>
                intro hl y hy
                simp only [V.atomsL, List.mem_append] at hy
                rcases hy with hy | hy
                · have := hl x (by simp)
                  unfold V.pure at this
                  exact List.all_eq_true.1 this y hy
                · exact ih (fun z hz => hl z (by simp [hz])) y hy
            exact this _ hpure y (List.mem_of_getElem? hy)
          refine ((q5 j y u hy hu).pureA hp).mono (Ext.less ?_)
          rintro b0 (h0 | rfl)
          · exact .inl h0
          · exact .inr ⟨k, _, hk, q1⟩
  cases e with
  | normal => exact fin hq
  | ret => exact fin hq
  | exit id => exact hq.elim
  | goto l => exact hq.elim
  | panic c => exact hq.elim
  | outgrown => exact hq.elim
end
/-- A table of such calls: they are made on stable arguments. -/
abbrev FCon := List V → Option (Prop × FRes)
def FCtr (P : Program) (f : FuncId) (C : FCon) : Prop := callable P f = true ∧ ∀ args p R, C args = some (p, R) → p → FCall P f args R
def gtb : List (FuncId × FCon) → Gab
  | [], _, _, _, _ => none
  | (g, C) :: l, f, args, H, n => if f = g then (if args.all V.pure = true then (C args).map fun q => (q.1, .sl n q.2.e 0 q.2.l.length, [(n, some ⟨q.2.t, q.2.e, q.2.l⟩)], []) else none) else gtb l f args H n
theorem gtb_loc : ∀ (l : List (FuncId × FCon)) (f : FuncId) (args : List V) (H H' : Hp) (n : Nat), gtb l f args H n = gtb l f args H' n
  | [], _, _, _, _, _ => rfl
  | (g, C) :: l, f, args, H, H', n => by simp only [gtb]; rw [gtb_loc l f args H H' n]
theorem gtb_nil {P : Program} : GabOk P (gtb []) := fun _ _ _ _ _ _ _ _ h => by cases h
theorem gtb_cons {P : Program} {f : FuncId} {C : FCon} {l : List (FuncId × FCon)} (h : FCtr P f C) (hl : GabOk P (gtb l)) : GabOk P (gtb ((f, C) :: l)) := by
  intro g args H n p r ws rs hg
  simp only [gtb] at hg
  split at hg
  · rename_i e
    subst e
    split at hg
    · rename_i hp
      rcases hc : C args with _ | ⟨p', R⟩ <;> rw [hc] at hg
      · cases hg
      · injection hg with hg
        injection hg with h1 h2; injection h2 with h2 h3; injection h3 with h3 h4
        subst h1 h2 h3
        exact ⟨h.1, fun hp' => (h.2 args p' R hc hp').gcall hp H n⟩
    · cases hg
  · exact hl g args H n p r ws rs hg
theorem tabsG {P : Program} (hm : P.follows .mixedOrders = true) {l : List (FuncId × Con)} (h : TabOk P (tbl l)) {m : List (FuncId × FCon)} (hg : GabOk P (gtb m)) : Tabs P (tbl l) (gtb m) :=
  ⟨hm, h, hg, fun f args H n => ⟨fun p r ws rs e H' _ => by rw [gtb_loc m f args H' H n]; exact e, fun e H' => by rw [gtb_loc m f args H' H n]; exact e⟩⟩
attribute [go_sem] gtb.eq_1 gtb.eq_2
@[go_sem ↓, go_sem] theorem ev_retF_n {P : Program} {l : List ResultVar} {R : FRes} {σ : St} : retF P l R .normal σ = aResL P σ l fun xs => ∃ k, xs = [.sl k R.e 0 R.l.length] ∧ σ.H k = some ⟨R.t, R.e, R.l⟩ ∧ allPure R.l := rfl
@[go_sem ↓, go_sem] theorem ev_retF_r {P : Program} {l : List ResultVar} {R : FRes} {σ : St} : retF P l R .ret σ = aResL P σ l fun xs => ∃ k, xs = [.sl k R.e 0 R.l.length] ∧ σ.H k = some ⟨R.t, R.e, R.l⟩ ∧ allPure R.l := rfl
/-- What stands behind is proved once, from a state written out. -/
theorem AWp.cut {P : Program} {c : Code} {Q E : Exit → St → Prop} {σ : St} (h : AWp P c (fun e σ => ∃ τ, Wk σ τ ∧ E e τ) σ) (hq : ∀ e τ, E e τ → Q e τ) : AWp P c Q σ := fun B A W st a w ρ hs =>
  wp_mono (h B A W st a w ρ hs) fun e a' w' ⟨σ', ρ', ⟨τ, h1, h2⟩, h3⟩ => let ⟨ρ'', h4⟩ := h1 B A W a' w' ρ' h3; ⟨τ, ρ'', hq _ _ h2, h4⟩
end Go.Proofs.Ytilkleibnciloaa
