import Derived.Test.YtlledgjigpoopaaVi23
import Derived.Test.YtlledgjigpoopaaProg
set_option linter.unusedVariables false
set_option linter.unusedSimpArgs false
set_option linter.unnecessarySimpa false
namespace Go.Proofs.Ytlledgjigpoopaa
open Go Go.Vi
def c3_0 : LC := LC.ops [LOp.mk (some 4) none (LK.mov (LO.c (D.bool false)))]
def c3_1 : LC := LC.ops [LOp.mk (some 9) none (LK.call (LO.c (D.fn 8 [])) []), LOp.mk (some 10) none (LK.call (LO.c (D.fn 8 [])) []), LOp.mk (some 5) none (LK.mov (LO.t 9)), LOp.mk (some 6) none (LK.mov (LO.t 10))]
def c3_2 : LC := LC.ops [LOp.mk (some 11) none (LK.mov (LO.t 5)), LOp.mk (some 12) none (LK.mov (LO.t 0)), LOp.mk (some 13) none (LK.call (LO.c (D.fn 9 [])) [LO.t 11, LO.t 12])]
def c3_3 : LC := LC.ops [LOp.mk (some 14) none (LK.mov (LO.t 6)), LOp.mk (some 15) none (LK.mov (LO.t 1)), LOp.mk (some 16) none (LK.call (LO.c (D.fn 9 [])) [LO.t 14, LO.t 15])]
def c3_4 : LC := LC.ops [LOp.mk (some 17) none (LK.mov (LO.t 5)), LOp.mk (some 18) none (LK.call (LO.c (D.fn 10 [])) [LO.t 17]), LOp.mk (some 19) none (LK.len false (LO.t 18)), LOp.mk (some 20) none (LK.mov (LO.t 6)), LOp.mk (some 21) none (LK.call (LO.c (D.fn 10 [])) [LO.t 20]), LOp.mk (some 22) none (LK.len false (LO.t 21)), LOp.mk (some 7) none (LK.mov (LO.t 19)), LOp.mk (some 8) none (LK.mov (LO.t 22))]
def c3_5 : LC := LC.ops [LOp.mk (some 23) none (LK.mov (LO.t 7)), LOp.mk (some 24) none (LK.bin BinOp.lss (LO.t 23) (LO.c (D.int IntKind.i64 1))), LOp.mk (some 25) none (LK.mov (LO.t 24)), LOp.mk (some 26) (some (25, false)) (LK.mov (LO.t 7)), LOp.mk (some 27) (some (25, false)) (LK.bin BinOp.gtr (LO.t 26) (LO.c (D.int IntKind.i64 10))), LOp.mk (some 28) none (LK.pick (LO.t 25) (LO.c (D.bool true)) (LO.t 27)), LOp.mk (some 29) none (LK.mov (LO.t 28)), LOp.mk (some 30) (some (29, false)) (LK.mov (LO.t 7)), LOp.mk (some 31) (some (29, false)) (LK.bin BinOp.lss (LO.t 30) (LO.c (D.int IntKind.i64 10))), LOp.mk (some 32) (some (29, false)) (LK.mov (LO.t 31)), LOp.mk (some 33) (some (32, true)) (LK.mov (LO.t 0)), LOp.mk (some 34) (some (32, true)) (LK.mov (LO.t 7)), LOp.mk (some 35) (some (32, true)) (LK.bin BinOp.mul (LO.c (D.int IntKind.i64 7)) (LO.t 34)), LOp.mk (some 36) (some (32, true)) (LK.bin BinOp.shl (LO.c (D.int IntKind.u64 1)) (LO.t 35)), LOp.mk (some 37) (some (32, true)) (LK.bin BinOp.geq (LO.t 33) (LO.t 36)), LOp.mk (some 38) (some (29, false)) (LK.pick (LO.t 32) (LO.t 37) (LO.c (D.bool false))), LOp.mk (some 39) none (LK.pick (LO.t 29) (LO.c (D.bool true)) (LO.t 38)), LOp.mk (some 40) none (LK.mov (LO.t 39)), LOp.mk (some 41) (some (40, false)) (LK.mov (LO.t 7)), LOp.mk (some 42) (some (40, false)) (LK.bin BinOp.gtr (LO.t 41) (LO.c (D.int IntKind.i64 1))), LOp.mk (some 43) (some (40, false)) (LK.mov (LO.t 42)), LOp.mk (some 44) (some (43, true)) (LK.mov (LO.t 0)), LOp.mk (some 45) (some (43, true)) (LK.mov (LO.t 7)), LOp.mk (some 46) (some (43, true)) (LK.bin BinOp.mul (LO.c (D.int IntKind.i64 7)) (LO.t 45)), LOp.mk (some 47) (some (43, true)) (LK.bin BinOp.sub (LO.t 46) (LO.c (D.int IntKind.i64 7))), LOp.mk (some 48) (some (43, true)) (LK.bin BinOp.shl (LO.c (D.int IntKind.u64 1)) (LO.t 47)), LOp.mk (some 49) (some (43, true)) (LK.bin BinOp.lss (LO.t 44) (LO.t 48)), LOp.mk (some 50) (some (40, false)) (LK.pick (LO.t 43) (LO.t 49) (LO.c (D.bool false))), LOp.mk (some 51) none (LK.pick (LO.t 40) (LO.c (D.bool true)) (LO.t 50))]
def c3_6 : LC := LC.ops [LOp.mk (some 4) none (LK.mov (LO.c (D.bool false)))]
def c3_7 : LC := LC.ret
def c3_8 : LC := LC.seq c3_6 c3_7
def c3_9 : LC := LC.skip
def c3_10 : LC := LC.cond (LO.t 51) c3_8 c3_9
def c3_11 : LC := LC.seq c3_5 c3_10
def c3_12 : LC := LC.ops [LOp.mk (some 52) none (LK.call (LO.c (D.fn 11 [])) []), LOp.mk (some 53) none (LK.mov (LO.t 52)), LOp.mk (some 54) (some (53, true)) (LK.mov (LO.t 7)), LOp.mk (some 55) (some (53, true)) (LK.mov (LO.t 8)), LOp.mk (some 56) (some (53, true)) (LK.bin BinOp.leq (LO.t 54) (LO.t 55)), LOp.mk (some 57) (some (53, true)) (LK.mov (LO.t 56)), LOp.mk (some 58) (some (57, false)) (LK.mov (LO.t 0)), LOp.mk (some 59) (some (57, false)) (LK.mov (LO.t 1)), LOp.mk (some 60) (some (57, false)) (LK.bin BinOp.gtr (LO.t 58) (LO.t 59)), LOp.mk (some 61) (some (53, true)) (LK.pick (LO.t 57) (LO.c (D.bool true)) (LO.t 60)), LOp.mk (some 62) none (LK.pick (LO.t 53) (LO.t 61) (LO.c (D.bool false))), LOp.mk (some 4) none (LK.mov (LO.t 62))]
def c3_13 : LC := LC.ret
def c3_14 : LC := LC.seq c3_12 c3_13
def c3_15 : LC := LC.seq c3_11 c3_14
def c3_16 : LC := LC.seq c3_4 c3_15
def c3_17 : LC := LC.seq c3_3 c3_16
def c3_18 : LC := LC.seq c3_2 c3_17
def c3_19 : LC := LC.seq c3_1 c3_18
def c3_20 : LC := LC.seq c3_0 c3_19
def c3 : LF := LF.mk 63 c3_20 [RL.tmp 4]
set_option maxRecDepth 100000 in
theorem low3 : lowFn Try.prog Try.f3 = some c3 := by kernel_rfl
def c4_0 : LC := LC.ops [LOp.mk (some 2) none (LK.mov (LO.c (D.bool false)))]
def c4_1 : LC := LC.ops [LOp.mk (some 7) none (LK.mov (LO.t 0)), LOp.mk (some 8) none (LK.len false (LO.t 7)), LOp.mk (some 9) none (LK.bin BinOp.gtr (LO.t 8) (LO.c (D.int IntKind.i64 30)))]
def c4_2 : LC := LC.ops [LOp.mk (some 10) none (LK.call (LO.c (D.fn 11 [])) []), LOp.mk (some 2) none (LK.mov (LO.t 10))]
def c4_3 : LC := LC.ret
def c4_4 : LC := LC.seq c4_2 c4_3
def c4_5 : LC := LC.skip
def c4_6 : LC := LC.cond (LO.t 9) c4_4 c4_5
def c4_7 : LC := LC.seq c4_1 c4_6
def c4_8 : LC := LC.ops [LOp.mk (some 11) none (LK.mov (LO.t 0)), LOp.mk (some 12) none (LK.call (LO.c (D.fn 12 [])) [LO.t 11]), LOp.mk (some 3) none (LK.mov (LO.t 12))]
def c4_9 : LC := LC.ops [LOp.mk (some 13) none (LK.mov (LO.t 3)), LOp.mk (some 14) none (LK.call (LO.c (D.fn 13 [])) [LO.t 13, LO.c (D.int IntKind.u64 18446744073709551615)]), LOp.mk (some 4) none (LK.mov (LO.t 14))]
def c4_10 : LC := LC.ops [LOp.mk (some 15) none (LK.mov (LO.t 3)), LOp.mk (some 16) none (LK.call (LO.c (D.fn 14 [])) [LO.t 15])]
def c4_11 : LC := LC.ops [LOp.mk (some 17) none (LK.call (LO.c (D.fn 11 [])) []), LOp.mk (some 18) none (LK.mov (LO.t 17)), LOp.mk (some 19) (some (18, true)) (LK.mov (LO.t 4)), LOp.mk (some 20) (some (18, true)) (LK.bin BinOp.eql (LO.t 19) (LO.c (D.int IntKind.u64 0))), LOp.mk (some 21) none (LK.pick (LO.t 18) (LO.t 20) (LO.c (D.bool false))), LOp.mk (some 2) none (LK.mov (LO.t 21))]
def c4_12 : LC := LC.ret
def c4_13 : LC := LC.seq c4_11 c4_12
def c4_14 : LC := LC.skip
def c4_15 : LC := LC.cond (LO.t 16) c4_13 c4_14
def c4_16 : LC := LC.seq c4_10 c4_15
def c4_17 : LC := LC.ops [LOp.mk (some 22) none (LK.call (LO.c (D.fn 8 [])) []), LOp.mk (some 5) none (LK.mov (LO.t 22))]
def c4_18 : LC := LC.ops [LOp.mk (some 23) none (LK.mov (LO.t 5)), LOp.mk (some 24) none (LK.mov (LO.t 4)), LOp.mk (some 25) none (LK.call (LO.c (D.fn 9 [])) [LO.t 23, LO.t 24])]
def c4_19 : LC := LC.ops [LOp.mk (some 26) none (LK.mov (LO.t 5)), LOp.mk (some 27) none (LK.call (LO.c (D.fn 10 [])) [LO.t 26]), LOp.mk (some 28) none (LK.b2s (LO.t 27)), LOp.mk (some 6) none (LK.mov (LO.t 28))]
def c4_20 : LC := LC.ops [LOp.mk (some 29) none (LK.call (LO.c (D.fn 11 [])) []), LOp.mk (some 30) none (LK.mov (LO.t 29)), LOp.mk (some 31) (some (30, true)) (LK.mov (LO.t 6)), LOp.mk (some 32) (some (30, true)) (LK.len true (LO.t 31)), LOp.mk (some 33) (some (30, true)) (LK.mov (LO.t 0)), LOp.mk (some 34) (some (30, true)) (LK.len false (LO.t 33)), LOp.mk (some 35) (some (30, true)) (LK.bin BinOp.leq (LO.t 32) (LO.t 34)), LOp.mk (some 36) none (LK.pick (LO.t 30) (LO.t 35) (LO.c (D.bool false))), LOp.mk (some 37) none (LK.mov (LO.t 36)), LOp.mk (some 38) (some (37, true)) (LK.mov (LO.t 6)), LOp.mk (some 39) (some (37, true)) (LK.mov (LO.t 0)), LOp.mk (some 40) (some (37, true)) (LK.mov (LO.t 6)), LOp.mk (some 41) (some (37, true)) (LK.len true (LO.t 40)), LOp.mk (some 42) (some (37, true)) (LK.mov (LO.t 0)), LOp.mk (some 43) (some (37, true)) (LK.len false (LO.t 42)), LOp.mk (some 44) (some (37, true)) (LK.mn (LO.t 41) (LO.t 43)), LOp.mk (some 45) (some (37, true)) (LK.slice false 1 (LO.t 39) none (some (LO.t 44))), LOp.mk (some 46) (some (37, true)) (LK.b2s (LO.t 45)), LOp.mk (some 47) (some (37, true)) (LK.bin BinOp.eql (LO.t 38) (LO.t 46)), LOp.mk (some 48) none (LK.pick (LO.t 37) (LO.t 47) (LO.c (D.bool false))), LOp.mk (some 49) none (LK.mov (LO.t 48)), LOp.mk (some 50) (some (49, true)) (LK.mov (LO.t 3)), LOp.mk (some 51) (some (49, true)) (LK.call (LO.c (D.fn 15 [])) [LO.t 50]), LOp.mk (some 52) (some (49, true)) (LK.mov (LO.t 6)), LOp.mk (some 53) (some (49, true)) (LK.len true (LO.t 52)), LOp.mk (some 54) (some (49, true)) (LK.mov (LO.t 0)), LOp.mk (some 55) (some (49, true)) (LK.len false (LO.t 54)), LOp.mk (some 56) (some (49, true)) (LK.bin BinOp.eql (LO.t 53) (LO.t 55)), LOp.mk (some 57) (some (49, true)) (LK.eq ET.bool false (LO.t 51) (LO.t 56)), LOp.mk (some 58) none (LK.pick (LO.t 49) (LO.t 57) (LO.c (D.bool false))), LOp.mk (some 2) none (LK.mov (LO.t 58))]
def c4_21 : LC := LC.ret
def c4_22 : LC := LC.seq c4_20 c4_21
def c4_23 : LC := LC.seq c4_19 c4_22
def c4_24 : LC := LC.seq c4_18 c4_23
def c4_25 : LC := LC.seq c4_17 c4_24
def c4_26 : LC := LC.seq c4_16 c4_25
def c4_27 : LC := LC.seq c4_9 c4_26
def c4_28 : LC := LC.seq c4_8 c4_27
def c4_29 : LC := LC.seq c4_7 c4_28
def c4_30 : LC := LC.seq c4_0 c4_29
def c4 : LF := LF.mk 59 c4_30 [RL.tmp 2]
set_option maxRecDepth 100000 in
theorem low4 : lowFn Try.prog Try.f4 = some c4 := by kernel_rfl
def c5_0 : LC := LC.ops [LOp.mk (some 4) none (LK.mov (LO.c (D.bool false)))]
def c5_1 : LC := LC.ops [LOp.mk (some 9) none (LK.mov (LO.t 0)), LOp.mk (some 10) none (LK.len false (LO.t 9)), LOp.mk (some 11) none (LK.bin BinOp.gtr (LO.t 10) (LO.c (D.int IntKind.i64 50))), LOp.mk (some 12) none (LK.mov (LO.t 11)), LOp.mk (some 13) (some (12, false)) (LK.mov (LO.t 0)), LOp.mk (some 14) (some (12, false)) (LK.len false (LO.t 13)), LOp.mk (some 15) (some (12, false)) (LK.mov (LO.t 1)), LOp.mk (some 16) (some (12, false)) (LK.len false (LO.t 15)), LOp.mk (some 17) (some (12, false)) (LK.bin BinOp.neq (LO.t 14) (LO.t 16)), LOp.mk (some 18) none (LK.pick (LO.t 12) (LO.c (D.bool true)) (LO.t 17))]
def c5_2 : LC := LC.ops [LOp.mk (some 19) none (LK.call (LO.c (D.fn 11 [])) []), LOp.mk (some 4) none (LK.mov (LO.t 19))]
def c5_3 : LC := LC.ret
def c5_4 : LC := LC.seq c5_2 c5_3
def c5_5 : LC := LC.skip
def c5_6 : LC := LC.cond (LO.t 18) c5_4 c5_5
def c5_7 : LC := LC.seq c5_1 c5_6
def c5_8 : LC := LC.ops [LOp.mk (some 20) none (LK.call (LO.c (D.fn 8 [])) []), LOp.mk (some 21) none (LK.call (LO.c (D.fn 8 [])) []), LOp.mk (some 5) none (LK.mov (LO.t 20)), LOp.mk (some 6) none (LK.mov (LO.t 21))]
def c5_9 : LC := LC.ops [LOp.mk (some 7) none (LK.mov (LO.c (D.bool true)))]
def c5_10 : LC := LC.ops [LOp.mk (some 22) none (LK.mov (LO.t 0)), LOp.mk (some 23) none (LK.len false (LO.t 22)), LOp.mk (some 24) none (LK.mov (LO.c (D.int IntKind.i64 0)))]
def c5_11 : LC := LC.ops [LOp.mk (some 25) none (LK.bin BinOp.lss (LO.t 24) (LO.t 23))]
def c5_12 : LC := LC.skip
def c5_13 : LC := LC.cond (LO.t 25) c5_12 (LC.exit 0)
def c5_14 : LC := LC.ops [LOp.mk (some 26) none (LK.mov (LO.t 24)), LOp.mk (some 8) none (LK.mov (LO.t 26))]
def c5_15 : LC := LC.ops [LOp.mk (some 27) none (LK.mov (LO.t 0)), LOp.mk (some 28) none (LK.mov (LO.t 8)), LOp.mk (some 29) none (LK.iaddr 1 (LO.t 27) (LO.t 28)), LOp.mk (some 30) none (LK.load none (LO.t 29)), LOp.mk (some 31) none (LK.len true (LO.t 30)), LOp.mk (some 32) none (LK.bin BinOp.gtr (LO.t 31) (LO.c (D.int IntKind.i64 200))), LOp.mk (some 33) none (LK.mov (LO.t 32)), LOp.mk (some 34) (some (33, false)) (LK.mov (LO.t 1)), LOp.mk (some 35) (some (33, false)) (LK.mov (LO.t 8)), LOp.mk (some 36) (some (33, false)) (LK.iaddr 1 (LO.t 34) (LO.t 35)), LOp.mk (some 37) (some (33, false)) (LK.load none (LO.t 36)), LOp.mk (some 38) (some (33, false)) (LK.len true (LO.t 37)), LOp.mk (some 39) (some (33, false)) (LK.bin BinOp.gtr (LO.t 38) (LO.c (D.int IntKind.i64 200))), LOp.mk (some 40) none (LK.pick (LO.t 33) (LO.c (D.bool true)) (LO.t 39))]
def c5_16 : LC := LC.ops [LOp.mk (some 41) none (LK.call (LO.c (D.fn 11 [])) []), LOp.mk (some 4) none (LK.mov (LO.t 41))]
def c5_17 : LC := LC.ret
def c5_18 : LC := LC.seq c5_16 c5_17
def c5_19 : LC := LC.skip
def c5_20 : LC := LC.cond (LO.t 40) c5_18 c5_19
def c5_21 : LC := LC.seq c5_15 c5_20
def c5_22 : LC := LC.ops [LOp.mk (some 42) none (LK.mov (LO.t 5)), LOp.mk (some 43) none (LK.mov (LO.t 0)), LOp.mk (some 44) none (LK.mov (LO.t 8)), LOp.mk (some 45) none (LK.iaddr 1 (LO.t 43) (LO.t 44)), LOp.mk (some 46) none (LK.load none (LO.t 45)), LOp.mk (some 47) none (LK.call (LO.c (D.fn 16 [])) [LO.t 42, LO.t 46])]
def c5_23 : LC := LC.ops [LOp.mk (some 48) none (LK.mov (LO.t 6)), LOp.mk (some 49) none (LK.mov (LO.t 1)), LOp.mk (some 50) none (LK.mov (LO.t 8)), LOp.mk (some 51) none (LK.iaddr 1 (LO.t 49) (LO.t 50)), LOp.mk (some 52) none (LK.load none (LO.t 51)), LOp.mk (some 53) none (LK.call (LO.c (D.fn 16 [])) [LO.t 48, LO.t 52])]
def c5_24 : LC := LC.opsX [(LOp.mk (some 54) none (LK.mov (LO.t 7)), []), (LOp.mk (some 55) none (LK.mov (LO.t 54)), []), (LOp.mk (some 56) (some (55, true)) (LK.mov (LO.t 0)), []), (LOp.mk (some 57) (some (55, true)) (LK.mov (LO.t 8)), []), (LOp.mk (some 58) (some (55, true)) (LK.iaddr 1 (LO.t 56) (LO.t 57)), []), (LOp.mk (some 59) (some (55, true)) (LK.load none (LO.t 58)), []), (LOp.mk (some 60) (some (55, true)) (LK.mov (LO.t 1)), []), (LOp.mk (some 61) (some (55, true)) (LK.mov (LO.t 8)), []), (LOp.mk (some 62) (some (55, true)) (LK.iaddr 1 (LO.t 60) (LO.t 61)), []), (LOp.mk (some 63) (some (55, true)) (LK.load none (LO.t 62)), []), (LOp.mk (some 64) (some (55, true)) (LK.bin BinOp.eql (LO.t 59) (LO.t 63)), []), (LOp.mk (some 65) none (LK.pick (LO.t 55) (LO.t 64) (LO.c (D.bool false))), []), (LOp.mk (some 7) none (LK.mov (LO.t 65)), [])]
def c5_25 : LC := LC.seq c5_23 c5_24
def c5_26 : LC := LC.seq c5_22 c5_25
def c5_27 : LC := LC.seq c5_21 c5_26
def c5_28 : LC := LC.seq c5_14 c5_27
def c5_29 : LC := LC.block 1 c5_28
def c5_30 : LC := LC.ops [LOp.mk (some 66) none (LK.bin BinOp.add (LO.t 24) (LO.c (D.int IntKind.i64 1))), LOp.mk (some 24) none (LK.mov (LO.t 66))]
def c5_31 : LC := LC.seq c5_29 c5_30
def c5_32 : LC := LC.seq c5_13 c5_31
def c5_33 : LC := LC.seq c5_11 c5_32
def c5_34 : LC := LC.loop c5_33
def c5_35 : LC := LC.block 0 c5_34
def c5_36 : LC := LC.seq c5_10 c5_35
def c5_37 : LC := LC.opsX [(LOp.mk (some 67) none (LK.callX (LO.c (D.fn 11 [])) []), []), (LOp.mk (some 68) none (LK.mov (LO.t 67)), []), (LOp.mk (some 69) (some (68, true)) (LK.mov (LO.t 5)), []), (LOp.mk (some 70) (some (68, true)) (LK.callX (LO.c (D.fn 10 [])) [LO.t 69]), []), (LOp.mk (some 71) (some (68, true)) (LK.b2s (LO.t 70)), []), (LOp.mk (some 72) (some (68, true)) (LK.mov (LO.t 6)), []), (LOp.mk (some 73) (some (68, true)) (LK.callX (LO.c (D.fn 10 [])) [LO.t 72]), [70]), (LOp.mk (some 74) (some (68, true)) (LK.b2s (LO.t 73)), []), (LOp.mk (some 75) (some (68, true)) (LK.bin BinOp.eql (LO.t 71) (LO.t 74)), []), (LOp.mk (some 76) (some (68, true)) (LK.mov (LO.t 7)), []), (LOp.mk (some 77) (some (68, true)) (LK.eq ET.bool false (LO.t 75) (LO.t 76)), []), (LOp.mk (some 78) none (LK.pick (LO.t 68) (LO.t 77) (LO.c (D.bool false))), []), (LOp.mk (some 4) none (LK.mov (LO.t 78)), [])]
def c5_38 : LC := LC.ret
def c5_39 : LC := LC.seq c5_37 c5_38
def c5_40 : LC := LC.seq c5_36 c5_39
def c5_41 : LC := LC.seq c5_9 c5_40
def c5_42 : LC := LC.seq c5_8 c5_41
def c5_43 : LC := LC.seq c5_7 c5_42
def c5_44 : LC := LC.seq c5_0 c5_43
def c5 : LF := LF.mk 79 c5_44 [RL.tmp 4]
set_option maxRecDepth 100000 in
theorem low5 : lowFn Try.prog Try.f5 = some c5 := by kernel_rfl
def c6_0 : LC := LC.ops [LOp.mk (some 2) none (LK.mov (LO.c (D.bool false)))]
def c6_1 : LC := LC.ops [LOp.mk (some 11) none (LK.mov (LO.t 0)), LOp.mk (some 12) none (LK.len false (LO.t 11)), LOp.mk (some 13) none (LK.bin BinOp.gtr (LO.t 12) (LO.c (D.int IntKind.i64 100)))]
def c6_2 : LC := LC.ops [LOp.mk (some 14) none (LK.call (LO.c (D.fn 11 [])) []), LOp.mk (some 2) none (LK.mov (LO.t 14))]
def c6_3 : LC := LC.ret
def c6_4 : LC := LC.seq c6_2 c6_3
def c6_5 : LC := LC.skip
def c6_6 : LC := LC.cond (LO.t 13) c6_4 c6_5
def c6_7 : LC := LC.seq c6_1 c6_6
def c6_8 : LC := LC.ops [LOp.mk (some 15) none (LK.call (LO.c (D.fn 8 [])) []), LOp.mk (some 3) none (LK.mov (LO.t 15))]
def c6_9 : LC := LC.ops [LOp.mk (some 4) none (LK.mov (LO.c (D.str (ByteArray.mk (Array.mk [])))))]
def c6_10 : LC := LC.ops [LOp.mk (some 16) none (LK.mov (LO.t 0)), LOp.mk (some 17) none (LK.len false (LO.t 16)), LOp.mk (some 18) none (LK.mov (LO.c (D.int IntKind.i64 0)))]
def c6_11 : LC := LC.ops [LOp.mk (some 19) none (LK.bin BinOp.lss (LO.t 18) (LO.t 17))]
def c6_12 : LC := LC.skip
def c6_13 : LC := LC.cond (LO.t 19) c6_12 (LC.exit 0)
def c6_14 : LC := LC.ops [LOp.mk (some 20) none (LK.iaddr 5 (LO.t 16) (LO.t 18)), LOp.mk (some 21) none (LK.load (some 5) (LO.t 20)), LOp.mk (some 6) none (LK.alloc [D.int IntKind.i64 0, D.int IntKind.u64 0, D.int IntKind.i64 0, D.str (ByteArray.mk (Array.mk [])), D.bool false]), LOp.mk none none (LK.store 5 (LO.t 6) (LO.t 21))]
def c6_15 : LC := LC.ops [LOp.mk (some 22) none (LK.faddr 3 (LO.t 6)), LOp.mk (some 23) none (LK.load none (LO.t 22)), LOp.mk (some 24) none (LK.len true (LO.t 23)), LOp.mk (some 25) none (LK.bin BinOp.gtr (LO.t 24) (LO.c (D.int IntKind.i64 200)))]
def c6_16 : LC := LC.ops [LOp.mk (some 26) none (LK.call (LO.c (D.fn 11 [])) []), LOp.mk (some 2) none (LK.mov (LO.t 26))]
def c6_17 : LC := LC.ret
def c6_18 : LC := LC.seq c6_16 c6_17
def c6_19 : LC := LC.skip
def c6_20 : LC := LC.cond (LO.t 25) c6_18 c6_19
def c6_21 : LC := LC.seq c6_15 c6_20
def c6_22 : LC := LC.ops [LOp.mk (some 27) none (LK.faddr 0 (LO.t 6)), LOp.mk (some 28) none (LK.load none (LO.t 27))]
def c6_23 : LC := LC.ops [LOp.mk (some 39) none (LK.bin BinOp.eql (LO.t 28) (LO.c (D.int IntKind.i64 0))), LOp.mk (some 38) none (LK.mov (LO.t 39))]
def c6_24 : LC := LC.ops [LOp.mk (some 40) none (LK.mov (LO.t 3)), LOp.mk (some 41) none (LK.faddr 1 (LO.t 6)), LOp.mk (some 42) none (LK.load none (LO.t 41)), LOp.mk (some 43) none (LK.call (LO.c (D.fn 9 [])) [LO.t 40, LO.t 42])]
def c6_25 : LC := LC.ops [LOp.mk (some 44) none (LK.mov (LO.t 4)), LOp.mk (some 45) none (LK.faddr 1 (LO.t 6)), LOp.mk (some 46) none (LK.load none (LO.t 45)), LOp.mk (some 47) none (LK.call (LO.c (D.fn 17 [])) [LO.t 46]), LOp.mk (some 48) none (LK.bin BinOp.add (LO.t 44) (LO.t 47)), LOp.mk (some 4) none (LK.mov (LO.t 48))]
def c6_26 : LC := LC.seq c6_24 c6_25
def c6_27 : LC := LC.ops [LOp.mk (some 50) none (LK.bin BinOp.eql (LO.t 28) (LO.c (D.int IntKind.i64 1))), LOp.mk (some 49) none (LK.mov (LO.t 50))]
def c6_28 : LC := LC.ops [LOp.mk (some 51) none (LK.mov (LO.t 3)), LOp.mk (some 52) none (LK.faddr 2 (LO.t 6)), LOp.mk (some 53) none (LK.load none (LO.t 52)), LOp.mk (some 54) none (LK.call (LO.c (D.fn 18 [])) [LO.t 51, LO.t 53])]
def c6_29 : LC := LC.ops [LOp.mk (some 55) none (LK.mov (LO.t 4)), LOp.mk (some 56) none (LK.faddr 2 (LO.t 6)), LOp.mk (some 57) none (LK.load none (LO.t 56)), LOp.mk (some 58) none (LK.call (LO.c (D.fn 19 [])) [LO.t 57]), LOp.mk (some 59) none (LK.bin BinOp.add (LO.t 55) (LO.t 58)), LOp.mk (some 4) none (LK.mov (LO.t 59))]
def c6_30 : LC := LC.seq c6_28 c6_29
def c6_31 : LC := LC.ops [LOp.mk (some 61) none (LK.bin BinOp.eql (LO.t 28) (LO.c (D.int IntKind.i64 2))), LOp.mk (some 60) none (LK.mov (LO.t 61))]
def c6_32 : LC := LC.ops [LOp.mk (some 62) none (LK.mov (LO.t 3)), LOp.mk (some 63) none (LK.faddr 3 (LO.t 6)), LOp.mk (some 64) none (LK.load none (LO.t 63)), LOp.mk (some 65) none (LK.call (LO.c (D.fn 16 [])) [LO.t 62, LO.t 64])]
def c6_33 : LC := LC.ops [LOp.mk (some 66) none (LK.mov (LO.t 4)), LOp.mk (some 67) none (LK.faddr 3 (LO.t 6)), LOp.mk (some 68) none (LK.load none (LO.t 67)), LOp.mk (some 69) none (LK.call (LO.c (D.fn 20 [])) [LO.t 68]), LOp.mk (some 70) none (LK.bin BinOp.add (LO.t 66) (LO.t 69)), LOp.mk (some 4) none (LK.mov (LO.t 70))]
def c6_34 : LC := LC.seq c6_32 c6_33
def c6_35 : LC := LC.ops [LOp.mk (some 29) none (LK.mov (LO.t 3)), LOp.mk (some 30) none (LK.faddr 4 (LO.t 6)), LOp.mk (some 31) none (LK.load none (LO.t 30)), LOp.mk (some 32) none (LK.call (LO.c (D.fn 21 [])) [LO.t 29, LO.t 31])]
def c6_36 : LC := LC.ops [LOp.mk (some 33) none (LK.mov (LO.t 4)), LOp.mk (some 34) none (LK.faddr 4 (LO.t 6)), LOp.mk (some 35) none (LK.load none (LO.t 34)), LOp.mk (some 36) none (LK.call (LO.c (D.fn 22 [])) [LO.t 35]), LOp.mk (some 37) none (LK.bin BinOp.add (LO.t 33) (LO.t 36)), LOp.mk (some 4) none (LK.mov (LO.t 37))]
def c6_37 : LC := LC.seq c6_35 c6_36
def c6_38 : LC := LC.cond (LO.t 60) c6_34 c6_37
def c6_39 : LC := LC.seq c6_31 c6_38
def c6_40 : LC := LC.cond (LO.t 49) c6_30 c6_39
def c6_41 : LC := LC.seq c6_27 c6_40
def c6_42 : LC := LC.cond (LO.t 38) c6_26 c6_41
def c6_43 : LC := LC.seq c6_23 c6_42
def c6_44 : LC := LC.block 2 c6_43
def c6_45 : LC := LC.seq c6_22 c6_44
def c6_46 : LC := LC.seq c6_21 c6_45
def c6_47 : LC := LC.seq c6_14 c6_46
def c6_48 : LC := LC.block 1 c6_47
def c6_49 : LC := LC.ops [LOp.mk (some 71) none (LK.bin BinOp.add (LO.t 18) (LO.c (D.int IntKind.i64 1))), LOp.mk (some 18) none (LK.mov (LO.t 71))]
def c6_50 : LC := LC.seq c6_48 c6_49
def c6_51 : LC := LC.seq c6_13 c6_50
def c6_52 : LC := LC.seq c6_11 c6_51
def c6_53 : LC := LC.loop c6_52
def c6_54 : LC := LC.block 0 c6_53
def c6_55 : LC := LC.seq c6_10 c6_54
def c6_56 : LC := LC.ops [LOp.mk (some 72) none (LK.mov (LO.t 3)), LOp.mk (some 73) none (LK.call (LO.c (D.fn 10 [])) [LO.t 72]), LOp.mk (some 74) none (LK.b2s (LO.t 73)), LOp.mk (some 75) none (LK.mov (LO.t 4)), LOp.mk (some 76) none (LK.bin BinOp.neq (LO.t 74) (LO.t 75))]
def c6_57 : LC := LC.ops [LOp.mk (some 2) none (LK.mov (LO.c (D.bool false)))]
def c6_58 : LC := LC.ret
def c6_59 : LC := LC.seq c6_57 c6_58
def c6_60 : LC := LC.skip
def c6_61 : LC := LC.cond (LO.t 76) c6_59 c6_60
def c6_62 : LC := LC.seq c6_56 c6_61
def c6_63 : LC := LC.ops [LOp.mk (some 77) none (LK.mov (LO.t 3)), LOp.mk (some 78) none (LK.call (LO.c (D.fn 10 [])) [LO.t 77]), LOp.mk (some 79) none (LK.call (LO.c (D.fn 12 [])) [LO.t 78]), LOp.mk (some 7) none (LK.mov (LO.t 79))]
def c6_64 : LC := LC.ops [LOp.mk (some 80) none (LK.mov (LO.t 0)), LOp.mk (some 81) none (LK.len false (LO.t 80)), LOp.mk (some 82) none (LK.mov (LO.c (D.int IntKind.i64 0)))]
def c6_65 : LC := LC.ops [LOp.mk (some 83) none (LK.bin BinOp.lss (LO.t 82) (LO.t 81))]
def c6_66 : LC := LC.skip
def c6_67 : LC := LC.cond (LO.t 83) c6_66 (LC.exit 3)
def c6_68 : LC := LC.ops [LOp.mk (some 84) none (LK.iaddr 5 (LO.t 80) (LO.t 82)), LOp.mk (some 85) none (LK.load (some 5) (LO.t 84)), LOp.mk (some 9) none (LK.alloc [D.int IntKind.i64 0, D.int IntKind.u64 0, D.int IntKind.i64 0, D.str (ByteArray.mk (Array.mk [])), D.bool false]), LOp.mk none none (LK.store 5 (LO.t 9) (LO.t 85))]
def c6_69 : LC := LC.ops [LOp.mk (some 10) none (LK.mov (LO.c (D.bool true)))]
def c6_70 : LC := LC.ops [LOp.mk (some 86) none (LK.faddr 0 (LO.t 9)), LOp.mk (some 87) none (LK.load none (LO.t 86))]
def c6_71 : LC := LC.ops [LOp.mk (some 94) none (LK.bin BinOp.eql (LO.t 87) (LO.c (D.int IntKind.i64 0))), LOp.mk (some 93) none (LK.mov (LO.t 94))]
def c6_72 : LC := LC.opsX [(LOp.mk (some 95) none (LK.mov (LO.t 7)), []), (LOp.mk (some 96) none (LK.callX (LO.c (D.fn 13 [])) [LO.t 95, LO.c (D.int IntKind.u64 18446744073709551615)]), [97]), (LOp.mk (some 97) none (LK.faddr 1 (LO.t 9)), []), (LOp.mk (some 98) none (LK.load none (LO.t 97)), []), (LOp.mk (some 99) none (LK.bin BinOp.eql (LO.t 96) (LO.t 98)), []), (LOp.mk (some 10) none (LK.mov (LO.t 99)), [])]
def c6_73 : LC := LC.ops [LOp.mk (some 101) none (LK.bin BinOp.eql (LO.t 87) (LO.c (D.int IntKind.i64 1))), LOp.mk (some 100) none (LK.mov (LO.t 101))]
def c6_74 : LC := LC.opsX [(LOp.mk (some 102) none (LK.mov (LO.t 7)), []), (LOp.mk (some 103) none (LK.callX (LO.c (D.fn 23 [])) [LO.t 102]), [104]), (LOp.mk (some 104) none (LK.faddr 2 (LO.t 9)), []), (LOp.mk (some 105) none (LK.load none (LO.t 104)), []), (LOp.mk (some 106) none (LK.bin BinOp.eql (LO.t 103) (LO.t 105)), []), (LOp.mk (some 10) none (LK.mov (LO.t 106)), [])]
def c6_75 : LC := LC.ops [LOp.mk (some 108) none (LK.bin BinOp.eql (LO.t 87) (LO.c (D.int IntKind.i64 2))), LOp.mk (some 107) none (LK.mov (LO.t 108))]
def c6_76 : LC := LC.opsX [(LOp.mk (some 109) none (LK.mov (LO.t 7)), []), (LOp.mk (some 110) none (LK.callX (LO.c (D.fn 24 [])) [LO.t 109, LO.c (D.int IntKind.i64 200)]), [111]), (LOp.mk (some 111) none (LK.faddr 3 (LO.t 9)), []), (LOp.mk (some 112) none (LK.load none (LO.t 111)), []), (LOp.mk (some 113) none (LK.bin BinOp.eql (LO.t 110) (LO.t 112)), []), (LOp.mk (some 10) none (LK.mov (LO.t 113)), [])]
def c6_77 : LC := LC.opsX [(LOp.mk (some 88) none (LK.mov (LO.t 7)), []), (LOp.mk (some 89) none (LK.callX (LO.c (D.fn 25 [])) [LO.t 88]), [90]), (LOp.mk (some 90) none (LK.faddr 4 (LO.t 9)), []), (LOp.mk (some 91) none (LK.load none (LO.t 90)), []), (LOp.mk (some 92) none (LK.eq ET.bool false (LO.t 89) (LO.t 91)), []), (LOp.mk (some 10) none (LK.mov (LO.t 92)), [])]
def c6_78 : LC := LC.cond (LO.t 107) c6_76 c6_77
def c6_79 : LC := LC.seq c6_75 c6_78
def c6_80 : LC := LC.cond (LO.t 100) c6_74 c6_79
def c6_81 : LC := LC.seq c6_73 c6_80
def c6_82 : LC := LC.cond (LO.t 93) c6_72 c6_81
def c6_83 : LC := LC.seq c6_71 c6_82
def c6_84 : LC := LC.block 5 c6_83
def c6_85 : LC := LC.seq c6_70 c6_84
def c6_86 : LC := LC.ops [LOp.mk (some 114) none (LK.mov (LO.t 10)), LOp.mk (some 115) none (LK.un UnOp.not (LO.t 114)), LOp.mk (some 116) none (LK.mov (LO.t 115)), LOp.mk (some 117) (some (116, false)) (LK.mov (LO.t 7)), LOp.mk (some 118) (some (116, false)) (LK.call (LO.c (D.fn 14 [])) [LO.t 117]), LOp.mk (some 119) none (LK.pick (LO.t 116) (LO.c (D.bool true)) (LO.t 118))]
def c6_87 : LC := LC.ops [LOp.mk (some 2) none (LK.mov (LO.c (D.bool false)))]
def c6_88 : LC := LC.ret
def c6_89 : LC := LC.seq c6_87 c6_88
def c6_90 : LC := LC.skip
def c6_91 : LC := LC.cond (LO.t 119) c6_89 c6_90
def c6_92 : LC := LC.seq c6_86 c6_91
def c6_93 : LC := LC.seq c6_85 c6_92
def c6_94 : LC := LC.seq c6_69 c6_93
def c6_95 : LC := LC.seq c6_68 c6_94
def c6_96 : LC := LC.block 4 c6_95
def c6_97 : LC := LC.ops [LOp.mk (some 120) none (LK.bin BinOp.add (LO.t 82) (LO.c (D.int IntKind.i64 1))), LOp.mk (some 82) none (LK.mov (LO.t 120))]
def c6_98 : LC := LC.seq c6_96 c6_97
def c6_99 : LC := LC.seq c6_67 c6_98
def c6_100 : LC := LC.seq c6_65 c6_99
def c6_101 : LC := LC.loop c6_100
def c6_102 : LC := LC.block 3 c6_101
def c6_103 : LC := LC.seq c6_64 c6_102
def c6_104 : LC := LC.ops [LOp.mk (some 121) none (LK.call (LO.c (D.fn 11 [])) []), LOp.mk (some 122) none (LK.mov (LO.t 121)), LOp.mk (some 123) (some (122, true)) (LK.mov (LO.t 7)), LOp.mk (some 124) (some (122, true)) (LK.call (LO.c (D.fn 15 [])) [LO.t 123]), LOp.mk (some 125) none (LK.pick (LO.t 122) (LO.t 124) (LO.c (D.bool false))), LOp.mk (some 2) none (LK.mov (LO.t 125))]
def c6_105 : LC := LC.ret
def c6_106 : LC := LC.seq c6_104 c6_105
def c6_107 : LC := LC.seq c6_103 c6_106
def c6_108 : LC := LC.seq c6_63 c6_107
def c6_109 : LC := LC.seq c6_62 c6_108
def c6_110 : LC := LC.seq c6_55 c6_109
def c6_111 : LC := LC.seq c6_9 c6_110
def c6_112 : LC := LC.seq c6_8 c6_111
def c6_113 : LC := LC.seq c6_7 c6_112
def c6_114 : LC := LC.seq c6_0 c6_113
def c6 : LF := LF.mk 126 c6_114 [RL.tmp 2]
set_option maxRecDepth 100000 in
theorem low6 : lowFn Try.prog Try.f6 = some c6 := by kernel_rfl
def c7_0 : LC := LC.ops [LOp.mk (some 1) none (LK.box (LO.t 0)), LOp.mk (some 2) none (LK.mov (LO.c (D.bool false)))]
def c7_1 : LC := LC.ops [LOp.mk (some 3) none (LK.mov (LO.c D.nilp))]
def c7_2 : LC := LC.ops [LOp.mk (some 5) none (LK.mov (LO.t 3)), LOp.mk (some 6) none (LK.faddr 1 (LO.t 1)), LOp.mk (some 7) none (LK.load none (LO.t 6)), LOp.mk (some 8) none (LK.call (LO.c (D.fn 9 [])) [LO.t 5, LO.t 7])]
def c7_3 : LC := LC.ops [LOp.mk (some 9) none (LK.mov (LO.t 3)), LOp.mk (some 10) none (LK.faddr 2 (LO.t 1)), LOp.mk (some 11) none (LK.load none (LO.t 10)), LOp.mk (some 12) none (LK.call (LO.c (D.fn 18 [])) [LO.t 9, LO.t 11])]
def c7_4 : LC := LC.ops [LOp.mk (some 13) none (LK.mov (LO.t 3)), LOp.mk (some 14) none (LK.faddr 3 (LO.t 1)), LOp.mk (some 15) none (LK.load none (LO.t 14)), LOp.mk (some 16) none (LK.call (LO.c (D.fn 16 [])) [LO.t 13, LO.t 15])]
def c7_5 : LC := LC.ops [LOp.mk (some 17) none (LK.mov (LO.t 3)), LOp.mk (some 18) none (LK.faddr 4 (LO.t 1)), LOp.mk (some 19) none (LK.load none (LO.t 18)), LOp.mk (some 20) none (LK.call (LO.c (D.fn 21 [])) [LO.t 17, LO.t 19])]
def c7_6 : LC := LC.ops [LOp.mk (some 4) none (LK.mov (LO.c D.nilp))]
def c7_7 : LC := LC.ops [LOp.mk (some 21) none (LK.call (LO.c (D.fn 11 [])) []), LOp.mk (some 22) none (LK.mov (LO.t 21)), LOp.mk (some 23) (some (22, true)) (LK.mov (LO.t 3)), LOp.mk (some 24) (some (22, true)) (LK.call (LO.c (D.fn 10 [])) [LO.t 23]), LOp.mk (some 25) (some (22, true)) (LK.len false (LO.t 24)), LOp.mk (some 26) (some (22, true)) (LK.bin BinOp.eql (LO.t 25) (LO.c (D.int IntKind.i64 0))), LOp.mk (some 27) none (LK.pick (LO.t 22) (LO.t 26) (LO.c (D.bool false))), LOp.mk (some 28) none (LK.mov (LO.t 27)), LOp.mk (some 29) (some (28, true)) (LK.mov (LO.t 4)), LOp.mk (some 30) (some (28, true)) (LK.faddr 1 (LO.t 1)), LOp.mk (some 31) (some (28, true)) (LK.load none (LO.t 30)), LOp.mk (some 32) (some (28, true)) (LK.call (LO.c (D.fn 13 [])) [LO.t 29, LO.t 31]), LOp.mk (some 33) (some (28, true)) (LK.bin BinOp.eql (LO.t 32) (LO.c (D.int IntKind.u64 0))), LOp.mk (some 34) none (LK.pick (LO.t 28) (LO.t 33) (LO.c (D.bool false))), LOp.mk (some 35) none (LK.mov (LO.t 34)), LOp.mk (some 36) (some (35, true)) (LK.mov (LO.t 4)), LOp.mk (some 37) (some (35, true)) (LK.call (LO.c (D.fn 23 [])) [LO.t 36]), LOp.mk (some 38) (some (35, true)) (LK.bin BinOp.eql (LO.t 37) (LO.c (D.int IntKind.i64 0))), LOp.mk (some 39) none (LK.pick (LO.t 35) (LO.t 38) (LO.c (D.bool false))), LOp.mk (some 40) none (LK.mov (LO.t 39)), LOp.mk (some 41) (some (40, true)) (LK.mov (LO.t 4)), LOp.mk (some 42) (some (40, true)) (LK.faddr 2 (LO.t 1)), LOp.mk (some 43) (some (40, true)) (LK.load none (LO.t 42)), LOp.mk (some 44) (some (40, true)) (LK.call (LO.c (D.fn 24 [])) [LO.t 41, LO.t 43]), LOp.mk (some 45) (some (40, true)) (LK.bin BinOp.eql (LO.t 44) (LO.c (D.str (ByteArray.mk (Array.mk []))))), LOp.mk (some 46) none (LK.pick (LO.t 40) (LO.t 45) (LO.c (D.bool false))), LOp.mk (some 47) none (LK.mov (LO.t 46)), LOp.mk (some 48) (some (47, true)) (LK.mov (LO.t 4)), LOp.mk (some 49) (some (47, true)) (LK.call (LO.c (D.fn 25 [])) [LO.t 48]), LOp.mk (some 50) (some (47, true)) (LK.un UnOp.not (LO.t 49)), LOp.mk (some 51) none (LK.pick (LO.t 47) (LO.t 50) (LO.c (D.bool false))), LOp.mk (some 52) none (LK.mov (LO.t 51)), LOp.mk (some 53) (some (52, true)) (LK.mov (LO.t 4)), LOp.mk (some 54) (some (52, true)) (LK.call (LO.c (D.fn 15 [])) [LO.t 53]), LOp.mk (some 55) (some (52, true)) (LK.un UnOp.not (LO.t 54)), LOp.mk (some 56) none (LK.pick (LO.t 52) (LO.t 55) (LO.c (D.bool false))), LOp.mk (some 57) none (LK.mov (LO.t 56)), LOp.mk (some 58) (some (57, true)) (LK.mov (LO.t 4)), LOp.mk (some 59) (some (57, true)) (LK.call (LO.c (D.fn 14 [])) [LO.t 58]), LOp.mk (some 60) none (LK.pick (LO.t 57) (LO.t 59) (LO.c (D.bool false))), LOp.mk (some 2) none (LK.mov (LO.t 60))]
def c7_8 : LC := LC.ret
def c7_9 : LC := LC.seq c7_7 c7_8
def c7_10 : LC := LC.seq c7_6 c7_9
def c7_11 : LC := LC.seq c7_5 c7_10
def c7_12 : LC := LC.seq c7_4 c7_11
def c7_13 : LC := LC.seq c7_3 c7_12
def c7_14 : LC := LC.seq c7_2 c7_13
def c7_15 : LC := LC.seq c7_1 c7_14
def c7_16 : LC := LC.seq c7_0 c7_15
def c7 : LF := LF.mk 61 c7_16 [RL.tmp 2]
set_option maxRecDepth 100000 in
theorem low7 : lowFn Try.prog Try.f7 = some c7 := by kernel_rfl
def c8_0 : LC := LC.ops [LOp.mk (some 0) none (LK.mov (LO.c D.nilp))]
def c8_1 : LC := LC.ops [LOp.mk (some 1) none (LK.build [D.list (some true) true []] []), LOp.mk (some 2) none (LK.box (LO.t 1)), LOp.mk (some 0) none (LK.mov (LO.t 2))]
def c8_2 : LC := LC.ret
def c8_3 : LC := LC.seq c8_1 c8_2
def c8_4 : LC := LC.seq c8_0 c8_3
def c8 : LF := LF.mk 3 c8_4 [RL.tmp 0]
set_option maxRecDepth 100000 in
theorem low8 : lowFn Try.prog Try.f8 = some c8 := by kernel_rfl
def c9_0 : LC := LC.ops [LOp.mk (some 4) none (LK.mov (LO.t 0)), LOp.mk (some 5) none (LK.eq ET.ptr false (LO.t 4) (LO.c D.nilp))]
def c9_1 : LC := LC.ret
def c9_2 : LC := LC.skip
def c9_3 : LC := LC.cond (LO.t 5) c9_1 c9_2
def c9_4 : LC := LC.seq c9_0 c9_3
def c9_5 : LC := LC.ops [LOp.mk (some 6) none (LK.mov (LO.t 1)), LOp.mk (some 7) none (LK.bin BinOp.geq (LO.t 6) (LO.c (D.int IntKind.u64 128)))]
def c9_6 : LC := LC.skip
def c9_7 : LC := LC.cond (LO.t 7) c9_6 (LC.exit 0)
def c9_8 : LC := LC.seq c9_5 c9_7
def c9_9 : LC := LC.ops [LOp.mk (some 8) none (LK.mov (LO.t 0)), LOp.mk (some 9) none (LK.mov (LO.t 0)), LOp.mk (some 10) none (LK.chk (LO.t 9)), LOp.mk (some 11) none (LK.faddr 0 (LO.t 10)), LOp.mk (some 12) none (LK.load none (LO.t 11)), LOp.mk (some 13) none (LK.mov (LO.t 1)), LOp.mk (some 14) none (LK.conv IntKind.u8 (LO.t 13)), LOp.mk (some 15) none (LK.bin BinOp.or (LO.t 14) (LO.c (D.int IntKind.u8 128))), LOp.mk (some 16) none (LK.slit 1 [LO.t 15]), LOp.mk (some 17) none (LK.app 1 1 (LO.t 12) (LO.t 16)), LOp.mk (some 18) none (LK.chk (LO.t 8)), LOp.mk (some 19) none (LK.faddr 0 (LO.t 18)), LOp.mk none none (LK.store 1 (LO.t 19) (LO.t 17))]
def c9_10 : LC := LC.ops [LOp.mk (some 20) none (LK.mov (LO.t 1)), LOp.mk (some 21) none (LK.bin BinOp.shr (LO.t 20) (LO.c (D.int IntKind.u64 7))), LOp.mk (some 1) none (LK.mov (LO.t 21))]
def c9_11 : LC := LC.seq c9_9 c9_10
def c9_12 : LC := LC.block 1 c9_11
def c9_13 : LC := LC.seq c9_8 c9_12
def c9_14 : LC := LC.loop c9_13
def c9_15 : LC := LC.block 0 c9_14
def c9_16 : LC := LC.ops [LOp.mk (some 22) none (LK.mov (LO.t 0)), LOp.mk (some 23) none (LK.mov (LO.t 0)), LOp.mk (some 24) none (LK.chk (LO.t 23)), LOp.mk (some 25) none (LK.faddr 0 (LO.t 24)), LOp.mk (some 26) none (LK.load none (LO.t 25)), LOp.mk (some 27) none (LK.mov (LO.t 1)), LOp.mk (some 28) none (LK.conv IntKind.u8 (LO.t 27)), LOp.mk (some 29) none (LK.slit 1 [LO.t 28]), LOp.mk (some 30) none (LK.app 1 1 (LO.t 26) (LO.t 29)), LOp.mk (some 31) none (LK.chk (LO.t 22)), LOp.mk (some 32) none (LK.faddr 0 (LO.t 31)), LOp.mk none none (LK.store 1 (LO.t 32) (LO.t 30))]
def c9_17 : LC := LC.seq c9_15 c9_16
def c9_18 : LC := LC.seq c9_4 c9_17
def c9 : LF := LF.mk 33 c9_18 []
set_option maxRecDepth 100000 in
theorem low9 : lowFn Try.prog Try.f9 = some c9 := by kernel_rfl
def c10_0 : LC := LC.ops [LOp.mk (some 2) none (LK.mov (LO.c (D.list (some true) true [])))]
def c10_1 : LC := LC.ops [LOp.mk (some 3) none (LK.mov (LO.t 0)), LOp.mk (some 4) none (LK.eq ET.ptr false (LO.t 3) (LO.c D.nilp))]
def c10_2 : LC := LC.ops [LOp.mk (some 2) none (LK.mov (LO.c (D.list (some true) true [])))]
def c10_3 : LC := LC.ret
def c10_4 : LC := LC.seq c10_2 c10_3
def c10_5 : LC := LC.skip
def c10_6 : LC := LC.cond (LO.t 4) c10_4 c10_5
def c10_7 : LC := LC.seq c10_1 c10_6
def c10_8 : LC := LC.ops [LOp.mk (some 5) none (LK.mov (LO.t 0)), LOp.mk (some 6) none (LK.chk (LO.t 5)), LOp.mk (some 7) none (LK.faddr 0 (LO.t 6)), LOp.mk (some 8) none (LK.load none (LO.t 7)), LOp.mk (some 9) none (LK.call (LO.c (D.fn 26 [])) [LO.t 8]), LOp.mk (some 2) none (LK.mov (LO.t 9))]
def c10_9 : LC := LC.ret
def c10_10 : LC := LC.seq c10_8 c10_9
def c10_11 : LC := LC.seq c10_7 c10_10
def c10_12 : LC := LC.seq c10_0 c10_11
def c10 : LF := LF.mk 10 c10_12 [RL.tmp 2]
set_option maxRecDepth 100000 in
theorem low10 : lowFn Try.prog Try.f10 = some c10 := by kernel_rfl
def c11_0 : LC := LC.ops [LOp.mk (some 0) none (LK.mov (LO.c (D.bool false)))]
def c11_1 : LC := LC.ops [LOp.mk (some 4) none (LK.call (LO.c (D.fn 8 [])) []), LOp.mk (some 1) none (LK.mov (LO.t 4))]
def c11_2 : LC := LC.ops [LOp.mk (some 5) none (LK.mov (LO.t 1)), LOp.mk (some 6) none (LK.call (LO.c (D.fn 9 [])) [LO.t 5, LO.c (D.int IntKind.u64 300)])]
def c11_3 : LC := LC.ops [LOp.mk (some 7) none (LK.mov (LO.t 1)), LOp.mk (some 8) none (LK.call (LO.c (D.fn 10 [])) [LO.t 7]), LOp.mk (some 2) none (LK.mov (LO.t 8))]
def c11_4 : LC := LC.ops [LOp.mk (some 9) none (LK.slit 1 [LO.c (D.int IntKind.u8 128), LO.c (D.int IntKind.u8 0)]), LOp.mk (some 10) none (LK.call (LO.c (D.fn 12 [])) [LO.t 9]), LOp.mk (some 3) none (LK.mov (LO.t 10))]
def c11_5 : LC := LC.ops [LOp.mk (some 11) none (LK.mov (LO.t 2)), LOp.mk (some 12) none (LK.len false (LO.t 11)), LOp.mk (some 13) none (LK.bin BinOp.eql (LO.t 12) (LO.c (D.int IntKind.i64 2))), LOp.mk (some 14) none (LK.mov (LO.t 13)), LOp.mk (some 15) (some (14, true)) (LK.mov (LO.t 2)), LOp.mk (some 16) (some (14, true)) (LK.iaddr 1 (LO.t 15) (LO.c (D.int IntKind.i64 0))), LOp.mk (some 17) (some (14, true)) (LK.load none (LO.t 16)), LOp.mk (some 18) (some (14, true)) (LK.bin BinOp.eql (LO.t 17) (LO.c (D.int IntKind.u8 172))), LOp.mk (some 19) none (LK.pick (LO.t 14) (LO.t 18) (LO.c (D.bool false))), LOp.mk (some 20) none (LK.mov (LO.t 19)), LOp.mk (some 21) (some (20, true)) (LK.mov (LO.t 2)), LOp.mk (some 22) (some (20, true)) (LK.iaddr 1 (LO.t 21) (LO.c (D.int IntKind.i64 1))), LOp.mk (some 23) (some (20, true)) (LK.load none (LO.t 22)), LOp.mk (some 24) (some (20, true)) (LK.bin BinOp.eql (LO.t 23) (LO.c (D.int IntKind.u8 2))), LOp.mk (some 25) none (LK.pick (LO.t 20) (LO.t 24) (LO.c (D.bool false))), LOp.mk (some 26) none (LK.mov (LO.t 25)), LOp.mk (some 27) (some (26, true)) (LK.mov (LO.t 3)), LOp.mk (some 28) (some (26, true)) (LK.call (LO.c (D.fn 13 [])) [LO.t 27, LO.c (D.int IntKind.u64 1000)]), LOp.mk (some 29) (some (26, true)) (LK.bin BinOp.eql (LO.t 28) (LO.c (D.int IntKind.u64 0))), LOp.mk (some 30) none (LK.pick (LO.t 26) (LO.t 29) (LO.c (D.bool false))), LOp.mk (some 31) none (LK.mov (LO.t 30)), LOp.mk (some 32) (some (31, true)) (LK.mov (LO.t 3)), LOp.mk (some 33) (some (31, true)) (LK.call (LO.c (D.fn 14 [])) [LO.t 32]), LOp.mk (some 34) none (LK.pick (LO.t 31) (LO.t 33) (LO.c (D.bool false))), LOp.mk (some 0) none (LK.mov (LO.t 34))]
def c11_6 : LC := LC.ret
def c11_7 : LC := LC.seq c11_5 c11_6
def c11_8 : LC := LC.seq c11_4 c11_7
def c11_9 : LC := LC.seq c11_3 c11_8
def c11_10 : LC := LC.seq c11_2 c11_9
def c11_11 : LC := LC.seq c11_1 c11_10
def c11_12 : LC := LC.seq c11_0 c11_11
def c11 : LF := LF.mk 35 c11_12 [RL.tmp 0]
set_option maxRecDepth 100000 in
theorem low11 : lowFn Try.prog Try.f11 = some c11 := by kernel_rfl
def c12_0 : LC := LC.ops [LOp.mk (some 2) none (LK.mov (LO.c D.nilp))]
def c12_1 : LC := LC.ops [LOp.mk (some 3) none (LK.mov (LO.t 0)), LOp.mk (some 4) none (LK.call (LO.c (D.fn 26 [])) [LO.t 3]), LOp.mk (some 5) none (LK.build [D.list (some true) true [], D.bool false] [(0, 1, LO.t 4)]), LOp.mk (some 6) none (LK.box (LO.t 5)), LOp.mk (some 2) none (LK.mov (LO.t 6))]
def c12_2 : LC := LC.ret
def c12_3 : LC := LC.seq c12_1 c12_2
def c12_4 : LC := LC.seq c12_0 c12_3
def c12 : LF := LF.mk 7 c12_4 [RL.tmp 2]
set_option maxRecDepth 100000 in
theorem low12 : lowFn Try.prog Try.f12 = some c12 := by kernel_rfl
def c13_0 : LC := LC.ops [LOp.mk (some 4) none (LK.mov (LO.c (D.int IntKind.u64 0)))]
def c13_1 : LC := LC.ops [LOp.mk (some 5) none (LK.mov (LO.c (D.int IntKind.u64 0)))]
def c13_2 : LC := LC.ops [LOp.mk (some 6) none (LK.mov (LO.c (D.int IntKind.i64 0)))]
def c13_3 : LC := LC.ops [LOp.mk (some 9) none (LK.mov (LO.t 0)), LOp.mk (some 10) none (LK.call (LO.c (D.fn 14 [])) [LO.t 9]), LOp.mk (some 11) none (LK.un UnOp.not (LO.t 10)), LOp.mk (some 12) none (LK.mov (LO.t 11)), LOp.mk (some 13) (some (12, true)) (LK.mov (LO.t 0)), LOp.mk (some 14) (some (12, true)) (LK.chk (LO.t 13)), LOp.mk (some 15) (some (12, true)) (LK.faddr 0 (LO.t 14)), LOp.mk (some 16) (some (12, true)) (LK.load none (LO.t 15)), LOp.mk (some 17) (some (12, true)) (LK.len false (LO.t 16)), LOp.mk (some 18) (some (12, true)) (LK.bin BinOp.gtr (LO.t 17) (LO.c (D.int IntKind.i64 0))), LOp.mk (some 19) none (LK.pick (LO.t 12) (LO.t 18) (LO.c (D.bool false)))]
def c13_4 : LC := LC.skip
def c13_5 : LC := LC.cond (LO.t 19) c13_4 (LC.exit 0)
def c13_6 : LC := LC.seq c13_3 c13_5
def c13_7 : LC := LC.ops [LOp.mk (some 22) none (LK.mov (LO.t 0)), LOp.mk (some 23) none (LK.chk (LO.t 22)), LOp.mk (some 24) none (LK.faddr 0 (LO.t 23)), LOp.mk (some 25) none (LK.load none (LO.t 24)), LOp.mk (some 26) none (LK.iaddr 1 (LO.t 25) (LO.c (D.int IntKind.i64 0))), LOp.mk (some 27) none (LK.load none (LO.t 26)), LOp.mk (some 7) none (LK.mov (LO.t 27))]
def c13_8 : LC := LC.ops [LOp.mk (some 28) none (LK.mov (LO.t 0)), LOp.mk (some 29) none (LK.mov (LO.t 0)), LOp.mk (some 30) none (LK.chk (LO.t 29)), LOp.mk (some 31) none (LK.faddr 0 (LO.t 30)), LOp.mk (some 32) none (LK.load none (LO.t 31)), LOp.mk (some 33) none (LK.slice false 1 (LO.t 32) (some (LO.c (D.int IntKind.i64 1))) none), LOp.mk (some 34) none (LK.chk (LO.t 28)), LOp.mk (some 35) none (LK.faddr 0 (LO.t 34)), LOp.mk none none (LK.store 1 (LO.t 35) (LO.t 33))]
def c13_9 : LC := LC.ops [LOp.mk (some 36) none (LK.mov (LO.t 7)), LOp.mk (some 37) none (LK.bin BinOp.and (LO.t 36) (LO.c (D.int IntKind.u8 127))), LOp.mk (some 38) none (LK.conv IntKind.u64 (LO.t 37)), LOp.mk (some 8) none (LK.mov (LO.t 38))]
def c13_10 : LC := LC.ops [LOp.mk (some 39) none (LK.mov (LO.t 6)), LOp.mk (some 40) none (LK.bin BinOp.gtr (LO.t 39) (LO.c (D.int IntKind.i64 63))), LOp.mk (some 41) none (LK.mov (LO.t 40)), LOp.mk (some 42) (some (41, false)) (LK.mov (LO.t 8)), LOp.mk (some 43) (some (41, false)) (LK.mov (LO.t 6)), LOp.mk (some 44) (some (41, false)) (LK.bin BinOp.shl (LO.t 42) (LO.t 43)), LOp.mk (some 45) (some (41, false)) (LK.mov (LO.t 6)), LOp.mk (some 46) (some (41, false)) (LK.bin BinOp.shr (LO.t 44) (LO.t 45)), LOp.mk (some 47) (some (41, false)) (LK.mov (LO.t 8)), LOp.mk (some 48) (some (41, false)) (LK.bin BinOp.neq (LO.t 46) (LO.t 47)), LOp.mk (some 49) none (LK.pick (LO.t 41) (LO.c (D.bool true)) (LO.t 48)), LOp.mk (some 50) none (LK.mov (LO.t 49)), LOp.mk (some 51) (some (50, false)) (LK.mov (LO.t 7)), LOp.mk (some 52) (some (50, false)) (LK.bin BinOp.eql (LO.t 51) (LO.c (D.int IntKind.u8 0))), LOp.mk (some 53) (some (50, false)) (LK.mov (LO.t 52)), LOp.mk (some 54) (some (53, true)) (LK.mov (LO.t 6)), LOp.mk (some 55) (some (53, true)) (LK.bin BinOp.gtr (LO.t 54) (LO.c (D.int IntKind.i64 0))), LOp.mk (some 56) (some (50, false)) (LK.pick (LO.t 53) (LO.t 55) (LO.c (D.bool false))), LOp.mk (some 57) none (LK.pick (LO.t 50) (LO.c (D.bool true)) (LO.t 56))]
def c13_11 : LC := LC.ops [LOp.mk (some 58) none (LK.mov (LO.t 0)), LOp.mk (some 59) none (LK.call (LO.c (D.fn 27 [])) [LO.t 58]), LOp.mk (some 4) none (LK.mov (LO.t 59))]
def c13_12 : LC := LC.ret
def c13_13 : LC := LC.seq c13_11 c13_12
def c13_14 : LC := LC.skip
def c13_15 : LC := LC.cond (LO.t 57) c13_13 c13_14
def c13_16 : LC := LC.seq c13_10 c13_15
def c13_17 : LC := LC.ops [LOp.mk (some 60) none (LK.mov (LO.t 5)), LOp.mk (some 61) none (LK.mov (LO.t 8)), LOp.mk (some 62) none (LK.mov (LO.t 6)), LOp.mk (some 63) none (LK.bin BinOp.shl (LO.t 61) (LO.t 62)), LOp.mk (some 64) none (LK.bin BinOp.or (LO.t 60) (LO.t 63)), LOp.mk (some 5) none (LK.mov (LO.t 64))]
def c13_18 : LC := LC.ops [LOp.mk (some 65) none (LK.mov (LO.t 7)), LOp.mk (some 66) none (LK.bin BinOp.lss (LO.t 65) (LO.c (D.int IntKind.u8 128)))]
def c13_19 : LC := LC.ops [LOp.mk (some 67) none (LK.mov (LO.t 5)), LOp.mk (some 68) none (LK.mov (LO.t 1)), LOp.mk (some 69) none (LK.bin BinOp.gtr (LO.t 67) (LO.t 68))]
def c13_20 : LC := LC.ops [LOp.mk (some 70) none (LK.mov (LO.t 0)), LOp.mk (some 71) none (LK.call (LO.c (D.fn 27 [])) [LO.t 70]), LOp.mk (some 4) none (LK.mov (LO.t 71))]
def c13_21 : LC := LC.ret
def c13_22 : LC := LC.seq c13_20 c13_21
def c13_23 : LC := LC.skip
def c13_24 : LC := LC.cond (LO.t 69) c13_22 c13_23
def c13_25 : LC := LC.seq c13_19 c13_24
def c13_26 : LC := LC.ops [LOp.mk (some 72) none (LK.mov (LO.t 5)), LOp.mk (some 4) none (LK.mov (LO.t 72))]
def c13_27 : LC := LC.ret
def c13_28 : LC := LC.seq c13_26 c13_27
def c13_29 : LC := LC.seq c13_25 c13_28
def c13_30 : LC := LC.skip
def c13_31 : LC := LC.cond (LO.t 66) c13_29 c13_30
def c13_32 : LC := LC.seq c13_18 c13_31
def c13_33 : LC := LC.seq c13_17 c13_32
def c13_34 : LC := LC.seq c13_16 c13_33
def c13_35 : LC := LC.seq c13_9 c13_34
def c13_36 : LC := LC.seq c13_8 c13_35
def c13_37 : LC := LC.seq c13_7 c13_36
def c13_38 : LC := LC.block 1 c13_37
def c13_39 : LC := LC.ops [LOp.mk (some 20) none (LK.mov (LO.t 6)), LOp.mk (some 21) none (LK.bin BinOp.add (LO.t 20) (LO.c (D.int IntKind.i64 7))), LOp.mk (some 6) none (LK.mov (LO.t 21))]
def c13_40 : LC := LC.seq c13_38 c13_39
def c13_41 : LC := LC.seq c13_6 c13_40
def c13_42 : LC := LC.loop c13_41
def c13_43 : LC := LC.block 0 c13_42
def c13_44 : LC := LC.seq c13_2 c13_43
def c13_45 : LC := LC.ops [LOp.mk (some 73) none (LK.mov (LO.t 0)), LOp.mk (some 74) none (LK.call (LO.c (D.fn 27 [])) [LO.t 73]), LOp.mk (some 4) none (LK.mov (LO.t 74))]
def c13_46 : LC := LC.ret
def c13_47 : LC := LC.seq c13_45 c13_46
def c13_48 : LC := LC.seq c13_44 c13_47
def c13_49 : LC := LC.seq c13_1 c13_48
def c13_50 : LC := LC.seq c13_0 c13_49
def c13 : LF := LF.mk 75 c13_50 [RL.tmp 4]
set_option maxRecDepth 100000 in
theorem low13 : lowFn Try.prog Try.f13 = some c13 := by kernel_rfl
def c14_0 : LC := LC.ops [LOp.mk (some 2) none (LK.mov (LO.c (D.bool false)))]
def c14_1 : LC := LC.ops [LOp.mk (some 3) none (LK.mov (LO.t 0)), LOp.mk (some 4) none (LK.eq ET.ptr false (LO.t 3) (LO.c D.nilp)), LOp.mk (some 5) none (LK.mov (LO.t 4)), LOp.mk (some 6) (some (5, false)) (LK.mov (LO.t 0)), LOp.mk (some 7) (some (5, false)) (LK.chk (LO.t 6)), LOp.mk (some 8) (some (5, false)) (LK.faddr 1 (LO.t 7)), LOp.mk (some 9) (some (5, false)) (LK.load none (LO.t 8)), LOp.mk (some 10) none (LK.pick (LO.t 5) (LO.c (D.bool true)) (LO.t 9)), LOp.mk (some 2) none (LK.mov (LO.t 10))]
def c14_2 : LC := LC.ret
def c14_3 : LC := LC.seq c14_1 c14_2
def c14_4 : LC := LC.seq c14_0 c14_3
def c14 : LF := LF.mk 11 c14_4 [RL.tmp 2]
set_option maxRecDepth 100000 in
theorem low14 : lowFn Try.prog Try.f14 = some c14 := by kernel_rfl
def c15_0 : LC := LC.ops [LOp.mk (some 2) none (LK.mov (LO.c (D.bool false)))]
def c15_1 : LC := LC.ops [LOp.mk (some 3) none (LK.mov (LO.t 0)), LOp.mk (some 4) none (LK.call (LO.c (D.fn 14 [])) [LO.t 3]), LOp.mk (some 5) none (LK.un UnOp.not (LO.t 4)), LOp.mk (some 6) none (LK.mov (LO.t 5)), LOp.mk (some 7) (some (6, true)) (LK.mov (LO.t 0)), LOp.mk (some 8) (some (6, true)) (LK.chk (LO.t 7)), LOp.mk (some 9) (some (6, true)) (LK.faddr 0 (LO.t 8)), LOp.mk (some 10) (some (6, true)) (LK.load none (LO.t 9)), LOp.mk (some 11) (some (6, true)) (LK.len false (LO.t 10)), LOp.mk (some 12) (some (6, true)) (LK.bin BinOp.eql (LO.t 11) (LO.c (D.int IntKind.i64 0))), LOp.mk (some 13) none (LK.pick (LO.t 6) (LO.t 12) (LO.c (D.bool false))), LOp.mk (some 2) none (LK.mov (LO.t 13))]
def c15_2 : LC := LC.ret
def c15_3 : LC := LC.seq c15_1 c15_2
def c15_4 : LC := LC.seq c15_0 c15_3
def c15 : LF := LF.mk 14 c15_4 [RL.tmp 2]
set_option maxRecDepth 100000 in
theorem low15 : lowFn Try.prog Try.f15 = some c15 := by kernel_rfl
def c16_0 : LC := LC.ops [LOp.mk (some 4) none (LK.mov (LO.t 0)), LOp.mk (some 5) none (LK.mov (LO.t 1)), LOp.mk (some 6) none (LK.len true (LO.t 5)), LOp.mk (some 7) none (LK.conv IntKind.u64 (LO.t 6)), LOp.mk (some 8) none (LK.call (LO.c (D.fn 9 [])) [LO.t 4, LO.t 7])]
def c16_1 : LC := LC.ops [LOp.mk (some 9) none (LK.mov (LO.t 0)), LOp.mk (some 10) none (LK.eq ET.ptr true (LO.t 9) (LO.c D.nilp))]
def c16_2 : LC := LC.ops [LOp.mk (some 11) none (LK.mov (LO.t 0)), LOp.mk (some 12) none (LK.mov (LO.t 0)), LOp.mk (some 13) none (LK.chk (LO.t 12)), LOp.mk (some 14) none (LK.faddr 0 (LO.t 13)), LOp.mk (some 15) none (LK.load none (LO.t 14)), LOp.mk (some 16) none (LK.mov (LO.t 1)), LOp.mk (some 17) none (LK.app 1 1 (LO.t 15) (LO.t 16)), LOp.mk (some 18) none (LK.chk (LO.t 11)), LOp.mk (some 19) none (LK.faddr 0 (LO.t 18)), LOp.mk none none (LK.store 1 (LO.t 19) (LO.t 17))]
def c16_3 : LC := LC.skip
def c16_4 : LC := LC.cond (LO.t 10) c16_2 c16_3
def c16_5 : LC := LC.seq c16_1 c16_4
def c16_6 : LC := LC.seq c16_0 c16_5
def c16 : LF := LF.mk 20 c16_6 []
set_option maxRecDepth 100000 in
theorem low16 : lowFn Try.prog Try.f16 = some c16 := by kernel_rfl
def c17_0 : LC := LC.ops [LOp.mk (some 2) none (LK.mov (LO.c (D.str (ByteArray.mk (Array.mk [])))))]
def c17_1 : LC := LC.ops [LOp.mk (some 3) none (LK.mov (LO.t 0)), LOp.mk (some 4) none (LK.bin BinOp.lss (LO.t 3) (LO.c (D.int IntKind.u64 128)))]
def c17_2 : LC := LC.ops [LOp.mk (some 5) none (LK.mov (LO.t 0)), LOp.mk (some 6) none (LK.conv IntKind.u8 (LO.t 5)), LOp.mk (some 7) none (LK.slit 1 [LO.t 6]), LOp.mk (some 8) none (LK.b2s (LO.t 7)), LOp.mk (some 2) none (LK.mov (LO.t 8))]
def c17_3 : LC := LC.ret
def c17_4 : LC := LC.seq c17_2 c17_3
def c17_5 : LC := LC.skip
def c17_6 : LC := LC.cond (LO.t 4) c17_4 c17_5
def c17_7 : LC := LC.seq c17_1 c17_6
def c17_8 : LC := LC.opsX [(LOp.mk (some 9) none (LK.mov (LO.t 0)), []), (LOp.mk (some 10) none (LK.bin BinOp.rem (LO.t 9) (LO.c (D.int IntKind.u64 128))), []), (LOp.mk (some 11) none (LK.bin BinOp.add (LO.c (D.int IntKind.u64 128)) (LO.t 10)), []), (LOp.mk (some 12) none (LK.conv IntKind.u8 (LO.t 11)), []), (LOp.mk (some 13) none (LK.slit 1 [LO.t 12]), []), (LOp.mk (some 14) none (LK.b2s (LO.t 13)), []), (LOp.mk (some 15) none (LK.mov (LO.t 0)), []), (LOp.mk (some 16) none (LK.bin BinOp.quo (LO.t 15) (LO.c (D.int IntKind.u64 128))), []), (LOp.mk (some 17) none (LK.callX (LO.c (D.fn 17 [])) [LO.t 16]), [13]), (LOp.mk (some 18) none (LK.bin BinOp.add (LO.t 14) (LO.t 17)), []), (LOp.mk (some 2) none (LK.mov (LO.t 18)), [])]
def c17_9 : LC := LC.ret
def c17_10 : LC := LC.seq c17_8 c17_9
def c17_11 : LC := LC.seq c17_7 c17_10
def c17_12 : LC := LC.seq c17_0 c17_11
def c17 : LF := LF.mk 19 c17_12 [RL.tmp 2]
set_option maxRecDepth 100000 in
theorem low17 : lowFn Try.prog Try.f17 = some c17 := by kernel_rfl
def c18_0 : LC := LC.ops [LOp.mk (some 4) none (LK.mov (LO.t 0)), LOp.mk (some 5) none (LK.mov (LO.t 1)), LOp.mk (some 6) none (LK.conv IntKind.u64 (LO.t 5)), LOp.mk (some 7) none (LK.bin BinOp.shl (LO.t 6) (LO.c (D.int IntKind.u64 1))), LOp.mk (some 8) none (LK.mov (LO.t 1)), LOp.mk (some 9) none (LK.bin BinOp.shr (LO.t 8) (LO.c (D.int IntKind.u64 63))), LOp.mk (some 10) none (LK.conv IntKind.u64 (LO.t 9)), LOp.mk (some 11) none (LK.bin BinOp.xor (LO.t 7) (LO.t 10)), LOp.mk (some 12) none (LK.call (LO.c (D.fn 9 [])) [LO.t 4, LO.t 11])]
def c18 : LF := LF.mk 13 c18_0 []
set_option maxRecDepth 100000 in
theorem low18 : lowFn Try.prog Try.f18 = some c18 := by kernel_rfl
def c19_0 : LC := LC.ops [LOp.mk (some 2) none (LK.mov (LO.c (D.str (ByteArray.mk (Array.mk [])))))]
def c19_1 : LC := LC.ops [LOp.mk (some 3) none (LK.mov (LO.t 0)), LOp.mk (some 4) none (LK.bin BinOp.geq (LO.t 3) (LO.c (D.int IntKind.i64 0)))]
def c19_2 : LC := LC.ops [LOp.mk (some 5) none (LK.mov (LO.t 0)), LOp.mk (some 6) none (LK.conv IntKind.u64 (LO.t 5)), LOp.mk (some 7) none (LK.bin BinOp.mul (LO.c (D.int IntKind.u64 2)) (LO.t 6)), LOp.mk (some 8) none (LK.call (LO.c (D.fn 17 [])) [LO.t 7]), LOp.mk (some 2) none (LK.mov (LO.t 8))]
def c19_3 : LC := LC.ret
def c19_4 : LC := LC.seq c19_2 c19_3
def c19_5 : LC := LC.skip
def c19_6 : LC := LC.cond (LO.t 4) c19_4 c19_5
def c19_7 : LC := LC.seq c19_1 c19_6
def c19_8 : LC := LC.ops [LOp.mk (some 9) none (LK.mov (LO.t 0)), LOp.mk (some 10) none (LK.bin BinOp.add (LO.t 9) (LO.c (D.int IntKind.i64 1))), LOp.mk (some 11) none (LK.un UnOp.neg (LO.t 10)), LOp.mk (some 12) none (LK.conv IntKind.u64 (LO.t 11)), LOp.mk (some 13) none (LK.bin BinOp.mul (LO.c (D.int IntKind.u64 2)) (LO.t 12)), LOp.mk (some 14) none (LK.bin BinOp.add (LO.t 13) (LO.c (D.int IntKind.u64 1))), LOp.mk (some 15) none (LK.call (LO.c (D.fn 17 [])) [LO.t 14]), LOp.mk (some 2) none (LK.mov (LO.t 15))]
def c19_9 : LC := LC.ret
def c19_10 : LC := LC.seq c19_8 c19_9
def c19_11 : LC := LC.seq c19_7 c19_10
def c19_12 : LC := LC.seq c19_0 c19_11
def c19 : LF := LF.mk 16 c19_12 [RL.tmp 2]
set_option maxRecDepth 100000 in
theorem low19 : lowFn Try.prog Try.f19 = some c19 := by kernel_rfl
def c20_0 : LC := LC.ops [LOp.mk (some 2) none (LK.mov (LO.c (D.str (ByteArray.mk (Array.mk [])))))]
def c20_1 : LC := LC.ops [LOp.mk (some 3) none (LK.mov (LO.t 0)), LOp.mk (some 4) none (LK.len true (LO.t 3)), LOp.mk (some 5) none (LK.conv IntKind.u64 (LO.t 4)), LOp.mk (some 6) none (LK.call (LO.c (D.fn 17 [])) [LO.t 5]), LOp.mk (some 7) none (LK.mov (LO.t 0)), LOp.mk (some 8) none (LK.bin BinOp.add (LO.t 6) (LO.t 7)), LOp.mk (some 2) none (LK.mov (LO.t 8))]
def c20_2 : LC := LC.ret
def c20_3 : LC := LC.seq c20_1 c20_2
def c20_4 : LC := LC.seq c20_0 c20_3
def c20 : LF := LF.mk 9 c20_4 [RL.tmp 2]
set_option maxRecDepth 100000 in
theorem low20 : lowFn Try.prog Try.f20 = some c20 := by kernel_rfl
def c21_0 : LC := LC.ops [LOp.mk (some 4) none (LK.mov (LO.t 1))]
def c21_1 : LC := LC.ops [LOp.mk (some 5) none (LK.mov (LO.t 0)), LOp.mk (some 6) none (LK.call (LO.c (D.fn 9 [])) [LO.t 5, LO.c (D.int IntKind.u64 1)])]
def c21_2 : LC := LC.ret
def c21_3 : LC := LC.seq c21_1 c21_2
def c21_4 : LC := LC.skip
def c21_5 : LC := LC.cond (LO.t 4) c21_3 c21_4
def c21_6 : LC := LC.seq c21_0 c21_5
def c21_7 : LC := LC.ops [LOp.mk (some 7) none (LK.mov (LO.t 0)), LOp.mk (some 8) none (LK.call (LO.c (D.fn 9 [])) [LO.t 7, LO.c (D.int IntKind.u64 0)])]
def c21_8 : LC := LC.seq c21_6 c21_7
def c21 : LF := LF.mk 9 c21_8 []
set_option maxRecDepth 100000 in
theorem low21 : lowFn Try.prog Try.f21 = some c21 := by kernel_rfl
def c22_0 : LC := LC.ops [LOp.mk (some 2) none (LK.mov (LO.c (D.str (ByteArray.mk (Array.mk [])))))]
def c22_1 : LC := LC.ops [LOp.mk (some 3) none (LK.mov (LO.t 0))]
def c22_2 : LC := LC.ops [LOp.mk (some 2) none (LK.mov (LO.c (D.str (ByteArray.mk (Array.mk [UInt8.ofNat 1])))))]
def c22_3 : LC := LC.ret
def c22_4 : LC := LC.seq c22_2 c22_3
def c22_5 : LC := LC.skip
def c22_6 : LC := LC.cond (LO.t 3) c22_4 c22_5
def c22_7 : LC := LC.seq c22_1 c22_6
def c22_8 : LC := LC.ops [LOp.mk (some 2) none (LK.mov (LO.c (D.str (ByteArray.mk (Array.mk [UInt8.ofNat 0])))))]
def c22_9 : LC := LC.ret
def c22_10 : LC := LC.seq c22_8 c22_9
def c22_11 : LC := LC.seq c22_7 c22_10
def c22_12 : LC := LC.seq c22_0 c22_11
def c22 : LF := LF.mk 4 c22_12 [RL.tmp 2]
set_option maxRecDepth 100000 in
theorem low22 : lowFn Try.prog Try.f22 = some c22 := by kernel_rfl
def c23_0 : LC := LC.ops [LOp.mk (some 2) none (LK.mov (LO.c (D.int IntKind.i64 0)))]
def c23_1 : LC := LC.ops [LOp.mk (some 4) none (LK.mov (LO.t 0)), LOp.mk (some 5) none (LK.call (LO.c (D.fn 13 [])) [LO.t 4, LO.c (D.int IntKind.u64 18446744073709551615)]), LOp.mk (some 3) none (LK.mov (LO.t 5))]
def c23_2 : LC := LC.ops [LOp.mk (some 6) none (LK.mov (LO.t 3)), LOp.mk (some 7) none (LK.bin BinOp.shr (LO.t 6) (LO.c (D.int IntKind.u64 1))), LOp.mk (some 8) none (LK.conv IntKind.i64 (LO.t 7)), LOp.mk (some 9) none (LK.mov (LO.t 3)), LOp.mk (some 10) none (LK.bin BinOp.and (LO.t 9) (LO.c (D.int IntKind.u64 1))), LOp.mk (some 11) none (LK.conv IntKind.i64 (LO.t 10)), LOp.mk (some 12) none (LK.un UnOp.neg (LO.t 11)), LOp.mk (some 13) none (LK.bin BinOp.xor (LO.t 8) (LO.t 12)), LOp.mk (some 2) none (LK.mov (LO.t 13))]
def c23_3 : LC := LC.ret
def c23_4 : LC := LC.seq c23_2 c23_3
def c23_5 : LC := LC.seq c23_1 c23_4
def c23_6 : LC := LC.seq c23_0 c23_5
def c23 : LF := LF.mk 14 c23_6 [RL.tmp 2]
set_option maxRecDepth 100000 in
theorem low23 : lowFn Try.prog Try.f23 = some c23 := by kernel_rfl
def c24_0 : LC := LC.ops [LOp.mk (some 4) none (LK.mov (LO.c (D.str (ByteArray.mk (Array.mk [])))))]
def c24_1 : LC := LC.ops [LOp.mk (some 7) none (LK.mov (LO.t 0)), LOp.mk (some 8) none (LK.mov (LO.t 1)), LOp.mk (some 9) none (LK.mx (LO.t 8) (LO.c (D.int IntKind.i64 0))), LOp.mk (some 10) none (LK.conv IntKind.u64 (LO.t 9)), LOp.mk (some 11) none (LK.call (LO.c (D.fn 13 [])) [LO.t 7, LO.t 10]), LOp.mk (some 5) none (LK.mov (LO.t 11))]
def c24_2 : LC := LC.ops [LOp.mk (some 12) none (LK.mov (LO.t 0)), LOp.mk (some 13) none (LK.call (LO.c (D.fn 14 [])) [LO.t 12]), LOp.mk (some 14) none (LK.mov (LO.t 13)), LOp.mk (some 15) (some (14, false)) (LK.mov (LO.t 5)), LOp.mk (some 16) (some (14, false)) (LK.mov (LO.t 0)), LOp.mk (some 17) (some (14, false)) (LK.chk (LO.t 16)), LOp.mk (some 18) (some (14, false)) (LK.faddr 0 (LO.t 17)), LOp.mk (some 19) (some (14, false)) (LK.load none (LO.t 18)), LOp.mk (some 20) (some (14, false)) (LK.len false (LO.t 19)), LOp.mk (some 21) (some (14, false)) (LK.conv IntKind.u64 (LO.t 20)), LOp.mk (some 22) (some (14, false)) (LK.bin BinOp.gtr (LO.t 15) (LO.t 21)), LOp.mk (some 23) none (LK.pick (LO.t 14) (LO.c (D.bool true)) (LO.t 22))]
def c24_3 : LC := LC.ops [LOp.mk (some 24) none (LK.mov (LO.t 0)), LOp.mk (some 25) none (LK.call (LO.c (D.fn 27 [])) [LO.t 24])]
def c24_4 : LC := LC.ops [LOp.mk (some 4) none (LK.mov (LO.c (D.str (ByteArray.mk (Array.mk [])))))]
def c24_5 : LC := LC.ret
def c24_6 : LC := LC.seq c24_4 c24_5
def c24_7 : LC := LC.seq c24_3 c24_6
def c24_8 : LC := LC.skip
def c24_9 : LC := LC.cond (LO.t 23) c24_7 c24_8
def c24_10 : LC := LC.seq c24_2 c24_9
def c24_11 : LC := LC.ops [LOp.mk (some 26) none (LK.mov (LO.t 0)), LOp.mk (some 27) none (LK.chk (LO.t 26)), LOp.mk (some 28) none (LK.faddr 0 (LO.t 27)), LOp.mk (some 29) none (LK.load none (LO.t 28)), LOp.mk (some 30) none (LK.mov (LO.t 5)), LOp.mk (some 31) none (LK.slice false 1 (LO.t 29) none (some (LO.t 30))), LOp.mk (some 32) none (LK.b2s (LO.t 31)), LOp.mk (some 6) none (LK.mov (LO.t 32))]
def c24_12 : LC := LC.ops [LOp.mk (some 33) none (LK.mov (LO.t 0)), LOp.mk (some 34) none (LK.mov (LO.t 0)), LOp.mk (some 35) none (LK.chk (LO.t 34)), LOp.mk (some 36) none (LK.faddr 0 (LO.t 35)), LOp.mk (some 37) none (LK.load none (LO.t 36)), LOp.mk (some 38) none (LK.mov (LO.t 5)), LOp.mk (some 39) none (LK.slice false 1 (LO.t 37) (some (LO.t 38)) none), LOp.mk (some 40) none (LK.chk (LO.t 33)), LOp.mk (some 41) none (LK.faddr 0 (LO.t 40)), LOp.mk none none (LK.store 1 (LO.t 41) (LO.t 39))]
def c24_13 : LC := LC.ops [LOp.mk (some 42) none (LK.mov (LO.t 6)), LOp.mk (some 4) none (LK.mov (LO.t 42))]
def c24_14 : LC := LC.ret
def c24_15 : LC := LC.seq c24_13 c24_14
def c24_16 : LC := LC.seq c24_12 c24_15
def c24_17 : LC := LC.seq c24_11 c24_16
def c24_18 : LC := LC.seq c24_10 c24_17
def c24_19 : LC := LC.seq c24_1 c24_18
def c24_20 : LC := LC.seq c24_0 c24_19
def c24 : LF := LF.mk 43 c24_20 [RL.tmp 4]
set_option maxRecDepth 100000 in
theorem low24 : lowFn Try.prog Try.f24 = some c24 := by kernel_rfl
def c25_0 : LC := LC.ops [LOp.mk (some 2) none (LK.mov (LO.c (D.bool false)))]
def c25_1 : LC := LC.ops [LOp.mk (some 3) none (LK.mov (LO.t 0)), LOp.mk (some 4) none (LK.call (LO.c (D.fn 13 [])) [LO.t 3, LO.c (D.int IntKind.u64 1)]), LOp.mk (some 5) none (LK.bin BinOp.eql (LO.t 4) (LO.c (D.int IntKind.u64 1))), LOp.mk (some 2) none (LK.mov (LO.t 5))]
def c25_2 : LC := LC.ret
def c25_3 : LC := LC.seq c25_1 c25_2
def c25_4 : LC := LC.seq c25_0 c25_3
def c25 : LF := LF.mk 6 c25_4 [RL.tmp 2]
set_option maxRecDepth 100000 in
theorem low25 : lowFn Try.prog Try.f25 = some c25 := by kernel_rfl
def c26_0 : LC := LC.ops [LOp.mk (some 2) none (LK.mov (LO.c (D.list (some true) true [])))]
def c26_1 : LC := LC.ops [LOp.mk (some 3) none (LK.mov (LO.t 0)), LOp.mk (some 4) none (LK.eq ET.slice false (LO.t 3) (LO.c (D.list (some true) true [])))]
def c26_2 : LC := LC.ops [LOp.mk (some 2) none (LK.mov (LO.c (D.list (some true) true [])))]
def c26_3 : LC := LC.ret
def c26_4 : LC := LC.seq c26_2 c26_3
def c26_5 : LC := LC.skip
def c26_6 : LC := LC.cond (LO.t 4) c26_4 c26_5
def c26_7 : LC := LC.seq c26_1 c26_6
def c26_8 : LC := LC.ops [LOp.mk (some 5) none (LK.slit 1 []), LOp.mk (some 6) none (LK.mov (LO.t 0)), LOp.mk (some 7) none (LK.app 1 1 (LO.t 5) (LO.t 6)), LOp.mk (some 2) none (LK.mov (LO.t 7))]
def c26_9 : LC := LC.ret
def c26_10 : LC := LC.seq c26_8 c26_9
def c26_11 : LC := LC.seq c26_7 c26_10
def c26_12 : LC := LC.seq c26_0 c26_11
def c26 : LF := LF.mk 8 c26_12 [RL.tmp 2]
set_option maxRecDepth 100000 in
theorem low26 : lowFn Try.prog Try.f26 = some c26 := by kernel_rfl
def c27_0 : LC := LC.ops [LOp.mk (some 2) none (LK.mov (LO.c (D.int IntKind.u64 0)))]
def c27_1 : LC := LC.ops [LOp.mk (some 3) none (LK.mov (LO.t 0)), LOp.mk (some 4) none (LK.eq ET.ptr true (LO.t 3) (LO.c D.nilp))]
def c27_2 : LC := LC.ops [LOp.mk (some 5) none (LK.mov (LO.t 0)), LOp.mk (some 6) none (LK.chk (LO.t 5)), LOp.mk (some 7) none (LK.faddr 1 (LO.t 6)), LOp.mk none none (LK.store 1 (LO.t 7) (LO.c (D.bool true)))]
def c27_3 : LC := LC.skip
def c27_4 : LC := LC.cond (LO.t 4) c27_2 c27_3
def c27_5 : LC := LC.seq c27_1 c27_4
def c27_6 : LC := LC.ops [LOp.mk (some 2) none (LK.mov (LO.c (D.int IntKind.u64 0)))]
def c27_7 : LC := LC.ret
def c27_8 : LC := LC.seq c27_6 c27_7
def c27_9 : LC := LC.seq c27_5 c27_8
def c27_10 : LC := LC.seq c27_0 c27_9
def c27 : LF := LF.mk 8 c27_10 [RL.tmp 2]
set_option maxRecDepth 100000 in
theorem low27 : lowFn Try.prog Try.f27 = some c27 := by kernel_rfl
end Go.Proofs.Ytlledgjigpoopaa
