import Derived.Test.YtgefljdclekadaaGreatVi25
import Derived.Test.YtgefljdclekadaaGreatProg
set_option linter.unusedVariables false
set_option linter.unusedSimpArgs false
set_option linter.unnecessarySimpa false
namespace Go.Proofs.YtgefljdclekadaaGreat
open Go Go.Vi
def c3_0 : LC := .ops [oo 1 (.box (.t 0)), oo 2 (.mov (.c (.bool false)))]
def c3_1 : LC := .ops [oo 9 (.load (some 20) (.t 1)), oo 10 (.call (.c (.fn 5 [])) [.t 9])]
def c3_2 : LC := .ops [oo 11 (.call (.c (.fn 6 [])) []), om 2 11]
def c3_4 : LC := .seq c3_2 .ret
def c3_6 : LC := .cond (.t 10) c3_4 .skip
def c3_7 : LC := .seq c3_1 c3_6
def c3_8 : LC := .ops [oo 13 (.load (some 20) (.t 1)), oo 14 (.call (.c (.fn 7 [])) [.t 13]), om 12 14, oo 15 (.ext 0 (.t 12)), oo 16 (.ext 1 (.t 12)), om 3 15, om 4 16]
def c3_9 : LC := .ops [oo 18 (.load (some 20) (.t 1)), oo 19 (.call (.c (.fn 8 [])) [.t 18]), om 17 19, oo 20 (.ext 0 (.t 17)), oo 21 (.ext 1 (.t 17)), om 5 20, om 6 21]
def c3_10 : LC := .ops [om 22 4, om 23 6, oo 24 (.eq .bool true (.t 22) (.t 23)), om 25 24, gm 26 25 false 3, og 27 25 false (.b2s (.t 26)), gm 28 25 false 5, og 29 25 false (.bin .neq (.t 27) (.t 28)), oo 30 (.pick (.t 25) (.c (.bool true)) (.t 29))]
def c3_11 : LC := .ops [oo 2 (.mov (.c (.bool false)))]
def c3_13 : LC := .seq c3_11 .ret
def c3_15 : LC := .cond (.t 30) c3_13 .skip
def c3_16 : LC := .seq c3_10 c3_15
def c3_17 : LC := .ops [om 31 6, oo 32 (.un .not (.t 31))]
def c3_18 : LC := .ops [oo 33 (.call (.c (.fn 6 [])) []), om 2 33]
def c3_20 : LC := .seq c3_18 .ret
def c3_22 : LC := .cond (.t 32) c3_20 .skip
def c3_23 : LC := .seq c3_17 c3_22
def c3_24 : LC := .ops [om 35 3, oo 36 (.call (.c (.fn 9 [])) [.t 35]), om 34 36, oo 37 (.ext 0 (.t 34)), oo 38 (.ext 1 (.t 34)), oo 7 (.alloc [.int .i64 0, .int .u64 0, .list (some true) true [], .str (ByteArray.mk (Array.mk [])), .int .u32 0, .int .u32 0, .int .i64 0, .int .i64 0, .int .i64 0, .int .i64 0, .list (some true) true [], .list (some true) true [], .int .i64 0, .list (some true) true [], .list (some true) true [], .list (some true) true [], .list (some true) true [], .int .i64 0, .int .i64 0, .int .i64 0]), .mk none none (.store 20 (.t 7) (.t 37)), om 8 38]
def c3_25 : LC := .ops [oo 39 (.call (.c (.fn 6 [])) []), om 40 39, gm 41 40 true 8, oo 42 (.pick (.t 40) (.t 41) (.c (.bool false))), om 43 42, og 44 43 true (.load (some 20) (.t 7)), og 45 43 true (.load (some 20) (.t 1)), og 46 43 true (.call (.c (.fn 10 [])) [.t 44, .t 45]), oo 47 (.pick (.t 43) (.t 46) (.c (.bool false))), om 2 47]
def c3_27 : LC := .seq c3_25 .ret
def c3_28 : LC := .seq c3_24 c3_27
def c3_29 : LC := .seq c3_23 c3_28
def c3_30 : LC := .seq c3_16 c3_29
def c3_31 : LC := .seq c3_9 c3_30
def c3_32 : LC := .seq c3_8 c3_31
def c3_33 : LC := .seq c3_7 c3_32
def c3_34 : LC := .seq c3_0 c3_33
def c3 : LF := .mk 48 c3_34 [.tmp 2]
set_option maxRecDepth 100000 in
theorem low3 : lowFn Tryz.prog Tryz.f3 = some c3 := by kernel_rfl
def c4_0 : LC := .ops [oo 2 (.box (.t 0)), oo 3 (.box (.t 1)), oo 4 (.mov (.c (.bool false)))]
def c4_1 : LC := .ops [oo 11 (.load (some 4) (.t 2)), oo 12 (.call (.c (.fn 11 [])) [.t 11]), om 13 12, og 14 13 false (.load (some 4) (.t 3)), og 15 13 false (.call (.c (.fn 11 [])) [.t 14]), oo 16 (.pick (.t 13) (.c (.bool true)) (.t 15))]
def c4_2 : LC := .ops [oo 17 (.call (.c (.fn 6 [])) []), om 4 17]
def c4_4 : LC := .seq c4_2 .ret
def c4_6 : LC := .cond (.t 16) c4_4 .skip
def c4_7 : LC := .seq c4_1 c4_6
def c4_8 : LC := .ops [oo 19 (.load (some 4) (.t 2)), oo 20 (.call (.c (.fn 12 [])) [.t 19]), om 18 20, oo 21 (.ext 0 (.t 18)), oo 22 (.ext 1 (.t 18)), om 5 21, om 6 22]
def c4_9 : LC := .ops [oo 24 (.load (some 4) (.t 2)), oo 25 (.call (.c (.fn 13 [])) [.t 24]), om 23 25, oo 26 (.ext 0 (.t 23)), oo 27 (.ext 1 (.t 23)), om 7 26, om 8 27]
def c4_10 : LC := .opsX [(om 28 6, []), (om 29 8, []), (oo 30 (.eq .bool true (.t 28) (.t 29)), []), (om 31 30, []), (gm 32 31 false 5, []), (og 33 31 false (.b2s (.t 32)), []), (gm 34 31 false 7, []), (og 35 31 false (.bin .neq (.t 33) (.t 34)), []), (oo 36 (.pick (.t 31) (.c (.bool true)) (.t 35)), []), (om 37 36, []), (og 38 37 false (.load (some 4) (.t 2)), []), (og 39 37 false (.load (some 4) (.t 3)), []), (og 40 37 false (.callX (.c (.fn 14 [])) [.t 38, .t 39]), [2, 3]), (og 41 37 false (.load (some 4) (.t 2)), []), (og 42 37 false (.load (some 4) (.t 3)), []), (og 43 37 false (.callX (.c (.fn 15 [])) [.t 41, .t 42]), []), (og 44 37 false (.eq .bool true (.t 40) (.t 43)), []), (oo 45 (.pick (.t 37) (.c (.bool true)) (.t 44)), []), (om 46 45, []), (og 47 46 false (.load (some 4) (.t 2)), []), (og 48 46 false (.load (some 4) (.t 2)), []), (og 49 46 false (.callX (.c (.fn 14 [])) [.t 47, .t 48]), []), (og 50 46 false (.un .not (.t 49)), []), (oo 51 (.pick (.t 46) (.c (.bool true)) (.t 50)), [])]
def c4_11 : LC := .ops [oo 4 (.mov (.c (.bool false)))]
def c4_13 : LC := .seq c4_11 .ret
def c4_15 : LC := .cond (.t 51) c4_13 .skip
def c4_16 : LC := .seq c4_10 c4_15
def c4_17 : LC := .ops [om 52 8, oo 53 (.un .not (.t 52))]
def c4_18 : LC := .ops [oo 54 (.call (.c (.fn 6 [])) []), om 4 54]
def c4_20 : LC := .seq c4_18 .ret
def c4_22 : LC := .cond (.t 53) c4_20 .skip
def c4_23 : LC := .seq c4_17 c4_22
def c4_24 : LC := .ops [om 56 5, oo 57 (.call (.c (.fn 16 [])) [.t 56]), om 55 57, oo 58 (.ext 0 (.t 55)), oo 59 (.ext 1 (.t 55)), oo 9 (.alloc [.int .i64 0, .list (some true) true [], .list (some true) true [], .list (some true) true []]), .mk none none (.store 4 (.t 9) (.t 58)), om 10 59]
def c4_25 : LC := .ops [oo 60 (.call (.c (.fn 6 [])) []), om 61 60, gm 62 61 true 10, oo 63 (.pick (.t 61) (.t 62) (.c (.bool false))), om 64 63, og 65 64 true (.load (some 4) (.t 9)), og 66 64 true (.load (some 4) (.t 2)), og 67 64 true (.call (.c (.fn 15 [])) [.t 65, .t 66]), oo 68 (.pick (.t 64) (.t 67) (.c (.bool false))), om 4 68]
def c4_27 : LC := .seq c4_25 .ret
def c4_28 : LC := .seq c4_24 c4_27
def c4_29 : LC := .seq c4_23 c4_28
def c4_30 : LC := .seq c4_16 c4_29
def c4_31 : LC := .seq c4_9 c4_30
def c4_32 : LC := .seq c4_8 c4_31
def c4_33 : LC := .seq c4_7 c4_32
def c4_34 : LC := .seq c4_0 c4_33
def c4 : LF := .mk 69 c4_34 [.tmp 4]
def c5_0 : LC := .ops [oo 1 (.box (.t 0)), oo 2 (.mov (.c (.bool false)))]
def c5_1 : LC := .ops [oa 3 2 1, ol 4 3, on 5 4, oo 6 (.bin .gtr (.t 5) (.c (.int .i64 150))), om 7 6, ga 8 7 false 3 1, gl 9 7 false 8, og 10 7 false (.len true (.t 9)), og 11 7 false (.bin .gtr (.t 10) (.c (.int .i64 200))), oo 12 (.pick (.t 7) (.c (.bool true)) (.t 11)), om 13 12, ga 14 13 false 4 1, og 15 13 false (.load (some 16) (.t 14)), og 16 13 false (.call (.c (.fn 17 [])) [.t 15]), oo 17 (.pick (.t 13) (.c (.bool true)) (.t 16)), om 2 17]
def c5_3 : LC := .seq c5_1 .ret
def c5_4 : LC := .seq c5_0 c5_3
def c5 : LF := .mk 18 c5_4 [.tmp 2]
set_option maxRecDepth 100000 in
theorem low5 : lowFn Tryz.prog Tryz.f5 = some c5 := by kernel_rfl
def c6_0 : LC := .ops [oo 0 (.mov (.c (.bool false)))]
def c6_1 : LC := .ops [oo 4 (.build [.int .i64 0, .int .u32 0, .int .u64 0, .int .u32 0, .int .u32 0, .int .i64 0, .list (some true) true [], .list (some true) true [], .list (some true) true [], .int .i64 0, .int .i64 0, .int .i64 0, .int .i64 0, .bool false, .bool false, .int .i64 0, .int .i64 0, .int .i64 0, .int .i64 0, .list (some true) true [], .list (some true) true [], .list (some true) true [], .list (some true) true [], .int .i64 0, .list (some true) true [], .list (some true) true [], .list (some true) true [], .int .i64 0, .int .i64 0, .int .i64 0, .int .i64 0, .list (some true) true [], .list (some true) true [], .int .i64 0, .list (some true) true [], .list (some true) true [], .str (ByteArray.mk (Array.mk [])), .int .i64 0, .int .u32 0, .int .i64 0, .bool false, .int .i64 0] [(0, 1, .c (.int .i64 2)), (1, 1, .c (.int .u32 5)), (3, 1, .c (.int .u32 5)), (2, 1, .c (.int .u64 7))]), oo 5 (.call (.c (.fn 18 [])) [.t 4]), om 3 5, oo 6 (.ext 0 (.t 3)), oo 7 (.ext 1 (.t 3)), om 1 6, om 2 7]
def c6_2 : LC := .ops [om 8 2, om 9 8, gm 10 9 true 1, og 11 9 true (.b2s (.t 10)), og 12 9 true (.bin .eql (.t 11) (.c (.str (ByteArray.mk (Array.mk [UInt8.ofNat 2, UInt8.ofNat 5, UInt8.ofNat 7]))))), oo 13 (.pick (.t 9) (.t 12) (.c (.bool false))), om 0 13]
def c6_4 : LC := .seq c6_2 .ret
def c6_5 : LC := .seq c6_1 c6_4
def c6_6 : LC := .seq c6_0 c6_5
def c6 : LF := .mk 14 c6_6 [.tmp 0]
set_option maxRecDepth 100000 in
theorem low6 : lowFn Tryz.prog Tryz.f6 = some c6 := by kernel_rfl
def c7_0 : LC := .ops [oo 1 (.box (.t 0)), oo 2 (.mov (.c (.list (some true) true []))), oo 3 (.mov (.c (.bool false)))]
def c7_1 : LC := .ops [oo 9 (.call (.c (.fn 19 [])) []), oo 10 (.build [.nilp, .nilp, .bool false] [(0, 1, .t 9)]), oo 11 (.box (.t 10)), om 4 11]
def c7_2 : LC := .ops [om 12 4, oo 13 (.call (.c (.fn 20 [])) [.t 12, .t 1])]
def c7_3 : LC := .ops [om 15 4, oo 16 (.call (.c (.fn 21 [])) [.t 15, .c (.int .i64 65536)]), om 14 16, oo 17 (.ext 0 (.t 14)), oo 18 (.ext 1 (.t 14)), om 5 17, om 6 18]
def c7_4 : LC := .ops [om 19 6, oo 20 (.un .not (.t 19))]
def c7_5 : LC := .ops [oo 2 (.mov (.c (.list (some true) true []))), oo 3 (.mov (.c (.bool false)))]
def c7_7 : LC := .seq c7_5 .ret
def c7_9 : LC := .cond (.t 20) c7_7 .skip
def c7_10 : LC := .seq c7_4 c7_9
def c7_11 : LC := .ops [om 22 5, oo 23 (.call (.c (.fn 9 [])) [.t 22]), om 21 23, oo 24 (.ext 0 (.t 21)), oo 25 (.ext 1 (.t 21)), oo 7 (.alloc [.int .i64 0, .int .u64 0, .list (some true) true [], .str (ByteArray.mk (Array.mk [])), .int .u32 0, .int .u32 0, .int .i64 0, .int .i64 0, .int .i64 0, .int .i64 0, .list (some true) true [], .list (some true) true [], .int .i64 0, .list (some true) true [], .list (some true) true [], .list (some true) true [], .list (some true) true [], .int .i64 0, .int .i64 0, .int .i64 0]), .mk none none (.store 20 (.t 7) (.t 24)), om 8 25]
def c7_12 : LC := .ops [om 26 8, oo 27 (.un .not (.t 26)), om 28 27, og 29 28 false (.load (some 20) (.t 7)), og 30 28 false (.load (some 20) (.t 1)), og 31 28 false (.call (.c (.fn 22 [])) [.t 29, .t 30]), og 32 28 false (.un .not (.t 31)), oo 33 (.pick (.t 28) (.c (.bool true)) (.t 32))]
def c7_13 : LC := .ops [oo 2 (.mov (.c (.list (some true) true []))), oo 3 (.mov (.c (.bool false)))]
def c7_15 : LC := .seq c7_13 .ret
def c7_17 : LC := .cond (.t 33) c7_15 .skip
def c7_18 : LC := .seq c7_12 c7_17
def c7_19 : LC := .seq c7_11 c7_18
def c7_20 : LC := .ops [om 34 5, om 2 34, oo 3 (.mov (.c (.bool true)))]
def c7_22 : LC := .seq c7_20 .ret
def c7_23 : LC := .seq c7_19 c7_22
def c7_24 : LC := .seq c7_10 c7_23
def c7_25 : LC := .seq c7_3 c7_24
def c7_26 : LC := .seq c7_2 c7_25
def c7_27 : LC := .seq c7_1 c7_26
def c7_28 : LC := .seq c7_0 c7_27
def c7 : LF := .mk 35 c7_28 [.tmp 2, .tmp 3]
set_option maxRecDepth 100000 in
theorem low7 : lowFn Tryz.prog Tryz.f7 = some c7 := by kernel_rfl
def c8_0 : LC := .ops [oo 1 (.box (.t 0)), oo 2 (.mov (.c (.str (ByteArray.mk (Array.mk []))))), oo 3 (.mov (.c (.bool false)))]
def c8_1 : LC := .opsX [(oo 6 (.build [.str (ByteArray.mk (Array.mk [])), .bool false] []), []), (oa 7 0 1, []), (ol 8 7, []), (oo 9 (.call (.c (.fn 23 [])) [.t 6, .t 8, .c (.int .i64 13)]), []), (oa 10 1 1, []), (ol 11 10, []), (oo 12 (.call (.c (.fn 24 [])) [.t 9, .t 11]), []), (oa 13 2 1, []), (ol 14 13, []), (on 15 14, []), (oo 16 (.call (.c (.fn 23 [])) [.t 12, .t 15, .c (.int .i64 100)]), []), (oo 4 (.alloc [.str (ByteArray.mk (Array.mk [])), .bool false]), [7, 6, 8, 10, 9, 11, 13, 12, 15]), (.mk none none (.store 2 (.t 4) (.t 16)), [])]
def c8_2 : LC := .ops [oa 17 2 1, ol 18 17, on 19 18, oo 20 (.mov (.c (.int .i64 0)))]
def c8_3 : LC := .ops [oo 21 (.bin .lss (.t 20) (.t 19))]
def c8_5 : LC := .cond (.t 21) .skip (.exit 0)
def c8_6 : LC := .ops [om 22 20, om 5 22]
def c8_7 : LC := .opsX [(oo 23 (.load (some 2) (.t 4)), []), (oa 24 2 1, []), (ol 25 24, []), (om 26 5, []), (oo 27 (.iaddr 3 (.t 25) (.t 26)), []), (oa 28 0 27, []), (ol 29 28, []), (oo 30 (.callX (.c (.fn 25 [])) [.t 23, .t 29]), [31, 35, 38, 42]), (oa 31 2 1, []), (ol 32 31, []), (om 33 5, []), (oo 34 (.iaddr 3 (.t 32) (.t 33)), []), (oa 35 1 34, []), (ol 36 35, []), (oo 37 (.callX (.c (.fn 23 [])) [.t 30, .t 36, .c (.int .i64 100000)]), [38, 42]), (oa 38 2 1, []), (ol 39 38, []), (om 40 5, []), (oo 41 (.iaddr 3 (.t 39) (.t 40)), []), (oa 42 2 41, []), (ol 43 42, []), (oo 44 (.callX (.c (.fn 23 [])) [.t 37, .t 43, .c (.int .i64 100)]), []), (.mk none none (.store 2 (.t 4) (.t 44)), [])]
def c8_8 : LC := .seq c8_6 c8_7
def c8_9 : LC := .block 1 c8_8
def c8_10 : LC := .ops [oo 45 (.bin .add (.t 20) (.c (.int .i64 1))), om 20 45]
def c8_11 : LC := .seq c8_9 c8_10
def c8_12 : LC := .seq c8_5 c8_11
def c8_13 : LC := .seq c8_3 c8_12
def c8_14 : LC := .loop c8_13
def c8_15 : LC := .block 0 c8_14
def c8_16 : LC := .seq c8_2 c8_15
def c8_17 : LC := .opsX [(oo 46 (.load (some 2) (.t 4)), []), (oa 47 3 1, []), (ol 48 47, []), (oo 49 (.callX (.c (.fn 26 [])) [.t 46, .t 48, .c (.int .i64 64)]), [51]), (oa 50 4 1, []), (oa 51 0 50, []), (ol 52 51, []), (oo 53 (.bin .neq (.t 52) (.c (.int .u32 0))), []), (oo 54 (.callX (.c (.fn 27 [])) [.t 49, .t 53]), []), (.mk none none (.store 2 (.t 4) (.t 54)), [])]
def c8_18 : LC := .ops [oa 55 4 1, oa 56 0 55, ol 57 56, oo 58 (.bin .neq (.t 57) (.c (.int .u32 0)))]
def c8_19 : LC := .ops [oo 59 (.load (some 2) (.t 4)), oa 60 4 1, oo 61 (.load (some 16) (.t 60)), oo 62 (.call (.c (.fn 28 [])) [.t 59, .t 61]), .mk none none (.store 2 (.t 4) (.t 62))]
def c8_20 : LC := .ops [oa 63 4 1, oo 64 (.load (some 16) (.t 63)), oo 65 (.build [.int .u32 0, .int .u32 0, .int .i64 0, .int .i64 0, .int .i64 0, .int .i64 0, .list (some true) true [], .list (some true) true [], .int .i64 0, .list (some true) true [], .list (some true) true [], .list (some true) true [], .list (some true) true [], .int .i64 0, .int .i64 0, .int .i64 0] []), oo 66 (.call (.c (.fn 29 [])) [.t 64, .t 65]), oo 67 (.un .not (.t 66))]
def c8_21 : LC := .ops [oo 2 (.mov (.c (.str (ByteArray.mk (Array.mk []))))), oo 3 (.mov (.c (.bool false)))]
def c8_23 : LC := .seq c8_21 .ret
def c8_25 : LC := .cond (.t 67) c8_23 .skip
def c8_26 : LC := .seq c8_20 c8_25
def c8_27 : LC := .cond (.t 58) c8_19 c8_26
def c8_28 : LC := .seq c8_18 c8_27
def c8_29 : LC := .ops [oa 68 1 4, ol 69 68, om 70 69, ga 71 70 false 0 4, gl 72 70 false 71, og 73 70 false (.len true (.t 72)), og 74 70 false (.bin .gtr (.t 73) (.c (.int .i64 65536))), oo 75 (.pick (.t 70) (.c (.bool true)) (.t 74))]
def c8_30 : LC := .ops [oo 2 (.mov (.c (.str (ByteArray.mk (Array.mk []))))), oo 3 (.mov (.c (.bool false)))]
def c8_32 : LC := .seq c8_30 .ret
def c8_34 : LC := .cond (.t 75) c8_32 .skip
def c8_35 : LC := .seq c8_29 c8_34
def c8_36 : LC := .ops [oa 76 0 4, ol 77 76, om 2 77, oo 3 (.mov (.c (.bool true)))]
def c8_38 : LC := .seq c8_36 .ret
def c8_39 : LC := .seq c8_35 c8_38
def c8_40 : LC := .seq c8_28 c8_39
def c8_41 : LC := .seq c8_17 c8_40
def c8_42 : LC := .seq c8_16 c8_41
def c8_43 : LC := .seq c8_1 c8_42
def c8_44 : LC := .seq c8_0 c8_43
def c8 : LF := .mk 78 c8_44 [.tmp 2, .tmp 3]
set_option maxRecDepth 100000 in
theorem low8 : lowFn Tryz.prog Tryz.f8 = some c8 := by kernel_rfl
def c9_0 : LC := .ops [oo 2 (.alloc [.int .i64 0, .int .u64 0, .list (some true) true [], .str (ByteArray.mk (Array.mk [])), .int .u32 0, .int .u32 0, .int .i64 0, .int .i64 0, .int .i64 0, .int .i64 0, .list (some true) true [], .list (some true) true [], .int .i64 0, .list (some true) true [], .list (some true) true [], .list (some true) true [], .list (some true) true [], .int .i64 0, .int .i64 0, .int .i64 0]), oo 3 (.mov (.c (.bool false)))]
def c9_1 : LC := .ops [om 6 0, oo 7 (.call (.c (.fn 30 [])) [.t 6]), oo 8 (.build [.nilp, .nilp, .bool false] [(1, 1, .t 7)]), oo 9 (.box (.t 8)), om 4 9]
def c9_2 : LC := .ops [oo 5 (.alloc [.int .i64 0, .int .u64 0, .list (some true) true [], .str (ByteArray.mk (Array.mk [])), .int .u32 0, .int .u32 0, .int .i64 0, .int .i64 0, .int .i64 0, .int .i64 0, .list (some true) true [], .list (some true) true [], .int .i64 0, .list (some true) true [], .list (some true) true [], .list (some true) true [], .list (some true) true [], .int .i64 0, .int .i64 0, .int .i64 0])]
def c9_3 : LC := .ops [om 10 4, oo 11 (.call (.c (.fn 20 [])) [.t 10, .t 5])]
def c9_4 : LC := .ops [om 12 4, om 13 0, oo 14 (.call (.c (.fn 31 [])) [.t 12, .t 13, .c (.int .i64 65536)]), oo 15 (.un .not (.t 14))]
def c9_5 : LC := .ops [oo 16 (.build [.int .i64 0, .int .u64 0, .list (some true) true [], .str (ByteArray.mk (Array.mk [])), .int .u32 0, .int .u32 0, .int .i64 0, .int .i64 0, .int .i64 0, .int .i64 0, .list (some true) true [], .list (some true) true [], .int .i64 0, .list (some true) true [], .list (some true) true [], .list (some true) true [], .list (some true) true [], .int .i64 0, .int .i64 0, .int .i64 0] []), .mk none none (.store 20 (.t 2) (.t 16)), oo 3 (.mov (.c (.bool false)))]
def c9_7 : LC := .seq c9_5 .ret
def c9_9 : LC := .cond (.t 15) c9_7 .skip
def c9_10 : LC := .seq c9_4 c9_9
def c9_11 : LC := .ops [oo 17 (.load (some 20) (.t 5)), .mk none none (.store 20 (.t 2) (.t 17)), oo 3 (.mov (.c (.bool true)))]
def c9_13 : LC := .seq c9_11 .ret
def c9_14 : LC := .seq c9_10 c9_13
def c9_15 : LC := .seq c9_3 c9_14
def c9_16 : LC := .seq c9_2 c9_15
def c9_17 : LC := .seq c9_1 c9_16
def c9_18 : LC := .seq c9_0 c9_17
def c9 : LF := .mk 18 c9_18 [.cell 2 (some 20), .tmp 3]
set_option maxRecDepth 100000 in
theorem low9 : lowFn Tryz.prog Tryz.f9 = some c9 := by kernel_rfl
def c10_0 : LC := .ops [oo 2 (.box (.t 0)), oo 3 (.box (.t 1)), oo 4 (.mov (.c (.bool false)))]
def c10_1 : LC := .ops [oa 6 0 2, ol 7 6, oa 8 0 3, ol 9 8, oo 10 (.bin .neq (.t 7) (.t 9)), om 11 10, ga 12 11 false 1 2, gl 13 11 false 12, ga 14 11 false 1 3, gl 15 11 false 14, og 16 11 false (.bin .neq (.t 13) (.t 15)), oo 17 (.pick (.t 11) (.c (.bool true)) (.t 16)), om 18 17, ga 19 18 false 3 2, gl 20 18 false 19, ga 21 18 false 3 3, gl 22 18 false 21, og 23 18 false (.bin .neq (.t 20) (.t 22)), oo 24 (.pick (.t 18) (.c (.bool true)) (.t 23)), om 25 24, ga 26 25 false 2 2, gl 27 25 false 26, og 28 25 false (.len false (.t 27)), ga 29 25 false 2 3, gl 30 25 false 29, og 31 25 false (.len false (.t 30)), og 32 25 false (.bin .neq (.t 28) (.t 31)), oo 33 (.pick (.t 25) (.c (.bool true)) (.t 32))]
def c10_2 : LC := .ops [oo 4 (.mov (.c (.bool false)))]
def c10_4 : LC := .seq c10_2 .ret
def c10_6 : LC := .cond (.t 33) c10_4 .skip
def c10_7 : LC := .seq c10_1 c10_6
def c10_8 : LC := .ops [oa 34 2 2, ol 35 34, on 36 35, oo 37 (.mov (.c (.int .i64 0)))]
def c10_9 : LC := .ops [oo 38 (.bin .lss (.t 37) (.t 36))]
def c10_11 : LC := .cond (.t 38) .skip (.exit 0)
def c10_12 : LC := .ops [om 39 37, om 5 39]
def c10_13 : LC := .opsX [(oa 40 2 2, []), (ol 41 40, []), (om 42 5, []), (oo 43 (.iaddr 3 (.t 41) (.t 42)), []), (oo 44 (.load (some 3) (.t 43)), []), (oa 45 2 3, []), (ol 46 45, []), (om 47 5, []), (oo 48 (.iaddr 3 (.t 46) (.t 47)), []), (oo 49 (.load (some 3) (.t 48)), []), (oo 50 (.eq (.row [.int, .int, .int]) true (.t 44) (.t 49)), [])]
def c10_14 : LC := .ops [oo 4 (.mov (.c (.bool false)))]
def c10_16 : LC := .seq c10_14 .ret
def c10_18 : LC := .cond (.t 50) c10_16 .skip
def c10_19 : LC := .seq c10_13 c10_18
def c10_20 : LC := .seq c10_12 c10_19
def c10_21 : LC := .block 1 c10_20
def c10_22 : LC := .ops [oo 51 (.bin .add (.t 37) (.c (.int .i64 1))), om 37 51]
def c10_23 : LC := .seq c10_21 c10_22
def c10_24 : LC := .seq c10_11 c10_23
def c10_25 : LC := .seq c10_9 c10_24
def c10_26 : LC := .loop c10_25
def c10_27 : LC := .block 0 c10_26
def c10_28 : LC := .seq c10_8 c10_27
def c10_29 : LC := .ops [oa 52 4 2, oo 53 (.load (some 16) (.t 52)), oa 54 4 3, oo 55 (.load (some 16) (.t 54)), oo 56 (.call (.c (.fn 29 [])) [.t 53, .t 55]), om 4 56]
def c10_31 : LC := .seq c10_29 .ret
def c10_32 : LC := .seq c10_28 c10_31
def c10_33 : LC := .seq c10_7 c10_32
def c10_34 : LC := .seq c10_0 c10_33
def c10 : LF := .mk 57 c10_34 [.tmp 4]
set_option maxRecDepth 100000 in
theorem low10 : lowFn Tryz.prog Tryz.f10 = some c10 := by kernel_rfl
def c17_0 : LC := .ops [oo 1 (.box (.t 0)), oo 2 (.mov (.c (.bool false)))]
def c17_1 : LC := .ops [oa 3 2 1, oo 4 (.load (some 9) (.t 3)), oo 5 (.call (.c (.fn 48 [])) [.t 4]), om 6 5, ga 7 6 false 11 1, gl 8 6 false 7, og 9 6 false (.len false (.t 8)), og 10 6 false (.bin .gtr (.t 9) (.c (.int .i64 80))), oo 11 (.pick (.t 6) (.c (.bool true)) (.t 10)), om 12 11, ga 13 12 false 12 1, gl 14 12 false 13, og 15 12 false (.len false (.t 14)), og 16 12 false (.bin .gtr (.t 15) (.c (.int .i64 300))), oo 17 (.pick (.t 12) (.c (.bool true)) (.t 16)), om 2 17]
def c17_3 : LC := .seq c17_1 .ret
def c17_4 : LC := .seq c17_0 c17_3
def c17 : LF := .mk 18 c17_4 [.tmp 2]
set_option maxRecDepth 100000 in
theorem low17 : lowFn Tryz.prog Tryz.f17 = some c17 := by kernel_rfl
def c18_0 : LC := .ops [oo 1 (.box (.t 0)), oo 2 (.mov (.c (.list (some true) true []))), oo 3 (.mov (.c (.bool false)))]
def c18_1 : LC := .ops [oo 9 (.call (.c (.fn 19 [])) []), oo 10 (.build [.nilp, .nilp, .bool false] [(0, 1, .t 9)]), oo 11 (.box (.t 10)), om 4 11]
def c18_2 : LC := .ops [om 12 4, oo 13 (.call (.c (.fn 49 [])) [.t 12, .t 1])]
def c18_3 : LC := .ops [om 15 4, oo 16 (.call (.c (.fn 21 [])) [.t 15, .c (.int .i64 65536)]), om 14 16, oo 17 (.ext 0 (.t 14)), oo 18 (.ext 1 (.t 14)), om 5 17, om 6 18]
def c18_4 : LC := .ops [om 19 6, oo 20 (.un .not (.t 19))]
def c18_5 : LC := .ops [oo 2 (.mov (.c (.list (some true) true []))), oo 3 (.mov (.c (.bool false)))]
def c18_7 : LC := .seq c18_5 .ret
def c18_9 : LC := .cond (.t 20) c18_7 .skip
def c18_10 : LC := .seq c18_4 c18_9
def c18_11 : LC := .ops [om 22 5, oo 23 (.call (.c (.fn 50 [])) [.t 22]), om 21 23, oo 24 (.ext 0 (.t 21)), oo 25 (.ext 1 (.t 21)), oo 7 (.alloc [.int .i64 0, .int .u32 0, .int .u64 0, .int .u32 0, .int .u32 0, .int .i64 0, .list (some true) true [], .list (some true) true [], .list (some true) true [], .int .i64 0, .int .i64 0, .int .i64 0, .int .i64 0, .bool false, .bool false, .int .i64 0, .int .i64 0, .int .i64 0, .int .i64 0, .list (some true) true [], .list (some true) true [], .list (some true) true [], .list (some true) true [], .int .i64 0, .list (some true) true [], .list (some true) true [], .list (some true) true [], .int .i64 0, .int .i64 0, .int .i64 0, .int .i64 0, .list (some true) true [], .list (some true) true [], .int .i64 0, .list (some true) true [], .list (some true) true [], .str (ByteArray.mk (Array.mk [])), .int .i64 0, .int .u32 0, .int .i64 0, .bool false, .int .i64 0]), .mk none none (.store 42 (.t 7) (.t 24)), om 8 25]
def c18_12 : LC := .ops [om 26 8, oo 27 (.un .not (.t 26)), om 28 27, og 29 28 false (.load (some 42) (.t 7)), og 30 28 false (.load (some 42) (.t 1)), og 31 28 false (.call (.c (.fn 51 [])) [.t 29, .t 30]), og 32 28 false (.un .not (.t 31)), oo 33 (.pick (.t 28) (.c (.bool true)) (.t 32))]
def c18_13 : LC := .ops [oo 2 (.mov (.c (.list (some true) true []))), oo 3 (.mov (.c (.bool false)))]
def c18_15 : LC := .seq c18_13 .ret
def c18_17 : LC := .cond (.t 33) c18_15 .skip
def c18_18 : LC := .seq c18_12 c18_17
def c18_19 : LC := .seq c18_11 c18_18
def c18_20 : LC := .ops [om 34 5, om 2 34, oo 3 (.mov (.c (.bool true)))]
def c18_22 : LC := .seq c18_20 .ret
def c18_23 : LC := .seq c18_19 c18_22
def c18_24 : LC := .seq c18_10 c18_23
def c18_25 : LC := .seq c18_3 c18_24
def c18_26 : LC := .seq c18_2 c18_25
def c18_27 : LC := .seq c18_1 c18_26
def c18_28 : LC := .seq c18_0 c18_27
def c18 : LF := .mk 35 c18_28 [.tmp 2, .tmp 3]
set_option maxRecDepth 100000 in
theorem low18 : lowFn Tryz.prog Tryz.f18 = some c18 := by kernel_rfl
def c19_0 : LC := .ops [oo 0 (.mov (.c .nilp))]
def c19_1 : LC := .ops [oo 1 (.build [.list (some true) true []] []), oo 2 (.box (.t 1)), om 0 2]
def c19_3 : LC := .seq c19_1 .ret
def c19_4 : LC := .seq c19_0 c19_3
def c19 : LF := .mk 3 c19_4 [.tmp 0]
set_option maxRecDepth 100000 in
theorem low19 : lowFn Tryz.prog Tryz.f19 = some c19 := by kernel_rfl
def c20_0 : LC := .ops [oo 2 (.box (.t 0))]
def c20_1 : LC := .opsX [(ol 5 2, []), (om 6 1, []), (oo 7 (.chk (.t 6)), []), (oa 8 0 7, []), (oo 9 (.callX (.c (.fn 52 [])) [.t 5, .t 8, .c (.int .u64 13)]), [])]
def c20_2 : LC := .opsX [(ol 10 2, []), (om 11 1, []), (oo 12 (.chk (.t 11)), []), (oa 13 1 12, []), (oo 14 (.callX (.c (.fn 53 [])) [.t 10, .t 13, .c (.int .u64 18446744073709551615)]), [])]
def c20_3 : LC := .opsX [(ol 15 2, []), (om 16 1, []), (oo 17 (.chk (.t 16)), []), (oa 18 2 17, []), (oo 19 (.mkfn 55 [.t 2]), []), (oo 20 (.callX (.c (.fn 54 [])) [.t 15, .t 18, .c (.int .i64 100), .t 19]), [])]
def c20_4 : LC := .opsX [(ol 21 2, []), (om 22 1, []), (oo 23 (.chk (.t 22)), []), (oa 24 3 23, []), (oo 25 (.callX (.c (.fn 58 [])) [.t 21, .t 24, .c (.int .i64 64)]), [])]
def c20_5 : LC := .ops [om 26 1, oo 27 (.chk (.t 26)), oa 28 4 27, oa 29 0 28, ol 30 29, oo 31 (.bin .neq (.t 30) (.c (.int .u32 0))), oo 4 (.alloc [.bool false]), .mk none none (.store 1 (.t 4) (.t 31))]
def c20_6 : LC := .ops [ol 32 2, oo 33 (.call (.c (.fn 59 [])) [.t 32, .t 4])]
def c20_7 : LC := .ops [ol 34 4]
def c20_8 : LC := .opsX [(ol 35 2, []), (om 36 1, []), (oo 37 (.chk (.t 36)), []), (oa 38 4 37, []), (oo 39 (.callX (.c (.fn 60 [])) [.t 35, .t 38]), [])]
def c20_9 : LC := .opsX [(ol 40 2, []), (ol 41 2, []), (oo 42 (.chk (.t 41)), []), (oa 43 2 42, []), (ol 44 43, []), (om 45 44, []), (gm 46 45 false 1, []), (og 47 45 false (.chk (.t 46)), []), (ga 48 45 false 4 47, []), (ga 49 45 false 0 48, []), (gl 50 45 false 49, []), (og 51 45 false (.bin .eql (.t 50) (.c (.int .u32 0))), []), (oo 52 (.pick (.t 45) (.c (.bool true)) (.t 51)), []), (oo 53 (.chk (.t 40)), []), (oa 54 2 53, []), (.mk none none (.store 1 (.t 54) (.t 52)), [])]
def c20_10 : LC := .seq c20_8 c20_9
def c20_12 : LC := .cond (.t 34) c20_10 .skip
def c20_13 : LC := .seq c20_7 c20_12
def c20_14 : LC := .seq c20_6 c20_13
def c20_15 : LC := .seq c20_5 c20_14
def c20_16 : LC := .seq c20_4 c20_15
def c20_17 : LC := .seq c20_3 c20_16
def c20_18 : LC := .seq c20_2 c20_17
def c20_19 : LC := .seq c20_1 c20_18
def c20_20 : LC := .seq c20_0 c20_19
def c20 : LF := .mk 55 c20_20 []
set_option maxRecDepth 100000 in
theorem low20 : lowFn Tryz.prog Tryz.f20 = some c20 := by kernel_rfl
def c21_0 : LC := .ops [oo 4 (.mov (.c (.list (some true) true []))), oo 5 (.mov (.c (.bool false)))]
def c21_1 : LC := .ops [om 7 0, oo 8 (.chk (.t 7)), oa 9 0 8, ol 10 9, oo 11 (.call (.c (.fn 61 [])) [.t 10]), om 6 11]
def c21_2 : LC := .ops [om 12 0, oo 13 (.chk (.t 12)), oa 14 2 13, ol 15 14, om 16 15, gm 17 16 false 6, og 18 16 false (.len false (.t 17)), gm 19 16 false 1, og 20 16 false (.bin .gtr (.t 18) (.t 19)), oo 21 (.pick (.t 16) (.c (.bool true)) (.t 20))]
def c21_3 : LC := .ops [oo 4 (.mov (.c (.list (some true) true []))), oo 5 (.mov (.c (.bool false)))]
def c21_5 : LC := .seq c21_3 .ret
def c21_7 : LC := .cond (.t 21) c21_5 .skip
def c21_8 : LC := .seq c21_2 c21_7
def c21_9 : LC := .ops [om 22 6, om 4 22, oo 5 (.mov (.c (.bool true)))]
def c21_11 : LC := .seq c21_9 .ret
def c21_12 : LC := .seq c21_8 c21_11
def c21_13 : LC := .seq c21_1 c21_12
def c21_14 : LC := .seq c21_0 c21_13
def c21 : LF := .mk 23 c21_14 [.tmp 4, .tmp 5]
set_option maxRecDepth 100000 in
theorem low21 : lowFn Tryz.prog Tryz.f21 = some c21 := by kernel_rfl
def c22_0 : LC := .ops [oo 2 (.box (.t 0)), oo 3 (.box (.t 1)), oo 4 (.mov (.c (.bool false)))]
def c22_1 : LC := .ops [oa 5 0 2, ol 6 5, oa 7 0 3, ol 8 7, oo 9 (.bin .eql (.t 6) (.t 8)), om 10 9, ga 11 10 true 1 2, gl 12 10 true 11, ga 13 10 true 1 3, gl 14 10 true 13, og 15 10 true (.bin .eql (.t 12) (.t 14)), oo 16 (.pick (.t 10) (.t 15) (.c (.bool false))), om 17 16, ga 18 17 true 2 2, gl 19 17 true 18, ga 20 17 true 2 3, gl 21 17 true 20, og 22 17 true (.call (.c (.fn 62 [])) [.t 19, .t 21]), oo 23 (.pick (.t 17) (.t 22) (.c (.bool false))), om 24 23, ga 25 24 true 3 2, gl 26 24 true 25, ga 27 24 true 3 3, gl 28 24 true 27, og 29 24 true (.bin .eql (.t 26) (.t 28)), oo 30 (.pick (.t 24) (.t 29) (.c (.bool false))), om 31 30, ga 32 31 true 4 2, og 33 31 true (.load (some 16) (.t 32)), ga 34 31 true 4 3, og 35 31 true (.load (some 16) (.t 34)), og 36 31 true (.call (.c (.fn 40 [])) [.t 33, .t 35]), oo 37 (.pick (.t 31) (.t 36) (.c (.bool false))), om 4 37]
def c22_3 : LC := .seq c22_1 .ret
def c22_4 : LC := .seq c22_0 c22_3
def c22 : LF := .mk 38 c22_4 [.tmp 4]
set_option maxRecDepth 100000 in
theorem low22 : lowFn Tryz.prog Tryz.f22 = some c22 := by kernel_rfl
def c23_0 : LC := .ops [oo 3 (.box (.t 0)), oo 6 (.alloc [.str (ByteArray.mk (Array.mk [])), .bool false])]
def c23_1 : LC := .ops [om 7 1, oo 8 (.bin .lss (.t 7) (.c (.int .i64 0))), om 9 8, gm 10 9 false 1, gm 11 9 false 2, og 12 9 false (.bin .gtr (.t 10) (.t 11)), oo 13 (.pick (.t 9) (.c (.bool true)) (.t 12))]
def c23_2 : LC := .ops [oa 14 0 3, ol 15 14, oo 16 (.build [.str (ByteArray.mk (Array.mk [])), .bool false] [(0, 1, .t 15), (1, 1, .c (.bool true))]), .mk none none (.store 2 (.t 6) (.t 16))]
def c23_4 : LC := .seq c23_2 .ret
def c23_6 : LC := .cond (.t 13) c23_4 .skip
def c23_7 : LC := .seq c23_1 c23_6
def c23_8 : LC := .opsX [(oa 17 0 3, []), (ol 18 17, []), (om 19 1, []), (oo 20 (.conv .u64 (.t 19)), []), (oo 21 (.callX (.c (.fn 63 [])) [.t 20]), [17, 23]), (oo 22 (.bin .add (.t 18) (.t 21)), []), (oa 23 1 3, []), (ol 24 23, []), (oo 25 (.build [.str (ByteArray.mk (Array.mk [])), .bool false] [(0, 1, .t 22), (1, 1, .t 24)]), []), (.mk none none (.store 2 (.t 6) (.t 25)), [])]
def c23_10 : LC := .seq c23_8 .ret
def c23_11 : LC := .seq c23_7 c23_10
def c23_12 : LC := .seq c23_0 c23_11
def c23 : LF := .mk 26 c23_12 [.cell 6 (some 2)]
set_option maxRecDepth 100000 in
theorem low23 : lowFn Tryz.prog Tryz.f23 = some c23 := by kernel_rfl
def c24_0 : LC := .ops [oo 2 (.box (.t 0)), oo 4 (.alloc [.str (ByteArray.mk (Array.mk [])), .bool false])]
def c24_1 : LC := .opsX [(oa 5 0 2, []), (ol 6 5, []), (om 7 1, []), (oo 8 (.callX (.c (.fn 63 [])) [.t 7]), [5, 10]), (oo 9 (.bin .add (.t 6) (.t 8)), []), (oa 10 1 2, []), (ol 11 10, []), (oo 12 (.build [.str (ByteArray.mk (Array.mk [])), .bool false] [(0, 1, .t 9), (1, 1, .t 11)]), []), (.mk none none (.store 2 (.t 4) (.t 12)), [])]
def c24_3 : LC := .seq c24_1 .ret
def c24_4 : LC := .seq c24_0 c24_3
def c24 : LF := .mk 13 c24_4 [.cell 4 (some 2)]
set_option maxRecDepth 100000 in
theorem low24 : lowFn Tryz.prog Tryz.f24 = some c24 := by kernel_rfl
def c25_0 : LC := .ops [oo 2 (.box (.t 0)), oo 4 (.alloc [.str (ByteArray.mk (Array.mk [])), .bool false])]
def c25_1 : LC := .opsX [(oa 5 0 2, []), (ol 6 5, []), (om 7 1, []), (oo 8 (.callX (.c (.fn 64 [])) [.t 7]), [5, 10]), (oo 9 (.bin .add (.t 6) (.t 8)), []), (oa 10 1 2, []), (ol 11 10, []), (oo 12 (.build [.str (ByteArray.mk (Array.mk [])), .bool false] [(0, 1, .t 9), (1, 1, .t 11)]), []), (.mk none none (.store 2 (.t 4) (.t 12)), [])]
def c25_3 : LC := .seq c25_1 .ret
def c25_4 : LC := .seq c25_0 c25_3
def c25 : LF := .mk 13 c25_4 [.cell 4 (some 2)]
set_option maxRecDepth 100000 in
theorem low25 : lowFn Tryz.prog Tryz.f25 = some c25 := by kernel_rfl
def c26_0 : LC := .ops [oo 3 (.box (.t 0)), oo 6 (.alloc [.str (ByteArray.mk (Array.mk [])), .bool false])]
def c26_1 : LC := .opsX [(oa 7 0 3, []), (ol 8 7, []), (om 9 1, []), (oo 10 (.callX (.c (.fn 65 [])) [.t 9]), [7, 12]), (oo 11 (.bin .add (.t 8) (.t 10)), []), (oa 12 1 3, []), (ol 13 12, []), (om 14 13, []), (gm 15 14 false 1, []), (og 16 14 false (.len true (.t 15)), []), (gm 17 14 false 2, []), (og 18 14 false (.bin .gtr (.t 16) (.t 17)), []), (oo 19 (.pick (.t 14) (.c (.bool true)) (.t 18)), []), (oo 20 (.build [.str (ByteArray.mk (Array.mk [])), .bool false] [(0, 1, .t 11), (1, 1, .t 19)]), []), (.mk none none (.store 2 (.t 6) (.t 20)), [])]
def c26_3 : LC := .seq c26_1 .ret
def c26_4 : LC := .seq c26_0 c26_3
def c26 : LF := .mk 21 c26_4 [.cell 6 (some 2)]
set_option maxRecDepth 100000 in
theorem low26 : lowFn Tryz.prog Tryz.f26 = some c26 := by kernel_rfl
def c27_0 : LC := .ops [oo 2 (.box (.t 0)), oo 4 (.alloc [.str (ByteArray.mk (Array.mk [])), .bool false])]
def c27_1 : LC := .opsX [(oa 5 0 2, []), (ol 6 5, []), (om 7 1, []), (oo 8 (.callX (.c (.fn 66 [])) [.t 7]), [5, 10]), (oo 9 (.bin .add (.t 6) (.t 8)), []), (oa 10 1 2, []), (ol 11 10, []), (oo 12 (.build [.str (ByteArray.mk (Array.mk [])), .bool false] [(0, 1, .t 9), (1, 1, .t 11)]), []), (.mk none none (.store 2 (.t 4) (.t 12)), [])]
def c27_3 : LC := .seq c27_1 .ret
def c27_4 : LC := .seq c27_0 c27_3
def c27 : LF := .mk 13 c27_4 [.cell 4 (some 2)]
set_option maxRecDepth 100000 in
theorem low27 : lowFn Tryz.prog Tryz.f27 = some c27 := by kernel_rfl
def c28_0 : LC := .ops [oo 2 (.box (.t 0)), oo 3 (.box (.t 1)), oo 4 (.alloc [.str (ByteArray.mk (Array.mk [])), .bool false])]
def c28_1 : LC := .opsX [(oo 6 (.load (some 2) (.t 2)), []), (oa 7 0 3, []), (ol 8 7, []), (oo 9 (.conv .u64 (.t 8)), []), (oo 10 (.callX (.c (.fn 24 [])) [.t 6, .t 9]), [11, 15, 18, 21]), (oa 11 1 3, []), (ol 12 11, []), (oo 13 (.conv .u64 (.t 12)), []), (oo 14 (.callX (.c (.fn 24 [])) [.t 10, .t 13]), [15, 18, 21]), (oa 15 2 3, []), (oo 16 (.load (some 9) (.t 15)), []), (oo 17 (.callX (.c (.fn 67 [])) [.t 14, .t 16]), [18, 21]), (oa 18 11 3, []), (ol 19 18, []), (oo 20 (.callX (.c (.fn 68 [])) [.t 17, .t 19, .c (.int .i64 40)]), [21]), (oa 21 12 3, []), (ol 22 21, []), (on 23 22, []), (oo 24 (.callX (.c (.fn 23 [])) [.t 20, .t 23, .c (.int .i64 4096)]), []), (.mk none none (.store 2 (.t 2) (.t 24)), [])]
def c28_2 : LC := .ops [oa 25 12 3, ol 26 25, on 27 26, oo 28 (.mov (.c (.int .i64 0)))]
def c28_3 : LC := .ops [oo 29 (.bin .lss (.t 28) (.t 27))]
def c28_5 : LC := .cond (.t 29) .skip (.exit 0)
def c28_6 : LC := .ops [om 30 28, om 5 30]
def c28_7 : LC := .opsX [(oo 31 (.load (some 2) (.t 2)), []), (oa 32 12 3, []), (ol 33 32, []), (om 34 5, []), (oo 35 (.iaddr 2 (.t 33) (.t 34)), []), (oa 36 0 35, []), (ol 37 36, []), (oo 38 (.conv .u64 (.t 37)), []), (oo 39 (.callX (.c (.fn 24 [])) [.t 31, .t 38]), [40, 44]), (oa 40 12 3, []), (ol 41 40, []), (om 42 5, []), (oo 43 (.iaddr 2 (.t 41) (.t 42)), []), (oa 44 1 43, []), (ol 45 44, []), (oo 46 (.callX (.c (.fn 23 [])) [.t 39, .t 45, .c (.int .i64 40)]), []), (.mk none none (.store 2 (.t 2) (.t 46)), [])]
def c28_8 : LC := .seq c28_6 c28_7
def c28_9 : LC := .block 1 c28_8
def c28_10 : LC := .ops [oo 47 (.bin .add (.t 28) (.c (.int .i64 1))), om 28 47]
def c28_11 : LC := .seq c28_9 c28_10
def c28_12 : LC := .seq c28_5 c28_11
def c28_13 : LC := .seq c28_3 c28_12
def c28_14 : LC := .loop c28_13
def c28_15 : LC := .block 0 c28_14
def c28_16 : LC := .seq c28_2 c28_15
def c28_17 : LC := .opsX [(oo 48 (.load (some 2) (.t 2)), []), (oa 49 13 3, []), (ol 50 49, []), (oo 51 (.callX (.c (.fn 25 [])) [.t 48, .t 50]), [52, 55]), (oa 52 14 3, []), (ol 53 52, []), (oo 54 (.callX (.c (.fn 23 [])) [.t 51, .t 53, .c (.int .i64 4)]), [55]), (oa 55 15 3, []), (ol 56 55, []), (oo 57 (.callX (.c (.fn 23 [])) [.t 54, .t 56, .c (.int .i64 40)]), []), (.mk none none (.store 2 (.t 4) (.t 57)), [])]
def c28_19 : LC := .seq c28_17 .ret
def c28_20 : LC := .seq c28_16 c28_19
def c28_21 : LC := .seq c28_1 c28_20
def c28_22 : LC := .seq c28_0 c28_21
def c28 : LF := .mk 58 c28_22 [.cell 4 (some 2)]
set_option maxRecDepth 100000 in
theorem low28 : lowFn Tryz.prog Tryz.f28 = some c28 := by kernel_rfl
def c29_0 : LC := .ops [oo 2 (.box (.t 0)), oo 3 (.box (.t 1)), oo 4 (.mov (.c (.bool false)))]
def c29_1 : LC := .ops [oa 6 0 2, ol 7 6, oa 8 0 3, ol 9 8, oo 10 (.bin .neq (.t 7) (.t 9)), om 11 10, ga 12 11 false 1 2, gl 13 11 false 12, ga 14 11 false 1 3, gl 15 11 false 14, og 16 11 false (.bin .neq (.t 13) (.t 15)), oo 17 (.pick (.t 11) (.c (.bool true)) (.t 16)), om 18 17, ga 19 18 false 2 2, og 20 18 false (.load (some 9) (.t 19)), ga 21 18 false 2 3, og 22 18 false (.load (some 9) (.t 21)), og 23 18 false (.call (.c (.fn 69 [])) [.t 20, .t 22]), og 24 18 false (.un .not (.t 23)), oo 25 (.pick (.t 18) (.c (.bool true)) (.t 24)), om 26 25, ga 27 26 false 11 2, gl 28 26 false 27, ga 29 26 false 11 3, gl 30 26 false 29, og 31 26 false (.call (.c (.fn 70 [])) [.t 28, .t 30]), og 32 26 false (.un .not (.t 31)), oo 33 (.pick (.t 26) (.c (.bool true)) (.t 32)), om 34 33, ga 35 34 false 12 2, gl 36 34 false 35, og 37 34 false (.len false (.t 36)), ga 38 34 false 12 3, gl 39 34 false 38, og 40 34 false (.len false (.t 39)), og 41 34 false (.bin .neq (.t 37) (.t 40)), oo 42 (.pick (.t 34) (.c (.bool true)) (.t 41)), om 43 42, ga 44 43 false 13 2, gl 45 43 false 44, ga 46 43 false 13 3, gl 47 43 false 46, og 48 43 false (.bin .neq (.t 45) (.t 47)), oo 49 (.pick (.t 43) (.c (.bool true)) (.t 48)), om 50 49, ga 51 50 false 14 2, gl 52 50 false 51, ga 53 50 false 14 3, gl 54 50 false 53, og 55 50 false (.bin .neq (.t 52) (.t 54)), oo 56 (.pick (.t 50) (.c (.bool true)) (.t 55)), om 57 56, ga 58 57 false 15 2, gl 59 57 false 58, ga 60 57 false 15 3, gl 61 57 false 60, og 62 57 false (.bin .neq (.t 59) (.t 61)), oo 63 (.pick (.t 57) (.c (.bool true)) (.t 62))]
def c29_2 : LC := .ops [oo 4 (.mov (.c (.bool false)))]
def c29_4 : LC := .seq c29_2 .ret
def c29_6 : LC := .cond (.t 63) c29_4 .skip
def c29_7 : LC := .seq c29_1 c29_6
def c29_8 : LC := .ops [oa 64 12 2, ol 65 64, on 66 65, oo 67 (.mov (.c (.int .i64 0)))]
def c29_9 : LC := .ops [oo 68 (.bin .lss (.t 67) (.t 66))]
def c29_11 : LC := .cond (.t 68) .skip (.exit 0)
def c29_12 : LC := .ops [om 69 67, om 5 69]
def c29_13 : LC := .opsX [(oa 70 12 2, []), (ol 71 70, []), (om 72 5, []), (oo 73 (.iaddr 2 (.t 71) (.t 72)), []), (oo 74 (.load (some 2) (.t 73)), []), (oa 75 12 3, []), (ol 76 75, []), (om 77 5, []), (oo 78 (.iaddr 2 (.t 76) (.t 77)), []), (oo 79 (.load (some 2) (.t 78)), []), (oo 80 (.eq (.row [.int, .int]) true (.t 74) (.t 79)), [])]
def c29_14 : LC := .ops [oo 4 (.mov (.c (.bool false)))]
def c29_16 : LC := .seq c29_14 .ret
def c29_18 : LC := .cond (.t 80) c29_16 .skip
def c29_19 : LC := .seq c29_13 c29_18
def c29_20 : LC := .seq c29_12 c29_19
def c29_21 : LC := .block 1 c29_20
def c29_22 : LC := .ops [oo 81 (.bin .add (.t 67) (.c (.int .i64 1))), om 67 81]
def c29_23 : LC := .seq c29_21 c29_22
def c29_24 : LC := .seq c29_11 c29_23
def c29_25 : LC := .seq c29_9 c29_24
def c29_26 : LC := .loop c29_25
def c29_27 : LC := .block 0 c29_26
def c29_28 : LC := .seq c29_8 c29_27
def c29_29 : LC := .ops [oo 4 (.mov (.c (.bool true)))]
def c29_31 : LC := .seq c29_29 .ret
def c29_32 : LC := .seq c29_28 c29_31
def c29_33 : LC := .seq c29_7 c29_32
def c29_34 : LC := .seq c29_0 c29_33
def c29 : LF := .mk 82 c29_34 [.tmp 4]
set_option maxRecDepth 100000 in
theorem low29 : lowFn Tryz.prog Tryz.f29 = some c29 := by kernel_rfl
def c30_0 : LC := .ops [oo 2 (.mov (.c .nilp))]
def c30_1 : LC := .ops [om 3 0, oo 4 (.call (.c (.fn 71 [])) [.t 3]), oo 5 (.build [.list (some true) true [], .bool false] [(0, 1, .t 4)]), oo 6 (.box (.t 5)), om 2 6]
def c30_3 : LC := .seq c30_1 .ret
def c30_4 : LC := .seq c30_0 c30_3
def c30 : LF := .mk 7 c30_4 [.tmp 2]
set_option maxRecDepth 100000 in
theorem low30 : lowFn Tryz.prog Tryz.f30 = some c30 := by kernel_rfl
def c31_0 : LC := .ops [oo 6 (.mov (.c (.bool false)))]
def c31_1 : LC := .ops [om 7 0, oo 8 (.chk (.t 7)), oa 9 2 8, ol 10 9, oo 11 (.un .not (.t 10)), om 12 11, gm 13 12 true 0, og 14 12 true (.chk (.t 13)), ga 15 12 true 1 14, gl 16 12 true 15, og 17 12 true (.call (.c (.fn 72 [])) [.t 16]), oo 18 (.pick (.t 12) (.t 17) (.c (.bool false))), om 19 18, gm 20 19 true 1, og 21 19 true (.len false (.t 20)), gm 22 19 true 2, og 23 19 true (.bin .leq (.t 21) (.t 22)), oo 24 (.pick (.t 19) (.t 23) (.c (.bool false))), om 6 24]
def c31_3 : LC := .seq c31_1 .ret
def c31_4 : LC := .seq c31_0 c31_3
def c31 : LF := .mk 25 c31_4 [.tmp 6]
set_option maxRecDepth 100000 in
theorem low31 : lowFn Tryz.prog Tryz.f31 = some c31 := by kernel_rfl
def c40_0 : LC := .ops [oo 2 (.box (.t 0)), oo 3 (.box (.t 1)), oo 4 (.mov (.c (.bool false)))]
def c40_1 : LC := .ops [oa 5 0 2, ol 6 5, oa 7 0 3, ol 8 7, oo 9 (.bin .eql (.t 6) (.t 8)), om 10 9, ga 11 10 true 1 2, gl 12 10 true 11, ga 13 10 true 1 3, gl 14 10 true 13, og 15 10 true (.bin .eql (.t 12) (.t 14)), oo 16 (.pick (.t 10) (.t 15) (.c (.bool false))), om 17 16, ga 18 17 true 2 2, og 19 17 true (.load (some 9) (.t 18)), ga 20 17 true 2 3, og 21 17 true (.load (some 9) (.t 20)), og 22 17 true (.call (.c (.fn 83 [])) [.t 19, .t 21]), oo 23 (.pick (.t 17) (.t 22) (.c (.bool false))), om 24 23, ga 25 24 true 11 2, gl 26 24 true 25, ga 27 24 true 11 3, gl 28 24 true 27, og 29 24 true (.call (.c (.fn 84 [])) [.t 26, .t 28]), oo 30 (.pick (.t 24) (.t 29) (.c (.bool false))), om 31 30, ga 32 31 true 12 2, gl 33 31 true 32, ga 34 31 true 12 3, gl 35 31 true 34, og 36 31 true (.call (.c (.fn 85 [])) [.t 33, .t 35]), oo 37 (.pick (.t 31) (.t 36) (.c (.bool false))), om 38 37, ga 39 38 true 13 2, gl 40 38 true 39, ga 41 38 true 13 3, gl 42 38 true 41, og 43 38 true (.bin .eql (.t 40) (.t 42)), oo 44 (.pick (.t 38) (.t 43) (.c (.bool false))), om 45 44, ga 46 45 true 14 2, gl 47 45 true 46, ga 48 45 true 14 3, gl 49 45 true 48, og 50 45 true (.bin .eql (.t 47) (.t 49)), oo 51 (.pick (.t 45) (.t 50) (.c (.bool false))), om 52 51, ga 53 52 true 15 2, gl 54 52 true 53, ga 55 52 true 15 3, gl 56 52 true 55, og 57 52 true (.bin .eql (.t 54) (.t 56)), oo 58 (.pick (.t 52) (.t 57) (.c (.bool false))), om 4 58]
def c40_3 : LC := .seq c40_1 .ret
def c40_4 : LC := .seq c40_0 c40_3
def c40 : LF := .mk 59 c40_4 [.tmp 4]
set_option maxRecDepth 100000 in
theorem low40 : lowFn Tryz.prog Tryz.f40 = some c40 := by kernel_rfl
def c43_0 : LC := .ops [oo 2 (.box (.t 0)), oo 3 (.box (.t 1)), oo 4 (.mov (.c (.bool false)))]
def c43_1 : LC := .ops [oa 5 0 2, oa 6 0 5, ol 7 6, oa 8 0 3, oa 9 0 8, ol 10 9, oo 11 (.bin .eql (.t 7) (.t 10)), om 12 11, ga 13 12 true 0 2, ga 14 12 true 1 13, gl 15 12 true 14, ga 16 12 true 0 3, ga 17 12 true 1 16, gl 18 12 true 17, og 19 12 true (.call (.c (.fn 86 [])) [.t 15, .t 18]), oo 20 (.pick (.t 12) (.t 19) (.c (.bool false))), om 21 20, ga 22 21 true 2 2, ga 23 21 true 0 22, gl 24 21 true 23, ga 25 21 true 2 3, ga 26 21 true 0 25, gl 27 21 true 26, og 28 21 true (.call (.c (.fn 87 [])) [.t 24, .t 27]), oo 29 (.pick (.t 21) (.t 28) (.c (.bool false))), om 30 29, ga 31 30 true 2 2, ga 32 30 true 1 31, gl 33 30 true 32, ga 34 30 true 2 3, ga 35 30 true 1 34, gl 36 30 true 35, og 37 30 true (.call (.c (.fn 88 [])) [.t 33, .t 36]), oo 38 (.pick (.t 30) (.t 37) (.c (.bool false))), om 39 38, ga 40 39 true 4 2, gl 41 39 true 40, ga 42 39 true 4 3, gl 43 39 true 42, og 44 39 true (.bin .eql (.t 41) (.t 43)), oo 45 (.pick (.t 39) (.t 44) (.c (.bool false))), om 46 45, ga 47 46 true 5 2, gl 48 46 true 47, ga 49 46 true 5 3, gl 50 46 true 49, og 51 46 true (.bin .eql (.t 48) (.t 50)), oo 52 (.pick (.t 46) (.t 51) (.c (.bool false))), om 4 52]
def c43_3 : LC := .seq c43_1 .ret
def c43_4 : LC := .seq c43_0 c43_3
def c43 : LF := .mk 53 c43_4 [.tmp 4]
set_option maxRecDepth 100000 in
theorem low43 : lowFn Tryz.prog Tryz.f43 = some c43 := by kernel_rfl
def c46_0 : LC := .ops [oo 2 (.box (.t 0)), oo 3 (.box (.t 1)), oo 4 (.mov (.c (.bool false)))]
def c46_1 : LC := .ops [oa 5 0 2, ol 6 5, oa 7 0 3, ol 8 7, oo 9 (.bin .eql (.t 6) (.t 8)), om 10 9, ga 11 10 true 1 2, gl 12 10 true 11, ga 13 10 true 1 3, gl 14 10 true 13, og 15 10 true (.bin .eql (.t 12) (.t 14)), oo 16 (.pick (.t 10) (.t 15) (.c (.bool false))), om 17 16, ga 18 17 true 3 2, gl 19 17 true 18, ga 20 17 true 3 3, gl 21 17 true 20, og 22 17 true (.eq .bool false (.t 19) (.t 21)), oo 23 (.pick (.t 17) (.t 22) (.c (.bool false))), om 24 23, ga 25 24 true 2 2, gl 26 24 true 25, ga 27 24 true 2 3, gl 28 24 true 27, og 29 24 true (.eq .bool false (.t 26) (.t 28)), oo 30 (.pick (.t 24) (.t 29) (.c (.bool false))), om 31 30, ga 32 31 true 4 2, og 33 31 true (.load (some 9) (.t 32)), ga 34 31 true 4 3, og 35 31 true (.load (some 9) (.t 34)), og 36 31 true (.call (.c (.fn 89 [])) [.t 33, .t 35]), oo 37 (.pick (.t 31) (.t 36) (.c (.bool false))), om 38 37, ga 39 38 true 13 2, gl 40 38 true 39, ga 41 38 true 13 3, gl 42 38 true 41, og 43 38 true (.call (.c (.fn 84 [])) [.t 40, .t 42]), oo 44 (.pick (.t 38) (.t 43) (.c (.bool false))), om 45 44, ga 46 45 true 14 2, gl 47 45 true 46, ga 48 45 true 14 3, gl 49 45 true 48, og 50 45 true (.call (.c (.fn 84 [])) [.t 47, .t 49]), oo 51 (.pick (.t 45) (.t 50) (.c (.bool false))), om 52 51, ga 53 52 true 15 2, gl 54 52 true 53, ga 55 52 true 15 3, gl 56 52 true 55, og 57 52 true (.call (.c (.fn 90 [])) [.t 54, .t 56]), oo 58 (.pick (.t 52) (.t 57) (.c (.bool false))), om 4 58]
def c46_3 : LC := .seq c46_1 .ret
def c46_4 : LC := .seq c46_0 c46_3
def c46 : LF := .mk 59 c46_4 [.tmp 4]
set_option maxRecDepth 100000 in
theorem low46 : lowFn Tryz.prog Tryz.f46 = some c46 := by kernel_rfl
def c48_0 : LC := .ops [oo 1 (.box (.t 0)), oo 2 (.mov (.c (.bool false)))]
def c48_1 : LC := .ops [oa 3 4 1, ol 4 3, on 5 4, oo 6 (.bin .gtr (.t 5) (.c (.int .i64 80))), om 7 6, ga 8 7 false 5 1, gl 9 7 false 8, og 10 7 false (.len false (.t 9)), og 11 7 false (.bin .gtr (.t 10) (.c (.int .i64 40))), oo 12 (.pick (.t 7) (.c (.bool true)) (.t 11)), om 13 12, ga 14 13 false 7 1, gl 15 13 false 14, og 16 13 false (.len false (.t 15)), og 17 13 false (.bin .gtr (.t 16) (.c (.int .i64 60))), oo 18 (.pick (.t 13) (.c (.bool true)) (.t 17)), om 19 18, ga 20 19 false 8 1, gl 21 19 false 20, og 22 19 false (.len false (.t 21)), og 23 19 false (.bin .gtr (.t 22) (.c (.int .i64 30))), oo 24 (.pick (.t 19) (.c (.bool true)) (.t 23)), om 2 24]
def c48_3 : LC := .seq c48_1 .ret
def c48_4 : LC := .seq c48_0 c48_3
def c48 : LF := .mk 25 c48_4 [.tmp 2]
set_option maxRecDepth 100000 in
theorem low48 : lowFn Tryz.prog Tryz.f48 = some c48 := by kernel_rfl
def c49_0 : LC := .ops [om 4 0, om 5 1, oo 6 (.chk (.t 5)), oa 7 0 6, oo 8 (.call (.c (.fn 57 [])) [.t 4, .t 7, .c (.int .u64 11)])]
def c49_1 : LC := .ops [om 9 0, om 10 1, oo 11 (.chk (.t 10)), oa 12 1 11, oo 13 (.call (.c (.fn 78 [])) [.t 9, .t 12])]
def c49_2 : LC := .ops [om 14 0, om 15 1, oo 16 (.chk (.t 15)), oa 17 2 16, oo 18 (.call (.c (.fn 53 [])) [.t 14, .t 17, .c (.int .u64 18446744073709551615)])]
def c49_3 : LC := .ops [om 19 0, oo 20 (.chk (.t 19)), oa 21 1 20, ol 22 21, oo 23 (.eq .ptr true (.t 22) (.c .nilp))]
def c49_4 : LC := .ops [om 24 1, om 25 1, oo 26 (.chk (.t 25)), oa 27 1 26, ol 28 27, oo 29 (.chk (.t 24)), oa 30 3 29, .mk none none (.store 1 (.t 30) (.t 28))]
def c49_6 : LC := .cond (.t 23) c49_4 .skip
def c49_7 : LC := .seq c49_3 c49_6
def c49_8 : LC := .ops [om 31 1, oo 32 (.chk (.t 31)), oa 33 0 32, ol 34 33]
def c49_9 : LC := .ops [oo 39 (.bin .eql (.t 34) (.c (.int .i64 1))), om 38 39]
def c49_10 : LC := .ops [om 40 0, om 41 1, oo 42 (.chk (.t 41)), oa 43 5 42, oo 44 (.call (.c (.fn 93 [])) [.t 40, .t 43])]
def c49_11 : LC := .ops [oo 46 (.bin .eql (.t 34) (.c (.int .i64 2))), om 45 46]
def c49_13 : LC := .ops [oo 48 (.bin .eql (.t 34) (.c (.int .i64 3))), om 47 48]
def c49_14 : LC := .ops [om 49 0, om 50 1, oo 51 (.chk (.t 50)), oa 52 4 51, oo 53 (.call (.c (.fn 78 [])) [.t 49, .t 52])]
def c49_15 : LC := .ops [om 54 0, om 55 1, oo 56 (.chk (.t 55)), oa 57 11 56, oo 58 (.call (.c (.fn 94 [])) [.t 54, .t 57])]
def c49_16 : LC := .seq c49_14 c49_15
def c49_17 : LC := .ops [oo 60 (.bin .eql (.t 34) (.c (.int .i64 4))), om 59 60]
def c49_18 : LC := .ops [om 61 0, om 62 1, oo 63 (.chk (.t 62)), oa 64 4 63, oo 65 (.call (.c (.fn 78 [])) [.t 61, .t 64])]
def c49_19 : LC := .ops [oo 67 (.bin .eql (.t 34) (.c (.int .i64 5))), om 66 67]
def c49_20 : LC := .ops [om 68 0, om 69 1, oo 70 (.chk (.t 69)), oa 71 27 70, oo 72 (.call (.c (.fn 95 [])) [.t 68, .t 71])]
def c49_21 : LC := .ops [om 73 0, om 74 1, oo 75 (.chk (.t 74)), oa 76 36 75, oo 77 (.call (.c (.fn 58 [])) [.t 73, .t 76, .c (.int .i64 64)])]
def c49_22 : LC := .ops [om 78 0, om 79 1, oo 80 (.chk (.t 79)), oa 81 37 80, oo 82 (.call (.c (.fn 57 [])) [.t 78, .t 81, .c (.int .u64 100)])]
def c49_23 : LC := .seq c49_21 c49_22
def c49_24 : LC := .seq c49_20 c49_23
def c49_25 : LC := .ops [oo 84 (.bin .eql (.t 34) (.c (.int .i64 6))), om 83 84]
def c49_26 : LC := .ops [om 85 0, om 86 1, oo 87 (.chk (.t 86)), oa 88 38 87, oo 89 (.call (.c (.fn 78 [])) [.t 85, .t 88])]
def c49_27 : LC := .ops [om 90 0, om 91 1, oo 92 (.chk (.t 91)), oa 93 27 92, oo 94 (.call (.c (.fn 95 [])) [.t 90, .t 93])]
def c49_28 : LC := .ops [om 95 0, om 96 1, oo 97 (.chk (.t 96)), oa 98 37 97, oo 99 (.call (.c (.fn 57 [])) [.t 95, .t 98, .c (.int .u64 100)])]
def c49_29 : LC := .ops [om 100 0, om 101 1, oo 102 (.chk (.t 101)), oa 103 41 102, oo 104 (.call (.c (.fn 56 [])) [.t 100, .t 103])]
def c49_30 : LC := .seq c49_28 c49_29
def c49_31 : LC := .seq c49_27 c49_30
def c49_32 : LC := .seq c49_26 c49_31
def c49_33 : LC := .ops [oo 106 (.bin .eql (.t 34) (.c (.int .i64 7))), om 105 106]
def c49_34 : LC := .ops [om 107 0, om 108 1, oo 109 (.chk (.t 108)), oa 110 38 109, oo 111 (.call (.c (.fn 78 [])) [.t 107, .t 110])]
def c49_35 : LC := .ops [om 112 0, om 113 1, oo 114 (.chk (.t 113)), oa 115 39 114, oo 116 (.call (.c (.fn 57 [])) [.t 112, .t 115, .c (.int .u64 40)])]
def c49_36 : LC := .ops [om 117 0, om 118 1, oo 119 (.chk (.t 118)), oa 120 40 119, oo 121 (.call (.c (.fn 59 [])) [.t 117, .t 120])]
def c49_37 : LC := .seq c49_35 c49_36
def c49_38 : LC := .seq c49_34 c49_37
def c49_39 : LC := .ops [oo 123 (.bin .eql (.t 34) (.c (.int .i64 8))), om 122 123]
def c49_41 : LC := .ops [oo 124 (.bin .eql (.t 34) (.c (.int .i64 10))), om 122 124]
def c49_42 : LC := .cond (.t 122) .skip c49_41
def c49_43 : LC := .seq c49_39 c49_42
def c49_44 : LC := .ops [om 125 0, om 126 1, oo 127 (.chk (.t 126)), oa 128 38 127, oo 129 (.call (.c (.fn 78 [])) [.t 125, .t 128])]
def c49_45 : LC := .ops [oo 131 (.bin .eql (.t 34) (.c (.int .i64 9))), om 130 131]
def c49_46 : LC := .ops [om 132 0, om 133 1, oo 134 (.chk (.t 133)), oa 135 38 134, oo 136 (.call (.c (.fn 78 [])) [.t 132, .t 135])]
def c49_47 : LC := .ops [om 137 0, om 138 1, oo 139 (.chk (.t 138)), oa 140 4 139, oo 141 (.call (.c (.fn 78 [])) [.t 137, .t 140])]
def c49_48 : LC := .seq c49_46 c49_47
def c49_49 : LC := .ops [oo 143 (.bin .eql (.t 34) (.c (.int .i64 11))), om 142 143]
def c49_50 : LC := .ops [om 144 0, om 145 1, oo 146 (.chk (.t 145)), oa 147 41 146, oo 148 (.call (.c (.fn 56 [])) [.t 144, .t 147])]
def c49_51 : LC := .ops [om 35 0, oo 36 (.chk (.t 35)), oa 37 2 36, .mk none none (.store 1 (.t 37) (.c (.bool true)))]
def c49_52 : LC := .cond (.t 142) c49_50 c49_51
def c49_53 : LC := .seq c49_49 c49_52
def c49_54 : LC := .cond (.t 130) c49_48 c49_53
def c49_55 : LC := .seq c49_45 c49_54
def c49_56 : LC := .cond (.t 122) c49_44 c49_55
def c49_57 : LC := .seq c49_43 c49_56
def c49_58 : LC := .cond (.t 105) c49_38 c49_57
def c49_59 : LC := .seq c49_33 c49_58
def c49_60 : LC := .cond (.t 83) c49_32 c49_59
def c49_61 : LC := .seq c49_25 c49_60
def c49_62 : LC := .cond (.t 66) c49_24 c49_61
def c49_63 : LC := .seq c49_19 c49_62
def c49_64 : LC := .cond (.t 59) c49_18 c49_63
def c49_65 : LC := .seq c49_17 c49_64
def c49_66 : LC := .cond (.t 47) c49_16 c49_65
def c49_67 : LC := .seq c49_13 c49_66
def c49_68 : LC := .cond (.t 45) .skip c49_67
def c49_69 : LC := .seq c49_11 c49_68
def c49_70 : LC := .cond (.t 38) c49_10 c49_69
def c49_71 : LC := .seq c49_9 c49_70
def c49_72 : LC := .block 0 c49_71
def c49_73 : LC := .seq c49_8 c49_72
def c49_74 : LC := .seq c49_7 c49_73
def c49_75 : LC := .seq c49_2 c49_74
def c49_76 : LC := .seq c49_1 c49_75
def c49_77 : LC := .seq c49_0 c49_76
def c49 : LF := .mk 149 c49_77 []
set_option maxRecDepth 100000 in
theorem low49 : lowFn Tryz.prog Tryz.f49 = some c49 := by kernel_rfl
def c50_0 : LC := .ops [oo 2 (.alloc [.int .i64 0, .int .u32 0, .int .u64 0, .int .u32 0, .int .u32 0, .int .i64 0, .list (some true) true [], .list (some true) true [], .list (some true) true [], .int .i64 0, .int .i64 0, .int .i64 0, .int .i64 0, .bool false, .bool false, .int .i64 0, .int .i64 0, .int .i64 0, .int .i64 0, .list (some true) true [], .list (some true) true [], .list (some true) true [], .list (some true) true [], .int .i64 0, .list (some true) true [], .list (some true) true [], .list (some true) true [], .int .i64 0, .int .i64 0, .int .i64 0, .int .i64 0, .list (some true) true [], .list (some true) true [], .int .i64 0, .list (some true) true [], .list (some true) true [], .str (ByteArray.mk (Array.mk [])), .int .i64 0, .int .u32 0, .int .i64 0, .bool false, .int .i64 0]), oo 3 (.mov (.c (.bool false)))]
def c50_1 : LC := .ops [om 6 0, oo 7 (.call (.c (.fn 30 [])) [.t 6]), oo 8 (.build [.nilp, .nilp, .bool false] [(1, 1, .t 7)]), oo 9 (.box (.t 8)), om 4 9]
def c50_2 : LC := .ops [oo 5 (.alloc [.int .i64 0, .int .u32 0, .int .u64 0, .int .u32 0, .int .u32 0, .int .i64 0, .list (some true) true [], .list (some true) true [], .list (some true) true [], .int .i64 0, .int .i64 0, .int .i64 0, .int .i64 0, .bool false, .bool false, .int .i64 0, .int .i64 0, .int .i64 0, .int .i64 0, .list (some true) true [], .list (some true) true [], .list (some true) true [], .list (some true) true [], .int .i64 0, .list (some true) true [], .list (some true) true [], .list (some true) true [], .int .i64 0, .int .i64 0, .int .i64 0, .int .i64 0, .list (some true) true [], .list (some true) true [], .int .i64 0, .list (some true) true [], .list (some true) true [], .str (ByteArray.mk (Array.mk [])), .int .i64 0, .int .u32 0, .int .i64 0, .bool false, .int .i64 0])]
def c50_3 : LC := .ops [om 10 4, oo 11 (.call (.c (.fn 49 [])) [.t 10, .t 5])]
def c50_4 : LC := .ops [om 12 4, om 13 0, oo 14 (.call (.c (.fn 31 [])) [.t 12, .t 13, .c (.int .i64 65536)]), oo 15 (.un .not (.t 14))]
def c50_5 : LC := .ops [oo 16 (.build [.int .i64 0, .int .u32 0, .int .u64 0, .int .u32 0, .int .u32 0, .int .i64 0, .list (some true) true [], .list (some true) true [], .list (some true) true [], .int .i64 0, .int .i64 0, .int .i64 0, .int .i64 0, .bool false, .bool false, .int .i64 0, .int .i64 0, .int .i64 0, .int .i64 0, .list (some true) true [], .list (some true) true [], .list (some true) true [], .list (some true) true [], .int .i64 0, .list (some true) true [], .list (some true) true [], .list (some true) true [], .int .i64 0, .int .i64 0, .int .i64 0, .int .i64 0, .list (some true) true [], .list (some true) true [], .int .i64 0, .list (some true) true [], .list (some true) true [], .str (ByteArray.mk (Array.mk [])), .int .i64 0, .int .u32 0, .int .i64 0, .bool false, .int .i64 0] []), .mk none none (.store 42 (.t 2) (.t 16)), oo 3 (.mov (.c (.bool false)))]
def c50_7 : LC := .seq c50_5 .ret
def c50_9 : LC := .cond (.t 15) c50_7 .skip
def c50_10 : LC := .seq c50_4 c50_9
def c50_11 : LC := .ops [oo 17 (.load (some 42) (.t 5)), .mk none none (.store 42 (.t 2) (.t 17)), oo 3 (.mov (.c (.bool true)))]
def c50_13 : LC := .seq c50_11 .ret
def c50_14 : LC := .seq c50_10 c50_13
def c50_15 : LC := .seq c50_3 c50_14
def c50_16 : LC := .seq c50_2 c50_15
def c50_17 : LC := .seq c50_1 c50_16
def c50_18 : LC := .seq c50_0 c50_17
def c50 : LF := .mk 18 c50_18 [.cell 2 (some 42), .tmp 3]
set_option maxRecDepth 100000 in
theorem low50 : lowFn Tryz.prog Tryz.f50 = some c50 := by kernel_rfl
def c51_0 : LC := .ops [oo 2 (.box (.t 0)), oo 3 (.box (.t 1)), oo 4 (.mov (.c (.bool false)))]
def c51_1 : LC := .ops [oa 5 0 2, ol 6 5, oa 7 0 3, ol 8 7, oo 9 (.bin .eql (.t 6) (.t 8)), om 10 9, ga 11 10 true 1 2, gl 12 10 true 11, ga 13 10 true 1 3, gl 14 10 true 13, og 15 10 true (.bin .eql (.t 12) (.t 14)), oo 16 (.pick (.t 10) (.t 15) (.c (.bool false))), om 17 16, ga 18 17 true 2 2, gl 19 17 true 18, ga 20 17 true 2 3, gl 21 17 true 20, og 22 17 true (.bin .eql (.t 19) (.t 21)), oo 23 (.pick (.t 17) (.t 22) (.c (.bool false))), om 24 23, ga 25 24 true 3 2, gl 26 24 true 25, ga 27 24 true 3 3, gl 28 24 true 27, og 29 24 true (.bin .eql (.t 26) (.t 28)), oo 30 (.pick (.t 24) (.t 29) (.c (.bool false))), om 31 30, ga 32 31 true 4 2, gl 33 31 true 32, ga 34 31 true 4 3, gl 35 31 true 34, og 36 31 true (.bin .eql (.t 33) (.t 35)), oo 37 (.pick (.t 31) (.t 36) (.c (.bool false))), om 38 37, ga 39 38 true 5 2, og 40 38 true (.load (some 6) (.t 39)), ga 41 38 true 5 3, og 42 38 true (.load (some 6) (.t 41)), og 43 38 true (.call (.c (.fn 43 [])) [.t 40, .t 42]), oo 44 (.pick (.t 38) (.t 43) (.c (.bool false))), om 45 44, ga 46 45 true 11 2, og 47 45 true (.load (some 16) (.t 46)), ga 48 45 true 11 3, og 49 45 true (.load (some 16) (.t 48)), og 50 45 true (.call (.c (.fn 46 [])) [.t 47, .t 49]), oo 51 (.pick (.t 45) (.t 50) (.c (.bool false))), om 52 51, ga 53 52 true 27 2, og 54 52 true (.load (some 9) (.t 53)), ga 55 52 true 27 3, og 56 52 true (.load (some 9) (.t 55)), og 57 52 true (.call (.c (.fn 83 [])) [.t 54, .t 56]), oo 58 (.pick (.t 52) (.t 57) (.c (.bool false))), om 59 58, ga 60 59 true 36 2, gl 61 59 true 60, ga 62 59 true 36 3, gl 63 59 true 62, og 64 59 true (.bin .eql (.t 61) (.t 63)), oo 65 (.pick (.t 59) (.t 64) (.c (.bool false))), om 66 65, ga 67 66 true 37 2, gl 68 66 true 67, ga 69 66 true 37 3, gl 70 66 true 69, og 71 66 true (.bin .eql (.t 68) (.t 70)), oo 72 (.pick (.t 66) (.t 71) (.c (.bool false))), om 73 72, ga 74 73 true 38 2, gl 75 73 true 74, ga 76 73 true 38 3, gl 77 73 true 76, og 78 73 true (.bin .eql (.t 75) (.t 77)), oo 79 (.pick (.t 73) (.t 78) (.c (.bool false))), om 80 79, ga 81 80 true 39 2, gl 82 80 true 81, ga 83 80 true 39 3, gl 84 80 true 83, og 85 80 true (.bin .eql (.t 82) (.t 84)), oo 86 (.pick (.t 80) (.t 85) (.c (.bool false))), om 87 86, ga 88 87 true 40 2, gl 89 87 true 88, ga 90 87 true 40 3, gl 91 87 true 90, og 92 87 true (.eq .bool false (.t 89) (.t 91)), oo 93 (.pick (.t 87) (.t 92) (.c (.bool false))), om 94 93, ga 95 94 true 41 2, gl 96 94 true 95, ga 97 94 true 41 3, gl 98 94 true 97, og 99 94 true (.bin .eql (.t 96) (.t 98)), oo 100 (.pick (.t 94) (.t 99) (.c (.bool false))), om 4 100]
def c51_3 : LC := .seq c51_1 .ret
def c51_4 : LC := .seq c51_0 c51_3
def c51 : LF := .mk 101 c51_4 [.tmp 4]
set_option maxRecDepth 100000 in
theorem low51 : lowFn Tryz.prog Tryz.f51 = some c51 := by kernel_rfl
def c52_0 : LC := .ops [om 6 0, oo 7 (.chk (.t 6)), oa 8 1 7, ol 9 8, oo 10 (.eq .ptr true (.t 9) (.c .nilp))]
def c52_1 : LC := .ops [om 11 1, om 12 0, oo 13 (.chk (.t 12)), oa 14 1 13, ol 15 14, om 16 2, oo 17 (.call (.c (.fn 96 [])) [.t 15, .t 16]), oo 18 (.conv .i64 (.t 17)), oo 19 (.chk (.t 11)), .mk none none (.store 1 (.t 19) (.t 18))]
def c52_3 : LC := .seq c52_1 .ret
def c52_5 : LC := .cond (.t 10) c52_3 .skip
def c52_6 : LC := .seq c52_0 c52_5
def c52_7 : LC := .ops [om 20 0, om 21 0, oo 22 (.chk (.t 21)), oa 23 2 22, ol 24 23, om 25 24, gm 26 25 false 1, og 27 25 false (.chk (.t 26)), gl 28 25 false 27, og 29 25 false (.conv .u64 (.t 28)), gm 30 25 false 2, og 31 25 false (.bin .gtr (.t 29) (.t 30)), oo 32 (.pick (.t 25) (.c (.bool true)) (.t 31)), oo 33 (.chk (.t 20)), oa 34 2 33, .mk none none (.store 1 (.t 34) (.t 32))]
def c52_8 : LC := .opsX [(om 35 0, []), (oo 36 (.chk (.t 35)), []), (oa 37 0 36, []), (ol 38 37, []), (om 39 1, []), (oo 40 (.chk (.t 39)), []), (ol 41 40, []), (oo 42 (.conv .u64 (.t 41)), []), (oo 43 (.callX (.c (.fn 97 [])) [.t 38, .t 42]), [])]
def c52_9 : LC := .seq c52_7 c52_8
def c52_10 : LC := .seq c52_6 c52_9
def c52 : LF := .mk 44 c52_10 []
set_option maxRecDepth 100000 in
theorem low52 : lowFn Tryz.prog Tryz.f52 = some c52 := by kernel_rfl
def c53_0 : LC := .ops [om 6 0, oo 7 (.chk (.t 6)), oa 8 1 7, ol 9 8, oo 10 (.eq .ptr true (.t 9) (.c .nilp))]
def c53_1 : LC := .ops [om 11 1, om 12 0, oo 13 (.chk (.t 12)), oa 14 1 13, ol 15 14, om 16 2, oo 17 (.call (.c (.fn 96 [])) [.t 15, .t 16]), oo 18 (.chk (.t 11)), .mk none none (.store 1 (.t 18) (.t 17))]
def c53_3 : LC := .seq c53_1 .ret
def c53_5 : LC := .cond (.t 10) c53_3 .skip
def c53_6 : LC := .seq c53_0 c53_5
def c53_7 : LC := .ops [om 19 0, om 20 0, oo 21 (.chk (.t 20)), oa 22 2 21, ol 23 22, om 24 23, gm 25 24 false 1, og 26 24 false (.chk (.t 25)), gl 27 24 false 26, gm 28 24 false 2, og 29 24 false (.bin .gtr (.t 27) (.t 28)), oo 30 (.pick (.t 24) (.c (.bool true)) (.t 29)), oo 31 (.chk (.t 19)), oa 32 2 31, .mk none none (.store 1 (.t 32) (.t 30))]
def c53_8 : LC := .opsX [(om 33 0, []), (oo 34 (.chk (.t 33)), []), (oa 35 0 34, []), (ol 36 35, []), (om 37 1, []), (oo 38 (.chk (.t 37)), []), (ol 39 38, []), (oo 40 (.callX (.c (.fn 97 [])) [.t 36, .t 39]), [])]
def c53_9 : LC := .seq c53_7 c53_8
def c53_10 : LC := .seq c53_6 c53_9
def c53 : LF := .mk 41 c53_10 []
set_option maxRecDepth 100000 in
theorem low53 : lowFn Tryz.prog Tryz.f53 = some c53 := by kernel_rfl
def c54_0 : LC := .ops [om 12 1, oo 13 (.chk (.t 12)), ol 14 13, on 15 14, oo 16 (.conv .u64 (.t 15)), oo 8 (.alloc [.int .u64 0]), .mk none none (.store 1 (.t 8) (.t 16))]
def c54_1 : LC := .ops [om 17 0, om 18 2, oo 19 (.conv .u64 (.t 18)), oo 20 (.call (.c (.fn 53 [])) [.t 17, .t 8, .t 19])]
def c54_2 : LC := .ops [om 21 0, oo 22 (.chk (.t 21)), oa 23 1 22, ol 24 23, oo 25 (.eq .ptr false (.t 24) (.c .nilp))]
def c54_3 : LC := .ops [om 26 1, oo 27 (.chk (.t 26)), ol 28 27, on 29 28, oo 30 (.mov (.c (.int .i64 0)))]
def c54_4 : LC := .ops [oo 31 (.bin .lss (.t 30) (.t 29))]
def c54_6 : LC := .cond (.t 31) .skip (.exit 0)
def c54_7 : LC := .ops [om 32 30, om 9 32]
def c54_8 : LC := .ops [om 33 1, oo 34 (.chk (.t 33)), ol 35 34, om 36 9, oo 37 (.iaddr 3 (.t 35) (.t 36)), oo 38 (.load (some 3) (.t 37)), oo 10 (.alloc [.int .i64 0, .int .i64 0, .int .i64 0]), .mk none none (.store 3 (.t 10) (.t 38))]
def c54_9 : LC := .ops [om 39 3, oo 40 (.call (.t 39) [.t 10])]
def c54_10 : LC := .seq c54_8 c54_9
def c54_11 : LC := .seq c54_7 c54_10
def c54_12 : LC := .block 1 c54_11
def c54_13 : LC := .ops [oo 41 (.bin .add (.t 30) (.c (.int .i64 1))), om 30 41]
def c54_14 : LC := .seq c54_12 c54_13
def c54_15 : LC := .seq c54_6 c54_14
def c54_16 : LC := .seq c54_4 c54_15
def c54_17 : LC := .loop c54_16
def c54_18 : LC := .block 0 c54_17
def c54_19 : LC := .seq c54_3 c54_18
def c54_21 : LC := .seq c54_19 .ret
def c54_23 : LC := .cond (.t 25) c54_21 .skip
def c54_24 : LC := .seq c54_2 c54_23
def c54_25 : LC := .ops [ol 42 8, oo 43 (.mov (.c (.int .u64 0)))]
def c54_26 : LC := .ops [oo 44 (.bin .lss (.t 43) (.t 42))]
def c54_28 : LC := .cond (.t 44) .skip (.exit 2)
def c54_29 : LC := .ops [oo 11 (.alloc [.int .i64 0, .int .i64 0, .int .i64 0])]
def c54_30 : LC := .ops [om 45 3, oo 46 (.call (.t 45) [.t 11])]
def c54_31 : LC := .ops [om 47 0, oo 48 (.chk (.t 47)), oa 49 1 48, ol 50 49, oo 51 (.call (.c (.fn 98 [])) [.t 50]), om 52 51, gm 53 52 false 0, og 54 52 false (.chk (.t 53)), ga 55 52 false 2 54, gl 56 52 false 55, oo 57 (.pick (.t 52) (.c (.bool true)) (.t 56))]
def c54_34 : LC := .cond (.t 57) .ret .skip
def c54_35 : LC := .seq c54_31 c54_34
def c54_36 : LC := .opsX [(om 58 1, []), (om 59 1, []), (oo 60 (.chk (.t 59)), []), (ol 61 60, []), (oo 62 (.load (some 3) (.t 11)), []), (oo 63 (.slit 3 [.t 62]), []), (oo 64 (.app 3 24 (.t 61) (.t 63)), []), (oo 65 (.chk (.t 58)), []), (.mk none none (.store 1 (.t 65) (.t 64)), [])]
def c54_37 : LC := .seq c54_35 c54_36
def c54_38 : LC := .seq c54_30 c54_37
def c54_39 : LC := .seq c54_29 c54_38
def c54_40 : LC := .block 3 c54_39
def c54_41 : LC := .ops [oo 66 (.bin .add (.t 43) (.c (.int .u64 1))), om 43 66]
def c54_42 : LC := .seq c54_40 c54_41
def c54_43 : LC := .seq c54_28 c54_42
def c54_44 : LC := .seq c54_26 c54_43
def c54_45 : LC := .loop c54_44
def c54_46 : LC := .block 2 c54_45
def c54_47 : LC := .seq c54_25 c54_46
def c54_48 : LC := .seq c54_24 c54_47
def c54_49 : LC := .seq c54_1 c54_48
def c54_50 : LC := .seq c54_0 c54_49
def c54 : LF := .mk 67 c54_50 []
set_option maxRecDepth 100000 in
theorem low54 : lowFn Tryz.prog Tryz.f54 = some c54 := by kernel_rfl
def c55_0 : LC := .opsX [(ol 3 1, []), (om 4 0, []), (oo 5 (.chk (.t 4)), []), (oa 6 0 5, []), (oo 7 (.callX (.c (.fn 56 [])) [.t 3, .t 6]), [])]
def c55_1 : LC := .opsX [(ol 8 1, []), (om 9 0, []), (oo 10 (.chk (.t 9)), []), (oa 11 1 10, []), (oo 12 (.callX (.c (.fn 57 [])) [.t 8, .t 11, .c (.int .u64 100000)]), [])]
def c55_2 : LC := .opsX [(ol 13 1, []), (om 14 0, []), (oo 15 (.chk (.t 14)), []), (oa 16 2 15, []), (oo 17 (.callX (.c (.fn 57 [])) [.t 13, .t 16, .c (.int .u64 100)]), [])]
def c55_3 : LC := .seq c55_1 c55_2
def c55_4 : LC := .seq c55_0 c55_3
def c55 : LF := .mk 18 c55_4 []
set_option maxRecDepth 100000 in
theorem low55 : lowFn Tryz.prog Tryz.f55 = some c55 := by kernel_rfl
def c56_0 : LC := .ops [om 4 0, om 5 1, oo 6 (.call (.c (.fn 99 [])) [.t 4, .t 5, .c (.int .i64 (-9223372036854775808)), .c (.int .i64 9223372036854775807)])]
def c56 : LF := .mk 7 c56_0 []
set_option maxRecDepth 100000 in
theorem low56 : lowFn Tryz.prog Tryz.f56 = some c56 := by kernel_rfl
def c57_0 : LC := .ops [om 6 0, oo 7 (.chk (.t 6)), oa 8 1 7, ol 9 8, oo 10 (.eq .ptr true (.t 9) (.c .nilp))]
def c57_1 : LC := .ops [om 11 1, om 12 0, oo 13 (.chk (.t 12)), oa 14 1 13, ol 15 14, om 16 2, oo 17 (.call (.c (.fn 96 [])) [.t 15, .t 16]), oo 18 (.conv .i64 (.t 17)), oo 19 (.chk (.t 11)), .mk none none (.store 1 (.t 19) (.t 18))]
def c57_3 : LC := .seq c57_1 .ret
def c57_5 : LC := .cond (.t 10) c57_3 .skip
def c57_6 : LC := .seq c57_0 c57_5
def c57_7 : LC := .ops [om 20 0, om 21 0, oo 22 (.chk (.t 21)), oa 23 2 22, ol 24 23, om 25 24, gm 26 25 false 1, og 27 25 false (.chk (.t 26)), gl 28 25 false 27, og 29 25 false (.conv .u64 (.t 28)), gm 30 25 false 2, og 31 25 false (.bin .gtr (.t 29) (.t 30)), oo 32 (.pick (.t 25) (.c (.bool true)) (.t 31)), oo 33 (.chk (.t 20)), oa 34 2 33, .mk none none (.store 1 (.t 34) (.t 32))]
def c57_8 : LC := .opsX [(om 35 0, []), (oo 36 (.chk (.t 35)), []), (oa 37 0 36, []), (ol 38 37, []), (om 39 1, []), (oo 40 (.chk (.t 39)), []), (ol 41 40, []), (oo 42 (.conv .u64 (.t 41)), []), (oo 43 (.callX (.c (.fn 97 [])) [.t 38, .t 42]), [])]
def c57_9 : LC := .seq c57_7 c57_8
def c57_10 : LC := .seq c57_6 c57_9
def c57 : LF := .mk 44 c57_10 []
set_option maxRecDepth 100000 in
theorem low57 : lowFn Tryz.prog Tryz.f57 = some c57 := by kernel_rfl
def c58_0 : LC := .ops [om 6 0, oo 7 (.chk (.t 6)), oa 8 1 7, ol 9 8, oo 10 (.eq .ptr true (.t 9) (.c .nilp))]
def c58_1 : LC := .ops [om 11 1, om 12 0, oo 13 (.chk (.t 12)), oa 14 1 13, ol 15 14, om 16 2, oo 17 (.call (.c (.fn 100 [])) [.t 15, .t 16]), oo 18 (.chk (.t 11)), .mk none none (.store 1 (.t 18) (.t 17))]
def c58_3 : LC := .seq c58_1 .ret
def c58_5 : LC := .cond (.t 10) c58_3 .skip
def c58_6 : LC := .seq c58_0 c58_5
def c58_7 : LC := .ops [om 19 0, om 20 0, oo 21 (.chk (.t 20)), oa 22 2 21, ol 23 22, om 24 23, gm 25 24 false 1, og 26 24 false (.chk (.t 25)), gl 27 24 false 26, og 28 24 false (.len true (.t 27)), gm 29 24 false 2, og 30 24 false (.bin .gtr (.t 28) (.t 29)), oo 31 (.pick (.t 24) (.c (.bool true)) (.t 30)), oo 32 (.chk (.t 19)), oa 33 2 32, .mk none none (.store 1 (.t 33) (.t 31))]
def c58_8 : LC := .opsX [(om 34 0, []), (oo 35 (.chk (.t 34)), []), (oa 36 0 35, []), (ol 37 36, []), (om 38 1, []), (oo 39 (.chk (.t 38)), []), (ol 40 39, []), (oo 41 (.callX (.c (.fn 101 [])) [.t 37, .t 40]), [])]
def c58_9 : LC := .seq c58_7 c58_8
def c58_10 : LC := .seq c58_6 c58_9
def c58 : LF := .mk 42 c58_10 []
set_option maxRecDepth 100000 in
theorem low58 : lowFn Tryz.prog Tryz.f58 = some c58 := by kernel_rfl
def c59_0 : LC := .ops [om 4 0, oo 5 (.chk (.t 4)), oa 6 1 5, ol 7 6, oo 8 (.eq .ptr true (.t 7) (.c .nilp))]
def c59_1 : LC := .ops [om 9 1, om 10 0, oo 11 (.chk (.t 10)), oa 12 1 11, ol 13 12, oo 14 (.call (.c (.fn 102 [])) [.t 13]), oo 15 (.chk (.t 9)), .mk none none (.store 1 (.t 15) (.t 14))]
def c59_3 : LC := .seq c59_1 .ret
def c59_5 : LC := .cond (.t 8) c59_3 .skip
def c59_6 : LC := .seq c59_0 c59_5
def c59_7 : LC := .opsX [(om 16 0, []), (oo 17 (.chk (.t 16)), []), (oa 18 0 17, []), (ol 19 18, []), (om 20 1, []), (oo 21 (.chk (.t 20)), []), (ol 22 21, []), (oo 23 (.callX (.c (.fn 103 [])) [.t 19, .t 22]), [])]
def c59_8 : LC := .seq c59_6 c59_7
def c59 : LF := .mk 24 c59_8 []
set_option maxRecDepth 100000 in
theorem low59 : lowFn Tryz.prog Tryz.f59 = some c59 := by kernel_rfl
def c60_0 : LC := .ops [oo 2 (.box (.t 0))]
def c60_1 : LC := .opsX [(ol 4 2, []), (om 5 1, []), (oo 6 (.chk (.t 5)), []), (oa 7 0 6, []), (oo 8 (.callX (.c (.fn 78 [])) [.t 4, .t 7]), [])]
def c60_2 : LC := .opsX [(ol 9 2, []), (om 10 1, []), (oo 11 (.chk (.t 10)), []), (oa 12 1 11, []), (oo 13 (.callX (.c (.fn 78 [])) [.t 9, .t 12]), [])]
def c60_3 : LC := .opsX [(ol 14 2, []), (om 15 1, []), (oo 16 (.chk (.t 15)), []), (oa 17 2 16, []), (oo 18 (.callX (.c (.fn 95 [])) [.t 14, .t 17]), [])]
def c60_4 : LC := .opsX [(ol 19 2, []), (om 20 1, []), (oo 21 (.chk (.t 20)), []), (oa 22 11 21, []), (oo 23 (.mkfn 105 [.t 2]), []), (oo 24 (.callX (.c (.fn 104 [])) [.t 19, .t 22, .c (.int .i64 40), .t 23]), [])]
def c60_5 : LC := .opsX [(ol 25 2, []), (om 26 1, []), (oo 27 (.chk (.t 26)), []), (oa 28 12 27, []), (oo 29 (.mkfn 107 [.t 2]), []), (oo 30 (.callX (.c (.fn 106 [])) [.t 25, .t 28, .c (.int .i64 4096), .t 29]), [])]
def c60_6 : LC := .opsX [(ol 31 2, []), (om 32 1, []), (oo 33 (.chk (.t 32)), []), (oa 34 13 33, []), (oo 35 (.callX (.c (.fn 56 [])) [.t 31, .t 34]), [])]
def c60_7 : LC := .opsX [(ol 36 2, []), (om 37 1, []), (oo 38 (.chk (.t 37)), []), (oa 39 14 38, []), (oo 40 (.callX (.c (.fn 57 [])) [.t 36, .t 39, .c (.int .u64 4)]), [])]
def c60_8 : LC := .opsX [(ol 41 2, []), (om 42 1, []), (oo 43 (.chk (.t 42)), []), (oa 44 15 43, []), (oo 45 (.callX (.c (.fn 57 [])) [.t 41, .t 44, .c (.int .u64 40)]), [])]
def c60_9 : LC := .seq c60_7 c60_8
def c60_10 : LC := .seq c60_6 c60_9
def c60_11 : LC := .seq c60_5 c60_10
def c60_12 : LC := .seq c60_4 c60_11
def c60_13 : LC := .seq c60_3 c60_12
def c60_14 : LC := .seq c60_2 c60_13
def c60_15 : LC := .seq c60_1 c60_14
def c60_16 : LC := .seq c60_0 c60_15
def c60 : LF := .mk 46 c60_16 []
set_option maxRecDepth 100000 in
theorem low60 : lowFn Tryz.prog Tryz.f60 = some c60 := by kernel_rfl
def c61_0 : LC := .ops [oo 2 (.mov (.c (.list (some true) true [])))]
def c61_1 : LC := .ops [om 3 0, oo 4 (.eq .ptr false (.t 3) (.c .nilp))]
def c61_2 : LC := .ops [oo 2 (.mov (.c (.list (some true) true [])))]
def c61_4 : LC := .seq c61_2 .ret
def c61_6 : LC := .cond (.t 4) c61_4 .skip
def c61_7 : LC := .seq c61_1 c61_6
def c61_8 : LC := .ops [om 5 0, oo 6 (.chk (.t 5)), oa 7 0 6, ol 8 7, oo 9 (.call (.c (.fn 71 [])) [.t 8]), om 2 9]
def c61_10 : LC := .seq c61_8 .ret
def c61_11 : LC := .seq c61_7 c61_10
def c61_12 : LC := .seq c61_0 c61_11
def c61 : LF := .mk 10 c61_12 [.tmp 2]
set_option maxRecDepth 100000 in
theorem low61 : lowFn Tryz.prog Tryz.f61 = some c61 := by kernel_rfl
def c62_0 : LC := .ops [oo 4 (.mov (.c (.bool false)))]
def c62_1 : LC := .ops [om 6 0, on 7 6, om 8 1, on 9 8, oo 10 (.bin .neq (.t 7) (.t 9))]
def c62_2 : LC := .ops [oo 4 (.mov (.c (.bool false)))]
def c62_4 : LC := .seq c62_2 .ret
def c62_6 : LC := .cond (.t 10) c62_4 .skip
def c62_7 : LC := .seq c62_1 c62_6
def c62_8 : LC := .ops [om 11 0, on 12 11, oo 13 (.mov (.c (.int .i64 0)))]
def c62_9 : LC := .ops [oo 14 (.bin .lss (.t 13) (.t 12))]
def c62_11 : LC := .cond (.t 14) .skip (.exit 0)
def c62_12 : LC := .ops [om 15 13, om 5 15]
def c62_13 : LC := .opsX [(om 16 0, []), (om 17 5, []), (oo 18 (.iaddr 3 (.t 16) (.t 17)), []), (oo 19 (.load (some 3) (.t 18)), []), (om 20 1, []), (om 21 5, []), (oo 22 (.iaddr 3 (.t 20) (.t 21)), []), (oo 23 (.load (some 3) (.t 22)), []), (oo 24 (.eq (.row [.int, .int, .int]) true (.t 19) (.t 23)), [])]
def c62_14 : LC := .ops [oo 4 (.mov (.c (.bool false)))]
def c62_16 : LC := .seq c62_14 .ret
def c62_18 : LC := .cond (.t 24) c62_16 .skip
def c62_19 : LC := .seq c62_13 c62_18
def c62_20 : LC := .seq c62_12 c62_19
def c62_21 : LC := .block 1 c62_20
def c62_22 : LC := .ops [oo 25 (.bin .add (.t 13) (.c (.int .i64 1))), om 13 25]
def c62_23 : LC := .seq c62_21 c62_22
def c62_24 : LC := .seq c62_11 c62_23
def c62_25 : LC := .seq c62_9 c62_24
def c62_26 : LC := .loop c62_25
def c62_27 : LC := .block 0 c62_26
def c62_28 : LC := .seq c62_8 c62_27
def c62_29 : LC := .ops [oo 4 (.mov (.c (.bool true)))]
def c62_31 : LC := .seq c62_29 .ret
def c62_32 : LC := .seq c62_28 c62_31
def c62_33 : LC := .seq c62_7 c62_32
def c62_34 : LC := .seq c62_0 c62_33
def c62 : LF := .mk 26 c62_34 [.tmp 4]
set_option maxRecDepth 100000 in
theorem low62 : lowFn Tryz.prog Tryz.f62 = some c62 := by kernel_rfl
def c63_0 : LC := .ops [oo 2 (.mov (.c (.str (ByteArray.mk (Array.mk [])))))]
def c63_1 : LC := .ops [om 3 0, oo 4 (.bin .lss (.t 3) (.c (.int .u64 128)))]
def c63_2 : LC := .ops [om 5 0, oo 6 (.conv .u8 (.t 5)), oo 7 (.slit 1 [.t 6]), oo 8 (.b2s (.t 7)), om 2 8]
def c63_4 : LC := .seq c63_2 .ret
def c63_6 : LC := .cond (.t 4) c63_4 .skip
def c63_7 : LC := .seq c63_1 c63_6
def c63_8 : LC := .opsX [(om 9 0, []), (oo 10 (.bin .rem (.t 9) (.c (.int .u64 128))), []), (oo 11 (.bin .add (.c (.int .u64 128)) (.t 10)), []), (oo 12 (.conv .u8 (.t 11)), []), (oo 13 (.slit 1 [.t 12]), []), (oo 14 (.b2s (.t 13)), []), (om 15 0, []), (oo 16 (.bin .quo (.t 15) (.c (.int .u64 128))), []), (oo 17 (.callX (.c (.fn 63 [])) [.t 16]), [13]), (oo 18 (.bin .add (.t 14) (.t 17)), []), (om 2 18, [])]
def c63_10 : LC := .seq c63_8 .ret
def c63_11 : LC := .seq c63_7 c63_10
def c63_12 : LC := .seq c63_0 c63_11
def c63 : LF := .mk 19 c63_12 [.tmp 2]
set_option maxRecDepth 100000 in
theorem low63 : lowFn Tryz.prog Tryz.f63 = some c63 := by kernel_rfl
def c64_0 : LC := .ops [oo 2 (.mov (.c (.str (ByteArray.mk (Array.mk [])))))]
def c64_1 : LC := .ops [om 3 0, oo 4 (.bin .geq (.t 3) (.c (.int .i64 0)))]
def c64_2 : LC := .ops [om 5 0, oo 6 (.conv .u64 (.t 5)), oo 7 (.bin .mul (.c (.int .u64 2)) (.t 6)), oo 8 (.call (.c (.fn 63 [])) [.t 7]), om 2 8]
def c64_4 : LC := .seq c64_2 .ret
def c64_6 : LC := .cond (.t 4) c64_4 .skip
def c64_7 : LC := .seq c64_1 c64_6
def c64_8 : LC := .ops [om 9 0, oo 10 (.bin .add (.t 9) (.c (.int .i64 1))), oo 11 (.un .neg (.t 10)), oo 12 (.conv .u64 (.t 11)), oo 13 (.bin .mul (.c (.int .u64 2)) (.t 12)), oo 14 (.bin .add (.t 13) (.c (.int .u64 1))), oo 15 (.call (.c (.fn 63 [])) [.t 14]), om 2 15]
def c64_10 : LC := .seq c64_8 .ret
def c64_11 : LC := .seq c64_7 c64_10
def c64_12 : LC := .seq c64_0 c64_11
def c64 : LF := .mk 16 c64_12 [.tmp 2]
set_option maxRecDepth 100000 in
theorem low64 : lowFn Tryz.prog Tryz.f64 = some c64 := by kernel_rfl
def c65_0 : LC := .ops [oo 2 (.mov (.c (.str (ByteArray.mk (Array.mk [])))))]
def c65_1 : LC := .ops [om 3 0, oo 4 (.len true (.t 3)), oo 5 (.conv .u64 (.t 4)), oo 6 (.call (.c (.fn 63 [])) [.t 5]), om 7 0, oo 8 (.bin .add (.t 6) (.t 7)), om 2 8]
def c65_3 : LC := .seq c65_1 .ret
def c65_4 : LC := .seq c65_0 c65_3
def c65 : LF := .mk 9 c65_4 [.tmp 2]
set_option maxRecDepth 100000 in
theorem low65 : lowFn Tryz.prog Tryz.f65 = some c65 := by kernel_rfl
def c66_0 : LC := .ops [oo 2 (.mov (.c (.str (ByteArray.mk (Array.mk [])))))]
def c66_1 : LC := .ops [om 3 0]
def c66_2 : LC := .ops [oo 2 (.mov (.c (.str (ByteArray.mk (Array.mk [UInt8.ofNat 1])))))]
def c66_4 : LC := .seq c66_2 .ret
def c66_6 : LC := .cond (.t 3) c66_4 .skip
def c66_7 : LC := .seq c66_1 c66_6
def c66_8 : LC := .ops [oo 2 (.mov (.c (.str (ByteArray.mk (Array.mk [UInt8.ofNat 0])))))]
def c66_10 : LC := .seq c66_8 .ret
def c66_11 : LC := .seq c66_7 c66_10
def c66_12 : LC := .seq c66_0 c66_11
def c66 : LF := .mk 4 c66_12 [.tmp 2]
set_option maxRecDepth 100000 in
theorem low66 : lowFn Tryz.prog Tryz.f66 = some c66 := by kernel_rfl
def c67_0 : LC := .ops [oo 2 (.box (.t 0)), oo 3 (.box (.t 1)), oo 4 (.alloc [.str (ByteArray.mk (Array.mk [])), .bool false])]
def c67_1 : LC := .opsX [(oo 8 (.load (some 2) (.t 2)), []), (oa 9 0 3, []), (oa 10 0 9, []), (ol 11 10, []), (oo 12 (.callX (.c (.fn 25 [])) [.t 8, .t 11]), [14, 17, 20, 23]), (oa 13 0 3, []), (oa 14 1 13, []), (ol 15 14, []), (oo 16 (.callX (.c (.fn 25 [])) [.t 12, .t 15]), [17, 20, 23]), (oa 17 2 3, []), (ol 18 17, []), (oo 19 (.callX (.c (.fn 23 [])) [.t 16, .t 18, .c (.int .i64 10080)]), [20, 23]), (oa 20 3 3, []), (ol 21 20, []), (oo 22 (.callX (.c (.fn 23 [])) [.t 19, .t 21, .c (.int .i64 1440)]), [23]), (oa 23 4 3, []), (ol 24 23, []), (on 25 24, []), (oo 26 (.callX (.c (.fn 23 [])) [.t 22, .t 25, .c (.int .i64 64)]), []), (.mk none none (.store 2 (.t 2) (.t 26)), [])]
def c67_2 : LC := .ops [oa 27 4 3, ol 28 27, on 29 28, oo 30 (.mov (.c (.int .i64 0)))]
def c67_3 : LC := .ops [oo 31 (.bin .lss (.t 30) (.t 29))]
def c67_5 : LC := .cond (.t 31) .skip (.exit 0)
def c67_6 : LC := .ops [om 32 30, om 5 32]
def c67_7 : LC := .opsX [(oo 33 (.load (some 2) (.t 2)), []), (oa 34 4 3, []), (ol 35 34, []), (om 36 5, []), (oo 37 (.iaddr 1 (.t 35) (.t 36)), []), (ol 38 37, []), (oo 39 (.conv .u64 (.t 38)), []), (oo 40 (.callX (.c (.fn 24 [])) [.t 33, .t 39]), []), (.mk none none (.store 2 (.t 2) (.t 40)), [])]
def c67_8 : LC := .seq c67_6 c67_7
def c67_9 : LC := .block 1 c67_8
def c67_10 : LC := .ops [oo 41 (.bin .add (.t 30) (.c (.int .i64 1))), om 30 41]
def c67_11 : LC := .seq c67_9 c67_10
def c67_12 : LC := .seq c67_5 c67_11
def c67_13 : LC := .seq c67_3 c67_12
def c67_14 : LC := .loop c67_13
def c67_15 : LC := .block 0 c67_14
def c67_16 : LC := .seq c67_2 c67_15
def c67_17 : LC := .ops [oo 42 (.load (some 2) (.t 2)), oa 43 5 3, ol 44 43, on 45 44, oo 46 (.call (.c (.fn 23 [])) [.t 42, .t 45, .c (.int .i64 16)]), .mk none none (.store 2 (.t 2) (.t 46))]
def c67_18 : LC := .ops [oa 47 5 3, ol 48 47, on 49 48, oo 50 (.mov (.c (.int .i64 0)))]
def c67_19 : LC := .ops [oo 51 (.bin .lss (.t 50) (.t 49))]
def c67_21 : LC := .cond (.t 51) .skip (.exit 2)
def c67_22 : LC := .ops [om 52 50, om 6 52]
def c67_23 : LC := .opsX [(oo 53 (.load (some 2) (.t 2)), []), (oa 54 5 3, []), (ol 55 54, []), (om 56 6, []), (oo 57 (.iaddr 2 (.t 55) (.t 56)), []), (oa 58 0 57, []), (ol 59 58, []), (oo 60 (.conv .u64 (.t 59)), []), (oo 61 (.callX (.c (.fn 24 [])) [.t 53, .t 60]), [62, 66]), (oa 62 5 3, []), (ol 63 62, []), (om 64 6, []), (oo 65 (.iaddr 2 (.t 63) (.t 64)), []), (oa 66 1 65, []), (ol 67 66, []), (oo 68 (.callX (.c (.fn 23 [])) [.t 61, .t 67, .c (.int .i64 1000)]), []), (.mk none none (.store 2 (.t 2) (.t 68)), [])]
def c67_24 : LC := .seq c67_22 c67_23
def c67_25 : LC := .block 3 c67_24
def c67_26 : LC := .ops [oo 69 (.bin .add (.t 50) (.c (.int .i64 1))), om 50 69]
def c67_27 : LC := .seq c67_25 c67_26
def c67_28 : LC := .seq c67_21 c67_27
def c67_29 : LC := .seq c67_19 c67_28
def c67_30 : LC := .loop c67_29
def c67_31 : LC := .block 2 c67_30
def c67_32 : LC := .seq c67_18 c67_31
def c67_33 : LC := .opsX [(oo 70 (.load (some 2) (.t 2)), []), (oa 71 6 3, []), (ol 72 71, []), (oo 73 (.callX (.c (.fn 23 [])) [.t 70, .t 72, .c (.int .i64 100)]), [74]), (oa 74 7 3, []), (ol 75 74, []), (on 76 75, []), (oo 77 (.callX (.c (.fn 23 [])) [.t 73, .t 76, .c (.int .i64 32)]), []), (.mk none none (.store 2 (.t 2) (.t 77)), [])]
def c67_34 : LC := .ops [oa 78 7 3, ol 79 78, on 80 79, oo 81 (.mov (.c (.int .i64 0)))]
def c67_35 : LC := .ops [oo 82 (.bin .lss (.t 81) (.t 80))]
def c67_37 : LC := .cond (.t 82) .skip (.exit 4)
def c67_38 : LC := .ops [om 83 81, om 7 83]
def c67_39 : LC := .opsX [(oo 84 (.load (some 2) (.t 2)), []), (oa 85 7 3, []), (ol 86 85, []), (om 87 7, []), (oo 88 (.iaddr 2 (.t 86) (.t 87)), []), (oa 89 0 88, []), (ol 90 89, []), (oo 91 (.conv .u64 (.t 90)), []), (oo 92 (.callX (.c (.fn 24 [])) [.t 84, .t 91]), [93, 97]), (oa 93 7 3, []), (ol 94 93, []), (om 95 7, []), (oo 96 (.iaddr 2 (.t 94) (.t 95)), []), (oa 97 1 96, []), (ol 98 97, []), (oo 99 (.conv .u64 (.t 98)), []), (oo 100 (.callX (.c (.fn 24 [])) [.t 92, .t 99]), []), (.mk none none (.store 2 (.t 2) (.t 100)), [])]
def c67_40 : LC := .seq c67_38 c67_39
def c67_41 : LC := .block 5 c67_40
def c67_42 : LC := .ops [oo 101 (.bin .add (.t 81) (.c (.int .i64 1))), om 81 101]
def c67_43 : LC := .seq c67_41 c67_42
def c67_44 : LC := .seq c67_37 c67_43
def c67_45 : LC := .seq c67_35 c67_44
def c67_46 : LC := .loop c67_45
def c67_47 : LC := .block 4 c67_46
def c67_48 : LC := .seq c67_34 c67_47
def c67_49 : LC := .ops [oo 102 (.load (some 2) (.t 2)), oa 103 8 3, ol 104 103, oo 105 (.call (.c (.fn 80 [])) [.t 102, .t 104, .c (.int .i64 8)]), .mk none none (.store 2 (.t 4) (.t 105))]
def c67_51 : LC := .seq c67_49 .ret
def c67_52 : LC := .seq c67_48 c67_51
def c67_53 : LC := .seq c67_33 c67_52
def c67_54 : LC := .seq c67_32 c67_53
def c67_55 : LC := .seq c67_17 c67_54
def c67_56 : LC := .seq c67_16 c67_55
def c67_57 : LC := .seq c67_1 c67_56
def c67_58 : LC := .seq c67_0 c67_57
def c67 : LF := .mk 106 c67_58 [.cell 4 (some 2)]
set_option maxRecDepth 100000 in
theorem low67 : lowFn Tryz.prog Tryz.f67 = some c67 := by kernel_rfl
def c68_0 : LC := .ops [oo 3 (.box (.t 0)), oo 6 (.alloc [.str (ByteArray.mk (Array.mk [])), .bool false])]
def c68_1 : LC := .ops [oo 8 (.load (some 2) (.t 3)), om 9 1, on 10 9, om 11 2, oo 12 (.call (.c (.fn 23 [])) [.t 8, .t 10, .t 11]), .mk none none (.store 2 (.t 3) (.t 12))]
def c68_2 : LC := .ops [om 13 1, on 14 13, oo 15 (.mov (.c (.int .i64 0)))]
def c68_3 : LC := .ops [oo 16 (.bin .lss (.t 15) (.t 14))]
def c68_5 : LC := .cond (.t 16) .skip (.exit 0)
def c68_6 : LC := .ops [om 17 15, om 7 17]
def c68_7 : LC := .opsX [(oo 18 (.load (some 2) (.t 3)), []), (om 19 1, []), (om 20 7, []), (oo 21 (.iaddr 1 (.t 19) (.t 20)), []), (ol 22 21, []), (oo 23 (.callX (.c (.fn 25 [])) [.t 18, .t 22]), []), (.mk none none (.store 2 (.t 3) (.t 23)), [])]
def c68_8 : LC := .seq c68_6 c68_7
def c68_9 : LC := .block 1 c68_8
def c68_10 : LC := .ops [oo 24 (.bin .add (.t 15) (.c (.int .i64 1))), om 15 24]
def c68_11 : LC := .seq c68_9 c68_10
def c68_12 : LC := .seq c68_5 c68_11
def c68_13 : LC := .seq c68_3 c68_12
def c68_14 : LC := .loop c68_13
def c68_15 : LC := .block 0 c68_14
def c68_16 : LC := .seq c68_2 c68_15
def c68_17 : LC := .ops [oo 25 (.load (some 2) (.t 3)), .mk none none (.store 2 (.t 6) (.t 25))]
def c68_19 : LC := .seq c68_17 .ret
def c68_20 : LC := .seq c68_16 c68_19
def c68_21 : LC := .seq c68_1 c68_20
def c68_22 : LC := .seq c68_0 c68_21
def c68 : LF := .mk 26 c68_22 [.cell 6 (some 2)]
set_option maxRecDepth 100000 in
theorem low68 : lowFn Tryz.prog Tryz.f68 = some c68 := by kernel_rfl
def c69_0 : LC := .ops [oo 2 (.box (.t 0)), oo 3 (.box (.t 1)), oo 4 (.mov (.c (.bool false)))]
def c69_1 : LC := .ops [oa 8 0 2, oo 9 (.load (some 2) (.t 8)), oa 10 0 3, oo 11 (.load (some 2) (.t 10)), oo 12 (.eq (.row [.int, .int]) true (.t 9) (.t 11)), om 13 12, ga 14 13 false 2 2, gl 15 13 false 14, ga 16 13 false 2 3, gl 17 13 false 16, og 18 13 false (.bin .neq (.t 15) (.t 17)), oo 19 (.pick (.t 13) (.c (.bool true)) (.t 18)), om 20 19, ga 21 20 false 3 2, gl 22 20 false 21, ga 23 20 false 3 3, gl 24 20 false 23, og 25 20 false (.bin .neq (.t 22) (.t 24)), oo 26 (.pick (.t 20) (.c (.bool true)) (.t 25)), om 27 26, ga 28 27 false 6 2, gl 29 27 false 28, ga 30 27 false 6 3, gl 31 27 false 30, og 32 27 false (.bin .neq (.t 29) (.t 31)), oo 33 (.pick (.t 27) (.c (.bool true)) (.t 32)), om 34 33, ga 35 34 false 4 2, gl 36 34 false 35, og 37 34 false (.len false (.t 36)), ga 38 34 false 4 3, gl 39 34 false 38, og 40 34 false (.len false (.t 39)), og 41 34 false (.bin .neq (.t 37) (.t 40)), oo 42 (.pick (.t 34) (.c (.bool true)) (.t 41)), om 43 42, ga 44 43 false 5 2, gl 45 43 false 44, og 46 43 false (.len false (.t 45)), ga 47 43 false 5 3, gl 48 43 false 47, og 49 43 false (.len false (.t 48)), og 50 43 false (.bin .neq (.t 46) (.t 49)), oo 51 (.pick (.t 43) (.c (.bool true)) (.t 50)), om 52 51, ga 53 52 false 7 2, gl 54 52 false 53, og 55 52 false (.len false (.t 54)), ga 56 52 false 7 3, gl 57 52 false 56, og 58 52 false (.len false (.t 57)), og 59 52 false (.bin .neq (.t 55) (.t 58)), oo 60 (.pick (.t 52) (.c (.bool true)) (.t 59))]
def c69_2 : LC := .ops [oo 4 (.mov (.c (.bool false)))]
def c69_4 : LC := .seq c69_2 .ret
def c69_6 : LC := .cond (.t 60) c69_4 .skip
def c69_7 : LC := .seq c69_1 c69_6
def c69_8 : LC := .ops [oa 61 4 2, ol 62 61, on 63 62, oo 64 (.mov (.c (.int .i64 0)))]
def c69_9 : LC := .ops [oo 65 (.bin .lss (.t 64) (.t 63))]
def c69_11 : LC := .cond (.t 65) .skip (.exit 0)
def c69_12 : LC := .ops [om 66 64, om 5 66]
def c69_13 : LC := .opsX [(oa 67 4 2, []), (ol 68 67, []), (om 69 5, []), (oo 70 (.iaddr 1 (.t 68) (.t 69)), []), (ol 71 70, []), (oa 72 4 3, []), (ol 73 72, []), (om 74 5, []), (oo 75 (.iaddr 1 (.t 73) (.t 74)), []), (ol 76 75, []), (oo 77 (.bin .neq (.t 71) (.t 76)), [])]
def c69_14 : LC := .ops [oo 4 (.mov (.c (.bool false)))]
def c69_16 : LC := .seq c69_14 .ret
def c69_18 : LC := .cond (.t 77) c69_16 .skip
def c69_19 : LC := .seq c69_13 c69_18
def c69_20 : LC := .seq c69_12 c69_19
def c69_21 : LC := .block 1 c69_20
def c69_22 : LC := .ops [oo 78 (.bin .add (.t 64) (.c (.int .i64 1))), om 64 78]
def c69_23 : LC := .seq c69_21 c69_22
def c69_24 : LC := .seq c69_11 c69_23
def c69_25 : LC := .seq c69_9 c69_24
def c69_26 : LC := .loop c69_25
def c69_27 : LC := .block 0 c69_26
def c69_28 : LC := .seq c69_8 c69_27
def c69_29 : LC := .ops [oa 79 5 2, ol 80 79, on 81 80, oo 82 (.mov (.c (.int .i64 0)))]
def c69_30 : LC := .ops [oo 83 (.bin .lss (.t 82) (.t 81))]
def c69_32 : LC := .cond (.t 83) .skip (.exit 2)
def c69_33 : LC := .ops [om 84 82, om 6 84]
def c69_34 : LC := .opsX [(oa 85 5 2, []), (ol 86 85, []), (om 87 6, []), (oo 88 (.iaddr 2 (.t 86) (.t 87)), []), (oo 89 (.load (some 2) (.t 88)), []), (oa 90 5 3, []), (ol 91 90, []), (om 92 6, []), (oo 93 (.iaddr 2 (.t 91) (.t 92)), []), (oo 94 (.load (some 2) (.t 93)), []), (oo 95 (.eq (.row [.int, .int]) true (.t 89) (.t 94)), [])]
def c69_35 : LC := .ops [oo 4 (.mov (.c (.bool false)))]
def c69_37 : LC := .seq c69_35 .ret
def c69_39 : LC := .cond (.t 95) c69_37 .skip
def c69_40 : LC := .seq c69_34 c69_39
def c69_41 : LC := .seq c69_33 c69_40
def c69_42 : LC := .block 3 c69_41
def c69_43 : LC := .ops [oo 96 (.bin .add (.t 82) (.c (.int .i64 1))), om 82 96]
def c69_44 : LC := .seq c69_42 c69_43
def c69_45 : LC := .seq c69_32 c69_44
def c69_46 : LC := .seq c69_30 c69_45
def c69_47 : LC := .loop c69_46
def c69_48 : LC := .block 2 c69_47
def c69_49 : LC := .seq c69_29 c69_48
def c69_50 : LC := .ops [oa 97 7 2, ol 98 97, on 99 98, oo 100 (.mov (.c (.int .i64 0)))]
def c69_51 : LC := .ops [oo 101 (.bin .lss (.t 100) (.t 99))]
def c69_53 : LC := .cond (.t 101) .skip (.exit 4)
def c69_54 : LC := .ops [om 102 100, om 7 102]
def c69_55 : LC := .opsX [(oa 103 7 2, []), (ol 104 103, []), (om 105 7, []), (oo 106 (.iaddr 2 (.t 104) (.t 105)), []), (oo 107 (.load (some 2) (.t 106)), []), (oa 108 7 3, []), (ol 109 108, []), (om 110 7, []), (oo 111 (.iaddr 2 (.t 109) (.t 110)), []), (oo 112 (.load (some 2) (.t 111)), []), (oo 113 (.eq (.row [.int, .int]) true (.t 107) (.t 112)), [])]
def c69_56 : LC := .ops [oo 4 (.mov (.c (.bool false)))]
def c69_58 : LC := .seq c69_56 .ret
def c69_60 : LC := .cond (.t 113) c69_58 .skip
def c69_61 : LC := .seq c69_55 c69_60
def c69_62 : LC := .seq c69_54 c69_61
def c69_63 : LC := .block 5 c69_62
def c69_64 : LC := .ops [oo 114 (.bin .add (.t 100) (.c (.int .i64 1))), om 100 114]
def c69_65 : LC := .seq c69_63 c69_64
def c69_66 : LC := .seq c69_53 c69_65
def c69_67 : LC := .seq c69_51 c69_66
def c69_68 : LC := .loop c69_67
def c69_69 : LC := .block 4 c69_68
def c69_70 : LC := .seq c69_50 c69_69
def c69_71 : LC := .ops [oa 115 8 2, ol 116 115, oa 117 8 3, ol 118 117, oo 119 (.call (.c (.fn 108 [])) [.t 116, .t 118]), om 4 119]
def c69_73 : LC := .seq c69_71 .ret
def c69_74 : LC := .seq c69_70 c69_73
def c69_75 : LC := .seq c69_49 c69_74
def c69_76 : LC := .seq c69_28 c69_75
def c69_77 : LC := .seq c69_7 c69_76
def c69_78 : LC := .seq c69_0 c69_77
def c69 : LF := .mk 120 c69_78 [.tmp 4]
set_option maxRecDepth 100000 in
theorem low69 : lowFn Tryz.prog Tryz.f69 = some c69 := by kernel_rfl
def c70_0 : LC := .ops [oo 4 (.mov (.c (.bool false)))]
def c70_1 : LC := .ops [om 6 0, on 7 6, om 8 1, on 9 8, oo 10 (.bin .neq (.t 7) (.t 9))]
def c70_2 : LC := .ops [oo 4 (.mov (.c (.bool false)))]
def c70_4 : LC := .seq c70_2 .ret
def c70_6 : LC := .cond (.t 10) c70_4 .skip
def c70_7 : LC := .seq c70_1 c70_6
def c70_8 : LC := .ops [om 11 0, on 12 11, oo 13 (.mov (.c (.int .i64 0)))]
def c70_9 : LC := .ops [oo 14 (.bin .lss (.t 13) (.t 12))]
def c70_11 : LC := .cond (.t 14) .skip (.exit 0)
def c70_12 : LC := .ops [om 15 13, om 5 15]
def c70_13 : LC := .opsX [(om 16 0, []), (om 17 5, []), (oo 18 (.iaddr 1 (.t 16) (.t 17)), []), (ol 19 18, []), (om 20 1, []), (om 21 5, []), (oo 22 (.iaddr 1 (.t 20) (.t 21)), []), (ol 23 22, []), (oo 24 (.bin .neq (.t 19) (.t 23)), [])]
def c70_14 : LC := .ops [oo 4 (.mov (.c (.bool false)))]
def c70_16 : LC := .seq c70_14 .ret
def c70_18 : LC := .cond (.t 24) c70_16 .skip
def c70_19 : LC := .seq c70_13 c70_18
def c70_20 : LC := .seq c70_12 c70_19
def c70_21 : LC := .block 1 c70_20
def c70_22 : LC := .ops [oo 25 (.bin .add (.t 13) (.c (.int .i64 1))), om 13 25]
def c70_23 : LC := .seq c70_21 c70_22
def c70_24 : LC := .seq c70_11 c70_23
def c70_25 : LC := .seq c70_9 c70_24
def c70_26 : LC := .loop c70_25
def c70_27 : LC := .block 0 c70_26
def c70_28 : LC := .seq c70_8 c70_27
def c70_29 : LC := .ops [oo 4 (.mov (.c (.bool true)))]
def c70_31 : LC := .seq c70_29 .ret
def c70_32 : LC := .seq c70_28 c70_31
def c70_33 : LC := .seq c70_7 c70_32
def c70_34 : LC := .seq c70_0 c70_33
def c70 : LF := .mk 26 c70_34 [.tmp 4]
set_option maxRecDepth 100000 in
theorem low70 : lowFn Tryz.prog Tryz.f70 = some c70 := by kernel_rfl
def c71_0 : LC := .ops [oo 2 (.mov (.c (.list (some true) true [])))]
def c71_1 : LC := .ops [om 3 0, oo 4 (.eq .slice false (.t 3) (.c (.list (some true) true [])))]
def c71_2 : LC := .ops [oo 2 (.mov (.c (.list (some true) true [])))]
def c71_4 : LC := .seq c71_2 .ret
def c71_6 : LC := .cond (.t 4) c71_4 .skip
def c71_7 : LC := .seq c71_1 c71_6
def c71_8 : LC := .ops [oo 5 (.slit 1 []), om 6 0, oo 7 (.app 1 1 (.t 5) (.t 6)), om 2 7]
def c71_10 : LC := .seq c71_8 .ret
def c71_11 : LC := .seq c71_7 c71_10
def c71_12 : LC := .seq c71_0 c71_11
def c71 : LF := .mk 8 c71_12 [.tmp 2]
set_option maxRecDepth 100000 in
theorem low71 : lowFn Tryz.prog Tryz.f71 = some c71 := by kernel_rfl
def c72_0 : LC := .ops [oo 2 (.mov (.c (.bool false)))]
def c72_1 : LC := .ops [om 3 0, oo 4 (.call (.c (.fn 98 [])) [.t 3]), oo 5 (.un .not (.t 4)), om 6 5, gm 7 6 true 0, og 8 6 true (.chk (.t 7)), ga 9 6 true 0 8, gl 10 6 true 9, og 11 6 true (.len false (.t 10)), og 12 6 true (.bin .eql (.t 11) (.c (.int .i64 0))), oo 13 (.pick (.t 6) (.t 12) (.c (.bool false))), om 2 13]
def c72_3 : LC := .seq c72_1 .ret
def c72_4 : LC := .seq c72_0 c72_3
def c72 : LF := .mk 14 c72_4 [.tmp 2]
set_option maxRecDepth 100000 in
theorem low72 : lowFn Tryz.prog Tryz.f72 = some c72 := by kernel_rfl
def c78_0 : LC := .ops [om 4 0, om 5 1, oo 6 (.call (.c (.fn 111 [])) [.t 4, .t 5, .c (.int .u64 4294967295)])]
def c78 : LF := .mk 7 c78_0 []
set_option maxRecDepth 100000 in
theorem low78 : lowFn Tryz.prog Tryz.f78 = some c78 := by kernel_rfl
def c80_0 : LC := .ops [oo 3 (.box (.t 0)), oo 6 (.alloc [.str (ByteArray.mk (Array.mk [])), .bool false])]
def c80_1 : LC := .ops [oo 8 (.load (some 2) (.t 3)), om 9 1, on 10 9, om 11 2, oo 12 (.call (.c (.fn 23 [])) [.t 8, .t 10, .t 11]), .mk none none (.store 2 (.t 3) (.t 12))]
def c80_2 : LC := .ops [om 13 1, on 14 13, oo 15 (.mov (.c (.int .i64 0)))]
def c80_3 : LC := .ops [oo 16 (.bin .lss (.t 15) (.t 14))]
def c80_5 : LC := .cond (.t 16) .skip (.exit 0)
def c80_6 : LC := .ops [om 17 15, om 7 17]
def c80_7 : LC := .opsX [(oo 18 (.load (some 2) (.t 3)), []), (om 19 1, []), (om 20 7, []), (oo 21 (.iaddr 3 (.t 19) (.t 20)), []), (oa 22 0 21, []), (ol 23 22, []), (oo 24 (.callX (.c (.fn 23 [])) [.t 18, .t 23, .c (.int .i64 127)]), [28, 34]), (om 25 1, []), (om 26 7, []), (oo 27 (.iaddr 3 (.t 25) (.t 26)), []), (oa 28 1 27, []), (ol 29 28, []), (oo 30 (.callX (.c (.fn 23 [])) [.t 24, .t 29, .c (.int .i64 1440)]), [34]), (om 31 1, []), (om 32 7, []), (oo 33 (.iaddr 3 (.t 31) (.t 32)), []), (oa 34 2 33, []), (ol 35 34, []), (oo 36 (.callX (.c (.fn 23 [])) [.t 30, .t 35, .c (.int .i64 1440)]), []), (.mk none none (.store 2 (.t 3) (.t 36)), [])]
def c80_8 : LC := .seq c80_6 c80_7
def c80_9 : LC := .block 1 c80_8
def c80_10 : LC := .ops [oo 37 (.bin .add (.t 15) (.c (.int .i64 1))), om 15 37]
def c80_11 : LC := .seq c80_9 c80_10
def c80_12 : LC := .seq c80_5 c80_11
def c80_13 : LC := .seq c80_3 c80_12
def c80_14 : LC := .loop c80_13
def c80_15 : LC := .block 0 c80_14
def c80_16 : LC := .seq c80_2 c80_15
def c80_17 : LC := .ops [oo 38 (.load (some 2) (.t 3)), .mk none none (.store 2 (.t 6) (.t 38))]
def c80_19 : LC := .seq c80_17 .ret
def c80_20 : LC := .seq c80_16 c80_19
def c80_21 : LC := .seq c80_1 c80_20
def c80_22 : LC := .seq c80_0 c80_21
def c80 : LF := .mk 39 c80_22 [.cell 6 (some 2)]
set_option maxRecDepth 100000 in
theorem low80 : lowFn Tryz.prog Tryz.f80 = some c80 := by kernel_rfl
def c83_0 : LC := .ops [oo 2 (.box (.t 0)), oo 3 (.box (.t 1)), oo 4 (.mov (.c (.bool false)))]
def c83_1 : LC := .ops [oa 5 0 2, oo 6 (.load (some 2) (.t 5)), oa 7 0 3, oo 8 (.load (some 2) (.t 7)), oo 9 (.eq (.row [.int, .int]) false (.t 6) (.t 8)), om 10 9, ga 11 10 true 2 2, gl 12 10 true 11, ga 13 10 true 2 3, gl 14 10 true 13, og 15 10 true (.bin .eql (.t 12) (.t 14)), oo 16 (.pick (.t 10) (.t 15) (.c (.bool false))), om 17 16, ga 18 17 true 3 2, gl 19 17 true 18, ga 20 17 true 3 3, gl 21 17 true 20, og 22 17 true (.bin .eql (.t 19) (.t 21)), oo 23 (.pick (.t 17) (.t 22) (.c (.bool false))), om 24 23, ga 25 24 true 4 2, gl 26 24 true 25, ga 27 24 true 4 3, gl 28 24 true 27, og 29 24 true (.call (.c (.fn 113 [])) [.t 26, .t 28]), oo 30 (.pick (.t 24) (.t 29) (.c (.bool false))), om 31 30, ga 32 31 true 5 2, gl 33 31 true 32, ga 34 31 true 5 3, gl 35 31 true 34, og 36 31 true (.call (.c (.fn 114 [])) [.t 33, .t 35]), oo 37 (.pick (.t 31) (.t 36) (.c (.bool false))), om 38 37, ga 39 38 true 6 2, gl 40 38 true 39, ga 41 38 true 6 3, gl 42 38 true 41, og 43 38 true (.bin .eql (.t 40) (.t 42)), oo 44 (.pick (.t 38) (.t 43) (.c (.bool false))), om 45 44, ga 46 45 true 7 2, gl 47 45 true 46, ga 48 45 true 7 3, gl 49 45 true 48, og 50 45 true (.call (.c (.fn 115 [])) [.t 47, .t 49]), oo 51 (.pick (.t 45) (.t 50) (.c (.bool false))), om 52 51, ga 53 52 true 8 2, gl 54 52 true 53, ga 55 52 true 8 3, gl 56 52 true 55, og 57 52 true (.call (.c (.fn 87 [])) [.t 54, .t 56]), oo 58 (.pick (.t 52) (.t 57) (.c (.bool false))), om 4 58]
def c83_3 : LC := .seq c83_1 .ret
def c83_4 : LC := .seq c83_0 c83_3
def c83 : LF := .mk 59 c83_4 [.tmp 4]
set_option maxRecDepth 100000 in
theorem low83 : lowFn Tryz.prog Tryz.f83 = some c83 := by kernel_rfl
def c84_0 : LC := .ops [oo 4 (.mov (.c (.bool false)))]
def c84_1 : LC := .ops [om 6 0, on 7 6, om 8 1, on 9 8, oo 10 (.bin .neq (.t 7) (.t 9))]
def c84_2 : LC := .ops [oo 4 (.mov (.c (.bool false)))]
def c84_4 : LC := .seq c84_2 .ret
def c84_6 : LC := .cond (.t 10) c84_4 .skip
def c84_7 : LC := .seq c84_1 c84_6
def c84_8 : LC := .ops [om 11 0, on 12 11, oo 13 (.mov (.c (.int .i64 0)))]
def c84_9 : LC := .ops [oo 14 (.bin .lss (.t 13) (.t 12))]
def c84_11 : LC := .cond (.t 14) .skip (.exit 0)
def c84_12 : LC := .ops [om 15 13, om 5 15]
def c84_13 : LC := .opsX [(om 16 0, []), (om 17 5, []), (oo 18 (.iaddr 1 (.t 16) (.t 17)), []), (ol 19 18, []), (om 20 1, []), (om 21 5, []), (oo 22 (.iaddr 1 (.t 20) (.t 21)), []), (ol 23 22, []), (oo 24 (.bin .neq (.t 19) (.t 23)), [])]
def c84_14 : LC := .ops [oo 4 (.mov (.c (.bool false)))]
def c84_16 : LC := .seq c84_14 .ret
def c84_18 : LC := .cond (.t 24) c84_16 .skip
def c84_19 : LC := .seq c84_13 c84_18
def c84_20 : LC := .seq c84_12 c84_19
def c84_21 : LC := .block 1 c84_20
def c84_22 : LC := .ops [oo 25 (.bin .add (.t 13) (.c (.int .i64 1))), om 13 25]
def c84_23 : LC := .seq c84_21 c84_22
def c84_24 : LC := .seq c84_11 c84_23
def c84_25 : LC := .seq c84_9 c84_24
def c84_26 : LC := .loop c84_25
def c84_27 : LC := .block 0 c84_26
def c84_28 : LC := .seq c84_8 c84_27
def c84_29 : LC := .ops [oo 4 (.mov (.c (.bool true)))]
def c84_31 : LC := .seq c84_29 .ret
def c84_32 : LC := .seq c84_28 c84_31
def c84_33 : LC := .seq c84_7 c84_32
def c84_34 : LC := .seq c84_0 c84_33
def c84 : LF := .mk 26 c84_34 [.tmp 4]
set_option maxRecDepth 100000 in
theorem low84 : lowFn Tryz.prog Tryz.f84 = some c84 := by kernel_rfl
def c85_0 : LC := .ops [oo 4 (.mov (.c (.bool false)))]
def c85_1 : LC := .ops [om 6 0, on 7 6, om 8 1, on 9 8, oo 10 (.bin .neq (.t 7) (.t 9))]
def c85_2 : LC := .ops [oo 4 (.mov (.c (.bool false)))]
def c85_4 : LC := .seq c85_2 .ret
def c85_6 : LC := .cond (.t 10) c85_4 .skip
def c85_7 : LC := .seq c85_1 c85_6
def c85_8 : LC := .ops [om 11 0, on 12 11, oo 13 (.mov (.c (.int .i64 0)))]
def c85_9 : LC := .ops [oo 14 (.bin .lss (.t 13) (.t 12))]
def c85_11 : LC := .cond (.t 14) .skip (.exit 0)
def c85_12 : LC := .ops [om 15 13, om 5 15]
def c85_13 : LC := .opsX [(om 16 0, []), (om 17 5, []), (oo 18 (.iaddr 2 (.t 16) (.t 17)), []), (oo 19 (.load (some 2) (.t 18)), []), (om 20 1, []), (om 21 5, []), (oo 22 (.iaddr 2 (.t 20) (.t 21)), []), (oo 23 (.load (some 2) (.t 22)), []), (oo 24 (.eq (.row [.int, .int]) true (.t 19) (.t 23)), [])]
def c85_14 : LC := .ops [oo 4 (.mov (.c (.bool false)))]
def c85_16 : LC := .seq c85_14 .ret
def c85_18 : LC := .cond (.t 24) c85_16 .skip
def c85_19 : LC := .seq c85_13 c85_18
def c85_20 : LC := .seq c85_12 c85_19
def c85_21 : LC := .block 1 c85_20
def c85_22 : LC := .ops [oo 25 (.bin .add (.t 13) (.c (.int .i64 1))), om 13 25]
def c85_23 : LC := .seq c85_21 c85_22
def c85_24 : LC := .seq c85_11 c85_23
def c85_25 : LC := .seq c85_9 c85_24
def c85_26 : LC := .loop c85_25
def c85_27 : LC := .block 0 c85_26
def c85_28 : LC := .seq c85_8 c85_27
def c85_29 : LC := .ops [oo 4 (.mov (.c (.bool true)))]
def c85_31 : LC := .seq c85_29 .ret
def c85_32 : LC := .seq c85_28 c85_31
def c85_33 : LC := .seq c85_7 c85_32
def c85_34 : LC := .seq c85_0 c85_33
def c85 : LF := .mk 26 c85_34 [.tmp 4]
set_option maxRecDepth 100000 in
theorem low85 : lowFn Tryz.prog Tryz.f85 = some c85 := by kernel_rfl
def c86_0 : LC := .ops [oo 4 (.mov (.c (.bool false)))]
def c86_1 : LC := .ops [om 6 0, on 7 6, om 8 1, on 9 8, oo 10 (.bin .neq (.t 7) (.t 9))]
def c86_2 : LC := .ops [oo 4 (.mov (.c (.bool false)))]
def c86_4 : LC := .seq c86_2 .ret
def c86_6 : LC := .cond (.t 10) c86_4 .skip
def c86_7 : LC := .seq c86_1 c86_6
def c86_8 : LC := .ops [om 11 0, on 12 11, oo 13 (.mov (.c (.int .i64 0)))]
def c86_9 : LC := .ops [oo 14 (.bin .lss (.t 13) (.t 12))]
def c86_11 : LC := .cond (.t 14) .skip (.exit 0)
def c86_12 : LC := .ops [om 15 13, om 5 15]
def c86_13 : LC := .opsX [(om 16 0, []), (om 17 5, []), (oo 18 (.iaddr 2 (.t 16) (.t 17)), []), (oo 19 (.load (some 2) (.t 18)), []), (om 20 1, []), (om 21 5, []), (oo 22 (.iaddr 2 (.t 20) (.t 21)), []), (oo 23 (.load (some 2) (.t 22)), []), (oo 24 (.eq (.row [.int, .int]) true (.t 19) (.t 23)), [])]
def c86_14 : LC := .ops [oo 4 (.mov (.c (.bool false)))]
def c86_16 : LC := .seq c86_14 .ret
def c86_18 : LC := .cond (.t 24) c86_16 .skip
def c86_19 : LC := .seq c86_13 c86_18
def c86_20 : LC := .seq c86_12 c86_19
def c86_21 : LC := .block 1 c86_20
def c86_22 : LC := .ops [oo 25 (.bin .add (.t 13) (.c (.int .i64 1))), om 13 25]
def c86_23 : LC := .seq c86_21 c86_22
def c86_24 : LC := .seq c86_11 c86_23
def c86_25 : LC := .seq c86_9 c86_24
def c86_26 : LC := .loop c86_25
def c86_27 : LC := .block 0 c86_26
def c86_28 : LC := .seq c86_8 c86_27
def c86_29 : LC := .ops [oo 4 (.mov (.c (.bool true)))]
def c86_31 : LC := .seq c86_29 .ret
def c86_32 : LC := .seq c86_28 c86_31
def c86_33 : LC := .seq c86_7 c86_32
def c86_34 : LC := .seq c86_0 c86_33
def c86 : LF := .mk 26 c86_34 [.tmp 4]
set_option maxRecDepth 100000 in
theorem low86 : lowFn Tryz.prog Tryz.f86 = some c86 := by kernel_rfl
def c87_0 : LC := .ops [oo 4 (.mov (.c (.bool false)))]
def c87_1 : LC := .ops [om 6 0, on 7 6, om 8 1, on 9 8, oo 10 (.bin .neq (.t 7) (.t 9))]
def c87_2 : LC := .ops [oo 4 (.mov (.c (.bool false)))]
def c87_4 : LC := .seq c87_2 .ret
def c87_6 : LC := .cond (.t 10) c87_4 .skip
def c87_7 : LC := .seq c87_1 c87_6
def c87_8 : LC := .ops [om 11 0, on 12 11, oo 13 (.mov (.c (.int .i64 0)))]
def c87_9 : LC := .ops [oo 14 (.bin .lss (.t 13) (.t 12))]
def c87_11 : LC := .cond (.t 14) .skip (.exit 0)
def c87_12 : LC := .ops [om 15 13, om 5 15]
def c87_13 : LC := .opsX [(om 16 0, []), (om 17 5, []), (oo 18 (.iaddr 3 (.t 16) (.t 17)), []), (oo 19 (.load (some 3) (.t 18)), []), (om 20 1, []), (om 21 5, []), (oo 22 (.iaddr 3 (.t 20) (.t 21)), []), (oo 23 (.load (some 3) (.t 22)), []), (oo 24 (.eq (.row [.int, .int, .int]) true (.t 19) (.t 23)), [])]
def c87_14 : LC := .ops [oo 4 (.mov (.c (.bool false)))]
def c87_16 : LC := .seq c87_14 .ret
def c87_18 : LC := .cond (.t 24) c87_16 .skip
def c87_19 : LC := .seq c87_13 c87_18
def c87_20 : LC := .seq c87_12 c87_19
def c87_21 : LC := .block 1 c87_20
def c87_22 : LC := .ops [oo 25 (.bin .add (.t 13) (.c (.int .i64 1))), om 13 25]
def c87_23 : LC := .seq c87_21 c87_22
def c87_24 : LC := .seq c87_11 c87_23
def c87_25 : LC := .seq c87_9 c87_24
def c87_26 : LC := .loop c87_25
def c87_27 : LC := .block 0 c87_26
def c87_28 : LC := .seq c87_8 c87_27
def c87_29 : LC := .ops [oo 4 (.mov (.c (.bool true)))]
def c87_31 : LC := .seq c87_29 .ret
def c87_32 : LC := .seq c87_28 c87_31
def c87_33 : LC := .seq c87_7 c87_32
def c87_34 : LC := .seq c87_0 c87_33
def c87 : LF := .mk 26 c87_34 [.tmp 4]
set_option maxRecDepth 100000 in
theorem low87 : lowFn Tryz.prog Tryz.f87 = some c87 := by kernel_rfl
def c88_0 : LC := .ops [oo 4 (.mov (.c (.bool false)))]
def c88_1 : LC := .ops [om 6 0, on 7 6, om 8 1, on 9 8, oo 10 (.bin .neq (.t 7) (.t 9))]
def c88_2 : LC := .ops [oo 4 (.mov (.c (.bool false)))]
def c88_4 : LC := .seq c88_2 .ret
def c88_6 : LC := .cond (.t 10) c88_4 .skip
def c88_7 : LC := .seq c88_1 c88_6
def c88_8 : LC := .ops [om 11 0, on 12 11, oo 13 (.mov (.c (.int .i64 0)))]
def c88_9 : LC := .ops [oo 14 (.bin .lss (.t 13) (.t 12))]
def c88_11 : LC := .cond (.t 14) .skip (.exit 0)
def c88_12 : LC := .ops [om 15 13, om 5 15]
def c88_13 : LC := .opsX [(om 16 0, []), (om 17 5, []), (oo 18 (.iaddr 1 (.t 16) (.t 17)), []), (ol 19 18, []), (om 20 1, []), (om 21 5, []), (oo 22 (.iaddr 1 (.t 20) (.t 21)), []), (ol 23 22, []), (oo 24 (.bin .neq (.t 19) (.t 23)), [])]
def c88_14 : LC := .ops [oo 4 (.mov (.c (.bool false)))]
def c88_16 : LC := .seq c88_14 .ret
def c88_18 : LC := .cond (.t 24) c88_16 .skip
def c88_19 : LC := .seq c88_13 c88_18
def c88_20 : LC := .seq c88_12 c88_19
def c88_21 : LC := .block 1 c88_20
def c88_22 : LC := .ops [oo 25 (.bin .add (.t 13) (.c (.int .i64 1))), om 13 25]
def c88_23 : LC := .seq c88_21 c88_22
def c88_24 : LC := .seq c88_11 c88_23
def c88_25 : LC := .seq c88_9 c88_24
def c88_26 : LC := .loop c88_25
def c88_27 : LC := .block 0 c88_26
def c88_28 : LC := .seq c88_8 c88_27
def c88_29 : LC := .ops [oo 4 (.mov (.c (.bool true)))]
def c88_31 : LC := .seq c88_29 .ret
def c88_32 : LC := .seq c88_28 c88_31
def c88_33 : LC := .seq c88_7 c88_32
def c88_34 : LC := .seq c88_0 c88_33
def c88 : LF := .mk 26 c88_34 [.tmp 4]
set_option maxRecDepth 100000 in
theorem low88 : lowFn Tryz.prog Tryz.f88 = some c88 := by kernel_rfl
def c89_0 : LC := .ops [oo 2 (.box (.t 0)), oo 3 (.box (.t 1)), oo 4 (.mov (.c (.bool false)))]
def c89_1 : LC := .ops [oa 5 0 2, ol 6 5, oa 7 0 3, ol 8 7, oo 9 (.bin .eql (.t 6) (.t 8)), om 10 9, ga 11 10 true 1 2, gl 12 10 true 11, ga 13 10 true 1 3, gl 14 10 true 13, og 15 10 true (.bin .eql (.t 12) (.t 14)), oo 16 (.pick (.t 10) (.t 15) (.c (.bool false))), om 17 16, ga 18 17 true 2 2, gl 19 17 true 18, ga 20 17 true 2 3, gl 21 17 true 20, og 22 17 true (.bin .eql (.t 19) (.t 21)), oo 23 (.pick (.t 17) (.t 22) (.c (.bool false))), om 24 23, ga 25 24 true 3 2, gl 26 24 true 25, ga 27 24 true 3 3, gl 28 24 true 27, og 29 24 true (.bin .eql (.t 26) (.t 28)), oo 30 (.pick (.t 24) (.t 29) (.c (.bool false))), om 31 30, ga 32 31 true 8 2, gl 33 31 true 32, ga 34 31 true 8 3, gl 35 31 true 34, og 36 31 true (.bin .eql (.t 33) (.t 35)), oo 37 (.pick (.t 31) (.t 36) (.c (.bool false))), om 38 37, ga 39 38 true 4 2, gl 40 38 true 39, ga 41 38 true 4 3, gl 42 38 true 41, og 43 38 true (.call (.c (.fn 88 [])) [.t 40, .t 42]), oo 44 (.pick (.t 38) (.t 43) (.c (.bool false))), om 45 44, ga 46 45 true 5 2, gl 47 45 true 46, ga 48 45 true 5 3, gl 49 45 true 48, og 50 45 true (.call (.c (.fn 88 [])) [.t 47, .t 49]), oo 51 (.pick (.t 45) (.t 50) (.c (.bool false))), om 52 51, ga 53 52 true 6 2, gl 54 52 true 53, ga 55 52 true 6 3, gl 56 52 true 55, og 57 52 true (.call (.c (.fn 116 [])) [.t 54, .t 56]), oo 58 (.pick (.t 52) (.t 57) (.c (.bool false))), om 59 58, ga 60 59 true 7 2, gl 61 59 true 60, ga 62 59 true 7 3, gl 63 59 true 62, og 64 59 true (.call (.c (.fn 88 [])) [.t 61, .t 63]), oo 65 (.pick (.t 59) (.t 64) (.c (.bool false))), om 4 65]
def c89_3 : LC := .seq c89_1 .ret
def c89_4 : LC := .seq c89_0 c89_3
def c89 : LF := .mk 66 c89_4 [.tmp 4]
set_option maxRecDepth 100000 in
theorem low89 : lowFn Tryz.prog Tryz.f89 = some c89 := by kernel_rfl
def c90_0 : LC := .ops [oo 4 (.mov (.c (.bool false)))]
def c90_1 : LC := .ops [om 6 0, on 7 6, om 8 1, on 9 8, oo 10 (.bin .neq (.t 7) (.t 9))]
def c90_2 : LC := .ops [oo 4 (.mov (.c (.bool false)))]
def c90_4 : LC := .seq c90_2 .ret
def c90_6 : LC := .cond (.t 10) c90_4 .skip
def c90_7 : LC := .seq c90_1 c90_6
def c90_8 : LC := .ops [om 11 0, on 12 11, oo 13 (.mov (.c (.int .i64 0)))]
def c90_9 : LC := .ops [oo 14 (.bin .lss (.t 13) (.t 12))]
def c90_11 : LC := .cond (.t 14) .skip (.exit 0)
def c90_12 : LC := .ops [om 15 13, om 5 15]
def c90_13 : LC := .opsX [(om 16 0, []), (om 17 5, []), (oo 18 (.iaddr 3 (.t 16) (.t 17)), []), (oo 19 (.load (some 3) (.t 18)), []), (om 20 1, []), (om 21 5, []), (oo 22 (.iaddr 3 (.t 20) (.t 21)), []), (oo 23 (.load (some 3) (.t 22)), []), (oo 24 (.eq (.row [.int, .int, .int]) true (.t 19) (.t 23)), [])]
def c90_14 : LC := .ops [oo 4 (.mov (.c (.bool false)))]
def c90_16 : LC := .seq c90_14 .ret
def c90_18 : LC := .cond (.t 24) c90_16 .skip
def c90_19 : LC := .seq c90_13 c90_18
def c90_20 : LC := .seq c90_12 c90_19
def c90_21 : LC := .block 1 c90_20
def c90_22 : LC := .ops [oo 25 (.bin .add (.t 13) (.c (.int .i64 1))), om 13 25]
def c90_23 : LC := .seq c90_21 c90_22
def c90_24 : LC := .seq c90_11 c90_23
def c90_25 : LC := .seq c90_9 c90_24
def c90_26 : LC := .loop c90_25
def c90_27 : LC := .block 0 c90_26
def c90_28 : LC := .seq c90_8 c90_27
def c90_29 : LC := .ops [oo 4 (.mov (.c (.bool true)))]
def c90_31 : LC := .seq c90_29 .ret
def c90_32 : LC := .seq c90_28 c90_31
def c90_33 : LC := .seq c90_7 c90_32
def c90_34 : LC := .seq c90_0 c90_33
def c90 : LF := .mk 26 c90_34 [.tmp 4]
set_option maxRecDepth 100000 in
theorem low90 : lowFn Tryz.prog Tryz.f90 = some c90 := by kernel_rfl
def c95_0 : LC := .ops [oo 2 (.box (.t 0))]
def c95_1 : LC := .opsX [(ol 4 2, []), (om 5 1, []), (oo 6 (.chk (.t 5)), []), (oa 7 0 6, []), (oa 8 0 7, []), (oo 9 (.callX (.c (.fn 56 [])) [.t 4, .t 8]), [])]
def c95_2 : LC := .opsX [(ol 10 2, []), (om 11 1, []), (oo 12 (.chk (.t 11)), []), (oa 13 0 12, []), (oa 14 1 13, []), (oo 15 (.callX (.c (.fn 56 [])) [.t 10, .t 14]), [])]
def c95_3 : LC := .opsX [(ol 16 2, []), (om 17 1, []), (oo 18 (.chk (.t 17)), []), (oa 19 2 18, []), (oo 20 (.callX (.c (.fn 57 [])) [.t 16, .t 19, .c (.int .u64 10080)]), [])]
def c95_4 : LC := .opsX [(ol 21 2, []), (om 22 1, []), (oo 23 (.chk (.t 22)), []), (oa 24 3 23, []), (oo 25 (.callX (.c (.fn 57 [])) [.t 21, .t 24, .c (.int .u64 1440)]), [])]
def c95_5 : LC := .opsX [(ol 26 2, []), (om 27 1, []), (oo 28 (.chk (.t 27)), []), (oa 29 4 28, []), (oo 30 (.mkfn 128 [.t 2]), []), (oo 31 (.callX (.c (.fn 127 [])) [.t 26, .t 29, .c (.int .i64 64), .t 30]), [])]
def c95_6 : LC := .opsX [(ol 32 2, []), (om 33 1, []), (oo 34 (.chk (.t 33)), []), (oa 35 5 34, []), (oo 36 (.mkfn 130 [.t 2]), []), (oo 37 (.callX (.c (.fn 129 [])) [.t 32, .t 35, .c (.int .i64 16), .t 36]), [])]
def c95_7 : LC := .opsX [(ol 38 2, []), (om 39 1, []), (oo 40 (.chk (.t 39)), []), (oa 41 6 40, []), (oo 42 (.callX (.c (.fn 57 [])) [.t 38, .t 41, .c (.int .u64 100)]), [])]
def c95_8 : LC := .opsX [(ol 43 2, []), (om 44 1, []), (oo 45 (.chk (.t 44)), []), (oa 46 7 45, []), (oo 47 (.mkfn 132 [.t 2]), []), (oo 48 (.callX (.c (.fn 131 [])) [.t 43, .t 46, .c (.int .i64 32), .t 47]), [])]
def c95_9 : LC := .opsX [(ol 49 2, []), (om 50 1, []), (oo 51 (.chk (.t 50)), []), (oa 52 8 51, []), (oo 53 (.callX (.c (.fn 119 [])) [.t 49, .t 52, .c (.int .i64 8)]), [])]
def c95_10 : LC := .seq c95_8 c95_9
def c95_11 : LC := .seq c95_7 c95_10
def c95_12 : LC := .seq c95_6 c95_11
def c95_13 : LC := .seq c95_5 c95_12
def c95_14 : LC := .seq c95_4 c95_13
def c95_15 : LC := .seq c95_3 c95_14
def c95_16 : LC := .seq c95_2 c95_15
def c95_17 : LC := .seq c95_1 c95_16
def c95_18 : LC := .seq c95_0 c95_17
def c95 : LF := .mk 54 c95_18 []
set_option maxRecDepth 100000 in
theorem low95 : lowFn Tryz.prog Tryz.f95 = some c95 := by kernel_rfl
def c96_0 : LC := .ops [oo 4 (.mov (.c (.int .u64 0)))]
def c96_1 : LC := .ops [oo 5 (.mov (.c (.int .u64 0)))]
def c96_2 : LC := .ops [oo 6 (.mov (.c (.int .i64 0)))]
def c96_3 : LC := .ops [om 9 0, oo 10 (.call (.c (.fn 98 [])) [.t 9]), oo 11 (.un .not (.t 10)), om 12 11, gm 13 12 true 0, og 14 12 true (.chk (.t 13)), ga 15 12 true 0 14, gl 16 12 true 15, og 17 12 true (.len false (.t 16)), og 18 12 true (.bin .gtr (.t 17) (.c (.int .i64 0))), oo 19 (.pick (.t 12) (.t 18) (.c (.bool false)))]
def c96_5 : LC := .cond (.t 19) .skip (.exit 0)
def c96_6 : LC := .seq c96_3 c96_5
def c96_7 : LC := .ops [om 22 0, oo 23 (.chk (.t 22)), oa 24 0 23, ol 25 24, oo 26 (.iaddr 1 (.t 25) (.c (.int .i64 0))), ol 27 26, om 7 27]
def c96_8 : LC := .ops [om 28 0, om 29 0, oo 30 (.chk (.t 29)), oa 31 0 30, ol 32 31, oo 33 (.slice false 1 (.t 32) (some (.c (.int .i64 1))) none), oo 34 (.chk (.t 28)), oa 35 0 34, .mk none none (.store 1 (.t 35) (.t 33))]
def c96_9 : LC := .ops [om 36 7, oo 37 (.bin .and (.t 36) (.c (.int .u8 127))), oo 38 (.conv .u64 (.t 37)), om 8 38]
def c96_10 : LC := .ops [om 39 6, oo 40 (.bin .gtr (.t 39) (.c (.int .i64 63))), om 41 40, gm 42 41 false 8, gm 43 41 false 6, og 44 41 false (.bin .shl (.t 42) (.t 43)), gm 45 41 false 6, og 46 41 false (.bin .shr (.t 44) (.t 45)), gm 47 41 false 8, og 48 41 false (.bin .neq (.t 46) (.t 47)), oo 49 (.pick (.t 41) (.c (.bool true)) (.t 48)), om 50 49, gm 51 50 false 7, og 52 50 false (.bin .eql (.t 51) (.c (.int .u8 0))), gm 53 50 false 52, gm 54 53 true 6, og 55 53 true (.bin .gtr (.t 54) (.c (.int .i64 0))), og 56 50 false (.pick (.t 53) (.t 55) (.c (.bool false))), oo 57 (.pick (.t 50) (.c (.bool true)) (.t 56))]
def c96_11 : LC := .ops [om 58 0, oo 59 (.call (.c (.fn 133 [])) [.t 58]), om 4 59]
def c96_13 : LC := .seq c96_11 .ret
def c96_15 : LC := .cond (.t 57) c96_13 .skip
def c96_16 : LC := .seq c96_10 c96_15
def c96_17 : LC := .ops [om 60 5, om 61 8, om 62 6, oo 63 (.bin .shl (.t 61) (.t 62)), oo 64 (.bin .or (.t 60) (.t 63)), om 5 64]
def c96_18 : LC := .ops [om 65 7, oo 66 (.bin .lss (.t 65) (.c (.int .u8 128)))]
def c96_19 : LC := .ops [om 67 5, om 68 1, oo 69 (.bin .gtr (.t 67) (.t 68))]
def c96_20 : LC := .ops [om 70 0, oo 71 (.call (.c (.fn 133 [])) [.t 70]), om 4 71]
def c96_22 : LC := .seq c96_20 .ret
def c96_24 : LC := .cond (.t 69) c96_22 .skip
def c96_25 : LC := .seq c96_19 c96_24
def c96_26 : LC := .ops [om 72 5, om 4 72]
def c96_28 : LC := .seq c96_26 .ret
def c96_29 : LC := .seq c96_25 c96_28
def c96_31 : LC := .cond (.t 66) c96_29 .skip
def c96_32 : LC := .seq c96_18 c96_31
def c96_33 : LC := .seq c96_17 c96_32
def c96_34 : LC := .seq c96_16 c96_33
def c96_35 : LC := .seq c96_9 c96_34
def c96_36 : LC := .seq c96_8 c96_35
def c96_37 : LC := .seq c96_7 c96_36
def c96_38 : LC := .block 1 c96_37
def c96_39 : LC := .ops [om 20 6, oo 21 (.bin .add (.t 20) (.c (.int .i64 7))), om 6 21]
def c96_40 : LC := .seq c96_38 c96_39
def c96_41 : LC := .seq c96_6 c96_40
def c96_42 : LC := .loop c96_41
def c96_43 : LC := .block 0 c96_42
def c96_44 : LC := .seq c96_2 c96_43
def c96_45 : LC := .ops [om 73 0, oo 74 (.call (.c (.fn 133 [])) [.t 73]), om 4 74]
def c96_47 : LC := .seq c96_45 .ret
def c96_48 : LC := .seq c96_44 c96_47
def c96_49 : LC := .seq c96_1 c96_48
def c96_50 : LC := .seq c96_0 c96_49
def c96 : LF := .mk 75 c96_50 [.tmp 4]
set_option maxRecDepth 100000 in
theorem low96 : lowFn Tryz.prog Tryz.f96 = some c96 := by kernel_rfl
def c97_0 : LC := .ops [om 4 0, oo 5 (.eq .ptr false (.t 4) (.c .nilp))]
def c97_3 : LC := .cond (.t 5) .ret .skip
def c97_4 : LC := .seq c97_0 c97_3
def c97_5 : LC := .ops [om 6 1, oo 7 (.bin .geq (.t 6) (.c (.int .u64 128)))]
def c97_7 : LC := .cond (.t 7) .skip (.exit 0)
def c97_8 : LC := .seq c97_5 c97_7
def c97_9 : LC := .ops [om 8 0, om 9 0, oo 10 (.chk (.t 9)), oa 11 0 10, ol 12 11, om 13 1, oo 14 (.conv .u8 (.t 13)), oo 15 (.bin .or (.t 14) (.c (.int .u8 128))), oo 16 (.slit 1 [.t 15]), oo 17 (.app 1 1 (.t 12) (.t 16)), oo 18 (.chk (.t 8)), oa 19 0 18, .mk none none (.store 1 (.t 19) (.t 17))]
def c97_10 : LC := .ops [om 20 1, oo 21 (.bin .shr (.t 20) (.c (.int .u64 7))), om 1 21]
def c97_11 : LC := .seq c97_9 c97_10
def c97_12 : LC := .block 1 c97_11
def c97_13 : LC := .seq c97_8 c97_12
def c97_14 : LC := .loop c97_13
def c97_15 : LC := .block 0 c97_14
def c97_16 : LC := .ops [om 22 0, om 23 0, oo 24 (.chk (.t 23)), oa 25 0 24, ol 26 25, om 27 1, oo 28 (.conv .u8 (.t 27)), oo 29 (.slit 1 [.t 28]), oo 30 (.app 1 1 (.t 26) (.t 29)), oo 31 (.chk (.t 22)), oa 32 0 31, .mk none none (.store 1 (.t 32) (.t 30))]
def c97_17 : LC := .seq c97_15 c97_16
def c97_18 : LC := .seq c97_4 c97_17
def c97 : LF := .mk 33 c97_18 []
set_option maxRecDepth 100000 in
theorem low97 : lowFn Tryz.prog Tryz.f97 = some c97 := by kernel_rfl
def c98_0 : LC := .ops [oo 2 (.mov (.c (.bool false)))]
def c98_1 : LC := .ops [om 3 0, oo 4 (.eq .ptr false (.t 3) (.c .nilp)), om 5 4, gm 6 5 false 0, og 7 5 false (.chk (.t 6)), ga 8 5 false 1 7, gl 9 5 false 8, oo 10 (.pick (.t 5) (.c (.bool true)) (.t 9)), om 2 10]
def c98_3 : LC := .seq c98_1 .ret
def c98_4 : LC := .seq c98_0 c98_3
def c98 : LF := .mk 11 c98_4 [.tmp 2]
set_option maxRecDepth 100000 in
theorem low98 : lowFn Tryz.prog Tryz.f98 = some c98 := by kernel_rfl
def c99_0 : LC := .ops [om 9 0, oo 10 (.chk (.t 9)), oa 11 1 10, ol 12 11, oo 13 (.eq .ptr true (.t 12) (.c .nilp))]
def c99_1 : LC := .ops [om 14 0, oo 15 (.chk (.t 14)), oa 16 1 15, ol 17 16, oo 18 (.call (.c (.fn 134 [])) [.t 17]), om 8 18]
def c99_2 : LC := .ops [om 19 1, om 20 8, oo 21 (.chk (.t 19)), .mk none none (.store 1 (.t 21) (.t 20))]
def c99_3 : LC := .ops [om 22 0, om 23 0, oo 24 (.chk (.t 23)), oa 25 2 24, ol 26 25, om 27 26, gm 28 27 false 8, gm 29 27 false 2, og 30 27 false (.bin .lss (.t 28) (.t 29)), oo 31 (.pick (.t 27) (.c (.bool true)) (.t 30)), om 32 31, gm 33 32 false 8, gm 34 32 false 3, og 35 32 false (.bin .gtr (.t 33) (.t 34)), oo 36 (.pick (.t 32) (.c (.bool true)) (.t 35)), oo 37 (.chk (.t 22)), oa 38 2 37, .mk none none (.store 1 (.t 38) (.t 36))]
def c99_5 : LC := .seq c99_3 .ret
def c99_6 : LC := .seq c99_2 c99_5
def c99_7 : LC := .seq c99_1 c99_6
def c99_9 : LC := .cond (.t 13) c99_7 .skip
def c99_10 : LC := .seq c99_0 c99_9
def c99_11 : LC := .ops [om 39 0, om 40 0, oo 41 (.chk (.t 40)), oa 42 2 41, ol 43 42, om 44 43, gm 45 44 false 1, og 46 44 false (.chk (.t 45)), gl 47 44 false 46, gm 48 44 false 2, og 49 44 false (.bin .lss (.t 47) (.t 48)), oo 50 (.pick (.t 44) (.c (.bool true)) (.t 49)), om 51 50, gm 52 51 false 1, og 53 51 false (.chk (.t 52)), gl 54 51 false 53, gm 55 51 false 3, og 56 51 false (.bin .gtr (.t 54) (.t 55)), oo 57 (.pick (.t 51) (.c (.bool true)) (.t 56)), oo 58 (.chk (.t 39)), oa 59 2 58, .mk none none (.store 1 (.t 59) (.t 57))]
def c99_12 : LC := .opsX [(om 60 0, []), (oo 61 (.chk (.t 60)), []), (oa 62 0 61, []), (ol 63 62, []), (om 64 1, []), (oo 65 (.chk (.t 64)), []), (ol 66 65, []), (oo 67 (.callX (.c (.fn 135 [])) [.t 63, .t 66]), [])]
def c99_13 : LC := .seq c99_11 c99_12
def c99_14 : LC := .seq c99_10 c99_13
def c99 : LF := .mk 68 c99_14 []
set_option maxRecDepth 100000 in
theorem low99 : lowFn Tryz.prog Tryz.f99 = some c99 := by kernel_rfl
def c100_0 : LC := .ops [oo 4 (.mov (.c (.str (ByteArray.mk (Array.mk [])))))]
def c100_1 : LC := .ops [om 7 0, om 8 1, oo 9 (.mx (.t 8) (.c (.int .i64 0))), oo 10 (.conv .u64 (.t 9)), oo 11 (.call (.c (.fn 96 [])) [.t 7, .t 10]), om 5 11]
def c100_2 : LC := .ops [om 12 0, oo 13 (.call (.c (.fn 98 [])) [.t 12]), om 14 13, gm 15 14 false 5, gm 16 14 false 0, og 17 14 false (.chk (.t 16)), ga 18 14 false 0 17, gl 19 14 false 18, og 20 14 false (.len false (.t 19)), og 21 14 false (.conv .u64 (.t 20)), og 22 14 false (.bin .gtr (.t 15) (.t 21)), oo 23 (.pick (.t 14) (.c (.bool true)) (.t 22))]
def c100_3 : LC := .ops [om 24 0, oo 25 (.call (.c (.fn 133 [])) [.t 24])]
def c100_4 : LC := .ops [oo 4 (.mov (.c (.str (ByteArray.mk (Array.mk [])))))]
def c100_6 : LC := .seq c100_4 .ret
def c100_7 : LC := .seq c100_3 c100_6
def c100_9 : LC := .cond (.t 23) c100_7 .skip
def c100_10 : LC := .seq c100_2 c100_9
def c100_11 : LC := .ops [om 26 0, oo 27 (.chk (.t 26)), oa 28 0 27, ol 29 28, om 30 5, oo 31 (.slice false 1 (.t 29) none (some (.t 30))), oo 32 (.b2s (.t 31)), om 6 32]
def c100_12 : LC := .ops [om 33 0, om 34 0, oo 35 (.chk (.t 34)), oa 36 0 35, ol 37 36, om 38 5, oo 39 (.slice false 1 (.t 37) (some (.t 38)) none), oo 40 (.chk (.t 33)), oa 41 0 40, .mk none none (.store 1 (.t 41) (.t 39))]
def c100_13 : LC := .ops [om 42 6, om 4 42]
def c100_15 : LC := .seq c100_13 .ret
def c100_16 : LC := .seq c100_12 c100_15
def c100_17 : LC := .seq c100_11 c100_16
def c100_18 : LC := .seq c100_10 c100_17
def c100_19 : LC := .seq c100_1 c100_18
def c100_20 : LC := .seq c100_0 c100_19
def c100 : LF := .mk 43 c100_20 [.tmp 4]
set_option maxRecDepth 100000 in
theorem low100 : lowFn Tryz.prog Tryz.f100 = some c100 := by kernel_rfl
def c101_0 : LC := .ops [om 4 0, om 5 1, oo 6 (.len true (.t 5)), oo 7 (.conv .u64 (.t 6)), oo 8 (.call (.c (.fn 97 [])) [.t 4, .t 7])]
def c101_1 : LC := .ops [om 9 0, oo 10 (.eq .ptr true (.t 9) (.c .nilp))]
def c101_2 : LC := .ops [om 11 0, om 12 0, oo 13 (.chk (.t 12)), oa 14 0 13, ol 15 14, om 16 1, oo 17 (.app 1 1 (.t 15) (.t 16)), oo 18 (.chk (.t 11)), oa 19 0 18, .mk none none (.store 1 (.t 19) (.t 17))]
def c101_4 : LC := .cond (.t 10) c101_2 .skip
def c101_5 : LC := .seq c101_1 c101_4
def c101_6 : LC := .seq c101_0 c101_5
def c101 : LF := .mk 20 c101_6 []
set_option maxRecDepth 100000 in
theorem low101 : lowFn Tryz.prog Tryz.f101 = some c101 := by kernel_rfl
def c102_0 : LC := .ops [oo 2 (.mov (.c (.bool false)))]
def c102_1 : LC := .ops [om 3 0, oo 4 (.call (.c (.fn 96 [])) [.t 3, .c (.int .u64 1)]), oo 5 (.bin .eql (.t 4) (.c (.int .u64 1))), om 2 5]
def c102_3 : LC := .seq c102_1 .ret
def c102_4 : LC := .seq c102_0 c102_3
def c102 : LF := .mk 6 c102_4 [.tmp 2]
set_option maxRecDepth 100000 in
theorem low102 : lowFn Tryz.prog Tryz.f102 = some c102 := by kernel_rfl
def c103_0 : LC := .ops [om 4 1]
def c103_1 : LC := .ops [om 5 0, oo 6 (.call (.c (.fn 97 [])) [.t 5, .c (.int .u64 1)])]
def c103_3 : LC := .seq c103_1 .ret
def c103_5 : LC := .cond (.t 4) c103_3 .skip
def c103_6 : LC := .seq c103_0 c103_5
def c103_7 : LC := .ops [om 7 0, oo 8 (.call (.c (.fn 97 [])) [.t 7, .c (.int .u64 0)])]
def c103_8 : LC := .seq c103_6 c103_7
def c103 : LF := .mk 9 c103_8 []
set_option maxRecDepth 100000 in
theorem low103 : lowFn Tryz.prog Tryz.f103 = some c103 := by kernel_rfl
def c104_0 : LC := .ops [om 12 1, oo 13 (.chk (.t 12)), ol 14 13, on 15 14, oo 16 (.conv .u64 (.t 15)), oo 8 (.alloc [.int .u64 0]), .mk none none (.store 1 (.t 8) (.t 16))]
def c104_1 : LC := .ops [om 17 0, om 18 2, oo 19 (.conv .u64 (.t 18)), oo 20 (.call (.c (.fn 53 [])) [.t 17, .t 8, .t 19])]
def c104_2 : LC := .ops [om 21 0, oo 22 (.chk (.t 21)), oa 23 1 22, ol 24 23, oo 25 (.eq .ptr false (.t 24) (.c .nilp))]
def c104_3 : LC := .ops [om 26 1, oo 27 (.chk (.t 26)), ol 28 27, on 29 28, oo 30 (.mov (.c (.int .i64 0)))]
def c104_4 : LC := .ops [oo 31 (.bin .lss (.t 30) (.t 29))]
def c104_6 : LC := .cond (.t 31) .skip (.exit 0)
def c104_7 : LC := .ops [om 32 30, om 9 32]
def c104_8 : LC := .ops [om 33 1, oo 34 (.chk (.t 33)), ol 35 34, om 36 9, oo 37 (.iaddr 1 (.t 35) (.t 36)), ol 38 37, oo 10 (.alloc [.int .i64 0]), .mk none none (.store 1 (.t 10) (.t 38))]
def c104_9 : LC := .ops [om 39 3, oo 40 (.call (.t 39) [.t 10])]
def c104_10 : LC := .seq c104_8 c104_9
def c104_11 : LC := .seq c104_7 c104_10
def c104_12 : LC := .block 1 c104_11
def c104_13 : LC := .ops [oo 41 (.bin .add (.t 30) (.c (.int .i64 1))), om 30 41]
def c104_14 : LC := .seq c104_12 c104_13
def c104_15 : LC := .seq c104_6 c104_14
def c104_16 : LC := .seq c104_4 c104_15
def c104_17 : LC := .loop c104_16
def c104_18 : LC := .block 0 c104_17
def c104_19 : LC := .seq c104_3 c104_18
def c104_21 : LC := .seq c104_19 .ret
def c104_23 : LC := .cond (.t 25) c104_21 .skip
def c104_24 : LC := .seq c104_2 c104_23
def c104_25 : LC := .ops [ol 42 8, oo 43 (.mov (.c (.int .u64 0)))]
def c104_26 : LC := .ops [oo 44 (.bin .lss (.t 43) (.t 42))]
def c104_28 : LC := .cond (.t 44) .skip (.exit 2)
def c104_29 : LC := .ops [oo 11 (.alloc [.int .i64 0])]
def c104_30 : LC := .ops [om 45 3, oo 46 (.call (.t 45) [.t 11])]
def c104_31 : LC := .ops [om 47 0, oo 48 (.chk (.t 47)), oa 49 1 48, ol 50 49, oo 51 (.call (.c (.fn 98 [])) [.t 50]), om 52 51, gm 53 52 false 0, og 54 52 false (.chk (.t 53)), ga 55 52 false 2 54, gl 56 52 false 55, oo 57 (.pick (.t 52) (.c (.bool true)) (.t 56))]
def c104_34 : LC := .cond (.t 57) .ret .skip
def c104_35 : LC := .seq c104_31 c104_34
def c104_36 : LC := .opsX [(om 58 1, []), (om 59 1, []), (oo 60 (.chk (.t 59)), []), (ol 61 60, []), (ol 62 11, []), (oo 63 (.slit 1 [.t 62]), []), (oo 64 (.app 1 8 (.t 61) (.t 63)), []), (oo 65 (.chk (.t 58)), []), (.mk none none (.store 1 (.t 65) (.t 64)), [])]
def c104_37 : LC := .seq c104_35 c104_36
def c104_38 : LC := .seq c104_30 c104_37
def c104_39 : LC := .seq c104_29 c104_38
def c104_40 : LC := .block 3 c104_39
def c104_41 : LC := .ops [oo 66 (.bin .add (.t 43) (.c (.int .u64 1))), om 43 66]
def c104_42 : LC := .seq c104_40 c104_41
def c104_43 : LC := .seq c104_28 c104_42
def c104_44 : LC := .seq c104_26 c104_43
def c104_45 : LC := .loop c104_44
def c104_46 : LC := .block 2 c104_45
def c104_47 : LC := .seq c104_25 c104_46
def c104_48 : LC := .seq c104_24 c104_47
def c104_49 : LC := .seq c104_1 c104_48
def c104_50 : LC := .seq c104_0 c104_49
def c104 : LF := .mk 67 c104_50 []
set_option maxRecDepth 100000 in
theorem low104 : lowFn Tryz.prog Tryz.f104 = some c104 := by kernel_rfl
def c105_0 : LC := .ops [ol 3 1, om 4 0, oo 5 (.call (.c (.fn 56 [])) [.t 3, .t 4])]
def c105 : LF := .mk 6 c105_0 []
set_option maxRecDepth 100000 in
theorem low105 : lowFn Tryz.prog Tryz.f105 = some c105 := by kernel_rfl
def c106_0 : LC := .ops [om 12 1, oo 13 (.chk (.t 12)), ol 14 13, on 15 14, oo 16 (.conv .u64 (.t 15)), oo 8 (.alloc [.int .u64 0]), .mk none none (.store 1 (.t 8) (.t 16))]
def c106_1 : LC := .ops [om 17 0, om 18 2, oo 19 (.conv .u64 (.t 18)), oo 20 (.call (.c (.fn 53 [])) [.t 17, .t 8, .t 19])]
def c106_2 : LC := .ops [om 21 0, oo 22 (.chk (.t 21)), oa 23 1 22, ol 24 23, oo 25 (.eq .ptr false (.t 24) (.c .nilp))]
def c106_3 : LC := .ops [om 26 1, oo 27 (.chk (.t 26)), ol 28 27, on 29 28, oo 30 (.mov (.c (.int .i64 0)))]
def c106_4 : LC := .ops [oo 31 (.bin .lss (.t 30) (.t 29))]
def c106_6 : LC := .cond (.t 31) .skip (.exit 0)
def c106_7 : LC := .ops [om 32 30, om 9 32]
def c106_8 : LC := .ops [om 33 1, oo 34 (.chk (.t 33)), ol 35 34, om 36 9, oo 37 (.iaddr 2 (.t 35) (.t 36)), oo 38 (.load (some 2) (.t 37)), oo 10 (.alloc [.int .u32 0, .int .i64 0]), .mk none none (.store 2 (.t 10) (.t 38))]
def c106_9 : LC := .ops [om 39 3, oo 40 (.call (.t 39) [.t 10])]
def c106_10 : LC := .seq c106_8 c106_9
def c106_11 : LC := .seq c106_7 c106_10
def c106_12 : LC := .block 1 c106_11
def c106_13 : LC := .ops [oo 41 (.bin .add (.t 30) (.c (.int .i64 1))), om 30 41]
def c106_14 : LC := .seq c106_12 c106_13
def c106_15 : LC := .seq c106_6 c106_14
def c106_16 : LC := .seq c106_4 c106_15
def c106_17 : LC := .loop c106_16
def c106_18 : LC := .block 0 c106_17
def c106_19 : LC := .seq c106_3 c106_18
def c106_21 : LC := .seq c106_19 .ret
def c106_23 : LC := .cond (.t 25) c106_21 .skip
def c106_24 : LC := .seq c106_2 c106_23
def c106_25 : LC := .ops [ol 42 8, oo 43 (.mov (.c (.int .u64 0)))]
def c106_26 : LC := .ops [oo 44 (.bin .lss (.t 43) (.t 42))]
def c106_28 : LC := .cond (.t 44) .skip (.exit 2)
def c106_29 : LC := .ops [oo 11 (.alloc [.int .u32 0, .int .i64 0])]
def c106_30 : LC := .ops [om 45 3, oo 46 (.call (.t 45) [.t 11])]
def c106_31 : LC := .ops [om 47 0, oo 48 (.chk (.t 47)), oa 49 1 48, ol 50 49, oo 51 (.call (.c (.fn 98 [])) [.t 50]), om 52 51, gm 53 52 false 0, og 54 52 false (.chk (.t 53)), ga 55 52 false 2 54, gl 56 52 false 55, oo 57 (.pick (.t 52) (.c (.bool true)) (.t 56))]
def c106_34 : LC := .cond (.t 57) .ret .skip
def c106_35 : LC := .seq c106_31 c106_34
def c106_36 : LC := .opsX [(om 58 1, []), (om 59 1, []), (oo 60 (.chk (.t 59)), []), (ol 61 60, []), (oo 62 (.load (some 2) (.t 11)), []), (oo 63 (.slit 2 [.t 62]), []), (oo 64 (.app 2 16 (.t 61) (.t 63)), []), (oo 65 (.chk (.t 58)), []), (.mk none none (.store 1 (.t 65) (.t 64)), [])]
def c106_37 : LC := .seq c106_35 c106_36
def c106_38 : LC := .seq c106_30 c106_37
def c106_39 : LC := .seq c106_29 c106_38
def c106_40 : LC := .block 3 c106_39
def c106_41 : LC := .ops [oo 66 (.bin .add (.t 43) (.c (.int .u64 1))), om 43 66]
def c106_42 : LC := .seq c106_40 c106_41
def c106_43 : LC := .seq c106_28 c106_42
def c106_44 : LC := .seq c106_26 c106_43
def c106_45 : LC := .loop c106_44
def c106_46 : LC := .block 2 c106_45
def c106_47 : LC := .seq c106_25 c106_46
def c106_48 : LC := .seq c106_24 c106_47
def c106_49 : LC := .seq c106_1 c106_48
def c106_50 : LC := .seq c106_0 c106_49
def c106 : LF := .mk 67 c106_50 []
set_option maxRecDepth 100000 in
theorem low106 : lowFn Tryz.prog Tryz.f106 = some c106 := by kernel_rfl
def c107_0 : LC := .opsX [(ol 3 1, []), (om 4 0, []), (oo 5 (.chk (.t 4)), []), (oa 6 0 5, []), (oo 7 (.callX (.c (.fn 78 [])) [.t 3, .t 6]), [])]
def c107_1 : LC := .opsX [(ol 8 1, []), (om 9 0, []), (oo 10 (.chk (.t 9)), []), (oa 11 1 10, []), (oo 12 (.callX (.c (.fn 57 [])) [.t 8, .t 11, .c (.int .u64 40)]), [])]
def c107_2 : LC := .seq c107_0 c107_1
def c107 : LF := .mk 13 c107_2 []
set_option maxRecDepth 100000 in
theorem low107 : lowFn Tryz.prog Tryz.f107 = some c107 := by kernel_rfl
def c108_0 : LC := .ops [oo 4 (.mov (.c (.bool false)))]
def c108_1 : LC := .ops [om 6 0, on 7 6, om 8 1, on 9 8, oo 10 (.bin .neq (.t 7) (.t 9))]
def c108_2 : LC := .ops [oo 4 (.mov (.c (.bool false)))]
def c108_4 : LC := .seq c108_2 .ret
def c108_6 : LC := .cond (.t 10) c108_4 .skip
def c108_7 : LC := .seq c108_1 c108_6
def c108_8 : LC := .ops [om 11 0, on 12 11, oo 13 (.mov (.c (.int .i64 0)))]
def c108_9 : LC := .ops [oo 14 (.bin .lss (.t 13) (.t 12))]
def c108_11 : LC := .cond (.t 14) .skip (.exit 0)
def c108_12 : LC := .ops [om 15 13, om 5 15]
def c108_13 : LC := .opsX [(om 16 0, []), (om 17 5, []), (oo 18 (.iaddr 3 (.t 16) (.t 17)), []), (oo 19 (.load (some 3) (.t 18)), []), (om 20 1, []), (om 21 5, []), (oo 22 (.iaddr 3 (.t 20) (.t 21)), []), (oo 23 (.load (some 3) (.t 22)), []), (oo 24 (.eq (.row [.int, .int, .int]) true (.t 19) (.t 23)), [])]
def c108_14 : LC := .ops [oo 4 (.mov (.c (.bool false)))]
def c108_16 : LC := .seq c108_14 .ret
def c108_18 : LC := .cond (.t 24) c108_16 .skip
def c108_19 : LC := .seq c108_13 c108_18
def c108_20 : LC := .seq c108_12 c108_19
def c108_21 : LC := .block 1 c108_20
def c108_22 : LC := .ops [oo 25 (.bin .add (.t 13) (.c (.int .i64 1))), om 13 25]
def c108_23 : LC := .seq c108_21 c108_22
def c108_24 : LC := .seq c108_11 c108_23
def c108_25 : LC := .seq c108_9 c108_24
def c108_26 : LC := .loop c108_25
def c108_27 : LC := .block 0 c108_26
def c108_28 : LC := .seq c108_8 c108_27
def c108_29 : LC := .ops [oo 4 (.mov (.c (.bool true)))]
def c108_31 : LC := .seq c108_29 .ret
def c108_32 : LC := .seq c108_28 c108_31
def c108_33 : LC := .seq c108_7 c108_32
def c108_34 : LC := .seq c108_0 c108_33
def c108 : LF := .mk 26 c108_34 [.tmp 4]
set_option maxRecDepth 100000 in
theorem low108 : lowFn Tryz.prog Tryz.f108 = some c108 := by kernel_rfl
def c111_0 : LC := .ops [om 6 0, oo 7 (.chk (.t 6)), oa 8 1 7, ol 9 8, oo 10 (.eq .ptr true (.t 9) (.c .nilp))]
def c111_1 : LC := .ops [om 11 1, om 12 0, oo 13 (.chk (.t 12)), oa 14 1 13, ol 15 14, om 16 2, oo 17 (.call (.c (.fn 96 [])) [.t 15, .t 16]), oo 18 (.conv .u32 (.t 17)), oo 19 (.chk (.t 11)), .mk none none (.store 1 (.t 19) (.t 18))]
def c111_3 : LC := .seq c111_1 .ret
def c111_5 : LC := .cond (.t 10) c111_3 .skip
def c111_6 : LC := .seq c111_0 c111_5
def c111_7 : LC := .ops [om 20 0, om 21 0, oo 22 (.chk (.t 21)), oa 23 2 22, ol 24 23, om 25 24, gm 26 25 false 1, og 27 25 false (.chk (.t 26)), gl 28 25 false 27, og 29 25 false (.conv .u64 (.t 28)), gm 30 25 false 2, og 31 25 false (.bin .gtr (.t 29) (.t 30)), oo 32 (.pick (.t 25) (.c (.bool true)) (.t 31)), oo 33 (.chk (.t 20)), oa 34 2 33, .mk none none (.store 1 (.t 34) (.t 32))]
def c111_8 : LC := .opsX [(om 35 0, []), (oo 36 (.chk (.t 35)), []), (oa 37 0 36, []), (ol 38 37, []), (om 39 1, []), (oo 40 (.chk (.t 39)), []), (ol 41 40, []), (oo 42 (.conv .u64 (.t 41)), []), (oo 43 (.callX (.c (.fn 97 [])) [.t 38, .t 42]), [])]
def c111_9 : LC := .seq c111_7 c111_8
def c111_10 : LC := .seq c111_6 c111_9
def c111 : LF := .mk 44 c111_10 []
set_option maxRecDepth 100000 in
theorem low111 : lowFn Tryz.prog Tryz.f111 = some c111 := by kernel_rfl
def c113_0 : LC := .ops [oo 4 (.mov (.c (.bool false)))]
def c113_1 : LC := .ops [om 6 0, on 7 6, om 8 1, on 9 8, oo 10 (.bin .neq (.t 7) (.t 9))]
def c113_2 : LC := .ops [oo 4 (.mov (.c (.bool false)))]
def c113_4 : LC := .seq c113_2 .ret
def c113_6 : LC := .cond (.t 10) c113_4 .skip
def c113_7 : LC := .seq c113_1 c113_6
def c113_8 : LC := .ops [om 11 0, on 12 11, oo 13 (.mov (.c (.int .i64 0)))]
def c113_9 : LC := .ops [oo 14 (.bin .lss (.t 13) (.t 12))]
def c113_11 : LC := .cond (.t 14) .skip (.exit 0)
def c113_12 : LC := .ops [om 15 13, om 5 15]
def c113_13 : LC := .opsX [(om 16 0, []), (om 17 5, []), (oo 18 (.iaddr 1 (.t 16) (.t 17)), []), (ol 19 18, []), (om 20 1, []), (om 21 5, []), (oo 22 (.iaddr 1 (.t 20) (.t 21)), []), (ol 23 22, []), (oo 24 (.bin .neq (.t 19) (.t 23)), [])]
def c113_14 : LC := .ops [oo 4 (.mov (.c (.bool false)))]
def c113_16 : LC := .seq c113_14 .ret
def c113_18 : LC := .cond (.t 24) c113_16 .skip
def c113_19 : LC := .seq c113_13 c113_18
def c113_20 : LC := .seq c113_12 c113_19
def c113_21 : LC := .block 1 c113_20
def c113_22 : LC := .ops [oo 25 (.bin .add (.t 13) (.c (.int .i64 1))), om 13 25]
def c113_23 : LC := .seq c113_21 c113_22
def c113_24 : LC := .seq c113_11 c113_23
def c113_25 : LC := .seq c113_9 c113_24
def c113_26 : LC := .loop c113_25
def c113_27 : LC := .block 0 c113_26
def c113_28 : LC := .seq c113_8 c113_27
def c113_29 : LC := .ops [oo 4 (.mov (.c (.bool true)))]
def c113_31 : LC := .seq c113_29 .ret
def c113_32 : LC := .seq c113_28 c113_31
def c113_33 : LC := .seq c113_7 c113_32
def c113_34 : LC := .seq c113_0 c113_33
def c113 : LF := .mk 26 c113_34 [.tmp 4]
set_option maxRecDepth 100000 in
theorem low113 : lowFn Tryz.prog Tryz.f113 = some c113 := by kernel_rfl
def c114_0 : LC := .ops [oo 4 (.mov (.c (.bool false)))]
def c114_1 : LC := .ops [om 6 0, on 7 6, om 8 1, on 9 8, oo 10 (.bin .neq (.t 7) (.t 9))]
def c114_2 : LC := .ops [oo 4 (.mov (.c (.bool false)))]
def c114_4 : LC := .seq c114_2 .ret
def c114_6 : LC := .cond (.t 10) c114_4 .skip
def c114_7 : LC := .seq c114_1 c114_6
def c114_8 : LC := .ops [om 11 0, on 12 11, oo 13 (.mov (.c (.int .i64 0)))]
def c114_9 : LC := .ops [oo 14 (.bin .lss (.t 13) (.t 12))]
def c114_11 : LC := .cond (.t 14) .skip (.exit 0)
def c114_12 : LC := .ops [om 15 13, om 5 15]
def c114_13 : LC := .opsX [(om 16 0, []), (om 17 5, []), (oo 18 (.iaddr 2 (.t 16) (.t 17)), []), (oo 19 (.load (some 2) (.t 18)), []), (om 20 1, []), (om 21 5, []), (oo 22 (.iaddr 2 (.t 20) (.t 21)), []), (oo 23 (.load (some 2) (.t 22)), []), (oo 24 (.eq (.row [.int, .int]) true (.t 19) (.t 23)), [])]
def c114_14 : LC := .ops [oo 4 (.mov (.c (.bool false)))]
def c114_16 : LC := .seq c114_14 .ret
def c114_18 : LC := .cond (.t 24) c114_16 .skip
def c114_19 : LC := .seq c114_13 c114_18
def c114_20 : LC := .seq c114_12 c114_19
def c114_21 : LC := .block 1 c114_20
def c114_22 : LC := .ops [oo 25 (.bin .add (.t 13) (.c (.int .i64 1))), om 13 25]
def c114_23 : LC := .seq c114_21 c114_22
def c114_24 : LC := .seq c114_11 c114_23
def c114_25 : LC := .seq c114_9 c114_24
def c114_26 : LC := .loop c114_25
def c114_27 : LC := .block 0 c114_26
def c114_28 : LC := .seq c114_8 c114_27
def c114_29 : LC := .ops [oo 4 (.mov (.c (.bool true)))]
def c114_31 : LC := .seq c114_29 .ret
def c114_32 : LC := .seq c114_28 c114_31
def c114_33 : LC := .seq c114_7 c114_32
def c114_34 : LC := .seq c114_0 c114_33
def c114 : LF := .mk 26 c114_34 [.tmp 4]
set_option maxRecDepth 100000 in
theorem low114 : lowFn Tryz.prog Tryz.f114 = some c114 := by kernel_rfl
def c115_0 : LC := .ops [oo 4 (.mov (.c (.bool false)))]
def c115_1 : LC := .ops [om 6 0, on 7 6, om 8 1, on 9 8, oo 10 (.bin .neq (.t 7) (.t 9))]
def c115_2 : LC := .ops [oo 4 (.mov (.c (.bool false)))]
def c115_4 : LC := .seq c115_2 .ret
def c115_6 : LC := .cond (.t 10) c115_4 .skip
def c115_7 : LC := .seq c115_1 c115_6
def c115_8 : LC := .ops [om 11 0, on 12 11, oo 13 (.mov (.c (.int .i64 0)))]
def c115_9 : LC := .ops [oo 14 (.bin .lss (.t 13) (.t 12))]
def c115_11 : LC := .cond (.t 14) .skip (.exit 0)
def c115_12 : LC := .ops [om 15 13, om 5 15]
def c115_13 : LC := .opsX [(om 16 0, []), (om 17 5, []), (oo 18 (.iaddr 2 (.t 16) (.t 17)), []), (oo 19 (.load (some 2) (.t 18)), []), (om 20 1, []), (om 21 5, []), (oo 22 (.iaddr 2 (.t 20) (.t 21)), []), (oo 23 (.load (some 2) (.t 22)), []), (oo 24 (.eq (.row [.int, .int]) true (.t 19) (.t 23)), [])]
def c115_14 : LC := .ops [oo 4 (.mov (.c (.bool false)))]
def c115_16 : LC := .seq c115_14 .ret
def c115_18 : LC := .cond (.t 24) c115_16 .skip
def c115_19 : LC := .seq c115_13 c115_18
def c115_20 : LC := .seq c115_12 c115_19
def c115_21 : LC := .block 1 c115_20
def c115_22 : LC := .ops [oo 25 (.bin .add (.t 13) (.c (.int .i64 1))), om 13 25]
def c115_23 : LC := .seq c115_21 c115_22
def c115_24 : LC := .seq c115_11 c115_23
def c115_25 : LC := .seq c115_9 c115_24
def c115_26 : LC := .loop c115_25
def c115_27 : LC := .block 0 c115_26
def c115_28 : LC := .seq c115_8 c115_27
def c115_29 : LC := .ops [oo 4 (.mov (.c (.bool true)))]
def c115_31 : LC := .seq c115_29 .ret
def c115_32 : LC := .seq c115_28 c115_31
def c115_33 : LC := .seq c115_7 c115_32
def c115_34 : LC := .seq c115_0 c115_33
def c115 : LF := .mk 26 c115_34 [.tmp 4]
set_option maxRecDepth 100000 in
theorem low115 : lowFn Tryz.prog Tryz.f115 = some c115 := by kernel_rfl
def c116_0 : LC := .ops [oo 4 (.mov (.c (.bool false)))]
def c116_1 : LC := .ops [om 6 0, on 7 6, om 8 1, on 9 8, oo 10 (.bin .neq (.t 7) (.t 9))]
def c116_2 : LC := .ops [oo 4 (.mov (.c (.bool false)))]
def c116_4 : LC := .seq c116_2 .ret
def c116_6 : LC := .cond (.t 10) c116_4 .skip
def c116_7 : LC := .seq c116_1 c116_6
def c116_8 : LC := .ops [om 11 0, on 12 11, oo 13 (.mov (.c (.int .i64 0)))]
def c116_9 : LC := .ops [oo 14 (.bin .lss (.t 13) (.t 12))]
def c116_11 : LC := .cond (.t 14) .skip (.exit 0)
def c116_12 : LC := .ops [om 15 13, om 5 15]
def c116_13 : LC := .opsX [(om 16 0, []), (om 17 5, []), (oo 18 (.iaddr 2 (.t 16) (.t 17)), []), (oo 19 (.load (some 2) (.t 18)), []), (om 20 1, []), (om 21 5, []), (oo 22 (.iaddr 2 (.t 20) (.t 21)), []), (oo 23 (.load (some 2) (.t 22)), []), (oo 24 (.eq (.row [.int, .int]) true (.t 19) (.t 23)), [])]
def c116_14 : LC := .ops [oo 4 (.mov (.c (.bool false)))]
def c116_16 : LC := .seq c116_14 .ret
def c116_18 : LC := .cond (.t 24) c116_16 .skip
def c116_19 : LC := .seq c116_13 c116_18
def c116_20 : LC := .seq c116_12 c116_19
def c116_21 : LC := .block 1 c116_20
def c116_22 : LC := .ops [oo 25 (.bin .add (.t 13) (.c (.int .i64 1))), om 13 25]
def c116_23 : LC := .seq c116_21 c116_22
def c116_24 : LC := .seq c116_11 c116_23
def c116_25 : LC := .seq c116_9 c116_24
def c116_26 : LC := .loop c116_25
def c116_27 : LC := .block 0 c116_26
def c116_28 : LC := .seq c116_8 c116_27
def c116_29 : LC := .ops [oo 4 (.mov (.c (.bool true)))]
def c116_31 : LC := .seq c116_29 .ret
def c116_32 : LC := .seq c116_28 c116_31
def c116_33 : LC := .seq c116_7 c116_32
def c116_34 : LC := .seq c116_0 c116_33
def c116 : LF := .mk 26 c116_34 [.tmp 4]
set_option maxRecDepth 100000 in
theorem low116 : lowFn Tryz.prog Tryz.f116 = some c116 := by kernel_rfl
def c119_0 : LC := .ops [oo 3 (.box (.t 0))]
def c119_1 : LC := .ops [ol 6 3, om 7 1, om 8 2, oo 9 (.mkfn 140 [.t 3]), oo 10 (.call (.c (.fn 139 [])) [.t 6, .t 7, .t 8, .t 9])]
def c119_2 : LC := .seq c119_0 c119_1
def c119 : LF := .mk 11 c119_2 []
set_option maxRecDepth 100000 in
theorem low119 : lowFn Tryz.prog Tryz.f119 = some c119 := by kernel_rfl
def c127_0 : LC := .ops [om 12 1, oo 13 (.chk (.t 12)), ol 14 13, on 15 14, oo 16 (.conv .u64 (.t 15)), oo 8 (.alloc [.int .u64 0]), .mk none none (.store 1 (.t 8) (.t 16))]
def c127_1 : LC := .ops [om 17 0, om 18 2, oo 19 (.conv .u64 (.t 18)), oo 20 (.call (.c (.fn 53 [])) [.t 17, .t 8, .t 19])]
def c127_2 : LC := .ops [om 21 0, oo 22 (.chk (.t 21)), oa 23 1 22, ol 24 23, oo 25 (.eq .ptr false (.t 24) (.c .nilp))]
def c127_3 : LC := .ops [om 26 1, oo 27 (.chk (.t 26)), ol 28 27, on 29 28, oo 30 (.mov (.c (.int .i64 0)))]
def c127_4 : LC := .ops [oo 31 (.bin .lss (.t 30) (.t 29))]
def c127_6 : LC := .cond (.t 31) .skip (.exit 0)
def c127_7 : LC := .ops [om 32 30, om 9 32]
def c127_8 : LC := .ops [om 33 1, oo 34 (.chk (.t 33)), ol 35 34, om 36 9, oo 37 (.iaddr 1 (.t 35) (.t 36)), ol 38 37, oo 10 (.alloc [.int .u32 0]), .mk none none (.store 1 (.t 10) (.t 38))]
def c127_9 : LC := .ops [om 39 3, oo 40 (.call (.t 39) [.t 10])]
def c127_10 : LC := .seq c127_8 c127_9
def c127_11 : LC := .seq c127_7 c127_10
def c127_12 : LC := .block 1 c127_11
def c127_13 : LC := .ops [oo 41 (.bin .add (.t 30) (.c (.int .i64 1))), om 30 41]
def c127_14 : LC := .seq c127_12 c127_13
def c127_15 : LC := .seq c127_6 c127_14
def c127_16 : LC := .seq c127_4 c127_15
def c127_17 : LC := .loop c127_16
def c127_18 : LC := .block 0 c127_17
def c127_19 : LC := .seq c127_3 c127_18
def c127_21 : LC := .seq c127_19 .ret
def c127_23 : LC := .cond (.t 25) c127_21 .skip
def c127_24 : LC := .seq c127_2 c127_23
def c127_25 : LC := .ops [ol 42 8, oo 43 (.mov (.c (.int .u64 0)))]
def c127_26 : LC := .ops [oo 44 (.bin .lss (.t 43) (.t 42))]
def c127_28 : LC := .cond (.t 44) .skip (.exit 2)
def c127_29 : LC := .ops [oo 11 (.alloc [.int .u32 0])]
def c127_30 : LC := .ops [om 45 3, oo 46 (.call (.t 45) [.t 11])]
def c127_31 : LC := .ops [om 47 0, oo 48 (.chk (.t 47)), oa 49 1 48, ol 50 49, oo 51 (.call (.c (.fn 98 [])) [.t 50]), om 52 51, gm 53 52 false 0, og 54 52 false (.chk (.t 53)), ga 55 52 false 2 54, gl 56 52 false 55, oo 57 (.pick (.t 52) (.c (.bool true)) (.t 56))]
def c127_34 : LC := .cond (.t 57) .ret .skip
def c127_35 : LC := .seq c127_31 c127_34
def c127_36 : LC := .opsX [(om 58 1, []), (om 59 1, []), (oo 60 (.chk (.t 59)), []), (ol 61 60, []), (ol 62 11, []), (oo 63 (.slit 1 [.t 62]), []), (oo 64 (.app 1 4 (.t 61) (.t 63)), []), (oo 65 (.chk (.t 58)), []), (.mk none none (.store 1 (.t 65) (.t 64)), [])]
def c127_37 : LC := .seq c127_35 c127_36
def c127_38 : LC := .seq c127_30 c127_37
def c127_39 : LC := .seq c127_29 c127_38
def c127_40 : LC := .block 3 c127_39
def c127_41 : LC := .ops [oo 66 (.bin .add (.t 43) (.c (.int .u64 1))), om 43 66]
def c127_42 : LC := .seq c127_40 c127_41
def c127_43 : LC := .seq c127_28 c127_42
def c127_44 : LC := .seq c127_26 c127_43
def c127_45 : LC := .loop c127_44
def c127_46 : LC := .block 2 c127_45
def c127_47 : LC := .seq c127_25 c127_46
def c127_48 : LC := .seq c127_24 c127_47
def c127_49 : LC := .seq c127_1 c127_48
def c127_50 : LC := .seq c127_0 c127_49
def c127 : LF := .mk 67 c127_50 []
set_option maxRecDepth 100000 in
theorem low127 : lowFn Tryz.prog Tryz.f127 = some c127 := by kernel_rfl
def c128_0 : LC := .ops [ol 3 1, om 4 0, oo 5 (.call (.c (.fn 78 [])) [.t 3, .t 4])]
def c128 : LF := .mk 6 c128_0 []
set_option maxRecDepth 100000 in
theorem low128 : lowFn Tryz.prog Tryz.f128 = some c128 := by kernel_rfl
def c129_0 : LC := .ops [om 12 1, oo 13 (.chk (.t 12)), ol 14 13, on 15 14, oo 16 (.conv .u64 (.t 15)), oo 8 (.alloc [.int .u64 0]), .mk none none (.store 1 (.t 8) (.t 16))]
def c129_1 : LC := .ops [om 17 0, om 18 2, oo 19 (.conv .u64 (.t 18)), oo 20 (.call (.c (.fn 53 [])) [.t 17, .t 8, .t 19])]
def c129_2 : LC := .ops [om 21 0, oo 22 (.chk (.t 21)), oa 23 1 22, ol 24 23, oo 25 (.eq .ptr false (.t 24) (.c .nilp))]
def c129_3 : LC := .ops [om 26 1, oo 27 (.chk (.t 26)), ol 28 27, on 29 28, oo 30 (.mov (.c (.int .i64 0)))]
def c129_4 : LC := .ops [oo 31 (.bin .lss (.t 30) (.t 29))]
def c129_6 : LC := .cond (.t 31) .skip (.exit 0)
def c129_7 : LC := .ops [om 32 30, om 9 32]
def c129_8 : LC := .ops [om 33 1, oo 34 (.chk (.t 33)), ol 35 34, om 36 9, oo 37 (.iaddr 2 (.t 35) (.t 36)), oo 38 (.load (some 2) (.t 37)), oo 10 (.alloc [.int .u32 0, .int .i64 0]), .mk none none (.store 2 (.t 10) (.t 38))]
def c129_9 : LC := .ops [om 39 3, oo 40 (.call (.t 39) [.t 10])]
def c129_10 : LC := .seq c129_8 c129_9
def c129_11 : LC := .seq c129_7 c129_10
def c129_12 : LC := .block 1 c129_11
def c129_13 : LC := .ops [oo 41 (.bin .add (.t 30) (.c (.int .i64 1))), om 30 41]
def c129_14 : LC := .seq c129_12 c129_13
def c129_15 : LC := .seq c129_6 c129_14
def c129_16 : LC := .seq c129_4 c129_15
def c129_17 : LC := .loop c129_16
def c129_18 : LC := .block 0 c129_17
def c129_19 : LC := .seq c129_3 c129_18
def c129_21 : LC := .seq c129_19 .ret
def c129_23 : LC := .cond (.t 25) c129_21 .skip
def c129_24 : LC := .seq c129_2 c129_23
def c129_25 : LC := .ops [ol 42 8, oo 43 (.mov (.c (.int .u64 0)))]
def c129_26 : LC := .ops [oo 44 (.bin .lss (.t 43) (.t 42))]
def c129_28 : LC := .cond (.t 44) .skip (.exit 2)
def c129_29 : LC := .ops [oo 11 (.alloc [.int .u32 0, .int .i64 0])]
def c129_30 : LC := .ops [om 45 3, oo 46 (.call (.t 45) [.t 11])]
def c129_31 : LC := .ops [om 47 0, oo 48 (.chk (.t 47)), oa 49 1 48, ol 50 49, oo 51 (.call (.c (.fn 98 [])) [.t 50]), om 52 51, gm 53 52 false 0, og 54 52 false (.chk (.t 53)), ga 55 52 false 2 54, gl 56 52 false 55, oo 57 (.pick (.t 52) (.c (.bool true)) (.t 56))]
def c129_34 : LC := .cond (.t 57) .ret .skip
def c129_35 : LC := .seq c129_31 c129_34
def c129_36 : LC := .opsX [(om 58 1, []), (om 59 1, []), (oo 60 (.chk (.t 59)), []), (ol 61 60, []), (oo 62 (.load (some 2) (.t 11)), []), (oo 63 (.slit 2 [.t 62]), []), (oo 64 (.app 2 16 (.t 61) (.t 63)), []), (oo 65 (.chk (.t 58)), []), (.mk none none (.store 1 (.t 65) (.t 64)), [])]
def c129_37 : LC := .seq c129_35 c129_36
def c129_38 : LC := .seq c129_30 c129_37
def c129_39 : LC := .seq c129_29 c129_38
def c129_40 : LC := .block 3 c129_39
def c129_41 : LC := .ops [oo 66 (.bin .add (.t 43) (.c (.int .u64 1))), om 43 66]
def c129_42 : LC := .seq c129_40 c129_41
def c129_43 : LC := .seq c129_28 c129_42
def c129_44 : LC := .seq c129_26 c129_43
def c129_45 : LC := .loop c129_44
def c129_46 : LC := .block 2 c129_45
def c129_47 : LC := .seq c129_25 c129_46
def c129_48 : LC := .seq c129_24 c129_47
def c129_49 : LC := .seq c129_1 c129_48
def c129_50 : LC := .seq c129_0 c129_49
def c129 : LF := .mk 67 c129_50 []
set_option maxRecDepth 100000 in
theorem low129 : lowFn Tryz.prog Tryz.f129 = some c129 := by kernel_rfl
def c130_0 : LC := .opsX [(ol 3 1, []), (om 4 0, []), (oo 5 (.chk (.t 4)), []), (oa 6 0 5, []), (oo 7 (.callX (.c (.fn 78 [])) [.t 3, .t 6]), [])]
def c130_1 : LC := .opsX [(ol 8 1, []), (om 9 0, []), (oo 10 (.chk (.t 9)), []), (oa 11 1 10, []), (oo 12 (.callX (.c (.fn 57 [])) [.t 8, .t 11, .c (.int .u64 1000)]), [])]
def c130_2 : LC := .seq c130_0 c130_1
def c130 : LF := .mk 13 c130_2 []
set_option maxRecDepth 100000 in
theorem low130 : lowFn Tryz.prog Tryz.f130 = some c130 := by kernel_rfl
def c131_0 : LC := .ops [om 12 1, oo 13 (.chk (.t 12)), ol 14 13, on 15 14, oo 16 (.conv .u64 (.t 15)), oo 8 (.alloc [.int .u64 0]), .mk none none (.store 1 (.t 8) (.t 16))]
def c131_1 : LC := .ops [om 17 0, om 18 2, oo 19 (.conv .u64 (.t 18)), oo 20 (.call (.c (.fn 53 [])) [.t 17, .t 8, .t 19])]
def c131_2 : LC := .ops [om 21 0, oo 22 (.chk (.t 21)), oa 23 1 22, ol 24 23, oo 25 (.eq .ptr false (.t 24) (.c .nilp))]
def c131_3 : LC := .ops [om 26 1, oo 27 (.chk (.t 26)), ol 28 27, on 29 28, oo 30 (.mov (.c (.int .i64 0)))]
def c131_4 : LC := .ops [oo 31 (.bin .lss (.t 30) (.t 29))]
def c131_6 : LC := .cond (.t 31) .skip (.exit 0)
def c131_7 : LC := .ops [om 32 30, om 9 32]
def c131_8 : LC := .ops [om 33 1, oo 34 (.chk (.t 33)), ol 35 34, om 36 9, oo 37 (.iaddr 2 (.t 35) (.t 36)), oo 38 (.load (some 2) (.t 37)), oo 10 (.alloc [.int .u32 0, .int .u32 0]), .mk none none (.store 2 (.t 10) (.t 38))]
def c131_9 : LC := .ops [om 39 3, oo 40 (.call (.t 39) [.t 10])]
def c131_10 : LC := .seq c131_8 c131_9
def c131_11 : LC := .seq c131_7 c131_10
def c131_12 : LC := .block 1 c131_11
def c131_13 : LC := .ops [oo 41 (.bin .add (.t 30) (.c (.int .i64 1))), om 30 41]
def c131_14 : LC := .seq c131_12 c131_13
def c131_15 : LC := .seq c131_6 c131_14
def c131_16 : LC := .seq c131_4 c131_15
def c131_17 : LC := .loop c131_16
def c131_18 : LC := .block 0 c131_17
def c131_19 : LC := .seq c131_3 c131_18
def c131_21 : LC := .seq c131_19 .ret
def c131_23 : LC := .cond (.t 25) c131_21 .skip
def c131_24 : LC := .seq c131_2 c131_23
def c131_25 : LC := .ops [ol 42 8, oo 43 (.mov (.c (.int .u64 0)))]
def c131_26 : LC := .ops [oo 44 (.bin .lss (.t 43) (.t 42))]
def c131_28 : LC := .cond (.t 44) .skip (.exit 2)
def c131_29 : LC := .ops [oo 11 (.alloc [.int .u32 0, .int .u32 0])]
def c131_30 : LC := .ops [om 45 3, oo 46 (.call (.t 45) [.t 11])]
def c131_31 : LC := .ops [om 47 0, oo 48 (.chk (.t 47)), oa 49 1 48, ol 50 49, oo 51 (.call (.c (.fn 98 [])) [.t 50]), om 52 51, gm 53 52 false 0, og 54 52 false (.chk (.t 53)), ga 55 52 false 2 54, gl 56 52 false 55, oo 57 (.pick (.t 52) (.c (.bool true)) (.t 56))]
def c131_34 : LC := .cond (.t 57) .ret .skip
def c131_35 : LC := .seq c131_31 c131_34
def c131_36 : LC := .opsX [(om 58 1, []), (om 59 1, []), (oo 60 (.chk (.t 59)), []), (ol 61 60, []), (oo 62 (.load (some 2) (.t 11)), []), (oo 63 (.slit 2 [.t 62]), []), (oo 64 (.app 2 8 (.t 61) (.t 63)), []), (oo 65 (.chk (.t 58)), []), (.mk none none (.store 1 (.t 65) (.t 64)), [])]
def c131_37 : LC := .seq c131_35 c131_36
def c131_38 : LC := .seq c131_30 c131_37
def c131_39 : LC := .seq c131_29 c131_38
def c131_40 : LC := .block 3 c131_39
def c131_41 : LC := .ops [oo 66 (.bin .add (.t 43) (.c (.int .u64 1))), om 43 66]
def c131_42 : LC := .seq c131_40 c131_41
def c131_43 : LC := .seq c131_28 c131_42
def c131_44 : LC := .seq c131_26 c131_43
def c131_45 : LC := .loop c131_44
def c131_46 : LC := .block 2 c131_45
def c131_47 : LC := .seq c131_25 c131_46
def c131_48 : LC := .seq c131_24 c131_47
def c131_49 : LC := .seq c131_1 c131_48
def c131_50 : LC := .seq c131_0 c131_49
def c131 : LF := .mk 67 c131_50 []
set_option maxRecDepth 100000 in
theorem low131 : lowFn Tryz.prog Tryz.f131 = some c131 := by kernel_rfl
def c132_0 : LC := .opsX [(ol 3 1, []), (om 4 0, []), (oo 5 (.chk (.t 4)), []), (oa 6 0 5, []), (oo 7 (.callX (.c (.fn 78 [])) [.t 3, .t 6]), [])]
def c132_1 : LC := .opsX [(ol 8 1, []), (om 9 0, []), (oo 10 (.chk (.t 9)), []), (oa 11 1 10, []), (oo 12 (.callX (.c (.fn 78 [])) [.t 8, .t 11]), [])]
def c132_2 : LC := .seq c132_0 c132_1
def c132 : LF := .mk 13 c132_2 []
set_option maxRecDepth 100000 in
theorem low132 : lowFn Tryz.prog Tryz.f132 = some c132 := by kernel_rfl
def c133_0 : LC := .ops [oo 2 (.mov (.c (.int .u64 0)))]
def c133_1 : LC := .ops [om 3 0, oo 4 (.eq .ptr true (.t 3) (.c .nilp))]
def c133_2 : LC := .ops [om 5 0, oo 6 (.chk (.t 5)), oa 7 1 6, .mk none none (.store 1 (.t 7) (.c (.bool true)))]
def c133_4 : LC := .cond (.t 4) c133_2 .skip
def c133_5 : LC := .seq c133_1 c133_4
def c133_6 : LC := .ops [oo 2 (.mov (.c (.int .u64 0)))]
def c133_8 : LC := .seq c133_6 .ret
def c133_9 : LC := .seq c133_5 c133_8
def c133_10 : LC := .seq c133_0 c133_9
def c133 : LF := .mk 8 c133_10 [.tmp 2]
set_option maxRecDepth 100000 in
theorem low133 : lowFn Tryz.prog Tryz.f133 = some c133 := by kernel_rfl
def c134_0 : LC := .ops [oo 2 (.mov (.c (.int .i64 0)))]
def c134_1 : LC := .ops [om 4 0, oo 5 (.call (.c (.fn 96 [])) [.t 4, .c (.int .u64 18446744073709551615)]), om 3 5]
def c134_2 : LC := .ops [om 6 3, oo 7 (.bin .shr (.t 6) (.c (.int .u64 1))), oo 8 (.conv .i64 (.t 7)), om 9 3, oo 10 (.bin .and (.t 9) (.c (.int .u64 1))), oo 11 (.conv .i64 (.t 10)), oo 12 (.un .neg (.t 11)), oo 13 (.bin .xor (.t 8) (.t 12)), om 2 13]
def c134_4 : LC := .seq c134_2 .ret
def c134_5 : LC := .seq c134_1 c134_4
def c134_6 : LC := .seq c134_0 c134_5
def c134 : LF := .mk 14 c134_6 [.tmp 2]
set_option maxRecDepth 100000 in
theorem low134 : lowFn Tryz.prog Tryz.f134 = some c134 := by kernel_rfl
def c135_0 : LC := .ops [om 4 0, om 5 1, oo 6 (.conv .u64 (.t 5)), oo 7 (.bin .shl (.t 6) (.c (.int .u64 1))), om 8 1, oo 9 (.bin .shr (.t 8) (.c (.int .u64 63))), oo 10 (.conv .u64 (.t 9)), oo 11 (.bin .xor (.t 7) (.t 10)), oo 12 (.call (.c (.fn 97 [])) [.t 4, .t 11])]
def c135 : LF := .mk 13 c135_0 []
set_option maxRecDepth 100000 in
theorem low135 : lowFn Tryz.prog Tryz.f135 = some c135 := by kernel_rfl
def c139_0 : LC := .ops [om 12 1, oo 13 (.chk (.t 12)), ol 14 13, on 15 14, oo 16 (.conv .u64 (.t 15)), oo 8 (.alloc [.int .u64 0]), .mk none none (.store 1 (.t 8) (.t 16))]
def c139_1 : LC := .ops [om 17 0, om 18 2, oo 19 (.conv .u64 (.t 18)), oo 20 (.call (.c (.fn 53 [])) [.t 17, .t 8, .t 19])]
def c139_2 : LC := .ops [om 21 0, oo 22 (.chk (.t 21)), oa 23 1 22, ol 24 23, oo 25 (.eq .ptr false (.t 24) (.c .nilp))]
def c139_3 : LC := .ops [om 26 1, oo 27 (.chk (.t 26)), ol 28 27, on 29 28, oo 30 (.mov (.c (.int .i64 0)))]
def c139_4 : LC := .ops [oo 31 (.bin .lss (.t 30) (.t 29))]
def c139_6 : LC := .cond (.t 31) .skip (.exit 0)
def c139_7 : LC := .ops [om 32 30, om 9 32]
def c139_8 : LC := .ops [om 33 1, oo 34 (.chk (.t 33)), ol 35 34, om 36 9, oo 37 (.iaddr 3 (.t 35) (.t 36)), oo 38 (.load (some 3) (.t 37)), oo 10 (.alloc [.int .i64 0, .int .i64 0, .int .i64 0]), .mk none none (.store 3 (.t 10) (.t 38))]
def c139_9 : LC := .ops [om 39 3, oo 40 (.call (.t 39) [.t 10])]
def c139_10 : LC := .seq c139_8 c139_9
def c139_11 : LC := .seq c139_7 c139_10
def c139_12 : LC := .block 1 c139_11
def c139_13 : LC := .ops [oo 41 (.bin .add (.t 30) (.c (.int .i64 1))), om 30 41]
def c139_14 : LC := .seq c139_12 c139_13
def c139_15 : LC := .seq c139_6 c139_14
def c139_16 : LC := .seq c139_4 c139_15
def c139_17 : LC := .loop c139_16
def c139_18 : LC := .block 0 c139_17
def c139_19 : LC := .seq c139_3 c139_18
def c139_21 : LC := .seq c139_19 .ret
def c139_23 : LC := .cond (.t 25) c139_21 .skip
def c139_24 : LC := .seq c139_2 c139_23
def c139_25 : LC := .ops [ol 42 8, oo 43 (.mov (.c (.int .u64 0)))]
def c139_26 : LC := .ops [oo 44 (.bin .lss (.t 43) (.t 42))]
def c139_28 : LC := .cond (.t 44) .skip (.exit 2)
def c139_29 : LC := .ops [oo 11 (.alloc [.int .i64 0, .int .i64 0, .int .i64 0])]
def c139_30 : LC := .ops [om 45 3, oo 46 (.call (.t 45) [.t 11])]
def c139_31 : LC := .ops [om 47 0, oo 48 (.chk (.t 47)), oa 49 1 48, ol 50 49, oo 51 (.call (.c (.fn 98 [])) [.t 50]), om 52 51, gm 53 52 false 0, og 54 52 false (.chk (.t 53)), ga 55 52 false 2 54, gl 56 52 false 55, oo 57 (.pick (.t 52) (.c (.bool true)) (.t 56))]
def c139_34 : LC := .cond (.t 57) .ret .skip
def c139_35 : LC := .seq c139_31 c139_34
def c139_36 : LC := .opsX [(om 58 1, []), (om 59 1, []), (oo 60 (.chk (.t 59)), []), (ol 61 60, []), (oo 62 (.load (some 3) (.t 11)), []), (oo 63 (.slit 3 [.t 62]), []), (oo 64 (.app 3 24 (.t 61) (.t 63)), []), (oo 65 (.chk (.t 58)), []), (.mk none none (.store 1 (.t 65) (.t 64)), [])]
def c139_37 : LC := .seq c139_35 c139_36
def c139_38 : LC := .seq c139_30 c139_37
def c139_39 : LC := .seq c139_29 c139_38
def c139_40 : LC := .block 3 c139_39
def c139_41 : LC := .ops [oo 66 (.bin .add (.t 43) (.c (.int .u64 1))), om 43 66]
def c139_42 : LC := .seq c139_40 c139_41
def c139_43 : LC := .seq c139_28 c139_42
def c139_44 : LC := .seq c139_26 c139_43
def c139_45 : LC := .loop c139_44
def c139_46 : LC := .block 2 c139_45
def c139_47 : LC := .seq c139_25 c139_46
def c139_48 : LC := .seq c139_24 c139_47
def c139_49 : LC := .seq c139_1 c139_48
def c139_50 : LC := .seq c139_0 c139_49
def c139 : LF := .mk 67 c139_50 []
set_option maxRecDepth 100000 in
theorem low139 : lowFn Tryz.prog Tryz.f139 = some c139 := by kernel_rfl
def c140_0 : LC := .opsX [(ol 3 1, []), (om 4 0, []), (oo 5 (.chk (.t 4)), []), (oa 6 0 5, []), (oo 7 (.callX (.c (.fn 57 [])) [.t 3, .t 6, .c (.int .u64 127)]), [])]
def c140_1 : LC := .opsX [(ol 8 1, []), (om 9 0, []), (oo 10 (.chk (.t 9)), []), (oa 11 1 10, []), (oo 12 (.callX (.c (.fn 57 [])) [.t 8, .t 11, .c (.int .u64 1440)]), [])]
def c140_2 : LC := .opsX [(ol 13 1, []), (om 14 0, []), (oo 15 (.chk (.t 14)), []), (oa 16 2 15, []), (oo 17 (.callX (.c (.fn 57 [])) [.t 13, .t 16, .c (.int .u64 1440)]), [])]
def c140_3 : LC := .seq c140_1 c140_2
def c140_4 : LC := .seq c140_0 c140_3
def c140 : LF := .mk 18 c140_4 []
set_option maxRecDepth 100000 in
theorem low140 : lowFn Tryz.prog Tryz.f140 = some c140 := by kernel_rfl
end Go.Proofs.YtgefljdclekadaaGreat
