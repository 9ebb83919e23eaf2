import Derived.Test.YtgefljdclekadaaGreatVi25
import Derived.Test.YtgefljdclekadaaGreatProg
set_option linter.unusedVariables false
set_option linter.unusedSimpArgs false
namespace Go.Proofs.YtgefljdclekadaaGreat
open Go Go.Vi
set_option maxRecDepth 100000
def c3_0 : LC := .ops [oo 1 (.box (.t 0)), oo 2 (.mov (.c (.bool false)))]
def c3_1 : LC := .ops [oo 9 (.load (some 20) (.t 1)), kc 10 5 [.t 9]]
def c3_2 : LC := .ops [kc 11 6 [], om 2 11]
def c3_8 : LC := .ops [oo 13 (.load (some 20) (.t 1)), kc 14 7 [.t 13], om 12 14, oo 15 (.ext 0 (.t 12)), oo 16 (.ext 1 (.t 12)), om 3 15, om 4 16]
def c3_9 : LC := .ops [oo 18 (.load (some 20) (.t 1)), kc 19 8 [.t 18], om 17 19, oo 20 (.ext 0 (.t 17)), oo 21 (.ext 1 (.t 17)), om 5 20, om 6 21]
def c3_10 : LC := .ops [om 22 4, om 23 6, oo 24 (.eq .bool true (.t 22) (.t 23)), om 25 24, gm 26 25 false 3, og 27 25 false (.b2s (.t 26)), gm 28 25 false 5, og 29 25 false (.bin .neq (.t 27) (.t 28)), pt 30 25 29]
def c3_11 : LC := .ops [oo 2 (.mov (.c (.bool false)))]
def c3_17 : LC := .ops [om 31 6, oo 32 (.un .not (.t 31))]
def c3_18 : LC := .ops [kc 33 6 [], om 2 33]
def c3_24 : LC := .ops [om 35 3, kc 36 9 [.t 35], om 34 36, oo 37 (.ext 0 (.t 34)), oo 38 (.ext 1 (.t 34)), oo 7 (.alloc [.int .i64 0, .int .u64 0, .list (some true) true [], .str (ByteArray.mk (Array.mk [])), .int .u32 0, .int .u32 0, .int .i64 0, .int .i64 0, .int .i64 0, .int .i64 0, .list (some true) true [], .list (some true) true [], .int .i64 0, .list (some true) true [], .list (some true) true [], .list (some true) true [], .list (some true) true [], .int .i64 0, .int .i64 0, .int .i64 0]), .mk none none (.store 20 (.t 7) (.t 37)), om 8 38]
def c3_25 : LC := .ops [kc 39 6 [], om 40 39, gm 41 40 true 8, pf 42 40 41, om 43 42, og 44 43 true (.load (some 20) (.t 7)), og 45 43 true (.load (some 20) (.t 1)), gk 46 43 true 10 [.t 44, .t 45], pf 47 43 46, om 2 47]
def c3_34 : LC := .seq c3_0 (.seq (.seq c3_1 (.cond (.t 10) (.seq c3_2 .ret) .skip)) (.seq c3_8 (.seq c3_9 (.seq (.seq c3_10 (.cond (.t 30) (.seq c3_11 .ret) .skip)) (.seq (.seq c3_17 (.cond (.t 32) (.seq c3_18 .ret) .skip)) (.seq c3_24 (.seq c3_25 .ret)))))))
def c3 : LF := .mk 48 c3_34 [.tmp 2]
def c4_0 : LC := .ops [oo 2 (.box (.t 0)), oo 3 (.box (.t 1)), oo 4 (.mov (.c (.bool false)))]
def c4_1 : LC := .ops [oo 11 (.load (some 4) (.t 2)), kc 12 11 [.t 11], om 13 12, og 14 13 false (.load (some 4) (.t 3)), gk 15 13 false 11 [.t 14], pt 16 13 15]
def c4_2 : LC := .ops [kc 17 6 [], om 4 17]
def c4_8 : LC := .ops [oo 19 (.load (some 4) (.t 2)), kc 20 12 [.t 19], om 18 20, oo 21 (.ext 0 (.t 18)), oo 22 (.ext 1 (.t 18)), om 5 21, om 6 22]
def c4_9 : LC := .ops [oo 24 (.load (some 4) (.t 2)), kc 25 13 [.t 24], om 23 25, oo 26 (.ext 0 (.t 23)), oo 27 (.ext 1 (.t 23)), om 7 26, om 8 27]
def c4_10 : LC := .opsX [(om 28 6, []), (om 29 8, []), (oo 30 (.eq .bool true (.t 28) (.t 29)), []), (om 31 30, []), (gm 32 31 false 5, []), (og 33 31 false (.b2s (.t 32)), []), (gm 34 31 false 7, []), (og 35 31 false (.bin .neq (.t 33) (.t 34)), []), (pt 36 31 35, []), (om 37 36, []), (og 38 37 false (.load (some 4) (.t 2)), []), (og 39 37 false (.load (some 4) (.t 3)), []), (og 40 37 false (.callX (.c (.fn 14 [])) [.t 38, .t 39]), [2, 3]), (og 41 37 false (.load (some 4) (.t 2)), []), (og 42 37 false (.load (some 4) (.t 3)), []), (og 43 37 false (.callX (.c (.fn 15 [])) [.t 41, .t 42]), []), (og 44 37 false (.eq .bool true (.t 40) (.t 43)), []), (pt 45 37 44, []), (om 46 45, []), (og 47 46 false (.load (some 4) (.t 2)), []), (og 48 46 false (.load (some 4) (.t 2)), []), (og 49 46 false (.callX (.c (.fn 14 [])) [.t 47, .t 48]), []), (og 50 46 false (.un .not (.t 49)), []), (pt 51 46 50, [])]
def c4_11 : LC := .ops [oo 4 (.mov (.c (.bool false)))]
def c4_17 : LC := .ops [om 52 8, oo 53 (.un .not (.t 52))]
def c4_18 : LC := .ops [kc 54 6 [], om 4 54]
def c4_24 : LC := .ops [om 56 5, kc 57 16 [.t 56], om 55 57, oo 58 (.ext 0 (.t 55)), oo 59 (.ext 1 (.t 55)), oo 9 (.alloc [.int .i64 0, .list (some true) true [], .list (some true) true [], .list (some true) true []]), .mk none none (.store 4 (.t 9) (.t 58)), om 10 59]
def c4_25 : LC := .ops [kc 60 6 [], om 61 60, gm 62 61 true 10, pf 63 61 62, om 64 63, og 65 64 true (.load (some 4) (.t 9)), og 66 64 true (.load (some 4) (.t 2)), gk 67 64 true 15 [.t 65, .t 66], pf 68 64 67, om 4 68]
def c4_34 : LC := .seq c4_0 (.seq (.seq c4_1 (.cond (.t 16) (.seq c4_2 .ret) .skip)) (.seq c4_8 (.seq c4_9 (.seq (.seq c4_10 (.cond (.t 51) (.seq c4_11 .ret) .skip)) (.seq (.seq c4_17 (.cond (.t 53) (.seq c4_18 .ret) .skip)) (.seq c4_24 (.seq c4_25 .ret)))))))
def c4 : LF := .mk 69 c4_34 [.tmp 4]
theorem low4 : aH Tryz.prog Tryz.f4 = some c4 := by kernel_rfl
def c5_0 : LC := .ops [oo 1 (.box (.t 0)), oo 2 (.mov (.c (.bool false)))]
def c5_1 : LC := .ops [oa 3 2 1, ol 4 3, on 5 4, oo 6 (.bin .gtr (.t 5) (.c (.int .i64 150))), om 7 6, ga 8 7 false 3 1, gl 9 7 false 8, og 10 7 false (.len true (.t 9)), og 11 7 false (.bin .gtr (.t 10) (.c (.int .i64 200))), pt 12 7 11, om 13 12, ga 14 13 false 4 1, og 15 13 false (.load (some 16) (.t 14)), gk 16 13 false 17 [.t 15], pt 17 13 16, om 2 17]
def c5_4 : LC := .seq c5_0 (.seq c5_1 .ret)
def c5 : LF := .mk 18 c5_4 [.tmp 2]
def c6_0 : LC := .ops [oo 0 (.mov (.c (.bool false)))]
def c6_1 : LC := .ops [oo 4 (.build [.int .i64 0, .int .u32 0, .int .u64 0, .int .u32 0, .int .u32 0, .int .i64 0, .list (some true) true [], .list (some true) true [], .list (some true) true [], .int .i64 0, .int .i64 0, .int .i64 0, .int .i64 0, .bool false, .bool false, .int .i64 0, .int .i64 0, .int .i64 0, .int .i64 0, .list (some true) true [], .list (some true) true [], .list (some true) true [], .list (some true) true [], .int .i64 0, .list (some true) true [], .list (some true) true [], .list (some true) true [], .int .i64 0, .int .i64 0, .int .i64 0, .int .i64 0, .list (some true) true [], .list (some true) true [], .int .i64 0, .list (some true) true [], .list (some true) true [], .str (ByteArray.mk (Array.mk [])), .int .i64 0, .int .u32 0, .int .i64 0, .bool false, .int .i64 0] [(0, 1, .c (.int .i64 2)), (1, 1, .c (.int .u32 5)), (3, 1, .c (.int .u32 5)), (2, 1, .c (.int .u64 7))]), kc 5 18 [.t 4], om 3 5, oo 6 (.ext 0 (.t 3)), oo 7 (.ext 1 (.t 3)), om 1 6, om 2 7]
def c6_2 : LC := .ops [om 8 2, om 9 8, gm 10 9 true 1, og 11 9 true (.b2s (.t 10)), og 12 9 true (.bin .eql (.t 11) (.c (.str (ByteArray.mk (Array.mk [UInt8.ofNat 2, UInt8.ofNat 5, UInt8.ofNat 7]))))), pf 13 9 12, om 0 13]
def c6_6 : LC := .seq c6_0 (.seq c6_1 (.seq c6_2 .ret))
def c6 : LF := .mk 14 c6_6 [.tmp 0]
theorem low6 : aH Tryz.prog Tryz.f6 = some c6 := by kernel_rfl
def c7_0 : LC := .ops [oo 1 (.box (.t 0)), oo 2 (.mov (.c (.list (some true) true []))), oo 3 (.mov (.c (.bool false)))]
def c7_1 : LC := .ops [kc 9 19 [], oo 10 (.build [.nilp, .nilp, .bool false] [(0, 1, .t 9)]), oo 11 (.box (.t 10)), om 4 11]
def c7_2 : LC := .ops [om 12 4, kc 13 20 [.t 12, .t 1]]
def c7_3 : LC := .ops [om 15 4, kc 16 21 [.t 15, .c (.int .i64 65536)], om 14 16, oo 17 (.ext 0 (.t 14)), oo 18 (.ext 1 (.t 14)), om 5 17, om 6 18]
def c7_4 : LC := .ops [om 19 6, oo 20 (.un .not (.t 19))]
def c7_5 : LC := .ops [oo 2 (.mov (.c (.list (some true) true []))), oo 3 (.mov (.c (.bool false)))]
def c7_11 : LC := .ops [om 22 5, kc 23 9 [.t 22], om 21 23, oo 24 (.ext 0 (.t 21)), oo 25 (.ext 1 (.t 21)), oo 7 (.alloc [.int .i64 0, .int .u64 0, .list (some true) true [], .str (ByteArray.mk (Array.mk [])), .int .u32 0, .int .u32 0, .int .i64 0, .int .i64 0, .int .i64 0, .int .i64 0, .list (some true) true [], .list (some true) true [], .int .i64 0, .list (some true) true [], .list (some true) true [], .list (some true) true [], .list (some true) true [], .int .i64 0, .int .i64 0, .int .i64 0]), .mk none none (.store 20 (.t 7) (.t 24)), om 8 25]
def c7_12 : LC := .ops [om 26 8, oo 27 (.un .not (.t 26)), om 28 27, og 29 28 false (.load (some 20) (.t 7)), og 30 28 false (.load (some 20) (.t 1)), gk 31 28 false 22 [.t 29, .t 30], og 32 28 false (.un .not (.t 31)), pt 33 28 32]
def c7_13 : LC := .ops [oo 2 (.mov (.c (.list (some true) true []))), oo 3 (.mov (.c (.bool false)))]
def c7_20 : LC := .ops [om 34 5, om 2 34, oo 3 (.mov (.c (.bool true)))]
def c7_28 : LC := .seq c7_0 (.seq c7_1 (.seq c7_2 (.seq c7_3 (.seq (.seq c7_4 (.cond (.t 20) (.seq c7_5 .ret) .skip)) (.seq (.seq c7_11 (.seq c7_12 (.cond (.t 33) (.seq c7_13 .ret) .skip))) (.seq c7_20 .ret))))))
def c7 : LF := .mk 35 c7_28 [.tmp 2, .tmp 3]
def c8_0 : LC := .ops [oo 1 (.box (.t 0)), oo 2 (.mov (.c (.str (ByteArray.mk (Array.mk []))))), oo 3 (.mov (.c (.bool false)))]
def c8_1 : LC := .opsX [(oo 6 (.build [.str (ByteArray.mk (Array.mk [])), .bool false] []), []), (oa 7 0 1, []), (ol 8 7, []), (kc 9 23 [.t 6, .t 8, .c (.int .i64 13)], []), (oa 10 1 1, []), (ol 11 10, []), (kc 12 24 [.t 9, .t 11], []), (oa 13 2 1, []), (ol 14 13, []), (on 15 14, []), (kc 16 23 [.t 12, .t 15, .c (.int .i64 100)], []), (oo 4 (.alloc [.str (ByteArray.mk (Array.mk [])), .bool false]), [7, 6, 8, 10, 9, 11, 13, 12, 15]), (.mk none none (.store 2 (.t 4) (.t 16)), [])]
def c8_2 : LC := .ops [oa 17 2 1, ol 18 17, on 19 18, oo 20 (.mov (.c (.int .i64 0)))]
def c8_3 : LC := .ops [kb 21 .lss 20 19]
def c8_6 : LC := .ops [om 22 20, om 5 22]
def c8_7 : LC := .opsX [(oo 23 (.load (some 2) (.t 4)), []), (oa 24 2 1, []), (ol 25 24, []), (om 26 5, []), (oo 27 (.iaddr 3 (.t 25) (.t 26)), []), (oa 28 0 27, []), (ol 29 28, []), (kx 30 25 [.t 23, .t 29], [31, 35, 38, 42]), (oa 31 2 1, []), (ol 32 31, []), (om 33 5, []), (oo 34 (.iaddr 3 (.t 32) (.t 33)), []), (oa 35 1 34, []), (ol 36 35, []), (kx 37 23 [.t 30, .t 36, .c (.int .i64 100000)], [38, 42]), (oa 38 2 1, []), (ol 39 38, []), (om 40 5, []), (oo 41 (.iaddr 3 (.t 39) (.t 40)), []), (oa 42 2 41, []), (ol 43 42, []), (kx 44 23 [.t 37, .t 43, .c (.int .i64 100)], []), (.mk none none (.store 2 (.t 4) (.t 44)), [])]
def c8_10 : LC := .ops [oo 45 (.bin .add (.t 20) (.c (.int .i64 1))), om 20 45]
def c8_17 : LC := .opsX [(oo 46 (.load (some 2) (.t 4)), []), (oa 47 3 1, []), (ol 48 47, []), (kx 49 26 [.t 46, .t 48, .c (.int .i64 64)], [51]), (oa 50 4 1, []), (oa 51 0 50, []), (ol 52 51, []), (oo 53 (.bin .neq (.t 52) (.c (.int .u32 0))), []), (kx 54 27 [.t 49, .t 53], []), (.mk none none (.store 2 (.t 4) (.t 54)), [])]
def c8_18 : LC := .ops [oa 55 4 1, oa 56 0 55, ol 57 56, oo 58 (.bin .neq (.t 57) (.c (.int .u32 0)))]
def c8_19 : LC := .ops [oo 59 (.load (some 2) (.t 4)), oa 60 4 1, oo 61 (.load (some 16) (.t 60)), kc 62 28 [.t 59, .t 61], .mk none none (.store 2 (.t 4) (.t 62))]
def c8_20 : LC := .ops [oa 63 4 1, oo 64 (.load (some 16) (.t 63)), oo 65 (.build [.int .u32 0, .int .u32 0, .int .i64 0, .int .i64 0, .int .i64 0, .int .i64 0, .list (some true) true [], .list (some true) true [], .int .i64 0, .list (some true) true [], .list (some true) true [], .list (some true) true [], .list (some true) true [], .int .i64 0, .int .i64 0, .int .i64 0] []), kc 66 29 [.t 64, .t 65], oo 67 (.un .not (.t 66))]
def c8_21 : LC := .ops [oo 2 (.mov (.c (.str (ByteArray.mk (Array.mk []))))), oo 3 (.mov (.c (.bool false)))]
def c8_29 : LC := .ops [oa 68 1 4, ol 69 68, om 70 69, ga 71 70 false 0 4, gl 72 70 false 71, og 73 70 false (.len true (.t 72)), og 74 70 false (.bin .gtr (.t 73) (.c (.int .i64 65536))), pt 75 70 74]
def c8_30 : LC := .ops [oo 2 (.mov (.c (.str (ByteArray.mk (Array.mk []))))), oo 3 (.mov (.c (.bool false)))]
def c8_36 : LC := .ops [oa 76 0 4, ol 77 76, om 2 77, oo 3 (.mov (.c (.bool true)))]
def c8_44 : LC := .seq c8_0 (.seq c8_1 (.seq (.seq c8_2 (.block 0 (.loop (.seq c8_3 (.seq (.cond (.t 21) .skip (.exit 0)) (.seq (.block 1 (.seq c8_6 c8_7)) c8_10)))))) (.seq c8_17 (.seq (.seq c8_18 (.cond (.t 58) c8_19 (.seq c8_20 (.cond (.t 67) (.seq c8_21 .ret) .skip)))) (.seq (.seq c8_29 (.cond (.t 75) (.seq c8_30 .ret) .skip)) (.seq c8_36 .ret))))))
def c8 : LF := .mk 78 c8_44 [.tmp 2, .tmp 3]
def c9_0 : LC := .ops [oo 2 (.alloc [.int .i64 0, .int .u64 0, .list (some true) true [], .str (ByteArray.mk (Array.mk [])), .int .u32 0, .int .u32 0, .int .i64 0, .int .i64 0, .int .i64 0, .int .i64 0, .list (some true) true [], .list (some true) true [], .int .i64 0, .list (some true) true [], .list (some true) true [], .list (some true) true [], .list (some true) true [], .int .i64 0, .int .i64 0, .int .i64 0]), oo 3 (.mov (.c (.bool false)))]
def c9_1 : LC := .ops [om 6 0, kc 7 30 [.t 6], oo 8 (.build [.nilp, .nilp, .bool false] [(1, 1, .t 7)]), oo 9 (.box (.t 8)), om 4 9]
def c9_2 : LC := .ops [oo 5 (.alloc [.int .i64 0, .int .u64 0, .list (some true) true [], .str (ByteArray.mk (Array.mk [])), .int .u32 0, .int .u32 0, .int .i64 0, .int .i64 0, .int .i64 0, .int .i64 0, .list (some true) true [], .list (some true) true [], .int .i64 0, .list (some true) true [], .list (some true) true [], .list (some true) true [], .list (some true) true [], .int .i64 0, .int .i64 0, .int .i64 0])]
def c9_3 : LC := .ops [om 10 4, kc 11 20 [.t 10, .t 5]]
def c9_4 : LC := .ops [om 12 4, om 13 0, kc 14 31 [.t 12, .t 13, .c (.int .i64 65536)], oo 15 (.un .not (.t 14))]
def c9_5 : LC := .ops [oo 16 (.build [.int .i64 0, .int .u64 0, .list (some true) true [], .str (ByteArray.mk (Array.mk [])), .int .u32 0, .int .u32 0, .int .i64 0, .int .i64 0, .int .i64 0, .int .i64 0, .list (some true) true [], .list (some true) true [], .int .i64 0, .list (some true) true [], .list (some true) true [], .list (some true) true [], .list (some true) true [], .int .i64 0, .int .i64 0, .int .i64 0] []), .mk none none (.store 20 (.t 2) (.t 16)), oo 3 (.mov (.c (.bool false)))]
def c9_11 : LC := .ops [oo 17 (.load (some 20) (.t 5)), .mk none none (.store 20 (.t 2) (.t 17)), oo 3 (.mov (.c (.bool true)))]
def c9_18 : LC := .seq c9_0 (.seq c9_1 (.seq c9_2 (.seq c9_3 (.seq (.seq c9_4 (.cond (.t 15) (.seq c9_5 .ret) .skip)) (.seq c9_11 .ret)))))
def c9 : LF := .mk 18 c9_18 [.cell 2 (some 20), .tmp 3]
def c10_0 : LC := .ops [oo 2 (.box (.t 0)), oo 3 (.box (.t 1)), oo 4 (.mov (.c (.bool false)))]
def c10_1 : LC := .ops [oa 6 0 2, ol 7 6, oa 8 0 3, ol 9 8, kb 10 .neq 7 9, om 11 10, ga 12 11 false 1 2, gl 13 11 false 12, ga 14 11 false 1 3, gl 15 11 false 14, og 16 11 false (.bin .neq (.t 13) (.t 15)), pt 17 11 16, om 18 17, ga 19 18 false 3 2, gl 20 18 false 19, ga 21 18 false 3 3, gl 22 18 false 21, og 23 18 false (.bin .neq (.t 20) (.t 22)), pt 24 18 23, om 25 24, ga 26 25 false 2 2, gl 27 25 false 26, og 28 25 false (.len false (.t 27)), ga 29 25 false 2 3, gl 30 25 false 29, og 31 25 false (.len false (.t 30)), og 32 25 false (.bin .neq (.t 28) (.t 31)), pt 33 25 32]
def c10_2 : LC := .ops [oo 4 (.mov (.c (.bool false)))]
def c10_8 : LC := .ops [oa 34 2 2, ol 35 34, on 36 35, oo 37 (.mov (.c (.int .i64 0)))]
def c10_9 : LC := .ops [kb 38 .lss 37 36]
def c10_12 : LC := .ops [om 39 37, om 5 39]
def c10_13 : LC := .opsX [(oa 40 2 2, []), (ol 41 40, []), (om 42 5, []), (oo 43 (.iaddr 3 (.t 41) (.t 42)), []), (oo 44 (.load (some 3) (.t 43)), []), (oa 45 2 3, []), (ol 46 45, []), (om 47 5, []), (oo 48 (.iaddr 3 (.t 46) (.t 47)), []), (oo 49 (.load (some 3) (.t 48)), []), (oo 50 (.eq (.row [.int, .int, .int]) true (.t 44) (.t 49)), [])]
def c10_14 : LC := .ops [oo 4 (.mov (.c (.bool false)))]
def c10_22 : LC := .ops [oo 51 (.bin .add (.t 37) (.c (.int .i64 1))), om 37 51]
def c10_29 : LC := .ops [oa 52 4 2, oo 53 (.load (some 16) (.t 52)), oa 54 4 3, oo 55 (.load (some 16) (.t 54)), kc 56 29 [.t 53, .t 55], om 4 56]
def c10_34 : LC := .seq c10_0 (.seq (.seq c10_1 (.cond (.t 33) (.seq c10_2 .ret) .skip)) (.seq (.seq c10_8 (.block 0 (.loop (.seq c10_9 (.seq (.cond (.t 38) .skip (.exit 0)) (.seq (.block 1 (.seq c10_12 (.seq c10_13 (.cond (.t 50) (.seq c10_14 .ret) .skip)))) c10_22)))))) (.seq c10_29 .ret)))
def c10 : LF := .mk 57 c10_34 [.tmp 4]
def c11_0 : LC := .ops [oo 1 (.box (.t 0)), oo 2 (.mov (.c (.bool false)))]
def c11_1 : LC := .ops [oa 7 1 1, ol 8 7, on 9 8, oo 10 (.bin .gtr (.t 9) (.c (.int .i64 12))), om 11 10, ga 12 11 false 2 1, gl 13 11 false 12, og 14 11 false (.len false (.t 13)), og 15 11 false (.bin .gtr (.t 14) (.c (.int .i64 8))), pt 16 11 15, om 17 16, ga 18 17 false 3 1, gl 19 17 false 18, og 20 17 false (.len false (.t 19)), og 21 17 false (.bin .gtr (.t 20) (.c (.int .i64 100))), pt 22 17 21]
def c11_2 : LC := .ops [oo 2 (.mov (.c (.bool true)))]
def c11_8 : LC := .ops [oa 23 1 1, ol 24 23, on 25 24, oo 26 (.mov (.c (.int .i64 0)))]
def c11_9 : LC := .ops [kb 27 .lss 26 25]
def c11_12 : LC := .ops [om 28 26, om 3 28]
def c11_13 : LC := .ops [oa 29 1 1, ol 30 29, om 31 3, oo 32 (.iaddr 9 (.t 30) (.t 31)), oo 33 (.load (some 9) (.t 32)), oo 4 (.alloc [.int .u32 0, .int .i64 0, .list (some true) true [], .list (some true) true [], .list (some true) true [], .int .i64 0, .int .i64 0, .int .u64 0, .list (some true) true []]), .mk none none (.store 9 (.t 4) (.t 33))]
def c11_14 : LC := .ops [oa 34 1 4, oo 35 (.load (some 6) (.t 34)), kc 36 32 [.t 35], om 37 36, ga 38 37 false 8 4, gl 39 37 false 38, og 40 37 false (.len false (.t 39)), og 41 37 false (.bin .gtr (.t 40) (.c (.int .i64 10))), pt 42 37 41]
def c11_15 : LC := .ops [oo 2 (.mov (.c (.bool true)))]
def c11_21 : LC := .ops [oa 43 8 4, ol 44 43, on 45 44, oo 46 (.mov (.c (.int .i64 0)))]
def c11_22 : LC := .ops [kb 47 .lss 46 45]
def c11_25 : LC := .ops [om 48 46, om 5 48]
def c11_26 : LC := .ops [oa 49 8 4, ol 50 49, om 51 5, oo 52 (.iaddr 17 (.t 50) (.t 51)), oa 53 1 52, oo 54 (.load (some 16) (.t 53)), kc 55 33 [.t 54]]
def c11_27 : LC := .ops [oo 2 (.mov (.c (.bool true)))]
def c11_35 : LC := .ops [oo 56 (.bin .add (.t 46) (.c (.int .i64 1))), om 46 56]
def c11_46 : LC := .ops [oo 57 (.bin .add (.t 26) (.c (.int .i64 1))), om 26 57]
def c11_53 : LC := .ops [oa 58 2 1, ol 59 58, on 60 59, oo 61 (.mov (.c (.int .i64 0)))]
def c11_54 : LC := .ops [kb 62 .lss 61 60]
def c11_57 : LC := .ops [om 63 61, om 6 63]
def c11_58 : LC := .ops [oa 64 2 1, ol 65 64, om 66 6, oo 67 (.iaddr 16 (.t 65) (.t 66)), oo 68 (.load (some 16) (.t 67)), kc 69 17 [.t 68]]
def c11_59 : LC := .ops [oo 2 (.mov (.c (.bool true)))]
def c11_67 : LC := .ops [oo 70 (.bin .add (.t 61) (.c (.int .i64 1))), om 61 70]
def c11_74 : LC := .ops [oo 2 (.mov (.c (.bool false)))]
def c11_80 : LC := .seq c11_0 (.seq (.seq c11_1 (.cond (.t 22) (.seq c11_2 .ret) .skip)) (.seq (.seq c11_8 (.block 0 (.loop (.seq c11_9 (.seq (.cond (.t 27) .skip (.exit 0)) (.seq (.block 1 (.seq c11_12 (.seq c11_13 (.seq (.seq c11_14 (.cond (.t 42) (.seq c11_15 .ret) .skip)) (.seq c11_21 (.block 2 (.loop (.seq c11_22 (.seq (.cond (.t 47) .skip (.exit 2)) (.seq (.block 3 (.seq c11_25 (.seq c11_26 (.cond (.t 55) (.seq c11_27 .ret) .skip)))) c11_35)))))))))) c11_46)))))) (.seq (.seq c11_53 (.block 4 (.loop (.seq c11_54 (.seq (.cond (.t 62) .skip (.exit 4)) (.seq (.block 5 (.seq c11_57 (.seq c11_58 (.cond (.t 69) (.seq c11_59 .ret) .skip)))) c11_67)))))) (.seq c11_74 .ret))))
def c11 : LF := .mk 71 c11_80 [.tmp 2]
theorem low11 : aH Tryz.prog Tryz.f11 = some c11 := by kernel_rfl
def c12_0 : LC := .ops [oo 1 (.box (.t 0)), oo 2 (.mov (.c (.list (some true) true []))), oo 3 (.mov (.c (.bool false)))]
def c12_1 : LC := .ops [kc 9 19 [], oo 10 (.build [.nilp, .nilp, .bool false] [(0, 1, .t 9)]), oo 11 (.box (.t 10)), om 4 11]
def c12_2 : LC := .ops [om 12 4, kc 13 34 [.t 12, .t 1]]
def c12_3 : LC := .ops [om 15 4, kc 16 21 [.t 15, .c (.int .i64 1048576)], om 14 16, oo 17 (.ext 0 (.t 14)), oo 18 (.ext 1 (.t 14)), om 5 17, om 6 18]
def c12_4 : LC := .ops [om 19 6, oo 20 (.un .not (.t 19))]
def c12_5 : LC := .ops [oo 2 (.mov (.c (.list (some true) true []))), oo 3 (.mov (.c (.bool false)))]
def c12_11 : LC := .ops [om 22 5, kc 23 16 [.t 22], om 21 23, oo 24 (.ext 0 (.t 21)), oo 25 (.ext 1 (.t 21)), oo 7 (.alloc [.int .i64 0, .list (some true) true [], .list (some true) true [], .list (some true) true []]), .mk none none (.store 4 (.t 7) (.t 24)), om 8 25]
def c12_12 : LC := .ops [om 26 8, oo 27 (.un .not (.t 26)), om 28 27, og 29 28 false (.load (some 4) (.t 7)), og 30 28 false (.load (some 4) (.t 1)), gk 31 28 false 14 [.t 29, .t 30], og 32 28 false (.un .not (.t 31)), pt 33 28 32]
def c12_13 : LC := .ops [oo 2 (.mov (.c (.list (some true) true []))), oo 3 (.mov (.c (.bool false)))]
def c12_20 : LC := .ops [om 34 5, om 2 34, oo 3 (.mov (.c (.bool true)))]
def c12_28 : LC := .seq c12_0 (.seq c12_1 (.seq c12_2 (.seq c12_3 (.seq (.seq c12_4 (.cond (.t 20) (.seq c12_5 .ret) .skip)) (.seq (.seq c12_11 (.seq c12_12 (.cond (.t 33) (.seq c12_13 .ret) .skip))) (.seq c12_20 .ret))))))
def c12 : LF := .mk 35 c12_28 [.tmp 2, .tmp 3]
theorem low12 : aH Tryz.prog Tryz.f12 = some c12 := by kernel_rfl
def c13_0 : LC := .ops [oo 1 (.box (.t 0)), oo 2 (.mov (.c (.str (ByteArray.mk (Array.mk []))))), oo 3 (.mov (.c (.bool false)))]
def c13_1 : LC := .opsX [(oo 10 (.build [.str (ByteArray.mk (Array.mk [])), .bool false] []), []), (oa 11 0 1, []), (ol 12 11, []), (kc 13 25 [.t 10, .t 12], []), (oa 14 1 1, []), (ol 15 14, []), (on 16 15, []), (kc 17 23 [.t 13, .t 16, .c (.int .i64 100)], []), (oo 4 (.alloc [.str (ByteArray.mk (Array.mk [])), .bool false]), [11, 10, 12, 14, 13, 16]), (.mk none none (.store 2 (.t 4) (.t 17)), [])]
def c13_2 : LC := .ops [oa 18 1 1, ol 19 18, on 20 19, oo 21 (.mov (.c (.int .i64 0)))]
def c13_3 : LC := .ops [kb 22 .lss 21 20]
def c13_6 : LC := .ops [om 23 21, om 5 23]
def c13_7 : LC := .ops [oa 24 1 1, ol 25 24, om 26 5, oo 27 (.iaddr 9 (.t 25) (.t 26)), oo 28 (.load (some 9) (.t 27)), oo 6 (.alloc [.int .u32 0, .int .i64 0, .list (some true) true [], .list (some true) true [], .list (some true) true [], .int .i64 0, .int .i64 0, .int .u64 0, .list (some true) true []]), .mk none none (.store 9 (.t 6) (.t 28))]
def c13_8 : LC := .opsX [(oo 29 (.load (some 2) (.t 4)), []), (oa 30 0 6, []), (ol 31 30, []), (oo 32 (.conv .u64 (.t 31)), []), (kx 33 24 [.t 29, .t 32], [34, 37, 40]), (oa 34 1 6, []), (oo 35 (.load (some 6) (.t 34)), []), (kx 36 35 [.t 33, .t 35], [37, 40]), (oa 37 7 6, []), (ol 38 37, []), (kx 39 24 [.t 36, .t 38], [40]), (oa 40 8 6, []), (ol 41 40, []), (on 42 41, []), (kx 43 23 [.t 39, .t 42, .c (.int .i64 64)], []), (.mk none none (.store 2 (.t 4) (.t 43)), [])]
def c13_9 : LC := .ops [oa 44 8 6, ol 45 44, on 46 45, oo 47 (.mov (.c (.int .i64 0)))]
def c13_10 : LC := .ops [kb 48 .lss 47 46]
def c13_13 : LC := .ops [om 49 47, om 7 49]
def c13_14 : LC := .opsX [(oo 50 (.load (some 2) (.t 4)), []), (oa 51 8 6, []), (ol 52 51, []), (om 53 7, []), (oo 54 (.iaddr 17 (.t 52) (.t 53)), []), (oa 55 0 54, []), (ol 56 55, []), (oo 57 (.conv .u64 (.t 56)), []), (kx 58 24 [.t 50, .t 57], [59, 63]), (oa 59 8 6, []), (ol 60 59, []), (om 61 7, []), (oo 62 (.iaddr 17 (.t 60) (.t 61)), []), (oa 63 1 62, []), (oo 64 (.load (some 16) (.t 63)), []), (kx 65 36 [.t 58, .t 64], []), (.mk none none (.store 2 (.t 4) (.t 65)), [])]
def c13_15 : LC := .ops [oa 66 8 6, ol 67 66, om 68 7, oo 69 (.iaddr 17 (.t 67) (.t 68)), oa 70 1 69, oo 71 (.load (some 16) (.t 70)), kc 72 37 [.t 71], oo 73 (.un .not (.t 72))]
def c13_16 : LC := .ops [oo 2 (.mov (.c (.str (ByteArray.mk (Array.mk []))))), oo 3 (.mov (.c (.bool false)))]
def c13_25 : LC := .ops [oo 74 (.bin .add (.t 47) (.c (.int .i64 1))), om 47 74]
def c13_36 : LC := .ops [oo 75 (.bin .add (.t 21) (.c (.int .i64 1))), om 21 75]
def c13_43 : LC := .ops [oo 76 (.load (some 2) (.t 4)), oa 77 2 1, ol 78 77, on 79 78, kc 80 23 [.t 76, .t 79, .c (.int .i64 50)], .mk none none (.store 2 (.t 4) (.t 80))]
def c13_44 : LC := .ops [oa 81 2 1, ol 82 81, on 83 82, oo 84 (.mov (.c (.int .i64 0)))]
def c13_45 : LC := .ops [kb 85 .lss 84 83]
def c13_48 : LC := .ops [om 86 84, om 8 86]
def c13_49 : LC := .opsX [(oo 87 (.load (some 2) (.t 4)), []), (oa 88 2 1, []), (ol 89 88, []), (om 90 8, []), (oo 91 (.iaddr 16 (.t 89) (.t 90)), []), (oo 92 (.load (some 16) (.t 91)), []), (kx 93 28 [.t 87, .t 92], []), (.mk none none (.store 2 (.t 4) (.t 93)), [])]
def c13_52 : LC := .ops [oo 94 (.bin .add (.t 84) (.c (.int .i64 1))), om 84 94]
def c13_59 : LC := .ops [oo 95 (.load (some 2) (.t 4)), oa 96 3 1, ol 97 96, on 98 97, kc 99 23 [.t 95, .t 98, .c (.int .i64 4096)], .mk none none (.store 2 (.t 4) (.t 99))]
def c13_60 : LC := .ops [oa 100 3 1, ol 101 100, on 102 101, oo 103 (.mov (.c (.int .i64 0)))]
def c13_61 : LC := .ops [kb 104 .lss 103 102]
def c13_64 : LC := .ops [om 105 103, om 9 105]
def c13_65 : LC := .opsX [(oo 106 (.load (some 2) (.t 4)), []), (oa 107 3 1, []), (ol 108 107, []), (om 109 9, []), (oo 110 (.iaddr 3 (.t 108) (.t 109)), []), (oa 111 0 110, []), (ol 112 111, []), (oo 113 (.conv .u64 (.t 112)), []), (kx 114 24 [.t 106, .t 113], [115, 119, 122, 126]), (oa 115 3 1, []), (ol 116 115, []), (om 117 9, []), (oo 118 (.iaddr 3 (.t 116) (.t 117)), []), (oa 119 1 118, []), (ol 120 119, []), (kx 121 24 [.t 114, .t 120], [122, 126]), (oa 122 3 1, []), (ol 123 122, []), (om 124 9, []), (oo 125 (.iaddr 3 (.t 123) (.t 124)), []), (oa 126 2 125, []), (ol 127 126, []), (kx 128 24 [.t 121, .t 127], []), (.mk none none (.store 2 (.t 4) (.t 128)), [])]
def c13_68 : LC := .ops [oo 129 (.bin .add (.t 103) (.c (.int .i64 1))), om 103 129]
def c13_75 : LC := .ops [oa 130 1 4, ol 131 130, om 132 131, ga 133 132 false 0 4, gl 134 132 false 133, og 135 132 false (.len true (.t 134)), og 136 132 false (.bin .gtr (.t 135) (.c (.int .i64 1048576))), pt 137 132 136]
def c13_76 : LC := .ops [oo 2 (.mov (.c (.str (ByteArray.mk (Array.mk []))))), oo 3 (.mov (.c (.bool false)))]
def c13_82 : LC := .ops [oa 138 0 4, ol 139 138, om 2 139, oo 3 (.mov (.c (.bool true)))]
def c13_92 : LC := .seq c13_0 (.seq c13_1 (.seq (.seq c13_2 (.block 0 (.loop (.seq c13_3 (.seq (.cond (.t 22) .skip (.exit 0)) (.seq (.block 1 (.seq c13_6 (.seq c13_7 (.seq c13_8 (.seq c13_9 (.block 2 (.loop (.seq c13_10 (.seq (.cond (.t 48) .skip (.exit 2)) (.seq (.block 3 (.seq c13_13 (.seq c13_14 (.seq c13_15 (.cond (.t 73) (.seq c13_16 .ret) .skip))))) c13_25)))))))))) c13_36)))))) (.seq c13_43 (.seq (.seq c13_44 (.block 4 (.loop (.seq c13_45 (.seq (.cond (.t 85) .skip (.exit 4)) (.seq (.block 5 (.seq c13_48 c13_49)) c13_52)))))) (.seq c13_59 (.seq (.seq c13_60 (.block 6 (.loop (.seq c13_61 (.seq (.cond (.t 104) .skip (.exit 6)) (.seq (.block 7 (.seq c13_64 c13_65)) c13_68)))))) (.seq (.seq c13_75 (.cond (.t 137) (.seq c13_76 .ret) .skip)) (.seq c13_82 .ret))))))))
def c13 : LF := .mk 140 c13_92 [.tmp 2, .tmp 3]
theorem low13 : aH Tryz.prog Tryz.f13 = some c13 := by kernel_rfl
def c14_0 : LC := .ops [oo 2 (.box (.t 0)), oo 3 (.box (.t 1)), oo 4 (.mov (.c (.bool false)))]
def c14_1 : LC := .ops [oa 5 0 2, ol 6 5, oa 7 0 3, ol 8 7, kb 9 .eql 6 8, om 10 9, ga 11 10 true 3 2, gl 12 10 true 11, ga 13 10 true 3 3, gl 14 10 true 13, gk 15 10 true 38 [.t 12, .t 14], pf 16 10 15, om 17 16, ga 18 17 true 2 2, gl 19 17 true 18, ga 20 17 true 2 3, gl 21 17 true 20, og 22 17 true (.call (.c (.fn 39 [])) [.t 19, .t 21, .c (.fn 40 [])]), pf 23 17 22, om 24 23, ga 25 24 true 1 2, gl 26 24 true 25, ga 27 24 true 1 3, gl 28 24 true 27, og 29 24 true (.call (.c (.fn 41 [])) [.t 26, .t 28, .c (.fn 42 [])]), pf 30 24 29, om 4 30]
def c14_4 : LC := .seq c14_0 (.seq c14_1 .ret)
def c14 : LF := .mk 31 c14_4 [.tmp 4]
theorem low14 : aH Tryz.prog Tryz.f14 = some c14 := by kernel_rfl
def c15_0 : LC := .ops [oo 2 (.box (.t 0)), oo 3 (.box (.t 1)), oo 4 (.mov (.c (.bool false)))]
def c15_1 : LC := .ops [oa 8 0 2, ol 9 8, oa 10 0 3, ol 11 10, kb 12 .neq 9 11, om 13 12, ga 14 13 false 1 2, gl 15 13 false 14, og 16 13 false (.len false (.t 15)), ga 17 13 false 1 3, gl 18 13 false 17, og 19 13 false (.len false (.t 18)), og 20 13 false (.bin .neq (.t 16) (.t 19)), pt 21 13 20, om 22 21, ga 23 22 false 2 2, gl 24 22 false 23, og 25 22 false (.len false (.t 24)), ga 26 22 false 2 3, gl 27 22 false 26, og 28 22 false (.len false (.t 27)), og 29 22 false (.bin .neq (.t 25) (.t 28)), pt 30 22 29, om 31 30, ga 32 31 false 3 2, gl 33 31 false 32, og 34 31 false (.len false (.t 33)), ga 35 31 false 3 3, gl 36 31 false 35, og 37 31 false (.len false (.t 36)), og 38 31 false (.bin .neq (.t 34) (.t 37)), pt 39 31 38]
def c15_2 : LC := .ops [oo 4 (.mov (.c (.bool false)))]
def c15_8 : LC := .ops [oa 40 1 2, ol 41 40, on 42 41, oo 43 (.mov (.c (.int .i64 0)))]
def c15_9 : LC := .ops [kb 44 .lss 43 42]
def c15_12 : LC := .ops [om 45 43, om 5 45]
def c15_13 : LC := .opsX [(oa 46 1 2, []), (ol 47 46, []), (om 48 5, []), (oo 49 (.iaddr 9 (.t 47) (.t 48)), []), (oo 50 (.load (some 9) (.t 49)), []), (oa 51 1 3, []), (ol 52 51, []), (om 53 5, []), (oo 54 (.iaddr 9 (.t 52) (.t 53)), []), (oo 55 (.load (some 9) (.t 54)), []), (kx 56 47 [.t 50, .t 55], []), (oo 57 (.un .not (.t 56)), [])]
def c15_14 : LC := .ops [oo 4 (.mov (.c (.bool false)))]
def c15_22 : LC := .ops [oo 58 (.bin .add (.t 43) (.c (.int .i64 1))), om 43 58]
def c15_29 : LC := .ops [oa 59 2 2, ol 60 59, on 61 60, oo 62 (.mov (.c (.int .i64 0)))]
def c15_30 : LC := .ops [kb 63 .lss 62 61]
def c15_33 : LC := .ops [om 64 62, om 6 64]
def c15_34 : LC := .opsX [(oa 65 2 2, []), (ol 66 65, []), (om 67 6, []), (oo 68 (.iaddr 16 (.t 66) (.t 67)), []), (oo 69 (.load (some 16) (.t 68)), []), (oa 70 2 3, []), (ol 71 70, []), (om 72 6, []), (oo 73 (.iaddr 16 (.t 71) (.t 72)), []), (oo 74 (.load (some 16) (.t 73)), []), (kx 75 29 [.t 69, .t 74], []), (oo 76 (.un .not (.t 75)), [])]
def c15_35 : LC := .ops [oo 4 (.mov (.c (.bool false)))]
def c15_43 : LC := .ops [oo 77 (.bin .add (.t 62) (.c (.int .i64 1))), om 62 77]
def c15_50 : LC := .ops [oa 78 3 2, ol 79 78, on 80 79, oo 81 (.mov (.c (.int .i64 0)))]
def c15_51 : LC := .ops [kb 82 .lss 81 80]
def c15_54 : LC := .ops [om 83 81, om 7 83]
def c15_55 : LC := .opsX [(oa 84 3 2, []), (ol 85 84, []), (om 86 7, []), (oo 87 (.iaddr 3 (.t 85) (.t 86)), []), (oo 88 (.load (some 3) (.t 87)), []), (oa 89 3 3, []), (ol 90 89, []), (om 91 7, []), (oo 92 (.iaddr 3 (.t 90) (.t 91)), []), (oo 93 (.load (some 3) (.t 92)), []), (oo 94 (.eq (.row [.int, .int, .int]) true (.t 88) (.t 93)), [])]
def c15_56 : LC := .ops [oo 4 (.mov (.c (.bool false)))]
def c15_64 : LC := .ops [oo 95 (.bin .add (.t 81) (.c (.int .i64 1))), om 81 95]
def c15_71 : LC := .ops [oo 4 (.mov (.c (.bool true)))]
def c15_78 : LC := .seq c15_0 (.seq (.seq c15_1 (.cond (.t 39) (.seq c15_2 .ret) .skip)) (.seq (.seq c15_8 (.block 0 (.loop (.seq c15_9 (.seq (.cond (.t 44) .skip (.exit 0)) (.seq (.block 1 (.seq c15_12 (.seq c15_13 (.cond (.t 57) (.seq c15_14 .ret) .skip)))) c15_22)))))) (.seq (.seq c15_29 (.block 2 (.loop (.seq c15_30 (.seq (.cond (.t 63) .skip (.exit 2)) (.seq (.block 3 (.seq c15_33 (.seq c15_34 (.cond (.t 76) (.seq c15_35 .ret) .skip)))) c15_43)))))) (.seq (.seq c15_50 (.block 4 (.loop (.seq c15_51 (.seq (.cond (.t 82) .skip (.exit 4)) (.seq (.block 5 (.seq c15_54 (.seq c15_55 (.cond (.t 94) (.seq c15_56 .ret) .skip)))) c15_64)))))) (.seq c15_71 .ret)))))
def c15 : LF := .mk 96 c15_78 [.tmp 4]
theorem low15 : aH Tryz.prog Tryz.f15 = some c15 := by kernel_rfl
def c16_0 : LC := .ops [oo 2 (.alloc [.int .i64 0, .list (some true) true [], .list (some true) true [], .list (some true) true []]), oo 3 (.mov (.c (.bool false)))]
def c16_1 : LC := .ops [om 6 0, kc 7 30 [.t 6], oo 8 (.build [.nilp, .nilp, .bool false] [(1, 1, .t 7)]), oo 9 (.box (.t 8)), om 4 9]
def c16_2 : LC := .ops [oo 5 (.alloc [.int .i64 0, .list (some true) true [], .list (some true) true [], .list (some true) true []])]
def c16_3 : LC := .ops [om 10 4, kc 11 34 [.t 10, .t 5]]
def c16_4 : LC := .ops [om 12 4, om 13 0, kc 14 31 [.t 12, .t 13, .c (.int .i64 1048576)], oo 15 (.un .not (.t 14))]
def c16_5 : LC := .ops [oo 16 (.build [.int .i64 0, .list (some true) true [], .list (some true) true [], .list (some true) true []] []), .mk none none (.store 4 (.t 2) (.t 16)), oo 3 (.mov (.c (.bool false)))]
def c16_11 : LC := .ops [oo 17 (.load (some 4) (.t 5)), .mk none none (.store 4 (.t 2) (.t 17)), oo 3 (.mov (.c (.bool true)))]
def c16_18 : LC := .seq c16_0 (.seq c16_1 (.seq c16_2 (.seq c16_3 (.seq (.seq c16_4 (.cond (.t 15) (.seq c16_5 .ret) .skip)) (.seq c16_11 .ret)))))
def c16 : LF := .mk 18 c16_18 [.cell 2 (some 4), .tmp 3]
theorem low16 : aH Tryz.prog Tryz.f16 = some c16 := by kernel_rfl
def c17_0 : LC := .ops [oo 1 (.box (.t 0)), oo 2 (.mov (.c (.bool false)))]
def c17_1 : LC := .ops [oa 3 2 1, oo 4 (.load (some 9) (.t 3)), kc 5 48 [.t 4], om 6 5, ga 7 6 false 11 1, gl 8 6 false 7, og 9 6 false (.len false (.t 8)), og 10 6 false (.bin .gtr (.t 9) (.c (.int .i64 80))), pt 11 6 10, om 12 11, ga 13 12 false 12 1, gl 14 12 false 13, og 15 12 false (.len false (.t 14)), og 16 12 false (.bin .gtr (.t 15) (.c (.int .i64 300))), pt 17 12 16, om 2 17]
def c17_4 : LC := .seq c17_0 (.seq c17_1 .ret)
def c17 : LF := .mk 18 c17_4 [.tmp 2]
theorem low17 : aH Tryz.prog Tryz.f17 = some c17 := by kernel_rfl
def c18_0 : LC := .ops [oo 1 (.box (.t 0)), oo 2 (.mov (.c (.list (some true) true []))), oo 3 (.mov (.c (.bool false)))]
def c18_1 : LC := .ops [kc 9 19 [], oo 10 (.build [.nilp, .nilp, .bool false] [(0, 1, .t 9)]), oo 11 (.box (.t 10)), om 4 11]
def c18_2 : LC := .ops [om 12 4, kc 13 49 [.t 12, .t 1]]
def c18_3 : LC := .ops [om 15 4, kc 16 21 [.t 15, .c (.int .i64 65536)], om 14 16, oo 17 (.ext 0 (.t 14)), oo 18 (.ext 1 (.t 14)), om 5 17, om 6 18]
def c18_4 : LC := .ops [om 19 6, oo 20 (.un .not (.t 19))]
def c18_5 : LC := .ops [oo 2 (.mov (.c (.list (some true) true []))), oo 3 (.mov (.c (.bool false)))]
def c18_11 : LC := .ops [om 22 5, kc 23 50 [.t 22], om 21 23, oo 24 (.ext 0 (.t 21)), oo 25 (.ext 1 (.t 21)), oo 7 (.alloc [.int .i64 0, .int .u32 0, .int .u64 0, .int .u32 0, .int .u32 0, .int .i64 0, .list (some true) true [], .list (some true) true [], .list (some true) true [], .int .i64 0, .int .i64 0, .int .i64 0, .int .i64 0, .bool false, .bool false, .int .i64 0, .int .i64 0, .int .i64 0, .int .i64 0, .list (some true) true [], .list (some true) true [], .list (some true) true [], .list (some true) true [], .int .i64 0, .list (some true) true [], .list (some true) true [], .list (some true) true [], .int .i64 0, .int .i64 0, .int .i64 0, .int .i64 0, .list (some true) true [], .list (some true) true [], .int .i64 0, .list (some true) true [], .list (some true) true [], .str (ByteArray.mk (Array.mk [])), .int .i64 0, .int .u32 0, .int .i64 0, .bool false, .int .i64 0]), .mk none none (.store 42 (.t 7) (.t 24)), om 8 25]
def c18_12 : LC := .ops [om 26 8, oo 27 (.un .not (.t 26)), om 28 27, og 29 28 false (.load (some 42) (.t 7)), og 30 28 false (.load (some 42) (.t 1)), gk 31 28 false 51 [.t 29, .t 30], og 32 28 false (.un .not (.t 31)), pt 33 28 32]
def c18_13 : LC := .ops [oo 2 (.mov (.c (.list (some true) true []))), oo 3 (.mov (.c (.bool false)))]
def c18_20 : LC := .ops [om 34 5, om 2 34, oo 3 (.mov (.c (.bool true)))]
def c18_28 : LC := .seq c18_0 (.seq c18_1 (.seq c18_2 (.seq c18_3 (.seq (.seq c18_4 (.cond (.t 20) (.seq c18_5 .ret) .skip)) (.seq (.seq c18_11 (.seq c18_12 (.cond (.t 33) (.seq c18_13 .ret) .skip))) (.seq c18_20 .ret))))))
def c18 : LF := .mk 35 c18_28 [.tmp 2, .tmp 3]
theorem low18 : aH Tryz.prog Tryz.f18 = some c18 := by kernel_rfl
def c19_0 : LC := .ops [oo 0 (.mov (.c .nilp))]
def c19_1 : LC := .ops [oo 1 (.build [.list (some true) true []] []), oo 2 (.box (.t 1)), om 0 2]
def c19_4 : LC := .seq c19_0 (.seq c19_1 .ret)
def c19 : LF := .mk 3 c19_4 [.tmp 0]
theorem low19 : aH Tryz.prog Tryz.f19 = some c19 := by kernel_rfl
def c21_0 : LC := .ops [oo 4 (.mov (.c (.list (some true) true []))), oo 5 (.mov (.c (.bool false)))]
def c21_1 : LC := .ops [om 7 0, kk 8 7, oa 9 0 8, ol 10 9, kc 11 61 [.t 10], om 6 11]
def c21_2 : LC := .ops [om 12 0, kk 13 12, oa 14 2 13, ol 15 14, om 16 15, gm 17 16 false 6, og 18 16 false (.len false (.t 17)), gm 19 16 false 1, og 20 16 false (.bin .gtr (.t 18) (.t 19)), pt 21 16 20]
def c21_3 : LC := .ops [oo 4 (.mov (.c (.list (some true) true []))), oo 5 (.mov (.c (.bool false)))]
def c21_9 : LC := .ops [om 22 6, om 4 22, oo 5 (.mov (.c (.bool true)))]
def c21_14 : LC := .seq c21_0 (.seq c21_1 (.seq (.seq c21_2 (.cond (.t 21) (.seq c21_3 .ret) .skip)) (.seq c21_9 .ret)))
def c21 : LF := .mk 23 c21_14 [.tmp 4, .tmp 5]
theorem low21 : aH Tryz.prog Tryz.f21 = some c21 := by kernel_rfl
def c23_0 : LC := .ops [oo 3 (.box (.t 0)), oo 6 (.alloc [.str (ByteArray.mk (Array.mk [])), .bool false])]
def c23_1 : LC := .ops [om 7 1, oo 8 (.bin .lss (.t 7) (.c (.int .i64 0))), om 9 8, gm 10 9 false 1, gm 11 9 false 2, og 12 9 false (.bin .gtr (.t 10) (.t 11)), pt 13 9 12]
def c23_2 : LC := .ops [oa 14 0 3, ol 15 14, oo 16 (.build [.str (ByteArray.mk (Array.mk [])), .bool false] [(0, 1, .t 15), (1, 1, .c (.bool true))]), .mk none none (.store 2 (.t 6) (.t 16))]
def c23_8 : LC := .opsX [(oa 17 0 3, []), (ol 18 17, []), (om 19 1, []), (oo 20 (.conv .u64 (.t 19)), []), (kx 21 63 [.t 20], [17, 23]), (kb 22 .add 18 21, []), (oa 23 1 3, []), (ol 24 23, []), (oo 25 (.build [.str (ByteArray.mk (Array.mk [])), .bool false] [(0, 1, .t 22), (1, 1, .t 24)]), []), (.mk none none (.store 2 (.t 6) (.t 25)), [])]
def c23_12 : LC := .seq c23_0 (.seq (.seq c23_1 (.cond (.t 13) (.seq c23_2 .ret) .skip)) (.seq c23_8 .ret))
def c23 : LF := .mk 26 c23_12 [.cell 6 (some 2)]
theorem low23 : aH Tryz.prog Tryz.f23 = some c23 := by kernel_rfl
def c24_0 : LC := .ops [oo 2 (.box (.t 0)), oo 4 (.alloc [.str (ByteArray.mk (Array.mk [])), .bool false])]
def c24_1 : LC := .opsX [(oa 5 0 2, []), (ol 6 5, []), (om 7 1, []), (kx 8 63 [.t 7], [5, 10]), (kb 9 .add 6 8, []), (oa 10 1 2, []), (ol 11 10, []), (oo 12 (.build [.str (ByteArray.mk (Array.mk [])), .bool false] [(0, 1, .t 9), (1, 1, .t 11)]), []), (.mk none none (.store 2 (.t 4) (.t 12)), [])]
def c24_4 : LC := .seq c24_0 (.seq c24_1 .ret)
def c24 : LF := .mk 13 c24_4 [.cell 4 (some 2)]
theorem low24 : aH Tryz.prog Tryz.f24 = some c24 := by kernel_rfl
def c25_0 : LC := .ops [oo 2 (.box (.t 0)), oo 4 (.alloc [.str (ByteArray.mk (Array.mk [])), .bool false])]
def c25_1 : LC := .opsX [(oa 5 0 2, []), (ol 6 5, []), (om 7 1, []), (kx 8 64 [.t 7], [5, 10]), (kb 9 .add 6 8, []), (oa 10 1 2, []), (ol 11 10, []), (oo 12 (.build [.str (ByteArray.mk (Array.mk [])), .bool false] [(0, 1, .t 9), (1, 1, .t 11)]), []), (.mk none none (.store 2 (.t 4) (.t 12)), [])]
def c25_4 : LC := .seq c25_0 (.seq c25_1 .ret)
def c25 : LF := .mk 13 c25_4 [.cell 4 (some 2)]
theorem low25 : aH Tryz.prog Tryz.f25 = some c25 := by kernel_rfl
def c27_0 : LC := .ops [oo 2 (.box (.t 0)), oo 4 (.alloc [.str (ByteArray.mk (Array.mk [])), .bool false])]
def c27_1 : LC := .opsX [(oa 5 0 2, []), (ol 6 5, []), (om 7 1, []), (kx 8 66 [.t 7], [5, 10]), (kb 9 .add 6 8, []), (oa 10 1 2, []), (ol 11 10, []), (oo 12 (.build [.str (ByteArray.mk (Array.mk [])), .bool false] [(0, 1, .t 9), (1, 1, .t 11)]), []), (.mk none none (.store 2 (.t 4) (.t 12)), [])]
def c27_4 : LC := .seq c27_0 (.seq c27_1 .ret)
def c27 : LF := .mk 13 c27_4 [.cell 4 (some 2)]
theorem low27 : aH Tryz.prog Tryz.f27 = some c27 := by kernel_rfl
def c28_0 : LC := .ops [oo 2 (.box (.t 0)), oo 3 (.box (.t 1)), oo 4 (.alloc [.str (ByteArray.mk (Array.mk [])), .bool false])]
def c28_1 : LC := .opsX [(oo 6 (.load (some 2) (.t 2)), []), (oa 7 0 3, []), (ol 8 7, []), (oo 9 (.conv .u64 (.t 8)), []), (kx 10 24 [.t 6, .t 9], [11, 15, 18, 21]), (oa 11 1 3, []), (ol 12 11, []), (oo 13 (.conv .u64 (.t 12)), []), (kx 14 24 [.t 10, .t 13], [15, 18, 21]), (oa 15 2 3, []), (oo 16 (.load (some 9) (.t 15)), []), (kx 17 67 [.t 14, .t 16], [18, 21]), (oa 18 11 3, []), (ol 19 18, []), (kx 20 68 [.t 17, .t 19, .c (.int .i64 40)], [21]), (oa 21 12 3, []), (ol 22 21, []), (on 23 22, []), (kx 24 23 [.t 20, .t 23, .c (.int .i64 4096)], []), (.mk none none (.store 2 (.t 2) (.t 24)), [])]
def c28_2 : LC := .ops [oa 25 12 3, ol 26 25, on 27 26, oo 28 (.mov (.c (.int .i64 0)))]
def c28_3 : LC := .ops [kb 29 .lss 28 27]
def c28_6 : LC := .ops [om 30 28, om 5 30]
def c28_7 : LC := .opsX [(oo 31 (.load (some 2) (.t 2)), []), (oa 32 12 3, []), (ol 33 32, []), (om 34 5, []), (oo 35 (.iaddr 2 (.t 33) (.t 34)), []), (oa 36 0 35, []), (ol 37 36, []), (oo 38 (.conv .u64 (.t 37)), []), (kx 39 24 [.t 31, .t 38], [40, 44]), (oa 40 12 3, []), (ol 41 40, []), (om 42 5, []), (oo 43 (.iaddr 2 (.t 41) (.t 42)), []), (oa 44 1 43, []), (ol 45 44, []), (kx 46 23 [.t 39, .t 45, .c (.int .i64 40)], []), (.mk none none (.store 2 (.t 2) (.t 46)), [])]
def c28_10 : LC := .ops [oo 47 (.bin .add (.t 28) (.c (.int .i64 1))), om 28 47]
def c28_17 : LC := .opsX [(oo 48 (.load (some 2) (.t 2)), []), (oa 49 13 3, []), (ol 50 49, []), (kx 51 25 [.t 48, .t 50], [52, 55]), (oa 52 14 3, []), (ol 53 52, []), (kx 54 23 [.t 51, .t 53, .c (.int .i64 4)], [55]), (oa 55 15 3, []), (ol 56 55, []), (kx 57 23 [.t 54, .t 56, .c (.int .i64 40)], []), (.mk none none (.store 2 (.t 4) (.t 57)), [])]
def c28_22 : LC := .seq c28_0 (.seq c28_1 (.seq (.seq c28_2 (.block 0 (.loop (.seq c28_3 (.seq (.cond (.t 29) .skip (.exit 0)) (.seq (.block 1 (.seq c28_6 c28_7)) c28_10)))))) (.seq c28_17 .ret)))
def c28 : LF := .mk 58 c28_22 [.cell 4 (some 2)]
theorem low28 : aH Tryz.prog Tryz.f28 = some c28 := by kernel_rfl
def c29_0 : LC := .ops [oo 2 (.box (.t 0)), oo 3 (.box (.t 1)), oo 4 (.mov (.c (.bool false)))]
def c29_1 : LC := .ops [oa 6 0 2, ol 7 6, oa 8 0 3, ol 9 8, kb 10 .neq 7 9, om 11 10, ga 12 11 false 1 2, gl 13 11 false 12, ga 14 11 false 1 3, gl 15 11 false 14, og 16 11 false (.bin .neq (.t 13) (.t 15)), pt 17 11 16, om 18 17, ga 19 18 false 2 2, og 20 18 false (.load (some 9) (.t 19)), ga 21 18 false 2 3, og 22 18 false (.load (some 9) (.t 21)), gk 23 18 false 69 [.t 20, .t 22], og 24 18 false (.un .not (.t 23)), pt 25 18 24, om 26 25, ga 27 26 false 11 2, gl 28 26 false 27, ga 29 26 false 11 3, gl 30 26 false 29, gk 31 26 false 70 [.t 28, .t 30], og 32 26 false (.un .not (.t 31)), pt 33 26 32, om 34 33, ga 35 34 false 12 2, gl 36 34 false 35, og 37 34 false (.len false (.t 36)), ga 38 34 false 12 3, gl 39 34 false 38, og 40 34 false (.len false (.t 39)), og 41 34 false (.bin .neq (.t 37) (.t 40)), pt 42 34 41, om 43 42, ga 44 43 false 13 2, gl 45 43 false 44, ga 46 43 false 13 3, gl 47 43 false 46, og 48 43 false (.bin .neq (.t 45) (.t 47)), pt 49 43 48, om 50 49, ga 51 50 false 14 2, gl 52 50 false 51, ga 53 50 false 14 3, gl 54 50 false 53, og 55 50 false (.bin .neq (.t 52) (.t 54)), pt 56 50 55, om 57 56, ga 58 57 false 15 2, gl 59 57 false 58, ga 60 57 false 15 3, gl 61 57 false 60, og 62 57 false (.bin .neq (.t 59) (.t 61)), pt 63 57 62]
def c29_2 : LC := .ops [oo 4 (.mov (.c (.bool false)))]
def c29_8 : LC := .ops [oa 64 12 2, ol 65 64, on 66 65, oo 67 (.mov (.c (.int .i64 0)))]
def c29_9 : LC := .ops [kb 68 .lss 67 66]
def c29_12 : LC := .ops [om 69 67, om 5 69]
def c29_13 : LC := .opsX [(oa 70 12 2, []), (ol 71 70, []), (om 72 5, []), (oo 73 (.iaddr 2 (.t 71) (.t 72)), []), (oo 74 (.load (some 2) (.t 73)), []), (oa 75 12 3, []), (ol 76 75, []), (om 77 5, []), (oo 78 (.iaddr 2 (.t 76) (.t 77)), []), (oo 79 (.load (some 2) (.t 78)), []), (oo 80 (.eq (.row [.int, .int]) true (.t 74) (.t 79)), [])]
def c29_14 : LC := .ops [oo 4 (.mov (.c (.bool false)))]
def c29_22 : LC := .ops [oo 81 (.bin .add (.t 67) (.c (.int .i64 1))), om 67 81]
def c29_29 : LC := .ops [oo 4 (.mov (.c (.bool true)))]
def c29_34 : LC := .seq c29_0 (.seq (.seq c29_1 (.cond (.t 63) (.seq c29_2 .ret) .skip)) (.seq (.seq c29_8 (.block 0 (.loop (.seq c29_9 (.seq (.cond (.t 68) .skip (.exit 0)) (.seq (.block 1 (.seq c29_12 (.seq c29_13 (.cond (.t 80) (.seq c29_14 .ret) .skip)))) c29_22)))))) (.seq c29_29 .ret)))
def c29 : LF := .mk 82 c29_34 [.tmp 4]
theorem low29 : aH Tryz.prog Tryz.f29 = some c29 := by kernel_rfl
def c30_0 : LC := .ops [oo 2 (.mov (.c .nilp))]
def c30_1 : LC := .ops [om 3 0, kc 4 71 [.t 3], oo 5 (.build [.list (some true) true [], .bool false] [(0, 1, .t 4)]), oo 6 (.box (.t 5)), om 2 6]
def c30_4 : LC := .seq c30_0 (.seq c30_1 .ret)
def c30 : LF := .mk 7 c30_4 [.tmp 2]
theorem low30 : aH Tryz.prog Tryz.f30 = some c30 := by kernel_rfl
def c31_0 : LC := .ops [oo 6 (.mov (.c (.bool false)))]
def c31_1 : LC := .ops [om 7 0, kk 8 7, oa 9 2 8, ol 10 9, oo 11 (.un .not (.t 10)), om 12 11, gm 13 12 true 0, og 14 12 true (.chk (.t 13)), ga 15 12 true 1 14, gl 16 12 true 15, gk 17 12 true 72 [.t 16], pf 18 12 17, om 19 18, gm 20 19 true 1, og 21 19 true (.len false (.t 20)), gm 22 19 true 2, og 23 19 true (.bin .leq (.t 21) (.t 22)), pf 24 19 23, om 6 24]
def c31_4 : LC := .seq c31_0 (.seq c31_1 .ret)
def c31 : LF := .mk 25 c31_4 [.tmp 6]
theorem low31 : aH Tryz.prog Tryz.f31 = some c31 := by kernel_rfl
def c32_0 : LC := .ops [oo 1 (.box (.t 0)), oo 2 (.mov (.c (.bool false)))]
def c32_1 : LC := .ops [oa 3 0 1, oa 4 1 3, ol 5 4, on 6 5, oo 7 (.bin .gtr (.t 6) (.c (.int .i64 100))), om 8 7, ga 9 8 false 2 1, ga 10 8 false 0 9, gl 11 8 false 10, og 12 8 false (.len false (.t 11)), og 13 8 false (.bin .gtr (.t 12) (.c (.int .i64 30))), pt 14 8 13, om 15 14, ga 16 15 false 2 1, ga 17 15 false 1 16, gl 18 15 false 17, og 19 15 false (.len false (.t 18)), og 20 15 false (.bin .gtr (.t 19) (.c (.int .i64 100))), pt 21 15 20, om 2 21]
def c32_4 : LC := .seq c32_0 (.seq c32_1 .ret)
def c32 : LF := .mk 22 c32_4 [.tmp 2]
theorem low32 : aH Tryz.prog Tryz.f32 = some c32 := by kernel_rfl
def c33_0 : LC := .ops [oo 1 (.box (.t 0)), oo 2 (.mov (.c (.bool false)))]
def c33_1 : LC := .ops [oa 3 13 1, ol 4 3, on 5 4, oo 6 (.bin .gtr (.t 5) (.c (.int .i64 80))), om 7 6, ga 8 7 false 14 1, gl 9 7 false 8, og 10 7 false (.len false (.t 9)), og 11 7 false (.bin .gtr (.t 10) (.c (.int .i64 80))), pt 12 7 11, om 13 12, ga 14 13 false 15 1, gl 15 13 false 14, og 16 13 false (.len false (.t 15)), og 17 13 false (.bin .gtr (.t 16) (.c (.int .i64 80))), pt 18 13 17, om 19 18, ga 20 19 false 4 1, ga 21 19 false 4 20, gl 22 19 false 21, og 23 19 false (.len false (.t 22)), og 24 19 false (.bin .gtr (.t 23) (.c (.int .i64 100))), pt 25 19 24, om 26 25, ga 27 26 false 4 1, ga 28 26 false 5 27, gl 29 26 false 28, og 30 26 false (.len false (.t 29)), og 31 26 false (.bin .gtr (.t 30) (.c (.int .i64 100))), pt 32 26 31, om 33 32, ga 34 33 false 4 1, ga 35 33 false 6 34, gl 36 33 false 35, og 37 33 false (.len false (.t 36)), og 38 33 false (.bin .gtr (.t 37) (.c (.int .i64 200))), pt 39 33 38, om 40 39, ga 41 40 false 4 1, ga 42 40 false 7 41, gl 43 40 false 42, og 44 40 false (.len false (.t 43)), og 45 40 false (.bin .gtr (.t 44) (.c (.int .i64 500))), pt 46 40 45, om 2 46]
def c33_4 : LC := .seq c33_0 (.seq c33_1 .ret)
def c33 : LF := .mk 47 c33_4 [.tmp 2]
theorem low33 : aH Tryz.prog Tryz.f33 = some c33 := by kernel_rfl
def c34_0 : LC := .ops [oo 2 (.box (.t 0))]
def c34_1 : LC := .opsX [(ol 4 2, []), (om 5 1, []), (kk 6 5, []), (oa 7 0 6, []), (kx 8 56 [.t 4, .t 7], [])]
def c34_2 : LC := .opsX [(ol 9 2, []), (om 10 1, []), (kk 11 10, []), (oa 12 1 11, []), (ol 13 2, []), (oo 14 (.mkfn 4170 [.t 13]), []), (kx 15 73 [.t 9, .t 12, .c (.int .i64 100), .t 14], [])]
def c34_3 : LC := .opsX [(ol 16 2, []), (om 17 1, []), (kk 18 17, []), (oa 19 2 18, []), (ol 20 2, []), (oo 21 (.mkfn 4156 [.t 20]), []), (kx 22 75 [.t 16, .t 19, .c (.int .i64 50), .t 21], [])]
def c34_4 : LC := .opsX [(ol 23 2, []), (om 24 1, []), (kk 25 24, []), (oa 26 3 25, []), (oo 27 (.mkfn 77 [.t 2]), []), (kx 28 76 [.t 23, .t 26, .c (.int .i64 4096), .t 27], [])]
def c34_8 : LC := .seq c34_0 (.seq c34_1 (.seq c34_2 (.seq c34_3 c34_4)))
def c34 : LF := .mk 29 c34_8 []
theorem low34 : aH Tryz.prog Tryz.f34 = some c34 := by kernel_rfl
def c35_0 : LC := .ops [oo 2 (.box (.t 0)), oo 3 (.box (.t 1)), oo 4 (.alloc [.str (ByteArray.mk (Array.mk [])), .bool false])]
def c35_1 : LC := .opsX [(oo 7 (.load (some 2) (.t 2)), []), (oa 8 0 3, []), (oa 9 0 8, []), (ol 10 9, []), (kx 11 79 [.t 7, .t 10, .c (.int .i64 (-900)), .c (.int .i64 900)], [13]), (oa 12 0 3, []), (oa 13 1 12, []), (ol 14 13, []), (on 15 14, []), (kx 16 23 [.t 11, .t 15, .c (.int .i64 700)], []), (.mk none none (.store 2 (.t 2) (.t 16)), [])]
def c35_2 : LC := .ops [oa 17 0 3, oa 18 1 17, ol 19 18, on 20 19, oo 21 (.mov (.c (.int .i64 0)))]
def c35_3 : LC := .ops [kb 22 .lss 21 20]
def c35_6 : LC := .ops [om 23 21, om 5 23]
def c35_7 : LC := .opsX [(oo 24 (.load (some 2) (.t 2)), []), (oa 25 0 3, []), (oa 26 1 25, []), (ol 27 26, []), (om 28 5, []), (oo 29 (.iaddr 2 (.t 27) (.t 28)), []), (oa 30 0 29, []), (ol 31 30, []), (kx 32 25 [.t 24, .t 31], [34, 38]), (oa 33 0 3, []), (oa 34 1 33, []), (ol 35 34, []), (om 36 5, []), (oo 37 (.iaddr 2 (.t 35) (.t 36)), []), (oa 38 1 37, []), (ol 39 38, []), (kx 40 79 [.t 32, .t 39, .c (.int .i64 (-900)), .c (.int .i64 900)], []), (.mk none none (.store 2 (.t 2) (.t 40)), [])]
def c35_10 : LC := .ops [oo 41 (.bin .add (.t 21) (.c (.int .i64 1))), om 21 41]
def c35_17 : LC := .opsX [(oo 42 (.load (some 2) (.t 2)), []), (oa 43 2 3, []), (oa 44 0 43, []), (ol 45 44, []), (kx 46 80 [.t 42, .t 45, .c (.int .i64 10)], [48]), (oa 47 2 3, []), (oa 48 1 47, []), (ol 49 48, []), (on 50 49, []), (kx 51 23 [.t 46, .t 50, .c (.int .i64 60)], []), (.mk none none (.store 2 (.t 2) (.t 51)), [])]
def c35_18 : LC := .ops [oa 52 2 3, oa 53 1 52, ol 54 53, on 55 54, oo 56 (.mov (.c (.int .i64 0)))]
def c35_19 : LC := .ops [kb 57 .lss 56 55]
def c35_22 : LC := .ops [om 58 56, om 6 58]
def c35_23 : LC := .opsX [(oo 59 (.load (some 2) (.t 2)), []), (oa 60 2 3, []), (oa 61 1 60, []), (ol 62 61, []), (om 63 6, []), (oo 64 (.iaddr 1 (.t 62) (.t 63)), []), (ol 65 64, []), (kx 66 23 [.t 59, .t 65, .c (.int .i64 109937)], []), (.mk none none (.store 2 (.t 2) (.t 66)), [])]
def c35_26 : LC := .ops [oo 67 (.bin .add (.t 56) (.c (.int .i64 1))), om 56 67]
def c35_33 : LC := .opsX [(oo 68 (.load (some 2) (.t 2)), []), (oa 69 4 3, []), (ol 70 69, []), (kx 71 23 [.t 68, .t 70, .c (.int .i64 240)], [72]), (oa 72 5 3, []), (ol 73 72, []), (kx 74 23 [.t 71, .t 73, .c (.int .i64 240)], []), (.mk none none (.store 2 (.t 4) (.t 74)), [])]
def c35_40 : LC := .seq c35_0 (.seq c35_1 (.seq (.seq c35_2 (.block 0 (.loop (.seq c35_3 (.seq (.cond (.t 22) .skip (.exit 0)) (.seq (.block 1 (.seq c35_6 c35_7)) c35_10)))))) (.seq c35_17 (.seq (.seq c35_18 (.block 2 (.loop (.seq c35_19 (.seq (.cond (.t 57) .skip (.exit 2)) (.seq (.block 3 (.seq c35_22 c35_23)) c35_26)))))) (.seq c35_33 .ret)))))
def c35 : LF := .mk 75 c35_40 [.cell 4 (some 2)]
theorem low35 : aH Tryz.prog Tryz.f35 = some c35 := by kernel_rfl
def c36_0 : LC := .ops [oo 2 (.box (.t 0)), oo 3 (.box (.t 1)), oo 4 (.alloc [.str (ByteArray.mk (Array.mk [])), .bool false])]
def c36_1 : LC := .opsX [(oo 8 (.load (some 2) (.t 2)), []), (oa 9 0 3, []), (ol 10 9, []), (kx 11 25 [.t 8, .t 10], [12, 15]), (oa 12 1 3, []), (ol 13 12, []), (kx 14 23 [.t 11, .t 13, .c (.int .i64 10080)], [15]), (oa 15 3 3, []), (ol 16 15, []), (kx 17 27 [.t 14, .t 16], []), (.mk none none (.store 2 (.t 2) (.t 17)), [])]
def c36_2 : LC := .ops [oa 18 3 3, ol 19 18, oo 20 (.un .not (.t 19))]
def c36_3 : LC := .ops [oo 21 (.load (some 2) (.t 2)), oa 22 2 3, ol 23 22, kc 24 27 [.t 21, .t 23], .mk none none (.store 2 (.t 4) (.t 24))]
def c36_9 : LC := .ops [oa 25 4 3, oo 26 (.load (some 9) (.t 25)), oo 5 (.alloc [.int .i64 0, .int .i64 0, .int .i64 0, .int .i64 0, .list (some true) true [], .list (some true) true [], .list (some true) true [], .list (some true) true [], .int .i64 0]), .mk none none (.store 9 (.t 5) (.t 26))]
def c36_10 : LC := .opsX [(oo 27 (.load (some 2) (.t 2)), []), (oa 28 0 5, []), (ol 29 28, []), (kx 30 23 [.t 27, .t 29, .c (.int .i64 4)], [31, 34, 37, 40, 43, 46]), (oa 31 1 5, []), (ol 32 31, []), (kx 33 23 [.t 30, .t 32, .c (.int .i64 999)], [34, 37, 40, 43, 46]), (oa 34 2 5, []), (ol 35 34, []), (kx 36 23 [.t 33, .t 35, .c (.int .i64 5000)], [37, 40, 43, 46]), (oa 37 3 5, []), (ol 38 37, []), (kx 39 25 [.t 36, .t 38], [40, 43, 46]), (oa 40 4 5, []), (ol 41 40, []), (kx 42 81 [.t 39, .t 41], [43, 46]), (oa 43 5 5, []), (ol 44 43, []), (kx 45 81 [.t 42, .t 44], [46]), (oa 46 6 5, []), (ol 47 46, []), (on 48 47, []), (kx 49 23 [.t 45, .t 48, .c (.int .i64 400)], []), (.mk none none (.store 2 (.t 2) (.t 49)), [])]
def c36_11 : LC := .ops [oa 50 6 5, ol 51 50, on 52 51, oo 53 (.mov (.c (.int .i64 0)))]
def c36_12 : LC := .ops [kb 54 .lss 53 52]
def c36_15 : LC := .ops [om 55 53, om 6 55]
def c36_16 : LC := .opsX [(oo 56 (.load (some 2) (.t 2)), []), (oa 57 6 5, []), (ol 58 57, []), (om 59 6, []), (oo 60 (.iaddr 2 (.t 58) (.t 59)), []), (oa 61 0 60, []), (ol 62 61, []), (kx 63 79 [.t 56, .t 62, .c (.int .i64 (-5)), .c (.int .i64 5)], [64, 68]), (oa 64 6 5, []), (ol 65 64, []), (om 66 6, []), (oo 67 (.iaddr 2 (.t 65) (.t 66)), []), (oa 68 1 67, []), (ol 69 68, []), (kx 70 23 [.t 63, .t 69, .c (.int .i64 6)], []), (.mk none none (.store 2 (.t 2) (.t 70)), [])]
def c36_19 : LC := .ops [oo 71 (.bin .add (.t 53) (.c (.int .i64 1))), om 53 71]
def c36_26 : LC := .opsX [(oo 72 (.load (some 2) (.t 2)), []), (oa 73 7 5, []), (ol 74 73, []), (kx 75 81 [.t 72, .t 74], [76, 79, 82, 85]), (oa 76 8 5, []), (ol 77 76, []), (kx 78 23 [.t 75, .t 77, .c (.int .i64 6)], [79, 82, 85]), (oa 79 13 3, []), (ol 80 79, []), (kx 81 68 [.t 78, .t 80, .c (.int .i64 50)], [82, 85]), (oa 82 14 3, []), (ol 83 82, []), (kx 84 68 [.t 81, .t 83, .c (.int .i64 50)], [85]), (oa 85 15 3, []), (ol 86 85, []), (on 87 86, []), (kx 88 23 [.t 84, .t 87, .c (.int .i64 50)], []), (.mk none none (.store 2 (.t 2) (.t 88)), [])]
def c36_27 : LC := .ops [oa 89 15 3, ol 90 89, on 91 90, oo 92 (.mov (.c (.int .i64 0)))]
def c36_28 : LC := .ops [kb 93 .lss 92 91]
def c36_31 : LC := .ops [om 94 92, om 7 94]
def c36_32 : LC := .opsX [(oo 95 (.load (some 2) (.t 2)), []), (oa 96 15 3, []), (ol 97 96, []), (om 98 7, []), (oo 99 (.iaddr 3 (.t 97) (.t 98)), []), (oa 100 0 99, []), (ol 101 100, []), (kx 102 25 [.t 95, .t 101], [103, 107, 110, 114]), (oa 103 15 3, []), (ol 104 103, []), (om 105 7, []), (oo 106 (.iaddr 3 (.t 104) (.t 105)), []), (oa 107 1 106, []), (ol 108 107, []), (kx 109 25 [.t 102, .t 108], [110, 114]), (oa 110 15 3, []), (ol 111 110, []), (om 112 7, []), (oo 113 (.iaddr 3 (.t 111) (.t 112)), []), (oa 114 2 113, []), (ol 115 114, []), (kx 116 23 [.t 109, .t 115, .c (.int .i64 10080)], []), (.mk none none (.store 2 (.t 2) (.t 116)), [])]
def c36_35 : LC := .ops [oo 117 (.bin .add (.t 92) (.c (.int .i64 1))), om 92 117]
def c36_42 : LC := .ops [oo 118 (.load (some 2) (.t 2)), .mk none none (.store 2 (.t 4) (.t 118))]
def c36_52 : LC := .seq c36_0 (.seq c36_1 (.seq (.seq c36_2 (.cond (.t 20) (.seq c36_3 .ret) .skip)) (.seq c36_9 (.seq c36_10 (.seq (.seq c36_11 (.block 0 (.loop (.seq c36_12 (.seq (.cond (.t 54) .skip (.exit 0)) (.seq (.block 1 (.seq c36_15 c36_16)) c36_19)))))) (.seq c36_26 (.seq (.seq c36_27 (.block 2 (.loop (.seq c36_28 (.seq (.cond (.t 93) .skip (.exit 2)) (.seq (.block 3 (.seq c36_31 c36_32)) c36_35)))))) (.seq c36_42 .ret))))))))
def c36 : LF := .mk 119 c36_52 [.cell 4 (some 2)]
theorem low36 : aH Tryz.prog Tryz.f36 = some c36 := by kernel_rfl
def c37_0 : LC := .ops [oo 1 (.box (.t 0)), oo 2 (.mov (.c (.bool false)))]
def c37_1 : LC := .ops [oa 3 3 1, ol 4 3]
def c37_2 : LC := .ops [oa 5 2 1, ol 6 5, oo 7 (.un .not (.t 6)), om 2 7]
def c37_8 : LC := .ops [oa 8 4 1, oo 9 (.load (some 9) (.t 8)), oo 10 (.build [.int .i64 0, .int .i64 0, .int .i64 0, .int .i64 0, .list (some true) true [], .list (some true) true [], .list (some true) true [], .list (some true) true [], .int .i64 0] []), kc 11 82 [.t 9, .t 10], om 12 11, ga 13 12 true 13 1, gl 14 12 true 13, og 15 12 true (.len false (.t 14)), og 16 12 true (.bin .eql (.t 15) (.c (.int .i64 0))), pf 17 12 16, om 18 17, ga 19 18 true 14 1, gl 20 18 true 19, og 21 18 true (.len false (.t 20)), og 22 18 true (.bin .eql (.t 21) (.c (.int .i64 0))), pf 23 18 22, om 24 23, ga 25 24 true 15 1, gl 26 24 true 25, og 27 24 true (.len false (.t 26)), og 28 24 true (.bin .eql (.t 27) (.c (.int .i64 0))), pf 29 24 28, om 2 29]
def c37_12 : LC := .seq c37_0 (.seq (.seq c37_1 (.cond (.t 4) (.seq c37_2 .ret) .skip)) (.seq c37_8 .ret))
def c37 : LF := .mk 30 c37_12 [.tmp 2]
theorem low37 : aH Tryz.prog Tryz.f37 = some c37 := by kernel_rfl
def c38_0 : LC := .ops [oo 4 (.mov (.c (.bool false)))]
def c38_1 : LC := .ops [om 6 0, on 7 6, om 8 1, on 9 8, kb 10 .neq 7 9]
def c38_2 : LC := .ops [oo 4 (.mov (.c (.bool false)))]
def c38_8 : LC := .ops [om 11 0, on 12 11, oo 13 (.mov (.c (.int .i64 0)))]
def c38_9 : LC := .ops [kb 14 .lss 13 12]
def c38_12 : LC := .ops [om 15 13, om 5 15]
def c38_13 : LC := .opsX [(om 16 0, []), (om 17 5, []), (oo 18 (.iaddr 3 (.t 16) (.t 17)), []), (oo 19 (.load (some 3) (.t 18)), []), (om 20 1, []), (om 21 5, []), (oo 22 (.iaddr 3 (.t 20) (.t 21)), []), (oo 23 (.load (some 3) (.t 22)), []), (oo 24 (.eq (.row [.int, .int, .int]) true (.t 19) (.t 23)), [])]
def c38_14 : LC := .ops [oo 4 (.mov (.c (.bool false)))]
def c38_22 : LC := .ops [oo 25 (.bin .add (.t 13) (.c (.int .i64 1))), om 13 25]
def c38_29 : LC := .ops [oo 4 (.mov (.c (.bool true)))]
def c38_34 : LC := .seq c38_0 (.seq (.seq c38_1 (.cond (.t 10) (.seq c38_2 .ret) .skip)) (.seq (.seq c38_8 (.block 0 (.loop (.seq c38_9 (.seq (.cond (.t 14) .skip (.exit 0)) (.seq (.block 1 (.seq c38_12 (.seq c38_13 (.cond (.t 24) (.seq c38_14 .ret) .skip)))) c38_22)))))) (.seq c38_29 .ret)))
def c38 : LF := .mk 26 c38_34 [.tmp 4]
theorem low38 : aH Tryz.prog Tryz.f38 = some c38 := by kernel_rfl
def c39_0 : LC := .ops [oo 6 (.mov (.c (.bool false)))]
def c39_1 : LC := .ops [om 10 0, on 11 10, om 12 1, on 13 12, kb 14 .neq 11 13]
def c39_2 : LC := .ops [oo 6 (.mov (.c (.bool false)))]
def c39_8 : LC := .ops [om 15 0, on 16 15, oo 17 (.mov (.c (.int .i64 0)))]
def c39_9 : LC := .ops [kb 18 .lss 17 16]
def c39_12 : LC := .ops [om 19 17, oo 20 (.iaddr 16 (.t 15) (.t 17)), oo 21 (.load (some 16) (.t 20)), oo 8 (.alloc [.int .u32 0, .int .u32 0, .int .i64 0, .int .i64 0, .int .i64 0, .int .i64 0, .list (some true) true [], .list (some true) true [], .int .i64 0, .list (some true) true [], .list (some true) true [], .list (some true) true [], .list (some true) true [], .int .i64 0, .int .i64 0, .int .i64 0]), om 7 19, .mk none none (.store 16 (.t 8) (.t 21))]
def c39_13 : LC := .ops [om 22 1, om 23 7, oo 24 (.iaddr 16 (.t 22) (.t 23)), oo 25 (.load (some 16) (.t 24)), oo 9 (.alloc [.int .u32 0, .int .u32 0, .int .i64 0, .int .i64 0, .int .i64 0, .int .i64 0, .list (some true) true [], .list (some true) true [], .int .i64 0, .list (some true) true [], .list (some true) true [], .list (some true) true [], .list (some true) true [], .int .i64 0, .int .i64 0, .int .i64 0]), .mk none none (.store 16 (.t 9) (.t 25))]
def c39_14 : LC := .ops [om 26 2, oo 27 (.load (some 16) (.t 8)), oo 28 (.load (some 16) (.t 9)), oo 29 (.call (.t 26) [.t 27, .t 28]), oo 30 (.un .not (.t 29))]
def c39_15 : LC := .ops [oo 6 (.mov (.c (.bool false)))]
def c39_24 : LC := .ops [oo 31 (.bin .add (.t 17) (.c (.int .i64 1))), om 17 31]
def c39_31 : LC := .ops [oo 6 (.mov (.c (.bool true)))]
def c39_36 : LC := .seq c39_0 (.seq (.seq c39_1 (.cond (.t 14) (.seq c39_2 .ret) .skip)) (.seq (.seq c39_8 (.block 0 (.loop (.seq c39_9 (.seq (.cond (.t 18) .skip (.exit 0)) (.seq (.block 1 (.seq c39_12 (.seq c39_13 (.seq c39_14 (.cond (.t 30) (.seq c39_15 .ret) .skip))))) c39_24)))))) (.seq c39_31 .ret)))
def c39 : LF := .mk 32 c39_36 [.tmp 6]
theorem low39 : aH Tryz.prog Tryz.f39 = some c39 := by kernel_rfl
def c40_0 : LC := .ops [oo 2 (.box (.t 0)), oo 3 (.box (.t 1)), oo 4 (.mov (.c (.bool false)))]
def c40_1 : LC := .ops [oa 5 0 2, ol 6 5, oa 7 0 3, ol 8 7, kb 9 .eql 6 8, om 10 9, ga 11 10 true 1 2, gl 12 10 true 11, ga 13 10 true 1 3, gl 14 10 true 13, og 15 10 true (.bin .eql (.t 12) (.t 14)), pf 16 10 15, om 17 16, ga 18 17 true 2 2, og 19 17 true (.load (some 9) (.t 18)), ga 20 17 true 2 3, og 21 17 true (.load (some 9) (.t 20)), gk 22 17 true 83 [.t 19, .t 21], pf 23 17 22, om 24 23, ga 25 24 true 11 2, gl 26 24 true 25, ga 27 24 true 11 3, gl 28 24 true 27, gk 29 24 true 84 [.t 26, .t 28], pf 30 24 29, om 31 30, ga 32 31 true 12 2, gl 33 31 true 32, ga 34 31 true 12 3, gl 35 31 true 34, gk 36 31 true 85 [.t 33, .t 35], pf 37 31 36, om 38 37, ga 39 38 true 13 2, gl 40 38 true 39, ga 41 38 true 13 3, gl 42 38 true 41, og 43 38 true (.bin .eql (.t 40) (.t 42)), pf 44 38 43, om 45 44, ga 46 45 true 14 2, gl 47 45 true 46, ga 48 45 true 14 3, gl 49 45 true 48, og 50 45 true (.bin .eql (.t 47) (.t 49)), pf 51 45 50, om 52 51, ga 53 52 true 15 2, gl 54 52 true 53, ga 55 52 true 15 3, gl 56 52 true 55, og 57 52 true (.bin .eql (.t 54) (.t 56)), pf 58 52 57, om 4 58]
def c40_4 : LC := .seq c40_0 (.seq c40_1 .ret)
def c40 : LF := .mk 59 c40_4 [.tmp 4]
theorem low40 : aH Tryz.prog Tryz.f40 = some c40 := by kernel_rfl
def c41_0 : LC := .ops [oo 6 (.mov (.c (.bool false)))]
def c41_1 : LC := .ops [om 10 0, on 11 10, om 12 1, on 13 12, kb 14 .neq 11 13]
def c41_2 : LC := .ops [oo 6 (.mov (.c (.bool false)))]
def c41_8 : LC := .ops [om 15 0, on 16 15, oo 17 (.mov (.c (.int .i64 0)))]
def c41_9 : LC := .ops [kb 18 .lss 17 16]
def c41_12 : LC := .ops [om 19 17, oo 20 (.iaddr 9 (.t 15) (.t 17)), oo 21 (.load (some 9) (.t 20)), oo 8 (.alloc [.int .u32 0, .int .i64 0, .list (some true) true [], .list (some true) true [], .list (some true) true [], .int .i64 0, .int .i64 0, .int .u64 0, .list (some true) true []]), om 7 19, .mk none none (.store 9 (.t 8) (.t 21))]
def c41_13 : LC := .ops [om 22 1, om 23 7, oo 24 (.iaddr 9 (.t 22) (.t 23)), oo 25 (.load (some 9) (.t 24)), oo 9 (.alloc [.int .u32 0, .int .i64 0, .list (some true) true [], .list (some true) true [], .list (some true) true [], .int .i64 0, .int .i64 0, .int .u64 0, .list (some true) true []]), .mk none none (.store 9 (.t 9) (.t 25))]
def c41_14 : LC := .ops [om 26 2, oo 27 (.load (some 9) (.t 8)), oo 28 (.load (some 9) (.t 9)), oo 29 (.call (.t 26) [.t 27, .t 28]), oo 30 (.un .not (.t 29))]
def c41_15 : LC := .ops [oo 6 (.mov (.c (.bool false)))]
def c41_24 : LC := .ops [oo 31 (.bin .add (.t 17) (.c (.int .i64 1))), om 17 31]
def c41_31 : LC := .ops [oo 6 (.mov (.c (.bool true)))]
def c41_36 : LC := .seq c41_0 (.seq (.seq c41_1 (.cond (.t 14) (.seq c41_2 .ret) .skip)) (.seq (.seq c41_8 (.block 0 (.loop (.seq c41_9 (.seq (.cond (.t 18) .skip (.exit 0)) (.seq (.block 1 (.seq c41_12 (.seq c41_13 (.seq c41_14 (.cond (.t 30) (.seq c41_15 .ret) .skip))))) c41_24)))))) (.seq c41_31 .ret)))
def c41 : LF := .mk 32 c41_36 [.tmp 6]
theorem low41 : aH Tryz.prog Tryz.f41 = some c41 := by kernel_rfl
def c42_0 : LC := .ops [oo 2 (.box (.t 0)), oo 3 (.box (.t 1)), oo 4 (.mov (.c (.bool false)))]
def c42_1 : LC := .ops [oa 5 0 2, ol 6 5, oa 7 0 3, ol 8 7, kb 9 .eql 6 8, om 10 9, ga 11 10 true 7 2, gl 12 10 true 11, ga 13 10 true 7 3, gl 14 10 true 13, og 15 10 true (.bin .eql (.t 12) (.t 14)), pf 16 10 15, om 17 16, ga 18 17 true 1 2, og 19 17 true (.load (some 6) (.t 18)), ga 20 17 true 1 3, og 21 17 true (.load (some 6) (.t 20)), gk 22 17 true 43 [.t 19, .t 21], pf 23 17 22, om 24 23, ga 25 24 true 8 2, gl 26 24 true 25, ga 27 24 true 8 3, gl 28 24 true 27, og 29 24 true (.call (.c (.fn 44 [])) [.t 26, .t 28, .c (.fn 45 [])]), pf 30 24 29, om 4 30]
def c42_4 : LC := .seq c42_0 (.seq c42_1 .ret)
def c42 : LF := .mk 31 c42_4 [.tmp 4]
theorem low42 : aH Tryz.prog Tryz.f42 = some c42 := by kernel_rfl
def c43_0 : LC := .ops [oo 2 (.box (.t 0)), oo 3 (.box (.t 1)), oo 4 (.mov (.c (.bool false)))]
def c43_1 : LC := .ops [oa 5 0 2, oa 6 0 5, ol 7 6, oa 8 0 3, oa 9 0 8, ol 10 9, kb 11 .eql 7 10, om 12 11, ga 13 12 true 0 2, ga 14 12 true 1 13, gl 15 12 true 14, ga 16 12 true 0 3, ga 17 12 true 1 16, gl 18 12 true 17, gk 19 12 true 86 [.t 15, .t 18], pf 20 12 19, om 21 20, ga 22 21 true 2 2, ga 23 21 true 0 22, gl 24 21 true 23, ga 25 21 true 2 3, ga 26 21 true 0 25, gl 27 21 true 26, gk 28 21 true 87 [.t 24, .t 27], pf 29 21 28, om 30 29, ga 31 30 true 2 2, ga 32 30 true 1 31, gl 33 30 true 32, ga 34 30 true 2 3, ga 35 30 true 1 34, gl 36 30 true 35, gk 37 30 true 88 [.t 33, .t 36], pf 38 30 37, om 39 38, ga 40 39 true 4 2, gl 41 39 true 40, ga 42 39 true 4 3, gl 43 39 true 42, og 44 39 true (.bin .eql (.t 41) (.t 43)), pf 45 39 44, om 46 45, ga 47 46 true 5 2, gl 48 46 true 47, ga 49 46 true 5 3, gl 50 46 true 49, og 51 46 true (.bin .eql (.t 48) (.t 50)), pf 52 46 51, om 4 52]
def c43_4 : LC := .seq c43_0 (.seq c43_1 .ret)
def c43 : LF := .mk 53 c43_4 [.tmp 4]
theorem low43 : aH Tryz.prog Tryz.f43 = some c43 := by kernel_rfl
def c44_0 : LC := .ops [oo 6 (.mov (.c (.bool false)))]
def c44_1 : LC := .ops [om 10 0, on 11 10, om 12 1, on 13 12, kb 14 .neq 11 13]
def c44_2 : LC := .ops [oo 6 (.mov (.c (.bool false)))]
def c44_8 : LC := .ops [om 15 0, on 16 15, oo 17 (.mov (.c (.int .i64 0)))]
def c44_9 : LC := .ops [kb 18 .lss 17 16]
def c44_12 : LC := .ops [om 19 17, oo 20 (.iaddr 17 (.t 15) (.t 17)), oo 21 (.load (some 17) (.t 20)), oo 8 (.alloc [.int .u32 0, .int .i64 0, .int .i64 0, .bool false, .bool false, .int .i64 0, .int .i64 0, .int .i64 0, .int .i64 0, .list (some true) true [], .list (some true) true [], .list (some true) true [], .list (some true) true [], .int .i64 0, .list (some true) true [], .list (some true) true [], .list (some true) true []]), om 7 19, .mk none none (.store 17 (.t 8) (.t 21))]
def c44_13 : LC := .ops [om 22 1, om 23 7, oo 24 (.iaddr 17 (.t 22) (.t 23)), oo 25 (.load (some 17) (.t 24)), oo 9 (.alloc [.int .u32 0, .int .i64 0, .int .i64 0, .bool false, .bool false, .int .i64 0, .int .i64 0, .int .i64 0, .int .i64 0, .list (some true) true [], .list (some true) true [], .list (some true) true [], .list (some true) true [], .int .i64 0, .list (some true) true [], .list (some true) true [], .list (some true) true []]), .mk none none (.store 17 (.t 9) (.t 25))]
def c44_14 : LC := .ops [om 26 2, oo 27 (.load (some 17) (.t 8)), oo 28 (.load (some 17) (.t 9)), oo 29 (.call (.t 26) [.t 27, .t 28]), oo 30 (.un .not (.t 29))]
def c44_15 : LC := .ops [oo 6 (.mov (.c (.bool false)))]
def c44_24 : LC := .ops [oo 31 (.bin .add (.t 17) (.c (.int .i64 1))), om 17 31]
def c44_31 : LC := .ops [oo 6 (.mov (.c (.bool true)))]
def c44_36 : LC := .seq c44_0 (.seq (.seq c44_1 (.cond (.t 14) (.seq c44_2 .ret) .skip)) (.seq (.seq c44_8 (.block 0 (.loop (.seq c44_9 (.seq (.cond (.t 18) .skip (.exit 0)) (.seq (.block 1 (.seq c44_12 (.seq c44_13 (.seq c44_14 (.cond (.t 30) (.seq c44_15 .ret) .skip))))) c44_24)))))) (.seq c44_31 .ret)))
def c44 : LF := .mk 32 c44_36 [.tmp 6]
theorem low44 : aH Tryz.prog Tryz.f44 = some c44 := by kernel_rfl
def c45_0 : LC := .ops [oo 2 (.box (.t 0)), oo 3 (.box (.t 1)), oo 4 (.mov (.c (.bool false)))]
def c45_1 : LC := .ops [oa 5 0 2, ol 6 5, oa 7 0 3, ol 8 7, kb 9 .eql 6 8, om 10 9, ga 11 10 true 1 2, og 12 10 true (.load (some 16) (.t 11)), ga 13 10 true 1 3, og 14 10 true (.load (some 16) (.t 13)), gk 15 10 true 46 [.t 12, .t 14], pf 16 10 15, om 4 16]
def c45_4 : LC := .seq c45_0 (.seq c45_1 .ret)
def c45 : LF := .mk 17 c45_4 [.tmp 4]
theorem low45 : aH Tryz.prog Tryz.f45 = some c45 := by kernel_rfl
def c46_0 : LC := .ops [oo 2 (.box (.t 0)), oo 3 (.box (.t 1)), oo 4 (.mov (.c (.bool false)))]
def c46_1 : LC := .ops [oa 5 0 2, ol 6 5, oa 7 0 3, ol 8 7, kb 9 .eql 6 8, om 10 9, ga 11 10 true 1 2, gl 12 10 true 11, ga 13 10 true 1 3, gl 14 10 true 13, og 15 10 true (.bin .eql (.t 12) (.t 14)), pf 16 10 15, om 17 16, ga 18 17 true 3 2, gl 19 17 true 18, ga 20 17 true 3 3, gl 21 17 true 20, og 22 17 true (.eq .bool false (.t 19) (.t 21)), pf 23 17 22, om 24 23, ga 25 24 true 2 2, gl 26 24 true 25, ga 27 24 true 2 3, gl 28 24 true 27, og 29 24 true (.eq .bool false (.t 26) (.t 28)), pf 30 24 29, om 31 30, ga 32 31 true 4 2, og 33 31 true (.load (some 9) (.t 32)), ga 34 31 true 4 3, og 35 31 true (.load (some 9) (.t 34)), gk 36 31 true 89 [.t 33, .t 35], pf 37 31 36, om 38 37, ga 39 38 true 13 2, gl 40 38 true 39, ga 41 38 true 13 3, gl 42 38 true 41, gk 43 38 true 84 [.t 40, .t 42], pf 44 38 43, om 45 44, ga 46 45 true 14 2, gl 47 45 true 46, ga 48 45 true 14 3, gl 49 45 true 48, gk 50 45 true 84 [.t 47, .t 49], pf 51 45 50, om 52 51, ga 53 52 true 15 2, gl 54 52 true 53, ga 55 52 true 15 3, gl 56 52 true 55, gk 57 52 true 90 [.t 54, .t 56], pf 58 52 57, om 4 58]
def c46_4 : LC := .seq c46_0 (.seq c46_1 .ret)
def c46 : LF := .mk 59 c46_4 [.tmp 4]
theorem low46 : aH Tryz.prog Tryz.f46 = some c46 := by kernel_rfl
def c47_0 : LC := .ops [oo 2 (.box (.t 0)), oo 3 (.box (.t 1)), oo 4 (.mov (.c (.bool false)))]
def c47_1 : LC := .ops [oa 6 0 2, ol 7 6, oa 8 0 3, ol 9 8, kb 10 .neq 7 9, om 11 10, ga 12 11 false 7 2, gl 13 11 false 12, ga 14 11 false 7 3, gl 15 11 false 14, og 16 11 false (.bin .neq (.t 13) (.t 15)), pt 17 11 16, om 18 17, ga 19 18 false 1 2, og 20 18 false (.load (some 6) (.t 19)), ga 21 18 false 1 3, og 22 18 false (.load (some 6) (.t 21)), gk 23 18 false 91 [.t 20, .t 22], og 24 18 false (.un .not (.t 23)), pt 25 18 24, om 26 25, ga 27 26 false 8 2, gl 28 26 false 27, og 29 26 false (.len false (.t 28)), ga 30 26 false 8 3, gl 31 26 false 30, og 32 26 false (.len false (.t 31)), og 33 26 false (.bin .neq (.t 29) (.t 32)), pt 34 26 33]
def c47_2 : LC := .ops [oo 4 (.mov (.c (.bool false)))]
def c47_8 : LC := .ops [oa 35 8 2, ol 36 35, on 37 36, oo 38 (.mov (.c (.int .i64 0)))]
def c47_9 : LC := .ops [kb 39 .lss 38 37]
def c47_12 : LC := .ops [om 40 38, om 5 40]
def c47_13 : LC := .opsX [(oa 41 8 2, []), (ol 42 41, []), (om 43 5, []), (oo 44 (.iaddr 17 (.t 42) (.t 43)), []), (oa 45 0 44, []), (ol 46 45, []), (oa 47 8 3, []), (ol 48 47, []), (om 49 5, []), (oo 50 (.iaddr 17 (.t 48) (.t 49)), []), (oa 51 0 50, []), (ol 52 51, []), (kb 53 .neq 46 52, []), (om 54 53, []), (ga 55 54 false 8 2, []), (gl 56 54 false 55, []), (gm 57 54 false 5, []), (og 58 54 false (.iaddr 17 (.t 56) (.t 57)), []), (ga 59 54 false 1 58, []), (og 60 54 false (.load (some 16) (.t 59)), []), (ga 61 54 false 8 3, []), (gl 62 54 false 61, []), (gm 63 54 false 5, []), (og 64 54 false (.iaddr 17 (.t 62) (.t 63)), []), (ga 65 54 false 1 64, []), (og 66 54 false (.load (some 16) (.t 65)), []), (og 67 54 false (.callX (.c (.fn 92 [])) [.t 60, .t 66]), []), (og 68 54 false (.un .not (.t 67)), []), (pt 69 54 68, [])]
def c47_14 : LC := .ops [oo 4 (.mov (.c (.bool false)))]
def c47_22 : LC := .ops [oo 70 (.bin .add (.t 38) (.c (.int .i64 1))), om 38 70]
def c47_29 : LC := .ops [oo 4 (.mov (.c (.bool true)))]
def c47_34 : LC := .seq c47_0 (.seq (.seq c47_1 (.cond (.t 34) (.seq c47_2 .ret) .skip)) (.seq (.seq c47_8 (.block 0 (.loop (.seq c47_9 (.seq (.cond (.t 39) .skip (.exit 0)) (.seq (.block 1 (.seq c47_12 (.seq c47_13 (.cond (.t 69) (.seq c47_14 .ret) .skip)))) c47_22)))))) (.seq c47_29 .ret)))
def c47 : LF := .mk 71 c47_34 [.tmp 4]
theorem low47 : aH Tryz.prog Tryz.f47 = some c47 := by kernel_rfl
def c48_0 : LC := .ops [oo 1 (.box (.t 0)), oo 2 (.mov (.c (.bool false)))]
def c48_1 : LC := .ops [oa 3 4 1, ol 4 3, on 5 4, oo 6 (.bin .gtr (.t 5) (.c (.int .i64 80))), om 7 6, ga 8 7 false 5 1, gl 9 7 false 8, og 10 7 false (.len false (.t 9)), og 11 7 false (.bin .gtr (.t 10) (.c (.int .i64 40))), pt 12 7 11, om 13 12, ga 14 13 false 7 1, gl 15 13 false 14, og 16 13 false (.len false (.t 15)), og 17 13 false (.bin .gtr (.t 16) (.c (.int .i64 60))), pt 18 13 17, om 19 18, ga 20 19 false 8 1, gl 21 19 false 20, og 22 19 false (.len false (.t 21)), og 23 19 false (.bin .gtr (.t 22) (.c (.int .i64 30))), pt 24 19 23, om 2 24]
def c48_4 : LC := .seq c48_0 (.seq c48_1 .ret)
def c48 : LF := .mk 25 c48_4 [.tmp 2]
theorem low48 : aH Tryz.prog Tryz.f48 = some c48 := by kernel_rfl
def c49_0 : LC := .ops [om 4 0, om 5 1, kk 6 5, oa 7 0 6, kc 8 57 [.t 4, .t 7, .c (.int .u64 11)]]
def c49_1 : LC := .ops [om 9 0, om 10 1, kk 11 10, oa 12 1 11, kc 13 78 [.t 9, .t 12]]
def c49_2 : LC := .ops [om 14 0, om 15 1, kk 16 15, oa 17 2 16, kc 18 53 [.t 14, .t 17, .c (.int .u64 18446744073709551615)]]
def c49_3 : LC := .ops [om 19 0, kk 20 19, oa 21 1 20, ol 22 21, oo 23 (.eq .ptr true (.t 22) (.c .nilp))]
def c49_4 : LC := .ops [om 24 1, om 25 1, kk 26 25, oa 27 1 26, ol 28 27, kk 29 24, oa 30 3 29, .mk none none (.store 1 (.t 30) (.t 28))]
def c49_8 : LC := .ops [om 31 1, kk 32 31, oa 33 0 32, ol 34 33]
def c49_9 : LC := .ops [oo 39 (.bin .eql (.t 34) (.c (.int .i64 1))), om 38 39]
def c49_10 : LC := .ops [om 40 0, om 41 1, kk 42 41, oa 43 5 42, kc 44 93 [.t 40, .t 43]]
def c49_11 : LC := .ops [oo 46 (.bin .eql (.t 34) (.c (.int .i64 2))), om 45 46]
def c49_13 : LC := .ops [oo 48 (.bin .eql (.t 34) (.c (.int .i64 3))), om 47 48]
def c49_14 : LC := .ops [om 49 0, om 50 1, kk 51 50, oa 52 4 51, kc 53 78 [.t 49, .t 52]]
def c49_15 : LC := .ops [om 54 0, om 55 1, kk 56 55, oa 57 11 56, kc 58 94 [.t 54, .t 57]]
def c49_17 : LC := .ops [oo 60 (.bin .eql (.t 34) (.c (.int .i64 4))), om 59 60]
def c49_18 : LC := .ops [om 61 0, om 62 1, kk 63 62, oa 64 4 63, kc 65 78 [.t 61, .t 64]]
def c49_19 : LC := .ops [oo 67 (.bin .eql (.t 34) (.c (.int .i64 5))), om 66 67]
def c49_20 : LC := .ops [om 68 0, om 69 1, kk 70 69, oa 71 27 70, kc 72 95 [.t 68, .t 71]]
def c49_21 : LC := .ops [om 73 0, om 74 1, kk 75 74, oa 76 36 75, kc 77 58 [.t 73, .t 76, .c (.int .i64 64)]]
def c49_22 : LC := .ops [om 78 0, om 79 1, kk 80 79, oa 81 37 80, kc 82 57 [.t 78, .t 81, .c (.int .u64 100)]]
def c49_25 : LC := .ops [oo 84 (.bin .eql (.t 34) (.c (.int .i64 6))), om 83 84]
def c49_26 : LC := .ops [om 85 0, om 86 1, kk 87 86, oa 88 38 87, kc 89 78 [.t 85, .t 88]]
def c49_27 : LC := .ops [om 90 0, om 91 1, kk 92 91, oa 93 27 92, kc 94 95 [.t 90, .t 93]]
def c49_28 : LC := .ops [om 95 0, om 96 1, kk 97 96, oa 98 37 97, kc 99 57 [.t 95, .t 98, .c (.int .u64 100)]]
def c49_29 : LC := .ops [om 100 0, om 101 1, kk 102 101, oa 103 41 102, kc 104 56 [.t 100, .t 103]]
def c49_33 : LC := .ops [oo 106 (.bin .eql (.t 34) (.c (.int .i64 7))), om 105 106]
def c49_34 : LC := .ops [om 107 0, om 108 1, kk 109 108, oa 110 38 109, kc 111 78 [.t 107, .t 110]]
def c49_35 : LC := .ops [om 112 0, om 113 1, kk 114 113, oa 115 39 114, kc 116 57 [.t 112, .t 115, .c (.int .u64 40)]]
def c49_36 : LC := .ops [om 117 0, om 118 1, kk 119 118, oa 120 40 119, kc 121 59 [.t 117, .t 120]]
def c49_39 : LC := .ops [oo 123 (.bin .eql (.t 34) (.c (.int .i64 8))), om 122 123]
def c49_41 : LC := .ops [oo 124 (.bin .eql (.t 34) (.c (.int .i64 10))), om 122 124]
def c49_44 : LC := .ops [om 125 0, om 126 1, kk 127 126, oa 128 38 127, kc 129 78 [.t 125, .t 128]]
def c49_45 : LC := .ops [oo 131 (.bin .eql (.t 34) (.c (.int .i64 9))), om 130 131]
def c49_46 : LC := .ops [om 132 0, om 133 1, kk 134 133, oa 135 38 134, kc 136 78 [.t 132, .t 135]]
def c49_47 : LC := .ops [om 137 0, om 138 1, kk 139 138, oa 140 4 139, kc 141 78 [.t 137, .t 140]]
def c49_49 : LC := .ops [oo 143 (.bin .eql (.t 34) (.c (.int .i64 11))), om 142 143]
def c49_50 : LC := .ops [om 144 0, om 145 1, kk 146 145, oa 147 41 146, kc 148 56 [.t 144, .t 147]]
def c49_51 : LC := .ops [om 35 0, kk 36 35, oa 37 2 36, .mk none none (.store 1 (.t 37) (.c (.bool true)))]
def c49_77 : LC := .seq c49_0 (.seq c49_1 (.seq c49_2 (.seq (.seq c49_3 (.cond (.t 23) c49_4 .skip)) (.seq c49_8 (.block 0 (.seq c49_9 (.cond (.t 38) c49_10 (.seq c49_11 (.cond (.t 45) .skip (.seq c49_13 (.cond (.t 47) (.seq c49_14 c49_15) (.seq c49_17 (.cond (.t 59) c49_18 (.seq c49_19 (.cond (.t 66) (.seq c49_20 (.seq c49_21 c49_22)) (.seq c49_25 (.cond (.t 83) (.seq c49_26 (.seq c49_27 (.seq c49_28 c49_29))) (.seq c49_33 (.cond (.t 105) (.seq c49_34 (.seq c49_35 c49_36)) (.seq (.seq c49_39 (.cond (.t 122) .skip c49_41)) (.cond (.t 122) c49_44 (.seq c49_45 (.cond (.t 130) (.seq c49_46 c49_47) (.seq c49_49 (.cond (.t 142) c49_50 c49_51)))))))))))))))))))))))))
def c49 : LF := .mk 149 c49_77 []
theorem low49 : aH Tryz.prog Tryz.f49 = some c49 := by kernel_rfl
def c50_0 : LC := .ops [oo 2 (.alloc [.int .i64 0, .int .u32 0, .int .u64 0, .int .u32 0, .int .u32 0, .int .i64 0, .list (some true) true [], .list (some true) true [], .list (some true) true [], .int .i64 0, .int .i64 0, .int .i64 0, .int .i64 0, .bool false, .bool false, .int .i64 0, .int .i64 0, .int .i64 0, .int .i64 0, .list (some true) true [], .list (some true) true [], .list (some true) true [], .list (some true) true [], .int .i64 0, .list (some true) true [], .list (some true) true [], .list (some true) true [], .int .i64 0, .int .i64 0, .int .i64 0, .int .i64 0, .list (some true) true [], .list (some true) true [], .int .i64 0, .list (some true) true [], .list (some true) true [], .str (ByteArray.mk (Array.mk [])), .int .i64 0, .int .u32 0, .int .i64 0, .bool false, .int .i64 0]), oo 3 (.mov (.c (.bool false)))]
def c50_1 : LC := .ops [om 6 0, kc 7 30 [.t 6], oo 8 (.build [.nilp, .nilp, .bool false] [(1, 1, .t 7)]), oo 9 (.box (.t 8)), om 4 9]
def c50_2 : LC := .ops [oo 5 (.alloc [.int .i64 0, .int .u32 0, .int .u64 0, .int .u32 0, .int .u32 0, .int .i64 0, .list (some true) true [], .list (some true) true [], .list (some true) true [], .int .i64 0, .int .i64 0, .int .i64 0, .int .i64 0, .bool false, .bool false, .int .i64 0, .int .i64 0, .int .i64 0, .int .i64 0, .list (some true) true [], .list (some true) true [], .list (some true) true [], .list (some true) true [], .int .i64 0, .list (some true) true [], .list (some true) true [], .list (some true) true [], .int .i64 0, .int .i64 0, .int .i64 0, .int .i64 0, .list (some true) true [], .list (some true) true [], .int .i64 0, .list (some true) true [], .list (some true) true [], .str (ByteArray.mk (Array.mk [])), .int .i64 0, .int .u32 0, .int .i64 0, .bool false, .int .i64 0])]
def c50_3 : LC := .ops [om 10 4, kc 11 49 [.t 10, .t 5]]
def c50_4 : LC := .ops [om 12 4, om 13 0, kc 14 31 [.t 12, .t 13, .c (.int .i64 65536)], oo 15 (.un .not (.t 14))]
def c50_5 : LC := .ops [oo 16 (.build [.int .i64 0, .int .u32 0, .int .u64 0, .int .u32 0, .int .u32 0, .int .i64 0, .list (some true) true [], .list (some true) true [], .list (some true) true [], .int .i64 0, .int .i64 0, .int .i64 0, .int .i64 0, .bool false, .bool false, .int .i64 0, .int .i64 0, .int .i64 0, .int .i64 0, .list (some true) true [], .list (some true) true [], .list (some true) true [], .list (some true) true [], .int .i64 0, .list (some true) true [], .list (some true) true [], .list (some true) true [], .int .i64 0, .int .i64 0, .int .i64 0, .int .i64 0, .list (some true) true [], .list (some true) true [], .int .i64 0, .list (some true) true [], .list (some true) true [], .str (ByteArray.mk (Array.mk [])), .int .i64 0, .int .u32 0, .int .i64 0, .bool false, .int .i64 0] []), .mk none none (.store 42 (.t 2) (.t 16)), oo 3 (.mov (.c (.bool false)))]
def c50_11 : LC := .ops [oo 17 (.load (some 42) (.t 5)), .mk none none (.store 42 (.t 2) (.t 17)), oo 3 (.mov (.c (.bool true)))]
def c50_14 : LC := .seq (.seq c50_4 (.cond (.t 15) (.seq c50_5 .ret) .skip)) (.seq c50_11 .ret)
def c50_15 : LC := .seq c50_3 c50_14
def c50_16 : LC := .seq c50_2 c50_15
def c50_17 : LC := .seq c50_1 c50_16
def c50_18 : LC := .seq c50_0 c50_17
def c50 : LF := .mk 18 c50_18 [.cell 2 (some 42), .tmp 3]
theorem low50 : aH Tryz.prog Tryz.f50 = some c50 := by kernel_rfl
def c51_0 : LC := .ops [oo 2 (.box (.t 0)), oo 3 (.box (.t 1)), oo 4 (.mov (.c (.bool false)))]
def c51_1 : LC := .ops [oa 5 0 2, ol 6 5, oa 7 0 3, ol 8 7, kb 9 .eql 6 8, om 10 9, ga 11 10 true 1 2, gl 12 10 true 11, ga 13 10 true 1 3, gl 14 10 true 13, og 15 10 true (.bin .eql (.t 12) (.t 14)), pf 16 10 15, om 17 16, ga 18 17 true 2 2, gl 19 17 true 18, ga 20 17 true 2 3, gl 21 17 true 20, og 22 17 true (.bin .eql (.t 19) (.t 21)), pf 23 17 22, om 24 23, ga 25 24 true 3 2, gl 26 24 true 25, ga 27 24 true 3 3, gl 28 24 true 27, og 29 24 true (.bin .eql (.t 26) (.t 28)), pf 30 24 29, om 31 30, ga 32 31 true 4 2, gl 33 31 true 32, ga 34 31 true 4 3, gl 35 31 true 34, og 36 31 true (.bin .eql (.t 33) (.t 35)), pf 37 31 36, om 38 37, ga 39 38 true 5 2, og 40 38 true (.load (some 6) (.t 39)), ga 41 38 true 5 3, og 42 38 true (.load (some 6) (.t 41)), gk 43 38 true 43 [.t 40, .t 42], pf 44 38 43, om 45 44, ga 46 45 true 11 2, og 47 45 true (.load (some 16) (.t 46)), ga 48 45 true 11 3, og 49 45 true (.load (some 16) (.t 48)), gk 50 45 true 46 [.t 47, .t 49], pf 51 45 50, om 52 51, ga 53 52 true 27 2, og 54 52 true (.load (some 9) (.t 53)), ga 55 52 true 27 3, og 56 52 true (.load (some 9) (.t 55)), gk 57 52 true 83 [.t 54, .t 56], pf 58 52 57, om 59 58, ga 60 59 true 36 2, gl 61 59 true 60, ga 62 59 true 36 3, gl 63 59 true 62, og 64 59 true (.bin .eql (.t 61) (.t 63)), pf 65 59 64, om 66 65, ga 67 66 true 37 2, gl 68 66 true 67, ga 69 66 true 37 3, gl 70 66 true 69, og 71 66 true (.bin .eql (.t 68) (.t 70)), pf 72 66 71, om 73 72, ga 74 73 true 38 2, gl 75 73 true 74, ga 76 73 true 38 3, gl 77 73 true 76, og 78 73 true (.bin .eql (.t 75) (.t 77)), pf 79 73 78, om 80 79, ga 81 80 true 39 2, gl 82 80 true 81, ga 83 80 true 39 3, gl 84 80 true 83, og 85 80 true (.bin .eql (.t 82) (.t 84)), pf 86 80 85, om 87 86, ga 88 87 true 40 2, gl 89 87 true 88, ga 90 87 true 40 3, gl 91 87 true 90, og 92 87 true (.eq .bool false (.t 89) (.t 91)), pf 93 87 92, om 94 93, ga 95 94 true 41 2, gl 96 94 true 95, ga 97 94 true 41 3, gl 98 94 true 97, og 99 94 true (.bin .eql (.t 96) (.t 98)), pf 100 94 99, om 4 100]
def c51_4 : LC := .seq c51_0 (.seq c51_1 .ret)
def c51 : LF := .mk 101 c51_4 [.tmp 4]
theorem low51 : aH Tryz.prog Tryz.f51 = some c51 := by kernel_rfl
def c53_0 : LC := .ops [om 6 0, kk 7 6, oa 8 1 7, ol 9 8, oo 10 (.eq .ptr true (.t 9) (.c .nilp))]
def c53_1 : LC := .ops [om 11 1, om 12 0, kk 13 12, oa 14 1 13, ol 15 14, om 16 2, kc 17 96 [.t 15, .t 16], kk 18 11, .mk none none (.store 1 (.t 18) (.t 17))]
def c53_7 : LC := .ops [om 19 0, om 20 0, kk 21 20, oa 22 2 21, ol 23 22, om 24 23, gm 25 24 false 1, og 26 24 false (.chk (.t 25)), gl 27 24 false 26, gm 28 24 false 2, og 29 24 false (.bin .gtr (.t 27) (.t 28)), pt 30 24 29, kk 31 19, oa 32 2 31, .mk none none (.store 1 (.t 32) (.t 30))]
def c53_8 : LC := .opsX [(om 33 0, []), (kk 34 33, []), (oa 35 0 34, []), (ol 36 35, []), (om 37 1, []), (kk 38 37, []), (ol 39 38, []), (kx 40 97 [.t 36, .t 39], [])]
def c53_10 : LC := .seq (.seq c53_0 (.cond (.t 10) (.seq c53_1 .ret) .skip)) (.seq c53_7 c53_8)
def c53 : LF := .mk 41 c53_10 []
theorem low53 : aH Tryz.prog Tryz.f53 = some c53 := by kernel_rfl
def rc_0 : LC := .ops [om 12 1, kk 13 12, ol 14 13, on 15 14, oo 16 (.conv .u64 (.t 15)), oo 8 (.alloc [.int .u64 0]), .mk none none (.store 1 (.t 8) (.t 16))]
def rc_1 : LC := .ops [om 17 0, om 18 2, oo 19 (.conv .u64 (.t 18)), kc 20 53 [.t 17, .t 8, .t 19]]
def rc_2 : LC := .ops [om 21 0, kk 22 21, oa 23 1 22, ol 24 23, oo 25 (.eq .ptr false (.t 24) (.c .nilp))]
def rc_3 : LC := .ops [om 26 1, kk 27 26, ol 28 27, on 29 28, oo 30 (.mov (.c (.int .i64 0)))]
def rc_4 : LC := .ops [kb 31 .lss 30 29]
def rc_5 : LC := .skip
def rc_6 : LC := .cond (.t 31) rc_5 (.exit 0)
def rc_7 : LC := .ops [om 32 30, om 9 32]
def rc_8 (n b : Nat) (ld : Option Nat) (z : List D) : LC := LC.ops [LOp.mk (some 33) none (LK.mov (LO.t 1)), LOp.mk (some 34) none (LK.chk (LO.t 33)), LOp.mk (some 35) none (LK.load none (LO.t 34)), LOp.mk (some 36) none (LK.mov (LO.t 9)), LOp.mk (some 37) none (LK.iaddr n (LO.t 35) (LO.t 36)), LOp.mk (some 38) none (LK.load ld (LO.t 37)), LOp.mk (some 10) none (LK.alloc z), LOp.mk none none (LK.store n (LO.t 10) (LO.t 38))]
def rc_9 : LC := .ops [om 39 3, oo 40 (.call (.t 39) [.t 10])]
def rc_10 (n b : Nat) (ld : Option Nat) (z : List D) : LC := LC.seq (rc_8 n b ld z) rc_9
def rc_11 (n b : Nat) (ld : Option Nat) (z : List D) : LC := LC.seq rc_7 (rc_10 n b ld z)
def rc_12 (n b : Nat) (ld : Option Nat) (z : List D) : LC := LC.block 1 (rc_11 n b ld z)
def rc_13 : LC := .ops [oo 41 (.bin .add (.t 30) (.c (.int .i64 1))), om 30 41]
def rc_14 (n b : Nat) (ld : Option Nat) (z : List D) : LC := LC.seq (rc_12 n b ld z) rc_13
def rc_15 (n b : Nat) (ld : Option Nat) (z : List D) : LC := LC.seq rc_6 (rc_14 n b ld z)
def rc_16 (n b : Nat) (ld : Option Nat) (z : List D) : LC := LC.seq rc_4 (rc_15 n b ld z)
def rc_17 (n b : Nat) (ld : Option Nat) (z : List D) : LC := LC.loop (rc_16 n b ld z)
def rc_18 (n b : Nat) (ld : Option Nat) (z : List D) : LC := LC.block 0 (rc_17 n b ld z)
def rc_19 (n b : Nat) (ld : Option Nat) (z : List D) : LC := LC.seq rc_3 (rc_18 n b ld z)
def rc_20 : LC := .ret
def rc_21 (n b : Nat) (ld : Option Nat) (z : List D) : LC := LC.seq (rc_19 n b ld z) rc_20
def rc_22 : LC := .skip
def rc_23 (n b : Nat) (ld : Option Nat) (z : List D) : LC := LC.cond (LO.t 25) (rc_21 n b ld z) rc_22
def rc_24 (n b : Nat) (ld : Option Nat) (z : List D) : LC := LC.seq rc_2 (rc_23 n b ld z)
def rc_25 : LC := .ops [ol 42 8, oo 43 (.mov (.c (.int .u64 0)))]
def rc_26 : LC := .ops [kb 44 .lss 43 42]
def rc_27 : LC := .skip
def rc_28 : LC := .cond (.t 44) rc_27 (.exit 2)
def rc_29 (n b : Nat) (ld : Option Nat) (z : List D) : LC := LC.ops [LOp.mk (some 11) none (LK.alloc z)]
def rc_30 : LC := .ops [om 45 3, oo 46 (.call (.t 45) [.t 11])]
def rc_31 : LC := .ops [om 47 0, kk 48 47, oa 49 1 48, ol 50 49, kc 51 98 [.t 50], om 52 51, gm 53 52 false 0, og 54 52 false (.chk (.t 53)), ga 55 52 false 2 54, gl 56 52 false 55, pt 57 52 56]
def rc_32 : LC := .ret
def rc_33 : LC := .skip
def rc_34 : LC := .cond (.t 57) rc_32 rc_33
def rc_35 : LC := .seq rc_31 rc_34
def rc_36 (n b : Nat) (ld : Option Nat) (z : List D) : LC := LC.opsX [(LOp.mk (some 58) none (LK.mov (LO.t 1)), []), (LOp.mk (some 59) none (LK.mov (LO.t 1)), []), (LOp.mk (some 60) none (LK.chk (LO.t 59)), []), (LOp.mk (some 61) none (LK.load none (LO.t 60)), []), (LOp.mk (some 62) none (LK.load ld (LO.t 11)), []), (LOp.mk (some 63) none (LK.slit n [LO.t 62]), []), (LOp.mk (some 64) none (LK.app n b (LO.t 61) (LO.t 63)), []), (LOp.mk (some 65) none (LK.chk (LO.t 58)), []), (LOp.mk none none (LK.store 1 (LO.t 65) (LO.t 64)), [])]
def rc_37 (n b : Nat) (ld : Option Nat) (z : List D) : LC := LC.seq rc_35 (rc_36 n b ld z)
def rc_38 (n b : Nat) (ld : Option Nat) (z : List D) : LC := LC.seq rc_30 (rc_37 n b ld z)
def rc_39 (n b : Nat) (ld : Option Nat) (z : List D) : LC := LC.seq (rc_29 n b ld z) (rc_38 n b ld z)
def rc_40 (n b : Nat) (ld : Option Nat) (z : List D) : LC := LC.block 3 (rc_39 n b ld z)
def rc_41 : LC := .ops [oo 66 (.bin .add (.t 43) (.c (.int .u64 1))), om 43 66]
def rc_42 (n b : Nat) (ld : Option Nat) (z : List D) : LC := LC.seq (rc_40 n b ld z) rc_41
def rc_43 (n b : Nat) (ld : Option Nat) (z : List D) : LC := LC.seq rc_28 (rc_42 n b ld z)
def rc_44 (n b : Nat) (ld : Option Nat) (z : List D) : LC := LC.seq rc_26 (rc_43 n b ld z)
def rc_45 (n b : Nat) (ld : Option Nat) (z : List D) : LC := LC.loop (rc_44 n b ld z)
def rc_46 (n b : Nat) (ld : Option Nat) (z : List D) : LC := LC.block 2 (rc_45 n b ld z)
def rc_47 (n b : Nat) (ld : Option Nat) (z : List D) : LC := LC.seq rc_25 (rc_46 n b ld z)
def rc_48 (n b : Nat) (ld : Option Nat) (z : List D) : LC := LC.seq (rc_24 n b ld z) (rc_47 n b ld z)
def rc_49 (n b : Nat) (ld : Option Nat) (z : List D) : LC := LC.seq rc_1 (rc_48 n b ld z)
def rc_50 (n b : Nat) (ld : Option Nat) (z : List D) : LC := LC.seq rc_0 (rc_49 n b ld z)
def du (n b : Nat) (ld : Option Nat) (z : List D) : LF := LF.mk 67 (rc_50 n b ld z) []
def c56_0 : LC := .ops [om 4 0, om 5 1, kc 6 99 [.t 4, .t 5, .c (.int .i64 (-9223372036854775808)), .c (.int .i64 9223372036854775807)]]
def c56 : LF := .mk 7 c56_0 []
theorem low56 : aH Tryz.prog Tryz.f56 = some c56 := by kernel_rfl
def c57_0 : LC := .ops [om 6 0, kk 7 6, oa 8 1 7, ol 9 8, oo 10 (.eq .ptr true (.t 9) (.c .nilp))]
def c57_1 : LC := .ops [om 11 1, om 12 0, kk 13 12, oa 14 1 13, ol 15 14, om 16 2, kc 17 96 [.t 15, .t 16], oo 18 (.conv .i64 (.t 17)), kk 19 11, .mk none none (.store 1 (.t 19) (.t 18))]
def c57_7 : LC := .ops [om 20 0, om 21 0, kk 22 21, oa 23 2 22, ol 24 23, om 25 24, gm 26 25 false 1, og 27 25 false (.chk (.t 26)), gl 28 25 false 27, og 29 25 false (.conv .u64 (.t 28)), gm 30 25 false 2, og 31 25 false (.bin .gtr (.t 29) (.t 30)), pt 32 25 31, kk 33 20, oa 34 2 33, .mk none none (.store 1 (.t 34) (.t 32))]
def c57_8 : LC := .opsX [(om 35 0, []), (kk 36 35, []), (oa 37 0 36, []), (ol 38 37, []), (om 39 1, []), (kk 40 39, []), (ol 41 40, []), (oo 42 (.conv .u64 (.t 41)), []), (kx 43 97 [.t 38, .t 42], [])]
def c57_10 : LC := .seq (.seq c57_0 (.cond (.t 10) (.seq c57_1 .ret) .skip)) (.seq c57_7 c57_8)
def c57 : LF := .mk 44 c57_10 []
theorem low57 : aH Tryz.prog Tryz.f57 = some c57 := by kernel_rfl
def c59_0 : LC := .ops [om 4 0, kk 5 4, oa 6 1 5, ol 7 6, oo 8 (.eq .ptr true (.t 7) (.c .nilp))]
def c59_1 : LC := .ops [om 9 1, om 10 0, kk 11 10, oa 12 1 11, ol 13 12, kc 14 102 [.t 13], kk 15 9, .mk none none (.store 1 (.t 15) (.t 14))]
def c59_7 : LC := .opsX [(om 16 0, []), (kk 17 16, []), (oa 18 0 17, []), (ol 19 18, []), (om 20 1, []), (kk 21 20, []), (ol 22 21, []), (kx 23 103 [.t 19, .t 22], [])]
def c59_8 : LC := .seq (.seq c59_0 (.cond (.t 8) (.seq c59_1 .ret) .skip)) c59_7
def c59 : LF := .mk 24 c59_8 []
theorem low59 : aH Tryz.prog Tryz.f59 = some c59 := by kernel_rfl
def c60_0 : LC := .ops [oo 2 (.box (.t 0))]
def c60_1 : LC := .opsX [(ol 4 2, []), (om 5 1, []), (kk 6 5, []), (oa 7 0 6, []), (kx 8 78 [.t 4, .t 7], [])]
def c60_2 : LC := .opsX [(ol 9 2, []), (om 10 1, []), (kk 11 10, []), (oa 12 1 11, []), (kx 13 78 [.t 9, .t 12], [])]
def c60_3 : LC := .opsX [(ol 14 2, []), (om 15 1, []), (kk 16 15, []), (oa 17 2 16, []), (kx 18 95 [.t 14, .t 17], [])]
def c60_4 : LC := .opsX [(ol 19 2, []), (om 20 1, []), (kk 21 20, []), (oa 22 11 21, []), (oo 23 (.mkfn 105 [.t 2]), []), (kx 24 104 [.t 19, .t 22, .c (.int .i64 40), .t 23], [])]
def c60_5 : LC := .opsX [(ol 25 2, []), (om 26 1, []), (kk 27 26, []), (oa 28 12 27, []), (oo 29 (.mkfn 107 [.t 2]), []), (kx 30 106 [.t 25, .t 28, .c (.int .i64 4096), .t 29], [])]
def c60_6 : LC := .opsX [(ol 31 2, []), (om 32 1, []), (kk 33 32, []), (oa 34 13 33, []), (kx 35 56 [.t 31, .t 34], [])]
def c60_7 : LC := .opsX [(ol 36 2, []), (om 37 1, []), (kk 38 37, []), (oa 39 14 38, []), (kx 40 57 [.t 36, .t 39, .c (.int .u64 4)], [])]
def c60_8 : LC := .opsX [(ol 41 2, []), (om 42 1, []), (kk 43 42, []), (oa 44 15 43, []), (kx 45 57 [.t 41, .t 44, .c (.int .u64 40)], [])]
def c60_16 : LC := .seq c60_0 (.seq c60_1 (.seq c60_2 (.seq c60_3 (.seq c60_4 (.seq c60_5 (.seq c60_6 (.seq c60_7 c60_8)))))))
def c60 : LF := .mk 46 c60_16 []
theorem low60 : aH Tryz.prog Tryz.f60 = some c60 := by kernel_rfl
def c61_0 : LC := .ops [oo 2 (.mov (.c (.list (some true) true [])))]
def c61_1 : LC := .ops [om 3 0, oo 4 (.eq .ptr false (.t 3) (.c .nilp))]
def c61_2 : LC := .ops [oo 2 (.mov (.c (.list (some true) true [])))]
def c61_8 : LC := .ops [om 5 0, kk 6 5, oa 7 0 6, ol 8 7, kc 9 71 [.t 8], om 2 9]
def c61_12 : LC := .seq c61_0 (.seq (.seq c61_1 (.cond (.t 4) (.seq c61_2 .ret) .skip)) (.seq c61_8 .ret))
def c61 : LF := .mk 10 c61_12 [.tmp 2]
theorem low61 : aH Tryz.prog Tryz.f61 = some c61 := by kernel_rfl
def c63_0 : LC := .ops [oo 2 (.mov (.c (.str (ByteArray.mk (Array.mk [])))))]
def c63_1 : LC := .ops [om 3 0, oo 4 (.bin .lss (.t 3) (.c (.int .u64 128)))]
def c63_2 : LC := .ops [om 5 0, oo 6 (.conv .u8 (.t 5)), oo 7 (.slit 1 [.t 6]), oo 8 (.b2s (.t 7)), om 2 8]
def c63_8 : LC := .opsX [(om 9 0, []), (oo 10 (.bin .rem (.t 9) (.c (.int .u64 128))), []), (oo 11 (.bin .add (.c (.int .u64 128)) (.t 10)), []), (oo 12 (.conv .u8 (.t 11)), []), (oo 13 (.slit 1 [.t 12]), []), (oo 14 (.b2s (.t 13)), []), (om 15 0, []), (oo 16 (.bin .quo (.t 15) (.c (.int .u64 128))), []), (kx 17 63 [.t 16], [13]), (kb 18 .add 14 17, []), (om 2 18, [])]
def c63_12 : LC := .seq c63_0 (.seq (.seq c63_1 (.cond (.t 4) (.seq c63_2 .ret) .skip)) (.seq c63_8 .ret))
def c63 : LF := .mk 19 c63_12 [.tmp 2]
theorem low63 : aH Tryz.prog Tryz.f63 = some c63 := by kernel_rfl
def c64_0 : LC := .ops [oo 2 (.mov (.c (.str (ByteArray.mk (Array.mk [])))))]
def c64_1 : LC := .ops [om 3 0, oo 4 (.bin .geq (.t 3) (.c (.int .i64 0)))]
def c64_2 : LC := .ops [om 5 0, oo 6 (.conv .u64 (.t 5)), oo 7 (.bin .mul (.c (.int .u64 2)) (.t 6)), kc 8 63 [.t 7], om 2 8]
def c64_8 : LC := .ops [om 9 0, oo 10 (.bin .add (.t 9) (.c (.int .i64 1))), oo 11 (.un .neg (.t 10)), oo 12 (.conv .u64 (.t 11)), oo 13 (.bin .mul (.c (.int .u64 2)) (.t 12)), oo 14 (.bin .add (.t 13) (.c (.int .u64 1))), kc 15 63 [.t 14], om 2 15]
def c64_12 : LC := .seq c64_0 (.seq (.seq c64_1 (.cond (.t 4) (.seq c64_2 .ret) .skip)) (.seq c64_8 .ret))
def c64 : LF := .mk 16 c64_12 [.tmp 2]
theorem low64 : aH Tryz.prog Tryz.f64 = some c64 := by kernel_rfl
def c66_0 : LC := .ops [oo 2 (.mov (.c (.str (ByteArray.mk (Array.mk [])))))]
def c66_1 : LC := .ops [om 3 0]
def c66_2 : LC := .ops [oo 2 (.mov (.c (.str (ByteArray.mk (Array.mk [UInt8.ofNat 1])))))]
def c66_8 : LC := .ops [oo 2 (.mov (.c (.str (ByteArray.mk (Array.mk [UInt8.ofNat 0])))))]
def c66_12 : LC := .seq c66_0 (.seq (.seq c66_1 (.cond (.t 3) (.seq c66_2 .ret) .skip)) (.seq c66_8 .ret))
def c66 : LF := .mk 4 c66_12 [.tmp 2]
theorem low66 : aH Tryz.prog Tryz.f66 = some c66 := by kernel_rfl
def c67_0 : LC := .ops [oo 2 (.box (.t 0)), oo 3 (.box (.t 1)), oo 4 (.alloc [.str (ByteArray.mk (Array.mk [])), .bool false])]
def c67_1 : LC := .opsX [(oo 8 (.load (some 2) (.t 2)), []), (oa 9 0 3, []), (oa 10 0 9, []), (ol 11 10, []), (kx 12 25 [.t 8, .t 11], [14, 17, 20, 23]), (oa 13 0 3, []), (oa 14 1 13, []), (ol 15 14, []), (kx 16 25 [.t 12, .t 15], [17, 20, 23]), (oa 17 2 3, []), (ol 18 17, []), (kx 19 23 [.t 16, .t 18, .c (.int .i64 10080)], [20, 23]), (oa 20 3 3, []), (ol 21 20, []), (kx 22 23 [.t 19, .t 21, .c (.int .i64 1440)], [23]), (oa 23 4 3, []), (ol 24 23, []), (on 25 24, []), (kx 26 23 [.t 22, .t 25, .c (.int .i64 64)], []), (.mk none none (.store 2 (.t 2) (.t 26)), [])]
def c67_2 : LC := .ops [oa 27 4 3, ol 28 27, on 29 28, oo 30 (.mov (.c (.int .i64 0)))]
def c67_3 : LC := .ops [kb 31 .lss 30 29]
def c67_6 : LC := .ops [om 32 30, om 5 32]
def c67_7 : LC := .opsX [(oo 33 (.load (some 2) (.t 2)), []), (oa 34 4 3, []), (ol 35 34, []), (om 36 5, []), (oo 37 (.iaddr 1 (.t 35) (.t 36)), []), (ol 38 37, []), (oo 39 (.conv .u64 (.t 38)), []), (kx 40 24 [.t 33, .t 39], []), (.mk none none (.store 2 (.t 2) (.t 40)), [])]
def c67_10 : LC := .ops [oo 41 (.bin .add (.t 30) (.c (.int .i64 1))), om 30 41]
def c67_17 : LC := .ops [oo 42 (.load (some 2) (.t 2)), oa 43 5 3, ol 44 43, on 45 44, kc 46 23 [.t 42, .t 45, .c (.int .i64 16)], .mk none none (.store 2 (.t 2) (.t 46))]
def c67_18 : LC := .ops [oa 47 5 3, ol 48 47, on 49 48, oo 50 (.mov (.c (.int .i64 0)))]
def c67_19 : LC := .ops [kb 51 .lss 50 49]
def c67_22 : LC := .ops [om 52 50, om 6 52]
def c67_23 : LC := .opsX [(oo 53 (.load (some 2) (.t 2)), []), (oa 54 5 3, []), (ol 55 54, []), (om 56 6, []), (oo 57 (.iaddr 2 (.t 55) (.t 56)), []), (oa 58 0 57, []), (ol 59 58, []), (oo 60 (.conv .u64 (.t 59)), []), (kx 61 24 [.t 53, .t 60], [62, 66]), (oa 62 5 3, []), (ol 63 62, []), (om 64 6, []), (oo 65 (.iaddr 2 (.t 63) (.t 64)), []), (oa 66 1 65, []), (ol 67 66, []), (kx 68 23 [.t 61, .t 67, .c (.int .i64 1000)], []), (.mk none none (.store 2 (.t 2) (.t 68)), [])]
def c67_26 : LC := .ops [oo 69 (.bin .add (.t 50) (.c (.int .i64 1))), om 50 69]
def c67_33 : LC := .opsX [(oo 70 (.load (some 2) (.t 2)), []), (oa 71 6 3, []), (ol 72 71, []), (kx 73 23 [.t 70, .t 72, .c (.int .i64 100)], [74]), (oa 74 7 3, []), (ol 75 74, []), (on 76 75, []), (kx 77 23 [.t 73, .t 76, .c (.int .i64 32)], []), (.mk none none (.store 2 (.t 2) (.t 77)), [])]
def c67_34 : LC := .ops [oa 78 7 3, ol 79 78, on 80 79, oo 81 (.mov (.c (.int .i64 0)))]
def c67_35 : LC := .ops [kb 82 .lss 81 80]
def c67_38 : LC := .ops [om 83 81, om 7 83]
def c67_39 : LC := .opsX [(oo 84 (.load (some 2) (.t 2)), []), (oa 85 7 3, []), (ol 86 85, []), (om 87 7, []), (oo 88 (.iaddr 2 (.t 86) (.t 87)), []), (oa 89 0 88, []), (ol 90 89, []), (oo 91 (.conv .u64 (.t 90)), []), (kx 92 24 [.t 84, .t 91], [93, 97]), (oa 93 7 3, []), (ol 94 93, []), (om 95 7, []), (oo 96 (.iaddr 2 (.t 94) (.t 95)), []), (oa 97 1 96, []), (ol 98 97, []), (oo 99 (.conv .u64 (.t 98)), []), (kx 100 24 [.t 92, .t 99], []), (.mk none none (.store 2 (.t 2) (.t 100)), [])]
def c67_42 : LC := .ops [oo 101 (.bin .add (.t 81) (.c (.int .i64 1))), om 81 101]
def c67_49 : LC := .ops [oo 102 (.load (some 2) (.t 2)), oa 103 8 3, ol 104 103, kc 105 80 [.t 102, .t 104, .c (.int .i64 8)], .mk none none (.store 2 (.t 4) (.t 105))]
def c67_58 : LC := .seq c67_0 (.seq c67_1 (.seq (.seq c67_2 (.block 0 (.loop (.seq c67_3 (.seq (.cond (.t 31) .skip (.exit 0)) (.seq (.block 1 (.seq c67_6 c67_7)) c67_10)))))) (.seq c67_17 (.seq (.seq c67_18 (.block 2 (.loop (.seq c67_19 (.seq (.cond (.t 51) .skip (.exit 2)) (.seq (.block 3 (.seq c67_22 c67_23)) c67_26)))))) (.seq c67_33 (.seq (.seq c67_34 (.block 4 (.loop (.seq c67_35 (.seq (.cond (.t 82) .skip (.exit 4)) (.seq (.block 5 (.seq c67_38 c67_39)) c67_42)))))) (.seq c67_49 .ret)))))))
def c67 : LF := .mk 106 c67_58 [.cell 4 (some 2)]
theorem low67 : aH Tryz.prog Tryz.f67 = some c67 := by kernel_rfl
def c68_0 : LC := .ops [oo 3 (.box (.t 0)), oo 6 (.alloc [.str (ByteArray.mk (Array.mk [])), .bool false])]
def c68_1 : LC := .ops [oo 8 (.load (some 2) (.t 3)), om 9 1, on 10 9, om 11 2, kc 12 23 [.t 8, .t 10, .t 11], .mk none none (.store 2 (.t 3) (.t 12))]
def c68_2 : LC := .ops [om 13 1, on 14 13, oo 15 (.mov (.c (.int .i64 0)))]
def c68_3 : LC := .ops [kb 16 .lss 15 14]
def c68_6 : LC := .ops [om 17 15, om 7 17]
def c68_7 : LC := .opsX [(oo 18 (.load (some 2) (.t 3)), []), (om 19 1, []), (om 20 7, []), (oo 21 (.iaddr 1 (.t 19) (.t 20)), []), (ol 22 21, []), (kx 23 25 [.t 18, .t 22], []), (.mk none none (.store 2 (.t 3) (.t 23)), [])]
def c68_10 : LC := .ops [oo 24 (.bin .add (.t 15) (.c (.int .i64 1))), om 15 24]
def c68_17 : LC := .ops [oo 25 (.load (some 2) (.t 3)), .mk none none (.store 2 (.t 6) (.t 25))]
def c68_22 : LC := .seq c68_0 (.seq c68_1 (.seq (.seq c68_2 (.block 0 (.loop (.seq c68_3 (.seq (.cond (.t 16) .skip (.exit 0)) (.seq (.block 1 (.seq c68_6 c68_7)) c68_10)))))) (.seq c68_17 .ret)))
def c68 : LF := .mk 26 c68_22 [.cell 6 (some 2)]
theorem low68 : aH Tryz.prog Tryz.f68 = some c68 := by kernel_rfl
def c69_0 : LC := .ops [oo 2 (.box (.t 0)), oo 3 (.box (.t 1)), oo 4 (.mov (.c (.bool false)))]
def c69_1 : LC := .ops [oa 8 0 2, oo 9 (.load (some 2) (.t 8)), oa 10 0 3, oo 11 (.load (some 2) (.t 10)), oo 12 (.eq (.row [.int, .int]) true (.t 9) (.t 11)), om 13 12, ga 14 13 false 2 2, gl 15 13 false 14, ga 16 13 false 2 3, gl 17 13 false 16, og 18 13 false (.bin .neq (.t 15) (.t 17)), pt 19 13 18, om 20 19, ga 21 20 false 3 2, gl 22 20 false 21, ga 23 20 false 3 3, gl 24 20 false 23, og 25 20 false (.bin .neq (.t 22) (.t 24)), pt 26 20 25, om 27 26, ga 28 27 false 6 2, gl 29 27 false 28, ga 30 27 false 6 3, gl 31 27 false 30, og 32 27 false (.bin .neq (.t 29) (.t 31)), pt 33 27 32, om 34 33, ga 35 34 false 4 2, gl 36 34 false 35, og 37 34 false (.len false (.t 36)), ga 38 34 false 4 3, gl 39 34 false 38, og 40 34 false (.len false (.t 39)), og 41 34 false (.bin .neq (.t 37) (.t 40)), pt 42 34 41, om 43 42, ga 44 43 false 5 2, gl 45 43 false 44, og 46 43 false (.len false (.t 45)), ga 47 43 false 5 3, gl 48 43 false 47, og 49 43 false (.len false (.t 48)), og 50 43 false (.bin .neq (.t 46) (.t 49)), pt 51 43 50, om 52 51, ga 53 52 false 7 2, gl 54 52 false 53, og 55 52 false (.len false (.t 54)), ga 56 52 false 7 3, gl 57 52 false 56, og 58 52 false (.len false (.t 57)), og 59 52 false (.bin .neq (.t 55) (.t 58)), pt 60 52 59]
def c69_2 : LC := .ops [oo 4 (.mov (.c (.bool false)))]
def c69_8 : LC := .ops [oa 61 4 2, ol 62 61, on 63 62, oo 64 (.mov (.c (.int .i64 0)))]
def c69_9 : LC := .ops [kb 65 .lss 64 63]
def c69_12 : LC := .ops [om 66 64, om 5 66]
def c69_13 : LC := .opsX [(oa 67 4 2, []), (ol 68 67, []), (om 69 5, []), (oo 70 (.iaddr 1 (.t 68) (.t 69)), []), (ol 71 70, []), (oa 72 4 3, []), (ol 73 72, []), (om 74 5, []), (oo 75 (.iaddr 1 (.t 73) (.t 74)), []), (ol 76 75, []), (kb 77 .neq 71 76, [])]
def c69_14 : LC := .ops [oo 4 (.mov (.c (.bool false)))]
def c69_22 : LC := .ops [oo 78 (.bin .add (.t 64) (.c (.int .i64 1))), om 64 78]
def c69_29 : LC := .ops [oa 79 5 2, ol 80 79, on 81 80, oo 82 (.mov (.c (.int .i64 0)))]
def c69_30 : LC := .ops [kb 83 .lss 82 81]
def c69_33 : LC := .ops [om 84 82, om 6 84]
def c69_34 : LC := .opsX [(oa 85 5 2, []), (ol 86 85, []), (om 87 6, []), (oo 88 (.iaddr 2 (.t 86) (.t 87)), []), (oo 89 (.load (some 2) (.t 88)), []), (oa 90 5 3, []), (ol 91 90, []), (om 92 6, []), (oo 93 (.iaddr 2 (.t 91) (.t 92)), []), (oo 94 (.load (some 2) (.t 93)), []), (oo 95 (.eq (.row [.int, .int]) true (.t 89) (.t 94)), [])]
def c69_35 : LC := .ops [oo 4 (.mov (.c (.bool false)))]
def c69_43 : LC := .ops [oo 96 (.bin .add (.t 82) (.c (.int .i64 1))), om 82 96]
def c69_50 : LC := .ops [oa 97 7 2, ol 98 97, on 99 98, oo 100 (.mov (.c (.int .i64 0)))]
def c69_51 : LC := .ops [kb 101 .lss 100 99]
def c69_54 : LC := .ops [om 102 100, om 7 102]
def c69_55 : LC := .opsX [(oa 103 7 2, []), (ol 104 103, []), (om 105 7, []), (oo 106 (.iaddr 2 (.t 104) (.t 105)), []), (oo 107 (.load (some 2) (.t 106)), []), (oa 108 7 3, []), (ol 109 108, []), (om 110 7, []), (oo 111 (.iaddr 2 (.t 109) (.t 110)), []), (oo 112 (.load (some 2) (.t 111)), []), (oo 113 (.eq (.row [.int, .int]) true (.t 107) (.t 112)), [])]
def c69_56 : LC := .ops [oo 4 (.mov (.c (.bool false)))]
def c69_64 : LC := .ops [oo 114 (.bin .add (.t 100) (.c (.int .i64 1))), om 100 114]
def c69_71 : LC := .ops [oa 115 8 2, ol 116 115, oa 117 8 3, ol 118 117, kc 119 108 [.t 116, .t 118], om 4 119]
def c69_78 : LC := .seq c69_0 (.seq (.seq c69_1 (.cond (.t 60) (.seq c69_2 .ret) .skip)) (.seq (.seq c69_8 (.block 0 (.loop (.seq c69_9 (.seq (.cond (.t 65) .skip (.exit 0)) (.seq (.block 1 (.seq c69_12 (.seq c69_13 (.cond (.t 77) (.seq c69_14 .ret) .skip)))) c69_22)))))) (.seq (.seq c69_29 (.block 2 (.loop (.seq c69_30 (.seq (.cond (.t 83) .skip (.exit 2)) (.seq (.block 3 (.seq c69_33 (.seq c69_34 (.cond (.t 95) (.seq c69_35 .ret) .skip)))) c69_43)))))) (.seq (.seq c69_50 (.block 4 (.loop (.seq c69_51 (.seq (.cond (.t 101) .skip (.exit 4)) (.seq (.block 5 (.seq c69_54 (.seq c69_55 (.cond (.t 113) (.seq c69_56 .ret) .skip)))) c69_64)))))) (.seq c69_71 .ret)))))
def c69 : LF := .mk 120 c69_78 [.tmp 4]
theorem low69 : aH Tryz.prog Tryz.f69 = some c69 := by kernel_rfl
def c70_0 : LC := .ops [oo 4 (.mov (.c (.bool false)))]
def c70_1 : LC := .ops [om 6 0, on 7 6, om 8 1, on 9 8, kb 10 .neq 7 9]
def c70_2 : LC := .ops [oo 4 (.mov (.c (.bool false)))]
def c70_8 : LC := .ops [om 11 0, on 12 11, oo 13 (.mov (.c (.int .i64 0)))]
def c70_9 : LC := .ops [kb 14 .lss 13 12]
def c70_12 : LC := .ops [om 15 13, om 5 15]
def c70_13 : LC := .opsX [(om 16 0, []), (om 17 5, []), (oo 18 (.iaddr 1 (.t 16) (.t 17)), []), (ol 19 18, []), (om 20 1, []), (om 21 5, []), (oo 22 (.iaddr 1 (.t 20) (.t 21)), []), (ol 23 22, []), (kb 24 .neq 19 23, [])]
def c70_14 : LC := .ops [oo 4 (.mov (.c (.bool false)))]
def c70_22 : LC := .ops [oo 25 (.bin .add (.t 13) (.c (.int .i64 1))), om 13 25]
def c70_29 : LC := .ops [oo 4 (.mov (.c (.bool true)))]
def c70_34 : LC := .seq c70_0 (.seq (.seq c70_1 (.cond (.t 10) (.seq c70_2 .ret) .skip)) (.seq (.seq c70_8 (.block 0 (.loop (.seq c70_9 (.seq (.cond (.t 14) .skip (.exit 0)) (.seq (.block 1 (.seq c70_12 (.seq c70_13 (.cond (.t 24) (.seq c70_14 .ret) .skip)))) c70_22)))))) (.seq c70_29 .ret)))
def c70 : LF := .mk 26 c70_34 [.tmp 4]
theorem low70 : aH Tryz.prog Tryz.f70 = some c70 := by kernel_rfl
def c71_0 : LC := .ops [oo 2 (.mov (.c (.list (some true) true [])))]
def c71_1 : LC := .ops [om 3 0, oo 4 (.eq .slice false (.t 3) (.c (.list (some true) true [])))]
def c71_2 : LC := .ops [oo 2 (.mov (.c (.list (some true) true [])))]
def c71_8 : LC := .ops [oo 5 (.slit 1 []), om 6 0, oo 7 (.app 1 1 (.t 5) (.t 6)), om 2 7]
def c71_12 : LC := .seq c71_0 (.seq (.seq c71_1 (.cond (.t 4) (.seq c71_2 .ret) .skip)) (.seq c71_8 .ret))
def c71 : LF := .mk 8 c71_12 [.tmp 2]
theorem low71 : aH Tryz.prog Tryz.f71 = some c71 := by kernel_rfl
def c72_0 : LC := .ops [oo 2 (.mov (.c (.bool false)))]
def c72_1 : LC := .ops [om 3 0, kc 4 98 [.t 3], oo 5 (.un .not (.t 4)), om 6 5, gm 7 6 true 0, og 8 6 true (.chk (.t 7)), ga 9 6 true 0 8, gl 10 6 true 9, og 11 6 true (.len false (.t 10)), og 12 6 true (.bin .eql (.t 11) (.c (.int .i64 0))), pf 13 6 12, om 2 13]
def c72_4 : LC := .seq c72_0 (.seq c72_1 .ret)
def c72 : LF := .mk 14 c72_4 [.tmp 2]
theorem low72 : aH Tryz.prog Tryz.f72 = some c72 := by kernel_rfl
def c73 : LF := du 9 136 (some 9) [.int .u32 0, .int .i64 0, .list (some true) true [], .list (some true) true [], .list (some true) true [], .int .i64 0, .int .i64 0, .int .u64 0, .list (some true) true []]
theorem low73 : aH Tryz.prog Tryz.f73 = some c73 := by kernel_rfl
def c74_0 : LC := .ops [oo 2 (.box (.t 0))]
def c74_1 : LC := .opsX [(ol 4 2, []), (om 5 1, []), (kk 6 5, []), (oa 7 0 6, []), (kx 8 78 [.t 4, .t 7], [])]
def c74_2 : LC := .opsX [(ol 9 2, []), (om 10 1, []), (kk 11 10, []), (oa 12 1 11, []), (kx 13 93 [.t 9, .t 12], [])]
def c74_3 : LC := .opsX [(ol 14 2, []), (om 15 1, []), (kk 16 15, []), (oa 17 7 16, []), (kx 18 53 [.t 14, .t 17, .c (.int .u64 18446744073709551615)], [])]
def c74_4 : LC := .opsX [(ol 19 2, []), (om 20 1, []), (kk 21 20, []), (oa 22 8 21, []), (oo 23 (.mkfn 110 [.t 2]), []), (kx 24 109 [.t 19, .t 22, .c (.int .i64 64), .t 23], [])]
def c74_8 : LC := .seq c74_0 (.seq c74_1 (.seq c74_2 (.seq c74_3 c74_4)))
def c74 : LF := .mk 25 c74_8 []
theorem low74 : aH Tryz.prog Tryz.f74 = some c74 := by kernel_rfl
def c75 : LF := du 16 216 (some 16) [.int .u32 0, .int .u32 0, .int .i64 0, .int .i64 0, .int .i64 0, .int .i64 0, .list (some true) true [], .list (some true) true [], .int .i64 0, .list (some true) true [], .list (some true) true [], .list (some true) true [], .list (some true) true [], .int .i64 0, .int .i64 0, .int .i64 0]
theorem low75 : aH Tryz.prog Tryz.f75 = some c75 := by kernel_rfl
def c76 : LF := du 3 24 (some 3) [.int .u32 0, .int .u64 0, .int .u64 0]
theorem low76 : aH Tryz.prog Tryz.f76 = some c76 := by kernel_rfl
def c77_0 : LC := .opsX [(ol 3 1, []), (om 4 0, []), (kk 5 4, []), (oa 6 0 5, []), (kx 7 78 [.t 3, .t 6], [])]
def c77_1 : LC := .opsX [(ol 8 1, []), (om 9 0, []), (kk 10 9, []), (oa 11 1 10, []), (kx 12 53 [.t 8, .t 11, .c (.int .u64 18446744073709551615)], [])]
def c77_2 : LC := .opsX [(ol 13 1, []), (om 14 0, []), (kk 15 14, []), (oa 16 2 15, []), (kx 17 53 [.t 13, .t 16, .c (.int .u64 18446744073709551615)], [])]
def c77_4 : LC := .seq c77_0 (.seq c77_1 c77_2)
def c77 : LF := .mk 18 c77_4 []
theorem low77 : aH Tryz.prog Tryz.f77 = some c77 := by kernel_rfl
def c78_0 : LC := .ops [om 4 0, om 5 1, kc 6 111 [.t 4, .t 5, .c (.int .u64 4294967295)]]
def c78 : LF := .mk 7 c78_0 []
theorem low78 : aH Tryz.prog Tryz.f78 = some c78 := by kernel_rfl
def c79_0 : LC := .ops [oo 4 (.box (.t 0)), oo 8 (.alloc [.str (ByteArray.mk (Array.mk [])), .bool false])]
def c79_1 : LC := .opsX [(oa 9 0 4, []), (ol 10 9, []), (om 11 1, []), (kx 12 64 [.t 11], [9, 14]), (kb 13 .add 10 12, []), (oa 14 1 4, []), (ol 15 14, []), (om 16 15, []), (gm 17 16 false 1, []), (gm 18 16 false 2, []), (og 19 16 false (.bin .lss (.t 17) (.t 18)), []), (pt 20 16 19, []), (om 21 20, []), (gm 22 21 false 1, []), (gm 23 21 false 3, []), (og 24 21 false (.bin .gtr (.t 22) (.t 23)), []), (pt 25 21 24, []), (oo 26 (.build [.str (ByteArray.mk (Array.mk [])), .bool false] [(0, 1, .t 13), (1, 1, .t 25)]), []), (.mk none none (.store 2 (.t 8) (.t 26)), [])]
def c79_4 : LC := .seq c79_0 (.seq c79_1 .ret)
def c79 : LF := .mk 27 c79_4 [.cell 8 (some 2)]
theorem low79 : aH Tryz.prog Tryz.f79 = some c79 := by kernel_rfl
def c80_0 : LC := .ops [oo 3 (.box (.t 0)), oo 6 (.alloc [.str (ByteArray.mk (Array.mk [])), .bool false])]
def c80_1 : LC := .ops [oo 8 (.load (some 2) (.t 3)), om 9 1, on 10 9, om 11 2, kc 12 23 [.t 8, .t 10, .t 11], .mk none none (.store 2 (.t 3) (.t 12))]
def c80_2 : LC := .ops [om 13 1, on 14 13, oo 15 (.mov (.c (.int .i64 0)))]
def c80_3 : LC := .ops [kb 16 .lss 15 14]
def c80_6 : LC := .ops [om 17 15, om 7 17]
def c80_7 : LC := .opsX [(oo 18 (.load (some 2) (.t 3)), []), (om 19 1, []), (om 20 7, []), (oo 21 (.iaddr 3 (.t 19) (.t 20)), []), (oa 22 0 21, []), (ol 23 22, []), (kx 24 23 [.t 18, .t 23, .c (.int .i64 127)], [28, 34]), (om 25 1, []), (om 26 7, []), (oo 27 (.iaddr 3 (.t 25) (.t 26)), []), (oa 28 1 27, []), (ol 29 28, []), (kx 30 23 [.t 24, .t 29, .c (.int .i64 1440)], [34]), (om 31 1, []), (om 32 7, []), (oo 33 (.iaddr 3 (.t 31) (.t 32)), []), (oa 34 2 33, []), (ol 35 34, []), (kx 36 23 [.t 30, .t 35, .c (.int .i64 1440)], []), (.mk none none (.store 2 (.t 3) (.t 36)), [])]
def c80_10 : LC := .ops [oo 37 (.bin .add (.t 15) (.c (.int .i64 1))), om 15 37]
def c80_17 : LC := .ops [oo 38 (.load (some 2) (.t 3)), .mk none none (.store 2 (.t 6) (.t 38))]
def c80_22 : LC := .seq c80_0 (.seq c80_1 (.seq (.seq c80_2 (.block 0 (.loop (.seq c80_3 (.seq (.cond (.t 16) .skip (.exit 0)) (.seq (.block 1 (.seq c80_6 c80_7)) c80_10)))))) (.seq c80_17 .ret)))
def c80 : LF := .mk 39 c80_22 [.cell 6 (some 2)]
theorem low80 : aH Tryz.prog Tryz.f80 = some c80 := by kernel_rfl
def c81_0 : LC := .ops [oo 2 (.box (.t 0)), oo 4 (.alloc [.str (ByteArray.mk (Array.mk [])), .bool false])]
def c81_1 : LC := .ops [oo 6 (.load (some 2) (.t 2)), om 7 1, on 8 7, kc 9 23 [.t 6, .t 8, .c (.int .i64 400)], .mk none none (.store 2 (.t 2) (.t 9))]
def c81_2 : LC := .ops [om 10 1, on 11 10, oo 12 (.mov (.c (.int .i64 0)))]
def c81_3 : LC := .ops [kb 13 .lss 12 11]
def c81_6 : LC := .ops [om 14 12, om 5 14]
def c81_7 : LC := .opsX [(oo 15 (.load (some 2) (.t 2)), []), (om 16 1, []), (om 17 5, []), (oo 18 (.iaddr 1 (.t 16) (.t 17)), []), (ol 19 18, []), (kx 20 79 [.t 15, .t 19, .c (.int .i64 (-400)), .c (.int .i64 400)], []), (.mk none none (.store 2 (.t 2) (.t 20)), [])]
def c81_10 : LC := .ops [oo 21 (.bin .add (.t 12) (.c (.int .i64 1))), om 12 21]
def c81_17 : LC := .ops [oo 22 (.load (some 2) (.t 2)), .mk none none (.store 2 (.t 4) (.t 22))]
def c81_22 : LC := .seq c81_0 (.seq c81_1 (.seq (.seq c81_2 (.block 0 (.loop (.seq c81_3 (.seq (.cond (.t 13) .skip (.exit 0)) (.seq (.block 1 (.seq c81_6 c81_7)) c81_10)))))) (.seq c81_17 .ret)))
def c81 : LF := .mk 23 c81_22 [.cell 4 (some 2)]
theorem low81 : aH Tryz.prog Tryz.f81 = some c81 := by kernel_rfl
def c82_0 : LC := .ops [oo 2 (.box (.t 0)), oo 3 (.box (.t 1)), oo 4 (.mov (.c (.bool false)))]
def c82_1 : LC := .ops [oa 6 0 2, ol 7 6, oa 8 0 3, ol 9 8, kb 10 .neq 7 9, om 11 10, ga 12 11 false 1 2, gl 13 11 false 12, ga 14 11 false 1 3, gl 15 11 false 14, og 16 11 false (.bin .neq (.t 13) (.t 15)), pt 17 11 16, om 18 17, ga 19 18 false 2 2, gl 20 18 false 19, ga 21 18 false 2 3, gl 22 18 false 21, og 23 18 false (.bin .neq (.t 20) (.t 22)), pt 24 18 23, om 25 24, ga 26 25 false 3 2, gl 27 25 false 26, ga 28 25 false 3 3, gl 29 25 false 28, og 30 25 false (.bin .neq (.t 27) (.t 29)), pt 31 25 30, om 32 31, ga 33 32 false 8 2, gl 34 32 false 33, ga 35 32 false 8 3, gl 36 32 false 35, og 37 32 false (.bin .neq (.t 34) (.t 36)), pt 38 32 37, om 39 38, ga 40 39 false 6 2, gl 41 39 false 40, og 42 39 false (.len false (.t 41)), ga 43 39 false 6 3, gl 44 39 false 43, og 45 39 false (.len false (.t 44)), og 46 39 false (.bin .neq (.t 42) (.t 45)), pt 47 39 46]
def c82_2 : LC := .ops [oo 4 (.mov (.c (.bool false)))]
def c82_8 : LC := .ops [oa 48 6 2, ol 49 48, on 50 49, oo 51 (.mov (.c (.int .i64 0)))]
def c82_9 : LC := .ops [kb 52 .lss 51 50]
def c82_12 : LC := .ops [om 53 51, om 5 53]
def c82_13 : LC := .opsX [(oa 54 6 2, []), (ol 55 54, []), (om 56 5, []), (oo 57 (.iaddr 2 (.t 55) (.t 56)), []), (oo 58 (.load (some 2) (.t 57)), []), (oa 59 6 3, []), (ol 60 59, []), (om 61 5, []), (oo 62 (.iaddr 2 (.t 60) (.t 61)), []), (oo 63 (.load (some 2) (.t 62)), []), (oo 64 (.eq (.row [.int, .int]) true (.t 58) (.t 63)), [])]
def c82_14 : LC := .ops [oo 4 (.mov (.c (.bool false)))]
def c82_22 : LC := .ops [oo 65 (.bin .add (.t 51) (.c (.int .i64 1))), om 51 65]
def c82_29 : LC := .ops [oa 66 4 2, ol 67 66, oa 68 4 3, ol 69 68, kc 70 112 [.t 67, .t 69], om 71 70, ga 72 71 true 5 2, gl 73 71 true 72, ga 74 71 true 5 3, gl 75 71 true 74, gk 76 71 true 112 [.t 73, .t 75], pf 77 71 76, om 78 77, ga 79 78 true 7 2, gl 80 78 true 79, ga 81 78 true 7 3, gl 82 78 true 81, gk 83 78 true 112 [.t 80, .t 82], pf 84 78 83, om 4 84]
def c82_34 : LC := .seq c82_0 (.seq (.seq c82_1 (.cond (.t 47) (.seq c82_2 .ret) .skip)) (.seq (.seq c82_8 (.block 0 (.loop (.seq c82_9 (.seq (.cond (.t 52) .skip (.exit 0)) (.seq (.block 1 (.seq c82_12 (.seq c82_13 (.cond (.t 64) (.seq c82_14 .ret) .skip)))) c82_22)))))) (.seq c82_29 .ret)))
def c82 : LF := .mk 85 c82_34 [.tmp 4]
theorem low82 : aH Tryz.prog Tryz.f82 = some c82 := by kernel_rfl
def c83_0 : LC := .ops [oo 2 (.box (.t 0)), oo 3 (.box (.t 1)), oo 4 (.mov (.c (.bool false)))]
def c83_1 : LC := .ops [oa 5 0 2, oo 6 (.load (some 2) (.t 5)), oa 7 0 3, oo 8 (.load (some 2) (.t 7)), oo 9 (.eq (.row [.int, .int]) false (.t 6) (.t 8)), om 10 9, ga 11 10 true 2 2, gl 12 10 true 11, ga 13 10 true 2 3, gl 14 10 true 13, og 15 10 true (.bin .eql (.t 12) (.t 14)), pf 16 10 15, om 17 16, ga 18 17 true 3 2, gl 19 17 true 18, ga 20 17 true 3 3, gl 21 17 true 20, og 22 17 true (.bin .eql (.t 19) (.t 21)), pf 23 17 22, om 24 23, ga 25 24 true 4 2, gl 26 24 true 25, ga 27 24 true 4 3, gl 28 24 true 27, gk 29 24 true 113 [.t 26, .t 28], pf 30 24 29, om 31 30, ga 32 31 true 5 2, gl 33 31 true 32, ga 34 31 true 5 3, gl 35 31 true 34, gk 36 31 true 114 [.t 33, .t 35], pf 37 31 36, om 38 37, ga 39 38 true 6 2, gl 40 38 true 39, ga 41 38 true 6 3, gl 42 38 true 41, og 43 38 true (.bin .eql (.t 40) (.t 42)), pf 44 38 43, om 45 44, ga 46 45 true 7 2, gl 47 45 true 46, ga 48 45 true 7 3, gl 49 45 true 48, gk 50 45 true 115 [.t 47, .t 49], pf 51 45 50, om 52 51, ga 53 52 true 8 2, gl 54 52 true 53, ga 55 52 true 8 3, gl 56 52 true 55, gk 57 52 true 87 [.t 54, .t 56], pf 58 52 57, om 4 58]
def c83_4 : LC := .seq c83_0 (.seq c83_1 .ret)
def c83 : LF := .mk 59 c83_4 [.tmp 4]
theorem low83 : aH Tryz.prog Tryz.f83 = some c83 := by kernel_rfl
def c84_0 : LC := .ops [oo 4 (.mov (.c (.bool false)))]
def c84_1 : LC := .ops [om 6 0, on 7 6, om 8 1, on 9 8, kb 10 .neq 7 9]
def c84_2 : LC := .ops [oo 4 (.mov (.c (.bool false)))]
def c84_8 : LC := .ops [om 11 0, on 12 11, oo 13 (.mov (.c (.int .i64 0)))]
def c84_9 : LC := .ops [kb 14 .lss 13 12]
def c84_12 : LC := .ops [om 15 13, om 5 15]
def c84_13 : LC := .opsX [(om 16 0, []), (om 17 5, []), (oo 18 (.iaddr 1 (.t 16) (.t 17)), []), (ol 19 18, []), (om 20 1, []), (om 21 5, []), (oo 22 (.iaddr 1 (.t 20) (.t 21)), []), (ol 23 22, []), (kb 24 .neq 19 23, [])]
def c84_14 : LC := .ops [oo 4 (.mov (.c (.bool false)))]
def c84_22 : LC := .ops [oo 25 (.bin .add (.t 13) (.c (.int .i64 1))), om 13 25]
def c84_29 : LC := .ops [oo 4 (.mov (.c (.bool true)))]
def c84_34 : LC := .seq c84_0 (.seq (.seq c84_1 (.cond (.t 10) (.seq c84_2 .ret) .skip)) (.seq (.seq c84_8 (.block 0 (.loop (.seq c84_9 (.seq (.cond (.t 14) .skip (.exit 0)) (.seq (.block 1 (.seq c84_12 (.seq c84_13 (.cond (.t 24) (.seq c84_14 .ret) .skip)))) c84_22)))))) (.seq c84_29 .ret)))
def c84 : LF := .mk 26 c84_34 [.tmp 4]
theorem low84 : aH Tryz.prog Tryz.f84 = some c84 := by kernel_rfl
def c85_0 : LC := .ops [oo 4 (.mov (.c (.bool false)))]
def c85_1 : LC := .ops [om 6 0, on 7 6, om 8 1, on 9 8, kb 10 .neq 7 9]
def c85_2 : LC := .ops [oo 4 (.mov (.c (.bool false)))]
def c85_8 : LC := .ops [om 11 0, on 12 11, oo 13 (.mov (.c (.int .i64 0)))]
def c85_9 : LC := .ops [kb 14 .lss 13 12]
def c85_12 : LC := .ops [om 15 13, om 5 15]
def c85_13 : LC := .opsX [(om 16 0, []), (om 17 5, []), (oo 18 (.iaddr 2 (.t 16) (.t 17)), []), (oo 19 (.load (some 2) (.t 18)), []), (om 20 1, []), (om 21 5, []), (oo 22 (.iaddr 2 (.t 20) (.t 21)), []), (oo 23 (.load (some 2) (.t 22)), []), (oo 24 (.eq (.row [.int, .int]) true (.t 19) (.t 23)), [])]
def c85_14 : LC := .ops [oo 4 (.mov (.c (.bool false)))]
def c85_22 : LC := .ops [oo 25 (.bin .add (.t 13) (.c (.int .i64 1))), om 13 25]
def c85_29 : LC := .ops [oo 4 (.mov (.c (.bool true)))]
def c85_34 : LC := .seq c85_0 (.seq (.seq c85_1 (.cond (.t 10) (.seq c85_2 .ret) .skip)) (.seq (.seq c85_8 (.block 0 (.loop (.seq c85_9 (.seq (.cond (.t 14) .skip (.exit 0)) (.seq (.block 1 (.seq c85_12 (.seq c85_13 (.cond (.t 24) (.seq c85_14 .ret) .skip)))) c85_22)))))) (.seq c85_29 .ret)))
def c85 : LF := .mk 26 c85_34 [.tmp 4]
theorem low85 : aH Tryz.prog Tryz.f85 = some c85 := by kernel_rfl
def c86_0 : LC := .ops [oo 4 (.mov (.c (.bool false)))]
def c86_1 : LC := .ops [om 6 0, on 7 6, om 8 1, on 9 8, kb 10 .neq 7 9]
def c86_2 : LC := .ops [oo 4 (.mov (.c (.bool false)))]
def c86_8 : LC := .ops [om 11 0, on 12 11, oo 13 (.mov (.c (.int .i64 0)))]
def c86_9 : LC := .ops [kb 14 .lss 13 12]
def c86_12 : LC := .ops [om 15 13, om 5 15]
def c86_13 : LC := .opsX [(om 16 0, []), (om 17 5, []), (oo 18 (.iaddr 2 (.t 16) (.t 17)), []), (oo 19 (.load (some 2) (.t 18)), []), (om 20 1, []), (om 21 5, []), (oo 22 (.iaddr 2 (.t 20) (.t 21)), []), (oo 23 (.load (some 2) (.t 22)), []), (oo 24 (.eq (.row [.int, .int]) true (.t 19) (.t 23)), [])]
def c86_14 : LC := .ops [oo 4 (.mov (.c (.bool false)))]
def c86_22 : LC := .ops [oo 25 (.bin .add (.t 13) (.c (.int .i64 1))), om 13 25]
def c86_29 : LC := .ops [oo 4 (.mov (.c (.bool true)))]
def c86_34 : LC := .seq c86_0 (.seq (.seq c86_1 (.cond (.t 10) (.seq c86_2 .ret) .skip)) (.seq (.seq c86_8 (.block 0 (.loop (.seq c86_9 (.seq (.cond (.t 14) .skip (.exit 0)) (.seq (.block 1 (.seq c86_12 (.seq c86_13 (.cond (.t 24) (.seq c86_14 .ret) .skip)))) c86_22)))))) (.seq c86_29 .ret)))
def c86 : LF := .mk 26 c86_34 [.tmp 4]
theorem low86 : aH Tryz.prog Tryz.f86 = some c86 := by kernel_rfl
def c87_0 : LC := .ops [oo 4 (.mov (.c (.bool false)))]
def c87_1 : LC := .ops [om 6 0, on 7 6, om 8 1, on 9 8, kb 10 .neq 7 9]
def c87_2 : LC := .ops [oo 4 (.mov (.c (.bool false)))]
def c87_8 : LC := .ops [om 11 0, on 12 11, oo 13 (.mov (.c (.int .i64 0)))]
def c87_9 : LC := .ops [kb 14 .lss 13 12]
def c87_12 : LC := .ops [om 15 13, om 5 15]
def c87_13 : LC := .opsX [(om 16 0, []), (om 17 5, []), (oo 18 (.iaddr 3 (.t 16) (.t 17)), []), (oo 19 (.load (some 3) (.t 18)), []), (om 20 1, []), (om 21 5, []), (oo 22 (.iaddr 3 (.t 20) (.t 21)), []), (oo 23 (.load (some 3) (.t 22)), []), (oo 24 (.eq (.row [.int, .int, .int]) true (.t 19) (.t 23)), [])]
def c87_14 : LC := .ops [oo 4 (.mov (.c (.bool false)))]
def c87_22 : LC := .ops [oo 25 (.bin .add (.t 13) (.c (.int .i64 1))), om 13 25]
def c87_29 : LC := .ops [oo 4 (.mov (.c (.bool true)))]
def c87_34 : LC := .seq c87_0 (.seq (.seq c87_1 (.cond (.t 10) (.seq c87_2 .ret) .skip)) (.seq (.seq c87_8 (.block 0 (.loop (.seq c87_9 (.seq (.cond (.t 14) .skip (.exit 0)) (.seq (.block 1 (.seq c87_12 (.seq c87_13 (.cond (.t 24) (.seq c87_14 .ret) .skip)))) c87_22)))))) (.seq c87_29 .ret)))
def c87 : LF := .mk 26 c87_34 [.tmp 4]
theorem low87 : aH Tryz.prog Tryz.f87 = some c87 := by kernel_rfl
def c88_0 : LC := .ops [oo 4 (.mov (.c (.bool false)))]
def c88_1 : LC := .ops [om 6 0, on 7 6, om 8 1, on 9 8, kb 10 .neq 7 9]
def c88_2 : LC := .ops [oo 4 (.mov (.c (.bool false)))]
def c88_8 : LC := .ops [om 11 0, on 12 11, oo 13 (.mov (.c (.int .i64 0)))]
def c88_9 : LC := .ops [kb 14 .lss 13 12]
def c88_12 : LC := .ops [om 15 13, om 5 15]
def c88_13 : LC := .opsX [(om 16 0, []), (om 17 5, []), (oo 18 (.iaddr 1 (.t 16) (.t 17)), []), (ol 19 18, []), (om 20 1, []), (om 21 5, []), (oo 22 (.iaddr 1 (.t 20) (.t 21)), []), (ol 23 22, []), (kb 24 .neq 19 23, [])]
def c88_14 : LC := .ops [oo 4 (.mov (.c (.bool false)))]
def c88_22 : LC := .ops [oo 25 (.bin .add (.t 13) (.c (.int .i64 1))), om 13 25]
def c88_29 : LC := .ops [oo 4 (.mov (.c (.bool true)))]
def c88_34 : LC := .seq c88_0 (.seq (.seq c88_1 (.cond (.t 10) (.seq c88_2 .ret) .skip)) (.seq (.seq c88_8 (.block 0 (.loop (.seq c88_9 (.seq (.cond (.t 14) .skip (.exit 0)) (.seq (.block 1 (.seq c88_12 (.seq c88_13 (.cond (.t 24) (.seq c88_14 .ret) .skip)))) c88_22)))))) (.seq c88_29 .ret)))
def c88 : LF := .mk 26 c88_34 [.tmp 4]
theorem low88 : aH Tryz.prog Tryz.f88 = some c88 := by kernel_rfl
def c89_0 : LC := .ops [oo 2 (.box (.t 0)), oo 3 (.box (.t 1)), oo 4 (.mov (.c (.bool false)))]
def c89_1 : LC := .ops [oa 5 0 2, ol 6 5, oa 7 0 3, ol 8 7, kb 9 .eql 6 8, om 10 9, ga 11 10 true 1 2, gl 12 10 true 11, ga 13 10 true 1 3, gl 14 10 true 13, og 15 10 true (.bin .eql (.t 12) (.t 14)), pf 16 10 15, om 17 16, ga 18 17 true 2 2, gl 19 17 true 18, ga 20 17 true 2 3, gl 21 17 true 20, og 22 17 true (.bin .eql (.t 19) (.t 21)), pf 23 17 22, om 24 23, ga 25 24 true 3 2, gl 26 24 true 25, ga 27 24 true 3 3, gl 28 24 true 27, og 29 24 true (.bin .eql (.t 26) (.t 28)), pf 30 24 29, om 31 30, ga 32 31 true 8 2, gl 33 31 true 32, ga 34 31 true 8 3, gl 35 31 true 34, og 36 31 true (.bin .eql (.t 33) (.t 35)), pf 37 31 36, om 38 37, ga 39 38 true 4 2, gl 40 38 true 39, ga 41 38 true 4 3, gl 42 38 true 41, gk 43 38 true 88 [.t 40, .t 42], pf 44 38 43, om 45 44, ga 46 45 true 5 2, gl 47 45 true 46, ga 48 45 true 5 3, gl 49 45 true 48, gk 50 45 true 88 [.t 47, .t 49], pf 51 45 50, om 52 51, ga 53 52 true 6 2, gl 54 52 true 53, ga 55 52 true 6 3, gl 56 52 true 55, gk 57 52 true 116 [.t 54, .t 56], pf 58 52 57, om 59 58, ga 60 59 true 7 2, gl 61 59 true 60, ga 62 59 true 7 3, gl 63 59 true 62, gk 64 59 true 88 [.t 61, .t 63], pf 65 59 64, om 4 65]
def c89_4 : LC := .seq c89_0 (.seq c89_1 .ret)
def c89 : LF := .mk 66 c89_4 [.tmp 4]
theorem low89 : aH Tryz.prog Tryz.f89 = some c89 := by kernel_rfl
def c90_0 : LC := .ops [oo 4 (.mov (.c (.bool false)))]
def c90_1 : LC := .ops [om 6 0, on 7 6, om 8 1, on 9 8, kb 10 .neq 7 9]
def c90_2 : LC := .ops [oo 4 (.mov (.c (.bool false)))]
def c90_8 : LC := .ops [om 11 0, on 12 11, oo 13 (.mov (.c (.int .i64 0)))]
def c90_9 : LC := .ops [kb 14 .lss 13 12]
def c90_12 : LC := .ops [om 15 13, om 5 15]
def c90_13 : LC := .opsX [(om 16 0, []), (om 17 5, []), (oo 18 (.iaddr 3 (.t 16) (.t 17)), []), (oo 19 (.load (some 3) (.t 18)), []), (om 20 1, []), (om 21 5, []), (oo 22 (.iaddr 3 (.t 20) (.t 21)), []), (oo 23 (.load (some 3) (.t 22)), []), (oo 24 (.eq (.row [.int, .int, .int]) true (.t 19) (.t 23)), [])]
def c90_14 : LC := .ops [oo 4 (.mov (.c (.bool false)))]
def c90_22 : LC := .ops [oo 25 (.bin .add (.t 13) (.c (.int .i64 1))), om 13 25]
def c90_29 : LC := .ops [oo 4 (.mov (.c (.bool true)))]
def c90_34 : LC := .seq c90_0 (.seq (.seq c90_1 (.cond (.t 10) (.seq c90_2 .ret) .skip)) (.seq (.seq c90_8 (.block 0 (.loop (.seq c90_9 (.seq (.cond (.t 14) .skip (.exit 0)) (.seq (.block 1 (.seq c90_12 (.seq c90_13 (.cond (.t 24) (.seq c90_14 .ret) .skip)))) c90_22)))))) (.seq c90_29 .ret)))
def c90 : LF := .mk 26 c90_34 [.tmp 4]
theorem low90 : aH Tryz.prog Tryz.f90 = some c90 := by kernel_rfl
def c91_0 : LC := .ops [oo 2 (.box (.t 0)), oo 3 (.box (.t 1)), oo 4 (.mov (.c (.bool false)))]
def c91_1 : LC := .ops [oa 6 0 2, oa 7 0 6, ol 8 7, oa 9 0 3, oa 10 0 9, ol 11 10, kb 12 .neq 8 11, om 13 12, ga 14 13 false 0 2, ga 15 13 false 1 14, gl 16 13 false 15, og 17 13 false (.len false (.t 16)), ga 18 13 false 0 3, ga 19 13 false 1 18, gl 20 13 false 19, og 21 13 false (.len false (.t 20)), og 22 13 false (.bin .neq (.t 17) (.t 21)), pt 23 13 22, om 24 23, ga 25 24 false 4 2, gl 26 24 false 25, ga 27 24 false 4 3, gl 28 24 false 27, og 29 24 false (.bin .neq (.t 26) (.t 28)), pt 30 24 29, om 31 30, ga 32 31 false 5 2, gl 33 31 false 32, ga 34 31 false 5 3, gl 35 31 false 34, og 36 31 false (.bin .neq (.t 33) (.t 35)), pt 37 31 36]
def c91_2 : LC := .ops [oo 4 (.mov (.c (.bool false)))]
def c91_8 : LC := .ops [oa 38 0 2, oa 39 1 38, ol 40 39, on 41 40, oo 42 (.mov (.c (.int .i64 0)))]
def c91_9 : LC := .ops [kb 43 .lss 42 41]
def c91_12 : LC := .ops [om 44 42, om 5 44]
def c91_13 : LC := .opsX [(oa 45 0 2, []), (oa 46 1 45, []), (ol 47 46, []), (om 48 5, []), (oo 49 (.iaddr 2 (.t 47) (.t 48)), []), (oo 50 (.load (some 2) (.t 49)), []), (oa 51 0 3, []), (oa 52 1 51, []), (ol 53 52, []), (om 54 5, []), (oo 55 (.iaddr 2 (.t 53) (.t 54)), []), (oo 56 (.load (some 2) (.t 55)), []), (oo 57 (.eq (.row [.int, .int]) true (.t 50) (.t 56)), [])]
def c91_14 : LC := .ops [oo 4 (.mov (.c (.bool false)))]
def c91_22 : LC := .ops [oo 58 (.bin .add (.t 42) (.c (.int .i64 1))), om 42 58]
def c91_29 : LC := .ops [oa 59 2 2, oa 60 0 59, ol 61 60, oa 62 2 3, oa 63 0 62, ol 64 63, kc 65 108 [.t 61, .t 64], om 66 65, ga 67 66 true 2 2, ga 68 66 true 1 67, gl 69 66 true 68, ga 70 66 true 2 3, ga 71 66 true 1 70, gl 72 66 true 71, gk 73 66 true 117 [.t 69, .t 72], pf 74 66 73, om 4 74]
def c91_34 : LC := .seq c91_0 (.seq (.seq c91_1 (.cond (.t 37) (.seq c91_2 .ret) .skip)) (.seq (.seq c91_8 (.block 0 (.loop (.seq c91_9 (.seq (.cond (.t 43) .skip (.exit 0)) (.seq (.block 1 (.seq c91_12 (.seq c91_13 (.cond (.t 57) (.seq c91_14 .ret) .skip)))) c91_22)))))) (.seq c91_29 .ret)))
def c91 : LF := .mk 75 c91_34 [.tmp 4]
theorem low91 : aH Tryz.prog Tryz.f91 = some c91 := by kernel_rfl
def c92_0 : LC := .ops [oo 2 (.box (.t 0)), oo 3 (.box (.t 1)), oo 4 (.mov (.c (.bool false)))]
def c92_1 : LC := .ops [oa 6 0 2, ol 7 6, oa 8 0 3, ol 9 8, kb 10 .neq 7 9, om 11 10, ga 12 11 false 1 2, gl 13 11 false 12, ga 14 11 false 1 3, gl 15 11 false 14, og 16 11 false (.bin .neq (.t 13) (.t 15)), pt 17 11 16, om 18 17, ga 19 18 false 3 2, gl 20 18 false 19, ga 21 18 false 3 3, gl 22 18 false 21, og 23 18 false (.eq .bool true (.t 20) (.t 22)), pt 24 18 23, om 25 24, ga 26 25 false 2 2, gl 27 25 false 26, ga 28 25 false 2 3, gl 29 25 false 28, og 30 25 false (.eq .bool true (.t 27) (.t 29)), pt 31 25 30, om 32 31, ga 33 32 false 15 2, gl 34 32 false 33, og 35 32 false (.len false (.t 34)), ga 36 32 false 15 3, gl 37 32 false 36, og 38 32 false (.len false (.t 37)), og 39 32 false (.bin .neq (.t 35) (.t 38)), pt 40 32 39]
def c92_2 : LC := .ops [oo 4 (.mov (.c (.bool false)))]
def c92_8 : LC := .ops [oa 41 15 2, ol 42 41, on 43 42, oo 44 (.mov (.c (.int .i64 0)))]
def c92_9 : LC := .ops [kb 45 .lss 44 43]
def c92_12 : LC := .ops [om 46 44, om 5 46]
def c92_13 : LC := .opsX [(oa 47 15 2, []), (ol 48 47, []), (om 49 5, []), (oo 50 (.iaddr 3 (.t 48) (.t 49)), []), (oo 51 (.load (some 3) (.t 50)), []), (oa 52 15 3, []), (ol 53 52, []), (om 54 5, []), (oo 55 (.iaddr 3 (.t 53) (.t 54)), []), (oo 56 (.load (some 3) (.t 55)), []), (oo 57 (.eq (.row [.int, .int, .int]) true (.t 51) (.t 56)), [])]
def c92_14 : LC := .ops [oo 4 (.mov (.c (.bool false)))]
def c92_22 : LC := .ops [oo 58 (.bin .add (.t 44) (.c (.int .i64 1))), om 44 58]
def c92_29 : LC := .ops [oa 59 4 2, oo 60 (.load (some 9) (.t 59)), oa 61 4 3, oo 62 (.load (some 9) (.t 61)), kc 63 82 [.t 60, .t 62], om 64 63, ga 65 64 true 13 2, gl 66 64 true 65, ga 67 64 true 13 3, gl 68 64 true 67, gk 69 64 true 70 [.t 66, .t 68], pf 70 64 69, om 71 70, ga 72 71 true 14 2, gl 73 71 true 72, ga 74 71 true 14 3, gl 75 71 true 74, gk 76 71 true 70 [.t 73, .t 75], pf 77 71 76, om 4 77]
def c92_34 : LC := .seq c92_0 (.seq (.seq c92_1 (.cond (.t 40) (.seq c92_2 .ret) .skip)) (.seq (.seq c92_8 (.block 0 (.loop (.seq c92_9 (.seq (.cond (.t 45) .skip (.exit 0)) (.seq (.block 1 (.seq c92_12 (.seq c92_13 (.cond (.t 57) (.seq c92_14 .ret) .skip)))) c92_22)))))) (.seq c92_29 .ret)))
def c92 : LF := .mk 78 c92_34 [.tmp 4]
theorem low92 : aH Tryz.prog Tryz.f92 = some c92 := by kernel_rfl
def c93_0 : LC := .ops [oo 2 (.box (.t 0))]
def c93_1 : LC := .opsX [(ol 4 2, []), (om 5 1, []), (kk 6 5, []), (oa 7 0 6, []), (kx 8 118 [.t 4, .t 7], [])]
def c93_2 : LC := .opsX [(ol 9 2, []), (om 10 1, []), (kk 11 10, []), (oa 12 2 11, []), (oa 13 0 12, []), (kx 14 119 [.t 9, .t 13, .c (.int .i64 10)], [])]
def c93_3 : LC := .opsX [(ol 15 2, []), (om 16 1, []), (kk 17 16, []), (oa 18 2 17, []), (oa 19 1 18, []), (oo 20 (.mkfn 121 [.t 2]), []), (kx 21 120 [.t 15, .t 19, .c (.int .i64 60), .t 20], [])]
def c93_4 : LC := .opsX [(ol 22 2, []), (om 23 1, []), (kk 24 23, []), (oa 25 4 24, []), (kx 26 57 [.t 22, .t 25, .c (.int .u64 240)], [])]
def c93_5 : LC := .opsX [(ol 27 2, []), (om 28 1, []), (kk 29 28, []), (oa 30 5 29, []), (kx 31 57 [.t 27, .t 30, .c (.int .u64 240)], [])]
def c93_10 : LC := .seq c93_0 (.seq c93_1 (.seq c93_2 (.seq c93_3 (.seq c93_4 c93_5))))
def c93 : LF := .mk 32 c93_10 []
theorem low93 : aH Tryz.prog Tryz.f93 = some c93 := by kernel_rfl
def c94_0 : LC := .ops [oo 2 (.box (.t 0))]
def c94_1 : LC := .opsX [(ol 4 2, []), (om 5 1, []), (kk 6 5, []), (oa 7 0 6, []), (kx 8 56 [.t 4, .t 7], [])]
def c94_2 : LC := .opsX [(ol 9 2, []), (om 10 1, []), (kk 11 10, []), (oa 12 1 11, []), (kx 13 57 [.t 9, .t 12, .c (.int .u64 10080)], [])]
def c94_3 : LC := .opsX [(ol 14 2, []), (om 15 1, []), (kk 16 15, []), (oa 17 3 16, []), (kx 18 59 [.t 14, .t 17], [])]
def c94_4 : LC := .ops [om 19 1, kk 20 19, oa 21 3 20, ol 22 21, oo 23 (.un .not (.t 22))]
def c94_5 : LC := .opsX [(ol 24 2, []), (om 25 1, []), (kk 26 25, []), (oa 27 2 26, []), (kx 28 59 [.t 24, .t 27], [])]
def c94_11 : LC := .opsX [(ol 29 2, []), (om 30 1, []), (kk 31 30, []), (oa 32 4 31, []), (kx 33 122 [.t 29, .t 32], [])]
def c94_12 : LC := .opsX [(ol 34 2, []), (om 35 1, []), (kk 36 35, []), (oa 37 13 36, []), (oo 38 (.mkfn 123 [.t 2]), []), (kx 39 104 [.t 34, .t 37, .c (.int .i64 50), .t 38], [])]
def c94_13 : LC := .opsX [(ol 40 2, []), (om 41 1, []), (kk 42 41, []), (oa 43 14 42, []), (oo 44 (.mkfn 124 [.t 2]), []), (kx 45 104 [.t 40, .t 43, .c (.int .i64 50), .t 44], [])]
def c94_14 : LC := .opsX [(ol 46 2, []), (om 47 1, []), (kk 48 47, []), (oa 49 15 48, []), (oo 50 (.mkfn 126 [.t 2]), []), (kx 51 125 [.t 46, .t 49, .c (.int .i64 50), .t 50], [])]
def c94_22 : LC := .seq c94_0 (.seq c94_1 (.seq c94_2 (.seq c94_3 (.seq (.seq c94_4 (.cond (.t 23) (.seq c94_5 .ret) .skip)) (.seq c94_11 (.seq c94_12 (.seq c94_13 c94_14)))))))
def c94 : LF := .mk 52 c94_22 []
theorem low94 : aH Tryz.prog Tryz.f94 = some c94 := by kernel_rfl
def c95_0 : LC := .ops [oo 2 (.box (.t 0))]
def c95_1 : LC := .opsX [(ol 4 2, []), (om 5 1, []), (kk 6 5, []), (oa 7 0 6, []), (oa 8 0 7, []), (kx 9 56 [.t 4, .t 8], [])]
def c95_2 : LC := .opsX [(ol 10 2, []), (om 11 1, []), (kk 12 11, []), (oa 13 0 12, []), (oa 14 1 13, []), (kx 15 56 [.t 10, .t 14], [])]
def c95_3 : LC := .opsX [(ol 16 2, []), (om 17 1, []), (kk 18 17, []), (oa 19 2 18, []), (kx 20 57 [.t 16, .t 19, .c (.int .u64 10080)], [])]
def c95_4 : LC := .opsX [(ol 21 2, []), (om 22 1, []), (kk 23 22, []), (oa 24 3 23, []), (kx 25 57 [.t 21, .t 24, .c (.int .u64 1440)], [])]
def c95_5 : LC := .opsX [(ol 26 2, []), (om 27 1, []), (kk 28 27, []), (oa 29 4 28, []), (oo 30 (.mkfn 128 [.t 2]), []), (kx 31 127 [.t 26, .t 29, .c (.int .i64 64), .t 30], [])]
def c95_6 : LC := .opsX [(ol 32 2, []), (om 33 1, []), (kk 34 33, []), (oa 35 5 34, []), (oo 36 (.mkfn 130 [.t 2]), []), (kx 37 129 [.t 32, .t 35, .c (.int .i64 16), .t 36], [])]
def c95_7 : LC := .opsX [(ol 38 2, []), (om 39 1, []), (kk 40 39, []), (oa 41 6 40, []), (kx 42 57 [.t 38, .t 41, .c (.int .u64 100)], [])]
def c95_8 : LC := .opsX [(ol 43 2, []), (om 44 1, []), (kk 45 44, []), (oa 46 7 45, []), (oo 47 (.mkfn 132 [.t 2]), []), (kx 48 131 [.t 43, .t 46, .c (.int .i64 32), .t 47], [])]
def c95_9 : LC := .opsX [(ol 49 2, []), (om 50 1, []), (kk 51 50, []), (oa 52 8 51, []), (kx 53 119 [.t 49, .t 52, .c (.int .i64 8)], [])]
def c95_18 : LC := .seq c95_0 (.seq c95_1 (.seq c95_2 (.seq c95_3 (.seq c95_4 (.seq c95_5 (.seq c95_6 (.seq c95_7 (.seq c95_8 c95_9))))))))
def c95 : LF := .mk 54 c95_18 []
theorem low95 : aH Tryz.prog Tryz.f95 = some c95 := by kernel_rfl
def c96_0 : LC := .ops [oo 4 (.mov (.c (.int .u64 0)))]
def c96_1 : LC := .ops [oo 5 (.mov (.c (.int .u64 0)))]
def c96_2 : LC := .ops [oo 6 (.mov (.c (.int .i64 0)))]
def c96_3 : LC := .ops [om 9 0, kc 10 98 [.t 9], oo 11 (.un .not (.t 10)), om 12 11, gm 13 12 true 0, og 14 12 true (.chk (.t 13)), ga 15 12 true 0 14, gl 16 12 true 15, og 17 12 true (.len false (.t 16)), og 18 12 true (.bin .gtr (.t 17) (.c (.int .i64 0))), pf 19 12 18]
def c96_7 : LC := .ops [om 22 0, kk 23 22, oa 24 0 23, ol 25 24, oo 26 (.iaddr 1 (.t 25) (.c (.int .i64 0))), ol 27 26, om 7 27]
def c96_8 : LC := .ops [om 28 0, om 29 0, kk 30 29, oa 31 0 30, ol 32 31, oo 33 (.slice false 1 (.t 32) (some (.c (.int .i64 1))) none), kk 34 28, oa 35 0 34, .mk none none (.store 1 (.t 35) (.t 33))]
def c96_9 : LC := .ops [om 36 7, oo 37 (.bin .and (.t 36) (.c (.int .u8 127))), oo 38 (.conv .u64 (.t 37)), om 8 38]
def c96_10 : LC := .ops [om 39 6, oo 40 (.bin .gtr (.t 39) (.c (.int .i64 63))), om 41 40, gm 42 41 false 8, gm 43 41 false 6, og 44 41 false (.bin .shl (.t 42) (.t 43)), gm 45 41 false 6, og 46 41 false (.bin .shr (.t 44) (.t 45)), gm 47 41 false 8, og 48 41 false (.bin .neq (.t 46) (.t 47)), pt 49 41 48, om 50 49, gm 51 50 false 7, og 52 50 false (.bin .eql (.t 51) (.c (.int .u8 0))), gm 53 50 false 52, gm 54 53 true 6, og 55 53 true (.bin .gtr (.t 54) (.c (.int .i64 0))), og 56 50 false (.pick (.t 53) (.t 55) (.c (.bool false))), pt 57 50 56]
def c96_11 : LC := .ops [om 58 0, kc 59 133 [.t 58], om 4 59]
def c96_17 : LC := .ops [om 60 5, om 61 8, om 62 6, kb 63 .shl 61 62, kb 64 .or 60 63, om 5 64]
def c96_18 : LC := .ops [om 65 7, oo 66 (.bin .lss (.t 65) (.c (.int .u8 128)))]
def c96_19 : LC := .ops [om 67 5, om 68 1, kb 69 .gtr 67 68]
def c96_20 : LC := .ops [om 70 0, kc 71 133 [.t 70], om 4 71]
def c96_26 : LC := .ops [om 72 5, om 4 72]
def c96_39 : LC := .ops [om 20 6, oo 21 (.bin .add (.t 20) (.c (.int .i64 7))), om 6 21]
def c96_45 : LC := .ops [om 73 0, kc 74 133 [.t 73], om 4 74]
def c96_50 : LC := .seq c96_0 (.seq c96_1 (.seq (.seq c96_2 (.block 0 (.loop (.seq (.seq c96_3 (.cond (.t 19) .skip (.exit 0))) (.seq (.block 1 (.seq c96_7 (.seq c96_8 (.seq c96_9 (.seq (.seq c96_10 (.cond (.t 57) (.seq c96_11 .ret) .skip)) (.seq c96_17 (.seq c96_18 (.cond (.t 66) (.seq (.seq c96_19 (.cond (.t 69) (.seq c96_20 .ret) .skip)) (.seq c96_26 .ret)) .skip)))))))) c96_39))))) (.seq c96_45 .ret)))
def c96 : LF := .mk 75 c96_50 [.tmp 4]
theorem low96 : aH Tryz.prog Tryz.f96 = some c96 := by kernel_rfl
def c97_0 : LC := .ops [om 4 0, oo 5 (.eq .ptr false (.t 4) (.c .nilp))]
def c97_5 : LC := .ops [om 6 1, oo 7 (.bin .geq (.t 6) (.c (.int .u64 128)))]
def c97_9 : LC := .ops [om 8 0, om 9 0, kk 10 9, oa 11 0 10, ol 12 11, om 13 1, oo 14 (.conv .u8 (.t 13)), oo 15 (.bin .or (.t 14) (.c (.int .u8 128))), oo 16 (.slit 1 [.t 15]), oo 17 (.app 1 1 (.t 12) (.t 16)), kk 18 8, oa 19 0 18, .mk none none (.store 1 (.t 19) (.t 17))]
def c97_10 : LC := .ops [om 20 1, oo 21 (.bin .shr (.t 20) (.c (.int .u64 7))), om 1 21]
def c97_16 : LC := .ops [om 22 0, om 23 0, kk 24 23, oa 25 0 24, ol 26 25, om 27 1, oo 28 (.conv .u8 (.t 27)), oo 29 (.slit 1 [.t 28]), oo 30 (.app 1 1 (.t 26) (.t 29)), kk 31 22, oa 32 0 31, .mk none none (.store 1 (.t 32) (.t 30))]
def c97_18 : LC := .seq (.seq c97_0 (.cond (.t 5) .ret .skip)) (.seq (.block 0 (.loop (.seq (.seq c97_5 (.cond (.t 7) .skip (.exit 0))) (.block 1 (.seq c97_9 c97_10))))) c97_16)
def c97 : LF := .mk 33 c97_18 []
theorem low97 : aH Tryz.prog Tryz.f97 = some c97 := by kernel_rfl
def c98_0 : LC := .ops [oo 2 (.mov (.c (.bool false)))]
def c98_1 : LC := .ops [om 3 0, oo 4 (.eq .ptr false (.t 3) (.c .nilp)), om 5 4, gm 6 5 false 0, og 7 5 false (.chk (.t 6)), ga 8 5 false 1 7, gl 9 5 false 8, pt 10 5 9, om 2 10]
def c98_4 : LC := .seq c98_0 (.seq c98_1 .ret)
def c98 : LF := .mk 11 c98_4 [.tmp 2]
theorem low98 : aH Tryz.prog Tryz.f98 = some c98 := by kernel_rfl
def c99_0 : LC := .ops [om 9 0, kk 10 9, oa 11 1 10, ol 12 11, oo 13 (.eq .ptr true (.t 12) (.c .nilp))]
def c99_1 : LC := .ops [om 14 0, kk 15 14, oa 16 1 15, ol 17 16, kc 18 134 [.t 17], om 8 18]
def c99_2 : LC := .ops [om 19 1, om 20 8, kk 21 19, .mk none none (.store 1 (.t 21) (.t 20))]
def c99_3 : LC := .ops [om 22 0, om 23 0, kk 24 23, oa 25 2 24, ol 26 25, om 27 26, gm 28 27 false 8, gm 29 27 false 2, og 30 27 false (.bin .lss (.t 28) (.t 29)), pt 31 27 30, om 32 31, gm 33 32 false 8, gm 34 32 false 3, og 35 32 false (.bin .gtr (.t 33) (.t 34)), pt 36 32 35, kk 37 22, oa 38 2 37, .mk none none (.store 1 (.t 38) (.t 36))]
def c99_11 : LC := .ops [om 39 0, om 40 0, kk 41 40, oa 42 2 41, ol 43 42, om 44 43, gm 45 44 false 1, og 46 44 false (.chk (.t 45)), gl 47 44 false 46, gm 48 44 false 2, og 49 44 false (.bin .lss (.t 47) (.t 48)), pt 50 44 49, om 51 50, gm 52 51 false 1, og 53 51 false (.chk (.t 52)), gl 54 51 false 53, gm 55 51 false 3, og 56 51 false (.bin .gtr (.t 54) (.t 55)), pt 57 51 56, kk 58 39, oa 59 2 58, .mk none none (.store 1 (.t 59) (.t 57))]
def c99_12 : LC := .opsX [(om 60 0, []), (kk 61 60, []), (oa 62 0 61, []), (ol 63 62, []), (om 64 1, []), (kk 65 64, []), (ol 66 65, []), (kx 67 135 [.t 63, .t 66], [])]
def c99_14 : LC := .seq (.seq c99_0 (.cond (.t 13) (.seq c99_1 (.seq c99_2 (.seq c99_3 .ret))) .skip)) (.seq c99_11 c99_12)
def c99 : LF := .mk 68 c99_14 []
theorem low99 : aH Tryz.prog Tryz.f99 = some c99 := by kernel_rfl
def c102_0 : LC := .ops [oo 2 (.mov (.c (.bool false)))]
def c102_1 : LC := .ops [om 3 0, kc 4 96 [.t 3, .c (.int .u64 1)], oo 5 (.bin .eql (.t 4) (.c (.int .u64 1))), om 2 5]
def c102_4 : LC := .seq c102_0 (.seq c102_1 .ret)
def c102 : LF := .mk 6 c102_4 [.tmp 2]
theorem low102 : aH Tryz.prog Tryz.f102 = some c102 := by kernel_rfl
def c103_0 : LC := .ops [om 4 1]
def c103_1 : LC := .ops [om 5 0, kc 6 97 [.t 5, .c (.int .u64 1)]]
def c103_7 : LC := .ops [om 7 0, kc 8 97 [.t 7, .c (.int .u64 0)]]
def c103_8 : LC := .seq (.seq c103_0 (.cond (.t 4) (.seq c103_1 .ret) .skip)) c103_7
def c103 : LF := .mk 9 c103_8 []
theorem low103 : aH Tryz.prog Tryz.f103 = some c103 := by kernel_rfl
def c104 : LF := du 1 8 none [.int .i64 0]
theorem low104 : aH Tryz.prog Tryz.f104 = some c104 := by kernel_rfl
def c105_0 : LC := .ops [ol 3 1, om 4 0, kc 5 56 [.t 3, .t 4]]
def c105 : LF := .mk 6 c105_0 []
theorem low105 : aH Tryz.prog Tryz.f105 = some c105 := by kernel_rfl
def c106 : LF := du 2 16 (some 2) [.int .u32 0, .int .i64 0]
theorem low106 : aH Tryz.prog Tryz.f106 = some c106 := by kernel_rfl
def c107_0 : LC := .opsX [(ol 3 1, []), (om 4 0, []), (kk 5 4, []), (oa 6 0 5, []), (kx 7 78 [.t 3, .t 6], [])]
def c107_1 : LC := .opsX [(ol 8 1, []), (om 9 0, []), (kk 10 9, []), (oa 11 1 10, []), (kx 12 57 [.t 8, .t 11, .c (.int .u64 40)], [])]
def c107_2 : LC := .seq c107_0 c107_1
def c107 : LF := .mk 13 c107_2 []
theorem low107 : aH Tryz.prog Tryz.f107 = some c107 := by kernel_rfl
def c108_0 : LC := .ops [oo 4 (.mov (.c (.bool false)))]
def c108_1 : LC := .ops [om 6 0, on 7 6, om 8 1, on 9 8, kb 10 .neq 7 9]
def c108_2 : LC := .ops [oo 4 (.mov (.c (.bool false)))]
def c108_8 : LC := .ops [om 11 0, on 12 11, oo 13 (.mov (.c (.int .i64 0)))]
def c108_9 : LC := .ops [kb 14 .lss 13 12]
def c108_12 : LC := .ops [om 15 13, om 5 15]
def c108_13 : LC := .opsX [(om 16 0, []), (om 17 5, []), (oo 18 (.iaddr 3 (.t 16) (.t 17)), []), (oo 19 (.load (some 3) (.t 18)), []), (om 20 1, []), (om 21 5, []), (oo 22 (.iaddr 3 (.t 20) (.t 21)), []), (oo 23 (.load (some 3) (.t 22)), []), (oo 24 (.eq (.row [.int, .int, .int]) true (.t 19) (.t 23)), [])]
def c108_14 : LC := .ops [oo 4 (.mov (.c (.bool false)))]
def c108_22 : LC := .ops [oo 25 (.bin .add (.t 13) (.c (.int .i64 1))), om 13 25]
def c108_29 : LC := .ops [oo 4 (.mov (.c (.bool true)))]
def c108_34 : LC := .seq c108_0 (.seq (.seq c108_1 (.cond (.t 10) (.seq c108_2 .ret) .skip)) (.seq (.seq c108_8 (.block 0 (.loop (.seq c108_9 (.seq (.cond (.t 14) .skip (.exit 0)) (.seq (.block 1 (.seq c108_12 (.seq c108_13 (.cond (.t 24) (.seq c108_14 .ret) .skip)))) c108_22)))))) (.seq c108_29 .ret)))
def c108 : LF := .mk 26 c108_34 [.tmp 4]
theorem low108 : aH Tryz.prog Tryz.f108 = some c108 := by kernel_rfl
def c109 : LF := du 17 240 (some 17) [.int .u32 0, .int .i64 0, .int .i64 0, .bool false, .bool false, .int .i64 0, .int .i64 0, .int .i64 0, .int .i64 0, .list (some true) true [], .list (some true) true [], .list (some true) true [], .list (some true) true [], .int .i64 0, .list (some true) true [], .list (some true) true [], .list (some true) true []]
theorem low109 : aH Tryz.prog Tryz.f109 = some c109 := by kernel_rfl
def c110_0 : LC := .opsX [(ol 3 1, []), (om 4 0, []), (kk 5 4, []), (oa 6 0 5, []), (kx 7 78 [.t 3, .t 6], [])]
def c110_1 : LC := .opsX [(ol 8 1, []), (om 9 0, []), (kk 10 9, []), (oa 11 1 10, []), (kx 12 94 [.t 8, .t 11], [])]
def c110_2 : LC := .seq c110_0 c110_1
def c110 : LF := .mk 13 c110_2 []
theorem low110 : aH Tryz.prog Tryz.f110 = some c110 := by kernel_rfl
def c111_0 : LC := .ops [om 6 0, kk 7 6, oa 8 1 7, ol 9 8, oo 10 (.eq .ptr true (.t 9) (.c .nilp))]
def c111_1 : LC := .ops [om 11 1, om 12 0, kk 13 12, oa 14 1 13, ol 15 14, om 16 2, kc 17 96 [.t 15, .t 16], oo 18 (.conv .u32 (.t 17)), kk 19 11, .mk none none (.store 1 (.t 19) (.t 18))]
def c111_7 : LC := .ops [om 20 0, om 21 0, kk 22 21, oa 23 2 22, ol 24 23, om 25 24, gm 26 25 false 1, og 27 25 false (.chk (.t 26)), gl 28 25 false 27, og 29 25 false (.conv .u64 (.t 28)), gm 30 25 false 2, og 31 25 false (.bin .gtr (.t 29) (.t 30)), pt 32 25 31, kk 33 20, oa 34 2 33, .mk none none (.store 1 (.t 34) (.t 32))]
def c111_8 : LC := .opsX [(om 35 0, []), (kk 36 35, []), (oa 37 0 36, []), (ol 38 37, []), (om 39 1, []), (kk 40 39, []), (ol 41 40, []), (oo 42 (.conv .u64 (.t 41)), []), (kx 43 97 [.t 38, .t 42], [])]
def c111_10 : LC := .seq (.seq c111_0 (.cond (.t 10) (.seq c111_1 .ret) .skip)) (.seq c111_7 c111_8)
def c111 : LF := .mk 44 c111_10 []
theorem low111 : aH Tryz.prog Tryz.f111 = some c111 := by kernel_rfl
def c112_0 : LC := .ops [oo 4 (.mov (.c (.bool false)))]
def c112_1 : LC := .ops [om 6 0, on 7 6, om 8 1, on 9 8, kb 10 .neq 7 9]
def c112_2 : LC := .ops [oo 4 (.mov (.c (.bool false)))]
def c112_8 : LC := .ops [om 11 0, on 12 11, oo 13 (.mov (.c (.int .i64 0)))]
def c112_9 : LC := .ops [kb 14 .lss 13 12]
def c112_12 : LC := .ops [om 15 13, om 5 15]
def c112_13 : LC := .opsX [(om 16 0, []), (om 17 5, []), (oo 18 (.iaddr 1 (.t 16) (.t 17)), []), (ol 19 18, []), (om 20 1, []), (om 21 5, []), (oo 22 (.iaddr 1 (.t 20) (.t 21)), []), (ol 23 22, []), (kb 24 .neq 19 23, [])]
def c112_14 : LC := .ops [oo 4 (.mov (.c (.bool false)))]
def c112_22 : LC := .ops [oo 25 (.bin .add (.t 13) (.c (.int .i64 1))), om 13 25]
def c112_29 : LC := .ops [oo 4 (.mov (.c (.bool true)))]
def c112_34 : LC := .seq c112_0 (.seq (.seq c112_1 (.cond (.t 10) (.seq c112_2 .ret) .skip)) (.seq (.seq c112_8 (.block 0 (.loop (.seq c112_9 (.seq (.cond (.t 14) .skip (.exit 0)) (.seq (.block 1 (.seq c112_12 (.seq c112_13 (.cond (.t 24) (.seq c112_14 .ret) .skip)))) c112_22)))))) (.seq c112_29 .ret)))
def c112 : LF := .mk 26 c112_34 [.tmp 4]
theorem low112 : aH Tryz.prog Tryz.f112 = some c112 := by kernel_rfl
def c113_0 : LC := .ops [oo 4 (.mov (.c (.bool false)))]
def c113_1 : LC := .ops [om 6 0, on 7 6, om 8 1, on 9 8, kb 10 .neq 7 9]
def c113_2 : LC := .ops [oo 4 (.mov (.c (.bool false)))]
def c113_8 : LC := .ops [om 11 0, on 12 11, oo 13 (.mov (.c (.int .i64 0)))]
def c113_9 : LC := .ops [kb 14 .lss 13 12]
def c113_12 : LC := .ops [om 15 13, om 5 15]
def c113_13 : LC := .opsX [(om 16 0, []), (om 17 5, []), (oo 18 (.iaddr 1 (.t 16) (.t 17)), []), (ol 19 18, []), (om 20 1, []), (om 21 5, []), (oo 22 (.iaddr 1 (.t 20) (.t 21)), []), (ol 23 22, []), (kb 24 .neq 19 23, [])]
def c113_14 : LC := .ops [oo 4 (.mov (.c (.bool false)))]
def c113_22 : LC := .ops [oo 25 (.bin .add (.t 13) (.c (.int .i64 1))), om 13 25]
def c113_29 : LC := .ops [oo 4 (.mov (.c (.bool true)))]
def c113_34 : LC := .seq c113_0 (.seq (.seq c113_1 (.cond (.t 10) (.seq c113_2 .ret) .skip)) (.seq (.seq c113_8 (.block 0 (.loop (.seq c113_9 (.seq (.cond (.t 14) .skip (.exit 0)) (.seq (.block 1 (.seq c113_12 (.seq c113_13 (.cond (.t 24) (.seq c113_14 .ret) .skip)))) c113_22)))))) (.seq c113_29 .ret)))
def c113 : LF := .mk 26 c113_34 [.tmp 4]
theorem low113 : aH Tryz.prog Tryz.f113 = some c113 := by kernel_rfl
def c114_0 : LC := .ops [oo 4 (.mov (.c (.bool false)))]
def c114_1 : LC := .ops [om 6 0, on 7 6, om 8 1, on 9 8, kb 10 .neq 7 9]
def c114_2 : LC := .ops [oo 4 (.mov (.c (.bool false)))]
def c114_8 : LC := .ops [om 11 0, on 12 11, oo 13 (.mov (.c (.int .i64 0)))]
def c114_9 : LC := .ops [kb 14 .lss 13 12]
def c114_12 : LC := .ops [om 15 13, om 5 15]
def c114_13 : LC := .opsX [(om 16 0, []), (om 17 5, []), (oo 18 (.iaddr 2 (.t 16) (.t 17)), []), (oo 19 (.load (some 2) (.t 18)), []), (om 20 1, []), (om 21 5, []), (oo 22 (.iaddr 2 (.t 20) (.t 21)), []), (oo 23 (.load (some 2) (.t 22)), []), (oo 24 (.eq (.row [.int, .int]) true (.t 19) (.t 23)), [])]
def c114_14 : LC := .ops [oo 4 (.mov (.c (.bool false)))]
def c114_22 : LC := .ops [oo 25 (.bin .add (.t 13) (.c (.int .i64 1))), om 13 25]
def c114_29 : LC := .ops [oo 4 (.mov (.c (.bool true)))]
def c114_34 : LC := .seq c114_0 (.seq (.seq c114_1 (.cond (.t 10) (.seq c114_2 .ret) .skip)) (.seq (.seq c114_8 (.block 0 (.loop (.seq c114_9 (.seq (.cond (.t 14) .skip (.exit 0)) (.seq (.block 1 (.seq c114_12 (.seq c114_13 (.cond (.t 24) (.seq c114_14 .ret) .skip)))) c114_22)))))) (.seq c114_29 .ret)))
def c114 : LF := .mk 26 c114_34 [.tmp 4]
theorem low114 : aH Tryz.prog Tryz.f114 = some c114 := by kernel_rfl
def c115_0 : LC := .ops [oo 4 (.mov (.c (.bool false)))]
def c115_1 : LC := .ops [om 6 0, on 7 6, om 8 1, on 9 8, kb 10 .neq 7 9]
def c115_2 : LC := .ops [oo 4 (.mov (.c (.bool false)))]
def c115_8 : LC := .ops [om 11 0, on 12 11, oo 13 (.mov (.c (.int .i64 0)))]
def c115_9 : LC := .ops [kb 14 .lss 13 12]
def c115_12 : LC := .ops [om 15 13, om 5 15]
def c115_13 : LC := .opsX [(om 16 0, []), (om 17 5, []), (oo 18 (.iaddr 2 (.t 16) (.t 17)), []), (oo 19 (.load (some 2) (.t 18)), []), (om 20 1, []), (om 21 5, []), (oo 22 (.iaddr 2 (.t 20) (.t 21)), []), (oo 23 (.load (some 2) (.t 22)), []), (oo 24 (.eq (.row [.int, .int]) true (.t 19) (.t 23)), [])]
def c115_14 : LC := .ops [oo 4 (.mov (.c (.bool false)))]
def c115_22 : LC := .ops [oo 25 (.bin .add (.t 13) (.c (.int .i64 1))), om 13 25]
def c115_29 : LC := .ops [oo 4 (.mov (.c (.bool true)))]
def c115_34 : LC := .seq c115_0 (.seq (.seq c115_1 (.cond (.t 10) (.seq c115_2 .ret) .skip)) (.seq (.seq c115_8 (.block 0 (.loop (.seq c115_9 (.seq (.cond (.t 14) .skip (.exit 0)) (.seq (.block 1 (.seq c115_12 (.seq c115_13 (.cond (.t 24) (.seq c115_14 .ret) .skip)))) c115_22)))))) (.seq c115_29 .ret)))
def c115 : LF := .mk 26 c115_34 [.tmp 4]
theorem low115 : aH Tryz.prog Tryz.f115 = some c115 := by kernel_rfl
def c116_0 : LC := .ops [oo 4 (.mov (.c (.bool false)))]
def c116_1 : LC := .ops [om 6 0, on 7 6, om 8 1, on 9 8, kb 10 .neq 7 9]
def c116_2 : LC := .ops [oo 4 (.mov (.c (.bool false)))]
def c116_8 : LC := .ops [om 11 0, on 12 11, oo 13 (.mov (.c (.int .i64 0)))]
def c116_9 : LC := .ops [kb 14 .lss 13 12]
def c116_12 : LC := .ops [om 15 13, om 5 15]
def c116_13 : LC := .opsX [(om 16 0, []), (om 17 5, []), (oo 18 (.iaddr 2 (.t 16) (.t 17)), []), (oo 19 (.load (some 2) (.t 18)), []), (om 20 1, []), (om 21 5, []), (oo 22 (.iaddr 2 (.t 20) (.t 21)), []), (oo 23 (.load (some 2) (.t 22)), []), (oo 24 (.eq (.row [.int, .int]) true (.t 19) (.t 23)), [])]
def c116_14 : LC := .ops [oo 4 (.mov (.c (.bool false)))]
def c116_22 : LC := .ops [oo 25 (.bin .add (.t 13) (.c (.int .i64 1))), om 13 25]
def c116_29 : LC := .ops [oo 4 (.mov (.c (.bool true)))]
def c116_34 : LC := .seq c116_0 (.seq (.seq c116_1 (.cond (.t 10) (.seq c116_2 .ret) .skip)) (.seq (.seq c116_8 (.block 0 (.loop (.seq c116_9 (.seq (.cond (.t 14) .skip (.exit 0)) (.seq (.block 1 (.seq c116_12 (.seq c116_13 (.cond (.t 24) (.seq c116_14 .ret) .skip)))) c116_22)))))) (.seq c116_29 .ret)))
def c116 : LF := .mk 26 c116_34 [.tmp 4]
theorem low116 : aH Tryz.prog Tryz.f116 = some c116 := by kernel_rfl
def c117_0 : LC := .ops [oo 4 (.mov (.c (.bool false)))]
def c117_1 : LC := .ops [om 6 0, on 7 6, om 8 1, on 9 8, kb 10 .neq 7 9]
def c117_2 : LC := .ops [oo 4 (.mov (.c (.bool false)))]
def c117_8 : LC := .ops [om 11 0, on 12 11, oo 13 (.mov (.c (.int .i64 0)))]
def c117_9 : LC := .ops [kb 14 .lss 13 12]
def c117_12 : LC := .ops [om 15 13, om 5 15]
def c117_13 : LC := .opsX [(om 16 0, []), (om 17 5, []), (oo 18 (.iaddr 1 (.t 16) (.t 17)), []), (ol 19 18, []), (om 20 1, []), (om 21 5, []), (oo 22 (.iaddr 1 (.t 20) (.t 21)), []), (ol 23 22, []), (kb 24 .neq 19 23, [])]
def c117_14 : LC := .ops [oo 4 (.mov (.c (.bool false)))]
def c117_22 : LC := .ops [oo 25 (.bin .add (.t 13) (.c (.int .i64 1))), om 13 25]
def c117_29 : LC := .ops [oo 4 (.mov (.c (.bool true)))]
def c117_34 : LC := .seq c117_0 (.seq (.seq c117_1 (.cond (.t 10) (.seq c117_2 .ret) .skip)) (.seq (.seq c117_8 (.block 0 (.loop (.seq c117_9 (.seq (.cond (.t 14) .skip (.exit 0)) (.seq (.block 1 (.seq c117_12 (.seq c117_13 (.cond (.t 24) (.seq c117_14 .ret) .skip)))) c117_22)))))) (.seq c117_29 .ret)))
def c117 : LF := .mk 26 c117_34 [.tmp 4]
theorem low117 : aH Tryz.prog Tryz.f117 = some c117 := by kernel_rfl
def c118_0 : LC := .ops [oo 2 (.box (.t 0))]
def c118_1 : LC := .opsX [(ol 4 2, []), (om 5 1, []), (kk 6 5, []), (oa 7 0 6, []), (kx 8 136 [.t 4, .t 7, .c (.int .i64 (-900)), .c (.int .i64 900)], [])]
def c118_2 : LC := .opsX [(ol 9 2, []), (om 10 1, []), (kk 11 10, []), (oa 12 1 11, []), (oo 13 (.mkfn 138 [.t 2]), []), (kx 14 137 [.t 9, .t 12, .c (.int .i64 700), .t 13], [])]
def c118_4 : LC := .seq c118_0 (.seq c118_1 c118_2)
def c118 : LF := .mk 15 c118_4 []
theorem low118 : aH Tryz.prog Tryz.f118 = some c118 := by kernel_rfl
def c119_0 : LC := .ops [oo 3 (.box (.t 0))]
def c119_1 : LC := .ops [ol 6 3, om 7 1, om 8 2, oo 9 (.mkfn 140 [.t 3]), kc 10 139 [.t 6, .t 7, .t 8, .t 9]]
def c119_2 : LC := .seq c119_0 c119_1
def c119 : LF := .mk 11 c119_2 []
theorem low119 : aH Tryz.prog Tryz.f119 = some c119 := by kernel_rfl
def c120 : LF := du 1 8 none [.int .i64 0]
theorem low120 : aH Tryz.prog Tryz.f120 = some c120 := by kernel_rfl
def c121_0 : LC := .ops [ol 3 1, om 4 0, kc 5 57 [.t 3, .t 4, .c (.int .u64 109937)]]
def c121 : LF := .mk 6 c121_0 []
theorem low121 : aH Tryz.prog Tryz.f121 = some c121 := by kernel_rfl
def c122_0 : LC := .ops [oo 2 (.box (.t 0))]
def c122_1 : LC := .opsX [(ol 4 2, []), (om 5 1, []), (kk 6 5, []), (oa 7 0 6, []), (kx 8 57 [.t 4, .t 7, .c (.int .u64 4)], [])]
def c122_2 : LC := .opsX [(ol 9 2, []), (om 10 1, []), (kk 11 10, []), (oa 12 1 11, []), (kx 13 57 [.t 9, .t 12, .c (.int .u64 999)], [])]
def c122_3 : LC := .opsX [(ol 14 2, []), (om 15 1, []), (kk 16 15, []), (oa 17 2 16, []), (kx 18 57 [.t 14, .t 17, .c (.int .u64 5000)], [])]
def c122_4 : LC := .opsX [(ol 19 2, []), (om 20 1, []), (kk 21 20, []), (oa 22 3 21, []), (kx 23 56 [.t 19, .t 22], [])]
def c122_5 : LC := .opsX [(ol 24 2, []), (om 25 1, []), (kk 26 25, []), (oa 27 4 26, []), (kx 28 141 [.t 24, .t 27], [])]
def c122_6 : LC := .opsX [(ol 29 2, []), (om 30 1, []), (kk 31 30, []), (oa 32 5 31, []), (kx 33 141 [.t 29, .t 32], [])]
def c122_7 : LC := .opsX [(ol 34 2, []), (om 35 1, []), (kk 36 35, []), (oa 37 6 36, []), (oo 38 (.mkfn 143 [.t 2]), []), (kx 39 142 [.t 34, .t 37, .c (.int .i64 400), .t 38], [])]
def c122_8 : LC := .opsX [(ol 40 2, []), (om 41 1, []), (kk 42 41, []), (oa 43 7 42, []), (kx 44 141 [.t 40, .t 43], [])]
def c122_9 : LC := .opsX [(ol 45 2, []), (om 46 1, []), (kk 47 46, []), (oa 48 8 47, []), (kx 49 57 [.t 45, .t 48, .c (.int .u64 6)], [])]
def c122_18 : LC := .seq c122_0 (.seq c122_1 (.seq c122_2 (.seq c122_3 (.seq c122_4 (.seq c122_5 (.seq c122_6 (.seq c122_7 (.seq c122_8 c122_9))))))))
def c122 : LF := .mk 50 c122_18 []
theorem low122 : aH Tryz.prog Tryz.f122 = some c122 := by kernel_rfl
def c123_0 : LC := .ops [ol 3 1, om 4 0, kc 5 56 [.t 3, .t 4]]
def c123 : LF := .mk 6 c123_0 []
theorem low123 : aH Tryz.prog Tryz.f123 = some c123 := by kernel_rfl
def c124_0 : LC := .ops [ol 3 1, om 4 0, kc 5 56 [.t 3, .t 4]]
def c124 : LF := .mk 6 c124_0 []
theorem low124 : aH Tryz.prog Tryz.f124 = some c124 := by kernel_rfl
def c125 : LF := du 3 24 (some 3) [.int .i64 0, .int .i64 0, .int .i64 0]
theorem low125 : aH Tryz.prog Tryz.f125 = some c125 := by kernel_rfl
def c126_0 : LC := .opsX [(ol 3 1, []), (om 4 0, []), (kk 5 4, []), (oa 6 0 5, []), (kx 7 56 [.t 3, .t 6], [])]
def c126_1 : LC := .opsX [(ol 8 1, []), (om 9 0, []), (kk 10 9, []), (oa 11 1 10, []), (kx 12 56 [.t 8, .t 11], [])]
def c126_2 : LC := .opsX [(ol 13 1, []), (om 14 0, []), (kk 15 14, []), (oa 16 2 15, []), (kx 17 57 [.t 13, .t 16, .c (.int .u64 10080)], [])]
def c126_4 : LC := .seq c126_0 (.seq c126_1 c126_2)
def c126 : LF := .mk 18 c126_4 []
theorem low126 : aH Tryz.prog Tryz.f126 = some c126 := by kernel_rfl
def c127 : LF := du 1 4 none [.int .u32 0]
theorem low127 : aH Tryz.prog Tryz.f127 = some c127 := by kernel_rfl
def c128_0 : LC := .ops [ol 3 1, om 4 0, kc 5 78 [.t 3, .t 4]]
def c128 : LF := .mk 6 c128_0 []
theorem low128 : aH Tryz.prog Tryz.f128 = some c128 := by kernel_rfl
def c129 : LF := du 2 16 (some 2) [.int .u32 0, .int .i64 0]
theorem low129 : aH Tryz.prog Tryz.f129 = some c129 := by kernel_rfl
def c130_0 : LC := .opsX [(ol 3 1, []), (om 4 0, []), (kk 5 4, []), (oa 6 0 5, []), (kx 7 78 [.t 3, .t 6], [])]
def c130_1 : LC := .opsX [(ol 8 1, []), (om 9 0, []), (kk 10 9, []), (oa 11 1 10, []), (kx 12 57 [.t 8, .t 11, .c (.int .u64 1000)], [])]
def c130_2 : LC := .seq c130_0 c130_1
def c130 : LF := .mk 13 c130_2 []
theorem low130 : aH Tryz.prog Tryz.f130 = some c130 := by kernel_rfl
def c131 : LF := du 2 8 (some 2) [.int .u32 0, .int .u32 0]
theorem low131 : aH Tryz.prog Tryz.f131 = some c131 := by kernel_rfl
def c132_0 : LC := .opsX [(ol 3 1, []), (om 4 0, []), (kk 5 4, []), (oa 6 0 5, []), (kx 7 78 [.t 3, .t 6], [])]
def c132_1 : LC := .opsX [(ol 8 1, []), (om 9 0, []), (kk 10 9, []), (oa 11 1 10, []), (kx 12 78 [.t 8, .t 11], [])]
def c132_2 : LC := .seq c132_0 c132_1
def c132 : LF := .mk 13 c132_2 []
theorem low132 : aH Tryz.prog Tryz.f132 = some c132 := by kernel_rfl
def c133_0 : LC := .ops [oo 2 (.mov (.c (.int .u64 0)))]
def c133_1 : LC := .ops [om 3 0, oo 4 (.eq .ptr true (.t 3) (.c .nilp))]
def c133_2 : LC := .ops [om 5 0, kk 6 5, oa 7 1 6, .mk none none (.store 1 (.t 7) (.c (.bool true)))]
def c133_6 : LC := .ops [oo 2 (.mov (.c (.int .u64 0)))]
def c133_10 : LC := .seq c133_0 (.seq (.seq c133_1 (.cond (.t 4) c133_2 .skip)) (.seq c133_6 .ret))
def c133 : LF := .mk 8 c133_10 [.tmp 2]
theorem low133 : aH Tryz.prog Tryz.f133 = some c133 := by kernel_rfl
def c134_0 : LC := .ops [oo 2 (.mov (.c (.int .i64 0)))]
def c134_1 : LC := .ops [om 4 0, kc 5 96 [.t 4, .c (.int .u64 18446744073709551615)], om 3 5]
def c134_2 : LC := .ops [om 6 3, oo 7 (.bin .shr (.t 6) (.c (.int .u64 1))), oo 8 (.conv .i64 (.t 7)), om 9 3, oo 10 (.bin .and (.t 9) (.c (.int .u64 1))), oo 11 (.conv .i64 (.t 10)), oo 12 (.un .neg (.t 11)), kb 13 .xor 8 12, om 2 13]
def c134_6 : LC := .seq c134_0 (.seq c134_1 (.seq c134_2 .ret))
def c134 : LF := .mk 14 c134_6 [.tmp 2]
theorem low134 : aH Tryz.prog Tryz.f134 = some c134 := by kernel_rfl
def c135_0 : LC := .ops [om 4 0, om 5 1, oo 6 (.conv .u64 (.t 5)), oo 7 (.bin .shl (.t 6) (.c (.int .u64 1))), om 8 1, oo 9 (.bin .shr (.t 8) (.c (.int .u64 63))), oo 10 (.conv .u64 (.t 9)), kb 11 .xor 7 10, kc 12 97 [.t 4, .t 11]]
def c135 : LF := .mk 13 c135_0 []
theorem low135 : aH Tryz.prog Tryz.f135 = some c135 := by kernel_rfl
def c136_0 : LC := .ops [om 9 0, kk 10 9, oa 11 1 10, ol 12 11, oo 13 (.eq .ptr true (.t 12) (.c .nilp))]
def c136_1 : LC := .ops [om 14 0, kk 15 14, oa 16 1 15, ol 17 16, kc 18 134 [.t 17], om 8 18]
def c136_2 : LC := .ops [om 19 1, om 20 8, kk 21 19, .mk none none (.store 1 (.t 21) (.t 20))]
def c136_3 : LC := .ops [om 22 0, om 23 0, kk 24 23, oa 25 2 24, ol 26 25, om 27 26, gm 28 27 false 8, gm 29 27 false 2, og 30 27 false (.bin .lss (.t 28) (.t 29)), pt 31 27 30, om 32 31, gm 33 32 false 8, gm 34 32 false 3, og 35 32 false (.bin .gtr (.t 33) (.t 34)), pt 36 32 35, kk 37 22, oa 38 2 37, .mk none none (.store 1 (.t 38) (.t 36))]
def c136_11 : LC := .ops [om 39 0, om 40 0, kk 41 40, oa 42 2 41, ol 43 42, om 44 43, gm 45 44 false 1, og 46 44 false (.chk (.t 45)), gl 47 44 false 46, gm 48 44 false 2, og 49 44 false (.bin .lss (.t 47) (.t 48)), pt 50 44 49, om 51 50, gm 52 51 false 1, og 53 51 false (.chk (.t 52)), gl 54 51 false 53, gm 55 51 false 3, og 56 51 false (.bin .gtr (.t 54) (.t 55)), pt 57 51 56, kk 58 39, oa 59 2 58, .mk none none (.store 1 (.t 59) (.t 57))]
def c136_12 : LC := .opsX [(om 60 0, []), (kk 61 60, []), (oa 62 0 61, []), (ol 63 62, []), (om 64 1, []), (kk 65 64, []), (ol 66 65, []), (kx 67 135 [.t 63, .t 66], [])]
def c136_14 : LC := .seq (.seq c136_0 (.cond (.t 13) (.seq c136_1 (.seq c136_2 (.seq c136_3 .ret))) .skip)) (.seq c136_11 c136_12)
def c136 : LF := .mk 68 c136_14 []
theorem low136 : aH Tryz.prog Tryz.f136 = some c136 := by kernel_rfl
def c137 : LF := du 2 16 (some 2) [.int .i64 0, .int .i64 0]
theorem low137 : aH Tryz.prog Tryz.f137 = some c137 := by kernel_rfl
def c138_0 : LC := .opsX [(ol 3 1, []), (om 4 0, []), (kk 5 4, []), (oa 6 0 5, []), (kx 7 56 [.t 3, .t 6], [])]
def c138_1 : LC := .opsX [(ol 8 1, []), (om 9 0, []), (kk 10 9, []), (oa 11 1 10, []), (kx 12 136 [.t 8, .t 11, .c (.int .i64 (-900)), .c (.int .i64 900)], [])]
def c138_2 : LC := .seq c138_0 c138_1
def c138 : LF := .mk 13 c138_2 []
theorem low138 : aH Tryz.prog Tryz.f138 = some c138 := by kernel_rfl
def c139 : LF := du 3 24 (some 3) [.int .i64 0, .int .i64 0, .int .i64 0]
theorem low139 : aH Tryz.prog Tryz.f139 = some c139 := by kernel_rfl
def c140_0 : LC := .opsX [(ol 3 1, []), (om 4 0, []), (kk 5 4, []), (oa 6 0 5, []), (kx 7 57 [.t 3, .t 6, .c (.int .u64 127)], [])]
def c140_1 : LC := .opsX [(ol 8 1, []), (om 9 0, []), (kk 10 9, []), (oa 11 1 10, []), (kx 12 57 [.t 8, .t 11, .c (.int .u64 1440)], [])]
def c140_2 : LC := .opsX [(ol 13 1, []), (om 14 0, []), (kk 15 14, []), (oa 16 2 15, []), (kx 17 57 [.t 13, .t 16, .c (.int .u64 1440)], [])]
def c140_4 : LC := .seq c140_0 (.seq c140_1 c140_2)
def c140 : LF := .mk 18 c140_4 []
theorem low140 : aH Tryz.prog Tryz.f140 = some c140 := by kernel_rfl
def c141_0 : LC := .ops [oo 2 (.box (.t 0))]
def c141_1 : LC := .ops [ol 4 2, om 5 1, oo 6 (.mkfn 144 [.t 2]), kc 7 120 [.t 4, .t 5, .c (.int .i64 400), .t 6]]
def c141_2 : LC := .seq c141_0 c141_1
def c141 : LF := .mk 8 c141_2 []
theorem low141 : aH Tryz.prog Tryz.f141 = some c141 := by kernel_rfl
def c142 : LF := du 2 16 (some 2) [.int .i64 0, .int .i64 0]
theorem low142 : aH Tryz.prog Tryz.f142 = some c142 := by kernel_rfl
def c143_0 : LC := .opsX [(ol 3 1, []), (om 4 0, []), (kk 5 4, []), (oa 6 0 5, []), (kx 7 136 [.t 3, .t 6, .c (.int .i64 (-5)), .c (.int .i64 5)], [])]
def c143_1 : LC := .opsX [(ol 8 1, []), (om 9 0, []), (kk 10 9, []), (oa 11 1 10, []), (kx 12 57 [.t 8, .t 11, .c (.int .u64 6)], [])]
def c143_2 : LC := .seq c143_0 c143_1
def c143 : LF := .mk 13 c143_2 []
theorem low143 : aH Tryz.prog Tryz.f143 = some c143 := by kernel_rfl
def c144_0 : LC := .ops [ol 3 1, om 4 0, kc 5 136 [.t 3, .t 4, .c (.int .i64 (-400)), .c (.int .i64 400)]]
def c144 : LF := .mk 6 c144_0 []
theorem low144 : aH Tryz.prog Tryz.f144 = some c144 := by kernel_rfl
end Go.Proofs.YtgefljdclekadaaGreat
